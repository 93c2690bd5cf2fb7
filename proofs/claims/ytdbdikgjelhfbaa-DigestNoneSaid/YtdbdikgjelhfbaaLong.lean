/-
  The method Long of a Hasher tells how many bytes were written.
-/
import Derived.Test.YtdbdikgjelhfbaaSummed
namespace Go.Proofs.Ytdbdikgjelhfbaa
open Go.RowKit Sha
set_option maxRecDepth 100000 in
theorem long_any (p : Nat) (d : List UInt8) (w : World) (h : Holds w p d) : Calls Try.prog 16 #[.pointer (some ⟨p, 0, none⟩)] w fun e w' => e = .returned (.int .u64 d.length) ∧ w = w' := by
  obtain ⟨al, cl, hp, _⟩ := h
  have c9 : w.cell? ⟨p, 9, none⟩ = some (.int .u64 (d.length : Int)) := hp.cell rfl
  go_enter Try.func16, Try.ntmps16
  go_wp2
  go_ret
  exact ⟨rfl, rfl⟩
set_option maxRecDepth 100000 in
theorem long_nil (w : World) : Calls Try.prog 16 #[.pointer none] w fun e w' => e = .returned (.int .u64 0) ∧ w = w' := by
  go_enter Try.func16, Try.ntmps16
  go_wp2
  go_ret
  exact ⟨rfl, rfl⟩
end Go.Proofs.Ytdbdikgjelhfbaa
