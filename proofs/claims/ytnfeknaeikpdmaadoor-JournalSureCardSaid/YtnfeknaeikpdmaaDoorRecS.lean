import Derived.Test.YtnfeknaeikpdmaaDoorRecH
namespace Go.Proofs.YtnfeknaeikpdmaaDoor.PR
open Crc Go.RowKit Go.Proofs.YtnfeknaeikpdmaaDoorW.PrintWords Go.Proofs.YtnfeknaeikpdmaaDoorW.PrintLast Go.Proofs.YtnfeknaeikpdmaaDoorW.PrintMore
set_option linter.unusedVariables false
set_option linter.unusedSimpArgs false
/-! ### rows of one text -/
theorem same_l0 (l : List ByteArray) (hl : l.length ≤ 1000000) (d : Nat) : ∀ (i : Nat), i + d = l.length → Ev (fun k => quitrentref06_Same.l0 k l l (i : Int)) true := by
  induction d with
  | zero =>
    intro i hi
    refine ⟨1, fun k hk => ?_⟩
    obtain ⟨k, rfl⟩ : ∃ m, k = m + 1 := ⟨k - 1, by omega⟩
    simp only [quitrentref06_Same.l0]
    rw [if_neg (by omega)]
  | succ d ih =>
    intro i hi
    refine Ev.step (fun k => ?_) (ih (i + 1) (by omega))
    simp only [quitrentref06_Same.l0]
    have e1 : wrap64 ((i : Int) + 1) = ((i + 1 : Nat) : Int) := by unfold wrap64; omega
    rw [if_pos (by omega), if_pos (by omega), if_pos (by omega), if_pos trivial, e1]
theorem same_ev (l : List ByteArray) (hl : l.length ≤ 1000000) : Ev (fun k => quitrentref06_Same.f k l l) true := by
  obtain ⟨K, hK⟩ := same_l0 l hl l.length 0 (by omega)
  refine ⟨K, fun k hk => ?_⟩
  show quitrentref06_Same.f k l l = _
  unfold quitrentref06_Same.f
  rw [if_pos rfl]
  exact hK k hk

end Go.Proofs.YtnfeknaeikpdmaaDoor.PR
