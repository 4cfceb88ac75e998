import Derived.Test.YtnfeknaeikpdmaaDoorOps
import Derived.OpenShut
namespace Go.Proofs.YtnfeknaeikpdmaaDoor.PR
open Go.ChangeShapes Go.WideShapes Go.Deep Go.RowKit Go.Proofs.YtnfeknaeikpdmaaDoorW.PrintWords
set_option linter.unusedVariables false
/-! ### an array of two arrays of two numbers that came in -/
theorem okWide_array {P : Program} {W : World} {r : Reach} {base : Nat} {t e : TypeId} {n : Nat} {v : Value} (ht : P.underlying t = some (.array n e)) (h : Value.okWide P W r base t v) : ∃ cs, v = .agg cs ∧ cs.size = P.cellsOf t := by
  unfold Value.okWide at h
  rw [ht] at h
  obtain ⟨cs, e, hsz, _⟩ := h
  exact ⟨cs, e, hsz⟩
set_option maxRecDepth 100000 in
theorem fuses_agg {W : World} {r : Reach} {base : Nat} {v : Value} (h : Value.okWide Tryd.prog W r base 68 v) : ∃ c0 c1 c2 c3 : Value, v = .agg #[c0, c1, c2, c3] := by
  obtain ⟨cs, rfl, hsz⟩ := okWide_array Tryd.underlying68 h
  have hc : Tryd.prog.cellsOf 68 = 4 := by kernel_rfl
  have h4 : cs.size = 4 := by rw [hsz, hc]
  obtain ⟨l⟩ := cs
  match l, h4 with
  | [c0, c1, c2, c3], _ => exact ⟨c0, c1, c2, c3, rfl⟩
set_option maxRecDepth 100000 in
theorem int_bound {H : Type} {enc : TypeId × Value → H} {W : World} {n : Nat} {c : Value} {y : DataW H × List MemPlace} (h : DataW.trod enc Tryd.prog W 0 (fun _ => true) true n 3 [c] = some y) : ∃ i : Int, c = .int .i64 i ∧ i ≤ 9223372036854775807 := by
  obtain ⟨i, e, _, wf⟩ := DataW.trod_int Tryd.underlying3 h
  obtain rfl : c = .int .i64 i := by simpa using e
  refine ⟨i, rfl, ?_⟩
  simp [Lit.wf, IntKind.min, IntKind.max, IntKind.signed, IntKind.bits] at wf
  exact wf.2
set_option maxRecDepth 100000 in
theorem open_fuses {H : Type} {enc : TypeId × Value → H} {W : World} {c0 c1 c2 c3 : Value} {d : DataW H} {p : List MemPlace} (h : DataW.Trod enc Tryd.prog W 0 (fun _ => true) true 68 (.agg #[c0, c1, c2, c3]) d p) :
    ∃ f0 f1 f2 f3 : Int, c0 = .int .i64 f0 ∧ c1 = .int .i64 f1 ∧ c2 = .int .i64 f2 ∧ c3 = .int .i64 f3 ∧ f0 ≤ 9223372036854775807 ∧ f2 ≤ 9223372036854775807 := by
  obtain ⟨fuel, hf⟩ := h
  have s67 : Tryd.prog.cellsOf 67 = 2 := by kernel_rfl
  have s3 : Tryd.prog.cellsOf 3 = 1 := by kernel_rfl
  obtain ⟨xs, m, _, _, _, hx, hg⟩ := DataW.trod_array Tryd.underlying68 hf
  rw [s67] at hg
  have g0 := (hg 0 (by omega)).trans (List.getElem?_eq_getElem (show 0 < xs.length by omega))
  have g1 := (hg 1 (by omega)).trans (List.getElem?_eq_getElem (show 1 < xs.length by omega))
  obtain ⟨ys, m2, _, _, _, hy, hg2⟩ := DataW.trod_array Tryd.underlying67 g0
  obtain ⟨zs, m3, _, _, _, hz, hg3⟩ := DataW.trod_array Tryd.underlying67 g1
  rw [s3] at hg2 hg3
  have a0 := (hg2 0 (by omega)).trans (List.getElem?_eq_getElem (show 0 < ys.length by omega))
  have a1 := (hg2 1 (by omega)).trans (List.getElem?_eq_getElem (show 1 < ys.length by omega))
  have b0 := (hg3 0 (by omega)).trans (List.getElem?_eq_getElem (show 0 < zs.length by omega))
  have b1 := (hg3 1 (by omega)).trans (List.getElem?_eq_getElem (show 1 < zs.length by omega))
  obtain ⟨f0, e0, l0⟩ := int_bound (c := c0) a0
  obtain ⟨f1, e1, _⟩ := int_bound (c := c1) a1
  obtain ⟨f2, e2, l2⟩ := int_bound (c := c2) b0
  obtain ⟨f3, e3, _⟩ := int_bound (c := c3) b1
  exact ⟨f0, f1, f2, f3, e0, e1, e2, e3, l0, l2⟩
end Go.Proofs.YtnfeknaeikpdmaaDoor.PR
