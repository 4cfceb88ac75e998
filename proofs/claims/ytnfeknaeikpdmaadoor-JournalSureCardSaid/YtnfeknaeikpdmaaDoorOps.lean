import Derived.Test.YtnfeknaeikpdmaaDoorJM8
import Derived.Deep.Slices
import Derived.Deep.Fields
import Derived.ChangeSame
namespace Go.Proofs.YtnfeknaeikpdmaaDoor.PR
open Go.ChangeShapes Go.WideShapes Go.Deep Go.RowKit Go.Proofs.YtnfeknaeikpdmaaDoorW.PrintWords
set_option linter.unusedVariables false
/-! ### a slice of operations that came in -/
theorem choose_list {α : Type} (P : Nat → α → Prop) : ∀ n, (∀ i, i < n → ∃ x, P i x) → ∃ l : List α, l.length = n ∧ ∀ i (hi : i < l.length), P i l[i] := by
  intro n
  induction n with
  | zero => intro _; exact ⟨[], rfl, fun i hi => absurd hi (by simp)⟩
  | succ n ih =>
    intro h
    obtain ⟨l, hl, hP⟩ := ih (fun i hi => h i (by omega))
    obtain ⟨x, hx⟩ := h n (by omega)
    refine ⟨l ++ [x], by simp [hl], fun i hi => ?_⟩
    by_cases c : i < l.length
    · rw [List.getElem_append_left c]; exact hP i c
    · have hi2 : i = n := by simp at hi; omega
      subst hi2
      rw [List.getElem_append_right (by omega)]
      simp only [List.getElem_singleton]
      exact hx
theorem one_of (l : List Value) (j : Nat) (hj : j < l.length) : (l.drop j).take 1 = [l[j]] := by
  rw [List.drop_eq_getElem_cons hj]
  rfl
theorem open_ops {H : Type} {enc : TypeId × Value → H} {W : World} {A : Option Addr} {len cap : Nat} {d : DataW H} {p : List MemPlace} (h : DataW.Trod enc Tryd.prog W 0 (fun _ => true) true 41 (.slice A len cap) d p) : ∃ l : List Opv, l.length = len ∧ OpsAt W A l := by
  obtain ⟨fuel, hf⟩ := h
  have hC : Tryd.prog.cellsOf 50 = 4 := by kernel_rfl
  have hI : Tryd.prog.cellsOf 3 = 1 := by kernel_rfl
  have hS : Tryd.prog.cellsOf 9 = 1 := by kernel_rfl
  rcases open_slice Tryd.underlying41 hf with ⟨hcs, _⟩ | ⟨a, len', cap', m, n, D, Pl, hcs, hb, hl, hm, hmm, hx, hi⟩
  · simp [Value.cells] at hcs
    obtain ⟨rfl, rfl, rfl⟩ := hcs
    exact ⟨[], rfl, by simp, fun h => absurd h (by simp)⟩
  · simp [Value.cells] at hcs
    obtain ⟨rfl, rfl, rfl⟩ := hcs
    simp only [if_true] at hmm
    obtain ⟨l, hlen, hP⟩ := choose_list (fun i (x : Opv) => W.cell? (a.add (i * 4 + 0)) = some (.int .i64 x.d) ∧ W.cell? (a.add (i * 4 + 1)) = some (.int .i64 x.n) ∧ W.cell? (a.add (i * 4 + 2)) = some (.int .i64 x.t) ∧ W.cell? (a.add (i * 4 + 3)) = some (.string x.b)) len (fun i hil => by
      obtain ⟨cs', hc, ht'⟩ := hi i (by omega)
      rw [hC] at hc
      obtain ⟨ys, n', _, _, _, hyl, hg⟩ := DataW.trod_struct Tryd.underlying50 ht'
      obtain ⟨_, hcl, hat⟩ := World.cells?_some hc
      have cell : ∀ j (hj : j < 4), W.cell? (a.add (i * 4 + j)) = some (cs'[j]'(by omega)) := fun j hj => by
        rw [← Go.Deep.add_add, hat j hj]
        exact List.getElem?_eq_getElem (by omega)
      have hyl4 : ys.length = 4 := hyl
      have t0 : DataW.trod enc Tryd.prog W 0 (fun _ => true) true n' 3 ((cs'.drop 0).take (Tryd.prog.cellsOf 3)) = some (ys[0]'(by omega)) := (hg 0 _ rfl).trans (List.getElem?_eq_getElem (show 0 < ys.length by omega))
      have t1 : DataW.trod enc Tryd.prog W 0 (fun _ => true) true n' 3 ((cs'.drop 1).take (Tryd.prog.cellsOf 3)) = some (ys[1]'(by omega)) := (hg 1 _ rfl).trans (List.getElem?_eq_getElem (show 1 < ys.length by omega))
      have t2 : DataW.trod enc Tryd.prog W 0 (fun _ => true) true n' 3 ((cs'.drop 2).take (Tryd.prog.cellsOf 3)) = some (ys[2]'(by omega)) := (hg 2 _ rfl).trans (List.getElem?_eq_getElem (show 2 < ys.length by omega))
      have t3 : DataW.trod enc Tryd.prog W 0 (fun _ => true) true n' 9 ((cs'.drop 3).take (Tryd.prog.cellsOf 9)) = some (ys[3]'(by omega)) := (hg 3 _ rfl).trans (List.getElem?_eq_getElem (show 3 < ys.length by omega))
      rw [hI, one_of cs' 0 (by omega)] at t0
      rw [hI, one_of cs' 1 (by omega)] at t1
      rw [hI, one_of cs' 2 (by omega)] at t2
      rw [hS, one_of cs' 3 (by omega)] at t3
      have e0 := cell 0 (by omega)
      have e1 := cell 1 (by omega)
      have e2 := cell 2 (by omega)
      have e3 := cell 3 (by omega)
      generalize cs'[0] = v0 at *
      generalize cs'[1] = v1 at *
      generalize cs'[2] = v2 at *
      generalize cs'[3] = v3 at *
      obtain ⟨n0, q0, _, _⟩ := DataW.trod_int Tryd.underlying3 t0
      obtain ⟨n1, q1, _, _⟩ := DataW.trod_int Tryd.underlying3 t1
      obtain ⟨n2, q2, _, _⟩ := DataW.trod_int Tryd.underlying3 t2
      obtain ⟨b3, q3, _, _⟩ := DataW.trod_string Tryd.underlying9 t3
      simp only [List.cons.injEq, and_true] at q0 q1 q2 q3
      subst q0
      subst q1
      subst q2
      subst q3
      exact ⟨⟨n0, n1, n2, b3⟩, e0, e1, e2, e3⟩)
    refine ⟨l, hlen, by rw [hlen]; exact Nat.le_trans hl hm, fun hp => ?_⟩
    obtain ⟨ab, ao, sp⟩ := a
    have hsp : sp = none := by
      have h0 := (hP 0 hp).1
      simp only [Nat.zero_mul, Nat.add_zero] at h0
      unfold World.cell? at h0
      split at h0
      · cases sp with
        | none => rfl
        | some z => simp [Addr.add] at h0
      · cases h0
    subst hsp
    refine ⟨ab, ao, rfl, fun i hil => ?_⟩
    have := hP i hil
    simp only [WideShapes.add_plain] at this
    exact this
end Go.Proofs.YtnfeknaeikpdmaaDoor.PR
