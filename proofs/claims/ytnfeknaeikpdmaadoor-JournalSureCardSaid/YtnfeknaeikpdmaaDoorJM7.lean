import Derived.Test.YtnfeknaeikpdmaaDoorJM6
import Derived.Test.YtnfeknaeikpdmaaDoorRecS
import Derived.Test.YtnfeknaeikpdmaaDoorPR5
namespace Go.Proofs.YtnfeknaeikpdmaaDoor.PR
open Go.RowKit Go.Proofs.YtnfeknaeikpdmaaDoorW.PrintWords Go.Proofs.YtnfeknaeikpdmaaDoorW.PrintLast Go.Proofs.YtnfeknaeikpdmaaDoorW.PrintMore
attribute [local go_sem] max2_int min2_int max_two min_two max_three min_three max_four min_four
set_option linter.unusedVariables false
set_option linter.unusedSimpArgs false
structure Opv where
  d : Int
  n : Int
  t : Int
  b : ByteArray
/-- A row of operations that came in. -/
def OpsAt (w : World) (A : Option Addr) (l : List Opv) : Prop :=
  l.length ≤ 9223372036854775807 ∧ (0 < l.length → ∃ b o, A = some ⟨b, o, none⟩ ∧ ∀ i (hi : i < l.length), w.cell? ⟨b, o + i * 4, none⟩ = some (.int .i64 l[i].d) ∧ w.cell? ⟨b, o + i * 4 + 1, none⟩ = some (.int .i64 l[i].n) ∧ w.cell? ⟨b, o + i * 4 + 2, none⟩ = some (.int .i64 l[i].t) ∧ w.cell? ⟨b, o + i * 4 + 3, none⟩ = some (.string l[i].b))
theorem OpsAt.below {w w1 : World} {A : Option Addr} {l : List Opv} (h : OpsAt w A l) (hb : Below w.heap.size w w1) : OpsAt w1 A l := by
  refine ⟨h.1, fun hp => ?_⟩
  obtain ⟨b, o, e, hc⟩ := h.2 hp
  refine ⟨b, o, e, fun i hi => ?_⟩
  obtain ⟨c0, c1, c2, c3⟩ := hc i hi
  have hl : b < w.heap.size := World.block_lt_of_cell? w _ c0
  exact ⟨(hb.cell (p := ⟨b, o + i * 4, none⟩) hl).trans c0, (hb.cell (p := ⟨b, o + i * 4 + 1, none⟩) hl).trans c1, (hb.cell (p := ⟨b, o + i * 4 + 2, none⟩) hl).trans c2, (hb.cell (p := ⟨b, o + i * 4 + 3, none⟩) hl).trans c3⟩
theorem info50 : (Tryd.prog.info? 50).map (·.size) = some 4 := by kernel_rfl
def SomeInt (w : World) (e : Ending) (w' : World) : Prop := (∃ r : Int, e = .returned (.int .i64 r)) ∧ w' = w
set_option maxHeartbeats 1000000 in
set_option maxRecDepth 100000 in
theorem size_calls (w : World) (A : Option Addr) (l : List Opv) (c : Nat) (h : OpsAt w A l) :
    Calls Tryd.prog 23 #[.slice A l.length c] w (SomeInt w) := by
  obtain ⟨hm, hc⟩ := h
  go_enter Tryd.func23, Tryd.ntmps23
  go_wp2
  go_loopg [3, 4] l.length (fun gq v3 v4 wc => ∃ (i : Nat) (n : Int), v3 = .int .i64 n ∧ v4 = .int .i64 i ∧ Aside0 (i + gq = l.length) ∧ Aside0 (wc = w))
  case atStart => exact ⟨0, 0, rfl, rfl, ⟨by omega⟩, ⟨rfl⟩⟩
  case round =>
    obtain ⟨i, n, rfl, rfl, HI, HW⟩ := hrel
    have hI := HI.out
    by_cases hlt : i < l.length
    · obtain ⟨ab, ao, rfl, hcell⟩ := hc (by omega)
      obtain ⟨e0, e1, e2, e3⟩ := hcell i hlt
      rw [← HW.out] at e3
      clear hc hcell e0 e1 e2
      by_cases hn : n < 100000
      · have hnb : decide (n < 100000) = true := decide_eq_true hn
        clear hn
        generalize l[i].b = x at *
        go_wp2
        go_roundg (gk - 1)
        case measure => omega
        case rel => exact ⟨i + 1, _, rfl, by go_num, ⟨by omega⟩, HW⟩
      · have hnb : decide (n < 100000) = false := decide_eq_false hn
        clear hn
        go_wp2
        go_ret
        exact ⟨⟨_, rfl⟩, HW.out⟩
    · clear hc
      go_wp2
      go_ret
      exact ⟨⟨_, rfl⟩, HW.out⟩

/-! ### Open, whole -/
def openP (s : Sto) : Option (Nat × Nat × List ByteArray) × Sto × Int :=
  if topOk (blk s.F 0) = false then (none, s, 8)
  else match scan s.F (eN s.n (bt (blk s.F 0) 0).toNat) (s.n + 1) (fN s.n (bt (blk s.F 0) 0).toNat) [] with
    | none => (none, s, 8)
    | some (nx, l) =>
      if l = [] then
        if (appendP s (bt (blk s.F 0) 0).toNat nx [] (⟨#[]⟩ : ByteArray)).2.2.2.2 = 0 then (some ((bt (blk s.F 0) 0).toNat, (appendP s (bt (blk s.F 0) 0).toNat nx [] (⟨#[]⟩ : ByteArray)).2.1, (appendP s (bt (blk s.F 0) 0).toNat nx [] (⟨#[]⟩ : ByteArray)).2.2.1), (appendP s (bt (blk s.F 0) 0).toNat nx [] (⟨#[]⟩ : ByteArray)).1, 0)
        else (none, (appendP s (bt (blk s.F 0) 0).toNat nx [] (⟨#[]⟩ : ByteArray)).1, (appendP s (bt (blk s.F 0) 0).toNat nx [] (⟨#[]⟩ : ByteArray)).2.2.2.2)
      else (some ((bt (blk s.F 0) 0).toNat, nx, l), s, 0)
def OpenPost (w : World) (p g : Nat) (r : Option (Nat × Nat × List ByteArray) × Sto × Int) (e : Ending) (w' : World) : Prop :=
  match r.1 with
  | some (h, nx, l) => e = .returned (.tuple #[.pointer (some ⟨w.heap.size, 0, none⟩), .int .i64 0]) ∧ ∃ v, JAt w' w.heap.size p g w.heap.size v r.2.1 ⟨h, nx, false⟩ l ∧ Upd (fun k => k = p ∨ k = g) w w'
  | none => e = .returned (.tuple #[.pointer none, .int .i64 r.2.2]) ∧ StoAt w' p g r.2.1 ∧ Upd (fun k => k = p ∨ k = g) w w'
theorem appendP_br (s : Sto) (h nx : Nat) (l : List ByteArray) (b : ByteArray) (he : (appendP s h nx l b).2.2.2.2 = 0) : (appendP s h nx l b).2.2.2.1 = false := by
  unfold appendP at he ⊢
  by_cases c : 40000 < b.size ∨ eN s.n h < nx + many b.size
  · rw [if_pos c]
  · rw [if_neg c] at he ⊢
    by_cases c2 : (runSteps s (laySteps s b nx (eN s.n h))).2 = 0
    · rw [if_pos c2]
    · rw [if_neg c2] at he
      exact absurd he c2
theorem open_calls (w : World) (p g : Nat) (s : Sto) (hs : StoAt w p g s) (hok : s.ok) (hn : 1 ≤ s.n) :
    Calls Tryd.prog 25 #[.pointer (some ⟨p, 0, none⟩)] w (OpenPost w p g (openP s)) := by
  unfold openP
  by_cases ht : topOk (blk s.F 0) = false
  · rw [if_pos ht]
    refine (open_top w p g s hs hn ht).mono ?_
    rintro e w' ⟨rfl, hb⟩
    exact ⟨rfl, hs.keep (Upd.ofBelow (S := fun _ => False) hb) (fun h => h) (fun h => h), Upd.ofBelow hb⟩
  · rw [if_neg ht]
    have ht' : topOk (blk s.F 0) = true := by simpa using ht
    have hb0 := bt_nonneg (blk s.F 0) 0
    have hb1 : bt (blk s.F 0) 0 ≤ 1 := by
      unfold topOk at ht'
      exact of_decide_eq_true (Bool.and_eq_true_iff.1 ht').1
    obtain ⟨h, hh⟩ := Int.eq_ofNat_of_zero_le hb0
    have hhl : h ≤ 1 := by omega
    have e : (bt (blk s.F 0) 0).toNat = h := by rw [hh]; rfl
    rw [e]
    rcases hsc : scan s.F (eN s.n h) (s.n + 1) (fN s.n h) [] with _ | ⟨nx, l⟩
    · refine (open_bad w p g s hs hn h hhl ht' hh hsc).mono ?_
      rintro e w' ⟨rfl, hb⟩
      exact ⟨rfl, hs.keep (Upd.ofBelow (S := fun _ => False) hb) (fun h => h) (fun h => h), Upd.ofBelow hb⟩
    · dsimp only
      by_cases cl : l = []
      · subst cl
        rw [if_pos rfl]
        have hbr := appendP_br s h nx [] (⟨#[]⟩ : ByteArray)
        rcases hA : appendP s h nx [] (⟨#[]⟩ : ByteArray) with ⟨s', nx', l', br, er⟩
        rw [hA] at hbr
        dsimp only at hbr ⊢
        by_cases ce : er = 0
        · rw [if_pos ce]
          refine (open_new w p g s hs hn h hhl ht' hh nx hsc hok s' nx' l' br er hA ce).mono ?_
          rintro e w' ⟨rfl, v, hj, hu⟩
          rw [hbr ce] at hj
          exact ⟨rfl, v, hj, hu⟩
        · rw [if_neg ce]
          refine (open_newf w p g s hs hn h hhl ht' hh nx hsc hok s' nx' l' br er hA ce).mono ?_
          rintro e w' ⟨rfl, hst, hu⟩
          exact ⟨rfl, hst, hu⟩
      · rw [if_neg cl]
        refine (open_go w p g s hs hn h hhl ht' hh nx l hsc cl).mono ?_
        rintro e w' ⟨rfl, v, ho⟩
        exact ⟨rfl, v, ho.at_, Upd.ofBelow ho.bel⟩
/-! ### a journal that holds what it tells -/
structure GoodP (s : Sto) (h nx : Nat) (l : List ByteArray) : Prop where
  n3 : 3 ≤ s.n
  ok : s.ok
  len : s.F.length = 64 * s.n
  inv : Inv (blk s.F) s.n h l nx
theorem recsAt_len (C : Nat → ByteArray) : ∀ l at_ nx, recsAt C at_ l nx → at_ + l.length ≤ nx := by
  intro l
  induction l with
  | nil => intro a n h; have : a = n := h; simp; omega
  | cons b r ih => intro a n h; have := ih _ _ h.2.2; have := many_pos b.size; simp only [List.length_cons]; omega
theorem GoodP.short {s : Sto} {h nx : Nat} {l : List ByteArray} (hG : GoodP s h nx l) (hn : s.n ≤ 4096) : 1 ≤ l.length ∧ l.length ≤ 4096 ∧ nx ≤ eN s.n h ∧ eN s.n h ≤ s.n := by
  have h1 := recsAt_len _ _ _ _ hG.inv.recs
  have h2 := hG.inv.le
  have h3 := eN_le s.n h (by have := hG.n3; omega) hG.inv.hh
  have h4 := List.length_pos_iff.mpr hG.inv.some
  omega
theorem runSteps_ok (s : Sto) (xs : List (Int × ByteArray)) (h : s.ok) : (runSteps s xs).1.ok := by
  induction xs generalizing s with
  | nil => exact h
  | cons x r ih =>
    rw [runSteps_cons]
    by_cases c : (s.write x.1 x.2).2 = 0
    · rw [if_pos c]; exact ih _ (Sto.write_ok h _ _)
    · rw [if_neg c]; exact Sto.write_ok h _ _
/-- Append, whatever the power does: what holds behind it. -/
theorem GoodP.append {s : Sto} {h nx : Nat} {l : List ByteArray} (hG : GoodP s h nx l) (b : ByteArray) :
    appendP s h nx l b = (s, nx, l, false, 4) ∨
    (∃ s', appendP s h nx l b = (s', nx + many b.size, l ++ [b], false, 0) ∧ GoodP s' h (nx + many b.size) (l ++ [b]) ∧ s'.n = s.n) ∨
    (∃ s' br, appendP s h nx l b = (s', nx, l, br, 9) ∧ (GoodP s' h nx l ∨ GoodP s' h (nx + many b.size) (l ++ [b])) ∧ s'.n = s.n) := by
  unfold appendP
  by_cases c : 40000 < b.size ∨ eN s.n h < nx + many b.size
  · exact .inl (if_pos c)
  · right
    rw [if_neg c]
    obtain ⟨h1, h2, h3, h4⟩ := append_content s h nx l b hG.n3 hG.len hG.inv (by omega) (by omega)
    have h5 := runSteps_ok s (laySteps s b nx (eN s.n h)) hG.ok
    generalize runSteps s (laySteps s b nx (eN s.n h)) = r at *
    obtain ⟨s', er⟩ := r
    dsimp only at h1 h2 h3 h4 h5 ⊢
    have n3 := hG.n3
    rw [← h1] at h2 h4
    by_cases c2 : er = 0
    · subst c2
      rw [if_pos rfl]
      left
      rcases h4 with h4 | h4
      · exact absurd h4.1 (by decide)
      · exact ⟨s', rfl, ⟨by omega, h5, h2, h4⟩, h1⟩
    · rw [if_neg c2]
      obtain rfl := h3.resolve_left c2
      right
      exact ⟨s', true, rfl, h4.elim (fun h => .inl ⟨by omega, h5, h2, h.2⟩) (fun h => .inr ⟨by omega, h5, h2, h⟩), h1⟩
theorem GoodP.snap {s : Sto} {h nx : Nat} {l : List ByteArray} (hG : GoodP s h nx l) (b : ByteArray) :
    snapP s h nx l b = (s, h, nx, l, false, 4) ∨
    (∃ s', snapP s h nx l b = (s', 1 - h, fN s.n (1 - h) + many b.size, [b], false, 0) ∧ GoodP s' (1 - h) (fN s.n (1 - h) + many b.size) [b] ∧ s'.n = s.n) ∨
    (∃ s' br, snapP s h nx l b = (s', h, nx, l, br, 9) ∧ (GoodP s' h nx l ∨ GoodP s' (1 - h) (fN s.n (1 - h) + many b.size) [b]) ∧ s'.n = s.n) := by
  unfold snapP
  by_cases c : 40000 < b.size ∨ eN s.n (1 - h) < fN s.n (1 - h) + many b.size
  · exact .inl (if_pos c)
  · right
    rw [if_neg c]
    obtain ⟨h1, h2, h3, h4⟩ := snap_content s h nx l b hG.n3 hG.len hG.inv (by omega) (by omega)
    have h5 := runSteps_ok s (snapSteps s b (1 - h)) hG.ok
    generalize runSteps s (snapSteps s b (1 - h)) = r at *
    obtain ⟨s', er⟩ := r
    dsimp only at h1 h2 h3 h4 h5 ⊢
    have n3 := hG.n3
    have h2' : s'.F.length = 64 * s'.n := by rw [h1]; exact h2
    by_cases c2 : er = 0
    · subst c2
      rw [if_pos rfl]
      left
      rcases h4 with h4 | h4
      · exact absurd h4.1 (by decide)
      · exact ⟨s', rfl, ⟨by omega, h5, h2', by rw [h1]; exact h4⟩, h1⟩
    · rw [if_neg c2]
      obtain rfl := h3.resolve_left c2
      right
      exact ⟨s', true, rfl, h4.elim (fun h => .inl ⟨by omega, h5, h2', by rw [h1]; exact h.2⟩) (fun h => .inr ⟨by omega, h5, h2', by rw [h1]; exact h⟩), h1⟩
theorem topB_ok (h : Nat) (hh : h ≤ 1) : bt (topB h) 0 = (h : Int) ∧ topOk (topB h) = true := by
  rcases (by omega : h = 0 ∨ h = 1) with rfl | rfl <;> exact ⟨by decide +kernel, by decide +kernel⟩
theorem GoodP.opened {s : Sto} {h nx : Nat} {l : List ByteArray} (hG : GoodP s h nx l) (hn : s.n ≤ 4096) : openP s = (some (h, nx, l), s, 0) := by
  have hI := hG.inv
  have h1 := hG.short hn
  have h3 := eN_le s.n h (by have := hG.n3; omega) hI.hh
  obtain ⟨t1, t2⟩ := topB_ok h hI.hh
  unfold openP
  rw [hI.top, t1, Int.toNat_natCast, if_neg (by rw [t2]; decide)]
  have hs := scan_recs s.F (eN s.n h) nx hI.le (fun hlt => hI.head (blk_size s.F nx s.n hG.len (by omega)) hlt) l (fN s.n h) (s.n + 1) [] (by omega) hI.recs
  rw [hs, List.nil_append]
  dsimp only
  rw [if_neg hI.some]

theorem laySteps_mem (s : Sto) (b : ByteArray) (at_ n : Nat) (he : at_ + many b.size ≤ n) : ∀ x ∈ laySteps s b at_ n, ∃ i : Nat, x.1 = (i : Int) ∧ i < n ∧ x.2.size = 64 := by
  intro x hx
  have hp := many_pos b.size
  unfold laySteps at hx
  rcases List.mem_append.1 hx with hx | hx
  · obtain ⟨i, e, _, h2, h3, _⟩ := preSteps_mem s b at_ n he x hx
    exact ⟨i, e, h2, h3⟩
  · obtain rfl := List.mem_singleton.1 hx
    exact ⟨at_, rfl, by omega, full_blk_size b true 0 hp⟩
theorem snapSteps_mem (s : Sto) (b : ByteArray) (o : Nat) (hn : 1 ≤ s.n) (ho : o ≤ 1) (he : fN s.n o + many b.size ≤ eN s.n o) : ∀ x ∈ snapSteps s b o, ∃ i : Nat, x.1 = (i : Int) ∧ i < s.n ∧ x.2.size = 64 := by
  intro x hx
  have hl := eN_le s.n o hn ho
  unfold snapSteps at hx
  rcases List.mem_append.1 hx with hx | hx
  · obtain ⟨i, e, h2, h3⟩ := laySteps_mem s b _ _ he x hx
    exact ⟨i, e, by omega, h3⟩
  · obtain rfl := List.mem_singleton.1 hx
    exact ⟨0, rfl, by omega, topB_size o⟩
theorem GoodP.append_live {s : Sto} {h nx : Nat} {l : List ByteArray} (hG : GoodP s h nx l) (hv : s.live) (b : ByteArray) :
    (appendP s h nx l b = (s, nx, l, false, 4) ∧ (40000 < b.size ∨ eN s.n h < nx + many b.size)) ∨
    (∃ s', appendP s h nx l b = (s', nx + many b.size, l ++ [b], false, 0) ∧ GoodP s' h (nx + many b.size) (l ++ [b]) ∧ s'.n = s.n ∧ s'.live ∧ nx + many b.size ≤ eN s.n h) := by
  have n3 := hG.n3
  by_cases c : 40000 < b.size ∨ eN s.n h < nx + many b.size
  · left; refine ⟨?_, c⟩; unfold appendP; exact if_pos c
  · right
    have hl := eN_le s.n h (by omega) hG.inv.hh
    obtain ⟨r1, r2⟩ := runSteps_live s.n (laySteps s b nx (eN s.n h)) s rfl hv (fun x hx => by
      obtain ⟨i, e, h2, h3⟩ := laySteps_mem s b nx (eN s.n h) (by omega) x hx
      exact ⟨i, e, by omega, h3⟩)
    rcases hG.append b with h1 | ⟨s', h1, h2, h3⟩ | ⟨s', br, h1, _, _⟩
    · unfold appendP at h1
      rw [if_neg c, if_pos r1] at h1
      have := congrArg (fun x => x.2.2.2.2) h1
      exact absurd this (by simp)
    · refine ⟨s', h1, h2, h3, ?_, by omega⟩
      unfold appendP at h1
      rw [if_neg c, if_pos r1] at h1
      have e : (runSteps s (laySteps s b nx (eN s.n h))).1 = s' := congrArg (fun x => x.1) h1
      rw [← e]; exact r2
    · unfold appendP at h1
      rw [if_neg c, if_pos r1] at h1
      have := congrArg (fun x => x.2.2.2.2) h1
      exact absurd this (by simp)
theorem GoodP.snap_live {s : Sto} {h nx : Nat} {l : List ByteArray} (hG : GoodP s h nx l) (hv : s.live) (b : ByteArray) :
    (snapP s h nx l b = (s, h, nx, l, false, 4) ∧ (40000 < b.size ∨ eN s.n (1 - h) < fN s.n (1 - h) + many b.size)) ∨
    (∃ s', snapP s h nx l b = (s', 1 - h, fN s.n (1 - h) + many b.size, [b], false, 0) ∧ GoodP s' (1 - h) (fN s.n (1 - h) + many b.size) [b] ∧ s'.n = s.n ∧ s'.live) := by
  have n3 := hG.n3
  by_cases c : 40000 < b.size ∨ eN s.n (1 - h) < fN s.n (1 - h) + many b.size
  · left; refine ⟨?_, c⟩; unfold snapP; exact if_pos c
  · right
    obtain ⟨r1, r2⟩ := runSteps_live s.n (snapSteps s b (1 - h)) s rfl hv (snapSteps_mem s b (1 - h) (by omega) (by omega) (by omega))
    rcases hG.snap b with h1 | ⟨s', h1, h2, h3⟩ | ⟨s', br, h1, _, _⟩
    · unfold snapP at h1
      rw [if_neg c, if_pos r1] at h1
      have := congrArg (fun x => x.2.2.2.2.2) h1
      exact absurd this (by simp)
    · refine ⟨s', h1, h2, h3, ?_⟩
      unfold snapP at h1
      rw [if_neg c, if_pos r1] at h1
      have e : (runSteps s (snapSteps s b (1 - h))).1 = s' := congrArg (fun x => x.1) h1
      rw [← e]; exact r2
    · unfold snapP at h1
      rw [if_neg c, if_pos r1] at h1
      have := congrArg (fun x => x.2.2.2.2.2) h1
      exact absurd this (by simp)
/-- A store of blocks that are all 0. -/
def freshS (n : Nat) : Sto := ⟨List.replicate (64 * n) 0, n, -1, 0, false, 0⟩
theorem blk_zeros (n i : Nat) (hi : i < n) : blk (List.replicate (64 * n) 0) i = zeroB := by
  unfold blk zeroB
  congr 1
  rw [List.drop_replicate, List.take_replicate]
  congr 1
  omega
theorem topB_zero : topB 0 = zeroB := by decide +kernel
theorem headR_zero : headR zeroB = (false, 0, 0) := by
  have hb : bt zeroB 0 = 0 := by decide +kernel
  unfold headR
  rw [if_neg (by rw [zeroB_size, hb]; omega), if_pos hb]
theorem fresh_opened (n : Nat) (h3 : 3 ≤ n) : ∃ s', openP (freshS n) = (some (0, 2, [(⟨#[]⟩ : ByteArray)]), s', 0) ∧ GoodP s' 0 2 [(⟨#[]⟩ : ByteArray)] ∧ s'.live ∧ s'.n = n := by
  have hb0 : blk (freshS n).F 0 = topB 0 := by rw [topB_zero]; exact blk_zeros n 0 (by omega)
  have hl : (freshS n).F.length = 64 * n := by show (List.replicate (64 * n) (0 : UInt8)).length = _; simp
  obtain ⟨t1, t2⟩ := topB_ok 0 (by omega)
  have hE : fN n 0 = 1 ∧ 2 ≤ eN n 0 ∧ eN n 0 ≤ n := by unfold eN fN; omega
  have hm : many (⟨#[]⟩ : ByteArray).size = 1 := rfl
  have hv : (freshS n).live := ⟨rfl, rfl⟩
  have hok : (freshS n).ok := by unfold Sto.ok freshS; dsimp only; omega
  have hn : (freshS n).n = n := rfl
  -- what Append leaves: as of a journal whose first record lies at block 1
  have hlc := lay_content (freshS n) (⟨#[]⟩ : ByteArray) 1 (eN n 0) hl (by rw [hm]; omega) (by rw [hn]; omega) (fun F => blk F 0 = topB 0) hb0 (fun F i t x hF hA i1 i2 hz _ => by
    rw [blk_patch_take_other F n i t x hF (by omega) hz 0 (by omega)]; exact hA)
  obtain ⟨r1, r2⟩ := runSteps_live n (laySteps (freshS n) (⟨#[]⟩ : ByteArray) 1 (eN n 0)) (freshS n) rfl hv (fun x hx => by
      obtain ⟨i, e, h2, h3⟩ := laySteps_mem (freshS n) (⟨#[]⟩ : ByteArray) 1 (eN n 0) (by rw [hm]; omega) x hx
      exact ⟨i, e, by omega, h3⟩)
  have r3 := runSteps_ok (freshS n) (laySteps (freshS n) (⟨#[]⟩ : ByteArray) 1 (eN n 0)) hok
  obtain ⟨q1, q2, _, q4⟩ := hlc
  have hap : appendP (freshS n) 0 1 [] (⟨#[]⟩ : ByteArray) = ((runSteps (freshS n) (laySteps (freshS n) (⟨#[]⟩ : ByteArray) 1 (eN n 0))).1, 2, [(⟨#[]⟩ : ByteArray)], false, 0) := by
    unfold appendP
    rw [hn, hm, if_neg (by rw [show (⟨#[]⟩ : ByteArray).size = 0 from rfl]; omega), if_pos r1]
    rfl
  generalize runSteps (freshS n) (laySteps (freshS n) (⟨#[]⟩ : ByteArray) 1 (eN n 0)) = R at *
  obtain ⟨s', er⟩ := R
  dsimp only at *
  refine ⟨s', ?_, ⟨by omega, r3, by rw [q1, hn]; rw [hn] at q2; exact q2, ?_⟩, r2, q1.trans hn⟩
  · unfold openP
    rw [hb0, t1, show ((0 : Nat) : Int).toNat = 0 from rfl, if_neg (by rw [t2]; decide), hn]
    have hsc : scan (freshS n).F (eN n 0) (n + 1) (fN n 0) [] = some (1, []) := by
      rw [hE.1, scan_step, if_pos (by omega)]
      have hr : readP (freshS n).F 1 (eN n 0) = ((⟨#[]⟩ : ByteArray), 0, 0) := by
        unfold readP
        rw [show blk (freshS n).F 1 = zeroB from blk_zeros n 1 (by omega), headR_zero]
        rfl
      rw [hr, if_neg (by decide), if_pos rfl]
    rw [hsc]
    dsimp only
    rw [if_pos rfl, hap]
    rfl
  · rw [q1, hn]
    rcases q4 with q4 | ⟨F1, g1, g2, g3, g4, g5⟩
    · rw [r1] at q4; exact absurd q4.1 (by decide)
    · rw [hn] at g1 g3 g5
      refine ⟨by omega, (g3 0 (by omega) (by omega)).trans g2, by simp, ?_, by omega, fun hlt => ?_⟩
      · rw [hE.1]
        refine ⟨by decide, fun t ht => ?_, rfl⟩
        obtain rfl : t = 0 := by rw [hm] at ht; omega
        exact g4
      · rw [g3 2 (by omega) (by omega), g5 2 (by omega), hm, if_neg (by omega), if_neg (by omega), if_pos ⟨rfl, hlt⟩]
        exact un_zero

/-! ### bytes that are 0; block -/
def zcells (n : Nat) : Array Value := bcells (List.replicate n 0)
def zstr (n : Nat) : ByteArray := B (List.replicate n 0)
theorem zstr_size (n : Nat) : (zstr n).size = n := by unfold zstr; rw [B_size]; simp
theorem madez (n : Nat) : madeCells (Value.int .u8 0).cells (n * 1) = zcells n := by
  apply Array.ext
  · simp [madeCells, zcells, bcells]
  · intro i h1 h2
    simp [madeCells, zcells, bcells, Value.cells]
    rw [Nat.mod_one]
    rfl
theorem make_bytes (n : Nat) (h : n ≤ 4096) (w : World) : (Instr.makeSlice 39 (.int .i64 (n : Int)) (.int .i64 (n : Int))).run Tryd.prog w = .ok (.slice (some ⟨w.heap.size, 0, none⟩) n n) (w.alloc (.cells (zcells n) 5)) := by
  obtain ⟨i0, hi, hzz⟩ := Option.map_eq_some_iff.1 info5
  simp only [Prod.mk.injEq] at hzz
  obtain ⟨hz0, hz1, hz2⟩ := hzz
  have := run_make w 39 5 i0 _ Tryd.underlying39 hi hz0 .i64 .i64 (n : Int) (n : Int) (by omega) (by omega) (by rw [hz2]; omega) (by omega)
  rw [hz1, Int.toNat_natCast, madez] at this
  exact this
theorem conv_bytes (n : Nat) (w : World) : ∀ dst, Tryd.prog.underlying dst = some .string → (convert 39 dst (.slice (some ⟨w.heap.size, 0, none⟩) n n)).run Tryd.prog (w.alloc (.cells (zcells n) 5)) = .ok (.string (zstr n)) (w.alloc (.cells (zcells n) 5)) := by
  intro dst hd
  have hc := cell_of (w := w.alloc (.cells (zcells n) 5)) (p := w.heap.size) (heap_alloc_new w _)
  have := run_convert_bytes_arg (P := Tryd.prog) (w.alloc (.cells (zcells n) 5)) 39 5 Tryd.underlying39 Tryd.underlying5 w.heap.size 0 n n (ofB (List.replicate n 0)) (by unfold ofB; simp) (fun j hj => by
    rw [Nat.zero_add, (hc j).1]
    simp [zcells, bcells, ofB, hj]) dst hd
  rw [strOf_ofB] at this
  exact this
def blockOf (b : ByteArray) : ByteArray := (b ++ zstr 64).extract 0 64
set_option maxHeartbeats 1000000 in
set_option maxRecDepth 100000 in
theorem block_calls (w : World) (b : ByteArray) (hb : b.size ≤ 1000000000000) :
    Calls Tryd.prog 38 #[.string b] w fun e w' => e = .returned (.string (blockOf b)) ∧ Below w.heap.size w w' := by
  have mk : ∀ W, (Instr.makeSlice 39 (.int .i64 64) (.int .i64 64)).run Tryd.prog W = .ok (.slice (some ⟨W.heap.size, 0, none⟩) 64 64) (W.alloc (.cells (zcells 64) 5)) := fun W => make_bytes 64 (by omega) W
  have cv := fun (W : World) => conv_bytes 64 W 9 Tryd.underlying9
  have zz := zstr_size 64
  have hle : (b ++ zstr 64).size = b.size + 64 := by rw [ByteArray.size_append, zz]
  have hno : ¬ (9223372036854775807 < b.size + 64) := by omega
  have h64 : 64 ≤ b.size + 64 := by omega
  have h64i : (64 : Int) ≤ (b.size : Int) + 64 := by omega
  clear hb
  go_enter Tryd.func38, Tryd.ntmps38
  go_wp2
  go_ret
  exact ⟨rfl, below_alloc1 w _⟩

def txt (l : List ByteArray) : ByteArray := l.getD 0 ByteArray.empty
theorem txt_get (l : List ByteArray) (h : 0 < l.length) : txt l = l[0] := by unfold txt; rw [List.getD_eq_getElem?_getD, List.getElem?_eq_getElem h]; rfl
theorem jtext (w : World) (base p g q : Nat) (v : Value) (s : Sto) (j : Jou) (l : List ByteArray) (hJ : JAt w base p g q v s j l) (hl : 1 ≤ l.length) :
    Calls Tryd.prog 28 #[.pointer (some ⟨q, 0, none⟩)] w fun e w' => e = .returned (.string (txt l)) ∧ w' = w := by
  obtain ⟨A, c, rfl, _, hr⟩ := Kd.R_reads hJ.row
  rw [txt_get l hl]
  exact text_calls w q p A c l j hJ.jou hr hl
theorem jrecs (w : World) (base p g q : Nat) (v : Value) (s : Sto) (j : Jou) (l : List ByteArray) (hJ : JAt w base p g q v s j l) (hl : 1 ≤ l.length) (hl2 : l.length ≤ 1000000) :
    Calls Tryd.prog 29 #[.pointer (some ⟨q, 0, none⟩)] w fun e w' => ∃ A c, e = .returned (.slice A (l.drop 1).length c) ∧ (l.drop 1).length ≤ c ∧ Kd.C Kd.string w' A (l.drop 1).length (l.drop 1) ∧ Kd.R Kd.string 9 w' w.heap.size (fun _ => True) (.slice A (l.drop 1).length c) (l.drop 1) ∧ Below w.heap.size w w' := by
  obtain ⟨A, c, e, hc, hr⟩ := Kd.R_reads hJ.row
  obtain ⟨b, c', e', _⟩ := Kd.R_form hJ.row hl
  rw [e] at e'
  injection e' with e1 e2 e3
  subst e1
  subst e
  refine (records_calls w q p b c l j hJ.jou hr hl hl2 hc).mono ?_
  rintro e w' ⟨v', rfl, ho, hb⟩
  have hR : Kd.R Kd.string 9 w' w.heap.size (fun _ => True) v' (l.drop 1) := by
    refine Kd.R_of_own ?_ (fun _ _ => trivial)
    rw [List.length_drop]
    exact ho
  obtain ⟨A2, c2, rfl, h2, h3⟩ := Kd.R_reads hR
  exact ⟨A2, c2, rfl, h2, h3, hR, hb⟩
theorem jroom (w : World) (base p g q : Nat) (v : Value) (s : Sto) (h nx : Nat) (br : Bool) (l : List ByteArray) (hJ : JAt w base p g q v s ⟨h, nx, br⟩ l) (hn : 1 ≤ s.n) (hh : h ≤ 1) (hnx : nx ≤ eN s.n h) :
    Calls Tryd.prog 30 #[.pointer (some ⟨q, 0, none⟩)] w fun e w' => e = .returned (.int .i64 ((eN s.n h - nx : Nat) : Int)) ∧ Drawn0 w w' := by
  have hle := hJ.sto.le
  have h3 := (eN_le s.n h hn hh).2.2
  refine (room_calls w q p g v ⟨h, nx, br⟩ s hJ.jou hJ.sto hn ⟨by dsimp only; omega, by dsimp only; omega⟩).mono ?_
  rintro e w' ⟨rfl, hd⟩
  refine ⟨?_, hd⟩
  dsimp only
  rw [endOf_nat s.n h hn hh, show (eN s.n h : Int) - (nx : Int) = ((eN s.n h - nx : Nat) : Int) by omega, wrap_small _ (by omega)]
theorem new_calls (n : Nat) (w : World) (h3 : 3 ≤ n) (h : n ≤ 4096) :
    Calls Tryd.prog 24 #[.int .i64 (n : Int)] w fun e w' => e = .returned (.tuple #[.pointer (some ⟨w.heap.size + 1, 0, none⟩), .int .i64 0]) ∧ StoAt w' (w.heap.size + 1) w.heap.size (freshS n) ∧ Below w.heap.size w w' := by
  refine (new_some n w h3 h).mono ?_
  rintro e w' ⟨rfl, rfl⟩
  refine ⟨rfl, ⟨?_, ?_, by show (List.replicate (64 * n) (0 : UInt8)).length = _; simp [freshS], h⟩, below_step (below_alloc1 w _) (below_alloc1 _ _)⟩
  · have := heap_alloc_new (w.alloc (.cells (bcells (List.replicate (64 * n) 0)) 104)) (.cells #[.slice (some ⟨w.heap.size, 0, none⟩) n n, .int .i64 (-1), .int .i64 0, .bool false, .int .i64 0] 81)
    rw [size_alloc_] at this
    exact this
  · rw [heap_alloc_old _ _ (by rw [size_alloc_]; omega)]
    exact heap_alloc_new w _
theorem open_told (w : World) (p g : Nat) (s : Sto) (r : Option (Nat × Nat × List ByteArray) × Sto × Int) (hs : StoAt w p g s) (hok : s.ok) (hn : 1 ≤ s.n) (hr : openP s = r) :
    Calls Tryd.prog 25 #[.pointer (some ⟨p, 0, none⟩)] w (OpenPost w p g r) := hr ▸ open_calls w p g s hs hok hn
theorem append_told (w : World) (base p g q : Nat) (v : Value) (s : Sto) (h nx : Nat) (l : List ByteArray) (b : ByteArray) (s' : Sto) (nx' : Nat) (l' : List ByteArray) (br : Bool) (er : Int) (hJ : JAt w base p g q v s ⟨h, nx, false⟩ l) (hok : s.ok) (hn : 1 ≤ s.n) (hh : h ≤ 1) (hnx : nx ≤ eN s.n h) (hll : l.length ≤ 5000) (hA : appendP s h nx l b = (s', nx', l', br, er)) :
    Calls Tryd.prog 27 #[.pointer (some ⟨q, 0, none⟩), .string b] w (CallPost w base p g q v s' ⟨h, nx', br⟩ l' er) := by
  have := append_calls w base p g q v s h nx l b hJ hok hn hh hnx hll
  rw [hA] at this
  exact this
theorem snap_told (w : World) (base p g q : Nat) (v : Value) (s : Sto) (h nx : Nat) (l : List ByteArray) (b : ByteArray) (s' : Sto) (h' nx' : Nat) (l' : List ByteArray) (br : Bool) (er : Int) (hJ : JAt w base p g q v s ⟨h, nx, false⟩ l) (hok : s.ok) (hn : 1 ≤ s.n) (hh : h ≤ 1) (hA : snapP s h nx l b = (s', h', nx', l', br, er)) :
    Calls Tryd.prog 26 #[.pointer (some ⟨q, 0, none⟩), .string b] w (CallPost w base p g q v s' ⟨h', nx', br⟩ l' er) := by
  have := snap_calls w base p g q v s h nx l b hJ hok hn hh
  rw [hA] at this
  exact this
/-- Another's call leaves a journal alone. -/
theorem JAt.keep {S : Nat → Prop} {w w1 : World} {base p g q : Nat} {v : Value} {s : Sto} {j : Jou} {l : List ByteArray} (h : JAt w base p g q v s j l) (hu : Upd S w w1) (hp : ¬ S p) (hg : ¬ S g) (hq : ¬ S q) (hv : ∀ k, v.ownBlock = some k → ¬ S k) : JAt w1 base p g q v s j l := by
  refine ⟨h.sto.keep hu hp hg, h.jou.keep hu hq, ?_, Nat.le_trans h.bs hu.size⟩
  have h1 := h.row
  obtain ⟨h0, inner, ho, hr⟩ := h1
  refine ⟨h0, inner, ?_, hr⟩
  exact own_move ho (fun k hk => hu.block k (own_lt ho k hk) (hv k hk))
theorem same_told (k : List ByteArray) (w : World) (A0 A1 : Option Addr) (c0 c1 : Nat) (hk : k.length ≤ 1000000) (h0 : Kd.C Kd.string w A0 k.length k) (hc0 : k.length ≤ c0) (h1 : Kd.C Kd.string w A1 k.length k) (hc1 : k.length ≤ c1) :
    Calls Tryd.prog 19 #[.slice A0 k.length c0, .slice A1 k.length c1] w fun e w' => e = .returned (.bool true) ∧ Drawn0 w w' := by
  obtain ⟨f, hf⟩ := same_ev k hk
  exact quitrentref06_Same.calls f A0 c0 k A1 c1 k true w h0 hc0 h1 hc1 (hf f (Nat.le_refl _))

/-! ### a call's own store and journal -/
structure StS (w0 w : World) (p g : Nat) (s : Sto) : Prop where
  sto : StoAt w p g s
  bel : Below w0.heap.size w0 w
  hp : w0.heap.size ≤ p
  hg : w0.heap.size ≤ g
structure St (w0 w : World) (p g q : Nat) (v : Value) (s : Sto) (h nx : Nat) (l : List ByteArray) : Prop where
  at_ : JAt w w0.heap.size p g q v s ⟨h, nx, false⟩ l
  bel : Below w0.heap.size w0 w
  hp : w0.heap.size ≤ p
  hg : w0.heap.size ≤ g
  hq : w0.heap.size ≤ q
theorem St.store {w0 w : World} {p g q : Nat} {v : Value} {s : Sto} {h nx : Nat} {l : List ByteArray} (H : St w0 w p g q v s h nx l) : StS w0 w p g s := ⟨H.at_.sto, H.bel, H.hp, H.hg⟩
theorem St.below {w0 w w1 : World} {p g q : Nat} {v : Value} {s : Sto} {h nx : Nat} {l : List ByteArray} (H : St w0 w p g q v s h nx l) (hb : Below w.heap.size w w1) : St w0 w1 p g q v s h nx l := ⟨H.at_.below hb, below_step H.bel hb, H.hp, H.hg, H.hq⟩
theorem StS.below {w0 w w1 : World} {p g : Nat} {s : Sto} (H : StS w0 w p g s) (hb : Below w.heap.size w w1) : StS w0 w1 p g s := ⟨H.sto.keep (Upd.ofBelow (S := fun _ => False) hb) (fun h => h) (fun h => h), below_step H.bel hb, H.hp, H.hg⟩
theorem St.mine {w0 w w1 : World} {p g q : Nat} {v : Value} {s : Sto} {h nx : Nat} {l : List ByteArray} (H : St w0 w p g q v s h nx l) (hu : Upd (Mine p g q v) w w1) : Below w0.heap.size w0 w1 :=
  hu.below H.bel (fun k hk => by
    rcases hk with rfl | rfl | rfl | hk
    · exact H.hp
    · exact H.hg
    · exact H.hq
    · exact (H.at_.own k hk.symm).1)
theorem St.call {w0 w w1 : World} {p g q : Nat} {v : Value} {s s' : Sto} {h nx h' nx' : Nat} {l l' : List ByteArray} {er : Int} {e : Ending} (H : St w0 w p g q v s h nx l) (hc : CallPost w w0.heap.size p g q v s' ⟨h', nx', false⟩ l' er e w1) : e = .returned (.int .i64 er) ∧ ∃ v', St w0 w1 p g q v' s' h' nx' l' := by
  obtain ⟨he, v', hj, hu, _⟩ := hc
  exact ⟨he, v', hj, H.mine hu, H.hp, H.hg, H.hq⟩
theorem JAt.lower {w : World} {base base' p g q : Nat} {v : Value} {s : Sto} {j : Jou} {l : List ByteArray} (h : JAt w base p g q v s j l) (hb : base' ≤ base) : JAt w base' p g q v s j l := ⟨h.sto, h.jou, Kd.R_lower h.row hb, Nat.le_trans hb h.bs⟩
theorem StS.upd {w0 w w1 : World} {p g : Nat} {s s' : Sto} (H : StS w0 w p g s) (hs : StoAt w1 p g s') (hu : Upd (fun k => k = p ∨ k = g) w w1) : StS w0 w1 p g s' :=
  ⟨hs, hu.below H.bel (fun k hk => by
    rcases hk with rfl | rfl
    · exact H.hp
    · exact H.hg), H.hp, H.hg⟩
theorem StS.opened {w0 w w1 : World} {p g : Nat} {s s' : Sto} {h nx : Nat} {l : List ByteArray} {er : Int} {e : Ending} (H : StS w0 w p g s) (hc : OpenPost w p g (some (h, nx, l), s', er) e w1) : e = .returned (.tuple #[.pointer (some ⟨w.heap.size, 0, none⟩), .int .i64 0]) ∧ ∃ v, St w0 w1 p g w.heap.size v s' h nx l := by
  obtain ⟨he, v, hj, hu⟩ := hc
  have hb := (H.upd hj.sto hu).bel
  exact ⟨he, v, hj.lower H.bel.size, hb, H.hp, H.hg, H.bel.size⟩
theorem StS.refused {w0 w w1 : World} {p g : Nat} {s s' : Sto} {er : Int} {e : Ending} (H : StS w0 w p g s) (hc : OpenPost w p g (none, s', er) e w1) : e = .returned (.tuple #[.pointer none, .int .i64 er]) ∧ StS w0 w1 p g s' ∧ Upd (fun k => k = p ∨ k = g) w w1 := by
  obtain ⟨he, hs, hu⟩ := hc
  exact ⟨he, H.upd hs hu, hu⟩
theorem new_st (n : Nat) (w0 w : World) (h3 : 3 ≤ n) (h : n ≤ 4096) (hb : Below w0.heap.size w0 w) :
    Calls Tryd.prog 24 #[.int .i64 (n : Int)] w fun e w' => e = .returned (.tuple #[.pointer (some ⟨w.heap.size + 1, 0, none⟩), .int .i64 0]) ∧ StS w0 w' (w.heap.size + 1) w.heap.size (freshS n) ∧ Below w.heap.size w w' := by
  refine (new_calls n w h3 h).mono ?_
  rintro e w' ⟨rfl, hs, hb2⟩
  exact ⟨rfl, ⟨hs, below_step hb hb2, by have := hb.size; omega, hb.size⟩, hb2⟩
theorem new_st9 (w0 w : World) (hb : Below w0.heap.size w0 w) :
    Calls Tryd.prog 24 #[.int .i64 9] w fun e w' => e = .returned (.tuple #[.pointer (some ⟨w.heap.size + 1, 0, none⟩), .int .i64 0]) ∧ StS w0 w' (w.heap.size + 1) w.heap.size (freshS 9) ∧ Below w.heap.size w w' := new_st 9 w0 w (by omega) (by omega) hb
/-! ### awake -/
abbrev bA : ByteArray := (⟨#[97]⟩ : ByteArray)
abbrev bB : ByteArray := (⟨#[98]⟩ : ByteArray)
abbrev bOne : ByteArray := (⟨#[111, 110, 101]⟩ : ByteArray)
abbrev b2 : ByteArray := (⟨#[2]⟩ : ByteArray)
theorem awake_plan : ∃ s1 s2 s3 s4 s5 : Sto, openP (freshS 9) = (some (0, 2, [(⟨#[]⟩ : ByteArray)]), s1, 0) ∧ appendP s1 0 2 [(⟨#[]⟩ : ByteArray)] bA = (s2, 3, [(⟨#[]⟩ : ByteArray), bA], false, 0) ∧
    snapP s2 0 3 [(⟨#[]⟩ : ByteArray), bA] bOne = (s3, 1, 6, [bOne], false, 0) ∧ appendP s3 1 6 [bOne] bB = (s4, 7, [bOne, bB], false, 0) ∧ openP s4 = (some (1, 7, [bOne, bB]), s4, 0) ∧
    appendP s4 1 7 [bOne, bB] (zstr 200) = (s4, 7, [bOne, bB], false, 4) ∧ s4.write 0 (blockOf b2) = (s5, 0) ∧ openP s5 = (none, s5, 8) ∧
    (s1.ok ∧ s1.n = 9) ∧ (s2.ok ∧ s2.n = 9) ∧ (s3.ok ∧ s3.n = 9) ∧ (s4.ok ∧ s4.n = 9) ∧ (s5.ok ∧ s5.n = 9) := by
  obtain ⟨s1, h1, G1, L1, n1⟩ := fresh_opened 9 (by omega)
  have eE : eN 9 0 = 5 ∧ eN 9 1 = 9 ∧ fN 9 1 = 5 := by decide
  have mA : many bA.size = 1 := by decide
  have mB : many bB.size = 1 := by decide
  have mO : many bOne.size = 1 := by decide
  have zA : bA.size = 1 := rfl
  have zB : bB.size = 1 := rfl
  have zO : bOne.size = 3 := rfl
  have mZ : many (zstr 200).size = 4 := by rw [zstr_size]; decide
  obtain ⟨s2, h2, G2, n2, L2⟩ : ∃ s2, appendP s1 0 2 [(⟨#[]⟩ : ByteArray)] bA = (s2, 3, [(⟨#[]⟩ : ByteArray), bA], false, 0) ∧ GoodP s2 0 3 [(⟨#[]⟩ : ByteArray), bA] ∧ s2.n = 9 ∧ s2.live := by
    rcases G1.append_live L1 bA with ⟨_, hf⟩ | ⟨s2, a1, a2, a3, a4, _⟩
    · rw [n1, mA, eE.1, zA] at hf; omega
    · rw [mA] at a1 a2; exact ⟨s2, a1, a2, a3.trans n1, a4⟩
  obtain ⟨s3, h3, G3, n3, L3⟩ : ∃ s3, snapP s2 0 3 [(⟨#[]⟩ : ByteArray), bA] bOne = (s3, 1, 6, [bOne], false, 0) ∧ GoodP s3 1 6 [bOne] ∧ s3.n = 9 ∧ s3.live := by
    rcases G2.snap_live L2 bOne with ⟨_, hf⟩ | ⟨s3, a1, a2, a3, a4⟩
    · rw [n2, mO, show 1 - 0 = 1 from rfl, eE.2.1, eE.2.2, zO] at hf; omega
    · rw [n2, mO, show 1 - 0 = 1 from rfl, eE.2.2] at a1 a2; exact ⟨s3, a1, a2, a3.trans n2, a4⟩
  obtain ⟨s4, h4, G4, n4, L4⟩ : ∃ s4, appendP s3 1 6 [bOne] bB = (s4, 7, [bOne, bB], false, 0) ∧ GoodP s4 1 7 [bOne, bB] ∧ s4.n = 9 ∧ s4.live := by
    rcases G3.append_live L3 bB with ⟨_, hf⟩ | ⟨s4, a1, a2, a3, a4, _⟩
    · rw [n3, mB, eE.2.1, zB] at hf; omega
    · rw [mB] at a1 a2; exact ⟨s4, a1, a2, a3.trans n3, a4⟩
  have h5 := G4.opened (by omega)
  have h6 : appendP s4 1 7 [bOne, bB] (zstr 200) = (s4, 7, [bOne, bB], false, 4) := by
    unfold appendP
    exact if_pos (by rw [n4, mZ, eE.2.1]; omega)
  have zb : (blockOf b2).size = 64 := by decide +kernel
  have hw : s4.write 0 (blockOf b2) = ({ s4 with F := patch s4.F (64 * 0) (blockOf b2).data.toList, left := s4.left, writes := wrap64 (s4.writes + 1) }, 0) := by
    unfold Sto.write
    rw [if_neg (by omega), L4.1, if_neg (by decide), L4.2, if_neg (by omega), if_neg (by omega)]
    rfl
  have ht : blk (patch s4.F (64 * 0) (blockOf b2).data.toList) 0 = blockOf b2 := blk_patch_full s4.F s4.n 0 (blockOf b2) G4.len (by omega) zb
  refine ⟨s1, s2, s3, s4, _, h1, h2, h3, h4, h5, h6, hw, ?_, ⟨G1.ok, n1⟩, ⟨G2.ok, n2⟩, ⟨G3.ok, n3⟩, ⟨G4.ok, n4⟩, ⟨G4.ok, n4⟩⟩
  unfold openP
  dsimp only
  rw [ht]
  exact if_pos (by decide +kernel)

theorem refused_keep {w0 w w1 : World} {p g q : Nat} {v : Value} {s s' : Sto} {h nx : Nat} {l : List ByteArray} (H : St w0 w p g q v s h nx l) (hs : StoAt w1 p g s') (hu : Upd (fun k => k = p ∨ k = g) w w1) : St w0 w1 p g q v s' h nx l := by
  have hb := (H.store.upd hs hu).bel
  have hq := H.at_.jou.ne H.at_.sto
  refine ⟨⟨hs, H.at_.jou.keep hu hq, row_keep H.at_.row hu (fun k cells hk hc => H.at_.apart k cells hk (hc.elim .inl (fun h => .inr (.inl h)))), Nat.le_trans H.at_.bs hu.size⟩, hb, H.hp, H.hg, H.hq⟩
theorem write_told (w : World) (p g : Nat) (s s' : Sto) (er : Int) (h : StoAt w p g s) (hok : s.ok) (i : Int) (b : ByteArray) (hw : s.write i b = (s', er)) :
    Calls Tryd.prog 37 #[.pointer (some ⟨p, 0, none⟩), .int .i64 i, .string b] w fun e w' => e = .returned (.int .i64 er) ∧ StoAt w' p g s' ∧ Upd (fun k => k = p ∨ k = g) w w' := by
  have := write_calls w p g s h hok.1 hok.2 i b
  rw [hw] at this
  exact this
theorem one_lit (w : World) (b : ByteArray) : Kd.C Kd.string (w.alloc (.cells #[.string b] 9)) (some ⟨w.heap.size, 0, none⟩) [b].length [b] := one_row w b
theorem same_one (b : ByteArray) (w : World) (A0 A1 : Option Addr) (c0 c1 : Nat) (h0 : Kd.C Kd.string w A0 1 [b]) (hc0 : 1 ≤ c0) (h1 : Kd.C Kd.string w A1 1 [b]) (hc1 : 1 ≤ c1) :
    Calls Tryd.prog 19 #[.slice A0 1 c0, .slice A1 1 c1] w fun e w' => e = .returned (.bool true) ∧ Drawn0 w w' := same_told [b] w A0 A1 c0 c1 (by simp) h0 hc0 h1 hc1
theorem one_lit1 (w : World) (b : ByteArray) : Kd.C Kd.string (w.alloc (.cells #[.string b] 9)) (some ⟨w.heap.size, 0, none⟩) 1 [b] := one_row w b
theorem jrecs2 (w : World) (base p g q : Nat) (v : Value) (s : Sto) (j : Jou) (a b : ByteArray) (hJ : JAt w base p g q v s j [a, b]) :
    Calls Tryd.prog 29 #[.pointer (some ⟨q, 0, none⟩)] w fun e w' => ∃ A c, e = .returned (.slice A 1 c) ∧ 1 ≤ c ∧ Kd.C Kd.string w' A 1 [b] ∧ Below w.heap.size w w' := by
  refine (jrecs w base p g q v s j [a, b] hJ (by simp) (by simp)).mono ?_
  rintro e w' ⟨A, c, rfl, h1, h2, _, h4⟩
  exact ⟨A, c, rfl, h1, h2, h4⟩
theorem jtext2 (w : World) (base p g q : Nat) (v : Value) (s : Sto) (j : Jou) (a b : ByteArray) (hJ : JAt w base p g q v s j [a, b]) :
    Calls Tryd.prog 28 #[.pointer (some ⟨q, 0, none⟩)] w fun e w' => e = .returned (.string a) ∧ w' = w := jtext w base p g q v s j [a, b] hJ (by simp)
set_option maxHeartbeats 4000000 in
set_option maxRecDepth 100000 in
theorem awake_calls (w : World) : Calls Tryd.prog 22 #[] w fun e w' => e = .returned (.bool true) ∧ Below w.heap.size w w' := by
  obtain ⟨s1, s2, s3, s4, s5, h1, h2, h3, h4, h5, h6, h7, h8, g1, g2, g3, g4, g5⟩ := awake_plan
  have H1 := Aside0.mk h1
  have H2 := Aside0.mk h2
  have H3 := Aside0.mk h3
  have H4 := Aside0.mk h4
  have H5 := Aside0.mk h5
  have H6 := Aside0.mk h6
  have H7 := Aside0.mk h7
  have H8 := Aside0.mk h8
  have G1 := Aside0.mk g1
  have G2 := Aside0.mk g2
  have G3 := Aside0.mk g3
  have G4 := Aside0.mk g4
  have G5 := Aside0.mk g5
  clear h1 h2 h3 h4 h5 h6 h7 h8 g1 g2 g3 g4 g5
  have F9 : Aside0 ((freshS 9).ok ∧ (freshS 9).n = 9) := ⟨⟨by unfold Sto.ok freshS; dsimp only; omega, rfl⟩⟩
  have E9 : Aside0 (eN 9 0 = 5 ∧ eN 9 1 = 9) := ⟨by decide⟩
  have mk : ∀ W, (Instr.makeSlice 39 (.int .i64 200) (.int .i64 200)).run Tryd.prog W = .ok (.slice (some ⟨W.heap.size, 0, none⟩) 200 200) (W.alloc (.cells (zcells 200) 5)) := fun W => make_bytes 200 (by omega) W
  have cv := fun (W : World) => conv_bytes 200 W 9 Tryd.underlying9
  have MK := Aside0.mk mk
  have CV := Aside0.mk cv
  clear mk cv
  go_enter Tryd.func22, Tryd.ntmps22
  go_upto_region 12 with (first
    | (go_at_call 24; (with_reducible refine (new_st9 w _ (Below.refl _ _)).mono ?_); rintro e wa ⟨rfl, hs, hb⟩; have A1 := Aside0.mk hs; clear hs hb)
    | (go_at_call 25; (with_reducible refine (open_told _ _ _ (freshS 9) _ A1.out.sto F9.out.1 (by rw [F9.out.2]; omega) H1.out).mono ?_); rintro e wb hp; obtain ⟨rfl, v1, hs⟩ := A1.out.opened hp; have A2 := Aside0.mk hs; clear hs hp)
    | (go_at_call 25; (with_reducible refine (open_nil _).mono ?_); rintro e wc ⟨rfl, hw⟩; have hw2 := hw.symm; clear hw; subst hw2)
    | (go_at_call 27; (with_reducible refine (append_told _ _ _ _ _ _ s1 0 2 _ bA _ _ _ _ _ A2.out.at_ G1.out.1 (by rw [G1.out.2]; omega) (by omega) (by rw [G1.out.2, E9.out.1]; omega) (by simp) H2.out).mono ?_); rintro e wd hp; obtain ⟨rfl, v2, hs⟩ := A2.out.call hp; have A3 := Aside0.mk hs; clear hs hp)
    | (go_at_call 26; (with_reducible refine (snap_told _ _ _ _ _ _ s2 0 3 _ bOne _ _ _ _ _ _ A3.out.at_ G2.out.1 (by rw [G2.out.2]; omega) (by omega) H3.out).mono ?_); rintro e we hp; obtain ⟨rfl, v3, hs⟩ := A3.out.call hp; have A4 := Aside0.mk hs; clear hs hp)
    | (go_at_call 27; (with_reducible refine (append_told _ _ _ _ _ _ s3 1 6 _ bB _ _ _ _ _ A4.out.at_ G3.out.1 (by rw [G3.out.2]; omega) (by omega) (by rw [G3.out.2, E9.out.2]; omega) (by simp) H4.out).mono ?_); rintro e wf hp; obtain ⟨rfl, v4, hs⟩ := A4.out.call hp; have A5 := Aside0.mk hs; clear hs hp)
    | (go_at_call 25; (with_reducible refine (open_told _ _ _ s4 _ A5.out.at_.sto G4.out.1 (by rw [G4.out.2]; omega) H5.out).mono ?_); rintro e wg hp; obtain ⟨rfl, v5, hs⟩ := A5.out.store.opened hp; have A6 := Aside0.mk hs; clear hs hp))
  have mk := MK.out
  have cv := CV.out
  go_upto_region 13 with (go_at_call 27; (with_reducible refine (append_told _ _ _ _ _ _ s4 1 7 _ (zstr 200) _ _ _ _ _ (A6.out.below (below_alloc1 wg (.cells (zcells 200) 5))).at_ G4.out.1 (by rw [G4.out.2]; omega) (by omega) (by rw [G4.out.2, E9.out.2]; omega) (by simp) H6.out).mono ?_); rintro e wh hp; obtain ⟨rfl, v6, hs⟩ := (A6.out.below (below_alloc1 wg (.cells (zcells 200) 5))).call hp; have A7 := Aside0.mk hs; clear hs hp)
  clear mk cv
  go_upto_region 15 with (first
    | (go_at_call 38; (with_reducible refine (block_calls _ b2 (by decide)).mono ?_); rintro e wi ⟨rfl, hb⟩; have n0_ := A7.out.below hb; clear A7 hb; have A7 := Aside0.mk n0_; clear n0_)
    | (go_at_call 37; (with_reducible refine (write_told _ _ _ s4 s5 0 A7.out.at_.sto G4.out.1 0 (blockOf b2) H7.out).mono ?_); rintro e wj ⟨rfl, hs, hu⟩; have A8 := Aside0.mk (refused_keep A7.out hs hu); clear hs hu)
    | (go_at_call 25; (with_reducible refine (open_told _ _ _ s5 _ A8.out.at_.sto G5.out.1 (by rw [G5.out.2]; omega) H8.out).mono ?_); rintro e wk hp; obtain ⟨rfl, hs, hu⟩ := A8.out.store.refused hp; have A9 := Aside0.mk (refused_keep A8.out hs.sto hu); clear hs hu hp))
  go_wp2_with (first
    | (go_at_call 28; (with_reducible refine (jtext2 _ _ _ _ _ _ _ _ bOne bB A9.out.at_).mono ?_); rintro e wl ⟨rfl, hw⟩; have hw2 := hw.symm; clear hw; subst hw2)
    | (go_at_call 29; (with_reducible refine (jrecs2 _ _ _ _ _ _ _ _ bOne bB A9.out.at_).mono ?_); rintro e wm ⟨A, c, rfl, hle, hC, hb⟩; have HC := Aside0.mk (Kd.C_below hC (below_alloc1 wm (.cells #[.string bB] 9))); have n0_ := A9.out.below (below_step hb (below_alloc1 wm (.cells #[.string bB] 9))); have A10 := Aside0.mk n0_; have HLE := Aside0.mk hle; clear n0_ hC hb hle)
    | (go_at_call 19; (with_reducible refine (same_one bB _ _ _ _ _ HC.out HLE.out (one_lit1 wm bB) (by omega)).mono ?_); rintro e wn ⟨rfl, hd⟩; have n0_ := A10.out.below (below_drawn hd); have A11 := Aside0.mk n0_; clear n0_ hd)
    | (go_at_call 30; (with_reducible refine (jroom _ _ _ _ _ _ _ 1 7 _ _ A11.out.at_ (by rw [G5.out.2]; omega) (by omega) (by rw [G5.out.2, E9.out.2]; omega)).mono ?_); rintro e wo ⟨rfl, hd⟩; rw [show ((eN s5.n 1 - 7 : Nat) : Int) = 2 by rw [G5.out.2, E9.out.2]; rfl]; have n0_ := A11.out.below (below_drawn hd); have A12 := Aside0.mk n0_; clear n0_ hd))
  go_ret
  exact ⟨rfl, A12.out.bel⟩

end Go.Proofs.YtnfeknaeikpdmaaDoor.PR
