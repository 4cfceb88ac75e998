import Derived.Test.YtnfeknaeikpdmaaDoorJM7
namespace Go.Proofs.YtnfeknaeikpdmaaDoor.PR
open Go.RowKit Go.Proofs.YtnfeknaeikpdmaaDoorW.PrintWords Go.Proofs.YtnfeknaeikpdmaaDoorW.PrintLast Go.Proofs.YtnfeknaeikpdmaaDoorW.PrintMore
attribute [local go_sem] max2_int min2_int max_two min_two max_three min_three max_four min_four
set_option linter.unusedVariables false
set_option linter.unusedSimpArgs false
/-! ### two journals -/
structure Two (w0 w : World) (p g q : Nat) (v : Value) (s : Sto) (h nx : Nat) (l : List ByteArray) (p' g' q' : Nat) (v' : Value) (s' : Sto) (h' nx' : Nat) (l' : List ByteArray) : Prop where
  j : St w0 w p g q v s h nx l
  k : St w0 w p' g' q' v' s' h' nx' l'
  np : p ≠ p'
  ng : g ≠ g'
  nq : q ≠ q'
  nv : ∀ b, v.ownBlock = some b → v'.ownBlock ≠ some b
section
variable {w0 w w1 : World} {p g q : Nat} {v : Value} {s : Sto} {h nx : Nat} {l : List ByteArray} {p' g' q' : Nat} {v' : Value} {s' : Sto} {h' nx' : Nat} {l' : List ByteArray}
theorem Two.swap (H : Two w0 w p g q v s h nx l p' g' q' v' s' h' nx' l') : Two w0 w p' g' q' v' s' h' nx' l' p g q v s h nx l :=
  ⟨H.k, H.j, H.np.symm, H.ng.symm, H.nq.symm, fun b h1 h2 => H.nv b h2 h1⟩
theorem Two.below (H : Two w0 w p g q v s h nx l p' g' q' v' s' h' nx' l') (hb : Below w.heap.size w w1) : Two w0 w1 p g q v s h nx l p' g' q' v' s' h' nx' l' :=
  ⟨H.j.below hb, H.k.below hb, H.np, H.ng, H.nq, H.nv⟩
theorem St.rowTyped (H : St w0 w p g q v s h nx l) (k : Nat) (hk : v.ownBlock = some k) : ∃ cells, w.heap[k]? = some (.cells cells 9 (0, 0)) := by
  obtain ⟨inner, ho⟩ := Kd.R_own H.at_.row
  exact own_typed ho k hk
/-- What a call on the left may write is none of the right one's. -/
theorem Two.apart (H : Two w0 w p g q v s h nx l p' g' q' v' s' h' nx' l') : ¬ Mine p g q v p' ∧ ¬ Mine p g q v g' ∧ ¬ Mine p g q v q' ∧ ∀ b, v'.ownBlock = some b → ¬ Mine p g q v b := by
  have hp := H.j.at_.sto.hp
  have hg := H.j.at_.sto.hg
  have hq : w.heap[q]? = _ := H.j.at_.jou
  have hp' := H.k.at_.sto.hp
  have hg' := H.k.at_.sto.hg
  have hq' : w.heap[q']? = _ := H.k.at_.jou
  refine ⟨?_, ?_, ?_, ?_⟩
  · rintro (e | e | e | e)
    · exact H.np e.symm
    · exact ty_ne hp' hg (by decide) e
    · exact ty_ne hp' hq (by decide) e
    · obtain ⟨c, hc⟩ := H.j.rowTyped _ e.symm; exact ty_ne hp' hc (by decide) rfl
  · rintro (e | e | e | e)
    · exact ty_ne hg' hp (by decide) e
    · exact H.ng e.symm
    · exact ty_ne hg' hq (by decide) e
    · obtain ⟨c, hc⟩ := H.j.rowTyped _ e.symm; exact ty_ne hg' hc (by decide) rfl
  · rintro (e | e | e | e)
    · exact ty_ne hq' hp (by decide) e
    · exact ty_ne hq' hg (by decide) e
    · exact H.nq e.symm
    · obtain ⟨c, hc⟩ := H.j.rowTyped _ e.symm; exact ty_ne hq' hc (by decide) rfl
  · intro b hb
    obtain ⟨c, hc⟩ := H.k.rowTyped b hb
    rintro (e | e | e | e)
    · exact ty_ne hc hp (by decide) e
    · exact ty_ne hc hg (by decide) e
    · exact ty_ne hc hq (by decide) e
    · exact H.nv b e.symm hb
theorem Two.left {s1 : Sto} {h1 nx1 : Nat} {l1 : List ByteArray} {er : Int} {e : Ending} (H : Two w0 w p g q v s h nx l p' g' q' v' s' h' nx' l') (hc : CallPost w w0.heap.size p g q v s1 ⟨h1, nx1, false⟩ l1 er e w1) :
    e = .returned (.int .i64 er) ∧ ∃ v1, Two w0 w1 p g q v1 s1 h1 nx1 l1 p' g' q' v' s' h' nx' l' := by
  obtain ⟨he, v1, hj, hu, hv⟩ := hc
  obtain ⟨a1, a2, a3, a4⟩ := H.apart
  have hb := H.j.mine hu
  refine ⟨he, v1, ⟨hj, hb, H.j.hp, H.j.hg, H.j.hq⟩, ⟨H.k.at_.keep hu a1 a2 a3 a4, hb, H.k.hp, H.k.hg, H.k.hq⟩, H.np, H.ng, H.nq, fun b h1 h2 => ?_⟩
  rcases hv with hv | ⟨b2, hv, hlt⟩
  · exact H.nv b (hv ▸ h1) h2
  · rw [hv] at h1
    injection h1 with h1
    have := (H.k.at_.own b h2).2.1
    omega
theorem Two.right {s1 : Sto} {h1 nx1 : Nat} {l1 : List ByteArray} {er : Int} {e : Ending} (H : Two w0 w p g q v s h nx l p' g' q' v' s' h' nx' l') (hc : CallPost w w0.heap.size p' g' q' v' s1 ⟨h1, nx1, false⟩ l1 er e w1) :
    e = .returned (.int .i64 er) ∧ ∃ v1, Two w0 w1 p g q v s h nx l p' g' q' v1 s1 h1 nx1 l1 := by
  obtain ⟨he, v1, H1⟩ := H.swap.left hc
  exact ⟨he, v1, H1.swap⟩
/-- A journal beside another's store, opened. -/
theorem St.opened {s1 : Sto} {h1 nx1 : Nat} {l1 : List ByteArray} {er : Int} {e : Ending} (H : St w0 w p g q v s h nx l) (HS : StS w0 w p' g' s') (np : p ≠ p') (ng : g ≠ g') (hc : OpenPost w p' g' (some (h1, nx1, l1), s1, er) e w1) :
    e = .returned (.tuple #[.pointer (some ⟨w.heap.size, 0, none⟩), .int .i64 0]) ∧ ∃ v1, Two w0 w1 p g q v s h nx l p' g' w.heap.size v1 s1 h1 nx1 l1 := by
  have hc' := hc
  obtain ⟨_, v0, hj0, hu⟩ := hc'
  obtain ⟨he, v1, H1⟩ := HS.opened hc
  obtain ⟨he2, v2, hj, _⟩ := hc
  have hq : w.heap[q]? = _ := H.at_.jou
  have hp' := HS.sto.hp
  have hg' := HS.sto.hg
  refine ⟨he, v2, ⟨H.at_.keep hu ?_ ?_ ?_ ?_, H1.bel, H.hp, H.hg, H.hq⟩, ⟨hj.lower HS.bel.size, H1.bel, H1.hp, H1.hg, H1.hq⟩, np, ng, ?_, ?_⟩
  · rintro (e | e)
    · exact np e
    · exact ty_ne H.at_.sto.hp hg' (by decide) e
  · rintro (e | e)
    · exact ty_ne H.at_.sto.hg hp' (by decide) e
    · exact ng e
  · rintro (e | e)
    · exact ty_ne hq hp' (by decide) e
    · exact ty_ne hq hg' (by decide) e
  · intro b hb
    obtain ⟨c, hc⟩ := H.rowTyped b hb
    rintro (e | e)
    · exact ty_ne hc hp' (by decide) e
    · exact ty_ne hc hg' (by decide) e
  · intro e
    have : q < w.heap.size := lt_of_cells hq
    omega
  · intro b hb h2
    have a1 := (H.at_.own b hb).2.1
    have a2 := (hj.own b h2).1
    omega
end
theorem StS.pair_open {w0 w w1 : World} {p g p' g' : Nat} {s s1 t : Sto} {h nx : Nat} {l : List ByteArray} {er : Int} {e : Ending} (HS : StS w0 w p g s) (HT : StS w0 w p' g' t) (np : p ≠ p') (ng : g ≠ g') (hc : OpenPost w p g (some (h, nx, l), s1, er) e w1) :
    e = .returned (.tuple #[.pointer (some ⟨w.heap.size, 0, none⟩), .int .i64 0]) ∧ ∃ v, St w0 w1 p g w.heap.size v s1 h nx l ∧ StS w0 w1 p' g' t := by
  obtain ⟨_, _, _, hu⟩ := id hc
  obtain ⟨he, v, H⟩ := HS.opened hc
  refine ⟨he, v, H, HT.sto.keep hu ?_ ?_, H.bel, HT.hp, HT.hg⟩
  · rintro (e | e)
    · exact np e.symm
    · exact ty_ne HT.sto.hp HS.sto.hg (by decide) e
  · rintro (e | e)
    · exact ty_ne HT.sto.hg HS.sto.hp (by decide) e
    · exact ng e.symm
theorem StS.lt {w0 w : World} {p g : Nat} {s : Sto} (H : StS w0 w p g s) : p < w.heap.size ∧ g < w.heap.size := ⟨lt_of_cells H.sto.hp, lt_of_cells H.sto.hg⟩
theorem GoodP.snap_go {s : Sto} {h nx : Nat} {l : List ByteArray} (hG : GoodP s h nx l) (hv : s.live) (b : ByteArray) : ∃ s1 h1 nx1 l1 er, snapP s h nx l b = (s1, h1, nx1, l1, false, er) ∧ GoodP s1 h1 nx1 l1 ∧ s1.live ∧ s1.n = s.n := by
  rcases hG.snap_live hv b with ⟨h1, _⟩ | ⟨s', h1, h2, h3, h4⟩
  · exact ⟨s, h, nx, l, 4, h1, hG, hv, rfl⟩
  · exact ⟨s', _, _, _, 0, h1, h2, h4, h3⟩
theorem GoodP.append_go {s : Sto} {h nx : Nat} {l : List ByteArray} (hG : GoodP s h nx l) (hv : s.live) (b : ByteArray) : ∃ s1 nx1 l1 er, appendP s h nx l b = (s1, nx1, l1, false, er) ∧ GoodP s1 h nx1 l1 ∧ s1.live ∧ s1.n = s.n := by
  rcases hG.append_live hv b with ⟨h1, _⟩ | ⟨s', h1, h2, h3, h4, _⟩
  · exact ⟨s, nx, l, 4, h1, hG, hv, rfl⟩
  · exact ⟨s', _, _, 0, h1, h2, h4, h3⟩
/-- An operation that lies in a block of the call's own. -/
def OpIn (w : World) (X : Nat) (x : Opv) : Prop := w.heap[X]? = some (.cells #[.int .i64 x.d, .int .i64 x.n, .int .i64 x.t, .string x.b] 50 (0, 0))
theorem OpIn.keep {S : Nat → Prop} {w w1 : World} {X : Nat} {x : Opv} (h : OpIn w X x) (hu : Upd S w w1) (hS : ¬ S X) : OpIn w1 X x := (hu.block X (lt_of_cells h) hS).trans h
theorem St.opApart {w0 w : World} {p g q : Nat} {v : Value} {s : Sto} {h nx : Nat} {l : List ByteArray} (H : St w0 w p g q v s h nx l) {X : Nat} {x : Opv} (hX : OpIn w X x) : ¬ Mine p g q v X := by
  have hq : w.heap[q]? = _ := H.at_.jou
  rintro (e | e | e | e)
  · exact ty_ne hX H.at_.sto.hp (by decide) e
  · exact ty_ne hX H.at_.sto.hg (by decide) e
  · exact ty_ne hX hq (by decide) e
  · obtain ⟨c, hc⟩ := H.rowTyped _ e.symm; exact ty_ne hX hc (by decide) rfl
theorem OpIn.call {w0 w w1 : World} {p g q : Nat} {v : Value} {s s' : Sto} {h nx : Nat} {j' : Jou} {l l' : List ByteArray} {er : Int} {e : Ending} {X : Nat} {x : Opv} (hX : OpIn w X x) (H : St w0 w p g q v s h nx l) (hc : CallPost w w0.heap.size p g q v s' j' l' er e w1) : OpIn w1 X x := by
  obtain ⟨_, v', _, hu, _⟩ := hc
  exact hX.keep hu (H.opApart hX)
theorem OpIn.below {w w1 : World} {X : Nat} {x : Opv} (h : OpIn w X x) (hb : Below w.heap.size w w1) : OpIn w1 X x := (hb.block X (lt_of_cells h)).trans h
theorem OpIn.c0 {w : World} {X : Nat} {x : Opv} (h : OpIn w X x) : w.cell? ⟨X, 0, none⟩ = some (.int .i64 x.d) := (cell_of h 0).1
theorem OpIn.c1 {w : World} {X : Nat} {x : Opv} (h : OpIn w X x) : w.cell? ⟨X, 1, none⟩ = some (.int .i64 x.n) := (cell_of h 1).1
theorem OpIn.c2 {w : World} {X : Nat} {x : Opv} (h : OpIn w X x) : w.cell? ⟨X, 2, none⟩ = some (.int .i64 x.t) := (cell_of h 2).1
theorem OpIn.c3 {w : World} {X : Nat} {x : Opv} (h : OpIn w X x) : w.cell? ⟨X, 3, none⟩ = some (.string x.b) := (cell_of h 3).1
theorem OpIn.opened {w0 w w1 : World} {p g : Nat} {s : Sto} {r : Option (Nat × Nat × List ByteArray) × Sto × Int} {e : Ending} {X : Nat} {x : Opv} (hX : OpIn w X x) (H : StS w0 w p g s) (hc : OpenPost w p g r e w1) : OpIn w1 X x := by
  have hu : Upd (fun k => k = p ∨ k = g) w w1 := by
    unfold OpenPost at hc
    rcases hr : r.1 with _ | ⟨a, b, c⟩
    · rw [hr] at hc; exact hc.2.2
    · rw [hr] at hc; obtain ⟨_, _, _, hu⟩ := hc; exact hu
  refine hX.keep hu ?_
  rintro (e | e)
  · exact ty_ne hX H.sto.hp (by decide) e
  · exact ty_ne hX H.sto.hg (by decide) e
theorem same_toldN (k : List ByteArray) (n0 n1 : Nat) (w : World) (A0 A1 : Option Addr) (c0 c1 : Nat) (hk : k.length ≤ 1000000) (hn0 : n0 = k.length) (hn1 : n1 = k.length) (h0 : Kd.C Kd.string w A0 k.length k) (hc0 : k.length ≤ c0) (h1 : Kd.C Kd.string w A1 k.length k) (hc1 : k.length ≤ c1) :
    Calls Tryd.prog 19 #[.slice A0 n0 c0, .slice A1 n1 c1] w fun e w' => e = .returned (.bool true) ∧ Drawn0 w w' := by
  subst hn0 hn1
  exact same_told k w A0 A1 c0 c1 hk h0 hc0 h1 hc1

def TrueBelow (w : World) (e : Ending) (w' : World) : Prop := e = .returned (.bool true) ∧ Below w.heap.size w w'
theorem info50f : (Tryd.prog.info? 50).map (fun i => (i.zero, i.size, i.bytes)) = some (some (.agg #[.int .i64 0, .int .i64 0, .int .i64 0, .string ⟨#[]⟩]), 4, 40) := by kernel_rfl
set_option maxHeartbeats 4000000 in
set_option maxRecDepth 100000 in
theorem goes_run (w : World) (n : Nat) (h3 : 3 ≤ n) (h60 : n ≤ 60) (A1 A2 : Option Addr) (c1 c2 : Nat) (l1 l2 : List Opv) (h1 : OpsAt w A1 l1) (h2 : OpsAt w A2 l2) (hl1 : l1.length ≤ 30) (hl2 : l2.length ≤ 30) :
    Calls Tryd.prog 6 #[.int .i64 n, .slice A1 l1.length c1, .slice A2 l2.length c2] w (TrueBelow w) := by
  obtain ⟨s1, o1, G1, L1, n1⟩ := fresh_opened n h3
  have O1 := Aside0.mk o1
  have HG := Aside0.mk G1
  have HL := Aside0.mk L1
  have HN := Aside0.mk n1
  have FO : Aside0 ((freshS n).ok ∧ 1 ≤ (freshS n).n) := ⟨⟨by unfold Sto.ok freshS; dsimp only; omega, by show 1 ≤ n; omega⟩⟩
  have P1 := Aside0.mk h1
  have P2 := Aside0.mk h2
  have i60 : ¬ (60 : Int) < (n : Int) := by omega
  have i1 : ¬ (30 : Int) < (l1.length : Int) := by omega
  have i2 : ¬ (30 : Int) < (l2.length : Int) := by omega
  have i60b : decide ((60 : Int) < (n : Int)) = false := decide_eq_false i60
  have i1b : decide ((30 : Int) < (l1.length : Int)) = false := decide_eq_false i1
  have i2b : decide ((30 : Int) < (l2.length : Int)) = false := decide_eq_false i2
  have i1c : decide (30 < l1.length) = false := decide_eq_false (by omega)
  have i2c : decide (30 < l2.length) = false := decide_eq_false (by omega)
  have i60c : decide (60 < n) = false := decide_eq_false (by omega)
  have H3 := Aside0.mk h3
  have H60 := Aside0.mk h60
  clear o1 G1 L1 n1 h1 h2 i60 i1 i2 h3 h60
  go_enter Tryd.func6, Tryd.ntmps6
  go_upto_region 5 with (first
    | (go_at_call 22; (with_reducible refine (awake_calls _).mono ?_); rintro e wa ⟨rfl, hb⟩; have B1 := Aside0.mk hb; clear hb)
    | (go_at_call 23; (with_reducible refine (size_calls _ _ l1 _ (P1.out.below B1.out)).mono ?_); rintro e wb ⟨⟨r1, rfl⟩, hw⟩; have hw2 := hw.symm; clear hw; subst hw2)
    | (go_at_call 23; (with_reducible refine (size_calls _ _ l2 _ (P2.out.below B1.out)).mono ?_); rintro e wb ⟨⟨r2, rfl⟩, hw⟩; have hw2 := hw.symm; clear hw; subst hw2))
  · go_ret
    exact ⟨rfl, B1.out⟩
  · clear i60b i1b i2b i1c i2c i60c
    go_upto_block 0 with (first
      | (go_at_call 24; (with_reducible refine (new_st n w wa H3.out (Nat.le_trans H60.out (by omega)) B1.out).mono ?_); rintro e wb ⟨rfl, hs, hb⟩; have S1 := Aside0.mk hs; clear hs hb)
      | (go_at_call 24; (with_reducible refine (new_st n w wb H3.out (Nat.le_trans H60.out (by omega)) S1.out.bel).mono ?_); rintro e wn2 ⟨rfl, hs, hb⟩; have n0_ := S1.out.below hb; have S3 := Aside0.mk n0_; have S2 := Aside0.mk hs; have LT := Aside0.mk S1.out.lt; clear hs hb n0_)
      | (go_at_call 25; (with_reducible refine (open_told _ _ _ (freshS n) _ S3.out.sto FO.out.1 FO.out.2 O1.out).mono ?_); rintro e wd hp; obtain ⟨rfl, v1, hs, ht⟩ := S3.out.pair_open S2.out (by have := LT.out; omega) (by have := LT.out; omega) hp; have T1 := Aside0.mk hs; have T2 := Aside0.mk ht; clear hs ht hp)
      | (go_at_call 25; (with_reducible refine (open_told _ _ _ (freshS n) _ T2.out.sto FO.out.1 FO.out.2 O1.out).mono ?_); rintro e we hp; obtain ⟨rfl, v2, hs⟩ := T1.out.opened T2.out (by have := LT.out; omega) (by have := LT.out; omega) hp; have TT := Aside0.mk hs; clear hs hp))
    have a1 : (l1.length : Int) ≤ 30 := by omega
    have a2 : (l2.length : Int) ≤ 30 := by omega
    go_wp2
    go_loopg [13, 15] (l1.length + l2.length) (fun gq v13 v15 wl => ∃ (i q' : Nat) (v v' : Value) (s : Sto) (h nx : Nat) (l : List ByteArray), v15 = .int .i64 i ∧ v13 = .pointer (some ⟨q', 0, none⟩) ∧ Aside0 (i + gq = l1.length + l2.length) ∧ Aside0 (Two w wl (wa.heap.size + 1) wa.heap.size wn2.heap.size v s h nx l (wb.heap.size + 1) wb.heap.size q' v' s h nx l) ∧ Aside0 (GoodP s h nx l) ∧ Aside0 s.live ∧ Aside0 (s.n = n))
    case atStart => exact ⟨0, _, v1, v2, s1, 0, 2, _, rfl, rfl, ⟨by omega⟩, TT, HG, HL, HN⟩
    case round =>
      obtain ⟨i, q', v, v', s, h, nx, l, rfl, rfl, HI, HT, HG, HL, HN⟩ := hrel
      have hI := HI.out
      by_cases hin : i < l1.length + l2.length
      · have t1 : decide ((i : Int) < (l1.length : Int) + (l2.length : Int)) = true := decide_eq_true (by omega)
        go_upto_if 92 with fail
        go_cut [13] (fun v13 wc' => ∃ (q'' : Nat) (v'' : Value) (x : Opv), v13 = .pointer (some ⟨q'', 0, none⟩) ∧ Aside0 (OpIn wc' wr.heap.size x) ∧ Aside0 (Two w wc' (wa.heap.size + 1) wa.heap.size wn2.heap.size v s h nx l (wb.heap.size + 1) wb.heap.size q'' v'' s h nx l))
        case first =>
          by_cases hlt : i < l1.length
          · obtain ⟨ob, oo, hA, hc⟩ := (P1.out.below HT.out.j.bel).2 (by omega)
            obtain ⟨e0, e1, e2, e3⟩ := hc i hlt
            have lob : ob < wr.heap.size := World.block_lt_of_cell? wr _ e0
            have nob : ob ≠ wr.heap.size := by omega
            have hltb : decide ((i : Int) < (l1.length : Int)) = true := decide_eq_true (by omega)
            subst hA
            generalize l1[i] = x at *
            clear hc
            go_wp2
            go_meet
            case rel => exact ⟨_, _, x, rfl, ⟨heap_alloc_new _ _⟩, ⟨HT.out.below (below_alloc1 _ _)⟩⟩
          · obtain ⟨ob, oo, hA, hc⟩ := (P2.out.below HT.out.j.bel).2 (by omega)
            obtain ⟨e0, e1, e2, e3⟩ := hc (i - l1.length) (by omega)
            have lob : ob < wr.heap.size := World.block_lt_of_cell? wr _ e0
            have nob : ob ≠ wr.heap.size := by omega
            have hltb : decide ((i : Int) < (l1.length : Int)) = false := decide_eq_false (by omega)
            have b1 : (i : Int) - (l1.length : Int) = ((i - l1.length : Nat) : Int) := by omega
            have b3 : wrap64 ((i - l1.length : Nat) : Int) = ((i - l1.length : Nat) : Int) := wrap_small _ (by omega)
            have b4 : i - l1.length < l2.length := by omega
            generalize l2[i - l1.length] = x at *
            generalize i - l1.length = i2 at *
            have b2 : wrap64 ((i : Int) - (l1.length : Int)) = (i2 : Int) := by rw [b1]; exact b3
            subst hA
            clear hc
            have hop := Aside0.mk (HG.out.opened (by have := HN.out; have := H60.out; omega))
            have HT2 := Aside0.mk (HT.out.below (below_alloc1 wr (.cells #[.int .i64 x.d, .int .i64 x.n, .int .i64 x.t, .string x.b] 50)))
            have HX2 : Aside0 (OpIn (wr.alloc (.cells #[.int .i64 x.d, .int .i64 x.n, .int .i64 x.t, .string x.b] 50)) wr.heap.size x) := ⟨heap_alloc_new _ _⟩
            go_wp2_with (go_at_call 25; (with_reducible refine (open_told _ _ _ s _ HT2.out.k.at_.sto HG.out.ok (by have := HG.out.n3; omega) hop.out).mono ?_); rintro e wz hp; have n1_ := HX2.out.opened HT2.out.k.store hp; obtain ⟨rfl, v3, hs⟩ := HT2.out.j.opened HT2.out.k.store HT2.out.np HT2.out.ng hp; rw [size_alloc_] at hs; have TT3 := Aside0.mk hs; have HX3 := Aside0.mk n1_; clear hs hp n1_)
            go_meet
            case rel => exact ⟨_, _, x, rfl, HX3, TT3⟩
        case rest =>
          obtain ⟨q'', v'', x, rfl, HX, HT⟩ := hcut
          have xc0 := HX.out.c0
          have xc3 := HX.out.c3
          go_upto_if 113 with fail
          go_cut [17, 18] (fun v17 v18 wc' => ∃ (er : Int) (v v'' : Value) (s : Sto) (h nx : Nat) (l : List ByteArray), v17 = .int .i64 er ∧ v18 = .int .i64 er ∧ Aside0 (Two w wc' (wa.heap.size + 1) wa.heap.size wn2.heap.size v s h nx l (wb.heap.size + 1) wb.heap.size q'' v'' s h nx l) ∧ Aside0 (GoodP s h nx l) ∧ Aside0 s.live ∧ Aside0 (s.n = n))
          case first =>
            have NB := Aside0.mk (HG.out.short (by have := HN.out; have := H60.out; omega))
            by_cases hd : x.d = 1
            · have hdb : (x.d == 1) = true := beq_iff_eq.mpr hd
              obtain ⟨s2, h2, nx2, l2', er, a1, a2, a3, a4⟩ := HG.out.snap_go HL.out x.b
              have AA := Aside0.mk a1
              have G2 := Aside0.mk a2
              have L2 := Aside0.mk a3
              have N2 := Aside0.mk (a4.trans HN.out)
              clear a1 a2 a3 a4 hd
              go_upto_region 25 with fail
              go_region_held3 (fun W => W.cell? ⟨wr.heap.size, 3, none⟩ = some (.string x.b)) (first | (exact xc3) | go_keep)
                (first
                  | (go_at_call 26; (with_reducible refine (snap_told _ _ _ _ _ _ s h nx l x.b _ _ _ _ _ _ (HT.out.below (below_drew _)).j.at_ HG.out.ok (by have := HG.out.n3; omega) HG.out.inv.hh AA.out).mono ?_); rintro e wy hp; have n1_ := (HX.out.below (below_drew _)).call (HT.out.below (below_drew _)).j hp; obtain ⟨rfl, v5, hs⟩ := (HT.out.below (below_drew _)).left hp; have HT5 := Aside0.mk hs; have HX5 := Aside0.mk n1_; clear hs hp n1_ xc3; have xc3 := HX5.out.c3)
                  | (go_at_call 26; (with_reducible refine (snap_told _ _ _ _ _ _ s h nx l x.b _ _ _ _ _ _ HT5.out.k.at_ HG.out.ok (by have := HG.out.n3; omega) HG.out.inv.hh AA.out).mono ?_); rintro e wx hp; have n1_ := HX5.out.call HT5.out.k hp; obtain ⟨rfl, v6, hs⟩ := HT5.out.right hp; have HT6 := Aside0.mk hs; have HX6 := Aside0.mk n1_; clear hs hp n1_ xc3; have xc3 := HX6.out.c3))
              go_wp2
              go_meet
              case rel => exact ⟨er, _, _, s2, h2, nx2, l2', rfl, rfl, HT6, G2, L2, N2⟩
            · have hdb : (x.d == 1) = false := beq_eq_false_iff_ne.mpr hd
              obtain ⟨s2, nx2, l2', er, a1, a2, a3, a4⟩ := HG.out.append_go HL.out x.b
              have AA := Aside0.mk a1
              have G2 := Aside0.mk a2
              have L2 := Aside0.mk a3
              have N2 := Aside0.mk (a4.trans HN.out)
              clear a1 a2 a3 a4 hd
              go_upto_region 26 with fail
              go_region_held3 (fun W => W.cell? ⟨wr.heap.size, 3, none⟩ = some (.string x.b)) (first | (exact xc3) | go_keep)
                (first
                  | (go_at_call 27; (with_reducible refine (append_told _ _ _ _ _ _ s h nx l x.b _ _ _ _ _ (HT.out.below (below_drew _)).j.at_ HG.out.ok (by have := HG.out.n3; omega) HG.out.inv.hh NB.out.2.2.1 (by have := NB.out; omega) AA.out).mono ?_); rintro e wy hp; have n1_ := (HX.out.below (below_drew _)).call (HT.out.below (below_drew _)).j hp; obtain ⟨rfl, v5, hs⟩ := (HT.out.below (below_drew _)).left hp; have HT5 := Aside0.mk hs; have HX5 := Aside0.mk n1_; clear hs hp n1_ xc3; have xc3 := HX5.out.c3)
                  | (go_at_call 27; (with_reducible refine (append_told _ _ _ _ _ _ s h nx l x.b _ _ _ _ _ HT5.out.k.at_ HG.out.ok (by have := HG.out.n3; omega) HG.out.inv.hh NB.out.2.2.1 (by have := NB.out; omega) AA.out).mono ?_); rintro e wx hp; have n1_ := HX5.out.call HT5.out.k hp; obtain ⟨rfl, v6, hs⟩ := HT5.out.right hp; have HT6 := Aside0.mk hs; have HX6 := Aside0.mk n1_; clear hs hp n1_ xc3; have xc3 := HX6.out.c3))
              go_wp2
              go_meet
              case rel => exact ⟨er, _, _, s2, h, nx2, l2', rfl, rfl, HT6, G2, L2, N2⟩
          case rest =>
            obtain ⟨er, v, v'', s, h, nx, l, rfl, rfl, HT, HG, HL, HN⟩ := hcut
            have NB := Aside0.mk (HG.out.short (by have := HN.out; have := H60.out; omega))
            have hne : (er != er) = false := bne_self_eq_false er
            go_wp2_with (first
              | (go_at_call 28; (with_reducible refine (jtext _ _ _ _ _ _ _ _ l HT.out.j.at_ NB.out.1).mono ?_); rintro e wy ⟨rfl, hw⟩; have hw2 := hw.symm; clear hw; subst hw2)
              | (go_at_call 28; (with_reducible refine (jtext _ _ _ _ _ _ _ _ l HT.out.k.at_ NB.out.1).mono ?_); rintro e wy ⟨rfl, hw⟩; have hw2 := hw.symm; clear hw; subst hw2)
              | (go_at_call 29; (with_reducible refine (jrecs _ _ _ _ _ _ _ _ l HT.out.j.at_ NB.out.1 (by have := NB.out; omega)).mono ?_); rintro e wx ⟨A5, c5, rfl, hle, hC, hR, hb⟩; have C5 := Aside0.mk hC; have E5 := Aside0.mk hle; have HT5 := Aside0.mk (HT.out.below hb); clear hC hle hb hR)
              | (go_at_call 29; (with_reducible refine (jrecs _ _ _ _ _ _ _ _ l HT5.out.k.at_ NB.out.1 (by have := NB.out; omega)).mono ?_); rintro e wu ⟨A6, c6, rfl, hle, hC, hR, hb⟩; have C6 := Aside0.mk hC; have E6 := Aside0.mk hle; have C7 := Aside0.mk (Kd.C_below C5.out hb); have HT6 := Aside0.mk (HT5.out.below hb); clear hC hle hb hR)
              | (go_at_call 19; (with_reducible refine (same_toldN (l.drop 1) _ _ _ _ _ _ _ (by rw [List.length_drop]; have := NB.out; omega) (by rw [List.length_drop]) (by rw [List.length_drop]) C7.out E5.out C6.out E6.out).mono ?_); rintro e wt ⟨rfl, hd⟩; have HT7 := Aside0.mk (HT6.out.below (below_drawn hd)); clear hd)
              | (go_at_call 30; (with_reducible refine (jroom _ _ _ _ _ _ _ h nx _ _ HT7.out.j.at_ (by have := HG.out.n3; omega) HG.out.inv.hh NB.out.2.2.1).mono ?_); rintro e ws ⟨rfl, hd⟩; have HT8 := Aside0.mk (HT7.out.below (below_drawn hd)); clear hd)
              | (go_at_call 30; (with_reducible refine (jroom _ _ _ _ _ _ _ h nx _ _ HT8.out.k.at_ (by have := HG.out.n3; omega) HG.out.inv.hh NB.out.2.2.1).mono ?_); rintro e wr9 ⟨rfl, hd⟩; have HT9 := Aside0.mk (HT8.out.below (below_drawn hd)); clear hd))
            go_roundg (gk - 1)
            case measure => omega
            case rel => exact ⟨i + 1, q'', v, v'', s, h, nx, l, by go_num, rfl, ⟨by omega⟩, HT9, HG, HL, HN⟩
      · have t1 : decide ((i : Int) < (l1.length : Int) + (l2.length : Int)) = false := decide_eq_false (by omega)
        go_wp2
        go_ret
        exact ⟨rfl, HT.out.j.bel⟩

set_option maxHeartbeats 2000000 in
set_option maxRecDepth 100000 in
theorem goes_many (w : World) (m : Int) (hm : 60 < m) (v1 v2 : Value) : Calls Tryd.prog 6 #[.int .i64 m, v1, v2] w (TrueBelow w) := by
  have hb : decide (60 < m) = true := decide_eq_true hm
  clear hm
  go_enter Tryd.func6, Tryd.ntmps6
  go_wp2_with (go_at_call 22; (with_reducible refine (awake_calls _).mono ?_); rintro e wa ⟨rfl, hb⟩; have B1 := Aside0.mk hb; clear hb)
  go_ret
  exact ⟨rfl, B1.out⟩
set_option maxHeartbeats 2000000 in
set_option maxRecDepth 100000 in
theorem goes_len1 (w : World) (m : Int) (hm : ¬ 60 < m) (A1 : Option Addr) (k1 c1 : Nat) (hk : 30 < k1) (v2 : Value) : Calls Tryd.prog 6 #[.int .i64 m, .slice A1 k1 c1, v2] w (TrueBelow w) := by
  have hb : decide (60 < m) = false := decide_eq_false hm
  have hb1 : decide ((30 : Int) < (k1 : Int)) = true := decide_eq_true (by omega)
  have hb2 : decide (30 < k1) = true := decide_eq_true hk
  clear hm hk
  go_enter Tryd.func6, Tryd.ntmps6
  go_wp2_with (go_at_call 22; (with_reducible refine (awake_calls _).mono ?_); rintro e wa ⟨rfl, hb⟩; have B1 := Aside0.mk hb; clear hb)
  go_ret
  exact ⟨rfl, B1.out⟩
set_option maxHeartbeats 2000000 in
set_option maxRecDepth 100000 in
theorem goes_len2 (w : World) (m : Int) (hm : ¬ 60 < m) (A1 : Option Addr) (k1 c1 : Nat) (hk1 : ¬ 30 < k1) (A2 : Option Addr) (k2 c2 : Nat) (hk : 30 < k2) : Calls Tryd.prog 6 #[.int .i64 m, .slice A1 k1 c1, .slice A2 k2 c2] w (TrueBelow w) := by
  have hb : decide (60 < m) = false := decide_eq_false hm
  have hb1 : decide ((30 : Int) < (k1 : Int)) = false := decide_eq_false (by omega)
  have hb2 : decide (30 < k1) = false := decide_eq_false hk1
  have hb3 : decide ((30 : Int) < (k2 : Int)) = true := decide_eq_true (by omega)
  have hb4 : decide (30 < k2) = true := decide_eq_true hk
  clear hm hk hk1
  go_enter Tryd.func6, Tryd.ntmps6
  go_wp2_with (go_at_call 22; (with_reducible refine (awake_calls _).mono ?_); rintro e wa ⟨rfl, hb⟩; have B1 := Aside0.mk hb; clear hb)
  go_ret
  exact ⟨rfl, B1.out⟩
set_option maxHeartbeats 2000000 in
set_option maxRecDepth 100000 in
theorem goes_few (w : World) (m : Int) (hm : m < 3) (A1 A2 : Option Addr) (c1 c2 : Nat) (l1 l2 : List Opv) (h1 : OpsAt w A1 l1) (h2 : OpsAt w A2 l2) (hl1 : l1.length ≤ 30) (hl2 : l2.length ≤ 30) :
    Calls Tryd.prog 6 #[.int .i64 m, .slice A1 l1.length c1, .slice A2 l2.length c2] w (TrueBelow w) := by
  have P1 := Aside0.mk h1
  have P2 := Aside0.mk h2
  have i60b : decide (60 < m) = false := decide_eq_false (by omega)
  have i1b : decide ((30 : Int) < (l1.length : Int)) = false := decide_eq_false (by omega)
  have i2b : decide ((30 : Int) < (l2.length : Int)) = false := decide_eq_false (by omega)
  have i1c : decide (30 < l1.length) = false := decide_eq_false (by omega)
  have i2c : decide (30 < l2.length) = false := decide_eq_false (by omega)
  have HM := Aside0.mk (show m < 3 ∨ m > 4096 from .inl hm)
  clear h1 h2 hm hl1 hl2
  go_enter Tryd.func6, Tryd.ntmps6
  go_wp2_with (first
    | (go_at_call 22; (with_reducible refine (awake_calls _).mono ?_); rintro e wa ⟨rfl, hb⟩; have B1 := Aside0.mk hb; clear hb)
    | (go_at_call 23; (with_reducible refine (size_calls _ _ l1 _ (P1.out.below B1.out)).mono ?_); rintro e wb ⟨⟨r1, rfl⟩, hw⟩; have hw2 := hw.symm; clear hw; subst hw2)
    | (go_at_call 23; (with_reducible refine (size_calls _ _ l2 _ (P2.out.below B1.out)).mono ?_); rintro e wb ⟨⟨r2, rfl⟩, hw⟩; have hw2 := hw.symm; clear hw; subst hw2)
    | (go_at_call 24; (with_reducible refine (new_none m _ HM.out).mono ?_); rintro e wb ⟨rfl, hw⟩; have hw2 := hw.symm; clear hw; subst hw2))
  · go_ret
    exact ⟨rfl, B1.out⟩
  · go_ret
    exact ⟨rfl, B1.out⟩
theorem goes_calls (w : World) (m : Int) (A1 A2 : Option Addr) (c1 c2 : Nat) (l1 l2 : List Opv) (h1 : OpsAt w A1 l1) (h2 : OpsAt w A2 l2) :
    Calls Tryd.prog 6 #[.int .i64 m, .slice A1 l1.length c1, .slice A2 l2.length c2] w (TrueBelow w) := by
  by_cases hm : 60 < m
  · exact goes_many w m hm _ _
  · by_cases k1 : 30 < l1.length
    · exact goes_len1 w m hm _ _ _ k1 _
    · by_cases k2 : 30 < l2.length
      · exact goes_len2 w m hm _ _ _ k1 _ _ _ k2
      · by_cases h3 : m < 3
        · exact goes_few w m h3 A1 A2 c1 c2 l1 l2 h1 h2 (by omega) (by omega)
        · obtain ⟨n, rfl⟩ := Int.eq_ofNat_of_zero_le (show 0 ≤ m by omega)
          exact goes_run w n (by omega) (by omega) A1 A2 c1 c2 l1 l2 h1 h2 (by omega) (by omega)

end Go.Proofs.YtnfeknaeikpdmaaDoor.PR
