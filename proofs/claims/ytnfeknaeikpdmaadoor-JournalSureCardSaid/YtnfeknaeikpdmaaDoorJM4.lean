import Derived.Test.YtnfeknaeikpdmaaDoorJM3
import Derived.Deep.RegionLaw
namespace Go.Proofs.YtnfeknaeikpdmaaDoor.PR
open Go.RowKit Go.Proofs.YtnfeknaeikpdmaaDoorW.PrintWords Go.Proofs.YtnfeknaeikpdmaaDoorW.PrintLast Go.Proofs.YtnfeknaeikpdmaaDoorW.PrintMore
attribute [local go_sem] max2_int min2_int max_two min_two max_three min_three max_four min_four
set_option linter.unusedVariables false
set_option linter.unusedSimpArgs false
/-! ### laying, in the journal's words -/
theorem lay_f (b : ByteArray) (m : Bool) (h : b.size ≤ 40000) : Ev (fun k => record_Lay.f k b m) (lay b m, 0) := by
  have := lay_ev b.data.toList m (by rw [B_len]; exact h)
  rw [B_eta, B_len] at this
  exact this
theorem lay_big (b : ByteArray) (m : Bool) (k : Nat) (h : 40000 < b.size) : record_Lay.f k b m = some ([], 4) := by
  unfold record_Lay.f
  rw [blocks_eq, if_neg (by omega)]
  rfl
theorem two_evs {α β : Type} {f : Nat → Option α} {g : Nat → Option β} {x : α} {y : β} (h : Ev f x) (h2 : Ev g y) : ∃ k, f k = some x ∧ g k = some y := by
  obtain ⟨a, ha⟩ := h
  obtain ⟨c, hc⟩ := h2
  exact ⟨max a c, ha _ (Nat.le_max_left _ _), hc _ (Nat.le_max_right _ _)⟩
theorem laying_no (w : World) (q : Nat) (b : ByteArray) (at_ n : Nat) (hat : at_ ≤ n) (hn : n ≤ 10000) (h : 40000 < b.size ∨ n < at_ + many b.size) :
    Calls Tryd.prog 52 #[.pointer (some ⟨q, 0, none⟩), .string b, .int .i64 at_, .int .i64 n] w fun e w' => e = .returned (.tuple #[.slice none 0 0, .int .i64 0, .int .i64 4]) ∧ Below w.heap.size w w' := by
  by_cases c : 40000 < b.size
  · exact laying_err 0 w q b at_ n [] [] 4 4 (lay_big b false 0 c) (lay_big b true 0 c) (by decide)
  · obtain ⟨k, h1, h2⟩ := two_evs (lay_f b false (by omega)) (lay_f b true (by omega))
    refine laying_full k w q b at_ n _ _ 0 h1 h2 ?_
    rw [lay_length]
    have e : (n : Int) - (at_ : Int) = ((n - at_ : Nat) : Int) := by omega
    rw [e, wrap_small _ (by omega)]
    omega
theorem laying_yes (w : World) (p g q : Nat) (s : Sto) (u : Value) (j : Jou) (b : ByteArray) (at_ n : Nat) (hs : StoAt w p g s) (hj : JouAt w q p u j) (hb : b.size ≤ 40000) (he : at_ + many b.size ≤ n) (hn : n ≤ s.n) :
    Calls Tryd.prog 52 #[.pointer (some ⟨q, 0, none⟩), .string b, .int .i64 at_, .int .i64 n] w (LaidPost w q (laySteps s b at_ n) (many b.size)) := by
  have hp := many_pos b.size
  obtain ⟨k, h1, h2⟩ := two_evs (lay_f b false hb) (lay_f b true hb)
  have := laying_ok k w p g q s u j b at_ n _ _ 0 hs hj h1 h2 (by rw [lay_length]; exact he) hn (by rw [lay_length]; exact hp) (by rw [lay_length]; exact hp)
  rw [lay_length, lay_getD b false 0 hp, lay_getD b true 0 hp] at this
  have e : laySteps s b at_ n = behindStep s (at_ + many b.size) n ++ midSteps at_ (lay b false) (many b.size) ++ [((at_ : Int), blk (full b.data.toList false) 0), ((at_ : Int), blk (full b.data.toList true) 0)] := by
    unfold laySteps preSteps
    rw [List.append_assoc, List.append_assoc, List.append_assoc]
    rfl
  rw [e]
  exact this
/-! ### the journal, with its records -/
structure JAt (w : World) (base p g q : Nat) (v : Value) (s : Sto) (j : Jou) (l : List ByteArray) : Prop where
  sto : StoAt w p g s
  jou : JouAt w q p v j
  row : Kd.R Kd.string 9 w base (fun _ => True) v l
  bs : base ≤ w.heap.size
theorem row_keep {S : Nat → Prop} {w w1 : World} {base : Nat} {v : Value} {l : List ByteArray} (h : Kd.R Kd.string 9 w base (fun _ => True) v l) (hu : Upd S w w1) (hS : ∀ k cells, w.heap[k]? = some (.cells cells 9 (0, 0)) → ¬ S k) : Kd.R Kd.string 9 w1 base (fun _ => True) v l :=
  Kd.R_mono (Kd.R_move (Kd.R_bound h) (fun k hk => hu.block k hk.2.2.1 (by
    obtain ⟨_, _, _, q, hq, cells, hc⟩ := hk
    obtain rfl : q = 9 := by simpa [Kd.string, Kd.scalar] using hq
    exact hS k cells hc))) (fun _ _ => trivial)
theorem ty_ne {w : World} {k k' : Nat} {c c' : Array Value} {t t' : TypeId} (h : w.heap[k]? = some (.cells c t (0, 0))) (h' : w.heap[k']? = some (.cells c' t' (0, 0))) (ht : t ≠ t') : k ≠ k' := by
  rintro rfl
  rw [h] at h'
  injection h' with h'
  injection h' with _ h'
  exact ht h'
theorem JAt.apart {w : World} {base p g q : Nat} {v : Value} {s : Sto} {j : Jou} {l : List ByteArray} (h : JAt w base p g q v s j l) (k : Nat) (cells : Array Value) (hk : w.heap[k]? = some (.cells cells 9 (0, 0))) : ¬ (k = p ∨ k = g ∨ k = q) := by
  rintro (rfl | rfl | rfl)
  · exact ty_ne hk h.sto.hp (by decide) rfl
  · exact ty_ne hk h.sto.hg (by decide) rfl
  · exact ty_ne hk h.jou (by decide) rfl
theorem JAt.below {w w1 : World} {base p g q : Nat} {v : Value} {s : Sto} {j : Jou} {l : List ByteArray} (h : JAt w base p g q v s j l) (hb : Below w.heap.size w w1) : JAt w1 base p g q v s j l :=
  ⟨h.sto.keep (Upd.ofBelow (S := fun _ => False) hb) (fun h => h) (fun h => h), h.jou.keep (Upd.ofBelow (S := fun _ => False) hb) (fun h => h), Kd.R_below h.row hb, Nat.le_trans h.bs hb.size⟩
theorem below_drawn {w w1 : World} (h : Drawn0 w w1) : Below w.heap.size w w1 := by
  obtain ⟨⟨n, rfl⟩⟩ := h
  exact ⟨rfl, rfl, rfl, Nat.le_refl _, fun _ _ => rfl⟩
theorem below_drew (w : World) : Below w.heap.size w w.drew := ⟨rfl, rfl, rfl, Nat.le_refl _, fun _ _ => rfl⟩
theorem JAt.own {w : World} {base p g q : Nat} {v : Value} {s : Sto} {j : Jou} {l : List ByteArray} (h : JAt w base p g q v s j l) : ∀ k, v.ownBlock = some k → base ≤ k ∧ k < w.heap.size ∧ ¬ (k = p ∨ k = g ∨ k = q) := by
  intro k hk
  obtain ⟨inner, ho⟩ := Kd.R_own h.row
  obtain ⟨cells, hc⟩ := own_typed ho k hk
  exact ⟨own_base ho k hk, own_lt ho k hk, h.apart k cells hc⟩
/-- The writing of the three blocks of a journal, its records' own left alone. -/
theorem JAt.upd {w w1 : World} {base p g q : Nat} {v : Value} {s s1 : Sto} {j j1 : Jou} {l : List ByteArray} (h : JAt w base p g q v s j l) (hu : Upd (fun k => k = p ∨ k = g ∨ k = q) w w1) (hs : StoAt w1 p g s1) (hj : JouAt w1 q p v j1) : JAt w1 base p g q v s1 j1 l :=
  ⟨hs, hj, row_keep h.row hu (fun k cells hk => h.apart k cells hk), Nat.le_trans h.bs hu.size⟩
/-- What a call on a journal may write. -/
def Mine (p g q : Nat) (v : Value) (k : Nat) : Prop := k = p ∨ k = g ∨ k = q ∨ some k = v.ownBlock
def appendP (s : Sto) (h nx : Nat) (l : List ByteArray) (b : ByteArray) : Sto × Nat × List ByteArray × Bool × Int :=
  if 40000 < b.size ∨ eN s.n h < nx + many b.size then (s, nx, l, false, 4)
  else if (runSteps s (laySteps s b nx (eN s.n h))).2 = 0 then ((runSteps s (laySteps s b nx (eN s.n h))).1, nx + many b.size, l ++ [b], false, 0)
  else ((runSteps s (laySteps s b nx (eN s.n h))).1, nx, l, true, (runSteps s (laySteps s b nx (eN s.n h))).2)
def snapP (s : Sto) (h nx : Nat) (l : List ByteArray) (b : ByteArray) : Sto × Nat × Nat × List ByteArray × Bool × Int :=
  if 40000 < b.size ∨ eN s.n (1 - h) < fN s.n (1 - h) + many b.size then (s, h, nx, l, false, 4)
  else if (runSteps s (snapSteps s b (1 - h))).2 = 0 then ((runSteps s (snapSteps s b (1 - h))).1, 1 - h, fN s.n (1 - h) + many b.size, [b], false, 0)
  else ((runSteps s (snapSteps s b (1 - h))).1, h, nx, l, true, (runSteps s (snapSteps s b (1 - h))).2)
/-- What Append and Snap leave. -/
def CallPost (w : World) (base p g q : Nat) (v : Value) (s' : Sto) (j' : Jou) (l' : List ByteArray) (er : Int) (e : Ending) (w' : World) : Prop :=
  e = .returned (.int .i64 er) ∧ ∃ v', JAt w' base p g q v' s' j' l' ∧ Upd (Mine p g q v) w w' ∧ (v'.ownBlock = v.ownBlock ∨ ∃ k, v'.ownBlock = some k ∧ w.heap.size ≤ k)
theorem one_row (w : World) (b : ByteArray) : ReadsRow (fun (x : ByteArray) (cs : List Value) => cs = [Value.string x]) 1 (w.alloc (.cells #[.string b] 9)) (some ⟨w.heap.size, 0, none⟩) 1 [b] := by
  have hc := cell_of (w := w.alloc (.cells #[.string b] 9)) (p := w.heap.size) (heap_alloc_new w _)
  refine ⟨rfl, by decide, fun _ => ⟨_, rfl, fun j p hj => ⟨[.string p], rfl, rfl, fun i u hu => ?_⟩⟩⟩
  cases i with
  | succ i => simp at hu
  | zero =>
    obtain rfl : Value.string p = u := by simpa using hu
    rw [Nat.mul_one, Nat.add_zero, add_plain]
    try rw [Nat.zero_add]
    rw [(hc j).1]
    match j with
    | 0 => simp at hj; subst hj; rfl
    | j + 1 => simp at hj
theorem JouAt.setAll {w : World} {q p : Nat} {v : Value} {j : Jou} (h : JouAt w q p v j) (v1 : Value) : JouAt (w.setCell ⟨q, 3, none⟩ v1) q p v1 j := setCell_at h 3 _
theorem JouAt.setNext {w : World} {q p : Nat} {v : Value} {j : Jou} (h : JouAt w q p v j) (x : Int) : JouAt (w.setCell ⟨q, 2, none⟩ (.int .i64 x)) q p v { j with next := x } := setCell_at h 2 _
theorem JouAt.setHalf {w : World} {q p : Nat} {v : Value} {j : Jou} (h : JouAt w q p v j) (x : Int) : JouAt (w.setCell ⟨q, 1, none⟩ (.int .i64 x)) q p v { j with half := x } := setCell_at h 1 _
theorem upd_grown {w w1 : World} {v : Value} (hg : w.grownBy w1 v.ownBlock) : Upd (fun k => some k = v.ownBlock) w w1 := ⟨hg.os, hg.tape, hg.output, hg.size, fun k hk hn => hg.block k hk hn⟩
/-- A row of strings has been appended to; the journal's blocks are as they were. -/
theorem JAt.grown {w w1 : World} {base p g q : Nat} {v : Value} {s : Sto} {j : Jou} {l : List ByteArray} (h : JAt w base p g q v s j l) (hg : w.grownBy w1 v.ownBlock) : StoAt w1 p g s ∧ JouAt w1 q p v j := by
  have hn : ∀ k, (k = p ∨ k = g ∨ k = q) → ¬ (some k = v.ownBlock) := fun k hk e => (h.own k e.symm).2.2 hk
  exact ⟨h.sto.keep (upd_grown hg) (hn p (.inl rfl)) (hn g (.inr (.inl rfl))), h.jou.keep (upd_grown hg) (hn q (.inr (.inr rfl)))⟩
theorem laySteps_pos (s : Sto) (b : ByteArray) (at_ n : Nat) : 0 < (laySteps s b at_ n).length := by unfold laySteps; simp
theorem laySteps_len (s : Sto) (b : ByteArray) (at_ n : Nat) (h : b.size ≤ 40000) : (laySteps s b at_ n).length ≤ 5000 := by
  have h1 := steps_small s (at_ + many b.size) n at_ (lay b false) (many b.size) (by have := (many_le b.size h).1; omega)
  unfold laySteps preSteps
  rw [List.length_append, List.length_append]
  simp only [List.length_singleton]
  omega

set_option maxHeartbeats 1000000 in
set_option maxRecDepth 100000 in
theorem append_broken (w : World) (p q : Nat) (v : Value) (j : Jou) (b : ByteArray) (h : JouAt w q p v j) (hb : j.broken = true) :
    Calls Tryd.prog 27 #[.pointer (some ⟨q, 0, none⟩), .string b] w fun e w' => e = .returned (.int .i64 9) ∧ w' = w := by
  have c4 := h.c4
  rw [hb] at c4
  clear h hb
  go_enter Tryd.func27, Tryd.ntmps27
  go_wp2
  go_ret
  exact ⟨rfl, rfl⟩
set_option maxHeartbeats 1000000 in
set_option maxRecDepth 100000 in
theorem snap_broken (w : World) (p q : Nat) (v : Value) (j : Jou) (b : ByteArray) (h : JouAt w q p v j) (hb : j.broken = true) :
    Calls Tryd.prog 26 #[.pointer (some ⟨q, 0, none⟩), .string b] w fun e w' => e = .returned (.int .i64 9) ∧ w' = w := by
  have c4 := h.c4
  rw [hb] at c4
  clear h hb
  go_enter Tryd.func26, Tryd.ntmps26
  go_wp2
  go_ret
  exact ⟨rfl, rfl⟩
set_option maxHeartbeats 1000000 in
set_option maxRecDepth 100000 in
theorem append_full (w : World) (base p g q : Nat) (v : Value) (s : Sto) (h nx : Nat) (l : List ByteArray) (b : ByteArray) (hJ : JAt w base p g q v s ⟨h, nx, false⟩ l) (hn : 1 ≤ s.n) (hh : h ≤ 1) (hnx : nx ≤ eN s.n h) (hf : 40000 < b.size ∨ eN s.n h < nx + many b.size) :
    Calls Tryd.prog 27 #[.pointer (some ⟨q, 0, none⟩), .string b] w fun e w' => e = .returned (.int .i64 4) ∧ Below w.heap.size w w' := by
  have c1 : w.cell? ⟨q, 1, none⟩ = some (.int .i64 (h : Int)) := hJ.jou.c1
  have c2 : w.cell? ⟨q, 2, none⟩ = some (.int .i64 (nx : Int)) := hJ.jou.c2
  have c4 : w.cell? ⟨q, 4, none⟩ = some (.bool false) := hJ.jou.c4
  have H := Aside0.mk hJ
  have hle := hJ.sto.le
  have ee := Aside0.mk (endOf_nat s.n h hn hh)
  have e3 := (eN_le s.n h hn hh).2.2
  have hh' : 0 ≤ (h : Int) ∧ (h : Int) ≤ 1 := by omega
  have HF := Aside0.mk hf
  clear hJ hf
  go_enter Tryd.func27, Tryd.ntmps27
  go_upto_region 3 with fail
  go_region_held3 (fun W => W.cell? ⟨q, 1, none⟩ = some (.int .i64 (h : Int)) ∧ W.cell? ⟨q, 2, none⟩ = some (.int .i64 (nx : Int)))
    (first | (exact ⟨k1, k2⟩) | go_keep)
    (first
      | (go_at_call 50; (with_reducible refine (end_calls _ q p g v ⟨h, nx, false⟩ s (H.out.below (below_drew _)).jou (H.out.below (below_drew _)).sto hn (h : Int) hh').mono ?_); rintro e wz ⟨rfl, hd⟩; rw [ee.out]; have n0_ := (H.out.below (below_drew _)).below (below_drawn hd); have n1_ := below_step (below_drew w) (below_drawn hd); clear H hd; have H := Aside0.mk n0_; have HB := Aside0.mk n1_; clear n0_ n1_; have k1 := H.out.jou.c1; have k2 := H.out.jou.c2)
      | (go_at_call 52; (with_reducible refine (laying_no _ q b nx (eN s.n h) hnx (by omega) HF.out).mono ?_); rintro e wy ⟨rfl, hd⟩; have n1_ := below_step HB.out hd; have n0_ := H.out.below hd; clear H hd HB; have H := Aside0.mk n0_; have HB := Aside0.mk n1_; clear n0_ n1_; have k1 := H.out.jou.c1; have k2 := H.out.jou.c2))
  go_wp2
  go_ret
  exact ⟨rfl, HB.out⟩
set_option maxHeartbeats 2000000 in
set_option maxRecDepth 100000 in
theorem append_fails (w : World) (base p g q : Nat) (v : Value) (s : Sto) (h nx : Nat) (l : List ByteArray) (b : ByteArray) (hJ : JAt w base p g q v s ⟨h, nx, false⟩ l) (hok : s.ok) (hn : 1 ≤ s.n) (hh : h ≤ 1) (hb : b.size ≤ 40000) (hr : nx + many b.size ≤ eN s.n h) (s1 : Sto) (er : Int) (hrun : runSteps s (laySteps s b nx (eN s.n h)) = (s1, er)) (her : er ≠ 0) :
    Calls Tryd.prog 27 #[.pointer (some ⟨q, 0, none⟩), .string b] w (CallPost w base p g q v s1 ⟨h, nx, true⟩ l er) := by
  have c1 : w.cell? ⟨q, 1, none⟩ = some (.int .i64 (h : Int)) := hJ.jou.c1
  have c2 : w.cell? ⟨q, 2, none⟩ = some (.int .i64 (nx : Int)) := hJ.jou.c2
  have c4 : w.cell? ⟨q, 4, none⟩ = some (.bool false) := hJ.jou.c4
  have H := Aside0.mk hJ
  have hle := hJ.sto.le
  have ee := Aside0.mk (endOf_nat s.n h hn hh)
  have e3 := (eN_le s.n h hn hh).2.2
  have hh' : 0 ≤ (h : Int) ∧ (h : Int) ≤ 1 := by omega
  have HR := Aside0.mk hrun
  have HOK := Aside0.mk hok
  have ne : (er != 0) = true := bne_iff_ne.mpr her
  have HE := Aside0.mk her
  have hpos := Aside0.mk (laySteps_pos s b nx (eN s.n h))
  have hlen := Aside0.mk (laySteps_len s b nx (eN s.n h) hb)
  clear hJ hok her hrun
  go_enter Tryd.func27, Tryd.ntmps27
  go_upto_region 3 with fail
  go_region_held3 (fun W => W.cell? ⟨q, 1, none⟩ = some (.int .i64 (h : Int)) ∧ W.cell? ⟨q, 2, none⟩ = some (.int .i64 (nx : Int)))
    (first | (exact ⟨k1, k2⟩) | go_keep)
    (first
      | (go_at_call 50; (with_reducible refine (end_calls _ q p g v ⟨h, nx, false⟩ s (H.out.below (below_drew _)).jou (H.out.below (below_drew _)).sto hn (h : Int) hh').mono ?_); rintro e wz ⟨rfl, hd⟩; rw [ee.out]; have n0_ := (H.out.below (below_drew _)).below (below_drawn hd); have n1_ := below_step (below_drew w) (below_drawn hd); clear H hd; have H := Aside0.mk n0_; have HB := Aside0.mk n1_; clear n0_ n1_; have k1 := H.out.jou.c1; have k2 := H.out.jou.c2)
      | (go_at_call 52; (with_reducible refine (laying_yes _ p g q s v ⟨h, nx, false⟩ b nx (eN s.n h) H.out.sto H.out.jou hb hr e3).mono ?_); rintro e wy ⟨vs, xs, rfl, hlaid, hd⟩; have n1_ := below_step HB.out hd; have n0_ := H.out.below hd; clear H hd HB; have H := Aside0.mk n0_; have HB := Aside0.mk n1_; clear n0_ n1_; obtain ⟨bs, cs, ev, hst, _⟩ := hlaid.at hpos.out; subst ev; have HST := Aside0.mk hst; clear hst hlaid; have k1 := H.out.jou.c1; have k2 := H.out.jou.c2))
  have hdo := Aside0.mk (do_calls wy q p g bs cs v ⟨h, nx, false⟩ s (laySteps s b nx (eN s.n h)) H.out.jou H.out.sto HOK.out HST.out (Nat.le_trans hlen.out (by omega)))
  go_wp2_with (go_at_call 53; (with_reducible refine hdo.out.mono ?_); rintro e wd ⟨rfl, hs1, hj1, hu1⟩; rw [HR.out] at hs1 hj1 ⊢; have H2 := Aside0.mk (H.out.upd hu1 hs1 hj1); have HU := Aside0.mk hu1; clear hs1 hj1 hu1)
  go_ret
  refine ⟨rfl, v, ?_, ?_, .inl rfl⟩
  · have e : brokenIf er false = true := by unfold brokenIf; rw [if_neg HE.out]
    have := H2.out
    rw [e] at this
    exact this
  · exact (Upd.ofBelow HB.out).trans (HU.out.mono (fun k _ hk => by unfold Mine; rcases hk with hk | hk | hk <;> simp [hk]))
theorem append_close {W w1 : World} {base p g q : Nat} {v v1 : Value} {s : Sto} {j : Jou} {l l1 : List ByteArray} (H : JAt W base p g q v s j l) (ho : Kd.R Kd.string 9 w1 base (fun _ => True) v1 l1) (hg : W.grownBy w1 v.ownBlock) (x : Int) :
    JAt ((w1.setCell ⟨q, 3, none⟩ v1).setCell ⟨q, 2, none⟩ (.int .i64 x)) base p g q v1 s { j with next := x } l1 ∧ Upd (Mine p g q v) W ((w1.setCell ⟨q, 3, none⟩ v1).setCell ⟨q, 2, none⟩ (.int .i64 x)) := by
  obtain ⟨hs, hj⟩ := H.grown hg
  have u1 := Upd.setCell w1 ⟨q, 3, none⟩ v1
  have u2 := Upd.setCell (w1.setCell ⟨q, 3, none⟩ v1) ⟨q, 2, none⟩ (.int .i64 x)
  have u : Upd (fun k => k = q) w1 ((w1.setCell ⟨q, 3, none⟩ v1).setCell ⟨q, 2, none⟩ (.int .i64 x)) := u1.trans u2
  have hq := hj.ne hs
  refine ⟨⟨hs.keep u (fun e => hq (.inl e.symm)) (fun e => hq (.inr e.symm)), (hj.setAll v1).setNext x, row_keep ho u (fun k cells hk => ?_), Nat.le_trans H.bs (Nat.le_trans hg.size u.size)⟩, ((upd_grown hg).mono (fun k _ hk => ?_)).trans (u.mono (fun k _ hk => ?_))⟩
  · exact ty_ne hk hj (by decide)
  · exact .inr (.inr (.inr hk))
  · exact .inr (.inr (.inl hk))
theorem slice_of {w : World} {base : Nat} {ok : Nat → Prop} {v : Value} {l : List ByteArray} (h : Kd.R Kd.string 9 w base ok v l) : ∃ A n c, v = .slice A n c := by
  obtain ⟨A, c, e⟩ := Kd.R_slice h
  exact ⟨A, _, c, e⟩
theorem i64_wrap (n : Int) : IntKind.i64.wrap n = wrap64 n := by unfold wrap64; exact IntKind.wrap_i64 n

set_option maxHeartbeats 2000000 in
set_option maxRecDepth 100000 in
theorem append_fine (w : World) (base p g q : Nat) (v : Value) (s : Sto) (h nx : Nat) (l : List ByteArray) (b : ByteArray) (hJ : JAt w base p g q v s ⟨h, nx, false⟩ l) (hok : s.ok) (hn : 1 ≤ s.n) (hh : h ≤ 1) (hb : b.size ≤ 40000) (hr : nx + many b.size ≤ eN s.n h) (s1 : Sto) (hll : l.length ≤ 5000) (hrun : runSteps s (laySteps s b nx (eN s.n h)) = (s1, 0)) :
    Calls Tryd.prog 27 #[.pointer (some ⟨q, 0, none⟩), .string b] w (CallPost w base p g q v s1 ⟨h, (nx + many b.size : Nat), false⟩ (l ++ [b]) 0) := by
  have c1 : w.cell? ⟨q, 1, none⟩ = some (.int .i64 (h : Int)) := hJ.jou.c1
  have c2 : w.cell? ⟨q, 2, none⟩ = some (.int .i64 (nx : Int)) := hJ.jou.c2
  have c4 : w.cell? ⟨q, 4, none⟩ = some (.bool false) := hJ.jou.c4
  have H := Aside0.mk hJ
  have hle := hJ.sto.le
  have ee := Aside0.mk (endOf_nat s.n h hn hh)
  have e3 := (eN_le s.n h hn hh).2.2
  have hh' : 0 ≤ (h : Int) ∧ (h : Int) ≤ 1 := by omega
  have HR := Aside0.mk hrun
  have HOK := Aside0.mk hok
  have HLL := Aside0.mk (show (l.length + 1) * 16 ≤ 140737488355328 by omega)
  have wl : wrap64 ((nx : Int) + (many b.size : Int)) = ((nx + many b.size : Nat) : Int) := by rw [← Int.natCast_add]; exact wrap_small _ (by omega)
  have WI : Aside0 (IntKind.i64.wrap ((nx : Int) + (many b.size : Int)) = ((nx + many b.size : Nat) : Int)) := ⟨(i64_wrap _).trans wl⟩
  have hpos := Aside0.mk (laySteps_pos s b nx (eN s.n h))
  have hlen := Aside0.mk (laySteps_len s b nx (eN s.n h) hb)
  clear hJ hok hrun hll wl
  go_enter Tryd.func27, Tryd.ntmps27
  go_upto_region 3 with fail
  go_region_held3 (fun W => W.cell? ⟨q, 1, none⟩ = some (.int .i64 (h : Int)) ∧ W.cell? ⟨q, 2, none⟩ = some (.int .i64 (nx : Int)))
    (first | (exact ⟨k1, k2⟩) | go_keep)
    (first
      | (go_at_call 50; (with_reducible refine (end_calls _ q p g v ⟨h, nx, false⟩ s (H.out.below (below_drew _)).jou (H.out.below (below_drew _)).sto hn (h : Int) hh').mono ?_); rintro e wz ⟨rfl, hd⟩; rw [ee.out]; have n0_ := (H.out.below (below_drew _)).below (below_drawn hd); have n1_ := below_step (below_drew w) (below_drawn hd); clear H hd; have H := Aside0.mk n0_; have HB := Aside0.mk n1_; clear n0_ n1_; have k1 := H.out.jou.c1; have k2 := H.out.jou.c2)
      | (go_at_call 52; (with_reducible refine (laying_yes _ p g q s v ⟨h, nx, false⟩ b nx (eN s.n h) H.out.sto H.out.jou hb hr e3).mono ?_); rintro e wy ⟨vs, xs, rfl, hlaid, hd⟩; have n1_ := below_step HB.out hd; have n0_ := H.out.below hd; clear H hd HB; have H := Aside0.mk n0_; have HB := Aside0.mk n1_; clear n0_ n1_; obtain ⟨bs, cs, ev, hst, _⟩ := hlaid.at hpos.out; subst ev; have HST := Aside0.mk hst; clear hst hlaid; have k1 := H.out.jou.c1; have k2 := H.out.jou.c2))
  have hdo := Aside0.mk (do_calls wy q p g bs cs v ⟨h, nx, false⟩ s (laySteps s b nx (eN s.n h)) H.out.jou H.out.sto HOK.out HST.out (Nat.le_trans hlen.out (by omega)))
  go_upto_region 9 with (go_at_call 53; (with_reducible refine hdo.out.mono ?_); rintro e wd ⟨rfl, hs1, hj1, hu1⟩; rw [HR.out] at hs1 hj1 ⊢; have H2 := Aside0.mk (H.out.upd hu1 hs1 hj1); have HU := Aside0.mk ((Upd.ofBelow (S := Mine p g q v) HB.out).trans (hu1.mono (fun k _ hk => by unfold Mine; rcases hk with hk | hk | hk <;> simp [hk]))); clear hs1 hj1 hu1 k1 k2)
  have H3 : Aside0 (JAt wd base p g q v s1 ⟨h, nx, false⟩ l) := ⟨H2.out⟩
  have BS := Aside0.mk H3.out.bs
  have k2 : wd.cell? ⟨q, 2, none⟩ = some (.int .i64 (nx : Int)) := H3.out.jou.c2
  have k3 : wd.cell? ⟨q, 3, none⟩ = some v := H3.out.jou.c3
  have f2 := H3.out.jou.fz 2
  have f3 := H3.out.jou.fz 3
  have lq : q < wd.heap.size := World.block_lt_of_cell? wd _ k2
  clear H2 H HST hdo c1 c2 c4
  have H4 := Aside0.mk ((H3.out.below (below_alloc1 wd (.cells #[.string b] 9))).below (below_drew _))
  have HB4 := Aside0.mk (below_step (below_alloc1 wd (.cells #[.string b] 9)) (below_drew _))
  clear H3
  go_region_law (first
      | (refine Kd.R_append_rows_step Kd.string (Rr := fun x cs => cs = [Value.string x]) (w0 := wd) base (by rfl) (.tmp 44) (.tmp 46) 22 9 (.string ⟨#[]⟩) 16 (by rfl) Tryd.underlying22 info9 rfl (by decide) (by omega) v l [b] (some ⟨wd.heap.size, 0, none⟩) 1 1 (fun _ => True) (fun _ => False) (by rfl) (by rfl) H4.out.row (one_row wd b) (fun _ _ h => h) (fun _ hk => hk.elim) (fun _ _ => trivial) (HB4.out.mono BS.out) H4.out.bs HLL.out ?_; intro v1 w1 ho hb1 hg hat; obtain ⟨A1, n1, cc1, ev⟩ := slice_of ho; subst ev; have HO := Aside0.mk ho; have HG := Aside0.mk hg; have HAT := Aside0.mk hat; have j2 := (H4.out.grown hg).2.c2; have j3 := (H4.out.grown hg).2.c3; have g2 := (H4.out.grown hg).2.fz 2; have g3 := (H4.out.grown hg).2.fz 3; clear ho hb1 hg hat))
  all_goals
    go_wp2
    go_ret
    rw [WI.out]
    refine ⟨rfl, _, (append_close H4.out HO.out HG.out _).1, ?_, ?_⟩
    · exact HU.out.trans ((Upd.ofBelow HB4.out).trans (append_close H4.out HO.out HG.out _).2)
    · rcases HAT.out with h5 | ⟨b5, h5, h6⟩
      · exact .inl h5
      · exact .inr ⟨b5, h5, Nat.le_trans (Nat.le_trans HU.out.size HB4.out.size) h6⟩

end Go.Proofs.YtnfeknaeikpdmaaDoor.PR
