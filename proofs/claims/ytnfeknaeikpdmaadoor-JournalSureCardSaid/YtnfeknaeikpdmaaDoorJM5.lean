import Derived.Test.YtnfeknaeikpdmaaDoorJM4
namespace Go.Proofs.YtnfeknaeikpdmaaDoor.PR
open Go.RowKit Go.Proofs.YtnfeknaeikpdmaaDoorW.PrintWords Go.Proofs.YtnfeknaeikpdmaaDoorW.PrintLast Go.Proofs.YtnfeknaeikpdmaaDoorW.PrintMore
attribute [local go_sem] max2_int min2_int max_two min_two max_three min_three max_four min_four
set_option linter.unusedVariables false
set_option linter.unusedSimpArgs false
set_option maxHeartbeats 1000000 in
set_option maxRecDepth 100000 in
theorem snap_full (w : World) (base p g q : Nat) (v : Value) (s : Sto) (h o nx : Nat) (ho : o = 1 - h) (l : List ByteArray) (b : ByteArray) (hJ : JAt w base p g q v s ⟨h, nx, false⟩ l) (hn : 1 ≤ s.n) (hh : h ≤ 1) (hf : 40000 < b.size ∨ eN s.n o < fN s.n o + many b.size) :
    Calls Tryd.prog 26 #[.pointer (some ⟨q, 0, none⟩), .string b] w fun e w' => e = .returned (.int .i64 4) ∧ Below w.heap.size w w' := by
  have c1 : w.cell? ⟨q, 1, none⟩ = some (.int .i64 (h : Int)) := hJ.jou.c1
  have c4 : w.cell? ⟨q, 4, none⟩ = some (.bool false) := hJ.jou.c4
  have H := Aside0.mk hJ
  have hle := hJ.sto.le
  have ee := Aside0.mk (endOf_nat s.n o hn (by omega))
  have ef := Aside0.mk (firstOf_nat s.n o hn (by omega))
  have e3 := eN_le s.n o hn (by omega)
  have hh' : 0 ≤ (o : Int) ∧ (o : Int) ≤ 1 := by omega
  have HF := Aside0.mk hf
  have wo2 : (1 : Int) - (h : Int) = (o : Int) := by omega
  have wo : wrap64 ((1 : Int) - (h : Int)) = (o : Int) := by rw [wo2]; exact wrap_small o (by omega)
  clear hJ hf ho
  go_enter Tryd.func26, Tryd.ntmps26
  go_wp2_with (first
      | (go_at_call 49; (with_reducible refine (first_calls _ q p g v ⟨h, nx, false⟩ s H.out.jou H.out.sto hn (o : Int) hh').mono ?_); rintro e wz ⟨rfl, rfl⟩; rw [ef.out])
      | (go_at_call 50; (with_reducible refine (end_calls _ q p g v ⟨h, nx, false⟩ s H.out.jou H.out.sto hn (o : Int) hh').mono ?_); rintro e wz ⟨rfl, hd⟩; rw [ee.out]; have n0_ := H.out.below (below_drawn hd); have HB := Aside0.mk (below_drawn hd); clear H hd; have H := Aside0.mk n0_; clear n0_)
      | (go_at_call 52; (with_reducible refine (laying_no _ q b (fN s.n o) (eN s.n o) e3.2.1 (by omega) HF.out).mono ?_); rintro e wy ⟨rfl, hd⟩; have n1_ := below_step HB.out hd; clear H hd HB; have HB := Aside0.mk n1_; clear n1_))
  go_ret
  exact ⟨rfl, HB.out⟩
def topS (o : Nat) : ByteArray := (⟨#[UInt8.ofNat o]⟩ : ByteArray)
theorem conv_top (o b : Nat) (W : World) (h : W.cell? ⟨b, 0, none⟩ = some (.int .u8 (o : Int))) (ho : o ≤ 1) : ∀ dst, Tryd.prog.underlying dst = some .string → (convert 39 dst (.slice (some ⟨b, 0, none⟩) 1 1)).run Tryd.prog W = .ok (.string (topS o)) W := by
  intro dst hd
  have := run_convert_bytes_arg (P := Tryd.prog) W 39 5 Tryd.underlying39 Tryd.underlying5 b 0 1 1 [(o : Int)] rfl (fun j hj => by
    obtain rfl : j = 0 := by omega
    exact h) dst hd
  rw [this]
  rcases (by omega : o = 0 ∨ o = 1) with rfl | rfl <;> rfl
theorem top_add (o : Nat) : topS o ++ zeroB.extract 1 64 = topB o := by
  have h1 : topS o = B [UInt8.ofNat o] := rfl
  rw [h1]
  unfold zeroB topB
  rw [B_extract, B_append]
  rfl
theorem top_keep (w : World) (o : Nat) (w1 : World) (hd : Below ((w.alloc (.cells #[.int .u8 (o : Int)] 5)).drew).heap.size ((w.alloc (.cells #[.int .u8 (o : Int)] 5)).drew) w1) : w1.cell? ⟨w.heap.size, 0, none⟩ = some (.int .u8 (o : Int)) ∧ Below w.heap.size w w1 := by
  have h1 := heap_alloc_new w (.cells #[.int .u8 (o : Int)] 5)
  have h2 : w1.heap[w.heap.size]? = some (.cells #[.int .u8 (o : Int)] 5 (0, 0)) := (hd.block w.heap.size (by show w.heap.size < (w.heap.push _).size; simp)).trans h1
  exact ⟨(cell_of h2 0).1, below_step (below_alloc1 w _) (below_ofDrew hd)⟩
theorem snapSteps_len (s : Sto) (b : ByteArray) (o : Nat) (h : b.size ≤ 40000) : 0 < (snapSteps s b o).length ∧ (snapSteps s b o).length ≤ 5001 := by
  have h1 := laySteps_len s b (fN s.n o) (eN s.n o) h
  unfold snapSteps
  rw [List.length_append]
  simp only [List.length_singleton]
  omega
theorem Laid.below {B : Nat} {w w1 : World} {q : Nat} {v : Value} {xs : List (Nat × Nat × Nat)} {ys : List (Int × ByteArray)} (h : Laid B w q v xs ys) (hb : Below w.heap.size w w1) : Laid B w1 q v xs ys :=
  ⟨Kd.R_below h.own hb, h.len, fun k h1 h2 => (h.steps k h1 h2).below hb⟩
theorem Laid.push {B : Nat} {w w1 : World} {q : Nat} {v v1 : Value} {xs : List (Nat × Nat × Nat)} {ys : List (Int × ByteArray)} (h : Laid B w q v xs ys) (x : Nat × Nat × Nat) (y : Int × ByteArray) (hst : StepAt w q y (stepV x)) (ho : Kd.R kStep 91 w1 B (fun k => B ≤ k) v1 (xs ++ [x])) (hg : w.grownBy w1 v.ownBlock) : Laid B w1 q v1 (xs ++ [x]) (ys ++ [y]) := by
  have ty := Kd.R_typed h.own
  have hu := upd_grown hg
  have ne : ∀ (b : Nat) (c : Array Value) (t : TypeId), w.heap[b]? = some (.cells c t (0, 0)) → t ≠ 91 → ¬ (some b = v.ownBlock) := by
    intro b c t hb' ht e
    obtain ⟨cells, hc⟩ := ty b e.symm
    exact ty_ne hb' hc ht rfl
  have stk : ∀ z zv, StepAt w q z zv → StepAt w1 q z zv := by
    rintro z zv ⟨b1, b2, b3, e, h1, h2, h3⟩
    exact ⟨b1, b2, b3, e, (hu.block b1 (lt_of_cells h1) (ne _ _ _ h1 (by decide))).trans h1, (hu.block b2 (lt_of_cells h2) (ne _ _ _ h2 (by decide))).trans h2, (hu.block b3 (lt_of_cells h3) (ne _ _ _ h3 (by decide))).trans h3⟩
  refine ⟨ho, by simp [h.len], fun k h1 h2 => ?_⟩
  by_cases hk : k < xs.length
  · have hk2 : k < ys.length := by rw [← h.len]; exact hk
    rw [List.getElem_append_left hk, List.getElem_append_left hk2]
    exact stk _ _ (h.steps k hk hk2)
  · have hl := h.len
    have hk1 : k = xs.length := by simp at h1; omega
    rw [List.getElem_append_right (by omega), List.getElem_append_right (by omega)]
    simp only [List.getElem_singleton]
    exact stk _ _ hst
theorem JAt.grown91 {w w1 : World} {base p g q : Nat} {v : Value} {s : Sto} {j : Jou} {l : List ByteArray} (h : JAt w base p g q v s j l) {B : Nat} {u : Value} {xs : List (Nat × Nat × Nat)} {ys : List (Int × ByteArray)} (hl : Laid B w q u xs ys) (hg : w.grownBy w1 u.ownBlock) : JAt w1 base p g q v s j l := by
  have ty := Kd.R_typed hl.own
  have ne : ∀ (b : Nat) (c : Array Value) (t : TypeId), w.heap[b]? = some (.cells c t (0, 0)) → t ≠ 91 → ¬ (some b = u.ownBlock) := by
    intro b c t hb' ht e
    obtain ⟨cells, hc⟩ := ty b e.symm
    exact ty_ne hb' hc ht rfl
  exact ⟨h.sto.keep (upd_grown hg) (ne _ _ _ h.sto.hp (by decide)) (ne _ _ _ h.sto.hg (by decide)), h.jou.keep (upd_grown hg) (ne _ _ _ h.jou (by decide)), row_keep h.row (upd_grown hg) (fun k cells hk => ne _ _ _ hk (by decide)), Nat.le_trans h.bs hg.size⟩
theorem one_own (w : World) (b : ByteArray) (base : Nat) (hb : base ≤ w.heap.size) : Kd.R Kd.string 9 (w.alloc (.cells #[.string b] 9)) base (fun _ => True) (.slice (some ⟨w.heap.size, 0, none⟩) 1 1) [b] := by
  refine Kd.R_of_own ?_ (fun _ _ => trivial)
  exact ⟨rfl, .inr ⟨w.heap.size, 1, #[.string b], rfl, hb, heap_alloc_new w _, Nat.le_refl _, by decide, rfl, rfl⟩⟩
theorem size_set (w : World) (a : Addr) (v : Value) : (w.setCell a v).heap.size = w.heap.size := by unfold World.setCell; simp
theorem snap_close {W : World} {base p g q : Nat} {v : Value} {s : Sto} {j : Jou} {l : List ByteArray} (H : JAt W base p g q v s j l) (b : ByteArray) (x y : Int) :
    JAt ((((W.setCell ⟨q, 1, none⟩ (.int .i64 x)).setCell ⟨q, 2, none⟩ (.int .i64 y)).setCell ⟨q, 3, none⟩ (.slice (some ⟨W.heap.size, 0, none⟩) 1 1)).alloc (.cells #[.string b] 9)) base p g q (.slice (some ⟨W.heap.size, 0, none⟩) 1 1) s ⟨x, y, j.broken⟩ [b] ∧
      Upd (Mine p g q v) W ((((W.setCell ⟨q, 1, none⟩ (.int .i64 x)).setCell ⟨q, 2, none⟩ (.int .i64 y)).setCell ⟨q, 3, none⟩ (.slice (some ⟨W.heap.size, 0, none⟩) 1 1)).alloc (.cells #[.string b] 9)) := by
  have hz : (((W.setCell ⟨q, 1, none⟩ (.int .i64 x)).setCell ⟨q, 2, none⟩ (.int .i64 y)).setCell ⟨q, 3, none⟩ (.slice (some ⟨W.heap.size, 0, none⟩) 1 1)).heap.size = W.heap.size := by rw [size_set, size_set, size_set]
  have u : Upd (fun k => k = q) W (((W.setCell ⟨q, 1, none⟩ (.int .i64 x)).setCell ⟨q, 2, none⟩ (.int .i64 y)).setCell ⟨q, 3, none⟩ (.slice (some ⟨W.heap.size, 0, none⟩) 1 1)) :=
    ((Upd.setCell W ⟨q, 1, none⟩ (.int .i64 x)).trans (Upd.setCell _ ⟨q, 2, none⟩ (.int .i64 y))).trans (Upd.setCell _ ⟨q, 3, none⟩ _)
  have hj := ((H.jou.setHalf x).setNext y).setAll (.slice (some ⟨W.heap.size, 0, none⟩) 1 1)
  have hq := H.jou.ne H.sto
  have hs := H.sto.keep u (fun e => hq (.inl e.symm)) (fun e => hq (.inr e.symm))
  have hbs := Nat.le_trans H.bs u.size
  generalize (((W.setCell ⟨q, 1, none⟩ (.int .i64 x)).setCell ⟨q, 2, none⟩ (.int .i64 y)).setCell ⟨q, 3, none⟩ (.slice (some ⟨W.heap.size, 0, none⟩) 1 1)) = W1 at *
  have hb := below_alloc1 W1 (.cells #[.string b] 9)
  have ho := one_own W1 b base hbs
  rw [hz] at ho
  exact ⟨⟨hs.keep (Upd.ofBelow (S := fun _ => False) hb) (fun h => h) (fun h => h), JouAt.keep hj (Upd.ofBelow (S := fun _ => False) hb) (fun h => h), ho, Nat.le_trans hbs hb.size⟩, (u.mono (fun k _ hk => .inr (.inr (.inl hk)))).trans (Upd.ofBelow hb)⟩
theorem snap_set {w : World} {p g q : Nat} {v : Value} (k : Nat) (hk : k = p ∨ k = g ∨ k = q) : Mine p g q v k := by
  rcases hk with hk | hk | hk
  · exact .inl hk
  · exact .inr (.inl hk)
  · exact .inr (.inr (.inl hk))
theorem cells_small16 (x : Nat) (h : x ≤ 5000) : (x + 1) * 8 ≤ 140737488355328 := by omega
theorem write_n (s : Sto) (i : Int) (b : ByteArray) : (s.write i b).1.n = s.n := by
  unfold Sto.write
  by_cases c1 : ¬ (0 ≤ i ∧ i < s.n) ∨ b.size ≠ 64
  · rw [if_pos c1]
  · rw [if_neg c1]
    by_cases c2 : s.down = true
    · rw [if_pos c2]
    · rw [if_neg c2]
      by_cases c3 : s.left = 0
      · rw [if_pos c3]
      · rw [if_neg c3]
theorem runSteps_n (s : Sto) (xs : List (Int × ByteArray)) : (runSteps s xs).1.n = s.n := by
  induction xs generalizing s with
  | nil => rfl
  | cons x r ih =>
    rw [runSteps_cons]
    by_cases c : (s.write x.1 x.2).2 = 0
    · rw [if_pos c, ih]; exact write_n s _ _
    · rw [if_neg c]; exact write_n s _ _
/-- A row that was made behind w0 has been appended to: nothing of w0 has changed. -/
theorem below_laid {w0 w w1 : World} {B q : Nat} {u : Value} {xs : List (Nat × Nat × Nat)} {ys : List (Int × ByteArray)} (hb : Below w0.heap.size w0 w) (hB : w0.heap.size ≤ B) (hg : w.grownBy w1 u.ownBlock) (hl : Laid B w q u xs ys) : Below w0.heap.size w0 w1 := by
  obtain ⟨inner, ho⟩ := Kd.R_own hl.own
  exact (upd_grown hg).below hb (fun k hk => Nat.le_trans hB (own_base ho k hk.symm))
theorem Laid.at2 {B : Nat} {w : World} {q : Nat} {v : Value} {xs : List (Nat × Nat × Nat)} {ys : List (Int × ByteArray)} (h : Laid B w q v xs ys) (hp : 0 < ys.length) : ∃ bs m c, v = .slice (some ⟨bs, 0, none⟩) m c ∧ m = ys.length ∧ StepsAt w q bs ys := by
  obtain ⟨bs, c, e, h1, _⟩ := h.at hp
  exact ⟨bs, _, c, e, rfl, h1⟩
theorem do_calls2 (w : World) (q p g bs m c : Nat) (u : Value) (j : Jou) (s : Sto) (xs : List (Int × ByteArray)) (hj : JouAt w q p u j) (hs : StoAt w p g s) (hok : s.ok) (hx : StepsAt w q bs xs) (hn : xs.length ≤ 1000000) (hm : m = xs.length) :
    Calls Tryd.prog 53 #[.pointer (some ⟨q, 0, none⟩), .slice (some ⟨bs, 0, none⟩) m c] w fun e w' => e = .returned (.int .i64 (runSteps s xs).2) ∧ StoAt w' p g (runSteps s xs).1 ∧ JouAt w' q p u { j with broken := brokenIf (runSteps s xs).2 j.broken } ∧ Upd (fun k => k = p ∨ k = g ∨ k = q) w w' := by
  subst hm
  exact do_calls w q p g bs c u j s xs hj hs hok hx hn

set_option maxHeartbeats 1000000 in
set_option maxRecDepth 100000 in
theorem snap_fails (w : World) (base p g q : Nat) (v : Value) (s : Sto) (h o nx : Nat) (ho : o = 1 - h) (l : List ByteArray) (b : ByteArray) (hJ : JAt w base p g q v s ⟨h, nx, false⟩ l) (hok : s.ok) (hn : 1 ≤ s.n) (hh : h ≤ 1) (hb : b.size ≤ 40000) (hr : fN s.n o + many b.size ≤ eN s.n o) (s1 : Sto) (er : Int) (hrun : runSteps s (snapSteps s b o) = (s1, er)) (her : er ≠ 0) :
    Calls Tryd.prog 26 #[.pointer (some ⟨q, 0, none⟩), .string b] w (CallPost w base p g q v s1 ⟨h, nx, true⟩ l er) := by
  have c1 : w.cell? ⟨q, 1, none⟩ = some (.int .i64 (h : Int)) := hJ.jou.c1
  have c4 : w.cell? ⟨q, 4, none⟩ = some (.bool false) := hJ.jou.c4
  have H := Aside0.mk hJ
  have hle := hJ.sto.le
  have ee := Aside0.mk (endOf_nat s.n o hn (by omega))
  have ef := Aside0.mk (firstOf_nat s.n o hn (by omega))
  have e3 := eN_le s.n o hn (by omega)
  have hh' : 0 ≤ (o : Int) ∧ (o : Int) ≤ 1 := by omega
  have ho1 : o ≤ 1 := by omega
  have wo2 : (1 : Int) - (h : Int) = (o : Int) := by omega
  have wo : wrap64 ((1 : Int) - (h : Int)) = (o : Int) := by rw [wo2]; exact wrap_small o (by omega)
  have HR := Aside0.mk hrun
  have HOK := Aside0.mk hok
  have ne : (er != 0) = true := bne_iff_ne.mpr her
  have HE := Aside0.mk her
  clear hJ ho hrun her
  go_enter Tryd.func26, Tryd.ntmps26
  go_upto_region 7 with (first
      | (go_at_call 49; (with_reducible refine (first_calls _ q p g v ⟨h, nx, false⟩ s H.out.jou H.out.sto hn (o : Int) hh').mono ?_); rintro e wz ⟨rfl, rfl⟩; rw [ef.out])
      | (go_at_call 50; (with_reducible refine (end_calls _ q p g v ⟨h, nx, false⟩ s H.out.jou H.out.sto hn (o : Int) hh').mono ?_); rintro e wz ⟨rfl, hd⟩; rw [ee.out]; have n0_ := H.out.below (below_drawn hd); have HB := Aside0.mk (below_drawn hd); clear H hd; have H := Aside0.mk n0_; clear n0_)
      | (go_at_call 52; (with_reducible refine (laying_yes _ p g q s v ⟨h, nx, false⟩ b (fN s.n o) (eN s.n o) H.out.sto H.out.jou hb hr e3.2.2).mono ?_); rintro e wy ⟨vs, xs, rfl, hlaid, hd⟩; have n1_ := below_step HB.out hd; have n0_ := H.out.below hd; have HD := Aside0.mk hd; have HB0 := Aside0.mk HB.out.size; clear H hd HB; have H := Aside0.mk n0_; have HB := Aside0.mk n1_; clear n0_ n1_; have HL := Aside0.mk hlaid; clear hlaid))
  obtain ⟨bs0, cs0, ev0, _, _⟩ := HL.out.at (laySteps_pos s b (fN s.n o) (eN s.n o))
  subst ev0
  have slen := Aside0.mk (snapSteps_len s b o hb)
  have HXL := Aside0.mk (cells_small16 xs.length (by rw [HL.out.len]; exact laySteps_len s b _ _ hb))
  clear c1 c4 wo wo2
  have u8o : IntKind.u8.wrap (o : Int) = (o : Int) := by rw [IntKind.wrap_u8]; omega
  have cv := fun (W : World) (b : Nat) (h : W.cell? ⟨b, 0, none⟩ = some (.int .u8 (o : Int))) => conv_top o b W h ho1 9 Tryd.underlying9
  have zs := zeroB_size
  have ts : (topS o).size = 1 := rfl
  have tz : (zeroB.extract 1 64).size = 63 := by rw [ByteArray.size_extract, zs]; rfl
  go_cut [9] (fun v9 wc => v9 = .string (topB o) ∧ Aside0 (Below wy.heap.size wy wc))
  case first =>
    go_region_with
      (first
        | (go_at_call 48; (with_reducible refine (zeros_calls _).mono ?_); rintro e wx ⟨rfl, hd⟩; have n0_ := top_keep wy o wx hd; have kx := n0_.1; have n1_ := n0_.2; clear hd n0_; have HX := Aside0.mk n1_; clear n1_)
        | (go_at_call 48; (with_reducible refine (zeros_calls _).mono ?_); rintro e wx ⟨rfl, hd⟩; have n0_ := below_ofDrew hd; have n1_ := below_step n0_ (below_alloc1 wx (.cells #[.int .u8 (o : Int)] 5)); clear hd n0_; have HX := Aside0.mk n1_; clear n1_))
    all_goals
      go_wp2
      go_meet
      case rel => exact ⟨by rw [top_add], HX⟩
  case rest =>
    obtain ⟨rfl, HC⟩ := hcut
    have n0_ := H.out.below HC.out
    have n1_ := HL.out.below HC.out
    have n2_ := below_step HD.out HC.out
    have n3_ := below_step HB.out HC.out
    clear H HL HD HB HC
    have H := Aside0.mk n0_
    have HL := Aside0.mk n1_
    have HD := Aside0.mk n2_
    have HB := Aside0.mk n3_
    clear n0_ n1_ n2_ n3_ cv zs ts tz u8o
    go_wp2_with (first
      | (go_at_call 54; (with_reducible refine (mkwrite_calls _ q (0 : Int) (topB o)).mono ?_); rintro e wv ⟨vv, rfl, hst, hzb⟩; have n0_ := H.out.below hzb; have n1_ := HL.out.below hzb; have n2_ := below_step HD.out hzb; have n3_ := below_step HB.out hzb; clear H HL HD HB hzb; have H := Aside0.mk n0_; have HL := Aside0.mk n1_; have HD := Aside0.mk n2_; have HB := Aside0.mk n3_; clear n0_ n1_ n2_ n3_; have HST := Aside0.mk hst; obtain ⟨b1, b2, b3, ev, _, _, _⟩ := hst; subst ev)
      | ((with_reducible refine gate_builtin (b := .append) (xs := #[.tmp 44, .tmp 48]) rfl ?_); at_builtin; refine Kd.R_append kStep (w0 := wz) wz.heap.size rfl (.tmp 44) (.tmp 48) 87 91 .nilFunc 8 rfl Tryd.underlying87 info91 rfl (by decide) (by omega) (.slice (some ⟨bs0, 0, none⟩) (laySteps s b (fN s.n o) (eN s.n o)).length cs0) xs (b1, b2, b3) [stepV (b1, b2, b3)] (fun k => wz.heap.size ≤ k) (fun _ => False) rfl rfl ?aP (fun _ hk => hk.elim) ?aF ?aO ?aB ?aS ?aL ?_; (case aP => exact rfl); (case aB => exact HD.out); (case aF => exact (fun k hk => Nat.le_trans HD.out.size hk)); (case aO => exact HL.out.own); (case aS => exact HD.out.size); (case aL => exact HXL.out); intro v118 w30 ho hb2 hg hat; have n0_ := H.out.grown91 HL.out hg; have n1_ := HL.out.push (b1, b2, b3) ((0 : Int), topB o) HST.out ho hg; have n2_ := below_laid HB.out HB0.out hg HL.out; clear H HL HB HD ho hb2 hg hat HST; have H := Aside0.mk n0_; have HB := Aside0.mk n2_; obtain ⟨bs2, m2, cs2, ev2, em2, hsa⟩ := n1_.at2 slen.out.1; subst ev2; have HSA : Aside0 (StepsAt w30 q bs2 (snapSteps s b o)) := ⟨hsa⟩; have HM2 : Aside0 (m2 = (snapSteps s b o).length) := ⟨em2⟩; clear n0_ n1_ n2_ hsa em2)
      | (go_at_call 53; (with_reducible refine (do_calls2 _ q p g bs2 m2 cs2 v ⟨h, nx, false⟩ s (snapSteps s b o) H.out.jou H.out.sto HOK.out HSA.out (Nat.le_trans slen.out.2 (by omega)) HM2.out).mono ?_); rintro e wd ⟨rfl, hs1, hj1, hu1⟩; rw [HR.out] at hs1 hj1 ⊢; have H2 := Aside0.mk (H.out.upd hu1 hs1 hj1); have HU := Aside0.mk ((Upd.ofBelow (S := Mine p g q v) HB.out).trans (hu1.mono (fun k _ hk => snap_set (w := wd) k hk))); clear hs1 hj1 hu1 HSA H))
    go_ret
    refine ⟨rfl, v, ?_, HU.out, .inl rfl⟩
    have e : brokenIf er false = true := by unfold brokenIf; rw [if_neg HE.out]
    have := H2.out
    rw [e] at this
    exact this

set_option maxHeartbeats 1000000 in
set_option maxRecDepth 100000 in
theorem snap_fine (w : World) (base p g q : Nat) (v : Value) (s : Sto) (h o nx : Nat) (ho : o = 1 - h) (l : List ByteArray) (b : ByteArray) (hJ : JAt w base p g q v s ⟨h, nx, false⟩ l) (hok : s.ok) (hn : 1 ≤ s.n) (hh : h ≤ 1) (hb : b.size ≤ 40000) (hr : fN s.n o + many b.size ≤ eN s.n o) (s1 : Sto) (hrun : runSteps s (snapSteps s b o) = (s1, 0)) :
    Calls Tryd.prog 26 #[.pointer (some ⟨q, 0, none⟩), .string b] w (CallPost w base p g q v s1 ⟨o, (fN s.n o + many b.size : Nat), false⟩ [b] 0) := by
  have c1 : w.cell? ⟨q, 1, none⟩ = some (.int .i64 (h : Int)) := hJ.jou.c1
  have c4 : w.cell? ⟨q, 4, none⟩ = some (.bool false) := hJ.jou.c4
  have H := Aside0.mk hJ
  have hle := hJ.sto.le
  have ee := Aside0.mk (endOf_nat s.n o hn (by omega))
  have ef := Aside0.mk (firstOf_nat s.n o hn (by omega))
  have e3 := eN_le s.n o hn (by omega)
  have hh' : 0 ≤ (o : Int) ∧ (o : Int) ≤ 1 := by omega
  have ho1 : o ≤ 1 := by omega
  have wo2 : (1 : Int) - (h : Int) = (o : Int) := by omega
  have wo : wrap64 ((1 : Int) - (h : Int)) = (o : Int) := by rw [wo2]; exact wrap_small o (by omega)
  have HR := Aside0.mk hrun
  have HOK := Aside0.mk hok
  have NS := Aside0.mk (show s1.n = s.n from by have := runSteps_n s (snapSteps s b o); rw [hrun] at this; exact this)
  clear hJ ho hrun
  go_enter Tryd.func26, Tryd.ntmps26
  go_upto_region 7 with (first
      | (go_at_call 49; (with_reducible refine (first_calls _ q p g v ⟨h, nx, false⟩ s H.out.jou H.out.sto hn (o : Int) hh').mono ?_); rintro e wz ⟨rfl, rfl⟩; rw [ef.out])
      | (go_at_call 50; (with_reducible refine (end_calls _ q p g v ⟨h, nx, false⟩ s H.out.jou H.out.sto hn (o : Int) hh').mono ?_); rintro e wz ⟨rfl, hd⟩; rw [ee.out]; have n0_ := H.out.below (below_drawn hd); have HB := Aside0.mk (below_drawn hd); clear H hd; have H := Aside0.mk n0_; clear n0_)
      | (go_at_call 52; (with_reducible refine (laying_yes _ p g q s v ⟨h, nx, false⟩ b (fN s.n o) (eN s.n o) H.out.sto H.out.jou hb hr e3.2.2).mono ?_); rintro e wy ⟨vs, xs, rfl, hlaid, hd⟩; have n1_ := below_step HB.out hd; have n0_ := H.out.below hd; have HD := Aside0.mk hd; have HB0 := Aside0.mk HB.out.size; clear H hd HB; have H := Aside0.mk n0_; have HB := Aside0.mk n1_; clear n0_ n1_; have HL := Aside0.mk hlaid; clear hlaid))
  obtain ⟨bs0, cs0, ev0, _, _⟩ := HL.out.at (laySteps_pos s b (fN s.n o) (eN s.n o))
  subst ev0
  have slen := Aside0.mk (snapSteps_len s b o hb)
  have HXL := Aside0.mk (cells_small16 xs.length (by rw [HL.out.len]; exact laySteps_len s b _ _ hb))
  clear c1 c4 wo wo2
  have u8o : IntKind.u8.wrap (o : Int) = (o : Int) := by rw [IntKind.wrap_u8]; omega
  have cv := fun (W : World) (b : Nat) (h : W.cell? ⟨b, 0, none⟩ = some (.int .u8 (o : Int))) => conv_top o b W h ho1 9 Tryd.underlying9
  have zs := zeroB_size
  have ts : (topS o).size = 1 := rfl
  have tz : (zeroB.extract 1 64).size = 63 := by rw [ByteArray.size_extract, zs]; rfl
  go_cut [9] (fun v9 wc => v9 = .string (topB o) ∧ Aside0 (Below wy.heap.size wy wc))
  case first =>
    go_region_with
      (first
        | (go_at_call 48; (with_reducible refine (zeros_calls _).mono ?_); rintro e wx ⟨rfl, hd⟩; have n0_ := top_keep wy o wx hd; have kx := n0_.1; have n1_ := n0_.2; clear hd n0_; have HX := Aside0.mk n1_; clear n1_)
        | (go_at_call 48; (with_reducible refine (zeros_calls _).mono ?_); rintro e wx ⟨rfl, hd⟩; have n0_ := below_ofDrew hd; have n1_ := below_step n0_ (below_alloc1 wx (.cells #[.int .u8 (o : Int)] 5)); clear hd n0_; have HX := Aside0.mk n1_; clear n1_))
    all_goals
      go_wp2
      go_meet
      case rel => exact ⟨by rw [top_add], HX⟩
  case rest =>
    obtain ⟨rfl, HC⟩ := hcut
    have n0_ := H.out.below HC.out
    have n1_ := HL.out.below HC.out
    have n2_ := below_step HD.out HC.out
    have n3_ := below_step HB.out HC.out
    clear H HL HD HB HC
    have H := Aside0.mk n0_
    have HL := Aside0.mk n1_
    have HD := Aside0.mk n2_
    have HB := Aside0.mk n3_
    clear n0_ n1_ n2_ n3_ cv zs ts tz u8o
    go_upto_region 11 with (first
      | (go_at_call 54; (with_reducible refine (mkwrite_calls _ q (0 : Int) (topB o)).mono ?_); rintro e wv ⟨vv, rfl, hst, hzb⟩; have n0_ := H.out.below hzb; have n1_ := HL.out.below hzb; have n2_ := below_step HD.out hzb; have n3_ := below_step HB.out hzb; clear H HL HD HB hzb; have H := Aside0.mk n0_; have HL := Aside0.mk n1_; have HD := Aside0.mk n2_; have HB := Aside0.mk n3_; clear n0_ n1_ n2_ n3_; have HST := Aside0.mk hst; obtain ⟨b1, b2, b3, ev, _, _, _⟩ := hst; subst ev)
      | ((with_reducible refine gate_builtin (b := .append) (xs := #[.tmp 44, .tmp 48]) rfl ?_); at_builtin; refine Kd.R_append kStep (w0 := wz) wz.heap.size rfl (.tmp 44) (.tmp 48) 87 91 .nilFunc 8 rfl Tryd.underlying87 info91 rfl (by decide) (by omega) (.slice (some ⟨bs0, 0, none⟩) (laySteps s b (fN s.n o) (eN s.n o)).length cs0) xs (b1, b2, b3) [stepV (b1, b2, b3)] (fun k => wz.heap.size ≤ k) (fun _ => False) rfl rfl ?aP (fun _ hk => hk.elim) ?aF ?aO ?aB ?aS ?aL ?_; (case aP => exact rfl); (case aB => exact HD.out); (case aF => exact (fun k hk => Nat.le_trans HD.out.size hk)); (case aO => exact HL.out.own); (case aS => exact HD.out.size); (case aL => exact HXL.out); intro v118 w30 ho hb2 hg hat; have n0_ := H.out.grown91 HL.out hg; have n1_ := HL.out.push (b1, b2, b3) ((0 : Int), topB o) HST.out ho hg; have n2_ := below_laid HB.out HB0.out hg HL.out; clear H HL HB HD ho hb2 hg hat HST; have H := Aside0.mk n0_; have HB := Aside0.mk n2_; obtain ⟨bs2, m2, cs2, ev2, em2, hsa⟩ := n1_.at2 slen.out.1; subst ev2; have HSA : Aside0 (StepsAt w30 q bs2 (snapSteps s b o)) := ⟨hsa⟩; have HM2 : Aside0 (m2 = (snapSteps s b o).length) := ⟨em2⟩; clear n0_ n1_ n2_ hsa em2)
      | (go_at_call 53; (with_reducible refine (do_calls2 _ q p g bs2 m2 cs2 v ⟨h, nx, false⟩ s (snapSteps s b o) H.out.jou H.out.sto HOK.out HSA.out (Nat.le_trans slen.out.2 (by omega)) HM2.out).mono ?_); rintro e wd ⟨rfl, hs1, hj1, hu1⟩; rw [HR.out] at hs1 hj1 ⊢; have H2 := Aside0.mk (H.out.upd hu1 hs1 hj1); have HU := Aside0.mk ((Upd.ofBelow (S := Mine p g q v) HB.out).trans (hu1.mono (fun k _ hk => snap_set (w := wd) k hk))); clear hs1 hj1 hu1 HSA H))
    have H3 : Aside0 (JAt wd base p g q v s1 ⟨h, nx, false⟩ l) := ⟨H2.out⟩
    have hns : s1.n = s.n := NS.out
    have k1 : wd.cell? ⟨q, 1, none⟩ = some (.int .i64 (h : Int)) := H3.out.jou.c1
    have k2 : wd.cell? ⟨q, 2, none⟩ = some (.int .i64 (nx : Int)) := H3.out.jou.c2
    have k3 : wd.cell? ⟨q, 3, none⟩ = some v := H3.out.jou.c3
    have f1 := H3.out.jou.fz 1
    have f2 := H3.out.jou.fz 2
    have f3 := H3.out.jou.fz 3
    have lq : q < wd.heap.size := World.block_lt_of_cell? wd _ k2
    have hn1 : 1 ≤ s1.n := by omega
    have ef1 := Aside0.mk (show firstOf s1.n (o : Int) = (fN s.n o : Int) from by rw [hns]; exact ef.out)
    have wl : (fN s.n o : Int) + (many b.size : Int) = ((fN s.n o + many b.size : Nat) : Int) := by omega
    have wl2 : wrap64 ((fN s.n o + many b.size : Nat) : Int) = ((fN s.n o + many b.size : Nat) : Int) := wrap_small _ (by omega)
    have wl3 : wrap64 ((fN s.n o : Int) + (many b.size : Int)) = ((fN s.n o + many b.size : Nat) : Int) := by rw [wl]; exact wl2
    clear H2 hns wl wl2
    go_wp2_with (go_at_call 49; (with_reducible refine (first_calls _ q p g v ⟨h, nx, false⟩ s1 H3.out.jou H3.out.sto hn1 (o : Int) hh').mono ?_); rintro e wz2 ⟨rfl, rfl⟩; rw [ef1.out])
    go_ret
    refine ⟨rfl, _, (snap_close H3.out b _ _).1, ?_, .inr ⟨_, rfl, Nat.le_trans HU.out.size (Nat.le_refl _)⟩⟩
    exact HU.out.trans (snap_close H3.out b _ _).2

end Go.Proofs.YtnfeknaeikpdmaaDoor.PR
