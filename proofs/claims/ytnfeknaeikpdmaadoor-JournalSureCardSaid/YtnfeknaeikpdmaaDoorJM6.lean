import Derived.Test.YtnfeknaeikpdmaaDoorJM5
namespace Go.Proofs.YtnfeknaeikpdmaaDoor.PR
open Go.RowKit Go.Proofs.YtnfeknaeikpdmaaDoorW.PrintWords Go.Proofs.YtnfeknaeikpdmaaDoorW.PrintLast Go.Proofs.YtnfeknaeikpdmaaDoorW.PrintMore
attribute [local go_sem] max2_int min2_int max_two min_two max_three min_three max_four min_four
set_option linter.unusedVariables false
set_option linter.unusedSimpArgs false
set_option maxHeartbeats 1000000 in
set_option maxRecDepth 100000 in
theorem read_no (w : World) (p g q : Nat) (v : Value) (s : Sto) (j : Jou) (hj : JouAt w q p v j) (hs : StoAt w p g s) (at_ n : Nat) (hat : at_ < s.n) (m : Bool) (k er : Int) (hh : headR (blk s.F at_) = (m, k, er)) (he : er ≠ 0 ∨ (er = 0 ∧ m = false)) :
    Calls Tryd.prog 51 #[.pointer (some ⟨q, 0, none⟩), .int .i64 at_, .int .i64 n] w fun e w' => e = .returned (.tuple #[.string (⟨#[]⟩ : ByteArray), .int .i64 0, .int .i64 er]) ∧ Below w.heap.size w w' := by
  obtain ⟨f, hf⟩ := (head_ev (blk s.F at_)).1
  have hf := hf f (Nat.le_refl _)
  rw [hh] at hf
  have HF := Aside0.mk hf
  have HS := Aside0.mk hs
  have HJ := Aside0.mk hj
  clear hf hs hj hh
  rcases he with he | ⟨rfl, rfl⟩
  · have ne : (er != 0) = true := bne_iff_ne.mpr he
    clear he
    go_enter Tryd.func51, Tryd.ntmps51
    go_wp2_with (first
      | (go_at_call 47; (with_reducible refine (jblock_calls _ q p g v j s HJ.out HS.out at_ hat).mono ?_); rintro e wz ⟨rfl, rfl⟩)
      | (go_at_call 15; (with_reducible refine (record_Head.calls f _ _ _ _ _ HF.out).mono ?_); rintro e wz ⟨rfl, hd⟩; have HD := Aside0.mk (below_drawn hd); clear hd))
    go_ret3
    exact ⟨rfl, HD.out⟩
  · go_enter Tryd.func51, Tryd.ntmps51
    go_wp2_with (first
      | (go_at_call 47; (with_reducible refine (jblock_calls _ q p g v j s HJ.out HS.out at_ hat).mono ?_); rintro e wz ⟨rfl, rfl⟩)
      | (go_at_call 15; (with_reducible refine (record_Head.calls f _ _ _ _ _ HF.out).mono ?_); rintro e wz ⟨rfl, hd⟩; have HD := Aside0.mk (below_drawn hd); clear hd))
    go_ret3
    exact ⟨rfl, HD.out⟩
set_option maxHeartbeats 1000000 in
set_option maxRecDepth 100000 in
theorem read_over (w : World) (p g q : Nat) (v : Value) (s : Sto) (j : Jou) (hj : JouAt w q p v j) (hs : StoAt w p g s) (at_ n : Nat) (hat : at_ < n) (hn : n ≤ s.n) (k : Nat) (hk : k ≤ 40000) (hh : headR (blk s.F at_) = (true, (k : Int), 0)) (ho : n < at_ + many k) :
    Calls Tryd.prog 51 #[.pointer (some ⟨q, 0, none⟩), .int .i64 at_, .int .i64 n] w fun e w' => e = .returned (.tuple #[.string (⟨#[]⟩ : ByteArray), .int .i64 0, .int .i64 8]) ∧ Below w.heap.size w w' := by
  obtain ⟨f, hf⟩ := (head_ev (blk s.F at_)).1
  have hf := hf f (Nat.le_refl _)
  rw [hh] at hf
  have HF := Aside0.mk hf
  have hB := Aside0.mk (blocks_nat k hk)
  have hle := hs.le
  have e1 : (n : Int) - (at_ : Int) = ((n - at_ : Nat) : Int) := by omega
  have e2 : wrap64 ((n : Int) - (at_ : Int)) = ((n - at_ : Nat) : Int) := by rw [e1]; exact wrap_small _ (by omega)
  have e3 : decide (n - at_ < many k) = true := decide_eq_true (by omega)
  have HS := Aside0.mk hs
  have HJ := Aside0.mk hj
  have hat2 : at_ < s.n := by omega
  clear hf hs hj hh ho
  go_enter Tryd.func51, Tryd.ntmps51
  go_wp2_with (first
      | (go_at_call 47; (with_reducible refine (jblock_calls _ q p g v j s HJ.out HS.out at_ hat2).mono ?_); rintro e wz ⟨rfl, rfl⟩)
      | (go_at_call 15; (with_reducible refine (record_Head.calls f _ _ _ _ _ HF.out).mono ?_); rintro e wy ⟨rfl, hd⟩; have HD := Aside0.mk (below_drawn hd); clear hd)
      | (go_at_call 20; (with_reducible refine (record_Blocks.calls _ _ _ hB.out).mono ?_); rintro e wx ⟨rfl, hd⟩; have HD2 := Aside0.mk (below_step HD.out (below_drawn hd)); clear hd))
  go_ret3
  exact ⟨rfl, HD2.out⟩
def manyBlk (F : List UInt8) (at_ i : Nat) : List ByteArray := (List.range i).map (fun t => blk F (at_ + t))
theorem manyBlk_succ (F : List UInt8) (at_ i : Nat) : manyBlk F at_ (i + 1) = manyBlk F at_ i ++ [blk F (at_ + i)] := by
  unfold manyBlk
  rw [List.range_succ, List.map_append]
  rfl
theorem manyBlk_length (F : List UInt8) (at_ i : Nat) : (manyBlk F at_ i).length = i := by unfold manyBlk; simp
theorem cells_16 (x : Nat) (h : x ≤ 5000) : (x + 1) * 16 ≤ 140737488355328 := by omega
set_option maxHeartbeats 1000000 in
set_option maxRecDepth 100000 in
theorem read_all (w : World) (p g q : Nat) (v : Value) (s : Sto) (j : Jou) (hj : JouAt w q p v j) (hs : StoAt w p g s) (at_ n : Nat) (hat : at_ < n) (hn : n ≤ s.n) (k : Nat) (hk : k ≤ 40000) (hh : headR (blk s.F at_) = (true, (k : Int), 0)) (ho : at_ + many k ≤ n) :
    Calls Tryd.prog 51 #[.pointer (some ⟨q, 0, none⟩), .int .i64 at_, .int .i64 n] w fun e w' => e = .returned (.tuple #[.string (joinR (manyBlk s.F at_ (many k))).1, .int .i64 (many k : Nat), .int .i64 (joinR (manyBlk s.F at_ (many k))).2]) ∧ Below w.heap.size w w' := by
  obtain ⟨f, hf⟩ := (head_ev (blk s.F at_)).1
  have hf := hf f (Nat.le_refl _)
  rw [hh] at hf
  have HF := Aside0.mk hf
  have hB := Aside0.mk (blocks_nat k hk)
  have hle := hs.le
  obtain ⟨M, hM⟩ : ∃ M, M = many k := ⟨_, rfl⟩
  rw [← hM] at ho hB ⊢
  obtain ⟨f2, hf2⟩ := join_g (manyBlk s.F at_ M) (by rw [manyBlk_length]; omega)
  have HF2 := Aside0.mk (hf2 f2 (Nat.le_refl _))
  have e1 : (n : Int) - (at_ : Int) = ((n - at_ : Nat) : Int) := by omega
  have e2 : wrap64 ((n : Int) - (at_ : Int)) = ((n - at_ : Nat) : Int) := by rw [e1]; exact wrap_small _ (by omega)
  have e3 : decide (n - at_ < M) = false := decide_eq_false (by omega)
  have HS := Aside0.mk hs
  have HJ := Aside0.mk hj
  have hat2 : at_ < s.n := by omega
  generalize joinR (manyBlk s.F at_ M) = J at *
  obtain ⟨jb, je⟩ := J
  clear hf hs hj hh hf2 hM
  go_enter Tryd.func51, Tryd.ntmps51
  go_upto_block 0 with (first
      | (go_at_call 47; (with_reducible refine (jblock_calls _ q p g v j s HJ.out HS.out at_ hat2).mono ?_); rintro e wz ⟨rfl, hw⟩; have hw2 := hw.symm; clear hw; subst hw2)
      | (go_at_call 15; (with_reducible refine (record_Head.calls f _ _ _ _ _ HF.out).mono ?_); rintro e wy ⟨rfl, hd⟩; have HD := Aside0.mk (below_drawn hd); clear hd)
      | (go_at_call 20; (with_reducible refine (record_Blocks.calls _ _ _ hB.out).mono ?_); rintro e wx ⟨rfl, hd⟩; have HD2 := Aside0.mk (below_step HD.out (below_drawn hd)); clear hd))
  clear e1 e2 e3
  go_wp2
  go_loopg [13, 39] M (fun gq v13 v39 wc => ∃ i : Nat, v39 = .int .i64 i ∧ Aside0 (i + gq = M) ∧ Aside0 (Kd.R Kd.string 9 wc w.heap.size (fun _ => True) v13 (manyBlk s.F at_ i)) ∧ Aside0 (Below w.heap.size w wc))
  case atStart => exact ⟨0, rfl, ⟨by omega⟩, ⟨Kd.R_nil _ _ _ _ _⟩, HD2⟩
  case round =>
    obtain ⟨i, rfl, HI, HR, HW⟩ := hrel
    have hI := HI.out
    obtain ⟨A1, n1, cc1, ev⟩ := slice_of HR.out
    subst ev
    have HS2 := Aside0.mk (HS.out.keep (Upd.ofBelow (S := fun _ => False) HW.out) (fun h => h) (fun h => h))
    have HJ2 := Aside0.mk (HJ.out.keep (Upd.ofBelow (S := fun _ => False) HW.out) (fun h => h))
    by_cases hlt : i < M
    · have wl : (at_ : Int) + (i : Int) = ((at_ + i : Nat) : Int) := by omega
      have wl1 : wrap64 ((at_ + i : Nat) : Int) = ((at_ + i : Nat) : Int) := wrap_small _ (by omega)
      have hai : at_ + i < s.n := by omega
      have HXL := Aside0.mk (cells_16 (manyBlk s.F at_ i).length (by rw [manyBlk_length]; omega))
      have HMS := Aside0.mk (manyBlk_succ s.F at_ i)
      obtain ⟨z, hz⟩ : ∃ z : Nat, z = at_ + i := ⟨_, rfl⟩
      rw [← hz] at wl wl1 hai
      rw [← hz] at HMS
      have wl2 : wrap64 ((at_ : Int) + (i : Int)) = (z : Int) := by rw [wl]; exact wl1
      clear hz
      go_wp2_with (first
        | (go_at_call 47; (with_reducible refine (jblock_calls _ q p g v j s HJ2.out HS2.out z hai).mono ?_); rintro e wz ⟨rfl, rfl⟩)
        | ((with_reducible refine gate_builtin (b := .append) (xs := #[.tmp 42, .tmp 48]) rfl ?_); at_builtin; refine Kd.R_append Kd.string (w0 := w) w.heap.size rfl (.tmp 42) (.tmp 48) 22 9 (.string ⟨#[]⟩) 16 rfl Tryd.underlying22 info9 rfl (by decide) (by omega) (.slice A1 n1 cc1) (manyBlk s.F at_ i) (blk s.F z) [Value.string (blk s.F z)] (fun _ => True) (fun _ => False) rfl rfl ?aP (fun _ hk => hk.elim) ?aF ?aO ?aB ?aS ?aL ?_; (case aP => exact rfl); (case aB => exact HW.out); (case aF => exact (fun k hk => trivial)); (case aO => exact HR.out); (case aS => exact HW.out.size); (case aL => exact HXL.out); intro v118 w30 ho hb2 hg hat; have HO := Aside0.mk ho; have HB2 := Aside0.mk hb2; clear ho hb2 hg hat))
      go_roundg (gk - 1)
      case measure => omega
      case rel => exact ⟨i + 1, by go_num, ⟨by omega⟩, ⟨by rw [HMS.out]; exact HO.out⟩, HB2⟩
    · obtain rfl : i = M := by omega
      obtain ⟨A2, c2, e2, hc2, hr2⟩ := Kd.R_reads HR.out
      have hje : Aside0 (Kd.C Kd.string wr A2 (manyBlk s.F at_ i).length (manyBlk s.F at_ i)) := ⟨hr2⟩
      have hle2 : Aside0 ((manyBlk s.F at_ i).length ≤ c2) := ⟨hc2⟩
      injection e2 with e21 e22 e23
      subst e21 e22 e23
      clear hr2 hc2
      go_wp2_with (go_at_call 13; (with_reducible refine (record_Join.calls f2 _ _ _ _ _ _ hje.out hle2.out HF2.out).mono ?_); rintro e wz ⟨rfl, hd⟩; have HD3 := Aside0.mk (below_step HW.out hd); clear hd)
      go_ret3
      exact ⟨rfl, HD3.out⟩

theorem read_calls (w : World) (p g q : Nat) (v : Value) (s : Sto) (j : Jou) (hj : JouAt w q p v j) (hs : StoAt w p g s) (at_ n : Nat) (hat : at_ < n) (hn : n ≤ s.n) :
    Calls Tryd.prog 51 #[.pointer (some ⟨q, 0, none⟩), .int .i64 at_, .int .i64 n] w fun e w' => e = .returned (.tuple #[.string (readP s.F at_ n).1, .int .i64 ((readP s.F at_ n).2.1 : Nat), .int .i64 (readP s.F at_ n).2.2]) ∧ Below w.heap.size w w' := by
  rcases headR_cases (blk s.F at_) with h | h | ⟨_, h2, h3⟩
  · rcases hx : headR (blk s.F at_) with ⟨m, k, er⟩
    rw [hx] at h
    have e : readP s.F at_ n = ((⟨#[]⟩ : ByteArray), 0, er) := by
      unfold readP
      rw [hx, if_pos (.inl h)]
    rw [e]
    exact read_no w p g q v s j hj hs at_ n (by omega) m k er hx (.inl h)
  · have e : readP s.F at_ n = ((⟨#[]⟩ : ByteArray), 0, 0) := by
      unfold readP
      rw [h, if_pos (.inr rfl)]
    rw [e]
    exact read_no w p g q v s j hj hs at_ n (by omega) false 0 0 h (.inr ⟨rfl, rfl⟩)
  · have h0 : 0 ≤ bt (blk s.F at_) 1 * 256 + bt (blk s.F at_) 2 := by
      have a1 : 0 ≤ bt (blk s.F at_) 1 := by unfold bt; split <;> omega
      have a2 : 0 ≤ bt (blk s.F at_) 2 := by unfold bt; split <;> omega
      omega
    obtain ⟨k, hk⟩ := Int.eq_ofNat_of_zero_le h0
    rw [hk] at h2 h3
    have h3' : headR (blk s.F at_) = (true, (k : Int), 0) := h3
    by_cases c : n < at_ + many k
    · have e : readP s.F at_ n = ((⟨#[]⟩ : ByteArray), 0, 8) := by
        unfold readP
        rw [h3', if_neg (by simp), Int.toNat_natCast, if_pos c]
      rw [e]
      exact read_over w p g q v s j hj hs at_ n hat hn k (by omega) h3' c
    · have e : readP s.F at_ n = ((joinR (manyBlk s.F at_ (many k))).1, many k, (joinR (manyBlk s.F at_ (many k))).2) := by
        unfold readP manyBlk
        rw [h3', if_neg (by simp), Int.toNat_natCast, if_neg c]
      rw [e]
      exact read_all w p g q v s j hj hs at_ n hat hn k (by omega) h3' (by omega)
/-- Append, on a journal that isn't broken. -/
theorem append_calls (w : World) (base p g q : Nat) (v : Value) (s : Sto) (h nx : Nat) (l : List ByteArray) (b : ByteArray) (hJ : JAt w base p g q v s ⟨h, nx, false⟩ l) (hok : s.ok) (hn : 1 ≤ s.n) (hh : h ≤ 1) (hnx : nx ≤ eN s.n h) (hll : l.length ≤ 5000) :
    Calls Tryd.prog 27 #[.pointer (some ⟨q, 0, none⟩), .string b] w (CallPost w base p g q v (appendP s h nx l b).1 ⟨h, (appendP s h nx l b).2.1, (appendP s h nx l b).2.2.2.1⟩ (appendP s h nx l b).2.2.1 (appendP s h nx l b).2.2.2.2) := by
  unfold appendP
  by_cases c : 40000 < b.size ∨ eN s.n h < nx + many b.size
  · rw [if_pos c]
    refine (append_full w base p g q v s h nx l b hJ hn hh hnx c).mono ?_
    rintro e w' ⟨rfl, hb⟩
    exact ⟨rfl, v, hJ.below hb, Upd.ofBelow hb, .inl rfl⟩
  · rw [if_neg c]
    have hb : b.size ≤ 40000 := by omega
    have hr : nx + many b.size ≤ eN s.n h := by omega
    rcases hx : runSteps s (laySteps s b nx (eN s.n h)) with ⟨s1, er⟩
    by_cases c2 : er = 0
    · subst c2
      dsimp only
      rw [if_pos rfl]
      exact append_fine w base p g q v s h nx l b hJ hok hn hh hb hr s1 hll hx
    · dsimp only
      rw [if_neg c2]
      exact append_fails w base p g q v s h nx l b hJ hok hn hh hb hr s1 er hx c2
theorem snap_calls (w : World) (base p g q : Nat) (v : Value) (s : Sto) (h nx : Nat) (l : List ByteArray) (b : ByteArray) (hJ : JAt w base p g q v s ⟨h, nx, false⟩ l) (hok : s.ok) (hn : 1 ≤ s.n) (hh : h ≤ 1) :
    Calls Tryd.prog 26 #[.pointer (some ⟨q, 0, none⟩), .string b] w (CallPost w base p g q v (snapP s h nx l b).1 ⟨(snapP s h nx l b).2.1, (snapP s h nx l b).2.2.1, (snapP s h nx l b).2.2.2.2.1⟩ (snapP s h nx l b).2.2.2.1 (snapP s h nx l b).2.2.2.2.2) := by
  unfold snapP
  by_cases c : 40000 < b.size ∨ eN s.n (1 - h) < fN s.n (1 - h) + many b.size
  · rw [if_pos c]
    refine (snap_full w base p g q v s h (1 - h) nx rfl l b hJ hn hh c).mono ?_
    rintro e w' ⟨rfl, hb⟩
    exact ⟨rfl, v, hJ.below hb, Upd.ofBelow hb, .inl rfl⟩
  · rw [if_neg c]
    have hb : b.size ≤ 40000 := by omega
    have hr : fN s.n (1 - h) + many b.size ≤ eN s.n (1 - h) := by omega
    rcases hx : runSteps s (snapSteps s b (1 - h)) with ⟨s1, er⟩
    by_cases c2 : er = 0
    · subst c2
      dsimp only
      rw [if_pos rfl]
      exact snap_fine w base p g q v s h (1 - h) nx rfl l b hJ hok hn hh hb hr s1 hx
    · dsimp only
      rw [if_neg c2]
      exact snap_fails w base p g q v s h (1 - h) nx rfl l b hJ hok hn hh hb hr s1 er hx c2
/-! ### Open -/
def topOk (T : ByteArray) : Bool := decide (bt T 0 ≤ 1) && ((T.extract 1 64).toList == (zeroB.extract 1 64).toList)
theorem bt_nonneg (b : ByteArray) (i : Int) : 0 ≤ bt b i := by unfold bt; split <;> omega
set_option maxHeartbeats 1000000 in
set_option maxRecDepth 100000 in
theorem open_nil (w : World) : Calls Tryd.prog 25 #[.pointer none] w fun e w' => e = .returned (.tuple #[.pointer none, .int .i64 1]) ∧ w' = w := by
  go_enter Tryd.func25, Tryd.ntmps25
  go_wp2
  go_ret2
  exact ⟨rfl, rfl⟩
theorem new_jou {w : World} {p g : Nat} {s : Sto} (hs : StoAt w p g s) : JAt (w.alloc (.cells #[.pointer (some ⟨p, 0, none⟩), .int .i64 0, .int .i64 0, .slice none 0 0, .bool false] 83)) w.heap.size p g w.heap.size (.slice none 0 0) s ⟨0, 0, false⟩ [] :=
  ⟨hs.keep (Upd.ofBelow (S := fun _ => False) (below_alloc1 w _)) (fun h => h) (fun h => h), heap_alloc_new w _, Kd.R_nil _ _ _ _ _, by rw [size_alloc_]; omega⟩
/-- What Open has made, and whose blocks these are. -/
structure Opening (w wc : World) (p g q : Nat) (v : Value) (s : Sto) (j : Jou) (l : List ByteArray) : Prop where
  at_ : JAt wc w.heap.size p g q v s j l
  bel : Below w.heap.size w wc
theorem Opening.below {w wc w1 : World} {p g q : Nat} {v : Value} {s : Sto} {j : Jou} {l : List ByteArray} (h : Opening w wc p g q v s j l) (hb : Below wc.heap.size wc w1) : Opening w w1 p g q v s j l := ⟨h.at_.below hb, below_step h.bel hb⟩
theorem Opening.set {w wc : World} {p g : Nat} {v : Value} {s : Sto} {j : Jou} {l : List ByteArray} (h : Opening w wc p g w.heap.size v s j l) (i : Nat) (x : Value) (j1 : Jou) (hj : JouAt (wc.setCell ⟨w.heap.size, i, none⟩ x) w.heap.size p v j1) : Opening w (wc.setCell ⟨w.heap.size, i, none⟩ x) p g w.heap.size v s j1 l := by
  have hq := h.at_.jou.ne h.at_.sto
  have u := Upd.setCell wc ⟨w.heap.size, i, none⟩ x
  refine ⟨⟨h.at_.sto.keep u (fun e => hq (.inl e.symm)) (fun e => hq (.inr e.symm)), hj, row_keep h.at_.row u (fun k cells hk => ty_ne hk h.at_.jou (by decide)), by rw [size_set]; exact h.at_.bs⟩, u.below h.bel (fun k hk => by show w.heap.size ≤ k; rw [show k = w.heap.size from hk]; exact Nat.le_refl _)⟩

theorem top_some (T : ByteArray) (hz : T.size = 64) : ∀ h : 0 < T.size, ((T[0]'h).toNat : Int) = bt T 0 := bt_at T 0
theorem jblock0 (w : World) (q p g : Nat) (v : Value) (j : Jou) (s : Sto) (h : JouAt w q p v j) (hs : StoAt w p g s) (hi : 1 ≤ s.n) :
    Calls Tryd.prog 47 #[.pointer (some ⟨q, 0, none⟩), .int .i64 0] w fun e w' => e = .returned (.string (blk s.F 0)) ∧ w' = w := jblock_calls w q p g v j s h hs 0 hi
theorem opening_new {w : World} {p g : Nat} {s : Sto} (hs : StoAt w p g s) : Opening w (w.alloc (.cells #[.pointer (some ⟨p, 0, none⟩), .int .i64 0, .int .i64 0, .slice none 0 0, .bool false] 83)) p g w.heap.size (.slice none 0 0) s ⟨0, 0, false⟩ [] := ⟨new_jou hs, below_alloc1 w _⟩
set_option maxHeartbeats 1000000 in
set_option maxRecDepth 100000 in
theorem open_top (w : World) (p g : Nat) (s : Sto) (hs : StoAt w p g s) (hn : 1 ≤ s.n) (ht : topOk (blk s.F 0) = false) :
    Calls Tryd.prog 25 #[.pointer (some ⟨p, 0, none⟩)] w fun e w' => e = .returned (.tuple #[.pointer none, .int .i64 8]) ∧ Below w.heap.size w w' := by
  have HJ := Aside0.mk (opening_new hs)
  have hTz := blk_size s.F 0 s.n hs.len (by omega)
  have hx5 := top_some (blk s.F 0) hTz
  have zs := zeroB_size
  clear hs
  unfold topOk at ht
  obtain ⟨T, hT⟩ : ∃ T, T = blk s.F 0 := ⟨_, rfl⟩
  rw [← hT] at ht hTz hx5
  have HT := Aside0.mk hT
  clear hT
  by_cases c : bt T 0 ≤ 1
  · have cb : decide (1 < bt T 0) = false := decide_eq_false (by omega)
    rw [decide_eq_true c, Bool.true_and] at ht
    have hne : ((T.extract 1 64).toList != (zeroB.extract 1 64).toList) = true := by unfold bne; rw [ht]; rfl
    clear c
    go_enter Tryd.func25, Tryd.ntmps25
    go_upto_region 5 with (go_at_call 47; (with_reducible refine (jblock0 _ w.heap.size p g (.slice none 0 0) ⟨0, 0, false⟩ s HJ.out.at_.jou HJ.out.at_.sto hn).mono ?_); rintro e wz ⟨rfl, hw⟩; rw [← HT.out]; have hw2 := hw.symm; clear hw; have n0_ := HJ.out; rw [hw2] at n0_; clear HJ hw2; have HJ := Aside0.mk n0_; clear n0_)
    go_region_held3 (fun _ => True) (trivial) ((go_at_call 48; (with_reducible refine (zeros_calls _).mono ?_); rintro e wx ⟨rfl, hd⟩; have n0_ := HJ.out.below (below_ofDrew hd); clear HJ hd; have HJ := Aside0.mk n0_; clear n0_))
    go_wp2
    go_ret2
    exact ⟨rfl, HJ.out.bel⟩
  · have cb : decide (1 < bt T 0) = true := decide_eq_true (by omega)
    clear ht c
    go_enter Tryd.func25, Tryd.ntmps25
    go_upto_region 5 with (go_at_call 47; (with_reducible refine (jblock0 _ w.heap.size p g (.slice none 0 0) ⟨0, 0, false⟩ s HJ.out.at_.jou HJ.out.at_.sto hn).mono ?_); rintro e wz ⟨rfl, hw⟩; rw [← HT.out]; have hw2 := hw.symm; clear hw; have n0_ := HJ.out; rw [hw2] at n0_; clear HJ hw2; have HJ := Aside0.mk n0_; clear n0_)
    go_quiet (fail)
    go_wp2
    go_ret2
    exact ⟨rfl, below_step HJ.out.bel (below_drawn ⟨_, rfl⟩)⟩
theorem readP_le (F : List UInt8) (at_ n : Nat) (h : at_ ≤ n) : at_ + (readP F at_ n).2.1 ≤ n := by
  unfold readP
  by_cases c : (headR (blk F at_)).2.2 ≠ 0 ∨ (headR (blk F at_)).1 = false
  · rw [if_pos c]; exact h
  · rw [if_neg c]
    by_cases c2 : n < at_ + many (headR (blk F at_)).2.1.toNat
    · rw [if_pos c2]; exact h
    · rw [if_neg c2]; dsimp only; omega
theorem scan_step (F : List UInt8) (n d at_ : Nat) (l : List ByteArray) : scan F n (d + 1) at_ l = if at_ < n then (if (readP F at_ n).2.2 ≠ 0 then none else if (readP F at_ n).2.1 = 0 then some (at_, l) else scan F n d (at_ + (readP F at_ n).2.1) (l ++ [(readP F at_ n).1])) else some (at_, l) := rfl
theorem Opening.append {w W w1 : World} {p g : Nat} {v v1 : Value} {s : Sto} {j : Jou} {l l1 : List ByteArray} (h : Opening w W p g w.heap.size v s j l) (ho : Kd.R Kd.string 9 w1 w.heap.size (fun _ => True) v1 l1) (hg : W.grownBy w1 v.ownBlock) (x : Int) :
    Opening w ((w1.setCell ⟨w.heap.size, 3, none⟩ v1).setCell ⟨w.heap.size, 2, none⟩ (.int .i64 x)) p g w.heap.size v1 s { j with next := x } l1 := by
  refine ⟨(append_close h.at_ ho hg x).1, ?_⟩
  have hb := (upd_grown hg).below h.bel (fun k hk => (h.at_.own k hk.symm).1)
  have hq : ∀ k, k = w.heap.size → w.heap.size ≤ k := fun k e => by rw [e]; exact Nat.le_refl _
  have h1 := (Upd.setCell w1 ⟨w.heap.size, 3, none⟩ v1).below hb hq
  exact (Upd.setCell (w1.setCell ⟨w.heap.size, 3, none⟩ v1) ⟨w.heap.size, 2, none⟩ (.int .i64 x)).below h1 hq
theorem slice_ofN {w : World} {base : Nat} {ok : Nat → Prop} {v : Value} {l : List ByteArray} (h : Kd.R Kd.string 9 w base ok v l) : ∃ A c, v = .slice A l.length c := Kd.R_slice h

set_option maxHeartbeats 4000000 in
set_option maxRecDepth 100000 in
theorem open_go (w : World) (p g : Nat) (s : Sto) (hs : StoAt w p g s) (hn : 1 ≤ s.n) (h : Nat) (hh : h ≤ 1) (ht : topOk (blk s.F 0) = true) (hbt : bt (blk s.F 0) 0 = (h : Int)) (nx : Nat) (l : List ByteArray) (hsc : scan s.F (eN s.n h) (s.n + 1) (fN s.n h) [] = some (nx, l)) (hl : l ≠ []) :
    Calls Tryd.prog 25 #[.pointer (some ⟨p, 0, none⟩)] w fun e w' => e = .returned (.tuple #[.pointer (some ⟨w.heap.size, 0, none⟩), .int .i64 0]) ∧ ∃ v, Opening w w' p g w.heap.size v s ⟨h, nx, false⟩ l := by
  have HSC := Aside0.mk hsc
  obtain ⟨b1, b2, b3⟩ := eN_le s.n h hn hh
  have HLE := Aside0.mk (And.intro b1 (And.intro b2 b3))
  clear hsc b1 b2 b3
  have hlz : ((l.length : Int) == 0) = false := beq_eq_false_iff_ne.mpr (by have := List.length_pos_iff.mpr hl; omega)
  clear hl
  have HJ := Aside0.mk (opening_new hs)
  have hTz := blk_size s.F 0 s.n hs.len (by omega)
  have hx5 := top_some (blk s.F 0) hTz
  have zs := zeroB_size
  have hle := hs.le
  clear hs
  unfold topOk at ht
  obtain ⟨T, hT⟩ : ∃ T, T = blk s.F 0 := ⟨_, rfl⟩
  rw [← hT] at ht hTz hx5 hbt
  rw [hbt] at hx5 ht
  have HT := Aside0.mk hT
  clear hT hbt
  have cb : decide (1 < (h : Int)) = false := decide_eq_false (by omega)
  have hne := (Bool.and_eq_true_iff.1 ht).2
  have hne2 : ((T.extract 1 64).toList != (zeroB.extract 1 64).toList) = false := by unfold bne; rw [hne]; rfl
  have wh : wrap64 (h : Int) = (h : Int) := wrap_small h (by omega)
  have hh' : 0 ≤ (h : Int) ∧ (h : Int) ≤ 1 := by omega
  have ef := Aside0.mk (firstOf_nat s.n h hn hh)
  have ee := Aside0.mk (endOf_nat s.n h hn hh)
  clear ht
  go_enter Tryd.func25, Tryd.ntmps25
  go_upto_region 5 with (go_at_call 47; (with_reducible refine (jblock0 _ w.heap.size p g (.slice none 0 0) ⟨0, 0, false⟩ s HJ.out.at_.jou HJ.out.at_.sto hn).mono ?_); rintro e wz ⟨rfl, hw⟩; rw [← HT.out]; have hw2 := hw.symm; clear hw; have n0_ := HJ.out; rw [hw2] at n0_; clear HJ hw2; have HJ := Aside0.mk n0_; clear n0_)
  go_region_held3 (fun _ => True) (trivial) ((go_at_call 48; (with_reducible refine (zeros_calls _).mono ?_); rintro e wx ⟨rfl, hd⟩; have n0_ := HJ.out.below (below_ofDrew hd); clear HJ hd; have HJ := Aside0.mk n0_; clear n0_))
  have d1 := HJ.out.at_.jou.c1
  have g1 := HJ.out.at_.jou.fz 1
  go_upto_region 8 with fail
  have n0_ := HJ.out.set 1 (.int .i64 (h : Int)) ⟨h, 0, false⟩ (HJ.out.at_.jou.setHalf h)
  clear HJ d1 g1
  generalize wx.setCell ⟨w.heap.size, 1, none⟩ (.int .i64 (h : Int)) = w8 at *
  have HJ := Aside0.mk n0_
  clear n0_
  have d1 : w8.cell? ⟨w.heap.size, 1, none⟩ = some (.int .i64 (h : Int)) := HJ.out.at_.jou.c1
  have d2 : w8.cell? ⟨w.heap.size, 2, none⟩ = some (.int .i64 0) := HJ.out.at_.jou.c2
  have g2 := HJ.out.at_.jou.fz 2
  go_upto_region 9 with (go_at_call 49; (with_reducible refine (first_calls _ w.heap.size p g (.slice none 0 0) ⟨h, 0, false⟩ s HJ.out.at_.jou HJ.out.at_.sto hn (h : Int) hh').mono ?_); rintro e wz ⟨rfl, hw⟩; rw [ef.out]; have hw2 := hw.symm; clear hw; subst hw2)
  have n0_ := HJ.out.set 2 (.int .i64 (fN s.n h : Int)) ⟨h, fN s.n h, false⟩ (HJ.out.at_.jou.setNext (fN s.n h : Int))
  clear HJ d1 d2 g2
  generalize w8.setCell ⟨w.heap.size, 2, none⟩ (.int .i64 (fN s.n h : Int)) = w9 at *
  have HJ := Aside0.mk n0_
  clear n0_
  have d1 : w9.cell? ⟨w.heap.size, 1, none⟩ = some (.int .i64 (h : Int)) := HJ.out.at_.jou.c1
  go_upto_block 0 with (go_at_call 50; (with_reducible refine (end_calls _ w.heap.size p g (.slice none 0 0) ⟨h, fN s.n h, false⟩ s HJ.out.at_.jou HJ.out.at_.sto hn (h : Int) hh').mono ?_); rintro e wz ⟨rfl, hd⟩; rw [ee.out]; have n0_ := HJ.out.below (below_drawn hd); clear HJ hd; have HJ := Aside0.mk n0_; clear n0_)
  clear d1 hne hne2 hx5 cb
  go_cut [] (fun wc => ∃ v, Aside0 (Opening w wc p g w.heap.size v s ⟨h, nx, false⟩ l))
  case first =>
   go_wp2
   go_loopg [8] (s.n + 1) (fun gq v8 wc => ∃ (at_ : Nat) (v : Value) (l1 : List ByteArray), Aside0 (eN s.n h < at_ + gq) ∧ Aside0 (fN s.n h ≤ at_ ∧ at_ ≤ eN s.n h) ∧ Aside0 (scan s.F (eN s.n h) gq at_ l1 = some (nx, l)) ∧ Aside0 (l1.length + fN s.n h ≤ at_) ∧ Aside0 (Opening w wc p g w.heap.size v s ⟨h, at_, false⟩ l1))
   case atStart => exact ⟨fN s.n h, .slice none 0 0, [], ⟨by have := HLE.out; omega⟩, ⟨by have := HLE.out; omega⟩, HSC, ⟨by simp⟩, HJ⟩
   case round =>
    obtain ⟨at_, v, l1, H1, H2, H3, H4, HJ⟩ := hrel
    obtain ⟨d, hd⟩ : ∃ d, gk = d + 1 := ⟨gk - 1, by have := H1.out; have := H2.out; omega⟩
    subst hd
    have hsc := H3.out
    rw [scan_step] at hsc
    obtain ⟨A1, c1, ev⟩ := slice_ofN HJ.out.at_.row
    subst ev
    have d2 : wr.cell? ⟨w.heap.size, 2, none⟩ = some (.int .i64 (at_ : Int)) := HJ.out.at_.jou.c2
    by_cases hlt : at_ < eN s.n h
    · rw [if_pos hlt] at hsc
      have hr := Aside0.mk (read_calls wr p g w.heap.size (.slice A1 l1.length c1) s ⟨h, at_, false⟩ HJ.out.at_.jou HJ.out.at_.sto at_ (eN s.n h) hlt HLE.out.2.2)
      have hrl := Aside0.mk (readP_le s.F at_ (eN s.n h) (by omega))
      generalize readP s.F at_ (eN s.n h) = r at *
      obtain ⟨rb, rm, re⟩ := r
      dsimp only at hr hsc hrl
      by_cases ce : re = 0
      · subst ce
        rw [if_neg (by decide)] at hsc
        by_cases cm : rm = 0
        · rw [if_pos cm] at hsc
          subst cm
          injection hsc with hsc
          injection hsc with e1 e2
          subst e1 e2
          go_wp2_with (go_at_call 51; (with_reducible refine hr.out.mono ?_); rintro e wx ⟨rfl, hd⟩; have n0_ := HJ.out.below hd; clear HJ hd; have HJ := Aside0.mk n0_; clear n0_)
          go_meet
          case rel => exact ⟨_, HJ⟩
        · rw [if_neg cm] at hsc
          have HS := Aside0.mk hsc
          have cmb : ((rm : Int) == 0) = false := beq_eq_false_iff_ne.mpr (by omega)
          have HP := Aside0.mk (Nat.pos_of_ne_zero cm)
          have HXL := Aside0.mk (cells_16 l1.length (by have := H4.out; have := H2.out; have := HLE.out; omega))
          have wz2 : Aside0 (wrap64 ((at_ : Int) + (rm : Int)) = ((at_ + rm : Nat) : Int)) := ⟨by rw [← Int.natCast_add]; exact wrap_small _ (by have := hrl.out; have := HLE.out; omega)⟩
          clear hsc cm
          go_wp2_with (first
            | (go_at_call 51; (with_reducible refine hr.out.mono ?_); rintro e wx ⟨rfl, hd⟩; have n0_ := HJ.out.below hd; clear HJ hd; have HJ := Aside0.mk n0_; clear n0_ d2; have d2 : wx.cell? ⟨w.heap.size, 2, none⟩ = some (.int .i64 (at_ : Int)) := HJ.out.at_.jou.c2; have d3 := HJ.out.at_.jou.c3; have g2 := HJ.out.at_.jou.fz 2; have g3 := HJ.out.at_.jou.fz 3)
            | ((with_reducible refine gate_builtin (b := .append) (xs := #[.tmp 74, .tmp 76]) rfl ?_); at_builtin; refine Kd.R_append Kd.string (w0 := w) w.heap.size rfl (.tmp 74) (.tmp 76) 22 9 (.string ⟨#[]⟩) 16 rfl Tryd.underlying22 info9 rfl (by decide) (by omega) (.slice A1 l1.length c1) l1 rb [Value.string rb] (fun _ => True) (fun _ => False) rfl rfl ?aP (fun _ hk => hk.elim) ?aF ?aO ?aB ?aS ?aL ?_; (case aP => exact rfl); (case aB => exact HJ.out.bel); (case aF => exact (fun k hk => trivial)); (case aO => exact HJ.out.at_.row); (case aS => exact HJ.out.at_.bs); (case aL => exact HXL.out); intro v118 w30 ho hb2 hg hat; obtain ⟨A5, n5, c5, e5⟩ := slice_of ho; subst e5; have HO := Aside0.mk ho; have HG := Aside0.mk hg; have n0_ := (HJ.out.at_.grown hg).2; clear ho hb2 hg hat d2 d3 g2 g3; have d2 : w30.cell? ⟨w.heap.size, 2, none⟩ = some (.int .i64 (at_ : Int)) := n0_.c2; have d3 := n0_.c3; have g2 := n0_.fz 2; have g3 := n0_.fz 3; clear n0_))
          go_roundg d
          case measure => omega
          case rel => exact ⟨at_ + rm, _, l1 ++ [rb], ⟨by have := H1.out; have := HP.out; omega⟩, ⟨by have := hrl.out; have := H2.out; omega⟩, HS, ⟨by have := H4.out; have := HP.out; rw [List.length_append]; simp only [List.length_singleton]; omega⟩, ⟨by rw [wz2.out]; exact HJ.out.append HO.out HG.out _⟩⟩
      · rw [if_pos ce] at hsc
        cases hsc
    · rw [if_neg hlt] at hsc
      injection hsc with hsc
      injection hsc with e1 e2
      subst e1 e2
      go_wp2
      go_meet
      case rel => exact ⟨_, HJ⟩
  case rest =>
    obtain ⟨v, HJ⟩ := hcut
    obtain ⟨A1, c1, ev⟩ := slice_ofN HJ.out.at_.row
    subst ev
    have d3 := HJ.out.at_.jou.c3
    go_wp2
    go_ret2
    exact ⟨rfl, _, HJ.out⟩

set_option maxHeartbeats 4000000 in
set_option maxRecDepth 100000 in
theorem open_bad (w : World) (p g : Nat) (s : Sto) (hs : StoAt w p g s) (hn : 1 ≤ s.n) (h : Nat) (hh : h ≤ 1) (ht : topOk (blk s.F 0) = true) (hbt : bt (blk s.F 0) 0 = (h : Int)) (hsc : scan s.F (eN s.n h) (s.n + 1) (fN s.n h) [] = none) :
    Calls Tryd.prog 25 #[.pointer (some ⟨p, 0, none⟩)] w fun e w' => e = .returned (.tuple #[.pointer none, .int .i64 8]) ∧ Below w.heap.size w w' := by
  have HSC := Aside0.mk hsc
  obtain ⟨b1, b2, b3⟩ := eN_le s.n h hn hh
  have HLE := Aside0.mk (And.intro b1 (And.intro b2 b3))
  clear hsc b1 b2 b3
  have HJ := Aside0.mk (opening_new hs)
  have hTz := blk_size s.F 0 s.n hs.len (by omega)
  have hx5 := top_some (blk s.F 0) hTz
  have zs := zeroB_size
  have hle := hs.le
  clear hs
  unfold topOk at ht
  obtain ⟨T, hT⟩ : ∃ T, T = blk s.F 0 := ⟨_, rfl⟩
  rw [← hT] at ht hTz hx5 hbt
  rw [hbt] at hx5 ht
  have HT := Aside0.mk hT
  clear hT hbt
  have cb : decide (1 < (h : Int)) = false := decide_eq_false (by omega)
  have hne := (Bool.and_eq_true_iff.1 ht).2
  have hne2 : ((T.extract 1 64).toList != (zeroB.extract 1 64).toList) = false := by unfold bne; rw [hne]; rfl
  have wh : wrap64 (h : Int) = (h : Int) := wrap_small h (by omega)
  have hh' : 0 ≤ (h : Int) ∧ (h : Int) ≤ 1 := by omega
  have ef := Aside0.mk (firstOf_nat s.n h hn hh)
  have ee := Aside0.mk (endOf_nat s.n h hn hh)
  clear ht
  go_enter Tryd.func25, Tryd.ntmps25
  go_upto_region 5 with (go_at_call 47; (with_reducible refine (jblock0 _ w.heap.size p g (.slice none 0 0) ⟨0, 0, false⟩ s HJ.out.at_.jou HJ.out.at_.sto hn).mono ?_); rintro e wz ⟨rfl, hw⟩; rw [← HT.out]; have hw2 := hw.symm; clear hw; have n0_ := HJ.out; rw [hw2] at n0_; clear HJ hw2; have HJ := Aside0.mk n0_; clear n0_)
  go_region_held3 (fun _ => True) (trivial) ((go_at_call 48; (with_reducible refine (zeros_calls _).mono ?_); rintro e wx ⟨rfl, hd⟩; have n0_ := HJ.out.below (below_ofDrew hd); clear HJ hd; have HJ := Aside0.mk n0_; clear n0_))
  have d1 := HJ.out.at_.jou.c1
  have g1 := HJ.out.at_.jou.fz 1
  go_upto_region 8 with fail
  have n0_ := HJ.out.set 1 (.int .i64 (h : Int)) ⟨h, 0, false⟩ (HJ.out.at_.jou.setHalf h)
  clear HJ d1 g1
  generalize wx.setCell ⟨w.heap.size, 1, none⟩ (.int .i64 (h : Int)) = w8 at *
  have HJ := Aside0.mk n0_
  clear n0_
  have d1 : w8.cell? ⟨w.heap.size, 1, none⟩ = some (.int .i64 (h : Int)) := HJ.out.at_.jou.c1
  have d2 : w8.cell? ⟨w.heap.size, 2, none⟩ = some (.int .i64 0) := HJ.out.at_.jou.c2
  have g2 := HJ.out.at_.jou.fz 2
  go_upto_region 9 with (go_at_call 49; (with_reducible refine (first_calls _ w.heap.size p g (.slice none 0 0) ⟨h, 0, false⟩ s HJ.out.at_.jou HJ.out.at_.sto hn (h : Int) hh').mono ?_); rintro e wz ⟨rfl, hw⟩; rw [ef.out]; have hw2 := hw.symm; clear hw; subst hw2)
  have n0_ := HJ.out.set 2 (.int .i64 (fN s.n h : Int)) ⟨h, fN s.n h, false⟩ (HJ.out.at_.jou.setNext (fN s.n h : Int))
  clear HJ d1 d2 g2
  generalize w8.setCell ⟨w.heap.size, 2, none⟩ (.int .i64 (fN s.n h : Int)) = w9 at *
  have HJ := Aside0.mk n0_
  clear n0_
  have d1 : w9.cell? ⟨w.heap.size, 1, none⟩ = some (.int .i64 (h : Int)) := HJ.out.at_.jou.c1
  go_upto_block 0 with (go_at_call 50; (with_reducible refine (end_calls _ w.heap.size p g (.slice none 0 0) ⟨h, fN s.n h, false⟩ s HJ.out.at_.jou HJ.out.at_.sto hn (h : Int) hh').mono ?_); rintro e wz ⟨rfl, hd⟩; rw [ee.out]; have n0_ := HJ.out.below (below_drawn hd); clear HJ hd; have HJ := Aside0.mk n0_; clear n0_)
  clear d1 hne hne2 hx5 cb
  go_wp2
  go_loopg [8] (s.n + 1) (fun gq v8 wc => ∃ (at_ : Nat) (v : Value) (l1 : List ByteArray), Aside0 (eN s.n h < at_ + gq) ∧ Aside0 (fN s.n h ≤ at_ ∧ at_ ≤ eN s.n h) ∧ Aside0 (scan s.F (eN s.n h) gq at_ l1 = none) ∧ Aside0 (l1.length + fN s.n h ≤ at_) ∧ Aside0 (Opening w wc p g w.heap.size v s ⟨h, at_, false⟩ l1))
  case atStart => exact ⟨fN s.n h, .slice none 0 0, [], ⟨by have := HLE.out; omega⟩, ⟨by have := HLE.out; omega⟩, HSC, ⟨by simp⟩, HJ⟩
  case round =>
    obtain ⟨at_, v, l1, H1, H2, H3, H4, HJ⟩ := hrel
    obtain ⟨d, hd⟩ : ∃ d, gk = d + 1 := ⟨gk - 1, by have := H1.out; have := H2.out; omega⟩
    subst hd
    have hsc := H3.out
    rw [scan_step] at hsc
    obtain ⟨A1, c1, ev⟩ := slice_ofN HJ.out.at_.row
    subst ev
    have d2 : wr.cell? ⟨w.heap.size, 2, none⟩ = some (.int .i64 (at_ : Int)) := HJ.out.at_.jou.c2
    by_cases hlt : at_ < eN s.n h
    · rw [if_pos hlt] at hsc
      have hr := Aside0.mk (read_calls wr p g w.heap.size (.slice A1 l1.length c1) s ⟨h, at_, false⟩ HJ.out.at_.jou HJ.out.at_.sto at_ (eN s.n h) hlt HLE.out.2.2)
      have hrl := Aside0.mk (readP_le s.F at_ (eN s.n h) (by omega))
      generalize readP s.F at_ (eN s.n h) = r at *
      obtain ⟨rb, rm, re⟩ := r
      dsimp only at hr hsc hrl
      by_cases ce : re = 0
      · subst ce
        rw [if_neg (by decide)] at hsc
        by_cases cm : rm = 0
        · rw [if_pos cm] at hsc
          subst cm
          cases hsc
        · rw [if_neg cm] at hsc
          have HS := Aside0.mk hsc
          have cmb : ((rm : Int) == 0) = false := beq_eq_false_iff_ne.mpr (by omega)
          have HP := Aside0.mk (Nat.pos_of_ne_zero cm)
          have HXL := Aside0.mk (cells_16 l1.length (by have := H4.out; have := H2.out; have := HLE.out; omega))
          have wz2 : Aside0 (wrap64 ((at_ : Int) + (rm : Int)) = ((at_ + rm : Nat) : Int)) := ⟨by rw [← Int.natCast_add]; exact wrap_small _ (by have := hrl.out; have := HLE.out; omega)⟩
          clear hsc cm
          go_wp2_with (first
            | (go_at_call 51; (with_reducible refine hr.out.mono ?_); rintro e wx ⟨rfl, hd⟩; have n0_ := HJ.out.below hd; clear HJ hd; have HJ := Aside0.mk n0_; clear n0_ d2; have d2 : wx.cell? ⟨w.heap.size, 2, none⟩ = some (.int .i64 (at_ : Int)) := HJ.out.at_.jou.c2; have d3 := HJ.out.at_.jou.c3; have g2 := HJ.out.at_.jou.fz 2; have g3 := HJ.out.at_.jou.fz 3)
            | ((with_reducible refine gate_builtin (b := .append) (xs := #[.tmp 74, .tmp 76]) rfl ?_); at_builtin; refine Kd.R_append Kd.string (w0 := w) w.heap.size rfl (.tmp 74) (.tmp 76) 22 9 (.string ⟨#[]⟩) 16 rfl Tryd.underlying22 info9 rfl (by decide) (by omega) (.slice A1 l1.length c1) l1 rb [Value.string rb] (fun _ => True) (fun _ => False) rfl rfl ?aP (fun _ hk => hk.elim) ?aF ?aO ?aB ?aS ?aL ?_; (case aP => exact rfl); (case aB => exact HJ.out.bel); (case aF => exact (fun k hk => trivial)); (case aO => exact HJ.out.at_.row); (case aS => exact HJ.out.at_.bs); (case aL => exact HXL.out); intro v118 w30 ho hb2 hg hat; obtain ⟨A5, n5, c5, e5⟩ := slice_of ho; subst e5; have HO := Aside0.mk ho; have HG := Aside0.mk hg; have n0_ := (HJ.out.at_.grown hg).2; clear ho hb2 hg hat d2 d3 g2 g3; have d2 : w30.cell? ⟨w.heap.size, 2, none⟩ = some (.int .i64 (at_ : Int)) := n0_.c2; have d3 := n0_.c3; have g2 := n0_.fz 2; have g3 := n0_.fz 3; clear n0_))
          go_roundg d
          case measure => omega
          case rel => exact ⟨at_ + rm, _, l1 ++ [rb], ⟨by have := H1.out; have := HP.out; omega⟩, ⟨by have := hrl.out; have := H2.out; omega⟩, HS, ⟨by have := H4.out; have := HP.out; rw [List.length_append]; simp only [List.length_singleton]; omega⟩, ⟨by rw [wz2.out]; exact HJ.out.append HO.out HG.out _⟩⟩
      · rw [if_pos ce] at hsc
        have ne : (re != 0) = true := bne_iff_ne.mpr ce
        clear hsc ce
        go_wp2_with (go_at_call 51; (with_reducible refine hr.out.mono ?_); rintro e wx ⟨rfl, hd⟩; have n0_ := HJ.out.below hd; clear HJ hd; have HJ := Aside0.mk n0_; clear n0_)
        go_ret2
        exact ⟨rfl, HJ.out.bel⟩
    · rw [if_neg hlt] at hsc
      cases hsc

theorem opening_upd {w wc w1 : World} {p g : Nat} {v : Value} {s : Sto} {j : Jou} {l : List ByteArray} (h : Opening w wc p g w.heap.size v s j l) (hu : Upd (Mine p g w.heap.size v) wc w1) : Upd (fun k => k = p ∨ k = g) w w1 := by
  have hb := h.bel
  refine ⟨hu.os.trans hb.os, hu.tape.trans hb.tape, hu.output.trans hb.output, Nat.le_trans hb.size hu.size, fun k hk hn => (hu.block k (Nat.lt_of_lt_of_le hk hb.size) ?_).trans (hb.block k hk)⟩
  rintro (h1 | h1 | h1 | h1)
  · exact hn (.inl h1)
  · exact hn (.inr h1)
  · omega
  · have := (h.at_.own k h1.symm).1; omega
set_option maxHeartbeats 4000000 in
set_option maxRecDepth 100000 in
theorem open_new (w : World) (p g : Nat) (s : Sto) (hs : StoAt w p g s) (hn : 1 ≤ s.n) (h : Nat) (hh : h ≤ 1) (ht : topOk (blk s.F 0) = true) (hbt : bt (blk s.F 0) 0 = (h : Int)) (nx : Nat) (hsc : scan s.F (eN s.n h) (s.n + 1) (fN s.n h) [] = some (nx, [])) (hok : s.ok) (s' : Sto) (nx' : Nat) (l' : List ByteArray) (br : Bool) (er : Int) (hap : appendP s h nx [] (⟨#[]⟩ : ByteArray) = (s', nx', l', br, er)) (her : er = 0) :
    Calls Tryd.prog 25 #[.pointer (some ⟨p, 0, none⟩)] w fun e w' => e = .returned (.tuple #[.pointer (some ⟨w.heap.size, 0, none⟩), .int .i64 0]) ∧ ∃ v, JAt w' w.heap.size p g w.heap.size v s' ⟨h, nx', br⟩ l' ∧ Upd (fun k => k = p ∨ k = g) w w' := by
  have HSC := Aside0.mk hsc
  obtain ⟨b1, b2, b3⟩ := eN_le s.n h hn hh
  have HLE := Aside0.mk (And.intro b1 (And.intro b2 b3))
  clear hsc b1 b2 b3
  have HA := Aside0.mk hap
  have HOK := Aside0.mk hok
  have hne0 : (er != 0) = false := by rw [her]; rfl
  subst her
  clear hap hok
  have HJ := Aside0.mk (opening_new hs)
  have hTz := blk_size s.F 0 s.n hs.len (by omega)
  have hx5 := top_some (blk s.F 0) hTz
  have zs := zeroB_size
  have hle := hs.le
  clear hs
  unfold topOk at ht
  obtain ⟨T, hT⟩ : ∃ T, T = blk s.F 0 := ⟨_, rfl⟩
  rw [← hT] at ht hTz hx5 hbt
  rw [hbt] at hx5 ht
  have HT := Aside0.mk hT
  clear hT hbt
  have cb : decide (1 < (h : Int)) = false := decide_eq_false (by omega)
  have hne := (Bool.and_eq_true_iff.1 ht).2
  have hne2 : ((T.extract 1 64).toList != (zeroB.extract 1 64).toList) = false := by unfold bne; rw [hne]; rfl
  have wh : wrap64 (h : Int) = (h : Int) := wrap_small h (by omega)
  have hh' : 0 ≤ (h : Int) ∧ (h : Int) ≤ 1 := by omega
  have ef := Aside0.mk (firstOf_nat s.n h hn hh)
  have ee := Aside0.mk (endOf_nat s.n h hn hh)
  clear ht
  go_enter Tryd.func25, Tryd.ntmps25
  go_upto_region 5 with (go_at_call 47; (with_reducible refine (jblock0 _ w.heap.size p g (.slice none 0 0) ⟨0, 0, false⟩ s HJ.out.at_.jou HJ.out.at_.sto hn).mono ?_); rintro e wz ⟨rfl, hw⟩; rw [← HT.out]; have hw2 := hw.symm; clear hw; have n0_ := HJ.out; rw [hw2] at n0_; clear HJ hw2; have HJ := Aside0.mk n0_; clear n0_)
  go_region_held3 (fun _ => True) (trivial) ((go_at_call 48; (with_reducible refine (zeros_calls _).mono ?_); rintro e wx ⟨rfl, hd⟩; have n0_ := HJ.out.below (below_ofDrew hd); clear HJ hd; have HJ := Aside0.mk n0_; clear n0_))
  have d1 := HJ.out.at_.jou.c1
  have g1 := HJ.out.at_.jou.fz 1
  go_upto_region 8 with fail
  have n0_ := HJ.out.set 1 (.int .i64 (h : Int)) ⟨h, 0, false⟩ (HJ.out.at_.jou.setHalf h)
  clear HJ d1 g1
  generalize wx.setCell ⟨w.heap.size, 1, none⟩ (.int .i64 (h : Int)) = w8 at *
  have HJ := Aside0.mk n0_
  clear n0_
  have d1 : w8.cell? ⟨w.heap.size, 1, none⟩ = some (.int .i64 (h : Int)) := HJ.out.at_.jou.c1
  have d2 : w8.cell? ⟨w.heap.size, 2, none⟩ = some (.int .i64 0) := HJ.out.at_.jou.c2
  have g2 := HJ.out.at_.jou.fz 2
  go_upto_region 9 with (go_at_call 49; (with_reducible refine (first_calls _ w.heap.size p g (.slice none 0 0) ⟨h, 0, false⟩ s HJ.out.at_.jou HJ.out.at_.sto hn (h : Int) hh').mono ?_); rintro e wz ⟨rfl, hw⟩; rw [ef.out]; have hw2 := hw.symm; clear hw; subst hw2)
  have n0_ := HJ.out.set 2 (.int .i64 (fN s.n h : Int)) ⟨h, fN s.n h, false⟩ (HJ.out.at_.jou.setNext (fN s.n h : Int))
  clear HJ d1 d2 g2
  generalize w8.setCell ⟨w.heap.size, 2, none⟩ (.int .i64 (fN s.n h : Int)) = w9 at *
  have HJ := Aside0.mk n0_
  clear n0_
  have d1 : w9.cell? ⟨w.heap.size, 1, none⟩ = some (.int .i64 (h : Int)) := HJ.out.at_.jou.c1
  go_upto_block 0 with (go_at_call 50; (with_reducible refine (end_calls _ w.heap.size p g (.slice none 0 0) ⟨h, fN s.n h, false⟩ s HJ.out.at_.jou HJ.out.at_.sto hn (h : Int) hh').mono ?_); rintro e wz ⟨rfl, hd⟩; rw [ee.out]; have n0_ := HJ.out.below (below_drawn hd); clear HJ hd; have HJ := Aside0.mk n0_; clear n0_)
  clear d1 hne hne2 hx5 cb
  go_cut [] (fun wc => ∃ v, Aside0 (Opening w wc p g w.heap.size v s ⟨h, nx, false⟩ []) ∧ Aside0 (nx ≤ eN s.n h))
  case first =>
   go_wp2
   go_loopg [8] (s.n + 1) (fun gq v8 wc => ∃ (at_ : Nat) (v : Value) (l1 : List ByteArray), Aside0 (eN s.n h < at_ + gq) ∧ Aside0 (fN s.n h ≤ at_ ∧ at_ ≤ eN s.n h) ∧ Aside0 (scan s.F (eN s.n h) gq at_ l1 = some (nx, [])) ∧ Aside0 (l1.length + fN s.n h ≤ at_) ∧ Aside0 (Opening w wc p g w.heap.size v s ⟨h, at_, false⟩ l1))
   case atStart => exact ⟨fN s.n h, .slice none 0 0, [], ⟨by have := HLE.out; omega⟩, ⟨by have := HLE.out; omega⟩, HSC, ⟨by simp⟩, HJ⟩
   case round =>
    obtain ⟨at_, v, l1, H1, H2, H3, H4, HJ⟩ := hrel
    obtain ⟨d, hd⟩ : ∃ d, gk = d + 1 := ⟨gk - 1, by have := H1.out; have := H2.out; omega⟩
    subst hd
    have hsc := H3.out
    rw [scan_step] at hsc
    obtain ⟨A1, c1, ev⟩ := slice_ofN HJ.out.at_.row
    subst ev
    have d2 : wr.cell? ⟨w.heap.size, 2, none⟩ = some (.int .i64 (at_ : Int)) := HJ.out.at_.jou.c2
    by_cases hlt : at_ < eN s.n h
    · rw [if_pos hlt] at hsc
      have hr := Aside0.mk (read_calls wr p g w.heap.size (.slice A1 l1.length c1) s ⟨h, at_, false⟩ HJ.out.at_.jou HJ.out.at_.sto at_ (eN s.n h) hlt HLE.out.2.2)
      have hrl := Aside0.mk (readP_le s.F at_ (eN s.n h) (by omega))
      generalize readP s.F at_ (eN s.n h) = r at *
      obtain ⟨rb, rm, re⟩ := r
      dsimp only at hr hsc hrl
      by_cases ce : re = 0
      · subst ce
        rw [if_neg (by decide)] at hsc
        by_cases cm : rm = 0
        · rw [if_pos cm] at hsc
          subst cm
          injection hsc with hsc
          injection hsc with e1 e2
          subst e1
          subst e2
          go_wp2_with (go_at_call 51; (with_reducible refine hr.out.mono ?_); rintro e wx ⟨rfl, hd⟩; have n0_ := HJ.out.below hd; clear HJ hd; have HJ := Aside0.mk n0_; clear n0_)
          go_meet
          case rel => exact ⟨_, HJ, ⟨H2.out.2⟩⟩
        · rw [if_neg cm] at hsc
          have HS := Aside0.mk hsc
          have cmb : ((rm : Int) == 0) = false := beq_eq_false_iff_ne.mpr (by omega)
          have HP := Aside0.mk (Nat.pos_of_ne_zero cm)
          have HXL := Aside0.mk (cells_16 l1.length (by have := H4.out; have := H2.out; have := HLE.out; omega))
          have wz2 : Aside0 (wrap64 ((at_ : Int) + (rm : Int)) = ((at_ + rm : Nat) : Int)) := ⟨by rw [← Int.natCast_add]; exact wrap_small _ (by have := hrl.out; have := HLE.out; omega)⟩
          clear hsc cm
          go_wp2_with (first
            | (go_at_call 51; (with_reducible refine hr.out.mono ?_); rintro e wx ⟨rfl, hd⟩; have n0_ := HJ.out.below hd; clear HJ hd; have HJ := Aside0.mk n0_; clear n0_ d2; have d2 : wx.cell? ⟨w.heap.size, 2, none⟩ = some (.int .i64 (at_ : Int)) := HJ.out.at_.jou.c2; have d3 := HJ.out.at_.jou.c3; have g2 := HJ.out.at_.jou.fz 2; have g3 := HJ.out.at_.jou.fz 3)
            | ((with_reducible refine gate_builtin (b := .append) (xs := #[.tmp 74, .tmp 76]) rfl ?_); at_builtin; refine Kd.R_append Kd.string (w0 := w) w.heap.size rfl (.tmp 74) (.tmp 76) 22 9 (.string ⟨#[]⟩) 16 rfl Tryd.underlying22 info9 rfl (by decide) (by omega) (.slice A1 l1.length c1) l1 rb [Value.string rb] (fun _ => True) (fun _ => False) rfl rfl ?aP (fun _ hk => hk.elim) ?aF ?aO ?aB ?aS ?aL ?_; (case aP => exact rfl); (case aB => exact HJ.out.bel); (case aF => exact (fun k hk => trivial)); (case aO => exact HJ.out.at_.row); (case aS => exact HJ.out.at_.bs); (case aL => exact HXL.out); intro v118 w30 ho hb2 hg hat; obtain ⟨A5, n5, c5, e5⟩ := slice_of ho; subst e5; have HO := Aside0.mk ho; have HG := Aside0.mk hg; have n0_ := (HJ.out.at_.grown hg).2; clear ho hb2 hg hat d2 d3 g2 g3; have d2 : w30.cell? ⟨w.heap.size, 2, none⟩ = some (.int .i64 (at_ : Int)) := n0_.c2; have d3 := n0_.c3; have g2 := n0_.fz 2; have g3 := n0_.fz 3; clear n0_))
          go_roundg d
          case measure => omega
          case rel => exact ⟨at_ + rm, _, l1 ++ [rb], ⟨by have := H1.out; have := HP.out; omega⟩, ⟨by have := hrl.out; have := H2.out; omega⟩, HS, ⟨by have := H4.out; have := HP.out; rw [List.length_append]; simp only [List.length_singleton]; omega⟩, ⟨by rw [wz2.out]; exact HJ.out.append HO.out HG.out _⟩⟩
      · rw [if_pos ce] at hsc
        cases hsc
    · rw [if_neg hlt] at hsc
      injection hsc with hsc
      injection hsc with e1 e2
      subst e1
      subst e2
      go_wp2
      go_meet
      case rel => exact ⟨_, HJ, ⟨H2.out.2⟩⟩
  case rest =>
    obtain ⟨v, HJ, HN⟩ := hcut
    obtain ⟨A1, c1, ev⟩ := slice_ofN HJ.out.at_.row
    subst ev
    have d3 := HJ.out.at_.jou.c3
    go_wp2_with (go_at_call 27; (with_reducible refine (append_calls _ w.heap.size p g w.heap.size _ s h nx [] _ HJ.out.at_ HOK.out hn hh HN.out (by simp)).mono ?_); rintro e wx ⟨rfl, v', hj', hu', _⟩; rw [HA.out] at hj' ⊢; dsimp only at hj' ⊢; have HJ2 := Aside0.mk hj'; have HU := Aside0.mk (opening_upd HJ.out hu'); clear hj' hu')
    go_ret2
    exact ⟨rfl, v', HJ2.out, HU.out⟩
set_option maxHeartbeats 4000000 in
set_option maxRecDepth 100000 in
theorem open_newf (w : World) (p g : Nat) (s : Sto) (hs : StoAt w p g s) (hn : 1 ≤ s.n) (h : Nat) (hh : h ≤ 1) (ht : topOk (blk s.F 0) = true) (hbt : bt (blk s.F 0) 0 = (h : Int)) (nx : Nat) (hsc : scan s.F (eN s.n h) (s.n + 1) (fN s.n h) [] = some (nx, [])) (hok : s.ok) (s' : Sto) (nx' : Nat) (l' : List ByteArray) (br : Bool) (er : Int) (hap : appendP s h nx [] (⟨#[]⟩ : ByteArray) = (s', nx', l', br, er)) (her : er ≠ 0) :
    Calls Tryd.prog 25 #[.pointer (some ⟨p, 0, none⟩)] w fun e w' => e = .returned (.tuple #[.pointer none, .int .i64 er]) ∧ StoAt w' p g s' ∧ Upd (fun k => k = p ∨ k = g) w w' := by
  have HSC := Aside0.mk hsc
  obtain ⟨b1, b2, b3⟩ := eN_le s.n h hn hh
  have HLE := Aside0.mk (And.intro b1 (And.intro b2 b3))
  clear hsc b1 b2 b3
  have HA := Aside0.mk hap
  have HOK := Aside0.mk hok
  have hne0 : (er != 0) = true := bne_iff_ne.mpr her
  clear hap hok
  have HJ := Aside0.mk (opening_new hs)
  have hTz := blk_size s.F 0 s.n hs.len (by omega)
  have hx5 := top_some (blk s.F 0) hTz
  have zs := zeroB_size
  have hle := hs.le
  clear hs
  unfold topOk at ht
  obtain ⟨T, hT⟩ : ∃ T, T = blk s.F 0 := ⟨_, rfl⟩
  rw [← hT] at ht hTz hx5 hbt
  rw [hbt] at hx5 ht
  have HT := Aside0.mk hT
  clear hT hbt
  have cb : decide (1 < (h : Int)) = false := decide_eq_false (by omega)
  have hne := (Bool.and_eq_true_iff.1 ht).2
  have hne2 : ((T.extract 1 64).toList != (zeroB.extract 1 64).toList) = false := by unfold bne; rw [hne]; rfl
  have wh : wrap64 (h : Int) = (h : Int) := wrap_small h (by omega)
  have hh' : 0 ≤ (h : Int) ∧ (h : Int) ≤ 1 := by omega
  have ef := Aside0.mk (firstOf_nat s.n h hn hh)
  have ee := Aside0.mk (endOf_nat s.n h hn hh)
  clear ht
  go_enter Tryd.func25, Tryd.ntmps25
  go_upto_region 5 with (go_at_call 47; (with_reducible refine (jblock0 _ w.heap.size p g (.slice none 0 0) ⟨0, 0, false⟩ s HJ.out.at_.jou HJ.out.at_.sto hn).mono ?_); rintro e wz ⟨rfl, hw⟩; rw [← HT.out]; have hw2 := hw.symm; clear hw; have n0_ := HJ.out; rw [hw2] at n0_; clear HJ hw2; have HJ := Aside0.mk n0_; clear n0_)
  go_region_held3 (fun _ => True) (trivial) ((go_at_call 48; (with_reducible refine (zeros_calls _).mono ?_); rintro e wx ⟨rfl, hd⟩; have n0_ := HJ.out.below (below_ofDrew hd); clear HJ hd; have HJ := Aside0.mk n0_; clear n0_))
  have d1 := HJ.out.at_.jou.c1
  have g1 := HJ.out.at_.jou.fz 1
  go_upto_region 8 with fail
  have n0_ := HJ.out.set 1 (.int .i64 (h : Int)) ⟨h, 0, false⟩ (HJ.out.at_.jou.setHalf h)
  clear HJ d1 g1
  generalize wx.setCell ⟨w.heap.size, 1, none⟩ (.int .i64 (h : Int)) = w8 at *
  have HJ := Aside0.mk n0_
  clear n0_
  have d1 : w8.cell? ⟨w.heap.size, 1, none⟩ = some (.int .i64 (h : Int)) := HJ.out.at_.jou.c1
  have d2 : w8.cell? ⟨w.heap.size, 2, none⟩ = some (.int .i64 0) := HJ.out.at_.jou.c2
  have g2 := HJ.out.at_.jou.fz 2
  go_upto_region 9 with (go_at_call 49; (with_reducible refine (first_calls _ w.heap.size p g (.slice none 0 0) ⟨h, 0, false⟩ s HJ.out.at_.jou HJ.out.at_.sto hn (h : Int) hh').mono ?_); rintro e wz ⟨rfl, hw⟩; rw [ef.out]; have hw2 := hw.symm; clear hw; subst hw2)
  have n0_ := HJ.out.set 2 (.int .i64 (fN s.n h : Int)) ⟨h, fN s.n h, false⟩ (HJ.out.at_.jou.setNext (fN s.n h : Int))
  clear HJ d1 d2 g2
  generalize w8.setCell ⟨w.heap.size, 2, none⟩ (.int .i64 (fN s.n h : Int)) = w9 at *
  have HJ := Aside0.mk n0_
  clear n0_
  have d1 : w9.cell? ⟨w.heap.size, 1, none⟩ = some (.int .i64 (h : Int)) := HJ.out.at_.jou.c1
  go_upto_block 0 with (go_at_call 50; (with_reducible refine (end_calls _ w.heap.size p g (.slice none 0 0) ⟨h, fN s.n h, false⟩ s HJ.out.at_.jou HJ.out.at_.sto hn (h : Int) hh').mono ?_); rintro e wz ⟨rfl, hd⟩; rw [ee.out]; have n0_ := HJ.out.below (below_drawn hd); clear HJ hd; have HJ := Aside0.mk n0_; clear n0_)
  clear d1 hne hne2 hx5 cb
  go_cut [] (fun wc => ∃ v, Aside0 (Opening w wc p g w.heap.size v s ⟨h, nx, false⟩ []) ∧ Aside0 (nx ≤ eN s.n h))
  case first =>
   go_wp2
   go_loopg [8] (s.n + 1) (fun gq v8 wc => ∃ (at_ : Nat) (v : Value) (l1 : List ByteArray), Aside0 (eN s.n h < at_ + gq) ∧ Aside0 (fN s.n h ≤ at_ ∧ at_ ≤ eN s.n h) ∧ Aside0 (scan s.F (eN s.n h) gq at_ l1 = some (nx, [])) ∧ Aside0 (l1.length + fN s.n h ≤ at_) ∧ Aside0 (Opening w wc p g w.heap.size v s ⟨h, at_, false⟩ l1))
   case atStart => exact ⟨fN s.n h, .slice none 0 0, [], ⟨by have := HLE.out; omega⟩, ⟨by have := HLE.out; omega⟩, HSC, ⟨by simp⟩, HJ⟩
   case round =>
    obtain ⟨at_, v, l1, H1, H2, H3, H4, HJ⟩ := hrel
    obtain ⟨d, hd⟩ : ∃ d, gk = d + 1 := ⟨gk - 1, by have := H1.out; have := H2.out; omega⟩
    subst hd
    have hsc := H3.out
    rw [scan_step] at hsc
    obtain ⟨A1, c1, ev⟩ := slice_ofN HJ.out.at_.row
    subst ev
    have d2 : wr.cell? ⟨w.heap.size, 2, none⟩ = some (.int .i64 (at_ : Int)) := HJ.out.at_.jou.c2
    by_cases hlt : at_ < eN s.n h
    · rw [if_pos hlt] at hsc
      have hr := Aside0.mk (read_calls wr p g w.heap.size (.slice A1 l1.length c1) s ⟨h, at_, false⟩ HJ.out.at_.jou HJ.out.at_.sto at_ (eN s.n h) hlt HLE.out.2.2)
      have hrl := Aside0.mk (readP_le s.F at_ (eN s.n h) (by omega))
      generalize readP s.F at_ (eN s.n h) = r at *
      obtain ⟨rb, rm, re⟩ := r
      dsimp only at hr hsc hrl
      by_cases ce : re = 0
      · subst ce
        rw [if_neg (by decide)] at hsc
        by_cases cm : rm = 0
        · rw [if_pos cm] at hsc
          subst cm
          injection hsc with hsc
          injection hsc with e1 e2
          subst e1
          subst e2
          go_wp2_with (go_at_call 51; (with_reducible refine hr.out.mono ?_); rintro e wx ⟨rfl, hd⟩; have n0_ := HJ.out.below hd; clear HJ hd; have HJ := Aside0.mk n0_; clear n0_)
          go_meet
          case rel => exact ⟨_, HJ, ⟨H2.out.2⟩⟩
        · rw [if_neg cm] at hsc
          have HS := Aside0.mk hsc
          have cmb : ((rm : Int) == 0) = false := beq_eq_false_iff_ne.mpr (by omega)
          have HP := Aside0.mk (Nat.pos_of_ne_zero cm)
          have HXL := Aside0.mk (cells_16 l1.length (by have := H4.out; have := H2.out; have := HLE.out; omega))
          have wz2 : Aside0 (wrap64 ((at_ : Int) + (rm : Int)) = ((at_ + rm : Nat) : Int)) := ⟨by rw [← Int.natCast_add]; exact wrap_small _ (by have := hrl.out; have := HLE.out; omega)⟩
          clear hsc cm
          go_wp2_with (first
            | (go_at_call 51; (with_reducible refine hr.out.mono ?_); rintro e wx ⟨rfl, hd⟩; have n0_ := HJ.out.below hd; clear HJ hd; have HJ := Aside0.mk n0_; clear n0_ d2; have d2 : wx.cell? ⟨w.heap.size, 2, none⟩ = some (.int .i64 (at_ : Int)) := HJ.out.at_.jou.c2; have d3 := HJ.out.at_.jou.c3; have g2 := HJ.out.at_.jou.fz 2; have g3 := HJ.out.at_.jou.fz 3)
            | ((with_reducible refine gate_builtin (b := .append) (xs := #[.tmp 74, .tmp 76]) rfl ?_); at_builtin; refine Kd.R_append Kd.string (w0 := w) w.heap.size rfl (.tmp 74) (.tmp 76) 22 9 (.string ⟨#[]⟩) 16 rfl Tryd.underlying22 info9 rfl (by decide) (by omega) (.slice A1 l1.length c1) l1 rb [Value.string rb] (fun _ => True) (fun _ => False) rfl rfl ?aP (fun _ hk => hk.elim) ?aF ?aO ?aB ?aS ?aL ?_; (case aP => exact rfl); (case aB => exact HJ.out.bel); (case aF => exact (fun k hk => trivial)); (case aO => exact HJ.out.at_.row); (case aS => exact HJ.out.at_.bs); (case aL => exact HXL.out); intro v118 w30 ho hb2 hg hat; obtain ⟨A5, n5, c5, e5⟩ := slice_of ho; subst e5; have HO := Aside0.mk ho; have HG := Aside0.mk hg; have n0_ := (HJ.out.at_.grown hg).2; clear ho hb2 hg hat d2 d3 g2 g3; have d2 : w30.cell? ⟨w.heap.size, 2, none⟩ = some (.int .i64 (at_ : Int)) := n0_.c2; have d3 := n0_.c3; have g2 := n0_.fz 2; have g3 := n0_.fz 3; clear n0_))
          go_roundg d
          case measure => omega
          case rel => exact ⟨at_ + rm, _, l1 ++ [rb], ⟨by have := H1.out; have := HP.out; omega⟩, ⟨by have := hrl.out; have := H2.out; omega⟩, HS, ⟨by have := H4.out; have := HP.out; rw [List.length_append]; simp only [List.length_singleton]; omega⟩, ⟨by rw [wz2.out]; exact HJ.out.append HO.out HG.out _⟩⟩
      · rw [if_pos ce] at hsc
        cases hsc
    · rw [if_neg hlt] at hsc
      injection hsc with hsc
      injection hsc with e1 e2
      subst e1
      subst e2
      go_wp2
      go_meet
      case rel => exact ⟨_, HJ, ⟨H2.out.2⟩⟩
  case rest =>
    obtain ⟨v, HJ, HN⟩ := hcut
    obtain ⟨A1, c1, ev⟩ := slice_ofN HJ.out.at_.row
    subst ev
    have d3 := HJ.out.at_.jou.c3
    go_wp2_with (go_at_call 27; (with_reducible refine (append_calls _ w.heap.size p g w.heap.size _ s h nx [] _ HJ.out.at_ HOK.out hn hh HN.out (by simp)).mono ?_); rintro e wx ⟨rfl, v', hj', hu', _⟩; rw [HA.out] at hj' ⊢; dsimp only at hj' ⊢; have HJ2 := Aside0.mk hj'; have HU := Aside0.mk (opening_upd HJ.out hu'); clear hj' hu')
    go_ret2
    exact ⟨rfl, HJ2.out.sto, HU.out⟩

end Go.Proofs.YtnfeknaeikpdmaaDoor.PR
