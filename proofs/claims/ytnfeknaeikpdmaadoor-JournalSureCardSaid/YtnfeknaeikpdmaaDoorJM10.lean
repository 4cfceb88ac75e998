import Derived.Test.YtnfeknaeikpdmaaDoorJM9
namespace Go.Proofs.YtnfeknaeikpdmaaDoor.PR
open Go.RowKit Go.Proofs.YtnfeknaeikpdmaaDoorW.PrintWords Go.Proofs.YtnfeknaeikpdmaaDoorW.PrintLast Go.Proofs.YtnfeknaeikpdmaaDoorW.PrintMore
attribute [local go_sem] max2_int min2_int max_two min_two max_three min_three max_four min_four
set_option linter.unusedVariables false
set_option linter.unusedSimpArgs false
theorem told_new (w0 w : World) (hb : Below w0.heap.size w0 w) : Tolds w0 ((w.alloc (.cells #[.string (⟨#[]⟩ : ByteArray), .slice none 0 0] 70)).alloc (.cells #[.string (⟨#[]⟩ : ByteArray), .slice none 0 0] 70)) w.heap.size (w.heap.size + 1) (.slice none 0 0) (.slice none 0 0) (⟨#[]⟩ : ByteArray) [] (⟨#[]⟩ : ByteArray) [] := by
  have z := size_alloc_ w (.cells #[.string (⟨#[]⟩ : ByteArray), .slice none 0 0] 70)
  refine ⟨⟨?_, Kd.R_nil _ _ _ _ _⟩, ⟨?_, Kd.R_nil _ _ _ _ _⟩, by omega, hb.size, by have := hb.size; omega⟩
  · rw [heap_alloc_old _ _ (by omega)]; exact heap_alloc_new w _
  · have := heap_alloc_new (w.alloc (.cells #[.string (⟨#[]⟩ : ByteArray), .slice none 0 0] 70)) (.cells #[.string (⟨#[]⟩ : ByteArray), .slice none 0 0] 70)
    rw [z] at this
    exact this
theorem off_nil (v : Value) : Off v (.slice none 0 0) := fun b _ h => by simp [Value.ownBlock] at h
theorem set70_at {w : World} {X : Nat} {c : Array Value} (h : w.heap[X]? = some (.cells c 70 (0, 0))) (i : Nat) (x : Value) : (w.setCell ⟨X, i, none⟩ x).heap[X]? = some (.cells (c.setIfInBounds i x) 70 (0, 0)) := setCell_at h i x
theorem St.set70 {w0 w : World} {p g q : Nat} {v : Value} {s : Sto} {h nx : Nat} {l : List ByteArray} (H : St w0 w p g q v s h nx l) {X : Nat} {c : Array Value} (hX : w.heap[X]? = some (.cells c 70 (0, 0))) (hw : w0.heap.size ≤ X) (i : Nat) (x : Value) : St w0 (w.setCell ⟨X, i, none⟩ x) p g q v s h nx l := by
  have u := Upd.setCell w ⟨X, i, none⟩ x
  have hq : w.heap[q]? = _ := H.at_.jou
  have hS : ∀ k, k = X → w0.heap.size ≤ k := fun k e => by rw [e]; exact hw
  refine ⟨H.at_.keep u (ty_ne H.at_.sto.hp hX (by decide)) (ty_ne H.at_.sto.hg hX (by decide)) (ty_ne hq hX (by decide)) (fun k hk => ?_), u.below H.bel hS, H.hp, H.hg, H.hq⟩
  obtain ⟨cc, hc⟩ := H.rowTyped k hk
  exact ty_ne hc hX (by decide)
theorem ToldAt.set70 {w0 w : World} {X : Nat} {u : Value} {t : ByteArray} {l : List ByteArray} (T : ToldAt w0 w X u t l) {Y : Nat} {c : Array Value} (hY : w.heap[Y]? = some (.cells c 70 (0, 0))) (hne : X ≠ Y) (i : Nat) (x : Value) : ToldAt w0 (w.setCell ⟨Y, i, none⟩ x) X u t l :=
  T.keep (Upd.setCell w ⟨Y, i, none⟩ x) hne (fun k hk => by
    obtain ⟨cc, hc⟩ := T.rowTyped k hk
    exact ty_ne hc hY (by decide))
theorem OpIn.set70 {w : World} {X Y : Nat} {x : Opv} {c : Array Value} (h : OpIn w X x) (hY : w.heap[Y]? = some (.cells c 70 (0, 0))) (i : Nat) (v : Value) : OpIn (w.setCell ⟨Y, i, none⟩ v) X x := h.keep (Upd.setCell w ⟨Y, i, none⟩ v) (ty_ne h hY (by decide))
theorem row_set70 {w : World} {base : Nat} {u : Value} {l : List ByteArray} (h : Kd.R Kd.string 9 w base (fun _ => True) u l) {Y : Nat} {c : Array Value} (hY : w.heap[Y]? = some (.cells c 70 (0, 0))) (i : Nat) (x : Value) : Kd.R Kd.string 9 (w.setCell ⟨Y, i, none⟩ x) base (fun _ => True) u l :=
  row_keep h (Upd.setCell w ⟨Y, i, none⟩ x) (fun k cells hk => ty_ne hk hY (by decide))
/-- Another text and records are put in the second place. -/
theorem two_sets {w0 w : World} {p g q : Nat} {v : Value} {s : Sto} {h nx : Nat} {l : List ByteArray} {X1 X2 : Nat} {u1 u2 : Value} {tS : ByteArray} {lS : List ByteArray} {tW : ByteArray} {lW : List ByteArray} {X : Nat} {x : Opv} (T : Tolds w0 w X1 X2 u1 u2 tS lS tW lW) (H : St w0 w p g q v s h nx l) (hX : OpIn w X x) (b : ByteArray) (u : Value) (lb : List ByteArray) (hr : Kd.R Kd.string 9 w w0.heap.size (fun _ => True) u lb) :
    Tolds w0 ((w.setCell ⟨X2, 0, none⟩ (.string b)).setCell ⟨X2, 1, none⟩ u) X1 X2 u1 u tS lS b lb ∧ St w0 ((w.setCell ⟨X2, 0, none⟩ (.string b)).setCell ⟨X2, 1, none⟩ u) p g q v s h nx l ∧ OpIn ((w.setCell ⟨X2, 0, none⟩ (.string b)).setCell ⟨X2, 1, none⟩ u) X x := by
  have y1 := set70_at T.t2.blk 0 (.string b)
  have y2 := set70_at y1 1 u
  exact ⟨⟨(T.t1.set70 T.t2.blk T.ne 0 _).set70 y1 T.ne 1 _, ⟨y2, row_set70 (row_set70 hr T.t2.blk 0 _) y1 1 _⟩, T.ne, T.h1, T.h2⟩, (H.set70 T.t2.blk T.h2 0 _).set70 y1 T.h2 1 _, (hX.set70 T.t2.blk 0 _).set70 y1 1 _⟩
theorem one_rowK (w : World) (k : Nat) (b : ByteArray) (hk : w.heap[k]? = some (.cells #[.string b] 9 (0, 0))) : ReadsRow (fun (x : ByteArray) (cs : List Value) => cs = [Value.string x]) 1 w (some ⟨k, 0, none⟩) 1 [b] := by
  have hc := cell_of hk
  refine ⟨rfl, by decide, fun _ => ⟨_, rfl, fun j p hj => ⟨[.string p], rfl, rfl, fun i u hu => ?_⟩⟩⟩
  cases i with
  | succ i => simp at hu
  | zero =>
    obtain rfl : Value.string p = u := by simpa using hu
    rw [Nat.mul_one, Nat.add_zero, add_plain]
    try rw [Nat.zero_add]
    rw [(hc j).1]
    match j with
    | 0 => simp at hj; subst hj; rfl
    | j + 1 => simp at hj
/-- An empty row and a row of one string are made, in either order. -/
theorem made_EB (w : World) (b : ByteArray) : Kd.R Kd.string 9 (((w.alloc (.cells #[] 9)).alloc (.cells #[.string b] 9)).drew) w.heap.size (fun _ => True) (.slice (some ⟨w.heap.size, 0, none⟩) 0 0) [] ∧ Below w.heap.size w (((w.alloc (.cells #[] 9)).alloc (.cells #[.string b] 9)).drew) ∧ (((w.alloc (.cells #[] 9)).alloc (.cells #[.string b] 9)).drew).heap[w.heap.size + 1]? = some (.cells #[.string b] 9 (0, 0)) := by
  have z := size_alloc_ w (.cells #[] 9)
  have h1 := heap_alloc_new (w.alloc (.cells #[] 9)) (.cells #[.string b] 9)
  rw [z] at h1
  exact ⟨Kd.R_below (Kd.R_below (empty_own w w.heap.size (Nat.le_refl _)) (below_alloc1 _ _)) (below_drew _), below_step (below_step (below_alloc1 _ _) (below_alloc1 _ _)) (below_drew _), h1⟩
theorem made_BE (w : World) (b : ByteArray) : Kd.R Kd.string 9 (((w.alloc (.cells #[.string b] 9)).alloc (.cells #[] 9)).drew) w.heap.size (fun _ => True) (.slice (some ⟨w.heap.size + 1, 0, none⟩) 0 0) [] ∧ Below w.heap.size w (((w.alloc (.cells #[.string b] 9)).alloc (.cells #[] 9)).drew) ∧ (((w.alloc (.cells #[.string b] 9)).alloc (.cells #[] 9)).drew).heap[w.heap.size]? = some (.cells #[.string b] 9 (0, 0)) := by
  have z := size_alloc_ w (.cells #[.string b] 9)
  have h1 := heap_alloc_new w (.cells #[.string b] 9)
  have h2 := empty_own (w.alloc (.cells #[.string b] 9)) w.heap.size (by omega)
  rw [z] at h2
  refine ⟨Kd.R_below h2 (below_drew _), below_step (below_step (below_alloc1 _ _) (below_alloc1 _ _)) (below_drew _), ?_⟩
  have h3 := heap_alloc_old (w.alloc (.cells #[.string b] 9)) (.cells #[] 9) (by rw [z]; omega : w.heap.size < _)
  exact h3.trans h1
theorem two_lt (w : World) (a b : Obj) : w.heap.size < (((w.alloc a).alloc b).drew).heap.size ∧ w.heap.size + 1 < (((w.alloc a).alloc b).drew).heap.size := by
  have z := size_alloc_ w a
  have z2 := size_alloc_ (w.alloc a) b
  have e : (((w.alloc a).alloc b).drew).heap.size = ((w.alloc a).alloc b).heap.size := rfl
  omega
theorem own_ne (a b n c : Nat) (h : a ≠ b) : some a ≠ (Value.slice (some ⟨b, 0, none⟩) n c).ownBlock := by
  intro e
  simp [Value.ownBlock] at e
  exact h e
theorem made_E (w : World) : Kd.R Kd.string 9 ((w.alloc (.cells #[] 9)).drew) w.heap.size (fun _ => True) (.slice (some ⟨w.heap.size, 0, none⟩) 0 0) [] ∧ Below w.heap.size w ((w.alloc (.cells #[] 9)).drew) :=
  ⟨Kd.R_below (empty_own w w.heap.size (Nat.le_refl _)) (below_drew _), below_step (below_alloc1 _ _) (below_drew _)⟩
theorem off_made {w0 w w6 : World} {p g q : Nat} {v : Value} {s : Sto} {h nx : Nat} {l : List ByteArray} (H : St w0 w p g q v s h nx l) {u : Value} {n : Nat} (ho : ∃ inner, w6.ownsRow w.heap.size 9 Kd.string.sz u n inner) : Off v u := by
  obtain ⟨inner, ho⟩ := ho
  intro b hb h2
  have a1 := (H.at_.own b hb).2.1
  have a2 := own_base ho b h2
  omega
theorem way_sets {w0 w : World} {p g q : Nat} {v : Value} {s : Sto} {h nx : Nat} {l : List ByteArray} {X1 X2 : Nat} {u1 u2 : Value} {tS : ByteArray} {lS : List ByteArray} {tW : ByteArray} {lW : List ByteArray} (T : Tolds w0 w X1 X2 u1 u2 tS lS tW lW) (H : St w0 w p g q v s h nx l) (b : ByteArray) (u : Value) (lb : List ByteArray) (hr : Kd.R Kd.string 9 w w0.heap.size (fun _ => True) u lb) :
    Tolds w0 ((w.setCell ⟨X2, 0, none⟩ (.string b)).setCell ⟨X2, 1, none⟩ u) X1 X2 u1 u tS lS b lb ∧ St w0 ((w.setCell ⟨X2, 0, none⟩ (.string b)).setCell ⟨X2, 1, none⟩ u) p g q v s h nx l := by
  have y1 := set70_at T.t2.blk 0 (.string b)
  have y2 := set70_at y1 1 u
  exact ⟨⟨(T.t1.set70 T.t2.blk T.ne 0 _).set70 y1 T.ne 1 _, ⟨y2, row_set70 (row_set70 hr T.t2.blk 0 _) y1 1 _⟩, T.ne, T.h1, T.h2⟩, (H.set70 T.t2.blk T.h2 0 _).set70 y1 T.h2 1 _⟩
theorem sure_sets {w0 w : World} {p g q : Nat} {v : Value} {s : Sto} {h nx : Nat} {l : List ByteArray} {X1 X2 : Nat} {u1 u2 : Value} {tS : ByteArray} {lS : List ByteArray} {tW : ByteArray} {lW : List ByteArray} (T : Tolds w0 w X1 X2 u1 u2 tS lS tW lW) (H : St w0 w p g q v s h nx l) (b : ByteArray) (u : Value) (lb : List ByteArray) (hr : Kd.R Kd.string 9 w w0.heap.size (fun _ => True) u lb) :
    Tolds w0 ((w.setCell ⟨X1, 0, none⟩ (.string b)).setCell ⟨X1, 1, none⟩ u) X1 X2 u u2 b lb tW lW ∧ St w0 ((w.setCell ⟨X1, 0, none⟩ (.string b)).setCell ⟨X1, 1, none⟩ u) p g q v s h nx l := by
  have y1 := set70_at T.t1.blk 0 (.string b)
  have y2 := set70_at y1 1 u
  exact ⟨⟨⟨y2, row_set70 (row_set70 hr T.t1.blk 0 _) y1 1 _⟩, (T.t2.set70 T.t1.blk T.ne.symm 0 _).set70 y1 T.ne.symm 1 _, T.ne, T.h1, T.h2⟩, (H.set70 T.t1.blk T.h1 0 _).set70 y1 T.h1 1 _⟩
theorem txt_cons (t : ByteArray) (l : List ByteArray) : txt (t :: l) = t := rfl
theorem OpenPost.upd {w w1 : World} {p g : Nat} {r : Option (Nat × Nat × List ByteArray) × Sto × Int} {e : Ending} (hc : OpenPost w p g r e w1) : Upd (fun k => k = p ∨ k = g) w w1 := by
  unfold OpenPost at hc
  rcases hr : r.1 with _ | ⟨a, b, c⟩
  · rw [hr] at hc; exact hc.2.2
  · rw [hr] at hc; obtain ⟨_, _, _, hu⟩ := hc; exact hu
/-- Three journals over one store. -/
structure Tri (w0 w : World) (p g q1 q2 q3 : Nat) (v1 v2 v3 : Value) (s : Sto) (h nx : Nat) (l : List ByteArray) : Prop where
  a : St w0 w p g q1 v1 s h nx l
  b : St w0 w p g q2 v2 s h nx l
  c : St w0 w p g q3 v3 s h nx l
theorem Tri.below {w0 w w1 : World} {p g q1 q2 q3 : Nat} {v1 v2 v3 : Value} {s : Sto} {h nx : Nat} {l : List ByteArray} (H : Tri w0 w p g q1 q2 q3 v1 v2 v3 s h nx l) (hb : Below w.heap.size w w1) : Tri w0 w1 p g q1 q2 q3 v1 v2 v3 s h nx l := ⟨H.a.below hb, H.b.below hb, H.c.below hb⟩
theorem same_dropped (t : ByteArray) (l : List ByteArray) (hl : (t :: l).length ≤ 4096) : Ev (fun k => quitrentref06_Same.f k ((t :: l).drop 1) l) true := same_ev l (by simp only [List.length_cons] at hl; omega)
/-- What is kept is told: by what was sure, or by what was on its way. -/
theorem told_or (t tS tW : ByteArray) (l lS lW : List ByteArray) (hl : (t :: l).length ≤ 4096) (ho : (t = tS ∧ l = lS) ∨ (t = tW ∧ l = lW)) :
    (((txt (t :: l)).toList == tS.toList) = true ∧ Ev (fun k => quitrentref06_Same.f k ((t :: l).drop 1) lS) true) ∨
    ((((txt (t :: l)).toList == tS.toList) = false ∨ (((txt (t :: l)).toList == tS.toList) = true ∧ Ev (fun k => quitrentref06_Same.f k ((t :: l).drop 1) lS) false)) ∧ t = tW ∧ l = lW) := by
  rcases ho with ⟨rfl, rfl⟩ | ⟨rfl, rfl⟩
  · exact .inl ⟨beq_self_eq_true _, same_dropped t l hl⟩
  · by_cases c : (t.toList == tS.toList) = true
    · obtain ⟨r, hr⟩ := same_any l lS (by simp only [List.length_cons] at hl; omega)
      cases r with
      | true => exact .inl ⟨c, hr⟩
      | false => exact .inr ⟨.inr ⟨c, hr⟩, rfl, rfl⟩
    · exact .inr ⟨.inl (by rw [txt_cons]; simpa using c), rfl, rfl⟩
set_option maxHeartbeats 4000000 in
set_option maxRecDepth 100000 in
theorem sure_run (w : World) (n : Nat) (h3 : 3 ≤ n) (h60 : n ≤ 60) (A1 : Option Addr) (c1 : Nat) (l1 : List Opv) (h1 : OpsAt w A1 l1) (hl1 : l1.length ≤ 30) (f0 f1 f2 f3 : Int) (hf0 : f0 ≤ 9223372036854775807) (hf2 : f2 ≤ 9223372036854775807) :
    Calls Tryd.prog 8 #[.int .i64 n, .slice A1 l1.length c1, .agg #[.int .i64 f0, .int .i64 f1, .int .i64 f2, .int .i64 f3]] w (TrueBelow w) := by
  obtain ⟨s1, o1, G1, L1, n1⟩ := fresh_opened n h3
  have O1 := Aside0.mk o1
  have HG := Aside0.mk G1
  have HN := Aside0.mk n1
  have FO : Aside0 ((freshS n).ok ∧ 1 ≤ (freshS n).n) := ⟨⟨by unfold Sto.ok freshS; dsimp only; omega, by show 1 ≤ n; omega⟩⟩
  have P1 := Aside0.mk h1
  have i60b : decide ((60 : Int) < (n : Int)) = false := decide_eq_false (by omega)
  have i1b : decide ((30 : Int) < (l1.length : Int)) = false := decide_eq_false (by omega)
  have i1c : decide (30 < l1.length) = false := decide_eq_false (by omega)
  have i60c : decide (60 < n) = false := decide_eq_false (by omega)
  have H3 := Aside0.mk h3
  have H60 := Aside0.mk h60
  have HF0 := Aside0.mk hf0
  have HF2 := Aside0.mk hf2
  have BX := Aside0.mk (below_alloc1 w (.cells #[.int .i64 f0, .int .i64 f1, .int .i64 f2, .int .i64 f3] 68))
  have XB := heap_alloc_new w (.cells #[.int .i64 f0, .int .i64 f1, .int .i64 f2, .int .i64 f3] 68)
  clear o1 G1 L1 n1 h1 h3 h60 hf0 hf2
  go_enter Tryd.func8, Tryd.ntmps8
  go_upto_region 1 with fail
  generalize w.alloc (.cells #[.int .i64 f0, .int .i64 f1, .int .i64 f2, .int .i64 f3] 68) = w0 at *
  have FC : Aside0 (∀ wl : World, Below w0.heap.size w0 wl → wl.cell? ⟨w.heap.size, 0, none⟩ = some (.int .i64 f0) ∧ wl.cell? ⟨w.heap.size, 1, none⟩ = some (.int .i64 f1) ∧ wl.cell? ⟨w.heap.size, 2, none⟩ = some (.int .i64 f2) ∧ wl.cell? ⟨w.heap.size, 3, none⟩ = some (.int .i64 f3)) := ⟨fun wl hb => by
    have hh := (hb.block w.heap.size (lt_of_cells XB)).trans XB
    exact ⟨(cell_of hh 0).1, (cell_of hh 1).1, (cell_of hh 2).1, (cell_of hh 3).1⟩⟩
  clear XB
  go_upto_region 5 with (first
    | (go_at_call 22; (with_reducible refine (awake_calls _).mono ?_); rintro e wa ⟨rfl, hb⟩; have B1 := Aside0.mk hb; clear hb)
    | (go_at_call 23; (with_reducible refine (size_calls _ _ l1 _ (P1.out.below (below_step BX.out B1.out))).mono ?_); rintro e wb ⟨⟨r1, rfl⟩, hw⟩; have hw2 := hw.symm; clear hw; subst hw2))
  · go_ret
    exact ⟨rfl, below_step BX.out B1.out⟩
  · clear i60b i1b i1c i60c
    go_upto_region 11 with (first
      | (go_at_call 24; (with_reducible refine (new_st n w0 wa H3.out (Nat.le_trans H60.out (by omega)) B1.out).mono ?_); rintro e wb ⟨rfl, hs, hb⟩; have S1 := Aside0.mk hs; clear hs hb)
      | (go_at_call 25; (with_reducible refine (open_told _ _ _ (freshS n) _ S1.out.sto FO.out.1 FO.out.2 O1.out).mono ?_); rintro e wd hp; obtain ⟨rfl, v1, hs⟩ := S1.out.opened hp; have T1 := Aside0.mk hs; clear hs hp))
    obtain ⟨x0, x1, x2, x3⟩ := FC.out _ T1.out.bel
    have HT := Aside0.mk T1.out
    go_upto_region 12 with (go_at_call 35; (with_reducible refine (fuse_calls _ _ _ s1 T1.out.at_.sto f0 f1).mono ?_); rintro e we ⟨rfl, hs, hu⟩; have T2 := Aside0.mk (fuse_st T1.out hs hu); clear hs hu)
    clear x0 x1 x2 x3 HT
    go_upto_block 0 with fail
    have S0 := Aside0.mk (T2.out.below (below_step (below_alloc1 we (.cells #[.string (⟨#[]⟩ : ByteArray), .slice none 0 0] 70)) (below_alloc1 _ (.cells #[.string (⟨#[]⟩ : ByteArray), .slice none 0 0] 70))))
    have TD := Aside0.mk (told_new w0 we T2.out.bel)
    have G2 := Aside0.mk (HG.out.power (max f0 (-1)) f1 s1.down (by have := HF0.out; omega))
    generalize (we.alloc (.cells #[.string (⟨#[]⟩ : ByteArray), .slice none 0 0] 70)).alloc (.cells #[.string (⟨#[]⟩ : ByteArray), .slice none 0 0] 70) = wf at *
    clear T1 T2 S1
    go_cut [] (fun wc => ∃ (s : Sto) (h nx : Nat) (t : ByteArray) (l : List ByteArray) (tS : ByteArray) (lS : List ByteArray) (tW : ByteArray) (lW : List ByteArray) (u1 u2 : Value), Aside0 (StS w0 wc (wa.heap.size + 1) wa.heap.size s) ∧ Aside0 (GoodP s h nx (t :: l)) ∧ Aside0 (s.n = n) ∧ Aside0 (Tolds w0 wc we.heap.size (we.heap.size + 1) u1 u2 tS lS tW lW) ∧ Aside0 ((t = tS ∧ l = lS) ∨ (t = tW ∧ l = lW)))
    case first =>
      go_wp2
      go_loopg [67] l1.length (fun gq v67 wl => ∃ (i : Nat) (v : Value) (s : Sto) (h nx : Nat) (tS : ByteArray) (lS : List ByteArray) (tW : ByteArray) (lW : List ByteArray) (u1 u2 : Value), v67 = .int .i64 i ∧ Aside0 (i + gq = l1.length) ∧ Aside0 (St w0 wl (wa.heap.size + 1) wa.heap.size wb.heap.size v s h nx (tS :: lS)) ∧ Aside0 (GoodP s h nx (tS :: lS)) ∧ Aside0 (s.n = n) ∧ Aside0 (Tolds w0 wl we.heap.size (we.heap.size + 1) u1 u2 tS lS tW lW) ∧ Aside0 (Off v u1 ∧ Off v u2))
      case atStart => exact ⟨0, v1, _, 0, 2, _, _, _, _, _, _, rfl, ⟨by omega⟩, S0, G2, HN, TD, ⟨off_nil _, off_nil _⟩⟩
      case round =>
        obtain ⟨i, v, s, h, nx, tS, lS, tW, lW, u1, u2, rfl, HI, HS, HG, HN, HT, HO⟩ := hrel
        have hI := HI.out
        by_cases hlt : i < l1.length
        · obtain ⟨ob, oo, hA, hc⟩ := (P1.out.below (below_step BX.out HS.out.bel)).2 (by omega)
          obtain ⟨e0, e1, e2, e3⟩ := hc i hlt
          have lob : ob < wr.heap.size := World.block_lt_of_cell? wr _ e0
          have nob : ob ≠ wr.heap.size := by omega
          subst hA
          generalize l1[i] = x at *
          clear hc
          have NB := Aside0.mk (HG.out.short (by have := HN.out; have := H60.out; omega))
          go_upto_if 73 with fail
          have HS2 := Aside0.mk (HS.out.below (below_alloc1 wr (.cells #[.int .i64 x.d, .int .i64 x.n, .int .i64 x.t, .string x.b] 50)))
          have HT2 := Aside0.mk (HT.out.below (below_alloc1 wr (.cells #[.int .i64 x.d, .int .i64 x.n, .int .i64 x.t, .string x.b] 50)))
          have HX : Aside0 (OpIn (wr.alloc (.cells #[.int .i64 x.d, .int .i64 x.n, .int .i64 x.t, .string x.b] 50)) wr.heap.size x) := ⟨heap_alloc_new _ _⟩
          clear e0 e1 e2 e3 lob nob
          generalize wr.alloc (.cells #[.int .i64 x.d, .int .i64 x.n, .int .i64 x.t, .string x.b] 50) = w2 at *
          go_cut [15] (fun v15 wc => ∃ (f : Int) (tW : ByteArray) (lW : List ByteArray) (u2 : Value), v15 = .int .i64 f ∧ Aside0 (Tolds w0 wc we.heap.size (we.heap.size + 1) u1 u2 tS lS tW lW) ∧ Aside0 (OutS w0 wc (wa.heap.size + 1) wa.heap.size wb.heap.size n u1 u2 tS lS tW lW f))
          case first =>
            have xc3 := HX.out.c3
            have y0 : w2.cell? ⟨we.heap.size + 1, 0, none⟩ = some (.string tW) := (cell_of HT2.out.t2.blk 0).1
            have y1 : w2.cell? ⟨we.heap.size + 1, 1, none⟩ = some u2 := (cell_of HT2.out.t2.blk 1).1
            have z0 := (cell_of HT2.out.t2.blk 0).2
            have z1 := (cell_of HT2.out.t2.blk 1).2
            by_cases hd : x.d = 1
            · have hdb : (x.d == 1) = true := beq_iff_eq.mpr hd
              clear hd
              go_upto_region 20 with fail
              have n0_ := two_sets HT2.out HS2.out HX.out x.b (.slice none 0 0) [] (Kd.R_nil _ _ _ _ _)
              clear HT2 HX HS2 xc3 y0 y1 z0 z1
              generalize (w2.setCell ⟨we.heap.size + 1, 0, none⟩ (.string x.b)).setCell ⟨we.heap.size + 1, 1, none⟩ (.slice none 0 0) = w3 at *
              have HT2 := Aside0.mk n0_.1
              have HS2 := Aside0.mk n0_.2.1
              have HX := Aside0.mk n0_.2.2
              clear n0_
              have xc3 := HX.out.c3
              go_wp2_with (go_at_call 26; (with_reducible refine (snap_calls _ _ _ _ _ _ s h nx (tS :: lS) x.b HS2.out.at_ HG.out.ok (by have := HG.out.n3; omega) HG.out.inv.hh).mono ?_); rintro e w4 hp; obtain ⟨f, rfl, ht, ho⟩ := sure_snap HS2.out HG.out HN.out HT2.out HO.out.1 (off_nil _) hp; have HT3 := Aside0.mk ht; have HU := Aside0.mk ho; clear ht ho hp)
              go_meet
              case rel => exact ⟨f, _, _, _, rfl, HT3, HU⟩
            · have hdb : (x.d == 1) = false := beq_eq_false_iff_ne.mpr hd
              clear hd
              go_upto_region 21 with fail
              obtain ⟨Au, mu, cu, eu, emu, hleu, hCu⟩ := cs_of HT2.out.t1.row
              subst emu
              subst eu
              have HCU := Aside0.mk hCu
              have HL1 : Aside0 ((([] : List ByteArray).length + lS.length) * 16 ≤ 140737488355328) := ⟨by have h9 := NB.out.2.1; simp only [List.length_nil, List.length_cons] at h9 ⊢; omega⟩
              have HL2 : Aside0 ((lS.length + 1) * 16 ≤ 140737488355328) := ⟨by have h9 := NB.out.2.1; simp only [List.length_cons] at h9; omega⟩
              have k0 := (cell_of HT2.out.t1.blk 0).1
              have k1 := (cell_of HT2.out.t1.blk 1).1
              have k3 := xc3
              have ne12 : we.heap.size ≠ we.heap.size + 1 := by omega
              have ne50 : wr.heap.size ≠ we.heap.size + 1 := ty_ne HX.out HT2.out.t2.blk (by decide)
              have ne51 := ne50.symm
              clear hCu hleu y0 y1 z0 z1 xc3
              go_region_held3 (fun W => W.cell? ⟨we.heap.size, 0, none⟩ = some (.string tS) ∧ W.cell? ⟨we.heap.size, 1, none⟩ = some (.slice Au lS.length cu) ∧ W.cell? ⟨wr.heap.size, 3, none⟩ = some (.string x.b))
                (first | (exact ⟨k0, k1, k3⟩) | go_keep)
                (first
                  | (refine Kd.R_append_rows_step Kd.string (Rr := fun x cs => cs = [Value.string x]) (w0 := w2) w2.heap.size (by rfl) (.tmp 83) (.tmp 85) 22 9 (.string ⟨#[]⟩) 16 (by rfl) Tryd.underlying22 info9 rfl (by decide) (by omega) (.slice (some ⟨w2.heap.size, 0, none⟩) 0 0) [] lS Au lS.length cu (fun _ => True) (fun _ => False) (by rfl) (by rfl) (made_E w2).1 (Kd.C_below HCU.out (made_E w2).2) (fun _ _ h => h) (fun _ hk => hk.elim) (fun _ _ => trivial) (made_E w2).2 (made_E w2).2.size HL1.out ?_; intro v5 w5 ho hb hg hat; rw [List.nil_append] at ho; obtain ⟨A5, n5, c5, e5⟩ := slice_of ho; subst e5; have HO5 := Aside0.mk ho; have HB5 := Aside0.mk hb; clear ho hb hg hat k0 k1 k3; have k0 := (cell_of (HT2.out.below HB5.out).t1.blk 0).1; have k1 := (cell_of (HT2.out.below HB5.out).t1.blk 1).1; have k3 := (HX.out.below HB5.out).c3)
                  | (refine Kd.R_append_rows_step Kd.string (Rr := fun x cs => cs = [Value.string x]) (w0 := w2) w2.heap.size (by rfl) (.tmp 83) (.tmp 85) 22 9 (.string ⟨#[]⟩) 16 (by rfl) Tryd.underlying22 info9 rfl (by decide) (by omega) (.slice (some ⟨w2.heap.size, 0, none⟩) 0 0) [] lS Au lS.length cu (fun _ => True) (fun _ => False) (by rfl) (by rfl) (made_EB w2 x.b).1 (Kd.C_below HCU.out (made_EB w2 x.b).2.1) (fun _ _ h => h) (fun _ hk => hk.elim) (fun _ _ => trivial) (made_EB w2 x.b).2.1 (made_EB w2 x.b).2.1.size HL1.out ?_; intro v5 w5 ho hb hg hat; rw [List.nil_append] at ho; have KB := Aside0.mk ((hg.block (w2.heap.size + 1) (two_lt w2 _ _).2 (own_ne _ _ _ _ (by omega))).trans (made_EB w2 x.b).2.2); obtain ⟨A5, n5, c5, e5⟩ := slice_of ho; subst e5; have HO5 := Aside0.mk ho; have HB5 := Aside0.mk hb; clear ho hb hg hat k0 k1 k3; have k0 := (cell_of (HT2.out.below HB5.out).t1.blk 0).1; have k1 := (cell_of (HT2.out.below HB5.out).t1.blk 1).1; have k3 := (HX.out.below HB5.out).c3)
                  | (refine Kd.R_append_rows_step Kd.string (Rr := fun x cs => cs = [Value.string x]) (w0 := w2) w2.heap.size (by rfl) (.tmp 83) (.tmp 85) 22 9 (.string ⟨#[]⟩) 16 (by rfl) Tryd.underlying22 info9 rfl (by decide) (by omega) (.slice (some ⟨w2.heap.size + 1, 0, none⟩) 0 0) [] lS Au lS.length cu (fun _ => True) (fun _ => False) (by rfl) (by rfl) (made_BE w2 x.b).1 (Kd.C_below HCU.out (made_BE w2 x.b).2.1) (fun _ _ h => h) (fun _ hk => hk.elim) (fun _ _ => trivial) (made_BE w2 x.b).2.1 (made_BE w2 x.b).2.1.size HL1.out ?_; intro v5 w5 ho hb hg hat; rw [List.nil_append] at ho; have KB := Aside0.mk ((hg.block (w2.heap.size) (two_lt w2 _ _).1 (own_ne _ _ _ _ (by omega))).trans (made_BE w2 x.b).2.2); obtain ⟨A5, n5, c5, e5⟩ := slice_of ho; subst e5; have HO5 := Aside0.mk ho; have HB5 := Aside0.mk hb; clear ho hb hg hat k0 k1 k3; have k0 := (cell_of (HT2.out.below HB5.out).t1.blk 0).1; have k1 := (cell_of (HT2.out.below HB5.out).t1.blk 1).1; have k3 := (HX.out.below HB5.out).c3)
                  | (refine Kd.R_append_rows_step Kd.string (Rr := fun x cs => cs = [Value.string x]) (w0 := w2) w2.heap.size (by rfl) (.tmp 86) (.tmp 89) 22 9 (.string ⟨#[]⟩) 16 (by rfl) Tryd.underlying22 info9 rfl (by decide) (by omega) (.slice A5 n5 c5) lS [x.b] (some ⟨w5.heap.size, 0, none⟩) 1 1 (fun _ => True) (fun _ => False) (by rfl) (by rfl) (Kd.R_below HO5.out (below_alloc1 _ _)) (one_row w5 x.b) (fun _ _ h => h) (fun _ hk => hk.elim) (fun _ _ => trivial) (below_step HB5.out (below_alloc1 w5 (.cells #[.string x.b] 9))) (below_step HB5.out (below_alloc1 w5 (.cells #[.string x.b] 9))).size HL2.out ?_; intro v6 w6 ho hb hg hat; obtain ⟨A6, n6, c6, e6⟩ := slice_of ho; subst e6; have HO6 := Aside0.mk ho; clear HB5 k0 k1 k3 ho hg hat; have HB5 := Aside0.mk hb; clear hb; have k0 := (cell_of (HT2.out.below HB5.out).t1.blk 0).1; have k1 := (cell_of (HT2.out.below HB5.out).t1.blk 1).1; have k3 := (HX.out.below HB5.out).c3; have y0 := (cell_of (HT2.out.below HB5.out).t2.blk 0).1; have y1 := (cell_of (HT2.out.below HB5.out).t2.blk 1).1; have z0 := (cell_of (HT2.out.below HB5.out).t2.blk 0).2; have z1 := (cell_of (HT2.out.below HB5.out).t2.blk 1).2)
                  | (refine Kd.R_append_rows_step Kd.string (Rr := fun x cs => cs = [Value.string x]) (w0 := w2) w2.heap.size (by rfl) (.tmp 86) (.tmp 89) 22 9 (.string ⟨#[]⟩) 16 (by rfl) Tryd.underlying22 info9 rfl (by decide) (by omega) (.slice A5 n5 c5) lS [x.b] (some ⟨w2.heap.size + 1, 0, none⟩) 1 1 (fun _ => True) (fun _ => False) (by rfl) (by rfl) HO5.out (one_rowK w5 _ x.b KB.out) (fun _ _ h => h) (fun _ hk => hk.elim) (fun _ _ => trivial) HB5.out HB5.out.size HL2.out ?_; intro v6 w6 ho hb hg hat; obtain ⟨A6, n6, c6, e6⟩ := slice_of ho; subst e6; have HO6 := Aside0.mk ho; clear HB5 k0 k1 k3 ho hg hat; have HB5 := Aside0.mk hb; clear hb; have k0 := (cell_of (HT2.out.below HB5.out).t1.blk 0).1; have k1 := (cell_of (HT2.out.below HB5.out).t1.blk 1).1; have k3 := (HX.out.below HB5.out).c3; have y0 := (cell_of (HT2.out.below HB5.out).t2.blk 0).1; have y1 := (cell_of (HT2.out.below HB5.out).t2.blk 1).1; have z0 := (cell_of (HT2.out.below HB5.out).t2.blk 0).2; have z1 := (cell_of (HT2.out.below HB5.out).t2.blk 1).2)
                  | (refine Kd.R_append_rows_step Kd.string (Rr := fun x cs => cs = [Value.string x]) (w0 := w2) w2.heap.size (by rfl) (.tmp 86) (.tmp 89) 22 9 (.string ⟨#[]⟩) 16 (by rfl) Tryd.underlying22 info9 rfl (by decide) (by omega) (.slice A5 n5 c5) lS [x.b] (some ⟨w2.heap.size, 0, none⟩) 1 1 (fun _ => True) (fun _ => False) (by rfl) (by rfl) HO5.out (one_rowK w5 _ x.b KB.out) (fun _ _ h => h) (fun _ hk => hk.elim) (fun _ _ => trivial) HB5.out HB5.out.size HL2.out ?_; intro v6 w6 ho hb hg hat; obtain ⟨A6, n6, c6, e6⟩ := slice_of ho; subst e6; have HO6 := Aside0.mk ho; clear HB5 k0 k1 k3 ho hg hat; have HB5 := Aside0.mk hb; clear hb; have k0 := (cell_of (HT2.out.below HB5.out).t1.blk 0).1; have k1 := (cell_of (HT2.out.below HB5.out).t1.blk 1).1; have k3 := (HX.out.below HB5.out).c3; have y0 := (cell_of (HT2.out.below HB5.out).t2.blk 0).1; have y1 := (cell_of (HT2.out.below HB5.out).t2.blk 1).1; have z0 := (cell_of (HT2.out.below HB5.out).t2.blk 0).2; have z1 := (cell_of (HT2.out.below HB5.out).t2.blk 1).2))
              all_goals
                go_upto_region 22 with fail
                have n0_ := two_sets (HT2.out.below HB5.out) (HS2.out.below HB5.out) (HX.out.below HB5.out) tS (.slice A6 n6 c6) (lS ++ [x.b]) (Kd.R_lower HO6.out HS2.out.bel.size)
                have OF := Aside0.mk (off_made HS2.out (Kd.R_own HO6.out))
                clear HT2 HX HS2 k0 k1 k3 y0 y1 z0 z1
                generalize (w6.setCell ⟨we.heap.size + 1, 0, none⟩ (.string tS)).setCell ⟨we.heap.size + 1, 1, none⟩ (.slice A6 n6 c6) = w7 at *
                have HT2 := Aside0.mk n0_.1
                have HS2 := Aside0.mk n0_.2.1
                have HX := Aside0.mk n0_.2.2
                clear n0_
                have xc3 := HX.out.c3
                go_wp2_with (go_at_call 27; (with_reducible refine (append_calls _ _ _ _ _ _ s h nx (tS :: lS) x.b HS2.out.at_ HG.out.ok (by have := HG.out.n3; omega) HG.out.inv.hh NB.out.2.2.1 (by have := NB.out; omega)).mono ?_); rintro e w4 hp; obtain ⟨f, rfl, ht, ho⟩ := sure_append HS2.out HG.out HN.out HT2.out HO.out.1 OF.out hp; have HT3 := Aside0.mk ht; have HU := Aside0.mk ho; clear ht ho hp)
                go_meet
                case rel => exact ⟨f, _, _, _, rfl, HT3, HU⟩
          case rest =>
            obtain ⟨f, tW, lW, u2, rfl, HT, HU⟩ := hcut
            rcases HU.out with ⟨rfl, v, s, h, nx, hs, hg, hn, o1, o2⟩ | ⟨rfl, v, s, h, nx, hs, hg, hn, o1, o2⟩ | ⟨rfl, s, h, nx, hs, hn, hg⟩
            · have HS := Aside0.mk hs
              have HG := Aside0.mk hg
              have HN := Aside0.mk hn
              have NB := Aside0.mk (HG.out.short (by have := HN.out; have := H60.out; omega))
              obtain ⟨Au, mu, cu, eu, emu, hleu, hCu⟩ := cs_of HT.out.t1.row
              subst eu
              have k0 : wc.cell? ⟨we.heap.size, 0, none⟩ = some (.string tS) := (cell_of HT.out.t1.blk 0).1
              have k1 : wc.cell? ⟨we.heap.size, 1, none⟩ = some (.slice Au mu cu) := (cell_of HT.out.t1.blk 1).1
              have HCU := Aside0.mk hCu
              have HMU := Aside0.mk emu
              have HLU := Aside0.mk hleu
              have OO := Aside0.mk (And.intro o1 o2)
              have SE : Aside0 (Ev (fun k => quitrentref06_Same.f k ((tS :: lS).drop 1) lS) true) := ⟨same_ev lS (by have h9 := NB.out.2.1; simp only [List.length_cons] at h9; omega)⟩
              clear hs hg hn o1 o2 emu hleu hCu
              go_wp2_with (go_at_call 43; (with_reducible refine (is_yes _ _ _ _ _ _ _ _ (tS :: lS) HS.out.at_ NB.out.1 (Nat.le_trans NB.out.2.1 (by omega)) tS lS Au mu cu (by rw [txt_cons]; exact beq_self_eq_true _) true SE.out HMU.out HLU.out HCU.out).mono ?_); rintro e w5 ⟨rfl, hb⟩; have HT5 := Aside0.mk (HT.out.below hb); have HS5 := Aside0.mk (HS.out.below hb); clear hb k0 k1; have k0 : w5.cell? ⟨we.heap.size, 0, none⟩ = some (.string tS) := (cell_of HT5.out.t1.blk 0).1; have k1 : w5.cell? ⟨we.heap.size, 1, none⟩ = some (.slice Au mu cu) := (cell_of HT5.out.t1.blk 1).1; have y0 := (cell_of HT5.out.t2.blk 0).1; have y1 := (cell_of HT5.out.t2.blk 1).1; have z0 := (cell_of HT5.out.t2.blk 0).2; have z1 := (cell_of HT5.out.t2.blk 1).2)
              have n0_ := way_sets HT5.out HS5.out tS (.slice Au mu cu) lS HT5.out.t1.row
              go_roundg (gk - 1)
              case measure => omega
              case rel => exact ⟨i + 1, v, s, h, nx, tS, lS, tS, lS, _, _, by go_num, ⟨by omega⟩, ⟨n0_.2⟩, HG, HN, ⟨n0_.1⟩, ⟨OO.out.1, OO.out.1⟩⟩
            · have HS := Aside0.mk hs
              have HG := Aside0.mk hg
              have HN := Aside0.mk hn
              have OO := Aside0.mk (And.intro o1 o2)
              obtain ⟨Au, cu, eu⟩ := slice_ofN HT.out.t2.row
              subst eu
              have k0 : wc.cell? ⟨we.heap.size + 1, 0, none⟩ = some (.string tW) := (cell_of HT.out.t2.blk 0).1
              have k1 : wc.cell? ⟨we.heap.size + 1, 1, none⟩ = some (.slice Au lW.length cu) := (cell_of HT.out.t2.blk 1).1
              have y0 := (cell_of HT.out.t1.blk 0).1
              have y1 := (cell_of HT.out.t1.blk 1).1
              have z0 := (cell_of HT.out.t1.blk 0).2
              have z1 := (cell_of HT.out.t1.blk 1).2
              have n0_ := Aside0.mk (sure_sets HT.out HS.out tW (.slice Au lW.length cu) lW HT.out.t2.row)
              clear hs hg hn o1 o2
              go_wp2
              go_roundg (gk - 1)
              case measure => omega
              case rel => exact ⟨i + 1, v, s, h, nx, tW, lW, tW, lW, _, _, by go_num, ⟨by omega⟩, ⟨n0_.out.2⟩, HG, HN, ⟨n0_.out.1⟩, ⟨OO.out.2, OO.out.2⟩⟩
            · have HS := Aside0.mk hs
              have HN := Aside0.mk hn
              have HG := Aside0.mk hg
              clear hs hn hg
              go_wp2
              go_meet
              case rel =>
                rcases HG.out with h1 | h1
                · exact ⟨s, h, nx, tS, lS, tS, lS, tW, lW, _, _, HS, ⟨h1⟩, HN, HT, ⟨.inl ⟨rfl, rfl⟩⟩⟩
                · exact ⟨s, h, nx, tW, lW, tS, lS, tW, lW, _, _, HS, ⟨h1⟩, HN, HT, ⟨.inr ⟨rfl, rfl⟩⟩⟩
        · go_wp2
          go_meet
          case rel => exact ⟨s, h, nx, tS, lS, tS, lS, tW, lW, _, _, ⟨HS.out.store⟩, HG, HN, HT, ⟨.inl ⟨rfl, rfl⟩⟩⟩
    case rest =>
      obtain ⟨s, h, nx, t, l, tS, lS, tW, lW, u1, u2, HS, HG, HN, HT, HO⟩ := hcut
      obtain ⟨x0, x1, x2, x3⟩ := FC.out _ HS.out.bel
      go_upto_region 31 with (go_at_call 40; (with_reducible refine (restart_calls _ _ _ s HS.out.sto).mono ?_); rintro e w6 ⟨rfl, hs, hu⟩; have HS6 := Aside0.mk (fuse_sts HS.out hs hu); have HT6 := Aside0.mk (HT.out.store HS.out (hu.mono (fun k _ hk => .inl hk))); clear hs hu)
      have HG6 := Aside0.mk (HG.out.power (-1) s.torn false (by omega))
      clear x0 x1 x2 x3
      obtain ⟨x0, x1, x2, x3⟩ := FC.out _ HS6.out.bel
      go_upto_region 32 with (go_at_call 35; (with_reducible refine (fuse_calls _ _ _ _ HS6.out.sto f2 f3).mono ?_); rintro e w7 ⟨rfl, hs, hu⟩; have HS7 := Aside0.mk (fuse_sts HS6.out hs hu); have HT7 := Aside0.mk (HT6.out.store HS6.out (hu.mono (fun k _ hk => .inl hk))); clear hs hu)
      clear x0 x1 x2 x3
      have HG7 := Aside0.mk (HG6.out.power (max f2 (-1)) f3 false (by have := HF2.out; omega))
      obtain ⟨s7, hs7, hg7, hn7⟩ : ∃ s7, StS w0 w7 (wa.heap.size + 1) wa.heap.size s7 ∧ GoodP s7 h nx (t :: l) ∧ s7.n = n := ⟨_, HS7.out, HG7.out, HN.out⟩
      clear HS7 HG7 HS6 HG6 HS HG HT HT6
      have HS7 := Aside0.mk hs7
      have HG7 := Aside0.mk hg7
      have HN7 := Aside0.mk hn7
      have O7 := Aside0.mk (HG7.out.opened (by have := HN7.out; have := H60.out; omega))
      have HG8 := Aside0.mk (hg7.power (-1) s7.torn false (by omega))
      have O8 := Aside0.mk (HG8.out.opened (by show s7.n ≤ 4096; have := HN7.out; have := H60.out; omega))
      have NB := Aside0.mk (HG7.out.short (by have := HN7.out; have := H60.out; omega))
      clear hs7 hg7 hn7
      go_upto_region 38 with (first
        | (go_at_call 25; (with_reducible refine (open_told _ _ _ s7 _ HS7.out.sto HG7.out.ok (by have := HG7.out.n3; omega) O7.out).mono ?_); rintro e w8 hp; have hu := hp.upd; obtain ⟨rfl, q1v, hs⟩ := HS7.out.opened hp; have HF8 := Aside0.mk hs; have HT8 := Aside0.mk (HT7.out.store HS7.out hu); clear hs hp hu)
        | (go_at_call 40; (with_reducible refine (restart_calls _ _ _ s7 HF8.out.at_.sto).mono ?_); rintro e w9 ⟨rfl, hs, hu⟩; have HF9 := Aside0.mk (fuse_st HF8.out hs hu); have HT9 := Aside0.mk (HT8.out.store HF8.out.store (hu.mono (fun k _ hk => .inl hk))); clear hs hu)
        | (go_at_call 25; (with_reducible refine (open_told w9 _ _ _ _ HF9.out.at_.sto HG8.out.ok (by have := HG8.out.n3; omega) O8.out).mono ?_); rintro e w10 hp; have hu := hp.upd; obtain ⟨rfl, q2v, hs⟩ := HF9.out.store.opened hp; have HK10 := Aside0.mk hs; have HF10 := Aside0.mk (refused_keep HF9.out hs.at_.sto hu); have HT10 := Aside0.mk (HT9.out.store HF9.out.store hu); clear hs hp hu)
        | (go_at_call 25; (with_reducible refine (open_told w10 _ _ _ _ HF10.out.at_.sto HG8.out.ok (by have := HG8.out.n3; omega) O8.out).mono ?_); rintro e w11 hp; have hu := hp.upd; obtain ⟨rfl, q3v, hs⟩ := HF10.out.store.opened hp; have HTri := Aside0.mk (Tri.mk (refused_keep HF10.out hs.at_.sto hu) (refused_keep HK10.out hs.at_.sto hu) hs); have HT11 := Aside0.mk (HT10.out.store HF10.out.store hu); clear hs hp hu))
      obtain ⟨As, ms, cs, es, ems, hles, hCs⟩ := cs_of HT11.out.t1.row
      obtain ⟨Aw, mw, cw, ew, emw, hlew, hCw⟩ := cs_of HT11.out.t2.row
      subst es
      subst ew
      have HCs := Aside0.mk hCs
      have HMs := Aside0.mk ems
      have HLs := Aside0.mk hles
      have HCw := Aside0.mk hCw
      have HMw := Aside0.mk emw
      have HLw := Aside0.mk hlew
      have k0 : w11.cell? ⟨we.heap.size, 0, none⟩ = some (.string tS) := (cell_of HT11.out.t1.blk 0).1
      have k1 : w11.cell? ⟨we.heap.size, 1, none⟩ = some (.slice As ms cs) := (cell_of HT11.out.t1.blk 1).1
      have OR := told_or t tS tW l lS lW NB.out.2.1 HO.out
      clear hCs ems hles hCw emw hlew HT7 HT8 HT9 HT10 HK10 HF8 HF9 HF10
      go_cut [172] (fun v172 wc => v172 = .bool false ∧ Aside0 (Below w11.heap.size w11 wc))
      case first =>
        rcases OR with ⟨a1, a2⟩ | ⟨a1 | ⟨a1, a2⟩, rfl, rfl⟩
        · have E2 := Aside0.mk a2
          have E1 := Aside0.mk a1
          clear a1 a2
          go_wp2_with (go_at_call 43; (with_reducible refine (is_yes _ _ _ _ _ _ _ _ (t :: l) HTri.out.b.at_ NB.out.1 (Nat.le_trans NB.out.2.1 (by omega)) tS lS As ms cs E1.out true E2.out HMs.out HLs.out HCs.out).mono ?_); rintro e w12 ⟨rfl, hb⟩; have HB := Aside0.mk hb; clear hb)
          go_meet
          case rel => exact ⟨rfl, HB⟩
        · have E1 := Aside0.mk a1
          clear a1
          have E3 : Aside0 (Ev (fun k => quitrentref06_Same.f k ((t :: l).drop 1) l) true) := ⟨same_dropped t l NB.out.2.1⟩
          go_wp2_with (first
            | (go_at_call 43; (with_reducible refine (is_no _ _ _ _ _ _ _ _ (t :: l) HTri.out.b.at_ NB.out.1 tS As ms cs E1.out).mono ?_); rintro e w12 ⟨rfl, hb⟩; have HB := Aside0.mk hb; clear hb; have y0 : w12.cell? ⟨we.heap.size + 1, 0, none⟩ = some (.string t) := (cell_of (HT11.out.below HB.out).t2.blk 0).1; have y1 : w12.cell? ⟨we.heap.size + 1, 1, none⟩ = some (.slice Aw mw cw) := (cell_of (HT11.out.below HB.out).t2.blk 1).1)
            | (go_at_call 43; (with_reducible refine (is_yes _ _ _ _ _ _ _ _ (t :: l) (HTri.out.below HB.out).b.at_ NB.out.1 (Nat.le_trans NB.out.2.1 (by omega)) t l Aw mw cw (by rw [txt_cons]; exact beq_self_eq_true _) true E3.out HMw.out HLw.out (Kd.C_below HCw.out HB.out)).mono ?_); rintro e w13 ⟨rfl, hb⟩; have n0_ := below_step HB.out hb; clear HB hb; have HB := Aside0.mk n0_; clear n0_))
          go_meet
          case rel => exact ⟨rfl, HB⟩
        · have E1 := Aside0.mk a1
          have E2 := Aside0.mk a2
          clear a1 a2
          have E3 : Aside0 (Ev (fun k => quitrentref06_Same.f k ((t :: l).drop 1) l) true) := ⟨same_dropped t l NB.out.2.1⟩
          go_wp2_with (first
            | (go_at_call 43; (with_reducible refine (is_yes _ _ _ _ _ _ _ _ (t :: l) HTri.out.b.at_ NB.out.1 (Nat.le_trans NB.out.2.1 (by omega)) tS lS As ms cs E1.out false E2.out HMs.out HLs.out HCs.out).mono ?_); rintro e w12 ⟨rfl, hb⟩; have HB := Aside0.mk hb; clear hb; have y0 : w12.cell? ⟨we.heap.size + 1, 0, none⟩ = some (.string t) := (cell_of (HT11.out.below HB.out).t2.blk 0).1; have y1 : w12.cell? ⟨we.heap.size + 1, 1, none⟩ = some (.slice Aw mw cw) := (cell_of (HT11.out.below HB.out).t2.blk 1).1)
            | (go_at_call 43; (with_reducible refine (is_yes _ _ _ _ _ _ _ _ (t :: l) (HTri.out.below HB.out).b.at_ NB.out.1 (Nat.le_trans NB.out.2.1 (by omega)) t l Aw mw cw (by rw [txt_cons]; exact beq_self_eq_true _) true E3.out HMw.out HLw.out (Kd.C_below HCw.out HB.out)).mono ?_); rintro e w13 ⟨rfl, hb⟩; have n0_ := below_step HB.out hb; clear HB hb; have HB := Aside0.mk n0_; clear n0_))
          go_meet
          case rel => exact ⟨rfl, HB⟩
      case rest =>
        obtain ⟨rfl, HB⟩ := hcut
        have n0_ := HTri.out.below HB.out
        clear HTri k0 k1 OR
        have HTri := Aside0.mk n0_
        clear n0_
        have E3 : Aside0 (Ev (fun k => quitrentref06_Same.f k ((t :: l).drop 1) ((t :: l).drop 1)) true) := ⟨same_ev _ (by have h9 := NB.out.2.1; simp only [List.length_cons, List.drop_succ_cons, List.drop_zero] at h9 ⊢; omega)⟩
        go_upto_region 41 with (first
          | (go_at_call 28; (with_reducible refine (jtext _ _ _ _ _ _ _ _ (t :: l) HTri.out.b.at_ NB.out.1).mono ?_); rintro e wy ⟨rfl, hw⟩; have hw2 := hw.symm; clear hw; subst hw2)
          | (go_at_call 29; (with_reducible refine (jrecs _ _ _ _ _ _ _ _ (t :: l) HTri.out.b.at_ NB.out.1 (Nat.le_trans NB.out.2.1 (by omega))).mono ?_); rintro e w14 ⟨A5, c5, rfl, hle, hC, hR, hb⟩; have C5 := Aside0.mk hC; have E5 := Aside0.mk hle; have HTr5 := Aside0.mk (HTri.out.below hb); clear hC hle hb hR))
        have NX : Aside0 ((w14.alloc (.cells #[.string (txt (t :: l)), .slice A5 l.length c5] 70)).heap[w14.heap.size]? = some (.cells #[.string (txt (t :: l)), .slice A5 l.length c5] 70 (0, 0))) := ⟨heap_alloc_new w14 _⟩
        have HTr := Aside0.mk (HTr5.out.below (below_alloc1 w14 (.cells #[.string (txt (t :: l)), .slice A5 l.length c5] 70)))
        have C6 := Aside0.mk (Kd.C_below C5.out (below_alloc1 w14 (.cells #[.string (txt (t :: l)), .slice A5 l.length c5] 70)))
        generalize w14.alloc (.cells #[.string (txt (t :: l)), .slice A5 l.length c5] 70) = w15 at *
        have k0 : w15.cell? ⟨w14.heap.size, 0, none⟩ = some (.string (txt (t :: l))) := (cell_of NX.out 0).1
        have k1 : w15.cell? ⟨w14.heap.size, 1, none⟩ = some (.slice A5 l.length c5) := (cell_of NX.out 1).1
        have HML : Aside0 (l.length = ((t :: l).drop 1).length) := ⟨rfl⟩
        have EE : Aside0 (((txt (t :: l)).toList == (txt (t :: l)).toList) = true) := ⟨beq_self_eq_true _⟩
        go_wp2_with (first
          | (go_at_call 43; (with_reducible refine (is_yes _ _ _ _ _ _ _ _ (t :: l) HTr.out.c.at_ NB.out.1 (Nat.le_trans NB.out.2.1 (by omega)) (txt (t :: l)) ((t :: l).drop 1) A5 l.length c5 EE.out true E3.out HML.out E5.out C6.out).mono ?_); rintro e w16 ⟨rfl, hb⟩; have HT16 := Aside0.mk (HTr.out.below hb); have C7 := Aside0.mk (Kd.C_below C6.out hb); have NX16 := Aside0.mk ((hb.block _ (lt_of_cells NX.out)).trans NX.out); clear hb)
          | (go_at_call 30; (with_reducible refine (jroom _ _ _ _ _ _ _ h nx _ _ HT16.out.c.at_ (by have := HG8.out.n3; omega) HG8.out.inv.hh NB.out.2.2.1).mono ?_); rintro e w17 ⟨rfl, hd⟩; have HT17 := Aside0.mk (HT16.out.below (below_drawn hd)); have C8 := Aside0.mk (Kd.C_below C7.out (below_drawn hd)); have NX17 := Aside0.mk (((below_drawn hd).block _ (lt_of_cells NX16.out)).trans NX16.out); clear hd)
          | (go_at_call 30; (with_reducible refine (jroom _ _ _ _ _ _ _ h nx _ _ HT17.out.b.at_ (by have := HG8.out.n3; omega) HG8.out.inv.hh NB.out.2.2.1).mono ?_); rintro e w18 ⟨rfl, hd⟩; have HT18 := Aside0.mk (HT17.out.below (below_drawn hd)); have C9 := Aside0.mk (Kd.C_below C8.out (below_drawn hd)); have NX18 := Aside0.mk (((below_drawn hd).block _ (lt_of_cells NX17.out)).trans NX17.out); have m0 : w18.cell? ⟨w14.heap.size, 0, none⟩ = some (.string (txt (t :: l))) := (cell_of NX18.out 0).1; have m1 : w18.cell? ⟨w14.heap.size, 1, none⟩ = some (.slice A5 l.length c5) := (cell_of NX18.out 1).1; clear hd)
          | (go_at_call 43; (with_reducible refine (is_yes _ _ _ _ _ _ _ _ (t :: l) HT18.out.a.at_ NB.out.1 (Nat.le_trans NB.out.2.1 (by omega)) (txt (t :: l)) ((t :: l).drop 1) A5 l.length c5 EE.out true E3.out HML.out E5.out C9.out).mono ?_); rintro e w19 ⟨rfl, hb⟩; have HT19 := Aside0.mk (HT18.out.below hb); clear hb))
        go_ret
        exact ⟨rfl, below_step BX.out HT19.out.a.bel⟩

set_option maxHeartbeats 2000000 in
set_option maxRecDepth 100000 in
theorem sure_many (w : World) (m : Int) (hm : 60 < m) (v1 : Value) (cs : Array Value) : Calls Tryd.prog 8 #[.int .i64 m, v1, .agg cs] w (TrueBelow w) := by
  have hb : decide (60 < m) = true := decide_eq_true hm
  have BX := Aside0.mk (below_alloc1 w (.cells cs 68))
  clear hm
  go_enter Tryd.func8, Tryd.ntmps8
  go_wp2_with (go_at_call 22; (with_reducible refine (awake_calls _).mono ?_); rintro e wa ⟨rfl, hb⟩; have B1 := Aside0.mk (below_step BX.out hb); clear hb)
  go_ret
  exact ⟨rfl, B1.out⟩
set_option maxHeartbeats 2000000 in
set_option maxRecDepth 100000 in
theorem sure_len (w : World) (m : Int) (hm : ¬ 60 < m) (A1 : Option Addr) (k1 c1 : Nat) (hk : 30 < k1) (cs : Array Value) : Calls Tryd.prog 8 #[.int .i64 m, .slice A1 k1 c1, .agg cs] w (TrueBelow w) := by
  have hb : decide (60 < m) = false := decide_eq_false hm
  have hb1 : decide ((30 : Int) < (k1 : Int)) = true := decide_eq_true (by omega)
  have hb2 : decide (30 < k1) = true := decide_eq_true hk
  have BX := Aside0.mk (below_alloc1 w (.cells cs 68))
  clear hm hk
  go_enter Tryd.func8, Tryd.ntmps8
  go_wp2_with (go_at_call 22; (with_reducible refine (awake_calls _).mono ?_); rintro e wa ⟨rfl, hb⟩; have B1 := Aside0.mk (below_step BX.out hb); clear hb)
  go_ret
  exact ⟨rfl, B1.out⟩
set_option maxHeartbeats 2000000 in
set_option maxRecDepth 100000 in
theorem sure_few (w : World) (m : Int) (hm : m < 3) (A1 : Option Addr) (c1 : Nat) (l1 : List Opv) (h1 : OpsAt w A1 l1) (hl1 : l1.length ≤ 30) (cs : Array Value) :
    Calls Tryd.prog 8 #[.int .i64 m, .slice A1 l1.length c1, .agg cs] w (TrueBelow w) := by
  have P1 := Aside0.mk h1
  have i60b : decide (60 < m) = false := decide_eq_false (by omega)
  have i1b : decide ((30 : Int) < (l1.length : Int)) = false := decide_eq_false (by omega)
  have i1c : decide (30 < l1.length) = false := decide_eq_false (by omega)
  have HM := Aside0.mk (show m < 3 ∨ m > 4096 from .inl hm)
  have BX := Aside0.mk (below_alloc1 w (.cells cs 68))
  clear h1 hm hl1
  go_enter Tryd.func8, Tryd.ntmps8
  go_wp2_with (first
    | (go_at_call 22; (with_reducible refine (awake_calls _).mono ?_); rintro e wa ⟨rfl, hb⟩; have B1 := Aside0.mk (below_step BX.out hb); clear hb)
    | (go_at_call 23; (with_reducible refine (size_calls _ _ l1 _ (P1.out.below B1.out)).mono ?_); rintro e wb ⟨⟨r1, rfl⟩, hw⟩; have hw2 := hw.symm; clear hw; subst hw2)
    | (go_at_call 24; (with_reducible refine (new_none m _ HM.out).mono ?_); rintro e wb ⟨rfl, hw⟩; have hw2 := hw.symm; clear hw; subst hw2))
  · go_ret
    exact ⟨rfl, B1.out⟩
  · go_ret
    exact ⟨rfl, B1.out⟩
theorem sure_calls (w : World) (m : Int) (A1 : Option Addr) (c1 : Nat) (l1 : List Opv) (h1 : OpsAt w A1 l1) (f0 f1 f2 f3 : Int) (hf0 : f0 ≤ 9223372036854775807) (hf2 : f2 ≤ 9223372036854775807) :
    Calls Tryd.prog 8 #[.int .i64 m, .slice A1 l1.length c1, .agg #[.int .i64 f0, .int .i64 f1, .int .i64 f2, .int .i64 f3]] w (TrueBelow w) := by
  by_cases hm : 60 < m
  · exact sure_many w m hm _ _
  · by_cases k1 : 30 < l1.length
    · exact sure_len w m hm _ _ _ k1 _
    · by_cases h3 : m < 3
      · exact sure_few w m h3 A1 c1 l1 h1 (by omega) _
      · obtain ⟨n, rfl⟩ := Int.eq_ofNat_of_zero_le (show 0 ≤ m by omega)
        exact sure_run w n (by omega) (by omega) A1 c1 l1 h1 (by omega) f0 f1 f2 f3 hf0 hf2

end Go.Proofs.YtnfeknaeikpdmaaDoor.PR
