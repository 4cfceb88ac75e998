import Derived.Test.YtnfeknaeikpdmaaDoorJM8
namespace Go.Proofs.YtnfeknaeikpdmaaDoor.PR
open Go.RowKit Go.Proofs.YtnfeknaeikpdmaaDoorW.PrintWords Go.Proofs.YtnfeknaeikpdmaaDoorW.PrintLast Go.Proofs.YtnfeknaeikpdmaaDoorW.PrintMore
attribute [local go_sem] max2_int min2_int max_two min_two max_three min_three max_four min_four
set_option linter.unusedVariables false
set_option linter.unusedSimpArgs false
/-! ### what should be kept -/
theorem same_l0_any (a b : List ByteArray) (hab : a.length = b.length) (hl : a.length ≤ 1000000) (d : Nat) : ∀ (i : Nat), i + d = a.length → ∃ r, Ev (fun k => quitrentref06_Same.l0 k a b (i : Int)) r := by
  induction d with
  | zero =>
    intro i hi
    refine ⟨true, 1, fun k hk => ?_⟩
    obtain ⟨k, rfl⟩ : ∃ m, k = m + 1 := ⟨k - 1, by omega⟩
    simp only [quitrentref06_Same.l0]
    rw [if_neg (by omega)]
  | succ d ih =>
    intro i hi
    have e1 : wrap64 ((i : Int) + 1) = ((i + 1 : Nat) : Int) := by unfold wrap64; omega
    by_cases c : (rdOf ByteArray.empty a (i : Int)).toList = (rdOf ByteArray.empty b (i : Int)).toList
    · obtain ⟨r, hr⟩ := ih (i + 1) (by omega)
      refine ⟨r, Ev.step (fun k => ?_) hr⟩
      simp only [quitrentref06_Same.l0]
      rw [if_pos (by omega), if_pos (by omega), if_pos (by omega), if_pos c, e1]
    · refine ⟨false, 1, fun k hk => ?_⟩
      obtain ⟨k, rfl⟩ : ∃ m, k = m + 1 := ⟨k - 1, by omega⟩
      simp only [quitrentref06_Same.l0]
      rw [if_pos (by omega), if_pos (by omega), if_pos (by omega), if_neg c]
theorem same_any (a b : List ByteArray) (hl : a.length ≤ 1000000) : ∃ r, Ev (fun k => quitrentref06_Same.f k a b) r := by
  by_cases c : (a.length : Int) = (b.length : Int)
  · obtain ⟨r, K, hK⟩ := same_l0_any a b (by omega) hl a.length 0 (by omega)
    refine ⟨r, K, fun k hk => ?_⟩
    show quitrentref06_Same.f k a b = _
    unfold quitrentref06_Same.f
    rw [if_pos c]
    exact hK k hk
  · refine ⟨false, 0, fun k hk => ?_⟩
    show quitrentref06_Same.f k a b = _
    unfold quitrentref06_Same.f
    rw [if_neg c]
theorem same_toldR (a b : List ByteArray) (r : Bool) (hr : Ev (fun k => quitrentref06_Same.f k a b) r) (n0 n1 : Nat) (w : World) (A0 A1 : Option Addr) (c0 c1 : Nat) (hn0 : n0 = a.length) (hn1 : n1 = b.length) (h0 : Kd.C Kd.string w A0 a.length a) (hc0 : a.length ≤ c0) (h1 : Kd.C Kd.string w A1 b.length b) (hc1 : b.length ≤ c1) :
    Calls Tryd.prog 19 #[.slice A0 n0 c0, .slice A1 n1 c1] w fun e w' => e = .returned (.bool r) ∧ Drawn0 w w' := by
  subst hn0 hn1
  obtain ⟨f, hf⟩ := hr
  exact quitrentref06_Same.calls f A0 c0 a A1 c1 b r w h0 hc0 h1 hc1 (hf f (Nat.le_refl _))
theorem cs_of {w : World} {base : Nat} {ok : Nat → Prop} {v : Value} {l : List ByteArray} (h : Kd.R Kd.string 9 w base ok v l) : ∃ A m c, v = .slice A m c ∧ m = l.length ∧ l.length ≤ c ∧ Kd.C Kd.string w A l.length l := by
  obtain ⟨A, c, e, h1, h2⟩ := Kd.R_reads h
  exact ⟨A, _, c, e, rfl, h1, h2⟩
theorem below_drewN (w : World) (n : Nat) : Below w.heap.size w (w.drewN n) := below_drawn ⟨n, rfl⟩
set_option maxHeartbeats 1000000 in
set_option maxRecDepth 100000 in
theorem is_no (w : World) (base p g q : Nat) (v : Value) (s : Sto) (j : Jou) (l : List ByteArray) (hJ : JAt w base p g q v s j l) (hl : 1 ≤ l.length) (t : ByteArray) (A : Option Addr) (m c : Nat) (ht : ((txt l).toList == t.toList) = false) :
    Calls Tryd.prog 43 #[.agg #[.string t, .slice A m c], .pointer (some ⟨q, 0, none⟩)] w fun e w' => e = .returned (.bool false) ∧ Below w.heap.size w w' := by
  have HJ := Aside0.mk (hJ.below (below_alloc1 w (.cells #[.string t, .slice A m c] 70)))
  have HJ2 := Aside0.mk (HJ.out.below (below_drew _))
  clear hJ
  go_enter Tryd.func43, Tryd.ntmps43
  go_upto_region 1 with fail
  go_quiet ((first | (go_at_call 28; exact Calls.quiet_of_same (jtext _ _ _ _ _ _ _ _ l (HJ.out.below (below_drewN _ _)) hl))))
  go_wp2
  go_ret
  exact ⟨rfl, below_step (below_alloc1 w (.cells #[.string t, .slice A m c] 70)) (below_drawn ⟨_, rfl⟩)⟩
set_option maxHeartbeats 1000000 in
set_option maxRecDepth 100000 in
theorem is_yes (w : World) (base p g q : Nat) (v : Value) (s : Sto) (j : Jou) (l : List ByteArray) (hJ : JAt w base p g q v s j l) (hl : 1 ≤ l.length) (hl2 : l.length ≤ 1000000) (t : ByteArray) (l' : List ByteArray) (A : Option Addr) (m c : Nat) (ht : ((txt l).toList == t.toList) = true) (r : Bool) (hr : Ev (fun k => quitrentref06_Same.f k (l.drop 1) l') r) (hm : m = l'.length) (hc : l'.length ≤ c) (hC : Kd.C Kd.string w A l'.length l') :
    Calls Tryd.prog 43 #[.agg #[.string t, .slice A m c], .pointer (some ⟨q, 0, none⟩)] w fun e w' => e = .returned (.bool r) ∧ Below w.heap.size w w' := by
  have HB := Aside0.mk (below_step (below_alloc1 w (.cells #[.string t, .slice A m c] 70)) (below_drew _))
  have HJ := Aside0.mk (hJ.below HB.out)
  have HC := Aside0.mk (Kd.C_below hC HB.out)
  have X := cell_of (w := w.alloc (.cells #[.string t, .slice A m c] 70)) (p := w.heap.size) (heap_alloc_new w _)
  have k0 : (w.alloc (.cells #[.string t, .slice A m c] 70)).cell? ⟨w.heap.size, 0, none⟩ = some (.string t) := (X 0).1
  have k1 : (w.alloc (.cells #[.string t, .slice A m c] 70)).cell? ⟨w.heap.size, 1, none⟩ = some (.slice A m c) := (X 1).1
  have hlt : w.heap.size < (w.alloc (.cells #[.string t, .slice A m c] 70)).heap.size := by rw [size_alloc_]; omega
  have HR := Aside0.mk hr
  have HM := Aside0.mk hm
  have HCC := Aside0.mk hc
  clear hJ hC X hr hm hc
  go_enter Tryd.func43, Tryd.ntmps43
  go_upto_region 1 with fail
  generalize w.alloc (.cells #[.string t, .slice A m c] 70) = w1 at *
  go_region_held3 (fun W => W.cell? ⟨w.heap.size, 0, none⟩ = some (.string t) ∧ W.cell? ⟨w.heap.size, 1, none⟩ = some (.slice A m c)) (first | (exact ⟨k0, k1⟩) | go_keep)
    (first
      | (go_at_call 28; (with_reducible refine (jtext _ _ _ _ _ _ _ _ l HJ.out hl).mono ?_); rintro e wy ⟨rfl, hw⟩; have hw2 := hw.symm; clear hw; subst hw2)
      | (go_at_call 29; (with_reducible refine (jrecs _ _ _ _ _ _ _ _ l HJ.out hl hl2).mono ?_); rintro e wx ⟨A5, c5, rfl, hle, hC5, _, hb⟩; have C5 := Aside0.mk hC5; have E5 := Aside0.mk hle; have C6 := Aside0.mk (Kd.C_below HC.out hb); have n0_ := below_step HB.out hb; have k0' := (hb.cell (p := ⟨w.heap.size, 0, none⟩) hlt).trans k0; have k1' := (hb.cell (p := ⟨w.heap.size, 1, none⟩) hlt).trans k1; clear k0 k1 HB hC5 hle hb; have HB := Aside0.mk n0_; have k0 := k0'; have k1 := k1'; clear n0_ k0' k1')
      | (go_at_call 19; (with_reducible refine (same_toldR (l.drop 1) l' r HR.out _ _ _ _ _ _ _ (by rw [List.length_drop]) HM.out C5.out E5.out C6.out HCC.out).mono ?_); rintro e wt ⟨rfl, hd⟩; have n0_ := below_step HB.out (below_drawn hd); clear HB; have HB := Aside0.mk n0_; clear n0_; obtain ⟨⟨nd, ed⟩⟩ := hd; subst ed))
  go_wp2
  go_ret
  exact ⟨rfl, HB.out⟩

structure ToldAt (w0 w : World) (X : Nat) (u : Value) (t : ByteArray) (l : List ByteArray) : Prop where
  blk : w.heap[X]? = some (.cells #[.string t, u] 70 (0, 0))
  row : Kd.R Kd.string 9 w w0.heap.size (fun _ => True) u l
theorem ToldAt.below {w0 w w1 : World} {X : Nat} {u : Value} {t : ByteArray} {l : List ByteArray} (h : ToldAt w0 w X u t l) (hb : Below w.heap.size w w1) : ToldAt w0 w1 X u t l :=
  ⟨(hb.block X (lt_of_cells h.blk)).trans h.blk, Kd.R_below h.row hb⟩
theorem ToldAt.rowTyped {w0 w : World} {X : Nat} {u : Value} {t : ByteArray} {l : List ByteArray} (h : ToldAt w0 w X u t l) (k : Nat) (hk : u.ownBlock = some k) : ∃ cells, w.heap[k]? = some (.cells cells 9 (0, 0)) := by
  obtain ⟨inner, ho⟩ := Kd.R_own h.row
  exact own_typed ho k hk
theorem ToldAt.keep {S : Nat → Prop} {w0 w w1 : World} {X : Nat} {u : Value} {t : ByteArray} {l : List ByteArray} (h : ToldAt w0 w X u t l) (hu : Upd S w w1) (hX : ¬ S X) (hv : ∀ k, u.ownBlock = some k → ¬ S k) : ToldAt w0 w1 X u t l := by
  refine ⟨(hu.block X (lt_of_cells h.blk) hX).trans h.blk, ?_⟩
  obtain ⟨h0, inner, ho, hr⟩ := h.row
  exact ⟨h0, inner, own_move ho (fun k hk => hu.block k (own_lt ho k hk) (hv k hk)), hr⟩
def Off (v u : Value) : Prop := ∀ b, v.ownBlock = some b → u.ownBlock ≠ some b
theorem ToldAt.call {w0 w w1 : World} {p g q : Nat} {v : Value} {s : Sto} {h nx : Nat} {l : List ByteArray} {X : Nat} {u : Value} {t : ByteArray} {lt : List ByteArray} (T : ToldAt w0 w X u t lt) (H : St w0 w p g q v s h nx l) (ha : Off v u) (hu : Upd (Mine p g q v) w w1) : ToldAt w0 w1 X u t lt := by
  have hq : w.heap[q]? = _ := H.at_.jou
  refine T.keep hu ?_ ?_
  · rintro (e | e | e | e)
    · exact ty_ne T.blk H.at_.sto.hp (by decide) e
    · exact ty_ne T.blk H.at_.sto.hg (by decide) e
    · exact ty_ne T.blk hq (by decide) e
    · obtain ⟨c, hc⟩ := H.rowTyped _ e.symm; exact ty_ne T.blk hc (by decide) rfl
  · intro k hk
    obtain ⟨c, hc⟩ := T.rowTyped k hk
    rintro (e | e | e | e)
    · exact ty_ne hc H.at_.sto.hp (by decide) e
    · exact ty_ne hc H.at_.sto.hg (by decide) e
    · exact ty_ne hc hq (by decide) e
    · exact ha k e.symm hk
/-- What is sure, and what was on its way. -/
structure Tolds (w0 w : World) (X1 X2 : Nat) (u1 u2 : Value) (tS : ByteArray) (lS : List ByteArray) (tW : ByteArray) (lW : List ByteArray) : Prop where
  t1 : ToldAt w0 w X1 u1 tS lS
  t2 : ToldAt w0 w X2 u2 tW lW
  ne : X1 ≠ X2
  h1 : w0.heap.size ≤ X1
  h2 : w0.heap.size ≤ X2
theorem Tolds.below {w0 w w1 : World} {X1 X2 : Nat} {u1 u2 : Value} {tS : ByteArray} {lS : List ByteArray} {tW : ByteArray} {lW : List ByteArray} (T : Tolds w0 w X1 X2 u1 u2 tS lS tW lW) (hb : Below w.heap.size w w1) : Tolds w0 w1 X1 X2 u1 u2 tS lS tW lW := ⟨T.t1.below hb, T.t2.below hb, T.ne, T.h1, T.h2⟩
/-- What a call on the journal has left: refused, done, or broken off. -/
def OutS (w0 w : World) (p g q n : Nat) (u1 u2 : Value) (tS : ByteArray) (lS : List ByteArray) (tW : ByteArray) (lW : List ByteArray) (f : Int) : Prop :=
  (f = 4 ∧ ∃ v s h nx, St w0 w p g q v s h nx (tS :: lS) ∧ GoodP s h nx (tS :: lS) ∧ s.n = n ∧ Off v u1 ∧ Off v u2) ∨
  (f = 0 ∧ ∃ v s h nx, St w0 w p g q v s h nx (tW :: lW) ∧ GoodP s h nx (tW :: lW) ∧ s.n = n ∧ Off v u1 ∧ Off v u2) ∨
  (f = 9 ∧ ∃ s h nx, StS w0 w p g s ∧ s.n = n ∧ (GoodP s h nx (tS :: lS) ∨ GoodP s h nx (tW :: lW)))
theorem off_next {w0 w : World} {X : Nat} {v v' u : Value} {t : ByteArray} {lt : List ByteArray} (T : ToldAt w0 w X u t lt) (ha : Off v u) (hv : v'.ownBlock = v.ownBlock ∨ ∃ k, v'.ownBlock = some k ∧ w.heap.size ≤ k) : Off v' u := by
  intro b hb h2
  rcases hv with hv | ⟨k, hv, hlt⟩
  · exact ha b (hv ▸ hb) h2
  · rw [hv] at hb
    injection hb with hb
    obtain ⟨c, hc⟩ := T.rowTyped b h2
    have := lt_of_cells hc
    omega
theorem sure_append {w0 w w1 : World} {p g q n : Nat} {v : Value} {s : Sto} {h nx : Nat} {X1 X2 : Nat} {u1 u2 : Value} {tS : ByteArray} {lS : List ByteArray} {b : ByteArray} {e : Ending} (H : St w0 w p g q v s h nx (tS :: lS)) (G : GoodP s h nx (tS :: lS)) (hn : s.n = n) (T : Tolds w0 w X1 X2 u1 u2 tS lS tS (lS ++ [b])) (a1 : Off v u1) (a2 : Off v u2)
    (hc : CallPost w w0.heap.size p g q v (appendP s h nx (tS :: lS) b).1 ⟨h, (appendP s h nx (tS :: lS) b).2.1, (appendP s h nx (tS :: lS) b).2.2.2.1⟩ (appendP s h nx (tS :: lS) b).2.2.1 (appendP s h nx (tS :: lS) b).2.2.2.2 e w1) :
    ∃ f : Int, e = .returned (.int .i64 f) ∧ Tolds w0 w1 X1 X2 u1 u2 tS lS tS (lS ++ [b]) ∧ OutS w0 w1 p g q n u1 u2 tS lS tS (lS ++ [b]) f := by
  obtain ⟨he, v', hj, hu, hv⟩ := hc
  have hb := H.mine hu
  refine ⟨_, he, ⟨T.t1.call H a1 hu, T.t2.call H a2 hu, T.ne, T.h1, T.h2⟩, ?_⟩
  have o1 := off_next T.t1 a1 hv
  have o2 := off_next T.t2 a2 hv
  rcases G.append b with h1 | ⟨s', h1, h2, h3⟩ | ⟨s', br, h1, h2, h3⟩
  · rw [h1] at hj ⊢
    exact .inl ⟨rfl, v', s, h, nx, ⟨hj, hb, H.hp, H.hg, H.hq⟩, G, hn, o1, o2⟩
  · rw [h1] at hj ⊢
    exact .inr (.inl ⟨rfl, v', s', h, _, ⟨hj, hb, H.hp, H.hg, H.hq⟩, h2, h3.trans hn, o1, o2⟩)
  · rw [h1] at hj ⊢
    refine .inr (.inr ⟨rfl, s', h, ?_⟩)
    rcases h2 with h2 | h2
    · exact ⟨_, ⟨hj.sto, hb, H.hp, H.hg⟩, h3.trans hn, .inl h2⟩
    · exact ⟨_, ⟨hj.sto, hb, H.hp, H.hg⟩, h3.trans hn, .inr h2⟩
theorem sure_snap {w0 w w1 : World} {p g q n : Nat} {v : Value} {s : Sto} {h nx : Nat} {X1 X2 : Nat} {u1 u2 : Value} {tS : ByteArray} {lS : List ByteArray} {b : ByteArray} {e : Ending} (H : St w0 w p g q v s h nx (tS :: lS)) (G : GoodP s h nx (tS :: lS)) (hn : s.n = n) (T : Tolds w0 w X1 X2 u1 u2 tS lS b []) (a1 : Off v u1) (a2 : Off v u2)
    (hc : CallPost w w0.heap.size p g q v (snapP s h nx (tS :: lS) b).1 ⟨(snapP s h nx (tS :: lS) b).2.1, (snapP s h nx (tS :: lS) b).2.2.1, (snapP s h nx (tS :: lS) b).2.2.2.2.1⟩ (snapP s h nx (tS :: lS) b).2.2.2.1 (snapP s h nx (tS :: lS) b).2.2.2.2.2 e w1) :
    ∃ f : Int, e = .returned (.int .i64 f) ∧ Tolds w0 w1 X1 X2 u1 u2 tS lS b [] ∧ OutS w0 w1 p g q n u1 u2 tS lS b [] f := by
  obtain ⟨he, v', hj, hu, hv⟩ := hc
  have hb := H.mine hu
  refine ⟨_, he, ⟨T.t1.call H a1 hu, T.t2.call H a2 hu, T.ne, T.h1, T.h2⟩, ?_⟩
  have o1 := off_next T.t1 a1 hv
  have o2 := off_next T.t2 a2 hv
  rcases G.snap b with h1 | ⟨s', h1, h2, h3⟩ | ⟨s', br, h1, h2, h3⟩
  · rw [h1] at hj ⊢
    exact .inl ⟨rfl, v', s, h, nx, ⟨hj, hb, H.hp, H.hg, H.hq⟩, G, hn, o1, o2⟩
  · rw [h1] at hj ⊢
    exact .inr (.inl ⟨rfl, v', s', _, _, ⟨hj, hb, H.hp, H.hg, H.hq⟩, h2, h3.trans hn, o1, o2⟩)
  · rw [h1] at hj ⊢
    rcases h2 with h2 | h2
    · exact .inr (.inr ⟨rfl, s', _, _, ⟨hj.sto, hb, H.hp, H.hg⟩, h3.trans hn, .inl h2⟩)
    · exact .inr (.inr ⟨rfl, s', _, _, ⟨hj.sto, hb, H.hp, H.hg⟩, h3.trans hn, .inr h2⟩)
/-! #### the power -/
theorem GoodP.power {s : Sto} {h nx : Nat} {l : List ByteArray} (hG : GoodP s h nx l) (left torn : Int) (down : Bool) (hl : -1 ≤ left ∧ left ≤ 9223372036854775807) : GoodP { s with left := left, torn := torn, down := down } h nx l := ⟨hG.n3, hl, hG.len, hG.inv⟩
theorem fuse_st {w0 w w1 : World} {p g q : Nat} {v : Value} {s s' : Sto} {h nx : Nat} {l : List ByteArray} (H : St w0 w p g q v s h nx l) (hs : StoAt w1 p g s') (hu : Upd (fun k => k = p) w w1) : St w0 w1 p g q v s' h nx l :=
  refused_keep H hs (hu.mono (fun k _ hk => .inl hk))
theorem fuse_sts {w0 w w1 : World} {p g : Nat} {s s' : Sto} (H : StS w0 w p g s) (hs : StoAt w1 p g s') (hu : Upd (fun k => k = p) w w1) : StS w0 w1 p g s' := H.upd hs (hu.mono (fun k _ hk => .inl hk))
theorem ToldAt.store {w0 w w1 : World} {p g : Nat} {s : Sto} {X : Nat} {u : Value} {t : ByteArray} {lt : List ByteArray} (T : ToldAt w0 w X u t lt) (H : StS w0 w p g s) (hu : Upd (fun k => k = p ∨ k = g) w w1) : ToldAt w0 w1 X u t lt := by
  refine T.keep hu ?_ ?_
  · rintro (e | e)
    · exact ty_ne T.blk H.sto.hp (by decide) e
    · exact ty_ne T.blk H.sto.hg (by decide) e
  · intro k hk
    obtain ⟨c, hc⟩ := T.rowTyped k hk
    rintro (e | e)
    · exact ty_ne hc H.sto.hp (by decide) e
    · exact ty_ne hc H.sto.hg (by decide) e
theorem Tolds.store {w0 w w1 : World} {p g : Nat} {s : Sto} {X1 X2 : Nat} {u1 u2 : Value} {tS : ByteArray} {lS : List ByteArray} {tW : ByteArray} {lW : List ByteArray} (T : Tolds w0 w X1 X2 u1 u2 tS lS tW lW) (H : StS w0 w p g s) (hu : Upd (fun k => k = p ∨ k = g) w w1) : Tolds w0 w1 X1 X2 u1 u2 tS lS tW lW := ⟨T.t1.store H hu, T.t2.store H hu, T.ne, T.h1, T.h2⟩
theorem empty_own (w : World) (base : Nat) (hb : base ≤ w.heap.size) : Kd.R Kd.string 9 (w.alloc (.cells #[] 9)) base (fun _ => True) (.slice (some ⟨w.heap.size, 0, none⟩) 0 0) [] := by
  refine Kd.R_of_own ?_ (fun _ _ => trivial)
  exact ⟨rfl, .inr ⟨w.heap.size, 0, #[], rfl, hb, heap_alloc_new w _, Nat.le_refl _, by decide, rfl, rfl⟩⟩

end Go.Proofs.YtnfeknaeikpdmaaDoor.PR
