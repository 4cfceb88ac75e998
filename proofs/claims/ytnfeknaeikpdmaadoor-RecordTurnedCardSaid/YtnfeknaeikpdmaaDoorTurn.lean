import Derived.Test.YtnfeknaeikpdmaaDoorPR3
namespace Go.Proofs.YtnfeknaeikpdmaaDoor.PR
open Go.RowKit Go.Proofs.YtnfeknaeikpdmaaDoorW.PrintWords Go.Proofs.YtnfeknaeikpdmaaDoorW.PrintLast Go.Proofs.YtnfeknaeikpdmaaDoorW.PrintMore
attribute [local go_sem] max2_int min2_int max_two min_two max_three min_three max_four min_four
set_option linter.unusedVariables false
set_option linter.unusedSimpArgs false
/-! ### quitrentlaw06_RecordTurned: function 5, by hand -/
def turnedB (s : ByteArray) (r : Int) (by_ : Int) : ByteArray := strOfNums ((bytesOf s).set r.toNat (Go.bits .xor .u8 (bt s r) by_))
set_option maxHeartbeats 2000000 in
set_option maxRecDepth 100000 in
theorem turned_early (k : Nat) (a0 : ByteArray) (a1 a2 : Int) (w : World) (hA : quitrentlaw06_awake.f k = some true) (hc : (a0.size : Int) > 3000 ∨ a2 = 0) :
    Calls Tryd.prog 5 #[.string a0, .int .u16 a1, .int .u8 a2] w fun e w' => e = .returned (.bool true) ∧ Below w.heap.size w w' := by
  have HB := Aside0.mk (Below.refl w.heap.size w)
  have A4 := Aside0.mk hA
  clear hA
  go_enter Tryd.func5, Tryd.ntmps5
  go_upto_region 3 with (first | ((with_reducible refine gate_callee (f := 9) rfl ?_); refine goesL_ (some 13) rfl rfl Tryd.func9 (by kernel_rfl) rfl #[] rfl (by (try simp only [List.map_toArray, List.map_cons, List.map_nil]); first | done | rfl | (simp only [List.length_drop, List.length_take]; rfl)) ?_; (with_reducible refine (quitrentlaw06_awake.calls k  true _ A4.out).mono ?_); rintro e w7 ⟨rfl, hb⟩; refine ⟨_, rfl, ?_⟩; have n0_ := Aside0.mk (below_step (by repeat (first | (with_reducible first | exact HB.out | apply below_alloc | apply pw_below_drewN | apply below_drew1) | exact HB.out)) hb); clear HB; have HB := n0_; clear n0_; (try clear hb); (try clear hb2); (try clear hk); (try clear hi)))
  (try simp only [Act.put, List.setIfInBounds_toArray, List.set_cons_zero, List.set_cons_succ])
  by_cases c8 : (a0.size : Int) > 3000
  · have c8b0 : decide (3000 < (a0.size : Int)) = true := decide_eq_true c8
    have c8b1 : decide (3000 < a0.size) = true := decide_eq_true (by omega)
    clear c8 hc
    go_wp2
    go_ret
    exact ⟨by first | rfl | (simp [*, errW_none, errW_some] <;> rfl), by repeat (first | (with_reducible first | exact HB.out | apply below_alloc | apply pw_below_drewN | apply below_drew1) | exact HB.out)⟩
  · have h2 : a2 = 0 := hc.resolve_left c8
    subst h2
    have c8b0 : decide (3000 < (a0.size : Int)) = false := decide_eq_false c8
    have c8b1 : decide (3000 < a0.size) = false := decide_eq_false (by omega)
    clear c8 hc
    go_wp2
    go_ret
    exact ⟨by first | rfl | (simp [*, errW_none, errW_some] <;> rfl), by repeat (first | (with_reducible first | exact HB.out | apply below_alloc | apply pw_below_drewN | apply below_drew1) | exact HB.out)⟩
theorem turned_cell (W : World) (S : ByteArray) (t : Int) (h0 : 0 ≤ t) (h : t < (S.size : Int)) : (Lib.bytesWorld W 5 S).cell? ⟨W.heap.size, t.toNat, none⟩ = some (.int .u8 (bt S t)) := by
  rw [Lib.bytesWorld_cell W 5 S t.toNat (by omega)]
  unfold bt
  have hl : t.toNat < S.data.toList.length := by rw [Array.length_toList]; show t.toNat < S.size; omega
  rw [dif_pos (show t.toNat < S.size by omega), List.getD_eq_getElem?_getD, List.getElem?_eq_getElem hl]
  rfl
theorem turned_free (W : World) (S : ByteArray) (t : Int) (h0 : 0 ≤ t) (h : t < (S.size : Int)) : (Lib.bytesWorld W 5 S).frozen? ⟨W.heap.size, t.toNat, none⟩ = false := by
  unfold World.frozen?
  rw [show (Lib.bytesWorld W 5 S).heap[(⟨W.heap.size, t.toNat, none⟩ : Addr).block]? = _ from Lib.bytesWorld_at_new W 5 S]
  have : S.size ≤ (Lib.bytesCells W 5 S).size := by
    unfold Lib.bytesCells
    rw [Array.size_append, Array.size_map]
    exact Nat.le_add_right _ _
  show (decide ((Lib.bytesCells W 5 S).size ≤ t.toNat) && _) = false
  rw [decide_eq_false (by omega)]
  rfl
theorem turned_row (W : World) (S : ByteArray) (i : Nat) (h : i < S.size) : (Lib.bytesWorld W 5 S).cell? ⟨W.heap.size, i, none⟩ = some (.int .u8 ((bytesOf S).getD i 0)) := by
  rw [Lib.bytesWorld_cell W 5 S i h]
  have h' : i < S.data.toList.length := by rw [Array.length_toList]; exact h
  simp [bytesOf, List.getD_eq_getElem?_getD, List.getElem?_eq_getElem h']
theorem turned_set (W : World) (b : Nat) (S : ByteArray) (t : Int) (x : Int) (h0 : 0 ≤ t) (h : t < (S.size : Int)) (hrow : ∀ (i : Nat), i < S.size → W.cell? ⟨b, i, none⟩ = some (.int .u8 ((bytesOf S).getD i 0))) (i : Nat) (hi : i < S.size) :
    (W.setCell ⟨b, t.toNat, none⟩ (.int .u8 x)).cell? ⟨b, 0 + i, none⟩ = some (.int .u8 (((bytesOf S).set t.toNat x).getD i 0)) := by
  have hl : (bytesOf S).length = S.size := bytesOf_length S
  rw [Nat.zero_add]
  by_cases e : t.toNat = i
  · subst e
    rw [World.cell?_setCell_same' W _ _ (by rw [hrow _ hi]; rfl), List.getD_eq_getElem?_getD, List.getElem?_set_self (by omega)]
    rfl
  · rw [World.cell?_setCell_other (h := by intro c; injection c; contradiction), hrow i hi, List.getD_eq_getElem?_getD, List.getD_eq_getElem?_getD, List.getElem?_set_ne e]
set_option maxHeartbeats 4000000 in
set_option maxRecDepth 100000 in
theorem turned_walk (k : Nat) (a0 : ByteArray) (a1 a2 : Int) (L : List ByteArray) (kk : Int) (s : ByteArray) (f : Int) (r : Bool) (w : World) (hA : quitrentlaw06_awake.f k = some true) (h0 : ¬ (a0.size : Int) > 3000) (h2 : ¬ a2 = 0) (er : Int) (her : er = 0) (hLay : record_Lay.f k a0 true = some (L, er))
    (hl1 : 0 < L.length) (hl2 : L.length ≤ 10000) (h1 : 0 ≤ a1 ∧ a1 < 65536) (hkk : kk = a1 % (64 * (L.length : Int))) (hsz : (rdOf ByteArray.empty L (kk / 64)).size = 64)
    (hJ : record_Join.f k (L.set (kk / 64).toNat (turnedB (rdOf ByteArray.empty L (kk / 64)) (kk % 64) a2)) = some (s, f))
    (hr : (if kk ≥ 3 then (if s.toList = ([] : List UInt8) then (some (f == 8)) else (some false)) else (if s.toList = ([] : List UInt8) then (if f = 0 then (if kk > 0 then (some (s.toList != a0.toList)) else (some false)) else (some true)) else (if kk > 0 then (if f = 0 then (some (s.toList != a0.toList)) else (some false)) else (some false)))) = some r) :
    Calls Tryd.prog 5 #[.string a0, .int .u16 a1, .int .u8 a2] w fun e w' => e = .returned (.bool r) ∧ Below w.heap.size w w' := by
  have HB := Aside0.mk (Below.refl w.heap.size w)
  have A4 := Aside0.mk hA
  have A10 := Aside0.mk hLay
  have A17 := Aside0.mk hJ
  have HR := Aside0.mk hr
  have HK := Aside0.mk hkk
  have HS := Aside0.mk hsz
  clear hA hLay hJ hr
  have c8b0 : decide (3000 < (a0.size : Int)) = false := decide_eq_false h0
  have c8b1 : decide (3000 < a0.size) = false := decide_eq_false (by omega)
  have c2b0 : (a2 == 0) = false := beq_eq_false_iff_ne.mpr h2
  have n0 : ((L.length : Int) == 0) = false := beq_eq_false_iff_ne.mpr (by omega)
  have w1 : wrap64 a1 = a1 := by unfold wrap64; omega
  have w2 : wrap64 (64 * (L.length : Int)) = 64 * (L.length : Int) := by unfold wrap64; omega
  have c13b0 : (er == 0) = true := beq_iff_eq.mpr her
  have c13b1 : (er != 0) = false := bne_eq_false_iff_eq.mpr her
  clear her
  have z2 : ((64 * (L.length : Int)) == 0) = false := beq_eq_false_iff_ne.mpr (by omega)
  have tm : Int.tmod a1 (64 * (L.length : Int)) = kk := by rw [hkk, Int.tmod_eq_emod_of_nonneg h1.1]
  have k0 : 0 ≤ kk := by rw [hkk]; exact Int.emod_nonneg _ (by omega)
  have k1 : kk < 64 * (L.length : Int) := by rw [hkk]; exact Int.emod_lt_of_pos _ (by omega)
  clear h0 h2 hkk hsz h1
  go_enter Tryd.func5, Tryd.ntmps5
  go_upto_region 6 with (first | ((with_reducible refine gate_callee (f := 9) rfl ?_); refine goesL_ (some 13) rfl rfl Tryd.func9 (by kernel_rfl) rfl #[] rfl (by (try simp only [List.map_toArray, List.map_cons, List.map_nil]); first | done | rfl | (simp only [List.length_drop, List.length_take]; rfl)) ?_; (with_reducible refine (quitrentlaw06_awake.calls k  true _ A4.out).mono ?_); rintro e w7 ⟨rfl, hb⟩; refine ⟨_, rfl, ?_⟩; have n0_ := Aside0.mk (below_step (by repeat (first | (with_reducible first | exact HB.out | apply below_alloc | apply pw_below_drewN | apply below_drew1) | exact HB.out)) hb); clear HB; have HB := n0_; clear n0_; (try clear hb); (try clear hb2); (try clear hk); (try clear hi)) | ((with_reducible refine gate_callee (f := 11) rfl ?_); refine goesL_ (some 24) rfl rfl Tryd.func11 (by kernel_rfl) rfl #[.string a0, .bool true] rfl (by (try simp only [List.map_toArray, List.map_cons, List.map_nil]); first | done | rfl | (simp only [List.length_drop, List.length_take]; rfl)) ?_; (with_reducible refine (record_Lay.calls k a0 true L er _ A10.out).mono ?_); rintro e w12 ⟨v148, rfl, ho0, hb⟩; refine ⟨_, rfl, ?_⟩; have n0_ := Aside0.mk (Kd.R_lower ho0 (below_size (by repeat (first | (with_reducible first | exact HB.out | apply below_alloc | apply pw_below_drewN | apply below_drew1) | exact HB.out)))); have n1_ := Aside0.mk (below_step (by repeat (first | (with_reducible first | exact HB.out | apply below_alloc | apply pw_below_drewN | apply below_drew1) | exact HB.out)) hb); clear HB; have HO149 := n0_; have HB := n1_; clear n0_ n1_; (try clear hb); (try clear hb2); (try clear hk); (try clear hi); (try clear ho0)))
  (try simp only [Act.put, List.setIfInBounds_toArray, List.set_cons_zero, List.set_cons_succ])
  obtain ⟨go12, co12, eo12, gb12, gl12, cl12, HG12⟩ := Kd.R_form HO149.out (by omega)
  subst eo12
  have GB12 := Aside0.mk gb12
  clear gb12 gl12 HG12
  obtain ⟨hx, hf⟩ := Kd.R_celln ByteArray.empty HO149.out (kk / 64) (by omega) (by omega)
  obtain ⟨q, hq⟩ : ∃ q, q = kk / 64 := ⟨_, rfl⟩
  obtain ⟨t, ht⟩ : ∃ t, t = kk % 64 := ⟨_, rfl⟩
  have HQ := Aside0.mk hq
  have HT := Aside0.mk ht
  have td : Int.tdiv kk 64 = q := by rw [hq, Int.tdiv_eq_ediv_of_nonneg k0]
  have te : Int.tmod kk 64 = t := by rw [ht, Int.tmod_eq_emod_of_nonneg k0]
  have g1 : 0 ≤ q := by omega
  have g2 : q < (L.length : Int) := by omega
  have g3 : 0 ≤ t := by omega
  have g4 : t < 64 := by omega
  rw [← hq, ← ht] at A17
  rw [← hq] at HS hx hf
  clear hq ht
  obtain ⟨S, hS⟩ : ∃ S, S = rdOf ByteArray.empty L q := ⟨_, rfl⟩
  rw [← hS] at A17 HS hx
  clear hS
  have kb := fun W => print_bytes (P := Tryd.prog) 9 39 5 Tryd.underlying9 Tryd.underlying39 Tryd.underlying5 S W
  have wq : wrap64 q = q := by unfold wrap64; omega
  have wt : wrap64 t = t := by unfold wrap64; omega
  have g1t := eq_true g1
  have g2t := eq_true g2
  go_upto_region 10 with fail
  clear kb hx
  have hs := HS.out
  have hc1 : (Lib.bytesWorld w12 5 S).cell? ⟨w12.heap.size, t.toNat, none⟩ = some (.int .u8 (bt S t)) := turned_cell w12 S t g3 (by omega)
  have hf1 : (Lib.bytesWorld w12 5 S).frozen? ⟨w12.heap.size, t.toNat, none⟩ = false := turned_free w12 S t g3 (by omega)
  have hrow := Aside0.mk (turned_row w12 S)
  have HBY := Aside0.mk (bytes_below (Below.refl w12.heap.size w12) (Nat.le_refl _) 5 S)
  have hw1 := below_size HB.out
  generalize Lib.bytesWorld w12 5 S = W1 at *
  obtain ⟨b, hb⟩ : ∃ b, b = w12.heap.size := ⟨_, rfl⟩
  have HBE := Aside0.mk hb
  rw [← hb] at hc1 hf1 hrow
  rw [← hb]
  clear hb
  have g3t := eq_true g3
  have g4t : (t < (S.size : Int)) = True := eq_true (by omega)
  clear hs
  go_upto_region 11 with fail
  obtain ⟨x, hx⟩ : ∃ x, x = Go.bits .xor .u8 (bt S t) a2 := ⟨_, rfl⟩
  obtain ⟨W2, hW2⟩ : ∃ W2, W2 = W1.setCell ⟨b, t.toNat, none⟩ (.int .u8 x) := ⟨_, rfl⟩
  rw [← hx, ← hW2]
  have hkeep : Below w12.heap.size w12 W2 := by rw [hW2]; exact below_set HBY.out (by rw [HBE.out]; exact Nat.le_refl _)
  have HO2 := Aside0.mk (Kd.R_below HO149.out hkeep)
  have HB2 := Aside0.mk (below_step HB.out hkeep)
  have hcv := run_convert_bytes_arg (P := Tryd.prog) W2 39 5 Tryd.underlying39 Tryd.underlying5 b 0 S.size (grownCap w12 S.size 0 5) ((bytesOf S).set t.toNat x) (by rw [List.length_set]; exact bytesOf_length S) (by rw [hW2]; exact turned_set W1 b S t x g3 (by have := HS.out; omega) hrow.out) 9 Tryd.underlying9
  have hnb : turnedB S t a2 = strOfNums ((bytesOf S).set t.toNat x) := by unfold turnedB; rw [← hx]
  rw [hnb] at A17
  clear hnb hx hW2 hrow hc1 hf1 hkeep HBY
  obtain ⟨nb, hnb⟩ : ∃ nb, nb = strOfNums ((bytesOf S).set t.toNat x) := ⟨_, rfl⟩
  rw [← hnb] at A17 hcv
  clear hnb
  obtain ⟨hx2, hf2⟩ := Kd.R_celln ByteArray.empty HO2.out q g1 g2
  have HP13 := Kd.R_putg HO2.out q nb
  clear HO149 HB hf
  go_upto_region 12 with (first | ((with_reducible refine gate_store (t := 9) (p := 59) rfl ?_); refine store_event (t := 9) (p := 59) (v := ?vo_w14) (w1 := (W2.setCell ⟨go12, q.toNat, none⟩ (.string nb))) ?hg ?ho ?hn ?hr ?_; (case ho => rfl); (case hg => rfl); (case hn => rfl); (case hr => first | (go_simp; done) | (go_simp; rfl)); intro w14 hw; have hg : W2.grownBy w14 (some go12) := (by rw [hw]; exact HP13.2); have hp_ : Kd.R Kd.string 9 w14 w.heap.size (fun _ => True) (.slice (some ⟨go12, 0, none⟩) L.length co12) (L.set q.toNat nb) := (by rw [hw]; exact HP13.1); clear HP13; have n0_ := Aside0.mk (hp_); have n1_ := Aside0.mk ((by rw [hw]; exact below_set (HB2.out) GB12.out : Below w.heap.size w w14)); clear HO2; clear HB2; have HO_7 := n0_; have HB := n1_; clear n0_ n1_; clear hg hw hp_))
  have hlen : L.length = (L.set q.toNat nb).length := by rw [List.length_set]
  rw [hlen] at HO_7
  rw [hlen]
  generalize L.set q.toNat nb = L2 at *
  clear hlen
  go_upto_region 13 with (first | ((with_reducible refine gate_callee (f := 13) rfl ?_); refine goesL_ (some 62) rfl rfl Tryd.func13 (by kernel_rfl) rfl #[.slice (some ⟨go12, 0, none⟩) L2.length co12] rfl (by (try simp only [List.map_toArray, List.map_cons, List.map_nil]); first | done | rfl | (simp only [List.length_drop, List.length_take]; rfl)) ?_; (with_reducible refine (record_Join.calls k _ _ L2 s f _ ?side1 ?side2 A17.out).mono ?_); (case side1 => repeat (first | exact (Kd.R_reads' HO_7.out).2.2 | (with_reducible refine Kd.C_alloc ?_ _) | (with_reducible refine Kd.C_drewN ?_ _) | (with_reducible refine Kd.C_drew ?_))); (case side2 => exact (Kd.R_reads' HO_7.out).2.1); rintro e w21 ⟨rfl, hb⟩; refine ⟨_, rfl, ?_⟩; have n1_ := Aside0.mk (below_step (by repeat (first | (with_reducible first | exact HB.out | apply below_alloc | apply pw_below_drewN | apply below_drew1) | exact HB.out)) hb); clear HO_7; clear HB; have HB := n1_; clear n1_; (try clear hb); (try clear hb2); (try clear hk); (try clear hi)))
  have hr := HR.out
  clear HR A17 hcv hx2 hf2 td te g1t g2t g3t g4t wq wt g1 g2 g3 g4 HS HQ HT w1 w2 z2 tm k0 k1 HK
  by_cases c18 : kk ≥ 3
  · rw [if_pos c18] at hr
    have c18b0 : decide (3 ≤ kk) = true := decide_eq_true c18
    by_cases c19 : s.toList = ([] : List UInt8)
    · rw [if_pos c19] at hr
      have c19b0 : (s.toList == ([] : List UInt8)) = true := beq_iff_eq.mpr c19
      clear c18 c19
      obtain rfl := Option.some.inj hr
      clear hr
      go_wp2
      go_ret
      exact ⟨by first | rfl | (simp [*, errW_none, errW_some] <;> rfl), HB.out⟩
    · rw [if_neg c19] at hr
      have c19b0 : (s.toList == ([] : List UInt8)) = false := beq_eq_false_iff_ne.mpr c19
      clear c18 c19
      obtain rfl := Option.some.inj hr
      clear hr
      go_wp2
      go_ret
      exact ⟨by first | rfl | (simp [*, errW_none, errW_some] <;> rfl), HB.out⟩
  · rw [if_neg c18] at hr
    have c18b0 : decide (3 ≤ kk) = false := decide_eq_false c18
    clear c18
    by_cases c24 : s.toList = ([] : List UInt8)
    · rw [if_pos c24] at hr
      have c24b0 : (s.toList == ([] : List UInt8)) = true := beq_iff_eq.mpr c24
      clear c24
      by_cases c25 : f = 0
      · rw [if_pos c25] at hr
        have c25b0 : (f == 0) = true := beq_iff_eq.mpr c25
        have c25b1 : (f != 0) = false := bne_eq_false_iff_eq.mpr c25
        clear c25
        by_cases c26 : kk > 0
        · rw [if_pos c26] at hr
          have c26b0 : decide (0 < kk) = true := decide_eq_true c26
          clear c26
          obtain rfl := Option.some.inj hr
          clear hr
          go_wp2
          go_ret
          exact ⟨by first | rfl | (simp [*, errW_none, errW_some] <;> rfl), HB.out⟩
        · rw [if_neg c26] at hr
          have c26b0 : decide (0 < kk) = false := decide_eq_false c26
          clear c26
          obtain rfl := Option.some.inj hr
          clear hr
          go_wp2
          go_ret
          exact ⟨by first | rfl | (simp [*, errW_none, errW_some] <;> rfl), HB.out⟩
      · rw [if_neg c25] at hr
        have c25b0 : (f == 0) = false := beq_eq_false_iff_ne.mpr c25
        have c25b1 : (f != 0) = true := bne_iff_ne.mpr c25
        clear c25
        obtain rfl := Option.some.inj hr
        clear hr
        go_wp2
        go_ret
        exact ⟨by first | rfl | (simp [*, errW_none, errW_some] <;> rfl), HB.out⟩
    · rw [if_neg c24] at hr
      have c24b0 : (s.toList == ([] : List UInt8)) = false := beq_eq_false_iff_ne.mpr c24
      clear c24
      by_cases c33 : kk > 0
      · rw [if_pos c33] at hr
        have c33b0 : decide (0 < kk) = true := decide_eq_true c33
        clear c33
        by_cases c34 : f = 0
        · rw [if_pos c34] at hr
          have c34b0 : (f == 0) = true := beq_iff_eq.mpr c34
          have c34b1 : (f != 0) = false := bne_eq_false_iff_eq.mpr c34
          clear c34
          obtain rfl := Option.some.inj hr
          clear hr
          go_wp2
          go_ret
          exact ⟨by first | rfl | (simp [*, errW_none, errW_some] <;> rfl), HB.out⟩
        · rw [if_neg c34] at hr
          have c34b0 : (f == 0) = false := beq_eq_false_iff_ne.mpr c34
          have c34b1 : (f != 0) = true := bne_iff_ne.mpr c34
          clear c34
          obtain rfl := Option.some.inj hr
          clear hr
          go_wp2
          go_ret
          exact ⟨by first | rfl | (simp [*, errW_none, errW_some] <;> rfl), HB.out⟩
      · rw [if_neg c33] at hr
        have c33b0 : decide (0 < kk) = false := decide_eq_false c33
        clear c33
        obtain rfl := Option.some.inj hr
        clear hr
        go_wp2
        go_ret
        exact ⟨by first | rfl | (simp [*, errW_none, errW_some] <;> rfl), HB.out⟩

end Go.Proofs.YtnfeknaeikpdmaaDoor.PR
