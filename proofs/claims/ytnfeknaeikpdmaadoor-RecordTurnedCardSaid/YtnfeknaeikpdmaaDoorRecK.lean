import Derived.Test.YtnfeknaeikpdmaaDoorRecH
namespace Go.Proofs.YtnfeknaeikpdmaaDoor.PR
open Crc Go.RowKit Go.Proofs.YtnfeknaeikpdmaaDoorW.PrintWords Go.Proofs.YtnfeknaeikpdmaaDoorW.PrintLast Go.Proofs.YtnfeknaeikpdmaaDoorW.PrintMore
set_option linter.unusedVariables false
set_option linter.unusedSimpArgs false
/-! ### a turned byte, told -/
def head3 (a0 a1 a2 : UInt8) : Bool × Int × Int := if a0.toNat > 1 then (false, 0, 2) else if a0.toNat = 0 then (false, 0, 0) else if a1.toNat * 256 + a2.toNat > 40000 then (false, 0, 8) else (true, ((a1.toNat * 256 + a2.toNat : Nat) : Int), 0)
theorem headR_blk0 (a0 a1 a2 : UInt8) (R : List UInt8) (n : Nat) (hn : 1 ≤ n) (h : (a0 :: a1 :: a2 :: R).length = 64 * n) : headR (blk (a0 :: a1 :: a2 :: R) 0) = head3 a0 a1 a2 := by
  have hs := blk_size (a0 :: a1 :: a2 :: R) 0 n h (by omega)
  have b0 : bt (blk (a0 :: a1 :: a2 :: R) 0) 0 = (a0.toNat : Int) := blk0_bt _ 0 (by omega) (by omega)
  have b1 : bt (blk (a0 :: a1 :: a2 :: R) 0) 1 = (a1.toNat : Int) := blk0_bt _ 1 (by omega) (by omega)
  have b2 : bt (blk (a0 :: a1 :: a2 :: R) 0) 2 = (a2.toNat : Int) := blk0_bt _ 2 (by omega) (by omega)
  unfold headR head3
  rw [b0, b1, b2, hs]
  by_cases c1 : a0.toNat > 1
  · rw [if_pos (.inr (by omega)), if_pos c1]
  · rw [if_neg (fun c => c.elim (fun c => c rfl) (fun c => c1 (by omega))), if_neg c1]
    by_cases c2 : a0.toNat = 0
    · rw [if_pos (by omega), if_pos c2]
    · rw [if_neg (by omega), if_neg c2]
      by_cases c3 : a1.toNat * 256 + a2.toNat > 40000
      · rw [if_pos (by omega), if_pos c3]
      · rw [if_neg (by omega), if_neg c3]
        have e : (a1.toNat : Int) * 256 + (a2.toNat : Int) = ((a1.toNat * 256 + a2.toNat : Nat) : Int) := by omega
        rw [e]
def tellF (a0 a1 a2 : UInt8) (R : List UInt8) (M : Nat) : ByteArray × Int :=
  if (head3 a0 a1 a2).2.2 ≠ 0 then ((⟨#[]⟩ : ByteArray), (head3 a0 a1 a2).2.2)
  else if (head3 a0 a1 a2).1 = true ∧ M = many (head3 a0 a1 a2).2.1.toNat then (if a0 :: a1 :: a2 :: R = full ((R.drop 4).take (head3 a0 a1 a2).2.1.toNat) true then (B ((R.drop 4).take (head3 a0 a1 a2).2.1.toNat), 0) else ((⟨#[]⟩ : ByteArray), 8))
  else ((⟨#[]⟩ : ByteArray), 2)
theorem drop4_len (a0 a1 a2 : UInt8) (R : List UInt8) (n : Nat) (h : (a0 :: a1 :: a2 :: R).length = 64 * many n) : ((R.drop 4).take n).length = n := by
  have := pad_eq n
  simp only [List.length_cons] at h
  rw [List.length_take, List.length_drop]; omega
theorem joinR_F (a0 a1 a2 : UInt8) (R : List UInt8) (M : Nat) (hM : 1 ≤ M) (h : (a0 :: a1 :: a2 :: R).length = 64 * M) : joinR (blks (a0 :: a1 :: a2 :: R) M) = tellF a0 a1 a2 R M := by
  unfold joinR tellF
  rw [if_neg (fun c => c.elim (any_blks _ _ h) (by rw [blks_length]; omega)), rd_blks0 _ _ hM, headR_blk0 a0 a1 a2 R M hM h]
  generalize head3 a0 a1 a2 = D
  obtain ⟨d1, d2, d3⟩ := D
  by_cases c1 : d3 ≠ 0
  · rw [if_pos c1, if_pos c1]
  · rw [if_neg c1, if_neg c1, blks_length]
    by_cases c2 : d1 = true ∧ M = many d2.toNat
    · rw [if_pos c2, if_pos c2]
      unfold toldN
      rw [flat_blks_eq _ _ h]
      have hd : (a0 :: a1 :: a2 :: R).drop 7 = R.drop 4 := rfl
      rw [hd]
      obtain ⟨c2, c3⟩ := c2
      subst c3
      have hl := drop4_len a0 a1 a2 R d2.toNat h
      have hf := full_length ((R.drop 4).take d2.toNat) true
      rw [hl] at hf
      by_cases c4 : a0 :: a1 :: a2 :: R = full ((R.drop 4).take d2.toNat) true
      · rw [if_pos (congrArg (fun t => blks t (many d2.toNat)) c4), if_pos c4]
      · rw [if_neg (fun e => c4 (blks_inj _ _ _ h hf e)), if_neg c4]
    · rw [if_neg c2, if_neg c2]
theorem hdr_crc (b c : List UInt8) (m : Bool) (h : hdr b m = hdr c m) : crc b = crc c := by
  have h1 := crc_lt b
  have h2 := crc_lt c
  unfold hdr at h
  simp only [List.cons.injEq, and_true, true_and] at h
  obtain ⟨_, _, q3, q4, q5, q6⟩ := h
  have t3 := congrArg UInt8.toNat q3
  have t4 := congrArg UInt8.toNat q4
  have t5 := congrArg UInt8.toNat q5
  have t6 := congrArg UInt8.toNat q6
  simp only [UInt8.toNat_ofNat'] at t3 t4 t5 t6
  generalize crc b = x at *
  generalize crc c = y at *
  clear q3 q4 q5 q6
  omega
/-- A turned byte behind the length: the text is no record of its data. -/
theorem turned_no (b : List UInt8) (kk : Nat) (v : UInt8) (h3 : 3 ≤ kk) (hk : kk < (full b true).length) (hv : v ≠ (full b true)[kk]) : (full b true).set kk v ≠ full ((((full b true).set kk v).drop 7).take b.length) true := by
  intro e
  have hF : full b true = hdr b true ++ (b ++ List.replicate (padN b.length) 0) := by unfold full; rw [List.append_assoc]
  have hh := hdr_length b true
  have hself : ((full b true).set kk v)[kk]? = some v := by rw [List.getElem?_set_self hk]
  have no : ¬ (((full b true).set kk v).drop 7).take b.length = b := by
    intro e2
    rw [e2] at e
    rw [e, List.getElem?_eq_getElem hk] at hself
    exact hv (Option.some.inj hself).symm
  by_cases c1 : kk < 7
  · apply no
    rw [List.drop_set_of_lt c1, hF, List.drop_left' hh, List.take_left]
  · have hd : ((full b true).set kk v).drop 7 = (b ++ List.replicate (padN b.length) 0).set (kk - 7) v := by
      rw [List.drop_set, if_neg (by omega), hF, List.drop_left' hh]
    by_cases c2 : kk - 7 < b.length
    · have hs : (((full b true).set kk v).drop 7).take b.length = b.set (kk - 7) v := by
        rw [hd, List.set_append_left _ _ c2, List.take_left' (by simp)]
      rw [hs] at e
      have e7 := congrArg (List.take 7) e
      have hF' : full (b.set (kk - 7) v) true = hdr (b.set (kk - 7) v) true ++ (b.set (kk - 7) v ++ List.replicate (padN (b.set (kk - 7) v).length) 0) := by unfold full; rw [List.append_assoc]
      rw [List.take_set_of_le (by omega), hF, List.take_left' hh, hF', List.take_left' (hdr_length _ true)] at e7
      have hc := hdr_crc _ _ _ e7
      have hx : v ≠ b[kk - 7] := by
        intro e3
        apply hv
        rw [e3]
        simp only [hF]
        rw [List.getElem_append_right (by omega), List.getElem_append_left (by omega)]
        congr 1
      have s1 : b = b.take (kk - 7) ++ b[kk - 7] :: b.drop (kk - 7 + 1) := by
        rw [List.getElem_cons_drop, List.take_append_drop]
      have s2 : b.set (kk - 7) v = b.take (kk - 7) ++ v :: b.drop (kk - 7 + 1) := List.set_eq_take_append_cons_drop.trans (if_pos c2)
      rw [s2] at hc
      have := crc_one (b.take (kk - 7)) (b.drop (kk - 7 + 1)) b[kk - 7] v (fun e => hx e.symm)
      rw [← s1] at this
      exact this hc
    · apply no
      rw [hd, List.set_append_right _ _ (by omega), List.take_left]
def ansT (kk : Int) (s : ByteArray) (f : Int) (b : ByteArray) : Bool :=
  if kk ≥ 3 then (s.toList == ([] : List UInt8)) && (f == 8) else ((s.toList == ([] : List UInt8)) && (f != 0)) || (decide (kk > 0) && (f == 0) && (s.toList != b.toList))
theorem full_cons (b : List UInt8) : ∃ R, full b true = (1 : UInt8) :: UInt8.ofNat (b.length / 256) :: UInt8.ofNat b.length :: R := by
  unfold full hdr; exact ⟨_, rfl⟩
theorem nil_toList : (⟨#[]⟩ : ByteArray).toList = ([] : List UInt8) := B_toList []
theorem tellF_none (a0 a1 a2 : UInt8) (R : List UInt8) (M : Nat) (b : List UInt8) (h : (a0 :: a1 :: a2 :: R).length = 64 * M) (hne : (head3 a0 a1 a2).2.2 = 0 → (head3 a0 a1 a2).1 = true → (head3 a0 a1 a2).2.1.toNat ≠ b.length) (kk : Int) (h3 : kk < 3) (hk : kk ≤ 0 → (head3 a0 a1 a2).1 = false) : ansT kk (tellF a0 a1 a2 R M).1 (tellF a0 a1 a2 R M).2 (B b) = true := by
  unfold ansT
  rw [if_neg (by omega)]
  unfold tellF
  generalize hD : head3 a0 a1 a2 = D at *
  obtain ⟨d1, d2, d3⟩ := D
  simp only at hne hk
  by_cases c1 : d3 ≠ 0
  · rw [if_pos c1, nil_toList]
    simp [c1]
  · rw [if_neg c1]
    by_cases c2 : d1 = true ∧ M = many d2.toNat
    · rw [if_pos c2]
      obtain ⟨c2, c3⟩ := c2
      subst c3
      have hl := drop4_len a0 a1 a2 R d2.toNat h
      have hn := hne (by omega) c2
      have hkk : kk > 0 := by
        by_cases hq : kk ≤ 0
        · have := hk hq; rw [c2] at this; cases this
        · omega
      by_cases c4 : a0 :: a1 :: a2 :: R = full ((R.drop 4).take d2.toNat) true
      · rw [if_pos c4]
        have hb : ((B ((R.drop 4).take d2.toNat)).toList != (B b).toList) = true := by
          rw [B_toList, B_toList]
          apply bne_iff_ne.mpr
          intro e
          rw [e] at hl
          exact hn hl.symm
        dsimp only
        rw [hb]
        simp [hkk]
      · rw [if_neg c4, nil_toList]
        simp
    · rw [if_neg c2, nil_toList]
      simp
theorem turned_told (b : List UInt8) (kk : Nat) (v : UInt8) (hb : b.length ≤ 3000) (hk : kk < (full b true).length) (hv : v ≠ (full b true)[kk]) :
    ansT (kk : Int) (joinR (blks ((full b true).set kk v) (many b.length))).1 (joinR (blks ((full b true).set kk v) (many b.length))).2 (B b) = true := by
  have hf := full_length b true
  have hp := many_pos b.length
  obtain ⟨R, hR⟩ := full_cons b
  have e1 : (UInt8.ofNat (b.length / 256)).toNat = b.length / 256 := by simp only [UInt8.toNat_ofNat']; omega
  have e2 : (UInt8.ofNat b.length).toNat = b.length % 256 := by simp only [UInt8.toNat_ofNat']
  have hlen : ((full b true).set kk v).length = 64 * many b.length := by rw [List.length_set, hf]
  have hno := turned_no b kk v
  match kk, hk, hv, hlen, hno with
  | 0, hk, hv, hlen, _ =>
    have hs : (full b true).set 0 v = v :: UInt8.ofNat (b.length / 256) :: UInt8.ofNat b.length :: R := by rw [hR]; rfl
    have hv1 : v ≠ 1 := by simpa [hR] using hv
    rw [hs] at hlen ⊢
    rw [joinR_F _ _ _ _ _ hp hlen]
    have hv2 : v.toNat ≠ 1 := fun e => hv1 (UInt8.toNat_inj.1 (by simpa using e))
    have h1 : (head3 v (UInt8.ofNat (b.length / 256)) (UInt8.ofNat b.length)).1 = false := by
      unfold head3
      by_cases c1 : v.toNat > 1
      · rw [if_pos c1]
      · rw [if_neg c1, if_pos (by omega)]
    exact tellF_none _ _ _ _ _ b hlen (fun _ h => by rw [h1] at h; cases h) _ (by omega) (fun _ => h1)
  | 1, hk, hv, hlen, _ =>
    have hs : (full b true).set 1 v = 1 :: v :: UInt8.ofNat b.length :: R := by rw [hR]; rfl
    have hv1 : v ≠ UInt8.ofNat (b.length / 256) := by simpa [hR] using hv
    rw [hs] at hlen ⊢
    rw [joinR_F _ _ _ _ _ hp hlen]
    have hv2 : v.toNat ≠ b.length / 256 := fun e => hv1 (UInt8.toNat_inj.1 (by rw [e1]; exact e))
    refine tellF_none _ _ _ _ _ b hlen (fun h1 h2 => ?_) _ (by omega) (fun h => absurd h (by omega))
    unfold head3 at h1 h2 ⊢
    rw [if_neg (by decide), if_neg (by decide)] at h1 h2 ⊢
    by_cases c3 : v.toNat * 256 + (UInt8.ofNat b.length).toNat > 40000
    · rw [if_pos c3] at h2; cases h2
    · rw [if_neg c3, e2]
      show (((v.toNat * 256 + b.length % 256 : Nat) : Int)).toNat ≠ b.length
      rw [Int.toNat_natCast]
      omega
  | 2, hk, hv, hlen, _ =>
    have hs : (full b true).set 2 v = 1 :: UInt8.ofNat (b.length / 256) :: v :: R := by rw [hR]; rfl
    have hv1 : v ≠ UInt8.ofNat b.length := by simpa [hR] using hv
    rw [hs] at hlen ⊢
    rw [joinR_F _ _ _ _ _ hp hlen]
    have hv2 : v.toNat ≠ b.length % 256 := fun e => hv1 (UInt8.toNat_inj.1 (by rw [e2]; exact e))
    have hv3 := v.toNat_lt
    refine tellF_none _ _ _ _ _ b hlen (fun h1 h2 => ?_) _ (by omega) (fun h => absurd h (by omega))
    unfold head3 at h1 h2 ⊢
    rw [if_neg (by decide), if_neg (by decide)] at h1 h2 ⊢
    by_cases c3 : (UInt8.ofNat (b.length / 256)).toNat * 256 + v.toNat > 40000
    · rw [if_pos c3] at h2; cases h2
    · rw [if_neg c3, e1]
      show (((b.length / 256 * 256 + v.toNat : Nat) : Int)).toNat ≠ b.length
      rw [Int.toNat_natCast]
      omega
  | kk + 3, hk, hv, hlen, hno =>
    have hno := hno (by omega) hk hv
    have hs : (full b true).set (kk + 3) v = 1 :: UInt8.ofNat (b.length / 256) :: UInt8.ofNat b.length :: R.set kk v := by rw [hR]; rfl
    rw [hs] at hlen hno ⊢
    rw [joinR_F _ _ _ _ _ hp hlen]
    have hh : head3 1 (UInt8.ofNat (b.length / 256)) (UInt8.ofNat b.length) = (true, (b.length : Int), 0) := by
      unfold head3
      rw [if_neg (by decide), if_neg (by decide), e1, e2, if_neg (by omega)]
      have : b.length / 256 * 256 + b.length % 256 = b.length := by omega
      rw [this]
    have ht : tellF 1 (UInt8.ofNat (b.length / 256)) (UInt8.ofNat b.length) (R.set kk v) (many b.length) = ((⟨#[]⟩ : ByteArray), 8) := by
      unfold tellF
      rw [hh, if_neg (fun c => c rfl), Int.toNat_natCast, if_pos ⟨rfl, rfl⟩, if_neg (show ¬ (1 :: UInt8.ofNat (b.length / 256) :: UInt8.ofNat b.length :: R.set kk v = full (List.take b.length (List.drop 4 (R.set kk v))) true) from hno)]
    rw [ht]
    unfold ansT
    rw [if_pos (by omega), nil_toList]
    rfl

end Go.Proofs.YtnfeknaeikpdmaaDoor.PR
