import Derived.Test.YtnfeknaeikpdmaaDoorRecK
import Derived.Test.YtnfeknaeikpdmaaDoorTurn
namespace Go.Proofs.YtnfeknaeikpdmaaDoor.PR
open Crc Go.RowKit Go.Proofs.YtnfeknaeikpdmaaDoorW.PrintWords Go.Proofs.YtnfeknaeikpdmaaDoorW.PrintLast Go.Proofs.YtnfeknaeikpdmaaDoorW.PrintMore
set_option linter.unusedVariables false
set_option linter.unusedSimpArgs false
/-! ### RecordTurned, in plain Lean -/
theorem xor_other (x y : UInt8) (h : y ≠ 0) : x ^^^ y ≠ x := by
  intro e
  have h1 : x ^^^ (x ^^^ y) = x ^^^ x := by rw [e]
  rw [← UInt8.xor_assoc, UInt8.xor_self, UInt8.zero_xor] at h1
  exact h h1
theorem turnedB_eq (x : List UInt8) (r : Nat) (h : r < x.length) (y : Int) (h0 : 0 ≤ y) (h1 : y < 256) : turnedB (B x) (r : Int) y = B (x.set r (x[r] ^^^ UInt8.ofNat y.toNat)) := by
  obtain ⟨m, rfl⟩ := Int.eq_ofNat_of_zero_le h0
  unfold turnedB
  rw [bt_B x r h, bytesOf_B, B_data, u8_xor_nat _ _ (x[r]).toNat_lt (by omega), Int.toNat_natCast, Int.toNat_natCast]
  have e : ((x[r].toNat ^^^ m : Nat) : Int) = (((x[r] ^^^ UInt8.ofNat m).toNat : Nat) : Int) := by
    rw [UInt8.toNat_xor]
    have : (UInt8.ofNat m).toNat = m := by simp only [UInt8.toNat_ofNat']; omega
    rw [this]
  rw [e, ← strOf_ofB]
  congr 1
  unfold ofB
  rw [List.map_set]
theorem blk_set_same (F : List UInt8) (kk : Nat) (v : UInt8) : blk (F.set kk v) (kk / 64) = B (((F.drop (64 * (kk / 64))).take 64).set (kk % 64) v) := by
  unfold blk
  rw [List.drop_set, if_neg (by omega), List.take_set]
  congr 2
  omega
theorem blk_set_other (F : List UInt8) (kk : Nat) (v : UInt8) (i : Nat) (h : i ≠ kk / 64) : blk (F.set kk v) i = blk F i := by
  unfold blk
  rw [List.drop_set]
  by_cases c : kk < 64 * i
  · rw [if_pos c]
  · rw [if_neg c, List.take_set_of_le (by omega)]
theorem blks_get (F : List UInt8) (M i : Nat) (h : i < M) : (blks F M)[i]? = some (blk F i) := by
  simp [blks, h]
theorem blks_set (F : List UInt8) (M kk : Nat) (v : UInt8) (h : kk < 64 * M) : (blks F M).set (kk / 64) (blk (F.set kk v) (kk / 64)) = blks (F.set kk v) M := by
  apply List.ext_getElem?
  intro i
  by_cases c : i < M
  · rw [blks_get _ _ _ c]
    by_cases e : kk / 64 = i
    · subst e
      rw [List.getElem?_set_self (by rw [blks_length]; exact c)]
    · rw [List.getElem?_set_ne e, blks_get _ _ _ c, blk_set_other F kk v i (fun h => e h.symm)]
  · rw [List.getElem?_eq_none (by rw [List.length_set, blks_length]; omega), List.getElem?_eq_none (by rw [blks_length]; omega)]
theorem rd_blks (F : List UInt8) (M : Nat) (q : Int) (h0 : 0 ≤ q) (h : q < (M : Int)) : rdOf ByteArray.empty (blks F M) q = blk F q.toNat := by
  unfold rdOf
  rw [List.getD_eq_getElem?_getD, blks_get _ _ _ (by omega)]
  rfl
theorem ansT_if (kk : Int) (s : ByteArray) (f : Int) (b : ByteArray) (h : ansT kk s f b = true) : (if kk ≥ 3 then (if s.toList = ([] : List UInt8) then (some (f == 8)) else (some false)) else (if s.toList = ([] : List UInt8) then (if f = 0 then (if kk > 0 then (some (s.toList != b.toList)) else (some false)) else (some true)) else (if kk > 0 then (if f = 0 then (some (s.toList != b.toList)) else (some false)) else (some false)))) = some true := by
  unfold ansT at h
  by_cases c1 : kk ≥ 3
  · rw [if_pos c1] at h ⊢
    simp only [Bool.and_eq_true, beq_iff_eq] at h
    rw [if_pos h.1, h.2]; rfl
  · rw [if_neg c1] at h ⊢
    by_cases c2 : s.toList = []
    · rw [if_pos c2]
      by_cases c3 : f = 0
      · rw [if_pos c3]
        simp [c3] at h
        rw [if_pos h.1]
        simp [h.2]
      · rw [if_neg c3]
    · rw [if_neg c2]
      simp [c2] at h
      rw [if_pos h.1.1, if_pos h.1.2]
      simp [h.2]
theorem recordTurned_walk (a0 : ByteArray) (a1 a2 : Int) (w : World) (w1 : 0 ≤ a1 ∧ a1 < 65536) (w2 : 0 ≤ a2 ∧ a2 < 256) :
    Calls Tryd.prog 5 #[.string a0, .int .u16 a1, .int .u8 a2] w fun e w' => e = .returned (.bool true) ∧ Below w.heap.size w w' := by
  obtain ⟨KA, hA⟩ := awake_ev
  by_cases h0 : (a0.size : Int) > 3000
  · exact turned_early KA a0 a1 a2 w (hA KA (Nat.le_refl _)) (.inl h0)
  by_cases h2 : a2 = 0
  · exact turned_early KA a0 a1 a2 w (hA KA (Nat.le_refl _)) (.inr h2)
  have hb : a0.data.toList.length ≤ 3000 := by rw [B_len]; omega
  have hbe : a0 = B a0.data.toList := (B_eta a0).symm
  generalize a0.data.toList = l at hb hbe
  subst hbe
  have hm := many_le l.length (by omega)
  have hp := many_pos l.length
  have hf := full_length l true
  obtain ⟨KL, hL⟩ := lay_ev l true (by omega)
  obtain ⟨kk, hkk⟩ : ∃ kk : Nat, (kk : Int) = a1 % (64 * ((blks (full l true) (many l.length)).length : Int)) := by
    rw [blks_length]
    exact ⟨(a1 % (64 * (many l.length : Int))).toNat, Int.toNat_of_nonneg (Int.emod_nonneg _ (by omega))⟩
  have hlt : kk < 64 * many l.length := by
    rw [blks_length] at hkk
    have := Int.emod_lt_of_pos a1 (show (0 : Int) < 64 * (many l.length : Int) by omega)
    omega
  have hkF : kk < (full l true).length := by rw [hf]; exact hlt
  obtain ⟨v, hv⟩ : ∃ v, v = (full l true)[kk] ^^^ UInt8.ofNat a2.toNat := ⟨_, rfl⟩
  have hne : UInt8.ofNat a2.toNat ≠ 0 := by
    intro e
    have := congrArg UInt8.toNat e
    simp only [UInt8.toNat_ofNat'] at this
    simp at this
    omega
  have hvn : v ≠ (full l true)[kk] := by rw [hv]; exact xor_other _ _ hne
  have hrd : rdOf ByteArray.empty (blks (full l true) (many l.length)) ((kk : Int) / 64) = blk (full l true) (kk / 64) := by
    rw [rd_blks _ _ _ (by omega) (by omega)]
    congr 1
  have hx : (((full l true).drop (64 * (kk / 64))).take 64).length = 64 := by rw [List.length_take, List.length_drop, hf]; omega
  have htb : turnedB (blk (full l true) (kk / 64)) ((kk : Int) % 64) a2 = blk ((full l true).set kk v) (kk / 64) := by
    have e1 : ((kk : Int) % 64) = ((kk % 64 : Nat) : Int) := by omega
    rw [blk_set_same, e1]
    unfold blk
    rw [turnedB_eq _ _ (by omega) _ w2.1 w2.2, hv]
    congr 2
    rw [List.getElem_take, List.getElem_drop]
    congr 2
    omega
  have hset : (blks (full l true) (many l.length)).set ((kk : Int) / 64).toNat (blk ((full l true).set kk v) (kk / 64)) = blks ((full l true).set kk v) (many l.length) := by
    have e2 : ((kk : Int) / 64).toNat = kk / 64 := by omega
    rw [e2]
    exact blks_set (full l true) (many l.length) kk v hlt
  obtain ⟨KJ, hJ⟩ := join_g (blks ((full l true).set kk v) (many l.length)) (by rw [blks_length]; omega)
  have ht := turned_told l kk v hb hkF hvn
  generalize joinR (blks ((full l true).set kk v) (many l.length)) = J at hJ ht
  obtain ⟨s, f⟩ := J
  refine turned_walk (KA + KL + KJ) (B l) a1 a2 (blks (full l true) (many l.length)) (kk : Int) s f true w (hA _ (by omega)) h0 h2 0 rfl (hL _ (by omega)) (by rw [blks_length]; omega) (by rw [blks_length]; omega) w1 hkk ?_ ?_ (ansT_if _ _ _ _ ht)
  · rw [hrd]
    exact blk_size _ _ _ hf (by omega)
  · rw [hrd, htb, hset]
    exact hJ _ (by omega)

end Go.Proofs.YtnfeknaeikpdmaaDoor.PR
