import Derived.Test.YtnfeknaeikpdmaaDoorRecE
namespace Go.Proofs.YtnfeknaeikpdmaaDoor.PR
open Crc Go.RowKit Go.Proofs.YtnfeknaeikpdmaaDoorW.PrintWords Go.Proofs.YtnfeknaeikpdmaaDoorW.PrintLast Go.Proofs.YtnfeknaeikpdmaaDoorW.PrintMore
set_option linter.unusedVariables false
set_option linter.unusedSimpArgs false
/-! ### a record is told, or why it isn't: the two agree -/
theorem small_div (a1 a2 : Nat) (h1 : a1 < 256) (h2 : a2 < 256) : (a1 * 256 + a2) / 256 = a1 ∧ (a1 * 256 + a2) % 256 = a2 := by omega
theorem ofNat_mod (n : Nat) : UInt8.ofNat n = UInt8.ofNat (n % 256) := by
  apply UInt8.toNat_inj.1; simp
theorem ofNat_of (x : UInt8) (n : Nat) (h : n % 256 = x.toNat) : UInt8.ofNat n = x := by
  apply UInt8.toNat_inj.1; simp; omega
/-- A text of blocks whose head tells n bytes is the record of these iff its check fits and what is behind is 0. -/
theorem full_iff (a1 a2 a3 a4 a5 a6 : UInt8) (R : List UInt8) (n : Nat) (hn : n = a1.toNat * 256 + a2.toNat) (hR : R.length + 7 = 64 * many n) :
    (1 : UInt8) :: a1 :: a2 :: a3 :: a4 :: a5 :: a6 :: R = full (R.take n) true ↔ (((a3.toNat * 256 + a4.toNat) * 256 + a5.toNat) * 256 + a6.toNat = crc (R.take n) ∧ ∀ x ∈ R.drop n, x = 0) := by
  have hp := pad_eq n
  have h1 := a1.toNat_lt
  have h2 := a2.toNat_lt
  have h3 := a3.toNat_lt
  have h4 := a4.toNat_lt
  have h5 := a5.toNat_lt
  have h6 := a6.toNat_lt
  have hc := crc_lt (R.take n)
  have hl : (R.take n).length = n := by rw [List.length_take]; omega
  have hd : (R.drop n).length = padN n := by rw [List.length_drop]; omega
  have z : (∀ x ∈ R.drop n, x = 0) ↔ R.drop n = List.replicate (padN n) 0 := by
    rw [List.eq_replicate_iff, hd]; simp
  have hR2 : R = R.take n ++ R.drop n := (List.take_append_drop n R).symm
  rw [z]
  unfold full hdr
  rw [hl]
  generalize crc (R.take n) = c at *
  have e1 : UInt8.ofNat (n / 256) = a1 := ofNat_of a1 _ (by omega)
  have e2 : UInt8.ofNat n = a2 := ofNat_of a2 _ (by omega)
  rw [e1, e2]
  constructor
  · intro h
    simp only [if_true, List.cons_append, List.nil_append, List.cons.injEq, true_and] at h
    obtain ⟨q3, q4, q5, q6, hR3⟩ := h
    refine ⟨?_, ?_⟩
    · have t3 := congrArg UInt8.toNat q3
      have t4 := congrArg UInt8.toNat q4
      have t5 := congrArg UInt8.toNat q5
      have t6 := congrArg UInt8.toNat q6
      simp at t3 t4 t5 t6
      omega
    · exact List.append_cancel_left (hR2.symm.trans hR3)
  · rintro ⟨hs, ht⟩
    have q3 : UInt8.ofNat (c / 16777216) = a3 := ofNat_of a3 _ (by omega)
    have q4 : UInt8.ofNat (c / 65536) = a4 := ofNat_of a4 _ (by omega)
    have q5 : UInt8.ofNat (c / 256) = a5 := ofNat_of a5 _ (by omega)
    have q6 : UInt8.ofNat c = a6 := ofNat_of a6 _ (by omega)
    rw [q3, q4, q5, q6, ← ht]
    simp only [if_true, List.cons_append, List.nil_append, List.append_assoc]
    rw [← hR2]
theorem bt_first (l : List ByteArray) (h : ∀ j (hj : j < l.length), l[j].size = 64) (hn : 0 < l.length) (i : Nat) (hi : i < 64) : bt l[0] (i : Int) = bt (B (flat l)) (i : Int) := by
  have hf := flat_length l h
  have hb := flat_blk l h 0 hn
  rw [← hb]
  unfold blk
  rw [bt_B _ _ (by rw [List.length_take, List.length_drop, hf]; omega), bt_B _ _ (by omega)]
  simp
theorem seven (A : List UInt8) (h : 7 ≤ A.length) : ∃ a0 a1 a2 a3 a4 a5 a6 R, A = a0 :: a1 :: a2 :: a3 :: a4 :: a5 :: a6 :: R := by
  match A, h with
  | a0 :: a1 :: a2 :: a3 :: a4 :: a5 :: a6 :: R, _ => exact ⟨_, _, _, _, _, _, _, _, rfl⟩

/-! ### what a record tells -/
def toldN (l : List ByteArray) (n : Nat) : ByteArray × Int := if l = blks (full (((flat l).drop 7).take n) true) (many n) then (B (((flat l).drop 7).take n), 0) else ((⟨#[]⟩ : ByteArray), 8)
def joinR (l : List ByteArray) : ByteArray × Int :=
  if l.any (fun b => b.size != 64) = true ∨ l.length = 0 then ((⟨#[]⟩ : ByteArray), 2)
  else if (headR (rdOf ByteArray.empty l 0)).2.2 ≠ 0 then ((⟨#[]⟩ : ByteArray), (headR (rdOf ByteArray.empty l 0)).2.2)
  else if (headR (rdOf ByteArray.empty l 0)).1 = true ∧ l.length = many (headR (rdOf ByteArray.empty l 0)).2.1.toNat then toldN l (headR (rdOf ByteArray.empty l 0)).2.1.toNat
  else ((⟨#[]⟩ : ByteArray), 2)
def gTail (k : Nat) (l : List ByteArray) (b : Bool × Int × Int) : Option (ByteArray × Int) :=
  if b.2.2 = 0 then
    (if b.1 = true then
      (record_Blocks.f b.2.1).bind fun m =>
        if (l.length : Int) = m then
          (strings_Join.f l (⟨#[]⟩ : ByteArray)).bind fun all =>
            if 7 + b.2.1 ≤ all.size ∧ 0 ≤ b.2.1 ∧ b.2.1 ≤ 100000 ∧ all.size ≤ 140737488355328 then
              (record_Check.f (all.extract 7 (7 + b.2.1).toNat)).bind fun c =>
                if c = sum4 all then
                  (strings_Trim.f k (all.extract (7 + b.2.1).toNat all.size) (⟨#[0]⟩ : ByteArray)).bind fun t =>
                    if t.toList = ([] : List UInt8) then (some (all.extract 7 (7 + b.2.1).toNat, 0)) else (some ((⟨#[]⟩ : ByteArray), 8))
                else (some ((⟨#[]⟩ : ByteArray), 8))
            else none
        else (some ((⟨#[]⟩ : ByteArray), 2))
    else (some ((⟨#[]⟩ : ByteArray), 2)))
  else (some ((⟨#[]⟩ : ByteArray), b.2.2))
def rTail (k : Nat) (l : List ByteArray) (s : ByteArray) (b : Bool × Int × Int) : Option (ByteArray × Int) :=
  if b.2.2 = 0 then (if b.1 = true then ((quitrentref06_Blocks.f k b.2.1).bind fun t164 => (quitrentref06_Join.j1 k l s b.2.1 ((l.length : Int) != t164))) else (quitrentref06_Join.j1 k l s b.2.1 true)) else (some ((⟨#[]⟩ : ByteArray), b.2.2))
theorem j1_true (k : Nat) (l : List ByteArray) (s : ByteArray) (n : Int) : quitrentref06_Join.j1 (k + 1) l s n true = some ((⟨#[]⟩ : ByteArray), 2) := by
  simp only [quitrentref06_Join.j1]
  exact if_pos trivial
theorem gTail_neg (k : Nat) (l : List ByteArray) (b : Bool × Int × Int) (h : b.2.2 ≠ 0) : gTail k l b = some ((⟨#[]⟩ : ByteArray), b.2.2) := by
  unfold gTail; rw [if_neg h]
theorem rTail_neg (k : Nat) (l : List ByteArray) (s : ByteArray) (b : Bool × Int × Int) (h : b.2.2 ≠ 0) : rTail k l s b = some ((⟨#[]⟩ : ByteArray), b.2.2) := by
  unfold rTail; rw [if_neg h]
theorem gTail_no (k : Nat) (l : List ByteArray) (n : Int) : gTail k l (false, n, 0) = some ((⟨#[]⟩ : ByteArray), 2) := by
  unfold gTail; rw [if_pos rfl, if_neg (show ¬ (false = true) by decide)]
theorem rTail_no (k : Nat) (l : List ByteArray) (s : ByteArray) (n : Int) : rTail (k + 1) l s (false, n, 0) = some ((⟨#[]⟩ : ByteArray), 2) := by
  unfold rTail; rw [if_pos rfl, if_neg (show ¬ (false = true) by decide)]; exact j1_true _ _ _ _
/-- The two with a head that tells n bytes. -/
theorem tails (l : List ByteArray) (hl : l.length ≤ 10000) (h : ∀ j (hj : j < l.length), l[j].size = 64) (n : Nat) (hn : n ≤ 40000) (a1 a2 a3 a4 a5 a6 : UInt8) (R : List UInt8) (hA : flat l = (1 : UInt8) :: a1 :: a2 :: a3 :: a4 :: a5 :: a6 :: R) (hn' : n = a1.toNat * 256 + a2.toNat) :
    Ev (fun k => gTail k l (true, (n : Int), 0)) (if l.length = many n then toldN l n else ((⟨#[]⟩ : ByteArray), 2)) ∧ Ev (fun k => rTail k l (B (flat l)) (true, (n : Int), 0)) (if l.length = many n then toldN l n else ((⟨#[]⟩ : ByteArray), 2)) := by
  have hbl : record_Blocks.f (n : Int) = some ((many n : Nat) : Int) := blocks_nat n (by omega)
  have hbr : Ev (fun k => quitrentref06_Blocks.f k (n : Int)) ((many n : Nat) : Int) := by
    have := refBlocks_ev (n : Int) (by omega)
    rw [if_pos (by omega)] at this
    have e : ((n : Int) + 70) / 64 = ((many n : Nat) : Int) := by unfold many; omega
    rwa [e] at this
  by_cases hm : l.length = many n
  · rw [if_pos hm]
    have hf := flat_length l h
    have hp := pad_eq n
    have hRl : R.length + 7 = 64 * many n := by rw [hA] at hf; simp only [List.length_cons] at hf; omega
    have hsz : ((B (flat l)).size : Int) = 64 * (many n : Int) := by rw [B_size, hf, hm]; omega
    have w7 : wrap64 (7 + (n : Int)) = 7 + (n : Int) := by unfold wrap64; omega
    have g1 : (7 : Int) ≤ 7 + (n : Int) := by omega
    have g2 : 7 + (n : Int) ≤ ((B (flat l)).size : Int) := by omega
    have g3 : (B (flat l)).size ≤ 140737488355328 := by omega
    have g4 : (0 : Int) ≤ (n : Int) ∧ (n : Int) ≤ 100000 := by omega
    have hq : ((l.length : Int) != ((many n : Nat) : Int)) = false := bne_eq_false_iff_eq.mpr (by omega)
    have hmI : (l.length : Int) = ((many n : Nat) : Int) := by omega
    have hx : (B (flat l)).extract 7 (7 + (n : Int)).toNat = B (R.take n) := by
      rw [B_extract, hA, show (7 + (n : Int)).toNat - 7 = n by omega]; rfl
    have hy : (B (flat l)).extract (7 + (n : Int)).toNat (B (flat l)).size = B (R.drop n) := by
      rw [B_extract, hA, B_size, show (7 + (n : Int)).toNat = n + 7 by omega]
      have : ((1 : UInt8) :: a1 :: a2 :: a3 :: a4 :: a5 :: a6 :: R).drop (n + 7) = R.drop n := by simp
      rw [this, List.take_of_length_le (by simp)]
    have hT : ((flat l).drop 7).take n = R.take n := by rw [hA]; rfl
    have hlen : (R.take n).length = n := by rw [List.length_take]; omega
    have hlay := refLay_ev (R.take n) true (by omega)
    rw [hlen] at hlay
    have hfl : (full (R.take n) true).length = 64 * many n := by rw [full_length, hlen]
    have hiff := full_iff a1 a2 a3 a4 a5 a6 R n hn' hRl
    have hwant : l = blks (full (R.take n) true) (many n) ↔ (((a3.toNat * 256 + a4.toNat) * 256 + a5.toNat) * 256 + a6.toNat = crc (R.take n) ∧ ∀ x ∈ R.drop n, x = 0) := by
      rw [← hiff, ← hA]
      have h2 := flat_blks l h
      rw [hm] at h2
      constructor
      · intro h3
        exact blks_inj _ _ (many n) (by omega) hfl (h2.symm.trans h3)
      · intro h3
        exact h2.trans (congrArg (fun t => blks t (many n)) h3)
    clear hiff
    have hs4 : sum4 (B (flat l)) = (((((a3.toNat * 256 + a4.toNat) * 256 + a5.toNat) * 256 + a6.toNat : Nat)) : Int) := by rw [hA]; exact sum4_B _ _ _ _ _ _ _ _
    have hstr := strJoin_eq l (by omega) (by omega)
    have hchk := check_eq (B (R.take n)) (by rw [B_size]; omega)
    rw [B_data] at hchk
    obtain ⟨t, ht, hte⟩ := trim_ev (R.drop n) (by rw [List.length_drop]; omega)
    have hl1 := fun k' (hk : l.length < k') => refJoin_l1 l (B (flat l)) (n : Int) (blks (full (R.take n) true) (many n)) hl (by rw [blks_length]; omega) g4.1 g4.2 g2 l.length k' 0 (by omega) hk (fun j hj => by omega)
    rw [hx] at hl1
    clear hsz hf hp hRl hlen hfl
    unfold toldN
    rw [hT]
    refine ⟨?_, ?_⟩
    · obtain ⟨K, hK⟩ := ht
      refine ⟨K, fun k hk => ?_⟩
      have h1 := hK k hk
      simp only at h1
      show gTail k l (true, (n : Int), 0) = _
      unfold gTail
      rw [if_pos rfl, if_pos rfl, hbl, Option.bind_some, if_pos hmI, hstr, Option.bind_some]
      rw [if_pos (show 7 + (n : Int) ≤ ((B (flat l)).size : Int) ∧ 0 ≤ (n : Int) ∧ (n : Int) ≤ 100000 ∧ (B (flat l)).size ≤ 140737488355328 from ⟨g2, g4.1, g4.2, g3⟩)]
      rw [hx, hchk, Option.bind_some, hs4, hy]
      by_cases hc : (((a3.toNat * 256 + a4.toNat) * 256 + a5.toNat) * 256 + a6.toNat) = crc (R.take n)
      · rw [if_pos (congrArg (Nat.cast (R := Int)) hc.symm), h1, Option.bind_some]
        by_cases hzz : ∀ x ∈ R.drop n, x = 0
        · rw [if_pos (hte.2 hzz), if_pos (hwant.2 ⟨hc, hzz⟩)]
        · rw [if_neg (fun e => hzz (hte.1 e)), if_neg (fun e => hzz (hwant.1 e).2)]
      · rw [if_neg (fun e => hc (Int.ofNat_inj.1 e).symm), if_neg (fun e => hc (hwant.1 e).1)]
    · obtain ⟨K1, k1⟩ := hbr
      obtain ⟨K2, k2⟩ := hlay
      refine ⟨K1 + K2 + l.length + 2, fun k hk => ?_⟩
      have h1 := k1 k (by omega)
      obtain ⟨k', rfl⟩ : ∃ m, k = m + 1 := ⟨k - 1, by omega⟩
      have h2 := k2 k' (by omega)
      simp only at h1 h2
      show rTail (k' + 1) l (B (flat l)) (true, (n : Int), 0) = _
      unfold rTail
      rw [if_pos rfl, if_pos rfl, h1, Option.bind_some]
      rw [hq]
      have h3 := hl1 k' (by omega)
      clear hl1 hwant hte ht hchk
      simp only [quitrentref06_Join.j1]
      rw [if_neg (by simp), w7, if_pos g1, if_pos g2, hx, h2, Option.bind_some]
      exact h3
  · rw [if_neg hm]
    refine ⟨⟨0, fun k _ => ?_⟩, ?_⟩
    · show gTail k l (true, (n : Int), 0) = _
      unfold gTail
      rw [if_pos rfl, if_pos rfl, hbl, Option.bind_some, if_neg (by omega)]
    · obtain ⟨K1, k1⟩ := hbr
      refine ⟨K1 + 1, fun k hk => ?_⟩
      have h1 := k1 k (by omega)
      obtain ⟨k', rfl⟩ : ∃ m, k = m + 1 := ⟨k - 1, by omega⟩
      simp only at h1
      show rTail (k' + 1) l (B (flat l)) (true, (n : Int), 0) = _
      unfold rTail
      rw [if_pos rfl, if_pos rfl, h1, Option.bind_some]
      have hq : ((l.length : Int) != ((many n : Nat) : Int)) = true := bne_iff_ne.mpr (by omega)
      rw [hq]
      exact j1_true _ _ _ _

end Go.Proofs.YtnfeknaeikpdmaaDoor.PR
