import Derived.Test.YtnfeknaeikpdmaaDoorRecB
namespace Go.Proofs.YtnfeknaeikpdmaaDoor.PR
open Crc Go.RowKit Go.Proofs.YtnfeknaeikpdmaaDoorW.PrintWords Go.Proofs.YtnfeknaeikpdmaaDoorW.PrintLast Go.Proofs.YtnfeknaeikpdmaaDoorW.PrintMore
set_option linter.unusedVariables false
set_option linter.unusedSimpArgs false
/-! ### the blocks -/
def hdr (b : List UInt8) (mark : Bool) : List UInt8 := [if mark then 1 else 0, UInt8.ofNat (b.length / 256), UInt8.ofNat b.length, UInt8.ofNat (crc b / 16777216), UInt8.ofNat (crc b / 65536), UInt8.ofNat (crc b / 256), UInt8.ofNat (crc b)]
def padN (n : Nat) : Nat := 64 * many n - (7 + n)
def full (b : List UInt8) (mark : Bool) : List UInt8 := hdr b mark ++ b ++ List.replicate (padN b.length) 0
theorem hdr_length (b : List UInt8) (mark : Bool) : (hdr b mark).length = 7 := rfl
theorem pad_eq (n : Nat) : 7 + n + padN n = 64 * many n ∧ padN n < 64 := by unfold padN many; omega
theorem full_length (b : List UInt8) (mark : Bool) : (full b mark).length = 64 * many b.length := by
  have := pad_eq b.length
  simp only [full, List.length_append, hdr_length, List.length_replicate]; omega
theorem ofB_append (a b : List UInt8) : ofB (a ++ b) = ofB a ++ ofB b := by simp [ofB]
theorem ofB_length (a : List UInt8) : (ofB a).length = a.length := by simp [ofB]
theorem ofB_zeros (n : Nat) : ofB (List.replicate n 0) = List.replicate n 0 := by simp [ofB]
theorem ofB_take (a : List UInt8) (n : Nat) : (ofB a).take n = ofB (a.take n) := by simp [ofB]
theorem ofB_drop (a : List UInt8) (n : Nat) : (ofB a).drop n = ofB (a.drop n) := by simp [ofB]
theorem toNat_of (n : Nat) : ((UInt8.ofNat n).toNat : Int) = ((n % 256 : Nat) : Int) := by simp
theorem ofB_hdr (b : List UInt8) (mark : Bool) : ofB (hdr b mark) = [if mark then 1 else 0, ((b.length / 256 % 256 : Nat) : Int), ((b.length % 256 : Nat) : Int), ((crc b / 16777216 % 256 : Nat) : Int), ((crc b / 65536 % 256 : Nat) : Int), ((crc b / 256 % 256 : Nat) : Int), ((crc b % 256 : Nat) : Int)] := by
  unfold ofB hdr
  simp only [List.map_cons, List.map_nil, toNat_of]
  congr 1
  cases mark <;> rfl
theorem drop_take_blk (l : List UInt8) (i : Nat) : (l.take (64 * i + 64)).drop (64 * i) = (l.drop (64 * i)).take 64 := by
  rw [List.drop_take]; congr 1; omega
theorem blks_zero (l : List UInt8) : blks l 0 = [] := rfl
theorem lay_l0 (l : List UInt8) (n : Nat) (hl : l.length = 64 * n) (hn : n ≤ 1000) (d : Nat) : ∀ (k i : Nat), i + d = n → d < k → record_Lay.l0 k (ofB l) (blks l i) (64 * (i : Int)) = some (blks l n, 0) := by
  induction d with
  | zero =>
    intro k i hi hk
    obtain ⟨k, rfl⟩ : ∃ m, k = m + 1 := ⟨k - 1, by omega⟩
    have : i = n := by omega
    subst this
    simp only [record_Lay.l0]
    rw [if_neg (by rw [ofB_length, hl]; omega)]
  | succ d ih =>
    intro k i hi hk
    obtain ⟨k, rfl⟩ : ∃ m, k = m + 1 := ⟨k - 1, by omega⟩
    simp only [record_Lay.l0]
    have e1 : wrap64 (64 * (i : Int) + 64) = 64 * ((i + 1 : Nat) : Int) := by unfold wrap64; omega
    rw [e1, if_pos (by rw [ofB_length, hl]; omega), if_pos (by omega), if_pos (by omega), if_pos (by rw [ofB_length, hl]; omega), if_pos (by rw [blks_length]; omega)]
    have e2 : (64 * ((i + 1 : Nat) : Int)).toNat = 64 * i + 64 := by omega
    have e3 : (64 * (i : Int)).toNat = 64 * i := by omega
    rw [e2, e3, ofB_take, ofB_drop, drop_take_blk, strOf_ofB]
    have e4 : blks l i ++ [B ((l.drop (64 * i)).take 64)] = blks l (i + 1) := (blks_succ l i).symm
    rw [e4]
    exact ih k (i + 1) (by omega) (by omega)
theorem refLay_l1 (l : List UInt8) (n : Nat) (hl : l.length = 64 * n) (hn : n ≤ 1000) (d : Nat) : ∀ (k i : Nat), i + d = n → d < k → quitrentref06_Lay.l1 k (B l) (blks l i) (64 * (i : Int)) = some (blks l n, 0) := by
  induction d with
  | zero =>
    intro k i hi hk
    obtain ⟨k, rfl⟩ : ∃ m, k = m + 1 := ⟨k - 1, by omega⟩
    have : i = n := by omega
    subst this
    simp only [quitrentref06_Lay.l1]
    rw [if_neg (by rw [B_size, hl]; omega)]
  | succ d ih =>
    intro k i hi hk
    obtain ⟨k, rfl⟩ : ∃ m, k = m + 1 := ⟨k - 1, by omega⟩
    simp only [quitrentref06_Lay.l1]
    have e1 : wrap64 (64 * (i : Int) + 64) = 64 * ((i + 1 : Nat) : Int) := by unfold wrap64; omega
    rw [e1, if_pos (by rw [B_size, hl]; omega), if_pos (by omega), if_pos (by omega), if_pos (by rw [B_size, hl]; omega), if_pos (by rw [blks_length]; omega)]
    have e2 : (64 * ((i + 1 : Nat) : Int)).toNat = 64 * i + 64 := by omega
    have e3 : (64 * (i : Int)).toNat = 64 * i := by omega
    rw [e2, e3, B_extract]
    have e4 : blks l i ++ [B ((l.drop (64 * i)).take (64 * i + 64 - 64 * i))] = blks l (i + 1) := by rw [show 64 * i + 64 - 64 * i = 64 by omega]; exact (blks_succ l i).symm
    rw [e4]
    exact ih k (i + 1) (by omega) (by omega)
theorem many_le (n : Nat) (h : n ≤ 40000) : many n ≤ 1000 ∧ 1 ≤ many n := by unfold many; omega
theorem lay_j0 (l : List UInt8) (mark : Bool) (h : l.length ≤ 40000) : Ev (fun k => record_Lay.j0 k (B l) ((many l.length : Nat) : Int) (ofB (hdr l mark))) (blks (full l mark) (many l.length), 0) := by
  have hm := many_le l.length h
  have hp := pad_eq l.length
  refine ⟨many l.length + 2, fun k hk => ?_⟩
  obtain ⟨k, rfl⟩ : ∃ m, k = m + 1 := ⟨k - 1, by omega⟩
  simp only [record_Lay.j0]
  have hb : bytesOf (B l) = ofB l := by rw [bytesOf_B, B_data]
  rw [if_pos (by rw [ofB_length, hdr_length, B_size]; omega), hb, ← ofB_append]
  rw [Option.bind_some]
  have e1 : wrap64 (wrap64 (((many l.length : Nat) : Int) * 64) - ((ofB (hdr l mark ++ l)).length : Int)) = ((padN l.length : Nat) : Int) := by
    rw [ofB_length, List.length_append, hdr_length]; unfold wrap64; omega
  rw [e1, if_pos (by omega), if_pos (by rw [ofB_length, List.length_append, hdr_length]; omega)]
  have e2 : ((padN l.length : Nat) : Int).toNat = padN l.length := by omega
  have e3 : ofB (hdr l mark ++ l) ++ List.replicate (padN l.length) (0 : Int) = ofB (full l mark) := by rw [← ofB_zeros, ← ofB_append]; unfold full; rfl
  rw [e2, e3]
  have h0 := lay_l0 (full l mark) (many l.length) (full_length l mark) hm.1 (many l.length) k 0 (by omega) (by omega)
  rw [blks_zero, Int.natCast_zero, Int.mul_zero] at h0
  exact h0
theorem lay_ev (l : List UInt8) (mark : Bool) (h : l.length ≤ 40000) : Ev (fun k => record_Lay.f k (B l) mark) (blks (full l mark) (many l.length), 0) := by
  have hm := many_le l.length h
  obtain ⟨K, hK⟩ := lay_j0 l mark h
  refine ⟨K, fun k hk => ?_⟩
  show record_Lay.f k (B l) mark = _
  unfold record_Lay.f
  have hc := crc_lt l
  rw [B_size, blocks_nat _ h]
  simp only [Option.bind_some]
  rw [if_neg (by omega), check_eq _ (by rw [B_size]; omega), B_data]
  simp only [Option.bind_some]
  have e0 : ([0, ((l.length : Nat) : Int) / 256 % 256, ((l.length : Nat) : Int) % 256, ((crc l : Nat) : Int) / 16777216 % 256, ((crc l : Nat) : Int) / 65536 % 256, ((crc l : Nat) : Int) / 256 % 256, ((crc l : Nat) : Int) % 256] : List Int) = ofB (hdr l false) := by
    rw [ofB_hdr]; rfl
  rw [e0]
  cases mark with
  | false => exact hK k hk
  | true =>
    rw [if_pos rfl, if_pos (by rw [ofB_length, hdr_length]; decide)]
    have e1 : (ofB (hdr l false)).set (0 : Int).toNat 1 = ofB (hdr l true) := by rw [ofB_hdr, ofB_hdr]; rfl
    rw [e1]
    exact hK k hk
theorem B_one (l : List UInt8) : (⟨#[1]⟩ : ByteArray) ++ B l = B (1 :: l) := by
  have : (⟨#[1]⟩ : ByteArray) = B [1] := rfl
  rw [this, B_append]; rfl
theorem B_zero (l : List UInt8) : B l ++ (⟨#[0]⟩ : ByteArray) = B (l ++ [0]) := by
  have : (⟨#[0]⟩ : ByteArray) = B [0] := rfl
  rw [this, B_append]
theorem refLay_l0 (l : List UInt8) (p n : Nat) (hl : l.length + p = 64 * n) (hp : p < 64) (hn : n ≤ 1000) (hn1 : 1 ≤ n) (d : Nat) : ∀ (k j : Nat), j + d = p → d + n + 1 < k → quitrentref06_Lay.l0 k (B (l ++ List.replicate j 0)) [] = some (blks (l ++ List.replicate p 0) n, 0) := by
  induction d with
  | zero =>
    intro k j hj hk
    obtain ⟨k, rfl⟩ : ∃ m, k = m + 1 := ⟨k - 1, by omega⟩
    have : j = p := by omega
    subst this
    simp only [quitrentref06_Lay.l0]
    have hs : (l ++ List.replicate j (0 : UInt8)).length = 64 * n := by simp; omega
    rw [if_pos (by rw [B_size, hs]; omega)]
    have h0 := refLay_l1 _ n hs hn n k 0 (by omega) (by omega)
    rw [blks_zero, Int.natCast_zero, Int.mul_zero] at h0
    exact h0
  | succ d ih =>
    intro k j hj hk
    obtain ⟨k, rfl⟩ : ∃ m, k = m + 1 := ⟨k - 1, by omega⟩
    simp only [quitrentref06_Lay.l0]
    have hs : (l ++ List.replicate j (0 : UInt8)).length = l.length + j := by simp
    rw [if_neg (by rw [B_size, hs]; omega), if_pos (by rw [B_size, hs]; omega), B_zero, List.append_assoc, show List.replicate j (0 : UInt8) ++ [0] = List.replicate (j + 1) 0 by rw [List.replicate_succ']]
    exact ih k (j + 1) (by omega) (by omega)
theorem refLay_ev (l : List UInt8) (mark : Bool) (h : l.length ≤ 40000) : Ev (fun k => quitrentref06_Lay.f k (B l) mark) (blks (full l mark) (many l.length), 0) := by
  have hm := many_le l.length h
  have hp := pad_eq l.length
  have hc := crc_lt l
  obtain ⟨K, hK⟩ := refCheck_ev (B l) (by rw [B_size]; omega)
  refine ⟨K + many l.length + 70, fun k hk => ?_⟩
  show quitrentref06_Lay.f k (B l) mark = _
  unfold quitrentref06_Lay.f
  have h0 := hK k (by omega)
  simp only at h0
  rw [if_neg (by rw [B_size]; omega), h0, B_data]
  simp only [Option.bind_some]
  have e0 : ([0, (((B l).size : Nat) : Int) / 256 % 256, (((B l).size : Nat) : Int) % 256, Int.tdiv ((crc l : Nat) : Int) 16777216 % 256, Int.tdiv ((crc l : Nat) : Int) 65536 % 256, Int.tdiv ((crc l : Nat) : Int) 256 % 256, Int.tmod ((crc l : Nat) : Int) 256 % 256] : List Int) = ofB (hdr l false) := by
    rw [ofB_hdr, B_size, Int.tdiv_eq_ediv_of_nonneg (by omega), Int.tdiv_eq_ediv_of_nonneg (by omega), Int.tdiv_eq_ediv_of_nonneg (by omega), Int.tmod_eq_emod_of_nonneg (by omega)]
    simp
  rw [e0, strOf_ofB, B_append]
  have hl7 : (hdr l false ++ l).length = 7 + l.length := by rw [List.length_append, hdr_length]
  rw [if_pos (by rw [B_size, B_size, hdr_length]; omega)]
  have key : ∀ mk, (hdr l mk ++ l).length = 7 + l.length → quitrentref06_Lay.j0 k (B (hdr l mk ++ l)) = some (blks (full l mk) (many l.length), 0) := by
    intro mk hmk
    obtain ⟨k, rfl⟩ : ∃ m, k = m + 1 := ⟨k - 1, by omega⟩
    simp only [quitrentref06_Lay.j0]
    have := refLay_l0 (hdr l mk ++ l) (padN l.length) (many l.length) (by rw [hmk]; omega) hp.2 hm.1 hm.2 (padN l.length) k 0 (by omega) (by omega)
    rw [List.replicate_zero, List.append_nil] at this
    rw [this]
    unfold full
    rfl
  cases mark with
  | false => exact key false hl7
  | true =>
    rw [if_pos rfl, if_pos (by rw [B_size, hl7]; omega), B_size, hl7, B_extract, B_one]
    have e1 : (1 : UInt8) :: ((hdr l false ++ l).drop 1).take (7 + l.length - 1) = hdr l true ++ l := by
      rw [List.take_of_length_le (by rw [List.length_drop, hl7]; omega)]; rfl
    rw [e1, B_size, if_pos (by rw [List.length_take, List.length_drop, hl7]; omega)]
    exact key true (by rw [List.length_append, hdr_length])

end Go.Proofs.YtnfeknaeikpdmaaDoor.PR
