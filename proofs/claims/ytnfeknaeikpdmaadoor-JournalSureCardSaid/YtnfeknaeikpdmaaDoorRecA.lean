import Derived.Test.YtnfeknaeikpdmaaDoorPR1
import Derived.Test.YtnfeknaeikpdmaaDoorPR4
import Derived.Test.YtnfeknaeikpdmaaDoorPR5
namespace Go.Proofs.YtnfeknaeikpdmaaDoor.PR
open Go.RowKit Go.Proofs.YtnfeknaeikpdmaaDoorW.PrintWords Go.Proofs.YtnfeknaeikpdmaaDoorW.PrintLast Go.Proofs.YtnfeknaeikpdmaaDoorW.PrintMore
set_option linter.unusedVariables false
set_option linter.unusedSimpArgs false
/-! ### bytes and blocks -/
open Go.Proofs.YtnfeknaeikpdmaaDoor.Crc
def B (l : List UInt8) : ByteArray := ⟨l.toArray⟩
theorem B_data (l : List UInt8) : (B l).data.toList = l := by simp [B]
theorem B_size (l : List UInt8) : (B l).size = l.length := by simp [B, ByteArray.size]
theorem B_eta (s : ByteArray) : B s.data.toList = s := by obtain ⟨⟨l⟩⟩ := s; rfl
theorem B_inj {a b : List UInt8} (h : B a = B b) : a = b := by have := congrArg (fun s => s.data.toList) h; simpa [B_data] using this
theorem B_len (s : ByteArray) : s.data.toList.length = s.size := by rw [Array.length_toList]; rfl
theorem toList_data (s : ByteArray) : s.toList = s.data.toList := Go.ByteArray.toList_eq s
def ofB (l : List UInt8) : List Int := l.map fun b => (b.toNat : Int)
theorem bytesOf_B (s : ByteArray) : bytesOf s = ofB s.data.toList := rfl
theorem strOf_ofB (l : List UInt8) : strOfNums (ofB l) = B l := by
  unfold strOfNums ofB B
  congr 2
  rw [List.map_map]
  conv => rhs; rw [← List.map_id l]
  apply List.map_congr_left
  intro a _
  simp
theorem B_append (a b : List UInt8) : B a ++ B b = B (a ++ b) := by
  have h : (B a ++ B b).data.toList = (B (a ++ b)).data.toList := by simp [B]
  rw [← B_eta (B a ++ B b), h, B_eta]
theorem B_extract (l : List UInt8) (a b : Nat) : (B l).extract a b = B ((l.drop a).take (b - a)) := by
  rw [← B_eta ((B l).extract a b), Lib.extract_data, B_data]
def blk (l : List UInt8) (i : Nat) : ByteArray := B ((l.drop (64 * i)).take 64)
def blks (l : List UInt8) (n : Nat) : List ByteArray := (List.range n).map (blk l)
theorem blks_succ (l : List UInt8) (n : Nat) : blks l (n + 1) = blks l n ++ [blk l n] := by simp [blks, List.range_succ]
theorem blks_length (l : List UInt8) (n : Nat) : (blks l n).length = n := by simp [blks]
theorem bt_B (l : List UInt8) (i : Nat) (h : i < l.length) : bt (B l) (i : Int) = (l[i].toNat : Int) := by
  unfold bt
  rw [dif_pos (show (i : Int).toNat < (B l).size by rw [B_size]; omega)]
  rfl

/-! ### bits -/
theorem i64_or_nat (a b : Nat) (ha : a < 4611686018427387904) (hb : b < 4611686018427387904) : Go.bits .or .i64 (a : Int) (b : Int) = ((a ||| b : Nat) : Int) := by
  have hx : a ||| b < 2 ^ 62 := Nat.or_lt_two_pow (by omega) (by omega)
  show IntKind.i64.wrap ((BitVec.ofInt 64 (a : Int) ||| BitVec.ofInt 64 (b : Int)).toNat : Int) = _
  rw [BitVec.toNat_or, ofInt_u64 a (by omega), ofInt_u64 b (by omega), IntKind.wrap_i64]
  omega
theorem or_join (a b : Nat) (hb : b < 256) : a * 256 ||| b = a * 256 + b := nat_join 8 (a * 256) b (by omega) (by omega)
theorem i64_join (a b : Nat) (ha : a < 1000000) (hb : b < 256) : Go.bits .or .i64 ((a : Int) * 256) (b : Int) = (a : Int) * 256 + b := by
  have h := i64_or_nat (a * 256) b (by omega) (by omega)
  rw [or_join a b hb, Int.natCast_add, Int.natCast_mul] at h
  exact h
theorem u32_join (a b : Nat) (ha : a < 16777216) (hb : b < 256) : Go.bits .or .u32 ((a : Int) * 256 % 4294967296) (b : Int) = ((a * 256 + b : Nat) : Int) := by
  have h := u32_or_nat (a * 256) b (by omega) (by omega)
  rw [or_join a b hb] at h
  have e : (a : Int) * 256 % 4294967296 = ((a * 256 : Nat) : Int) := by omega
  rw [e]
  exact h

/-! ### numbers of blocks -/
def many (n : Nat) : Nat := (n + 70) / 64
theorem blocks_eq (n : Int) : record_Blocks.f n = some (if 0 ≤ n ∧ n ≤ 40000 then (n + 70) / 64 else 0) := by
  unfold record_Blocks.f
  by_cases h1 : n < 0
  · rw [if_pos h1, if_neg (by omega)]
  · rw [if_neg h1]
    by_cases h2 : n > 40000
    · rw [if_pos h2, if_neg (by omega)]
    · rw [if_neg h2, if_pos (by omega)]
      congr 1
      unfold wrap64
      rw [Int.tdiv_eq_ediv_of_nonneg (by omega)]
      omega
theorem blocks_nat (n : Nat) (h : n ≤ 40000) : record_Blocks.f (n : Int) = some ((many n : Nat) : Int) := by
  rw [blocks_eq, if_pos (by omega)]
  unfold many
  congr 1
theorem refBlocks_l0 (n : Nat) (hn : n ≤ 40000) (d : Nat) : ∀ (k i : Nat), i ≤ many n → many n - i = d → d < k → quitrentref06_Blocks.l0 k (n : Int) (i : Int) = some ((many n : Nat) : Int) := by
  induction d with
  | zero =>
    intro k i h1 h2 hk
    obtain ⟨k, rfl⟩ : ∃ m, k = m + 1 := ⟨k - 1, by omega⟩
    simp only [quitrentref06_Blocks.l0]
    have : i = many n := by omega
    subst this
    rw [if_neg (by unfold wrap64 many; omega)]
  | succ d ih =>
    intro k i h1 h2 hk
    obtain ⟨k, rfl⟩ : ∃ m, k = m + 1 := ⟨k - 1, by omega⟩
    simp only [quitrentref06_Blocks.l0]
    rw [if_pos (by unfold wrap64; unfold many at *; omega)]
    have e : wrap64 ((i : Int) + 1) = ((i + 1 : Nat) : Int) := by unfold wrap64; unfold many at *; omega
    rw [e]
    exact ih k (i + 1) (by omega) (by omega) (by omega)
theorem refBlocks_ev (n : Int) (hn : n ≤ 100000) : Ev (fun k => quitrentref06_Blocks.f k n) (if 0 ≤ n ∧ n ≤ 40000 then (n + 70) / 64 else 0) := by
  by_cases h1 : n < 0
  · refine ⟨1, fun k hk => ?_⟩
    obtain ⟨k, rfl⟩ : ∃ m, k = m + 1 := ⟨k - 1, by omega⟩
    show quitrentref06_Blocks.f (k + 1) _ = _
    unfold quitrentref06_Blocks.f
    rw [if_pos h1, if_neg (by omega)]
    simp only [quitrentref06_Blocks.j0, if_true]
  · by_cases h2 : n > 40000
    · refine ⟨1, fun k hk => ?_⟩
      obtain ⟨k, rfl⟩ : ∃ m, k = m + 1 := ⟨k - 1, by omega⟩
      show quitrentref06_Blocks.f (k + 1) _ = _
      unfold quitrentref06_Blocks.f
      rw [if_neg h1, if_neg (show ¬ (0 ≤ n ∧ n ≤ 40000) by omega)]
      simp only [quitrentref06_Blocks.j0, h2, decide_true, if_true]
    · obtain ⟨m, rfl⟩ := Int.eq_ofNat_of_zero_le (show 0 ≤ n by omega)
      refine ⟨many m + 2, fun k hk => ?_⟩
      obtain ⟨k, rfl⟩ : ∃ m, k = m + 1 := ⟨k - 1, by omega⟩
      show quitrentref06_Blocks.f (k + 1) _ = _
      unfold quitrentref06_Blocks.f
      rw [if_neg h1, if_pos (by omega)]
      have hd : decide ((m : Int) > 40000) = false := decide_eq_false h2
      simp only [quitrentref06_Blocks.j0, hd]
      rw [if_neg (by simp), show ((m : Int) + 70) / 64 = (many m : Nat) by unfold many; omega]
      exact refBlocks_l0 m (by omega) (many m) k 0 (by omega) (by omega) (by omega)

/-! ### heads -/
theorem head_same (b : ByteArray) : ∃ r, Ev (fun k => record_Head.f k b) r ∧ Ev (fun k => quitrentref06_Head.f k b) r := by
  by_cases hs : b.size = 64
  · have g0 := bt_range b 0
    have g1 := bt_range b 1
    have g2 := bt_range b 2
    obtain ⟨x1, h1⟩ := Int.eq_ofNat_of_zero_le g1.1
    obtain ⟨x2, h2⟩ := Int.eq_ofNat_of_zero_le g2.1
    have e1 : Go.bits .or .i64 (wrap64 ((wrap64 (bt b 1)) * 256)) (wrap64 (bt b 2)) = bt b 1 * 256 + bt b 2 := by
      have w1 : wrap64 ((wrap64 (bt b 1)) * 256) = (x1 : Int) * 256 := by rw [h1]; unfold wrap64; omega
      have w2 : wrap64 (bt b 2) = (x2 : Int) := by rw [h2]; unfold wrap64; omega
      rw [w1, w2, i64_join x1 x2 (by omega) (by omega), h1, h2]
    have e2 : wrap64 ((wrap64 (256 * (wrap64 (bt b 1)))) + (wrap64 (bt b 2))) = bt b 1 * 256 + bt b 2 := by unfold wrap64; omega
    have key : ∀ q : Bool, ∃ r, (∀ k, record_Head.j0 (k + 1) b q = some r) ∧ ∀ k, quitrentref06_Head.j0 (k + 1) b q = some r := by
      intro q
      cases q with
      | true => exact ⟨(false, 0, 2), fun k => by simp only [record_Head.j0, if_true], fun k => by simp only [quitrentref06_Head.j0, if_true]⟩
      | false =>
        simp only [record_Head.j0, quitrentref06_Head.j0, e1, e2]
        by_cases z : bt b 0 = 0
        · exact ⟨(false, 0, 0), fun k => by simp [hs, z], fun k => by simp [hs, z]⟩
        · by_cases m : bt b 1 * 256 + bt b 2 > 40000
          · exact ⟨(false, 0, 8), fun k => by simp [hs, z, m], fun k => by simp [hs, z, m]⟩
          · exact ⟨(true, bt b 1 * 256 + bt b 2, 0), fun k => by simp [hs, z, m], fun k => by simp [hs, z, m]⟩
    obtain ⟨r, k1, k2⟩ := key (decide ((bt b 0) > 1))
    refine ⟨r, ⟨1, fun k hk => ?_⟩, ⟨1, fun k hk => ?_⟩⟩
    · obtain ⟨k, rfl⟩ : ∃ m, k = m + 1 := ⟨k - 1, by omega⟩
      show record_Head.f (k + 1) b = some r
      unfold record_Head.f
      rw [if_pos (by omega), if_pos (by omega)]
      exact k1 k
    · obtain ⟨k, rfl⟩ : ∃ m, k = m + 1 := ⟨k - 1, by omega⟩
      show quitrentref06_Head.f (k + 1) b = some r
      unfold quitrentref06_Head.f
      rw [if_pos (by omega), if_pos (by omega)]
      exact k2 k
  · refine ⟨(false, 0, 2), ⟨1, fun k hk => ?_⟩, ⟨1, fun k hk => ?_⟩⟩
    · obtain ⟨k, rfl⟩ : ∃ m, k = m + 1 := ⟨k - 1, by omega⟩
      show record_Head.f (k + 1) b = _
      unfold record_Head.f
      rw [if_neg (by omega)]
      simp only [record_Head.j0, if_true]
    · obtain ⟨k, rfl⟩ : ∃ m, k = m + 1 := ⟨k - 1, by omega⟩
      show quitrentref06_Head.f (k + 1) b = _
      unfold quitrentref06_Head.f
      rw [if_neg (by omega)]
      simp only [quitrentref06_Head.j0, if_true]

end Go.Proofs.YtnfeknaeikpdmaaDoor.PR
