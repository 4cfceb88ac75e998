import Derived.Test.YtnfeknaeikpdmaaDoorRecG
import Derived.Test.YtnfeknaeikpdmaaDoorPR3
namespace Go.Proofs.YtnfeknaeikpdmaaDoor.PR
open Crc Go.RowKit Go.Proofs.YtnfeknaeikpdmaaDoorW.PrintWords Go.Proofs.YtnfeknaeikpdmaaDoorW.PrintLast Go.Proofs.YtnfeknaeikpdmaaDoorW.PrintMore
set_option linter.unusedVariables false
set_option linter.unusedSimpArgs false
/-! ### the laid record, told -/
theorem blk0_bt (l : List UInt8) (i : Nat) (hi : i < 64) (hl : 64 ≤ l.length) : bt (blk l 0) (i : Int) = ((l[i]'(by omega)).toNat : Int) := by
  unfold blk
  rw [bt_B _ _ (by rw [List.length_take, List.length_drop]; omega)]
  simp
theorem blk_size (l : List UInt8) (i n : Nat) (hl : l.length = 64 * n) (hi : i < n) : (blk l i).size = 64 := by
  unfold blk
  rw [B_size, List.length_take, List.length_drop]; omega
theorem blks_sizes (l : List UInt8) (n : Nat) (hl : l.length = 64 * n) (j : Nat) (hj : j < (blks l n).length) : ((blks l n)[j]).size = 64 := by
  have hj' : j < n := by rw [blks_length] at hj; exact hj
  have : (blks l n)[j] = blk l j := by simp [blks]
  rw [this]
  exact blk_size l j n hl hj'
theorem flat_blks_eq (l : List UInt8) (n : Nat) (hl : l.length = 64 * n) : flat (blks l n) = l := by
  have h1 := flat_blks (blks l n) (blks_sizes l n hl)
  rw [blks_length] at h1
  have h2 := flat_length (blks l n) (blks_sizes l n hl)
  rw [blks_length] at h2
  exact (blks_inj _ _ n hl h2 h1).symm
theorem many_pos (n : Nat) : 1 ≤ many n := by unfold many; omega
theorem rd_blks0 (l : List UInt8) (n : Nat) (hn : 1 ≤ n) : rdOf ByteArray.empty (blks l n) 0 = blk l 0 := by
  have h := rd_get (blks l n) 0 (by rw [blks_length]; omega)
  rw [show ((0 : Nat) : Int) = 0 from rfl] at h
  rw [h]
  simp [blks]
theorem headR_full (l : List UInt8) (mark : Bool) (h : l.length ≤ 40000) : headR (blk (full l mark) 0) = (if mark then (true, (l.length : Int), 0) else (false, 0, 0)) := by
  have hf := full_length l mark
  have hm := many_pos l.length
  have hs := blk_size (full l mark) 0 _ hf (by omega)
  have b0 : bt (blk (full l mark) 0) 0 = (((if mark then 1 else 0 : UInt8)).toNat : Int) := blk0_bt _ 0 (by omega) (by omega)
  have b1 : bt (blk (full l mark) 0) 1 = ((UInt8.ofNat (l.length / 256)).toNat : Int) := blk0_bt _ 1 (by omega) (by omega)
  have b2 : bt (blk (full l mark) 0) 2 = ((UInt8.ofNat l.length).toNat : Int) := blk0_bt _ 2 (by omega) (by omega)
  unfold headR
  rw [b0, b1, b2]
  cases mark
  · rw [if_neg (by rw [hs]; simp), if_pos (by rfl), if_neg (by decide)]
  · have e : ((UInt8.ofNat (l.length / 256)).toNat : Int) * 256 + ((UInt8.ofNat l.length).toNat : Int) = (l.length : Int) := by
      simp only [UInt8.toNat_ofNat']
      omega
    rw [e, if_neg (by rw [hs]; simp), if_neg (by decide), if_neg (by omega), if_pos rfl]
theorem any_blks (l : List UInt8) (n : Nat) (hl : l.length = 64 * n) : ¬ (blks l n).any (fun b => b.size != 64) = true := by
  intro h
  obtain ⟨x, hx, hs⟩ := List.any_eq_true.1 h
  obtain ⟨j, hj, rfl⟩ := List.mem_iff_getElem.1 hx
  have := blks_sizes l n hl j hj
  rw [this] at hs
  exact absurd hs (by decide)
theorem joinR_true (l : List UInt8) (h : l.length ≤ 40000) : joinR (blks (full l true) (many l.length)) = (B l, 0) := by
  have hf := full_length l true
  have hm := many_pos l.length
  have hp := pad_eq l.length
  unfold joinR
  rw [if_neg (fun c => c.elim (any_blks _ _ hf) (by rw [blks_length]; omega)), rd_blks0 _ _ hm, headR_full l true h, if_pos rfl, if_neg (fun c => c rfl)]
  have e : ((true, (l.length : Int), (0 : Int)) : Bool × Int × Int).2.1.toNat = l.length := Int.toNat_natCast _
  rw [e, if_pos ⟨rfl, blks_length _ _⟩]
  unfold toldN
  rw [flat_blks_eq _ _ hf]
  have ht : ((full l true).drop 7).take l.length = l := by
    unfold full
    rw [List.append_assoc, List.drop_left' (hdr_length l true), List.take_left]
  rw [ht, if_pos rfl]
theorem joinR_false (l : List UInt8) (h : l.length ≤ 40000) : joinR (blks (full l false) (many l.length)) = ((⟨#[]⟩ : ByteArray), 2) := by
  have hf := full_length l false
  have hm := many_pos l.length
  unfold joinR
  rw [if_neg (fun c => c.elim (any_blks _ _ hf) (by rw [blks_length]; omega)), rd_blks0 _ _ hm, headR_full l false h, if_neg (show ¬ (false = true) by decide), if_neg (fun c => c rfl), if_neg (fun c => absurd c.1 (by decide))]
theorem joinR_nil : joinR [] = ((⟨#[]⟩ : ByteArray), 2) := by unfold joinR; rw [if_pos (.inr rfl)]
theorem join_g (l : List ByteArray) (hl : l.length ≤ 10000) : Ev (fun k => record_Join.f k l) (joinR l) := (join_ev l hl).1
/-! ### awake -/
theorem awake_ev : Ev (fun k => quitrentlaw06_awake.f k) true := by
  have hm : many ([97, 98] : List UInt8).length = 1 := rfl
  obtain ⟨K1, k1⟩ := lay_ev [97, 98] true (by decide)
  obtain ⟨K2, k2⟩ := lay_ev [97, 98] false (by decide)
  have hj1 := joinR_true [97, 98] (by decide)
  rw [hm] at k1 k2 hj1
  have f1 := full_length [97, 98] true
  have f2 := full_length [97, 98] false
  rw [hm] at f1 f2
  have r1 := rd_blks0 (full [97, 98] true) 1 (by omega)
  have r2 := rd_blks0 (full [97, 98] false) 1 (by omega)
  have s1 := blk_size (full [97, 98] true) 0 1 f1 (by omega)
  have s2 := blk_size (full [97, 98] false) 0 1 f2 (by omega)
  obtain ⟨K3, k3⟩ := (head_ev (blk (full [97, 98] true) 0)).1
  obtain ⟨K4, k4⟩ := (head_ev (blk (full [97, 98] false) 0)).1
  have h1 := headR_full [97, 98] true (by decide)
  have h2 := headR_full [97, 98] false (by decide)
  obtain ⟨K5, k5⟩ := join_g (blks (full [97, 98] true) 1) (by rw [blks_length]; omega)
  obtain ⟨K6, k6⟩ := join_g [] (by decide)
  rw [hj1] at k5
  rw [joinR_nil] at k6
  rw [h1, if_pos rfl] at k3
  rw [h2, if_neg (by decide)] at k4
  have hc : record_Check.f (⟨#[49, 50, 51, 52, 53, 54, 55, 56, 57]⟩ : ByteArray) = some 3421780262 := by
    have := check_eq (B [49, 50, 51, 52, 53, 54, 55, 56, 57]) (by decide)
    rw [B_data] at this
    have e : crc [49, 50, 51, 52, 53, 54, 55, 56, 57] = 3421780262 := by decide +kernel
    rw [e] at this
    exact this
  have b57 := blocks_eq 57
  have b58 := blocks_eq 58
  have l1 := blks_length (full [97, 98] true) 1
  have l2 := blks_length (full [97, 98] false) 1
  generalize blks (full [97, 98] true) 1 = T1 at *
  generalize blks (full [97, 98] false) 1 = T2 at *
  generalize blk (full [97, 98] true) 0 = t1 at *
  generalize blk (full [97, 98] false) 0 = t2 at *
  refine ⟨K1 + K2 + K3 + K4 + K5 + K6 + 1, fun k hk => ?_⟩
  have a1 := k1 k (by omega)
  have a2 := k2 k (by omega)
  show quitrentlaw06_awake.f k = _
  unfold quitrentlaw06_awake.f
  simp only at a1 a2
  rw [show (⟨#[97, 98]⟩ : ByteArray) = B [97, 98] from rfl, a1, Option.bind_some, a2, Option.bind_some]
  dsimp only
  rw [if_pos (by omega), if_pos (by omega), if_pos (by omega), r1, if_pos (by omega), if_pos (by omega), r2]
  obtain ⟨k, rfl⟩ : ∃ m, k = m + 1 := ⟨k - 1, by omega⟩
  have a3 := k3 k (by omega)
  have a4 := k4 k (by omega)
  have a5 := k5 k (by omega)
  have a6 := k6 k (by omega)
  simp only at a3 a4 a5 a6
  simp only [quitrentlaw06_awake.j0]
  have hb : (((t2.size : Nat) : Int) != 64) = false := bne_eq_false_iff_eq.mpr (by omega)
  rw [hb, if_neg (by decide), if_pos (by omega), r1, a3, Option.bind_some, if_pos (by omega), r2, a4, Option.bind_some, a5, Option.bind_some, a6, Option.bind_some, hc, Option.bind_some, b57, b58]
  dsimp only
  rw [B_toList]
  simp

end Go.Proofs.YtnfeknaeikpdmaaDoor.PR
