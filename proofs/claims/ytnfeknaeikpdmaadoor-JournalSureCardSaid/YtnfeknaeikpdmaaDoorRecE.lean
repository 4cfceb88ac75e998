import Derived.Test.YtnfeknaeikpdmaaDoorRecD
import Derived.Test.YtnfeknaeikpdmaaDoorPR5
namespace Go.Proofs.YtnfeknaeikpdmaaDoor.PR
open Crc Go.RowKit Go.Proofs.YtnfeknaeikpdmaaDoorW.PrintWords Go.Proofs.YtnfeknaeikpdmaaDoorW.PrintLast Go.Proofs.YtnfeknaeikpdmaaDoorW.PrintMore
set_option linter.unusedVariables false
set_option linter.unusedSimpArgs false
/-! ### joined -/
def flat (l : List ByteArray) : List UInt8 := (l.map (·.data.toList)).flatten
theorem join_flat (xs : List (List UInt8)) : Lib.join xs [] = xs.flatten := by
  cases xs with
  | nil => rfl
  | cons x r => rw [Lib.join_cons]; simp [Lib.joinTail]
theorem strJoin_eq (l : List ByteArray) (h1 : l.length ≤ 1000000) (h2 : (flat l).length ≤ 1000000) : strings_Join.f l (⟨#[]⟩ : ByteArray) = some (B (flat l)) := by
  have e : Hook.joined l (⟨#[]⟩ : ByteArray) = B (flat l) := by
    show (⟨(Lib.join (l.map (·.data.toList)) []).toArray⟩ : ByteArray) = _
    rw [join_flat]; rfl
  show Hook.joinF l _ = _
  unfold Hook.joinF
  rw [e, if_pos ⟨by omega, by rw [B_size]; omega⟩]
theorem flat_snoc (l : List ByteArray) (x : ByteArray) : flat (l ++ [x]) = flat l ++ x.data.toList := by simp [flat]
theorem flat_length (l : List ByteArray) (h : ∀ j (hj : j < l.length), l[j].size = 64) : (flat l).length = 64 * l.length := by
  induction l with
  | nil => rfl
  | cons x l ih =>
    have hx : x.size = 64 := h 0 (by simp)
    have := ih (fun j hj => h (j + 1) (Nat.succ_lt_succ hj))
    simp only [flat, List.map_cons, List.flatten_cons, List.length_append, List.length_cons] at this ⊢
    rw [B_len, hx, this]; omega
theorem flat_blk (l : List ByteArray) (h : ∀ j (hj : j < l.length), l[j].size = 64) (i : Nat) (hi : i < l.length) : blk (flat l) i = l[i] := by
  induction l generalizing i with
  | nil => simp at hi
  | cons x l ih =>
    have hx : x.data.toList.length = 64 := by rw [B_len]; exact h 0 (by simp)
    have hf : flat (x :: l) = x.data.toList ++ flat l := by simp [flat]
    unfold blk
    rw [hf]
    cases i with
    | zero =>
      rw [Nat.mul_zero, List.drop_zero, ← hx, List.take_left, B_eta]; rfl
    | succ i =>
      rw [show 64 * (i + 1) = x.data.toList.length + 64 * i by omega, List.drop_append, List.drop_of_length_le (by omega), show x.data.toList.length + 64 * i - x.data.toList.length = 64 * i by omega, List.nil_append]
      have := ih (fun j hj => h (j + 1) (Nat.succ_lt_succ hj)) i (by simpa using hi)
      unfold blk at this
      rw [this]; rfl
theorem flat_blks (l : List ByteArray) (h : ∀ j (hj : j < l.length), l[j].size = 64) : l = blks (flat l) l.length := by
  apply List.ext_getElem
  · rw [blks_length]
  · intro i h1 h2
    have : (blks (flat l) l.length)[i] = blk (flat l) i := by simp [blks]
    rw [this, flat_blk l h i h1]
theorem blks_inj (a b : List UInt8) (n : Nat) (ha : a.length = 64 * n) (hb : b.length = 64 * n) (h : blks a n = blks b n) : a = b := by
  apply List.ext_getElem (by omega)
  intro j h1 h2
  have hi : j / 64 < n := by omega
  have e : ∀ c : List UInt8, (blks c n)[j / 64]? = some (blk c (j / 64)) := by intro c; simp [blks, hi]
  have h3 : blk a (j / 64) = blk b (j / 64) := by
    have := e a
    rw [h, e b] at this
    exact (Option.some.inj this).symm
  have h4 := B_inj h3
  have h5 := congrArg (·[j % 64]?) h4
  have hm : j % 64 < 64 := Nat.mod_lt _ (by decide)
  simp only [List.getElem?_take, hm, if_true, List.getElem?_drop] at h5
  rw [show 64 * (j / 64) + j % 64 = j by omega, List.getElem?_eq_getElem h1, List.getElem?_eq_getElem h2] at h5
  exact Option.some.inj h5
theorem rd_get (l : List ByteArray) (i : Nat) (h : i < l.length) : rdOf ByteArray.empty l (i : Int) = l[i] := by simp [rdOf, List.getD_eq_getElem?_getD, List.getElem?_eq_getElem h]
theorem refJoin_l0 (l : List ByteArray) (hl : l.length ≤ 10000) (m : Nat) (hm : m ≤ l.length) (h : ∀ j (hj : j < m), (l[j]'(by omega)).size = 64) (q : ByteArray × Int) (d : Nat) : ∀ i, i + d = m →
    Ev (fun k => quitrentref06_Join.l0 k l (B (flat (l.take m))) ((m : Nat) : Int)) q → Ev (fun k => quitrentref06_Join.l0 k l (B (flat (l.take i))) ((i : Nat) : Int)) q := by
  induction d with
  | zero => intro i hi hq; have : i = m := by omega
            subst this; exact hq
  | succ d ih =>
    intro i hi hq
    have hi2 : i < l.length := by omega
    have h1 := ih (i + 1) (by omega) hq
    have hs := h i (by omega)
    have hf : (flat (l.take i)).length = 64 * i := by
      rw [flat_length (l.take i) (fun j hj => by
        have hj' : j < i := by simp at hj; omega
        simpa using h j (by omega))]
      simp; omega
    refine Ev.step (f := fun k => quitrentref06_Join.l0 k l (B (flat (l.take (i + 1)))) (((i + 1 : Nat)) : Int)) (fun k => ?_) h1
    simp only [quitrentref06_Join.l0]
    have e1 : wrap64 ((i : Int) + 1) = ((i + 1 : Nat) : Int) := by unfold wrap64; omega
    rw [if_pos (by omega), if_pos (by omega), rd_get l i hi2, if_pos (by omega), if_pos (by rw [B_size, hf, hs]; omega), e1]
    congr 1
    rw [List.take_succ_eq_append_getElem hi2, flat_snoc, ← B_append, B_eta]
theorem refJoin_l1 (l : List ByteArray) (s : ByteArray) (n : Int) (want : List ByteArray) (hl : l.length ≤ 10000) (hw : want.length = l.length) (g1 : 0 ≤ n) (g2 : n ≤ 100000) (g3 : 7 + n ≤ s.size) (d : Nat) : ∀ (k i : Nat), i + d = l.length → d < k → (∀ j (hj : j < i) (hj2 : j < l.length), l[j] = want[j]'(by omega)) →
    quitrentref06_Join.l1 k l s n want (i : Int) = some (if l = want then (s.extract 7 (7 + n).toNat, 0) else ((⟨#[]⟩ : ByteArray), 8)) := by
  have w7 : wrap64 (7 + n) = 7 + n := by unfold wrap64; omega
  induction d with
  | zero =>
    intro k i hi hk hall
    obtain ⟨k, rfl⟩ : ∃ m, k = m + 1 := ⟨k - 1, by omega⟩
    have he : l = want := List.ext_getElem (by omega) (fun j h1 h2 => hall j (by omega) h1)
    simp only [quitrentref06_Join.l1]
    rw [if_neg (by omega), w7, if_pos (by omega), if_pos (by omega), if_pos he]
  | succ d ih =>
    intro k i hi hk hall
    obtain ⟨k, rfl⟩ : ∃ m, k = m + 1 := ⟨k - 1, by omega⟩
    have hi2 : i < l.length := by omega
    have e1 : wrap64 ((i : Int) + 1) = ((i + 1 : Nat) : Int) := by unfold wrap64; omega
    simp only [quitrentref06_Join.l1]
    rw [if_pos (by omega), if_pos (by omega), if_pos (by omega), rd_get l i hi2, rd_get want i (by omega), e1]
    by_cases hq : l[i] = want[i]'(by omega)
    · rw [if_pos (by rw [hq])]
      refine ih k (i + 1) (by omega) (by omega) (fun j hj hj2 => ?_)
      rcases Nat.lt_or_ge j i with h1 | h1
      · exact hall j h1 hj2
      · have : j = i := by omega
        subst this; exact hq
    · have hne : ¬ l = want := by
        intro e
        apply hq
        subst e
        rfl
      rw [if_neg (by
        intro e
        apply hq
        rw [toList_data, toList_data] at e
        rw [← B_eta l[i], e, B_eta]), if_neg hne]
theorem sum4_B (a0 a1 a2 a3 a4 a5 a6 : UInt8) (R : List UInt8) : sum4 (B (a0 :: a1 :: a2 :: a3 :: a4 :: a5 :: a6 :: R)) = (((((a3.toNat * 256 + a4.toNat) * 256 + a5.toNat) * 256 + a6.toNat : Nat)) : Int) := by
  have b3 : bt (B (a0 :: a1 :: a2 :: a3 :: a4 :: a5 :: a6 :: R)) 3 = (a3.toNat : Int) := bt_B _ 3 (by simp)
  have b4 : bt (B (a0 :: a1 :: a2 :: a3 :: a4 :: a5 :: a6 :: R)) 4 = (a4.toNat : Int) := bt_B _ 4 (by simp)
  have b5 : bt (B (a0 :: a1 :: a2 :: a3 :: a4 :: a5 :: a6 :: R)) 5 = (a5.toNat : Int) := bt_B _ 5 (by simp)
  have b6 : bt (B (a0 :: a1 :: a2 :: a3 :: a4 :: a5 :: a6 :: R)) 6 = (a6.toNat : Int) := bt_B _ 6 (by simp)
  have h3 := a3.toNat_lt
  have h4 := a4.toNat_lt
  have h5 := a5.toNat_lt
  have h6 := a6.toNat_lt
  unfold sum4
  rw [b3, b4, b5, b6]
  have s0 : sumStep 0 (a3.toNat : Int) = ((a3.toNat : Nat) : Int) := by
    have := u32_join 0 a3.toNat (by omega) (by omega)
    rw [Nat.zero_mul, Nat.zero_add] at this
    exact this
  rw [s0]
  unfold sumStep
  rw [u32_join _ _ (by omega) (by omega), u32_join _ _ (by omega) (by omega), u32_join _ _ (by omega) (by omega)]

end Go.Proofs.YtnfeknaeikpdmaaDoor.PR
