import Derived.Test.YtnfeknaeikpdmaaDoorJM1
import Derived.Test.YtnfeknaeikpdmaaDoorRecH
namespace Go.Proofs.YtnfeknaeikpdmaaDoor.PR
open Go.RowKit Go.Proofs.YtnfeknaeikpdmaaDoorW.PrintWords Go.Proofs.YtnfeknaeikpdmaaDoorW.PrintLast Go.Proofs.YtnfeknaeikpdmaaDoorW.PrintMore
attribute [local go_sem] max2_int min2_int max_two min_two max_three min_three max_four min_four
set_option linter.unusedVariables false
set_option linter.unusedSimpArgs false
/-! ### what lies where, in plain lists -/
theorem patch_get (F : List UInt8) (a : Nat) (l : List UInt8) (ha : a + l.length ≤ F.length) (m : Nat) : (patch F a l)[m]? = if m < a then F[m]? else if m < a + l.length then l[m - a]? else F[m]? := by
  unfold patch
  have h1 : (F.take a).length = a := by rw [List.length_take]; omega
  by_cases c1 : m < a
  · rw [if_pos c1, List.append_assoc, List.getElem?_append_left (by omega), List.getElem?_take_of_lt c1]
  · rw [if_neg c1, List.append_assoc, List.getElem?_append_right (by omega), h1]
    by_cases c2 : m < a + l.length
    · rw [if_pos c2, List.getElem?_append_left (by omega)]
    · rw [if_neg c2, List.getElem?_append_right (by omega), List.getElem?_drop]
      congr 1
      omega
theorem patch_nil (F : List UInt8) (a : Nat) : patch F a [] = F := by
  unfold patch
  simp
theorem blk_get (F : List UInt8) (i m : Nat) : ((F.drop (64 * i)).take 64)[m]? = if m < 64 then F[64 * i + m]? else none := by
  rw [List.getElem?_take]
  by_cases c : m < 64
  · rw [if_pos c, if_pos c, List.getElem?_drop]
  · rw [if_neg c, if_neg c]
theorem blk_patch_other (F : List UInt8) (n i : Nat) (l : List UInt8) (hF : F.length = 64 * n) (hi : i < n) (hl : l.length ≤ 64) (k : Nat) (hk : k ≠ i) : blk (patch F (64 * i) l) k = blk F k := by
  unfold blk
  congr 1
  apply List.ext_getElem?
  intro m
  rw [blk_get, blk_get]
  by_cases c : m < 64
  · rw [if_pos c, if_pos c, patch_get F _ l (by omega)]
    by_cases c1 : 64 * k + m < 64 * i
    · rw [if_pos c1]
    · rw [if_neg c1, if_neg (by omega)]
  · rw [if_neg c, if_neg c]
theorem blk_patch_same (F : List UInt8) (n i : Nat) (l : List UInt8) (hF : F.length = 64 * n) (hi : i < n) (hl : l.length ≤ 64) : blk (patch F (64 * i) l) i = B (l ++ ((blk F i).data.toList.drop l.length)) := by
  unfold blk
  rw [B_data]
  congr 1
  apply List.ext_getElem?
  intro m
  rw [blk_get]
  by_cases c1 : m < l.length
  · rw [if_pos (by omega), patch_get F _ l (by omega), if_neg (by omega), if_pos (by omega), List.getElem?_append_left c1]
    congr 1; omega
  · rw [List.getElem?_append_right (by omega), List.getElem?_drop, blk_get]
    by_cases c : m < 64
    · rw [if_pos c, if_pos (by omega), patch_get F _ l (by omega), if_neg (by omega), if_neg (by omega)]
      congr 1; omega
    · rw [if_neg c, if_neg (by omega)]
theorem blk_data_length (F : List UInt8) (n i : Nat) (hF : F.length = 64 * n) (hi : i < n) : (blk F i).data.toList.length = 64 := by
  rw [B_len]; exact blk_size F i n hF hi
theorem blk_patch_full (F : List UInt8) (n i : Nat) (b : ByteArray) (hF : F.length = 64 * n) (hi : i < n) (hb : b.size = 64) : blk (patch F (64 * i) b.data.toList) i = b := by
  rw [blk_patch_same F n i _ hF hi (by rw [B_len]; omega), List.drop_of_length_le (by rw [blk_data_length F n i hF hi, B_len]; omega), List.append_nil, B_eta]
theorem clamp_le (t : Int) : clamp t ≤ 64 := by
  unfold clamp
  by_cases c1 : t < 0
  · rw [if_pos c1]; omega
  · rw [if_neg c1]
    by_cases c2 : 64 < t
    · rw [if_pos c2]; omega
    · rw [if_neg c2]; omega
/-- A write of a block: some of its bytes go over; all of them where it answers 0. -/
theorem write_spec (s : Sto) (i : Nat) (b : ByteArray) (hi : i < s.n) (hb : b.size = 64) :
    (s.write i b).1.n = s.n ∧ ∃ t, t ≤ 64 ∧ (s.write i b).1.F = patch s.F (64 * i) (b.data.toList.take t) ∧ ((s.write i b).2 = 0 ∧ t = 64 ∨ (s.write i b).2 = 9) := by
  have c0 : ¬ (¬ (0 ≤ (i : Int) ∧ (i : Int) < s.n) ∨ b.size ≠ 64) := by omega
  unfold Sto.write
  rw [if_neg c0]
  by_cases c1 : s.down = true
  · rw [if_pos c1]
    exact ⟨rfl, 0, by omega, by rw [List.take_zero, patch_nil], .inr rfl⟩
  · rw [if_neg c1]
    by_cases c2 : s.left = 0
    · rw [if_pos c2]
      exact ⟨rfl, clamp s.torn, clamp_le _, rfl, .inr rfl⟩
    · rw [if_neg c2]
      refine ⟨rfl, 64, by omega, ?_, .inl ⟨rfl, rfl⟩⟩
      rw [List.take_of_length_le (by rw [B_len]; omega)]
      rfl
theorem patch_take_length (F : List UInt8) (n i t : Nat) (b : ByteArray) (hF : F.length = 64 * n) (hi : i < n) (hb : b.size = 64) : (patch F (64 * i) (b.data.toList.take t)).length = 64 * n := by
  rw [patch_length _ _ _ (by rw [List.length_take, B_len]; omega), hF]
/-- What holds, whatever part of each write goes over, holds behind all. -/
theorem runSteps_inv (n : Nat) (I : List UInt8 → Prop) : ∀ (xs : List (Int × ByteArray)) (s : Sto), s.n = n → s.F.length = 64 * n → I s.F →
    (∀ x ∈ xs, ∃ i : Nat, x.1 = (i : Int) ∧ i < n ∧ x.2.size = 64 ∧ ∀ F t, F.length = 64 * n → I F → I (patch F (64 * i) (x.2.data.toList.take t))) →
    (runSteps s xs).1.n = n ∧ (runSteps s xs).1.F.length = 64 * n ∧ I (runSteps s xs).1.F ∧ ((runSteps s xs).2 = 0 ∨ (runSteps s xs).2 = 9) := by
  intro xs
  induction xs with
  | nil => intro s hn hl hI _; exact ⟨hn, hl, hI, .inl rfl⟩
  | cons x r ih =>
    intro s hn hl hI hx
    obtain ⟨i, e, hi, hb, hP⟩ := hx x List.mem_cons_self
    obtain ⟨h1, t, ht, hF, h2⟩ := write_spec s i x.2 (by omega) hb
    rw [← e] at h1 hF h2
    have hl1 : (s.write x.1 x.2).1.F.length = 64 * n := by rw [hF]; exact patch_take_length _ _ _ _ _ hl hi hb
    have hI1 : I (s.write x.1 x.2).1.F := by rw [hF]; exact hP _ _ hl hI
    unfold runSteps
    by_cases c : (s.write x.1 x.2).2 = 0
    · rw [if_pos c]
      exact ih _ (h1.trans hn) hl1 hI1 (fun y hy => hx y (List.mem_cons_of_mem _ hy))
    · rw [if_neg c]
      exact ⟨h1.trans hn, hl1, hI1, h2.elim (fun h => absurd h.1 c) .inr⟩
theorem runSteps_cons (s : Sto) (x : Int × ByteArray) (r : List (Int × ByteArray)) : runSteps s (x :: r) = if (s.write x.1 x.2).2 = 0 then runSteps (s.write x.1 x.2).1 r else s.write x.1 x.2 := rfl
theorem runSteps_append (xs ys : List (Int × ByteArray)) : ∀ s, runSteps s (xs ++ ys) = if (runSteps s xs).2 = 0 then runSteps (runSteps s xs).1 ys else runSteps s xs := by
  induction xs with
  | nil => intro s; exact (if_pos rfl).symm
  | cons x r ih =>
    intro s
    rw [List.cons_append, runSteps_cons, runSteps_cons]
    by_cases c : (s.write x.1 x.2).2 = 0
    · rw [if_pos c, if_pos c]; exact ih _
    · rw [if_neg c, if_neg c, if_neg c]
/-- The blocks behind writes that were all fine. -/
def applyW (C : Nat → ByteArray) : List (Int × ByteArray) → Nat → ByteArray
  | [] => C
  | x :: r => applyW (fun k => if (k : Int) = x.1 then x.2 else C k) r
theorem applyW_append (xs ys : List (Int × ByteArray)) : ∀ C, applyW C (xs ++ ys) = applyW (applyW C xs) ys := by
  induction xs with
  | nil => intro C; rfl
  | cons x r ih => intro C; exact ih _
theorem applyW_congr (xs : List (Int × ByteArray)) (n : Nat) : ∀ (C C' : Nat → ByteArray), (∀ k, k < n → C k = C' k) → ∀ k, k < n → applyW C xs k = applyW C' xs k := by
  induction xs with
  | nil => intro C C' h k hk; exact h k hk
  | cons x r ih =>
    intro C C' h k hk
    refine ih _ _ ?_ k hk
    intro m hm
    show (if (m : Int) = x.1 then x.2 else C m) = (if (m : Int) = x.1 then x.2 else C' m)
    rw [h m hm]
theorem runSteps_exact (n : Nat) : ∀ (xs : List (Int × ByteArray)) (s : Sto), s.n = n → s.F.length = 64 * n →
    (∀ x ∈ xs, ∃ i : Nat, x.1 = (i : Int) ∧ i < n ∧ x.2.size = 64) → (runSteps s xs).2 = 0 → ∀ k, k < n → blk (runSteps s xs).1.F k = applyW (blk s.F) xs k := by
  intro xs
  induction xs with
  | nil => intro s _ _ _ _ k _; rfl
  | cons x r ih =>
    intro s hn hl hx h0 k hk
    obtain ⟨i, e, hi, hb⟩ := hx x List.mem_cons_self
    obtain ⟨h1, t, ht, hF, h2⟩ := write_spec s i x.2 (by omega) hb
    rw [← e] at h1 hF h2
    unfold runSteps at h0 ⊢
    by_cases c : (s.write x.1 x.2).2 = 0
    · rw [if_pos c] at h0 ⊢
      have ht64 : t = 64 := by
        rcases h2 with h2 | h2
        · exact h2.2
        · rw [c] at h2; cases h2
      have hl1 : (s.write x.1 x.2).1.F.length = 64 * n := by rw [hF]; exact patch_take_length _ _ _ _ _ hl hi hb
      rw [ih _ (h1.trans hn) hl1 (fun y hy => hx y (List.mem_cons_of_mem _ hy)) h0 k hk]
      refine applyW_congr r n _ _ ?_ k hk
      intro m hm
      rw [hF, ht64, List.take_of_length_le (by rw [B_len]; omega)]
      by_cases cm : m = i
      · rw [cm, if_pos e.symm, blk_patch_full s.F n i x.2 hl hi hb]
      · rw [if_neg (by omega), blk_patch_other s.F n i _ hl hi (by rw [B_len]; omega) m cm]
    · rw [if_neg c] at h0
      exact absurd h0 c
/-! #### a record's steps -/
def lay (b : ByteArray) (m : Bool) : List ByteArray := blks (full b.data.toList m) (many b.size)
theorem lay_length (b : ByteArray) (m : Bool) : (lay b m).length = many b.size := blks_length _ _
theorem full_len (b : ByteArray) (m : Bool) : (full b.data.toList m).length = 64 * many b.size := by rw [full_length, B_len]
theorem full_two (b : List UInt8) : ∃ R, ∀ m, full b m = (if m then 1 else 0) :: R := ⟨_, fun m => rfl⟩
theorem blk_two (b : ByteArray) (t : Nat) (ht : 1 ≤ t) : blk (full b.data.toList true) t = blk (full b.data.toList false) t := by
  obtain ⟨R, hR⟩ := full_two b.data.toList
  rw [hR true, hR false]
  unfold blk
  obtain ⟨d, hd⟩ : ∃ d, 64 * t = d + 1 := ⟨64 * t - 1, by omega⟩
  rw [hd, List.drop_succ_cons, List.drop_succ_cons]
def behindB (s : Sto) (i n : Nat) : Bool := decide (i < n) && ((blk s.F i).toList != zeroB.toList)
def behindStep (s : Sto) (i n : Nat) : List (Int × ByteArray) := if behindB s i n = true then [((i : Int), zeroB)] else []
def midSteps (at_ : Nat) (L : List ByteArray) (i : Nat) : List (Int × ByteArray) := ((List.range i).drop 1).map (fun t => (((at_ + t : Nat) : Int), L.getD t ByteArray.empty))
theorem midSteps_succ (at_ : Nat) (L : List ByteArray) (i : Nat) (h : 1 ≤ i) : midSteps at_ L (i + 1) = midSteps at_ L i ++ [(((at_ + i : Nat) : Int), L.getD i ByteArray.empty)] := by
  unfold midSteps
  rw [List.range_succ, List.drop_append_of_le_length (by simp; exact h), List.map_append]
  rfl
theorem midSteps_one (at_ : Nat) (L : List ByteArray) : midSteps at_ L 1 = [] := rfl
theorem lay_getD (b : ByteArray) (m : Bool) (t : Nat) (ht : t < many b.size) : (lay b m).getD t ByteArray.empty = blk (full b.data.toList m) t := by
  unfold lay blks
  rw [List.getD_eq_getElem?_getD, List.getElem?_map, List.getElem?_range ht]
  rfl
theorem midSteps_mem (at_ : Nat) (b : ByteArray) (i : Nat) (hi : i ≤ many b.size) : ∀ x ∈ midSteps at_ (lay b false) i, ∃ t, 1 ≤ t ∧ t < i ∧ x.1 = ((at_ + t : Nat) : Int) ∧ x.2 = blk (full b.data.toList false) t := by
  intro x hx
  unfold midSteps at hx
  obtain ⟨t, ht, rfl⟩ := List.mem_map.1 hx
  obtain ⟨j, hj, e⟩ := List.mem_iff_getElem.1 ht
  rw [List.length_drop, List.length_range] at hj
  rw [List.getElem_drop, List.getElem_range] at e
  exact ⟨t, by omega, by omega, rfl, lay_getD b false t (by omega)⟩
theorem applyW_mid (C : Nat → ByteArray) (at_ : Nat) (b : ByteArray) : ∀ i, 1 ≤ i → i ≤ many b.size → ∀ k, applyW C (midSteps at_ (lay b false) i) k = if at_ < k ∧ k < at_ + i then blk (full b.data.toList false) (k - at_) else C k := by
  intro i
  induction i with
  | zero => intro h; omega
  | succ i ih =>
    intro h1 h2 k
    by_cases c : i = 0
    · subst c
      rw [midSteps_one, if_neg (by omega)]
      rfl
    · rw [midSteps_succ _ _ _ (by omega), applyW_append]
      show (if (k : Int) = ((at_ + i : Nat) : Int) then (lay b false).getD i ByteArray.empty else applyW C (midSteps at_ (lay b false) i) k) = _
      by_cases ck : k = at_ + i
      · subst ck
        rw [if_pos rfl, if_pos (by omega), lay_getD b false i (by omega)]
        congr 1; omega
      · rw [if_neg (by omega), ih (by omega) (by omega) k]
        by_cases cc : at_ < k ∧ k < at_ + i
        · rw [if_pos cc, if_pos (by omega)]
        · rw [if_neg cc, if_neg (by omega)]
def preSteps (s : Sto) (b : ByteArray) (at_ end_ : Nat) : List (Int × ByteArray) := behindStep s (at_ + many b.size) end_ ++ midSteps at_ (lay b false) (many b.size) ++ [((at_ : Int), blk (full b.data.toList false) 0)]
def laySteps (s : Sto) (b : ByteArray) (at_ end_ : Nat) : List (Int × ByteArray) := preSteps s b at_ end_ ++ [((at_ : Int), blk (full b.data.toList true) 0)]
theorem full_blk_size (b : ByteArray) (m : Bool) (t : Nat) (ht : t < many b.size) : (blk (full b.data.toList m) t).size = 64 := blk_size _ _ _ (full_len b m) ht
/-- The steps ahead of the last: where they write, and what. -/
theorem preSteps_mem (s : Sto) (b : ByteArray) (at_ end_ : Nat) (he : at_ + many b.size ≤ end_) : ∀ x ∈ preSteps s b at_ end_, ∃ i : Nat, x.1 = (i : Int) ∧ at_ ≤ i ∧ i < end_ ∧ x.2.size = 64 ∧ (i = at_ → x.2 = blk (full b.data.toList false) 0) := by
  have hp := many_pos b.size
  intro x hx
  unfold preSteps at hx
  rcases List.mem_append.1 hx with hx | hx
  · rcases List.mem_append.1 hx with hx | hx
    · unfold behindStep at hx
      by_cases c : behindB s (at_ + many b.size) end_ = true
      · rw [if_pos c] at hx
        obtain rfl := List.mem_singleton.1 hx
        unfold behindB at c
        have c1 := of_decide_eq_true (Bool.and_eq_true_iff.1 c).1
        exact ⟨_, rfl, by omega, by omega, zeroB_size, fun h => by omega⟩
      · rw [if_neg c] at hx; cases hx
    · obtain ⟨t, h1, h2, h3, h4⟩ := midSteps_mem at_ b _ (Nat.le_refl _) x hx
      exact ⟨_, h3, by omega, by omega, by rw [h4]; exact full_blk_size b false t h2, fun h => by omega⟩
  · obtain rfl := List.mem_singleton.1 hx
    exact ⟨_, rfl, by omega, by omega, full_blk_size b false 0 hp, fun _ => rfl⟩
theorem toList_eq_iff (a b : ByteArray) (h : a.toList = b.toList) : a = b := by
  rw [toList_data, toList_data] at h
  rw [← B_eta a, ← B_eta b, h]
/-- The blocks behind them, where all were fine. -/
theorem preSteps_exact (s : Sto) (b : ByteArray) (at_ end_ : Nat) (k : Nat) : applyW (blk s.F) (preSteps s b at_ end_) k = if k = at_ then blk (full b.data.toList false) 0 else if at_ < k ∧ k < at_ + many b.size then blk (full b.data.toList false) (k - at_) else if k = at_ + many b.size ∧ k < end_ then zeroB else blk s.F k := by
  have hp := many_pos b.size
  unfold preSteps
  rw [applyW_append, applyW_append]
  show (if (k : Int) = (at_ : Int) then _ else _) = _
  by_cases c1 : k = at_
  · rw [if_pos (by omega), if_pos c1]
  · rw [if_neg (by omega), if_neg c1, applyW_mid _ _ _ _ hp (Nat.le_refl _)]
    by_cases c2 : at_ < k ∧ k < at_ + many b.size
    · rw [if_pos c2, if_pos c2]
    · rw [if_neg c2, if_neg c2]
      unfold behindStep
      by_cases c : behindB s (at_ + many b.size) end_ = true
      · rw [if_pos c]
        show (if (k : Int) = _ then zeroB else blk s.F k) = _
        unfold behindB at c
        have c3 := of_decide_eq_true (Bool.and_eq_true_iff.1 c).1
        by_cases c4 : k = at_ + many b.size
        · rw [if_pos (by omega), if_pos (by omega)]
        · rw [if_neg (by omega), if_neg (by omega)]
      · rw [if_neg c]
        show blk s.F k = _
        by_cases c4 : k = at_ + many b.size ∧ k < end_
        · rw [if_pos c4]
          unfold behindB at c
          rw [decide_eq_true (by omega : at_ + many b.size < end_), Bool.true_and] at c
          have c5 : (blk s.F (at_ + many b.size)).toList = zeroB.toList := by simpa using c
          rw [c4.1]
          exact toList_eq_iff _ _ c5
        · rw [if_neg c4]
/-! #### what a store holds -/
def fN (n h : Nat) : Nat := 1 + h * ((n - 1) / 2)
def eN (n h : Nat) : Nat := fN n h + (n - 1) / 2
theorem firstOf_nat (n h : Nat) (hn : 1 ≤ n) (hh : h ≤ 1) : firstOf n (h : Int) = (fN n h : Int) := by
  unfold firstOf fN
  rcases (by omega : h = 0 ∨ h = 1) with rfl | rfl
  · simp
  · omega
theorem endOf_nat (n h : Nat) (hn : 1 ≤ n) (hh : h ≤ 1) : endOf n (h : Int) = (eN n h : Int) := by
  unfold endOf eN
  rw [firstOf_nat n h hn hh]
  omega
theorem eN_le (n h : Nat) (hn : 1 ≤ n) (hh : h ≤ 1) : 1 ≤ fN n h ∧ fN n h ≤ eN n h ∧ eN n h ≤ n := by
  unfold eN fN
  rcases (by omega : h = 0 ∨ h = 1) with rfl | rfl <;> omega
def topB (h : Nat) : ByteArray := B (UInt8.ofNat h :: List.replicate 63 0)
theorem topB_size (h : Nat) : (topB h).size = 64 := by unfold topB; rw [B_size]; simp
/-- The records l lie from block at_ on, up to block nx. -/
def recsAt (C : Nat → ByteArray) : Nat → List ByteArray → Nat → Prop
  | at_, [], nx => at_ = nx
  | at_, b :: r, nx => b.size ≤ 40000 ∧ (∀ t, t < many b.size → C (at_ + t) = blk (full b.data.toList true) t) ∧ recsAt C (at_ + many b.size) r nx
theorem recsAt_le (C : Nat → ByteArray) : ∀ l at_ nx, recsAt C at_ l nx → at_ ≤ nx := by
  intro l
  induction l with
  | nil => intro a n h; exact Nat.le_of_eq h
  | cons b r ih => intro a n h; have := ih _ _ h.2.2; omega
theorem recsAt_congr (C C' : Nat → ByteArray) (a : Nat) : ∀ l at_ nx, a ≤ at_ → (∀ k, a ≤ k → k < nx → C' k = C k) → recsAt C at_ l nx → recsAt C' at_ l nx := by
  intro l
  induction l with
  | nil => intro at_ nx _ _ h; exact h
  | cons b r ih =>
    intro at_ nx ha hC h
    have hle := recsAt_le _ _ _ _ h.2.2
    exact ⟨h.1, fun t ht => (hC _ (by omega) (by omega)).trans (h.2.1 t ht), ih _ _ (by omega) hC h.2.2⟩
theorem recsAt_snoc (C : Nat → ByteArray) (b : ByteArray) (hb : b.size ≤ 40000) : ∀ l at_ nx, recsAt C at_ l nx → (∀ t, t < many b.size → C (nx + t) = blk (full b.data.toList true) t) → recsAt C at_ (l ++ [b]) (nx + many b.size) := by
  intro l
  induction l with
  | nil => intro at_ nx h hC; obtain rfl : at_ = nx := h; exact ⟨hb, hC, rfl⟩
  | cons c r ih => intro at_ nx h hC; exact ⟨h.1, h.2.1, ih _ _ h.2.2 hC⟩
/-- A block's first byte is 0. -/
def un (x : ByteArray) : Prop := ∃ R, x.data.toList = (0 : UInt8) :: R
structure Inv (C : Nat → ByteArray) (n h : Nat) (all : List ByteArray) (nx : Nat) : Prop where
  hh : h ≤ 1
  top : C 0 = topB h
  some : all ≠ []
  recs : recsAt C (fN n h) all nx
  le : nx ≤ eN n h
  un : nx < eN n h → un (C nx)
theorem Inv.congr {C C' : Nat → ByteArray} {n h : Nat} {all : List ByteArray} {nx : Nat} (hI : Inv C n h all nx) (h0 : C' 0 = C 0) (hC : ∀ k, fN n h ≤ k → k < nx → C' k = C k) (hu : nx < eN n h → _root_.Go.Proofs.YtnfeknaeikpdmaaDoor.PR.un (C' nx)) : Inv C' n h all nx :=
  ⟨hI.hh, h0.trans hI.top, hI.some, recsAt_congr C C' _ _ _ _ (Nat.le_refl _) hC hI.recs, hI.le, hu⟩

/-! #### Append and Snap: the old or the new, whole -/
theorem un_full (b : ByteArray) : un (blk (full b.data.toList false) 0) := by
  obtain ⟨R, hR⟩ := full_two b.data.toList
  rw [hR false]
  unfold un blk
  rw [B_data]
  exact ⟨_, rfl⟩
theorem un_zero : un zeroB := by
  unfold un zeroB
  rw [B_data]
  exact ⟨_, rfl⟩
theorem un_take (x y : ByteArray) (t : Nat) (hx : un x) (hy : un y) : un (B (x.data.toList.take t ++ y.data.toList.drop t)) := by
  obtain ⟨R, hR⟩ := hx
  obtain ⟨R2, hR2⟩ := hy
  unfold un
  rw [B_data, hR, hR2]
  cases t with
  | zero => exact ⟨_, rfl⟩
  | succ t => exact ⟨_, rfl⟩
/-- Part of a block goes over. -/
theorem blk_patch_take (F : List UInt8) (n i t : Nat) (b : ByteArray) (hF : F.length = 64 * n) (hi : i < n) (hb : b.size = 64) : blk (patch F (64 * i) (b.data.toList.take t)) i = B (b.data.toList.take t ++ (blk F i).data.toList.drop t) := by
  rw [blk_patch_same F n i _ hF hi (by rw [List.length_take, B_len]; omega)]
  congr 2
  rw [List.length_take, B_len, hb]
  by_cases c : t ≤ 64
  · rw [Nat.min_eq_left c]
  · rw [Nat.min_eq_right (by omega), List.drop_of_length_le (by rw [blk_data_length F n i hF hi]; omega), List.drop_of_length_le (by rw [blk_data_length F n i hF hi]; omega)]
theorem blk_patch_take_other (F : List UInt8) (n i t : Nat) (b : ByteArray) (hF : F.length = 64 * n) (hi : i < n) (hb : b.size = 64) (k : Nat) (hk : k ≠ i) : blk (patch F (64 * i) (b.data.toList.take t)) k = blk F k :=
  blk_patch_other F n i _ hF hi (by rw [List.length_take, B_len]; omega) k hk
/-- A write of a block whose first byte alone is another one: it goes over whole, or not at all. -/
theorem two_heads (x y : ByteArray) (a c : UInt8) (R : List UInt8) (hx : x.data.toList = a :: R) (hy : y.data.toList = c :: R) (t : Nat) : B (x.data.toList.take t ++ y.data.toList.drop t) = y ∨ B (x.data.toList.take t ++ y.data.toList.drop t) = x := by
  cases t with
  | zero => left; rw [List.take_zero, List.drop_zero, List.nil_append, B_eta]
  | succ t =>
    right
    rw [hy, hx, List.drop_succ_cons, List.take_succ_cons, List.cons_append, List.take_append_drop, ← hx, B_eta]
theorem blk_heads (b : ByteArray) : ∃ R, (blk (full b.data.toList true) 0).data.toList = 1 :: R ∧ (blk (full b.data.toList false) 0).data.toList = 0 :: R := by
  obtain ⟨R, hR⟩ := full_two b.data.toList
  rw [hR true, hR false]
  unfold blk
  rw [B_data, B_data]
  exact ⟨_, rfl, rfl⟩
/-- One write more, where the steps ahead are fine. -/
theorem runSteps_snoc (s : Sto) (xs : List (Int × ByteArray)) (x : Int × ByteArray) : runSteps s (xs ++ [x]) = if (runSteps s xs).2 = 0 then (runSteps s xs).1.write x.1 x.2 else runSteps s xs := by
  rw [runSteps_append]
  by_cases c : (runSteps s xs).2 = 0
  · rw [if_pos c, if_pos c]
    show (if ((runSteps s xs).1.write x.1 x.2).2 = 0 then (((runSteps s xs).1.write x.1 x.2).1, (0 : Int)) else (runSteps s xs).1.write x.1 x.2) = _
    by_cases c2 : ((runSteps s xs).1.write x.1 x.2).2 = 0
    · rw [if_pos c2, ← c2]
    · rw [if_neg c2]
  · rw [if_neg c, if_neg c]
/-- What laying leaves: old content with the rest of it untouched (A holds), or all is laid. -/
theorem lay_content (s : Sto) (b : ByteArray) (at_ end_ : Nat) (hl : s.F.length = 64 * s.n) (he : at_ + many b.size ≤ end_) (hn : end_ ≤ s.n)
    (A : List UInt8 → Prop) (hA : A s.F) (hP : ∀ (F : List UInt8) (i t : Nat) (x : ByteArray), F.length = 64 * s.n → A F → at_ ≤ i → i < end_ → x.size = 64 → (i = at_ → x = blk (full b.data.toList false) 0) → A (patch F (64 * i) (x.data.toList.take t))) :
    let r := runSteps s (laySteps s b at_ end_)
    r.1.n = s.n ∧ r.1.F.length = 64 * s.n ∧ (r.2 = 0 ∨ r.2 = 9) ∧
      ((r.2 = 9 ∧ A r.1.F) ∨ ∃ F1, F1.length = 64 * s.n ∧ A F1 ∧ (∀ k, k < s.n → k ≠ at_ → blk r.1.F k = blk F1 k) ∧ blk r.1.F at_ = blk (full b.data.toList true) 0 ∧
        (∀ k, k < s.n → blk F1 k = if k = at_ then blk (full b.data.toList false) 0 else if at_ < k ∧ k < at_ + many b.size then blk (full b.data.toList true) (k - at_) else if k = at_ + many b.size ∧ k < end_ then zeroB else blk s.F k)) := by
  have hp := many_pos b.size
  have hmem := preSteps_mem s b at_ end_ he
  obtain ⟨h1, h2, h3, h4⟩ := runSteps_inv s.n A (preSteps s b at_ end_) s rfl hl hA (fun x hx => by
    obtain ⟨i, e, i1, i2, hz, hi⟩ := hmem x hx
    exact ⟨i, e, by omega, hz, fun F t hF hAF => hP F i t x.2 hF hAF i1 i2 hz hi⟩)
  intro r
  have er : r = if (runSteps s (preSteps s b at_ end_)).2 = 0 then (runSteps s (preSteps s b at_ end_)).1.write (at_ : Int) (blk (full b.data.toList true) 0) else runSteps s (preSteps s b at_ end_) := runSteps_snoc s _ _
  by_cases c : (runSteps s (preSteps s b at_ end_)).2 = 0
  · rw [if_pos c] at er
    have hx := runSteps_exact s.n (preSteps s b at_ end_) s rfl hl (fun x hx => by
      obtain ⟨i, e, i1, i2, hz, hi⟩ := hmem x hx
      exact ⟨i, e, by omega, hz⟩) c
    generalize (runSteps s (preSteps s b at_ end_)).1 = s1 at h1 h2 h3 er hx
    have hz := full_blk_size b true 0 hp
    obtain ⟨w1, t, ht, wF, w2⟩ := write_spec s1 at_ (blk (full b.data.toList true) 0) (by omega) hz
    rw [← er] at w1 wF w2
    have hlen : r.1.F.length = 64 * s.n := by rw [wF]; exact patch_take_length _ _ _ _ _ h2 (by omega) hz
    have hbl : ∀ k, k < s.n → blk s1.F k = if k = at_ then blk (full b.data.toList false) 0 else if at_ < k ∧ k < at_ + many b.size then blk (full b.data.toList true) (k - at_) else if k = at_ + many b.size ∧ k < end_ then zeroB else blk s.F k := by
      intro k hk
      rw [hx k hk, preSteps_exact]
      by_cases c1 : k = at_
      · rw [if_pos c1, if_pos c1]
      · rw [if_neg c1, if_neg c1]
        by_cases c2 : at_ < k ∧ k < at_ + many b.size
        · rw [if_pos c2, if_pos c2, blk_two b _ (by omega)]
        · rw [if_neg c2, if_neg c2]
    refine ⟨w1.trans h1, hlen, w2.elim (fun h => .inl h.1) .inr, ?_⟩
    obtain ⟨R, e1, e0⟩ := blk_heads b
    have hat : blk s1.F at_ = blk (full b.data.toList false) 0 := by rw [hbl at_ (by omega), if_pos rfl]
    have hnew : blk r.1.F at_ = B ((blk (full b.data.toList true) 0).data.toList.take t ++ (blk s1.F at_).data.toList.drop t) := by
      rw [wF]; exact blk_patch_take s1.F s.n at_ t _ h2 (by omega) hz
    have hoth : ∀ k, k < s.n → k ≠ at_ → blk r.1.F k = blk s1.F k := fun k hk hne => by
      rw [wF]; exact blk_patch_take_other s1.F s.n at_ t _ h2 (by omega) hz k hne
    rw [hat] at hnew
    rcases w2 with ⟨w2, rfl⟩ | w2
    · right
      refine ⟨s1.F, h2, h3, hoth, ?_, hbl⟩
      have : (blk (full b.data.toList true) 0).data.toList.length = 64 := by rw [B_len]; exact hz
      have e0' : (blk (full b.data.toList false) 0).data.toList.length = 64 := by rw [B_len]; exact full_blk_size b false 0 hp
      rw [hnew, List.take_of_length_le (by omega), List.drop_of_length_le (by omega), List.append_nil, B_eta]
    · rcases two_heads _ _ 1 0 R e1 e0 t with h | h
      · rw [h] at hnew
        left
        refine ⟨w2, ?_⟩
        have e : r.1.F = s1.F := by
          have hsame : ∀ k, k < s.n → blk r.1.F k = blk s1.F k := fun k hk => by
            by_cases ck : k = at_
            · rw [ck, hnew, hat]
            · exact hoth k hk ck
          exact blks_inj _ _ s.n hlen h2 (by
            unfold blks
            exact List.map_congr_left (fun k hk => hsame k (List.mem_range.1 hk)))
        rw [e]; exact h3
      · rw [h] at hnew
        exact .inr ⟨s1.F, h2, h3, hoth, hnew, hbl⟩
  · rw [if_neg c] at er
    rw [er]
    exact ⟨h1, h2, .inr (h4.resolve_left c), .inl ⟨h4.resolve_left c, h3⟩⟩
theorem append_content (s : Sto) (h nx : Nat) (all : List ByteArray) (b : ByteArray) (hn : 3 ≤ s.n) (hl : s.F.length = 64 * s.n) (hI : Inv (blk s.F) s.n h all nx) (hb : b.size ≤ 40000) (hr : nx + many b.size ≤ eN s.n h) :
    let r := runSteps s (laySteps s b nx (eN s.n h))
    r.1.n = s.n ∧ r.1.F.length = 64 * s.n ∧ (r.2 = 0 ∨ r.2 = 9) ∧
      (r.2 = 9 ∧ Inv (blk r.1.F) s.n h all nx ∨ Inv (blk r.1.F) s.n h (all ++ [b]) (nx + many b.size)) := by
  have hp := many_pos b.size
  obtain ⟨f1, f2, f3⟩ := eN_le s.n h (by omega) hI.hh
  have fle := recsAt_le _ _ _ _ hI.recs
  obtain ⟨h1, h2, h3, h4⟩ := lay_content s b nx (eN s.n h) hl hr f3 (fun F => Inv (blk F) s.n h all nx) hI (fun F i t x hF hA i1 i2 hz hi => by
    refine hA.congr (blk_patch_take_other F s.n i t x hF (by omega) hz 0 (by omega)) (fun k k1 k2 => blk_patch_take_other F s.n i t x hF (by omega) hz k (by omega)) (fun hlt => ?_)
    by_cases c : i = nx
    · rw [← c, blk_patch_take F s.n i t x hF (by omega) hz, hi c]
      exact un_take _ _ _ (un_full b) (by rw [c]; exact hA.un hlt)
    · rw [blk_patch_take_other F s.n i t x hF (by omega) hz nx (by omega)]
      exact hA.un hlt)
  refine ⟨h1, h2, h3, ?_⟩
  rcases h4 with h4 | ⟨F1, g1, g2, g3, g4, g5⟩
  · exact .inl h4
  · right
    have hC : ∀ k, k < s.n → blk (runSteps s (laySteps s b nx (eN s.n h))).1.F k = if nx ≤ k ∧ k < nx + many b.size then blk (full b.data.toList true) (k - nx) else if k = nx + many b.size ∧ k < eN s.n h then zeroB else blk s.F k := by
      intro k hk
      by_cases c : k = nx
      · rw [c, g4, if_pos (by omega), Nat.sub_self]
      · rw [g3 k hk c, g5 k hk, if_neg c]
        by_cases c2 : nx < k ∧ k < nx + many b.size
        · rw [if_pos c2, if_pos (by omega)]
        · rw [if_neg c2, if_neg (show ¬ (nx ≤ k ∧ k < nx + many b.size) by omega)]
    refine ⟨hI.hh, ?_, by simp, ?_, hr, fun hlt => ?_⟩
    · rw [hC 0 (by omega), if_neg (by omega), if_neg (by omega)]; exact hI.top
    · refine recsAt_snoc _ b hb all _ _ (recsAt_congr (blk s.F) _ _ _ _ _ (Nat.le_refl _) (fun k k1 k2 => ?_) hI.recs) (fun t ht => ?_)
      · rw [hC k (by omega), if_neg (by omega), if_neg (by omega)]
      · rw [hC _ (by omega), if_pos (by omega)]
        congr 1; omega
    · rw [hC _ (by omega), if_neg (by omega), if_pos ⟨rfl, hlt⟩]; exact un_zero
theorem topB_heads (h k : Nat) : ∃ R, (topB h).data.toList = UInt8.ofNat h :: R ∧ (topB k).data.toList = UInt8.ofNat k :: R := by
  unfold topB
  rw [B_data, B_data]
  exact ⟨_, rfl, rfl⟩
def snapSteps (s : Sto) (b : ByteArray) (h : Nat) : List (Int × ByteArray) := laySteps s b (fN s.n h) (eN s.n h) ++ [(0, topB h)]
theorem snap_content (s : Sto) (h nx : Nat) (all : List ByteArray) (b : ByteArray) (hn : 3 ≤ s.n) (hl : s.F.length = 64 * s.n) (hI : Inv (blk s.F) s.n h all nx) (hb : b.size ≤ 40000) (hr : fN s.n (1 - h) + many b.size ≤ eN s.n (1 - h)) :
    let r := runSteps s (snapSteps s b (1 - h))
    r.1.n = s.n ∧ r.1.F.length = 64 * s.n ∧ (r.2 = 0 ∨ r.2 = 9) ∧
      (r.2 = 9 ∧ Inv (blk r.1.F) s.n h all nx ∨ Inv (blk r.1.F) s.n (1 - h) [b] (fN s.n (1 - h) + many b.size)) := by
  have hp := many_pos b.size
  have hh := hI.hh
  obtain ⟨f1, f2, f3⟩ := eN_le s.n h (by omega) hI.hh
  obtain ⟨o1, o2, o3⟩ := eN_le s.n (1 - h) (by omega) (by omega)
  have fle := recsAt_le _ _ _ _ hI.recs
  have hle := hI.le
  have apart : ∀ i, fN s.n (1 - h) ≤ i → i < eN s.n (1 - h) → ¬ (fN s.n h ≤ i ∧ i < eN s.n h) := by
    intro i i1 i2
    unfold eN fN at *
    rcases (by omega : h = 0 ∨ h = 1) with rfl | rfl <;> omega
  intro r
  have hK : ∀ (F : List UInt8) (i t : Nat) (x : ByteArray), F.length = 64 * s.n → Inv (blk F) s.n h all nx → fN s.n (1 - h) ≤ i → i < eN s.n (1 - h) → x.size = 64 → Inv (blk (patch F (64 * i) (x.data.toList.take t))) s.n h all nx := by
    intro F i t x hF hA i1 i2 hz
    have ha := apart i i1 i2
    refine hA.congr (blk_patch_take_other F s.n i t x hF (by omega) hz 0 (by omega)) (fun k k1 k2 => blk_patch_take_other F s.n i t x hF (by omega) hz k (by omega)) (fun hlt => ?_)
    rw [blk_patch_take_other F s.n i t x hF (by omega) hz nx (by omega)]
    exact hA.un hlt
  obtain ⟨h1, h2, h3, h4⟩ := lay_content s b (fN s.n (1 - h)) (eN s.n (1 - h)) hl hr o3 (fun F => Inv (blk F) s.n h all nx) hI (fun F i t x hF hA i1 i2 hz _ => hK F i t x hF hA i1 i2 hz)
  have er : r = if (runSteps s (laySteps s b (fN s.n (1 - h)) (eN s.n (1 - h)))).2 = 0 then (runSteps s (laySteps s b (fN s.n (1 - h)) (eN s.n (1 - h)))).1.write 0 (topB (1 - h)) else runSteps s (laySteps s b (fN s.n (1 - h)) (eN s.n (1 - h))) := runSteps_snoc s _ _
  generalize runSteps s (laySteps s b (fN s.n (1 - h)) (eN s.n (1 - h))) = W at h1 h2 h3 h4 er
  obtain ⟨s1, e1⟩ := W
  dsimp only at h1 h2 h3 h4 er
  have hold : Inv (blk s1.F) s.n h all nx := by
    rcases h4 with h4 | ⟨F1, g1, g2, g3, g4, g5⟩
    · exact h4.2
    · have ha := apart (fN s.n (1 - h)) (Nat.le_refl _) (by omega)
      refine g2.congr (g3 0 (by omega) (by omega)) (fun k k1 k2 => g3 k (by omega) (by omega)) (fun hlt => ?_)
      rw [g3 nx (by omega) (by omega)]
      exact g2.un hlt
  by_cases c : e1 = 0
  · rw [if_pos c] at er
    obtain ⟨w1, t, ht, wF, w2⟩ := write_spec s1 0 (topB (1 - h)) (by omega) (topB_size _)
    rw [show ((0 : Nat) : Int) = 0 from rfl, ← er] at w1 wF w2
    have hlen : r.1.F.length = 64 * s.n := by rw [wF]; exact patch_take_length _ _ _ _ _ h2 (by omega) (topB_size _)
    refine ⟨w1.trans h1, hlen, w2.elim (fun h => .inl h.1) .inr, ?_⟩
    have hoth : ∀ k, k < s.n → k ≠ 0 → blk r.1.F k = blk s1.F k := fun k hk hne => by
      rw [wF]; exact blk_patch_take_other s1.F s.n 0 t _ h2 (by omega) (topB_size _) k hne
    have hnew : blk r.1.F 0 = B ((topB (1 - h)).data.toList.take t ++ (topB h).data.toList.drop t) := by
      rw [wF, ← hold.top]; exact blk_patch_take s1.F s.n 0 t _ h2 (by omega) (topB_size _)
    obtain ⟨R, t1, t2⟩ := topB_heads (1 - h) h
    have hfin : blk r.1.F 0 = topB (1 - h) → Inv (blk r.1.F) s.n (1 - h) [b] (fN s.n (1 - h) + many b.size) := by
      intro htop
      rcases h4 with h4 | ⟨F1, g1, g2, g3, g4, g5⟩
      · rw [c] at h4; exact absurd h4.1 (by decide)
      · have hC : ∀ k, k < s.n → k ≠ 0 → blk r.1.F k = if fN s.n (1 - h) ≤ k ∧ k < fN s.n (1 - h) + many b.size then blk (full b.data.toList true) (k - fN s.n (1 - h)) else if k = fN s.n (1 - h) + many b.size ∧ k < eN s.n (1 - h) then zeroB else blk s.F k := by
          intro k hk h0
          rw [hoth k hk h0]
          by_cases c : k = fN s.n (1 - h)
          · rw [c, g4, if_pos (by omega), Nat.sub_self]
          · rw [g3 k hk c, g5 k hk, if_neg c]
            by_cases c2 : fN s.n (1 - h) < k ∧ k < fN s.n (1 - h) + many b.size
            · rw [if_pos c2, if_pos (by omega)]
            · rw [if_neg c2, if_neg (show ¬ (fN s.n (1 - h) ≤ k ∧ k < fN s.n (1 - h) + many b.size) by omega)]
        refine ⟨by omega, htop, by simp, ⟨hb, fun t ht => ?_, rfl⟩, hr, fun hlt => ?_⟩
        · rw [hC _ (by omega) (by omega), if_pos (by omega)]
          congr 1; omega
        · rw [hC _ (by omega) (by omega), if_neg (by omega), if_pos ⟨rfl, hlt⟩]; exact un_zero
    rcases w2 with ⟨w2, rfl⟩ | w2
    · right
      refine hfin ?_
      have l1 : (topB (1 - h)).data.toList.length = 64 := by rw [B_len]; exact topB_size _
      have l2 : (topB h).data.toList.length = 64 := by rw [B_len]; exact topB_size _
      rw [hnew, List.take_of_length_le (by omega), List.drop_of_length_le (by omega), List.append_nil, B_eta]
    · rcases two_heads _ _ _ _ R t1 t2 t with h5 | h5
      · rw [h5] at hnew
        left
        refine ⟨w2, hold.congr (by rw [hnew, hold.top]) (fun k k1 k2 => hoth k (by omega) (by omega)) (fun hlt => ?_)⟩
        rw [hoth nx (by omega) (by omega)]
        exact hold.un hlt
      · rw [h5] at hnew
        exact .inr (hfin hnew)
  · rw [if_neg c] at er
    rw [er]
    exact ⟨h1, h2, h3, .inl ⟨h3.resolve_left c, hold⟩⟩
/-! #### power that never goes -/
def Sto.live (s : Sto) : Prop := s.down = false ∧ s.left = -1
theorem runSteps_live (n : Nat) : ∀ (xs : List (Int × ByteArray)) (s : Sto), s.n = n → s.live → (∀ x ∈ xs, ∃ i : Nat, x.1 = (i : Int) ∧ i < n ∧ x.2.size = 64) → (runSteps s xs).2 = 0 ∧ (runSteps s xs).1.live := by
  intro xs
  induction xs with
  | nil => intro s _ h _; exact ⟨rfl, h⟩
  | cons x r ih =>
    intro s hn h hx
    obtain ⟨i, e, hi, hb⟩ := hx x List.mem_cons_self
    obtain ⟨w1, w2⟩ := h
    have hw : s.write x.1 x.2 = ({ s with F := patch s.F (64 * x.1.toNat) x.2.data.toList, left := s.left, writes := wrap64 (s.writes + 1) }, 0) := by
      unfold Sto.write
      rw [if_neg (by omega), w1, if_neg (by decide), if_neg (by omega), if_neg (by omega)]
    unfold runSteps
    rw [hw]
    rw [if_pos rfl]
    exact ih _ hn ⟨w1, w2⟩ (fun y hy => hx y (List.mem_cons_of_mem _ hy))
/-! #### reading -/
theorem Inv.head {C : Nat → ByteArray} {n h : Nat} {all : List ByteArray} {nx : Nat} (hI : Inv C n h all nx) (hz : (C nx).size = 64) (hlt : nx < eN n h) : headR (C nx) = (false, 0, 0) := by
  obtain ⟨R, hR⟩ := hI.un hlt
  have e : C nx = B (0 :: R) := by rw [← hR, B_eta]
  rw [e] at hz ⊢
  have hb : bt (B (0 :: R)) 0 = 0 := bt_B (0 :: R) 0 (by simp)
  unfold headR
  rw [if_neg (by rw [hz, hb]; omega), if_pos hb]
/-- What 'read' tells at a block. -/
def readP (F : List UInt8) (at_ end_ : Nat) : ByteArray × Nat × Int :=
  if (headR (blk F at_)).2.2 ≠ 0 ∨ (headR (blk F at_)).1 = false then ((⟨#[]⟩ : ByteArray), 0, (headR (blk F at_)).2.2)
  else if end_ < at_ + many (headR (blk F at_)).2.1.toNat then ((⟨#[]⟩ : ByteArray), 0, 8)
  else ((joinR ((List.range (many (headR (blk F at_)).2.1.toNat)).map (fun i => blk F (at_ + i)))).1, many (headR (blk F at_)).2.1.toNat, (joinR ((List.range (many (headR (blk F at_)).2.1.toNat)).map (fun i => blk F (at_ + i)))).2)
def scan (F : List UInt8) (end_ : Nat) : Nat → Nat → List ByteArray → Option (Nat × List ByteArray)
  | 0, at_, l => some (at_, l)
  | d + 1, at_, l =>
    if at_ < end_ then
      if (readP F at_ end_).2.2 ≠ 0 then none
      else if (readP F at_ end_).2.1 = 0 then some (at_, l)
      else scan F end_ d (at_ + (readP F at_ end_).2.1) (l ++ [(readP F at_ end_).1])
    else some (at_, l)
theorem readP_rec (F : List UInt8) (at_ end_ : Nat) (b : ByteArray) (hb : b.size ≤ 40000) (hC : ∀ t, t < many b.size → blk F (at_ + t) = blk (full b.data.toList true) t) (he : at_ + many b.size ≤ end_) : readP F at_ end_ = (b, many b.size, 0) := by
  have hp := many_pos b.size
  have h0 := hC 0 hp
  rw [Nat.add_zero] at h0
  have hh := headR_full b.data.toList true (by rw [B_len]; exact hb)
  rw [if_pos rfl, B_len] at hh
  unfold readP
  rw [h0, hh]
  dsimp only
  rw [if_neg (by simp), Int.toNat_natCast, if_neg (by omega)]
  have hm : (List.range (many b.size)).map (fun i => blk F (at_ + i)) = blks (full b.data.toList true) (many b.data.toList.length) := by
    unfold blks
    rw [B_len]
    exact List.map_congr_left (fun i hi => hC i (List.mem_range.1 hi))
  rw [hm, joinR_true b.data.toList (by rw [B_len]; exact hb), B_eta]
theorem scan_recs (F : List UInt8) (end_ nx : Nat) (hnx : nx ≤ end_) (hu : nx < end_ → headR (blk F nx) = (false, 0, 0)) : ∀ (l : List ByteArray) (at_ d : Nat) (acc : List ByteArray), end_ < at_ + d → recsAt (blk F) at_ l nx → scan F end_ d at_ acc = some (nx, acc ++ l) := by
  intro l
  induction l with
  | nil =>
    intro at_ d acc hd h
    obtain rfl : at_ = nx := h
    cases d with
    | zero => omega
    | succ d =>
      unfold scan
      rw [List.append_nil]
      by_cases c : at_ < end_
      · have hr : readP F at_ end_ = ((⟨#[]⟩ : ByteArray), 0, 0) := by
          unfold readP
          rw [hu c]
          rfl
        rw [if_pos c, hr, if_neg (by decide), if_pos rfl]
      · rw [if_neg c]
  | cons b r ih =>
    intro at_ d acc hd h
    have hle := recsAt_le _ _ _ _ h.2.2
    have hp := many_pos b.size
    cases d with
    | zero => omega
    | succ d =>
      unfold scan
      rw [if_pos (by omega), readP_rec F at_ end_ b h.1 h.2.1 (by omega)]
      dsimp only
      rw [if_neg (by decide), if_neg (by omega), ih _ d _ (by omega) h.2.2, List.append_assoc]
      rfl

/-- What is carried through laying. -/
structure Lay5 (w wc : World) (p g q : Nat) (s : Sto) (u : Value) (j : Jou) (A1 : Option Addr) (c1 : Nat) (L : List ByteArray) (A2 : Option Addr) (c2 : Nat) (L2 : List ByteArray) (v : Value) (xs : List (Nat × Nat × Nat)) (ys : List (Int × ByteArray)) : Prop where
  sto : StoAt wc p g s
  jou : JouAt wc q p u j
  r1 : Kd.R Kd.string 9 wc w.heap.size (fun _ => True) (.slice A1 L.length c1) L
  r2 : Kd.R Kd.string 9 wc w.heap.size (fun _ => True) (.slice A2 L2.length c2) L2
  bel : Below w.heap.size w wc
  own : Kd.R kStep 91 wc w.heap.size (fun k => w.heap.size ≤ k) v xs
  len : xs.length = ys.length
  steps : ∀ k (h1 : k < xs.length) (h2 : k < ys.length), StepAt wc q ys[k] (stepV xs[k])
theorem Lay5.below {w wc w1 : World} {p g q : Nat} {s : Sto} {u : Value} {j : Jou} {A1 : Option Addr} {c1 : Nat} {L : List ByteArray} {A2 : Option Addr} {c2 : Nat} {L2 : List ByteArray} {v : Value} {xs : List (Nat × Nat × Nat)} {ys : List (Int × ByteArray)} (h : Lay5 w wc p g q s u j A1 c1 L A2 c2 L2 v xs ys) (hb : Below wc.heap.size wc w1) : Lay5 w w1 p g q s u j A1 c1 L A2 c2 L2 v xs ys :=
  ⟨h.sto.keep (Upd.ofBelow (S := fun _ => False) hb) (fun h => h) (fun h => h), h.jou.keep (Upd.ofBelow (S := fun _ => False) hb) (fun h => h), Kd.R_below h.r1 hb, Kd.R_below h.r2 hb, below_step h.bel hb, Kd.R_below h.own hb, h.len, fun k h1 h2 => (h.steps k h1 h2).below hb⟩
theorem Lay5.grown {W w1 : World} (hg : W.grownBy w1 (Value.slice none 0 0).ownBlock) : Below W.heap.size W w1 := by
  exact pw_below_grown (Below.refl _ _) _ (Nat.le_refl _) hg (fun k hk => by simp [Value.ownBlock] at hk)
/-- More steps are appended: all else stays. -/
theorem Lay5.pushL {w W w1 : World} {p g q : Nat} {s : Sto} {u : Value} {j : Jou} {A1 : Option Addr} {c1 : Nat} {L : List ByteArray} {A2 : Option Addr} {c2 : Nat} {L2 : List ByteArray} {v v1 : Value} {xs : List (Nat × Nat × Nat)} {ys : List (Int × ByteArray)} (h : Lay5 w W p g q s u j A1 c1 L A2 c2 L2 v xs ys) (zs : List (Nat × Nat × Nat)) (us : List (Int × ByteArray)) (hzu : zs.length = us.length) (hst : ∀ k (h1 : k < zs.length) (h2 : k < us.length), StepAt W q us[k] (stepV zs[k]))
    (ho : Kd.R kStep 91 w1 w.heap.size (fun k => w.heap.size ≤ k) v1 (xs ++ zs)) (hb : Below w.heap.size w w1) (hg : W.grownBy w1 v.ownBlock) : Lay5 w w1 p g q s u j A1 c1 L A2 c2 L2 v1 (xs ++ zs) (ys ++ us) := by
  have ty := Kd.R_typed h.own
  have hu : Upd (fun k => some k = v.ownBlock) W w1 := ⟨hg.os, hg.tape, hg.output, hg.size, fun k hk hn => hg.block k hk hn⟩
  have ne : ∀ (b : Nat) (c : Array Value) (t : TypeId), W.heap[b]? = some (.cells c t (0, 0)) → t ≠ 91 → ¬ (some b = v.ownBlock) := by
    intro b c t hb' ht e
    obtain ⟨cells, hc⟩ := ty b e.symm
    rw [hb'] at hc
    injection hc with hc
    injection hc with _ hc
    exact ht hc
  have stk : ∀ z zv, StepAt W q z zv → StepAt w1 q z zv := by
    rintro z zv ⟨b1, b2, b3, e, h1, h2, h3⟩
    exact ⟨b1, b2, b3, e, (hu.block b1 (lt_of_cells h1) (ne _ _ _ h1 (by decide))).trans h1, (hu.block b2 (lt_of_cells h2) (ne _ _ _ h2 (by decide))).trans h2, (hu.block b3 (lt_of_cells h3) (ne _ _ _ h3 (by decide))).trans h3⟩
  refine ⟨h.sto.keep hu (ne _ _ _ h.sto.hp (by decide)) (ne _ _ _ h.sto.hg (by decide)), h.jou.keep hu (ne _ _ _ h.jou (by decide)), Kd.R_over' h.r1 ty (by decide) hg, Kd.R_over' h.r2 ty (by decide) hg, hb, ho, by simp [h.len, hzu], fun k h1 h2 => ?_⟩
  by_cases hk : k < xs.length
  · have hk2 : k < ys.length := by rw [← h.len]; exact hk
    rw [List.getElem_append_left hk, List.getElem_append_left hk2]
    exact stk _ _ (h.steps k hk hk2)
  · have hl := h.len
    rw [List.length_append] at h1 h2
    rw [List.getElem_append_right (by omega), List.getElem_append_right (by omega)]
    have e : k - ys.length = k - xs.length := by omega
    have := hst (k - xs.length) (by omega) (by omega)
    simp only [e]
    exact stk _ _ this
theorem Lay5.push {w W w1 : World} {p g q : Nat} {s : Sto} {u : Value} {j : Jou} {A1 : Option Addr} {c1 : Nat} {L : List ByteArray} {A2 : Option Addr} {c2 : Nat} {L2 : List ByteArray} {v v1 : Value} {xs : List (Nat × Nat × Nat)} {ys : List (Int × ByteArray)} (h : Lay5 w W p g q s u j A1 c1 L A2 c2 L2 v xs ys) (x : Nat × Nat × Nat) (y : Int × ByteArray) (hst : StepAt W q y (stepV x))
    (ho : Kd.R kStep 91 w1 w.heap.size (fun k => w.heap.size ≤ k) v1 (xs ++ [x])) (hb : Below w.heap.size w w1) (hg : W.grownBy w1 v.ownBlock) : Lay5 w w1 p g q s u j A1 c1 L A2 c2 L2 v1 (xs ++ [x]) (ys ++ [y]) :=
  h.pushL [x] [y] rfl (fun k h1 h2 => by
    have : k = 0 := by simp at h1; omega
    subst this
    exact hst) ho hb hg
theorem two_row (w : World) (a b : Nat × Nat × Nat) : ReadsRow (fun (x : Nat × Nat × Nat) (cs : List Value) => cs = [stepV x]) 1 (w.alloc (.cells #[stepV a, stepV b] 91)) (some ⟨w.heap.size, 0, none⟩) 2 [a, b] := by
  have hc := cell_of (w := w.alloc (.cells #[stepV a, stepV b] 91)) (p := w.heap.size) (heap_alloc_new w _)
  refine ⟨rfl, by decide, fun _ => ⟨_, rfl, fun j p hj => ⟨[stepV p], rfl, rfl, fun i u hu => ?_⟩⟩⟩
  cases i with
  | succ i => simp at hu
  | zero =>
    obtain rfl : stepV p = u := by simpa using hu
    rw [Nat.mul_one, Nat.add_zero, add_plain]
    try rw [Nat.zero_add]
    rw [(hc j).1]
    match j with
    | 0 => simp at hj; subst hj; rfl
    | 1 => simp at hj; subst hj; rfl
    | j + 2 => simp at hj
/-- The steps that wait, in a row of the call's own. -/
structure Laid (B : Nat) (w : World) (q : Nat) (v : Value) (xs : List (Nat × Nat × Nat)) (ys : List (Int × ByteArray)) : Prop where
  own : Kd.R kStep 91 w B (fun k => B ≤ k) v xs
  len : xs.length = ys.length
  steps : ∀ k (h1 : k < xs.length) (h2 : k < ys.length), StepAt w q ys[k] (stepV xs[k])
theorem Lay5.laid {w wc : World} {p g q : Nat} {s : Sto} {u : Value} {j : Jou} {A1 : Option Addr} {c1 : Nat} {L : List ByteArray} {A2 : Option Addr} {c2 : Nat} {L2 : List ByteArray} {v : Value} {xs : List (Nat × Nat × Nat)} {ys : List (Int × ByteArray)} (h : Lay5 w wc p g q s u j A1 c1 L A2 c2 L2 v xs ys) : Laid w.heap.size wc q v xs ys := ⟨h.own, h.len, h.steps⟩
theorem Laid.at {B : Nat} {w : World} {q : Nat} {v : Value} {xs : List (Nat × Nat × Nat)} {ys : List (Int × ByteArray)} (h : Laid B w q v xs ys) (hp : 0 < ys.length) : ∃ bs c, v = .slice (some ⟨bs, 0, none⟩) ys.length c ∧ StepsAt w q bs ys ∧ B ≤ bs := by
  have ho := Kd.own_of_R h.own
  obtain ⟨_, hh⟩ := ho
  have hl := h.len
  rcases hh with ⟨_, h2⟩ | ⟨g, cap, cur, e, hg, hb, r⟩
  · omega
  · refine ⟨g, cap, by rw [e, hl], ⟨cur, hb, fun k hk => ⟨stepV (xs[k]'(by omega)), ?_, h.steps k (by omega) hk⟩⟩, hg⟩
    have hk1 : k < xs.length := by omega
    obtain ⟨_, _, hsz, htk⟩ := r
    rw [Nat.mul_one] at htk
    have h1 : (cur.toList.take xs.length)[k]? = some (stepV xs[k]) := by
      rw [htk]
      unfold encs
      rw [List.getElem?_map, List.getElem?_eq_getElem hk1]
      rfl
    rw [List.getElem?_take_of_lt hk1, Array.getElem?_toList] at h1
    exact h1
theorem Lay5.heads {w wc : World} {p g q : Nat} {s : Sto} {u : Value} {j : Jou} {g1 : Nat} {c1 : Nat} {L : List ByteArray} {g2 : Nat} {c2 : Nat} {L2 : List ByteArray} {v : Value} {xs : List (Nat × Nat × Nat)} {ys : List (Int × ByteArray)} (h : Lay5 w wc p g q s u j (some ⟨g1, 0, none⟩) c1 L (some ⟨g2, 0, none⟩) c2 L2 v xs ys) {x1 x2 : ByteArray} (h1 : 1 ≤ L.length) (h2 : 1 ≤ L2.length) (e1 : x1 = L.getD 0 ByteArray.empty) (e2 : x2 = L2.getD 0 ByteArray.empty) :
    wc.cell? ⟨g1, 0, none⟩ = some (.string x1) ∧ wc.cell? ⟨g2, 0, none⟩ = some (.string x2) := by
  obtain ⟨hc1, _⟩ := Kd.R_celln ByteArray.empty h.r1 (0 : Int) (by omega) (by omega)
  obtain ⟨hc2, _⟩ := Kd.R_celln ByteArray.empty h.r2 (0 : Int) (by omega) (by omega)
  rw [e1, e2]
  exact ⟨hc1, hc2⟩
theorem below_ofDrew {w w1 : World} (h : Below w.drew.heap.size w.drew w1) : Below w.heap.size w w1 := ⟨h.os, h.tape, h.output, h.size, h.block⟩
theorem below_alloc1 (w : World) (o : Obj) : Below w.heap.size w (w.alloc o) := below_alloc (Below.refl _ _) _
theorem zero_list {α : Type} (P : α → Prop) (x : α) (h : P x) : ∀ k (h1 : k < [x].length), P [x][k] := fun k h1 => by
  have : k = 0 := by simp at h1; omega
  subst this; exact h
theorem two_steps {w : World} {q : Nat} {y1 y2 : Int × ByteArray} {z1 z2 : Nat × Nat × Nat} (h1 : StepAt w q y1 (stepV z1)) (h2 : StepAt w q y2 (stepV z2)) : ∀ k (a : k < [z1, z2].length) (b : k < [y1, y2].length), StepAt w q [y1, y2][k] (stepV [z1, z2][k]) := fun k a b => by
  rcases (by simp at a; omega : k = 0 ∨ k = 1) with rfl | rfl
  · exact h1
  · exact h2
theorem steps_small (s : Sto) (m n at_ : Nat) (L : List ByteArray) (i : Nat) (hi : i ≤ 4096) : (behindStep s m n ++ midSteps at_ L i).length ≤ 4097 := by
  have h2 : (behindStep s m n).length ≤ 1 := by unfold behindStep; by_cases c : behindB s m n = true <;> simp [c]
  have h3 : (midSteps at_ L i).length ≤ i := by unfold midSteps; simp
  rw [List.length_append]
  omega
theorem cells_small (x : Nat) (h : x ≤ 4097) : (x + 1) * 8 ≤ 140737488355328 ∧ (x + 2) * 8 ≤ 140737488355328 := by omega
theorem wrap_small (m : Nat) (h : m ≤ 10000) : wrap64 (m : Int) = (m : Int) := by unfold wrap64; omega

end Go.Proofs.YtnfeknaeikpdmaaDoor.PR
