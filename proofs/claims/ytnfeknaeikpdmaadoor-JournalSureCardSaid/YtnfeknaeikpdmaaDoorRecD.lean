import Derived.Test.YtnfeknaeikpdmaaDoorRecC
namespace Go.Proofs.YtnfeknaeikpdmaaDoor.PR
open Crc Go.RowKit Go.Proofs.YtnfeknaeikpdmaaDoorW.PrintWords Go.Proofs.YtnfeknaeikpdmaaDoorW.PrintLast Go.Proofs.YtnfeknaeikpdmaaDoorW.PrintMore
set_option linter.unusedVariables false
set_option linter.unusedSimpArgs false
/-! ### heads, told -/
def headR (b : ByteArray) : Bool × Int × Int := if b.size ≠ 64 ∨ bt b 0 > 1 then (false, 0, 2) else if bt b 0 = 0 then (false, 0, 0) else if bt b 1 * 256 + bt b 2 > 40000 then (false, 0, 8) else (true, bt b 1 * 256 + bt b 2, 0)
theorem head_val (b : ByteArray) (r : Bool × Int × Int) (h : Ev (fun k => record_Head.f k b) r) : r = headR b := by
  obtain ⟨K, hK⟩ := h
  have h1 := hK (K + 1) (by omega)
  have g1 := bt_range b 1
  have g2 := bt_range b 2
  obtain ⟨x1, h1'⟩ := Int.eq_ofNat_of_zero_le g1.1
  obtain ⟨x2, h2'⟩ := Int.eq_ofNat_of_zero_le g2.1
  have e1 : Go.bits .or .i64 (wrap64 ((wrap64 (bt b 1)) * 256)) (wrap64 (bt b 2)) = bt b 1 * 256 + bt b 2 := by
    have w1 : wrap64 ((wrap64 (bt b 1)) * 256) = (x1 : Int) * 256 := by rw [h1']; unfold wrap64; omega
    have w2 : wrap64 (bt b 2) = (x2 : Int) := by rw [h2']; unfold wrap64; omega
    rw [w1, w2, i64_join x1 x2 (by omega) (by omega), h1', h2']
  have h2 : record_Head.f (K + 1) b = some r := h1
  unfold record_Head.f at h2
  by_cases hs : b.size = 64
  · rw [if_pos (by omega), if_pos (by omega)] at h2
    simp only [record_Head.j0, e1] at h2
    unfold headR
    by_cases q : bt b 0 > 1
    · rw [if_pos (by simpa using q)] at h2
      rw [if_pos (.inr q)]
      exact (Option.some.inj h2).symm
    · rw [if_neg (by simpa using q), if_pos (by omega), if_pos (by omega), if_pos (by omega)] at h2
      rw [if_neg (by omega)]
      by_cases z : bt b 0 = 0
      · rw [if_pos z] at h2 ⊢
        exact (Option.some.inj h2).symm
      · rw [if_neg z] at h2 ⊢
        by_cases m : bt b 1 * 256 + bt b 2 > 40000
        · rw [if_pos m] at h2 ⊢
          exact (Option.some.inj h2).symm
        · rw [if_neg m] at h2 ⊢
          exact (Option.some.inj h2).symm
  · rw [if_neg (by omega)] at h2
    simp only [record_Head.j0, if_true] at h2
    unfold headR
    rw [if_pos (.inl hs)]
    exact (Option.some.inj h2).symm
theorem head_ev (b : ByteArray) : Ev (fun k => record_Head.f k b) (headR b) ∧ Ev (fun k => quitrentref06_Head.f k b) (headR b) := by
  obtain ⟨r, h1, h2⟩ := head_same b
  have := head_val b r h1
  subst this
  exact ⟨h1, h2⟩

/-! ### trimmed -/
theorem trimR_ev (m : List UInt8) (hm : m.length ≤ 1000000) : Ev (fun k => strings_trimRightByte.l0 k (B m.reverse) 0) (B (m.dropWhile (· == 0)).reverse) := by
  induction m with
  | nil =>
    refine ⟨1, fun k hk => ?_⟩
    obtain ⟨k, rfl⟩ : ∃ m, k = m + 1 := ⟨k - 1, by omega⟩
    simp only [strings_trimRightByte.l0]
    rw [if_neg (by simp [B_size])]
    rfl
  | cons x m ih =>
    have hl : (x :: m).reverse.length = m.length + 1 := by simp
    have hw : wrap64 ((((B (x :: m).reverse).size : Nat) : Int) - 1) = ((m.length : Nat) : Int) := by rw [B_size, hl]; unfold wrap64; simp at hm; omega
    have hb : bt (B (x :: m).reverse) ((m.length : Nat) : Int) = (x.toNat : Int) := by
      rw [bt_B _ _ (by rw [hl]; omega)]
      simp
    have hsz : ((B (x :: m).reverse).size : Int) = (m.length : Int) + 1 := by rw [B_size, hl]; omega
    by_cases hx : x = 0
    · subst hx
      have ih' := ih (by simp at hm; omega)
      refine Ev.step (f := fun k => strings_trimRightByte.l0 k (B m.reverse) 0) (fun k => ?_) ?_
      · simp only [strings_trimRightByte.l0]
        rw [hw, if_pos (by omega), if_pos (by omega), if_pos (by omega), hb, if_pos (by rfl), if_pos (by omega), B_extract]
        congr 2
        simp
      · simpa using ih'
    · have hne : ¬ ((x.toNat : Int) = 0) := by
        intro h
        have h2 : x.toNat = 0 := by omega
        exact hx (UInt8.toNat_inj.1 h2)
      refine ⟨1, fun k hk => ?_⟩
      obtain ⟨k, rfl⟩ : ∃ m, k = m + 1 := ⟨k - 1, by omega⟩
      simp only [strings_trimRightByte.l0]
      rw [hw, if_pos (by omega), if_pos (by omega), if_pos (by omega), hb, if_neg hne]
      have : ((x :: m).dropWhile (· == 0)) = x :: m := by simp [List.dropWhile_cons, hx]
      rw [this]
theorem trimL_ev (m : List UInt8) (hm : m.length ≤ 1000000) : Ev (fun k => strings_trimLeftByte.l0 k (B m) 0) (B (m.dropWhile (· == 0))) := by
  induction m with
  | nil =>
    refine ⟨1, fun k hk => ?_⟩
    obtain ⟨k, rfl⟩ : ∃ m, k = m + 1 := ⟨k - 1, by omega⟩
    simp only [strings_trimLeftByte.l0]
    rw [if_neg (by simp [B_size])]
    rfl
  | cons x m ih =>
    have hb : bt (B (x :: m)) 0 = (x.toNat : Int) := bt_B (x :: m) 0 (by simp)
    have hsz : ((B (x :: m)).size : Int) = (m.length : Int) + 1 := by rw [B_size]; simp
    by_cases hx : x = 0
    · subst hx
      have ih' := ih (by simp at hm; omega)
      refine Ev.step (f := fun k => strings_trimLeftByte.l0 k (B m) 0) (fun k => ?_) ?_
      · simp only [strings_trimLeftByte.l0]
        rw [if_pos (by omega), if_pos (by omega), hb, if_pos (by rfl), if_pos (by omega), B_size, B_extract]
        congr 2
        simp
      · simpa using ih'
    · have hne : ¬ ((x.toNat : Int) = 0) := by
        intro h
        have h2 : x.toNat = 0 := by omega
        exact hx (UInt8.toNat_inj.1 h2)
      refine ⟨1, fun k hk => ?_⟩
      obtain ⟨k, rfl⟩ : ∃ m, k = m + 1 := ⟨k - 1, by omega⟩
      simp only [strings_trimLeftByte.l0]
      rw [if_pos (by omega), if_pos (by omega), hb, if_neg hne]
      have : ((x :: m).dropWhile (· == 0)) = x :: m := by simp [List.dropWhile_cons, hx]
      rw [this]
theorem B_toList (l : List UInt8) : (B l).toList = l := by rw [toList_data, B_data]
theorem dropW_nil (l : List UInt8) : l.dropWhile (· == 0) = [] ↔ ∀ x ∈ l, x = 0 := by
  induction l with
  | nil => simp
  | cons x l ih =>
    by_cases hx : x = 0
    · subst hx
      simp [List.dropWhile_cons, ih]
    · simp [List.dropWhile_cons, hx]
theorem trim_ev (l : List UInt8) (hl : l.length ≤ 1000000) : ∃ t, Ev (fun k => strings_Trim.f k (B l) (⟨#[0]⟩ : ByteArray)) t ∧ (t.toList = ([] : List UInt8) ↔ ∀ x ∈ l, x = 0) := by
  by_cases h0 : l = []
  · subst h0
    refine ⟨B [], ⟨0, fun k _ => ?_⟩, by simp [B_toList]⟩
    show strings_Trim.f k (B []) _ = _
    unfold strings_Trim.f
    rw [if_pos rfl, if_pos (B_toList [])]
  · have h1 := trimR_ev l.reverse (by simpa using hl)
    rw [List.reverse_reverse] at h1
    have h2 := trimL_ev (l.reverse.dropWhile (· == 0)).reverse (by
      have := (List.dropWhile_suffix (l := l.reverse) (· == (0 : UInt8))).length_le
      simp at this ⊢; omega)
    refine ⟨_, Ev.congr (f := fun k => (strings_trimRightByte.f k (B l) 0).bind fun t => strings_trimLeftByte.f k t 0) (fun k => ?_) (Ev.bind h1 h2), ?_⟩
    · unfold strings_Trim.f
      rw [if_pos rfl, if_neg (by rw [B_toList]; exact h0)]
    · rw [B_toList, dropW_nil]
      constructor
      · intro h
        cases hd : l.reverse.dropWhile (· == 0) with
        | nil =>
          have := (dropW_nil l.reverse).1 hd
          simpa using this
        | cons y m =>
          have hy : y = 0 := h y (by rw [hd]; simp)
          have hf : (l.reverse.dropWhile (· == 0)).head? = some y := by rw [hd]; rfl
          have := List.head?_dropWhile_not (· == (0 : UInt8)) l.reverse
          rw [hf] at this
          simp [hy] at this
      · intro h x hx
        have : l.reverse.dropWhile (· == 0) = [] := (dropW_nil l.reverse).2 (by simpa using h)
        rw [this] at hx
        simp at hx

end Go.Proofs.YtnfeknaeikpdmaaDoor.PR
