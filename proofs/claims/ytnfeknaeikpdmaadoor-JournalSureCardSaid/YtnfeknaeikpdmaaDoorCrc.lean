/- The check of bytes by halves of them is the rest of the polynomial bit by bit: plain numbers, no program. -/
namespace Go.Proofs.YtnfeknaeikpdmaaDoor.Crc

def tab : List Nat := [0x00000000, 0x1db71064, 0x3b6e20c8, 0x26d930ac, 0x76dc4190, 0x6b6b51f4, 0x4db26158, 0x5005713c,
  0xedb88320, 0xf00f9344, 0xd6d6a3e8, 0xcb61b38c, 0x9b64c2b0, 0x86d3d2d4, 0xa00ae278, 0xbdbdf21c]
def nib (c x : Nat) : Nat := c / 16 ^^^ tab.getD ((c ^^^ x) % 16) 0
def byteStep (c x : Nat) : Nat := nib (nib c x) (x / 16)
def go (l : List UInt8) (c : Nat) : Nat := l.foldl (fun c b => byteStep c b.toNat) c
def crc (l : List UInt8) : Nat := 4294967295 - go l 4294967295

/-- One bit, the lowest first. -/
def sN (c : Nat) : Nat := c / 2 ^^^ (if c % 2 = 1 then 0xedb88320 else 0)
theorem xor_half (a b : Nat) : (a ^^^ b) / 2 = a / 2 ^^^ b / 2 := by
  apply Nat.eq_of_testBit_eq; intro i
  simp [Nat.testBit_div_two, Nat.testBit_xor]
theorem xor_odd (a b : Nat) : (a ^^^ b) % 2 = (a % 2 + b % 2) % 2 := by
  have h := Nat.testBit_xor a b 0
  simp only [Nat.testBit_zero] at h
  rcases Nat.mod_two_eq_zero_or_one a with ha | ha <;> rcases Nat.mod_two_eq_zero_or_one b with hb | hb <;> rcases Nat.mod_two_eq_zero_or_one (a ^^^ b) with hc | hc <;> simp [ha, hb, hc] at h ⊢
theorem sN_xor (a b : Nat) : sN (a ^^^ b) = sN a ^^^ sN b := by
  unfold sN
  rw [xor_half, xor_odd]
  rcases Nat.mod_two_eq_zero_or_one a with ha | ha <;> rcases Nat.mod_two_eq_zero_or_one b with hb | hb <;> simp [ha, hb]
  · ac_rfl
  · ac_rfl
  · rw [show a / 2 ^^^ 0xedb88320 ^^^ (b / 2 ^^^ 0xedb88320) = (a / 2 ^^^ b / 2) ^^^ (0xedb88320 ^^^ 0xedb88320) by ac_rfl]
    simp
theorem sN_even (m : Nat) : sN (2 * m) = m := by
  unfold sN; rw [if_neg (by omega)]; simp
def s4 (c : Nat) : Nat := sN (sN (sN (sN c)))
theorem s4_xor (a b : Nat) : s4 (a ^^^ b) = s4 a ^^^ s4 b := by simp only [s4, sN_xor]
theorem s4_high (h : Nat) : s4 (16 * h) = h := by
  unfold s4
  rw [show 16 * h = 2 * (2 * (2 * (2 * h))) by omega, sN_even, sN_even, sN_even, sN_even]
theorem s4_low : ∀ l, l < 16 → s4 l = tab.getD l 0 := by decide
theorem split16 (c : Nat) : c = 16 * (c / 16) ^^^ c % 16 := by
  apply Nat.eq_of_testBit_eq; intro i
  rw [Nat.testBit_xor, show 16 * (c / 16) = 2 ^ 4 * (c / 16) by rfl, Nat.testBit_two_pow_mul, show c % 16 = c % 2 ^ 4 by rfl, Nat.testBit_mod_two_pow, show c / 16 = c / 2 ^ 4 by rfl, Nat.testBit_div_two_pow]
  by_cases h : i < 4
  · simp [h, Nat.not_le.2 h]
  · have h' : 4 ≤ i := by omega
    simp [h, h']
theorem s4_eq (c : Nat) : s4 c = c / 16 ^^^ tab.getD (c % 16) 0 := by
  conv => lhs; rw [split16 c]
  rw [s4_xor, s4_high, s4_low _ (Nat.mod_lt _ (by decide))]
theorem xor_div16 (a b : Nat) : (a ^^^ b) / 16 = a / 16 ^^^ b / 16 := by
  apply Nat.eq_of_testBit_eq; intro i
  rw [Nat.testBit_xor, show (16 : Nat) = 2 ^ 4 by rfl, Nat.testBit_div_two_pow, Nat.testBit_div_two_pow, Nat.testBit_div_two_pow, Nat.testBit_xor]
theorem nib_eq (c x : Nat) : nib c x ^^^ x / 16 = s4 (c ^^^ x) := by
  rw [s4_eq, xor_div16]; unfold nib; ac_rfl
theorem byteStep_eq (c x : Nat) (hx : x < 256) : byteStep c x = s4 (s4 (c ^^^ x)) := by
  rw [← nib_eq c x, ← nib_eq (nib c x) (x / 16)]
  unfold byteStep
  rw [show x / 16 / 16 = 0 by omega]; simp

/-! ### The other way round -/
def turned : Nat → Nat → Nat → Nat
  | 0, _, out => out
  | k + 1, n, out => turned k (n / 2) (2 * out + n % 2)
theorem turned_bit (k : Nat) : ∀ n out i, (turned k n out).testBit i = if i < k then n.testBit (k - 1 - i) else out.testBit (i - k) := by
  induction k with
  | zero => intro n out i; simp [turned]
  | succ k ih =>
    intro n out i
    rw [turned, ih]
    by_cases h : i < k
    · rw [if_pos h, if_pos (by omega), Nat.testBit_div_two, show k - 1 - i + 1 = k + 1 - 1 - i by omega]
    · rw [if_neg h]
      by_cases h1 : i < k + 1
      · have : i = k := by omega
        subst this
        rw [if_pos h1, show i - i = 0 by omega, show i + 1 - 1 - i = 0 by omega, Nat.testBit_zero, Nat.testBit_zero]
        congr 1
        exact propext ⟨fun h => by omega, fun h => by omega⟩
      · rw [if_neg h1, show i - k = (i - (k + 1)) + 1 by omega, Nat.testBit_succ, show (2 * out + n % 2) / 2 = out by omega]
theorem turned_lt (k : Nat) : ∀ n out b, out < 2 ^ b → turned k n out < 2 ^ (b + k) := by
  induction k with
  | zero => intro n out b h; simpa [turned] using h
  | succ k ih =>
    intro n out b h
    rw [turned, show b + (k + 1) = (b + 1) + k by omega]
    refine ih _ _ _ ?_
    rw [Nat.pow_succ]; omega
def rev (n : Nat) : Nat := turned 32 n 0
theorem rev_lt (n : Nat) : rev n < 4294967296 := turned_lt 32 n 0 0 (by decide)
theorem rev_bit (n i : Nat) : (rev n).testBit i = (decide (i < 32) && n.testBit (31 - i)) := by
  unfold rev; rw [turned_bit]
  by_cases h : i < 32
  · simp [h]
  · simp [h]
theorem rev_xor (a b : Nat) : rev (a ^^^ b) = rev a ^^^ rev b := by
  apply Nat.eq_of_testBit_eq; intro i
  simp only [Nat.testBit_xor, rev_bit]
  cases decide (i < 32) <;> simp
def fN (r : Nat) : Nat := if 2 * r ≥ 4294967296 then (2 * r - 4294967296) ^^^ 0x04c11db7 else 2 * r
theorem fN_eq (r : Nat) (h : r < 4294967296) : fN r = (2 * r) % 4294967296 ^^^ (if r.testBit 31 then 0x04c11db7 else 0) := by
  have hb : r.testBit 31 = decide (2 * r ≥ 4294967296) := by
    rw [Nat.testBit_eq_decide_div_mod_eq, show (2 : Nat) ^ 31 = 2147483648 by rfl]
    congr 1
    exact propext ⟨fun h => by omega, fun h => by omega⟩
  unfold fN
  by_cases hd : 2 * r ≥ 4294967296
  · rw [if_pos hd, hb]; simp only [hd, decide_true, if_true]
    rw [show 2 * r % 4294967296 = 2 * r - 4294967296 by omega]
  · rw [if_neg hd, hb]; simp only [hd, decide_false]
    rw [show 2 * r % 4294967296 = 2 * r by omega]; simp
theorem poly_turned : ∀ i, i < 32 → Nat.testBit 0x04c11db7 i = Nat.testBit 0xedb88320 (31 - i) := by decide
theorem sN_lt (c : Nat) (h : c < 4294967296) : sN c < 4294967296 := by
  unfold sN
  refine Nat.xor_lt_two_pow (n := 32) (by omega) ?_
  split <;> decide
theorem f_rev (c : Nat) (h : c < 4294967296) : fN (rev c) = rev (sN c) := by
  rw [fN_eq _ (rev_lt c)]
  apply Nat.eq_of_testBit_eq; intro i
  rw [Nat.testBit_xor, show (4294967296 : Nat) = 2 ^ 32 by rfl, Nat.testBit_mod_two_pow, rev_bit (sN c), rev_bit c 31]
  by_cases hi : i < 32
  · simp only [hi, decide_true, Bool.true_and, show (31 : Nat) - 31 = 0 by rfl]
    unfold sN
    rw [Nat.testBit_xor, Nat.testBit_div_two]
    have e1 : (2 * rev c).testBit i = c.testBit (31 - i + 1) := by
      rcases Nat.eq_zero_or_pos i with h0 | h0
      · subst h0
        have : c.testBit (31 - 0 + 1) = false := Nat.testBit_lt_two_pow (by simpa using h)
        rw [this]; simp
      · obtain ⟨j, rfl⟩ : ∃ j, i = j + 1 := ⟨i - 1, by omega⟩
        rw [Nat.testBit_succ, show 2 * rev c / 2 = rev c by omega, rev_bit]
        rw [show 31 - (j + 1) + 1 = 31 - j by omega]; simp [show j < 32 by omega]
    rw [e1]
    congr 1
    rw [Nat.testBit_zero]
    by_cases hc : c % 2 = 1
    · simp [hc, poly_turned i hi]
    · simp [hc]
  · simp only [hi, decide_false, Bool.false_and]
    split
    · simpa using Nat.testBit_lt_two_pow (x := 0x04c11db7) (i := i) (Nat.lt_of_lt_of_le (by decide) (Nat.pow_le_pow_right (by decide) (show 32 ≤ i by omega)))
    · simp

/-! ### Bit by bit -/
def f8 (r : Nat) : Nat := fN (fN (fN (fN (fN (fN (fN (fN r)))))))
def refStep (r x : Nat) : Nat := f8 (r ^^^ turned 8 x 0 * 16777216)
def refGo (l : List UInt8) (r : Nat) : Nat := l.foldl (fun r b => refStep r b.toNat) r
theorem rev_byte (x : Nat) (hx : x < 256) : rev x = turned 8 x 0 * 16777216 := by
  apply Nat.eq_of_testBit_eq; intro i
  rw [rev_bit, show (16777216 : Nat) = 2 ^ 24 by rfl, Nat.mul_comm, Nat.testBit_two_pow_mul, turned_bit]
  by_cases h : 24 ≤ i
  · by_cases h1 : i < 32
    · simp [h, h1, show i - 24 < 8 by omega, show 8 - 1 - (i - 24) = 31 - i by omega]
    · simp [h1, show ¬ i - 24 < 8 by omega]
  · have : x.testBit (31 - i) = false := Nat.testBit_lt_two_pow (Nat.lt_of_lt_of_le hx (Nat.pow_le_pow_right (n := 2) (by decide) (show 8 ≤ 31 - i by omega)))
    simp [h, this]
theorem s4_lt (c : Nat) (h : c < 4294967296) : s4 c < 4294967296 := sN_lt _ (sN_lt _ (sN_lt _ (sN_lt _ h)))
theorem byteStep_lt (c x : Nat) (hc : c < 4294967296) (hx : x < 256) : byteStep c x < 4294967296 := by
  rw [byteStep_eq c x hx]
  exact s4_lt _ (s4_lt _ (Nat.xor_lt_two_pow (n := 32) (by simpa using hc) (by omega)))
theorem ref_step (c x : Nat) (hc : c < 4294967296) (hx : x < 256) : refStep (rev c) x = rev (byteStep c x) := by
  rw [byteStep_eq c x hx]
  unfold refStep
  rw [← rev_byte x hx, ← rev_xor]
  have h0 : c ^^^ x < 4294967296 := Nat.xor_lt_two_pow (n := 32) (by simpa using hc) (by omega)
  have h1 := sN_lt _ h0
  have h2 := sN_lt _ h1
  have h3 := sN_lt _ h2
  have h4 := sN_lt _ h3
  have h5 := sN_lt _ h4
  have h6 := sN_lt _ h5
  have h7 := sN_lt _ h6
  generalize c ^^^ x = y at *
  have e1 := f_rev _ h0
  have e2 := f_rev _ h1
  have e3 := f_rev _ h2
  have e4 := f_rev _ h3
  have e5 := f_rev _ h4
  have e6 := f_rev _ h5
  have e7 := f_rev _ h6
  have e8 := f_rev _ h7
  show fN (fN (fN (fN (fN (fN (fN (fN (rev y)))))))) = rev (sN (sN (sN (sN (sN (sN (sN (sN y))))))))
  rw [e1, e2, e3, e4, e5, e6, e7, e8]
theorem go_lt (l : List UInt8) : ∀ c, c < 4294967296 → go l c < 4294967296 := by
  induction l with
  | nil => intro c h; exact h
  | cons b l ih => intro c h; exact ih _ (byteStep_lt c _ h b.toNat_lt)
theorem ref_go (l : List UInt8) : ∀ c, c < 4294967296 → refGo l (rev c) = rev (go l c) := by
  induction l with
  | nil => intro c _; rfl
  | cons b l ih =>
    intro c h
    have e1 : refGo (b :: l) (rev c) = refGo l (refStep (rev c) b.toNat) := by simp only [refGo, List.foldl_cons]
    have e2 : go (b :: l) c = go l (byteStep c b.toNat) := by simp only [go, List.foldl_cons]
    rw [e1, e2, ref_step c _ h b.toNat_lt]
    exact ih _ (byteStep_lt c _ h b.toNat_lt)
theorem rev_ones : rev 4294967295 = 4294967295 := by decide
theorem rev_rev (c : Nat) (h : c < 4294967296) : rev (rev c) = c := by
  apply Nat.eq_of_testBit_eq; intro i
  rw [rev_bit, rev_bit]
  by_cases hi : i < 32
  · simp [hi, show 31 - i < 32 by omega, show 31 - (31 - i) = i by omega]
  · simp only [hi, decide_false, Bool.false_and]
    exact (Nat.testBit_lt_two_pow (Nat.lt_of_lt_of_le h (Nat.pow_le_pow_right (n := 2) (by decide) (show 32 ≤ i by omega)))).symm
theorem ref_crc (l : List UInt8) : 4294967295 - rev (refGo l 4294967295) = crc l := by
  unfold crc
  have h := ref_go l 4294967295 (by decide)
  rw [rev_ones] at h
  rw [h, rev_rev _ (go_lt l _ (by decide))]
theorem crc_lt (l : List UInt8) : crc l < 4294967296 := by unfold crc; omega

/-! ### A byte that is turned -/
theorem sN_inj (a b : Nat) (ha : a < 4294967296) (hb : b < 4294967296) (h : sN a = sN b) : a = b := by
  have ta : ∀ c, c < 4294967296 → (sN c).testBit 31 = decide (c % 2 = 1) := by
    intro c hc
    unfold sN
    rw [Nat.testBit_xor, Nat.testBit_div_two, Nat.testBit_lt_two_pow (x := c) (by simpa using hc)]
    split
    · rename_i h; rw [h]; decide
    · rename_i h; simp [h]
  have h1 := ta a ha
  rw [h, ta b hb] at h1
  have hp : a % 2 = b % 2 := by
    rcases Nat.mod_two_eq_zero_or_one a with h2 | h2 <;> rcases Nat.mod_two_eq_zero_or_one b with h3 | h3 <;> simp [h2, h3] at h1 ⊢
  unfold sN at h
  rw [hp] at h
  have h2 : a / 2 = b / 2 := by
    have := congrArg (· ^^^ (if b % 2 = 1 then 0xedb88320 else 0)) h
    simpa [Nat.xor_assoc] using this
  omega
theorem s4_inj (a b : Nat) (ha : a < 4294967296) (hb : b < 4294967296) (h : s4 a = s4 b) : a = b := by
  unfold s4 at h
  exact sN_inj _ _ ha hb (sN_inj _ _ (sN_lt _ ha) (sN_lt _ hb) (sN_inj _ _ (sN_lt _ (sN_lt _ ha)) (sN_lt _ (sN_lt _ hb)) (sN_inj _ _ (sN_lt _ (sN_lt _ (sN_lt _ ha))) (sN_lt _ (sN_lt _ (sN_lt _ hb))) h)))
theorem xor_left_inj (c x y : Nat) (h : c ^^^ x = c ^^^ y) : x = y := by
  have := congrArg (c ^^^ ·) h
  simpa [← Nat.xor_assoc] using this
theorem byteStep_inj (c d x : Nat) (hc : c < 4294967296) (hd : d < 4294967296) (hx : x < 256) (h : byteStep c x = byteStep d x) : c = d := by
  rw [byteStep_eq c x hx, byteStep_eq d x hx] at h
  have b1 : c ^^^ x < 4294967296 := Nat.xor_lt_two_pow (n := 32) (by simpa using hc) (by omega)
  have b2 : d ^^^ x < 4294967296 := Nat.xor_lt_two_pow (n := 32) (by simpa using hd) (by omega)
  have := s4_inj _ _ b1 b2 (s4_inj _ _ (s4_lt _ b1) (s4_lt _ b2) h)
  rw [Nat.xor_comm c x, Nat.xor_comm d x] at this
  exact xor_left_inj _ _ _ this
theorem byteStep_inj' (c x y : Nat) (hc : c < 4294967296) (hx : x < 256) (hy : y < 256) (h : byteStep c x = byteStep c y) : x = y := by
  rw [byteStep_eq c x hx, byteStep_eq c y hy] at h
  have b1 : c ^^^ x < 4294967296 := Nat.xor_lt_two_pow (n := 32) (by simpa using hc) (by omega)
  have b2 : c ^^^ y < 4294967296 := Nat.xor_lt_two_pow (n := 32) (by simpa using hc) (by omega)
  exact xor_left_inj _ _ _ (s4_inj _ _ b1 b2 (s4_inj _ _ (s4_lt _ b1) (s4_lt _ b2) h))
theorem go_inj (l : List UInt8) : ∀ c d, c < 4294967296 → d < 4294967296 → go l c = go l d → c = d := by
  induction l with
  | nil => intro c d _ _ h; exact h
  | cons b l ih =>
    intro c d hc hd h
    exact byteStep_inj c d _ hc hd b.toNat_lt (ih _ _ (byteStep_lt c _ hc b.toNat_lt) (byteStep_lt d _ hd b.toNat_lt) h)
/-- Two texts that differ in one byte have different checks. -/
theorem crc_one (p q : List UInt8) (x y : UInt8) (hxy : x ≠ y) : crc (p ++ x :: q) ≠ crc (p ++ y :: q) := by
  intro h
  unfold crc at h
  have l1 := go_lt (p ++ x :: q) 4294967295 (by decide)
  have l2 := go_lt (p ++ y :: q) 4294967295 (by decide)
  have e : go (p ++ x :: q) 4294967295 = go (p ++ y :: q) 4294967295 := by omega
  have ga : ∀ z, go (p ++ z :: q) 4294967295 = go q (byteStep (go p 4294967295) z.toNat) := by intro z; simp [go, List.foldl_append]
  rw [ga, ga] at e
  have hc := go_lt p 4294967295 (by decide)
  have := go_inj q _ _ (byteStep_lt _ _ hc x.toNat_lt) (byteStep_lt _ _ hc y.toNat_lt) e
  exact hxy (UInt8.toNat_inj.1 (byteStep_inj' _ _ _ hc x.toNat_lt y.toNat_lt this))
end Go.Proofs.YtnfeknaeikpdmaaDoor.Crc
