import Derived.Test.YtnfeknaeikpdmaaDoorRecA
namespace Go.Proofs.YtnfeknaeikpdmaaDoor.PR
open Crc Go.RowKit Go.Proofs.YtnfeknaeikpdmaaDoorW.PrintWords Go.Proofs.YtnfeknaeikpdmaaDoorW.PrintLast Go.Proofs.YtnfeknaeikpdmaaDoorW.PrintMore
set_option linter.unusedVariables false
set_option linter.unusedSimpArgs false
/-! ### the check -/
theorem strOf_hdr (a b c d e f g : Nat) (ha : a < 256) : strOfNums [(a : Int), b, c, d, e, f, g] = B [UInt8.ofNat a, UInt8.ofNat b, UInt8.ofNat c, UInt8.ofNat d, UInt8.ofNat e, UInt8.ofNat f, UInt8.ofNat g] := by
  simp [strOfNums, B]
theorem u64_in (n : Int) (h : 0 ≤ n ∧ n < 18446744073709551616) : IntKind.u64.wrap n = n := by rw [IntKind.wrap_u64]; omega
theorem turned_l0 (bits : Nat) (hb : bits ≤ 64) (d : Nat) : ∀ (k n out i : Nat), n < 18446744073709551616 → out < 2 ^ i → i + d = bits → d < k → quitrentref06_turned.l0 k (n : Int) (bits : Int) (out : Int) (i : Int) = some ((turned d n out : Nat) : Int) := by
  induction d with
  | zero =>
    intro k n out i hn ho hi hk
    obtain ⟨k, rfl⟩ : ∃ m, k = m + 1 := ⟨k - 1, by omega⟩
    simp only [quitrentref06_turned.l0]
    rw [if_neg (by omega)]
    rfl
  | succ d ih =>
    intro k n out i hn ho hi hk
    obtain ⟨k, rfl⟩ : ∃ m, k = m + 1 := ⟨k - 1, by omega⟩
    have hp : 2 ^ i ≤ 2 ^ 63 := Nat.pow_le_pow_right (by decide) (by omega)
    simp only [quitrentref06_turned.l0]
    rw [if_pos (by omega)]
    have e1 : IntKind.u64.wrap (IntKind.u64.wrap (2 * (out : Int)) + Int.tmod (n : Int) 2) = ((2 * out + n % 2 : Nat) : Int) := by
      rw [Int.tmod_eq_emod_of_nonneg (by omega), u64_in (2 * (out : Int)) (by omega), u64_in _ (by omega)]; omega
    have e2 : IntKind.u64.wrap (Int.tdiv (n : Int) 2) = ((n / 2 : Nat) : Int) := by
      rw [Int.tdiv_eq_ediv_of_nonneg (by omega), u64_in _ (by omega)]; omega
    have e3 : wrap64 ((i : Int) + 1) = ((i + 1 : Nat) : Int) := by unfold wrap64; omega
    rw [e1, e2, e3]
    exact ih k (n / 2) (2 * out + n % 2) (i + 1) (by omega) (by rw [Nat.pow_succ]; omega) (by omega) (by omega)
theorem turned_ev (n bits : Nat) (hn : n < 18446744073709551616) (hb : bits ≤ 64) : Ev (fun k => quitrentref06_turned.f k (n : Int) (bits : Int)) ((turned bits n 0 : Nat) : Int) := by
  refine ⟨bits + 1, fun k hk => ?_⟩
  exact turned_l0 bits hb bits k n 0 0 hn (by decide) (by omega) (by omega)
theorem fN_lt (r : Nat) (h : r < 4294967296) : fN r < 4294967296 := by
  unfold fN
  split
  · exact Nat.xor_lt_two_pow (n := 32) (by omega) (by decide)
  · omega
theorem f8_lt (r : Nat) (h : r < 4294967296) : f8 r < 4294967296 := by
  have h1 := fN_lt _ h
  have h2 := fN_lt _ h1
  have h3 := fN_lt _ h2
  have h4 := fN_lt _ h3
  have h5 := fN_lt _ h4
  have h6 := fN_lt _ h5
  have h7 := fN_lt _ h6
  have h8 := fN_lt _ h7
  unfold f8
  exact h8
/-- One bit of the reference. -/
theorem fN_int (r : Nat) (h : r < 4294967296) : (if (IntKind.u64.wrap (2 * (r : Int))) ≥ 4294967296 then Go.bits .xor .u64 (IntKind.u64.wrap ((IntKind.u64.wrap (2 * (r : Int))) - 4294967296)) 79764919 else IntKind.u64.wrap (2 * (r : Int))) = ((fN r : Nat) : Int) := by
  rw [u64_in (2 * (r : Int)) (by omega)]
  unfold fN
  by_cases c : 2 * r ≥ 4294967296
  · rw [if_pos (by omega), if_pos c, u64_in _ (by omega), show (2 * (r : Int) - 4294967296) = ((2 * r - 4294967296 : Nat) : Int) by omega]
    exact u64_xor_nat _ 79764919 (by omega) (by decide)
  · rw [if_neg (by omega), if_neg c]; omega
def fT : Nat → Nat → Nat
  | 0, r => r
  | d + 1, r => fT d (fN r)
theorem fT_8 (r : Nat) : fT 8 r = f8 r := by simp only [fT, f8]
theorem refCheck_l1 (b : ByteArray) (d : Nat) : ∀ (r : Nat) (i : Int) (j : Nat) (q : Int), r < 4294967296 → j + d = 8 → Ev (fun k => quitrentref06_Check.l0 k b ((fT d r : Nat) : Int) (wrap64 (i + 1))) q → Ev (fun k => quitrentref06_Check.l1 k b (r : Int) i (j : Int)) q := by
  induction d with
  | zero =>
    intro r i j q hr hj h
    refine Ev.step (f := fun k => quitrentref06_Check.l0 k b ((fT 0 r : Nat) : Int) (wrap64 (i + 1))) (fun k => ?_) h
    simp only [quitrentref06_Check.l1]
    rw [if_neg (by omega)]
    rfl
  | succ d ih =>
    intro r i j q hr hj h
    have h' := ih (fN r) i (j + 1) q (fN_lt r hr) (by omega) h
    refine Ev.step (f := fun k => quitrentref06_Check.l1 k b ((fN r : Nat) : Int) i ((j + 1 : Nat) : Int)) (fun k => ?_) h'
    simp only [quitrentref06_Check.l1]
    rw [if_pos (by omega)]
    have e3 : wrap64 ((j : Int) + 1) = ((j + 1 : Nat) : Int) := by unfold wrap64; omega
    rw [e3, ← fN_int r hr]
    split
    · rfl
    · rfl
theorem refStep_lt (r x : Nat) (h : r ^^^ turned 8 x 0 * 16777216 < 4294967296) : refStep r x < 4294967296 := by unfold refStep; exact f8_lt _ h
theorem refStep_fT (r x : Nat) : refStep r x = fT 8 (r ^^^ turned 8 x 0 * 16777216) := by rw [fT_8]; unfold refStep; rfl
theorem refStep_facts (r x : Nat) (hr : r < 4294967296) : turned 8 x 0 < 256 ∧ r ^^^ turned 8 x 0 * 16777216 < 4294967296 ∧ refStep r x < 4294967296 ∧ refStep r x = fT 8 (r ^^^ turned 8 x 0 * 16777216) := by
  have h8 : turned 8 x 0 < 2 ^ (0 + 8) := turned_lt 8 x 0 0 (by decide)
  have h9 : turned 8 x 0 < 256 := h8
  have hrx : r ^^^ turned 8 x 0 * 16777216 < 4294967296 := by
    clear h8
    generalize turned 8 x 0 = z at *
    exact Nat.xor_lt_two_pow (n := 32) (by omega) (by omega)
  exact ⟨h9, hrx, refStep_lt r x hrx, refStep_fT r x⟩
theorem take_cons (l : List UInt8) (i : Nat) (h : i < l.length) : l.drop i = l[i] :: l.drop (i + 1) := List.drop_eq_getElem_cons h
theorem refCheck_step (b : ByteArray) (r i x : Nat) (hx : x < 256) (hr : r < 4294967296) (a4 : (i : Int) < ((b.size : Nat) : Int)) (a5 : 0 ≤ (i : Int)) (hb : bt b (i : Int) = (x : Int)) (q : Int)
    (h : Ev (fun k => quitrentref06_Check.l0 k b ((refStep r x : Nat) : Int) (wrap64 ((i : Int) + 1))) q) : Ev (fun k => quitrentref06_Check.l0 k b (r : Int) (i : Int)) q := by
  obtain ⟨h8, hrx, hstep, es⟩ := refStep_facts r x hr
  rw [es] at h
  have ht := turned_ev x 8 (by omega) (by decide)
  have h2 := refCheck_l1 b 8 (r ^^^ turned 8 x 0 * 16777216) (i : Int) 0 q hrx rfl h
  clear h hstep es
  refine Ev.step (f := fun k => (quitrentref06_turned.f k (x : Int) 8).bind fun t => quitrentref06_Check.l1 k b (Go.bits .xor .u64 (r : Int) (IntKind.u64.wrap (t * 16777216))) (i : Int) 0) (fun k => ?_) (Ev.bind ht ?_)
  · simp only [quitrentref06_Check.l0]
    rw [if_pos a4, if_pos a5, hb, u64_in _ ⟨by omega, by omega⟩]
  · show Ev (fun k => quitrentref06_Check.l1 k b (Go.bits .xor .u64 (r : Int) (IntKind.u64.wrap (((turned 8 x 0 : Nat) : Int) * 16777216))) (i : Int) 0) q
    clear hrx ht
    generalize turned 8 x 0 = z at *
    rw [u64_in _ ⟨by omega, by omega⟩, show ((z : Int) * 16777216) = ((z * 16777216 : Nat) : Int) by omega, u64_xor_nat _ _ (by omega) (by omega)]
    exact h2
theorem refCheck_l0 (l : List UInt8) (hl : l.length ≤ 1000000) (d : Nat) : ∀ (r i : Nat), r < 4294967296 → i ≤ l.length → l.length - i = d →
    Ev (fun k => quitrentref06_Check.l0 k (B l) (r : Int) (i : Int)) ((4294967295 - rev (refGo (l.drop i) r) : Nat) : Int) := by
  induction d with
  | zero =>
    intro r i hr hi hd
    have ht := turned_ev r 32 (by omega) (by decide)
    have hlt := rev_lt r
    refine Ev.step (f := fun k => (quitrentref06_turned.f k (r : Int) 32).bind fun t => some ((IntKind.u64.wrap (4294967295 - t)) % 4294967296)) (fun k => ?_) (Ev.bind ht ?_)
    · simp only [quitrentref06_Check.l0]
      rw [if_neg (by rw [B_size]; omega)]
    · rw [List.drop_of_length_le (by omega)]
      refine ⟨0, fun k _ => ?_⟩
      show some ((IntKind.u64.wrap (4294967295 - ((rev r : Nat) : Int))) % 4294967296) = some (((4294967295 - rev r : Nat)) : Int)
      rw [u64_in _ (by omega)]
      congr 1
      omega
  | succ d ih =>
    intro r i hr hi hd
    have hil : i < l.length := by omega
    have a2 : l.length - (i + 1) = d := by omega
    have a4 : (i : Int) < (((B l).size : Nat) : Int) := by rw [B_size]; omega
    have a5 : 0 ≤ (i : Int) := by omega
    have e1 : wrap64 ((i : Int) + 1) = ((i + 1 : Nat) : Int) := by unfold wrap64; omega
    have ht := take_cons l i hil
    have hb := bt_B l i hil
    have ih' := fun y hy => ih y (i + 1) hy hil a2
    clear ih
    generalize l[i] = x at ht hb
    have er : refGo (l.drop i) r = refGo (l.drop (i + 1)) (refStep r x.toNat) := by rw [ht]; simp only [refGo, List.foldl_cons]
    rw [er]
    exact refCheck_step (B l) r i x.toNat x.toNat_lt hr a4 a5 hb _ (by rw [e1]; exact ih' _ (refStep_facts r x.toNat hr).2.2.1)
theorem refCheck_ev (b : ByteArray) (hb : b.size ≤ 1000000) : Ev (fun k => quitrentref06_Check.f k b) ((crc b.data.toList : Nat) : Int) := by
  have h := refCheck_l0 b.data.toList (by rw [B_len]; exact hb) b.size 4294967295 0 (by decide) (by omega) (by rw [B_len]; omega)
  rw [B_eta, List.drop_zero, ref_crc] at h
  exact h
theorem check_eq (b : ByteArray) (hb : b.size ≤ 1000000) : record_Check.f b = some ((crc b.data.toList : Nat) : Int) := by
  show (if b.size ≤ 140737488355328 then _ else _) = _
  rw [if_pos (by omega)]

end Go.Proofs.YtnfeknaeikpdmaaDoor.PR
