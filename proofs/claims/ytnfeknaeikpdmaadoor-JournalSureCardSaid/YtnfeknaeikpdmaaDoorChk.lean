/- record.Check tells the check of bytes. -/
import Derived.Test.YtnfeknaeikpdmaaDoorProg
import Derived.Test.YtnfeknaeikpdmaaDoorCrc
import Derived.Test.YtnfeknaeikpdmaaDoorWWords
import Derived.WalkKit
import Derived.WalkLawsBesides
import Derived.WalkSpells
import Derived.KernelRfl
import Derived.Outline
import Derived.Lib.Hide
namespace Go.Proofs.YtnfeknaeikpdmaaDoor
open Go.RowKit Crc
def TAB : Array Value := #[.int .u32 0, .int .u32 498536548, .int .u32 997073096, .int .u32 651767980, .int .u32 1994146192, .int .u32 1802195444, .int .u32 1303535960, .int .u32 1342533948, .int .u32 3988292384, .int .u32 4027552580, .int .u32 3604390888, .int .u32 3412177804, .int .u32 2607071920, .int .u32 2262029012, .int .u32 2685067896, .int .u32 3183342108]
def tabAt (i : Nat) : Nat := tab.getD i 0
theorem tab_cell (w : World) (i : Nat) (hi : i < 16) : (w.alloc (.cells TAB 76)).cell? ⟨w.heap.size, i, none⟩ = some (.int .u32 (tabAt i : Nat)) := by
  rw [cell_of_row _ _ i TAB 76 (0, 0) (heap_alloc_new w _)]
  rcases (by omega : i = 0 ∨ i = 1 ∨ i = 2 ∨ i = 3 ∨ i = 4 ∨ i = 5 ∨ i = 6 ∨ i = 7 ∨ i = 8 ∨ i = 9 ∨ i = 10 ∨ i = 11 ∨ i = 12 ∨ i = 13 ∨ i = 14 ∨ i = 15) with
    rfl | rfl | rfl | rfl | rfl | rfl | rfl | rfl | rfl | rfl | rfl | rfl | rfl | rfl | rfl | rfl <;> rfl
theorem tab_lt : ∀ i, i < 16 → tabAt i < 4294967296 := by decide
theorem nib_lt (c x : Nat) (hc : c < 4294967296) : nib c x < 4294967296 := by
  unfold nib
  exact Nat.xor_lt_two_pow (n := 32) (by omega) (tab_lt _ (Nat.mod_lt _ (by decide)))
theorem idx_eq (c x : Nat) (hc : c < 4294967296) (hx : x < 256) : bits .and .u32 (bits .xor .u32 (c : Int) (x : Int)) 15 = (((c ^^^ x) % 16 : Nat) : Int) := by
  rw [u32_xor_nat c x hc (by omega)]
  have h := u32_and_nat (c ^^^ x) 15 (Nat.xor_lt_two_pow (n := 32) (by simpa using hc) (by omega)) (by decide)
  rw [nat_mask4] at h
  exact h
theorem nib_int (c x : Nat) (hc : c < 4294967296) : bits .xor .u32 ((c : Int) / 16) (tabAt ((c ^^^ x) % 16) : Nat) = (nib c x : Nat) := by
  have e : ((c : Int) / 16) = ((c / 16 : Nat) : Int) := by omega
  rw [e, u32_xor_nat _ _ (by omega) (tab_lt _ (Nat.mod_lt _ (by decide)))]
  rfl
theorem go_snoc (s : ByteArray) (k : Nat) (h : k < s.size) : go (s.data.toList.take (k + 1)) 4294967295 = byteStep (go (s.data.toList.take k) 4294967295) s[k].toNat := by
  rw [List.take_succ_eq_append_getElem (by simpa using h)]
  simp only [go, List.foldl_append, List.foldl_cons, List.foldl_nil]
  rfl
theorem ret_u32 {a b : Int} (h : a = b) : Ending.returned (.int .u32 a) = .returned (.int .u32 b) := by rw [h]
theorem ones_xor (x : Nat) (h : x < 4294967296) : 4294967295 ^^^ x = 4294967295 - x := by
  apply Nat.eq_of_testBit_eq; intro i
  rw [Nat.testBit_xor, show 4294967295 - x = 2 ^ 32 - (x + 1) by omega, Nat.testBit_two_pow_sub_succ (by simpa using h), show (4294967295 : Nat) = 2 ^ 32 - 1 by rfl, Nat.testBit_two_pow_sub_one]
  by_cases hi : i < 32
  · simp [hi]
  · simp only [hi, decide_false, Bool.false_bne, Bool.false_and]
    exact Nat.testBit_lt_two_pow (Nat.lt_of_lt_of_le h (Nat.pow_le_pow_right (n := 2) (by decide) (show 32 ≤ i by omega)))
theorem crc_end (l : List UInt8) (h : go l 4294967295 < 4294967296) : bits .xor .u32 IntKind.u32.max (go l 4294967295 : Nat) = (crc l : Nat) := by
  show bits .xor .u32 ((4294967295 : Nat) : Int) (go l 4294967295 : Nat) = _
  rw [u32_xor_nat _ _ (by decide) h, ones_xor _ h]
  rfl
set_option maxHeartbeats 1000000 in
theorem check_any (s : ByteArray) (w : World) (hs : s.size ≤ 140737488355328) :
    Calls Tryd.prog 17 #[.string s] w fun e w' => e = .returned (.int .u32 (crc s.data.toList : Nat)) ∧ Below w.heap.size w w' := by
  have hcell : ∀ i : Nat, i < 16 → (w.alloc (.cells TAB 76)).cell? ⟨w.heap.size, i, none⟩ = some (.int .u32 (tabAt i : Nat)) := fun i hi => tab_cell w i hi
  have hb : Below w.heap.size w (w.alloc (.cells TAB 76)) := (Below.refl _ _).alloc (Nat.le_refl _) _
  unfold TAB at hcell hb
  go_enter Tryd.func17, Tryd.ntmps17
  go_wp2
  generalize w.alloc _ = W at *
  have HC := Lib.hid hcell
  clear hcell
  go_loop [4, 10] (fun c i => ∃ k : Nat, k ≤ s.size ∧ i = .int .i64 k ∧ c = .int .u32 (go (s.data.toList.take k) 4294967295 : Nat)) (fun _ i => s.size - (intOf i).toNat)
  case atStart => exact ⟨0, Nat.zero_le _, rfl, rfl⟩
  case round =>
    obtain ⟨k, hk, rfl, rfl⟩ := hrel
    have hC : go (s.data.toList.take k) 4294967295 < 4294967296 := go_lt _ _ (by decide)
    by_cases hlt : k < s.size
    · have hx : s[k].toNat < 256 := s[k].toNat_lt
      have ex : (s[k].toNat : Int) % 4294967296 = s[k].toNat := by omega
      have hsn := Lib.hid (go_snoc s k hlt)
      generalize go (s.data.toList.take k) 4294967295 = C at *
      have e1 := idx_eq C s[k].toNat hC hx
      have n1 : nib C s[k].toNat < 4294967296 := nib_lt _ _ hC
      have e2 := nib_int C s[k].toNat hC
      have c1 := HC.out ((C ^^^ s[k].toNat) % 16) (Nat.mod_lt _ (by decide))
      have e3 : bits .and .u32 (bits .xor .u32 (nib C s[k].toNat : Int) ((s[k].toNat : Int) / 16)) 15 = (((nib C s[k].toNat ^^^ s[k].toNat / 16) % 16 : Nat) : Int) := by
        have := idx_eq (nib C s[k].toNat) (s[k].toNat / 16) n1 (by omega)
        rwa [show ((s[k].toNat / 16 : Nat) : Int) = (s[k].toNat : Int) / 16 by omega] at this
      have e4 : bits .xor .u32 ((nib C s[k].toNat : Int) / 16) (tabAt ((nib C s[k].toNat ^^^ s[k].toNat / 16) % 16) : Nat) = (byteStep C s[k].toNat : Nat) := nib_int _ _ n1
      have c2 := HC.out ((nib C s[k].toNat ^^^ s[k].toNat / 16) % 16) (Nat.mod_lt _ (by decide))
      have m1 : (C ^^^ s[k].toNat) % 16 < 16 := Nat.mod_lt _ (by decide)
      have m2 : (nib C s[k].toNat ^^^ s[k].toNat / 16) % 16 < 16 := Nat.mod_lt _ (by decide)
      go_wp2
      go_round
      case rel => exact ⟨k + 1, by omega, by go_num, by rw [hsn.out]⟩
      case measure => simp [intOf]; omega
    · go_wp2
      go_ret
      have e : s.data.toList.take k = s.data.toList := List.take_of_length_le (by simp; omega)
      rw [e] at hC ⊢
      refine ⟨?_, hb⟩
      exact ret_u32 (crc_end _ hC)
end Go.Proofs.YtnfeknaeikpdmaaDoor
