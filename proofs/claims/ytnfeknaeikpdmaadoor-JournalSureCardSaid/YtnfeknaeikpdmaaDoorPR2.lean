-- Written by a program of this session (pr.py) over the kit's print; Lean checks it.
import Derived.Test.YtnfeknaeikpdmaaDoorPR0
import Derived.Test.YtnfeknaeikpdmaaDoorPR1
namespace Go.Proofs.YtnfeknaeikpdmaaDoor.PR
open Go.RowKit Go.Proofs.YtnfeknaeikpdmaaDoorW.PrintWords Go.Proofs.YtnfeknaeikpdmaaDoorW.PrintLast Go.Proofs.YtnfeknaeikpdmaaDoorW.PrintMore
attribute [local go_sem] max2_int min2_int max_two min_two max_three min_three max_four min_four   -- for this text's walks alone
set_option linter.unusedVariables false
set_option linter.unusedSimpArgs false

/-! ### record_Join: function 13 (a contract of our own) -/
def sumStep (s c : Int) : Int := Go.bits .or .u32 (s * 256 % 4294967296) c
def sum4 (s : ByteArray) : Int := sumStep (sumStep (sumStep (sumStep 0 (bt s 3)) (bt s 4)) (bt s 5)) (bt s 6)
def record_Join.f (k : Nat) (l0 : List ByteArray) : Option (ByteArray × Int) :=
  if l0.length = 0 then (some ((⟨#[]⟩ : ByteArray), 2)) else
  if l0.any (fun b => b.size != 64) then (some ((⟨#[]⟩ : ByteArray), 2)) else
  (record_Head.f k (rdOf ByteArray.empty l0 0)).bind fun b =>
  if b.2.2 = 0 then
    (if b.1 = true then
      (record_Blocks.f b.2.1).bind fun m =>
        if (l0.length : Int) = m then
          (strings_Join.f l0 (⟨#[]⟩ : ByteArray)).bind fun all =>
            if 7 + b.2.1 ≤ all.size ∧ 0 ≤ b.2.1 ∧ b.2.1 ≤ 100000 ∧ all.size ≤ 140737488355328 then
              (record_Check.f (all.extract 7 (7 + b.2.1).toNat)).bind fun c =>
                if c = sum4 all then
                  (strings_Trim.f k (all.extract (7 + b.2.1).toNat all.size) (⟨#[0]⟩ : ByteArray)).bind fun t =>
                    if t.toList = ([] : List UInt8) then (some (all.extract 7 (7 + b.2.1).toNat, 0)) else (some ((⟨#[]⟩ : ByteArray), 8))
                else (some ((⟨#[]⟩ : ByteArray), 8))
            else none
        else (some ((⟨#[]⟩ : ByteArray), 2))
    else (some ((⟨#[]⟩ : ByteArray), 2)))
  else (some ((⟨#[]⟩ : ByteArray), b.2.2))
theorem record_Join.mono : ∀ a0 k, LeO (record_Join.f k a0) (record_Join.f (k + 1) a0) := by
  intro a0 k
  unfold record_Join.f
  repeat' first
      | (with_reducible exact LeO.refl _)
      | (with_reducible exact LeO.none _)
      | (with_reducible exact record_Head.mono _ _)
      | (with_reducible exact strings_Trim.mono _ _ _)
      | (with_reducible refine LeO.ite ?_ ?_)
      | (with_reducible refine LeO.bind ?_ (fun _ => ?_))

theorem rj_at (w : World) (A0 : Option Addr) (l0 : List ByteArray) (h : Kd.C Kd.string w A0 l0.length l0) (j : Nat) (hj : j < l0.length) : ∃ ad, A0 = some ad ∧ w.cell? (ad.add j) = some (.string l0[j]) := by
  obtain ⟨ad, e, hx⟩ := Kd.at_string h (j : Int) (by omega) (by omega)
  refine ⟨ad, e, ?_⟩
  have h2 : rdOf ByteArray.empty l0 (j : Int) = l0[j] := by simp [rdOf, List.getD_eq_getElem?_getD, List.getElem?_eq_getElem hj]
  rw [h2] at hx
  simpa using hx
theorem rj_read (w : World) (A0 : Option Addr) (l0 : List ByteArray) (h : Kd.C Kd.string w A0 l0.length l0) (hn : 0 < l0.length) : ∃ ad, A0 = some ad ∧ ∀ j (hj : j < l0.length), w.cell? (ad.add j) = some (.string l0[j]) := by
  obtain ⟨ad, e, _⟩ := rj_at w A0 l0 h 0 hn
  refine ⟨ad, e, fun j hj => ?_⟩
  obtain ⟨ad2, e2, hc⟩ := rj_at w A0 l0 h j hj
  rw [e] at e2
  obtain rfl := Option.some.inj e2
  exact hc
set_option maxHeartbeats 1000000 in
set_option maxRecDepth 100000 in
theorem rj_empty (A0 : Option Addr) (c0 : Nat) (w : World) :
    Calls Tryd.prog 13 #[.slice A0 0 c0] w fun e w' => e = .returned (.tuple #[.string (⟨#[]⟩ : ByteArray), .int .i64 2]) ∧ Below w.heap.size w w' := by
  go_enter Tryd.func13, Tryd.ntmps13
  go_wp2
  go_ret2
  exact ⟨rfl, Below.refl _ _⟩
set_option maxHeartbeats 1000000 in
set_option maxRecDepth 100000 in
theorem rj_short (A0 : Option Addr) (c0 : Nat) (l0 : List ByteArray) (w : World) (hr0 : Kd.C Kd.string w A0 l0.length l0) (hc0 : l0.length ≤ c0) (m : Nat) (hm : m < l0.length) (hs : l0[m].size ≠ 64) (hbef : ∀ j (hj : j < m), (l0[j]'(by omega)).size = 64) :
    Calls Tryd.prog 13 #[.slice A0 l0.length c0] w fun e w' => e = .returned (.tuple #[.string (⟨#[]⟩ : ByteArray), .int .i64 2]) ∧ Below w.heap.size w w' := by
  obtain ⟨ad, rfl, hc⟩ := rj_read w A0 l0 hr0 (by omega)
  have hlen : l0.length ≤ 9223372036854775807 := hr0.2.1
  have n0 : ((l0.length : Int) == 0) = false := beq_eq_false_iff_ne.mpr (by omega)
  have HC := Aside0.mk hc
  have HB := Aside0.mk hbef
  have HS := Aside0.mk hs
  clear hc hbef hs hr0
  go_enter Tryd.func13, Tryd.ntmps13
  go_wp2
  go_loop [5, 18] (fun _ i => ∃ j : Nat, j ≤ m ∧ i = .int .i64 j) (fun _ i => l0.length - (intOf i).toNat)
  case atStart => exact ⟨0, Nat.zero_le _, rfl⟩
  case round =>
    obtain ⟨j, hj, rfl⟩ := hrel
    have c1 := HC.out j (by omega)
    have hlt : j < l0.length := by omega
    by_cases he : j < m
    · have e1 : (((l0[j]).size : Int) != 64) = false := bne_eq_false_iff_eq.mpr (by have := HB.out j he; omega)
      go_wp2
      go_round
      case rel => exact ⟨j + 1, by omega, by go_num⟩
      case measure => simp [intOf]; omega
    · have : j = m := by omega
      subst this
      have e1 : (((l0[j]).size : Int) != 64) = true := bne_iff_ne.mpr (by have := HS.out; omega)
      go_wp2
      go_ret2
      exact ⟨rfl, Below.refl _ _⟩
set_option maxHeartbeats 1000000 in
set_option maxRecDepth 100000 in
theorem rj_err (k : Nat) (A0 : Option Addr) (c0 : Nat) (l0 : List ByteArray) (w : World) (hr0 : Kd.C Kd.string w A0 l0.length l0) (hc0 : l0.length ≤ c0) (hn : 0 < l0.length) (hall : ∀ j (hj : j < l0.length), l0[j].size = 64)
    (r1 : Bool) (r2 r3 : Int) (hh : record_Head.f k (l0[0]) = some (r1, r2, r3)) (he : r3 ≠ 0) :
    Calls Tryd.prog 13 #[.slice A0 l0.length c0] w fun e w' => e = .returned (.tuple #[.string (⟨#[]⟩ : ByteArray), .int .i64 r3]) ∧ Below w.heap.size w w' := by
  obtain ⟨ad, rfl, hc⟩ := rj_read w A0 l0 hr0 (by omega)
  have hlen : l0.length ≤ 9223372036854775807 := hr0.2.1
  have n0 : ((l0.length : Int) == 0) = false := beq_eq_false_iff_ne.mpr (by omega)
  have n3 : (r3 != 0) = true := bne_iff_ne.mpr he
  have HC := Aside0.mk hc
  have HS := Aside0.mk hall
  have HH := Aside0.mk hh
  have cz : w.cell? ad = some (.string l0[0]) := by simpa [Addr.add] using hc 0 hn
  clear hc hall hr0 hh he
  go_enter Tryd.func13, Tryd.ntmps13
  go_wp2
  go_loop [5, 18] (fun _ i => ∃ j : Nat, j ≤ l0.length ∧ i = .int .i64 j) (fun _ i => l0.length - (intOf i).toNat)
  case atStart => exact ⟨0, Nat.zero_le _, rfl⟩
  case round =>
    obtain ⟨j, hj, rfl⟩ := hrel
    by_cases hlt : j < l0.length
    · have c1 := HC.out j hlt
      have e1 : (((l0[j]).size : Int) != 64) = false := bne_eq_false_iff_eq.mpr (by have := HS.out j hlt; omega)
      clear cz
      go_wp2
      go_round
      case rel => exact ⟨j + 1, by omega, by go_num⟩
      case measure => simp [intOf]; omega
    · go_wp2_with (go_at_call 15; refine (record_Head.calls k _ r1 r2 r3 _ HH.out).mono ?_; rintro e w' ⟨rfl, hd⟩; have hb := Aside0.mk hd.below; clear hd)
      go_ret2
      exact ⟨rfl, hb.out⟩
set_option maxHeartbeats 1000000 in
set_option maxRecDepth 100000 in
theorem rj_mark (k : Nat) (A0 : Option Addr) (c0 : Nat) (l0 : List ByteArray) (w : World) (hr0 : Kd.C Kd.string w A0 l0.length l0) (hc0 : l0.length ≤ c0) (hn : 0 < l0.length) (hall : ∀ j (hj : j < l0.length), l0[j].size = 64)
    (r2 : Int) (hh : record_Head.f k (l0[0]) = some (false, r2, 0)) :
    Calls Tryd.prog 13 #[.slice A0 l0.length c0] w fun e w' => e = .returned (.tuple #[.string (⟨#[]⟩ : ByteArray), .int .i64 2]) ∧ Below w.heap.size w w' := by
  obtain ⟨ad, rfl, hc⟩ := rj_read w A0 l0 hr0 (by omega)
  have hlen : l0.length ≤ 9223372036854775807 := hr0.2.1
  have n0 : ((l0.length : Int) == 0) = false := beq_eq_false_iff_ne.mpr (by omega)
  have HC := Aside0.mk hc
  have HS := Aside0.mk hall
  have HH := Aside0.mk hh
  have cz : w.cell? ad = some (.string l0[0]) := by simpa [Addr.add] using hc 0 hn
  clear hc hall hr0 hh
  go_enter Tryd.func13, Tryd.ntmps13
  go_wp2
  go_loop [5, 18] (fun _ i => ∃ j : Nat, j ≤ l0.length ∧ i = .int .i64 j) (fun _ i => l0.length - (intOf i).toNat)
  case atStart => exact ⟨0, Nat.zero_le _, rfl⟩
  case round =>
    obtain ⟨j, hj, rfl⟩ := hrel
    by_cases hlt : j < l0.length
    · have c1 := HC.out j hlt
      have e1 : (((l0[j]).size : Int) != 64) = false := bne_eq_false_iff_eq.mpr (by have := HS.out j hlt; omega)
      clear cz
      go_wp2
      go_round
      case rel => exact ⟨j + 1, by omega, by go_num⟩
      case measure => simp [intOf]; omega
    · go_wp2_with (go_at_call 15; refine (record_Head.calls k _ false r2 0 _ HH.out).mono ?_; rintro e w' ⟨rfl, hd⟩; have hb := Aside0.mk hd.below; clear hd)
      go_ret2
      exact ⟨rfl, hb.out⟩
set_option maxHeartbeats 1000000 in
set_option maxRecDepth 100000 in
theorem rj_many (k : Nat) (A0 : Option Addr) (c0 : Nat) (l0 : List ByteArray) (w : World) (hr0 : Kd.C Kd.string w A0 l0.length l0) (hc0 : l0.length ≤ c0) (hn : 0 < l0.length) (hall : ∀ j (hj : j < l0.length), l0[j].size = 64)
    (r2 m : Int) (hh : record_Head.f k (l0[0]) = some (true, r2, 0)) (hm : record_Blocks.f r2 = some m) (hne : (l0.length : Int) ≠ m) :
    Calls Tryd.prog 13 #[.slice A0 l0.length c0] w fun e w' => e = .returned (.tuple #[.string (⟨#[]⟩ : ByteArray), .int .i64 2]) ∧ Below w.heap.size w w' := by
  obtain ⟨ad, rfl, hc⟩ := rj_read w A0 l0 hr0 (by omega)
  have hlen : l0.length ≤ 9223372036854775807 := hr0.2.1
  have n0 : ((l0.length : Int) == 0) = false := beq_eq_false_iff_ne.mpr (by omega)
  have n1 : ((l0.length : Int) != m) = true := bne_iff_ne.mpr hne
  have HC := Aside0.mk hc
  have HS := Aside0.mk hall
  have HH := Aside0.mk hh
  have HM := Aside0.mk hm
  have cz : w.cell? ad = some (.string l0[0]) := by simpa [Addr.add] using hc 0 hn
  clear hc hall hr0 hh hm hne
  go_enter Tryd.func13, Tryd.ntmps13
  go_wp2
  go_loop [5, 18] (fun _ i => ∃ j : Nat, j ≤ l0.length ∧ i = .int .i64 j) (fun _ i => l0.length - (intOf i).toNat)
  case atStart => exact ⟨0, Nat.zero_le _, rfl⟩
  case round =>
    obtain ⟨j, hj, rfl⟩ := hrel
    by_cases hlt : j < l0.length
    · have c1 := HC.out j hlt
      have e1 : (((l0[j]).size : Int) != 64) = false := bne_eq_false_iff_eq.mpr (by have := HS.out j hlt; omega)
      clear cz
      go_wp2
      go_round
      case rel => exact ⟨j + 1, by omega, by go_num⟩
      case measure => simp [intOf]; omega
    · go_wp2_with (first | (go_at_call 15; refine (record_Head.calls k _ true r2 0 _ HH.out).mono ?_; rintro e w' ⟨rfl, hd⟩; have hb := Aside0.mk hd.below; clear hd) | (go_at_call 20; refine (record_Blocks.calls r2 m _ HM.out).mono ?_; rintro e w2 ⟨rfl, hd2⟩; have hb2 := Aside0.mk (below_then hb.out hb.out.size hd2.below); clear hd2))
      go_ret2
      exact ⟨rfl, hb2.out⟩
def sumUp (s : ByteArray) : Nat → Int
  | 0 => 0
  | i + 1 => sumStep (sumUp s i) (bt s (3 + i))
theorem rj_cell (W : World) (all : ByteArray) (h : 7 ≤ all.size) (i : Nat) (hi : i < 4) : (Lib.bytesWorld W 5 (all.extract 3 7)).cell? ⟨W.heap.size, i, none⟩ = some (.int .u8 (bt all (3 + i))) := by
  have hs : (all.extract 3 7).size = 4 := by simp; omega
  have h1 := (bytes_reads W 5 (all.extract 3 7) (by omega)).2.2 (by omega)
  obtain ⟨ad, e, hc⟩ := h1
  obtain rfl := Option.some.inj e
  have h2 := hc i (by omega)
  rw [add_plain] at h2
  rw [h2]
  have h3 : (bytesOf (all.extract 3 7)).getD i 0 = bt (all.extract 3 7) (i : Int) := by rw [← rd_bytesOf]; rfl
  rw [h3]
  congr 2
  unfold bt
  rw [dif_pos (show (i : Int).toNat < (all.extract 3 7).size by omega), dif_pos (show (3 + (i : Int)).toNat < all.size by omega)]
  congr 2
  have e3 : (3 + (i : Int)).toNat = 3 + i := by omega
  simp only [Int.toNat_natCast, e3]
  exact ByteArray.getElem_extract _
set_option maxHeartbeats 2000000 in
set_option maxRecDepth 100000 in
theorem rj_sum (k : Nat) (A0 : Option Addr) (c0 : Nat) (l0 : List ByteArray) (w : World) (hr0 : Kd.C Kd.string w A0 l0.length l0) (hc0 : l0.length ≤ c0) (hn : 0 < l0.length) (hall : ∀ j (hj : j < l0.length), l0[j].size = 64)
    (r2 : Int) (hh : record_Head.f k (l0[0]) = some (true, r2, 0)) (hm : record_Blocks.f r2 = some (l0.length : Int)) (all : ByteArray) (hj : strings_Join.f l0 (⟨#[]⟩ : ByteArray) = some all)
    (g1 : 7 + r2 ≤ all.size) (g2 : 0 ≤ r2) (g3 : r2 ≤ 100000) (g4 : all.size ≤ 140737488355328) (c : Int) (hck : record_Check.f (all.extract 7 (7 + r2).toNat) = some c) (hne : c ≠ sum4 all) :
    Calls Tryd.prog 13 #[.slice A0 l0.length c0] w fun e w' => e = .returned (.tuple #[.string (⟨#[]⟩ : ByteArray), .int .i64 8]) ∧ Below w.heap.size w w' := by
  obtain ⟨ad, rfl, hc⟩ := rj_read w A0 l0 hr0 (by omega)
  have hlen : l0.length ≤ 9223372036854775807 := hr0.2.1
  have n0 : ((l0.length : Int) == 0) = false := beq_eq_false_iff_ne.mpr (by omega)
  have HC := Aside0.mk hc
  have HS := Aside0.mk hall
  have HH := Aside0.mk hh
  have HM := Aside0.mk hm
  have HJ := Aside0.mk hj
  have HR := Aside0.mk hr0
  have HK := Aside0.mk hck
  have HN := Aside0.mk hne
  have cz : w.cell? ad = some (.string l0[0]) := by simpa [Addr.add] using hc 0 hn
  have kb := fun W => print_bytes (P := Tryd.prog) 9 39 5 Tryd.underlying9 Tryd.underlying39 Tryd.underlying5 (all.extract 3 7) W
  have hmin : min 7 all.size = 7 := by omega
  clear hc hall hr0 hh hm hj hck hne
  go_enter Tryd.func13, Tryd.ntmps13
  go_wp2
  go_loop [5, 18] (fun _ i => ∃ j : Nat, j ≤ l0.length ∧ i = .int .i64 j) (fun _ i => l0.length - (intOf i).toNat)
  case atStart => exact ⟨0, Nat.zero_le _, rfl⟩
  case round =>
    obtain ⟨j, hj, rfl⟩ := hrel
    by_cases hlt : j < l0.length
    · have c1 := HC.out j hlt
      have e1 : (((l0[j]).size : Int) != 64) = false := bne_eq_false_iff_eq.mpr (by have := HS.out j hlt; omega)
      clear cz kb
      go_wp2
      go_round
      case rel => exact ⟨j + 1, by omega, by go_num⟩
      case measure => simp [intOf]; omega
    · go_wp2_with (first | (go_at_call 15; refine (record_Head.calls k _ true r2 0 _ HH.out).mono ?_; rintro e w' ⟨rfl, hd⟩; have hb := Aside0.mk hd.below; clear hd) | (go_at_call 20; refine (record_Blocks.calls r2 _ _ HM.out).mono ?_; rintro e w2 ⟨rfl, hd2⟩; have hb2 := Aside0.mk (below_then hb.out hb.out.size hd2.below); clear hd2) | (go_at_call 44; refine (strings_Join.calls _ c0 l0 _ all _ (Kd.C_below HR.out hb2.out) hc0 HJ.out).mono ?_; rintro e w3 ⟨rfl, hd3⟩; have hb3 := Aside0.mk (below_then hb2.out hb2.out.size hd3); clear hd3))
      have hz := hb3.out.size
      have HCELL := Aside0.mk (fun i hi => rj_cell w3 all (by omega) i hi)
      go_loop [10, 12, 54] (fun s _ i => ∃ q : Nat, q ≤ 4 ∧ i = .int .i64 q ∧ s = .int .u32 (sumUp all q)) (fun _ _ i => 4 - (intOf i).toNat)
      case atStart => exact ⟨0, Nat.zero_le _, rfl, rfl⟩
      case round =>
        obtain ⟨q, hq, rfl, rfl⟩ := hrel
        by_cases hql : q < 4
        · have cq := HCELL.out q hql
          have hx := bt_range all (3 + q)
          have HX := Aside0.mk (show sumUp all (q + 1) = sumStep (sumUp all q) (bt all (3 + q)) from rfl)
          generalize bt all (3 + q) = x at *
          have ex : x % 4294967296 = x := by omega
          go_wp2
          go_round
          case rel => exact ⟨q + 1, by omega, by go_num, by rw [HX.out]; rfl⟩
          case measure => simp [intOf]; omega
        · have q4 : q = 4 := by omega
          subst q4
          have hb4 := Aside0.mk (bytes_below hb3.out hb3.out.size 5 (all.extract 3 7))
          have hs4 : sumUp all 4 = sum4 all := rfl
          rw [hs4]
          clear hs4 HCELL kb
          generalize Lib.bytesWorld w3 5 (all.extract 3 7) = W4 at *
          generalize sum4 all = S4 at *
          have n5 : (c != S4) = true := bne_iff_ne.mpr HN.out
          go_wp2_with (first | (go_at_call 17; refine (record_Check.calls _ c _ HK.out).mono ?_; rintro e w5 ⟨rfl, hd5⟩; have hb5 := Aside0.mk (below_then hb4.out hb4.out.size hd5); clear hd5))
          go_ret2
          exact ⟨rfl, hb5.out⟩
set_option maxHeartbeats 2000000 in
set_option maxRecDepth 100000 in
theorem rj_tail (k : Nat) (A0 : Option Addr) (c0 : Nat) (l0 : List ByteArray) (w : World) (hr0 : Kd.C Kd.string w A0 l0.length l0) (hc0 : l0.length ≤ c0) (hn : 0 < l0.length) (hall : ∀ j (hj : j < l0.length), l0[j].size = 64)
    (r2 : Int) (hh : record_Head.f k (l0[0]) = some (true, r2, 0)) (hm : record_Blocks.f r2 = some (l0.length : Int)) (all : ByteArray) (hj : strings_Join.f l0 (⟨#[]⟩ : ByteArray) = some all)
    (g1 : 7 + r2 ≤ all.size) (g2 : 0 ≤ r2) (g3 : r2 ≤ 100000) (g4 : all.size ≤ 140737488355328) (c : Int) (hck : record_Check.f (all.extract 7 (7 + r2).toNat) = some c) (heq : c = sum4 all) (t : ByteArray) (ht : strings_Trim.f k (all.extract (7 + r2).toNat all.size) (⟨#[0]⟩ : ByteArray) = some t) (hte : t.toList ≠ []) :
    Calls Tryd.prog 13 #[.slice A0 l0.length c0] w fun e w' => e = .returned (.tuple #[.string (⟨#[]⟩ : ByteArray), .int .i64 8]) ∧ Below w.heap.size w w' := by
  obtain ⟨ad, rfl, hc⟩ := rj_read w A0 l0 hr0 (by omega)
  have hlen : l0.length ≤ 9223372036854775807 := hr0.2.1
  have n0 : ((l0.length : Int) == 0) = false := beq_eq_false_iff_ne.mpr (by omega)
  have HC := Aside0.mk hc
  have HS := Aside0.mk hall
  have HH := Aside0.mk hh
  have HM := Aside0.mk hm
  have HJ := Aside0.mk hj
  have HR := Aside0.mk hr0
  have HK := Aside0.mk hck
  have HN := Aside0.mk heq
  have HT := Aside0.mk ht
  have n6 : (t.toList == ([] : List UInt8)) = false := beq_eq_false_iff_ne.mpr hte
  have cz : w.cell? ad = some (.string l0[0]) := by simpa [Addr.add] using hc 0 hn
  have kb := fun W => print_bytes (P := Tryd.prog) 9 39 5 Tryd.underlying9 Tryd.underlying39 Tryd.underlying5 (all.extract 3 7) W
  have hmin : min 7 all.size = 7 := by omega
  clear hc hall hr0 hh hm hj hck heq ht hte
  go_enter Tryd.func13, Tryd.ntmps13
  go_wp2
  go_loop [5, 18] (fun _ i => ∃ j : Nat, j ≤ l0.length ∧ i = .int .i64 j) (fun _ i => l0.length - (intOf i).toNat)
  case atStart => exact ⟨0, Nat.zero_le _, rfl⟩
  case round =>
    obtain ⟨j, hj, rfl⟩ := hrel
    by_cases hlt : j < l0.length
    · have c1 := HC.out j hlt
      have e1 : (((l0[j]).size : Int) != 64) = false := bne_eq_false_iff_eq.mpr (by have := HS.out j hlt; omega)
      clear cz kb
      go_wp2
      go_round
      case rel => exact ⟨j + 1, by omega, by go_num⟩
      case measure => simp [intOf]; omega
    · go_wp2_with (first | (go_at_call 15; refine (record_Head.calls k _ true r2 0 _ HH.out).mono ?_; rintro e w' ⟨rfl, hd⟩; have hb := Aside0.mk hd.below; clear hd) | (go_at_call 20; refine (record_Blocks.calls r2 _ _ HM.out).mono ?_; rintro e w2 ⟨rfl, hd2⟩; have hb2 := Aside0.mk (below_then hb.out hb.out.size hd2.below); clear hd2) | (go_at_call 44; refine (strings_Join.calls _ c0 l0 _ all _ (Kd.C_below HR.out hb2.out) hc0 HJ.out).mono ?_; rintro e w3 ⟨rfl, hd3⟩; have hb3 := Aside0.mk (below_then hb2.out hb2.out.size hd3); clear hd3))
      have hz := hb3.out.size
      have HCELL := Aside0.mk (fun i hi => rj_cell w3 all (by omega) i hi)
      go_loop [10, 12, 54] (fun s _ i => ∃ q : Nat, q ≤ 4 ∧ i = .int .i64 q ∧ s = .int .u32 (sumUp all q)) (fun _ _ i => 4 - (intOf i).toNat)
      case atStart => exact ⟨0, Nat.zero_le _, rfl, rfl⟩
      case round =>
        obtain ⟨q, hq, rfl, rfl⟩ := hrel
        by_cases hql : q < 4
        · have cq := HCELL.out q hql
          have hx := bt_range all (3 + q)
          have HX := Aside0.mk (show sumUp all (q + 1) = sumStep (sumUp all q) (bt all (3 + q)) from rfl)
          generalize bt all (3 + q) = x at *
          have ex : x % 4294967296 = x := by omega
          go_wp2
          go_round
          case rel => exact ⟨q + 1, by omega, by go_num, by rw [HX.out]; rfl⟩
          case measure => simp [intOf]; omega
        · have q4 : q = 4 := by omega
          subst q4
          have hb4 := Aside0.mk (bytes_below hb3.out hb3.out.size 5 (all.extract 3 7))
          have hs4 : sumUp all 4 = sum4 all := rfl
          rw [hs4]
          clear hs4 HCELL kb
          generalize Lib.bytesWorld w3 5 (all.extract 3 7) = W4 at *
          generalize sum4 all = S4 at *
          have n5 : (c != S4) = false := bne_eq_false_iff_eq.mpr HN.out
          go_wp2_with (first | (go_at_call 17; refine (record_Check.calls _ c _ HK.out).mono ?_; rintro e w5 ⟨rfl, hd5⟩; have hb5 := Aside0.mk (below_then hb4.out hb4.out.size hd5); clear hd5) | (go_at_call 45; refine (strings_Trim.calls k _ _ t _ HT.out).mono ?_; rintro e w6 ⟨rfl, hd6⟩; have hb6 := Aside0.mk (below_then hb5.out hb5.out.size hd6.below); clear hd6))
          go_ret2
          exact ⟨rfl, hb6.out⟩
set_option maxHeartbeats 2000000 in
set_option maxRecDepth 100000 in
theorem rj_good (k : Nat) (A0 : Option Addr) (c0 : Nat) (l0 : List ByteArray) (w : World) (hr0 : Kd.C Kd.string w A0 l0.length l0) (hc0 : l0.length ≤ c0) (hn : 0 < l0.length) (hall : ∀ j (hj : j < l0.length), l0[j].size = 64)
    (r2 : Int) (hh : record_Head.f k (l0[0]) = some (true, r2, 0)) (hm : record_Blocks.f r2 = some (l0.length : Int)) (all : ByteArray) (hj : strings_Join.f l0 (⟨#[]⟩ : ByteArray) = some all)
    (g1 : 7 + r2 ≤ all.size) (g2 : 0 ≤ r2) (g3 : r2 ≤ 100000) (g4 : all.size ≤ 140737488355328) (c : Int) (hck : record_Check.f (all.extract 7 (7 + r2).toNat) = some c) (heq : c = sum4 all) (t : ByteArray) (ht : strings_Trim.f k (all.extract (7 + r2).toNat all.size) (⟨#[0]⟩ : ByteArray) = some t) (hte : t.toList = []) :
    Calls Tryd.prog 13 #[.slice A0 l0.length c0] w fun e w' => e = .returned (.tuple #[.string (all.extract 7 (7 + r2).toNat), .int .i64 0]) ∧ Below w.heap.size w w' := by
  obtain ⟨ad, rfl, hc⟩ := rj_read w A0 l0 hr0 (by omega)
  have hlen : l0.length ≤ 9223372036854775807 := hr0.2.1
  have n0 : ((l0.length : Int) == 0) = false := beq_eq_false_iff_ne.mpr (by omega)
  have HC := Aside0.mk hc
  have HS := Aside0.mk hall
  have HH := Aside0.mk hh
  have HM := Aside0.mk hm
  have HJ := Aside0.mk hj
  have HR := Aside0.mk hr0
  have HK := Aside0.mk hck
  have HN := Aside0.mk heq
  have HT := Aside0.mk ht
  have n6 : (t.toList == ([] : List UInt8)) = true := beq_iff_eq.mpr hte
  have cz : w.cell? ad = some (.string l0[0]) := by simpa [Addr.add] using hc 0 hn
  have kb := fun W => print_bytes (P := Tryd.prog) 9 39 5 Tryd.underlying9 Tryd.underlying39 Tryd.underlying5 (all.extract 3 7) W
  have hmin : min 7 all.size = 7 := by omega
  clear hc hall hr0 hh hm hj hck heq ht hte
  go_enter Tryd.func13, Tryd.ntmps13
  go_wp2
  go_loop [5, 18] (fun _ i => ∃ j : Nat, j ≤ l0.length ∧ i = .int .i64 j) (fun _ i => l0.length - (intOf i).toNat)
  case atStart => exact ⟨0, Nat.zero_le _, rfl⟩
  case round =>
    obtain ⟨j, hj, rfl⟩ := hrel
    by_cases hlt : j < l0.length
    · have c1 := HC.out j hlt
      have e1 : (((l0[j]).size : Int) != 64) = false := bne_eq_false_iff_eq.mpr (by have := HS.out j hlt; omega)
      clear cz kb
      go_wp2
      go_round
      case rel => exact ⟨j + 1, by omega, by go_num⟩
      case measure => simp [intOf]; omega
    · go_wp2_with (first | (go_at_call 15; refine (record_Head.calls k _ true r2 0 _ HH.out).mono ?_; rintro e w' ⟨rfl, hd⟩; have hb := Aside0.mk hd.below; clear hd) | (go_at_call 20; refine (record_Blocks.calls r2 _ _ HM.out).mono ?_; rintro e w2 ⟨rfl, hd2⟩; have hb2 := Aside0.mk (below_then hb.out hb.out.size hd2.below); clear hd2) | (go_at_call 44; refine (strings_Join.calls _ c0 l0 _ all _ (Kd.C_below HR.out hb2.out) hc0 HJ.out).mono ?_; rintro e w3 ⟨rfl, hd3⟩; have hb3 := Aside0.mk (below_then hb2.out hb2.out.size hd3); clear hd3))
      have hz := hb3.out.size
      have HCELL := Aside0.mk (fun i hi => rj_cell w3 all (by omega) i hi)
      go_loop [10, 12, 54] (fun s _ i => ∃ q : Nat, q ≤ 4 ∧ i = .int .i64 q ∧ s = .int .u32 (sumUp all q)) (fun _ _ i => 4 - (intOf i).toNat)
      case atStart => exact ⟨0, Nat.zero_le _, rfl, rfl⟩
      case round =>
        obtain ⟨q, hq, rfl, rfl⟩ := hrel
        by_cases hql : q < 4
        · have cq := HCELL.out q hql
          have hx := bt_range all (3 + q)
          have HX := Aside0.mk (show sumUp all (q + 1) = sumStep (sumUp all q) (bt all (3 + q)) from rfl)
          generalize bt all (3 + q) = x at *
          have ex : x % 4294967296 = x := by omega
          go_wp2
          go_round
          case rel => exact ⟨q + 1, by omega, by go_num, by rw [HX.out]; rfl⟩
          case measure => simp [intOf]; omega
        · have q4 : q = 4 := by omega
          subst q4
          have hb4 := Aside0.mk (bytes_below hb3.out hb3.out.size 5 (all.extract 3 7))
          have hs4 : sumUp all 4 = sum4 all := rfl
          rw [hs4]
          clear hs4 HCELL kb
          generalize Lib.bytesWorld w3 5 (all.extract 3 7) = W4 at *
          generalize sum4 all = S4 at *
          have n5 : (c != S4) = false := bne_eq_false_iff_eq.mpr HN.out
          go_wp2_with (first | (go_at_call 17; refine (record_Check.calls _ c _ HK.out).mono ?_; rintro e w5 ⟨rfl, hd5⟩; have hb5 := Aside0.mk (below_then hb4.out hb4.out.size hd5); clear hd5) | (go_at_call 45; refine (strings_Trim.calls k _ _ t _ HT.out).mono ?_; rintro e w6 ⟨rfl, hd6⟩; have hb6 := Aside0.mk (below_then hb5.out hb5.out.size hd6.below); clear hd6))
          go_ret2
          exact ⟨rfl, hb6.out⟩
theorem rj_first (p : ByteArray → Bool) (l : List ByteArray) (h : l.any p = true) : ∃ m, ∃ hm : m < l.length, p l[m] = true ∧ ∀ j (hj : j < m), p (l[j]'(by omega)) = false := by
  induction l with
  | nil => simp at h
  | cons x l ih =>
    cases hx : p x with
    | true => exact ⟨0, by simp, by simpa using hx, fun j hj => by omega⟩
    | false =>
      simp only [List.any_cons, hx, Bool.false_or] at h
      obtain ⟨m, hm, h1, h2⟩ := ih h
      refine ⟨m + 1, by simpa using hm, by simpa using h1, fun j hj => ?_⟩
      cases j with
      | zero => simpa using hx
      | succ j => simpa using h2 j (by omega)
theorem record_Join.calls (k : Nat) (A0 : Option Addr) (c0 : Nat) (l0 : List ByteArray) (r1 : ByteArray) (r2 : Int) (w : World) (hr0 : Kd.C Kd.string w A0 l0.length l0) (hc0 : l0.length ≤ c0) (h : record_Join.f k l0 = some (r1, r2)) :
    Calls Tryd.prog 13 #[.slice A0 l0.length c0] w fun e w' => e = .returned (.tuple #[.string r1, .int .i64 r2]) ∧ Below w.heap.size w w' := by
  unfold record_Join.f at h
  by_cases h0 : l0.length = 0
  · rw [if_pos h0] at h
    obtain ⟨rfl, rfl⟩ := Prod.mk.inj (Option.some.inj h)
    rw [h0]
    exact rj_empty A0 c0 w
  · rw [if_neg h0] at h
    by_cases ha : l0.any (fun b => b.size != 64) = true
    · rw [if_pos ha] at h
      obtain ⟨rfl, rfl⟩ := Prod.mk.inj (Option.some.inj h)
      obtain ⟨m, hm, h1, h2⟩ := rj_first _ l0 ha
      exact rj_short A0 c0 l0 w hr0 hc0 m hm (by simpa using h1) (fun j hj => by simpa using h2 j hj)
    · rw [if_neg ha] at h
      have hn : 0 < l0.length := by omega
      have hall : ∀ j (hj : j < l0.length), l0[j].size = 64 := by
        intro j hj
        have : ¬ ∃ x, x ∈ l0 ∧ (x.size != 64) = true := by simpa [List.any_eq_true] using ha
        by_cases hs : l0[j].size = 64
        · exact hs
        · exact absurd ⟨l0[j], List.getElem_mem hj, by simpa using hs⟩ this
      have hz : rdOf ByteArray.empty l0 0 = l0[0] := by simp [rdOf, List.getD_eq_getElem?_getD, List.getElem?_eq_getElem hn]
      rw [hz] at h
      obtain ⟨⟨b1, b2, b3⟩, hh, h⟩ := Option.bind_eq_some_iff.1 h
      dsimp only at h
      by_cases h3 : b3 = 0
      · rw [if_pos h3] at h
        subst h3
        cases b1 with
        | false =>
          rw [if_neg (by simp)] at h
          obtain ⟨rfl, rfl⟩ := Prod.mk.inj (Option.some.inj h)
          exact rj_mark k A0 c0 l0 w hr0 hc0 hn hall b2 hh
        | true =>
          rw [if_pos rfl] at h
          obtain ⟨m, hm, h⟩ := Option.bind_eq_some_iff.1 h
          by_cases he : (l0.length : Int) = m
          · rw [if_pos he] at h
            subst he
            obtain ⟨all, hj, h⟩ := Option.bind_eq_some_iff.1 h
            split at h
            · rename_i hg
              obtain ⟨g1, g2, g3, g4⟩ := hg
              obtain ⟨c, hck, h⟩ := Option.bind_eq_some_iff.1 h
              by_cases hc : c = sum4 all
              · rw [if_pos hc] at h
                obtain ⟨t, ht, h⟩ := Option.bind_eq_some_iff.1 h
                by_cases hte : t.toList = ([] : List UInt8)
                · rw [if_pos hte] at h
                  obtain ⟨rfl, rfl⟩ := Prod.mk.inj (Option.some.inj h)
                  exact rj_good k A0 c0 l0 w hr0 hc0 hn hall b2 hh hm all hj g1 g2 g3 g4 c hck hc t ht hte
                · rw [if_neg hte] at h
                  obtain ⟨rfl, rfl⟩ := Prod.mk.inj (Option.some.inj h)
                  exact rj_tail k A0 c0 l0 w hr0 hc0 hn hall b2 hh hm all hj g1 g2 g3 g4 c hck hc t ht hte
              · rw [if_neg hc] at h
                obtain ⟨rfl, rfl⟩ := Prod.mk.inj (Option.some.inj h)
                exact rj_sum k A0 c0 l0 w hr0 hc0 hn hall b2 hh hm all hj g1 g2 g3 g4 c hck hc
            · cases h
          · rw [if_neg he] at h
            obtain ⟨rfl, rfl⟩ := Prod.mk.inj (Option.some.inj h)
            exact rj_many k A0 c0 l0 w hr0 hc0 hn hall b2 m hh hm he
      · rw [if_neg h3] at h
        obtain ⟨rfl, rfl⟩ := Prod.mk.inj (Option.some.inj h)
        exact rj_err k A0 c0 l0 w hr0 hc0 hn hall b1 b2 b3 hh h3


end Go.Proofs.YtnfeknaeikpdmaaDoor.PR
