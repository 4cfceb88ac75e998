-- Written by a program of this session (pr.py) over the kit's print; Lean checks it.
import Derived.Test.YtnfeknaeikpdmaaDoorPR0
import Derived.Test.YtnfeknaeikpdmaaDoorPR3
namespace Go.Proofs.YtnfeknaeikpdmaaDoor.PR
open Go.RowKit Go.Proofs.YtnfeknaeikpdmaaDoorW.PrintWords Go.Proofs.YtnfeknaeikpdmaaDoorW.PrintLast Go.Proofs.YtnfeknaeikpdmaaDoorW.PrintMore
attribute [local go_sem] max2_int min2_int max_two min_two max_three min_three max_four min_four   -- for this text's walks alone
set_option linter.unusedVariables false
set_option linter.unusedSimpArgs false

/-! ### quitrentref06_Check: function 18 -/
mutual
def quitrentref06_Check.l0 : Nat → ByteArray → Int → Int → Option (Int)
  | 0, _, _, _ => none
  | k + 1, x0, x3, x4 => if x4 < (x0.size : Int) then (if 0 ≤ x4 then ((quitrentref06_turned.f k (IntKind.u64.wrap (bt x0 x4)) 8).bind fun t147 => (quitrentref06_Check.l1 k x0 (Go.bits .xor .u64 x3 (IntKind.u64.wrap (t147 * 16777216))) x4 0)) else (none)) else ((quitrentref06_turned.f k x3 32).bind fun t146 => (some ((IntKind.u64.wrap (4294967295 - t146)) % 4294967296)))
def quitrentref06_Check.l1 : Nat → ByteArray → Int → Int → Int → Option (Int)
  | 0, _, _, _, _ => none
  | k + 1, x0, x3, x4, x5 => if x5 < 8 then (if (IntKind.u64.wrap (2 * x3)) ≥ 4294967296 then (quitrentref06_Check.l1 k x0 (Go.bits .xor .u64 (IntKind.u64.wrap ((IntKind.u64.wrap (2 * x3)) - 4294967296)) 79764919) x4 (wrap64 (x5 + 1))) else (quitrentref06_Check.l1 k x0 (IntKind.u64.wrap (2 * x3)) x4 (wrap64 (x5 + 1)))) else (quitrentref06_Check.l0 k x0 x3 (wrap64 (x4 + 1)))
end
def quitrentref06_Check.f (k : Nat) (a0 : ByteArray) : Option (Int) := quitrentref06_Check.l0 k a0 4294967295 0
theorem quitrentref06_Check.mono_l : ∀ k, (∀ y0 y1 y2, LeO (quitrentref06_Check.l0 k y0 y1 y2) (quitrentref06_Check.l0 (k + 1) y0 y1 y2)) ∧ (∀ y0 y1 y2 y3, LeO (quitrentref06_Check.l1 k y0 y1 y2 y3) (quitrentref06_Check.l1 (k + 1) y0 y1 y2 y3))
  | 0 => ⟨fun _ _ _ r h => by simp [quitrentref06_Check.l0] at h, fun _ _ _ _ r h => by simp [quitrentref06_Check.l1] at h⟩
  | k + 1 => by
    obtain ⟨ih0, ih1⟩ := quitrentref06_Check.mono_l k
    refine ⟨?_, ?_⟩
    · intro y0 y1 y2
      unfold quitrentref06_Check.l0
      repeat' first
      | (with_reducible exact ih0 _ _ _)
      | (with_reducible exact ih1 _ _ _ _)
      | (with_reducible exact quitrentref06_turned.mono _ _ _)
      | (with_reducible exact LeO.refl _)
      | (with_reducible exact LeO.none _)
      | (with_reducible refine LeO.ite ?_ ?_)
      | (with_reducible refine LeO.bind ?_ (fun _ => ?_))
      | exact ih0 _ _ _
      | exact ih1 _ _ _ _
      | exact quitrentref06_turned.mono _ _ _
      | exact LeO.none _
      | refine LeO.ite ?_ ?_
      | refine LeO.bind ?_ (fun _ => ?_)
    · intro y0 y1 y2 y3
      unfold quitrentref06_Check.l1
      repeat' first
      | (with_reducible exact ih0 _ _ _)
      | (with_reducible exact ih1 _ _ _ _)
      | (with_reducible exact quitrentref06_turned.mono _ _ _)
      | (with_reducible exact LeO.refl _)
      | (with_reducible exact LeO.none _)
      | (with_reducible refine LeO.ite ?_ ?_)
      | (with_reducible refine LeO.bind ?_ (fun _ => ?_))
      | exact ih0 _ _ _
      | exact ih1 _ _ _ _
      | exact quitrentref06_turned.mono _ _ _
      | exact LeO.none _
      | refine LeO.ite ?_ ?_
      | refine LeO.bind ?_ (fun _ => ?_)
theorem quitrentref06_Check.mono : ∀ a0 k, LeO (quitrentref06_Check.f k a0) (quitrentref06_Check.f (k + 1) a0) := by
  intro a0 k
  obtain ⟨ih0, ih1⟩ := quitrentref06_Check.mono_l k
  unfold quitrentref06_Check.f
  repeat' first
      | (with_reducible exact ih0 _ _ _)
      | (with_reducible exact ih1 _ _ _ _)
      | (with_reducible exact quitrentref06_turned.mono _ _ _)
      | (with_reducible exact LeO.refl _)
      | (with_reducible exact LeO.none _)
      | (with_reducible refine LeO.ite ?_ ?_)
      | (with_reducible refine LeO.bind ?_ (fun _ => ?_))
      | exact ih0 _ _ _
      | exact ih1 _ _ _ _
      | exact quitrentref06_turned.mono _ _ _
      | exact LeO.none _
      | refine LeO.ite ?_ ?_
      | refine LeO.bind ?_ (fun _ => ?_)
set_option maxHeartbeats 8000000 in
set_option maxRecDepth 100000 in
theorem quitrentref06_Check.calls (k : Nat) (a0 : ByteArray) (r : Int) (w : World) (h : quitrentref06_Check.f k a0 = some r) :
    Calls Tryd.prog 18 #[.string a0] w fun e w' => e = .returned (.int .u32 r) ∧ Drawn0 w w' := by
  have H : (quitrentref06_Check.l0 k a0 4294967295 0) = some r := h
  clear h
  have H' := Aside0.mk H
  clear H
  go_enter Tryd.func18, Tryd.ntmps18
  go_wp2
  go_loopg [3, 4] k (fun kq v3 v4 w' => ∃ (x3_1 : Int) (x4_1 : Int), v3 = .int .u64 x3_1 ∧ v4 = .int .i64 x4_1 ∧ Aside0 (quitrentref06_Check.l0 kq a0 x3_1 x4_1 = some r) ∧ Aside0 (kq ≤ k) ∧ Drawn0 w w')
  case atStart => exact ⟨(4294967295), (0), (by first | rfl | (simp; done) | (simp [*]; done)), (by first | rfl | (simp; done) | (simp [*]; done)), H', ⟨Nat.le_refl _⟩, by repeat (first | exact Drawn0.refl _ | apply Drawn0.step)⟩
  case round =>
    clear H'
    try clear c1
    obtain ⟨x3_1, x4_1, rfl, rfl, HA, HK1, ⟨m1, rfl⟩⟩ := hrel
    cases gk with
    | zero => exact absurd HA.out (by simp [quitrentref06_Check.l0])
    | succ k1 =>
      have H := HA.out
      clear HA
      simp only [quitrentref06_Check.l0] at H
      by_cases c2 : x4_1 < (a0.size : Int)
      · rw [if_pos c2] at H
        have c2b0 : decide (x4_1 < (a0.size : Int)) = true := decide_eq_true c2
        clear c2
        by_cases c3 : 0 ≤ x4_1
        · rw [if_pos c3] at H
          have c3b0 : decide (0 ≤ x4_1) = true := decide_eq_true c3
          clear c3
          replace H := Option.bind_eq_some_iff.mp H
          obtain ⟨t147, A50, H⟩ := H
          replace H : (quitrentref06_Check.l1 k1 a0 (Go.bits .xor .u64 x3_1 (IntKind.u64.wrap (t147 * 16777216))) x4_1 0) = some r := H
          have A5 := Aside0.mk A50
          clear A50
          have H' := Aside0.mk H
          clear H
          have p4 : 0 ≤ (x4_1 : Int) := of_decide_eq_true (by first | (with_reducible assumption) | assumption)
          have q4 : x4_1 < (a0.size : Int) := of_decide_eq_true (by first | (with_reducible assumption) | assumption)
          have hx4 := bt_at a0 x4_1
          replace p4 := eq_true p4
          replace q4 := eq_true q4
          go_wp2_with (first | ((with_reducible refine gate_callee (f := 46) rfl ?_); refine goesL_ (some 17) rfl rfl Tryd.func46 (by kernel_rfl) rfl #[.int .u64 (IntKind.u64.wrap (bt a0 x4_1)), .int .i64 8] rfl (by (try simp only [List.map_toArray, List.map_cons, List.map_nil]); first | done | rfl | (simp only [List.length_drop, List.length_take]; rfl)) ?_; (with_reducible refine (quitrentref06_turned.calls k1 (IntKind.u64.wrap (bt a0 x4_1)) 8 t147 _ A5.out).mono ?_); rintro e w' ⟨rfl, ⟨nd, rfl⟩⟩; refine ⟨_, rfl, ?_⟩))
          go_loopg [3, 5] k1 (fun kq v3 v5 w' => ∃ (x3_2 : Int) (x5_2 : Int), v3 = .int .u64 x3_2 ∧ v5 = .int .i64 x5_2 ∧ Aside0 (quitrentref06_Check.l1 kq a0 x3_2 x4_1 x5_2 = some r) ∧ Aside0 (kq ≤ k1) ∧ Drawn0 w w')
          case atStart => exact ⟨(Go.bits .xor .u64 x3_1 (IntKind.u64.wrap (t147 * 16777216))), (0), (by first | rfl | (simp; done) | (simp [*]; done)), (by first | rfl | (simp; done) | (simp [*]; done)), H', ⟨Nat.le_refl _⟩, by repeat (first | exact Drawn0.refl _ | apply Drawn0.step)⟩
          case round =>
            clear H'
            try clear c1
            try clear c2
            try clear c2b0
            try clear p2
            try clear c3
            try clear c3b0
            try clear c4
            try clear p4
            try clear q4
            try clear hx4
            try clear p4
            try clear q4
            obtain ⟨x3_2, x5_2, rfl, rfl, HA, HK2, ⟨m2, rfl⟩⟩ := hrel
            cases gk with
            | zero => exact absurd HA.out (by simp [quitrentref06_Check.l1])
            | succ k2 =>
              have H := HA.out
              clear HA
              simp only [quitrentref06_Check.l1] at H
              by_cases c6 : x5_2 < 8
              · rw [if_pos c6] at H
                have c6b0 : decide (x5_2 < 8) = true := decide_eq_true c6
                clear c6
                by_cases c7 : (IntKind.u64.wrap (2 * x3_2)) ≥ 4294967296
                · rw [if_pos c7] at H
                  have c7b0 : decide (4294967296 ≤ (IntKind.u64.wrap (2 * x3_2))) = true := decide_eq_true c7
                  clear c7
                  have H' := Aside0.mk H
                  clear H
                  go_wp2
                  go_roundg k2
                  case measure => have := HK1.out; have := HK2.out; omega
                  case rel => exact ⟨(Go.bits .xor .u64 (IntKind.u64.wrap ((IntKind.u64.wrap (2 * x3_2)) - 4294967296)) 79764919), (wrap64 (x5_2 + 1)), (by first | rfl | (simp; done) | (simp [*]; done)), (by first | rfl | (simp; done) | (simp [*]; done)), H', ⟨by have := HK1.out; have := HK2.out; omega⟩, by repeat (first | exact Drawn0.refl _ | apply Drawn0.step)⟩
                · rw [if_neg c7] at H
                  have c7b0 : decide (4294967296 ≤ (IntKind.u64.wrap (2 * x3_2))) = false := decide_eq_false c7
                  clear c7
                  have H' := Aside0.mk H
                  clear H
                  go_wp2
                  go_roundg k2
                  case measure => have := HK1.out; have := HK2.out; omega
                  case rel => exact ⟨(IntKind.u64.wrap (2 * x3_2)), (wrap64 (x5_2 + 1)), (by first | rfl | (simp; done) | (simp [*]; done)), (by first | rfl | (simp; done) | (simp [*]; done)), H', ⟨by have := HK1.out; have := HK2.out; omega⟩, by repeat (first | exact Drawn0.refl _ | apply Drawn0.step)⟩
              · rw [if_neg c6] at H
                have c6b0 : decide (x5_2 < 8) = false := decide_eq_false c6
                clear c6
                have H' := Aside0.mk H
                clear H
                go_wp2
                go_roundg k2
                case measure => have := HK1.out; have := HK2.out; omega
                case rel => exact ⟨(x3_2), (wrap64 (x4_1 + 1)), (by first | rfl | (simp; done) | (simp [*]; done)), (by first | rfl | (simp; done) | (simp [*]; done)), H', ⟨by have := HK1.out; have := HK2.out; omega⟩, by repeat (first | exact Drawn0.refl _ | apply Drawn0.step)⟩
        · rw [if_neg c3] at H
          exact absurd H (by simp)
      · rw [if_neg c2] at H
        have c2b0 : decide (x4_1 < (a0.size : Int)) = false := decide_eq_false c2
        clear c2
        replace H := Option.bind_eq_some_iff.mp H
        obtain ⟨t146, A80, H⟩ := H
        replace H : (some ((IntKind.u64.wrap (4294967295 - t146)) % 4294967296)) = some r := H
        have A8 := Aside0.mk A80
        clear A80
        obtain rfl := Option.some.inj H
        go_wp2_with (first | ((with_reducible refine gate_callee (f := 46) rfl ?_); refine goesL_ (some 33) rfl rfl Tryd.func46 (by kernel_rfl) rfl #[.int .u64 x3_1, .int .i64 32] rfl (by (try simp only [List.map_toArray, List.map_cons, List.map_nil]); first | done | rfl | (simp only [List.length_drop, List.length_take]; rfl)) ?_; (with_reducible refine (quitrentref06_turned.calls k1 x3_1 32 t146 _ A8.out).mono ?_); rintro e w' ⟨rfl, ⟨nd, rfl⟩⟩; refine ⟨_, rfl, ?_⟩))
        go_ret
        exact ⟨by first | rfl | (simp; done) | (simp [*]; done), by repeat (first | exact Drawn0.refl _ | apply Drawn0.step)⟩

/-! ### quitrentref06_Lay: function 12 -/
mutual
def quitrentref06_Lay.j0 : Nat → ByteArray → Option (List ByteArray × Int)
  | 0, _ => none
  | k + 1, x7 => quitrentref06_Lay.l0 k x7 (([] : List ByteArray))
def quitrentref06_Lay.l0 : Nat → ByteArray → List ByteArray → Option (List ByteArray × Int)
  | 0, _, _ => none
  | k + 1, x7, x8 => if ((x7.size : Int) % 64) = 0 then (quitrentref06_Lay.l1 k x7 x8 0) else (if x7.size + 1 ≤ 9223372036854775807 then (quitrentref06_Lay.l0 k (x7 ++ (⟨#[0]⟩ : ByteArray)) x8) else (none))
def quitrentref06_Lay.l1 : Nat → ByteArray → List ByteArray → Int → Option (List ByteArray × Int)
  | 0, _, _, _ => none
  | k + 1, x7, x8, x9 => if x9 < (x7.size : Int) then (if 0 ≤ x9 then (if x9 ≤ (wrap64 (x9 + 64)) then (if (wrap64 (x9 + 64)) ≤ (x7.size : Int) then (if x8.length < 8796093022208 then (quitrentref06_Lay.l1 k x7 (x8 ++ [x7.extract (x9 : Int).toNat ((wrap64 (x9 + 64)) : Int).toNat]) (wrap64 (x9 + 64))) else (none)) else (none)) else (none)) else (none)) else (some (x8, 0))
end
def quitrentref06_Lay.f (k : Nat) (a0 : ByteArray) (a1 : Bool) : Option (List ByteArray × Int) := if (a0.size : Int) > 40000 then (some (([] : List ByteArray), 4)) else ((quitrentref06_Check.f k a0).bind fun t148 => ((some (([0, ((a0.size : Int) / 256) % 256, (a0.size : Int) % 256, (Int.tdiv t148 16777216) % 256, (Int.tdiv t148 65536) % 256, (Int.tdiv t148 256) % 256, (Int.tmod t148 256) % 256] : List Int) : List Int)).bind fun y149 => (if (strOfNums y149).size + a0.size ≤ 9223372036854775807 then (if a1 = true then (if 1 ≤ (((strOfNums y149) ++ a0).size : Int) then (if 1 + (((strOfNums y149) ++ a0).extract 1 ((strOfNums y149) ++ a0).size).size ≤ 9223372036854775807 then (quitrentref06_Lay.j0 k ((⟨#[1]⟩ : ByteArray) ++ (((strOfNums y149) ++ a0).extract 1 ((strOfNums y149) ++ a0).size))) else (none)) else (none)) else (quitrentref06_Lay.j0 k ((strOfNums y149) ++ a0))) else (none))))
theorem quitrentref06_Lay.mono_l : ∀ k, (∀ y0, LeO (quitrentref06_Lay.j0 k y0) (quitrentref06_Lay.j0 (k + 1) y0)) ∧ (∀ y0 y1, LeO (quitrentref06_Lay.l0 k y0 y1) (quitrentref06_Lay.l0 (k + 1) y0 y1)) ∧ (∀ y0 y1 y2, LeO (quitrentref06_Lay.l1 k y0 y1 y2) (quitrentref06_Lay.l1 (k + 1) y0 y1 y2))
  | 0 => ⟨fun _ r h => by simp [quitrentref06_Lay.j0] at h, fun _ _ r h => by simp [quitrentref06_Lay.l0] at h, fun _ _ _ r h => by simp [quitrentref06_Lay.l1] at h⟩
  | k + 1 => by
    obtain ⟨ih0, ih1, ih2⟩ := quitrentref06_Lay.mono_l k
    refine ⟨?_, ?_, ?_⟩
    · intro y0
      unfold quitrentref06_Lay.j0
      repeat' first
      | (with_reducible exact ih0 _)
      | (with_reducible exact ih1 _ _)
      | (with_reducible exact ih2 _ _ _)
      | (with_reducible exact quitrentref06_Check.mono _ _)
      | (with_reducible exact LeO.refl _)
      | (with_reducible exact LeO.none _)
      | (with_reducible refine LeO.ite ?_ ?_)
      | (with_reducible refine LeO.bind ?_ (fun _ => ?_))
      | exact ih0 _
      | exact ih1 _ _
      | exact ih2 _ _ _
      | exact quitrentref06_Check.mono _ _
      | exact LeO.none _
      | refine LeO.ite ?_ ?_
      | refine LeO.bind ?_ (fun _ => ?_)
    · intro y0 y1
      unfold quitrentref06_Lay.l0
      repeat' first
      | (with_reducible exact ih0 _)
      | (with_reducible exact ih1 _ _)
      | (with_reducible exact ih2 _ _ _)
      | (with_reducible exact quitrentref06_Check.mono _ _)
      | (with_reducible exact LeO.refl _)
      | (with_reducible exact LeO.none _)
      | (with_reducible refine LeO.ite ?_ ?_)
      | (with_reducible refine LeO.bind ?_ (fun _ => ?_))
      | exact ih0 _
      | exact ih1 _ _
      | exact ih2 _ _ _
      | exact quitrentref06_Check.mono _ _
      | exact LeO.none _
      | refine LeO.ite ?_ ?_
      | refine LeO.bind ?_ (fun _ => ?_)
    · intro y0 y1 y2
      unfold quitrentref06_Lay.l1
      repeat' first
      | (with_reducible exact ih0 _)
      | (with_reducible exact ih1 _ _)
      | (with_reducible exact ih2 _ _ _)
      | (with_reducible exact quitrentref06_Check.mono _ _)
      | (with_reducible exact LeO.refl _)
      | (with_reducible exact LeO.none _)
      | (with_reducible refine LeO.ite ?_ ?_)
      | (with_reducible refine LeO.bind ?_ (fun _ => ?_))
      | exact ih0 _
      | exact ih1 _ _
      | exact ih2 _ _ _
      | exact quitrentref06_Check.mono _ _
      | exact LeO.none _
      | refine LeO.ite ?_ ?_
      | refine LeO.bind ?_ (fun _ => ?_)
theorem quitrentref06_Lay.mono : ∀ a0 a1 k, LeO (quitrentref06_Lay.f k a0 a1) (quitrentref06_Lay.f (k + 1) a0 a1) := by
  intro a0 a1 k
  obtain ⟨ih0, ih1, ih2⟩ := quitrentref06_Lay.mono_l k
  unfold quitrentref06_Lay.f
  repeat' first
      | (with_reducible exact ih0 _)
      | (with_reducible exact ih1 _ _)
      | (with_reducible exact ih2 _ _ _)
      | (with_reducible exact quitrentref06_Check.mono _ _)
      | (with_reducible exact LeO.refl _)
      | (with_reducible exact LeO.none _)
      | (with_reducible refine LeO.ite ?_ ?_)
      | (with_reducible refine LeO.bind ?_ (fun _ => ?_))
      | exact ih0 _
      | exact ih1 _ _
      | exact ih2 _ _ _
      | exact quitrentref06_Check.mono _ _
      | exact LeO.none _
      | refine LeO.ite ?_ ?_
      | refine LeO.bind ?_ (fun _ => ?_)
set_option maxHeartbeats 8000000 in
set_option maxRecDepth 100000 in
theorem quitrentref06_Lay.calls (k : Nat) (a0 : ByteArray) (a1 : Bool) (r1 : List ByteArray) (r2 : Int) (w : World) (h : quitrentref06_Lay.f k a0 a1 = some (r1, r2)) :
    Calls Tryd.prog 12 #[.string a0, .bool a1] w fun e w' => ∃ v0_ : Value, e = .returned (.tuple #[v0_, .int .i64 r2]) ∧ Kd.R Kd.string 9 w' w.heap.size (fun _ => True) v0_ r1 ∧ Below w.heap.size w w' := by
  have HB := Aside0.mk (Below.refl w.heap.size w)
  have H : (if (a0.size : Int) > 40000 then (some (([] : List ByteArray), 4)) else ((quitrentref06_Check.f k a0).bind fun t148 => ((some (([0, ((a0.size : Int) / 256) % 256, (a0.size : Int) % 256, (Int.tdiv t148 16777216) % 256, (Int.tdiv t148 65536) % 256, (Int.tdiv t148 256) % 256, (Int.tmod t148 256) % 256] : List Int) : List Int)).bind fun y149 => (if (strOfNums y149).size + a0.size ≤ 9223372036854775807 then (if a1 = true then (if 1 ≤ (((strOfNums y149) ++ a0).size : Int) then (if 1 + (((strOfNums y149) ++ a0).extract 1 ((strOfNums y149) ++ a0).size).size ≤ 9223372036854775807 then (quitrentref06_Lay.j0 k ((⟨#[1]⟩ : ByteArray) ++ (((strOfNums y149) ++ a0).extract 1 ((strOfNums y149) ++ a0).size))) else (none)) else (none)) else (quitrentref06_Lay.j0 k ((strOfNums y149) ++ a0))) else (none))))) = some (r1, r2) := h
  clear h
  by_cases c3 : (a0.size : Int) > 40000
  · rw [if_pos c3] at H
    have c3b0 : decide (40000 < (a0.size : Int)) = true := decide_eq_true c3
    have c3b1 : decide (40000 < a0.size) = true := decide_eq_true (by omega)
    clear c3
    simp only [Option.some.injEq, Prod.mk.injEq] at H
    obtain ⟨rfl, rfl⟩ := H
    go_enter Tryd.func12, Tryd.ntmps12
    go_wp2
    go_ret2
    exact ⟨_, by first | rfl | (simp [errW_none, errW_some] <;> rfl) | (simp [*, errW_none, errW_some] <;> rfl), by first | exact Kd.R_nil _ _ _ _ _ | exact Kd.N_nil _ _ _ _ _ | exact Kd.V_nil _ _ _ _ _ | exact Kd.Q_nil _ _ _ _ _ | exact Kd.S_nil _ _ _ _ _, by repeat (first | (with_reducible first | exact HB.out | apply below_alloc | apply pw_below_drewN | apply below_drew1) | exact HB.out)⟩
  · rw [if_neg c3] at H
    have c3b0 : decide (40000 < (a0.size : Int)) = false := decide_eq_false c3
    have c3b1 : decide (40000 < a0.size) = false := decide_eq_false (by omega)
    clear c3
    replace H := Option.bind_eq_some_iff.mp H
    obtain ⟨t148, A40, H⟩ := H
    replace H : ((some (([0, ((a0.size : Int) / 256) % 256, (a0.size : Int) % 256, (Int.tdiv t148 16777216) % 256, (Int.tdiv t148 65536) % 256, (Int.tdiv t148 256) % 256, (Int.tmod t148 256) % 256] : List Int) : List Int)).bind fun y149 => (if (strOfNums y149).size + a0.size ≤ 9223372036854775807 then (if a1 = true then (if 1 ≤ (((strOfNums y149) ++ a0).size : Int) then (if 1 + (((strOfNums y149) ++ a0).extract 1 ((strOfNums y149) ++ a0).size).size ≤ 9223372036854775807 then (quitrentref06_Lay.j0 k ((⟨#[1]⟩ : ByteArray) ++ (((strOfNums y149) ++ a0).extract 1 ((strOfNums y149) ++ a0).size))) else (none)) else (none)) else (quitrentref06_Lay.j0 k ((strOfNums y149) ++ a0))) else (none))) = some (r1, r2) := H
    have A4 := Aside0.mk A40
    clear A40
    obtain ⟨y149, hy149⟩ : ∃ y_ : List Int, y_ = (([0, ((a0.size : Int) / 256) % 256, (a0.size : Int) % 256, (Int.tdiv t148 16777216) % 256, (Int.tdiv t148 65536) % 256, (Int.tdiv t148 256) % 256, (Int.tmod t148 256) % 256] : List Int)) := ⟨_, rfl⟩
    replace H : (if (strOfNums y149).size + a0.size ≤ 9223372036854775807 then (if a1 = true then (if 1 ≤ (((strOfNums y149) ++ a0).size : Int) then (if 1 + (((strOfNums y149) ++ a0).extract 1 ((strOfNums y149) ++ a0).size).size ≤ 9223372036854775807 then (quitrentref06_Lay.j0 k ((⟨#[1]⟩ : ByteArray) ++ (((strOfNums y149) ++ a0).extract 1 ((strOfNums y149) ++ a0).size))) else (none)) else (none)) else (quitrentref06_Lay.j0 k ((strOfNums y149) ++ a0))) else (none)) = some (r1, r2) := by first | (rw [hy149]; with_reducible exact H) | (have H2_ := (Option.bind_some _ _).symm.trans H; rw [hy149]; with_reducible exact H2_) | (have H2_ := (Option.bind_some _ _).symm.trans H; with_reducible exact H2_) | with_reducible exact H | (rw [hy149]; exact H) | exact H
    have Ny149 := Aside0.mk hy149
    clear hy149
    by_cases c5 : (strOfNums y149).size + a0.size ≤ 9223372036854775807
    · rw [if_pos c5] at H
      have c5b0 := eq_true c5
      have c5b1 : decide ((strOfNums y149).size + a0.size ≤ 9223372036854775807) = true := decide_eq_true c5
      try have c5b2 : (9223372036854775807 < (strOfNums y149).size + a0.size) = False := eq_false (Nat.not_lt.2 c5)
      have HC6 := Aside0.mk H
      clear H
      go_enter Tryd.func12, Tryd.ntmps12
      go_upto_if 41 with (first | ((with_reducible refine gate_callee (f := 18) rfl ?_); refine goesL_ (some 14) rfl rfl Tryd.func18 (by kernel_rfl) rfl #[.string a0] rfl (by (try simp only [List.map_toArray, List.map_cons, List.map_nil]); first | done | rfl | (simp only [List.length_drop, List.length_take]; rfl)) ?_; (with_reducible refine (quitrentref06_Check.calls k a0 t148 _ A4.out).mono ?_); rintro e w' ⟨rfl, ⟨nd, rfl⟩⟩; refine ⟨_, rfl, ?_⟩) | ((with_reducible refine gate_dst (N := 37) rfl ?_); refine Kd.R_lit (Kd.int .u8) _ 5 ?hg (N := 37) ?hd (xs := ([0, ((a0.size : Int) / 256) % 256, (a0.size : Int) % 256, (Int.tdiv t148 16777216) % 256, (Int.tdiv t148 65536) % 256, (Int.tdiv t148 256) % 256, (Int.tmod t148 256) % 256] : List Int)) (inner := [.int .u8 0, .int .u8 (((a0.size : Int) / 256) % 256), .int .u8 ((a0.size : Int) % 256), .int .u8 ((Int.tdiv t148 16777216) % 256), .int .u8 ((Int.tdiv t148 65536) % 256), .int .u8 ((Int.tdiv t148 256) % 256), .int .u8 ((Int.tmod t148 256) % 256)]) (ok := fun _ => True) (okp := fun _ => True) ?hr ?hp (fun _ hk => hk) trivial (Below.refl _ _) (Nat.le_refl _) (by simp) ?_; (case hd => rfl); (case hg => rfl); (case hr => first | (go_simp; done) | (go_simp; rfl)); (case hp => exact (Reps.one (show Kd.M (Kd.int .u8) _ _ _ 0 [.int .u8 0] from rfl) (Reps.one (show Kd.M (Kd.int .u8) _ _ _ (((a0.size : Int) / 256) % 256) [.int .u8 (((a0.size : Int) / 256) % 256)] from rfl) (Reps.one (show Kd.M (Kd.int .u8) _ _ _ ((a0.size : Int) % 256) [.int .u8 ((a0.size : Int) % 256)] from rfl) (Reps.one (show Kd.M (Kd.int .u8) _ _ _ ((Int.tdiv t148 16777216) % 256) [.int .u8 ((Int.tdiv t148 16777216) % 256)] from rfl) (Reps.one (show Kd.M (Kd.int .u8) _ _ _ ((Int.tdiv t148 65536) % 256) [.int .u8 ((Int.tdiv t148 65536) % 256)] from rfl) (Reps.one (show Kd.M (Kd.int .u8) _ _ _ ((Int.tdiv t148 256) % 256) [.int .u8 ((Int.tdiv t148 256) % 256)] from rfl) (Reps.one (show Kd.M (Kd.int .u8) _ _ _ ((Int.tmod t148 256) % 256) [.int .u8 ((Int.tmod t148 256) % 256)] from rfl) (Reps.none _ _))))))))); intro v150 w7 ho8 hb hg_ hnew_; clear hg_ hnew_; (first | rw [← Ny149.out] at ho8 | (simp only [Int.reduceToNat] at ho8; rw [← Ny149.out] at ho8)); have n0_ := Aside0.mk (Kd.R_lower ho8 (below_size (by repeat (first | (with_reducible first | exact HB.out | apply below_alloc | apply pw_below_drewN | apply below_drew1) | exact HB.out)))); have n1_ := Aside0.mk (below_step (by repeat (first | (with_reducible first | exact HB.out | apply below_alloc | apply pw_below_drewN | apply below_drew1) | exact HB.out)) hb); clear HB; have HO151 := n0_; have HB := n1_; clear n0_ n1_; clear hb ho8; have hcv9 := own_string (P := Tryd.prog) Tryd.underlying39 Tryd.underlying5 Tryd.underlying9 (Kd.own_of_R HO151.out)))
      (try simp only [Act.put, List.setIfInBounds_toArray, List.set_cons_zero, List.set_cons_succ])
      go_cut [7] (fun v7 wc => ∃ (kq : Nat) (x7_5 : ByteArray), v7 = .string x7_5 ∧ Aside0 (quitrentref06_Lay.j0 kq x7_5 = some (r1, r2)) ∧ Aside0 (kq ≤ k) ∧ Aside0 (Below w.heap.size w wc))
      case first =>
        have H := HC6.out
        clear HC6
        by_cases c10 : a1 = true
        · subst c10
          have H1 : (if 1 ≤ (((strOfNums y149) ++ a0).size : Int) then (if 1 + (((strOfNums y149) ++ a0).extract 1 ((strOfNums y149) ++ a0).size).size ≤ 9223372036854775807 then (quitrentref06_Lay.j0 k ((⟨#[1]⟩ : ByteArray) ++ (((strOfNums y149) ++ a0).extract 1 ((strOfNums y149) ++ a0).size))) else (none)) else (none)) = some (r1, r2) := by rw [if_pos rfl] at H; exact H
          clear H
          have H := H1
          clear H1
          by_cases c11 : 1 ≤ (((strOfNums y149) ++ a0).size : Int)
          · rw [if_pos c11] at H
            have c11b0 := eq_true c11
            have c11b1 : decide (1 ≤ (((strOfNums y149) ++ a0).size : Int)) = true := decide_eq_true c11
            by_cases c12 : 1 + (((strOfNums y149) ++ a0).extract 1 ((strOfNums y149) ++ a0).size).size ≤ 9223372036854775807
            · rw [if_pos c12] at H
              have c12b0 := eq_true c12
              have c12b1 : decide (1 + (((strOfNums y149) ++ a0).extract 1 ((strOfNums y149) ++ a0).size).size ≤ 9223372036854775807) = true := decide_eq_true c12
              try have c12b2 : (9223372036854775807 < 1 + (((strOfNums y149) ++ a0).extract 1 ((strOfNums y149) ++ a0).size).size) = False := eq_false (Nat.not_lt.2 c12)
              have H' := Aside0.mk H
              clear H
              go_wp2
              go_meet
              case rel => exact ⟨_, ((⟨#[1]⟩ : ByteArray) ++ (((strOfNums y149) ++ a0).extract 1 ((strOfNums y149) ++ a0).size)), (by first | rfl | (simp; done) | (simp [*]; done)), H', ⟨by first | omega | exact Nat.le_refl _⟩, ⟨by repeat (first | (with_reducible first | exact HB.out | apply below_alloc | apply pw_below_drewN | apply below_drew1) | exact HB.out)⟩⟩
            · rw [if_neg c12] at H
              exact absurd H (by simp)
          · rw [if_neg c11] at H
            exact absurd H (by simp)
        · replace c10 := Bool.eq_false_iff.mpr c10
          subst c10
          have H1 : (quitrentref06_Lay.j0 k ((strOfNums y149) ++ a0)) = some (r1, r2) := by rw [if_neg (show ¬ (false = true) by decide)] at H; exact H
          clear H
          have H := H1
          clear H1
          have H' := Aside0.mk H
          clear H
          go_wp2
          go_meet
          case rel => exact ⟨_, ((strOfNums y149) ++ a0), (by first | rfl | (simp; done) | (simp [*]; done)), H', ⟨by first | omega | exact Nat.le_refl _⟩, ⟨by repeat (first | (with_reducible first | exact HB.out | apply below_alloc | apply pw_below_drewN | apply below_drew1) | exact HB.out)⟩⟩
      case rest =>
        clear HC6
        try clear c1
        try clear p2
        try clear c3
        try clear c3b0
        try clear c3b1
        try clear c5
        try clear c5b0
        try clear c5b1
        try clear c5b2
        try clear p6
        try clear hcv9
        try clear c10
        try clear c11
        try clear c11b0
        try clear c11b1
        try clear c12
        try clear c12b0
        try clear c12b1
        try clear c12b2
        obtain ⟨kq, x7_5, rfl, HA, HJ5, HB⟩ := hcut
        cases kq with
        | zero => exact absurd HA.out (by simp [quitrentref06_Lay.j0])
        | succ kj5 =>
          have H := HA.out
          clear HA
          simp only [quitrentref06_Lay.j0] at H
          obtain ⟨y152, hy152⟩ : ∃ y_ : List ByteArray, y_ = (([] : List ByteArray)) := ⟨_, rfl⟩
          replace H : (quitrentref06_Lay.l0 kj5 x7_5 y152) = some (r1, r2) := by first | (rw [hy152]; with_reducible exact H) | (have H2_ := (Option.bind_some _ _).symm.trans H; rw [hy152]; with_reducible exact H2_) | (have H2_ := (Option.bind_some _ _).symm.trans H; with_reducible exact H2_) | with_reducible exact H | (rw [hy152]; exact H) | exact H
          have Ny152 := Aside0.mk hy152
          clear hy152
          have H' := Aside0.mk H
          clear H
          go_wp2_with (first | ((with_reducible refine gate_dst (N := 45) rfl ?_); refine Kd.R_lit Kd.string _ 9 ?hg (N := 45) ?hd (xs := ([] : List ByteArray)) (inner := []) (ok := fun _ => True) (okp := fun _ => True) ?hr ?hp (fun _ hk => hk) trivial (Below.refl _ _) (Nat.le_refl _) (by simp) ?_; (case hd => rfl); (case hg => rfl); (case hr => first | (go_simp; done) | (go_simp; rfl)); (case hp => exact (Reps.none _ _)); intro v153 w13 ho14 hb hg_ hnew_; clear hg_ hnew_; (first | rw [← Ny152.out] at ho14 | (simp only [Int.reduceToNat] at ho14; rw [← Ny152.out] at ho14)); have n0_ := Aside0.mk (Kd.R_lower ho14 (below_size (by repeat (first | (with_reducible first | exact HB.out | apply below_alloc | apply pw_below_drewN | apply below_drew1) | exact HB.out)))); have n1_ := Aside0.mk (below_step (by repeat (first | (with_reducible first | exact HB.out | apply below_alloc | apply pw_below_drewN | apply below_drew1) | exact HB.out)) hb); clear HB; have HO154 := n0_; have HB := n1_; clear n0_ n1_; clear hb ho14))
          go_loopg [7] kj5 (fun kq v7 w' => ∃ (x7_2 : ByteArray), v7 = .string x7_2 ∧ Aside0 (quitrentref06_Lay.l0 kq x7_2 y152 = some (r1, r2)) ∧ Aside0 (kq ≤ kj5) ∧ Aside0 (Kd.R Kd.string 9 w' w.heap.size (fun _ => True) v153 y152) ∧ Aside0 (Below w.heap.size w w'))
          case atStart => exact ⟨(x7_5), (by first | rfl | (simp; done) | (simp [*]; done)), H', ⟨Nat.le_refl _⟩, ⟨by (with_reducible repeat (first | apply Kd.R_alloc | apply Kd.R_drewN | apply Kd.R_drew)); exact HO154.out⟩, ⟨by repeat (first | (with_reducible first | exact HB.out | apply below_alloc | apply pw_below_drewN | apply below_drew1) | exact HB.out)⟩⟩
          case round =>
            clear H'
            try clear c1
            try clear p2
            try clear c3
            try clear c3b0
            try clear c3b1
            try clear c5
            try clear c5b0
            try clear c5b1
            try clear c5b2
            try clear p6
            try clear hcv9
            try clear c10
            try clear c11
            try clear c11b0
            try clear c11b1
            try clear c12
            try clear c12b0
            try clear c12b1
            try clear c12b2
            try clear p2
            try clear p6
            obtain ⟨x7_2, rfl, HA, HK2, HO_8, HB⟩ := hrel
            cases gk with
            | zero => exact absurd HA.out (by simp [quitrentref06_Lay.l0])
            | succ k2 =>
              have H := HA.out
              clear HA
              simp only [quitrentref06_Lay.l0] at H
              by_cases c15 : ((x7_2.size : Int) % 64) = 0
              · rw [if_pos c15] at H
                have c15b0 : (((x7_2.size : Int) % 64) == 0) = true := beq_iff_eq.mpr c15
                have c15b1 : (((x7_2.size : Int) % 64) != 0) = false := bne_eq_false_iff_eq.mpr c15
                clear c15
                have H' := Aside0.mk H
                clear H
                go_wp2
                go_loopg [8, 9] k2 (fun kq v8 v9 w' => ∃ (x8_3 : List ByteArray) (x9_3 : Int), v9 = .int .i64 x9_3 ∧ Aside0 (quitrentref06_Lay.l1 kq x7_2 x8_3 x9_3 = some (r1, r2)) ∧ Aside0 (kq ≤ k2) ∧ Aside0 (Kd.R Kd.string 9 w' w.heap.size (fun _ => True) v8 x8_3) ∧ Aside0 (Below w.heap.size w w'))
                case atStart => exact ⟨(y152), (0), (by first | rfl | (simp; done) | (simp [*]; done)), H', ⟨Nat.le_refl _⟩, ⟨by (with_reducible repeat (first | apply Kd.R_alloc | apply Kd.R_drewN | apply Kd.R_drew)); exact HO_8.out⟩, ⟨by repeat (first | (with_reducible first | exact HB.out | apply below_alloc | apply pw_below_drewN | apply below_drew1) | exact HB.out)⟩⟩
                case round =>
                  clear H'
                  try clear c1
                  try clear p2
                  try clear c3
                  try clear c3b0
                  try clear c3b1
                  try clear c5
                  try clear c5b0
                  try clear c5b1
                  try clear c5b2
                  try clear p6
                  try clear hcv9
                  try clear c10
                  try clear c11
                  try clear c11b0
                  try clear c11b1
                  try clear c12
                  try clear c12b0
                  try clear c12b1
                  try clear c12b2
                  try clear c15
                  try clear c15b0
                  try clear c15b1
                  try clear p2
                  try clear p6
                  obtain ⟨x8_3, x9_3, rfl, HA, HK3, HO_8, HB⟩ := hrel
                  cases gk with
                  | zero => exact absurd HA.out (by simp [quitrentref06_Lay.l1])
                  | succ k3 =>
                    have H := HA.out
                    clear HA
                    simp only [quitrentref06_Lay.l1] at H
                    by_cases c16 : x9_3 < (x7_2.size : Int)
                    · rw [if_pos c16] at H
                      have c16b0 : decide (x9_3 < (x7_2.size : Int)) = true := decide_eq_true c16
                      clear c16
                      by_cases c17 : 0 ≤ x9_3
                      · rw [if_pos c17] at H
                        have c17b0 := eq_true c17
                        have c17b1 : decide (0 ≤ x9_3) = true := decide_eq_true c17
                        clear c17
                        by_cases c18 : x9_3 ≤ (wrap64 (x9_3 + 64))
                        · rw [if_pos c18] at H
                          have c18b0 := eq_true c18
                          have c18b1 : decide (x9_3 ≤ (wrap64 (x9_3 + 64))) = true := decide_eq_true c18
                          by_cases c19 : (wrap64 (x9_3 + 64)) ≤ (x7_2.size : Int)
                          · rw [if_pos c19] at H
                            have c19b0 := eq_true c19
                            have c19b1 : decide ((wrap64 (x9_3 + 64)) ≤ (x7_2.size : Int)) = true := decide_eq_true c19
                            by_cases c20 : x8_3.length < 8796093022208
                            · rw [if_pos c20] at H
                              have LMc20 := Aside0.mk c20
                              clear c20
                              obtain ⟨y155, hy155⟩ : ∃ y_ : List ByteArray, y_ = (x8_3 ++ [x7_2.extract (x9_3 : Int).toNat ((wrap64 (x9_3 + 64)) : Int).toNat]) := ⟨_, rfl⟩
                              replace H : (quitrentref06_Lay.l1 k3 x7_2 y155 (wrap64 (x9_3 + 64))) = some (r1, r2) := by first | (rw [hy155]; with_reducible exact H) | (have H2_ := (Option.bind_some _ _).symm.trans H; rw [hy155]; with_reducible exact H2_) | (have H2_ := (Option.bind_some _ _).symm.trans H; with_reducible exact H2_) | with_reducible exact H | (rw [hy155]; exact H) | exact H
                              have Ny155 := Aside0.mk hy155
                              clear hy155
                              have H' := Aside0.mk H
                              clear H
                              go_wp2_with (first | ((with_reducible refine gate_builtin (b := .append) (xs := #[.tmp 58, .tmp 64]) rfl ?_); at_builtin; refine Kd.R_append Kd.string (w0 := w) w.heap.size rfl (.tmp 58) (.tmp 64) 22 9 (.string ⟨#[]⟩) 16 rfl Tryd.underlying22 info9 rfl (by decide) (by omega) u8 x8_3 (x7_2.extract (x9_3 : Int).toNat ((wrap64 (x9_3 + 64)) : Int).toNat) [.string (x7_2.extract (x9_3 : Int).toNat ((wrap64 (x9_3 + 64)) : Int).toNat)] (fun _ => True) (fun _ => False) rfl rfl ?aP (fun _ hk => hk.elim) ?aF ?aO ?aB ?aS ?aL ?_; (case aP => exact rfl); (case aB => exact (by repeat (first | (with_reducible first | exact HB.out | apply below_alloc | apply pw_below_drewN | apply below_drew1) | exact HB.out))); (case aF => exact (fun _ _ => trivial)); (case aO => exact (by (with_reducible repeat (first | apply Kd.R_alloc | apply Kd.R_drewN | apply Kd.R_drew)); exact HO_8.out)); (case aS => exact (below_size (by repeat (first | (with_reducible first | exact HB.out | apply below_alloc | apply pw_below_drewN | apply below_drew1) | exact HB.out)))); (case aL => have := LMc20.out; omega); intro v156 w21 ho hb hg hat; rw [← Ny155.out] at ho; have n0_ := Aside0.mk (hb); have n1_ := Aside0.mk (ho); clear HB; clear HO_8; have HB := n0_; have HO157 := n1_; clear n0_ n1_; clear ho hb hg hat))
                              go_roundg k3
                              case measure => have := HJ5.out; have := HK2.out; have := HK3.out; omega
                              case rel => exact ⟨(y155), (wrap64 (x9_3 + 64)), (by first | rfl | (simp; done) | (simp [*]; done)), H', ⟨by have := HJ5.out; have := HK2.out; have := HK3.out; omega⟩, ⟨by (with_reducible repeat (first | apply Kd.R_alloc | apply Kd.R_drewN | apply Kd.R_drew)); exact HO157.out⟩, ⟨by repeat (first | (with_reducible first | exact HB.out | apply below_alloc | apply pw_below_drewN | apply below_drew1) | exact HB.out)⟩⟩
                            · rw [if_neg c20] at H
                              exact absurd H (by simp)
                          · rw [if_neg c19] at H
                            exact absurd H (by simp)
                        · rw [if_neg c18] at H
                          exact absurd H (by simp)
                      · rw [if_neg c17] at H
                        exact absurd H (by simp)
                    · rw [if_neg c16] at H
                      have c16b0 : decide (x9_3 < (x7_2.size : Int)) = false := decide_eq_false c16
                      clear c16
                      simp only [Option.some.injEq, Prod.mk.injEq] at H
                      obtain ⟨rfl, rfl⟩ := H
                      go_wp2
                      go_ret2
                      exact ⟨_, by first | rfl | (simp [errW_none, errW_some] <;> rfl) | (simp [*, errW_none, errW_some] <;> rfl), by (with_reducible repeat (first | apply Kd.R_alloc | apply Kd.R_drewN | apply Kd.R_drew)); exact HO_8.out, by repeat (first | (with_reducible first | exact HB.out | apply below_alloc | apply pw_below_drewN | apply below_drew1) | exact HB.out)⟩
              · rw [if_neg c15] at H
                have c15b0 : (((x7_2.size : Int) % 64) == 0) = false := beq_eq_false_iff_ne.mpr c15
                have c15b1 : (((x7_2.size : Int) % 64) != 0) = true := bne_iff_ne.mpr c15
                by_cases c22 : x7_2.size + 1 ≤ 9223372036854775807
                · rw [if_pos c22] at H
                  have c22b0 := eq_true c22
                  have c22b1 : decide (x7_2.size + 1 ≤ 9223372036854775807) = true := decide_eq_true c22
                  try have c22b2 : (9223372036854775807 < x7_2.size + 1) = False := eq_false (Nat.not_lt.2 c22)
                  have H' := Aside0.mk H
                  clear H
                  go_wp2
                  go_roundg k2
                  case measure => have := HJ5.out; have := HK2.out; omega
                  case rel => exact ⟨(x7_2 ++ (⟨#[0]⟩ : ByteArray)), (by first | rfl | (simp; done) | (simp [*]; done)), H', ⟨by have := HJ5.out; have := HK2.out; omega⟩, ⟨by (with_reducible repeat (first | apply Kd.R_alloc | apply Kd.R_drewN | apply Kd.R_drew)); exact HO_8.out⟩, ⟨by repeat (first | (with_reducible first | exact HB.out | apply below_alloc | apply pw_below_drewN | apply below_drew1) | exact HB.out)⟩⟩
                · rw [if_neg c22] at H
                  exact absurd H (by simp)
    · rw [if_neg c5] at H
      exact absurd H (by simp)

/-! ### quitrentref06_Head: function 16 -/
def quitrentref06_Head.j0 : Nat → ByteArray → Bool → Option (Bool × Int × Int)
  | 0, _, _ => none
  | k + 1, x0, x13 => if x13 = true then (some (false, 0, 2)) else (if 0 < (x0.size : Int) then (if (bt x0 0) = 0 then (some (false, 0, 0)) else (if 1 < (x0.size : Int) then (if 2 < (x0.size : Int) then (if (wrap64 ((wrap64 (256 * (wrap64 (bt x0 1)))) + (wrap64 (bt x0 2)))) > 40000 then (some (false, 0, 8)) else (some (true, wrap64 ((wrap64 (256 * (wrap64 (bt x0 1)))) + (wrap64 (bt x0 2))), 0))) else (none)) else (none))) else (none))
def quitrentref06_Head.f (k : Nat) (a0 : ByteArray) : Option (Bool × Int × Int) := if (a0.size : Int) = 64 then (if 0 < (a0.size : Int) then (quitrentref06_Head.j0 k a0 (decide ((bt a0 0) > 1))) else (none)) else (quitrentref06_Head.j0 k a0 true)
theorem quitrentref06_Head.mono_l : ∀ k, (∀ y0 y1, LeO (quitrentref06_Head.j0 k y0 y1) (quitrentref06_Head.j0 (k + 1) y0 y1))
  | 0 => fun _ _ r h => by simp [quitrentref06_Head.j0] at h
  | k + 1 => by
    have ih0 := quitrentref06_Head.mono_l k
    · intro y0 y1
      unfold quitrentref06_Head.j0
      repeat' first
      | (with_reducible exact ih0 _ _)
      | (with_reducible exact LeO.refl _)
      | (with_reducible exact LeO.none _)
      | (with_reducible refine LeO.ite ?_ ?_)
      | (with_reducible refine LeO.bind ?_ (fun _ => ?_))
      | exact ih0 _ _
      | exact LeO.none _
      | refine LeO.ite ?_ ?_
      | refine LeO.bind ?_ (fun _ => ?_)
theorem quitrentref06_Head.mono : ∀ a0 k, LeO (quitrentref06_Head.f k a0) (quitrentref06_Head.f (k + 1) a0) := by
  intro a0 k
  have ih0 := quitrentref06_Head.mono_l k
  unfold quitrentref06_Head.f
  repeat' first
      | (with_reducible exact ih0 _ _)
      | (with_reducible exact LeO.refl _)
      | (with_reducible exact LeO.none _)
      | (with_reducible refine LeO.ite ?_ ?_)
      | (with_reducible refine LeO.bind ?_ (fun _ => ?_))
      | exact ih0 _ _
      | exact LeO.none _
      | refine LeO.ite ?_ ?_
      | refine LeO.bind ?_ (fun _ => ?_)
set_option maxHeartbeats 8000000 in
set_option maxRecDepth 100000 in
theorem quitrentref06_Head.calls (k : Nat) (a0 : ByteArray) (r1 : Bool) (r2 : Int) (r3 : Int) (w : World) (h : quitrentref06_Head.f k a0 = some (r1, r2, r3)) :
    Calls Tryd.prog 16 #[.string a0] w fun e w' => e = .returned (.tuple #[.bool r1, .int .i64 r2, .int .i64 r3]) ∧ Drawn0 w w' := by
  have H : (if (a0.size : Int) = 64 then (if 0 < (a0.size : Int) then (quitrentref06_Head.j0 k a0 (decide ((bt a0 0) > 1))) else (none)) else (quitrentref06_Head.j0 k a0 true)) = some (r1, r2, r3) := h
  clear h
  have HC2 := Aside0.mk H
  clear H
  go_enter Tryd.func16, Tryd.ntmps16
  go_upto_region 1 with (fail)
  repeat (go_quiet (fail); go_upto_region 1 with (fail))
  go_cut [13] (fun v13 wc => ∃ (kq : Nat) (x13_1 : Bool), v13 = .bool x13_1 ∧ Aside0 (quitrentref06_Head.j0 kq a0 x13_1 = some (r1, r2, r3)) ∧ Aside0 (kq ≤ k) ∧ Drawn0 w wc)
  case first =>
    have H := HC2.out
    clear HC2
    by_cases c3 : (a0.size : Int) = 64
    · rw [if_pos c3] at H
      have c3b0 : ((a0.size : Int) == 64) = true := beq_iff_eq.mpr c3
      have c3b1 : ((a0.size : Int) != 64) = false := bne_eq_false_iff_eq.mpr c3
      clear c3
      (first | rw [c3b0] | (simp only [i64_w, i32_w]; rw [c3b0]) | skip)
      by_cases c4 : 0 < (a0.size : Int)
      · rw [if_pos c4] at H
        have c4b0 : decide (0 < (a0.size : Int)) = true := decide_eq_true c4
        have c4b1 : decide (0 < a0.size) = true := decide_eq_true (by omega)
        clear c4
        have H' := Aside0.mk H
        clear H
        have p5 : 0 ≤ (0 : Int) := (by omega)
        have q5 : 0 < a0.size := (by have : (0 : Int) < (a0.size : Int) := of_decide_eq_true (by first | (with_reducible assumption) | assumption); omega)
        have hx5 : ∀ h : 0 < a0.size, ((a0[0]'h).toNat : Int) = bt a0 0 := bt_at a0 0
        clear p5
        have qi5 : (0 < (a0.size : Int)) = True := eq_true (of_decide_eq_true (by first | (with_reducible assumption) | assumption))
        replace q5 := eq_true q5
        go_wp2
        repeat (go_quiet (fail); try go_wp2)
        go_meet
        case rel => exact ⟨_, (decide ((bt a0 0) > 1)), (by first | rfl | (simp; done) | (simp [*]; done)), H', ⟨by first | omega | exact Nat.le_refl _⟩, by repeat (first | exact Drawn0.refl _ | apply Drawn0.step)⟩
      · rw [if_neg c4] at H
        exact absurd H (by simp)
    · rw [if_neg c3] at H
      have c3b0 : ((a0.size : Int) == 64) = false := beq_eq_false_iff_ne.mpr c3
      have c3b1 : ((a0.size : Int) != 64) = true := bne_iff_ne.mpr c3
      (first | rw [c3b0] | (simp only [i64_w, i32_w]; rw [c3b0]) | skip)
      have H' := Aside0.mk H
      clear H
      go_wp2
      repeat (go_quiet (fail); try go_wp2)
      go_meet
      case rel => exact ⟨_, (true), (by first | rfl | (simp; done) | (simp [*]; done)), H', ⟨by first | omega | exact Nat.le_refl _⟩, by repeat (first | exact Drawn0.refl _ | apply Drawn0.step)⟩
  case rest =>
    clear HC2
    try clear c1
    try clear p2
    try clear c3
    try clear c3b0
    try clear c3b1
    try clear c4
    try clear c4b0
    try clear c4b1
    try clear p5
    try clear q5
    try clear hx5
    try clear qi5
    try clear p5
    try clear q5
    obtain ⟨kq, x13_1, rfl, HA, HJ1, ⟨mc1, rfl⟩⟩ := hcut
    cases kq with
    | zero => exact absurd HA.out (by simp [quitrentref06_Head.j0])
    | succ kj1 =>
      have H := HA.out
      clear HA
      simp only [quitrentref06_Head.j0] at H
      by_cases c6 : x13_1 = true
      · subst c6
        have H1 : (some (false, 0, 2)) = some (r1, r2, r3) := by rw [if_pos rfl] at H; exact H
        clear H
        have H := H1
        clear H1
        simp only [Option.some.injEq, Prod.mk.injEq] at H
        obtain ⟨rfl, rfl, rfl⟩ := H
        go_wp2
        repeat (go_quiet (fail); try go_wp2)
        go_ret3
        exact ⟨by first | rfl | (simp; done) | (simp [*]; done), by repeat (first | exact Drawn0.refl _ | apply Drawn0.step)⟩
      · replace c6 := Bool.eq_false_iff.mpr c6
        subst c6
        have H1 : (if 0 < (a0.size : Int) then (if (bt a0 0) = 0 then (some (false, 0, 0)) else (if 1 < (a0.size : Int) then (if 2 < (a0.size : Int) then (if (wrap64 ((wrap64 (256 * (wrap64 (bt a0 1)))) + (wrap64 (bt a0 2)))) > 40000 then (some (false, 0, 8)) else (some (true, wrap64 ((wrap64 (256 * (wrap64 (bt a0 1)))) + (wrap64 (bt a0 2))), 0))) else (none)) else (none))) else (none)) = some (r1, r2, r3) := by rw [if_neg (show ¬ (false = true) by decide)] at H; exact H
        clear H
        have H := H1
        clear H1
        by_cases c7 : 0 < (a0.size : Int)
        · rw [if_pos c7] at H
          have c7b0 : decide (0 < (a0.size : Int)) = true := decide_eq_true c7
          have c7b1 : decide (0 < a0.size) = true := decide_eq_true (by omega)
          clear c7
          by_cases c9 : (bt a0 0) = 0
          · rw [if_pos c9] at H
            have c9b0 : ((bt a0 0) == 0) = true := beq_iff_eq.mpr c9
            have c9b1 : ((bt a0 0) != 0) = false := bne_eq_false_iff_eq.mpr c9
            clear c9
            simp only [Option.some.injEq, Prod.mk.injEq] at H
            obtain ⟨rfl, rfl, rfl⟩ := H
            have p8 : 0 ≤ (0 : Int) := (by omega)
            have q8 : 0 < a0.size := (by have : (0 : Int) < (a0.size : Int) := of_decide_eq_true (by first | (with_reducible assumption) | assumption); omega)
            have hx8 : ∀ h : 0 < a0.size, ((a0[0]'h).toNat : Int) = bt a0 0 := bt_at a0 0
            clear p8
            have qi8 : (0 < (a0.size : Int)) = True := eq_true (of_decide_eq_true (by first | (with_reducible assumption) | assumption))
            replace q8 := eq_true q8
            go_wp2
            repeat (go_quiet (fail); try go_wp2)
            go_ret3
            exact ⟨by first | rfl | (simp; done) | (simp [*]; done), by repeat (first | exact Drawn0.refl _ | apply Drawn0.step)⟩
          · rw [if_neg c9] at H
            have c9b0 : ((bt a0 0) == 0) = false := beq_eq_false_iff_ne.mpr c9
            have c9b1 : ((bt a0 0) != 0) = true := bne_iff_ne.mpr c9
            by_cases c10 : 1 < (a0.size : Int)
            · rw [if_pos c10] at H
              have c10b0 : decide (1 < (a0.size : Int)) = true := decide_eq_true c10
              have c10b1 : decide (1 < a0.size) = true := decide_eq_true (by omega)
              clear c10
              by_cases c12 : 2 < (a0.size : Int)
              · rw [if_pos c12] at H
                have c12b0 : decide (2 < (a0.size : Int)) = true := decide_eq_true c12
                have c12b1 : decide (2 < a0.size) = true := decide_eq_true (by omega)
                clear c12
                by_cases c14 : (wrap64 ((wrap64 (256 * (wrap64 (bt a0 1)))) + (wrap64 (bt a0 2)))) > 40000
                · rw [if_pos c14] at H
                  have c14b0 : decide (40000 < (wrap64 ((wrap64 (256 * (wrap64 (bt a0 1)))) + (wrap64 (bt a0 2))))) = true := decide_eq_true c14
                  clear c14
                  simp only [Option.some.injEq, Prod.mk.injEq] at H
                  obtain ⟨rfl, rfl, rfl⟩ := H
                  have p8 : 0 ≤ (0 : Int) := (by omega)
                  have q8 : 0 < a0.size := (by have : (0 : Int) < (a0.size : Int) := of_decide_eq_true (by first | (with_reducible assumption) | assumption); omega)
                  have hx8 : ∀ h : 0 < a0.size, ((a0[0]'h).toNat : Int) = bt a0 0 := bt_at a0 0
                  clear p8
                  have qi8 : (0 < (a0.size : Int)) = True := eq_true (of_decide_eq_true (by first | (with_reducible assumption) | assumption))
                  replace q8 := eq_true q8
                  have p11 : 0 ≤ (1 : Int) := (by omega)
                  have q11 : 1 < a0.size := (by have : (1 : Int) < (a0.size : Int) := of_decide_eq_true (by first | (with_reducible assumption) | assumption); omega)
                  have hx11 : ∀ h : 1 < a0.size, ((a0[1]'h).toNat : Int) = bt a0 1 := bt_at a0 1
                  clear p11
                  have qi11 : (1 < (a0.size : Int)) = True := eq_true (of_decide_eq_true (by first | (with_reducible assumption) | assumption))
                  replace q11 := eq_true q11
                  have p13 : 0 ≤ (2 : Int) := (by omega)
                  have q13 : 2 < a0.size := (by have : (2 : Int) < (a0.size : Int) := of_decide_eq_true (by first | (with_reducible assumption) | assumption); omega)
                  have hx13 : ∀ h : 2 < a0.size, ((a0[2]'h).toNat : Int) = bt a0 2 := bt_at a0 2
                  clear p13
                  have qi13 : (2 < (a0.size : Int)) = True := eq_true (of_decide_eq_true (by first | (with_reducible assumption) | assumption))
                  replace q13 := eq_true q13
                  go_wp2
                  repeat (go_quiet (fail); try go_wp2)
                  go_ret3
                  exact ⟨by first | rfl | (simp; done) | (simp [*]; done), by repeat (first | exact Drawn0.refl _ | apply Drawn0.step)⟩
                · rw [if_neg c14] at H
                  have c14b0 : decide (40000 < (wrap64 ((wrap64 (256 * (wrap64 (bt a0 1)))) + (wrap64 (bt a0 2))))) = false := decide_eq_false c14
                  clear c14
                  simp only [Option.some.injEq, Prod.mk.injEq] at H
                  obtain ⟨rfl, rfl, rfl⟩ := H
                  have p8 : 0 ≤ (0 : Int) := (by omega)
                  have q8 : 0 < a0.size := (by have : (0 : Int) < (a0.size : Int) := of_decide_eq_true (by first | (with_reducible assumption) | assumption); omega)
                  have hx8 : ∀ h : 0 < a0.size, ((a0[0]'h).toNat : Int) = bt a0 0 := bt_at a0 0
                  clear p8
                  have qi8 : (0 < (a0.size : Int)) = True := eq_true (of_decide_eq_true (by first | (with_reducible assumption) | assumption))
                  replace q8 := eq_true q8
                  have p11 : 0 ≤ (1 : Int) := (by omega)
                  have q11 : 1 < a0.size := (by have : (1 : Int) < (a0.size : Int) := of_decide_eq_true (by first | (with_reducible assumption) | assumption); omega)
                  have hx11 : ∀ h : 1 < a0.size, ((a0[1]'h).toNat : Int) = bt a0 1 := bt_at a0 1
                  clear p11
                  have qi11 : (1 < (a0.size : Int)) = True := eq_true (of_decide_eq_true (by first | (with_reducible assumption) | assumption))
                  replace q11 := eq_true q11
                  have p13 : 0 ≤ (2 : Int) := (by omega)
                  have q13 : 2 < a0.size := (by have : (2 : Int) < (a0.size : Int) := of_decide_eq_true (by first | (with_reducible assumption) | assumption); omega)
                  have hx13 : ∀ h : 2 < a0.size, ((a0[2]'h).toNat : Int) = bt a0 2 := bt_at a0 2
                  clear p13
                  have qi13 : (2 < (a0.size : Int)) = True := eq_true (of_decide_eq_true (by first | (with_reducible assumption) | assumption))
                  replace q13 := eq_true q13
                  go_wp2
                  repeat (go_quiet (fail); try go_wp2)
                  go_ret3
                  exact ⟨by first | rfl | (simp; done) | (simp [*]; done), by repeat (first | exact Drawn0.refl _ | apply Drawn0.step)⟩
              · rw [if_neg c12] at H
                exact absurd H (by simp)
            · rw [if_neg c10] at H
              exact absurd H (by simp)
        · rw [if_neg c7] at H
          exact absurd H (by simp)

end Go.Proofs.YtnfeknaeikpdmaaDoor.PR
