import Derived.Test.YtnfeknaeikpdmaaDoorRecS
import Derived.Test.YtnfeknaeikpdmaaDoorPR6
namespace Go.Proofs.YtnfeknaeikpdmaaDoor.PR
open Crc Go.RowKit Go.Proofs.YtnfeknaeikpdmaaDoorW.PrintWords Go.Proofs.YtnfeknaeikpdmaaDoorW.PrintLast Go.Proofs.YtnfeknaeikpdmaaDoorW.PrintMore
set_option linter.unusedVariables false
set_option linter.unusedSimpArgs false
/-! ### the two laws, in plain Lean -/
theorem large_l0 (l : List ByteArray) (hs : ∀ x ∈ l, x.size ≤ 281474976710656) (d : Nat) : ∀ (i x : Nat), i + d = l.length → i ≤ x → x ≤ 281474976800000 → ∃ r, Ev (fun k => quitrentlaw06_large.l0 k l (x : Int) (i : Int)) r ∧ (r = false → l.length ≤ 3000) := by
  induction d with
  | zero =>
    intro i x hi hx hx2
    refine ⟨decide ((x : Int) > 3000), ⟨1, fun k hk => ?_⟩, fun h => by have := of_decide_eq_false h; omega⟩
    obtain ⟨k, rfl⟩ : ∃ m, k = m + 1 := ⟨k - 1, by omega⟩
    simp only [quitrentlaw06_large.l0]
    rw [if_neg (by omega)]
  | succ d ih =>
    intro i x hi hx hx2
    by_cases h3 : x ≤ 3000
    · have hil : i < l.length := by omega
      have hsz : (rdOf ByteArray.empty l (i : Int)).size ≤ 281474976710656 := by rw [rd_get l i hil]; exact hs _ (List.getElem_mem hil)
      obtain ⟨y, hy⟩ : ∃ y, y = (rdOf ByteArray.empty l (i : Int)).size := ⟨_, rfl⟩
      obtain ⟨r, h1, h2⟩ := ih (i + 1) (x + (y + 1)) (by omega) (by omega) (by omega)
      refine ⟨r, Ev.step (fun k => ?_) h1, h2⟩
      simp only [quitrentlaw06_large.l0]
      rw [if_pos (by omega), if_pos (by omega), if_pos (by omega), ← hy]
      have e1 : wrap64 ((i : Int) + 1) = ((i + 1 : Nat) : Int) := by unfold wrap64; omega
      have e2 : wrap64 ((y : Int) + 1) = ((y + 1 : Nat) : Int) := by unfold wrap64; omega
      have e3 : wrap64 ((x : Int) + ((y + 1 : Nat) : Int)) = ((x + (y + 1) : Nat) : Int) := by unfold wrap64; omega
      rw [e1, e2, e3]
    · refine ⟨true, ⟨1, fun k hk => ?_⟩, fun h => by cases h⟩
      obtain ⟨k, rfl⟩ : ∃ m, k = m + 1 := ⟨k - 1, by omega⟩
      simp only [quitrentlaw06_large.l0]
      have hd : decide ((x : Int) > 3000) = true := decide_eq_true (by omega)
      rw [hd]
      by_cases hq : (i : Int) < (l.length : Int)
      · rw [if_pos hq, if_neg (by omega)]
      · rw [if_neg hq]
theorem large_ev (l : List ByteArray) (hs : ∀ x ∈ l, x.size ≤ 281474976710656) : ∃ r, Ev (fun k => quitrentlaw06_large.f k l) r ∧ (r = false → l.length ≤ 3000) :=
  large_l0 l hs l.length 0 0 (by omega) (by omega) (by omega)
theorem recordTells_pure (a0 : ByteArray) (a1 : Bool) (l2 : List ByteArray) (a3 : Int) (hs : ∀ x ∈ l2, x.size ≤ 281474976710656) : ∃ k, quitrentlaw06_RecordTells.f k a0 a1 l2 a3 = some true := by
  have main : Ev (fun k => quitrentlaw06_RecordTells.f k a0 a1 l2 a3) true := by
    refine Ev.congr (f := fun k => (quitrentlaw06_awake.f k).bind fun t173 => (if t173 = true then (if (a0.size : Int) > 3000 then (quitrentlaw06_RecordTells.j0 k a0 a1 l2 a3 true) else ((quitrentlaw06_large.f k l2).bind fun t174 => (quitrentlaw06_RecordTells.j0 k a0 a1 l2 a3 t174))) else (some false))) (fun k => rfl) ?_
    refine Ev.bind awake_ev ?_
    have jt : Ev (fun k => quitrentlaw06_RecordTells.j0 k a0 a1 l2 a3 true) true := by
      refine ⟨1, fun k hk => ?_⟩
      obtain ⟨k, rfl⟩ : ∃ m, k = m + 1 := ⟨k - 1, by omega⟩
      simp only [quitrentlaw06_RecordTells.j0]
      exact if_pos trivial
    by_cases h0 : (a0.size : Int) > 3000
    · refine Ev.congr (fun k => ?_) jt
      rw [if_pos rfl, if_pos h0]
    · obtain ⟨r, hr, hr2⟩ := large_ev l2 hs
      refine Ev.congr (f := fun k => (quitrentlaw06_large.f k l2).bind fun t174 => (quitrentlaw06_RecordTells.j0 k a0 a1 l2 a3 t174)) (fun k => ?_) (Ev.bind hr ?_)
      · rw [if_pos rfl, if_neg h0]
      · cases r with
        | true => exact jt
        | false =>
          have hl := hr2 rfl
          clear hr hr2 jt hs
          have hb : a0.data.toList.length ≤ 40000 := by rw [B_len]; omega
          have y1 := lay_ev a0.data.toList a1 hb
          have y2 := refLay_ev a0.data.toList a1 hb
          rw [B_eta] at y1 y2
          have hm := many_le a0.data.toList.length hb
          have y9 := same_ev (blks (full a0.data.toList a1) (many a0.data.toList.length)) (by rw [blks_length]; omega)
          generalize blks (full a0.data.toList a1) (many a0.data.toList.length) = L at y1 y2 y9
          obtain ⟨y3, y4⟩ := join_ev l2 (by omega)
          generalize joinR l2 = J at y3 y4
          obtain ⟨y5, y6⟩ := head_ev a0
          generalize headR a0 = D at y5 y6
          have y7 := check_eq a0 (by omega)
          have y8 := refCheck_ev a0 (by omega)
          generalize ((crc a0.data.toList : Nat) : Int) = C at y7 y8
          have y10 : Ev (fun k => if a3 > 100000 then (some true) else ((record_Blocks.f a3).bind fun t196 => ((quitrentref06_Blocks.f k a3).bind fun t197 => (some (t196 == t197))))) true := by
            by_cases h3 : a3 > 100000
            · exact ⟨0, fun k _ => if_pos h3⟩
            · have g1 := blocks_eq a3
              have g2 := refBlocks_ev a3 (by omega)
              generalize (if 0 ≤ a3 ∧ a3 ≤ 40000 then (a3 + 70) / 64 else 0) = M at g1 g2
              obtain ⟨K, hK⟩ := g2
              refine ⟨K, fun k hk => ?_⟩
              have := hK k hk
              simp only at this
              show (if a3 > 100000 then _ else _) = _
              rw [if_neg h3, g1, Option.bind_some, this, Option.bind_some, beq_self_eq_true]
          obtain ⟨K1, y1⟩ := y1
          obtain ⟨K2, y2⟩ := y2
          obtain ⟨K3, y3⟩ := y3
          obtain ⟨K4, y4⟩ := y4
          obtain ⟨K5, y5⟩ := y5
          obtain ⟨K6, y6⟩ := y6
          obtain ⟨K8, y8⟩ := y8
          obtain ⟨K9, y9⟩ := y9
          obtain ⟨K10, y10⟩ := y10
          refine ⟨K1 + K2 + K3 + K4 + K5 + K6 + K8 + K9 + K10 + 1, fun k hk => ?_⟩
          obtain ⟨k, rfl⟩ : ∃ m, k = m + 1 := ⟨k - 1, by omega⟩
          have z1 := y1 k (by omega)
          have z2 := y2 k (by omega)
          have z3 := y3 k (by omega)
          have z4 := y4 k (by omega)
          have z5 := y5 k (by omega)
          have z6 := y6 k (by omega)
          have z8 := y8 k (by omega)
          have z9 := y9 k (by omega)
          have z10 := y10 k (by omega)
          clear y1 y2 y3 y4 y5 y6 y8 y9 y10 hk
          simp only at z1 z2 z3 z4 z5 z6 z8 z9
          show quitrentlaw06_RecordTells.j0 (k + 1) a0 a1 l2 a3 false = _
          simp only [quitrentlaw06_RecordTells.j0]
          rw [if_neg (by simp), z1, Option.bind_some, z2, Option.bind_some, z3, Option.bind_some, z4, Option.bind_some, z5, Option.bind_some, z6, Option.bind_some, y7, Option.bind_some, z8, Option.bind_some, if_pos rfl, z9, Option.bind_some, if_pos rfl, if_pos rfl, if_pos rfl, if_pos rfl, beq_self_eq_true, if_pos rfl, if_pos rfl, if_pos rfl]
          exact z10
  exact main.rounds

end Go.Proofs.YtnfeknaeikpdmaaDoor.PR
