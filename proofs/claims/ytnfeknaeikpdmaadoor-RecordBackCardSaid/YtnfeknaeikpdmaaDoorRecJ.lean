import Derived.Test.YtnfeknaeikpdmaaDoorRecS
import Derived.Test.YtnfeknaeikpdmaaDoorPR7
namespace Go.Proofs.YtnfeknaeikpdmaaDoor.PR
open Crc Go.RowKit Go.Proofs.YtnfeknaeikpdmaaDoorW.PrintWords Go.Proofs.YtnfeknaeikpdmaaDoorW.PrintLast Go.Proofs.YtnfeknaeikpdmaaDoorW.PrintMore
set_option linter.unusedVariables false
set_option linter.unusedSimpArgs false
theorem blk0_head (l : List UInt8) (mark : Bool) : ((blk (full l mark) 0).extract 0 1).toList = [if mark then 1 else 0] ∧ ((blk (full l mark) 0).extract 1 (blk (full l mark) 0).size).toList = ((full l false).take 64).drop 1 := by
  have hf := full_length l mark
  have hm := many_pos l.length
  have hs := blk_size (full l mark) 0 _ hf (by omega)
  have hc : full l mark = (if mark then (1 : UInt8) else 0) :: (full l false).drop 1 := by unfold full hdr; rfl
  have h0 : blk (full l mark) 0 = B ((full l mark).take 64) := by unfold blk; rw [Nat.mul_zero, List.drop_zero]
  refine ⟨?_, ?_⟩
  · rw [h0, B_extract, B_toList, hc]; rfl
  · rw [hs, h0, B_extract, B_toList, hc, List.take_succ_cons]
    have : (full l false).take 64 = 0 :: ((full l false).drop 1).take 63 := by unfold full hdr; rfl
    rw [this]
    simp [List.take_take]
theorem blks_drop (l : List UInt8) (mark : Bool) : (blks (full l mark) (many l.length)).drop 1 = (blks (full l false) (many l.length)).drop 1 := by
  apply List.ext_getElem
  · simp [blks_length]
  · intro i h1 h2
    have g : ∀ m : Bool, ((blks (full l m) (many l.length)).drop 1)[i]? = some (blk (full l m) (1 + i)) := by
      intro m
      have : 1 + i < many l.length := by simp [blks_length] at h1; omega
      rw [List.getElem?_drop]
      simp [blks, List.getElem?_map, List.getElem?_range this]
    have e : blk (full l mark) (1 + i) = blk (full l false) (1 + i) := by
      unfold blk
      have hc : full l mark = (if mark then (1 : UInt8) else 0) :: (full l false).drop 1 := by unfold full hdr; rfl
      have hd : full l false = 0 :: (full l false).drop 1 := by unfold full hdr; rfl
      have : ∀ c x : UInt8, ∀ r : List UInt8, (x :: r).drop (64 * (1 + i)) = (c :: r).drop (64 * (1 + i)) := by
        intro c x r
        rw [show 64 * (1 + i) = (63 + 64 * i) + 1 by omega, List.drop_succ_cons, List.drop_succ_cons]
      rw [hc]
      conv => rhs; rw [hd]
      rw [this 0]
    have a1 := g mark
    have a2 := g false
    rw [e, ← a2, List.getElem?_eq_getElem h1, List.getElem?_eq_getElem h2] at a1
    exact Option.some.inj a1
theorem recordBack_pure : quitrentlaw06_RecordBack.Pure := by
  intro a0 hsz
  have main : Ev (fun k => quitrentlaw06_RecordBack.f k a0) true := by
    refine Ev.congr (f := fun k => (quitrentlaw06_awake.f k).bind fun t198 => _) (fun k => by unfold quitrentlaw06_RecordBack.f; rfl) (Ev.bind awake_ev ?_)
    by_cases h0 : (a0.size : Int) > 3000
    · exact ⟨0, fun k _ => by show (if true = true then _ else _) = _; rw [if_pos rfl, if_pos h0]⟩
    · have hb : a0.data.toList.length ≤ 3000 := by rw [B_len]; omega
      have hbe : a0 = B a0.data.toList := (B_eta a0).symm
      generalize a0.data.toList = l at hb hbe
      subst hbe
      clear hsz
      rw [B_size] at h0
      obtain ⟨K1, y1⟩ := lay_ev l true (by omega)
      obtain ⟨K2, y2⟩ := lay_ev l false (by omega)
      have hm := many_le l.length (by omega)
      have hp := many_pos l.length
      have hbl := blocks_nat l.length (by omega)
      obtain ⟨K3, y3⟩ := join_g (blks (full l true) (many l.length)) (by rw [blks_length]; omega)
      obtain ⟨K4, y4⟩ := join_g (blks (full l false) (many l.length)) (by rw [blks_length]; omega)
      rw [joinR_true l (by omega)] at y3
      rw [joinR_false l (by omega)] at y4
      obtain ⟨K5, y5⟩ := same_ev ((blks (full l false) (many l.length)).drop 1) (by rw [List.length_drop, blks_length]; omega)
      have d1 := blks_drop l true
      have l1 := blks_length (full l true) (many l.length)
      have l2 := blks_length (full l false) (many l.length)
      have r1 := rd_blks0 (full l true) _ hp
      have r2 := rd_blks0 (full l false) _ hp
      have s1 := blk_size (full l true) 0 _ (full_length l true) (by omega)
      have s2 := blk_size (full l false) 0 _ (full_length l false) (by omega)
      obtain ⟨e1, e2⟩ := blk0_head l true
      obtain ⟨e3, e4⟩ := blk0_head l false
      generalize blks (full l true) (many l.length) = T1 at *
      generalize blks (full l false) (many l.length) = T2 at *
      generalize blk (full l true) 0 = t1 at *
      generalize blk (full l false) 0 = t2 at *
      generalize ((full l false).take 64).drop 1 = rest at *
      generalize many l.length = M at *
      rw [if_pos rfl] at e1
      rw [if_neg (by decide)] at e3
      refine ⟨K1 + K2 + K3 + K4 + K5 + 1, fun k hk => ?_⟩
      have a1 := y1 k (by omega)
      have a2 := y2 k (by omega)
      obtain ⟨k', rfl⟩ : ∃ m, k = m + 1 := ⟨k - 1, by omega⟩
      have a3 := y3 k' (by omega)
      have a4 := y4 k' (by omega)
      have a5 := y5 k' (by omega)
      clear y1 y2 y3 y4 y5 hk
      simp only at a1 a2 a3 a4 a5
      have hq : ((T1.length : Int) == 0) = false := beq_eq_false_iff_ne.mpr (by omega)
      show (if true = true then _ else _) = _
      rw [if_pos rfl, if_neg (by rw [B_size]; exact h0), a1, Option.bind_some, a2, Option.bind_some]
      dsimp only
      rw [if_pos rfl, if_pos rfl, B_size, hbl, Option.bind_some, if_pos (by rw [l1]), if_pos (by rw [l1, l2]), hq]
      simp only [quitrentlaw06_RecordBack.j0]
      rw [if_neg (by simp), a3, Option.bind_some, a4, Option.bind_some]
      dsimp only
      rw [if_pos rfl, if_pos rfl, if_pos rfl, if_pos (by omega), if_pos (by omega), r1, r2, if_pos (by omega), e1, if_pos rfl, if_pos (by omega), if_pos (by omega), e3, if_pos rfl, e2, e4, if_pos rfl, if_pos (by omega), if_pos (by omega), d1, a5, Option.bind_some]
  exact main.rounds

end Go.Proofs.YtnfeknaeikpdmaaDoor.PR
