import Derived.Test.YtnfeknaeikpdmaaDoorRecF
namespace Go.Proofs.YtnfeknaeikpdmaaDoor.PR
open Crc Go.RowKit Go.Proofs.YtnfeknaeikpdmaaDoorW.PrintWords Go.Proofs.YtnfeknaeikpdmaaDoorW.PrintLast Go.Proofs.YtnfeknaeikpdmaaDoorW.PrintMore
set_option linter.unusedVariables false
set_option linter.unusedSimpArgs false
theorem headR_cases (b : ByteArray) : (headR b).2.2 ≠ 0 ∨ headR b = (false, 0, 0) ∨ (bt b 0 = 1 ∧ bt b 1 * 256 + bt b 2 ≤ 40000 ∧ headR b = (true, bt b 1 * 256 + bt b 2, 0)) := by
  unfold headR
  have g := bt_range b 0
  by_cases c1 : b.size ≠ 64 ∨ bt b 0 > 1
  · rw [if_pos c1]; left; decide
  · rw [if_neg c1]
    by_cases c2 : bt b 0 = 0
    · rw [if_pos c2]; right; left; rfl
    · rw [if_neg c2]
      by_cases c3 : bt b 1 * 256 + bt b 2 > 40000
      · rw [if_pos c3]; left; decide
      · rw [if_neg c3]; right; right; exact ⟨by omega, by omega, rfl⟩
theorem join_ev (l : List ByteArray) (hl : l.length ≤ 10000) : Ev (fun k => record_Join.f k l) (joinR l) ∧ Ev (fun k => quitrentref06_Join.f k l) (joinR l) := by
  by_cases h0 : l.length = 0
  · have : l = [] := List.eq_nil_of_length_eq_zero h0
    subst this
    have hj : joinR [] = ((⟨#[]⟩ : ByteArray), 2) := by unfold joinR; rw [if_pos (.inr rfl)]
    rw [hj]
    refine ⟨⟨0, fun k _ => ?_⟩, ⟨1, fun k hk => ?_⟩⟩
    · show record_Join.f k [] = _
      unfold record_Join.f
      rw [if_pos h0]
    · obtain ⟨k, rfl⟩ : ∃ m, k = m + 1 := ⟨k - 1, by omega⟩
      show quitrentref06_Join.f (k + 1) [] = _
      unfold quitrentref06_Join.f
      simp only [quitrentref06_Join.l0]
      rw [if_neg (by simp), if_pos (show (⟨#[]⟩ : ByteArray).toList = ([] : List UInt8) from B_toList [])]
  · by_cases ha : l.any (fun b => b.size != 64) = true
    · have hj : joinR l = ((⟨#[]⟩ : ByteArray), 2) := by unfold joinR; rw [if_pos (.inl ha)]
      rw [hj]
      obtain ⟨m, hm, h1, h2⟩ := rj_first _ l ha
      have h1' : l[m].size ≠ 64 := by simpa using h1
      have h2' : ∀ j (hj : j < m), (l[j]'(by omega)).size = 64 := fun j hj => by simpa using h2 j hj
      refine ⟨⟨0, fun k _ => ?_⟩, ?_⟩
      · show record_Join.f k l = _
        unfold record_Join.f
        rw [if_neg h0, if_pos ha]
      · refine refJoin_l0 l hl m (by omega) h2' _ m 0 (by omega) ⟨1, fun k hk => ?_⟩
        obtain ⟨k, rfl⟩ : ∃ m, k = m + 1 := ⟨k - 1, by omega⟩
        simp only [quitrentref06_Join.l0]
        rw [if_pos (by omega), if_pos (by omega), rd_get l m hm, if_neg (by omega)]
    · have hall : ∀ j (hj : j < l.length), l[j].size = 64 := by
        intro j hj
        have : ¬ ∃ x, x ∈ l ∧ (x.size != 64) = true := by simpa [List.any_eq_true] using ha
        by_cases hs : l[j].size = 64
        · exact hs
        · exact absurd ⟨l[j], List.getElem_mem hj, by simpa using hs⟩ this
      have hn : 0 < l.length := by omega
      have hbt := bt_first l hall hn
      have hz : rdOf ByteArray.empty l 0 = l[0] := rd_get l 0 hn
      have hs0 := hall 0 hn
      obtain ⟨z, hzz⟩ : ∃ z, z = rdOf ByteArray.empty l 0 := ⟨_, rfl⟩
      rw [← hzz] at hz
      rw [← hz] at hbt hs0
      clear hz
      obtain ⟨hd1, hd2⟩ := head_ev z
      have hf := flat_length l hall
      -- both to their tails
      have main : Ev (fun k => gTail k l (headR z)) (joinR l) ∧ Ev (fun k => rTail k l (B (flat l)) (headR z)) (joinR l) := by
        rcases headR_cases z with hc | hc | ⟨b0, bn, hc⟩
        · have hj : joinR l = ((⟨#[]⟩ : ByteArray), (headR z).2.2) := by
            unfold joinR
            rw [← hzz, if_neg (fun c => c.elim ha h0), if_pos hc]
          rw [hj]
          exact ⟨⟨0, fun k _ => gTail_neg k l _ hc⟩, ⟨0, fun k _ => rTail_neg k l _ _ hc⟩⟩
        · have hj : joinR l = ((⟨#[]⟩ : ByteArray), 2) := by
            unfold joinR
            rw [← hzz, if_neg (fun c => c.elim ha h0), hc, if_neg (by decide), if_neg (fun c => absurd c.1 (by decide))]
          rw [hj, hc]
          refine ⟨⟨0, fun k _ => gTail_no k l 0⟩, ⟨1, fun k hk => ?_⟩⟩
          obtain ⟨k, rfl⟩ : ∃ m, k = m + 1 := ⟨k - 1, by omega⟩
          exact rTail_no k l _ 0
        · obtain ⟨a0, a1, a2, a3, a4, a5, a6, R, hA⟩ := seven (flat l) (by omega)
          have e0 : bt z 0 = (a0.toNat : Int) := by have := hbt 0 (by omega); rw [hA] at this; exact this.trans (bt_B _ 0 (by simp))
          have e1 : bt z 1 = (a1.toNat : Int) := by have := hbt 1 (by omega); rw [hA] at this; exact this.trans (bt_B _ 1 (by simp))
          have e2 : bt z 2 = (a2.toNat : Int) := by have := hbt 2 (by omega); rw [hA] at this; exact this.trans (bt_B _ 2 (by simp))
          obtain ⟨n, hn'⟩ : ∃ n : Nat, n = a1.toNat * 256 + a2.toNat := ⟨_, rfl⟩
          have hv : bt z 1 * 256 + bt z 2 = (n : Int) := by rw [e1, e2]; omega
          rw [hv] at hc bn
          have a01 : a0 = 1 := by
            apply UInt8.toNat_inj.1
            have : a0.toNat = 1 := by omega
            simpa using this
          subst a01
          have hj : joinR l = (if l.length = many n then toldN l n else ((⟨#[]⟩ : ByteArray), 2)) := by
            unfold joinR
            rw [← hzz, if_neg (fun c => c.elim ha h0), hc, if_neg (fun c => c rfl)]
            by_cases hm : l.length = many n
            · rw [if_pos hm, if_pos ⟨rfl, hm⟩]; rfl
            · rw [if_neg hm, if_neg (fun c => hm c.2)]
          rw [hj, hc]
          exact tails l hl hall n (by omega) a1 a2 a3 a4 a5 a6 R hA hn'
      obtain ⟨m1, m2⟩ := main
      refine ⟨?_, ?_⟩
      · obtain ⟨K1, k1⟩ := hd1
        obtain ⟨K2, k2⟩ := m1
        refine ⟨max K1 K2, fun k hk => ?_⟩
        have a1 := k1 k (by omega)
        have a2 := k2 k (by omega)
        simp only at a1 a2
        show record_Join.f k l = _
        unfold record_Join.f
        rw [if_neg h0, if_neg ha, ← hzz, a1, Option.bind_some]
        exact a2
      · refine refJoin_l0 l hl l.length (Nat.le_refl _) (fun j hj => hall j hj) _ l.length 0 (by omega) ?_
        rw [List.take_length]
        refine Ev.step (f := fun k => (quitrentref06_Head.f k z).bind fun b => rTail k l (B (flat l)) b) (fun k => ?_) (Ev.bind hd2 m2)
        simp only [quitrentref06_Join.l0]
        rw [if_neg (by omega), if_neg (by rw [B_toList]; intro e; rw [e] at hf; simp at hf; omega), if_pos (by omega), ← hzz]
        rfl

end Go.Proofs.YtnfeknaeikpdmaaDoor.PR
