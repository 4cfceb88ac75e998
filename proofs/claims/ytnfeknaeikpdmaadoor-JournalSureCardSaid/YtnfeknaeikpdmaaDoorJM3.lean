import Derived.Test.YtnfeknaeikpdmaaDoorJM2
import Derived.Deep.RegionHeld3
namespace Go.Proofs.YtnfeknaeikpdmaaDoor.PR
open Go.RowKit Go.Proofs.YtnfeknaeikpdmaaDoorW.PrintWords Go.Proofs.YtnfeknaeikpdmaaDoorW.PrintLast Go.Proofs.YtnfeknaeikpdmaaDoorW.PrintMore
attribute [local go_sem] max2_int min2_int max_two min_two max_three min_three max_four min_four
set_option linter.unusedVariables false
set_option linter.unusedSimpArgs false
def LaidPost (w : World) (q : Nat) (ys : List (Int × ByteArray)) (n : Nat) (e : Ending) (w' : World) : Prop :=
  ∃ v xs, e = .returned (.tuple #[v, .int .i64 (n : Int), .int .i64 0]) ∧ Laid w.heap.size w' q v xs ys ∧ Below w.heap.size w w'
set_option maxHeartbeats 4000000 in
set_option maxRecDepth 100000 in
theorem laying_ok (k : Nat) (w : World) (p g q : Nat) (s : Sto) (u : Value) (j : Jou) (b : ByteArray) (at_ n : Nat) (L L2 : List ByteArray) (er2 : Int) (hs : StoAt w p g s) (hj : JouAt w q p u j) (hL : record_Lay.f k b false = some (L, 0)) (hL2 : record_Lay.f k b true = some (L2, er2)) (he : at_ + L.length ≤ n) (hn : n ≤ s.n) (hl1 : 1 ≤ L.length) (hl2 : 1 ≤ L2.length) :
    Calls Tryd.prog 52 #[.pointer (some ⟨q, 0, none⟩), .string b, .int .i64 at_, .int .i64 n] w (LaidPost w q (behindStep s (at_ + L.length) n ++ midSteps at_ L L.length ++ [((at_ : Int), L.getD 0 ByteArray.empty), ((at_ : Int), L2.getD 0 ByteArray.empty)]) L.length) := by
  have HL := Aside0.mk hL
  have HL2 := Aside0.mk hL2
  have hle := hs.le
  have wn : wrap64 ((n : Int) - (at_ : Int)) = (n : Int) - at_ := by unfold wrap64; omega
  have ne : decide ((n : Int) - (at_ : Int) < (L.length : Int)) = false := decide_eq_false (by omega)
  clear hL hL2
  go_enter Tryd.func52, Tryd.ntmps52
  go_upto_region 8 with (first | ((with_reducible refine gate_callee (f := 11) rfl ?_); refine goesL_ (some 21) rfl rfl Tryd.func11 (by kernel_rfl) rfl #[.string b, .bool false] rfl (by (try simp only [List.map_toArray, List.map_cons, List.map_nil]); first | done | rfl) ?_; (with_reducible refine (record_Lay.calls k b false L 0 _ HL.out).mono ?_); rintro e w1 ⟨v1, rfl, ho, hb⟩; refine ⟨_, rfl, ?_⟩; have HO := Aside0.mk ho; have HB := Aside0.mk hb; clear ho hb; obtain ⟨A1, c1, e1⟩ := Kd.R_slice HO.out; subst e1) | ((with_reducible refine gate_callee (f := 11) rfl ?_); refine goesL_ (some 26) rfl rfl Tryd.func11 (by kernel_rfl) rfl #[.string b, .bool true] rfl (by (try simp only [List.map_toArray, List.map_cons, List.map_nil]); first | done | rfl) ?_; (with_reducible refine (record_Lay.calls k b true L2 er2 _ HL2.out).mono ?_); rintro e w2 ⟨v2, rfl, ho2, hb2⟩; refine ⟨_, rfl, ?_⟩; have HB2 := Aside0.mk (below_step HB.out hb2); have HO2 := Aside0.mk ho2; have hb2' := Aside0.mk hb2; clear ho2 hb2))
  obtain ⟨g2, c2, e2, _, _, _, _⟩ := Kd.R_form HO2.out (by omega)
  subst e2
  obtain ⟨g1, cg, eg, _, _, _, _⟩ := Kd.R_form HO.out (by omega)
  injection eg with eg1 eg2 eg3
  subst eg1
  subst eg3
  have hb12 := hb2'.out
  have h0 : Lay5 w w2 p g q s u j (some ⟨g1, 0, none⟩) c1 L (some ⟨g2, 0, none⟩) c2 L2 (.slice none 0 0) [] [] :=
    ⟨hs.keep (Upd.ofBelow (S := fun _ => False) HB2.out) (fun h => h) (fun h => h), hj.keep (Upd.ofBelow (S := fun _ => False) HB2.out) (fun h => h), Kd.R_below HO.out hb12, Kd.R_lower HO2.out HB.out.size, HB2.out, Kd.R_nil kStep 91 w2 w.heap.size _, rfl, fun k h1 _ => absurd h1 (by simp)⟩
  have H0 := Aside0.mk h0
  clear h0 hs hj hb12 hb2' HO HO2 HB HB2 wn ne
  obtain ⟨m, hm⟩ : ∃ m, m = at_ + L.length := ⟨_, rfl⟩
  have wl : wrap64 ((at_ : Int) + (L.length : Int)) = (m : Int) := by unfold wrap64; omega
  have wl2 : (at_ : Int) + (L.length : Int) = (m : Int) := by omega
  have HM := Aside0.mk hm
  clear hm
  go_upto_region 10 with fail
  clear wl wl2
  go_cut [53] (fun v53 wc => v53 = .bool (behindB s m n) ∧ Aside0 (Lay5 w wc p g q s u j (some ⟨g1, 0, none⟩) c1 L (some ⟨g2, 0, none⟩) c2 L2 (.slice none 0 0) [] []))
  case first =>
    by_cases hlt : m < n
    · have hltb : decide ((m : Int) < (n : Int)) = true := decide_eq_true (by omega)
      have e0 : behindB s m n = ((blk s.F m).toList != zeroB.toList) := by unfold behindB; rw [decide_eq_true hlt]; rfl
      have hms : m < s.n := by omega
      go_wp2_with (first | (go_at_call 47; (with_reducible refine (jblock_calls _ q p g u j s H0.out.jou H0.out.sto m hms).mono ?_); rintro e wz ⟨rfl, rfl⟩) | (go_at_call 48; (with_reducible refine (zeros_calls _).mono ?_); rintro e wz ⟨rfl, hzb⟩; have n0_ := H0.out.below hzb; clear H0 hzb; have H0 := Aside0.mk n0_; clear n0_))
      go_meet
      case rel => exact ⟨by rw [e0] <;> rfl, H0⟩
    · have hltb : decide ((m : Int) < (n : Int)) = false := decide_eq_false (by omega)
      have e0 : behindB s m n = false := by unfold behindB; rw [decide_eq_false hlt]; rfl
      go_wp2
      go_meet
      case rel => exact ⟨by rw [e0], H0⟩
  case rest =>
    obtain ⟨rfl, H0⟩ := hcut
    go_upto_if 53 with fail
    go_cut [16] (fun v16 wc => ∃ (xs : List (Nat × Nat × Nat)), Aside0 (Lay5 w wc p g q s u j (some ⟨g1, 0, none⟩) c1 L (some ⟨g2, 0, none⟩) c2 L2 v16 xs (behindStep s m n)))
    case first =>
      by_cases hbb : behindB s m n = true
      · have e1 : behindStep s m n = [((m : Int), zeroB)] := by unfold behindStep; rw [if_pos hbb]
        rw [hbb]
        clear hbb
        go_wp2_with (first | (go_at_call 48; (with_reducible refine (zeros_calls _).mono ?_); rintro e wz ⟨rfl, hzb⟩; have n0_ := H0.out.below hzb; clear H0 hzb; have H0 := Aside0.mk n0_; clear n0_) | (go_at_call 54; (with_reducible refine (mkwrite_calls _ q (m : Int) zeroB).mono ?_); rintro e wz ⟨v, rfl, hst, hzb⟩; have n0_ := H0.out.below hzb; clear H0 hzb; have H0 := Aside0.mk n0_; clear n0_; have HST := Aside0.mk hst; obtain ⟨b1, b2, b3, ev, _, _, _⟩ := hst; subst ev) | ((with_reducible refine gate_builtin (b := .append) (xs := #[.tmp 54, .tmp 59]) rfl ?_); at_builtin; refine Kd.R_append kStep (w0 := w) w.heap.size rfl (.tmp 54) (.tmp 59) 87 91 .nilFunc 8 rfl Tryd.underlying87 info91 rfl (by decide) (by omega) (.slice none 0 0) [] (b1, b2, b3) [stepV (b1, b2, b3)] (fun k => w.heap.size ≤ k) (fun _ => False) rfl rfl ?aP (fun _ hk => hk.elim) ?aF ?aO ?aB ?aS ?aL ?_; (case aP => exact rfl); (case aB => exact H0.out.bel); (case aF => exact (fun k hk => Nat.le_trans H0.out.bel.size hk)); (case aO => exact H0.out.own); (case aS => exact H0.out.bel.size); (case aL => decide); intro v118 w30 ho hb hg hat; have n0_ := Aside0.mk (H0.out.below (Lay5.grown hg)); have HOW := Aside0.mk ho; have HST2 := Aside0.mk (HST.out.below (Lay5.grown hg)); clear ho hb hg hat H0 HST; have H0 := n0_; clear n0_))
        go_meet
        case rel => exact ⟨[(b1, b2, b3)], by rw [e1]; exact ⟨⟨H0.out.sto, H0.out.jou, H0.out.r1, H0.out.r2, H0.out.bel, HOW.out, rfl, fun k h1 h2 => by
          have : k = 0 := by simp at h1; omega
          subst this
          exact HST2.out⟩⟩⟩
      · have hbf : behindB s m n = false := by simpa using hbb
        have e1 : behindStep s m n = [] := by unfold behindStep; rw [if_neg hbb]
        rw [hbf]
        clear hbb hbf
        go_wp2
        go_meet
        case rel => exact ⟨[], by rw [e1]; exact H0⟩
    case rest =>
      obtain ⟨xs, H1⟩ := hcut
      go_wp2
      go_loopg [16, 18] (L.length - 1) (fun gq v16 v18 wd => ∃ (i : Nat) (xs : List (Nat × Nat × Nat)), v18 = .int .i64 i ∧ Aside0 (1 ≤ i ∧ i + gq = L.length) ∧ Aside0 (Lay5 w wd p g q s u j (some ⟨g1, 0, none⟩) c1 L (some ⟨g2, 0, none⟩) c2 L2 v16 xs (behindStep s m n ++ midSteps at_ L i)))
      case atStart => exact ⟨1, xs, rfl, ⟨by omega⟩, ⟨by rw [show midSteps at_ L 1 = [] from rfl, List.append_nil]; exact H1.out⟩⟩
      case round =>
        obtain ⟨i, xs, rfl, HI, H1⟩ := hrel
        have hI := HI.out
        by_cases hlt : i < L.length
        · have hms := midSteps_succ at_ L i hI.1
          obtain ⟨x, hx⟩ : ∃ x, x = L.getD i ByteArray.empty := ⟨_, rfl⟩
          obtain ⟨m2, hm2⟩ : ∃ m2, m2 = at_ + i := ⟨_, rfl⟩
          rw [← hx, ← hm2] at hms
          have hi4 : i ≤ 4096 := by omega
          have wl5 : wrap64 (m2 : Int) = (m2 : Int) := wrap_small m2 (by omega)
          have il : (i : Int) < (L.length : Int) := by omega
          have i0 : (0 : Int) ≤ (i : Int) := by omega
          have HXL := Aside0.mk (cells_small xs.length (by rw [H1.out.len]; exact steps_small s m n at_ L i hi4)).1
          have wl3 : (at_ : Int) + (i : Int) = (m2 : Int) := by omega
          have wl4 : wrap64 ((at_ : Int) + (i : Int)) = (m2 : Int) := by rw [wl3]; exact wl5
          obtain ⟨Ao, co, eo⟩ := Kd.R_slice H1.out.own
          subst eo
          obtain ⟨hcx, _⟩ := Kd.R_celln ByteArray.empty H1.out.r1 (i : Int) (by omega) (by omega)
          have hcx2 : wr.cell? ⟨g1, i, none⟩ = some (.string x) := by rw [hx]; exact hcx
          have HMS := Aside0.mk hms
          clear hms hx hm2 hcx
          go_wp2_with (first | (go_at_call 54; (with_reducible refine (mkwrite_calls _ q (m2 : Int) x).mono ?_); rintro e wz ⟨v, rfl, hst, hzb⟩; have n0_ := H1.out.below hzb; clear H1 hzb; have H1 := Aside0.mk n0_; clear n0_; have HST := Aside0.mk hst; obtain ⟨b1, b2, b3, ev, _, _, _⟩ := hst; subst ev) | ((with_reducible refine gate_builtin (b := .append) (xs := #[.tmp 66, .tmp 76]) rfl ?_); at_builtin; refine Kd.R_append kStep (w0 := w) w.heap.size rfl (.tmp 66) (.tmp 76) 87 91 .nilFunc 8 rfl Tryd.underlying87 info91 rfl (by decide) (by omega) (.slice Ao xs.length co) xs (b1, b2, b3) [stepV (b1, b2, b3)] (fun k => w.heap.size ≤ k) (fun _ => False) rfl rfl ?aP (fun _ hk => hk.elim) ?aF ?aO ?aB ?aS ?aL ?_; (case aP => exact rfl); (case aB => exact H1.out.bel); (case aF => exact (fun k hk => Nat.le_trans H1.out.bel.size hk)); (case aO => exact H1.out.own); (case aS => exact H1.out.bel.size); (case aL => exact HXL.out); intro v118 w30 ho hb hg hat; have n0_ := Aside0.mk (H1.out.push (b1, b2, b3) ((m2 : Int), x) HST.out ho hb hg); clear ho hb hg hat H1 HST; have H1 := n0_; clear n0_))
          go_roundg (gk - 1)
          case measure => omega
          case rel => exact ⟨i + 1, xs ++ [(b1, b2, b3)], by go_num, ⟨by omega⟩, ⟨by rw [HMS.out, ← List.append_assoc]; exact H1.out⟩⟩
        · obtain rfl : i = L.length := by omega
          obtain ⟨Ao, co, eo⟩ := Kd.R_slice H1.out.own
          subst eo
          obtain ⟨x1, hx1⟩ : ∃ x, x = L.getD 0 ByteArray.empty := ⟨_, rfl⟩
          obtain ⟨x2, hx2⟩ : ∃ x, x = L2.getD 0 ByteArray.empty := ⟨_, rfl⟩
          obtain ⟨k1, k2⟩ := H1.out.heads hl1 hl2 hx1 hx2
          have n1 : (0 : Int) < (L.length : Int) := by omega
          have n2 : (0 : Int) < (L2.length : Int) := by omega
          have n1' : 0 < L.length := by omega
          have n2' : 0 < L2.length := by omega
          have HX1 := Aside0.mk hx1
          have HX2 := Aside0.mk hx2
          have HXL := Aside0.mk (cells_small xs.length (by rw [H1.out.len]; exact steps_small s m n at_ L L.length (by omega))).2
          clear hx1 hx2
          go_upto_region 16 with fail
          go_region_held3 (fun W => W.cell? ⟨g1, 0, none⟩ = some (.string x1) ∧ W.cell? ⟨g2, 0, none⟩ = some (.string x2))
            (first | (exact ⟨k1, k2⟩) | go_keep)
            (first
              | (go_at_call 54; (with_reducible refine (mkwrite_calls _ q (at_ : Int) x1).mono ?_); rintro e wz ⟨v, rfl, hst, hzb0⟩; have hzb := below_ofDrew hzb0; have n0_ := H1.out.below hzb; clear H1 hzb0 hzb k1 k2; have H1 := Aside0.mk n0_; clear n0_; have HST := Aside0.mk hst; obtain ⟨b1, b2, b3, ev, _, _, _⟩ := hst; subst ev; obtain ⟨k1, k2⟩ := H1.out.heads hl1 hl2 HX1.out HX2.out)
              | (go_at_call 54; (with_reducible refine (mkwrite_calls _ q (at_ : Int) x2).mono ?_); rintro e wy ⟨v, rfl, hst2, hzb⟩; have n0_ := H1.out.below hzb; have n1_ := HST.out.below hzb; clear H1 HST hzb k1 k2; have H1 := Aside0.mk n0_; have HST := Aside0.mk n1_; clear n0_ n1_; have HST2 := Aside0.mk hst2; obtain ⟨d1, d2, d3, ev, _, _, _⟩ := hst2; subst ev; obtain ⟨k1, k2⟩ := H1.out.heads hl1 hl2 HX1.out HX2.out)
              | (refine Kd.R_append_rows_step kStep (Rr := fun x cs => cs = [stepV x]) (w0 := w) w.heap.size (by rfl) (.tmp 78) (.tmp 91) 87 91 .nilFunc 8 (by rfl) Tryd.underlying87 info91 rfl (by decide) (by omega) (.slice Ao xs.length co) xs [(b1, b2, b3), (d1, d2, d3)] (some ⟨wy.heap.size, 0, none⟩) 2 2 (fun k => w.heap.size ≤ k) (fun _ => False) (by rfl) (by rfl) (H1.out.below (below_alloc1 _ _)).own (two_row wy _ _) (fun _ _ h => h) (fun _ hk => hk.elim) (fun k hk => Nat.le_trans (H1.out.below (below_alloc1 _ _)).bel.size hk) (H1.out.below (below_alloc1 _ _)).bel (H1.out.below (below_alloc1 _ _)).bel.size HXL.out ?_; intro v1 w1 ho hb hg hat; have n0_ := Aside0.mk ((H1.out.below (below_alloc1 _ _)).pushL [(b1, b2, b3), (d1, d2, d3)] [((at_ : Int), x1), ((at_ : Int), x2)] rfl (two_steps (HST.out.below (below_alloc1 _ _)) (HST2.out.below (below_alloc1 _ _))) ho hb hg); clear H1 k1 k2 ho hb hg hat; have H1 := n0_; clear n0_; obtain ⟨k1, k2⟩ := H1.out.heads hl1 hl2 HX1.out HX2.out))
          go_wp2
          go_ret3
          rw [← HM.out, ← HX1.out, ← HX2.out]
          exact ⟨v1, _, rfl, H1.out.laid, H1.out.bel⟩

end Go.Proofs.YtnfeknaeikpdmaaDoor.PR
