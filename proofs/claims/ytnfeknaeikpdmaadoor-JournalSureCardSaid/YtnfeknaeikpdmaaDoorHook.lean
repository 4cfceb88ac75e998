/- The contracts of record.Check and strings.Join, in the form that the printed functions' callers take. -/
import Derived.Test.YtnfeknaeikpdmaaDoorChk
import Derived.Test.YtnfeknaeikpdmaaDoorLibA
import Derived.Test.YtnfeknaeikpdmaaDoorWLast
namespace Go.Proofs.YtnfeknaeikpdmaaDoor.Hook
open Go.RowKit Crc Go.Proofs.YtnfeknaeikpdmaaDoorW.PrintWords

def checkF (a : ByteArray) : Option Int := if a.size ≤ 140737488355328 then some (crc a.data.toList : Nat) else none
theorem check_calls (a0 : ByteArray) (r : Int) (w : World) (h : checkF a0 = some r) :
    Calls Tryd.prog 17 #[.string a0] w fun e w' => e = .returned (.int .u32 r) ∧ Below w.heap.size w w' := by
  unfold checkF at h
  split at h
  · rename_i hs
    obtain rfl := Option.some.inj h
    exact check_any a0 w hs
  · cases h

def joined (l : List ByteArray) (sep : ByteArray) : ByteArray := ⟨(Lib.join (l.map (·.data.toList)) sep.data.toList).toArray⟩
def joinF (l : List ByteArray) (sep : ByteArray) : Option ByteArray := if l.length ≤ 140737488355328 ∧ (joined l sep).size ≤ 140737488355328 then some (joined l sep) else none
theorem join_calls (A0 : Option Addr) (c0 : Nat) (l0 : List ByteArray) (a1 : ByteArray) (r : ByteArray) (w : World) (hr0 : Kd.C Kd.string w A0 l0.length l0) (hc0 : l0.length ≤ c0) (h : joinF l0 a1 = some r) :
    Calls Tryd.prog 44 #[.slice A0 l0.length c0, .string a1] w fun e w' => e = .returned (.string r) ∧ Below w.heap.size w w' := by
  unfold joinF at h
  split at h
  · rename_i hs
    obtain rfl := Option.some.inj h
    cases l0 with
    | nil => exact (Tryd.strings_Join_none A0 c0 a1 w).mono fun e w' ⟨he, hw⟩ => ⟨he, by rw [hw]; exact Below.refl _ _⟩
    | cons x l =>
      obtain ⟨ad, rfl, hc⟩ := hr0.2.2 (by simp)
      have hcell : ∀ (j : Nat) p, (x :: l)[j]? = some p → w.cell? (ad.add j) = some (.string p) := by
        intro j p hj
        obtain ⟨c, hl, hp, hcl⟩ := hc j p hj
        have hp' : c = [.string p] := hp
        subst hp'
        have := hcl 0 (.string p) rfl
        simpa [Kd.string, Kd.scalar] using this
      have h0 := hcell 0 x rfl
      have hsp := World.cell?_spot h0
      obtain ⟨b, o, sp⟩ := ad
      have hsp' : sp = none := by simpa [Addr.add] using hsp
      subst hsp'
      have hb := World.block_lt_of_cell? w _ h0
      refine Tryd.strings_Join b o c0 (x :: l) a1 w (fun j p hj => ?_) (by simpa [Addr.add] using hb) hs.1 hc0 ?_
      · have := hcell j p hj
        have e : (⟨b, o, none⟩ : Addr).add j = ⟨b, o + j, none⟩ := by unfold Addr.add; split <;> simp_all
        rwa [e] at this
      · have := hs.2
        simpa [joined, ByteArray.size] using this
  · cases h
end Go.Proofs.YtnfeknaeikpdmaaDoor.Hook
