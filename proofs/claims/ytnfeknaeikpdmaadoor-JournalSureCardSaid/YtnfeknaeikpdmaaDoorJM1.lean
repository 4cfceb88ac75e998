import Derived.Test.YtnfeknaeikpdmaaDoorRecA
import Derived.Test.YtnfeknaeikpdmaaDoorLibB
import Derived.Lib.BufferWrite
import Derived.StillTailTactics
namespace Go.Proofs.YtnfeknaeikpdmaaDoor.PR
open Go.RowKit Go.Proofs.YtnfeknaeikpdmaaDoorW.PrintWords Go.Proofs.YtnfeknaeikpdmaaDoorW.PrintLast Go.Proofs.YtnfeknaeikpdmaaDoorW.PrintMore
attribute [local go_sem] max2_int min2_int max_two min_two max_three min_three max_four min_four
set_option linter.unusedVariables false
set_option linter.unusedSimpArgs false
/-! ### the store in the heap -/
def bcells (F : List UInt8) : Array Value := (F.map fun b => Value.int .u8 (b.toNat : Int)).toArray
theorem bcells_size (F : List UInt8) : (bcells F).size = F.length := by simp [bcells]
theorem info104 : (Tryd.prog.info? 104).map (fun i => (i.zero, i.size, i.bytes)) = some (some (.agg (Array.replicate 64 (.int .u8 0))), 64, 64) := by kernel_rfl
theorem made_zero (n : Nat) : madeCells (Value.agg (Array.replicate 64 (.int .u8 0))).cells (n * 64) = bcells (List.replicate (64 * n) 0) := by
  have hc : (Value.agg (Array.replicate 64 (.int .u8 0))).cells = Array.replicate 64 (.int .u8 0) := by kernel_rfl
  rw [hc]
  apply Array.ext
  · simp [madeCells, bcells, Nat.mul_comm]
  · intro i h1 h2
    have hm : i % 64 < (Array.replicate 64 (Value.int .u8 0)).size := by simp; exact Nat.mod_lt _ (by decide)
    simp [madeCells, bcells]
    show (Array.replicate 64 (Value.int .u8 0))[i % 64]! = _
    rw [getElem!_pos (Array.replicate 64 (Value.int .u8 0)) (i % 64) hm, Array.getElem_replicate]
theorem make_blocks (n : Nat) (h : n ≤ 4096) (w : World) : (Instr.makeSlice 79 (.int .i64 (n : Int)) (.int .i64 (n : Int))).run Tryd.prog w = .ok (.slice (some ⟨w.heap.size, 0, none⟩) n n) (w.alloc (.cells (bcells (List.replicate (64 * n) 0)) 104)) := by
  obtain ⟨i0, hi, hzz⟩ := Option.map_eq_some_iff.1 info104
  simp only [Prod.mk.injEq] at hzz
  obtain ⟨hz0, hz1, hz2⟩ := hzz
  have := run_make w 79 104 i0 _ Tryd.underlying79 hi hz0 .i64 .i64 (n : Int) (n : Int) (by omega) (by omega) (by rw [hz2]; omega) (by omega)
  rw [hz1, Int.toNat_natCast, made_zero] at this
  exact this
set_option maxHeartbeats 1000000 in
set_option maxRecDepth 100000 in
theorem new_some (n : Nat) (w : World) (h1 : 3 ≤ n) (h2 : n ≤ 4096) :
    Calls Tryd.prog 24 #[.int .i64 n] w fun e w' => e = .returned (.tuple #[.pointer (some ⟨w.heap.size + 1, 0, none⟩), .int .i64 0]) ∧ w' = (w.alloc (.cells (bcells (List.replicate (64 * n) 0)) 104)).alloc (.cells #[.slice (some ⟨w.heap.size, 0, none⟩) n n, .int .i64 (-1), .int .i64 0, .bool false, .int .i64 0] 81) := by
  have c1b : decide ((n : Int) < 3) = false := decide_eq_false (by omega)
  have c2b : decide (4096 < (n : Int)) = false := decide_eq_false (by omega)
  have mk := make_blocks n h2
  go_enter Tryd.func24, Tryd.ntmps24
  go_wp2
  go_ret2
  exact ⟨rfl, rfl⟩
theorem new_none (n : Int) (w : World) (h : n < 3 ∨ n > 4096) :
    Calls Tryd.prog 24 #[.int .i64 n] w fun e w' => e = .returned (.tuple #[.pointer none, .int .i64 1]) ∧ w' = w := by
  by_cases c1 : n < 3
  · have c1b : decide (n < 3) = true := decide_eq_true c1
    clear h
    go_enter Tryd.func24, Tryd.ntmps24
    go_wp2
    go_ret2
    exact ⟨rfl, rfl⟩
  · have c1b : decide (n < 3) = false := decide_eq_false c1
    have c2b : decide (4096 < n) = true := decide_eq_true (h.resolve_left c1)
    clear h
    go_enter Tryd.func24, Tryd.ntmps24
    go_wp2
    go_ret2
    exact ⟨rfl, rfl⟩
structure Sto where
  F : List UInt8
  n : Nat
  left : Int
  torn : Int
  down : Bool
  writes : Int
def Sto.cells (s : Sto) (g : Nat) : Array Value := #[.slice (some ⟨g, 0, none⟩) s.n s.n, .int .i64 s.left, .int .i64 s.torn, .bool s.down, .int .i64 s.writes]
/-- The store s lies at block p, its bytes at block g. -/
structure StoAt (w : World) (p g : Nat) (s : Sto) : Prop where
  hp : w.heap[p]? = some (.cells (s.cells g) 81 (0, 0))
  hg : w.heap[g]? = some (.cells (bcells s.F) 104 (0, 0))
  len : s.F.length = 64 * s.n
  le : s.n ≤ 4096
theorem StoAt.ne {w : World} {p g : Nat} {s : Sto} (h : StoAt w p g s) : p ≠ g := by
  intro e
  have h1 := h.hp
  rw [e, h.hg] at h1
  injection h1 with h1
  injection h1 with _ h1
  exact absurd h1 (by decide)
theorem cell_of {w : World} {p : Nat} {c : Array Value} {t : TypeId} (h : w.heap[p]? = some (.cells c t (0, 0))) (i : Nat) : w.cell? ⟨p, i, none⟩ = c[i]? ∧ w.frozen? ⟨p, i, none⟩ = false := by
  refine ⟨?_, ?_⟩
  · unfold World.cell?
    rw [show w.heap[(⟨p, i, none⟩ : Addr).block]? = _ from h]
    rfl
  · unfold World.frozen?
    rw [show w.heap[(⟨p, i, none⟩ : Addr).block]? = _ from h]
    simp
theorem StoAt.c0 {w : World} {p g : Nat} {s : Sto} (h : StoAt w p g s) : w.cell? ⟨p, 0, none⟩ = some (.slice (some ⟨g, 0, none⟩) s.n s.n) := (cell_of h.hp 0).1
theorem StoAt.c1 {w : World} {p g : Nat} {s : Sto} (h : StoAt w p g s) : w.cell? ⟨p, 1, none⟩ = some (.int .i64 s.left) := (cell_of h.hp 1).1
theorem StoAt.c2 {w : World} {p g : Nat} {s : Sto} (h : StoAt w p g s) : w.cell? ⟨p, 2, none⟩ = some (.int .i64 s.torn) := (cell_of h.hp 2).1
theorem StoAt.c3 {w : World} {p g : Nat} {s : Sto} (h : StoAt w p g s) : w.cell? ⟨p, 3, none⟩ = some (.bool s.down) := (cell_of h.hp 3).1
theorem StoAt.c4 {w : World} {p g : Nat} {s : Sto} (h : StoAt w p g s) : w.cell? ⟨p, 4, none⟩ = some (.int .i64 s.writes) := (cell_of h.hp 4).1
theorem StoAt.cb {w : World} {p g : Nat} {s : Sto} (h : StoAt w p g s) (i : Nat) (hi : i < s.F.length) : w.cell? ⟨g, i, none⟩ = some (.int .u8 (s.F[i].toNat : Int)) := by
  rw [(cell_of h.hg i).1]
  simp [bcells, hi]
set_option maxHeartbeats 1000000 in
set_option maxRecDepth 100000 in
theorem blocks_calls (w : World) (p g : Nat) (s : Sto) (h : StoAt w p g s) :
    Calls Tryd.prog 74 #[.pointer (some ⟨p, 0, none⟩)] w fun e w' => e = .returned (.int .i64 s.n) ∧ w' = w := by
  have c0 := h.c0
  clear h
  go_enter Tryd.func74, Tryd.ntmps74
  go_wp2
  go_ret
  exact ⟨rfl, rfl⟩
set_option maxHeartbeats 1000000 in
set_option maxRecDepth 100000 in
theorem has_calls (w : World) (p g : Nat) (s : Sto) (h : StoAt w p g s) (at_ : Int) :
    Calls Tryd.prog 60 #[.pointer (some ⟨p, 0, none⟩), .int .i64 at_] w fun e w' => e = .returned (.bool (decide (0 ≤ at_ ∧ at_ < s.n))) ∧ w' = w := by
  have c0 := h.c0
  clear h
  by_cases c : 0 ≤ at_
  · have cb : decide (0 ≤ at_) = true := decide_eq_true c
    have e : decide (0 ≤ at_ ∧ at_ < s.n) = decide (at_ < (s.n : Int)) := by simp [c]
    rw [e]
    clear e
    go_enter Tryd.func60, Tryd.ntmps60
    go_wp2
    go_ret
    exact ⟨rfl, rfl⟩
  · have cb : decide (0 ≤ at_) = false := decide_eq_false c
    have e : decide (0 ≤ at_ ∧ at_ < s.n) = false := by simp [c]
    rw [e]
    clear e
    go_enter Tryd.func60, Tryd.ntmps60
    go_wp2
    go_ret
    exact ⟨rfl, rfl⟩
theorem blk_cells (F : List UInt8) (i n : Nat) (hl : F.length = 64 * n) (hi : i < n) (w : World) (g : Nat) (h : w.heap[g]? = some (.cells (bcells F) 104 (0, 0))) : ∀ dst, Tryd.prog.underlying dst = some .string → (convert 39 dst (.slice (some ⟨g, i * 64, none⟩) 64 64)).run Tryd.prog w = .ok (.string (blk F i)) w := by
  intro dst hd
  rw [Nat.mul_comm i 64]
  have hb : strOfNums (ofB ((F.drop (64 * i)).take 64)) = blk F i := by rw [strOf_ofB]; rfl
  have hx : ((F.drop (64 * i)).take 64).length = 64 := by rw [List.length_take, List.length_drop, hl]; omega
  have := run_convert_bytes_arg (P := Tryd.prog) w 39 5 Tryd.underlying39 Tryd.underlying5 g (64 * i) 64 64 (ofB ((F.drop (64 * i)).take 64)) (by unfold ofB; rw [List.length_map, hx]) (fun j hj => by
    rw [(cell_of h (64 * i + j)).1]
    have h1 : 64 * i + j < F.length := by omega
    have e : (ofB ((F.drop (64 * i)).take 64)).getD j 0 = (F[64 * i + j].toNat : Int) := by
      unfold ofB
      rw [List.getD_eq_getElem?_getD, List.getElem?_map, List.getElem?_take_of_lt hj, List.getElem?_drop, List.getElem?_eq_getElem h1]
      rfl
    rw [e]
    simp [bcells, h1]) dst hd
  rw [hb] at this
  exact this
set_option maxHeartbeats 1000000 in
set_option maxRecDepth 100000 in
theorem read_in (w : World) (p g : Nat) (s : Sto) (h : StoAt w p g s) (i : Nat) (hi : i < s.n) :
    Calls Tryd.prog 61 #[.pointer (some ⟨p, 0, none⟩), .int .i64 i] w fun e w' => e = .returned (.tuple #[.string (blk s.F i), .int .i64 0]) ∧ w' = w := by
  have c0 := h.c0
  have hb := blk_cells s.F i s.n h.len hi w g h.hg 9 Tryd.underlying9
  have H := Aside0.mk h
  have hle := h.le
  have hd : decide (0 ≤ (i : Int) ∧ (i : Int) < s.n) = true := decide_eq_true (by omega)
  clear h
  go_enter Tryd.func61, Tryd.ntmps61
  go_wp2_with (go_at_call 60; refine (has_calls _ p g s H.out i).mono ?_; rintro e w' ⟨rfl, rfl⟩; rw [hd])
  go_ret2
  exact ⟨rfl, rfl⟩
set_option maxHeartbeats 1000000 in
set_option maxRecDepth 100000 in
theorem read_out (w : World) (p g : Nat) (s : Sto) (h : StoAt w p g s) (i : Int) (hi : ¬ (0 ≤ i ∧ i < s.n)) :
    Calls Tryd.prog 61 #[.pointer (some ⟨p, 0, none⟩), .int .i64 i] w fun e w' => e = .returned (.tuple #[.string (⟨#[]⟩ : ByteArray), .int .i64 1]) ∧ w' = w := by
  have H := Aside0.mk h
  have hd : decide (0 ≤ i ∧ i < s.n) = false := decide_eq_false hi
  clear h hi
  go_enter Tryd.func61, Tryd.ntmps61
  go_wp2_with (go_at_call 60; refine (has_calls _ p g s H.out i).mono ?_; rintro e w' ⟨rfl, rfl⟩; rw [hd])
  go_ret2
  exact ⟨rfl, rfl⟩
/-- All but these blocks is as it was; nothing else than the heap has changed. -/
structure Upd (S : Nat → Prop) (w w' : World) : Prop where
  os : w'.os = w.os
  tape : w'.tape = w.tape
  output : w'.output = w.output
  size : w.heap.size ≤ w'.heap.size
  block : ∀ k, k < w.heap.size → ¬ S k → w'.heap[k]? = w.heap[k]?
theorem Upd.refl (S : Nat → Prop) (w : World) : Upd S w w := ⟨rfl, rfl, rfl, Nat.le_refl _, fun _ _ _ => rfl⟩
theorem Upd.trans {S : Nat → Prop} {w w1 w2 : World} (h : Upd S w w1) (k : Upd S w1 w2) : Upd S w w2 := ⟨k.os.trans h.os, k.tape.trans h.tape, k.output.trans h.output, Nat.le_trans h.size k.size, fun i hi hs => (k.block i (Nat.lt_of_lt_of_le hi h.size) hs).trans (h.block i hi hs)⟩
theorem Upd.mono {S T : Nat → Prop} {w w1 : World} (h : Upd S w w1) (hs : ∀ k, k < w.heap.size → S k → T k) : Upd T w w1 := ⟨h.os, h.tape, h.output, h.size, fun i hi hn => h.block i hi (fun c => hn (hs i hi c))⟩
theorem Upd.below {S : Nat → Prop} {w0 w w1 : World} (h : Upd S w w1) (hb : Below w0.heap.size w0 w) (hS : ∀ k, S k → w0.heap.size ≤ k) : Below w0.heap.size w0 w1 :=
  ⟨h.os.trans hb.os, h.tape.trans hb.tape, h.output.trans hb.output, Nat.le_trans hb.size h.size, fun i hi => (h.block i (Nat.lt_of_lt_of_le hi hb.size) (fun c => by have := hS i c; omega)).trans (hb.block i hi)⟩
theorem Upd.ofBelow {S : Nat → Prop} {w w1 : World} (h : Below w.heap.size w w1) : Upd S w w1 := ⟨h.os, h.tape, h.output, h.size, fun i hi _ => h.block i hi⟩
theorem Upd.setCell (w : World) (a : Addr) (v : Value) : Upd (fun k => k = a.block) w (w.setCell a v) :=
  ⟨rfl, rfl, rfl, by unfold World.setCell; simp, fun k hk hn => Below.heap_setCell w a v k (fun e => hn e)⟩
theorem StoAt.keep {S : Nat → Prop} {w w1 : World} {p g : Nat} {s : Sto} (h : StoAt w p g s) (hu : Upd S w w1) (hp : ¬ S p) (hg : ¬ S g) : StoAt w1 p g s := by
  have lp : p < w.heap.size := by
    by_cases c : p < w.heap.size
    · exact c
    · have := h.hp; rw [Array.getElem?_eq_none (by omega)] at this; cases this
  have lg : g < w.heap.size := by
    by_cases c : g < w.heap.size
    · exact c
    · have := h.hg; rw [Array.getElem?_eq_none (by omega)] at this; cases this
  exact ⟨(hu.block p lp hp).trans h.hp, (hu.block g lg hg).trans h.hg, h.len, h.le⟩

theorem setCell_at {w : World} {p : Nat} {c : Array Value} {t : TypeId} (h : w.heap[p]? = some (.cells c t (0, 0))) (i : Nat) (v : Value) : (w.setCell ⟨p, i, none⟩ v).heap[p]? = some (.cells (c.setIfInBounds i v) t (0, 0)) := by
  unfold World.setCell
  rw [Array.getElem?_modify, if_pos rfl, h]
  rfl
theorem StoAt.setLeft {w : World} {p g : Nat} {s : Sto} (h : StoAt w p g s) (x : Int) : StoAt (w.setCell ⟨p, 1, none⟩ (.int .i64 x)) p g { s with left := x } :=
  ⟨setCell_at h.hp 1 _, (Below.heap_setCell w _ _ g (fun e => h.ne e.symm)).trans h.hg, h.len, h.le⟩
theorem StoAt.setTorn {w : World} {p g : Nat} {s : Sto} (h : StoAt w p g s) (x : Int) : StoAt (w.setCell ⟨p, 2, none⟩ (.int .i64 x)) p g { s with torn := x } :=
  ⟨setCell_at h.hp 2 _, (Below.heap_setCell w _ _ g (fun e => h.ne e.symm)).trans h.hg, h.len, h.le⟩
theorem StoAt.setDown {w : World} {p g : Nat} {s : Sto} (h : StoAt w p g s) (x : Bool) : StoAt (w.setCell ⟨p, 3, none⟩ (.bool x)) p g { s with down := x } :=
  ⟨setCell_at h.hp 3 _, (Below.heap_setCell w _ _ g (fun e => h.ne e.symm)).trans h.hg, h.len, h.le⟩
theorem StoAt.setWrites {w : World} {p g : Nat} {s : Sto} (h : StoAt w p g s) (x : Int) : StoAt (w.setCell ⟨p, 4, none⟩ (.int .i64 x)) p g { s with writes := x } :=
  ⟨setCell_at h.hp 4 _, (Below.heap_setCell w _ _ g (fun e => h.ne e.symm)).trans h.hg, h.len, h.le⟩
theorem StoAt.fz {w : World} {p g : Nat} {s : Sto} (h : StoAt w p g s) (i : Nat) : w.frozen? ⟨p, i, none⟩ = false := (cell_of h.hp i).2
set_option maxHeartbeats 1000000 in
set_option maxRecDepth 100000 in
theorem fuse_calls (w : World) (p g : Nat) (s : Sto) (h : StoAt w p g s) (x t : Int) :
    Calls Tryd.prog 35 #[.pointer (some ⟨p, 0, none⟩), .int .i64 x, .int .i64 t] w fun e w' => e = .returned (.tuple #[]) ∧ StoAt w' p g { s with left := max x (-1), torn := t } ∧ Upd (fun k => k = p) w w' := by
  have h1 := (h.setLeft (max x (-1))).setTorn t
  have hu := (Upd.setCell w ⟨p, 1, none⟩ (.int .i64 (max x (-1)))).trans (Upd.setCell (w.setCell ⟨p, 1, none⟩ (.int .i64 (max x (-1)))) ⟨p, 2, none⟩ (.int .i64 t))
  have H1 := Aside0.mk h1
  have HU := Aside0.mk hu
  have c1 := h.c1
  have c2 := h.c2
  have f1 := h.fz 1
  have f2 := h.fz 2
  clear h h1 hu
  go_enter Tryd.func35, Tryd.ntmps35
  go_wp2
  · have e : max x (-1) = -1 := by omega
    rw [e] at H1 HU ⊢
    go_end0
    exact ⟨rfl, H1.out, HU.out⟩
  · have e : max x (-1) = x := by omega
    rw [e] at H1 HU ⊢
    go_end0
    exact ⟨rfl, H1.out, HU.out⟩
set_option maxHeartbeats 1000000 in
set_option maxRecDepth 100000 in
theorem restart_calls (w : World) (p g : Nat) (s : Sto) (h : StoAt w p g s) :
    Calls Tryd.prog 40 #[.pointer (some ⟨p, 0, none⟩)] w fun e w' => e = .returned (.tuple #[]) ∧ StoAt w' p g { s with left := -1, down := false } ∧ Upd (fun k => k = p) w w' := by
  have h1 := (h.setLeft (-1)).setDown false
  have hu := (Upd.setCell w ⟨p, 1, none⟩ (.int .i64 (-1))).trans (Upd.setCell (w.setCell ⟨p, 1, none⟩ (.int .i64 (-1))) ⟨p, 3, none⟩ (.bool false))
  have H1 := Aside0.mk h1
  have HU := Aside0.mk hu
  have c1 := h.c1
  have c3 := h.c3
  have f1 := h.fz 1
  have f3 := h.fz 3
  clear h h1 hu
  go_enter Tryd.func40, Tryd.ntmps40
  go_wp2
  go_end0
  exact ⟨rfl, H1.out, HU.out⟩

theorem info5b : (Tryd.prog.info? 5).map (·.size) = some 1 := by kernel_rfl
theorem bcells_toList (F : List UInt8) : (bcells F).toList = Lib.byteCells F := by simp [bcells, Lib.byteCells]
set_option maxRecDepth 100000 in
/-- copy(s.b[at][:], b): the bytes go over. -/
theorem copy_at (w : World) (g n i : Nat) (F : List UInt8) (hF : F.length = 64 * n) (hi : i < n) (hg : w.heap[g]? = some (.cells (bcells F) 104 (0, 0))) (b : ByteArray) (hb : b.size ≤ 64) :
    (Builtin.copy_ #[39, 9] 3 #[.slice (some ⟨g, i * 64, none⟩) 64 64, .string b]).run Tryd.prog w = .ok (goInt b.size) (w.setRow g (bcells (F.take (i * 64) ++ b.data.toList ++ F.drop (i * 64 + b.size)))) := by
  have := Lib.run_copy_row_string (P := Tryd.prog) w 39 9 3 5 g (i * 64) 64 64 b (bcells F) 104 Tryd.underlying39 info5b hg hb (by rw [bcells_size, hF]; omega)
  rw [this]
  congr 2
  rw [bcells_toList]
  simp [bcells, Lib.byteCells, List.map_take, List.map_drop]
theorem StoAt.row {w : World} {p g : Nat} {s : Sto} (h : StoAt w p g s) (F' : List UInt8) (hl : F'.length = s.F.length) : StoAt (w.setRow g (bcells F')) p g { s with F := F' } :=
  ⟨by rw [setRow_other w g p _ h.ne]; exact h.hp, setRow_heap w g _ _ _ _ h.hg, by show F'.length = _; rw [hl]; exact h.len, h.le⟩
theorem Upd.row (w : World) (g : Nat) (c : Array Value) : Upd (fun k => k = g) w (w.setRow g c) :=
  ⟨rfl, rfl, rfl, by rw [size_setRow]; exact Nat.le_refl _, fun k hk hn => setRow_other w g k c hn⟩
theorem Upd.drew (S : Nat → Prop) (w : World) : Upd S w w.drew := ⟨rfl, rfl, rfl, Nat.le_refl _, fun _ _ _ => rfl⟩
theorem StoAt.drew {w : World} {p g : Nat} {s : Sto} (h : StoAt w p g s) : StoAt w.drew p g s := ⟨h.hp, h.hg, h.len, h.le⟩
def patch (F : List UInt8) (at_ : Nat) (l : List UInt8) : List UInt8 := F.take at_ ++ l ++ F.drop (at_ + l.length)
theorem patch_length (F : List UInt8) (at_ : Nat) (l : List UInt8) (h : at_ + l.length ≤ F.length) : (patch F at_ l).length = F.length := by
  unfold patch
  simp only [List.length_append, List.length_take, List.length_drop]; omega
def clamp (t : Int) : Nat := if t < 0 then 0 else if 64 < t then 64 else t.toNat
def Sto.write (s : Sto) (at_ : Int) (b : ByteArray) : Sto × Int :=
  if ¬ (0 ≤ at_ ∧ at_ < s.n) ∨ b.size ≠ 64 then (s, 1)
  else if s.down = true then (s, 9)
  else if s.left = 0 then ({ s with F := patch s.F (64 * at_.toNat) (b.data.toList.take (clamp s.torn)), down := true }, 9)
  else ({ s with F := patch s.F (64 * at_.toNat) b.data.toList, left := (if s.left > 0 then s.left - 1 else s.left), writes := wrap64 (s.writes + 1) }, 0)
theorem copy_patch (w : World) (p g : Nat) (s : Sto) (h : StoAt w p g s) (i : Nat) (hi : i < s.n) (b : ByteArray) (hb : b.size ≤ 64) :
    (Builtin.copy_ #[39, 9] 3 #[.slice (some ⟨g, i * 64, none⟩) 64 64, .string b]).run Tryd.prog w = .ok (goInt b.size) (w.setRow g (bcells (patch s.F (64 * i) b.data.toList))) := by
  have := copy_at w g s.n i s.F h.len hi h.hg b hb
  rw [this]
  unfold patch
  rw [B_len, Nat.mul_comm 64 i]
set_option maxHeartbeats 1000000 in
set_option maxRecDepth 100000 in
theorem write_torn (w : World) (p g : Nat) (s : Sto) (h : StoAt w p g s) (i : Nat) (hi : i < s.n) (b : ByteArray) (hb : b.size = 64) (hd : s.down = false) (hl : s.left = 0) :
    Calls Tryd.prog 37 #[.pointer (some ⟨p, 0, none⟩), .int .i64 i, .string b] w fun e w' => e = .returned (.int .i64 9) ∧ StoAt w' p g { s with F := patch s.F (64 * i) (b.data.toList.take (clamp s.torn)), down := true } ∧ Upd (fun k => k = p ∨ k = g) w w' := by
  have c0 := h.c0
  have c1 := h.c1
  have c2 := h.c2
  have c3 := h.c3
  have c4 := h.c4
  have f1 := h.fz 1
  have f3 := h.fz 3
  have f4 := h.fz 4
  have hle := h.le
  have H := Aside0.mk h
  have hh : decide (0 ≤ (i : Int) ∧ (i : Int) < s.n) = true := decide_eq_true (by omega)
  rw [hl] at c1
  rw [hd] at c3
  obtain ⟨m1, e1⟩ : ∃ m1, (if s.torn < 0 then (0 : Int) else s.torn) = m1 := ⟨_, rfl⟩
  obtain ⟨m, e2⟩ : ∃ m, (if 64 < m1 then (64 : Int) else m1) = m := ⟨_, rfl⟩
  have m0 : 0 ≤ m ∧ m ≤ 64 ∧ m.toNat = clamp s.torn := by
    rw [← e2, ← e1]
    unfold clamp
    by_cases q1 : s.torn < 0
    · rw [if_pos q1, if_pos q1]; decide
    · rw [if_neg q1, if_neg q1]
      by_cases q2 : 64 < s.torn
      · rw [if_pos q2, if_pos q2]; decide
      · rw [if_neg q2, if_neg q2]; omega
  have m0a := eq_true m0.1
  have m0b : (m ≤ (b.size : Int)) = True := eq_true (by omega)
  have m0c : (m ≤ 64) = True := eq_true m0.2.1
  have M0 := Aside0.mk m0
  have HD := Aside0.mk hd
  have HL := Aside0.mk hl
  clear h hl hd m0
  go_enter Tryd.func37, Tryd.ntmps37
  go_upto_region 6 with (go_at_call 60; refine (has_calls _ p g s H.out i).mono ?_; rintro e w' ⟨rfl, rfl⟩; rw [hh])
  go_still_tail 15, (by kernel_rfl)
  change wpList _ _ _ _ _ w'.drew
  have hx : (b.extract 0 m.toNat).data.toList = b.data.toList.take (clamp s.torn) := by
    have := Lib.extract_data b 0 m.toNat
    rw [this, List.drop_zero, Nat.sub_zero, M0.out.2.2]
  have hsz : (b.extract 0 m.toNat).size ≤ 64 := by simp; omega
  have hcp := copy_patch w'.drew p g s H.out.drew i hi (b.extract 0 m.toNat) hsz
  rw [hx] at hcp
  have hplen : (patch s.F (64 * i) (b.data.toList.take (clamp s.torn))).length = s.F.length := by
    apply patch_length
    have h1 := H.out.len
    have h2 : (b.data.toList.take (clamp s.torn)).length ≤ 64 := by rw [← hx, B_len]; exact hsz
    omega
  have H3 := H.out.drew.row _ hplen
  have U3 := (Upd.drew (fun k => k = p ∨ k = g) w').trans ((Upd.row w'.drew g (bcells (patch s.F (64 * i) (b.data.toList.take (clamp s.torn))))).mono (fun k _ hk => Or.inr hk))
  generalize w'.drew.setRow g (bcells (patch s.F (64 * i) (b.data.toList.take (clamp s.torn)))) = W3 at *
  have H4 := Aside0.mk (H3.setDown true)
  have U4 := Aside0.mk (U3.trans ((Upd.setCell W3 ⟨p, 3, none⟩ (.bool true)).mono (fun k _ hk => Or.inl hk)))
  have d3 := H3.c3
  have d3' : W3.cell? ⟨p, 3, none⟩ = some (.bool s.down) := d3
  have g3 := H3.fz 3
  clear U3 H3 hx hsz hplen d3
  go_wp2
  go_ret
  exact ⟨rfl, H4.out, U4.out⟩
set_option maxHeartbeats 1000000 in
set_option maxRecDepth 100000 in
theorem write_ok (w : World) (p g : Nat) (s : Sto) (h : StoAt w p g s) (i : Nat) (hi : i < s.n) (b : ByteArray) (hb : b.size = 64) (hd : s.down = false) (hl : s.left ≠ 0) :
    Calls Tryd.prog 37 #[.pointer (some ⟨p, 0, none⟩), .int .i64 i, .string b] w fun e w' => e = .returned (.int .i64 0) ∧ StoAt w' p g { s with F := patch s.F (64 * i) b.data.toList, left := (if s.left > 0 then wrap64 (s.left - 1) else s.left), writes := wrap64 (s.writes + 1) } ∧ Upd (fun k => k = p ∨ k = g) w w' := by
  have c0 := h.c0
  have c1 := h.c1
  have c2 := h.c2
  have c3 := h.c3
  have c4 := h.c4
  have f1 := h.fz 1
  have f3 := h.fz 3
  have f4 := h.fz 4
  have hle := h.le
  have H := Aside0.mk h
  have hh : decide (0 ≤ (i : Int) ∧ (i : Int) < s.n) = true := decide_eq_true (by omega)
  have hl0 : (s.left == 0) = false := beq_eq_false_iff_ne.mpr hl
  rw [hd] at c3
  have HD := Aside0.mk hd
  clear h hl hd
  by_cases hp : s.left > 0
  · have hp0 : decide (0 < s.left) = true := decide_eq_true hp
    rw [if_pos hp]
    clear hp
    go_enter Tryd.func37, Tryd.ntmps37
    go_upto_region 11 with (go_at_call 60; refine (has_calls _ p g s H.out i).mono ?_; rintro e w' ⟨rfl, rfl⟩; rw [hh])
    obtain ⟨s1, hs1⟩ : ∃ s1 : Sto, s1 = { s with left := wrap64 (s.left - 1) } := ⟨_, rfl⟩
    have H1 : StoAt (w'.setCell ⟨p, 1, none⟩ (.int .i64 (wrap64 (s.left - 1)))) p g s1 := by rw [hs1]; exact H.out.setLeft _
    have U1 : Upd (fun k => k = p ∨ k = g) w' (w'.setCell ⟨p, 1, none⟩ (.int .i64 (wrap64 (s.left - 1)))) := (Upd.setCell w' ⟨p, 1, none⟩ _).mono (fun k _ hk => Or.inl hk)
    generalize w'.setCell ⟨p, 1, none⟩ (.int .i64 (wrap64 (s.left - 1))) = W1 at *
    have hi1 : i < s1.n := by rw [hs1]; exact hi
    have HS1 := Aside0.mk hs1
    clear hs1
    have G1 := H1.c0
    have hcp := copy_patch W1 p g s1 H1 i hi1 b (by omega)
    have H2 := H1.row (patch s1.F (64 * i) b.data.toList) (by apply patch_length; have := H1.len; rw [B_len, hb, this]; omega)
    have U2 := U1.trans ((Upd.row W1 g (bcells (patch s1.F (64 * i) b.data.toList))).mono (T := fun k => k = p ∨ k = g) (fun k _ hk => Or.inr hk))
    rw [hb] at hcp
    clear c0 c1 c2 c3 c4 f1 f3 f4 hl0 hp0 hh H H1 U1
    go_upto_region 12 with fail
    generalize W1.setRow g (bcells (patch s1.F (64 * i) b.data.toList)) = W2 at *
    have d4 := H2.c4
    have d4' : W2.cell? ⟨p, 4, none⟩ = some (.int .i64 s1.writes) := d4
    have f4 := H2.fz 4
    have H3 := Aside0.mk (H2.setWrites (wrap64 (s1.writes + 1)))
    have U3 := Aside0.mk (U2.trans ((Upd.setCell W2 ⟨p, 4, none⟩ (.int .i64 (wrap64 (s1.writes + 1)))).mono (fun k _ hk => Or.inl hk)))
    clear d4 H2 U2 hcp G1
    go_wp2
    go_ret
    refine ⟨rfl, ?_, U3.out⟩
    have := H3.out
    have e := HS1.out
    clear HS1
    subst e
    exact this
  · have hp0 : decide (0 < s.left) = false := decide_eq_false hp
    rw [if_neg hp]
    clear hp
    go_enter Tryd.func37, Tryd.ntmps37
    go_upto_region 11 with (go_at_call 60; refine (has_calls _ p g s H.out i).mono ?_; rintro e w' ⟨rfl, rfl⟩; rw [hh])
    obtain ⟨s1, hs1⟩ : ∃ s1 : Sto, s1 = s := ⟨_, rfl⟩
    have H1 : StoAt w' p g s1 := by rw [hs1]; exact H.out
    obtain ⟨W1, hW1⟩ : ∃ W1, W1 = w' := ⟨_, rfl⟩
    have U1 : Upd (fun k => k = p ∨ k = g) w' W1 := by rw [hW1]; exact Upd.refl _ _
    rw [← hW1] at H1 c0 c1 c2 c3 c4 f1 f3 f4 H
    rw [← hW1]
    clear hW1
    have hi1 : i < s1.n := by rw [hs1]; exact hi
    have HS1 := Aside0.mk hs1
    clear hs1
    have G1 := H1.c0
    have hcp := copy_patch W1 p g s1 H1 i hi1 b (by omega)
    have H2 := H1.row (patch s1.F (64 * i) b.data.toList) (by apply patch_length; have := H1.len; rw [B_len, hb, this]; omega)
    have U2 := U1.trans ((Upd.row W1 g (bcells (patch s1.F (64 * i) b.data.toList))).mono (T := fun k => k = p ∨ k = g) (fun k _ hk => Or.inr hk))
    rw [hb] at hcp
    clear c0 c1 c2 c3 c4 f1 f3 f4 hl0 hp0 hh H H1 U1
    go_upto_region 12 with fail
    generalize W1.setRow g (bcells (patch s1.F (64 * i) b.data.toList)) = W2 at *
    have d4 := H2.c4
    have d4' : W2.cell? ⟨p, 4, none⟩ = some (.int .i64 s1.writes) := d4
    have f4 := H2.fz 4
    have H3 := Aside0.mk (H2.setWrites (wrap64 (s1.writes + 1)))
    have U3 := Aside0.mk (U2.trans ((Upd.setCell W2 ⟨p, 4, none⟩ (.int .i64 (wrap64 (s1.writes + 1)))).mono (fun k _ hk => Or.inl hk)))
    clear d4 H2 U2 hcp G1
    go_wp2
    go_ret
    refine ⟨rfl, ?_, U3.out⟩
    have := H3.out
    have e := HS1.out
    clear HS1
    subst e
    exact this
set_option maxHeartbeats 1000000 in
set_option maxRecDepth 100000 in
theorem write_down (w : World) (p g : Nat) (s : Sto) (h : StoAt w p g s) (i : Nat) (hi : i < s.n) (b : ByteArray) (hb : b.size = 64) (hd : s.down = true) :
    Calls Tryd.prog 37 #[.pointer (some ⟨p, 0, none⟩), .int .i64 i, .string b] w fun e w' => e = .returned (.int .i64 9) ∧ w' = w := by
  have c3 := h.c3
  have H := Aside0.mk h
  have hle := h.le
  have hh : decide (0 ≤ (i : Int) ∧ (i : Int) < s.n) = true := decide_eq_true (by omega)
  rw [hd] at c3
  clear h hd
  go_enter Tryd.func37, Tryd.ntmps37
  go_wp2_with (go_at_call 60; refine (has_calls _ p g s H.out i).mono ?_; rintro e w' ⟨rfl, rfl⟩; rw [hh])
  go_ret
  exact ⟨rfl, rfl⟩
set_option maxHeartbeats 1000000 in
set_option maxRecDepth 100000 in
theorem write_arg (w : World) (p g : Nat) (s : Sto) (h : StoAt w p g s) (i : Int) (b : ByteArray) (hb : ¬ (0 ≤ i ∧ i < s.n) ∨ b.size ≠ 64) :
    Calls Tryd.prog 37 #[.pointer (some ⟨p, 0, none⟩), .int .i64 i, .string b] w fun e w' => e = .returned (.int .i64 1) ∧ w' = w := by
  have H := Aside0.mk h
  clear h
  by_cases hi : 0 ≤ i ∧ i < s.n
  · have hh : decide (0 ≤ i ∧ i < s.n) = true := decide_eq_true hi
    have hz : ((b.size : Int) != 64) = true := bne_iff_ne.mpr (by have := hb.resolve_left (fun c => c hi); omega)
    clear hb hi
    go_enter Tryd.func37, Tryd.ntmps37
    go_wp2_with (go_at_call 60; refine (has_calls _ p g s H.out i).mono ?_; rintro e w' ⟨rfl, rfl⟩; rw [hh])
    go_ret
    exact ⟨rfl, rfl⟩
  · have hh : decide (0 ≤ i ∧ i < s.n) = false := decide_eq_false hi
    clear hb hi
    go_enter Tryd.func37, Tryd.ntmps37
    go_wp2_with (go_at_call 60; refine (has_calls _ p g s H.out i).mono ?_; rintro e w' ⟨rfl, rfl⟩; rw [hh])
    go_ret
    exact ⟨rfl, rfl⟩
theorem write_calls (w : World) (p g : Nat) (s : Sto) (h : StoAt w p g s) (hleft : -1 ≤ s.left) (hl2 : s.left ≤ 9223372036854775807) (i : Int) (b : ByteArray) :
    Calls Tryd.prog 37 #[.pointer (some ⟨p, 0, none⟩), .int .i64 i, .string b] w fun e w' => e = .returned (.int .i64 (s.write i b).2) ∧ StoAt w' p g (s.write i b).1 ∧ Upd (fun k => k = p ∨ k = g) w w' := by
  unfold Sto.write
  by_cases hb : ¬ (0 ≤ i ∧ i < s.n) ∨ b.size ≠ 64
  · rw [if_pos hb]
    refine (write_arg w p g s h i b hb).mono ?_
    rintro e w' ⟨rfl, rfl⟩
    exact ⟨rfl, h, Upd.refl _ _⟩
  · rw [if_neg hb]
    have hi : 0 ≤ i ∧ i < s.n := Classical.byContradiction fun c => hb (.inl c)
    have hz : b.size = 64 := Classical.byContradiction fun c => hb (.inr c)
    obtain ⟨j, rfl⟩ := Int.eq_ofNat_of_zero_le hi.1
    have hj : j < s.n := by omega
    rw [Int.toNat_natCast]
    by_cases hd : s.down = true
    · rw [if_pos hd]
      refine (write_down w p g s h j hj b hz hd).mono ?_
      rintro e w' ⟨rfl, rfl⟩
      exact ⟨rfl, h, Upd.refl _ _⟩
    · rw [if_neg hd]
      have hd' : s.down = false := by simpa using hd
      by_cases hl : s.left = 0
      · rw [if_pos hl]
        exact write_torn w p g s h j hj b hz hd' hl
      · rw [if_neg hl]
        have := write_ok w p g s h j hj b hz hd' hl
        by_cases hp : s.left > 0
        · rw [if_pos hp] at this ⊢
          have e : wrap64 (s.left - 1) = s.left - 1 := by unfold wrap64; omega
          rw [e] at this
          exact this
        · rw [if_neg hp] at this ⊢
          exact this

/-! ### the journal in the heap -/
structure Jou where
  half : Int
  next : Int
  broken : Bool
def jcells (p : Nat) (v : Value) (j : Jou) : Array Value := #[.pointer (some ⟨p, 0, none⟩), .int .i64 j.half, .int .i64 j.next, v, .bool j.broken]
/-- The journal j lies at block q, over the store at p, its records are the slice v. -/
def JouAt (w : World) (q p : Nat) (v : Value) (j : Jou) : Prop := w.heap[q]? = some (.cells (jcells p v j) 83 (0, 0))
theorem JouAt.c0 {w : World} {q p : Nat} {v : Value} {j : Jou} (h : JouAt w q p v j) : w.cell? ⟨q, 0, none⟩ = some (.pointer (some ⟨p, 0, none⟩)) := (cell_of h 0).1
theorem JouAt.c1 {w : World} {q p : Nat} {v : Value} {j : Jou} (h : JouAt w q p v j) : w.cell? ⟨q, 1, none⟩ = some (.int .i64 j.half) := (cell_of h 1).1
theorem JouAt.c2 {w : World} {q p : Nat} {v : Value} {j : Jou} (h : JouAt w q p v j) : w.cell? ⟨q, 2, none⟩ = some (.int .i64 j.next) := (cell_of h 2).1
theorem JouAt.c3 {w : World} {q p : Nat} {v : Value} {j : Jou} (h : JouAt w q p v j) : w.cell? ⟨q, 3, none⟩ = some v := (cell_of h 3).1
theorem JouAt.c4 {w : World} {q p : Nat} {v : Value} {j : Jou} (h : JouAt w q p v j) : w.cell? ⟨q, 4, none⟩ = some (.bool j.broken) := (cell_of h 4).1
theorem JouAt.fz {w : World} {q p : Nat} {v : Value} {j : Jou} (h : JouAt w q p v j) (i : Nat) : w.frozen? ⟨q, i, none⟩ = false := (cell_of h i).2
theorem JouAt.keep {S : Nat → Prop} {w w1 : World} {q p : Nat} {v : Value} {j : Jou} (h : JouAt w q p v j) (hu : Upd S w w1) (hq : ¬ S q) : JouAt w1 q p v j := by
  have lq : q < w.heap.size := by
    by_cases c : q < w.heap.size
    · exact c
    · have h' := h; unfold JouAt at h'; rw [Array.getElem?_eq_none (by omega)] at h'; cases h'
  exact (hu.block q lq hq).trans h
def zeroB : ByteArray := B (List.replicate 64 0)
theorem zeroB_eq : (⟨(Lib.repeatL (⟨#[0]⟩ : ByteArray).data.toList 64).toArray⟩ : ByteArray) = zeroB := by decide +kernel
theorem zeroB_size : zeroB.size = 64 := by unfold zeroB; rw [B_size]; simp
set_option maxHeartbeats 1000000 in
set_option maxRecDepth 100000 in
theorem zeros_calls (w : World) : Calls Tryd.prog 48 #[] w fun e w' => e = .returned (.string zeroB) ∧ Below w.heap.size w w' := by
  have hr := fun W => Tryd.strings_Repeat (⟨#[0]⟩ : ByteArray) 64 W (by decide) (by decide)
  rw [zeroB_eq] at hr
  have HR := Aside0.mk hr
  clear hr
  go_enter Tryd.func48, Tryd.ntmps48
  go_wp2_with (go_at_call 73; refine (HR.out _).mono ?_; rintro e w' ⟨rfl, hb⟩; have HB := Aside0.mk hb; clear hb)
  go_ret
  exact ⟨rfl, HB.out⟩
def firstOf (n : Nat) (half : Int) : Int := 1 + half * (((n : Int) - 1) / 2)
set_option maxHeartbeats 1000000 in
set_option maxRecDepth 100000 in
theorem first_calls (w : World) (q p g : Nat) (v : Value) (j : Jou) (s : Sto) (h : JouAt w q p v j) (hs : StoAt w p g s) (hn : 1 ≤ s.n) (half : Int) (hh : 0 ≤ half ∧ half ≤ 1) :
    Calls Tryd.prog 49 #[.pointer (some ⟨q, 0, none⟩), .int .i64 half] w fun e w' => e = .returned (.int .i64 (firstOf s.n half)) ∧ w' = w := by
  have c0 := h.c0
  have H := Aside0.mk hs
  have hle := hs.le
  have e1 : wrap64 ((s.n : Int) - 1) = (s.n : Int) - 1 := by unfold wrap64; omega
  have e2 : Int.tdiv ((s.n : Int) - 1) 2 = ((s.n : Int) - 1) / 2 := Int.tdiv_eq_ediv_of_nonneg (by omega)
  have hm : 0 ≤ half * (((s.n : Int) - 1) / 2) ∧ half * (((s.n : Int) - 1) / 2) ≤ 4096 := by
    rcases (by omega : half = 0 ∨ half = 1) with rfl | rfl <;> omega
  have e0 : wrap64 (((s.n : Int) - 1) / 2) = ((s.n : Int) - 1) / 2 := by unfold wrap64; omega
  have e3 : wrap64 (half * (((s.n : Int) - 1) / 2)) = half * (((s.n : Int) - 1) / 2) := by unfold wrap64; omega
  have e4 : wrap64 (1 + half * (((s.n : Int) - 1) / 2)) = firstOf s.n half := by unfold wrap64 firstOf; omega
  clear h hs hm
  go_enter Tryd.func49, Tryd.ntmps49
  go_wp2_with (go_at_call 74; refine (blocks_calls _ p g s H.out).mono ?_; rintro e w' ⟨rfl, rfl⟩)
  go_ret
  refine ⟨?_, rfl⟩
  show Ending.returned (Value.int .i64 (wrap64 (1 + half * (((s.n : Int) - 1) / 2)))) = _
  rw [e4]
theorem StoAt.drewN {w : World} {p g : Nat} {s : Sto} (h : StoAt w p g s) (m : Nat) : StoAt (w.drewN m) p g s := ⟨h.hp, h.hg, h.len, h.le⟩
theorem JouAt.drewN {w : World} {q p : Nat} {v : Value} {j : Jou} (h : JouAt w q p v j) (m : Nat) : JouAt (w.drewN m) q p v j := h
def endOf (n : Nat) (half : Int) : Int := firstOf n half + ((n : Int) - 1) / 2
set_option maxHeartbeats 1000000 in
set_option maxRecDepth 100000 in
theorem end_calls (w : World) (q p g : Nat) (v : Value) (j : Jou) (s : Sto) (h : JouAt w q p v j) (hs : StoAt w p g s) (hn : 1 ≤ s.n) (half : Int) (hh : 0 ≤ half ∧ half ≤ 1) :
    Calls Tryd.prog 50 #[.pointer (some ⟨q, 0, none⟩), .int .i64 half] w fun e w' => e = .returned (.int .i64 (endOf s.n half)) ∧ Drawn0 w w' := by
  have c0 := h.c0
  have H := Aside0.mk hs
  have HJ := Aside0.mk h
  have hle := hs.le
  have e1 : wrap64 ((s.n : Int) - 1) = (s.n : Int) - 1 := by unfold wrap64; omega
  have e2 : Int.tdiv ((s.n : Int) - 1) 2 = ((s.n : Int) - 1) / 2 := Int.tdiv_eq_ediv_of_nonneg (by omega)
  have hm : 0 ≤ half * (((s.n : Int) - 1) / 2) ∧ half * (((s.n : Int) - 1) / 2) ≤ 4096 := by
    rcases (by omega : half = 0 ∨ half = 1) with rfl | rfl <;> omega
  have e0 : wrap64 (((s.n : Int) - 1) / 2) = ((s.n : Int) - 1) / 2 := by unfold wrap64; omega
  have e4 : wrap64 (firstOf s.n half + ((s.n : Int) - 1) / 2) = endOf s.n half := by unfold wrap64 endOf firstOf; omega
  clear h hs hm
  go_enter Tryd.func50, Tryd.ntmps50
  go_wp2_with fail
  go_quiet (first | (go_at_call 49; exact Calls.quiet_of_same (first_calls _ q p g v j s (HJ.out.drewN _) (H.out.drewN _) hn half hh)) | (go_at_call 74; exact Calls.quiet_of_same (blocks_calls _ p g s (H.out.drewN _))))
  go_wp2
  go_ret
  refine ⟨?_, ⟨_, rfl⟩⟩
  show Ending.returned (Value.int .i64 (wrap64 (firstOf s.n half + ((s.n : Int) - 1) / 2))) = _
  rw [e4]
set_option maxHeartbeats 1000000 in
set_option maxRecDepth 100000 in
theorem jblock_calls (w : World) (q p g : Nat) (v : Value) (j : Jou) (s : Sto) (h : JouAt w q p v j) (hs : StoAt w p g s) (i : Nat) (hi : i < s.n) :
    Calls Tryd.prog 47 #[.pointer (some ⟨q, 0, none⟩), .int .i64 i] w fun e w' => e = .returned (.string (blk s.F i)) ∧ w' = w := by
  have c0 := h.c0
  have H := Aside0.mk hs
  clear h hs
  go_enter Tryd.func47, Tryd.ntmps47
  go_wp2_with (go_at_call 61; refine (read_in _ p g s H.out i hi).mono ?_; rintro e w' ⟨rfl, rfl⟩)
  go_ret
  exact ⟨rfl, rfl⟩
set_option maxHeartbeats 1000000 in
set_option maxRecDepth 100000 in
theorem room_calls (w : World) (q p g : Nat) (v : Value) (j : Jou) (s : Sto) (h : JouAt w q p v j) (hs : StoAt w p g s) (hn : 1 ≤ s.n) (hh : 0 ≤ j.half ∧ j.half ≤ 1) :
    Calls Tryd.prog 30 #[.pointer (some ⟨q, 0, none⟩)] w fun e w' => e = .returned (.int .i64 (wrap64 (endOf s.n j.half - j.next))) ∧ Drawn0 w w' := by
  have c1 := h.c1
  have c2 := h.c2
  have H := Aside0.mk hs
  have HJ := Aside0.mk h
  clear h hs
  go_enter Tryd.func30, Tryd.ntmps30
  go_wp2_with fail
  go_quiet ((first | (go_at_call 50; exact Calls.quiet_of ((end_calls _ q p g v j s (HJ.out.drewN _) (H.out.drewN _) hn j.half hh).mono fun _ _ ⟨he, hd⟩ => ⟨he, hd.out⟩))))
  go_wp2
  go_ret
  exact ⟨rfl, ⟨_, rfl⟩⟩
set_option maxHeartbeats 1000000 in
set_option maxRecDepth 100000 in
theorem text_calls (w : World) (q p : Nat) (A : Option Addr) (c : Nat) (l : List ByteArray) (j : Jou) (h : JouAt w q p (.slice A l.length c) j) (hr : Kd.C Kd.string w A l.length l) (hl : 0 < l.length) :
    Calls Tryd.prog 28 #[.pointer (some ⟨q, 0, none⟩)] w fun e w' => e = .returned (.string l[0]) ∧ w' = w := by
  have c3 := h.c3
  obtain ⟨ad, rfl, hc⟩ := rj_read w A l hr hl
  have cz : w.cell? ad = some (.string l[0]) := by simpa [Addr.add] using hc 0 hl
  have g1 : ((0 : Int) < (l.length : Int)) = True := eq_true (by omega)
  clear h hr hc
  generalize l[0] = x at *
  go_enter Tryd.func28, Tryd.ntmps28
  go_wp2
  go_ret
  exact ⟨rfl, rfl⟩
/-- A row of strings, behind its first. -/
theorem row_drop (w : World) (A : Option Addr) (l : List ByteArray) (hr : Kd.C Kd.string w A l.length l) (hl : 0 < l.length) (b : Nat) (hA : A = some ⟨b, 0, none⟩) (j : Nat) (hj : j < (l.drop 1).length) : w.cell? ⟨b, 1 + j, none⟩ = some (.string ((l.drop 1).getD j ByteArray.empty)) := by
  obtain ⟨ad, e, hc⟩ := rj_read w A l hr hl
  rw [hA] at e
  injection e with e
  subst e
  rw [List.length_drop] at hj
  have h1 := hc (1 + j) (by omega)
  rw [add_plain] at h1
  rw [h1, List.getD_eq_getElem?_getD, List.getElem?_drop, List.getElem?_eq_getElem (by omega : 1 + j < l.length)]
  rfl
set_option maxHeartbeats 1000000 in
set_option maxRecDepth 100000 in
theorem records_calls (w : World) (q p b : Nat) (c : Nat) (l : List ByteArray) (j : Jou) (h : JouAt w q p (.slice (some ⟨b, 0, none⟩) l.length c) j) (hr : Kd.C Kd.string w (some ⟨b, 0, none⟩) l.length l) (hl : 0 < l.length) (hl2 : l.length ≤ 1000000) (hc : l.length ≤ c) :
    Calls Tryd.prog 29 #[.pointer (some ⟨q, 0, none⟩)] w fun e w' => ∃ v', e = .returned v' ∧ w'.ownsRow w.heap.size 9 1 v' (l.length - 1) ((l.drop 1).map Value.string) ∧ Below w.heap.size w w' := by
  have c3 := h.c3
  by_cases h1 : l.length = 1
  · have hn : l.drop 1 = [] := List.drop_of_length_le (by omega)
    rw [hn, h1]
    have hcl := Aside0.mk (fun ad cc W => Tryd.slices_Clone_string_zero ad cc W)
    rw [h1] at c3
    by_cases hc1 : c = 1
    · subst hc1
      have HC := Aside0.mk (hcl.out ⟨b, 0, none⟩ 0 w)
      clear h hr hn h1 hl hl2 hc hcl
      go_enter Tryd.func29, Tryd.ntmps29
      go_wp2_with (go_at_call 55; refine HC.out.mono ?_; rintro e w' ⟨v', rfl, ho, hne, hb⟩; have HO := Aside0.mk ho; have HB := Aside0.mk hb; clear ho hb)
      go_ret
      exact ⟨_, rfl, HO.out, HB.out⟩
    · have HC := Aside0.mk (hcl.out ⟨b, 1, none⟩ (c - 1) w)
      have n1 : ((1 : Int) ≤ (c : Int)) = True := eq_true (by omega)
      clear h hr hn h1 hl hl2 hcl
      go_enter Tryd.func29, Tryd.ntmps29
      go_wp2_with (go_at_call 55; refine HC.out.mono ?_; rintro e w' ⟨v', rfl, ho, hne, hb⟩; have HO := Aside0.mk ho; have HB := Aside0.mk hb; clear ho hb)
      go_ret
      exact ⟨_, rfl, HO.out, HB.out⟩
  · have hlen : (l.drop 1).length = l.length - 1 := by rw [List.length_drop]
    have hcl := Tryd.slices_Clone_string b 1 (l.length - 1) (c - 1) (l.drop 1) w (by omega) (by omega) (fun j hj => row_drop w _ l hr hl b rfl j hj)
    rw [show (l.drop 1).take (l.length - 1) = l.drop 1 from List.take_of_length_le (by omega)] at hcl
    have HC := Aside0.mk hcl
    have n1 : ((1 : Int) ≤ (l.length : Int)) = True := eq_true (by omega)
    have hc1 : ¬ c = 1 := by omega
    clear h hr hcl
    go_enter Tryd.func29, Tryd.ntmps29
    go_wp2_with (go_at_call 55; refine HC.out.mono ?_; rintro e w' ⟨v', rfl, ho, hne, hb⟩; have HO := Aside0.mk ho; have HB := Aside0.mk hb; clear ho hb)
    go_ret
    exact ⟨_, rfl, HO.out, HB.out⟩

/-! ### steps: writes that wait -/
/-- v is the step that writes b at i, of the journal at q. -/
def StepAt (w : World) (q : Nat) (x : Int × ByteArray) (v : Value) : Prop :=
  ∃ b1 b2 b3 : Nat, v = .func (.func 75) #[] #[.pointer (some ⟨b1, 0, none⟩), .pointer (some ⟨b2, 0, none⟩), .pointer (some ⟨b3, 0, none⟩)] ∧
    w.heap[b1]? = some (.cells #[.pointer (some ⟨q, 0, none⟩)] 46 (0, 0)) ∧ w.heap[b2]? = some (.cells #[.int .i64 x.1] 3 (0, 0)) ∧ w.heap[b3]? = some (.cells #[.string x.2] 9 (0, 0))
theorem lt_of_cells {w : World} {b : Nat} {o : Obj} (h : w.heap[b]? = some o) : b < w.heap.size := by
  by_cases c : b < w.heap.size
  · exact c
  · rw [Array.getElem?_eq_none (by omega)] at h; cases h
theorem StepAt.keep {w w1 : World} {p g q : Nat} {x : Int × ByteArray} {v : Value} {s : Sto} {j : Jou} {u : Value} (h : StepAt w q x v) (hs : StoAt w p g s) (hj : JouAt w q p u j) (hu : Upd (fun k => k = p ∨ k = g ∨ k = q) w w1) : StepAt w1 q x v := by
  obtain ⟨b1, b2, b3, e, h1, h2, h3⟩ := h
  have ne : ∀ b (c : Array Value) (t : TypeId), w.heap[b]? = some (.cells c t (0, 0)) → t ≠ 81 → t ≠ 104 → t ≠ 83 → ¬ (b = p ∨ b = g ∨ b = q) := by
    intro b c t hb t1 t2 t3 hc
    rcases hc with rfl | rfl | rfl
    · have := hs.hp; rw [hb] at this; injection this with this; injection this with _ this; exact t1 this
    · have := hs.hg; rw [hb] at this; injection this with this; injection this with _ this; exact t2 this
    · have := hj; unfold JouAt at this; rw [hb] at this; injection this with this; injection this with _ this; exact t3 this
  exact ⟨b1, b2, b3, e, (hu.block b1 (lt_of_cells h1) (ne _ _ _ h1 (by decide) (by decide) (by decide))).trans h1, (hu.block b2 (lt_of_cells h2) (ne _ _ _ h2 (by decide) (by decide) (by decide))).trans h2, (hu.block b3 (lt_of_cells h3) (ne _ _ _ h3 (by decide) (by decide) (by decide))).trans h3⟩
theorem StepAt.below {w w1 : World} {q : Nat} {x : Int × ByteArray} {v : Value} (h : StepAt w q x v) (hb : Below w.heap.size w w1) : StepAt w1 q x v := by
  obtain ⟨b1, b2, b3, e, h1, h2, h3⟩ := h
  exact ⟨b1, b2, b3, e, (hb.block b1 (lt_of_cells h1)).trans h1, (hb.block b2 (lt_of_cells h2)).trans h2, (hb.block b3 (lt_of_cells h3)).trans h3⟩
theorem size_alloc_ (w : World) (o : Obj) : (w.alloc o).heap.size = w.heap.size + 1 := by
  show (w.heap.push o).size = _
  simp
theorem three_allocs (w : World) (o1 o2 o3 : Obj) : (((w.alloc o1).alloc o2).alloc o3).heap[w.heap.size]? = some o1 ∧ (((w.alloc o1).alloc o2).alloc o3).heap[w.heap.size + 1]? = some o2 ∧ (((w.alloc o1).alloc o2).alloc o3).heap[w.heap.size + 1 + 1]? = some o3 := by
  have z1 := size_alloc_ w o1
  have z2 := size_alloc_ (w.alloc o1) o2
  rw [z1] at z2
  refine ⟨?_, ?_, ?_⟩
  · rw [heap_alloc_old _ _ (by omega), heap_alloc_old _ _ (by omega), heap_alloc_new]
  · rw [heap_alloc_old _ _ (by omega), ← z1, heap_alloc_new]
  · rw [← z2, heap_alloc_new]
set_option maxHeartbeats 1000000 in
set_option maxRecDepth 100000 in
theorem mkwrite_calls (w : World) (q : Nat) (i : Int) (b : ByteArray) :
    Calls Tryd.prog 54 #[.pointer (some ⟨q, 0, none⟩), .int .i64 i, .string b] w fun e w' => ∃ v, e = .returned v ∧ StepAt w' q (i, b) v ∧ Below w.heap.size w w' := by
  have hmf : ∀ (fn : Fn) (first cap : Array Value) (w : World), (Instr.makeFunc fn first cap).run Tryd.prog w = .ok (.func fn first cap) w := fun _ _ _ _ => rfl
  go_enter Tryd.func54, Tryd.ntmps54
  go_wp2
  go_ret
  obtain ⟨e1, e2, e3⟩ := three_allocs w (Obj.cells #[Value.pointer (some ⟨q, 0, none⟩)] 46) (Obj.cells #[Value.int .i64 i] 3) (Obj.cells #[Value.string b] 9)
  exact ⟨_, rfl, ⟨_, _, _, rfl, e1, e2, e3⟩, below_alloc (below_alloc (below_alloc (Below.refl _ _) _) _) _⟩
set_option maxHeartbeats 1000000 in
set_option maxRecDepth 100000 in
theorem step_calls (w : World) (q p g : Nat) (b1 b2 b3 : Nat) (u : Value) (j : Jou) (s : Sto) (i : Int) (b : ByteArray) (hj : JouAt w q p u j) (hs : StoAt w p g s) (hleft : -1 ≤ s.left) (hl2 : s.left ≤ 9223372036854775807)
    (h1 : w.heap[b1]? = some (.cells #[.pointer (some ⟨q, 0, none⟩)] 46 (0, 0))) (h2 : w.heap[b2]? = some (.cells #[.int .i64 i] 3 (0, 0))) (h3 : w.heap[b3]? = some (.cells #[.string b] 9 (0, 0))) :
    Calls Tryd.prog 75 #[.pointer (some ⟨b1, 0, none⟩), .pointer (some ⟨b2, 0, none⟩), .pointer (some ⟨b3, 0, none⟩)] w fun e w' => e = .returned (.int .i64 (s.write i b).2) ∧ StoAt w' p g (s.write i b).1 ∧ Upd (fun k => k = p ∨ k = g) w w' := by
  have c1 : w.cell? ⟨b1, 0, none⟩ = some (.pointer (some ⟨q, 0, none⟩)) := (cell_of h1 0).1
  have c2 : w.cell? ⟨b2, 0, none⟩ = some (.int .i64 i) := (cell_of h2 0).1
  have c3 : w.cell? ⟨b3, 0, none⟩ = some (.string b) := (cell_of h3 0).1
  have c0 := hj.c0
  have H := Aside0.mk hs
  clear h1 h2 h3 hj hs
  go_enter Tryd.func75, Tryd.ntmps75
  go_upto_region 1 with fail
  go_still_tail 6, (by kernel_rfl)
  change wpList _ _ _ _ _ w.drew
  have hw := Aside0.mk (write_calls w.drew p g s H.out.drew hleft hl2 i b)
  go_wp2_with (go_at_call 37; refine hw.out.mono ?_; rintro e w' ⟨rfl, h1, h2⟩; have H1 := Aside0.mk h1; have H2 := Aside0.mk h2; clear h1 h2)
  go_ret
  exact ⟨rfl, H1.out, (Upd.drew _ w).trans H2.out⟩
def Sto.ok (s : Sto) : Prop := -1 ≤ s.left ∧ s.left ≤ 9223372036854775807
theorem Sto.write_ok {s : Sto} (h : s.ok) (i : Int) (b : ByteArray) : (s.write i b).1.ok := by
  unfold Sto.write
  by_cases c1 : ¬ (0 ≤ i ∧ i < s.n) ∨ b.size ≠ 64
  · rw [if_pos c1]; exact h
  · rw [if_neg c1]
    by_cases c2 : s.down = true
    · rw [if_pos c2]; exact h
    · rw [if_neg c2]
      by_cases c3 : s.left = 0
      · rw [if_pos c3]; exact h
      · rw [if_neg c3]
        unfold Sto.ok at h ⊢
        by_cases c4 : s.left > 0
        · show -1 ≤ (if s.left > 0 then s.left - 1 else s.left) ∧ (if s.left > 0 then s.left - 1 else s.left) ≤ _
          rw [if_pos c4]; omega
        · show -1 ≤ (if s.left > 0 then s.left - 1 else s.left) ∧ (if s.left > 0 then s.left - 1 else s.left) ≤ _
          rw [if_neg c4]; omega
def runSteps (s : Sto) : List (Int × ByteArray) → Sto × Int
  | [] => (s, 0)
  | x :: r => if (s.write x.1 x.2).2 = 0 then runSteps (s.write x.1 x.2).1 r else s.write x.1 x.2
theorem JouAt.ne {w : World} {q p p' g : Nat} {v : Value} {j : Jou} {s : Sto} (h : JouAt w q p' v j) (hs : StoAt w p g s) : ¬ (q = p ∨ q = g) := by
  have hb := h
  unfold JouAt at hb
  rintro (rfl | rfl)
  · have := hs.hp; rw [hb] at this; injection this with this; injection this with _ this; exact absurd this (by decide)
  · have := hs.hg; rw [hb] at this; injection this with this; injection this with _ this; exact absurd this (by decide)
theorem JouAt.setBroken {w : World} {q p : Nat} {v : Value} {j : Jou} (h : JouAt w q p v j) (x : Bool) : JouAt (w.setCell ⟨q, 4, none⟩ (.bool x)) q p v { j with broken := x } := setCell_at h 4 _
def brokenIf (e : Int) (b : Bool) : Bool := if e = 0 then b else true
/-- The steps xs lie in the row at block bs. -/
def StepsAt (w : World) (q bs : Nat) (xs : List (Int × ByteArray)) : Prop :=
  ∃ cs : Array Value, w.heap[bs]? = some (.cells cs 91 (0, 0)) ∧ ∀ k (hk : k < xs.length), ∃ v, cs[k]? = some v ∧ StepAt w q xs[k] v
theorem StepsAt.keep {w w1 : World} {p g q bs : Nat} {xs : List (Int × ByteArray)} {s : Sto} {j : Jou} {u : Value} (h : StepsAt w q bs xs) (hs : StoAt w p g s) (hj : JouAt w q p u j) (hu : Upd (fun k => k = p ∨ k = g ∨ k = q) w w1) : StepsAt w1 q bs xs := by
  obtain ⟨cs, hb, hc⟩ := h
  refine ⟨cs, ?_, fun k hk => ?_⟩
  · refine (hu.block bs (lt_of_cells hb) ?_).trans hb
    rintro (rfl | rfl | rfl)
    · have := hs.hp; rw [hb] at this; injection this with this; injection this with _ this; exact absurd this (by decide)
    · have := hs.hg; rw [hb] at this; injection this with this; injection this with _ this; exact absurd this (by decide)
    · have := hj; unfold JouAt at this; rw [hb] at this; injection this with this; injection this with _ this; exact absurd this (by decide)
  · obtain ⟨v, h1, h2⟩ := hc k hk
    exact ⟨v, h1, h2.keep hs hj hu⟩
set_option maxHeartbeats 2000000 in
set_option maxRecDepth 100000 in
theorem do_calls (w : World) (q p g bs c : Nat) (u : Value) (j : Jou) (s : Sto) (xs : List (Int × ByteArray)) (hj : JouAt w q p u j) (hs : StoAt w p g s) (hok : s.ok) (hx : StepsAt w q bs xs) (hn : xs.length ≤ 1000000) :
    Calls Tryd.prog 53 #[.pointer (some ⟨q, 0, none⟩), .slice (some ⟨bs, 0, none⟩) xs.length c] w fun e w' => e = .returned (.int .i64 (runSteps s xs).2) ∧ StoAt w' p g (runSteps s xs).1 ∧ JouAt w' q p u { j with broken := brokenIf (runSteps s xs).2 j.broken } ∧ Upd (fun k => k = p ∨ k = g ∨ k = q) w w' := by
  have HJ := Aside0.mk hj
  have HS := Aside0.mk hs
  have HX := Aside0.mk hx
  have HO := Aside0.mk hok
  clear hj hs hx hok
  go_enter Tryd.func53, Tryd.ntmps53
  go_wp2
  go_loopg [10] xs.length (fun gq v10 wc => ∃ (i : Nat) (s' : Sto), v10 = .int .i64 i ∧ Aside0 (i + gq = xs.length) ∧ Aside0 (runSteps s xs = runSteps s' (xs.drop i)) ∧ Aside0 s'.ok ∧ Aside0 (StoAt wc p g s') ∧ Aside0 (JouAt wc q p u j) ∧ Aside0 (Upd (fun k => k = p ∨ k = g ∨ k = q) w wc))
  case atStart => exact ⟨0, s, rfl, ⟨by omega⟩, ⟨rfl⟩, HO, HS, HJ, ⟨Upd.refl _ _⟩⟩
  case round =>
    obtain ⟨i, s', rfl, HI, HR, HO', HS', HJ', HU⟩ := hrel
    have hI := HI.out
    have NQ := Aside0.mk (HJ'.out.ne HS'.out)
    have hcell := HX.out.keep HS.out HJ.out HU.out
    have hOK := HO'.out
    by_cases hlt : i < xs.length
    · obtain ⟨cs, hb, hcs⟩ := hcell
      obtain ⟨v, hv, b1, b2, b3, rfl, e1, e2, e3⟩ := hcs i hlt
      have cc : wr.cell? ⟨bs, i, none⟩ = some (.func (.func 75) #[] #[.pointer (some ⟨b1, 0, none⟩), .pointer (some ⟨b2, 0, none⟩), .pointer (some ⟨b3, 0, none⟩)]) := ((cell_of hb i).1).trans hv
      have hst := Aside0.mk (step_calls wr q p g b1 b2 b3 u j s' xs[i].1 xs[i].2 HJ'.out HS'.out hOK.1 hOK.2 e1 e2 e3)
      have hrun : runSteps s' (xs.drop i) = if (s'.write xs[i].1 xs[i].2).2 = 0 then runSteps (s'.write xs[i].1 xs[i].2).1 (xs.drop (i + 1)) else s'.write xs[i].1 xs[i].2 := by
        rw [List.drop_eq_getElem_cons hlt]; rfl
      have hwok := Sto.write_ok hOK xs[i].1 xs[i].2
      have hrr := HR.out
      rw [hrun] at hrr
      clear hb hcs hv e1 e2 e3 hrun HR
      generalize s'.write xs[i].1 xs[i].2 = W at *
      obtain ⟨s2, er⟩ := W
      dsimp only at hst hrr hwok
      have HW := Aside0.mk hwok
      by_cases he : er = 0
      · rw [if_pos he] at hrr
        have HRR := Aside0.mk hrr
        have ne : (er != 0) = false := bne_eq_false_iff_eq.mpr he
        clear he hrr hwok hOK
        go_wp2_with (go_at_call 75; refine hst.out.mono ?_; rintro e w5 ⟨rfl, h1, h2⟩; have H1 := Aside0.mk h1; have H2 := Aside0.mk h2; clear h1 h2)
        go_roundg (gk - 1)
        case measure => omega
        case rel => exact ⟨i + 1, s2, by go_num, ⟨by omega⟩, HRR, HW, H1, ⟨HJ'.out.keep H2.out NQ.out⟩, ⟨HU.out.trans (H2.out.mono (fun k _ hk => hk.elim Or.inl (fun hk => Or.inr (Or.inl hk))))⟩⟩
      · rw [if_neg he] at hrr
        have HRR := Aside0.mk hrr
        have ne : (er != 0) = true := bne_iff_ne.mpr he
        clear hrr hwok hOK
        go_wp2_with (go_at_call 75; refine hst.out.mono ?_; rintro e w5 ⟨rfl, h1, h2⟩; have H1 := Aside0.mk h1; have H2 := Aside0.mk h2; have H3 := Aside0.mk (HJ'.out.keep H2.out NQ.out); have c4 := H3.out.c4; have f4 := H3.out.fz 4; clear h1 h2)
        go_ret
        rw [HRR.out]
        refine ⟨rfl, ?_, ?_, ?_⟩
        · exact H1.out.keep (Upd.setCell w5 ⟨q, 4, none⟩ (.bool true)) (fun e => NQ.out (.inl e.symm)) (fun e => NQ.out (.inr e.symm))
        · have := H3.out.setBroken true
          unfold brokenIf
          dsimp only
          rw [if_neg he]
          exact this
        · exact (HU.out.trans (H2.out.mono (fun k _ hk => hk.elim Or.inl (fun hk => Or.inr (Or.inl hk))))).trans ((Upd.setCell w5 ⟨q, 4, none⟩ (.bool true)).mono (fun k _ hk => Or.inr (Or.inr hk)))
    · have hie : i = xs.length := by omega
      have hr := HR.out
      rw [hie, List.drop_length] at hr
      have HRR := Aside0.mk hr
      clear hcell hr HR hOK
      go_wp2
      go_ret
      rw [HRR.out]
      exact ⟨rfl, HS'.out, HJ'.out, HU.out⟩

/-! ### laying -/
def stepV (x : Nat × Nat × Nat) : Value := .func (.func 75) #[] #[.pointer (some ⟨x.1, 0, none⟩), .pointer (some ⟨x.2.1, 0, none⟩), .pointer (some ⟨x.2.2, 0, none⟩)]
def kStep : Kd (Nat × Nat × Nat) := Kd.scalar stepV (fun _ => rfl)
theorem info91 : (Tryd.prog.info? 91).map (fun i => (i.zero, i.size, i.bytes)) = some (some .nilFunc, 1, 8) := by kernel_rfl
set_option maxHeartbeats 400000 in
set_option maxRecDepth 100000 in
theorem laying_err (k : Nat) (w : World) (q : Nat) (b : ByteArray) (at_ end_ : Int) (L L2 : List ByteArray) (er er2 : Int) (hL : record_Lay.f k b false = some (L, er)) (hL2 : record_Lay.f k b true = some (L2, er2)) (he : er ≠ 0) :
    Calls Tryd.prog 52 #[.pointer (some ⟨q, 0, none⟩), .string b, .int .i64 at_, .int .i64 end_] w fun e w' => e = .returned (.tuple #[.slice none 0 0, .int .i64 0, .int .i64 er]) ∧ Below w.heap.size w w' := by
  have HL := Aside0.mk hL
  have HL2 := Aside0.mk hL2
  have ne : (er != 0) = true := bne_iff_ne.mpr he
  clear hL hL2 he
  go_enter Tryd.func52, Tryd.ntmps52
  go_wp2_with (first | ((with_reducible refine gate_callee (f := 11) rfl ?_); refine goesL_ (some 21) rfl rfl Tryd.func11 (by kernel_rfl) rfl #[.string b, .bool false] rfl (by (try simp only [List.map_toArray, List.map_cons, List.map_nil]); first | done | rfl) ?_; (with_reducible refine (record_Lay.calls k b false L er _ HL.out).mono ?_); rintro e w1 ⟨v1, rfl, ho, hb⟩; refine ⟨_, rfl, ?_⟩; have HO := Aside0.mk ho; have HB := Aside0.mk hb; clear ho hb; obtain ⟨A1, c1, e1⟩ := Kd.R_slice HO.out; subst e1) | ((with_reducible refine gate_callee (f := 11) rfl ?_); refine goesL_ (some 26) rfl rfl Tryd.func11 (by kernel_rfl) rfl #[.string b, .bool true] rfl (by (try simp only [List.map_toArray, List.map_cons, List.map_nil]); first | done | rfl) ?_; (with_reducible refine (record_Lay.calls k b true L2 er2 _ HL2.out).mono ?_); rintro e w2 ⟨v2, rfl, ho2, hb2⟩; refine ⟨_, rfl, ?_⟩; have HB2 := Aside0.mk (below_step HB.out hb2); clear ho2 hb2))
  go_ret3
  exact ⟨rfl, HB2.out⟩
set_option maxHeartbeats 400000 in
set_option maxRecDepth 100000 in
theorem laying_full (k : Nat) (w : World) (q : Nat) (b : ByteArray) (at_ end_ : Int) (L L2 : List ByteArray) (er2 : Int) (hL : record_Lay.f k b false = some (L, 0)) (hL2 : record_Lay.f k b true = some (L2, er2)) (he : (L.length : Int) > wrap64 (end_ - at_)) :
    Calls Tryd.prog 52 #[.pointer (some ⟨q, 0, none⟩), .string b, .int .i64 at_, .int .i64 end_] w fun e w' => e = .returned (.tuple #[.slice none 0 0, .int .i64 0, .int .i64 4]) ∧ Below w.heap.size w w' := by
  have HL := Aside0.mk hL
  have HL2 := Aside0.mk hL2
  have ne : decide (wrap64 (end_ - at_) < (L.length : Int)) = true := decide_eq_true he
  clear hL hL2 he
  go_enter Tryd.func52, Tryd.ntmps52
  go_wp2_with (first | ((with_reducible refine gate_callee (f := 11) rfl ?_); refine goesL_ (some 21) rfl rfl Tryd.func11 (by kernel_rfl) rfl #[.string b, .bool false] rfl (by (try simp only [List.map_toArray, List.map_cons, List.map_nil]); first | done | rfl) ?_; (with_reducible refine (record_Lay.calls k b false L 0 _ HL.out).mono ?_); rintro e w1 ⟨v1, rfl, ho, hb⟩; refine ⟨_, rfl, ?_⟩; have HO := Aside0.mk ho; have HB := Aside0.mk hb; clear ho hb; obtain ⟨A1, c1, e1⟩ := Kd.R_slice HO.out; subst e1) | ((with_reducible refine gate_callee (f := 11) rfl ?_); refine goesL_ (some 26) rfl rfl Tryd.func11 (by kernel_rfl) rfl #[.string b, .bool true] rfl (by (try simp only [List.map_toArray, List.map_cons, List.map_nil]); first | done | rfl) ?_; (with_reducible refine (record_Lay.calls k b true L2 er2 _ HL2.out).mono ?_); rintro e w2 ⟨v2, rfl, ho2, hb2⟩; refine ⟨_, rfl, ?_⟩; have HB2 := Aside0.mk (below_step HB.out hb2); clear ho2 hb2))
  go_ret3
  exact ⟨rfl, HB2.out⟩

end Go.Proofs.YtnfeknaeikpdmaaDoor.PR
