/- slices.Chunk of bytes: the iterator's contract. -/
import Derived.Test.YtccgpblecgapaaaDoorBytes
import Derived.Test.YtccgpblecgapaaaDoorDraw
import Derived.RangeFuncNested
import Derived.RangeFuncBound
import Derived.RangeFuncCalls
import Derived.RangeFuncLeaves
import Derived.Shelf.Abstract
import Derived.Shelf.RegionOpen
import Derived.OwnWalkIn
import Derived.TacticsInMore
import Derived.LoopNIn
import Derived.LoopIn
set_option linter.unusedSimpArgs false
set_option linter.unusedVariables false
namespace Gd
open Go Go.Proofs Go.RowKit
attribute [local go_sem] Oper.semAt_some

/-- the x-th piece, as a value -/
def ckV (g off n len x : Nat) : Value := .slice (some ⟨g, off + n * x, none⟩) (min n (len - n * x)) (min n (len - n * x))
/-- what a round keeps: the two boxes that the iterator reads -/
def KpB (b2 b3 : Nat) (W W' : World) : Prop := W'.heap[b2]? = W.heap[b2]? ∧ W'.heap[b3]? = W.heap[b3]?
theorem KpB.t {b2 b3 : Nat} {A B C : World} (h : KpB b2 b3 A B) (k : KpB b2 b3 B C) : KpB b2 b3 A C := ⟨k.1.trans h.1, k.2.trans h.2⟩
theorem KpB.b {b2 b3 : Nat} {w : World} (h2 : b2 < w.heap.size) (h3 : b3 < w.heap.size) (W : World) (l : Nat) (o o' : Obj) (hl : w.heap.size ≤ l) (_ : W.heap[l]? = some o) (_ : o.isCells = false) (_ : o.isWalk = false) : KpB b2 b3 W (W.putObj l o') :=
  ⟨World.putObj_heap_other (by omega), World.putObj_heap_other (by omega)⟩

structure ChunkInv (J : List Nat → World → Prop) (b2 b3 g off len cap n K : Nat) (wr : World) (i : Value) : Prop where
  out : ∃ k p : Nat, k ≤ K ∧ Hid (p = n * k) ∧ i = .int .i64 p ∧ J (List.range k) wr ∧ Blk wr b2 (.cells #[.slice (some ⟨g, off, none⟩) len cap] tB (0, 0)) ∧ Blk wr b3 (.cells #[.int .i64 n] 3 (0, 0))

set_option maxRecDepth 100000 in
set_option maxHeartbeats 1000000 in
theorem chunk_in (m l b2 b3 g off len cap n K : Nat) (hm : 1 ≤ m) (hn : 0 < n) (hn2 : n ≤ 4096) (hlc : len ≤ cap) (hcap : len ≤ 140737488355328) (hK : ∀ k, n * k < len ↔ k < K) (J Jx : List Nat → World → Prop)
    (hY : ∀ pre x W, x < K → J pre W → pre.length < K → YieldAt Fence.wide (m - 1) Tryd.prog l #[ckV g off n len x] W fun e W' =>
      (e = .returned (.bool true) ∧ J (pre ++ [x]) W' ∧ KpB b2 b3 W W') ∨ (e = .returned (.bool false) ∧ Jx (pre ++ [x]) W'))
    (hJ : ∀ pre W, J pre W → J pre W.drew)
    (W : World) (B2 : Blk W b2 (.cells #[.slice (some ⟨g, off, none⟩) len cap] tB (0, 0))) (B3 : Blk W b3 (.cells #[.int .i64 n] 3 (0, 0))) (h0 : J [] W) :
    CallsIn Fence.wide m Tryd.prog 63 #[.func (.yield l) #[] #[], .pointer (some ⟨b2, 0, none⟩), .pointer (some ⟨b3, 0, none⟩)] W fun e W' => (∃ v, e = .returned v) ∧
      ((∃ ys, ys = List.range K ∧ J ys W') ∨ (∃ pre, (∃ j, j ≤ K ∧ pre = List.range j) ∧ Jx pre W')) := by
  refine callsIn_of_wp Tryd.func63 rfl trivial ?_ rfl
  simp only [Tryd.ntmps63, List.size_toArray, List.length_cons, List.length_nil, Nat.reduceAdd, Nat.reduceSub, Array.replicate_succ, Array.replicate_zero, List.push_toArray, List.append_toArray, List.nil_append, List.cons_append]
  gi_wp2
  gi_loopw [4] (fun i wr => ChunkInv J b2 b3 g off len cap n K wr i)
    (fun i _ => len + n - (intOf i).toNat)
  case atStart => exact ⟨0, 0, Nat.zero_le _, rfl, rfl, h0, B2, B3⟩
  case round =>
    obtain ⟨k, p, hk, hp, rfl, hJk, C2, C3⟩ := hrel.out
    have c2 : wr.cell? ⟨b2, 0, none⟩ = some (.slice (some ⟨g, off, none⟩) len cap) := cellOf C2.out rfl
    have c3 : wr.cell? ⟨b3, 0, none⟩ = some (.int .i64 n) := cellOf C3.out rfl
    by_cases hlt : p < len
    · have hkK : k < K := (hK k).1 (by rw [← hp.out]; exact hlt)
      gi_wp2
      refine wpIn_wide.2 ?_
      refine wp_region_all (C := fun X => X = wr.drew) (by kernel_rfl) (by kernel_rfl) rfl ?_
      refine wpQuiet_load rfl _ _ rfl rfl _ Tryd.underlying3 rfl (fun X hX => by rw [hX]; exact c3) ?_; simp only [Act.put, List.setIfInBounds_toArray, List.set_cons_succ, List.set_cons_zero]
      refine wpQuiet_load rfl _ _ rfl rfl _ Tryd.underlying23 rfl (fun X hX => by rw [hX]; exact c2) ?_; simp only [Act.put, List.setIfInBounds_toArray, List.set_cons_succ, List.set_cons_zero]
      refine wpQuiet_move rfl _ rfl (v := .int .i64 p) rfl ?_; simp only [Act.put, List.setIfInBounds_toArray, List.set_cons_succ, List.set_cons_zero]
      refine wpQuiet_slice rfl _ _ _ _ _ rfl rfl Tryd.underlying23 (sz := 1) (by kernel_rfl) p len cap rfl rfl rfl (fun h => by cases h) (by omega) hlc (Nat.le_refl _) (.slice (some ⟨g, off + p, none⟩) (len - p) (cap - p)) (by rw [if_neg (by omega)]; simp [add_lit]) ?_; simp only [Act.put, List.setIfInBounds_toArray, List.set_cons_succ, List.set_cons_zero]
      obtain ⟨ed, hed1, hed2, hed3⟩ : ∃ ed : Nat, Hid (ed = min n (len - p)) ∧ p + ed ≤ len ∧ 0 < ed := ⟨min n (len - p), rfl, by omega, by omega⟩
      have hmin : ∀ cs, (builtin .min #[3, 3] 3 cs #[.int .i64 n, .int .i64 ((len - p : Nat) : Int)]).run Tryd.prog wr.drew = .ok (.value (.int .i64 ed)) wr.drew := fun cs => by
        have : (if ((len - p : Nat) : Int) < (n : Int) then ((len - p : Nat) : Int) else (n : Int)) = (ed : Int) := by rw [hed1.out]; split <;> omega
        simp [builtin, Builtin.min_, Builtin.min2]
        omega
      refine wpQuiet_val rfl (.int .i64 ((len - p : Nat) : Int)) (fun X hX => exec_builtin rfl (by simp [Act.eval]; rfl) (fun cs => ?_)) ?_
      · simp [builtin, Builtin.len_, run_underlying Tryd.underlying23, goInt]
      simp only [Act.put, List.setIfInBounds_toArray, List.set_cons_succ, List.set_cons_zero]
      refine wpQuiet_val rfl (.int .i64 ed) (fun X hX => exec_builtin rfl (by simp [Act.eval]; rfl) (fun cs => by rw [hX]; exact hmin cs)) ?_; simp only [Act.put, List.setIfInBounds_toArray, List.set_cons_succ, List.set_cons_zero]
      refine wpQuiet_assign rfl _ rfl (v := .int .i64 ed) rfl ?_; simp only [Act.put, List.setIfInBounds_toArray, List.set_cons_succ, List.set_cons_zero]
      refine wpQuiet_nil ?_
      rintro X rfl
      have d2 : wr.drew.cell? ⟨b2, 0, none⟩ = some (.slice (some ⟨g, off, none⟩) len cap) := c2
      have hsl : ∀ Z : World, (Instr.sliceAt tB (.slice (some ⟨g, off, none⟩) len cap) (some (.int .i64 (p : Int))) (some (.int .i64 ((p : Int) + (ed : Int)))) (some (.int .i64 ((p : Int) + (ed : Int))))).run Tryd.prog Z = .ok (.slice (some ⟨g, off + p, none⟩) ed ed) Z := fun Z => by
        rw [run_sliceAt_slice Tryd.underlying23]
        have := run_slice_slice (P := Tryd.prog) (w := Z) (T := tB) (E := tb) (sz := 1) Tryd.underlying23 (by kernel_rfl) (a := some ⟨g, off, none⟩) (len := len) (cap := cap) (lo := some (.int .i64 (p : Int))) (hi := some (.int .i64 ((p : Int) + (ed : Int)))) (mx := some (.int .i64 ((p : Int) + (ed : Int))))
          (L := p) (H := p + ed) (M := p + ed) rfl (by simp [VIs]) (by simp [VIs]) (fun _ => rfl) (by omega) (Nat.le_refl _) (by omega)
        rw [this, if_neg (by omega)]
        simp [add_lit]
      obtain ⟨fn, tmps, assign, body, hy, hR⟩ := hY (List.range k) k wr.drew hkK (hJ _ _ hJk) (by simpa using hkK)
      have hck : ckV g off n len k = .slice (some ⟨g, off + p, none⟩) ed ed := by rw [hed1.out, hp.out]; rfl
      rw [hck] at hy
      have D2 := C2.keep0 (Fr.drew wr)
      have D3 := C3.keep0 (Fr.drew wr)
      gi_wp2
      refine hR.mono ?_
      rintro e W3 (⟨rfl, hJ3, hk3⟩ | ⟨rfl, hJx3⟩)
      · have E2 : Blk W3 b2 (.cells #[.slice (some ⟨g, off, none⟩) len cap] tB (0, 0)) := ⟨hk3.1.trans D2.out⟩
        have E3 : Blk W3 b3 (.cells #[.int .i64 n] 3 (0, 0)) := ⟨hk3.2.trans D3.out⟩
        have e3 : W3.cell? ⟨b3, 0, none⟩ = some (.int .i64 n) := cellOf E3.out rfl
        have hr : List.range k ++ [k] = List.range (k + 1) := by simp [List.range_succ]
        rw [hr] at hJ3
        have hrl : ChunkInv J b2 b3 g off len cap n K W3 (.int .i64 ((p : Int) + n)) :=
          ⟨k + 1, p + n, by omega, by rw [Hid, hp.out]; rw [Nat.mul_succ], by go_num, hJ3, E2, E3⟩
        clear hJ3
        gi_wp2
        exact ⟨hrl, by simp [intOf]; omega⟩
      · gi_wp2
        refine bodyPost_ret (results_none rfl _ _ _) rfl ?_
        exact ⟨⟨_, rfl⟩, .inr ⟨_, ⟨k + 1, by omega, by simp [List.range_succ]⟩, hJx3⟩⟩
    · gi_wp2
      go_end0
      refine ⟨⟨_, rfl⟩, .inl ⟨_, ?_, hJk⟩⟩
      have : ¬ k < K := fun h => hlt (by have := (hK k).2 h; rw [← hp.out] at this; exact this)
      rw [show k = K by omega]

/-- lists of places as lists of numbers -/
def Nums {K : Nat} (J : List (Fin K) → World → Prop) (ys : List Nat) (W : World) : Prop := ∃ zs : List (Fin K), zs.map (·.1) = ys ∧ J zs W

theorem chunk_stops (m b2 b3 g off len cap n K : Nat) (hm : 1 ≤ m) (hn : 0 < n) (hn2 : n ≤ 4096) (hlc : len ≤ cap) (hcap : len ≤ 140737488355328) (hK : ∀ k, n * k < len ↔ k < K)
    (w : World) (B2 : Blk w b2 (.cells #[.slice (some ⟨g, off, none⟩) len cap] tB (0, 0))) (B3 : Blk w b3 (.cells #[.int .i64 n] 3 (0, 0))) :
    SeqStopsK Fence.wide m Tryd.prog 63 #[.pointer (some ⟨b2, 0, none⟩), .pointer (some ⟨b3, 0, none⟩)] (fun x : Fin K => #[ckV g off n len x.1]) (KpB b2 b3)
      (fun xs => xs.map (·.1) = List.range K) (fun pre => ∃ j, j ≤ K ∧ pre.map (·.1) = List.range j) K w := by
  intro l J Jx W hW hJ hJx hY h0
  have k2 : Blk W b2 (.cells #[.slice (some ⟨g, off, none⟩) len cap] tB (0, 0)) := ⟨(hW.block b2 B2.lt).trans B2.out⟩
  have k3 : Blk W b3 (.cells #[.int .i64 n] 3 (0, 0)) := ⟨(hW.block b3 B3.lt).trans B3.out⟩
  refine (chunk_in m l b2 b3 g off len cap n K hm hn hn2 hlc hcap hK (Nums J) (Nums Jx) ?_ ?_ W k2 k3 ⟨[], rfl, h0⟩).mono ?_
  · rintro pre x W1 hx ⟨zs, rfl, hz⟩ hlt
    obtain ⟨fn, tmps, assign, body, hy, hR⟩ := hY zs ⟨x, hx⟩ W1 hz (by simpa using hlt)
    refine ⟨fn, tmps, assign, body, hy, hR.mono ?_⟩
    rintro e W' (⟨h1, h2, h3⟩ | ⟨h1, h2⟩)
    · exact .inl ⟨h1, ⟨zs ++ [⟨x, hx⟩], by simp, h2⟩, h3⟩
    · exact .inr ⟨h1, ⟨zs ++ [⟨x, hx⟩], by simp, h2⟩⟩
  · rintro pre W1 ⟨zs, h1, h2⟩
    exact ⟨zs, h1, hJ zs W1 _ none h2 ⟨rfl, rfl, rfl, Nat.le_refl _, fun _ _ _ => rfl⟩ (fun r e => by cases e)⟩
  · rintro e W' ⟨h1, ⟨ys, rfl, zs, h2, h3⟩ | ⟨pre, ⟨j, h2, rfl⟩, zs, h4, h5⟩⟩
    · exact ⟨h1, .inl ⟨zs, h2, h3⟩⟩
    · exact ⟨h1, .inr ⟨zs, ⟨j, h2, h4⟩, h5⟩⟩

theorem chunk_nil_stops (m b2 b3 n : Nat) (hm : 1 ≤ m) (hn : 0 < n) (w : World) (B2 : Blk w b2 (.cells #[.slice none 0 0] tB (0, 0))) (g off : Nat) :
    SeqStopsK Fence.wide m Tryd.prog 63 #[.pointer (some ⟨b2, 0, none⟩), .pointer (some ⟨b3, 0, none⟩)] (fun x : Fin 0 => #[ckV g off n 0 x.1]) (KpB b2 b3)
      (fun xs => xs.map (·.1) = List.range 0) (fun pre => ∃ j, j ≤ 0 ∧ pre.map (·.1) = List.range j) 0 w := by
  intro l J Jx W hW hJ hJx hY h0
  have k2 : Blk W b2 (.cells #[.slice none 0 0] tB (0, 0)) := ⟨(hW.block b2 B2.lt).trans B2.out⟩
  have c2 : W.cell? ⟨b2, 0, none⟩ = some (.slice none 0 0) := cellOf k2.out rfl
  refine callsIn_of_wp Tryd.func63 rfl trivial ?_ rfl
  simp only [Tryd.ntmps63, List.size_toArray, List.length_cons, List.length_nil, Nat.reduceAdd, Nat.reduceSub, Array.replicate_succ, Array.replicate_zero, List.push_toArray, List.append_toArray, List.nil_append, List.cons_append]
  gi_wp2
  refine wpIn_wide.2 ?_
  refine wp_loop_once ?_
  go_wp2
  go_end0
  exact ⟨⟨_, rfl⟩, .inl ⟨[], rfl, h0⟩⟩

/-- slices.Chunk(s, n): a function value over two new boxes -/
theorem slices_Chunk {w : World} (ad : Option Addr) (len cap n : Nat) (hn : 0 < n) :
    Calls Tryd.prog 46 #[.slice ad len cap, .int .i64 n] w fun e w' => ∃ b2 b3, e = .returned (.func (.func 63) #[] #[.pointer (some ⟨b2, 0, none⟩), .pointer (some ⟨b3, 0, none⟩)]) ∧
      w.heap.size ≤ b2 ∧ w.heap.size ≤ b3 ∧ Blk w' b2 (.cells #[.slice ad len cap] tB (0, 0)) ∧ Blk w' b3 (.cells #[.int .i64 n] 3 (0, 0)) ∧ Fr [] w w' := by
  have h1 : (1 : Int) ≤ n := by omega
  go_enter Tryd.func46, Tryd.ntmps46
  go_wp2
  go_ret
  refine ⟨w.heap.size, w.heap.size + 1, rfl, Nat.le_refl _, by omega, ?_, ?_, (Fr.alloc w _).trans (Fr.alloc _ _)⟩
  · exact Blk.keep0 ⟨Go.heap_alloc_new w _⟩ (Fr.alloc _ _)
  · have := Go.heap_alloc_new (w.alloc (.cells #[.slice ad len cap] tB (0, 0))) (.cells #[.int .i64 n] 3 (0, 0))
    rw [World.size_alloc] at this
    exact ⟨this⟩
end Gd
