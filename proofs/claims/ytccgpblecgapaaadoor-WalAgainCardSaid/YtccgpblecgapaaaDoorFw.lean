/- A frame for walks over a heap whose blocks are known whole: what a call leaves alone ('Fr'), aggregates read and written inside a block, maps keyed by ints as blocks. Over any program. -/
import Derived.WalkKit
import Derived.WalkSpells
import Derived.WalkLawsBesides
import Derived.Deep.QuietTactic
import Derived.BigQuiet
import Derived.Lib.Hide
set_option linter.unusedSimpArgs false
set_option linter.unusedVariables false
namespace Gd
open Go

/-! ### What a call leaves alone -/
/-- Of the blocks that were there, only those in S may have turned. -/
structure Fr (S : List Nat) (w w' : World) : Prop where
  os : w'.os = w.os
  tape : w'.tape = w.tape
  output : w'.output = w.output
  size : w.heap.size ≤ w'.heap.size
  block : ∀ k, k < w.heap.size → k ∉ S → w'.heap[k]? = w.heap[k]?

theorem Fr.refl (S : List Nat) (w : World) : Fr S w w := ⟨rfl, rfl, rfl, Nat.le_refl _, fun _ _ _ => rfl⟩
theorem Fr.mono {S S' : List Nat} {w w' : World} (h : Fr S w w') (hs : ∀ k, k ∈ S → k ∈ S') : Fr S' w w' :=
  ⟨h.os, h.tape, h.output, h.size, fun k hk hn => h.block k hk (fun hc => hn (hs k hc))⟩
theorem Fr.trans {S : List Nat} {a b c : World} (h : Fr S a b) (g : Fr S b c) : Fr S a c :=
  ⟨g.os.trans h.os, g.tape.trans h.tape, g.output.trans h.output, Nat.le_trans h.size g.size,
   fun k hk hn => (g.block k (Nat.lt_of_lt_of_le hk h.size) hn).trans (h.block k hk hn)⟩
/-- A later call may write what S allows and whatever is younger than the first world. -/
theorem Fr.then {S S' : List Nat} {a b c : World} (h : Fr S a b) (g : Fr S' b c) (hs : ∀ k, k ∈ S' → k ∈ S ∨ a.heap.size ≤ k) : Fr S a c :=
  ⟨g.os.trans h.os, g.tape.trans h.tape, g.output.trans h.output, Nat.le_trans h.size g.size,
   fun k hk hn => (g.block k (Nat.lt_of_lt_of_le hk h.size) (fun hc => by rcases hs k hc with h1 | h1; exact hn h1; omega)).trans (h.block k hk hn)⟩
theorem Fr.keep {S : List Nat} {w w' : World} (h : Fr S w w') {b : Nat} {o : Obj} (hb : w.heap[b]? = some o) (hn : b ∉ S) : w'.heap[b]? = some o :=
  (h.block b (Array.getElem?_eq_some_iff.1 hb).1 hn).trans hb
theorem Fr.lt {S : List Nat} {w w' : World} (h : Fr S w w') {b : Nat} (hb : b < w.heap.size) : b < w'.heap.size := Nat.lt_of_lt_of_le hb h.size
theorem Fr.drew (w : World) : Fr [] w w.drew := ⟨rfl, rfl, rfl, Nat.le_refl _, fun _ _ _ => rfl⟩
theorem Fr.alloc (w : World) (o : Obj) : Fr [] w (w.alloc o) :=
  ⟨rfl, rfl, rfl, by simp, fun k hk _ => RowKit.Below.heap_alloc w o k hk⟩
theorem Fr.setCell (w : World) (a : Addr) (v : Value) : Fr [a.block] w (w.setCell a v) :=
  ⟨rfl, rfl, rfl, by simp, fun k _ hn => Go.heap_setCell_other w a k v (by simpa using hn)⟩
theorem Fr.cell (w : World) (b o : Nat) (v : Value) : Fr [b] w (w.setCell ⟨b, o, none⟩ v) := Fr.setCell w ⟨b, o, none⟩ v
theorem Fr.setRow (w : World) (g : Nat) (cs : Array Value) : Fr [g] w (w.setRow g cs) :=
  ⟨rfl, rfl, rfl, by simp, fun k _ hn => Go.setRow_other w g k cs (by simpa using hn)⟩
def putO (w : World) (r : Nat) (o : Obj) : World := { w with heap := w.heap.setIfInBounds r o }
theorem putO_same {w : World} {r : Nat} {o o' : Obj} (h : w.heap[r]? = some o') : (putO w r o).heap[r]? = some o := by
  simp [putO, (Array.getElem?_eq_some_iff.1 h).1]
theorem putO_other {w : World} {r k : Nat} {o : Obj} (h : k ≠ r) : (putO w r o).heap[k]? = w.heap[k]? := by
  simp [putO, Array.getElem?_setIfInBounds_ne (Ne.symm h)]
theorem Fr.putO (w : World) (r : Nat) (o : Obj) : Fr [r] w (putO w r o) :=
  ⟨rfl, rfl, rfl, by simp [Gd.putO], fun k _ hn => putO_other (by simpa using hn)⟩
@[simp] theorem size_putO (w : World) (r : Nat) (o : Obj) : (putO w r o).heap.size = w.heap.size := by simp [putO]
theorem Fr.of_same {w w' : World} (h : w = w') (S : List Nat) : Fr S w w' := h ▸ Fr.refl S w
theorem Fr.below {w w' : World} (h : Fr [] w w') : RowKit.Below w.heap.size w w' := ⟨h.os, h.tape, h.output, h.size, fun k hk => h.block k hk (by simp)⟩
theorem Fr.of_below {w w' : World} (h : RowKit.Below w.heap.size w w') : Fr [] w w' := ⟨h.os, h.tape, h.output, h.size, fun k hk _ => h.block k hk⟩
theorem Fr.of_grown {w w' : World} {row : Option Nat} (h : w.grownBy w' row) : Fr row.toList w w' :=
  ⟨h.os, h.tape, h.output, h.size, fun k hk hn => h.block k hk (fun e => hn (by simp [← e]))⟩
theorem Fr.grown_none {w w' : World} (h : Fr [] w w') : w.grownBy w' none :=
  ⟨h.os, h.tape, h.output, h.size, fun k hk _ => h.block k hk (by simp)⟩

/-- Block b holds o. (A word of its own, so that the walk does not take it for a rule.) -/
structure Blk (w : World) (b : Nat) (o : Obj) : Prop where
  out : w.heap[b]? = some o
theorem Blk.keep {S : List Nat} {w w' : World} {b : Nat} {o : Obj} (h : Blk w b o) (hf : Fr S w w') (hn : b ∉ S) : Blk w' b o := ⟨hf.keep h.out hn⟩
theorem Blk.keep0 {w w' : World} {b : Nat} {o : Obj} (h : Blk w b o) (hf : Fr [] w w') : Blk w' b o := h.keep hf (by simp)
theorem Blk.lt {w : World} {b : Nat} {o : Obj} (h : Blk w b o) : b < w.heap.size := (Array.getElem?_eq_some_iff.1 h.out).1

/-! ### cells of a known block -/
theorem cellOf {w : World} {b o : Nat} {c : Array Value} {t : TypeId} {z : Nat × Nat} {v : Value} (h : w.heap[b]? = some (.cells c t z)) (hv : c[o]? = some v) : w.cell? ⟨b, o, none⟩ = some v := by
  rw [cell_of_row w b o c t z h]; exact hv
theorem freeOf {w : World} {b o : Nat} {c : Array Value} {t : TypeId} (h : w.heap[b]? = some (.cells c t (0, 0))) : w.frozen? ⟨b, o, none⟩ = false := frozen_of_row w b o c t h
theorem add_lit (b o n : Nat) : (⟨b, o, none⟩ : Addr).add n = ⟨b, o + n, none⟩ := by
  unfold Addr.add; split <;> simp_all

def aggD : TypeDesc → Bool
  | .struct _ | .array _ _ => true
  | _ => false

section laws
variable {P : Program}

theorem run_isAgg {ty : TypeId} {d : TypeDesc} (hu : P.underlying ty = some d) (hd : aggD d = true) (w : World) : (isAgg ty).run P w = .ok true w := by
  unfold isAgg
  rw [Sem.run_bind, run_underlying hu w]
  cases d <;> simp_all [aggD]

/-- An aggregate is read from within a block. -/
theorem run_loadVar_at {w : World} {g off n : Nat} {t ty : TypeId} {cs : Array Value} {fr : Nat × Nat} {d : TypeDesc} (hg : w.heap[g]? = some (.cells cs t fr))
    (hu : P.underlying ty = some d) (hd : aggD d = true) (hi : (P.info? ty).map (·.size) = some n) (hn : off + n ≤ cs.size) :
    (loadVar ty ⟨g, off, none⟩).run P w = .ok (.agg (cs.extract off (off + n))) w := by
  have hl : (loadCells ⟨g, off, none⟩ (cs.extract off (off + n)).toList.length).run P w = .ok (cs.extract off (off + n)).toList.toArray w :=
    run_loadCells_list (P := P) w ⟨g, off, none⟩ (cs.extract off (off + n)).toList (fun j v hv => by
      rw [add_lit, cell_of_row w g (off + j) cs t fr hg]
      rw [Array.getElem?_toList, Array.getElem?_extract] at hv
      split at hv <;> simp_all)
  have hlen : (cs.extract off (off + n)).size = n := by simp; omega
  cases hq : P.info? ty with
  | none => simp [hq] at hi
  | some i =>
    have hs : i.size = n := by simpa [hq] using hi
    simp only [Array.length_toList, Array.toArray_toList, hlen] at hl
    simp [loadVar, Sem.run_bind, run_isAgg hu hd, Go.sizeOf, typeInfo, hq, hs, hl]

/-- A block's cells from off on, replaced. -/
def splice (cs : Array Value) (off : Nat) (vs : List Value) : Array Value := (cs.toList.take off ++ vs ++ cs.toList.drop (off + vs.length)).toArray
theorem size_splice {cs : Array Value} {off : Nat} {vs : List Value} (h : off + vs.length ≤ cs.size) : (splice cs off vs).size = cs.size := by
  simp [splice]; omega

theorem run_storeVar_at {w : World} {g off n : Nat} {t ty : TypeId} {cs : Array Value} {vs : List Value} (hg : w.heap[g]? = some (.cells cs t (0, 0)))
    (hi : (P.info? ty).map (·.size) = some n) (hl : vs.length = n) (hn : off + n ≤ cs.size) (h1 : ∀ v ∈ vs, v.oneCell' = true) :
    (storeVar ty ⟨g, off, none⟩ (.agg vs.toArray)).run P w = .ok () (w.setRow g (splice cs off vs)) := by
  cases hq : P.info? ty with
  | none => simp [hq] at hi
  | some i =>
    have hs : i.size = n := by simpa [hq] using hi
    have hr := run_storeCells_at (P := P) g off t vs 0 cs w hg (by simp; omega) h1
    simp only [storeVar, Sem.run_bind, Go.sizeOf, typeInfo, run_program, Result.andThen_ok, hq, hs, Sem.run_pure, Value.cells]
    simp only [List.size_toArray, hl, ne_eq, not_true_eq_false, if_false]
    simpa [splice] using hr
/-! ### slicing a slice -/
def VIs : Option Value → Nat → Nat → Prop
  | none, d, n => n = d
  | some v, _, n => v = .int .i64 (n : Int)
theorem run_sliceBound {w : World} (n y : Nat) (c : BoundsCode) (h : n ≤ y) : (Instr.sliceBound (.int .i64 (n : Int)) y c).run P w = .ok n w := by
  unfold Instr.sliceBound
  simp only [asIntOf, Sem.run_bind, Sem.run_pure, Result.andThen_ok]
  rw [if_pos ⟨by omega, by omega⟩]
  simp
theorem run_slice_slice {w : World} {T E : TypeId} {sz : Nat} (hu : P.underlying T = some (.slice E)) (hs : (P.info? E).map (·.size) = some sz) {a : Option Addr} {len cap : Nat} {lo hi mx : Option Value} {L H M : Nat}
    (hL : VIs lo 0 L) (hH : VIs hi len H) (hM : VIs mx cap M) (hm : mx.isSome = true → hi.isSome = true) (h1 : L ≤ H) (h2 : H ≤ M) (h3 : M ≤ cap) :
    (Instr.slice T (.slice a len cap) lo hi mx).run P w = .ok (.slice (if M = L then a else a.map (·.add (L * sz))) (H - L) (M - L)) w := by
  have hb : (Instr.sliceBounds true len cap lo hi mx).run P w = .ok (L, H, M) w := by
    unfold Instr.sliceBounds
    cases mx with
    | none =>
      obtain rfl : M = cap := hM
      cases hi with
      | none =>
        obtain rfl : H = len := hH
        cases lo with
        | none => obtain rfl : L = 0 := hL; simp
        | some v => obtain rfl : v = .int .i64 (L : Int) := hL; simp [run_sliceBound _ _ _ h1]
      | some u =>
        obtain rfl : u = .int .i64 (H : Int) := hH
        cases lo with
        | none => obtain rfl : L = 0 := hL; simp [run_sliceBound _ _ _ h2]
        | some v => obtain rfl : v = .int .i64 (L : Int) := hL; simp [run_sliceBound _ _ _ h1, run_sliceBound _ _ _ h2]
    | some x =>
      obtain rfl : x = .int .i64 (M : Int) := hM
      cases hi with
      | none => simp at hm
      | some u =>
        obtain rfl : u = .int .i64 (H : Int) := hH
        cases lo with
        | none => obtain rfl : L = 0 := hL; simp [run_sliceBound _ _ _ h2, run_sliceBound _ _ _ h3]
        | some v => obtain rfl : v = .int .i64 (L : Int) := hL; simp [run_sliceBound _ _ _ h1, run_sliceBound _ _ _ h2, run_sliceBound _ _ _ h3]
  cases hq : P.info? E with
  | none => simp [hq] at hs
  | some i =>
    have hs' : i.size = sz := by simpa [hq] using hs
    unfold Instr.slice
    simp only [Sem.run_bind, run_underlying hu w, Result.andThen_ok, hb, Go.sizeOf, typeInfo, run_program, hq, Sem.run_pure, hs']

theorem run_sliceAt_slice {w : World} {T E : TypeId} (hu : P.underlying T = some (.slice E)) (x : Value) (lo hi mx : Option Value) :
    (Instr.sliceAt T x lo hi mx).run P w = (Instr.slice T x lo hi mx).run P w := by
  unfold Instr.sliceAt
  simp only [Sem.run_bind, run_underlying hu w, Result.andThen_ok]

theorem run_arrayAt {w : World} {T E : TypeId} {n : Nat} (hu : P.underlying T = some (.array n E)) (a : Option Addr) {len : Nat} (cap : Nat) (h : n ≤ len) : (Instr.arrayAt T (.slice a len cap)).run P w = .ok (.pointer a) w := by
  unfold Instr.arrayAt
  simp only [Sem.run_bind, run_underlying hu w, Result.andThen_ok]
  rw [if_neg (by omega)]
  rfl

end laws
end Gd
