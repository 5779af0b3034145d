/- What the arguments of a law are: slices of numbers that lie in blocks that are there; the witness's world. -/
import Derived.Test.YtccgpblecgapaaaDoorConcat
import Derived.WalkKit
import Derived.ProofKit
import Derived.OpenShut
import Derived.ChangeSlices
import Derived.Carry
import Derived.Deep.DeepHandedRow
import Derived.Deep.DeepWitnessRowRef
import Derived.Lib.LaidIn
set_option linter.unusedSimpArgs false
set_option linter.unusedVariables false
namespace Gd
open Go Go.Proofs Go.ChangeShapes Go.WideShapes Go.ChangeAt Go.RowKit

theorem own : ownKnob Tryd.prog.godebug = none := by kernel_rfl
theorem laidOut : laidOutB Tryd.prog = true := by kernel_rfl

section
variable {H : Type} {enc : TypeId × Value → H} {W : World} {base fuel : Nat}
/-- A slice of numbers, as an argument: nil, or in a block that is there. -/
theorem arg_ints {P : Program} {t e : TypeId} {k : IntKind} {v : Value} {d : DataW H} {ps : List MemPlace} (ht : P.underlying t = some (.slice e)) (he : P.underlying e = some (.int k)) (hc : P.cellsOf e = 1)
    (hok : Value.okWide P W .any base t v) (h : DataW.Trod enc P W 0 (fun _ => true) true t v d ps) :
    (v = .slice none 0 0 ∧ d = .nil) ∨
    ∃ (g off len cap : Nat) (zs : List Int) (c : Array Value) (ty : TypeId) (z : Nat × Nat), v = .slice (some ⟨g, off, none⟩) len cap ∧ len ≤ cap ∧ cap ≤ maxLen ∧ zs.length = cap ∧ W.heap[g]? = some (.cells c ty z) ∧
      (∀ (i : Nat) (n : Int), zs[i]? = some n → c[off + i]? = some (.int k n)) ∧ (∀ n ∈ zs, (Lit.int k n).wf = true) := by
  obtain ⟨a, len, cap, rfl⟩ := okWide_slice ht hok
  obtain ⟨n, cs, hcs, hx⟩ : ∃ (n : Nat) (cs : List Value), cs = [Value.slice a len cap] ∧ DataW.trod enc P W 0 (fun _ => true) true n t cs = some (d, ps) := by
    obtain ⟨n, hn⟩ := h
    exact ⟨n, _, rfl, by simpa [Value.cells, ht] using hn⟩
  rcases open_ints ht he hc hx with ⟨h1, h2⟩ | ⟨a', len', cap', zs, h1, _, h3, h4, h5, h6, h7, h8⟩
  · rw [hcs] at h1
    simp only [List.cons.injEq, and_true] at h1
    simp only [Prod.mk.injEq] at h2
    exact .inl ⟨h1, h2.1⟩
  · rw [hcs] at h1
    simp only [List.cons.injEq, and_true] at h1
    injection h1 with e1 e2 e3
    subst e1 e2 e3
    right
    simp only [Value.okWide, ht, Cell.okWide, Cell.ok] at hok
    obtain ⟨_, _, _, hsp, row, cells, hsh, _⟩ := hok
    obtain ⟨g, off, spot⟩ := a'
    simp only at hsp
    subst hsp
    unfold World.shape? at hsh
    split at hsh
    · rename_i c ty z hg
      refine ⟨g, off, len, cap, zs, c, ty, z, rfl, h3, h4, by simpa using h5, hg, fun i n hi => ?_, h8⟩
      have hlt := (List.getElem?_eq_some_iff.1 hi).1
      have := h7 i hlt
      rw [add_lit] at this
      unfold World.cell? at this
      simp only at hg
      simp only [hg] at this
      simp only [Option.isSome_none, Bool.false_eq_true, if_false] at this
      rw [this, List.getD, hi]
      rfl
    · cases hsh
end
end Gd
