/- bytes.Buffer: Write and Bytes, from the shelf. -/
import Derived.Test.YtccgpblecgapaaaDoorJnl
import Derived.Test.YtccgpblecgapaaaDoorLaidA
import Derived.Shelf.LaysM
import Derived.Shelf.Bytes.Bytes
import Derived.Shelf.Bytes.WriteAny
import Derived.Ground.Names2Prog
set_option linter.unusedSimpArgs false
set_option linter.unusedVariables false
namespace Gd
open Go Go.Proofs Go.RowKit

/-- a buffer of the call's own that holds these bytes -/
def Buf (B b : Nat) (l : Bytes) (w : World) : Prop := Lib.IsBuffer 95 tb B b (bcells l) w

theorem buf_Bytes {w : World} {B b : Nat} {l : Bytes} (h : Buf B b l w) :
    Calls Tryd.prog 55 #[.pointer (some ⟨b, 0, none⟩)] w fun e w' => ∃ v, e = .returned v ∧ OB B w' v l ∧ Fr [] w w' := by
  refine (Any.Buffer_Bytes Tryd.laysM183 B b (bcells l) w h).mono ?_
  rintro e w' ⟨v, h1, h2, n, h3⟩
  refine ⟨v, h1, ?_, ?_⟩
  · have h2' : w'.ownsRow B tb 1 v (bcells l).length (bcells l) := h2
    unfold OB; simpa [bcells] using h2'
  · subst h3
    exact ⟨rfl, rfl, rfl, Nat.le_refl _, fun _ _ _ => rfl⟩

theorem buf_Write {w : World} {B b : Nat} {l k : Bytes} {v : Value} (h : Buf B b l w) (hB : B ≤ w.heap.size) (hv : BS w v k) (hk : 0 < k.length) (hb : v.ownBlock ≠ some b) (hl : l.length + k.length ≤ 140737488355328) :
    Calls Tryd.prog 54 #[.pointer (some ⟨b, 0, none⟩), v] w fun e w' => e = .returned (.tuple #[.int .i64 k.length, .nilIface]) ∧ Buf B b (l ++ k) w' ∧ RowKit.Below B w w' := by
  rcases hv.out with ⟨_, rfl, rfl⟩ | ⟨g, off, cap, c, t, z, rfl, h2, h3, h4, h5⟩
  · simp at hk
  · refine (Any.Buffer_Write_any Tryd.laysM180 B b (bcells l) (bcells k) ⟨g, off, none⟩ k.length cap w h hB (bcells_oneCell l) (by simp [bcells]) (by simpa [Value.ownBlock] using hb) (fun j u hj => ?_) (bcells_oneCell k) (by simpa [bcells] using hl)).mono ?_
    · rw [add_lit, cell_of_row w g (off + j) c t z h4]
      rw [bcells_getElem?] at hj
      cases hk : k[j]? with
      | none => simp [hk] at hj
      | some x => simp [hk] at hj; rw [h5 j x hk, hj]
    · rintro e w' ⟨h6, h7, h8, h9⟩
      refine ⟨h6, ?_, h8⟩
      unfold Buf
      rw [bcells_append]
      exact h7
end Gd
