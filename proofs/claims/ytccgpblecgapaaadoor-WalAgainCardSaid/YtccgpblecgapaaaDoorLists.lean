/- Lists of slices that a call owns: append of one. -/
import Derived.Test.YtccgpblecgapaaaDoorFmt
set_option linter.unusedSimpArgs false
set_option linter.unusedVariables false
namespace Gd
open Go Go.Proofs Go.RowKit

abbrev tBB : TypeId := 29
/-- a slice of slices at the head of a block of the call's own, or nil -/
def OV (B : Nat) (w : World) (v : Value) (us : List Value) : Prop := w.ownsRow B tB 1 v us.length us
theorem OV.nil (B : Nat) (w : World) : OV B w (.slice none 0 0) [] := World.ownsRow_nil w B tB 1
theorem OV.vs {B : Nat} {w : World} {v : Value} {us : List Value} (h : OV B w v us) : VS w v us := by
  obtain ⟨h0, h1 | ⟨g, cap, cur, h1, h2, h3, h4, h5, h6, h7⟩⟩ := h
  · have : us = [] := List.eq_nil_of_length_eq_zero h1.2
    exact ⟨.inl ⟨h1.1, this⟩⟩
  · refine ⟨.inr ⟨g, 0, cap, cur, tB, (0, 0), h1, h4, h5, h3, fun i b hi => ?_⟩⟩
    rw [Nat.mul_one] at h7
    have hlt := (List.getElem?_eq_some_iff.1 hi).1
    have : (cur.toList.take us.length)[i]? = some b := by rw [h7, hi]
    rw [List.getElem?_take, if_pos hlt] at this
    simpa using this
theorem OV.ge {B : Nat} {w : World} {v : Value} {us : List Value} (h : OV B w v us) {g : Nat} (hg : v.ownBlock = some g) : B ≤ g := (World.ownsRow.lt h g hg).1
theorem OV.keep {B : Nat} {S : List Nat} {w w' : World} {v : Value} {us : List Value} (h : OV B w v us) (hf : Fr S w w') (hn : ∀ g, v.ownBlock = some g → g ∉ S) : OV B w' v us := by
  obtain ⟨h0, h1 | ⟨g, cap, cur, rfl, h2, h3, r⟩⟩ := h
  · exact ⟨h0, .inl h1⟩
  · exact ⟨h0, .inr ⟨g, cap, cur, rfl, h2, hf.keep h3 (hn g rfl), r⟩⟩
theorem OV.keep0 {B : Nat} {w w' : World} {v : Value} {us : List Value} (h : OV B w v us) (hf : Fr [] w w') : OV B w' v us := h.keep hf (fun _ _ => by simp)
theorem OV.shape {B : Nat} {w : World} {v : Value} {us : List Value} (h : OV B w v us) : ∃ a cap, v = .slice a us.length cap ∧ us.length ≤ cap ∧ cap ≤ maxLen := h.vs.shape
theorem OV.one {B : Nat} {w : World} {v : Value} {us : List Value} (h : OV B w v us) : v.cells = #[v] ∧ v.oneCell' = true := by
  obtain ⟨_, ⟨rfl, _⟩ | ⟨g, cap, cur, rfl, _⟩⟩ := h <;> exact ⟨rfl, rfl⟩

theorem info_B : ∃ i, Tryd.prog.info? tB = some i ∧ i.zero = some (.slice none 0 0) ∧ i.size = 1 ∧ i.bytes = 24 :=
  info_parts (P := Tryd.prog) (by kernel_rfl)
theorem run_build1 (W : World) (a1 : Option Addr) (n1 c1 : Nat) :
    (Instr.buildSlice tBB 1 #[(0, .slice a1 n1 c1)]).run Tryd.prog W = .ok (.slice (some ⟨W.heap.size, 0, none⟩) 1 1) (W.alloc (.cells #[.slice a1 n1 c1] tB)) := by
  kernel_rfl

/-- append of one element onto a list of one's own: where the new list lies -/
theorem run_append_one {B : Nat} {w : World} (ty : TypeId) {v u : Value} {us : List Value} {g1 : Nat} (hv : OV B w v us) (hg1 : Blk w g1 (.cells #[u] tB (0, 0))) (hu : u.oneCell' = true) (hlen : us.length ≤ 65536) (hB : B ≤ w.heap.size) :
    ∃ v' w', (Builtin.append_ #[tBB, tBB] ty #[v, .slice (some ⟨g1, 0, none⟩) 1 1]).run Tryd.prog w = .ok v' w' ∧ OV B w' v' (us ++ [u]) ∧ Fr v.ownBlock.toList w w' ∧ (v'.ownBlock = v.ownBlock ∨ v'.ownBlock = some w.heap.size) := by
  obtain ⟨i, hi, hz0, hz1, hz2⟩ := info_B
  have hnews : ∀ j x, ([u] : List Value)[j]? = some x → w.cell? ((⟨g1, 0, none⟩ : Addr).add j) = some x := fun j x hj => by
    match j with
    | 0 => simp at hj; subst hj; rw [add_lit]; exact cellOf hg1.out rfl
    | j + 1 => simp at hj
  have grown : ∀ (old : Nat), old < us.length + 1 →
      OV B (w.drew.alloc (.cells (us.toArray ++ ([u] : List Value).toArray ++ Builtin.zeroCells (Value.slice none 0 0).cells (grownCap w (us.length + 1) old tB - (us.length + 1))) tB)) (.slice (some ⟨w.heap.size, 0, none⟩) (us.length + 1) (grownCap w (us.length + 1) old tB)) (us ++ [u]) := by
    intro old ho
    have hge := grownCap_ge w (us.length + 1) old tB
    have hcm : grownCap w (us.length + 1) old tB ≤ maxLen := grownCap_le_maxLen w (us.length + 1) old tB (by unfold maxLen; omega)
    refine ⟨by simp, .inr ⟨w.heap.size, _, _, by simp, hB, heap_alloc_new w.drew _, by simpa using hge, hcm, ?_, ?_⟩⟩
    · simp only [Array.size_append, List.size_toArray, size_zeroCells]
      simp [Value.cells]
      omega
    · simp only [Array.toList_append, List.append_assoc]
      rw [← List.append_assoc, Nat.mul_one]
      exact List.take_left
  obtain ⟨hX, ⟨rfl, hx0⟩ | ⟨g, cap, cur, rfl, hbg, hg, hnc, hcm, hcs, htake⟩⟩ := id hv
  · have hx : us = [] := List.eq_nil_of_length_eq_zero (by simpa using hx0)
    subst hx
    have hr := run_append_nil (P := Tryd.prog) w tBB ty tB i (.slice none 0 0) Tryd.underlying29 hi hz0 ⟨g1, 0, none⟩ 1 1 [u] (by simp [hz1]) hnews (by omega) (by omega) (by omega)
    have hgr := grown 0 (by omega)
    simp only [List.length_nil, Nat.zero_add, List.nil_append, Array.empty_append] at hgr ⊢
    exact ⟨_, _, hr, hgr, (Fr.drew w).mono (by simp) |>.trans ((Fr.alloc _ _).mono (by simp)), .inr rfl⟩
  · by_cases hroom : us.length + 1 ≤ cap
    · have hfit : us.length * i.size + ([u] : List Value).length ≤ cur.size := by rw [hz1, hcs]; simp; omega
      have hr := run_append_room (P := Tryd.prog) w tBB ty tB i Tryd.underlying29 hi g us.length cap cur hg ⟨g1, 0, none⟩ 1 1 [u] (by simp [hz1]) hnews (by simpa using hu) hroom hfit
      refine ⟨_, _, hr, ⟨by simp, .inr ⟨g, cap, _, by simp, hbg, setRow_heap w g cur _ tB _ hg, by simpa using hroom, hcm, ?_, ?_⟩⟩, (Fr.setRow w g _).mono (by simp [Value.ownBlock]), .inl rfl⟩
      · rw [hz1]
        simp only [List.size_toArray, List.length_append, List.length_take, List.length_drop, Array.length_toList, hcs]
        simp
        omega
      · rw [hz1, htake, Nat.mul_one]
        exact List.take_left
    · have holds : ∀ j x, us[j]? = some x → w.cell? ((⟨g, 0, none⟩ : Addr).add j) = some x := World.ownsRow.cells hv (g := g) rfl
      have hr := run_append_grow (P := Tryd.prog) w tBB ty tB i (.slice none 0 0) Tryd.underlying29 hi hz0 ⟨g, 0, none⟩ us.length cap us (by simp [hz1]) holds ⟨g1, 0, none⟩ 1 1 [u] (by simp [hz1]) hnews (by omega) (by omega) (growslice_fits (by omega) (by rw [hz2]; omega))
      have hgr := grown cap (by omega)
      exact ⟨_, _, hr, hgr, (Fr.drew w).mono (by simp) |>.trans ((Fr.alloc _ _).mono (by simp)), .inr rfl⟩

section laws
variable {ops : Array Oper} {rest : List Oper} {o : Oper} {a : Act} {w : World} {Q : Exit → Act → World → Prop}
theorem wpList_append_one (hgd : o.guard = none) (s x : Operand) (ho : o.op = .call { callee := .builtin .append, args := #[s, x], argTypes := #[tBB, tBB] })
    {B : Nat} {v u : Value} {us : List Value} {g : Nat} (hs : a.eval s = v) (hx : a.eval x = .slice (some ⟨g, 0, none⟩) 1 1) (hv : OV B w v us) (hg : Blk w g (.cells #[u] tB (0, 0))) (hu : u.oneCell' = true) (hlen : us.length ≤ 65536) (hB : B ≤ w.heap.size)
    (h : ∀ v' w', OV B w' v' (us ++ [u]) → Fr v.ownBlock.toList w w' → (v'.ownBlock = v.ownBlock ∨ v'.ownBlock = some w.heap.size) → wpList Tryd.prog ops Q rest (a.put o.dst v') w') : wpList Tryd.prog ops Q (o :: rest) a w := by
  obtain ⟨v', w', hr, h1, h2, h3⟩ := run_append_one o.type hv hg hu hlen hB
  refine wpList_plain hgd fun K' hK => wp_of_value (exec_builtin ho (vs := #[v, .slice (some ⟨g, 0, none⟩) 1 1]) (by simp [hs, hx]) (fun cs => ?_)) (hK _ _ (h v' w' h1 h2 h3))
  simp only [builtin, Sem.run_bind, hr, Result.andThen_ok, Sem.run_pure]
end laws

/-- slices of bytes that lie in blocks from B on, none of them j -/
def Fresh (B j : Nat) (v : Value) : Prop := ∀ g, v.ownBlock = some g → B ≤ g ∧ g ≠ j
theorem BSall.keep {S : List Nat} {w w' : World} {us : List Value} {L : List Bytes} (h : BSall w us L) (hf : Fr S w w') (hn : ∀ u ∈ us, ∀ g, u.ownBlock = some g → g ∉ S) : BSall w' us L :=
  ⟨h.1, fun i u b hu hb => (h.2 i u b hu hb).keep hf (hn u (List.mem_of_getElem? hu))⟩
theorem BSall.snoc {w : World} {us : List Value} {L : List Bytes} {u : Value} {b : Bytes} (h : BSall w us L) (hu : BS w u b) : BSall w (us ++ [u]) (L ++ [b]) :=
  ⟨by simp [h.1], fun i x y hx hy => by
    by_cases hi : i < us.length
    · rw [List.getElem?_append_left hi] at hx
      rw [List.getElem?_append_left (by rw [← h.1]; exact hi)] at hy
      exact h.2 i x y hx hy
    · rw [List.getElem?_append_right (by omega)] at hx
      rw [List.getElem?_append_right (by rw [← h.1]; omega)] at hy
      have h0 : i - us.length = 0 := by
        have := (List.getElem?_eq_some_iff.1 hx).1
        simp at this
        omega
      rw [h0] at hx
      rw [← h.1, h0] at hy
      simp at hx hy
      subst hx; subst hy
      exact hu⟩
end Gd
