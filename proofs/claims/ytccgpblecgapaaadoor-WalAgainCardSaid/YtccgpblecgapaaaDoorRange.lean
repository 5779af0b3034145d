/- Ranging over a map whose block is known. -/
import Derived.Test.YtccgpblecgapaaaDoorMem
set_option linter.unusedSimpArgs false
set_option linter.unusedVariables false
namespace Gd
open Go
section laws
variable {P : Program} {ops : Array Oper} {rest : List Oper} {o : Oper} {a : Act} {w : World} {Q : Exit → Act → World → Prop}

theorem wpList_range_map (hgd : o.guard = none) (T : TypeId) (x : Operand) (ho : o.op = .range T x) {K E : TypeId} (hT : P.underlying T = some (.map K E)) (m : Nat) (hx : a.eval x = .map (some m)) {es : Array MapEntry} {clock : Nat} (hm : Blk w m (.map es clock))
    (h : ∀ r w', w.heap.size ≤ r → Blk w' r (.mapIter (some m) clock #[] clock) → Fr [] w w' → wpList P ops Q rest (a.put o.dst (.pointer (some ⟨r, 0, none⟩))) w') : wpList P ops Q (o :: rest) a w :=
  wpList_plain hgd fun K' hK => by
    have he : (execOp a.eval o).run P w = .ok (.value (.pointer (some ⟨w.heap.size, 0, none⟩))) (w.alloc (.mapIter (some m) clock #[] clock)) := by
      unfold execOp
      rw [ho]
      simp only [hx, Sem.run_bind, run_range_map w T K E m es clock hT hm.out, Result.andThen_ok, Sem.run_pure]
    unfold Oper.wp
    rw [he]
    exact hK _ _ (h _ _ (Nat.le_refl _) ⟨Go.heap_alloc_new w _⟩ (Fr.alloc w _))

theorem run_next_blk (ty : TypeId) {r m since st : Nat} {seen : Array Nat} {es : Array MapEntry} {clock : Nat} (hr : Blk w r (.mapIter (some m) since seen st)) (hm : Blk w m (.map es clock))
    (hold : ∀ x ∈ es.toList, x.born < since) (hsc : since ≤ st) :
    ((leftOf es seen).size = 0 ∧ (Instr.next (.pointer (some ⟨r, 0, none⟩)) false ty).run P w = .ok (.tuple #[.bool false]) w) ∨
    ∃ e ∈ (leftOf es seen).toList, ∃ w1 : World, (Instr.next (.pointer (some ⟨r, 0, none⟩)) false ty).run P w = .ok (.tuple #[.bool true, e.key, e.val]) w1 ∧ Fr [r] w w1 ∧ Blk w1 r (.mapIter (some m) since (seen.push e.born) clock) := by
  simp only [Instr.next, getObj, Sem.run_bind, Sem.run, hr.out, hm.out, Result.andThen, next_test_false seen es since st hold hsc, Bool.false_eq_true, if_false]
  unfold leftOf
  have hmem : ∀ x ∈ (Array.filter (fun e => !seen.contains e.born) es).toList, x.born < since := fun x hx => hold x (by simp at hx ⊢; exact hx.1)
  generalize Array.filter (fun e => !seen.contains e.born) es = L at hmem ⊢
  have e1 : L.filter (fun x => decide (x.born < since)) = L := Array.filter_eq_self.2 (fun x hx => by simpa using hmem x (by simpa using hx))
  have e2 : L.filter (fun x => decide (x.born ≥ since)) = #[] := by
    rw [Array.filter_eq_empty_iff]
    intro x hx
    have := hmem x (by simpa using hx)
    simp
    omega
  simp only [e1, e2, Array.append_empty]
  by_cases h0 : L.size = 0
  · left
    refine ⟨h0, ?_⟩
    have hL : L = #[] := Array.eq_empty_of_size_eq_zero h0
    subst hL
    simp [choose, Sem.run, Question.forced]
  · right
    have hne : L.isEmpty = false := by simp [Array.isEmpty]; exact fun h => h0 (by rw [h]; rfl)
    simp only [hne, Bool.false_eq_true, if_false, List.nil_append]
    have hsz : (#[] ++ L.map some).size = L.size := by simp
    -- the number that is drawn
    have key : ∀ k, k < L.size → ∀ W : World, W.heap = w.heap → W.os = w.os → W.tape = w.tape → W.output = w.output → ∃ e ∈ L.toList, ∃ w1 : World,
        (match (#[] ++ L.map some)[k]? with
          | some (some e) => (do setObj r (.mapIter (some m) since (seen.push e.born) clock); pure (.tuple #[.bool true, e.key, e.val]) : Sem Value)
          | some none => pure (.tuple #[.bool false])
          | none => stuck "Next: no such candidate").run P W = .ok (.tuple #[.bool true, e.key, e.val]) w1 ∧ Fr [r] w w1 ∧ Blk w1 r (.mapIter (some m) since (seen.push e.born) clock) := by
      intro k hk W hW1 hW2 hW3 hW4
      have hg : (#[] ++ L.map some)[k]? = some (some L[k]) := by simp [hk]
      rw [hg]
      have hWr : W.heap[r]? = some (.mapIter (some m) since seen st) := by rw [hW1]; exact hr.out
      refine ⟨L[k], by simp, putO W r (.mapIter (some m) since (seen.push L[k].born) clock), ?_, ?_, ⟨putO_same hWr⟩⟩
      · simp [setObj, Sem.run, hWr, putO]
      · have f1 := Fr.putO W r (.mapIter (some m) since (seen.push L[k].born) clock)
        exact ⟨f1.os.trans hW2, f1.tape.trans hW3, f1.output.trans hW4, by rw [← hW1]; exact f1.size, fun j hj hn => by rw [← hW1] at hj ⊢; exact f1.block j hj hn⟩
    simp only [choose, Sem.run]
    by_cases hf : (Question.mapNext (#[] ++ L.map some).size).forced = true
    · rw [if_pos hf]
      exact key 0 (by omega) w rfl rfl rfl rfl
    · rw [if_neg hf]
      refine key _ ?_ { w with drawn := w.drawn + 1 } rfl rfl rfl rfl
      simp only [Question.cut, hsz]
      exact Nat.mod_lt _ (by omega)

theorem iterSeen_of {w : World} {r : Nat} {m : Option Nat} {a b : Nat} {s : Array Nat} (h : Blk w r (.mapIter m a s b)) : w.iterSeen r = s := by
  unfold World.iterSeen; rw [h.out]
theorem wpList_next_map (hgd : o.guard = none) (x : Operand) (ho : o.op = .next x false) {r m since st : Nat} {seen : Array Nat} {es : Array MapEntry} {clock : Nat} (hx : a.eval x = .pointer (some ⟨r, 0, none⟩)) (hr : Blk w r (.mapIter (some m) since seen st)) (hm : Blk w m (.map es clock))
    (hold : ∀ y ∈ es.toList, y.born < since) (hsc : since ≤ st)
    (h0 : (leftOf es seen).size = 0 → wpList P ops Q rest (a.put o.dst (.tuple #[.bool false])) w)
    (h1 : ∀ e w1, e ∈ (leftOf es seen).toList → Fr [r] w w1 → Blk w1 r (.mapIter (some m) since (seen.push e.born) clock) → wpList P ops Q rest (a.put o.dst (.tuple #[.bool true, e.key, e.val])) w1) : wpList P ops Q (o :: rest) a w :=
  wpList_plain hgd fun K' hK => by
    have hex : ∀ v w', (Instr.next (.pointer (some ⟨r, 0, none⟩)) false o.type).run P w = .ok v w' → (execOp a.eval o).run P w = .ok (.value v) w' := by
      intro v w' hv
      unfold execOp
      rw [ho]
      simp only [hx, Sem.run_bind, hv, Result.andThen_ok, Sem.run_pure]
    unfold Oper.wp
    rcases run_next_blk (P := P) o.type hr hm hold hsc with ⟨hz, hrun⟩ | ⟨e, he, w1, hrun, hf, hb⟩
    · rw [hex _ _ hrun]
      exact hK _ _ (h0 hz)
    · rw [hex _ _ hrun]
      exact hK _ _ (h1 e w1 he hf hb)

theorem wpList_entry_map (hgd : o.guard = none) (x : Operand) (ho : o.op = .entry x) {r m since : Nat} {seen : Array Nat} {es : Array MapEntry} {clock : Nat} {e : MapEntry} (hx : a.eval x = .pointer (some ⟨r, 0, none⟩)) (hr : Blk w r (.mapIter (some m) since (seen.push e.born) clock)) (hm : Blk w m (.map es clock))
    (he : e ∈ es.toList) (hn : (es.toList.map (·.born)).Nodup)
    (h : wpList P ops Q rest (a.put o.dst (.tuple #[e.key, e.val])) w) : wpList P ops Q (o :: rest) a w :=
  wpList_plain hgd fun K' hK => by
    have hf : es.find? (·.born == e.born) = some e := by rw [← Array.find?_toList]; exact find_born e es.toList hn he
    have hex : (execOp a.eval o).run P w = .ok (.value (.tuple #[e.key, e.val])) w := by
      unfold execOp
      rw [ho]
      simp only [hx, Instr.entry, getObj, Sem.run_bind, Sem.run, hr.out, hm.out, Result.andThen, Array.back?_push, bne_self_eq_false, Bool.false_eq_true, if_false, hf]
      rfl
    unfold Oper.wp
    rw [hex]
    exact hK _ _ h

theorem wpList_clear_map (hgd : o.guard = none) (x : Operand) (T : TypeId) (ho : o.op = .call { callee := .builtin .clear, args := #[x], argTypes := #[T] }) {K E : TypeId} (hT : P.underlying T = some (.map K E)) {m : Nat} {es : Array MapEntry} {clock : Nat} (hx : a.eval x = .map (some m)) (hm : Blk w m (.map es clock))
    (h : ∀ w', Fr [m] w w' → Blk w' m (.map #[] clock) → wpList P ops Q rest (a.put o.dst (.tuple #[])) w') : wpList P ops Q (o :: rest) a w :=
  wpList_plain hgd fun K' hK => by
    have hr : (Builtin.clear_ #[T] o.type #[.map (some m)]).run P w = .ok (.tuple #[]) (putO w m (.map #[] clock)) := by
      simp only [Builtin.clear_, List.getElem?_toArray, List.getElem?_cons_zero, Sem.run_bind, run_underlying hT w, Result.andThen_ok, getObj, Sem.run, hm.out, setObj]
      rfl
    have hex : (execOp a.eval o).run P w = .ok (.value (.tuple #[])) (putO w m (.map #[] clock)) := by
      unfold execOp
      rw [ho]
      simp only [resolve, invoke, builtin, List.map_toArray, List.map_cons, List.map_nil, hx, Sem.run_bind, Sem.run_pure, Result.andThen_ok, hr]
    unfold Oper.wp
    rw [hex]
    exact hK _ _ (h _ (Fr.putO w m _) ⟨putO_same hm.out⟩)
end laws
end Gd
