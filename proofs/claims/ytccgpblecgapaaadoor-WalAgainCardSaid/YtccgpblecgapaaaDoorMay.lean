/- wal: may. -/
import Derived.Test.YtccgpblecgapaaaDoorLay0
set_option linter.unusedSimpArgs false
set_option linter.unusedVariables false
namespace Gd
open Go Go.Proofs Go.RowKit

section
variable {P : Program} {ops : Array Oper} {C : World → Prop} {Qa : Act → Prop} {a : Act} {o : Oper} {rest : List Oper}
theorem wpQuiet_valg (hw : Region.wanted o (yielded ops a.tmps) = true) (v : Value) (hr : ∀ W, C W → (execOp a.eval o).run P W = .ok (.value v) W) (h : wpQuiet P ops C Qa rest (a.put o.dst v)) : wpQuiet P ops C Qa (o :: rest) a := by
  unfold wpQuiet
  rw [if_pos hw]
  refine ⟨v, fun W hW => ?_, h⟩
  unfold Oper.quietAt
  rw [hr W hW]
  exact ⟨rfl, rfl⟩
theorem wpQuiet_skip (hw : Region.wanted o (yielded ops a.tmps) = false) (h : wpQuiet P ops C Qa rest (a.put o.dst undef)) : wpQuiet P ops C Qa (o :: rest) a := by
  unfold wpQuiet
  rw [if_neg (by rw [hw]; simp)]
  exact h
theorem wpQuiet_callg (hw : Region.wanted o (yielded ops a.tmps) = true) (v : Value) (f : FuncId) (args : Array Value) (hr : ∀ W, (execOp a.eval o).run P W = .ok (.enter f args) W) (hc : ∀ W, C W → Calls P f args W fun e W' => e = .returned v ∧ C W')
    (h : wpQuiet P ops C Qa rest (a.put o.dst v)) : wpQuiet P ops C Qa (o :: rest) a := by
  unfold wpQuiet
  rw [if_pos hw]
  refine ⟨v, fun W hW => ?_, h⟩
  unfold Oper.quietAt
  rw [hr W]
  exact ⟨rfl, hc W hW⟩
theorem wpQuiet_loadg (hw : Region.wanted o (yielded ops a.tmps) = true) (T : TypeId) (x : Operand) (ho : o.op = .load T x) {b off : Nat} (hx : a.eval x = .pointer (some ⟨b, off, none⟩)) (v : Value)
    {d : TypeDesc} (hu : P.underlying T = some d) (hd : aggD d = false) (hc : ∀ W, C W → W.cell? ⟨b, off, none⟩ = some v) (h : wpQuiet P ops C Qa rest (a.put o.dst v)) : wpQuiet P ops C Qa (o :: rest) a :=
  wpQuiet_valg hw _ (fun W hW => by
    unfold execOp; rw [ho]
    have hagg : (isAgg T).run P W = .ok false W := by
      unfold isAgg; rw [Sem.run_bind, run_underlying hu W]; cases d <;> simp_all [aggD]
    simp only [hx, Sem.run_bind, Instr.loadAt, Instr.sureAddr, Sem.run_pure, Result.andThen_ok, loadVar, hagg]
    simp [hc W hW]) h
end

attribute [local irreducible] wpQuiet

theorem wal_may_nil (w : World) (slot log : Int) (hs : -9223372036854775808 ≤ slot ∧ slot < 9223372036854775808) (hl : -9223372036854775808 ≤ log ∧ log < 9223372036854775808) :
    Calls Tryd.prog 27 #[loV none slot log] w fun e w' => e = .returned (.bool false) ∧ Fr [] w w' := by
  unfold loV
  go_enter Tryd.func27, Tryd.ntmps27
  go_wp2
  go_region
  go_wp2
  go_ret
  exact ⟨rfl, (Fr.alloc _ _).trans (Fr.drew _)⟩

set_option maxRecDepth 100000 in
set_option maxHeartbeats 1000000 in
theorem wal_may_1 {w : World} {p s m : Nat} {D : Dk} (h : DiskAt w p s m D) (slot log : Int) (hs : -9223372036854775808 ≤ slot ∧ slot < 9223372036854775808) (hl : -9223372036854775808 ≤ log ∧ log < 9223372036854775808) (h1 : min slot log ≤ 0) :
    Calls Tryd.prog 27 #[loV (some ⟨p, 0, none⟩) slot log] w fun e w' => e = .returned (.bool false) ∧ Fr [] w w' := by
  unfold loV
  have hD := h.ok.len
  obtain ⟨n, hn⟩ : ∃ n, n = D.sure.length := ⟨_, rfl⟩
  obtain ⟨mn, hmn⟩ : ∃ mn, min slot log = mn := ⟨_, rfl⟩
  obtain ⟨mx, hmx⟩ : ∃ mx, max slot log = mx := ⟨_, rfl⟩
  have Hmn := Lib.hid hmn
  have Hmx := Lib.hid hmx
  have H1 : Hid (decide (0 < mn) = false) := decide_eq_false (by omega)
  obtain ⟨w1, hw1⟩ : ∃ w1, w1 = w.alloc (.cells #[.pointer (some ⟨p, 0, none⟩), .int .i64 slot, .int .i64 log] tL) := ⟨_, rfl⟩
  obtain ⟨B, hB⟩ : ∃ B, B = w.heap.size := ⟨_, rfl⟩
  have f1 : Fr [] w w1.drew := by rw [hw1]; exact (Fr.alloc _ _).trans (Fr.drew _)
  have hb : w1.drew.heap[B]? = some (.cells #[.pointer (some ⟨p, 0, none⟩), .int .i64 slot, .int .i64 log] tL (0, 0)) := by rw [hw1, hB]; exact Go.heap_alloc_new w _
  have c0 : ∀ X, X = w1.drew → X.cell? ⟨B, 0, none⟩ = some (.pointer (some ⟨p, 0, none⟩)) := fun X hX => by rw [hX]; exact cellOf hb rfl
  have c1 : ∀ X, X = w1.drew → X.cell? ⟨B, 1, none⟩ = some (.int .i64 slot) := fun X hX => by rw [hX]; exact cellOf hb rfl
  have c2 : ∀ X, X = w1.drew → X.cell? ⟨B, 2, none⟩ = some (.int .i64 log) := fun X hX => by rw [hX]; exact cellOf hb rfl
  have CS : ∀ X, X = w1.drew → Calls Tryd.prog 45 #[.pointer (some ⟨p, 0, none⟩)] X fun e w' => e = .returned (.int .i64 n) ∧ w' = w1.drew := fun X hX => by
    rw [hX, hn]; exact (disk_Size (h.keep0 f1)).mono (fun e w' h => ⟨h.1, h.2.symm⟩)
  have HW := Lib.hid hw1
  have HB := Lib.hid hB
  clear hw1 hB hmn hmx hn hb h h1
  go_enter Tryd.func27, Tryd.ntmps27
  go_wp2
  rw [← HW.out, ← HB.out]
  refine wp_region_all (C := fun X => X = w1.drew) (by kernel_rfl) (by kernel_rfl) rfl ?_
  refine wpQuiet_valg (by kernel_rfl) (.pointer (some ⟨B, 0, none⟩)) (fun X hX => by kernel_rfl) ?_; simp only [Act.put, List.setIfInBounds_toArray, List.set_cons_succ, List.set_cons_zero]
  refine wpQuiet_loadg (by kernel_rfl) _ _ rfl rfl (.pointer (some ⟨p, 0, none⟩)) Tryd.underlying24 rfl (fun X hX => c0 X hX) ?_; simp only [Act.put, List.setIfInBounds_toArray, List.set_cons_succ, List.set_cons_zero]
  refine wpQuiet_valg (by kernel_rfl) (.bool true) (fun X hX => by kernel_rfl) ?_; simp only [Act.put, List.setIfInBounds_toArray, List.set_cons_succ, List.set_cons_zero]
  refine wpQuiet_valg (by kernel_rfl) (.bool true) (fun X hX => by kernel_rfl) ?_; simp only [Act.put, List.setIfInBounds_toArray, List.set_cons_succ, List.set_cons_zero]
  refine wpQuiet_valg (by kernel_rfl) (.pointer (some ⟨B, 1, none⟩)) (fun X hX => by kernel_rfl) ?_; simp only [Act.put, List.setIfInBounds_toArray, List.set_cons_succ, List.set_cons_zero]
  refine wpQuiet_loadg (by kernel_rfl) _ _ rfl rfl (.int .i64 slot) Tryd.underlying3 rfl (fun X hX => c1 X hX) ?_; simp only [Act.put, List.setIfInBounds_toArray, List.set_cons_succ, List.set_cons_zero]
  refine wpQuiet_valg (by kernel_rfl) (.pointer (some ⟨B, 2, none⟩)) (fun X hX => by kernel_rfl) ?_; simp only [Act.put, List.setIfInBounds_toArray, List.set_cons_succ, List.set_cons_zero]
  refine wpQuiet_loadg (by kernel_rfl) _ _ rfl rfl (.int .i64 log) Tryd.underlying3 rfl (fun X hX => c2 X hX) ?_; simp only [Act.put, List.setIfInBounds_toArray, List.set_cons_succ, List.set_cons_zero]
  refine wpQuiet_valg (by kernel_rfl) (.int .i64 mn) (fun X hX => exec_builtin rfl (by simp [Act.eval]; rfl) (fun cs => by rw [← Hmn.out]; exact run_min slot log _ _ X cs rfl)) ?_; simp only [Act.put, List.setIfInBounds_toArray, List.set_cons_succ, List.set_cons_zero]
  refine wpQuiet_valg (by kernel_rfl) (.bool false) (fun X hX => Eq.trans (b := Result.ok (Next.value (.bool (decide (0 < mn)))) X) (by kernel_rfl) (by rw [H1.out])) ?_; simp only [Act.put, List.setIfInBounds_toArray, List.set_cons_succ, List.set_cons_zero]
  refine wpQuiet_valg (by kernel_rfl) (.bool false) (fun X hX => by kernel_rfl) ?_; simp only [Act.put, List.setIfInBounds_toArray, List.set_cons_succ, List.set_cons_zero]
  refine wpQuiet_move rfl _ rfl (v := .bool false) rfl ?_; simp only [Act.put, List.setIfInBounds_toArray, List.set_cons_succ, List.set_cons_zero]
  refine wpQuiet_skip (by kernel_rfl) ?_; simp only [Act.put, List.setIfInBounds_toArray, List.set_cons_succ, List.set_cons_zero]
  refine wpQuiet_skip (by kernel_rfl) ?_; simp only [Act.put, List.setIfInBounds_toArray, List.set_cons_succ, List.set_cons_zero]
  refine wpQuiet_skip (by kernel_rfl) ?_; simp only [Act.put, List.setIfInBounds_toArray, List.set_cons_succ, List.set_cons_zero]
  refine wpQuiet_skip (by kernel_rfl) ?_; simp only [Act.put, List.setIfInBounds_toArray, List.set_cons_succ, List.set_cons_zero]
  refine wpQuiet_skip (by kernel_rfl) ?_; simp only [Act.put, List.setIfInBounds_toArray, List.set_cons_succ, List.set_cons_zero]
  refine wpQuiet_skip (by kernel_rfl) ?_; simp only [Act.put, List.setIfInBounds_toArray, List.set_cons_succ, List.set_cons_zero]
  refine wpQuiet_skip (by kernel_rfl) ?_; simp only [Act.put, List.setIfInBounds_toArray, List.set_cons_succ, List.set_cons_zero]
  refine wpQuiet_skip (by kernel_rfl) ?_; simp only [Act.put, List.setIfInBounds_toArray, List.set_cons_succ, List.set_cons_zero]
  refine wpQuiet_skip (by kernel_rfl) ?_; simp only [Act.put, List.setIfInBounds_toArray, List.set_cons_succ, List.set_cons_zero]
  refine wpQuiet_valg (by kernel_rfl) (.bool false) (fun X hX => by kernel_rfl) ?_; simp only [Act.put, List.setIfInBounds_toArray, List.set_cons_succ, List.set_cons_zero]
  refine wpQuiet_move rfl _ rfl (v := .bool false) rfl ?_; simp only [Act.put, List.setIfInBounds_toArray, List.set_cons_succ, List.set_cons_zero]
  refine wpQuiet_skip (by kernel_rfl) ?_; simp only [Act.put, List.setIfInBounds_toArray, List.set_cons_succ, List.set_cons_zero]
  refine wpQuiet_skip (by kernel_rfl) ?_; simp only [Act.put, List.setIfInBounds_toArray, List.set_cons_succ, List.set_cons_zero]
  refine wpQuiet_skip (by kernel_rfl) ?_; simp only [Act.put, List.setIfInBounds_toArray, List.set_cons_succ, List.set_cons_zero]
  refine wpQuiet_skip (by kernel_rfl) ?_; simp only [Act.put, List.setIfInBounds_toArray, List.set_cons_succ, List.set_cons_zero]
  refine wpQuiet_skip (by kernel_rfl) ?_; simp only [Act.put, List.setIfInBounds_toArray, List.set_cons_succ, List.set_cons_zero]
  refine wpQuiet_skip (by kernel_rfl) ?_; simp only [Act.put, List.setIfInBounds_toArray, List.set_cons_succ, List.set_cons_zero]
  refine wpQuiet_skip (by kernel_rfl) ?_; simp only [Act.put, List.setIfInBounds_toArray, List.set_cons_succ, List.set_cons_zero]
  refine wpQuiet_skip (by kernel_rfl) ?_; simp only [Act.put, List.setIfInBounds_toArray, List.set_cons_succ, List.set_cons_zero]
  refine wpQuiet_skip (by kernel_rfl) ?_; simp only [Act.put, List.setIfInBounds_toArray, List.set_cons_succ, List.set_cons_zero]
  refine wpQuiet_skip (by kernel_rfl) ?_; simp only [Act.put, List.setIfInBounds_toArray, List.set_cons_succ, List.set_cons_zero]
  refine wpQuiet_valg (by kernel_rfl) (.bool false) (fun X hX => by kernel_rfl) ?_; simp only [Act.put, List.setIfInBounds_toArray, List.set_cons_succ, List.set_cons_zero]
  refine wpQuiet_valg (by kernel_rfl) (.bool false) (fun X hX => by kernel_rfl) ?_; simp only [Act.put, List.setIfInBounds_toArray, List.set_cons_succ, List.set_cons_zero]
  refine wpQuiet_nil ?_
  rintro X hX
  go_wp2
  go_ret
  rw [hX]
  exact ⟨rfl, f1⟩

set_option maxRecDepth 100000 in
set_option maxHeartbeats 1000000 in
theorem wal_may_2 {w : World} {p s m : Nat} {D : Dk} (h : DiskAt w p s m D) (slot log : Int) (hs : -9223372036854775808 ≤ slot ∧ slot < 9223372036854775808) (hl : -9223372036854775808 ≤ log ∧ log < 9223372036854775808) (h1 : 0 < min slot log) (h2 : (D.sure.length : Int) < max slot log) :
    Calls Tryd.prog 27 #[loV (some ⟨p, 0, none⟩) slot log] w fun e w' => e = .returned (.bool false) ∧ Fr [] w w' := by
  unfold loV
  have hD := h.ok.len
  obtain ⟨n, hn⟩ : ∃ n, n = D.sure.length := ⟨_, rfl⟩
  obtain ⟨mn, hmn⟩ : ∃ mn, min slot log = mn := ⟨_, rfl⟩
  obtain ⟨mx, hmx⟩ : ∃ mx, max slot log = mx := ⟨_, rfl⟩
  have Hmn := Lib.hid hmn
  have Hmx := Lib.hid hmx
  have H1 : Hid (decide (0 < mn) = true) := decide_eq_true (by omega)
  have H2 : Hid (decide (mx ≤ (n : Int)) = false) := decide_eq_false (by omega)
  obtain ⟨w1, hw1⟩ : ∃ w1, w1 = w.alloc (.cells #[.pointer (some ⟨p, 0, none⟩), .int .i64 slot, .int .i64 log] tL) := ⟨_, rfl⟩
  obtain ⟨B, hB⟩ : ∃ B, B = w.heap.size := ⟨_, rfl⟩
  have f1 : Fr [] w w1.drew := by rw [hw1]; exact (Fr.alloc _ _).trans (Fr.drew _)
  have hb : w1.drew.heap[B]? = some (.cells #[.pointer (some ⟨p, 0, none⟩), .int .i64 slot, .int .i64 log] tL (0, 0)) := by rw [hw1, hB]; exact Go.heap_alloc_new w _
  have c0 : ∀ X, X = w1.drew → X.cell? ⟨B, 0, none⟩ = some (.pointer (some ⟨p, 0, none⟩)) := fun X hX => by rw [hX]; exact cellOf hb rfl
  have c1 : ∀ X, X = w1.drew → X.cell? ⟨B, 1, none⟩ = some (.int .i64 slot) := fun X hX => by rw [hX]; exact cellOf hb rfl
  have c2 : ∀ X, X = w1.drew → X.cell? ⟨B, 2, none⟩ = some (.int .i64 log) := fun X hX => by rw [hX]; exact cellOf hb rfl
  have CS : ∀ X, X = w1.drew → Calls Tryd.prog 45 #[.pointer (some ⟨p, 0, none⟩)] X fun e w' => e = .returned (.int .i64 n) ∧ w' = w1.drew := fun X hX => by
    rw [hX, hn]; exact (disk_Size (h.keep0 f1)).mono (fun e w' h => ⟨h.1, h.2.symm⟩)
  have HW := Lib.hid hw1
  have HB := Lib.hid hB
  clear hw1 hB hmn hmx hn hb h h1 h2
  go_enter Tryd.func27, Tryd.ntmps27
  go_wp2
  rw [← HW.out, ← HB.out]
  refine wp_region_all (C := fun X => X = w1.drew) (by kernel_rfl) (by kernel_rfl) rfl ?_
  refine wpQuiet_valg (by kernel_rfl) (.pointer (some ⟨B, 0, none⟩)) (fun X hX => by kernel_rfl) ?_; simp only [Act.put, List.setIfInBounds_toArray, List.set_cons_succ, List.set_cons_zero]
  refine wpQuiet_loadg (by kernel_rfl) _ _ rfl rfl (.pointer (some ⟨p, 0, none⟩)) Tryd.underlying24 rfl (fun X hX => c0 X hX) ?_; simp only [Act.put, List.setIfInBounds_toArray, List.set_cons_succ, List.set_cons_zero]
  refine wpQuiet_valg (by kernel_rfl) (.bool true) (fun X hX => by kernel_rfl) ?_; simp only [Act.put, List.setIfInBounds_toArray, List.set_cons_succ, List.set_cons_zero]
  refine wpQuiet_valg (by kernel_rfl) (.bool true) (fun X hX => by kernel_rfl) ?_; simp only [Act.put, List.setIfInBounds_toArray, List.set_cons_succ, List.set_cons_zero]
  refine wpQuiet_valg (by kernel_rfl) (.pointer (some ⟨B, 1, none⟩)) (fun X hX => by kernel_rfl) ?_; simp only [Act.put, List.setIfInBounds_toArray, List.set_cons_succ, List.set_cons_zero]
  refine wpQuiet_loadg (by kernel_rfl) _ _ rfl rfl (.int .i64 slot) Tryd.underlying3 rfl (fun X hX => c1 X hX) ?_; simp only [Act.put, List.setIfInBounds_toArray, List.set_cons_succ, List.set_cons_zero]
  refine wpQuiet_valg (by kernel_rfl) (.pointer (some ⟨B, 2, none⟩)) (fun X hX => by kernel_rfl) ?_; simp only [Act.put, List.setIfInBounds_toArray, List.set_cons_succ, List.set_cons_zero]
  refine wpQuiet_loadg (by kernel_rfl) _ _ rfl rfl (.int .i64 log) Tryd.underlying3 rfl (fun X hX => c2 X hX) ?_; simp only [Act.put, List.setIfInBounds_toArray, List.set_cons_succ, List.set_cons_zero]
  refine wpQuiet_valg (by kernel_rfl) (.int .i64 mn) (fun X hX => exec_builtin rfl (by simp [Act.eval]; rfl) (fun cs => by rw [← Hmn.out]; exact run_min slot log _ _ X cs rfl)) ?_; simp only [Act.put, List.setIfInBounds_toArray, List.set_cons_succ, List.set_cons_zero]
  refine wpQuiet_valg (by kernel_rfl) (.bool true) (fun X hX => Eq.trans (b := Result.ok (Next.value (.bool (decide (0 < mn)))) X) (by kernel_rfl) (by rw [H1.out])) ?_; simp only [Act.put, List.setIfInBounds_toArray, List.set_cons_succ, List.set_cons_zero]
  refine wpQuiet_valg (by kernel_rfl) (.bool true) (fun X hX => by kernel_rfl) ?_; simp only [Act.put, List.setIfInBounds_toArray, List.set_cons_succ, List.set_cons_zero]
  refine wpQuiet_valg (by kernel_rfl) (.bool true) (fun X hX => by kernel_rfl) ?_; simp only [Act.put, List.setIfInBounds_toArray, List.set_cons_succ, List.set_cons_zero]
  refine wpQuiet_valg (by kernel_rfl) (.pointer (some ⟨B, 1, none⟩)) (fun X hX => by kernel_rfl) ?_; simp only [Act.put, List.setIfInBounds_toArray, List.set_cons_succ, List.set_cons_zero]
  refine wpQuiet_loadg (by kernel_rfl) _ _ rfl rfl (.int .i64 slot) Tryd.underlying3 rfl (fun X hX => c1 X hX) ?_; simp only [Act.put, List.setIfInBounds_toArray, List.set_cons_succ, List.set_cons_zero]
  refine wpQuiet_valg (by kernel_rfl) (.pointer (some ⟨B, 2, none⟩)) (fun X hX => by kernel_rfl) ?_; simp only [Act.put, List.setIfInBounds_toArray, List.set_cons_succ, List.set_cons_zero]
  refine wpQuiet_loadg (by kernel_rfl) _ _ rfl rfl (.int .i64 log) Tryd.underlying3 rfl (fun X hX => c2 X hX) ?_; simp only [Act.put, List.setIfInBounds_toArray, List.set_cons_succ, List.set_cons_zero]
  refine wpQuiet_valg (by kernel_rfl) (.int .i64 mx) (fun X hX => exec_builtin rfl (by simp [Act.eval]; rfl) (fun cs => by rw [← Hmx.out]; exact run_max slot log _ _ X cs rfl)) ?_; simp only [Act.put, List.setIfInBounds_toArray, List.set_cons_succ, List.set_cons_zero]
  refine wpQuiet_valg (by kernel_rfl) (.pointer (some ⟨B, 0, none⟩)) (fun X hX => by kernel_rfl) ?_; simp only [Act.put, List.setIfInBounds_toArray, List.set_cons_succ, List.set_cons_zero]
  refine wpQuiet_loadg (by kernel_rfl) _ _ rfl rfl (.pointer (some ⟨p, 0, none⟩)) Tryd.underlying24 rfl (fun X hX => c0 X hX) ?_; simp only [Act.put, List.setIfInBounds_toArray, List.set_cons_succ, List.set_cons_zero]
  refine wpQuiet_callg (by kernel_rfl) (.int .i64 n) 45 #[.pointer (some ⟨p, 0, none⟩)] (fun W => by kernel_rfl) (fun X hX => CS X hX) ?_; simp only [Act.put, List.setIfInBounds_toArray, List.set_cons_succ, List.set_cons_zero]
  refine wpQuiet_valg (by kernel_rfl) (.bool false) (fun X hX => Eq.trans (b := Result.ok (Next.value (.bool (decide (mx ≤ (n : Int))))) X) (by kernel_rfl) (by rw [H2.out])) ?_; simp only [Act.put, List.setIfInBounds_toArray, List.set_cons_succ, List.set_cons_zero]
  refine wpQuiet_valg (by kernel_rfl) (.bool false) (fun X hX => by kernel_rfl) ?_; simp only [Act.put, List.setIfInBounds_toArray, List.set_cons_succ, List.set_cons_zero]
  refine wpQuiet_move rfl _ rfl (v := .bool false) rfl ?_; simp only [Act.put, List.setIfInBounds_toArray, List.set_cons_succ, List.set_cons_zero]
  refine wpQuiet_skip (by kernel_rfl) ?_; simp only [Act.put, List.setIfInBounds_toArray, List.set_cons_succ, List.set_cons_zero]
  refine wpQuiet_skip (by kernel_rfl) ?_; simp only [Act.put, List.setIfInBounds_toArray, List.set_cons_succ, List.set_cons_zero]
  refine wpQuiet_skip (by kernel_rfl) ?_; simp only [Act.put, List.setIfInBounds_toArray, List.set_cons_succ, List.set_cons_zero]
  refine wpQuiet_skip (by kernel_rfl) ?_; simp only [Act.put, List.setIfInBounds_toArray, List.set_cons_succ, List.set_cons_zero]
  refine wpQuiet_skip (by kernel_rfl) ?_; simp only [Act.put, List.setIfInBounds_toArray, List.set_cons_succ, List.set_cons_zero]
  refine wpQuiet_skip (by kernel_rfl) ?_; simp only [Act.put, List.setIfInBounds_toArray, List.set_cons_succ, List.set_cons_zero]
  refine wpQuiet_skip (by kernel_rfl) ?_; simp only [Act.put, List.setIfInBounds_toArray, List.set_cons_succ, List.set_cons_zero]
  refine wpQuiet_skip (by kernel_rfl) ?_; simp only [Act.put, List.setIfInBounds_toArray, List.set_cons_succ, List.set_cons_zero]
  refine wpQuiet_skip (by kernel_rfl) ?_; simp only [Act.put, List.setIfInBounds_toArray, List.set_cons_succ, List.set_cons_zero]
  refine wpQuiet_skip (by kernel_rfl) ?_; simp only [Act.put, List.setIfInBounds_toArray, List.set_cons_succ, List.set_cons_zero]
  refine wpQuiet_valg (by kernel_rfl) (.bool false) (fun X hX => by kernel_rfl) ?_; simp only [Act.put, List.setIfInBounds_toArray, List.set_cons_succ, List.set_cons_zero]
  refine wpQuiet_valg (by kernel_rfl) (.bool false) (fun X hX => by kernel_rfl) ?_; simp only [Act.put, List.setIfInBounds_toArray, List.set_cons_succ, List.set_cons_zero]
  refine wpQuiet_nil ?_
  rintro X hX
  go_wp2
  go_ret
  rw [hX]
  exact ⟨rfl, f1⟩

set_option maxRecDepth 100000 in
set_option maxHeartbeats 1000000 in
theorem wal_may_3 {w : World} {p s m : Nat} {D : Dk} (h : DiskAt w p s m D) (slot log : Int) (hs : -9223372036854775808 ≤ slot ∧ slot < 9223372036854775808) (hl : -9223372036854775808 ≤ log ∧ log < 9223372036854775808) (h1 : 0 < min slot log) (h2 : max slot log ≤ (D.sure.length : Int)) :
    Calls Tryd.prog 27 #[loV (some ⟨p, 0, none⟩) slot log] w fun e w' => e = .returned (.bool (decide (2 * slot + log ≤ (D.sure.length : Int)))) ∧ Fr [] w w' := by
  unfold loV
  have hD := h.ok.len
  obtain ⟨n, hn⟩ : ∃ n, n = D.sure.length := ⟨_, rfl⟩
  obtain ⟨mn, hmn⟩ : ∃ mn, min slot log = mn := ⟨_, rfl⟩
  obtain ⟨mx, hmx⟩ : ∃ mx, max slot log = mx := ⟨_, rfl⟩
  have Hmn := Lib.hid hmn
  have Hmx := Lib.hid hmx
  have H1 : Hid (decide (0 < mn) = true) := decide_eq_true (by omega)
  have H2 : Hid (decide (mx ≤ (n : Int)) = true) := decide_eq_true (by omega)
  have Hw1 : Hid (IntKind.i64.wrap (2 * slot) = 2 * slot) := by rw [Hid, IntKind.wrap_i64]; omega
  have Hw2 : Hid (IntKind.i64.wrap (2 * slot + log) = 2 * slot + log) := by rw [Hid, IntKind.wrap_i64]; omega
  have hnD := Lib.hid hn
  obtain ⟨w1, hw1⟩ : ∃ w1, w1 = w.alloc (.cells #[.pointer (some ⟨p, 0, none⟩), .int .i64 slot, .int .i64 log] tL) := ⟨_, rfl⟩
  obtain ⟨B, hB⟩ : ∃ B, B = w.heap.size := ⟨_, rfl⟩
  have f1 : Fr [] w w1.drew := by rw [hw1]; exact (Fr.alloc _ _).trans (Fr.drew _)
  have hb : w1.drew.heap[B]? = some (.cells #[.pointer (some ⟨p, 0, none⟩), .int .i64 slot, .int .i64 log] tL (0, 0)) := by rw [hw1, hB]; exact Go.heap_alloc_new w _
  have c0 : ∀ X, X = w1.drew → X.cell? ⟨B, 0, none⟩ = some (.pointer (some ⟨p, 0, none⟩)) := fun X hX => by rw [hX]; exact cellOf hb rfl
  have c1 : ∀ X, X = w1.drew → X.cell? ⟨B, 1, none⟩ = some (.int .i64 slot) := fun X hX => by rw [hX]; exact cellOf hb rfl
  have c2 : ∀ X, X = w1.drew → X.cell? ⟨B, 2, none⟩ = some (.int .i64 log) := fun X hX => by rw [hX]; exact cellOf hb rfl
  have CS : ∀ X, X = w1.drew → Calls Tryd.prog 45 #[.pointer (some ⟨p, 0, none⟩)] X fun e w' => e = .returned (.int .i64 n) ∧ w' = w1.drew := fun X hX => by
    rw [hX, hn]; exact (disk_Size (h.keep0 f1)).mono (fun e w' h => ⟨h.1, h.2.symm⟩)
  have HW := Lib.hid hw1
  have HB := Lib.hid hB
  clear hw1 hB hmn hmx hn hb h h1 h2
  go_enter Tryd.func27, Tryd.ntmps27
  go_wp2
  rw [← HW.out, ← HB.out]
  refine wp_region_all (C := fun X => X = w1.drew) (by kernel_rfl) (by kernel_rfl) rfl ?_
  refine wpQuiet_valg (by kernel_rfl) (.pointer (some ⟨B, 0, none⟩)) (fun X hX => by kernel_rfl) ?_; simp only [Act.put, List.setIfInBounds_toArray, List.set_cons_succ, List.set_cons_zero]
  refine wpQuiet_loadg (by kernel_rfl) _ _ rfl rfl (.pointer (some ⟨p, 0, none⟩)) Tryd.underlying24 rfl (fun X hX => c0 X hX) ?_; simp only [Act.put, List.setIfInBounds_toArray, List.set_cons_succ, List.set_cons_zero]
  refine wpQuiet_valg (by kernel_rfl) (.bool true) (fun X hX => by kernel_rfl) ?_; simp only [Act.put, List.setIfInBounds_toArray, List.set_cons_succ, List.set_cons_zero]
  refine wpQuiet_valg (by kernel_rfl) (.bool true) (fun X hX => by kernel_rfl) ?_; simp only [Act.put, List.setIfInBounds_toArray, List.set_cons_succ, List.set_cons_zero]
  refine wpQuiet_valg (by kernel_rfl) (.pointer (some ⟨B, 1, none⟩)) (fun X hX => by kernel_rfl) ?_; simp only [Act.put, List.setIfInBounds_toArray, List.set_cons_succ, List.set_cons_zero]
  refine wpQuiet_loadg (by kernel_rfl) _ _ rfl rfl (.int .i64 slot) Tryd.underlying3 rfl (fun X hX => c1 X hX) ?_; simp only [Act.put, List.setIfInBounds_toArray, List.set_cons_succ, List.set_cons_zero]
  refine wpQuiet_valg (by kernel_rfl) (.pointer (some ⟨B, 2, none⟩)) (fun X hX => by kernel_rfl) ?_; simp only [Act.put, List.setIfInBounds_toArray, List.set_cons_succ, List.set_cons_zero]
  refine wpQuiet_loadg (by kernel_rfl) _ _ rfl rfl (.int .i64 log) Tryd.underlying3 rfl (fun X hX => c2 X hX) ?_; simp only [Act.put, List.setIfInBounds_toArray, List.set_cons_succ, List.set_cons_zero]
  refine wpQuiet_valg (by kernel_rfl) (.int .i64 mn) (fun X hX => exec_builtin rfl (by simp [Act.eval]; rfl) (fun cs => by rw [← Hmn.out]; exact run_min slot log _ _ X cs rfl)) ?_; simp only [Act.put, List.setIfInBounds_toArray, List.set_cons_succ, List.set_cons_zero]
  refine wpQuiet_valg (by kernel_rfl) (.bool true) (fun X hX => Eq.trans (b := Result.ok (Next.value (.bool (decide (0 < mn)))) X) (by kernel_rfl) (by rw [H1.out])) ?_; simp only [Act.put, List.setIfInBounds_toArray, List.set_cons_succ, List.set_cons_zero]
  refine wpQuiet_valg (by kernel_rfl) (.bool true) (fun X hX => by kernel_rfl) ?_; simp only [Act.put, List.setIfInBounds_toArray, List.set_cons_succ, List.set_cons_zero]
  refine wpQuiet_valg (by kernel_rfl) (.bool true) (fun X hX => by kernel_rfl) ?_; simp only [Act.put, List.setIfInBounds_toArray, List.set_cons_succ, List.set_cons_zero]
  refine wpQuiet_valg (by kernel_rfl) (.pointer (some ⟨B, 1, none⟩)) (fun X hX => by kernel_rfl) ?_; simp only [Act.put, List.setIfInBounds_toArray, List.set_cons_succ, List.set_cons_zero]
  refine wpQuiet_loadg (by kernel_rfl) _ _ rfl rfl (.int .i64 slot) Tryd.underlying3 rfl (fun X hX => c1 X hX) ?_; simp only [Act.put, List.setIfInBounds_toArray, List.set_cons_succ, List.set_cons_zero]
  refine wpQuiet_valg (by kernel_rfl) (.pointer (some ⟨B, 2, none⟩)) (fun X hX => by kernel_rfl) ?_; simp only [Act.put, List.setIfInBounds_toArray, List.set_cons_succ, List.set_cons_zero]
  refine wpQuiet_loadg (by kernel_rfl) _ _ rfl rfl (.int .i64 log) Tryd.underlying3 rfl (fun X hX => c2 X hX) ?_; simp only [Act.put, List.setIfInBounds_toArray, List.set_cons_succ, List.set_cons_zero]
  refine wpQuiet_valg (by kernel_rfl) (.int .i64 mx) (fun X hX => exec_builtin rfl (by simp [Act.eval]; rfl) (fun cs => by rw [← Hmx.out]; exact run_max slot log _ _ X cs rfl)) ?_; simp only [Act.put, List.setIfInBounds_toArray, List.set_cons_succ, List.set_cons_zero]
  refine wpQuiet_valg (by kernel_rfl) (.pointer (some ⟨B, 0, none⟩)) (fun X hX => by kernel_rfl) ?_; simp only [Act.put, List.setIfInBounds_toArray, List.set_cons_succ, List.set_cons_zero]
  refine wpQuiet_loadg (by kernel_rfl) _ _ rfl rfl (.pointer (some ⟨p, 0, none⟩)) Tryd.underlying24 rfl (fun X hX => c0 X hX) ?_; simp only [Act.put, List.setIfInBounds_toArray, List.set_cons_succ, List.set_cons_zero]
  refine wpQuiet_callg (by kernel_rfl) (.int .i64 n) 45 #[.pointer (some ⟨p, 0, none⟩)] (fun W => by kernel_rfl) (fun X hX => CS X hX) ?_; simp only [Act.put, List.setIfInBounds_toArray, List.set_cons_succ, List.set_cons_zero]
  refine wpQuiet_valg (by kernel_rfl) (.bool true) (fun X hX => Eq.trans (b := Result.ok (Next.value (.bool (decide (mx ≤ (n : Int))))) X) (by kernel_rfl) (by rw [H2.out])) ?_; simp only [Act.put, List.setIfInBounds_toArray, List.set_cons_succ, List.set_cons_zero]
  refine wpQuiet_valg (by kernel_rfl) (.bool true) (fun X hX => by kernel_rfl) ?_; simp only [Act.put, List.setIfInBounds_toArray, List.set_cons_succ, List.set_cons_zero]
  refine wpQuiet_valg (by kernel_rfl) (.bool true) (fun X hX => by kernel_rfl) ?_; simp only [Act.put, List.setIfInBounds_toArray, List.set_cons_succ, List.set_cons_zero]
  refine wpQuiet_valg (by kernel_rfl) (.pointer (some ⟨B, 1, none⟩)) (fun X hX => by kernel_rfl) ?_; simp only [Act.put, List.setIfInBounds_toArray, List.set_cons_succ, List.set_cons_zero]
  refine wpQuiet_loadg (by kernel_rfl) _ _ rfl rfl (.int .i64 slot) Tryd.underlying3 rfl (fun X hX => c1 X hX) ?_; simp only [Act.put, List.setIfInBounds_toArray, List.set_cons_succ, List.set_cons_zero]
  refine wpQuiet_valg (by kernel_rfl) (.int .i64 (2 * slot)) (fun X hX => Eq.trans (b := Result.ok (Next.value (.int .i64 (IntKind.i64.wrap (2 * slot)))) X) (by kernel_rfl) (by rw [Hw1.out])) ?_; simp only [Act.put, List.setIfInBounds_toArray, List.set_cons_succ, List.set_cons_zero]
  refine wpQuiet_valg (by kernel_rfl) (.pointer (some ⟨B, 2, none⟩)) (fun X hX => by kernel_rfl) ?_; simp only [Act.put, List.setIfInBounds_toArray, List.set_cons_succ, List.set_cons_zero]
  refine wpQuiet_loadg (by kernel_rfl) _ _ rfl rfl (.int .i64 log) Tryd.underlying3 rfl (fun X hX => c2 X hX) ?_; simp only [Act.put, List.setIfInBounds_toArray, List.set_cons_succ, List.set_cons_zero]
  refine wpQuiet_valg (by kernel_rfl) (.int .i64 (2 * slot + log)) (fun X hX => Eq.trans (b := Result.ok (Next.value (.int .i64 (IntKind.i64.wrap (2 * slot + log)))) X) (by kernel_rfl) (by rw [Hw2.out])) ?_; simp only [Act.put, List.setIfInBounds_toArray, List.set_cons_succ, List.set_cons_zero]
  refine wpQuiet_valg (by kernel_rfl) (.pointer (some ⟨B, 0, none⟩)) (fun X hX => by kernel_rfl) ?_; simp only [Act.put, List.setIfInBounds_toArray, List.set_cons_succ, List.set_cons_zero]
  refine wpQuiet_loadg (by kernel_rfl) _ _ rfl rfl (.pointer (some ⟨p, 0, none⟩)) Tryd.underlying24 rfl (fun X hX => c0 X hX) ?_; simp only [Act.put, List.setIfInBounds_toArray, List.set_cons_succ, List.set_cons_zero]
  refine wpQuiet_callg (by kernel_rfl) (.int .i64 n) 45 #[.pointer (some ⟨p, 0, none⟩)] (fun W => by kernel_rfl) (fun X hX => CS X hX) ?_; simp only [Act.put, List.setIfInBounds_toArray, List.set_cons_succ, List.set_cons_zero]
  refine wpQuiet_valg (by kernel_rfl) (.bool (decide (2 * slot + log ≤ (n : Int)))) (fun X hX => by kernel_rfl) ?_; simp only [Act.put, List.setIfInBounds_toArray, List.set_cons_succ, List.set_cons_zero]
  refine wpQuiet_valg (by kernel_rfl) (.bool (decide (2 * slot + log ≤ (n : Int)))) (fun X hX => by kernel_rfl) ?_; simp only [Act.put, List.setIfInBounds_toArray, List.set_cons_succ, List.set_cons_zero]
  refine wpQuiet_valg (by kernel_rfl) (.bool (decide (2 * slot + log ≤ (n : Int)))) (fun X hX => by kernel_rfl) ?_; simp only [Act.put, List.setIfInBounds_toArray, List.set_cons_succ, List.set_cons_zero]
  refine wpQuiet_nil ?_
  rintro X hX
  go_wp2
  go_ret
  rw [hX, ← hnD.out]
  exact ⟨rfl, f1⟩

/-- a layout that may be used -/
def mayB (D : Dk) (slot log : Int) : Bool := decide (0 < min slot log ∧ max slot log ≤ (D.sure.length : Int) ∧ 2 * slot + log ≤ (D.sure.length : Int))
theorem wal_may {w : World} {p s m : Nat} {D : Dk} (h : DiskAt w p s m D) (slot log : Int) (hs : -9223372036854775808 ≤ slot ∧ slot < 9223372036854775808) (hl : -9223372036854775808 ≤ log ∧ log < 9223372036854775808) :
    Calls Tryd.prog 27 #[loV (some ⟨p, 0, none⟩) slot log] w fun e w' => e = .returned (.bool (mayB D slot log)) ∧ Fr [] w w' := by
  by_cases h1 : 0 < min slot log
  · by_cases h2 : max slot log ≤ (D.sure.length : Int)
    · have : mayB D slot log = decide (2 * slot + log ≤ (D.sure.length : Int)) := by
        unfold mayB; rw [decide_eq_decide]; exact ⟨fun h => h.2.2, fun h => ⟨h1, h2, h⟩⟩
      rw [this]
      exact wal_may_3 h slot log hs hl h1 h2
    · have : mayB D slot log = false := decide_eq_false (fun h => h2 h.2.1)
      rw [this]
      exact wal_may_2 h slot log hs hl h1 (by omega)
  · have : mayB D slot log = false := decide_eq_false (fun h => h1 h.1)
    rw [this]
    exact wal_may_1 h slot log hs hl (by omega)
end Gd
