/- wal: Append. -/
import Derived.Test.YtccgpblecgapaaaDoorJop
import Derived.Test.YtccgpblecgapaaaDoorHoist
set_option linter.unusedSimpArgs false
set_option linter.unusedVariables false
namespace Gd
open Go Go.Proofs Go.RowKit

/-- the journal fits its disk -/
structure Jn.ok (J : Jn) (D : Dk) : Prop where
  lay : 2 * J.slot + J.log ≤ D.sure.length
  slot : 0 < J.slot
  log : 0 < J.log
  epoch : J.epoch < 4294967296
  seq : J.seq < 4294967296
  at_ : J.at_ ≤ 1
  used : J.used ≤ J.log

theorem JnAt.blk {w : World} {j p : Nat} {J : Jn} (h : JnAt w j p J) : Blk w j (.cells (jnL ⟨p, 0, none⟩ J).toArray tJ (0, 0)) := ⟨h.out⟩

theorem JnAt.set4 {w : World} {j p : Nat} {J : Jn} (h : JnAt w j p J) (n : Nat) : JnAt (w.setCell ⟨j, 4, none⟩ (.int .i64 n)) j p { J with seq := n } := ⟨heap_setCell_same w j 4 _ _ (.int .i64 n) h.out⟩
theorem JnAt.set6 {w : World} {j p : Nat} {J : Jn} (h : JnAt w j p J) (n : Nat) : JnAt (w.setCell ⟨j, 6, none⟩ (.int .i64 n)) j p { J with used := n } := ⟨heap_setCell_same w j 6 _ _ (.int .i64 n) h.out⟩
section
variable {w : World} {p s m j : Nat} {D : Dk} {J : Jn} {v : Value} {b : Bytes}
def Appended (p s m j : Nat) (D : Dk) (J : Jn) (b : Bytes) (w : World) (e : Ending) (w' : World) : Prop :=
  e = .returned (.int .i64 (J.append D b).2.2) ∧ DiskAt w' p s m (J.append D b).1 ∧ JnAt w' j p (J.append D b).2.1 ∧ Fr [p, m, j] w w'

set_option maxHeartbeats 1000000 in
theorem wal_Append_a (h : DiskAt w p s m D) (hj : JnAt w j p J) (hs : J.refused = true ∨ J.fresh = false) :
    Calls Tryd.prog 13 #[.pointer (some ⟨j, 0, none⟩), v] w (Appended p s m j D J b w) := by
  have CO := wal_open hj
  obtain ⟨x, hx, hE⟩ : ∃ x : Int, (x = 10 ∨ x = 9) ∧ Hid (J.append D b = (D, J, x)) ∧ (if J.refused = true then (10 : Int) else if J.fresh = true then 0 else 9) = x := by
    unfold Jn.append
    cases hr : J.refused
    · rcases hs with h | h
      · rw [hr] at h; cases h
      · exact ⟨9, .inr rfl, by rw [h]; exact ⟨rfl, rfl⟩⟩
    · exact ⟨10, .inl rfl, rfl, rfl⟩
  rw [hE.2] at CO
  have HE := hE.1
  clear hE hs
  unfold Appended
  rw [HE.out]
  have hx0 : x ≠ 0 := by omega
  clear hx
  go_enter Tryd.func13, Tryd.ntmps13
  go_wp2_with (go_at_call 38; refine CO.mono ?_; rintro e w' ⟨rfl, rfl⟩)
  go_ret
  exact ⟨rfl, h, hj, Fr.refl _ _⟩

set_option maxHeartbeats 1000000 in
theorem wal_Append_b (h : DiskAt w p s m D) (hj : JnAt w j p J) (hr : J.refused = false) (hf : J.fresh = true) (hv : BS w v b) (hb2 : b.length < 4611686018427387904) (hb : 65535 < b.length) :
    Calls Tryd.prog 13 #[.pointer (some ⟨j, 0, none⟩), v] w (Appended p s m j D J b w) := by
  have CO := wal_open hj
  have HE : Hid (J.append D b = (D, J, 2)) := by
    rw [Hid]; unfold Jn.append; rw [hr, hf, if_neg (by decide), if_neg (by decide), if_pos (.inl hb)]
  rw [hr, hf] at CO
  simp only [if_true, Bool.false_eq_true, if_false] at CO
  obtain ⟨ad, cap, rfl, hc1, hc2⟩ := hv.shape
  unfold maxLen at hc2
  unfold Appended
  rw [HE.out]
  clear hr hf
  have CN := sheet_Count_big w b.length hb (by omega)
  go_enter Tryd.func13, Tryd.ntmps13
  go_wp2_with (first
    | (go_at_call 38; refine CO.mono ?_; rintro e w' ⟨rfl, rfl⟩)
    | (go_at_call 39; refine CN.mono ?_; rintro e w' ⟨rfl, rfl⟩))
  all_goals go_ret
  all_goals exact ⟨rfl, h, hj, Fr.refl _ _⟩

set_option maxHeartbeats 1000000 in
theorem wal_Append_c (h : DiskAt w p s m D) (hj : JnAt w j p J) (hr : J.refused = false) (hf : J.fresh = true) (hv : BS w v b) (hb : b.length ≤ 65535) (hq : J.seq = 4294967295) :
    Calls Tryd.prog 13 #[.pointer (some ⟨j, 0, none⟩), v] w (Appended p s m j D J b w) := by
  have CO := wal_open hj
  have HE : Hid (J.append D b = (D, J, 2)) := by
    rw [Hid]; unfold Jn.append; rw [hr, hf, if_neg (by decide), if_neg (by decide), if_pos (.inr hq)]
  rw [hr, hf] at CO
  simp only [if_true, Bool.false_eq_true, if_false] at CO
  obtain ⟨ad, cap, rfl, hc1, hc2⟩ := hv.shape
  unfold maxLen at hc2
  unfold Appended
  rw [HE.out]
  clear hr hf
  have c4 : w.cell? ⟨j, 4, none⟩ = some (.int .i64 J.seq) := cellOf hj.out rfl
  have Hq : Hid (((J.seq : Nat) : Int) = 4294967295) := by rw [hq]; rfl
  rw [Hq.out] at c4
  clear hq
  have CN := sheet_Count w b.length hb
  go_enter Tryd.func13, Tryd.ntmps13
  go_wp2_with (first
    | (go_at_call 38; refine CO.mono ?_; rintro e w' ⟨rfl, rfl⟩)
    | (go_at_call 39; refine CN.mono ?_; rintro e w' ⟨rfl, rfl⟩))
  all_goals go_ret
  all_goals exact ⟨rfl, h, hj, Fr.refl _ _⟩

set_option maxHeartbeats 1000000 in
theorem wal_Append_d (h : DiskAt w p s m D) (hj : JnAt w j p J) (ok : J.ok D) (hr : J.refused = false) (hf : J.fresh = true) (hv : BS w v b) (hb : b.length ≤ 65535) (hq : J.seq < 4294967295) (hl : J.log < J.used + cnt b.length) :
    Calls Tryd.prog 13 #[.pointer (some ⟨j, 0, none⟩), v] w (Appended p s m j D J b w) := by
  have CO := wal_open hj
  have HE : Hid (J.append D b = (D, J, 5)) := by
    rw [Hid]; unfold Jn.append; rw [hr, hf, if_neg (by decide), if_neg (by decide), if_neg (by omega), if_pos hl]
  rw [hr, hf] at CO
  simp only [if_true, Bool.false_eq_true, if_false] at CO
  obtain ⟨ad, cap, rfl, hc1, hc2⟩ := hv.shape
  unfold maxLen at hc2
  unfold Appended
  rw [HE.out]
  clear hr hf
  have c4 : w.cell? ⟨j, 4, none⟩ = some (.int .i64 J.seq) := cellOf hj.out rfl
  obtain ⟨n, hn, hn2⟩ : ∃ n, n = cnt b.length ∧ n ≤ 4096 := ⟨_, rfl, by unfold cnt; omega⟩
  have CN := sheet_Count w b.length hb
  rw [← hn] at CN hl
  clear hn
  have hD := h.ok.len
  have hlay := ok.lay
  have CR := wal_Room hj (by omega) (by have := ok.used; omega)
  go_enter Tryd.func13, Tryd.ntmps13
  go_wp2_with (first
    | (go_at_call 38; refine CO.mono ?_; rintro e w' ⟨rfl, rfl⟩)
    | (go_at_call 39; refine CN.mono ?_; rintro e w' ⟨rfl, rfl⟩)
    | (go_at_call 11; refine CR.mono ?_; rintro e w1 ⟨rfl, f1⟩))
  · exfalso; rename_i hcd; simp at hcd; omega
  · go_ret; exact ⟨rfl, h.keep0 f1, hj.keep0 f1, f1.mono (by simp)⟩

theorem wp_call {P : Program} {o : Oper} {a : Act} {w : World} {K : Act → World → Prop} {Q : Exit → Act → World → Prop} (f : FuncId) (args : Array Value) (hr : (execOp a.eval o).run P w = .ok (.enter f args) w)
    (h : Calls P f args w fun e w' => ∃ v, e = .returned v ∧ K (a.put o.dst v) w') : o.wp P a w K Q := by
  unfold Oper.wp
  rw [hr, Oper.upon_enter]
  exact h.mono (by rintro e w' ⟨v, rfl, h⟩; exact h)
set_option maxRecDepth 100000 in
set_option maxHeartbeats 2000000 in
theorem wal_Append_e (h : DiskAt w p s m D) (hj : JnAt w j p J) (hn : j ≠ p ∧ j ≠ s ∧ j ≠ m) (ok : J.ok D) (hr : J.refused = false) (hf : J.fresh = true) (hv : BS w v b) (hb : b.length ≤ 65535) (hq : J.seq < 4294967295) (hl : J.used + cnt b.length ≤ J.log) :
    Calls Tryd.prog 13 #[.pointer (some ⟨j, 0, none⟩), v] w (Appended p s m j D J b w) := by
  have CO := wal_open hj
  obtain ⟨R, hR⟩ : ∃ R, R = lay J.epoch (J.seq + 1) b := ⟨_, rfl⟩
  obtain ⟨⟨D1, x⟩, hx⟩ : ∃ r, r = D.put (2 * J.slot + J.used) R := ⟨_, rfl⟩
  have HE : Hid (J.append D b = if x ≠ 0 then (D1, { J with refused := true }, x) else (D1, { J with seq := J.seq + 1, used := J.used + cnt b.length, refused := false }, 0)) := by
    rw [Hid]; unfold Jn.append; rw [hr, hf, if_neg (by decide), if_neg (by decide), if_neg (by omega), if_neg (by omega), ← hR, ← hx]
  rw [hr, hf] at CO
  simp only [if_true, Bool.false_eq_true, if_false] at CO
  obtain ⟨ad, cap, rfl, hc1, hc2⟩ := hv.shape
  unfold maxLen at hc2
  clear hf
  have c3 : w.cell? ⟨j, 3, none⟩ = some (.int .i64 J.epoch) := cellOf hj.out rfl
  have c4 : w.cell? ⟨j, 4, none⟩ = some (.int .i64 J.seq) := cellOf hj.out rfl
  have c6 : w.cell? ⟨j, 6, none⟩ = some (.int .i64 J.used) := cellOf hj.out rfl
  obtain ⟨n, hn1, hn2⟩ : ∃ n, n = cnt b.length ∧ n ≤ 4096 := ⟨_, rfl, by unfold cnt; omega⟩
  have hRl : R.length = 32 * n := by rw [hR, length_lay, hn1]
  have hn0 : 0 < n := by rw [hn1]; unfold cnt; omega
  have CN := sheet_Count w b.length hb
  rw [← hn1] at CN hl HE
  clear hn1
  have hD := h.ok.len
  have hlay := ok.lay
  have hep := ok.epoch
  have hus := ok.used
  have hx' := lays_err ((List.range (R.length / 32)).map (pc 32 R)) D (2 * J.slot + J.used)
  have hxx : x = (D.put (2 * J.slot + J.used) R).2 := by rw [← hx]
  have hxb : -9223372036854775808 ≤ x ∧ x < 9223372036854775808 := by rw [hxx]; unfold Dk.put; omega
  clear hx' hxx
  have CR := wal_Room hj (by omega) (by omega)
  have CL : ∀ W, Fr [] w W → Calls Tryd.prog 40 #[.int .i64 J.epoch, .int .i64 ((J.seq : Int) + 1), .slice ad b.length cap] W fun e w' => ∃ u, e = .returned (.tuple #[u, .int .i64 0]) ∧ BS w' u R ∧ (∀ g, u.ownBlock = some g → W.heap.size ≤ g) ∧ Fr [] W w' := fun W hW => by
    have := sheet_Lay (hv.keep0 hW) J.epoch (J.seq + 1) hep (by omega) hb
    rw [← hR] at this
    exact this
  clear hR
  obtain ⟨n1, n2, n3⟩ := hn
  obtain ⟨lp, ls, lm⟩ := h.lt
  have CW : ∀ W u, Fr [] w W → BS W u R → (∀ g, u.ownBlock = some g → w.heap.size ≤ g) → Calls Tryd.prog 30 #[exV (some ⟨p, 0, none⟩) (2 * J.slot + J.used : Nat) (2 * J.slot + J.log : Nat), u] W fun e w' => e = .returned (.int .i64 x) ∧ DiskAt w' p s m D1 ∧ Fr [p, m] W w' := fun W u hW hu hg => by
    have := extent_put (h.keep0 hW) (2 * J.slot + J.used) (2 * J.slot + J.log) n hu hRl hn0 (by omega) (fun g hg' => by have := hg g hg'; omega) (by omega)
    rw [← hx] at this
    exact this
  have hjl := hj.lt
  clear hRl hx
  unfold Appended
  by_cases hx0 : x = 0
  · subst hx0
    rw [HE.out, if_neg (by simp)]
    clear HE
    go_enter Tryd.func13, Tryd.ntmps13
    go_wp2_with (first
      | (go_at_call 38; refine CO.mono ?_; rintro e w' ⟨rfl, rfl⟩)
      | (go_at_call 39; refine CN.mono ?_; rintro e w' ⟨rfl, rfl⟩)
      | (go_at_call 11; refine CR.mono ?_; rintro e w1 ⟨rfl, f1⟩))
    · exfalso; rename_i hcd; simp at hcd; omega
    have j1 := (hj.keep0 f1).keep0 (Fr.drew _)
    have d3 : w1.drew.cell? ⟨j, 3, none⟩ = some (.int .i64 J.epoch) := cellOf j1.out rfl
    have d4 : w1.drew.cell? ⟨j, 4, none⟩ = some (.int .i64 J.seq) := cellOf j1.out rfl
    have f1d := f1.trans (Fr.drew w1)
    refine wp_region_mid1 (C := fun X => X = w1.drew) 10 (by kernel_rfl) (by kernel_rfl) rfl rfl rfl ?_
    refine wpQuiet_move rfl _ rfl (v := .pointer (some ⟨j, 0, none⟩)) rfl ?_; simp only [Act.put, List.setIfInBounds_toArray, List.set_cons_succ, List.set_cons_zero]
    refine wpQuiet_nilCheck rfl _ rfl (ad := ⟨j, 0, none⟩) rfl ?_; simp only [Act.put, List.setIfInBounds_toArray, List.set_cons_succ, List.set_cons_zero]
    refine wpQuiet_field rfl _ _ _ rfl rfl (.pointer (some ⟨j, 3, none⟩)) (fun W => by kernel_rfl) ?_; simp only [Act.put, List.setIfInBounds_toArray, List.set_cons_succ, List.set_cons_zero]
    refine wpQuiet_load rfl _ _ rfl rfl _ Tryd.underlying3 rfl (fun X hX => by rw [hX]; exact d3) ?_; simp only [Act.put, List.setIfInBounds_toArray, List.set_cons_succ, List.set_cons_zero]
    refine wpQuiet_move rfl _ rfl (v := .pointer (some ⟨j, 0, none⟩)) rfl ?_; simp only [Act.put, List.setIfInBounds_toArray, List.set_cons_succ, List.set_cons_zero]
    refine wpQuiet_nilCheck rfl _ rfl (ad := ⟨j, 0, none⟩) rfl ?_; simp only [Act.put, List.setIfInBounds_toArray, List.set_cons_succ, List.set_cons_zero]
    refine wpQuiet_field rfl _ _ _ rfl rfl (.pointer (some ⟨j, 4, none⟩)) (fun W => by kernel_rfl) ?_; simp only [Act.put, List.setIfInBounds_toArray, List.set_cons_succ, List.set_cons_zero]
    refine wpQuiet_load rfl _ _ rfl rfl _ Tryd.underlying3 rfl (fun X hX => by rw [hX]; exact d4) ?_; simp only [Act.put, List.setIfInBounds_toArray, List.set_cons_succ, List.set_cons_zero]
    refine wpQuiet_val rfl (.int .i64 ((J.seq : Int) + 1)) (fun X hX => by rw [show ((J.seq : Int) + 1) = IntKind.i64.wrap ((J.seq : Int) + 1) by rw [IntKind.wrap_i64]; omega]; kernel_rfl) ?_; simp only [Act.put, List.setIfInBounds_toArray, List.set_cons_succ, List.set_cons_zero]
    refine wpQuiet_move rfl _ rfl (v := .slice ad b.length cap) rfl ?_; simp only [Act.put, List.setIfInBounds_toArray, List.set_cons_succ, List.set_cons_zero]
    refine wpQuiet_nil ?_
    rintro X rfl
    refine wp_call 40 #[.int .i64 J.epoch, .int .i64 ((J.seq : Int) + 1), .slice ad b.length cap] (by kernel_rfl) ?_
    refine (CL w1.drew f1d).mono ?_
    rintro e w2 ⟨u, rfl, hu, hug, f2⟩
    refine ⟨_, rfl, ?_⟩; simp only [Act.put, List.setIfInBounds_toArray, List.set_cons_succ, List.set_cons_zero]
    refine wpQuiet_move rfl _ rfl (v := .tuple #[u, .int .i64 0]) rfl ?_; simp only [Act.put, List.setIfInBounds_toArray, List.set_cons_succ, List.set_cons_zero]
    refine wpQuiet_val rfl u (fun X hX => by kernel_rfl) ?_; simp only [Act.put, List.setIfInBounds_toArray, List.set_cons_succ, List.set_cons_zero]
    refine wpQuiet_val rfl (.int .i64 0) (fun X hX => by kernel_rfl) ?_; simp only [Act.put, List.setIfInBounds_toArray, List.set_cons_succ, List.set_cons_zero]
    refine wpQuiet_assign rfl _ rfl (v := u) rfl ?_; simp only [Act.put, List.setIfInBounds_toArray, List.set_cons_succ, List.set_cons_zero]
    refine wpQuiet_assign rfl _ rfl (v := .int .i64 0) rfl ?_; simp only [Act.put, List.setIfInBounds_toArray, List.set_cons_succ, List.set_cons_zero]
    refine wpQuiet_nil ?_
    have j2 := j1.keep0 f2
    have f02 : Fr [] w w2.drew := (f1d.trans f2).trans (Fr.drew _)
    have j2d := hj.keep0 f02
    go_wp2
    refine wp_region_hoist [0, 1, 2, 3, 5, 6, 7, 10] (by kernel_rfl) (by kernel_rfl) (fun _ _ _ d _ h => by cases d <;> exact h) ?_
    simp only [takeO, List.map_cons, List.map_nil, List.getD_cons_zero, List.getD_cons_succ]
    refine wpPure_move rfl _ rfl (v := .pointer (some ⟨j, 0, none⟩)) rfl ?_; simp only [Act.put, List.setIfInBounds_toArray, List.set_cons_succ, List.set_cons_zero]
    refine wpPure_move rfl _ rfl (v := .pointer (some ⟨j, 0, none⟩)) rfl ?_; simp only [Act.put, List.setIfInBounds_toArray, List.set_cons_succ, List.set_cons_zero]
    refine wpPure_nilCheck rfl _ rfl (ad := ⟨j, 0, none⟩) rfl ?_; simp only [Act.put, List.setIfInBounds_toArray, List.set_cons_succ, List.set_cons_zero]
    refine wpPure_field rfl _ _ _ rfl rfl (.pointer (some ⟨j, 0, none⟩)) (fun W => by kernel_rfl) ?_; simp only [Act.put, List.setIfInBounds_toArray, List.set_cons_succ, List.set_cons_zero]
    refine wpPure_move rfl _ rfl (v := .pointer (some ⟨j, 0, none⟩)) rfl ?_; simp only [Act.put, List.setIfInBounds_toArray, List.set_cons_succ, List.set_cons_zero]
    refine wpPure_nilCheck rfl _ rfl (ad := ⟨j, 0, none⟩) rfl ?_; simp only [Act.put, List.setIfInBounds_toArray, List.set_cons_succ, List.set_cons_zero]
    refine wpPure_field rfl _ _ _ rfl rfl (.pointer (some ⟨j, 6, none⟩)) (fun W => by kernel_rfl) ?_; simp only [Act.put, List.setIfInBounds_toArray, List.set_cons_succ, List.set_cons_zero]
    refine wpPure_move rfl _ rfl (v := u) rfl ?_; simp only [Act.put, List.setIfInBounds_toArray, List.set_cons_succ, List.set_cons_zero]
    refine wpPure_nil ?_
    refine wpAny_two 4 8 rfl rfl (by kernel_rfl) (exec_loadA (n := 3) (v := loV (some ⟨p, 0, none⟩) J.slot J.log) rfl rfl Tryd.underlying60 rfl (by kernel_rfl) (by simp [jnL]) j2d.blk rfl) (exec_load rfl rfl Tryd.underlying3 rfl (cellOf j2d.out rfl)) ?_
    simp only [List.getD_cons_zero, List.getD_cons_succ]; simp only [Act.put, List.setIfInBounds_toArray, List.set_cons_succ, List.set_cons_zero]
    refine wpAny_forced [9, 11, 12, 13] _ _ _ _ (by kernel_rfl) ?_
    simp only [takeO, List.map_cons, List.map_nil, List.getD_cons_zero, List.getD_cons_succ]
    have CLo := wal_logs w2.drew (some ⟨p, 0, none⟩) J.slot J.log J.used (by omega) (by omega) (by omega)
    have hugw : ∀ g, u.ownBlock = some g → w.heap.size ≤ g := fun g hg => by have := hug g hg; have := f1d.size; omega
    have CWX := fun X (hX : Fr [] w2.drew X) => CW X u (f02.trans hX) ((hu.keep0 (Fr.drew _)).keep0 hX) hugw
    go_wp2_with (first
      | (go_at_call 34; refine CLo.mono ?_; rintro e wx ⟨rfl, fx⟩)
      | (go_at_call 30; refine (CWX wx fx).mono ?_; rintro e w3 ⟨rfl, h3, f3⟩; have j3 := (j2d.keep0 fx).keep f3 (by simp; omega); have CT := wal_tried j3 _ hxb)
      | (go_at_call 37; refine CT.mono ?_; rintro e w4 ⟨rfl, j4, f4⟩; have k4 : w4.cell? ⟨j, 4, none⟩ = some (.int .i64 J.seq) := cellOf j4.out rfl
         have z4 : w4.frozen? ⟨j, 4, none⟩ = false := freeOf j4.out
         have k6 : w4.cell? ⟨j, 6, none⟩ = some (.int .i64 J.used) := cellOf j4.out rfl
         have z6 : w4.frozen? ⟨j, 6, none⟩ = false := freeOf j4.out))
    go_ret
    have hug4 : Fr [p, m, j] w w4 := (((f02.trans fx).mono (by simp)).trans (f3.mono (by simp))).trans (f4.mono (by simp))
    have j4' : JnAt w4 j p { J with refused := false } := by simpa using j4
    have g4 : Fr [j] w4 ((w4.setCell ⟨j, 4, none⟩ (.int .i64 ((J.seq : Int) + 1))).setCell ⟨j, 6, none⟩ (.int .i64 ((J.used : Int) + n))) := (Fr.cell _ _ _ _).trans (Fr.cell _ _ _ _)
    refine ⟨rfl, (h3.keep f4 (by simp; omega) (by simp; omega) (by simp; omega)).keep g4 (by simp; omega) (by simp; omega) (by simp; omega), (j4'.set4 (J.seq + 1)).set6 (J.used + n), hug4.trans (g4.mono (by simp))⟩
  · rw [HE.out, if_pos hx0]
    clear HE
    go_enter Tryd.func13, Tryd.ntmps13
    go_wp2_with (first
      | (go_at_call 38; refine CO.mono ?_; rintro e w' ⟨rfl, rfl⟩)
      | (go_at_call 39; refine CN.mono ?_; rintro e w' ⟨rfl, rfl⟩)
      | (go_at_call 11; refine CR.mono ?_; rintro e w1 ⟨rfl, f1⟩))
    · exfalso; rename_i hcd; simp at hcd; omega
    have j1 := (hj.keep0 f1).keep0 (Fr.drew _)
    have d3 : w1.drew.cell? ⟨j, 3, none⟩ = some (.int .i64 J.epoch) := cellOf j1.out rfl
    have d4 : w1.drew.cell? ⟨j, 4, none⟩ = some (.int .i64 J.seq) := cellOf j1.out rfl
    have f1d := f1.trans (Fr.drew w1)
    refine wp_region_mid1 (C := fun X => X = w1.drew) 10 (by kernel_rfl) (by kernel_rfl) rfl rfl rfl ?_
    refine wpQuiet_move rfl _ rfl (v := .pointer (some ⟨j, 0, none⟩)) rfl ?_; simp only [Act.put, List.setIfInBounds_toArray, List.set_cons_succ, List.set_cons_zero]
    refine wpQuiet_nilCheck rfl _ rfl (ad := ⟨j, 0, none⟩) rfl ?_; simp only [Act.put, List.setIfInBounds_toArray, List.set_cons_succ, List.set_cons_zero]
    refine wpQuiet_field rfl _ _ _ rfl rfl (.pointer (some ⟨j, 3, none⟩)) (fun W => by kernel_rfl) ?_; simp only [Act.put, List.setIfInBounds_toArray, List.set_cons_succ, List.set_cons_zero]
    refine wpQuiet_load rfl _ _ rfl rfl _ Tryd.underlying3 rfl (fun X hX => by rw [hX]; exact d3) ?_; simp only [Act.put, List.setIfInBounds_toArray, List.set_cons_succ, List.set_cons_zero]
    refine wpQuiet_move rfl _ rfl (v := .pointer (some ⟨j, 0, none⟩)) rfl ?_; simp only [Act.put, List.setIfInBounds_toArray, List.set_cons_succ, List.set_cons_zero]
    refine wpQuiet_nilCheck rfl _ rfl (ad := ⟨j, 0, none⟩) rfl ?_; simp only [Act.put, List.setIfInBounds_toArray, List.set_cons_succ, List.set_cons_zero]
    refine wpQuiet_field rfl _ _ _ rfl rfl (.pointer (some ⟨j, 4, none⟩)) (fun W => by kernel_rfl) ?_; simp only [Act.put, List.setIfInBounds_toArray, List.set_cons_succ, List.set_cons_zero]
    refine wpQuiet_load rfl _ _ rfl rfl _ Tryd.underlying3 rfl (fun X hX => by rw [hX]; exact d4) ?_; simp only [Act.put, List.setIfInBounds_toArray, List.set_cons_succ, List.set_cons_zero]
    refine wpQuiet_val rfl (.int .i64 ((J.seq : Int) + 1)) (fun X hX => by rw [show ((J.seq : Int) + 1) = IntKind.i64.wrap ((J.seq : Int) + 1) by rw [IntKind.wrap_i64]; omega]; kernel_rfl) ?_; simp only [Act.put, List.setIfInBounds_toArray, List.set_cons_succ, List.set_cons_zero]
    refine wpQuiet_move rfl _ rfl (v := .slice ad b.length cap) rfl ?_; simp only [Act.put, List.setIfInBounds_toArray, List.set_cons_succ, List.set_cons_zero]
    refine wpQuiet_nil ?_
    rintro X rfl
    refine wp_call 40 #[.int .i64 J.epoch, .int .i64 ((J.seq : Int) + 1), .slice ad b.length cap] (by kernel_rfl) ?_
    refine (CL w1.drew f1d).mono ?_
    rintro e w2 ⟨u, rfl, hu, hug, f2⟩
    refine ⟨_, rfl, ?_⟩; simp only [Act.put, List.setIfInBounds_toArray, List.set_cons_succ, List.set_cons_zero]
    refine wpQuiet_move rfl _ rfl (v := .tuple #[u, .int .i64 0]) rfl ?_; simp only [Act.put, List.setIfInBounds_toArray, List.set_cons_succ, List.set_cons_zero]
    refine wpQuiet_val rfl u (fun X hX => by kernel_rfl) ?_; simp only [Act.put, List.setIfInBounds_toArray, List.set_cons_succ, List.set_cons_zero]
    refine wpQuiet_val rfl (.int .i64 0) (fun X hX => by kernel_rfl) ?_; simp only [Act.put, List.setIfInBounds_toArray, List.set_cons_succ, List.set_cons_zero]
    refine wpQuiet_assign rfl _ rfl (v := u) rfl ?_; simp only [Act.put, List.setIfInBounds_toArray, List.set_cons_succ, List.set_cons_zero]
    refine wpQuiet_assign rfl _ rfl (v := .int .i64 0) rfl ?_; simp only [Act.put, List.setIfInBounds_toArray, List.set_cons_succ, List.set_cons_zero]
    refine wpQuiet_nil ?_
    have j2 := j1.keep0 f2
    have f02 : Fr [] w w2.drew := (f1d.trans f2).trans (Fr.drew _)
    have j2d := hj.keep0 f02
    go_wp2
    refine wp_region_hoist [0, 1, 2, 3, 5, 6, 7, 10] (by kernel_rfl) (by kernel_rfl) (fun _ _ _ d _ h => by cases d <;> exact h) ?_
    simp only [takeO, List.map_cons, List.map_nil, List.getD_cons_zero, List.getD_cons_succ]
    refine wpPure_move rfl _ rfl (v := .pointer (some ⟨j, 0, none⟩)) rfl ?_; simp only [Act.put, List.setIfInBounds_toArray, List.set_cons_succ, List.set_cons_zero]
    refine wpPure_move rfl _ rfl (v := .pointer (some ⟨j, 0, none⟩)) rfl ?_; simp only [Act.put, List.setIfInBounds_toArray, List.set_cons_succ, List.set_cons_zero]
    refine wpPure_nilCheck rfl _ rfl (ad := ⟨j, 0, none⟩) rfl ?_; simp only [Act.put, List.setIfInBounds_toArray, List.set_cons_succ, List.set_cons_zero]
    refine wpPure_field rfl _ _ _ rfl rfl (.pointer (some ⟨j, 0, none⟩)) (fun W => by kernel_rfl) ?_; simp only [Act.put, List.setIfInBounds_toArray, List.set_cons_succ, List.set_cons_zero]
    refine wpPure_move rfl _ rfl (v := .pointer (some ⟨j, 0, none⟩)) rfl ?_; simp only [Act.put, List.setIfInBounds_toArray, List.set_cons_succ, List.set_cons_zero]
    refine wpPure_nilCheck rfl _ rfl (ad := ⟨j, 0, none⟩) rfl ?_; simp only [Act.put, List.setIfInBounds_toArray, List.set_cons_succ, List.set_cons_zero]
    refine wpPure_field rfl _ _ _ rfl rfl (.pointer (some ⟨j, 6, none⟩)) (fun W => by kernel_rfl) ?_; simp only [Act.put, List.setIfInBounds_toArray, List.set_cons_succ, List.set_cons_zero]
    refine wpPure_move rfl _ rfl (v := u) rfl ?_; simp only [Act.put, List.setIfInBounds_toArray, List.set_cons_succ, List.set_cons_zero]
    refine wpPure_nil ?_
    refine wpAny_two 4 8 rfl rfl (by kernel_rfl) (exec_loadA (n := 3) (v := loV (some ⟨p, 0, none⟩) J.slot J.log) rfl rfl Tryd.underlying60 rfl (by kernel_rfl) (by simp [jnL]) j2d.blk rfl) (exec_load rfl rfl Tryd.underlying3 rfl (cellOf j2d.out rfl)) ?_
    simp only [List.getD_cons_zero, List.getD_cons_succ]; simp only [Act.put, List.setIfInBounds_toArray, List.set_cons_succ, List.set_cons_zero]
    refine wpAny_forced [9, 11, 12, 13] _ _ _ _ (by kernel_rfl) ?_
    simp only [takeO, List.map_cons, List.map_nil, List.getD_cons_zero, List.getD_cons_succ]
    have CLo := wal_logs w2.drew (some ⟨p, 0, none⟩) J.slot J.log J.used (by omega) (by omega) (by omega)
    have hugw : ∀ g, u.ownBlock = some g → w.heap.size ≤ g := fun g hg => by have := hug g hg; have := f1d.size; omega
    have CWX := fun X (hX : Fr [] w2.drew X) => CW X u (f02.trans hX) ((hu.keep0 (Fr.drew _)).keep0 hX) hugw
    go_wp2_with (first
      | (go_at_call 34; refine CLo.mono ?_; rintro e wx ⟨rfl, fx⟩)
      | (go_at_call 30; refine (CWX wx fx).mono ?_; rintro e w3 ⟨rfl, h3, f3⟩; have j3 := (j2d.keep0 fx).keep f3 (by simp; omega); have CT := wal_tried j3 _ hxb)
      | (go_at_call 37; refine CT.mono ?_; rintro e w4 ⟨rfl, j4, f4⟩; have k4 : w4.cell? ⟨j, 4, none⟩ = some (.int .i64 J.seq) := cellOf j4.out rfl
         have z4 : w4.frozen? ⟨j, 4, none⟩ = false := freeOf j4.out
         have k6 : w4.cell? ⟨j, 6, none⟩ = some (.int .i64 J.used) := cellOf j4.out rfl
         have z6 : w4.frozen? ⟨j, 6, none⟩ = false := freeOf j4.out))
    go_ret
    have hug4 : Fr [p, m, j] w w4 := (((f02.trans fx).mono (by simp)).trans (f3.mono (by simp))).trans (f4.mono (by simp))
    have j4' : JnAt w4 j p { J with refused := true } := by simpa [hx0] using j4
    exact ⟨rfl, h3.keep f4 (by simp; omega) (by simp; omega) (by simp; omega), j4', hug4⟩

theorem wal_Append (h : DiskAt w p s m D) (hj : JnAt w j p J) (hn : j ≠ p ∧ j ≠ s ∧ j ≠ m) (ok : J.ok D) (hv : BS w v b) (hb : b.length < 4611686018427387904) :
    Calls Tryd.prog 13 #[.pointer (some ⟨j, 0, none⟩), v] w (Appended p s m j D J b w) := by
  by_cases h1 : J.refused = true ∨ J.fresh = false
  · exact wal_Append_a h hj h1
  · have hr : J.refused = false := by cases hr : J.refused <;> simp_all
    have hf : J.fresh = true := by cases hf : J.fresh <;> simp_all
    by_cases h2 : 65535 < b.length
    · exact wal_Append_b h hj hr hf hv hb h2
    · by_cases h3 : J.seq = 4294967295
      · exact wal_Append_c h hj hr hf hv (by omega) h3
      · have := ok.seq
        by_cases h4 : J.log < J.used + cnt b.length
        · exact wal_Append_d h hj ok hr hf hv (by omega) (by omega) h4
        · exact wal_Append_e h hj hn ok hr hf hv (by omega) (by omega) (by omega)
end
end Gd
