/- wal: Checkpoint. -/
import Derived.Test.YtccgpblecgapaaaDoorApp
set_option linter.unusedSimpArgs false
set_option linter.unusedVariables false
namespace Gd
open Go Go.Proofs Go.RowKit
section
variable {w : World} {p s m j : Nat} {D : Dk} {J : Jn} {v : Value} {b : Bytes}
def Ckpt (p s m j : Nat) (D : Dk) (J : Jn) (b : Bytes) (w : World) (e : Ending) (w' : World) : Prop :=
  e = .returned (.int .i64 (J.checkpoint D b).2.2) ∧ DiskAt w' p s m (J.checkpoint D b).1 ∧ JnAt w' j p (J.checkpoint D b).2.1 ∧ Fr [p, s, m, j] w w'

theorem put_err (D : Dk) (a : Nat) (b : Bytes) : -9223372036854775808 ≤ (D.put a b).2 ∧ (D.put a b).2 < 9223372036854775808 := by
  have := lays_err ((List.range (b.length / 32)).map (pc 32 b)) D a
  unfold Dk.put
  omega

set_option maxHeartbeats 1000000 in
theorem wal_Checkpoint_a (h : DiskAt w p s m D) (hj : JnAt w j p J) (hr : J.refused = true) :
    Calls Tryd.prog 10 #[.pointer (some ⟨j, 0, none⟩), v] w (Ckpt p s m j D J b w) := by
  have CO := wal_ready hj
  have HE : Hid (J.checkpoint D b = (D, J, 10)) := by rw [Hid]; unfold Jn.checkpoint; rw [hr]; rfl
  rw [hr] at CO
  simp only [if_true] at CO
  unfold Ckpt
  rw [HE.out]
  clear hr
  go_enter Tryd.func10, Tryd.ntmps10
  go_wp2_with (go_at_call 35; refine CO.mono ?_; rintro e w' ⟨rfl, rfl⟩)
  go_ret
  exact ⟨rfl, h, hj, Fr.refl _ _⟩

theorem JnAt.set3 {w : World} {j p : Nat} {J : Jn} (h : JnAt w j p J) (n : Nat) : JnAt (w.setCell ⟨j, 3, none⟩ (.int .i64 n)) j p { J with epoch := n } := ⟨heap_setCell_same w j 3 _ _ (.int .i64 n) h.out⟩
theorem JnAt.set5 {w : World} {j p : Nat} {J : Jn} (h : JnAt w j p J) (n : Nat) : JnAt (w.setCell ⟨j, 5, none⟩ (.int .i64 n)) j p { J with at_ := n } := ⟨heap_setCell_same w j 5 _ _ (.int .i64 n) h.out⟩
theorem JnAt.set7 {w : World} {j p : Nat} {J : Jn} (h : JnAt w j p J) (x : Bool) : JnAt (w.setCell ⟨j, 7, none⟩ (.bool x)) j p { J with fresh := x } := ⟨heap_setCell_same w j 7 _ _ (.bool x) h.out⟩

theorem fits_int (slot e : Nat) (b : Bytes) : fits slot e b = 0 ∨ fits slot e b = 2 ∨ fits slot e b = 5 := by
  unfold fits; split
  · simp
  · split <;> simp

set_option maxRecDepth 100000 in
set_option maxHeartbeats 2000000 in
/-- up to the record -/
theorem wal_Checkpoint_b (h : DiskAt w p s m D) (hj : JnAt w j p J) (ok : J.ok D) (hr : J.refused = false) (hv : BS w v b) (hb : b.length < 4611686018427387904) (hf : fits J.slot (D.top (2 * J.slot + J.log) + 1) b ≠ 0) :
    Calls Tryd.prog 10 #[.pointer (some ⟨j, 0, none⟩), v] w (Ckpt p s m j D J b w) := by
  have CO := wal_ready hj
  have hD := h.ok.len
  have hlay := ok.lay
  obtain ⟨x, hx⟩ : ∃ x, x = fits J.slot (D.top (2 * J.slot + J.log) + 1) b := ⟨_, rfl⟩
  have HE : Hid (J.checkpoint D b = (D, J, x)) := by
    rw [Hid]; unfold Jn.checkpoint; rw [hr, if_neg (by decide), if_pos hf, hx]
  have CT := wal_top h J.slot J.log (by have := ok.slot; omega) (by omega)
  obtain ⟨T, hT⟩ : ∃ T, T = D.top (2 * J.slot + J.log) := ⟨_, rfl⟩
  have hT1 : T < 4294967296 := by rw [hT]; exact topB_lt _ _
  rw [← hT] at CT hx
  have hsl : J.slot ≤ 4096 := by omega
  have hsq := ok.seq
  have CRec : ∀ W, Fr [] w W → Calls Tryd.prog 28 #[loV (some ⟨p, 0, none⟩) J.slot J.log, .int .i64 ((T : Int) + 1), .int .i64 J.seq, v] W fun e w' => Fr [] W w' ∧ e = .returned (.tuple #[.slice none 0 0, .int .i64 x]) := fun W hW => by
    have h1 := wal_record (hv.keep0 hW) (some ⟨p, 0, none⟩) J.slot J.log (T + 1) J.seq hsl hb (by omega) hsq
    refine h1.mono ?_
    rintro e w' ⟨f1, h2⟩
    refine ⟨f1, ?_⟩
    unfold fits at hx hf
    rw [← hT] at hf
    by_cases c1 : 65535 < b.length ∨ 4294967295 < T + 1
    · rw [if_pos c1] at h2 hx; rw [hx]; exact h2
    · rw [if_neg c1] at h2 hx hf
      by_cases c2 : J.slot < cnt b.length
      · rw [if_pos c2] at h2 hx; rw [hx]; exact h2
      · rw [if_neg c2] at hf; exact absurd rfl hf
  have hx0 : x ≠ 0 := by rw [hx, hT]; exact hf
  rw [hr] at CO
  simp only [Bool.false_eq_true, if_false] at CO
  unfold Ckpt
  rw [HE.out]
  clear hr hf hx hT
  have c0 : w.cell? ⟨j, 0, none⟩ = some (.pointer (some ⟨p, 0, none⟩)) := cellOf hj.out rfl
  have c1 : w.cell? ⟨j, 1, none⟩ = some (.int .i64 J.slot) := cellOf hj.out rfl
  have c2 : w.cell? ⟨j, 2, none⟩ = some (.int .i64 J.log) := cellOf hj.out rfl
  go_enter Tryd.func10, Tryd.ntmps10
  go_wp2_with (first
    | (go_at_call 35; refine CO.mono ?_; rintro e w' ⟨rfl, rfl⟩)
    | (go_at_call 36; refine CT.mono ?_; rintro e w1 ⟨rfl, f1⟩))
  have f1d := f1.trans (Fr.drew w1)
  have j1 := hj.keep0 f1d
  refine wp_region_mid1 (C := fun X => X = w1.drew) 10 (by kernel_rfl) (by kernel_rfl) rfl rfl rfl ?_
  refine wpQuiet_move rfl _ rfl (v := .pointer (some ⟨j, 0, none⟩)) rfl ?_; simp only [Act.put, List.setIfInBounds_toArray, List.set_cons_succ, List.set_cons_zero]
  refine wpQuiet_nilCheck rfl _ rfl (ad := ⟨j, 0, none⟩) rfl ?_; simp only [Act.put, List.setIfInBounds_toArray, List.set_cons_succ, List.set_cons_zero]
  refine wpQuiet_field rfl _ _ _ rfl rfl (.pointer (some ⟨j, 0, none⟩)) (fun W => by kernel_rfl) ?_; simp only [Act.put, List.setIfInBounds_toArray, List.set_cons_succ, List.set_cons_zero]
  refine wpQuiet_loadA rfl _ _ rfl 3 rfl (loV (some ⟨p, 0, none⟩) J.slot J.log) Tryd.underlying60 rfl (by kernel_rfl) (cs := (jnL ⟨p, 0, none⟩ J).toArray) (by simp [jnL]) (fun X hX => by rw [hX]; exact j1.blk) rfl ?_; simp only [Act.put, List.setIfInBounds_toArray, List.set_cons_succ, List.set_cons_zero]
  refine wpQuiet_move rfl _ rfl (v := .int .i64 ((T : Int) + 1)) rfl ?_; simp only [Act.put, List.setIfInBounds_toArray, List.set_cons_succ, List.set_cons_zero]
  refine wpQuiet_move rfl _ rfl (v := .pointer (some ⟨j, 0, none⟩)) rfl ?_; simp only [Act.put, List.setIfInBounds_toArray, List.set_cons_succ, List.set_cons_zero]
  refine wpQuiet_nilCheck rfl _ rfl (ad := ⟨j, 0, none⟩) rfl ?_; simp only [Act.put, List.setIfInBounds_toArray, List.set_cons_succ, List.set_cons_zero]
  refine wpQuiet_field rfl _ _ _ rfl rfl (.pointer (some ⟨j, 4, none⟩)) (fun W => by kernel_rfl) ?_; simp only [Act.put, List.setIfInBounds_toArray, List.set_cons_succ, List.set_cons_zero]
  refine wpQuiet_load rfl _ _ rfl rfl (.int .i64 J.seq) Tryd.underlying3 rfl (fun X hX => by rw [hX]; exact cellOf j1.out rfl) ?_; simp only [Act.put, List.setIfInBounds_toArray, List.set_cons_succ, List.set_cons_zero]
  refine wpQuiet_move rfl _ rfl (v := v) rfl ?_; simp only [Act.put, List.setIfInBounds_toArray, List.set_cons_succ, List.set_cons_zero]
  refine wpQuiet_nil ?_
  rintro X rfl
  refine wp_call 28 #[loV (some ⟨p, 0, none⟩) J.slot J.log, .int .i64 ((T : Int) + 1), .int .i64 J.seq, v] (by kernel_rfl) ?_
  refine (CRec w1.drew f1d).mono ?_
  rintro e w2 ⟨f2, rfl⟩
  refine ⟨_, rfl, ?_⟩; simp only [Act.put, List.setIfInBounds_toArray, List.set_cons_succ, List.set_cons_zero]
  refine wpQuiet_move rfl _ rfl (v := .tuple #[.slice none 0 0, .int .i64 x]) rfl ?_; simp only [Act.put, List.setIfInBounds_toArray, List.set_cons_succ, List.set_cons_zero]
  refine wpQuiet_val rfl (.slice none 0 0) (fun X hX => by kernel_rfl) ?_; simp only [Act.put, List.setIfInBounds_toArray, List.set_cons_succ, List.set_cons_zero]
  refine wpQuiet_val rfl (.int .i64 x) (fun X hX => by kernel_rfl) ?_; simp only [Act.put, List.setIfInBounds_toArray, List.set_cons_succ, List.set_cons_zero]
  refine wpQuiet_assign rfl _ rfl (v := .slice none 0 0) rfl ?_; simp only [Act.put, List.setIfInBounds_toArray, List.set_cons_succ, List.set_cons_zero]
  refine wpQuiet_assign rfl _ rfl (v := .int .i64 x) rfl ?_; simp only [Act.put, List.setIfInBounds_toArray, List.set_cons_succ, List.set_cons_zero]
  refine wpQuiet_nil ?_
  go_wp2
  go_ret
  have f02 := f1d.trans f2
  exact ⟨rfl, h.keep0 f02, hj.keep0 f02, f02.mono (by simp)⟩

set_option maxRecDepth 100000 in
set_option maxHeartbeats 2000000 in
theorem wal_Checkpoint_c (h : DiskAt w p s m D) (hj : JnAt w j p J) (hn : j ≠ p ∧ j ≠ s ∧ j ≠ m) (ok : J.ok D) (hr : J.refused = false) (hv : BS w v b) (hb : b.length < 4611686018427387904) (hf : fits J.slot (D.top (2 * J.slot + J.log) + 1) b = 0) :
    Calls Tryd.prog 10 #[.pointer (some ⟨j, 0, none⟩), v] w (Ckpt p s m j D J b w) := by
  have CO := wal_ready hj
  have hD := h.ok.len
  have hlay := ok.lay
  have hat := ok.at_
  have CT := wal_top h J.slot J.log (by have := ok.slot; omega) (by omega)
  obtain ⟨T, hT⟩ : ∃ T, T = D.top (2 * J.slot + J.log) := ⟨_, rfl⟩
  rw [← hT] at CT hf
  obtain ⟨R, hR⟩ : ∃ R, R = lay (T + 1) J.seq b := ⟨_, rfl⟩
  obtain ⟨⟨D1, x⟩, hx⟩ : ∃ r, r = D.put ((1 - J.at_) * J.slot) R := ⟨_, rfl⟩
  obtain ⟨⟨D2, y⟩, hy⟩ : ∃ r, r = D1.flush := ⟨_, rfl⟩
  have HE : Hid (J.checkpoint D b = if x ≠ 0 then (D1, { J with refused := true }, x) else if y ≠ 0 then (D2, { J with refused := true }, y) else (D2, { J with epoch := T + 1, at_ := 1 - J.at_, used := 0, fresh := true, refused := false }, 0)) := by
    rw [Hid]; unfold Jn.checkpoint; rw [hr, if_neg (by decide), ← hT, if_neg (by rw [hf]; simp), ← hR, ← hx]; simp only [← hy]
  have hf' := hf
  unfold fits at hf'
  have hc1 : ¬ (65535 < b.length ∨ 4294967295 < T + 1) := fun hc => by rw [if_pos hc] at hf'; cases hf'
  have hc2 : ¬ (J.slot < cnt b.length) := fun hc => by rw [if_neg hc1, if_pos hc] at hf'; cases hf'
  have hsl : J.slot ≤ 4096 := by omega
  have hsq := ok.seq
  have CRec : ∀ W, Fr [] w W → Calls Tryd.prog 28 #[loV (some ⟨p, 0, none⟩) J.slot J.log, .int .i64 ((T : Int) + 1), .int .i64 J.seq, v] W fun e w' => Fr [] W w' ∧ ∃ u, e = .returned (.tuple #[u, .int .i64 0]) ∧ BS w' u R ∧ ∀ g, u.ownBlock = some g → W.heap.size ≤ g := fun W hW => by
    have h1 := wal_record (hv.keep0 hW) (some ⟨p, 0, none⟩) J.slot J.log (T + 1) J.seq hsl hb (by omega) hsq
    refine h1.mono ?_
    rintro e w' ⟨f1, h2⟩
    rw [if_neg hc1, if_neg hc2, ← hR] at h2
    exact ⟨f1, h2⟩
  obtain ⟨n, hn1, hn2⟩ : ∃ n, n = cnt b.length ∧ n ≤ 4096 := ⟨_, rfl, by unfold cnt; omega⟩
  have hRl : R.length = 32 * n := by rw [hR, length_lay, hn1]
  have hn0 : 0 < n := by rw [hn1]; unfold cnt; omega
  rw [← hn1] at hc2
  obtain ⟨at', hat'⟩ : ∃ a : Nat, a = 1 - J.at_ := ⟨_, rfl⟩
  have hat1 : at' ≤ 1 := by omega
  have hati : (1 : Int) - J.at_ = at' := by omega
  have hslot : at' * J.slot + J.slot ≤ 2 * J.slot := by
    rcases (by omega : at' = 0 ∨ at' = 1) with h | h <;> rw [h] <;> omega
  rw [← hat'] at hx HE
  obtain ⟨n1, n2, n3⟩ := hn
  obtain ⟨lp, ls, lm⟩ := h.lt
  have hsz : D1.sure.length = D.sure.length := by have := congrArg (fun r => r.1.sure) hx; simp only at this; rw [this]; unfold Dk.put; rw [lays_sure]
  have CW : ∀ W u, Fr [] w W → BS W u R → (∀ g, u.ownBlock = some g → w.heap.size ≤ g) → Calls Tryd.prog 30 #[exV (some ⟨p, 0, none⟩) (at' * J.slot : Nat) ((at' + 1) * J.slot : Nat), u] W fun e w' => e = .returned (.int .i64 x) ∧ DiskAt w' p s m D1 ∧ Fr [p, m] W w' := fun W u hW hu hg => by
    have e2 : (at' + 1) * J.slot = at' * J.slot + J.slot := by rw [Nat.add_mul]; omega
    have := extent_put (h.keep0 hW) (at' * J.slot) ((at' + 1) * J.slot) n hu hRl hn0 (by omega) (fun g hg' => by have := hg g hg'; omega) (by omega)
    rw [← hx] at this
    exact this
  have CF : ∀ W, DiskAt W p s m D1 → Calls Tryd.prog 31 #[.pointer (some ⟨p, 0, none⟩)] W fun e w' => e = .returned (.int .i64 y) ∧ DiskAt w' p s m D2 ∧ Fr [p, s, m] W w' := fun W hW => by
    have := disk_Flush hW
    rw [← hy] at this
    exact this
  have hxb : -9223372036854775808 ≤ x ∧ x < 9223372036854775808 := by have := put_err D (at' * J.slot) R; rw [← hx] at this; exact this
  have hyb : -9223372036854775808 ≤ y ∧ y < 9223372036854775808 := by have := flush_err D1; rw [← hy] at this; simp only at this; omega
  have hjl := hj.lt
  have hT1 : T < 4294967295 := by omega
  rw [hr] at CO
  simp only [Bool.false_eq_true, if_false] at CO
  have HAT := Lib.hid hati
  unfold Ckpt
  rw [HE.out]
  clear hr hf hf' hT hRl hx hy hR hn1 hat' hati hc1 HE
  have c0 : w.cell? ⟨j, 0, none⟩ = some (.pointer (some ⟨p, 0, none⟩)) := cellOf hj.out rfl
  have c1 : w.cell? ⟨j, 1, none⟩ = some (.int .i64 J.slot) := cellOf hj.out rfl
  have c2 : w.cell? ⟨j, 2, none⟩ = some (.int .i64 J.log) := cellOf hj.out rfl
  by_cases hx0 : x = 0
  · by_cases hy0 : y = 0
    · subst hx0
      subst hy0
      rw [if_neg (by simp), if_neg (by simp)]
      go_enter Tryd.func10, Tryd.ntmps10
      go_wp2_with (first
        | (go_at_call 35; refine CO.mono ?_; rintro e w' ⟨rfl, rfl⟩)
        | (go_at_call 36; refine CT.mono ?_; rintro e w1 ⟨rfl, f1⟩))
      have f1d := f1.trans (Fr.drew w1)
      have j1 := hj.keep0 f1d
      refine wp_region_mid1 (C := fun X => X = w1.drew) 10 (by kernel_rfl) (by kernel_rfl) rfl rfl rfl ?_
      refine wpQuiet_move rfl _ rfl (v := .pointer (some ⟨j, 0, none⟩)) rfl ?_; simp only [Act.put, List.setIfInBounds_toArray, List.set_cons_succ, List.set_cons_zero]
      refine wpQuiet_nilCheck rfl _ rfl (ad := ⟨j, 0, none⟩) rfl ?_; simp only [Act.put, List.setIfInBounds_toArray, List.set_cons_succ, List.set_cons_zero]
      refine wpQuiet_field rfl _ _ _ rfl rfl (.pointer (some ⟨j, 0, none⟩)) (fun W => by kernel_rfl) ?_; simp only [Act.put, List.setIfInBounds_toArray, List.set_cons_succ, List.set_cons_zero]
      refine wpQuiet_loadA rfl _ _ rfl 3 rfl (loV (some ⟨p, 0, none⟩) J.slot J.log) Tryd.underlying60 rfl (by kernel_rfl) (cs := (jnL ⟨p, 0, none⟩ J).toArray) (by simp [jnL]) (fun X hX => by rw [hX]; exact j1.blk) rfl ?_; simp only [Act.put, List.setIfInBounds_toArray, List.set_cons_succ, List.set_cons_zero]
      refine wpQuiet_move rfl _ rfl (v := .int .i64 ((T : Int) + 1)) rfl ?_; simp only [Act.put, List.setIfInBounds_toArray, List.set_cons_succ, List.set_cons_zero]
      refine wpQuiet_move rfl _ rfl (v := .pointer (some ⟨j, 0, none⟩)) rfl ?_; simp only [Act.put, List.setIfInBounds_toArray, List.set_cons_succ, List.set_cons_zero]
      refine wpQuiet_nilCheck rfl _ rfl (ad := ⟨j, 0, none⟩) rfl ?_; simp only [Act.put, List.setIfInBounds_toArray, List.set_cons_succ, List.set_cons_zero]
      refine wpQuiet_field rfl _ _ _ rfl rfl (.pointer (some ⟨j, 4, none⟩)) (fun W => by kernel_rfl) ?_; simp only [Act.put, List.setIfInBounds_toArray, List.set_cons_succ, List.set_cons_zero]
      refine wpQuiet_load rfl _ _ rfl rfl (.int .i64 J.seq) Tryd.underlying3 rfl (fun X hX => by rw [hX]; exact cellOf j1.out rfl) ?_; simp only [Act.put, List.setIfInBounds_toArray, List.set_cons_succ, List.set_cons_zero]
      refine wpQuiet_move rfl _ rfl (v := v) rfl ?_; simp only [Act.put, List.setIfInBounds_toArray, List.set_cons_succ, List.set_cons_zero]
      refine wpQuiet_nil ?_
      rintro X rfl
      refine wp_call 28 #[loV (some ⟨p, 0, none⟩) J.slot J.log, .int .i64 ((T : Int) + 1), .int .i64 J.seq, v] (by kernel_rfl) ?_
      refine (CRec w1.drew f1d).mono ?_
      rintro e w2 ⟨f2, u, rfl, hu, hug⟩
      refine ⟨_, rfl, ?_⟩; simp only [Act.put, List.setIfInBounds_toArray, List.set_cons_succ, List.set_cons_zero]
      refine wpQuiet_move rfl _ rfl (v := .tuple #[u, .int .i64 0]) rfl ?_; simp only [Act.put, List.setIfInBounds_toArray, List.set_cons_succ, List.set_cons_zero]
      refine wpQuiet_val rfl u (fun X hX => by kernel_rfl) ?_; simp only [Act.put, List.setIfInBounds_toArray, List.set_cons_succ, List.set_cons_zero]
      refine wpQuiet_val rfl (.int .i64 0) (fun X hX => by kernel_rfl) ?_; simp only [Act.put, List.setIfInBounds_toArray, List.set_cons_succ, List.set_cons_zero]
      refine wpQuiet_assign rfl _ rfl (v := u) rfl ?_; simp only [Act.put, List.setIfInBounds_toArray, List.set_cons_succ, List.set_cons_zero]
      refine wpQuiet_assign rfl _ rfl (v := .int .i64 0) rfl ?_; simp only [Act.put, List.setIfInBounds_toArray, List.set_cons_succ, List.set_cons_zero]
      refine wpQuiet_nil ?_
      have f02 := f1d.trans f2
      have j2 := hj.keep0 f02
      have k0 : w2.cell? ⟨j, 0, none⟩ = some (.pointer (some ⟨p, 0, none⟩)) := cellOf j2.out rfl
      have k1 : w2.cell? ⟨j, 1, none⟩ = some (.int .i64 J.slot) := cellOf j2.out rfl
      have k2 : w2.cell? ⟨j, 2, none⟩ = some (.int .i64 J.log) := cellOf j2.out rfl
      have k5 : w2.cell? ⟨j, 5, none⟩ = some (.int .i64 J.at_) := cellOf j2.out rfl
      have hugw : ∀ g, u.ownBlock = some g → w.heap.size ≤ g := fun g hg => by have := hug g hg; have := f1d.size; omega
      have CPl := wal_place w2 (some ⟨p, 0, none⟩) J.slot J.log at' hsl hat1
      go_wp2_with (first
        | (go_at_call 29; rw [HAT.out]; refine CPl.mono ?_; rintro e w3 ⟨rfl, f3⟩)
        | (go_at_call 30; refine (CW w3 u (f02.trans f3) (hu.keep0 f3) hugw).mono ?_; rintro e w4 ⟨rfl, h4, f4⟩; have j4 := (j2.keep0 f3).keep f4 (by simp; omega); have CT1 := wal_tried j4 _ hxb)
        | (go_at_call 37; refine CT2.mono ?_; rintro e w7 ⟨rfl, j7, f7⟩
           have z3 : w7.frozen? ⟨j, 3, none⟩ = false := freeOf j7.out
           have z5 : w7.frozen? ⟨j, 5, none⟩ = false := freeOf j7.out
           have z6 : w7.frozen? ⟨j, 6, none⟩ = false := freeOf j7.out
           have z7 : w7.frozen? ⟨j, 7, none⟩ = false := freeOf j7.out
           have k3 : w7.cell? ⟨j, 3, none⟩ = some (.int .i64 J.epoch) := cellOf j7.out rfl
           have k5 : w7.cell? ⟨j, 5, none⟩ = some (.int .i64 J.at_) := cellOf j7.out rfl
           have k6 : w7.cell? ⟨j, 6, none⟩ = some (.int .i64 J.used) := cellOf j7.out rfl
           have k7 : w7.cell? ⟨j, 7, none⟩ = some (.bool J.fresh) := cellOf j7.out rfl)
        | (go_at_call 31; refine (CF w5 h5).mono ?_; rintro e w6 ⟨rfl, h6, f6⟩; have j6 := j5.keep f6 (by simp; omega); have CT2 := wal_tried j6 _ hyb)
        | (go_at_call 37; refine CT1.mono ?_; rintro e w5 ⟨rfl, j5, f5⟩; have h5 := h4.keep f5 (by simp; omega) (by simp; omega) (by simp; omega); have c50 : w5.cell? ⟨j, 0, none⟩ = some (.pointer (some ⟨p, 0, none⟩)) := cellOf j5.out rfl))
      go_ret
      have F7 : Fr [p, s, m, j] w w7 := (((((f02.trans f3).mono (by simp)).trans (f4.mono (by simp))).trans (f5.mono (by simp))).trans (f6.mono (by simp))).trans (f7.mono (by simp))
      have j7' : JnAt w7 j p { J with refused := false } := by simpa using j7
      have g7 : Fr [j] w7 ((((w7.setCell ⟨j, 3, none⟩ (.int .i64 ((T : Int) + 1))).setCell ⟨j, 5, none⟩ (.int .i64 at')).setCell ⟨j, 6, none⟩ (.int .i64 0)).setCell ⟨j, 7, none⟩ (.bool true)) := (((Fr.cell _ _ _ _).trans (Fr.cell _ _ _ _)).trans (Fr.cell _ _ _ _)).trans (Fr.cell _ _ _ _)
      exact ⟨rfl, (h6.keep f7 (by simp; omega) (by simp; omega) (by simp; omega)).keep g7 (by simp; omega) (by simp; omega) (by simp; omega), (((j7'.set3 (T + 1)).set5 at').set6 0).set7 true, F7.trans (g7.mono (by simp))⟩
    · subst hx0
      rw [if_neg (by simp), if_pos hy0]
      go_enter Tryd.func10, Tryd.ntmps10
      go_wp2_with (first
        | (go_at_call 35; refine CO.mono ?_; rintro e w' ⟨rfl, rfl⟩)
        | (go_at_call 36; refine CT.mono ?_; rintro e w1 ⟨rfl, f1⟩))
      have f1d := f1.trans (Fr.drew w1)
      have j1 := hj.keep0 f1d
      refine wp_region_mid1 (C := fun X => X = w1.drew) 10 (by kernel_rfl) (by kernel_rfl) rfl rfl rfl ?_
      refine wpQuiet_move rfl _ rfl (v := .pointer (some ⟨j, 0, none⟩)) rfl ?_; simp only [Act.put, List.setIfInBounds_toArray, List.set_cons_succ, List.set_cons_zero]
      refine wpQuiet_nilCheck rfl _ rfl (ad := ⟨j, 0, none⟩) rfl ?_; simp only [Act.put, List.setIfInBounds_toArray, List.set_cons_succ, List.set_cons_zero]
      refine wpQuiet_field rfl _ _ _ rfl rfl (.pointer (some ⟨j, 0, none⟩)) (fun W => by kernel_rfl) ?_; simp only [Act.put, List.setIfInBounds_toArray, List.set_cons_succ, List.set_cons_zero]
      refine wpQuiet_loadA rfl _ _ rfl 3 rfl (loV (some ⟨p, 0, none⟩) J.slot J.log) Tryd.underlying60 rfl (by kernel_rfl) (cs := (jnL ⟨p, 0, none⟩ J).toArray) (by simp [jnL]) (fun X hX => by rw [hX]; exact j1.blk) rfl ?_; simp only [Act.put, List.setIfInBounds_toArray, List.set_cons_succ, List.set_cons_zero]
      refine wpQuiet_move rfl _ rfl (v := .int .i64 ((T : Int) + 1)) rfl ?_; simp only [Act.put, List.setIfInBounds_toArray, List.set_cons_succ, List.set_cons_zero]
      refine wpQuiet_move rfl _ rfl (v := .pointer (some ⟨j, 0, none⟩)) rfl ?_; simp only [Act.put, List.setIfInBounds_toArray, List.set_cons_succ, List.set_cons_zero]
      refine wpQuiet_nilCheck rfl _ rfl (ad := ⟨j, 0, none⟩) rfl ?_; simp only [Act.put, List.setIfInBounds_toArray, List.set_cons_succ, List.set_cons_zero]
      refine wpQuiet_field rfl _ _ _ rfl rfl (.pointer (some ⟨j, 4, none⟩)) (fun W => by kernel_rfl) ?_; simp only [Act.put, List.setIfInBounds_toArray, List.set_cons_succ, List.set_cons_zero]
      refine wpQuiet_load rfl _ _ rfl rfl (.int .i64 J.seq) Tryd.underlying3 rfl (fun X hX => by rw [hX]; exact cellOf j1.out rfl) ?_; simp only [Act.put, List.setIfInBounds_toArray, List.set_cons_succ, List.set_cons_zero]
      refine wpQuiet_move rfl _ rfl (v := v) rfl ?_; simp only [Act.put, List.setIfInBounds_toArray, List.set_cons_succ, List.set_cons_zero]
      refine wpQuiet_nil ?_
      rintro X rfl
      refine wp_call 28 #[loV (some ⟨p, 0, none⟩) J.slot J.log, .int .i64 ((T : Int) + 1), .int .i64 J.seq, v] (by kernel_rfl) ?_
      refine (CRec w1.drew f1d).mono ?_
      rintro e w2 ⟨f2, u, rfl, hu, hug⟩
      refine ⟨_, rfl, ?_⟩; simp only [Act.put, List.setIfInBounds_toArray, List.set_cons_succ, List.set_cons_zero]
      refine wpQuiet_move rfl _ rfl (v := .tuple #[u, .int .i64 0]) rfl ?_; simp only [Act.put, List.setIfInBounds_toArray, List.set_cons_succ, List.set_cons_zero]
      refine wpQuiet_val rfl u (fun X hX => by kernel_rfl) ?_; simp only [Act.put, List.setIfInBounds_toArray, List.set_cons_succ, List.set_cons_zero]
      refine wpQuiet_val rfl (.int .i64 0) (fun X hX => by kernel_rfl) ?_; simp only [Act.put, List.setIfInBounds_toArray, List.set_cons_succ, List.set_cons_zero]
      refine wpQuiet_assign rfl _ rfl (v := u) rfl ?_; simp only [Act.put, List.setIfInBounds_toArray, List.set_cons_succ, List.set_cons_zero]
      refine wpQuiet_assign rfl _ rfl (v := .int .i64 0) rfl ?_; simp only [Act.put, List.setIfInBounds_toArray, List.set_cons_succ, List.set_cons_zero]
      refine wpQuiet_nil ?_
      have f02 := f1d.trans f2
      have j2 := hj.keep0 f02
      have k0 : w2.cell? ⟨j, 0, none⟩ = some (.pointer (some ⟨p, 0, none⟩)) := cellOf j2.out rfl
      have k1 : w2.cell? ⟨j, 1, none⟩ = some (.int .i64 J.slot) := cellOf j2.out rfl
      have k2 : w2.cell? ⟨j, 2, none⟩ = some (.int .i64 J.log) := cellOf j2.out rfl
      have k5 : w2.cell? ⟨j, 5, none⟩ = some (.int .i64 J.at_) := cellOf j2.out rfl
      have hugw : ∀ g, u.ownBlock = some g → w.heap.size ≤ g := fun g hg => by have := hug g hg; have := f1d.size; omega
      have CPl := wal_place w2 (some ⟨p, 0, none⟩) J.slot J.log at' hsl hat1
      go_wp2_with (first
        | (go_at_call 29; rw [HAT.out]; refine CPl.mono ?_; rintro e w3 ⟨rfl, f3⟩)
        | (go_at_call 30; refine (CW w3 u (f02.trans f3) (hu.keep0 f3) hugw).mono ?_; rintro e w4 ⟨rfl, h4, f4⟩; have j4 := (j2.keep0 f3).keep f4 (by simp; omega); have CT1 := wal_tried j4 _ hxb)
        | (go_at_call 37; refine CT2.mono ?_; rintro e w7 ⟨rfl, j7, f7⟩
           have z3 : w7.frozen? ⟨j, 3, none⟩ = false := freeOf j7.out
           have z5 : w7.frozen? ⟨j, 5, none⟩ = false := freeOf j7.out
           have z6 : w7.frozen? ⟨j, 6, none⟩ = false := freeOf j7.out
           have z7 : w7.frozen? ⟨j, 7, none⟩ = false := freeOf j7.out
           have k3 : w7.cell? ⟨j, 3, none⟩ = some (.int .i64 J.epoch) := cellOf j7.out rfl
           have k5 : w7.cell? ⟨j, 5, none⟩ = some (.int .i64 J.at_) := cellOf j7.out rfl
           have k6 : w7.cell? ⟨j, 6, none⟩ = some (.int .i64 J.used) := cellOf j7.out rfl
           have k7 : w7.cell? ⟨j, 7, none⟩ = some (.bool J.fresh) := cellOf j7.out rfl)
        | (go_at_call 31; refine (CF w5 h5).mono ?_; rintro e w6 ⟨rfl, h6, f6⟩; have j6 := j5.keep f6 (by simp; omega); have CT2 := wal_tried j6 _ hyb)
        | (go_at_call 37; refine CT1.mono ?_; rintro e w5 ⟨rfl, j5, f5⟩; have h5 := h4.keep f5 (by simp; omega) (by simp; omega) (by simp; omega); have c50 : w5.cell? ⟨j, 0, none⟩ = some (.pointer (some ⟨p, 0, none⟩)) := cellOf j5.out rfl))
      go_ret
      have F7 : Fr [p, s, m, j] w w7 := (((((f02.trans f3).mono (by simp)).trans (f4.mono (by simp))).trans (f5.mono (by simp))).trans (f6.mono (by simp))).trans (f7.mono (by simp))
      have j7' : JnAt w7 j p { J with refused := true } := by simpa [hy0] using j7
      exact ⟨rfl, h6.keep f7 (by simp; omega) (by simp; omega) (by simp; omega), j7', F7⟩
  · rw [if_pos hx0]
    go_enter Tryd.func10, Tryd.ntmps10
    go_wp2_with (first
      | (go_at_call 35; refine CO.mono ?_; rintro e w' ⟨rfl, rfl⟩)
      | (go_at_call 36; refine CT.mono ?_; rintro e w1 ⟨rfl, f1⟩))
    have f1d := f1.trans (Fr.drew w1)
    have j1 := hj.keep0 f1d
    refine wp_region_mid1 (C := fun X => X = w1.drew) 10 (by kernel_rfl) (by kernel_rfl) rfl rfl rfl ?_
    refine wpQuiet_move rfl _ rfl (v := .pointer (some ⟨j, 0, none⟩)) rfl ?_; simp only [Act.put, List.setIfInBounds_toArray, List.set_cons_succ, List.set_cons_zero]
    refine wpQuiet_nilCheck rfl _ rfl (ad := ⟨j, 0, none⟩) rfl ?_; simp only [Act.put, List.setIfInBounds_toArray, List.set_cons_succ, List.set_cons_zero]
    refine wpQuiet_field rfl _ _ _ rfl rfl (.pointer (some ⟨j, 0, none⟩)) (fun W => by kernel_rfl) ?_; simp only [Act.put, List.setIfInBounds_toArray, List.set_cons_succ, List.set_cons_zero]
    refine wpQuiet_loadA rfl _ _ rfl 3 rfl (loV (some ⟨p, 0, none⟩) J.slot J.log) Tryd.underlying60 rfl (by kernel_rfl) (cs := (jnL ⟨p, 0, none⟩ J).toArray) (by simp [jnL]) (fun X hX => by rw [hX]; exact j1.blk) rfl ?_; simp only [Act.put, List.setIfInBounds_toArray, List.set_cons_succ, List.set_cons_zero]
    refine wpQuiet_move rfl _ rfl (v := .int .i64 ((T : Int) + 1)) rfl ?_; simp only [Act.put, List.setIfInBounds_toArray, List.set_cons_succ, List.set_cons_zero]
    refine wpQuiet_move rfl _ rfl (v := .pointer (some ⟨j, 0, none⟩)) rfl ?_; simp only [Act.put, List.setIfInBounds_toArray, List.set_cons_succ, List.set_cons_zero]
    refine wpQuiet_nilCheck rfl _ rfl (ad := ⟨j, 0, none⟩) rfl ?_; simp only [Act.put, List.setIfInBounds_toArray, List.set_cons_succ, List.set_cons_zero]
    refine wpQuiet_field rfl _ _ _ rfl rfl (.pointer (some ⟨j, 4, none⟩)) (fun W => by kernel_rfl) ?_; simp only [Act.put, List.setIfInBounds_toArray, List.set_cons_succ, List.set_cons_zero]
    refine wpQuiet_load rfl _ _ rfl rfl (.int .i64 J.seq) Tryd.underlying3 rfl (fun X hX => by rw [hX]; exact cellOf j1.out rfl) ?_; simp only [Act.put, List.setIfInBounds_toArray, List.set_cons_succ, List.set_cons_zero]
    refine wpQuiet_move rfl _ rfl (v := v) rfl ?_; simp only [Act.put, List.setIfInBounds_toArray, List.set_cons_succ, List.set_cons_zero]
    refine wpQuiet_nil ?_
    rintro X rfl
    refine wp_call 28 #[loV (some ⟨p, 0, none⟩) J.slot J.log, .int .i64 ((T : Int) + 1), .int .i64 J.seq, v] (by kernel_rfl) ?_
    refine (CRec w1.drew f1d).mono ?_
    rintro e w2 ⟨f2, u, rfl, hu, hug⟩
    refine ⟨_, rfl, ?_⟩; simp only [Act.put, List.setIfInBounds_toArray, List.set_cons_succ, List.set_cons_zero]
    refine wpQuiet_move rfl _ rfl (v := .tuple #[u, .int .i64 0]) rfl ?_; simp only [Act.put, List.setIfInBounds_toArray, List.set_cons_succ, List.set_cons_zero]
    refine wpQuiet_val rfl u (fun X hX => by kernel_rfl) ?_; simp only [Act.put, List.setIfInBounds_toArray, List.set_cons_succ, List.set_cons_zero]
    refine wpQuiet_val rfl (.int .i64 0) (fun X hX => by kernel_rfl) ?_; simp only [Act.put, List.setIfInBounds_toArray, List.set_cons_succ, List.set_cons_zero]
    refine wpQuiet_assign rfl _ rfl (v := u) rfl ?_; simp only [Act.put, List.setIfInBounds_toArray, List.set_cons_succ, List.set_cons_zero]
    refine wpQuiet_assign rfl _ rfl (v := .int .i64 0) rfl ?_; simp only [Act.put, List.setIfInBounds_toArray, List.set_cons_succ, List.set_cons_zero]
    refine wpQuiet_nil ?_
    have f02 := f1d.trans f2
    have j2 := hj.keep0 f02
    have k0 : w2.cell? ⟨j, 0, none⟩ = some (.pointer (some ⟨p, 0, none⟩)) := cellOf j2.out rfl
    have k1 : w2.cell? ⟨j, 1, none⟩ = some (.int .i64 J.slot) := cellOf j2.out rfl
    have k2 : w2.cell? ⟨j, 2, none⟩ = some (.int .i64 J.log) := cellOf j2.out rfl
    have k5 : w2.cell? ⟨j, 5, none⟩ = some (.int .i64 J.at_) := cellOf j2.out rfl
    have hugw : ∀ g, u.ownBlock = some g → w.heap.size ≤ g := fun g hg => by have := hug g hg; have := f1d.size; omega
    have CPl := wal_place w2 (some ⟨p, 0, none⟩) J.slot J.log at' hsl hat1
    go_wp2_with (first
      | (go_at_call 29; rw [HAT.out]; refine CPl.mono ?_; rintro e w3 ⟨rfl, f3⟩)
      | (go_at_call 30; refine (CW w3 u (f02.trans f3) (hu.keep0 f3) hugw).mono ?_; rintro e w4 ⟨rfl, h4, f4⟩; have j4 := (j2.keep0 f3).keep f4 (by simp; omega); have CT1 := wal_tried j4 _ hxb)
      | (go_at_call 37; refine CT2.mono ?_; rintro e w7 ⟨rfl, j7, f7⟩
         have z3 : w7.frozen? ⟨j, 3, none⟩ = false := freeOf j7.out
         have z5 : w7.frozen? ⟨j, 5, none⟩ = false := freeOf j7.out
         have z6 : w7.frozen? ⟨j, 6, none⟩ = false := freeOf j7.out
         have z7 : w7.frozen? ⟨j, 7, none⟩ = false := freeOf j7.out
         have k3 : w7.cell? ⟨j, 3, none⟩ = some (.int .i64 J.epoch) := cellOf j7.out rfl
         have k5 : w7.cell? ⟨j, 5, none⟩ = some (.int .i64 J.at_) := cellOf j7.out rfl
         have k6 : w7.cell? ⟨j, 6, none⟩ = some (.int .i64 J.used) := cellOf j7.out rfl
         have k7 : w7.cell? ⟨j, 7, none⟩ = some (.bool J.fresh) := cellOf j7.out rfl)
      | (go_at_call 31; refine (CF w5 h5).mono ?_; rintro e w6 ⟨rfl, h6, f6⟩; have j6 := j5.keep f6 (by simp; omega); have CT2 := wal_tried j6 _ hyb)
      | (go_at_call 37; refine CT1.mono ?_; rintro e w5 ⟨rfl, j5, f5⟩; have h5 := h4.keep f5 (by simp; omega) (by simp; omega) (by simp; omega); have c50 : w5.cell? ⟨j, 0, none⟩ = some (.pointer (some ⟨p, 0, none⟩)) := cellOf j5.out rfl))
    go_ret
    have F5 : Fr [p, s, m, j] w w5 := (((f02.trans f3).mono (by simp)).trans (f4.mono (by simp))).trans (f5.mono (by simp))
    have j5' : JnAt w5 j p { J with refused := true } := by simpa [hx0] using j5
    exact ⟨rfl, h5, j5', F5⟩

theorem wal_Checkpoint (h : DiskAt w p s m D) (hj : JnAt w j p J) (hn : j ≠ p ∧ j ≠ s ∧ j ≠ m) (ok : J.ok D) (hv : BS w v b) (hb : b.length < 4611686018427387904) :
    Calls Tryd.prog 10 #[.pointer (some ⟨j, 0, none⟩), v] w (Ckpt p s m j D J b w) := by
  cases hr : J.refused
  · by_cases hf : fits J.slot (D.top (2 * J.slot + J.log) + 1) b = 0
    · exact wal_Checkpoint_c h hj hn ok hr hv hb hf
    · exact wal_Checkpoint_b h hj ok hr hv hb hf
  · exact wal_Checkpoint_a h hj hr
end
end Gd
