/- wal: Format. -/
import Derived.Test.YtccgpblecgapaaaDoorCkp
set_option linter.unusedSimpArgs false
set_option linter.unusedVariables false
namespace Gd
open Go Go.Proofs Go.RowKit
section
variable {w : World} {p s m j : Nat} {D : Dk} {v : Value} {b : Bytes}

theorem wal_Format_no {d : Option Addr} (slot log : Int) (hm : ∀ W, Fr [] w W → Calls Tryd.prog 27 #[loV d slot log] W fun e w' => e = .returned (.bool false) ∧ Fr [] W w') :
    Calls Tryd.prog 8 #[.pointer d, .int .i64 slot, .int .i64 log, v] w fun e w' => e = .returned (.int .i64 1) ∧ Fr [] w w' := by
  unfold loV at hm
  go_enter Tryd.func8, Tryd.ntmps8
  go_wp2_with (go_at_call 27; refine (hm _ (Fr.alloc _ _)).mono ?_; rintro e w1 ⟨rfl, f1⟩)
  go_ret
  exact ⟨rfl, (Fr.alloc _ _).trans f1⟩
theorem wal_Format_nil (slot log : Int) (hs : -9223372036854775808 ≤ slot ∧ slot < 9223372036854775808) (hl : -9223372036854775808 ≤ log ∧ log < 9223372036854775808) :
    Calls Tryd.prog 8 #[.pointer none, .int .i64 slot, .int .i64 log, v] w fun e w' => e = .returned (.int .i64 1) ∧ Fr [] w w' :=
  wal_Format_no slot log (fun W _ => wal_may_nil W slot log hs hl)
theorem wal_Format_bad (h : DiskAt w p s m D) (slot log : Int) (hs : -9223372036854775808 ≤ slot ∧ slot < 9223372036854775808) (hl : -9223372036854775808 ≤ log ∧ log < 9223372036854775808) (hb : mayB D slot log = false) :
    Calls Tryd.prog 8 #[.pointer (some ⟨p, 0, none⟩), .int .i64 slot, .int .i64 log, v] w fun e w' => e = .returned (.int .i64 1) ∧ Fr [] w w' :=
  wal_Format_no slot log (fun W hW => by have := wal_may (h.keep0 hW) slot log hs hl; rw [hb] at this; exact this)

def Formatted (p s m : Nat) (D : Dk) (slot : Nat) (b : Bytes) (w : World) (e : Ending) (w' : World) : Prop :=
  e = .returned (.int .i64 (D.format slot b).2) ∧ DiskAt w' p s m (D.format slot b).1 ∧ Fr [p, s, m] w w'

theorem mayB_iff {D : Dk} {slot log : Nat} : mayB D slot log = true ↔ 0 < slot ∧ 0 < log ∧ 2 * slot + log ≤ D.sure.length := by
  unfold mayB
  rw [decide_eq_true_iff]
  omega

set_option maxRecDepth 100000 in
set_option maxHeartbeats 2000000 in
theorem wal_Format (h : DiskAt w p s m D) (slot log : Nat) (hm : 0 < slot ∧ 0 < log ∧ 2 * slot + log ≤ D.sure.length) (hv : BS w v b) (hb : b.length < 4611686018427387904) :
    Calls Tryd.prog 8 #[.pointer (some ⟨p, 0, none⟩), .int .i64 slot, .int .i64 log, v] w (Formatted p s m D slot b w) := by
  have hD := h.ok.len
  obtain ⟨lp, ls, lm⟩ := h.lt
  have CM : ∀ W, Fr [] w W → Calls Tryd.prog 27 #[.agg #[.pointer (some ⟨p, 0, none⟩), .int .i64 slot, .int .i64 log]] W fun e w' => e = .returned (.bool true) ∧ Fr [] W w' := fun W hW => by
    have := wal_may (h.keep0 hW) slot log (by omega) (by omega)
    rw [mayB_iff.2 hm] at this
    exact this
  have hv' := hv
  obtain ⟨h1, h2, h3⟩ := hm
  obtain ⟨f, hf⟩ : ∃ f, f = fits slot 1 b := ⟨_, rfl⟩
  unfold Formatted
  by_cases hf0 : f = 0
  · obtain ⟨R, hR⟩ : ∃ R, R = lay 1 0 b := ⟨_, rfl⟩
    obtain ⟨⟨D1, x⟩, hx⟩ : ∃ r, r = D.put 0 R := ⟨_, rfl⟩
    obtain ⟨⟨D2, y⟩, hy⟩ : ∃ r, r = D1.flush := ⟨_, rfl⟩
    have HE : Hid (D.format slot b = if x = 0 then (D2, y) else (D1, x)) := by
      rw [Hid]; unfold Dk.format; rw [← hf, if_pos hf0, ← hR, ← hx, hy]
    rw [hf0] at hf
    unfold fits at hf
    have hc1 : ¬ (65535 < b.length ∨ 4294967295 < 1) := fun hc => by rw [if_pos hc] at hf; cases hf
    have hc2 : ¬ (slot < cnt b.length) := fun hc => by rw [if_neg hc1, if_pos hc] at hf; cases hf
    have CRec : ∀ W, Fr [] w W → Calls Tryd.prog 28 #[.agg #[.pointer (some ⟨p, 0, none⟩), .int .i64 slot, .int .i64 log], .int .i64 1, .int .i64 0, v] W fun e w' => Fr [] W w' ∧ ∃ u, e = .returned (.tuple #[u, .int .i64 0]) ∧ BS w' u R ∧ ∀ g, u.ownBlock = some g → W.heap.size ≤ g := fun W hW => by
      have h1 := wal_record (hv.keep0 hW) (some ⟨p, 0, none⟩) slot log 1 0 (by omega) hb (by omega) (by omega)
      refine Calls.mono h1 ?_
      rintro e w' ⟨f1, h2⟩
      rw [if_neg hc1, if_neg hc2, ← hR] at h2
      exact ⟨f1, h2⟩
    obtain ⟨n, hn1, hn2⟩ : ∃ n, n = cnt b.length ∧ n ≤ 4096 := ⟨_, rfl, by unfold cnt; omega⟩
    have hRl : R.length = 32 * n := by rw [hR, length_lay, hn1]
    have hn0 : 0 < n := by rw [hn1]; unfold cnt; omega
    rw [← hn1] at hc2
    have CW : ∀ W u, Fr [] w W → BS W u R → (∀ g, u.ownBlock = some g → w.heap.size ≤ g) → Calls Tryd.prog 30 #[.agg #[.pointer (some ⟨p, 0, none⟩), .int .i64 0, .int .i64 slot], u] W fun e w' => e = .returned (.int .i64 x) ∧ DiskAt w' p s m D1 ∧ Fr [p, m] W w' := fun W u hW hu hg => by
      have := extent_put (h.keep0 hW) 0 slot n hu hRl hn0 (by omega) (fun g hg' => by have := hg g hg'; omega) (by omega)
      rw [← hx] at this
      exact this
    have CF : ∀ W, DiskAt W p s m D1 → Calls Tryd.prog 31 #[.pointer (some ⟨p, 0, none⟩)] W fun e w' => e = .returned (.int .i64 y) ∧ DiskAt w' p s m D2 ∧ Fr [p, s, m] W w' := fun W hW => by
      have := disk_Flush hW
      rw [← hy] at this
      exact this
    have CPl : ∀ W, Calls Tryd.prog 29 #[.agg #[.pointer (some ⟨p, 0, none⟩), .int .i64 slot, .int .i64 log], .int .i64 0] W fun e w' => e = .returned (.agg #[.pointer (some ⟨p, 0, none⟩), .int .i64 0, .int .i64 slot]) ∧ Fr [] W w' := fun W => by
      have := wal_place W (some ⟨p, 0, none⟩) slot log 0 (by omega) (by omega)
      rw [Nat.zero_mul, Nat.zero_add, Nat.one_mul] at this
      exact this
    rw [HE.out]
    clear hf hR hx hy hn1 hRl HE hc1
    by_cases hx0 : x = 0
    · rw [if_pos hx0]
      subst hx0
      go_enter Tryd.func8, Tryd.ntmps8
      go_wp2_with (first
        | (go_at_call 27; refine (CM _ (Fr.alloc _ _)).mono ?_; rintro e w1 ⟨rfl, f1⟩
           have f01 := (Fr.alloc w _).trans f1
           have L1 : Blk w1 w.heap.size (.cells #[.pointer (some ⟨p, 0, none⟩), .int .i64 slot, .int .i64 log] tL (0, 0)) := Blk.keep0 ⟨Go.heap_alloc_new w _⟩ f1
           have a0 : w1.cell? ⟨w.heap.size, 0, none⟩ = some (.pointer (some ⟨p, 0, none⟩)) := cellOf L1.out rfl
           have a1 : w1.cell? ⟨w.heap.size, 1, none⟩ = some (.int .i64 slot) := cellOf L1.out rfl
           have a2 : w1.cell? ⟨w.heap.size, 2, none⟩ = some (.int .i64 log) := cellOf L1.out rfl)
        | (go_at_call 28; refine (CRec _ f01).mono ?_; rintro e w2 ⟨f2, u, rfl, hu, hug⟩
           have L2 := L1.keep0 f2
           have b0 : w2.cell? ⟨w.heap.size, 0, none⟩ = some (.pointer (some ⟨p, 0, none⟩)) := cellOf L2.out rfl
           have b1 : w2.cell? ⟨w.heap.size, 1, none⟩ = some (.int .i64 slot) := cellOf L2.out rfl
           have b2 : w2.cell? ⟨w.heap.size, 2, none⟩ = some (.int .i64 log) := cellOf L2.out rfl)
        | (go_at_call 29; refine (CPl w2).mono ?_; rintro e w3 ⟨rfl, f3⟩)
        | (go_at_call 30; refine (CW w3 u ((f01.trans f2).trans f3) (hu.keep0 f3) (fun g hg => by have := hug g hg; have := f01.size; omega)).mono ?_; rintro e w4 ⟨rfl, h4, f4⟩)
        | (go_at_call 31; refine (CF w4 h4).mono ?_; rintro e w5 ⟨rfl, h5, f5⟩))
      go_ret
      exact ⟨rfl, h5, (((((Fr.alloc w _).trans f1).trans f2).trans f3).mono (by simp)).trans ((f4.mono (by simp)).trans f5)⟩
    · rw [if_neg hx0]
      go_enter Tryd.func8, Tryd.ntmps8
      go_wp2_with (first
        | (go_at_call 27; refine (CM _ (Fr.alloc _ _)).mono ?_; rintro e w1 ⟨rfl, f1⟩
           have f01 := (Fr.alloc w _).trans f1
           have L1 : Blk w1 w.heap.size (.cells #[.pointer (some ⟨p, 0, none⟩), .int .i64 slot, .int .i64 log] tL (0, 0)) := Blk.keep0 ⟨Go.heap_alloc_new w _⟩ f1
           have a0 : w1.cell? ⟨w.heap.size, 0, none⟩ = some (.pointer (some ⟨p, 0, none⟩)) := cellOf L1.out rfl
           have a1 : w1.cell? ⟨w.heap.size, 1, none⟩ = some (.int .i64 slot) := cellOf L1.out rfl
           have a2 : w1.cell? ⟨w.heap.size, 2, none⟩ = some (.int .i64 log) := cellOf L1.out rfl)
        | (go_at_call 28; refine (CRec _ f01).mono ?_; rintro e w2 ⟨f2, u, rfl, hu, hug⟩
           have L2 := L1.keep0 f2
           have b0 : w2.cell? ⟨w.heap.size, 0, none⟩ = some (.pointer (some ⟨p, 0, none⟩)) := cellOf L2.out rfl
           have b1 : w2.cell? ⟨w.heap.size, 1, none⟩ = some (.int .i64 slot) := cellOf L2.out rfl
           have b2 : w2.cell? ⟨w.heap.size, 2, none⟩ = some (.int .i64 log) := cellOf L2.out rfl)
        | (go_at_call 29; refine (CPl w2).mono ?_; rintro e w3 ⟨rfl, f3⟩)
        | (go_at_call 30; refine (CW w3 u ((f01.trans f2).trans f3) (hu.keep0 f3) (fun g hg => by have := hug g hg; have := f01.size; omega)).mono ?_; rintro e w4 ⟨rfl, h4, f4⟩))
      go_ret
      exact ⟨rfl, h4, (((((Fr.alloc w _).trans f1).trans f2).trans f3).mono (by simp)).trans (f4.mono (by simp))⟩
  · have HE : Hid (D.format slot b = (D, f)) := by
      rw [Hid]; unfold Dk.format; rw [← hf, if_neg hf0]
    have CRec : ∀ W, Fr [] w W → Calls Tryd.prog 28 #[.agg #[.pointer (some ⟨p, 0, none⟩), .int .i64 slot, .int .i64 log], .int .i64 1, .int .i64 0, v] W fun e w' => Fr [] W w' ∧ e = .returned (.tuple #[.slice none 0 0, .int .i64 f]) := fun W hW => by
      have h1 := wal_record (hv.keep0 hW) (some ⟨p, 0, none⟩) slot log 1 0 (by omega) hb (by omega) (by omega)
      refine Calls.mono h1 ?_
      rintro e w' ⟨f1, h2⟩
      refine ⟨f1, ?_⟩
      unfold fits at hf
      by_cases c1 : 65535 < b.length ∨ 4294967295 < 1
      · rw [if_pos c1] at h2 hf; rw [hf]; exact h2
      · rw [if_neg c1] at h2 hf
        by_cases c2 : slot < cnt b.length
        · rw [if_pos c2] at h2 hf; rw [hf]; exact h2
        · rw [if_neg c2] at hf; exact absurd hf hf0
    rw [HE.out]
    clear hf HE
    go_enter Tryd.func8, Tryd.ntmps8
    go_wp2_with (first
      | (go_at_call 27; refine (CM _ (Fr.alloc _ _)).mono ?_; rintro e w1 ⟨rfl, f1⟩
         have f01 := (Fr.alloc w _).trans f1
         have L1 : Blk w1 w.heap.size (.cells #[.pointer (some ⟨p, 0, none⟩), .int .i64 slot, .int .i64 log] tL (0, 0)) := Blk.keep0 ⟨Go.heap_alloc_new w _⟩ f1
         have a0 : w1.cell? ⟨w.heap.size, 0, none⟩ = some (.pointer (some ⟨p, 0, none⟩)) := cellOf L1.out rfl
         have a1 : w1.cell? ⟨w.heap.size, 1, none⟩ = some (.int .i64 slot) := cellOf L1.out rfl
         have a2 : w1.cell? ⟨w.heap.size, 2, none⟩ = some (.int .i64 log) := cellOf L1.out rfl)
      | (go_at_call 28; refine (CRec _ f01).mono ?_; rintro e w2 ⟨f2, rfl⟩))
    go_ret
    have f02 := ((Fr.alloc w _).trans f1).trans f2
    exact ⟨rfl, h.keep0 f02, f02.mono (by simp)⟩
end
end Gd
