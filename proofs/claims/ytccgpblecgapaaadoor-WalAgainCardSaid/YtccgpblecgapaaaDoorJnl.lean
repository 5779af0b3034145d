/- wal: the journal's record and its small functions. -/
import Derived.Test.YtccgpblecgapaaaDoorMay
set_option linter.unusedSimpArgs false
set_option linter.unusedVariables false
namespace Gd
open Go Go.Proofs Go.RowKit

abbrev tJ : TypeId := 67
def jnL (d : Addr) (J : Jn) : List Value := [.pointer (some d), .int .i64 J.slot, .int .i64 J.log, .int .i64 J.epoch, .int .i64 J.seq, .int .i64 J.at_, .int .i64 J.used, .bool J.fresh, .bool J.refused]
/-- block j holds the journal J of the disk at p -/
structure JnAt (w : World) (j p : Nat) (J : Jn) : Prop where
  out : w.heap[j]? = some (.cells (jnL ⟨p, 0, none⟩ J).toArray tJ (0, 0))
theorem JnAt.keep {S : List Nat} {w w' : World} {j p : Nat} {J : Jn} (h : JnAt w j p J) (hf : Fr S w w') (hn : j ∉ S) : JnAt w' j p J := ⟨hf.keep h.out hn⟩
theorem JnAt.keep0 {w w' : World} {j p : Nat} {J : Jn} (h : JnAt w j p J) (hf : Fr [] w w') : JnAt w' j p J := h.keep hf (by simp)
theorem JnAt.lt {w : World} {j p : Nat} {J : Jn} (h : JnAt w j p J) : j < w.heap.size := (Array.getElem?_eq_some_iff.1 h.out).1

theorem wal_ready_nil (w : World) : Calls Tryd.prog 35 #[.pointer none] w fun e w' => e = .returned (.int .i64 1) ∧ w = w' := by
  go_enter Tryd.func35, Tryd.ntmps35
  go_wp2
  go_ret
  exact ⟨rfl, rfl⟩
theorem wal_ready {w : World} {j p : Nat} {J : Jn} (h : JnAt w j p J) : Calls Tryd.prog 35 #[.pointer (some ⟨j, 0, none⟩)] w fun e w' => e = .returned (.int .i64 (if J.refused then 10 else 0)) ∧ w = w' := by
  have c8 : w.cell? ⟨j, 8, none⟩ = some (.bool J.refused) := cellOf h.out rfl
  cases hr : J.refused
  all_goals rw [hr] at c8
  all_goals clear hr
  all_goals go_enter Tryd.func35, Tryd.ntmps35
  all_goals go_wp2
  all_goals go_ret
  all_goals exact ⟨rfl, rfl⟩
theorem wal_open_nil (w : World) : Calls Tryd.prog 38 #[.pointer none] w fun e w' => e = .returned (.int .i64 1) ∧ w = w' := by
  go_enter Tryd.func38, Tryd.ntmps38
  go_wp2_with (go_at_call 35; refine (wal_ready_nil w).mono ?_; rintro e w' ⟨rfl, rfl⟩)
  go_ret
  exact ⟨rfl, rfl⟩
theorem wal_open {w : World} {j p : Nat} {J : Jn} (h : JnAt w j p J) : Calls Tryd.prog 38 #[.pointer (some ⟨j, 0, none⟩)] w fun e w' => e = .returned (.int .i64 (if J.refused then 10 else if J.fresh then 0 else 9)) ∧ w = w' := by
  have c7 : w.cell? ⟨j, 7, none⟩ = some (.bool J.fresh) := cellOf h.out rfl
  have CR := wal_ready h
  cases hr : J.refused <;> cases hf : J.fresh
  all_goals rw [hr] at CR
  all_goals rw [hf] at c7
  all_goals clear hr hf
  all_goals simp only [if_true, Bool.false_eq_true, if_false] at CR ⊢
  all_goals go_enter Tryd.func38, Tryd.ntmps38
  all_goals go_wp2_with (go_at_call 35; refine CR.mono ?_; rintro e w' ⟨rfl, rfl⟩)
  all_goals go_ret
  all_goals exact ⟨rfl, rfl⟩
theorem wal_Epoch {w : World} {j p : Nat} {J : Jn} (h : JnAt w j p J) : Calls Tryd.prog 17 #[.pointer (some ⟨j, 0, none⟩)] w fun e w' => e = .returned (.int .i64 J.epoch) ∧ w = w' := by
  have c : w.cell? ⟨j, 3, none⟩ = some (.int .i64 J.epoch) := cellOf h.out rfl
  go_enter Tryd.func17, Tryd.ntmps17
  go_wp2
  go_ret
  exact ⟨rfl, rfl⟩
theorem wal_Seq {w : World} {j p : Nat} {J : Jn} (h : JnAt w j p J) : Calls Tryd.prog 12 #[.pointer (some ⟨j, 0, none⟩)] w fun e w' => e = .returned (.int .i64 J.seq) ∧ w = w' := by
  have c : w.cell? ⟨j, 4, none⟩ = some (.int .i64 J.seq) := cellOf h.out rfl
  go_enter Tryd.func12, Tryd.ntmps12
  go_wp2
  go_ret
  exact ⟨rfl, rfl⟩
theorem wal_Place {w : World} {j p : Nat} {J : Jn} (h : JnAt w j p J) : Calls Tryd.prog 18 #[.pointer (some ⟨j, 0, none⟩)] w fun e w' => e = .returned (.int .i64 J.at_) ∧ w = w' := by
  have c : w.cell? ⟨j, 5, none⟩ = some (.int .i64 J.at_) := cellOf h.out rfl
  go_enter Tryd.func18, Tryd.ntmps18
  go_wp2
  go_ret
  exact ⟨rfl, rfl⟩
theorem wal_Room {w : World} {j p : Nat} {J : Jn} (h : JnAt w j p J) (hl : J.log ≤ 4096) (hu : J.used ≤ 4096) : Calls Tryd.prog 11 #[.pointer (some ⟨j, 0, none⟩)] w fun e w' => e = .returned (.int .i64 ((J.log : Int) - J.used)) ∧ Fr [] w w' := by
  have c2 : w.cell? ⟨j, 2, none⟩ = some (.int .i64 J.log) := cellOf h.out rfl
  have c6 : w.cell? ⟨j, 6, none⟩ = some (.int .i64 J.used) := cellOf h.out rfl
  go_enter Tryd.func11, Tryd.ntmps11
  go_wp2
  go_region
  all_goals go_wp2
  all_goals go_ret
  all_goals exact ⟨rfl, Fr.drew _⟩
theorem wal_Epoch_nil (w : World) : Calls Tryd.prog 17 #[.pointer none] w fun e w' => e = .returned (.int .i64 0) ∧ w = w' := by
  go_enter Tryd.func17, Tryd.ntmps17
  go_wp2
  go_ret
  exact ⟨rfl, rfl⟩
theorem wal_Seq_nil (w : World) : Calls Tryd.prog 12 #[.pointer none] w fun e w' => e = .returned (.int .i64 0) ∧ w = w' := by
  go_enter Tryd.func12, Tryd.ntmps12
  go_wp2
  go_ret
  exact ⟨rfl, rfl⟩
theorem wal_Place_nil (w : World) : Calls Tryd.prog 18 #[.pointer none] w fun e w' => e = .returned (.int .i64 0) ∧ w = w' := by
  go_enter Tryd.func18, Tryd.ntmps18
  go_wp2
  go_ret
  exact ⟨rfl, rfl⟩
theorem wal_Room_nil (w : World) : Calls Tryd.prog 11 #[.pointer none] w fun e w' => e = .returned (.int .i64 0) ∧ w = w' := by
  go_enter Tryd.func11, Tryd.ntmps11
  go_wp2
  go_ret
  exact ⟨rfl, rfl⟩

theorem JnAt.setRefused {w : World} {j p : Nat} {J : Jn} (h : JnAt w j p J) (b : Bool) : JnAt (w.setCell ⟨j, 8, none⟩ (.bool b)) j p { J with refused := b } := by
  have := heap_setCell_same w j 8 _ _ (.bool b) h.out
  exact ⟨this⟩
theorem wal_tried {w : World} {j p : Nat} {J : Jn} (h : JnAt w j p J) (e : Int) (he : -9223372036854775808 ≤ e ∧ e < 9223372036854775808) : Calls Tryd.prog 37 #[.pointer (some ⟨j, 0, none⟩), .int .i64 e] w fun x w' => x = .returned (.int .i64 e) ∧ JnAt w' j p { J with refused := decide (e ≠ 0) } ∧ Fr [j] w w' := by
  have c8 : w.cell? ⟨j, 8, none⟩ = some (.bool J.refused) := cellOf h.out rfl
  have z8 : w.frozen? ⟨j, 8, none⟩ = false := freeOf h.out
  go_enter Tryd.func37, Tryd.ntmps37
  go_wp2
  go_ret
  have hb : (e != 0) = decide (e ≠ 0) := by
    by_cases h : e = 0 <;> simp [h]
  rw [hb]
  exact ⟨rfl, h.setRefused _, Fr.cell _ _ _ _⟩
end Gd
