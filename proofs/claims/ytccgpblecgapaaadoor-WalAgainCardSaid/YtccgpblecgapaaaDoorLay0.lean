/- wal: the layout's small functions. -/
import Derived.Test.YtccgpblecgapaaaDoorDiskNew
import Derived.Test.YtccgpblecgapaaaDoorLift
set_option linter.unusedSimpArgs false
set_option linter.unusedVariables false
namespace Gd
open Go Go.Proofs Go.RowKit

abbrev tL : TypeId := 60
abbrev tX : TypeId := 64
def loV (d : Option Addr) (slot log : Int) : Value := .agg #[.pointer d, .int .i64 slot, .int .i64 log]
def exV (d : Option Addr) (a b : Int) : Value := .agg #[.pointer d, .int .i64 a, .int .i64 b]

theorem wal_place (w : World) (d : Option Addr) (slot log i : Nat) (hs : slot ≤ 4096) (hi : i ≤ 1) :
    Calls Tryd.prog 29 #[loV d slot log, .int .i64 i] w fun e w' => e = .returned (exV d (i * slot : Nat) ((i + 1) * slot : Nat)) ∧ Fr [] w w' := by
  unfold loV exV
  go_enter Tryd.func29, Tryd.ntmps29
  go_wp2
  have e1 : wrap64 ((i : Int) * (slot : Int)) = ((i * slot : Nat) : Int) := by
    rcases (show i = 0 ∨ i = 1 by omega) with rfl | rfl
    · unfold wrap64; simp
    · unfold wrap64; omega
  have e2 : wrap64 (((i : Int) + 1) * (slot : Int)) = (((i + 1) * slot : Nat) : Int) := by
    rcases (show i = 0 ∨ i = 1 by omega) with rfl | rfl
    · unfold wrap64; omega
    · unfold wrap64; omega
  rw [e1, e2]
  have hB := Go.heap_alloc_new (w.alloc (.cells #[.pointer d, .int .i64 slot, .int .i64 log] tL)) (.cells #[.pointer d, .int .i64 (i * slot : Nat), .int .i64 ((i + 1) * slot : Nat)] tX)
  rw [World.size_alloc] at hB
  refine bodyPost_ret (results_cell rfl _ _ (w.heap.size + 1) _ _ _ _ rfl ⟨hB⟩ Tryd.underlying64 rfl (by kernel_rfl)) rfl ⟨rfl, (Fr.alloc _ _).trans (Fr.alloc _ _)⟩

theorem wal_logs (w : World) (d : Option Addr) (slot log i : Nat) (hs : slot ≤ 4096) (hl : log ≤ 4096) (hi : i ≤ 4096) :
    Calls Tryd.prog 34 #[loV d slot log, .int .i64 i] w fun e w' => e = .returned (exV d (2 * slot + i : Nat) (2 * slot + log : Nat)) ∧ Fr [] w w' := by
  unfold loV exV
  go_enter Tryd.func34, Tryd.ntmps34
  go_wp2
  have hB := Go.heap_alloc_new (w.alloc (.cells #[.pointer d, .int .i64 slot, .int .i64 log] tL)) (.cells #[.pointer d, .int .i64 (2 * (slot : Int) + i), .int .i64 (2 * (slot : Int) + log)] tX)
  rw [World.size_alloc] at hB
  refine bodyPost_ret (results_cell rfl _ _ (w.heap.size + 1) _ _ _ _ rfl ⟨hB⟩ Tryd.underlying64 rfl (by kernel_rfl)) rfl ⟨?_, (Fr.alloc _ _).trans (Fr.alloc _ _)⟩
  have e1 : 2 * (slot : Int) + i = ((2 * slot + i : Nat) : Int) := by omega
  have e2 : 2 * (slot : Int) + log = ((2 * slot + log : Nat) : Int) := by omega
  rw [e1, e2]

/-- the words of 'record' -/
theorem wal_record {w : World} {v : Value} {b : Bytes} (hv : BS w v b) (d : Option Addr) (slot log e q : Nat) (hs : slot ≤ 4096) (hb : b.length < 4611686018427387904) (he : e < 9223372036854775808) (hq : q < 4294967296) :
    Calls Tryd.prog 28 #[loV d slot log, .int .i64 e, .int .i64 q, v] w fun x w' => Fr [] w w' ∧
      (if 65535 < b.length ∨ 4294967295 < e then x = .returned (.tuple #[.slice none 0 0, .int .i64 2])
       else if slot < cnt b.length then x = .returned (.tuple #[.slice none 0 0, .int .i64 5])
       else ∃ u, x = .returned (.tuple #[u, .int .i64 0]) ∧ BS w' u (lay e q b) ∧ ∀ g, u.ownBlock = some g → w.heap.size ≤ g) := by
  obtain ⟨ad, cap, rfl, hc1, hc2⟩ := hv.shape
  unfold maxLen at hc2
  unfold loV
  by_cases h1 : 65535 < b.length ∨ 4294967295 < e
  · have H1 := Lib.hid h1
    go_enter Tryd.func28, Tryd.ntmps28
    go_wp2
    all_goals exact bodyPost_ret (results_tmp2 rfl _ _ _) rfl ⟨Fr.alloc _ _, rfl⟩
  · have hb1 : b.length ≤ 65535 := by omega
    have he1 : e ≤ 4294967295 := by omega
    simp only [if_neg h1]
    clear h1
    obtain ⟨n, hn, hn2⟩ : ∃ n, n = cnt b.length ∧ n ≤ 4096 := ⟨_, rfl, by unfold cnt; omega⟩
    simp only [← hn]
    have CN : ∀ W, Calls Tryd.prog 39 #[.int .i64 b.length] W fun e w' => e = .returned (.int .i64 n) ∧ W = w' := fun W => by rw [hn]; exact sheet_Count W _ hb1
    clear hn
    obtain ⟨w1, hw1⟩ : ∃ w1, w1 = w.alloc (.cells #[.pointer d, .int .i64 slot, .int .i64 log] tL) := ⟨_, rfl⟩
    have f1 : Fr [] w w1.drew := by rw [hw1]; exact (Fr.alloc _ _).trans (Fr.drew _)
    have c1 : w1.drew.cell? ⟨w.heap.size, 1, none⟩ = some (.int .i64 slot) := by rw [hw1]; exact cellOf (Go.heap_alloc_new w _) rfl
    have HW := Lib.hid hw1
    clear hw1
    go_enter Tryd.func28, Tryd.ntmps28
    go_wp2
    rw [← HW.out]
    refine wp_region_all (C := fun X => X = w1.drew) (by kernel_rfl) (by kernel_rfl) rfl ?_
    refine wpQuiet_move rfl _ rfl (v := .slice ad b.length cap) rfl ?_; simp only [Act.put, List.setIfInBounds_toArray, List.set_cons_succ, List.set_cons_zero]
    refine wpQuiet_val rfl (.int .i64 b.length) (fun X hX => exec_builtin rfl (by simp [Act.eval]; rfl) (fun cs => ?_)) ?_
    · simp [builtin, Builtin.len_, run_underlying Tryd.underlying23, goInt]
    simp only [Act.put, List.setIfInBounds_toArray, List.set_cons_succ, List.set_cons_zero]
    refine wpQuiet_call rfl (.int .i64 n) 39 #[.int .i64 b.length] (fun W => by kernel_rfl) (fun X hX => by rw [hX]; exact (CN w1.drew).mono (fun e w' h => ⟨h.1, h.2.symm⟩)) ?_; simp only [Act.put, List.setIfInBounds_toArray, List.set_cons_succ, List.set_cons_zero]
    refine wpQuiet_field rfl _ _ _ rfl rfl (.pointer (some ⟨w.heap.size, 1, none⟩)) (fun W => by kernel_rfl) ?_; simp only [Act.put, List.setIfInBounds_toArray, List.set_cons_succ, List.set_cons_zero]
    refine wpQuiet_load rfl _ _ rfl rfl _ Tryd.underlying3 rfl (fun X hX => by rw [hX]; exact c1) ?_; simp only [Act.put, List.setIfInBounds_toArray, List.set_cons_succ, List.set_cons_zero]
    refine wpQuiet_val rfl (.bool (decide ((slot : Int) < (n : Int)))) (fun X hX => ?_) ?_
    · kernel_rfl
    simp only [Act.put, List.setIfInBounds_toArray, List.set_cons_succ, List.set_cons_zero]
    refine wpQuiet_assign rfl _ rfl (v := .bool (decide ((slot : Int) < (n : Int)))) rfl ?_; simp only [Act.put, List.setIfInBounds_toArray, List.set_cons_succ, List.set_cons_zero]
    refine wpQuiet_nil ?_
    rintro X rfl
    by_cases hlt : slot < n
    · have hd : Hid (decide ((slot : Int) < (n : Int)) = true) := decide_eq_true (by omega)
      rw [hd.out]
      go_wp2
      exact bodyPost_ret (results_tmp2 rfl _ _ _) rfl ⟨f1, by simp only [if_pos hlt]; rfl⟩
    · have hd : Hid (decide ((slot : Int) < (n : Int)) = false) := decide_eq_false (by omega)
      rw [hd.out]
      have CL := sheet_Lay (hv.keep0 f1) e q (by omega) hq hb1
      go_wp2_with (go_at_call 40; refine CL.mono ?_; rintro x w2 ⟨u, rfl, h1, h2, f2⟩)
      refine bodyPost_ret (results_tmp2 rfl _ _ _) rfl ⟨f1.trans f2, ?_⟩
      simp only [if_neg hlt]
      refine ⟨u, rfl, h1, fun g hg => ?_⟩
      have := h2 g hg
      have := f1.size
      omega
end Gd
