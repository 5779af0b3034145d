/- disk: New, Fuse, Writes, Pending; the nil disk. -/
import Derived.Test.YtccgpblecgapaaaDoorDisk
import Derived.Test.YtccgpblecgapaaaDoorRound
set_option linter.unusedSimpArgs false
set_option linter.unusedVariables false
namespace Gd
open Go Go.Proofs Go.RowKit

theorem secsL_rep (s : Sec) (h : s.ok) : ∀ (n i : Nat), i < n * 33 → (secsL (List.replicate n s))[i]? = (secL s)[i % 33]?
  | 0, i, hi => by omega
  | n + 1, i, hi => by
    have hl := length_secL h
    rw [List.replicate_succ]
    show (secL s ++ secsL (List.replicate n s))[i]? = _
    by_cases h33 : i < 33
    · rw [List.getElem?_append_left (by omega), Nat.mod_eq_of_lt h33]
    · rw [List.getElem?_append_right (by omega), hl, secsL_rep s h n (i - 33) (by omega)]
      congr 1
      omega
theorem madeSecs (n : Nat) : (madeCells (secV Sec.zero).cells (n * 33)).toList = secsL (List.replicate n Sec.zero) := by
  have hz : Sec.zero.ok := by simp [Sec.ok, Sec.zero]
  have hl := length_secL hz
  have hsl : (secsL (List.replicate n Sec.zero)).length = n * 33 := by
    rw [length_secsL (fun s hs => by obtain ⟨_, rfl⟩ := List.mem_replicate.1 hs; exact hz)]; simp; omega
  apply List.ext_getElem?
  intro i
  by_cases h : i < n * 33
  · rw [secsL_rep _ hz n i h]
    simp only [madeCells, Array.toList_map, Array.toList_range, List.getElem?_map, List.getElem?_range h, Option.map_some]
    have hs : (secV Sec.zero).cells.size = 33 := by decide
    have e : (secV Sec.zero).cells = (secL Sec.zero).toArray := rfl
    rw [hs, e]
    have hlt : i % 33 < (secL Sec.zero).length := by omega
    rw [List.getElem?_eq_getElem hlt]
    congr 1
    rw [getElem!_pos _ _ (by simpa using hlt)]
    simp
  · rw [List.getElem?_eq_none (by simp [madeCells]; omega), List.getElem?_eq_none (by omega)]

theorem run_build_disk (W : World) (b n m : Nat) : (Instr.build 58 #[(0, .agg #[.int .i64 (-1)]), (1, .slice (some ⟨b, 0, none⟩) n n), (2, .map (some m))]).run Tryd.prog W =
    .ok (.agg #[.int .i64 (-1), .slice (some ⟨b, 0, none⟩) n n, .map (some m), .int .i64 0]) W := by kernel_rfl

/-- 'New' hands over a disk of its own. -/
def NewDisk (w : World) (D : Dk) (e : Ending) (w' : World) : Prop := ∃ p s m, e = .returned (.pointer (some ⟨p, 0, none⟩)) ∧ DiskAt w' p s m D ∧ w.heap.size ≤ p ∧ w.heap.size ≤ s ∧ w.heap.size ≤ m ∧ Fr [] w w'

section laws
variable {ops : Array Oper} {rest : List Oper} {o : Oper} {a : Act} {w : World} {Q : Exit → Act → World → Prop}
theorem wpList_make_secs (hgd : o.guard = none) (x y : Operand) (ho : o.op = .makeSlice 55 x y) (n : Nat) {L C : Int} (hx : a.eval x = .int .i64 L) (hy : a.eval y = .int .i64 C) (hL : L = (n : Int)) (hC : C = (n : Int)) (hn : n ≤ 4096)
    (h : ∀ w', Blk w' w.heap.size (.cells (secsL (List.replicate n Sec.zero)).toArray tState (0, 0)) → Fr [] w w' → wpList Tryd.prog ops Q rest (a.put o.dst (.slice (some ⟨w.heap.size, 0, none⟩) n n)) w') : wpList Tryd.prog ops Q (o :: rest) a w := by
  obtain ⟨i, hi, hz0, hz1⟩ := info_state
  have hby : i.bytes = 40 := by
    have : (Tryd.prog.info? tState).map (·.bytes) = some 40 := by kernel_rfl
    rw [hi] at this; simpa using this
  refine wpList_make_full w hgd x y 55 ho w.heap.size tState i (secV Sec.zero) 33 Tryd.underlying55 hi hz0 hz1 .i64 .i64 L C n hx hy hL hC (by rw [hby]; omega) (by unfold maxLen; omega) (Nat.le_refl _) ?_
  intro w' h1 h2
  refine h w' ?_ (Fr.of_grown h2)
  rw [madeSecs] at h1
  obtain ⟨h3, h4 | ⟨g, cap, cur, e1, e2, e3, e4, e5, e6, e7⟩⟩ := h1
  · cases h4.1
  · simp only [Value.slice.injEq, Option.some.injEq, Addr.mk.injEq, and_true] at e1
    obtain ⟨rfl, _, rfl⟩ := e1
    refine ⟨e3.trans ?_⟩
    rw [List.take_of_length_le (by rw [Array.length_toList, e6]; exact Nat.le_refl _)] at e7
    rw [← e7]
end laws

set_option maxHeartbeats 400000 in
theorem disk_New (w : World) (n : Int) (h1 : -9223372036854775808 ≤ n) (h2 : n < 9223372036854775808) :
    Calls Tryd.prog 7 #[.int .i64 n] w (NewDisk w (Dk.new n)) := by
  obtain ⟨k, hk, hk2⟩ : ∃ k : Nat, min (max n 0) 4096 = (k : Int) ∧ k ≤ 4096 := ⟨(min (max n 0) 4096).toNat, by omega, by omega⟩
  have HK := Lib.hid hk
  obtain ⟨mx, hmx⟩ : ∃ mx, max n 0 = mx := ⟨_, rfl⟩
  have hmx1 : 0 ≤ mx := by omega
  have hmx2 : mx < 9223372036854775808 := by omega
  have Hmx := Lib.hid hmx
  have Hmn : Hid (min mx 4096 = (k : Int)) := by rw [← hmx]; exact hk
  clear hk hmx
  have hmm := @run_makeMap Tryd.prog
  go_enter Tryd.func7, Tryd.ntmps7
  go_wp2_with (first
    | ((with_reducible show wpList _ _ _ (Oper.mk (some 5) _ _ _ _ _ :: _) _ _); refine wpList_max rfl _ _ rfl rfl rfl Hmx.out ?_)
    | ((with_reducible show wpList _ _ _ (Oper.mk (some 6) _ _ _ _ _ :: _) _ _); refine wpList_min rfl _ _ rfl rfl rfl Hmn.out ?_)
    | (at_make; refine wpList_make_secs rfl _ _ rfl k rfl rfl rfl rfl hk2 ?_; intro w1 B1 f1; have hb := run_build_disk (w1.alloc (.map #[] 0)) w.heap.size k w1.heap.size))
  go_ret
  have hd : Dk.new n = ⟨List.replicate k Sec.zero, [], 0, -1⟩ := by unfold Dk.new; rw [HK.out]; rfl
  rw [hd]
  have hlt := B1.lt
  have hok : Dk.ok ⟨List.replicate k Sec.zero, [], 0, -1⟩ := by
    refine ⟨by simpa using hk2, fun s hs => ?_, fun p hp => by simp at hp, by simp, ?_⟩
    · obtain ⟨_, rfl⟩ := List.mem_replicate.1 hs
      simp [Sec.ok, Sec.zero]
    · show -1 ≤ (-1 : Int) ∧ (-1 : Int) ≤ 9223372036854775807; omega
  have hh := Go.heap_alloc_new (w1.alloc (.map #[] 0)) (.cells #[.int .i64 (-1), .slice (some ⟨w.heap.size, 0, none⟩) k k, .map (some w1.heap.size), .int .i64 0] 58)
  have f2 : Fr [] w1 ((w1.alloc (.map #[] 0)).alloc (.cells #[.int .i64 (-1), .slice (some ⟨w.heap.size, 0, none⟩) k k, .map (some w1.heap.size), .int .i64 0] 58)) := (Fr.alloc _ _).trans (Fr.alloc _ _)
  have hm : MapIs (w1.alloc (.map #[] 0)) w1.heap.size [] := ⟨#[], 0, Go.heap_alloc_new w1 _, rfl, by simp, by simp⟩
  simp only [World.size_alloc] at hh
  refine ⟨w1.heap.size + 1, w.heap.size, w1.heap.size, rfl, ⟨hok, ?_, (B1.keep0 f2).out, hm.keep (Fr.alloc _ _) (by simp), by omega, by omega, by omega⟩, by omega, Nat.le_refl _, by omega, f1.trans f2⟩
  rw [hh]
  simp

/-! ### the small calls -/
theorem disk_Fuse {w : World} {p s m : Nat} {D : Dk} (h : DiskAt w p s m D) (n : Int) (h1 : -9223372036854775808 ≤ n) (h2 : n < 9223372036854775808) :
    Calls Tryd.prog 24 #[.pointer (some ⟨p, 0, none⟩), .int .i64 n] w fun e w' => e = .returned (.tuple #[]) ∧ DiskAt w' p s m (D.fuseTo n) ∧ Fr [p] w w' := by
  go_enter Tryd.func24, Tryd.ntmps24
  go_wp2_with (go_at_call 44; refine (power_set h n (by omega)).mono ?_; rintro e w' ⟨rfl, h3, h4⟩)
  go_end0
  exact ⟨rfl, h3, h4⟩
theorem disk_Fuse_nil (w : World) (n : Int) :
    Calls Tryd.prog 24 #[.pointer none, .int .i64 n] w fun e w' => e = .returned (.tuple #[]) ∧ w = w' := by
  go_enter Tryd.func24, Tryd.ntmps24
  go_wp2
  go_end0
  exact ⟨rfl, rfl⟩
theorem disk_Writes {w : World} {p s m : Nat} {D : Dk} (h : DiskAt w p s m D) :
    Calls Tryd.prog 25 #[.pointer (some ⟨p, 0, none⟩)] w fun e w' => e = .returned (.int .i64 D.writes) ∧ w = w' := by
  have c3 : w.cell? ⟨p, 3, none⟩ = some (.int .i64 D.writes) := cellOf h.head rfl
  go_enter Tryd.func25, Tryd.ntmps25
  go_wp2
  go_ret
  exact ⟨rfl, rfl⟩
theorem disk_Writes_nil (w : World) :
    Calls Tryd.prog 25 #[.pointer none] w fun e w' => e = .returned (.int .i64 0) ∧ w = w' := by
  go_enter Tryd.func25, Tryd.ntmps25
  go_wp2
  go_ret
  exact ⟨rfl, rfl⟩
theorem disk_Size_nil (w : World) :
    Calls Tryd.prog 45 #[.pointer none] w fun e w' => e = .returned (.int .i64 0) ∧ w = w' := by
  go_enter Tryd.func45, Tryd.ntmps45
  go_wp2
  go_ret
  exact ⟨rfl, rfl⟩
theorem disk_Pending_nil (w : World) :
    Calls Tryd.prog 26 #[.pointer none] w fun e w' => e = .returned (.int .i64 0) ∧ w = w' := by
  go_enter Tryd.func26, Tryd.ntmps26
  go_wp2
  go_ret
  exact ⟨rfl, rfl⟩
theorem wpList_len_map {ops : Array Oper} {rest : List Oper} {o : Oper} {a : Act} {w : World} {Q : Exit → Act → World → Prop} (hg : o.guard = none) (x : Operand) {T : TypeId} (ho : o.op = .call { callee := .builtin .len, args := #[x], argTypes := #[T] }) {K E : TypeId} (hT : Tryd.prog.underlying T = some (.map K E)) {m : Nat} {L : List (Int × Value)} (hx : a.eval x = .map (some m)) (hm : MapIs w m L)
    (h : wpList Tryd.prog ops Q rest (a.put o.dst (.int .i64 (L.length : Nat))) w) : wpList Tryd.prog ops Q (o :: rest) a w := by
  obtain ⟨es, clock, h1, h2, _⟩ := hm.out
  have hl : es.size = L.length := by simpa using congrArg List.length h2
  refine wpList_plain hg fun K' hK => wp_of_value (exec_builtin ho (vs := #[.map (some m)]) (by simp [hx]) (fun cs => ?_)) (hK _ _ h)
  simp [builtin, Builtin.len_, run_underlying hT, getObj, Sem.run, h1, goInt, hl, Result.andThen]
theorem disk_Pending {w : World} {p s m : Nat} {D : Dk} (h : DiskAt w p s m D) :
    Calls Tryd.prog 26 #[.pointer (some ⟨p, 0, none⟩)] w fun e w' => e = .returned (.int .i64 (D.pend.length : Nat)) ∧ w = w' := by
  have c2 : w.cell? ⟨p, 2, none⟩ = some (.map (some m)) := cellOf h.head rfl
  go_enter Tryd.func26, Tryd.ntmps26
  go_wp2_with ((with_reducible show wpList _ _ _ (Oper.mk _ (Op.call (Call.mk (Callee.builtin _) _ _)) _ _ _ _ :: _) _ _); refine wpList_len_map rfl _ rfl Tryd.underlying56 rfl h.pend ?_)
  go_ret
  refine ⟨?_, rfl⟩
  have : (pendL D.pend).length = D.pend.length := by simp [pendL]
  rw [← this]
  rfl
end Gd
