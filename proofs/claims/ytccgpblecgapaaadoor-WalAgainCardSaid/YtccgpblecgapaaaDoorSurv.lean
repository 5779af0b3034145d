/- The walk through disk.survives. -/
import Derived.Test.YtccgpblecgapaaaDoorDisk
set_option linter.unusedSimpArgs false
set_option linter.unusedVariables false
namespace Gd
open Go Go.Proofs Go.RowKit

set_option maxRecDepth 100000 in
set_option maxHeartbeats 400000 in
theorem surv_a {w : World} {s t : Sec} (hs : s.ok) (ht : t.ok) (number keep torn cut : Int) (h1 : number = torn) (h2 : 32 ≤ cut) :
    Calls Tryd.prog 43 #[secV s, secV t, .int .i64 number, .int .i64 keep, .int .i64 torn, .int .i64 cut] w fun e w' => e = .returned (secV t) ∧ Fr [] w w' := by
  subst h1
  have g1 : (number == number) = true := by simp
  go_enter Tryd.func43, Tryd.ntmps43
  go_wp2_with (first
    | ((with_reducible show wpList _ _ _ (Oper.mk (some 6) _ _ _ _ _ :: _) _ _); refine wpList_box_agg rfl tState _ rfl rfl ?_; intro b1 w1 hb1 hb1' B1 f1; have e1 := f1.size)
    | ((with_reducible show wpList _ _ _ (Oper.mk (some 7) _ _ _ _ _ :: _) _ _); refine wpList_box_agg rfl tState _ rfl rfl ?_; intro b2 w2 hb2 hb2' B2 f2; have e2 := f2.size; have B1' := B1.keep0 f2)
    | ((with_reducible show wpList _ _ _ (Oper.mk (some 12) _ _ _ _ _ :: _) _ _); refine wpList_alloc_agg rfl tState rfl zero_state ?_; intro b3 w3 hb3 hb3' B3 f3; have e3 := f3.size; have B1'' := B1'.keep0 f3; have B2' := B2.keep0 f3)
    | ((with_reducible show wpList _ _ _ (Oper.mk (some 21) _ _ _ _ _ :: _) _ _); refine wpList_load_whole rfl _ _ rfl b2 33 rfl Tryd.underlying83 rfl sz_state B2' (length_secL ht) ?_)
    | ((with_reducible show wpList _ _ _ (Oper.mk none (Op.store _ (.tmp 12) _) _ _ _ _ :: _) _ _); refine wpList_store_whole rfl _ _ _ rfl b3 33 rfl rfl sz_state B3 (length_secL ht) zero_len (secL_oneCell _) ?_; intro w4 B4 f4))
  refine bodyPost_ret (results_cell rfl _ _ b3 _ _ _ _ rfl B4 Tryd.underlying83 rfl (by rw [List.size_toArray, length_secL ht]; exact sz_state)) rfl ⟨rfl, ?_⟩
  exact ((f1.trans f2).trans f3).then f4 (by simp; omega)


theorem i64_and1 (n : Int) : bits .and .i64 n 1 = n % 2 := by
  have h1 : (BitVec.ofInt 64 1).toNat = 2 ^ 1 - 1 := by decide
  have key : (BitVec.ofInt 64 n &&& BitVec.ofInt 64 1).toNat = (n % ((2 ^ 64 : Nat) : Int)).toNat % 2 ^ 1 := by
    rw [BitVec.toNat_and, BitVec.toNat_ofInt, h1, Nat.and_two_pow_sub_one_eq_mod]
  show IntKind.i64.wrap ((BitVec.ofInt 64 n &&& BitVec.ofInt 64 1).toNat : Nat) = n % 2
  rw [key, IntKind.wrap_i64]
  omega
theorem keepBit_eq (keep : Int) (n : Nat) : (bits .and .i64 (keep / 2 ^ n) 1 == 1) = keepBit keep n := by
  rw [i64_and1]; rfl

set_option maxRecDepth 100000 in
set_option maxHeartbeats 400000 in
theorem surv_c {w : World} {s t : Sec} (hs : s.ok) (ht : t.ok) (number : Nat) (keep torn cut : Int) (h1 : (number : Int) ≠ torn) (h2 : number < 62) (h3 : keepBit keep number = true) :
    Calls Tryd.prog 43 #[secV s, secV t, .int .i64 number, .int .i64 keep, .int .i64 torn, .int .i64 cut] w fun e w' => e = .returned (secV t) ∧ Fr [] w w' := by
  have g1 : ((number : Int) == torn) = false := by simpa using h1
  have g3 := (keepBit_eq keep number).trans h3
  have HT := ht
  clear h1 h3
  go_enter Tryd.func43, Tryd.ntmps43
  go_wp2_with (first
    | ((with_reducible show wpList _ _ _ (Oper.mk (some 6) _ _ _ _ _ :: _) _ _); refine wpList_box_agg rfl tState _ rfl rfl ?_; intro b1 w1 hb1 hb1' B1 f1; have e1 := f1.size)
    | ((with_reducible show wpList _ _ _ (Oper.mk (some 7) _ _ _ _ _ :: _) _ _); refine wpList_box_agg rfl tState _ rfl rfl ?_; intro b2 w2 hb2 hb2' B2 f2; have e2 := f2.size; have B1' := B1.keep0 f2)
    | ((with_reducible show wpList _ _ _ (Oper.mk (some 12) _ _ _ _ _ :: _) _ _); refine wpList_alloc_agg rfl tState rfl zero_state ?_; intro b3 w3 hb3 hb3' B3 f3; have e3 := f3.size; have B1'' := B1'.keep0 f3; have B2' := B2.keep0 f3)
    | ((with_reducible show wpList _ _ _ (Oper.mk (some 44) _ _ _ _ _ :: _) _ _); refine wpList_load_whole rfl _ _ rfl b2 33 rfl Tryd.underlying83 rfl sz_state B2' (length_secL ht) ?_)
    | ((with_reducible show wpList _ _ _ (Oper.mk (some 45) _ _ _ _ _ :: _) _ _); refine wpList_load_whole rfl _ _ rfl b1 33 rfl Tryd.underlying83 rfl sz_state B1'' (length_secL hs) ?_)
    | ((with_reducible show wpList _ _ _ (Oper.mk none (Op.store _ (.tmp 12) _) _ _ _ _ :: _) _ _); refine wpList_store_whole rfl _ _ _ rfl b3 33 rfl rfl sz_state B3 (length_secL HT) zero_len (secL_oneCell _) ?_; intro w4 B4 f4))
  refine bodyPost_ret (results_cell rfl _ _ b3 _ _ _ _ rfl B4 Tryd.underlying83 rfl (by rw [List.size_toArray, length_secL HT]; exact sz_state)) rfl ⟨rfl, ?_⟩
  exact ((f1.trans f2).trans f3).then f4 (by simp; omega)

set_option maxRecDepth 100000 in
set_option maxHeartbeats 400000 in
theorem surv_d {w : World} {s t : Sec} (hs : s.ok) (ht : t.ok) (number : Nat) (keep torn cut : Int) (h1 : (number : Int) ≠ torn) (h3 : number < 62 → keepBit keep number = false) :
    Calls Tryd.prog 43 #[secV s, secV t, .int .i64 number, .int .i64 keep, .int .i64 torn, .int .i64 cut] w fun e w' => e = .returned (secV s) ∧ Fr [] w w' := by
  have g1 : ((number : Int) == torn) = false := by simpa using h1
  have HT := hs
  clear h1
  by_cases h2 : number < 62
  · have g3 := (keepBit_eq keep number).trans (h3 h2)
    clear h3
    go_enter Tryd.func43, Tryd.ntmps43
    go_wp2_with (first
      | ((with_reducible show wpList _ _ _ (Oper.mk (some 6) _ _ _ _ _ :: _) _ _); refine wpList_box_agg rfl tState _ rfl rfl ?_; intro b1 w1 hb1 hb1' B1 f1; have e1 := f1.size)
      | ((with_reducible show wpList _ _ _ (Oper.mk (some 7) _ _ _ _ _ :: _) _ _); refine wpList_box_agg rfl tState _ rfl rfl ?_; intro b2 w2 hb2 hb2' B2 f2; have e2 := f2.size; have B1' := B1.keep0 f2)
      | ((with_reducible show wpList _ _ _ (Oper.mk (some 12) _ _ _ _ _ :: _) _ _); refine wpList_alloc_agg rfl tState rfl zero_state ?_; intro b3 w3 hb3 hb3' B3 f3; have e3 := f3.size; have B1'' := B1'.keep0 f3; have B2' := B2.keep0 f3)
      | ((with_reducible show wpList _ _ _ (Oper.mk (some 44) _ _ _ _ _ :: _) _ _); refine wpList_load_whole rfl _ _ rfl b2 33 rfl Tryd.underlying83 rfl sz_state B2' (length_secL ht) ?_)
      | ((with_reducible show wpList _ _ _ (Oper.mk (some 45) _ _ _ _ _ :: _) _ _); refine wpList_load_whole rfl _ _ rfl b1 33 rfl Tryd.underlying83 rfl sz_state B1'' (length_secL hs) ?_)
      | ((with_reducible show wpList _ _ _ (Oper.mk none (Op.store _ (.tmp 12) _) _ _ _ _ :: _) _ _); refine wpList_store_whole rfl _ _ _ rfl b3 33 rfl rfl sz_state B3 (length_secL HT) zero_len (secL_oneCell _) ?_; intro w4 B4 f4))
    refine bodyPost_ret (results_cell rfl _ _ b3 _ _ _ _ rfl B4 Tryd.underlying83 rfl (by rw [List.size_toArray, length_secL HT]; exact sz_state)) rfl ⟨rfl, ?_⟩
    exact ((f1.trans f2).trans f3).then f4 (by simp; omega)
  · clear h3
    go_enter Tryd.func43, Tryd.ntmps43
    go_wp2_with (first
      | ((with_reducible show wpList _ _ _ (Oper.mk (some 6) _ _ _ _ _ :: _) _ _); refine wpList_box_agg rfl tState _ rfl rfl ?_; intro b1 w1 hb1 hb1' B1 f1; have e1 := f1.size)
      | ((with_reducible show wpList _ _ _ (Oper.mk (some 7) _ _ _ _ _ :: _) _ _); refine wpList_box_agg rfl tState _ rfl rfl ?_; intro b2 w2 hb2 hb2' B2 f2; have e2 := f2.size; have B1' := B1.keep0 f2)
      | ((with_reducible show wpList _ _ _ (Oper.mk (some 12) _ _ _ _ _ :: _) _ _); refine wpList_alloc_agg rfl tState rfl zero_state ?_; intro b3 w3 hb3 hb3' B3 f3; have e3 := f3.size; have B1'' := B1'.keep0 f3; have B2' := B2.keep0 f3)
      | ((with_reducible show wpList _ _ _ (Oper.mk (some 44) _ _ _ _ _ :: _) _ _); refine wpList_load_whole rfl _ _ rfl b2 33 rfl Tryd.underlying83 rfl sz_state B2' (length_secL ht) ?_)
      | ((with_reducible show wpList _ _ _ (Oper.mk (some 45) _ _ _ _ _ :: _) _ _); refine wpList_load_whole rfl _ _ rfl b1 33 rfl Tryd.underlying83 rfl sz_state B1'' (length_secL hs) ?_)
      | ((with_reducible show wpList _ _ _ (Oper.mk none (Op.store _ (.tmp 12) _) _ _ _ _ :: _) _ _); refine wpList_store_whole rfl _ _ _ rfl b3 33 rfl rfl sz_state B3 (length_secL HT) zero_len (secL_oneCell _) ?_; intro w4 B4 f4))
    refine bodyPost_ret (results_cell rfl _ _ b3 _ _ _ _ rfl B4 Tryd.underlying83 rfl (by rw [List.size_toArray, length_secL HT]; exact sz_state)) rfl ⟨rfl, ?_⟩
    exact ((f1.trans f2).trans f3).then f4 (by simp; omega)


theorem run_sliceAt_array_to {w : World} (b : Nat) (o k : Nat) (hk : k ≤ 32) : (Instr.sliceAt 81 (.pointer (some ⟨b, o, none⟩)) none (some (.int .i64 (k : Int))) none).run Tryd.prog w = .ok (.slice (some ⟨b, o, none⟩) k 32) w := by
  have h5 : (Tryd.prog.info? tb).map (·.size) = some 1 := by kernel_rfl
  unfold Instr.sliceAt
  simp only [Sem.run_bind, run_underlying Tryd.underlying81 w, Result.andThen_ok, Instr.sureAddr, Sem.run_pure, Instr.sliceBounds, run_sliceBound k 32 _ hk]
  cases hq : Tryd.prog.info? tb with
  | none => simp [hq] at h5
  | some inf =>
    have : inf.size = 1 := by simpa [hq] using h5
    simp [Go.sizeOf, typeInfo, hq, add_lit, run_sliceBound k 32 _ hk]

theorem splice_sec {s t : Sec} (hs : s.ok) (ht : t.ok) (k : Nat) (hk : k ≤ 32) :
    (secL s).toArray.toList.take 0 ++ bcells (t.bytes.take k) ++ (secL s).toArray.toList.drop (0 + (bcells (t.bytes.take k)).length) = secL ⟨t.bytes.take k ++ s.bytes.drop k, s.num⟩ := by
  have h1 : s.bytes.length = 32 := hs
  have h2 : t.bytes.length = 32 := ht
  have h3 : (bcells (t.bytes.take k)).length = k := by simp; omega
  rw [h3]
  simp only [List.take_zero, List.nil_append, Nat.zero_add, secL, bcells_append, List.append_assoc]
  rw [List.drop_append_of_le_length (by simp; omega)]
  congr 1
  simp [bcells, List.map_drop]

theorem torn_ok {s t : Sec} (hs : s.ok) (ht : t.ok) (k : Nat) (hk : k ≤ 32) : (Sec.mk (t.bytes.take k ++ s.bytes.drop k) s.num).ok := by
  have h1 : s.bytes.length = 32 := hs
  have h2 : t.bytes.length = 32 := ht
  show (t.bytes.take k ++ s.bytes.drop k).length = 32
  simp; omega

set_option maxRecDepth 100000 in
set_option maxHeartbeats 400000 in
theorem surv_b {w : World} {s t : Sec} (hs : s.ok) (ht : t.ok) (number keep torn cut : Int) (h1 : number = torn) (h2 : ¬ 32 ≤ cut) :
    Calls Tryd.prog 43 #[secV s, secV t, .int .i64 number, .int .i64 keep, .int .i64 torn, .int .i64 cut] w fun e w' => e = .returned (secV ⟨t.bytes.take cut.toNat ++ s.bytes.drop cut.toNat, s.num⟩) ∧ Fr [] w w' := by
  subst h1
  have g1 : (number == number) = true := by simp
  have hmax : (if 0 > cut then (0 : Int) else cut) = (cut.toNat : Int) := by split <;> omega
  have hk : cut.toNat ≤ 32 := by omega
  generalize cut.toNat = k at *
  have HT := torn_ok hs ht k hk
  go_enter Tryd.func43, Tryd.ntmps43
  go_wp2_with (first
    | ((with_reducible show wpList _ _ _ (Oper.mk (some 6) _ _ _ _ _ :: _) _ _); refine wpList_box_agg rfl tState _ rfl rfl ?_; intro b1 w1 hb1 hb1' B1 f1; have e1 := f1.size)
    | ((with_reducible show wpList _ _ _ (Oper.mk (some 7) _ _ _ _ _ :: _) _ _); refine wpList_box_agg rfl tState _ rfl rfl ?_; intro b2 w2 hb2 hb2' B2 f2; have e2 := f2.size; have B1' := B1.keep0 f2)
    | ((with_reducible show wpList _ _ _ (Oper.mk (some 12) _ _ _ _ _ :: _) _ _); refine wpList_alloc_agg rfl tState rfl zero_state ?_; intro b3 w3 hb3 hb3' B3 f3; have e3 := f3.size; have B1'' := B1'.keep0 f3; have B2' := B2.keep0 f3))
  refine wp_region_mid1 (C := fun W => W = w3.drew) 6 (by kernel_rfl) (by kernel_rfl) rfl rfl rfl ?_
  refine wpQuiet_field rfl _ _ _ rfl rfl (.pointer (some ⟨b1, 0, none⟩)) (fun W => by kernel_rfl) ?_; simp only [Act.put, List.setIfInBounds_toArray, List.set_cons_succ, List.set_cons_zero]
  refine wpQuiet_move rfl _ rfl (v := .int .i64 cut) rfl ?_; simp only [Act.put, List.setIfInBounds_toArray, List.set_cons_succ, List.set_cons_zero]
  refine wpQuiet_val rfl (.int .i64 (k : Int)) (fun W hW => ?_) ?_
  · refine exec_builtin rfl (by simp [Act.eval]; exact rfl) (fun cs => ?_)
    simp [builtin, Builtin.max_, Builtin.max2, hmax]
  simp only [Act.put, List.setIfInBounds_toArray, List.set_cons_succ, List.set_cons_zero]
  refine wpQuiet_val rfl (.slice (some ⟨b1, 0, none⟩) k 32) (fun W hW => ?_) ?_
  · show (execOp _ _).run _ W = _
    simp [execOp, Act.eval, run_sliceAt_array_to b1 0 k hk]
  simp only [Act.put, List.setIfInBounds_toArray, List.set_cons_succ, List.set_cons_zero]
  refine wpQuiet_field rfl _ _ _ rfl rfl (.pointer (some ⟨b2, 0, none⟩)) (fun W => by kernel_rfl) ?_; simp only [Act.put, List.setIfInBounds_toArray, List.set_cons_succ, List.set_cons_zero]
  refine wpQuiet_val rfl (.slice (some ⟨b2, 0, none⟩) 32 32) (fun W hW => ?_) ?_
  · show (execOp _ _).run _ W = _
    simp [execOp, Act.eval, run_sliceAt_array b2 0]
  simp only [Act.put, List.setIfInBounds_toArray, List.set_cons_succ, List.set_cons_zero]
  refine wpQuiet_nil ?_
  rintro W rfl
  have hcl : (bcells (t.bytes.take k)).length = k := by have h2 : t.bytes.length = 32 := ht; simp; omega
  have B1d := B1''.keep0 (Fr.drew w3)
  have B2d := B2'.keep0 (Fr.drew w3)
  have B3d := B3.keep0 (Fr.drew w3)
  have hcp := fun cs => show (builtin .copy #[tB, tB] 3 cs #[.slice (some ⟨b1, 0, none⟩) k 32, .slice (some ⟨b2, 0, none⟩) 32 32]).run Tryd.prog w3.drew = .ok (.value (.int .i64 (k : Int))) (w3.drew.setRow b1 (secL ⟨t.bytes.take k ++ s.bytes.drop k, s.num⟩).toArray) by
    have := run_copy_row (P := Tryd.prog) w3.drew tB tB 3 tb b1 0 k 32 ⟨b2, 0, none⟩ 32 32 (secL s).toArray tState (bcells (t.bytes.take k)) Tryd.underlying23 (by kernel_rfl) B1d.out
      (by rw [hcl]; show _ = min 32 k; omega) (fun j v hj => by
        rw [add_lit, cell_of_row _ _ _ _ _ _ B2d.out]
        have hlt := (List.getElem?_eq_some_iff.1 hj).1
        rw [bcells_getElem?, List.getElem?_take, if_pos (by omega)] at hj
        simp only [Nat.zero_add, secL, List.getElem?_toArray]
        have hl : j < (bcells t.bytes).length := by
          have : (bcells t.bytes).length = 32 := by simp; exact ht
          omega
        rw [List.getElem?_append_left hl, bcells_getElem?]
        exact hj) (by rw [hcl, List.size_toArray, length_secL hs]; omega) (bcells_oneCell _)
    rw [splice_sec hs ht _ hk, hcl] at this
    simp only [builtin, Sem.run_bind, this, Result.andThen_ok]
    rfl
  have B4 : Blk (w3.drew.setRow b1 (secL ⟨t.bytes.take k ++ s.bytes.drop k, s.num⟩).toArray) b1 (.cells (secL ⟨t.bytes.take k ++ s.bytes.drop k, s.num⟩).toArray tState (0, 0)) := ⟨setRow_heap _ _ _ _ _ _ B1d.out⟩
  have f4 := Fr.setRow w3.drew b1 (secL ⟨t.bytes.take k ++ s.bytes.drop k, s.num⟩).toArray
  have B3e := B3d.keep f4 (by simp; omega)
  refine wp_of_value (exec_builtin (P := Tryd.prog) rfl (by simp [Act.eval]) hcp) ?_
  generalize hW4 : w3.drew.setRow b1 (secL ⟨t.bytes.take k ++ s.bytes.drop k, s.num⟩).toArray = w4 at *
  clear hW4 hcp
  refine wpQuiet_nil ?_
  go_wp2_with (first
    | ((with_reducible show wpList _ _ _ (Oper.mk (some 33) _ _ _ _ _ :: _) _ _); refine wpList_load_whole rfl _ _ rfl b1 33 rfl Tryd.underlying83 rfl sz_state B4 (length_secL HT) ?_)
    | ((with_reducible show wpList _ _ _ (Oper.mk none (Op.store _ (.tmp 12) _) _ _ _ _ :: _) _ _); refine wpList_store_whole rfl _ _ _ rfl b3 33 rfl rfl sz_state B3e (length_secL HT) zero_len (secL_oneCell _) ?_; intro w5 B5 f5))
  refine bodyPost_ret (results_cell rfl _ _ b3 _ _ _ _ rfl B5 Tryd.underlying83 rfl (by rw [List.size_toArray, length_secL HT]; exact sz_state)) rfl ⟨rfl, ?_⟩
  exact (((((f1.trans f2).trans f3).trans (Fr.drew w3)).then f4 (by simp; omega))).then f5 (by simp; omega)
end Gd
