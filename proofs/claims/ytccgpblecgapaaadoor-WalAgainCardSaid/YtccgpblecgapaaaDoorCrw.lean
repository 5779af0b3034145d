/- disk.Crash: the walk. -/
import Derived.Test.YtccgpblecgapaaaDoorCra
import Derived.Test.YtccgpblecgapaaaDoorDiskNew
import Derived.Test.YtccgpblecgapaaaDoorConcat
set_option linter.unusedSimpArgs false
set_option linter.unusedVariables false
namespace Gd
open Go Go.Proofs Go.RowKit

theorem VS.of_owns {B : Nat} {e : TypeId} {w : World} {v : Value} {us : List Value} (h : w.ownsRow B e 1 v us.length us) : VS w v us := by
  obtain ⟨h0, h1 | ⟨g, cap, cur, h1, h2, h3, h4, h5, h6, h7⟩⟩ := h
  · have : us = [] := List.eq_nil_of_length_eq_zero h1.2
    exact ⟨.inl ⟨h1.1, this⟩⟩
  · refine ⟨.inr ⟨g, 0, cap, cur, e, (0, 0), h1, h4, h5, h3, fun i b hi => ?_⟩⟩
    rw [Nat.mul_one] at h7
    have hlt := (List.getElem?_eq_some_iff.1 hi).1
    have : (cur.toList.take us.length)[i]? = some b := by rw [h7, hi]
    rw [List.getElem?_take, if_pos hlt] at this
    simpa using this

theorem keys_ge {D : Dk} (h : D.ok) : ∀ k (hk : k < D.keys.length), k ≤ D.keys[k]
  | 0, _ => Nat.zero_le _
  | k + 1, hk => by
    have h1 := keys_ge h k (by omega)
    have := List.pairwise_iff_getElem.1 (keys_sorted h) k (k + 1) (by omega) hk (by omega)
    omega
theorem keys_le {D : Dk} (h : D.ok) : D.keys.length ≤ D.sure.length := by
  by_cases h0 : D.keys.length = 0
  · omega
  · have h1 := keys_ge h (D.keys.length - 1) (by omega)
    have h2 := keys_lt h (k := D.keys.length - 1) (by omega)
    omega
theorem wpQuiet_lookup {P : Program} {ops : Array Oper} {C : World → Prop} {Qa : Act → Prop} {a : Act} {o : Oper} {rest : List Oper} (hg : o.guard = none) (T : TypeId) (x y : Operand) (ho : o.op = .lookup T x y false) {m : Nat} {i : Int} (hx : a.eval x = .map (some m)) (hy : a.eval y = .int .i64 i)
    {K E : TypeId} {z v : Value} {L : List (Int × Value)} (hT : P.underlying T = some (.map K E)) (hk : P.underlying K = some (.int .i64)) (hz : (P.info? E).map (·.zero) = some (some z)) (hc : ∀ W, C W → MapIs W m L) (hl : L.lookup i = some v)
    (h : wpQuiet P ops C Qa rest (a.put o.dst v)) : wpQuiet P ops C Qa (o :: rest) a :=
  wpQuiet_val hg v (fun W hW => by
    have hr := run_lookup_ok hT hk hz (hc W hW) i false
    rw [hl] at hr
    simp only [Option.getD_some, Bool.false_eq_true, if_false] at hr
    unfold execOp
    rw [ho]
    simp only [hx, hy, Sem.run_bind, hr]
    rfl) h
def Dk.upTo (D : Dk) (keep torn cut : Int) (k : Nat) : Dk := { D with sure := crashTo D keep torn cut k }
structure CrInv (w : World) (p s m : Nat) (D : Dk) (keep torn cut : Int) (v i : Value) (W : World) : Prop where
  out : ∃ k : Nat, k ≤ D.keys.length ∧ i = .int .i64 k ∧ DiskAt W p s m (D.upTo keep torn cut k) ∧ VS W v (D.keys.map fun x : Nat => Value.int .i64 (x : Int)) ∧ Fr [s] w W

set_option maxRecDepth 100000 in
set_option maxHeartbeats 1000000 in
theorem disk_Crash {w : World} {p s m : Nat} {D : Dk} (h : DiskAt w p s m D) (keep torn cut : Int) :
    Calls Tryd.prog 22 #[.pointer (some ⟨p, 0, none⟩), .int .i64 keep, .int .i64 torn, .int .i64 cut] w fun e w' => e = .returned (.tuple #[]) ∧ DiskAt w' p s m (D.crash keep torn cut) ∧ Fr [p, s, m] w w' := by
  have hD := h.ok.len
  have c2 := h.c2
  obtain ⟨lp, ls, lm⟩ := h.lt
  have hkl := keys_length D
  have hkeys : ((pendL D.pend).map (·.1)).mergeSort (fun x y => decide (x ≤ y)) = D.keys.map (fun x : Nat => (x : Int)) := by
    have h1 : (pendL D.pend).map (·.1) = (D.pend.map (·.1)).map (fun x : Nat => (x : Int)) := by
      unfold pendL; rw [List.map_map, List.map_map]; rfl
    rw [h1]
    unfold Dk.keys
    exact (List.map_mergeSort (fun a _ b _ => by simp)).symm
  have hnd : ((pendL D.pend).map (·.1)).Nodup := by
    have h1 : (pendL D.pend).map (·.1) = (D.pend.map (·.1)).map (fun x : Nat => (x : Int)) := by
      unfold pendL; rw [List.map_map, List.map_map]; rfl
    rw [h1]
    exact List.Pairwise.map _ (fun a b hab he => hab (by omega)) h.ok.keys
  have hrange : ∀ q ∈ pendL D.pend, -9223372036854775808 ≤ q.1 ∧ q.1 < 9223372036854775808 := fun q hq => by
    obtain ⟨x, hx, rfl⟩ := List.mem_map.1 hq
    have := (h.ok.pend x hx).2
    simp only
    omega
  have hplen : D.pend.length ≤ 4096 := by
    have := keys_le h.ok
    omega
  have CS : Calls Tryd.prog 41 #[.func (.func 62) #[] #[.pointer (some ⟨w.heap.size, 0, none⟩)]] (w.alloc (.cells #[.map (some m)] 56)) fun e w' =>
      ∃ av cv, e = .returned (.slice av D.keys.length cv) ∧ VS w' (.slice av D.keys.length cv) (D.keys.map fun x : Nat => Value.int .i64 (x : Int)) ∧ (∀ g, (Value.slice av D.keys.length cv).ownBlock = some g → w.heap.size ≤ g) ∧ D.keys.length ≤ cv ∧ cv ≤ maxLen ∧ Fr [] w w' := by
    have hm : (w.alloc (.cells #[.map (some m)] 56)).cell? ⟨w.heap.size, 0, none⟩ = some (.map (some m)) := cellOf (Go.heap_alloc_new w (.cells #[.map (some m)] 56)) rfl
    have := slices_Sorted (h.keep0 (Fr.alloc w (.cells #[.map (some m)] 56))).pend hnd hrange (by simpa [pendL] using hplen) hm (by simp)
    refine this.mono ?_
    rintro e w' ⟨v, rfl, ho, hb⟩
    rw [hkeys, List.map_map] at ho
    have hl : (pendL D.pend).length = (D.keys.map (Value.int IntKind.i64 ∘ fun x : Nat => (x : Int))).length := by simp [pendL, hkl]
    rw [hl] at ho
    have hvs := VS.of_owns ho
    obtain ⟨av, cv, rfl, hc1, hc2⟩ := hvs.shape
    rw [List.length_map] at hc1 hvs ho ⊢
    refine ⟨av, cv, rfl, hvs, fun g hg => ?_, hc1, hc2, (Fr.alloc w _).trans (Fr.of_below hb)⟩
    have := (World.ownsRow.lt ho g hg).1
    simp at this
    omega
  have hkl1 : D.keys.length ≤ 4096 := by omega
  clear hkeys hnd hrange hplen hkl
  go_enter Tryd.func22, Tryd.ntmps22
  go_wp2_with (first
    | (go_at_call 42; refine (maps_Keys w m).mono ?_; rintro e w1 ⟨rfl, rfl⟩)
    | (go_at_call 41; refine CS.mono ?_; rintro e w2 ⟨av, cv, rfl, hv, hvg, hcv1, hcv2, f2⟩))
  go_loopw [19] (fun i W => CrInv w p s m D keep torn cut (.slice av D.keys.length cv) i W) (fun i _ => D.keys.length - (RowKit.intOf i).toNat)
  case atStart =>
    refine ⟨0, by omega, rfl, ?_, hv, f2.mono (by simp)⟩
    exact h.keep0 f2
  case round =>
    obtain ⟨k, hk, rfl, hDk, hvk, hF⟩ := hrel.out
    by_cases hlt : k < D.keys.length
    · obtain ⟨i, hi⟩ : ∃ i, i = D.keys[k] := ⟨_, rfl⟩
      have hil : i < D.sure.length := by rw [hi]; exact keys_lt h.ok hlt
      have hcell : ∃ g off, av = some ⟨g, off, none⟩ ∧ wr.cell? ⟨g, off + k, none⟩ = some (.int .i64 i) := by
        obtain ⟨g, off, h1, h2⟩ := hvk.cellAt (k := k) (by rw [List.length_map]; exact hlt)
        rw [List.getElem_map, ← hi] at h2
        exact ⟨g, off, h1, h2⟩
      obtain ⟨g, off, rfl, hcell⟩ := hcell
      have hgs : w.heap.size ≤ g := hvg g rfl
      obtain ⟨D1, hD1, hD1s⟩ : ∃ D1, D1 = D.upTo keep torn cut k ∧ D1.sure.length = D.sure.length := ⟨_, rfl, crashTo_length _ _ _ _⟩
      rw [← hD1] at hDk
      have hil1 : i < D1.sure.length := by omega
      obtain ⟨t, ht⟩ := keys_mem.1 (List.getElem_mem hlt)
      rw [← hi] at ht
      have hlk := lookup_of_mem h.ok.keys ht
      have hto := (h.ok.pend _ ht).1
      obtain ⟨sx, hsx, hso⟩ : ∃ sx, D1.sure[i]? = some sx ∧ sx.ok := ⟨D1.sure[i], List.getElem?_eq_getElem hil1, hDk.ok.sure _ (List.getElem_mem hil1)⟩
      have hsx2 : D.sure[i]? = some sx := by
        have h1 := crashTo_at h.ok keep torn cut i k (by omega)
        have h2 : ¬ ∃ j, j < k ∧ D.keys[j]? = some i := by
          rintro ⟨j, hj, hji⟩
          have hjl : j < D.keys.length := by omega
          rw [List.getElem?_eq_getElem hjl] at hji
          have := List.pairwise_iff_getElem.1 (keys_sorted h.ok) j k hjl hlt hj
          have := Option.some.inj hji
          omega
        rw [if_neg h2] at h1
        rw [← h1, ← hsx, hD1]; rfl
      obtain ⟨y, hy, hyo⟩ : ∃ y, y = survives sx t k keep torn cut ∧ y.ok := ⟨_, rfl, survives_ok hso hto _ _ _ _⟩
      have hnext : D.upTo keep torn cut (k + 1) = { D1 with sure := D1.sure.set i y } := by
        have hg : D.keys.getD k 0 = i := by rw [hi]; simp [List.getD_eq_getElem?_getD, List.getElem?_eq_getElem hlt]
        rw [hD1]
        unfold Dk.upTo
        simp only [crashTo, hg, Dk.pendOf, hlk, Option.getD_some, List.getD_eq_getElem?_getD, hsx2]
        rw [hy]
      have hex := secsL_extract hDk.ok.sure hsx
      have hsz : i * 33 + 33 ≤ (secsL D1.sure).toArray.size := by rw [List.size_toArray, length_secsL hDk.ok.sure]; omega
      have hlkp : (pendL D1.pend).lookup (i : Int) = some (secV t) := by
        rw [lookup_pendL, show D1.pend = D.pend by rw [hD1]; rfl, hlk]; rfl
      have CSv : ∀ W, Calls Tryd.prog 43 #[secV sx, secV t, .int .i64 k, .int .i64 keep, .int .i64 torn, .int .i64 cut] W fun e w' => e = .returned (secV y) ∧ Fr [] W w' := fun W => by rw [hy]; exact disk_survives hso hto k keep torn cut
      have HN := Lib.hid hnext
      have HX := Lib.hid hex
      have HK := Lib.hid hlkp
      have HS := Lib.hid hD1s
      have hs1 : D1.sure.length ≤ 4096 := by omega
      clear hD1 hD1s hlk hsx hsx2 hy hnext hex hlkp hi
      go_wp2
      have fd := Fr.drew wr
      refine wp_region_chain (C := fun X => Fr [] wr X) 24 (by kernel_rfl) (by kernel_rfl) fd ?_
      refine wpQuiet_move rfl _ rfl (v := .pointer (some ⟨p, 0, none⟩)) rfl ?_; simp only [Act.put, List.setIfInBounds_toArray, List.set_cons_succ, List.set_cons_zero]
      refine wpQuiet_nilCheck rfl _ rfl (ad := ⟨p, 0, none⟩) rfl ?_; simp only [Act.put, List.setIfInBounds_toArray, List.set_cons_succ, List.set_cons_zero]
      refine wpQuiet_field rfl _ _ _ rfl rfl (.pointer (some ⟨p, 1, none⟩)) (fun W => by kernel_rfl) ?_; simp only [Act.put, List.setIfInBounds_toArray, List.set_cons_succ, List.set_cons_zero]
      refine wpQuiet_load rfl _ _ rfl rfl (.slice (some ⟨s, 0, none⟩) D1.sure.length D1.sure.length) Tryd.underlying55 rfl (fun X hX => (hDk.keep0 hX).c1) ?_; simp only [Act.put, List.setIfInBounds_toArray, List.set_cons_succ, List.set_cons_zero]
      refine wpQuiet_move rfl _ rfl (v := .int .i64 i) rfl ?_; simp only [Act.put, List.setIfInBounds_toArray, List.set_cons_succ, List.set_cons_zero]
      refine wpQuiet_move rfl _ rfl (v := .pointer (some ⟨p, 0, none⟩)) rfl ?_; simp only [Act.put, List.setIfInBounds_toArray, List.set_cons_succ, List.set_cons_zero]
      refine wpQuiet_nilCheck rfl _ rfl (ad := ⟨p, 0, none⟩) rfl ?_; simp only [Act.put, List.setIfInBounds_toArray, List.set_cons_succ, List.set_cons_zero]
      refine wpQuiet_field rfl _ _ _ rfl rfl (.pointer (some ⟨p, 1, none⟩)) (fun W => by kernel_rfl) ?_; simp only [Act.put, List.setIfInBounds_toArray, List.set_cons_succ, List.set_cons_zero]
      refine wpQuiet_load rfl _ _ rfl rfl (.slice (some ⟨s, 0, none⟩) D1.sure.length D1.sure.length) Tryd.underlying55 rfl (fun X hX => (hDk.keep0 hX).c1) ?_; simp only [Act.put, List.setIfInBounds_toArray, List.set_cons_succ, List.set_cons_zero]
      refine wpQuiet_move rfl _ rfl (v := .int .i64 i) rfl ?_; simp only [Act.put, List.setIfInBounds_toArray, List.set_cons_succ, List.set_cons_zero]
      refine wpQuiet_index rfl _ _ _ rfl i .i64 33 rfl rfl Tryd.underlying55 sz_state hil1 ?_; simp only [Act.put, List.setIfInBounds_toArray, List.set_cons_succ, List.set_cons_zero]
      refine wpQuiet_loadA rfl _ _ rfl 33 rfl (secV sx) Tryd.underlying83 rfl sz_state (cs := (secsL D1.sure).toArray) (by rw [Nat.zero_add]; exact hsz) (fun X hX => ⟨(hDk.keep0 hX).sure⟩) (by rw [Nat.zero_add, HX.out]; rfl) ?_; simp only [Act.put, List.setIfInBounds_toArray, List.set_cons_succ, List.set_cons_zero]
      refine wpQuiet_move rfl _ rfl (v := .pointer (some ⟨p, 0, none⟩)) rfl ?_; simp only [Act.put, List.setIfInBounds_toArray, List.set_cons_succ, List.set_cons_zero]
      refine wpQuiet_nilCheck rfl _ rfl (ad := ⟨p, 0, none⟩) rfl ?_; simp only [Act.put, List.setIfInBounds_toArray, List.set_cons_succ, List.set_cons_zero]
      refine wpQuiet_field rfl _ _ _ rfl rfl (.pointer (some ⟨p, 2, none⟩)) (fun W => by kernel_rfl) ?_; simp only [Act.put, List.setIfInBounds_toArray, List.set_cons_succ, List.set_cons_zero]
      refine wpQuiet_load rfl _ _ rfl rfl (.map (some m)) Tryd.underlying56 rfl (fun X hX => (hDk.keep0 hX).c2) ?_; simp only [Act.put, List.setIfInBounds_toArray, List.set_cons_succ, List.set_cons_zero]
      refine wpQuiet_move rfl _ rfl (v := .int .i64 i) rfl ?_; simp only [Act.put, List.setIfInBounds_toArray, List.set_cons_succ, List.set_cons_zero]
      refine wpQuiet_lookup rfl _ _ _ rfl rfl rfl Tryd.underlying56 Tryd.underlying3 zero_state (fun X hX => (hDk.keep0 hX).pend) HK.out ?_; simp only [Act.put, List.setIfInBounds_toArray, List.set_cons_succ, List.set_cons_zero]
      refine wpQuiet_move rfl _ rfl (v := .int .i64 k) rfl ?_; simp only [Act.put, List.setIfInBounds_toArray, List.set_cons_succ, List.set_cons_zero]
      refine wpQuiet_move rfl _ rfl (v := .int .i64 keep) rfl ?_; simp only [Act.put, List.setIfInBounds_toArray, List.set_cons_succ, List.set_cons_zero]
      refine wpQuiet_move rfl _ rfl (v := .int .i64 torn) rfl ?_; simp only [Act.put, List.setIfInBounds_toArray, List.set_cons_succ, List.set_cons_zero]
      refine wpQuiet_move rfl _ rfl (v := .int .i64 cut) rfl ?_; simp only [Act.put, List.setIfInBounds_toArray, List.set_cons_succ, List.set_cons_zero]
      refine wpQuiet_call rfl (secV y) 43 #[secV sx, secV t, .int .i64 k, .int .i64 keep, .int .i64 torn, .int .i64 cut] (fun W => by kernel_rfl) (fun W hW => (CSv W).mono (fun e w' h => ⟨h.1, hW.trans h.2⟩)) ?_; simp only [Act.put, List.setIfInBounds_toArray, List.set_cons_succ, List.set_cons_zero]
      refine wpQuiet_index rfl _ _ _ rfl i .i64 33 rfl rfl Tryd.underlying55 sz_state hil1 ?_; simp only [Act.put, List.setIfInBounds_toArray, List.set_cons_succ, List.set_cons_zero]
      refine wpQuiet_nil ?_
      intro X hX
      have hDX := hDk.keep0 hX
      have hset : splice (secsL D1.sure).toArray (0 + i * 33) (secL y) = (secsL (D1.sure.set i y)).toArray := by rw [Nat.zero_add]; exact secsL_set hDX.ok.sure hil1 hyo
      obtain ⟨n1, n2, n3⟩ := hDX.ne
      have Hset := Lib.hid hset
      clear hset
      refine wpList_store_at rfl _ _ _ rfl s (0 + i * 33) 33 rfl rfl sz_state hDX.sure (length_secL hyo) (by rw [Nat.zero_add]; exact hsz) (secL_oneCell _) ?_
      rw [Hset.out]
      have f5 : Fr [s] X (X.setRow s (secsL (D1.sure.set i y)).toArray) := Fr.setRow X s _
      have hB5 := setRow_heap X s _ (secsL (D1.sure.set i y)).toArray _ _ hDX.sure
      generalize X.setRow s (secsL (D1.sure.set i y)).toArray = X5 at f5 hB5 ⊢
      have hD5 : DiskAt X5 p s m (D.upTo keep torn cut (k + 1)) := by
        rw [HN.out]
        refine ⟨⟨?_, ?_, ?_, hDX.ok.keys, hDX.ok.fuse⟩, ?_, hB5, hDX.pend.keep f5 (by simpa using Ne.symm n3), hDX.ne⟩
        · simpa using hs1
        · intro q hq
          rcases List.mem_or_eq_of_mem_set hq with h1 | rfl
          · exact hDX.ok.sure q h1
          · exact hyo
        · intro q hq; have := hDX.ok.pend q hq; simpa using this
        · have := f5.keep hDX.head (by simpa using n1)
          simpa using this
      have hF5 : Fr [s] w X5 := (hF.trans (hX.mono (by simp))).trans f5
      have hv5 : VS X5 (.slice (some ⟨g, off, none⟩) D.keys.length cv) (D.keys.map fun x : Nat => Value.int .i64 (x : Int)) := (hvk.keep0 hX).keep f5 (fun g' hg' => by
        have : g = g' := by simpa [Value.ownBlock] using hg'
        simp; omega)
      clear HN Hset hB5 hyo hso hto
      go_wp2
      exact ⟨⟨k + 1, by omega, by go_num, hD5, hv5, hF5⟩, by simp [RowKit.intOf]; omega⟩
    · obtain rfl : k = D.keys.length := by omega
      have hall := crashTo_all h.ok keep torn cut
      obtain ⟨D1, hD1, hD1e⟩ : ∃ D1, D1 = D.upTo keep torn cut D.keys.length ∧ Hid (D.crash keep torn cut = ({ D1 with pend := [] } : Dk).fuseTo (-1)) := ⟨_, rfl, by
        rw [Hid]; unfold Dk.crash Dk.upTo Dk.fuseTo; rw [hall]; rfl⟩
      rw [← hD1] at hDk
      clear hall hD1
      have d2 := hDk.c2
      obtain ⟨es, clock, hM, _⟩ := hDk.pend.out
      have HM : Blk wr m (.map es clock) := ⟨hM⟩
      obtain ⟨n1, n2, n3⟩ := hDk.ne
      go_wp2_with (first
        | ((with_reducible show wpList _ _ _ (Oper.mk _ (Op.call (Call.mk (Callee.builtin _) _ _)) _ _ _ _ :: _) _ _); refine wpList_clear_map rfl _ _ rfl Tryd.underlying56 rfl HM ?_; intro w6 f6 M6
           have h6 : DiskAt w6 p s m { D1 with pend := [] } := ⟨⟨hDk.ok.len, hDk.ok.sure, (fun q hq => by simp at hq), by simp, hDk.ok.fuse⟩, f6.keep hDk.head (by simpa using n2), f6.keep hDk.sure (by simpa using n3), ⟨#[], clock, M6.out, rfl, by simp, by simp⟩, hDk.ne⟩
           have CPs := power_set h6 (-1) (by omega))
        | (go_at_call 44; refine CPs.mono ?_; rintro e w7 ⟨rfl, h7, f7⟩))
      go_end0
      rw [hD1e.out]
      exact ⟨rfl, h7, ((hF.mono (by simp)).trans (f6.mono (by simp))).trans (f7.mono (by simp))⟩
end Gd
