/- The walk through disk.Flush: a range over the map of what is pending, in whatever order. -/
import Derived.Test.YtccgpblecgapaaaDoorSurv
import Derived.Test.YtccgpblecgapaaaDoorRange
set_option linter.unusedSimpArgs false
set_option linter.unusedVariables false
namespace Gd
open Go Go.Proofs Go.RowKit

/-- these sectors are written over -/
def applied (l : List (Nat × Sec)) (S : List Sec) : List Sec := l.foldr (fun q S => S.set q.1 q.2) S
@[simp] theorem length_applied (l : List (Nat × Sec)) (S : List Sec) : (applied l S).length = S.length := by
  induction l with
  | nil => rfl
  | cons q r ih => simp [applied] at *; exact ih
theorem lookup_mem {l : List (Nat × Sec)} {i : Nat} {t : Sec} (h : l.lookup i = some t) : (i, t) ∈ l := by
  obtain ⟨l1, l2, e, _⟩ := List.lookup_eq_some_iff.1 h
  rw [e]; simp
theorem lookup_of_mem {l : List (Nat × Sec)} (hn : (l.map (·.1)).Nodup) {i : Nat} {t : Sec} (h : (i, t) ∈ l) : l.lookup i = some t := by
  induction l with
  | nil => simp at h
  | cons q r ih =>
    obtain ⟨k, u⟩ := q
    simp only [List.map_cons, List.nodup_cons] at hn
    rw [List.lookup_cons]
    rcases List.mem_cons.1 h with h1 | h1
    · cases h1; simp
    · have : (i == k) = false := by
        rw [beq_eq_false_iff_ne]
        rintro rfl
        exact hn.1 (List.mem_map.2 ⟨_, h1, rfl⟩)
      rw [this]
      exact ih hn.2 h1
theorem applied_out {l : List (Nat × Sec)} {S : List Sec} {i : Nat} (hi : ∀ t, (i, t) ∉ l) : (applied l S)[i]? = S[i]? := by
  induction l with
  | nil => rfl
  | cons q r ih =>
    show ((applied r S).set q.1 q.2)[i]? = _
    have hne : ¬ q.1 = i := fun h => hi q.2 (by rw [← h]; simp)
    rw [List.getElem?_set, if_neg hne]
    exact ih fun t ht => hi t (List.mem_cons_of_mem _ ht)
theorem applied_in {l : List (Nat × Sec)} {S : List Sec} (f : Nat → Option Sec) (hf : ∀ q ∈ l, f q.1 = some q.2) {i : Nat} {t : Sec} (ht : (i, t) ∈ l) (hi : i < S.length) : (applied l S)[i]? = f i := by
  induction l with
  | nil => simp at ht
  | cons q r ih =>
    show ((applied r S).set q.1 q.2)[i]? = _
    rw [List.getElem?_set]
    by_cases he : q.1 = i
    · rw [if_pos he, if_pos (by rw [length_applied]; omega), ← he, hf q (by simp)]
    · rw [if_neg he]
      refine ih (fun q hq => hf q (List.mem_cons_of_mem _ hq)) ?_
      rcases List.mem_cons.1 ht with h | h
      · exact absurd (by rw [← h]) he
      · exact h
/-- all that is pending written over: as a flush settles it -/
theorem applied_all {D : Dk} (h : D.ok) {l : List (Nat × Sec)} (h1 : ∀ q ∈ l, q ∈ D.pend) (h2 : ∀ q ∈ D.pend, q ∈ l) : applied l D.sure = D.settle (fun _ _ t => t) := by
  apply List.ext_getElem?
  intro i
  simp only [Dk.settle, List.getElem?_mapIdx]
  by_cases hi : i < D.sure.length
  · rw [List.getElem?_eq_getElem hi]
    cases hl : D.pend.lookup i with
    | some t =>
      rw [applied_in (fun i => D.pend.lookup i) (fun q hq => lookup_of_mem h.keys (h1 q hq)) (h2 _ (lookup_mem hl)) hi]
      simp [hl]
    | none =>
      rw [applied_out, List.getElem?_eq_getElem hi]
      · simp [hl]
      · intro t ht
        rw [lookup_of_mem h.keys (h1 _ ht)] at hl
        cases hl
  · rw [List.getElem?_eq_none (by rw [length_applied]; omega), List.getElem?_eq_none (by omega)]
    rfl
theorem applied_ok {l : List (Nat × Sec)} {S : List Sec} (h1 : ∀ q ∈ l, q.2.ok) (h2 : ∀ s ∈ S, s.ok) : ∀ s ∈ applied l S, s.ok := by
  induction l with
  | nil => exact h2
  | cons q r ih =>
    intro s hs
    have ih := ih (fun q hq => h1 q (List.mem_cons_of_mem _ hq))
    rcases List.mem_or_eq_of_mem_set (show s ∈ (applied r S).set q.1 q.2 from hs) with h | h
    · exact ih s h
    · subst h; exact h1 q (by simp)

/-- The map's entries, each beside the pair that it holds. -/
structure EntIs (es : Array MapEntry) (clock : Nat) (l : List (Nat × Sec)) : Prop where
  out : es.toList.map (fun e => (e.key, e.val)) = (pendL l).map (fun p => (Value.int .i64 p.1, p.2))
  inc : (es.toList.map (·.born)).Pairwise (· < ·)
  lt : ∀ e ∈ es.toList, e.born < clock
theorem EntIs.at {es : Array MapEntry} {clock : Nat} {l : List (Nat × Sec)} (h : EntIs es clock l) {j : Nat} {e : MapEntry} (hj : es[j]? = some e) : ∃ q, l[j]? = some q ∧ e.key = .int .i64 (q.1 : Int) ∧ e.val = secV q.2 := by
  have hl := congrArg (fun x => x[j]?) h.out
  simp only [List.getElem?_map, Array.getElem?_toList, hj, Option.map_some, pendL] at hl
  cases hq : l[j]? with
  | none => simp [hq] at hl
  | some q => simp [hq] at hl; exact ⟨q, rfl, hl.1, hl.2⟩
theorem EntIs.back {es : Array MapEntry} {clock : Nat} {l : List (Nat × Sec)} (h : EntIs es clock l) {j : Nat} {q : Nat × Sec} (hj : l[j]? = some q) : ∃ e, es[j]? = some e := by
  have hl := congrArg List.length h.out
  simp [pendL] at hl
  have := (List.getElem?_eq_some_iff.1 hj).1
  exact ⟨es[j], Array.getElem?_eq_getElem (by omega)⟩
theorem EntIs.nodup {es : Array MapEntry} {clock : Nat} {l : List (Nat × Sec)} (h : EntIs es clock l) : (es.toList.map (·.born)).Nodup := h.inc.imp (fun h => Nat.ne_of_lt h)

/-- what the loop has done -/
structure Done (es : Array MapEntry) (l : List (Nat × Sec)) (seen : Array Nat) (done : List (Nat × Sec)) : Prop where
  sub : ∀ q ∈ done, q ∈ l
  all : ∀ (j : Nat) (e : MapEntry) (q : Nat × Sec), es[j]? = some e → seen.contains e.born = true → l[j]? = some q → q ∈ done
theorem Done.step {es : Array MapEntry} {clock : Nat} {l : List (Nat × Sec)} (h : EntIs es clock l) {seen : Array Nat} {done : List (Nat × Sec)} (hd : Done es l seen done) {j : Nat} {e : MapEntry} {q : Nat × Sec} (hj : es[j]? = some e) (hq : l[j]? = some q) : Done es l (seen.push e.born) (q :: done) := by
  refine ⟨fun x hx => ?_, fun j' e' q' h1 h2 h3 => ?_⟩
  · rcases List.mem_cons.1 hx with rfl | hx
    · exact List.mem_of_getElem? hq
    · exact hd.sub x hx
  · rw [contains_push] at h2
    simp only [Bool.or_eq_true, beq_iff_eq] at h2
    rcases h2 with h2 | h2
    · exact List.mem_cons_of_mem _ (hd.all j' e' q' h1 h2 h3)
    · have : j' = j := by
        have hn := h.nodup
        have e1 : (es.toList.map (·.born))[j']? = some e'.born := by simp [h1]
        have e2 : (es.toList.map (·.born))[j]? = some e.born := by simp [hj]
        rw [h2] at e1
        have hlt : j' < (es.toList.map (·.born)).length := by
          have := (Array.getElem?_eq_some_iff.1 h1).1
          simpa using this
        exact (List.getElem?_inj hlt hn).1 (e1.trans e2.symm)
      subst this
      rw [hq] at h3
      cases h3
      simp
theorem Done.full {es : Array MapEntry} {clock : Nat} {l : List (Nat × Sec)} (h : EntIs es clock l) {seen : Array Nat} {done : List (Nat × Sec)} (hd : Done es l seen done) (hz : (leftOf es seen).size = 0) : ∀ q ∈ l, q ∈ done := by
  intro q hq
  obtain ⟨j, hj⟩ := List.mem_iff_getElem?.1 hq
  obtain ⟨e, he⟩ := h.back hj
  exact hd.all j e q he (all_seen es seen hz e (by simpa using Array.mem_of_getElem? he)) hj

/-- between two rounds of the flush -/
structure FlushInv (w : World) (p s m r : Nat) (D : Dk) (f : Int) (es : Array MapEntry) (clock : Nat) (W : World) : Prop where
  out : ∃ seen st done, clock ≤ st ∧ Blk W r (.mapIter (some m) clock seen st) ∧ Done es D.pend seen done ∧ DiskAt W p s m { D with sure := applied done D.sure, fuse := f } ∧ Blk W m (.map es clock) ∧ Fr [p, s] w W ∧ r < W.heap.size

set_option maxRecDepth 100000 in
set_option maxHeartbeats 800000 in
theorem disk_Flush_ok {w : World} {p s m : Nat} {D : Dk} (h : DiskAt w p s m D) {f : Int} (hf : spend D.fuse = some f) :
    Calls Tryd.prog 31 #[.pointer (some ⟨p, 0, none⟩)] w fun e w' => e = .returned (.int .i64 0) ∧ DiskAt w' p s m { D with sure := D.settle (fun _ _ t => t), pend := [], fuse := f } ∧ Fr [p, s, m] w w' := by
  obtain ⟨l1, l2, l3⟩ := h.lt
  go_enter Tryd.func31, Tryd.ntmps31
  go_wp2_with (first
    | (go_at_call 48; refine (power_spend h hf).mono ?_; rintro e w1 ⟨rfl, h1, f1⟩; have c2 := h1.c2; obtain ⟨es, clock, q1, q2, q3, q4⟩ := h1.pend.out; have hE : EntIs es clock D.pend := ⟨q2, q3, q4⟩; have hM : Blk w1 m (.map es clock) := ⟨q1⟩; clear q1 q2 q3 q4; have e1 := f1.size)
    | ((with_reducible show wpList _ _ _ (Oper.mk (some 18) _ _ _ _ _ :: _) _ _); refine wpList_range_map rfl _ _ rfl Tryd.underlying56 m rfl hM ?_; intro r w2 hr1 R2 f2; have h2 := h1.keep0 f2; have hM2 := hM.keep0 f2; have e2 := f2.size))
  simp only [Act.put, List.setIfInBounds_toArray, List.set_cons_succ, List.set_cons_zero]
  go_loopw [] (fun W => FlushInv w p s m r D f es clock W) (fun W => (leftOf es (W.iterSeen r)).size)
  case atStart => exact ⟨#[], clock, [], Nat.le_refl _, R2, ⟨by simp, by simp⟩, h2, hM2, (f1.mono (by simp)).trans (f2.mono (by simp)), R2.lt⟩
  case round =>
    obtain ⟨seen, st, done, hst, hR, hDn, hD, hMr, hF, hrl⟩ := hrel.out
    go_wp2_with ((with_reducible show wpList _ _ _ (Oper.mk (some 19) _ _ _ _ _ :: _) _ _); refine wpList_next_map rfl _ rfl rfl hR hMr hE.lt hst ?_ ?_)
    · intro hz
      have HZ := Lib.hid hz
      clear hz
      have c2' := hD.c2
      go_wp2_with ((with_reducible show wpList _ _ _ (Oper.mk _ (Op.call (Call.mk (Callee.builtin _) _ _)) _ _ _ _ :: _) _ _); refine wpList_clear_map rfl _ _ rfl Tryd.underlying56 rfl hMr ?_; intro W2 fc hMc)
      go_ret
      obtain ⟨n1, n2, n3⟩ := hD.ne
      have hall := applied_all h.ok hDn.sub (hDn.full hE (by rw [HZ.out]; rfl))
      refine ⟨rfl, ⟨⟨?_, ?_, by simp, by simp, hD.ok.fuse⟩, ?_, ?_, ⟨#[], clock, hMc.out, by simp [pendL], by simp, by simp⟩, hD.ne⟩, ?_⟩
      · rw [← hall]; exact hD.ok.len
      · rw [← hall]; exact hD.ok.sure
      · rw [← hall]; exact fc.keep hD.head (by simpa using n2)
      · rw [← hall]; exact fc.keep hD.sure (by simpa using n3)
      · exact (hF.mono (by simp)).trans (fc.mono (by simp))
    · intro e W1 he fe hR1
      obtain ⟨he1, he2⟩ := mem_left (Array.mem_toList_iff.2 he)
      obtain ⟨j, hj⟩ := List.mem_iff_getElem?.1 he1
      rw [Array.getElem?_toList] at hj
      obtain ⟨q, hq, hk, hv⟩ := hE.at hj
      have HE := Lib.hid he
      have HJ := Lib.hid hj
      have HQ := Lib.hid hq
      obtain ⟨hqo, hqi⟩ := hD.ok.pend q (List.mem_of_getElem? hq)
      clear hj hq he he2
      have hD1 := hD.keep fe (by simp; omega) (by simp; omega) (by simp; omega)
      have hM1 := hMr.keep fe (by simp; omega)
      have e5 := fe.size
      have e6 := hF.size
      go_wp2_with (first
        | ((with_reducible show wpList _ _ _ (Oper.mk (some 21) _ _ _ _ _ :: _) _ _); refine wpList_entry_map rfl _ rfl rfl hR1 hM1 he1 hE.nodup ?_)
        | ((with_reducible show wpList _ _ _ (Oper.mk (some 4) _ _ _ _ _ :: _) _ _); refine wpList_alloc_agg rfl tState rfl zero_state ?_; intro b2 W2 hb2 hb2' B2 f3; have hD2 := hD1.keep0 f3)
        | ((with_reducible show wpList _ _ _ (Oper.mk none (Op.store _ (.tmp 4) _) _ _ _ _ :: _) _ _); refine wpList_store_whole rfl _ _ _ rfl b2 33 rfl rfl sz_state B2 (length_secL hqo) zero_len (secL_oneCell _) ?_; intro W3 B3 f4))
      have e7 := f3.size
      have e8 := f4.size
      have hD3 := hD2.keep f4 (by simp; omega) (by simp; omega) (by simp; omega)
      have hal : q.1 < (applied done D.sure).length := hqi
      refine wp_region_mid1 (C := fun W => W = W3.drew) 7 (by kernel_rfl) (by kernel_rfl) rfl rfl rfl ?_
      have c1 := (hD3.keep0 (Fr.drew W3)).c1
      have B3d := B3.keep0 (Fr.drew W3)
      refine wpQuiet_move rfl _ rfl (v := .pointer (some ⟨p, 0, none⟩)) rfl ?_; simp only [Act.put, List.setIfInBounds_toArray, List.set_cons_succ, List.set_cons_zero]
      refine wpQuiet_nilCheck rfl _ rfl (ad := ⟨p, 0, none⟩) rfl ?_; simp only [Act.put, List.setIfInBounds_toArray, List.set_cons_succ, List.set_cons_zero]
      refine wpQuiet_field rfl _ _ _ rfl rfl (.pointer (some ⟨p, 1, none⟩)) (fun W => by kernel_rfl) ?_; simp only [Act.put, List.setIfInBounds_toArray, List.set_cons_succ, List.set_cons_zero]
      refine wpQuiet_load rfl _ _ rfl rfl _ Tryd.underlying55 rfl (fun W hW => by rw [hW]; exact c1) ?_; simp only [Act.put, List.setIfInBounds_toArray, List.set_cons_succ, List.set_cons_zero]
      refine wpQuiet_move rfl _ rfl (v := .int .i64 q.1) rfl ?_; simp only [Act.put, List.setIfInBounds_toArray, List.set_cons_succ, List.set_cons_zero]
      refine wpQuiet_loadA rfl _ _ rfl 33 rfl (.agg (secL q.2).toArray) Tryd.underlying83 rfl sz_state (secL_le hqo) (fun W hW => by rw [hW]; exact B3d) (by rw [secL_all hqo]) ?_; simp only [Act.put, List.setIfInBounds_toArray, List.set_cons_succ, List.set_cons_zero]
      refine wpQuiet_index rfl _ _ _ rfl q.1 .i64 33 rfl rfl Tryd.underlying55 sz_state hal ?_; simp only [Act.put, List.setIfInBounds_toArray, List.set_cons_succ, List.set_cons_zero]
      refine wpQuiet_nil ?_
      rintro W rfl
      have hD4 := hD3.keep0 (Fr.drew W3)
      have hlen4 : 0 + q.1 * 33 + 33 ≤ (secsL (applied done D.sure)).toArray.size := by
        rw [List.size_toArray, length_secsL (l := applied done D.sure) hD.ok.sure]; omega
      refine wp_store_at _ _ _ rfl s (0 + q.1 * 33) 33 rfl rfl sz_state hD4.sure (length_secL hqo) hlen4 (secL_oneCell _) ?_
      intro W5 B5 f5
      refine wpQuiet_nil ?_
      have hset : splice (secsL (applied done D.sure)).toArray (0 + q.1 * 33) (secL q.2) = (secsL (applied (q :: done) D.sure)).toArray := by
        rw [Nat.zero_add]; exact secsL_set hD.ok.sure hal hqo
      rw [hset] at B5
      obtain ⟨n1, n2, n3⟩ := hD.ne
      have hD5 : DiskAt W5 p s m { D with sure := applied (q :: done) D.sure, fuse := f } := by
        refine ⟨⟨?_, ?_, ?_, hD.ok.keys, hD.ok.fuse⟩, ?_, B5.out, hD4.pend.keep f5 (by simpa using Ne.symm n3), hD.ne⟩
        · have := h.ok.len; simpa using this
        · intro x hx
          exact applied_ok (fun y hy => by rcases List.mem_cons.1 hy with rfl | hy; exact hqo; exact (h.ok.pend y (hDn.sub y hy)).1) h.ok.sure x hx
        · intro x hx; have := h.ok.pend x hx; simpa using this
        · have := f5.keep hD4.head (by simpa using n1)
          simpa using this
      have g5 : Fr [r, s] wr W5 := ((((fe.mono (S' := [r, s]) (by simp)).then f3 (by simp)).then f4 (by simp; omega)).then (Fr.drew W3) (by simp)).then f5 (by simp)
      have g6 : Fr [p, s] w W5 := hF.then g5 (by simp; omega)
      have hR5 : Blk W5 r (.mapIter (some m) clock (seen.push e.born) clock) :=
        (((hR1.keep0 f3).keep f4 (by simp; omega)).keep0 (Fr.drew W3)).keep f5 (by simp; omega)
      have hM5 : Blk W5 m (.map es clock) := (((hM1.keep0 f3).keep f4 (by simp; omega)).keep0 (Fr.drew W3)).keep f5 (by simpa using Ne.symm n3)
      have hDn5 := hDn.step hE HJ.out HQ.out
      have hlt := left_shrinks es seen e (by simpa using HE.out)
      rw [← iterSeen_of hR5, ← iterSeen_of hR] at hlt
      go_wp2
      exact ⟨_, clock, q :: done, Nat.le_refl _, hR5, hDn5, hD5, hM5, g6, hR5.lt⟩
theorem disk_Flush_down {w : World} {p s m : Nat} {D : Dk} (h : DiskAt w p s m D) (hf : spend D.fuse = none) :
    Calls Tryd.prog 31 #[.pointer (some ⟨p, 0, none⟩)] w fun e w' => e = .returned (.int .i64 10) ∧ w = w' := by
  go_enter Tryd.func31, Tryd.ntmps31
  go_wp2_with (first
    | (go_at_call 48; refine (power_spend_no h hf).mono ?_; rintro e w1 ⟨rfl, rfl⟩))
  go_ret
  exact ⟨rfl, rfl⟩
end Gd
