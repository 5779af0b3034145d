/- wal: Open. -/
import Derived.Test.YtccgpblecgapaaaDoorLists
set_option linter.unusedSimpArgs false
set_option linter.unusedVariables false
namespace Gd
open Go Go.Proofs Go.RowKit

def Dk.bestN (d : Dk) (slot : Nat) : Nat → Best
  | 0 => Best.start
  | k + 1 => (d.bestN slot k).step k (d.place slot k)
theorem Dk.bestN_two (d : Dk) (slot : Nat) : d.bestN slot 2 = d.best slot := rfl

theorem lift_bounds {s : Bytes} {e q : Nat} {b : Bytes} {n : Nat} (h : lift s = some (e, q, b, n)) : e < 4294967296 ∧ q < 4294967296 ∧ b.length ≤ 65535 ∧ 32 * n ≤ s.length ∧ 1 ≤ n := by
  unfold lift at h
  split at h
  · cases h
  · simp only at h
    split at h
    · cases h
    · split at h
      · simp only [Option.some.injEq, Prod.mk.injEq] at h
        obtain ⟨rfl, rfl, rfl, rfl⟩ := h
        have h1 := val_lt ((s.drop 24).take 4)
        have h2 := val_lt ((s.drop 28).take 4)
        have h3 := val_lt (s.take 2)
        have l1 : (256 : Nat) ^ ((s.drop 24).take 4).length ≤ 256 ^ 4 := Nat.pow_le_pow_right (by omega) (by simp; omega)
        have l2 : (256 : Nat) ^ ((s.drop 28).take 4).length ≤ 256 ^ 4 := Nat.pow_le_pow_right (by omega) (by simp; omega)
        have l3 : (256 : Nat) ^ (s.take 2).length ≤ 256 ^ 2 := Nat.pow_le_pow_right (by omega) (by simp; omega)
        refine ⟨by omega, by omega, ?_, by omega, ?_⟩
        · rw [List.length_take]; omega
        · unfold cnt; omega
      · cases h

def jnI (p : Nat) (slot log : Nat) (x : Best) (u : Nat) : Obj :=
  .cells #[.pointer (some ⟨p, 0, none⟩), .int .i64 slot, .int .i64 log, .int .i64 x.epoch, .int .i64 x.seq, .int .i64 x.at_, .int .i64 u, .bool false, .bool false] tJ (0, 0)
theorem jnI_set3 {w : World} {B p slot log u : Nat} {x : Best} (h : w.heap[B]? = some (jnI p slot log x u)) (e : Int) : (w.setCell ⟨B, 3, none⟩ (.int .i64 e)).heap[B]? = some (jnI p slot log { x with epoch := e } u) := heap_setCell_same w B 3 _ _ (.int .i64 e) h
theorem jnI_set4 {w : World} {B p slot log u : Nat} {x : Best} (h : w.heap[B]? = some (jnI p slot log x u)) (e : Nat) : (w.setCell ⟨B, 4, none⟩ (.int .i64 e)).heap[B]? = some (jnI p slot log { x with seq := e } u) := heap_setCell_same w B 4 _ _ (.int .i64 e) h
theorem jnI_set5 {w : World} {B p slot log u : Nat} {x : Best} (h : w.heap[B]? = some (jnI p slot log x u)) (e : Nat) : (w.setCell ⟨B, 5, none⟩ (.int .i64 e)).heap[B]? = some (jnI p slot log { x with at_ := e } u) := heap_setCell_same w B 5 _ _ (.int .i64 e) h
theorem jnI_set6 {w : World} {B p slot log u : Nat} {x : Best} (h : w.heap[B]? = some (jnI p slot log x u)) (e : Nat) : (w.setCell ⟨B, 6, none⟩ (.int .i64 e)).heap[B]? = some (jnI p slot log x e) := heap_setCell_same w B 6 _ _ (.int .i64 e) h

theorem wpList_val_g {ops : Array Oper} {rest : List Oper} {o : Oper} {a : Act} {w : World} {Q : Exit → Act → World → Prop} (hw : Region.wanted o (yielded ops a.tmps) = true) (v : Value) (hr : (execOp a.eval o).run Tryd.prog w = .ok (.value v) w)
    (h : wpList Tryd.prog ops Q rest (a.put o.dst v) w) : wpList Tryd.prog ops Q (o :: rest) a w :=
  BigFrame.wpList_want hw fun K' hK => wp_of_value hr (hK _ _ h)
/-- the value's block is there -/
def InH (W : World) (v : Value) : Prop := ∀ g, v.ownBlock = some g → g < W.heap.size
theorem InH.up {W W' : World} {v : Value} {S : List Nat} (h : InH W v) (hf : Fr S W W') : InH W' v := fun g hg => Nat.lt_of_lt_of_le (h g hg) hf.size
structure OpInv1 (w : World) (B p slot log : Nat) (D : Dk) (i st : Value) (W : World) : Prop where
  out : ∃ (k : Nat) (x : Best), k ≤ 2 ∧ i = .int .i64 k ∧ Hid (x = D.bestN slot k) ∧ (-1 ≤ x.epoch ∧ x.epoch < 4294967296 ∧ x.seq < 4294967296 ∧ x.at_ ≤ 1) ∧ W.heap[B]? = some (jnI p slot log x 0) ∧ BS W st x.state ∧ Fresh w.heap.size B st ∧ InH W st ∧ Fr [] w W

/-- no block is shared -/
def Apart (l v : Value) : Prop := ∀ g, l.ownBlock = some g → v.ownBlock ≠ some g
structure OpInv2 (w : World) (B p slot log E at_ : Nat) (sb : Bytes) (st : Value) (full : List Bytes × Nat × Nat) (i6 i7 l r : Value) (W : World) : Prop where
  out : i6 = .pointer (some ⟨B, 0, none⟩) ∧ i7 = st ∧ ∃ (ls : List Bytes) (us : List Value) (q u fuel : Nat) (rb : Bytes), Hid (full = (ls ++ (follow E fuel q u rb).1, (follow E fuel q u rb).2)) ∧ rb.length = 32 * (log - u) ∧ u ≤ log ∧ log - u < fuel ∧ q < 4294967296 ∧ ls.length ≤ u ∧ OV w.heap.size W l us ∧ BSall W us ls ∧
    (∀ v ∈ us, Fresh w.heap.size B v ∧ Apart l v ∧ InH W v) ∧ Fresh w.heap.size B l ∧ BS W r rb ∧ Fresh w.heap.size B r ∧ (Apart l r ∧ InH W r) ∧ BS W st sb ∧ (Apart l st ∧ InH W st) ∧ W.heap[B]? = some (jnI p slot log ⟨E, q, at_, sb⟩ u) ∧ Fr [] w W
def lenOf : Value → Nat
  | .slice _ n _ => n
  | _ => 0

/-- what Open hands back -/
def Opened (w : World) (p : Nat) (J : Jn) (state : Bytes) (list : List Bytes) (e : Ending) (w' : World) : Prop :=
  ∃ j st l us, e = .returned (.tuple #[.pointer (some ⟨j, 0, none⟩), st, l, .int .i64 0]) ∧ JnAt w' j p J ∧ w.heap.size ≤ j ∧ BS w' st state ∧ Fresh w.heap.size j st ∧ VS w' l us ∧ Fresh w.heap.size j l ∧ BSall w' us list ∧ (∀ u ∈ us, Fresh w.heap.size j u) ∧ Fr [] w w'

section
variable {w : World} {p s m : Nat} {D : Dk}
def lostV : Ending := .returned (.tuple #[.pointer none, .slice none 0 0, .slice none 0 0, .int .i64 15])
def argV : Ending := .returned (.tuple #[.pointer none, .slice none 0 0, .slice none 0 0, .int .i64 1])

theorem wal_Open_no {d : Option Addr} (slot log : Int) (hm : ∀ W, Fr [] w W → Calls Tryd.prog 27 #[loV d slot log] W fun e w' => e = .returned (.bool false) ∧ Fr [] W w') :
    Calls Tryd.prog 9 #[.pointer d, .int .i64 slot, .int .i64 log] w fun e w' => e = argV ∧ Fr [] w w' := by
  unfold loV at hm
  go_enter Tryd.func9, Tryd.ntmps9
  go_wp2_with (go_at_call 27; refine (hm _ (Fr.alloc _ _)).mono ?_; rintro e w1 ⟨rfl, f1⟩)
  refine bodyPost_ret (results_tmp4 rfl _ _ _) rfl ?_
  exact ⟨rfl, (Fr.alloc _ _).trans f1⟩
theorem wal_Open_nil (slot log : Int) (hs : -9223372036854775808 ≤ slot ∧ slot < 9223372036854775808) (hl : -9223372036854775808 ≤ log ∧ log < 9223372036854775808) :
    Calls Tryd.prog 9 #[.pointer none, .int .i64 slot, .int .i64 log] w fun e w' => e = argV ∧ Fr [] w w' :=
  wal_Open_no slot log (fun W _ => wal_may_nil W slot log hs hl)
theorem wal_Open_bad (h : DiskAt w p s m D) (slot log : Int) (hs : -9223372036854775808 ≤ slot ∧ slot < 9223372036854775808) (hl : -9223372036854775808 ≤ log ∧ log < 9223372036854775808) (hb : mayB D slot log = false) :
    Calls Tryd.prog 9 #[.pointer (some ⟨p, 0, none⟩), .int .i64 slot, .int .i64 log] w fun e w' => e = argV ∧ Fr [] w w' :=
  wal_Open_no slot log (fun W hW => by have := wal_may (h.keep0 hW) slot log hs hl; rw [hb] at this; exact this)

def OpenPost (w : World) (p : Nat) (D : Dk) (slot log : Nat) (e : Ending) (w' : World) : Prop :=
  match D.opened slot log with
  | none => e = lostV ∧ Fr [] w w'
  | some (J, st, l) => Opened w p J st l e w'

set_option maxRecDepth 100000 in
set_option maxHeartbeats 2000000 in
theorem wal_Open (h : DiskAt w p s m D) (slot log : Nat) (hm : 0 < slot ∧ 0 < log ∧ 2 * slot + log ≤ D.sure.length) :
    Calls Tryd.prog 9 #[.pointer (some ⟨p, 0, none⟩), .int .i64 slot, .int .i64 log] w (OpenPost w p D slot log) := by
  have hD := h.ok.len
  obtain ⟨lp, ls, lm⟩ := h.lt
  have CM : ∀ W, Fr [] w W → Calls Tryd.prog 27 #[.agg #[.pointer (some ⟨p, 0, none⟩), .int .i64 slot, .int .i64 log]] W fun e w' => e = .returned (.bool true) ∧ Fr [] W w' := fun W hW => by
    have := wal_may (h.keep0 hW) slot log (by omega) (by omega)
    rw [mayB_iff.2 hm] at this
    exact this
  obtain ⟨h1, h2, h3⟩ := hm
  go_enter Tryd.func9, Tryd.ntmps9
  go_wp2_with (go_at_call 27; refine (CM _ (Fr.alloc _ _)).mono ?_; rintro e w1 ⟨rfl, f1⟩)
  have B1 : w1.heap[w.heap.size]? = some (jnI p slot log Best.start 0) := f1.keep (Go.heap_alloc_new w _) (by simp)
  have f01 : Fr [] w w1 := (Fr.alloc w _).trans f1
  go_loopw [7, 34] (fun st i W => OpInv1 w w.heap.size p slot log D i st W) (fun _ i _ => 2 - (intOf i).toNat)
  case atStart => exact ⟨0, Best.start, by omega, rfl, rfl, by decide, B1, .nil _, (fun g hg => by cases hg), (fun g hg => by cases hg), f01⟩
  case round =>
    obtain ⟨k, x, hk, rfl, hx, ⟨hx1, hx2, hx3, hx4⟩, hB, hst, hfr, hin, hF⟩ := hrel.out
    have BB : Blk wr w.heap.size (.cells #[.pointer (some ⟨p, 0, none⟩), .int .i64 slot, .int .i64 log, .int .i64 x.epoch, .int .i64 x.seq, .int .i64 x.at_, .int .i64 (0 : Nat), .bool false, .bool false] tJ (0, 0)) := ⟨hB⟩
    have c0 : wr.cell? ⟨w.heap.size, 0, none⟩ = some (.pointer (some ⟨p, 0, none⟩)) := cellOf BB.out rfl
    have c1 : wr.cell? ⟨w.heap.size, 1, none⟩ = some (.int .i64 slot) := cellOf BB.out rfl
    have c2 : wr.cell? ⟨w.heap.size, 2, none⟩ = some (.int .i64 log) := cellOf BB.out rfl
    by_cases hlt : k < 2
    · obtain ⟨a, ha⟩ : ∃ a, a = k * slot := ⟨_, rfl⟩
      obtain ⟨c, hc⟩ : ∃ c, c = (k + 1) * slot := ⟨_, rfl⟩
      have hac : a + slot = c ∧ c ≤ 2 * slot := by
        rw [ha, hc]
        rcases (by omega : k = 0 ∨ k = 1) with rfl | rfl <;> omega
      have CPl : ∀ W, Calls Tryd.prog 29 #[.agg #[.pointer (some ⟨p, 0, none⟩), .int .i64 slot, .int .i64 log], .int .i64 k] W fun e w' => e = .returned (.agg #[.pointer (some ⟨p, 0, none⟩), .int .i64 a, .int .i64 c]) ∧ Fr [] W w' := fun W => by
        have := wal_place W (some ⟨p, 0, none⟩) slot log k (by omega) (by omega)
        rw [← ha, ← hc] at this
        exact this
      obtain ⟨S, hS⟩ : ∃ S, S = D.read a c := ⟨_, rfl⟩
      have hSl : S.length = 32 * slot := by
        have := length_read h.ok a slot (by omega)
        rw [hac.1, ← hS] at this
        exact this
      have CRd : ∀ W, Fr [] w W → Calls Tryd.prog 33 #[.agg #[.pointer (some ⟨p, 0, none⟩), .int .i64 a, .int .i64 c]] W (RetB W S) := fun W hW => by
        have := extent_read (h.keep0 hW) a c (by omega) (by omega)
        rw [← hS] at this
        exact this
      have hpl : D.place slot k = lift S := by unfold Dk.place; rw [hS, ha, hc]
      have hSb : S.length ≤ 4194304 := by omega
      clear hS hSl ha hc
      cases hl : lift S with
      | none =>
        have CLf : ∀ W v, BS W v S → Calls Tryd.prog 32 #[v] W fun e w' => e = .returned (.tuple #[.int .i64 0, .int .i64 0, .slice none 0 0, .int .i64 0, .int .i64 3]) ∧ Fr [] W w' := fun W v hv => by
          refine (sheet_Lift hv hSb).mono ?_
          rintro e w' ⟨f1, h2⟩
          rw [hl] at h2
          exact ⟨h2, f1⟩
        have HX : Hid (x = D.bestN slot (k + 1)) := by
          rw [Hid]
          show x = (D.bestN slot k).step k (D.place slot k)
          rw [hpl, hl, ← hx.out]; rfl
        clear hpl hl
        go_wp2_with (first
          | (go_at_call 29; refine (CPl wr).mono ?_; rintro e w2 ⟨rfl, f2⟩)
          | (go_at_call 33; refine (CRd w2 (hF.trans f2)).mono ?_; rintro e w3 ⟨v, rfl, O3, f3⟩)
          | (go_at_call 32; refine (CLf w3 v O3.bs).mono ?_; rintro e w4 ⟨rfl, f4⟩))
        have f24 := (f2.trans f3).trans f4
        exact ⟨⟨k + 1, x, by omega, by go_num, HX, ⟨hx1, hx2, hx3, hx4⟩, f24.keep hB (by simp), hst.keep0 f24, hfr, hin.up f24, hF.trans f24⟩, by simp [intOf]; omega⟩
      | some r =>
        obtain ⟨e, q, b, n⟩ := r
        obtain ⟨he, hq, hbl, hn1, hn2⟩ := lift_bounds hl
        have CLf : ∀ W v, BS W v S → Calls Tryd.prog 32 #[v] W fun x w' => Fr [] W w' ∧ ∃ u, x = .returned (.tuple #[.int .i64 e, .int .i64 q, u, .int .i64 n, .int .i64 0]) ∧ BS w' u b ∧ ∀ g, u.ownBlock = some g → W.heap.size ≤ g ∧ g < w'.heap.size := fun W v hv => by
          refine (sheet_Lift hv hSb).mono ?_
          rintro e w' ⟨f1, h2⟩
          rw [hl] at h2
          exact ⟨f1, h2⟩
        have HX : Hid ((if x.epoch < e then (⟨e, q, k, b⟩ : Best) else x) = D.bestN slot (k + 1)) := by
          rw [Hid]
          show _ = (D.bestN slot k).step k (D.place slot k)
          rw [hpl, hl, ← hx.out]; rfl
        clear hpl hl
        by_cases hlt2 : x.epoch < e
        · rw [if_pos hlt2] at HX
          go_wp2_with (first
            | (go_at_call 29; refine (CPl wr).mono ?_; rintro e w2 ⟨rfl, f2⟩)
            | (go_at_call 33; refine (CRd w2 (hF.trans f2)).mono ?_; rintro e w3 ⟨v, rfl, O3, f3⟩)
            | (go_at_call 32; refine (CLf w3 v O3.bs).mono ?_; rintro e w4 ⟨f4, u, rfl, hu, hug⟩; have f24 := (f2.trans f3).trans f4; have B4 : Blk w4 w.heap.size (.cells #[.pointer (some ⟨p, 0, none⟩), .int .i64 slot, .int .i64 log, .int .i64 x.epoch, .int .i64 x.seq, .int .i64 x.at_, .int .i64 (0 : Nat), .bool false, .bool false] tJ (0, 0)) := BB.keep0 f24
               have d3 : w4.cell? ⟨w.heap.size, 3, none⟩ = some (.int .i64 x.epoch) := cellOf B4.out rfl
               have d4 : w4.cell? ⟨w.heap.size, 4, none⟩ = some (.int .i64 x.seq) := cellOf B4.out rfl
               have d5 : w4.cell? ⟨w.heap.size, 5, none⟩ = some (.int .i64 x.at_) := cellOf B4.out rfl
               have z3 : w4.frozen? ⟨w.heap.size, 3, none⟩ = false := freeOf B4.out
               have z4 : w4.frozen? ⟨w.heap.size, 4, none⟩ = false := freeOf B4.out
               have z5 : w4.frozen? ⟨w.heap.size, 5, none⟩ = false := freeOf B4.out))
          have g4 : Fr [w.heap.size] w4 (((w4.setCell ⟨w.heap.size, 3, none⟩ (.int .i64 e)).setCell ⟨w.heap.size, 4, none⟩ (.int .i64 q)).setCell ⟨w.heap.size, 5, none⟩ (.int .i64 k)) := ((Fr.cell _ _ _ _).trans (Fr.cell _ _ _ _)).trans (Fr.cell _ _ _ _)
          have hBl := BB.lt
          have hs2 := (f2.trans f3).size
          have hfu : Fresh w.heap.size w.heap.size u := fun g hg => by have := hug g hg; omega
          refine ⟨⟨k + 1, ⟨e, q, k, b⟩, by omega, by go_num, HX, ⟨by simp only []; omega, by simp only []; omega, hq, by simp only []; omega⟩, jnI_set5 (jnI_set4 (jnI_set3 (f24.keep hB (by simp)) e) q) k, hu.keep g4 (fun g hg => by have := hfu g hg; simp; omega), hfu, (show InH w4 u from fun g hg => (hug g hg).2).up g4, ?_⟩, by simp [intOf]; omega⟩
          exact (hF.trans f24).then g4 (fun k hk => .inr (by
            obtain rfl : k = w.heap.size := by simpa using hk
            exact Nat.le_refl _))
        · rw [if_neg hlt2] at HX
          go_wp2_with (first
            | (go_at_call 29; refine (CPl wr).mono ?_; rintro e w2 ⟨rfl, f2⟩)
            | (go_at_call 33; refine (CRd w2 (hF.trans f2)).mono ?_; rintro e w3 ⟨v, rfl, O3, f3⟩)
            | (go_at_call 32; refine (CLf w3 v O3.bs).mono ?_; rintro e w4 ⟨f4, u, rfl, hu, hug⟩; have f24 := (f2.trans f3).trans f4; have B4 : Blk w4 w.heap.size (.cells #[.pointer (some ⟨p, 0, none⟩), .int .i64 slot, .int .i64 log, .int .i64 x.epoch, .int .i64 x.seq, .int .i64 x.at_, .int .i64 (0 : Nat), .bool false, .bool false] tJ (0, 0)) := BB.keep0 f24
               have d3 : w4.cell? ⟨w.heap.size, 3, none⟩ = some (.int .i64 x.epoch) := cellOf B4.out rfl))
          exact ⟨⟨k + 1, x, by omega, by go_num, HX, ⟨hx1, hx2, hx3, hx4⟩, f24.keep hB (by simp), hst.keep0 f24, hfr, hin.up f24, hF.trans f24⟩, by simp [intOf]; omega⟩
    · obtain rfl : k = 2 := by omega
      have d3 : wr.cell? ⟨w.heap.size, 3, none⟩ = some (.int .i64 x.epoch) := cellOf BB.out rfl
      by_cases hneg : x.epoch < 0
      · have HO : Hid (D.opened slot log = none) := by
          rw [Hid]
          unfold Dk.opened
          rw [← Dk.bestN_two, ← hx.out, if_pos hneg]
        go_wp2
        refine bodyPost_ret (results_tmp4 rfl _ _ _) rfl ?_
        unfold OpenPost
        rw [HO.out]
        exact ⟨rfl, hF⟩
      · obtain ⟨E, q0, at', sb, hxE, hE⟩ : ∃ (E q0 at' : Nat) (sb : Bytes), x = ⟨(E : Int), q0, at', sb⟩ ∧ E < 4294967296 := by
          obtain ⟨e, q, a, s⟩ := x
          simp only at hneg hx2
          exact ⟨e.toNat, q, a, s, by rw [show ((e.toNat : Nat) : Int) = e by omega], by omega⟩
        subst hxE
        obtain ⟨R, hR, hRl⟩ : ∃ R, R = D.read (2 * slot) (2 * slot + log) ∧ R.length = 32 * log := ⟨_, rfl, length_read h.ok (2 * slot) log (by omega)⟩
        obtain ⟨full, hfull⟩ : ∃ f, f = follow E (log + 1) q0 0 R := ⟨_, rfl⟩
        have HO : Hid (D.opened slot log = some (⟨slot, log, E, full.2.1, at', full.2.2, false, false⟩, sb, full.1)) := by
          rw [Hid]
          unfold Dk.opened
          rw [← Dk.bestN_two, ← hx.out, if_neg hneg]
          simp only [Int.toNat_natCast, ← hR, ← hfull]
        simp only at hx2 hx3 hx4 hst d3
        have CLo : Calls Tryd.prog 34 #[.agg #[.pointer (some ⟨p, 0, none⟩), .int .i64 slot, .int .i64 log], .int .i64 0] wr fun e w' => e = .returned (exV (some ⟨p, 0, none⟩) (2 * slot : Nat) (2 * slot + log : Nat)) ∧ Fr [] wr w' := wal_logs wr (some ⟨p, 0, none⟩) slot log 0 (by omega) (by omega) (by omega)
        have CRd : ∀ W, Fr [] w W → Calls Tryd.prog 33 #[exV (some ⟨p, 0, none⟩) (2 * slot : Nat) (2 * slot + log : Nat)] W (RetB W R) := fun W hW => by
          have := extent_read (h.keep0 hW) (2 * slot) (2 * slot + log) (by omega) (by omega)
          rw [← hR] at this
          exact this
        have HF : Hid (full = ([] ++ (follow E (log + 1) q0 0 R).1, (follow E (log + 1) q0 0 R).2)) := by rw [Hid, hfull]; rfl
        clear hR hfull hx
        have hBl := BB.lt
        go_wp2_with (first
          | (go_at_call 34; refine CLo.mono ?_; rintro e w2 ⟨rfl, f2⟩)
          | (go_at_call 33; refine (CRd w2 (hF.trans f2)).mono ?_; rintro e w3 ⟨v, rfl, O3, f3⟩))
        have f23 := f2.trans f3
        have hs2 := f2.size
        have hfv : Fresh w.heap.size w.heap.size v := fun g hg => by have := O3.ge hg; omega
        go_loopw [6, 7, 8, 16] (fun i6 i7 l r W => OpInv2 w w.heap.size p slot log E at' sb u7 full i6 i7 l r W) (fun _ _ _ r _ => lenOf r)
        case atStart =>
          exact ⟨rfl, rfl, [], [], q0, 0, log + 1, R, HF, by omega, by omega, by omega, hx3, by simp, OV.nil _ _, BSall.nil _, (fun v hv => by simp at hv), (fun g hg => by cases hg), O3.bs, hfv, ⟨(fun g hg => by cases hg), fun g hg => (World.ownsRow.lt O3 g hg).2⟩, hst.keep0 f23, ⟨(fun g hg => by cases hg), hin.up f23⟩, f23.keep hB (by simp), hF.trans f23⟩
        case round =>
          obtain ⟨rfl, rfl, ls, us, q, u, fuel, rb, HFu, hrl, hul, hfu, hq, hlu, hOV, hBS, hus, hfl, hr, hfr2, ⟨hap, hinr⟩, hst2, ⟨hap2, hin2⟩, hB2, hF2⟩ := hrel.out
          have BB2 : Blk wr w.heap.size (.cells #[.pointer (some ⟨p, 0, none⟩), .int .i64 slot, .int .i64 log, .int .i64 E, .int .i64 q, .int .i64 at', .int .i64 u, .bool false, .bool false] tJ (0, 0)) := ⟨hB2⟩
          obtain ⟨fuel, rfl⟩ : ∃ f, fuel = f + 1 := ⟨fuel - 1, by omega⟩
          have hrl1 : rb.length ≤ 32 * (log - u) := by omega
          have hrl2 : 32 * (log - u) ≤ rb.length := by omega
          have hrb : rb.length ≤ 4194304 := by omega
          clear hrl
          obtain ⟨al, cl, rfl, hcl1, hcl2⟩ := hOV.shape
          obtain ⟨ar, cr, rfl, hcr1, hcr2⟩ := hr.shape
          have hBl2 := BB2.lt
          have e3 : wr.cell? ⟨w.heap.size, 3, none⟩ = some (.int .i64 E) := cellOf BB2.out rfl
          have e4 : wr.cell? ⟨w.heap.size, 4, none⟩ = some (.int .i64 q) := cellOf BB2.out rfl
          cases hl : lift rb with
          | none =>
            have CLf : Calls Tryd.prog 32 #[.slice ar rb.length cr] wr fun e w' => e = .returned (.tuple #[.int .i64 0, .int .i64 0, .slice none 0 0, .int .i64 0, .int .i64 3]) ∧ Fr [] wr w' := by
              refine (sheet_Lift hr hrb).mono ?_
              rintro e w' ⟨f1, h2⟩
              rw [hl] at h2
              exact ⟨h2, f1⟩
            have HD : Hid (full = (ls, q, u)) := by
              rw [Hid, HFu.out]; unfold follow; rw [hl]; simp
            clear hl HFu HF
            go_wp2_with (go_at_call 32; refine CLf.mono ?_; rintro e w4 ⟨rfl, f4⟩)
            refine bodyPost_ret (results_tmp4 rfl _ _ _) rfl ?_
            unfold OpenPost
            rw [HO.out, HD.out]
            refine ⟨w.heap.size, _, _, us, rfl, ⟨f4.keep hB2 (by simp)⟩, Nat.le_refl _, hst2.keep0 f4, hfr, hOV.vs.keep0 f4, hfl, hBS.keep0 f4, fun v hv => (hus v hv).1, hF2.trans f4⟩
          | some t =>
            obtain ⟨e, q', b, n⟩ := t
            obtain ⟨he, hq', hbl, hn1, hn2⟩ := lift_bounds hl
            have CLf : Calls Tryd.prog 32 #[.slice ar rb.length cr] wr fun x w' => Fr [] wr w' ∧ ∃ u, x = .returned (.tuple #[.int .i64 e, .int .i64 q', u, .int .i64 n, .int .i64 0]) ∧ BS w' u b ∧ ∀ g, u.ownBlock = some g → wr.heap.size ≤ g ∧ g < w'.heap.size := by
              refine (sheet_Lift hr hrb).mono ?_
              rintro e w' ⟨f1, h2⟩
              rw [hl] at h2
              exact ⟨f1, h2⟩
            by_cases hc : e = E ∧ q' = q + 1
            · have HN : Hid (full = ((ls ++ [b]) ++ (follow E fuel q' (u + n) (rb.drop (32 * n))).1, (follow E fuel q' (u + n) (rb.drop (32 * n))).2)) := by
                rw [Hid, HFu.out]
                conv => lhs; unfold follow
                rw [hl]
                simp only [if_pos hc]
                simp
              obtain ⟨hce, hcq⟩ := hc
              subst hce
              subst hcq
              clear hl HFu HF
              go_wp2_with (first
                | (go_at_call 32; refine CLf.mono ?_; rintro x w4 ⟨f4, v4, rfl, hu4, hug4⟩; obtain ⟨a4, c4, rfl, hd1, hd2⟩ := hu4.shape; have hb1 := run_build1 w4 a4 b.length c4
                   have B4 := BB2.keep0 f4
                   have g3 : w4.cell? ⟨w.heap.size, 3, none⟩ = some (.int .i64 e) := cellOf B4.out rfl
                   have g4 : w4.cell? ⟨w.heap.size, 4, none⟩ = some (.int .i64 q) := cellOf B4.out rfl)
                | ((with_reducible show wpList _ _ _ (Oper.mk _ (Op.call (Call.mk (Callee.builtin _) _ _)) _ _ _ _ :: _) _ _); refine wpList_append_one rfl _ _ rfl rfl rfl ((hOV.keep0 f4).keep0 (Fr.alloc w4 _)) ⟨Go.heap_alloc_new w4 _⟩ rfl (by rw [hBS.1]; omega) (by have := f4.size; simp; omega) ?_; intro v5 w5 O5 f5 hv5))
              have f5 : Fr (Value.slice al us.length cl).ownBlock.toList (w4.alloc (.cells #[.slice a4 b.length c4] tB)) w5 := f5
              have hv5 : v5.ownBlock = (Value.slice al us.length cl).ownBlock ∨ v5.ownBlock = some (w4.alloc (.cells #[.slice a4 b.length c4] tB)).heap.size := hv5
              have HRl := Lib.hid hRl
              clear hb1 CLf CLo CRd CM hRl
              have s4 := f4.size
              have f45 := f4.trans (Fr.alloc w4 (.cells #[.slice a4 b.length c4] tB))
              have hL : ∀ g, (Value.slice al us.length cl).ownBlock = some g → g < wr.heap.size := fun g hg => (World.ownsRow.lt hOV g hg).2
              have hnl : w.heap.size ∉ (Value.slice al us.length cl).ownBlock.toList := fun hm => (hfl _ (by simpa using hm)).2 rfl
              have B5 := ((BB2.keep0 f45).keep f5 hnl).keep0 (Fr.drew w5)
              have hsub := hr.sub (L := 32 * n) (H := rb.length) (M := cr) hn1 hcr1 (Nat.le_refl _) (Nat.le_refl _)
              rw [List.take_length] at hsub
              obtain ⟨vr, hvr⟩ : ∃ vr, vr = Value.slice (if cr = 32 * n then ar else ar.map (·.add (32 * n * 1))) (rb.length - 32 * n) (cr - 32 * n) := ⟨_, rfl⟩
              have hvrb : ∀ g, vr.ownBlock = some g → (Value.slice ar rb.length cr).ownBlock = some g := fun g hg => by rw [hvr] at hg; exact sub_block hg
              have hvrl : lenOf vr = rb.length - 32 * n := by rw [hvr]; rfl
              rw [← hvr] at hsub
              have HVR := Lib.hid hvr
              have HVL := Lib.hid hvrl
              have HV5 := Lib.hid hv5
              have HVB := Lib.hid hvrb
              have HLL := Lib.hid hL
              have HNL := Lib.hid hnl
              clear hvr hvrl hv5 hvrb hL hnl
              have hn3 : n ≤ 4096 := by omega
              refine wp_region_hoist [0, 1, 2, 3, 4, 5, 7, 9, 10, 11, 12] (by kernel_rfl) (by kernel_rfl) (fun _ _ _ d _ h => by cases d <;> exact h) ?_
              simp only [takeO, List.map_cons, List.map_nil, List.getD_cons_zero, List.getD_cons_succ]
              refine wpPure_move rfl _ rfl (v := .pointer (some ⟨w.heap.size, 0, none⟩)) rfl ?_; simp only [Act.put, List.setIfInBounds_toArray, List.set_cons_succ, List.set_cons_zero]
              refine wpPure_move rfl _ rfl (v := .pointer (some ⟨w.heap.size, 0, none⟩)) rfl ?_; simp only [Act.put, List.setIfInBounds_toArray, List.set_cons_succ, List.set_cons_zero]
              refine wpPure_move rfl _ rfl (v := .int .i64 ((q : Int) + 1)) rfl ?_; simp only [Act.put, List.setIfInBounds_toArray, List.set_cons_succ, List.set_cons_zero]
              refine wpPure_move rfl _ rfl (v := .pointer (some ⟨w.heap.size, 0, none⟩)) rfl ?_; simp only [Act.put, List.setIfInBounds_toArray, List.set_cons_succ, List.set_cons_zero]
              refine wpPure_nilCheck rfl _ rfl (ad := ⟨w.heap.size, 0, none⟩) rfl ?_; simp only [Act.put, List.setIfInBounds_toArray, List.set_cons_succ, List.set_cons_zero]
              refine wpPure_field rfl _ _ _ rfl rfl (.pointer (some ⟨w.heap.size, 6, none⟩)) (fun W => by kernel_rfl) ?_; simp only [Act.put, List.setIfInBounds_toArray, List.set_cons_succ, List.set_cons_zero]
              refine wpPure_move rfl _ rfl (v := .int .i64 n) rfl ?_; simp only [Act.put, List.setIfInBounds_toArray, List.set_cons_succ, List.set_cons_zero]
              refine wpPure_move rfl _ rfl (v := .slice ar rb.length cr) rfl ?_; simp only [Act.put, List.setIfInBounds_toArray, List.set_cons_succ, List.set_cons_zero]
              refine wpPure_move rfl _ rfl (v := .int .i64 n) rfl ?_; simp only [Act.put, List.setIfInBounds_toArray, List.set_cons_succ, List.set_cons_zero]
              refine wpPure_val rfl (.int .i64 ((n : Int) * 32)) (fun W => by rw [show ((n : Int) * 32) = IntKind.i64.wrap ((n : Int) * 32) by rw [IntKind.wrap_i64]; omega]; kernel_rfl) ?_; simp only [Act.put, List.setIfInBounds_toArray, List.set_cons_succ, List.set_cons_zero]
              refine wpPure_slice rfl _ _ _ _ _ rfl rfl Tryd.underlying23 (sz := 1) (by kernel_rfl) (32 * n) rb.length cr (by simp [VIs, Act.eval]; omega) rfl rfl (fun h => by cases h) hn1 hcr1 (Nat.le_refl _) vr HVR.out ?_; simp only [Act.put, List.setIfInBounds_toArray, List.set_cons_succ, List.set_cons_zero]
              refine wpPure_nil ?_
              refine wpAny_one 6 rfl (by kernel_rfl) (exec_load (v := .int .i64 u) rfl rfl Tryd.underlying3 rfl (cellOf B5.out rfl)) ?_
              simp only [List.getD_cons_zero, List.getD_cons_succ]; simp only [Act.put, List.setIfInBounds_toArray, List.set_cons_succ, List.set_cons_zero]
              refine wpAny_more [8, 13, 14] 5 (by kernel_rfl) (fun _ _ _ d _ h => by cases d <;> exact h) ?_
              simp only [takeO, List.map_cons, List.map_nil, List.getD_cons_zero, List.getD_cons_succ]
              refine wpPure_val rfl (.int .i64 ((u : Int) + n)) (fun W => by rw [show ((u : Int) + n) = IntKind.i64.wrap ((u : Int) + n) by rw [IntKind.wrap_i64]; omega]; kernel_rfl) ?_; simp only [Act.put, List.setIfInBounds_toArray, List.set_cons_succ, List.set_cons_zero]
              refine wpPure_nilCheck rfl _ rfl (ad := ⟨w.heap.size, 0, none⟩) rfl ?_; simp only [Act.put, List.setIfInBounds_toArray, List.set_cons_succ, List.set_cons_zero]
              refine wpPure_field rfl _ _ _ rfl rfl (.pointer (some ⟨w.heap.size, 4, none⟩)) (fun W => by kernel_rfl) ?_; simp only [Act.put, List.setIfInBounds_toArray, List.set_cons_succ, List.set_cons_zero]
              refine wpPure_nil ?_
              refine wpAny_forced [15, 16, 17, 18, 19] _ _ _ _ (by kernel_rfl) ?_
              simp only [takeO, List.map_cons, List.map_nil, List.getD_cons_zero, List.getD_cons_succ]
              have f6 := Fr.drew w5
              generalize w5.drew = w6 at f6 B5 ⊢
              have z4 : w6.frozen? ⟨w.heap.size, 4, none⟩ = false := freeOf B5.out
              have z6 : w6.frozen? ⟨w.heap.size, 6, none⟩ = false := freeOf B5.out
              have k4 : w6.cell? ⟨w.heap.size, 4, none⟩ = some (.int .i64 q) := cellOf B5.out rfl
              have k6 : w6.cell? ⟨w.heap.size, 6, none⟩ = some (.int .i64 u) := cellOf B5.out rfl
              go_wp2
              have gs : Fr [w.heap.size] w6 ((w6.setCell ⟨w.heap.size, 4, none⟩ (.int .i64 ((q : Int) + 1))).setCell ⟨w.heap.size, 6, none⟩ (.int .i64 ((u : Int) + n))) := (Fr.cell _ _ _ _).trans (Fr.cell _ _ _ _)
              generalize hw7 : ((w6.setCell ⟨w.heap.size, 4, none⟩ (.int .i64 ((q : Int) + 1))).setCell ⟨w.heap.size, 6, none⟩ (.int .i64 ((u : Int) + n))) = w7 at gs ⊢
              have hB7 : w7.heap[w.heap.size]? = some (jnI p slot log ⟨(e : Int), q + 1, at', sb⟩ (u + n)) := by
                rw [← hw7]; exact jnI_set6 (jnI_set4 (x := ⟨(e : Int), q, at', sb⟩) (u := u) (p := p) (slot := slot) (log := log) B5.out (q + 1)) (u + n)
              have keepV : ∀ {V : World} {v : Value} {l : Bytes}, Fr [] V w6 → BS V v l → Fresh w.heap.size w.heap.size v → BS w7 v l := fun hV h hf => (h.keep0 hV).keep gs (fun g hg => by have := hf g hg; simp; omega)
              have keepO : ∀ {v : Value} {l : Bytes}, BS wr v l → Apart (.slice al us.length cl) v → Fresh w.heap.size w.heap.size v → BS w7 v l := fun h ha hf => (((h.keep0 f45).keep f5 (fun g hg hm => ha g (by simpa using hm) hg)).keep0 f6).keep gs (fun g hg => by have := hf g hg; simp; omega)
              have hsz4 : (w4.alloc (.cells #[.slice a4 b.length c4] tB)).heap.size = w4.heap.size + 1 := by simp
              have hv5f : Fresh w.heap.size w.heap.size v5 := fun g hg => by
                rcases HV5.out with h | h
                · exact hfl g (by rw [← h]; exact hg)
                · rw [h] at hg; simp only [Option.some.injEq] at hg; omega
              have hap5 : ∀ {v : Value}, Apart (.slice al us.length cl) v → (∀ g, v.ownBlock = some g → g < wr.heap.size) → Apart v5 v := fun ha hlt g hg hvg => by
                rcases HV5.out with h | h
                · exact ha g (by rw [← h]; exact hg) hvg
                · rw [h] at hg; simp only [Option.some.injEq] at hg; have := hlt g hvg; omega
              have hu4f : Fresh w.heap.size w.heap.size (.slice a4 b.length c4) := fun g hg => by have := hug4 g hg; omega
              have hap4 : Apart (.slice al us.length cl) (.slice a4 b.length c4) := fun g hg hvg => by have := HLL.out g hg; have := hug4 g hvg; omega
              have hap54 : Apart v5 (.slice a4 b.length c4) := fun g hg hvg => by
                rcases HV5.out with h | h
                · exact hap4 g (by rw [← h]; exact hg) hvg
                · rw [h] at hg; simp only [Option.some.injEq] at hg; have := (hug4 g hvg).2; omega
              have hap_r : Apart (.slice al us.length cl) vr := fun g hg hvg => hap g hg (HVB.out g hvg)
              have hin_r : InH wr vr := fun g hg => hinr g (HVB.out g hg)
              have hfr_r : Fresh w.heap.size w.heap.size vr := fun g hg => hfr2 g (HVB.out g hg)
              have hu4' : BS w7 (.slice a4 b.length c4) b := (((hu4.keep0 (Fr.alloc w4 _)).keep f5 (fun g hg hm => hap4 g (by simpa using hm) hg)).keep0 f6).keep gs (fun g hg => by have := hu4f g hg; simp; omega)
              have hdl : (rb.drop (32 * n)).length = rb.length - 32 * n := List.length_drop
              refine ⟨⟨rfl, rfl, ls ++ [b], us ++ [.slice a4 b.length c4], q + 1, u + n, fuel, rb.drop (32 * n), HN, by omega, by omega, by omega, hq', by simp; omega, (O5.keep0 f6).keep gs (fun g hg => by have := hv5f g hg; simp; omega), BSall.snoc ⟨hBS.1, fun i x y hx hy => ?_⟩ hu4', ?_, hv5f, keepO hsub hap_r hfr_r, hfr_r, ?_, keepO hst2 hap2 hfr, ?_, hB7, ?_⟩, ?_⟩
              · have hm := List.mem_of_getElem? hx
                exact keepO (hBS.2 i x y hx hy) (hus x hm).2.1 (hus x hm).1
              · intro x hx
                rcases List.mem_append.1 hx with hx | hx
                · exact ⟨(hus x hx).1, hap5 (hus x hx).2.1 (hus x hx).2.2, ((((hus x hx).2.2.up f45).up f5).up f6).up gs⟩
                · obtain rfl : x = .slice a4 b.length c4 := by simpa using hx
                  exact ⟨hu4f, hap54, ((InH.up (InH.up (W := w4) (fun g hg => (hug4 g hg).2) (Fr.alloc w4 _)) f5).up f6).up gs⟩
              · exact ⟨hap5 hap_r hin_r, (((hin_r.up f45).up f5).up f6).up gs⟩
              · exact ⟨hap5 hap2 hin2, (((hin2.up f45).up f5).up f6).up gs⟩
              · have g1 : Fr [] w w5 := (hF2.trans f45).then f5 (fun k hk => .inr (hfl k (by simpa using hk)).1)
                exact (g1.trans f6).then gs (fun k hk => .inr (by
                  obtain rfl : k = w.heap.size := by simpa using hk
                  exact Nat.le_refl _))
              · rw [HVL.out]
                show rb.length - 32 * n < rb.length
                omega
            · have HD : Hid (full = (ls, q, u)) := by
                rw [Hid, HFu.out]; unfold follow; rw [hl]; simp only [if_neg hc]; simp
              by_cases hce : e = E
              · subst hce
                have hcq : Hid (((q' : Int) != (q : Int) + 1) = true) := by
                  rw [Hid, bne_iff_ne]; intro hh; exact hc ⟨rfl, by omega⟩
                clear hl HFu HF hc
                go_wp2_with (first
                  | (go_at_call 32; refine CLf.mono ?_; rintro x w4 ⟨f4, v4, rfl, hu4, hug4⟩
                     have B4 := BB2.keep0 f4
                     have g3 : w4.cell? ⟨w.heap.size, 3, none⟩ = some (.int .i64 e) := cellOf B4.out rfl
                     have g4 : w4.cell? ⟨w.heap.size, 4, none⟩ = some (.int .i64 q) := cellOf B4.out rfl)
                  | ((with_reducible show wpList _ _ _ (Oper.mk (some 111) _ _ _ _ _ :: _) _ _); refine wpList_val_g rfl (.bool true) (by rw [← hcq.out]; kernel_rfl) ?_))
                refine bodyPost_ret (results_tmp4 rfl _ _ _) rfl ?_
                unfold OpenPost
                rw [HO.out, HD.out]
                exact ⟨w.heap.size, _, _, us, rfl, ⟨f4.keep hB2 (by simp)⟩, Nat.le_refl _, hst2.keep0 f4, hfr, hOV.vs.keep0 f4, hfl, hBS.keep0 f4, fun v hv => (hus v hv).1, hF2.trans f4⟩
              · have hcq : Hid (((e : Int) != (E : Int)) = true) := by
                  rw [Hid, bne_iff_ne]; intro hh; exact hce (by omega)
                clear hl HFu HF hc hce
                go_wp2_with (first
                  | (go_at_call 32; refine CLf.mono ?_; rintro x w4 ⟨f4, v4, rfl, hu4, hug4⟩
                     have B4 := BB2.keep0 f4
                     have g3 : w4.cell? ⟨w.heap.size, 3, none⟩ = some (.int .i64 E) := cellOf B4.out rfl
                     have g4 : w4.cell? ⟨w.heap.size, 4, none⟩ = some (.int .i64 q) := cellOf B4.out rfl)
                  | ((with_reducible show wpList _ _ _ (Oper.mk (some 102) _ _ _ _ _ :: _) _ _); refine wpList_val_g rfl (.bool true) (by rw [← hcq.out]; kernel_rfl) ?_))
                refine bodyPost_ret (results_tmp4 rfl _ _ _) rfl ?_
                unfold OpenPost
                rw [HO.out, HD.out]
                exact ⟨w.heap.size, _, _, us, rfl, ⟨f4.keep hB2 (by simp)⟩, Nat.le_refl _, hst2.keep0 f4, hfr, hOV.vs.keep0 f4, hfl, hBS.keep0 f4, fun v hv => (hus v hv).1, hF2.trans f4⟩
end
end Gd
