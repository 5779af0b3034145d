/- WalAgain: the walk. -/
import Derived.Test.YtccgpblecgapaaaDoorAwa
import Derived.Test.YtccgpblecgapaaaDoorRmw
import Derived.Test.YtccgpblecgapaaaDoorPl4
import Derived.Test.YtccgpblecgapaaaDoorDed
set_option linter.unusedSimpArgs false
set_option linter.unusedVariables false
namespace Gd
open Go Go.Proofs Go.RowKit

structure AgInv (A : Nat → Bytes) (w1 : World) (p s m j : Nat) (i : Value) (W : World) : Prop where
  out : ∃ (k seq used : Nat) (D : Dk), k ≤ 30 ∧ i = .int .i64 k ∧ seq ≤ k ∧ used ≤ 50 ∧ Again A D ∧ DiskAt W p s m D ∧ JnAt W j p (roomJ 50 seq used) ∧ Fr [] w1 W

set_option maxRecDepth 100000 in
set_option maxHeartbeats 4000000 in
theorem law_WalAgain {w : World} {v : Value} {ds : List Deed} (hv : DS w v ds) {cs : Array Value} {de : Deed} (hx : DeedIs w cs.toList de) :
    Calls Tryd.prog 6 #[v, .agg cs] w fun e w' => e = .returned (.bool true) ∧ Fr [] w w' := by
  obtain ⟨av, cv, rfl, hcv1, hcv2⟩ := hv.shape
  unfold maxLen at hcv2
  obtain ⟨ux, hcs, hux⟩ := hx.out
  obtain ⟨kx, bx, X, Y, Z⟩ := de
  simp only at hcs hux
  obtain rfl : cs = #[.int .u8 kx, ux, .int .i64 X, .int .i64 Y, .int .i64 Z] := by
    apply Array.ext'
    rw [hcs]
  obtain ⟨M, hM⟩ : ∃ M : Nat, M = 60 := ⟨_, rfl⟩
  obtain ⟨D1, e1, z1, o1, D2, e2, R2, p2, pl2⟩ := again_start (n := 50) hM rfl
  rw [hM] at R2 z1
  have hMi : (60 : Int) = (M : Int) := by omega
  have CN : ∀ W, Calls Tryd.prog 7 #[.int .i64 60] W (NewDisk W (Dk.new (M : Int))) := fun W => by
    have := disk_New W 60 (by omega) (by omega)
    rw [hMi] at this ⊢
    exact this
  have CFm : ∀ {W : World} {p s m : Nat}, DiskAt W p s m (Dk.new (M : Int)) → Calls Tryd.prog 8 #[.pointer (some ⟨p, 0, none⟩), .int .i64 2, .int .i64 50, .slice none 0 0] W fun e w' => e = .returned (.int .i64 0) ∧ DiskAt w' p s m D1 ∧ Fr [p, s, m] W w' := fun {W p s m} h => by
    have := wal_Format h 2 50 ⟨by omega, by omega, by rw [new_size _ (by omega)]; omega⟩ (BS.nil W) (by simp)
    unfold Formatted at this
    rw [e1] at this
    exact this
  have COp : ∀ {W : World} {p s m : Nat}, DiskAt W p s m D1 → Calls Tryd.prog 9 #[.pointer (some ⟨p, 0, none⟩), .int .i64 2, .int .i64 50] W (Opened W p ⟨2, 50, 1, 0, 0, 0, false, false⟩ [] []) := fun {W p s m} h => by
    have := wal_Open h 2 50 ⟨by omega, by omega, by rw [z1]; omega⟩
    unfold OpenPost at this
    rw [o1] at this
    exact this
  have CCk : ∀ {W : World} {p s m j : Nat}, DiskAt W p s m D1 → JnAt W j p ⟨2, 50, 1, 0, 0, 0, false, false⟩ → j ≠ p ∧ j ≠ s ∧ j ≠ m → Calls Tryd.prog 10 #[.pointer (some ⟨j, 0, none⟩), .slice none 0 0] W fun e w' => e = .returned (.int .i64 0) ∧ DiskAt w' p s m D2 ∧ JnAt w' j p (roomJ 50 0 0) ∧ Fr [p, s, m, j] W w' := fun {W p s m j} h hj hne => by
    have := wal_Checkpoint h hj hne ⟨by simp only []; omega, by simp, by show 0 < 50; omega, by simp, by simp, by simp, by simp⟩ (BS.nil W) (by simp)
    unfold Ckpt at this
    rw [e2] at this
    exact this
  have hA := again_first R2 p2
  have okJ : ∀ {D : Dk} (seq used : Nat), Run 60 2 D → seq ≤ 1000 → used ≤ 50 → (roomJ 50 seq used).ok D := fun {D} seq used hR hs hu => ⟨by rw [hR.size]; simp only [roomJ]; omega, by simp [roomJ], by simp only [roomJ]; omega, by simp [roomJ], by simp only [roomJ]; omega, by simp [roomJ], hu⟩
  clear e1 o1 e2 hMi hM hcs
  go_enter Tryd.func6, Tryd.ntmps6
  go_wp2_with (first
    | (go_at_call 10; (with_reducible refine Calls.mono (CCk h3 j3 hne) ?_); rintro e w4 ⟨rfl, h4, j4, f4⟩)
    | (go_at_call 9; (with_reducible refine Calls.mono (COp h2) ?_); rintro e w3 ⟨j, st, l, us, rfl, j3, hj, hst, hstf, hl, hlf, hus, husf, f3⟩
       have h3 := h2.keep0 f3
       obtain ⟨lp, ls, lm⟩ := h2.lt
       have hne : j ≠ p ∧ j ≠ s ∧ j ≠ m := by omega)
    | (go_at_call 8; (with_reducible refine Calls.mono (CFm h1) ?_); rintro e w2 ⟨rfl, h2, f2⟩)
    | (go_at_call 7; refine (CN _).mono ?_; rintro e w1 ⟨p, s, m, rfl, h1, hp, hs, hm, f1⟩
       obtain ⟨w0, hw0⟩ : ∃ w0, w0 = w.alloc (.cells #[.int .u8 kx, ux, .int .i64 X, .int .i64 Y, .int .i64 Z] tDe) := ⟨_, rfl⟩
       rw [← hw0] at f1 hp hs hm
       have F0 : Fr [] w w0 := by rw [hw0]; exact Fr.alloc _ _
       have bx0 : Blk w0 w.heap.size (.cells #[.int .u8 kx, ux, .int .i64 X, .int .i64 Y, .int .i64 Z] tDe (0, 0)) := by rw [hw0]; exact ⟨Go.heap_alloc_new w _⟩
       have hs0 : w0.heap.size = w.heap.size + 1 := by rw [hw0]; simp
       clear hw0))
  have F4 : Fr [] w0 w4 := ((f1.then f2 (by simp; omega)).trans f3).then f4 (by
    have e1 := f1.size
    have e2 := f2.size
    simp; omega)
  go_loopw [10] (fun i W => AgInv (fun i => D2.at_ i) w0 p s m j i W) (fun i _ => 30 - (RowKit.intOf i).toNat)
  case atStart => exact ⟨0, 0, 0, D2, by omega, rfl, by omega, by omega, hA, h4, j4, F4⟩
  case round =>
    obtain ⟨k, seq, used, D, hk30, rfl, hsk, hun, hAg, hD, hJ, hF⟩ := hrel.out
    by_cases hlt : k < ds.length ∧ k < 30
    · obtain ⟨hl1, hl2⟩ := hlt
      obtain ⟨g, off, u, rfl, c0, c1, _, _, _, hb, hdi⟩ := ((hv.keep0 F0).keep0 hF).at (k := k) hl1
      obtain ⟨kd, b, hkd, hbd⟩ : ∃ kd b, kd = (ds[k]'hl1).kind ∧ b = (ds[k]'hl1).b := ⟨_, _, rfl, rfl⟩
      have hkb : kd < 256 := by rw [hkd]; exact hdi.kind
      rw [← hkd] at c0
      rw [← hbd] at hb
      clear hdi hkd hbd
      by_cases hk3 : kd % 3 = 0
      · obtain ⟨D', hcm, hAg'⟩ := again_commit hAg seq used
        have CCm : ∀ {W : World}, DiskAt W p s m D → JnAt W j p (roomJ 50 seq used) → Calls Tryd.prog 16 #[.pointer (some ⟨j, 0, none⟩)] W fun e w' => e = .returned (.int .i64 0) ∧ DiskAt w' p s m D' ∧ JnAt w' j p (roomJ 50 seq used) ∧ Fr [p, s, m, j] W w' := fun {W} h hj => by
          have := wal_Commit h hj hne
          rw [hcm] at this
          exact this
        clear hcm
        go_wp2_with (go_at_call 16; (with_reducible refine Calls.mono (CCm hD hJ) ?_); rintro e wa ⟨rfl, ha, ja, fa⟩)
        exact ⟨⟨k + 1, seq, used, D', by omega, by go_num, by omega, hun, hAg', ha, ja, hF.then fa (by simp; omega)⟩, by simp [RowKit.intOf]; omega⟩
      · obtain ⟨D', seq', used', e', hap, hAg', hs', hu'⟩ := again_append hAg seq used (b.take 50) (by omega) hun (by rw [List.length_take]; omega)
        have CAp : ∀ {W : World} {v : Value}, DiskAt W p s m D → JnAt W j p (roomJ 50 seq used) → BS W v (b.take 50) → Calls Tryd.prog 13 #[.pointer (some ⟨j, 0, none⟩), v] W fun e w' => e = .returned (.int .i64 e') ∧ DiskAt w' p s m D' ∧ JnAt w' j p (roomJ 50 seq' used') ∧ Fr [p, m, j] W w' := fun {W v} h hj hv => by
          have := wal_Append h hj hne (okJ seq used hAg.run (by omega) hun) hv (by rw [List.length_take]; omega)
          unfold Appended at this
          rw [hap] at this
          exact this
        clear hap
        go_wp2_with (first
          | (go_at_call 13; (with_reducible refine Calls.mono (CAp hD hJ hb1) ?_); rintro e wa ⟨rfl, ha, ja, fa⟩)
          | (go_at_call 15; (with_reducible refine Calls.mono (law_few hb 50) ?_); rintro e wb ⟨u1, rfl, hb1, hu1, rfl⟩))
        exact ⟨⟨k + 1, seq', used', D', by omega, by go_num, by omega, hu', hAg', ha, ja, hF.then fa (by simp; omega)⟩, by simp [RowKit.intOf]; omega⟩
    · obtain ⟨J, sb, lb, o1, o2, o3, c2, c3, c4⟩ := again_end R2 pl2 hAg X Y Z
      obtain ⟨D', hD'⟩ : ∃ D', D' = D.crash X Y Z := ⟨_, rfl⟩
      rw [← hD'] at o1 c2 c3
      have c4' : D'.crash Z X Y = D' := by rw [hD']; exact c4 Z X Y
      have CC1 : ∀ {W : World}, DiskAt W p s m D → Calls Tryd.prog 22 #[.pointer (some ⟨p, 0, none⟩), .int .i64 X, .int .i64 Y, .int .i64 Z] W fun e w' => e = .returned (.tuple #[]) ∧ DiskAt w' p s m D' ∧ Fr [p, s, m] W w' := fun {W} h => by
        have := disk_Crash h X Y Z
        rw [← hD'] at this
        exact this
      have CC2 : ∀ {W : World}, DiskAt W p s m D' → Calls Tryd.prog 22 #[.pointer (some ⟨p, 0, none⟩), .int .i64 Z, .int .i64 X, .int .i64 Y] W fun e w' => e = .returned (.tuple #[]) ∧ DiskAt w' p s m D' ∧ Fr [p, s, m] W w' := fun {W} h => by
        have := disk_Crash h Z X Y
        rw [c4'] at this
        exact this
      have COp2 : ∀ {W : World}, DiskAt W p s m D' → Calls Tryd.prog 9 #[.pointer (some ⟨p, 0, none⟩), .int .i64 2, .int .i64 50] W (Opened W p J sb lb) := fun {W} h => by
        have := wal_Open h 2 50 ⟨by omega, by omega, by rw [c2]; omega⟩
        unfold OpenPost at this
        rw [o1] at this
        exact this
      have CRm : ∀ {W : World} {j' : Nat}, JnAt W j' p J → Calls Tryd.prog 11 #[.pointer (some ⟨j', 0, none⟩)] W fun e w' => e = .returned (.int .i64 ((J.log : Int) - J.used)) ∧ Fr [] W w' := fun {W j'} hj => wal_Room hj (by omega) (by omega)
      have CPn : ∀ {W : World}, DiskAt W p s m D' → Calls Tryd.prog 26 #[.pointer (some ⟨p, 0, none⟩)] W fun e w' => e = .returned (.int .i64 0) ∧ Fr [] W w' := fun {W} h => by
        have := disk_Pending h
        rw [c3] at this
        exact this.mono (fun e w' h => ⟨h.1, h.2 ▸ Fr.refl _ _⟩)
      have CSm : ∀ {W : World} {l l' : Value} {us us' : List Value}, VS W l us → BSall W us lb → VS W l' us' → BSall W us' lb → Calls Tryd.prog 23 #[l, l'] W fun e w' => e = .returned (.bool true) ∧ Fr [] W w' := fun {W l l' us us'} h1 b1 h2 b2 => (ref_Same h1 b1 h2 b2).mono (fun e w' h => ⟨by rw [h.1]; simp, h.2⟩)
      clear o1 c4' c4 hD'
      have hsplit : ds.length ≤ k ∨ (k < ds.length ∧ 30 ≤ k) := by omega
      have bxW := (bx0.keep0 hF)
      have cx2 : wr.cell? ⟨w.heap.size, 2, none⟩ = some (.int .i64 X) := cellOf bxW.out rfl
      have cx3 : wr.cell? ⟨w.heap.size, 3, none⟩ = some (.int .i64 Y) := cellOf bxW.out rfl
      have cx4 : wr.cell? ⟨w.heap.size, 4, none⟩ = some (.int .i64 Z) := cellOf bxW.out rfl
      obtain ⟨lpr, lsr, lmr⟩ := hD.lt
      have hw0 : w0.heap.size = w.heap.size + 1 := hs0
      have hbx : w.heap.size ≠ p ∧ w.heap.size ≠ s ∧ w.heap.size ≠ m := by omega
      rcases hsplit with hs1 | ⟨hs1, hs2⟩
      all_goals go_wp2_with (first
          | (go_at_call 26; (with_reducible refine Calls.mono (CPn hi) ?_); rintro e wj ⟨rfl, fj⟩)
          | (go_at_call 25; (with_reducible refine Calls.mono (disk_Writes hi) ?_); rintro e wz ⟨rfl, rfl⟩)
          | (go_at_call 18; (with_reducible refine Calls.mono (wal_Place Ai) ?_); rintro e wz ⟨rfl, rfl⟩)
          | (go_at_call 18; (with_reducible refine Calls.mono (wal_Place Bi) ?_); rintro e wz ⟨rfl, rfl⟩)
          | (go_at_call 11; (with_reducible refine Calls.mono (CRm Bh) ?_); rintro e wi ⟨rfl, fi⟩
             have Ai := (Af.keep0 fh).keep0 fi
             have Bi := Bh.keep0 fi
             have hi := ((hf.keep0 fh).keep0 fi))
          | (go_at_call 11; (with_reducible refine Calls.mono (CRm Af) ?_); rintro e wh ⟨rfl, fh⟩; have Bh := Bf.keep0 fh)
          | (go_at_call 12; (with_reducible refine Calls.mono (wal_Seq Af) ?_); rintro e wz ⟨rfl, rfl⟩)
          | (go_at_call 12; (with_reducible refine Calls.mono (wal_Seq Bf) ?_); rintro e wz ⟨rfl, rfl⟩)
          | (go_at_call 17; (with_reducible refine Calls.mono (wal_Epoch Af) ?_); rintro e wz ⟨rfl, rfl⟩)
          | (go_at_call 17; (with_reducible refine Calls.mono (wal_Epoch Bf) ?_); rintro e wz ⟨rfl, rfl⟩)
          | (go_at_call 23; (with_reducible refine Calls.mono (CSm hl1' hus1' hl2' hus2') ?_); rintro e wf ⟨rfl, ff⟩
             have Af := Ae.keep0 ff
             have Bf := Be.keep0 ff
             have hf := he.keep0 ff)
          | (go_at_call 14; refine (law_awake wd).mono ?_; rintro e we ⟨rfl, fe⟩
             have fde := fd.trans fe
             have np : ∀ g, wa.heap.size ≤ g → g ∉ [p, s, m] := fun g hg => by simp; omega
             have q1 := run_conv_bytes ((hst1.keep fc (fun g hg => np g (hstf1 g hg).1)).keep0 fde)
             have q2 := run_conv_bytes (hst2.keep0 fe)
             have hl1' := (hl1.keep fc (fun g hg => np g (hlf1 g hg).1)).keep0 fde
             have hus1' := (hus1.keep fc (fun u hu g hg => np g (husf1 u hu g hg).1)).keep0 fde
             have hl2' := hl2.keep0 fe
             have hus2' := hus2.keep0 fe
             have Ae := (Ab.keep fc (np _ hjA)).keep0 fde
             have Be := Bd.keep0 fe
             have he := (hc.keep0 fd).keep0 fe)
          | (go_at_call 9; (with_reducible refine Calls.mono (COp2 hc) ?_); rintro e wd ⟨jB, st2, l2, us2, rfl, Bd, hjB, hst2, hstf2, hl2, hlf2, hus2, husf2, fd⟩)
          | (go_at_call 22; (with_reducible refine Calls.mono (CC2 hb) ?_); rintro e wc ⟨rfl, hc, fc⟩)
          | (go_at_call 9; (with_reducible refine Calls.mono (COp2 ha) ?_); rintro e wb ⟨jA, st1, l1, us1, rfl, Ab, hjA, hst1, hstf1, hl1, hlf1, hus1, husf1, fb⟩
             have hb := ha.keep0 fb
             obtain ⟨lpa, lsa, lma⟩ := ha.lt
             have bxb := (bxW.keep fa (by simp; omega)).keep0 fb
             have dx2 : wb.cell? ⟨w.heap.size, 2, none⟩ = some (.int .i64 X) := cellOf bxb.out rfl
             have dx3 : wb.cell? ⟨w.heap.size, 3, none⟩ = some (.int .i64 Y) := cellOf bxb.out rfl
             have dx4 : wb.cell? ⟨w.heap.size, 4, none⟩ = some (.int .i64 Z) := cellOf bxb.out rfl)
          | (go_at_call 25; (with_reducible refine Calls.mono (disk_Writes ha) ?_); rintro e wz ⟨rfl, rfl⟩)
          | (go_at_call 22; (with_reducible refine Calls.mono (CC1 hD) ?_); rintro e wa ⟨rfl, ha, fa⟩))
      all_goals go_ret
      all_goals
        have F1 : Fr [] w w0 := F0
        have F2 : Fr [] w wa := (F1.trans hF).then fa (by simp; omega)
        exact ⟨rfl, ((((((F2.trans fb).then fc (by simp; omega)).trans fde).trans ff).trans fh).trans fi).trans fj⟩
end Gd
