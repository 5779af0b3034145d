/- WalRoom: the walk. -/
import Derived.Test.YtccgpblecgapaaaDoorAwa
import Derived.Test.YtccgpblecgapaaaDoorPl3
set_option linter.unusedSimpArgs false
set_option linter.unusedVariables false
namespace Gd
open Go Go.Proofs Go.RowKit

theorem exec_neq {P : Program} {o : Oper} {a : Act} {W : World} {x y : Operand} {T U : TypeId} {i j : Int} (ho : o.op = .binOp .neq T x y U) (hx : a.eval x = .int .i64 i) (hy : a.eval y = .int .i64 j) {b : Bool} (hb : (i != j) = b) :
    (execOp a.eval o).run P W = .ok (.value (.bool b)) W := by
  subst hb
  unfold execOp
  rw [ho]
  simp only [hx, hy, eqGuard, binOp_neq, Sem.run_bind, Sem.run_pure, Result.andThen_ok]
  rfl

structure RoomInv (w : World) (n p s m j : Nat) (i : Value) (W : World) : Prop where
  out : ∃ (k seq used : Nat) (D : Dk), k ≤ 40 ∧ i = .int .i64 k ∧ seq ≤ k ∧ used ≤ n ∧ Run (6 + n) 2 D ∧ DiskAt W p s m D ∧ JnAt W j p (roomJ n seq used) ∧ Fr [] w W

set_option maxRecDepth 100000 in
set_option maxHeartbeats 4000000 in
theorem law_WalRoom {w : World} (k : Nat) (hk : k < 256) {xs : Value} {ns : List Nat} (hx : VS w xs (ns.map fun n : Nat => Value.int .u16 (n : Int))) (hns : ∀ n ∈ ns, n < 65536) {v : Value} {b : Bytes} (hv : BS w v b) :
    Calls Tryd.prog 3 #[.int .u8 k, xs, v] w fun e w' => e = .returned (.bool true) ∧ Fr [] w w' := by
  obtain ⟨ax, cx, rfl, hcx1, hcx2⟩ := hx.shape
  rw [List.length_map] at hcx1 hx ⊢
  unfold maxLen at hcx2
  obtain ⟨n, hn, hn0, hn1⟩ : ∃ n : Nat, n = 1 + k % 60 ∧ 0 < n ∧ n ≤ 60 := ⟨_, rfl, by omega, by omega⟩
  obtain ⟨D1, e1, z1, o1, D2, e2, R2⟩ := room_start hn0 hn1
  have hni : Hid ((1 + (k : Int) % 60) = (n : Int)) := by rw [Hid]; omega
  have hni6 : (6 : Int) + (n : Int) = ((6 + n : Nat) : Int) := by omega
  have CN : Calls Tryd.prog 7 #[.int .i64 (6 + (n : Int))] w (NewDisk w (Dk.new ((6 + n : Nat) : Int))) := by
    have := disk_New w ((6 + n : Nat) : Int) (by omega) (by omega)
    rw [hni6]; exact this
  have CFm : ∀ {W : World} {p s m : Nat}, DiskAt W p s m (Dk.new ((6 + n : Nat) : Int)) → Calls Tryd.prog 8 #[.pointer (some ⟨p, 0, none⟩), .int .i64 2, .int .i64 n, .slice none 0 0] W fun e w' => e = .returned (.int .i64 0) ∧ DiskAt w' p s m D1 ∧ Fr [p, s, m] W w' := fun {W p s m} h => by
    have := wal_Format h 2 n ⟨by omega, hn0, by rw [new_size _ (by omega)]; omega⟩ (BS.nil W) (by simp)
    unfold Formatted at this
    rw [e1] at this
    exact this
  have COp : ∀ {W : World} {p s m : Nat}, DiskAt W p s m D1 → Calls Tryd.prog 9 #[.pointer (some ⟨p, 0, none⟩), .int .i64 2, .int .i64 n] W (Opened W p ⟨2, n, 1, 0, 0, 0, false, false⟩ [] []) := fun {W p s m} h => by
    have := wal_Open h 2 n ⟨by omega, hn0, by rw [z1]; omega⟩
    unfold OpenPost at this
    rw [o1] at this
    exact this
  have CCk : ∀ {W : World} {p s m j : Nat}, DiskAt W p s m D1 → JnAt W j p ⟨2, n, 1, 0, 0, 0, false, false⟩ → j ≠ p ∧ j ≠ s ∧ j ≠ m → Calls Tryd.prog 10 #[.pointer (some ⟨j, 0, none⟩), .slice none 0 0] W fun e w' => e = .returned (.int .i64 0) ∧ DiskAt w' p s m D2 ∧ JnAt w' j p (roomJ n 0 0) ∧ Fr [p, s, m, j] W w' := fun {W p s m j} h hj hne => by
    have := wal_Checkpoint h hj hne ⟨by simp only []; omega, by simp, hn0, by simp, by simp, by simp, by simp⟩ (BS.nil W) (by simp)
    unfold Ckpt at this
    rw [e2] at this
    exact this
  have CRm : ∀ {W : World} {p j seq used : Nat} (_ : used ≤ n) (L : Nat), L = n - used → JnAt W j p (roomJ n seq used) → Calls Tryd.prog 11 #[.pointer (some ⟨j, 0, none⟩)] W fun e w' => e = .returned (.int .i64 L) ∧ Fr [] W w' := fun {W p j seq used} hu L hL hj => by
    have := wal_Room hj (by simp only [roomJ]; omega) (by simp only [roomJ]; omega)
    rw [show (((roomJ n seq used).log : Int) - (roomJ n seq used).used) = (L : Int) by simp only [roomJ]; omega] at this
    exact this
  have CSq : ∀ {W : World} {p j seq used : Nat}, JnAt W j p (roomJ n seq used) → Calls Tryd.prog 12 #[.pointer (some ⟨j, 0, none⟩)] W fun e w' => e = .returned (.int .i64 seq) ∧ W = w' := fun {W p j seq used} hj => wal_Seq hj
  have okJ : ∀ {D : Dk} (seq used : Nat), Run (6 + n) 2 D → seq ≤ 1000 → used ≤ n → (roomJ n seq used).ok D := fun {D} seq used hR hs hu => ⟨by rw [hR.size]; simp only [roomJ]; omega, by simp [roomJ], hn0, by simp [roomJ], by simp only [roomJ]; omega, by simp [roomJ], hu⟩
  clear e1 o1 e2 hn hni6
  go_enter Tryd.func3, Tryd.ntmps3
  go_wp2_with (first
    | (go_at_call 11; (with_reducible refine Calls.mono (CRm (Nat.zero_le _) n rfl j4) ?_); rintro e w5 ⟨rfl, f5⟩)
    | (go_at_call 10; (with_reducible refine Calls.mono (CCk h3 j3 hne) ?_); rintro e w4 ⟨rfl, h4, j4, f4⟩)
    | (go_at_call 9; (with_reducible refine Calls.mono (COp h2) ?_); rintro e w3 ⟨j, st, l, us, rfl, j3, hj, hst, hstf, hl, hlf, hus, husf, f3⟩
       have h3 := h2.keep0 f3
       obtain ⟨lp, ls, lm⟩ := h2.lt
       have hne : j ≠ p ∧ j ≠ s ∧ j ≠ m := by omega)
    | (go_at_call 8; (with_reducible refine Calls.mono (CFm h1) ?_); rintro e w2 ⟨rfl, h2, f2⟩
       have F2 : Fr [] w w2 := f1.then f2 (by simp; omega))
    | (go_at_call 7; rw [hni.out]; refine CN.mono ?_; rintro e w1 ⟨p, s, m, rfl, h1, hp, hs, hm, f1⟩))
  have F5 : Fr [] w w5 := ((F2.trans f3).then f4 (by simp; omega)).trans f5
  go_loopw [13] (fun i W => RoomInv w n p s m j i W) (fun i _ => 40 - (RowKit.intOf i).toNat)
  case atStart => exact ⟨0, 0, 0, D2, by omega, rfl, by omega, by omega, R2, h4.keep0 f5, j4.keep0 f5, F5⟩
  case round =>
    obtain ⟨k, seq, used, D, hk40, rfl, hsk, hun, hR, hD, hJ, hF⟩ := hrel.out
    by_cases hlt : k < ns.length ∧ k < 40
    · obtain ⟨hl1, hl2⟩ := hlt
      obtain ⟨x, hx1⟩ : ∃ x, x = ns[k] := ⟨_, rfl⟩
      have hxb : x < 65536 := by rw [hx1]; exact hns _ (List.getElem_mem hl1)
      obtain ⟨g, off, hg, hcell⟩ := (hx.keep0 hF).cellAt (k := k) (by rw [List.length_map]; exact hl1)
      rw [List.getElem_map, ← hx1] at hcell
      subst hg
      obtain ⟨z, hz, hzb⟩ : ∃ z : Nat, z = x % 600 ∧ z < 600 := ⟨_, rfl, by omega⟩
      obtain ⟨c, hc⟩ : ∃ c, c = cnt z := ⟨_, rfl⟩
      obtain ⟨L, hL⟩ : ∃ L, L = n - used := ⟨_, rfl⟩
      have Hz : Hid (((x : Int) % 600) = (z : Int)) := by rw [Hid]; omega
      have Hc : Hid ((((z : Int) + 29) / 24) = (c : Int)) := by rw [Hid, hc, cnt_zeros]; omega
      obtain ⟨hA1, hA2⟩ := room_append hR seq used z (by omega) hzb
      rw [← hc] at hA1 hA2
      have hcb : c ≤ 30 := by rw [hc, cnt_zeros]; omega
      have CAp : ∀ {W : World} {v : Value}, DiskAt W p s m D → JnAt W j p (roomJ n seq used) → BS W v (List.replicate z 0) → Calls Tryd.prog 13 #[.pointer (some ⟨j, 0, none⟩), v] W (Appended p s m j D (roomJ n seq used) (List.replicate z 0) W) := fun {W v} h hj hv => wal_Append h hj hne (okJ seq used hR (by omega) hun) hv (by rw [List.length_replicate]; omega)
      clear hx1 hz hc
      by_cases hfull : n < used + c
      · have hAp := hA1 hfull
        have hcl : L < c := by omega
        have CAp1 : ∀ {W : World} {v : Value}, DiskAt W p s m D → JnAt W j p (roomJ n seq used) → BS W v (List.replicate z 0) → Calls Tryd.prog 13 #[.pointer (some ⟨j, 0, none⟩), v] W fun e w' => e = .returned (.int .i64 5) ∧ DiskAt w' p s m D ∧ JnAt w' j p (roomJ n seq used) ∧ Fr [p, m, j] W w' := fun {W v} h hj hv => by
          have := CAp h hj hv
          unfold Appended at this
          rw [hAp] at this
          exact this
        have CR1 : ∀ {W : World}, JnAt W j p (roomJ n seq used) → Calls Tryd.prog 11 #[.pointer (some ⟨j, 0, none⟩)] W fun e w' => e = .returned (.int .i64 L) ∧ Fr [] W w' := fun {W} hj => CRm hun L hL hj
        clear hA1 hA2 hAp hL CAp
        go_wp2_with (first
          | (go_at_call 12; (with_reducible refine Calls.mono (CSq jd) ?_); rintro e wx ⟨rfl, rfl⟩)
          | (go_at_call 11; (with_reducible refine Calls.mono (CR1 jc) ?_); rintro e wd ⟨rfl, fd⟩; have jd := jc.keep0 fd)
          | (go_at_call 13; (with_reducible refine Calls.mono (CAp1 ((hD.keep0 fa).keep0 fb) (ja.keep0 fb) Ob.bs) ?_); rintro e wc ⟨rfl, hc, jc, fc⟩)
          | (at_make; refine wpList_make_bytes rfl _ _ rfl z rfl rfl (by omega) (by omega) (by omega) ?_; intro bb wb hbb Ob fb)
          | (go_at_call 12; (with_reducible refine Calls.mono (CSq ja) ?_); rintro e wx ⟨rfl, rfl⟩)
          | (go_at_call 11; rw [Hz.out, Hc.out]; (with_reducible refine Calls.mono (CR1 hJ) ?_); rintro e wa ⟨rfl, fa⟩; have ja := hJ.keep0 fa))
        refine ⟨⟨k + 1, seq, used, D, by omega, by go_num, by omega, hun, hR, hc.keep0 fd, jd, ?_⟩, by simp [RowKit.intOf]; omega⟩
        exact (((hF.trans fa).trans fb).then fc (by simp; omega)).trans fd
      · obtain ⟨D', hAp, hR'⟩ := hA2 (by omega)
        have hcl : c ≤ L := by omega
        have hLn : L ≤ 60 := by omega
        have CAp1 : ∀ {W : World} {v : Value}, DiskAt W p s m D → JnAt W j p (roomJ n seq used) → BS W v (List.replicate z 0) → Calls Tryd.prog 13 #[.pointer (some ⟨j, 0, none⟩), v] W fun e w' => e = .returned (.int .i64 0) ∧ DiskAt w' p s m D' ∧ JnAt w' j p (roomJ n (seq + 1) (used + c)) ∧ Fr [p, m, j] W w' := fun {W v} h hj hv => by
          have := CAp h hj hv
          unfold Appended at this
          rw [hAp] at this
          exact this
        have CR1 : ∀ {W : World}, JnAt W j p (roomJ n seq used) → Calls Tryd.prog 11 #[.pointer (some ⟨j, 0, none⟩)] W fun e w' => e = .returned (.int .i64 L) ∧ Fr [] W w' := fun {W} hj => CRm hun L hL hj
        obtain ⟨M, hM⟩ : ∃ M, M = n - (used + c) := ⟨_, rfl⟩
        obtain ⟨S1, hS1⟩ : ∃ S1, S1 = seq + 1 := ⟨_, rfl⟩
        have CR2 : ∀ {W : World}, JnAt W j p (roomJ n (seq + 1) (used + c)) → Calls Tryd.prog 11 #[.pointer (some ⟨j, 0, none⟩)] W fun e w' => e = .returned (.int .i64 M) ∧ Fr [] W w' := fun {W} hj => CRm (by omega) M hM hj
        have CS2 : ∀ {W : World}, JnAt W j p (roomJ n (seq + 1) (used + c)) → Calls Tryd.prog 12 #[.pointer (some ⟨j, 0, none⟩)] W fun e w' => e = .returned (.int .i64 S1) ∧ W = w' := fun {W} hj => by rw [hS1]; exact CSq hj
        have hsk2 : seq ≤ 40 := by omega
        have q112 : Hid (((M : Int) != (L : Int) - (c : Int)) = false) := by rw [Hid, bne_eq_false_iff_eq]; omega
        have q119 : Hid (((S1 : Int) != (seq : Int) + 1) = false) := by rw [Hid, bne_eq_false_iff_eq]; omega
        clear hA1 hA2 hAp hL CAp hM hS1
        go_wp2_with (first
          | ((with_reducible show wpList _ _ _ (Oper.mk (some 112) _ _ _ _ _ :: _) _ _); refine wpList_val_g rfl (.bool false) (exec_neq rfl rfl rfl q112.out) ?_)
          | ((with_reducible show wpList _ _ _ (Oper.mk (some 119) _ _ _ _ _ :: _) _ _); refine wpList_val_g rfl (.bool false) (exec_neq rfl rfl rfl q119.out) ?_)
          | (go_at_call 12; (with_reducible refine Calls.mono (CS2 jd) ?_); rintro e wx ⟨rfl, rfl⟩)
          | (go_at_call 11; (with_reducible refine Calls.mono (CR2 jc) ?_); rintro e wd ⟨rfl, fd⟩; have jd := jc.keep0 fd)
          | (go_at_call 13; (with_reducible refine Calls.mono (CAp1 ((hD.keep0 fa).keep0 fb) (ja.keep0 fb) Ob.bs) ?_); rintro e wc ⟨rfl, hc, jc, fc⟩)
          | (at_make; refine wpList_make_bytes rfl _ _ rfl z rfl rfl (by omega) (by omega) (by omega) ?_; intro bb wb hbb Ob fb)
          | (go_at_call 12; (with_reducible refine Calls.mono (CSq ja) ?_); rintro e wx ⟨rfl, rfl⟩)
          | (go_at_call 11; rw [Hz.out, Hc.out]; (with_reducible refine Calls.mono (CR1 hJ) ?_); rintro e wa ⟨rfl, fa⟩; have ja := hJ.keep0 fa))
        · refine ⟨⟨k + 1, seq + 1, used + c, D', by omega, by go_num, by omega, by omega, hR', hc.keep0 fd, jd, ?_⟩, by simp [RowKit.intOf]; omega⟩
          exact (((hF.trans fa).trans fb).then fc (by simp; omega)).trans fd
    · have CBg : ∀ {W : World} {v : Value}, DiskAt W p s m D → JnAt W j p (roomJ n seq used) → BS W v (List.replicate 43 0) → Calls Tryd.prog 10 #[.pointer (some ⟨j, 0, none⟩), v] W fun e w' => e = .returned (.int .i64 5) ∧ DiskAt w' p s m D ∧ JnAt w' j p (roomJ n seq used) ∧ Fr [p, s, m, j] W w' := fun {W v} h hj hv => by
        have := wal_Checkpoint h hj hne (okJ seq used hR (by omega) hun) hv (by rw [List.length_replicate]; omega)
        unfold Ckpt at this
        rw [room_big hR seq used] at this
        exact this
      have hb42 : (b.take 42).length ≤ 42 := by rw [List.length_take]; omega
      obtain ⟨q1, qe, qa, q2⟩ := room_last hR seq used (b.take 42) hb42
      have CLs : ∀ {W : World} {v : Value}, DiskAt W p s m D → JnAt W j p (roomJ n seq used) → BS W v (b.take 42) → Calls Tryd.prog 10 #[.pointer (some ⟨j, 0, none⟩), v] W fun e w' => e = .returned (.int .i64 0) ∧ JnAt w' j p ⟨2, n, qe, seq, qa, 0, true, false⟩ ∧ Fr [p, s, m, j] W w' := fun {W v} h hj hv => by
        have := wal_Checkpoint h hj hne (okJ seq used hR (by omega) hun) hv (by omega)
        unfold Ckpt at this
        rw [q1, q2] at this
        exact this.mono (fun e w' h => ⟨h.1, h.2.2⟩)
      have CRz : ∀ {W : World}, JnAt W j p ⟨2, n, qe, seq, qa, 0, true, false⟩ → Calls Tryd.prog 11 #[.pointer (some ⟨j, 0, none⟩)] W fun e w' => e = .returned (.int .i64 n) ∧ Fr [] W w' := fun {W} hj => by
        have := wal_Room hj (by simp only []; omega) (by simp)
        simpa using this
      have CSz : ∀ {W : World}, JnAt W j p ⟨2, n, qe, seq, qa, 0, true, false⟩ → Calls Tryd.prog 12 #[.pointer (some ⟨j, 0, none⟩)] W fun e w' => e = .returned (.int .i64 seq) ∧ W = w' := fun {W} hj => wal_Seq hj
      have hsplit : ns.length ≤ k ∨ (k < ns.length ∧ 40 ≤ k) := by omega
      clear q1 q2 hlt
      rcases hsplit with hs1 | ⟨hs1, hs2⟩
      all_goals go_wp2_with (first
        | (go_at_call 12; (with_reducible refine Calls.mono (CSz jf) ?_); rintro e wx ⟨rfl, rfl⟩)
        | (go_at_call 11; (with_reducible refine Calls.mono (CRz je) ?_); rintro e wf ⟨rfl, ff⟩; have jf := je.keep0 ff)
        | (go_at_call 10; (with_reducible refine Calls.mono (CLs (hb.keep0 fc) (jb.keep0 fc) hu) ?_); rintro e we ⟨rfl, je, fe⟩)
        | (go_at_call 15; (with_reducible refine Calls.mono (law_few ((hv.keep0 (Fb.trans fc))) 42) ?_); rintro e wd ⟨u, rfl, hu, hu2, rfl⟩)
        | (go_at_call 14; refine (law_awake wb).mono ?_; rintro e wc ⟨rfl, fc⟩)
        | (go_at_call 10; (with_reducible refine Calls.mono (CBg (hD.keep0 fa) (hJ.keep0 fa) Oa.bs) ?_); rintro e wb ⟨rfl, hb, jb, fb⟩; have Fb : Fr [] w wb := (hF.trans fa).then fb (by simp; omega))
        | (at_make; refine wpList_make_bytes rfl _ _ rfl 43 rfl rfl (by omega) (by omega) (by omega) ?_; intro bb wa hbb Oa fa)
        | (go_at_call 12; (with_reducible refine Calls.mono (CSq hJ) ?_); rintro e wx ⟨rfl, rfl⟩))
      all_goals go_ret
      all_goals exact ⟨rfl, ((Fb.trans fc).then fe (by simp; omega)).trans ff⟩
end Gd
