/- The statements' fixed fact: awake answers true. -/
import Derived.Test.YtccgpblecgapaaaDoorLawf
import Derived.Lib.SlBytesConst
set_option linter.unusedSimpArgs false
set_option linter.unusedVariables false
namespace Gd
open Go Go.Proofs Go.RowKit

theorem run_build1b (W : World) (n : Int) : (Instr.buildSlice tB 1 #[(0, .int .u8 n)]).run Tryd.prog W = .ok (.slice (some ⟨W.heap.size, 0, none⟩) 1 1) (W.alloc (.cells #[.int .u8 n] tb)) := by kernel_rfl
/-- a literal's block, marked -/
abbrev lit (n : Int) : Obj := .cells #[.int .u8 n] tb (1, 2)
theorem bs1 (W : World) (b : UInt8) (n : Int) (hb : bv b = .int .u8 n) : BS (W.alloc (lit n)) (.slice (some ⟨W.heap.size, 0, none⟩) 1 1) [b] :=
  ⟨.inr ⟨W.heap.size, 0, 1, _, _, _, rfl, by simp, by unfold maxLen; omega, Go.heap_alloc_new W _, fun i x h => by
    match i with
    | 0 => simp at h; subst h; simpa using hb.symm
    | i + 1 => simp at h⟩⟩
theorem awD1_size : awD1.sure.length = 30 := by kernel_rfl
theorem awC_size : awC.1.sure.length = 30 := by kernel_rfl
theorem awA_size : awA.1.sure.length = 30 := by kernel_rfl
theorem awF_size : awF.1.sure.length = 30 := by kernel_rfl
theorem awD6_size : awD6.sure.length = 30 := by kernel_rfl

section
variable {w : World} {p s m j : Nat} {v : Value}
theorem aw_Format (h : DiskAt w p s m (Dk.new 30)) :
    Calls Tryd.prog 8 #[.pointer (some ⟨p, 0, none⟩), .int .i64 3, .int .i64 10, .slice (some ⟨w.heap.size, 0, none⟩) 1 1] (w.alloc (lit 115)) fun e w' => e = .returned (.int .i64 0) ∧ DiskAt w' p s m awD1 ∧ Fr [p, s, m] w w' := by
  have hv := bs1 w 115 115 rfl
  have f0 := Fr.alloc w (lit 115)
  have := wal_Format (h.keep0 f0) 3 10 (by decide) hv (by simp)
  unfold Formatted at this
  rw [aw_format] at this
  exact this.mono (fun e w' h => ⟨h.1, h.2.1, (f0.mono (by simp)).trans h.2.2⟩)
theorem aw_Open1 (h : DiskAt w p s m awD1) : Calls Tryd.prog 9 #[.pointer (some ⟨p, 0, none⟩), .int .i64 3, .int .i64 10] w (Opened w p awJ1 [115] []) := by
  have := wal_Open h 3 10 (by rw [awD1_size]; decide)
  unfold OpenPost at this
  rw [aw_open1] at this
  exact this
theorem aw_Early (h : DiskAt w p s m awD1) (hj : JnAt w j p awJ1) (hn : j ≠ p ∧ j ≠ s ∧ j ≠ m) :
    Calls Tryd.prog 13 #[.pointer (some ⟨j, 0, none⟩), .slice (some ⟨w.heap.size, 0, none⟩) 1 1] (w.alloc (lit 120)) fun e w' => e = .returned (.int .i64 9) ∧ DiskAt w' p s m awD1 ∧ JnAt w' j p awJ1 ∧ Fr [p, m, j] w w' := by
  have hv := bs1 w 120 120 rfl
  have f0 := Fr.alloc w (lit 120)
  have := wal_Append (h.keep0 f0) (hj.keep0 f0) hn ⟨by rw [awD1_size]; decide, by decide, by decide, by decide, by decide, by decide, by decide⟩ hv (by simp)
  unfold Appended at this
  rw [aw_early] at this
  exact this.mono (fun e w' h => ⟨h.1, h.2.1, h.2.2.1, (f0.mono (by simp)).trans h.2.2.2⟩)
theorem aw_Check (h : DiskAt w p s m awD1) (hj : JnAt w j p awJ1) (hn : j ≠ p ∧ j ≠ s ∧ j ≠ m) :
    Calls Tryd.prog 10 #[.pointer (some ⟨j, 0, none⟩), .slice (some ⟨w.heap.size, 0, none⟩) 1 1] (w.alloc (lit 116)) fun e w' => e = .returned (.int .i64 0) ∧ DiskAt w' p s m awC.1 ∧ JnAt w' j p awC.2.1 ∧ Fr [p, s, m, j] w w' := by
  have hv := bs1 w 116 116 rfl
  have f0 := Fr.alloc w (lit 116)
  have := wal_Checkpoint (h.keep0 f0) (hj.keep0 f0) hn ⟨by rw [awD1_size]; decide, by decide, by decide, by decide, by decide, by decide, by decide⟩ hv (by simp)
  unfold Ckpt at this
  rw [show awJ1.checkpoint awD1 [116] = awC from rfl, aw_check.1] at this
  exact this.mono (fun e w' h => ⟨h.1, h.2.1, h.2.2.1, (f0.mono (by simp)).trans h.2.2.2⟩)
theorem aw_Append (h : DiskAt w p s m awC.1) (hj : JnAt w j p awC.2.1) (hn : j ≠ p ∧ j ≠ s ∧ j ≠ m) :
    Calls Tryd.prog 13 #[.pointer (some ⟨j, 0, none⟩), .slice (some ⟨w.heap.size, 0, none⟩) 1 1] (w.alloc (lit 97)) fun e w' => e = .returned (.int .i64 0) ∧ DiskAt w' p s m awA.1 ∧ JnAt w' j p awA.2.1 ∧ Fr [p, m, j] w w' := by
  have hv := bs1 w 97 97 rfl
  have f0 := Fr.alloc w (lit 97)
  have := wal_Append (h.keep0 f0) (hj.keep0 f0) hn (by rw [aw_check.2]; exact ⟨by rw [awC_size]; decide, by decide, by decide, by decide, by decide, by decide, by decide⟩) hv (by simp)
  unfold Appended at this
  rw [show awC.2.1.append awC.1 [97] = awA from rfl, aw_append.1] at this
  exact this.mono (fun e w' h => ⟨h.1, h.2.1, h.2.2.1, (f0.mono (by simp)).trans h.2.2.2⟩)
theorem aw_Commit (h : DiskAt w p s m awA.1) (hj : JnAt w j p awA.2.1) (hn : j ≠ p ∧ j ≠ s ∧ j ≠ m) :
    Calls Tryd.prog 16 #[.pointer (some ⟨j, 0, none⟩)] w fun e w' => e = .returned (.int .i64 0) ∧ DiskAt w' p s m awF.1 ∧ JnAt w' j p awF.2.1 ∧ Fr [p, s, m, j] w w' := by
  have := wal_Commit h hj hn
  rw [show awA.2.1.commit awA.1 = awF from rfl, aw_commit.1] at this
  exact this
theorem aw_Append2 (h : DiskAt w p s m awF.1) (hj : JnAt w j p awF.2.1) (hn : j ≠ p ∧ j ≠ s ∧ j ≠ m) :
    Calls Tryd.prog 13 #[.pointer (some ⟨j, 0, none⟩), .slice (some ⟨w.heap.size, 0, none⟩) 1 1] (w.alloc (lit 98)) fun e w' => e = .returned (.int .i64 0) ∧ DiskAt w' p s m awG.1 ∧ JnAt w' j p awG.2.1 ∧ Fr [p, m, j] w w' := by
  have hv := bs1 w 98 98 rfl
  have f0 := Fr.alloc w (lit 98)
  have := wal_Append (h.keep0 f0) (hj.keep0 f0) hn (by rw [aw_commit.2]; exact ⟨by rw [awF_size]; decide, by decide, by decide, by decide, by decide, by decide, by decide⟩) hv (by simp)
  unfold Appended at this
  rw [show awF.2.1.append awF.1 [98] = awG from rfl, aw_append2] at this
  exact this.mono (fun e w' h => ⟨h.1, h.2.1, h.2.2.1, (f0.mono (by simp)).trans h.2.2.2⟩)
theorem aw_Crash (h : DiskAt w p s m awG.1) :
    Calls Tryd.prog 22 #[.pointer (some ⟨p, 0, none⟩), .int .i64 0, .int .i64 (-1), .int .i64 0] w fun e w' => e = .returned (.tuple #[]) ∧ DiskAt w' p s m awD6 ∧ Fr [p, s, m] w w' := disk_Crash h 0 (-1) 0
theorem aw_Open2 (h : DiskAt w p s m awD6) : Calls Tryd.prog 9 #[.pointer (some ⟨p, 0, none⟩), .int .i64 3, .int .i64 10] w (Opened w p awJ6 [116] [[97]]) := by
  have := wal_Open h 3 10 (by rw [awD6_size]; decide)
  unfold OpenPost at this
  rw [aw_open2] at this
  exact this
theorem aw_Same {l : Value} {us : List Value} (hl : VS w l us) (hus : BSall w us [[97]]) :
    Calls Tryd.prog 23 #[l, .slice (some ⟨w.heap.size + 1, 0, none⟩) 1 1] ((w.alloc (lit 97)).alloc (.cells #[.slice (some ⟨w.heap.size, 0, none⟩) 1 1] tB)) fun e w' => e = .returned (.bool true) ∧ Fr [] w w' := by
  have f1 := (Fr.alloc w (lit 97)).trans (Fr.alloc (w.alloc (lit 97)) (.cells #[.slice (some ⟨w.heap.size, 0, none⟩) 1 1] tB))
  have hv : VS ((w.alloc (lit 97)).alloc (.cells #[.slice (some ⟨w.heap.size, 0, none⟩) 1 1] tB)) (.slice (some ⟨w.heap.size + 1, 0, none⟩) 1 1) [.slice (some ⟨w.heap.size, 0, none⟩) 1 1] := by
    have hb := Go.heap_alloc_new (w.alloc (lit 97)) (.cells #[.slice (some ⟨w.heap.size, 0, none⟩) 1 1] tB)
    rw [World.size_alloc] at hb
    exact ⟨.inr ⟨w.heap.size + 1, 0, 1, _, _, _, rfl, by simp, by unfold maxLen; omega, hb, fun i x h => by
      match i with
      | 0 => simpa using h
      | i + 1 => simp at h⟩⟩
  have := ref_Same (hl.keep0 f1) (hus.keep0 f1) hv (BSall.cons ((bs1 w 97 97 rfl).keep0 (Fr.alloc _ _)) (BSall.nil _))
  refine this.mono ?_
  rintro e w' ⟨rfl, f2⟩
  exact ⟨by simp, f1.trans f2⟩
theorem aw_Epoch (h : JnAt w j p awJ6) : Calls Tryd.prog 17 #[.pointer (some ⟨j, 0, none⟩)] w fun e w' => e = .returned (.int .i64 2) ∧ w = w' := wal_Epoch h
theorem aw_Seq (h : JnAt w j p awJ6) : Calls Tryd.prog 12 #[.pointer (some ⟨j, 0, none⟩)] w fun e w' => e = .returned (.int .i64 1) ∧ w = w' := wal_Seq h
theorem aw_Room (h : JnAt w j p awJ6) : Calls Tryd.prog 11 #[.pointer (some ⟨j, 0, none⟩)] w fun e w' => e = .returned (.int .i64 9) ∧ Fr [] w w' := wal_Room h (by decide) (by decide)
theorem aw_Place (h : JnAt w j p awJ6) : Calls Tryd.prog 18 #[.pointer (some ⟨j, 0, none⟩)] w fun e w' => e = .returned (.int .i64 1) ∧ w = w' := wal_Place h
end

set_option maxRecDepth 100000 in
set_option maxHeartbeats 4000000 in
theorem law_awake (w : World) : Calls Tryd.prog 14 #[] w fun e w' => e = .returned (.bool true) ∧ Fr [] w w' := by
  have CN := disk_New w 30 (by omega) (by omega)
  go_enter Tryd.func14, Tryd.ntmps14
  have hcv := fun (w : World) (C : Array Value) (n c : Nat) => Lib.run_convert_bytes_const (P := Tryd.prog) w tB tb C n c Tryd.underlying23 Tryd.underlying5
  have hbv := run_build1b
  go_wp2_with (first
    | (go_at_call 18; (with_reducible refine Calls.mono (aw_Place kc) ?_); rintro e wd ⟨rfl, rfl⟩)
    | (go_at_call 11; (with_reducible refine Calls.mono (aw_Room kb) ?_); rintro e wc ⟨rfl, fc⟩; have kc := kb.keep0 fc)
    | (go_at_call 12; (with_reducible refine Calls.mono (aw_Seq kb) ?_); rintro e wd ⟨rfl, rfl⟩)
    | (go_at_call 17; (with_reducible refine Calls.mono (aw_Epoch kb) ?_); rintro e wd ⟨rfl, rfl⟩)
    | (go_at_call 23; (with_reducible refine Calls.mono (aw_Same hl2 hus2) ?_); rintro e wb ⟨rfl, fb⟩; have kb := ka.keep0 fb)
    | (go_at_call 9; (with_reducible refine Calls.mono (aw_Open2 h9) ?_); rintro e wa ⟨k, st2, l2, us2, rfl, ka, hk, hst2, hstf2, hl2, hlf2, hus2, husf2, fa⟩
       have Fa : Fr [p, s, m, j] w3 wa := ((((((f4.mono (by simp)).trans (f5.mono (by simp))).trans (f6.mono (by simp))).trans (f7.mono (by simp))).trans (f8.mono (by simp))).trans (f9.mono (by simp))).trans (fa.mono (by simp))
       have q1 := run_conv_bytes (hst.keep Fa (fun g hg => by have := hstf g hg; simp; omega))
       have q2 := run_conv_bytes hst2)
    | (go_at_call 22; (with_reducible refine Calls.mono (aw_Crash h8) ?_); rintro e w9 ⟨rfl, h9, f9⟩)
    | (go_at_call 13; (with_reducible refine Calls.mono (aw_Append2 h7 j7 hn) ?_); rintro e w8 ⟨rfl, h8, j8, f8⟩)
    | (go_at_call 16; (with_reducible refine Calls.mono (aw_Commit h6 j6 hn) ?_); rintro e w7 ⟨rfl, h7, j7, f7⟩)
    | (go_at_call 13; (with_reducible refine Calls.mono (aw_Append h5 j5 hn) ?_); rintro e w6 ⟨rfl, h6, j6, f6⟩)
    | (go_at_call 10; (with_reducible refine Calls.mono (aw_Check h4 j4 hn) ?_); rintro e w5 ⟨rfl, h5, j5, f5⟩)
    | (go_at_call 13; (with_reducible refine Calls.mono (aw_Early h3 j3 hn) ?_); rintro e w4 ⟨rfl, h4, j4, f4⟩)
    | (go_at_call 9; (with_reducible refine Calls.mono (aw_Open1 h2) ?_); rintro e w3 ⟨j, st, l, us, rfl, j3, hj, hst, hstf, hl, hlf, hus, husf, f3⟩
       have F3 := F2.trans f3
       have h3 := h2.keep0 f3
       obtain ⟨lp, ls, lm⟩ := h2.lt
       have hn : j ≠ p ∧ j ≠ s ∧ j ≠ m := by omega
       obtain ⟨al, cl, rfl, hcl1, hcl2⟩ := hl.shape
       have hu0 : us.length = 0 := by simpa using hus.1
       rw [hu0]
       clear hcl1 hu0)
    | (go_at_call 8; (with_reducible refine Calls.mono (aw_Format h1) ?_); rintro e w2 ⟨rfl, h2, f2⟩
       have F2 : Fr [] w w2 := f1.then f2 (by simp; omega))
    | (go_at_call 7; refine CN.mono ?_; rintro e w1 ⟨p, s, m, rfl, h1, hp, hs, hm, f1⟩))
  go_ret
  have F9 : Fr [] w wa := F3.then Fa (fun k hk => by simp at hk; omega)
  exact ⟨rfl, (F9.trans fb).trans fc⟩
end Gd
