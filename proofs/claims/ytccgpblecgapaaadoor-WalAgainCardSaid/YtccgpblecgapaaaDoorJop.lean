/- wal: Commit, Append, Checkpoint, Format. -/
import Derived.Test.YtccgpblecgapaaaDoorTop
import Derived.Test.YtccgpblecgapaaaDoorFlush
set_option linter.unusedSimpArgs false
set_option linter.unusedVariables false
namespace Gd
open Go Go.Proofs Go.RowKit

/-! ### the disk's answers as one -/
theorem flush_cases (D : Dk) : (∃ f, spend D.fuse = some f ∧ D.flush = ({ D with sure := D.settle (fun _ _ t => t), pend := [], fuse := f }, 0)) ∨ (spend D.fuse = none ∧ D.flush = (D, 10)) := by
  unfold Dk.flush
  cases h : spend D.fuse with
  | none => exact .inr ⟨rfl, rfl⟩
  | some f => exact .inl ⟨f, rfl, rfl⟩
theorem disk_Flush {w : World} {p s m : Nat} {D : Dk} (h : DiskAt w p s m D) :
    Calls Tryd.prog 31 #[.pointer (some ⟨p, 0, none⟩)] w fun e w' => e = .returned (.int .i64 D.flush.2) ∧ DiskAt w' p s m D.flush.1 ∧ Fr [p, s, m] w w' := by
  rcases flush_cases D with ⟨f, hf, hq⟩ | ⟨hf, hq⟩
  · rw [hq]; exact disk_Flush_ok h hf
  · rw [hq]; exact (disk_Flush_down h hf).mono (fun e w' h' => ⟨h'.1, h'.2 ▸ h, Fr.of_same h'.2 _⟩)
theorem flush_err (D : Dk) : D.flush.2 = 0 ∨ D.flush.2 = 10 := by
  rcases flush_cases D with ⟨f, hf, hq⟩ | ⟨hf, hq⟩ <;> simp [hq]
theorem write_err (D : Dk) (i : Int) (b : Bytes) : (D.write i b).2 = 0 ∨ (D.write i b).2 = 1 ∨ (D.write i b).2 = 10 := by
  unfold Dk.write
  split
  · simp
  · split <;> simp
theorem lays_err : ∀ (L : List Bytes) (D : Dk) (a : Nat), (D.lays a L).2 = 0 ∨ (D.lays a L).2 = 1 ∨ (D.lays a L).2 = 10
  | [], D, a => .inl rfl
  | x :: L, D, a => by
    have hw := write_err D a x
    simp only [Dk.lays]
    generalize D.write (a : Int) x = r at hw ⊢
    obtain ⟨d, e⟩ := r
    by_cases he : e = 0
    · subst he; exact lays_err L d (a + 1)
    · simpa using hw
theorem lays_sure : ∀ (L : List Bytes) (D : Dk) (a : Nat), (D.lays a L).1.sure = D.sure
  | [], D, a => rfl
  | x :: L, D, a => by
    have hw := write_sure D a x
    simp only [Dk.lays]
    generalize D.write (a : Int) x = r at hw ⊢
    obtain ⟨d, e⟩ := r
    by_cases he : e = 0
    · subst he; exact (lays_sure L d (a + 1)).trans hw
    · simpa using hw
theorem flush_size (D : Dk) : D.flush.1.sure.length = D.sure.length := by
  rcases flush_cases D with ⟨f, hf, hq⟩ | ⟨hf, hq⟩ <;> simp [hq, Dk.settle]
theorem extent_put {w : World} {p s m : Nat} {D : Dk} (h : DiskAt w p s m D) (a c K : Nat) {v : Value} {bs : Bytes} (hv : BS w v bs) (hb : bs.length = 32 * K) (hK : 0 < K) (ha : a + K ≤ D.sure.length) (hvs : ∀ g, v.ownBlock = some g → g ≠ p ∧ g ≠ m) (hc : c ≤ 16384) :
    Calls Tryd.prog 30 #[exV (some ⟨p, 0, none⟩) a c, v] w fun e w' => e = .returned (.int .i64 (D.put a bs).2) ∧ DiskAt w' p s m (D.put a bs).1 ∧ Fr [p, m] w w' := by
  have := extent_write h a c K hv hb hK ha hvs hc
  unfold Dk.put
  rw [show bs.length / 32 = K by omega]
  exact this

/-! ### Commit -/
set_option maxHeartbeats 1000000 in
theorem wal_Commit {w : World} {p s m j : Nat} {D : Dk} {J : Jn} (h : DiskAt w p s m D) (hj : JnAt w j p J) (hn : j ≠ p ∧ j ≠ s ∧ j ≠ m) :
    Calls Tryd.prog 16 #[.pointer (some ⟨j, 0, none⟩)] w fun e w' => e = .returned (.int .i64 (J.commit D).2.2) ∧ DiskAt w' p s m (J.commit D).1 ∧ JnAt w' j p (J.commit D).2.1 ∧ Fr [p, s, m, j] w w' := by
  have CO := wal_open hj
  have c0 : w.cell? ⟨j, 0, none⟩ = some (.pointer (some ⟨p, 0, none⟩)) := cellOf hj.out rfl
  obtain ⟨n1, n2, n3⟩ := hn
  cases hr : J.refused
  · cases hf : J.fresh
    · rw [hr, hf] at CO
      have HE : Hid (J.commit D = (D, J, 9)) := by rw [Hid]; unfold Jn.commit; rw [hr, hf]; rfl
      simp only [if_true, Bool.false_eq_true, if_false] at CO
      rw [HE.out]
      clear hr hf
      go_enter Tryd.func16, Tryd.ntmps16
      go_wp2_with (go_at_call 38; refine CO.mono ?_; rintro e w' ⟨rfl, rfl⟩)
      go_ret
      exact ⟨rfl, h, hj, Fr.refl _ _⟩
    · rw [hr, hf] at CO
      simp only [if_true, Bool.false_eq_true, if_false] at CO
      obtain ⟨⟨D1, x⟩, hq⟩ : ∃ r, r = D.flush := ⟨_, rfl⟩
      have CF := disk_Flush h
      have hx := flush_err D
      rw [← hq] at CF hx
      simp only at CF hx
      have HE : Hid (J.commit D = (D1, { J with refused := decide (x ≠ 0) }, x)) := by rw [Hid]; unfold Jn.commit; rw [hr, hf, ← hq]; rfl
      rw [HE.out]
      clear hr hf hq
      go_enter Tryd.func16, Tryd.ntmps16
      go_wp2_with (first
        | (go_at_call 38; refine CO.mono ?_; rintro e w' ⟨rfl, rfl⟩)
        | (go_at_call 31; refine CF.mono ?_; rintro e w1 ⟨rfl, h1, f1⟩; have CT := wal_tried (hj.keep f1 (by simp [n1, n2, n3])) x (by omega))
        | (go_at_call 37; refine CT.mono ?_; rintro e w2 ⟨rfl, j2, f2⟩))
      go_ret
      exact ⟨rfl, h1.keep f2 (by simp; omega) (by simp; omega) (by simp; omega), j2, (f1.mono (by simp)).trans (f2.mono (by simp))⟩
  · rw [hr] at CO
    have HE : Hid (J.commit D = (D, J, 10)) := by rw [Hid]; unfold Jn.commit; rw [hr]; rfl
    simp only [if_true] at CO
    rw [HE.out]
    clear hr
    go_enter Tryd.func16, Tryd.ntmps16
    go_wp2_with (go_at_call 38; refine CO.mono ?_; rintro e w' ⟨rfl, rfl⟩)
    go_ret
    exact ⟨rfl, h, hj, Fr.refl _ _⟩
theorem wal_Commit_nil (w : World) : Calls Tryd.prog 16 #[.pointer none] w fun e w' => e = .returned (.int .i64 1) ∧ w = w' := by
  go_enter Tryd.func16, Tryd.ntmps16
  go_wp2_with (go_at_call 38; refine (wal_open_nil w).mono ?_; rintro e w' ⟨rfl, rfl⟩)
  go_ret
  exact ⟨rfl, rfl⟩
theorem wal_Append_nil (w : World) (v : Value) : Calls Tryd.prog 13 #[.pointer none, v] w fun e w' => e = .returned (.int .i64 1) ∧ w = w' := by
  go_enter Tryd.func13, Tryd.ntmps13
  go_wp2_with (go_at_call 38; refine (wal_open_nil w).mono ?_; rintro e w' ⟨rfl, rfl⟩)
  go_ret
  exact ⟨rfl, rfl⟩
theorem wal_Checkpoint_nil (w : World) (v : Value) : Calls Tryd.prog 10 #[.pointer none, v] w fun e w' => e = .returned (.int .i64 1) ∧ w = w' := by
  go_enter Tryd.func10, Tryd.ntmps10
  go_wp2_with (go_at_call 35; refine (wal_ready_nil w).mono ?_; rintro e w' ⟨rfl, rfl⟩)
  go_ret
  exact ⟨rfl, rfl⟩
end Gd
