/- Plain laws for WalAgain: the first checkpoint behind the format is sure, whatever comes behind it. -/
import Derived.Test.YtccgpblecgapaaaDoorPl3
import Derived.Test.YtccgpblecgapaaaDoorOpn
set_option linter.unusedSimpArgs false
set_option linter.unusedVariables false
namespace Gd

theorem follow_used (ep : Nat) : ∀ (k q u : Nat) (r : Bytes), 32 * (follow ep k q u r).2.2 ≤ 32 * u + r.length
  | 0, q, u, r => by unfold follow; simp
  | k + 1, q, u, r => by
    unfold follow
    cases h : lift r with
    | none => simp
    | some x =>
      obtain ⟨e, q', b, n⟩ := x
      simp only
      split
      · obtain ⟨_, _, _, h4, _⟩ := lift_bounds h
        have := follow_used ep k q' (u + n) (r.drop (32 * n))
        rw [List.length_drop] at this
        show 32 * (follow ep k q' (u + n) (r.drop (32 * n))).2.2 ≤ 32 * u + r.length
        omega
      · simp
theorem read_same {D D' : Dk} (a n : Nat) (h : ∀ i, i < n → D'.at_ (a + i) = D.at_ (a + i)) : D'.read a (a + n) = D.read a (a + n) := by
  rw [read_eq, read_eq]
  congr 1
  exact List.map_congr_left (fun i hi => h i (List.mem_range.1 hi))
theorem opened_some {D : Dk} (hok : D.ok) {slot log e q n : Nat} {b : Bytes} (hs : 2 * slot + log ≤ D.sure.length) (hp : D.place slot 1 = some (e, q, b, n)) :
    ∃ J st l, D.opened slot log = some (J, st, l) ∧ J.log = log ∧ J.used ≤ log := by
  have h0 : ¬ (D.best slot).epoch < 0 := by
    unfold Dk.best
    rw [hp]
    show ¬ (if ((Best.start.step 0 (D.place slot 0)).epoch < (e : Int)) then (⟨e, q, 1, b⟩ : Best) else Best.start.step 0 (D.place slot 0)).epoch < 0
    split
    · simp only; omega
    · omega
  have hu := follow_used (D.best slot).epoch.toNat (log + 1) (D.best slot).seq 0 (D.read (2 * slot) (2 * slot + log))
  rw [read_len hok _ _ hs] at hu
  unfold Dk.opened
  rw [if_neg h0]
  generalize follow (D.best slot).epoch.toNat (log + 1) (D.best slot).seq 0 (D.read (2 * slot) (2 * slot + log)) = F at hu ⊢
  obtain ⟨l, q', u⟩ := F
  simp only at hu
  exact ⟨_, _, _, rfl, rfl, by simp only; omega⟩
theorem crash_none {D : Dk} (hp : D.pend = []) (hf : D.fuse = -1) (a b c : Int) : D.crash a b c = D := by
  have h1 : D.settle (fun i s t => survives s t (D.rank i) a b c) = D.sure := by
    unfold Dk.settle
    rw [hp]
    apply List.ext_getElem?
    intro i
    rw [List.getElem?_mapIdx]
    cases D.sure[i]? <;> rfl
  unfold Dk.crash
  rw [h1]
  cases D
  simp only at hp hf
  subst hp hf
  rfl

theorem again_start {m n : Nat} (hm : m = 60) (hn : n = 50) : ∃ D1, (Dk.new (m : Int)).format 2 [] = (D1, 0) ∧ D1.sure.length = m ∧ D1.opened 2 n = some (⟨2, n, 1, 0, 0, 0, false, false⟩, [], []) ∧
    ∃ D2, (⟨2, n, 1, 0, 0, 0, false, false⟩ : Jn).checkpoint D1 [] = (D2, roomJ n 0 0, 0) ∧ Run m 2 D2 ∧ D2.pend = [] ∧ D2.place 2 1 = some (2, 0, [], 1) := by
  obtain ⟨a1, a2, a3, a4⟩ := run_format (m := m) (slot := 2) (st := []) (by omega) (by decide) (by omega)
  refine ⟨_, Prod.ext rfl a1, a2.size, opened_first (by omega) (by omega) (by simp) (by decide) a4, ?_⟩
  have ht : ((Dk.new (m : Int)).format 2 []).1.top (2 * 2 + n) = 1 := by
    have h2 := run_top a2 (2 * 2 + n) (by omega)
    have h3 := le_top a2.ok (2 * 2 + n) (by rw [a2.size]; omega) 0 (by omega)
    rw [a4 0, if_pos (by decide)] at h3
    have := lay_pc 1 0 [] [] 0 (by decide)
    rw [List.append_nil] at this
    rw [this, sec4_pad 1 0 _ (by omega) (length_pc_le _ _ _)] at h3
    omega
  obtain ⟨b1, b2, b3, b4, b5⟩ := run_checkpoint a2 ⟨2, n, 1, 0, 0, 0, false, false⟩ [] rfl (by simp only []; omega) (by simp only []; omega) (by simp only [ht]; decide)
  refine ⟨_, Prod.ext rfl (Prod.ext ?_ b1), b3, b4, ?_⟩
  · rw [b2]
    simp only [ht]
    rfl
  · unfold Dk.place
    have := lift_read (D := (Jn.checkpoint ⟨2, n, 1, 0, 0, 0, false, false⟩ ((Dk.new (m : Int)).format 2 []).1 []).1) 2 2 2 0 [] (by omega) (by omega) (by simp) (by decide) (fun i hi => by
      have hi0 : i = 0 := by
        have : cnt ([] : Bytes).length = 1 := by decide
        omega
      subst hi0
      rw [b5]
      simp only [ht]
      rw [if_pos (by decide)])
    exact this

/-- what stays behind the first checkpoint: its sectors -/
structure Again (A : Nat → Bytes) (D : Dk) : Prop where
  run : Run 60 2 D
  low : ∀ i, i < 4 → D.pb i = none ∧ D.at_ i = A i
theorem again_append {A : Nat → Bytes} {D : Dk} (h : Again A D) (seq used : Nat) (b : Bytes) (hs : seq ≤ 1000) (hu : used ≤ 50) (hb : b.length ≤ 65535) :
    ∃ D' seq' used' e, (roomJ 50 seq used).append D b = (D', roomJ 50 seq' used', e) ∧ Again A D' ∧ seq' ≤ seq + 1 ∧ used' ≤ 50 := by
  have := run_append h.run (roomJ 50 seq used) b rfl rfl (by simp only [roomJ]; omega) (Nat.le_refl _) (by omega) hb (by simp only [roomJ]; omega)
  by_cases hf : 50 < used + cnt b.length
  · exact ⟨D, seq, used, 5, this.1 hf, h, by omega, hu⟩
  · obtain ⟨a1, a2, a3, a4, a5⟩ := this.2 (by show used + cnt b.length ≤ 50; omega)
    refine ⟨_, seq + 1, used + cnt b.length, 0, Prod.ext rfl (Prod.ext a2 a1), ⟨a3, fun i hi => ?_⟩, Nat.le_refl _, by omega⟩
    obtain ⟨l1, l2⟩ := h.low i hi
    have hpb : ((roomJ 50 seq used).append D b).1.pb i = none := by
      rw [a5 i, if_neg (by simp only [roomJ]; omega)]
      exact l1
    refine ⟨hpb, ?_⟩
    rw [at_eq, hpb, Option.getD_none]
    rw [at_eq, l1, Option.getD_none] at l2
    unfold Dk.sb at l2 ⊢
    rw [a4]
    exact l2
theorem again_commit {A : Nat → Bytes} {D : Dk} (h : Again A D) (seq used : Nat) : ∃ D', (roomJ 50 seq used).commit D = (D', roomJ 50 seq used, 0) ∧ Again A D' := by
  obtain ⟨q1, q2, q3, q4, _⟩ := run_flush h.run
  refine ⟨D.flush.1, ?_, q2, fun i hi => ⟨by unfold Dk.pb; rw [q3]; rfl, by rw [q4 i]; exact (h.low i hi).2⟩⟩
  unfold Jn.commit
  simp only [roomJ, Bool.false_eq_true, if_false, Bool.not_true, q1]
  rfl
theorem again_crash {A : Nat → Bytes} {D : Dk} (h : Again A D) (keep torn cut : Int) :
    (D.crash keep torn cut).ok ∧ (D.crash keep torn cut).sure.length = 60 ∧ (D.crash keep torn cut).pend = [] ∧ (D.crash keep torn cut).fuse = -1 ∧ ∀ i, i < 4 → (D.crash keep torn cut).at_ i = A i := by
  obtain ⟨c1, c2, c3, c4, _, _, c7⟩ := crash_gen h.run.ok keep torn cut
  refine ⟨c1, by rw [c2]; exact h.run.size, c3, c4, fun i hi => ?_⟩
  obtain ⟨l1, l2⟩ := h.low i hi
  have : (D.crash keep torn cut).pb i = none := by unfold Dk.pb; rw [c3]; rfl
  rw [at_eq, this, Option.getD_none, c7 i l1]
  rw [at_eq, l1, Option.getD_none] at l2
  exact l2
/-- All that WalAgain needs of a crash behind the loop. -/
theorem again_end {D2 D : Dk} (h2 : Run 60 2 D2) (hp : D2.place 2 1 = some (2, 0, [], 1)) (h : Again (fun i => D2.at_ i) D) (a b c : Int) :
    ∃ J st l, (D.crash a b c).opened 2 50 = some (J, st, l) ∧ J.log = 50 ∧ J.used ≤ 50 ∧ (D.crash a b c).sure.length = 60 ∧ (D.crash a b c).pend = [] ∧ ∀ a' b' c', (D.crash a b c).crash a' b' c' = D.crash a b c := by
  obtain ⟨c1, c2, c3, c4, c5⟩ := again_crash h a b c
  have hpl : (D.crash a b c).place 2 1 = some (2, 0, [], 1) := by
    rw [← hp]
    unfold Dk.place
    rw [show (1 + 1) * 2 = 1 * 2 + 2 from rfl, read_same (D := D2) (1 * 2) 2 (fun i hi => c5 _ (by omega))]
  obtain ⟨J, st, l, o1, o2, o3⟩ := opened_some c1 (slot := 2) (log := 50) (by omega) hpl
  exact ⟨J, st, l, o1, o2, o3, c2, c3, fun a' b' c' => crash_none c3 c4 a' b' c'⟩
theorem again_first {D2 : Dk} (h2 : Run 60 2 D2) (hp : D2.pend = []) : Again (fun i => D2.at_ i) D2 :=
  ⟨h2, fun i _ => ⟨by unfold Dk.pb; rw [hp]; rfl, rfl⟩⟩
end Gd
