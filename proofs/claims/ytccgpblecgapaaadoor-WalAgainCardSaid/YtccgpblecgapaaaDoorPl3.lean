/- Plain laws of a journal whose power stays: format, open, checkpoint, append. No program in sight. -/
import Derived.Test.YtccgpblecgapaaaDoorPl2
set_option linter.unusedSimpArgs false
set_option linter.unusedVariables false
namespace Gd

/-- the power stays; marks up to T -/
structure Run (m T : Nat) (D : Dk) : Prop where
  ok : D.ok
  fuse : D.fuse = -1
  size : D.sure.length = m
  marks : ∀ i, i < m → sec4 (D.at_ i) ≤ T
theorem run_put {m T : Nat} {D : Dk} (h : Run m T D) (a e q : Nat) (b : Bytes) (he : e ≤ T) (hT : e < 4294967296) (ha : a + cnt b.length ≤ m) :
    (D.put a (lay e q b)).2 = 0 ∧ Run m T (D.put a (lay e q b)).1 ∧ (D.put a (lay e q b)).1.sure = D.sure ∧ ∀ j, (D.put a (lay e q b)).1.pb j = if a ≤ j ∧ j < a + cnt b.length then some (pc 32 (lay e q b) (j - a)) else D.pb j := by
  obtain ⟨k, h1, h2, h3, h4, h5, h6, h7, h8⟩ := put_gen h.ok a (cnt b.length) (lay e q b) (length_lay _ _ _) (by rw [h.size]; exact ha)
  have hk := h8 h.fuse
  subst hk
  refine ⟨h5.2 rfl, ⟨h2, h7.2 h.fuse, by rw [h3]; exact h.size, fun i hi => ?_⟩, h3, h4⟩
  rw [at_eq, h4 i]
  by_cases hr : a ≤ i ∧ i < a + cnt b.length
  · rw [if_pos hr, Option.getD_some]
    have := lay_pc e q b [] (i - a) (by omega)
    rw [List.append_nil] at this
    rw [this, sec4_pad e q _ hT (length_pc_le _ _ _)]
    exact he
  · rw [if_neg hr]
    have := h.marks i hi
    rw [at_eq] at this
    unfold Dk.sb at this ⊢
    rw [h3]
    exact this
theorem run_flush {m T : Nat} {D : Dk} (h : Run m T D) : D.flush.2 = 0 ∧ Run m T D.flush.1 ∧ D.flush.1.pend = [] ∧ (∀ j, D.flush.1.at_ j = D.at_ j) ∧ D.flush.1.writes = D.writes := by
  rcases flush_gen h.ok with ⟨h1, h2⟩ | ⟨D', h1, h2, h3, h4, h5, h6, h7⟩
  · have := h.fuse; omega
  · rw [h1]
    have hat : ∀ j, D'.at_ j = D.at_ j := fun j => by
      have : D'.pb j = none := by unfold Dk.pb; rw [h4]; rfl
      rw [at_eq D' j, this, Option.getD_none, h5 j]
    exact ⟨rfl, ⟨h2, h6.2 h.fuse, by rw [h3]; exact h.size, fun i hi => by rw [hat i]; exact h.marks i hi⟩, h4, hat, h7⟩
theorem run_top {m T : Nat} {D : Dk} (h : Run m T D) (k : Nat) (hk : k ≤ m) : D.top k ≤ T := top_le h.ok k T (by rw [h.size]; exact hk) (fun i hi => h.marks i (by omega))
theorem Run.mono {m T T' : Nat} {D : Dk} (h : Run m T D) (hT : T ≤ T') : Run m T' D := ⟨h.ok, h.fuse, h.size, fun i hi => Nat.le_trans (h.marks i hi) hT⟩

/-! ### a new disk -/
theorem zero_sec4 : sec4 (List.replicate 32 0) = 0 := by decide
theorem new_at (m : Nat) (j : Nat) : (Dk.new m).at_ j = List.replicate 32 0 := by
  rw [at_eq]
  have : (Dk.new (m : Int)).pb j = none := rfl
  rw [this, Option.getD_none]
  unfold Dk.sb Dk.new
  simp only [List.getD_eq_getElem?_getD, List.getElem?_replicate]
  split <;> rfl
theorem new_size (m : Nat) (hm : m ≤ 4096) : (Dk.new (m : Int)).sure.length = m := by
  simp only [Dk.new, List.length_replicate]; omega
theorem new_ok (m : Nat) : (Dk.new (m : Int)).ok := ⟨by simp only [Dk.new, List.length_replicate]; omega, fun s hs => by
  simp only [Dk.new] at hs
  obtain ⟨_, rfl⟩ := List.mem_replicate.1 hs
  simp [Sec.ok, Sec.zero], fun q hq => by simp [Dk.new] at hq, by simp [Dk.new], by simp [Dk.new]⟩
theorem new_run (m : Nat) (hm : m ≤ 4096) : Run m 0 (Dk.new (m : Int)) := ⟨new_ok m, rfl, new_size m hm, fun i _ => by rw [new_at, zero_sec4]; exact Nat.le_refl _⟩

/-! ### format, and open behind it -/
/-- a record stands at the beginning of sectors -/
theorem lift_read {D : Dk} (a n e q : Nat) (b : Bytes) (he : e < 4294967296) (hq : q < 4294967296) (hb : b.length ≤ 65535) (hn : cnt b.length ≤ n) (h : ∀ i, i < cnt b.length → D.at_ (a + i) = pc 32 (lay e q b) i) :
    lift (D.read a (a + n)) = some (e, q, b, cnt b.length) := by
  have hs : n = cnt b.length + (n - cnt b.length) := by omega
  rw [hs, read_split, read_of a (cnt b.length) (lay e q b) (length_lay _ _ _) h]
  exact lift_lay e q b _ he hq hb
theorem read_first (D : Dk) (a n : Nat) (hn : 0 < n) : D.read a (a + n) = D.at_ a ++ D.read (a + 1) (a + n) := by
  have hs : n = 1 + (n - 1) := by omega
  have h1 : D.read a (a + 1) = D.at_ a := by rw [read_eq]; simp
  rw [hs, read_split, h1, Nat.add_assoc]
theorem lift_read_zero {D : Dk} (a n : Nat) (hn : 0 < n) (h : D.at_ a = List.replicate 32 0) : lift (D.read a (a + n)) = none := by
  rw [read_first D a n hn, h]
  exact lift_zeros _
theorem fits_zero {slot e : Nat} {b : Bytes} : fits slot e b = 0 ↔ b.length ≤ 65535 ∧ e ≤ 4294967295 ∧ cnt b.length ≤ slot := by
  unfold fits
  by_cases h1 : 65535 < b.length ∨ 4294967295 < e
  · rw [if_pos h1]
    constructor
    · intro h; cases h
    · omega
  · rw [if_neg h1]
    by_cases h2 : slot < cnt b.length
    · rw [if_pos h2]
      constructor
      · intro h; cases h
      · omega
    · rw [if_neg h2]
      exact ⟨fun _ => by omega, fun _ => rfl⟩
theorem run_format {m slot : Nat} {st : Bytes} (hm : m ≤ 4096) (hf : fits slot 1 st = 0) (hs : slot ≤ m) :
    ((Dk.new (m : Int)).format slot st).2 = 0 ∧ Run m 1 ((Dk.new (m : Int)).format slot st).1 ∧ ((Dk.new (m : Int)).format slot st).1.pend = [] ∧
    ∀ j, ((Dk.new (m : Int)).format slot st).1.at_ j = if j < cnt st.length then pc 32 (lay 1 0 st) j else List.replicate 32 0 := by
  have h0 := (new_run m hm).mono (show 0 ≤ 1 by omega)
  obtain ⟨f1, f2, f3⟩ := fits_zero.1 hf
  obtain ⟨p1, p2, p3, p4⟩ := run_put h0 0 1 0 st (Nat.le_refl _) (by omega) (by omega)
  obtain ⟨q1, q2, q3, q4, _⟩ := run_flush p2
  have he : (Dk.new (m : Int)).format slot st = ((Dk.new (m : Int)).put 0 (lay 1 0 st)).1.flush := by
    unfold Dk.format
    rw [if_pos hf]
    simp only [p1, if_true]
  rw [he]
  refine ⟨q1, q2, q3, fun j => ?_⟩
  rw [q4 j, at_eq, p4 j]
  by_cases hj : j < cnt st.length
  · rw [if_pos (by omega), if_pos hj]; rfl
  · rw [if_neg (by omega), if_neg hj]
    have : ((Dk.new (m : Int)).put 0 (lay 1 0 st)).1.sb j = (Dk.new (m : Int)).sb j := by unfold Dk.sb; rw [p3]
    rw [this, ← at_eq]
    exact new_at m j
theorem opened_first {D : Dk} {slot log : Nat} {st : Bytes} (hs : 0 < slot) (hl : 0 < log) (hst : st.length ≤ 65535) (hc : cnt st.length ≤ slot)
    (h : ∀ j, D.at_ j = if j < cnt st.length then pc 32 (lay 1 0 st) j else List.replicate 32 0) : D.opened slot log = some (⟨slot, log, 1, 0, 0, 0, false, false⟩, st, []) := by
  have p0 : D.place slot 0 = some (1, 0, st, cnt st.length) := by
    unfold Dk.place
    rw [Nat.zero_mul, Nat.zero_add, Nat.one_mul]
    have := lift_read (D := D) 0 slot 1 0 st (by omega) (by omega) hst hc (fun i hi => by rw [Nat.zero_add, h i, if_pos hi])
    rwa [Nat.zero_add] at this
  have p1 : D.place slot 1 = none := by
    unfold Dk.place
    rw [Nat.one_mul, show (1 + 1) * slot = slot + slot by omega]
    exact lift_read_zero slot slot hs (by rw [h slot, if_neg (by omega)])
  have p2 : lift (D.read (2 * slot) (2 * slot + log)) = none := lift_read_zero _ _ hl (by rw [h (2 * slot), if_neg (by omega)])
  have hb : D.best slot = ⟨1, 0, 0, st⟩ := by unfold Dk.best; rw [p0, p1]; rfl
  have hfo : follow 1 (log + 1) 0 0 (D.read (2 * slot) (2 * slot + log)) = ([], 0, 0) := by unfold follow; rw [p2]
  unfold Dk.opened
  rw [hb]
  simp only [show ((1 : Int)).toNat = 1 from rfl, hfo]
  rfl

/-! ### checkpoint, append, commit -/
theorem run_checkpoint {m T : Nat} {D : Dk} (h : Run m T D) (j : Jn) (b : Bytes) (hr : j.refused = false) (hlay : 2 * j.slot + j.log ≤ m) (hat : j.at_ ≤ 1) (hf : fits j.slot (D.top (2 * j.slot + j.log) + 1) b = 0) :
    (j.checkpoint D b).2.2 = 0 ∧ (j.checkpoint D b).2.1 = { j with epoch := D.top (2 * j.slot + j.log) + 1, at_ := 1 - j.at_, used := 0, fresh := true, refused := false } ∧ Run m (T + 1) (j.checkpoint D b).1 ∧ (j.checkpoint D b).1.pend = [] ∧
    (∀ i, (j.checkpoint D b).1.at_ i = if (1 - j.at_) * j.slot ≤ i ∧ i < (1 - j.at_) * j.slot + cnt b.length then pc 32 (lay (D.top (2 * j.slot + j.log) + 1) j.seq b) (i - (1 - j.at_) * j.slot) else D.at_ i) := by
  have ht := run_top h (2 * j.slot + j.log) hlay
  obtain ⟨f1, f2, f3⟩ := fits_zero.1 hf
  have hx : (1 - j.at_) * j.slot + j.slot ≤ 2 * j.slot := by
    rcases (by omega : j.at_ = 0 ∨ j.at_ = 1) with h | h <;> rw [h] <;> omega
  obtain ⟨p1, p2, p3, p4⟩ := run_put (h.mono (show T ≤ T + 1 by omega)) ((1 - j.at_) * j.slot) (D.top (2 * j.slot + j.log) + 1) j.seq b (by omega) (by omega) (by omega)
  obtain ⟨q1, q2, q3, q4, _⟩ := run_flush p2
  have he : j.checkpoint D b = ((D.put ((1 - j.at_) * j.slot) (lay (D.top (2 * j.slot + j.log) + 1) j.seq b)).1.flush.1, { j with epoch := D.top (2 * j.slot + j.log) + 1, at_ := 1 - j.at_, used := 0, fresh := true, refused := false }, 0) := by
    unfold Jn.checkpoint
    rw [hr, hf]
    simp only [Bool.false_eq_true, if_false, ne_eq, not_true_eq_false, p1, q1]
  rw [he]
  refine ⟨rfl, rfl, q2, q3, fun i => ?_⟩
  rw [q4 i, at_eq, p4 i]
  by_cases hi : (1 - j.at_) * j.slot ≤ i ∧ i < (1 - j.at_) * j.slot + cnt b.length
  · rw [if_pos hi, if_pos hi]; rfl
  · rw [if_neg hi, if_neg hi]
    have : (D.put ((1 - j.at_) * j.slot) (lay (D.top (2 * j.slot + j.log) + 1) j.seq b)).1.sb i = D.sb i := by unfold Dk.sb; rw [p3]
    rw [this, ← at_eq]
theorem run_append {m T : Nat} {D : Dk} (h : Run m T D) (j : Jn) (b : Bytes) (hr : j.refused = false) (hfr : j.fresh = true) (hlay : 2 * j.slot + j.log ≤ m) (he : j.epoch ≤ T) (hT : T < 4294967296) (hb : b.length ≤ 65535) (hq : j.seq < 4294967295) :
    (j.log < j.used + cnt b.length → j.append D b = (D, j, 5)) ∧
    (j.used + cnt b.length ≤ j.log → (j.append D b).2.2 = 0 ∧ (j.append D b).2.1 = { j with seq := j.seq + 1, used := j.used + cnt b.length, refused := false } ∧ Run m T (j.append D b).1 ∧ (j.append D b).1.sure = D.sure ∧
      ∀ i, (j.append D b).1.pb i = if 2 * j.slot + j.used ≤ i ∧ i < 2 * j.slot + j.used + cnt b.length then some (pc 32 (lay j.epoch (j.seq + 1) b) (i - (2 * j.slot + j.used))) else D.pb i) := by
  constructor
  · intro hf
    unfold Jn.append
    rw [hr, hfr]
    simp only [Bool.false_eq_true, if_false, Bool.not_true]
    rw [if_neg (by omega), if_pos hf]
  · intro hf
    obtain ⟨p1, p2, p3, p4⟩ := run_put h (2 * j.slot + j.used) j.epoch (j.seq + 1) b he (by omega) (by omega)
    have hE : j.append D b = ((D.put (2 * j.slot + j.used) (lay j.epoch (j.seq + 1) b)).1, { j with seq := j.seq + 1, used := j.used + cnt b.length, refused := false }, 0) := by
      unfold Jn.append
      rw [hr, hfr]
      simp only [Bool.false_eq_true, if_false, Bool.not_true]
      rw [if_neg (by omega), if_neg (by omega)]
      simp only [ne_eq, p1, not_true_eq_false, if_false]
    rw [hE]
    exact ⟨rfl, rfl, p2, p3, p4⟩

/-! ### the room -/
def roomJ (n seq used : Nat) : Jn := ⟨2, n, 2, seq, 1, used, true, false⟩
theorem room_start {n : Nat} (h0 : 0 < n) (h1 : n ≤ 60) : ∃ D1, (Dk.new ((6 + n : Nat) : Int)).format 2 [] = (D1, 0) ∧ D1.sure.length = 6 + n ∧ D1.opened 2 n = some (⟨2, n, 1, 0, 0, 0, false, false⟩, [], []) ∧
    ∃ D2, (⟨2, n, 1, 0, 0, 0, false, false⟩ : Jn).checkpoint D1 [] = (D2, roomJ n 0 0, 0) ∧ Run (6 + n) 2 D2 := by
  obtain ⟨a1, a2, a3, a4⟩ := run_format (m := 6 + n) (slot := 2) (st := []) (by omega) (by decide) (by omega)
  refine ⟨_, Prod.ext rfl a1, a2.size, opened_first (by omega) h0 (by simp) (by decide) a4, ?_⟩
  have ht : ((Dk.new ((6 + n : Nat) : Int)).format 2 []).1.top (2 * 2 + n) = 1 := by
    have h2 := run_top a2 (2 * 2 + n) (by omega)
    have h3 := le_top a2.ok (2 * 2 + n) (by rw [a2.size]; omega) 0 (by omega)
    rw [a4 0, if_pos (by decide)] at h3
    have := lay_pc 1 0 [] [] 0 (by decide)
    rw [List.append_nil] at this
    rw [this, sec4_pad 1 0 _ (by omega) (length_pc_le _ _ _)] at h3
    omega
  obtain ⟨b1, b2, b3, b4, b5⟩ := run_checkpoint a2 ⟨2, n, 1, 0, 0, 0, false, false⟩ [] rfl (by simp only []; omega) (by simp only []; omega) (by simp only [ht]; decide)
  refine ⟨_, Prod.ext rfl (Prod.ext ?_ b1), b3⟩
  rw [b2]
  simp only [ht]
  rfl
theorem cnt_zeros (z : Nat) : cnt z = (z + 29) / 24 := by unfold cnt; omega
theorem room_append {n : Nat} {D : Dk} (h : Run (6 + n) 2 D) (seq used z : Nat) (hs : seq ≤ 1000) (hz : z < 600) :
    (n < used + cnt z → (roomJ n seq used).append D (List.replicate z 0) = (D, roomJ n seq used, 5)) ∧
    (used + cnt z ≤ n → ∃ D', (roomJ n seq used).append D (List.replicate z 0) = (D', roomJ n (seq + 1) (used + cnt z), 0) ∧ Run (6 + n) 2 D') := by
  have hl : (List.replicate z (0 : UInt8)).length = z := List.length_replicate
  have := run_append h (roomJ n seq used) (List.replicate z 0) rfl rfl (by simp only [roomJ]; omega) (Nat.le_refl _) (by omega) (by rw [hl]; omega) (by simp only [roomJ]; omega)
  rw [hl] at this
  exact ⟨this.1, fun hf => ⟨_, Prod.ext rfl (Prod.ext (this.2 hf).2.1 (this.2 hf).1), (this.2 hf).2.2.1⟩⟩
theorem room_big {n : Nat} {D : Dk} (h : Run (6 + n) 2 D) (seq used : Nat) : (roomJ n seq used).checkpoint D (List.replicate 43 0) = (D, roomJ n seq used, 5) := by
  have ht := run_top h (2 * 2 + n) (by omega)
  have hf : fits (roomJ n seq used).slot (D.top (2 * (roomJ n seq used).slot + (roomJ n seq used).log) + 1) (List.replicate 43 0) = 5 := by
    show fits 2 (D.top (2 * 2 + n) + 1) (List.replicate 43 0) = 5
    unfold fits
    rw [List.length_replicate, if_neg (by omega), if_pos (by decide)]
  unfold Jn.checkpoint
  rw [hf]
  rfl
theorem room_last {n : Nat} {D : Dk} (h : Run (6 + n) 2 D) (seq used : Nat) (b : Bytes) (hb : b.length ≤ 42) :
    ((roomJ n seq used).checkpoint D b).2.2 = 0 ∧ ∃ e at_, ((roomJ n seq used).checkpoint D b).2.1 = ⟨2, n, e, seq, at_, 0, true, false⟩ := by
  have ht := run_top h (2 * 2 + n) (by omega)
  have hc : cnt b.length ≤ 2 := by unfold cnt; omega
  obtain ⟨b1, b2, _⟩ := run_checkpoint h (roomJ n seq used) b rfl (by simp only [roomJ]; omega) (by simp only [roomJ]; omega) (fits_zero.2 ⟨by omega, by simp only [roomJ]; omega, hc⟩)
  exact ⟨b1, _, _, b2⟩
end Gd
