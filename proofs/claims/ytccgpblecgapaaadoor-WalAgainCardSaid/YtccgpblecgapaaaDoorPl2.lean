/- Plain laws of the disk: what a sector is behind a write, a flush, a crash. No program in sight. -/
import Derived.Test.YtccgpblecgapaaaDoorPl1
import Derived.Test.YtccgpblecgapaaaDoorCrw
set_option linter.unusedSimpArgs false
set_option linter.unusedVariables false
namespace Gd

def Dk.pb (D : Dk) (j : Nat) : Option Bytes := (D.pend.lookup j).map (·.bytes)
def Dk.sb (D : Dk) (j : Nat) : Bytes := (D.sure.getD j Sec.zero).bytes
def Dk.at_ (D : Dk) (j : Nat) : Bytes := (D.is j).bytes
theorem at_eq (D : Dk) (j : Nat) : D.at_ j = (D.pb j).getD (D.sb j) := by
  unfold Dk.at_ Dk.is Dk.pb Dk.sb
  cases D.pend.lookup j <;> rfl
theorem lookup_putPend (i : Nat) (s : Sec) (j : Nat) : ∀ l : List (Nat × Sec), (putPend i s l).lookup j = if j = i then some s else l.lookup j
  | [] => by
    by_cases h : j = i
    · subst h; simp [putPend]
    · have hb : (j == i) = false := by simpa using h
      simp [putPend, h, List.lookup, hb]
  | (k, t) :: l => by
    by_cases hk : k = i
    · subst hk
      by_cases h : j = k
      · subst h; simp [putPend]
      · have hb : (j == k) = false := by simpa using h
        simp [putPend, h, List.lookup, hb]
    · have hk' : ¬ i = k := fun h => hk h.symm
      simp only [putPend, if_neg hk, List.lookup]
      by_cases h : j = k
      · subst h
        simp [hk]
      · have hb : (j == k) = false := by simpa using h
        simp only [hb]
        exact lookup_putPend i s j l
theorem at_len {D : Dk} (h : D.ok) {j : Nat} (hj : j < D.sure.length) : (D.at_ j).length = 32 := Dk.is_ok h hj
theorem pb_lt {D : Dk} (h : D.ok) {j : Nat} {b : Bytes} (hb : D.pb j = some b) : j < D.sure.length ∧ b.length = 32 := by
  unfold Dk.pb at hb
  cases hl : D.pend.lookup j with
  | none => rw [hl] at hb; cases hb
  | some t =>
    rw [hl] at hb
    simp only [Option.map_some, Option.some.injEq] at hb
    have := h.pend _ (lookup_mem hl)
    exact ⟨this.2, by rw [← hb]; exact this.1⟩
theorem sb_len {D : Dk} (h : D.ok) (j : Nat) : (D.sb j).length = 32 := by
  unfold Dk.sb
  by_cases hj : j < D.sure.length
  · rw [List.getD_eq_getElem?_getD, List.getElem?_eq_getElem hj]
    exact h.sure _ (List.getElem_mem hj)
  · rw [List.getD_eq_getElem?_getD, List.getElem?_eq_none (by omega)]
    simp [Sec.zero]

/-! ### a write -/
theorem spend_cases (f : Int) (h : -1 ≤ f) : (spend f = some f ∧ f = -1) ∨ (spend f = none ∧ f = 0) ∨ (spend f = some (f - 1) ∧ 1 ≤ f) := by
  unfold spend
  by_cases h1 : f = -1
  · simp [h1]
  · by_cases h2 : f = 0
    · simp [h2]
    · rw [if_neg h1, if_neg h2]; exact .inr (.inr ⟨rfl, by omega⟩)
/-- a write that comes off, or does not -/
theorem write_cases {D : Dk} (h : D.ok) (i : Nat) (hi : i < D.sure.length) (b : Bytes) (hb : b.length = 32) :
    (D.write i b = (D, 10) ∧ D.fuse = 0) ∨ (∃ D', D.write i b = (D', 0) ∧ D'.ok ∧ D'.sure = D.sure ∧ (∀ j, D'.pb j = if j = i then some b else D.pb j) ∧ (D'.fuse = -1 ↔ D.fuse = -1)) := by
  have hw : D.write i b = match spend D.fuse with | none => (D, 10) | some f => ({ D with writes := w64 (D.writes + 1), fuse := f, pend := putPend i ⟨b, w64 (D.writes + 1)⟩ D.pend }, 0) := by
    unfold Dk.write
    rw [if_neg (by unfold Dk.size; omega)]
    rfl
  have hok := wrote_ok h hi hb
  rcases spend_cases D.fuse h.fuse.1 with ⟨h1, h2⟩ | ⟨h1, h2⟩ | ⟨h1, h2⟩
  · rw [h1] at hw
    refine .inr ⟨_, hw, ⟨hok.len, hok.sure, hok.pend, hok.keys, h.fuse⟩, rfl, fun j => ?_, Iff.rfl⟩
    unfold Dk.pb
    rw [lookup_putPend]
    split <;> rfl
  · rw [h1] at hw
    exact .inl ⟨hw, h2⟩
  · rw [h1] at hw
    refine .inr ⟨_, hw, ⟨hok.len, hok.sure, hok.pend, hok.keys, ⟨by simp only []; omega, by simp only []; have := h.fuse; omega⟩⟩, rfl, fun j => ?_, ?_⟩
    · unfold Dk.pb
      rw [lookup_putPend]
      split <;> rfl
    · simp only []; omega

/-- writes, one behind the other: the first k of them come off -/
theorem lays_gen : ∀ (L : List Bytes) (D : Dk) (a : Nat), D.ok → a + L.length ≤ D.sure.length → (∀ x ∈ L, x.length = 32) →
    ∃ k, k ≤ L.length ∧ (D.lays a L).1.ok ∧ (D.lays a L).1.sure = D.sure ∧ (∀ j, (D.lays a L).1.pb j = if a ≤ j ∧ j < a + k then L[j - a]? else D.pb j) ∧
      ((D.lays a L).2 = 0 ↔ k = L.length) ∧ ((D.lays a L).2 = 0 ∨ (D.lays a L).2 = 10) ∧ ((D.lays a L).1.fuse = -1 ↔ D.fuse = -1) ∧ (D.fuse = -1 → k = L.length)
  | [], D, a, h, _, _ => ⟨0, Nat.le_refl _, h, rfl, fun j => by rw [if_neg (by omega)]; rfl, by simp [Dk.lays], .inl rfl, Iff.rfl, fun _ => rfl⟩
  | x :: L, D, a, h, hl, hx => by
    simp only [List.length_cons] at hl ⊢
    rcases write_cases h a (by omega) x (hx x (by simp)) with ⟨hw, hf⟩ | ⟨D1, hw, hok, hs, hp, hfu⟩
    · have hlay : D.lays a (x :: L) = (D, 10) := by simp only [Dk.lays, hw]
      rw [hlay]
      refine ⟨0, by omega, h, rfl, fun j => by rw [if_neg (by omega)], by simp, .inr rfl, Iff.rfl, fun h1 => by omega⟩
    · have hlay : D.lays a (x :: L) = D1.lays (a + 1) L := by simp only [Dk.lays, hw]
      obtain ⟨k, h1, h2, h3, h4, h5, h6, h7, h8⟩ := lays_gen L D1 (a + 1) hok (by rw [hs]; omega) (fun y hy => hx y (by simp [hy]))
      rw [hlay]
      refine ⟨k + 1, by omega, h2, h3.trans hs, fun j => ?_, by rw [h5]; omega, h6, h7.trans hfu, fun hf => by rw [h8 (hfu.2 hf)]⟩
      rw [h4 j, hp j]
      by_cases hj : j = a
      · subst hj
        rw [if_neg (by omega), if_pos rfl, if_pos (by omega)]
        simp
      · by_cases hr : a + 1 ≤ j ∧ j < a + 1 + k
        · rw [if_pos hr, if_pos (by omega), show j - a = (j - (a + 1)) + 1 by omega, List.getElem?_cons_succ]
        · rw [if_neg hr, if_neg hj, if_neg (by omega)]
theorem put_gen {D : Dk} (h : D.ok) (a K : Nat) (b : Bytes) (hb : b.length = 32 * K) (ha : a + K ≤ D.sure.length) :
    ∃ k, k ≤ K ∧ (D.put a b).1.ok ∧ (D.put a b).1.sure = D.sure ∧ (∀ j, (D.put a b).1.pb j = if a ≤ j ∧ j < a + k then some (pc 32 b (j - a)) else D.pb j) ∧
      ((D.put a b).2 = 0 ↔ k = K) ∧ ((D.put a b).2 = 0 ∨ (D.put a b).2 = 10) ∧ ((D.put a b).1.fuse = -1 ↔ D.fuse = -1) ∧ (D.fuse = -1 → k = K) := by
  have hK : b.length / 32 = K := by omega
  have hll : ((List.range K).map (pc 32 b)).length = K := by simp
  have := lays_gen ((List.range K).map (pc 32 b)) D a h (by rw [hll]; exact ha) (fun x hx => by
    obtain ⟨i, hi, rfl⟩ := List.mem_map.1 hx
    have := List.mem_range.1 hi
    simp [pc]; omega)
  rw [hll] at this
  obtain ⟨k, h1, h2, h3, h4, h5⟩ := this
  unfold Dk.put
  rw [hK]
  refine ⟨k, h1, h2, h3, fun j => ?_, h5⟩
  rw [h4 j]
  by_cases hr : a ≤ j ∧ j < a + k
  · rw [if_pos hr, if_pos hr, List.getElem?_map, List.getElem?_range (by omega)]
    rfl
  · rw [if_neg hr, if_neg hr]

/-! ### a flush, a crash -/
theorem settle_getD {D : Dk} (g : Nat → Sec → Sec → Sec) (j : Nat) (hj : j < D.sure.length) : (D.settle g).getD j Sec.zero = match D.pend.lookup j with | some t => g j (D.sure.getD j Sec.zero) t | none => D.sure.getD j Sec.zero := by
  unfold Dk.settle
  simp only [List.getD_eq_getElem?_getD, List.getElem?_mapIdx, List.getElem?_eq_getElem hj, Option.map_some, Option.getD_some]
  cases D.pend.lookup j <;> rfl
theorem settle_out {D : Dk} (g : Nat → Sec → Sec → Sec) (j : Nat) (hj : ¬ j < D.sure.length) : (D.settle g).getD j Sec.zero = Sec.zero := by
  unfold Dk.settle
  simp only [List.getD_eq_getElem?_getD, List.getElem?_mapIdx, List.getElem?_eq_none (by omega : D.sure.length ≤ j), Option.map_none, Option.getD_none]
theorem flush_gen {D : Dk} (h : D.ok) : (D.flush = (D, 10) ∧ D.fuse = 0) ∨ (∃ D', D.flush = (D', 0) ∧ D'.ok ∧ D'.sure.length = D.sure.length ∧ D'.pend = [] ∧ (∀ j, D'.sb j = D.at_ j) ∧ (D'.fuse = -1 ↔ D.fuse = -1) ∧ D'.writes = D.writes) := by
  have hsb : ∀ (f : Int) j, (⟨D.settle (fun _ _ t => t), [], D.writes, f⟩ : Dk).sb j = D.at_ j := fun f j => by
    by_cases hj : j < D.sure.length
    · have := settle_getD (D := D) (fun _ _ t => t) j hj
      unfold Dk.sb
      simp only
      rw [this]
      unfold Dk.at_ Dk.is
      cases D.pend.lookup j <;> rfl
    · have := settle_out (D := D) (fun _ _ t => t) j hj
      unfold Dk.sb
      simp only
      rw [this]
      unfold Dk.at_ Dk.is
      cases hl : D.pend.lookup j with
      | none => rw [List.getD_eq_getElem?_getD, List.getElem?_eq_none (by omega)]; rfl
      | some t => exact absurd (h.pend _ (lookup_mem hl)).2 hj
  have hok : ∀ (f : Int), (-1 ≤ f ∧ f ≤ 9223372036854775807) → (⟨D.settle (fun _ _ t => t), [], D.writes, f⟩ : Dk).ok := fun f hf =>
    ⟨by simp only [Dk.settle, List.length_mapIdx]; exact h.len, fun s hs => by
      obtain ⟨i, hi, rfl⟩ := List.mem_iff_getElem.1 hs
      simp only [Dk.settle, List.getElem_mapIdx]
      have hil : i < D.sure.length := by simpa [Dk.settle] using hi
      split
      · rename_i t ht; exact (h.pend _ (lookup_mem ht)).1
      · exact h.sure _ (List.getElem_mem hil), fun q hq => by simp at hq, by simp, hf⟩
  unfold Dk.flush
  rcases spend_cases D.fuse h.fuse.1 with ⟨h1, h2⟩ | ⟨h1, h2⟩ | ⟨h1, h2⟩
  · rw [h1]
    exact .inr ⟨_, rfl, hok _ h.fuse, by simp [Dk.settle], rfl, fun j => hsb _ j, Iff.rfl, rfl⟩
  · rw [h1]; exact .inl ⟨rfl, h2⟩
  · rw [h1]
    exact .inr ⟨_, rfl, hok _ (by have := h.fuse; omega), by simp [Dk.settle], rfl, fun j => hsb _ j, by simp only []; omega, rfl⟩
theorem survives_cut (s t : Sec) (hs : s.ok) (ht : t.ok) (n : Nat) (keep torn cut : Int) : ∃ c, (survives s t n keep torn cut).bytes = t.bytes.take c ++ s.bytes.drop c := by
  have hsl : s.bytes.length = 32 := hs
  have htl : t.bytes.length = 32 := ht
  unfold survives
  split
  · exact ⟨32, by rw [List.take_of_length_le (by omega), List.drop_of_length_le (by omega), List.append_nil]⟩
  · split
    · exact ⟨cut.toNat, rfl⟩
    · split
      · exact ⟨32, by rw [List.take_of_length_le (by omega), List.drop_of_length_le (by omega), List.append_nil]⟩
      · exact ⟨0, rfl⟩
theorem crash_gen {D : Dk} (h : D.ok) (keep torn cut : Int) : (D.crash keep torn cut).ok ∧ (D.crash keep torn cut).sure.length = D.sure.length ∧ (D.crash keep torn cut).pend = [] ∧ (D.crash keep torn cut).fuse = -1 ∧ (D.crash keep torn cut).writes = D.writes ∧
    (∀ j, ∃ c, (D.crash keep torn cut).sb j = (D.at_ j).take c ++ (D.sb j).drop c) ∧ (∀ j, D.pb j = none → (D.crash keep torn cut).sb j = D.sb j) := by
  have hsb : ∀ j, (D.crash keep torn cut).sb j = match D.pend.lookup j with | some t => (survives (D.sure.getD j Sec.zero) t (D.rank j) keep torn cut).bytes | none => D.sb j := fun j => by
    unfold Dk.crash Dk.sb
    simp only
    by_cases hj : j < D.sure.length
    · rw [settle_getD _ j hj]
      cases D.pend.lookup j <;> rfl
    · rw [settle_out _ j hj]
      cases hl : D.pend.lookup j with
      | none => simp only; rw [List.getD_eq_getElem?_getD, List.getElem?_eq_none (by omega)]; rfl
      | some t => exact absurd (h.pend _ (lookup_mem hl)).2 hj
  have hso : ∀ j, (D.sure.getD j Sec.zero).ok := fun j => sb_len h j
  refine ⟨⟨by simp only [Dk.crash, Dk.settle, List.length_mapIdx]; exact h.len, fun s hs => ?_, fun q hq => by simp [Dk.crash] at hq, by simp [Dk.crash], by simp [Dk.crash]⟩, by simp [Dk.crash, Dk.settle], rfl, rfl, rfl, fun j => ?_, fun j hj => ?_⟩
  · obtain ⟨i, hi, rfl⟩ := List.mem_iff_getElem.1 hs
    simp only [Dk.crash, Dk.settle, List.getElem_mapIdx]
    have hil : i < D.sure.length := by simpa [Dk.crash, Dk.settle] using hi
    split
    · rename_i t ht; exact survives_ok (h.sure _ (List.getElem_mem hil)) (h.pend _ (lookup_mem ht)).1 _ _ _ _
    · exact h.sure _ (List.getElem_mem hil)
  · rw [hsb j]
    unfold Dk.at_ Dk.is
    cases hl : D.pend.lookup j with
    | none => exact ⟨0, rfl⟩
    | some t => exact survives_cut _ t (hso j) (h.pend _ (lookup_mem hl)).1 _ _ _ _
  · rw [hsb j]
    unfold Dk.pb at hj
    cases hl : D.pend.lookup j with
    | none => rfl
    | some t => rw [hl] at hj; cases hj

/-! ### reading -/
theorem read_eq (D : Dk) (a n : Nat) : D.read a (a + n) = ((List.range n).map fun i => D.at_ (a + i)).flatten := by
  unfold Dk.read Dk.at_
  rw [show a + n - a = n by omega]
theorem read_len {D : Dk} (h : D.ok) (a n : Nat) (hn : a + n ≤ D.sure.length) : (D.read a (a + n)).length = 32 * n := length_read h a n hn
theorem read_split (D : Dk) (a n k : Nat) : D.read a (a + (n + k)) = D.read a (a + n) ++ D.read (a + n) (a + n + k) := by
  rw [read_eq, read_eq, read_eq, List.range_add, List.map_append, List.flatten_append, List.map_map]
  congr 3
  funext i
  simp [Nat.add_assoc]
theorem flatten_pc (b : Bytes) (K : Nat) (hb : b.length = 32 * K) : ((List.range K).map (pc 32 b)).flatten = b := by
  have : ∀ n, n ≤ K → ((List.range n).map (pc 32 b)).flatten = b.take (32 * n) := by
    intro n
    induction n with
    | zero => intro _; simp
    | succ n ih =>
      intro hn
      rw [List.range_succ, List.map_append, List.flatten_append, ih (by omega)]
      simp only [List.map_cons, List.map_nil, List.flatten_cons, List.flatten_nil, List.append_nil, pc]
      rw [show 32 * (n + 1) = 32 * n + 32 by omega, List.take_add]
  rw [this K (Nat.le_refl _), List.take_of_length_le (by omega)]
theorem read_of {D : Dk} (a K : Nat) (b : Bytes) (hb : b.length = 32 * K) (h : ∀ i, i < K → D.at_ (a + i) = pc 32 b i) : D.read a (a + K) = b := by
  rw [read_eq]
  conv => rhs; rw [← flatten_pc b K hb]
  congr 1
  exact List.map_congr_left (fun i hi => h i (List.mem_range.1 hi))
theorem pc_read {D : Dk} (h : D.ok) (a n x : Nat) (hn : a + n ≤ D.sure.length) (hx : x < n) : pc 32 (D.read a (a + n)) x = D.at_ (a + x) := by
  rw [read_eq]
  have := pc_flatten 32 (by omega) (fun i => D.at_ (a + i)) n (fun i hi => at_len h (by omega)) [] x hx
  rwa [List.append_nil] at this
theorem foldl_max_le (l : List Nat) (m T : Nat) (hm : m ≤ T) (h : ∀ x ∈ l, x ≤ T) : l.foldl max m ≤ T := by
  induction l generalizing m with
  | nil => exact hm
  | cons x l ih => exact ih (max m x) (by have := h x (by simp); omega) (fun y hy => h y (by simp [hy]))
theorem foldl_max_ge (l : List Nat) (m : Nat) : m ≤ l.foldl max m ∧ ∀ x ∈ l, x ≤ l.foldl max m := by
  induction l generalizing m with
  | nil => exact ⟨Nat.le_refl _, fun x hx => by simp at hx⟩
  | cons y l ih =>
    have := ih (max m y)
    refine ⟨by simp only [List.foldl_cons]; omega, fun x hx => ?_⟩
    simp only [List.foldl_cons]
    rcases List.mem_cons.1 hx with rfl | hx
    · omega
    · exact this.2 x hx
theorem top_le {D : Dk} (h : D.ok) (n T : Nat) (hn : n ≤ D.sure.length) (hT : ∀ i, i < n → sec4 (D.at_ i) ≤ T) : D.top n ≤ T := by
  unfold Dk.top topB
  refine foldl_max_le _ _ _ (Nat.zero_le _) (fun x hx => ?_)
  obtain ⟨i, hi, rfl⟩ := List.mem_map.1 hx
  have hi := List.mem_range.1 hi
  have := pc_read h 0 n i (by omega) hi
  rw [Nat.zero_add, Nat.zero_add] at this
  rw [this]
  exact hT i hi
theorem le_top {D : Dk} (h : D.ok) (n : Nat) (hn : n ≤ D.sure.length) (i : Nat) (hi : i < n) : sec4 (D.at_ i) ≤ D.top n := by
  unfold Dk.top topB
  refine (foldl_max_ge _ 0).2 _ (List.mem_map.2 ⟨i, List.mem_range.2 hi, ?_⟩)
  have := pc_read h 0 n i (by omega) hi
  rw [Nat.zero_add, Nat.zero_add] at this
  rw [this]
end Gd
