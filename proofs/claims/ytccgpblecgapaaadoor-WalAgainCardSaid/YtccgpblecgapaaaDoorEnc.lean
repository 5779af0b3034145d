/- How the disk's data lie in memory. -/
import Derived.Test.YtccgpblecgapaaaDoorMem
import Derived.Test.YtccgpblecgapaaaDoorChecked
import Derived.Maps.OwnOps
import Derived.Deep.DeepMust
set_option linter.unusedSimpArgs false
set_option linter.unusedVariables false
namespace Gd
open Go Go.Proofs

theorem w64_eq (n : Int) : RowKit.wrap64 n = w64 n := by unfold RowKit.wrap64 w64; rfl
def bv (b : UInt8) : Value := .int .u8 b.toNat
def bcells (l : Bytes) : List Value := l.map bv
def secL (s : Sec) : List Value := bcells s.bytes ++ [.int .i64 s.num]
def secV (s : Sec) : Value := .agg (secL s).toArray
def secsL (l : List Sec) : List Value := l.flatMap secL
def pendL (l : List (Nat × Sec)) : List (Int × Value) := l.map fun p => ((p.1 : Int), secV p.2)

theorem bcells_oneCell (l : Bytes) : ∀ v ∈ bcells l, v.oneCell' = true := by
  intro v hv
  obtain ⟨b, _, rfl⟩ := List.mem_map.1 hv
  rfl
@[simp] theorem length_bcells (l : Bytes) : (bcells l).length = l.length := by simp [bcells]
theorem bcells_append (l l' : Bytes) : bcells (l ++ l') = bcells l ++ bcells l' := by simp [bcells]
theorem bcells_getElem? (l : Bytes) (i : Nat) : (bcells l)[i]? = l[i]?.map bv := by simp [bcells]
def Sec.ok (s : Sec) : Prop := s.bytes.length = 32
theorem length_secL {s : Sec} (h : s.ok) : (secL s).length = 33 := by simp [secL, h, Sec.ok] at *; omega
theorem secL_oneCell (s : Sec) : ∀ v ∈ secL s, v.oneCell' = true := by
  intro v hv
  rcases List.mem_append.1 hv with h | h
  · exact bcells_oneCell _ v h
  · simp at h; subst h; rfl
theorem secL_all {s : Sec} (h : s.ok) : (secL s).toArray.extract 0 (0 + 33) = (secL s).toArray := by
  have := length_secL h
  apply Array.ext'
  simp only [List.extract_toArray, List.extract_eq_take_drop]
  rw [List.drop_zero, List.take_of_length_le (by omega)]
theorem secL_le {s : Sec} (h : s.ok) : 0 + 33 ≤ (secL s).toArray.size := by
  have := length_secL h
  rw [List.size_toArray]; omega
theorem length_secsL {l : List Sec} (h : ∀ s ∈ l, s.ok) : (secsL l).length = 33 * l.length := by
  induction l with
  | nil => rfl
  | cons s r ih =>
    have hs := length_secL (h s (by simp))
    have hr := ih (fun t ht => h t (by simp [ht]))
    simp only [secsL, List.flatMap_cons, List.length_append, List.length_cons] at *
    omega
/-- the i-th sector's cells in the row of all -/
theorem secsL_at {l : List Sec} (h : ∀ s ∈ l, s.ok) {i : Nat} {s : Sec} (hi : l[i]? = some s) : ((secsL l).drop (i * 33)).take 33 = secL s := by
  induction l generalizing i with
  | nil => simp at hi
  | cons t r ih =>
    have ht := length_secL (h t (by simp))
    cases i with
    | zero =>
      simp at hi; subst hi
      simp only [secsL, List.flatMap_cons]
      rw [Nat.zero_mul, List.drop_zero, List.take_append_of_le_length (by omega), List.take_of_length_le (by omega)]
    | succ i =>
      have := ih (fun t ht => h t (by simp [ht])) (i := i) (by simpa using hi)
      simp only [secsL, List.flatMap_cons]
      rw [List.drop_append, List.drop_eq_nil_of_le (by omega), List.nil_append, show (i + 1) * 33 - (secL t).length = i * 33 by omega]
      exact this
theorem secsL_extract {l : List Sec} (h : ∀ s ∈ l, s.ok) {i : Nat} {s : Sec} (hi : l[i]? = some s) : (secsL l).toArray.extract (i * 33) (i * 33 + 33) = (secL s).toArray := by
  apply Array.ext'
  simp only [List.extract_toArray, List.extract_eq_take_drop]
  rw [show i * 33 + 33 - i * 33 = 33 by omega, secsL_at h hi]
/-- a sector written over in the row -/
theorem secsL_set {l : List Sec} (h : ∀ s ∈ l, s.ok) {i : Nat} (hi : i < l.length) {s : Sec} (hs : s.ok) : splice (secsL l).toArray (i * 33) (secL s) = (secsL (l.set i s)).toArray := by
  apply Array.ext'
  simp only [splice]
  rw [length_secL hs]
  induction l generalizing i with
  | nil => simp at hi
  | cons t r ih =>
    have ht := length_secL (h t (by simp))
    cases i with
    | zero =>
      simp only [secsL, List.flatMap_cons, List.set_cons_zero, Nat.zero_mul, List.take_zero, List.nil_append, Nat.zero_add]
      rw [List.drop_append, List.drop_eq_nil_of_le (by omega), List.nil_append, show 33 - (secL t).length = 0 by omega, List.drop_zero]
    | succ i =>
      have := ih (fun t ht => h t (by simp [ht])) (i := i) (by simpa using hi)
      simp only [secsL, List.flatMap_cons, List.set_cons_succ] at *
      rw [List.take_append, List.take_of_length_le (by omega), List.drop_append, List.drop_eq_nil_of_le (by omega), List.nil_append,
        show (i + 1) * 33 - (secL t).length = i * 33 by omega, show (i + 1) * 33 + 33 - (secL t).length = i * 33 + 33 by omega]
      simp only [List.append_assoc] at *
      rw [this]

abbrev tState : TypeId := 83
theorem u_state : ∃ fs, Tryd.prog.underlying tState = some (.struct fs) := ⟨_, Tryd.underlying83⟩
theorem sz_state : (Tryd.prog.info? tState).map (·.size) = some 33 := by kernel_rfl
theorem zero_state : (Tryd.prog.info? tState).map (·.zero) = some (some (secV Sec.zero)) := by kernel_rfl

/-- The disk's own state is sound. -/
structure Dk.ok (D : Dk) : Prop where
  len : D.sure.length ≤ 4096
  sure : ∀ s ∈ D.sure, s.ok
  pend : ∀ p ∈ D.pend, p.2.ok ∧ p.1 < D.sure.length
  keys : (D.pend.map (·.1)).Nodup
  fuse : -1 ≤ D.fuse ∧ D.fuse ≤ 9223372036854775807

/-- The disk D lies in the blocks p (its struct), s (its sectors), m (the map of what is pending). -/
structure DiskAt (w : World) (p s m : Nat) (D : Dk) : Prop where
  ok : D.ok
  head : w.heap[p]? = some (.cells #[.int .i64 D.fuse, .slice (some ⟨s, 0, none⟩) D.sure.length D.sure.length, .map (some m), .int .i64 D.writes] 58 (0, 0))
  sure : w.heap[s]? = some (.cells (secsL D.sure).toArray tState (0, 0))
  pend : MapIs w m (pendL D.pend)
  ne : p ≠ s ∧ p ≠ m ∧ s ≠ m

theorem DiskAt.keep {S : List Nat} {w w' : World} {p s m : Nat} {D : Dk} (h : DiskAt w p s m D) (hf : Fr S w w') (hp : p ∉ S) (hs : s ∉ S) (hm : m ∉ S) : DiskAt w' p s m D :=
  ⟨h.ok, hf.keep h.head hp, hf.keep h.sure hs, h.pend.keep hf hm, h.ne⟩
theorem DiskAt.keep0 {w w' : World} {p s m : Nat} {D : Dk} (h : DiskAt w p s m D) (hf : Fr [] w w') : DiskAt w' p s m D := h.keep hf (by simp) (by simp) (by simp)

theorem DiskAt.lt {w : World} {p s m : Nat} {D : Dk} (h : DiskAt w p s m D) : p < w.heap.size ∧ s < w.heap.size ∧ m < w.heap.size :=
  ⟨(Array.getElem?_eq_some_iff.1 h.head).1, (Array.getElem?_eq_some_iff.1 h.sure).1, h.pend.lt⟩
theorem Dk.is_ok {D : Dk} (h : D.ok) {i : Nat} (hi : i < D.sure.length) : (D.is i).ok := by
  unfold Dk.is
  cases hl : D.pend.lookup i with
  | some s =>
    obtain ⟨l1, l2, e, _⟩ := List.lookup_eq_some_iff.1 hl
    exact (h.pend (i, s) (by rw [e]; simp)).1
  | none =>
    simp only [Option.getD_none, List.getD_eq_getElem?_getD, List.getElem?_eq_getElem hi, Option.getD_some]
    exact h.sure _ (List.getElem_mem hi)
theorem lookup_pendL (l : List (Nat × Sec)) (i : Nat) : (pendL l).lookup (i : Int) = (l.lookup i).map secV := by
  induction l with
  | nil => rfl
  | cons q r ih =>
    obtain ⟨k, s⟩ := q
    simp only [pendL, List.map_cons, List.lookup_cons] at *
    by_cases hk : i = k
    · subst hk; simp
    · have h1 : ((i : Int) == (k : Int)) = false := beq_eq_false_iff_ne.2 (by omega)
      have h2 : (i == k) = false := by simpa using hk
      simp only [h1, h2]
      exact ih
theorem putL_pendL (l : List (Nat × Sec)) (i : Nat) (s : Sec) : putL (i : Int) (secV s) (pendL l) = pendL (putPend i s l) := by
  induction l with
  | nil => rfl
  | cons q r ih =>
    obtain ⟨k, t⟩ := q
    simp only [pendL, List.map_cons, putL, putPend] at *
    by_cases hk : i = k
    · subst hk; simp
    · have h1 : ¬ ((i : Int) = (k : Int)) := by omega
      have h2 : ¬ k = i := fun h => hk h.symm
      simp only [if_neg h1, if_neg h2, List.map_cons, ih]
end Gd
