/- disk.Crash. -/
import Derived.Test.YtccgpblecgapaaaDoorSrt
set_option linter.unusedSimpArgs false
set_option linter.unusedVariables false
namespace Gd
open Go Go.Proofs Go.RowKit

/-! ### the plain part -/
def Dk.keys (D : Dk) : List Nat := (D.pend.map (·.1)).mergeSort (fun x y => decide (x ≤ y))
def Dk.pendOf (D : Dk) (i : Nat) : Sec := (D.pend.lookup i).getD Sec.zero
def crashTo (D : Dk) (keep torn cut : Int) : Nat → List Sec
  | 0 => D.sure
  | k + 1 => (crashTo D keep torn cut k).set (D.keys.getD k 0) (survives (D.sure.getD (D.keys.getD k 0) Sec.zero) (D.pendOf (D.keys.getD k 0)) k keep torn cut)

section
variable {D : Dk}
theorem keys_perm (D : Dk) : D.keys.Perm (D.pend.map (·.1)) := List.mergeSort_perm _ _
theorem keys_length (D : Dk) : D.keys.length = D.pend.length := by simpa using (keys_perm D).length_eq
theorem keys_nodup (h : D.ok) : D.keys.Nodup := (keys_perm D).symm.nodup h.keys
theorem keys_sorted (h : D.ok) : D.keys.Pairwise (· < ·) := by
  have h1 : D.keys.Pairwise (fun a b => decide (a ≤ b) = true) := List.pairwise_mergeSort (fun a b c h1 h2 => by simp only [decide_eq_true_eq] at *; omega) (fun a b => by simp only [Bool.or_eq_true, decide_eq_true_eq]; omega) _
  have h2 := keys_nodup h
  refine (List.Pairwise.and h1 h2).imp (fun ⟨a, b⟩ => ?_)
  simp only [decide_eq_true_eq] at a
  omega
theorem keys_mem {i : Nat} : i ∈ D.keys ↔ ∃ t, (i, t) ∈ D.pend := by
  rw [(keys_perm D).mem_iff, List.mem_map]
  constructor
  · rintro ⟨⟨j, t⟩, h, rfl⟩; exact ⟨t, h⟩
  · rintro ⟨t, h⟩; exact ⟨_, h, rfl⟩
theorem crashTo_length (keep torn cut : Int) : ∀ k, (crashTo D keep torn cut k).length = D.sure.length
  | 0 => rfl
  | k + 1 => by simp [crashTo, crashTo_length keep torn cut k]
theorem keys_lt (h : D.ok) {k : Nat} (hk : k < D.keys.length) : D.keys[k] < D.sure.length := by
  obtain ⟨t, ht⟩ := keys_mem.1 (List.getElem_mem hk)
  exact (h.pend _ ht).2
/-- what a place holds after k steps -/
theorem crashTo_at (h : D.ok) (keep torn cut : Int) (i : Nat) : ∀ k, k ≤ D.keys.length → (crashTo D keep torn cut k)[i]? =
    if ∃ j, j < k ∧ D.keys[j]? = some i then (D.sure[i]?).map fun s => survives s (D.pendOf i) (D.rank i) keep torn cut else D.sure[i]?
  | 0, _ => by simp [crashTo]
  | k + 1, hk => by
    have ih := crashTo_at h keep torn cut i k (by omega)
    have hkl : k < D.keys.length := by omega
    have hg : D.keys.getD k 0 = D.keys[k] := by simp [List.getD_eq_getElem?_getD, List.getElem?_eq_getElem hkl]
    simp only [crashTo, hg]
    by_cases hi : D.keys[k] = i
    · have hex : ∃ j, j < k + 1 ∧ D.keys[j]? = some i := ⟨k, by omega, by rw [List.getElem?_eq_getElem hkl, hi]⟩
      rw [if_pos hex, hi]
      have hlt : i < D.sure.length := by rw [← hi]; exact keys_lt h hkl
      rw [List.getElem?_set_self (by rw [crashTo_length]; exact hlt), List.getElem?_eq_getElem hlt]
      simp only [Option.map_some, List.getD_eq_getElem?_getD, List.getElem?_eq_getElem hlt, Option.getD_some]
      have hr : D.rank i = k := by
        unfold Dk.rank
        have hp : (D.pend.filter (fun p => decide (p.1 < i))).length = (D.keys.filter (fun x => decide (x < i))).length := by
          have := ((keys_perm D).filter (fun x => decide (x < i))).length_eq
          rw [this, List.filter_map, List.length_map]
          rfl
        rw [hp]
        have hs := keys_sorted h
        have hsplit : D.keys = D.keys.take k ++ D.keys.drop k := (List.take_append_drop k D.keys).symm
        have h1 : (D.keys.take k).filter (fun x => decide (x < i)) = D.keys.take k := List.filter_eq_self.2 (fun x hx => by
          obtain ⟨j, hj, rfl⟩ := List.mem_iff_getElem.1 hx
          simp only [List.length_take] at hj
          rw [List.getElem_take]
          have := List.pairwise_iff_getElem.1 hs j k (by omega) hkl (by omega)
          simp only [decide_eq_true_eq]; omega)
        have h2 : (D.keys.drop k).filter (fun x => decide (x < i)) = [] := List.filter_eq_nil_iff.2 (fun x hx => by
          obtain ⟨j, hj, rfl⟩ := List.mem_iff_getElem.1 hx
          simp only [List.length_drop] at hj
          rw [List.getElem_drop]
          simp only [decide_eq_true_eq, Nat.not_lt]
          by_cases hj0 : j = 0
          · subst hj0; simp [hi]
          · have := List.pairwise_iff_getElem.1 hs k (k + j) hkl (by omega) (by omega)
            omega)
        rw [hsplit, List.filter_append, h1, h2, List.append_nil, List.length_take]
        omega
      rw [hr]
    · rw [List.getElem?_set_ne hi, ih]
      have : (∃ j, j < k ∧ D.keys[j]? = some i) ↔ (∃ j, j < k + 1 ∧ D.keys[j]? = some i) := by
        constructor
        · rintro ⟨j, h1, h2⟩; exact ⟨j, by omega, h2⟩
        · rintro ⟨j, h1, h2⟩
          refine ⟨j, ?_, h2⟩
          by_cases hjk : j = k
          · subst hjk
            rw [List.getElem?_eq_getElem hkl] at h2
            exact absurd (Option.some.inj h2) hi
          · omega
      simp only [this]
theorem crashTo_all (h : D.ok) (keep torn cut : Int) : crashTo D keep torn cut D.keys.length = D.settle (fun i s t => survives s t (D.rank i) keep torn cut) := by
  apply List.ext_getElem?
  intro i
  rw [crashTo_at h keep torn cut i _ (Nat.le_refl _)]
  unfold Dk.settle
  rw [List.getElem?_mapIdx]
  by_cases hex : ∃ j, j < D.keys.length ∧ D.keys[j]? = some i
  · rw [if_pos hex]
    obtain ⟨j, hj, hji⟩ := hex
    obtain ⟨t, ht⟩ := keys_mem.1 (List.mem_of_getElem? hji)
    have hl := lookup_of_mem h.keys ht
    simp [hl, Dk.pendOf]
  · rw [if_neg hex]
    have hl : D.pend.lookup i = none := by
      cases hl : D.pend.lookup i with
      | none => rfl
      | some t =>
        exfalso
        obtain ⟨j, hj⟩ := List.getElem?_of_mem (keys_mem.2 ⟨t, lookup_mem hl⟩)
        exact hex ⟨j, (List.getElem?_eq_some_iff.1 hj).1, hj⟩
    rw [hl]
    cases D.sure[i]? <;> rfl
theorem survives_ok {s t : Sec} (hs : s.ok) (ht : t.ok) (n : Nat) (keep torn cut : Int) : (survives s t n keep torn cut).ok := by
  unfold survives
  split
  · exact ht
  · split
    · rename_i h1 h2
      exact torn_ok hs ht _ (by omega)
    · split
      · exact ht
      · exact hs
theorem crashTo_ok (h : D.ok) (keep torn cut : Int) : ∀ k, k ≤ D.keys.length → ∀ s ∈ crashTo D keep torn cut k, s.ok
  | 0, _ => h.sure
  | k + 1, hk => fun s hs => by
    have hkl : k < D.keys.length := by omega
    rcases List.mem_or_eq_of_mem_set hs with h1 | rfl
    · exact crashTo_ok h keep torn cut k (by omega) s h1
    · refine survives_ok ?_ ?_ _ _ _ _
      · have hlt := keys_lt h hkl
        have hg : D.keys.getD k 0 = D.keys[k] := by simp [List.getD_eq_getElem?_getD, List.getElem?_eq_getElem hkl]
        rw [hg, List.getD_eq_getElem?_getD, List.getElem?_eq_getElem hlt]
        exact h.sure _ (List.getElem_mem hlt)
      · unfold Dk.pendOf
        have hg : D.keys.getD k 0 = D.keys[k] := by simp [List.getD_eq_getElem?_getD, List.getElem?_eq_getElem hkl]
        obtain ⟨t, ht⟩ := keys_mem.1 (List.getElem_mem hkl)
        rw [hg, lookup_of_mem h.keys ht]
        exact (h.pend _ ht).1
end

/-! ### the walk -/
theorem disk_survives {w : World} {s t : Sec} (hs : s.ok) (ht : t.ok) (number : Nat) (keep torn cut : Int) :
    Calls Tryd.prog 43 #[secV s, secV t, .int .i64 number, .int .i64 keep, .int .i64 torn, .int .i64 cut] w fun e w' => e = .returned (secV (survives s t number keep torn cut)) ∧ Fr [] w w' := by
  unfold survives
  by_cases h1 : (number : Int) = torn
  · by_cases h2 : 32 ≤ cut
    · rw [if_pos ⟨h1, h2⟩]; exact surv_a hs ht number keep torn cut h1 h2
    · rw [if_neg (fun h => h2 h.2), if_pos h1]; exact surv_b hs ht number keep torn cut h1 h2
  · rw [if_neg (fun h => h1 h.1), if_neg h1]
    by_cases h3 : number < 62 ∧ keepBit keep number = true
    · rw [if_pos h3]; exact surv_c hs ht number keep torn cut h1 h3.1 h3.2
    · rw [if_neg h3]; exact surv_d hs ht number keep torn cut h1 (fun h => by
        cases hb : keepBit keep number
        · rfl
        · exact absurd ⟨h, hb⟩ h3)
end Gd
