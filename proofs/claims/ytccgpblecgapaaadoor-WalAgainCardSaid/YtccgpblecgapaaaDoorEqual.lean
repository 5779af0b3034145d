/- bytes.Equal; sheet.Count. -/
import Derived.Test.YtccgpblecgapaaaDoorSum
import Derived.Laws.BytesArg
set_option linter.unusedSimpArgs false
set_option linter.unusedVariables false
namespace Gd
open Go Go.Proofs Go.RowKit

theorem strOf_bytes (l : Bytes) : strOfNums (l.map fun c => (c.toNat : Int)) = ⟨l.toArray⟩ := by
  unfold strOfNums
  congr 2
  rw [List.map_map]
  conv => rhs; rw [← List.map_id l]
  apply List.map_congr_left
  intro c _
  simp
theorem run_conv_bytes {w : World} {v : Value} {l : Bytes} (h : BS w v l) : (convert tB 9 v).run Tryd.prog w = .ok (.string ⟨l.toArray⟩) w := by
  rcases h.out with ⟨ad, rfl, rfl⟩ | ⟨g, off, cap, c, t, z, rfl, h2, h3, h4, h5⟩
  · cases ad with
    | some ad =>
      rw [run_convert_bytes_string w tB 9 tb _ 0 0 Tryd.underlying23 Tryd.underlying5 Tryd.underlying9]
      simp [Conv.bytesToString]
      rfl
    | none => exact run_convert_bytes_nil w tB tb Tryd.underlying23 Tryd.underlying5 0 0 9 Tryd.underlying9
  · rw [← strOf_bytes]
    refine run_convert_bytes_arg (P := Tryd.prog) w tB tb Tryd.underlying23 Tryd.underlying5 g off l.length cap (l.map fun c => (c.toNat : Int)) (by simp) (fun i hi => ?_) 9 Tryd.underlying9
    rw [cell_of_row w g (off + i) c t z h4, h5 i l[i] (List.getElem?_eq_getElem hi)]
    simp [bv, List.getD, hi]

theorem bytes_Equal {w : World} {v u : Value} {l k : Bytes} (h1 : BS w v l) (h2 : BS w u k) :
    Calls Tryd.prog 51 #[v, u] w fun e w' => e = .returned (.bool (decide (l = k))) ∧ w = w' := by
  have c1 := run_conv_bytes h1
  have c2 := run_conv_bytes h2
  go_enter Tryd.func51, Tryd.ntmps51
  go_wp2
  go_ret
  have : (l == k) = decide (l = k) := by
    by_cases h : l = k
    · subst h; simp
    · simp [h]
  rw [← this]
  exact ⟨rfl, rfl⟩

theorem sheet_Count (w : World) (n : Nat) (hn : n ≤ 65535) : Calls Tryd.prog 39 #[.int .i64 n] w fun e w' => e = .returned (.int .i64 (cnt n)) ∧ w = w' := by
  go_enter Tryd.func39, Tryd.ntmps39
  go_wp2
  go_ret
  refine ⟨?_, rfl⟩
  have : ((n : Int) + 6 - 1) / 24 + 1 = (cnt n : Nat) := by unfold cnt; omega
  rw [← this]
  rfl
theorem sheet_Count_big (w : World) (n : Nat) (hn : 65535 < n) (hn2 : n < 9223372036854775808) : Calls Tryd.prog 39 #[.int .i64 n] w fun e w' => e = .returned (.int .i64 0) ∧ w = w' := by
  go_enter Tryd.func39, Tryd.ntmps39
  go_wp2
  go_ret
  exact ⟨rfl, rfl⟩
end Gd
