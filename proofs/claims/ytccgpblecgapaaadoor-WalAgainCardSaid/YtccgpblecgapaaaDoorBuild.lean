/- 'state{bytes, n}' built of its parts. -/
import Derived.Test.YtccgpblecgapaaaDoorBytes
set_option linter.unusedSimpArgs false
set_option linter.unusedVariables false
namespace Gd
open Go Go.Proofs

theorem splice_cons (cells : Array Value) (off : Nat) (v : Value) (vs : List Value) (h : off + (vs.length + 1) ≤ cells.size) : splice (cells.setIfInBounds off v) (off + 1) vs = splice cells off (v :: vs) := by
  apply Array.ext'
  simp only [splice, Array.toList_setIfInBounds, List.length_cons]
  have hlen : off < cells.toList.length := by simp; omega
  rw [List.take_set, List.drop_set, if_pos (by omega), show off + 1 + vs.length = off + (vs.length + 1) by omega]
  congr 1
  have h1 : (cells.toList.take (off + 1)).set off v = cells.toList.take off ++ [v] := by
    rw [List.set_eq_take_append_cons_drop, if_pos (by rw [List.length_take]; omega), List.take_take, List.drop_eq_nil_of_le (by rw [List.length_take]; omega)]
    rw [show min off (off + 1) = off by omega]
  rw [h1]; simp

theorem fill_foldl (off : Nat) : ∀ (vs : List Value) (k : Nat) (cells : Array Value), off + k + vs.length ≤ cells.size →
    (vs.zipIdx k).foldl (fun cs p => cs.setIfInBounds (off + p.2) p.1) cells = splice cells (off + k) vs
  | [], k, cells, h => by apply Array.ext'; simp [splice]
  | v :: vs, k, cells, h => by
    simp only [List.length_cons] at h
    rw [List.zipIdx_cons, List.foldl_cons, fill_foldl off vs (k + 1) _ (by simp; omega), ← splice_cons cells (off + k) v vs (by omega)]
    rfl

theorem fill_at (off : Nat) (vs : List Value) (cells : Array Value) (h : off + vs.length ≤ cells.size) :
    vs.toArray.zipIdx.foldl (fun cs p => cs.setIfInBounds (off + p.2) p.1) cells = splice cells off vs := by
  rw [← Array.foldl_toList]
  have := fill_foldl off vs 0 cells (by omega)
  simpa using this

theorem fill_step {place : Nat → Option (Nat × Nat)} {i off sz : Nat} {cells : Array Value} {v : Value} {rest : List (Nat × Value)} (hp : place i = some (off, sz)) (hv : v.cells.size = sz) (hc : off + sz ≤ cells.size) :
    Instr.fill place cells ((i, v) :: rest) = Instr.fill place (splice cells off v.cells.toList) rest := by
  simp only [Instr.fill, hp]
  rw [if_neg (by simp [hv]; omega)]
  have := fill_at off v.cells.toList cells (by rw [Array.length_toList, hv]; exact hc)
  rw [Array.toArray_toList] at this
  rw [this]

theorem info_state : ∃ inf, Tryd.prog.info? tState = some inf ∧ inf.zero = some (secV Sec.zero) ∧ inf.size = 33 := by
  have h1 := zero_state; have h2 := sz_state
  cases hq : Tryd.prog.info? tState with
  | none => simp [hq] at h1
  | some inf => simp [hq] at h1 h2; exact ⟨inf, rfl, h1, h2⟩
theorem state_places (w : World) : ∃ fs, Tryd.prog.underlying tState = some (.struct fs) ∧ (fs.mapM fun f => do pure (f.offset, ← Go.sizeOf f.type) : Sem _).run Tryd.prog w = .ok #[(0, 32), (32, 1)] w :=
  ⟨_, Tryd.underlying83, by kernel_rfl⟩

theorem run_build_state (w : World) {b : Bytes} (hb : b.length = 32) (n : Int) :
    (Instr.build tState #[(0, .agg (bcells b).toArray), (1, .int .i64 n)]).run Tryd.prog w = .ok (.agg (secL ⟨b, n⟩).toArray) w := by
  have hlz : (secL Sec.zero).length = 33 := by decide
  have e3 : splice (splice (secL Sec.zero).toArray 0 (bcells b)) 32 [.int .i64 n] = (secL ⟨b, n⟩).toArray := by
    apply Array.ext'
    have hl : (bcells b).length = 32 := by simp [hb]
    have h33 : (List.drop 33 (bcells b ++ List.drop 32 (secL Sec.zero))) = [] := List.drop_eq_nil_of_le (by rw [List.length_append, List.length_drop]; omega)
    simp only [splice, List.length_cons, List.length_nil, List.take_zero, List.nil_append, Nat.zero_add, hl, secL] at h33 ⊢
    rw [List.take_append_of_le_length (by omega), List.take_of_length_le (by omega), h33, List.append_nil]
  obtain ⟨inf, i1, i2, i3⟩ := info_state
  obtain ⟨fs, u1, u2⟩ := state_places w
  have hz : (zeroValue tState).run Tryd.prog w = .ok (secV Sec.zero) w := by simp [zeroValue, typeInfo, i1, i2]
  unfold Instr.build
  simp only [Sem.run_bind, hz, Result.andThen_ok, run_underlying u1 w, u2]
  have hf : Instr.fill (fun x => (#[((0 : Nat), (32 : Nat)), (32, 1)] : Array (Nat × Nat))[x]?) (secL Sec.zero).toArray [(0, .agg (bcells b).toArray), (1, .int .i64 n)] = some (secL ⟨b, n⟩).toArray := by
    have hs0 : (secL Sec.zero).toArray.size = 33 := by simpa using hlz
    have hsp : (splice (secL Sec.zero).toArray 0 (bcells b)).size = 33 := by rw [size_splice (by simp [hb]; omega)]; exact hs0
    rw [fill_step (off := 0) (sz := 32) rfl (by simp [Value.cells, hb]) (by omega)]
    show Instr.fill _ (splice (secL Sec.zero).toArray 0 (bcells b)) _ = _
    rw [fill_step (off := 32) (sz := 1) rfl rfl (by omega)]
    exact congrArg some e3
  simp only [secV, Value.cells]
  rw [hf]
  rfl
end Gd
