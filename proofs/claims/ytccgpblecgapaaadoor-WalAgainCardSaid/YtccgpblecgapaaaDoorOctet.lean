/- Bytes made, copied, stored; the walks through package octet. -/
import Derived.Test.YtccgpblecgapaaaDoorCrc
import Derived.Test.YtccgpblecgapaaaDoorDraw
set_option linter.unusedSimpArgs false
set_option linter.unusedVariables false
namespace Gd
open Go Go.Proofs Go.RowKit

theorem madeB (n : Nat) : (madeCells (Value.int .u8 0).cells (n * 1)).toList = bcells (List.replicate n 0) := by
  apply List.ext_getElem?
  intro i
  simp only [madeCells, Nat.mul_one, Array.toList_map, Array.toList_range, List.getElem?_map, bcells_getElem?, List.getElem?_replicate]
  by_cases h : i < n
  · rw [List.getElem?_range h, if_pos h]
    have : i % (Value.int .u8 0).cells.size = 0 := Nat.mod_one i
    simp only [Option.map_some, this]
    rfl
  · rw [List.getElem?_eq_none (by simp; omega), if_neg h]; rfl

section laws
variable {ops : Array Oper} {rest : List Oper} {o : Oper} {a : Act} {w : World} {Q : Exit → Act → World → Prop}
theorem wpList_make_bytes (hgd : o.guard = none) (x y : Operand) (ho : o.op = .makeSlice tB x y) (n : Nat) {L C : Int} (hx : a.eval x = .int .i64 L) (hy : a.eval y = .int .i64 C) (hL : L = (n : Int)) (hC : C = (n : Int)) (hn : n ≤ 140737488355328)
    (h : ∀ b w', w.heap.size ≤ b → OB w.heap.size w' (.slice (some ⟨b, 0, none⟩) n n) (List.replicate n 0) → Fr [] w w' → wpList Tryd.prog ops Q rest (a.put o.dst (.slice (some ⟨b, 0, none⟩) n n)) w') : wpList Tryd.prog ops Q (o :: rest) a w := by
  obtain ⟨i, hi, hz0, hz1, hz2⟩ := info_b
  refine wpList_make_full w hgd x y tB ho w.heap.size tb i (.int .u8 0) 1 Tryd.underlying23 hi hz0 hz1 .i64 .i64 L C n hx hy hL hC (by rw [hz2]; omega) (by unfold maxLen; omega) (Nat.le_refl _) ?_
  intro w' h1 h2
  refine h _ w' (Nat.le_refl _) ?_ (Fr.of_grown h2)
  rw [madeB] at h1
  unfold OB
  simpa using h1

/-- 'copy(v, u)' where all of u fits -/
theorem wpList_copy_bytes (hgd : o.guard = none) (d s : Operand) (ho : o.op = .call { callee := .builtin .copy, args := #[d, s], argTypes := #[tB, tB] }) {B : Nat} {v u : Value} {X l : Bytes} (hd : a.eval d = v) (hs : a.eval s = u) (hv : OB B w v X) (hu : BS w u l) (hl : l.length ≤ X.length)
    (h : ∀ w', OB B w' v (l ++ X.drop l.length) → Fr v.ownBlock.toList w w' → wpList Tryd.prog ops Q rest (a.put o.dst (.int .i64 l.length)) w') : wpList Tryd.prog ops Q (o :: rest) a w := by
  have h5 : (Tryd.prog.info? tb).map (·.size) = some 1 := by kernel_rfl
  have fin : ∀ n w', (Builtin.copy_ #[tB, tB] o.type #[v, u]).run Tryd.prog w = .ok (goInt n) w' → (execOp a.eval o).run Tryd.prog w = .ok (.value (.int .i64 n)) w' := fun n w' hr =>
    exec_builtin (vs := #[v, u]) ho (by simp [hd, hs]) (fun cs => by simp only [builtin, Sem.run_bind, hr, Result.andThen_ok]; rfl)
  refine wpList_plain hgd fun K' hK => ?_
  rcases hu.out with ⟨ad0, rfl, rfl⟩ | ⟨g, off, cap, c, t, z, rfl, q2, q3, q4, q5⟩
  · have hr : (Builtin.copy_ #[tB, tB] o.type #[v, .slice ad0 0 0]).run Tryd.prog w = .ok (goInt 0) w := by
      obtain ⟨ad, cp, rfl, _⟩ := hv.bs.shape
      exact run_copy_none w tB tB o.type tb _ _ _ _ _ _ Tryd.underlying23 h5 (by show min 0 _ = 0; omega)
    unfold Oper.wp
    rw [fin 0 w hr]
    exact hK _ _ (h w (by simpa using hv) (Fr.refl _ _))
  · obtain ⟨hX0, hX | ⟨g', cap', cur, rfl, hX2, hX3, hX4, hX5, hX6, hX7⟩⟩ := hv
    · have hl0 : l = [] := List.eq_nil_of_length_eq_zero (by omega)
      subst hl0
      obtain ⟨rfl, hn0⟩ := hX
      have hr := run_copy_none (P := Tryd.prog) w tB tB o.type tb none (some ⟨g, off, none⟩) 0 0 0 cap Tryd.underlying23 h5 (by show min _ 0 = 0; omega)
      unfold Oper.wp
      rw [fin 0 w hr]
      have hXn : X = [] := List.eq_nil_of_length_eq_zero hn0
      subst hXn
      exact hK _ _ (h w (OB.nil B w) (Fr.refl _ _))
    · rw [Nat.mul_one] at hX0 hX6 hX7
      have hr := run_copy_row (P := Tryd.prog) w tB tB o.type tb g' 0 X.length cap' ⟨g, off, none⟩ l.length cap cur tb (bcells l) Tryd.underlying23 h5 hX3 (by rw [length_bcells]; show _ = min l.length X.length; omega)
        (fun j u hj => by
          rw [add_lit, cell_of_row w g (off + j) c t z q4]
          rw [bcells_getElem?] at hj
          cases hk : l[j]? with
          | none => simp [hk] at hj
          | some b => simp [hk] at hj; rw [q5 j b hk, hj]) (by rw [length_bcells]; omega) (bcells_oneCell l)
      unfold Oper.wp
      rw [length_bcells] at hr
      rw [fin _ _ hr]
      refine hK _ _ (h _ ⟨by simp, .inr ⟨g', cap', _, ?_, hX2, setRow_heap w g' cur _ tb (0, 0) hX3, ?_, hX5, ?_, ?_⟩⟩ (Fr.setRow w g' _))
      · have : (l ++ X.drop l.length).length = X.length := by simp; omega
        rw [this]
      · simp; omega
      · simp; omega
      · have hlX : (l ++ X.drop l.length).length = X.length := by simp; omega
        rw [Nat.mul_one, hlX, bcells_append]
        have hXc : cur.toList.take X.length = bcells X := hX7
        simp only [List.take_zero, List.nil_append, Nat.zero_add]
        have e : bcells (X.drop l.length) = (cur.toList.drop l.length).take (X.length - l.length) := by
          rw [← List.drop_take, hXc]; simp [bcells]
        rw [List.take_append, List.take_of_length_le (by rw [length_bcells]; exact hl), length_bcells, e]

theorem OB.set {B : Nat} {w : World} {b n cap : Nat} {X : Bytes} (h : OB B w (.slice (some ⟨b, 0, none⟩) n cap) X) (k : Nat) (c : UInt8) : OB B (w.setCell ⟨b, k, none⟩ (bv c)) (.slice (some ⟨b, 0, none⟩) n cap) (X.set k c) := by
  obtain ⟨hX0, hX | ⟨g', cap', cur, e, hX2, hX3, hX4, hX5, hX6, hX7⟩⟩ := h
  · cases hX.1
  · simp only [Value.slice.injEq, Option.some.injEq, Addr.mk.injEq, and_true] at e
    obtain ⟨rfl, rfl, rfl⟩ := e
    refine ⟨by simp, .inr ⟨b, cap, cur.setIfInBounds k (bv c), by simp, hX2, heap_setCell_same w b k _ _ _ hX3, by simpa using hX4, hX5, by simpa using hX6, ?_⟩⟩
    rw [Nat.mul_one] at hX7 ⊢
    simp only [List.length_set, Array.toList_setIfInBounds, bcells, List.map_set]
    rw [List.take_set, hX7]
    rfl
theorem OB.cellFree {B : Nat} {w : World} {b n cap : Nat} {X : Bytes} (h : OB B w (.slice (some ⟨b, 0, none⟩) n cap) X) {k : Nat} (hk : k < X.length) :
    w.cell? ⟨b, k, none⟩ = some (bv X[k]) ∧ w.frozen? ⟨b, k, none⟩ = false := by
  obtain ⟨g, off, e, hc⟩ := h.bs.cellAt hk
  simp only [Option.some.injEq, Addr.mk.injEq, and_true] at e
  obtain ⟨rfl, rfl⟩ := e
  obtain ⟨hX0, hX | ⟨g', cap', cur, e, hX2, hX3, r⟩⟩ := h
  · cases hX.1
  · simp only [Value.slice.injEq, Option.some.injEq, Addr.mk.injEq, and_true] at e
    obtain ⟨rfl, _⟩ := e
    exact ⟨by rw [Nat.zero_add] at hc; exact hc, freeOf hX3⟩
end laws

/-- after k stores -/
def behindTo (l : Bytes) (size n k : Nat) : Bytes := l ++ (be size n).take k ++ List.replicate (size - k) 0
theorem behindTo_step (l : Bytes) (size n k : Nat) (hk : k < size) : (behindTo l size n k).set (l.length + k) (UInt8.ofNat (n / 256 ^ (size - 1 - k))) = behindTo l size n (k + 1) := by
  have hb : (be size n)[k]? = some (UInt8.ofNat (n / 256 ^ (size - 1 - k))) := by simp [be, hk]
  unfold behindTo
  rw [List.append_assoc, List.set_append, if_neg (by omega), List.append_assoc, List.take_add_one, hb, show l.length + k - l.length = k by omega]
  congr 1
  have hlt : ((be size n).take k).length = k := by rw [List.length_take, length_be]; omega
  rw [List.set_append, if_neg (by omega), hlt, show k - k = 0 by omega, show size - k = (size - (k + 1)) + 1 by omega, List.replicate_succ, List.set_cons_zero]
  simp
theorem behindTo_len (l : Bytes) (size n k : Nat) (hk : k ≤ size) : (behindTo l size n k).length = l.length + size := by
  unfold behindTo; simp [length_be]; omega

theorem byte_of (n j : Nat) : Value.int .u8 ((n : Int) / 2 ^ (8 * j) % 256) = bv (UInt8.ofNat (n / 256 ^ j)) := by
  have h1 : (UInt8.ofNat (n / 256 ^ j)).toNat = n / 256 ^ j % 256 := by simp
  have h2 : (2 : Int) ^ (8 * j) = ((256 ^ j : Nat) : Int) := by
    rw [Int.pow_mul]
    have : (2 : Int) ^ 8 = 256 := by decide
    rw [this]
    simp
  unfold bv
  rw [h1, h2]
  congr 1
structure BehInv (w : World) (b : Nat) (l : Bytes) (size n : Nat) (W : World) (i : Value) : Prop where
  out : ∃ k : Nat, k ≤ size ∧ i = .int .i64 k ∧ OB w.heap.size W (.slice (some ⟨b, 0, none⟩) (l.length + size) (l.length + size)) (behindTo l size n k) ∧ Fr [] w W

set_option maxRecDepth 100000 in
set_option maxHeartbeats 400000 in
theorem octet_behind {w : World} {v : Value} {l : Bytes} (hv : BS w v l) (hl : l.length ≤ 70368744177664) (n size : Nat) (hn : n < 18446744073709551616) (hs : size ≤ 8) :
    Calls Tryd.prog 77 #[v, .int .u64 n, .int .i64 size] w (RetB w (l ++ be size n)) := by
  obtain ⟨ad, cap, rfl, hc1, hc2⟩ := hv.shape
  unfold maxLen at hc2
  go_enter Tryd.func77, Tryd.ntmps77
  go_wp2_with (first
    | (at_make; refine wpList_make_bytes rfl _ _ rfl (l.length + size) rfl rfl (by omega) (by omega) (by omega) ?_; intro b w1 hb1 O1 f1; have hv1 := hv.keep0 f1)
    | ((with_reducible show wpList _ _ _ (Oper.mk _ (Op.call (Call.mk (Callee.builtin _) _ _)) _ _ _ _ :: _) _ _); refine wpList_copy_bytes rfl _ _ rfl rfl rfl O1 hv1 (by simp) ?_; intro w2 O2 f2))
  have hO : OB w.heap.size w2 (.slice (some ⟨b, 0, none⟩) (l.length + size) (l.length + size)) (behindTo l size n 0) := by
    have : behindTo l size n 0 = l ++ (List.replicate (l.length + size) 0).drop l.length := by simp [behindTo]
    rw [this]; exact O2
  have hF : Fr [] w w2 := f1.then (show Fr [b] w1 w2 from f2) (by simp; omega)
  clear O1 O2 f1 f2 hv1
  go_loopw [19] (fun i W => BehInv w b l size n W i) (fun i _ => size - (intOf i).toNat)
  case atStart => exact ⟨0, by omega, rfl, hO, hF⟩
  case round =>
    obtain ⟨k, hk, rfl, hOk, hFk⟩ := hrel.out
    have hl2 := behindTo_len l size n k hk
    by_cases hlt : k < size
    · obtain ⟨hc0, hz⟩ := hOk.cellFree (k := l.length + k) (by omega)
      obtain ⟨u0, hc⟩ : ∃ u0, wr.cell? ⟨b, l.length + k, none⟩ = some u0 := ⟨_, hc0⟩
      clear hc0
      have HS := Lib.hid (behindTo_step l size n k hlt)
      clear hl2
      have hO' := hOk.set (l.length + k) (UInt8.ofNat (n / 256 ^ (size - 1 - k)))
      have hF' := hFk.then (Fr.cell wr b (l.length + k) (bv (UInt8.ofNat (n / 256 ^ (size - 1 - k))))) (by simp; omega)
      rw [HS.out] at hO'
      go_wp2
      rw [byte_of n (size - 1 - k)]
      exact ⟨⟨k + 1, by omega, by go_num, hO', hF'⟩, by simp [intOf]; omega⟩
    · have hks : k = size := by omega
      go_wp2
      go_ret
      refine ⟨_, rfl, ?_, hFk⟩
      have : behindTo l size n k = l ++ be size n := by rw [hks]; unfold behindTo; rw [List.take_of_length_le (by rw [length_be]; omega), Nat.sub_self]; simp
      rw [← this]; exact hOk

theorem octet_Int {w : World} {v : Value} {l : Bytes} (hv : BS w v l) (hl : l.length ≤ 70368744177664) (n : Nat) (hn : n < 9223372036854775808) :
    Calls Tryd.prog 69 #[v, .int .i64 n] w (RetB w (l ++ be 8 n)) := by
  go_enter Tryd.func69, Tryd.ntmps69
  go_wp2_with (go_at_call 77; refine (octet_behind hv hl n 8 (by omega) (by omega)).mono ?_; rintro e w' ⟨u, rfl, h1, h2⟩)
  go_ret
  exact ⟨_, rfl, h1, h2⟩

theorem be_drop (n many : Nat) (h : many ≤ 8) : (be 8 n).drop (8 - many) = be many n := by
  apply List.ext_getElem?
  intro i
  simp only [be, List.getElem?_drop, List.getElem?_map]
  by_cases hi : i < many
  · rw [List.getElem?_range (by omega), List.getElem?_range hi]
    simp only [Option.map_some]
    rw [show 8 - 1 - (8 - many + i) = many - 1 - i by omega]
  · rw [List.getElem?_eq_none (by simp; omega), List.getElem?_eq_none (by simp; omega)]
    rfl

/-- bytes of the call's own, though not from the head of their block -/
def RetS (w : World) (l : Bytes) (e : Ending) (w' : World) : Prop := ∃ v, e = .returned v ∧ BS w' v l ∧ (∀ g, v.ownBlock = some g → w.heap.size ≤ g) ∧ Fr [] w w'

theorem sheet_last (w : World) (n many : Nat) (hn : n < 9223372036854775808) (hm : many ≤ 8) :
    Calls Tryd.prog 58 #[.int .i64 n, .int .i64 many] w (RetS w (be many n)) := by
  go_enter Tryd.func58, Tryd.ntmps58
  go_wp2_with (first
    | (go_at_call 69; refine (octet_Int (BS.nil w) (by simp) n hn).mono ?_; rintro e w1 ⟨u, rfl, h1, f1⟩)
    | ((with_reducible show wpList _ _ _ (Oper.mk (some 9) _ _ _ _ _ :: _) _ _); refine wpList_slice_bytes rfl _ _ _ _ rfl rfl h1.bs (8 - many) 8 (by simp [VIs, Act.eval]; omega) (by simp [VIs, length_be]) (fun cap hc => ⟨cap, rfl, by simpa [length_be] using hc, Nat.le_refl _⟩) (fun h => by cases h) (by omega) (by simp [length_be]) ?_; intro ad cap hb ho))
  have he : (([] ++ be 8 n).take 8).drop (8 - many) = be many n := by
    rw [List.nil_append, List.take_of_length_le (by rw [length_be]; omega), be_drop n many hm]
  rw [he] at hb
  go_ret
  exact ⟨_, rfl, hb, fun g hg => h1.ge (ho g hg), f1⟩
end Gd
