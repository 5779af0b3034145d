/- sheet: marked, number, Count; crc.Of. -/
import Derived.Test.YtccgpblecgapaaaDoorConcat
import Derived.IntWalk
set_option linter.unusedSimpArgs false
set_option linter.unusedVariables false
namespace Gd
open Go Go.Proofs Go.RowKit

theorem run_build2 (W : World) (a1 : Option Addr) (n1 c1 : Nat) (a2 : Option Addr) (n2 c2 : Nat) :
    (Instr.buildSlice 29 2 #[(0, .slice a1 n1 c1), (1, .slice a2 n2 c2)]).run Tryd.prog W = .ok (.slice (some ⟨W.heap.size, 0, none⟩) 2 2) (W.alloc (.cells #[.slice a1 n1 c1, .slice a2 n2 c2] tB)) := by
  kernel_rfl
theorem VS.pair (W : World) (x y : Value) : VS (W.alloc (.cells #[x, y] tB)) (.slice (some ⟨W.heap.size, 0, none⟩) 2 2) [x, y] :=
  ⟨.inr ⟨W.heap.size, 0, 2, _, _, _, rfl, by simp, by unfold maxLen; omega, Go.heap_alloc_new W _, fun i u h => by
    match i with
    | 0 => simpa using h
    | 1 => simpa using h
    | i + 2 => simp at h⟩⟩
theorem BSall.pair {w : World} {x y : Value} {b c : Bytes} (hx : BS w x b) (hy : BS w y c) : BSall w [x, y] [b, c] := .cons hx (.cons hy (.nil w))

/-- a concatenation of two -/
theorem Concat2 {W w : World} {a1 : Option Addr} {n1 c1 : Nat} {a2 : Option Addr} {n2 c2 : Nat} {b c : Bytes} (hw : W = w.alloc (.cells #[.slice a1 n1 c1, .slice a2 n2 c2] tB)) (hx : BS w (.slice a1 n1 c1) b) (hy : BS w (.slice a2 n2 c2) c) (hl : b.length + c.length ≤ 140737488355328) :
    Calls Tryd.prog 57 #[.slice (some ⟨w.heap.size, 0, none⟩) 2 2] W (RetB W (b ++ c)) := by
  subst hw
  have h := slices_Concat (VS.pair w _ _) ((BSall.pair hx hy).keep0 (Fr.alloc w _)) (by simpa [total] using hl)
  simpa using h

set_option maxHeartbeats 400000 in
theorem sheet_marked (w : World) (e q : Nat) (he : e < 9223372036854775808) (hq : q < 9223372036854775808) :
    Calls Tryd.prog 56 #[.int .i64 e, .int .i64 q] w (RetB w (mark e q)) := by
  obtain ⟨X, hX, hXl⟩ : ∃ X, X = be 4 e ∧ X.length = 4 := ⟨_, rfl, length_be _ _⟩
  obtain ⟨Y, hY, hYl⟩ : ∃ Y, Y = be 4 q ∧ Y.length = 4 := ⟨_, rfl, length_be _ _⟩
  have H1 : ∀ w, Calls Tryd.prog 58 #[.int .i64 e, .int .i64 4] w (RetS w (be 4 e)) := fun w => sheet_last w e 4 he (by omega)
  have H2 : ∀ w, Calls Tryd.prog 58 #[.int .i64 q, .int .i64 4] w (RetS w (be 4 q)) := fun w => sheet_last w q 4 hq (by omega)
  have HM : mark e q = X ++ Y := by rw [hX, hY]; rfl
  rw [HM]
  rw [← hX] at H1
  rw [← hY] at H2
  clear HM hX hY
  have HL := Lib.hid (And.intro hXl hYl)
  clear hXl hYl
  go_enter Tryd.func56, Tryd.ntmps56
  go_wp2_with (first
    | (go_at_call 58; (with_reducible refine Calls.mono (H1 w) ?_); rintro x w1 ⟨u, rfl, h1, h2, f1⟩; obtain ⟨a1, c1, rfl, _, _⟩ := h1.shape)
    | (go_at_call 58; (with_reducible refine Calls.mono (H2 w1) ?_); rintro x w2 ⟨u, rfl, h3, h4, f2⟩; obtain ⟨a2, c2, rfl, _, _⟩ := h3.shape; have hb := run_build2 w2 a1 X.length c1 a2 Y.length c2)
    | (go_at_call 57; refine (Concat2 rfl (h1.keep0 f2) h3 (by have := HL.out; omega)).mono ?_; rintro x w3 ⟨u, rfl, O, f3⟩))
  go_ret
  refine ⟨_, rfl, O.mono ?_, ((f1.trans f2).trans (Fr.alloc _ _)).trans f3⟩
  have := (f1.trans f2).size
  simp; omega

theorem crcOf_take (L : List Bytes) (k : Nat) (hk : k < L.length) : crcOf (L.take (k + 1)) = crcMore (crcOf (L.take k)) L[k] := by
  unfold crcOf
  rw [take_snoc L k hk, List.foldl_append]
  rfl

set_option maxHeartbeats 400000 in
theorem crc_Of {w : World} {v : Value} {us : List Value} {L : List Bytes} (hv : VS w v us) (hL : BSall w us L) :
    Calls Tryd.prog 59 #[v] w fun e w' => e = .returned (.int .u32 (crcOf L)) ∧ w = w' := by
  obtain ⟨ad, cap, rfl, hc1, hc2⟩ := hv.shape
  unfold maxLen at hc2
  have hul := hL.1
  have Hul := Lib.hid hul
  rw [hul] at hc1 ⊢
  clear hul
  go_enter Tryd.func59, Tryd.ntmps59
  go_wp2
  go_loop [3, 8] (fun x i => ∃ k : Nat, k ≤ L.length ∧ i = .int .i64 k ∧ x = .int .u32 (crcOf (L.take k))) (fun _ i => L.length - (intOf i).toNat)
  case atStart => exact ⟨0, by omega, rfl, by simp [crcOf]⟩
  case round =>
    obtain ⟨k, hk, rfl, rfl⟩ := hrel
    have hy := crcOf_lt (L.take k)
    by_cases hlt : k < L.length
    · have hku : k < us.length := by rw [Hul.out]; exact hlt
      obtain ⟨g, off, rfl, hcell⟩ := hv.cellAt hku
      have hbk := hL.2 k _ _ (List.getElem?_eq_getElem hku) (List.getElem?_eq_getElem hlt)
      have HS := Lib.hid (crcOf_take L k hlt)
      obtain ⟨y, hyk⟩ : ∃ y, y = crcOf (L.take k) := ⟨_, rfl⟩
      rw [← hyk] at hy HS ⊢
      clear hyk hv hL
      go_wp2_with (go_at_call 70; refine (crc_More _ y hy hbk).mono ?_; rintro e w' ⟨rfl, rfl⟩)
      exact ⟨⟨k + 1, by omega, by go_num, by rw [HS.out]⟩, by simp [intOf]; omega⟩
    · have hkl : k = L.length := by omega
      have ht : L.take k = L := by rw [hkl]; exact List.take_length
      rw [ht] at hy ⊢
      clear ht
      go_wp2
      go_ret
      exact ⟨rfl, rfl⟩

/-! ### numbers back -/
theorem val_snoc (b : Bytes) (k : Nat) (hk : k < b.length) : val (b.take (k + 1)) = val (b.take k) * 256 + b[k].toNat := by
  unfold val
  rw [take_snoc b k hk, List.foldl_append]
  rfl
theorem foldl_val_lt (b : Bytes) : ∀ n k, n < 256 ^ k → b.foldl (fun n c => n * 256 + c.toNat) n < 256 ^ (k + b.length) := by
  induction b with
  | nil => intro n k h; exact h
  | cons c b ih =>
    intro n k h
    have hc := c.toNat_lt
    have := ih (n * 256 + c.toNat) (k + 1) (by rw [Nat.pow_succ]; omega)
    rw [List.foldl_cons, List.length_cons, show k + (b.length + 1) = k + 1 + b.length by omega]
    exact this
theorem val_lt (b : Bytes) : val b < 256 ^ b.length := by
  have := foldl_val_lt b 0 0 (by omega)
  rwa [Nat.zero_add] at this
theorem wrap64_u8 (c : UInt8) : wrap64 (c.toNat : Int) = (c.toNat : Int) := by
  have := c.toNat_lt
  exact IntWalk.wrap64_in _ (by omega)
theorem bits_or_join (y : Nat) (c : UInt8) (hy : y < 256 ^ 3) : bits .or .i64 ((y : Int) * 256) (wrap64 (c.toNat : Int)) = ((y * 256 + c.toNat : Nat) : Int) := by
  have hc := c.toNat_lt
  rw [wrap64_u8]
  have e : y * 256 ||| c.toNat = y * 256 + c.toNat := by
    have := Nat.shiftLeft_add_eq_or_of_lt (i := 8) (b := c.toNat) (by omega) y
    rw [Nat.shiftLeft_eq] at this
    exact this.symm
  show IntKind.i64.wrap ((BitVec.ofInt 64 ((y : Int) * 256) ||| BitVec.ofInt 64 (c.toNat : Int)).toNat : Nat) = _
  rw [BitVec.toNat_or, BitVec.toNat_ofInt, BitVec.toNat_ofInt]
  have e1 : ((((y : Int) * 256) % ((2 ^ 64 : Nat) : Int)).toNat) = y * 256 := by omega
  have e2 : (((c.toNat : Int) % ((2 ^ 64 : Nat) : Int)).toNat) = c.toNat := by omega
  rw [e1, e2, e]
  have h1 : (0 : Int) ≤ ((y * 256 + c.toNat : Nat) : Int) := by omega
  have h2 : ((y * 256 + c.toNat : Nat) : Int) < 4294967296 := by omega
  generalize ((y * 256 + c.toNat : Nat) : Int) = z at h1 h2
  simp [IntKind.wrap, IntKind.bits, IntKind.signed]
  omega

set_option maxHeartbeats 400000 in
theorem sheet_number {w : World} {v : Value} {b : Bytes} (hb : BS w v b) (hl : b.length ≤ 4) :
    Calls Tryd.prog 49 #[v] w fun e w' => e = .returned (.int .i64 (val b)) ∧ w = w' := by
  obtain ⟨ad, cap, rfl, hc1, hc2⟩ := hb.shape
  unfold maxLen at hc2
  go_enter Tryd.func49, Tryd.ntmps49
  go_wp2
  go_loop [3, 8] (fun x i => ∃ k : Nat, k ≤ b.length ∧ i = .int .i64 k ∧ x = .int .i64 (val (b.take k))) (fun _ i => b.length - (intOf i).toNat)
  case atStart => exact ⟨0, by omega, rfl, by simp [val]⟩
  case round =>
    obtain ⟨k, hk, rfl, rfl⟩ := hrel
    by_cases hlt : k < b.length
    · obtain ⟨g, off, rfl, hcell⟩ := hb.cellAt hlt
      have HS := Lib.hid (val_snoc b k hlt)
      have hy : val (b.take k) < 256 ^ 3 := by
        have h1 := val_lt (b.take k)
        have : (b.take k).length ≤ 3 := by simp; omega
        exact Nat.lt_of_lt_of_le h1 (Nat.pow_le_pow_right (by omega) this)
      obtain ⟨y, hyk⟩ : ∃ y, y = val (b.take k) := ⟨_, rfl⟩
      rw [← hyk] at hy HS ⊢
      clear hyk hb
      have HB := Lib.hid (bits_or_join y b[k] hy)
      go_wp2
      exact ⟨⟨k + 1, by omega, by go_num, by rw [HS.out, HB.out]⟩, by simp [intOf]; omega⟩
    · have hkl : k = b.length := by omega
      have ht : b.take k = b := by rw [hkl]; exact List.take_length
      rw [ht]
      clear ht
      go_wp2
      go_ret
      exact ⟨rfl, rfl⟩
end Gd
