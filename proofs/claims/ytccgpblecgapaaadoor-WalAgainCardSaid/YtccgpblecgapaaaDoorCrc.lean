/- The walks through package crc. -/
import Derived.Test.YtccgpblecgapaaaDoorBytes
import Derived.Laws.Bits128
set_option linter.unusedSimpArgs false
set_option linter.unusedVariables false
namespace Gd
open Go Go.Proofs Go.RowKit

theorem bits_xor_u32 (a b : Nat) (ha : a < 4294967296) (hb : b < 4294967296) : bits .xor .u32 (a : Int) (b : Int) = ((a ^^^ b : Nat) : Int) := by
  have hx : a ^^^ b < 4294967296 := Nat.xor_lt_two_pow (n := 32) ha hb
  show IntKind.u32.wrap ((BitVec.ofInt 32 (a : Int) ^^^ BitVec.ofInt 32 (b : Int)).toNat : Nat) = _
  rw [BitVec.toNat_xor, BitVec.toNat_ofInt, BitVec.toNat_ofInt]
  have e1 : (((a : Int) % ((2 ^ 32 : Nat) : Int)).toNat) = a := by omega
  have e2 : (((b : Int) % ((2 ^ 32 : Nat) : Int)).toNat) = b := by omega
  rw [e1, e2]
  show ((a ^^^ b : Nat) : Int) % 4294967296 = _
  omega
theorem bits_and1_u32 (a : Nat) (ha : a < 4294967296) : bits .and .u32 (a : Int) 1 = ((a % 2 : Nat) : Int) := by
  have h1 : (BitVec.ofInt 32 1).toNat = 2 ^ 1 - 1 := by decide
  show IntKind.u32.wrap ((BitVec.ofInt 32 (a : Int) &&& BitVec.ofInt 32 1).toNat : Nat) = _
  rw [BitVec.toNat_and, BitVec.toNat_ofInt, h1, Nat.and_two_pow_sub_one_eq_mod]
  have e1 : (((a : Int) % ((2 ^ 32 : Nat) : Int)).toNat) = a := by omega
  rw [e1]
  show (((a % 2 ^ 1 : Nat) : Nat) : Int) % 4294967296 = _
  omega

theorem bits_not_u32 (x : Nat) (hx : x < 4294967296) : bits .xor .u32 IntKind.u32.max (x : Int) = ((4294967295 - x : Nat) : Int) := by
  have hall : BitVec.ofInt 32 IntKind.u32.max = BitVec.allOnes 32 := by decide
  show IntKind.u32.wrap ((BitVec.ofInt 32 IntKind.u32.max ^^^ BitVec.ofInt 32 (x : Int)).toNat : Nat) = _
  rw [hall, BitVec.allOnes_xor, BitVec.toNat_not, BitVec.toNat_ofInt]
  have e1 : (((x : Int) % ((2 ^ 32 : Nat) : Int)).toNat) = x := by omega
  rw [e1]
  show (((2 ^ 32 - 1 - x : Nat) : Nat) : Int) % 4294967296 = _
  omega
theorem crcBit_lt {x : Nat} (h : x < 4294967296) : crcBit x < 4294967296 := by
  unfold crcBit
  have h2 : (x % 2) * 3988292384 < 4294967296 := by omega
  exact Nat.xor_lt_two_pow (n := 32) (by omega) h2
def crcBits : Nat → Nat → Nat
  | 0, x => x
  | k + 1, x => crcBit (crcBits k x)
theorem crcBits_lt {x : Nat} (h : x < 4294967296) : ∀ k, crcBits k x < 4294967296
  | 0 => h
  | k + 1 => crcBit_lt (crcBits_lt h k)
theorem crcOne_eq (x : Nat) (c : UInt8) : crcOne x c = crcBits 8 (x ^^^ c.toNat) := by
  simp [crcOne, crcBits, List.range_succ]
theorem crcOne_lt {x : Nat} (h : x < 4294967296) (c : UInt8) : crcOne x c < 4294967296 := by
  rw [crcOne_eq]
  exact crcBits_lt (Nat.xor_lt_two_pow (n := 32) h (by have := c.toNat_lt; omega)) 8
theorem crcRaw_lt {x : Nat} (h : x < 4294967296) : ∀ b : Bytes, crcRaw x b < 4294967296 := by
  intro b
  induction b generalizing x with
  | nil => exact h
  | cons c r ih => exact ih (crcOne_lt h c)
theorem crcMore_lt (s : Nat) (b : Bytes) : crcMore s b < 4294967296 := by unfold crcMore; omega
theorem crcOf_lt (l : List Bytes) : crcOf l < 4294967296 := by
  unfold crcOf
  have : ∀ (l : List Bytes) (s : Nat), s < 4294967296 → l.foldl crcMore s < 4294967296 := by
    intro l
    induction l with
    | nil => exact fun _ h => h
    | cons a r ih => exact fun s _ => ih _ (crcMore_lt s a)
  exact this l 0 (by decide)

set_option maxHeartbeats 400000 in
theorem crc_one (w : World) (x : Nat) (hx : x < 4294967296) (c : UInt8) :
    Calls Tryd.prog 78 #[.int .u32 x, .int .u8 c.toNat] w fun e w' => e = .returned (.int .u32 (crcOne x c)) ∧ w = w' := by
  have hc := c.toNat_lt
  have hxc : x ^^^ c.toNat < 4294967296 := Nat.xor_lt_two_pow (n := 32) hx (by omega)
  have hb := bits_xor_u32 x c.toNat hx (by omega)
  have HC := Lib.hid (crcOne_eq x c)
  go_enter Tryd.func78, Tryd.ntmps78
  go_wp2
  obtain ⟨X, hX⟩ : ∃ X, X = x ^^^ c.toNat := ⟨_, rfl⟩
  rw [← hX] at hxc HC ⊢
  clear hb hX hc hx
  go_loop [0, 10] (fun x i => ∃ k : Nat, k ≤ 8 ∧ i = .int .i64 k ∧ x = .int .u32 (crcBits k X)) (fun _ i => 8 - (intOf i).toNat)
  case atStart => exact ⟨0, by omega, rfl, rfl⟩
  case round =>
    obtain ⟨k, hk, rfl, rfl⟩ := hrel
    have hy := crcBits_lt hxc k
    have hs : crcBits (k + 1) X = (crcBits k X / 2) ^^^ ((crcBits k X % 2) * 3988292384) := rfl
    have HS := Lib.hid hs
    obtain ⟨y, hyk⟩ : ∃ y, y = crcBits k X := ⟨_, rfl⟩
    rw [← hyk] at hy HS ⊢
    have HY := Lib.hid hyk
    clear hs hyk
    have ha := bits_and1_u32 y hy
    have hx := bits_xor_u32 (y / 2) (y % 2 * 3988292384) (by omega) (by omega)
    rw [show (((y / 2 : Nat)) : Int) = (y : Int) / 2 by omega, show ((y % 2 * 3988292384 : Nat) : Int) = (y : Int) % 2 * 3988292384 by omega] at hx
    have HX := Lib.hid hx
    clear hx
    by_cases hlt : k < 8
    · go_wp2
      exact ⟨⟨k + 1, by omega, by go_num, by rw [HS.out, HX.out]⟩, by simp [intOf]; omega⟩
    · go_wp2
      go_ret
      have h8 : k = 8 := by omega
      exact ⟨by rw [HC.out, HY.out, h8]; rfl, rfl⟩

theorem crcRaw_snoc (x : Nat) (b : Bytes) (k : Nat) (hk : k < b.length) : crcRaw x (b.take (k + 1)) = crcOne (crcRaw x (b.take k)) b[k] := by
  unfold crcRaw
  rw [List.take_succ_eq_append_getElem hk, List.foldl_append]
  rfl

/-- a sum of one part more: the loop of 'More' -/
theorem crcMore_def (x : Nat) (b : Bytes) : crcMore x b = 4294967295 - crcRaw (4294967295 - x) b := rfl

set_option maxHeartbeats 400000 in
theorem crc_More (w : World) (x : Nat) (hx : x < 4294967296) {v : Value} {b : Bytes} (hb : BS w v b) :
    Calls Tryd.prog 70 #[.int .u32 x, v] w fun e w' => e = .returned (.int .u32 (crcMore x b)) ∧ w = w' := by
  obtain ⟨ad, cap, rfl, hc1, hc2⟩ := hb.shape
  unfold maxLen at hc2
  have hn := bits_not_u32 x hx
  have HD := Lib.hid (crcMore_def x b)
  obtain ⟨X, hX⟩ : ∃ X, X = 4294967295 - x := ⟨_, rfl⟩
  rw [← hX] at hn HD
  have hXl : X < 4294967296 := by omega
  clear hX
  go_enter Tryd.func70, Tryd.ntmps70
  go_wp2
  clear hn
  go_loop [5, 12] (fun x i => ∃ k : Nat, k ≤ b.length ∧ i = .int .i64 k ∧ x = .int .u32 (crcRaw X (b.take k))) (fun _ i => b.length - (intOf i).toNat)
  case atStart => exact ⟨0, by omega, rfl, by simp [crcRaw]⟩
  case round =>
    obtain ⟨k, hk, rfl, rfl⟩ := hrel
    have hy := crcRaw_lt hXl (b.take k)
    by_cases hlt : k < b.length
    · obtain ⟨g, off, rfl, hcell⟩ := hb.cellAt hlt
      have HS := Lib.hid (crcRaw_snoc X b k hlt)
      obtain ⟨y, hyk⟩ : ∃ y, y = crcRaw X (b.take k) := ⟨_, rfl⟩
      rw [← hyk] at hy HS ⊢
      clear hyk hb
      go_wp2_with (go_at_call 78; refine (crc_one _ y hy _).mono ?_; rintro e w' ⟨rfl, rfl⟩)
      exact ⟨⟨k + 1, by omega, by go_num, by rw [HS.out]⟩, by simp [intOf]; omega⟩
    · have hkl : k = b.length := by omega
      have hn2 := bits_not_u32 (crcRaw X (b.take k)) hy
      go_wp2
      go_ret
      refine ⟨?_, rfl⟩
      rw [HD.out]
      have ht : b.take k = b := by rw [hkl]; exact List.take_length
      rw [ht] at hn2
      simp [ht]
      exact hn2
end Gd
