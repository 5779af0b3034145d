/- wal: extent.read. -/
import Derived.Test.YtccgpblecgapaaaDoorBuf
set_option linter.unusedSimpArgs false
set_option linter.unusedVariables false
namespace Gd
open Go Go.Proofs Go.RowKit

theorem DiskAt.below {B : Nat} {w w' : World} {p s m : Nat} {D : Dk} (h : DiskAt w p s m D) (hb : RowKit.Below B w w') (hp : p < B) (hs : s < B) (hm : m < B) : DiskAt w' p s m D := by
  obtain ⟨es, clock, h1, h2⟩ := h.pend.out
  exact ⟨h.ok, (hb.block p hp).trans h.head, (hb.block s hs).trans h.sure, ⟨es, clock, (hb.block m hm).trans h1, h2⟩, h.ne⟩

theorem Buf.keep0 {B b : Nat} {l : Bytes} {w w' : World} (h : Buf B b l w) (hf : Fr [] w w') : Buf B b l w' := by
  obtain ⟨h1, v, lr, h2, h3, h4⟩ := h
  have h5 : OB B w v l := by unfold OB; simpa [bcells] using h3
  have h6 := h5.keep0 hf
  refine ⟨h1, v, lr, hf.keep h2 (by simp), ?_, h4⟩
  unfold OB at h6
  simpa [bcells] using h6
theorem Buf.lt {B b : Nat} {l : Bytes} {w : World} (h : Buf B b l w) : b < w.heap.size := Lib.IsBuffer.lt h
theorem read_snoc (D : Dk) (a k : Nat) : D.read a (a + (k + 1)) = D.read a (a + k) ++ (D.is (a + k)).bytes := by
  unfold Dk.read
  rw [show a + (k + 1) - a = k + 1 by omega, show a + k - a = k by omega, List.range_succ, List.map_append, List.flatten_append]
  simp
theorem length_read {D : Dk} (h : D.ok) (a : Nat) : ∀ k, a + k ≤ D.sure.length → (D.read a (a + k)).length = 32 * k
  | 0, _ => by simp [Dk.read]
  | k + 1, hk => by
    rw [read_snoc, List.length_append, length_read h a k (by omega), show (D.is (a + k)).bytes.length = 32 from Dk.is_ok h (by omega)]
    omega

structure ReadInv (w0 : World) (B b : Nat) (D : Dk) (from_ to : Nat) (W : World) (i : Value) : Prop where
  out : ∃ k : Nat, from_ + k ≤ to ∧ i = .int .i64 (from_ + k : Nat) ∧ Buf B b (D.read from_ (from_ + k)) W ∧ RowKit.Below B w0 W

set_option maxHeartbeats 1000000 in
theorem extent_read {w : World} {p s m : Nat} {D : Dk} (h : DiskAt w p s m D) (a c : Nat) (hac : a ≤ c) (hc : c ≤ D.sure.length) :
    Calls Tryd.prog 33 #[exV (some ⟨p, 0, none⟩) a c] w (RetB w (D.read a c)) := by
  have hD := h.ok.len
  unfold exV
  go_enter Tryd.func33, Tryd.ntmps33
  go_wp2
  obtain ⟨w1, hw1⟩ : ∃ w1, w1 = w.alloc (.cells #[.pointer (some ⟨p, 0, none⟩), .int .i64 a, .int .i64 c] tX) := ⟨_, rfl⟩
  obtain ⟨W0, hW0⟩ : ∃ W0, W0 = w1.alloc (.cells #[.slice none 0 0, .int .i64 0, .int .i8 0] 95) := ⟨_, rfl⟩
  obtain ⟨B, hB⟩ : ∃ B, B = w.heap.size + 1 := ⟨_, rfl⟩
  have hs1 : w1.heap.size = B := by rw [hw1, hB]; simp
  have hBuf : Buf B B [] W0 := by
    have := Lib.fresh_isBuffer 95 tb w1
    rw [hs1, ← hW0] at this
    exact this
  have f0 : Fr [] w W0 := by rw [hW0, hw1]; exact (Fr.alloc _ _).trans (Fr.alloc _ _)
  have hX : Blk W0 w.heap.size (.cells #[.pointer (some ⟨p, 0, none⟩), .int .i64 a, .int .i64 c] tX (0, 0)) := by
    rw [hW0, hw1]; exact Blk.keep0 ⟨Go.heap_alloc_new w _⟩ (Fr.alloc _ _)
  have h0 := h.keep0 f0
  obtain ⟨lp, ls, lm⟩ := h.lt
  have hBs : B ≤ W0.heap.size := by have := hX.lt; omega
  rw [← hw1, ← hW0, ← hB]
  have HBB := Lib.hid hB
  clear hw1 hW0 hs1
  have hxB : w.heap.size < B := by omega
  clear hB
  go_loopw [4] (fun i W => ReadInv W0 B B D a c W i) (fun i _ => c - (intOf i).toNat)
  case atStart => exact ⟨0, by omega, rfl, by simpa [Dk.read] using hBuf, RowKit.Below.refl _ _⟩
  case round =>
    obtain ⟨k, hk, rfl, hb, hbl⟩ := hrel.out
    have hXr : Blk wr w.heap.size (.cells #[.pointer (some ⟨p, 0, none⟩), .int .i64 a, .int .i64 c] tX (0, 0)) := ⟨(hbl.block _ hxB).trans hX.out⟩
    have x0 : wr.cell? ⟨w.heap.size, 0, none⟩ = some (.pointer (some ⟨p, 0, none⟩)) := cellOf hXr.out rfl
    have x2 : wr.cell? ⟨w.heap.size, 2, none⟩ = some (.int .i64 c) := cellOf hXr.out rfl
    have hDr := h0.below hbl (by omega) (by omega) (by omega)
    clear hXr
    by_cases hlt : a + k < c
    · have hrl := length_read h.ok a k (by omega)
      have hbl32 : (D.is (a + k)).bytes.length = 32 := Dk.is_ok h.ok (by omega)
      have Hrl := Lib.hid hrl
      have Hbl := Lib.hid hbl32
      clear hrl hbl32
      go_wp2_with (first
        | (go_at_call 53; refine (disk_Read hDr (a + k) (by omega)).mono ?_; rintro e w2 ⟨v, rfl, O2, f2⟩)
        | (go_at_call 54; refine (buf_Write (hb.keep0 f2) (by have := hbl.size; have := f2.size; omega) O2.bs (by rw [Hbl.out]; omega) (fun hv => by have := O2.ge hv; have := hb.lt; omega) (by rw [Hrl.out, Hbl.out]; omega)).mono ?_; rintro e w3 ⟨rfl, hb3, hl3⟩))
      refine ⟨⟨k + 1, by omega, by simp; omega, by rw [read_snoc]; exact hb3, ?_⟩, by simp [intOf]; omega⟩
      have h2 : RowKit.Below B wr w2 := f2.below.mono (by have := hb.lt; omega)
      exact (hbl.trans h2).trans hl3
    · have hkc : a + k = c := by omega
      rw [hkc] at hb
      clear hkc
      go_wp2_with (go_at_call 55; refine (buf_Bytes hb).mono ?_; rintro e w2 ⟨v, rfl, O2, f2⟩)
      go_ret
      refine ⟨v, rfl, O2.mono (by omega), ?_⟩
      have h1 : Fr [] w wr := Fr.of_below (f0.below.trans (hbl.mono (Nat.le_of_lt hxB)))
      exact h1.trans f2
end Gd
