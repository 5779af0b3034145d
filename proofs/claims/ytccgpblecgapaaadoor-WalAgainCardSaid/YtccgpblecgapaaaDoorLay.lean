/- sheet.Lay. -/
import Derived.Test.YtccgpblecgapaaaDoorRound
set_option linter.unusedSimpArgs false
set_option linter.unusedVariables false
namespace Gd
open Go Go.Proofs Go.RowKit
attribute [local go_sem] Oper.semAt_some

/-- the x-th piece of n bytes -/
def pc (n : Nat) (l : Bytes) (x : Nat) : Bytes := (l.drop (n * x)).take n
theorem chunks_eq (k : Nat) (hk : 0 < k) : ∀ (m : Nat) (l : Bytes) (K : Nat), K ≤ m → (∀ x, k * x < l.length ↔ x < K) → chunks k m l = (List.range K).map (pc k l)
  | 0, l, K, hK, h => by
    obtain rfl : K = 0 := by omega
    rfl
  | m + 1, l, K, hK, h => by
    unfold chunks
    by_cases hl : l = []
    · subst hl
      have : K = 0 := by
        have := h 0
        simp at this
        exact this
      subst this
      rfl
    · rw [if_neg hl]
      have hpos : 0 < l.length := List.length_pos_iff.2 hl
      obtain ⟨K, rfl⟩ : ∃ K', K = K' + 1 := ⟨K - 1, by have := (h 0).1 (by simpa using hpos); omega⟩
      rw [chunks_eq k hk m (l.drop k) K (by omega) (fun x => by
        have := h (x + 1)
        rw [Nat.mul_succ] at this
        rw [List.length_drop]
        omega)]
      rw [List.range_succ_eq_map, List.map_cons, List.map_map]
      congr 1
      apply List.map_congr_left
      intro x _
      simp [pc, List.drop_drop, Nat.mul_succ, Nat.add_comm]

theorem BS.ck {w : World} {g off cap : Nat} {l : Bytes} (h : BS w (.slice (some ⟨g, off, none⟩) l.length cap) l) (n x : Nat) : BS w (ckV g off n l.length x) (pc n l x) := by
  rcases h.out with ⟨a, e, rfl⟩ | ⟨g', off', cap', c, t, z, e, h5, h6, h7, h8⟩
  · refine ⟨.inl ⟨some ⟨g, off + n * x, none⟩, ?_, by simp [pc]⟩⟩
    simp [ckV]
  · simp only [Value.slice.injEq, Option.some.injEq, Addr.mk.injEq, and_true, true_and] at e
    obtain ⟨⟨rfl, rfl⟩, rfl⟩ := e
    have hlen : (pc n l x).length = min n (l.length - n * x) := by simp [pc]
    refine ⟨.inr ⟨g, off + n * x, min n (l.length - n * x), c, t, z, ?_, by omega, by omega, h7, fun i b hi => ?_⟩⟩
    · rw [hlen]; rfl
    · rw [Nat.add_assoc]
      refine h8 _ _ ?_
      unfold pc at hi
      rw [List.getElem?_take] at hi
      split at hi
      · rw [List.getElem?_drop] at hi; exact hi
      · cases hi

/-- what lies in the box after some pieces -/
def laid {K : Nat} (M mt : Bytes) (xs : List (Fin K)) : Bytes := (xs.map fun x => pad M (pc 24 mt x.1)).flatten
theorem laid_snoc {K : Nat} (M mt : Bytes) (xs : List (Fin K)) (x : Fin K) : laid M mt (xs ++ [x]) = laid M mt xs ++ pc 24 mt x.1 ++ List.replicate (24 - (pc 24 mt x.1).length) 0 ++ M := by
  unfold laid pad
  rw [List.map_append, List.flatten_append]
  simp [List.append_assoc]
theorem length_laid {K : Nat} (M mt : Bytes) (hM : M.length = 8) (xs : List (Fin K)) : (laid M mt xs).length = 32 * xs.length := by
  unfold laid
  induction xs with
  | nil => rfl
  | cons x xs ih =>
    have hp : (pc 24 mt x.1).length ≤ 24 := by simp [pc]; omega
    rw [List.map_cons, List.flatten_cons, List.length_append, ih, List.length_cons]
    simp [pad, hM]
    omega

theorem OB.addr {B : Nat} {w : World} {a : Option Addr} {n c : Nat} {l : Bytes} (h : OB B w (.slice a n c) l) (hl : 0 < l.length) : ∃ g, a = some ⟨g, 0, none⟩ ∧ B ≤ g ∧ g < w.heap.size := by
  have hlt := fun g => World.ownsRow.lt h g
  obtain ⟨_, h1 | ⟨g, cap, cur, h1, h2, h3, _⟩⟩ := h
  · omega
  · simp only [Value.slice.injEq] at h1
    exact ⟨g, h1.1, h2, (Array.getElem?_eq_some_iff.1 h3).1⟩

theorem OB.one {B : Nat} {w : World} {v : Value} {l : Bytes} (h : OB B w v l) : v.cells = #[v] ∧ v.oneCell' = true := by
  obtain ⟨_, h1 | ⟨g, cap, cur, h1, _⟩⟩ := h
  · rw [h1.1]; exact ⟨rfl, rfl⟩
  · rw [h1]; exact ⟨rfl, rfl⟩
theorem OB.notOwn {B : Nat} {w : World} {v : Value} {l : Bytes} (h : OB B w v l) {b : Nat} (hb : b < B) : b ∉ v.ownBlock.toList := fun hm => by
  have := h.ge (g := b) (Option.mem_toList.1 hm)
  omega
theorem OB.notBox {B : Nat} {w : World} {v : Value} {l : Bytes} (h : OB B w v l) {b : Nat} (hb : b < B) : ∀ g, v.ownBlock = some g → g ∉ [b] := fun g hg hm => by
  have := h.ge hg
  obtain rfl : g = b := by simpa using hm
  omega

structure LayInv {K : Nat} (w wl : World) (b8 b10 : Nat) (v8 v9 : Value) (M mt : Bytes) (pre : List (Fin K)) (W : World) : Prop where
  out : ∃ u, Blk W b10 (.cells #[u] tB (0, 0)) ∧ OB wl.heap.size W u (laid M mt pre) ∧ Blk W b8 (.cells #[v8] tB (0, 0)) ∧ BS W v8 M ∧ BS W v9 mt ∧ Fr [b10] wl W
theorem LayInv.from {K : Nat} (w wl : World) (b8 b10 : Nat) (v8 v9 : Value) (M mt : Bytes) : OwnFrom wl.heap.size (LayInv (K := K) w wl b8 b10 v8 v9 M mt) := fun s W W' row hs hg hr => by
  obtain ⟨u, h1, h2, h3, h4, h5, h6⟩ := hs.out
  have hr' := fun r e => (hr r e).2
  exact ⟨u, h1.grownFrom hg hr', h2.grownFrom hg hr', h3.grownFrom hg hr', h4.grownFrom hg hr', h5.grownFrom hg hr', h6.grownFrom hg (fun r e => (hr r e).1)⟩

set_option maxRecDepth 100000 in
set_option maxHeartbeats 1000000 in
theorem sheet_Lay {w : World} {v : Value} {b : Bytes} (hv : BS w v b) (e q : Nat) (he : e < 4294967296) (hq : q < 4294967296) (hb : b.length ≤ 65535) :
    Calls Tryd.prog 40 #[.int .i64 e, .int .i64 q, v] w fun x w' => ∃ u, x = .returned (.tuple #[u, .int .i64 0]) ∧ BS w' u (lay e q b) ∧ (∀ g, u.ownBlock = some g → w.heap.size ≤ g) ∧ Fr [] w w' := by
  obtain ⟨ad, cap, rfl, hc1, hc2⟩ := hv.shape
  unfold maxLen at hc2
  obtain ⟨M, hM, hMl⟩ : ∃ M, M = mark e q ∧ M.length = 8 := ⟨_, rfl, by simp [mark, length_be]⟩
  obtain ⟨L2, hL2, hL2l⟩ : ∃ M, M = be 2 b.length ∧ M.length = 2 := ⟨_, rfl, length_be _ _⟩
  obtain ⟨c, hc⟩ : ∃ c, c = crcOf [M, L2 ++ b] := ⟨_, rfl⟩
  have hcl : c < 4294967296 := by rw [hc]; exact crcOf_lt _
  obtain ⟨L4, hL4, hL4l⟩ : ∃ M, M = be 4 c ∧ M.length = 4 := ⟨_, rfl, length_be _ _⟩
  obtain ⟨X, hX⟩ : ∃ X, X = L2 ++ b := ⟨_, rfl⟩
  obtain ⟨mt, hmt⟩ : ∃ mt, mt = X ++ L4 := ⟨_, rfl⟩
  have HX := Lib.hid hX
  have Hmt := Lib.hid hmt
  have HXl : Hid (X.length = 2 + b.length) := by rw [Hid, hX, List.length_append, hL2l]
  have Hmtl : Hid (mt.length = 6 + b.length) := by rw [Hid, hmt, List.length_append, HXl.out, hL4l]; omega
  have H1 : ∀ w, Calls Tryd.prog 56 #[.int .i64 e, .int .i64 q] w (RetB w M) := fun w => by rw [hM]; exact sheet_marked w e q (by omega) (by omega)
  have H2 : ∀ w, Calls Tryd.prog 58 #[.int .i64 b.length, .int .i64 2] w (RetS w L2) := fun w => by rw [hL2]; exact sheet_last w b.length 2 (by omega) (by omega)
  have H4 : ∀ w, Calls Tryd.prog 58 #[.int .i64 c, .int .i64 4] w (RetS w L4) := fun w => by rw [hL4]; exact sheet_last w c 4 (by omega) (by omega)
  have HR : Hid (matter e q b = mt) := by rw [Hid, hmt, hX]; unfold matter; rw [← hM, ← hL2, ← hc, ← hL4]
  have HM := Lib.hid hM
  have HC := Lib.hid hc
  have HL := Lib.hid (And.intro hMl (And.intro hL2l hL4l))
  rw [← hX] at HC
  clear hM hMl hL2 hL2l hL4 hL4l hc hX hmt
  refine callsIn_wide.1 (callsIn_of_wp_marks (n := 8) Tryd.func40 rfl trivial ?_ rfl)
  simp only [Tryd.ntmps40, List.size_toArray, List.length_cons, List.length_nil, Nat.reduceAdd, Nat.reduceSub, Array.replicate_succ, Array.replicate_zero, List.push_toArray, List.append_toArray, List.nil_append, List.cons_append]
  refine wpIn_wide.2 ?_
  obtain ⟨mn, hmn, hmn2⟩ : ∃ mn : Nat, min (e : Int) (q : Int) = mn ∧ True := ⟨min e q, by omega, trivial⟩
  obtain ⟨mx, hmx, hmx2⟩ : ∃ mx : Nat, max (e : Int) (q : Int) = mx ∧ mx < 4294967296 := ⟨max e q, by omega, by omega⟩
  have Hmn := Lib.hid hmn
  have Hmx := Lib.hid hmx
  clear hmn hmx hmn2
  go_wp2_with (first
    | ((with_reducible show wpList _ _ _ (Oper.mk (some 15) _ _ _ _ _ :: _) _ _); refine wpList_min rfl _ _ rfl rfl rfl Hmn.out ?_)
    | ((with_reducible show wpList _ _ _ (Oper.mk (some 20) _ _ _ _ _ :: _) _ _); refine wpList_max_g (wanted_of rfl rfl rfl (decide_eq_false (by omega))) _ _ rfl rfl rfl Hmx.out ?_)
    | (go_at_call 56; refine (H1 w).mono ?_; rintro x w1 ⟨v8, rfl, O1, f1⟩; obtain ⟨a8, c8, rfl, _, _⟩ := O1.bs.shape
       have B8 : Blk (w1.alloc (.cells #[.slice a8 M.length c8] tB)) w1.heap.size (.cells #[.slice a8 M.length c8] tB (0, 0)) := ⟨Go.heap_alloc_new w1 _⟩
       have S8 := O1.bs.keep0 (Fr.alloc w1 (.cells #[.slice a8 M.length c8] tB))
       have f2 := f1.trans (Fr.alloc w1 (.cells #[.slice a8 M.length c8] tB)))
    | (go_at_call 58; (with_reducible refine Calls.mono (H4 _) ?_); rintro x w5 ⟨u, rfl, h5, h6, f6⟩; obtain ⟨a4, c4, rfl, _, _⟩ := h5.shape; have hb3 := run_build2 w5 a9 X.length c9 a4 L4.length c4)
    | (go_at_call 58; (with_reducible refine Calls.mono (H2 _) ?_); rintro x w2 ⟨u, rfl, h3, h4, f3⟩; obtain ⟨a2, c2, rfl, _, _⟩ := h3.shape; have hb1 := run_build2 w2 a2 L2.length c2 ad b.length cap)
    | (go_at_call 57; refine (Concat2 rfl ((O4.bs.keep0 (Fr.alloc w3 _)).keep0 f6) h5 (by have := HL.out; have := HXl.out; omega)).mono ?_; rintro x w6 ⟨u, rfl, O7, f7⟩
       rw [← Hmt.out] at O7
       obtain ⟨a10, c10, rfl, hz1, hz2⟩ := O7.bs.shape
       obtain ⟨g, rfl, hg1, hg2⟩ := O7.addr (by rw [Hmtl.out]; omega))
    | (go_at_call 46; refine (slices_Chunk (some ⟨g, 0, none⟩) mt.length c10 24 (by omega)).mono ?_; rintro x w7 ⟨b2, b3, rfl, hb21, hb31, K2, K3, f8⟩)
    | (go_at_call 57; refine (Concat2 rfl h3 ((hv.keep0 f2).keep0 f3) (by have := HL.out; omega)).mono ?_; rintro x w3 ⟨u, rfl, O4, f4⟩
       rw [← HX.out] at O4
       obtain ⟨a9, c9, rfl, _, _⟩ := O4.bs.shape
       have f5 := (Fr.alloc w2 (.cells #[.slice a2 L2.length c2, .slice ad b.length cap] tB)).trans f4
       have B8' := (B8.keep0 f3).keep0 f5
       have hb2 := run_build2 w3 a8 M.length c8 a9 X.length c9)
    | ((with_reducible show wpList _ _ _ (Oper.mk (some 37) _ _ _ _ _ :: _) _ _); refine wpList_load_box rfl _ _ rfl rfl Tryd.underlying23 rfl B8' ?_)
    | (go_at_call 59; refine (crc_Of (VS.pair w3 _ _) ((BSall.pair ((S8.keep0 f3).keep0 f5) O4.bs).keep0 (Fr.alloc w3 _))).mono ?_; rintro x w4 ⟨rfl, rfl⟩; rw [← HC.out]))
  obtain ⟨K, hK⟩ : ∃ K, ∀ k, 24 * k < mt.length ↔ k < K := ⟨(mt.length + 23) / 24, fun k => by omega⟩
  have hmtl : mt.length ≤ 70000 := by rw [Hmtl.out]; omega
  have hlt1 : w1.heap.size < w7.heap.size := by have := B8'.lt; have := f6.size; have := f7.size; have := f8.size; simp at *; omega
  have hlt6 : w6.heap.size < w7.heap.size := by have := f8.size; simp at this; omega
  have h16 : w1.heap.size < w6.heap.size := by have := B8'.lt; have := f6.size; have := f7.size; simp at *; omega
  have f67 := (Fr.alloc w6 (.cells #[.slice none 0 0] tB)).trans f8
  have B10 : Blk w7 w6.heap.size (.cells #[.slice none 0 0] tB (0, 0)) := Blk.keep0 ⟨Go.heap_alloc_new w6 _⟩ f8
  have f57 := ((Fr.alloc w5 (.cells #[.slice a9 X.length c9, .slice a4 L4.length c4] tB)).trans f7).trans f67
  have f37 := ((Fr.alloc w3 (.cells #[.slice a8 M.length c8, .slice a9 X.length c9] tB)).trans f6).trans f57
  have B8w := B8'.keep0 f37
  have S8w := ((S8.keep0 f3).keep0 f5).keep0 f37
  have S9w := O7.bs.keep0 f67
  have f07 : Fr [] w w7 := ((f2.trans f3).trans f5).trans f37
  have hb2l := K2.lt
  have hb3l := K3.lt
  have hgl : g < w6.heap.size := hg2
  simp at hb21 hb31
  have hv8 : ∀ k, (Value.slice a8 M.length c8).ownBlock = some k → k < w1.heap.size := fun k hk => (World.ownsRow.lt O1 k hk).2
  clear hg1 hz2
  refine (wpIn_wide (n := 8)).1 ?_
  refine wpIn_rangeFunc_ownG rfl (by omega) (gf := 63) (lb := #[.pointer (some ⟨b2, 0, none⟩), .pointer (some ⟨b3, 0, none⟩)]) rfl trivial (enters_of Tryd.func63 (by kernel_rfl) rfl)
    (chunk_stops (8 - 1) b2 b3 g 0 mt.length c10 24 K (by omega) (by omega) (by omega) hz1 (by omega) hK w7 K2 K3)
    KpB.t (KpB.b hb2l hb3l) (Below.refl _ _) (fun _ => rfl)
    (LayInv w w7 w1.heap.size w6.heap.size (.slice a8 M.length c8) (.slice (some ⟨g, 0, none⟩) mt.length c10) M mt) (fun _ _ _ => False) (LayInv.from _ _ _ _ _ _ _ _) (fun _ _ _ _ _ h _ _ => h)
    ⟨_, B10, OB.nil _ _, B8w, S8w, S9w, Fr.refl _ _⟩ ?a1 ?assign ?body ?done ?stop
  case assign =>
    intro l x W K hK
    gi_wp2
    exact hK
  case body =>
    intro l pre x W hI hN
    obtain ⟨u, I10, OU, I8, J8, J9, F1⟩ := hI.out
    have hck := J9.ck 24 x.1
    obtain ⟨P, hP⟩ : ∃ P, P = pc 24 mt x.1 := ⟨_, rfl⟩
    have hPl : P.length ≤ 24 := by rw [hP]; simp [pc]; omega
    have hlen := length_laid M mt HL.out.1 pre
    have HS : Hid (laid M mt (pre ++ [x]) = laid M mt pre ++ P ++ List.replicate (24 - P.length) 0 ++ M) := by rw [hP]; exact laid_snoc M mt pre x
    rw [← hP] at hck
    clear hP
    obtain ⟨cp, hshape⟩ : ∃ cp, ckV g 0 24 mt.length x.1 = .slice (some ⟨g, 24 * x.1, none⟩) P.length cp := by
      obtain ⟨ad', cap', h, _⟩ := hck.shape
      refine ⟨cap', ?_⟩
      have h2 := h
      unfold ckV at h2
      simp only [Value.slice.injEq] at h2
      rw [h, ← h2.1, Nat.zero_add]
    rw [hshape] at hck
    have HV := Lib.hid hshape
    clear hshape
    have hpl : pre.length ≤ K := by omega
    have hKm : K ≤ 3000 := by
      have := (hK (K - 1))
      omega
    rw [HV.out]
    clear hv hc1 hc2 hcl hmx2 f1 O1 B8 S8 f2 f3 h3 h4 hb1 f4 O4 f5 B8' hb2 f6 h5 h6 hb3 f7 O7 f8 H1 H2 H4 K2 K3 f67 B10 f57 f37 B8w S8w S9w f07 hK he hq hb
    gi_wp2_with (first
      | ((with_reducible show wpListIn _ _ _ _ _ (Oper.mk (some 48) _ _ _ _ _ :: _) _ _); refine wpListIn_load_box rfl _ _ rfl rfl Tryd.underlying23 rfl I10 ?_)
      | ((with_reducible show wpListIn _ _ _ _ _ (Oper.mk (some 50) _ _ _ _ _ :: _) _ _); refine wpListIn_append_bytes rfl _ _ rfl rfl rfl OU hck (by rw [hlen]; omega) F1.size ?_; intro u1 W1 O1 e1; have I1 := I10.keep e1 (OU.notOwn hlt6))
      | ((with_reducible show wpListIn _ _ _ _ _ (Oper.mk (some 51) _ _ _ _ _ :: _) _ _); refine wpListIn_load_box rfl _ _ rfl rfl Tryd.underlying23 rfl I2 ?_)
      | ((with_reducible show wpListIn _ _ _ _ _ (Oper.mk (some 55) _ _ _ _ _ :: _) _ _); refine wpListIn_append_zeros rfl _ _ rfl (24 - P.length) rfl rfl (by omega) O2 (by rw [List.length_append, hlen]; omega) (by have := F1.size; have := e1.size; have := e2.size; omega) ?_; intro u3 W3 O3 e3; have I3 := I2.keep e3 (O2.notOwn hlt6))
      | ((with_reducible show wpListIn _ _ _ _ _ (Oper.mk (some 56) _ _ _ _ _ :: _) _ _); refine wpListIn_load_box rfl _ _ rfl rfl Tryd.underlying23 rfl I4 ?_)
      | ((with_reducible show wpListIn _ _ _ _ _ (Oper.mk (some 57) _ _ _ _ _ :: _) _ _); refine wpListIn_load_box rfl _ _ rfl rfl Tryd.underlying23 rfl I8' ?_)
      | ((with_reducible show wpListIn _ _ _ _ _ (Oper.mk (some 58) _ _ _ _ _ :: _) _ _); refine wpListIn_append_bytes rfl _ _ rfl rfl rfl O4 J8' (by rw [List.length_append, List.length_append, hlen, List.length_replicate]; have := HL.out; omega) (by have := F1.size; have := e1.size; have := e2.size; have := e3.size; have := e4.size; omega) ?_; intro u5 W5 O5 e5; have I5 := I4.keep e5 (O4.notOwn hlt6))
      | ((with_reducible show wpListIn _ _ _ _ _ (Oper.mk none (Op.store _ (.tmp 10) _) _ _ _ _ :: _) _ _); refine wpListIn_store_box rfl _ _ _ rfl rfl rfl (by kernel_rfl) O5.one.1 O5.one.2 I5 ?_; intro W6 I6 e6; have O6 := O5.keep e6 (O5.notBox hlt6))
      | ((with_reducible show wpListIn _ _ _ _ _ (Oper.mk none (Op.store _ (.tmp 10) _) _ _ _ _ :: _) _ _); refine wpListIn_store_box rfl _ _ _ rfl rfl rfl (by kernel_rfl) O3.one.1 O3.one.2 I3 ?_; intro W4 I4 e4; have O4 := O3.keep e4 (O3.notBox hlt6)
         have I8' := (((I8.keep e1 (OU.notOwn hlt1)).keep e2 (by simp; omega)).keep e3 (O2.notOwn hlt1)).keep e4 (by simp; omega)
         have J8' := (((J8.keep e1 (fun k hk => OU.notOwn (by have := hv8 k hk; omega))).keep e2 (fun k hk => by have := hv8 k hk; simp; omega)).keep e3 (fun k hk => O2.notOwn (by have := hv8 k hk; omega))).keep e4 (fun k hk => by have := hv8 k hk; simp; omega))
      | ((with_reducible show wpListIn _ _ _ _ _ (Oper.mk none (Op.store _ (.tmp 10) _) _ _ _ _ :: _) _ _); refine wpListIn_store_box rfl _ _ _ rfl rfl rfl (by kernel_rfl) O1.one.1 O1.one.2 I1 ?_; intro W2 I2 e2; have O2 := O1.keep e2 (O1.notBox hlt6))
      )
    rw [← HS.out] at O6
    obtain ⟨S, hS⟩ : ∃ S, S = w6.heap.size :: (u.ownBlock.toList ++ u1.ownBlock.toList ++ u3.ownBlock.toList) := ⟨_, rfl⟩
    have E : Fr S W W6 := by
      rw [hS]
      exact (((((e1.mono (fun k hk => List.mem_cons_of_mem _ (List.mem_append.2 (.inl (List.mem_append.2 (.inl hk)))))).trans (e2.mono (by simp))).trans (e3.mono (fun k hk => List.mem_cons_of_mem _ (List.mem_append.2 (.inl (List.mem_append.2 (.inr hk))))))).trans (e4.mono (by simp))).trans (e5.mono (fun k hk => List.mem_cons_of_mem _ (List.mem_append.2 (.inr hk))))).trans (e6.mono (by simp))
    have hSlt : ∀ k, k ∈ S → k = w6.heap.size ∨ w7.heap.size ≤ k := fun k hk => by
      rw [hS] at hk
      simp at hk
      rcases hk with rfl | hk | hk | hk
      · exact .inl rfl
      · exact .inr (OU.ge hk)
      · exact .inr (O1.ge hk)
      · exact .inr (O3.ge hk)
    have hno : ∀ k, k ≠ w6.heap.size → k < w7.heap.size → k ∉ S := fun k h1 h2 hk => by rcases hSlt k hk with h | h <;> omega
    refine ⟨?_, ?_, ?_⟩
    · exact (((((Keeps.of_Fr e1 (CellsAt.own OU)).trans (Keeps.of_Fr e2 (CellsAt.box I1))).trans (Keeps.of_Fr e3 (CellsAt.own O2))).trans (Keeps.of_Fr e4 (CellsAt.box I3))).trans (Keeps.of_Fr e5 (CellsAt.own O4))).trans (Keeps.of_Fr e6 (CellsAt.box I5))
    · have hs := F1.size
      exact KpB.of_Fr E (by omega) (by omega) (hno _ (by omega) (by omega)) (hno _ (by omega) (by omega))
    · exact ⟨_, I6, O6, I8.keep E (hno _ (by omega) (by omega)), J8.keep E (fun k hk => by have := hv8 k hk; exact hno _ (by omega) (by omega)), J9.keep E (fun k hk => by
        have : g = k := by simpa [Value.ownBlock] using hk
        exact hno _ (by omega) (by omega)), F1.then E (fun k hk => by rcases hSlt k hk with h | h; exact .inl (by simp [h]); exact .inr h)⟩
  case done =>
    rintro D xs W hD hxs hI hk
    obtain ⟨u, I10, OU, I8, J8, J9, F1⟩ := hI.out
    have hR : laid M mt xs = lay e q b := by
      unfold lay
      rw [HR.out, ← HM.out, chunks_eq 24 (by omega) mt.length mt K (by
        have := (hK (K - 1))
        omega) hK, ← hxs]
      unfold laid
      rw [List.map_map, List.map_map]
      rfl
    rw [hR] at OU
    clear hR
    obtain ⟨L, hL⟩ : ∃ L, L = lay e q b := ⟨_, rfl⟩
    rw [← hL] at OU
    have HLL := Lib.hid hL
    clear hL
    gi_wp2
    go_wp2_with (first
      | ((with_reducible show wpList _ _ _ (Oper.mk (some 59) _ _ _ _ _ :: _) _ _); refine wpList_load_box rfl _ _ rfl rfl Tryd.underlying23 rfl I10 ?_)
      | (go_at_call 52; refine (slices_Clip OU.bs).mono ?_; rintro x w' ⟨⟨ad', cap', rfl, hb', ho⟩, rfl⟩))
    refine ⟨by simp, .inl ⟨_, _, rfl, run_takeDeferred hk, ?_⟩⟩
    refine ⟨_, results_tmp2 rfl _ _ _, .slice ad' L.length cap', rfl, ?_, ?_, ?_⟩
    · rw [← HLL.out]
      exact hb'.grownFrom (grownBy_putObj' W D _) (fun r e => by cases e; exact ⟨_, hk, rfl⟩)
    · intro k hk'
      have := OU.ge (ho k hk')
      have := f07.size
      omega
    · have hs := f07.size
      have hw6 : w.heap.size ≤ w6.heap.size := by
        have h1 := (((f2.trans f3).trans f5).trans ((Fr.alloc w3 (.cells #[.slice a8 M.length c8, .slice a9 X.length c9] tB)).trans f6)).size
        have h2 := ((Fr.alloc w5 (.cells #[.slice a9 X.length c9, .slice a4 L4.length c4] tB)).trans f7).size
        omega
      have h1 : Fr [] w W := f07.then F1 (fun k hk => .inr (by
        obtain rfl : k = w6.heap.size := by simpa using hk
        exact hw6))
      exact h1.grownFrom (grownBy_putObj' W D _) (fun r e => by cases e; omega)
  case stop =>
    rintro D c pre W _ _ h _
    exact h.elim
end Gd
