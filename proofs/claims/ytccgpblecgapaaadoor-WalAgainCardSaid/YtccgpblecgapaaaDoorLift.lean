/- sheet.Lift. -/
import Derived.Test.YtccgpblecgapaaaDoorLay
import Derived.Test.YtccgpblecgapaaaDoorEqual
set_option linter.unusedSimpArgs false
set_option linter.unusedVariables false
namespace Gd
open Go Go.Proofs Go.RowKit
attribute [local go_sem] Oper.semAt_some

theorem BS.addr {w : World} {a : Option Addr} {n cap : Nat} {l : Bytes} (h : BS w (.slice a n cap) l) (hl : 0 < l.length) : ∃ g off, a = some ⟨g, off, none⟩ := by
  rcases h.out with ⟨_, e, rfl⟩ | ⟨g, off, cap', c, t, z, e, h5, h6, h7, h8⟩
  · simp at hl
  · simp only [Value.slice.injEq] at e
    exact ⟨g, off, e.1⟩

/-- the part of a slice whose place is known -/
theorem BS.part {w : World} {g off n cap : Nat} {l : Bytes} (h : BS w (.slice (some ⟨g, off, none⟩) n cap) l) (L H M : Nat) (h1 : L < H) (h2 : H ≤ M) (h3 : M ≤ cap) (h4 : H ≤ l.length) :
    BS w (.slice (some ⟨g, off + L, none⟩) (H - L) (M - L)) ((l.take H).drop L) := by
  have := h.sub (Nat.le_of_lt h1) h2 h3 h4
  rw [if_neg (by omega)] at this
  simpa [add_lit] using this

theorem results_tmp5 {fn : Func} {a b c d e : Tmp} (h : fn.results = #[.tmp a, .tmp b, .tmp c, .tmp d, .tmp e]) (tmps : Array Value) (P : Program) (w : World) :
    (results fn tmps).run P w = .ok (.tuple #[tmps.getD a undef, tmps.getD b undef, tmps.getD c undef, tmps.getD d undef, tmps.getD e undef]) w := by
  simp [results, h]
theorem results_tmp4 {fn : Func} {a b c d : Tmp} (h : fn.results = #[.tmp a, .tmp b, .tmp c, .tmp d]) (tmps : Array Value) (P : Program) (w : World) :
    (results fn tmps).run P w = .ok (.tuple #[tmps.getD a undef, tmps.getD b undef, tmps.getD c undef, tmps.getD d undef]) w := by
  simp [results, h]

/-! ### the plain part -/
theorem length_pads (M : Bytes) (hM : M.length = 8) : ∀ L : List Bytes, (∀ x ∈ L, x.length ≤ 24) → ((L.map (pad M)).flatten).length = 32 * L.length
  | [], _ => rfl
  | x :: L, h => by
    have h1 := h x (by simp)
    rw [List.map_cons, List.flatten_cons, List.length_append, length_pads M hM L (fun y hy => h y (by simp [hy])), List.length_cons]
    simp [pad, hM]
    omega
theorem length_matter (e q : Nat) (b : Bytes) : (matter e q b).length = b.length + 6 := by simp [matter, length_be]; omega
theorem cnt_pieces (n : Nat) (k : Nat) : 24 * k < n + 6 ↔ k < cnt n := by unfold cnt; omega
theorem length_lay (e q : Nat) (b : Bytes) : (lay e q b).length = 32 * cnt b.length := by
  unfold lay
  rw [chunks_eq 24 (by omega) _ _ (cnt b.length) (by rw [length_matter]; unfold cnt; omega) (fun x => by rw [length_matter]; exact cnt_pieces _ _),
    length_pads _ (by simp [mark, length_be]) _ (fun x hx => by
      obtain ⟨k, _, rfl⟩ := List.mem_map.1 hx
      simp [pc]; omega)]
  simp
/-- the matter of the sectors -/
def heads (T : Bytes) (xs : List Nat) : Bytes := (xs.map fun x => (pc 32 T x).take 24).flatten
theorem length_heads (T : Bytes) : ∀ xs : List Nat, (∀ x ∈ xs, 32 * x + 32 ≤ T.length) → (heads T xs).length = 24 * xs.length
  | [], _ => rfl
  | x :: xs, h => by
    have h1 := h x (by simp)
    have h2 := length_heads T xs (fun y hy => h y (by simp [hy]))
    unfold heads at h2 ⊢
    rw [List.map_cons, List.flatten_cons, List.length_append, h2, List.length_cons]
    simp [pc]
    omega
theorem lift_eq (s : Bytes) (h1 : 32 ≤ s.length) (h2 : 32 * cnt (val (s.take 2)) ≤ s.length) :
    lift s = if lay (val ((s.drop 24).take 4)) (val ((s.drop 28).take 4)) (((heads (s.take (32 * cnt (val (s.take 2)))) (List.range (cnt (val (s.take 2))))).drop 2).take (val (s.take 2))) = s.take (32 * cnt (val (s.take 2)))
      then some (val ((s.drop 24).take 4), val ((s.drop 28).take 4), ((heads (s.take (32 * cnt (val (s.take 2)))) (List.range (cnt (val (s.take 2))))).drop 2).take (val (s.take 2)), cnt (val (s.take 2))) else none := by
  have hc := chunks_eq 32 (by omega) (32 * cnt (val (s.take 2))) (s.take (32 * cnt (val (s.take 2)))) (cnt (val (s.take 2))) (by omega) (fun x => by rw [List.length_take]; omega)
  unfold lift
  rw [if_neg (by omega)]
  simp only [hc]
  rw [if_neg (by omega)]
  unfold heads
  rw [List.map_map]
  rfl
theorem lift_none1 (s : Bytes) (h : s.length < 32) : lift s = none := by unfold lift; rw [if_pos h]
theorem lift_none2 (s : Bytes) (h1 : 32 ≤ s.length) (h : s.length < 32 * cnt (val (s.take 2))) : lift s = none := by
  unfold lift; rw [if_neg (by omega)]; simp only []; rw [if_pos h]

/-- what Lift hands back -/
def Lifted (w : World) (s : Bytes) (x : Ending) (w' : World) : Prop :=
  Fr [] w w' ∧ match lift s with
  | none => x = .returned (.tuple #[.int .i64 0, .int .i64 0, .slice none 0 0, .int .i64 0, .int .i64 3])
  | some (e, q, b, n) => ∃ u, x = .returned (.tuple #[.int .i64 e, .int .i64 q, u, .int .i64 n, .int .i64 0]) ∧ BS w' u b ∧ ∀ g, u.ownBlock = some g → w.heap.size ≤ g ∧ g < w'.heap.size

structure LiftInv {K : Nat} (wl : World) (b8 : Nat) (v vt : Value) (s T : Bytes) (pre : List (Fin K)) (W : World) : Prop where
  out : ∃ u, Blk W b8 (.cells #[u] tB (0, 0)) ∧ OB wl.heap.size W u (heads T (pre.map (·.1))) ∧ BS W v s ∧ BS W vt T ∧ Fr [b8] wl W
theorem LiftInv.from {K : Nat} (wl : World) (b8 : Nat) (v vt : Value) (s T : Bytes) : OwnFrom wl.heap.size (LiftInv (K := K) wl b8 v vt s T) := fun xs W W' row hs hg hr => by
  obtain ⟨u, h1, h2, h3, h4, h6⟩ := hs.out
  have hr' := fun r e => (hr r e).2
  exact ⟨u, h1.grownFrom hg hr', h2.grownFrom hg hr', h3.grownFrom hg hr', h4.grownFrom hg hr', h6.grownFrom hg (fun r e => (hr r e).1)⟩

set_option maxRecDepth 100000 in
set_option maxHeartbeats 1000000 in
theorem sheet_Lift_a {w : World} {v : Value} {s : Bytes} (hv : BS w v s) (hs : s.length < 32) :
    Calls Tryd.prog 32 #[v] w (Lifted w s) := by
  obtain ⟨ad, cap, rfl, hc1, hc2⟩ := hv.shape
  unfold maxLen at hc2
  go_enter Tryd.func32, Tryd.ntmps32
  go_wp2
  refine bodyPost_ret (results_tmp5 rfl _ _ _) rfl ?_
  unfold Lifted
  rw [lift_none1 s hs]
  exact ⟨Fr.refl _ _, rfl⟩

set_option maxRecDepth 100000 in
set_option maxHeartbeats 2000000 in
theorem sheet_Lift_b {w : World} {v : Value} {s : Bytes} (hv : BS w v s) (hs : 32 ≤ s.length) (hs2 : s.length ≤ 4194304) :
    Calls Tryd.prog 32 #[v] w (Lifted w s) := by
  obtain ⟨ad, cap, rfl, hc1, hc2⟩ := hv.shape
  obtain ⟨g, off, rfl⟩ := hv.addr (by omega)
  unfold maxLen at hc2
  obtain ⟨l2, hl2, hl2l⟩ : ∃ M, M = s.take 2 ∧ M.length = 2 := ⟨_, rfl, by simp; omega⟩
  obtain ⟨le, hle, hlel⟩ : ∃ M, M = (s.drop 24).take 4 ∧ M.length = 4 := ⟨_, rfl, by simp; omega⟩
  obtain ⟨lq, hlq, hlql⟩ : ∃ M, M = (s.drop 28).take 4 ∧ M.length = 4 := ⟨_, rfl, by simp; omega⟩
  have S2 : BS w (.slice (some ⟨g, off, none⟩) 2 cap) l2 := by rw [hl2]; simpa using hv.part 0 2 cap (by omega) (by omega) (by omega) (by omega)
  have SE : BS w (.slice (some ⟨g, off + 24, none⟩) 4 (cap - 24)) le := by rw [hle]; simpa [List.drop_take] using hv.part 24 28 cap (by omega) (by omega) (by omega) (by omega)
  have SQ : BS w (.slice (some ⟨g, off + 28, none⟩) 4 (cap - 28)) lq := by rw [hlq]; simpa [List.drop_take] using hv.part 28 32 cap (by omega) (by omega) (by omega) (by omega)
  obtain ⟨N, hN, hN2⟩ : ∃ N, N = val l2 ∧ N ≤ 65535 := ⟨_, rfl, by have := val_lt l2; rw [hl2l] at this; omega⟩
  obtain ⟨E, hE, hE2⟩ : ∃ N, N = val le ∧ N < 4294967296 := ⟨_, rfl, by have := val_lt le; rw [hlel] at this; omega⟩
  obtain ⟨Q, hQ, hQ2⟩ : ∃ N, N = val lq ∧ N < 4294967296 := ⟨_, rfl, by have := val_lt lq; rw [hlql] at this; omega⟩
  obtain ⟨n, hn, hn2, hn3⟩ : ∃ n, n = cnt N ∧ N + 2 ≤ 24 * n ∧ n ≤ 2731 := ⟨_, rfl, by unfold cnt; omega, by unfold cnt; omega⟩
  have hn4 : 1 ≤ n := by omega
  have C2 : ∀ W, Fr [] w W → Calls Tryd.prog 49 #[.slice (some ⟨g, off, none⟩) 2 cap] W fun e w' => e = .returned (.int .i64 N) ∧ W = w' := fun W hW => by rw [hN]; exact sheet_number (S2.keep0 hW) (by omega)
  have CE : ∀ W, Fr [] w W → Calls Tryd.prog 49 #[.slice (some ⟨g, off + 24, none⟩) 4 (cap - 24)] W fun e w' => e = .returned (.int .i64 E) ∧ W = w' := fun W hW => by rw [hE]; exact sheet_number (SE.keep0 hW) (by omega)
  have CQ : ∀ W, Fr [] w W → Calls Tryd.prog 49 #[.slice (some ⟨g, off + 28, none⟩) 4 (cap - 28)] W fun e w' => e = .returned (.int .i64 Q) ∧ W = w' := fun W hW => by rw [hQ]; exact sheet_number (SQ.keep0 hW) (by omega)
  have CN : ∀ W, Calls Tryd.prog 39 #[.int .i64 N] W fun e w' => e = .returned (.int .i64 n) ∧ W = w' := fun W => by rw [hn]; exact sheet_Count W N hN2
  have HA : Hid (n = cnt (val (s.take 2)) ∧ N = val (s.take 2) ∧ E = val ((s.drop 24).take 4) ∧ Q = val ((s.drop 28).take 4)) := by
    rw [Hid, hn, hN, hE, hQ, hl2, hle, hlq]
    exact ⟨rfl, rfl, rfl, rfl⟩
  clear hl2 hle hlq hl2l hlel hlql hN hE hQ hn S2 SE SQ
  refine callsIn_wide.1 (callsIn_of_wp_marks (n := 8) Tryd.func32 rfl trivial ?_ rfl)
  simp only [Tryd.ntmps32, List.size_toArray, List.length_cons, List.length_nil, Nat.reduceAdd, Nat.reduceSub, Array.replicate_succ, Array.replicate_zero, List.push_toArray, List.append_toArray, List.nil_append, List.cons_append]
  refine wpIn_wide.2 ?_
  have hsl : (Instr.sliceAt tB (.slice (some ⟨g, off, none⟩) s.length cap) none (some (.int .i64 2)) none).run Tryd.prog w = .ok (.slice (some ⟨g, off, none⟩) 2 cap) w := by
    rw [run_sliceAt_slice Tryd.underlying23]
    have := run_slice_slice (P := Tryd.prog) (w := w) (T := tB) (E := tb) (sz := 1) Tryd.underlying23 (by kernel_rfl) (a := some ⟨g, off, none⟩) (len := s.length) (cap := cap) (lo := none) (hi := some (.int .i64 2)) (mx := none) (L := 0) (H := 2) (M := cap) rfl rfl rfl (fun h => by cases h) (by omega) (by omega) (Nat.le_refl _)
    rw [this, if_neg (by omega)]
    simp [add_lit]
  go_wp2_with (first
    | (go_at_call 49; refine (C2 w (Fr.refl _ _)).mono ?_; rintro x w1 ⟨rfl, rfl⟩))
  have gd : Fr [] w w.drew := Fr.drew w
  refine wp_region_all (C := fun X => X = w.drew) (by kernel_rfl) (by kernel_rfl) rfl ?_
  refine wpQuiet_move rfl _ rfl (v := .slice (some ⟨g, off, none⟩) s.length cap) rfl ?_; simp only [Act.put, List.setIfInBounds_toArray, List.set_cons_succ, List.set_cons_zero]
  refine wpQuiet_slice rfl _ _ _ _ _ rfl rfl Tryd.underlying23 (sz := 1) (by kernel_rfl) 24 28 cap rfl rfl rfl (fun h => by cases h) (by omega) (by omega) (Nat.le_refl _) (.slice (some ⟨g, off + 24, none⟩) 4 (cap - 24)) (by rw [if_neg (by omega)]; simp [add_lit]) ?_; simp only [Act.put, List.setIfInBounds_toArray, List.set_cons_succ, List.set_cons_zero]
  refine wpQuiet_call rfl (.int .i64 E) 49 #[.slice (some ⟨g, off + 24, none⟩) 4 (cap - 24)] (fun W => by kernel_rfl) (fun X hX => by rw [hX]; exact (CE w.drew gd).mono (fun e w' h => ⟨h.1, h.2.symm⟩)) ?_; simp only [Act.put, List.setIfInBounds_toArray, List.set_cons_succ, List.set_cons_zero]
  refine wpQuiet_move rfl _ rfl (v := .slice (some ⟨g, off, none⟩) s.length cap) rfl ?_; simp only [Act.put, List.setIfInBounds_toArray, List.set_cons_succ, List.set_cons_zero]
  refine wpQuiet_slice rfl _ _ _ _ _ rfl rfl Tryd.underlying23 (sz := 1) (by kernel_rfl) 28 32 cap rfl rfl rfl (fun h => by cases h) (by omega) (by omega) (Nat.le_refl _) (.slice (some ⟨g, off + 28, none⟩) 4 (cap - 28)) (by rw [if_neg (by omega)]; simp [add_lit]) ?_; simp only [Act.put, List.setIfInBounds_toArray, List.set_cons_succ, List.set_cons_zero]
  refine wpQuiet_call rfl (.int .i64 Q) 49 #[.slice (some ⟨g, off + 28, none⟩) 4 (cap - 28)] (fun W => by kernel_rfl) (fun X hX => by rw [hX]; exact (CQ w.drew gd).mono (fun e w' h => ⟨h.1, h.2.symm⟩)) ?_; simp only [Act.put, List.setIfInBounds_toArray, List.set_cons_succ, List.set_cons_zero]
  refine wpQuiet_assign rfl _ rfl (v := .int .i64 E) rfl ?_; simp only [Act.put, List.setIfInBounds_toArray, List.set_cons_succ, List.set_cons_zero]
  refine wpQuiet_assign rfl _ rfl (v := .int .i64 Q) rfl ?_; simp only [Act.put, List.setIfInBounds_toArray, List.set_cons_succ, List.set_cons_zero]
  refine wpQuiet_nil ?_
  rintro X rfl
  clear C2 CE CQ hsl
  by_cases hlt : s.length < n * 32
  · go_wp2_with (go_at_call 39; refine (CN w.drew).mono ?_; rintro x w1 ⟨rfl, rfl⟩)
    refine ⟨_, results_tmp5 rfl _ _ _, ?_⟩
    have hno : lift s = none := lift_none2 s hs (by rw [← HA.out.1]; omega)
    unfold Lifted
    rw [hno]
    exact ⟨gd, rfl⟩
  · have hge : 32 * n ≤ s.length := by omega
    obtain ⟨T, hT, hTl⟩ : ∃ T, T = s.take (32 * n) ∧ T.length = 32 * n := ⟨_, rfl, by simp; omega⟩
    have ST : BS w (.slice (some ⟨g, off, none⟩) (32 * n) cap) T := by rw [hT]; simpa using hv.part 0 (32 * n) cap (by omega) (by omega) (by omega) (by omega)
    have HT := Lib.hid hT
    have HTl := Lib.hid hTl
    clear hT hTl
    go_wp2_with (first
      | (go_at_call 39; refine (CN w.drew).mono ?_; rintro x w1 ⟨rfl, rfl⟩)
      | (go_at_call 46; refine (slices_Chunk (some ⟨g, off, none⟩) (n * 32) cap 32 (by omega)).mono ?_; rintro x w7 ⟨b2, b3, rfl, hb21, hb31, K2, K3, f8⟩))
    rw [Nat.mul_comm n 32] at K2
    have fa : Fr [] w (w.alloc (.cells #[.slice none 0 0] tB)).drew := (Fr.alloc w _).trans (Fr.drew _)
    have f07 : Fr [] w w7 := fa.trans f8
    have B8 : Blk w7 w.heap.size (.cells #[.slice none 0 0] tB (0, 0)) := Blk.keep0 (Blk.keep0 (w := w.alloc (.cells #[.slice none 0 0] tB)) ⟨Go.heap_alloc_new w _⟩ (Fr.drew _)) f8
    have hlt7 : w.heap.size < w7.heap.size := B8.lt
    have STw := ST.keep0 f07
    have Svw := hv.keep0 f07
    have hb2l := K2.lt
    have hb3l := K3.lt
    simp at hb21 hb31
    refine (wpIn_wide (n := 8)).1 ?_
    refine wpIn_rangeFunc_ownG rfl (by omega) (gf := 63) (lb := #[.pointer (some ⟨b2, 0, none⟩), .pointer (some ⟨b3, 0, none⟩)]) rfl trivial (enters_of Tryd.func63 (by kernel_rfl) rfl)
      (chunk_stops (8 - 1) b2 b3 g off (32 * n) cap 32 n (by omega) (by omega) (by omega) (by omega) (by omega) (fun k => by omega) w7 K2 K3)
      KpB.t (KpB.b hb2l hb3l) (Below.refl _ _) (fun _ => rfl)
      (LiftInv w7 w.heap.size (.slice (some ⟨g, off, none⟩) s.length cap) (.slice (some ⟨g, off, none⟩) (32 * n) cap) s T) (fun _ _ _ => False) (LiftInv.from _ _ _ _ _ _) (fun _ _ _ _ _ h _ _ => h)
      ⟨_, B8, OB.nil _ _, Svw, STw, Fr.refl _ _⟩ ?a1 ?assign ?body ?done ?stop
    case assign =>
      intro l x W K hK
      gi_wp2
      exact hK
    case body =>
      intro l pre x W hI hN
      obtain ⟨u, I8, OU, J1, J2, F1⟩ := hI.out
      have hg0 : g < w.heap.size := hv.lt (by have := x.2; omega) rfl
      have hck := J2
      rw [← HTl.out] at hck
      have hck := hck.ck 32 x.1
      rw [HTl.out] at hck
      obtain ⟨P, hP, hPl⟩ : ∃ P, P = pc 32 T x.1 ∧ P.length = 32 := ⟨_, rfl, by simp [pc, HTl.out]; have := x.2; omega⟩
      rw [← hP] at hck
      have hlen := length_heads T (pre.map (·.1)) (fun y hy => by
        obtain ⟨z, _, rfl⟩ := List.mem_map.1 hy
        rw [HTl.out]; have := z.2; omega)
      rw [List.length_map] at hlen
      have HS : Hid (heads T ((pre ++ [x]).map (·.1)) = heads T (pre.map (·.1)) ++ P.take 24) := by
        rw [Hid, hP]; unfold heads; simp
      have hP24 : (P.take 24).length = 24 := by simp [hPl]
      obtain ⟨cp, hshape, hcp⟩ : ∃ cp, ckV g off 32 (32 * n) x.1 = .slice (some ⟨g, off + 32 * x.1, none⟩) 32 cp ∧ 32 ≤ cp := by
        obtain ⟨ad', cap', h, h5, _⟩ := hck.shape
        refine ⟨cap', ?_, by omega⟩
        have h2 := h
        unfold ckV at h2
        simp only [Value.slice.injEq] at h2
        rw [h, ← h2.1, hPl]
      rw [hshape] at hck
      have S24 : BS W (.slice (some ⟨g, off + 32 * x.1, none⟩) 24 cp) (P.take 24) := by simpa using hck.part 0 24 cp (by omega) (by omega) (by omega) (by omega)
      have HV := Lib.hid hshape
      have HP24 := Lib.hid hP24
      clear hshape hP hPl hP24
      rw [HV.out]
      gi_wp2
      have c8 : W.drew.cell? ⟨w.heap.size, 0, none⟩ = some u := cellOf (I8.keep0 (Fr.drew W)).out rfl
      refine wpIn_region_chain (C := fun X => X = W.drew) 3 (by kernel_rfl) (by kernel_rfl) (by kernel_rfl) (by rintro ⟨_, _, h⟩; exact h) rfl ?_
      refine wpQuiet_load rfl _ _ rfl rfl _ Tryd.underlying23 rfl (fun X hX => by rw [hX]; exact c8) ?_; simp only [Act.put, List.setIfInBounds_toArray, List.set_cons_succ, List.set_cons_zero]
      refine wpQuiet_move rfl _ rfl (v := .slice (some ⟨g, off + 32 * x.1, none⟩) 32 cp) rfl ?_; simp only [Act.put, List.setIfInBounds_toArray, List.set_cons_succ, List.set_cons_zero]
      refine wpQuiet_slice rfl _ _ _ _ _ rfl rfl Tryd.underlying23 (sz := 1) (by kernel_rfl) 0 24 cp rfl rfl rfl (fun h => by cases h) (by omega) (by omega) (Nat.le_refl _) (.slice (some ⟨g, off + 32 * x.1, none⟩) 24 cp) (by rw [if_neg (by omega)]; simp [add_lit]) ?_; simp only [Act.put, List.setIfInBounds_toArray, List.set_cons_succ, List.set_cons_zero]
      refine wpQuiet_nil ?_
      rintro X rfl
      refine wpList_append_bytes rfl _ _ rfl rfl rfl (OU.keep0 (Fr.drew W)) (S24.keep0 (Fr.drew W)) (by rw [hlen, HP24.out]; have := hN; omega) F1.size ?_
      intro u1 W1 O1 e1
      have e1 : Fr u.ownBlock.toList W.drew W1 := e1
      have I1 := (I8.keep0 (Fr.drew W)).keep e1 (OU.notOwn hlt7)
      simp only [Act.put, List.setIfInBounds_toArray, List.set_cons_succ, List.set_cons_zero]
      refine wpList_store_box rfl _ _ _ rfl rfl rfl (by kernel_rfl) O1.one.1 O1.one.2 I1 ?_
      intro W2 I2 e2
      have O2 := O1.keep e2 (O1.notBox hlt7)
      rw [← HS.out] at O2
      obtain ⟨S, hS⟩ : ∃ S, S = w.heap.size :: u.ownBlock.toList := ⟨_, rfl⟩
      have E2 : Fr S W W2 := by
        rw [hS]
        exact (((Fr.drew W).mono (by simp)).trans (e1.mono (fun k hk => List.mem_cons_of_mem _ hk))).trans (e2.mono (by simp))
      have hSlt : ∀ k, k ∈ S → k = w.heap.size ∨ w7.heap.size ≤ k := fun k hk => by
        rw [hS] at hk
        simp at hk
        rcases hk with rfl | hk
        · exact .inl rfl
        · exact .inr (OU.ge hk)
      have hno : ∀ k, k ≠ w.heap.size → k < w7.heap.size → k ∉ S := fun k h1 h2 hk => by rcases hSlt k hk with h | h <;> omega
      have hs7 := F1.size
      have hk : KeepsFrom w7.heap.size W W2 := ((Keeps.of_Fr (Fr.drew W) (fun k hk => by cases hk)).trans (Keeps.of_Fr e1 (CellsAt.own (OU.keep0 (Fr.drew W))))).trans (Keeps.of_Fr e2 (CellsAt.box I1))
      have hkp : KpB b2 b3 W W2 := KpB.of_Fr E2 (by omega) (by omega) (hno _ (by omega) (by omega)) (hno _ (by omega) (by omega))
      have hli : LiftInv w7 w.heap.size (.slice (some ⟨g, off, none⟩) s.length cap) (.slice (some ⟨g, off, none⟩) (32 * n) cap) s T (pre ++ [x]) W2 :=
        ⟨_, I2, O2, J1.keep E2 (fun k hk => by
          obtain rfl : g = k := by simpa [Value.ownBlock] using hk
          exact hno _ (by omega) (by omega)), J2.keep E2 (fun k hk => by
          obtain rfl : g = k := by simpa [Value.ownBlock] using hk
          exact hno _ (by omega) (by omega)), F1.then E2 (fun k hk => by rcases hSlt k hk with h | h; exact .inl (by simp [h]); exact .inr h)⟩
      exact ⟨hk, hkp, hli⟩
    case done =>
      rintro D xs W hD hxs hI hk
      obtain ⟨u, I8, OU, J1, J2, F1⟩ := hI.out
      rw [hxs] at OU
      have hg0 : g < w.heap.size := hv.lt (by omega) rfl
      obtain ⟨H0, hH0, hH0l⟩ : ∃ H, H = heads T (List.range n) ∧ H.length = 24 * n := ⟨_, rfl, by
        rw [length_heads T _ (fun y hy => by rw [HTl.out]; have := List.mem_range.1 hy; omega)]; simp⟩
      rw [← hH0] at OU
      obtain ⟨B, hB, hBl⟩ : ∃ B, B = (H0.take (2 + N)).drop 2 ∧ B.length = N := ⟨_, rfl, by simp; omega⟩
      obtain ⟨R, hR, hRl⟩ : ∃ R, R = lay E Q B ∧ R.length = 32 * n := ⟨_, rfl, by
        have hcn : cnt N = n := by rw [HA.out.2.1]; exact HA.out.1.symm
        rw [length_lay, hBl, hcn]⟩
      have hlift : Hid (lift s = if R = s.take (32 * n) then some (E, Q, B, n) else none) := by
        have := lift_eq s hs (by rw [← HA.out.1]; exact hge)
        obtain ⟨a1, a2, a3, a4⟩ := HA.out
        rw [← a1, ← a2, ← a3, ← a4, ← HT.out, ← hH0] at this
        have hB' : (H0.drop 2).take N = B := by rw [hB, List.drop_take]; congr 1; omega
        rw [hB', ← hR] at this
        rw [Hid, ← HT.out]
        exact this
      have CL := fun (W : World) (u : Value) (h : BS W u B) => by
        have := sheet_Lay h E Q hE2 hQ2 (by omega)
        rw [← hR] at this
        exact this
      have hR1 : R.length ≤ 32 * n := by omega
      have hR2 : 32 * n ≤ R.length := by omega
      have HRl := Lib.hid hRl
      have HBl := Lib.hid hBl
      have HB := Lib.hid hB
      have hH1 : 24 * n ≤ H0.length := by omega
      have hH2 : H0.length ≤ 24 * n := by omega
      clear hH0 hH0l hB hBl hR hRl
      by_cases hRT : R = T
      · have hEq : Hid (decide (R = T) = true) := decide_eq_true hRT
        have hlf : lift s = some (E, Q, B, n) := by rw [hlift.out, ← HT.out, if_pos hRT]
        have hlift := Lib.hid hlf
        clear hRT hlf
        gi_wp2
        go_wp2_with (first
          | ((with_reducible show wpList _ _ _ (Oper.mk (some 41) _ _ _ _ _ :: _) _ _); refine wpList_load_box rfl _ _ rfl rfl Tryd.underlying23 rfl I8 ?_)
          | ((with_reducible show wpList _ _ _ (Oper.mk (some 44) _ _ _ _ _ :: _) _ _); refine wpList_slice_bytes rfl _ _ _ _ rfl rfl OU.bs 2 (2 + N) rfl (by simp [VIs, Act.eval]) (fun cap hc => ⟨cap, rfl, by omega, Nat.le_refl _⟩) (fun h => by cases h) (by omega) (by omega) ?_; intro ad1 cap1 hb1 ho1; clear ho1; rw [← HB.out, Nat.add_sub_cancel_left] at hb1)
          | (go_at_call 50; refine (slices_Clone hb1 (by rw [HBl.out]; omega)).mono ?_; rintro x W1 ⟨u4, rfl, O4, e1⟩)
          | (go_at_call 40; refine (CL W1 u4 O4.bs).mono ?_; rintro x W2 ⟨u5, rfl, S5, o5, e2⟩; obtain ⟨a5, c5, rfl, _, _⟩ := S5.shape
             have S3 : BS W2 (.slice (some ⟨g, off, none⟩) R.length cap) T := by rw [HRl.out]; exact (J2.keep0 e1).keep0 e2)
          | (go_at_call 51; refine (bytes_Equal S5 S3).mono ?_; rintro x W3 ⟨rfl, rfl⟩; rw [hEq.out])
          | (go_at_call 52; refine (slices_Clip (O4.bs.keep0 e2)).mono ?_; rintro x W4 ⟨⟨a6, c6, rfl, S6, o6⟩, rfl⟩))
        have h1 : Fr [] w W := f07.then F1 (fun k hk => .inr (by
          obtain rfl : k = w.heap.size := by simpa using hk
          exact Nat.le_refl _))
        have h2 : Fr [] w W2 := (h1.trans e1).trans e2
        have hk2 := e2.keep (e1.keep hk (by simp)) (by simp)
        have h3 : Fr [] w (W2.putObj D (.deferred none)) := h2.grownFrom (grownBy_putObj' W2 D _) (fun r e => by cases e; have := f07.size; omega)
        refine ⟨by simp, .inl ⟨_, _, rfl, run_takeDeferred hk2, ?_⟩⟩
        refine ⟨_, results_tmp5 rfl _ _ _, ?_⟩
        unfold Lifted
        rw [hlift.out]
        refine ⟨h3, _, rfl, ?_, ?_⟩
        · exact S6.grownFrom (grownBy_putObj' W2 D _) (fun r e => by cases e; exact ⟨_, hk2, rfl⟩)
        · intro k hk'
          have q1 := World.ownsRow.lt O4 k (o6 k hk')
          have := h1.size
          have := e2.size
          have := (Fr.of_grown (grownBy_putObj' W2 D (.deferred none))).size
          omega
      · have hEq : Hid (decide (R = T) = false) := decide_eq_false hRT
        have hlf : lift s = none := by rw [hlift.out, ← HT.out, if_neg hRT]
        have hlift := Lib.hid hlf
        clear hRT hlf
        gi_wp2
        go_wp2_with (first
          | ((with_reducible show wpList _ _ _ (Oper.mk (some 41) _ _ _ _ _ :: _) _ _); refine wpList_load_box rfl _ _ rfl rfl Tryd.underlying23 rfl I8 ?_)
          | ((with_reducible show wpList _ _ _ (Oper.mk (some 44) _ _ _ _ _ :: _) _ _); refine wpList_slice_bytes rfl _ _ _ _ rfl rfl OU.bs 2 (2 + N) rfl (by simp [VIs, Act.eval]) (fun cap hc => ⟨cap, rfl, by omega, Nat.le_refl _⟩) (fun h => by cases h) (by omega) (by omega) ?_; intro ad1 cap1 hb1 ho1; clear ho1; rw [← HB.out, Nat.add_sub_cancel_left] at hb1)
          | (go_at_call 50; refine (slices_Clone hb1 (by rw [HBl.out]; omega)).mono ?_; rintro x W1 ⟨u4, rfl, O4, e1⟩)
          | (go_at_call 40; refine (CL W1 u4 O4.bs).mono ?_; rintro x W2 ⟨u5, rfl, S5, o5, e2⟩; obtain ⟨a5, c5, rfl, _, _⟩ := S5.shape
             have S3 : BS W2 (.slice (some ⟨g, off, none⟩) R.length cap) T := by rw [HRl.out]; exact (J2.keep0 e1).keep0 e2)
          | (go_at_call 51; refine (bytes_Equal S5 S3).mono ?_; rintro x W3 ⟨rfl, rfl⟩; rw [hEq.out])
          | (go_at_call 52; refine (slices_Clip (O4.bs.keep0 e2)).mono ?_; rintro x W4 ⟨⟨a6, c6, rfl, S6, o6⟩, rfl⟩))
        have h1 : Fr [] w W := f07.then F1 (fun k hk => .inr (by
          obtain rfl : k = w.heap.size := by simpa using hk
          exact Nat.le_refl _))
        have h2 : Fr [] w W2 := (h1.trans e1).trans e2
        have hk2 := e2.keep (e1.keep hk (by simp)) (by simp)
        have h3 : Fr [] w (W2.putObj D (.deferred none)) := h2.grownFrom (grownBy_putObj' W2 D _) (fun r e => by cases e; have := f07.size; omega)
        refine ⟨by simp, .inl ⟨_, _, rfl, run_takeDeferred hk2, ?_⟩⟩
        refine ⟨_, results_tmp5 rfl _ _ _, ?_⟩
        unfold Lifted
        rw [hlift.out]
        exact ⟨h3, rfl⟩
    case stop =>
      rintro D c pre W _ _ h _
      exact h.elim

theorem sheet_Lift {w : World} {v : Value} {s : Bytes} (hv : BS w v s) (hs2 : s.length ≤ 4194304) : Calls Tryd.prog 32 #[v] w (Lifted w s) := by
  by_cases h : s.length < 32
  · exact sheet_Lift_a hv h
  · exact sheet_Lift_b hv (by omega) hs2
end Gd
