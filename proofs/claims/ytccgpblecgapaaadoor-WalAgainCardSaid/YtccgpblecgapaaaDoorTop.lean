/- wal: layout.top. -/
import Derived.Test.YtccgpblecgapaaaDoorExtW
import Derived.Test.YtccgpblecgapaaaDoorWsp
set_option linter.unusedSimpArgs false
set_option linter.unusedVariables false
namespace Gd
open Go Go.Proofs Go.RowKit
attribute [local go_sem] Oper.semAt_some

theorem topB_snoc (b : Bytes) (k : Nat) : topB b (k + 1) = max (topB b k) (sec4 (pc 32 b k)) := by
  unfold topB
  rw [List.range_succ, List.map_append, List.foldl_append]
  rfl
theorem sec4_lt (b : Bytes) : sec4 b < 4294967296 := by
  have h1 := val_lt ((b.drop 24).take 4)
  have h2 : ((b.drop 24).take 4).length ≤ 4 := by simp; omega
  have : (256 : Nat) ^ ((b.drop 24).take 4).length ≤ 256 ^ 4 := Nat.pow_le_pow_right (by omega) h2
  unfold sec4
  omega
theorem topB_lt (b : Bytes) : ∀ k, topB b k < 4294967296
  | 0 => by simp [topB]
  | k + 1 => by rw [topB_snoc]; have := topB_lt b k; have := sec4_lt (pc 32 b k); omega

theorem wpListIn_max {F : Fence} {n : Nat} {ops : Array Oper} {rest : List Oper} {o : Oper} {a : Act} {w : World} {Q : Exit → Act → World → Prop} (hg : o.guard = none) (x y : Operand) {t u : TypeId} (ho : o.op = .call { callee := .builtin .max, args := #[x, y], argTypes := #[t, u] }) {i j k : Int} (hx : a.eval x = .int .i64 i) (hy : a.eval y = .int .i64 j) (hk : max i j = k)
    (h : wpListIn F n Tryd.prog ops Q rest (a.put o.dst (.int .i64 k)) w) : wpListIn F n Tryd.prog ops Q (o :: rest) a w := by
  subst hk
  exact wpListIn_builtin hg ho (vs := #[.int .i64 i, .int .i64 j]) (by simp [hx, hy]) (fun cs => run_max i j _ _ w cs rfl) h

structure TopInv {K : Nat} (wl : World) (b3 : Nat) (v : Value) (bs : Bytes) (pre : List (Fin K)) (W : World) : Prop where
  out : Blk W b3 (.cells #[.int .i64 (((pre.map fun x => sec4 (pc 32 bs x.1)).foldl max 0 : Nat) : Int)] 3 (0, 0)) ∧ BS W v bs ∧ Fr [b3] wl W
theorem TopInv.from {K : Nat} (wl : World) (b3 : Nat) (v : Value) (bs : Bytes) : OwnFrom wl.heap.size (TopInv (K := K) wl b3 v bs) := fun xs W W' row h hg hr => by
  obtain ⟨h1, h2, h3⟩ := h.out
  exact ⟨h1.grownFrom hg (fun r e => (hr r e).2), h2.grownFrom hg (fun r e => (hr r e).2), h3.grownFrom hg (fun r e => (hr r e).1)⟩

set_option maxRecDepth 100000 in
set_option maxHeartbeats 1000000 in
theorem wal_top {w : World} {p s m : Nat} {D : Dk} (h : DiskAt w p s m D) (slot log : Nat) (h0 : 0 < 2 * slot + log) (h2 : 2 * slot + log ≤ D.sure.length) :
    Calls Tryd.prog 36 #[loV (some ⟨p, 0, none⟩) slot log] w fun e w' => e = .returned (.int .i64 (D.top (2 * slot + log))) ∧ Fr [] w w' := by
  have hD := h.ok.len
  obtain ⟨n, hn⟩ : ∃ n, n = 2 * slot + log := ⟨_, rfl⟩
  obtain ⟨R, hR, hRl⟩ : ∃ R, R = D.read 0 n ∧ R.length = 32 * n := ⟨_, rfl, by have := length_read h.ok 0 n (by omega); simpa using this⟩
  have CR : ∀ W, Fr [] w W → Calls Tryd.prog 33 #[.agg #[.pointer (some ⟨p, 0, none⟩), .int .i64 0, .int .i64 (2 * (slot : Int) + log)]] W (RetB W R) := fun W hW => by
    have := extent_read (h.keep0 hW) 0 n (by omega) (by omega)
    rw [← hR] at this
    have e : ((n : Nat) : Int) = 2 * (slot : Int) + log := by omega
    unfold exV at this
    rw [e] at this
    exact this
  have HT : Hid (D.top (2 * slot + log) = topB R n) := by rw [Hid, hR, hn]; rfl
  have Hn := Lib.hid hn
  have hn0 : 0 < n := by omega
  have hn1 : n ≤ 4096 := by omega
  have hRl1 : R.length ≤ 32 * n := by omega
  have hRl2 : 32 * n ≤ R.length := by omega
  clear hn hR hRl
  unfold loV
  refine callsIn_wide.1 (callsIn_of_wp_marks (n := 8) Tryd.func36 rfl trivial ?_ rfl)
  simp only [Tryd.ntmps36, List.size_toArray, List.length_cons, List.length_nil, Nat.reduceAdd, Nat.reduceSub, Array.replicate_succ, Array.replicate_zero, List.push_toArray, List.append_toArray, List.nil_append, List.cons_append]
  refine wpIn_wide.2 ?_
  obtain ⟨w1, hw1⟩ : ∃ w1, w1 = w.alloc (.cells #[.pointer (some ⟨p, 0, none⟩), .int .i64 slot, .int .i64 log] tL) := ⟨_, rfl⟩
  have hs1 : w1.heap.size = w.heap.size + 1 := by rw [hw1]; simp
  have f2 : Fr [] w (w1.alloc (.cells #[.int .i64 0] 3)) := by
    rw [hw1]; exact (Fr.alloc _ _).trans (Fr.alloc _ _)
  have B3 : Blk (w1.alloc (.cells #[.int .i64 0] 3)) (w.heap.size + 1) (.cells #[.int .i64 0] 3 (0, 0)) := by
    rw [← hs1]; exact ⟨Go.heap_alloc_new w1 _⟩
  have HW := Lib.hid hw1
  clear hw1
  go_wp2_with (first
    | (go_at_call 33; refine (CR _ (by rw [← HW.out]; exact f2)).mono ?_; rintro x w3 ⟨v, rfl, O3, f3⟩; obtain ⟨ad, cap, rfl, hc1, hc2⟩ := O3.bs.shape; obtain ⟨g, off, rfl⟩ := O3.bs.addr (by omega))
    | (go_at_call 46; refine (slices_Chunk (some ⟨g, off, none⟩) R.length cap 32 (by omega)).mono ?_; rintro x w7 ⟨c2, c3, rfl, hc21, hc31, K2, K3, f8⟩))
  rw [← HW.out] at f3
  have f37 := f3.trans f8
  have f07 : Fr [] w w7 := f2.trans f37
  have B7 := B3.keep0 f37
  have hlt3 := B7.lt
  have hs3 : w.heap.size + 1 < w3.heap.size := (B3.keep0 f3).lt
  have hv7 := O3.bs.keep0 f8
  have hgl : g < w3.heap.size := (World.ownsRow.lt O3 g rfl).2
  have hgB : w.heap.size + 2 ≤ g := by
    have := O3.ge (g := g) rfl
    rw [← HW.out] at this
    simp at this
    omega
  have hb2l := K2.lt
  have hb3l := K3.lt
  refine (wpIn_wide (n := 8)).1 ?_
  refine wpIn_rangeFunc_ownG rfl (by omega) (gf := 63) (lb := #[.pointer (some ⟨c2, 0, none⟩), .pointer (some ⟨c3, 0, none⟩)]) rfl trivial (enters_of Tryd.func63 (by kernel_rfl) rfl)
    (chunk_stops (8 - 1) c2 c3 g off R.length cap 32 n (by omega) (by omega) (by omega) hc1 (by omega) (fun k => by omega) w7 K2 K3)
    KpB.t (KpB.b hb2l hb3l) (Below.refl _ _) (fun _ => rfl)
    (TopInv w7 (w.heap.size + 1) (.slice (some ⟨g, off, none⟩) R.length cap) R) (fun _ _ _ => False)
    (TopInv.from _ _ _ _) (fun _ _ _ _ _ h _ _ => h)
    ⟨B7, hv7, Fr.refl _ _⟩ ?a1 ?assign ?body ?done ?stop
  case assign =>
    intro l x W K hK
    gi_wp2
    exact hK
  case body =>
    intro l pre x W hI hN
    obtain ⟨I3, J1, F1⟩ := hI.out
    have hck := J1.ck 32 x.1
    obtain ⟨P, hP, hPl⟩ : ∃ P, P = pc 32 R x.1 ∧ P.length = 32 := ⟨_, rfl, by simp [pc]; have := x.2; omega⟩
    rw [← hP] at hck
    obtain ⟨mo, hmo⟩ : ∃ mo, mo = (pre.map fun x => sec4 (pc 32 R x.1)).foldl max 0 := ⟨_, rfl⟩
    rw [← hmo] at I3
    obtain ⟨cp, hshape, hcp⟩ : ∃ cp, ckV g off 32 R.length x.1 = .slice (some ⟨g, off + 32 * x.1, none⟩) 32 cp ∧ 32 ≤ cp := by
      obtain ⟨ad', cap', h, h5, _⟩ := hck.shape
      refine ⟨cap', ?_, by omega⟩
      have h2 := h
      unfold ckV at h2
      simp only [Value.slice.injEq] at h2
      rw [h, ← h2.1, hPl]
    rw [hshape] at hck
    have S4 : BS W (.slice (some ⟨g, off + 32 * x.1 + 24, none⟩) 4 (cp - 24)) ((P.drop 24).take 4) := by
      simpa [List.drop_take] using hck.part 24 28 cp (by omega) (by omega) (by omega) (by omega)
    obtain ⟨q, hq, hql⟩ : ∃ q, q = (P.drop 24).take 4 ∧ q.length = 4 := ⟨_, rfl, by simp [hPl]⟩
    rw [← hq] at S4
    have hsec : sec4 P = val q := by rw [hq]; rfl
    have HS : Hid (((pre ++ [x]).map fun x => sec4 (pc 32 R x.1)).foldl max 0 = max mo (val q)) := by
      rw [Hid, List.map_append, List.foldl_append, ← hmo, ← hsec, hP]; rfl
    have HV := Lib.hid hshape
    have hq1 : q.length ≤ 4 := by omega
    have hq2 : 4 ≤ q.length := by omega
    clear hshape hP hPl hmo hq hql hsec
    rw [HV.out]
    have hqv : val q < 4294967296 := by
      have := val_lt q
      have h4 : (256 : Nat) ^ q.length ≤ 256 ^ 4 := Nat.pow_le_pow_right (by omega) hq1
      omega
    gi_wp2
    gi_loop [5, 23] (fun x i => ∃ k : Nat, k ≤ q.length ∧ i = .int .i64 k ∧ x = .int .i64 (val (q.take k))) (fun _ i => q.length - (intOf i).toNat)
    case atStart => exact ⟨0, by omega, rfl, by simp [val]⟩
    case round =>
      obtain ⟨k, hk, rfl, rfl⟩ := hrel
      by_cases hlt : k < q.length
      · obtain ⟨g', off', he, hcell⟩ := S4.cellAt hlt
        simp only [Option.some.injEq, Addr.mk.injEq, and_true] at he
        obtain ⟨rfl, rfl⟩ := he
        have HS4 := Lib.hid (val_snoc q k hlt)
        have hy : val (q.take k) < 256 ^ 3 := by
          have h1 := val_lt (q.take k)
          have : (q.take k).length ≤ 3 := by simp; omega
          exact Nat.lt_of_lt_of_le h1 (Nat.pow_le_pow_right (by omega) this)
        obtain ⟨y, hyk⟩ : ∃ y, y = val (q.take k) := ⟨_, rfl⟩
        rw [← hyk] at hy HS4 ⊢
        clear hyk
        gi_wp2
        refine ⟨⟨k + 1, by omega, by go_num, ?_⟩, by simp [intOf]; omega⟩
        rw [HS4.out, wrap64_u8]
        have hc := q[k].toNat_lt
        congr 1
        rw [IntWalk.wrap64_in _ (by omega)]
        omega
      · have hkl : k = q.length := by omega
        have ht : q.take k = q := by rw [hkl]; exact List.take_length
        rw [ht]
        clear ht
        obtain ⟨mx, hmx⟩ : ∃ mx : Nat, max (mo : Int) (val q : Int) = (mx : Int) := ⟨max mo (val q), by omega⟩
        have hmx1 : max mo (val q) = mx := by omega
        have Hmx := Lib.hid hmx
        rw [hmx1] at HS
        clear hmx hmx1
        gi_wp2_with (first
          | ((with_reducible show wpListIn _ _ _ _ _ (Oper.mk (some 33) _ _ _ _ _ :: _) _ _); refine wpListIn_load_box rfl _ _ rfl rfl Tryd.underlying3 rfl I3 ?_)
          | ((with_reducible show wpListIn _ _ _ _ _ (Oper.mk (some 35) _ _ _ _ _ :: _) _ _); refine wpListIn_max rfl _ _ rfl rfl rfl Hmx.out ?_)
          | ((with_reducible show wpListIn _ _ _ _ _ (Oper.mk none (Op.store _ (.tmp 3) _) _ _ _ _ :: _) _ _); refine wpListIn_store_box rfl _ _ _ rfl rfl rfl (by kernel_rfl) rfl rfl I3 ?_; intro w3 I3' f3))
        have f3 : Fr [w.heap.size + 1] W w3 := f3
        have hs7 := F1.size
        have hgs : g ≠ w.heap.size + 1 := by omega
        refine ⟨Keeps.of_Fr f3 (CellsAt.box I3), KpB.of_Fr f3 (by omega) (by omega) (by simp; omega) (by simp; omega), ?_⟩
        exact ⟨by rw [HS.out]; exact I3', J1.keep f3 (fun k hk => by
          have : g = k := by simpa [Value.ownBlock] using hk
          simp; omega), F1.trans f3⟩
  case done =>
    rintro D1 xs W hD1 hxs hI hk
    obtain ⟨I3, J1, F1⟩ := hI.out
    have hT : Hid (((xs.map fun x => sec4 (pc 32 R x.1)).foldl max 0 : Nat) = D.top (2 * slot + log)) := by
      rw [Hid, HT.out]
      unfold topB
      rw [← hxs, List.map_map]
      rfl
    rw [hT.out] at I3
    gi_wp2
    go_wp2_with ((with_reducible show wpList _ _ _ (Oper.mk (some 36) _ _ _ _ _ :: _) _ _); refine wpList_load_box rfl _ _ rfl rfl Tryd.underlying3 rfl I3 ?_)
    refine ⟨by simp, .inl ⟨_, _, rfl, run_takeDeferred hk, ?_⟩⟩
    refine ⟨_, results_tmp rfl _ _ _, rfl, ?_⟩
    have h1 : Fr [] w W := f07.then F1 (fun k hk => .inr (by
      obtain rfl : k = w.heap.size + 1 := by simpa using hk
      omega))
    exact h1.grownFrom (grownBy_putObj' W D1 _) (fun r e => by cases e; have := f07.size; omega)
  case stop =>
    rintro D1 cd pre W _ _ h _
    exact h.elim
end Gd
