/- wal: extent.write. -/
import Derived.Test.YtccgpblecgapaaaDoorExt
set_option linter.unusedSimpArgs false
set_option linter.unusedVariables false
namespace Gd
open Go Go.Proofs Go.RowKit
attribute [local go_sem] Oper.semAt_some

theorem disk_Write_in {w : World} {p s m : Nat} {D : Dk} (h : DiskAt w p s m D) (i : Nat) (hi : i < D.sure.length) {v : Value} {b : Bytes} (hv : BS w v b) (hb : b.length = 32) (hvs : ∀ g, v.ownBlock = some g → g ≠ p ∧ g ≠ m) :
    Calls Tryd.prog 47 #[.pointer (some ⟨p, 0, none⟩), .int .i64 i, v] w fun e w' => e = .returned (.int .i64 (D.write i b).2) ∧ DiskAt w' p s m (D.write i b).1 ∧ Fr [p, m] w w' := by
  have hw : D.write i b = match spend D.fuse with | none => (D, 10) | some f => ({ D with writes := w64 (D.writes + 1), fuse := f, pend := putPend i ⟨b, w64 (D.writes + 1)⟩ D.pend }, 0) := by
    unfold Dk.write
    rw [if_neg (by unfold Dk.size; omega)]
    rfl
  cases hf : spend D.fuse with
  | none =>
    rw [hw, hf]
    exact (disk_Write_down h i hi hv hb hf).mono (fun e w' h' => ⟨h'.1, h'.2 ▸ h, Fr.of_same h'.2 _⟩)
  | some f =>
    rw [hw, hf]
    exact (disk_Write_ok h i hi hv hb hvs hf).mono (fun e w' h' => h')

/-! ### the plain part -/
theorem write_sure (D : Dk) (i : Int) (b : Bytes) : (D.write i b).1.sure = D.sure := by
  unfold Dk.write
  split
  · rfl
  · split <;> rfl
theorem lays_snoc (D : Dk) (x : Bytes) : ∀ (L : List Bytes) (D0 : Dk) (a : Nat), D0.lays a L = (D, 0) → D0.lays a (L ++ [x]) = D.write (a + L.length : Nat) x
  | [], D0, a, h => by
    simp only [Dk.lays, Prod.mk.injEq, and_true] at h
    subst h
    simp only [List.nil_append, Dk.lays, List.length_nil, Nat.add_zero]
    generalize D0.write (a : Int) x = r
    obtain ⟨d, e⟩ := r
    by_cases he : e = 0
    · subst he; rfl
    · simp [he]
  | s :: L, D0, a, h => by
    simp only [List.cons_append, Dk.lays] at h ⊢
    generalize hr : D0.write (a : Int) s = r at h ⊢
    obtain ⟨d, e⟩ := r
    by_cases he : e = 0
    · subst he
      have := lays_snoc D x L d (a + 1) h
      simp only [this, List.length_cons]
      congr 2
      omega
    · simp [he] at h
theorem lays_stop (D : Dk) (e : Int) (he : e ≠ 0) (R : List Bytes) : ∀ (L : List Bytes) (D0 : Dk) (a : Nat), D0.lays a L = (D, e) → D0.lays a (L ++ R) = (D, e)
  | [], D0, a, h => by
    simp only [Dk.lays, Prod.mk.injEq] at h
    exact absurd h.2.symm he
  | s :: L, D0, a, h => by
    simp only [List.cons_append, Dk.lays] at h ⊢
    generalize hr : D0.write (a : Int) s = r at h ⊢
    obtain ⟨d, e'⟩ := r
    by_cases he' : e' = 0
    · subst he'
      exact lays_stop D e he R L d (a + 1) h
    · simp [he'] at h ⊢
      exact h

/-! ### the walk -/
theorem results_box {P : Program} {fn : Func} {p : Tmp} {ty : TypeId} (h : fn.results = #[.cell p ty]) (tmps : Array Value) (w : World) (g : Nat) (t : TypeId) (u : Value) (fr : Nat × Nat) (d : TypeDesc)
    (hp : tmps.getD p undef = .pointer (some ⟨g, 0, none⟩)) (hg : Blk w g (.cells #[u] t fr)) (hu : P.underlying ty = some d) (hd : aggD d = false) :
    (results fn tmps).run P w = .ok u w := by
  have hagg : (isAgg ty).run P w = .ok false w := by
    unfold isAgg; rw [Sem.run_bind, run_underlying hu w]; cases d <;> simp_all [aggD]
  have hc : w.cell? ⟨g, 0, none⟩ = some u := cellOf hg.out rfl
  have hl : (loadVar ty ⟨g, 0, none⟩).run P w = .ok u w := by
    simp only [loadVar, Sem.run_bind, hagg, Result.andThen_ok]
    simp [hc]
  have hp' : tmps[p]?.getD undef = .pointer (some ⟨g, 0, none⟩) := by simpa using hp
  simp [results, h, Sem.run_bind, hp', asAddr, hl]
theorem Fr.thenS {S S' : List Nat} {a b c : World} (h : Fr [] a b) (g : Fr S' b c) (hs : ∀ k, k ∈ S' → k ∈ S ∨ a.heap.size ≤ k) : Fr S a c :=
  (h.mono (by simp)).then g hs
theorem MapIs.grownFrom {W W' : World} {row : Option Nat} {m B : Nat} {L : List (Int × Value)} (h : MapIs W m L) (hg : W.grownBy W' row) (hm : m < B) (hr : ∀ r, row = some r → B ≤ r) : MapIs W' m L :=
  h.keep (Fr.of_grown hg) (fun hb => by have := hr m (by simpa using hb); omega)
theorem DiskAt.grownFrom {W W' : World} {row : Option Nat} {p s m B : Nat} {D : Dk} (h : DiskAt W p s m D) (hg : W.grownBy W' row) (hp : p < B) (hs : s < B) (hm : m < B) (hr : ∀ r, row = some r → B ≤ r) : DiskAt W' p s m D :=
  h.keep (Fr.of_grown hg) (fun hb => by have := hr p (by simpa using hb); omega) (fun hb => by have := hr s (by simpa using hb); omega) (fun hb => by have := hr m (by simpa using hb); omega)
theorem Keeps.of_FrB {B : Nat} {S : List Nat} {W W' : World} (h : Fr S W W') (hS : ∀ k, k ∈ S → k < B ∨ ∀ o, W.heap[k]? = some o → o.isCells = true) : KeepsFrom B W W' :=
  ⟨h.size, fun k o hk hk' ho => by
    by_cases hks : k ∈ S
    · rcases hS k hks with h1 | h1
      · omega
      · have := h1 o hk'; rw [ho] at this; cases this
    · exact h.keep hk' hks⟩

structure WrInv {K : Nat} (wl : World) (p s m b4 b5 bx : Nat) (D : Dk) (a c : Nat) (v : Value) (bs : Bytes) (S : List Nat) (pre : List (Fin K)) (W : World) : Prop where
  out : ∃ D', D.lays a (pre.map fun x => pc 32 bs x.1) = (D', 0) ∧ DiskAt W p s m D' ∧ D'.sure = D.sure ∧ Blk W b4 (.cells #[.int .i64 0] 26 (0, 0)) ∧ Blk W b5 (.cells #[.int .i64 (a + pre.length : Nat)] 3 (0, 0)) ∧
    Blk W bx (.cells #[.pointer (some ⟨p, 0, none⟩), .int .i64 a, .int .i64 c] tX (0, 0)) ∧ BS W v bs ∧ Fr S wl W
structure WrStop {K : Nat} (wl : World) (p s m b4 : Nat) (D : Dk) (a : Nat) (bs : Bytes) (S : List Nat) (cd : Code) (pre : List (Fin K)) (W : World) : Prop where
  out : cd = .ret ∧ ∃ D' e, e ≠ 0 ∧ D.lays a (pre.map fun x => pc 32 bs x.1) = (D', e) ∧ DiskAt W p s m D' ∧ Blk W b4 (.cells #[.int .i64 e] 26 (0, 0)) ∧ Fr S wl W
theorem WrInv.from {K : Nat} (wl : World) (p s m b4 b5 bx : Nat) (D : Dk) (a c : Nat) (v : Value) (bs : Bytes) (S : List Nat) (hp : p < wl.heap.size) (hs : s < wl.heap.size) (hm : m < wl.heap.size) : OwnFrom wl.heap.size (WrInv (K := K) wl p s m b4 b5 bx D a c v bs S) := fun xs W W' row h hg hr => by
  obtain ⟨D', h1, h2, h3, h4, h5, h6, h7, h8⟩ := h.out
  have hr' := fun r e => (hr r e).2
  have hrB := fun r e => (hr r e).1
  exact ⟨D', h1, h2.grownFrom hg hp hs hm hrB, h3, h4.grownFrom hg hr', h5.grownFrom hg hr', h6.grownFrom hg hr', h7.grownFrom hg hr', h8.grownFrom hg hrB⟩
theorem WrStop.from {K : Nat} (wl : World) (p s m b4 : Nat) (D : Dk) (a : Nat) (bs : Bytes) (S : List Nat) (hp : p < wl.heap.size) (hs : s < wl.heap.size) (hm : m < wl.heap.size) (cd : Code) : OwnFrom wl.heap.size (WrStop (K := K) wl p s m b4 D a bs S cd) := fun xs W W' row h hg hr => by
  obtain ⟨h0, D', e, h1, h2, h3, h4, h8⟩ := h.out
  have hr' := fun r e => (hr r e).2
  have hrB := fun r e => (hr r e).1
  exact ⟨h0, D', e, h1, h2, h3.grownFrom hg hp hs hm hrB, h4.grownFrom hg hr', h8.grownFrom hg hrB⟩

set_option maxRecDepth 100000 in
set_option maxHeartbeats 1000000 in
theorem extent_write {w : World} {p s m : Nat} {D : Dk} (h : DiskAt w p s m D) (a c K : Nat) {v : Value} {bs : Bytes} (hv : BS w v bs) (hb : bs.length = 32 * K) (hK : 0 < K) (ha : a + K ≤ D.sure.length) (hvs : ∀ g, v.ownBlock = some g → g ≠ p ∧ g ≠ m) (hc : c ≤ 16384) :
    Calls Tryd.prog 30 #[exV (some ⟨p, 0, none⟩) a c, v] w fun e w' => e = .returned (.int .i64 (D.lays a ((List.range K).map (pc 32 bs))).2) ∧ DiskAt w' p s m (D.lays a ((List.range K).map (pc 32 bs))).1 ∧ Fr [p, m] w w' := by
  have hD := h.ok.len
  obtain ⟨ad, cap, rfl, hc1, hc2⟩ := hv.shape
  obtain ⟨g, off, rfl⟩ := hv.addr (by omega)
  have Hb := Lib.hid hb
  have hb1 : bs.length ≤ 32 * K := by omega
  have hb2 : 32 * K ≤ bs.length := by omega
  clear hb
  unfold exV
  refine callsIn_wide.1 (callsIn_of_wp_marks (n := 8) Tryd.func30 rfl trivial ?_ rfl)
  simp only [Tryd.ntmps30, List.size_toArray, List.length_cons, List.length_nil, Nat.reduceAdd, Nat.reduceSub, Array.replicate_succ, Array.replicate_zero, List.push_toArray, List.append_toArray, List.nil_append, List.cons_append]
  refine wpIn_wide.2 ?_
  go_wp2_with (first
    | (go_at_call 46; refine (slices_Chunk (some ⟨g, off, none⟩) bs.length cap 32 (by omega)).mono ?_; rintro x w7 ⟨c2, c3, rfl, hc21, hc31, K2, K3, f8⟩))
  obtain ⟨lp, ls, lm⟩ := h.lt
  have hg0 : g < w.heap.size := hv.lt (by omega) rfl
  obtain ⟨w1, hw1⟩ : ∃ w1, w1 = w.alloc (.cells #[.pointer (some ⟨p, 0, none⟩), .int .i64 a, .int .i64 c] tX) := ⟨_, rfl⟩
  have f3 : Fr [] w ((w1.alloc (.cells #[.int .i64 0] 26)).alloc (.cells #[.int .i64 a] 3)) := by
    rw [hw1]; exact ((Fr.alloc _ _).trans (Fr.alloc _ _)).trans (Fr.alloc _ _)
  have hs1 : w1.heap.size = w.heap.size + 1 := by rw [hw1]; simp
  have B5 : Blk w7 (w.heap.size + 1 + 1) (.cells #[.int .i64 a] 3 (0, 0)) := by
    refine Blk.keep0 ⟨?_⟩ f8
    have := Go.heap_alloc_new ((w.alloc (.cells #[.pointer (some ⟨p, 0, none⟩), .int .i64 a, .int .i64 c] tX)).alloc (.cells #[.int .i64 0] 26)) (.cells #[.int .i64 a] 3)
    simpa using this
  have B4 : Blk w7 (w.heap.size + 1) (.cells #[.int .i64 0] 26 (0, 0)) := by
    refine Blk.keep0 (Blk.keep0 ⟨?_⟩ (Fr.alloc _ _)) f8
    have := Go.heap_alloc_new (w.alloc (.cells #[.pointer (some ⟨p, 0, none⟩), .int .i64 a, .int .i64 c] tX)) (.cells #[.int .i64 0] 26)
    simpa using this
  have BX : Blk w7 w.heap.size (.cells #[.pointer (some ⟨p, 0, none⟩), .int .i64 a, .int .i64 c] tX (0, 0)) :=
    Blk.keep0 (Blk.keep0 (Blk.keep0 ⟨Go.heap_alloc_new w _⟩ (Fr.alloc _ _)) (Fr.alloc _ _)) f8
  have f07 : Fr [] w w7 := by rw [hw1] at f3; exact f3.trans f8
  clear f3 hs1 hw1
  have hlt5 := B5.lt
  have hb2l := K2.lt
  have hb3l := K3.lt
  simp at hc21 hc31
  have h7 := h.keep0 f07
  have hv7 := hv.keep0 f07
  obtain ⟨S, hS⟩ : ∃ S, S = [p, m, w.heap.size + 1, w.heap.size + 1 + 1] := ⟨_, rfl⟩
  have HS := Lib.hid hS
  clear hS
  refine (wpIn_wide (n := 8)).1 ?_
  refine wpIn_rangeFunc_ownG rfl (by omega) (gf := 63) (lb := #[.pointer (some ⟨c2, 0, none⟩), .pointer (some ⟨c3, 0, none⟩)]) rfl trivial (enters_of Tryd.func63 (by kernel_rfl) rfl)
    (chunk_stops (8 - 1) c2 c3 g off bs.length cap 32 K (by omega) (by omega) (by omega) hc1 (by omega) (fun k => by omega) w7 K2 K3)
    KpB.t (KpB.b hb2l hb3l) (Below.refl _ _) (fun _ => rfl)
    (WrInv w7 p s m (w.heap.size + 1) (w.heap.size + 1 + 1) w.heap.size D a c (.slice (some ⟨g, off, none⟩) bs.length cap) bs S) (WrStop w7 p s m (w.heap.size + 1) D a bs S)
    (WrInv.from _ _ _ _ _ _ _ _ _ _ _ _ _ (by omega) (by omega) (by omega)) (fun cd => WrStop.from _ _ _ _ _ _ _ _ _ (by omega) (by omega) (by omega) cd)
    ⟨D, rfl, h7, rfl, B4, B5, BX, hv7, Fr.refl _ _⟩ ?a1 ?assign ?body ?done ?stop
  case assign =>
    intro l x W K hK
    gi_wp2
    exact hK
  case body =>
    intro l pre x W hI hN
    obtain ⟨D', hL, hDk, hDs, I4, I5, IX, J1, F1⟩ := hI.out
    have hck := J1.ck 32 x.1
    obtain ⟨at', hat⟩ : ∃ at', at' = a + pre.length := ⟨_, rfl⟩
    rw [← hat] at I5
    obtain ⟨P, hP, hPl⟩ : ∃ P, P = pc 32 bs x.1 ∧ P.length = 32 := ⟨_, rfl, by simp [pc]; have := x.2; omega⟩
    rw [← hP] at hck
    have hown : ∀ k, (ckV g off 32 bs.length x.1).ownBlock = some k → k ≠ p ∧ k ≠ m := fun k hk => by
      have : g = k := by simpa [ckV, Value.ownBlock] using hk
      exact hvs k (by simp [Value.ownBlock, this])
    have hin : at' < D'.sure.length := by rw [hDs]; omega
    have CW := disk_Write_in hDk at' hin hck hPl hown
    have hsn := lays_snoc D' P (pre.map fun x => pc 32 bs x.1) D a hL
    rw [List.length_map, ← hat] at hsn
    have Hat := Lib.hid hat
    have hat1 : at' ≤ 4096 := by omega
    clear hat
    have hws := write_sure D' (at' : Nat) P
    obtain ⟨⟨D2, e⟩, hr⟩ : ∃ r, r = D'.write (at' : Nat) P := ⟨_, rfl⟩
    rw [← hr] at CW hsn hws
    simp only at CW hws
    have HSN : Hid (D.lays a ((pre ++ [x]).map fun x => pc 32 bs x.1) = (D2, e)) := by
      rw [Hid, List.map_append, ← hsn, hP]; rfl
    have HDS : Hid (D2.sure = D.sure) := hws.trans hDs
    clear hr hsn hws hP hPl hL hin
    have x0 : W.cell? ⟨w.heap.size, 0, none⟩ = some (.pointer (some ⟨p, 0, none⟩)) := cellOf IX.out rfl
    have hpm4 : w.heap.size + 1 ∉ [p, m] := by simp; omega
    have hpm5 : w.heap.size + 1 + 1 ∉ [p, m] := by simp; omega
    by_cases he : e = 0
    · subst he
      gi_wp2_with (first
        | ((with_reducible show wpListIn _ _ _ _ _ (Oper.mk (some 15) _ _ _ _ _ :: _) _ _); refine wpListIn_load_box rfl _ _ rfl rfl Tryd.underlying3 rfl I5 ?_)
        | ((with_reducible show _ ∧ _); refine And.intro trivial ?_; gi_at_call 47; refine ((callsIn_wide.2 CW).inRound l).mono ?_; rintro e w2 ⟨rfl, hD2, f2⟩; have I4' := I4.keep f2 hpm4; have I5' := I5.keep f2 hpm5)
        | ((with_reducible show wpListIn _ _ _ _ _ (Oper.mk (some 21) _ _ _ _ _ :: _) _ _); refine wpListIn_load_box rfl _ _ rfl rfl Tryd.underlying3 rfl I5' ?_)
        | ((with_reducible show wpListIn _ _ _ _ _ (Oper.mk none (Op.store _ (.tmp 5) _) _ _ _ _ :: _) _ _); refine wpListIn_store_box rfl _ _ _ rfl rfl rfl (by kernel_rfl) rfl rfl I5' ?_; intro w3 I5'' f3))
      have hv1 : Value.int .i64 ((at' : Int) + 1) = .int .i64 (a + (pre ++ [x]).length : Nat) := by
        rw [Hat.out]; simp; omega
      rw [hv1] at I5''
      have f3 : Fr [w.heap.size + 1 + 1] w2 w3 := f3
      have hgp := hvs g (by simp [Value.ownBlock])
      have E : Fr [p, m, w.heap.size + 1 + 1] W w3 := (f2.mono (by simp)).trans (f3.mono (by simp))
      have hs7 := F1.size
      refine ⟨(Keeps.of_FrB f2 (fun k hk => .inl (by simp at hk; omega))).trans (Keeps.of_Fr f3 (CellsAt.box I5')), KpB.of_Fr E (by omega) (by omega) (by simp; omega) (by simp; omega), ?_⟩
      refine ⟨D2, HSN.out, hD2.keep f3 (by simp; omega) (by simp; omega) (by simp; omega), HDS.out, I4'.keep f3 (by simp), I5'', IX.keep E (by simp; omega), J1.keep E (fun k hk => ?_), F1.trans (E.mono (fun k hk => ?_))⟩
      · have : g = k := by simpa [Value.ownBlock] using hk
        simp; omega
      · rw [HS.out]; simp at hk ⊢; omega
    · gi_wp2_with (first
        | ((with_reducible show wpListIn _ _ _ _ _ (Oper.mk (some 15) _ _ _ _ _ :: _) _ _); refine wpListIn_load_box rfl _ _ rfl rfl Tryd.underlying3 rfl I5 ?_)
        | ((with_reducible show _ ∧ _); refine And.intro trivial ?_; gi_at_call 47; refine ((callsIn_wide.2 CW).inRound l).mono ?_; rintro e w2 ⟨rfl, hD2, f2⟩; have I4' := I4.keep f2 hpm4; have I5' := I5.keep f2 hpm5)
        | ((with_reducible show wpListIn _ _ _ _ _ (Oper.mk none (Op.store _ (.tmp 4) _) _ _ _ _ :: _) _ _); refine wpListIn_store_box rfl _ _ _ rfl rfl rfl (by kernel_rfl) rfl rfl I4' ?_; intro w3 I4'' f3))
      have f3 : Fr [w.heap.size + 1] w2 w3 := f3
      have E : Fr [p, m, w.heap.size + 1] W w3 := (f2.mono (by simp)).trans (f3.mono (by simp))
      refine ⟨(Keeps.of_FrB f2 (fun k hk => .inl (by simp at hk; omega))).trans (Keeps.of_Fr f3 (CellsAt.box I4')), ?_⟩
      refine ⟨rfl, D2, e, he, HSN.out, hD2.keep f3 (by simp; omega) (by simp; omega) (by simp; omega), I4'', F1.trans (E.mono (fun k hk => ?_))⟩
      rw [HS.out]; simp at hk ⊢; omega
  case done =>
    rintro D1 xs W hD1 hxs hI hk
    obtain ⟨D', hL, hDk, hDs, I4, I5, IX, J1, F1⟩ := hI.out
    have hLL : (xs.map fun x => pc 32 bs x.1) = (List.range K).map (pc 32 bs) := by
      rw [← hxs, List.map_map]; rfl
    rw [hLL] at hL
    have HL := Lib.hid hL
    clear hL hLL
    gi_wp2
    go_wp2_with ((with_reducible show wpList _ _ _ (Oper.mk none (Op.store _ (.tmp 4) _) _ _ _ _ :: _) _ _); refine wpList_store_box rfl _ _ _ rfl rfl rfl (by kernel_rfl) rfl rfl I4 ?_; intro w3 I4' f3)
    have hk3 : w3.heap[D1]? = some (.deferred (some [])) := f3.keep hk (by simp; omega)
    refine ⟨by simp, .inl ⟨_, _, rfl, run_takeDeferred hk3, ?_⟩⟩
    have hbx : Blk (w3.putObj D1 (.deferred none)) (w.heap.size + 1) (.cells #[.int .i64 0] 26 (0, 0)) := I4'.grownFrom (grownBy_putObj' w3 D1 _) (fun r e => by cases e; exact ⟨_, hk3, rfl⟩)
    refine ⟨_, results_box rfl _ _ (w.heap.size + 1) _ _ _ _ rfl hbx Tryd.underlying26 rfl, ?_⟩
    rw [HL.out]
    have hlt := hDk.lt
    refine ⟨rfl, (hDk.keep f3 (by simp; omega) (by simp; omega) (by simp; omega)).grownFrom (B := w7.heap.size) (grownBy_putObj' w3 D1 _) (by omega) (by omega) (by omega) (fun r e => by cases e; exact hD1), ?_⟩
    have h1 : Fr [p, m] w W := f07.thenS F1 (fun k hk => by rw [HS.out] at hk; simp at hk ⊢; omega)
    have h2 : Fr [p, m] w w3 := h1.then f3 (fun k hk => by simp at hk ⊢; omega)
    exact h2.grownFrom (grownBy_putObj' w3 D1 _) (fun r e => by cases e; have := f07.size; omega)
  case stop =>
    rintro D1 cd pre W hD1 hpre hI hk
    obtain ⟨rfl, D', e, he, hL, hDk, I4, F1⟩ := hI.out
    have hlt := hDk.lt
    obtain ⟨j, hj, hpj⟩ := hpre
    have hLL : (List.range K).map (pc 32 bs) = (pre.map fun x => pc 32 bs x.1) ++ ((List.range (K - j)).map fun i => pc 32 bs (j + i)) := by
      have : (pre.map fun x => pc 32 bs x.1) = (List.range j).map (pc 32 bs) := by rw [← hpj, List.map_map]; rfl
      rw [this, show K = j + (K - j) by omega, List.range_add, List.map_append, List.map_map]
      congr 2
      · congr 1; omega
      
    have HL : Hid (D.lays a ((List.range K).map (pc 32 bs)) = (D', e)) := by
      rw [Hid, hLL]; exact lays_stop D' e he _ _ _ _ hL
    clear hL hLL hpj
    gi_wp2
    refine ⟨by simp, .inl ⟨_, _, rfl, run_takeDeferred hk, ?_⟩⟩
    have hbx : Blk (W.putObj D1 (.deferred none)) (w.heap.size + 1) (.cells #[.int .i64 e] 26 (0, 0)) := I4.grownFrom (grownBy_putObj' W D1 _) (fun r e => by cases e; exact ⟨_, hk, rfl⟩)
    refine ⟨_, results_box rfl _ _ (w.heap.size + 1) _ _ _ _ rfl hbx Tryd.underlying26 rfl, ?_⟩
    rw [HL.out]
    refine ⟨rfl, hDk.grownFrom (B := w7.heap.size) (grownBy_putObj' W D1 _) (by omega) (by omega) (by omega) (fun r e => by cases e; exact hD1), ?_⟩
    have h1 : Fr [p, m] w W := f07.thenS F1 (fun k hk => by rw [HS.out] at hk; simp at hk ⊢; omega)
    exact h1.grownFrom (grownBy_putObj' W D1 _) (fun r e => by cases e; have := f07.size; omega)
end Gd
