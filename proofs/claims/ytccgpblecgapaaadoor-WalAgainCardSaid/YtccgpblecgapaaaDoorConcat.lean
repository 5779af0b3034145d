/- slices.Grow and slices.Concat at bytes; lists of slices. -/
import Derived.Test.YtccgpblecgapaaaDoorOctet
set_option linter.unusedSimpArgs false
set_option linter.unusedVariables false
namespace Gd
open Go Go.Proofs Go.RowKit

/-- The value v is a slice whose elements are these values. -/
structure VS (w : World) (v : Value) (us : List Value) : Prop where
  out : (v = .slice none 0 0 ∧ us = []) ∨ ∃ g off cap c t z, v = .slice (some ⟨g, off, none⟩) us.length cap ∧ us.length ≤ cap ∧ cap ≤ maxLen ∧
    w.heap[g]? = some (.cells c t z) ∧ ∀ i u, us[i]? = some u → c[off + i]? = some u
theorem VS.shape {w : World} {v : Value} {us : List Value} (h : VS w v us) : ∃ a cap, v = .slice a us.length cap ∧ us.length ≤ cap ∧ cap ≤ maxLen := by
  rcases h.out with ⟨rfl, rfl⟩ | ⟨g, off, cap, c, t, z, rfl, h2, h3, _⟩
  · exact ⟨none, 0, rfl, Nat.le_refl _, by unfold maxLen; omega⟩
  · exact ⟨_, cap, rfl, h2, h3⟩
theorem VS.keep {S : List Nat} {w w' : World} {v : Value} {us : List Value} (h : VS w v us) (hf : Fr S w w') (hn : ∀ g, v.ownBlock = some g → g ∉ S) : VS w' v us := by
  rcases h.out with h1 | ⟨g, off, cap, c, t, z, rfl, h2, h3, h4, h5⟩
  · exact ⟨.inl h1⟩
  · exact ⟨.inr ⟨g, off, cap, c, t, z, rfl, h2, h3, hf.keep h4 (hn g rfl), h5⟩⟩
theorem VS.keep0 {w w' : World} {v : Value} {us : List Value} (h : VS w v us) (hf : Fr [] w w') : VS w' v us := h.keep hf (fun _ _ => by simp)
theorem VS.cellAt {w : World} {ad : Option Addr} {n cap : Nat} {us : List Value} (h : VS w (.slice ad n cap) us) {k : Nat} (hk : k < us.length) :
    ∃ g off, ad = some ⟨g, off, none⟩ ∧ w.cell? ⟨g, off + k, none⟩ = some us[k] := by
  rcases h.out with ⟨e, rfl⟩ | ⟨g, off, cap', c, t, z, e, h5, h6, h7, h8⟩
  · simp at hk
  · simp only [Value.slice.injEq] at e
    exact ⟨g, off, e.1, cellOf h7 (h8 k _ (List.getElem?_eq_getElem hk))⟩

/-- slices of bytes, one by one -/
def BSall (w : World) (us : List Value) (L : List Bytes) : Prop := us.length = L.length ∧ ∀ (i : Nat) (u : Value) (b : Bytes), us[i]? = some u → L[i]? = some b → BS w u b
theorem BSall.keep0 {w w' : World} {us : List Value} {L : List Bytes} (h : BSall w us L) (hf : Fr [] w w') : BSall w' us L := ⟨h.1, fun i u b hu hb => (h.2 i u b hu hb).keep0 hf⟩
theorem BSall.nil (w : World) : BSall w [] [] := ⟨rfl, fun i u b hu => by simp at hu⟩
theorem BSall.cons {w : World} {u : Value} {b : Bytes} {us : List Value} {L : List Bytes} (h : BS w u b) (hs : BSall w us L) : BSall w (u :: us) (b :: L) :=
  ⟨by simp [hs.1], fun i x y hx hy => by
    cases i with
    | zero => simp at hx hy; subst hx; subst hy; exact h
    | succ i => exact hs.2 i x y (by simpa using hx) (by simpa using hy)⟩

theorem zeroCells_b (n : Nat) : (Builtin.zeroCells (Value.int .u8 0).cells n).toList = bcells (List.replicate n 0) := by
  have := madeB n
  rw [Nat.mul_one] at this
  rw [← this]
  show (Array.map _ (Array.range (n * 1))).toList = _
  rw [Nat.mul_one]; rfl

section laws
variable {ops : Array Oper} {rest : List Oper} {o : Oper} {a : Act} {w : World} {Q : Exit → Act → World → Prop}
/-- 'append([]byte(nil), make([]byte, n)...)' -/
theorem wpList_append_nil_zeros (hgd : o.guard = none) (s x : Operand) (ho : o.op = .call { callee := .builtin .append, args := #[s, x], argTypes := #[tB, 3] }) (n : Nat) (hs : a.eval s = .slice none 0 0) (hx : a.eval x = .int .i64 n) (h0 : 0 < n) (hn : n ≤ 140737488355328)
    (h : ∀ b cp w', w.heap.size ≤ b → OB w.heap.size w' (.slice (some ⟨b, 0, none⟩) n cp) (List.replicate n 0) → Fr [] w w' → wpList Tryd.prog ops Q rest (a.put o.dst (.slice (some ⟨b, 0, none⟩) n cp)) w') : wpList Tryd.prog ops Q (o :: rest) a w := by
  obtain ⟨inf, i1, i2, i3, i4⟩ := info_b
  have hr := Lib.run_append_nil_zeros (P := Tryd.prog) w tB 3 o.type tb inf (.int .u8 0) .i64 .i64 Tryd.underlying23 Tryd.underlying3 i1 i2 n h0 (by omega) (by omega) (by rw [i4]; omega)
  have hge := grownCap_ge w n 0 tb
  have hle := grownCap_le_maxLen w n 0 tb (by unfold maxLen; omega)
  refine Lib.wpList_append_run w hgd s x tB 3 ho _ _ hs hx _ _ hr (h _ _ _ (Nat.le_refl _) ?_ ((Fr.drew w).trans (Fr.alloc _ _)))
  have hz : ∀ k, (Builtin.zeroCells (Value.int .u8 0).cells k).size = k := fun k => by rw [size_zeroCells]; exact Nat.mul_one k
  refine ⟨by simp, .inr ⟨w.heap.size, _, _, by simp, Nat.le_refl _, Go.heap_alloc_new w.drew _, by simpa using hge, hle, ?_, ?_⟩⟩
  · rw [Array.size_append, hz, hz]; omega
  · rw [Nat.mul_one, List.length_replicate, Array.toList_append, List.take_append_of_le_length (by rw [Array.length_toList, hz]; omega), List.take_of_length_le (by rw [Array.length_toList, hz]; omega), zeroCells_b]

/-- 'x[:k]' of a slice of one's own -/
theorem wpList_take_bytes (hgd : o.guard = none) (x : Operand) (hi : Operand) (ho : o.op = .slice tB x none (some hi) none) {B b n cap : Nat} {X : Bytes} (hx : a.eval x = .slice (some ⟨b, 0, none⟩) n cap) (hv : OB B w (.slice (some ⟨b, 0, none⟩) n cap) X) (k : Nat) (hh : a.eval hi = .int .i64 k) (hk : k ≤ X.length)
    (h : OB B w (.slice (some ⟨b, 0, none⟩) k cap) (X.take k) → wpList Tryd.prog ops Q rest (a.put o.dst (.slice (some ⟨b, 0, none⟩) k cap)) w) : wpList Tryd.prog ops Q (o :: rest) a w := by
  obtain ⟨hX0, hX | ⟨g', cap', cur, e, hX2, hX3, hX4, hX5, hX6, hX7⟩⟩ := hv
  · cases hX.1
  · simp only [Value.slice.injEq, Option.some.injEq, Addr.mk.injEq, and_true] at e
    obtain ⟨rfl, rfl, rfl⟩ := e
    have hr := run_slice_slice (P := Tryd.prog) (w := w) (T := tB) (E := tb) (sz := 1) Tryd.underlying23 (by kernel_rfl) (a := some ⟨b, 0, none⟩) (len := X.length) (cap := cap) (lo := none) (hi := some (.int .i64 k)) (mx := none) (L := 0) (H := k) (M := cap) rfl rfl rfl (fun h => by cases h) (Nat.zero_le _) (by omega) (Nat.le_refl _)
    have hv : (Value.slice (if cap = 0 then some (⟨b, 0, none⟩ : Addr) else Option.map (fun x : Addr => x.add (0 * 1)) (some (⟨b, 0, none⟩ : Addr))) (k - 0) (cap - 0)) = .slice (some ⟨b, 0, none⟩) k cap := by
      split <;> simp [add_lit]
    rw [hv] at hr
    have he : (execOp a.eval o).run Tryd.prog w = .ok (.value (.slice (some ⟨b, 0, none⟩) k cap)) w := by
      unfold execOp
      rw [ho]
      simp only [hx, Sem.run_bind, Option.map_none, Option.map_some, hh]
      rw [run_sliceAt_slice Tryd.underlying23, hr]
      rfl
    refine wpList_plain hgd fun K' hK => ?_
    unfold Oper.wp
    rw [he]
    refine hK _ _ (h ⟨by simp, .inr ⟨b, cap, cur, ?_, hX2, hX3, ?_, hX5, hX6, ?_⟩⟩)
    · have : (X.take k).length = k := by simp; omega
      rw [this]
    · simp; omega
    · rw [Nat.mul_one] at hX7 ⊢
      have : (X.take k).length = k := by simp; omega
      rw [this]
      have e2 : bcells (X.take k) = (bcells X).take k := by simp [bcells]
      have e3 : cur.toList.take k = (cur.toList.take X.length).take k := by
        rw [List.take_take, show min k X.length = k by omega]
      exact e3.trans ((congrArg (List.take k) hX7).trans e2.symm)
end laws

set_option maxHeartbeats 400000 in
set_option maxRecDepth 100000 in
theorem slices_Grow (w : World) (n : Nat) (hn : n ≤ 140737488355328) :
    Calls Tryd.prog 68 #[.slice none 0 0, .int .i64 n] w (RetB w []) := by
  by_cases h0 : n = 0
  · subst h0
    rw [show ((0 : Nat) : Int) = 0 from rfl]
    go_enter Tryd.func68, Tryd.ntmps68
    go_wp2
    go_ret
    exact ⟨_, rfl, OB.nil _ _, Fr.refl _ _⟩
  · have h1 : 0 < n := by omega
    clear h0
    go_enter Tryd.func68, Tryd.ntmps68
    go_wp2_with (first
      | ((with_reducible show wpList _ _ _ (Oper.mk (some 22) _ _ _ _ _ :: _) _ _); refine wpList_append_nil_zeros rfl _ _ rfl n rfl rfl h1 hn ?_; intro b cp w1 hb O1 f1)
      | ((with_reducible show wpList _ _ _ (Oper.mk (some 25) _ _ _ _ _ :: _) _ _); refine wpList_take_bytes rfl _ _ rfl rfl O1 0 rfl (by simp) ?_; intro O2))
    go_ret
    exact ⟨_, rfl, O2, f1⟩

def total (L : List Bytes) : Nat := (L.map List.length).sum
theorem take_snoc {α : Type} (L : List α) (k : Nat) (hk : k < L.length) : L.take (k + 1) = L.take k ++ [L[k]] := by
  rw [List.take_add_one, List.getElem?_eq_getElem hk]; rfl
theorem total_take (L : List Bytes) (k : Nat) (hk : k < L.length) : total (L.take (k + 1)) = total (L.take k) + L[k].length := by
  unfold total
  rw [take_snoc L k hk, List.map_append, List.sum_append]
  rfl
theorem total_le (L : List Bytes) (k : Nat) : total (L.take k) ≤ total L := by
  unfold total
  conv => rhs; rw [← List.take_append_drop k L]
  rw [List.map_append, List.sum_append]
  omega
theorem flat_take (L : List Bytes) (k : Nat) (hk : k < L.length) : (L.take (k + 1)).flatten = (L.take k).flatten ++ L[k] := by
  rw [take_snoc L k hk, List.flatten_append, List.flatten_cons, List.flatten_nil, List.append_nil]
theorem length_flat (L : List Bytes) : L.flatten.length = total L := by
  unfold total; rw [List.length_flatten]

structure ConInv (w : World) (us : List Value) (L : List Bytes) (W : World) (v i : Value) : Prop where
  out : ∃ k : Nat, k ≤ L.length ∧ i = .int .i64 k ∧ OB w.heap.size W v (L.take k).flatten ∧ Fr [] w W

set_option maxRecDepth 100000 in
set_option maxHeartbeats 400000 in
theorem slices_Concat {w : World} {v : Value} {us : List Value} {L : List Bytes} (hv : VS w v us) (hL : BSall w us L) (ht : total L ≤ 140737488355328) :
    Calls Tryd.prog 57 #[v] w (RetB w L.flatten) := by
  obtain ⟨ad, cap, rfl, hc1, hc2⟩ := hv.shape
  unfold maxLen at hc2
  have hul := hL.1
  have Hul := Lib.hid hul
  have Hbb := Lib.hid ht
  rw [hul] at hc1 ⊢
  clear hul
  go_enter Tryd.func57, Tryd.ntmps57
  go_wp2
  go_loop [3, 11] (fun t i => ∃ k : Nat, k ≤ L.length ∧ i = .int .i64 k ∧ t = .int .i64 (total (L.take k))) (fun _ i => L.length - (intOf i).toNat)
  case atStart => exact ⟨0, by omega, rfl, by simp [total]⟩
  case round =>
    obtain ⟨k, hk, rfl, rfl⟩ := hrel
    have htk := total_le L k
    by_cases hlt : k < L.length
    · have hku : k < us.length := by rw [Hul.out]; exact hlt
      obtain ⟨g, off, rfl, hcell⟩ := hv.cellAt hku
      have hbk := hL.2 k _ _ (List.getElem?_eq_getElem hku) (List.getElem?_eq_getElem hlt)
      have hT := total_take L k hlt
      have htk1 := total_le L (k + 1)
      obtain ⟨ad2, cap2, hsh, hc3, hc4⟩ := hbk.shape
      rw [hsh] at hcell
      obtain ⟨T, hTT⟩ : ∃ T, T = total (L.take k) := ⟨_, rfl⟩
      rw [← hTT] at hT htk ⊢
      obtain ⟨e, he⟩ : ∃ e, e = L[k].length := ⟨_, rfl⟩
      rw [← he] at hT hcell hc3
      have HT := Lib.hid hT
      have hb : T + e ≤ 140737488355328 := by omega
      clear hT hTT he hsh hbk hv hL htk1
      go_wp2
      exact ⟨⟨k + 1, by omega, by go_num, by rw [HT.out]; go_num⟩, by simp [intOf]; omega⟩
    · have hkl : k = L.length := by omega
      have hT : total (L.take k) = total L := by rw [hkl, List.take_length]
      rw [hT]
      clear hT htk
      obtain ⟨T, hTT⟩ : ∃ T, T = total L := ⟨_, rfl⟩
      rw [← hTT] at ht ⊢
      clear hTT
      go_wp2_with (first
        | (go_at_call 68; refine (slices_Grow w T ht).mono ?_; rintro e w1 ⟨u, rfl, h1, f1⟩))
      have Hht := Lib.hid ht
      go_loopw [6, 27] (fun u i W => ConInv w us L W u i) (fun _ i _ => L.length - (intOf i).toNat)
      case atStart => exact ⟨0, by omega, rfl, h1, f1⟩
      case round =>
        obtain ⟨k, hk, rfl, O1, F1⟩ := hrel.out
        by_cases hlt : k < L.length
        · have hku : k < us.length := by rw [Hul.out]; exact hlt
          have hvk := hv.keep0 F1
          obtain ⟨g, off, rfl, hcell⟩ := hvk.cellAt hku
          have hbk := (hL.keep0 F1).2 k _ _ (List.getElem?_eq_getElem hku) (List.getElem?_eq_getElem hlt)
          have hF := flat_take L k hlt
          have hT := total_take L k hlt
          have htk := total_le L (k + 1)
          have hlen : (L.take k).flatten.length + L[k].length ≤ 140737488355328 := by
            have := Hbb.out
            rw [length_flat]; omega
          clear hv hL hvk hT htk
          go_wp2_with (at_builtin; refine wpList_append_bytes rfl _ _ rfl rfl rfl O1 hbk hlen F1.size ?_; intro v' w2 O2 f2)
          rw [← hF] at O2
          have f3 : Fr [] w w2 := F1.then f2 (fun k hk => .inr (O1.ge (g := k) (Option.mem_toList.1 hk)))
          exact ⟨⟨⟨k + 1, by omega, by go_num, O2, f3⟩⟩, by simp [intOf]; omega⟩
        · have hkl : k = L.length := by omega
          have hT : (L.take k).flatten = L.flatten := by rw [hkl, List.take_length]
          rw [hT] at O1
          clear hT
          go_wp2
          go_ret
          exact ⟨_, rfl, O1, F1⟩
end Gd
