/- Within a round of a range over a function: append of bytes, append of zeros, a slice of bytes. -/
import Derived.Test.YtccgpblecgapaaaDoorSum
import Derived.Test.YtccgpblecgapaaaDoorChunk
import Derived.RangeFuncWrites
import Derived.RangeFuncFrom
import Derived.RangeFuncBox
import Derived.WalkKit
import Derived.BigFrame
set_option linter.unusedSimpArgs false
set_option linter.unusedVariables false
namespace Gd
open Go Go.Proofs Go.RowKit

theorem run_append_bytes_own {B : Nat} {w : World} (ty : TypeId) {v u : Value} {l k : Bytes} (hv : OB B w v l) (hu : BS w u k) (hlen : l.length + k.length ≤ 140737488355328) (hB : B ≤ w.heap.size) :
    ∃ v' w', (Builtin.append_ #[tB, tB] ty #[v, u]).run Tryd.prog w = .ok v' w' ∧ OB B w' v' (l ++ k) ∧ Fr v.ownBlock.toList w w' := by
  obtain ⟨i, hi, hz0, hz1, hz2⟩ := info_b
  rcases hu.out with ⟨ad, rfl, rfl⟩ | ⟨g, off, cap, c, t, z, rfl, h2, h3, h4, h5⟩
  · cases ad with
    | some ad =>
      obtain ⟨v', w', hr, h6, h7, _⟩ := run_append_own (P := Tryd.prog) w B tB ty tb i (.int .u8 0) 1 1 Tryd.underlying23 hi hz0 hz1 hz2 rfl (by decide) v l.length (bcells l) hv ad 0 0 (bcells []) (by simp) (by intro j u hj; simp [bcells] at hj) (bcells_oneCell []) (by unfold maxLen; omega) (by simpa using hlen) hB
      refine ⟨v', w', hr, ?_, Fr.of_grown h7⟩
      unfold OB
      simpa [bcells_append, show bcells [] = [] from rfl] using h6
    | none => exact ⟨v, w, run_append_owned_none (P := Tryd.prog) (w := w) B tB ty tb i 1 Tryd.underlying23 hi v l.length (bcells l) hv, by simpa using hv, Fr.refl _ _⟩
  · obtain ⟨v', w', hr, h6, h7, _⟩ := run_append_own (P := Tryd.prog) w B tB ty tb i (.int .u8 0) 1 1 Tryd.underlying23 hi hz0 hz1 hz2 rfl (by decide) v l.length (bcells l) hv ⟨g, off, none⟩ k.length cap (bcells k) (by simp) (by
        intro j u hj
        rw [add_lit, cell_of_row w g (off + j) c t z h4]
        rw [bcells_getElem?] at hj
        cases hk : k[j]? with
        | none => simp [hk] at hj
        | some b => simp [hk] at hj; rw [h5 j b hk, hj]) (bcells_oneCell k) (by unfold maxLen; omega) (by omega) hB
    refine ⟨v', w', hr, ?_, Fr.of_grown h7⟩
    unfold OB
    simpa [bcells_append] using h6

theorem bcells_zeros (n : Nat) : bcells (List.replicate n 0) = List.replicate n (Value.int .u8 0) := by simp [bcells, bv]

theorem zeroCells_u8 (n : Nat) : Builtin.zeroCells (Value.int .u8 0).cells n = (List.replicate n (Value.int .u8 0)).toArray := by
  apply Array.ext'
  rw [zeroCells_b, bcells_zeros]

theorem run_append_zeros_own {B : Nat} {w : World} (ty : TypeId) {v : Value} {l : Bytes} (n : Nat) (hv : OB B w v l) (hlen : l.length + n ≤ 140737488355328) (hB : B ≤ w.heap.size) :
    ∃ v' w', (Builtin.append_ #[tB, 3] ty #[v, .int .i64 n]).run Tryd.prog w = .ok v' w' ∧ OB B w' v' (l ++ List.replicate n 0) ∧ Fr v.ownBlock.toList w w' := by
  obtain ⟨i, hi, hz0, hz1, hz2⟩ := info_b
  have hw : IntKind.i64.wrap (n : Int) = n := by rw [IntKind.wrap_i64]; omega
  have h48i : ¬ (281474976710656 < (n : Int)) := by omega
  have hneg : ¬ ((n : Int) < 0) := by omega
  have hz8 : Builtin.zeroCells #[Value.int .u8 0] n = (List.replicate n (Value.int .u8 0)).toArray := zeroCells_u8 n
  have h0 := hv
  obtain ⟨hX0, ⟨rfl, hX⟩ | ⟨g, cap, cur, rfl, h2, h3, h4, h5, h6, h7⟩⟩ := h0
  · obtain rfl : l = [] := List.eq_nil_of_length_eq_zero hX
    by_cases h0 : n = 0
    · subst h0
      refine ⟨.slice none 0 0, w, ?_, by simpa using OB.nil B w, Fr.refl _ _⟩
      simp [Builtin.append_, run_underlying Tryd.underlying23, run_underlying Tryd.underlying3, Go.sizeOf, typeInfo, hi, hz1, hz2, asInt, asIntOf, IntKind.wrap_i64]
    · have hr := Lib.run_append_nil_zeros (P := Tryd.prog) w tB 3 ty tb i (.int .u8 0) .i64 .i64 Tryd.underlying23 Tryd.underlying3 hi hz0 n (by omega) (by omega) (by simp at hlen; omega) (by rw [hz2]; simp at hlen; omega)
      have hge := grownCap_ge w n 0 tb
      have hle := grownCap_le_maxLen w n 0 tb (by unfold maxLen; simp at hlen; omega)
      refine ⟨_, _, hr, ?_, (Fr.drew w).mono (by simp) |>.trans ((Fr.alloc _ _).mono (by simp))⟩
      have hz : ∀ k, (Builtin.zeroCells (Value.int .u8 0).cells k).size = k := fun k => by rw [size_zeroCells]; exact Nat.mul_one k
      refine ⟨by simp, .inr ⟨w.heap.size, _, _, by simp, hB, Go.heap_alloc_new w.drew _, by simpa using hge, hle, ?_, ?_⟩⟩
      · rw [Array.size_append, hz, hz]; omega
      · rw [Nat.mul_one, List.nil_append, List.length_replicate, Array.toList_append, List.take_append_of_le_length (by rw [Array.length_toList, hz]; omega), List.take_of_length_le (by rw [Array.length_toList, hz]; omega), zeroCells_b]
  · have hcl : (bcells l).length = l.length := by simp [bcells]
    by_cases hroom : l.length + n ≤ cap
    · have hst := run_storeCells_at Tryd.prog g l.length tb (List.replicate n (Value.int .u8 0)) 0 cur w h3 (by simp; omega) (fun u hu => by obtain ⟨_, rfl⟩ := List.mem_replicate.1 hu; rfl)
      simp only [Nat.add_zero] at hst
      refine ⟨.slice (some ⟨g, 0, none⟩) (l.length + n) cap, w.setRow g (cur.toList.take l.length ++ List.replicate n (Value.int .u8 0) ++ cur.toList.drop (l.length + (List.replicate n (Value.int .u8 0)).length)).toArray, ?_, ?_, (Fr.setRow w g _).mono (by simp [Value.ownBlock])⟩
      · by_cases hn0 : n = 0
        · subst hn0
          simp only [List.replicate_zero] at hst
          simp [Builtin.append_, run_underlying Tryd.underlying23, run_underlying Tryd.underlying3, Go.sizeOf, typeInfo, hi, hz1, hz2, asInt, asIntOf, IntKind.wrap_i64, h4, Addr.add_lit, hst]
        · simp [Builtin.append_, run_underlying Tryd.underlying23, run_underlying Tryd.underlying3, Go.sizeOf, typeInfo, zeroValue, hi, hz0, hz1, hz2, asInt, asIntOf, hw, hneg, h48i, hroom, hn0, hz8, Addr.add_lit, hst, Value.cells]
      · refine ⟨by simp, .inr ⟨g, cap, _, by simp, h2, setRow_heap w g cur _ tb _ h3, by simpa using hroom, h5, ?_, ?_⟩⟩
        · simp only [List.size_toArray, List.length_append, List.length_take, List.length_drop, Array.length_toList, List.length_replicate]
          omega
        · rw [Nat.mul_one] at h7 ⊢
          rw [h7, bcells_append, bcells_zeros, List.append_assoc, ← List.append_assoc]
          exact List.take_left' (by simp [hcl])
    · have hold : (Builtin.firstCells i.size l.length (.slice (some ⟨g, 0, none⟩) l.length cap)).run Tryd.prog w.drew = .ok (bcells l).toArray w.drew := by
        refine run_firstCells_some (P := Tryd.prog) w.drew i.size l.length ⟨g, 0, none⟩ l.length cap (bcells l) (by rw [hcl, hz1, Nat.mul_one]) ?_
        intro j u hj
        show w.cell? _ = _
        exact World.ownsRow.cells hv (g := g) rfl j u hj
      have hr := Lib.run_append_grow_zeros (P := Tryd.prog) w tB 3 ty tb i (.int .u8 0) .i64 .i64 Tryd.underlying23 Tryd.underlying3 hi hz0 (some ⟨g, 0, none⟩) l.length cap (bcells l) hold n (by omega) (by omega) (by omega) (by omega) (by rw [hz2]; omega)
        (by rw [hz2]; exact growslice_fits (by omega) (by omega))
      have hge := grownCap_ge w (l.length + n) cap tb
      have hle := grownCap_le_maxLen w (l.length + n) cap tb (by unfold maxLen; omega)
      have hz : ∀ k, (Builtin.zeroCells (Value.int .u8 0).cells k).size = k := fun k => by rw [size_zeroCells]; exact Nat.mul_one k
      refine ⟨_, _, hr, ?_, (Fr.drew w).mono (by simp) |>.trans ((Fr.alloc _ _).mono (by simp))⟩
      refine ⟨by simp, .inr ⟨w.heap.size, _, _, by simp, hB, Go.heap_alloc_new w.drew _, by simpa using hge, hle, ?_, ?_⟩⟩
      · rw [Array.size_append, Array.size_append, hz, hz, List.size_toArray, hcl]; omega
      · rw [Nat.mul_one, Array.toList_append, Array.toList_append, zeroCells_b, ← bcells_append]
        exact List.take_left' (by simp [bcells])

/-! ### the same within a round -/
section laws
variable {F : Fence} {n : Nat} {ops : Array Oper} {rest : List Oper} {o : Oper} {a : Act} {w : World} {Q : Exit → Act → World → Prop}
theorem wpListIn_builtin (hg : o.guard = none) {b : Builtin} {args : Array Operand} {ts : Array TypeId} (ho : o.op = .call { callee := .builtin b, args := args, argTypes := ts }) {vs : Array Value} (hv : args.map a.eval = vs) {v : Value} {w' : World}
    (hr : ∀ cs, (builtin b ts o.type cs vs).run Tryd.prog w = .ok (.value v) w') (h : wpListIn F n Tryd.prog ops Q rest (a.put o.dst v) w') : wpListIn F n Tryd.prog ops Q (o :: rest) a w := by
  refine wpListIn_plain hg fun K' hK => ?_
  have he : (execOp a.eval o).run Tryd.prog w = .ok (.value v) w' := exec_builtin ho hv hr
  unfold Oper.wpIn
  refine ⟨?_, ?_⟩
  · simp [Oper.about, ho, resolve, Target.leads, Sem.run_pure]
  · rw [Oper.semAt_plain F _ _ (by rw [ho]; intro c hc'; cases hc'), he]
    exact hK _ _ h
theorem wpListIn_append_bytes (hg : o.guard = none) (s x : Operand) (ho : o.op = .call { callee := .builtin .append, args := #[s, x], argTypes := #[tB, tB] })
    {B : Nat} {v u : Value} {l k : Bytes} (hs : a.eval s = v) (hx : a.eval x = u) (hv : OB B w v l) (hu : BS w u k) (hlen : l.length + k.length ≤ 140737488355328) (hB : B ≤ w.heap.size)
    (h : ∀ v' w', OB B w' v' (l ++ k) → Fr v.ownBlock.toList w w' → wpListIn F n Tryd.prog ops Q rest (a.put o.dst v') w') : wpListIn F n Tryd.prog ops Q (o :: rest) a w := by
  obtain ⟨v', w', hr, h1, h2⟩ := run_append_bytes_own o.type hv hu hlen hB
  refine wpListIn_builtin hg ho (vs := #[v, u]) (by simp [hs, hx]) (fun cs => ?_) (h v' w' h1 h2)
  simp only [builtin, Sem.run_bind, hr, Result.andThen_ok, Sem.run_pure]
theorem wpListIn_append_zeros (hg : o.guard = none) (s x : Operand) (ho : o.op = .call { callee := .builtin .append, args := #[s, x], argTypes := #[tB, 3] })
    {B : Nat} {v : Value} {l : Bytes} (k : Nat) {K : Int} (hs : a.eval s = v) (hx : a.eval x = .int .i64 K) (hK : K = (k : Int)) (hv : OB B w v l) (hlen : l.length + k ≤ 140737488355328) (hB : B ≤ w.heap.size)
    (h : ∀ v' w', OB B w' v' (l ++ List.replicate k 0) → Fr v.ownBlock.toList w w' → wpListIn F n Tryd.prog ops Q rest (a.put o.dst v') w') : wpListIn F n Tryd.prog ops Q (o :: rest) a w := by
  subst hK
  obtain ⟨v', w', hr, h1, h2⟩ := run_append_zeros_own o.type k hv hlen hB
  refine wpListIn_builtin hg ho (vs := #[v, .int .i64 k]) (by simp [hs, hx]) (fun cs => ?_) (h v' w' h1 h2)
  simp only [builtin, Sem.run_bind, hr, Result.andThen_ok, Sem.run_pure]

/-! a box: one cell -/
theorem run_load_box {W : World} {T t : TypeId} {b : Nat} {u : Value} {fr : Nat × Nat} {d : TypeDesc} (hu : Tryd.prog.underlying T = some d) (hd : aggD d = false) (hB : Blk W b (.cells #[u] t fr)) :
    (Instr.loadAt T (.pointer (some ⟨b, 0, none⟩))).run Tryd.prog W = .ok u W := by
  have hagg : (isAgg T).run Tryd.prog W = .ok false W := by
    unfold isAgg; rw [Sem.run_bind, run_underlying hu W]; cases d <;> simp_all [aggD]
  have hc : W.cell? ⟨b, 0, none⟩ = some u := cellOf hB.out rfl
  simp only [Sem.run_bind, Instr.loadAt, Instr.sureAddr, Sem.run_pure, Result.andThen_ok, loadVar, hagg]
  simp [hc]
theorem run_store_box {W : World} {T t : TypeId} {b : Nat} {u v : Value} (hi : (Tryd.prog.info? T).map (·.size) = some 1) (hv : v.cells = #[v]) (h1 : v.oneCell' = true) (hB : Blk W b (.cells #[u] t (0, 0))) :
    (Instr.storeAt T (.pointer (some ⟨b, 0, none⟩)) v).run Tryd.prog W = .ok () (W.setRow b #[v]) := by
  have hr := run_storeCells_at (P := Tryd.prog) b 0 t [v] 0 #[u] W hB.out (by simp) (by simpa using h1)
  cases hq : Tryd.prog.info? T with
  | none => simp [hq] at hi
  | some i =>
    have hs : i.size = 1 := by simpa [hq] using hi
    simp only [Instr.storeAt, Instr.sureAddr, storeVar, Sem.run_bind, Go.sizeOf, typeInfo, run_program, Result.andThen_ok, hq, hs, Sem.run_pure, hv]
    simp only [List.size_toArray, List.length_cons, List.length_nil, Nat.zero_add, ne_eq, not_true_eq_false, if_false]
    simpa using hr
theorem wpListIn_load_box (hg : o.guard = none) (T : TypeId) (x : Operand) (ho : o.op = .load T x) {b : Nat} {u : Value} {t : TypeId} {fr : Nat × Nat} {d : TypeDesc} (hx : a.eval x = .pointer (some ⟨b, 0, none⟩)) (hu : Tryd.prog.underlying T = some d) (hd : aggD d = false) (hB : Blk w b (.cells #[u] t fr))
    (h : wpListIn F n Tryd.prog ops Q rest (a.put o.dst u) w) : wpListIn F n Tryd.prog ops Q (o :: rest) a w := by
  refine wpListIn_plain hg fun K' hK => ?_
  have he : (execOp a.eval o).run Tryd.prog w = .ok (.value u) w := by
    unfold execOp; rw [ho]; simp only [hx, Sem.run_bind, run_load_box hu hd hB]; rfl
  unfold Oper.wpIn
  refine ⟨?_, ?_⟩
  · simp [Oper.about, ho, resolve, Target.leads, Sem.run_pure]
  · rw [Oper.semAt_plain F _ _ (by rw [ho]; intro c hc'; cases hc'), he]
    exact hK _ _ h
theorem wpListIn_store_box (hg : o.guard = none) (T : TypeId) (x y : Operand) (ho : o.op = .store T x y) {b : Nat} {u v : Value} {t : TypeId} (hx : a.eval x = .pointer (some ⟨b, 0, none⟩)) (hy : a.eval y = v) (hi : (Tryd.prog.info? T).map (·.size) = some 1) (hv : v.cells = #[v]) (h1 : v.oneCell' = true) (hB : Blk w b (.cells #[u] t (0, 0)))
    (h : ∀ w', Blk w' b (.cells #[v] t (0, 0)) → Fr [b] w w' → wpListIn F n Tryd.prog ops Q rest (a.put o.dst undef) w') : wpListIn F n Tryd.prog ops Q (o :: rest) a w := by
  refine wpListIn_plain hg fun K' hK => ?_
  have he : (execOp a.eval o).run Tryd.prog w = .ok .skip (w.setRow b #[v]) := by
    unfold execOp; rw [ho]; simp only [hx, hy, Sem.run_bind, run_store_box hi hv h1 hB]; rfl
  unfold Oper.wpIn
  refine ⟨?_, ?_⟩
  · simp [Oper.about, ho, resolve, Target.leads, Sem.run_pure]
  · rw [Oper.semAt_plain F _ _ (by rw [ho]; intro c hc'; cases hc'), he]
    exact hK _ _ (h _ ⟨setRow_heap w b #[u] #[v] t (0, 0) hB.out⟩ (Fr.setRow w b _))
theorem wpList_load_box {rest : List Oper} {Q : Exit → Act → World → Prop} (hg : o.guard = none) (T : TypeId) (x : Operand) (ho : o.op = .load T x) {b : Nat} {u : Value} {t : TypeId} {fr : Nat × Nat} {d : TypeDesc} (hx : a.eval x = .pointer (some ⟨b, 0, none⟩)) (hu : Tryd.prog.underlying T = some d) (hd : aggD d = false) (hB : Blk w b (.cells #[u] t fr))
    (h : wpList Tryd.prog ops Q rest (a.put o.dst u) w) : wpList Tryd.prog ops Q (o :: rest) a w := by
  refine wpList_plain hg fun K' hK => ?_
  have he : (execOp a.eval o).run Tryd.prog w = .ok (.value u) w := by
    unfold execOp; rw [ho]; simp only [hx, Sem.run_bind, run_load_box hu hd hB]; rfl
  exact wp_of_value he (hK _ _ h)
theorem wpList_store_box {rest : List Oper} {Q : Exit → Act → World → Prop} (hg : o.guard = none) (T : TypeId) (x y : Operand) (ho : o.op = .store T x y) {b : Nat} {u v : Value} {t : TypeId} (hx : a.eval x = .pointer (some ⟨b, 0, none⟩)) (hy : a.eval y = v) (hi : (Tryd.prog.info? T).map (·.size) = some 1) (hv : v.cells = #[v]) (h1 : v.oneCell' = true) (hB : Blk w b (.cells #[u] t (0, 0)))
    (h : ∀ w', Blk w' b (.cells #[v] t (0, 0)) → Fr [b] w w' → wpList Tryd.prog ops Q rest (a.put o.dst undef) w') : wpList Tryd.prog ops Q (o :: rest) a w := by
  refine wpList_plain hg fun K' hK => ?_
  have he : (execOp a.eval o).run Tryd.prog w = .ok .skip (w.setRow b #[v]) := by
    unfold execOp; rw [ho]; simp only [hx, hy, Sem.run_bind, run_store_box hi hv h1 hB]; rfl
  unfold Oper.wp; rw [he]
  exact hK _ _ (h _ ⟨setRow_heap w b #[u] #[v] t (0, 0) hB.out⟩ (Fr.setRow w b _))
theorem wpListIn_slice_bytes (hgd : o.guard = none) (x : Operand) (lo hi mx : Option Operand) (ho : o.op = .slice tB x lo hi mx) {v : Value} {l : Bytes} (hx : a.eval x = v) (hv : BS w v l) (L H : Nat)
    (hL : VIs (lo.map a.eval) 0 L) (hH : VIs (hi.map a.eval) l.length H) (hM : ∀ cap, l.length ≤ cap → ∃ M, VIs (mx.map a.eval) cap M ∧ H ≤ M ∧ M ≤ cap) (hm : (mx.map a.eval).isSome = true → (hi.map a.eval).isSome = true) (h1 : L ≤ H) (h4 : H ≤ l.length)
    (h : ∀ ad cap, BS w (.slice ad (H - L) cap) ((l.take H).drop L) → (∀ g, (Value.slice ad (H - L) cap).ownBlock = some g → v.ownBlock = some g) → wpListIn F n Tryd.prog ops Q rest (a.put o.dst (.slice ad (H - L) cap)) w) : wpListIn F n Tryd.prog ops Q (o :: rest) a w := by
  obtain ⟨ad, cap, rfl, hc, hc2⟩ := hv.shape
  obtain ⟨M, hM1, hM2, hM3⟩ := hM cap hc
  refine wpListIn_plain hgd fun K' hK => ?_
  have hr := run_slice_slice (P := Tryd.prog) (w := w) (T := tB) (E := tb) (sz := 1) Tryd.underlying23 (by kernel_rfl) (a := ad) (len := l.length) (cap := cap) hL hH hM1 hm h1 hM2 hM3
  have he : (execOp a.eval o).run Tryd.prog w = .ok (.value (.slice (if M = L then ad else ad.map (·.add (L * 1))) (H - L) (M - L))) w := by
    unfold execOp
    rw [ho]
    simp only [hx, Sem.run_bind]
    rw [run_sliceAt_slice Tryd.underlying23, hr]
    rfl
  unfold Oper.wpIn
  refine ⟨?_, ?_⟩
  · simp [Oper.about, ho, resolve, Target.leads, Sem.run_pure]
  · rw [Oper.semAt_plain F _ _ (by rw [ho]; intro c hc'; cases hc'), he]
    exact hK _ _ (h _ _ (hv.sub h1 hM2 hM3 h4) (fun g hg => sub_block hg))
end laws

/-! ### min and max of two ints -/
theorem run_min (x y : Int) (ts : Array TypeId) (ty : TypeId) (W : World) (cs : _) (ht : ts.size = 2) : (builtin .min ts ty cs #[.int .i64 x, .int .i64 y]).run Tryd.prog W = .ok (.value (.int .i64 (min x y))) W := by
  have h1 : (builtin .min ts ty cs #[.int .i64 x, .int .i64 y]).run Tryd.prog W = .ok (.value (.int .i64 (if y < x then y else x))) W := rfl
  rw [h1, show (if y < x then y else x) = min x y by split <;> omega]
theorem run_max (x y : Int) (ts : Array TypeId) (ty : TypeId) (W : World) (cs : _) (ht : ts.size = 2) : (builtin .max ts ty cs #[.int .i64 x, .int .i64 y]).run Tryd.prog W = .ok (.value (.int .i64 (max x y))) W := by
  have h1 : (builtin .max ts ty cs #[.int .i64 x, .int .i64 y]).run Tryd.prog W = .ok (.value (.int .i64 (if y > x then y else x))) W := rfl
  rw [h1, show (if y > x then y else x) = max x y by split <;> omega]
section laws
variable {ops : Array Oper} {rest : List Oper} {o : Oper} {a : Act} {w : World} {Q : Exit → Act → World → Prop}
theorem wanted_of {j d : Nat} {want b : Bool} (hg : o.guard = some (j, want)) (hj : (ops[j]?).bind (·.dst) = some d) (hd : a.tmps[d]? = some (.bool b)) (hb : b = want) : Region.wanted o (yielded ops a.tmps) = true := by
  subst hb
  simp [Region.wanted, hg, yielded, hj, hd]
theorem wpList_max_g (hw : Region.wanted o (yielded ops a.tmps) = true) (x y : Operand) {t u : TypeId} (ho : o.op = .call { callee := .builtin .max, args := #[x, y], argTypes := #[t, u] }) {m n k : Int} (hx : a.eval x = .int .i64 m) (hy : a.eval y = .int .i64 n) (hk : max m n = k)
    (h : wpList Tryd.prog ops Q rest (a.put o.dst (.int .i64 k)) w) : wpList Tryd.prog ops Q (o :: rest) a w := by
  subst hk
  exact BigFrame.wpList_want hw fun K' hK => wp_of_value (exec_builtin ho (by simp [hx, hy]) (fun cs => run_max m n _ _ w cs rfl)) (hK _ _ h)
theorem wpList_min_g (hw : Region.wanted o (yielded ops a.tmps) = true) (x y : Operand) {t u : TypeId} (ho : o.op = .call { callee := .builtin .min, args := #[x, y], argTypes := #[t, u] }) {m n k : Int} (hx : a.eval x = .int .i64 m) (hy : a.eval y = .int .i64 n) (hk : min m n = k)
    (h : wpList Tryd.prog ops Q rest (a.put o.dst (.int .i64 k)) w) : wpList Tryd.prog ops Q (o :: rest) a w := by
  subst hk
  exact BigFrame.wpList_want hw fun K' hK => wp_of_value (exec_builtin ho (by simp [hx, hy]) (fun cs => run_min m n _ _ w cs rfl)) (hK _ _ h)
theorem wpList_min (hg : o.guard = none) (x y : Operand) {t u : TypeId} (ho : o.op = .call { callee := .builtin .min, args := #[x, y], argTypes := #[t, u] }) {m n k : Int} (hx : a.eval x = .int .i64 m) (hy : a.eval y = .int .i64 n) (hk : min m n = k)
    (h : wpList Tryd.prog ops Q rest (a.put o.dst (.int .i64 k)) w) : wpList Tryd.prog ops Q (o :: rest) a w := by
  subst hk
  exact wpList_plain hg fun K' hK => wp_of_value (exec_builtin ho (by simp [hx, hy]) (fun cs => run_min m n _ _ w cs rfl)) (hK _ _ h)
theorem wpList_max (hg : o.guard = none) (x y : Operand) {t u : TypeId} (ho : o.op = .call { callee := .builtin .max, args := #[x, y], argTypes := #[t, u] }) {m n k : Int} (hx : a.eval x = .int .i64 m) (hy : a.eval y = .int .i64 n) (hk : max m n = k)
    (h : wpList Tryd.prog ops Q rest (a.put o.dst (.int .i64 k)) w) : wpList Tryd.prog ops Q (o :: rest) a w := by
  subst hk
  exact wpList_plain hg fun K' hK => wp_of_value (exec_builtin ho (by simp [hx, hy]) (fun cs => run_max m n _ _ w cs rfl)) (hK _ _ h)
end laws

/-! ### what is proved of an operation holds of it within a round -/
section round
variable {P : Program} {l n : Nat} {ops : Array Oper} {o : Oper} {a : Act} {w : World} {K : Act → World → Prop} {Q : Exit → Act → World → Prop}
theorem Oper.inRound (hd : ∀ c, o.op ≠ .defer c) (h : o.wp P a w K Q) : o.wpIn (Fence.wide.inRound l) n P a w K Q := by
  refine ⟨fun _ _ => trivial, ?_⟩
  rw [Oper.semAt_plain _ _ _ hd]
  unfold Oper.wp at h
  have hdp : (Fence.wide.inRound l).depth.isSome = true → 1 ≤ n := fun h => by simp [Fence.inRound, Fence.wide] at h
  cases hr : (execOp a.eval o).run P w with
  | ok x w' =>
    rw [hr] at h
    cases x with
    | value v => exact h
    | skip => exact h
    | defer d => exact h
    | enter f args => exact ⟨hdp, (callsIn_wide.2 h : CallsIn Fence.wide (n - 1) P f args w' _)⟩
    | row row args => exact ⟨hdp, fun c cs hroom => let ⟨v, w2, r, s⟩ := h c cs; ⟨v, w2, r, stepsIn_wide.2 s⟩⟩
    | _ => exact h.elim
  | halt x w' =>
    rw [hr] at h
    cases x <;> exact h
def noDefer (ops : Array Oper) : Bool := ops.all fun o => match o.op with | .defer _ => false | _ => true
theorem noDefer_at (h : noDefer ops = true) {i : Nat} (hi : ops[i]? = some o) : ∀ c, o.op ≠ .defer c := fun c hc => by
  have hlt := (Array.getElem?_eq_some_iff.1 hi)
  have := Array.all_eq_true.1 h i hlt.1
  rw [hlt.2, hc] at this
  cases this
theorem wpOp.inRound (hn : noDefer ops = true) (hQ : ¬ LetsOut Q) {i : Nat} (h : wpOp P ops Q i K a w) : wpOpIn (Fence.wide.inRound l) n P ops Q i K a w := by
  unfold wpOp at h
  unfold wpOpIn
  cases hi : ops[i]? with
  | none => simpa [hi] using h
  | some o =>
    simp only [hi] at h ⊢
    split
    · rename_i hw
      rw [if_pos hw] at h
      exact Oper.inRound (noDefer_at hn hi) (h.resolve_right (fun hx => hQ hx.2))
    · rename_i hw
      rw [if_neg hw] at h
      exact ⟨fun _ _ => trivial, h⟩
theorem wpAny.inRound {md : Region.Mode} (hn : noDefer ops = true) (hQ : ¬ LetsOut Q) : ∀ (fuel : Nat) (listed : Array Bool) (a : Act) (w : World), wpAny P md ops Q fuel listed a w → wpAnyIn (Fence.wide.inRound l) n P md ops Q fuel listed a w
  | 0, listed, a, w, h => h
  | fuel + 1, listed, a, w, h => ⟨h.1, fun i hi => wpOpIn_mono (fun a w h => wpAny.inRound hn hQ fuel _ a w h) (wpOp.inRound hn hQ (h.2 i hi))⟩
theorem wpList.inRound (hn : noDefer ops = true) (hQ : ¬ LetsOut Q) : ∀ (rest : List Oper) (a : Act) (w : World), (∀ o, o ∈ rest → ∀ c, o.op ≠ .defer c) → wpList P ops Q rest a w → wpListIn (Fence.wide.inRound l) n P ops Q rest a w
  | [], a, w, _, h => h
  | o :: rest, a, w, hr, h => by
    unfold wpList at h
    unfold wpListIn
    split
    · rename_i hw
      rw [if_pos hw] at h
      exact Oper.inRound (hr o (by simp)) (Oper.wp_mono (fun a w h => wpList.inRound hn hQ rest a w (fun o ho => hr o (by simp [ho])) h) (h.resolve_right (fun hx => hQ hx.2)))
    · rename_i hw
      rw [if_neg hw] at h
      exact ⟨fun _ _ => trivial, wpList.inRound hn hQ rest _ _ (fun o ho => hr o (by simp [ho])) h⟩
/-- the rule of the drawn region, within a round -/
theorem wpIn_region_mid1 {C : World → Prop} {id : Nat} {L : List Oper} (k : Nat) {o : Oper} (hm : P.follows .mixedOrders = true) (hB : midB .any L.toArray k = true) (hn : noDefer L.toArray = true) (hQ : ¬ LetsOut Q) (ho : L[k]? = some o) (hg : o.guard = none)
    (hC : C w.drew)
    (h : wpQuiet P L.toArray C (fun a' => ∀ w', C w' → o.wp P a' w' (fun a2 w2 => wpQuiet P L.toArray (fun w3 => w3 = w2) (fun a3 => Q .normal a3 w2) (L.drop (k + 1)) a2) Q) (L.take k) a) : (Code.region id L.toArray true).wpIn (Fence.wide.inRound l) n P Q a w := by
  refine wpIn_region_any hm (wpAny.inRound hn hQ _ _ _ _ (wpAny_mid k hB ho hC ?_))
  have hw : ∀ a' : Act, Region.wanted o (yielded L.toArray a'.tmps) = true := fun a' => by simp [Region.wanted, hg]
  simp only [hw, if_true]
  exact h
/-- .. and of the chain -/
theorem wpIn_region_chain {C : World → Prop} {id : Nat} {L : List Oper} (k : Nat) (hm : P.follows .mixedOrders = true) (hB : midC .any L.toArray k = true) (hn : noDefer L.toArray = true) (hQ : ¬ LetsOut Q)
    (hC : C w.drew) (h : wpQuiet P L.toArray C (fun a' => ∀ w', C w' → wpList P L.toArray Q (L.drop k) a' w') (L.take k) a) : (Code.region id L.toArray true).wpIn (Fence.wide.inRound l) n P Q a w :=
  wpIn_region_any hm (wpAny.inRound hn hQ _ _ _ _ (wpAny_midC k hB hC h))
end round

/-! ### what the law of the range wants kept -/
theorem Fr.grownFrom {S : List Nat} {A W W' : World} {row : Option Nat} (h : Fr S A W) (hg : W.grownBy W' row) (hr : ∀ r, row = some r → A.heap.size ≤ r) : Fr S A W' :=
  h.then (Fr.of_grown hg) (fun k hk => .inr (hr k (by simpa using hk)))
theorem Blk.grownFrom {W W' : World} {row : Option Nat} {b : Nat} {c : Array Value} {t : TypeId} {z : Nat × Nat} (h : Blk W b (.cells c t z)) (hg : W.grownBy W' row) (hr : ∀ r, row = some r → ∃ o : Obj, W.heap[r]? = some o ∧ o.isCells = false) : Blk W' b (.cells c t z) :=
  h.keep (Fr.of_grown hg) (fun hb => by
    obtain ⟨o, ho, hc⟩ := hr b (by simpa using hb)
    rw [h.out] at ho; cases ho; cases hc)
theorem OB.grownFrom {B : Nat} {W W' : World} {row : Option Nat} {v : Value} {l : Bytes} (h : OB B W v l) (hg : W.grownBy W' row) (hr : ∀ r, row = some r → ∃ o : Obj, W.heap[r]? = some o ∧ o.isCells = false) : OB B W' v l :=
  h.keep (Fr.of_grown hg) (fun g hgv hgr => by
    obtain ⟨o, ho, hc⟩ := hr g (by simpa using hgr)
    obtain ⟨_, h1 | ⟨g', cap, cur, rfl, h2, h3, _⟩⟩ := h
    · rw [h1.1] at hgv; cases hgv
    · simp [Value.ownBlock] at hgv; subst hgv
      rw [h3] at ho; cases ho; cases hc)
theorem BS.grownFrom {W W' : World} {row : Option Nat} {v : Value} {l : Bytes} (h : BS W v l) (hg : W.grownBy W' row) (hr : ∀ r, row = some r → ∃ o : Obj, W.heap[r]? = some o ∧ o.isCells = false) : BS W' v l := by
  rcases h.out with h1 | ⟨g', off, cap, c, t, z, rfl, h2, h3, h4, h5⟩
  · exact ⟨.inl h1⟩
  · refine h.keep (Fr.of_grown hg) (fun g hgv hgr => ?_)
    obtain ⟨o, ho, hc⟩ := hr g (by simpa using hgr)
    · simp [Value.ownBlock] at hgv; subst hgv
      rw [h4] at ho; cases ho; cases hc
/-- the blocks of S hold cells -/
def CellsAt (W : World) (S : List Nat) : Prop := ∀ k, k ∈ S → ∀ o, W.heap[k]? = some o → o.isCells = true
theorem CellsAt.own {B : Nat} {W : World} {v : Value} {l : Bytes} (h : OB B W v l) : CellsAt W v.ownBlock.toList := fun g hg o ho => by
  have hgv : v.ownBlock = some g := by simpa using hg
  obtain ⟨_, h1 | ⟨g', cap, cur, rfl, h2, h3, _⟩⟩ := h
  · rw [h1.1] at hgv; cases hgv
  · simp [Value.ownBlock] at hgv; subst hgv
    rw [h3] at ho; cases ho; rfl
theorem CellsAt.box {W : World} {b : Nat} {c : Array Value} {t : TypeId} {z : Nat × Nat} (h : Blk W b (.cells c t z)) : CellsAt W [b] := fun g hg o ho => by
  obtain rfl : g = b := by simpa using hg
  rw [h.out] at ho; cases ho; rfl
theorem Keeps.of_Fr {B : Nat} {S : List Nat} {W W' : World} (h : Fr S W W') (hS : CellsAt W S) : KeepsFrom B W W' :=
  ⟨h.size, fun k o _ hk ho => by
    by_cases hks : k ∈ S
    · have := hS k hks o hk; rw [ho] at this; cases this
    · exact h.keep hk hks⟩
theorem KpB.of_Fr {b2 b3 : Nat} {S : List Nat} {W W' : World} (h : Fr S W W') (h2 : b2 < W.heap.size) (h3 : b3 < W.heap.size) (n2 : b2 ∉ S) (n3 : b3 ∉ S) : KpB b2 b3 W W' := ⟨h.block b2 h2 n2, h.block b3 h3 n3⟩
end Gd
