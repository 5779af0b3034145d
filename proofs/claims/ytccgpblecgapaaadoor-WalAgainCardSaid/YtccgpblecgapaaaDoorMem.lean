/- Laws at an operation: an aggregate's load and store inside a block, a map keyed by ints looked up and updated. And how the disk's data lie in memory. -/
import Derived.Test.YtccgpblecgapaaaDoorFw
import Derived.Test.YtccgpblecgapaaaDoorSpec
set_option linter.unusedSimpArgs false
set_option linter.unusedVariables false
namespace Gd
open Go

section laws
variable {P : Program} {ops : Array Oper} {rest : List Oper} {o : Oper} {a : Act} {w : World} {Q : Exit → Act → World → Prop}

theorem wpList_load_at (hgd : o.guard = none) (ty : TypeId) (x : Operand) (ho : o.op = .load ty x) (g off n : Nat) (hx : a.eval x = .pointer (some ⟨g, off, none⟩))
    {t : TypeId} {cs : Array Value} {fr : Nat × Nat} {d : TypeDesc} (hu : P.underlying ty = some d) (hd : aggD d = true) (hi : (P.info? ty).map (·.size) = some n)
    (hg : w.heap[g]? = some (.cells cs t fr)) (hn : off + n ≤ cs.size)
    (h : wpList P ops Q rest (a.put o.dst (.agg (cs.extract off (off + n)))) w) : wpList P ops Q (o :: rest) a w :=
  wpList_plain hgd fun K hK => by
    unfold Oper.wp execOp
    simp only [ho, hx, Instr.loadAt, Instr.sureAddr, Sem.run_bind, Sem.run_pure, Result.andThen_ok, run_loadVar_at hg hu hd hi hn]
    exact hK _ _ h

theorem wpList_store_at (hgd : o.guard = none) (ty : TypeId) (x y : Operand) (ho : o.op = .store ty x y) (g off n : Nat) (hx : a.eval x = .pointer (some ⟨g, off, none⟩))
    {vs : List Value} (hy : a.eval y = .agg vs.toArray) {t : TypeId} {cs : Array Value} (hi : (P.info? ty).map (·.size) = some n)
    (hg : w.heap[g]? = some (.cells cs t (0, 0))) (hl : vs.length = n) (hn : off + n ≤ cs.size) (h1 : ∀ v ∈ vs, v.oneCell' = true)
    (h : wpList P ops Q rest (a.put o.dst undef) (w.setRow g (splice cs off vs))) : wpList P ops Q (o :: rest) a w :=
  wpList_plain hgd fun K hK => by
    unfold Oper.wp execOp
    simp only [ho, hx, hy, Instr.storeAt, Instr.sureAddr, Sem.run_bind, Sem.run_pure, Result.andThen_ok, run_storeVar_at hg hi hl hn h1]
    exact hK _ _ h

theorem wp_store_at {K' : Act → World → Prop} (ty : TypeId) (x y : Operand) (ho : o.op = .store ty x y) (g off n : Nat) (hx : a.eval x = .pointer (some ⟨g, off, none⟩))
    {vs : List Value} (hy : a.eval y = .agg vs.toArray) {t : TypeId} {cs : Array Value} (hi : (P.info? ty).map (·.size) = some n)
    (hg : w.heap[g]? = some (.cells cs t (0, 0))) (hl : vs.length = n) (hn : off + n ≤ cs.size) (h1 : ∀ v ∈ vs, v.oneCell' = true)
    (h : ∀ w', Blk w' g (.cells (splice cs off vs) t (0, 0)) → Fr [g] w w' → K' (a.put o.dst undef) w') : o.wp P a w K' Q := by
  unfold Oper.wp execOp
  simp only [ho, hx, hy, Instr.storeAt, Instr.sureAddr, Sem.run_bind, Sem.run_pure, Result.andThen_ok, run_storeVar_at hg hi hl hn h1]
  exact h _ ⟨setRow_heap w g cs _ t (0, 0) hg⟩ (Fr.setRow w g _)

/-! ### maps keyed by ints -/
/-- Block m is a map that holds these pairs, in this order of their birth. -/
structure MapIs (w : World) (m : Nat) (L : List (Int × Value)) : Prop where
  out : ∃ es clock, w.heap[m]? = some (.map es clock) ∧ es.toList.map (fun e => (e.key, e.val)) = L.map (fun p => (Value.int .i64 p.1, p.2)) ∧
    (es.toList.map (·.born)).Pairwise (· < ·) ∧ ∀ e ∈ es.toList, e.born < clock

theorem MapIs.keep {S : List Nat} {w w' : World} {m : Nat} {L : List (Int × Value)} (h : MapIs w m L) (hf : Fr S w w') (hn : m ∉ S) : MapIs w' m L := by
  obtain ⟨es, clock, h1, h2⟩ := h.out
  exact ⟨es, clock, hf.keep h1 hn, h2⟩
theorem MapIs.lt {w : World} {m : Nat} {L : List (Int × Value)} (h : MapIs w m L) : m < w.heap.size := by
  obtain ⟨es, clock, h1, _⟩ := h.out
  exact (Array.getElem?_eq_some_iff.1 h1).1

def find (i : Int) : List (Int × Value) → Nat → Option (Nat × Value)
  | [], _ => none
  | (k, v) :: r, n => if i = k then some (n, v) else find i r (n + 1)

theorem findNow_eq (i : Int) : ∀ (es : List MapEntry) (L : List (Int × Value)) (n : Nat), es.map (fun e => (e.key, e.val)) = L.map (fun p => (Value.int .i64 p.1, p.2)) →
    Instr.findNow (.int .i64) (.int .i64 i) es n = some (find i L n)
  | [], [], _, _ => rfl
  | [], _ :: _, _, h => by simp at h
  | _ :: _, [], _, h => by simp at h
  | e :: es, (k, v) :: L, n, h => by
    simp only [List.map_cons, List.cons.injEq, Prod.mk.injEq] at h
    obtain ⟨⟨h1, h2⟩, h3⟩ := h
    simp only [Instr.findNow, h1, Instr.sameNow, if_true, find]
    by_cases hk : i = k
    · subst hk; simp [h2]
    · have hb : (i == k) = false := by simpa using hk
      simp only [hb, if_neg hk]
      exact findNow_eq i es L (n + 1) h3

theorem find_lookup (i : Int) : ∀ (L : List (Int × Value)) (n : Nat), (find i L n).map (·.2) = L.lookup i
  | [], _ => rfl
  | (k, v) :: r, n => by
    by_cases h : i = k
    · subst h; simp [find]
    · have hb : (i == k) = false := by simpa using h
      simp only [find, if_neg h, List.lookup, hb]
      exact find_lookup i r (n + 1)

variable {T K E : TypeId}
theorem run_findKey (hk : P.underlying K = some (.int .i64)) (i : Int) {es : List MapEntry} {L : List (Int × Value)}
    (h : es.map (fun e => (e.key, e.val)) = L.map (fun p => (Value.int .i64 p.1, p.2))) (w : World) : (Instr.findKey K (.int .i64 i) es).run P w = .ok (find i L 0) w := by
  unfold Instr.findKey
  rw [Sem.run_bind, run_underlying hk w]
  simp only [Result.andThen_ok, findNow_eq i es L 0 h, Sem.run_pure]

theorem run_checkKey (hk : P.underlying K = some (.int .i64)) (b : Bool) (n : Nat) (v : Value) (w : World) (hv : ∃ i, v = .int .i64 i) : (Instr.checkKey b (n + 1) K v).run P w = .ok () w := by
  obtain ⟨i, rfl⟩ := hv
  unfold Instr.checkKey
  rw [Sem.run_bind, run_underlying hk w]
  rfl

theorem run_lookup_ok (hT : P.underlying T = some (.map K E)) (hk : P.underlying K = some (.int .i64)) {z : Value} (hz : (P.info? E).map (·.zero) = some (some z)) {m : Nat} {L : List (Int × Value)} (hm : MapIs w m L) (i : Int) (ok : Bool) :
    (Instr.lookup T (.map (some m)) (.int .i64 i) ok).run P w = .ok (if ok then .tuple #[(L.lookup i).getD z, .bool (L.lookup i).isSome] else (L.lookup i).getD z) w := by
  obtain ⟨es, clock, h1, h2, _, _⟩ := hm.out
  unfold Instr.lookup
  rw [Sem.run_bind, run_underlying hT w]
  simp only [Result.andThen_ok]
  simp only [Sem.run_bind, getObj, Sem.run, h1, Result.andThen_ok, Sem.run_pure]
  rw [show (10000 : Nat) = 9999 + 1 from rfl, run_checkKey hk _ _ _ w ⟨i, rfl⟩]
  simp only [Result.andThen_ok, run_findKey hk i h2 w]
  have hfl := find_lookup i L 0
  cases hq : P.info? E with
  | none => simp [hq] at hz
  | some inf =>
    have hz' : inf.zero = some z := by simpa [hq] using hz
    cases hf : find i L 0 with
    | none =>
      rw [hf] at hfl
      simp only [Option.map_none] at hfl
      cases ok <;> simp [← hfl, zeroValue, typeInfo, hq, hz']
    | some p =>
      obtain ⟨j, v⟩ := p
      rw [hf] at hfl
      simp only [Option.map_some] at hfl
      cases ok <;> simp [← hfl]

theorem wpList_lookup_int (hgd : o.guard = none) (T : TypeId) (x y : Operand) (ok : Bool) (ho : o.op = .lookup T x y ok) {K E : TypeId} {z : Value} (hT : P.underlying T = some (.map K E)) (hk : P.underlying K = some (.int .i64))
    (hz : (P.info? E).map (·.zero) = some (some z)) (m : Nat) (i : Int) (hx : a.eval x = .map (some m)) (hy : a.eval y = .int .i64 i) {L : List (Int × Value)} (hm : MapIs w m L)
    (h : wpList P ops Q rest (a.put o.dst (if ok then .tuple #[(L.lookup i).getD z, .bool (L.lookup i).isSome] else (L.lookup i).getD z)) w) : wpList P ops Q (o :: rest) a w :=
  wpList_plain hgd fun K' hK => by
    unfold Oper.wp execOp
    simp only [ho, hx, hy, Sem.run_bind, run_lookup_ok hT hk hz hm i ok, Result.andThen_ok, Sem.run_pure]
    exact hK _ _ h

theorem wpList_lookup_there (hgd : o.guard = none) (T : TypeId) (x y : Operand) (ok : Bool) (ho : o.op = .lookup T x y ok) {K E : TypeId} {z : Value} (hT : P.underlying T = some (.map K E)) (hk : P.underlying K = some (.int .i64))
    (hz : (P.info? E).map (·.zero) = some (some z)) (m : Nat) (i : Int) (hx : a.eval x = .map (some m)) (hy : a.eval y = .int .i64 i) {L : List (Int × Value)} (hm : MapIs w m L) {v : Value} (hl : L.lookup i = some v)
    (h : wpList P ops Q rest (a.put o.dst (if ok then .tuple #[v, .bool true] else v)) w) : wpList P ops Q (o :: rest) a w :=
  wpList_lookup_int hgd T x y ok ho hT hk hz m i hx hy hm (by rw [hl]; exact h)
theorem wpList_lookup_not (hgd : o.guard = none) (T : TypeId) (x y : Operand) (ok : Bool) (ho : o.op = .lookup T x y ok) {K E : TypeId} {z : Value} (hT : P.underlying T = some (.map K E)) (hk : P.underlying K = some (.int .i64))
    (hz : (P.info? E).map (·.zero) = some (some z)) (m : Nat) (i : Int) (hx : a.eval x = .map (some m)) (hy : a.eval y = .int .i64 i) {L : List (Int × Value)} (hm : MapIs w m L) (hl : L.lookup i = none)
    (h : wpList P ops Q rest (a.put o.dst (if ok then .tuple #[z, .bool false] else z)) w) : wpList P ops Q (o :: rest) a w :=
  wpList_lookup_int hgd T x y ok ho hT hk hz m i hx hy hm (by rw [hl]; exact h)

/-- the pairs behind an update: at its place, or behind the others -/
def putL (i : Int) (v : Value) : List (Int × Value) → List (Int × Value)
  | [] => [(i, v)]
  | (k, u) :: r => if i = k then (k, v) :: r else (k, u) :: putL i v r

theorem find_none {i : Int} : ∀ {L : List (Int × Value)} {n : Nat}, find i L n = none → ∀ v, putL i v L = L ++ [(i, v)]
  | [], _, _, _ => rfl
  | (k, u) :: r, n, h, v => by
    simp only [find] at h
    split at h
    · cases h
    · rename_i hk; simp only [putL, if_neg hk, find_none h v, List.cons_append]
theorem find_some {i : Int} : ∀ {L : List (Int × Value)} {n j : Nat} {v : Value}, find i L n = some (j, v) → ∃ d, j = n + d ∧ (∃ u, L[d]? = some (i, u)) ∧ ∀ v', putL i v' L = L.set d (i, v')
  | [], _, _, _, h => by simp [find] at h
  | (k, u) :: r, n, j, v, h => by
    simp only [find] at h
    split at h
    · rename_i hk
      subst hk
      simp only [Option.some.injEq, Prod.mk.injEq] at h
      exact ⟨0, by omega, ⟨u, by simp⟩, fun v' => by simp [putL]⟩
    · rename_i hk
      obtain ⟨d, h1, ⟨u', h2⟩, h3⟩ := find_some h
      exact ⟨d + 1, by omega, ⟨u', by simpa using h2⟩, fun v' => by simp [putL, if_neg hk, h3]⟩

theorem run_mapUpdate_int (hT : P.underlying T = some (.map K E)) (hk : P.underlying K = some (.int .i64)) {m : Nat} {L : List (Int × Value)} (hm : MapIs w m L) (i : Int) (v : Value) :
    ∃ o, (Instr.mapUpdate T (.map (some m)) (.int .i64 i) v).run P w = .ok () (putO w m o) ∧ MapIs (putO w m o) m (putL i v L) := by
  obtain ⟨es, clock, h1, h2, h3, h4⟩ := hm.out
  unfold Instr.mapUpdate
  simp only [Sem.run_bind, run_underlying hT w, Result.andThen_ok, getObj, Sem.run, h1, Sem.run_pure]
  rw [show (10000 : Nat) = 9999 + 1 from rfl, run_checkKey hk _ _ _ w ⟨i, rfl⟩]
  simp only [Result.andThen_ok, run_findKey hk i h2 w]
  cases hf : find i L 0 with
  | none =>
    refine ⟨.map (es.push { key := .int .i64 i, val := v, born := clock }) (clock + 1), ?_, ?_⟩
    · simp [setObj, Sem.run, h1, putO]
    · refine ⟨_, _, putO_same h1, ?_, ?_, ?_⟩
      · simp [find_none hf, h2]
      · simp only [Array.toList_push, List.map_append, List.map_cons, List.map_nil]
        rw [List.pairwise_append]
        refine ⟨h3, List.pairwise_singleton _ _, fun a ha b hb => ?_⟩
        obtain ⟨e, he, rfl⟩ := List.mem_map.1 ha
        simp only [List.mem_singleton] at hb
        subst hb
        exact h4 e he
      · intro e he
        simp only [Array.toList_push, List.mem_append, List.mem_singleton] at he
        rcases he with he | rfl
        · have := h4 e he; omega
        · show clock < clock + 1; omega
  | some p =>
    obtain ⟨j, u⟩ := p
    obtain ⟨d, hd, ⟨u', hu⟩, hset⟩ := find_some hf
    have hj : j = d := by omega
    subst hj
    have hkey : ∃ e, es[j]? = some e ∧ e.key = .int .i64 i := by
      have hl := congrArg (fun l => l[j]?) h2
      simp only [List.getElem?_map, hu, Option.map_some, Array.getElem?_toList] at hl
      cases he : es[j]? with
      | none => simp [he] at hl
      | some e => simp [he] at hl; exact ⟨e, rfl, hl.1⟩
    obtain ⟨e, he, hek⟩ := hkey
    refine ⟨.map (es.modify j fun e => { e with key := .int .i64 i, val := v }) clock, ?_, ?_⟩
    · have hstay : (Instr.keyThatStays (.int .i64 i) (.int .i64 i)).run P w = .ok (.int .i64 i) w := by
        unfold Instr.keyThatStays
        rw [if_pos (by simp [Instr.sameBits])]
        rfl
      simp [he, hek, hstay, setObj, Sem.run, h1, putO]
    · refine ⟨_, _, putO_same h1, ?_, ?_, ?_⟩
      · rw [hset v]
        apply List.ext_getElem?
        intro q
        have hl := congrArg (fun l => l[q]?) h2
        simp only [List.getElem?_map, Array.getElem?_toList] at hl ⊢
        simp only [Array.getElem?_modify, List.getElem?_set]
        by_cases hq : j = q
        · subst hq
          simp only [if_true]
          have hlt : j < L.length := (List.getElem?_eq_some_iff.1 hu).1
          simp [he, hlt]
        · simp only [if_neg hq]; exact hl
      · have : ((es.modify j fun e => { e with key := .int .i64 i, val := v }).toList.map (·.born)) = es.toList.map (·.born) := by
          apply List.ext_getElem?
          intro q
          simp only [List.getElem?_map, Array.getElem?_toList, Array.getElem?_modify]
          by_cases hq : j = q
          · subst hq; simp [he]
          · simp [if_neg hq]
        rw [this]; exact h3
      · intro e' he'
        obtain ⟨q, hq⟩ := List.mem_iff_getElem?.1 he'
        rw [Array.getElem?_toList, Array.getElem?_modify] at hq
        split at hq
        · rename_i hjq
          subst hjq
          rw [he] at hq
          simp only [Option.map_some, Option.some.injEq] at hq
          subst hq
          exact h4 e (Array.mem_toList_iff.2 (Array.mem_of_getElem? he))
        · exact h4 e' (Array.mem_toList_iff.2 (Array.mem_of_getElem? hq))

theorem wp_mapUpdate_int {K' : Act → World → Prop} (T : TypeId) (x y z : Operand) (ho : o.op = .mapUpdate T x y z) {K E : TypeId} (hT : P.underlying T = some (.map K E)) (hk : P.underlying K = some (.int .i64))
    (m : Nat) (i : Int) (v : Value) (hx : a.eval x = .map (some m)) (hy : a.eval y = .int .i64 i) (hz : a.eval z = v) {L : List (Int × Value)} (hm : MapIs w m L)
    (h : ∀ w', Fr [m] w w' → MapIs w' m (putL i v L) → K' (a.put o.dst undef) w') : o.wp P a w K' Q := by
  obtain ⟨ob, h1, h2⟩ := run_mapUpdate_int (P := P) hT hk hm i v
  unfold Oper.wp execOp
  simp only [ho, hx, hy, hz, Sem.run_bind, h1, Result.andThen_ok, Sem.run_pure]
  exact h _ (Fr.putO w m ob) h2
theorem wpList_mapUpdate_int (hgd : o.guard = none) (T : TypeId) (x y z : Operand) (ho : o.op = .mapUpdate T x y z) {K E : TypeId} (hT : P.underlying T = some (.map K E)) (hk : P.underlying K = some (.int .i64))
    (m : Nat) (i : Int) (v : Value) (hx : a.eval x = .map (some m)) (hy : a.eval y = .int .i64 i) (hz : a.eval z = v) {L : List (Int × Value)} (hm : MapIs w m L)
    (h : ∀ w', Fr [m] w w' → MapIs w' m (putL i v L) → wpList P ops Q rest (a.put o.dst undef) w') : wpList P ops Q (o :: rest) a w :=
  wpList_plain hgd fun K' hK => wp_mapUpdate_int T x y z ho hT hk m i v hx hy hz hm fun w' h1 h2 => hK _ _ (h w' h1 h2)

/-! ### blocks of one aggregate: made, stored whole, read whole; the world behind is a variable -/
theorem wpList_alloc_agg (hgd : o.guard = none) (ty : TypeId) (ho : o.op = .alloc ty) {zs : Array Value} (hz : (P.info? ty).map (·.zero) = some (some (.agg zs)))
    (h : ∀ b w', w.heap.size ≤ b → b < w'.heap.size → Blk w' b (.cells zs ty (0, 0)) → Fr [] w w' → wpList P ops Q rest (a.put o.dst (.pointer (some ⟨b, 0, none⟩))) w') : wpList P ops Q (o :: rest) a w :=
  wpList_plain hgd fun K hK => by
    cases hq : P.info? ty with
    | none => simp [hq] at hz
    | some i =>
      have hz' : i.zero = some (.agg zs) := by simpa [hq] using hz
      have he : (execOp a.eval o).run P w = .ok (.value (.pointer (some ⟨w.heap.size, 0, none⟩))) (w.alloc (.cells zs ty (0, 0))) := by
        unfold execOp
        rw [ho]
        simp [Instr.alloc, zeroValue, typeInfo, hq, hz', newVar, newRow, Value.cells]
      unfold Oper.wp
      rw [he]
      exact hK _ _ (h _ _ (Nat.le_refl _) (by simp) ⟨Go.heap_alloc_new w _⟩ (Fr.alloc w _))

theorem wpList_box_agg (hgd : o.guard = none) (ty : TypeId) (x : Operand) (ho : o.op = .box ty x) {zs : Array Value} (hx : a.eval x = .agg zs)
    (h : ∀ b w', w.heap.size ≤ b → b < w'.heap.size → Blk w' b (.cells zs ty (0, 0)) → Fr [] w w' → wpList P ops Q rest (a.put o.dst (.pointer (some ⟨b, 0, none⟩))) w') : wpList P ops Q (o :: rest) a w :=
  wpList_plain hgd fun K hK => by
    have he : (execOp a.eval o).run P w = .ok (.value (.pointer (some ⟨w.heap.size, 0, none⟩))) (w.alloc (.cells zs ty (0, 0))) := by
      unfold execOp
      rw [ho]
      simp [Instr.box, hx, newVar, newRow, Value.cells]
    unfold Oper.wp
    rw [he]
    exact hK _ _ (h _ _ (Nat.le_refl _) (by simp) ⟨Go.heap_alloc_new w _⟩ (Fr.alloc w _))

theorem splice_whole {cs : Array Value} {vs : List Value} (h : vs.length = cs.size) : splice cs 0 vs = vs.toArray := by
  simp [splice, h]

/-- an aggregate stored over a whole block -/
theorem wpList_store_whole (hgd : o.guard = none) (ty : TypeId) (x y : Operand) (ho : o.op = .store ty x y) (g n : Nat) (hx : a.eval x = .pointer (some ⟨g, 0, none⟩))
    {vs : List Value} (hy : a.eval y = .agg vs.toArray) {t : TypeId} {cs : Array Value} (hi : (P.info? ty).map (·.size) = some n)
    (hg : Blk w g (.cells cs t (0, 0))) (hl : vs.length = n) (hn : cs.size = n) (h1 : ∀ v ∈ vs, v.oneCell' = true)
    (h : ∀ w', Blk w' g (.cells vs.toArray t (0, 0)) → Fr [g] w w' → wpList P ops Q rest (a.put o.dst undef) w') : wpList P ops Q (o :: rest) a w :=
  wpList_store_at hgd ty x y ho g 0 n hx hy hi hg.out hl (by omega) h1
    (h _ ⟨by rw [setRow_heap w g cs _ t (0, 0) hg.out, splice_whole (by omega)]⟩ (Fr.setRow w g _))

/-- a whole block read -/
theorem wpList_load_whole (hgd : o.guard = none) (ty : TypeId) (x : Operand) (ho : o.op = .load ty x) (g n : Nat) (hx : a.eval x = .pointer (some ⟨g, 0, none⟩))
    {t : TypeId} {cs : Array Value} {fr : Nat × Nat} {d : TypeDesc} (hu : P.underlying ty = some d) (hd : aggD d = true) (hi : (P.info? ty).map (·.size) = some n)
    (hg : Blk w g (.cells cs t fr)) (hn : cs.size = n)
    (h : wpList P ops Q rest (a.put o.dst (.agg cs)) w) : wpList P ops Q (o :: rest) a w :=
  wpList_load_at hgd ty x ho g 0 n hx hu hd hi hg.out (by omega) (by
    have : cs.extract 0 (0 + n) = cs := by rw [Nat.zero_add, ← hn]; simp
    rw [this]; exact h)

theorem results_cell {fn : Func} {p : Tmp} {ty : TypeId} (h : fn.results = #[.cell p ty]) (tmps : Array Value) (w : World) (g : Nat) (t : TypeId) (cs : Array Value) (fr : Nat × Nat) (d : TypeDesc)
    (hp : tmps.getD p undef = .pointer (some ⟨g, 0, none⟩)) (hg : Blk w g (.cells cs t fr))
    (hu : P.underlying ty = some d) (hd : aggD d = true) (hi : (P.info? ty).map (·.size) = some cs.size) :
    (results fn tmps).run P w = .ok (.agg cs) w :=
  results_cell_row h tmps w g t cs fr d hp hg.out hu (by cases d <;> simp_all [aggD]) hi

end laws
end Gd
