/- A region that draws its order: operations that read no memory are done first, wherever they stand ('wpPure'); what is left is walked in the orders that can come. -/
import Derived.Test.YtccgpblecgapaaaDoorDraw
set_option linter.unusedSimpArgs false
set_option linter.unusedVariables false
namespace Gd
open Go
section
variable {P : Program} {ops : Array Oper} {md : Region.Mode} {Q : Exit → Act → World → Prop}

def hoistB (md : Region.Mode) (ops : Array Oper) : List Nat → Array Bool → Bool
  | [], _ => true
  | i :: S, listed => (Region.ready md ops listed).contains i && Region.free md ops listed i && hoistB md ops S (listed.setIfInBounds i true)
def listS : List Nat → Array Bool → Array Bool
  | [], listed => listed
  | i :: S, listed => listS S (listed.setIfInBounds i true)
def wpPure (P : Program) (Qa : Act → Prop) : List Oper → Act → Prop
  | [], a => Qa a
  | o :: S, a => o.guard = none ∧ ∃ v, (∀ w, (execOp a.eval o).run P w = .ok (.value v) w) ∧ wpPure P Qa S (a.put o.dst v)
/-- the operations of these numbers -/
def takeO (l : List Oper) (S : List Nat) : List Oper := S.map fun i => l.getD i default
theorem takeO_at {l : List Oper} {i : Nat} {listed : Array Bool} (h : i ∈ Region.ready md l.toArray listed) : l.toArray[i]? = some (l.getD i default) := by
  obtain ⟨_, o, ho, _⟩ := mem_ready.1 h
  have : l[i]? = some o := by simpa using ho
  rw [ho]
  simp [List.getD_eq_getElem?_getD, this]

theorem wpAny_hoist {l : List Oper} (hs : Region.noSelect l.toArray = true) (hQ : ∀ c a w d v, Q (.panic c) (a.put d v) w → Q (.panic c) a w) {w : World} {f : Nat} {Qa : Act → Prop} :
    ∀ (S : List Nat) (listed : Array Bool) (a : Act), hoistB md l.toArray S listed = true → (∀ a', Qa a' → wpAny P md l.toArray Q f (listS S listed) a' w) → wpPure P Qa (takeO l S) a → wpAny P md l.toArray Q (f + S.length) listed a w
  | [], listed, a, _, h, hp => h a hp
  | i :: S, listed, a, hb, h, hp => by
    simp only [hoistB, Bool.and_eq_true] at hb
    obtain ⟨hg, v, hv, hp⟩ := hp
    have ho := takeO_at (l := l) (by simpa using hb.1.1)
    have hw : Region.wanted (l.getD i default) (yielded l.toArray a.tmps) = true := by simp only [Region.wanted, hg]
    rw [List.length_cons, ← Nat.add_assoc]
    exact wpAny_take ho hs hb.1.2 hb.1.1 (fun c a w => hQ c a w _ _) (.inl ⟨hw, hv⟩) (wpAny_hoist hs hQ S _ _ hb.2 h hp)

/-- the rule: first S, then what is left -/
theorem wp_region_hoist {id : Nat} {a : Act} {w : World} {l : List Oper} (S : List Nat) (hm : P.follows .mixedOrders = true) (hB : (Region.noSelect l.toArray && hoistB .any l.toArray S (Array.replicate l.toArray.size false) && decide (S.length ≤ l.toArray.size)) = true)
    (hQ : ∀ c a w d v, Q (.panic c) (a.put d v) w → Q (.panic c) a w)
    (h : wpPure P (fun a' => wpAny P .any l.toArray Q (l.toArray.size - S.length) (listS S (Array.replicate l.toArray.size false)) a' w.drew) (takeO l S) a) : (Code.region id l.toArray true).wp P Q a w := by
  simp only [Bool.and_eq_true, decide_eq_true_eq] at hB
  obtain ⟨⟨h1, h2⟩, h3⟩ := hB
  refine wp_region_any hm ?_
  have := wpAny_hoist (md := .any) h1 hQ S (Array.replicate l.toArray.size false) a h2 (fun a' h => h) h
  rw [show l.toArray.size - S.length + S.length = l.toArray.size by omega] at this
  exact this

/-- then the order is forced: T -/
def forcedB (md : Region.Mode) (ops : Array Oper) : List Nat → Array Bool → Bool
  | [], listed => Region.ready md ops listed == []
  | i :: T, listed => (Region.ready md ops listed == [i]) && forcedB md ops T (listed.setIfInBounds i true)
theorem wpAny_forced {l : List Oper} : ∀ (T : List Nat) (f : Nat) (listed : Array Bool) (a : Act) (w : World), (decide (T.length ≤ f) && forcedB md l.toArray T listed) = true → wpList P l.toArray Q (takeO l T) a w → wpAny P md l.toArray Q f listed a w
  | [], f, listed, a, w, hb, h => by
    simp only [forcedB, Bool.and_eq_true, beq_iff_eq] at hb
    exact wpAny_done hb.2 h f
  | i :: T, f, listed, a, w, hb, h => by
    simp only [forcedB, Bool.and_eq_true, beq_iff_eq, decide_eq_true_eq] at hb
    obtain ⟨hf, h1, h2⟩ := hb
    obtain ⟨f, rfl⟩ : ∃ g, f = g + 1 := ⟨f - 1, by simp at hf; omega⟩
    refine wpAny_all h1 (by simp) (fun j hj => ?_)
    obtain rfl : j = i := by simpa using hj
    have h' : wpOp P l.toArray Q j (wpList P l.toArray Q (takeO l T)) a w := by
      unfold wpOp
      simp only [takeO_at (l := l) (by rw [h1]; simp : j ∈ Region.ready md l.toArray listed)]
      exact h
    exact wpOp_mono (fun a' w' h => wpAny_forced T f _ a' w' (by simp only [Bool.and_eq_true, decide_eq_true_eq]; exact ⟨by simp at hf; omega, h2⟩) h) h'

/-- one alone can come: a read -/
theorem wpAny_one {l : List Oper} (i : Nat) {f : Nat} {v : Value} {listed : Array Bool} {a : Act} {w : World} (hg : (l.getD i default).guard = none) (hB : (Region.ready md l.toArray listed == [i]) = true)
    (ei : (execOp a.eval (l.getD i default)).run P w = .ok (.value v) w) (h : wpAny P md l.toArray Q f (listed.setIfInBounds i true) (a.put (l.getD i default).dst v) w) : wpAny P md l.toArray Q (f + 1) listed a w := by
  have hB' : Region.ready md l.toArray listed = [i] := by simpa using hB
  have hi := takeO_at (l := l) (by rw [hB']; simp : i ∈ Region.ready md l.toArray listed)
  refine wpAny_all hB' (by simp) (fun k hk => ?_)
  obtain rfl : k = i := by simpa using hk
  unfold wpOp
  simp only [hi]
  rw [if_pos (by simp only [Region.wanted, hg])]
  refine .inl ?_
  unfold Oper.wp
  rw [ei]
  exact h
/-- pure operations again -/
theorem wpAny_more {l : List Oper} (S : List Nat) (f : Nat) {f' : Nat} {listed : Array Bool} {a : Act} {w : World} (hB : (decide (f' = f + S.length) && Region.noSelect l.toArray && hoistB md l.toArray S listed) = true)
    (hQ : ∀ c a w d v, Q (.panic c) (a.put d v) w → Q (.panic c) a w) (h : wpPure P (fun a' => wpAny P md l.toArray Q f (listS S listed) a' w) (takeO l S) a) : wpAny P md l.toArray Q f' listed a w := by
  simp only [Bool.and_eq_true, decide_eq_true_eq] at hB
  obtain ⟨⟨rfl, h1⟩, h2⟩ := hB
  exact wpAny_hoist h1 hQ S listed a h2 (fun a' h => h) h
/-- two reads, in either order -/
theorem wpAny_two {l : List Oper} (i j : Nat) {f : Nat} {vi vj : Value} {listed : Array Bool} {a : Act} {w : World} (gi : (l.getD i default).guard = none) (gj : (l.getD j default).guard = none)
    (hB : (Region.noSelect l.toArray && (Region.ready md l.toArray listed == [i, j]) && (Region.ready md l.toArray (listed.setIfInBounds i true) == [j]) && (Region.ready md l.toArray (listed.setIfInBounds j true) == [i]) && (l.getD i default).apart l.toArray (l.getD j default) && decide (i ≠ j)) = true)
    (ei : (execOp a.eval (l.getD i default)).run P w = .ok (.value vi) w) (ej : (execOp a.eval (l.getD j default)).run P w = .ok (.value vj) w)
    (h : wpAny P md l.toArray Q f ((listed.setIfInBounds i true).setIfInBounds j true) ((a.put (l.getD i default).dst vi).put (l.getD j default).dst vj) w) : wpAny P md l.toArray Q (f + 2) listed a w := by
  generalize hops : l.toArray = ops at *
  simp only [Bool.and_eq_true, beq_iff_eq, decide_eq_true_eq] at hB
  have hi : ops[i]? = some (l.getD i default) := by
    rw [← hops]
    exact takeO_at (md := md) (listed := listed) (by rw [hops, hB.1.1.1.1.2]; simp)
  have hj : ops[j]? = some (l.getD j default) := by
    rw [← hops]
    exact takeO_at (md := md) (listed := listed) (by rw [hops, hB.1.1.1.1.2]; simp)
  generalize l.getD i default = oi at *
  generalize l.getD j default = oj at *
  obtain ⟨⟨⟨⟨⟨hs, h1⟩, h2⟩, h3⟩, h4⟩, h5⟩ := hB
  obtain ⟨a1, a2, a3⟩ := Oper.apart_spec h4
  have hsel := Region.noSelect_spec hs
  have one : ∀ (k : Nat) (o : Oper) (v : Value) (b : Act) (K : Act → World → Prop), ops[k]? = some o → o.guard = none → (execOp b.eval o).run P w = .ok (.value v) w → K (b.put o.dst v) w → wpOp P ops Q k K b w := fun k o v b K ho hg he hk => by
    unfold wpOp
    simp only [ho]
    rw [if_pos (by simp [Region.wanted, hg])]
    refine .inl ?_
    unfold Oper.wp
    rw [he]
    exact hk
  refine wpAny_all h1 (by simp) (fun k hk => ?_)
  rcases (by simpa using hk : k = i ∨ k = j) with rfl | rfl
  · refine one k oi vi a _ hi gi ei ?_
    refine wpAny_all h2 (by simp) (fun k' hk' => ?_)
    obtain rfl : k' = j := by simpa using hk'
    refine one k' oj vj _ _ hj gj ?_ h
    rw [execOp_put oj (fun cs b => hsel k' oj cs b hj) a oi.dst vi a1]; exact ej
  · refine one k oj vj a _ hj gj ej ?_
    refine wpAny_all h3 (by simp) (fun k' hk' => ?_)
    obtain rfl : k' = i := by simpa using hk'
    refine one k' oi vi _ _ hi gi ?_ ?_
    · rw [execOp_put oi (fun cs b => hsel k' oi cs b hi) a oj.dst vj a3]; exact ei
    · rw [Act.put_comm a vj vi (fun d hd hd' => a2 d hd' hd), Array.setIfInBounds_comm _ _ (Ne.symm h5)]; exact h

theorem exec_load {o : Oper} {a : Act} {W : World} {T : TypeId} {x : Operand} (ho : o.op = .load T x) {b off : Nat} (hx : a.eval x = .pointer (some ⟨b, off, none⟩)) {v : Value} {d : TypeDesc} (hu : P.underlying T = some d) (hd : aggD d = false) (hc : W.cell? ⟨b, off, none⟩ = some v) :
    (execOp a.eval o).run P W = .ok (.value v) W := by
  unfold execOp; rw [ho]
  have hagg : (isAgg T).run P W = .ok false W := by
    unfold isAgg; rw [Sem.run_bind, run_underlying hu W]; cases d <;> simp_all [aggD]
  simp only [hx, Sem.run_bind, Instr.loadAt, Instr.sureAddr, Sem.run_pure, Result.andThen_ok, loadVar, hagg]
  simp [hc]
theorem exec_loadA {o : Oper} {a : Act} {W : World} {T : TypeId} {x : Operand} (ho : o.op = .load T x) {b off n : Nat} (hx : a.eval x = .pointer (some ⟨b, off, none⟩)) {cs : Array Value} {t : TypeId} {fr : Nat × Nat} {v : Value} {d : TypeDesc} (hu : P.underlying T = some d) (hd : aggD d = true)
    (hi : (P.info? T).map (·.size) = some n) (hn : off + n ≤ cs.size) (hc : Blk W b (.cells cs t fr)) (hv : v = .agg (cs.extract off (off + n))) : (execOp a.eval o).run P W = .ok (.value v) W := by
  unfold execOp; rw [ho, hv]
  simp only [hx, Sem.run_bind, Instr.loadAt, Instr.sureAddr, Sem.run_pure, Result.andThen_ok, run_loadVar_at hc.out hu hd hi hn]

/-! ### pure steps -/
variable {Qa : Act → Prop} {a : Act} {o : Oper} {S : List Oper}
theorem wpPure_nil (h : Qa a) : wpPure P Qa [] a := h
theorem wpPure_val (hg : o.guard = none) (v : Value) (hr : ∀ w, (execOp a.eval o).run P w = .ok (.value v) w) (h : wpPure P Qa S (a.put o.dst v)) : wpPure P Qa (o :: S) a :=
  ⟨hg, v, hr, h⟩
theorem wpPure_move (hg : o.guard = none) (x : Operand) (hx : o.op = .move x) {v : Value} (hv : a.eval x = v) (h : wpPure P Qa S (a.put o.dst v)) : wpPure P Qa (o :: S) a :=
  wpPure_val hg v (fun W => by unfold execOp; rw [hx]; simp only [hv]; rfl) h
theorem wpPure_nilCheck (hg : o.guard = none) (x : Operand) (hx : o.op = .nilCheck x) {ad : Addr} (hv : a.eval x = .pointer (some ad)) (h : wpPure P Qa S (a.put o.dst (.pointer (some ad)))) : wpPure P Qa (o :: S) a :=
  wpPure_val hg _ (fun W => by unfold execOp; rw [hx]; simp only [hv]; rfl) h
theorem wpPure_slice (hg : o.guard = none) (T : TypeId) (x : Operand) (lo hi mx : Option Operand) (ho : o.op = .slice T x lo hi mx) {E : TypeId} {sz : Nat} {ad : Option Addr} {len cap : Nat} (hx : a.eval x = .slice ad len cap) (hu : P.underlying T = some (.slice E)) (hs : (P.info? E).map (·.size) = some sz) (L H M : Nat)
    (hL : VIs (lo.map a.eval) 0 L) (hH : VIs (hi.map a.eval) len H) (hM : VIs (mx.map a.eval) cap M) (hm : (mx.map a.eval).isSome = true → (hi.map a.eval).isSome = true) (h1 : L ≤ H) (h2 : H ≤ M) (h3 : M ≤ cap)
    (v : Value) (hv : v = .slice (if M = L then ad else ad.map (·.add (L * sz))) (H - L) (M - L)) (h : wpPure P Qa S (a.put o.dst v)) : wpPure P Qa (o :: S) a :=
  wpPure_val hg _ (fun W => by
    unfold execOp; rw [ho, hv]
    simp only [hx, Sem.run_bind]
    rw [run_sliceAt_slice hu, run_slice_slice hu hs hL hH hM hm h1 h2 h3]
    rfl) h
theorem wpPure_field (hg : o.guard = none) (T : TypeId) (x : Operand) (f : Nat) (hx : o.op = .fieldAddr T x f) {b off : Nat} (hv : a.eval x = .pointer (some ⟨b, off, none⟩)) (v : Value)
    (hf : ∀ W, (Instr.fieldAt T (.pointer (some ⟨b, off, none⟩)) f).run P W = .ok v W) (h : wpPure P Qa S (a.put o.dst v)) : wpPure P Qa (o :: S) a :=
  wpPure_val hg _ (fun W => by unfold execOp; rw [hx]; simp only [hv, Sem.run_bind, hf]; rfl) h
end
end Gd
