/- A region that draws its order: first operations that leave a class of worlds alone (each yields one value, whatever world of the class it meets), then one operation of any make that all of them feed, then operations that hang on it. One walk in the order of the text serves every order. -/
import Derived.Test.YtccgpblecgapaaaDoorFw
import Derived.StillTail
set_option linter.unusedSimpArgs false
set_option linter.unusedVariables false
namespace Gd
open Go
section
variable {P : Program} {ops : Array Oper} {md : Region.Mode} {C : World → Prop}

/-- every operation behind n waits for one from n on -/
def downB (md : Region.Mode) (ops : Array Oper) (n : Nat) : Bool :=
  (List.range ops.size).all fun t => decide (t ≤ n) || (List.range t).any fun j => decide (n ≤ j) && Region.waitsFor md ops t j

theorem waits {n : Nat} {listed : Array Bool} (hs : Region.sinkB md ops n = true) (hc : downB md ops n = true) (inv : HeadInv md ops n listed) :
    ∀ (d i : Nat), n - i = d → i < n → listed.getD i true = false → ∀ t, n ≤ t → t ∉ Region.ready md ops listed := by
  intro d
  induction d using Nat.strongRecOn with
  | _ d ih =>
    intro i hd hi hun t ht hr
    obtain ⟨_, ot, hot, hall⟩ := mem_ready.1 hr
    have htlt : t < ops.size := (Array.getElem?_eq_some_iff.1 hot).1
    by_cases htn : t = n
    · subst htn
      obtain ⟨j, hj, hj2⟩ := List.any_eq_true.1 (List.all_eq_true.1 hs i (List.mem_range.2 hi))
      simp only [Bool.and_eq_true, decide_eq_true_eq] at hj2
      obtain ⟨oj, hoj, e, he, hb, hon⟩ := Region.waitsFor_spec hj2.2
      have hjle : j ≤ t := by have := List.mem_range.1 hj; omega
      by_cases hjt : j = t
      · subst hjt
        obtain rfl : oj = ot := Option.some.inj (hoj.symm.trans hot)
        have h2 := hall e he hb
        rw [hon, getD_both hun] at h2
        cases h2
      · cases hl : listed.getD j false with
        | true =>
          have h2 := inv.closed j oj hoj hl e he hb
          rw [hon, getD_both hun] at h2
          cases h2
        | false =>
          exact ih (t - j) (by omega) j rfl (by omega) (getD_in (by rw [inv.size]; omega) hl) t (Nat.le_refl _) hr
    · have h1 := List.all_eq_true.1 hc t (List.mem_range.2 htlt)
      simp only [Bool.or_eq_true, decide_eq_true_eq] at h1
      rcases h1 with h1 | h1
      · omega
      · obtain ⟨j, hj, hj2⟩ := List.any_eq_true.1 h1
        simp only [Bool.and_eq_true, decide_eq_true_eq] at hj2
        obtain ⟨o', ho', e, he, hb, hon⟩ := Region.waitsFor_spec hj2.2
        obtain rfl : o' = ot := Option.some.inj (ho'.symm.trans hot)
        have hjt := List.mem_range.1 hj
        have h2 := hall e he hb
        rw [hon, getD_both (inv.tail j hj2.1 (by omega))] at h2
        cases h2

def wpAnyT (P : Program) (md : Region.Mode) (ops : Array Oper) (C : World → Prop) (n : Nat) (L : Array Bool → Act → Prop) : Nat → Array Bool → Act → Prop
  | 0, listed, a => L listed a
  | f + 1, listed, a => Region.ready md ops listed ≠ [] ∧ ∀ i ∈ Region.ready md ops listed, i < n ∧ qOp P ops C i (wpAnyT P md ops C n L f (listed.setIfInBounds i true)) a

theorem wpAny_of_T {n g : Nat} {L : Array Bool → Act → Prop} {Q' : Exit → Act → World → Prop} (hL : ∀ listed a w, C w → L listed a → wpAny P md ops Q' g listed a w) :
    ∀ (f : Nat) (listed : Array Bool) (a : Act) (w : World), C w → wpAnyT P md ops C n L f listed a → wpAny P md ops Q' (f + g) listed a w
  | 0, listed, a, w, hw, h => by rw [Nat.zero_add]; exact hL _ _ _ hw h
  | f + 1, listed, a, w, hw, h => by
    rw [show f + 1 + g = (f + g) + 1 by omega]
    exact ⟨fun h0 => absurd h0 h.1, fun i hi => wpOp_of_qOp hw (fun a' w' hw' h' => wpAny_of_T hL f _ a' w' hw' h') (h.2 i hi).2⟩

theorem wpAnyT_first {n i : Nat} {oi : Oper} {v : Value} {L : Array Bool → Act → Prop} (hi : ops[i]? = some oi) (hsel : ∀ (j : Nat) (o : Oper) cs b, ops[j]? = some o → o.op ≠ .select cs b)
    (hs : Region.sinkB md ops n = true) (hc : downB md ops n = true) (hin : i < n)
    (hdone : ∀ listed a, L listed a → ∀ j ∈ Region.ready md ops listed, n ≤ j) :
    ∀ (f : Nat) (listed : Array Bool) (a : Act), HeadInv md ops n listed →
      (∀ j oj, ops[j]? = some oj → j ≠ i → listed.getD j true = false → (∀ e ∈ oj.after, Region.binds md e = true → e.on ≠ i) → oi.apart ops oj = true) →
      i ∈ Region.ready md ops listed → YieldsIn P ops C oi v a →
      wpAnyT P md ops C n L f (listed.setIfInBounds i true) (a.put oi.dst v) → wpAnyT P md ops C n L (f + 1) listed a := by
  intro f
  induction f with
  | zero =>
    intro listed a inv _ hr hy H
    refine ⟨fun h => (by rw [h] at hr; cases hr), fun j hj => ?_⟩
    have hjn : j < n := by
      rcases Nat.lt_or_ge j n with h | h
      · exact h
      · exact absurd hj (waits hs hc inv _ i rfl hin (mem_ready.1 hr).1 j h)
    refine ⟨hjn, ?_⟩
    by_cases hji : j = i
    · subst hji; exact hy.qOp hi H
    · have := hdone _ _ H j (ready_mono hj hji)
      omega
  | succ f ih =>
    intro listed a inv hfree hr hy H
    have hun := (mem_ready.1 hr).1
    refine ⟨fun h => (by rw [h] at hr; cases hr), fun j hj => ?_⟩
    have hjn : j < n := by
      rcases Nat.lt_or_ge j n with h | h
      · exact h
      · exact absurd hj (waits hs hc inv _ i rfl hin hun j h)
    refine ⟨hjn, ?_⟩
    by_cases hji : j = i
    · subst hji; exact hy.qOp hi H
    · have h1 := (H.2 j (ready_mono hj hji)).2
      obtain ⟨hjun, oj, hoj, hall⟩ := mem_ready.1 hj
      have hnot : ∀ e ∈ oj.after, Region.binds md e = true → e.on ≠ i := fun e he hb heq => by
        have h1 := hall e he hb
        rw [heq, getD_both hun] at h1
        cases h1
      have h2 := qOp_put hoj (hfree j oj hoj hji hjun hnot) (fun cs b => hsel i oi cs b hi) (fun cs b => hsel j oj cs b hoj) hy h1
      have hfree' : ∀ k ok, ops[k]? = some ok → k ≠ i → (listed.setIfInBounds j true).getD k true = false →
          (∀ e ∈ ok.after, Region.binds md e = true → e.on ≠ i) → oi.apart ops ok = true := fun k ok hk hki hun hno => by
        refine hfree k ok hk hki ?_ hno
        by_cases hjk : j = k
        · subst hjk; exact hjun
        · rw [getD_set_ne true hjk] at hun; exact hun
      refine qOp_mono (fun a' h3 => ih (listed.setIfInBounds j true) a' (inv.set hj hjn) hfree' (ready_mono hr (Ne.symm hji)) h3.1 ?_) h2
      rw [Array.setIfInBounds_comm _ _ hji]
      exact h3.2

/-- the order of the text serves up to n; there n alone can come; and behind it the rest in that order -/
def headB (md : Region.Mode) (ops : Array Oper) : Nat → Nat → Array Bool → Bool
  | 0, k, listed => (Region.ready md ops listed == [k]) && (Region.lexFrom md ops (ops.size - (k + 1)) (k + 1) (listed.setIfInBounds k true))
  | f + 1, k, listed => (Region.ready md ops listed).contains k && Region.free md ops listed k && headB md ops f (k + 1) (listed.setIfInBounds k true)
def midB (md : Region.Mode) (ops : Array Oper) (n : Nat) : Bool :=
  Region.noSelect ops && decide (n < ops.size) && Region.sinkB md ops n && downB md ops n && headB md ops n 0 (Array.replicate ops.size false)

theorem wpAnyT_lex {n : Nat} {Lq : Act → Prop} (hsel : Region.noSelect ops = true) (hs : Region.sinkB md ops n = true) (hc : downB md ops n = true) :
    ∀ (l : List Oper) (k : Nat) (listed : Array Bool) (a : Act), (∀ j, j < l.length → l[j]? = ops[k + j]?) → k + l.length = n → HeadInv md ops n listed →
    headB md ops l.length k listed = true → wpQuiet P ops C Lq l a →
    wpAnyT P md ops C n (fun listed' a' => headB md ops 0 n listed' = true ∧ Lq a') l.length listed a
  | [], k, listed, a, _, hk, _, hB, h => by
    have : k = n := by simpa using hk
    subst this
    exact ⟨hB, h⟩
  | o :: l, k, listed, a, hl, hk, inv, hB, h => by
    have h0 : ops[k]? = some o := by simpa using (hl 0 (by simp)).symm
    simp only [List.length_cons, headB, Bool.and_eq_true] at hB
    obtain ⟨⟨hr, hf⟩, hB'⟩ := hB
    have hkn : k < n := by simp only [List.length_cons] at hk; omega
    have hr' : k ∈ Region.ready md ops listed := by simpa using hr
    have hst : qOp P ops C k (wpQuiet P ops C Lq l) a := by unfold qOp; simp only [h0]; exact h
    obtain ⟨v, hy, hK⟩ := yieldsIn_of_qOp h0 hst
    refine wpAnyT_first h0 (Region.noSelect_spec hsel) hs hc hkn (fun listed' a' hL j hj => ?_) l.length listed a inv (Region.free_spec h0 hf) hr' hy
      (wpAnyT_lex hsel hs hc l (k + 1) _ _ (fun j hj => by have := hl (j + 1) (by simp; omega); simpa [Nat.add_assoc, Nat.add_comm 1 j] using this) (by simp only [List.length_cons] at hk; omega) (inv.set hr' hkn) hB' hK)
    have h1 := hL.1
    simp only [headB, Bool.and_eq_true, beq_iff_eq] at h1
    rw [h1.1] at hj
    simp at hj
    omega

theorem wpAny_mid {Q : Exit → Act → World → Prop} {a : Act} {w : World} {l : List Oper} (n : Nat) {o : Oper} (hB : midB .any l.toArray n = true) (ho : l[n]? = some o)
    (hC : C w.drew)
    (h : wpQuiet P l.toArray C (fun a' => ∀ w', C w' → if Region.wanted o (yielded l.toArray a'.tmps) then
        o.wp P a' w' (fun a2 w2 => wpQuiet P l.toArray (fun w3 => w3 = w2) (fun a3 => Q .normal a3 w2) (l.drop (n + 1)) a2) Q
      else wpQuiet P l.toArray (fun w3 => w3 = w') (fun a3 => Q .normal a3 w') (l.drop (n + 1)) (a'.put o.dst undef)) (l.take n) a) : wpAny P .any l.toArray Q l.toArray.size (Array.replicate l.toArray.size false) a w.drew := by
  simp only [midB, Bool.and_eq_true, decide_eq_true_eq] at hB
  obtain ⟨⟨⟨⟨hsel, hn⟩, hs⟩, hc⟩, hlex⟩ := hB
  have hn' : n < l.length := by simpa using hn
  have htl : (l.take n).length = n := by simp; omega
  have hdl : (l.drop (n + 1)).length = l.toArray.size - (n + 1) := by simp
  have inv0 : HeadInv .any l.toArray n (Array.replicate l.toArray.size false) :=
    ⟨by simp, fun j oj _ hl => (by rw [getD_replicate_false] at hl; cases hl), fun t _ ht => getD_in (by simpa using ht) (getD_replicate_false _ _)⟩
  have H := wpAnyT_lex (md := .any) (C := C) hsel hs hc (l.take n) 0 _ a (fun j hj => by
    have hj' : j < n := by rw [htl] at hj; exact hj
    simp [hj']) (by simpa using htl) inv0 (by rw [htl]; exact hlex) h
  have rest : ∀ (listed : Array Bool) (a2 : Act) (w2 : World), Region.lexFrom .any l.toArray (l.toArray.size - (n + 1)) (n + 1) listed = true →
      wpQuiet P l.toArray (fun w3 => w3 = w2) (fun a3 => Q .normal a3 w2) (l.drop (n + 1)) a2 → wpAny P .any l.toArray Q (l.toArray.size - (n + 1)) listed a2 w2 := by
    intro listed a2 w2 hb hq
    have h1 := wpAnyQ_lex (P := P) (C := fun w3 => w3 = w2) (md := .any) (Q := fun a3 => Q .normal a3 w2) hsel (l.drop (n + 1)) (n + 1) listed a2 (fun j => by simp [List.getElem?_drop]) (by rw [hdl]; exact hb) hq
    rw [hdl] at h1
    exact wpAny_of_quiet (C := fun w3 => w3 = w2) (Q := fun a3 => Q .normal a3 w2) (fun a3 w3 hw3 h => by rw [hw3]; exact h) _ _ _ _ rfl h1
  have := wpAny_of_T (P := P) (C := C) (Q' := Q) (g := l.toArray.size - n) (fun listed a' w' hw' hL => by
    obtain ⟨h1, h2⟩ := hL
    simp only [headB, Bool.and_eq_true, beq_iff_eq] at h1
    obtain ⟨h1, h3⟩ := h1
    have h4 := h2 w' hw'
    rw [show l.toArray.size - n = (l.toArray.size - (n + 1)) + 1 by simp; omega]
    refine ⟨fun h0 => (by rw [h1] at h0; cases h0), fun i hi => ?_⟩
    rw [h1] at hi
    obtain rfl : i = n := by simpa using hi
    unfold wpOp
    have ho' : l.toArray[i]? = some o := by simpa using ho
    rw [ho']
    simp only
    by_cases hw : Region.wanted o (yielded l.toArray a'.tmps) = true
    · rw [if_pos hw] at h4 ⊢
      exact .inl (Oper.wp_mono (fun a2 w2 hq => rest _ a2 w2 h3 hq) h4)
    · rw [if_neg hw] at h4 ⊢
      exact rest _ _ _ h3 h4) _ _ _ _ hC H
  rw [htl, show n + (l.toArray.size - n) = l.toArray.size by simp; omega] at this
  exact this

/-- ██ the rule ██: quiet operations, one of any make, and quiet ones again (in the world that it leaves) -/
theorem wp_region_mid {id : Nat} {Q : Exit → Act → World → Prop} {a : Act} {w : World} {l : List Oper} (n : Nat) {o : Oper} (hm : P.follows .mixedOrders = true) (hB : midB .any l.toArray n = true) (ho : l[n]? = some o)
    (hC : C w.drew)
    (h : wpQuiet P l.toArray C (fun a' => ∀ w', C w' → if Region.wanted o (yielded l.toArray a'.tmps) then
        o.wp P a' w' (fun a2 w2 => wpQuiet P l.toArray (fun w3 => w3 = w2) (fun a3 => Q .normal a3 w2) (l.drop (n + 1)) a2) Q
      else wpQuiet P l.toArray (fun w3 => w3 = w') (fun a3 => Q .normal a3 w') (l.drop (n + 1)) (a'.put o.dst undef)) (l.take n) a) : (Code.region id l.toArray true).wp P Q a w :=
  wp_region_any hm (wpAny_mid n hB ho hC h)

theorem wp_region_mid1 {id : Nat} {Q : Exit → Act → World → Prop} {a : Act} {w : World} {l : List Oper} (n : Nat) {o : Oper} (hm : P.follows .mixedOrders = true) (hB : midB .any l.toArray n = true) (ho : l[n]? = some o) (hg : o.guard = none)
    (hC : C w.drew)
    (h : wpQuiet P l.toArray C (fun a' => ∀ w', C w' → o.wp P a' w' (fun a2 w2 => wpQuiet P l.toArray (fun w3 => w3 = w2) (fun a3 => Q .normal a3 w2) (l.drop (n + 1)) a2) Q) (l.take n) a) : (Code.region id l.toArray true).wp P Q a w := by
  refine wp_region_mid n hm hB ho hC ?_
  have hw : ∀ a' : Act, Region.wanted o (yielded l.toArray a'.tmps) = true := fun a' => by simp [Region.wanted, hg]
  simp only [hw, if_true]
  exact h

/-- all of it quiet -/
theorem wp_region_all {id : Nat} {Q : Exit → Act → World → Prop} {a : Act} {w : World} {l : List Oper} (hm : P.follows .mixedOrders = true) (hB : Region.lexB .any l.toArray = true) (hC : C w.drew)
    (h : wpQuiet P l.toArray C (fun a' => ∀ w', C w' → Q .normal a' w') l a) : (Code.region id l.toArray true).wp P Q a w :=
  wp_region_quiet hm hB hC (by simpa using h)

/-! ### quiet operations, then a chain: from n on the order is forced -/
def chainB (md : Region.Mode) (ops : Array Oper) : Nat → Nat → Array Bool → Bool
  | 0, _, listed => Region.ready md ops listed == []
  | f + 1, k, listed => (Region.ready md ops listed == [k]) && chainB md ops f (k + 1) (listed.setIfInBounds k true)
def headC (md : Region.Mode) (ops : Array Oper) : Nat → Nat → Array Bool → Bool
  | 0, k, listed => (Region.ready md ops listed == [k]) && chainB md ops (ops.size - k) k listed
  | f + 1, k, listed => (Region.ready md ops listed).contains k && Region.free md ops listed k && headC md ops f (k + 1) (listed.setIfInBounds k true)
def midC (md : Region.Mode) (ops : Array Oper) (n : Nat) : Bool :=
  Region.noSelect ops && decide (n < ops.size) && Region.sinkB md ops n && downB md ops n && headC md ops n 0 (Array.replicate ops.size false)

theorem wpAny_chain {Q : Exit → Act → World → Prop} : ∀ (l : List Oper) (k : Nat) (listed : Array Bool) (a : Act) (w : World), (∀ j, j < l.length → l[j]? = ops[k + j]?) → chainB md ops l.length k listed = true → wpList P ops Q l a w → wpAny P md ops Q l.length listed a w
  | [], k, listed, a, w, _, hB, h => ⟨by simpa [chainB] using hB, h⟩
  | o :: l, k, listed, a, w, hl, hB, h => by
    have h0 : ops[k]? = some o := by simpa using (hl 0 (by simp)).symm
    simp only [List.length_cons, chainB, Bool.and_eq_true, beq_iff_eq] at hB
    obtain ⟨hr, hB'⟩ := hB
    refine ⟨fun h0 => (by rw [hr] at h0; cases h0), fun i hi => ?_⟩
    rw [hr] at hi
    obtain rfl : i = k := by simpa using hi
    have later := fun a2 w2 => wpAny_chain (Q := Q) l (i + 1) (listed.setIfInBounds i true) a2 w2 (fun j hj => by have := hl (j + 1) (by simp; omega); simpa [Nat.add_assoc, Nat.add_comm 1 j] using this) hB'
    unfold wpOp
    simp only [h0]
    unfold wpList at h
    split
    · rename_i hw
      rw [if_pos hw] at h
      rcases h with h | h
      · exact .inl (Oper.wp_mono (fun a2 w2 hq => later a2 w2 hq) h)
      · exact .inr h
    · rename_i hw
      rw [if_neg hw] at h
      exact later _ _ h

theorem wpAnyT_lexC {n : Nat} {Lq : Act → Prop} (hsel : Region.noSelect ops = true) (hs : Region.sinkB md ops n = true) (hc : downB md ops n = true) :
    ∀ (l : List Oper) (k : Nat) (listed : Array Bool) (a : Act), (∀ j, j < l.length → l[j]? = ops[k + j]?) → k + l.length = n → HeadInv md ops n listed →
    headC md ops l.length k listed = true → wpQuiet P ops C Lq l a →
    wpAnyT P md ops C n (fun listed' a' => headC md ops 0 n listed' = true ∧ Lq a') l.length listed a
  | [], k, listed, a, _, hk, _, hB, h => by
    have : k = n := by simpa using hk
    subst this
    exact ⟨hB, h⟩
  | o :: l, k, listed, a, hl, hk, inv, hB, h => by
    have h0 : ops[k]? = some o := by simpa using (hl 0 (by simp)).symm
    simp only [List.length_cons, headC, Bool.and_eq_true] at hB
    obtain ⟨⟨hr, hf⟩, hB'⟩ := hB
    have hkn : k < n := by simp only [List.length_cons] at hk; omega
    have hr' : k ∈ Region.ready md ops listed := by simpa using hr
    have hst : qOp P ops C k (wpQuiet P ops C Lq l) a := by unfold qOp; simp only [h0]; exact h
    obtain ⟨v, hy, hK⟩ := yieldsIn_of_qOp h0 hst
    refine wpAnyT_first h0 (Region.noSelect_spec hsel) hs hc hkn (fun listed' a' hL j hj => ?_) l.length listed a inv (Region.free_spec h0 hf) hr' hy
      (wpAnyT_lexC hsel hs hc l (k + 1) _ _ (fun j hj => by have := hl (j + 1) (by simp; omega); simpa [Nat.add_assoc, Nat.add_comm 1 j] using this) (by simp only [List.length_cons] at hk; omega) (inv.set hr' hkn) hB' hK)
    have h1 := hL.1
    simp only [headC, Bool.and_eq_true, beq_iff_eq] at h1
    rw [h1.1] at hj
    simp at hj
    omega

theorem wpAny_midC {Q : Exit → Act → World → Prop} {a : Act} {w : World} {l : List Oper} (n : Nat) (hB : midC .any l.toArray n = true)
    (hC : C w.drew) (h : wpQuiet P l.toArray C (fun a' => ∀ w', C w' → wpList P l.toArray Q (l.drop n) a' w') (l.take n) a) : wpAny P .any l.toArray Q l.toArray.size (Array.replicate l.toArray.size false) a w.drew := by
  simp only [midC, Bool.and_eq_true, decide_eq_true_eq] at hB
  obtain ⟨⟨⟨⟨hsel, hn⟩, hs⟩, hc⟩, hlex⟩ := hB
  have hn' : n < l.length := by simpa using hn
  have htl : (l.take n).length = n := by simp; omega
  have hdl : (l.drop n).length = l.toArray.size - n := by simp
  have inv0 : HeadInv .any l.toArray n (Array.replicate l.toArray.size false) :=
    ⟨by simp, fun j oj _ hl => (by rw [getD_replicate_false] at hl; cases hl), fun t _ ht => getD_in (by simpa using ht) (getD_replicate_false _ _)⟩
  have H := wpAnyT_lexC (md := .any) (C := C) hsel hs hc (l.take n) 0 _ a (fun j hj => by
    have hj' : j < n := by rw [htl] at hj; exact hj
    simp [hj']) (by simpa using htl) inv0 (by rw [htl]; exact hlex) h
  have := wpAny_of_T (P := P) (C := C) (Q' := Q) (g := l.toArray.size - n) (fun listed a' w' hw' hL => by
    obtain ⟨h1, h2⟩ := hL
    simp only [headC, Bool.and_eq_true, beq_iff_eq] at h1
    have h4 := wpAny_chain (Q := Q) (l.drop n) n listed a' w' (fun j _ => by simp [List.getElem?_drop]) (by rw [hdl]; exact h1.2) (h2 w' hw')
    rw [hdl] at h4
    exact h4) _ _ _ _ hC H
  rw [htl, show n + (l.toArray.size - n) = l.toArray.size by simp; omega] at this
  exact this

theorem wp_region_chain {id : Nat} {Q : Exit → Act → World → Prop} {a : Act} {w : World} {l : List Oper} (n : Nat) (hm : P.follows .mixedOrders = true) (hB : midC .any l.toArray n = true)
    (hC : C w.drew) (h : wpQuiet P l.toArray C (fun a' => ∀ w', C w' → wpList P l.toArray Q (l.drop n) a' w') (l.take n) a) : (Code.region id l.toArray true).wp P Q a w :=
  wp_region_any hm (wpAny_midC n hB hC h)

/-! ### quiet steps -/
section
variable {Qa : Act → Prop} {a : Act} {o : Oper} {rest : List Oper}
theorem wpQuiet_val (hg : o.guard = none) (v : Value) (hr : ∀ W, C W → (execOp a.eval o).run P W = .ok (.value v) W) (h : wpQuiet P ops C Qa rest (a.put o.dst v)) : wpQuiet P ops C Qa (o :: rest) a := by
  unfold wpQuiet
  rw [if_pos (by simp [Region.wanted, hg])]
  refine ⟨v, fun W hW => ?_, h⟩
  unfold Oper.quietAt
  rw [hr W hW]
  exact ⟨rfl, rfl⟩
theorem wpQuiet_call (hg : o.guard = none) (v : Value) (f : FuncId) (args : Array Value) (hr : ∀ W, (execOp a.eval o).run P W = .ok (.enter f args) W) (hc : ∀ W, C W → Calls P f args W fun e W' => e = .returned v ∧ C W')
    (h : wpQuiet P ops C Qa rest (a.put o.dst v)) : wpQuiet P ops C Qa (o :: rest) a := by
  unfold wpQuiet
  rw [if_pos (by simp [Region.wanted, hg])]
  refine ⟨v, fun W hW => ?_, h⟩
  unfold Oper.quietAt
  rw [hr W]
  exact ⟨rfl, hc W hW⟩
theorem wpQuiet_move (hg : o.guard = none) (x : Operand) (ho : o.op = .move x) {v : Value} (hx : a.eval x = v) (h : wpQuiet P ops C Qa rest (a.put o.dst v)) : wpQuiet P ops C Qa (o :: rest) a :=
  wpQuiet_val hg v (fun W _ => by unfold execOp; rw [ho]; simp only [hx]; rfl) h
theorem wpQuiet_assign (hg : o.guard = none) (x : Operand) (ho : o.op = .assign x) {v : Value} (hx : a.eval x = v) (h : wpQuiet P ops C Qa rest (a.put o.dst v)) : wpQuiet P ops C Qa (o :: rest) a :=
  wpQuiet_val hg v (fun W _ => by unfold execOp; rw [ho]; simp only [hx]; rfl) h
theorem wpQuiet_nilCheck (hg : o.guard = none) (x : Operand) (ho : o.op = .nilCheck x) {ad : Addr} (hx : a.eval x = .pointer (some ad)) (h : wpQuiet P ops C Qa rest (a.put o.dst (.pointer (some ad)))) : wpQuiet P ops C Qa (o :: rest) a :=
  wpQuiet_val hg _ (fun W _ => by unfold execOp; rw [ho]; simp only [hx]; rfl) h
theorem wpQuiet_field (hg : o.guard = none) (T : TypeId) (x : Operand) (f : Nat) (ho : o.op = .fieldAddr T x f) {b off : Nat} (hx : a.eval x = .pointer (some ⟨b, off, none⟩)) (v : Value)
    (hf : ∀ W, (Instr.fieldAt T (.pointer (some ⟨b, off, none⟩)) f).run P W = .ok v W) (h : wpQuiet P ops C Qa rest (a.put o.dst v)) : wpQuiet P ops C Qa (o :: rest) a :=
  wpQuiet_val hg _ (fun W _ => by unfold execOp; rw [ho]; simp only [hx, Sem.run_bind, hf]; rfl) h
theorem wpQuiet_load (hg : o.guard = none) (T : TypeId) (x : Operand) (ho : o.op = .load T x) {b off : Nat} (hx : a.eval x = .pointer (some ⟨b, off, none⟩)) (v : Value)
    {d : TypeDesc} (hu : P.underlying T = some d) (hd : aggD d = false) (hc : ∀ W, C W → W.cell? ⟨b, off, none⟩ = some v) (h : wpQuiet P ops C Qa rest (a.put o.dst v)) : wpQuiet P ops C Qa (o :: rest) a :=
  wpQuiet_val hg _ (fun W hW => by
    unfold execOp; rw [ho]
    have hagg : (isAgg T).run P W = .ok false W := by
      unfold isAgg; rw [Sem.run_bind, run_underlying hu W]; cases d <;> simp_all [aggD]
    simp only [hx, Sem.run_bind, Instr.loadAt, Instr.sureAddr, Sem.run_pure, Result.andThen_ok, loadVar, hagg]
    simp [hc W hW]) h
theorem wpQuiet_loadA (hg : o.guard = none) (T : TypeId) (x : Operand) (ho : o.op = .load T x) {b off : Nat} (n : Nat) (hx : a.eval x = .pointer (some ⟨b, off, none⟩)) {cs : Array Value} {t : TypeId} {fr : Nat × Nat} (v : Value)
    {d : TypeDesc} (hu : P.underlying T = some d) (hd : aggD d = true) (hi : (P.info? T).map (·.size) = some n) (hn : off + n ≤ cs.size) (hc : ∀ W, C W → Blk W b (.cells cs t fr)) (hv : v = .agg (cs.extract off (off + n)))
    (h : wpQuiet P ops C Qa rest (a.put o.dst v)) : wpQuiet P ops C Qa (o :: rest) a :=
  wpQuiet_val hg _ (fun W hW => by
    unfold execOp; rw [ho, hv]
    simp only [hx, Sem.run_bind, Instr.loadAt, Instr.sureAddr, Sem.run_pure, Result.andThen_ok, run_loadVar_at (hc W hW).out hu hd hi hn]) h
theorem wp_of_value {o : Oper} {a : Act} {w w' : World} {K : Act → World → Prop} {Q : Exit → Act → World → Prop} {v : Value} (he : (execOp a.eval o).run P w = .ok (.value v) w') (h : K (a.put o.dst v) w') : o.wp P a w K Q := by
  unfold Oper.wp; rw [he]; exact h
theorem exec_builtin {o : Oper} {a : Act} {b : Builtin} {args : Array Operand} {ts : Array TypeId} (ho : o.op = .call { callee := .builtin b, args := args, argTypes := ts }) {vs : Array Value} (hv : args.map a.eval = vs) {v : Value} {W W' : World}
    (hr : ∀ cs, (builtin b ts o.type cs vs).run P W = .ok (.value v) W') : (execOp a.eval o).run P W = .ok (.value v) W' := by
  unfold execOp
  rw [ho]
  subst hv
  simp only [resolve, invoke, Sem.run_bind, Sem.run_pure, Result.andThen_ok, hr]
theorem wpQuiet_arrayAt (hg : o.guard = none) (T : TypeId) (x : Operand) (ho : o.op = .sliceToArrayPointer T x) {ad : Option Addr} {len cap n : Nat} {E : TypeId} (hx : a.eval x = .slice ad len cap) (hu : P.underlying T = some (.array n E)) (hn : n ≤ len)
    (h : wpQuiet P ops C Qa rest (a.put o.dst (.pointer ad))) : wpQuiet P ops C Qa (o :: rest) a :=
  wpQuiet_val hg _ (fun W _ => by unfold execOp; rw [ho]; simp only [hx, Sem.run_bind, run_arrayAt hu ad cap hn]; rfl) h
theorem wpQuiet_slice (hg : o.guard = none) (T : TypeId) (x : Operand) (lo hi mx : Option Operand) (ho : o.op = .slice T x lo hi mx) {E : TypeId} {sz : Nat} {ad : Option Addr} {len cap : Nat} (hx : a.eval x = .slice ad len cap) (hu : P.underlying T = some (.slice E)) (hs : (P.info? E).map (·.size) = some sz) (L H M : Nat)
    (hL : VIs (lo.map a.eval) 0 L) (hH : VIs (hi.map a.eval) len H) (hM : VIs (mx.map a.eval) cap M) (hm : (mx.map a.eval).isSome = true → (hi.map a.eval).isSome = true) (h1 : L ≤ H) (h2 : H ≤ M) (h3 : M ≤ cap)
    (v : Value) (hv : v = .slice (if M = L then ad else ad.map (·.add (L * sz))) (H - L) (M - L)) (h : wpQuiet P ops C Qa rest (a.put o.dst v)) : wpQuiet P ops C Qa (o :: rest) a :=
  wpQuiet_val hg _ (fun W _ => by
    unfold execOp; rw [ho, hv]
    simp only [hx, Sem.run_bind]
    rw [run_sliceAt_slice hu, run_slice_slice hu hs hL hH hM hm h1 h2 h3]
    rfl) h
theorem run_indexAt {W : World} {T E : TypeId} {n : Nat} (hu : P.underlying T = some (.slice E)) (hs : (P.info? E).map (·.size) = some n) {b off len cap i : Nat} (k : IntKind) (hi : i < len) :
    (Instr.indexAt T (.slice (some ⟨b, off, none⟩) len cap) (.int k (i : Int))).run P W = .ok (.pointer (some ⟨b, off + i * n, none⟩)) W := by
  cases hq : P.info? E with
  | none => simp [hq] at hs
  | some inf =>
    have hs' : inf.size = n := by simpa [hq] using hs
    unfold Instr.indexAt
    simp only [asIntOf, Sem.run_bind, Sem.run_pure, Result.andThen_ok, run_underlying hu W]
    rw [if_pos ⟨by omega, by omega⟩]
    simp [Go.sizeOf, typeInfo, hq, hs', add_lit]
theorem wpQuiet_index (hg : o.guard = none) (T : TypeId) (x y : Operand) (ho : o.op = .indexAddr T x y) {b off len cap : Nat} (i : Nat) (k : IntKind) {E : TypeId} (n : Nat) (hx : a.eval x = .slice (some ⟨b, off, none⟩) len cap) (hy : a.eval y = .int k (i : Int)) (hu : P.underlying T = some (.slice E)) (hs : (P.info? E).map (·.size) = some n) (hi : i < len)
    (h : wpQuiet P ops C Qa rest (a.put o.dst (.pointer (some ⟨b, off + i * n, none⟩)))) : wpQuiet P ops C Qa (o :: rest) a :=
  wpQuiet_val hg _ (fun W _ => by unfold execOp; rw [ho]; simp only [hx, hy, Sem.run_bind, run_indexAt hu hs k hi]; rfl) h
theorem wpQuiet_build (hg : o.guard = none) (T : TypeId) (ps : Array (Nat × Operand)) (ho : o.op = .build T ps) (vs : Array (Nat × Value)) (hp : ps.map (fun p => (p.1, a.eval p.2)) = vs) (v : Value)
    (hr : ∀ W, (Instr.build T vs).run P W = .ok v W) (h : wpQuiet P ops C Qa rest (a.put o.dst v)) : wpQuiet P ops C Qa (o :: rest) a :=
  wpQuiet_val hg _ (fun W hW => by unfold execOp; rw [ho]; simp only [hp, Sem.run_bind, hr]; rfl) h
end
end
end Gd
