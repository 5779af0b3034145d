/- Slices of bytes: what one reads as ('BS'), what the call owns ('OB'), append onto one's own; the walks through the library's small functions on them. -/
import Derived.Test.YtccgpblecgapaaaDoorEnc
import Derived.Lib.AppendZeros
import Derived.Lib.AppendZerosOnto
set_option linter.unusedSimpArgs false
set_option linter.unusedVariables false
namespace Gd
open Go Go.Proofs Go.RowKit

abbrev tB : TypeId := 23
abbrev tb : TypeId := 5

/-- The value v is a slice of bytes that reads as l in w. (A slice of capacity 0 may bear any address: an argument's may.) -/
structure BS (w : World) (v : Value) (l : Bytes) : Prop where
  out : (∃ a, v = .slice a 0 0 ∧ l = []) ∨ ∃ g off cap c t z, v = .slice (some ⟨g, off, none⟩) l.length cap ∧ l.length ≤ cap ∧ cap ≤ maxLen ∧
    w.heap[g]? = some (.cells c t z) ∧ ∀ i b, l[i]? = some b → c[off + i]? = some (bv b)

theorem BS.nil (w : World) : BS w (.slice none 0 0) [] := ⟨.inl ⟨none, rfl, rfl⟩⟩
theorem BS.keep {S : List Nat} {w w' : World} {v : Value} {l : Bytes} (h : BS w v l) (hf : Fr S w w') (hn : ∀ g, v.ownBlock = some g → g ∉ S) : BS w' v l := by
  rcases h.out with h1 | ⟨g, off, cap, c, t, z, rfl, h2, h3, h4, h5⟩
  · exact ⟨.inl h1⟩
  · exact ⟨.inr ⟨g, off, cap, c, t, z, rfl, h2, h3, hf.keep h4 (hn g rfl), h5⟩⟩
theorem BS.keep0 {w w' : World} {v : Value} {l : Bytes} (h : BS w v l) (hf : Fr [] w w') : BS w' v l := h.keep hf (fun _ _ => by simp)
theorem BS.shape {w : World} {v : Value} {l : Bytes} (h : BS w v l) : ∃ a cap, v = .slice a l.length cap ∧ l.length ≤ cap ∧ cap ≤ maxLen := by
  rcases h.out with ⟨a, rfl, rfl⟩ | ⟨g, off, cap, c, t, z, rfl, h2, h3, _⟩
  · exact ⟨a, 0, rfl, Nat.le_refl _, by unfold maxLen; omega⟩
  · exact ⟨_, cap, rfl, h2, h3⟩
theorem BS.lt {w : World} {v : Value} {l : Bytes} (h : BS w v l) (hl : 0 < l.length) {g : Nat} (hg : v.ownBlock = some g) : g < w.heap.size := by
  rcases h.out with ⟨a, rfl, rfl⟩ | ⟨g', off, cap, c, t, z, rfl, h2, h3, h4, _⟩
  · simp at hl
  · simp [Value.ownBlock] at hg; subst hg; exact (Array.getElem?_eq_some_iff.1 h4).1

/-- The value v is a slice of bytes at the head of a block of the call's own (from B on), or nil; it reads as l. -/
def OB (B : Nat) (w : World) (v : Value) (l : Bytes) : Prop := w.ownsRow B tb 1 v l.length (bcells l)
theorem OB.nil (B : Nat) (w : World) : OB B w (.slice none 0 0) [] := World.ownsRow_nil w B tb 1
theorem OB.bs {B : Nat} {w : World} {v : Value} {l : Bytes} (h : OB B w v l) : BS w v l := by
  obtain ⟨h0, h1 | ⟨g, cap, cur, h1, h2, h3, h4, h5, h6, h7⟩⟩ := h
  · have : l = [] := List.eq_nil_of_length_eq_zero h1.2
    exact ⟨.inl ⟨none, h1.1, this⟩⟩
  · refine ⟨.inr ⟨g, 0, cap, cur, tb, (0, 0), h1, h4, h5, h3, fun i b hi => ?_⟩⟩
    rw [Nat.mul_one] at h7
    have hlt := (List.getElem?_eq_some_iff.1 hi).1
    have : (cur.toList.take l.length)[i]? = some (bv b) := by rw [h7, bcells_getElem?, hi]; rfl
    rw [List.getElem?_take, if_pos hlt] at this
    simpa using this
theorem OB.ge {B : Nat} {w : World} {v : Value} {l : Bytes} (h : OB B w v l) {g : Nat} (hg : v.ownBlock = some g) : B ≤ g := (h.lt g hg).1
theorem OB.mono {B B' : Nat} {w : World} {v : Value} {l : Bytes} (h : OB B w v l) (hB : B' ≤ B) : OB B' w v l := by
  obtain ⟨h0, h1 | ⟨g, cap, cur, h1, h2, r⟩⟩ := h
  · exact ⟨h0, .inl h1⟩
  · exact ⟨h0, .inr ⟨g, cap, cur, h1, Nat.le_trans hB h2, r⟩⟩
theorem OB.keep {B : Nat} {S : List Nat} {w w' : World} {v : Value} {l : Bytes} (h : OB B w v l) (hf : Fr S w w') (hn : ∀ g, v.ownBlock = some g → g ∉ S) : OB B w' v l := by
  obtain ⟨h0, h1 | ⟨g, cap, cur, rfl, h2, h3, r⟩⟩ := h
  · exact ⟨h0, .inl h1⟩
  · exact ⟨h0, .inr ⟨g, cap, cur, rfl, h2, hf.keep h3 (hn g rfl), r⟩⟩
theorem OB.keep0 {B : Nat} {w w' : World} {v : Value} {l : Bytes} (h : OB B w v l) (hf : Fr [] w w') : OB B w' v l := h.keep hf (fun _ _ => by simp)
theorem OB.fresh (w : World) (c : List Value) (l : Bytes) (h : c = bcells l) (hl : l.length ≤ maxLen) : OB w.heap.size (w.alloc (.cells c.toArray tb (0, 0))) (.slice (some ⟨w.heap.size, 0, none⟩) l.length l.length) l := by
  subst h
  exact ⟨by simp, .inr ⟨w.heap.size, l.length, _, rfl, Nat.le_refl _, Go.heap_alloc_new w _, Nat.le_refl _, hl, by simp, by simp [List.take_of_length_le]⟩⟩

theorem info_b : ∃ i, Tryd.prog.info? tb = some i ∧ i.zero = some (.int .u8 0) ∧ i.size = 1 ∧ i.bytes = 1 :=
  info_parts (P := Tryd.prog) (by kernel_rfl)

section laws
variable {ops : Array Oper} {rest : List Oper} {o : Oper} {a : Act} {w : World} {Q : Exit → Act → World → Prop}
/-- 'append(s, x...)' onto a slice of one's own. -/
theorem wpList_append_bytes (hgd : o.guard = none) (s x : Operand) (ho : o.op = .call { callee := .builtin .append, args := #[s, x], argTypes := #[tB, tB] })
    {B : Nat} {v u : Value} {l k : Bytes} (hs : a.eval s = v) (hx : a.eval x = u) (hv : OB B w v l) (hu : BS w u k) (hlen : l.length + k.length ≤ 140737488355328) (hB : B ≤ w.heap.size)
    (h : ∀ v' w', OB B w' v' (l ++ k) → Fr v.ownBlock.toList w w' → wpList Tryd.prog ops Q rest (a.put o.dst v') w') : wpList Tryd.prog ops Q (o :: rest) a w := by
  obtain ⟨i, hi, hz0, hz1, hz2⟩ := info_b
  rcases hu.out with ⟨ad, rfl, rfl⟩ | ⟨g, off, cap, c, t, z, rfl, h2, h3, h4, h5⟩
  · cases ad with
    | some ad =>
      refine wpList_append_own (w := w) hgd s x tB ho B tb i (.int .u8 0) 1 1 Tryd.underlying23 hi hz0 hz1 hz2 rfl (by decide) v l.length (bcells l) hs hv ad 0 0 (bcells []) hx (by simp) (by intro j u hj; simp [bcells] at hj) (bcells_oneCell []) (by unfold maxLen; omega) (by simpa using hlen) hB ?_
      intro v' w' h6 h7 _
      refine h v' w' ?_ (Fr.of_grown h7)
      unfold OB
      simpa [bcells_append, show bcells [] = [] from rfl] using h6
    | none =>
    refine wpList_plain hgd fun K' hK => ?_
    have hr := run_append_owned_none (P := Tryd.prog) (w := w) B tB o.type tb i 1 Tryd.underlying23 hi v l.length (bcells l) hv
    unfold Oper.wp
    simp only [execOp, ho, hs, hx, resolve, invoke, builtin, List.map_toArray, List.map_cons, List.map_nil, hs, hx, Sem.run_bind, Sem.run_pure, Result.andThen_ok, hr]
    refine hK _ _ (h v w ?_ (Fr.refl _ _))
    simpa using hv
  · refine wpList_append_own (w := w) hgd s x tB ho B tb i (.int .u8 0) 1 1 Tryd.underlying23 hi hz0 hz1 hz2 rfl (by decide) v l.length (bcells l) hs hv ⟨g, off, none⟩ k.length cap (bcells k) hx (by simp) ?_ (bcells_oneCell k) (by unfold maxLen; omega) (by omega) hB ?_
    · intro j u hj
      rw [add_lit, cell_of_row w g (off + j) c t z h4]
      rw [bcells_getElem?] at hj
      cases hk : k[j]? with
      | none => simp [hk] at hj
      | some b => simp [hk] at hj; rw [h5 j b hk, hj]
    · intro v' w' h6 h7 _
      refine h v' w' ?_ (Fr.of_grown h7)
      unfold OB
      simpa [bcells_append] using h6
end laws

/-- A call hands back bytes of its own, and leaves all as it was. -/
def RetB (w : World) (l : Bytes) (e : Ending) (w' : World) : Prop := ∃ v, e = .returned v ∧ OB w.heap.size w' v l ∧ Fr [] w w'

theorem BS.two {w : World} {v : Value} {l : Bytes} (h : BS w v l) : (v = .slice none 0 0 ∧ l = []) ∨ ∃ ad cap, v = .slice (some ad) l.length cap ∧ l.length ≤ cap ∧ cap ≤ maxLen := by
  rcases h.out with ⟨a, rfl, rfl⟩ | ⟨g, off, cap, c, t, z, rfl, h2, h3, _⟩
  · cases a with
    | none => exact .inl ⟨rfl, rfl⟩
    | some a => exact .inr ⟨a, 0, rfl, Nat.le_refl _, by unfold maxLen; omega⟩
  · exact .inr ⟨_, cap, rfl, h2, h3⟩
theorem slices_Clone {w : World} {v : Value} {l : Bytes} (h : BS w v l) (hl : l.length ≤ 140737488355328) :
    Calls Tryd.prog 50 #[v] w (RetB w l) := by
  rcases h.two with ⟨rfl, rfl⟩ | ⟨ad, cap, rfl, h2, h3⟩
  · have hq := Lib.run_eql_slice_nil (P := Tryd.prog) w tB tb none 0 0 0 0 Tryd.underlying23
    go_enter Tryd.func50, Tryd.ntmps50
    go_wp2_with fail
    all_goals go_ret
    all_goals exact ⟨_, rfl, OB.nil _ _, Fr.refl _ _⟩
  · have hq := fun W => Lib.run_eql_slice_nil (P := Tryd.prog) W tB tb (some ad) l.length cap 0 0 Tryd.underlying23
    have hb : ∀ W : World, (Instr.buildSlice tB 0 #[]).run Tryd.prog W = .ok (.slice (some ⟨W.heap.size, 0, none⟩) 0 0) (W.alloc (.cells #[] tb)) := fun W => by kernel_rfl
    go_enter Tryd.func50, Tryd.ntmps50
    go_wp2_with (at_builtin; refine wpList_append_bytes rfl _ _ rfl rfl rfl (B := w.heap.size) (l := []) (OB.fresh w [] [] rfl (by simp)) (h.keep0 (Fr.alloc w _)) (by simpa using hl) (by simp) ?_; intro v' w' hv' hf)
    have hf' : Fr [w.heap.size] (w.alloc (.cells #[] tb)) w' := hf
    go_ret
    exact ⟨_, rfl, hv', (Fr.alloc w _).then hf' (by simp)⟩


/-! ### a slice of a slice -/
theorem BS.sub {w : World} {a : Option Addr} {n cap : Nat} {l : Bytes} (h : BS w (.slice a n cap) l) {L H M : Nat} (h1 : L ≤ H) (h2 : H ≤ M) (h3 : M ≤ cap) (h4 : H ≤ l.length) :
    BS w (.slice (if M = L then a else a.map (·.add (L * 1))) (H - L) (M - L)) ((l.take H).drop L) := by
  rcases h.out with ⟨a', e, rfl⟩ | ⟨g, off, cap', c, t, z, e, h5, h6, h7, h8⟩
  · simp only [Value.slice.injEq] at e
    obtain ⟨rfl, rfl, rfl⟩ := e
    obtain rfl : M = 0 := by omega
    obtain rfl : H = 0 := by omega
    obtain rfl : L = 0 := by omega
    exact ⟨.inl ⟨a, by simp, by simp⟩⟩
  · simp only [Value.slice.injEq] at e
    obtain ⟨rfl, rfl, rfl⟩ := e
    have hlen : ((l.take H).drop L).length = H - L := by simp; omega
    by_cases hML : M = L
    · subst hML
      have : (l.take H).drop M = [] := List.eq_nil_of_length_eq_zero (by simp; omega)
      obtain rfl : H = M := by omega
      rw [if_pos rfl, this]
      exact ⟨.inr ⟨g, off, H - H, c, t, z, by simp, by simp, by omega, h7, fun i b hi => by simp at hi⟩⟩
    · rw [if_neg hML]
      refine ⟨.inr ⟨g, off + L, M - L, c, t, z, ?_, by omega, by omega, h7, fun i b hi => ?_⟩⟩
      · rw [hlen]; simp [add_lit]
      · have hlt := (List.getElem?_eq_some_iff.1 hi).1
        have : l[L + i]? = some b := by
          rw [List.getElem?_drop, List.getElem?_take] at hi
          split at hi
          · exact hi
          · cases hi
        rw [Nat.add_assoc]
        exact h8 _ _ this
theorem sub_block {a : Option Addr} {n cap L M : Nat} {n' c' : Nat} {g : Nat} (h : (Value.slice (if M = L then a else a.map (·.add (L * 1))) n' c').ownBlock = some g) : (Value.slice a n cap).ownBlock = some g := by
  split at h
  · cases a with
    | none => simp [Value.ownBlock] at h
    | some a => simpa [Value.ownBlock] using h
  · cases a with
    | none => simp [Value.ownBlock] at h
    | some a => simp [Value.ownBlock, Addr.add] at h ⊢; split at h <;> exact h

section laws
variable {ops : Array Oper} {rest : List Oper} {o : Oper} {a : Act} {w : World} {Q : Exit → Act → World → Prop}
/-- 'x[lo:hi:mx]' of a slice of bytes: the walk goes on with a value of which is known what it reads as. -/
theorem wpList_slice_bytes (hgd : o.guard = none) (x : Operand) (lo hi mx : Option Operand) (ho : o.op = .slice tB x lo hi mx) {v : Value} {l : Bytes} (hx : a.eval x = v) (hv : BS w v l) (L H : Nat)
    (hL : VIs (lo.map a.eval) 0 L) (hH : VIs (hi.map a.eval) l.length H) (hM : ∀ cap, l.length ≤ cap → ∃ M, VIs (mx.map a.eval) cap M ∧ H ≤ M ∧ M ≤ cap) (hm : (mx.map a.eval).isSome = true → (hi.map a.eval).isSome = true) (h1 : L ≤ H) (h4 : H ≤ l.length)
    (h : ∀ ad cap, BS w (.slice ad (H - L) cap) ((l.take H).drop L) → (∀ g, (Value.slice ad (H - L) cap).ownBlock = some g → v.ownBlock = some g) → wpList Tryd.prog ops Q rest (a.put o.dst (.slice ad (H - L) cap)) w) : wpList Tryd.prog ops Q (o :: rest) a w := by
  obtain ⟨ad, cap, rfl, hc, hc2⟩ := hv.shape
  obtain ⟨M, hM1, hM2, hM3⟩ := hM cap hc
  refine wpList_plain hgd fun K' hK => ?_
  have hr := run_slice_slice (P := Tryd.prog) (w := w) (T := tB) (E := tb) (sz := 1) Tryd.underlying23 (by kernel_rfl) (a := ad) (len := l.length) (cap := cap) hL hH hM1 hm h1 hM2 hM3
  have he : (execOp a.eval o).run Tryd.prog w = .ok (.value (.slice (if M = L then ad else ad.map (·.add (L * 1))) (H - L) (M - L))) w := by
    unfold execOp
    rw [ho]
    simp only [hx, Sem.run_bind]
    rw [run_sliceAt_slice Tryd.underlying23, hr]
    rfl
  unfold Oper.wp
  rw [he]
  exact hK _ _ (h _ _ (hv.sub h1 hM2 hM3 h4) (fun g hg => sub_block hg))
end laws

theorem slices_Clip {w : World} {v : Value} {l : Bytes} (h : BS w v l) :
    Calls Tryd.prog 52 #[v] w fun e w' => (∃ ad cap, e = .returned (.slice ad l.length cap) ∧ BS w (.slice ad l.length cap) l ∧ (∀ g, (Value.slice ad l.length cap).ownBlock = some g → v.ownBlock = some g)) ∧ w = w' := by
  obtain ⟨ad, cap, rfl, hc, hc2⟩ := h.shape
  go_enter Tryd.func52, Tryd.ntmps52
  go_wp2_with (refine wpList_slice_bytes rfl _ _ _ _ rfl rfl h 0 l.length rfl rfl (fun cap hc => ⟨l.length, rfl, Nat.le_refl _, hc⟩) (fun _ => rfl) (Nat.zero_le _) (Nat.le_refl _) ?_; intro ad' cap' hb ho)
  rw [List.take_of_length_le (Nat.le_refl _), List.drop_zero] at hb
  go_ret
  exact ⟨⟨ad', cap', rfl, hb, ho⟩, rfl⟩

/-- the cell of one byte -/
theorem BS.cellAt {w : World} {ad : Option Addr} {n cap : Nat} {l : Bytes} (h : BS w (.slice ad n cap) l) {k : Nat} (hk : k < l.length) :
    ∃ g off, ad = some ⟨g, off, none⟩ ∧ w.cell? ⟨g, off + k, none⟩ = some (.int .u8 ((l[k]'hk).toNat : Int)) := by
  rcases h.out with ⟨a', e, rfl⟩ | ⟨g, off, cap', c, t, z, e, h5, h6, h7, h8⟩
  · simp at hk
  · simp only [Value.slice.injEq] at e
    exact ⟨g, off, e.1, cellOf h7 (h8 k _ (List.getElem?_eq_getElem hk))⟩
end Gd
