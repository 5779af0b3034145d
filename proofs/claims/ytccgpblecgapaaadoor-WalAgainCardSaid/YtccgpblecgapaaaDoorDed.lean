/- The statements' deeds: what a list of them holds, and what an argument that is one is. -/
import Derived.Test.YtccgpblecgapaaaDoorArg
set_option linter.unusedSimpArgs false
set_option linter.unusedVariables false
namespace Gd
open Go Go.Proofs Go.ChangeShapes Go.WideShapes Go.ChangeAt Go.RowKit

structure Deed where
  kind : Nat
  b : Bytes
  x : Int
  y : Int
  z : Int
def i64ok (n : Int) : Prop := -9223372036854775808 ≤ n ∧ n ≤ 9223372036854775807
abbrev tDe : TypeId := 46
abbrev tDs : TypeId := 43
/-- these five cells hold a deed -/
structure DeedIs (w : World) (cs : List Value) (d : Deed) : Prop where
  out : ∃ v, cs = [.int .u8 d.kind, v, .int .i64 d.x, .int .i64 d.y, .int .i64 d.z] ∧ BS w v d.b
  kind : d.kind < 256
  x : i64ok d.x
  y : i64ok d.y
  z : i64ok d.z
theorem DeedIs.keep0 {w w' : World} {cs : List Value} {d : Deed} (h : DeedIs w cs d) (hf : Fr [] w w') : DeedIs w' cs d := by
  obtain ⟨v, h1, h2⟩ := h.out
  exact ⟨⟨v, h1, h2.keep0 hf⟩, h.kind, h.x, h.y, h.z⟩
theorem Fr.cell0 {w w' : World} (hf : Fr [] w w') {a : Addr} {v : Value} (h : w.cell? a = some v) : w'.cell? a = some v := by
  unfold World.cell? at h ⊢
  cases hb : w.heap[a.block]? with
  | none => rw [hb] at h; cases h
  | some o => rw [hf.keep hb (by simp)]; rw [hb] at h; exact h
/-- a list of deeds -/
structure DS (w : World) (v : Value) (ds : List Deed) : Prop where
  out : ∃ a cap, v = .slice a ds.length cap ∧ ds.length ≤ cap ∧ cap ≤ maxLen ∧
    ∀ i d, ds[i]? = some d → ∃ g off cs, a = some ⟨g, off, none⟩ ∧ cs.length = 5 ∧ (∀ j, j < 5 → w.cell? ⟨g, off + i * 5 + j, none⟩ = cs[j]?) ∧ DeedIs w cs d
theorem DS.keep0 {w w' : World} {v : Value} {ds : List Deed} (h : DS w v ds) (hf : Fr [] w w') : DS w' v ds := by
  obtain ⟨a, cap, h1, h2, h3, h4⟩ := h.out
  refine ⟨a, cap, h1, h2, h3, fun i d hd => ?_⟩
  obtain ⟨g, off, cs, q1, q2, q3, q4⟩ := h4 i d hd
  refine ⟨g, off, cs, q1, q2, fun j hj => ?_, q4.keep0 hf⟩
  have hc := q3 j hj
  have : cs[j]? = some (cs[j]'(by omega)) := List.getElem?_eq_getElem _
  rw [this] at hc ⊢
  exact hf.cell0 hc
theorem DS.shape {w : World} {v : Value} {ds : List Deed} (h : DS w v ds) : ∃ a cap, v = .slice a ds.length cap ∧ ds.length ≤ cap ∧ cap ≤ maxLen := by
  obtain ⟨a, cap, h1, h2, h3, _⟩ := h.out
  exact ⟨a, cap, h1, h2, h3⟩
theorem DS.at {w : World} {a : Option Addr} {n cap : Nat} {ds : List Deed} (h : DS w (.slice a n cap) ds) {k : Nat} (hk : k < ds.length) :
    ∃ g off u, a = some ⟨g, off, none⟩ ∧ w.cell? ⟨g, off + k * 5, none⟩ = some (.int .u8 (ds[k]'hk).kind) ∧ w.cell? ⟨g, off + k * 5 + 1, none⟩ = some u ∧ w.cell? ⟨g, off + k * 5 + 2, none⟩ = some (.int .i64 (ds[k]'hk).x) ∧
      w.cell? ⟨g, off + k * 5 + 3, none⟩ = some (.int .i64 (ds[k]'hk).y) ∧ w.cell? ⟨g, off + k * 5 + 4, none⟩ = some (.int .i64 (ds[k]'hk).z) ∧ BS w u (ds[k]'hk).b ∧ DeedIs w [.int .u8 (ds[k]'hk).kind, u, .int .i64 (ds[k]'hk).x, .int .i64 (ds[k]'hk).y, .int .i64 (ds[k]'hk).z] (ds[k]'hk) := by
  obtain ⟨a', cap', h1, h2, h3, h4⟩ := h.out
  simp only [Value.slice.injEq] at h1
  obtain ⟨rfl, rfl, rfl⟩ := h1
  obtain ⟨g, off, cs, q1, q2, q3, q4⟩ := h4 k (ds[k]'hk) (List.getElem?_eq_getElem hk)
  obtain ⟨v, rfl, hb⟩ := q4.out
  exact ⟨g, off, v, q1, q3 0 (by omega), q3 1 (by omega), q3 2 (by omega), q3 3 (by omega), q3 4 (by omega), hb, q4⟩

section
variable {H : Type} {enc : TypeId × Value → H} {P : Program} {W : World}
theorem ints_wf {k : IntKind} {n : Int} (h : (Lit.int k n).wf = true) : k.min ≤ n ∧ n ≤ k.max := by simpa [Lit.wf] using h
/-- a slice of bytes that reads: what it reads as -/
theorem open_bs {t e : TypeId} {fuel : Nat} {cs : List Value} {x : DataW H × List MemPlace} (ht : P.underlying t = some (.slice e)) (he : P.underlying e = some (.int .u8)) (hc : P.cellsOf e = 1)
    (h : DataW.trod enc P W 0 (fun _ => true) true fuel t cs = some x) : ∃ v b, cs = [v] ∧ BS W v b := by
  rcases open_ints ht he hc h with ⟨rfl, _⟩ | ⟨a, len, cap, zs, rfl, _, h3, h4, h5, _, h7, h8⟩
  · exact ⟨_, [], rfl, BS.nil W⟩
  · rw [if_pos rfl] at h5
    by_cases h0 : cap = 0
    · obtain rfl : len = 0 := by omega
      subst h0
      exact ⟨_, [], rfl, ⟨.inl ⟨_, rfl, rfl⟩⟩⟩
    · obtain ⟨g, off, spot⟩ := a
      have c0 := h7 0 (by omega)
      have hz : (⟨g, off, spot⟩ : Addr).add 0 = ⟨g, off, spot⟩ := rfl
      rw [hz] at c0
      unfold World.cell? at c0
      simp only at c0
      cases hb : W.heap[g]? with
      | none => rw [hb] at c0; cases c0
      | some o =>
        cases o with
        | cells c ty z =>
          rw [hb] at c0
          simp only at c0
          cases spot with
          | some sp => simp at c0
          | none =>
            refine ⟨_, (zs.take len).map fun n => UInt8.ofNat n.toNat, rfl, ⟨.inr ⟨g, off, cap, c, ty, z, ?_, ?_, h4, hb, fun i u hi => ?_⟩⟩⟩
            · simp [h5, h3]
            · simp [h5, h3]
            · simp only [List.getElem?_map, List.getElem?_take] at hi
              split at hi
              · cases hz : zs[i]? with
                | none => simp [hz] at hi
                | some n =>
                  simp only [hz, Option.map_some, Option.some.injEq] at hi
                  subst hi
                  have hlt := (List.getElem?_eq_some_iff.1 hz).1
                  have hcell := h7 i hlt
                  rw [add_lit] at hcell
                  unfold World.cell? at hcell
                  simp only [hb, Option.isSome_none, Bool.false_eq_true, if_false] at hcell
                  rw [hcell, List.getD, hz]
                  have := ints_wf (h8 n (List.mem_of_getElem? hz))
                  have a1 : IntKind.u8.min = 0 := rfl
                  have a2 : IntKind.u8.max = 255 := rfl
                  have e1 : (UInt8.ofNat n.toNat).toNat = n.toNat := by rw [UInt8.toNat_ofNat']; omega
                  unfold bv
                  rw [e1, Int.toNat_of_nonneg (by omega)]
                  rfl
              · simp at hi
        | _ => rw [hb] at c0; cases c0
end

section
variable {H : Type} {enc : TypeId × Value → H} {W : World}
theorem deed_fields : ∃ fs : Array Field, Tryd.prog.underlying tDe = some (.struct fs) ∧ fs.size = 5 ∧ fs.toList.map (fun f => (f.type, f.offset)) = [(5, 0), (23, 1), (3, 2), (3, 3), (3, 4)] :=
  ⟨_, Tryd.underlying46, rfl, rfl⟩
set_option maxRecDepth 100000 in
theorem open_deed {fuel : Nat} {cs : List Value} {x : DataW H × List MemPlace} (h : DataW.trod enc Tryd.prog W 0 (fun _ => true) true fuel tDe cs = some x) : ∃ d, DeedIs W cs d ∧ cs.length = 5 := by
  obtain ⟨fs, hu, hsz, hfs⟩ := deed_fields
  obtain ⟨xs, n, _, _, hl, hxl, hx⟩ := DataW.trod_struct hu h
  have h5 : Tryd.prog.cellsOf tDe = 5 := by kernel_rfl
  rw [h5] at hl
  have hf : ∀ (i t o : Nat), ([(5, 0), (23, 1), (3, 2), (3, 3), (3, 4)] : List (Nat × Nat))[i]? = some (t, o) → ∃ y, DataW.trod enc Tryd.prog W 0 (fun _ => true) true n t ((cs.drop o).take (Tryd.prog.cellsOf t)) = some y := by
    intro i t o hi
    rw [← hfs, List.getElem?_map] at hi
    cases hg : fs.toList[i]? with
    | none => rw [hg] at hi; cases hi
    | some f =>
      rw [hg] at hi
      simp only [Option.map_some, Option.some.injEq, Prod.mk.injEq] at hi
      obtain ⟨rfl, rfl⟩ := hi
      have hlt := (List.getElem?_eq_some_iff.1 hg).1
      have := hx i f (by rw [← Array.getElem?_toList]; exact hg)
      rw [this]
      exact ⟨xs[i]'(by rw [hxl]; simpa using hlt), List.getElem?_eq_getElem _⟩
  match cs, hl with
  | [c0, c1, c2, c3, c4], _ =>
    obtain ⟨y0, g0⟩ := hf 0 _ _ rfl
    obtain ⟨y1, g1⟩ := hf 1 _ _ rfl
    obtain ⟨y2, g2⟩ := hf 2 _ _ rfl
    obtain ⟨y3, g3⟩ := hf 3 _ _ rfl
    obtain ⟨y4, g4⟩ := hf 4 _ _ rfl
    have k1 : Tryd.prog.cellsOf 5 = 1 := by kernel_rfl
    have k2 : Tryd.prog.cellsOf 23 = 1 := by kernel_rfl
    have k3 : Tryd.prog.cellsOf 3 = 1 := by kernel_rfl
    rw [k1] at g0
    rw [k2] at g1
    rw [k3] at g2 g3 g4
    simp only [List.drop_zero, List.drop_succ_cons, List.take_succ_cons, List.take_zero] at g0 g1 g2 g3 g4
    obtain ⟨n0, e0, _, w0⟩ := DataW.trod_int Tryd.underlying5 g0
    obtain ⟨n2, e2, _, w2⟩ := DataW.trod_int Tryd.underlying3 g2
    obtain ⟨n3, e3, _, w3⟩ := DataW.trod_int Tryd.underlying3 g3
    obtain ⟨n4, e4, _, w4⟩ := DataW.trod_int Tryd.underlying3 g4
    obtain ⟨v, b, e1, hb⟩ := open_bs Tryd.underlying23 Tryd.underlying5 k1 g1
    simp only [List.cons.injEq, and_true] at e0 e1 e2 e3 e4
    subst e0 e1 e2 e3 e4
    have q0 := ints_wf w0
    have q2 := ints_wf w2
    have q3 := ints_wf w3
    have q4 := ints_wf w4
    have a1 : IntKind.u8.min = 0 := rfl
    have a2 : IntKind.u8.max = 255 := rfl
    have a3 : IntKind.i64.min = -9223372036854775808 := rfl
    have a4 : IntKind.i64.max = 9223372036854775807 := rfl
    refine ⟨⟨n0.toNat, b, n2, n3, n4⟩, ⟨⟨c1, ?_, hb⟩, by simp only; omega, ⟨by simp only; omega, by simp only; omega⟩, ⟨by simp only; omega, by simp only; omega⟩, ⟨by simp only; omega, by simp only; omega⟩⟩, rfl⟩
    simp only
    rw [Int.toNat_of_nonneg (by omega)]
theorem gather {α β : Type} {R : Nat → α → β → Prop} : ∀ (n : Nat), (∀ i, i < n → ∃ d cs, R i d cs) → ∃ ds : List α, ds.length = n ∧ ∀ i d, ds[i]? = some d → ∃ cs, R i d cs
  | 0, _ => ⟨[], rfl, fun i d hd => by simp at hd⟩
  | m + 1, each => by
    obtain ⟨ds, q1, q2⟩ := gather m (fun i hi => each i (by omega))
    obtain ⟨d, cs, r⟩ := each m (by omega)
    refine ⟨ds ++ [d], by simp [q1], fun i d' hd => ?_⟩
    by_cases hi : i < ds.length
    · rw [List.getElem?_append_left hi] at hd
      exact q2 i d' hd
    · rw [List.getElem?_append_right (by omega)] at hd
      have hi0 : i - ds.length = 0 := by
        by_cases h0 : i - ds.length = 0
        · exact h0
        · rw [List.getElem?_eq_none (by simp; omega)] at hd; cases hd
      rw [hi0] at hd
      simp only [List.getElem?_cons_zero, Option.some.injEq] at hd
      subst hd
      obtain rfl : i = m := by omega
      exact ⟨cs, r⟩
set_option maxRecDepth 100000 in
/-- An argument that is a list of deeds. -/
theorem arg_deeds {v : Value} {d : DataW H} {ps : List MemPlace} {base : Nat} (hok : Value.okWide Tryd.prog W .any base tDs v) (h : DataW.Trod enc Tryd.prog W 0 (fun _ => true) true tDs v d ps) : ∃ ds, DS W v ds := by
  obtain ⟨a, len, cap, rfl⟩ := okWide_slice Tryd.underlying43 hok
  obtain ⟨n, hn⟩ := h
  rcases DataW.trod_slice Tryd.underlying43 hn with ⟨h1, _⟩ | ⟨a', len', cap', elems, rest, m, _, h1, _, _, h3, h4, h5, h6, _⟩
  · have h1 : [Value.slice a len cap] = [.slice none 0 0] := h1
    simp only [List.cons.injEq, and_true] at h1
    rw [h1]
    exact ⟨[], none, 0, rfl, Nat.le_refl _, by unfold maxLen; omega, fun i d hd => by simp at hd⟩
  · have h1 : [Value.slice a len cap] = [.slice (some a') len' cap'] := h1
    simp only [List.cons.injEq, and_true] at h1
    injection h1 with e1 e2 e3
    subst e1 e2 e3
    have hc5 : Tryd.prog.cellsOf tDe = 5 := by kernel_rfl
    rw [hc5] at h6
    have each : ∀ i, i < len → ∃ d cs, (∀ j, j < 5 → W.cell? ((a'.add (i * 5)).add j) = cs[j]?) ∧ cs.length = 5 ∧ DeedIs W cs d := fun i hi => by
      have := h6 i hi
      rw [List.getElem?_eq_getElem (by omega), Option.bind_eq_some_iff] at this
      obtain ⟨cs, hcs, hy⟩ := this
      obtain ⟨d, hd, hl⟩ := open_deed hy
      exact ⟨d, cs, (World.cells?_some hcs).2.2, hl, hd⟩
    obtain ⟨ds, hds1, hds2⟩ := gather len each
    refine ⟨ds, some a', cap, by rw [hds1], by omega, h4, fun i d hd => ?_⟩
    obtain ⟨cs, r1, r2, r3⟩ := hds2 i d hd
    have hsp : a'.spot = none := by
      simp only [Value.okWide, Tryd.underlying43, Cell.okWide, Cell.ok] at hok
      exact hok.2.2.2.1
    obtain ⟨g, off, spot⟩ := a'
    simp only at hsp
    subst hsp
    refine ⟨g, off, cs, rfl, r2, fun j hj => ?_, r3⟩
    rw [← r1 j hj, add_lit, add_lit]
set_option maxRecDepth 100000 in
/-- An argument that is a deed. -/
theorem arg_deed {v : Value} {d : DataW H} {ps : List MemPlace} {base : Nat} (hok : Value.okWide Tryd.prog W .any base tDe v) (h : DataW.Trod enc Tryd.prog W 0 (fun _ => true) true tDe v d ps) : ∃ cs de, v = .agg cs ∧ DeedIs W cs.toList de := by
  obtain ⟨cs, rfl, _⟩ := okWide_struct Tryd.underlying46 hok
  obtain ⟨n, hn⟩ := h
  obtain ⟨de, h1, _⟩ := open_deed hn
  exact ⟨cs, de, rfl, h1⟩
end
end Gd
