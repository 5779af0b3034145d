/- maps.Keys, slices.Sorted at int keys, from the shelf. -/
import Derived.Test.YtccgpblecgapaaaDoorFlush
import Derived.Test.YtccgpblecgapaaaDoorSurv
import Derived.Test.YtccgpblecgapaaaDoorHoist
import Derived.Test.YtccgpblecgapaaaDoorLaidB
import Derived.Shelf.SlLaysZI
import Derived.Shelf.SlGeneric
import Derived.Shelf.SlIterI.Sorted
import Derived.Shelf.SlIterI.Collect
import Derived.Shelf.Slices.In.SortNone
import Derived.Sort.EveryDepth
import Derived.Ground.GgzProg
import Derived.Ground.Names2Prog
set_option linter.unusedSimpArgs false
set_option linter.unusedVariables false
namespace Gd
open Go Go.Proofs Go.RowKit Go.Maps
attribute [local simp] IntKind.min IntKind.max

abbrev Ru : Value → Option (DataW Unit × List MemPlace) := fun _ => some (.lit (.bool true), [])
def keyD (L : List (Int × Value)) : DataW Unit := .map ((L.map fun p => (Lit.int .i64 p.1, DataW.lit (.bool true))).foldr DataW.insert [])
theorem keyD_size (L : List (Int × Value)) : Maps.size (keyD L) = L.length := by
  unfold keyD; rw [Maps.size_eq, length_sorted]; simp
theorem keyD_perm (L : List (Int × Value)) : (intKeys (keyD L)).Perm (L.map (·.1)) := by
  unfold keyD intKeys
  have hs := Go.WideShapes.sorted_perm (L.map fun p => (Lit.int .i64 p.1, (DataW.lit (.bool true) : DataW Unit)))
  refine (hs.map _).trans ?_
  rw [List.map_map]
  exact List.Perm.of_eq (List.map_congr_left (fun p _ => rfl))
theorem MapIs.owns {w : World} {m : Nat} {L : List (Int × Value)} (h : MapIs w m L) (hn : (L.map (·.1)).Nodup) (hb : ∀ p ∈ L, -9223372036854775808 ≤ p.1 ∧ p.1 < 9223372036854775808) (hl : L.length ≤ 4096) :
    w.ownsMap Tryd.prog 3 Ru m L.length (keyD L) := by
  obtain ⟨es, clock, h1, h2, h3, h4⟩ := h.out
  have hsz : es.size = L.length := by simpa using congrArg List.length h2
  have hrd : ∀ x ∈ es.toList, ∃ p ∈ L, x.key = .int .i64 p.1 ∧ Go.WideElems.rd Tryd.prog 3 Ru x = some (Lit.int .i64 p.1, .lit (.bool true)) := fun x hx => by
    have hm : (x.key, x.val) ∈ es.toList.map (fun e => (e.key, e.val)) := List.mem_map.2 ⟨x, hx, rfl⟩
    rw [h2] at hm
    obtain ⟨p, hp, he⟩ := List.mem_map.1 hm
    simp only [Prod.mk.injEq] at he
    refine ⟨p, hp, he.1.symm, ?_⟩
    have hk : keyOf Tryd.prog 3 x.key = some (Lit.int .i64 p.1) := by
      have := hb p hp
      rw [← he.1]
      simp only [keyOf, Tryd.underlying3, mapKey]
      rw [if_pos]
      simp [Lit.wf, IntKind.min, IntKind.max, IntKind.bits, IntKind.signed]
      omega
    simp [Go.WideElems.rd, hk]
  refine ⟨es, clock, h1, ⟨by unfold maxLen; omega, ⟨fun x hx => h4 x hx, h3.imp (fun h => Nat.ne_of_lt h), ?_⟩, fun x hx => by obtain ⟨p, _, _, hp⟩ := hrd x hx; exact ⟨_, hp⟩⟩, by omega, ?_⟩
  · have : es.toList.map (·.key) = L.map (fun p => Value.int .i64 p.1) := by
      have := congrArg (List.map (·.1)) h2
      simpa [List.map_map, Function.comp_def] using this
    rw [this, show (L.map fun p => Value.int .i64 p.1) = (L.map (·.1)).map (Value.int .i64) by rw [List.map_map]; rfl]
    exact List.Pairwise.map _ (fun a b hab he => hab (by simpa using he)) hn
  · unfold keyD
    congr 2
    have h5 : ∀ (l : List MapEntry) (K : List (Int × Value)), (∀ x ∈ l, x ∈ es.toList) → l.map (fun e => (e.key, e.val)) = K.map (fun p => (Value.int .i64 p.1, p.2)) → K.map (fun p => (Lit.int .i64 p.1, (DataW.lit (.bool true) : DataW Unit))) = l.map (Go.WideElems.rg Tryd.prog 3 Ru) := by
      intro l
      induction l with
      | nil => intro K _ hK; cases K with
        | nil => rfl
        | cons => simp at hK
      | cons x l ih =>
        intro K hm hK
        cases K with
        | nil => simp at hK
        | cons q K =>
          simp only [List.map_cons, List.cons.injEq, Prod.mk.injEq] at hK ⊢
          refine ⟨?_, ih K (fun y hy => hm y (by simp [hy])) hK.2⟩
          obtain ⟨p, _, hk, hr⟩ := hrd x (hm x (by simp))
          rw [Go.WideElems.rg_of hr]
          rw [hK.1.1] at hk
          simp only [Value.int.injEq, true_and] at hk
          rw [hk]
    exact h5 es.toList L (fun x hx => hx) h2

theorem maps_Keys (w : World) (m : Nat) : Calls Tryd.prog 42 #[.map (some m)] w fun e w' =>
    e = .returned (.func (.func 62) #[] #[.pointer (some ⟨w.heap.size, 0, none⟩)]) ∧ w' = w.alloc (.cells #[.map (some m)] 56) :=
  callsIn_wide.1 (AnyZI.keys_in Tryd.laysZ7 Fence.wide 8 trivial rfl (some m) w)

theorem sorts_in : AnyZI.SortsIn Tryd.prog Tryd.laysZ6_ren Fence.wide 7 :=
  ⟨fun blk off cap ss W h1 h2 h3 => callsIn_wide.2 (calls_of_every_depth fun Dp => AnyS.slices_Sort_int_alone Tryd.lays189 Dp blk off cap ss W h1 h2 h3),
   fun p cap W => callsIn_wide.2 (calls_of_every_depth fun Dp => AnyS.slices_Sort_int_none_alone Tryd.lays189 Dp p cap W)⟩

/-- the keys, sorted -/
theorem slices_Sorted {w : World} {m Bm : Nat} {L : List (Int × Value)} (h : MapIs w m L) (hn : (L.map (·.1)).Nodup) (hb : ∀ p ∈ L, -9223372036854775808 ≤ p.1 ∧ p.1 < 9223372036854775808) (hl : L.length ≤ 4096)
    (hm : w.cell? ⟨Bm, 0, none⟩ = some (.map (some m))) (hB : Bm < w.heap.size) :
    Calls Tryd.prog 41 #[.func (.func 62) #[] #[.pointer (some ⟨Bm, 0, none⟩)]] w fun e w' =>
      ∃ v, e = .returned v ∧ w'.ownsRow w.heap.size 3 1 v L.length (((L.map (·.1)).mergeSort (fun x y => decide (x ≤ y))).map (Value.int .i64)) ∧ RowKit.Below w.heap.size w w' := by
  have hg := AnyZI.keys_gives Tryd.laysZ10 Fence.wide 5 trivial rfl (by omega) Bm m L.length (keyD L) w hB hm (h.owns hn hb hl)
  rw [keyD_size] at hg
  have := AnyZI.sorted_in Tryd.laysZ6 Fence.wide 8 trivial trivial trivial trivial rfl (by omega) sorts_in (enters_of Tryd.func61 (by kernel_rfl) rfl) 62 #[.pointer (some ⟨Bm, 0, none⟩)] trivial (enters_of Tryd.func62 (by kernel_rfl) rfl) _ L.length (by unfold maxLen; omega) (by omega) w hg
  refine (callsIn_wide.1 this).mono ?_
  rintro e w' ⟨v, ss, rfl, hp, ho, hv, hbl⟩
  have hp2 := hp.trans (keyD_perm L)
  have hlen : ss.length = L.length := by simpa using hp2.length_eq
  rw [mergeSort_of_perm_i hp2, hlen] at ho
  exact ⟨v, rfl, ho, hbl⟩
end Gd
