/- WalRoom: for every input the law answers true, and each argument reads behind the call as it read before. -/
import Derived.Test.YtccgpblecgapaaaDoorCards
import Derived.Test.YtccgpblecgapaaaDoorTie
import Derived.Test.YtccgpblecgapaaaDoorArg
import Derived.Test.YtccgpblecgapaaaDoorRmw
set_option linter.unusedSimpArgs false
set_option linter.unusedVariables false
namespace Gd
open Go Go.Proofs Go.ChangeShapes Go.WideShapes Go.ChangeAt Go.RowKit
open Go.Proofs.YtccgpblecgapaaaDoor

theorem gTL : Tryd.prog.globalNamed "bytes.ErrTooLarge" = some 0 := by kernel_rfl
/-- the message of bytes.ErrTooLarge -/
def tooLargeText : Array UInt8 := #[98, 121, 116, 101, 115, 46, 66, 117, 102, 102, 101, 114, 58, 32, 116, 111, 111, 32, 108, 97, 114, 103, 101]
/-- The witness's world: the settled one with one block more, the error that bytes.ErrTooLarge points at. -/
noncomputable def laidWorld (os : Os) : World :=
  let n := (World.settled Tryd.prog os).heap.size
  let w0 := World.holding Tryd.prog os ⟨#[.cells #[.string ⟨tooLargeText⟩] 156], #[], []⟩
  { w0 with heap := w0.heap.modify 0 fun
    | .cells _ t frozen => .cells #[.iface 140 (.pointer (some ⟨n, 0, none⟩))] t frozen
    | o => o }
noncomputable abbrev N0 : Nat := (World.settled Tryd.prog default).heap.size

def roomArgs : Array Value := #[.int .u8 0, .slice none 0 0, .slice none 0 0]
theorem room_laid (os : Os) : laidMet Tryd.prog Rows.walRoomRow.laid ((laidWorld os).forCall (fun _ _ => 0) ⟨#[], roomArgs, []⟩).memory :=
  (LaidIn.of_run [0, N0] 8 (by kernel_rfl) (by kernel_rfl) (by kernel_rfl) (by kernel_rfl) : LaidIn Tryd.prog _ Rows.walRoomRow.laid [0, N0]).met

theorem room_witness (os : Os) {H : Type} (enc : TypeId × Value → H) :
    (OpenSpec.ofChange Rows.walRoomSpec).preRow enc Tryd.prog Tryd.f3 Rows.walRoomRow.domain false Rows.walRoomRow.laid ((laidWorld os).forCall (fun _ _ => 0) ⟨#[], roomArgs, []⟩).memory roomArgs := by
  have hw : (DataW.whole enc Tryd.prog ((laidWorld os).forCall (fun _ _ => 0) ⟨#[], roomArgs, []⟩).memory Tryd.f3.params.toList Rows.walRoomSpec.vars false roomArgs.toList 8).map (fun x => (x.1, x.2.1)) =
      some ([.lit (.int .u8 0), .nil, .nil], []) := by kernel_rfl
  obtain ⟨⟨x1, x2, x3⟩, hx, hx1⟩ := Option.map_eq_some_iff.1 hw
  simp only [Prod.mk.injEq] at hx1
  obtain ⟨rfl, rfl⟩ := hx1
  exact OpenSpec.preRow_of_cond 8 hx (by kernel_rfl) (fun k hk => by cases hk) (by kernel_rfl) (room_laid os)

set_option maxRecDepth 100000 in
/-- What the arguments are, and the walk. -/
theorem room_contract (H : Type) (enc : TypeId × Value → H) (W : World) (base : Nat) (args : Array Value) (ds gs : List (DataW H)) (before : List MemPlace)
    (hval : ∀ (j : Nat) t v, Tryd.f3.params[j]? = some t → args[j]? = some v → Value.okWide Tryd.prog W .any base t v)
    (hW : DataW.Whole enc Tryd.prog Tryd.f3.params.toList Rows.walRoomSpec.vars false W args.toList ds gs before) :
    Calls Tryd.prog 3 args W fun e W' => ∃ v, e = .returned v ∧ Rows.walRoomSpec.post enc Tryd.prog Tryd.f3 false true false false W args v W' := by
  have hW' := hW
  obtain ⟨p, q, hA0, hV, rfl, hfz, hnd⟩ := hW
  have hA : DataW.TrodAll enc Tryd.prog W 0 (fun _ => true) true Tryd.f3.params.toList args.toList ds p := hA0
  rw [Tryd.params3] at hA hval
  obtain ⟨v0, vs0, d0, ds0, p0, q0, hargs, rfl, rfl, h0, r0⟩ := trodAll_cons hA
  obtain ⟨v1, vs1, d1, ds1, p1, q1, rfl, rfl, rfl, h1, r1⟩ := trodAll_cons r0
  obtain ⟨v2, vs2, d2, ds2, p2, q2, rfl, rfl, rfl, h2, r2⟩ := trodAll_cons r1
  obtain ⟨rfl, rfl, rfl⟩ := trodAll_nil r2
  obtain rfl : args = #[v0, v1, v2] := by cases args; simp_all
  obtain ⟨rfl, rfl⟩ := trodVars_none hV
  obtain ⟨n, rfl, rfl, rfl, wn⟩ := open_int Tryd.underlying5 (hval 0 5 v0 rfl rfl) h0
  have wn' : 0 ≤ n ∧ n ≤ 255 := by
    have a1 : IntKind.u8.min = 0 := rfl
    have a2 : IntKind.u8.max = 255 := rfl
    simpa [Lit.wf, a1, a2] using wn
  obtain ⟨k, rfl⟩ : ∃ k : Nat, n = (k : Int) := ⟨n.toNat, by omega⟩
  have hlt : ∀ x ∈ ([] ++ (p1 ++ (p2 ++ [])) ++ [] : List MemPlace), x.block < W.heap.size := fun x hx => by simpa using hW'.lt x hx
  obtain ⟨ns, hx, hns⟩ : ∃ ns : List Nat, VS W v1 (ns.map fun n : Nat => Value.int .u16 (n : Int)) ∧ ∀ n ∈ ns, n < 65536 := by
    rcases arg_ints Tryd.underlying22 Tryd.underlying34 (by kernel_rfl) (hval 1 22 v1 rfl rfl) h1 with ⟨rfl, _⟩ | ⟨g, off, len, cap, zs, c, ty, z, rfl, b1, b2, b3, b4, b5, b6⟩
    · exact ⟨[], ⟨.inl ⟨rfl, rfl⟩⟩, fun _ h => by cases h⟩
    · have b7 : ∀ n ∈ zs, 0 ≤ n ∧ n ≤ 65535 := fun n hn => by
        have a1 : IntKind.u16.min = 0 := rfl
        have a2 : IntKind.u16.max = 65535 := rfl
        simpa [Lit.wf, a1, a2] using b6 n hn
      refine ⟨(zs.take len).map Int.toNat, ⟨.inr ⟨g, off, cap, c, ty, z, ?_, ?_, b2, b4, ?_⟩⟩, ?_⟩
      · simp [b3, b1]
      · simp [b3, b1]
      · intro i u hi
        simp only [List.getElem?_map, List.getElem?_take] at hi
        split at hi
        · cases hz : zs[i]? with
          | none => simp [hz] at hi
          | some n =>
            simp only [hz, Option.map_some, Option.some.injEq] at hi
            subst hi
            rw [b5 i n hz]
            have := b7 n (List.mem_of_getElem? hz)
            rw [Int.toNat_of_nonneg this.1]
        · simp at hi
      · intro n hn
        obtain ⟨m, hm, rfl⟩ := List.mem_map.1 hn
        have := b7 m (List.mem_of_mem_take hm)
        omega
  obtain ⟨b, hb⟩ : ∃ b : Bytes, BS W v2 b := by
    rcases arg_ints Tryd.underlying23 Tryd.underlying5 (by kernel_rfl) (hval 2 23 v2 rfl rfl) h2 with ⟨rfl, _⟩ | ⟨g, off, len, cap, zs, c, ty, z, rfl, b1, b2, b3, b4, b5, b6⟩
    · exact ⟨[], BS.nil W⟩
    · have b7 : ∀ n ∈ zs, 0 ≤ n ∧ n ≤ 255 := fun n hn => by
        have a1 : IntKind.u8.min = 0 := rfl
        have a2 : IntKind.u8.max = 255 := rfl
        simpa [Lit.wf, a1, a2] using b6 n hn
      refine ⟨(zs.take len).map fun n => UInt8.ofNat n.toNat, ⟨.inr ⟨g, off, cap, c, ty, z, ?_, ?_, b2, b4, ?_⟩⟩⟩
      · simp [b3, b1]
      · simp [b3, b1]
      · intro i u hi
        simp only [List.getElem?_map, List.getElem?_take] at hi
        split at hi
        · cases hz : zs[i]? with
          | none => simp [hz] at hi
          | some n =>
            simp only [hz, Option.map_some, Option.some.injEq] at hi
            subst hi
            rw [b5 i n hz]
            have := b7 n (List.mem_of_getElem? hz)
            have e1 : (UInt8.ofNat n.toNat).toNat = n.toNat := by
              rw [UInt8.toNat_ofNat']; omega
            unfold bv
            rw [e1, Int.toNat_of_nonneg this.1]
        · simp at hi
  clear hA0
  refine (law_WalRoom (w := W) k (by omega) hx hns hb).mono ?_
  rintro e W' ⟨rfl, hF⟩
  have bel : Below W.heap.size W W' := hF.below
  refine ⟨_, rfl, _, _, _, [], [] ++ (p1 ++ (p2 ++ [])), [], hW', ?_, ?_, rfl, bel.frame _, fun h => by cases h⟩
  · exact trodAll_cons_mk (shut_bool Tryd.underlying4 _) trodAll_mk0
  · exact trodAll_cons_mk (shut_int Tryd.underlying5 wn) (trodAll_cons_mk (Below.trod laidOut (by kernel_rfl) (of_decide_eq_true (by kernel_rfl)) h1 bel (fun x hx => hlt x (by simp [hx])))
      (trodAll_cons_mk (Below.trod laidOut (by kernel_rfl) (of_decide_eq_true (by kernel_rfl)) h2 bel (fun x hx => hlt x (by simp [hx]))) trodAll_mk0))

set_option maxRecDepth 100000 in
theorem room_lifted (os : Os) (started : os.Started) (H : Type) (enc : TypeId × Value → H) (F : Stop.Interp) :
    ReturnsInHanded {} Tryd.checked os 3 .any ((OpenSpec.ofChange Rows.walRoomSpec).preRow enc Tryd.prog Tryd.f3 Rows.walRoomRow.domain false Rows.walRoomRow.laid) (((OpenSpec.ofChange Rows.walRoomSpec).at F).post enc Tryd.prog Tryd.f3 false true false false) := by
  refine returnsInHanded_of_row (C := Tryd.checked) (s := OpenSpec.ofChange Rows.walRoomSpec) own started (by kernel_rfl) Tryd.func3
    (witness_row_atRef (enc := enc) (C := Tryd.checked) false (laidWorld os) roomArgs rfl (by kernel_rfl) (by kernel_rfl) (by kernel_rfl) (room_witness os enc)) ?_
  intro W base args ds gs before hval hW _ _ _ _ _ _
  exact room_contract H enc W base args ds gs before hval hW

theorem room_said : Rows.WalRoomSaid :=
  OpenClaim.holds_of_cond 3 Tryd.f3 rfl rfl rfl rfl rfl rfl rfl ⟨rfl, rfl, rfl, rfl, rfl⟩ rfl rfl rfl rfl rfl (by kernel_rfl) Tryd.func3 (by kernel_rfl)
    (of_decide_eq_true (by kernel_rfl)) (by unfold Func.isWrapper; first | (rw [if_pos (by decide +kernel)]; kernel_rfl) | (rw [if_neg (by decide +kernel)]; exact ⟨rfl, rfl⟩))
    (fun os started H enc _ F => by rw [OpenClaim.pre_eq_preRow]; exact room_lifted os started H enc F)

theorem room_plain (f : FuncId) (fn : Func) (hf : Tryd.pinned.checked.prog.funcNamed "garderobe/garderobelaw16.WalRoom" = some f) (hfn : Tryd.pinned.checked.prog.funcs[f]? = some fn) :
    false = Tryd.pinned.checked.prog.looks [] ∧ ∀ (j : Nat) t, fn.params[j]? = some t → Tryd.pinned.checked.prog.wantsStandIn t = false := by
  obtain rfl : f = 3 := Option.some.inj ((show Tryd.prog.funcNamed "garderobe/garderobelaw16.WalRoom" = some 3 by kernel_rfl).symm.trans hf) |>.symm
  obtain rfl : fn = Tryd.f3 := (Option.some.inj (Tryd.func3.symm.trans hfn)).symm
  refine ⟨by kernel_rfl, fun j t ht => ?_⟩
  rw [Tryd.params3] at ht
  have := Array.mem_of_getElem? ht
  simp only [List.mem_toArray, List.mem_cons, List.not_mem_nil, or_false] at this
  rcases this with rfl | rfl | rfl
  · exact (show Tryd.prog.wantsStandIn 5 = false by kernel_rfl)
  · exact (show Tryd.prog.wantsStandIn 22 = false by kernel_rfl)
  · exact (show Tryd.prog.wantsStandIn 23 = false by kernel_rfl)
end Gd

namespace Go.Proofs.YtccgpblecgapaaaDoor
/-- The card of WalRoom. -/
theorem walRoom_card : Rows.WalRoomCardSaid :=
  Claim7.holds_tied_plain_at .later [] _ _ _ _ Gd.room_said (fun _ h => by cases h) (by kernel_rfl) (fun _ h => by cases h) walRoom_row_tie rfl ⟨rfl, rfl⟩ (by kernel_rfl) rfl Gd.room_plain (by kernel_rfl)
#print axioms walRoom_card
end Go.Proofs.YtccgpblecgapaaaDoor
