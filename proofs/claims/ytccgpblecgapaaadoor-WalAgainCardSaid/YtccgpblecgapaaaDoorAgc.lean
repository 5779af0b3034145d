/- WalAgain: for every input the law answers true, and each argument reads behind the call as it read before. -/
import Derived.Test.YtccgpblecgapaaaDoorCards
import Derived.Test.YtccgpblecgapaaaDoorTie
import Derived.Test.YtccgpblecgapaaaDoorArg
import Derived.Test.YtccgpblecgapaaaDoorAgw
set_option linter.unusedSimpArgs false
set_option linter.unusedVariables false
namespace Gd
open Go Go.Proofs Go.ChangeShapes Go.WideShapes Go.ChangeAt Go.RowKit
open Go.Proofs.YtccgpblecgapaaaDoor

/-- the message of bytes.ErrTooLarge -/
def agText : Array UInt8 := #[98, 121, 116, 101, 115, 46, 66, 117, 102, 102, 101, 114, 58, 32, 116, 111, 111, 32, 108, 97, 114, 103, 101]
/-- The witness's world: the settled one with one block more, the error that bytes.ErrTooLarge points at. -/
noncomputable def agWorld (os : Os) : World :=
  let n := (World.settled Tryd.prog os).heap.size
  let w0 := World.holding Tryd.prog os ⟨#[.cells #[.string ⟨agText⟩] 156], #[], []⟩
  { w0 with heap := w0.heap.modify 0 fun
    | .cells _ t frozen => .cells #[.iface 140 (.pointer (some ⟨n, 0, none⟩))] t frozen
    | o => o }
noncomputable abbrev agN : Nat := (World.settled Tryd.prog default).heap.size

def agArgs : Array Value := #[.slice none 0 0, .agg #[.int .u8 0, .slice none 0 0, .int .i64 0, .int .i64 0, .int .i64 0]]
theorem again_laid (os : Os) : laidMet Tryd.prog Rows.walAgainRow.laid ((agWorld os).forCall (fun _ _ => 0) ⟨#[], agArgs, []⟩).memory :=
  (LaidIn.of_run [0, agN] 8 (by kernel_rfl) (by kernel_rfl) (by kernel_rfl) (by kernel_rfl) : LaidIn Tryd.prog _ Rows.walAgainRow.laid [0, agN]).met

theorem again_witness (os : Os) {H : Type} (enc : TypeId × Value → H) :
    (OpenSpec.ofChange Rows.walAgainSpec).preRow enc Tryd.prog Tryd.f6 Rows.walAgainRow.domain false Rows.walAgainRow.laid ((agWorld os).forCall (fun _ _ => 0) ⟨#[], agArgs, []⟩).memory agArgs := by
  have hw : (DataW.whole enc Tryd.prog ((agWorld os).forCall (fun _ _ => 0) ⟨#[], agArgs, []⟩).memory Tryd.f6.params.toList Rows.walAgainSpec.vars false agArgs.toList 8).map (fun x => (x.1, x.2.1)) =
      some ([.nil, .agg [.lit (.int .u8 0), .nil, .lit (.int .i64 0), .lit (.int .i64 0), .lit (.int .i64 0)]], []) := by kernel_rfl
  obtain ⟨⟨x1, x2, x3⟩, hx, hx1⟩ := Option.map_eq_some_iff.1 hw
  simp only [Prod.mk.injEq] at hx1
  obtain ⟨rfl, rfl⟩ := hx1
  exact OpenSpec.preRow_of_cond 8 hx (by kernel_rfl) (fun k hk => by cases hk) (by kernel_rfl) (again_laid os)

set_option maxRecDepth 100000 in
/-- What the arguments are, and the walk. -/
theorem again_contract (H : Type) (enc : TypeId × Value → H) (W : World) (base : Nat) (args : Array Value) (ds gs : List (DataW H)) (before : List MemPlace)
    (hval : ∀ (j : Nat) t v, Tryd.f6.params[j]? = some t → args[j]? = some v → Value.okWide Tryd.prog W .any base t v)
    (hW : DataW.Whole enc Tryd.prog Tryd.f6.params.toList Rows.walAgainSpec.vars false W args.toList ds gs before) :
    Calls Tryd.prog 6 args W fun e W' => ∃ v, e = .returned v ∧ Rows.walAgainSpec.post enc Tryd.prog Tryd.f6 false true false false W args v W' := by
  have hW' := hW
  obtain ⟨p, q, hA0, hV, rfl, hfz, hnd⟩ := hW
  have hA : DataW.TrodAll enc Tryd.prog W 0 (fun _ => true) true Tryd.f6.params.toList args.toList ds p := hA0
  rw [Tryd.params6] at hA hval
  obtain ⟨v0, vs0, d0, ds0, p0, q0, hargs, rfl, rfl, h0, r0⟩ := trodAll_cons hA
  obtain ⟨v1, vs1, d1, ds1, p1, q1, rfl, rfl, rfl, h1, r1⟩ := trodAll_cons r0
  obtain ⟨rfl, rfl, rfl⟩ := trodAll_nil r1
  obtain rfl : args = #[v0, v1] := by cases args; simp_all
  obtain ⟨rfl, rfl⟩ := trodVars_none hV
  have hlt : ∀ x ∈ (p0 ++ (p1 ++ []) ++ [] : List MemPlace), x.block < W.heap.size := fun x hx => by simpa using hW'.lt x hx
  obtain ⟨dl, hdl⟩ := arg_deeds (hval 0 tDs v0 rfl rfl) h0
  obtain ⟨cs, de, rfl, hde⟩ := arg_deed (hval 1 tDe v1 rfl rfl) h1
  clear hA0
  refine (law_WalAgain (w := W) hdl hde).mono ?_
  rintro e W' ⟨rfl, hF⟩
  have bel : Below W.heap.size W W' := hF.below
  refine ⟨_, rfl, _, _, _, [], p0 ++ (p1 ++ []), [], hW', ?_, ?_, rfl, bel.frame _, fun h => by cases h⟩
  · exact trodAll_cons_mk (shut_bool Tryd.underlying4 _) trodAll_mk0
  · exact trodAll_cons_mk (Below.trod laidOut (by kernel_rfl) (of_decide_eq_true (by kernel_rfl)) h0 bel (fun x hx => hlt x (by simp [hx])))
      (trodAll_cons_mk (Below.trod laidOut (by kernel_rfl) (of_decide_eq_true (by kernel_rfl)) h1 bel (fun x hx => hlt x (by simp [hx]))) trodAll_mk0)

set_option maxRecDepth 100000 in
theorem again_lifted (os : Os) (started : os.Started) (H : Type) (enc : TypeId × Value → H) (F : Stop.Interp) :
    ReturnsInHanded {} Tryd.checked os 6 .any ((OpenSpec.ofChange Rows.walAgainSpec).preRow enc Tryd.prog Tryd.f6 Rows.walAgainRow.domain false Rows.walAgainRow.laid) (((OpenSpec.ofChange Rows.walAgainSpec).at F).post enc Tryd.prog Tryd.f6 false true false false) := by
  refine returnsInHanded_of_row (C := Tryd.checked) (s := OpenSpec.ofChange Rows.walAgainSpec) own started (by kernel_rfl) Tryd.func6
    (witness_row_atRef (enc := enc) (C := Tryd.checked) false (agWorld os) agArgs rfl (by kernel_rfl) (by kernel_rfl) (by kernel_rfl) (again_witness os enc)) ?_
  intro W base args ds gs before hval hW _ _ _ _ _ _
  exact again_contract H enc W base args ds gs before hval hW

theorem again_said : Rows.WalAgainSaid :=
  OpenClaim.holds_of_cond 6 Tryd.f6 rfl rfl rfl rfl rfl rfl rfl ⟨rfl, rfl, rfl, rfl, rfl⟩ rfl rfl rfl rfl rfl (by kernel_rfl) Tryd.func6 (by kernel_rfl)
    (of_decide_eq_true (by kernel_rfl)) (by unfold Func.isWrapper; first | (rw [if_pos (by decide +kernel)]; kernel_rfl) | (rw [if_neg (by decide +kernel)]; exact ⟨rfl, rfl⟩))
    (fun os started H enc _ F => by rw [OpenClaim.pre_eq_preRow]; exact again_lifted os started H enc F)

theorem again_plain (f : FuncId) (fn : Func) (hf : Tryd.pinned.checked.prog.funcNamed "garderobe/garderobelaw16.WalAgain" = some f) (hfn : Tryd.pinned.checked.prog.funcs[f]? = some fn) :
    false = Tryd.pinned.checked.prog.looks [] ∧ ∀ (j : Nat) t, fn.params[j]? = some t → Tryd.pinned.checked.prog.wantsStandIn t = false := by
  obtain rfl : f = 6 := Option.some.inj ((show Tryd.prog.funcNamed "garderobe/garderobelaw16.WalAgain" = some 6 by kernel_rfl).symm.trans hf) |>.symm
  obtain rfl : fn = Tryd.f6 := (Option.some.inj (Tryd.func6.symm.trans hfn)).symm
  refine ⟨by kernel_rfl, fun j t ht => ?_⟩
  rw [Tryd.params6] at ht
  have := Array.mem_of_getElem? ht
  simp only [List.mem_toArray, List.mem_cons, List.not_mem_nil, or_false] at this
  rcases this with rfl | rfl
  · exact (show Tryd.prog.wantsStandIn 43 = false by kernel_rfl)
  · exact (show Tryd.prog.wantsStandIn 46 = false by kernel_rfl)
end Gd

namespace Go.Proofs.YtccgpblecgapaaaDoor
/-- The card of WalAgain. -/
theorem walAgain_card : Rows.WalAgainCardSaid :=
  Claim7.holds_tied_plain_at .later [] _ _ _ _ Gd.again_said (fun _ h => by cases h) (by kernel_rfl) (fun _ h => by cases h) walAgain_row_tie rfl ⟨rfl, rfl⟩ (by kernel_rfl) rfl Gd.again_plain (by kernel_rfl)
#print axioms walAgain_card
end Go.Proofs.YtccgpblecgapaaaDoor
