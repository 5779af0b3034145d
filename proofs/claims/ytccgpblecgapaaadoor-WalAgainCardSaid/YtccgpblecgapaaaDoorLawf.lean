/- The statements' own small functions: few, tell, the reference's Same and May. -/
import Derived.Test.YtccgpblecgapaaaDoorAwk
set_option linter.unusedSimpArgs false
set_option linter.unusedVariables false
namespace Gd
open Go Go.Proofs Go.RowKit

theorem law_few {w : World} {v : Value} {b : Bytes} (hv : BS w v b) (m : Nat) :
    Calls Tryd.prog 15 #[v, .int .i64 m] w fun e w' => ∃ u, e = .returned u ∧ BS w u (b.take m) ∧ (∀ g, u.ownBlock = some g → v.ownBlock = some g) ∧ w = w' := by
  obtain ⟨ad, cap, rfl, hc1, hc2⟩ := hv.shape
  unfold maxLen at hc2
  by_cases h : m < b.length
  · go_enter Tryd.func15, Tryd.ntmps15
    go_wp2_with ((with_reducible show wpList _ _ _ (Oper.mk (some 11) _ _ _ _ _ :: _) _ _); refine wpList_slice_bytes rfl _ _ _ _ rfl rfl hv 0 m rfl rfl (fun cap hc => ⟨cap, rfl, by omega, Nat.le_refl _⟩) (fun h => by cases h) (by omega) (by omega) ?_; intro ad1 cap1 hb1 ho1)
    go_ret
    exact ⟨_, rfl, by simpa using hb1, ho1, rfl⟩
  · go_enter Tryd.func15, Tryd.ntmps15
    go_wp2
    go_ret
    exact ⟨_, rfl, by rw [List.take_of_length_le (by omega)]; exact hv, fun _ h => h, rfl⟩

structure SameInv (L L' : List Bytes) (i : Value) (w W : World) : Prop where
  out : ∃ k : Nat, k ≤ L.length ∧ i = .int .i64 k ∧ L.take k = L'.take k ∧ Fr [] w W

set_option maxRecDepth 100000 in
set_option maxHeartbeats 1000000 in
theorem ref_Same {w : World} {l l' : Value} {us us' : List Value} {L L' : List Bytes} (h1 : VS w l us) (b1 : BSall w us L) (h2 : VS w l' us') (b2 : BSall w us' L') :
    Calls Tryd.prog 23 #[l, l'] w fun e w' => e = .returned (.bool (decide (L = L'))) ∧ Fr [] w w' := by
  obtain ⟨ad, cap, rfl, hc1, hc2⟩ := h1.shape
  obtain ⟨ad', cap', rfl, hd1, hd2⟩ := h2.shape
  have e1 := b1.1
  have e2 := b2.1
  by_cases hlen : us.length = us'.length
  · have H1 := Lib.hid e1
    have H2 := Lib.hid e2
    obtain ⟨n, hn⟩ : ∃ n, n = us.length := ⟨_, rfl⟩
    have hn' : us'.length = n := by omega
    have Hn := Lib.hid hn
    have Hn' := Lib.hid hn'
    have hL : L.length = n := by omega
    have hL' : L'.length = n := by omega
    have HL := Lib.hid hL
    have HL' := Lib.hid hL'
    have hnb : n ≤ maxLen := by omega
    unfold maxLen at hnb
    rw [← hn] at h1 hc1 ⊢
    rw [hn'] at h2 hd1 ⊢
    clear hlen e1 e2 hn hn' hL hL'
    go_enter Tryd.func23, Tryd.ntmps23
    go_wp2
    go_loopw [5] (fun i W => SameInv L L' i w W) (fun i _ => n - (RowKit.intOf i).toNat)
    case atStart => exact ⟨0, by omega, rfl, rfl, Fr.refl _ _⟩
    case round =>
      obtain ⟨k, hk, rfl, hE, hF⟩ := hrel.out
      rw [HL.out] at hk
      by_cases hlt : k < n
      · have hu : k < us.length := by rw [← Hn.out]; exact hlt
        have hu' : k < us'.length := by rw [Hn'.out]; exact hlt
        have hl : k < L.length := by rw [HL.out]; exact hlt
        have hl' : k < L'.length := by rw [HL'.out]; exact hlt
        have f1 := hF.trans (Fr.drew wr)
        obtain ⟨g, off, hg, hcell⟩ := (h1.keep0 f1).cellAt hu
        obtain ⟨g', off', hg', hcell'⟩ := (h2.keep0 f1).cellAt hu'
        subst hg
        subst hg'
        have hb := b1.2 k _ _ (List.getElem?_eq_getElem hu) (List.getElem?_eq_getElem hl)
        have hb' := b2.2 k _ _ (List.getElem?_eq_getElem hu') (List.getElem?_eq_getElem hl')
        have t1 : L.take (k + 1) = L.take k ++ [L[k]] := take_snoc L k hl
        have t2 : L'.take (k + 1) = L'.take k ++ [L'[k]] := take_snoc L' k hl'
        obtain ⟨u, hu1⟩ : ∃ u, u = us[k] := ⟨_, rfl⟩
        obtain ⟨u', hu1'⟩ : ∃ u, u = us'[k] := ⟨_, rfl⟩
        obtain ⟨x, hx⟩ : ∃ x, x = L[k] := ⟨_, rfl⟩
        obtain ⟨x', hx'⟩ : ∃ x, x = L'[k] := ⟨_, rfl⟩
        rw [← hu1, ← hx] at hb
        rw [← hu1', ← hx'] at hb'
        rw [← hu1] at hcell
        rw [← hu1'] at hcell'
        have hq : Hid (L.take (k + 1) = L.take k ++ [x] ∧ L'.take (k + 1) = L'.take k ++ [x'] ∧ L[k]? = some x ∧ L'[k]? = some x') := ⟨by rw [t1, hx], by rw [t2, hx'], by rw [List.getElem?_eq_getElem hl, hx], by rw [List.getElem?_eq_getElem hl', hx']⟩
        have HE := Lib.hid hE
        clear t1 t2 hu1 hu1' hx hx' hE hu hu' hl hl'
        have hc : ∀ X, X = wr.drew → X.cell? ⟨g, off + k * 1, none⟩ = some u ∧ X.cell? ⟨g', off' + k * 1, none⟩ = some u' := fun X hX => by
          rw [hX, Nat.mul_one]
          exact ⟨hcell, hcell'⟩
        go_wp2
        refine wp_region_all (C := fun X => X = wr.drew) (by kernel_rfl) (by kernel_rfl) rfl ?_
        refine wpQuiet_move rfl _ rfl (v := .slice (some ⟨g, off, none⟩) n cap) rfl ?_; simp only [Act.put, List.setIfInBounds_toArray, List.set_cons_succ, List.set_cons_zero]
        refine wpQuiet_move rfl _ rfl (v := .int .i64 k) rfl ?_; simp only [Act.put, List.setIfInBounds_toArray, List.set_cons_succ, List.set_cons_zero]
        refine wpQuiet_index rfl _ _ _ rfl k .i64 1 rfl rfl Tryd.underlying29 (by kernel_rfl) hlt ?_; simp only [Act.put, List.setIfInBounds_toArray, List.set_cons_succ, List.set_cons_zero]
        refine wpQuiet_load rfl _ _ rfl rfl u Tryd.underlying23 rfl (fun X hX => (hc X hX).1) ?_; simp only [Act.put, List.setIfInBounds_toArray, List.set_cons_succ, List.set_cons_zero]
        refine wpQuiet_val rfl (.string ⟨x.toArray⟩) (fun X hX => ?_) ?_
        · show (execOp _ _).run _ X = _
          have := run_conv_bytes (hb.keep0 f1)
          rw [hX]
          simp [execOp, Act.eval, this]
        simp only [Act.put, List.setIfInBounds_toArray, List.set_cons_succ, List.set_cons_zero]
        refine wpQuiet_move rfl _ rfl (v := .slice (some ⟨g', off', none⟩) n cap') rfl ?_; simp only [Act.put, List.setIfInBounds_toArray, List.set_cons_succ, List.set_cons_zero]
        refine wpQuiet_move rfl _ rfl (v := .int .i64 k) rfl ?_; simp only [Act.put, List.setIfInBounds_toArray, List.set_cons_succ, List.set_cons_zero]
        refine wpQuiet_index rfl _ _ _ rfl k .i64 1 rfl rfl Tryd.underlying29 (by kernel_rfl) hlt ?_; simp only [Act.put, List.setIfInBounds_toArray, List.set_cons_succ, List.set_cons_zero]
        refine wpQuiet_load rfl _ _ rfl rfl u' Tryd.underlying23 rfl (fun X hX => (hc X hX).2) ?_; simp only [Act.put, List.setIfInBounds_toArray, List.set_cons_succ, List.set_cons_zero]
        refine wpQuiet_val rfl (.string ⟨x'.toArray⟩) (fun X hX => ?_) ?_
        · show (execOp _ _).run _ X = _
          have := run_conv_bytes (hb'.keep0 f1)
          rw [hX]
          simp [execOp, Act.eval, this]
        simp only [Act.put, List.setIfInBounds_toArray, List.set_cons_succ, List.set_cons_zero]
        refine wpQuiet_val rfl (.bool (!(x == x'))) (fun X hX => ?_) ?_
        · show (execOp _ _).run _ X = _
          simp [execOp, Act.eval, binOp_string_neq, eqGuard, run_underlying Tryd.underlying9]
        simp only [Act.put, List.setIfInBounds_toArray, List.set_cons_succ, List.set_cons_zero]
        refine wpQuiet_nil ?_
        rintro X rfl
        by_cases hxx : x = x'
        · have hq2 : Hid ((!(x == x')) = false) := by rw [Hid, hxx]; simp
          rw [hq2.out]
          have ht : L.take (k + 1) = L'.take (k + 1) := by rw [hq.out.1, hq.out.2.1, HE.out, hxx]
          clear hxx hq
          go_wp2
          exact ⟨⟨k + 1, by rw [HL.out]; omega, by go_num, ht, f1⟩, by simp [RowKit.intOf]; omega⟩
        · have hq2 : Hid ((!(x == x')) = true) := by rw [Hid]; simp [hxx]
          rw [hq2.out]
          have hd : Hid (decide (L = L') = false) := decide_eq_false (fun h => hxx (by
            have h1 := hq.out.2.2.1
            have h2 := hq.out.2.2.2
            rw [h, h2] at h1
            exact (Option.some.inj h1).symm))
          clear hxx hq
          go_wp2
          go_ret
          rw [hd.out]
          exact ⟨rfl, f1⟩
      · have hkn : k = n := by omega
        have hd : Hid (decide (L = L') = true) := decide_eq_true (by
          rw [hkn] at hE
          rw [List.take_of_length_le (by rw [HL.out]; exact Nat.le_refl _), List.take_of_length_le (by rw [HL'.out]; exact Nat.le_refl _)] at hE
          exact hE)
        clear hE hkn
        go_wp2
        go_ret
        rw [hd.out]
        exact ⟨rfl, hF⟩
  · go_enter Tryd.func23, Tryd.ntmps23
    have hne : L ≠ L' := fun h => hlen (by rw [e1, e2, h])
    have Hd : Hid (decide (L = L') = false) := decide_eq_false hne
    have hq : Hid (((us.length : Int) != us'.length) = true) := by rw [Hid, bne_iff_ne]; omega
    clear e1 e2 hlen hne
    go_wp2_with ((with_reducible show wpList _ _ _ (Oper.mk (some 10) _ _ _ _ _ :: _) _ _); refine wpList_val_g rfl (.bool true) (by rw [← hq.out]; kernel_rfl) ?_)
    go_ret
    rw [Hd.out]
    exact ⟨rfl, Fr.refl _ _⟩
end Gd
