/- The walks through package disk. -/
import Derived.Test.YtccgpblecgapaaaDoorBuild
import Derived.Test.YtccgpblecgapaaaDoorDraw
set_option linter.unusedSimpArgs false
set_option linter.unusedVariables false
namespace Gd
open Go Go.Proofs Go.RowKit

section
variable {w : World} {p s m : Nat} {D : Dk}
theorem DiskAt.c0 (h : DiskAt w p s m D) : w.cell? ⟨p, 0, none⟩ = some (.int .i64 D.fuse) := cellOf h.head rfl
theorem DiskAt.c1 (h : DiskAt w p s m D) : w.cell? ⟨p, 1, none⟩ = some (.slice (some ⟨s, 0, none⟩) D.sure.length D.sure.length) := cellOf h.head rfl
theorem DiskAt.c2 (h : DiskAt w p s m D) : w.cell? ⟨p, 2, none⟩ = some (.map (some m)) := cellOf h.head rfl
theorem DiskAt.c3 (h : DiskAt w p s m D) : w.cell? ⟨p, 3, none⟩ = some (.int .i64 D.writes) := cellOf h.head rfl
end

theorem disk_Size {w : World} {p s m : Nat} {D : Dk} (h : DiskAt w p s m D) :
    Calls Tryd.prog 45 #[.pointer (some ⟨p, 0, none⟩)] w fun e w' => e = .returned (.int .i64 D.sure.length) ∧ w = w' := by
  have h1 := h.c1
  go_enter Tryd.func45, Tryd.ntmps45
  go_wp2
  go_ret
  exact ⟨rfl, rfl⟩


def thereB (D : Dk) (i : Int) : Bool := decide (0 ≤ i ∧ i < D.sure.length)
theorem disk_there {w : World} {p s m : Nat} {D : Dk} (h : DiskAt w p s m D) (i : Int) :
    Calls Tryd.prog 64 #[.pointer (some ⟨p, 0, none⟩), .int .i64 i] w fun e w' => e = .returned (.bool (thereB D i)) ∧ w = w' := by
  go_enter Tryd.func64, Tryd.ntmps64
  go_wp2_with (go_at_call 45; refine (disk_Size h).mono ?_; rintro e w' ⟨rfl, rfl⟩)
  all_goals go_ret
  all_goals exact ⟨by simp [thereB]; try omega, rfl⟩
theorem disk_there_nil (w : World) (i : Int) :
    Calls Tryd.prog 64 #[.pointer none, .int .i64 i] w fun e w' => e = .returned (.bool false) ∧ w = w' := by
  go_enter Tryd.func64, Tryd.ntmps64
  go_wp2
  all_goals go_ret
  all_goals exact ⟨by simp; try omega, rfl⟩

theorem DiskAt.setFuse {w : World} {p s m : Nat} {D : Dk} (h : DiskAt w p s m D) (f : Int) (h1 : -1 ≤ f) (h2 : f ≤ 9223372036854775807) :
    DiskAt (w.setCell ⟨p, 0, none⟩ (.int .i64 f)) p s m { D with fuse := f } :=
  ⟨⟨h.ok.len, h.ok.sure, h.ok.pend, h.ok.keys, h1, h2⟩, heap_setCell_same w p 0 _ _ _ h.head,
   (Fr.setCell w ⟨p, 0, none⟩ _).keep h.sure (by simpa using Ne.symm h.ne.1), h.pend.keep (Fr.setCell w ⟨p, 0, none⟩ _) (by simpa using Ne.symm h.ne.2.1), h.ne⟩

theorem power_spend {w : World} {p s m : Nat} {D : Dk} (h : DiskAt w p s m D) {f : Int} (hs : spend D.fuse = some f) :
    Calls Tryd.prog 48 #[.pointer (some ⟨p, 0, none⟩)] w fun e w' => e = .returned (.bool true) ∧ DiskAt w' p s m { D with fuse := f } ∧ Fr [p] w w' := by
  have h1 := h.c0
  have h2 : w.frozen? ⟨p, 0, none⟩ = false := freeOf h.head
  have hb := h.ok.fuse
  have hb1 := hb.1
  have hb2 := hb.2
  unfold spend at hs
  clear hb
  split at hs
  · rename_i he
    obtain rfl : D.fuse = f := by simpa using hs
    have he' : (D.fuse == -1) = true := by simpa using he
    have HX := Lib.hid he; clear he hs
    go_enter Tryd.func48, Tryd.ntmps48
    go_wp2
    go_ret
    exact ⟨rfl, h, Fr.refl _ _⟩
  · rename_i he
    split at hs
    · cases hs
    · rename_i h0
      obtain rfl : D.fuse - 1 = f := by simpa using hs
      have he' : (D.fuse == -1) = false := by simpa using he
      have h0' : (D.fuse == 0) = false := by simpa using h0
      have hg : 1 ≤ D.fuse := by omega
      clear he h0 hs
      go_enter Tryd.func48, Tryd.ntmps48
      go_wp2
      go_ret
      exact ⟨rfl, h.setFuse _ (by omega) (by omega), Fr.cell _ _ _ _⟩

theorem power_spend_no {w : World} {p s m : Nat} {D : Dk} (h : DiskAt w p s m D) (hs : spend D.fuse = none) :
    Calls Tryd.prog 48 #[.pointer (some ⟨p, 0, none⟩)] w fun e w' => e = .returned (.bool false) ∧ w = w' := by
  have h1 := h.c0
  unfold spend at hs
  split at hs
  · cases hs
  · split at hs
    · rename_i he h0
      have he' : (D.fuse == -1) = false := by simpa using he
      have h0' : (D.fuse == 0) = true := by simpa using h0
      have HX := Lib.hid h0; clear he h0 hs
      go_enter Tryd.func48, Tryd.ntmps48
      go_wp2
      go_ret
      exact ⟨rfl, rfl⟩
    · cases hs

theorem power_set {w : World} {p s m : Nat} {D : Dk} (h : DiskAt w p s m D) (n : Int) (hn : n ≤ 9223372036854775807) :
    Calls Tryd.prog 44 #[.pointer (some ⟨p, 0, none⟩), .int .i64 n] w fun e w' => e = .returned (.tuple #[]) ∧ DiskAt w' p s m (D.fuseTo n) ∧ Fr [p] w w' := by
  have h1 := h.c0
  have h2 : w.frozen? ⟨p, 0, none⟩ = false := freeOf h.head
  have hh : ∀ k, k = max n (-1) → DiskAt (w.setCell ⟨p, 0, none⟩ (.int .i64 k)) p s m (D.fuseTo n) := fun k hk => hk ▸ h.setFuse (max n (-1)) (by omega) (by omega)
  go_enter Tryd.func44, Tryd.ntmps44
  go_wp2
  all_goals go_end0
  all_goals exact ⟨rfl, hh _ (by first | rfl | omega), Fr.cell _ _ _ _⟩

theorem zero_len : (secL Sec.zero).length = 33 := by decide
theorem getElem_sure {D : Dk} {i : Nat} (hi : i < D.sure.length) : D.sure[i]? = some (D.sure.getD i Sec.zero) := by
  simp [List.getD_eq_getElem?_getD, hi]


theorem getD_sec (D : Dk) (i : Nat) : D.is i = match D.pend.lookup i with | some t => t | none => D.sure.getD i Sec.zero := by
  unfold Dk.is; cases D.pend.lookup i <;> rfl

set_option maxHeartbeats 400000 in
theorem disk_is {w : World} {p s m : Nat} {D : Dk} (h : DiskAt w p s m D) (i : Nat) (hi : i < D.sure.length) :
    Calls Tryd.prog 65 #[.pointer (some ⟨p, 0, none⟩), .int .i64 i] w fun e w' => e = .returned (secV (D.is i)) ∧ Fr [] w w' := by
  have hlen := h.ok.len
  have hlk := lookup_pendL D.pend i
  have hok := Dk.is_ok h.ok hi
  have HQ := Lib.hid (getD_sec D i)
  cases hp : D.pend.lookup i with
  | some t =>
    rw [hp, Option.map_some] at hlk
    rw [hp] at HQ
    have ht : D.is i = t := HQ.out
    rw [ht] at hok ⊢
    have Hlk := Lib.hid hlk
    clear hlk hp HQ ht
    go_enter Tryd.func65, Tryd.ntmps65
    go_wp2_with (first
      | ((with_reducible show wpList _ _ _ (Oper.mk (some 4) _ _ _ _ _ :: _) _ _); refine wpList_alloc_agg rfl tState rfl zero_state ?_; intro b1 w1 hb1 hb1' B1 f1; have h1 := h.keep0 f1; have c2 := h1.c2)
      | (at_lookup; refine wpList_lookup_there rfl _ _ _ _ rfl Tryd.underlying56 Tryd.underlying3 zero_state m i rfl rfl h1.pend Hlk.out ?_)
      | ((with_reducible show wpList _ _ _ (Oper.mk (some 5) _ _ _ _ _ :: _) _ _); refine wpList_alloc_agg rfl tState rfl zero_state ?_; intro b2 w2 hb2 hb2' B2 f2; have B1' := B1.keep0 f2)
      | ((with_reducible show wpList _ _ _ (Oper.mk none (Op.store _ (.tmp 5) _) _ _ _ _ :: _) _ _); refine wpList_store_whole rfl _ _ _ rfl b2 33 rfl rfl sz_state B2 (length_secL hok) zero_len (secL_oneCell _) ?_; intro w3 B3 f3; have B1'' := B1'.keep f3 (by simp; omega))
      | ((with_reducible show wpList _ _ _ (Oper.mk (some 17) _ _ _ _ _ :: _) _ _); refine wpList_load_whole rfl _ _ rfl b2 33 rfl Tryd.underlying83 rfl sz_state B3 (length_secL hok) ?_)
      | ((with_reducible show wpList _ _ _ (Oper.mk none (Op.store _ (.tmp 4) _) _ _ _ _ :: _) _ _); refine wpList_store_whole rfl _ _ _ rfl b1 33 rfl rfl sz_state B1'' (length_secL hok) zero_len (secL_oneCell _) ?_; intro w4 B4 f4))
    refine bodyPost_ret (results_cell rfl _ _ b1 _ _ _ _ rfl B4 Tryd.underlying83 rfl (by rw [List.size_toArray, length_secL hok]; exact sz_state)) rfl ⟨rfl, ?_⟩
    exact ((f1.trans f2).then f3 (by simp; omega)).then f4 (by simp; omega)
  | none =>
    rw [hp, Option.map_none] at hlk
    rw [hp] at HQ
    have ht : D.is i = D.sure.getD i Sec.zero := HQ.out
    rw [ht] at hok ⊢
    have Hlk := Lib.hid hlk
    clear hlk hp HQ ht
    have hx := Lib.hid (secsL_extract h.ok.sure (getElem_sure hi))
    have hsz : i * 33 + 33 ≤ (secsL D.sure).toArray.size := by rw [List.size_toArray, length_secsL h.ok.sure]; omega
    obtain ⟨l1, l2, l3⟩ := h.lt
    go_enter Tryd.func65, Tryd.ntmps65
    go_wp2_with (first
      | ((with_reducible show wpList _ _ _ (Oper.mk (some 4) _ _ _ _ _ :: _) _ _); refine wpList_alloc_agg rfl tState rfl zero_state ?_; intro b1 w1 hb1 hb1' B1 f1; have h1 := h.keep0 f1; have c2 := h1.c2; have e1 := f1.size)
      | (at_lookup; refine wpList_lookup_not rfl _ _ _ _ rfl Tryd.underlying56 Tryd.underlying3 zero_state m i rfl rfl h1.pend Hlk.out ?_)
      | ((with_reducible show wpList _ _ _ (Oper.mk (some 5) _ _ _ _ _ :: _) _ _); refine wpList_alloc_agg rfl tState rfl zero_state ?_; intro b2 w2 hb2 hb2' B2 f2; have B1' := B1.keep0 f2; have e2 := f2.size)
      | ((with_reducible show wpList _ _ _ (Oper.mk none (Op.store _ (.tmp 5) _) _ _ _ _ :: _) _ _); refine wpList_store_whole rfl _ _ _ rfl b2 33 rfl rfl sz_state B2 zero_len zero_len (secL_oneCell _) ?_; intro w3 B3 f3; have B1'' := B1'.keep f3 (by simp; omega); have h3 := (h1.keep0 f2).keep f3 (by simp; omega) (by simp; omega) (by simp; omega); have c1 := h3.c1)
      | ((with_reducible show wpList _ _ _ (Oper.mk (some 24) _ _ _ _ _ :: _) _ _); refine wpList_load_at rfl _ _ rfl s (i * 33) 33 rfl Tryd.underlying83 rfl sz_state h3.sure hsz ?_)
      | ((with_reducible show wpList _ _ _ (Oper.mk none (Op.store _ (.tmp 4) _) _ _ _ _ :: _) _ _); refine wpList_store_whole rfl _ _ _ rfl b1 33 rfl (congrArg Value.agg hx.out) sz_state B1'' (length_secL hok) zero_len (secL_oneCell _) ?_; intro w4 B4 f4))
    refine bodyPost_ret (results_cell rfl _ _ b1 _ _ _ _ rfl B4 Tryd.underlying83 rfl (by rw [List.size_toArray, length_secL hok]; exact sz_state)) rfl ⟨rfl, ?_⟩
    exact ((f1.trans f2).then f3 (by simp; omega)).then f4 (by simp; omega)

/-- what a write leaves of the disk -/
theorem putPend_mem {i : Nat} {s : Sec} : ∀ {l : List (Nat × Sec)} {q : Nat × Sec}, q ∈ putPend i s l → q = (i, s) ∨ q ∈ l
  | [], q, h => by simpa [putPend] using h
  | (j, t) :: r, q, h => by
    simp only [putPend] at h
    split at h
    · rename_i hj
      subst hj
      rcases List.mem_cons.1 h with h | h
      · exact .inl h
      · exact .inr (List.mem_cons_of_mem _ h)
    · rcases List.mem_cons.1 h with h | h
      · exact .inr (by rw [h]; simp)
      · rcases putPend_mem h with h | h
        · exact .inl h
        · exact .inr (List.mem_cons_of_mem _ h)
theorem putPend_keys {i : Nat} {s : Sec} : ∀ {l : List (Nat × Sec)}, (l.map (·.1)).Nodup → ((putPend i s l).map (·.1)).Nodup
  | [], _ => by simp [putPend]
  | (j, t) :: r, h => by
    simp only [List.map_cons, List.nodup_cons] at h
    simp only [putPend]
    split
    · simpa using h
    · rename_i hj
      simp only [List.map_cons, List.nodup_cons]
      refine ⟨fun hm => ?_, putPend_keys h.2⟩
      obtain ⟨q, hq, he⟩ := List.mem_map.1 hm
      rcases putPend_mem hq with h1 | h1
      · subst h1; exact hj he.symm
      · exact h.1 (List.mem_map.2 ⟨q, h1, he⟩)

def wrote (D : Dk) (i : Nat) (b : Bytes) : Dk := { D with writes := w64 (D.writes + 1), pend := putPend i ⟨b, w64 (D.writes + 1)⟩ D.pend }
theorem wrote_ok {D : Dk} (h : D.ok) {i : Nat} (hi : i < D.sure.length) {b : Bytes} (hb : b.length = 32) : (wrote D i b).ok :=
  ⟨h.len, h.sure, fun q hq => by
    rcases putPend_mem hq with h1 | h1
    · subst h1; exact ⟨hb, hi⟩
    · exact h.pend q h1, putPend_keys h.keys, h.fuse⟩

theorem DiskAt.setWrites {w : World} {p s m : Nat} {D : Dk} (h : DiskAt w p s m D) (n : Int) :
    DiskAt (w.setCell ⟨p, 3, none⟩ (.int .i64 n)) p s m { D with writes := n } :=
  ⟨⟨h.ok.len, h.ok.sure, h.ok.pend, h.ok.keys, h.ok.fuse⟩, heap_setCell_same w p 3 _ _ _ h.head,
   (Fr.cell w p 3 _).keep h.sure (by simpa using Ne.symm h.ne.1), h.pend.keep (Fr.cell w p 3 _) (by simpa using Ne.symm h.ne.2.1), h.ne⟩

set_option maxRecDepth 100000 in
set_option maxHeartbeats 400000 in
theorem disk_Write_ok {w : World} {p s m : Nat} {D : Dk} (h : DiskAt w p s m D) (i : Nat) (hi : i < D.sure.length) {v : Value} {b : Bytes} (hv : BS w v b) (hb : b.length = 32) (hvs : ∀ g, v.ownBlock = some g → g ≠ p ∧ g ≠ m) {f : Int} (hf : spend D.fuse = some f) :
    Calls Tryd.prog 47 #[.pointer (some ⟨p, 0, none⟩), .int .i64 i, v] w fun e w' => e = .returned (.int .i64 0) ∧ DiskAt w' p s m { wrote D i b with fuse := f } ∧ Fr [p, m] w w' := by
  rcases hv.out with ⟨_, rfl, rfl⟩ | ⟨g, off, cap, c, t, z, rfl, q2, q3, q4, q5⟩
  · simp at hb
  obtain ⟨n1, n2⟩ := hvs g rfl
  have hth : thereB D i = true := by simp [thereB]; omega
  have hex : c.extract off (off + 32) = (bcells b).toArray := by
    apply Array.ext'
    apply List.ext_getElem?
    intro j
    simp only [Array.toList_extract, List.extract_eq_take_drop]
    rw [show off + 32 - off = 32 by omega, List.getElem?_take, bcells_getElem?]
    by_cases hj : j < 32
    · rw [if_pos hj, List.getElem?_drop]
      have hb' : b[j]? = some b[j] := List.getElem?_eq_getElem (by omega)
      have := q5 j _ hb'
      rw [hb']
      simpa using this
    · rw [if_neg hj, List.getElem?_eq_none (by omega)]; rfl
  have hsz : off + 32 ≤ c.size := by
    have hb' : b[31]? = some b[31] := List.getElem?_eq_getElem (by omega)
    have := (Array.getElem?_eq_some_iff.1 (q5 31 _ hb')).1
    omega
  have Q4 : Blk w g (.cells c t z) := ⟨q4⟩
  have HB := Lib.hid hb
  have HX := Lib.hid hex
  rw [hb] at q2 ⊢
  clear q4 q5 hb hex hv hvs
  go_enter Tryd.func47, Tryd.ntmps47
  go_wp2_with (first
    | (go_at_call 64; refine (disk_there h i).mono ?_; rintro e w' ⟨rfl, rfl⟩; rw [hth])
    | (go_at_call 48; refine (power_spend h hf).mono ?_; rintro e w1 ⟨rfl, h1, f1⟩; have c3 := h1.c3; have z3 : w1.frozen? ⟨p, 3, none⟩ = false := freeOf h1.head))
  rw [w64_eq]
  have h2 := h1.setWrites (w64 (D.writes + 1))
  have f2 : Fr [p] w (w1.setCell ⟨p, 3, none⟩ (.int .i64 (w64 (D.writes + 1)))) := f1.trans (Fr.cell _ _ _ _)
  have Q4' : Blk (w1.setCell ⟨p, 3, none⟩ (.int .i64 (w64 (D.writes + 1)))) g (.cells c t z) := Q4.keep f2 (by simpa using n1)
  refine wp_region_mid1 (C := fun W => (DiskAt W p s m { D with fuse := f, writes := w64 (D.writes + 1) } ∧ Fr [p] w W) ∧ Blk W g (.cells c t z)) 13 (by kernel_rfl) (by kernel_rfl) rfl rfl
    ⟨⟨h2.keep0 (Fr.drew _), f2.trans ((Fr.drew _).mono (by simp))⟩, Q4'.keep0 (Fr.drew _)⟩ ?_
  refine wpQuiet_move rfl _ rfl (v := .pointer (some ⟨p, 0, none⟩)) rfl ?_; simp only [Act.put, List.setIfInBounds_toArray, List.set_cons_succ, List.set_cons_zero]
  refine wpQuiet_nilCheck rfl _ rfl (ad := ⟨p, 0, none⟩) rfl ?_; simp only [Act.put, List.setIfInBounds_toArray, List.set_cons_succ, List.set_cons_zero]
  refine wpQuiet_field rfl _ _ _ rfl rfl (.pointer (some ⟨p, 2, none⟩)) (fun W => by kernel_rfl) ?_; simp only [Act.put, List.setIfInBounds_toArray, List.set_cons_succ, List.set_cons_zero]
  refine wpQuiet_load rfl _ _ rfl rfl _ Tryd.underlying56 rfl (fun W hW => hW.1.1.c2) ?_; simp only [Act.put, List.setIfInBounds_toArray, List.set_cons_succ, List.set_cons_zero]
  refine wpQuiet_move rfl _ rfl (v := .int .i64 i) rfl ?_; simp only [Act.put, List.setIfInBounds_toArray, List.set_cons_succ, List.set_cons_zero]
  refine wpQuiet_move rfl _ rfl (v := .slice (some ⟨g, off, none⟩) 32 cap) rfl ?_; simp only [Act.put, List.setIfInBounds_toArray, List.set_cons_succ, List.set_cons_zero]
  refine wpQuiet_arrayAt (ad := some ⟨g, off, none⟩) (len := 32) (cap := cap) rfl _ _ rfl rfl Tryd.underlying81 (Nat.le_refl _) ?_; simp only [Act.put, List.setIfInBounds_toArray, List.set_cons_succ, List.set_cons_zero]
  refine wpQuiet_loadA rfl _ _ rfl 32 rfl (.agg (bcells b).toArray) Tryd.underlying81 rfl (by kernel_rfl) hsz (fun W hW => hW.2) (by rw [HX.out]) ?_; simp only [Act.put, List.setIfInBounds_toArray, List.set_cons_succ, List.set_cons_zero]
  refine wpQuiet_move rfl _ rfl (v := .pointer (some ⟨p, 0, none⟩)) rfl ?_; simp only [Act.put, List.setIfInBounds_toArray, List.set_cons_succ, List.set_cons_zero]
  refine wpQuiet_nilCheck rfl _ rfl (ad := ⟨p, 0, none⟩) rfl ?_; simp only [Act.put, List.setIfInBounds_toArray, List.set_cons_succ, List.set_cons_zero]
  refine wpQuiet_field rfl _ _ _ rfl rfl (.pointer (some ⟨p, 3, none⟩)) (fun W => by kernel_rfl) ?_; simp only [Act.put, List.setIfInBounds_toArray, List.set_cons_succ, List.set_cons_zero]
  refine wpQuiet_load rfl _ _ rfl rfl _ Tryd.underlying3 rfl (fun W hW => hW.1.1.c3) ?_; simp only [Act.put, List.setIfInBounds_toArray, List.set_cons_succ, List.set_cons_zero]
  refine wpQuiet_build rfl _ _ rfl #[(0, .agg (bcells b).toArray), (1, .int .i64 (w64 (D.writes + 1)))] (by simp [Act.eval]) _ (fun W => run_build_state W HB.out _) ?_; simp only [Act.put, List.setIfInBounds_toArray, List.set_cons_succ, List.set_cons_zero]
  refine wpQuiet_nil ?_
  intro W hW
  have hD := hW.1.1
  have hF := hW.1.2
  clear hW
  refine wp_mapUpdate_int _ _ _ _ rfl Tryd.underlying56 Tryd.underlying3 m i (secV ⟨b, w64 (D.writes + 1)⟩) rfl rfl rfl hD.pend ?_
  intro w3 f3 hp3
  refine wpQuiet_nil ?_
  rw [putL_pendL] at hp3
  obtain ⟨x1, x2, x3⟩ := hD.ne
  go_wp2
  go_ret
  refine ⟨rfl, ⟨?_, ?_, ?_, hp3, hD.ne⟩, ?_⟩
  · have := wrote_ok h.ok hi HB.out
    exact ⟨this.len, this.sure, this.pend, this.keys, hD.ok.fuse⟩
  · exact f3.keep hD.head (by simpa using x2)
  · exact f3.keep hD.sure (by simpa using x3)
  · exact (hF.mono (by simp)).trans (f3.mono (by simp))

theorem disk_Write_down {w : World} {p s m : Nat} {D : Dk} (h : DiskAt w p s m D) (i : Nat) (hi : i < D.sure.length) {v : Value} {b : Bytes} (hv : BS w v b) (hb : b.length = 32) (hf : spend D.fuse = none) :
    Calls Tryd.prog 47 #[.pointer (some ⟨p, 0, none⟩), .int .i64 i, v] w fun e w' => e = .returned (.int .i64 10) ∧ w = w' := by
  obtain ⟨ad, cap, rfl, q2, q3⟩ := hv.shape
  have hth : thereB D i = true := by simp [thereB]; omega
  have HB := Lib.hid hb
  rw [hb] at q2 ⊢
  clear hb hv
  go_enter Tryd.func47, Tryd.ntmps47
  go_wp2_with (first
    | (go_at_call 64; refine (disk_there h i).mono ?_; rintro e w' ⟨rfl, rfl⟩; rw [hth])
    | (go_at_call 48; refine (power_spend_no h hf).mono ?_; rintro e w1 ⟨rfl, rfl⟩))
  go_ret
  exact ⟨rfl, rfl⟩

theorem disk_Write_out {w : World} {p s m : Nat} {D : Dk} (h : DiskAt w p s m D) (i : Int) (hi : ¬ (0 ≤ i ∧ i < D.sure.length)) (v : Value) :
    Calls Tryd.prog 47 #[.pointer (some ⟨p, 0, none⟩), .int .i64 i, v] w fun e w' => e = .returned (.int .i64 1) ∧ w = w' := by
  have hth : thereB D i = false := by simp [thereB]; omega
  clear hi
  go_enter Tryd.func47, Tryd.ntmps47
  go_wp2_with (first
    | (go_at_call 64; refine (disk_there h i).mono ?_; rintro e w' ⟨rfl, rfl⟩; rw [hth]))
  go_ret
  exact ⟨rfl, rfl⟩

/-! ### Read -/
theorem run_sliceAt_array {w : World} (b : Nat) (o : Nat) : (Instr.sliceAt 81 (.pointer (some ⟨b, o, none⟩)) none none none).run Tryd.prog w = .ok (.slice (some ⟨b, o, none⟩) 32 32) w := by
  have := add_lit b o 0
  have h5 : (Tryd.prog.info? tb).map (·.size) = some 1 := by kernel_rfl
  unfold Instr.sliceAt
  simp only [Sem.run_bind, run_underlying Tryd.underlying81 w, Result.andThen_ok, Instr.sureAddr, Sem.run_pure, Instr.sliceBounds]
  cases hq : Tryd.prog.info? tb with
  | none => simp [hq] at h5
  | some inf =>
    have : inf.size = 1 := by simpa [hq] using h5
    simp [Go.sizeOf, typeInfo, hq, add_lit]

/-- the sector's bytes lie at the head of a block that holds it -/
theorem bs_of_sec {w : World} {b : Nat} {t : Sec} (h : t.ok) (hB : Blk w b (.cells (secL t).toArray tState (0, 0))) : BS w (.slice (some ⟨b, 0, none⟩) 32 32) t.bytes := by
  have hl : t.bytes.length = 32 := h
  refine ⟨.inr ⟨b, 0, 32, _, _, _, by rw [hl], by omega, by unfold maxLen; omega, hB.out, fun i c hi => ?_⟩⟩
  have hlt := (List.getElem?_eq_some_iff.1 hi).1
  simp only [Nat.zero_add, secL, List.getElem?_toArray]
  rw [List.getElem?_append_left (by simpa using hlt), bcells_getElem?, hi]
  rfl

set_option maxHeartbeats 400000 in
theorem disk_Read {w : World} {p s m : Nat} {D : Dk} (h : DiskAt w p s m D) (i : Nat) (hi : i < D.sure.length) :
    Calls Tryd.prog 53 #[.pointer (some ⟨p, 0, none⟩), .int .i64 i] w fun e w' => ∃ v, e = .returned (.tuple #[v, .int .i64 0]) ∧ OB w.heap.size w' v (D.is i).bytes ∧ Fr [] w w' := by
  have hth : thereB D i = true := by simp [thereB]; omega
  have hok := Dk.is_ok h.ok hi
  have hlen : (D.is i).bytes.length = 32 := hok
  have Hlen := Lib.hid hlen
  clear hlen
  go_enter Tryd.func53, Tryd.ntmps53
  go_wp2_with (first
    | (go_at_call 64; refine (disk_there h i).mono ?_; rintro e w' ⟨rfl, rfl⟩; rw [hth])
    | (go_at_call 65; refine (disk_is h i hi).mono ?_; rintro e w1 ⟨rfl, f1⟩)
    | ((with_reducible show wpList _ _ _ (Oper.mk (some 6) _ _ _ _ _ :: _) _ _); refine wpList_alloc_agg rfl tState rfl zero_state ?_; intro b2 w2 hb2 hb2' B2 f2)
    | ((with_reducible show wpList _ _ _ (Oper.mk none (Op.store _ (.tmp 6) _) _ _ _ _ :: _) _ _); refine wpList_store_whole rfl _ _ _ rfl b2 33 rfl rfl sz_state B2 (length_secL hok) zero_len (secL_oneCell _) ?_; intro w3 B3 f3; have hs := @run_sliceAt_array w3 b2 0)
    | (go_at_call 50; refine (slices_Clone (bs_of_sec hok B3) (by rw [Hlen.out]; omega)).mono ?_; rintro e w4 ⟨v, rfl, hv, f4⟩))
  go_ret2
  exact ⟨v, rfl, hv.mono (by have := f1.size; have := f2.size; have := f3.size; omega), ((f1.trans f2).then f3 (by simp; have := f1.size; omega)).trans f4⟩

theorem disk_Read_out {w : World} {p s m : Nat} {D : Dk} (h : DiskAt w p s m D) (i : Int) (hi : ¬ (0 ≤ i ∧ i < D.sure.length)) :
    Calls Tryd.prog 53 #[.pointer (some ⟨p, 0, none⟩), .int .i64 i] w fun e w' => e = .returned (.tuple #[.slice none 0 0, .int .i64 1]) ∧ w = w' := by
  have hth : thereB D i = false := by simp [thereB]; omega
  clear hi
  go_enter Tryd.func53, Tryd.ntmps53
  go_wp2_with (first
    | (go_at_call 64; refine (disk_there h i).mono ?_; rintro e w' ⟨rfl, rfl⟩; rw [hth]))
  go_ret2
  exact ⟨rfl, rfl⟩
end Gd
