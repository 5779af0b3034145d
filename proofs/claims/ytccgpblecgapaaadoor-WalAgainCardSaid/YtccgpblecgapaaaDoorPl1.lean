/- Plain laws of the sectors: a record that is laid is lifted again. No program in sight. -/
import Derived.Test.YtccgpblecgapaaaDoorOpn
set_option linter.unusedSimpArgs false
set_option linter.unusedVariables false
namespace Gd

theorem foldl_val (b : Bytes) (n : Nat) : b.foldl (fun n c => n * 256 + c.toNat) n = n * 256 ^ b.length + val b := by
  induction b generalizing n with
  | nil => simp [val]
  | cons c b ih =>
    have h1 := ih (n * 256 + c.toNat)
    have h2 := ih c.toNat
    have h3 : val (c :: b) = b.foldl (fun n c => n * 256 + c.toNat) (0 * 256 + c.toNat) := rfl
    rw [Nat.zero_mul, Nat.zero_add, h2] at h3
    rw [List.foldl_cons, h1, h3, List.length_cons, Nat.pow_succ, Nat.add_mul, Nat.mul_assoc, Nat.mul_comm 256, Nat.add_assoc]
theorem val_append (a b : Bytes) : val (a ++ b) = val a * 256 ^ b.length + val b := by
  unfold val
  rw [List.foldl_append, foldl_val]
  rfl
theorem be_succ (k n : Nat) : be (k + 1) n = be k (n / 256) ++ [UInt8.ofNat n] := by
  unfold be
  rw [List.range_succ, List.map_append]
  congr 1
  · apply List.map_congr_left
    intro i hi
    have hi := List.mem_range.1 hi
    congr 1
    rw [Nat.div_div_eq_div_mul, show k + 1 - 1 - i = (k - 1 - i) + 1 by omega, Nat.pow_succ, Nat.mul_comm]
  · simp
theorem val_be : ∀ (k n : Nat), n < 256 ^ k → val (be k n) = n
  | 0, n, h => by
    obtain rfl : n = 0 := by simpa using h
    rfl
  | k + 1, n, h => by
    rw [be_succ, val_append, val_be k (n / 256) (by rw [Nat.pow_succ] at h; omega)]
    simp [val]
    omega

/-! ### the shape of a record -/
theorem length_mark (e q : Nat) : (mark e q).length = 8 := by simp [mark, length_be]
theorem length_pad (m p : Bytes) (hm : m.length = 8) (hp : p.length ≤ 24) : (pad m p).length = 32 := by simp [pad, hm]; omega
theorem cnt_pos (n : Nat) : 0 < cnt n := by unfold cnt; omega
theorem lay_eq (e q : Nat) (b : Bytes) : lay e q b = ((List.range (cnt b.length)).map fun x => pad (mark e q) (pc 24 (matter e q b) x)).flatten := by
  unfold lay
  rw [chunks_eq 24 (by omega) _ _ (cnt b.length) (by rw [length_matter]; unfold cnt; omega) (fun x => by rw [length_matter]; exact cnt_pieces _ _), List.map_map]
  rfl
theorem length_pc_le (k : Nat) (l : Bytes) (x : Nat) : (pc k l x).length ≤ k := by simp [pc]; omega
/-- the x-th of pieces of one length -/
theorem pc_flatten (k : Nat) (hk : 0 < k) (f : Nat → Bytes) (K : Nat) (hf : ∀ x, x < K → (f x).length = k) (r : Bytes) (x : Nat) (hx : x < K) : pc k (((List.range K).map f).flatten ++ r) x = f x := by
  have hl : ∀ (n : Nat), n ≤ K → (((List.range n).map f).flatten).length = k * n := by
    intro n
    induction n with
    | zero => intro _; simp
    | succ n ih =>
      intro hn
      rw [List.range_succ, List.map_append, List.flatten_append, List.length_append, ih (by omega)]
      simp [hf n (by omega), Nat.mul_succ]
  have hs : (List.range K).map f = (List.range x).map f ++ (f x :: (List.range (K - x - 1)).map (fun i => f (x + 1 + i))) := by
    have : K = x + (1 + (K - x - 1)) := by omega
    conv => lhs; rw [this, List.range_add, List.map_append, List.map_map]
    congr 1
    rw [List.range_add, List.map_append]
    simp [List.map_map, Function.comp_def, Nat.add_assoc]
  unfold pc
  rw [hs, List.flatten_append, List.flatten_cons, List.append_assoc, List.append_assoc]
  rw [List.drop_append_of_le_length (by rw [hl x (by omega)]; omega), List.drop_of_length_le (by rw [hl x (by omega)]; omega), List.nil_append]
  rw [List.take_append_of_le_length (by rw [hf x hx]; omega), List.take_of_length_le (by rw [hf x hx]; omega)]
theorem lay_pc (e q : Nat) (b r : Bytes) (x : Nat) (hx : x < cnt b.length) : pc 32 (lay e q b ++ r) x = pad (mark e q) (pc 24 (matter e q b) x) := by
  rw [lay_eq]
  exact pc_flatten 32 (by omega) _ _ (fun x _ => length_pad _ _ (length_mark _ _) (length_pc_le _ _ _)) r x hx

theorem pad_mark (m p : Bytes) (hm : m.length = 8) (hp : p.length ≤ 24) : (pad m p).drop 24 = m ∧ (pad m p).take 24 = p ++ List.replicate (24 - p.length) 0 := by
  unfold pad
  have hl : (p ++ List.replicate (24 - p.length) (0 : UInt8)).length = 24 := by simp; omega
  exact ⟨List.drop_left' hl, List.take_left' hl⟩
theorem pc_zero (k : Nat) (l : Bytes) : pc k l 0 = l.take k := by simp [pc]
/-- what the first sector's mark says -/
theorem mark_first (e q : Nat) (he : e < 4294967296) (hq : q < 4294967296) : val ((mark e q).take 4) = e ∧ val (((mark e q).drop 4).take 4) = q := by
  unfold mark
  rw [List.take_left' (length_be 4 e), List.drop_left' (length_be 4 e), List.take_of_length_le (by rw [length_be]; omega)]
  exact ⟨val_be 4 e (by omega), val_be 4 q (by omega)⟩
theorem sec4_pad (e q : Nat) (p : Bytes) (he : e < 4294967296) (hp : p.length ≤ 24) : sec4 (pad (mark e q) p) = e := by
  unfold sec4
  rw [(pad_mark _ _ (length_mark e q) hp).1]
  unfold mark
  rw [List.take_left' (length_be 4 e)]
  exact val_be 4 e (by omega)

theorem take_take_le (l : Bytes) {a b : Nat} (h : a ≤ b) : (l.take b).take a = l.take a := by rw [List.take_take, Nat.min_eq_left h]
theorem drop_take4 (l : Bytes) : (l.drop 24).take 4 = ((l.take 32).drop 24).take 4 := by
  rw [List.drop_take, List.take_take]; simp
theorem drop_take4' (l : Bytes) : (l.drop 28).take 4 = (((l.take 32).drop 24).drop 4).take 4 := by
  rw [List.drop_drop, List.drop_take, List.take_take]; simp
theorem take_2 (l : Bytes) : l.take 2 = ((l.take 32).take 24).take 2 := by rw [List.take_take, List.take_take]; simp

/-- the heads of a record are its matter, and zeros -/
theorem heads_pads (M mt r : Bytes) (hM : M.length = 8) (K : Nat) (hK : mt.length ≤ 24 * K) :
    heads (((List.range K).map fun x => pad M (pc 24 mt x)).flatten ++ r) (List.range K) = mt ++ List.replicate (24 * K - mt.length) 0 := by
  have h1 : heads (((List.range K).map fun x => pad M (pc 24 mt x)).flatten ++ r) (List.range K) = ((List.range K).map fun x => pc 24 mt x ++ List.replicate (24 - (pc 24 mt x).length) 0).flatten := by
    unfold heads
    congr 1
    apply List.map_congr_left
    intro x hx
    rw [pc_flatten 32 (by omega) _ _ (fun x _ => length_pad _ _ hM (length_pc_le _ _ _)) r x (List.mem_range.1 hx)]
    exact (pad_mark _ _ hM (length_pc_le _ _ _)).2
  rw [h1]
  clear h1
  have h2 : ∀ n, n ≤ K → ((List.range n).map fun x => pc 24 mt x ++ List.replicate (24 - (pc 24 mt x).length) 0).flatten = mt.take (24 * n) ++ List.replicate (24 * n - mt.length) 0 := by
    intro n
    induction n with
    | zero => intro _; simp
    | succ n ih =>
      intro hn
      rw [List.range_succ, List.map_append, List.flatten_append, ih (by omega)]
      simp only [List.map_cons, List.map_nil, List.flatten_cons, List.flatten_nil, List.append_nil]
      by_cases h : mt.length ≤ 24 * n
      · have hp : pc 24 mt n = [] := by unfold pc; rw [List.drop_of_length_le h]; rfl
        rw [hp, List.take_of_length_le h, List.take_of_length_le (by omega), List.nil_append, List.append_assoc, List.replicate_append_replicate]
        congr 2
        simp; omega
      · have hz : 24 * n - mt.length = 0 := by omega
        rw [hz, List.replicate_zero, List.append_nil]
        unfold pc
        rw [show 24 * (n + 1) = 24 * n + 24 by omega, List.take_add, List.append_assoc]
        congr 2
        rw [List.length_take, List.length_drop]
        congr 1
        omega
  rw [h2 K (Nat.le_refl _), List.take_of_length_le hK]

theorem matter_parts (e q : Nat) (b : Bytes) : (matter e q b).take 2 = be 2 b.length ∧ ∀ r, ((matter e q b ++ r).drop 2).take b.length = b := by
  unfold matter
  constructor
  · rw [List.append_assoc, List.take_left' (length_be 2 _)]
  · intro r
    rw [List.append_assoc, List.append_assoc, List.drop_left' (length_be 2 _)]
    exact List.take_left' rfl

theorem lift_lay (e q : Nat) (b r : Bytes) (he : e < 4294967296) (hq : q < 4294967296) (hb : b.length ≤ 65535) : lift (lay e q b ++ r) = some (e, q, b, cnt b.length) := by
  have hpos := cnt_pos b.length
  have hll := length_lay e q b
  have hfirst := lay_pc e q b r 0 hpos
  rw [pc_zero] at hfirst
  have hp := pad_mark (mark e q) (pc 24 (matter e q b) 0) (length_mark e q) (length_pc_le _ _ _)
  have hm := mark_first e q he hq
  have h24 : val (((lay e q b ++ r).drop 24).take 4) = e := by rw [drop_take4, hfirst, hp.1]; exact hm.1
  have h28 : val (((lay e q b ++ r).drop 28).take 4) = q := by rw [drop_take4', hfirst, hp.1]; exact hm.2
  have hmt := matter_parts e q b
  have hml := length_matter e q b
  have h2 : val ((lay e q b ++ r).take 2) = b.length := by
    rw [take_2, hfirst, hp.2, pc_zero]
    have : ((matter e q b).take 24 ++ List.replicate (24 - ((matter e q b).take 24).length) (0 : UInt8)).take 2 = be 2 b.length := by
      rw [List.take_append_of_le_length (by rw [List.length_take]; omega), take_take_le _ (by omega), hmt.1]
    rw [this]
    exact val_be 2 _ (by omega)
  have hlen : (lay e q b ++ r).length = 32 * cnt b.length + r.length := by rw [List.length_append, hll]
  have htk : (lay e q b ++ r).take (32 * cnt b.length) = lay e q b := List.take_left' hll
  have := lift_eq (lay e q b ++ r) (by omega) (by rw [h2]; omega)
  rw [h2, h24, h28, htk] at this
  have hh : heads (lay e q b) (List.range (cnt b.length)) = matter e q b ++ List.replicate (24 * cnt b.length - (matter e q b).length) 0 := by
    have := heads_pads (mark e q) (matter e q b) [] (length_mark e q) (cnt b.length) (by rw [hml]; unfold cnt; omega)
    rw [List.append_nil, ← lay_eq] at this
    exact this
  rw [hh, hmt.2, if_pos rfl] at this
  exact this
/-- what is lifted was laid -/
theorem lift_some {s : Bytes} {e q : Nat} {b : Bytes} {n : Nat} (h : lift s = some (e, q, b, n)) : s.take (32 * n) = lay e q b ∧ n = cnt b.length ∧ e = val ((s.drop 24).take 4) ∧ q = val ((s.drop 28).take 4) := by
  by_cases h1 : s.length < 32
  · rw [lift_none1 s h1] at h; cases h
  · by_cases h2 : s.length < 32 * cnt (val (s.take 2))
    · rw [lift_none2 s (by omega) h2] at h; cases h
    · rw [lift_eq s (by omega) (by omega)] at h
      split at h
      · rename_i heq
        simp only [Option.some.injEq, Prod.mk.injEq] at h
        obtain ⟨rfl, rfl, rfl, rfl⟩ := h
        refine ⟨heq.symm, ?_, rfl, rfl⟩
        have h5 := congrArg List.length heq
        have h6 : (s.take (32 * cnt (val (s.take 2)))).length = 32 * cnt (val (s.take 2)) := by rw [List.length_take]; omega
        rw [length_lay, h6] at h5
        omega
      · cases h
theorem zero_lay : lay 0 0 [] ≠ List.replicate 32 0 := by decide +kernel
theorem lift_zeros (r : Bytes) : lift (List.replicate 32 0 ++ r) = none := by
  cases h : lift (List.replicate 32 0 ++ r) with
  | none => rfl
  | some t =>
    obtain ⟨e, q, b, n⟩ := t
    exfalso
    obtain ⟨h1, h2, h3, h4⟩ := lift_some h
    have hd : (List.replicate 32 (0 : UInt8) ++ r).drop 24 = List.replicate 8 0 ++ r := by rw [List.drop_append_of_le_length (by simp)]; simp
    have hd' : (List.replicate 32 (0 : UInt8) ++ r).drop 28 = List.replicate 4 0 ++ r := by rw [List.drop_append_of_le_length (by simp)]; simp
    rw [hd, List.take_append_of_le_length (by simp)] at h3
    rw [hd', List.take_left' (by simp)] at h4
    have he : e = 0 := by rw [h3]; decide
    have hq : q = 0 := by rw [h4]; decide
    subst he; subst hq
    have hb : b = [] := by
      have hpos := cnt_pos b.length
      have hf := lay_pc 0 0 b [] 0 hpos
      rw [List.append_nil, ← h1, pc_zero, take_take_le _ (by omega), List.take_left' (by simp)] at hf
      have hp := pad_mark (mark 0 0) (pc 24 (matter 0 0 b) 0) (length_mark 0 0) (length_pc_le _ _ _)
      have h5 : ((List.replicate 32 (0 : UInt8)).take 24).take 2 = (pc 24 (matter 0 0 b) 0 ++ List.replicate (24 - (pc 24 (matter 0 0 b) 0).length) 0).take 2 := by rw [← hp.2, ← hf]
      rw [pc_zero, List.take_append_of_le_length (by rw [List.length_take, length_matter]; omega), take_take_le (matter 0 0 b) (show 2 ≤ 24 by omega), (matter_parts 0 0 b).1] at h5
      have hbl : b.length ≤ 65535 := (lift_bounds h).2.2.1
      have h6 := val_be 2 b.length (by omega)
      rw [← h5] at h6
      exact List.eq_nil_of_length_eq_zero (h6.symm.trans (by decide))
    subst hb
    have hn : n = 1 := by rw [h2]; rfl
    subst hn
    rw [List.take_left' (by simp)] at h1
    exact zero_lay h1.symm
end Gd
