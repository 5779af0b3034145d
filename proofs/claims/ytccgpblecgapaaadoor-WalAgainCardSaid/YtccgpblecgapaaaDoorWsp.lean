/- The journal as plain functions: what wal.Format, Open, Checkpoint, Append and Commit do to a disk and a journal. No program in sight. -/
import Derived.Test.YtccgpblecgapaaaDoorLift
set_option linter.unusedSimpArgs false
set_option linter.unusedVariables false
namespace Gd

def sec4 (b : Bytes) : Nat := val ((b.drop 24).take 4)
/-- the top epoch of the sectors of these bytes -/
def topB (b : Bytes) (k : Nat) : Nat := ((List.range k).map fun x => sec4 (pc 32 b x)).foldl max 0
def Dk.top (d : Dk) (k : Nat) : Nat := topB (d.read 0 k) k
/-- bytes, from a sector on -/
def Dk.put (d : Dk) (a : Nat) (b : Bytes) : Dk × Int := d.lays a ((List.range (b.length / 32)).map (pc 32 b))
/-- may a state be a checkpoint's: 0, or the error's number -/
def fits (slot e : Nat) (b : Bytes) : Int := if 65535 < b.length ∨ 4294967295 < e then 2 else if slot < cnt b.length then 5 else 0
def Dk.format (d : Dk) (slot : Nat) (b : Bytes) : Dk × Int :=
  if fits slot 1 b = 0 then
    match d.put 0 (lay 1 0 b) with
    | (d', e) => if e = 0 then d'.flush else (d', e)
  else (d, fits slot 1 b)
/-- the places' records -/
def Dk.place (d : Dk) (slot n : Nat) : Option (Nat × Nat × Bytes × Nat) := lift (d.read (n * slot) ((n + 1) * slot))
structure Best where
  epoch : Int
  seq : Nat
  at_ : Nat
  state : Bytes
def Best.step (x : Best) (n : Nat) : Option (Nat × Nat × Bytes × Nat) → Best
  | some (e, q, b, _) => if x.epoch < e then ⟨e, q, n, b⟩ else x
  | none => x
def Best.start : Best := ⟨-1, 0, 0, []⟩
def Dk.best (d : Dk) (slot : Nat) : Best := (Best.start.step 0 (d.place slot 0)).step 1 (d.place slot 1)
/-- the records behind a checkpoint: the list, the last seq, the sectors used -/
def follow (ep : Nat) : Nat → Nat → Nat → Bytes → List Bytes × Nat × Nat
  | 0, q, u, _ => ([], q, u)
  | k + 1, q, u, r => match lift r with
    | some (e, q', b, n) => if e = ep ∧ q' = q + 1 then
        match follow ep k q' (u + n) (r.drop (32 * n)) with
        | (l, q2, u2) => (b :: l, q2, u2)
      else ([], q, u)
    | none => ([], q, u)
def Dk.opened (d : Dk) (slot log : Nat) : Option (Jn × Bytes × List Bytes) :=
  if (d.best slot).epoch < 0 then none else
  match follow (d.best slot).epoch.toNat (log + 1) (d.best slot).seq 0 (d.read (2 * slot) (2 * slot + log)) with
  | (l, q, u) => some (⟨slot, log, (d.best slot).epoch.toNat, q, (d.best slot).at_, u, false, false⟩, (d.best slot).state, l)
def Jn.checkpoint (j : Jn) (d : Dk) (b : Bytes) : Dk × Jn × Int :=
  if j.refused then (d, j, 10) else
  if fits j.slot (d.top (2 * j.slot + j.log) + 1) b ≠ 0 then (d, j, fits j.slot (d.top (2 * j.slot + j.log) + 1) b) else
  match d.put ((1 - j.at_) * j.slot) (lay (d.top (2 * j.slot + j.log) + 1) j.seq b) with
  | (d1, e) => if e ≠ 0 then (d1, { j with refused := true }, e) else
    match d1.flush with
    | (d2, e) => if e ≠ 0 then (d2, { j with refused := true }, e) else
      (d2, { j with epoch := d.top (2 * j.slot + j.log) + 1, at_ := 1 - j.at_, used := 0, fresh := true, refused := false }, 0)
def Jn.append (j : Jn) (d : Dk) (b : Bytes) : Dk × Jn × Int :=
  if j.refused then (d, j, 10) else if !j.fresh then (d, j, 9) else
  if 65535 < b.length ∨ j.seq = 4294967295 then (d, j, 2) else
  if j.log < j.used + cnt b.length then (d, j, 5) else
  match d.put (2 * j.slot + j.used) (lay j.epoch (j.seq + 1) b) with
  | (d1, e) => if e ≠ 0 then (d1, { j with refused := true }, e) else
    (d1, { j with seq := j.seq + 1, used := j.used + cnt b.length, refused := false }, 0)
def Jn.commit (j : Jn) (d : Dk) : Dk × Jn × Int :=
  if j.refused then (d, j, 10) else if !j.fresh then (d, j, 9) else
  match d.flush with
  | (d1, e) => (d1, { j with refused := decide (e ≠ 0) }, e)
end Gd
