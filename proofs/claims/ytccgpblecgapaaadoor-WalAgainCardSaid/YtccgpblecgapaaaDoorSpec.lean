/- Plain functions on bytes and numbers: what the program's layers octet, crc, sheet, disk and wal compute. No program in sight. -/
namespace Gd

abbrev Bytes := List UInt8

/-! ### octet -/
def be (k n : Nat) : Bytes := (List.range k).map fun i => UInt8.ofNat (n / 256 ^ (k - 1 - i))
def val (b : Bytes) : Nat := b.foldl (fun n c => n * 256 + c.toNat) 0

theorem length_be (k n : Nat) : (be k n).length = k := by simp [be]

/-! ### crc -/
def crcBit (x : Nat) : Nat := (x / 2) ^^^ ((x % 2) * 3988292384)
def crcOne (x : Nat) (c : UInt8) : Nat := (List.range 8).foldl (fun y _ => crcBit y) (x ^^^ c.toNat)
def crcRaw (x : Nat) (b : Bytes) : Nat := b.foldl crcOne x
def crcMore (sum : Nat) (b : Bytes) : Nat := 4294967295 - crcRaw (4294967295 - sum) b
def crcOf (parts : List Bytes) : Nat := parts.foldl crcMore 0

/-! ### sheet -/
def cnt (n : Nat) : Nat := (n + 5) / 24 + 1
def mark (e q : Nat) : Bytes := be 4 e ++ be 4 q
def matter (e q : Nat) (b : Bytes) : Bytes :=
  (be 2 b.length ++ b) ++ be 4 (crcOf [mark e q, be 2 b.length ++ b])
def chunks (k : Nat) : Nat → Bytes → List Bytes
  | 0, _ => []
  | m + 1, l => if l = [] then [] else l.take k :: chunks k m (l.drop k)
def pad (m p : Bytes) : Bytes := p ++ List.replicate (24 - p.length) 0 ++ m
def lay (e q : Nat) (b : Bytes) : Bytes := ((chunks 24 (matter e q b).length (matter e q b)).map (pad (mark e q))).flatten
def lift (s : Bytes) : Option (Nat × Nat × Bytes × Nat) :=
  if s.length < 32 then none else
  let long := val (s.take 2)
  let e := val ((s.drop 24).take 4)
  let q := val ((s.drop 28).take 4)
  let n := cnt long
  if s.length < 32 * n then none else
  let mt := ((chunks 32 (32 * n) (s.take (32 * n))).map (·.take 24)).flatten
  let b := (mt.drop 2).take long
  if lay e q b = s.take (32 * n) then some (e, q, b, n) else none

/-! ### disk -/
/-- an int of 64 bits that wraps -/
def w64 (n : Int) : Int := (n + 9223372036854775808) % 18446744073709551616 - 9223372036854775808
structure Sec where
  bytes : Bytes
  num : Int
def Sec.zero : Sec := ⟨List.replicate 32 0, 0⟩
structure Dk where
  sure : List Sec
  pend : List (Nat × Sec)
  writes : Int
  fuse : Int
def Dk.new (n : Int) : Dk := ⟨List.replicate (min (max n 0) 4096).toNat Sec.zero, [], 0, -1⟩
def Dk.size (d : Dk) : Nat := d.sure.length
def Dk.is (d : Dk) (i : Nat) : Sec := (d.pend.lookup i).getD (d.sure.getD i Sec.zero)
def putPend (i : Nat) (s : Sec) : List (Nat × Sec) → List (Nat × Sec)
  | [] => [(i, s)]
  | (j, t) :: r => if j = i then (j, s) :: r else (j, t) :: putPend i s r
/-- the power goes: the new fuse, or none -/
def spend (f : Int) : Option Int := if f = -1 then some f else if f = 0 then none else some (f - 1)
def Dk.write (d : Dk) (i : Int) (b : Bytes) : Dk × Int :=
  if i < 0 ∨ (d.size : Int) ≤ i ∨ b.length ≠ 32 then (d, 1) else
  match spend d.fuse with
  | none => (d, 10)
  | some f => ({ d with writes := w64 (d.writes + 1), fuse := f, pend := putPend i.toNat ⟨b, w64 (d.writes + 1)⟩ d.pend }, 0)
def Dk.settle (d : Dk) (g : Nat → Sec → Sec → Sec) : List Sec :=
  d.sure.mapIdx fun i s => match d.pend.lookup i with | some t => g i s t | none => s
def Dk.flush (d : Dk) : Dk × Int :=
  match spend d.fuse with
  | none => (d, 10)
  | some f => ({ d with sure := d.settle (fun _ _ t => t), pend := [], fuse := f }, 0)
def keepBit (keep : Int) (n : Nat) : Bool := (keep / 2 ^ n) % 2 == 1
def survives (sure now : Sec) (number : Nat) (keep torn cut : Int) : Sec :=
  if (number : Int) = torn ∧ 32 ≤ cut then now
  else if (number : Int) = torn then ⟨now.bytes.take cut.toNat ++ sure.bytes.drop cut.toNat, sure.num⟩
  else if number < 62 ∧ keepBit keep number = true then now
  else sure
def Dk.rank (d : Dk) (i : Nat) : Nat := (d.pend.filter (fun p => p.1 < i)).length
def Dk.crash (d : Dk) (keep torn cut : Int) : Dk :=
  { d with sure := d.settle (fun i s t => survives s t (d.rank i) keep torn cut), pend := [], fuse := -1 }
def Dk.fuseTo (d : Dk) (n : Int) : Dk := { d with fuse := max n (-1) }

/-! ### wal -/
structure Lo where
  slot : Int
  log : Int
def Lo.may (l : Lo) (d : Dk) : Bool := decide (0 < min l.slot l.log ∧ max l.slot l.log ≤ d.size ∧ 2 * l.slot + l.log ≤ d.size)
def Dk.read (d : Dk) (from_ to : Nat) : Bytes := ((List.range (to - from_)).map fun i => (d.is (from_ + i)).bytes).flatten
def Dk.lays (d : Dk) (at_ : Nat) : List Bytes → Dk × Int
  | [] => (d, 0)
  | s :: r => match d.write at_ s with
    | (d', 0) => d'.lays (at_ + 1) r
    | (d', e) => (d', e)
structure Jn where
  slot : Nat
  log : Nat
  epoch : Nat
  seq : Nat
  at_ : Nat
  used : Nat
  fresh : Bool
  refused : Bool
end Gd
