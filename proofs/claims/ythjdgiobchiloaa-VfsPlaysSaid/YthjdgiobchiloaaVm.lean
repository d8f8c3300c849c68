/-
  What is proved: a disk as a plain list of files (the model that the walks come to); no Go, no memory, no condition.
-/
import GoSem.ClaimWide
namespace Go.Proofs.Ythjdgiobchiloaa
set_option linter.unusedVariables false
set_option linter.unusedSimpArgs false

/-- A file of the model. -/
structure AF where
  nm : ByteArray
  bs : List Int
  safe : Nat
/-- A disk of the model. -/
structure AS where
  fl : List AF
  most : Int
  fuse : Int
  down : Bool

namespace Vm
def same (a b : ByteArray) : Bool := a.data.toList == b.data.toList
def find (fl : List AF) (nm : ByteArray) : Option AF := fl.find? (fun f => same f.nm nm)
def ins (f : AF) : List AF → List AF
  | [] => [f]
  | g :: r => if bytesBefore f.nm.data.toList g.nm.data.toList then f :: g :: r else g :: ins f r
def rm (fl : List AF) (nm : ByteArray) : List AF := fl.filter (fun f => !(same f.nm nm))
def upd (fl : List AF) (nm : ByteArray) (g : AF → AF) : List AF := fl.map (fun f => if same f.nm nm then g f else f)
def used : List AF → Nat
  | [] => 0
  | f :: r => f.bs.length + used r
def named (s : ByteArray) : Bool := decide (1 ≤ s.size ∧ s.size ≤ 40)
/-- A step: the disk behind it, the error's number. -/
def step (m : AS) (g : List AF → List AF) : AS × Int :=
  if m.fuse = 1 then ({ m with fuse := 0, down := true }, 70)
  else ({ m with fuse := if 0 < m.fuse then m.fuse - 1 else m.fuse, fl := g m.fl }, 0)
def create (m : AS) (nm : ByteArray) : AS × Int :=
  if m.down then (m, 70) else if !named nm then (m, 1) else if (find m.fl nm).isSome then (m, 5)
  else step m fun fl => ins ⟨nm, [], 0⟩ (rm fl nm)
def append (m : AS) (nm : ByteArray) (b : List Int) : AS × Int :=
  if m.down then (m, 70) else if (find m.fl nm).isNone then (m, 4) else if m.most - used m.fl < b.length then (m, 71)
  else step m fun fl => upd fl nm fun f => { f with bs := f.bs ++ b }
def sync (m : AS) (nm : ByteArray) : AS × Int :=
  if m.down then (m, 70) else if (find m.fl nm).isNone then (m, 4)
  else step m fun fl => upd fl nm fun f => { f with safe := f.bs.length }
def rename (m : AS) (a z : ByteArray) : AS × Int :=
  if m.down then (m, 70) else if !named z then (m, 1) else
  match find m.fl a with
  | none => (m, 4)
  | some f => step m fun fl => if same a z then fl else ins { f with nm := z } (rm (rm (rm fl z) a) z)
def cut (m : AS) (nm : ByteArray) (n : Int) : AS × Int :=
  if m.down then (m, 70) else
  match find m.fl nm with
  | none => (m, 4)
  | some f => if n < 0 ∨ (f.bs.length : Int) < n then (m, 1)
    else step m fun fl => upd fl nm fun f => { f with bs := f.bs.take n.toNat, safe := min f.safe n.toNat }
def remove (m : AS) (nm : ByteArray) : AS × Int :=
  if m.down then (m, 70) else if (find m.fl nm).isNone then (m, 4)
  else step m fun fl => rm fl nm
def read (m : AS) (nm : ByteArray) : List Int × Int :=
  if m.down then ([], 70) else match find m.fl nm with | none => ([], 4) | some f => (f.bs, 0)
def fail (m : AS) (n : Int) : AS := { m with fuse := max n 0 }
/-- A loss of power, file by file. -/
def crashL : List AF → List Int → List AF
  | [], _ => []
  | f :: r, keep =>
    if f.bs.length = f.safe then f :: crashL r keep
    else
      let n := (min (max (keep.headD 0) 0) ((f.bs.length : Int) - f.safe)).toNat
      { f with bs := f.bs.take (f.safe + n), safe := f.safe + n } :: crashL r keep.tail
def crash (m : AS) (keep : List Int) : AS := { m with fuse := 0, down := false, fl := crashL m.fl keep }
end Vm
end Go.Proofs.Ythjdgiobchiloaa
