/-
  What is proved: the other calls on a law's own disk, and the slice of bytes that the law itself grows; no condition but sizes.
-/
import Derived.Test.YthjdgiobchiloaaAl7
import Derived.Test.YthjdgiobchiloaaSame
namespace Go.Proofs.Ythjdgiobchiloaa
open Go.RowKit Go.Proofs.YthjdgiobchiloaaW.PrintWords Go.Maps
set_option linter.unusedVariables false
set_option linter.unusedSimpArgs false
section
variable {w0 w : World} {d : Nat} {m : AS} {N : Nat → Prop}
theorem ls_fail (h : LS w0 d m N w) (n : Int) (hn : n ≤ 9223372036854775807) :
    Calls Try.prog 15 #[.pointer (some ⟨d, 0, none⟩), .int .i64 n] w fun e w' => e = .returned (.tuple #[]) ∧ LS w0 d (Vm.fail m n) N w' := by
  refine (fail_disk h.disk n hn).mono ?_
  rintro e w' ⟨rfl, ht⟩
  exact ⟨rfl, h.to ht⟩
theorem ls_rename (h : LS w0 d m N w) (a z : ByteArray) {m' : AS} {r : Int} (hr : Vm.rename m a z = (m', r)) (ha : a.size ≤ maxLen) (hz : z.size ≤ maxLen) (hn : m.fl.length < maxLen) :
    Calls Try.prog 24 #[.pointer (some ⟨d, 0, none⟩), .string a, .string z] w fun e w' => e = .returned (.int .i64 r) ∧ LS w0 d m' N w' := by
  refine (rename_disk h.disk ha hz hn).mono ?_
  rw [hr]
  rintro e w' ⟨rfl, ht⟩
  exact ⟨rfl, h.to ht⟩
theorem ls_cut (h : LS w0 d m N w) (nm : ByteArray) (n : Int) {m' : AS} {r : Int} (hr : Vm.cut m nm n = (m', r)) (hs : nm.size ≤ maxLen) :
    Calls Try.prog 61 #[.pointer (some ⟨d, 0, none⟩), .string nm, .int .i64 n] w fun e w' => e = .returned (.int .i64 r) ∧ LS w0 d m' N w' := by
  refine (cut_disk h.disk hs n).mono ?_
  rw [hr]
  rintro e w' ⟨rfl, ht⟩
  exact ⟨rfl, h.to ht⟩
theorem ls_remove (h : LS w0 d m N w) (nm : ByteArray) {m' : AS} {r : Int} (hr : Vm.remove m nm = (m', r)) (hs : nm.size ≤ maxLen) :
    Calls Try.prog 21 #[.pointer (some ⟨d, 0, none⟩), .string nm] w fun e w' => e = .returned (.int .i64 r) ∧ LS w0 d m' N w' := by
  refine (remove_disk h.disk hs).mono ?_
  rw [hr]
  rintro e w' ⟨rfl, ht⟩
  exact ⟨rfl, h.to ht⟩
theorem ls_down (h : LS w0 d m N w) {b : Bool} (hb : m.down = b) : Calls Try.prog 22 #[.pointer (some ⟨d, 0, none⟩)] w fun e w' => e = .returned (.bool b) ∧ w = w' := by
  refine (down_disk h.disk).mono ?_
  rw [hb]
  exact fun _ _ h => h
theorem ls_names (h : LS w0 d m N w) (hn : m.fl.length * 16 ≤ 140737488355328) : Calls Try.prog 23 #[.pointer (some ⟨d, 0, none⟩)] w fun e w' => ∃ v, e = .returned v ∧ NamesD w m.fl v w' := names_disk h.disk hn
/-- Another call that returns and leaves what was there. -/
theorem LS.other {w' : World} (h : LS w0 d m N w) (hb : Below w.heap.size w w') : LS w0 d m N w' := h.below hb

/-- The blocks of a row of the law's own. -/
def Rown (A : Option Addr) (n c : Nat) (k : Nat) : Prop := (Value.slice A n c).ownBlock = some k
/-- The law's own row beside its disk. -/
structure LR (w0 : World) (d : Nat) (m : AS) (xs : List Int) (A : Option Addr) (c : Nat) (w : World) : Prop where
  ls : LS w0 d m (Rown A xs.length c) w
  row : w.ownsRow w0.heap.size 5 1 (.slice A xs.length c) xs.length (nums .u8 xs)
theorem LR.ls' {w' : World} {xs : List Int} {A : Option Addr} {c : Nat} {m' : AS} (h : LR w0 d m xs A c w) (ht : DTo w w0.heap.size d m' (Rown A xs.length c) w') : LR w0 d m' xs A c w' :=
  ⟨h.ls.to ht, ht.2.own h.row (fun k hk hn => hn.2 hk)⟩
theorem LR.below {w' : World} {xs : List Int} {A : Option Addr} {c : Nat} (h : LR w0 d m xs A c w) (hb : Below w.heap.size w w') : LR w0 d m xs A c w' :=
  ⟨h.ls.below hb, (Keeps.of_below hb (fun _ => False)).own h.row (fun _ _ h => h)⟩
/-- The row grows. -/
theorem LR.grow {w' : World} {xs ys : List Int} {A A' : Option Addr} {c c' : Nat} (h : LR w0 d m xs A c w) (hr : w'.ownsRow w0.heap.size 5 1 (.slice A' ys.length c') ys.length (nums .u8 ys))
    (hk : Keeps (fun k => (Value.slice A xs.length c).ownBlock = some k) w w') (ho : ∀ b, (Value.slice A' ys.length c').ownBlock = some b → (Value.slice A xs.length c).ownBlock = some b ∨ w.heap.size ≤ b) : LR w0 d m ys A' c' w' :=
  ⟨⟨h.ls.disk.keep hk (fun _ hb => hb) (fun b hb => ho b hb) (fun b hb => own_lt hr b hb), h.ls.old.trans (hk.below (fun k hk => own_base h.row k hk) h.ls.disk.size)⟩, hr⟩
end
end Go.Proofs.Ythjdgiobchiloaa
