/-
  What is proved: small laws on worlds that keep all but some blocks; no condition.
-/
import Derived.Test.YthjdgiobchiloaaWMore
import Derived.Maps.OwnSet
import Derived.Maps.Range
namespace Go.Proofs.Ythjdgiobchiloaa
open Go.RowKit Go.Proofs.YthjdgiobchiloaaW.PrintWords
set_option linter.unusedVariables false
set_option linter.unusedSimpArgs false

/-- All but the blocks of S (and what is new) is as it was. -/
structure Keeps (S : Nat → Prop) (w w' : World) : Prop where
  os : w'.os = w.os
  tape : w'.tape = w.tape
  output : w'.output = w.output
  size : w.heap.size ≤ w'.heap.size
  block : ∀ k, k < w.heap.size → ¬ S k → w'.heap[k]? = w.heap[k]?

theorem Keeps.refl (S : Nat → Prop) (w : World) : Keeps S w w := ⟨rfl, rfl, rfl, Nat.le_refl _, fun _ _ _ => rfl⟩
theorem Keeps.then_ {S S1 S2 : Nat → Prop} {a b c : World} (h : Keeps S1 a b) (k : Keeps S2 b c) (h1 : ∀ k, S1 k → S k ∨ a.heap.size ≤ k) (h2 : ∀ k, S2 k → S k ∨ a.heap.size ≤ k) : Keeps S a c :=
  ⟨k.os.trans h.os, k.tape.trans h.tape, k.output.trans h.output, Nat.le_trans h.size k.size, fun i hi hn =>
    (k.block i (Nat.lt_of_lt_of_le hi h.size) (fun h3 => (h2 i h3).elim hn (fun h4 => by omega))).trans (h.block i hi (fun h3 => (h1 i h3).elim hn (fun h4 => by omega)))⟩
theorem Keeps.trans {S : Nat → Prop} {a b c : World} (h : Keeps S a b) (k : Keeps S b c) : Keeps S a c := h.then_ k (fun _ h => .inl h) (fun _ h => .inl h)
theorem Keeps.mono {S S' : Nat → Prop} {a b : World} (h : Keeps S a b) (hs : ∀ k, S k → S' k) : Keeps S' a b :=
  ⟨h.os, h.tape, h.output, h.size, fun i hi hn => h.block i hi (fun h3 => hn (hs i h3))⟩
theorem Keeps.of_below {w w' : World} (h : Below w.heap.size w w') (S : Nat → Prop) : Keeps S w w' := ⟨h.os, h.tape, h.output, h.size, fun i hi _ => h.block i hi⟩
theorem Keeps.below {w w' : World} {S : Nat → Prop} (h : Keeps S w w') {B : Nat} (hS : ∀ k, S k → B ≤ k) (hB : B ≤ w.heap.size) : Below B w w' :=
  ⟨h.os, h.tape, h.output, h.size, fun i hi => h.block i (by omega) (fun h3 => by have := hS i h3; omega)⟩
theorem Keeps.of_grown {w w' : World} {row : Option Nat} (h : w.grownBy w' row) : Keeps (fun k => some k = row) w w' := ⟨h.os, h.tape, h.output, h.size, fun i hi hn => h.block i hi hn⟩
theorem Keeps.alloc (S : Nat → Prop) (w : World) (o : Obj) : Keeps S w (w.alloc o) := .of_below (below_alloc (Below.refl _ _) o) S
theorem Keeps.drewN (S : Nat → Prop) (w : World) (n : Nat) : Keeps S w (w.drewN n) := ⟨rfl, rfl, rfl, Nat.le_refl _, fun _ _ _ => rfl⟩
theorem Keeps.drew (S : Nat → Prop) (w : World) : Keeps S w w.drew := ⟨rfl, rfl, rfl, Nat.le_refl _, fun _ _ _ => rfl⟩
theorem Keeps.setCell (w : World) (p : Addr) (u : Value) : Keeps (fun k => k = p.block) w (w.setCell p u) :=
  ⟨rfl, rfl, rfl, by simp [World.setCell], fun i _ hn => Below.heap_setCell w p u i hn⟩
theorem Keeps.set (w : World) (d j : Nat) (u : Value) : Keeps (fun k => k = d) w (w.setCell ⟨d, j, none⟩ u) := Keeps.setCell w ⟨d, j, none⟩ u
theorem ret_b {a b : Bool} (h : a = b) : Ending.returned (.bool a) = .returned (.bool b) := by rw [h]
theorem ret_i {k : IntKind} {a b : Int} (h : a = b) : Ending.returned (.int k a) = .returned (.int k b) := by rw [h]
theorem Keeps.cell {S : Nat → Prop} {w w' : World} (h : Keeps S w w') {p : Addr} {v : Value} (hn : ¬ S p.block) (hc : w.cell? p = some v) : w'.cell? p = some v :=
  (World.cell?_of_block (w := w) (h.block p.block (World.block_lt_of_cell? w p hc) hn)).trans hc
theorem Keeps.kept {S : Nat → Prop} {w w' : World} (h : Keeps S w w') : Kept w w' S := ⟨h.size, h.block⟩
theorem Keeps.blk {S : Nat → Prop} {w w' : World} (h : Keeps S w w') {g : Nat} {o : Obj} (hb : w.heap[g]? = some o) (hn : ¬ S g) : w'.heap[g]? = some o := (h.block g (blk_lt hb) hn).trans hb

/-- An owned row and a map stay where their block stays. -/
theorem Keeps.own {S : Nat → Prop} {w w' : World} (h : Keeps S w w') {base n size : Nat} {e : TypeId} {v : Value} {xs : List Value} (ho : w.ownsRow base e size v n xs) (hn : ∀ k, v.ownBlock = some k → ¬ S k) : w'.ownsRow base e size v n xs :=
  own_move ho (fun k hk => h.block k (own_lt ho k hk) (hn k hk))
theorem Keeps.owm {S : Nat → Prop} {w w' : World} (h : Keeps S w w') {H : Type} {P : Program} {k : TypeId} {R : Value → Option (DataW H × List MemPlace)} {b n : Nat} {D : DataW H} (ho : w.ownsMap P k R b n D) (hn : ¬ S b) : w'.ownsMap P k R b n D := by
  have hlt := ho.lt
  obtain ⟨es, clock, hb, F, hs, hD⟩ := ho
  exact ⟨es, clock, (h.block b hlt hn).trans hb, F, hs, hD⟩

end Go.Proofs.Ythjdgiobchiloaa
