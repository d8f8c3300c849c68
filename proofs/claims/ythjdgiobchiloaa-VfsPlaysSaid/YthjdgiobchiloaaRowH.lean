/-
  What is proved: how a slice of bytes, a slice of ints and a slice of slices of bytes, as arguments, read; no condition.
-/
import Derived.Test.YthjdgiobchiloaaWSized
import Derived.Test.YthjdgiobchiloaaMem
import Derived.Test.YthjdgiobchiloaaProg
import Derived.WalkKit
import Derived.ProofKit
import Derived.OpenShut
import Derived.ShutString
import Derived.ChangeOld
import Derived.Below
import Derived.SizedLaws
import Derived.Deep.Matrix
import Derived.KernelRfl
namespace Go.Proofs.Ythjdgiobchiloaa
open Go.RowKit Go.Proofs.YthjdgiobchiloaaW.PrintWords Go.ChangeShapes Go.WideShapes Go.ChangeAt Go.Deep
set_option linter.unusedVariables false
set_option linter.unusedSimpArgs false

/-- An argument that is a slice of whole numbers. -/
def IntsArg (k : IntKind) (w : World) (a : Option Addr) (len cap : Nat) (zs : List Int) : Prop :=
  (Kd.int k).C w a len zs ∧ zs.length = len ∧ len ≤ cap ∧ len ≤ maxLen ∧ ∀ n ∈ zs, (Lit.int k n).wf = true
theorem IntsArg.mk_ {H : Type} {enc : TypeId × Value → H} {P : Program} {w : World} {t e : TypeId} {k : IntKind} {a : Option Addr} {len cap : Nat} {d : DataW H} {ps : List MemPlace} {fuel : Nat}
    (ht : P.underlying t = some (.slice e)) (he : P.underlying e = some (.int k)) (ce : P.cellsOf e = 1) (hf : DataW.trod enc P w 0 (fun _ => true) true fuel t [.slice a len cap] = some (d, ps)) : ∃ zs, IntsArg k w a len cap zs := by
  have h0 : ∃ zs : List Int, (a = none ∧ len = 0 ∧ cap = 0 ∧ zs = []) ∨ ∃ x, a = some x ∧ len ≤ cap ∧ cap ≤ maxLen ∧ zs.length = cap ∧ (∀ i, i < zs.length → w.cell? (x.add i) = some (.int k (zs.getD i 0))) ∧ ∀ n ∈ zs, (Lit.int k n).wf = true := by
    rcases open_ints ht he ce hf with ⟨hcs, _⟩ | ⟨x, l, c, zs, hcs, _, hl, hm, hz, _, hcell, hwz⟩
    · simp at hcs
      obtain ⟨rfl, rfl, rfl⟩ := hcs
      exact ⟨[], .inl ⟨rfl, rfl, rfl, rfl⟩⟩
    · simp at hcs
      obtain ⟨rfl, rfl, rfl⟩ := hcs
      exact ⟨zs, .inr ⟨_, rfl, hl, hm, by simpa using hz, hcell, hwz⟩⟩
  obtain ⟨zs, h⟩ := h0
  obtain ⟨l, rfl, hr, hm, hw, hc⟩ := ReadsInt.ofRowC h
  exact ⟨l, Kd.C_of_reads (d := 0) hr, rfl, hc, hm, hw⟩

/-- An argument that is a slice of slices of bytes: row by row. -/
theorem rows_arg {H : Type} {enc : TypeId × Value → H} {P : Program} {w : World} {t e q : TypeId} {a : Option Addr} {len cap : Nat} {d : DataW H} {ps : List MemPlace} {fuel : Nat} {k : IntKind}
    (ht : P.underlying t = some (.slice e)) (he : P.underlying e = some (.slice q)) (hq : P.underlying q = some (.int k)) (ce : P.cellsOf e = 1) (cq : P.cellsOf q = 1)
    (hf : DataW.trod enc P w 0 (fun _ => true) true fuel t [.slice a len cap] = some (d, ps)) :
    ∃ (A : Nat → Option Addr) (L C : Nat → Nat) (Z : Nat → List Int), len ≤ maxLen ∧ ∀ r, r < len → ∃ ad, a = some ad ∧ w.cell? (ad.add r) = some (.slice (A r) (L r) (C r)) ∧ L r ≤ C r ∧ (Kd.int k).C w (A r) (L r) (Z r) := by
  rcases open_int_rows ht he hq ce cq hf with ⟨hcs, _⟩ | ⟨x, l, c, A, L, C, Z, hcs, _, hl, hm, _, hrow⟩
  · simp at hcs
    obtain ⟨rfl, rfl, rfl⟩ := hcs
    exact ⟨fun _ => none, fun _ => 0, fun _ => 0, fun _ => [], by decide, fun r hr => by omega⟩
  · simp at hcs
    obtain ⟨rfl, rfl, rfl⟩ := hcs
    refine ⟨A, L, C, fun r => (Z r).take (L r), by omega, fun r hr => ?_⟩
    obtain ⟨h1, h2, h3, h4, h5, h6, h7⟩ := hrow r (by omega)
    refine ⟨x, rfl, h1, h2, Kd.C_of_reads (d := 0) ⟨by rw [List.length_take]; omega, by unfold maxLen at h3; omega, fun h0 => ?_⟩⟩
    match hA : A r with
    | none => have := h6 hA; omega
    | some a' =>
      refine ⟨a', rfl, fun j hj => ?_⟩
      obtain ⟨_, hc⟩ := h7 a' hA
      rw [hc j (by omega), List.getD_eq_getElem?_getD, List.getD_eq_getElem?_getD, List.getElem?_take, if_pos hj]
theorem wf_i64 {n : Int} (h : (Lit.int .i64 n).wf = true) : -9223372036854775808 ≤ n ∧ n ≤ 9223372036854775807 := by
  simp [Lit.wf] at h
  exact h
end Go.Proofs.Ythjdgiobchiloaa
