/-
  What is proved: how a slice of operations, as an argument, reads; no condition.
-/
import Derived.Test.YthjdgiobchiloaaRowH
import Derived.Test.YthjdgiobchiloaaRm0
namespace Go.Proofs.Ythjdgiobchiloaa
open Go.RowKit Go.Proofs.YthjdgiobchiloaaW.PrintWords Go.ChangeShapes Go.WideShapes Go.ChangeAt Go.Deep
set_option linter.unusedVariables false
set_option linter.unusedSimpArgs false

theorem ints_cell {H : Type} {enc : TypeId × Value → H} {P : Program} {w : World} {t e : TypeId} {k : IntKind} {v : Value} {x : DataW H × List MemPlace} {fuel : Nat}
    (ht : P.underlying t = some (.slice e)) (he : P.underlying e = some (.int k)) (ce : P.cellsOf e = 1) (hf : DataW.trod enc P w 0 (fun _ => true) true fuel t [v] = some x) : ∃ a len cap zs, v = .slice a len cap ∧ IntsArg k w a len cap zs := by
  rcases open_ints ht he ce hf with ⟨hcs, _⟩ | ⟨a, l, c, zs, hcs, _⟩
  · injection hcs with hcs
    subst hcs
    obtain ⟨zs, h⟩ := IntsArg.mk_ ht he ce (show DataW.trod enc P w 0 (fun _ => true) true fuel t [.slice none 0 0] = some (x.1, x.2) from hf)
    exact ⟨_, _, _, zs, rfl, h⟩
  · injection hcs with hcs
    subst hcs
    obtain ⟨zs, h⟩ := IntsArg.mk_ ht he ce (show DataW.trod enc P w 0 (fun _ => true) true fuel t [.slice (some a) l c] = some (x.1, x.2) from hf)
    exact ⟨_, _, _, zs, rfl, h⟩
/-- Six. -/
theorem six {cs : List Value} (h : cs.length = 6) : ∃ c0 c1 c2 c3 c4 c5, cs = [c0, c1, c2, c3, c4, c5] := by
  match cs, h with
  | [c0, c1, c2, c3, c4, c5], _ => exact ⟨_, _, _, _, _, _, rfl⟩
set_option maxRecDepth 100000 in
/-- One operation: its six cells. -/
theorem op_cells {H : Type} {enc : TypeId × Value → H} {w : World} {cs : List Value} {x : DataW H × List MemPlace} {fuel : Nat} (h : DataW.trod enc Try.prog w 0 (fun _ => true) true fuel 45 cs = some x) :
    ∃ X : OpRow, cs = X.cells ∧ OpOk w X.o X.B X.cb X.K X.ck := by
  obtain ⟨xs, n, _, _, hl, hn, hf⟩ := DataW.trod_struct Try.underlying45 h
  have hl6 : cs.length = 6 := hl.trans (by kernel_rfl)
  obtain ⟨c0, c1, c2, c3, c4, c5, rfl⟩ := six hl6
  · clear hl hl6
    have each : ∀ (i : Nat) (f : Field) (fs : Array Field), fs[i]? = some f → xs.length = fs.size → ∃ y, xs[i]? = some y := by
      intro i f fs hi hs
      obtain ⟨hlt, _⟩ := Array.getElem?_eq_some_iff.1 hi
      exact ⟨_, List.getElem?_eq_getElem (by omega)⟩
    obtain ⟨y0, e0⟩ := each 0 _ _ rfl hn
    obtain ⟨y1, e1⟩ := each 1 _ _ rfl hn
    obtain ⟨y2, e2⟩ := each 2 _ _ rfl hn
    obtain ⟨y3, e3⟩ := each 3 _ _ rfl hn
    obtain ⟨y4, e4⟩ := each 4 _ _ rfl hn
    obtain ⟨y5, e5⟩ := each 5 _ _ rfl hn
    have g0 : DataW.trod enc Try.prog w 0 (fun _ => true) true n 3 (([c0, c1, c2, c3, c4, c5].drop 0).take (Try.prog.cellsOf 3)) = some y0 := (hf 0 _ rfl).trans e0
    have g1 : DataW.trod enc Try.prog w 0 (fun _ => true) true n 9 (([c0, c1, c2, c3, c4, c5].drop 1).take (Try.prog.cellsOf 9)) = some y1 := (hf 1 _ rfl).trans e1
    have g2 : DataW.trod enc Try.prog w 0 (fun _ => true) true n 9 (([c0, c1, c2, c3, c4, c5].drop 2).take (Try.prog.cellsOf 9)) = some y2 := (hf 2 _ rfl).trans e2
    have g3 : DataW.trod enc Try.prog w 0 (fun _ => true) true n 3 (([c0, c1, c2, c3, c4, c5].drop 3).take (Try.prog.cellsOf 3)) = some y3 := (hf 3 _ rfl).trans e3
    have g4 : DataW.trod enc Try.prog w 0 (fun _ => true) true n 28 (([c0, c1, c2, c3, c4, c5].drop 4).take (Try.prog.cellsOf 28)) = some y4 := (hf 4 _ rfl).trans e4
    have g5 : DataW.trod enc Try.prog w 0 (fun _ => true) true n 32 (([c0, c1, c2, c3, c4, c5].drop 5).take (Try.prog.cellsOf 32)) = some y5 := (hf 5 _ rfl).trans e5
    have s1 : Try.prog.cellsOf 3 = 1 := by kernel_rfl
    have s2 : Try.prog.cellsOf 9 = 1 := by kernel_rfl
    have s3 : Try.prog.cellsOf 28 = 1 := by kernel_rfl
    have s4 : Try.prog.cellsOf 32 = 1 := by kernel_rfl
    have s5 : Try.prog.cellsOf 5 = 1 := by kernel_rfl
    simp only [s1, s2, s3, s4, List.drop_zero, List.drop_succ_cons, List.take_succ_cons, List.take_zero] at g0 g1 g2 g3 g4 g5
    obtain ⟨k, h0, _⟩ := DataW.trod_int Try.underlying3 g0
    obtain ⟨a, h1, _, ha⟩ := DataW.trod_string Try.underlying9 g1
    obtain ⟨z, h2, _, hz⟩ := DataW.trod_string Try.underlying9 g2
    obtain ⟨nn, h3, _⟩ := DataW.trod_int Try.underlying3 g3
    obtain ⟨B, lb, cb, b, h4, hb⟩ := ints_cell Try.underlying28 Try.underlying5 s5 g4
    obtain ⟨K, lk, ck, kp, h5, hk⟩ := ints_cell Try.underlying32 Try.underlying3 s1 g5
    injection h0 with h0
    injection h1 with h1
    injection h2 with h2
    injection h3 with h3
    subst h0 h1 h2 h3 h4 h5
    obtain ⟨b1, rfl, b3, _⟩ := hb
    obtain ⟨k1, rfl, k3, _⟩ := hk
    exact ⟨⟨⟨k, a, z, nn, b, kp⟩, B, cb, K, ck⟩, rfl, ha, hz, b1, b3, k1, k3⟩
theorem ops_arg {H : Type} {enc : TypeId × Value → H} {w : World} {a : Option Addr} {len cap : Nat} {x : DataW H × List MemPlace} {fuel : Nat}
    (hf : DataW.trod enc Try.prog w 0 (fun _ => true) true fuel 43 [.slice a len cap] = some x) : len ≤ maxLen ∧ ∃ X : Nat → OpRow, OpsAt w a len X := by
  have c6 : Try.prog.cellsOf 45 = 6 := by kernel_rfl
  rcases open_slice Try.underlying43 hf with ⟨hcs, _⟩ | ⟨ad, l, c, m, n, D, Pl, hcs, _, hl, hm, hmm, _, he⟩
  · injection hcs with hcs
    injection hcs with h1 h2 h3
    subst h1 h2 h3
    exact ⟨by decide, fun _ => ⟨⟨0, ⟨#[]⟩, ⟨#[]⟩, 0, [], []⟩, none, 0, none, 0⟩, fun r hr => by omega⟩
  · injection hcs with hcs
    injection hcs with h1 h2 h3
    subst h1 h2 h3
    simp only [if_true] at hmm
    subst hmm
    refine ⟨by omega, ?_⟩
    have hX : ∀ r, r < len → ∃ X : OpRow, (∀ j v, X.cells[j]? = some v → w.cell? ((ad.add (r * 6)).add j) = some v) ∧ OpOk w X.o X.B X.cb X.K X.ck := by
      intro r hr
      obtain ⟨cs', h1, h2⟩ := he r (by omega)
      rw [c6] at h1
      obtain ⟨X, rfl, hok⟩ := op_cells h2
      refine ⟨X, fun j v hv => ?_, hok⟩
      obtain ⟨_, _, h3⟩ := World.cells?_some h1
      obtain ⟨hj, _⟩ := List.getElem?_eq_some_iff.1 hv
      rw [h3 j hj]
      exact hv
    have : ∀ r, ∃ X : OpRow, r < len → (∀ j v, X.cells[j]? = some v → w.cell? ((ad.add (r * 6)).add j) = some v) ∧ OpOk w X.o X.B X.cb X.K X.ck := by
      intro r
      by_cases hr : r < len
      · obtain ⟨X, h⟩ := hX r hr
        exact ⟨X, fun _ => h⟩
      · exact ⟨⟨⟨0, ⟨#[]⟩, ⟨#[]⟩, 0, [], []⟩, none, 0, none, 0⟩, fun h => absurd h hr⟩
    exact ⟨fun r => Classical.choose (this r), fun r hr => ⟨ad, rfl, Classical.choose_spec (this r) hr⟩⟩
end Go.Proofs.Ythjdgiobchiloaa
