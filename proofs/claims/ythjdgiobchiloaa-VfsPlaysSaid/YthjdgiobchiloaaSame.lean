/-
  What is proved: colloquyref01.SameBytes tells whether two rows of bytes are the same; no condition.
-/
import Derived.Test.YthjdgiobchiloaaFs11
import Derived.Deep.LoopGhost
namespace Go.Proofs.Ythjdgiobchiloaa
open Go.RowKit Go.Proofs.YthjdgiobchiloaaW.PrintWords Go.Maps
set_option linter.unusedVariables false
set_option linter.unusedSimpArgs false

theorem take_same {xs ys : List Int} {k : Nat} (h : xs.take k = ys.take k) (hx : k < xs.length) (hy : k < ys.length) (he : xs.getD k 0 = ys.getD k 0) : xs.take (k + 1) = ys.take (k + 1) := by
  rw [List.take_succ_eq_append_getElem hx, List.take_succ_eq_append_getElem hy, h]
  simp only [List.getD_eq_getElem?_getD, List.getElem?_eq_getElem hx, List.getElem?_eq_getElem hy, Option.getD_some] at he
  rw [he]

def SameRel (w : World) (xs ys : List Int) (m kq : Nat) (i : Value) (wr : World) : Prop := ∃ k : Nat, i = .int .i64 k ∧ k + kq = m ∧ xs.take k = ys.take k ∧ ∃ j, wr = w.drewN j

set_option maxHeartbeats 2000000 in
theorem sameBytes_calls (w : World) (A : Option Addr) (m c : Nat) (xs : List Int) (B : Option Addr) (n c' : Nat) (ys : List Int) (HX : (Kd.int .u8).C w A m xs) (HY : (Kd.int .u8).C w B n ys) :
    Calls Try.prog 20 #[.slice A m c, .slice B n c'] w fun e w' => e = .returned (.bool (decide (xs = ys))) ∧ Drawn0 w w' := by
  have hx := reads_of_C HX
  have hy := reads_of_C HY
  have ex := hx.1
  have ey := hy.1
  have m63 : m ≤ 9223372036854775807 := hx.2.1
  have n63 : n ≤ 9223372036854775807 := hy.2.1
  obtain ⟨r, hr⟩ : ∃ r, r = decide (xs = ys) := ⟨_, rfl⟩
  have HR := Aside0.mk hr
  rw [← hr]
  clear hr
  by_cases hmn : m = n
  · subst hmn
    have HXX := Aside0.mk hx
    have HYY := Aside0.mk hy
    have EX := Aside0.mk ex
    have EY := Aside0.mk ey
    clear hx hy HX HY ex ey
    go_enter Try.func20, Try.ntmps20
    go_wp2
    go_loopg [5] m (fun kq i wr => Aside0 (SameRel w xs ys m kq i wr))
    case atStart => exact ⟨0, rfl, by omega, rfl, 0, rfl⟩
    case round =>
      obtain ⟨⟨k, rfl, hk, ht, j, rfl⟩⟩ := hrel
      by_cases hlt : k < m
      · obtain ⟨ad, rfl, hc1⟩ := HXX.out.2.2 (by omega)
        obtain ⟨bd, rfl, hc2⟩ := HYY.out.2.2 (by omega)
        have h1 := hc1 k hlt
        have h2 := hc2 k hlt
        have hkm : (k : Int) < m := by omega
        clear hc1 hc2
        have hT := Aside0.mk ht
        clear ht
        by_cases he : xs.getD k 0 = ys.getD k 0
        · have hnx := Aside0.mk (take_same hT.out (by rw [EX.out]; exact hlt) (by rw [EY.out]; exact hlt) he)
          have hb : (xs.getD k 0 != ys.getD k 0) = false := bne_eq_false_iff_eq.2 he
          clear he hT
          generalize xs.getD k 0 = x at *
          generalize ys.getD k 0 = y at *
          go_wp2
          go_quiet (fail)
          go_wp2
          go_roundg (gk - 1)
          case measure => omega
          case rel => exact ⟨k + 1, rfl, by omega, hnx.out, _, rfl⟩
        · have hne : decide (xs = ys) = false := by
            rw [decide_eq_false_iff_not]
            rintro rfl
            exact he rfl
          have hb : (xs.getD k 0 != ys.getD k 0) = true := bne_iff_ne.2 he
          have hne := Aside0.mk (HR.out.trans hne)
          clear he hT
          generalize xs.getD k 0 = x at *
          generalize ys.getD k 0 = y at *
          go_wp2
          go_quiet (fail)
          go_wp2
          go_ret; exact ⟨ret_b hne.out.symm, ⟨by first | exact ⟨_, rfl⟩ | exact ⟨_, World.drewN_drewN ..⟩⟩⟩
      · have hkm : k = m := by omega
        subst hkm
        have hne : decide (xs = ys) = true := by
          rw [decide_eq_true_iff]
          have e1 : xs.take k = xs := List.take_of_length_le (by rw [EX.out]; exact Nat.le_refl _)
          have e2 : ys.take k = ys := List.take_of_length_le (by rw [EY.out]; exact Nat.le_refl _)
          rw [← e1, ← e2, ht]
        have hne := Aside0.mk (HR.out.trans hne)
        clear ht
        go_wp2
        go_ret; exact ⟨ret_b hne.out.symm, ⟨by first | exact ⟨_, rfl⟩ | exact ⟨_, World.drewN_drewN ..⟩⟩⟩
  · have hne : decide (xs = ys) = false := by
      rw [decide_eq_false_iff_not]
      rintro rfl
      omega
    have hne := Aside0.mk (HR.out.trans hne)
    have hb : ((m : Int) != n) = true := by rw [bne_iff_ne]; omega
    clear hx hy HX HY ex ey hmn
    go_enter Try.func20, Try.ntmps20
    go_wp2
    go_ret; exact ⟨ret_b hne.out.symm, ⟨0, rfl⟩⟩
end Go.Proofs.Ythjdgiobchiloaa
