/-
  What is proved: what vfs.named, find, step and the plain readers of a disk come to; of texts up to the model's length.
-/
import Derived.Test.YthjdgiobchiloaaFs0
import Derived.WalkKit
import Derived.WalkSpells
import Derived.WalkLawsBesides
import Derived.Deep.QuietTactic
import Derived.BigQuiet
namespace Go.Proofs.Ythjdgiobchiloaa
open Go.RowKit Go.Proofs.YthjdgiobchiloaaW.PrintWords Go.Maps
set_option linter.unusedVariables false
set_option linter.unusedSimpArgs false

def namedB (s : ByteArray) : Bool := decide (1 ≤ s.size ∧ s.size ≤ 40)

set_option maxHeartbeats 400000 in
theorem named_calls (s : ByteArray) (w : World) (hs : s.size ≤ maxLen) :
    Calls Try.prog 49 #[.string s] w fun e w' => e = .returned (.bool (namedB s)) ∧ w = w' := by
  unfold maxLen at hs
  by_cases h1 : 1 ≤ s.size
  · by_cases h2 : s.size ≤ 40
    · have e : namedB s = true := by simp [namedB]; omega
      rw [e]
      go_enter Try.func49, Try.ntmps49
      go_wp2
      go_ret; exact ⟨ret_b (by simp; omega), rfl⟩
    · have e : namedB s = false := by simp [namedB]; omega
      rw [e]
      go_enter Try.func49, Try.ntmps49
      go_wp2
      go_ret; exact ⟨ret_b (by simp; omega), rfl⟩
  · have e : namedB s = false := by simp [namedB]; omega
    rw [e]
    go_enter Try.func49, Try.ntmps49
    go_wp2
    go_ret; exact ⟨rfl, rfl⟩

section
variable {w : World} {base d : Nat} {s : FSm}

set_option maxHeartbeats 400000 in
theorem find_down (h : FSAt w base d s) (nm : ByteArray) (hd : s.down = true) :
    Calls Try.prog 52 #[.pointer (some ⟨d, 0, none⟩), .string nm] w fun e w' => e = .returned (.tuple #[.pointer none, .int .i64 70]) ∧ w = w' := by
  obtain ⟨c0, c1, c2, c3, c4⟩ := h.cell
  rw [hd] at c4
  clear c1 c2 c3 hd h
  go_enter Try.func52, Try.ntmps52
  go_wp2
  go_ret2; exact ⟨rfl, rfl⟩
set_option maxHeartbeats 400000 in
theorem find_none (h : FSAt w base d s) {nm : ByteArray} (hs : nm.size ≤ maxLen) (hd : s.down = false) (hf : findF s.fl nm = none) :
    Calls Try.prog 52 #[.pointer (some ⟨d, 0, none⟩), .string nm] w fun e w' => e = .returned (.tuple #[.pointer none, .int .i64 4]) ∧ w = w' := by
  obtain ⟨c0, c1, c2, c3, c4⟩ := h.cell
  have hl := look h.map hs
  rw [hd] at c4
  rw [hf] at hl
  unfold ptr at hl
  clear c1 c2 c3 hd h hf hs
  go_enter Try.func52, Try.ntmps52
  go_wp2
  go_ret2; exact ⟨rfl, rfl⟩
set_option maxHeartbeats 400000 in
theorem find_some (h : FSAt w base d s) {nm : ByteArray} {f : FileM} (hs : nm.size ≤ maxLen) (hd : s.down = false) (hf : findF s.fl nm = some f) :
    Calls Try.prog 52 #[.pointer (some ⟨d, 0, none⟩), .string nm] w fun e w' => e = .returned (.tuple #[.pointer (some ⟨f.fb, 0, none⟩), .int .i64 0]) ∧ w = w' := by
  obtain ⟨c0, c1, c2, c3, c4⟩ := h.cell
  have hl := look h.map hs
  rw [hd] at c4
  rw [hf] at hl
  unfold ptr at hl
  clear c1 c2 c3 hd h hf hs
  go_enter Try.func52, Try.ntmps52
  go_wp2
  go_ret2; exact ⟨rfl, rfl⟩

/-! ### step -/
theorem fuse_set (h : FSAt w base d s) {n : Int} (h0 : 0 ≤ n) (h1 : n ≤ 9223372036854775807) : FSAt (w.setCell ⟨d, 3, none⟩ (.int .i64 n)) base d { s with fuse := n } := by
  have k := Keeps.setCell w ⟨d, 3, none⟩ (.int .i64 n)
  refine ⟨?_, ?_, ?_, h.apart, h.baseD, h.baseM, h.most0, h.most1, h.room, h0, h1, h.names⟩
  · exact (blk_set h.blk 3 _).trans rfl
  · exact k.owm h.map h.mb_ne
  · intro f hf
    have hF := h.files f hf
    refine hF.step k ?_ ?_
    · exact blk_ne hF.1 h.blk (by decide)
    · intro b hb e
      obtain ⟨cells, hc⟩ := own_typed hF.2.2.1 b hb
      exact blk_ne hc h.blk (by decide) e
theorem down_set (h : FSAt w base d s) (x : Bool) : FSAt (w.setCell ⟨d, 4, none⟩ (.bool x)) base d { s with down := x } := by
  have k := Keeps.setCell w ⟨d, 4, none⟩ (.bool x)
  refine ⟨?_, ?_, ?_, h.apart, h.baseD, h.baseM, h.most0, h.most1, h.room, h.fuse0, h.fuse1, h.names⟩
  · exact (blk_set h.blk 4 _).trans rfl
  · exact k.owm h.map h.mb_ne
  · intro f hf
    have hF := h.files f hf
    refine hF.step k ?_ ?_
    · exact blk_ne hF.1 h.blk (by decide)
    · intro b hb e
      obtain ⟨cells, hc⟩ := own_typed hF.2.2.1 b hb
      exact blk_ne hc h.blk (by decide) e

set_option maxRecDepth 100000 in
set_option maxHeartbeats 1000000 in
theorem step_calls (h : FSAt w base d s) (k : Nat) (cap : Array Value) (R : Ending → World → Prop) (hk : ∀ w, (callFunc k cap).run Try.prog w = .ok (.enter k cap) w)
    (hdown : s.fuse = 1 → ∀ w', FSAt w' base d { s with fuse := 0, down := true } → Keeps (fun b => b = d) w w' → R (.returned (.int .i64 70)) w')
    (hgo : s.fuse ≠ 1 → ∀ w1, FSAt w1 base d { s with fuse := if 0 < s.fuse then s.fuse - 1 else s.fuse } → Keeps (fun b => b = d) w w1 → Calls Try.prog k cap w1 fun e w' => e = .returned (.tuple #[]) ∧ R (.returned (.int .i64 0)) w') :
    Calls Try.prog 50 #[.pointer (some ⟨d, 0, none⟩), .func (.func k) #[] cap] w R := by
  obtain ⟨c0, c1, c2, c3, c4⟩ := h.cell
  have f3 := blk_frozen h.blk 3
  have f4 := blk_frozen h.blk 4
  refine Calls.mono (R := fun e w' => Aside0 (R e w')) ?_ (fun _ _ h => h.out)
  by_cases h1 : s.fuse = 1
  · have hR := hdown h1 ((w.setCell ⟨d, 3, none⟩ (.int .i64 0)).setCell ⟨d, 4, none⟩ (.bool true)) (down_set (fuse_set h (by decide) (by decide)) true) ((Keeps.set _ _ _ _).trans (Keeps.set _ _ _ _))
    rw [h1] at c3
    clear hdown hgo h h1 c0 c1 c2
    have hR' := Aside0.mk hR
    clear hR
    go_enter Try.func50, Try.ntmps50
    go_wp2
    go_ret; exact hR'
  · by_cases h0 : 0 < s.fuse
    · have hG := hgo h1 (w.setCell ⟨d, 3, none⟩ (.int .i64 (s.fuse - 1))) (by rw [if_pos h0]; exact fuse_set h (by omega) (by have := h.fuse1; omega)) (Keeps.set _ _ _ _)
      have hG' := Aside0.mk hG
      have b1 := h.fuse1
      have e1 : (s.fuse - 1 == 0) = false := beq_eq_false_iff_ne.2 (by omega)
      clear hdown hgo h c0 c1 c2 hG
      generalize s.fuse = u at *
      go_enter Try.func50, Try.ntmps50
      go_wp2_with fail
      refine hG'.out.mono ?_
      rintro e w' ⟨rfl, hR⟩
      have hR' := Aside0.mk hR
      clear hR hG'
      go_wp2
      go_ret; exact hR'
    · have hG := hgo h1 w (by rw [if_neg h0]; exact h) (Keeps.refl _ _)
      have hG' := Aside0.mk hG
      rw [show s.fuse = 0 from by have := h.fuse0; omega] at c3
      clear hdown hgo c0 c1 c2 hG h h1 h0
      go_enter Try.func50, Try.ntmps50
      go_wp2_with fail
      refine hG'.out.mono ?_
      rintro e w' ⟨rfl, hR⟩
      have hR' := Aside0.mk hR
      clear hR hG'
      go_wp2
      go_ret; exact hR'

set_option maxHeartbeats 400000 in
theorem down_calls (h : FSAt w base d s) :
    Calls Try.prog 22 #[.pointer (some ⟨d, 0, none⟩)] w fun e w' => e = .returned (.bool s.down) ∧ w = w' := by
  obtain ⟨c0, c1, c2, c3, c4⟩ := h.cell
  clear c0 c1 c2 c3
  go_enter Try.func22, Try.ntmps22
  go_wp2
  go_ret; exact ⟨rfl, rfl⟩
set_option maxHeartbeats 400000 in
theorem room_calls (h : FSAt w base d s) :
    Calls Try.prog 25 #[.pointer (some ⟨d, 0, none⟩)] w fun e w' => e = .returned (.int .i64 (s.most - s.used)) ∧ ∃ n, w' = w.drewN n := by
  obtain ⟨c0, c1, c2, c3, c4⟩ := h.cell
  have b1 := h.most1
  have b0 := h.most0
  have b2 := h.room
  have b3 : 0 ≤ s.used := by unfold FSm.used; omega
  clear c0 c3 c4
  generalize s.used = u at *
  go_enter Try.func25, Try.ntmps25
  go_wp2
  go_quiet (fail)
  go_wp2
  go_ret; exact ⟨rfl, ⟨_, rfl⟩⟩
set_option maxHeartbeats 400000 in
theorem fail_calls (h : FSAt w base d s) (n : Int) (hn : n ≤ 9223372036854775807) :
    Calls Try.prog 15 #[.pointer (some ⟨d, 0, none⟩), .int .i64 n] w fun e w' => e = .returned (.tuple #[]) ∧ FSAt w' base d { s with fuse := max n 0 } ∧ Keeps (fun b => b = d) w w' := by
  have f3 := blk_frozen h.blk 3
  obtain ⟨c0, c1, c2, c3, c4⟩ := h.cell
  clear c0 c1 c2 c4
  have hR := fuse_set h (n := max n 0) (by omega) (by omega)
  have hK := Keeps.set w d 3 (.int .i64 (max n 0))
  clear h
  by_cases hc : 0 ≤ n
  · have e : max n 0 = n := by omega
    rw [e] at hR hK ⊢
    have hR' := Aside0.mk (And.intro hR hK)
    clear hR hK e
    go_enter Try.func15, Try.ntmps15
    go_wp2
    go_end0; exact ⟨rfl, hR'.out⟩
  · have e : max n 0 = 0 := by omega
    rw [e] at hR hK ⊢
    have hR' := Aside0.mk (And.intro hR hK)
    clear hR hK e
    go_enter Try.func15, Try.ntmps15
    go_wp2
    go_end0; exact ⟨rfl, hR'.out⟩
end
end Go.Proofs.Ythjdgiobchiloaa
