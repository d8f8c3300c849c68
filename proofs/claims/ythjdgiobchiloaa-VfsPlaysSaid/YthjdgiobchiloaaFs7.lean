/-
  What is proved: what Create, Append, Sync, Rename, Cut and Remove of a disk come to; of texts up to the model's length and of at most 2^47 bytes in a file.
-/
import Derived.Test.YthjdgiobchiloaaFs6
namespace Go.Proofs.Ythjdgiobchiloaa
open Go.RowKit Go.Proofs.YthjdgiobchiloaaW.PrintWords Go.Maps
set_option linter.unusedVariables false
set_option linter.unusedSimpArgs false

section
variable {w : World} {base d : Nat} {s : FSm}

theorem foot_eq {s1 : FSm} (e1 : s1.fl = s.fl) (e2 : s1.mb = s.mb) (k : Nat) : foot d s1 k ↔ foot d s k := by unfold foot; rw [e1, e2]

theorem step_to (h : FSAt w base d s) {W : World} (hW : Below w.heap.size w W) (k : Nat) (cap : Array Value) (hk : ∀ w, (callFunc k cap).run Try.prog w = .ok (.enter k cap) w) (g : List AF → List AF)
    (hc : ∀ w1 s1, FSAt w1 base d s1 → s1.fl = s.fl → s1.mb = s.mb → s1.most = s.most → s1.down = s.down → Keeps (fun b => b = d) W w1 → Calls Try.prog k cap w1 (ToU base d s1 w1 { s1.abs with fl := g s1.abs.fl })) :
    Calls Try.prog 50 #[.pointer (some ⟨d, 0, none⟩), .func (.func k) #[] cap] W (ToE base d s w (Vm.step s.abs g)) := by
  refine step_calls (h.below hW) k cap _ hk ?_ ?_
  · intro h1 w' hF hK
    have e : Vm.step s.abs g = ({ s.abs with fuse := 0, down := true }, 70) := by
      unfold Vm.step; rw [if_pos (by exact h1)]
    rw [e]
    refine ⟨rfl, _, hF, rfl, rfl, ?_, fun k hk => .inl hk⟩
    exact (Keeps.of_below hW _).then_ hK (fun _ h => .inl h) (fun k hk => .inl (.inl hk))
  · intro h1 w1 hF hK
    refine (hc w1 _ hF rfl rfl rfl rfl hK).mono ?_
    rintro e w' ⟨rfl, s', g1, g2, g3, g4, g5⟩
    refine ⟨rfl, ?_⟩
    have e : Vm.step s.abs g = ({ s.abs with fuse := if 0 < s.fuse then s.fuse - 1 else s.fuse, fl := g s.abs.fl }, 0) := by
      unfold Vm.step; rw [if_neg (by exact h1)]; rfl
    rw [e]
    refine ⟨rfl, s', g1, g2, g3, ?_, ?_⟩
    · exact (((Keeps.of_below hW (foot d s)).trans (hK.mono (fun k hk => .inl hk))).trans g4)
    · intro k hk
      refine (g5 k hk).imp id (fun hh => ?_)
      have := hW.size
      have := hK.size
      omega

set_option maxRecDepth 100000 in
set_option maxHeartbeats 2000000 in
theorem create_calls (h : FSAt w base d s) (hbase : base ≤ w.heap.size) {nm : ByteArray} (hs : nm.size ≤ maxLen) (hn : s.fl.length < maxLen) :
    Calls Try.prog 14 #[.pointer (some ⟨d, 0, none⟩), .string nm] w (ToE base d s w (Vm.create s.abs nm)) := by
  have hB : Below w.heap.size w ((w.alloc (.cells #[.pointer (some ⟨d, 0, none⟩)] 23)).alloc (.cells #[.string nm] 9)) := ((Below.refl _ _).alloc (Nat.le_refl _) _).alloc (by simp) _
  have hcell := (h.below hB).cell
  obtain ⟨c0, c1, c2, c3, c4⟩ := hcell
  clear c1 c2 c3
  have hsame : ∀ n, ToS base d s w s.abs (((w.alloc (.cells #[.pointer (some ⟨d, 0, none⟩)] 23)).alloc (.cells #[.string nm] 9)).drewN n) := fun n => (ToS.refl h).below (pw_below_drewN hB n)
  show Calls _ _ _ _ fun e w' => e = .returned (.int .i64 _) ∧ _
  by_cases hd : s.down = true
  · have e : Vm.create s.abs nm = (s.abs, 70) := by unfold Vm.create; rw [if_pos (by exact hd)]
    rw [e]
    have hfin := Aside0.mk (hsame 0)
    rw [hd] at c4
    clear hsame c0 hd e hB hn hs hbase
    clear h
    go_enter Try.func14, Try.ntmps14
    go_wp2
    go_ret; exact ⟨rfl, hfin.out⟩
  · have hd : s.down = false := by simpa using hd
    rw [hd] at c4
    have HN := fun W => named_calls nm W hs
    cases hnm : namedB nm with
    | false =>
      have e : Vm.create s.abs nm = (s.abs, 1) := by
        unfold Vm.create
        rw [if_neg (by intro hh; rw [show s.abs.down = s.down from rfl, hd] at hh; cases hh), if_pos (by show (!Vm.named nm) = true; rw [show Vm.named nm = namedB nm from rfl, hnm]; rfl)]
      rw [e]
      rw [hnm] at HN
      have hfin := Aside0.mk (hsame 0)
      have HN' := Aside0.mk HN
      clear HN hsame c0 hd e hB hn hs hbase hnm
      clear h
      go_enter Try.func14, Try.ntmps14
      go_wp2_with (go_at_call 49; refine (HN'.out _).mono ?_; rintro e w1 ⟨rfl, rfl⟩)
      go_ret; exact ⟨rfl, hfin.out⟩
    | true =>
      rw [hnm] at HN
      have HN' := Aside0.mk HN
      have hl := fun n => look (h.below (pw_below_drewN hB n)).map hs
      have hm0 : ∀ b, ¬ (foot d s b ∧ w.heap.size ≤ b) := fun b hh => by have := (h.foot_lt hh.1).2; omega
      cases hf : findF s.fl nm with
      | some f =>
        have e : Vm.create s.abs nm = (s.abs, 5) := by
          unfold Vm.create
          rw [if_neg (by intro hh; rw [show s.abs.down = s.down from rfl, hd] at hh; cases hh), if_neg (by show ¬ (!Vm.named nm) = true; rw [show Vm.named nm = namedB nm from rfl, hnm]; simp), if_pos (by rw [show s.abs.fl = absL s.fl from rfl, abs_find, hf]; rfl)]
        rw [e]
        have hfin := Aside0.mk hsame
        simp only [hf, ptr] at hl
        clear HN hsame hd e hB hn hs hbase hnm hf hm0
        clear h
        go_enter Try.func14, Try.ntmps14
        go_wp2_with (go_at_call 49; refine (HN'.out _).mono ?_; rintro e w1 ⟨rfl, rfl⟩)
        go_quiet (fail)
        go_wp2
        go_ret; exact ⟨rfl, hfin.out _⟩
      | none =>
        have e : Vm.create s.abs nm = Vm.step s.abs (fun fl => Vm.ins ⟨nm, [], 0⟩ (Vm.rm fl nm)) := by
          unfold Vm.create
          rw [if_neg (by intro hh; rw [show s.abs.down = s.down from rfl, hd] at hh; cases hh), if_neg (by show ¬ (!Vm.named nm) = true; rw [show Vm.named nm = namedB nm from rfl, hnm]; simp), if_neg (by rw [show s.abs.fl = absL s.fl from rfl, abs_find, hf]; simp)]
        rw [e]
        have HS : ∀ n, Calls Try.prog 50 #[.pointer (some ⟨d, 0, none⟩), .func (.func 51) #[] #[.pointer (some ⟨w.heap.size, 0, none⟩), .pointer (some ⟨w.heap.size + 1, 0, none⟩)]]
            (((w.alloc (.cells #[.pointer (some ⟨d, 0, none⟩)] 23)).alloc (.cells #[.string nm] 9)).drewN n) (ToE base d s w (Vm.step s.abs (fun fl => Vm.ins ⟨nm, [], 0⟩ (Vm.rm fl nm)))) := by
          intro n
          refine step_to h (pw_below_drewN hB n) 51 _ (fun w => by kernel_rfl) _ ?_
          intro w1 s1 h1 e1 e2 e3 e4 k1
          have hsz : w.heap.size ≤ w1.heap.size := by have := k1.size; have := hB.size; simp at *; omega
          refine create1_calls h1 (by omega) hs (by rw [e1]; exact hf) (by rw [e1]; exact hn) _ _ ?_ ?_
          · refine k1.blk (g := w.heap.size) ?_ ?_
            · exact blk_drewN (blk_alloc (blk_new _ _) _) n
            · have := blk_lt h.blk; omega
          · refine k1.blk (g := w.heap.size + 1) ?_ ?_
            · have := blk_new (w.alloc (.cells #[.pointer (some ⟨d, 0, none⟩)] 23)) (.cells #[.string nm] 9)
              refine blk_drewN ?_ n
              simpa using this
            · have := blk_lt h.blk; omega
        have HS' := Aside0.mk HS
        simp only [hf, ptr] at hl
        clear HN HS hsame hd e hB hn hs hbase hnm hf hm0
        clear h
        go_enter Try.func14, Try.ntmps14
        go_wp2_with (go_at_call 49; refine (HN'.out _).mono ?_; rintro e w1 ⟨rfl, rfl⟩)
        go_quiet (fail)
        go_wp2_with fail
        refine (HS'.out _).mono ?_
        rintro e w1 ⟨rfl, hR⟩
        have hR' := Aside0.mk hR
        clear hR HS' HN'
        go_wp2
        go_ret; exact ⟨rfl, hR'.out⟩
end
end Go.Proofs.Ythjdgiobchiloaa
