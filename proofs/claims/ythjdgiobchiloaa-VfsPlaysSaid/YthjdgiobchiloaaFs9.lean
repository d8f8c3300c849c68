/-
  What is proved: what Sync, Cut, Remove and Rename of a disk come to; of texts up to the model's length.
-/
import Derived.Test.YthjdgiobchiloaaFs8
namespace Go.Proofs.Ythjdgiobchiloaa
open Go.RowKit Go.Proofs.YthjdgiobchiloaaW.PrintWords Go.Maps
set_option linter.unusedVariables false
set_option linter.unusedSimpArgs false

section
variable {w : World} {base d : Nat} {s : FSm}

/-! ### Sync -/
set_option maxRecDepth 100000 in
set_option maxHeartbeats 2000000 in
theorem sync_calls (h : FSAt w base d s) {nm : ByteArray} (hs : nm.size ≤ maxLen) :
    Calls Try.prog 17 #[.pointer (some ⟨d, 0, none⟩), .string nm] w (ToE base d s w (Vm.sync s.abs nm)) := by
  have hBB : Below w.heap.size w (w.alloc (.cells #[.pointer none] 89)) := (Below.refl _ _).alloc (Nat.le_refl _) _
  show Calls _ _ _ _ fun e w' => e = .returned (.int .i64 _) ∧ _
  by_cases hd : s.down = true
  · have e : Vm.sync s.abs nm = (s.abs, 70) := by unfold Vm.sync; rw [if_pos (by exact hd)]
    rw [e]
    have hfin := Aside0.mk ((ToS.refl h).below hBB)
    have HF := Aside0.mk (find_down h nm hd)
    clear hBB hd e hs
    clear h
    go_enter Try.func17, Try.ntmps17
    go_wp2_with (go_at_call 52; refine HF.out.mono ?_; rintro e w1 ⟨rfl, rfl⟩)
    go_ret; exact ⟨rfl, hfin.out⟩
  · have hd : s.down = false := by simpa using hd
    cases hf : findF s.fl nm with
    | none =>
      have e : Vm.sync s.abs nm = (s.abs, 4) := by
        unfold Vm.sync
        rw [if_neg (ndown (by exact hd)), if_pos (by rw [show s.abs.fl = absL s.fl from rfl, abs_find, hf]; rfl)]
      rw [e]
      have hfin := Aside0.mk ((ToS.refl h).below hBB)
      have HF := Aside0.mk (find_none h hs hd hf)
      clear hBB hd e hs hf
      clear h
      go_enter Try.func17, Try.ntmps17
      go_wp2_with (go_at_call 52; refine HF.out.mono ?_; rintro e w1 ⟨rfl, rfl⟩)
      go_ret; exact ⟨rfl, hfin.out⟩
    | some f =>
      have hBC : Below w.heap.size w (w.alloc (.cells #[.pointer (some ⟨f.fb, 0, none⟩)] 89)) := (Below.refl _ _).alloc (Nat.le_refl _) _
      have HF := Aside0.mk (find_some h hs hd hf)
      have e : Vm.sync s.abs nm = Vm.step s.abs (fun fl => Vm.upd fl nm fun f => { f with safe := f.bs.length }) := by
        unfold Vm.sync
        rw [if_neg (ndown (by exact hd)), if_neg (by rw [show s.abs.fl = absL s.fl from rfl, abs_find, hf]; simp)]
      rw [e]
      have HS : Calls Try.prog 50 #[.pointer (some ⟨d, 0, none⟩), .func (.func 54) #[] #[.pointer (some ⟨w.heap.size, 0, none⟩)]] (w.alloc (.cells #[.pointer (some ⟨f.fb, 0, none⟩)] 89)) (ToE base d s w (Vm.step s.abs (fun fl => Vm.upd fl nm fun f => { f with safe := f.bs.length }))) := by
        refine step_to h hBC 54 _ (fun w => by kernel_rfl) _ ?_
        intro w1 s1 h1 e1 e2 e3 e4 k1
        have hlt := blk_lt h.blk
        refine sync1_calls h1 (by rw [e1]; exact hf) _ ?_
        exact k1.blk (blk_new w _) (by omega)
      have HS' := Aside0.mk HS
      clear HS hBB hBC hd e hs hf
      clear h
      go_enter Try.func17, Try.ntmps17
      go_wp2_with (go_at_call 52; refine HF.out.mono ?_; rintro e w1 ⟨rfl, rfl⟩)
      refine HS'.out.mono ?_
      rintro e w1 ⟨rfl, hR⟩
      have hR' := Aside0.mk hR
      clear hR HS' HF
      go_wp2
      go_ret; exact ⟨rfl, hR'.out⟩

/-! ### Remove -/
set_option maxRecDepth 100000 in
set_option maxHeartbeats 2000000 in
theorem remove_calls (h : FSAt w base d s) {nm : ByteArray} (hs : nm.size ≤ maxLen) :
    Calls Try.prog 21 #[.pointer (some ⟨d, 0, none⟩), .string nm] w (ToE base d s w (Vm.remove s.abs nm)) := by
  have hB : Below w.heap.size w ((w.alloc (.cells #[.pointer (some ⟨d, 0, none⟩)] 23)).alloc (.cells #[.string nm] 9)) := ((Below.refl _ _).alloc (Nat.le_refl _) _).alloc (by simp) _
  have hA := h.below hB
  show Calls _ _ _ _ fun e w' => e = .returned (.int .i64 _) ∧ _
  have hfin := Aside0.mk ((ToS.refl h).below hB)
  by_cases hd : s.down = true
  · have e : Vm.remove s.abs nm = (s.abs, 70) := by unfold Vm.remove; rw [if_pos (by exact hd)]
    rw [e]
    have HF := Aside0.mk (find_down hA nm hd)
    clear hA hB hd e hs
    clear h
    go_enter Try.func21, Try.ntmps21
    go_wp2_with (go_at_call 52; refine HF.out.mono ?_; rintro e w1 ⟨rfl, rfl⟩)
    go_ret; exact ⟨rfl, hfin.out⟩
  · have hd : s.down = false := by simpa using hd
    cases hf : findF s.fl nm with
    | none =>
      have e : Vm.remove s.abs nm = (s.abs, 4) := by
        unfold Vm.remove
        rw [if_neg (ndown (by exact hd)), if_pos (by rw [show s.abs.fl = absL s.fl from rfl, abs_find, hf]; rfl)]
      rw [e]
      have HF := Aside0.mk (find_none hA hs hd hf)
      clear hA hB hd e hs hf
      clear h
      go_enter Try.func21, Try.ntmps21
      go_wp2_with (go_at_call 52; refine HF.out.mono ?_; rintro e w1 ⟨rfl, rfl⟩)
      go_ret; exact ⟨rfl, hfin.out⟩
    | some f =>
      have HF := Aside0.mk (find_some hA hs hd hf)
      have e : Vm.remove s.abs nm = Vm.step s.abs (fun fl => Vm.rm fl nm) := by
        unfold Vm.remove
        rw [if_neg (ndown (by exact hd)), if_neg (by rw [show s.abs.fl = absL s.fl from rfl, abs_find, hf]; simp)]
      rw [e]
      have HS : Calls Try.prog 50 #[.pointer (some ⟨d, 0, none⟩), .func (.func 56) #[] #[.pointer (some ⟨w.heap.size, 0, none⟩), .pointer (some ⟨w.heap.size + 1, 0, none⟩)]] ((w.alloc (.cells #[.pointer (some ⟨d, 0, none⟩)] 23)).alloc (.cells #[.string nm] 9)) (ToE base d s w (Vm.step s.abs (fun fl => Vm.rm fl nm))) := by
        refine step_to h hB 56 _ (fun w => by kernel_rfl) _ ?_
        intro w1 s1 h1 e1 e2 e3 e4 k1
        have hlt := blk_lt h.blk
        refine remove1_calls h1 hs _ _ ?_ ?_
        · exact k1.blk (blk_alloc (blk_new w _) _) (by omega)
        · refine k1.blk (g := w.heap.size + 1) ?_ (by omega)
          have := blk_new (w.alloc (.cells #[.pointer (some ⟨d, 0, none⟩)] 23)) (.cells #[.string nm] 9)
          simpa using this
      have HS' := Aside0.mk HS
      clear HS hA hB hd e hs hf hfin
      clear h
      go_enter Try.func21, Try.ntmps21
      go_wp2_with (go_at_call 52; refine HF.out.mono ?_; rintro e w1 ⟨rfl, rfl⟩)
      refine HS'.out.mono ?_
      rintro e w1 ⟨rfl, hR⟩
      have hR' := Aside0.mk hR
      clear hR HS' HF
      go_wp2
      go_ret; exact ⟨rfl, hR'.out⟩

/-! ### Cut -/
set_option maxRecDepth 100000 in
set_option maxHeartbeats 2000000 in
theorem cut_calls (h : FSAt w base d s) {nm : ByteArray} (hs : nm.size ≤ maxLen) (n : Int) :
    Calls Try.prog 61 #[.pointer (some ⟨d, 0, none⟩), .string nm, .int .i64 n] w (ToE base d s w (Vm.cut s.abs nm n)) := by
  have hB : Below w.heap.size w ((w.alloc (.cells #[.pointer (some ⟨d, 0, none⟩)] 23)).alloc (.cells #[.int .i64 n] 3)) := ((Below.refl _ _).alloc (Nat.le_refl _) _).alloc (by simp) _
  have hBB : Below w.heap.size w (((w.alloc (.cells #[.pointer (some ⟨d, 0, none⟩)] 23)).alloc (.cells #[.int .i64 n] 3)).alloc (.cells #[.pointer none] 89)) := (((Below.refl _ _).alloc (Nat.le_refl _) _).alloc (by simp) _).alloc (by simp; omega) _
  have hA := h.below hB
  show Calls _ _ _ _ fun e w' => e = .returned (.int .i64 _) ∧ _
  by_cases hd : s.down = true
  · have e : Vm.cut s.abs nm n = (s.abs, 70) := by unfold Vm.cut; rw [if_pos (by exact hd)]
    rw [e]
    have hfin := Aside0.mk ((ToS.refl h).below hBB)
    have HF := Aside0.mk (find_down hA nm hd)
    clear hA hBB hB hd e hs
    clear h
    go_enter Try.func61, Try.ntmps61
    go_wp2_with (go_at_call 52; refine HF.out.mono ?_; rintro e w1 ⟨rfl, rfl⟩)
    go_ret; exact ⟨rfl, hfin.out⟩
  · have hd : s.down = false := by simpa using hd
    cases hf : findF s.fl nm with
    | none =>
      have e : Vm.cut s.abs nm n = (s.abs, 4) := by
        unfold Vm.cut
        rw [if_neg (ndown (by exact hd)), show s.abs.fl = absL s.fl from rfl, abs_find, hf]
        rfl
      rw [e]
      have hfin := Aside0.mk ((ToS.refl h).below hBB)
      have HF := Aside0.mk (find_none hA hs hd hf)
      clear hA hBB hB hd e hs hf
      clear h
      go_enter Try.func61, Try.ntmps61
      go_wp2_with (go_at_call 52; refine HF.out.mono ?_; rintro e w1 ⟨rfl, rfl⟩)
      go_ret; exact ⟨rfl, hfin.out⟩
    | some f =>
      obtain ⟨hm, _⟩ := find_mem hf
      have hF := h.files f hm
      obtain ⟨A, c, hv⟩ := own_slice hF.2.2.1
      have hBC : Below w.heap.size w (((w.alloc (.cells #[.pointer (some ⟨d, 0, none⟩)] 23)).alloc (.cells #[.int .i64 n] 3)).alloc (.cells #[.pointer (some ⟨f.fb, 0, none⟩)] 89)) := (((Below.refl _ _).alloc (Nat.le_refl _) _).alloc (by simp) _).alloc (by simp; omega) _
      have HF := Aside0.mk (find_some hA hs hd hf)
      have e0 : (((w.alloc (.cells #[.pointer (some ⟨d, 0, none⟩)] 23)).alloc (.cells #[.int .i64 n] 3)).alloc (.cells #[.pointer (some ⟨f.fb, 0, none⟩)] 89)).cell? ⟨f.fb, 0, none⟩ = some (.slice A f.bs.length c) := by rw [hBC.cell (blk_lt hF.1), blk_cell hF.1 0, ← hv]; rfl
      have hul : (f.bs.length : Int) ≤ 9223372036854775807 := by
        have := rm_some h.names hf
        have := h.room
        have := h.most1
        unfold FSm.used at *
        omega
      have ecut : Vm.cut s.abs nm n = if n < 0 ∨ (f.bs.length : Int) < n then (s.abs, 1) else Vm.step s.abs fun fl => Vm.upd fl nm fun f => { f with bs := f.bs.take n.toNat, safe := min f.safe n.toNat } := by
        unfold Vm.cut
        rw [if_neg (ndown (by exact hd)), show s.abs.fl = absL s.fl from rfl, abs_find, hf]
        rfl
      rw [ecut]
      have hfin := Aside0.mk (fun k => (ToS.refl h).below (pw_below_drewN hBC k))
      by_cases h0 : n < 0
      · rw [if_pos (.inl h0)]
        have h0' : decide (n < 0) = true := decide_eq_true h0
        clear hA hBB hB hBC hd hs hf ecut hv hF hm e0
        clear h h0
        go_enter Try.func61, Try.ntmps61
        go_wp2_with (go_at_call 52; refine HF.out.mono ?_; rintro e w1 ⟨rfl, rfl⟩)
        go_quiet (fail)
        go_wp2
        go_ret; exact ⟨rfl, hfin.out _⟩
      · have h0' : decide (n < 0) = false := decide_eq_false h0
        have h0'' : 0 ≤ n := by omega
        by_cases h1 : (f.bs.length : Int) < n
        · rw [if_pos (.inr h1)]
          have h1' : decide ((f.bs.length : Int) < n) = true := decide_eq_true h1
          clear hA hBB hB hBC hd hs hf ecut hv hF hm
          clear h h0 h1
          generalize f.bs.length = L at *
          go_enter Try.func61, Try.ntmps61
          go_wp2_with (go_at_call 52; refine HF.out.mono ?_; rintro e w1 ⟨rfl, rfl⟩)
          go_quiet (fail)
          go_wp2
          go_ret; exact ⟨rfl, hfin.out _⟩
        · have h1' : decide ((f.bs.length : Int) < n) = false := decide_eq_false h1
          have h1'' : n ≤ f.bs.length := by omega
          rw [if_neg (by omega)]
          have HS : ∀ k, Calls Try.prog 50 #[.pointer (some ⟨d, 0, none⟩), .func (.func 80) #[] #[.pointer (some ⟨w.heap.size, 0, none⟩), .pointer (some ⟨w.heap.size + 1 + 1, 0, none⟩), .pointer (some ⟨w.heap.size + 1, 0, none⟩)]]
              ((((w.alloc (.cells #[.pointer (some ⟨d, 0, none⟩)] 23)).alloc (.cells #[.int .i64 n] 3)).alloc (.cells #[.pointer (some ⟨f.fb, 0, none⟩)] 89)).drewN k) (ToE base d s w (Vm.step s.abs fun fl => Vm.upd fl nm fun f => { f with bs := f.bs.take n.toNat, safe := min f.safe n.toNat })) := by
            intro k
            refine step_to h (pw_below_drewN hBC k) 80 _ (fun w => by kernel_rfl) _ ?_
            intro w1 s1 h1 e1 e2 e3 e4 k1
            have hlt := blk_lt h.blk
            have g0 : (((w.alloc (.cells #[.pointer (some ⟨d, 0, none⟩)] 23)).alloc (.cells #[.int .i64 n] 3)).alloc (.cells #[.pointer (some ⟨f.fb, 0, none⟩)] 89)).heap[w.heap.size]? = some (.cells #[.pointer (some ⟨d, 0, none⟩)] 23 (0, 0)) := blk_alloc (blk_alloc (blk_new _ _) _) _
            have g1 : (((w.alloc (.cells #[.pointer (some ⟨d, 0, none⟩)] 23)).alloc (.cells #[.int .i64 n] 3)).alloc (.cells #[.pointer (some ⟨f.fb, 0, none⟩)] 89)).heap[w.heap.size + 1]? = some (.cells #[.int .i64 n] 3 (0, 0)) := by
              refine blk_alloc ?_ _
              have := blk_new (w.alloc (.cells #[.pointer (some ⟨d, 0, none⟩)] 23)) (.cells #[.int .i64 n] 3)
              simpa using this
            have g2 : (((w.alloc (.cells #[.pointer (some ⟨d, 0, none⟩)] 23)).alloc (.cells #[.int .i64 n] 3)).alloc (.cells #[.pointer (some ⟨f.fb, 0, none⟩)] 89)).heap[w.heap.size + 1 + 1]? = some (.cells #[.pointer (some ⟨f.fb, 0, none⟩)] 89 (0, 0)) := by
              have := blk_new ((w.alloc (.cells #[.pointer (some ⟨d, 0, none⟩)] 23)).alloc (.cells #[.int .i64 n] 3)) (.cells #[.pointer (some ⟨f.fb, 0, none⟩)] 89)
              simpa using this
            refine cut1_calls h1 (by rw [e1]; exact hf) n.toNat (by omega) _ _ _ ?_ ?_ ?_
            · exact k1.blk (blk_drewN g0 k) (by omega)
            · exact k1.blk (blk_drewN g2 k) (by omega)
            · rw [show ((n.toNat : Nat) : Int) = n from by omega]
              exact k1.blk (blk_drewN g1 k) (by omega)
          have HS' := Aside0.mk HS
          clear HS hA hBB hB hBC hd hs hf ecut hv hF hm hfin
          clear h h0 h1
          generalize f.bs.length = L at *
          go_enter Try.func61, Try.ntmps61
          go_wp2_with (go_at_call 52; refine HF.out.mono ?_; rintro e w1 ⟨rfl, rfl⟩)
          go_quiet (fail)
          go_wp2_with fail
          refine (HS'.out _).mono ?_
          rintro e w1 ⟨rfl, hR⟩
          have hR' := Aside0.mk hR
          clear hR HS' HF
          go_wp2
          go_ret; exact ⟨rfl, hR'.out⟩
end
end Go.Proofs.Ythjdgiobchiloaa
