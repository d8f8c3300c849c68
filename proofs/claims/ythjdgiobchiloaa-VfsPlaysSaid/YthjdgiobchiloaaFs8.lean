/-
  What is proved: what Append, Sync, Cut, Remove and Rename of a disk come to; of texts up to the model's length and of at most 2^47 bytes in a file.
-/
import Derived.Test.YthjdgiobchiloaaFs7
namespace Go.Proofs.Ythjdgiobchiloaa
open Go.RowKit Go.Proofs.YthjdgiobchiloaaW.PrintWords Go.Maps
set_option linter.unusedVariables false
set_option linter.unusedSimpArgs false

/-- A row of numbers stays where its block stays. -/
theorem C_move {k : IntKind} {w w' : World} {A : Option Addr} {m : Nat} {ys : List Int} (h : (Kd.int k).C w A m ys) (hm : ∀ ad, A = some ad → (∃ y, w.cell? ad = some (.int k y)) → w'.heap[ad.block]? = w.heap[ad.block]?) : (Kd.int k).C w' A m ys := by
  have hr := reads_of_C h
  refine Kd.C_of_reads (d := 0) ⟨hr.1, hr.2.1, fun hn => ?_⟩
  obtain ⟨ad, e, hc⟩ := hr.2.2 hn
  refine ⟨ad, e, fun j hj => ?_⟩
  have h0 := hc 0 hn
  rw [show ad.add 0 = ad from by simp [Addr.add]] at h0
  have hb := hm ad e ⟨_, h0⟩
  have hbl : (ad.add j).block = ad.block := by unfold Addr.add; split <;> rfl
  exact (World.cell?_of_block (w := w) (by rw [hbl]; exact hb)).trans (hc j hj)
theorem cell_not_fs {w : World} {d t : Nat} {mp : Option Nat} {a b c : Int} {x : Bool} (hd : w.heap[d]? = some (.cells #[.map mp, .int .i64 a, .int .i64 b, .int .i64 c, .bool x] t (0, 0))) {p : Addr} {y : Int} (hc : w.cell? p = some (.int .u8 y)) : p.block ≠ d := by
  intro e
  obtain ⟨bl, o, sp⟩ := p
  simp only at e
  subst e
  simp only [World.cell?, hd] at hc
  split at hc
  · cases hc
  · match o with
    | 0 => simp at hc
    | 1 => simp at hc
    | 2 => simp at hc
    | 3 => simp at hc
    | 4 => simp at hc
    | n + 5 => simp at hc
theorem C_keep_d {w w' : World} {base d : Nat} {s : FSm} (h : FSAt w base d s) {A : Option Addr} {m : Nat} {ys : List Int} (hc : (Kd.int .u8).C w A m ys) (hk : Keeps (fun b => b = d) w w') : (Kd.int .u8).C w' A m ys := by
  refine C_move hc ?_
  rintro ad rfl ⟨y, hy⟩
  exact hk.block _ (World.block_lt_of_cell? w _ hy) (cell_not_fs h.blk hy)

section
variable {w : World} {base d : Nat} {s : FSm}
theorem ndown {m : AS} (h : m.down = false) : ¬ (m.down = true) := by rw [h]; simp

/-! ### Append -/
set_option maxRecDepth 100000 in
set_option maxHeartbeats 2000000 in
theorem append_calls (h : FSAt w base d s) (hbase : base ≤ w.heap.size) {nm : ByteArray} (hs : nm.size ≤ maxLen) (A : Option Addr) (m c : Nat) (ys : List Int) (HC : (Kd.int .u8).C w A m ys)
    (hl : s.used + m ≤ 140737488355328) :
    Calls Try.prog 16 #[.pointer (some ⟨d, 0, none⟩), .string nm, .slice A m c] w (ToE base d s w (Vm.append s.abs nm ys)) := by
  have hy : ys.length = m := HC.1
  have hm63 : m ≤ 9223372036854775807 := HC.2.1
  have hB : Below w.heap.size w ((w.alloc (.cells #[.pointer (some ⟨d, 0, none⟩)] 23)).alloc (.cells #[.slice A m c] 28)) := ((Below.refl _ _).alloc (Nat.le_refl _) _).alloc (by simp) _
  have hBB : Below w.heap.size w (((w.alloc (.cells #[.pointer (some ⟨d, 0, none⟩)] 23)).alloc (.cells #[.slice A m c] 28)).alloc (.cells #[.pointer none] 89)) := (((Below.refl _ _).alloc (Nat.le_refl _) _).alloc (by simp) _).alloc (by simp; omega) _
  have hA := h.below hB
  show Calls _ _ _ _ fun e w' => e = .returned (.int .i64 _) ∧ _
  by_cases hd : s.down = true
  · have e : Vm.append s.abs nm ys = (s.abs, 70) := by unfold Vm.append; rw [if_pos (by exact hd)]
    rw [e]
    have hfin := Aside0.mk ((ToS.refl h).below hBB)
    have HF := Aside0.mk (find_down hA nm hd)
    clear hA hBB hB hd e hs hbase HC hl
    clear h
    go_enter Try.func16, Try.ntmps16
    go_wp2_with (go_at_call 52; refine HF.out.mono ?_; rintro e w1 ⟨rfl, rfl⟩)
    go_ret; exact ⟨rfl, hfin.out⟩
  · have hd : s.down = false := by simpa using hd
    cases hf : findF s.fl nm with
    | none =>
      have e : Vm.append s.abs nm ys = (s.abs, 4) := by
        unfold Vm.append
        rw [if_neg (ndown (by exact hd)), if_pos (by rw [show s.abs.fl = absL s.fl from rfl, abs_find, hf]; rfl)]
      rw [e]
      have hfin := Aside0.mk ((ToS.refl h).below hBB)
      have HF := Aside0.mk (find_none hA hs hd hf)
      clear hA hBB hB hd e hs hbase HC hl hf
      clear h
      go_enter Try.func16, Try.ntmps16
      go_wp2_with (go_at_call 52; refine HF.out.mono ?_; rintro e w1 ⟨rfl, rfl⟩)
      go_ret; exact ⟨rfl, hfin.out⟩
    | some f =>
      have hBC : Below w.heap.size w (((w.alloc (.cells #[.pointer (some ⟨d, 0, none⟩)] 23)).alloc (.cells #[.slice A m c] 28)).alloc (.cells #[.pointer (some ⟨f.fb, 0, none⟩)] 89)) := (((Below.refl _ _).alloc (Nat.le_refl _) _).alloc (by simp) _).alloc (by simp; omega) _
      obtain ⟨c0, c1, c2, c3, c4⟩ := (h.below hBC).cell
      have HF := Aside0.mk (find_some hA hs hd hf)
      have b1 := h.most1
      have b0 := h.most0
      have b2 := h.room
      have b3 : 0 ≤ s.used := by unfold FSm.used; omega
      clear c0 c3 c4
      by_cases hr : s.most - s.used < m
      · have e : Vm.append s.abs nm ys = (s.abs, 71) := by
          unfold Vm.append
          rw [if_neg (ndown (by exact hd)), if_neg (by rw [show s.abs.fl = absL s.fl from rfl, abs_find, hf]; simp), if_pos (by rw [show s.abs.fl = absL s.fl from rfl, abs_used, hy]; exact hr)]
        rw [e]
        have hfin := Aside0.mk (fun n => (ToS.refl h).below (pw_below_drewN hBC n))
        clear hA hBB hB hBC hd e hs hbase HC hl hf
        clear h
        generalize s.used = u at *
        go_enter Try.func16, Try.ntmps16
        go_wp2_with (go_at_call 52; refine HF.out.mono ?_; rintro e w1 ⟨rfl, rfl⟩)
        go_quiet (fail)
        go_wp2
        go_ret; exact ⟨rfl, hfin.out _⟩
      · have e : Vm.append s.abs nm ys = Vm.step s.abs (fun fl => Vm.upd fl nm fun f => { f with bs := f.bs ++ ys }) := by
          unfold Vm.append
          rw [if_neg (ndown (by exact hd)), if_neg (by rw [show s.abs.fl = absL s.fl from rfl, abs_find, hf]; simp), if_neg (by rw [show s.abs.fl = absL s.fl from rfl, abs_used, hy]; exact hr)]
        rw [e]
        have HS : ∀ n, Calls Try.prog 50 #[.pointer (some ⟨d, 0, none⟩), .func (.func 53) #[] #[.pointer (some ⟨w.heap.size + 1 + 1, 0, none⟩), .pointer (some ⟨w.heap.size + 1, 0, none⟩), .pointer (some ⟨w.heap.size, 0, none⟩)]]
            ((((w.alloc (.cells #[.pointer (some ⟨d, 0, none⟩)] 23)).alloc (.cells #[.slice A m c] 28)).alloc (.cells #[.pointer (some ⟨f.fb, 0, none⟩)] 89)).drewN n) (ToE base d s w (Vm.step s.abs (fun fl => Vm.upd fl nm fun f => { f with bs := f.bs ++ ys }))) := by
          intro n
          refine step_to h (pw_below_drewN hBC n) 53 _ (fun w => by kernel_rfl) _ ?_
          intro w1 s1 h1 e1 e2 e3 e4 k1
          have hsz : w.heap.size ≤ w1.heap.size := by have := k1.size; have := hBC.size; simp at *; omega
          have hlt := blk_lt h.blk
          have hle : f.bs.length ≤ usedL s.fl := by have := rm_some h.names hf; omega
          have eu : s1.used = s.used := by unfold FSm.used; rw [e1]
          have q0 : s.used = usedL s.fl := rfl
          have nf : ∀ b, w.heap.size ≤ b → ¬ foot d s1 b := fun b hb hh => by
            have := (h.foot_lt ((foot_eq e1 e2 b).1 hh)).2
            omega
          have g0 : (((w.alloc (.cells #[.pointer (some ⟨d, 0, none⟩)] 23)).alloc (.cells #[.slice A m c] 28)).alloc (.cells #[.pointer (some ⟨f.fb, 0, none⟩)] 89)).heap[w.heap.size]? = some (.cells #[.pointer (some ⟨d, 0, none⟩)] 23 (0, 0)) := blk_alloc (blk_alloc (blk_new _ _) _) _
          have g1 : (((w.alloc (.cells #[.pointer (some ⟨d, 0, none⟩)] 23)).alloc (.cells #[.slice A m c] 28)).alloc (.cells #[.pointer (some ⟨f.fb, 0, none⟩)] 89)).heap[w.heap.size + 1]? = some (.cells #[.slice A m c] 28 (0, 0)) := by
            refine blk_alloc ?_ _
            have := blk_new (w.alloc (.cells #[.pointer (some ⟨d, 0, none⟩)] 23)) (.cells #[.slice A m c] 28)
            simpa using this
          have g2 : (((w.alloc (.cells #[.pointer (some ⟨d, 0, none⟩)] 23)).alloc (.cells #[.slice A m c] 28)).alloc (.cells #[.pointer (some ⟨f.fb, 0, none⟩)] 89)).heap[w.heap.size + 1 + 1]? = some (.cells #[.pointer (some ⟨f.fb, 0, none⟩)] 89 (0, 0)) := by
            have := blk_new ((w.alloc (.cells #[.pointer (some ⟨d, 0, none⟩)] 23)).alloc (.cells #[.slice A m c] 28)) (.cells #[.pointer (some ⟨f.fb, 0, none⟩)] 89)
            simpa using this
          refine append1_calls h1 (by omega) (by rw [e1]; exact hf) A m c ys ?_ (by omega) (by rw [eu, e3]; omega) _ _ _ (nf _ (by omega)) (nf _ (by omega)) ?_ ?_ ?_
          · exact C_keep_d (h.below (pw_below_drewN hBC n)) (Kd.C_below HC (pw_below_drewN hBC n)) k1
          · exact k1.blk (blk_drewN g2 n) (by omega)
          · exact k1.blk (blk_drewN g1 n) (by omega)
          · exact k1.blk (blk_drewN g0 n) (by omega)
        have HS' := Aside0.mk HS
        clear HS hA hBB hB hBC hd e hs hbase HC hl hf
        clear h
        generalize s.used = u at *
        go_enter Try.func16, Try.ntmps16
        go_wp2_with (go_at_call 52; refine HF.out.mono ?_; rintro e w1 ⟨rfl, rfl⟩)
        go_quiet (fail)
        go_wp2_with fail
        refine (HS'.out _).mono ?_
        rintro e w1 ⟨rfl, hR⟩
        have hR' := Aside0.mk hR
        clear hR HS' HF
        go_wp2
        go_ret; exact ⟨rfl, hR'.out⟩
end
end Go.Proofs.Ythjdgiobchiloaa
