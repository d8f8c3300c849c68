/-
  What is proved: what Rename, New, Read of a disk and slices.Clone of bytes come to; of texts up to the model's length and rows of at most 2^47 bytes.
-/
import Derived.Test.YthjdgiobchiloaaFs9
import Derived.Carry
namespace Go.Proofs.Ythjdgiobchiloaa
open Go.RowKit Go.Proofs.YthjdgiobchiloaaW.PrintWords Go.Maps
set_option linter.unusedVariables false
set_option linter.unusedSimpArgs false

section
variable {w : World} {base d : Nat} {s : FSm}

/-! ### Rename -/
set_option maxRecDepth 100000 in
set_option maxHeartbeats 2000000 in
theorem rename_calls (h : FSAt w base d s) {a z : ByteArray} (ha : a.size ≤ maxLen) (hz : z.size ≤ maxLen) (hn : s.fl.length < maxLen) :
    Calls Try.prog 24 #[.pointer (some ⟨d, 0, none⟩), .string a, .string z] w (ToE base d s w (Vm.rename s.abs a z)) := by
  have hB : Below w.heap.size w (((w.alloc (.cells #[.pointer (some ⟨d, 0, none⟩)] 23)).alloc (.cells #[.string a] 9)).alloc (.cells #[.string z] 9)) := (((Below.refl _ _).alloc (Nat.le_refl _) _).alloc (by simp) _).alloc (by simp; omega) _
  have hBB : Below w.heap.size w ((((w.alloc (.cells #[.pointer (some ⟨d, 0, none⟩)] 23)).alloc (.cells #[.string a] 9)).alloc (.cells #[.string z] 9)).alloc (.cells #[.pointer none] 89)) := ((((Below.refl _ _).alloc (Nat.le_refl _) _).alloc (by simp) _).alloc (by simp; omega) _).alloc (by simp; omega) _
  have hA := h.below hB
  obtain ⟨c0, c1, c2, c3, c4⟩ := hA.cell
  clear c0 c1 c2 c3
  show Calls _ _ _ _ fun e w' => e = .returned (.int .i64 _) ∧ _
  by_cases hd : s.down = true
  · have e : Vm.rename s.abs a z = (s.abs, 70) := by unfold Vm.rename; rw [if_pos (by exact hd)]
    rw [e]
    have hfin := Aside0.mk ((ToS.refl h).below hB)
    rw [hd] at c4
    clear hA hBB hB hd e ha hz hn
    clear h
    go_enter Try.func24, Try.ntmps24
    go_wp2
    go_ret; exact ⟨rfl, hfin.out⟩
  · have hd : s.down = false := by simpa using hd
    rw [hd] at c4
    have HN := fun W => named_calls z W hz
    cases hnm : namedB z with
    | false =>
      have e : Vm.rename s.abs a z = (s.abs, 1) := by
        unfold Vm.rename
        rw [if_neg (ndown (by exact hd)), if_pos (by show (!Vm.named z) = true; rw [show Vm.named z = namedB z from rfl, hnm]; rfl)]
      rw [e]
      rw [hnm] at HN
      have hfin := Aside0.mk ((ToS.refl h).below hB)
      have HN' := Aside0.mk HN
      clear HN hA hBB hB hd e ha hz hn hnm
      clear h
      go_enter Try.func24, Try.ntmps24
      go_wp2_with (go_at_call 49; refine (HN'.out _).mono ?_; rintro e w1 ⟨rfl, rfl⟩)
      go_ret; exact ⟨rfl, hfin.out⟩
    | true =>
      rw [hnm] at HN
      have HN' := Aside0.mk HN
      have e2 : ¬ (!Vm.named z) = true := by rw [show Vm.named z = namedB z from rfl, hnm]; simp
      cases hf : findF s.fl a with
      | none =>
        have e : Vm.rename s.abs a z = (s.abs, 4) := by
          unfold Vm.rename
          rw [if_neg (ndown (by exact hd)), if_neg e2, show s.abs.fl = absL s.fl from rfl, abs_find, hf]
          rfl
        rw [e]
        have hfin := Aside0.mk ((ToS.refl h).below hBB)
        have HF := Aside0.mk (find_none hA ha hd hf)
        clear HN hA hBB hB hd e ha hz hn hnm e2 hf
        clear h
        go_enter Try.func24, Try.ntmps24
        go_wp2_with (first | (go_at_call 49; refine (HN'.out _).mono ?_; rintro e w1 ⟨rfl, rfl⟩) | (go_at_call 52; refine HF.out.mono ?_; rintro e w1 ⟨rfl, rfl⟩))
        go_ret; exact ⟨rfl, hfin.out⟩
      | some f =>
        have HF := Aside0.mk (find_some hA ha hd hf)
        have hBC : Below w.heap.size w ((((w.alloc (.cells #[.pointer (some ⟨d, 0, none⟩)] 23)).alloc (.cells #[.string a] 9)).alloc (.cells #[.string z] 9)).alloc (.cells #[.pointer (some ⟨f.fb, 0, none⟩)] 89)) := ((((Below.refl _ _).alloc (Nat.le_refl _) _).alloc (by simp) _).alloc (by simp; omega) _).alloc (by simp; omega) _
        have e : Vm.rename s.abs a z = Vm.step s.abs fun fl => if Vm.same a z then fl else Vm.ins { f.abs with nm := z } (Vm.rm (Vm.rm (Vm.rm fl z) a) z) := by
          unfold Vm.rename
          rw [if_neg (ndown (by exact hd)), if_neg e2, show s.abs.fl = absL s.fl from rfl, abs_find, hf]
          rfl
        rw [e]
        have HS : Calls Try.prog 50 #[.pointer (some ⟨d, 0, none⟩), .func (.func 60) #[] #[.pointer (some ⟨w.heap.size + 1, 0, none⟩), .pointer (some ⟨w.heap.size + 1 + 1, 0, none⟩), .pointer (some ⟨w.heap.size, 0, none⟩), .pointer (some ⟨w.heap.size + 1 + 1 + 1, 0, none⟩)]]
            ((((w.alloc (.cells #[.pointer (some ⟨d, 0, none⟩)] 23)).alloc (.cells #[.string a] 9)).alloc (.cells #[.string z] 9)).alloc (.cells #[.pointer (some ⟨f.fb, 0, none⟩)] 89)) (ToE base d s w (Vm.step s.abs fun fl => if Vm.same a z then fl else Vm.ins { f.abs with nm := z } (Vm.rm (Vm.rm (Vm.rm fl z) a) z))) := by
          refine step_to h hBC 60 _ (fun w => by kernel_rfl) _ ?_
          intro w1 s1 h1 e1 e2 e3 e4 k1
          have hlt := blk_lt h.blk
          have nf : ∀ b, w.heap.size ≤ b → ¬ foot d s1 b := fun b hb hh => by
            have := (h.foot_lt ((foot_eq e1 e2 b).1 hh)).2
            omega
          have g0 : ((((w.alloc (.cells #[.pointer (some ⟨d, 0, none⟩)] 23)).alloc (.cells #[.string a] 9)).alloc (.cells #[.string z] 9)).alloc (.cells #[.pointer (some ⟨f.fb, 0, none⟩)] 89)).heap[w.heap.size]? = some (.cells #[.pointer (some ⟨d, 0, none⟩)] 23 (0, 0)) := blk_alloc (blk_alloc (blk_alloc (blk_new _ _) _) _) _
          have g1 : ((((w.alloc (.cells #[.pointer (some ⟨d, 0, none⟩)] 23)).alloc (.cells #[.string a] 9)).alloc (.cells #[.string z] 9)).alloc (.cells #[.pointer (some ⟨f.fb, 0, none⟩)] 89)).heap[w.heap.size + 1]? = some (.cells #[.string a] 9 (0, 0)) := by
            refine blk_alloc (blk_alloc ?_ _) _
            have := blk_new (w.alloc (.cells #[.pointer (some ⟨d, 0, none⟩)] 23)) (.cells #[.string a] 9)
            simpa using this
          have g2 : ((((w.alloc (.cells #[.pointer (some ⟨d, 0, none⟩)] 23)).alloc (.cells #[.string a] 9)).alloc (.cells #[.string z] 9)).alloc (.cells #[.pointer (some ⟨f.fb, 0, none⟩)] 89)).heap[w.heap.size + 1 + 1]? = some (.cells #[.string z] 9 (0, 0)) := by
            refine blk_alloc ?_ _
            have := blk_new ((w.alloc (.cells #[.pointer (some ⟨d, 0, none⟩)] 23)).alloc (.cells #[.string a] 9)) (.cells #[.string z] 9)
            simpa using this
          have g3 : ((((w.alloc (.cells #[.pointer (some ⟨d, 0, none⟩)] 23)).alloc (.cells #[.string a] 9)).alloc (.cells #[.string z] 9)).alloc (.cells #[.pointer (some ⟨f.fb, 0, none⟩)] 89)).heap[w.heap.size + 1 + 1 + 1]? = some (.cells #[.pointer (some ⟨f.fb, 0, none⟩)] 89 (0, 0)) := by
            have := blk_new (((w.alloc (.cells #[.pointer (some ⟨d, 0, none⟩)] 23)).alloc (.cells #[.string a] 9)).alloc (.cells #[.string z] 9)) (.cells #[.pointer (some ⟨f.fb, 0, none⟩)] 89)
            simpa using this
          have G0 := k1.blk g0 (by omega)
          have G1 := k1.blk g1 (by omega)
          have G2 := k1.blk g2 (by omega)
          have G3 := k1.blk g3 (by omega)
          cases hsm : Vm.same a z with
          | true =>
            refine (rename1_same h1 hsm _ _ _ _ G1 G2).mono ?_
            intro e w' hh
            exact hh
          | false =>
            refine (rename1_other h1 hsm (by rw [e1]; exact hf) ha hz (by rw [e1]; exact hn) _ _ _ _ (nf _ (by omega)) (nf _ (by omega)) (nf _ (by omega)) (nf _ (by omega)) G1 G2 G0 G3).mono ?_
            intro e w' hh
            exact hh
        have HS' := Aside0.mk HS
        generalize (Vm.step s.abs fun fl => if Vm.same a z then fl else Vm.ins { f.abs with nm := z } (Vm.rm (Vm.rm (Vm.rm fl z) a) z)) = r at HS' ⊢
        clear HS HN hA hBB hB hBC hd e ha hz hn hnm e2 hf
        clear h
        go_enter Try.func24, Try.ntmps24
        go_wp2_with (first | (go_at_call 49; refine (HN'.out _).mono ?_; rintro e w1 ⟨rfl, rfl⟩) | (go_at_call 52; refine HF.out.mono ?_; rintro e w1 ⟨rfl, rfl⟩))
        refine HS'.out.mono ?_
        rintro e w1 ⟨rfl, hR⟩
        have hR' := Aside0.mk hR
        clear hR HS' HF HN'
        go_wp2
        go_ret; exact ⟨rfl, hR'.out⟩

/-! ### New -/
def NewTo (w : World) (m : Int) (v : Value) (w' : World) : Prop := ∃ d mb, v = .pointer (some ⟨d, 0, none⟩) ∧ w.heap.size ≤ d ∧ FSAt w' w.heap.size d ⟨mb, [], m, 0, false⟩ ∧ Below w.heap.size w w'
set_option maxHeartbeats 1000000 in
theorem new_calls (w : World) (n : Int) (hn : n ≤ 9223372036854775807) :
    Calls Try.prog 12 #[.int .i64 n] w fun e w' => ∃ d mb, e = .returned (.pointer (some ⟨d, 0, none⟩)) ∧ w.heap.size ≤ d ∧ FSAt w' w.heap.size d ⟨mb, [], max n 0, 0, false⟩ ∧ Below w.heap.size w w' := by
  have hmm := @run_makeMap Try.prog
  have hF : ∀ m : Int, 0 ≤ m → m ≤ 9223372036854775807 → FSAt ((w.alloc (.map #[] 0)).alloc (.cells #[.map (some w.heap.size), .int .i64 m, .int .i64 0, .int .i64 0, .bool false] 87)) w.heap.size (w.heap.size + 1) ⟨w.heap.size, [], m, 0, false⟩ := by
    intro m h0 h1
    refine ⟨?_, ?_, fun f hf => (by cases hf), .nil, by omega, Nat.le_refl _, h0, h1, h0, Int.le_refl _, by show (0 : Int) ≤ _; omega, .nil⟩
    · have h1 := blk_new (w.alloc (.map #[] 0)) (.cells #[.map (some w.heap.size), .int .i64 m, .int .i64 0, .int .i64 0, .bool false] 87)
      rw [show (w.alloc (.map #[] 0)).heap.size = w.heap.size + 1 from by simp] at h1
      exact h1
    · exact (World.ownsMap_made w _ _ _).alloc _
  have hfin : ∀ m : Int, max n 0 = m → NewTo w (max n 0) (Value.pointer (some ⟨w.heap.size + 1, 0, none⟩)) ((w.alloc (.map #[] 0)).alloc (.cells #[.map (some w.heap.size), .int .i64 m, .int .i64 0, .int .i64 0, .bool false] 87)) := by
    intro m hm
    rw [hm]
    exact ⟨_, _, rfl, by omega, hF m (by omega) (by omega), ((Below.refl _ _).alloc (Nat.le_refl _) _).alloc (by simp) _⟩
  have hfin' := Aside0.mk hfin
  clear hfin hF
  refine Calls.mono (R := fun e w' => ∃ v, e = .returned v ∧ NewTo w (max n 0) v w') ?_ ?_
  · by_cases h0 : 0 ≤ n
    · have hq := hfin'.out n (by omega)
      clear hfin'
      generalize max n 0 = M at *
      go_enter Try.func12, Try.ntmps12
      go_wp2
      go_ret; exact ⟨_, rfl, hq⟩
    · have hq := hfin'.out 0 (by omega)
      clear hfin'
      generalize max n 0 = M at *
      go_enter Try.func12, Try.ntmps12
      go_wp2
      go_ret; exact ⟨_, rfl, hq⟩
  · rintro e w' ⟨v, rfl, d, mb, rfl, h1, h2, h3⟩
    exact ⟨d, mb, rfl, h1, h2, h3⟩
end
end Go.Proofs.Ythjdgiobchiloaa
