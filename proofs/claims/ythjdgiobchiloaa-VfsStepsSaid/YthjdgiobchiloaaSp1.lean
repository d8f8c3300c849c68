/-
  What is proved: VfsSteps answers true of any input.
-/
import Derived.Test.YthjdgiobchiloaaSp0
namespace Go.Proofs.Ythjdgiobchiloaa
open Go.RowKit Go.Proofs.YthjdgiobchiloaaW.PrintWords Go.Maps
set_option linter.unusedVariables false
set_option linter.unusedSimpArgs false

set_option maxRecDepth 100000 in
set_option maxHeartbeats 2000000 in
theorem steps_calls (w : World) (fail : Int) (As : Option Addr) (n c : Nat) (zs : List Int) (hC : (Kd.int .i64).C w As n zs) :
    Calls Try.prog 4 #[.int .i64 fail, .slice As n c] w fun e w' => e = .returned (.bool true) ∧ Below w.heap.size w w' := by
  have HNew := Aside0.mk (new_disk w 1000 (by decide))
  have HP := Aside0.mk hC
  have hn : n ≤ 9223372036854775807 := hC.2.1
  obtain ⟨B, hB, hB2⟩ : ∃ B : Nat, bits .and .i64 fail 15 = (B : Int) ∧ B ≤ 15 := by
    have h := and_small fail 15 (by decide)
    have h1 : 0 ≤ bits .and .i64 fail 15 := h.1
    have h2 : bits .and .i64 fail 15 ≤ 15 := h.2
    exact ⟨(bits .and .i64 fail 15).toNat, by omega, by omega⟩
  clear hC
  go_enter Try.func4, Try.ntmps4
  go_wp2_with fail
  refine HNew.out.mono ?_
  rintro e w1 ⟨d, rfl, hD, hbl⟩
  have L1 : Aside0 (LS w d ⟨[], 1000, 0, false⟩ (fun _ => False) w1) := ⟨⟨hD, hbl⟩⟩
  clear hD hbl HNew
  go_wp2_with fail
  refine (alive_calls w1).mono ?_
  rintro e w2 ⟨rfl, hb⟩
  have L2 := Aside0.mk (L1.out.below hb)
  clear hb L1
  go_wp2_with fail
  obtain ⟨F, hF1, hF2⟩ : ∃ F : Nat, (F : Int) = 1 + B ∧ F = 1 + B := ⟨1 + B, by omega, rfl⟩
  rw [← hF1]
  have hF17 : F < 17 := by omega
  have hF0 : 1 ≤ F := by omega
  clear hF1 hF2 hB hB2
  have GF := Aside0.mk hF17
  have GO := Aside0.mk hF0
  refine (ls_fail L2.out (F : Int) (by omega)).mono ?_
  rw [st_fail hF17 hF0]
  rintro e w3 ⟨rfl, hL⟩
  have L3 := Aside0.mk hL
  clear hL L2
  go_wp2
  go_loopg [6, 7] 20 (fun kq done i wr => Aside0 (StRel w d F kq done i wr))
  case atStart => exact ⟨0, rfl, rfl, rfl, L3.out⟩
  case round =>
    obtain ⟨⟨k, hk, rfl, rfl, hI⟩⟩ := hrel
    clear L3
    by_cases hlt : k < 20
    · have hkn : (k : Int) < 20 := by omega
      have LT := Aside0.mk hlt
      have HI := Aside0.mk hI
      have hC := (Kd.C_below HP.out hI.old)
      have HC := Aside0.mk hC
      have hget : Aside0 (k < n → ∃ ad, As = some ad ∧ wr.cell? (ad.add k) = some (.int .i64 (zs.getD k 0))) := by
        refine ⟨fun h => ?_⟩
        obtain ⟨ad, e, hc⟩ := (reads_of_C hC).2.2 (by omega)
        exact ⟨ad, e, hc k h⟩
      clear hI hC
      have CR : Aside0 (∀ r : Int, r = (if k + 1 < F then 0 else 70) → Vm.create (stF F k) (nmF k) = (stF F (k + 1), r)) := ⟨fun r hr => st_create GF.out GO.out LT.out hr⟩
      have SL : Aside0 ((stF F k).fl.length < maxLen) := ⟨by have := st_len (F := F) (i := k) GF.out; unfold maxLen; omega⟩
      have cv := nmF_conv k
      have dn : Aside0 ((stF F (k + 1)).down = decide (F ≤ k + 1)) := ⟨rfl⟩
      obtain ⟨m, hm, hm15⟩ : ∃ m, m = min k (F - 1) ∧ m ≤ 15 := ⟨_, rfl, by omega⟩
      rw [← hm]
      have HM := Aside0.mk hm
      have hFk : F ≤ 17 := by omega
      clear HC hlt hm
      by_cases hkw : k < n
      · obtain ⟨ad, rfl, hcell⟩ := hget.out hkw
        generalize zs.getD k 0 = z at *
        have hkw' : (k : Int) < n := by omega
        clear hget hF17 hF0 HP
        go_wp2_with (first
          | (go_at_call 21; refine (ls_remove HI.out _ (st_remove GF.out GO.out LT.out) (by decide)).mono ?_; rintro e w4 ⟨rfl, hL⟩; have L4 := Aside0.mk hL; clear hL)
          | (go_at_call 16; refine (ls_append HI.out _ _ _ _ [] (C_nil .u8 wr) (st_append GF.out GO.out LT.out) (by decide) (by rw [st_used]; decide)).mono ?_; rintro e w4 ⟨rfl, hL⟩; have L4 := Aside0.mk hL; clear hL))
        rotate_left
        · refine (ls_create HI.out ⟨#[]⟩ (st_create0 GF.out GO.out LT.out) (by decide) SL.out).mono ?_
          rintro e w4 ⟨rfl, hL⟩
          have L4 := Aside0.mk hL
          clear hL
          go_wp2_with fail
          (
          by_cases hkF : k + 1 < F
          · have hmk2 : m = k := by have := HM.out; omega
            subst hmk2
            refine (ls_create (L4.out.below (below_lit _ _)) (nmF m) (CR.out 0 (if_pos hkF).symm) (nmF_size m) SL.out).mono ?_
            rintro e w5 ⟨rfl, hL⟩
            have L5 := Aside0.mk hL
            have DN := Aside0.mk (dn.out.trans (decide_eq_false (by omega)))
            clear hL dn CR
            go_wp2_with (go_at_call 22; refine (ls_down L5.out DN.out).mono ?_; rintro e w6 ⟨rfl, rfl⟩)
            go_roundg (gk - 1)
            case measure => omega
            case rel => exact ⟨m + 1, by omega, rfl, congrArg (Value.int .i64) (by omega), L5.out⟩
          · have hmk2 : (m : Int) < k + 1 := by have := HM.out; omega
            refine (ls_create (L4.out.below (below_lit _ _)) (nmF k) (CR.out 70 (if_neg hkF).symm) (nmF_size k) SL.out).mono ?_
            rintro e w5 ⟨rfl, hL⟩
            have L5 := Aside0.mk hL
            have DN := Aside0.mk (dn.out.trans (decide_eq_true (by omega)))
            clear hL dn CR
            go_wp2_with (go_at_call 22; refine (ls_down L5.out DN.out).mono ?_; rintro e w6 ⟨rfl, rfl⟩)
            go_roundg (gk - 1)
            case measure => omega
            case rel => exact ⟨k + 1, by omega, rfl, congrArg (Value.int .i64) (by have := HM.out; omega), L5.out⟩)
        rotate_right
        all_goals (first | (have _ := L4) | have L4 := HI)
        all_goals (
          by_cases hkF : k + 1 < F
          · have hmk2 : m = k := by have := HM.out; omega
            subst hmk2
            refine (ls_create (L4.out.below (below_lit _ _)) (nmF m) (CR.out 0 (if_pos hkF).symm) (nmF_size m) SL.out).mono ?_
            rintro e w5 ⟨rfl, hL⟩
            have L5 := Aside0.mk hL
            have DN := Aside0.mk (dn.out.trans (decide_eq_false (by omega)))
            clear hL dn CR
            go_wp2_with (go_at_call 22; refine (ls_down L5.out DN.out).mono ?_; rintro e w6 ⟨rfl, rfl⟩)
            go_roundg (gk - 1)
            case measure => omega
            case rel => exact ⟨m + 1, by omega, rfl, congrArg (Value.int .i64) (by omega), L5.out⟩
          · have hmk2 : (m : Int) < k + 1 := by have := HM.out; omega
            refine (ls_create (L4.out.below (below_lit _ _)) (nmF k) (CR.out 70 (if_neg hkF).symm) (nmF_size k) SL.out).mono ?_
            rintro e w5 ⟨rfl, hL⟩
            have L5 := Aside0.mk hL
            have DN := Aside0.mk (dn.out.trans (decide_eq_true (by omega)))
            clear hL dn CR
            go_wp2_with (go_at_call 22; refine (ls_down L5.out DN.out).mono ?_; rintro e w6 ⟨rfl, rfl⟩)
            go_roundg (gk - 1)
            case measure => omega
            case rel => exact ⟨k + 1, by omega, rfl, congrArg (Value.int .i64) (by have := HM.out; omega), L5.out⟩)
      · have hkw' : ¬ (k : Int) < n := by omega
        clear hget hF17 hF0 HP
        go_wp2_with fail
        have L4 := HI
        (
          by_cases hkF : k + 1 < F
          · have hmk2 : m = k := by have := HM.out; omega
            subst hmk2
            refine (ls_create (L4.out.below (below_lit _ _)) (nmF m) (CR.out 0 (if_pos hkF).symm) (nmF_size m) SL.out).mono ?_
            rintro e w5 ⟨rfl, hL⟩
            have L5 := Aside0.mk hL
            have DN := Aside0.mk (dn.out.trans (decide_eq_false (by omega)))
            clear hL dn CR
            go_wp2_with (go_at_call 22; refine (ls_down L5.out DN.out).mono ?_; rintro e w6 ⟨rfl, rfl⟩)
            go_roundg (gk - 1)
            case measure => omega
            case rel => exact ⟨m + 1, by omega, rfl, congrArg (Value.int .i64) (by omega), L5.out⟩
          · have hmk2 : (m : Int) < k + 1 := by have := HM.out; omega
            refine (ls_create (L4.out.below (below_lit _ _)) (nmF k) (CR.out 70 (if_neg hkF).symm) (nmF_size k) SL.out).mono ?_
            rintro e w5 ⟨rfl, hL⟩
            have L5 := Aside0.mk hL
            have DN := Aside0.mk (dn.out.trans (decide_eq_true (by omega)))
            clear hL dn CR
            go_wp2_with (go_at_call 22; refine (ls_down L5.out DN.out).mono ?_; rintro e w6 ⟨rfl, rfl⟩)
            go_roundg (gk - 1)
            case measure => omega
            case rel => exact ⟨k + 1, by omega, rfl, congrArg (Value.int .i64) (by have := HM.out; omega), L5.out⟩)
    · have hk20 : k = 20 := by omega
      subst hk20
      have h20 : min 20 (F - 1) = F - 1 := by omega
      have L4 := Aside0.mk hI
      rw [h20]
      have HE := Aside0.mk (st_end GF.out GO.out)
      obtain ⟨G, hG, hG2⟩ : ∃ G : Nat, G = F - 1 ∧ (G : Int) = (F : Int) - 1 := ⟨F - 1, rfl, by omega⟩
      rw [← hG] at HE ⊢
      have CE := Aside0.mk (C_nil .i64 wr)
      have LN : Aside0 ((stF F 20).fl.length * 16 ≤ 140737488355328) := ⟨by have := st_len (F := F) (i := 20) GF.out; omega⟩
      have GL : Aside0 (G ≤ 16) := ⟨by omega⟩
      clear hI hlt hG h20 HP
      go_wp2_with (first
        | (go_at_call 18; refine (ls_crash L4.out LN.out none 0 0 [] CE.out (fun _ h => by cases h) (Nat.le_refl _)).mono ?_; rintro e w5 ⟨rfl, hL⟩; have L5 := Aside0.mk hL; clear hL)
        | (go_at_call 22; refine (ls_down L5.out HE.out.2.1).mono ?_; rintro e w6 ⟨rfl, rfl⟩)
        | (go_at_call 23; refine (ls_names L5.out (by rw [HE.out.1]; have := GL.out; omega)).mono ?_; rintro e w7 ⟨v, rfl, A, cn, rfl, hro, hb⟩; rw [HE.out.1]; have L7 := Aside0.mk (L5.out.below hb); clear hro hb)
        | (go_at_call 14; refine (ls_create L7.out ⟨#[122]⟩ (m' := (Vm.create (Vm.crash (stF F 20) []) ⟨#[122]⟩).1) (r := 0) (by rw [← HE.out.2.2]) (by decide) (by rw [HE.out.1]; have := GL.out; unfold maxLen; omega)).mono ?_; rintro e w8 ⟨rfl, hL⟩; have L8 := Aside0.mk hL; clear hL))
      go_ret; exact ⟨rfl, L8.out.old⟩
end Go.Proofs.Ythjdgiobchiloaa
