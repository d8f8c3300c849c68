/-
  What is proved: VfsKeeps answers true of any parts.
-/
import Derived.Test.YthjdgiobchiloaaKp0
namespace Go.Proofs.Ythjdgiobchiloaa
open Go.RowKit Go.Proofs.YthjdgiobchiloaaW.PrintWords Go.Maps
set_option linter.unusedVariables false
set_option linter.unusedSimpArgs false

set_option maxRecDepth 100000 in
set_option maxHeartbeats 8000000 in
theorem keeps_calls (w : World) (As : Option Addr) (n c : Nat) (A : Nat → Option Addr) (L C : Nat → Nat) (Z : Nat → List Int) (hP : PartsAt w As n A L C Z) (synced keep fail : Int) (hs0 : -9223372036854775808 ≤ synced) (hs1 : synced ≤ 9223372036854775807) (hf0 : -9223372036854775808 ≤ fail) (hf1 : fail ≤ 9223372036854775807) (hn : n ≤ 9223372036854775807) :
    Calls Try.prog 3 #[.slice As n c, .int .i64 synced, .int .i64 keep, .int .i64 fail] w fun e w' => e = .returned (.bool true) ∧ Below w.heap.size w w' := by
  have HNew := Aside0.mk (new_disk w 100000 (by decide))
  have HP := Aside0.mk hP
  clear hP
  go_enter Try.func3, Try.ntmps3
  go_wp2_with fail
  refine HNew.out.mono ?_
  rintro e w1 ⟨d, rfl, hD, hB⟩
  have L1 : Aside0 (LS w d ⟨[], 100000, 0, false⟩ (fun _ => False) w1) := ⟨⟨hD, hB⟩⟩
  clear hD hB HNew
  go_wp2_with fail
  refine (alive_calls w1).mono ?_
  rintro e w2 ⟨rfl, hb⟩
  have L2 := Aside0.mk (L1.out.below hb)
  clear hb L1
  go_wp2_with fail
  refine (ls_create L2.out ⟨#[102]⟩ kst_create (by decide) (by decide)).mono ?_
  rintro e w3 ⟨rfl, hL⟩
  have L3 := Aside0.mk hL
  clear hL L2
  go_wp2
  go_loopg [10, 11, 31] n (fun kq all safe i wr => Aside0 (KeepRel w d n kq all safe i wr))
  case atStart => exact ⟨KeepRel.mk0 L3.out⟩
  case round =>
    obtain ⟨⟨k, Aa, ca, xs, sf, hk, rfl, rfl, rfl, hI⟩⟩ := hrel
    clear L3
    by_cases hlt : k < n
    · obtain ⟨ad, rfl, hcell, hLC, hC⟩ := (HP.out.below hI.old) k hlt
      have HC := Aside0.mk hC
      have HI := Aside0.mk hI
      clear hC hI
      have hkn : (k : Int) < n := by omega
      by_cases hskip : k < 20 ∧ L k ≤ 2000
      · obtain ⟨h20, h2000⟩ := hskip
        have hk20 : (k : Int) < 20 := by omega
        have hl20 : (L k : Int) ≤ 2000 := by omega
        have M1 : Aside0 (KMid w d xs sf xs Aa ca wr) := ⟨HI.out.lr⟩
        have SF := Aside0.mk HI.out.safe
        have hxs : xs.length ≤ 2000 * k := by have := HI.out.size; omega
        have HC0 : Aside0 (∀ W, Below w.heap.size w W → (Kd.int .u8).C W (A k) (L k) (Z k)) := ⟨fun W hW => by obtain ⟨_, _, _, _, h⟩ := HP.out.below hW k hlt; exact h⟩
        have HL : Aside0 ((Z k).length = L k) := ⟨HC.out.1⟩
        generalize A k = Ak at *
        generalize L k = Lk at *
        generalize C k = Ck at *
        generalize Z k = ys at *
        have hB : bits .and .i64 fail 7 ≤ 9223372036854775807 := (wrap_within .i64 _).2
        have HB := Aside0.mk hB
        clear hB
        have hxl : xs.length + Lk ≤ 140737488355328 := by omega
        have hxz : Aside0 (xs.length ≤ 2000 * min (k + 1) 20 ∧ xs.length + Lk ≤ 2000 * min (k + 1) 20) := ⟨⟨by omega, by omega⟩⟩
        clear HI HP HC h20 h2000
        go_wp2_with (go_at_call 15; refine (keep_fail M1.out _ HB.out).mono ?_; rintro e wf ⟨rfl, hf⟩; have MF := Aside0.mk hf; clear hf)
        all_goals (first | (have _ := MF) | have MF := M1)
        all_goals
          clear M1
          refine (keep_append MF.out Ak Lk Ck ys (HC0.out _ MF.out.old) hxl).mono ?_
          rintro e w5 ⟨r, rfl, hm⟩
          by_cases hr : r = 0
          · subst hr
            rw [if_pos rfl] at hm
            have MA := Aside0.mk hm
            clear hm MF
            have hlA : (xs.length + Lk) * 1 ≤ 140737488355328 := by omega
            have HRW := Aside0.mk MA.out.row
            have HHC := Aside0.mk (HC0.out _ MA.out.old)
            have hsz := MA.out.old.size
            obtain ⟨zs, hz⟩ : ∃ zs, zs = xs ++ ys := ⟨_, rfl⟩
            have LZ : Aside0 (zs.length ≤ 2000 * min (k + 1) 20) := ⟨by have := hxz.out.2; have := HL.out; rw [hz, List.length_append]; omega⟩
            have SZ : Aside0 (sf ≤ zs.length) := ⟨by have := SF.out; rw [hz, List.length_append]; omega⟩
            have Hfin : Aside0 (∀ A1 c1 n w1, Aside0 (n = (xs ++ ys).length) → w1.ownsRow w.heap.size 5 1 (.slice A1 n c1) n (nums .u8 (xs ++ ys)) → Keeps (fun k => (Value.slice Aa xs.length ca).ownBlock = some k) w5 w1 →
                (∀ b, (Value.slice A1 n c1).ownBlock = some b → (Value.slice Aa xs.length ca).ownBlock = some b ∨ w5.heap.size ≤ b) → n = zs.length ∧ KMid w d zs sf zs A1 c1 w1) := by
              refine ⟨fun A1 c1 n w1 ⟨hn⟩ ho hk hl => ?_⟩
              rw [← hz] at hn ho
              subst hn
              obtain ⟨fu, dn, h⟩ := MA.out
              rw [← hz] at h
              exact ⟨rfl, fu, dn, h.grow ho hk hl⟩
            clear hz
            by_cases hsy : (k : Int) ≤ bits .and .i64 synced 15
            · go_wp2_with (first | (at_builtin; refine list_app w.heap.size rfl (.tmp 55) (.tmp 56) 28 5 .u8 1 rfl Try.underlying28 cut_info (by decide) (.slice Aa xs.length ca) xs ys Ak Lk Ck rfl rfl HRW.out HHC.out hsz hlA ?_; intro A1 c1 n1 w6 hn1 ho1 hk1 hl1; obtain ⟨rfl, hres⟩ := Hfin.out A1 c1 n1 w6 hn1 ho1 hk1 hl1; have MB := Aside0.mk hres; clear hn1 ho1 hk1 hl1 hres) | (go_at_call 17; refine (keep_sync MB.out).mono ?_; rintro e w7 ⟨r2, rfl, hm⟩; have M2 := Aside0.mk hm; clear hm))
              · rename_i hr2
                rw [if_pos (by simpa using hr2)] at M2
                go_roundg (gk - 1)
                case measure => omega
                case rel => exact ⟨keep_next M2.out (Nat.le_refl _) LZ.out (n := n) (kq := gk - 1) (by omega)⟩
              · rename_i hr2
                rw [if_neg (by simpa using hr2)] at M2
                go_roundg (gk - 1)
                case measure => omega
                case rel => exact ⟨keep_next M2.out SZ.out LZ.out (n := n) (kq := gk - 1) (by omega)⟩
            · go_wp2_with (at_builtin; refine list_app w.heap.size rfl (.tmp 55) (.tmp 56) 28 5 .u8 1 rfl Try.underlying28 cut_info (by decide) (.slice Aa xs.length ca) xs ys Ak Lk Ck rfl rfl HRW.out HHC.out hsz hlA ?_; intro A1 c1 n1 w6 hn1 ho1 hk1 hl1; obtain ⟨rfl, hres⟩ := Hfin.out A1 c1 n1 w6 hn1 ho1 hk1 hl1; have MB := Aside0.mk hres; clear hn1 ho1 hk1 hl1 hres)
              go_roundg (gk - 1)
              case measure => omega
              case rel => exact ⟨keep_next MB.out SZ.out LZ.out (n := n) (kq := gk - 1) (by omega)⟩
          · rw [if_neg hr] at hm
            have MB := Aside0.mk hm
            have LZ := Aside0.mk hxz.out.1
            have SZ := SF
            have hr' : (r == 0) = false := beq_eq_false_iff_ne.2 hr
            clear hm MF hxl hxz hr
            by_cases hsy : (k : Int) ≤ bits .and .i64 synced 15
            · go_wp2_with (go_at_call 17; refine (keep_sync MB.out).mono ?_; rintro e w7 ⟨r2, rfl, hm⟩; have M2 := Aside0.mk hm; clear hm)
              · rename_i hr2
                rw [if_pos (by simpa using hr2)] at M2
                go_roundg (gk - 1)
                case measure => omega
                case rel => exact ⟨keep_next M2.out (Nat.le_refl _) LZ.out (n := n) (kq := gk - 1) (by omega)⟩
              · rename_i hr2
                rw [if_neg (by simpa using hr2)] at M2
                go_roundg (gk - 1)
                case measure => omega
                case rel => exact ⟨keep_next M2.out SZ.out LZ.out (n := n) (kq := gk - 1) (by omega)⟩
            · go_wp2
              go_roundg (gk - 1)
              case measure => omega
              case rel => exact ⟨keep_next MB.out SZ.out LZ.out (n := n) (kq := gk - 1) (by omega)⟩
      · generalize A k = Ak at *
        generalize L k = Lk at *
        generalize C k = Ck at *
        generalize Z k = ys at *
        go_wp2
        all_goals
          go_roundg (gk - 1)
          case measure => omega
          case rel => exact ⟨HI.out.skip (by omega)⟩
    · have hke : k = n := by omega
      subst hke
      have hs := hI.safe
      have M1 : Aside0 (KMid w d xs sf xs Aa ca wr) := ⟨hI.lr⟩
      have hx : xs.length ≤ 40000 := by have := hI.size; omega
      have HCr := Aside0.mk (keep_crash M1.out hs keep)
      clear hI hlt HP
      go_wp2_with fail
      refine HCr.out.mono ?_
      rintro e w5 ⟨rfl, m, hm, hml, hL⟩
      have L5 := Aside0.mk hL
      have HM := Aside0.mk hm
      clear hL HCr hm
      go_wp2_with fail
      refine (keep_read L5.out hml (by omega)).mono ?_
      rintro e w6 ⟨B, cb, rfl, hmc, hb, h1, h2, hxc⟩
      have HB := Aside0.mk hb
      have HS := Aside0.mk (sameBytes_calls w6 B m cb _ Aa m ca _ h1 h2)
      rw [decide_eq_true rfl] at HS
      have hcut := cut_b xs.length ca m Aa hml hxc
      have g1 : (sf : Int) ≤ m := by
        rw [HM.out]
        have g1 : 0 ≤ min (max keep 0) ((xs.length : Int) - sf) := Int.le_min.2 ⟨Int.le_max_right _ _, by omega⟩
        generalize min (max keep 0) ((xs.length : Int) - sf) = q at *
        omega
      clear hb h1 h2 L5
      go_wp2_with fail
      refine HS.out.mono ?_
      rintro e w7 ⟨rfl, hd⟩
      have HD := Aside0.mk hd
      clear hd HS
      go_wp2
      go_ret; exact ⟨ret_b (by rw [HM.out]; exact beq_self_eq_true _), by obtain ⟨j, rfl⟩ := HD.out; exact pw_below_drewN HB.out j⟩
end Go.Proofs.Ythjdgiobchiloaa
