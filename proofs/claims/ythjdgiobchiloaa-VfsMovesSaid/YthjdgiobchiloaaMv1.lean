/-
  What is proved: VfsMoves answers true of any input.
-/
import Derived.Test.YthjdgiobchiloaaMv0
namespace Go.Proofs.Ythjdgiobchiloaa
open Go.RowKit Go.Proofs.YthjdgiobchiloaaW.PrintWords Go.Maps
set_option linter.unusedVariables false
set_option linter.unusedSimpArgs false

set_option maxRecDepth 100000 in
set_option maxHeartbeats 4000000 in
theorem moves_calls (w : World) (A0 : Option Addr) (n0 c0 : Nat) (xs : List Int) (hx : (Kd.int .u8).C w A0 n0 xs) (A1 : Option Addr) (n1 c1 : Nat) (ys : List Int) (hy : (Kd.int .u8).C w A1 n1 ys) (A2 : Option Addr) (n2 c2 : Nat) (zs : List Int) (hz : (Kd.int .u8).C w A2 n2 zs) (keep : Int) (hn0 : n0 ≤ 140737488351232) (hn1 : n1 ≤ 140737488351232) (hn2 : n2 ≤ 140737488351232) :
    Calls Try.prog 5 #[.slice A0 n0 c0, .slice A1 n1 c1, .slice A2 n2 c2, .int .i64 keep] w fun e w' => e = .returned (.bool true) ∧ Below w.heap.size w w' := by
  have HNew := Aside0.mk (new_disk w 1048576 (by decide))
  have X := Aside0.mk hx
  have Y := Aside0.mk hy
  have Z := Aside0.mk hz
  have EX : Aside0 (xs.length = n0) := ⟨hx.1⟩
  have EY : Aside0 (ys.length = n1) := ⟨hy.1⟩
  have EZ : Aside0 (zs.length = n2) := ⟨hz.1⟩
  clear hx hy hz
  go_enter Try.func5, Try.ntmps5
  go_wp2_with fail
  refine HNew.out.mono ?_
  rintro e w1 ⟨d, rfl, hD, hbl⟩
  have L1 : Aside0 (LS w d ⟨[], 1048576, 0, false⟩ (fun _ => False) w1) := ⟨⟨hD, hbl⟩⟩
  clear hD hbl HNew
  go_wp2_with fail
  refine (alive_calls w1).mono ?_
  rintro e w2 ⟨rfl, hb⟩
  have L2 := Aside0.mk (L1.out.below hb)
  clear hb L1
  by_cases hsz : n0 + n1 + n2 ≤ 5000
  · have hsz' : ¬ (5000 : Int) < n0 + n1 + n2 := by omega
    have S := Aside0.mk hsz
    clear hsz
    have HA1 := Aside0.mk (mv_a1 xs (by have := EX.out; have := S.out; omega))
    have HA2 := Aside0.mk (mv_a2 xs ys (by have := EX.out; have := EY.out; have := S.out; omega))
    obtain ⟨ws, hws⟩ : ∃ ws, xs ++ zs = ws := ⟨_, rfl⟩
    have HA3 := Aside0.mk (mv_a3 xs ys zs (by have := EX.out; have := EY.out; have := EZ.out; have := S.out; omega))
    rw [hws] at HA3
    have HW := Aside0.mk hws
    have HL : Aside0 (ws.length = n0 + n2) := ⟨by rw [← hws, List.length_append, EX.out, EZ.out]⟩
    have g1 : 0 ≤ min (max keep 0) (n2 : Int) := Int.le_min.2 ⟨Int.le_max_right _ _, by omega⟩
    have g2 : min (max keep 0) (n2 : Int) ≤ n2 := Int.min_le_right _ _
    clear hws
    go_wp2_with (first
      | (go_at_call 14; refine (ls_create L3.out ⟨#[98]⟩ mv_c2 (by decide) (by decide)).mono ?_; rintro e w4 ⟨rfl, hL⟩; have L4 := Aside0.mk hL; clear hL L3)
      | (go_at_call 14; refine (ls_create L2.out ⟨#[97]⟩ mv_c1 (by decide) (by decide)).mono ?_; rintro e w3 ⟨rfl, hL⟩; have L3 := Aside0.mk hL; clear hL L2)
      | (go_at_call 16; refine (ls_append L7.out ⟨#[97]⟩ A2 n2 c2 zs (Kd.C_below Z.out L7.out.old) HA3.out (by decide) (by rw [mv_used]; have := EX.out; have := EY.out; have := S.out; omega)).mono ?_; rintro e w8 ⟨rfl, hL⟩; have L8 := Aside0.mk hL; clear hL L7)
      | (go_at_call 16; refine (ls_append L5.out ⟨#[98]⟩ A1 n1 c1 ys (Kd.C_below Y.out L5.out.old) HA2.out (by decide) (by rw [mv_used]; have := EX.out; have := S.out; simp only [List.length_nil]; omega)).mono ?_; rintro e w6 ⟨rfl, hL⟩; have L6 := Aside0.mk hL; clear hL L5)
      | (go_at_call 16; refine (ls_append L4.out ⟨#[97]⟩ A0 n0 c0 xs (Kd.C_below X.out L4.out.old) HA1.out (by decide) (by rw [mv_used]; have := S.out; simp only [List.length_nil]; omega)).mono ?_; rintro e w5 ⟨rfl, hL⟩; have L5 := Aside0.mk hL; clear hL L4)
      | (go_at_call 17; refine (ls_sync L6.out ⟨#[97]⟩ (mv_s xs ys) (by decide)).mono ?_; rintro e w7 ⟨rfl, hL⟩; have L7 := Aside0.mk hL; clear hL L6)
      | (go_at_call 24; refine (ls_rename L10.out ⟨#[97]⟩ ⟨#[99]⟩ (mv_r3 _ _) (by decide) (by decide) (by show 1 < maxLen; decide)).mono ?_; rintro e w11 ⟨rfl, hL⟩; have L11 := Aside0.mk hL; clear hL L10)
      | (go_at_call 24; refine (ls_rename L9.out ⟨#[97]⟩ ⟨#[98]⟩ (mv_r2 _ _ _) (by decide) (by decide) (by show 2 < maxLen; decide)).mono ?_; rintro e w10 ⟨rfl, hL⟩; have L10 := Aside0.mk hL; clear hL L9)
      | (go_at_call 24; refine (ls_rename L8.out ⟨#[97]⟩ ⟨#[97]⟩ (mv_r1 _ _ _) (by decide) (by decide) (by show 2 < maxLen; decide)).mono ?_; rintro e w9 ⟨rfl, hL⟩; have L9 := Aside0.mk hL; clear hL L8)
      | (go_at_call 23; refine (ls_names L11.out (by show 1 * 16 ≤ 140737488355328; decide)).mono ?_; rintro e w12 ⟨v, rfl, AN, cn, rfl, hro, hb⟩; have L12 := Aside0.mk (L11.out.below hb); clear hro hb L11)
      | (at_builtin; refine list_app w.heap.size rfl (.tmp 84) (.tmp 85) 28 5 .u8 1 rfl Try.underlying28 cut_info (by decide) (.slice AA xs.length cc) xs zs A2 n2 c2 rfl rfl L13.out.row (Kd.C_below Z.out L13.out.ls.old) L13.out.ls.old.size (by have := S.out; have := EX.out; omega) ?_; intro AB cz nn w14 hn1 ho1 hk1 hl1; obtain ⟨rfl, hres⟩ := mv_grow L13.out HW.out hn1 ho1 hk1 hl1; have L14 := Aside0.mk hres; clear hn1 ho1 hk1 hl1 hres L13)
      | (at_builtin; refine list_app w.heap.size rfl (.tmp 82) (.tmp 83) 28 5 .u8 1 rfl Try.underlying28 cut_info (by decide) (.slice (some ⟨w12.heap.size, 0, none⟩) 0 0) [] xs A0 n0 c0 rfl rfl (mv_row0 L12.out).row (Kd.C_below X.out (mv_row0 L12.out).ls.old) (mv_row0 L12.out).ls.old.size (by have := S.out; simp only [List.length_nil]; omega) ?_; intro AA cc nn w13 hn1 ho1 hk1 hl1; obtain ⟨rfl, hres⟩ := mv_grow1 L12.out hn1 ho1 hk1 hl1; have L13 := Aside0.mk hres; clear hn1 ho1 hk1 hl1 hres L12))
    refine (mv_read1 L14.out (by have := HL.out; have := S.out; omega)).mono ?_
    rintro e w15 ⟨B, cb, rfl, hbo⟩
    have L15 := Aside0.mk hbo
    clear hbo L14
    go_wp2_with fail
    refine (mv_crash1 L15.out (by have := HL.out; have := EX.out; omega) keep).mono ?_
    rintro e w16 ⟨rfl, n, hn, hnl, hbo⟩
    have L16 := Aside0.mk hbo
    have hcm : (n0 : Int) + min (max keep 0) n2 = n := by
      rw [hn, HL.out, EX.out]
      have e1 : ((n0 + n2 : Nat) : Int) - n0 = n2 := by omega
      rw [e1]
    have HNL := Aside0.mk hnl
    have hn1 : n ≤ 5000 := by have := HL.out; have := S.out; omega
    clear hbo L15 hn hnl
    go_wp2_with fail
    refine (mv_read2 L16.out HNL.out (by have := HL.out; have := S.out; omega)).mono ?_
    rintro e w17 ⟨D, cd, rfl, hca, hls, hc1, hc2, hc3⟩
    have L17 := Aside0.mk hls
    have C1 := Aside0.mk hc1
    have C2 := Aside0.mk hc2
    have C3 := Aside0.mk hc3
    have hcut := cut_b ws.length cz n AB HNL.out hca
    clear hls hc1 hc2 hc3 hca
    have T1 := Aside0.mk (sameBytes_calls w17 B ws.length cb ws AB ws.length cz ws C3.out C2.out)
    have T2 : Aside0 (∀ w18, Below w17.heap.size w17 w18 → Calls Try.prog 20 #[.slice D n cd, .slice AB n cz] w18 fun e w' => e = .returned (.bool (decide (ws.take n = ws.take n))) ∧ Drawn0 w18 w') :=
      ⟨fun w18 hb => sameBytes_calls w18 D n cd (ws.take n) AB n cz (ws.take n) (Kd.C_below C1.out hb) (C_take (Kd.C_below C2.out hb) n HNL.out)⟩
    rw [decide_eq_true rfl] at T1
    rw [decide_eq_true rfl] at T2
    clear C1 C2 C3
    go_wp2_with (first
      | (go_at_call 20; refine T1.out.mono ?_; rintro e w18 ⟨rfl, hd⟩; have HD := Aside0.mk hd.below; clear hd T1)
      | (go_at_call 20; refine (T2.out _ HD.out).mono ?_; rintro e w19 ⟨rfl, hd⟩; have L19 := Aside0.mk (L17.out.below (HD.out.trans (hd.below.mono HD.out.size))); clear hd L17 T2 HD)
      | (go_at_call 25; refine (mv_room L19.out HNL.out).mono ?_; rintro e w20 ⟨rfl, j, rfl⟩; have LE := Aside0.mk (pw_below_drewN L19.out.old j); clear L19))
    go_ret; exact ⟨ret_b (by simp), LE.out⟩
  · have hsz' : (5000 : Int) < n0 + n1 + n2 := by omega
    have S := Aside0.mk L2.out.old
    go_wp2
    go_ret; exact ⟨rfl, S.out⟩
end Go.Proofs.Ythjdgiobchiloaa
