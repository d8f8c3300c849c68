/-
  What is proved: colloquylaw07.same tells that a disk is what the document's is, where both are the model's disk; of fewer than 2^40 files, at most 2^47 bytes.
-/
import Derived.Test.YthjdgiobchiloaaRk4
import Derived.Deep.RegionHeld3
import Derived.IntWalk
namespace Go.Proofs.Ythjdgiobchiloaa
open Go.RowKit Go.Proofs.YthjdgiobchiloaaW.PrintWords Go.Maps
set_option linter.unusedVariables false
set_option linter.unusedSimpArgs false

theorem used_mem {l : List AF} {j : Nat} {f : AF} (h : l[j]? = some f) : f.bs.length ≤ Vm.used l := by
  obtain ⟨hl, e⟩ := List.getElem?_eq_some_iff.1 h
  have h1 := used_step l j hl
  have h2 := used_drop_le l j
  rw [e] at h1
  omega
/-- A row of bytes of the call's own, whatever they are. -/
def OwnB (w : World) (base : Nat) (A : Option Addr) (n c : Nat) : Prop := ∃ xs : List Int, w.ownsRow base 5 1 (.slice A n c) n (nums .u8 xs)
/-- The relation of same's outer loop. -/
def SmRel (w : World) (v : Value) (fl : List AF) (most fuse : Int) (down : Bool) (An : Option Addr) (cn n : Nat) (i : Value) (wr : World) : Prop :=
  ∃ k : Nat, k ≤ n ∧ i = .int .i64 k ∧ wr.ownsRow (w.heap.size + 1) 9 1 (.slice An n cn) n (fl.map (fun f => Value.string f.nm)) ∧
    wr.heap[w.heap.size]? = some (.cells #[v, .int .i64 most, .int .i64 fuse, .bool down] 50 (0, 0)) ∧ Below w.heap.size w wr
theorem sm_below {w wr w1 : World} {v : Value} {fl : List AF} {most fuse : Int} {down : Bool} {An : Option Addr} {cn n : Nat} {i : Value} (h : SmRel w v fl most fuse down An cn n i wr) (hb : Below wr.heap.size wr w1) : SmRel w v fl most fuse down An cn n i w1 := by
  obtain ⟨k, h1, h2, h3, h4, h5⟩ := h
  exact ⟨k, h1, h2, pw_own_below h3 hb, blk_below h4 hb, below_then h5 h5.size hb⟩
theorem sm_step {w wr : World} {v : Value} {fl : List AF} {most fuse : Int} {down : Bool} {An : Option Addr} {cn n k : Nat} (h : SmRel w v fl most fuse down An cn n (.int .i64 k) wr) (hk : k < n) : SmRel w v fl most fuse down An cn n (.int .i64 (k + 1)) wr := by
  obtain ⟨k', h1, h2, h3⟩ := h
  injection h2 with _ h2
  have : k = k' := by omega
  subst this
  exact ⟨k + 1, by omega, rfl, h3⟩
theorem names_cell {w : World} {base n c : Nat} {A : Option Addr} {fl : List AF} (h : w.ownsRow base 9 1 (.slice A n c) n (fl.map (fun f => Value.string f.nm))) {k : Nat} (hk : k < fl.length) (hn : k < n) : ∃ g, A = some ⟨g, 0, none⟩ ∧ w.cell? ⟨g, k, none⟩ = some (.string fl[k].nm) := by
  have h2 := h.2
  rcases h2 with ⟨_, h0⟩ | ⟨g, cap, cur, he, _⟩
  · omega
  · injection he with he _ _
    subst he
    have hc := h.cells (g := g) rfl k (.string fl[k].nm) (by simp [hk])
    rw [add_plain] at hc
    exact ⟨g, rfl, hc⟩
/-- The relation of same's inner loop. -/
def InRel (wo : World) (A : Option Addr) (L c : Nat) (i : Value) (wq : World) : Prop :=
  ∃ (j : Nat) (xs : List Int), j ≤ L ∧ i = .int .i64 j ∧ wq.ownsRow wo.heap.size 5 1 (.slice A L c) L (nums .u8 xs) ∧ Below wo.heap.size wo wq
section
variable {w0 w : World} {d : Nat} {m : AS} {N ok : Nat → Prop} {v : Value}
set_option maxRecDepth 100000 in
set_option maxHeartbeats 8000000 in
theorem same_calls (hL : LS w0 d m N w) (hR : RefAt w ok m.fl v) (hl : m.fl.length ≤ 1099511627770) (hu : Vm.used m.fl ≤ 140737488355328) (hm1 : m.most ≤ 9223372036854775807) :
    Calls Try.prog 30 #[.pointer (some ⟨d, 0, none⟩), fsV m v] w fun e w' => e = .returned (.bool true) ∧ Below w.heap.size w w' := by
  obtain ⟨A, c, rfl, hc⟩ := hR.slice
  have HL := Aside0.mk hL
  have HR := Aside0.mk hR
  have HS := Aside0.mk hL.sorted
  have hum := hL.used_le
  obtain ⟨U, hU⟩ : ∃ U, Vm.used m.fl = U := ⟨_, rfl⟩
  have HU := Aside0.mk hU
  rw [hU] at hu hum
  obtain ⟨fl, most, fuse, down⟩ := m
  simp only at *
  have hwr : IntKind.i64.wrap (most - (U : Int)) = most - U := IntWalk.i64_in _ (by omega)
  have hbl := below_alloc (Below.refl w.heap.size w) (.cells #[.slice A fl.length c, .int .i64 most, .int .i64 fuse, .bool down] 50)
  have HL1 := Aside0.mk (hL.below hbl)
  have HB1 := Aside0.mk hbl
  have HK1 := Aside0.mk (blk_new w (.cells #[.slice A fl.length c, .int .i64 most, .int .i64 fuse, .bool down] 50))
  have FN := Aside0.mk (ls_names HL1.out (by simp only; omega))
  unfold fsV
  simp only at FN ⊢
  clear hL hR hbl hU
  go_enter Try.func30, Try.ntmps30
  go_wp2_with fail
  refine FN.out.mono ?_
  rintro e w1 ⟨vn, rfl, An, cn, rfl, hrow, hb1⟩
  have SR : Aside0 (SmRel w (.slice A fl.length c) fl most fuse down An cn fl.length (.int .i64 0) w1) := ⟨⟨0, Nat.zero_le _, rfl, by have := hrow; simpa using this, blk_below HK1.out hb1, below_then HB1.out (by simp) hb1⟩⟩
  have HL2 := Aside0.mk (HL1.out.below hb1)
  clear hrow hb1 FN HL1 HB1 HK1
  have q0 : w1.cell? ⟨w.heap.size, 0, none⟩ = some (.slice A fl.length c) := by obtain ⟨⟨_, _, _, _, h, _⟩⟩ := SR; exact blk_cell h 0
  have q1 : w1.cell? ⟨w.heap.size, 1, none⟩ = some (.int .i64 most) := by obtain ⟨⟨_, _, _, _, h, _⟩⟩ := SR; exact blk_cell h 1
  have q2 : w1.cell? ⟨w.heap.size, 2, none⟩ = some (.int .i64 fuse) := by obtain ⟨⟨_, _, _, _, h, _⟩⟩ := SR; exact blk_cell h 2
  have q3 : w1.cell? ⟨w.heap.size, 3, none⟩ = some (.bool down) := by obtain ⟨⟨_, _, _, _, h, _⟩⟩ := SR; exact blk_cell h 3
  have FU : Aside0 (∀ wr, Below w.heap.size w wr → Calls Try.prog 64 #[.agg #[.slice A fl.length c, .int .i64 most, .int .i64 fuse, .bool down]] wr fun e w' => e = .returned (.int .i64 U) ∧ Below wr.heap.size wr w') := ⟨fun wr hb => by
    have := ref_used (m := ⟨fl, most, fuse, down⟩) (HR.out.below hb) (by simp only; omega) (by simp only; rw [HU.out]; omega)
    simp only [HU.out] at this
    exact this⟩
  have FD : Aside0 (∀ n, Calls Try.prog 22 #[.pointer (some ⟨d, 0, none⟩)] (w1.drewN n) fun e w' => e = .returned (.bool down) ∧ w1.drewN n = w') := ⟨fun n => ls_down (HL2.out.below (pw_below_drewN (Below.refl _ _) n)) rfl⟩
  have FR : Aside0 (∀ n, Calls Try.prog 25 #[.pointer (some ⟨d, 0, none⟩)] (w1.drewN n) fun e w' => e = .returned (.int .i64 (most - U)) ∧ ∃ k, w' = (w1.drewN n).drewN k) := ⟨fun n => ls_room (HL2.out.below (pw_below_drewN (Below.refl _ _) n)) (by rw [HU.out])⟩
  have SB : Aside0 (∀ n, Below w.heap.size w (w1.drewN n)) := ⟨fun n => by obtain ⟨⟨_, _, _, _, _, h⟩⟩ := SR; exact pw_below_drewN h n⟩
  go_wp2_with fail
  cases down
  · go_region_held3 (fun w' => w'.cell? ⟨w.heap.size, 0, none⟩ = some (.slice A fl.length c) ∧ w'.cell? ⟨w.heap.size, 1, none⟩ = some (.int .i64 most) ∧ w'.cell? ⟨w.heap.size, 2, none⟩ = some (.int .i64 fuse) ∧ w'.cell? ⟨w.heap.size, 3, none⟩ = some (.bool false)) (first | exact ⟨q0, q1, q2, q3⟩ | exact ⟨pw_cell_below hbu q0, pw_cell_below hbu q1, pw_cell_below hbu q2, pw_cell_below hbu q3⟩) (first | (go_at_call 22; refine (FD.out _).mono ?_; rintro e w2 ⟨rfl, rfl⟩) | (go_at_call 25; refine (FR.out _).mono ?_; rintro e w2 ⟨rfl, kk, rfl⟩) | (go_at_call 64; refine (FU.out _ (SB.out _)).mono ?_; rintro e w2 ⟨rfl, hbu⟩))
    have SR2 : Aside0 (SmRel w (.slice A fl.length c) fl most fuse false An cn fl.length (.int .i64 0) w2) := ⟨sm_below SR.out (below_then (pw_below_drewN (Below.refl _ _) _) (Nat.le_refl _) hbu)⟩
    have Q0 : w2.cell? ⟨w.heap.size, 0, none⟩ = some (.slice A fl.length c) := pw_cell_below hbu q0
    clear SR SB FU FD FR q0 q1 q2 q3 hbu hwr
    go_wp2
    go_loopw [39] (fun i wr => Aside0 (SmRel w (.slice A fl.length c) fl most fuse false An cn fl.length i wr)) (fun i _ => fl.length - (intOf i).toNat)
    case atStart => exact SR2
    case round =>
      obtain ⟨hrel⟩ := hrel
      clear SR2 Q0
      have hrel' := hrel
      obtain ⟨k, hk, rfl, hrow, hbx, hbl⟩ := hrel'
      have HREL := Aside0.mk hrel
      by_cases hlt : k < fl.length
      · obtain ⟨ad, B, cb, rfl, hF⟩ := (HR.out.below hbl).at_ k hlt
        have p0 := hF.c0
        have p1 := hF.c1
        have p2 := hF.c2
        have q3 : wr.cell? ⟨w.heap.size, 3, none⟩ = some (.bool false) := blk_cell hbx 3
        have hA := below_alloc (Below.refl wr.heap.size wr) (.cells #[.string fl[k].nm, .slice B fl[k].bs.length cb, .int .i64 fl[k].safe] 104)
        have HA := Aside0.mk hA
        have BX := Aside0.mk (blk_new wr (.cells #[.string fl[k].nm, .slice B fl[k].bs.length cb, .int .i64 fl[k].safe] 104))
        have HV := Aside0.mk (hF.below hA).bv
        have hfk : Vm.find fl fl[k].nm = some fl[k] := find_at HS.out (List.getElem?_eq_getElem hlt)
        have hkn : (k : Int) < fl.length := by omega
        have hblA := below_then hbl hbl.size hA
        have FRd := Aside0.mk (ls_read (HL.out.below hblA) fl[k].nm (bs := fl[k].bs) (r := 0) (by unfold Vm.read; simp only; rw [hfk]; rfl) (HL.out.nm_le (List.getElem_mem _)) (by simp only; rw [HU.out]; omega))
        have SRb := Aside0.mk (sm_below hrel hA)
        have HNC := Aside0.mk (fun W (h : SmRel w (.slice (some ad) fl.length c) fl most fuse false An cn fl.length (.int .i64 k) W) => names_cell h.choose_spec.2.2.1 hlt hlt)
        have HLEN : Aside0 (fl[k].bs.length ≤ U) := ⟨by have := used_mem (List.getElem?_eq_getElem hlt); rw [HU.out] at this; exact this⟩
        clear hF hfk hA hblA hrow hbx hrel
        generalize fl[k] = f at *
        go_wp2_with fail
        refine FRd.out.mono ?_
        rintro e w3 ⟨vb, rfl, Ab, cbb, rfl, hown, hb3⟩
        have SRc := Aside0.mk (sm_below SRb.out hb3)
        obtain ⟨gn, hgn, hnc⟩ := HNC.out _ SRc.out
        subst hgn
        have hbx3 := blk_below BX.out hb3
        have x0 : w3.cell? ⟨wr.heap.size, 0, none⟩ = some (.string f.nm) := blk_cell hbx3 0
        have x1 : w3.cell? ⟨wr.heap.size, 1, none⟩ = some (.slice B f.bs.length cb) := blk_cell hbx3 1
        have q3' : w3.cell? ⟨w.heap.size, 3, none⟩ = some (.bool false) := by obtain ⟨⟨_, _, _, _, h, _⟩⟩ := SRc; exact blk_cell h 3
        have hn0 : (0 : Int) ≤ k := Int.natCast_nonneg k
        have HV3 := Aside0.mk (Kd.V_below HV.out hb3)
        have HB3 := Aside0.mk (below_then HA.out HA.out.size hb3)
        have OW := Aside0.mk hown
        clear hown hb3 hbx3 HNC FRd BX HV SRb p0 p1 p2 q3
        go_wp2_with fail
        go_quiet (fail)
        have FS : Aside0 (∀ n, Calls Try.prog 20 #[.slice Ab f.bs.length cbb, .slice B f.bs.length cb] (w3.drewN n) fun e w' => e = .returned (.bool true) ∧ ∃ k, w' = w3.drewN k) := ⟨fun n => (sameBytes_calls (w3.drewN n) Ab f.bs.length cbb f.bs B f.bs.length cb f.bs (C_of_own OW.out) (BV.C HV3.out).1).mono (by
          rintro e w' ⟨rfl, ⟨k, rfl⟩⟩
          exact ⟨by simp, n + k, by simp⟩)⟩
        go_wp2_with fail
        refine (FS.out _).mono ?_
        rintro e w4 ⟨rfl, kk, rfl⟩
        obtain ⟨wo, hwo⟩ : ∃ wo : World, wo = wr := ⟨_, rfl⟩
        subst hwo
        have S1 : Aside0 (InRel wo Ab f.bs.length cbb (.int .i64 0) (w3.drewN kk)) := ⟨⟨0, f.bs, Nat.zero_le _, rfl, own_weaken (show (w3.drewN kk).ownsRow _ _ _ _ _ _ from OW.out) (by simp), pw_below_drewN HB3.out kk⟩⟩
        have hLu : f.bs.length ≤ 140737488355328 := by have := HLEN.out; omega
        clear x0 x1 q3' HV3 HB3 OW SRc HA FS
        go_wp2
        go_loopw [73, 10] (fun i _ wq => Aside0 (InRel wo Ab f.bs.length cbb i wq)) (fun i _ _ => f.bs.length - (intOf i).toNat)
        case atStart => exact S1
        case round =>
          obtain ⟨⟨j, xs, hj, rfl, hown, hbq⟩⟩ := hrel
          clear S1
          by_cases hjl : j < f.bs.length
          · have h2 := hown.2
            rcases h2 with ⟨_, h0⟩ | ⟨gb, cap, cur, he, hgb, _⟩
            · omega
            · injection he with he _ hcap
              subst he hcap
              have hj0 : (0 : Int) ≤ j := Int.natCast_nonneg j
              have hj1 : (j : Int) < f.bs.length := by omega
              obtain ⟨c1, c2⟩ := own_at hown (j : Int) hj0 hj1
              have hst := own_store hown (j : Int) 99
              rw [Int.toNat_natCast] at c1 c2 hst
              have NX : Aside0 (InRel wo (some ⟨gb, 0, none⟩) f.bs.length cbb (.int .i64 (j + 1)) (wr.setCell ⟨gb, j, none⟩ (.int .u8 99))) := ⟨⟨j + 1, _, by omega, rfl, hst.1, pw_below_grown hbq _ hbq.size hst.2 (fun k hk => by injection hk with hk; omega)⟩⟩
              clear hown hbq hst hgb
              go_wp2
              go_roundw
              case rel => exact NX
              case measure => simp [intOf]; omega
          · have hj1 : ¬ (j : Int) < f.bs.length := by omega
            have NX : Aside0 (SmRel w (.slice (some ad) fl.length c) fl most fuse false (some ⟨gn, 0, none⟩) cn fl.length (.int .i64 (k + 1)) wr) := ⟨sm_step (sm_below HREL.out hbq) hlt⟩
            clear hown hbq
            go_wp2
            go_roundw
            case rel => exact NX
            case measure => simp [intOf]; omega
      · have hkn : ¬ (k : Int) < fl.length := by omega
        have HBL := Aside0.mk hbl
        clear hrow hbx hbl hrel
        go_wp2
        go_ret
        exact ⟨rfl, HBL.out⟩
  · go_region_held3 (fun w' => w'.cell? ⟨w.heap.size, 0, none⟩ = some (.slice A fl.length c) ∧ w'.cell? ⟨w.heap.size, 1, none⟩ = some (.int .i64 most) ∧ w'.cell? ⟨w.heap.size, 2, none⟩ = some (.int .i64 fuse) ∧ w'.cell? ⟨w.heap.size, 3, none⟩ = some (.bool true)) (first | exact ⟨q0, q1, q2, q3⟩ | exact ⟨pw_cell_below hbu q0, pw_cell_below hbu q1, pw_cell_below hbu q2, pw_cell_below hbu q3⟩) (first | (go_at_call 22; refine (FD.out _).mono ?_; rintro e w2 ⟨rfl, rfl⟩) | (go_at_call 25; refine (FR.out _).mono ?_; rintro e w2 ⟨rfl, kk, rfl⟩) | (go_at_call 64; refine (FU.out _ (SB.out _)).mono ?_; rintro e w2 ⟨rfl, hbu⟩))
    have SR2 : Aside0 (SmRel w (.slice A fl.length c) fl most fuse true An cn fl.length (.int .i64 0) w2) := ⟨sm_below SR.out (below_then (pw_below_drewN (Below.refl _ _) _) (Nat.le_refl _) hbu)⟩
    have Q0 : w2.cell? ⟨w.heap.size, 0, none⟩ = some (.slice A fl.length c) := pw_cell_below hbu q0
    clear SR SB FU FD FR q0 q1 q2 q3 hbu hwr
    go_wp2
    go_loopw [39] (fun i wr => Aside0 (SmRel w (.slice A fl.length c) fl most fuse true An cn fl.length i wr)) (fun i _ => fl.length - (intOf i).toNat)
    case atStart => exact SR2
    case round =>
      obtain ⟨hrel⟩ := hrel
      clear SR2 Q0
      have hrel' := hrel
      obtain ⟨k, hk, rfl, hrow, hbx, hbl⟩ := hrel'
      have HREL := Aside0.mk hrel
      by_cases hlt : k < fl.length
      · obtain ⟨ad, B, cb, rfl, hF⟩ := (HR.out.below hbl).at_ k hlt
        have p0 := hF.c0
        have p1 := hF.c1
        have p2 := hF.c2
        have q3 : wr.cell? ⟨w.heap.size, 3, none⟩ = some (.bool true) := blk_cell hbx 3
        have hA := below_alloc (Below.refl wr.heap.size wr) (.cells #[.string fl[k].nm, .slice B fl[k].bs.length cb, .int .i64 fl[k].safe] 104)
        have HA := Aside0.mk hA
        have BX := Aside0.mk (blk_new wr (.cells #[.string fl[k].nm, .slice B fl[k].bs.length cb, .int .i64 fl[k].safe] 104))
        have HV := Aside0.mk (hF.below hA).bv
        have hfk : Vm.find fl fl[k].nm = some fl[k] := find_at HS.out (List.getElem?_eq_getElem hlt)
        have hkn : (k : Int) < fl.length := by omega
        have hblA := below_then hbl hbl.size hA
        have FRd := Aside0.mk (ls_read (HL.out.below hblA) fl[k].nm (bs := []) (r := 70) (by unfold Vm.read; simp only; rfl) (HL.out.nm_le (List.getElem_mem _)) (by simp only; rw [HU.out]; omega))
        have SRb := Aside0.mk (sm_below hrel hA)
        have HNC := Aside0.mk (fun W (h : SmRel w (.slice (some ad) fl.length c) fl most fuse true An cn fl.length (.int .i64 k) W) => names_cell h.choose_spec.2.2.1 hlt hlt)
        have HLEN : Aside0 (fl[k].bs.length ≤ U) := ⟨by have := used_mem (List.getElem?_eq_getElem hlt); rw [HU.out] at this; exact this⟩
        clear hF hfk hA hblA hrow hbx hrel
        generalize fl[k] = f at *
        go_wp2_with fail
        refine FRd.out.mono ?_
        rintro e w3 ⟨vb, rfl, Ab, cbb, rfl, hown, hb3⟩
        have SRc := Aside0.mk (sm_below SRb.out hb3)
        obtain ⟨gn, hgn, hnc⟩ := HNC.out _ SRc.out
        subst hgn
        have hbx3 := blk_below BX.out hb3
        have x0 : w3.cell? ⟨wr.heap.size, 0, none⟩ = some (.string f.nm) := blk_cell hbx3 0
        have x1 : w3.cell? ⟨wr.heap.size, 1, none⟩ = some (.slice B f.bs.length cb) := blk_cell hbx3 1
        have q3' : w3.cell? ⟨w.heap.size, 3, none⟩ = some (.bool true) := by obtain ⟨⟨_, _, _, _, h, _⟩⟩ := SRc; exact blk_cell h 3
        have hn0 : (0 : Int) ≤ k := Int.natCast_nonneg k
        have HV3 := Aside0.mk (Kd.V_below HV.out hb3)
        have HB3 := Aside0.mk (below_then HA.out HA.out.size hb3)
        have OW := Aside0.mk hown
        clear hown hb3 hbx3 HNC FRd BX HV SRb p0 p1 p2 q3
        go_wp2_with fail
        go_quiet (fail)
        have NX : Aside0 (∀ n, SmRel w (.slice (some ad) fl.length c) fl most fuse true (some ⟨gn, 0, none⟩) cn fl.length (.int .i64 (k + 1)) (w3.drewN n)) := ⟨fun n => sm_step (sm_below SRc.out (pw_below_drewN (Below.refl _ _) n)) hlt⟩
        clear x0 x1 HV3 HB3 OW SRc HREL HA
        go_wp2
        go_roundw
        case rel => exact ⟨NX.out _⟩
        case measure => simp [intOf]; omega
      · have hkn : ¬ (k : Int) < fl.length := by omega
        have HBL := Aside0.mk hbl
        clear hrow hbx hbl hrel
        go_wp2
        go_ret
        exact ⟨rfl, HBL.out⟩
end
end Go.Proofs.Ythjdgiobchiloaa
