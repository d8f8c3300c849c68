/-
  What is proved: VfsRoom answers true of any input.
-/
import Derived.Test.YthjdgiobchiloaaRm0
namespace Go.Proofs.Ythjdgiobchiloaa
open Go.RowKit Go.Proofs.YthjdgiobchiloaaW.PrintWords Go.Maps
set_option linter.unusedVariables false
set_option linter.unusedSimpArgs false

def RoomRel (w : World) (d n R kq : Nat) (i : Value) (wr : World) : Prop :=
  ∃ (k : Nat) (m : AS), k + kq = n ∧ i = .int .i64 k ∧ LS w d m (fun _ => False) wr ∧ m.fuse = 0 ∧ m.down = false ∧ m.most = R ∧ m.fl.length ≤ min k 100

set_option maxRecDepth 100000 in
set_option maxHeartbeats 8000000 in
theorem room_law (w : World) (room : Int) (As : Option Addr) (n c : Nat) (X : Nat → OpRow) (hX : OpsAt w As n X) (hn : n ≤ 9223372036854775807) :
    Calls Try.prog 6 #[.int .i64 room, .slice As n c] w fun e w' => e = .returned (.bool true) ∧ Below w.heap.size w w' := by
  obtain ⟨R, hR, hR2⟩ : ∃ R : Nat, bits .and .i64 room 255 = (R : Int) ∧ R ≤ 255 := by
    have h := and_small room 255 (by decide)
    have h1 : 0 ≤ bits .and .i64 room 255 := h.1
    have h2 : bits .and .i64 room 255 ≤ 255 := h.2
    exact ⟨(bits .and .i64 room 255).toNat, by omega, by omega⟩
  have HNew := Aside0.mk (new_disk w R (by omega))
  have HP := Aside0.mk hX
  clear hX
  go_enter Try.func6, Try.ntmps6
  go_wp2_with fail
  refine HNew.out.mono ?_
  rintro e w1 ⟨d, rfl, hD, hbl⟩
  have e0 : max (R : Int) 0 = R := by omega
  rw [e0] at hD
  have L1 : Aside0 (LS w d ⟨[], R, 0, false⟩ (fun _ => False) w1) := ⟨⟨hD, hbl⟩⟩
  clear hD hbl HNew e0
  go_wp2_with fail
  refine (alive_calls w1).mono ?_
  rintro e w2 ⟨rfl, hb⟩
  have L2 := Aside0.mk (L1.out.below hb)
  clear hb L1
  go_wp2
  go_loopg [27] n (fun kq i wr => Aside0 (RoomRel w d n R kq i wr))
  case atStart => exact ⟨0, _, by omega, rfl, L2.out, rfl, rfl, rfl, by simp⟩
  case round =>
    obtain ⟨⟨k, m, hk, rfl, hL, hu, hd, hmo, hfl⟩⟩ := hrel
    clear L2
    by_cases hlt : k < n
    · obtain ⟨ad, rfl, hcells, hok⟩ := (HP.out.below hL.old) k hlt
      have hkn : (k : Int) < n := by omega
      have L3 := Aside0.mk hL
      have HU := Aside0.mk hu
      have HD := Aside0.mk hd
      have HM := Aside0.mk hmo
      have HF := Aside0.mk hfl
      have HO := Aside0.mk hok
      have HC := Aside0.mk hcells
      obtain ⟨x, hx⟩ : ∃ x, X k = x := ⟨_, rfl⟩
      rw [hx] at HO HC
      have HX := Aside0.mk hx
      clear hx
      obtain ⟨⟨kind, a, z, nn, b, keep⟩, B, cb, K, ck⟩ := x
      have q0 : wr.cell? (ad.add (k * 6)) = some (.int .i64 kind) := HC.out 0 _ rfl
      have q1 : wr.cell? ⟨(ad.add (k * 6)).block, (ad.add (k * 6)).off + 1, none⟩ = some (.string a) := HC.out 1 _ rfl
      have q2 : wr.cell? ⟨(ad.add (k * 6)).block, (ad.add (k * 6)).off + 2, none⟩ = some (.string z) := HC.out 2 _ rfl
      have q3 : wr.cell? ⟨(ad.add (k * 6)).block, (ad.add (k * 6)).off + 3, none⟩ = some (.int .i64 nn) := HC.out 3 _ rfl
      have q4 : wr.cell? ⟨(ad.add (k * 6)).block, (ad.add (k * 6)).off + 4, none⟩ = some (.slice B b.length cb) := HC.out 4 _ rfl
      have q5 : wr.cell? ⟨(ad.add (k * 6)).block, (ad.add (k * 6)).off + 5, none⟩ = some (.slice K keep.length ck) := HC.out 5 _ rfl
      clear hL hu hd hmo hfl hok hcells
      by_cases hskip : k < 100 ∧ b.length ≤ 1000
      · obtain ⟨h100, h1000⟩ := hskip
        have hk100 : (k : Int) < 100 := by omega
        have hb1000 : (b.length : Int) ≤ 1000 := by omega
        have LA := Aside0.mk (LO.mk0 L3.out (.cells #[.int .i64 kind, .string a, .string z, .int .i64 nn, .slice B b.length cb, .slice K keep.length ck] 45))
        have hlen : m.fl.length ≤ 100 := by have := HF.out; omega
        have US := Aside0.mk L3.out.used_le
        have hob := Aside0.mk (HO.out.below (below_lit wr (.cells #[.int .i64 kind, .string a, .string z, .int .i64 nn, .slice B b.length cb, .slice K keep.length ck] 45)))
        have SO := Aside0.mk L3.out.sorted
        have hU : (Vm.used m.fl : Int) ≤ R := by rw [← HM.out]; exact US.out
        have RK : Aside0 ((Kd.int .i64).C w K keep.length keep) := ⟨by obtain ⟨_, _, _, h⟩ := HP.out k hlt; have := h.rk; rw [HX.out] at this; exact this⟩
        clear L3 HC HP
        go_wp2_with fail
        refine (lo_room LA.out (r := R - Vm.used m.fl) (by rw [HM.out])).mono ?_
        rintro e w4 ⟨rfl, j4, rfl⟩
        have LB := Aside0.mk (LA.out.drewN j4)
        have hob4 := Aside0.mk (hob.out.below (pw_below_drewN (Below.refl _ _) j4))
        obtain ⟨U, hUe⟩ : ∃ U, U = Vm.used m.fl := ⟨_, rfl⟩
        rw [← hUe] at hU ⊢
        have HUe := Aside0.mk hUe
        clear LA hob hUe q0 q1 q2 q3 q4 q5
        by_cases h16 : 1 ≤ kind ∧ kind ≤ 6
        · obtain ⟨h1, h6⟩ := h16
          go_wp2_with fail
          refine (lo_does LB.out hob4.out (by unfold maxLen; omega) (by rw [← HUe.out]; show (U : Int) + b.length ≤ _; omega)).mono ?_
          have DK0 := does_ok HU.out HD.out SO.out ⟨kind, a, z, nn, b, keep⟩
          obtain ⟨m', hm'⟩ : ∃ m', m' = (Vm.does m ⟨kind, a, z, nn, b, keep⟩).1 := ⟨_, rfl⟩
          obtain ⟨r, hr⟩ : ∃ r, r = (Vm.does m ⟨kind, a, z, nn, b, keep⟩).2 := ⟨_, rfl⟩
          rw [← hm', ← hr] at DK0 ⊢
          rintro e wo ⟨rfl, hlo⟩
          have LZ := Aside0.mk hlo
          have DK : Aside0 (DoesOk m kind b.length m' r) := ⟨DK0⟩
          clear hlo DK0 hm' hr LB hob4
          obtain ⟨l, hl⟩ : ∃ l, m'.fl.length = l := ⟨_, rfl⟩
          have hl101 : l ≤ 101 := by have := DK.out.len; omega
          have HL := Aside0.mk hl
          clear hl
          go_wp2_with fail
          refine (lo_names LZ.out (by rw [HL.out]; omega)).mono ?_
          rw [HL.out]
          rintro e w5 ⟨A, cn, rfl, hrow, hlo⟩
          obtain ⟨g, hg⟩ : ∃ g, g = wr.heap.size := ⟨_, rfl⟩
          rw [← hg] at hlo ⊢
          have LT : Aside0 (TotRel w d m' g (.cells #[.int .i64 kind, .string a, .string z, .int .i64 nn, .slice B b.length cb, .slice K keep.length ck] 45) A cn l l (.int .i64 0) (.int .i64 0) w5) := ⟨⟨0, by omega, rfl, rfl, hlo, hrow⟩⟩
          clear hrow hlo LZ hg
          go_wp2
          obtain ⟨g0, hg0⟩ : ∃ g0, g0 = gk := ⟨_, rfl⟩
          subst hg0
          go_loopg [10, 63] l (fun kq tot i wq => Aside0 (TotRel w d m' g (.cells #[.int .i64 kind, .string a, .string z, .int .i64 nn, .slice B b.length cb, .slice K keep.length ck] 45) A cn l kq tot i wq))
          case atStart => exact LT
          case round =>
            obtain ⟨⟨j, hj, rfl, rfl, hlo, hrow⟩⟩ := hrel
            clear LT
            by_cases hjl : j < l
            · obtain ⟨gg, nm, L, rfl, hcell, hsum, hmax, hread⟩ := tot_round hlo hrow HL.out hjl DK.out.down (by rw [DK.out.most, HM.out]; omega)
              have RD := Aside0.mk hread
              have SM := Aside0.mk hsum
              have hmx : (Vm.used (m'.fl.take (j + 1)) : Int) ≤ 255 := by rw [DK.out.most, HM.out] at hmax; omega
              obtain ⟨T, hT⟩ : ∃ T, T = Vm.used (m'.fl.take j) := ⟨_, rfl⟩
              rw [← hT] at SM ⊢
              have hTL : T + L ≤ 255 := by have := SM.out; omega
              have hjl' : (j : Int) < l := by omega
              clear hT hread hsum hmax hmx hlo hrow
              go_wp2_with fail
              refine RD.out.mono ?_
              rintro e w6 ⟨D, cd, rfl, hlo, hrow⟩
              have NX := Aside0.mk (And.intro hlo hrow)
              clear hlo hrow RD
              go_wp2
              go_roundg (gk - 1)
              case measure => omega
              case rel => exact ⟨j + 1, by omega, congrArg (Value.int .i64) (by have := SM.out; omega), rfl, NX.out.1, NX.out.2⟩
            · have hje : j = l := by omega
              subst hje
              obtain ⟨U', hUe'⟩ : ∃ U', U' = Vm.used m'.fl := ⟨_, rfl⟩
              have hU' : Vm.used (m'.fl.take j) = U' := by rw [hUe', ← HL.out, List.take_length]
              rw [hU']
              have hUR : (U' : Int) ≤ R := by have := hlo.ls.used_le; rw [DK.out.most, HM.out, ← hUe'] at this; exact this
              have QR : Aside0 (∀ n, Calls Try.prog 25 #[.pointer (some ⟨d, 0, none⟩)] (wr.drewN n) fun e w' => e = .returned (.int .i64 (R - U')) ∧ ∃ m, w' = (wr.drewN n).drewN m) :=
                ⟨fun n => lo_room (hlo.drewN n) (by rw [DK.out.most, HM.out, ← hUe'])⟩
              have p0 : wr.cell? ⟨g, 0, none⟩ = some (.int .i64 kind) := blk_cell hlo.blk 0
              have p4 : wr.cell? ⟨g, 4, none⟩ = some (.slice B b.length cb) := blk_cell hlo.blk 4
              have NXT : Aside0 (∀ j, Aside0 (RoomRel w d n R (g0 - 1) (.int .i64 (k + 1)) (wr.drewN j))) := ⟨fun j => ⟨k + 1, m', by omega, rfl, (hlo.drewN j).drop, DK.out.fuse, DK.out.down, DK.out.most.trans HM.out, by have := DK.out.len; have := HF.out; omega⟩⟩
              have hput : Aside0 (kind = 2 → r = 0 → U' = U + b.length) := ⟨fun h1 h2 => by rw [hUe', HUe.out]; exact DK.out.put h1 h2⟩
              have hful : Aside0 (r = 71 → U' = U ∧ (R : Int) - U < b.length) := ⟨fun h => by obtain ⟨h1, h2⟩ := DK.out.full h; rw [hUe', HUe.out, h1]; rw [HM.out] at h2; exact ⟨rfl, h2⟩⟩
              clear hlo hrow hjl hU' hUe' hj
              have n0 : ((R : Int) - U' < 0) = False := eq_false (by omega)
              have n1 : decide ((R : Int) - U' < 0) = false := decide_eq_false (by omega)
              go_wp2
              by_cases h71 : r = 71
              · obtain ⟨e1, e2⟩ := hful.out h71
                subst h71
                subst e1
                have hd1 : decide ((b.length : Int) ≤ R - U') = false := decide_eq_false (by omega)
                by_cases hk2 : kind = 2
                · have kb : (kind == 2) = true := beq_iff_eq.2 hk2
                  clear hk2 hput hful
                  go_quiet (exact Calls.quiet_of (QR.out _))
                  go_wp2
                  go_roundg (g0 - 1)
                  case measure => omega
                  case rel => exact NXT.out _
                · have kb : (kind == 2) = false := beq_eq_false_iff_ne.2 hk2
                  clear hk2 hput hful
                  go_quiet (exact Calls.quiet_of (QR.out _))
                  go_wp2
                  go_roundg (g0 - 1)
                  case measure => omega
                  case rel => exact NXT.out _
              · have r1 : (r == 71) = false := beq_eq_false_iff_ne.2 h71
                by_cases h0 : r = 0
                · by_cases hk2 : kind = 2
                  · have e1 := hput.out hk2 h0
                    subst h0
                    have kb : (kind == 2) = true := beq_iff_eq.2 hk2
                    have hd1 : ((R : Int) - U' != R - U - b.length) = false := bne_eq_false_iff_eq.2 (by omega)
                    clear hk2 hput hful e1 h71
                    go_quiet (exact Calls.quiet_of (QR.out _))
                    go_wp2
                    go_roundg (g0 - 1)
                    case measure => omega
                    case rel => exact NXT.out _
                  · subst h0
                    have kb : (kind == 2) = false := beq_eq_false_iff_ne.2 hk2
                    clear hk2 hput hful h71
                    go_quiet (exact Calls.quiet_of (QR.out _))
                    go_wp2
                    go_roundg (g0 - 1)
                    case measure => omega
                    case rel => exact NXT.out _
                · have r0 : (r == 0) = false := beq_eq_false_iff_ne.2 h0
                  by_cases hk2 : kind = 2
                  · have kb : (kind == 2) = true := beq_iff_eq.2 hk2
                    clear hk2 hput hful h71 h0
                    go_quiet (exact Calls.quiet_of (QR.out _))
                    go_wp2
                    go_roundg (g0 - 1)
                    case measure => omega
                    case rel => exact NXT.out _
                  · have kb : (kind == 2) = false := beq_eq_false_iff_ne.2 hk2
                    clear hk2 hput hful h71 h0
                    go_quiet (exact Calls.quiet_of (QR.out _))
                    go_wp2
                    go_roundg (g0 - 1)
                    case measure => omega
                    case rel => exact NXT.out _
        · by_cases h8 : kind = 8
          · have h8' : (6 : Int) < kind := by omega
            have k8 : (kind == 8) = true := beq_iff_eq.2 h8
            have DK : Aside0 (DoesOk m kind b.length (Vm.crash m keep) 0) := ⟨crash_ok HD.out kind (by omega) _ _⟩
            clear h16 h8
            go_wp2_with fail
            refine (lo_crash LB.out (by omega) RK.out hob4.out.hk).mono ?_
            obtain ⟨m', hm'⟩ : ∃ m', m' = Vm.crash m keep := ⟨_, rfl⟩
            rw [← hm'] at DK ⊢
            rintro e wo ⟨rfl, hlo⟩
            have LZ := Aside0.mk hlo
            obtain ⟨r, hr⟩ : ∃ r : Int, r = 0 := ⟨_, rfl⟩
            rw [← hr] at DK
            clear hlo hm' LB hob4
            rw [← hr]
            clear hr
            obtain ⟨l, hl⟩ : ∃ l, m'.fl.length = l := ⟨_, rfl⟩
            have hl101 : l ≤ 101 := by have := DK.out.len; omega
            have HL := Aside0.mk hl
            clear hl
            go_wp2_with fail
            refine (lo_names LZ.out (by rw [HL.out]; omega)).mono ?_
            rw [HL.out]
            rintro e w5 ⟨A, cn, rfl, hrow, hlo⟩
            obtain ⟨g, hg⟩ : ∃ g, g = wr.heap.size := ⟨_, rfl⟩
            rw [← hg] at hlo ⊢
            have LT : Aside0 (TotRel w d m' g (.cells #[.int .i64 kind, .string a, .string z, .int .i64 nn, .slice B b.length cb, .slice K keep.length ck] 45) A cn l l (.int .i64 0) (.int .i64 0) w5) := ⟨⟨0, by omega, rfl, rfl, hlo, hrow⟩⟩
            clear hrow hlo LZ hg
            go_wp2
            obtain ⟨g0, hg0⟩ : ∃ g0, g0 = gk := ⟨_, rfl⟩
            subst hg0
            go_loopg [10, 63] l (fun kq tot i wq => Aside0 (TotRel w d m' g (.cells #[.int .i64 kind, .string a, .string z, .int .i64 nn, .slice B b.length cb, .slice K keep.length ck] 45) A cn l kq tot i wq))
            case atStart => exact LT
            case round =>
              obtain ⟨⟨j, hj, rfl, rfl, hlo, hrow⟩⟩ := hrel
              clear LT
              by_cases hjl : j < l
              · obtain ⟨gg, nm, L, rfl, hcell, hsum, hmax, hread⟩ := tot_round hlo hrow HL.out hjl DK.out.down (by rw [DK.out.most, HM.out]; omega)
                have RD := Aside0.mk hread
                have SM := Aside0.mk hsum
                have hmx : (Vm.used (m'.fl.take (j + 1)) : Int) ≤ 255 := by rw [DK.out.most, HM.out] at hmax; omega
                obtain ⟨T, hT⟩ : ∃ T, T = Vm.used (m'.fl.take j) := ⟨_, rfl⟩
                rw [← hT] at SM ⊢
                have hTL : T + L ≤ 255 := by have := SM.out; omega
                have hjl' : (j : Int) < l := by omega
                clear hT hread hsum hmax hmx hlo hrow
                go_wp2_with fail
                refine RD.out.mono ?_
                rintro e w6 ⟨D, cd, rfl, hlo, hrow⟩
                have NX := Aside0.mk (And.intro hlo hrow)
                clear hlo hrow RD
                go_wp2
                go_roundg (gk - 1)
                case measure => omega
                case rel => exact ⟨j + 1, by omega, congrArg (Value.int .i64) (by have := SM.out; omega), rfl, NX.out.1, NX.out.2⟩
              · have hje : j = l := by omega
                subst hje
                obtain ⟨U', hUe'⟩ : ∃ U', U' = Vm.used m'.fl := ⟨_, rfl⟩
                have hU' : Vm.used (m'.fl.take j) = U' := by rw [hUe', ← HL.out, List.take_length]
                rw [hU']
                have hUR : (U' : Int) ≤ R := by have := hlo.ls.used_le; rw [DK.out.most, HM.out, ← hUe'] at this; exact this
                have QR : Aside0 (∀ n, Calls Try.prog 25 #[.pointer (some ⟨d, 0, none⟩)] (wr.drewN n) fun e w' => e = .returned (.int .i64 (R - U')) ∧ ∃ m, w' = (wr.drewN n).drewN m) :=
                  ⟨fun n => lo_room (hlo.drewN n) (by rw [DK.out.most, HM.out, ← hUe'])⟩
                have p0 : wr.cell? ⟨g, 0, none⟩ = some (.int .i64 kind) := blk_cell hlo.blk 0
                have p4 : wr.cell? ⟨g, 4, none⟩ = some (.slice B b.length cb) := blk_cell hlo.blk 4
                have NXT : Aside0 (∀ j, Aside0 (RoomRel w d n R (g0 - 1) (.int .i64 (k + 1)) (wr.drewN j))) := ⟨fun j => ⟨k + 1, m', by omega, rfl, (hlo.drewN j).drop, DK.out.fuse, DK.out.down, DK.out.most.trans HM.out, by have := DK.out.len; have := HF.out; omega⟩⟩
                have hput : Aside0 (kind = 2 → r = 0 → U' = U + b.length) := ⟨fun h1 h2 => by rw [hUe', HUe.out]; exact DK.out.put h1 h2⟩
                have hful : Aside0 (r = 71 → U' = U ∧ (R : Int) - U < b.length) := ⟨fun h => by obtain ⟨h1, h2⟩ := DK.out.full h; rw [hUe', HUe.out, h1]; rw [HM.out] at h2; exact ⟨rfl, h2⟩⟩
                clear hlo hrow hjl hU' hUe' hj
                have n0 : ((R : Int) - U' < 0) = False := eq_false (by omega)
                have n1 : decide ((R : Int) - U' < 0) = false := decide_eq_false (by omega)
                go_wp2
                by_cases h71 : r = 71
                · obtain ⟨e1, e2⟩ := hful.out h71
                  subst h71
                  subst e1
                  have hd1 : decide ((b.length : Int) ≤ R - U') = false := decide_eq_false (by omega)
                  by_cases hk2 : kind = 2
                  · have kb : (kind == 2) = true := beq_iff_eq.2 hk2
                    clear hk2 hput hful
                    go_quiet (exact Calls.quiet_of (QR.out _))
                    go_wp2
                    go_roundg (g0 - 1)
                    case measure => omega
                    case rel => exact NXT.out _
                  · have kb : (kind == 2) = false := beq_eq_false_iff_ne.2 hk2
                    clear hk2 hput hful
                    go_quiet (exact Calls.quiet_of (QR.out _))
                    go_wp2
                    go_roundg (g0 - 1)
                    case measure => omega
                    case rel => exact NXT.out _
                · have r1 : (r == 71) = false := beq_eq_false_iff_ne.2 h71
                  by_cases h0 : r = 0
                  · by_cases hk2 : kind = 2
                    · have e1 := hput.out hk2 h0
                      subst h0
                      have kb : (kind == 2) = true := beq_iff_eq.2 hk2
                      have hd1 : ((R : Int) - U' != R - U - b.length) = false := bne_eq_false_iff_eq.2 (by omega)
                      clear hk2 hput hful e1 h71
                      go_quiet (exact Calls.quiet_of (QR.out _))
                      go_wp2
                      go_roundg (g0 - 1)
                      case measure => omega
                      case rel => exact NXT.out _
                    · subst h0
                      have kb : (kind == 2) = false := beq_eq_false_iff_ne.2 hk2
                      clear hk2 hput hful h71
                      go_quiet (exact Calls.quiet_of (QR.out _))
                      go_wp2
                      go_roundg (g0 - 1)
                      case measure => omega
                      case rel => exact NXT.out _
                  · have r0 : (r == 0) = false := beq_eq_false_iff_ne.2 h0
                    by_cases hk2 : kind = 2
                    · have kb : (kind == 2) = true := beq_iff_eq.2 hk2
                      clear hk2 hput hful h71 h0
                      go_quiet (exact Calls.quiet_of (QR.out _))
                      go_wp2
                      go_roundg (g0 - 1)
                      case measure => omega
                      case rel => exact NXT.out _
                    · have kb : (kind == 2) = false := beq_eq_false_iff_ne.2 hk2
                      clear hk2 hput hful h71 h0
                      go_quiet (exact Calls.quiet_of (QR.out _))
                      go_wp2
                      go_roundg (g0 - 1)
                      case measure => omega
                      case rel => exact NXT.out _
          · have k8 : (kind == 8) = false := beq_eq_false_iff_ne.2 h8
            have hk6 : kind < 1 ∨ 6 < kind := by omega
            have DK0 : DoesOk m kind b.length m 0 := ⟨HU.out, HD.out, rfl, Nat.le_succ _, fun h => absurd h (by omega), fun h => absurd h (by decide)⟩
            obtain ⟨m', hm'⟩ : ∃ m', m' = m := ⟨_, rfl⟩
            have HK2 : Aside0 (kind ≠ 2) := ⟨by omega⟩
            have LZ : Aside0 (LO w d m' wr.heap.size (.cells #[.int .i64 kind, .string a, .string z, .int .i64 nn, .slice B b.length cb, .slice K keep.length ck] 45) ((wr.alloc (.cells #[.int .i64 kind, .string a, .string z, .int .i64 nn, .slice B b.length cb, .slice K keep.length ck] 45)).drewN j4)) := ⟨by rw [hm']; exact LB.out⟩
            have DK : Aside0 (DoesOk m kind b.length m' 0) := ⟨by rw [hm']; exact DK0⟩
            clear DK0 hm' LB hob4 h16 h8
            rcases hk6 with hk6 | hk6
            all_goals
              obtain ⟨l, hl⟩ : ∃ l, m'.fl.length = l := ⟨_, rfl⟩
              have hl101 : l ≤ 101 := by have := DK.out.len; omega
              have HL := Aside0.mk hl
              clear hl
              go_wp2_with fail
              refine (lo_names LZ.out (by rw [HL.out]; omega)).mono ?_
              rw [HL.out]
              rintro e w5 ⟨A, cn, rfl, hrow, hlo⟩
              obtain ⟨g, hg⟩ : ∃ g, g = wr.heap.size := ⟨_, rfl⟩
              rw [← hg] at hlo ⊢
              have LT : Aside0 (TotRel w d m' g (.cells #[.int .i64 kind, .string a, .string z, .int .i64 nn, .slice B b.length cb, .slice K keep.length ck] 45) A cn l l (.int .i64 0) (.int .i64 0) w5) := ⟨⟨0, by omega, rfl, rfl, hlo, hrow⟩⟩
              clear hrow hlo LZ hg
              go_wp2
              obtain ⟨g0, hg0⟩ : ∃ g0, g0 = gk := ⟨_, rfl⟩
              subst hg0
              go_loopg [10, 63] l (fun kq tot i wq => Aside0 (TotRel w d m' g (.cells #[.int .i64 kind, .string a, .string z, .int .i64 nn, .slice B b.length cb, .slice K keep.length ck] 45) A cn l kq tot i wq))
              case atStart => exact LT
              case round =>
                obtain ⟨⟨j, hj, rfl, rfl, hlo, hrow⟩⟩ := hrel
                clear LT
                by_cases hjl : j < l
                · obtain ⟨gg, nm, L, rfl, hcell, hsum, hmax, hread⟩ := tot_round hlo hrow HL.out hjl DK.out.down (by rw [DK.out.most, HM.out]; omega)
                  have RD := Aside0.mk hread
                  have SM := Aside0.mk hsum
                  have hmx : (Vm.used (m'.fl.take (j + 1)) : Int) ≤ 255 := by rw [DK.out.most, HM.out] at hmax; omega
                  obtain ⟨T, hT⟩ : ∃ T, T = Vm.used (m'.fl.take j) := ⟨_, rfl⟩
                  rw [← hT] at SM ⊢
                  have hTL : T + L ≤ 255 := by have := SM.out; omega
                  have hjl' : (j : Int) < l := by omega
                  clear hT hread hsum hmax hmx hlo hrow
                  go_wp2_with fail
                  refine RD.out.mono ?_
                  rintro e w6 ⟨D, cd, rfl, hlo, hrow⟩
                  have NX := Aside0.mk (And.intro hlo hrow)
                  clear hlo hrow RD
                  go_wp2
                  go_roundg (gk - 1)
                  case measure => omega
                  case rel => exact ⟨j + 1, by omega, congrArg (Value.int .i64) (by have := SM.out; omega), rfl, NX.out.1, NX.out.2⟩
                · have hje : j = l := by omega
                  subst hje
                  obtain ⟨U', hUe'⟩ : ∃ U', U' = Vm.used m'.fl := ⟨_, rfl⟩
                  have hU' : Vm.used (m'.fl.take j) = U' := by rw [hUe', ← HL.out, List.take_length]
                  rw [hU']
                  have hUR : (U' : Int) ≤ R := by have := hlo.ls.used_le; rw [DK.out.most, HM.out, ← hUe'] at this; exact this
                  have QR : Aside0 (∀ n, Calls Try.prog 25 #[.pointer (some ⟨d, 0, none⟩)] (wr.drewN n) fun e w' => e = .returned (.int .i64 (R - U')) ∧ ∃ m, w' = (wr.drewN n).drewN m) :=
                    ⟨fun n => lo_room (hlo.drewN n) (by rw [DK.out.most, HM.out, ← hUe'])⟩
                  have p0 : wr.cell? ⟨g, 0, none⟩ = some (.int .i64 kind) := blk_cell hlo.blk 0
                  have p4 : wr.cell? ⟨g, 4, none⟩ = some (.slice B b.length cb) := blk_cell hlo.blk 4
                  have NXT : Aside0 (∀ j, Aside0 (RoomRel w d n R (g0 - 1) (.int .i64 (k + 1)) (wr.drewN j))) := ⟨fun j => ⟨k + 1, m', by omega, rfl, (hlo.drewN j).drop, DK.out.fuse, DK.out.down, DK.out.most.trans HM.out, by have := DK.out.len; have := HF.out; omega⟩⟩
                  clear hlo hrow hjl hU' hUe' hj
                  have n0 : ((R : Int) - U' < 0) = False := eq_false (by omega)
                  have n1 : decide ((R : Int) - U' < 0) = false := decide_eq_false (by omega)
                  have kb : (kind == 2) = false := beq_eq_false_iff_ne.2 HK2.out
                  go_wp2
                  go_quiet (exact Calls.quiet_of (QR.out _))
                  go_wp2
                  go_roundg (g0 - 1)
                  case measure => omega
                  case rel => exact NXT.out _
      · go_wp2
        all_goals
          go_roundg (gk - 1)
          case measure => omega
          case rel => exact ⟨k + 1, m, by omega, rfl, L3.out.below (below_lit wr _), HU.out, HD.out, HM.out, by have := HF.out; omega⟩
    · have LE := Aside0.mk hL.old
      clear hL
      go_wp2
      go_ret; exact ⟨rfl, LE.out⟩
end Go.Proofs.Ythjdgiobchiloaa
