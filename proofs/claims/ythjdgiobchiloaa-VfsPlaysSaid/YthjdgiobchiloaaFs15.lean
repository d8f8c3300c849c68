/-
  What is proved: what Crash of a disk comes to; of fewer than 2^43 files.
-/
import Derived.Test.YthjdgiobchiloaaFs14
namespace Go.Proofs.Ythjdgiobchiloaa
open Go.RowKit Go.Proofs.YthjdgiobchiloaaW.PrintWords Go.Maps
set_option linter.unusedVariables false
set_option linter.unusedSimpArgs false

def CrashRel (w : World) (base d : Nat) (s : FSm) (ks : List Int) (nv : Value) (kq : Nat) (kv i : Value) (wr : World) : Prop :=
  ∃ (k : Nat) (A : Option Addr) (m c : Nat), k + kq = s.fl.length ∧ i = .int .i64 k ∧ kv = .slice A m c ∧ CrashInv w base d s ks nv k A m c wr
theorem CrashRel.mk {w wr : World} {base d k m c : Nat} {s : FSm} {ks : List Int} {nv : Value} {A : Option Addr} (h : CrashInv w base d s ks nv k A m c wr) {kq : Nat} (hk : k + kq = s.fl.length) : CrashRel w base d s ks nv kq (.slice A m c) (.int .i64 k) wr := ⟨k, A, m, c, hk, rfl, rfl, h⟩

theorem drewRel {w wr : World} {base d : Nat} {s : FSm} {ks : List Int} {nv kv i : Value} {kq : Nat} (h : Aside0 (CrashRel w base d s ks nv kq kv i wr)) : Aside0 (CrashRel w base d s ks nv kq kv i wr.drew) := by
  obtain ⟨k, A, m, c, h1, h2, h3, h4⟩ := h.out
  exact ⟨k, A, m, c, h1, h2, h3, h4.drew⟩

section
variable {w : World} {base d : Nat} {s : FSm}
theorem CrashInv.end_ {w0 wr : World} {ks : List Int} {nv : Value} {A : Option Addr} {m c : Nat} (h : CrashInv w base d { s with fuse := 0, down := false } ks nv s.fl.length A m c wr) (hk : Keeps (foot d s) w0 w) (hsz : w.heap.size = w0.heap.size) : ToS base d s w0 (Vm.crash s.abs ks) wr := by
  obtain ⟨s', pre, ks', h1, h2, h3, h4, h5, h6, h7, h8, h9, h10, h11, h12, h13, h14⟩ := h.ex
  have hlen : s.abs.fl.length = s.fl.length := by show (absL s.fl).length = _; simp [absL]
  have e0 : s.abs.fl.drop s.fl.length = [] := List.drop_eq_nil_of_le (by omega)
  rw [show ({ s with fuse := 0, down := false } : FSm).abs.fl = s.abs.fl from rfl, e0] at h11 h12
  refine ⟨s', h1, ?_, h2, hk.trans h3, fun k hk => (h4 k hk).imp id (fun h => by omega)⟩
  have e1 : s'.abs.fl = Vm.crashL s.abs.fl ks := by rw [h11, h12]; simp [Vm.crashL]
  show AS.mk s'.abs.fl s'.most s'.fuse s'.down = AS.mk (Vm.crashL s.abs.fl ks) s.most 0 false
  rw [e1, h7, h8, h9]

theorem cut_b (L cf N : Nat) (Af : Option Addr) (hN : N ≤ L) (hL : L ≤ cf) : ∀ W : World, (Instr.slice 28 (.slice Af L cf) none (some (.int .i64 N)) none).run Try.prog W = .ok (.slice Af N cf) W := by
  obtain ⟨i0, hi, hzz⟩ := Option.map_eq_some_iff.1 cut_info
  simp only [Prod.mk.injEq] at hzz
  obtain ⟨_, hz1, _⟩ := hzz
  have hsl := (print_take_int (P := Try.prog) (k := .u8) 28 5 Try.underlying28 hi hz1 Af cf (List.replicate L 0) N (by omega) (by simp; omega) (by simpa using hL)).1
  simpa [Nat.min_eq_left hN] using hsl

set_option maxRecDepth 100000 in
set_option maxHeartbeats 8000000 in
theorem crash_calls (h : FSAt w base d s) (hn : s.fl.length * 16 ≤ 140737488355328) (A0 : Option Addr) (m0 c0 : Nat) (ks : List Int) (hC : ∀ W, Keeps (foot d s) w W → (Kd.int .i64).C W A0 m0 ks) (hmc : m0 ≤ c0) :
    Calls Try.prog 18 #[.pointer (some ⟨d, 0, none⟩), .slice A0 m0 c0] w (ToU base d s w (Vm.crash s.abs ks)) := by
  have hW0 := fuse_set (down_set h false) (n := 0) (by decide) (by decide)
  have k0 : Keeps (foot d s) w ((w.setCell ⟨d, 4, none⟩ (.bool false)).setCell ⟨d, 3, none⟩ (.int .i64 0)) := ((Keeps.set w d 4 _).trans (Keeps.set _ d 3 _)).mono (fun k hk => .inl hk)
  have hsz : ((w.setCell ⟨d, 4, none⟩ (.bool false)).setCell ⟨d, 3, none⟩ (.int .i64 0)).heap.size = w.heap.size := by simp [World.setCell]
  have HN := Aside0.mk (names_calls hW0 hn)
  have hstart : ∀ v w1, NamesTo ((w.setCell ⟨d, 4, none⟩ (.bool false)).setCell ⟨d, 3, none⟩ (.int .i64 0)) s.fl v w1 → ∃ An cn, v = .slice An s.fl.length cn ∧ Aside0 (CrashRel ((w.setCell ⟨d, 4, none⟩ (.bool false)).setCell ⟨d, 3, none⟩ (.int .i64 0)) base d { s with fuse := 0, down := false } ks (.slice An s.fl.length cn) s.fl.length (.slice A0 m0 c0) (.int .i64 (0 : Nat)) w1) := by
    rintro v w1 ⟨An, cn, rfl, hrow, hb⟩
    refine ⟨An, cn, rfl, ⟨CrashRel.mk ⟨_, [], ks, hW0.below hb, rfl, Keeps.of_below hb _, fun _ h => .inl h, hrow, ?_, rfl, rfl, rfl, rfl, rfl, rfl, ?_, hmc⟩ (by show 0 + s.fl.length = s.fl.length; omega)⟩⟩
    · intro b hb2 hf
      have := (hW0.foot_lt hf).2
      have := own_base hrow b hb2
      omega
    · intro W hW
      exact hC W (k0.trans hW)
  have hend : ∀ nv A m c wr, CrashInv ((w.setCell ⟨d, 4, none⟩ (.bool false)).setCell ⟨d, 3, none⟩ (.int .i64 0)) base d { s with fuse := 0, down := false } ks nv s.fl.length A m c wr → ToS base d s w (Vm.crash s.abs ks) wr := fun nv A m c wr hI => hI.end_ k0 hsz
  have HS := Aside0.mk hstart
  have HE := Aside0.mk hend
  obtain ⟨_, _, _, e3, e4⟩ := h.cell
  have f3 := blk_frozen h.blk 3
  have f4 := blk_frozen h.blk 4
  have hln : s.fl.length ≤ 9223372036854775807 := by omega
  clear hstart hend hsz k0 hW0 hC hmc hn
  clear h
  show Calls _ _ _ _ fun e w' => e = .returned (.tuple #[]) ∧ _
  generalize Vm.crash s.abs ks = R at *
  go_enter Try.func18, Try.ntmps18
  go_wp2_with (go_at_call 23; refine HN.out.mono ?_; rintro e w1 ⟨v, rfl, hnv⟩; obtain ⟨An, cn, rfl, hrel0⟩ := HS.out v w1 hnv; clear hnv)
  clear HN HS
  go_loopg [1, 18] s.fl.length (fun kq kv i wr => Aside0 (CrashRel ((w.setCell ⟨d, 4, none⟩ (.bool false)).setCell ⟨d, 3, none⟩ (.int .i64 0)) base d { s with fuse := 0, down := false } ks (.slice An s.fl.length cn) kq kv i wr))
  case atStart => exact hrel0
  case round =>
    obtain ⟨⟨k, A, m, c, hk, rfl, rfl, hI⟩⟩ := hrel
    have hk : k + gk = s.fl.length := hk
    by_cases hlt : k < s.fl.length
    · obtain ⟨g, cap, nm, fb, Af, L, cf, sf, u, mb, most, hnv, q1, q2, q3, b1, b2, b3, b4, hl, n1, n2, n3⟩ := crash_round hI hlt
      injection hnv with ha _ hcc
      subst ha
      subst hcc
      obtain ⟨c0', c1', c2', _, _⟩ : wr.cell? ⟨d, 0, none⟩ = some (.map (some mb)) ∧ wr.cell? ⟨d, 1, none⟩ = some (.int .i64 most) ∧ wr.cell? ⟨d, 2, none⟩ = some (.int .i64 u) ∧ True ∧ True := ⟨blk_cell q2 0, blk_cell q2 1, blk_cell q2 2, trivial, trivial⟩
      have z2 := blk_frozen q2 2
      have y0 : wr.cell? ⟨fb, 0, none⟩ = some (.slice Af L cf) := blk_cell q3 0
      have y1 : wr.cell? ⟨fb, 1, none⟩ = some (.int .i64 sf) := blk_cell q3 1
      have qd : fb ≠ d := blk_ne q3 q2 (by decide)
      have x0 : ∀ U, (wr.setCell ⟨d, 2, none⟩ U).cell? ⟨fb, 0, none⟩ = some (.slice Af L cf) := fun U => blk_cell (blk_far q3 (p := ⟨d, 2, none⟩) qd U) 0
      have x1 : ∀ U, (wr.setCell ⟨d, 2, none⟩ U).cell? ⟨fb, 1, none⟩ = some (.int .i64 sf) := fun U => blk_cell (blk_far q3 (p := ⟨d, 2, none⟩) qd U) 1
      have x2 : ∀ U, (wr.setCell ⟨d, 2, none⟩ U).frozen? ⟨fb, 0, none⟩ = false := fun U => blk_frozen (blk_far q3 (p := ⟨d, 2, none⟩) qd U) 0
      have v0 : ∀ U X, ((wr.setCell ⟨d, 2, none⟩ U).setCell ⟨fb, 0, none⟩ X).cell? ⟨fb, 0, none⟩ = some X := fun U X => (blk_cell (blk_set (blk_far q3 (p := ⟨d, 2, none⟩) qd U) 0 X) 0).trans (by simp)
      have v1 : ∀ U X, ((wr.setCell ⟨d, 2, none⟩ U).setCell ⟨fb, 0, none⟩ X).cell? ⟨fb, 1, none⟩ = some (.int .i64 sf) := fun U X => (blk_cell (blk_set (blk_far q3 (p := ⟨d, 2, none⟩) qd U) 0 X) 1).trans (by simp)
      have v2 : ∀ U X, ((wr.setCell ⟨d, 2, none⟩ U).setCell ⟨fb, 0, none⟩ X).frozen? ⟨fb, 1, none⟩ = false := fun U X => blk_frozen (blk_set (blk_far q3 (p := ⟨d, 2, none⟩) qd U) 0 X) 1
      have hm63 : m ≤ 9223372036854775807 := by obtain ⟨_, _, _, _, _, _, _, _, _, _, _, _, _, _, _, hC, _⟩ := hI.ex; exact (hC _ (Keeps.refl _ _)).2.1
      have N1 := Aside0.mk n1
      have N2 := Aside0.mk n2
      have N3 := Aside0.mk n3
      clear q2 q3 qd n1 n2 n3 hI HE
      by_cases hLS : L = sf
      · subst hLS
        have hnx := Aside0.mk (CrashRel.mk (N1.out rfl) (kq := gk - 1) (by show k + 1 + (gk - 1) = s.fl.length; omega))
        clear N1 N2 N3
        have e0 : ((L : Int) - L == 0) = true := by simp
        go_wp2
        go_region
        all_goals
          go_wp2
          go_roundg (gk - 1)
          case measure => omega
          case rel => exact drewRel hnx
      · have e0 : ((L : Int) - sf == 0) = false := beq_eq_false_iff_ne.2 (by omega)
        rcases Nat.eq_zero_or_pos m with hm0 | hm0
        · subst hm0
          have hnx := Aside0.mk (CrashRel.mk (N2.out hLS rfl) (kq := gk - 1) (by show k + 1 + (gk - 1) = s.fl.length; omega))
          have hsl := cut_b L cf sf Af (by omega) b1
          clear N1 N2 N3 hLS
          go_wp2
          go_region
          all_goals
            go_wp2
            go_region
            all_goals
              go_wp2
              go_roundg (gk - 1)
              case measure => omega
              case rel => exact drewRel (drewRel hnx)
        · obtain ⟨ad, k0, rfl, hcell, hab, A', hrun, hN⟩ := N3.out hLS hm0
          have hm1 : (0 : Int) < m := by omega
          have hnx : ∀ N : Nat, N ≤ L → (N : Int) = sf + min (max k0 0) (L - sf) → Aside0 (∀ X Y : Int, X = u - (L - N) → Y = N → Aside0 (CrashRel ((w.setCell ⟨d, 4, none⟩ (.bool false)).setCell ⟨d, 3, none⟩ (.int .i64 0)) base d { s with fuse := 0, down := false } ks (.slice (some ⟨g, 0, none⟩) s.fl.length cn) (gk - 1) (.slice A' (m - 1 : Nat) (c - 1)) (.int .i64 ((k + 1 : Nat) : Int))
              (((wr.setCell ⟨d, 2, none⟩ (.int .i64 X)).setCell ⟨fb, 0, none⟩ (.slice Af N cf)).setCell ⟨fb, 1, none⟩ (.int .i64 Y)))) := by
            intro N h1 h2
            refine ⟨?_⟩
            rintro X Y rfl rfl
            exact ⟨CrashRel.mk (hN N h1 h2) (by show k + 1 + (gk - 1) = s.fl.length; omega)⟩
          clear N1 N2 N3 hN hLS
          have g1 : 0 ≤ min (max k0 0) ((L : Int) - sf) := Int.le_min.2 ⟨Int.le_max_right _ _, by omega⟩
          have g2 : min (max k0 0) ((L : Int) - sf) ≤ (L : Int) - sf := Int.min_le_right _ _
          have hnx1 := hnx ((sf : Int) + min (max k0 0) ((L : Int) - sf)).toNat (by generalize min (max k0 0) ((L : Int) - sf) = q at *; omega) (by generalize min (max k0 0) ((L : Int) - sf) = q at *; omega)
          clear hnx
          go_wp2
          go_region
          all_goals
            go_wp2
            go_region
            all_goals
              go_wp2
              go_region
              all_goals
                go_wp2
                go_roundg (gk - 1)
                case measure => omega
                case rel => exact drewRel (drewRel (drewRel (hnx1.out _ _ (by generalize min (max k0 0) ((L : Int) - sf) = q at *; omega) (by generalize min (max k0 0) ((L : Int) - sf) = q at *; omega))))
    · have hke : k = s.fl.length := by omega
      subst hke
      have hfin := Aside0.mk (HE.out _ _ _ _ _ hI)
      clear HE hI hlt
      go_wp2
      go_end0; exact ⟨rfl, hfin.out⟩
end
end Go.Proofs.Ythjdgiobchiloaa
