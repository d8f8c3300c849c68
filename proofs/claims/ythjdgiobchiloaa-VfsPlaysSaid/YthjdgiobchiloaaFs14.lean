/-
  What is proved: what Crash of a disk comes to; of fewer than 2^43 files.
-/
import Derived.Test.YthjdgiobchiloaaFs13
namespace Go.Proofs.Ythjdgiobchiloaa
open Go.RowKit Go.Proofs.YthjdgiobchiloaaW.PrintWords Go.Maps
set_option linter.unusedVariables false
set_option linter.unusedSimpArgs false

/-- At the head of a round: k files are done; what is left of keep. -/
structure CrashInv (w : World) (base d : Nat) (s : FSm) (ks : List Int) (nv : Value) (k : Nat) (A : Option Addr) (m c : Nat) (wr : World) : Prop where
  ex : ∃ (s' : FSm) (pre : List AF) (ks' : List Int), FSAt wr base d s' ∧ s'.mb = s.mb ∧ Keeps (foot d s) w wr ∧ (∀ x, foot d s' x → foot d s x ∨ w.heap.size ≤ x) ∧
    wr.ownsRow w.heap.size 9 1 nv s.fl.length (s.fl.map (fun f => Value.string f.nm)) ∧ (∀ b, nv.ownBlock = some b → ¬ foot d s' b) ∧
    s'.most = s.most ∧ s'.fuse = 0 ∧ s'.down = false ∧ pre.length = k ∧ s'.abs.fl = pre ++ s.abs.fl.drop k ∧ Vm.crashL s.abs.fl ks = pre ++ Vm.crashL (s.abs.fl.drop k) ks' ∧
    (∀ W, Keeps (foot d s) w W → (Kd.int .i64).C W A m ks') ∧ m ≤ c

theorem CrashInv.drew {w wr : World} {base d k m c : Nat} {s : FSm} {ks : List Int} {nv : Value} {A : Option Addr} (h : CrashInv w base d s ks nv k A m c wr) : CrashInv w base d s ks nv k A m c wr.drew := by
  obtain ⟨s', pre, ks', h1, h2, h3, h4, h5, h6, h7⟩ := h.ex
  exact ⟨s', pre, ks', h1.below (Below.refl _ _).drew, h2, h3.trans (Keeps.drew _ _), h4, h5, h6, h7⟩

section
variable {w : World} {base d : Nat} {s : FSm}
theorem distinct_names {fl : List FileM} {pre r : List AF} {f : AF} (hp : fl.Pairwise (fun f g => bytesBefore f.nm.data.toList g.nm.data.toList = true)) (he : absL fl = pre ++ f :: r) : ∀ x, x ∈ pre ∨ x ∈ r → Vm.same x.nm f.nm = false := by
  have h2 : (absL fl).Pairwise (fun f g => bytesBefore f.nm.data.toList g.nm.data.toList = true) := by
    unfold absL
    rw [List.pairwise_map]
    exact hp
  rw [he, List.pairwise_append] at h2
  obtain ⟨_, h3, h4⟩ := h2
  rw [List.pairwise_cons] at h3
  intro x hx
  cases hs : Vm.same x.nm f.nm with
  | false => rfl
  | true =>
    have e : x.nm.data.toList = f.nm.data.toList := by simpa [Vm.same] using hs
    rcases hx with hx | hx
    · have := h4 x hx f List.mem_cons_self
      rw [e, bytesBefore_irrefl] at this
      cases this
    · have := h3.1 x hx
      rw [e, bytesBefore_irrefl] at this
      cases this

/-- One round: what it reads, and what it comes to. -/
theorem crash_round {wr : World} {ks : List Int} {nv : Value} {k : Nat} {A : Option Addr} {m c : Nat} (h : CrashInv w base d s ks nv k A m c wr) (hk : k < s.fl.length) :
    ∃ (g cap : Nat) (nm : ByteArray) (fb : Nat) (Af : Option Addr) (L cf sf : Nat) (u : Int) (mb : Nat) (most : Int),
      nv = .slice (some ⟨g, 0, none⟩) s.fl.length cap ∧ wr.cell? ⟨g, k, none⟩ = some (.string nm) ∧
      wr.heap[d]? = some (.cells #[.map (some mb), .int .i64 most, .int .i64 u, .int .i64 0, .bool false] 87 (0, 0)) ∧
      wr.heap[fb]? = some (.cells #[.slice Af L cf, .int .i64 sf] 92 (0, 0)) ∧ L ≤ cf ∧ (sf : Int) ≤ L ∧ (L : Int) ≤ u ∧ u ≤ 9223372036854775807 ∧
      (Instr.lookup 85 (.map (some mb)) (.string nm) false).run Try.prog wr = .ok (.pointer (some ⟨fb, 0, none⟩)) wr ∧
      (L = sf → CrashInv w base d s ks nv (k + 1) A m c wr) ∧
      (L ≠ sf → m = 0 → CrashInv w base d s ks nv (k + 1) A m c (((wr.setCell ⟨d, 2, none⟩ (.int .i64 (u - (L - sf)))).setCell ⟨fb, 0, none⟩ (.slice Af sf cf)).setCell ⟨fb, 1, none⟩ (.int .i64 sf))) ∧
      (L ≠ sf → 0 < m → ∃ ad k0, A = some ad ∧ wr.cell? ad = some (.int .i64 k0) ∧ ad.block ≠ fb ∧ (∃ A', (∀ W : World, (Instr.slice 32 (.slice A m c) (some (.int .i64 1)) none none).run Try.prog W = .ok (.slice A' (m - 1 : Nat) (c - 1)) W) ∧
        ∀ N : Nat, N ≤ L → (N : Int) = sf + min (max k0 0) (L - sf) → CrashInv w base d s ks nv (k + 1) A' (m - 1) (c - 1) (((wr.setCell ⟨d, 2, none⟩ (.int .i64 (u - (L - N)))).setCell ⟨fb, 0, none⟩ (.slice Af N cf)).setCell ⟨fb, 1, none⟩ (.int .i64 N)))) := by
  obtain ⟨s', pre, ks', h1, h2, h3, h4, h5, h6, h7, h8, h9, h10, h11, h12, h13, h14⟩ := h.ex
  have hlen : s.abs.fl.length = s.fl.length := by show (absL s.fl).length = _; simp [absL]
  obtain ⟨f0, hf0⟩ : ∃ f0, s.abs.fl[k]? = some f0 := ⟨_, List.getElem?_eq_getElem (by omega)⟩
  have hdrop : s.abs.fl.drop k = f0 :: s.abs.fl.drop (k + 1) := by
    obtain ⟨hlt, rfl⟩ := List.getElem?_eq_some_iff.1 hf0
    exact List.drop_eq_getElem_cons hlt
  rw [hdrop] at h11 h12
  have hne := distinct_names h1.names (show absL s'.fl = _ from h11)
  have hfind : Vm.find s'.abs.fl f0.nm = some f0 := by rw [h11]; exact Vm.find_mid (fun x hx => hne x (.inl hx))
  rw [show s'.abs.fl = absL s'.fl from rfl, abs_find] at hfind
  obtain ⟨f, hf, hfa⟩ := Option.map_eq_some_iff.1 hfind
  obtain ⟨hm, hn⟩ := find_mem hf
  have hF := h1.files f hm
  obtain ⟨Af, cf, hv⟩ := own_slice hF.2.2.1
  have ho := hF.2.2.1
  rw [hv] at ho
  have hL : f.bs.length = f0.bs.length := by rw [← hfa]; rfl
  have hS : f.safe = f0.safe := by rw [← hfa]; rfl
  have hnm : f.nm = f0.nm := by rw [← hfa]; rfl
  have hu := rm_some h1.names hf
  have hnk : (s.fl.map (fun f => Value.string f.nm))[k]? = some (.string f0.nm) := by
    have : (absL s.fl)[k]? = some f0 := hf0
    unfold absL at this
    rw [List.getElem?_map] at this ⊢
    obtain ⟨x, hx, e⟩ := Option.map_eq_some_iff.1 this
    rw [hx, ← e]
    rfl
  obtain ⟨g, cap, hnv, hg1, hg2⟩ := h5.form (by omega)
  -- what a world behind the stores comes to
  have next : ∀ (m' c' : Nat) (A' : Option Addr) (ks2 : List Int) (wr' : World) (f2 : AF), ToS base d s' wr { s'.abs with fl := pre ++ f2 :: s.abs.fl.drop (k + 1) } wr' → Vm.crashL (f0 :: s.abs.fl.drop (k + 1)) ks' = f2 :: Vm.crashL (s.abs.fl.drop (k + 1)) ks2 →
      (∀ W, Keeps (foot d s) w W → (Kd.int .i64).C W A' m' ks2) → m' ≤ c' → CrashInv w base d s ks nv (k + 1) A' m' c' wr' := by
    intro m' c' A' ks2 wr' f2 ⟨s2, g1, g2, g3, g4, g5⟩ hcr hC hmc
    have e1 : s2.abs.most = s'.abs.most := by rw [g2]
    have e2 : s2.abs.fuse = s'.abs.fuse := by rw [g2]
    have e3 : s2.abs.down = s'.abs.down := by rw [g2]
    have e4 : s2.abs.fl = pre ++ f2 :: s.abs.fl.drop (k + 1) := by rw [g2]
    have hrow : wr'.ownsRow w.heap.size 9 1 nv s.fl.length (s.fl.map (fun f => Value.string f.nm)) := g4.own h5 h6
    refine ⟨s2, pre ++ [f2], ks2, g1, g3.trans h2, h3.then_ g4 (fun x hx => .inl hx) h4, ?_, hrow, ?_, e1.trans h7, e2.trans h8, e3.trans h9, by simp [h10], by rw [e4]; simp, ?_, hC, hmc⟩
    · intro x hx
      rcases g5 x hx with hx | hx
      · exact h4 x hx
      · exact .inr (Nat.le_trans h3.size hx)
    · intro b hb hx
      rcases g5 b hx with hx | hx
      · exact h6 b hb hx
      · have := own_lt h5 b hb; omega
    · rw [h12, hcr]; simp
  refine ⟨g, cap, f0.nm, f.fb, Af, f.bs.length, cf, f.safe, s'.used, s'.mb, s'.most, hnv, ?_, ?_, ?_, own_cap ho, by have := hF.2.2.2.1; omega, ?_, ?_, ?_, ?_, ?_, ?_⟩
  · have h5' := h5
    rw [hnv] at h5'
    rw [h5'.cellAt k (by omega)]
    exact hnk
  · have := h1.blk; rw [h8, h9] at this; exact this
  · have := hF.1; rw [hv] at this; exact this
  · unfold FSm.used; omega
  · have := h1.room; have := h1.most1; omega
  · have hl := look h1.map (nm := f0.nm) (by rw [← hnm]; exact hF.2.2.2.2)
    rw [hf] at hl
    exact hl
  · intro hLS
    refine next m c A ks' wr f0 ?_ (Vm.crashL_eq (by omega)) h13 h14
    have hr := ToS.refl h1
    have e : s'.abs = { s'.abs with fl := pre ++ f0 :: s.abs.fl.drop (k + 1) } := by rw [← h11]
    rw [← e]; exact hr
  · intro hLS hm0
    subst hm0
    have hks : ks' = [] := List.eq_nil_of_length_eq_zero (h13 w (Keeps.refl _ _)).1
    refine next 0 c A ks'.tail _ (Vm.torn f0 (ks'.headD 0)) ?_ (Vm.crashL_ne (by omega)) (by rw [hks]; rw [hks] at h13; exact h13) h14
    have ht := trunc_at h1 hf hv f.safe f.safe hF.2.2.2.1 (Nat.le_refl _)
    have e : Vm.upd s'.abs.fl f0.nm (fun f_1 => { f_1 with bs := f_1.bs.take f.safe, safe := f.safe }) = pre ++ Vm.torn f0 (ks'.headD 0) :: s.abs.fl.drop (k + 1) := by
      rw [h11, Vm.upd_mid _ hne]
      congr 2
      rw [hks]
      unfold Vm.torn
      have e0 : (min (max ([].headD (0 : Int)) 0) ((f0.bs.length : Int) - f0.safe)).toNat = 0 := by simp; omega
      simp only [e0, Nat.add_zero]
      rw [← hfa]
      rfl
    rw [e] at ht
    exact ht
  · intro hLS hm0
    have hC := h13 wr h3
    have hr := reads_of_C hC
    obtain ⟨ad, hA, hc0⟩ := hr.2.2 hm0
    have hcell := hc0 0 hm0
    rw [show ad.add 0 = ad from by simp [Addr.add]] at hcell
    have hhead : ks'.headD 0 = ks'.getD 0 0 := by cases ks' <;> rfl
    refine ⟨ad, ks'.getD 0 0, hA, hcell, ?_, ?_⟩
    · intro e
      have hfb := hF.1
      obtain ⟨bl, o, sp⟩ := ad
      simp only at e
      subst e
      simp only [World.cell?, hfb] at hcell
      split at hcell
      · cases hcell
      · match o with
        | 0 => simp [hv] at hcell
        | 1 =>
          -- a file's second cell: kept as it is by no store that keeps the disk's blocks
          have hC2 := h13 (wr.setCell ⟨f.fb, 1, none⟩ (.bool true)) (by
            have hin : foot d s f.fb ∨ w.heap.size ≤ f.fb := h4 _ (.inr (.inr ⟨f, hm, .inl rfl⟩))
            exact h3.then_ (Keeps.set wr f.fb 1 _) (fun x hx => .inl hx) (fun x hx => by rw [hx]; exact hin))
          have hr2 := reads_of_C hC2
          obtain ⟨ad2, hA2, hc2⟩ := hr2.2.2 hm0
          rw [hA] at hA2
          injection hA2 with hA2
          subst hA2
          have := hc2 0 hm0
          rw [show (⟨f.fb, 1, sp⟩ : Addr).add 0 = ⟨f.fb, 1, sp⟩ from by simp [Addr.add]] at this
          have hbl := blk_set hfb 1 (.bool true)
          simp only [World.cell?, hbl] at this
          split at this
          · cases this
          · simp at this
        | n + 2 => simp at hcell
    · have hcut := (fun W => print_drop_of (P := Try.prog) (Value.int .i64) (0 : Int) 32 3 .i64 Try.underlying32 (i := W))
      obtain ⟨i0, hi, hzz⟩ := Option.map_eq_some_iff.1 (show (Try.prog.info? 3).map (fun i => (i.zero, i.size, i.bytes)) = some (some (.int .i64 0), 1, 8) from by kernel_rfl)
      simp only [Prod.mk.injEq] at hzz
      have hml : ks'.length = m := hC.1
      have hd1 : ks'.drop 1 = ks'.tail := by cases ks' <;> rfl
      have hrun : ∃ A', (∀ W : World, (Instr.slice 32 (.slice A m c) (some (.int .i64 1)) none none).run Try.prog W = .ok (.slice A' (m - 1 : Nat) (c - 1)) W) ∧ ∀ W, Keeps (foot d s) w W → (Kd.int .i64).C W A' (m - 1) ks'.tail := by
        have h := hcut i0 hi hzz.2.1 A c ks' 1 (by omega) (by omega) (by omega)
        obtain ⟨A', r1, r2, r3⟩ := h
        have e1 : (List.drop (Int.toNat 1) ks') = ks'.tail := hd1
        have e2 : ks'.tail.length = m - 1 := by rw [List.length_tail, hml]
        rw [e1, e2, hml] at r1
        refine ⟨A', r1, fun W hW => ?_⟩
        have := r2 W (by have := reads_of_C (h13 W hW); rw [hml]; exact this)
        rw [e1, e2] at this
        exact Kd.C_of_reads (d := 0) this
      obtain ⟨A', r1, r2⟩ := hrun
      refine ⟨A', r1, ?_⟩
      intro N hN hNe
      refine next (m - 1) (c - 1) A' ks'.tail _ (Vm.torn f0 (ks'.headD 0)) ?_ (Vm.crashL_ne (by omega)) r2 (by omega)
      have ht := trunc_at h1 hf hv N N hN (Nat.le_refl _)
      have e : Vm.upd s'.abs.fl f0.nm (fun f_1 => { f_1 with bs := f_1.bs.take N, safe := N }) = pre ++ Vm.torn f0 (ks'.headD 0) :: s.abs.fl.drop (k + 1) := by
        rw [h11, Vm.upd_mid _ hne]
        have e0 : f0.safe + (min (max (ks'.headD (0 : Int)) 0) ((f0.bs.length : Int) - f0.safe)).toNat = N := by
          have hsl := hF.2.2.2.1
          have hmm : 0 ≤ min (max (ks'.getD 0 0) 0) ((f0.bs.length : Int) - f0.safe) := Int.le_min.2 ⟨Int.le_max_right _ _, by omega⟩
          rw [hL, hS] at hNe
          rw [hhead]
          generalize min (max (ks'.getD 0 0) 0) ((f0.bs.length : Int) - f0.safe) = mm at *
          omega
        have e1 : Vm.torn f0 (ks'.headD 0) = { f0 with bs := f0.bs.take N, safe := N } := by
          unfold Vm.torn
          rw [← e0]
        rw [e1]
      rw [e] at ht
      exact ht
end
end Go.Proofs.Ythjdgiobchiloaa
