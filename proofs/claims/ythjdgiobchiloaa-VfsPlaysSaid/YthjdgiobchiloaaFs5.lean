/-
  What is proved: what the closures of Sync, Cut, Remove come to, and drop; of texts up to the model's length.
-/
import Derived.Test.YthjdgiobchiloaaFs4
namespace Go.Proofs.Ythjdgiobchiloaa
open Go.RowKit Go.Proofs.YthjdgiobchiloaaW.PrintWords Go.Maps
set_option linter.unusedVariables false
set_option linter.unusedSimpArgs false

theorem own_len (A : Option Addr) (n m c : Nat) : (Value.slice A n c).ownBlock = (Value.slice A m c).ownBlock := by cases A <;> rfl

section
variable {w : World} {base d : Nat} {s : FSm}

set_option maxHeartbeats 1000000 in
theorem sync1_calls (h : FSAt w base d s) {nm : ByteArray} {f : FileM} (hf : findF s.fl nm = some f) (b1 : Nat)
    (C1 : w.heap[b1]? = some (.cells #[.pointer (some ⟨f.fb, 0, none⟩)] 89 (0, 0))) :
    Calls Try.prog 54 #[.pointer (some ⟨b1, 0, none⟩)] w (ToU base d s w { s.abs with fl := Vm.upd s.abs.fl nm fun f => { f with safe := f.bs.length } }) := by
  obtain ⟨hm, hn⟩ := find_mem hf
  have hF := h.files f hm
  obtain ⟨A, c, hv⟩ := own_slice hF.2.2.1
  have qd := h.fb_ne hm
  have hu := used_upd h.names hf (fun x => { x with safe := f.bs.length })
  have hg : usedL (updF s.fl nm (fun x => { x with safe := f.bs.length })) = usedL s.fl := by simp only at hu; omega
  have hfin : ToS base d s w { s.abs with fl := Vm.upd s.abs.fl nm fun f => { f with safe := f.bs.length } } (w.setCell ⟨f.fb, 1, none⟩ (.int .i64 f.bs.length)).drew := by
    refine ToS.below ?_ (Below.refl _ _).drew
    refine upd_at h hf (fun x => { x with safe := f.bs.length }) (fun _ => rfl) (fun _ => rfl) ?_ ?_ ?_ ?_ ?_ _ rfl
    · exact (Keeps.set w f.fb 1 _).mono (fun k hk => .inr (.inl hk))
    · rw [hg]; exact blk_far h.blk (p := ⟨f.fb, 1, none⟩) (fun e => qd e.symm) _
    · refine ⟨?_, hF.2.1, ?_, Nat.le_refl _, hF.2.2.2.2⟩
      · exact (blk_set hF.1 1 _).trans rfl
      · exact own_setCell hF.2.2.1 (fun e => h.own_fb hm hm e.symm rfl) _
    · exact fun k hk => .inl hk
    · rw [hg]; exact h.room
  have hfin' := Aside0.mk hfin
  have e0 : w.cell? ⟨f.fb, 0, none⟩ = some (.slice A f.bs.length c) := by rw [blk_cell hF.1 0, ← hv]; rfl
  have e1 : w.cell? ⟨f.fb, 1, none⟩ = some (.int .i64 f.safe) := blk_cell hF.1 1
  have e2 : w.frozen? ⟨f.fb, 1, none⟩ = false := blk_frozen hF.1 1
  have e3 : w.cell? ⟨b1, 0, none⟩ = some (.pointer (some ⟨f.fb, 0, none⟩)) := blk_cell C1 0
  clear hfin hu hg C1 hv hF hn hm hf qd
  clear h
  show Calls _ _ _ _ fun e w' => e = .returned (.tuple #[]) ∧ _
  go_enter Try.func54, Try.ntmps54
  go_wp2
  go_region
  all_goals (go_wp2; go_end0; exact ⟨rfl, hfin'.out⟩)

set_option maxHeartbeats 4000000 in
theorem cut1_calls (h : FSAt w base d s) {nm : ByteArray} {f : FileM} (hf : findF s.fl nm = some f) (N : Nat) (hN : N ≤ f.bs.length) (b1 b2 b3 : Nat)
    (C1 : w.heap[b1]? = some (.cells #[.pointer (some ⟨d, 0, none⟩)] 23 (0, 0))) (C2 : w.heap[b2]? = some (.cells #[.pointer (some ⟨f.fb, 0, none⟩)] 89 (0, 0))) (C3 : w.heap[b3]? = some (.cells #[.int .i64 N] 3 (0, 0))) :
    Calls Try.prog 80 #[.pointer (some ⟨b1, 0, none⟩), .pointer (some ⟨b2, 0, none⟩), .pointer (some ⟨b3, 0, none⟩)] w (ToU base d s w { s.abs with fl := Vm.upd s.abs.fl nm fun f => { f with bs := f.bs.take N, safe := min f.safe N } }) := by
  obtain ⟨hm, hn⟩ := find_mem hf
  have hF := h.files f hm
  obtain ⟨A, c, hv⟩ := own_slice hF.2.2.1
  have ho := hF.2.2.1
  rw [hv] at ho
  have hcap := own_cap ho
  have qd := h.fb_ne hm
  have hu := used_upd h.names hf (fun x => { x with v := .slice A N c, bs := f.bs.take N, safe := min f.safe N })
  have hg : usedL (updF s.fl nm (fun x => { x with v := .slice A N c, bs := f.bs.take N, safe := min f.safe N })) + f.bs.length = usedL s.fl + N := by simp only [List.length_take] at hu; omega
  have hle : f.bs.length ≤ usedL s.fl := by have := rm_some h.names hf; omega
  have r1 := h.room
  have r2 := h.most1
  have ru : s.used = usedL s.fl := rfl
  have hfin : ToS base d s w { s.abs with fl := Vm.upd s.abs.fl nm fun f => { f with bs := f.bs.take N, safe := min f.safe N } }
      (((w.setCell ⟨d, 2, none⟩ (.int .i64 (s.used - (f.bs.length - N)))).setCell ⟨f.fb, 0, none⟩ (.slice A N c)).setCell ⟨f.fb, 1, none⟩ (.int .i64 (min f.safe N))).drew.drew.drew := by
    refine ToS.below ?_ (((Below.refl _ _).drew).drew).drew
    refine upd_at h hf (fun x => { x with v := .slice A N c, bs := f.bs.take N, safe := min f.safe N }) (fun _ => rfl) (fun _ => rfl) ?_ ?_ ?_ ?_ ?_ _ rfl
    · refine Keeps.trans (b := (w.setCell ⟨d, 2, none⟩ (.int .i64 (s.used - (f.bs.length - N)))).setCell ⟨f.fb, 0, none⟩ (.slice A N c)) (Keeps.trans (b := w.setCell ⟨d, 2, none⟩ (.int .i64 (s.used - (f.bs.length - N)))) ?_ ?_) ?_
      · exact (Keeps.set _ d 2 _).mono (fun k hk => .inl hk)
      · exact (Keeps.set _ f.fb 0 _).mono (fun k hk => .inr (.inl hk))
      · exact (Keeps.set _ f.fb 1 _).mono (fun k hk => .inr (.inl hk))
    · rw [blk_far (blk_far (blk_set h.blk 2 _) (p := ⟨f.fb, 0, none⟩) (fun e => qd e.symm) _) (p := ⟨f.fb, 1, none⟩) (fun e => qd e.symm) _]
      have : s.used - ((f.bs.length : Int) - N) = usedL (updF s.fl nm (fun x => { x with v := .slice A N c, bs := f.bs.take N, safe := min f.safe N })) := by omega
      rw [this]
      simp
    · refine ⟨?_, hF.2.1, ?_, ?_, hF.2.2.2.2⟩
      · rw [blk_set (blk_set (blk_far hF.1 (p := ⟨d, 2, none⟩) qd _) 0 _) 1 _]
        simp
        omega
      · have ho2 := own_take ho hN
        show World.ownsRow _ base 5 1 (.slice A N c) (f.bs.take N).length (nums .u8 (f.bs.take N))
        have e1 : (f.bs.take N).length = N := by rw [List.length_take]; omega
        have e2 : nums .u8 (f.bs.take N) = (nums .u8 f.bs).take (N * 1) := by rw [Nat.mul_one]; simp [nums, List.map_take]
        rw [e1, e2]
        refine own_setCell (own_setCell (own_setCell ho2 ?_ _) ?_ _) ?_ _
        · intro e; exact h.own_d hm (k := d) (by rw [hv, own_len A _ N c]; exact e.symm) rfl
        · intro e; exact h.own_fb hm hm (k := f.fb) (by rw [hv, own_len A _ N c]; exact e.symm) rfl
        · intro e; exact h.own_fb hm hm (k := f.fb) (by rw [hv, own_len A _ N c]; exact e.symm) rfl
      · show min f.safe N ≤ (f.bs.take N).length
        rw [List.length_take]; omega
    · intro k hk
      refine .inl ?_
      rw [hv, own_len A _ N c]
      exact hk
    · omega
  have hfin' := Aside0.mk hfin
  obtain ⟨c0, c1, c2, c3, c4⟩ := h.cell
  have f2 := blk_frozen h.blk 2
  have e0 : w.cell? ⟨f.fb, 0, none⟩ = some (.slice A f.bs.length c) := by rw [blk_cell hF.1 0, ← hv]; rfl
  have e1 : w.cell? ⟨f.fb, 1, none⟩ = some (.int .i64 f.safe) := blk_cell hF.1 1
  have g0 : w.frozen? ⟨f.fb, 0, none⟩ = false := blk_frozen hF.1 0
  have g1 : w.frozen? ⟨f.fb, 1, none⟩ = false := blk_frozen hF.1 1
  have d1 : w.cell? ⟨b1, 0, none⟩ = some (.pointer (some ⟨d, 0, none⟩)) := blk_cell C1 0
  have d2 : w.cell? ⟨b2, 0, none⟩ = some (.pointer (some ⟨f.fb, 0, none⟩)) := blk_cell C2 0
  have d3 : w.cell? ⟨b3, 0, none⟩ = some (.int .i64 N) := blk_cell C3 0
  have n1 : ∀ u, (w.setCell ⟨d, 2, none⟩ u).cell? ⟨b2, 0, none⟩ = some (.pointer (some ⟨f.fb, 0, none⟩)) := fun u => blk_cell (blk_far C2 (p := ⟨d, 2, none⟩) (blk_ne C2 h.blk (by decide)) u) 0
  have n2 : ∀ u, (w.setCell ⟨d, 2, none⟩ u).cell? ⟨b3, 0, none⟩ = some (.int .i64 N) := fun u => blk_cell (blk_far C3 (p := ⟨d, 2, none⟩) (blk_ne C3 h.blk (by decide)) u) 0
  have n3 : ∀ u, (w.setCell ⟨d, 2, none⟩ u).cell? ⟨f.fb, 0, none⟩ = some (.slice A f.bs.length c) := fun u => (blk_cell (blk_far hF.1 (p := ⟨d, 2, none⟩) qd u) 0).trans (by rw [← hv]; rfl)
  have n4 : ∀ u, (w.setCell ⟨d, 2, none⟩ u).frozen? ⟨f.fb, 0, none⟩ = false := fun u => blk_frozen (blk_far hF.1 (p := ⟨d, 2, none⟩) qd u) 0
  have q2 : b2 ≠ f.fb := blk_ne C2 hF.1 (by decide)
  have q3 : b3 ≠ f.fb := blk_ne C3 hF.1 (by decide)
  have m1 : ∀ u x, ((w.setCell ⟨d, 2, none⟩ u).setCell ⟨f.fb, 0, none⟩ x).cell? ⟨b2, 0, none⟩ = some (.pointer (some ⟨f.fb, 0, none⟩)) := fun u x => blk_cell (blk_far (blk_far C2 (p := ⟨d, 2, none⟩) (blk_ne C2 h.blk (by decide)) u) (p := ⟨f.fb, 0, none⟩) q2 x) 0
  have m2 : ∀ u x, ((w.setCell ⟨d, 2, none⟩ u).setCell ⟨f.fb, 0, none⟩ x).cell? ⟨b3, 0, none⟩ = some (.int .i64 N) := fun u x => blk_cell (blk_far (blk_far C3 (p := ⟨d, 2, none⟩) (blk_ne C3 h.blk (by decide)) u) (p := ⟨f.fb, 0, none⟩) q3 x) 0
  have m3 : ∀ u x, ((w.setCell ⟨d, 2, none⟩ u).setCell ⟨f.fb, 0, none⟩ x).cell? ⟨f.fb, 1, none⟩ = some (.int .i64 f.safe) := fun u x => (blk_cell (blk_set (blk_far hF.1 (p := ⟨d, 2, none⟩) qd u) 0 x) 1).trans (by simp)
  have m4 : ∀ u x, ((w.setCell ⟨d, 2, none⟩ u).setCell ⟨f.fb, 0, none⟩ x).frozen? ⟨f.fb, 1, none⟩ = false := fun u x => blk_frozen (blk_set (blk_far hF.1 (p := ⟨d, 2, none⟩) qd u) 0 x) 1
  have b1' : (f.bs.length : Int) ≤ s.used := by omega
  have b2' : s.used ≤ 9223372036854775807 := by omega
  have b3' : f.safe ≤ f.bs.length := hF.2.2.2.1
  have hsl : ∀ W : World, (Instr.slice 28 (.slice A f.bs.length c) none (some (.int .i64 N)) none).run Try.prog W = .ok (.slice A N c) W := by
    obtain ⟨i0, hi, hzz⟩ := Option.map_eq_some_iff.1 cut_info
    simp only [Prod.mk.injEq] at hzz
    obtain ⟨_, hz1, _⟩ := hzz
    have hsl := (print_take_int (P := Try.prog) (k := .u8) 28 5 Try.underlying28 hi hz1 A c f.bs N (by omega) (by omega) hcap).1
    have e9 : (f.bs.take (Int.toNat N)).length = N := by rw [List.length_take]; omega
    rw [e9] at hsl
    exact hsl
  clear hfin hu hg hle r1 r2 ru C1 C2 C3 hcap ho hv hF hn hm hf qd q2 q3 c0 c1 c3 c4
  clear h
  show Calls _ _ _ _ fun e w' => e = .returned (.tuple #[]) ∧ _
  generalize s.used = u at *
  generalize f.bs.length = L at *
  generalize f.safe = sf at *
  go_enter Try.func80, Try.ntmps80
  go_wp2
  go_region
  all_goals (go_wp2; go_region; all_goals (go_wp2; go_region; all_goals (go_wp2; all_goals (go_end0; refine ⟨rfl, ?_⟩; have hh := hfin'.out; first | (rw [Int.min_eq_right (by omega)] at hh; exact hh) | (rw [Int.min_eq_left (by omega)] at hh; exact hh)))))

/-- A file is gone. -/
theorem rm_at (h : FSAt w base d s) (nm : ByteArray) {w' : World} (hk : Keeps (fun k => k = d ∨ k = s.mb) w w')
    (hd : w'.heap[d]? = some (.cells #[.map (some s.mb), .int .i64 s.most, .int .i64 (usedL (rmF s.fl nm)), .int .i64 s.fuse, .bool s.down] 87 (0, 0)))
    (ho : w'.ownsMap Try.prog 9 Rp s.mb (rmF s.fl nm).length (datum (rmF s.fl nm))) :
    FSAt w' base d { s with fl := rmF s.fl nm } := by
  refine ⟨hd, ho, ?_, pair_rm h.apart, h.baseD, h.baseM, h.most0, h.most1, ?_, h.fuse0, h.fuse1, pair_rm h.names⟩
  · intro x hx
    have hx := mem_rm hx
    refine (h.files x hx).step hk ?_ ?_
    · rintro (e | e)
      · exact h.fb_ne hx e
      · exact h.fb_mb hx e.symm
    · rintro b hb (e | e)
      · exact h.own_d hx hb e
      · exact h.own_mb hx hb e
  · have := h.room
    have := used_rm_le s.fl nm
    show (usedL (rmF s.fl nm) : Int) ≤ s.most
    unfold FSm.used at *
    omega
def DropTo (base d : Nat) (s : FSm) (nm : ByteArray) (w : World) (e : Ending) (w' : World) : Prop :=
  e = .returned (.tuple #[]) ∧ FSAt w' base d { s with fl := rmF s.fl nm } ∧ Keeps (fun k => k = d ∨ k = s.mb) w w'
theorem DropTo.to {nm : ByteArray} {e : Ending} {w' : World} (h : DropTo base d s nm w e w') : ToU base d s w { s.abs with fl := Vm.rm s.abs.fl nm } e w' := by
  obtain ⟨he, hF, hk⟩ := h
  refine ⟨he, { s with fl := rmF s.fl nm }, hF, ?_, rfl, hk.mono (fun k hk => hk.imp id .inl), ?_⟩
  · show AS.mk (absL (rmF s.fl nm)) _ _ _ = AS.mk (Vm.rm (absL s.fl) nm) _ _ _
    rw [abs_rm]
    rfl
  · rintro k (e | e | ⟨x, hx, hx2⟩)
    · exact .inl (.inl e)
    · exact .inl (.inr (.inl e))
    · exact .inl (.inr (.inr ⟨x, mem_rm hx, hx2⟩))

set_option maxHeartbeats 1000000 in
theorem drop_none (h : FSAt w base d s) {nm : ByteArray} (hs : nm.size ≤ maxLen) (hf : findF s.fl nm = none) :
    Calls Try.prog 57 #[.pointer (some ⟨d, 0, none⟩), .string nm] w (DropTo base d s nm w) := by
  have hfin : FSAt w base d { s with fl := rmF s.fl nm } ∧ Keeps (fun k => k = d ∨ k = s.mb) w w := ⟨by rw [rm_none hf]; exact h, Keeps.refl _ _⟩
  have hfin' := Aside0.mk hfin
  obtain ⟨c0, c1, c2, c3, c4⟩ := h.cell
  have hl := look h.map hs
  rw [hf] at hl
  unfold ptr at hl
  clear c1 c2 c3 c4 hs hf hfin
  clear h
  show Calls _ _ _ _ fun e w' => e = .returned (.tuple #[]) ∧ _
  go_enter Try.func57, Try.ntmps57
  go_wp2
  go_end0; exact ⟨rfl, hfin'.out⟩

set_option maxHeartbeats 1000000 in
theorem drop_some (h : FSAt w base d s) {nm : ByteArray} {f : FileM} (hs : nm.size ≤ maxLen) (hf : findF s.fl nm = some f) :
    Calls Try.prog 57 #[.pointer (some ⟨d, 0, none⟩), .string nm] w (DropTo base d s nm w) := by
  obtain ⟨hm, hn⟩ := find_mem hf
  have hF := h.files f hm
  obtain ⟨A, c, hv⟩ := own_slice hF.2.2.1
  have hu := rm_some h.names hf
  have k1 := Keeps.set w d 2 (.int .i64 (s.used - f.bs.length))
  have hm1 : ((w.setCell ⟨d, 2, none⟩ (.int .i64 (s.used - f.bs.length))).drew).ownsMap Try.prog 9 Rp s.mb s.fl.length (datum s.fl) := (k1.owm h.map h.mb_ne).drew
  obtain ⟨w', hrun, ho, hk⟩ := drop_ hm1 hs 0
  have hfin : FSAt w' base d { s with fl := rmF s.fl nm } ∧ Keeps (fun k => k = d ∨ k = s.mb) w w' := by
    have hkk : Keeps (fun k => k = d ∨ k = s.mb) w w' := (k1.then_ ((Keeps.drew _ _).trans hk) (S := fun k => k = d ∨ k = s.mb) (fun _ h => .inl (.inl h)) (fun _ h => .inl (.inr h)))
    refine ⟨rm_at h nm ?_ ?_ ho, hkk⟩
    · exact (k1.then_ ((Keeps.drew _ _).trans hk) (S := fun k => k = d ∨ k = s.mb) (fun _ h => .inl (.inl h)) (fun _ h => .inl (.inr h)))
    · refine hk.blk (g := d) (o := .cells #[.map (some s.mb), .int .i64 s.most, .int .i64 (usedL (rmF s.fl nm)), .int .i64 s.fuse, .bool s.down] 87 (0, 0)) ?_ (fun e => h.mb_ne e.symm)
      refine blk_drew ?_
      rw [blk_set h.blk 2 _]
      have : s.used - (f.bs.length : Int) = usedL (rmF s.fl nm) := by unfold FSm.used; omega
      simp [this]
  have hfin' := Aside0.mk hfin
  obtain ⟨c0, c1, c2, c3, c4⟩ := h.cell
  have f2 := blk_frozen h.blk 2
  have n0 : ∀ u, (w.setCell ⟨d, 2, none⟩ u).cell? ⟨d, 0, none⟩ = some (.map (some s.mb)) := fun u => (blk_cell (blk_set h.blk 2 u) 0).trans (by simp)
  have e0 : w.cell? ⟨f.fb, 0, none⟩ = some (.slice A f.bs.length c) := by rw [blk_cell hF.1 0, ← hv]; rfl
  have hl := look h.map hs
  rw [hf] at hl
  unfold ptr at hl
  have b1 : (f.bs.length : Int) ≤ s.used := by unfold FSm.used; omega
  have b2 : s.used ≤ 9223372036854775807 := by have := h.room; have := h.most1; omega
  clear hu k1 hm1 ho hk c1 c3 c4 hs hf hfin hm hn hF hv
  clear h
  show Calls _ _ _ _ fun e w' => e = .returned (.tuple #[]) ∧ _
  generalize s.used = u at *
  go_enter Try.func57, Try.ntmps57
  go_wp2
  go_region
  all_goals (go_wp2; go_end0; exact ⟨rfl, hfin'.out⟩)
theorem drop_calls (h : FSAt w base d s) {nm : ByteArray} (hs : nm.size ≤ maxLen) :
    Calls Try.prog 57 #[.pointer (some ⟨d, 0, none⟩), .string nm] w (DropTo base d s nm w) := by
  cases hf : findF s.fl nm with
  | none => exact drop_none h hs hf
  | some f => exact drop_some h hs hf
set_option maxHeartbeats 1000000 in
theorem remove1_calls (h : FSAt w base d s) {nm : ByteArray} (hs : nm.size ≤ maxLen) (b1 b2 : Nat)
    (C1 : w.heap[b1]? = some (.cells #[.pointer (some ⟨d, 0, none⟩)] 23 (0, 0))) (C2 : w.heap[b2]? = some (.cells #[.string nm] 9 (0, 0))) :
    Calls Try.prog 56 #[.pointer (some ⟨b1, 0, none⟩), .pointer (some ⟨b2, 0, none⟩)] w (ToU base d s w { s.abs with fl := Vm.rm s.abs.fl nm }) := by
  have d1 : w.cell? ⟨b1, 0, none⟩ = some (.pointer (some ⟨d, 0, none⟩)) := blk_cell C1 0
  have d2 : w.cell? ⟨b2, 0, none⟩ = some (.string nm) := blk_cell C2 0
  have hD := Aside0.mk ((drop_calls h hs).mono (fun _ _ h => h.to))
  clear h C1 C2 hs
  show Calls _ _ _ _ fun e w' => e = .returned (.tuple #[]) ∧ _
  go_enter Try.func56, Try.ntmps56
  go_wp2_with fail
  refine hD.out.mono ?_
  rintro e w' ⟨rfl, hR⟩
  have hR' := Aside0.mk hR
  clear hR hD
  go_wp2
  go_end0; exact ⟨rfl, hR'.out⟩
end
end Go.Proofs.Ythjdgiobchiloaa
