/-
  What is proved: what the closures of a disk's steps come to (Create, Append, Sync, Cut, Remove, Rename); of texts up to the model's length.
-/
import Derived.Test.YthjdgiobchiloaaFs3
import Derived.RegionTactic
import Derived.BigRegion
namespace Go.Proofs.Ythjdgiobchiloaa
open Go.RowKit Go.Proofs.YthjdgiobchiloaaW.PrintWords Go.Maps
set_option linter.unusedVariables false
set_option linter.unusedSimpArgs false

section
variable {w : World} {base d : Nat} {s : FSm}

theorem cut_info : (Try.prog.info? 5).map (fun i => (i.zero, i.size, i.bytes)) = some (some (.int .u8 0), 1, 1) := by kernel_rfl

/-! ### Create's closure -/
set_option maxHeartbeats 1000000 in
theorem create1_calls (h : FSAt w base d s) (hbase : base ≤ w.heap.size) {nm : ByteArray} (hs : nm.size ≤ maxLen) (hnone : findF s.fl nm = none) (hn : s.fl.length < maxLen) (b1 b2 : Nat)
    (C1 : w.heap[b1]? = some (.cells #[.pointer (some ⟨d, 0, none⟩)] 23 (0, 0))) (C2 : w.heap[b2]? = some (.cells #[.string nm] 9 (0, 0))) :
    Calls Try.prog 51 #[.pointer (some ⟨b1, 0, none⟩), .pointer (some ⟨b2, 0, none⟩)] w (ToU base d s w { s.abs with fl := Vm.ins ⟨nm, [], 0⟩ (Vm.rm s.abs.fl nm) }) := by
  have hB : Below w.heap.size w (w.alloc (.cells #[.slice none 0 0, .int .i64 0] 92)).drew := (below_alloc (Below.refl _ _) _).drew
  have hW := h.below hB
  obtain ⟨w', hrun, ho, hk⟩ := put_ hW.map ⟨nm, w.heap.size, .slice none 0 0, [], 0⟩ hs hn
  have hfin : ToS base d s w { s.abs with fl := Vm.ins ⟨nm, [], 0⟩ (Vm.rm s.abs.fl nm) } w' := by
    rw [rm_none hnone] at ho
    have k2 : Keeps (fun k => k = s.mb) w w' := (Keeps.of_below hB _).trans hk
    have hnew : w'.heap[w.heap.size]? = some (.cells #[.slice none 0 0, .int .i64 0] 92 (0, 0)) := by
      refine hk.blk (g := w.heap.size) (o := .cells #[.slice none 0 0, .int .i64 0] 92 (0, 0)) ?_ ?_
      · exact blk_drew (blk_new w _)
      · have := h.map.lt; omega
    refine ⟨{ s with fl := insF ⟨nm, w.heap.size, .slice none 0 0, [], 0⟩ s.fl }, ⟨?_, ho, ?_, ?_, h.baseD, h.baseM, h.most0, h.most1, ?_, h.fuse0, h.fuse1, names_of_map ho⟩, ?_, rfl, ?_, ?_⟩
    · have e : usedL (insF ⟨nm, w.heap.size, .slice none 0 0, [], 0⟩ s.fl) = usedL s.fl := by rw [used_ins]; simp
      show w'.heap[d]? = some (.cells #[_, _, .int .i64 (usedL (insF ⟨nm, w.heap.size, .slice none 0 0, [], 0⟩ s.fl)), _, _] _ _)
      rw [e]
      exact k2.blk h.blk (fun e => h.mb_ne e.symm)
    · intro x hx
      rcases mem_ins.1 hx with rfl | hx
      · exact ⟨hnew, hbase, own_nil _ _ _ _, Nat.le_refl _, hs⟩
      · refine (h.files x hx).step k2 (fun e => h.fb_mb hx e.symm) (fun b hb => h.own_mb hx hb)
    · show (insF _ s.fl).Pairwise apartF
      rw [pair_ins, List.pairwise_cons]
      refine ⟨fun x hx => ⟨?_, fun k hk => by cases hk⟩, h.apart⟩
      have := blk_lt (h.files x hx).1
      show w.heap.size ≠ x.fb
      omega
    · have := h.room
      show (usedL (insF _ s.fl) : Int) ≤ _
      rw [used_ins]
      simpa [FSm.used] using this
    · show AS.mk (absL (insF _ s.fl)) _ _ _ = AS.mk _ _ _ _
      rw [abs_ins]
      show _ = AS.mk (Vm.ins _ (Vm.rm (absL s.fl) nm)) _ _ _
      rw [← abs_rm, rm_none hnone]
      rfl
    · exact k2.mono (fun k hk => .inr (.inl hk))
    · rintro k (e | e | ⟨x, hx, hx2⟩)
      · exact .inl (.inl e)
      · exact .inl (.inr (.inl e))
      · rcases mem_ins.1 hx with rfl | hx
        · rcases hx2 with e | e
          · exact .inr (by rw [e]; exact Nat.le_refl _)
          · cases e
        · exact .inl (.inr (.inr ⟨x, hx, hx2⟩))
  have hfin' := Aside0.mk hfin
  have e1 : w.cell? ⟨b1, 0, none⟩ = some (.pointer (some ⟨d, 0, none⟩)) := blk_cell C1 0
  have e2 : w.cell? ⟨b2, 0, none⟩ = some (.string nm) := blk_cell C2 0
  obtain ⟨c0, c1, c2, c3, c4⟩ := h.cell
  have l1 := blk_lt C1
  have l2 := blk_lt C2
  have l3 := blk_lt h.blk
  have p1 : (w.alloc (.cells #[.slice none 0 0, .int .i64 0] 92)).cell? ⟨b1, 0, none⟩ = some (.pointer (some ⟨d, 0, none⟩)) := blk_cell (blk_alloc C1 _) 0
  have p2 : (w.alloc (.cells #[.slice none 0 0, .int .i64 0] 92)).cell? ⟨b2, 0, none⟩ = some (.string nm) := blk_cell (blk_alloc C2 _) 0
  have p3 : (w.alloc (.cells #[.slice none 0 0, .int .i64 0] 92)).cell? ⟨d, 0, none⟩ = some (.map (some s.mb)) := blk_cell (blk_alloc h.blk _) 0
  unfold ptr at hrun
  clear hfin ho hk hW hB c1 c2 c3 c4 C1 C2 hn hbase hs hnone
  clear h
  show Calls _ _ _ _ fun e w' => e = .returned (.tuple #[]) ∧ _
  go_enter Try.func51, Try.ntmps51
  go_wp2
  go_region
  all_goals (go_wp2; go_end0; exact ⟨rfl, hfin'.out⟩)

/-! ### Append's closure -/
set_option maxHeartbeats 2000000 in
theorem append1_calls (h : FSAt w base d s) (hbase : base ≤ w.heap.size) {nm : ByteArray} {f : FileM} (hf : findF s.fl nm = some f) (A : Option Addr) (m c : Nat) (ys : List Int) (HC : (Kd.int .u8).C w A m ys)
    (hl : f.bs.length + m ≤ 140737488355328) (hroom : s.used + m ≤ s.most) (b1 b2 b3 : Nat) (n2 : ¬ foot d s b2) (n3 : ¬ foot d s b3)
    (C1 : w.heap[b1]? = some (.cells #[.pointer (some ⟨f.fb, 0, none⟩)] 89 (0, 0))) (C2 : w.heap[b2]? = some (.cells #[.slice A m c] 28 (0, 0))) (C3 : w.heap[b3]? = some (.cells #[.pointer (some ⟨d, 0, none⟩)] 23 (0, 0))) :
    Calls Try.prog 53 #[.pointer (some ⟨b1, 0, none⟩), .pointer (some ⟨b2, 0, none⟩), .pointer (some ⟨b3, 0, none⟩)] w (ToU base d s w { s.abs with fl := Vm.upd s.abs.fl nm fun f => { f with bs := f.bs ++ ys } }) := by
  obtain ⟨hm, hn⟩ := find_mem hf
  have hF := h.files f hm
  have hy : ys.length = m := HC.1
  have l1 := blk_lt C1
  have l2 := blk_lt C2
  have l3 := blk_lt C3
  have hu := used_upd h.names hf (fun g => { g with v := f.v, bs := f.bs ++ ys })
  -- what the world is behind the append and the two stores
  have hfin : ∀ A1 c1 n w1, Aside0 (n = (f.bs ++ ys).length) → w1.ownsRow base 5 1 (.slice A1 n c1) n (nums .u8 (f.bs ++ ys)) → Keeps (fun k => f.v.ownBlock = some k) w w1 →
      (∀ b, (Value.slice A1 n c1).ownBlock = some b → f.v.ownBlock = some b ∨ w.heap.size ≤ b) →
      Aside0 (ToS base d s w { s.abs with fl := Vm.upd s.abs.fl nm fun f => { f with bs := f.bs ++ ys } } ((w1.setCell ⟨f.fb, 0, none⟩ (.slice A1 n c1)).setCell ⟨d, 2, none⟩ (.int .i64 (s.used + m))).drew) ∧
      w1.cell? ⟨f.fb, 0, none⟩ = some f.v ∧ w1.frozen? ⟨f.fb, 0, none⟩ = false ∧ w1.cell? ⟨b1, 0, none⟩ = some (.pointer (some ⟨f.fb, 0, none⟩)) ∧
      (∀ u, (w1.setCell ⟨f.fb, 0, none⟩ u).cell? ⟨b3, 0, none⟩ = some (.pointer (some ⟨d, 0, none⟩))) ∧ (∀ u, (w1.setCell ⟨f.fb, 0, none⟩ u).cell? ⟨b2, 0, none⟩ = some (.slice A m c)) ∧
      (∀ u, (w1.setCell ⟨f.fb, 0, none⟩ u).cell? ⟨d, 2, none⟩ = some (.int .i64 s.used)) ∧ (∀ u, (w1.setCell ⟨f.fb, 0, none⟩ u).frozen? ⟨d, 2, none⟩ = false) := by
    intro A1 c1 n w1 ⟨en⟩ ho hk hlt
    have hfb := hk.blk hF.1 (fun e => h.own_fb hm hm e rfl)
    have hd := hk.blk h.blk (fun e => h.own_d hm e rfl)
    have hb1 := hk.blk C1 (fun e => by obtain ⟨cells, hc⟩ := own_typed hF.2.2.1 _ e; exact blk_ne hc C1 (by decide) rfl)
    have hb2 := hk.blk C2 (fun e => by obtain ⟨cells, hc⟩ := own_typed hF.2.2.1 _ e; exact blk_ne hc C2 (by decide) rfl)
    have hb3 := hk.blk C3 (fun e => by obtain ⟨cells, hc⟩ := own_typed hF.2.2.1 _ e; exact blk_ne hc C3 (by decide) rfl)
    have q3 : b3 ≠ f.fb := blk_ne C3 hF.1 (by decide)
    have q2 : b2 ≠ f.fb := blk_ne C2 hF.1 (by decide)
    have qd := h.fb_ne hm
    refine ⟨⟨?_⟩, blk_cell hfb 0, blk_frozen hfb 0, blk_cell hb1 0, fun u => blk_cell (blk_far hb3 q3 u) 0, fun u => blk_cell (blk_far hb2 q2 u) 0, fun u => blk_cell (blk_far hd (fun e => qd e.symm) u) 2, fun u => blk_frozen (blk_far hd (fun e => qd e.symm) u) 2⟩
    have hg : ∀ g : FileM → FileM, g = (fun x => { x with v := .slice A1 n c1, bs := f.bs ++ ys }) → usedL (updF s.fl nm g) = usedL s.fl + m := by
      rintro g rfl
      have := used_upd h.names hf (fun x => { x with v := .slice A1 n c1, bs := f.bs ++ ys })
      simp only [List.length_append] at this ⊢
      omega
    refine ToS.below ?_ (Below.refl _ _).drew
    refine upd_at h hf (fun x => { x with v := .slice A1 n c1, bs := f.bs ++ ys }) (fun _ => rfl) (fun _ => rfl) ?_ ?_ ?_ ?_ ?_ _ rfl
    · refine (Keeps.then_ (S := fun k => k = d ∨ k = f.fb ∨ f.v.ownBlock = some k) hk ((Keeps.set w1 f.fb 0 _).then_ (S := fun k => k = d ∨ k = f.fb) (Keeps.set _ d 2 _) (fun _ h => .inl (.inr h)) (fun _ h => .inl (.inl h))) (fun _ h => .inl (.inr (.inr h))) ?_)
      rintro k (e | e)
      · exact .inl (.inl e)
      · exact .inl (.inr (.inl e))
    · rw [hg _ rfl]
      have := blk_set (blk_far hd (p := ⟨f.fb, 0, none⟩) (fun e => qd e.symm) (.slice A1 n c1)) 2 (.int .i64 (s.used + m))
      rw [this]
      simp [FSm.used]
    · refine ⟨?_, hF.2.1, ?_, ?_, hF.2.2.2.2⟩
      · exact (blk_far (blk_set hfb 0 _) (p := ⟨d, 2, none⟩) qd _).trans rfl
      · show World.ownsRow _ base 5 1 (.slice A1 n c1) (f.bs ++ ys).length _
        rw [← en]
        refine own_setCell (own_setCell ho ?_ _) ?_ _
        · intro e
          rcases hlt f.fb e.symm with h2 | h2
          · exact h.own_fb hm hm h2 rfl
          · have := blk_lt hF.1; omega
        · intro e
          rcases hlt d e.symm with h2 | h2
          · exact h.own_d hm h2 rfl
          · have := blk_lt h.blk; omega
      · have := hF.2.2.2.1
        show f.safe ≤ (f.bs ++ ys).length
        rw [List.length_append]; omega
    · exact hlt
    · rw [hg _ rfl]; have := hroom; unfold FSm.used at this; push_cast; omega
  have HO : w.drew.ownsRow base 5 1 f.v f.bs.length (nums .u8 f.bs) := hF.2.2.1
  have HC' : (Kd.int .u8).C w.drew A m ys := HC
  have e0 : w.cell? ⟨f.fb, 0, none⟩ = some f.v := blk_cell hF.1 0
  have e1 : w.cell? ⟨b1, 0, none⟩ = some (.pointer (some ⟨f.fb, 0, none⟩)) := blk_cell C1 0
  have e2 : w.cell? ⟨b2, 0, none⟩ = some (.slice A m c) := blk_cell C2 0
  have u0 : 0 ≤ s.used := by unfold FSm.used; omega
  have u1 := h.most1
  have hl' : (f.bs.length + m) * 1 ≤ 140737488355328 := by omega
  have Hfin := Aside0.mk hfin
  have HHO := Aside0.mk HO
  have HHC := Aside0.mk HC'
  obtain ⟨v0, hv0⟩ : ∃ v0, v0 = f.v := ⟨_, rfl⟩
  clear hfin HO HC' HC C1 C2 C3 l1 l2 l3 hu hy n2 n3 hn hm hF hf
  have hb := h
  clear h hb
  show Calls _ _ _ _ fun e w' => e = .returned (.tuple #[]) ∧ _
  generalize s.used = u at *
  go_enter Try.func53, Try.ntmps53
  go_wp2
  go_region_law (refine step_app base rfl (.tmp 7) (.tmp 8) 28 5 .u8 1 rfl Try.underlying28 cut_info (by decide) f.v f.bs ys A m c (by simp [Act.eval, Act.put]) (by simp [Act.eval, Act.put]) HHO.out HHC.out hbase hl' ?_; intro A1 c1 n w1 hn1 ho1 hk1 hl1; obtain ⟨hres, g0, g1, g2, g3, g4, g5, g6⟩ := Hfin.out A1 c1 n w1 hn1 ho1 ((Keeps.drew _ w).trans hk1) hl1; clear hn1 ho1 hk1 hl1)
  all_goals (go_wp2; go_region; all_goals (go_wp2; go_end0; exact ⟨rfl, hres.out⟩))
end
end Go.Proofs.Ythjdgiobchiloaa
