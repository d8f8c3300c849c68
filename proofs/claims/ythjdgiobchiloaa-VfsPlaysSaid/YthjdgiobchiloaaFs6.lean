/-
  What is proved: what Rename's closure comes to, and what a step over a closure comes to; of texts up to the model's length.
-/
import Derived.Test.YthjdgiobchiloaaFs5
namespace Go.Proofs.Ythjdgiobchiloaa
open Go.RowKit Go.Proofs.YthjdgiobchiloaaW.PrintWords Go.Maps
set_option linter.unusedVariables false
set_option linter.unusedSimpArgs false

section
variable {w : World} {base d : Nat} {s : FSm}

theorem find_rm_ne (fl : List FileM) {a z : ByteArray} (h : Vm.same a z = false) : findF (rmF fl z) a = findF fl a := by
  unfold findF rmF
  rw [List.find?_filter]
  congr 1
  funext f
  cases h1 : (f.nm.data.toList == a.data.toList)
  · simp
  · rw [beq_iff_eq] at h1
    have : (f.nm.data.toList == z.data.toList) = false := by rw [h1]; exact h
    simp [this]
theorem find_rm_same (fl : List FileM) (z : ByteArray) : findF (rmF fl z) z = none := by
  unfold findF rmF
  rw [List.find?_eq_none]
  intro f hf
  have := (List.mem_filter.1 hf).2
  simpa using this
theorem find_none_iff {fl : List FileM} {z : ByteArray} : findF fl z = none ↔ ∀ f ∈ fl, Vm.same f.nm z = false := by
  unfold findF
  rw [List.find?_eq_none]
  simp [Vm.same]

/-- A file has another name. -/
theorem mv_at (h : FSAt w base d s) {a z : ByteArray} {f : FileM} (hf : findF s.fl a = some f) (hz : findF s.fl z = none) (hzs : z.size ≤ maxLen) {w' : World} (hk : Keeps (fun k => k = s.mb) w w')
    (ho : w'.ownsMap Try.prog 9 Rp s.mb (insF { f with nm := z } (rmF (rmF s.fl a) z)).length (datum (insF { f with nm := z } (rmF (rmF s.fl a) z)))) :
    FSAt w' base d { s with fl := insF { f with nm := z } (rmF (rmF s.fl a) z) } := by
  obtain ⟨hm, hn⟩ := find_mem hf
  have e1 : rmF (rmF s.fl a) z = rmF s.fl a := by
    apply rm_none
    rw [find_none_iff] at hz ⊢
    exact fun x hx => hz x (mem_rm hx)
  have hu := rm_some h.names hf
  rw [e1] at ho ⊢
  have eu : usedL (insF { f with nm := z } (rmF s.fl a)) = usedL s.fl := by
    rw [used_ins]
    show f.bs.length + _ = _
    omega
  have hst : ∀ x ∈ s.fl, FileAt w' base x := fun x hx => (h.files x hx).step hk (fun e => h.fb_mb hx e.symm) (fun b hb => h.own_mb hx hb)
  refine ⟨?_, ho, ?_, ?_, h.baseD, h.baseM, h.most0, h.most1, ?_, h.fuse0, h.fuse1, names_of_map ho⟩
  · show w'.heap[d]? = some (.cells #[_, _, .int .i64 (usedL (insF { f with nm := z } (rmF s.fl a))), _, _] _ _)
    rw [eu]
    exact hk.blk h.blk (fun e => h.mb_ne e.symm)
  · intro x hx
    rcases mem_ins.1 hx with rfl | hx
    · obtain ⟨g1, g2, g3, g4, _⟩ := hst f hm
      exact ⟨g1, g2, g3, g4, hzs⟩
    · exact hst x (mem_rm hx)
  · show (insF _ (rmF s.fl a)).Pairwise apartF
    rw [pair_ins, List.pairwise_cons]
    refine ⟨fun x hx => ?_, pair_rm h.apart⟩
    have hne : f ≠ x := by
      rintro rfl
      have := (List.mem_filter.1 hx).2
      simp [hn] at this
    have := apart_of h.apart hm (mem_rm hx) hne
    exact ⟨this.1, this.2⟩
  · have := h.room
    show (usedL (insF { f with nm := z } (rmF s.fl a)) : Int) ≤ s.most
    rw [eu]
    exact this

set_option maxHeartbeats 2000000 in
theorem rename1_same (h : FSAt w base d s) {a z : ByteArray} (hs : Vm.same a z = true) (b1 b2 b3 b4 : Nat)
    (C1 : w.heap[b1]? = some (.cells #[.string a] 9 (0, 0))) (C2 : w.heap[b2]? = some (.cells #[.string z] 9 (0, 0))) :
    Calls Try.prog 60 #[.pointer (some ⟨b1, 0, none⟩), .pointer (some ⟨b2, 0, none⟩), .pointer (some ⟨b3, 0, none⟩), .pointer (some ⟨b4, 0, none⟩)] w (ToU base d s w s.abs) := by
  have hfin' := Aside0.mk (ToS.refl h)
  have d1 : w.cell? ⟨b1, 0, none⟩ = some (.string a) := blk_cell C1 0
  have d2 : w.cell? ⟨b2, 0, none⟩ = some (.string z) := blk_cell C2 0
  have hs2 : (a.toList == z.toList) = true := by
    rw [ByteArray.toList_eq, ByteArray.toList_eq]
    exact hs
  clear C1 C2 hs
  clear h
  show Calls _ _ _ _ fun e w' => e = .returned (.tuple #[]) ∧ _
  go_enter Try.func60, Try.ntmps60
  go_wp2
  go_end0; exact ⟨rfl, hfin'.out⟩
set_option maxHeartbeats 4000000 in
theorem rename1_other (h : FSAt w base d s) {a z : ByteArray} {f : FileM} (hs : Vm.same a z = false) (hf : findF s.fl a = some f) (ha : a.size ≤ maxLen) (hz : z.size ≤ maxLen) (hn : s.fl.length < maxLen) (b1 b2 b3 b4 : Nat)
    (n1 : ¬ foot d s b1) (n2 : ¬ foot d s b2) (n3 : ¬ foot d s b3) (n4 : ¬ foot d s b4)
    (C1 : w.heap[b1]? = some (.cells #[.string a] 9 (0, 0))) (C2 : w.heap[b2]? = some (.cells #[.string z] 9 (0, 0)))
    (C3 : w.heap[b3]? = some (.cells #[.pointer (some ⟨d, 0, none⟩)] 23 (0, 0))) (C4 : w.heap[b4]? = some (.cells #[.pointer (some ⟨f.fb, 0, none⟩)] 89 (0, 0))) :
    Calls Try.prog 60 #[.pointer (some ⟨b1, 0, none⟩), .pointer (some ⟨b2, 0, none⟩), .pointer (some ⟨b3, 0, none⟩), .pointer (some ⟨b4, 0, none⟩)] w
      (ToU base d s w { s.abs with fl := Vm.ins { f.abs with nm := z } (Vm.rm (Vm.rm (Vm.rm s.abs.fl z) a) z) }) := by
  have d1 : w.cell? ⟨b1, 0, none⟩ = some (.string a) := blk_cell C1 0
  have d2 : w.cell? ⟨b2, 0, none⟩ = some (.string z) := blk_cell C2 0
  have d3 : w.cell? ⟨b3, 0, none⟩ = some (.pointer (some ⟨d, 0, none⟩)) := blk_cell C3 0
  have hs2 : (a.toList == z.toList) = false := by
    rw [ByteArray.toList_eq, ByteArray.toList_eq]
    exact hs
  have hD := Aside0.mk (drop_calls h hz)
  have hrest : ∀ w1, FSAt w1 base d { s with fl := rmF s.fl z } → Keeps (fun k => k = d ∨ k = s.mb) w w1 →
      ∃ w2 w3, (Builtin.delete_ #[85, 9] 0 #[.map (some s.mb), .string a]).run Try.prog w1.drew = .ok (.tuple #[]) w2 ∧ (Instr.mapUpdate 85 (.map (some s.mb)) (.string z) (.pointer (some ⟨f.fb, 0, none⟩))).run Try.prog w2.drew = .ok () w3 ∧
      (w1.cell? ⟨b1, 0, none⟩ = some (.string a) ∧ w1.cell? ⟨b3, 0, none⟩ = some (.pointer (some ⟨d, 0, none⟩)) ∧ w1.cell? ⟨d, 0, none⟩ = some (.map (some s.mb))) ∧
      (w2.cell? ⟨b2, 0, none⟩ = some (.string z) ∧ w2.cell? ⟨b3, 0, none⟩ = some (.pointer (some ⟨d, 0, none⟩)) ∧ w2.cell? ⟨b4, 0, none⟩ = some (.pointer (some ⟨f.fb, 0, none⟩)) ∧ w2.cell? ⟨d, 0, none⟩ = some (.map (some s.mb))) ∧
      Aside0 (ToS base d s w { s.abs with fl := Vm.ins { f.abs with nm := z } (Vm.rm (Vm.rm (Vm.rm s.abs.fl z) a) z) } w3) := by
    intro w1 h1 k1
    obtain ⟨w2, r2, o2, k2⟩ := drop_ (fl := rmF s.fl z) (h1.map.drew) ha 0
    have hlen : (rmF (rmF s.fl z) a).length < maxLen := by
      have q1 := List.length_filter_le (fun f : FileM => !(f.nm.data.toList == a.data.toList)) (rmF s.fl z)
      have q2 := List.length_filter_le (fun f : FileM => !(f.nm.data.toList == z.data.toList)) s.fl
      show (List.filter _ (rmF s.fl z)).length < _
      have : (rmF s.fl z).length ≤ s.fl.length := q2
      omega
    obtain ⟨w3, r3, o3, k3⟩ := put_ (fl := rmF (rmF s.fl z) a) (o2.drew) { f with nm := z } hz hlen
    have k12 : Keeps (fun k => k = s.mb) w1 w2 := (Keeps.drew _ _).trans k2
    have k13 : Keeps (fun k => k = s.mb) w1 w3 := k12.trans ((Keeps.drew _ _).trans k3)
    have nn : ∀ b, ¬ foot d s b → ¬ (b = d ∨ b = s.mb) := fun b hb hh => hb (hh.imp id .inl)
    have nm : ∀ b, ¬ foot d s b → ¬ (b = s.mb) := fun b hb hh => hb (.inr (.inl hh))
    refine ⟨w2, w3, r2, r3, ⟨blk_cell (k1.blk C1 (nn _ n1)) 0, blk_cell (k1.blk C3 (nn _ n3)) 0, h1.cell.1⟩,
      ⟨blk_cell (k12.blk (k1.blk C2 (nn _ n2)) (nm _ n2)) 0, blk_cell (k12.blk (k1.blk C3 (nn _ n3)) (nm _ n3)) 0, blk_cell (k12.blk (k1.blk C4 (nn _ n4)) (nm _ n4)) 0, blk_cell (k12.blk h1.blk (fun e => h.mb_ne e.symm)) 0⟩, ⟨?_⟩⟩
    have hfin := mv_at h1 (a := a) (z := z) (f := f) (by rw [find_rm_ne _ hs]; exact hf) (find_rm_same _ _) hz k13 o3
    refine ⟨_, hfin, ?_, rfl, ?_, ?_⟩
    · show AS.mk (absL (insF { f with nm := z } (rmF (rmF (rmF s.fl z) a) z))) _ _ _ = AS.mk (Vm.ins _ (Vm.rm (Vm.rm (Vm.rm (absL s.fl) z) a) z)) _ _ _
      rw [abs_ins, abs_rm, abs_rm, abs_rm]
      rfl
    · exact (k1.then_ k13 (S := foot d s) (fun k hk => .inl (hk.imp id .inl)) (fun k hk => .inl (.inr (.inl hk))))
    · rintro k (e | e | ⟨x, hx, hx2⟩)
      · exact .inl (.inl e)
      · exact .inl (.inr (.inl e))
      · obtain ⟨hm, _⟩ := find_mem hf
        rcases mem_ins.1 hx with rfl | hx
        · exact .inl (.inr (.inr ⟨f, hm, hx2⟩))
        · exact .inl (.inr (.inr ⟨x, mem_rm (mem_rm (mem_rm hx)), hx2⟩))
  have hrest' := Aside0.mk hrest
  clear hrest C1 C2 C3 C4 n1 n2 n3 n4 hn ha hz hf hs
  clear h
  show Calls _ _ _ _ fun e w' => e = .returned (.tuple #[]) ∧ _
  go_enter Try.func60, Try.ntmps60
  go_wp2_with fail
  refine hD.out.mono ?_
  rintro e w1 ⟨rfl, hF, hK⟩
  obtain ⟨w2, w3, r2, r3, ⟨p1, p2, p3⟩, ⟨q1, q2, q3, q4⟩, hfin⟩ := hrest'.out w1 hF hK
  clear hrest' hF hK hD
  go_wp2
  go_region
  all_goals (go_wp2; go_region; all_goals (go_wp2; go_end0; exact ⟨rfl, hfin.out⟩))
end
end Go.Proofs.Ythjdgiobchiloaa
