/-
  What is proved: plain laws behind VfsPlays: how files and bytes grow; the state of VfsPlays (a disk, and the document's beside it); no condition.
-/
import Derived.Test.YthjdgiobchiloaaRd8
import Derived.Test.YthjdgiobchiloaaSm0
namespace Go.Proofs.Ythjdgiobchiloaa
open Go.RowKit Go.Proofs.YthjdgiobchiloaaW.PrintWords Go.Maps
set_option linter.unusedVariables false
set_option linter.unusedSimpArgs false

/-! ### plain laws -/
theorem vused_ins (f : AF) : ∀ l : List AF, Vm.used (Vm.ins f l) = f.bs.length + Vm.used l
  | [] => rfl
  | g :: r => by
    unfold Vm.ins
    split
    · rfl
    · simp only [Vm.used, vused_ins f r]; omega
theorem vused_rm_le (nm : ByteArray) : ∀ l : List AF, Vm.used (Vm.rm l nm) ≤ Vm.used l
  | [] => Nat.le_refl _
  | g :: r => by
    have h := vused_rm_le nm r
    unfold Vm.rm at h ⊢
    rw [List.filter_cons]
    split
    · simp only [Vm.used]; omega
    · simp only [Vm.used]; omega
theorem vused_rm_find {nm : ByteArray} {f : AF} : ∀ {l : List AF}, Vm.find l nm = some f → Vm.used (Vm.rm l nm) + f.bs.length ≤ Vm.used l
  | [], h => by cases h
  | g :: r, h => by
    unfold Vm.find at h
    unfold Vm.rm
    rw [List.find?_cons] at h
    rw [List.filter_cons]
    cases hq : Vm.same g.nm nm with
    | true =>
      rw [hq] at h
      injection h with h
      subst h
      have := vused_rm_le nm r
      unfold Vm.rm at this
      simp only [Bool.not_true, Vm.used]
      simp; omega
    | false =>
      rw [hq] at h
      have := vused_rm_find (l := r) (nm := nm) (f := f) (by unfold Vm.find; exact h)
      unfold Vm.rm at this
      simp only [Bool.not_false, if_true, Vm.used]
      omega
theorem vused_upd_le {nm : ByteArray} {g : AF → AF} (hg : ∀ f, (g f).bs.length ≤ f.bs.length) : ∀ l : List AF, Vm.used (Vm.upd l nm g) ≤ Vm.used l
  | [] => Nat.le_refl _
  | f :: r => by
    have h := vused_upd_le hg r (nm := nm)
    unfold Vm.upd at h ⊢
    simp only [List.map_cons, Vm.used]
    have := hg f
    split <;> omega
theorem step_cases (m : AS) (g : List AF → List AF) : (Vm.step m g).1.fl = m.fl ∨ (Vm.step m g).1.fl = g m.fl := by
  unfold Vm.step
  split
  · exact .inl rfl
  · exact .inr rfl
/-- How an operation grows a disk. -/
def Grows (m : AS) (L : Nat) (m' : AS) : Prop := m'.fl.length ≤ m.fl.length + 1 ∧ Vm.used m'.fl ≤ Vm.used m.fl + L
theorem grows_same (m : AS) (L : Nat) : Grows m L m := ⟨by omega, by omega⟩
theorem grows_step {m : AS} {L : Nat} {g : List AF → List AF} (h1 : (g m.fl).length ≤ m.fl.length + 1) (h2 : Vm.used (g m.fl) ≤ Vm.used m.fl + L) : Grows m L (Vm.step m g).1 := by
  rcases step_cases m g with h | h
  · exact ⟨by rw [h]; omega, by rw [h]; omega⟩
  · exact ⟨by rw [h]; exact h1, by rw [h]; exact h2⟩
theorem does_grows {m : AS} (hs : Sorted m.fl) (o : OpM) : Grows m o.b.length (Vm.does m o).1 := by
  unfold Vm.does
  split
  · unfold Vm.create
    repeat' (split; exact grows_same _ _)
    refine grows_step ?_ ?_
    · rw [vins_len]; have := vrm_len m.fl o.a; omega
    · rw [vused_ins]; have := vused_rm_le o.a m.fl; simp; omega
  split
  · unfold Vm.append
    split
    · exact grows_same _ _
    · split
      · exact grows_same _ _
      · rename_i hf
        split
        · exact grows_same _ _
        · refine grows_step (by rw [vupd_len]; omega) ?_
          rw [used_upd_ (k := o.b.length) (fun f => by simp) hs (by cases hq : Vm.find m.fl o.a with | none => rw [hq] at hf; exact absurd rfl hf | some f => rfl)]
          exact Nat.le_refl _
  split
  · unfold Vm.sync
    split
    · exact grows_same _ _
    · split
      · exact grows_same _ _
      · exact grows_step (by rw [vupd_len]; omega) (by have := vused_upd_le (nm := o.a) (g := fun f => { f with safe := f.bs.length }) (fun f => Nat.le_refl _) m.fl; omega)
  split
  · unfold Vm.rename
    split
    · exact grows_same _ _
    · split
      · exact grows_same _ _
      · split
        · exact grows_same _ _
        · rename_i f hf
          refine grows_step ?_ ?_
          · split
            · omega
            · rw [vins_len]
              have h1 := vrm_len (Vm.rm (Vm.rm m.fl o.z) o.a) o.z
              have h2 := vrm_len (Vm.rm m.fl o.z) o.a
              have h3 := vrm_len m.fl o.z
              omega
          · split
            · omega
            · rw [vused_ins, rm_comm]
              have h1 := vused_rm_le o.z (Vm.rm m.fl o.a)
              have h2 := vused_rm_find hf
              show f.bs.length + _ ≤ _
              omega
  split
  · unfold Vm.cut
    split
    · exact grows_same _ _
    · split
      · exact grows_same _ _
      · split
        · exact grows_same _ _
        · exact grows_step (by rw [vupd_len]; omega) (by have := vused_upd_le (nm := o.a) (g := fun f => { f with bs := f.bs.take o.n.toNat, safe := min f.safe o.n.toNat }) (fun f => by simp; omega) m.fl; omega)
  · unfold Vm.remove
    split
    · exact grows_same _ _
    · split
      · exact grows_same _ _
      · exact grows_step (by have := vrm_len m.fl o.a; omega) (by have := vused_rm_le o.a m.fl; omega)
theorem crashL_used : ∀ (l : List AF) (ks : List Int), Vm.used (Vm.crashL l ks) ≤ Vm.used l
  | [], _ => Nat.le_refl _
  | f :: r, ks => by
    unfold Vm.crashL
    split
    · have := crashL_used r ks; simp only [Vm.used]; omega
    · have := crashL_used r ks.tail
      simp only [Vm.used, List.length_take]
      omega
/-- What a law's disk knows of its model. -/
structure ModelOk (m : AS) : Prop where
  sorted : Sorted m.fl
  safe : ∀ f ∈ m.fl, f.safe ≤ f.bs.length
  fuse0 : 0 ≤ m.fuse
  fuse1 : m.fuse ≤ 9223372036854775807
  most0 : 0 ≤ m.most
  most1 : m.most ≤ 9223372036854775807
theorem LS.model {w0 w : World} {d : Nat} {m : AS} {N : Nat → Prop} (h : LS w0 d m N w) : ModelOk m := by
  have hs := h.sorted
  obtain ⟨s, h1, h2, _⟩ := h.disk.ex
  refine ⟨hs, ?_, ?_, ?_, ?_, ?_⟩
  · intro f hf
    rw [← h2] at hf
    obtain ⟨g, hg, rfl⟩ := List.mem_map.1 (show f ∈ s.fl.map FileM.abs from hf)
    exact (h1.files g hg).2.2.2.1
  · rw [← h2]; exact h1.fuse0
  · rw [← h2]; exact h1.fuse1
  · rw [← h2]; exact h1.most0
  · rw [← h2]; exact h1.most1

/-! ### the state: the disk md, and beside it the document's disk mr in the box gm -/
def NoG (N : Nat → Prop) (gm b : Nat) : Prop := N b ∧ b ≠ gm
structure Pl (w : World) (d gm : Nat) (md mr : AS) (N : Nat → Prop) (v : Value) (wr : World) : Prop where
  ls : LS w d md N wr
  ng : N gm
  ref : RefAt wr (NoG N gm) mr.fl v
  blk : wr.heap[gm]? = some (.cells #[v, .int .i64 mr.most, .int .i64 mr.fuse, .bool mr.down] 50 (0, 0))
  base : w.heap.size ≤ gm
section
variable {w wr w1 : World} {d gm : Nat} {md mr : AS} {N : Nat → Prop} {v : Value}
theorem Pl.below (h : Pl w d gm md mr N v wr) (hb : Below wr.heap.size wr w1) : Pl w d gm md mr N v w1 := ⟨h.ls.below hb, h.ng, h.ref.below hb, blk_below h.blk hb, h.base⟩
/-- A new block that the disk's calls shall keep. -/
theorem Pl.alloc (h : Pl w d gm md mr N v wr) (o : Obj) : Pl w d gm md mr (fun b => N b ∨ b = wr.heap.size) v (wr.alloc o) := by
  have hb := below_lit wr o
  refine ⟨⟨h.ls.disk.keep (S := fun _ => False) (Keeps.of_below hb _) (fun _ h => h.elim) (fun b hb => hb.imp id (fun e => by omega)) ?_, (h.ls.below hb).old⟩, .inl h.ng, Kd.V_mono (h.ref.below hb) (fun b hb => ⟨.inl hb.1, hb.2⟩), blk_below h.blk hb, h.base⟩
  rintro b (hb | hb)
  · have := h.ls.disk.bound b hb; simp; omega
  · simp; omega
/-- The disk turns, what is beside it stays. -/
theorem Pl.to {m' : AS} (h : Pl w d gm md mr N v wr) (hl : LS w d m' N w1) (hk : Keeps (Other w.heap.size N) wr w1) : Pl w d gm m' mr N v w1 :=
  ⟨hl, h.ng, V_keeps h.ref hk (fun b hb ho => ho.2 hb.1), hk.blk h.blk (fun ho => ho.2 h.ng), h.base⟩
/-- The box's other fields turn. -/
theorem Pl.fuse (h : Pl w d gm md mr N v wr) (x : Int) : Pl w d gm md { mr with fuse := x } N v (wr.setCell ⟨gm, 2, none⟩ (.int .i64 x)) := by
  have K := Keeps.set wr gm 2 (.int .i64 x)
  refine ⟨⟨h.ls.disk.keep K (fun b hb => by rw [hb]; exact h.ng) (fun b hb => .inl hb) (fun b hb => Nat.lt_of_lt_of_le (h.ls.disk.bound b hb) K.size), h.ls.old.trans (K.below (fun b hb => by have := h.base; omega) h.ls.disk.size)⟩, h.ng, V_keeps h.ref K (fun b hb he => hb.2 he), blk_set h.blk 2 _, h.base⟩
/-- New files of the document's disk. -/
theorem Pl.put {fl' : List AF} {v' : Value} {w2 : World} {most fuse : Int} {down : Bool} (h : Pl w d gm md mr N v wr) (hr : RefTo wr (NoG N gm) fl' v' w2) :
    Pl w d gm md ⟨fl', most, fuse, down⟩ (fun b => N b ∨ (wr.heap.size ≤ b ∧ b < w2.heap.size)) v' ((((w2.setCell ⟨gm, 0, none⟩ v').setCell ⟨gm, 1, none⟩ (.int .i64 most)).setCell ⟨gm, 2, none⟩ (.int .i64 fuse)).setCell ⟨gm, 3, none⟩ (.bool down)) := by
  obtain ⟨h1, h2⟩ := hr
  have hgm := blk_lt h.blk
  have K := keeps_set4 w2 gm v' (.int .i64 most) (.int .i64 fuse) (.bool down)
  have hb2 := blk_below h.blk h2
  have D2 : Disk w2 w.heap.size d md (fun b => N b ∨ (wr.heap.size ≤ b ∧ b < w2.heap.size)) := h.ls.disk.keep (S := fun _ => False) (Keeps.of_below h2 _) (fun _ h => h.elim) (fun b hb => hb.imp id And.left) (fun b hb => by
    rcases hb with hb | hb
    · exact Nat.lt_of_lt_of_le (h.ls.disk.bound b hb) h2.size
    · exact hb.2)
  refine ⟨⟨D2.keep K (fun b hb => by rw [hb]; exact .inl h.ng) (fun b hb => .inl hb) (fun b hb => Nat.lt_of_lt_of_le (D2.bound b hb) K.size), (h.ls.below h2).old.trans (K.below (fun b hb => by have := h.base; omega) D2.size)⟩, .inl h.ng, ?_, blk_set4 hb2 _ _ _ _, h.base⟩
  refine V_keeps (Kd.V_mono (Kd.V_bound h1) (ok' := NoG (fun b => N b ∨ (wr.heap.size ≤ b ∧ b < w2.heap.size)) gm) ?_) K (fun b hb he => hb.2 he)
  rintro b ⟨hb | hb, hlt⟩
  · exact ⟨.inl hb.1, hb.2⟩
  · exact ⟨.inr ⟨hb, hlt⟩, by omega⟩
end
end Go.Proofs.Ythjdgiobchiloaa
