/-
  What is proved: plain laws behind With and Do of colloquyref07, of files by rising names; no Go, no memory.
-/
import Derived.Test.YthjdgiobchiloaaRm0
import Derived.Test.YthjdgiobchiloaaRk2
namespace Go.Proofs.Ythjdgiobchiloaa
open Go.RowKit Go.Proofs.YthjdgiobchiloaaW.PrintWords Go.Maps
set_option linter.unusedVariables false
set_option linter.unusedSimpArgs false

theorem rm_next (l : List AF) (nm : ByteArray) (k : Nat) (hk : k < l.length) : Vm.rm (l.take (k + 1)) nm = if Vm.same l[k].nm nm then Vm.rm (l.take k) nm else Vm.rm (l.take k) nm ++ [l[k]] := by
  rw [List.take_succ_eq_append_getElem hk]
  unfold Vm.rm
  rw [List.filter_append, List.filter_cons]
  cases Vm.same l[k].nm nm <;> simp
theorem less_before : ∀ a b : List UInt8, Op.bytesLess a b = bytesBefore a b
  | [], [] => rfl
  | [], _ :: _ => rfl
  | _ :: _, [] => rfl
  | a :: r, b :: s => by unfold Op.bytesLess bytesBefore; rw [less_before r s]
theorem bb_trans : ∀ {a b c : List UInt8}, bytesBefore a b = true → bytesBefore b c = true → bytesBefore a c = true
  | [], [], _, h, _ => by simp [bytesBefore] at h
  | [], _ :: _, [], _, h => by simp [bytesBefore] at h
  | [], _ :: _, _ :: _, _, _ => by simp [bytesBefore]
  | _ :: _, [], _, h, _ => by simp [bytesBefore] at h
  | _ :: _, _ :: _, [], _, h => by simp [bytesBefore] at h
  | a :: r, b :: s, c :: t, h, k => by
    unfold bytesBefore at h k ⊢
    simp only [Bool.or_eq_true, decide_eq_true_eq, Bool.and_eq_true, beq_iff_eq] at h k ⊢
    rcases h with h | ⟨rfl, h⟩
    · rcases k with k | ⟨rfl, k⟩
      · exact .inl (UInt8.lt_trans h k)
      · exact .inl h
    · rcases k with k | ⟨rfl, k⟩
      · exact .inl k
      · exact .inr ⟨rfl, bb_trans h k⟩
theorem bb_asymm {a b : List UInt8} (h : bytesBefore a b = true) : bytesBefore b a = false := by
  cases hq : bytesBefore b a with
  | false => rfl
  | true => have := bb_trans h hq; rw [bytesBefore_irrefl] at this; cases this
theorem bb_tri : ∀ {a b : List UInt8}, bytesBefore a b = false → a = b ∨ bytesBefore b a = true
  | [], [], _ => .inl rfl
  | [], _ :: _, h => by simp [bytesBefore] at h
  | _ :: _, [], _ => .inr (by simp [bytesBefore])
  | a :: r, b :: s, h => by
    unfold bytesBefore at h ⊢
    simp only [Bool.or_eq_false_iff, decide_eq_false_iff_not, Bool.and_eq_false_iff, beq_eq_false_iff_ne, Bool.or_eq_true, decide_eq_true_eq, Bool.and_eq_true, beq_iff_eq, List.cons.injEq] at h ⊢
    obtain ⟨h1, h2⟩ := h
    by_cases e : a = b
    · subst e
      rcases h2 with h2 | h2
      · exact absurd rfl h2
      · rcases bb_tri h2 with h3 | h3
        · exact .inl ⟨rfl, h3⟩
        · exact .inr (.inr ⟨rfl, h3⟩)
    · exact .inr (.inl (UInt8.lt_of_le_of_ne (UInt8.not_lt.1 h1) (fun h => e h.symm)))


theorem ins_snoc {f x : AF} (h : bytesBefore f.nm.data.toList x.nm.data.toList = true) : ∀ l : List AF, Vm.ins f (l ++ [x]) = Vm.ins f l ++ [x]
  | [] => by simp [Vm.ins, h]
  | g :: r => by
    simp only [List.cons_append, Vm.ins]
    split
    · rfl
    · rw [ins_snoc h r]; rfl
theorem ins_all {f : AF} : ∀ {l : List AF}, (∀ g ∈ l, bytesBefore f.nm.data.toList g.nm.data.toList = false) → Vm.ins f l = l ++ [f]
  | [], _ => rfl
  | g :: r, h => by
    simp only [Vm.ins, h g List.mem_cons_self, List.cons_append]
    rw [ins_all (fun x hx => h x (List.mem_cons_of_mem _ hx))]
    simp
theorem rm_mem {l : List AF} {nm : ByteArray} {g : AF} (h : g ∈ Vm.rm l nm) : g ∈ l := (List.mem_filter.1 h).1
theorem same_data {a b : ByteArray} : Vm.same a b = true ↔ a.data.toList = b.data.toList := by simp [Vm.same]

def WithInv (l : List AF) (f : AF) (i : Nat) (out : List AF) (done : Bool) : Prop :=
  (done = false ∧ out = Vm.rm (l.take i) f.nm ∧ ∀ g ∈ l.take i, bytesBefore g.nm.data.toList f.nm.data.toList = true) ∨
  (done = true ∧ out = Vm.ins f (Vm.rm (l.take i) f.nm) ∧ ∀ g ∈ l.drop i, bytesBefore f.nm.data.toList g.nm.data.toList = true)
theorem WithInv.len {l : List AF} {f : AF} {i : Nat} {out : List AF} {done : Bool} (h : WithInv l f i out done) : out.length ≤ l.length + 1 := by
  rcases h with ⟨_, rfl, _⟩ | ⟨_, rfl, _⟩
  · have := vrm_len (l.take i) f.nm
    rw [List.length_take] at this
    omega
  · rw [vins_len]
    have := vrm_len (l.take i) f.nm
    rw [List.length_take] at this
    omega
theorem WithInv.start (l : List AF) (f : AF) : WithInv l f 0 [] false := .inl ⟨rfl, rfl, fun g hg => by simp at hg⟩
theorem WithInv.end0 {l : List AF} {f : AF} {out : List AF} (h : WithInv l f l.length out false) : out ++ [f] = Vm.ins f (Vm.rm l f.nm) := by
  rcases h with ⟨_, rfl, hg⟩ | ⟨h, _⟩
  · rw [List.take_length] at hg ⊢
    exact (ins_all (fun g hm => bb_asymm (hg g (rm_mem hm)))).symm
  · cases h
theorem WithInv.end1 {l : List AF} {f : AF} {out : List AF} (h : WithInv l f l.length out true) : out = Vm.ins f (Vm.rm l f.nm) := by
  rcases h with ⟨h, _⟩ | ⟨_, rfl, hg⟩
  · cases h
  · rw [List.take_length]
section
variable {l : List AF} (hs : Sorted l) {f : AF} {i : Nat} (hi : i < l.length) {out : List AF}
include hs hi
theorem with_drop : ∀ g ∈ l.drop (i + 1), bytesBefore l[i].nm.data.toList g.nm.data.toList = true := by
  intro g hg
  have h2 : Sorted (l.take i ++ l.drop i) := by rw [List.take_append_drop]; exact hs
  rw [List.drop_eq_getElem_cons hi] at h2
  exact (List.pairwise_cons.1 (List.pairwise_append.1 h2).2.1).1 g hg
theorem with_a (h : WithInv l f i out false) (hlt : bytesBefore l[i].nm.data.toList f.nm.data.toList = true) : Vm.same l[i].nm f.nm = false ∧ WithInv l f (i + 1) (out ++ [l[i]]) false := by
  have _hs := hs
  have htake : l.take (i + 1) = l.take i ++ [l[i]] := List.take_succ_eq_append_getElem hi
  have hnx := rm_next l f.nm i hi
  have hne : Vm.same l[i].nm f.nm = false := by
    cases hq : Vm.same l[i].nm f.nm with
    | false => rfl
    | true => rw [same_data.1 hq, bytesBefore_irrefl] at hlt; cases hlt
  rcases h with ⟨_, rfl, hg⟩ | ⟨h, _⟩
  · refine ⟨hne, .inl ⟨rfl, ?_, ?_⟩⟩
    · rw [hnx, hne]; rfl
    · intro g hg2
      rw [htake, List.mem_append] at hg2
      rcases hg2 with hg2 | hg2
      · exact hg g hg2
      · rw [List.mem_singleton.1 hg2]; exact hlt
  · cases h
theorem with_b (h : WithInv l f i out false) (hlt : bytesBefore l[i].nm.data.toList f.nm.data.toList = false) : WithInv l f (i + 1) (if Vm.same l[i].nm f.nm then out ++ [f] else (out ++ [f]) ++ [l[i]]) true := by
  have htake : l.take (i + 1) = l.take i ++ [l[i]] := List.take_succ_eq_append_getElem hi
  have hnx := rm_next l f.nm i hi
  have hdr := with_drop hs hi
  rcases h with ⟨_, rfl, hg⟩ | ⟨h, _⟩
  · have hall : ∀ g ∈ Vm.rm (l.take i) f.nm, bytesBefore f.nm.data.toList g.nm.data.toList = false := fun g hm => bb_asymm (hg g (rm_mem hm))
    refine .inr ⟨rfl, ?_, ?_⟩
    · rw [hnx]
      cases hq : Vm.same l[i].nm f.nm with
      | true => rw [if_pos rfl, if_pos rfl, ins_all hall]
      | false =>
        rw [if_neg (by decide), if_neg (by decide)]
        have hfx : bytesBefore f.nm.data.toList l[i].nm.data.toList = true := by
          rcases bb_tri hlt with h | h
          · rw [same_data.2 h] at hq; cases hq
          · exact h
        rw [ins_snoc hfx, ins_all hall]
    · intro g hg2
      rcases bb_tri hlt with h | h
      · rw [← h]; exact hdr g hg2
      · exact bb_trans h (hdr g hg2)
  · cases h
theorem with_c (h : WithInv l f i out true) : Vm.same l[i].nm f.nm = false ∧ WithInv l f (i + 1) (out ++ [l[i]]) true := by
  have hnx := rm_next l f.nm i hi
  have hdr := with_drop hs hi
  rcases h with ⟨h, _⟩ | ⟨_, rfl, hg⟩
  · cases h
  · have hfx : bytesBefore f.nm.data.toList l[i].nm.data.toList = true := hg _ (by rw [List.drop_eq_getElem_cons hi]; exact List.mem_cons_self)
    have hne : Vm.same l[i].nm f.nm = false := by
      cases hq : Vm.same l[i].nm f.nm with
      | false => rfl
      | true => rw [same_data.1 hq, bytesBefore_irrefl] at hfx; cases hfx
    refine ⟨hne, .inr ⟨rfl, ?_, fun g hg2 => bb_trans hfx (hdr g hg2)⟩⟩
    rw [hnx, hne, if_neg (by decide), ins_snoc hfx]
end

theorem ins_mid {f : AF} {r : List AF} (hr : ∀ x ∈ r, bytesBefore f.nm.data.toList x.nm.data.toList = true) : ∀ {pre : List AF}, (∀ x ∈ pre, bytesBefore f.nm.data.toList x.nm.data.toList = false) → Vm.ins f (pre ++ r) = pre ++ f :: r
  | [], _ => by
    cases r with
    | nil => rfl
    | cons x s => simp [Vm.ins, hr x List.mem_cons_self]
  | x :: p, h => by
    simp only [List.cons_append, Vm.ins, h x List.mem_cons_self]
    rw [ins_mid hr (fun y hy => h y (List.mem_cons_of_mem _ hy))]
    simp
theorem vrm_none {l : List AF} {nm : ByteArray} (h : ∀ x ∈ l, Vm.same x.nm nm = false) : Vm.rm l nm = l := by
  unfold Vm.rm
  rw [List.filter_eq_self]
  intro x hx
  rw [h x hx]
  rfl
theorem before_ne {a b : ByteArray} (h : bytesBefore a.data.toList b.data.toList = true) : Vm.same a b = false ∧ Vm.same b a = false := by
  constructor
  · cases hq : Vm.same a b with
    | false => rfl
    | true => rw [same_data.1 hq, bytesBefore_irrefl] at h; cases h
  · cases hq : Vm.same b a with
    | false => rfl
    | true => rw [same_data.1 hq, bytesBefore_irrefl] at h; cases h
/-- A sorted disk, parted at a file. -/
theorem part_at {l : List AF} (hs : Sorted l) {nm : ByteArray} {f : AF} (hf : Vm.find l nm = some f) : ∃ pre r, l = pre ++ f :: r ∧ Vm.same f.nm nm = true ∧ (∀ x ∈ pre, bytesBefore x.nm.data.toList f.nm.data.toList = true) ∧ ∀ x ∈ r, bytesBefore f.nm.data.toList x.nm.data.toList = true := by
  have hm : f ∈ l := List.mem_of_find?_eq_some hf
  have hn := List.find?_some hf
  obtain ⟨pre, r, rfl⟩ := List.append_of_mem hm
  obtain ⟨_, h2, h3⟩ := List.pairwise_append.1 hs
  exact ⟨pre, r, rfl, hn, fun x hx => h3 x hx f List.mem_cons_self, (List.pairwise_cons.1 h2).1⟩
theorem same_trans_ {a b c : ByteArray} (h : Vm.same b c = true) : Vm.same a b = Vm.same a c := by
  have e := same_data.1 h
  unfold Vm.same
  rw [e]
theorem vrm_at {l : List AF} (hs : Sorted l) {nm : ByteArray} {f : AF} (hf : Vm.find l nm = some f) : ∃ pre r, l = pre ++ f :: r ∧ Vm.rm l nm = pre ++ r ∧ Vm.same f.nm nm = true ∧ (∀ x ∈ pre, bytesBefore f.nm.data.toList x.nm.data.toList = false) ∧ (∀ x ∈ r, bytesBefore f.nm.data.toList x.nm.data.toList = true) ∧ ∀ x, x ∈ pre ∨ x ∈ r → Vm.same x.nm f.nm = false := by
  obtain ⟨pre, r, rfl, hn, hp, hr⟩ := part_at hs hf
  have hne : ∀ x, x ∈ pre ∨ x ∈ r → Vm.same x.nm f.nm = false := fun x hx => by
    rcases hx with hx | hx
    · exact (before_ne (hp x hx)).1
    · exact (before_ne (hr x hx)).2
  refine ⟨pre, r, rfl, ?_, hn, fun x hx => bb_asymm (hp x hx), hr, hne⟩
  have e1 := vrm_none (l := pre) (nm := nm) (fun x hx => by rw [← same_trans_ hn]; exact hne x (.inl hx))
  have e2 := vrm_none (l := r) (nm := nm) (fun x hx => by rw [← same_trans_ hn]; exact hne x (.inr hx))
  unfold Vm.rm at e1 e2 ⊢
  rw [List.filter_append, List.filter_cons, e1, e2, hn]
  rfl
theorem upd_ins {l : List AF} (hs : Sorted l) {nm : ByteArray} {f : AF} (hf : Vm.find l nm = some f) (g : AF → AF) (hg : (g f).nm = f.nm) : Vm.upd l nm g = Vm.ins (g f) (Vm.rm l nm) := by
  obtain ⟨pre, r, rfl, hrm, hn, hp, hr, hne⟩ := vrm_at hs hf
  rw [hrm, ins_mid (by rw [hg]; exact hr) (by rw [hg]; exact hp)]
  have hne' : ∀ x, x ∈ pre ∨ x ∈ r → Vm.same x.nm nm = false := fun x hx => by rw [← same_trans_ hn]; exact hne x hx
  unfold Vm.upd
  rw [List.map_append, List.map_cons, if_pos hn]
  congr 1
  · rw [List.map_congr_left (g := id), List.map_id]
    intro x hx
    rw [hne' x (.inl hx)]
    rfl
  · congr 1
    rw [List.map_congr_left (g := id), List.map_id]
    intro x hx
    rw [hne' x (.inr hx)]
    rfl
theorem ins_back {l : List AF} (hs : Sorted l) {nm : ByteArray} {f : AF} (hf : Vm.find l nm = some f) : Vm.ins f (Vm.rm l nm) = l := by
  obtain ⟨pre, r, rfl, hrm, _, hp, hr, _⟩ := vrm_at hs hf
  rw [hrm, ins_mid hr hp]
theorem rm_comm (l : List AF) (a z : ByteArray) : Vm.rm (Vm.rm (Vm.rm l z) a) z = Vm.rm (Vm.rm l a) z := by
  unfold Vm.rm
  simp only [List.filter_filter]
  apply List.filter_congr
  intro x _
  cases Vm.same x.nm z <;> cases Vm.same x.nm a <;> rfl
theorem rm_same (l : List AF) {a z : ByteArray} (h : Vm.same a z = true) : Vm.rm (Vm.rm l a) z = Vm.rm l a := by
  unfold Vm.rm
  rw [List.filter_filter]
  apply List.filter_congr
  intro x _
  rw [same_trans_ h]
  cases Vm.same x.nm z <;> rfl
theorem does_down {m : AS} (hd : m.down = true) (o : OpM) : Vm.does m o = (m, 70) := by
  unfold Vm.does Vm.create Vm.append Vm.sync Vm.rename Vm.cut Vm.remove
  simp only [if_pos hd, ite_self]
section
variable {m : AS} (hd : m.down = false) (o : OpM)
include hd
theorem does_name1 (hk : o.kind = 1) (hn : Vm.named o.a = false) : Vm.does m o = (m, 1) := by
  unfold Vm.does Vm.create
  simp [hk, hd, hn]
theorem does_name4 (hk : o.kind = 4) (hn : Vm.named o.z = false) : Vm.does m o = (m, 1) := by
  unfold Vm.does Vm.rename
  simp [hk, hd, hn]
theorem does_twice (hk : o.kind = 1) (hn : Vm.named o.a = true) {f : AF} (hf : Vm.find m.fl o.a = some f) : Vm.does m o = (m, 5) := by
  unfold Vm.does Vm.create
  simp [hk, hd, hn, hf]
theorem does_none (h1 : o.kind ≠ 1) (h4 : o.kind = 4 → Vm.named o.z = true) (hf : Vm.find m.fl o.a = none) : Vm.does m o = (m, 4) := by
  unfold Vm.does Vm.append Vm.sync Vm.rename Vm.cut Vm.remove
  rw [if_neg h1]
  simp only [hd, hf]
  by_cases k4 : o.kind = 4
  · simp [k4, h4 k4]
  · simp [k4]
theorem does_cut1 (hk : o.kind = 5) {f : AF} (hf : Vm.find m.fl o.a = some f) (hn : o.n < 0 ∨ (f.bs.length : Int) < o.n) : Vm.does m o = (m, 1) := by
  unfold Vm.does Vm.cut
  simp [hk, hd, hf, hn]
theorem does_full (hk : o.kind = 2) {f : AF} (hf : Vm.find m.fl o.a = some f) (hr : m.most - (Vm.used m.fl : Int) < o.b.length) : Vm.does m o = (m, 71) := by
  unfold Vm.does Vm.append
  simp [hk, hd, hf, hr]
theorem does_create (hk : o.kind = 1) (hn : Vm.named o.a = true) (hf : Vm.find m.fl o.a = none) : Vm.does m o = Vm.step m fun fl => Vm.ins ⟨o.a, [], 0⟩ (Vm.rm fl o.a) := by
  unfold Vm.does Vm.create
  simp [hk, hd, hn, hf]
theorem does_app (hk : o.kind = 2) {f : AF} (hf : Vm.find m.fl o.a = some f) (hr : ¬ m.most - (Vm.used m.fl : Int) < o.b.length) : Vm.does m o = Vm.step m fun fl => Vm.upd fl o.a fun f => { f with bs := f.bs ++ o.b } := by
  unfold Vm.does Vm.append
  simp [hk, hd, hf, hr]
theorem does_sync (hk : o.kind = 3) {f : AF} (hf : Vm.find m.fl o.a = some f) : Vm.does m o = Vm.step m fun fl => Vm.upd fl o.a fun f => { f with safe := f.bs.length } := by
  unfold Vm.does Vm.sync
  simp [hk, hd, hf]
theorem does_cut (hk : o.kind = 5) {f : AF} (hf : Vm.find m.fl o.a = some f) (hn : ¬ (o.n < 0 ∨ (f.bs.length : Int) < o.n)) : Vm.does m o = Vm.step m fun fl => Vm.upd fl o.a fun f => { f with bs := f.bs.take o.n.toNat, safe := min f.safe o.n.toNat } := by
  unfold Vm.does Vm.cut
  simp [hk, hd, hf, hn]
theorem does_remove (hk : o.kind = 6) {f : AF} (hf : Vm.find m.fl o.a = some f) : Vm.does m o = Vm.step m fun fl => Vm.rm fl o.a := by
  unfold Vm.does Vm.remove
  simp [hk, hd, hf]
theorem does_rename (hs : Sorted m.fl) (hk : o.kind = 4) (hn : Vm.named o.z = true) {f : AF} (hf : Vm.find m.fl o.a = some f) : Vm.does m o = Vm.step m fun _ => Vm.ins { f with nm := o.z } (Vm.rm (Vm.rm m.fl o.a) o.z) := by
  have e : Vm.does m o = Vm.step m fun fl => if Vm.same o.a o.z then fl else Vm.ins { f with nm := o.z } (Vm.rm (Vm.rm (Vm.rm fl o.z) o.a) o.z) := by
    unfold Vm.does Vm.rename
    simp [hk, hd, hn, hf]
  rw [e]
  unfold Vm.step
  split
  · rfl
  · have e2 : (if Vm.same o.a o.z = true then m.fl else Vm.ins { f with nm := o.z } (Vm.rm (Vm.rm (Vm.rm m.fl o.z) o.a) o.z)) = Vm.ins { f with nm := o.z } (Vm.rm (Vm.rm m.fl o.a) o.z) := by
      by_cases h : Vm.same o.a o.z = true
      · rw [if_pos h, rm_same _ h]
        have hfn := List.find?_some hf
        have ez : o.z = f.nm := by
          have e1 := same_data.1 h
          have e2 := same_data.1 hfn
          exact ByteArray.ext (Array.toList_inj.1 (e1.symm.trans e2.symm))
        rw [ez]
        exact (ins_back hs hf).symm
      · rw [if_neg h, rm_comm]
    simp only [e2]
end
end Go.Proofs.Ythjdgiobchiloaa
