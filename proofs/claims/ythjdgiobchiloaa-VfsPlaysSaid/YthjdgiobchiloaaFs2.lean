/-
  What is proved: how a disk's lists of files stand to the model's; laws on both; no condition.
-/
import Derived.Test.YthjdgiobchiloaaFs0
import Derived.Test.YthjdgiobchiloaaVm
namespace Go.Proofs.Ythjdgiobchiloaa
open Go.RowKit Go.Proofs.YthjdgiobchiloaaW.PrintWords Go.Maps
set_option linter.unusedVariables false
set_option linter.unusedSimpArgs false

def FileM.abs (f : FileM) : AF := ⟨f.nm, f.bs, f.safe⟩
def absL (fl : List FileM) : List AF := fl.map FileM.abs
def FSm.abs (s : FSm) : AS := ⟨absL s.fl, s.most, s.fuse, s.down⟩
def updF (fl : List FileM) (nm : ByteArray) (g : FileM → FileM) : List FileM := fl.map (fun f => if Vm.same f.nm nm then g f else f)

theorem abs_find (fl : List FileM) (nm : ByteArray) : Vm.find (absL fl) nm = (findF fl nm).map FileM.abs := by
  unfold Vm.find absL findF
  rw [List.find?_map]
  rfl
theorem abs_rm (fl : List FileM) (nm : ByteArray) : absL (rmF fl nm) = Vm.rm (absL fl) nm := by
  unfold Vm.rm absL rmF
  rw [List.filter_map]
  rfl
theorem abs_ins (f : FileM) (fl : List FileM) : absL (insF f fl) = Vm.ins f.abs (absL fl) := by
  induction fl with
  | nil => rfl
  | cons g r ih =>
    simp only [insF, absL, List.map_cons, Vm.ins] at ih ⊢
    have e : bytesBefore f.abs.nm.data.toList g.abs.nm.data.toList = bytesBefore f.nm.data.toList g.nm.data.toList := rfl
    rw [e]
    split
    · simp
    · simp [ih]
theorem abs_upd (fl : List FileM) (nm : ByteArray) (g : FileM → FileM) (ga : AF → AF) (hg : ∀ f, f ∈ fl → Vm.same f.nm nm = true → (g f).abs = ga f.abs) : absL (updF fl nm g) = Vm.upd (absL fl) nm ga := by
  unfold updF absL Vm.upd
  rw [List.map_map, List.map_map]
  apply List.map_congr_left
  intro f hf
  simp only [Function.comp]
  have e : Vm.same f.abs.nm nm = Vm.same f.nm nm := rfl
  rw [e]
  cases h : Vm.same f.nm nm
  · rfl
  · exact hg f hf h
theorem abs_used (fl : List FileM) : Vm.used (absL fl) = usedL fl := by
  induction fl with
  | nil => rfl
  | cons f r ih => show f.bs.length + Vm.used (absL r) = _; rw [ih]; rfl

theorem ins_perm (f : FileM) (fl : List FileM) : (insF f fl).Perm (f :: fl) := by
  induction fl with
  | nil => exact List.Perm.refl _
  | cons g r ih =>
    unfold insF
    split
    · exact List.Perm.refl _
    · exact (List.Perm.cons g ih).trans (List.Perm.swap f g r)
theorem mem_ins {f x : FileM} {fl : List FileM} : x ∈ insF f fl ↔ x = f ∨ x ∈ fl := by rw [(ins_perm f fl).mem_iff, List.mem_cons]
theorem used_perm {a b : List FileM} (h : a.Perm b) : usedL a = usedL b := by
  induction h with
  | nil => rfl
  | cons x _ ih => simp [usedL, ih]
  | swap x y l => simp [usedL]; omega
  | trans _ _ ih1 ih2 => rw [ih1, ih2]
theorem used_ins (f : FileM) (fl : List FileM) : usedL (insF f fl) = f.bs.length + usedL fl := by rw [used_perm (ins_perm f fl)]; rfl
theorem apartF_symm {f g : FileM} (h : apartF f g) : apartF g f := ⟨fun e => h.1 e.symm, fun k hk he => h.2 k he hk⟩
theorem pair_ins {f : FileM} {fl : List FileM} : (insF f fl).Pairwise apartF ↔ (f :: fl).Pairwise apartF := (ins_perm f fl).pairwise_iff apartF_symm
theorem mem_rm {fl : List FileM} {nm : ByteArray} {x : FileM} (h : x ∈ rmF fl nm) : x ∈ fl := (List.mem_filter.1 h).1
theorem pair_rm {fl : List FileM} {nm : ByteArray} {R : FileM → FileM → Prop} (h : fl.Pairwise R) : (rmF fl nm).Pairwise R := h.filter _
theorem used_rm_le (fl : List FileM) (nm : ByteArray) : usedL (rmF fl nm) ≤ usedL fl := by
  induction fl with
  | nil => exact Nat.le_refl _
  | cons f r ih =>
    show usedL (List.filter _ (f :: r)) ≤ _
    rw [List.filter_cons]
    split
    · show f.bs.length + usedL (rmF r nm) ≤ f.bs.length + usedL r; omega
    · show usedL (rmF r nm) ≤ f.bs.length + usedL r; omega
theorem rm_none {fl : List FileM} {nm : ByteArray} (h : findF fl nm = none) : rmF fl nm = fl := by
  unfold findF at h
  rw [List.find?_eq_none] at h
  unfold rmF
  rw [List.filter_eq_self]
  intro f hf
  have := h f hf
  simpa using this
theorem find_mem {fl : List FileM} {nm : ByteArray} {f : FileM} (h : findF fl nm = some f) : f ∈ fl ∧ f.nm.data.toList = nm.data.toList := by
  unfold findF at h
  exact ⟨List.mem_of_find?_eq_some h, by simpa using List.find?_some h⟩
theorem nm_eq {a b : ByteArray} (h : a.data.toList = b.data.toList) : a = b := by
  cases a with | mk x => cases b with | mk y => cases x; cases y; simp at h; subst h; rfl

theorem bytesBefore_irrefl : ∀ l : List UInt8, bytesBefore l l = false
  | [] => rfl
  | a :: r => by simp [bytesBefore, bytesBefore_irrefl r]
/-- Two files of one name are one file. -/
theorem name_once {fl : List FileM} (hp : fl.Pairwise (fun f g => bytesBefore f.nm.data.toList g.nm.data.toList = true)) {f g : FileM} (hf : f ∈ fl) (hg : g ∈ fl) (h : f.nm.data.toList = g.nm.data.toList) : f = g := by
  induction fl with
  | nil => cases hf
  | cons x r ih =>
    rw [List.pairwise_cons] at hp
    rcases List.mem_cons.1 hf with e1 | h1 <;> rcases List.mem_cons.1 hg with e2 | h2
    · rw [e1, e2]
    · have := hp.1 g h2; rw [← e1, h, bytesBefore_irrefl] at this; cases this
    · have := hp.1 f h1; rw [← e2, h, bytesBefore_irrefl] at this; cases this
    · exact ih hp.2 h1 h2
theorem rm_some {fl : List FileM} (hp : fl.Pairwise (fun f g => bytesBefore f.nm.data.toList g.nm.data.toList = true)) {nm : ByteArray} {f : FileM} (h : findF fl nm = some f) : usedL (rmF fl nm) + f.bs.length = usedL fl := by
  induction fl with
  | nil => simp [findF] at h
  | cons x r ih =>
    rw [List.pairwise_cons] at hp
    unfold findF at h
    rw [List.find?_cons] at h
    unfold rmF
    rw [List.filter_cons]
    cases hx : (x.nm.data.toList == nm.data.toList)
    · rw [hx] at h
      have := ih hp.2 h
      show usedL (x :: rmF r nm) + _ = x.bs.length + usedL r
      simp only [usedL]
      omega
    · rw [hx] at h
      simp only [Option.some.injEq] at h
      subst h
      have hn : findF r nm = none := by
        unfold findF
        rw [List.find?_eq_none]
        intro g hg
        have h1 := hp.1 g hg
        intro he
        rw [beq_iff_eq] at he hx
        rw [hx, ← he, bytesBefore_irrefl] at h1
        cases h1
      show usedL (rmF r nm) + _ = x.bs.length + usedL r
      rw [rm_none hn]
      omega
theorem names_of_map {w : World} {b n : Nat} {fl : List FileM} (h : w.ownsMap Try.prog 9 Rp b n (datum fl)) : fl.Pairwise (fun f g => bytesBefore f.nm.data.toList g.nm.data.toList = true) := by
  obtain ⟨es, he, hp, _⟩ := h.canon keyed9
  unfold datum at he
  injection he with he
  subst he
  rw [List.pairwise_map] at hp
  exact hp

/-- What is found behind an update. -/
theorem upd_datum {fl : List FileM} {nm : ByteArray} {g : FileM → FileM} (h1 : ∀ f, (g f).nm = f.nm) (h2 : ∀ f, (g f).fb = f.fb) : datum (updF fl nm g) = datum fl := by
  unfold datum updF
  rw [List.map_map]
  congr 1
  apply List.map_congr_left
  intro f _
  simp only [Function.comp]
  split
  · simp [FileM.entry, h1, h2]
  · rfl
theorem upd_len {fl : List FileM} {nm : ByteArray} {g : FileM → FileM} : (updF fl nm g).length = fl.length := by simp [updF]
theorem mem_upd {fl : List FileM} {nm : ByteArray} {g : FileM → FileM} {x : FileM} (h : x ∈ updF fl nm g) : ∃ f ∈ fl, x = if Vm.same f.nm nm then g f else f := by
  unfold updF at h
  obtain ⟨f, hf, he⟩ := List.mem_map.1 h
  exact ⟨f, hf, he.symm⟩
theorem used_upd {fl : List FileM} (hp : fl.Pairwise (fun f g => bytesBefore f.nm.data.toList g.nm.data.toList = true)) {nm : ByteArray} {f : FileM} (h : findF fl nm = some f) (g : FileM → FileM) :
    usedL (updF fl nm g) + f.bs.length = usedL fl + (g f).bs.length := by
  induction fl with
  | nil => simp [findF] at h
  | cons x r ih =>
    rw [List.pairwise_cons] at hp
    unfold findF at h
    rw [List.find?_cons] at h
    show usedL ((if Vm.same x.nm nm then g x else x) :: updF r nm g) + _ = x.bs.length + usedL r + _
    cases hx : (x.nm.data.toList == nm.data.toList)
    · rw [hx] at h
      have := ih hp.2 h
      have e : Vm.same x.nm nm = false := hx
      simp only [usedL, e]
      simp
      omega
    · rw [hx] at h
      simp only [Option.some.injEq] at h
      subst h
      have e : Vm.same x.nm nm = true := hx
      have hid : updF r nm g = r := by
        unfold updF
        rw [List.map_congr_left (g := id)]
        · simp
        · intro y hy
          have h1 := hp.1 y hy
          have : Vm.same y.nm nm = false := by
            cases hq : Vm.same y.nm nm
            · rfl
            · have h3 : y.nm.data.toList = nm.data.toList := by simpa [Vm.same] using hq
              rw [beq_iff_eq] at hx
              rw [hx, ← h3, bytesBefore_irrefl] at h1
              cases h1
          simp [this]
      rw [hid]
      simp only [usedL, e, if_true]
      omega
end Go.Proofs.Ythjdgiobchiloaa
