/-
  What is proved: append to an owned row of bytes (as one step of a region, or of a list), and how a disk turns when one file turns; no condition.
-/
import Derived.Test.YthjdgiobchiloaaFs2
import Derived.Test.YthjdgiobchiloaaFs1
import Derived.Deep.RegionLaw
namespace Go.Proofs.Ythjdgiobchiloaa
open Go.RowKit Go.Proofs.YthjdgiobchiloaaW.PrintWords Go.Maps
set_option linter.unusedVariables false
set_option linter.unusedSimpArgs false

theorem reads_of_C {k : IntKind} {w : World} {A : Option Addr} {n : Nat} {xs : List Int} (h : (Kd.int k).C w A n xs) : ReadsInt w k A n xs :=
  ⟨h.1, h.2.1, fun hn => by
    obtain ⟨ad, e, hc⟩ := h.2.2 hn
    refine ⟨ad, e, fun j hj => ?_⟩
    have hj' : j < xs.length := by rw [h.1]; exact hj
    obtain ⟨c, hs, hr, hcell⟩ := hc j xs[j] (List.getElem?_eq_getElem hj')
    have hr' : c = [.int k xs[j]] := hr
    subst hr'
    have := hcell 0 _ rfl
    have e1 : (Kd.int k).sz = 1 := rfl
    rw [e1, Nat.mul_one, Nat.add_zero] at this
    rw [this, List.getD_eq_getElem?_getD, List.getElem?_eq_getElem hj']
    rfl⟩
theorem C_of_own {k : IntKind} {w : World} {base n c : Nat} {e : TypeId} {A : Option Addr} {xs : List Int} (h : w.ownsRow base e 1 (.slice A n c) n (nums k xs)) : (Kd.int k).C w A n xs :=
  Kd.C_of_reads (d := 0) (own_reads' h)

section
variable {P : Program}
/-- append(v, ys...) on bytes. -/
theorem run_app {W : World} (base : Nat) (t ty e : TypeId) (k : IntKind) (bytes : Nat)
    (ht : P.underlying t = some (.slice e)) (hinfo : (P.info? e).map (fun i => (i.zero, i.size, i.bytes)) = some (some (.int k 0), 1, bytes)) (hb0 : 0 < bytes)
    (v : Value) (xs ys : List Int) (A : Option Addr) (m c : Nat)
    (HO : W.ownsRow base e 1 v xs.length (nums k xs)) (HC : (Kd.int k).C W A m ys) (hbase : base ≤ W.heap.size) (hl : (xs.length + m) * bytes ≤ 140737488355328) :
    ∃ A1 c1 w1, (Builtin.append_ #[t, t] ty #[v, .slice A m c]).run P W = .ok (.slice A1 (xs ++ ys).length c1) w1 ∧ w1.ownsRow base e 1 (.slice A1 (xs ++ ys).length c1) (xs ++ ys).length (nums k (xs ++ ys)) ∧
      Keeps (fun k => v.ownBlock = some k) W w1 ∧ (∀ b, (Value.slice A1 (xs ++ ys).length c1).ownBlock = some b → v.ownBlock = some b ∨ W.heap.size ≤ b) := by
  obtain ⟨i0, hi, hzz⟩ := Option.map_eq_some_iff.1 hinfo
  simp only [Prod.mk.injEq] at hzz
  obtain ⟨hz0, hz1, hz2⟩ := hzz
  have HR := reads_of_C HC
  have hm : ys.length = m := HR.1
  have hlen : xs.length + m ≤ 140737488355328 := Nat.le_trans (Nat.le_mul_of_pos_right _ hb0) hl
  have hrun : ∃ v1 w1, (Builtin.append_ #[t, t] ty #[v, .slice A m c]).run P W = .ok v1 w1 ∧ w1.ownsRow base e 1 v1 (xs ++ ys).length (nums k (xs ++ ys)) ∧ W.grownBy w1 v.ownBlock ∧ (v1.ownBlock = v.ownBlock ∨ v1.ownBlock = some W.heap.size) := by
    rcases A with _ | ad
    · have h0 : m = 0 := by
        rcases Nat.eq_zero_or_pos m with h0 | h0
        · exact h0
        · obtain ⟨ad, h, _⟩ := HR.2.2 h0
          cases h
      subst h0
      obtain rfl : ys = [] := List.eq_nil_of_length_eq_zero hm
      refine ⟨v, W, ?_, by simpa using HO, World.grownBy.refl W _, .inl rfl⟩
      rcases HO.2 with ⟨rfl, hn⟩ | ⟨g, cap, cur, rfl, _, _, hnc, _⟩
      · simp [Builtin.append_, run_underlying ht, sizeOf, typeInfo, hi, Builtin.lenOf, Builtin.firstCells]
      · simp [Builtin.append_, run_underlying ht, sizeOf, typeInfo, hi, Builtin.lenOf, Builtin.firstCells, hnc, storeCells]
    · have hcells : ∀ j u, (nums k ys)[j]? = some u → W.cell? (ad.add j) = some u := by
        intro j u hu
        have hj : j < ys.length := by
          rcases Nat.lt_or_ge j ys.length with h | h
          · exact h
          · simp [nums, List.getElem?_eq_none h] at hu
        obtain ⟨ad', h', hc⟩ := HR.2.2 (by omega)
        injection h' with h'
        subst h'
        have := hc j (by omega)
        simp [nums, List.getElem?_eq_getElem hj] at hu
        subst hu
        rw [this]
        simp [List.getD_eq_getElem?_getD, List.getElem?_eq_getElem hj]
      obtain ⟨v1, w1, hr, h2, h3, _, h5⟩ := run_append_own_at (P := P) W base t ty e i0 (.int k 0) 1 bytes ht hi hz0 hz1 hz2 rfl (by omega) v xs.length (nums k xs) HO ad m c (nums k ys) (by simp [nums, hm]) hcells
        (by intro u hu; simp only [nums, List.mem_map] at hu; obtain ⟨q, _, rfl⟩ := hu; rfl) (by simp only [maxLen]; omega) hl hbase
      exact ⟨v1, w1, hr, by simpa [nums, hm] using h2, h3, h5⟩
  obtain ⟨v1, w1, hr, hown, hg, hat⟩ := hrun
  obtain ⟨A1, c1, rfl⟩ := own_slice hown
  refine ⟨A1, c1, w1, hr, hown, (Keeps.of_grown hg).mono (fun k hk => hk.symm), fun b hb => ?_⟩
  rcases hat with hat | hat
  · exact .inl (hat ▸ hb)
  · rw [hat] at hb; injection hb with hb; exact .inr (by omega)
theorem step_app {W : World} {ops : Array Oper} {o : Oper} {a : Act} {K : Act → World → Prop} {Q : Exit → Act → World → Prop} {E : Prop} (base : Nat) (hgd : o.guard = none) (s x : Operand) (t e : TypeId) (k : IntKind) (bytes : Nat)
    (ho : o.op = .call { callee := .builtin .append, args := #[s, x], argTypes := #[t, t] })
    (ht : P.underlying t = some (.slice e)) (hinfo : (P.info? e).map (fun i => (i.zero, i.size, i.bytes)) = some (some (.int k 0), 1, bytes)) (hb0 : 0 < bytes)
    (v : Value) (xs ys : List Int) (A : Option Addr) (m c : Nat) (hs : a.eval s = v) (hx : a.eval x = .slice A m c)
    (HO : W.ownsRow base e 1 v xs.length (nums k xs)) (HC : (Kd.int k).C W A m ys) (hbase : base ≤ W.heap.size) (hl : (xs.length + m) * bytes ≤ 140737488355328)
    (h : ∀ A1 c1 n w1, Aside0 (n = (xs ++ ys).length) → w1.ownsRow base e 1 (.slice A1 n c1) n (nums k (xs ++ ys)) → Keeps (fun k => v.ownBlock = some k) W w1 → (∀ b, (Value.slice A1 n c1).ownBlock = some b → v.ownBlock = some b ∨ W.heap.size ≤ b) →
      K (a.put o.dst (.slice A1 n c1)) w1) :
    if Region.wanted o (yielded ops a.tmps) = true then Oper.wp P o a W K Q else E := by
  have hw : Region.wanted o (yielded ops a.tmps) = true := by simp [Region.wanted, hgd]
  rw [if_pos hw]
  obtain ⟨A1, c1, w1, hr, h1, h2, h3⟩ := run_app base t o.type e k bytes ht hinfo hb0 v xs ys A m c HO HC hbase hl
  unfold Oper.wp execOp
  simp only [ho, resolve, invoke, builtin, Sem.run_bind, Sem.run_pure, Result.andThen_ok, List.map_toArray, List.map_cons, List.map_nil, hs, hx, hr]
  exact h A1 c1 _ w1 ⟨rfl⟩ h1 h2 h3
theorem list_app {W : World} {ops : Array Oper} {rest : List Oper} {o : Oper} {a : Act} {Q : Exit → Act → World → Prop} (base : Nat) (hgd : o.guard = none) (s x : Operand) (t e : TypeId) (k : IntKind) (bytes : Nat)
    (ho : o.op = .call { callee := .builtin .append, args := #[s, x], argTypes := #[t, t] })
    (ht : P.underlying t = some (.slice e)) (hinfo : (P.info? e).map (fun i => (i.zero, i.size, i.bytes)) = some (some (.int k 0), 1, bytes)) (hb0 : 0 < bytes)
    (v : Value) (xs ys : List Int) (A : Option Addr) (m c : Nat) (hs : a.eval s = v) (hx : a.eval x = .slice A m c)
    (HO : W.ownsRow base e 1 v xs.length (nums k xs)) (HC : (Kd.int k).C W A m ys) (hbase : base ≤ W.heap.size) (hl : (xs.length + m) * bytes ≤ 140737488355328)
    (h : ∀ A1 c1 n w1, Aside0 (n = (xs ++ ys).length) → w1.ownsRow base e 1 (.slice A1 n c1) n (nums k (xs ++ ys)) → Keeps (fun k => v.ownBlock = some k) W w1 → (∀ b, (Value.slice A1 n c1).ownBlock = some b → v.ownBlock = some b ∨ W.heap.size ≤ b) →
      wpList P ops Q rest (a.put o.dst (.slice A1 n c1)) w1) :
    wpList P ops Q (o :: rest) a W := by
  refine wpList_plain hgd fun K hK => ?_
  obtain ⟨A1, c1, w1, hr, h1, h2, h3⟩ := run_app base t o.type e k bytes ht hinfo hb0 v xs ys A m c HO HC hbase hl
  unfold Oper.wp execOp
  simp only [ho, resolve, invoke, builtin, Sem.run_bind, Sem.run_pure, Result.andThen_ok, List.map_toArray, List.map_cons, List.map_nil, hs, hx, hr]
  exact hK _ _ (h A1 c1 _ w1 ⟨rfl⟩ h1 h2 h3)
end

/-- Behind a call: the disk is m. -/
def ToS (base d : Nat) (s : FSm) (w : World) (m : AS) (w' : World) : Prop :=
  ∃ s', FSAt w' base d s' ∧ s'.abs = m ∧ s'.mb = s.mb ∧ Keeps (foot d s) w w' ∧ ∀ k, foot d s' k → foot d s k ∨ w.heap.size ≤ k
def ToU (base d : Nat) (s : FSm) (w : World) (m : AS) (e : Ending) (w' : World) : Prop := e = .returned (.tuple #[]) ∧ ToS base d s w m w'
def ToE (base d : Nat) (s : FSm) (w : World) (r : AS × Int) (e : Ending) (w' : World) : Prop := e = .returned (.int .i64 r.2) ∧ ToS base d s w r.1 w'

theorem ToS.refl {base d : Nat} {s : FSm} {w : World} (h : FSAt w base d s) : ToS base d s w s.abs w := ⟨s, h, rfl, rfl, Keeps.refl _ _, fun _ h => .inl h⟩
theorem ToS.pre {base d : Nat} {s : FSm} {w W w' : World} {m : AS} (hb : Below w.heap.size w W) (h : ToS base d s W m w') : ToS base d s w m w' := by
  obtain ⟨s', h1, h2, h3, h4, h5⟩ := h
  exact ⟨s', h1, h2, h3, (Keeps.of_below hb _).trans h4, fun k hk => (h5 k hk).imp id (fun h => Nat.le_trans hb.size h)⟩
theorem ToS.below {base d : Nat} {s : FSm} {w W w' : World} {m : AS} (h : ToS base d s w m W) (hb : Below W.heap.size W w') : ToS base d s w m w' := by
  obtain ⟨s', h1, h2, h3, h4, h5⟩ := h
  exact ⟨s', h1.below hb, h2, h3, h4.trans (Keeps.of_below hb _), h5⟩

theorem apart_of {fl : List FileM} (hp : fl.Pairwise apartF) {x y : FileM} (hx : x ∈ fl) (hy : y ∈ fl) (hne : x ≠ y) : apartF x y := by
  induction fl with
  | nil => cases hx
  | cons z r ih =>
    rw [List.pairwise_cons] at hp
    rcases List.mem_cons.1 hx with e1 | h1 <;> rcases List.mem_cons.1 hy with e2 | h2
    · exact absurd (e1.trans e2.symm) hne
    · rw [e1]; exact hp.1 y h2
    · rw [e2]; exact apartF_symm (hp.1 x h1)
    · exact ih hp.2 h1 h2

section
variable {w : World} {base d : Nat} {s : FSm}
theorem FSAt.fb_ne (h : FSAt w base d s) {f : FileM} (hf : f ∈ s.fl) : f.fb ≠ d := blk_ne (h.files f hf).1 h.blk (by decide)
theorem FSAt.fb_mb (h : FSAt w base d s) {f : FileM} (hf : f ∈ s.fl) : s.mb ≠ f.fb := by
  rintro e
  obtain ⟨es, clock, hb, _⟩ := h.map
  rw [e, (h.files f hf).1] at hb
  cases hb
theorem FSAt.own_mb (h : FSAt w base d s) {f : FileM} (hf : f ∈ s.fl) {k : Nat} (hk : f.v.ownBlock = some k) : k ≠ s.mb := by
  rintro rfl
  obtain ⟨es, clock, hb, _⟩ := h.map
  obtain ⟨cells, hc⟩ := own_typed (h.files f hf).2.2.1 _ hk
  rw [hc] at hb
  cases hb
theorem FSAt.own_d (h : FSAt w base d s) {f : FileM} (hf : f ∈ s.fl) {k : Nat} (hk : f.v.ownBlock = some k) : k ≠ d := by
  obtain ⟨cells, hc⟩ := own_typed (h.files f hf).2.2.1 _ hk
  exact blk_ne hc h.blk (by decide)
theorem FSAt.own_fb (h : FSAt w base d s) {f g : FileM} (hf : f ∈ s.fl) (hg : g ∈ s.fl) {k : Nat} (hk : f.v.ownBlock = some k) : k ≠ g.fb := by
  obtain ⟨cells, hc⟩ := own_typed (h.files f hf).2.2.1 _ hk
  exact blk_ne hc (h.files g hg).1 (by decide)

/-- One file turns. -/
theorem upd_at (h : FSAt w base d s) {nm : ByteArray} {f : FileM} (hf : findF s.fl nm = some f) (g : FileM → FileM) (gn : ∀ f, (g f).nm = f.nm) (gf : ∀ f, (g f).fb = f.fb) {w' : World}
    (hk : Keeps (fun k => k = d ∨ k = f.fb ∨ f.v.ownBlock = some k) w w')
    (hd : w'.heap[d]? = some (.cells #[.map (some s.mb), .int .i64 s.most, .int .i64 (usedL (updF s.fl nm g)), .int .i64 s.fuse, .bool s.down] 87 (0, 0)))
    (hF : FileAt w' base (g f)) (hown : ∀ k, (g f).v.ownBlock = some k → f.v.ownBlock = some k ∨ w.heap.size ≤ k) (hroom : (usedL (updF s.fl nm g) : Int) ≤ s.most)
    (ga : AF → AF) (hga : (g f).abs = ga f.abs) :
    ToS base d s w { s.abs with fl := Vm.upd s.abs.fl nm ga } w' := by
  classical
  obtain ⟨hm, hn⟩ := find_mem hf
  have key : ∀ y, y ∈ s.fl → (if Vm.same y.nm nm then g y else y) = if y = f then g f else y := by
    intro y hy
    by_cases e : y = f
    · rw [if_pos e, e, if_pos (by simpa [Vm.same] using hn)]
    · rw [if_neg e, if_neg]
      intro hs
      have : y.nm.data.toList = nm.data.toList := by simpa [Vm.same] using hs
      exact e (name_once h.names hy hm (this.trans hn.symm))
  have fbk : ∀ y, (if y = f then g f else y).fb = y.fb := by
    intro y
    split
    · rename_i e; rw [e, gf]
    · rfl
  have ownk : ∀ y, y ∈ s.fl → ∀ k, (if y = f then g f else y).v.ownBlock = some k → y.v.ownBlock = some k ∨ (y = f ∧ w.heap.size ≤ k) := by
    intro y _ k hk
    split at hk
    · rename_i e; rw [e]; exact (hown k hk).imp id (fun h => ⟨rfl, h⟩)
    · exact .inl hk
  refine ⟨{ s with fl := updF s.fl nm g }, ⟨hd, ?_, ?_, ?_, h.baseD, h.baseM, h.most0, h.most1, hroom, h.fuse0, h.fuse1, ?_⟩, ?_, rfl, hk.mono ?_, ?_⟩
  · show w'.ownsMap _ _ _ _ (updF s.fl nm g).length (datum (updF s.fl nm g))
    rw [upd_datum gn gf, upd_len]
    refine hk.owm h.map ?_
    rintro (e | e | e)
    · exact h.mb_ne e
    · exact h.fb_mb hm e
    · exact h.own_mb hm e rfl
  · intro x hx
    obtain ⟨y, hy, rfl⟩ := mem_upd hx
    rw [key y hy]
    by_cases e : y = f
    · rw [if_pos e]; exact hF
    · rw [if_neg e]
      have ha := apart_of h.apart hy hm e
      refine (h.files y hy).step hk ?_ ?_
      · rintro (e2 | e2 | e2)
        · exact h.fb_ne hy e2
        · exact ha.1 e2
        · exact h.own_fb hm hy e2 rfl
      · rintro b hb (e2 | e2 | e2)
        · exact h.own_d hy hb e2
        · exact h.own_fb hy hm hb e2
        · exact ha.2 b hb e2
  · show (updF s.fl nm g).Pairwise apartF
    unfold updF
    rw [List.pairwise_map]
    have hp := h.apart
    refine List.Pairwise.imp_of_mem ?_ hp
    intro x y hx hy hxy
    rw [key x hx, key y hy]
    refine ⟨by rw [fbk, fbk]; exact hxy.1, ?_⟩
    intro k h1 h2
    have hltx : ∀ k, x.v.ownBlock = some k → k < w.heap.size := fun k hk => own_lt (h.files x hx).2.2.1 k hk
    have hlty : ∀ k, y.v.ownBlock = some k → k < w.heap.size := fun k hk => own_lt (h.files y hy).2.2.1 k hk
    rcases ownk x hx k h1 with h1 | ⟨e1, h1⟩ <;> rcases ownk y hy k h2 with h2 | ⟨e2, h2⟩
    · exact hxy.2 k h1 h2
    · have := hltx k h1; omega
    · have := hlty k h2; omega
    · exact hxy.1 (by rw [e1, e2])
  · have := h.names
    show (updF s.fl nm g).Pairwise _
    unfold updF
    rw [List.pairwise_map]
    refine this.imp ?_
    intro x y hxy
    have e1 : ∀ z : FileM, (if Vm.same z.nm nm then g z else z).nm = z.nm := by
      intro z; split
      · rw [gn]
      · rfl
    rw [e1, e1]
    exact hxy
  · show AS.mk (absL (updF s.fl nm g)) s.most s.fuse s.down = AS.mk _ _ _ _
    congr 1
    refine abs_upd s.fl nm g ga ?_
    intro y hy hs
    have := key y hy
    rw [if_pos hs] at this
    by_cases e : y = f
    · rw [e]; exact hga
    · exfalso
      have : y.nm.data.toList = nm.data.toList := by simpa [Vm.same] using hs
      exact e (name_once h.names hy hm (this.trans hn.symm))
  · rintro k (e | e | e)
    · exact .inl e
    · exact .inr (.inr ⟨f, hm, .inl e⟩)
    · exact .inr (.inr ⟨f, hm, .inr e⟩)
  · rintro k (e | e | ⟨x, hx, hx2⟩)
    · exact .inl (.inl e)
    · exact .inl (.inr (.inl e))
    · obtain ⟨y, hy, rfl⟩ := mem_upd hx
      rw [key y hy] at hx2
      rcases hx2 with e | e
      · rw [fbk] at e; exact .inl (.inr (.inr ⟨y, hy, .inl e⟩))
      · rcases ownk y hy k e with e | ⟨_, e⟩
        · exact .inl (.inr (.inr ⟨y, hy, .inr e⟩))
        · exact .inr e
end
end Go.Proofs.Ythjdgiobchiloaa
