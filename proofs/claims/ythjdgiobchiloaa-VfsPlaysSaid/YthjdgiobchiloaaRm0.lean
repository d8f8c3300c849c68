/-
  What is proved: the plain law of VfsRoom (an operation on a disk with power), what a disk knows of its files, and how a row of operations lies; no condition.
-/
import Derived.Test.YthjdgiobchiloaaDo0
import Derived.Test.YthjdgiobchiloaaSp0
namespace Go.Proofs.Ythjdgiobchiloaa
open Go.RowKit Go.Proofs.YthjdgiobchiloaaW.PrintWords Go.Maps
set_option linter.unusedVariables false
set_option linter.unusedSimpArgs false

def Sorted (l : List AF) : Prop := l.Pairwise (fun f g => bytesBefore f.nm.data.toList g.nm.data.toList = true)
section
variable {w0 w : World} {d : Nat} {m : AS} {N : Nat → Prop}
theorem LS.sorted (h : LS w0 d m N w) : Sorted m.fl := by
  obtain ⟨s, h1, h2, _⟩ := h.disk.ex
  rw [← h2]
  show (absL s.fl).Pairwise _
  unfold absL
  rw [List.pairwise_map]
  exact h1.names
theorem LS.used_le (h : LS w0 d m N w) : (Vm.used m.fl : Int) ≤ m.most := by
  obtain ⟨s, h1, h2, _⟩ := h.disk.ex
  rw [← used_abs h2, ← h2]
  exact h1.room
theorem LS.nm_le (h : LS w0 d m N w) {f : AF} (hf : f ∈ m.fl) : f.nm.size ≤ maxLen := by
  obtain ⟨s, h1, h2, _⟩ := h.disk.ex
  rw [← h2] at hf
  obtain ⟨g, hg, rfl⟩ := List.mem_map.1 (show f ∈ s.fl.map FileM.abs from hf)
  exact (h1.files g hg).2.2.2.2
end
theorem sorted_ne {l : List AF} (h : Sorted l) {i j : Nat} {f g : AF} (hi : l[i]? = some f) (hj : l[j]? = some g) (hs : Vm.same f.nm g.nm = true) : i = j := by
  have e : f.nm.data.toList = g.nm.data.toList := by simpa [Vm.same] using hs
  obtain ⟨hi', rfl⟩ := List.getElem?_eq_some_iff.1 hi
  obtain ⟨hj', rfl⟩ := List.getElem?_eq_some_iff.1 hj
  rcases Nat.lt_trichotomy i j with hlt | he | hlt
  · have := List.pairwise_iff_getElem.1 h i j hi' hj' hlt
    rw [e, bytesBefore_irrefl] at this
    cases this
  · exact he
  · have := List.pairwise_iff_getElem.1 h j i hj' hi' hlt
    rw [e, bytesBefore_irrefl] at this
    cases this
theorem find_at {l : List AF} (h : Sorted l) {i : Nat} {f : AF} (hi : l[i]? = some f) : Vm.find l f.nm = some f := by
  have hm : f ∈ l := List.mem_of_getElem? hi
  unfold Vm.find
  cases hf : l.find? (fun x => Vm.same x.nm f.nm) with
  | none =>
    rw [List.find?_eq_none] at hf
    exact absurd (by simp [Vm.same]) (hf f hm)
  | some g =>
    have h1 := List.find?_some hf
    obtain ⟨j, hj⟩ := List.mem_iff_getElem?.1 (List.mem_of_find?_eq_some hf)
    have := sorted_ne h hj hi h1
    subst this
    rw [hi] at hj
    exact hj.symm
theorem used_append_ (a b : List AF) : Vm.used (a ++ b) = Vm.used a + Vm.used b := by
  induction a with
  | nil => simp [Vm.used]
  | cons f r ih => simp only [List.cons_append, Vm.used, ih]; omega
theorem used_take {l : List AF} {j : Nat} {f : AF} (h : l[j]? = some f) : Vm.used (l.take (j + 1)) = Vm.used (l.take j) + f.bs.length := by
  rw [List.take_add_one, h, used_append_]
  simp [Vm.used]
theorem used_upd_ {g : AF → AF} {nm : ByteArray} {k : Nat} (hg : ∀ f, (g f).bs.length = f.bs.length + k) : ∀ {l : List AF}, Sorted l → (Vm.find l nm).isSome = true → Vm.used (Vm.upd l nm g) = Vm.used l + k
  | [], _, h => by cases h
  | f :: r, hs, h => by
    have hs' := List.pairwise_cons.1 hs
    show Vm.used ((if Vm.same f.nm nm then g f else f) :: Vm.upd r nm g) = _
    by_cases hf : Vm.same f.nm nm = true
    · have hr : Vm.upd r nm g = r := by
        unfold Vm.upd
        rw [List.map_congr_left (g := id), List.map_id]
        intro x hx
        rw [if_neg]
        · rfl
        · intro hx2
          have e1 : f.nm.data.toList = nm.data.toList := by simpa [Vm.same] using hf
          have e2 : x.nm.data.toList = nm.data.toList := by simpa [Vm.same] using hx2
          have := hs'.1 x hx
          rw [e1, e2, bytesBefore_irrefl] at this
          cases this
      rw [if_pos hf, hr]
      simp only [Vm.used, hg]
      omega
    · rw [if_neg hf]
      have h2 : (Vm.find r nm).isSome = true := by
        unfold Vm.find at h ⊢
        have hf' : Vm.same f.nm nm = false := by simpa using hf
        rw [List.find?_cons, hf'] at h
        exact h
      simp only [Vm.used, used_upd_ hg hs'.2 h2]
      omega
theorem vins_len (f : AF) : ∀ l : List AF, (Vm.ins f l).length = l.length + 1
  | [] => rfl
  | g :: r => by
    unfold Vm.ins
    split
    · rfl
    · simp [vins_len f r]
theorem vrm_len (l : List AF) (nm : ByteArray) : (Vm.rm l nm).length ≤ l.length := List.length_filter_le _ _
theorem vupd_len (l : List AF) (nm : ByteArray) (g : AF → AF) : (Vm.upd l nm g).length = l.length := List.length_map _
theorem crashL_len : ∀ (l : List AF) (ks : List Int), (Vm.crashL l ks).length = l.length
  | [], _ => rfl
  | f :: r, ks => by
    unfold Vm.crashL
    split
    · simp [crashL_len r ks]
    · simp [crashL_len r ks.tail]
theorem step0 {m : AS} (hu : m.fuse = 0) (g : List AF → List AF) : Vm.step m g = ({ m with fl := g m.fl }, 0) := by
  unfold Vm.step
  rw [if_neg (by rw [hu]; decide)]
  cases m
  simp only at hu
  subst hu
  rfl

/-- What an operation on a disk with power comes to. -/
structure DoesOk (m : AS) (kind : Int) (L : Nat) (m' : AS) (r : Int) : Prop where
  fuse : m'.fuse = 0
  down : m'.down = false
  most : m'.most = m.most
  len : m'.fl.length ≤ m.fl.length + 1
  put : kind = 2 → r = 0 → Vm.used m'.fl = Vm.used m.fl + L
  full : r = 71 → m' = m ∧ m.most - (Vm.used m.fl : Int) < L
theorem DoesOk.err {m : AS} (hu : m.fuse = 0) (hd : m.down = false) (kind : Int) (L : Nat) {r : Int} (h0 : r = 0 → kind ≠ 2) (h1 : r ≠ 71) : DoesOk m kind L m r :=
  ⟨hu, hd, rfl, Nat.le_succ _, fun h2 h0' => absurd h2 (h0 h0'), fun h => absurd h h1⟩
theorem DoesOk.step {m : AS} (hu : m.fuse = 0) (hd : m.down = false) (kind : Int) (L : Nat) (g : List AF → List AF) (hl : (g m.fl).length ≤ m.fl.length + 1) (h2 : kind = 2 → Vm.used (g m.fl) = Vm.used m.fl + L) : DoesOk m kind L (Vm.step m g).1 (Vm.step m g).2 := by
  rw [step0 hu]
  exact ⟨hu, hd, rfl, hl, fun h _ => h2 h, fun h => absurd h (show (0 : Int) ≠ 71 by decide)⟩
theorem does_ok {m : AS} (hu : m.fuse = 0) (hd : m.down = false) (hs : Sorted m.fl) (o : OpM) : DoesOk m o.kind o.b.length (Vm.does m o).1 (Vm.does m o).2 := by
  have hd' : ¬ m.down = true := by rw [hd]; decide
  unfold Vm.does
  split
  · rename_i h1
    have k2 : o.kind ≠ 2 := by omega
    unfold Vm.create
    rw [if_neg hd']
    split
    · exact DoesOk.err hu hd _ _ (fun h => by simp at h) (by simp)
    · split
      · exact DoesOk.err hu hd _ _ (fun h => by simp at h) (by simp)
      · refine DoesOk.step hu hd _ _ _ ?_ (fun h => absurd h k2)
        rw [vins_len]
        have := vrm_len m.fl o.a
        omega
  · split
    · rename_i h2
      unfold Vm.append
      rw [if_neg hd']
      split
      · exact DoesOk.err hu hd _ _ (fun h => by simp at h) (by simp)
      · rename_i hn
        split
        · rename_i hr
          exact ⟨hu, hd, rfl, Nat.le_succ _, fun _ h => by simp at h, fun _ => ⟨rfl, hr⟩⟩
        · refine DoesOk.step hu hd _ _ _ (by rw [vupd_len]; omega) (fun _ => ?_)
          refine used_upd_ (fun f => by simp) hs ?_
          cases hq : Vm.find m.fl o.a with
          | none => rw [hq] at hn; exact absurd rfl hn
          | some f => rfl
    · rename_i k2
      split
      · unfold Vm.sync
        rw [if_neg hd']
        split
        · exact DoesOk.err hu hd _ _ (fun h => by simp at h) (by simp)
        · exact DoesOk.step hu hd _ _ _ (by rw [vupd_len]; omega) (fun h => absurd h k2)
      · split
        · unfold Vm.rename
          rw [if_neg hd']
          split
          · exact DoesOk.err hu hd _ _ (fun h => by simp at h) (by simp)
          · split
            · exact DoesOk.err hu hd _ _ (fun h => by simp at h) (by simp)
            · refine DoesOk.step hu hd _ _ _ ?_ (fun h => absurd h k2)
              split
              · exact Nat.le_succ _
              · rw [vins_len]
                have := vrm_len m.fl o.z
                have := vrm_len (Vm.rm m.fl o.z) o.a
                have := vrm_len (Vm.rm (Vm.rm m.fl o.z) o.a) o.z
                omega
        · split
          · unfold Vm.cut
            rw [if_neg hd']
            split
            · exact DoesOk.err hu hd _ _ (fun h => by simp at h) (by simp)
            · split
              · exact DoesOk.err hu hd _ _ (fun h => by simp at h) (by simp)
              · exact DoesOk.step hu hd _ _ _ (by rw [vupd_len]; omega) (fun h => absurd h k2)
          · unfold Vm.remove
            rw [if_neg hd']
            split
            · exact DoesOk.err hu hd _ _ (fun h => by simp at h) (by simp)
            · exact DoesOk.step hu hd _ _ _ (Nat.le_succ_of_le (vrm_len _ _)) (fun h => absurd h k2)
theorem crash_ok {m : AS} (hm : m.down = false) (kind : Int) (hk : kind ≠ 2) (L : Nat) (ks : List Int) : DoesOk m kind L (Vm.crash m ks) 0 :=
  ⟨rfl, rfl, rfl, by show (Vm.crashL m.fl ks).length ≤ _; rw [crashL_len]; omega, fun h => absurd h hk, fun h => absurd h (show (0 : Int) ≠ 71 by decide)⟩

/-! ### the operations' row -/
structure OpRow where
  o : OpM
  B : Option Addr
  cb : Nat
  K : Option Addr
  ck : Nat
def OpRow.v (x : OpRow) : Value := opV x.o x.B x.cb x.K x.ck
def OpRow.cells (x : OpRow) : List Value := [.int .i64 x.o.kind, .string x.o.a, .string x.o.z, .int .i64 x.o.n, .slice x.B x.o.b.length x.cb, .slice x.K x.o.keep.length x.ck]
def OpsAt (w : World) (As : Option Addr) (n : Nat) (X : Nat → OpRow) : Prop :=
  ∀ r, r < n → ∃ ad, As = some ad ∧ (∀ j v, (X r).cells[j]? = some v → w.cell? ((ad.add (r * 6)).add j) = some v) ∧ OpOk w (X r).o (X r).B (X r).cb (X r).K (X r).ck
theorem add_blk (a : Addr) (i : Nat) : (a.add i).block = a.block := by unfold Addr.add; split <;> rfl
theorem OpsAt.below {w w' : World} {As : Option Addr} {n : Nat} {X : Nat → OpRow} (h : OpsAt w As n X) (hb : Below w.heap.size w w') : OpsAt w' As n X := by
  intro r hr
  obtain ⟨ad, h1, h2, h3⟩ := h r hr
  exact ⟨ad, h1, fun j v hv => (Keeps.of_below hb (fun _ => False)).cell (fun h => h) (h2 j v hv), h3.below hb⟩
theorem load_op {w : World} {a : Addr} {x : OpRow} (h : ∀ j v, x.cells[j]? = some v → w.cell? (a.add j) = some v) : (Instr.loadAt 45 (.pointer (some a))).run Try.prog w = .ok (.agg #[.int .i64 x.o.kind, .string x.o.a, .string x.o.z, .int .i64 x.o.n, .slice x.B x.o.b.length x.cb, .slice x.K x.o.keep.length x.ck]) w := by
  have hl : (loadCells a 6).run Try.prog w = .ok #[.int .i64 x.o.kind, .string x.o.a, .string x.o.z, .int .i64 x.o.n, .slice x.B x.o.b.length x.cb, .slice x.K x.o.keep.length x.ck] w := run_loadCells_list (P := Try.prog) w a x.cells h
  have hu := Try.underlying45
  have hi : (Try.prog.info? 45).map (·.size) = some 6 := by kernel_rfl
  obtain ⟨i, hi1, hi2⟩ := Option.map_eq_some_iff.1 hi
  have hagg : (isAgg 45).run Try.prog w = .ok true w := by
    unfold isAgg
    rw [Sem.run_bind, run_underlying hu w]
    rfl
  simp only [Instr.loadAt, Instr.sureAddr, Sem.run_bind, Sem.run_pure, Result.andThen_ok]
  simp [loadVar, Sem.run_bind, hagg, sizeOf, typeInfo, hi1, hi2, hl]

/-! ### a disk beside one block of the law's own -/
structure LO (w : World) (d : Nat) (m : AS) (g : Nat) (o : Obj) (wr : World) : Prop where
  ls : LS w d m (fun b => b = g) wr
  blk : wr.heap[g]? = some o
section
variable {w wr : World} {d : Nat} {m : AS} {g : Nat} {o : Obj}
theorem LO.mk0 (h : LS w d m (fun _ => False) wr) (o : Obj) : LO w d m wr.heap.size o (wr.alloc o) := by
  have hb : Below wr.heap.size wr (wr.alloc o) := below_lit wr o
  refine ⟨⟨h.disk.keep (S := fun _ => False) (Keeps.of_below hb _) (fun _ h => h.elim) (fun b hb => .inr (by omega)) (fun b hb => ?_), (h.below hb).old⟩, heap_alloc_new wr o⟩
  rw [hb]
  simp
theorem LO.drop (h : LO w d m g o wr) : LS w d m (fun _ => False) wr :=
  ⟨h.ls.disk.keep (S := fun _ => False) (Keeps.refl _ _) (fun _ h => h.elim) (fun _ h => h.elim) (fun _ h => h.elim), h.ls.old⟩
theorem LO.below {w' : World} (h : LO w d m g o wr) (hb : Below wr.heap.size wr w') : LO w d m g o w' :=
  ⟨h.ls.below hb, (Keeps.of_below hb (fun _ => False)).blk h.blk (fun h => h)⟩
theorem LO.drewN (h : LO w d m g o wr) (n : Nat) : LO w d m g o (wr.drewN n) := h.below (pw_below_drewN (Below.refl _ _) n)
theorem LO.to {w' : World} {m' : AS} (h : LO w d m g o wr) (hl : LS w d m' (fun b => b = g) w') (hk : Keeps (Other w.heap.size (fun b => b = g)) wr w') : LO w d m' g o w' :=
  ⟨hl, hk.blk h.blk (fun h => h.2 rfl)⟩
theorem lo_does (h : LO w d m g o wr) {q : OpM} {B K : Option Addr} {cb ck : Nat} (ho : OpOk wr q B cb K ck) (hn : m.fl.length < maxLen) (hl : (Vm.used m.fl : Int) + q.b.length ≤ 140737488355328) :
    Calls Try.prog 26 #[.pointer (some ⟨d, 0, none⟩), opV q B cb K ck] wr fun e w' => e = .returned (.int .i64 (Vm.does m q).2) ∧ LO w d (Vm.does m q).1 g o w' := by
  refine (does_calls h.ls ho hn hl).mono ?_
  rintro e w' ⟨rfl, h1, h2⟩
  exact ⟨rfl, h.to h1 h2⟩
theorem crash_disk2 {base : Nat} {N : Nat → Prop} (h : Disk wr base d m N) (hn : m.fl.length * 16 ≤ 140737488355328) (A : Option Addr) (n c : Nat) (ks : List Int) (hC : (Kd.int .i64).C wr A n ks) (hA : 0 < n → ∀ ad, A = some ad → ad.block < base ∨ N ad.block) (hc : n ≤ c) :
    Calls Try.prog 18 #[.pointer (some ⟨d, 0, none⟩), .slice A n c] wr fun e w' => e = .returned (.tuple #[]) ∧ DTo wr base d (Vm.crash m ks) N w' := by
  by_cases h0 : 0 < n
  · exact crash_disk h hn A n c ks hC (hA h0) hc
  · obtain ⟨s, h1, h2, h3⟩ := h.ex
    have hn0 : n = 0 := by omega
    subst hn0
    have hks : ks = [] := List.eq_nil_of_length_eq_zero hC.1
    subst hks
    refine (crash_calls h1 (by rw [len_abs h2]; exact hn) A 0 c [] (fun W _ => Kd.C_of_reads (d := 0) ⟨rfl, by decide, fun h => by cases h⟩) hc).mono ?_
    rw [h2]
    rintro e w' ⟨rfl, ht⟩
    exact ⟨rfl, Disk.of_to h1 h3 h.bound h.size ht⟩
theorem lo_crash (h : LO w d m g o wr) (hn : m.fl.length * 16 ≤ 140737488355328) {A : Option Addr} {n c : Nat} {ks : List Int} (hC : (Kd.int .i64).C w A n ks) (hc : n ≤ c) :
    Calls Try.prog 18 #[.pointer (some ⟨d, 0, none⟩), .slice A n c] wr fun e w' => e = .returned (.tuple #[]) ∧ LO w d (Vm.crash m ks) g o w' := by
  refine (crash_disk2 h.ls.disk hn A n c ks (Kd.C_below hC h.ls.old) (fun h0 ad e => .inl ?_) hc).mono ?_
  · obtain ⟨ad', e', hc'⟩ := (reads_of_C hC).2.2 h0
    rw [e] at e'
    injection e' with e'
    subst e'
    have := World.block_lt_of_cell? w _ (hc' 0 h0)
    rw [add_blk] at this
    exact this
  · rintro e w' ⟨rfl, ht⟩
    exact ⟨rfl, h.to (h.ls.to ht) ht.2⟩
theorem lo_room (h : LO w d m g o wr) {r : Int} (hr : m.most - (Vm.used m.fl : Int) = r) : Calls Try.prog 25 #[.pointer (some ⟨d, 0, none⟩)] wr fun e w' => e = .returned (.int .i64 r) ∧ ∃ n, w' = wr.drewN n := ls_room h.ls hr
/-- The row of names beside them. -/
def NRow (fl : List AF) (A : Option Addr) (c : Nat) (wr : World) : Prop := ∃ base, wr.ownsRow base 9 1 (.slice A fl.length c) fl.length (fl.map (fun f => Value.string f.nm))
theorem NRow.below {fl : List AF} {A : Option Addr} {c : Nat} {w' : World} (h : NRow fl A c wr) (hb : Below wr.heap.size wr w') : NRow fl A c w' := by
  obtain ⟨base, h⟩ := h
  exact ⟨base, (Keeps.of_below hb (fun _ => False)).own h (fun _ _ h => h)⟩
theorem lo_names (h : LO w d m g o wr) (hn : m.fl.length * 16 ≤ 140737488355328) : Calls Try.prog 23 #[.pointer (some ⟨d, 0, none⟩)] wr fun e w' => ∃ A c, e = .returned (.slice A m.fl.length c) ∧ NRow m.fl A c w' ∧ LO w d m g o w' := by
  refine (names_disk h.ls.disk hn).mono ?_
  rintro e w' ⟨v, rfl, A, c, rfl, hrow, hb⟩
  exact ⟨A, c, rfl, ⟨_, hrow⟩, h.below hb⟩
def TotRel (w : World) (d : Nat) (m : AS) (g : Nat) (o : Obj) (A : Option Addr) (c l kq : Nat) (tot i : Value) (wr : World) : Prop :=
  ∃ j : Nat, j + kq = l ∧ tot = .int .i64 (Vm.used (m.fl.take j)) ∧ i = .int .i64 j ∧ LO w d m g o wr ∧ NRow m.fl A c wr
/-- One round: what it reads, what its Read gives. -/
theorem tot_round {A : Option Addr} {c l j : Nat} (h : LO w d m g o wr) (hr : NRow m.fl A c wr) (hl : m.fl.length = l) (hj : j < l) (hd : m.down = false) (hm : m.most ≤ 140737488355328) :
    ∃ gg nm L, A = some ⟨gg, 0, none⟩ ∧ wr.cell? ⟨gg, j, none⟩ = some (.string nm) ∧ Vm.used (m.fl.take j) + L = Vm.used (m.fl.take (j + 1)) ∧ (Vm.used (m.fl.take (j + 1)) : Int) ≤ m.most ∧
      Calls Try.prog 19 #[.pointer (some ⟨d, 0, none⟩), .string nm] wr fun e w' => ∃ B cb, e = .returned (.tuple #[.slice B L cb, .int .i64 0]) ∧ LO w d m g o w' ∧ NRow m.fl A c w' := by
  obtain ⟨base, hrow⟩ := id hr
  obtain ⟨f, hf⟩ : ∃ f, m.fl[j]? = some f := ⟨_, List.getElem?_eq_getElem (by omega)⟩
  obtain ⟨gg, cap, hnv, hg1, hg2⟩ := hrow.form (by omega)
  injection hnv with ha _ hcc
  have hfm : f ∈ m.fl := List.mem_of_getElem? hf
  have hread : Vm.read m f.nm = (f.bs, 0) := by
    unfold Vm.read
    rw [if_neg (by rw [hd]; decide), find_at h.ls.sorted hf]
  refine ⟨gg, f.nm, f.bs.length, ha, ?_, (used_take hf).symm, ?_, ?_⟩
  · subst ha
    subst hcc
    rw [hrow.cellAt j (by omega), List.getElem?_map, hf]
    rfl
  · have h1 := h.ls.used_le
    have h2 := used_append_ (m.fl.take (j + 1)) (m.fl.drop (j + 1))
    rw [List.take_append_drop] at h2
    omega
  · refine (ls_read h.ls f.nm hread (h.ls.nm_le hfm) (by have := h.ls.used_le; omega)).mono ?_
    rintro e w' ⟨v, rfl, B, cb, rfl, _, hb⟩
    exact ⟨B, cb, rfl, h.below hb, hr.below hb⟩
end
end Go.Proofs.Ythjdgiobchiloaa
