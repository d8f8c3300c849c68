/-
  What is proved: how the document's disk (colloquyref07.FS) lies in memory; what Find, Used, named, New and without come to; of fewer than 2^40 files.
  What is proved: what Used, without, named, New and Read of colloquyref07 come to; of fewer than 2^40 files and bytes.
-/
import Derived.Test.YthjdgiobchiloaaMem
import Derived.Test.YthjdgiobchiloaaVm
import Derived.Test.YthjdgiobchiloaaWNEv
import Derived.Test.YthjdgiobchiloaaProg
import Derived.Laws.Cover1
import Derived.KernelRfl
namespace Go.Proofs.Ythjdgiobchiloaa
open Go.RowKit Go.Proofs.YthjdgiobchiloaaW.PrintWords
set_option linter.unusedVariables false
set_option linter.unusedSimpArgs false

/-! ### words -/
def kF : Kd AF := Kd.iso (Kd.pair Kd.string (Kd.pair (Kd.slice 5 (Kd.int .u8)) (Kd.int .i64))) (fun x : AF => (x.nm, x.bs, (x.safe : Int)))
def zF : AF := ⟨⟨#[]⟩, [], 0⟩
theorem kF_open {w : World} {x : AF} {cs : List Value} (h : kF.K w x cs) : ∃ A1 c1, cs = [.string x.nm, .slice A1 x.bs.length c1, .int .i64 x.safe] ∧ x.bs.length ≤ c1 ∧ (Kd.int .u8).C w A1 x.bs.length x.bs := by
  obtain ⟨_, _, rfl, rfl, ⟨_, _, rfl, ⟨A1, c1, rfl, l1, g1⟩, rfl⟩⟩ := h
  exact ⟨A1, c1, rfl, l1, g1⟩
theorem kF_mk (w : World) (x : AF) {A1 : Option Addr} {c1 : Nat} (l1 : x.bs.length ≤ c1) (g1 : (Kd.int .u8).C w A1 x.bs.length x.bs) : kF.K w x [.string x.nm, .slice A1 x.bs.length c1, .int .i64 x.safe] :=
  ⟨[.string x.nm], [.slice A1 x.bs.length c1, .int .i64 x.safe], rfl, rfl, ⟨[.slice A1 x.bs.length c1], [.int .i64 x.safe], rfl, ⟨A1, c1, rfl, l1, g1⟩, rfl⟩⟩
/-- A slice of bytes that is read, and stays where the blocks of ok stay. -/
def BV (W : World) (ok : Nat → Prop) (B : Option Addr) (cb : Nat) (bs : List Int) : Prop := Kd.V (Kd.int .u8) 5 W 0 ok (.slice B bs.length cb) bs
theorem kF_openF {W : World} {ok : Nat → Prop} {x : AF} {cs : List Value} (h : Kd.FK kF W ok x cs) : ∃ A1 c1, cs = [.string x.nm, .slice A1 x.bs.length c1, .int .i64 x.safe] ∧ BV W ok A1 c1 x.bs := by
  obtain ⟨A1, c1, rfl, l1, _⟩ := kF_open (Kd.FK_now h)
  refine ⟨A1, c1, rfl, Kd.V_mk l1 (fun W' hW => ?_)⟩
  obtain ⟨A1_, c1_, he, l1_, g1_⟩ := kF_open (h W' hW)
  injection (Option.some.inj (show some (Value.slice A1 x.bs.length c1) = some (Value.slice A1_ x.bs.length c1_) from congrArg (fun l => l[1]?) he)) with ha_ _ _
  rw [ha_]
  exact g1_
theorem kF_mkF (W : World) (ok : Nat → Prop) (x : AF) {A1 : Option Addr} {c1 : Nat} (h : BV W ok A1 c1 x.bs) : Kd.FK kF W ok x [.string x.nm, .slice A1 x.bs.length c1, .int .i64 x.safe] :=
  fun W2 hW => kF_mk W2 x (Kd.V_at h).2.1 ((Kd.V_at h).2.2 W2 hW)
theorem BV.C {W : World} {ok : Nat → Prop} {B : Option Addr} {cb : Nat} {bs : List Int} (h : BV W ok B cb bs) : (Kd.int .u8).C W B bs.length bs ∧ bs.length ≤ cb := ⟨(Kd.V_reads' h).2.2, (Kd.V_reads' h).2.1⟩
theorem N_keeps {α : Type} {d : Kd α} {e base : Nat} {w w' : World} {ok S : Nat → Prop} {v : Value} {xs : List α} (h : Kd.N d e w base ok v xs) (k : Keeps S w w') (hok : ∀ b, ok b → ¬ S b) : Kd.N d e w' base ok v xs := Kd.N_step h (fun b hb hlt => k.block b hlt (hok b hb))
theorem V_keeps {α : Type} {d : Kd α} {e base : Nat} {w w' : World} {ok S : Nat → Prop} {v : Value} {xs : List α} (h : Kd.V d e w base ok v xs) (k : Keeps S w w') (hok : ∀ b, ok b → ¬ S b) : Kd.V d e w' base ok v xs := Kd.V_step h (fun b hb hlt => k.block b hlt (hok b hb))
theorem N_lit0 {α : Type} (d : Kd α) (e base : Nat) (W : World) (ok : Nat → Prop) (hok : ok W.heap.size) (hb : base ≤ W.heap.size) : Kd.N d e (W.alloc (.cells #[] e)) base ok (.slice (some ⟨W.heap.size, 0, none⟩) 0 0) [] := by
  refine Kd.R_N ⟨fun k hk => ?_, [], ?_, Reps.none _ _⟩
  · have : W.heap.size = k := by simpa [Value.ownBlock] using hk
    exact this ▸ hok
  · have h2 := World.ownsRow_lit (base := base) (e := e) (size := d.sz) W #[] 0 hb (by decide) (by simp)
    simpa using h2

/-- A document's disk as a value; how it lies. -/
def fsV (m : AS) (v : Value) : Value := .agg #[v, .int .i64 m.most, .int .i64 m.fuse, .bool m.down]
def RefAt (wr : World) (ok : Nat → Prop) (fl : List AF) (v : Value) : Prop := Kd.V kF 104 wr 0 ok v fl
theorem RefAt.slice {wr : World} {ok : Nat → Prop} {fl : List AF} {v : Value} (h : RefAt wr ok fl v) : ∃ A c, v = .slice A fl.length c ∧ fl.length ≤ c := by
  obtain ⟨A, c, rfl⟩ := Kd.V_slice h
  exact ⟨A, c, rfl, (Kd.V_reads' h).2.1⟩
theorem RefAt.below {w w' : World} {ok : Nat → Prop} {fl : List AF} {v : Value} (h : RefAt w ok fl v) (hb : Below w.heap.size w w') : RefAt w' ok fl v := Kd.V_below h hb
/-- A file's cells. -/
structure FileCells (w : World) (ok : Nat → Prop) (p : Addr) (f : AF) (B : Option Addr) (cb : Nat) : Prop where
  c0 : w.cell? p = some (.string f.nm)
  c1 : w.cell? ⟨p.block, p.off + 1, none⟩ = some (.slice B f.bs.length cb)
  c2 : w.cell? ⟨p.block, p.off + 2, none⟩ = some (.int .i64 f.safe)
  bv : BV w ok B cb f.bs
theorem RefAt.at_ {w : World} {ok : Nat → Prop} {fl : List AF} {A : Option Addr} {c : Nat} (h : RefAt w ok fl (.slice A fl.length c)) (j : Nat) (hj : j < fl.length) : ∃ ad B cb, A = some ad ∧ FileCells w ok (ad.add (j * 3)) fl[j] B cb := by
  obtain ⟨ad, cs, rfl, hcl, hK, hcc, _⟩ := Kd.F_get (Kd.V_F h) zF (j : Int) (by omega) (by omega)
  rw [Int.toNat_natCast] at hK hcc
  have e : fl.getD j zF = fl[j] := by rw [List.getD_eq_getElem?_getD, List.getElem?_eq_getElem hj]; rfl
  rw [e] at hK
  obtain ⟨B, cb, rfl, hB⟩ := kF_openF hK
  have hc : ∀ i u, [Value.string fl[j].nm, .slice B fl[j].bs.length cb, .int .i64 fl[j].safe][i]? = some u → w.cell? (ad.add (j * 3 + i)) = some u := hcc
  exact ⟨ad, B, cb, rfl, hc 0 _ rfl, by rw [← add_field _ _ 1 (by omega)]; exact hc 1 _ rfl, by rw [← add_field _ _ 2 (by omega)]; exact hc 2 _ rfl, hB⟩
theorem FileCells.below {w w' : World} {ok : Nat → Prop} {p : Addr} {f : AF} {B : Option Addr} {cb : Nat} (h : FileCells w ok p f B cb) (hb : Below w.heap.size w w') : FileCells w' ok p f B cb :=
  ⟨pw_cell_below hb h.c0, pw_cell_below hb h.c1, pw_cell_below hb h.c2, Kd.V_below h.bv hb⟩

theorem wr64 (n : Int) (h : -9223372036854775808 ≤ n ∧ n ≤ 9223372036854775807) : wrap64 n = n := by unfold wrap64; omega
theorem same_iff (a b : ByteArray) : Vm.same a b = true ↔ a.toList = b.toList := by rw [ByteArray.toList_eq, ByteArray.toList_eq]; simp [Vm.same]
theorem same_facts {a b : ByteArray} {r : Bool} (h : Vm.same a b = r) : (a.toList == b.toList) = r ∧ (a.toList != b.toList) = !r := by
  have e : (a.toList == b.toList) = r := by
    rw [← h]
    cases hq : Vm.same a b with
    | true => exact beq_iff_eq.2 ((same_iff a b).1 hq)
    | false => exact beq_eq_false_iff_ne.2 (fun e => by rw [(same_iff a b).2 e] at hq; cases hq)
  exact ⟨e, by rw [bne, e]⟩

/-! ### Find -/
def Vm.idx : List AF → ByteArray → Nat → Int
  | [], _, _ => -1
  | f :: r, nm, i => if Vm.same f.nm nm then (i : Int) else Vm.idx r nm (i + 1)
theorem idx_find : ∀ (l : List AF) (nm : ByteArray) (i : Nat), (Vm.find l nm = none ∧ Vm.idx l nm i = -1) ∨ ∃ j f, l[j]? = some f ∧ Vm.find l nm = some f ∧ Vm.idx l nm i = ((i + j : Nat) : Int)
  | [], _, _ => .inl ⟨rfl, rfl⟩
  | f :: r, nm, i => by
    by_cases h : Vm.same f.nm nm = true
    · refine .inr ⟨0, f, rfl, ?_, ?_⟩
      · unfold Vm.find; rw [List.find?_cons, h]
      · unfold Vm.idx; rw [if_pos h]; rfl
    · have h' : Vm.same f.nm nm = false := by simpa using h
      have e1 : Vm.find (f :: r) nm = Vm.find r nm := by unfold Vm.find; rw [List.find?_cons, h']
      have e2 : Vm.idx (f :: r) nm i = Vm.idx r nm (i + 1) := by show (if Vm.same f.nm nm then (i : Int) else Vm.idx r nm (i + 1)) = _; rw [if_neg h]
      rw [e1, e2]
      rcases idx_find r nm (i + 1) with ⟨h1, h2⟩ | ⟨j, g, h1, h2, h3⟩
      · exact .inl ⟨h1, h2⟩
      · exact .inr ⟨j + 1, g, h1, h2, by rw [h3]; omega⟩
theorem idx_step (l : List AF) (nm : ByteArray) (k : Nat) (hk : k < l.length) : Vm.idx (l.drop k) nm k = if Vm.same l[k].nm nm then (k : Int) else Vm.idx (l.drop (k + 1)) nm (k + 1) := by
  rw [List.drop_eq_getElem_cons hk]; rfl
set_option maxHeartbeats 800000 in
theorem ref_find {w : World} {ok : Nat → Prop} {m : AS} {v : Value} (h : RefAt w ok m.fl v) (nm : ByteArray) (hl : m.fl.length ≤ 1099511627776) :
    Calls Try.prog 62 #[fsV m v, .string nm] w fun e w' => e = .returned (.int .i64 (Vm.idx m.fl nm 0)) ∧ Below w.heap.size w w' := by
  obtain ⟨A, c, rfl, hc⟩ := h.slice
  obtain ⟨n, hn⟩ : ∃ n, m.fl.length = n := ⟨_, rfl⟩
  obtain ⟨R, hR⟩ : ∃ R, Vm.idx m.fl nm 0 = R := ⟨_, rfl⟩
  have HP := Aside0.mk h
  rw [hn] at hl hc
  unfold fsV
  have HN := Aside0.mk hn
  have HR := Aside0.mk hR
  rw [hn, hR]
  clear h hn hR
  go_enter Try.func62, Try.ntmps62
  go_wp2
  go_loop [5] (fun i => ∃ k : Nat, k ≤ n ∧ i = .int .i64 k ∧ Aside0 (Vm.idx (m.fl.drop k) nm k = R)) (fun i => n - (intOf i).toNat)
  case atStart => exact ⟨0, Nat.zero_le _, rfl, HR⟩
  case round =>
    obtain ⟨k, hk, rfl, hI⟩ := hrel
    by_cases hlt : k < n
    · have hkl : k < m.fl.length := by have := HN.out; omega
      obtain ⟨ad, B, cb, rfl, hF⟩ := RefAt.at_ (by have := HP.out; exact this) k hkl
      have hC := hF.below (below_alloc (Below.refl _ _) (.cells #[.slice (some ad) n c, .int .i64 m.most, .int .i64 m.fuse, .bool m.down] 50))
      have p0 := hC.c0
      have hI' := hI.out
      rw [idx_step _ _ _ hkl] at hI'
      obtain ⟨r, hr⟩ : ∃ r, Vm.same m.fl[k].nm nm = r := ⟨_, rfl⟩
      have hs := same_facts hr
      rw [hr] at hI'
      have HI := Aside0.mk hI'
      obtain ⟨s1, s2⟩ := hs
      have hkn : (k : Int) < n := by omega
      clear hI hI' hC hF hr HP
      generalize m.fl[k].nm = fn at *
      cases r
      · go_wp2
        go_round
        case rel => exact ⟨k + 1, by omega, by go_num, ⟨HI.out⟩⟩
        case measure => simp [intOf]; omega
      · go_wp2
        go_ret
        exact ⟨ret_i HI.out, below_alloc (Below.refl _ _) _⟩
    · have hkn : ¬ (k : Int) < n := by omega
      have hI' := hI.out
      rw [List.drop_eq_nil_of_le (by have := HN.out; omega)] at hI'
      have HI := Aside0.mk hI'
      clear hI hI' HP
      go_wp2
      go_ret
      exact ⟨ret_i HI.out, below_alloc (Below.refl _ _) _⟩


theorem used_append1 (l r : List AF) : Vm.used (l ++ r) = Vm.used l + Vm.used r := by
  induction l with
  | nil => simp [Vm.used]
  | cons f l ih => simp [Vm.used, ih]; omega
theorem used_step (l : List AF) (k : Nat) (hk : k < l.length) : Vm.used (l.drop k) = l[k].bs.length + Vm.used (l.drop (k + 1)) := by
  rw [List.drop_eq_getElem_cons hk]; rfl
theorem used_drop_le (l : List AF) (k : Nat) : Vm.used (l.drop k) ≤ Vm.used l := by
  have h := used_append1 (l.take k) (l.drop k)
  rw [List.take_append_drop] at h
  omega
set_option maxHeartbeats 800000 in
theorem ref_used {w : World} {ok : Nat → Prop} {m : AS} {v : Value} (h : RefAt w ok m.fl v) (hl : m.fl.length ≤ 1099511627776) (hu : Vm.used m.fl ≤ 281474976710656) :
    Calls Try.prog 64 #[fsV m v] w fun e w' => e = .returned (.int .i64 (Vm.used m.fl)) ∧ Below w.heap.size w w' := by
  obtain ⟨A, c, rfl, hc⟩ := h.slice
  obtain ⟨n, hn⟩ : ∃ n, m.fl.length = n := ⟨_, rfl⟩
  obtain ⟨U, hU⟩ : ∃ U, Vm.used m.fl = U := ⟨_, rfl⟩
  have HP := Aside0.mk h
  rw [hn] at hl hc
  rw [hU] at hu
  unfold fsV
  have HN := Aside0.mk hn
  have HU := Aside0.mk hU
  rw [hn, hU]
  clear h hn hU
  go_enter Try.func64, Try.ntmps64
  go_wp2
  go_loop [3, 4] (fun t i => ∃ k T : Nat, k ≤ n ∧ i = .int .i64 k ∧ t = .int .i64 T ∧ T ≤ U ∧ Aside0 (T + Vm.used (m.fl.drop k) = U)) (fun _ i => n - (intOf i).toNat)
  case atStart => exact ⟨0, 0, Nat.zero_le _, rfl, rfl, Nat.zero_le _, ⟨by have := HU.out; simpa using this⟩⟩
  case round =>
    obtain ⟨k, T, hk, rfl, rfl, hT, hI⟩ := hrel
    by_cases hlt : k < n
    · have hkl : k < m.fl.length := by have := HN.out; omega
      obtain ⟨ad, B, cb, rfl, hF⟩ := RefAt.at_ (by have := HP.out; exact this) k hkl
      have hC := hF.below (below_alloc (Below.refl _ _) (.cells #[.slice (some ad) n c, .int .i64 m.most, .int .i64 m.fuse, .bool m.down] 50))
      have p1 := hC.c1
      have hI' := hI.out
      rw [used_step _ _ hkl] at hI'
      have hkn : (k : Int) < n := by omega
      have HI := Aside0.mk hI'
      clear hI hC hF HP
      generalize m.fl[k].bs.length = L at *
      have hTL : T + L ≤ U := by omega
      clear hI'
      go_wp2
      go_round
      case rel => exact ⟨k + 1, T + L, by omega, by go_num, by go_num, by omega, ⟨by have := HI.out; omega⟩⟩
      case measure => simp [intOf]; omega
    · have hkn : ¬ (k : Int) < n := by omega
      have hI' := hI.out
      rw [List.drop_eq_nil_of_le (by have := HN.out; omega)] at hI'
      have HI : Aside0 (T = U) := ⟨by simpa [Vm.used] using hI'⟩
      clear hI hI' HP
      go_wp2
      go_ret
      exact ⟨ret_i (by rw [HI.out]), below_alloc (Below.refl _ _) _⟩
theorem ref_named (s : ByteArray) (w : World) (hs : s.size ≤ maxLen) {b : Bool} (hb : Vm.named s = b) : Calls Try.prog 63 #[.string s] w fun e w' => e = .returned (.bool b) ∧ w = w' := by
  unfold maxLen at hs
  have hb' : decide (1 ≤ s.size ∧ s.size ≤ 40) = b := hb
  by_cases h0 : s.size = 0
  · have e : b = false := by rw [← hb']; simp; omega
    subst e
    have h1 : ¬ (0 : Int) < s.size := by omega
    clear hb hb'
    go_enter Try.func63, Try.ntmps63
    go_wp2
    go_ret; exact ⟨rfl, rfl⟩
  · have h1 : (0 : Int) < s.size := by omega
    by_cases h2 : s.size ≤ 40
    · have e : b = true := by rw [← hb']; simp; omega
      subst e
      have h3 : (s.size : Int) ≤ 40 := by omega
      clear hb hb' h0
      go_enter Try.func63, Try.ntmps63
      go_wp2
      go_ret; exact ⟨rfl, rfl⟩
    · have e : b = false := by rw [← hb']; simp; omega
      subst e
      have h3 : ¬ (s.size : Int) ≤ 40 := by omega
      clear hb hb' h0
      go_enter Try.func63, Try.ntmps63
      go_wp2
      go_ret; exact ⟨rfl, rfl⟩
theorem ref_read {w : World} {ok : Nat → Prop} {m : AS} {v : Value} (h : RefAt w ok m.fl v) (nm : ByteArray) (hl : m.fl.length ≤ 1099511627776) {bs : List Int} {r : Int} (hr : Vm.read m nm = (bs, r)) :
    Calls Try.prog 31 #[fsV m v, .string nm] w fun e w' => ∃ B cb, e = .returned (.tuple #[.slice B bs.length cb, .int .i64 r]) ∧ BV w' ok B cb bs ∧ Below w.heap.size w w' := by
  obtain ⟨A, c, rfl, hc⟩ := h.slice
  have HP := Aside0.mk h
  have hb0 := below_alloc (Below.refl w.heap.size w) (.cells #[.slice A m.fl.length c, .int .i64 m.most, .int .i64 m.fuse, .bool m.down] 50)
  have HF := Aside0.mk (ref_find (h.below hb0) nm hl)
  have HB := Aside0.mk hb0
  unfold fsV at HF ⊢
  have hr' := hr
  unfold Vm.read at hr'
  cases hd : m.down with
  | true =>
    rw [hd, if_pos rfl] at hr'
    injection hr' with e1 e2
    subst e1 e2
    clear h hr hb0 HF hd HP hc
    go_enter Try.func31, Try.ntmps31
    go_wp2
    go_ret2; exact ⟨none, 0, rfl, Kd.V_nil _ _ _ _ _, below_alloc (Below.refl _ _) _⟩
  | false =>
    rw [hd, if_neg (by decide)] at hr'
    rw [hd] at HF HB
    rcases idx_find m.fl nm 0 with ⟨h1, h2⟩ | ⟨j, f, h1, h2, h3⟩
    · rw [h1] at hr'
      injection hr' with e1 e2
      subst e1 e2
      rw [h2] at HF
      clear h hr hb0 hd HP h1 h2 hc
      go_enter Try.func31, Try.ntmps31
      go_wp2_with fail
      refine HF.out.mono ?_
      rintro e w1 ⟨rfl, hb1⟩
      have HB1 := Aside0.mk (below_then HB.out (by simp) (by simpa using hb1))
      clear hb1 HF HB
      go_wp2
      go_ret2; exact ⟨none, 0, rfl, Kd.V_nil _ _ _ _ _, HB1.out⟩
    · rw [h2] at hr'
      injection hr' with e1 e2
      subst e1 e2
      rw [h3, Nat.zero_add] at HF
      have hj : j < m.fl.length := by
        obtain ⟨h, _⟩ := List.getElem?_eq_some_iff.1 h1
        exact h
      have HE := Aside0.mk h1
      obtain ⟨n, hn⟩ : ∃ n, m.fl.length = n := ⟨_, rfl⟩
      have hjn : (j : Int) < n := by omega
      have hln : n ≤ 1099511627776 := by omega
      have HN := Aside0.mk hn
      have HJ := Aside0.mk hj
      rw [hn] at HF HB ⊢
      clear h hr hb0 hd h1 h2 h3 hj hc hl hn
      go_enter Try.func31, Try.ntmps31
      go_wp2_with fail
      refine HF.out.mono ?_
      rintro e w1 ⟨rfl, hb1⟩
      have hb2 := below_then HB.out (by simp) (by simpa using hb1)
      obtain ⟨ad, B, cb, rfl, hC⟩ := RefAt.at_ (by have := HP.out.below hb2; exact this) j HJ.out
      have e1 := HE.out
      rw [List.getElem?_eq_getElem HJ.out] at e1
      injection e1 with e1
      rw [e1] at hC
      have q0 : w1.cell? ⟨w.heap.size, 0, none⟩ = some (.slice (some ad) n c) := by
        rw [hb1.cell (by simp)]; simp
      have p1 := hC.c1
      have HC := Aside0.mk hC.bv
      have HB1 := Aside0.mk hb2
      clear hb1 HF HB HP hC HE hb2 e1
      go_wp2
      go_ret2; exact ⟨_, _, rfl, HC.out, HB1.out⟩
end Go.Proofs.Ythjdgiobchiloaa
