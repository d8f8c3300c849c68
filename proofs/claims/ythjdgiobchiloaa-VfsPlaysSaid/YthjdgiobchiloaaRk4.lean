/-
  What is proved: what New, without and With of colloquyref07 come to; of fewer than 2^40 files, With of files by rising names.
  What is proved: what With of colloquyref07 comes to; of fewer than 2^40 files by rising names.
-/
import Derived.Test.YthjdgiobchiloaaRp
namespace Go.Proofs.Ythjdgiobchiloaa
open Go.RowKit Go.Proofs.YthjdgiobchiloaaW.PrintWords
set_option linter.unusedVariables false
set_option linter.unusedSimpArgs false

theorem infoF : (Try.prog.info? 104).map (fun i => (i.zero, i.size, i.bytes)) = some (some (.agg #[(.string ⟨#[]⟩), (.slice none 0 0), (.int .i64 0)]), 3, 48) := by kernel_rfl
/-- append(out, f), behind 'at_builtin'. -/
theorem append_file {ops : Array Oper} {rest : List Oper} {o : Oper} {a : Act} {Q : Exit → Act → World → Prop} {w0 W : World} (hgd : o.guard = none) (s x : Operand)
    (ho : o.op = .call { callee := .builtin .append, args := #[s, x], argTypes := #[48, 48] })
    (v : Value) (xs : List AF) (f : AF) (B : Option Addr) (cb : Nat) (ok okp : Nat → Prop) (hs : a.eval s = v) (hx : a.eval x = .slice (some ⟨W.heap.size, 0, none⟩) 1 1) (hp : BV W okp B cb f.bs) (hokp : ∀ k, okp k → ok k ∧ some k ≠ v.ownBlock) (hfresh : ∀ k, W.heap.size ≤ k → ok k)
    (HO : Kd.N kF 104 W w0.heap.size ok v xs) (HB : Below w0.heap.size w0 W) (hl : xs.length < 2199023255552)
    (h : ∀ v1 w1, Kd.N kF 104 w1 w0.heap.size ok v1 (xs ++ [f]) → Below w0.heap.size w0 w1 → W.grownBy w1 v.ownBlock → wpList Try.prog ops Q rest (a.put o.dst v1) w1) :
    wpList Try.prog ops Q (o :: rest) a (W.alloc (.cells #[.string f.nm, .slice B f.bs.length cb, .int .i64 f.safe] 104)) :=
  Kd.N_append (w0 := w0) kF w0.heap.size hgd s x 48 104 (.agg #[(.string ⟨#[]⟩), (.slice none 0 0), (.int .i64 0)]) 48 ho Try.underlying48 infoF rfl (by decide) (by omega)
    v xs f [.string f.nm, .slice B f.bs.length cb, .int .i64 f.safe] ok okp hs hx (kF_mkF W okp f hp) hokp hfresh HO HB HB.size (by omega) (fun v1 w1 a b c _ => h v1 w1 a b c)

/-- The blocks of what a call makes: what came in, or new ones but those of G. -/
def okN (ok : Nat → Prop) (B : Nat) (G : Nat → Prop) (k : Nat) : Prop := (ok k ∧ k < B) ∨ (B ≤ k ∧ ¬ G k)
theorem okN_to {ok : Nat → Prop} {B : Nat} {G : Nat → Prop} : ∀ k, okN ok B G k → ok k ∨ B ≤ k := fun _ hk => hk.imp And.left And.left
/-- Behind an append to a row of okN: a block of G stays. -/
theorem grown_G {w w1 : World} {ok : Nat → Prop} {B base g e : Nat} {G : Nat → Prop} {v : Value} {xs : List AF} {o : Obj} (hN : Kd.N kF e w base (okN ok B G) v xs) (hg : w.grownBy w1 v.ownBlock) (hb : w.heap[g]? = some o) (hG : G g) (hB : B ≤ g) : w1.heap[g]? = some o := by
  refine blk_grown hb hg (fun he => ?_)
  rcases hN.1 g he.symm with h | h
  · omega
  · exact h.2 hG
theorem blk_set4 {w : World} {g t : Nat} {a b c d : Value} (h : w.heap[g]? = some (.cells #[a, b, c, d] t (0, 0))) (a' b' c' d' : Value) :
    ((((w.setCell ⟨g, 0, none⟩ a').setCell ⟨g, 1, none⟩ b').setCell ⟨g, 2, none⟩ c').setCell ⟨g, 3, none⟩ d').heap[g]? = some (.cells #[a', b', c', d'] t (0, 0)) := blk_set (blk_set (blk_set (blk_set h 0 a') 1 b') 2 c') 3 d'
theorem keeps_set4 (w : World) (g : Nat) (a b c d : Value) : Keeps (fun k => k = g) w ((((w.setCell ⟨g, 0, none⟩ a).setCell ⟨g, 1, none⟩ b).setCell ⟨g, 2, none⟩ c).setCell ⟨g, 3, none⟩ d) :=
  (((Keeps.set w g 0 a).trans (Keeps.set _ g 1 b)).trans (Keeps.set _ g 2 c)).trans (Keeps.set _ g 3 d)
/-- What a call that makes a disk's files comes to: the value, its files, the world. -/
def RefTo (w : World) (ok : Nat → Prop) (fl : List AF) (v : Value) (w' : World) : Prop := RefAt w' (fun k => ok k ∨ w.heap.size ≤ k) fl v ∧ Below w.heap.size w w'

theorem rm_len (l : List AF) (nm : ByteArray) : (Vm.rm l nm).length ≤ l.length := List.length_filter_le _ _

/-- The relation of without's loop. -/
def WoRel (w : World) (ok : Nat → Prop) (m : AS) (nm : ByteArray) (v0 : Value) (n : Nat) (u i : Value) (wr : World) : Prop :=
  ∃ k : Nat, k ≤ n ∧ i = .int .i64 k ∧ Kd.N kF 104 wr w.heap.size (okN ok w.heap.size (fun b => b = w.heap.size ∨ b = w.heap.size + 1)) u (Vm.rm (m.fl.take k) nm) ∧
    wr.heap[w.heap.size]? = some (.cells #[v0, .int .i64 m.most, .int .i64 m.fuse, .bool m.down] 50 (0, 0)) ∧ wr.heap[w.heap.size + 1]? = some (.cells #[.slice none 0 0, .int .i64 0, .int .i64 0, .bool false] 50 (0, 0)) ∧ Below w.heap.size w wr

set_option maxRecDepth 100000 in
set_option maxHeartbeats 2000000 in
theorem ref_without {w : World} {ok : Nat → Prop} {m : AS} {v : Value} (h : RefAt w ok m.fl v) (nm : ByteArray) (hl : m.fl.length ≤ 1099511627776) :
    Calls Try.prog 65 #[fsV m v, .string nm] w fun e w' => ∃ v', e = .returned (fsV { m with fl := Vm.rm m.fl nm } v') ∧ RefTo w ok (Vm.rm m.fl nm) v' w' := by
  obtain ⟨A, c, rfl, hc⟩ := h.slice
  obtain ⟨n, hn⟩ : ∃ n, m.fl.length = n := ⟨_, rfl⟩
  have HP := Aside0.mk (show RefAt w (fun b => ok b ∧ b < w.heap.size) m.fl _ from Kd.V_bound h)
  rw [hn] at hl hc
  unfold fsV
  have HN := Aside0.mk hn
  rw [hn]
  obtain ⟨b0, hb0⟩ : ∃ b, b = w.heap.size := ⟨_, rfl⟩
  have R0 : Aside0 (∀ W : World, W = (w.alloc (.cells #[.slice A n c, .int .i64 m.most, .int .i64 m.fuse, .bool m.down] 50)).alloc (.cells #[.slice none 0 0, .int .i64 0, .int .i64 0, .bool false] 50) → WoRel w ok m nm (.slice A n c) n (.slice (some ⟨w.heap.size + 2, 0, none⟩) 0 0) (.int .i64 0) (W.alloc (.cells #[] 104))) := ⟨by
    rintro W rfl
    have hs : ((w.alloc (.cells #[.slice A n c, .int .i64 m.most, .int .i64 m.fuse, .bool m.down] 50)).alloc (.cells #[.slice none 0 0, .int .i64 0, .int .i64 0, .bool false] 50)).heap.size = w.heap.size + 2 := by simp
    have hbl := below_alloc (below_alloc (Below.refl w.heap.size w) (.cells #[.slice A n c, .int .i64 m.most, .int .i64 m.fuse, .bool m.down] 50)) (.cells #[.slice none 0 0, .int .i64 0, .int .i64 0, .bool false] 50)
    refine ⟨0, Nat.zero_le _, rfl, ?_, ?_, ?_, below_alloc hbl _⟩
    · have hN := N_lit0 kF 104 w.heap.size _ (okN ok w.heap.size (fun b => b = w.heap.size ∨ b = w.heap.size + 1)) (by rw [hs]; exact .inr ⟨by omega, by omega⟩) hbl.size
      rw [hs] at hN
      exact hN
    · exact blk_alloc (blk_alloc (blk_new w _) _) _
    · have hq := blk_new (w.alloc (.cells #[.slice A n c, .int .i64 m.most, .int .i64 m.fuse, .bool m.down] 50)) (.cells #[.slice none 0 0, .int .i64 0, .int .i64 0, .bool false] 50)
      rw [show (w.alloc (.cells #[.slice A n c, .int .i64 m.most, .int .i64 m.fuse, .bool m.down] 50)).heap.size = w.heap.size + 1 from by simp] at hq
      exact blk_alloc hq _⟩
  clear h hn hb0
  go_enter Try.func65, Try.ntmps65
  go_wp2
  go_loopw [5, 6] (fun u i wr => Aside0 (WoRel w ok m nm (.slice A n c) n u i wr)) (fun _ i _ => n - (intOf i).toNat)
  case atStart => exact ⟨R0.out _ rfl⟩
  case round =>
    obtain ⟨⟨k, hk, rfl, hN, hb1, hb2, hbl⟩⟩ := hrel
    clear R0
    by_cases hlt : k < n
    · have hkl : k < m.fl.length := by have := HN.out; omega
      have hv : RefAt wr (fun b => ok b ∧ b < w.heap.size) m.fl (.slice A m.fl.length c) := by have := HP.out; exact this.below hbl
      obtain ⟨ad, B, cb, rfl, hF⟩ := hv.at_ k hkl
      have p0 := hF.c0
      have p1 := hF.c1
      have p2 := hF.c2
      have hBV := Aside0.mk hF.bv
      have q0 : wr.cell? ⟨w.heap.size, 0, none⟩ = some (.slice (some ad) n c) := blk_cell hb1 0
      have hnx := rm_next m.fl nm k hkl
      have hlen : (Vm.rm (m.fl.take k) nm).length < 2199023255552 := by have := rm_len (m.fl.take k) nm; have := List.length_take_le k m.fl; omega
      obtain ⟨r, hr⟩ : ∃ r, Vm.same m.fl[k].nm nm = r := ⟨_, rfl⟩
      obtain ⟨s1, s2⟩ := same_facts hr
      rw [hr] at hnx
      have hkn : (k : Int) < n := by omega
      have HL := Aside0.mk hlen
      have HX := Aside0.mk hnx
      have H1 := Aside0.mk hb1
      have H2 := Aside0.mk hb2
      have HBL := Aside0.mk hbl
      have HNN := Aside0.mk hN
      clear hnx hlen hr hb1 hb2 hbl hN hF hv HP
      generalize m.fl[k] = f at *
      cases r
      · simp only [Bool.not_false] at s2
        have g1 : w.heap.size ≤ wr.heap.size := HBL.out.size
        go_wp2_with (at_builtin; refine append_file (w0 := w) rfl (.tmp 23) (.tmp 29) rfl u5 _ f B cb (okN ok w.heap.size (fun b => b = w.heap.size ∨ b = w.heap.size + 1)) (fun b => ok b ∧ b < w.heap.size) rfl rfl hBV.out ?c1 ?c2 HNN.out HBL.out HL.out ?_)
        case c1 => exact fun b hb => ⟨.inl hb, fun e => by have := Kd.N_base HNN.out b e.symm; omega⟩
        case c2 => exact fun b hb => .inr ⟨by omega, fun he => by have e1 := blk_lt H1.out; have e2 := blk_lt H2.out; rcases he with rfl | rfl <;> omega⟩
        intro v1 w1 hN1 hB1 hg1
        have NX : Aside0 (WoRel w ok m nm (.slice (some ad) n c) n v1 (.int .i64 (k + 1)) w1) := ⟨⟨k + 1, by omega, rfl, by rw [HX.out]; exact hN1, grown_G HNN.out hg1 H1.out (.inl rfl) (Nat.le_refl _), grown_G HNN.out hg1 H2.out (.inr rfl) (by omega), hB1⟩⟩
        clear hN1 hB1 hg1 HNN H1 H2 HBL HX HL hBV g1 p0 p1 p2 q0
        go_wp2
        go_roundw
        case rel => exact NX
        case measure => simp [intOf]; omega
      · simp only [Bool.not_true] at s2
        go_wp2
        go_roundw
        case rel => exact ⟨k + 1, by omega, by go_num, by rw [HX.out]; exact HNN.out, H1.out, H2.out, HBL.out⟩
        case measure => simp [intOf]; omega
    · have hkn : ¬ (k : Int) < n := by omega
      rw [List.take_of_length_le (by have := HN.out; omega)] at hN
      obtain ⟨Au, cu, rfl⟩ := Kd.N_slice hN
      have q0 : wr.cell? ⟨w.heap.size, 0, none⟩ = some (.slice A n c) := blk_cell hb1 0
      have q1 : wr.cell? ⟨w.heap.size, 1, none⟩ = some (.int .i64 m.most) := blk_cell hb1 1
      have q2 : wr.cell? ⟨w.heap.size, 2, none⟩ = some (.int .i64 m.fuse) := blk_cell hb1 2
      have q3 : wr.cell? ⟨w.heap.size, 3, none⟩ = some (.bool m.down) := blk_cell hb1 3
      have f0 := blk_frozen hb1 0
      have r0 : wr.cell? ⟨w.heap.size + 1, 0, none⟩ = some (.slice none 0 0) := blk_cell hb2 0
      have r1 : wr.cell? ⟨w.heap.size + 1, 1, none⟩ = some (.int .i64 0) := blk_cell hb2 1
      have r2 : wr.cell? ⟨w.heap.size + 1, 2, none⟩ = some (.int .i64 0) := blk_cell hb2 2
      have r3 : wr.cell? ⟨w.heap.size + 1, 3, none⟩ = some (.bool false) := blk_cell hb2 3
      have t0 := blk_frozen hb2 0
      have t1 := blk_frozen hb2 1
      have t2 := blk_frozen hb2 2
      have t3 := blk_frozen hb2 3
      have H1 := Aside0.mk hb1
      have H2 := Aside0.mk hb2
      have HBL := Aside0.mk hbl
      have HNN := Aside0.mk hN
      clear hb1 hb2 hbl hN HP
      go_wp2
      have K1 := (Keeps.set wr w.heap.size 0 (.slice Au (Vm.rm m.fl nm).length cu))
      have hk2 := blk_far (p := ⟨w.heap.size, 0, none⟩) H2.out (by simp) (.slice Au (Vm.rm m.fl nm).length cu)
      have K2 := keeps_set4 (wr.setCell ⟨w.heap.size, 0, none⟩ (.slice Au (Vm.rm m.fl nm).length cu)) (w.heap.size + 1) (.slice Au (Vm.rm m.fl nm).length cu) (.int .i64 m.most) (.int .i64 m.fuse) (.bool m.down)
      have hK : Keeps (fun b => b = w.heap.size ∨ b = w.heap.size + 1) wr _ := (K1.mono (fun _ h => .inl h)).trans (K2.mono (fun _ h => .inr h))
      refine bodyPost_ret (results_cell_row rfl _ _ (w.heap.size + 1) 50 #[.slice Au (Vm.rm m.fl nm).length cu, .int .i64 m.most, .int .i64 m.fuse, .bool m.down] (0, 0) _ rfl (blk_set4 hk2 _ _ _ _) Try.underlying50 rfl (by kernel_rfl)) rfl ?_
      refine ⟨_, rfl, Kd.V_mono (Kd.N_V (N_keeps HNN.out hK ?_)) okN_to, ?_⟩
      · rintro b (hb | hb) hb2
        · omega
        · exact hb.2 hb2
      · exact HBL.out.trans (hK.below (fun b hb => by omega) HBL.out.size)


def WG (B b : Nat) : Prop := b = B ∨ b = B + 1 ∨ b = B + 2
theorem blk_set3 {w : World} {g t : Nat} {a b c : Value} (h : w.heap[g]? = some (.cells #[a, b, c] t (0, 0))) (a' b' c' : Value) :
    (((w.setCell ⟨g, 0, none⟩ a').setCell ⟨g, 1, none⟩ b').setCell ⟨g, 2, none⟩ c').heap[g]? = some (.cells #[a', b', c'] t (0, 0)) := blk_set (blk_set (blk_set h 0 a') 1 b') 2 c'
theorem geq_fact {a b : ByteArray} {r : Bool} (h : bytesBefore a.data.toList b.data.toList = r) : (!(Op.bytesLess a.toList b.toList)) = !r := by
  rw [less_before, ByteArray.toList_eq, ByteArray.toList_eq, h]
/-- The blocks of With. -/
structure WithB (w : World) (m : AS) (v0 : Value) (f : AF) (B : Option Addr) (cb : Nat) (wr : World) : Prop where
  h1 : wr.heap[w.heap.size]? = some (.cells #[v0, .int .i64 m.most, .int .i64 m.fuse, .bool m.down] 50 (0, 0))
  h2 : wr.heap[w.heap.size + 1]? = some (.cells #[.string f.nm, .slice B f.bs.length cb, .int .i64 f.safe] 104 (0, 0))
  h3 : wr.heap[w.heap.size + 2]? = some (.cells #[.slice none 0 0, .int .i64 0, .int .i64 0, .bool false] 50 (0, 0))
  bl : Below w.heap.size w wr
theorem WithB.drewN {w : World} {m : AS} {v0 : Value} {f : AF} {B : Option Addr} {cb : Nat} {wr : World} (h : WithB w m v0 f B cb wr) (n : Nat) : WithB w m v0 f B cb (wr.drewN n) := ⟨h.h1, h.h2, h.h3, pw_below_drewN h.bl n⟩
theorem WithB.grown {w : World} {ok : Nat → Prop} {m : AS} {v0 : Value} {f : AF} {B : Option Addr} {cb : Nat} {wr w1 : World} {v : Value} {xs : List AF} (h : WithB w m v0 f B cb wr) (hN : Kd.N kF 104 wr w.heap.size (okN ok w.heap.size (WG w.heap.size)) v xs) (hg : wr.grownBy w1 v.ownBlock) (hb : Below w.heap.size w w1) : WithB w m v0 f B cb w1 :=
  ⟨grown_G hN hg h.h1 (.inl rfl) (by omega), grown_G hN hg h.h2 (.inr (.inl rfl)) (by omega), grown_G hN hg h.h3 (.inr (.inr rfl)) (by omega), hb⟩
theorem WithB.fresh {w : World} {ok : Nat → Prop} {m : AS} {v0 : Value} {f : AF} {B : Option Addr} {cb : Nat} {wr : World} (h : WithB w m v0 f B cb wr) : ∀ b, wr.heap.size ≤ b → okN ok w.heap.size (WG w.heap.size) b := fun b hb =>
  .inr ⟨Nat.le_trans h.bl.size hb, fun he => by have e1 := blk_lt h.h1; have e2 := blk_lt h.h2; have e3 := blk_lt h.h3; rcases he with rfl | rfl | rfl <;> omega⟩
theorem in_okN {w : World} {ok : Nat → Prop} {G : Nat → Prop} {wr : World} {e : Nat} {v : Value} {xs : List AF} (hN : Kd.N kF e wr w.heap.size (okN ok w.heap.size G) v xs) : ∀ b, (ok b ∧ b < w.heap.size) → okN ok w.heap.size G b ∧ some b ≠ v.ownBlock :=
  fun b hb => ⟨.inl hb, fun he => by have := Kd.N_base hN b he.symm; omega⟩
/-- The relation of With's loop. -/
def WiRel (w : World) (ok : Nat → Prop) (m : AS) (f : AF) (B : Option Addr) (cb : Nat) (v0 : Value) (n : Nat) (u dn i : Value) (wr : World) : Prop :=
  ∃ (k : Nat) (done : Bool) (out : List AF), k ≤ n ∧ i = .int .i64 k ∧ dn = .bool done ∧ WithInv m.fl f k out done ∧ Kd.N kF 104 wr w.heap.size (okN ok w.heap.size (WG w.heap.size)) u out ∧ WithB w m v0 f B cb wr

section
variable {w : World} {ok : Nat → Prop} {m : AS} {f : AF} {B : Option Addr} {cb n c : Nat} {A : Option Addr}
theorem with_start : WiRel w ok m f B cb (.slice A n c) n (.slice (some ⟨w.heap.size + 3, 0, none⟩) 0 0) (.bool false) (.int .i64 0)
    ((((w.alloc (.cells #[.slice A n c, .int .i64 m.most, .int .i64 m.fuse, .bool m.down] 50)).alloc (.cells #[.string f.nm, .slice B f.bs.length cb, .int .i64 f.safe] 104)).alloc (.cells #[.slice none 0 0, .int .i64 0, .int .i64 0, .bool false] 50)).alloc (.cells #[] 104)) := by
  have b1 := below_alloc (Below.refl w.heap.size w) (.cells #[.slice A n c, .int .i64 m.most, .int .i64 m.fuse, .bool m.down] 50)
  have s1 : (w.alloc (.cells #[.slice A n c, .int .i64 m.most, .int .i64 m.fuse, .bool m.down] 50)).heap.size = w.heap.size + 1 := by simp
  have h1 := blk_new w (.cells #[.slice A n c, .int .i64 m.most, .int .i64 m.fuse, .bool m.down] 50)
  generalize w.alloc (.cells #[.slice A n c, .int .i64 m.most, .int .i64 m.fuse, .bool m.down] 50) = w1 at *
  have b2 := below_alloc b1 (.cells #[.string f.nm, .slice B f.bs.length cb, .int .i64 f.safe] 104)
  have s2 : (w1.alloc (.cells #[.string f.nm, .slice B f.bs.length cb, .int .i64 f.safe] 104)).heap.size = w.heap.size + 2 := by simp [s1]
  have h2 := blk_new w1 (.cells #[.string f.nm, .slice B f.bs.length cb, .int .i64 f.safe] 104)
  rw [s1] at h2
  replace h1 := blk_alloc h1 (.cells #[.string f.nm, .slice B f.bs.length cb, .int .i64 f.safe] 104)
  generalize w1.alloc (.cells #[.string f.nm, .slice B f.bs.length cb, .int .i64 f.safe] 104) = w2 at *
  have b3 := below_alloc b2 (.cells #[.slice none 0 0, .int .i64 0, .int .i64 0, .bool false] 50)
  have s3 : (w2.alloc (.cells #[.slice none 0 0, .int .i64 0, .int .i64 0, .bool false] 50)).heap.size = w.heap.size + 3 := by simp [s2]
  have h3 := blk_new w2 (.cells #[.slice none 0 0, .int .i64 0, .int .i64 0, .bool false] 50)
  rw [s2] at h3
  replace h1 := blk_alloc h1 (.cells #[.slice none 0 0, .int .i64 0, .int .i64 0, .bool false] 50)
  replace h2 := blk_alloc h2 (.cells #[.slice none 0 0, .int .i64 0, .int .i64 0, .bool false] 50)
  generalize w2.alloc (.cells #[.slice none 0 0, .int .i64 0, .int .i64 0, .bool false] 50) = w3 at *
  have hN := N_lit0 kF 104 w.heap.size w3 (okN ok w.heap.size (WG w.heap.size)) (by rw [s3]; exact .inr ⟨by omega, by unfold WG; omega⟩) b3.size
  rw [s3] at hN
  exact ⟨0, false, [], Nat.zero_le _, rfl, rfl, WithInv.start _ _, hN, blk_alloc h1 _, blk_alloc h2 _, blk_alloc h3 _, below_alloc b3 _⟩

/-- The end: the row into the box, the box into the result. -/
theorem with_end {u : Value} {xs : List AF} {wr : World} {v0 : Value} (hN : Kd.N kF 104 wr w.heap.size (okN ok w.heap.size (WG w.heap.size)) u xs) (hW : WithB w m v0 f B cb wr) :
    (((((wr.setCell ⟨w.heap.size, 0, none⟩ u).setCell ⟨w.heap.size + 2, 0, none⟩ u).setCell ⟨w.heap.size + 2, 1, none⟩ (.int .i64 m.most)).setCell ⟨w.heap.size + 2, 2, none⟩ (.int .i64 m.fuse)).setCell ⟨w.heap.size + 2, 3, none⟩ (.bool m.down)).heap[w.heap.size + 2]? = some (.cells #[u, .int .i64 m.most, .int .i64 m.fuse, .bool m.down] 50 (0, 0)) ∧
    RefTo w ok xs u (((((wr.setCell ⟨w.heap.size, 0, none⟩ u).setCell ⟨w.heap.size + 2, 0, none⟩ u).setCell ⟨w.heap.size + 2, 1, none⟩ (.int .i64 m.most)).setCell ⟨w.heap.size + 2, 2, none⟩ (.int .i64 m.fuse)).setCell ⟨w.heap.size + 2, 3, none⟩ (.bool m.down)) := by
  have K1 := Keeps.set wr w.heap.size 0 u
  have K2 := keeps_set4 (wr.setCell ⟨w.heap.size, 0, none⟩ u) (w.heap.size + 2) u (.int .i64 m.most) (.int .i64 m.fuse) (.bool m.down)
  have hK : Keeps (WG w.heap.size) wr _ := (K1.mono (fun _ h => .inl h)).trans (K2.mono (fun _ h => .inr (.inr h)))
  refine ⟨blk_set4 (blk_far hW.h3 (by simp) _) _ _ _ _, Kd.V_mono (Kd.N_V (N_keeps hN hK ?_)) okN_to, hW.bl.trans (hK.below (fun b hb => by unfold WG at hb; omega) hW.bl.size)⟩
  rintro b (hb | hb) hb2
  · unfold WG at hb2; omega
  · exact hb.2 hb2

set_option maxRecDepth 100000 in
set_option maxHeartbeats 8000000 in
theorem ref_with {v : Value} (h : RefAt w ok m.fl v) (hs : Sorted m.fl) (f : AF) {B : Option Addr} {cb : Nat} (hB : BV w ok B cb f.bs) (hl : m.fl.length ≤ 1099511627776) :
    Calls Try.prog 66 #[fsV m v, .agg #[.string f.nm, .slice B f.bs.length cb, .int .i64 f.safe]] w fun e w' => ∃ v', e = .returned (fsV { m with fl := Vm.ins f (Vm.rm m.fl f.nm) } v') ∧ RefTo w ok (Vm.ins f (Vm.rm m.fl f.nm)) v' w' := by
  obtain ⟨A, c, rfl, hc⟩ := h.slice
  obtain ⟨n, hn⟩ : ∃ n, m.fl.length = n := ⟨_, rfl⟩
  have HP := Aside0.mk (show RefAt w (fun b => ok b ∧ b < w.heap.size) m.fl _ from Kd.V_bound h)
  have HV := Aside0.mk (show BV w (fun b => ok b ∧ b < w.heap.size) B cb f.bs from Kd.V_bound hB)
  have HS := Aside0.mk hs
  rw [hn] at hl hc
  unfold fsV
  have HN := Aside0.mk hn
  rw [hn]
  have R0 := Aside0.mk (with_start (w := w) (ok := ok) (m := m) (f := f) (B := B) (cb := cb) (n := n) (c := c) (A := A))
  clear h hn hB hs
  go_enter Try.func66, Try.ntmps66
  go_wp2
  go_loopw [5, 6, 7] (fun u dn i wr => Aside0 (WiRel w ok m f B cb (.slice A n c) n u dn i wr)) (fun _ _ i _ => n - (intOf i).toNat)
  case atStart => exact R0
  case round =>
    obtain ⟨⟨k, done, out, hk, rfl, rfl, hI, hN, hW⟩⟩ := hrel
    clear R0
    have g1 : w.heap.size ≤ wr.heap.size := hW.bl.size
    by_cases hlt : k < n
    · have hkl : k < m.fl.length := by have := HN.out; omega
      have hv : RefAt wr (fun b => ok b ∧ b < w.heap.size) m.fl (.slice A m.fl.length c) := by have := HP.out; exact this.below hW.bl
      obtain ⟨ad, Bx, cx, rfl, hF⟩ := hv.at_ k hkl
      have p0 := hF.c0
      have p1 := hF.c1
      have p2 := hF.c2
      have hBV := Aside0.mk hF.bv
      have q0 : wr.cell? ⟨w.heap.size, 0, none⟩ = some (.slice (some ad) n c) := blk_cell hW.h1 0
      have x0 : wr.cell? ⟨w.heap.size + 1, 0, none⟩ = some (.string f.nm) := blk_cell hW.h2 0
      have x1 : wr.cell? ⟨w.heap.size + 1, 1, none⟩ = some (.slice B f.bs.length cb) := blk_cell hW.h2 1
      have x2 : wr.cell? ⟨w.heap.size + 1, 2, none⟩ = some (.int .i64 f.safe) := blk_cell hW.h2 2
      have hlen : out.length + 1 < 2199023255552 := by have := hI.len; have := HN.out; omega
      have hkn : (k : Int) < n := by omega
      have HL := Aside0.mk hlen
      have HW := Aside0.mk hW
      have HNN := Aside0.mk hN
      have DW : Aside0 (∀ a, WithB w m (.slice (some ad) n c) f B cb (wr.drewN a)) := ⟨fun a => hW.drewN a⟩
      have DN : Aside0 (∀ a, Kd.N kF 104 (wr.drewN a) w.heap.size (okN ok w.heap.size (WG w.heap.size)) u5 out) := ⟨fun a => Kd.N_drewN hN a⟩
      have DX : Aside0 (∀ a, BV (wr.drewN a) (fun b => ok b ∧ b < w.heap.size) Bx cx m.fl[k].bs) := ⟨fun a => Kd.V_drewN hF.bv a⟩
      cases hd : done with
      | true =>
        subst hd
        obtain ⟨hsame, hIn⟩ := with_c HS.out hkl hI
        obtain ⟨s1, s2⟩ := same_facts hsame
        simp only [Bool.not_false] at s2
        have HX := Aside0.mk hIn
        clear hI hIn hlen hW hN hF hv HP hsame HV hBV
        generalize m.fl[k] = x at *
        go_wp2_with fail
        go_quiet (fail)
        go_wp2_with fail
        go_quiet (fail)
        go_wp2_with (at_builtin; refine append_file (w0 := w) rfl (.tmp 42) (.tmp 48) rfl u5 out x Bx cx (okN ok w.heap.size (WG w.heap.size)) (fun b => ok b ∧ b < w.heap.size) rfl rfl (DX.out _) (in_okN HNN.out) (DW.out _).fresh (DN.out _) (DW.out _).bl (by have := HL.out; omega) ?_)
        intro v1 w1 hN1 hB1 hg1
        have NX : Aside0 (WiRel w ok m f B cb (.slice (some ad) n c) n v1 (.bool true) (.int .i64 (k + 1)) w1) := ⟨⟨k + 1, true, _, by omega, rfl, rfl, HX.out, hN1, (DW.out _).grown (DN.out _) hg1 hB1⟩⟩
        clear hN1 hB1 hg1 HNN HW HX HL DW DN DX g1 p0 p1 p2 q0 x0 x1 x2
        go_wp2
        go_roundw
        case rel => exact NX
        case measure => simp [intOf]; omega
      | false =>
        subst hd
        by_cases hlx : bytesBefore m.fl[k].nm.data.toList f.nm.data.toList = true
        · obtain ⟨hsame, hIn⟩ := with_a HS.out hkl hI hlx
          obtain ⟨s1, s2⟩ := same_facts hsame
          have s3 := geq_fact hlx
          simp only [Bool.not_false] at s2
          simp only [Bool.not_true] at s3
          have HX := Aside0.mk hIn
          clear hI hIn hlen hW hN hF hv HP hsame HV hBV hlx
          generalize m.fl[k] = x at *
          go_wp2_with fail
          go_quiet (fail)
          go_wp2_with fail
          go_quiet (fail)
          go_wp2_with (at_builtin; refine append_file (w0 := w) rfl (.tmp 42) (.tmp 48) rfl u5 out x Bx cx (okN ok w.heap.size (WG w.heap.size)) (fun b => ok b ∧ b < w.heap.size) rfl rfl (DX.out _) (in_okN HNN.out) (DW.out _).fresh (DN.out _) (DW.out _).bl (by have := HL.out; omega) ?_)
          intro v1 w1 hN1 hB1 hg1
          have NX : Aside0 (WiRel w ok m f B cb (.slice (some ad) n c) n v1 (.bool false) (.int .i64 (k + 1)) w1) := ⟨⟨k + 1, false, _, by omega, rfl, rfl, HX.out, hN1, (DW.out _).grown (DN.out _) hg1 hB1⟩⟩
          clear hN1 hB1 hg1 HNN HW HX HL DW DN DX g1 p0 p1 p2 q0 x0 x1 x2
          go_wp2
          go_roundw
          case rel => exact NX
          case measure => simp [intOf]; omega
        · have hlf : bytesBefore m.fl[k].nm.data.toList f.nm.data.toList = false := by simpa using hlx
          have hIn := with_b HS.out hkl hI hlf
          obtain ⟨r, hr⟩ : ∃ r, Vm.same m.fl[k].nm f.nm = r := ⟨_, rfl⟩
          obtain ⟨s1, s2⟩ := same_facts hr
          have s3 := geq_fact hlf
          simp only [Bool.not_false] at s3
          rw [hr] at hIn
          have HX := Aside0.mk hIn
          have DV : Aside0 (∀ a, BV (wr.drewN a) (fun b => ok b ∧ b < w.heap.size) B cb f.bs) := ⟨fun a => Kd.V_drewN (Kd.V_below HV.out HW.out.bl) a⟩
          have EW : Aside0 (∀ a, WithB w m (.slice (some ad) n c) f B cb (wr.drewN a)) := ⟨fun a => hW.drewN a⟩
          have EN : Aside0 (∀ a, Kd.N kF 104 (wr.drewN a) w.heap.size (okN ok w.heap.size (WG w.heap.size)) u5 out) := ⟨fun a => Kd.N_drewN hN a⟩
          have HE := Aside0.mk (RefAt.at_ (w := w) (ok := fun b => ok b ∧ b < w.heap.size) (fl := m.fl) (A := some ad) (c := c) (by have := HP.out; exact this) k hkl)
          clear hI hIn hlen hW hN hF hv HP hr HV hBV hlx hlf DW DN DX
          generalize m.fl[k] = x at *
          go_wp2_with fail
          go_quiet (fail)
          go_wp2_with (at_builtin; refine append_file (w0 := w) rfl (.tmp 29) (.tmp 31) rfl u5 out f B cb (okN ok w.heap.size (WG w.heap.size)) (fun b => ok b ∧ b < w.heap.size) rfl rfl (DV.out _) (in_okN HNN.out) (EW.out _).fresh (EN.out _) (EW.out _).bl (by have := HL.out; omega) ?_)
          intro v1 w1 hN1 hB1 hg1
          have hW1 := (EW.out _).grown (EN.out _) hg1 hB1
          obtain ⟨ad', By, cy, hq, hF'⟩ := HE.out
          injection hq with hq
          subst hq
          have hF := hF'.below hB1
          clear q0 x0 x1 x2 p0 p1 p2
          have q0 : w1.cell? ⟨w.heap.size, 0, none⟩ = some (.slice (some ad) n c) := blk_cell hW1.h1 0
          have x0 : w1.cell? ⟨w.heap.size + 1, 0, none⟩ = some (.string f.nm) := blk_cell hW1.h2 0
          have p0 := hF.c0
          have p1 := hF.c1
          have p2 := hF.c2
          have FW : Aside0 (∀ a, WithB w m (.slice (some ad) n c) f B cb (w1.drewN a)) := ⟨fun a => hW1.drewN a⟩
          have FN : Aside0 (∀ a, Kd.N kF 104 (w1.drewN a) w.heap.size (okN ok w.heap.size (WG w.heap.size)) v1 (out ++ [f])) := ⟨fun a => Kd.N_drewN hN1 a⟩
          have FX : Aside0 (∀ a, BV (w1.drewN a) (fun b => ok b ∧ b < w.heap.size) By cy x.bs) := ⟨fun a => Kd.V_drewN hF.bv a⟩
          have HN1 := Aside0.mk hN1
          clear hN1 hB1 hg1 hW1 hF hF' HNN HW EW EN DV HE q0 x0
          have q0 : w1.cell? ⟨w.heap.size, 0, none⟩ = some (.slice (some ad) n c) := blk_cell (FW.out 0).h1 0
          have x0 : w1.cell? ⟨w.heap.size + 1, 0, none⟩ = some (.string f.nm) := blk_cell (FW.out 0).h2 0
          cases r
          · simp only [Bool.not_false] at s2
            go_wp2_with fail
            go_quiet (fail)
            go_wp2_with (at_builtin; refine append_file (w0 := w) rfl (.tmp 42) (.tmp 48) rfl v1 (out ++ [f]) x By cy (okN ok w.heap.size (WG w.heap.size)) (fun b => ok b ∧ b < w.heap.size) rfl rfl (FX.out _) (in_okN HN1.out) (FW.out _).fresh (FN.out _) (FW.out _).bl (by have := HL.out; simp; omega) ?_)
            intro v2 w2 hN2 hB2 hg2
            have NX : Aside0 (WiRel w ok m f B cb (.slice (some ad) n c) n v2 (.bool true) (.int .i64 (k + 1)) w2) := ⟨⟨k + 1, true, (out ++ [f]) ++ [x], by omega, rfl, rfl, by have := HX.out; exact this, by rw [List.append_assoc]; exact hN2, (FW.out _).grown (FN.out _) hg2 hB2⟩⟩
            clear hN2 hB2 hg2 HX HL FW FN FX HN1 p0 p1 p2 q0 x0
            go_wp2
            go_roundw
            case rel => exact NX
            case measure => simp [intOf]; omega
          · simp only [Bool.not_true] at s2
            go_wp2_with fail
            go_quiet (fail)
            have NX : Aside0 (∀ a, WiRel w ok m f B cb (.slice (some ad) n c) n v1 (.bool true) (.int .i64 (k + 1)) (w1.drewN a)) := ⟨fun a => ⟨k + 1, true, _, by omega, rfl, rfl, by have := HX.out; exact this, FN.out a, FW.out a⟩⟩
            clear HX HL FW FN FX HN1 p0 p1 p2 q0 x0
            go_wp2
            go_roundw
            case rel => exact ⟨NX.out _⟩
            case measure => simp [intOf]; omega
    · have hkn : ¬ (k : Int) < n := by omega
      have hke : k = m.fl.length := by have := HN.out; omega
      subst hke
      have q0 : wr.cell? ⟨w.heap.size, 0, none⟩ = some (.slice A n c) := blk_cell hW.h1 0
      have q1 : wr.cell? ⟨w.heap.size, 1, none⟩ = some (.int .i64 m.most) := blk_cell hW.h1 1
      have q2 : wr.cell? ⟨w.heap.size, 2, none⟩ = some (.int .i64 m.fuse) := blk_cell hW.h1 2
      have q3 : wr.cell? ⟨w.heap.size, 3, none⟩ = some (.bool m.down) := blk_cell hW.h1 3
      have x0 : wr.cell? ⟨w.heap.size + 1, 0, none⟩ = some (.string f.nm) := blk_cell hW.h2 0
      have x1 : wr.cell? ⟨w.heap.size + 1, 1, none⟩ = some (.slice B f.bs.length cb) := blk_cell hW.h2 1
      have x2 : wr.cell? ⟨w.heap.size + 1, 2, none⟩ = some (.int .i64 f.safe) := blk_cell hW.h2 2
      have hlen : out.length + 1 < 2199023255552 := by have := hI.len; have := HN.out; omega
      have HL := Aside0.mk hlen
      have HW := Aside0.mk hW
      have HNN := Aside0.mk hN
      have HI := Aside0.mk hI
      have DV : Aside0 (BV wr (fun b => ok b ∧ b < w.heap.size) B cb f.bs) := ⟨Kd.V_below HV.out hW.bl⟩
      clear hlen hW hN hI HV HP HS
      cases done with
      | false =>
        go_wp2_with (at_builtin; refine append_file (w0 := w) rfl (.tmp 52) (.tmp 54) rfl u5 out f B cb (okN ok w.heap.size (WG w.heap.size)) (fun b => ok b ∧ b < w.heap.size) rfl rfl DV.out (in_okN HNN.out) HW.out.fresh HNN.out HW.out.bl (by have := HL.out; omega) ?_)
        intro v1 w1 hN1 hB1 hg1
        have hW1 := HW.out.grown HNN.out hg1 hB1
        rw [HI.out.end0] at hN1
        have HE := Aside0.mk (with_end hN1 hW1)
        obtain ⟨Au, cu, rfl⟩ := Kd.N_slice hN1
        have q0 : w1.cell? ⟨w.heap.size, 0, none⟩ = some (.slice A n c) := blk_cell hW1.h1 0
        have q1 : w1.cell? ⟨w.heap.size, 1, none⟩ = some (.int .i64 m.most) := blk_cell hW1.h1 1
        have q2 : w1.cell? ⟨w.heap.size, 2, none⟩ = some (.int .i64 m.fuse) := blk_cell hW1.h1 2
        have q3 : w1.cell? ⟨w.heap.size, 3, none⟩ = some (.bool m.down) := blk_cell hW1.h1 3
        have f0 := blk_frozen hW1.h1 0
        have r0 : w1.cell? ⟨w.heap.size + 2, 0, none⟩ = some (.slice none 0 0) := blk_cell hW1.h3 0
        have r1 : w1.cell? ⟨w.heap.size + 2, 1, none⟩ = some (.int .i64 0) := blk_cell hW1.h3 1
        have r2 : w1.cell? ⟨w.heap.size + 2, 2, none⟩ = some (.int .i64 0) := blk_cell hW1.h3 2
        have r3 : w1.cell? ⟨w.heap.size + 2, 3, none⟩ = some (.bool false) := blk_cell hW1.h3 3
        have t0 := blk_frozen hW1.h3 0
        have t1 := blk_frozen hW1.h3 1
        have t2 := blk_frozen hW1.h3 2
        have t3 := blk_frozen hW1.h3 3
        clear hN1 hB1 hg1 hW1 HNN HW HI DV x0 x1 x2
        go_wp2
        refine bodyPost_ret (results_cell_row rfl _ _ (w.heap.size + 2) 50 #[.slice Au (Vm.ins f (Vm.rm m.fl f.nm)).length cu, .int .i64 m.most, .int .i64 m.fuse, .bool m.down] (0, 0) _ rfl HE.out.1 Try.underlying50 rfl (by kernel_rfl)) rfl ⟨_, rfl, HE.out.2⟩
      | true =>
        rw [HI.out.end1] at HNN
        have HE := Aside0.mk (with_end HNN.out HW.out)
        obtain ⟨Au, cu, rfl⟩ := Kd.N_slice HNN.out
        have f0 := blk_frozen HW.out.h1 0
        have r0 : wr.cell? ⟨w.heap.size + 2, 0, none⟩ = some (.slice none 0 0) := blk_cell HW.out.h3 0
        have r1 : wr.cell? ⟨w.heap.size + 2, 1, none⟩ = some (.int .i64 0) := blk_cell HW.out.h3 1
        have r2 : wr.cell? ⟨w.heap.size + 2, 2, none⟩ = some (.int .i64 0) := blk_cell HW.out.h3 2
        have r3 : wr.cell? ⟨w.heap.size + 2, 3, none⟩ = some (.bool false) := blk_cell HW.out.h3 3
        have t0 := blk_frozen HW.out.h3 0
        have t1 := blk_frozen HW.out.h3 1
        have t2 := blk_frozen HW.out.h3 2
        have t3 := blk_frozen HW.out.h3 3
        clear HNN HW HI DV x0 x1 x2
        go_wp2
        refine bodyPost_ret (results_cell_row rfl _ _ (w.heap.size + 2) 50 #[.slice Au (Vm.ins f (Vm.rm m.fl f.nm)).length cu, .int .i64 m.most, .int .i64 m.fuse, .bool m.down] (0, 0) _ rfl HE.out.1 Try.underlying50 rfl (by kernel_rfl)) rfl ⟨_, rfl, HE.out.2⟩
end
end Go.Proofs.Ythjdgiobchiloaa
