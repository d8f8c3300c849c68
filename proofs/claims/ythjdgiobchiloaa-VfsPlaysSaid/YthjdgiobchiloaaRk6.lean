/-
  What is proved: what Between (colloquyref01), New and Crash (colloquyref07) come to; of fewer than 2^40 files, each with its safe bytes, at most 2^47 bytes.
  What is proved: what Crash of colloquyref07 comes to; of fewer than 2^40 files, each with its safe bytes, at most 2^47 bytes.
-/
import Derived.Test.YthjdgiobchiloaaRk4
namespace Go.Proofs.Ythjdgiobchiloaa
open Go.RowKit Go.Proofs.YthjdgiobchiloaaW.PrintWords
set_option linter.unusedVariables false
set_option linter.unusedSimpArgs false

theorem between_calls (x m : Int) (w : World) (hm : 0 ≤ m) {r : Nat} (hr : min (max x 0) m = r) : Calls Try.prog 67 #[.int .i64 x, .int .i64 0, .int .i64 m] w fun e w' => e = .returned (.int .i64 r) ∧ w = w' := by
  by_cases h1 : x < 0
  · have e : (r : Int) = 0 := by omega
    rw [e]
    clear hr e
    go_enter Try.func67, Try.ntmps67
    go_wp2
    go_ret; exact ⟨rfl, rfl⟩
  · by_cases h2 : m < x
    · have e : (r : Int) = m := by omega
      rw [e]
      clear hr e
      go_enter Try.func67, Try.ntmps67
      go_wp2
      go_ret; exact ⟨rfl, rfl⟩
    · have e : (r : Int) = x := by omega
      rw [e]
      clear hr e
      go_enter Try.func67, Try.ntmps67
      go_wp2
      go_ret; exact ⟨rfl, rfl⟩
theorem ref_new (n : Int) (w : World) (ok : Nat → Prop) : Calls Try.prog 27 #[.int .i64 n] w fun e w' => e = .returned (fsV ⟨[], max n 0, 0, false⟩ (.slice none 0 0)) ∧ RefTo w ok [] (.slice none 0 0) w' := by
  have HB := Aside0.mk (Below.refl w.heap.size w)
  unfold fsV
  by_cases h : n < 0
  · have e : max n 0 = 0 := by omega
    rw [e]
    clear e
    go_enter Try.func27, Try.ntmps27
    go_wp2
    exact bodyPost_ret (v := .agg #[.slice none 0 0, .int .i64 0, .int .i64 0, .bool false]) (by simp [results, Try.results27, go_sem]) rfl ⟨rfl, Kd.V_nil _ _ _ _ _, by repeat (first | exact HB.out | apply below_alloc)⟩
  · have e : max n 0 = n := by omega
    rw [e]
    clear e
    go_enter Try.func27, Try.ntmps27
    go_wp2
    exact bodyPost_ret (v := .agg #[.slice none 0 0, .int .i64 n, .int .i64 0, .bool false]) (by simp [results, Try.results27, go_sem]) rfl ⟨rfl, Kd.V_nil _ _ _ _ _, by repeat (first | exact HB.out | apply below_alloc)⟩


theorem drop_head (ks : List Int) (n : Nat) : (ks.drop n).headD 0 = ks.getD n 0 := by
  rw [List.getD_eq_getElem?_getD, ← List.head?_drop]
  cases ks.drop n <;> rfl
theorem crashL_same {l : List AF} (ks : List Int) (k : Nat) (hk : k < l.length) (e : l[k].bs.length = l[k].safe) : Vm.crashL (l.drop k) ks = l[k] :: Vm.crashL (l.drop (k + 1)) ks := by
  rw [List.drop_eq_getElem_cons hk, Vm.crashL, if_pos e]
def torn (f : AF) (N : Nat) : AF := { f with bs := f.bs.take N, safe := N }
theorem crashL_torn {l : List AF} (ks : List Int) (k j : Nat) (hk : k < l.length) (e : l[k].bs.length ≠ l[k].safe) (hs : l[k].safe ≤ l[k].bs.length) : ∃ r : Nat, min (max (ks.getD j 0) 0) ((l[k].bs.length : Int) - l[k].safe) = r ∧ l[k].safe + r ≤ l[k].bs.length ∧
    Vm.crashL (l.drop k) (ks.drop j) = torn l[k] (l[k].safe + r) :: Vm.crashL (l.drop (k + 1)) (ks.drop (j + 1)) := by
  have g1 : 0 ≤ min (max (ks.getD j 0) 0) ((l[k].bs.length : Int) - l[k].safe) := Int.le_min.2 ⟨Int.le_max_right _ _, by omega⟩
  have g2 : min (max (ks.getD j 0) 0) ((l[k].bs.length : Int) - l[k].safe) ≤ (l[k].bs.length : Int) - l[k].safe := Int.min_le_right _ _
  refine ⟨(min (max (ks.getD j 0) 0) ((l[k].bs.length : Int) - l[k].safe)).toNat, (Int.toNat_of_nonneg g1).symm, by omega, ?_⟩
  rw [List.drop_eq_getElem_cons hk, Vm.crashL, if_neg e, drop_head, List.tail_drop]
  rfl
theorem BV.take {W : World} {ok : Nat → Prop} {B : Option Addr} {cb : Nat} {bs : List Int} (h : BV W ok B cb bs) {N : Nat} (hN : N ≤ bs.length) : BV W ok B cb (bs.take N) := by
  have h1 := Kd.V_at h
  exact Kd.V_mk (by rw [List.length_take]; omega) (Kd.F_take h1.2.2 hN)

/-- append(out, f), the cells as they stand. -/
theorem append_file_ {ops : Array Oper} {rest : List Oper} {o : Oper} {a : Act} {Q : Exit → Act → World → Prop} {w0 W : World} (hgd : o.guard = none) (s x : Operand)
    (ho : o.op = .call { callee := .builtin .append, args := #[s, x], argTypes := #[48, 48] })
    (v : Value) (xs : List AF) (f : AF) (B : Option Addr) (cb : Nat) (ok okp : Nat → Prop) (nm : ByteArray) (L S : Nat) (hs : a.eval s = v) (hx : a.eval x = .slice (some ⟨W.heap.size, 0, none⟩) 1 1) (hp : BV W okp B cb f.bs) (hokp : ∀ k, okp k → ok k ∧ some k ≠ v.ownBlock) (hfresh : ∀ k, W.heap.size ≤ k → ok k)
    (HO : Kd.N kF 104 W w0.heap.size ok v xs) (HB : Below w0.heap.size w0 W) (hl : xs.length < 2199023255552) (e1 : f.nm = nm) (e2 : f.bs.length = L) (e3 : f.safe = S)
    (h : ∀ v1 w1, Kd.N kF 104 w1 w0.heap.size ok v1 (xs ++ [f]) → Below w0.heap.size w0 w1 → W.grownBy w1 v.ownBlock → wpList Try.prog ops Q rest (a.put o.dst v1) w1) :
    wpList Try.prog ops Q (o :: rest) a (W.alloc (.cells #[.string nm, .slice B L cb, .int .i64 S] 104)) := by
  subst e1 e2 e3
  exact append_file hgd s x ho v xs f B cb ok okp hs hx hp hokp hfresh HO HB hl h

def CG (B b : Nat) : Prop := b = B ∨ b = B + 1
structure CrB (w : World) (m : AS) (v0 : Value) (wr : World) : Prop where
  h1 : wr.heap[w.heap.size]? = some (.cells #[v0, .int .i64 m.most, .int .i64 0, .bool false] 50 (0, 0))
  h2 : wr.heap[w.heap.size + 1]? = some (.cells #[.slice none 0 0, .int .i64 0, .int .i64 0, .bool false] 50 (0, 0))
  bl : Below w.heap.size w wr
theorem CrB.below {w : World} {m : AS} {v0 : Value} {wr w1 : World} (h : CrB w m v0 wr) (hb : Below wr.heap.size wr w1) : CrB w m v0 w1 := ⟨blk_below h.h1 hb, blk_below h.h2 hb, below_then h.bl h.bl.size hb⟩
theorem CrB.grown {w : World} {ok : Nat → Prop} {m : AS} {v0 : Value} {wr w1 : World} {v : Value} {xs : List AF} (h : CrB w m v0 wr) (hN : Kd.N kF 104 wr w.heap.size (okN ok w.heap.size (CG w.heap.size)) v xs) (hg : wr.grownBy w1 v.ownBlock) (hb : Below w.heap.size w w1) : CrB w m v0 w1 :=
  ⟨grown_G hN hg h.h1 (.inl rfl) (by omega), grown_G hN hg h.h2 (.inr rfl) (by omega), hb⟩
theorem CrB.fresh {w : World} {ok : Nat → Prop} {m : AS} {v0 : Value} {wr : World} (h : CrB w m v0 wr) : ∀ b, wr.heap.size ≤ b → okN ok w.heap.size (CG w.heap.size) b := fun b hb =>
  .inr ⟨Nat.le_trans h.bl.size hb, fun he => by have e1 := blk_lt h.h1; have e2 := blk_lt h.h2; rcases he with rfl | rfl <;> omega⟩
def CrInv (l : List AF) (ks : List Int) (k j : Nat) (pre : List AF) : Prop := pre.length = k ∧ j ≤ k ∧ Vm.crashL l ks = pre ++ Vm.crashL (l.drop k) (ks.drop j)
def CrRel (w : World) (ok : Nat → Prop) (m : AS) (ks : List Int) (v0 : Value) (n : Nat) (u at_ i : Value) (wr : World) : Prop :=
  ∃ (k j : Nat) (pre : List AF), k ≤ n ∧ i = .int .i64 k ∧ at_ = .int .i64 j ∧ CrInv m.fl ks k j pre ∧ Kd.N kF 104 wr w.heap.size (okN ok w.heap.size (CG w.heap.size)) u pre ∧ CrB w m v0 wr
section
variable {w : World} {ok : Nat → Prop} {m : AS} {n c : Nat} {A : Option Addr} {ks : List Int}
theorem crash_start (W : World) (hW : W = (w.alloc (.cells #[.slice A n c, .int .i64 m.most, .int .i64 0, .bool false] 50)).alloc (.cells #[.slice none 0 0, .int .i64 0, .int .i64 0, .bool false] 50)) :
    CrRel w ok m ks (.slice A n c) n (.slice (some ⟨w.heap.size + 2, 0, none⟩) 0 0) (.int .i64 0) (.int .i64 0) (W.alloc (.cells #[] 104)) := by
  subst hW
  have b1 := below_alloc (Below.refl w.heap.size w) (.cells #[.slice A n c, .int .i64 m.most, .int .i64 0, .bool false] 50)
  have s1 : (w.alloc (.cells #[.slice A n c, .int .i64 m.most, .int .i64 0, .bool false] 50)).heap.size = w.heap.size + 1 := by simp
  have h1 := blk_new w (.cells #[.slice A n c, .int .i64 m.most, .int .i64 0, .bool false] 50)
  generalize w.alloc (.cells #[.slice A n c, .int .i64 m.most, .int .i64 0, .bool false] 50) = w1 at *
  have b2 := below_alloc b1 (.cells #[.slice none 0 0, .int .i64 0, .int .i64 0, .bool false] 50)
  have s2 : (w1.alloc (.cells #[.slice none 0 0, .int .i64 0, .int .i64 0, .bool false] 50)).heap.size = w.heap.size + 2 := by simp [s1]
  have h2 := blk_new w1 (.cells #[.slice none 0 0, .int .i64 0, .int .i64 0, .bool false] 50)
  rw [s1] at h2
  replace h1 := blk_alloc h1 (.cells #[.slice none 0 0, .int .i64 0, .int .i64 0, .bool false] 50)
  generalize w1.alloc (.cells #[.slice none 0 0, .int .i64 0, .int .i64 0, .bool false] 50) = w2 at *
  have hN := N_lit0 kF 104 w.heap.size w2 (okN ok w.heap.size (CG w.heap.size)) (by rw [s2]; exact .inr ⟨by omega, by unfold CG; omega⟩) b2.size
  rw [s2] at hN
  exact ⟨0, 0, [], Nat.zero_le _, rfl, rfl, ⟨rfl, Nat.zero_le _, rfl⟩, hN, blk_alloc h1 _, blk_alloc h2 _, below_alloc b2 _⟩
theorem crash_end {u : Value} {xs : List AF} {wr : World} {v0 : Value} (hN : Kd.N kF 104 wr w.heap.size (okN ok w.heap.size (CG w.heap.size)) u xs) (hW : CrB w m v0 wr) :
    (((((wr.setCell ⟨w.heap.size, 0, none⟩ u).setCell ⟨w.heap.size + 1, 0, none⟩ u).setCell ⟨w.heap.size + 1, 1, none⟩ (.int .i64 m.most)).setCell ⟨w.heap.size + 1, 2, none⟩ (.int .i64 0)).setCell ⟨w.heap.size + 1, 3, none⟩ (.bool false)).heap[w.heap.size + 1]? = some (.cells #[u, .int .i64 m.most, .int .i64 0, .bool false] 50 (0, 0)) ∧
    RefTo w ok xs u (((((wr.setCell ⟨w.heap.size, 0, none⟩ u).setCell ⟨w.heap.size + 1, 0, none⟩ u).setCell ⟨w.heap.size + 1, 1, none⟩ (.int .i64 m.most)).setCell ⟨w.heap.size + 1, 2, none⟩ (.int .i64 0)).setCell ⟨w.heap.size + 1, 3, none⟩ (.bool false)) := by
  have K1 := Keeps.set wr w.heap.size 0 u
  have K2 := keeps_set4 (wr.setCell ⟨w.heap.size, 0, none⟩ u) (w.heap.size + 1) u (.int .i64 m.most) (.int .i64 0) (.bool false)
  have hK : Keeps (CG w.heap.size) wr _ := (K1.mono (fun _ h => .inl h)).trans (K2.mono (fun _ h => .inr h))
  refine ⟨blk_set4 (blk_far hW.h2 (by simp) _) _ _ _ _, Kd.V_mono (Kd.N_V (N_keeps hN hK ?_)) okN_to, hW.bl.trans (hK.below (fun b hb => by unfold CG at hb; omega) hW.bl.size)⟩
  rintro b (hb | hb) hb2
  · unfold CG at hb2; omega
  · exact hb.2 hb2

set_option maxRecDepth 100000 in
set_option maxHeartbeats 8000000 in
theorem ref_crash {v : Value} (h : RefAt w ok m.fl v) {K : Option Addr} {ck : Nat} (ks : List Int) (hK : (Kd.int .i64).C w K ks.length ks) (hck : ks.length ≤ ck) (hl : m.fl.length ≤ 1099511627776) (hok : ∀ f ∈ m.fl, f.safe ≤ f.bs.length ∧ f.bs.length ≤ 140737488355328) :
    Calls Try.prog 29 #[fsV m v, .slice K ks.length ck] w fun e w' => ∃ v', e = .returned (fsV (Vm.crash m ks) v') ∧ RefTo w ok (Vm.crash m ks).fl v' w' := by
  obtain ⟨A, c, rfl, hc⟩ := h.slice
  obtain ⟨n, hn⟩ : ∃ n, m.fl.length = n := ⟨_, rfl⟩
  have HP := Aside0.mk (show RefAt w (fun b => ok b ∧ b < w.heap.size) m.fl _ from Kd.V_bound h)
  have HK := Aside0.mk hK
  have HO := Aside0.mk hok
  have hkl : ks.length ≤ 9223372036854775807 := hK.2.1
  rw [hn] at hl hc
  unfold fsV
  have HN := Aside0.mk hn
  rw [hn]
  have R0 := Aside0.mk (crash_start (w := w) (ok := ok) (m := m) (n := n) (c := c) (A := A) (ks := ks))
  obtain ⟨lk, hlk⟩ : ∃ lk, ks.length = lk := ⟨_, rfl⟩
  rw [hlk] at HK hck hkl ⊢
  have HLK := Aside0.mk hlk
  clear h hn hok hK hlk
  go_enter Try.func29, Try.ntmps29
  go_wp2
  go_loopw [5, 6, 7] (fun u a i wr => Aside0 (CrRel w ok m ks (.slice A n c) n u a i wr)) (fun _ _ i _ => n - (intOf i).toNat)
  case atStart => exact ⟨R0.out _ rfl⟩
  case round =>
    obtain ⟨⟨k, j, pre, hk, rfl, rfl, hI, hN, hW⟩⟩ := hrel
    clear R0
    have g1 : w.heap.size ≤ wr.heap.size := hW.bl.size
    by_cases hlt : k < n
    · have hkl : k < m.fl.length := by have := HN.out; omega
      have hv : RefAt wr (fun b => ok b ∧ b < w.heap.size) m.fl (.slice A m.fl.length c) := by have := HP.out; exact this.below hW.bl
      obtain ⟨ad, B, cb, rfl, hF⟩ := hv.at_ k hkl
      have p0 := hF.c0
      have p1 := hF.c1
      have p2 := hF.c2
      have hBV := Aside0.mk hF.bv
      have hcb := hF.bv.C.2
      have hos := HO.out m.fl[k] (List.getElem_mem _)
      have q0 : wr.cell? ⟨w.heap.size, 0, none⟩ = some (.slice (some ad) n c) := blk_cell hW.h1 0
      have hkn : (k : Int) < n := by omega
      have HL : Aside0 (pre.length < 2199023255552) := ⟨by have := hI.1; omega⟩
      have HW := Aside0.mk hW
      have HNN := Aside0.mk hN
      obtain ⟨ho1, ho2⟩ := hos
      by_cases he : m.fl[k].bs.length = m.fl[k].safe
      · have hst := crashL_same (ks.drop j) k hkl he
        have HX : Aside0 (CrInv m.fl ks (k + 1) j (pre ++ [m.fl[k]])) := ⟨by have := hI.1; simp; omega, by have := hI.2.1; omega, by rw [hI.2.2, hst]; simp⟩
        have hle : ¬ (m.fl[k].bs.length : Int) - m.fl[k].safe > 0 := by omega
        have HE := Aside0.mk he
        clear hI hW hN hF hv HP HO hst he HK
        generalize m.fl[k] = f at *
        have HB1 := Aside0.mk (below_alloc (Below.refl wr.heap.size wr) (.cells #[.string f.nm, .slice B f.bs.length cb, .int .i64 f.safe] 104))
        have HW1 := Aside0.mk (HW.out.below HB1.out)
        have HN1 := Aside0.mk (Kd.N_below HNN.out HB1.out)
        have HV1 := Aside0.mk (Kd.V_below hBV.out HB1.out)
        go_wp2_with (at_builtin; refine append_file (w0 := w) rfl (.tmp 58) (.tmp 60) rfl u5 pre f B cb (okN ok w.heap.size (CG w.heap.size)) (fun b => ok b ∧ b < w.heap.size) rfl (by simp [Act.eval]) HV1.out (in_okN HNN.out) HW1.out.fresh HN1.out HW1.out.bl HL.out ?_)
        intro v1 w1 hN1 hB1 hg1
        have NX : Aside0 (CrRel w ok m ks (.slice (some ad) n c) n v1 (.int .i64 j) (.int .i64 (k + 1)) w1) := ⟨⟨k + 1, j, _, by omega, rfl, rfl, HX.out, hN1, HW1.out.grown HN1.out hg1 hB1⟩⟩
        clear hN1 hB1 hg1 HNN HW HX HL HB1 HW1 HN1 HV1 g1 p0 p1 p2 q0
        go_wp2
        go_roundw
        case rel => exact NX
        case measure => simp [intOf]; omega
      · obtain ⟨r, hr, hrle, hst⟩ := crashL_torn ks k j hkl he ho1
        have HX : Aside0 (CrInv m.fl ks (k + 1) (j + 1) (pre ++ [torn m.fl[k] (m.fl[k].safe + r)])) := ⟨by have := hI.1; simp; omega, by have := hI.2.1; omega, by rw [hI.2.2, hst]; simp⟩
        have hgt : (m.fl[k].bs.length : Int) - m.fl[k].safe > 0 := by omega
        have hdf : 0 ≤ (m.fl[k].bs.length : Int) - m.fl[k].safe := by omega
        have hcut := hF.bv.take hrle
        have htl : (m.fl[k].bs.take (m.fl[k].safe + r)).length = m.fl[k].safe + r := by rw [List.length_take]; omega
        have HB1 := Aside0.mk (below_alloc (Below.refl wr.heap.size wr) (.cells #[.string m.fl[k].nm, .slice B (m.fl[k].safe + r) cb, .int .i64 ((m.fl[k].safe + r : Nat) : Int)] 104))
        have HV1 := Aside0.mk (Kd.V_below hcut HB1.out)
        have HW1 := Aside0.mk (HW.out.below HB1.out)
        have HN1 := Aside0.mk (Kd.N_below HNN.out HB1.out)
        have HT := Aside0.mk htl
        have hks : (Kd.int .i64).C wr K lk ks := Kd.C_below HK.out hW.bl
        have hjk : j ≤ k := hI.2.1
        have hrl : (r : Int) ≤ m.fl[k].bs.length := by omega
        have hrl2 : (m.fl[k].safe : Int) + r ≤ cb := by omega
        have HR := Aside0.mk hr
        clear hI hW hN hF hv HP HO hst he HK hcut htl hr hBV
        generalize m.fl[k] = f at *
        obtain ⟨S, hS⟩ : ∃ S, f.safe = S := ⟨_, rfl⟩
        obtain ⟨L, hL⟩ : ∃ L, f.bs.length = L := ⟨_, rfl⟩
        have HS := Aside0.mk hS
        have HLL := Aside0.mk hL
        rw [hS] at HX HB1 HV1 HW1 HN1 HT ho1 hrle hgt hdf hrl2 HR p2
        rw [hL] at HR ho1 ho2 hrle hgt hdf hrl p1
        clear hS hL
        by_cases hj : j < lk
        · have hjl : (j : Int) < lk := by omega
          obtain ⟨ka, rfl, hkc⟩ := Kd.at_int hks (j : Int) (by omega) (by omega)
          rw [Int.toNat_natCast] at hkc
          have ex : rd ks (j : Int) = ks.getD j 0 := by unfold rd; simp
          rw [ex] at hkc
          have hkc' := pw_cell_below (below_alloc (Below.refl wr.heap.size wr) (.cells #[.string f.nm, .slice B L cb, .int .i64 S] 104)) hkc
          have HBt := Aside0.mk (fun w => between_calls (ks.getD j 0) ((L : Int) - S) w hdf HR.out)
          clear hks ex
          generalize ks.getD j 0 = kj at *
          go_wp2_with fail
          refine (HBt.out _).mono ?_
          rintro e w1 ⟨rfl, rfl⟩
          clear HBt
          go_wp2_with (at_builtin; refine append_file_ (w0 := w) rfl (.tmp 58) (.tmp 60) rfl u5 pre (torn f (S + r)) B cb (okN ok w.heap.size (CG w.heap.size)) (fun b => ok b ∧ b < w.heap.size) f.nm (S + r) (S + r) rfl (by simp [Act.eval]) HV1.out (in_okN HNN.out) HW1.out.fresh HN1.out HW1.out.bl HL.out rfl HT.out rfl ?_)
          intro v1 w1 hN1 hB1 hg1
          have NX : Aside0 (CrRel w ok m ks (.slice (some ad) n c) n v1 (.int .i64 (j + 1)) (.int .i64 (k + 1)) w1) := ⟨⟨k + 1, j + 1, _, by omega, rfl, rfl, HX.out, hN1, HW1.out.grown HN1.out hg1 hB1⟩⟩
          clear hN1 hB1 hg1 HNN HW HX HL HB1 HW1 HN1 HV1 g1 p0 p1 p2 q0 HT HR HS HLL
          go_wp2
          go_roundw
          case rel => exact NX
          case measure => simp [intOf]; omega
        · have hjl : ¬ (j : Int) < lk := by omega
          have hr0 : r = 0 := by
            have := HR.out
            rw [List.getD_eq_getElem?_getD, List.getElem?_eq_none (by have := HLK.out; omega)] at this
            simp at this
            omega
          subst hr0
          clear hks
          simp only [Nat.add_zero] at HX HB1 HV1 HW1 HN1 HT
          go_wp2_with (at_builtin; refine append_file_ (w0 := w) rfl (.tmp 58) (.tmp 60) rfl u5 pre (torn f S) B cb (okN ok w.heap.size (CG w.heap.size)) (fun b => ok b ∧ b < w.heap.size) f.nm S S rfl (by simp [Act.eval]) HV1.out (in_okN HNN.out) HW1.out.fresh HN1.out HW1.out.bl HL.out rfl HT.out rfl ?_)
          intro v1 w1 hN1 hB1 hg1
          have NX : Aside0 (CrRel w ok m ks (.slice (some ad) n c) n v1 (.int .i64 (j + 1)) (.int .i64 (k + 1)) w1) := ⟨⟨k + 1, j + 1, _, by omega, rfl, rfl, HX.out, hN1, HW1.out.grown HN1.out hg1 hB1⟩⟩
          clear hN1 hB1 hg1 HNN HW HX HL HB1 HW1 HN1 HV1 g1 p0 p1 p2 q0 HT HR HS HLL
          go_wp2
          go_roundw
          case rel => exact NX
          case measure => simp [intOf]; omega
    · have hkn : ¬ (k : Int) < n := by omega
      have hke : k = m.fl.length := by have := HN.out; omega
      subst hke
      have e : Vm.crashL m.fl ks = pre := by rw [hI.2.2, List.drop_length]; simp [Vm.crashL]
      have HE := Aside0.mk (crash_end hN hW)
      obtain ⟨Au, cu, rfl⟩ := Kd.N_slice hN
      have q0 : wr.cell? ⟨w.heap.size, 0, none⟩ = some (.slice A n c) := blk_cell hW.h1 0
      have q1 : wr.cell? ⟨w.heap.size, 1, none⟩ = some (.int .i64 m.most) := blk_cell hW.h1 1
      have q2 : wr.cell? ⟨w.heap.size, 2, none⟩ = some (.int .i64 0) := blk_cell hW.h1 2
      have q3 : wr.cell? ⟨w.heap.size, 3, none⟩ = some (.bool false) := blk_cell hW.h1 3
      have f0 := blk_frozen hW.h1 0
      have r0 : wr.cell? ⟨w.heap.size + 1, 0, none⟩ = some (.slice none 0 0) := blk_cell hW.h2 0
      have r1 : wr.cell? ⟨w.heap.size + 1, 1, none⟩ = some (.int .i64 0) := blk_cell hW.h2 1
      have r2 : wr.cell? ⟨w.heap.size + 1, 2, none⟩ = some (.int .i64 0) := blk_cell hW.h2 2
      have r3 : wr.cell? ⟨w.heap.size + 1, 3, none⟩ = some (.bool false) := blk_cell hW.h2 3
      have t0 := blk_frozen hW.h2 0
      have t1 := blk_frozen hW.h2 1
      have t2 := blk_frozen hW.h2 2
      have t3 := blk_frozen hW.h2 3
      have E := Aside0.mk e
      clear hI hW hN HP HK HO e
      go_wp2
      refine bodyPost_ret (results_cell_row rfl _ _ (w.heap.size + 1) 50 #[.slice Au pre.length cu, .int .i64 m.most, .int .i64 0, .bool false] (0, 0) _ rfl HE.out.1 Try.underlying50 rfl (by kernel_rfl)) rfl ⟨_, rfl, ?_⟩
      show RefTo w ok (Vm.crashL m.fl ks) _ _
      rw [E.out]
      exact HE.out.2
end
end Go.Proofs.Ythjdgiobchiloaa
