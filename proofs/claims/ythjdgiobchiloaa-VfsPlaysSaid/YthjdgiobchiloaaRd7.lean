/-
  What is proved: Do of colloquyref07: Rename.
  What is proved: Do of colloquyref07: Append.
-/
import Derived.Test.YthjdgiobchiloaaRd2
import Derived.Test.YthjdgiobchiloaaFs3
namespace Go.Proofs.Ythjdgiobchiloaa
open Go.RowKit Go.Proofs.YthjdgiobchiloaaW.PrintWords
set_option linter.unusedVariables false
set_option linter.unusedSimpArgs false
section
variable {w : World} {ok : Nat → Prop} {v : Value} {B : Option Addr} {cb : Nat} {f : AF} {fl : List AF} {most fuse : Int} {a z : ByteArray} {nn : Int} {b keep : List Int} {N : Nat}

/-- The value in the disk's box turns, and its four fields. -/
theorem DoC.setV {ok' : Nat → Prop} {w wr : World} {m : AS} {v : Value} {o : OpM} {B : Option Addr} {cb g : Nat} {f : AF} {Bf : Option Addr} {cf : Nat} (h : DoC w (okB w ok') m v o B cb g f Bf cf wr) (fl' : List AF) (v' : Value) (most fuse : Int) (down : Bool) :
    DoC w (okB w ok') ⟨fl', most, fuse, down⟩ v' o B cb g f Bf cf ((((wr.setCell ⟨w.heap.size, 0, none⟩ v').setCell ⟨w.heap.size, 1, none⟩ (.int .i64 most)).setCell ⟨w.heap.size, 2, none⟩ (.int .i64 fuse)).setCell ⟨w.heap.size, 3, none⟩ (.bool down)) := by
  have K := keeps_set4 wr w.heap.size v' (.int .i64 most) (.int .i64 fuse) (.bool down)
  have hg := h.gl
  exact ⟨⟨blk_set4 h.b.h1 _ _ _ _, K.blk h.b.h2 (by omega), K.blk h.b.h3 (by omega), h.b.bl.trans (K.below (fun b hb => by omega) h.b.bl.size), Nat.le_trans h.b.sz K.size⟩, K.blk h.hf (by omega), hg, V_keeps h.bv K (fun k hk he => by have := hk.2; omega)⟩
/-- without, where Do calls it, what was there still there. -/
theorem DoC.without2 {wr : World} {fuse : Int} {down : Bool} {o : OpM} {g : Nat} {Bf : Option Addr} {cf : Nat} (h : DoC w (okB w ok) ⟨fl, most, fuse, down⟩ v o B cb g f Bf cf wr) (hv : RefAt w ok fl v) {nm : ByteArray} (hl : fl.length ≤ 1099511627770) : Calls Try.prog 65 #[.agg #[v, .int .i64 most, .int .i64 fuse, .bool down], .string nm] wr
    fun e w' => ∃ A c, e = .returned (.agg #[.slice A (Vm.rm fl nm).length c, .int .i64 most, .int .i64 fuse, .bool down]) ∧ RefAt w' (fun k => okB w ok k ∨ wr.heap.size ≤ k) (Vm.rm fl nm) (.slice A (Vm.rm fl nm).length c) ∧ DoC w (okB w ok) ⟨fl, most, fuse, down⟩ v o B cb g f Bf cf w' := by
  have hv' : RefAt wr (okB w ok) fl v := Kd.V_below (Kd.V_bound hv) h.b.bl
  refine (ref_without (m := ⟨fl, most, fuse, down⟩) hv' nm (by simp only; omega)).mono ?_
  rintro e w' ⟨v', rfl, h1, h2⟩
  obtain ⟨A, c, rfl, _⟩ := h1.slice
  exact ⟨A, c, rfl, h1, h.below h2⟩
/-- With, of files that are partly new. -/
theorem DoB.with2 {wr : World} {N : Nat} {fuse : Int} {down : Bool} {o : OpM} {Bf : Option Addr} {cf : Nat} (h : DoB w ⟨fl, most, fuse, down⟩ v o B cb wr) (hv : RefAt wr (fun k => okB w ok k ∨ N ≤ k) fl v) (hB : BV wr (fun k => okB w ok k ∨ N ≤ k) Bf cf f.bs) (hN : w.heap.size + 3 ≤ N) (hs : Sorted fl) (hl : fl.length ≤ 1099511627770) {L : Nat} (hL : f.bs.length = L) : Calls Try.prog 66 #[.agg #[v, .int .i64 most, .int .i64 fuse, .bool down], .agg #[.string f.nm, .slice Bf L cf, .int .i64 f.safe]] wr
    fun e w' => ∃ A c, e = .returned (.agg #[.slice A (Vm.ins f (Vm.rm fl f.nm)).length c, .int .i64 most, .int .i64 fuse, .bool down]) ∧ RefAt w' (fun k => okB w ok k ∨ w.heap.size + 3 ≤ k) (Vm.ins f (Vm.rm fl f.nm)) (.slice A (Vm.ins f (Vm.rm fl f.nm)).length c) ∧ w'.heap[w.heap.size + 2]? = some (.cells #[.slice none 0 0, .int .i64 0, .int .i64 0, .bool false] 50 (0, 0)) ∧ Below w.heap.size w w' := by
  subst hL
  refine (ref_with (m := ⟨fl, most, fuse, down⟩) hv hs f hB (by simp only; omega)).mono ?_
  rintro e w' ⟨v', rfl, h1, h2⟩
  obtain ⟨A, c, rfl, _⟩ := h1.slice
  exact ⟨A, c, rfl, Kd.V_mono h1 (fun k hk => hk.elim (fun q => q.imp id (fun q => by omega)) (fun q => .inr (Nat.le_trans h.sz q))), blk_below h.h3 h2, below_then h.bl h.bl.size h2⟩
theorem Sorted.rm {l : List AF} (h : Sorted l) (nm : ByteArray) : Sorted (Vm.rm l nm) := List.Pairwise.filter _ h
set_option maxRecDepth 100000 in
set_option maxHeartbeats 4000000 in
theorem do_rename_off (h : DoIn w ok ⟨fl, most, 1, false⟩ v ⟨4, a, z, nn, b, keep⟩ B cb) {j : Nat} (hj : fl[j]? = some f) (hi : Vm.idx fl a 0 = j) (hn : Vm.named z = true) : Calls Try.prog 28 #[fsV ⟨fl, most, 1, false⟩ v, rop ⟨4, a, z, nn, b, keep⟩ B cb] w (DoTo w ok ⟨fl, most, 0, true⟩ 70) := by
  obtain ⟨A, c, rfl, hc⟩ := h.h.slice; obtain ⟨ad, Bf, cf, rfl, HFc⟩ := h.file rfl hj; have FD := Aside0.mk h.find; have HH := Aside0.mk h; unfold fsV W3 at FD; simp only at *; rw [hi] at FD; have HFC := Aside0.mk (FileCells.mk HFc.c0 HFc.c1 HFc.c2 (show BV w (okB w ok) Bf cf f.bs from Kd.V_bound HFc.bv)); have hjl : (j : Int) < fl.length := (by have := (List.getElem?_eq_some_iff.1 hj).1; omega); have hj0 : (0 : Int) ≤ j := Int.natCast_nonneg j; have hcf : (f.bs.length : Int) ≤ cf := (by have := HFc.bv.C.2; omega); clear hj hi HFc
  have HNm := Aside0.mk (fun w => ref_named z w HH.out.hz hn)
  clear hn
  unfold fsV rop; simp only; clear h; go_enter Try.func28, Try.ntmps28; go_wp2_with fail; refine FD.out.mono ?_; rintro e w1 ⟨rfl, hdb⟩; have DB := Aside0.mk hdb; clear hdb FD
  obtain ⟨⟨q0, q1, q2, q3⟩, ⟨o0, o1, o2, o3, o4⟩, ⟨r0, r1, r2, r3⟩, fz, tz⟩ := DB.out.cells; have f0 := fz 0; have f1 := fz 1; have f2 := fz 2; have f3 := fz 3; have t0 := tz 0; have t1 := tz 1; have t2 := tz 2; have t3 := tz 3; clear fz tz; simp only at q0 q1 q2 q3 o0 o1 o2 o3 o4
  have hF := HFC.out.below DB.out.bl; have hA := below_alloc (Below.refl w1.heap.size w1) (.cells #[.string a, .slice none 0 0, .int .i64 0] 104); have p0 := pw_cell_below hA hF.c0; have p1 := pw_cell_below hA hF.c1; have p2 := pw_cell_below hA hF.c2; have q0a := pw_cell_below hA q0; clear hA; have DC := Aside0.mk (DoC.start DB.out hF.bv); clear hF HFC; have hsz := DB.out.sz; have ne0 : ¬ w.heap.size = w1.heap.size := (by omega); have ne1 : ¬ w.heap.size + 1 = w1.heap.size := (by omega); have ne2 : ¬ w.heap.size + 2 = w1.heap.size := (by omega); have ne0' : ¬ w1.heap.size = w.heap.size := (by omega); have ne1' : ¬ w1.heap.size = w.heap.size + 1 := (by omega); have ne2' : ¬ w1.heap.size = w.heap.size + 2 := (by omega); clear hsz
  obtain ⟨⟨q0', q1', q2', q3'⟩, ⟨o0', o1', o2', o3', o4'⟩, ⟨r0', r1', r2', r3'⟩, fz, tz⟩ := DC.out.b.cells; have f0' := fz 0; have f1' := fz 1; have f2' := fz 2; have f3' := fz 3; have t0' := tz 0; have t1' := tz 1; have t2' := tz 2; have t3' := tz 3; clear fz tz; simp only at q0' q1' q2' q3' o0' o1' o2' o3' o4'
  go_wp2_with (go_at_call 63; refine (HNm.out _).mono ?_; rintro e w2 ⟨rfl, rfl⟩)
  go_quiet (fail)
  have E : Aside0 (∀ q, _) := ⟨fun q => do_off (ok := ok) HH.out.h (DC.out.drewN q).b⟩; clear HH DB DC; go_wp2; refine bodyPost_ret (results_ct rfl _ _ (w.heap.size + 2) 50 _ (0, 0) _ rfl (E.out _).1 Try.underlying50 rfl (by kernel_rfl)) rfl ⟨_, rfl, (E.out _).2⟩
set_option maxRecDepth 100000 in
set_option maxHeartbeats 4000000 in
theorem do_rename_zero (h : DoIn w ok ⟨fl, most, 0, false⟩ v ⟨4, a, z, nn, b, keep⟩ B cb) {j : Nat} (hj : fl[j]? = some f) (hi : Vm.idx fl a 0 = j) (hn : Vm.named z = true) : Calls Try.prog 28 #[fsV ⟨fl, most, 0, false⟩ v, rop ⟨4, a, z, nn, b, keep⟩ B cb] w (DoTo w ok ⟨Vm.ins { f with nm := z } (Vm.rm (Vm.rm fl a) z), most, 0, false⟩ 0) := by
  obtain ⟨A, c, rfl, hc⟩ := h.h.slice; obtain ⟨ad, Bf, cf, rfl, HFc⟩ := h.file rfl hj; have FD := Aside0.mk h.find; have HH := Aside0.mk h; unfold fsV W3 at FD; simp only at *; rw [hi] at FD; have HFC := Aside0.mk (FileCells.mk HFc.c0 HFc.c1 HFc.c2 (show BV w (okB w ok) Bf cf f.bs from Kd.V_bound HFc.bv)); have hjl : (j : Int) < fl.length := (by have := (List.getElem?_eq_some_iff.1 hj).1; omega); have hj0 : (0 : Int) ≤ j := Int.natCast_nonneg j; have hcf : (f.bs.length : Int) ≤ cf := (by have := HFc.bv.C.2; omega); clear hj hi HFc
  have HNm := Aside0.mk (fun w => ref_named z w HH.out.hz hn)
  clear hn
  unfold fsV rop; simp only; clear h; go_enter Try.func28, Try.ntmps28; go_wp2_with fail; refine FD.out.mono ?_; rintro e w1 ⟨rfl, hdb⟩; have DB := Aside0.mk hdb; clear hdb FD
  obtain ⟨⟨q0, q1, q2, q3⟩, ⟨o0, o1, o2, o3, o4⟩, ⟨r0, r1, r2, r3⟩, fz, tz⟩ := DB.out.cells; have f0 := fz 0; have f1 := fz 1; have f2 := fz 2; have f3 := fz 3; have t0 := tz 0; have t1 := tz 1; have t2 := tz 2; have t3 := tz 3; clear fz tz; simp only at q0 q1 q2 q3 o0 o1 o2 o3 o4
  have hF := HFC.out.below DB.out.bl; have hA := below_alloc (Below.refl w1.heap.size w1) (.cells #[.string a, .slice none 0 0, .int .i64 0] 104); have p0 := pw_cell_below hA hF.c0; have p1 := pw_cell_below hA hF.c1; have p2 := pw_cell_below hA hF.c2; have q0a := pw_cell_below hA q0; clear hA; have DC := Aside0.mk (DoC.start DB.out hF.bv); clear hF HFC; have hsz := DB.out.sz; have ne0 : ¬ w.heap.size = w1.heap.size := (by omega); have ne1 : ¬ w.heap.size + 1 = w1.heap.size := (by omega); have ne2 : ¬ w.heap.size + 2 = w1.heap.size := (by omega); have ne0' : ¬ w1.heap.size = w.heap.size := (by omega); have ne1' : ¬ w1.heap.size = w.heap.size + 1 := (by omega); have ne2' : ¬ w1.heap.size = w.heap.size + 2 := (by omega); clear hsz
  obtain ⟨⟨q0', q1', q2', q3'⟩, ⟨o0', o1', o2', o3', o4'⟩, ⟨r0', r1', r2', r3'⟩, fz, tz⟩ := DC.out.b.cells; have f0' := fz 0; have f1' := fz 1; have f2' := fz 2; have f3' := fz 3; have t0' := tz 0; have t1' := tz 1; have t2' := tz 2; have t3' := tz 3; clear fz tz; simp only at q0' q1' q2' q3' o0' o1' o2' o3' o4'
  go_wp2_with (go_at_call 63; refine (HNm.out _).mono ?_; rintro e w2 ⟨rfl, rfl⟩)
  go_quiet (fail)
  go_wp2_with fail
  refine ((DC.out.drewN nq).without2 HH.out.h HH.out.hl).mono ?_
  rintro e w3 ⟨Ar0, cr0, rfl, hR0, hDX⟩
  have DX := Aside0.mk hDX
  have SZ := Aside0.mk ((DC.out.drewN nq).b.sz)
  have GL := Aside0.mk ((DC.out.drewN nq).gl)
  have GB := Aside0.mk (blk_lt ((DC.out.drewN nq).hf))
  have RX := Aside0.mk hR0
  clear hDX hR0 q0 q1 q2 q3 o0 o1 o2 o3 o4 r0 r1 r2 r3 f0 f1 f2 f3 t0 t1 t2 t3 q0' q1' q2' q3' o0' o1' o2' o3' o4' r0' r1' r2' r3' f0' f1' f2' f3' t0' t1' t2' t3' p0 p1 p2 q0a
  obtain ⟨⟨q0'', q1'', q2'', q3''⟩, ⟨o0'', o1'', o2'', o3'', o4''⟩, ⟨r0'', r1'', r2'', r3''⟩, fz, tz⟩ := DX.out.b.cells; have f0'' := fz 0; have f1'' := fz 1; have f2'' := fz 2; have f3'' := fz 3; have t0'' := tz 0; have t1'' := tz 1; have t2'' := tz 2; have t3'' := tz 3; clear fz tz; simp only at q0'' q1'' q2'' q3'' o0'' o1'' o2'' o3'' o4''; obtain ⟨x0, x1, x2, xz⟩ := DX.out.cells; have xf0 := xz 0; have xf1 := xz 1; have xf2 := xz 2; clear xz
  go_wp2_with fail
  have DY := (DX.out.setV (Vm.rm fl a) (.slice Ar0 (Vm.rm fl a).length cr0) most 0 false)
  have RY := V_keeps (V_keeps RX.out (keeps_set4 w3 w.heap.size (.slice Ar0 (Vm.rm fl a).length cr0) (.int .i64 most) (.int .i64 0) (.bool false)) (fun k hk he => by have := GL.out; have := GB.out; have := SZ.out; rcases hk with hk | hk; (have := hk.2; omega); omega)) (Keeps.set _ w1.heap.size 0 (.string z)) (fun k hk he => by have := GL.out; have := GB.out; have := SZ.out; rcases hk with hk | hk; (have := hk.2; omega); omega)
  have DZ := DY.name z
  refine (DZ.b.with2 RY (Kd.V_mono DZ.bv (fun k hk => .inl hk)) SZ.out (HH.out.hs.rm a) (by have := rm_len fl a; have := HH.out.hl; simp only at this ⊢; omega) rfl).mono ?_
  clear q0'' q1'' q2'' q3'' o0'' o1'' o2'' o3'' o4'' r0'' r1'' r2'' r3'' f0'' f1'' f2'' f3'' t0'' t1'' t2'' t3'' x0 x1 x2 xf0 xf1 xf2 DY RY DZ
  rintro e w3 ⟨Ar, cr, rfl, hR, h3, hb3⟩; have r0 : w3.cell? ⟨w.heap.size + 2, 0, none⟩ = some (.slice none 0 0) := blk_cell h3 0; have r1 : w3.cell? ⟨w.heap.size + 2, 1, none⟩ = some (.int .i64 0) := blk_cell h3 1; have r2 : w3.cell? ⟨w.heap.size + 2, 2, none⟩ = some (.int .i64 0) := blk_cell h3 2; have r3 : w3.cell? ⟨w.heap.size + 2, 3, none⟩ = some (.bool false) := blk_cell h3 3; have t0 := blk_frozen h3 0; have t1 := blk_frozen h3 1; have t2 := blk_frozen h3 2; have t3 := blk_frozen h3 3; have E := Aside0.mk (fun most fuse down => do_end (most := most) (fuse := fuse) (down := down) h3 hb3 hR); clear hR h3 hb3; go_wp2; refine bodyPost_ret (results_ct rfl _ _ (w.heap.size + 2) 50 _ (0, 0) _ rfl (E.out _ _ _).1 Try.underlying50 rfl (by kernel_rfl)) rfl ⟨_, rfl, (E.out _ _ _).2⟩
set_option maxRecDepth 100000 in
set_option maxHeartbeats 4000000 in
theorem do_rename_dec (h : DoIn w ok ⟨fl, most, fuse, false⟩ v ⟨4, a, z, nn, b, keep⟩ B cb) {j : Nat} (hj : fl[j]? = some f) (hi : Vm.idx fl a 0 = j) (hn : Vm.named z = true) (hf : 1 < fuse) : Calls Try.prog 28 #[fsV ⟨fl, most, fuse, false⟩ v, rop ⟨4, a, z, nn, b, keep⟩ B cb] w (DoTo w ok ⟨Vm.ins { f with nm := z } (Vm.rm (Vm.rm fl a) z), most, (fuse - 1), false⟩ 0) := by
  obtain ⟨A, c, rfl, hc⟩ := h.h.slice; obtain ⟨ad, Bf, cf, rfl, HFc⟩ := h.file rfl hj; have FD := Aside0.mk h.find; have HH := Aside0.mk h; unfold fsV W3 at FD; simp only at *; rw [hi] at FD; have HFC := Aside0.mk (FileCells.mk HFc.c0 HFc.c1 HFc.c2 (show BV w (okB w ok) Bf cf f.bs from Kd.V_bound HFc.bv)); have hjl : (j : Int) < fl.length := (by have := (List.getElem?_eq_some_iff.1 hj).1; omega); have hj0 : (0 : Int) ≤ j := Int.natCast_nonneg j; have hcf : (f.bs.length : Int) ≤ cf := (by have := HFc.bv.C.2; omega); clear hj hi HFc
  have hf1 : fuse ≤ 9223372036854775807 := HH.out.hf1
  have hfz : (fuse - 1 == 0) = false := beq_eq_false_iff_ne.2 (by omega)
  have hfg : fuse > 0 := by omega
  have HNm := Aside0.mk (fun w => ref_named z w HH.out.hz hn)
  clear hn
  unfold fsV rop; simp only; clear h; go_enter Try.func28, Try.ntmps28; go_wp2_with fail; refine FD.out.mono ?_; rintro e w1 ⟨rfl, hdb⟩; have DB := Aside0.mk hdb; clear hdb FD
  obtain ⟨⟨q0, q1, q2, q3⟩, ⟨o0, o1, o2, o3, o4⟩, ⟨r0, r1, r2, r3⟩, fz, tz⟩ := DB.out.cells; have f0 := fz 0; have f1 := fz 1; have f2 := fz 2; have f3 := fz 3; have t0 := tz 0; have t1 := tz 1; have t2 := tz 2; have t3 := tz 3; clear fz tz; simp only at q0 q1 q2 q3 o0 o1 o2 o3 o4
  have hF := HFC.out.below DB.out.bl; have hA := below_alloc (Below.refl w1.heap.size w1) (.cells #[.string a, .slice none 0 0, .int .i64 0] 104); have p0 := pw_cell_below hA hF.c0; have p1 := pw_cell_below hA hF.c1; have p2 := pw_cell_below hA hF.c2; have q0a := pw_cell_below hA q0; clear hA; have DC := Aside0.mk (DoC.start DB.out hF.bv); clear hF HFC; have hsz := DB.out.sz; have ne0 : ¬ w.heap.size = w1.heap.size := (by omega); have ne1 : ¬ w.heap.size + 1 = w1.heap.size := (by omega); have ne2 : ¬ w.heap.size + 2 = w1.heap.size := (by omega); have ne0' : ¬ w1.heap.size = w.heap.size := (by omega); have ne1' : ¬ w1.heap.size = w.heap.size + 1 := (by omega); have ne2' : ¬ w1.heap.size = w.heap.size + 2 := (by omega); clear hsz
  obtain ⟨⟨q0', q1', q2', q3'⟩, ⟨o0', o1', o2', o3', o4'⟩, ⟨r0', r1', r2', r3'⟩, fz, tz⟩ := DC.out.b.cells; have f0' := fz 0; have f1' := fz 1; have f2' := fz 2; have f3' := fz 3; have t0' := tz 0; have t1' := tz 1; have t2' := tz 2; have t3' := tz 3; clear fz tz; simp only at q0' q1' q2' q3' o0' o1' o2' o3' o4'
  go_wp2_with (go_at_call 63; refine (HNm.out _).mono ?_; rintro e w2 ⟨rfl, rfl⟩)
  go_quiet (fail)
  go_wp2_with fail
  refine (((DC.out.drewN nq).setFuse (fuse - 1)).without2 HH.out.h HH.out.hl).mono ?_
  rintro e w3 ⟨Ar0, cr0, rfl, hR0, hDX⟩
  have DX := Aside0.mk hDX
  have SZ := Aside0.mk (((DC.out.drewN nq).setFuse (fuse - 1)).b.sz)
  have GL := Aside0.mk (((DC.out.drewN nq).setFuse (fuse - 1)).gl)
  have GB := Aside0.mk (blk_lt (((DC.out.drewN nq).setFuse (fuse - 1)).hf))
  have RX := Aside0.mk hR0
  clear hDX hR0 q0 q1 q2 q3 o0 o1 o2 o3 o4 r0 r1 r2 r3 f0 f1 f2 f3 t0 t1 t2 t3 q0' q1' q2' q3' o0' o1' o2' o3' o4' r0' r1' r2' r3' f0' f1' f2' f3' t0' t1' t2' t3' p0 p1 p2 q0a
  obtain ⟨⟨q0'', q1'', q2'', q3''⟩, ⟨o0'', o1'', o2'', o3'', o4''⟩, ⟨r0'', r1'', r2'', r3''⟩, fz, tz⟩ := DX.out.b.cells; have f0'' := fz 0; have f1'' := fz 1; have f2'' := fz 2; have f3'' := fz 3; have t0'' := tz 0; have t1'' := tz 1; have t2'' := tz 2; have t3'' := tz 3; clear fz tz; simp only at q0'' q1'' q2'' q3'' o0'' o1'' o2'' o3'' o4''; obtain ⟨x0, x1, x2, xz⟩ := DX.out.cells; have xf0 := xz 0; have xf1 := xz 1; have xf2 := xz 2; clear xz
  go_wp2_with fail
  have DY := (DX.out.setV (Vm.rm fl a) (.slice Ar0 (Vm.rm fl a).length cr0) most (fuse - 1) false)
  have RY := V_keeps (V_keeps RX.out (keeps_set4 w3 w.heap.size (.slice Ar0 (Vm.rm fl a).length cr0) (.int .i64 most) (.int .i64 (fuse - 1)) (.bool false)) (fun k hk he => by have := GL.out; have := GB.out; have := SZ.out; rcases hk with hk | hk; (have := hk.2; omega); omega)) (Keeps.set _ w1.heap.size 0 (.string z)) (fun k hk he => by have := GL.out; have := GB.out; have := SZ.out; rcases hk with hk | hk; (have := hk.2; omega); omega)
  have DZ := DY.name z
  refine (DZ.b.with2 RY (Kd.V_mono DZ.bv (fun k hk => .inl hk)) SZ.out (HH.out.hs.rm a) (by have := rm_len fl a; have := HH.out.hl; simp only at this ⊢; omega) rfl).mono ?_
  clear q0'' q1'' q2'' q3'' o0'' o1'' o2'' o3'' o4'' r0'' r1'' r2'' r3'' f0'' f1'' f2'' f3'' t0'' t1'' t2'' t3'' x0 x1 x2 xf0 xf1 xf2 DY RY DZ
  rintro e w3 ⟨Ar, cr, rfl, hR, h3, hb3⟩; have r0 : w3.cell? ⟨w.heap.size + 2, 0, none⟩ = some (.slice none 0 0) := blk_cell h3 0; have r1 : w3.cell? ⟨w.heap.size + 2, 1, none⟩ = some (.int .i64 0) := blk_cell h3 1; have r2 : w3.cell? ⟨w.heap.size + 2, 2, none⟩ = some (.int .i64 0) := blk_cell h3 2; have r3 : w3.cell? ⟨w.heap.size + 2, 3, none⟩ = some (.bool false) := blk_cell h3 3; have t0 := blk_frozen h3 0; have t1 := blk_frozen h3 1; have t2 := blk_frozen h3 2; have t3 := blk_frozen h3 3; have E := Aside0.mk (fun most fuse down => do_end (most := most) (fuse := fuse) (down := down) h3 hb3 hR); clear hR h3 hb3; go_wp2; refine bodyPost_ret (results_ct rfl _ _ (w.heap.size + 2) 50 _ (0, 0) _ rfl (E.out _ _ _).1 Try.underlying50 rfl (by kernel_rfl)) rfl ⟨_, rfl, (E.out _ _ _).2⟩
end

section
variable {w : World} {ok : Nat → Prop} {v : Value} {B : Option Addr} {cb : Nat} {f : AF} {fl : List AF} {most fuse : Int} {a z : ByteArray} {nn : Int} {b keep : List Int} {N : Nat}

theorem infoU8 : (Try.prog.info? 5).map (fun i => (i.zero, i.size, i.bytes)) = some (some (.int .u8 0), 1, 1) := by kernel_rfl
theorem bv_of_own {w : World} {base c n : Nat} {A : Option Addr} {xs : List Int} {okx : Nat → Prop} (h : w.ownsRow base 5 1 (.slice A n c) n (nums .u8 xs)) (hn : n = xs.length) (hok : ∀ k, (Value.slice A n c).ownBlock = some k → okx k) : BV w okx A c xs := by
  subst hn
  exact Kd.V_mk (own_le h) (fun W' hW => C_of_own (own_move h (fun k hk => hW k (hok k hk) (own_lt h k hk))))
theorem used_mem_le {l : List AF} {j : Nat} {f : AF} (h : l[j]? = some f) : f.bs.length ≤ Vm.used l := by
  obtain ⟨hl, e⟩ := List.getElem?_eq_some_iff.1 h
  have h1 := used_step l j hl
  have h2 := used_drop_le l j
  rw [e] at h1
  omega
theorem DoC.setB1 {w wr : World} {ok' : Nat → Prop} {m : AS} {v : Value} {o : OpM} {B : Option Addr} {cb g : Nat} {f : AF} {Bf : Option Addr} {cf : Nat} (h : DoC w (okB w ok') m v o B cb g f Bf cf wr) (u : Value) : DoB w m v o B cb (wr.setCell ⟨g, 1, none⟩ u) := by
  have hg := h.gl
  exact ⟨blk_far h.b.h1 (by simp; omega) _, blk_far h.b.h2 (by simp; omega) _, blk_far h.b.h3 (by simp; omega) _, below_set h.b.bl _ _ _ (by omega) h.b.bl.size, by simpa using h.b.sz⟩
/-- The relation of Do's two loops: what is collected, as a function of the round. -/
def ApRel (W : World) (C : Nat → List Int) (L : Nat) (u i : Value) (wr : World) : Prop :=
  ∃ k : Nat, k ≤ L ∧ i = .int .i64 k ∧ wr.ownsRow W.heap.size 5 1 u (C k).length (nums .u8 (C k)) ∧ Below W.heap.size W wr
theorem ap_start (W : World) (C : Nat → List Int) (L : Nat) (h : C 0 = []) {N : Nat} (hN : W.heap.size = N) : ApRel W C L (.slice (some ⟨N, 0, none⟩) 0 0) (.int .i64 0) (W.alloc (.cells #[] 5)) := by
  subst hN
  refine ⟨0, Nat.zero_le _, rfl, ?_, below_alloc (Below.refl _ _) _⟩
  rw [h]
  exact own_lit W W.heap.size 5 .u8 [] (Nat.le_refl _) (by decide)
theorem take_next (l : List Int) (k : Nat) (h : k < l.length) : l.take (k + 1) = l.take k ++ [rd l (k : Int)] := by
  rw [List.take_succ_eq_append_getElem h]
  unfold rd
  rw [List.getD_eq_getElem?_getD, Int.toNat_natCast, List.getElem?_eq_getElem h]
  rfl
set_option maxRecDepth 100000 in
set_option maxHeartbeats 4000000 in
theorem do_append_off (h : DoIn w ok ⟨fl, most, 1, false⟩ v ⟨2, a, z, nn, b, keep⟩ B cb) {j : Nat} (hj : fl[j]? = some f) (hi : Vm.idx fl a 0 = j) (hn : ¬ most - (Vm.used fl : Int) < b.length) : Calls Try.prog 28 #[fsV ⟨fl, most, 1, false⟩ v, rop ⟨2, a, z, nn, b, keep⟩ B cb] w (DoTo w ok ⟨fl, most, 0, true⟩ 70) := by
  have hj0' := hj
  obtain ⟨A, c, rfl, hc⟩ := h.h.slice; obtain ⟨ad, Bf, cf, rfl, HFc⟩ := h.file rfl hj; have FD := Aside0.mk h.find; have HH := Aside0.mk h; unfold fsV W3 at FD; simp only at *; rw [hi] at FD; have HFC := Aside0.mk (FileCells.mk HFc.c0 HFc.c1 HFc.c2 (show BV w (okB w ok) Bf cf f.bs from Kd.V_bound HFc.bv)); have hjl : (j : Int) < fl.length := (by have := (List.getElem?_eq_some_iff.1 hj).1; omega); have hj0 : (0 : Int) ≤ j := Int.natCast_nonneg j; have hcf : (f.bs.length : Int) ≤ cf := (by have := HFc.bv.C.2; omega); clear hj hi HFc
  have hU1 : (Vm.used fl : Int) + b.length ≤ 140737488355328 := by have := HH.out.hu; simp only at this; omega
  have hlf : f.bs.length ≤ Vm.used fl := used_mem_le hj0'
  clear hj0'
  have FU : Aside0 (∀ g wr, DoC w (okB w ok) ⟨fl, most, 1, false⟩ (.slice (some ad) fl.length c) ⟨2, a, z, nn, b, keep⟩ B cb g f Bf cf wr → Calls Try.prog 64 #[.agg #[.slice (some ad) fl.length c, .int .i64 most, .int .i64 1, .bool false]] wr fun e w' => e = .returned (.int .i64 (Vm.used fl)) ∧ DoC w (okB w ok) ⟨fl, most, 1, false⟩ (.slice (some ad) fl.length c) ⟨2, a, z, nn, b, keep⟩ B cb g f Bf cf w') := ⟨fun g wr hC => (ref_used (m := ⟨fl, most, 1, false⟩) (Kd.V_below HH.out.h hC.b.bl) (by have := HH.out.hl; simp only at this ⊢; omega) (by have := HH.out.hu; simp only at this ⊢; omega)).mono (by rintro e w' ⟨rfl, hb⟩; exact ⟨rfl, hC.below hb⟩)⟩
  have hm0 := HH.out.hm0
  have hm1 := HH.out.hm1
  simp only at hm0 hm1
  obtain ⟨U, hUe⟩ : ∃ U, Vm.used fl = U := ⟨_, rfl⟩
  rw [hUe] at FU hU1 hn hlf
  clear hUe
  have hwr : IntKind.i64.wrap (most - (U : Int)) = most - U := IntWalk.i64_in _ (by omega)
  have hn2 : ¬ (b.length : Int) > most - U := by omega
  unfold fsV rop; simp only; clear h; go_enter Try.func28, Try.ntmps28; go_wp2_with fail; refine FD.out.mono ?_; rintro e w1 ⟨rfl, hdb⟩; have DB := Aside0.mk hdb; clear hdb FD
  obtain ⟨⟨q0, q1, q2, q3⟩, ⟨o0, o1, o2, o3, o4⟩, ⟨r0, r1, r2, r3⟩, fz, tz⟩ := DB.out.cells; have f0 := fz 0; have f1 := fz 1; have f2 := fz 2; have f3 := fz 3; have t0 := tz 0; have t1 := tz 1; have t2 := tz 2; have t3 := tz 3; clear fz tz; simp only at q0 q1 q2 q3 o0 o1 o2 o3 o4
  have hF := HFC.out.below DB.out.bl; have hA := below_alloc (Below.refl w1.heap.size w1) (.cells #[.string a, .slice none 0 0, .int .i64 0] 104); have p0 := pw_cell_below hA hF.c0; have p1 := pw_cell_below hA hF.c1; have p2 := pw_cell_below hA hF.c2; have q0a := pw_cell_below hA q0; clear hA; have DC := Aside0.mk (DoC.start DB.out hF.bv); clear hF HFC; have hsz := DB.out.sz; have ne0 : ¬ w.heap.size = w1.heap.size := (by omega); have ne1 : ¬ w.heap.size + 1 = w1.heap.size := (by omega); have ne2 : ¬ w.heap.size + 2 = w1.heap.size := (by omega); have ne0' : ¬ w1.heap.size = w.heap.size := (by omega); have ne1' : ¬ w1.heap.size = w.heap.size + 1 := (by omega); have ne2' : ¬ w1.heap.size = w.heap.size + 2 := (by omega); clear hsz
  obtain ⟨⟨q0', q1', q2', q3'⟩, ⟨o0', o1', o2', o3', o4'⟩, ⟨r0', r1', r2', r3'⟩, fz, tz⟩ := DC.out.b.cells; have f0' := fz 0; have f1' := fz 1; have f2' := fz 2; have f3' := fz 3; have t0' := tz 0; have t1' := tz 1; have t2' := tz 2; have t3' := tz 3; clear fz tz; simp only at q0' q1' q2' q3' o0' o1' o2' o3' o4'
  go_wp2_with fail
  go_region_held3 (fun w' => w'.cell? ⟨w.heap.size + 1, 0, none⟩ = some (.int .i64 2) ∧ w'.cell? ⟨w.heap.size + 1, 4, none⟩ = some (.slice B b.length cb) ∧ w'.cell? ⟨w.heap.size, 0, none⟩ = some (.slice (some ad) fl.length c) ∧ w'.cell? ⟨w.heap.size, 1, none⟩ = some (.int .i64 most) ∧ w'.cell? ⟨w.heap.size, 2, none⟩ = some (.int .i64 1) ∧ w'.cell? ⟨w.heap.size, 3, none⟩ = some (.bool false)) (first | exact DC.out.guard | exact (DC.out.drewN _).guard | exact DC2.out.guard) (first | (go_at_call 64; refine (FU.out _ _ (DC.out.drewN _)).mono ?_; rintro e w2 ⟨rfl, hdc⟩; have DC2 := Aside0.mk hdc; clear hdc))
  clear DC q0' q1' q2' q3' o0' o1' o2' o3' o4' r0' r1' r2' r3' f0' f1' f2' f3' t0' t1' t2' t3'
  have DC := DC2
  clear DC2
  obtain ⟨⟨q0', q1', q2', q3'⟩, ⟨o0', o1', o2', o3', o4'⟩, ⟨r0', r1', r2', r3'⟩, fz, tz⟩ := DC.out.b.cells; have f0' := fz 0; have f1' := fz 1; have f2' := fz 2; have f3' := fz 3; have t0' := tz 0; have t1' := tz 1; have t2' := tz 2; have t3' := tz 3; clear fz tz; simp only at q0' q1' q2' q3' o0' o1' o2' o3' o4'
  clear hwr
  have E := Aside0.mk (do_off (ok := ok) HH.out.h DC.out.b)
  clear HH DB DC
  go_wp2
  refine bodyPost_ret (results_ct rfl _ _ (w.heap.size + 2) 50 _ (0, 0) _ rfl E.out.1 Try.underlying50 rfl (by kernel_rfl)) rfl ⟨_, rfl, E.out.2⟩
set_option maxRecDepth 100000 in
set_option maxHeartbeats 4000000 in
theorem do_append_zero (h : DoIn w ok ⟨fl, most, 0, false⟩ v ⟨2, a, z, nn, b, keep⟩ B cb) {j : Nat} (hj : fl[j]? = some f) (hi : Vm.idx fl a 0 = j) (hn : ¬ most - (Vm.used fl : Int) < b.length) : Calls Try.prog 28 #[fsV ⟨fl, most, 0, false⟩ v, rop ⟨2, a, z, nn, b, keep⟩ B cb] w (DoTo w ok ⟨Vm.ins { f with bs := f.bs ++ b } (Vm.rm fl f.nm), most, 0, false⟩ 0) := by
  have hj0' := hj
  obtain ⟨A, c, rfl, hc⟩ := h.h.slice; obtain ⟨ad, Bf, cf, rfl, HFc⟩ := h.file rfl hj; have FD := Aside0.mk h.find; have HH := Aside0.mk h; unfold fsV W3 at FD; simp only at *; rw [hi] at FD; have HFC := Aside0.mk (FileCells.mk HFc.c0 HFc.c1 HFc.c2 (show BV w (okB w ok) Bf cf f.bs from Kd.V_bound HFc.bv)); have hjl : (j : Int) < fl.length := (by have := (List.getElem?_eq_some_iff.1 hj).1; omega); have hj0 : (0 : Int) ≤ j := Int.natCast_nonneg j; have hcf : (f.bs.length : Int) ≤ cf := (by have := HFc.bv.C.2; omega); clear hj hi HFc
  have hU1 : (Vm.used fl : Int) + b.length ≤ 140737488355328 := by have := HH.out.hu; simp only at this; omega
  have hlf : f.bs.length ≤ Vm.used fl := used_mem_le hj0'
  clear hj0'
  have FU : Aside0 (∀ g wr, DoC w (okB w ok) ⟨fl, most, 0, false⟩ (.slice (some ad) fl.length c) ⟨2, a, z, nn, b, keep⟩ B cb g f Bf cf wr → Calls Try.prog 64 #[.agg #[.slice (some ad) fl.length c, .int .i64 most, .int .i64 0, .bool false]] wr fun e w' => e = .returned (.int .i64 (Vm.used fl)) ∧ DoC w (okB w ok) ⟨fl, most, 0, false⟩ (.slice (some ad) fl.length c) ⟨2, a, z, nn, b, keep⟩ B cb g f Bf cf w') := ⟨fun g wr hC => (ref_used (m := ⟨fl, most, 0, false⟩) (Kd.V_below HH.out.h hC.b.bl) (by have := HH.out.hl; simp only at this ⊢; omega) (by have := HH.out.hu; simp only at this ⊢; omega)).mono (by rintro e w' ⟨rfl, hb⟩; exact ⟨rfl, hC.below hb⟩)⟩
  have hm0 := HH.out.hm0
  have hm1 := HH.out.hm1
  simp only at hm0 hm1
  obtain ⟨U, hUe⟩ : ∃ U, Vm.used fl = U := ⟨_, rfl⟩
  rw [hUe] at FU hU1 hn hlf
  clear hUe
  have hwr : IntKind.i64.wrap (most - (U : Int)) = most - U := IntWalk.i64_in _ (by omega)
  have hn2 : ¬ (b.length : Int) > most - U := by omega
  unfold fsV rop; simp only; clear h; go_enter Try.func28, Try.ntmps28; go_wp2_with fail; refine FD.out.mono ?_; rintro e w1 ⟨rfl, hdb⟩; have DB := Aside0.mk hdb; clear hdb FD
  obtain ⟨⟨q0, q1, q2, q3⟩, ⟨o0, o1, o2, o3, o4⟩, ⟨r0, r1, r2, r3⟩, fz, tz⟩ := DB.out.cells; have f0 := fz 0; have f1 := fz 1; have f2 := fz 2; have f3 := fz 3; have t0 := tz 0; have t1 := tz 1; have t2 := tz 2; have t3 := tz 3; clear fz tz; simp only at q0 q1 q2 q3 o0 o1 o2 o3 o4
  have hF := HFC.out.below DB.out.bl; have hA := below_alloc (Below.refl w1.heap.size w1) (.cells #[.string a, .slice none 0 0, .int .i64 0] 104); have p0 := pw_cell_below hA hF.c0; have p1 := pw_cell_below hA hF.c1; have p2 := pw_cell_below hA hF.c2; have q0a := pw_cell_below hA q0; clear hA; have DC := Aside0.mk (DoC.start DB.out hF.bv); clear hF HFC; have hsz := DB.out.sz; have ne0 : ¬ w.heap.size = w1.heap.size := (by omega); have ne1 : ¬ w.heap.size + 1 = w1.heap.size := (by omega); have ne2 : ¬ w.heap.size + 2 = w1.heap.size := (by omega); have ne0' : ¬ w1.heap.size = w.heap.size := (by omega); have ne1' : ¬ w1.heap.size = w.heap.size + 1 := (by omega); have ne2' : ¬ w1.heap.size = w.heap.size + 2 := (by omega); clear hsz
  obtain ⟨⟨q0', q1', q2', q3'⟩, ⟨o0', o1', o2', o3', o4'⟩, ⟨r0', r1', r2', r3'⟩, fz, tz⟩ := DC.out.b.cells; have f0' := fz 0; have f1' := fz 1; have f2' := fz 2; have f3' := fz 3; have t0' := tz 0; have t1' := tz 1; have t2' := tz 2; have t3' := tz 3; clear fz tz; simp only at q0' q1' q2' q3' o0' o1' o2' o3' o4'
  go_wp2_with fail
  go_region_held3 (fun w' => w'.cell? ⟨w.heap.size + 1, 0, none⟩ = some (.int .i64 2) ∧ w'.cell? ⟨w.heap.size + 1, 4, none⟩ = some (.slice B b.length cb) ∧ w'.cell? ⟨w.heap.size, 0, none⟩ = some (.slice (some ad) fl.length c) ∧ w'.cell? ⟨w.heap.size, 1, none⟩ = some (.int .i64 most) ∧ w'.cell? ⟨w.heap.size, 2, none⟩ = some (.int .i64 0) ∧ w'.cell? ⟨w.heap.size, 3, none⟩ = some (.bool false)) (first | exact DC.out.guard | exact (DC.out.drewN _).guard | exact DC2.out.guard) (first | (go_at_call 64; refine (FU.out _ _ (DC.out.drewN _)).mono ?_; rintro e w2 ⟨rfl, hdc⟩; have DC2 := Aside0.mk hdc; clear hdc))
  clear DC q0' q1' q2' q3' o0' o1' o2' o3' o4' r0' r1' r2' r3' f0' f1' f2' f3' t0' t1' t2' t3'
  have DC := DC2
  clear DC2
  obtain ⟨⟨q0', q1', q2', q3'⟩, ⟨o0', o1', o2', o3', o4'⟩, ⟨r0', r1', r2', r3'⟩, fz, tz⟩ := DC.out.b.cells; have f0' := fz 0; have f1' := fz 1; have f2' := fz 2; have f3' := fz 3; have t0' := tz 0; have t1' := tz 1; have t2' := tz 2; have t3' := tz 3; clear fz tz; simp only at q0' q1' q2' q3' o0' o1' o2' o3' o4'
  clear hwr
  have DW := DC
  go_wp2_with fail
  have HWS : Aside0 (w2.heap.size = w2.heap.size) := ⟨rfl⟩
  have HC0 := Aside0.mk (DW.out.bv.C.1)
  have HCB : Aside0 ((Kd.int .u8).C w2 B b.length b) := ⟨Kd.C_below HH.out.hb DW.out.b.bl⟩
  have S0 := Aside0.mk (ap_start w2 (fun k => f.bs.take k) f.bs.length rfl HWS.out)
  clear q0 q1 q2 q3 o0 o1 o2 o3 o4 r0 r1 r2 r3 f0 f1 f2 f3 t0 t1 t2 t3 q0' q1' q2' q3' o0' o1' o2' o3' o4' r0' r1' r2' r3' f0' f1' f2' f3' t0' t1' t2' t3' p0 p1 p2 q0a FU hn hn2 DB
  go_loopw [8, 9] (fun u i wr => Aside0 (ApRel w2 (fun k => f.bs.take k) f.bs.length u i wr)) (fun _ i _ => f.bs.length - (intOf i).toNat)
  case atStart => exact S0
  case round =>
    obtain ⟨⟨k, hk, rfl, hO, hbl⟩⟩ := hrel
    clear S0
    have HOx := Aside0.mk hO
    have HBL := Aside0.mk hbl
    have DX := Aside0.mk (DW.out.below hbl)
    by_cases hlt : k < f.bs.length
    · obtain ⟨ba, rfl, hbc⟩ := Kd.at_int (Kd.C_below HC0.out hbl) (k : Int) (by omega) (by omega)
      rw [Int.toNat_natCast] at hbc
      have x1 : wr.cell? ⟨w1.heap.size, 1, none⟩ = some (.slice (some ba) f.bs.length cf) := DX.out.cells.2.1
      have HX := Aside0.mk (take_next f.bs k hlt)
      have hkl : (k : Int) < f.bs.length := by omega
      have hlt2 : ((f.bs.take k).length + 1) * 1 ≤ 140737488355328 := by rw [List.length_take]; omega
      have HL2 := Aside0.mk hlt2
      clear hO hbl DX hlt2
      generalize rd f.bs (k : Int) = y at *
      go_wp2_with (at_builtin; refine print_append_num (w0 := w2) w2.heap.size rfl (.tmp 121) (.tmp 127) 28 5 .u8 1 rfl Try.underlying28 infoU8 (by decide) u8 (f.bs.take k) y rfl rfl HOx.out HBL.out HBL.out.size HL2.out ?_)
      intro v1 wn hO1 hB1 hg1 _
      have NX : Aside0 (ApRel w2 (fun k => f.bs.take k) f.bs.length v1 (.int .i64 (k + 1)) wn) := ⟨⟨k + 1, by omega, rfl, by show wn.ownsRow _ _ _ _ (f.bs.take (k + 1)).length (nums .u8 (f.bs.take (k + 1))); rw [HX.out]; have e : (f.bs.take k ++ [y]).length = k + 1 := (by simp; omega); rw [e]; exact hO1, hB1⟩⟩
      clear hO1 hB1 hg1 HOx HBL HX HL2 x1 hbc
      go_wp2
      go_roundw
      case rel => exact NX
      case measure => simp [intOf]; omega
    · have hke : k = f.bs.length := by omega
      subst hke
      obtain ⟨wo, hwo⟩ : ∃ wo : World, wo = wr := ⟨_, rfl⟩
      subst hwo
      have S1 : Aside0 (ApRel w2 (fun k => f.bs ++ b.take k) b.length u8 (.int .i64 0) wo) := ⟨⟨0, Nat.zero_le _, rfl, by have := HOx.out; simpa using this, HBL.out⟩⟩
      have x1 : wo.cell? ⟨w1.heap.size, 1, none⟩ = some (.slice Bf f.bs.length cf) := DX.out.cells.2.1
      have hkl : ¬ (f.bs.length : Int) < f.bs.length := by omega
      clear hO hbl HOx HBL DX
      go_wp2
      go_loopw [8, 10] (fun u i wr => Aside0 (ApRel w2 (fun k => f.bs ++ b.take k) b.length u i wr)) (fun _ i _ => b.length - (intOf i).toNat)
      case atStart => exact S1
      case round =>
        obtain ⟨⟨k, hk2, rfl, hO, hbl⟩⟩ := hrel
        clear S1 x1
        have HOx := Aside0.mk hO
        have HBL := Aside0.mk hbl
        have DX := Aside0.mk (DW.out.below hbl)
        by_cases hlt2 : k < b.length
        · obtain ⟨ba, rfl, hbc⟩ := Kd.at_int (Kd.C_below HCB.out hbl) (k : Int) (by omega) (by omega)
          rw [Int.toNat_natCast] at hbc
          have x1 : wr.cell? ⟨w.heap.size + 1, 4, none⟩ = some (.slice (some ba) b.length cb) := DX.out.b.cells.2.1.2.2.2.2
          have HX := Aside0.mk (take_next b k hlt2)
          have hkl2 : (k : Int) < b.length := by omega
          have hlt3 : ((f.bs ++ b.take k).length + 1) * 1 ≤ 140737488355328 := by rw [List.length_append, List.length_take]; omega
          have HL2 := Aside0.mk hlt3
          clear hO hbl DX hlt3
          generalize rd b (k : Int) = y at *
          go_wp2_with (at_builtin; refine print_append_num (w0 := w2) w2.heap.size rfl (.tmp 136) (.tmp 142) 28 5 .u8 1 rfl Try.underlying28 infoU8 (by decide) u8 (f.bs ++ b.take k) y rfl rfl HOx.out HBL.out HBL.out.size HL2.out ?_)
          intro v1 wn hO1 hB1 hg1 _
          have NX : Aside0 (ApRel w2 (fun k => f.bs ++ b.take k) b.length v1 (.int .i64 (k + 1)) wn) := ⟨⟨k + 1, by omega, rfl, by show wn.ownsRow _ _ _ _ (f.bs ++ b.take (k + 1)).length (nums .u8 (f.bs ++ b.take (k + 1))); rw [HX.out]; have e : (f.bs ++ (b.take k ++ [y])).length = f.bs.length + (k + 1) := (by simp; omega); rw [e]; exact hO1, hB1⟩⟩
          clear hO1 hB1 hg1 HOx HBL HX HL2 x1 hbc
          go_wp2
          go_roundw
          case rel => exact NX
          case measure => simp [intOf]; omega
        · have hke : k = b.length := by omega
          subst hke
          simp only [List.take_length, List.length_append] at hO
          obtain ⟨Au, cu, hu⟩ := own_slice hO
          subst hu
          have GL := DW.out.gl
          have GB := blk_lt DW.out.hf
          have hBn := bv_of_own (okx := fun k => okB w ok k ∨ w2.heap.size ≤ k) hO List.length_append.symm (fun k hk => .inr (own_base hO k hk))
          have HBn := Aside0.mk (V_keeps hBn (Keeps.set wr w1.heap.size 1 (.slice Au (f.bs.length + b.length) cu)) (fun k hk he => by have := DW.out.b.sz; rcases hk with hk | hk; (have := hk.2; omega); omega))
          have HDb := Aside0.mk (DX.out.setB1 (.slice Au (f.bs.length + b.length) cu))
          have HRn := Aside0.mk (Kd.V_mono (Kd.V_below (Kd.V_bound HH.out.h) HDb.out.bl) (ok' := fun k => okB w ok k ∨ w2.heap.size ≤ k) (fun k hk => .inl hk))
          have SZ := Aside0.mk DW.out.b.sz
          have hklb : ¬ (b.length : Int) < b.length := by omega
          obtain ⟨⟨q0'', q1'', q2'', q3''⟩, ⟨o0'', o1'', o2'', o3'', o4''⟩, ⟨r0'', r1'', r2'', r3''⟩, fz, tz⟩ := DX.out.b.cells; have f0'' := fz 0; have f1'' := fz 1; have f2'' := fz 2; have f3'' := fz 3; have t0'' := tz 0; have t1'' := tz 1; have t2'' := tz 2; have t3'' := tz 3; clear fz tz; simp only at q0'' q1'' q2'' q3'' o0'' o1'' o2'' o3'' o4''; obtain ⟨x0, x1, x2, xz⟩ := DX.out.cells; have xf0 := xz 0; have xf1 := xz 1; have xf2 := xz 2; clear xz
          clear hO hbl HOx HBL DX GL GB hBn
          go_wp2_with fail
          refine (HDb.out.with2 (f := { f with bs := f.bs ++ b }) HRn.out HBn.out SZ.out HH.out.hs HH.out.hl List.length_append).mono ?_
          clear q0'' q1'' q2'' q3'' o0'' o1'' o2'' o3'' o4'' r0'' r1'' r2'' r3'' f0'' f1'' f2'' f3'' t0'' t1'' t2'' t3'' x0 x1 x2 xf0 xf1 xf2
          rintro e w3 ⟨Ar, cr, rfl, hR, h3, hb3⟩; have r0 : w3.cell? ⟨w.heap.size + 2, 0, none⟩ = some (.slice none 0 0) := blk_cell h3 0; have r1 : w3.cell? ⟨w.heap.size + 2, 1, none⟩ = some (.int .i64 0) := blk_cell h3 1; have r2 : w3.cell? ⟨w.heap.size + 2, 2, none⟩ = some (.int .i64 0) := blk_cell h3 2; have r3 : w3.cell? ⟨w.heap.size + 2, 3, none⟩ = some (.bool false) := blk_cell h3 3; have t0 := blk_frozen h3 0; have t1 := blk_frozen h3 1; have t2 := blk_frozen h3 2; have t3 := blk_frozen h3 3; have E := Aside0.mk (fun most fuse down => do_end (most := most) (fuse := fuse) (down := down) h3 hb3 hR); clear hR h3 hb3; go_wp2; refine bodyPost_ret (results_ct rfl _ _ (w.heap.size + 2) 50 _ (0, 0) _ rfl (E.out _ _ _).1 Try.underlying50 rfl (by kernel_rfl)) rfl ⟨_, rfl, (E.out _ _ _).2⟩
set_option maxRecDepth 100000 in
set_option maxHeartbeats 4000000 in
theorem do_append_dec (h : DoIn w ok ⟨fl, most, fuse, false⟩ v ⟨2, a, z, nn, b, keep⟩ B cb) {j : Nat} (hj : fl[j]? = some f) (hi : Vm.idx fl a 0 = j) (hn : ¬ most - (Vm.used fl : Int) < b.length) (hf : 1 < fuse) : Calls Try.prog 28 #[fsV ⟨fl, most, fuse, false⟩ v, rop ⟨2, a, z, nn, b, keep⟩ B cb] w (DoTo w ok ⟨Vm.ins { f with bs := f.bs ++ b } (Vm.rm fl f.nm), most, (fuse - 1), false⟩ 0) := by
  have hj0' := hj
  obtain ⟨A, c, rfl, hc⟩ := h.h.slice; obtain ⟨ad, Bf, cf, rfl, HFc⟩ := h.file rfl hj; have FD := Aside0.mk h.find; have HH := Aside0.mk h; unfold fsV W3 at FD; simp only at *; rw [hi] at FD; have HFC := Aside0.mk (FileCells.mk HFc.c0 HFc.c1 HFc.c2 (show BV w (okB w ok) Bf cf f.bs from Kd.V_bound HFc.bv)); have hjl : (j : Int) < fl.length := (by have := (List.getElem?_eq_some_iff.1 hj).1; omega); have hj0 : (0 : Int) ≤ j := Int.natCast_nonneg j; have hcf : (f.bs.length : Int) ≤ cf := (by have := HFc.bv.C.2; omega); clear hj hi HFc
  have hf1 : fuse ≤ 9223372036854775807 := HH.out.hf1
  have hfz : (fuse - 1 == 0) = false := beq_eq_false_iff_ne.2 (by omega)
  have hfg : fuse > 0 := by omega
  have hU1 : (Vm.used fl : Int) + b.length ≤ 140737488355328 := by have := HH.out.hu; simp only at this; omega
  have hlf : f.bs.length ≤ Vm.used fl := used_mem_le hj0'
  clear hj0'
  have FU : Aside0 (∀ g wr, DoC w (okB w ok) ⟨fl, most, fuse, false⟩ (.slice (some ad) fl.length c) ⟨2, a, z, nn, b, keep⟩ B cb g f Bf cf wr → Calls Try.prog 64 #[.agg #[.slice (some ad) fl.length c, .int .i64 most, .int .i64 fuse, .bool false]] wr fun e w' => e = .returned (.int .i64 (Vm.used fl)) ∧ DoC w (okB w ok) ⟨fl, most, fuse, false⟩ (.slice (some ad) fl.length c) ⟨2, a, z, nn, b, keep⟩ B cb g f Bf cf w') := ⟨fun g wr hC => (ref_used (m := ⟨fl, most, fuse, false⟩) (Kd.V_below HH.out.h hC.b.bl) (by have := HH.out.hl; simp only at this ⊢; omega) (by have := HH.out.hu; simp only at this ⊢; omega)).mono (by rintro e w' ⟨rfl, hb⟩; exact ⟨rfl, hC.below hb⟩)⟩
  have hm0 := HH.out.hm0
  have hm1 := HH.out.hm1
  simp only at hm0 hm1
  obtain ⟨U, hUe⟩ : ∃ U, Vm.used fl = U := ⟨_, rfl⟩
  rw [hUe] at FU hU1 hn hlf
  clear hUe
  have hwr : IntKind.i64.wrap (most - (U : Int)) = most - U := IntWalk.i64_in _ (by omega)
  have hn2 : ¬ (b.length : Int) > most - U := by omega
  unfold fsV rop; simp only; clear h; go_enter Try.func28, Try.ntmps28; go_wp2_with fail; refine FD.out.mono ?_; rintro e w1 ⟨rfl, hdb⟩; have DB := Aside0.mk hdb; clear hdb FD
  obtain ⟨⟨q0, q1, q2, q3⟩, ⟨o0, o1, o2, o3, o4⟩, ⟨r0, r1, r2, r3⟩, fz, tz⟩ := DB.out.cells; have f0 := fz 0; have f1 := fz 1; have f2 := fz 2; have f3 := fz 3; have t0 := tz 0; have t1 := tz 1; have t2 := tz 2; have t3 := tz 3; clear fz tz; simp only at q0 q1 q2 q3 o0 o1 o2 o3 o4
  have hF := HFC.out.below DB.out.bl; have hA := below_alloc (Below.refl w1.heap.size w1) (.cells #[.string a, .slice none 0 0, .int .i64 0] 104); have p0 := pw_cell_below hA hF.c0; have p1 := pw_cell_below hA hF.c1; have p2 := pw_cell_below hA hF.c2; have q0a := pw_cell_below hA q0; clear hA; have DC := Aside0.mk (DoC.start DB.out hF.bv); clear hF HFC; have hsz := DB.out.sz; have ne0 : ¬ w.heap.size = w1.heap.size := (by omega); have ne1 : ¬ w.heap.size + 1 = w1.heap.size := (by omega); have ne2 : ¬ w.heap.size + 2 = w1.heap.size := (by omega); have ne0' : ¬ w1.heap.size = w.heap.size := (by omega); have ne1' : ¬ w1.heap.size = w.heap.size + 1 := (by omega); have ne2' : ¬ w1.heap.size = w.heap.size + 2 := (by omega); clear hsz
  obtain ⟨⟨q0', q1', q2', q3'⟩, ⟨o0', o1', o2', o3', o4'⟩, ⟨r0', r1', r2', r3'⟩, fz, tz⟩ := DC.out.b.cells; have f0' := fz 0; have f1' := fz 1; have f2' := fz 2; have f3' := fz 3; have t0' := tz 0; have t1' := tz 1; have t2' := tz 2; have t3' := tz 3; clear fz tz; simp only at q0' q1' q2' q3' o0' o1' o2' o3' o4'
  go_wp2_with fail
  go_region_held3 (fun w' => w'.cell? ⟨w.heap.size + 1, 0, none⟩ = some (.int .i64 2) ∧ w'.cell? ⟨w.heap.size + 1, 4, none⟩ = some (.slice B b.length cb) ∧ w'.cell? ⟨w.heap.size, 0, none⟩ = some (.slice (some ad) fl.length c) ∧ w'.cell? ⟨w.heap.size, 1, none⟩ = some (.int .i64 most) ∧ w'.cell? ⟨w.heap.size, 2, none⟩ = some (.int .i64 fuse) ∧ w'.cell? ⟨w.heap.size, 3, none⟩ = some (.bool false)) (first | exact DC.out.guard | exact (DC.out.drewN _).guard | exact DC2.out.guard) (first | (go_at_call 64; refine (FU.out _ _ (DC.out.drewN _)).mono ?_; rintro e w2 ⟨rfl, hdc⟩; have DC2 := Aside0.mk hdc; clear hdc))
  clear DC q0' q1' q2' q3' o0' o1' o2' o3' o4' r0' r1' r2' r3' f0' f1' f2' f3' t0' t1' t2' t3'
  have DC := DC2
  clear DC2
  obtain ⟨⟨q0', q1', q2', q3'⟩, ⟨o0', o1', o2', o3', o4'⟩, ⟨r0', r1', r2', r3'⟩, fz, tz⟩ := DC.out.b.cells; have f0' := fz 0; have f1' := fz 1; have f2' := fz 2; have f3' := fz 3; have t0' := tz 0; have t1' := tz 1; have t2' := tz 2; have t3' := tz 3; clear fz tz; simp only at q0' q1' q2' q3' o0' o1' o2' o3' o4'
  clear hwr
  have DW := Aside0.mk (DC.out.setFuse (fuse - 1))
  go_wp2_with fail
  obtain ⟨W, hW⟩ : ∃ W, W = (w2.setCell ⟨w.heap.size, 2, none⟩ (.int .i64 (fuse - 1))) := ⟨_, rfl⟩
  have HWS : Aside0 (W.heap.size = w2.heap.size) := ⟨by rw [hW]; simp⟩
  rw [← hW] at DW ⊢
  clear hW
  have HC0 := Aside0.mk (DW.out.bv.C.1)
  have HCB : Aside0 ((Kd.int .u8).C W B b.length b) := ⟨Kd.C_below HH.out.hb DW.out.b.bl⟩
  have S0 := Aside0.mk (ap_start W (fun k => f.bs.take k) f.bs.length rfl HWS.out)
  clear q0 q1 q2 q3 o0 o1 o2 o3 o4 r0 r1 r2 r3 f0 f1 f2 f3 t0 t1 t2 t3 q0' q1' q2' q3' o0' o1' o2' o3' o4' r0' r1' r2' r3' f0' f1' f2' f3' t0' t1' t2' t3' p0 p1 p2 q0a FU hn hn2 DB
  go_loopw [8, 9] (fun u i wr => Aside0 (ApRel W (fun k => f.bs.take k) f.bs.length u i wr)) (fun _ i _ => f.bs.length - (intOf i).toNat)
  case atStart => exact S0
  case round =>
    obtain ⟨⟨k, hk, rfl, hO, hbl⟩⟩ := hrel
    clear S0
    have HOx := Aside0.mk hO
    have HBL := Aside0.mk hbl
    have DX := Aside0.mk (DW.out.below hbl)
    by_cases hlt : k < f.bs.length
    · obtain ⟨ba, rfl, hbc⟩ := Kd.at_int (Kd.C_below HC0.out hbl) (k : Int) (by omega) (by omega)
      rw [Int.toNat_natCast] at hbc
      have x1 : wr.cell? ⟨w1.heap.size, 1, none⟩ = some (.slice (some ba) f.bs.length cf) := DX.out.cells.2.1
      have HX := Aside0.mk (take_next f.bs k hlt)
      have hkl : (k : Int) < f.bs.length := by omega
      have hlt2 : ((f.bs.take k).length + 1) * 1 ≤ 140737488355328 := by rw [List.length_take]; omega
      have HL2 := Aside0.mk hlt2
      clear hO hbl DX hlt2
      generalize rd f.bs (k : Int) = y at *
      go_wp2_with (at_builtin; refine print_append_num (w0 := W) W.heap.size rfl (.tmp 121) (.tmp 127) 28 5 .u8 1 rfl Try.underlying28 infoU8 (by decide) u8 (f.bs.take k) y rfl rfl HOx.out HBL.out HBL.out.size HL2.out ?_)
      intro v1 wn hO1 hB1 hg1 _
      have NX : Aside0 (ApRel W (fun k => f.bs.take k) f.bs.length v1 (.int .i64 (k + 1)) wn) := ⟨⟨k + 1, by omega, rfl, by show wn.ownsRow _ _ _ _ (f.bs.take (k + 1)).length (nums .u8 (f.bs.take (k + 1))); rw [HX.out]; have e : (f.bs.take k ++ [y]).length = k + 1 := (by simp; omega); rw [e]; exact hO1, hB1⟩⟩
      clear hO1 hB1 hg1 HOx HBL HX HL2 x1 hbc
      go_wp2
      go_roundw
      case rel => exact NX
      case measure => simp [intOf]; omega
    · have hke : k = f.bs.length := by omega
      subst hke
      obtain ⟨wo, hwo⟩ : ∃ wo : World, wo = wr := ⟨_, rfl⟩
      subst hwo
      have S1 : Aside0 (ApRel W (fun k => f.bs ++ b.take k) b.length u8 (.int .i64 0) wo) := ⟨⟨0, Nat.zero_le _, rfl, by have := HOx.out; simpa using this, HBL.out⟩⟩
      have x1 : wo.cell? ⟨w1.heap.size, 1, none⟩ = some (.slice Bf f.bs.length cf) := DX.out.cells.2.1
      have hkl : ¬ (f.bs.length : Int) < f.bs.length := by omega
      clear hO hbl HOx HBL DX
      go_wp2
      go_loopw [8, 10] (fun u i wr => Aside0 (ApRel W (fun k => f.bs ++ b.take k) b.length u i wr)) (fun _ i _ => b.length - (intOf i).toNat)
      case atStart => exact S1
      case round =>
        obtain ⟨⟨k, hk2, rfl, hO, hbl⟩⟩ := hrel
        clear S1 x1
        have HOx := Aside0.mk hO
        have HBL := Aside0.mk hbl
        have DX := Aside0.mk (DW.out.below hbl)
        by_cases hlt2 : k < b.length
        · obtain ⟨ba, rfl, hbc⟩ := Kd.at_int (Kd.C_below HCB.out hbl) (k : Int) (by omega) (by omega)
          rw [Int.toNat_natCast] at hbc
          have x1 : wr.cell? ⟨w.heap.size + 1, 4, none⟩ = some (.slice (some ba) b.length cb) := DX.out.b.cells.2.1.2.2.2.2
          have HX := Aside0.mk (take_next b k hlt2)
          have hkl2 : (k : Int) < b.length := by omega
          have hlt3 : ((f.bs ++ b.take k).length + 1) * 1 ≤ 140737488355328 := by rw [List.length_append, List.length_take]; omega
          have HL2 := Aside0.mk hlt3
          clear hO hbl DX hlt3
          generalize rd b (k : Int) = y at *
          go_wp2_with (at_builtin; refine print_append_num (w0 := W) W.heap.size rfl (.tmp 136) (.tmp 142) 28 5 .u8 1 rfl Try.underlying28 infoU8 (by decide) u8 (f.bs ++ b.take k) y rfl rfl HOx.out HBL.out HBL.out.size HL2.out ?_)
          intro v1 wn hO1 hB1 hg1 _
          have NX : Aside0 (ApRel W (fun k => f.bs ++ b.take k) b.length v1 (.int .i64 (k + 1)) wn) := ⟨⟨k + 1, by omega, rfl, by show wn.ownsRow _ _ _ _ (f.bs ++ b.take (k + 1)).length (nums .u8 (f.bs ++ b.take (k + 1))); rw [HX.out]; have e : (f.bs ++ (b.take k ++ [y])).length = f.bs.length + (k + 1) := (by simp; omega); rw [e]; exact hO1, hB1⟩⟩
          clear hO1 hB1 hg1 HOx HBL HX HL2 x1 hbc
          go_wp2
          go_roundw
          case rel => exact NX
          case measure => simp [intOf]; omega
        · have hke : k = b.length := by omega
          subst hke
          simp only [List.take_length, List.length_append] at hO
          obtain ⟨Au, cu, hu⟩ := own_slice hO
          subst hu
          have GL := DW.out.gl
          have GB := blk_lt DW.out.hf
          have hBn := bv_of_own (okx := fun k => okB w ok k ∨ W.heap.size ≤ k) hO List.length_append.symm (fun k hk => .inr (own_base hO k hk))
          have HBn := Aside0.mk (V_keeps hBn (Keeps.set wr w1.heap.size 1 (.slice Au (f.bs.length + b.length) cu)) (fun k hk he => by have := DW.out.b.sz; rcases hk with hk | hk; (have := hk.2; omega); omega))
          have HDb := Aside0.mk (DX.out.setB1 (.slice Au (f.bs.length + b.length) cu))
          have HRn := Aside0.mk (Kd.V_mono (Kd.V_below (Kd.V_bound HH.out.h) HDb.out.bl) (ok' := fun k => okB w ok k ∨ W.heap.size ≤ k) (fun k hk => .inl hk))
          have SZ := Aside0.mk DW.out.b.sz
          have hklb : ¬ (b.length : Int) < b.length := by omega
          obtain ⟨⟨q0'', q1'', q2'', q3''⟩, ⟨o0'', o1'', o2'', o3'', o4''⟩, ⟨r0'', r1'', r2'', r3''⟩, fz, tz⟩ := DX.out.b.cells; have f0'' := fz 0; have f1'' := fz 1; have f2'' := fz 2; have f3'' := fz 3; have t0'' := tz 0; have t1'' := tz 1; have t2'' := tz 2; have t3'' := tz 3; clear fz tz; simp only at q0'' q1'' q2'' q3'' o0'' o1'' o2'' o3'' o4''; obtain ⟨x0, x1, x2, xz⟩ := DX.out.cells; have xf0 := xz 0; have xf1 := xz 1; have xf2 := xz 2; clear xz
          clear hO hbl HOx HBL DX GL GB hBn
          go_wp2_with fail
          refine (HDb.out.with2 (f := { f with bs := f.bs ++ b }) HRn.out HBn.out SZ.out HH.out.hs HH.out.hl List.length_append).mono ?_
          clear q0'' q1'' q2'' q3'' o0'' o1'' o2'' o3'' o4'' r0'' r1'' r2'' r3'' f0'' f1'' f2'' f3'' t0'' t1'' t2'' t3'' x0 x1 x2 xf0 xf1 xf2
          rintro e w3 ⟨Ar, cr, rfl, hR, h3, hb3⟩; have r0 : w3.cell? ⟨w.heap.size + 2, 0, none⟩ = some (.slice none 0 0) := blk_cell h3 0; have r1 : w3.cell? ⟨w.heap.size + 2, 1, none⟩ = some (.int .i64 0) := blk_cell h3 1; have r2 : w3.cell? ⟨w.heap.size + 2, 2, none⟩ = some (.int .i64 0) := blk_cell h3 2; have r3 : w3.cell? ⟨w.heap.size + 2, 3, none⟩ = some (.bool false) := blk_cell h3 3; have t0 := blk_frozen h3 0; have t1 := blk_frozen h3 1; have t2 := blk_frozen h3 2; have t3 := blk_frozen h3 3; have E := Aside0.mk (fun most fuse down => do_end (most := most) (fuse := fuse) (down := down) h3 hb3 hR); clear hR h3 hb3; go_wp2; refine bodyPost_ret (results_ct rfl _ _ (w.heap.size + 2) 50 _ (0, 0) _ rfl (E.out _ _ _).1 Try.underlying50 rfl (by kernel_rfl)) rfl ⟨_, rfl, (E.out _ _ _).2⟩
end
end Go.Proofs.Ythjdgiobchiloaa
