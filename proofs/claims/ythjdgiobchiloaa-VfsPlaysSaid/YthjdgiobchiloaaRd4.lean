/-
  What is proved: Do of colloquyref07: Sync, Remove.
  What is proved: Do of colloquyref07: Create.
-/
import Derived.Test.YthjdgiobchiloaaRd2
namespace Go.Proofs.Ythjdgiobchiloaa
open Go.RowKit Go.Proofs.YthjdgiobchiloaaW.PrintWords
set_option linter.unusedVariables false
set_option linter.unusedSimpArgs false
section
variable {w : World} {ok : Nat → Prop} {v : Value} {B : Option Addr} {cb : Nat} {f : AF} {fl : List AF} {most fuse : Int} {a z : ByteArray} {nn : Int} {b keep : List Int} {N : Nat}
set_option maxRecDepth 100000 in
set_option maxHeartbeats 4000000 in
theorem do_sync_off (h : DoIn w ok ⟨fl, most, 1, false⟩ v ⟨3, a, z, nn, b, keep⟩ B cb) {j : Nat} (hj : fl[j]? = some f) (hi : Vm.idx fl a 0 = j) : Calls Try.prog 28 #[fsV ⟨fl, most, 1, false⟩ v, rop ⟨3, a, z, nn, b, keep⟩ B cb] w (DoTo w ok ⟨fl, most, 0, true⟩ 70) := by
  obtain ⟨A, c, rfl, hc⟩ := h.h.slice; obtain ⟨ad, Bf, cf, rfl, HFc⟩ := h.file rfl hj; have FD := Aside0.mk h.find; have HH := Aside0.mk h; unfold fsV W3 at FD; simp only at *; rw [hi] at FD; have HFC := Aside0.mk (FileCells.mk HFc.c0 HFc.c1 HFc.c2 (show BV w (okB w ok) Bf cf f.bs from Kd.V_bound HFc.bv)); have hjl : (j : Int) < fl.length := (by have := (List.getElem?_eq_some_iff.1 hj).1; omega); have hj0 : (0 : Int) ≤ j := Int.natCast_nonneg j; have hcf : (f.bs.length : Int) ≤ cf := (by have := HFc.bv.C.2; omega); clear hj hi HFc
  unfold fsV rop; simp only; clear h; go_enter Try.func28, Try.ntmps28; go_wp2_with fail; refine FD.out.mono ?_; rintro e w1 ⟨rfl, hdb⟩; have DB := Aside0.mk hdb; clear hdb FD
  obtain ⟨⟨q0, q1, q2, q3⟩, ⟨o0, o1, o2, o3, o4⟩, ⟨r0, r1, r2, r3⟩, fz, tz⟩ := DB.out.cells; have f0 := fz 0; have f1 := fz 1; have f2 := fz 2; have f3 := fz 3; have t0 := tz 0; have t1 := tz 1; have t2 := tz 2; have t3 := tz 3; clear fz tz; simp only at q0 q1 q2 q3 o0 o1 o2 o3 o4
  have hF := HFC.out.below DB.out.bl; have hA := below_alloc (Below.refl w1.heap.size w1) (.cells #[.string a, .slice none 0 0, .int .i64 0] 104); have p0 := pw_cell_below hA hF.c0; have p1 := pw_cell_below hA hF.c1; have p2 := pw_cell_below hA hF.c2; have q0a := pw_cell_below hA q0; clear hA; have DC := Aside0.mk (DoC.start DB.out hF.bv); clear hF HFC; have hsz := DB.out.sz; have ne0 : ¬ w.heap.size = w1.heap.size := (by omega); have ne1 : ¬ w.heap.size + 1 = w1.heap.size := (by omega); have ne2 : ¬ w.heap.size + 2 = w1.heap.size := (by omega); have ne0' : ¬ w1.heap.size = w.heap.size := (by omega); have ne1' : ¬ w1.heap.size = w.heap.size + 1 := (by omega); have ne2' : ¬ w1.heap.size = w.heap.size + 2 := (by omega); clear hsz
  obtain ⟨⟨q0', q1', q2', q3'⟩, ⟨o0', o1', o2', o3', o4'⟩, ⟨r0', r1', r2', r3'⟩, fz, tz⟩ := DC.out.b.cells; have f0' := fz 0; have f1' := fz 1; have f2' := fz 2; have f3' := fz 3; have t0' := tz 0; have t1' := tz 1; have t2' := tz 2; have t3' := tz 3; clear fz tz; simp only at q0' q1' q2' q3' o0' o1' o2' o3' o4'
  go_wp2_with fail
  go_quiet (fail)
  have E : Aside0 (∀ q, _) := ⟨fun q => do_off (ok := ok) HH.out.h (DC.out.drewN q).b⟩; clear HH DB DC; go_wp2; refine bodyPost_ret (results_ct rfl _ _ (w.heap.size + 2) 50 _ (0, 0) _ rfl (E.out _).1 Try.underlying50 rfl (by kernel_rfl)) rfl ⟨_, rfl, (E.out _).2⟩
set_option maxRecDepth 100000 in
set_option maxHeartbeats 4000000 in
theorem do_remove_off (h : DoIn w ok ⟨fl, most, 1, false⟩ v ⟨6, a, z, nn, b, keep⟩ B cb) {j : Nat} (hj : fl[j]? = some f) (hi : Vm.idx fl a 0 = j) : Calls Try.prog 28 #[fsV ⟨fl, most, 1, false⟩ v, rop ⟨6, a, z, nn, b, keep⟩ B cb] w (DoTo w ok ⟨fl, most, 0, true⟩ 70) := by
  obtain ⟨A, c, rfl, hc⟩ := h.h.slice; obtain ⟨ad, Bf, cf, rfl, HFc⟩ := h.file rfl hj; have FD := Aside0.mk h.find; have HH := Aside0.mk h; unfold fsV W3 at FD; simp only at *; rw [hi] at FD; have HFC := Aside0.mk (FileCells.mk HFc.c0 HFc.c1 HFc.c2 (show BV w (okB w ok) Bf cf f.bs from Kd.V_bound HFc.bv)); have hjl : (j : Int) < fl.length := (by have := (List.getElem?_eq_some_iff.1 hj).1; omega); have hj0 : (0 : Int) ≤ j := Int.natCast_nonneg j; have hcf : (f.bs.length : Int) ≤ cf := (by have := HFc.bv.C.2; omega); clear hj hi HFc
  unfold fsV rop; simp only; clear h; go_enter Try.func28, Try.ntmps28; go_wp2_with fail; refine FD.out.mono ?_; rintro e w1 ⟨rfl, hdb⟩; have DB := Aside0.mk hdb; clear hdb FD
  obtain ⟨⟨q0, q1, q2, q3⟩, ⟨o0, o1, o2, o3, o4⟩, ⟨r0, r1, r2, r3⟩, fz, tz⟩ := DB.out.cells; have f0 := fz 0; have f1 := fz 1; have f2 := fz 2; have f3 := fz 3; have t0 := tz 0; have t1 := tz 1; have t2 := tz 2; have t3 := tz 3; clear fz tz; simp only at q0 q1 q2 q3 o0 o1 o2 o3 o4
  have hF := HFC.out.below DB.out.bl; have hA := below_alloc (Below.refl w1.heap.size w1) (.cells #[.string a, .slice none 0 0, .int .i64 0] 104); have p0 := pw_cell_below hA hF.c0; have p1 := pw_cell_below hA hF.c1; have p2 := pw_cell_below hA hF.c2; have q0a := pw_cell_below hA q0; clear hA; have DC := Aside0.mk (DoC.start DB.out hF.bv); clear hF HFC; have hsz := DB.out.sz; have ne0 : ¬ w.heap.size = w1.heap.size := (by omega); have ne1 : ¬ w.heap.size + 1 = w1.heap.size := (by omega); have ne2 : ¬ w.heap.size + 2 = w1.heap.size := (by omega); have ne0' : ¬ w1.heap.size = w.heap.size := (by omega); have ne1' : ¬ w1.heap.size = w.heap.size + 1 := (by omega); have ne2' : ¬ w1.heap.size = w.heap.size + 2 := (by omega); clear hsz
  obtain ⟨⟨q0', q1', q2', q3'⟩, ⟨o0', o1', o2', o3', o4'⟩, ⟨r0', r1', r2', r3'⟩, fz, tz⟩ := DC.out.b.cells; have f0' := fz 0; have f1' := fz 1; have f2' := fz 2; have f3' := fz 3; have t0' := tz 0; have t1' := tz 1; have t2' := tz 2; have t3' := tz 3; clear fz tz; simp only at q0' q1' q2' q3' o0' o1' o2' o3' o4'
  go_wp2_with fail
  go_quiet (fail)
  have E : Aside0 (∀ q, _) := ⟨fun q => do_off (ok := ok) HH.out.h (DC.out.drewN q).b⟩; clear HH DB DC; go_wp2; refine bodyPost_ret (results_ct rfl _ _ (w.heap.size + 2) 50 _ (0, 0) _ rfl (E.out _).1 Try.underlying50 rfl (by kernel_rfl)) rfl ⟨_, rfl, (E.out _).2⟩
set_option maxRecDepth 100000 in
set_option maxHeartbeats 4000000 in
theorem do_sync_zero (h : DoIn w ok ⟨fl, most, 0, false⟩ v ⟨3, a, z, nn, b, keep⟩ B cb) {j : Nat} (hj : fl[j]? = some f) (hi : Vm.idx fl a 0 = j) : Calls Try.prog 28 #[fsV ⟨fl, most, 0, false⟩ v, rop ⟨3, a, z, nn, b, keep⟩ B cb] w (DoTo w ok ⟨Vm.ins { f with safe := f.bs.length } (Vm.rm fl f.nm), most, 0, false⟩ 0) := by
  obtain ⟨A, c, rfl, hc⟩ := h.h.slice; obtain ⟨ad, Bf, cf, rfl, HFc⟩ := h.file rfl hj; have FD := Aside0.mk h.find; have HH := Aside0.mk h; unfold fsV W3 at FD; simp only at *; rw [hi] at FD; have HFC := Aside0.mk (FileCells.mk HFc.c0 HFc.c1 HFc.c2 (show BV w (okB w ok) Bf cf f.bs from Kd.V_bound HFc.bv)); have hjl : (j : Int) < fl.length := (by have := (List.getElem?_eq_some_iff.1 hj).1; omega); have hj0 : (0 : Int) ≤ j := Int.natCast_nonneg j; have hcf : (f.bs.length : Int) ≤ cf := (by have := HFc.bv.C.2; omega); clear hj hi HFc
  unfold fsV rop; simp only; clear h; go_enter Try.func28, Try.ntmps28; go_wp2_with fail; refine FD.out.mono ?_; rintro e w1 ⟨rfl, hdb⟩; have DB := Aside0.mk hdb; clear hdb FD
  obtain ⟨⟨q0, q1, q2, q3⟩, ⟨o0, o1, o2, o3, o4⟩, ⟨r0, r1, r2, r3⟩, fz, tz⟩ := DB.out.cells; have f0 := fz 0; have f1 := fz 1; have f2 := fz 2; have f3 := fz 3; have t0 := tz 0; have t1 := tz 1; have t2 := tz 2; have t3 := tz 3; clear fz tz; simp only at q0 q1 q2 q3 o0 o1 o2 o3 o4
  have hF := HFC.out.below DB.out.bl; have hA := below_alloc (Below.refl w1.heap.size w1) (.cells #[.string a, .slice none 0 0, .int .i64 0] 104); have p0 := pw_cell_below hA hF.c0; have p1 := pw_cell_below hA hF.c1; have p2 := pw_cell_below hA hF.c2; have q0a := pw_cell_below hA q0; clear hA; have DC := Aside0.mk (DoC.start DB.out hF.bv); clear hF HFC; have hsz := DB.out.sz; have ne0 : ¬ w.heap.size = w1.heap.size := (by omega); have ne1 : ¬ w.heap.size + 1 = w1.heap.size := (by omega); have ne2 : ¬ w.heap.size + 2 = w1.heap.size := (by omega); have ne0' : ¬ w1.heap.size = w.heap.size := (by omega); have ne1' : ¬ w1.heap.size = w.heap.size + 1 := (by omega); have ne2' : ¬ w1.heap.size = w.heap.size + 2 := (by omega); clear hsz
  obtain ⟨⟨q0', q1', q2', q3'⟩, ⟨o0', o1', o2', o3', o4'⟩, ⟨r0', r1', r2', r3'⟩, fz, tz⟩ := DC.out.b.cells; have f0' := fz 0; have f1' := fz 1; have f2' := fz 2; have f3' := fz 3; have t0' := tz 0; have t1' := tz 1; have t2' := tz 2; have t3' := tz 3; clear fz tz; simp only at q0' q1' q2' q3' o0' o1' o2' o3' o4'
  go_wp2_with fail
  go_quiet (fail)
  go_wp2_with fail
  refine (((DC.out.drewN _).safe f.bs.length).with_ HH.out.h HH.out.hs HH.out.hl).mono ?_
  rintro e w3 ⟨Ar, cr, rfl, hR, h3, hb3⟩; have r0 : w3.cell? ⟨w.heap.size + 2, 0, none⟩ = some (.slice none 0 0) := blk_cell h3 0; have r1 : w3.cell? ⟨w.heap.size + 2, 1, none⟩ = some (.int .i64 0) := blk_cell h3 1; have r2 : w3.cell? ⟨w.heap.size + 2, 2, none⟩ = some (.int .i64 0) := blk_cell h3 2; have r3 : w3.cell? ⟨w.heap.size + 2, 3, none⟩ = some (.bool false) := blk_cell h3 3; have t0 := blk_frozen h3 0; have t1 := blk_frozen h3 1; have t2 := blk_frozen h3 2; have t3 := blk_frozen h3 3; have E := Aside0.mk (fun most fuse down => do_end (most := most) (fuse := fuse) (down := down) h3 hb3 hR); clear hR h3 hb3; go_wp2; refine bodyPost_ret (results_ct rfl _ _ (w.heap.size + 2) 50 _ (0, 0) _ rfl (E.out _ _ _).1 Try.underlying50 rfl (by kernel_rfl)) rfl ⟨_, rfl, (E.out _ _ _).2⟩
set_option maxRecDepth 100000 in
set_option maxHeartbeats 4000000 in
theorem do_remove_zero (h : DoIn w ok ⟨fl, most, 0, false⟩ v ⟨6, a, z, nn, b, keep⟩ B cb) {j : Nat} (hj : fl[j]? = some f) (hi : Vm.idx fl a 0 = j) : Calls Try.prog 28 #[fsV ⟨fl, most, 0, false⟩ v, rop ⟨6, a, z, nn, b, keep⟩ B cb] w (DoTo w ok ⟨Vm.rm fl a, most, 0, false⟩ 0) := by
  obtain ⟨A, c, rfl, hc⟩ := h.h.slice; obtain ⟨ad, Bf, cf, rfl, HFc⟩ := h.file rfl hj; have FD := Aside0.mk h.find; have HH := Aside0.mk h; unfold fsV W3 at FD; simp only at *; rw [hi] at FD; have HFC := Aside0.mk (FileCells.mk HFc.c0 HFc.c1 HFc.c2 (show BV w (okB w ok) Bf cf f.bs from Kd.V_bound HFc.bv)); have hjl : (j : Int) < fl.length := (by have := (List.getElem?_eq_some_iff.1 hj).1; omega); have hj0 : (0 : Int) ≤ j := Int.natCast_nonneg j; have hcf : (f.bs.length : Int) ≤ cf := (by have := HFc.bv.C.2; omega); clear hj hi HFc
  unfold fsV rop; simp only; clear h; go_enter Try.func28, Try.ntmps28; go_wp2_with fail; refine FD.out.mono ?_; rintro e w1 ⟨rfl, hdb⟩; have DB := Aside0.mk hdb; clear hdb FD
  obtain ⟨⟨q0, q1, q2, q3⟩, ⟨o0, o1, o2, o3, o4⟩, ⟨r0, r1, r2, r3⟩, fz, tz⟩ := DB.out.cells; have f0 := fz 0; have f1 := fz 1; have f2 := fz 2; have f3 := fz 3; have t0 := tz 0; have t1 := tz 1; have t2 := tz 2; have t3 := tz 3; clear fz tz; simp only at q0 q1 q2 q3 o0 o1 o2 o3 o4
  have hF := HFC.out.below DB.out.bl; have hA := below_alloc (Below.refl w1.heap.size w1) (.cells #[.string a, .slice none 0 0, .int .i64 0] 104); have p0 := pw_cell_below hA hF.c0; have p1 := pw_cell_below hA hF.c1; have p2 := pw_cell_below hA hF.c2; have q0a := pw_cell_below hA q0; clear hA; have DC := Aside0.mk (DoC.start DB.out hF.bv); clear hF HFC; have hsz := DB.out.sz; have ne0 : ¬ w.heap.size = w1.heap.size := (by omega); have ne1 : ¬ w.heap.size + 1 = w1.heap.size := (by omega); have ne2 : ¬ w.heap.size + 2 = w1.heap.size := (by omega); have ne0' : ¬ w1.heap.size = w.heap.size := (by omega); have ne1' : ¬ w1.heap.size = w.heap.size + 1 := (by omega); have ne2' : ¬ w1.heap.size = w.heap.size + 2 := (by omega); clear hsz
  obtain ⟨⟨q0', q1', q2', q3'⟩, ⟨o0', o1', o2', o3', o4'⟩, ⟨r0', r1', r2', r3'⟩, fz, tz⟩ := DC.out.b.cells; have f0' := fz 0; have f1' := fz 1; have f2' := fz 2; have f3' := fz 3; have t0' := tz 0; have t1' := tz 1; have t2' := tz 2; have t3' := tz 3; clear fz tz; simp only at q0' q1' q2' q3' o0' o1' o2' o3' o4'
  go_wp2_with fail
  go_quiet (fail)
  go_wp2_with fail
  refine ((DC.out.drewN _).without_ HH.out.h HH.out.hl).mono ?_
  rintro e w3 ⟨Ar, cr, rfl, hR, h3, hb3⟩; have r0 : w3.cell? ⟨w.heap.size + 2, 0, none⟩ = some (.slice none 0 0) := blk_cell h3 0; have r1 : w3.cell? ⟨w.heap.size + 2, 1, none⟩ = some (.int .i64 0) := blk_cell h3 1; have r2 : w3.cell? ⟨w.heap.size + 2, 2, none⟩ = some (.int .i64 0) := blk_cell h3 2; have r3 : w3.cell? ⟨w.heap.size + 2, 3, none⟩ = some (.bool false) := blk_cell h3 3; have t0 := blk_frozen h3 0; have t1 := blk_frozen h3 1; have t2 := blk_frozen h3 2; have t3 := blk_frozen h3 3; have E := Aside0.mk (fun most fuse down => do_end (most := most) (fuse := fuse) (down := down) h3 hb3 hR); clear hR h3 hb3; go_wp2; refine bodyPost_ret (results_ct rfl _ _ (w.heap.size + 2) 50 _ (0, 0) _ rfl (E.out _ _ _).1 Try.underlying50 rfl (by kernel_rfl)) rfl ⟨_, rfl, (E.out _ _ _).2⟩
set_option maxRecDepth 100000 in
set_option maxHeartbeats 4000000 in
theorem do_sync_dec (h : DoIn w ok ⟨fl, most, fuse, false⟩ v ⟨3, a, z, nn, b, keep⟩ B cb) {j : Nat} (hj : fl[j]? = some f) (hi : Vm.idx fl a 0 = j) (hf : 1 < fuse) : Calls Try.prog 28 #[fsV ⟨fl, most, fuse, false⟩ v, rop ⟨3, a, z, nn, b, keep⟩ B cb] w (DoTo w ok ⟨Vm.ins { f with safe := f.bs.length } (Vm.rm fl f.nm), most, (fuse - 1), false⟩ 0) := by
  obtain ⟨A, c, rfl, hc⟩ := h.h.slice; obtain ⟨ad, Bf, cf, rfl, HFc⟩ := h.file rfl hj; have FD := Aside0.mk h.find; have HH := Aside0.mk h; unfold fsV W3 at FD; simp only at *; rw [hi] at FD; have HFC := Aside0.mk (FileCells.mk HFc.c0 HFc.c1 HFc.c2 (show BV w (okB w ok) Bf cf f.bs from Kd.V_bound HFc.bv)); have hjl : (j : Int) < fl.length := (by have := (List.getElem?_eq_some_iff.1 hj).1; omega); have hj0 : (0 : Int) ≤ j := Int.natCast_nonneg j; have hcf : (f.bs.length : Int) ≤ cf := (by have := HFc.bv.C.2; omega); clear hj hi HFc
  have hf1 : fuse ≤ 9223372036854775807 := HH.out.hf1
  have hfz : (fuse - 1 == 0) = false := beq_eq_false_iff_ne.2 (by omega)
  have hfg : fuse > 0 := by omega
  unfold fsV rop; simp only; clear h; go_enter Try.func28, Try.ntmps28; go_wp2_with fail; refine FD.out.mono ?_; rintro e w1 ⟨rfl, hdb⟩; have DB := Aside0.mk hdb; clear hdb FD
  obtain ⟨⟨q0, q1, q2, q3⟩, ⟨o0, o1, o2, o3, o4⟩, ⟨r0, r1, r2, r3⟩, fz, tz⟩ := DB.out.cells; have f0 := fz 0; have f1 := fz 1; have f2 := fz 2; have f3 := fz 3; have t0 := tz 0; have t1 := tz 1; have t2 := tz 2; have t3 := tz 3; clear fz tz; simp only at q0 q1 q2 q3 o0 o1 o2 o3 o4
  have hF := HFC.out.below DB.out.bl; have hA := below_alloc (Below.refl w1.heap.size w1) (.cells #[.string a, .slice none 0 0, .int .i64 0] 104); have p0 := pw_cell_below hA hF.c0; have p1 := pw_cell_below hA hF.c1; have p2 := pw_cell_below hA hF.c2; have q0a := pw_cell_below hA q0; clear hA; have DC := Aside0.mk (DoC.start DB.out hF.bv); clear hF HFC; have hsz := DB.out.sz; have ne0 : ¬ w.heap.size = w1.heap.size := (by omega); have ne1 : ¬ w.heap.size + 1 = w1.heap.size := (by omega); have ne2 : ¬ w.heap.size + 2 = w1.heap.size := (by omega); have ne0' : ¬ w1.heap.size = w.heap.size := (by omega); have ne1' : ¬ w1.heap.size = w.heap.size + 1 := (by omega); have ne2' : ¬ w1.heap.size = w.heap.size + 2 := (by omega); clear hsz
  obtain ⟨⟨q0', q1', q2', q3'⟩, ⟨o0', o1', o2', o3', o4'⟩, ⟨r0', r1', r2', r3'⟩, fz, tz⟩ := DC.out.b.cells; have f0' := fz 0; have f1' := fz 1; have f2' := fz 2; have f3' := fz 3; have t0' := tz 0; have t1' := tz 1; have t2' := tz 2; have t3' := tz 3; clear fz tz; simp only at q0' q1' q2' q3' o0' o1' o2' o3' o4'
  go_wp2_with fail
  go_quiet (fail)
  go_wp2_with fail
  refine ((((DC.out.drewN _).setFuse (fuse - 1)).safe f.bs.length).with_ HH.out.h HH.out.hs HH.out.hl).mono ?_
  rintro e w3 ⟨Ar, cr, rfl, hR, h3, hb3⟩; have r0 : w3.cell? ⟨w.heap.size + 2, 0, none⟩ = some (.slice none 0 0) := blk_cell h3 0; have r1 : w3.cell? ⟨w.heap.size + 2, 1, none⟩ = some (.int .i64 0) := blk_cell h3 1; have r2 : w3.cell? ⟨w.heap.size + 2, 2, none⟩ = some (.int .i64 0) := blk_cell h3 2; have r3 : w3.cell? ⟨w.heap.size + 2, 3, none⟩ = some (.bool false) := blk_cell h3 3; have t0 := blk_frozen h3 0; have t1 := blk_frozen h3 1; have t2 := blk_frozen h3 2; have t3 := blk_frozen h3 3; have E := Aside0.mk (fun most fuse down => do_end (most := most) (fuse := fuse) (down := down) h3 hb3 hR); clear hR h3 hb3; go_wp2; refine bodyPost_ret (results_ct rfl _ _ (w.heap.size + 2) 50 _ (0, 0) _ rfl (E.out _ _ _).1 Try.underlying50 rfl (by kernel_rfl)) rfl ⟨_, rfl, (E.out _ _ _).2⟩
set_option maxRecDepth 100000 in
set_option maxHeartbeats 4000000 in
theorem do_remove_dec (h : DoIn w ok ⟨fl, most, fuse, false⟩ v ⟨6, a, z, nn, b, keep⟩ B cb) {j : Nat} (hj : fl[j]? = some f) (hi : Vm.idx fl a 0 = j) (hf : 1 < fuse) : Calls Try.prog 28 #[fsV ⟨fl, most, fuse, false⟩ v, rop ⟨6, a, z, nn, b, keep⟩ B cb] w (DoTo w ok ⟨Vm.rm fl a, most, (fuse - 1), false⟩ 0) := by
  obtain ⟨A, c, rfl, hc⟩ := h.h.slice; obtain ⟨ad, Bf, cf, rfl, HFc⟩ := h.file rfl hj; have FD := Aside0.mk h.find; have HH := Aside0.mk h; unfold fsV W3 at FD; simp only at *; rw [hi] at FD; have HFC := Aside0.mk (FileCells.mk HFc.c0 HFc.c1 HFc.c2 (show BV w (okB w ok) Bf cf f.bs from Kd.V_bound HFc.bv)); have hjl : (j : Int) < fl.length := (by have := (List.getElem?_eq_some_iff.1 hj).1; omega); have hj0 : (0 : Int) ≤ j := Int.natCast_nonneg j; have hcf : (f.bs.length : Int) ≤ cf := (by have := HFc.bv.C.2; omega); clear hj hi HFc
  have hf1 : fuse ≤ 9223372036854775807 := HH.out.hf1
  have hfz : (fuse - 1 == 0) = false := beq_eq_false_iff_ne.2 (by omega)
  have hfg : fuse > 0 := by omega
  unfold fsV rop; simp only; clear h; go_enter Try.func28, Try.ntmps28; go_wp2_with fail; refine FD.out.mono ?_; rintro e w1 ⟨rfl, hdb⟩; have DB := Aside0.mk hdb; clear hdb FD
  obtain ⟨⟨q0, q1, q2, q3⟩, ⟨o0, o1, o2, o3, o4⟩, ⟨r0, r1, r2, r3⟩, fz, tz⟩ := DB.out.cells; have f0 := fz 0; have f1 := fz 1; have f2 := fz 2; have f3 := fz 3; have t0 := tz 0; have t1 := tz 1; have t2 := tz 2; have t3 := tz 3; clear fz tz; simp only at q0 q1 q2 q3 o0 o1 o2 o3 o4
  have hF := HFC.out.below DB.out.bl; have hA := below_alloc (Below.refl w1.heap.size w1) (.cells #[.string a, .slice none 0 0, .int .i64 0] 104); have p0 := pw_cell_below hA hF.c0; have p1 := pw_cell_below hA hF.c1; have p2 := pw_cell_below hA hF.c2; have q0a := pw_cell_below hA q0; clear hA; have DC := Aside0.mk (DoC.start DB.out hF.bv); clear hF HFC; have hsz := DB.out.sz; have ne0 : ¬ w.heap.size = w1.heap.size := (by omega); have ne1 : ¬ w.heap.size + 1 = w1.heap.size := (by omega); have ne2 : ¬ w.heap.size + 2 = w1.heap.size := (by omega); have ne0' : ¬ w1.heap.size = w.heap.size := (by omega); have ne1' : ¬ w1.heap.size = w.heap.size + 1 := (by omega); have ne2' : ¬ w1.heap.size = w.heap.size + 2 := (by omega); clear hsz
  obtain ⟨⟨q0', q1', q2', q3'⟩, ⟨o0', o1', o2', o3', o4'⟩, ⟨r0', r1', r2', r3'⟩, fz, tz⟩ := DC.out.b.cells; have f0' := fz 0; have f1' := fz 1; have f2' := fz 2; have f3' := fz 3; have t0' := tz 0; have t1' := tz 1; have t2' := tz 2; have t3' := tz 3; clear fz tz; simp only at q0' q1' q2' q3' o0' o1' o2' o3' o4'
  go_wp2_with fail
  go_quiet (fail)
  go_wp2_with fail
  refine (((DC.out.drewN _).setFuse (fuse - 1)).without_ HH.out.h HH.out.hl).mono ?_
  rintro e w3 ⟨Ar, cr, rfl, hR, h3, hb3⟩; have r0 : w3.cell? ⟨w.heap.size + 2, 0, none⟩ = some (.slice none 0 0) := blk_cell h3 0; have r1 : w3.cell? ⟨w.heap.size + 2, 1, none⟩ = some (.int .i64 0) := blk_cell h3 1; have r2 : w3.cell? ⟨w.heap.size + 2, 2, none⟩ = some (.int .i64 0) := blk_cell h3 2; have r3 : w3.cell? ⟨w.heap.size + 2, 3, none⟩ = some (.bool false) := blk_cell h3 3; have t0 := blk_frozen h3 0; have t1 := blk_frozen h3 1; have t2 := blk_frozen h3 2; have t3 := blk_frozen h3 3; have E := Aside0.mk (fun most fuse down => do_end (most := most) (fuse := fuse) (down := down) h3 hb3 hR); clear hR h3 hb3; go_wp2; refine bodyPost_ret (results_ct rfl _ _ (w.heap.size + 2) 50 _ (0, 0) _ rfl (E.out _ _ _).1 Try.underlying50 rfl (by kernel_rfl)) rfl ⟨_, rfl, (E.out _ _ _).2⟩
end

section
variable {w : World} {ok : Nat → Prop} {v : Value} {B : Option Addr} {cb : Nat} {f : AF} {fl : List AF} {most fuse : Int} {a z : ByteArray} {nn : Int} {b keep : List Int} {N : Nat}
set_option maxRecDepth 100000 in
set_option maxHeartbeats 4000000 in
theorem do_create_off (h : DoIn w ok ⟨fl, most, 1, false⟩ v ⟨1, a, z, nn, b, keep⟩ B cb) (hi : Vm.idx fl a 0 = -1) (hn : Vm.named a = true) : Calls Try.prog 28 #[fsV ⟨fl, most, 1, false⟩ v, rop ⟨1, a, z, nn, b, keep⟩ B cb] w (DoTo w ok ⟨fl, most, 0, true⟩ 70) := by
  obtain ⟨A, c, rfl, hc⟩ := h.h.slice; have FD := Aside0.mk h.find; have HH := Aside0.mk h; unfold fsV W3 at FD; simp only at *; rw [hi] at FD; clear hi
  have HNm := Aside0.mk (fun w => ref_named a w HH.out.ha hn)
  clear hn
  unfold fsV rop; simp only; clear h; go_enter Try.func28, Try.ntmps28; go_wp2_with fail; refine FD.out.mono ?_; rintro e w1 ⟨rfl, hdb⟩; have DB := Aside0.mk hdb; clear hdb FD
  obtain ⟨⟨q0, q1, q2, q3⟩, ⟨o0, o1, o2, o3, o4⟩, ⟨r0, r1, r2, r3⟩, fz, tz⟩ := DB.out.cells; have f0 := fz 0; have f1 := fz 1; have f2 := fz 2; have f3 := fz 3; have t0 := tz 0; have t1 := tz 1; have t2 := tz 2; have t3 := tz 3; clear fz tz; simp only at q0 q1 q2 q3 o0 o1 o2 o3 o4
  have DC : Aside0 (DoC w (okB w ok) _ _ _ B cb w1.heap.size ⟨a, [], 0⟩ none 0 (w1.alloc (.cells #[.string a, .slice none 0 0, .int .i64 0] 104))) := ⟨DoC.start (ok := okB w ok) (f := ⟨a, [], 0⟩) (Bf := none) (cf := 0) DB.out (Kd.V_nil _ _ _ _ _)⟩; have hsz := DB.out.sz; have ne0 : ¬ w.heap.size = w1.heap.size := (by omega); have ne1 : ¬ w.heap.size + 1 = w1.heap.size := (by omega); have ne2 : ¬ w.heap.size + 2 = w1.heap.size := (by omega); have ne0' : ¬ w1.heap.size = w.heap.size := (by omega); have ne1' : ¬ w1.heap.size = w.heap.size + 1 := (by omega); have ne2' : ¬ w1.heap.size = w.heap.size + 2 := (by omega); clear hsz
  obtain ⟨⟨q0', q1', q2', q3'⟩, ⟨o0', o1', o2', o3', o4'⟩, ⟨r0', r1', r2', r3'⟩, fz, tz⟩ := DC.out.b.cells; have f0' := fz 0; have f1' := fz 1; have f2' := fz 2; have f3' := fz 3; have t0' := tz 0; have t1' := tz 1; have t2' := tz 2; have t3' := tz 3; clear fz tz; simp only at q0' q1' q2' q3' o0' o1' o2' o3' o4'
  go_wp2_with (go_at_call 63; refine (HNm.out _).mono ?_; rintro e w2 ⟨rfl, rfl⟩)
  go_quiet (fail)
  have E : Aside0 (∀ q, _) := ⟨fun q => do_off (ok := ok) HH.out.h (DC.out.drewN q).b⟩; clear HH DB DC; go_wp2; refine bodyPost_ret (results_ct rfl _ _ (w.heap.size + 2) 50 _ (0, 0) _ rfl (E.out _).1 Try.underlying50 rfl (by kernel_rfl)) rfl ⟨_, rfl, (E.out _).2⟩
set_option maxRecDepth 100000 in
set_option maxHeartbeats 4000000 in
theorem do_create_zero (h : DoIn w ok ⟨fl, most, 0, false⟩ v ⟨1, a, z, nn, b, keep⟩ B cb) (hi : Vm.idx fl a 0 = -1) (hn : Vm.named a = true) : Calls Try.prog 28 #[fsV ⟨fl, most, 0, false⟩ v, rop ⟨1, a, z, nn, b, keep⟩ B cb] w (DoTo w ok ⟨Vm.ins ⟨a, [], 0⟩ (Vm.rm fl a), most, 0, false⟩ 0) := by
  obtain ⟨A, c, rfl, hc⟩ := h.h.slice; have FD := Aside0.mk h.find; have HH := Aside0.mk h; unfold fsV W3 at FD; simp only at *; rw [hi] at FD; clear hi
  have HNm := Aside0.mk (fun w => ref_named a w HH.out.ha hn)
  clear hn
  unfold fsV rop; simp only; clear h; go_enter Try.func28, Try.ntmps28; go_wp2_with fail; refine FD.out.mono ?_; rintro e w1 ⟨rfl, hdb⟩; have DB := Aside0.mk hdb; clear hdb FD
  obtain ⟨⟨q0, q1, q2, q3⟩, ⟨o0, o1, o2, o3, o4⟩, ⟨r0, r1, r2, r3⟩, fz, tz⟩ := DB.out.cells; have f0 := fz 0; have f1 := fz 1; have f2 := fz 2; have f3 := fz 3; have t0 := tz 0; have t1 := tz 1; have t2 := tz 2; have t3 := tz 3; clear fz tz; simp only at q0 q1 q2 q3 o0 o1 o2 o3 o4
  have DC : Aside0 (DoC w (okB w ok) _ _ _ B cb w1.heap.size ⟨a, [], 0⟩ none 0 (w1.alloc (.cells #[.string a, .slice none 0 0, .int .i64 0] 104))) := ⟨DoC.start (ok := okB w ok) (f := ⟨a, [], 0⟩) (Bf := none) (cf := 0) DB.out (Kd.V_nil _ _ _ _ _)⟩; have hsz := DB.out.sz; have ne0 : ¬ w.heap.size = w1.heap.size := (by omega); have ne1 : ¬ w.heap.size + 1 = w1.heap.size := (by omega); have ne2 : ¬ w.heap.size + 2 = w1.heap.size := (by omega); have ne0' : ¬ w1.heap.size = w.heap.size := (by omega); have ne1' : ¬ w1.heap.size = w.heap.size + 1 := (by omega); have ne2' : ¬ w1.heap.size = w.heap.size + 2 := (by omega); clear hsz
  obtain ⟨⟨q0', q1', q2', q3'⟩, ⟨o0', o1', o2', o3', o4'⟩, ⟨r0', r1', r2', r3'⟩, fz, tz⟩ := DC.out.b.cells; have f0' := fz 0; have f1' := fz 1; have f2' := fz 2; have f3' := fz 3; have t0' := tz 0; have t1' := tz 1; have t2' := tz 2; have t3' := tz 3; clear fz tz; simp only at q0' q1' q2' q3' o0' o1' o2' o3' o4'
  go_wp2_with (go_at_call 63; refine (HNm.out _).mono ?_; rintro e w2 ⟨rfl, rfl⟩)
  go_quiet (fail)
  go_wp2_with fail
  refine (((DC.out.drewN _)).with_ HH.out.h HH.out.hs HH.out.hl).mono ?_
  rintro e w3 ⟨Ar, cr, rfl, hR, h3, hb3⟩; have r0 : w3.cell? ⟨w.heap.size + 2, 0, none⟩ = some (.slice none 0 0) := blk_cell h3 0; have r1 : w3.cell? ⟨w.heap.size + 2, 1, none⟩ = some (.int .i64 0) := blk_cell h3 1; have r2 : w3.cell? ⟨w.heap.size + 2, 2, none⟩ = some (.int .i64 0) := blk_cell h3 2; have r3 : w3.cell? ⟨w.heap.size + 2, 3, none⟩ = some (.bool false) := blk_cell h3 3; have t0 := blk_frozen h3 0; have t1 := blk_frozen h3 1; have t2 := blk_frozen h3 2; have t3 := blk_frozen h3 3; have E := Aside0.mk (fun most fuse down => do_end (most := most) (fuse := fuse) (down := down) h3 hb3 hR); clear hR h3 hb3; go_wp2; refine bodyPost_ret (results_ct rfl _ _ (w.heap.size + 2) 50 _ (0, 0) _ rfl (E.out _ _ _).1 Try.underlying50 rfl (by kernel_rfl)) rfl ⟨_, rfl, (E.out _ _ _).2⟩
set_option maxRecDepth 100000 in
set_option maxHeartbeats 4000000 in
theorem do_create_dec (h : DoIn w ok ⟨fl, most, fuse, false⟩ v ⟨1, a, z, nn, b, keep⟩ B cb) (hi : Vm.idx fl a 0 = -1) (hn : Vm.named a = true) (hf : 1 < fuse) : Calls Try.prog 28 #[fsV ⟨fl, most, fuse, false⟩ v, rop ⟨1, a, z, nn, b, keep⟩ B cb] w (DoTo w ok ⟨Vm.ins ⟨a, [], 0⟩ (Vm.rm fl a), most, (fuse - 1), false⟩ 0) := by
  obtain ⟨A, c, rfl, hc⟩ := h.h.slice; have FD := Aside0.mk h.find; have HH := Aside0.mk h; unfold fsV W3 at FD; simp only at *; rw [hi] at FD; clear hi
  have HNm := Aside0.mk (fun w => ref_named a w HH.out.ha hn)
  clear hn
  have hf1 : fuse ≤ 9223372036854775807 := HH.out.hf1
  have hfz : (fuse - 1 == 0) = false := beq_eq_false_iff_ne.2 (by omega)
  have hfg : fuse > 0 := by omega
  unfold fsV rop; simp only; clear h; go_enter Try.func28, Try.ntmps28; go_wp2_with fail; refine FD.out.mono ?_; rintro e w1 ⟨rfl, hdb⟩; have DB := Aside0.mk hdb; clear hdb FD
  obtain ⟨⟨q0, q1, q2, q3⟩, ⟨o0, o1, o2, o3, o4⟩, ⟨r0, r1, r2, r3⟩, fz, tz⟩ := DB.out.cells; have f0 := fz 0; have f1 := fz 1; have f2 := fz 2; have f3 := fz 3; have t0 := tz 0; have t1 := tz 1; have t2 := tz 2; have t3 := tz 3; clear fz tz; simp only at q0 q1 q2 q3 o0 o1 o2 o3 o4
  have DC : Aside0 (DoC w (okB w ok) _ _ _ B cb w1.heap.size ⟨a, [], 0⟩ none 0 (w1.alloc (.cells #[.string a, .slice none 0 0, .int .i64 0] 104))) := ⟨DoC.start (ok := okB w ok) (f := ⟨a, [], 0⟩) (Bf := none) (cf := 0) DB.out (Kd.V_nil _ _ _ _ _)⟩; have hsz := DB.out.sz; have ne0 : ¬ w.heap.size = w1.heap.size := (by omega); have ne1 : ¬ w.heap.size + 1 = w1.heap.size := (by omega); have ne2 : ¬ w.heap.size + 2 = w1.heap.size := (by omega); have ne0' : ¬ w1.heap.size = w.heap.size := (by omega); have ne1' : ¬ w1.heap.size = w.heap.size + 1 := (by omega); have ne2' : ¬ w1.heap.size = w.heap.size + 2 := (by omega); clear hsz
  obtain ⟨⟨q0', q1', q2', q3'⟩, ⟨o0', o1', o2', o3', o4'⟩, ⟨r0', r1', r2', r3'⟩, fz, tz⟩ := DC.out.b.cells; have f0' := fz 0; have f1' := fz 1; have f2' := fz 2; have f3' := fz 3; have t0' := tz 0; have t1' := tz 1; have t2' := tz 2; have t3' := tz 3; clear fz tz; simp only at q0' q1' q2' q3' o0' o1' o2' o3' o4'
  go_wp2_with (go_at_call 63; refine (HNm.out _).mono ?_; rintro e w2 ⟨rfl, rfl⟩)
  go_quiet (fail)
  go_wp2_with fail
  refine ((((DC.out.drewN _).setFuse (fuse - 1))).with_ HH.out.h HH.out.hs HH.out.hl).mono ?_
  rintro e w3 ⟨Ar, cr, rfl, hR, h3, hb3⟩; have r0 : w3.cell? ⟨w.heap.size + 2, 0, none⟩ = some (.slice none 0 0) := blk_cell h3 0; have r1 : w3.cell? ⟨w.heap.size + 2, 1, none⟩ = some (.int .i64 0) := blk_cell h3 1; have r2 : w3.cell? ⟨w.heap.size + 2, 2, none⟩ = some (.int .i64 0) := blk_cell h3 2; have r3 : w3.cell? ⟨w.heap.size + 2, 3, none⟩ = some (.bool false) := blk_cell h3 3; have t0 := blk_frozen h3 0; have t1 := blk_frozen h3 1; have t2 := blk_frozen h3 2; have t3 := blk_frozen h3 3; have E := Aside0.mk (fun most fuse down => do_end (most := most) (fuse := fuse) (down := down) h3 hb3 hR); clear hR h3 hb3; go_wp2; refine bodyPost_ret (results_ct rfl _ _ (w.heap.size + 2) 50 _ (0, 0) _ rfl (E.out _ _ _).1 Try.underlying50 rfl (by kernel_rfl)) rfl ⟨_, rfl, (E.out _ _ _).2⟩
end
end Go.Proofs.Ythjdgiobchiloaa
