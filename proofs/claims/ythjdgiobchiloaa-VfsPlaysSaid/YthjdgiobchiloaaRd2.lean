/-
  What is proved: words for Do of colloquyref07; its ways that answer an error ahead of the step.
  What is proved: Do of colloquyref07: Cut and Append that are refused; words for the file's box.
  What is proved: Do of colloquyref07: words for its step; Sync.
-/
import Derived.Test.YthjdgiobchiloaaRk6
import Derived.Deep.RegionHeld3
import Derived.IntWalk
namespace Go.Proofs.Ythjdgiobchiloaa
open Go.RowKit Go.Proofs.YthjdgiobchiloaaW.PrintWords
set_option linter.unusedVariables false
set_option linter.unusedSimpArgs false

def rop (o : OpM) (B : Option Addr) (cb : Nat) : Value := .agg #[.int .i64 o.kind, .string o.a, .string o.z, .int .i64 o.n, .slice B o.b.length cb]
structure DoIn (w : World) (ok : Nat → Prop) (m : AS) (v : Value) (o : OpM) (B : Option Addr) (cb : Nat) : Prop where
  h : RefAt w ok m.fl v
  hs : Sorted m.fl
  hl : m.fl.length ≤ 1099511627770
  hu : Vm.used m.fl + o.b.length ≤ 140737488355328
  hb : (Kd.int .u8).C w B o.b.length o.b
  hcb : o.b.length ≤ cb
  ha : o.a.size ≤ maxLen
  hz : o.z.size ≤ maxLen
  hf0 : 0 ≤ m.fuse
  hf1 : m.fuse ≤ 9223372036854775807
  hm0 : 0 ≤ m.most
  hm1 : m.most ≤ 9223372036854775807
def DoTo (w : World) (ok : Nat → Prop) (m' : AS) (r : Int) (e : Ending) (w' : World) : Prop := ∃ v', e = .returned (.tuple #[fsV m' v', .int .i64 r]) ∧ RefTo w ok m'.fl v' w'
/-- The boxes of Do. -/
structure DoB (w : World) (m : AS) (v : Value) (o : OpM) (B : Option Addr) (cb : Nat) (wr : World) : Prop where
  h1 : wr.heap[w.heap.size]? = some (.cells #[v, .int .i64 m.most, .int .i64 m.fuse, .bool m.down] 50 (0, 0))
  h2 : wr.heap[w.heap.size + 1]? = some (.cells #[.int .i64 o.kind, .string o.a, .string o.z, .int .i64 o.n, .slice B o.b.length cb] 55 (0, 0))
  h3 : wr.heap[w.heap.size + 2]? = some (.cells #[.slice none 0 0, .int .i64 0, .int .i64 0, .bool false] 50 (0, 0))
  bl : Below w.heap.size w wr
  sz : w.heap.size + 3 ≤ wr.heap.size
def W3 (w : World) (m : AS) (v : Value) (o : OpM) (B : Option Addr) (cb : Nat) : World :=
  ((w.alloc (.cells #[v, .int .i64 m.most, .int .i64 m.fuse, .bool m.down] 50)).alloc (.cells #[.int .i64 o.kind, .string o.a, .string o.z, .int .i64 o.n, .slice B o.b.length cb] 55)).alloc (.cells #[.slice none 0 0, .int .i64 0, .int .i64 0, .bool false] 50)
section
variable {w : World} {ok : Nat → Prop} {m : AS} {v : Value} {o : OpM} {B : Option Addr} {cb : Nat}
theorem DoB.start : DoB w m v o B cb (W3 w m v o B cb) := by
  unfold W3
  have b1 := below_alloc (Below.refl w.heap.size w) (.cells #[v, .int .i64 m.most, .int .i64 m.fuse, .bool m.down] 50)
  have s1 : (w.alloc (.cells #[v, .int .i64 m.most, .int .i64 m.fuse, .bool m.down] 50)).heap.size = w.heap.size + 1 := by simp
  have h1 := blk_new w (.cells #[v, .int .i64 m.most, .int .i64 m.fuse, .bool m.down] 50)
  generalize w.alloc (.cells #[v, .int .i64 m.most, .int .i64 m.fuse, .bool m.down] 50) = w1 at *
  have b2 := below_alloc b1 (.cells #[.int .i64 o.kind, .string o.a, .string o.z, .int .i64 o.n, .slice B o.b.length cb] 55)
  have s2 : (w1.alloc (.cells #[.int .i64 o.kind, .string o.a, .string o.z, .int .i64 o.n, .slice B o.b.length cb] 55)).heap.size = w.heap.size + 2 := by simp [s1]
  have h2 := blk_new w1 (.cells #[.int .i64 o.kind, .string o.a, .string o.z, .int .i64 o.n, .slice B o.b.length cb] 55)
  rw [s1] at h2
  replace h1 := blk_alloc h1 (.cells #[.int .i64 o.kind, .string o.a, .string o.z, .int .i64 o.n, .slice B o.b.length cb] 55)
  generalize w1.alloc (.cells #[.int .i64 o.kind, .string o.a, .string o.z, .int .i64 o.n, .slice B o.b.length cb] 55) = w2 at *
  have h3 := blk_new w2 (.cells #[.slice none 0 0, .int .i64 0, .int .i64 0, .bool false] 50)
  rw [s2] at h3
  exact ⟨blk_alloc h1 _, blk_alloc h2 _, h3, below_alloc b2 _, by simp [s2]⟩
theorem DoB.below {wr w1 : World} (h : DoB w m v o B cb wr) (hb : Below wr.heap.size wr w1) : DoB w m v o B cb w1 := ⟨blk_below h.h1 hb, blk_below h.h2 hb, blk_below h.h3 hb, below_then h.bl h.bl.size hb, Nat.le_trans h.sz hb.size⟩
theorem DoB.drewN {wr : World} (h : DoB w m v o B cb wr) (n : Nat) : DoB w m v o B cb (wr.drewN n) := ⟨h.h1, h.h2, h.h3, pw_below_drewN h.bl n, h.sz⟩
theorem DoB.cells {wr : World} (h : DoB w m v o B cb wr) :
    (wr.cell? ⟨w.heap.size, 0, none⟩ = some v ∧ wr.cell? ⟨w.heap.size, 1, none⟩ = some (.int .i64 m.most) ∧ wr.cell? ⟨w.heap.size, 2, none⟩ = some (.int .i64 m.fuse) ∧ wr.cell? ⟨w.heap.size, 3, none⟩ = some (.bool m.down)) ∧
    (wr.cell? ⟨w.heap.size + 1, 0, none⟩ = some (.int .i64 o.kind) ∧ wr.cell? ⟨w.heap.size + 1, 1, none⟩ = some (.string o.a) ∧ wr.cell? ⟨w.heap.size + 1, 2, none⟩ = some (.string o.z) ∧ wr.cell? ⟨w.heap.size + 1, 3, none⟩ = some (.int .i64 o.n) ∧ wr.cell? ⟨w.heap.size + 1, 4, none⟩ = some (.slice B o.b.length cb)) ∧
    (wr.cell? ⟨w.heap.size + 2, 0, none⟩ = some (.slice none 0 0) ∧ wr.cell? ⟨w.heap.size + 2, 1, none⟩ = some (.int .i64 0) ∧ wr.cell? ⟨w.heap.size + 2, 2, none⟩ = some (.int .i64 0) ∧ wr.cell? ⟨w.heap.size + 2, 3, none⟩ = some (.bool false)) ∧
    (∀ j, wr.frozen? ⟨w.heap.size, j, none⟩ = false) ∧ (∀ j, wr.frozen? ⟨w.heap.size + 2, j, none⟩ = false) :=
  ⟨⟨blk_cell h.h1 0, blk_cell h.h1 1, blk_cell h.h1 2, blk_cell h.h1 3⟩, ⟨blk_cell h.h2 0, blk_cell h.h2 1, blk_cell h.h2 2, blk_cell h.h2 3, blk_cell h.h2 4⟩, ⟨blk_cell h.h3 0, blk_cell h.h3 1, blk_cell h.h3 2, blk_cell h.h3 3⟩, fun j => blk_frozen h.h1 j, fun j => blk_frozen h.h3 j⟩
theorem DoIn.find (h : DoIn w ok m v o B cb) : Calls Try.prog 62 #[fsV m v, .string o.a] (W3 w m v o B cb) fun e w' => e = .returned (.int .i64 (Vm.idx m.fl o.a 0)) ∧ DoB w m v o B cb w' := by
  have hb := DoB.start (w := w) (m := m) (v := v) (o := o) (B := B) (cb := cb)
  refine (ref_find (Kd.V_below h.h hb.bl) o.a (by have := h.hl; omega)).mono ?_
  rintro e w' ⟨rfl, hb1⟩
  exact ⟨rfl, hb.below hb1⟩
/-- The end of a way that leaves the disk. -/
theorem do_same (h : DoIn w ok m v o B cb) {wr : World} (hb : DoB w m v o B cb wr) :
    ((((wr.setCell ⟨w.heap.size + 2, 0, none⟩ v).setCell ⟨w.heap.size + 2, 1, none⟩ (.int .i64 m.most)).setCell ⟨w.heap.size + 2, 2, none⟩ (.int .i64 m.fuse)).setCell ⟨w.heap.size + 2, 3, none⟩ (.bool m.down)).heap[w.heap.size + 2]? = some (.cells #[v, .int .i64 m.most, .int .i64 m.fuse, .bool m.down] 50 (0, 0)) ∧
    RefTo w ok m.fl v ((((wr.setCell ⟨w.heap.size + 2, 0, none⟩ v).setCell ⟨w.heap.size + 2, 1, none⟩ (.int .i64 m.most)).setCell ⟨w.heap.size + 2, 2, none⟩ (.int .i64 m.fuse)).setCell ⟨w.heap.size + 2, 3, none⟩ (.bool m.down)) := by
  have K2 := keeps_set4 wr (w.heap.size + 2) v (.int .i64 m.most) (.int .i64 m.fuse) (.bool m.down)
  have hbl := hb.bl.trans (K2.below (fun b hb => by omega) hb.bl.size)
  exact ⟨blk_set4 hb.h3 _ _ _ _, Kd.V_mono (Kd.V_below h.h hbl) (fun _ hk => .inl hk), hbl⟩
/-- How the values stand once the disk and the operation are open. -/
theorem do_same' {fl : List AF} {most fuse : Int} {down : Bool} {kind nn : Int} {a z : ByteArray} {b keep : List Int} (h : RefAt w ok fl v) {wr : World} (hb : DoB w ⟨fl, most, fuse, down⟩ v ⟨kind, a, z, nn, b, keep⟩ B cb wr) :
    ((((wr.setCell ⟨w.heap.size + 2, 0, none⟩ v).setCell ⟨w.heap.size + 2, 1, none⟩ (.int .i64 most)).setCell ⟨w.heap.size + 2, 2, none⟩ (.int .i64 fuse)).setCell ⟨w.heap.size + 2, 3, none⟩ (.bool down)).heap[w.heap.size + 2]? = some (.cells #[v, .int .i64 most, .int .i64 fuse, .bool down] 50 (0, 0)) ∧
    RefTo w ok fl v ((((wr.setCell ⟨w.heap.size + 2, 0, none⟩ v).setCell ⟨w.heap.size + 2, 1, none⟩ (.int .i64 most)).setCell ⟨w.heap.size + 2, 2, none⟩ (.int .i64 fuse)).setCell ⟨w.heap.size + 2, 3, none⟩ (.bool down)) := by
  have K2 := keeps_set4 wr (w.heap.size + 2) v (.int .i64 most) (.int .i64 fuse) (.bool down)
  have hbl := hb.bl.trans (K2.below (fun b hb => by omega) hb.bl.size)
  exact ⟨blk_set4 hb.h3 _ _ _ _, Kd.V_mono (Kd.V_below h hbl) (fun _ hk => .inl hk), hbl⟩
set_option maxRecDepth 100000 in
set_option maxHeartbeats 2000000 in
theorem do_down (h : DoIn w ok m v o B cb) (hd : m.down = true) : Calls Try.prog 28 #[fsV m v, rop o B cb] w (DoTo w ok m 70) := by
  obtain ⟨A, c, rfl, hc⟩ := h.h.slice; obtain ⟨kind, a, z, nn, b, keep⟩ := o; obtain ⟨fl, most, fuse, down⟩ := m; have FD := Aside0.mk h.find; have HH := Aside0.mk h; unfold fsV W3 at FD; simp only at *; subst hd
  have HB := Aside0.mk (DoB.start (w := w) (m := ⟨fl, most, fuse, true⟩) (v := .slice A fl.length c) (o := ⟨kind, a, z, nn, b, keep⟩) (B := B) (cb := cb))
  unfold W3 at HB
  have DB := HB
  obtain ⟨⟨q0, q1, q2, q3⟩, ⟨o0, o1, o2, o3, o4⟩, ⟨r0, r1, r2, r3⟩, fz, tz⟩ := DB.out.cells; have f0 := fz 0; have f1 := fz 1; have f2 := fz 2; have f3 := fz 3; have t0 := tz 0; have t1 := tz 1; have t2 := tz 2; have t3 := tz 3; clear fz tz; simp only at q0 q1 q2 q3 o0 o1 o2 o3 o4
  unfold fsV rop
  simp only at *
  clear h FD q0 q1 q2 q3 o0 o1 o2 o3 o4 r0 r1 r2 r3 f0 f1 f2 f3 t0 t1 t2 t3 DB
  have E : Aside0 (RefTo w ok fl (.slice A fl.length c) (((w.alloc (.cells #[.slice A fl.length c, .int .i64 most, .int .i64 fuse, .bool true] 50)).alloc (.cells #[.int .i64 kind, .string a, .string z, .int .i64 nn, .slice B b.length cb] 55)).alloc (.cells #[.slice A fl.length c, .int .i64 most, .int .i64 fuse, .bool true] 50))) := by
    have hbl := below_alloc (below_alloc (below_alloc (Below.refl w.heap.size w) (.cells #[.slice A fl.length c, .int .i64 most, .int .i64 fuse, .bool true] 50)) (.cells #[.int .i64 kind, .string a, .string z, .int .i64 nn, .slice B b.length cb] 55)) (.cells #[.slice A fl.length c, .int .i64 most, .int .i64 fuse, .bool true] 50)
    exact ⟨Kd.V_mono (Kd.V_below HH.out.h hbl) (fun _ hk => .inl hk), hbl⟩
  clear HB HH hc
  go_enter Try.func28, Try.ntmps28
  go_wp2
  exact bodyPost_ret (v := .tuple #[.agg #[.slice A fl.length c, .int .i64 most, .int .i64 fuse, .bool true], .int .i64 70]) (by simp [results, Try.results28, go_sem]) rfl ⟨_, rfl, E.out⟩
set_option maxRecDepth 100000 in
set_option maxHeartbeats 2000000 in
theorem do_name1 (h : DoIn w ok m v o B cb) (hd : m.down = false) (hk : o.kind = 1) (hn : Vm.named o.a = false) : Calls Try.prog 28 #[fsV m v, rop o B cb] w (DoTo w ok m 1) := by
  obtain ⟨A, c, rfl, hc⟩ := h.h.slice; obtain ⟨kind, a, z, nn, b, keep⟩ := o; obtain ⟨fl, most, fuse, down⟩ := m; have FD := Aside0.mk h.find; have HH := Aside0.mk h; unfold fsV W3 at FD; simp only at *; subst hd
  subst hk
  have HNm := Aside0.mk (fun w => ref_named a w h.ha hn)
  clear hn hc
  unfold fsV rop; simp only; clear h; go_enter Try.func28, Try.ntmps28; go_wp2_with fail; refine FD.out.mono ?_; rintro e w1 ⟨rfl, hdb⟩; have DB := Aside0.mk hdb; clear hdb FD
  obtain ⟨⟨q0, q1, q2, q3⟩, ⟨o0, o1, o2, o3, o4⟩, ⟨r0, r1, r2, r3⟩, fz, tz⟩ := DB.out.cells; have f0 := fz 0; have f1 := fz 1; have f2 := fz 2; have f3 := fz 3; have t0 := tz 0; have t1 := tz 1; have t2 := tz 2; have t3 := tz 3; clear fz tz; simp only at q0 q1 q2 q3 o0 o1 o2 o3 o4
  go_wp2_with (go_at_call 63; refine (HNm.out _).mono ?_; rintro e w2 ⟨rfl, rfl⟩)
  have E := Aside0.mk (do_same' (ok := ok) HH.out.h DB.out); clear DB HH; go_wp2; refine bodyPost_ret (results_ct rfl _ _ (w.heap.size + 2) 50 _ (0, 0) _ rfl E.out.1 Try.underlying50 rfl (by kernel_rfl)) rfl ⟨_, rfl, E.out.2⟩
set_option maxRecDepth 100000 in
set_option maxHeartbeats 2000000 in
theorem do_name4 (h : DoIn w ok m v o B cb) (hd : m.down = false) (hk : o.kind = 4) (hn : Vm.named o.z = false) : Calls Try.prog 28 #[fsV m v, rop o B cb] w (DoTo w ok m 1) := by
  obtain ⟨A, c, rfl, hc⟩ := h.h.slice; obtain ⟨kind, a, z, nn, b, keep⟩ := o; obtain ⟨fl, most, fuse, down⟩ := m; have FD := Aside0.mk h.find; have HH := Aside0.mk h; unfold fsV W3 at FD; simp only at *; subst hd
  subst hk
  have HNm := Aside0.mk (fun w => ref_named z w h.hz hn)
  clear hn hc
  unfold fsV rop; simp only; clear h; go_enter Try.func28, Try.ntmps28; go_wp2_with fail; refine FD.out.mono ?_; rintro e w1 ⟨rfl, hdb⟩; have DB := Aside0.mk hdb; clear hdb FD
  obtain ⟨⟨q0, q1, q2, q3⟩, ⟨o0, o1, o2, o3, o4⟩, ⟨r0, r1, r2, r3⟩, fz, tz⟩ := DB.out.cells; have f0 := fz 0; have f1 := fz 1; have f2 := fz 2; have f3 := fz 3; have t0 := tz 0; have t1 := tz 1; have t2 := tz 2; have t3 := tz 3; clear fz tz; simp only at q0 q1 q2 q3 o0 o1 o2 o3 o4
  go_wp2_with (go_at_call 63; refine (HNm.out _).mono ?_; rintro e w2 ⟨rfl, rfl⟩)
  have E := Aside0.mk (do_same' (ok := ok) HH.out.h DB.out); clear DB HH; go_wp2; refine bodyPost_ret (results_ct rfl _ _ (w.heap.size + 2) 50 _ (0, 0) _ rfl E.out.1 Try.underlying50 rfl (by kernel_rfl)) rfl ⟨_, rfl, E.out.2⟩
set_option maxRecDepth 100000 in
set_option maxHeartbeats 2000000 in
theorem do_twice (h : DoIn w ok m v o B cb) (hd : m.down = false) (hk : o.kind = 1) (hn : Vm.named o.a = true) {j : Nat} (hj : Vm.idx m.fl o.a 0 = j) : Calls Try.prog 28 #[fsV m v, rop o B cb] w (DoTo w ok m 5) := by
  obtain ⟨A, c, rfl, hc⟩ := h.h.slice; obtain ⟨kind, a, z, nn, b, keep⟩ := o; obtain ⟨fl, most, fuse, down⟩ := m; have FD := Aside0.mk h.find; have HH := Aside0.mk h; unfold fsV W3 at FD; simp only at *; subst hd
  subst hk
  have HNm := Aside0.mk (fun w => ref_named a w h.ha hn)
  rw [hj] at FD
  clear hn hc hj
  unfold fsV rop; simp only; clear h; go_enter Try.func28, Try.ntmps28; go_wp2_with fail; refine FD.out.mono ?_; rintro e w1 ⟨rfl, hdb⟩; have DB := Aside0.mk hdb; clear hdb FD
  obtain ⟨⟨q0, q1, q2, q3⟩, ⟨o0, o1, o2, o3, o4⟩, ⟨r0, r1, r2, r3⟩, fz, tz⟩ := DB.out.cells; have f0 := fz 0; have f1 := fz 1; have f2 := fz 2; have f3 := fz 3; have t0 := tz 0; have t1 := tz 1; have t2 := tz 2; have t3 := tz 3; clear fz tz; simp only at q0 q1 q2 q3 o0 o1 o2 o3 o4
  go_wp2_with (go_at_call 63; refine (HNm.out _).mono ?_; rintro e w2 ⟨rfl, rfl⟩)
  have E := Aside0.mk (do_same' (ok := ok) HH.out.h DB.out); clear DB HH; go_wp2; refine bodyPost_ret (results_ct rfl _ _ (w.heap.size + 2) 50 _ (0, 0) _ rfl E.out.1 Try.underlying50 rfl (by kernel_rfl)) rfl ⟨_, rfl, E.out.2⟩
set_option maxRecDepth 100000 in
set_option maxHeartbeats 2000000 in
theorem do_none4 (h : DoIn w ok m v o B cb) (hd : m.down = false) (hk : o.kind = 4) (hn : Vm.named o.z = true) (hj : Vm.idx m.fl o.a 0 = -1) : Calls Try.prog 28 #[fsV m v, rop o B cb] w (DoTo w ok m 4) := by
  obtain ⟨A, c, rfl, hc⟩ := h.h.slice; obtain ⟨kind, a, z, nn, b, keep⟩ := o; obtain ⟨fl, most, fuse, down⟩ := m; have FD := Aside0.mk h.find; have HH := Aside0.mk h; unfold fsV W3 at FD; simp only at *; subst hd
  subst hk
  have HNm := Aside0.mk (fun w => ref_named z w h.hz hn)
  rw [hj] at FD
  clear hn hc hj
  unfold fsV rop; simp only; clear h; go_enter Try.func28, Try.ntmps28; go_wp2_with fail; refine FD.out.mono ?_; rintro e w1 ⟨rfl, hdb⟩; have DB := Aside0.mk hdb; clear hdb FD
  obtain ⟨⟨q0, q1, q2, q3⟩, ⟨o0, o1, o2, o3, o4⟩, ⟨r0, r1, r2, r3⟩, fz, tz⟩ := DB.out.cells; have f0 := fz 0; have f1 := fz 1; have f2 := fz 2; have f3 := fz 3; have t0 := tz 0; have t1 := tz 1; have t2 := tz 2; have t3 := tz 3; clear fz tz; simp only at q0 q1 q2 q3 o0 o1 o2 o3 o4
  go_wp2_with (go_at_call 63; refine (HNm.out _).mono ?_; rintro e w2 ⟨rfl, rfl⟩)
  have E := Aside0.mk (do_same' (ok := ok) HH.out.h DB.out); clear DB HH; go_wp2; refine bodyPost_ret (results_ct rfl _ _ (w.heap.size + 2) 50 _ (0, 0) _ rfl E.out.1 Try.underlying50 rfl (by kernel_rfl)) rfl ⟨_, rfl, E.out.2⟩
set_option maxRecDepth 100000 in
set_option maxHeartbeats 2000000 in
theorem do_none (h : DoIn w ok m v o B cb) (hd : m.down = false) (h1 : o.kind ≠ 1) (h4 : o.kind ≠ 4) (hj : Vm.idx m.fl o.a 0 = -1) : Calls Try.prog 28 #[fsV m v, rop o B cb] w (DoTo w ok m 4) := by
  obtain ⟨A, c, rfl, hc⟩ := h.h.slice; obtain ⟨kind, a, z, nn, b, keep⟩ := o; obtain ⟨fl, most, fuse, down⟩ := m; have FD := Aside0.mk h.find; have HH := Aside0.mk h; unfold fsV W3 at FD; simp only at *; subst hd
  have k1 : (kind == 1) = false := beq_eq_false_iff_ne.2 h1
  have k2 : (kind != 1) = true := bne_iff_ne.2 h1
  have k4 : (kind == 4) = false := beq_eq_false_iff_ne.2 h4
  rw [hj] at FD
  clear hc hj h1 h4
  unfold fsV rop; simp only; clear h; go_enter Try.func28, Try.ntmps28; go_wp2_with fail; refine FD.out.mono ?_; rintro e w1 ⟨rfl, hdb⟩; have DB := Aside0.mk hdb; clear hdb FD
  obtain ⟨⟨q0, q1, q2, q3⟩, ⟨o0, o1, o2, o3, o4⟩, ⟨r0, r1, r2, r3⟩, fz, tz⟩ := DB.out.cells; have f0 := fz 0; have f1 := fz 1; have f2 := fz 2; have f3 := fz 3; have t0 := tz 0; have t1 := tz 1; have t2 := tz 2; have t3 := tz 3; clear fz tz; simp only at q0 q1 q2 q3 o0 o1 o2 o3 o4
  go_wp2_with fail
  have E := Aside0.mk (do_same' (ok := ok) HH.out.h DB.out); clear DB HH; go_wp2; refine bodyPost_ret (results_ct rfl _ _ (w.heap.size + 2) 50 _ (0, 0) _ rfl E.out.1 Try.underlying50 rfl (by kernel_rfl)) rfl ⟨_, rfl, E.out.2⟩
end

/-- The boxes of Do, with the file's. -/
structure DoC (w : World) (ok : Nat → Prop) (m : AS) (v : Value) (o : OpM) (B : Option Addr) (cb : Nat) (g : Nat) (f : AF) (Bf : Option Addr) (cf : Nat) (wr : World) : Prop where
  b : DoB w m v o B cb wr
  hf : wr.heap[g]? = some (.cells #[.string f.nm, .slice Bf f.bs.length cf, .int .i64 f.safe] 104 (0, 0))
  gl : w.heap.size + 3 ≤ g
  bv : BV wr ok Bf cf f.bs
section
variable {w : World} {ok : Nat → Prop} {m : AS} {v : Value} {o : OpM} {B : Option Addr} {cb : Nat} {g : Nat} {f : AF} {Bf : Option Addr} {cf : Nat}
theorem DoC.start {w1 : World} (h : DoB w m v o B cb w1) (hb : BV w1 ok Bf cf f.bs) : DoC w ok m v o B cb w1.heap.size f Bf cf (w1.alloc (.cells #[.string f.nm, .slice Bf f.bs.length cf, .int .i64 f.safe] 104)) :=
  ⟨h.below (below_alloc (Below.refl _ _) _), blk_new _ _, h.sz, Kd.V_alloc hb _⟩
theorem DoC.below {wr w1 : World} (h : DoC w ok m v o B cb g f Bf cf wr) (hb : Below wr.heap.size wr w1) : DoC w ok m v o B cb g f Bf cf w1 := ⟨h.b.below hb, blk_below h.hf hb, h.gl, Kd.V_below h.bv hb⟩
theorem DoC.drewN {wr : World} (h : DoC w ok m v o B cb g f Bf cf wr) (n : Nat) : DoC w ok m v o B cb g f Bf cf (wr.drewN n) := ⟨h.b.drewN n, h.hf, h.gl, Kd.V_drewN h.bv n⟩
theorem DoC.cells {wr : World} (h : DoC w ok m v o B cb g f Bf cf wr) : wr.cell? ⟨g, 0, none⟩ = some (.string f.nm) ∧ wr.cell? ⟨g, 1, none⟩ = some (.slice Bf f.bs.length cf) ∧ wr.cell? ⟨g, 2, none⟩ = some (.int .i64 f.safe) ∧ (∀ j, wr.frozen? ⟨g, j, none⟩ = false) :=
  ⟨blk_cell h.hf 0, blk_cell h.hf 1, blk_cell h.hf 2, fun j => blk_frozen h.hf j⟩
theorem DoIn.file (h : DoIn w ok m v o B cb) {A : Option Addr} {c : Nat} (hv : v = .slice A m.fl.length c) {j : Nat} {f : AF} (hj : m.fl[j]? = some f) : ∃ ad Bf cf, A = some ad ∧ FileCells w ok (ad.add (j * 3)) f Bf cf := by
  obtain ⟨hl, e⟩ := List.getElem?_eq_some_iff.1 hj
  have h1 := h.h
  rw [hv] at h1
  obtain ⟨ad, Bf, cf, h2, h3⟩ := h1.at_ j hl
  rw [e] at h3
  exact ⟨ad, Bf, cf, h2, h3⟩
set_option maxRecDepth 100000 in
set_option maxHeartbeats 2000000 in
theorem do_cut1 (h : DoIn w ok m v o B cb) (hd : m.down = false) (hk : o.kind = 5) {j : Nat} (hj : m.fl[j]? = some f) (hi : Vm.idx m.fl o.a 0 = j) (hn : o.n < 0 ∨ (f.bs.length : Int) < o.n) : Calls Try.prog 28 #[fsV m v, rop o B cb] w (DoTo w ok m 1) := by
  obtain ⟨A, c, rfl, hc⟩ := h.h.slice; obtain ⟨ad, Bf, cf, rfl, HFc⟩ := h.file rfl hj; obtain ⟨kind, a, z, nn, b, keep⟩ := o; obtain ⟨fl, most, fuse, down⟩ := m; have FD := Aside0.mk h.find; have HH := Aside0.mk h; unfold fsV W3 at FD; simp only at *; subst hd; rw [hi] at FD; have HFC := Aside0.mk HFc; have hjl : (j : Int) < fl.length := (by have := (List.getElem?_eq_some_iff.1 hj).1; omega); have hj0 : (0 : Int) ≤ j := Int.natCast_nonneg j; clear hj hi HFc
  subst hk
  by_cases hneg : nn < 0
  · clear hn
    unfold fsV rop; simp only; clear h; go_enter Try.func28, Try.ntmps28; go_wp2_with fail; refine FD.out.mono ?_; rintro e w1 ⟨rfl, hdb⟩; have DB := Aside0.mk hdb; clear hdb FD
    obtain ⟨⟨q0, q1, q2, q3⟩, ⟨o0, o1, o2, o3, o4⟩, ⟨r0, r1, r2, r3⟩, fz, tz⟩ := DB.out.cells; have f0 := fz 0; have f1 := fz 1; have f2 := fz 2; have f3 := fz 3; have t0 := tz 0; have t1 := tz 1; have t2 := tz 2; have t3 := tz 3; clear fz tz; simp only at q0 q1 q2 q3 o0 o1 o2 o3 o4
    have hF := HFC.out.below DB.out.bl; have hA := below_alloc (Below.refl w1.heap.size w1) (.cells #[.string a, .slice none 0 0, .int .i64 0] 104); have p0 := pw_cell_below hA hF.c0; have p1 := pw_cell_below hA hF.c1; have p2 := pw_cell_below hA hF.c2; have q0a := pw_cell_below hA q0; clear hA; have DC := Aside0.mk (DoC.start DB.out hF.bv); clear hF HFC
    obtain ⟨⟨q0', q1', q2', q3'⟩, ⟨o0', o1', o2', o3', o4'⟩, ⟨r0', r1', r2', r3'⟩, fz, tz⟩ := DC.out.b.cells; have f0' := fz 0; have f1' := fz 1; have f2' := fz 2; have f3' := fz 3; have t0' := tz 0; have t1' := tz 1; have t2' := tz 2; have t3' := tz 3; clear fz tz; simp only at q0' q1' q2' q3' o0' o1' o2' o3' o4'; obtain ⟨x0, x1, x2, xz⟩ := DC.out.cells; have xf0 := xz 0; have xf1 := xz 1; have xf2 := xz 2; clear xz
    go_wp2_with fail
    have E := Aside0.mk (do_same' (ok := ok) HH.out.h DC.out.b); clear DB HH DC; go_wp2; refine bodyPost_ret (results_ct rfl _ _ (w.heap.size + 2) 50 _ (0, 0) _ rfl E.out.1 Try.underlying50 rfl (by kernel_rfl)) rfl ⟨_, rfl, E.out.2⟩
  · have hgt : (f.bs.length : Int) < nn := by omega
    clear hn
    unfold fsV rop; simp only; clear h; go_enter Try.func28, Try.ntmps28; go_wp2_with fail; refine FD.out.mono ?_; rintro e w1 ⟨rfl, hdb⟩; have DB := Aside0.mk hdb; clear hdb FD
    obtain ⟨⟨q0, q1, q2, q3⟩, ⟨o0, o1, o2, o3, o4⟩, ⟨r0, r1, r2, r3⟩, fz, tz⟩ := DB.out.cells; have f0 := fz 0; have f1 := fz 1; have f2 := fz 2; have f3 := fz 3; have t0 := tz 0; have t1 := tz 1; have t2 := tz 2; have t3 := tz 3; clear fz tz; simp only at q0 q1 q2 q3 o0 o1 o2 o3 o4
    have hF := HFC.out.below DB.out.bl; have hA := below_alloc (Below.refl w1.heap.size w1) (.cells #[.string a, .slice none 0 0, .int .i64 0] 104); have p0 := pw_cell_below hA hF.c0; have p1 := pw_cell_below hA hF.c1; have p2 := pw_cell_below hA hF.c2; have q0a := pw_cell_below hA q0; clear hA; have DC := Aside0.mk (DoC.start DB.out hF.bv); clear hF HFC
    obtain ⟨⟨q0', q1', q2', q3'⟩, ⟨o0', o1', o2', o3', o4'⟩, ⟨r0', r1', r2', r3'⟩, fz, tz⟩ := DC.out.b.cells; have f0' := fz 0; have f1' := fz 1; have f2' := fz 2; have f3' := fz 3; have t0' := tz 0; have t1' := tz 1; have t2' := tz 2; have t3' := tz 3; clear fz tz; simp only at q0' q1' q2' q3' o0' o1' o2' o3' o4'; obtain ⟨x0, x1, x2, xz⟩ := DC.out.cells; have xf0 := xz 0; have xf1 := xz 1; have xf2 := xz 2; clear xz
    go_wp2_with fail
    have E := Aside0.mk (do_same' (ok := ok) HH.out.h DC.out.b); clear DB HH DC; go_wp2; refine bodyPost_ret (results_ct rfl _ _ (w.heap.size + 2) 50 _ (0, 0) _ rfl E.out.1 Try.underlying50 rfl (by kernel_rfl)) rfl ⟨_, rfl, E.out.2⟩
/-- What a guarded region reads. -/
theorem DoC.guard {wr : World} {fl : List AF} {most fuse : Int} {down : Bool} {kind nn : Int} {a z : ByteArray} {b keep : List Int} (h : DoC w ok ⟨fl, most, fuse, down⟩ v ⟨kind, a, z, nn, b, keep⟩ B cb g f Bf cf wr) :
    wr.cell? ⟨w.heap.size + 1, 0, none⟩ = some (.int .i64 kind) ∧ wr.cell? ⟨w.heap.size + 1, 4, none⟩ = some (.slice B b.length cb) ∧ wr.cell? ⟨w.heap.size, 0, none⟩ = some v ∧ wr.cell? ⟨w.heap.size, 1, none⟩ = some (.int .i64 most) ∧ wr.cell? ⟨w.heap.size, 2, none⟩ = some (.int .i64 fuse) ∧ wr.cell? ⟨w.heap.size, 3, none⟩ = some (.bool down) := by
  obtain ⟨⟨q0, q1, q2, q3⟩, ⟨o0, o1, o2, o3, o4⟩, _⟩ := h.b.cells
  exact ⟨o0, o4, q0, q1, q2, q3⟩
set_option maxRecDepth 100000 in
set_option maxHeartbeats 2000000 in
theorem do_full (h : DoIn w ok m v o B cb) (hd : m.down = false) (hk : o.kind = 2) {j : Nat} (hj : m.fl[j]? = some f) (hi : Vm.idx m.fl o.a 0 = j) (hn : m.most - (Vm.used m.fl : Int) < o.b.length) : Calls Try.prog 28 #[fsV m v, rop o B cb] w (DoTo w ok m 71) := by
  obtain ⟨A, c, rfl, hc⟩ := h.h.slice; obtain ⟨ad, Bf, cf, rfl, HFc⟩ := h.file rfl hj; obtain ⟨kind, a, z, nn, b, keep⟩ := o; obtain ⟨fl, most, fuse, down⟩ := m; have FD := Aside0.mk h.find; have HH := Aside0.mk h; unfold fsV W3 at FD; simp only at *; subst hd; rw [hi] at FD; have HFC := Aside0.mk HFc; have hjl : (j : Int) < fl.length := (by have := (List.getElem?_eq_some_iff.1 hj).1; omega); have hj0 : (0 : Int) ≤ j := Int.natCast_nonneg j; clear hj hi HFc
  subst hk
  have FU : Aside0 (∀ g wr, DoC w ok ⟨fl, most, fuse, false⟩ (.slice (some ad) fl.length c) ⟨2, a, z, nn, b, keep⟩ B cb g f Bf cf wr → Calls Try.prog 64 #[.agg #[.slice (some ad) fl.length c, .int .i64 most, .int .i64 fuse, .bool false]] wr fun e w' => e = .returned (.int .i64 (Vm.used fl)) ∧ DoC w ok ⟨fl, most, fuse, false⟩ (.slice (some ad) fl.length c) ⟨2, a, z, nn, b, keep⟩ B cb g f Bf cf w') := ⟨fun g wr hC => (ref_used (m := ⟨fl, most, fuse, false⟩) (Kd.V_below h.h hC.b.bl) (by have := h.hl; simp only at this ⊢; omega) (by have := h.hu; simp only at this ⊢; omega)).mono (by rintro e w' ⟨rfl, hb⟩; exact ⟨rfl, hC.below hb⟩)⟩
  have hu0 : (Vm.used fl : Int) ≤ 140737488355328 := by have := h.hu; simp only at this; omega
  have hm0 := h.hm0
  have hm1 := h.hm1
  simp only at hm0 hm1
  generalize Vm.used fl = U at *
  have hwr : IntKind.i64.wrap (most - (U : Int)) = most - U := IntWalk.i64_in _ (by omega)
  unfold fsV rop; simp only; clear h; go_enter Try.func28, Try.ntmps28; go_wp2_with fail; refine FD.out.mono ?_; rintro e w1 ⟨rfl, hdb⟩; have DB := Aside0.mk hdb; clear hdb FD
  obtain ⟨⟨q0, q1, q2, q3⟩, ⟨o0, o1, o2, o3, o4⟩, ⟨r0, r1, r2, r3⟩, fz, tz⟩ := DB.out.cells; have f0 := fz 0; have f1 := fz 1; have f2 := fz 2; have f3 := fz 3; have t0 := tz 0; have t1 := tz 1; have t2 := tz 2; have t3 := tz 3; clear fz tz; simp only at q0 q1 q2 q3 o0 o1 o2 o3 o4
  have hF := HFC.out.below DB.out.bl; have hA := below_alloc (Below.refl w1.heap.size w1) (.cells #[.string a, .slice none 0 0, .int .i64 0] 104); have p0 := pw_cell_below hA hF.c0; have p1 := pw_cell_below hA hF.c1; have p2 := pw_cell_below hA hF.c2; have q0a := pw_cell_below hA q0; clear hA; have DC := Aside0.mk (DoC.start DB.out hF.bv); clear hF HFC
  obtain ⟨⟨q0', q1', q2', q3'⟩, ⟨o0', o1', o2', o3', o4'⟩, ⟨r0', r1', r2', r3'⟩, fz, tz⟩ := DC.out.b.cells; have f0' := fz 0; have f1' := fz 1; have f2' := fz 2; have f3' := fz 3; have t0' := tz 0; have t1' := tz 1; have t2' := tz 2; have t3' := tz 3; clear fz tz; simp only at q0' q1' q2' q3' o0' o1' o2' o3' o4'; obtain ⟨x0, x1, x2, xz⟩ := DC.out.cells; have xf0 := xz 0; have xf1 := xz 1; have xf2 := xz 2; clear xz
  go_wp2_with fail
  go_region_held3 (fun w' => w'.cell? ⟨w.heap.size + 1, 0, none⟩ = some (.int .i64 2) ∧ w'.cell? ⟨w.heap.size + 1, 4, none⟩ = some (.slice B b.length cb) ∧ w'.cell? ⟨w.heap.size, 0, none⟩ = some (.slice (some ad) fl.length c) ∧ w'.cell? ⟨w.heap.size, 1, none⟩ = some (.int .i64 most) ∧ w'.cell? ⟨w.heap.size, 2, none⟩ = some (.int .i64 fuse) ∧ w'.cell? ⟨w.heap.size, 3, none⟩ = some (.bool false)) (first | exact DC.out.guard | exact (DC.out.drewN _).guard | exact DC2.out.guard) (first | (go_at_call 64; refine (FU.out _ _ (DC.out.drewN _)).mono ?_; rintro e w2 ⟨rfl, hdc⟩; have DC2 := Aside0.mk hdc; clear hdc))
  clear DC q0' q1' q2' q3' o0' o1' o2' o3' o4' r0' r1' r2' r3' f0' f1' f2' f3' t0' t1' t2' t3' x0 x1 x2 xf0 xf1 xf2
  have DC := DC2
  clear DC2
  obtain ⟨⟨q0', q1', q2', q3'⟩, ⟨o0', o1', o2', o3', o4'⟩, ⟨r0', r1', r2', r3'⟩, fz, tz⟩ := DC.out.b.cells; have f0' := fz 0; have f1' := fz 1; have f2' := fz 2; have f3' := fz 3; have t0' := tz 0; have t1' := tz 1; have t2' := tz 2; have t3' := tz 3; clear fz tz; simp only at q0' q1' q2' q3' o0' o1' o2' o3' o4'; obtain ⟨x0, x1, x2, xz⟩ := DC.out.cells; have xf0 := xz 0; have xf1 := xz 1; have xf2 := xz 2; clear xz
  have E := Aside0.mk (do_same' (ok := ok) HH.out.h DC.out.b); clear DB HH DC; go_wp2; refine bodyPost_ret (results_ct rfl _ _ (w.heap.size + 2) 50 _ (0, 0) _ rfl E.out.1 Try.underlying50 rfl (by kernel_rfl)) rfl ⟨_, rfl, E.out.2⟩
end

section
variable {w : World} {ok : Nat → Prop} {v : Value} {o : OpM} {B : Option Addr} {cb : Nat} {g : Nat} {f : AF} {Bf : Option Addr} {cf : Nat} {fl : List AF} {most fuse : Int} {down : Bool} {wr : World}
theorem below_set {w wr : World} {B : Nat} (h : Below B w wr) (b j : Nat) (u : Value) (hb : B ≤ b) (hs : B ≤ wr.heap.size) : Below B w (wr.setCell ⟨b, j, none⟩ u) := h.trans ((Keeps.set wr b j u).below (fun k hk => by omega) hs)
theorem DoB.setFuse (h : DoB w ⟨fl, most, fuse, down⟩ v o B cb wr) (x : Int) : DoB w ⟨fl, most, x, down⟩ v o B cb (wr.setCell ⟨w.heap.size, 2, none⟩ (.int .i64 x)) :=
  ⟨blk_set h.h1 2 _, blk_far h.h2 (by simp) _, blk_far h.h3 (by simp) _, below_set h.bl _ _ _ (Nat.le_refl _) h.bl.size, by simpa using h.sz⟩
theorem DoB.off (h : DoB w ⟨fl, most, fuse, down⟩ v o B cb wr) (x : Bool) : DoB w ⟨fl, most, fuse, x⟩ v o B cb (wr.setCell ⟨w.heap.size, 3, none⟩ (.bool x)) :=
  ⟨blk_set h.h1 3 _, blk_far h.h2 (by simp) _, blk_far h.h3 (by simp) _, below_set h.bl _ _ _ (Nat.le_refl _) h.bl.size, by simpa using h.sz⟩
theorem bv_set {b j : Nat} {u : Value} {bs : List Int} (h : BV wr ok Bf cf bs) (hb : ∀ k, ok k → k < w.heap.size) (hg : w.heap.size ≤ b) : BV (wr.setCell ⟨b, j, none⟩ u) ok Bf cf bs :=
  V_keeps h (Keeps.set wr b j u) (fun k hk he => by have := hb k hk; omega)
def okB (w : World) (ok : Nat → Prop) (k : Nat) : Prop := ok k ∧ k < w.heap.size
theorem DoC.setFuse (h : DoC w (okB w ok) ⟨fl, most, fuse, down⟩ v o B cb g f Bf cf wr) (x : Int) : DoC w (okB w ok) ⟨fl, most, x, down⟩ v o B cb g f Bf cf (wr.setCell ⟨w.heap.size, 2, none⟩ (.int .i64 x)) :=
  ⟨h.b.setFuse x, blk_far h.hf (by have := h.gl; simp; omega) _, h.gl, bv_set h.bv (fun k hk => hk.2) (Nat.le_refl _)⟩
theorem DoC.safe {m : AS} (h : DoC w (okB w ok) m v o B cb g f Bf cf wr) (s : Nat) : DoC w (okB w ok) m v o B cb g { f with safe := s } Bf cf (wr.setCell ⟨g, 2, none⟩ (.int .i64 s)) := by
  have hg := h.gl
  exact ⟨⟨blk_far h.b.h1 (by simp; omega) _, blk_far h.b.h2 (by simp; omega) _, blk_far h.b.h3 (by simp; omega) _, below_set h.b.bl _ _ _ (by omega) h.b.bl.size, by simpa using h.b.sz⟩, blk_set h.hf 2 _, h.gl, bv_set h.bv (fun k hk => hk.2) (by omega)⟩
theorem DoC.name {m : AS} (h : DoC w (okB w ok) m v o B cb g f Bf cf wr) (nm : ByteArray) : DoC w (okB w ok) m v o B cb g { f with nm := nm } Bf cf (wr.setCell ⟨g, 0, none⟩ (.string nm)) := by
  have hg := h.gl
  exact ⟨⟨blk_far h.b.h1 (by simp; omega) _, blk_far h.b.h2 (by simp; omega) _, blk_far h.b.h3 (by simp; omega) _, below_set h.b.bl _ _ _ (by omega) h.b.bl.size, by simpa using h.b.sz⟩, blk_set h.hf 0 _, h.gl, bv_set h.bv (fun k hk => hk.2) (by omega)⟩
theorem DoC.bytes {m : AS} (h : DoC w (okB w ok) m v o B cb g f Bf cf wr) {bs : List Int} {Bn : Option Addr} {cn : Nat} (hb : BV wr (okB w ok) Bn cn bs) {L : Nat} (hL : bs.length = L) : DoC w (okB w ok) m v o B cb g { f with bs := bs } Bn cn (wr.setCell ⟨g, 1, none⟩ (.slice Bn L cn)) := by
  have hg := h.gl
  subst hL
  exact ⟨⟨blk_far h.b.h1 (by simp; omega) _, blk_far h.b.h2 (by simp; omega) _, blk_far h.b.h3 (by simp; omega) _, below_set h.b.bl _ _ _ (by omega) h.b.bl.size, by simpa using h.b.sz⟩, blk_set h.hf 1 _, h.gl, bv_set hb (fun k hk => hk.2) (by omega)⟩
/-- With, where Do calls it. -/
theorem DoC.with_ (h : DoC w (okB w ok) ⟨fl, most, fuse, down⟩ v o B cb g f Bf cf wr) (hv : RefAt w ok fl v) (hs : Sorted fl) (hl : fl.length ≤ 1099511627770) : Calls Try.prog 66 #[.agg #[v, .int .i64 most, .int .i64 fuse, .bool down], .agg #[.string f.nm, .slice Bf f.bs.length cf, .int .i64 f.safe]] wr
    fun e w' => ∃ A c, e = .returned (.agg #[.slice A (Vm.ins f (Vm.rm fl f.nm)).length c, .int .i64 most, .int .i64 fuse, .bool down]) ∧ RefAt w' (fun k => okB w ok k ∨ w.heap.size + 3 ≤ k) (Vm.ins f (Vm.rm fl f.nm)) (.slice A (Vm.ins f (Vm.rm fl f.nm)).length c) ∧ w'.heap[w.heap.size + 2]? = some (.cells #[.slice none 0 0, .int .i64 0, .int .i64 0, .bool false] 50 (0, 0)) ∧ Below w.heap.size w w' := by
  have hv' : RefAt wr (okB w ok) fl v := Kd.V_below (Kd.V_bound hv) h.b.bl
  refine (ref_with (m := ⟨fl, most, fuse, down⟩) hv' hs f h.bv (by simp only; omega)).mono ?_
  rintro e w' ⟨v', rfl, h1, h2⟩
  obtain ⟨A, c, rfl, _⟩ := h1.slice
  exact ⟨A, c, rfl, Kd.V_mono h1 (fun k hk => hk.elim .inl (fun q => .inr (Nat.le_trans h.b.sz q))), blk_below h.b.h3 h2, below_then h.b.bl h.b.bl.size h2⟩
/-- With, the bytes' length told by another name. -/
theorem cut_with {N : Nat} (h : DoC w (okB w ok) ⟨fl, most, fuse, down⟩ v o B cb g f Bf cf wr) (hN : f.bs.length = N) (hv : RefAt w ok fl v) (hs : Sorted fl) (hl : fl.length ≤ 1099511627770) : Calls Try.prog 66 #[.agg #[v, .int .i64 most, .int .i64 fuse, .bool down], .agg #[.string f.nm, .slice Bf N cf, .int .i64 f.safe]] wr
    fun e w' => ∃ A c, e = .returned (.agg #[.slice A (Vm.ins f (Vm.rm fl f.nm)).length c, .int .i64 most, .int .i64 fuse, .bool down]) ∧ RefAt w' (fun k => okB w ok k ∨ w.heap.size + 3 ≤ k) (Vm.ins f (Vm.rm fl f.nm)) (.slice A (Vm.ins f (Vm.rm fl f.nm)).length c) ∧ w'.heap[w.heap.size + 2]? = some (.cells #[.slice none 0 0, .int .i64 0, .int .i64 0, .bool false] 50 (0, 0)) ∧ Below w.heap.size w w' := by
  subst hN
  exact h.with_ hv hs hl
/-- without, where Do calls it. -/
theorem DoC.without_ (h : DoC w (okB w ok) ⟨fl, most, fuse, down⟩ v o B cb g f Bf cf wr) (hv : RefAt w ok fl v) {nm : ByteArray} (hl : fl.length ≤ 1099511627770) : Calls Try.prog 65 #[.agg #[v, .int .i64 most, .int .i64 fuse, .bool down], .string nm] wr
    fun e w' => ∃ A c, e = .returned (.agg #[.slice A (Vm.rm fl nm).length c, .int .i64 most, .int .i64 fuse, .bool down]) ∧ RefAt w' (fun k => okB w ok k ∨ w.heap.size + 3 ≤ k) (Vm.rm fl nm) (.slice A (Vm.rm fl nm).length c) ∧ w'.heap[w.heap.size + 2]? = some (.cells #[.slice none 0 0, .int .i64 0, .int .i64 0, .bool false] 50 (0, 0)) ∧ Below w.heap.size w w' := by
  have hv' : RefAt wr (okB w ok) fl v := Kd.V_below (Kd.V_bound hv) h.b.bl
  refine (ref_without (m := ⟨fl, most, fuse, down⟩) hv' nm (by simp only; omega)).mono ?_
  rintro e w' ⟨v', rfl, h1, h2⟩
  obtain ⟨A, c, rfl, _⟩ := h1.slice
  exact ⟨A, c, rfl, Kd.V_mono h1 (fun k hk => hk.elim .inl (fun q => .inr (Nat.le_trans h.b.sz q))), blk_below h.b.h3 h2, below_then h.b.bl h.b.bl.size h2⟩
/-- The end behind With and without. -/
theorem do_end {u : Value} {xs : List AF} (h3 : wr.heap[w.heap.size + 2]? = some (.cells #[.slice none 0 0, .int .i64 0, .int .i64 0, .bool false] 50 (0, 0))) (hb : Below w.heap.size w wr) (hR : RefAt wr (fun k => okB w ok k ∨ w.heap.size + 3 ≤ k) xs u) :
    ((((wr.setCell ⟨w.heap.size + 2, 0, none⟩ u).setCell ⟨w.heap.size + 2, 1, none⟩ (.int .i64 most)).setCell ⟨w.heap.size + 2, 2, none⟩ (.int .i64 fuse)).setCell ⟨w.heap.size + 2, 3, none⟩ (.bool down)).heap[w.heap.size + 2]? = some (.cells #[u, .int .i64 most, .int .i64 fuse, .bool down] 50 (0, 0)) ∧
    RefTo w ok xs u ((((wr.setCell ⟨w.heap.size + 2, 0, none⟩ u).setCell ⟨w.heap.size + 2, 1, none⟩ (.int .i64 most)).setCell ⟨w.heap.size + 2, 2, none⟩ (.int .i64 fuse)).setCell ⟨w.heap.size + 2, 3, none⟩ (.bool down)) := by
  have K2 := keeps_set4 wr (w.heap.size + 2) u (.int .i64 most) (.int .i64 fuse) (.bool down)
  refine ⟨blk_set4 h3 _ _ _ _, Kd.V_mono (V_keeps hR K2 ?_) (fun k hk => hk.imp And.left (fun q => by omega)), hb.trans (K2.below (fun b hb => by omega) hb.size)⟩
  rintro k (hk | hk) he
  · have := hk.2; omega
  · omega
/-- The power goes. -/
theorem do_off (h : RefAt w ok fl v) (hb : DoB w ⟨fl, most, 1, false⟩ v o B cb wr) :
    ((((((wr.setCell ⟨w.heap.size, 2, none⟩ (.int .i64 0)).setCell ⟨w.heap.size, 3, none⟩ (.bool true)).setCell ⟨w.heap.size + 2, 0, none⟩ v).setCell ⟨w.heap.size + 2, 1, none⟩ (.int .i64 most)).setCell ⟨w.heap.size + 2, 2, none⟩ (.int .i64 0)).setCell ⟨w.heap.size + 2, 3, none⟩ (.bool true)).heap[w.heap.size + 2]? = some (.cells #[v, .int .i64 most, .int .i64 0, .bool true] 50 (0, 0)) ∧
    RefTo w ok fl v ((((((wr.setCell ⟨w.heap.size, 2, none⟩ (.int .i64 0)).setCell ⟨w.heap.size, 3, none⟩ (.bool true)).setCell ⟨w.heap.size + 2, 0, none⟩ v).setCell ⟨w.heap.size + 2, 1, none⟩ (.int .i64 most)).setCell ⟨w.heap.size + 2, 2, none⟩ (.int .i64 0)).setCell ⟨w.heap.size + 2, 3, none⟩ (.bool true)) := by
  obtain ⟨kind, a, z, nn, b, keep⟩ := o
  exact do_same' h ((hb.setFuse 0).off true)
end
end Go.Proofs.Ythjdgiobchiloaa
