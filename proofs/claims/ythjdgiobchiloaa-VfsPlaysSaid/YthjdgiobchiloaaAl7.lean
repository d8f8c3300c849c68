/-
  What is proved: colloquylaw07.alive returns true and leaves what was there; no condition.
-/
import Derived.Test.YthjdgiobchiloaaFsd
import Derived.Lib.SlBytesConst
namespace Go.Proofs.Ythjdgiobchiloaa
open Go.RowKit Go.Proofs.YthjdgiobchiloaaW.PrintWords Go.Maps
set_option linter.unusedVariables false
set_option linter.unusedSimpArgs false

/-- A law's state: a disk of its own, nothing older turned. -/
structure LS (w0 : World) (d : Nat) (m : AS) (N : Nat → Prop) (w : World) : Prop where
  disk : Disk w w0.heap.size d m N
  old : Below w0.heap.size w0 w
theorem LS.to {w0 w w' : World} {d : Nat} {m m' : AS} {N : Nat → Prop} (h : LS w0 d m N w) (ht : DTo w w0.heap.size d m' N w') : LS w0 d m' N w' :=
  ⟨ht.1, h.old.trans (ht.2.below (fun _ h => h.1) h.old.size)⟩
theorem LS.below {w0 w w' : World} {d : Nat} {m : AS} {N : Nat → Prop} (h : LS w0 d m N w) (hb : Below w.heap.size w w') : LS w0 d m N w' :=
  ⟨h.disk.below hb, h.old.trans (hb.mono h.old.size)⟩
theorem lit_C (W : World) (k : IntKind) (e : TypeId) (xs : List Int) (hm : xs.length ≤ 9223372036854775807) : (Kd.int k).C (W.alloc (.cells (nums k xs).toArray e)) (some ⟨W.heap.size, 0, none⟩) xs.length xs :=
  C_of_own (own_lit W W.heap.size e k xs (Nat.le_refl _) hm)
/-- A constant text's bytes: their row bears a mark. -/
theorem lit_Cm (W : World) (k : IntKind) (e : TypeId) (xs : List Int) (fr : Nat × Nat) (hm : xs.length ≤ 9223372036854775807) : (Kd.int k).C (W.alloc (.cells (nums k xs).toArray e fr)) (some ⟨W.heap.size, 0, none⟩) xs.length xs := by
  refine Kd.C_of_reads (d := 0) ⟨rfl, hm, fun hn => ⟨_, rfl, fun j hj => ?_⟩⟩
  have ha : (⟨W.heap.size, 0, none⟩ : Addr).add j = ⟨W.heap.size, j, none⟩ := by unfold Addr.add; split <;> simp_all
  rw [ha]
  have hb : (W.alloc (.cells (nums k xs).toArray e fr)).heap[W.heap.size]? = some (.cells (nums k xs).toArray e fr) := heap_alloc_new W _
  simp only [World.cell?, hb]
  simp [nums, List.getElem?_eq_getElem hj, List.getD_eq_getElem?_getD]
theorem below_lit (W : World) (o : Obj) : Below W.heap.size W (W.alloc o) := (Below.refl _ _).alloc (Nat.le_refl _) _

section
variable {w0 w : World} {d : Nat} {m : AS} {N : Nat → Prop}
theorem ls_create (h : LS w0 d m N w) (nm : ByteArray) {m' : AS} {r : Int} (hr : Vm.create m nm = (m', r)) (hs : nm.size ≤ maxLen) (hn : m.fl.length < maxLen) :
    Calls Try.prog 14 #[.pointer (some ⟨d, 0, none⟩), .string nm] w fun e w' => e = .returned (.int .i64 r) ∧ LS w0 d m' N w' := by
  refine (create_disk h.disk hs hn).mono ?_
  rw [hr]
  rintro e w' ⟨rfl, ht⟩
  exact ⟨rfl, h.to ht⟩
theorem ls_append (h : LS w0 d m N w) (nm : ByteArray) (A : Option Addr) (n c : Nat) (ys : List Int) (HC : (Kd.int .u8).C w A n ys) {m' : AS} {r : Int} (hr : Vm.append m nm ys = (m', r)) (hs : nm.size ≤ maxLen) (hl : (Vm.used m.fl : Int) + n ≤ 140737488355328) :
    Calls Try.prog 16 #[.pointer (some ⟨d, 0, none⟩), .string nm, .slice A n c] w fun e w' => e = .returned (.int .i64 r) ∧ LS w0 d m' N w' := by
  refine (append_disk h.disk hs A n c ys HC hl).mono ?_
  rw [hr]
  rintro e w' ⟨rfl, ht⟩
  exact ⟨rfl, h.to ht⟩
theorem ls_sync (h : LS w0 d m N w) (nm : ByteArray) {m' : AS} {r : Int} (hr : Vm.sync m nm = (m', r)) (hs : nm.size ≤ maxLen) :
    Calls Try.prog 17 #[.pointer (some ⟨d, 0, none⟩), .string nm] w fun e w' => e = .returned (.int .i64 r) ∧ LS w0 d m' N w' := by
  refine (sync_disk h.disk hs).mono ?_
  rw [hr]
  rintro e w' ⟨rfl, ht⟩
  exact ⟨rfl, h.to ht⟩
theorem ls_crash (h : LS w0 d m N w) (hn : m.fl.length * 16 ≤ 140737488355328) (A : Option Addr) (n c : Nat) (ks : List Int) (hC : (Kd.int .i64).C w A n ks) (hA : ∀ ad, A = some ad → ad.block < w0.heap.size ∨ N ad.block) (hc : n ≤ c) :
    Calls Try.prog 18 #[.pointer (some ⟨d, 0, none⟩), .slice A n c] w fun e w' => e = .returned (.tuple #[]) ∧ LS w0 d (Vm.crash m ks) N w' := by
  refine (crash_disk h.disk hn A n c ks hC hA hc).mono ?_
  rintro e w' ⟨rfl, ht⟩
  exact ⟨rfl, h.to ht⟩
/-- A crash whose keep is a literal of the law's own. -/
theorem ls_crash_lit (h : LS w0 d m N w) (hn : m.fl.length * 16 ≤ 140737488355328) (ks : List Int) (hk : ks.length ≤ 9223372036854775807) :
    Calls Try.prog 18 #[.pointer (some ⟨d, 0, none⟩), .slice (some ⟨w.heap.size, 0, none⟩) ks.length ks.length] (w.alloc (.cells (nums .i64 ks).toArray 3)) fun e w' => e = .returned (.tuple #[]) ∧ LS w0 d (Vm.crash m ks) N w' ∧ Keeps (Other w0.heap.size N) w w' := by
  have hL : LS w0 d m (fun k => N k ∨ k = w.heap.size) (w.alloc (.cells (nums .i64 ks).toArray 3)) := by
    refine ⟨h.disk.keep (S := fun _ => False) (Keeps.of_below (below_lit w _) _) (fun _ h => h.elim) (fun b hb => hb.imp id (fun e => by omega)) ?_, (h.below (below_lit w _)).old⟩
    rintro b (hb | hb)
    · have := h.disk.bound b hb; simp; omega
    · simp; omega
  refine (crash_disk hL.disk hn _ _ _ ks (lit_C w .i64 3 ks hk) (fun ad ha => ?_) (Nat.le_refl _)).mono ?_
  · injection ha with ha
    subst ha
    exact .inr (.inr rfl)
  · rintro e w' ⟨rfl, ht⟩
    have h1 := hL.to ht
    refine ⟨rfl, ⟨?_, h1.old⟩, ?_⟩
    · exact h1.disk.keep (S := fun _ => False) (Keeps.refl _ _) (fun _ h => h.elim) (fun b hb => .inl (.inl hb)) (fun b hb => h1.disk.bound b (.inl hb))
    · exact (Keeps.of_below (below_lit w _) (Other w0.heap.size N)).trans (ht.2.mono (fun k hk => ⟨hk.1, fun hn => hk.2 (.inl hn)⟩))
theorem ls_read (h : LS w0 d m N w) (nm : ByteArray) {bs : List Int} {r : Int} (hr : Vm.read m nm = (bs, r)) (hs : nm.size ≤ maxLen) (hm : (Vm.used m.fl : Int) ≤ 140737488355328) :
    Calls Try.prog 19 #[.pointer (some ⟨d, 0, none⟩), .string nm] w fun e w' => ∃ v, e = .returned (.tuple #[v, .int .i64 r]) ∧ CloneTo w bs v w' := by
  refine (read_disk h.disk hs hm).mono ?_
  rw [hr]
  exact fun _ _ h => h
theorem ls_room (h : LS w0 d m N w) {r : Int} (hr : m.most - (Vm.used m.fl : Int) = r) : Calls Try.prog 25 #[.pointer (some ⟨d, 0, none⟩)] w fun e w' => e = .returned (.int .i64 r) ∧ ∃ n, w' = w.drewN n := by
  refine (room_disk h.disk).mono ?_
  rw [hr]
  exact fun _ _ h => h
end

set_option maxRecDepth 100000 in
set_option maxHeartbeats 4000000 in
theorem alive_calls (w : World) : Calls Try.prog 13 #[] w fun e w' => e = .returned (.bool true) ∧ Below w.heap.size w w' := by
  have HNew := Aside0.mk (new_disk w 5 (by decide))
  have kc := fun (w : World) (C : Array Value) (n c : Nat) => Lib.run_convert_bytes_const (P := Try.prog) w 28 5 C n c Try.underlying28 Try.underlying5
  go_enter Try.func13, Try.ntmps13
  go_wp2_with fail
  refine HNew.out.mono ?_
  rintro e w1 ⟨d, rfl, hD, hB⟩
  have L1 : Aside0 (LS w d ⟨[], 5, 0, false⟩ (fun _ => False) w1) := ⟨⟨hD, hB⟩⟩
  clear hD hB HNew
  go_wp2_with fail
  refine (ls_create L1.out ⟨#[97]⟩ (m' := ⟨[⟨⟨#[97]⟩, [], 0⟩], 5, 0, false⟩) (r := 0) rfl (by decide) (by decide)).mono ?_
  rintro e w2 ⟨rfl, hL⟩
  have L2 := Aside0.mk hL
  clear hL L1
  go_wp2_with fail
  refine (ls_append (L2.out.below (below_lit w2 _)) ⟨#[97]⟩ _ 3 3 [97, 98, 99] (lit_Cm w2 .u8 5 [97, 98, 99] (3, 4) (by decide)) (m' := ⟨[⟨⟨#[97]⟩, [97, 98, 99], 0⟩], 5, 0, false⟩) (r := 0) rfl (by decide) (by decide)).mono ?_
  rintro e w3 ⟨rfl, hL⟩
  have L3 := Aside0.mk hL
  clear hL L2
  go_wp2_with fail
  refine (ls_sync L3.out ⟨#[97]⟩ (m' := ⟨[⟨⟨#[97]⟩, [97, 98, 99], 3⟩], 5, 0, false⟩) (r := 0) rfl (by decide)).mono ?_
  rintro e w4 ⟨rfl, hL⟩
  have L4 := Aside0.mk hL
  clear hL L3
  go_wp2_with fail
  refine (ls_append (L4.out.below (below_lit w4 _)) ⟨#[97]⟩ _ 3 3 [100, 101, 102] (lit_Cm w4 .u8 5 [100, 101, 102] (3, 4) (by decide)) (m' := ⟨[⟨⟨#[97]⟩, [97, 98, 99], 3⟩], 5, 0, false⟩) (r := 71) rfl (by decide) (by decide)).mono ?_
  rintro e w5 ⟨rfl, hL⟩
  have L5 := Aside0.mk hL
  clear hL L4
  go_wp2_with fail
  refine (ls_append (L5.out.below (below_lit w5 _)) ⟨#[97]⟩ _ 2 2 [100, 101] (lit_Cm w5 .u8 5 [100, 101] (2, 3) (by decide)) (m' := ⟨[⟨⟨#[97]⟩, [97, 98, 99, 100, 101], 3⟩], 5, 0, false⟩) (r := 0) rfl (by decide) (by decide)).mono ?_
  rintro e w6 ⟨rfl, hL⟩
  have L6 := Aside0.mk hL
  clear hL L5
  go_wp2_with fail
  refine (ls_crash_lit L6.out (by decide) [1] (by decide)).mono ?_
  rintro e w7 ⟨rfl, hL, _⟩
  have L7 : Aside0 (LS w d ⟨[⟨⟨#[97]⟩, [97, 98, 99, 100], 4⟩], 5, 0, false⟩ (fun _ => False) w7) := ⟨hL⟩
  clear hL L6
  go_wp2_with fail
  refine (ls_read L7.out ⟨#[97]⟩ (bs := [97, 98, 99, 100]) (r := 0) rfl (by decide) (by decide)).mono ?_
  rintro e w8 ⟨v, rfl, A, c, rfl, hrow, hb⟩
  have L8 := Aside0.mk (L7.out.below hb)
  have hst : (convert 28 9 (.slice A 4 c)).run Try.prog w8 = .ok (.string ⟨#[97, 98, 99, 100]⟩) w8 := own_string Try.underlying28 Try.underlying5 Try.underlying9 hrow
  clear hb hrow L7
  go_wp2_with fail
  refine (ls_room L8.out (r := 1) rfl).mono ?_
  rintro e w9 ⟨rfl, n, rfl⟩
  have L9 := Aside0.mk (L8.out.old.trans (pw_below_drewN (Below.refl _ _) n))
  clear L8
  go_wp2
  go_ret; exact ⟨rfl, L9.out⟩
end Go.Proofs.Ythjdgiobchiloaa
