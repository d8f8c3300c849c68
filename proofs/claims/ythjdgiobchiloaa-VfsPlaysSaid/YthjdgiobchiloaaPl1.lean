/-
  What is proved: VfsPlays answers true of any input whose rows of bytes have at most 2^47 bytes.
-/
import Derived.Test.YthjdgiobchiloaaPl0
namespace Go.Proofs.Ythjdgiobchiloaa
open Go.RowKit Go.Proofs.YthjdgiobchiloaaW.PrintWords Go.Maps
set_option linter.unusedVariables false
set_option linter.unusedSimpArgs false

/-- The relation of VfsPlays' loop. -/
def PlRel (w : World) (d gm n : Nat) (us i : Value) (wr : World) : Prop :=
  ∃ (k u : Nat) (m : AS) (N : Nat → Prop) (v : Value), k ≤ n ∧ i = .int .i64 k ∧ us = .int .i64 u ∧ u ≤ 20000 ∧ m.fl.length ≤ u ∧ Vm.used m.fl ≤ u ∧ Pl w d gm m m N v wr

/-- A round's start: the operation's box. -/
structure Rd (w : World) (d gm : Nat) (md mr : AS) (N : Nat → Prop) (v : Value) (g : Nat) (o : OpM) (B : Option Addr) (cb : Nat) (K : Option Addr) (ck : Nat) (wr : World) : Prop where
  pl : Pl w d gm md mr N v wr
  ng : N g
  ne : g ≠ gm
  box : wr.heap[g]? = some (.cells #[.int .i64 o.kind, .string o.a, .string o.z, .int .i64 o.n, .slice B o.b.length cb, .slice K o.keep.length ck] 45 (0, 0))
section
variable {w wr w1 : World} {d gm g : Nat} {md mr : AS} {N : Nat → Prop} {v : Value} {o : OpM} {B K : Option Addr} {cb ck : Nat}
theorem Pl.round (h : Pl w d gm md mr N v wr) : Rd w d gm md mr (fun b => N b ∨ b = wr.heap.size) v wr.heap.size o B cb K ck (wr.alloc (.cells #[.int .i64 o.kind, .string o.a, .string o.z, .int .i64 o.n, .slice B o.b.length cb, .slice K o.keep.length ck] 45)) :=
  ⟨h.alloc _, .inr rfl, by have := blk_lt h.blk; omega, blk_new _ _⟩
theorem Rd.to {m' : AS} (h : Rd w d gm md mr N v g o B cb K ck wr) (hl : LS w d m' N w1) (hk : Keeps (Other w.heap.size N) wr w1) : Rd w d gm m' mr N v g o B cb K ck w1 := ⟨h.pl.to hl hk, h.ng, h.ne, hk.blk h.box (fun ho => ho.2 h.ng)⟩
theorem Rd.cells (h : Rd w d gm md mr N v g o B cb K ck wr) : wr.cell? ⟨g, 0, none⟩ = some (.int .i64 o.kind) ∧ wr.cell? ⟨g, 1, none⟩ = some (.string o.a) ∧ wr.cell? ⟨g, 2, none⟩ = some (.string o.z) ∧ wr.cell? ⟨g, 3, none⟩ = some (.int .i64 o.n) ∧ wr.cell? ⟨g, 4, none⟩ = some (.slice B o.b.length cb) ∧ wr.cell? ⟨g, 5, none⟩ = some (.slice K o.keep.length ck) :=
  ⟨blk_cell h.box 0, blk_cell h.box 1, blk_cell h.box 2, blk_cell h.box 3, blk_cell h.box 4, blk_cell h.box 5⟩
theorem Pl.mcells (h : Pl w d gm md mr N v wr) : wr.cell? ⟨gm, 0, none⟩ = some v ∧ wr.cell? ⟨gm, 1, none⟩ = some (.int .i64 mr.most) ∧ wr.cell? ⟨gm, 2, none⟩ = some (.int .i64 mr.fuse) ∧ wr.cell? ⟨gm, 3, none⟩ = some (.bool mr.down) ∧ (∀ j, wr.frozen? ⟨gm, j, none⟩ = false) :=
  ⟨blk_cell h.blk 0, blk_cell h.blk 1, blk_cell h.blk 2, blk_cell h.blk 3, fun j => blk_frozen h.blk j⟩
end
/-- The number of a Fail is a Go int. -/
theorem used_mem_of {l : List AF} {f : AF} (h : f ∈ l) : f.bs.length ≤ Vm.used l := by
  obtain ⟨j, hj⟩ := List.mem_iff_getElem?.1 h
  exact used_mem hj
section
variable {w0 w wr : World} {d : Nat} {m : AS} {N : Nat → Prop}
theorem fail_keeps (h : LS w0 d m N wr) (n : Int) (hn : n ≤ 9223372036854775807) : Calls Try.prog 15 #[.pointer (some ⟨d, 0, none⟩), .int .i64 n] wr fun e w' => e = .returned (.tuple #[]) ∧ LS w0 d (Vm.fail m n) N w' ∧ Keeps (Other w0.heap.size N) wr w' := by
  refine (fail_disk h.disk n hn).mono ?_
  rintro e w' ⟨rfl, ht⟩
  exact ⟨rfl, h.to ht, ht.2⟩
theorem crash_keeps (h : LS w d m N wr) (hn : m.fl.length * 16 ≤ 140737488355328) {A : Option Addr} {n c : Nat} {ks : List Int} (hC : (Kd.int .i64).C w A n ks) (hc : n ≤ c) : Calls Try.prog 18 #[.pointer (some ⟨d, 0, none⟩), .slice A n c] wr fun e w' => e = .returned (.tuple #[]) ∧ LS w d (Vm.crash m ks) N w' ∧ Keeps (Other w.heap.size N) wr w' := by
  refine (crash_disk2 h.disk hn A n c ks (Kd.C_below hC h.old) (fun hp ad ha => .inl ?_) hc).mono ?_
  · obtain ⟨ad', he, hcl⟩ := Kd.at_int hC 0 (by omega) (by omega)
    rw [ha] at he
    injection he with he
    subst he
    have := World.block_lt_of_cell? w _ hcl
    rwa [add_blk] at this
  · rintro e w' ⟨rfl, ht⟩
    exact ⟨rfl, h.to ht, ht.2⟩
end
set_option maxRecDepth 100000 in
set_option maxHeartbeats 8000000 in
theorem plays_law (w : World) (room : Int) (As : Option Addr) (n c : Nat) (X : Nat → OpRow) (nm : ByteArray) (hX : OpsAt w As n X) (hn : n ≤ 9223372036854775807) (hB : ∀ r, r < n → (X r).o.b.length ≤ 140737488351232) (hN : ∀ r, r < n → (X r).o.n ≤ 9223372036854775807) (hr1 : room ≤ 9223372036854775807) (hnm : nm.size ≤ maxLen) :
    Calls Try.prog 7 #[.int .i64 room, .slice As n c, .string nm] w fun e w' => e = .returned (.bool true) ∧ Below w.heap.size w w' := by
  have HNew := Aside0.mk (new_disk w room hr1)
  have HP := Aside0.mk hX
  have HBd := Aside0.mk hB
  have HNd := Aside0.mk hN
  clear hX hB hN
  go_enter Try.func7, Try.ntmps7
  go_wp2_with fail
  refine HNew.out.mono ?_
  rintro e w1 ⟨d, rfl, hD, hbl⟩
  have L1 : Aside0 (LS w d ⟨[], max room 0, 0, false⟩ (fun _ => False) w1) := ⟨⟨hD, hbl⟩⟩
  clear hD hbl HNew
  go_wp2_with fail
  refine (alive_calls w1).mono ?_
  rintro e w2 ⟨rfl, hb⟩
  have L2 := Aside0.mk (L1.out.below hb)
  clear hb L1
  go_wp2_with fail
  refine (ref_new room w2 (fun _ => False)).mono ?_
  rintro e w3 ⟨rfl, hR, hb3⟩
  have L3 := Aside0.mk (L2.out.below hb3)
  clear hb3 L2
  unfold fsV
  obtain ⟨M, hM⟩ : ∃ M, M = max room 0 := ⟨_, rfl⟩
  rw [← hM] at L3 ⊢
  clear hM hR
  simp only
  obtain ⟨gm, hgm⟩ : ∃ gm, gm = w3.heap.size := ⟨_, rfl⟩
  have S0 : Aside0 (PlRel w d w3.heap.size n (.int .i64 0) (.int .i64 0) (w3.alloc (.cells #[.slice none 0 0, .int .i64 M, .int .i64 0, .bool false] 50))) :=
    ⟨⟨0, 0, ⟨[], M, 0, false⟩, (fun b => b = w3.heap.size), .slice none 0 0, Nat.zero_le _, rfl, rfl, by omega, Nat.le_refl _, Nat.le_refl _, ⟨(LO.mk0 L3.out _).ls, rfl, Kd.V_nil _ _ _ _ _, blk_new _ _, L3.out.old.size⟩⟩⟩
  clear L3 hgm
  go_wp2
  go_loopw [9, 30] (fun us i wr => Aside0 (PlRel w d w3.heap.size n us i wr)) (fun _ i _ => n - (intOf i).toNat)
  case atStart => exact S0
  case round =>
    obtain ⟨⟨k, u, m, N, v, hk, rfl, rfl, hu, hfl, hus, hpl⟩⟩ := hrel
    clear S0
    obtain ⟨A, cA, rfl, _⟩ := hpl.ref.slice
    have PL := Aside0.mk hpl
    have MO := Aside0.mk hpl.ls.model
    have LT := Aside0.mk (blk_lt hpl.blk)
    by_cases hlt : k < n
    · obtain ⟨ad, rfl, hcells, hok⟩ := (HP.out.below hpl.ls.old) k hlt
      have hOw := (HP.out k hlt).choose_spec.2.2
      have hbB := HBd.out k hlt
      have hkn : (k : Int) < n := by omega
      have HC := Aside0.mk hcells
      have HO := Aside0.mk hok
      have HW := Aside0.mk hOw
      obtain ⟨x, hx⟩ : ∃ x, X k = x := ⟨_, rfl⟩
      have hnn := HNd.out k hlt
      rw [hx] at HC HO HW hbB hnn
      clear hx hcells hok hOw hpl
      obtain ⟨⟨kind, a, z, nn, b, keep⟩, B, cb, K, ck⟩ := x
      simp only at HO HW hbB hnn
      have q0 : wr.cell? (ad.add (k * 6)) = some (.int .i64 kind) := HC.out 0 _ rfl
      have q1 : wr.cell? ⟨(ad.add (k * 6)).block, (ad.add (k * 6)).off + 1, none⟩ = some (.string a) := HC.out 1 _ rfl
      have q2 : wr.cell? ⟨(ad.add (k * 6)).block, (ad.add (k * 6)).off + 2, none⟩ = some (.string z) := HC.out 2 _ rfl
      have q3 : wr.cell? ⟨(ad.add (k * 6)).block, (ad.add (k * 6)).off + 3, none⟩ = some (.int .i64 nn) := HC.out 3 _ rfl
      have q4 : wr.cell? ⟨(ad.add (k * 6)).block, (ad.add (k * 6)).off + 4, none⟩ = some (.slice B b.length cb) := HC.out 4 _ rfl
      have q5 : wr.cell? ⟨(ad.add (k * 6)).block, (ad.add (k * 6)).off + 5, none⟩ = some (.slice K keep.length ck) := HC.out 5 _ rfl
      have RD := Aside0.mk (PL.out.round (o := ⟨kind, a, z, nn, b, keep⟩) (B := B) (cb := cb) (K := K) (ck := ck))
      have HO1 := Aside0.mk (HO.out.below (below_lit wr (.cells #[.int .i64 kind, .string a, .string z, .int .i64 nn, .slice B b.length cb, .slice K keep.length ck] 45)))
      clear HC
      by_cases hfull : (20000 : Int) < u + (b.length + 8)
      · have E := Aside0.mk RD.out.pl.ls.old
        clear RD PL MO HO HW HO1 LT
        go_wp2
        go_ret
        exact ⟨rfl, E.out⟩
      have hu2 : u + (b.length + 8) ≤ 20000 := by omega
      have hbl2 : b.length ≤ 20000 := by omega
      by_cases h16 : 1 ≤ kind ∧ kind ≤ 6
      · obtain ⟨h1, h6⟩ := h16
        have DO := Aside0.mk (does_calls RD.out.pl.ls HO1.out (by unfold maxLen; omega) (by simp only; omega))
        have HG := Aside0.mk (does_grows MO.out.sorted ⟨kind, a, z, nn, b, keep⟩)
        have RDO := Aside0.mk (fun W (v : Value) (hv : RefAt W (NoG (fun b => N b ∨ b = wr.heap.size) w3.heap.size) m.fl v) (hb : Below w.heap.size w W) => ref_do (o := ⟨kind, a, z, nn, b, keep⟩) ⟨hv, MO.out.sorted, by omega, by simp only; omega, Kd.C_below HW.out.rb hb, HW.out.hb, HW.out.ha, HW.out.hz, MO.out.fuse0, MO.out.fuse1, MO.out.most0, MO.out.most1⟩ ⟨h1, h6⟩)
        unfold opV at DO
        unfold rop fsV at RDO
        simp only at DO HG RDO
        generalize Vm.does m ⟨kind, a, z, nn, b, keep⟩ = q at *
        obtain ⟨m', r⟩ := q
        simp only at DO HG RDO
        have HB : Aside0 (m'.fl.length ≤ u + (b.length + 8) ∧ Vm.used m'.fl ≤ u + (b.length + 8)) := ⟨by have := HG.out.1; have := HG.out.2; omega⟩
        clear HG PL HO HW HO1 LT MO
        go_wp2_with fail
        refine DO.out.mono ?_
        rintro e wo ⟨rfl, hls, hkp⟩
        have RO := Aside0.mk (RD.out.to hls hkp)
        clear hls hkp DO RD q0 q1 q2 q3 q4 q5
        obtain ⟨o0, o1, o2, o3, o4, o5⟩ := RO.out.cells
        simp only at o0 o1 o2 o3 o4 o5
        obtain ⟨gc0, gc1, gc2, gc3, gfz⟩ := RO.out.pl.mcells
        clear gfz
        go_wp2_with fail
        refine (RDO.out _ _ RO.out.pl.ref RO.out.pl.ls.old).mono ?_
        rintro e w5 ⟨v', rfl, hto⟩
        obtain ⟨A', c', rfl, _⟩ := hto.1.slice
        have PL2 : Aside0 (Pl w d w3.heap.size m' m' _ _ _) := ⟨RO.out.pl.put (most := m'.most) (fuse := m'.fuse) (down := m'.down) hto⟩
        have hb5 := blk_below RO.out.pl.blk hto.2
        have gb0 : w5.cell? ⟨w3.heap.size, 0, none⟩ = some (.slice A m.fl.length cA) := blk_cell hb5 0
        have gb1 : w5.cell? ⟨w3.heap.size, 1, none⟩ = some (.int .i64 m.most) := blk_cell hb5 1
        have gb2 : w5.cell? ⟨w3.heap.size, 2, none⟩ = some (.int .i64 m.fuse) := blk_cell hb5 2
        have gb3 : w5.cell? ⟨w3.heap.size, 3, none⟩ = some (.bool m.down) := blk_cell hb5 3
        have gf0 := blk_frozen hb5 0
        have gf1 := blk_frozen hb5 1
        have gf2 := blk_frozen hb5 2
        have gf3 := blk_frozen hb5 3
        clear hto hb5 RDO RO o0 o1 o2 o3 o4 o5 gc0 gc1 gc2 gc3
        unfold fsV
        go_wp2_with fail
        refine (same_calls (m := m') PL2.out.ls PL2.out.ref (by have := HB.out.1; omega) (by have := HB.out.2; omega) PL2.out.ls.model.most1).mono ?_
        rintro e w6 ⟨rfl, hb6⟩
        have NX : Aside0 (PlRel w d w3.heap.size n (.int .i64 ((u : Int) + ((b.length : Int) + 8))) (.int .i64 ((k : Int) + 1)) w6) := ⟨⟨k + 1, u + (b.length + 8), m', _, _, by omega, rfl, rfl, by omega, HB.out.1, HB.out.2, PL2.out.below hb6⟩⟩
        clear hb6 PL2 HB
        go_wp2
        go_roundw
        case rel => exact NX
        case measure => simp [intOf]; omega
      by_cases h7 : kind = 7
      · subst h7
        have FL := Aside0.mk (fun (hn : nn ≤ 9223372036854775807) => fail_keeps RD.out.pl.ls nn hn)
        have HB : Aside0 ((Vm.fail m nn).fl.length ≤ u + (b.length + 8) ∧ Vm.used (Vm.fail m nn).fl ≤ u + (b.length + 8)) := ⟨by show m.fl.length ≤ _ ∧ Vm.used m.fl ≤ _; omega⟩
        clear PL HO HW HO1 LT MO h16
        go_wp2_with fail
        refine (FL.out hnn).mono ?_
        rintro e wo ⟨rfl, hls, hkp⟩
        have RO := Aside0.mk (RD.out.to hls hkp)
        clear hls hkp FL RD q0 q1 q2 q3 q4 q5
        obtain ⟨o0, o1, o2, o3, o4, o5⟩ := RO.out.cells
        simp only at o0 o1 o2 o3 o4 o5
        have PL2 : Aside0 (Pl w d w3.heap.size (Vm.fail m nn) (Vm.fail m nn) _ _ _) := ⟨RO.out.pl.fuse (max nn 0)⟩
        obtain ⟨gb0, gb1, gb2, gb3, gfz⟩ := RO.out.pl.mcells
        have gf2 := gfz 2
        clear gfz RO
        go_wp2_with fail
        refine (same_calls (m := Vm.fail m nn) PL2.out.ls PL2.out.ref (by have := HB.out.1; omega) (by have := HB.out.2; omega) PL2.out.ls.model.most1).mono ?_
        rintro e w6 ⟨rfl, hb6⟩
        have NX : Aside0 (PlRel w d w3.heap.size n (.int .i64 ((u : Int) + ((b.length : Int) + 8))) (.int .i64 ((k : Int) + 1)) w6) := ⟨⟨k + 1, u + (b.length + 8), Vm.fail m nn, _, _, by omega, rfl, rfl, by omega, HB.out.1, HB.out.2, PL2.out.below hb6⟩⟩
        clear hb6 PL2 HB
        go_wp2
        go_roundw
        case rel => exact NX
        case measure => simp [intOf]; omega
      by_cases h8 : kind = 8
      · subst h8
        have CR := Aside0.mk (crash_keeps RD.out.pl.ls (show m.fl.length * 16 ≤ 140737488355328 by omega) HW.out.rk HW.out.hk)
        have RC := Aside0.mk (fun W (v : Value) (hv : RefAt W (NoG (fun b => N b ∨ b = wr.heap.size) w3.heap.size) m.fl v) (hb : Below w.heap.size w W) => ref_crash hv keep (Kd.C_below HW.out.rk hb) HW.out.hk (by omega) (fun f hf => ⟨MO.out.safe f hf, by have := used_mem_of hf; omega⟩))
        unfold fsV at RC
        simp only at CR RC
        have HB : Aside0 ((Vm.crash m keep).fl.length ≤ u + (b.length + 8) ∧ Vm.used (Vm.crash m keep).fl ≤ u + (b.length + 8)) := ⟨by show (Vm.crashL m.fl keep).length ≤ _ ∧ Vm.used (Vm.crashL m.fl keep) ≤ _; rw [crashL_len]; have := crashL_used m.fl keep; omega⟩
        generalize hm' : Vm.crash m keep = m' at *
        clear hm'
        clear PL HO HW HO1 LT MO h16 h7
        go_wp2_with fail
        refine CR.out.mono ?_
        rintro e wo ⟨rfl, hls, hkp⟩
        have RO := Aside0.mk (RD.out.to hls hkp)
        clear hls hkp CR RD q0 q1 q2 q3 q4 q5
        obtain ⟨o0, o1, o2, o3, o4, o5⟩ := RO.out.cells
        simp only at o0 o1 o2 o3 o4 o5
        obtain ⟨gc0, gc1, gc2, gc3, gfz⟩ := RO.out.pl.mcells
        clear gfz
        go_wp2_with fail
        refine (RC.out _ _ RO.out.pl.ref RO.out.pl.ls.old).mono ?_
        rintro e w5 ⟨v', rfl, hto⟩
        obtain ⟨A', c', rfl, _⟩ := hto.1.slice
        have PL2 : Aside0 (Pl w d w3.heap.size m' m' _ _ _) := ⟨RO.out.pl.put (most := m'.most) (fuse := m'.fuse) (down := m'.down) hto⟩
        have hb5 := blk_below RO.out.pl.blk hto.2
        have gb0 : w5.cell? ⟨w3.heap.size, 0, none⟩ = some (.slice A m.fl.length cA) := blk_cell hb5 0
        have gb1 : w5.cell? ⟨w3.heap.size, 1, none⟩ = some (.int .i64 m.most) := blk_cell hb5 1
        have gb2 : w5.cell? ⟨w3.heap.size, 2, none⟩ = some (.int .i64 m.fuse) := blk_cell hb5 2
        have gb3 : w5.cell? ⟨w3.heap.size, 3, none⟩ = some (.bool m.down) := blk_cell hb5 3
        have gf0 := blk_frozen hb5 0
        have gf1 := blk_frozen hb5 1
        have gf2 := blk_frozen hb5 2
        have gf3 := blk_frozen hb5 3
        clear hto hb5 RC RO o0 o1 o2 o3 o4 o5 gc0 gc1 gc2 gc3
        go_wp2_with fail
        refine (same_calls (m := m') PL2.out.ls PL2.out.ref (by have := HB.out.1; omega) (by have := HB.out.2; omega) PL2.out.ls.model.most1).mono ?_
        rintro e w6 ⟨rfl, hb6⟩
        have NX : Aside0 (PlRel w d w3.heap.size n (.int .i64 ((u : Int) + ((b.length : Int) + 8))) (.int .i64 ((k : Int) + 1)) w6) := ⟨⟨k + 1, u + (b.length + 8), m', _, _, by omega, rfl, rfl, by omega, HB.out.1, HB.out.2, PL2.out.below hb6⟩⟩
        clear hb6 PL2 HB
        go_wp2
        go_roundw
        case rel => exact NX
        case measure => simp [intOf]; omega
      have hnx : (¬ (1 : Int) ≤ kind) ∨ (¬ kind ≤ 6) := by omega
      have e7 : (kind == 7) = false := beq_eq_false_iff_ne.2 h7
      have e8 : (kind == 8) = false := beq_eq_false_iff_ne.2 h8
      have HB : Aside0 (m.fl.length ≤ u + (b.length + 8) ∧ Vm.used m.fl ≤ u + (b.length + 8)) := ⟨by omega⟩
      have PL2 : Aside0 (Pl w d w3.heap.size m m _ _ _) := ⟨RD.out.pl⟩
      obtain ⟨o0, o1, o2, o3, o4, o5⟩ := RD.out.cells
      simp only at o0 o1 o2 o3 o4 o5
      obtain ⟨gb0, gb1, gb2, gb3, gfz⟩ := RD.out.pl.mcells
      clear PL HO HW HO1 LT MO h16 h7 h8 RD gfz
      by_cases hk1 : (1 : Int) ≤ kind
      · have hk6 : ¬ kind ≤ 6 := by omega
        clear hnx
        go_wp2_with fail
        refine (same_calls (m := m) PL2.out.ls PL2.out.ref (by have := HB.out.1; omega) (by have := HB.out.2; omega) PL2.out.ls.model.most1).mono ?_
        rintro e w6 ⟨rfl, hb6⟩
        have NX : Aside0 (PlRel w d w3.heap.size n (.int .i64 ((u : Int) + ((b.length : Int) + 8))) (.int .i64 ((k : Int) + 1)) w6) := ⟨⟨k + 1, u + (b.length + 8), m, _, _, by omega, rfl, rfl, by omega, HB.out.1, HB.out.2, PL2.out.below hb6⟩⟩
        clear hb6 PL2 HB
        go_wp2
        go_roundw
        case rel => exact NX
        case measure => simp [intOf]; omega
      · clear hnx
        go_wp2_with fail
        refine (same_calls (m := m) PL2.out.ls PL2.out.ref (by have := HB.out.1; omega) (by have := HB.out.2; omega) PL2.out.ls.model.most1).mono ?_
        rintro e w6 ⟨rfl, hb6⟩
        have NX : Aside0 (PlRel w d w3.heap.size n (.int .i64 ((u : Int) + ((b.length : Int) + 8))) (.int .i64 ((k : Int) + 1)) w6) := ⟨⟨k + 1, u + (b.length + 8), m, _, _, by omega, rfl, rfl, by omega, HB.out.1, HB.out.2, PL2.out.below hb6⟩⟩
        clear hb6 PL2 HB
        go_wp2
        go_roundw
        case rel => exact NX
        case measure => simp [intOf]; omega
    · have hkn : ¬ (k : Int) < n := by omega
      obtain ⟨gb0, gb1, gb2, gb3, gfz⟩ := hpl.mcells
      obtain ⟨bs, hbs⟩ : ∃ bs, bs = (Vm.read m nm).1 := ⟨_, rfl⟩
      obtain ⟨r, hr⟩ : ∃ r, r = (Vm.read m nm).2 := ⟨_, rfl⟩
      have hrd : Vm.read m nm = (bs, r) := by rw [hbs, hr]
      have FR := Aside0.mk (ls_read PL.out.ls nm hrd hnm (by omega))
      have FX := Aside0.mk (fun W (hb : Below wr.heap.size wr W) => ref_read (PL.out.ref.below hb) nm (by omega) hrd)
      unfold fsV at FX
      have E := Aside0.mk hpl.ls.old
      clear hpl MO LT hbs hr hrd gfz PL
      go_wp2_with fail
      refine FR.out.mono ?_
      rintro e w6 ⟨vb, rfl, Ab, cbb, rfl, hown, hb6⟩
      have FX6 := Aside0.mk (FX.out w6 hb6)
      have ga0 := pw_cell_below hb6 gb0
      have ga1 := pw_cell_below hb6 gb1
      have ga2 := pw_cell_below hb6 gb2
      have ga3 := pw_cell_below hb6 gb3
      have E6 := Aside0.mk (below_then E.out E.out.size hb6)
      have OW := Aside0.mk hown
      clear gb0 gb1 gb2 gb3 FR FX hown hb6 E
      go_wp2_with fail
      refine FX6.out.mono ?_
      rintro e w7 ⟨B2, cb2, rfl, hBV, hb7⟩
      have FS := Aside0.mk (sameBytes_calls w7 Ab bs.length cbb bs B2 bs.length cb2 bs (C_of_own (pw_own_below OW.out hb7)) (BV.C hBV).1)
      have E7 := Aside0.mk (below_then E6.out E6.out.size hb7)
      clear ga0 ga1 ga2 ga3 FX6 hBV hb7 OW E6
      go_wp2_with fail
      refine FS.out.mono ?_
      rintro e w8 ⟨rfl, ⟨j8, rfl⟩⟩
      have ed : decide (bs = bs) = true := by simp
      have E8 := Aside0.mk (pw_below_drewN E7.out j8)
      clear E7 FS
      go_wp2
      go_ret
      exact ⟨by simp, E8.out⟩
end Go.Proofs.Ythjdgiobchiloaa
