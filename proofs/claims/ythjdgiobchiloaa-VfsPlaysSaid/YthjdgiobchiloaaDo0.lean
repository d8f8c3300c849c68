/-
  What is proved: colloquylaw07.does: what an operation on a disk comes to; of texts up to the model's length, fewer than 2^43 files, at most 2^47 bytes.
-/
import Derived.Test.YthjdgiobchiloaaLsm
namespace Go.Proofs.Ythjdgiobchiloaa
open Go.RowKit Go.Proofs.YthjdgiobchiloaaW.PrintWords Go.Maps
set_option linter.unusedVariables false
set_option linter.unusedSimpArgs false

/-- An operation. -/
structure OpM where
  kind : Int
  a : ByteArray
  z : ByteArray
  n : Int
  b : List Int
  keep : List Int
def Vm.does (m : AS) (o : OpM) : AS × Int :=
  if o.kind = 1 then Vm.create m o.a else if o.kind = 2 then Vm.append m o.a o.b else if o.kind = 3 then Vm.sync m o.a else if o.kind = 4 then Vm.rename m o.a o.z else if o.kind = 5 then Vm.cut m o.a o.n else Vm.remove m o.a
/-- How an operation lies: the value, its rows. -/
def opV (o : OpM) (B : Option Addr) (cb : Nat) (K : Option Addr) (ck : Nat) : Value := .agg #[.int .i64 o.kind, .string o.a, .string o.z, .int .i64 o.n, .slice B o.b.length cb, .slice K o.keep.length ck]
structure OpOk (w : World) (o : OpM) (B : Option Addr) (cb : Nat) (K : Option Addr) (ck : Nat) : Prop where
  ha : o.a.size ≤ maxLen
  hz : o.z.size ≤ maxLen
  rb : (Kd.int .u8).C w B o.b.length o.b
  hb : o.b.length ≤ cb
  rk : (Kd.int .i64).C w K o.keep.length o.keep
  hk : o.keep.length ≤ ck
theorem OpOk.below {w w' : World} {o : OpM} {B K : Option Addr} {cb ck : Nat} (h : OpOk w o B cb K ck) (hb : Below w.heap.size w w') : OpOk w' o B cb K ck :=
  ⟨h.ha, h.hz, Kd.C_below h.rb hb, h.hb, Kd.C_below h.rk hb, h.hk⟩

section
variable {w0 w : World} {d : Nat} {m : AS} {N : Nat → Prop} {o : OpM} {B K : Option Addr} {cb ck : Nat}
set_option maxRecDepth 100000 in
set_option maxHeartbeats 1000000 in
theorem does_calls (h : LS w0 d m N w) (ho : OpOk w o B cb K ck) (hn : m.fl.length < maxLen) (hl : (Vm.used m.fl : Int) + o.b.length ≤ 140737488355328) :
    Calls Try.prog 26 #[.pointer (some ⟨d, 0, none⟩), opV o B cb K ck] w fun e w' => e = .returned (.int .i64 (Vm.does m o).2) ∧ LS w0 d (Vm.does m o).1 N w' ∧ Keeps (Other w0.heap.size N) w w' := by
  have hb := below_lit w (.cells #[.int .i64 o.kind, .string o.a, .string o.z, .int .i64 o.n, .slice B o.b.length cb, .slice K o.keep.length ck] 45)
  replace h := h.below hb
  replace ho := ho.below hb
  have c1 := create_disk h.disk ho.ha hn
  have c2 := append_disk h.disk ho.ha B o.b.length cb o.b ho.rb hl
  have c3 := sync_disk h.disk ho.ha
  have c4 := rename_disk h.disk ho.ha ho.hz hn
  have c5 := cut_disk h.disk ho.ha o.n
  have c6 := remove_disk h.disk ho.ha
  have fin : Aside0 (∀ m' w', DTo (w.alloc (.cells #[.int .i64 o.kind, .string o.a, .string o.z, .int .i64 o.n, .slice B o.b.length cb, .slice K o.keep.length ck] 45)) w0.heap.size d m' N w' → LS w0 d m' N w' ∧ Keeps (Other w0.heap.size N) w w') :=
    ⟨fun m' w' ht => ⟨h.to ht, (Keeps.of_below hb _).trans ht.2⟩⟩
  have C1 := Aside0.mk c1
  have C2 := Aside0.mk c2
  have C3 := Aside0.mk c3
  have C4 := Aside0.mk c4
  have C5 := Aside0.mk c5
  have C6 := Aside0.mk c6
  unfold opV Vm.does
  obtain ⟨kind, a, z, n, b, keep⟩ := o
  simp only at *
  clear c1 c2 c3 c4 c5 c6 ho hn hl hb
  clear h
  generalize Vm.create m a = q1 at *
  generalize Vm.append m a b = q2 at *
  generalize Vm.sync m a = q3 at *
  generalize Vm.rename m a z = q4 at *
  generalize Vm.cut m a n = q5 at *
  generalize Vm.remove m a = q6 at *
  by_cases h1 : kind = 1
  · subst h1
    rw [if_pos rfl]
    go_enter Try.func26, Try.ntmps26
    go_wp2_with (go_at_call 14; refine C1.out.mono ?_; rintro e w1 ⟨rfl, hL⟩; have hL := Aside0.mk (fin.out _ _ hL))
    go_ret; exact ⟨rfl, hL.out⟩
  · rw [if_neg h1]
    have e1 : (kind == 1) = false := beq_eq_false_iff_ne.2 h1
    by_cases h2 : kind = 2
    · subst h2
      rw [if_pos rfl]
      clear h1
      go_enter Try.func26, Try.ntmps26
      go_wp2_with (go_at_call 16; refine C2.out.mono ?_; rintro e w1 ⟨rfl, hL⟩; have hL := Aside0.mk (fin.out _ _ hL))
      go_ret; exact ⟨rfl, hL.out⟩
    · rw [if_neg h2]
      have e2 : (kind == 2) = false := beq_eq_false_iff_ne.2 h2
      by_cases h3 : kind = 3
      · subst h3
        rw [if_pos rfl]
        clear h1 h2
        go_enter Try.func26, Try.ntmps26
        go_wp2_with (go_at_call 17; refine C3.out.mono ?_; rintro e w1 ⟨rfl, hL⟩; have hL := Aside0.mk (fin.out _ _ hL))
        go_ret; exact ⟨rfl, hL.out⟩
      · rw [if_neg h3]
        have e3 : (kind == 3) = false := beq_eq_false_iff_ne.2 h3
        by_cases h4 : kind = 4
        · subst h4
          rw [if_pos rfl]
          clear h1 h2 h3
          go_enter Try.func26, Try.ntmps26
          go_wp2_with (go_at_call 24; refine C4.out.mono ?_; rintro e w1 ⟨rfl, hL⟩; have hL := Aside0.mk (fin.out _ _ hL))
          go_ret; exact ⟨rfl, hL.out⟩
        · rw [if_neg h4]
          have e4 : (kind == 4) = false := beq_eq_false_iff_ne.2 h4
          by_cases h5 : kind = 5
          · subst h5
            rw [if_pos rfl]
            clear h1 h2 h3 h4
            go_enter Try.func26, Try.ntmps26
            go_wp2_with (go_at_call 61; refine C5.out.mono ?_; rintro e w1 ⟨rfl, hL⟩; have hL := Aside0.mk (fin.out _ _ hL))
            go_ret; exact ⟨rfl, hL.out⟩
          · rw [if_neg h5]
            have e5 : (kind == 5) = false := beq_eq_false_iff_ne.2 h5
            clear h1 h2 h3 h4 h5
            go_enter Try.func26, Try.ntmps26
            go_wp2_with (go_at_call 21; refine C6.out.mono ?_; rintro e w1 ⟨rfl, hL⟩; have hL := Aside0.mk (fin.out _ _ hL))
            go_ret; exact ⟨rfl, hL.out⟩
end
end Go.Proofs.Ythjdgiobchiloaa
