/-
  What is proved: the statement VfsPlaysSaid.
-/
import Derived.Test.YthjdgiobchiloaaRows
import Derived.Test.YthjdgiobchiloaaRowOps
import Derived.Test.YthjdgiobchiloaaPl1
import Derived.ChangeMaps5
import Derived.SizedLaws
import Derived.OpenShut
namespace Go.Proofs.Ythjdgiobchiloaa
open Go.RowKit Go.Proofs.YthjdgiobchiloaaW.PrintWords Go.ChangeShapes Go.WideShapes Go.ChangeAt Go.Deep
set_option linter.unusedVariables false
set_option linter.unusedSimpArgs false

theorem ints_weight {H : Type} {enc : TypeId × Value → H} {P : Program} {w : World} {t e : TypeId} {k : IntKind} {a : Option Addr} {len cap R : Nat} {x : DataW H × List MemPlace} {fuel : Nat}
    (ht : P.underlying t = some (.slice e)) (he : P.underlying e = some (.int k)) (ce : P.cellsOf e = 1) (hb : P.bytesOf e = 1) (h : DataW.trod enc P w 0 (fun _ => true) true fuel t [.slice a len cap] = some x) (hR : ∀ n ∈ x.1.weights P t, n ≤ R) : len ≤ R := by
  rcases open_ints ht he ce h with ⟨hcs, _⟩ | ⟨y, l, c, zs, hcs, _, hl, _, hz, hx, _⟩
  · simp at hcs
    omega
  · simp at hcs
    obtain ⟨rfl, rfl, rfl⟩ := hcs
    have h1 := hR ((((lits (H := H) k (zs.take len)).length + (lits (H := H) k (zs.drop len)).length)) * P.bytesOf e) (by rw [hx]; simp [DataW.weights, ht])
    have h2 : (lits (H := H) k (zs.take len)).length + (lits (H := H) k (zs.drop len)).length = zs.length := by
      simp [lits]
      omega
    simp only [if_true] at hz
    rw [h2, hb, hz] at h1
    omega
set_option maxRecDepth 100000 in
theorem op_weight {H : Type} {enc : TypeId × Value → H} {w : World} {X : OpRow} {x : DataW H × List MemPlace} {fuel R : Nat} (h : DataW.trod enc Try.prog w 0 (fun _ => true) true fuel 45 X.cells = some x) (hR : ∀ n ∈ x.1.weights Try.prog 45, n ≤ R) :
    X.o.b.length ≤ R ∧ X.o.n ≤ 9223372036854775807 := by
  obtain ⟨xs, n, _, hx, hl, hn, hf⟩ := DataW.trod_struct Try.underlying45 h
  have each : ∀ (i : Nat) (f : Field) (fs : Array Field), fs[i]? = some f → xs.length = fs.size → ∃ y, xs[i]? = some y := by
    intro i f fs hi hs
    obtain ⟨hlt, _⟩ := Array.getElem?_eq_some_iff.1 hi
    exact ⟨_, List.getElem?_eq_getElem (by omega)⟩
  obtain ⟨y3, e3⟩ := each 3 _ _ rfl hn
  obtain ⟨y4, e4⟩ := each 4 _ _ rfl hn
  have g3 : DataW.trod enc Try.prog w 0 (fun _ => true) true n 3 ((X.cells.drop 3).take (Try.prog.cellsOf 3)) = some y3 := (hf 3 _ rfl).trans e3
  have g4 : DataW.trod enc Try.prog w 0 (fun _ => true) true n 28 ((X.cells.drop 4).take (Try.prog.cellsOf 28)) = some y4 := (hf 4 _ rfl).trans e4
  have s1 : Try.prog.cellsOf 3 = 1 := by kernel_rfl
  have s3 : Try.prog.cellsOf 28 = 1 := by kernel_rfl
  have s5 : Try.prog.cellsOf 5 = 1 := by kernel_rfl
  have s6 : Try.prog.bytesOf 5 = 1 := by kernel_rfl
  rw [s1] at g3
  rw [s3] at g4
  obtain ⟨k, h0, _, hw⟩ := DataW.trod_int Try.underlying3 g3
  have h0' : X.o.n = k := by
    have h5 : [Value.int .i64 X.o.n] = [Value.int .i64 k] := h0
    injection h5 with h5
    injection h5
  refine ⟨ints_weight Try.underlying28 Try.underlying5 s5 s6 (show DataW.trod enc Try.prog w 0 (fun _ => true) true n 28 [.slice X.B X.o.b.length X.cb] = some y4 from g4) (fun q hq => hR q ?_), ?_⟩
  · rw [hx]
    unfold DataW.weights
    rw [Try.underlying45]
    exact DataW.weights_mem_each (j := 4) (t := 28) (d := y4.1) rfl (by rw [List.getElem?_map, e4]; rfl) q hq
  · rw [h0']
    exact (bounds_i64 hw).2
theorem weightsAll_mem_ {H : Type} {P : Program} {e : TypeId} {d : DataW H} : ∀ {l : List (DataW H)}, d ∈ l → ∀ n ∈ d.weights P e, n ∈ DataW.weightsAll P e l
  | [], h, _, _ => by cases h
  | a :: r, h, n, hn => by
    simp only [DataW.weightsAll, List.mem_append]
    rcases List.mem_cons.1 h with rfl | h
    · exact .inl hn
    · exact .inr (weightsAll_mem_ h n hn)
theorem ops_argS {H : Type} {enc : TypeId × Value → H} {w : World} {a : Option Addr} {len cap R : Nat} {x : DataW H × List MemPlace} {fuel : Nat}
    (hf : DataW.trod enc Try.prog w 0 (fun _ => true) true fuel 43 [.slice a len cap] = some x) (hR : ∀ n ∈ x.1.weights Try.prog 43, n ≤ R) : len ≤ maxLen ∧ ∃ X : Nat → OpRow, OpsAt w a len X ∧ (∀ r, r < len → (X r).o.b.length ≤ R) ∧ ∀ r, r < len → (X r).o.n ≤ 9223372036854775807 := by
  have c6 : Try.prog.cellsOf 45 = 6 := by kernel_rfl
  rcases open_slice Try.underlying43 hf with ⟨hcs, _⟩ | ⟨ad, l, c, m, n, D, Pl, hcs, _, hl, hm, hmm, hx, he⟩
  · injection hcs with hcs
    injection hcs with h1 h2 h3
    subst h1 h2 h3
    exact ⟨by decide, fun _ => ⟨⟨0, ⟨#[]⟩, ⟨#[]⟩, 0, [], []⟩, none, 0, none, 0⟩, fun r hr => by omega, fun r hr => by omega, fun r hr => by omega⟩
  · injection hcs with hcs
    injection hcs with h1 h2 h3
    subst h1 h2 h3
    simp only [if_true] at hmm
    subst hmm
    refine ⟨by omega, ?_⟩
    have hX : ∀ r, r < len → ∃ X : OpRow, (∀ j v, X.cells[j]? = some v → w.cell? ((ad.add (r * 6)).add j) = some v) ∧ OpOk w X.o X.B X.cb X.K X.ck ∧ X.o.b.length ≤ R ∧ X.o.n ≤ 9223372036854775807 := by
      intro r hr
      obtain ⟨cs', h1, h2⟩ := he r (by omega)
      rw [c6] at h1
      obtain ⟨X, rfl, hok⟩ := op_cells h2
      have hW := op_weight (R := R) h2 (fun q hq => hR q (by
        rw [hx]
        simp only [DataW.weights, Try.underlying43, List.mem_cons, List.mem_append]
        exact .inr (.inl (weightsAll_mem_ (d := D r) (List.mem_map.2 ⟨r, List.mem_range.2 hr, rfl⟩) q hq))))
      refine ⟨X, fun j v hv => ?_, hok, hW⟩
      obtain ⟨_, _, h3⟩ := World.cells?_some h1
      obtain ⟨hj, _⟩ := List.getElem?_eq_some_iff.1 hv
      rw [h3 j hj]
      exact hv
    have : ∀ r, ∃ X : OpRow, r < len → (∀ j v, X.cells[j]? = some v → w.cell? ((ad.add (r * 6)).add j) = some v) ∧ OpOk w X.o X.B X.cb X.K X.ck ∧ X.o.b.length ≤ R ∧ X.o.n ≤ 9223372036854775807 := by
      intro r
      by_cases hr : r < len
      · obtain ⟨X, h⟩ := hX r hr
        exact ⟨X, fun _ => h⟩
      · exact ⟨⟨⟨0, ⟨#[]⟩, ⟨#[]⟩, 0, [], []⟩, none, 0, none, 0⟩, fun h => absurd h hr⟩
    exact ⟨fun r => Classical.choose (this r), fun r hr => ⟨ad, rfl, (Classical.choose_spec (this r) hr).1, (Classical.choose_spec (this r) hr).2.1⟩, fun r hr => (Classical.choose_spec (this r) hr).2.2.1, fun r hr => (Classical.choose_spec (this r) hr).2.2.2⟩
end Go.Proofs.Ythjdgiobchiloaa
namespace Go.Proofs.Ythjdgiobchiloaa.vfsPlays
open Go.ChangeShapes Go.WideShapes Go.ChangeAt Go.RowKit Go.Proofs.Ythjdgiobchiloaa Go.Proofs.YthjdgiobchiloaaW.PrintWords
open Go.ChangeMaps (open_string shut_string)
theorem own : ownKnob Try.prog.godebug = none := by kernel_rfl
theorem laidOut : laidOutB Try.prog = true := by kernel_rfl
set_option maxRecDepth 100000 in
theorem lifted (os : Os) (started : os.Started) (H : Type) (enc : TypeId × Value → H) :
    ReturnsInHanded {} Try.checked os 7 .any (Rows.vfsPlaysSpec.pre6 enc Try.prog Try.f7 Rows.vfsPlaysRow.domain false) (Rows.vfsPlaysSpec.post enc Try.prog Try.f7 false true false false) := by
  refine returnsInHanded_of_change_sized (C := Try.checked) own started (by kernel_rfl) Try.func7
    (ChangeSpec.witness6 (enc := enc) (C := Try.checked) false ⟨#[], #[.int .i64 0, .slice none 0 0, .string ⟨#[]⟩], []⟩ 8 (by kernel_rfl) (by kernel_rfl) (by kernel_rfl) (by kernel_rfl)) ?_
  intro W base args ds gs before hval0 hW hcnd hsz0 _
  have hsz : (DataW.weightsEach Try.prog (Try.f7.params.toList ++ Rows.vfsPlaysSpec.plain.varTypes Try.prog) (ds ++ gs)).all (· ≤ reachBytes) = true := hsz0
  clear hsz0
  have hval : ∀ (j : Nat) t v, Try.f7.params[j]? = some t → args[j]? = some v → Value.okWide Try.prog W .any base t v := hval0
  have hW' := hW
  obtain ⟨p, q, hA0, hV, rfl, hfz, hnd⟩ := hW
  have hA : DataW.TrodAll enc Try.prog W 0 (fun _ => true) true Try.f7.params.toList args.toList ds p := hA0
  rw [Try.params7] at hA hval hsz
  obtain ⟨v0, vs0, d0, ds0, p0, q0, hargs, rfl, rfl, h0, r0⟩ := trodAll_cons hA
  obtain ⟨v1, vs1, d1, ds1, p1, q1, rfl, rfl, rfl, h1, r1⟩ := trodAll_cons r0
  obtain ⟨v2, vs2, d2, ds2, p2, q2, rfl, rfl, rfl, h2, r2⟩ := trodAll_cons r1
  obtain ⟨rfl, rfl, rfl⟩ := trodAll_nil r2
  obtain rfl : args = #[v0, v1, v2] := by cases args; simp_all
  obtain ⟨rfl, rfl⟩ := trodVars_none hV
  obtain ⟨a0, rfl, rfl, rfl, w0⟩ := open_int Try.underlying3 (hval 0 3 v0 rfl rfl) h0
  obtain ⟨a1, len1, cap1, rfl⟩ := okWide_slice Try.underlying43 (hval 1 43 v1 rfl rfl)
  obtain ⟨s2, rfl, rfl, rfl, ws⟩ := open_string Try.underlying9 (hval 2 9 v2 rfl rfl) h2
  have k1 := h1
  have lt1 : ∀ x ∈ p1, x.block < W.heap.size := by obtain ⟨m, hm⟩ := k1; exact DataW.trod_lt m _ _ _ hm
  obtain ⟨hmax, X, hX, hB, hN⟩ : len1 ≤ maxLen ∧ ∃ X : Nat → OpRow, OpsAt W a1 len1 X ∧ (∀ r, r < len1 → (X r).o.b.length ≤ 140737488351232) ∧ ∀ r, r < len1 → (X r).o.n ≤ 9223372036854775807 := by
    obtain ⟨fuel, hf⟩ := h1
    refine ops_argS (enc := enc) (x := (d1, p1)) (by simpa [Value.cells] using hf) (fun n hn => ?_)
    have := List.all_eq_true.1 hsz n (DataW.weights_mem_each (j := 1) (t := 43) (d := d1) rfl rfl n hn)
    have h2 := of_decide_eq_true this
    exact Nat.le_trans h2 (by decide)
  have hr1 : a0 ≤ 9223372036854775807 := (bounds_i64 w0).2
  clear hA0 hval0 hsz
  refine (plays_law W a0 a1 len1 cap1 X s2 hX (by unfold maxLen at hmax; omega) hB hN hr1 ws).mono fun e W' ⟨he, bel⟩ => ?_
  subst he
  exact ⟨_, rfl, _, _, _, [], _, [], hW', trodAll_mk1 (shut_bool Try.underlying4 _), (trodAll_cons_mk (shut_int Try.underlying3 w0) (trodAll_cons_mk (Below.trod laidOut (by kernel_rfl) (of_decide_eq_true (by kernel_rfl)) k1 bel lt1) (trodAll_cons_mk (shut_string Try.underlying9 ws) trodAll_mk0))), rfl, bel.frame _, fun h => by cases h⟩
theorem over : Rows.vfsPlaysRow.holds Try.pinned (OpenSpec.ofChange Rows.vfsPlaysSpec) :=
  OpenClaim.holds_of_wide 7 Try.f7 rfl rfl rfl rfl rfl rfl rfl ⟨rfl, rfl, rfl, rfl, rfl⟩ rfl rfl rfl rfl rfl (by kernel_rfl) Try.func7 (by kernel_rfl)
    (of_decide_eq_true (by kernel_rfl)) (by unfold Func.isWrapper; first | (rw [if_pos (by decide +kernel)]; kernel_rfl) | (rw [if_neg (by decide +kernel)]; exact ⟨rfl, rfl⟩))
    (fun os started H enc _ => lifted os started H enc)
theorem proved : Rows.VfsPlaysSaid := over
end Go.Proofs.Ythjdgiobchiloaa.vfsPlays
namespace Go.Proofs.Ythjdgiobchiloaa
/-- The row, under a short name, for the claim. -/
theorem vfsPlays_holds : Rows.VfsPlaysSaid := vfsPlays.proved
end Go.Proofs.Ythjdgiobchiloaa
