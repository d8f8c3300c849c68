/-
  What is proved: what Names of a disk comes to: its files' names, rising; of fewer than 2^43 files.
-/
import Derived.Test.YthjdgiobchiloaaFs11
import Derived.Test.YthjdgiobchiloaaLayS
namespace Go.Proofs.Ythjdgiobchiloaa
open Go.RowKit Go.Proofs.YthjdgiobchiloaaW.PrintWords Go.Maps Go.Sort Go.Shelf
set_option linter.unusedVariables false
set_option linter.unusedSimpArgs false

theorem bytes_lt : ∀ {a b : List UInt8}, bytesBefore a b = true → a < b
  | [], [], h => by simp [bytesBefore] at h
  | [], _ :: _, _ => by simp
  | _ :: _, [], h => by simp [bytesBefore] at h
  | a :: r, b :: s, h => by
    unfold bytesBefore at h
    rw [List.cons_lt_cons_iff]
    rw [Bool.or_eq_true, Bool.and_eq_true, decide_eq_true_eq, beq_iff_eq] at h
    rcases h with h | ⟨h1, h2⟩
    · exact .inl h
    · exact .inr ⟨h1, bytes_lt h2⟩
theorem sorted_once {ss l : List (List UInt8)} (hp : ss.Perm l) (hl : l.Pairwise (fun a b => bytesBefore a b = true)) : ss.mergeSort (fun x y => decide (x ≤ y)) = l := by
  have h1 : (ss.mergeSort (fun x y => decide (x ≤ y))).Pairwise (fun a b => decide (a ≤ b) = true) :=
    List.pairwise_mergeSort (fun a b c h1 h2 => by simp only [decide_eq_true_eq] at *; exact List.le_trans h1 h2) (fun a b => by simp only [Bool.or_eq_true, decide_eq_true_eq]; exact List.le_total a b) ss
  have h2 : l.Pairwise (fun a b => decide (a ≤ b) = true) := hl.imp (fun h => by simp only [decide_eq_true_eq]; exact List.le_of_lt (bytes_lt h))
  refine List.Perm.eq_of_pairwise (le := fun a b => decide (a ≤ b) = true) ?_ h1 h2 ((List.mergeSort_perm ss _).trans hp)
  intro a b _ _ h3 h4
  simp only [decide_eq_true_eq] at h3 h4
  exact List.le_antisymm h3 h4

section
variable {w : World} {base d : Nat} {s : FSm}
theorem keys_names (fl : List FileM) : strKeys (datum fl) = fl.map (fun f => f.nm.data.toList) := by
  unfold datum
  simp only [strKeys]
  induction fl with
  | nil => rfl
  | cons f r ih => simp only [List.map_cons, List.filterMap_cons] at ih ⊢; rw [ih]; rfl
theorem enc_names (fl : List FileM) : (fl.map (fun f => f.nm.data.toList)).map encStr = fl.map (fun f => Value.string f.nm) := by
  rw [List.map_map]
  apply List.map_congr_left
  intro f _
  show Value.string ⟨f.nm.data.toList.toArray⟩ = _
  simp

theorem sortsS (m : Nat) : AnyZ.SortsIn Try.prog Try.sortedS_ren Fence.wide m :=
  ⟨fun blk off cap ss W hH hblk hsz => callsIn_wide.2 (AnyM.slices_Sort_string Try.sortS blk off cap ss W hH hblk hsz),
   fun p cap W => callsIn_wide.2 (AnyM.slices_Sort_string_none Try.sortS p cap W)⟩

def NamesTo (w : World) (fl : List FileM) (v : Value) (w' : World) : Prop := ∃ A c, v = .slice A fl.length c ∧ w'.ownsRow w.heap.size 9 1 (.slice A fl.length c) fl.length (fl.map (fun f => Value.string f.nm)) ∧ Below w.heap.size w w'

set_option maxHeartbeats 1000000 in
theorem names_calls (h : FSAt w base d s) (hn : s.fl.length * 16 ≤ 140737488355328) :
    Calls Try.prog 23 #[.pointer (some ⟨d, 0, none⟩)] w fun e w' => ∃ v, e = .returned v ∧ NamesTo w s.fl v w' := by
  refine (callsIn_wide (n := 6)).1 ?_
  have hown := h.map
  have hbl := hown.lt
  have hsz : Maps.size (datum s.fl) = s.fl.length := datum_size s.fl
  have hmax : Maps.size (datum s.fl) ≤ maxLen := by rw [hsz]; unfold maxLen; omega
  have hbytes : Maps.size (datum s.fl) * 16 ≤ 140737488355328 := by rw [hsz]; exact hn
  have hseq : SeqGives Fence.wide 2 Try.prog 79 #[.pointer (some ⟨w.heap.size, 0, none⟩)] encStr (fun ss => ss.Perm (strKeys (datum s.fl))) (Maps.size (datum s.fl)) (w.alloc (.cells #[.map (some s.mb)] 85)) :=
    AnyZ.keys_gives (ρ := Try.keysS_ren) { Try.keysS with } Fence.wide _ trivial rfl (by omega) w.heap.size s.mb s.fl.length (datum s.fl) _ (by simp) (by simp) (hown.alloc _)
  have cK : ∀ mb W, CallsIn Fence.wide 5 Try.prog 59 #[.map mb] W fun e w' => e = .returned (.func (.func 79) #[] #[.pointer (some ⟨W.heap.size, 0, none⟩)]) ∧ w' = W.alloc (.cells #[.map mb] 85) := fun mb W => AnyZ.keys_in Try.keysS Fence.wide 5 trivial rfl mb W
  have cS := AnyZ.sorted_in Try.sortedS Fence.wide 5 trivial trivial trivial trivial rfl (by omega) (sortsS _) (enters_of Try.func78 (by kernel_rfl) rfl) 79 #[.pointer (some ⟨w.heap.size, 0, none⟩)] trivial (enters_of Try.func79 (by kernel_rfl) rfl) _ _ hmax hbytes _ hseq
  change CallsIn _ _ Try.prog 58 _ _ _ at cS
  have hfin : ∀ (v : Value) (ss : List (List UInt8)) (w' : World), ss.Perm (strKeys (datum s.fl)) → w'.ownsRow (w.alloc (.cells #[.map (some s.mb)] 85)).heap.size 9 1 v ss.length ((ss.mergeSort (fun x y => decide (x ≤ y))).map encStr) →
      Below (w.alloc (.cells #[.map (some s.mb)] 85)).heap.size (w.alloc (.cells #[.map (some s.mb)] 85)) w' → Aside0 (NamesTo w s.fl v w') := by
    intro v ss w' hS hrow hb
    have hl : ss.length = s.fl.length := by rw [hS.length_eq, keys_names]; simp
    rw [sorted_once hS (by rw [keys_names, List.pairwise_map]; exact h.names), keys_names, enc_names, hl] at hrow
    obtain ⟨A, c, rfl⟩ := own_slice hrow
    exact ⟨A, c, rfl, own_weaken hrow (by simp), ((Below.refl _ w).alloc (Nat.le_refl _) _).trans (hb.mono (by simp))⟩
  have hfK : Fence.wide.fn 59 := trivial
  have hfS : Fence.wide.fn 58 := trivial
  obtain ⟨c0, c1, c2, c3, c4⟩ := h.cell
  have CS := Aside0.mk cS
  have CK := Aside0.mk cK
  have FIN := Aside0.mk hfin
  clear cS cK hfin hseq hbytes hmax hsz hbl hown c1 c2 c3 c4 hn
  clear h
  refine callsIn_of_wp Try.func23 rfl trivial ?_ rfl
  simp only [Try.ntmps23, List.size_toArray, List.length_cons, List.length_nil, Nat.reduceAdd, Nat.reduceSub, Array.replicate_succ, Array.replicate_zero, List.push_toArray, List.append_toArray, List.nil_append, List.cons_append]
  gi_wp2_with (first
    | (gi_at_call 59; refine (CK.out _ _).mono ?_; rintro e w' ⟨rfl, rfl⟩)
    | (gi_at_call 58; refine CS.out.mono ?_; rintro e w' ⟨v, ss, rfl, hS, hrow, hnil, hb⟩; have hres := FIN.out v ss w' hS hrow hb; clear hS hrow hnil hb))
  go_ret
  exact ⟨_, rfl, hres.out⟩
end
end Go.Proofs.Ythjdgiobchiloaa
