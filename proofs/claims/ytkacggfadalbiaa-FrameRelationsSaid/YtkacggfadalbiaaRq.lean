/- The reference's relations of robots: reached, Between, Add, Groups, against the list of reached robots. -/
import Derived.Test.YtkacggfadalbiaaPx
import Derived.Test.YtkacggfadalbiaaTr
import Derived.Test.YtkacggfadalbiaaRr2
import Derived.Test.YtkacggfadalbiaaEnE
set_option linter.all false
namespace Go.Proofs.Ytkacggfadalbiaa.En
open Go.RowKit
set_option maxRecDepth 100000

/-! ### plain -/
def frsOf (m : List (Int × Fr)) : List Fr := (List.range 8).map fun (b : Nat) => (fLook m b).getD (0, 0, 0)
def hasOf (m : List (Int × Fr)) : List Bool := (List.range 8).map fun (b : Nat) => (fLook m b).isSome
theorem frsOf_len (m : List (Int × Fr)) : (frsOf m).length = 8 := by simp [frsOf]
theorem hasOf_len (m : List (Int × Fr)) : (hasOf m).length = 8 := by simp [hasOf]
theorem frsOf_at (m : List (Int × Fr)) {k : Int} (h0 : 0 ≤ k) (h1 : k < 8) (d : Fr) : (frsOf m).getD k.toNat d = (fLook m k).getD (0, 0, 0) := by
  have : k.toNat < 8 := by omega
  have e : ((k.toNat : Nat) : Int) = k := by omega
  simp [frsOf, this, e]
theorem hasOf_at (m : List (Int × Fr)) {k : Int} (h0 : 0 ≤ k) (h1 : k < 8) (d : Bool) : (hasOf m).getD k.toNat d = (fLook m k).isSome := by
  have : k.toNat < 8 := by omega
  have e : ((k.toNat : Nat) : Int) = k := by omega
  simp [hasOf, this, e]
theorem fLook_snoc (b : Int) (f : Fr) (k : Int) : ∀ m : List (Int × Fr), fLook (m ++ [(b, f)]) k = match fLook m k with | some g => some g | none => if k = b then some f else none
  | [] => by simp [fLook]
  | (k', v) :: r => by
    by_cases e : k = k'
    · simp [fLook, e]
    · simp only [List.cons_append, fLook, e, if_false]
      exact fLook_snoc b f k r
theorem frsOf_snoc {m : List (Int × Fr)} {b : Int} {f : Fr} (h0 : 0 ≤ b) (h : fLook m b = none) : frsOf (m ++ [(b, f)]) = (frsOf m).set b.toNat f := by
  apply List.ext_getElem?
  intro i
  rw [List.getElem?_set]
  simp only [frsOf, List.getElem?_map, List.length_map, List.length_range]
  by_cases hi : i < 8
  · rw [List.getElem?_range hi]
    simp only [Option.map_some, fLook_snoc]
    by_cases e : b.toNat = i
    · have e' : b = (i : Int) := by omega
      rw [← e', h]
      simp [e, hi]
    · have e' : ¬ (i : Int) = b := by omega
      rw [if_neg e]
      cases fLook m (i : Int) <;> simp [e']
  · rw [List.getElem?_eq_none (by simpa using hi)]
    by_cases e : b.toNat = i
    · simp [e, hi]
    · simp [e]
theorem hasOf_snoc {m : List (Int × Fr)} {b : Int} {f : Fr} (h0 : 0 ≤ b) : hasOf (m ++ [(b, f)]) = (hasOf m).set b.toNat true := by
  apply List.ext_getElem?
  intro i
  rw [List.getElem?_set]
  simp only [hasOf, List.getElem?_map, List.length_map, List.length_range]
  by_cases hi : i < 8
  · rw [List.getElem?_range hi]
    simp only [Option.map_some, fLook_snoc]
    by_cases e : b.toNat = i
    · have e' : b = (i : Int) := by omega
      rw [← e']
      cases fLook m b <;> simp [e, hi]
    · have e' : ¬ (i : Int) = b := by omega
      rw [if_neg e]
      cases fLook m (i : Int) <;> simp [e']
  · rw [List.getElem?_eq_none (by simpa using hi)]
    by_cases e : b.toNat = i
    · simp [e, hi]
    · simp [e]
theorem frsOf_one (a : Int) : frsOf [(a, (0, 0, 0))] = List.replicate 8 (0, 0, 0) := by
  simp only [frsOf, fLook]
  refine List.ext_getElem (by simp) fun i h1 h2 => ?_
  rw [List.getElem_replicate, List.getElem_map]
  split <;> rfl
theorem hasOf_one {a : Int} (h0 : 0 ≤ a) : hasOf [(a, (0, 0, 0))] = (List.replicate 8 false).set a.toNat true := by
  have := hasOf_snoc (m := []) (b := a) (f := (0, 0, 0)) h0
  rw [List.nil_append] at this
  rw [this]
  rfl
def encB (b : Bool) : List Value := [.bool b]
theorem stepM_fwd {m : List (Int × Fr)} {x : RelT} (hA0 : 0 ≤ x.1) (hA1 : x.1 < 8) (hB0 : 0 ≤ x.2.1) (hB1 : x.2.1 < 8) (h1 : (hasOf m).getD x.1.toNat false = true) (h2 : (hasOf m).getD x.2.1.toNat false = false) :
    (frsOf (stepM m x)).map encF = ((frsOf m).map encF).set x.2.1.toNat (encF (cmpF ((frsOf m).getD x.1.toNat (0, 0, 0)) x.2.2)) ∧ (hasOf (stepM m x)).map encB = ((hasOf m).map encB).set x.2.1.toNat (encB true) := by
  rw [hasOf_at m hA0 hA1] at h1
  rw [hasOf_at m hB0 hB1] at h2
  rw [frsOf_at m hA0 hA1]
  obtain ⟨f, hf⟩ := Option.isSome_iff_exists.1 h1
  have hn : fLook m x.2.1 = none := by simpa using h2
  have e : stepM m x = m ++ [(x.2.1, cmpF f x.2.2)] := by simp only [stepM, hf, hn]
  rw [e, frsOf_snoc hB0 hn, hasOf_snoc hB0, hf, List.map_set, List.map_set]
  exact ⟨rfl, rfl⟩
theorem stepM_back {m : List (Int × Fr)} {x : RelT} (hA0 : 0 ≤ x.1) (hA1 : x.1 < 8) (hB0 : 0 ≤ x.2.1) (hB1 : x.2.1 < 8) (h1 : (hasOf m).getD x.1.toNat false = false) (h2 : (hasOf m).getD x.2.1.toNat false = true) :
    (frsOf (stepM m x)).map encF = ((frsOf m).map encF).set x.1.toNat (encF (cmpF ((frsOf m).getD x.2.1.toNat (0, 0, 0)) (invF x.2.2))) ∧ (hasOf (stepM m x)).map encB = ((hasOf m).map encB).set x.1.toNat (encB true) := by
  rw [hasOf_at m hA0 hA1] at h1
  rw [hasOf_at m hB0 hB1] at h2
  rw [frsOf_at m hB0 hB1]
  obtain ⟨f, hf⟩ := Option.isSome_iff_exists.1 h2
  have hn : fLook m x.1 = none := by simpa using h1
  have e : stepM m x = m ++ [(x.1, cmpF f (invF x.2.2))] := by simp only [stepM, hf, hn]
  rw [e, frsOf_snoc hA0 hn, hasOf_snoc hA0, hf, List.map_set, List.map_set]
  exact ⟨rfl, rfl⟩
theorem stepM_same {m : List (Int × Fr)} {x : RelT} (hA0 : 0 ≤ x.1) (hA1 : x.1 < 8) (hB0 : 0 ≤ x.2.1) (hB1 : x.2.1 < 8) (h1 : (hasOf m).getD x.1.toNat false = (hasOf m).getD x.2.1.toNat false) : stepM m x = m := by
  rw [hasOf_at m hA0 hA1, hasOf_at m hB0 hB1] at h1
  unfold stepM
  cases h2 : fLook m x.1 <;> cases h3 : fLook m x.2.1 <;> simp [h2, h3] at h1 ⊢
theorem frs_bd {m : List (Int × Fr)} (h : MOk m) (k : Int) : -7168 ≤ ((fLook m k).getD (0, 0, 0)).2.1 ∧ ((fLook m k).getD (0, 0, 0)).2.1 ≤ 7168 ∧ -7168 ≤ ((fLook m k).getD (0, 0, 0)).2.2 ∧ ((fLook m k).getD (0, 0, 0)).2.2 ≤ 7168 := by
  cases hk : fLook m k with
  | none => simp
  | some f =>
    have h1 := h.fr _ (fLook_mem hk)
    have h2 := h.len
    simp only [Option.getD_some] at h1 ⊢
    omega

/-! ### contracts of the reference -/
theorem rCompose_x (A Bb : Int) (f g : Fr) (h1 : -A ≤ f.2.1 ∧ f.2.1 ≤ A ∧ -A ≤ f.2.2 ∧ f.2.2 ≤ A) (h2 : -Bb ≤ g.2.1 ∧ g.2.1 ≤ Bb ∧ -Bb ≤ g.2.2 ∧ g.2.2 ≤ Bb) (hA : 0 ≤ A) (hB : 0 ≤ Bb) (hAB : A + Bb ≤ 8192) :
    PureX Try.prog 20 [.a [I f.1, I f.2.1, I f.2.2], .a [I g.1, I g.2.1, I g.2.2]] (.t [.a [I (cmpF f g).1, I (cmpF f g).2.1, I (cmpF f g).2.2], I 0]) := by
  refine PureX.mk' (Entr.of Try.func20 rfl rfl) (by simp [SV.wf, SV.wfs]) (by simp [SV.wf, SV.wfs]) fun w => (rCompose_any f.1 f.2.1 f.2.2 g.1 g.2.1 g.2.2 w).mono ?_
  rintro e w' ⟨rfl, hb⟩
  refine ⟨?_, hb⟩
  obtain ⟨c1, c2, c3, c4, c5, c6⟩ := cmpF_bd f g A Bb h1 h2
  have e1 : (szB f.2.1 8192 && szB f.2.2 8192) = true := by simp [szB]; omega
  have e2 : (szB g.2.1 8192 && szB g.2.2 8192) = true := by simp [szB]; omega
  have e3 : (szB (cmpF f g).2.1 8192 && szB (cmpF f g).2.2 8192) = true := by simp [szB]; omega
  simp only [cmpF] at e3
  simp [CmpV, e1, e2, e3, SV.val, SV.vals, cmpF]
theorem rInverse_x (A : Int) (f : Fr) (h1 : -A ≤ f.2.1 ∧ f.2.1 ≤ A ∧ -A ≤ f.2.2 ∧ f.2.2 ≤ A) (hA : A ≤ 8192) :
    PureX Try.prog 21 [.a [I f.1, I f.2.1, I f.2.2]] (.t [.a [I (invF f).1, I (invF f).2.1, I (invF f).2.2], I 0]) := by
  refine PureX.mk' (Entr.of Try.func21 rfl rfl) (by simp [SV.wf, SV.wfs]) (by simp [SV.wf, SV.wfs]) fun w => (rInverse_any f.1 f.2.1 f.2.2 w).mono ?_
  rintro e w' ⟨rfl, hb⟩
  refine ⟨?_, hb⟩
  have e1 : (szB f.2.1 8192 && szB f.2.2 8192) = true := by simp [szB]; omega
  simp [InvV, e1, SV.val, SV.vals, invF]
end Go.Proofs.Ytkacggfadalbiaa.En
