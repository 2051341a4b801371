/- Relations of robots as objects of the executor: New, Add, Between, Groups. -/
import Derived.Test.YtkacggfadalbiaaBs1
import Derived.Test.YtkacggfadalbiaaEnC
import Derived.Test.YtkacggfadalbiaaGs
set_option linter.all false
namespace Go.Proofs.Ytkacggfadalbiaa.En
open Go.RowKit

abbrev RelT := Go.Proofs.Ytkacggfadalbiaa.Rel
def relO (rb : Nat) (rs : List RelT) : OB := .res fun w F => ∃ q, RObj w rb q rs ∧ ∀ i, F i ↔ (i = rb ∨ q = some i)
theorem relO_at {σ : Nat → Nat} {n : Nat} {w : World} {b rb : Nat} {q : Option Nat} {rs : List RelT} (h : RObj w rb q rs) : (relO rb rs).at σ n w b (fun i => i = rb ∨ q = some i) :=
  ⟨⟨q, h, fun _ => Iff.rfl⟩, fun w' hw => ⟨q, h.keep (hw rb (.inl rfl)) (fun g hg => hw g (.inr hg)), fun _ => Iff.rfl⟩⟩
theorem nth_rel {C : Ctx} {σ : Nat → Nat} {fp : Nat → Nat → Prop} {ob : List OB} {w : World} {j rb : Nat} {rs : List RelT} (hm : Mem C σ fp ob w) (h : nth ob j = some (relO rb rs)) : (∃ q, RObj w rb q rs ∧ ∀ i, fp j i ↔ (i = rb ∨ q = some i)) ∧ j < ob.length := by
  rw [nth_eq] at h
  exact ⟨(hm.at_ j _ h).1, (List.getElem?_eq_some_iff.1 h).1⟩

section
variable {C : Ctx} {ob : List OB} {k : SV → List OB → Prop}
theorem CallX_New (hP : C.P = Try.prog) (hk : ∀ rb, force (ob ++ [relO rb []]) fun ob => k (.v (.pointer (some ⟨rb, 0, none⟩))) ob) : CallX C 28 [] ob k := by
  simp only [force_eq] at hk
  unfold CallX
  rw [hP]
  refine ⟨Entr.of Try.func28 rfl rfl, fun σ fp w hm => (New_any w).mono ?_⟩
  rintro e w' ⟨rfl, rfl⟩
  have hb : Below w.heap.size w (w.alloc (.cells #[.slice none 0 0] 95)) := (Below.refl _ _).alloc (Nat.le_refl _) _
  exact ⟨_, rfl, .v (.pointer (some ⟨w.heap.size, 0, none⟩)), _, _, _, hk _, fun j hj => by simp [show j ≠ ob.length by omega], by simp, rfl, trivial,
    hm.pushO hb (relO w.heap.size []) 0 _ (relO_at (RObj.new w)) (by rintro i (rfl | h); exact ⟨Nat.le_refl _, by simp⟩; cases h), Frm.pushed hb (by simp) (by rintro i (rfl | h); exact Nat.le_refl _; cases h)⟩

theorem CallX_Add (j : Nat) {rb : Nat} {rs : List RelT} {a b q x y : Int} (hP : C.P = Try.prog) (hj : nth ob j = some (relO rb rs)) (hn : rs.length ≤ 99) (hk : force (setN ob j (relO rb (addF rs (a, b, q, x, y)).2)) fun ob => k (I (addF rs (a, b, q, x, y)).1) ob) :
    CallX C 31 [.v (.pointer (some ⟨rb, 0, none⟩)), .a [I a, I b, I q, I x, I y]] ob k := by
  unfold CallX
  rw [hP]
  refine ⟨Entr.of Try.func31 rfl rfl, fun σ fp w hm => ?_⟩
  obtain ⟨⟨o, hr, hF⟩, hjl⟩ := nth_rel hm hj
  refine (Add_any rb o rs (a, b, q, x, y) w hr hn).mono ?_
  rintro e w' ⟨rfl, o', hr', hloc, honly⟩
  rw [force_eq, setN_eq] at hk
  have hin : ∀ i, (i = rb ∨ o' = some i) → fp j i ∨ w.heap.size ≤ i := by
    rintro i (rfl | h)
    · exact .inl ((hF i).2 (.inl rfl))
    · rcases hloc with rfl | ⟨g, rfl, hg⟩
      · exact .inl ((hF i).2 (.inr h))
      · simp at h; subst h; exact .inr hg
  have hsame : ∀ i, i < w.heap.size → ¬ fp j i → w'.heap[i]? = w.heap[i]? := by
    intro i hi hni
    exact honly.block i hi (fun h => hni ((hF i).2 (.inl h))) (fun h => hni ((hF i).2 (.inr h.symm)))
  refine ⟨_, rfl, _, _, σ, _, hk, fun _ _ => rfl, by simp, rfl, trivial, hm.change hjl (relO rb _) (fun i => i = rb ∨ o' = some i) (relO_at hr') hin ?_ honly.os honly.tape honly.output honly.size hsame, Frm.changed hjl (by simp) hin honly.size hsame⟩
  rintro i (rfl | h)
  · exact hr'.lt.1
  · exact hr'.lt.2 i h

def frS (f : Fr) : SV := .a [I f.1, I f.2.1, I f.2.2]
theorem CallX_Between (j : Nat) {rb : Nat} {rs : List RelT} {a b : Int} (hP : C.P = Try.prog) (hj : nth ob j = some (relO rb rs)) (hn : rs.length ≤ 100)
    (hk : k (.t [.a [I ((btF rs a b).getD (0, 0, 0)).1, I ((btF rs a b).getD (0, 0, 0)).2.1, I ((btF rs a b).getD (0, 0, 0)).2.2], B (btF rs a b).isSome]) ob) : CallX C 35 [.v (.pointer (some ⟨rb, 0, none⟩)), I a, I b] ob k := by
  unfold CallX
  rw [hP]
  refine ⟨Entr.of Try.func35 rfl rfl, fun σ fp w hm => ?_⟩
  obtain ⟨⟨o, hr, hF⟩, hjl⟩ := nth_rel hm hj
  refine (Between_any rb o rs a b w hr hn).mono ?_
  rintro e w' ⟨rfl, hb⟩
  refine ⟨_, rfl, _, ob, σ, fp, hk, fun _ _ => rfl, Nat.le_refl _, ?_, by simp [SV.wf, SV.wfs], hm.below hb, Frm.below hb⟩
  cases btF rs a b <;> simp [btV, frV, SV.val, SV.vals]

def grps (rs : List RelT) : List Int := (List.range 8).map fun (i : Nat) => grp rs (i : Int)
theorem CallX_Groups (j : Nat) {rb : Nat} {rs : List RelT} (hP : C.P = Try.prog) (hj : nth ob j = some (relO rb rs)) (hn : rs.length ≤ 100)
    (hk : ∀ b, force (ob ++ [.row 3 1 (some ⟨b, 0, none⟩) 8 8 ((grps rs).map fun x => [encI x])]) fun ob => k (.v (.slice (some ⟨b, 0, none⟩) 8 8)) ob) : CallX C 33 [.v (.pointer (some ⟨rb, 0, none⟩))] ob k := by
  simp only [force_eq] at hk
  unfold CallX
  rw [hP]
  refine ⟨Entr.of Try.func33 rfl rfl, fun σ fp w hm => ?_⟩
  obtain ⟨⟨o, hr, hF⟩, hjl⟩ := nth_rel hm hj
  refine (Groups_any rb o rs w hr hn).mono ?_
  rintro e w' ⟨rfl, hbk, hb⟩
  have hfl : ((grps rs).map fun x => [encI x]).flatten = (arrG rs 8).toList := by
    simp [grps, arrG, List.range_succ, encI]
  refine ⟨_, rfl, Goes.pushRow (els := (grps rs).map fun x => [encI x]) hm hb ⟨by rw [hfl]; simp [arrG_size], .inr ⟨w.heap.size, 8, arrG rs 8, rfl, Nat.le_refl _, hbk, Nat.le_refl _, by simp [maxLen], by simp [arrG_size], by rw [hfl]; exact List.take_of_length_le (by simp [arrG_size])⟩⟩ (by simp [grps]) (by simp) ?_ (.v (.slice (some ⟨w.heap.size, 0, none⟩) 8 8)) (fun _ => rfl) trivial (hk _)⟩
  intro x hx
  obtain ⟨l, hl, hxl⟩ := List.mem_flatten.1 hx
  obtain ⟨q, _, rfl⟩ := List.mem_map.1 hl
  simp at hxl
  subst hxl
  rfl
end
end Go.Proofs.Ytkacggfadalbiaa.En
