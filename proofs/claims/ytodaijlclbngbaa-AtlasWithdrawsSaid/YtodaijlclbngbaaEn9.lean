/- A region that draws its order, in one order: operations that compute or read float; the others stand in a chain. What has been read is read again behind each of the others. -/
import Derived.Test.YtodaijlclbngbaaEn8
import Derived.OrdersHeld
set_option linter.all false
namespace Go.Proofs.Ytodaijlclbngbaa.En
open Go.RowKit

def dep (ops : Array Oper) (j p : Nat) : Bool := ((ops[j]?).map fun o => o.after.any fun e => Region.binds .any e && e.on == p).getD false

structure Pend where
  i : Nat
  a : Act
  v : Value

section
variable {P : Program} {ops : Array Oper} {Q : Exit → Act → World → Prop}

def YO (P : Program) (ops : Array Oper) (o : Oper) (a : Act) (v : Value) (w : World) : Prop :=
  (Region.wanted o (yielded ops a.tmps) = true ∧ (execOp a.eval o).run P w = .ok (.value v) w) ∨ (Region.wanted o (yielded ops a.tmps) = false ∧ v = undef)
def YW (P : Program) (ops : Array Oper) (p : Pend) (w : World) : Prop := ∃ o, ops[p.i]? = some o ∧ YO P ops o p.a p.v w

def wpV (P : Program) (ops : Array Oper) (Q : Exit → Act → World → Prop) : Nat → List Pend → Array Bool → Act → World → Prop
  | 0, _, listed, a, w => Region.ready .any ops listed = [] ∧ Q .normal a w
  | f + 1, pend, listed, a, w => (Region.ready .any ops listed = [] → Q .normal a w) ∧
    ∀ i ∈ Region.ready .any ops listed, wpOp P ops Q i (fun a' w' => (∀ p ∈ pend, dep ops i p.i = false → YW P ops p w') ∧ wpV P ops Q f (pend.filter fun p => !dep ops i p.i) (listed.setIfInBounds i true) a' w') a w

theorem wpV_mono : ∀ (f : Nat) {pend pend' : List Pend} {listed : Array Bool} {a : Act} {w : World}, (∀ p ∈ pend, p ∈ pend') → wpV P ops Q f pend' listed a w → wpV P ops Q f pend listed a w
  | 0, _, _, _, _, _, _, h => h
  | f + 1, pend, pend', listed, a, w, hs, h => ⟨h.1, fun i hi => wpOp_mono (fun a' w' ⟨h1, h2⟩ => ⟨fun p hp hd => h1 p (hs p hp) hd, wpV_mono f (fun p hp => by
      simp only [List.mem_filter] at hp ⊢
      exact ⟨hs p hp.1, hp.2⟩) h2⟩) (h.2 i hi)⟩

theorem wpAny_of_V : ∀ (f : Nat) {pend : List Pend} {listed : Array Bool} {a : Act} {w : World}, wpV P ops Q f pend listed a w → wpAny P .any ops Q f listed a w
  | 0, _, _, _, _, h => h
  | f + 1, _, _, _, _, h => ⟨h.1, fun i hi => wpOp_mono (fun a' w' hh => wpAny_of_V f hh.2) (h.2 i hi)⟩

theorem wpOp_putZ {j : Nat} {oi oj : Oper} {v : Value} (hj : ops[j]? = some oj) (hap : oi.apart ops oj = true)
    (hsj : ∀ cs b, oj.op ≠ .select cs b)
    (hQ : ∀ c a w, Q (.panic c) (a.put oi.dst v) w → Q (.panic c) a w) {K : Act → World → Prop} {a : Act} {w : World} (Z : Act → Prop) (keep : ∀ a u, Z a → Z (a.put oj.dst u)) (keepD : ∀ a d, Z a → Z { a with defers := d :: a.defers })
    (hy : Z a) (h : wpOp P ops Q j K (a.put oi.dst v) w) :
    wpOp P ops Q j (fun a' w' => Z a' ∧ K (a'.put oi.dst v) w') a w := by
  obtain ⟨h1, h2, h3⟩ := Oper.apart_spec hap
  unfold wpOp at *
  simp only [hj] at *
  rw [wanted_put oj a oi.dst v h1] at h
  split
  · rename_i hw
    simp only [hw, if_true] at h
    rcases h with h | ⟨hasks, hlets⟩
    case inr => exact .inr ⟨by unfold Oper.asks at *; rw [execOp_put oj hsj a oi.dst v h1] at hasks; exact hasks, hlets⟩
    refine .inl ?_
    unfold Oper.wp at *
    rw [execOp_put oj hsj a oi.dst v h1] at h
    generalize (execOp a.eval oj).run P w = r at *
    cases r with
    | ok n w' =>
      cases n <;> simp only [Oper.upon] at h ⊢
      case value u => exact ⟨keep a u hy, by rw [← Act.put_comm a v u h2]; exact h⟩
      case skip => exact ⟨keep a _ hy, by rw [← Act.put_comm a v undef h2]; exact h⟩
      case defer d =>
        refine ⟨keep _ _ (keepD a d hy), ?_⟩
        rw [← Act.put_comm _ v undef h2, ← Act.put_defers]
        exact h
      case enter f args =>
        refine Calls.mono h fun e w'' he => ?_
        cases e with
        | returned u => exact ⟨keep a u hy, by rw [← Act.put_comm a v u h2]; exact he⟩
        | panicked c => exact hQ _ _ _ he
        | outgrown => exact he
      case row row args => exact Rows.mono h fun u w'' he => ⟨keep a u hy, by rw [← Act.put_comm a v u h2]; exact he⟩
    | halt x w' =>
      cases x <;> simp only [Oper.upon] at h ⊢
      case panic u => exact hQ _ _ _ h
  · rename_i hw
    simp only [hw] at h
    exact ⟨keep a _ hy, by rw [← Act.put_comm a v undef h2]; exact h⟩

theorem YO.wpOp {i : Nat} {o : Oper} {v : Value} {a : Act} {w : World} (hi : ops[i]? = some o) (hy : YO P ops o a v w) {K : Act → World → Prop} (h : K (a.put o.dst v) w) : wpOp P ops Q i K a w := by
  unfold Go.wpOp
  simp only [hi]
  rcases hy with ⟨hw, hv⟩ | ⟨hw, rfl⟩
  · simp only [hw, if_true, Oper.wp, hv, Oper.upon]; exact .inl h
  · simp only [hw, Bool.false_eq_true, if_false]; exact h

theorem dep_false {j i : Nat} {oj : Oper} {listed : Array Bool} (hj : j ∈ Region.ready .any ops listed) (hoj : ops[j]? = some oj) (hun : listed.getD i true = false) : dep ops j i = false := by
  obtain ⟨_, o, ho, hall⟩ := mem_ready.1 hj
  rw [hoj] at ho
  cases ho
  simp only [dep, hoj, Option.map_some, Option.getD_some]
  rw [Bool.eq_false_iff]
  intro h
  simp only [Array.any_eq_true', Bool.and_eq_true, beq_iff_eq] at h
  obtain ⟨e, he, hb, heq⟩ := h
  have h1 := hall e he hb
  rw [heq] at h1
  rcases Nat.lt_or_ge i listed.size with h' | h'
  · simp [h'] at h1 hun; rw [hun] at h1; cases h1
  · simp [Array.getElem?_eq_none h'] at h1

/-- an operation that reads, taken first: it may as well come later, as long as it reads the same -/
theorem wpV_delay (hsel : Region.noSelect ops = true) (hQ : ∀ c a w, ¬ Q (.panic c) a w) {i : Nat} {oi : Oper} {v : Value} {ai : Act} (hi : ops[i]? = some oi) :
    ∀ (f : Nat) {pend : List Pend} {listed : Array Bool} {a : Act} {w : World}, i ∈ Region.ready .any ops listed →
      (∀ j oj, ops[j]? = some oj → j ≠ i → listed.getD j true = false → dep ops j i = false → oi.apart ops oj = true) →
      (execOp a.eval oi = execOp ai.eval oi ∧ Region.wanted oi (yielded ops a.tmps) = Region.wanted oi (yielded ops ai.tmps)) →
      YO P ops oi ai v w → (∀ p ∈ pend, YW P ops p w) → wpV P ops Q f (⟨i, ai, v⟩ :: pend) (listed.setIfInBounds i true) (a.put oi.dst v) w → wpV P ops Q (f + 1) pend listed a w := by
  have here : ∀ {a : Act} {w : World}, (execOp a.eval oi = execOp ai.eval oi ∧ Region.wanted oi (yielded ops a.tmps) = Region.wanted oi (yielded ops ai.tmps)) → YO P ops oi ai v w → YO P ops oi a v w := by
    intro a w h hy
    unfold YO at *
    rw [h.1, h.2]
    exact hy
  intro f
  induction f with
  | zero =>
    intro pend listed a w hr hfree hsame hy hp H
    refine ⟨fun h => (by rw [h] at hr; cases hr), fun j hj => ?_⟩
    by_cases hji : j = i
    · subst hji
      exact (here hsame hy).wpOp hi ⟨fun p hpm _ => hp p hpm, H⟩
    · have := ready_mono hj hji
      rw [H.1] at this
      cases this
  | succ f ih =>
    intro pend listed a w hr hfree hsame hy hp H
    have hun := (mem_ready.1 hr).1
    refine ⟨fun h => (by rw [h] at hr; cases hr), fun j hj => ?_⟩
    by_cases hji : j = i
    · subst hji
      exact (here hsame hy).wpOp hi ⟨fun p hpm _ => hp p hpm, wpV_mono _ (fun p hpm => List.mem_cons_of_mem _ (List.mem_filter.1 hpm).1) H⟩
    · have h1 := H.2 j (ready_mono hj hji)
      obtain ⟨hjun, oj, hoj, hall⟩ := mem_ready.1 hj
      have hd := dep_false hj hoj hun
      have hap := hfree j oj hoj hji hjun hd
      have hnot := (Oper.apart_spec hap).2.2
      have h2 := wpOp_putZ hoj hap (fun cs b => Region.noSelect_spec hsel j oj cs b hoj) (fun c a w h => (hQ c _ w h).elim)
        (fun a' => execOp a'.eval oi = execOp ai.eval oi ∧ Region.wanted oi (yielded ops a'.tmps) = Region.wanted oi (yielded ops ai.tmps))
        (fun a' u h => ⟨by rw [execOp_put oi (fun cs b => Region.noSelect_spec hsel i oi cs b hi) a' oj.dst u hnot]; exact h.1, by rw [wanted_put oi a' oj.dst u hnot]; exact h.2⟩)
        (fun a' d h => h) hsame h1
      refine wpOp_mono (fun a' w' ⟨hz, hv, hK⟩ => ⟨fun p hpm hdp => hv p (List.mem_cons_of_mem _ hpm) hdp, ?_⟩) h2
      refine ih (ready_mono hr (Ne.symm hji)) ?_ hz ?_ ?_ ?_
      · intro k ok hk hki hun' hno
        refine hfree k ok hk hki ?_ hno
        by_cases hjk : j = k
        · subst hjk; exact hjun
        · rw [getD_set_ne true hjk] at hun'; exact hun'
      · obtain ⟨o, ho, hyo⟩ := hv ⟨i, ai, v⟩ (by simp) hd
        simp only at ho
        rw [hi] at ho
        cases ho
        exact hyo
      · intro p hpm
        obtain ⟨h3, h4⟩ := List.mem_filter.1 hpm
        exact hv p (List.mem_cons_of_mem _ h3) (by simpa using h4)
      · rw [Array.setIfInBounds_comm _ _ hji]
        have e : (⟨i, ai, v⟩ :: pend).filter (fun p => !dep ops j p.i) = ⟨i, ai, v⟩ :: pend.filter (fun p => !dep ops j p.i) := by
          simp [List.filter_cons, hd]
        rw [e] at hK
        exact hK

/-- one order -/
def wpS (P : Program) (ops : Array Oper) (Q : Exit → Act → World → Prop) : List Nat → List Pend → Act → World → Prop
  | [], _, a, w => Q .normal a w
  | i :: r, pend, a, w => match ops[i]? with
    | none => False
    | some o => match isVal o.op with
      | true => ∃ v, YO P ops o a v w ∧ wpS P ops Q r (⟨i, a, v⟩ :: pend) (a.put o.dst v) w
      | false => wpOp P ops Q i (fun a' w' => (∀ p ∈ pend, dep ops i p.i = false → YW P ops p w') ∧ wpS P ops Q r (pend.filter fun p => !dep ops i p.i) a' w') a w

def chkS (ops : Array Oper) : List Nat → Array Bool → Bool
  | [], listed => (Region.ready .any ops listed).isEmpty
  | i :: r, listed => (match ops[i]? with
    | none => false
    | some o => match isVal o.op with
      | true => (Region.ready .any ops listed).contains i && (List.range ops.size).all fun j => j == i || listed.getD j true || dep ops j i || ((ops[j]?).map fun oj => o.apart ops oj).getD true
      | false => Region.ready .any ops listed == [i]) && chkS ops r (listed.setIfInBounds i true)

theorem wpV_of_S (hsel : Region.noSelect ops = true) (hQ : ∀ c a w, ¬ Q (.panic c) a w) : ∀ (sch : List Nat) {pend : List Pend} {listed : Array Bool} {a : Act} {w : World}, chkS ops sch listed = true → (∀ p ∈ pend, YW P ops p w) →
    wpS P ops Q sch pend a w → wpV P ops Q sch.length pend listed a w
  | [], pend, listed, a, w, hc, hp, h => ⟨by simpa [chkS] using hc, h⟩
  | i :: r, pend, listed, a, w, hc, hp, h => by
    unfold chkS at hc
    unfold wpS at h
    cases hi : ops[i]? with
    | none => simp [hi] at h
    | some o =>
      simp only [hi, Bool.and_eq_true] at hc h
      obtain ⟨hc1, hc2⟩ := hc
      cases hv : isVal o.op with
      | true =>
        simp only [hv, Bool.and_eq_true] at hc1 h
        obtain ⟨v, hy, hs⟩ := h
        refine wpV_delay hsel hQ hi r.length (ai := a) (v := v) (by simpa using hc1.1) ?_ ⟨rfl, rfl⟩ hy hp (wpV_of_S hsel hQ r hc2 ?_ hs)
        · intro j oj hoj hji hun hd
          have hlt : j < ops.size := (Array.getElem?_eq_some_iff.1 hoj).1
          have := List.all_eq_true.1 hc1.2 j (List.mem_range.2 hlt)
          simpa [hji, hun, hd, hoj] using this
        · intro p hpm
          rcases List.mem_cons.1 hpm with rfl | hpm
          · exact ⟨o, hi, hy⟩
          · exact hp p hpm
      | false =>
        simp only [hv] at hc1 h
        have hr : Region.ready .any ops listed = [i] := by simpa using hc1
        refine ⟨fun h0 => (by rw [hr] at h0; cases h0), fun j hj => ?_⟩
        rw [hr] at hj
        simp at hj
        subst hj
        refine wpOp_mono (fun a' w' ⟨h1, h2⟩ => ⟨h1, wpV_of_S hsel hQ r hc2 ?_ h2⟩) h
        intro p hpm
        obtain ⟨h3, h4⟩ := List.mem_filter.1 hpm
        exact h1 p h3 (by simpa using h4)

def onlyN (Q : Act → World → Prop) : Exit → Act → World → Prop
  | .normal, a, w => Q a w
  | _, _, _ => False

theorem wp_region_S {id : Nat} {a : Act} {w : World} (hm : P.follows .mixedOrders = true) (hsel : Region.noSelect ops = true) (sch : List Nat) (hlen : sch.length = ops.size) (hc : chkS ops sch (Array.replicate ops.size false) = true)
    (h : wpS P ops (onlyN (Q .normal)) sch [] a w.drew) : (Code.region id ops true).wp P Q a w := by
  have h1 := wpV_of_S (Q := onlyN (Q .normal)) hsel (fun c a w h => h) sch hc (by simp) h
  rw [hlen] at h1
  refine wp_mono (wp_region_any hm (wpAny_of_V _ h1)) ?_
  intro e a w h
  cases e <;> first | exact h | exact h.elim

/-! ### with operations that make a variable and hang on nothing: they may come at any time -/
def wpT (P : Program) (ops : Array Oper) (Q : Exit → Act → World → Prop) : Nat → List Nat → List Nat → List Pend → Act → World → Prop
  | 0, _, _, _, a, w => Q .normal a w
  | n + 1, sch, sil, pend, a, w =>
    (∀ s ∈ sil, wpOp P ops Q s (fun a' w' => (∀ p ∈ pend, YW P ops p w') ∧ wpT P ops Q n sch (sil.erase s) pend a' w') a w) ∧
    (∀ i r, sch = i :: r → (∀ s ∈ sil, dep ops i s = false) → ∃ o, ops[i]? = some o ∧
      ((isVal o.op = true ∧ ∃ v, YO P ops o a v w ∧ wpT P ops Q n r sil (⟨i, a, v⟩ :: pend) (a.put o.dst v) w) ∨
       (isVal o.op = false ∧ wpOp P ops Q i (fun a' w' => (∀ p ∈ pend, dep ops i p.i = false → YW P ops p w') ∧ wpT P ops Q n r sil (pend.filter fun p => !dep ops i p.i) a' w') a w)))

def chkT (ops : Array Oper) (sil0 : List Nat) : List Nat → Bool
  | [] => true
  | i :: r => (match ops[i]? with
    | none => false
    | some o => (o.after.all fun e => !Region.binds .any e || Nat.blt e.on ops.size) && ((i :: r).all fun j => !dep ops i j) &&
      (match isVal o.op && sil0.all (fun s => !dep ops i s) with
        | true => (r ++ sil0).all fun j => dep ops j i || ((ops[j]?).map fun oj => o.apart ops oj).getD true
        | false => r.all fun j => (i :: r).any fun k => dep ops j k)) && chkT ops sil0 r

theorem dep_of_ready {j k : Nat} {listed : Array Bool} (hj : j ∈ Region.ready .any ops listed) (hun : listed.getD k true = false) : dep ops j k = false := by
  obtain ⟨_, o, ho, _⟩ := mem_ready.1 hj
  exact dep_false hj ho hun

theorem wpV_of_T (hsel : Region.noSelect ops = true) (hQ : ∀ c a w, ¬ Q (.panic c) a w) {sil0 : List Nat} (hs0 : ∀ s ∈ sil0, ∃ o, ops[s]? = some o ∧ o.after = #[]) :
    ∀ (n : Nat) {sch sil : List Nat} {pend : List Pend} {listed : Array Bool} {a : Act} {w : World}, sch.length + sil.length = n → chkT ops sil0 sch = true → (∀ s ∈ sil, s ∈ sil0) → (sch ++ sil).Nodup → listed.size = ops.size →
      (∀ j, listed.getD j true = false ↔ j ∈ sch ∨ j ∈ sil) → (∀ p ∈ pend, YW P ops p w) → wpT P ops Q n sch sil pend a w → wpV P ops Q n pend listed a w
  | 0, sch, sil, pend, listed, a, w, hn, hc, hss, hnd, hsz, hinv, hp, h => by
    have e1 : sch = [] := List.eq_nil_of_length_eq_zero (by omega)
    have e2 : sil = [] := List.eq_nil_of_length_eq_zero (by omega)
    subst e1 e2
    refine ⟨List.eq_nil_iff_forall_not_mem.2 fun j hj => ?_, h⟩
    have := (hinv j).1 (mem_ready.1 hj).1
    simp at this
  | n + 1, sch, sil, pend, listed, a, w, hn, hc, hss, hnd, hsz, hinv, hp, h => by
    obtain ⟨hA, hB⟩ := h
    have lst : ∀ j, j < ops.size → ∀ k, (listed.setIfInBounds j true).getD k true = false ↔ (listed.getD k true = false ∧ k ≠ j) := by
      intro j hj k
      by_cases e : j = k
      · subst e
        simp [hsz, hj]
      · rw [getD_set_ne true e]
        simp [Ne.symm e]
    have silready : ∀ s ∈ sil, s ∈ Region.ready .any ops listed := by
      intro s hs
      obtain ⟨o, ho, haf⟩ := hs0 s (hss s hs)
      exact mem_ready.2 ⟨(hinv s).2 (.inr hs), o, ho, by simp [haf]⟩
    have sildep : ∀ s ∈ sil, ∀ p, dep ops s p = false := by
      intro s hs p
      obtain ⟨o, ho, haf⟩ := hs0 s (hss s hs)
      simp [dep, ho, haf]
    have silstep : ∀ s ∈ sil, wpOp P ops Q s (fun a' w' => (∀ p ∈ pend, dep ops s p.i = false → YW P ops p w') ∧ wpV P ops Q n (pend.filter fun p => !dep ops s p.i) (listed.setIfInBounds s true) a' w') a w := by
      intro s hs
      obtain ⟨o, ho, haf⟩ := hs0 s (hss s hs)
      have hlt : s < ops.size := (Array.getElem?_eq_some_iff.1 ho).1
      refine wpOp_mono (fun a' w' ⟨h1, h2⟩ => ⟨fun p hpm _ => h1 p hpm, wpV_mono _ (fun p hpm => (List.mem_filter.1 hpm).1) ?_⟩) (hA s hs)
      have hnd' := hnd
      rw [List.nodup_append] at hnd'
      refine wpV_of_T (sch := sch) (sil := sil.erase s) hsel hQ hs0 n (by have := List.length_erase_of_mem hs; have := List.length_pos_of_mem hs; omega) hc (fun x hx => hss x (List.mem_of_mem_erase hx)) ?_ (by simpa using hsz) ?_ h1 h2
      · rw [List.nodup_append]
        exact ⟨hnd'.1, hnd'.2.1.erase _, fun x hx y hy => hnd'.2.2 x hx y (List.mem_of_mem_erase hy)⟩
      · intro j
        rw [lst s hlt j, hinv j, hnd'.2.1.mem_erase_iff]
        constructor
        · rintro ⟨h | h, hne⟩
          · exact .inl h
          · exact .inr ⟨hne, h⟩
        · rintro (h | ⟨hne, h⟩)
          · exact ⟨.inl h, fun e => hnd'.2.2 j h s hs e⟩
          · exact ⟨.inr h, hne⟩
    cases sch with
    | nil =>
      refine ⟨fun h0 => ?_, fun j hj => ?_⟩
      · cases sil with
        | nil => simp at hn
        | cons s l => have := silready s (by simp); rw [h0] at this; cases this
      · rcases (hinv j).1 (mem_ready.1 hj).1 with h | h
        · cases h
        · exact silstep j h
    | cons i r =>
      unfold chkT at hc
      cases hi : ops[i]? with
      | none => simp [hi] at hc
      | some o =>
        simp only [hi, Bool.and_eq_true] at hc
        obtain ⟨⟨⟨hc1, hc2⟩, hc3⟩, hc4⟩ := hc
        have hlt : i < ops.size := (Array.getElem?_eq_some_iff.1 hi).1
        have hnd' := hnd
        rw [List.nodup_append, List.nodup_cons] at hnd'
        have hinv' : ∀ j, (listed.setIfInBounds i true).getD j true = false ↔ j ∈ r ∨ j ∈ sil := by
          intro j
          rw [lst i hlt j, hinv j]
          constructor
          · rintro ⟨h | h, hne⟩
            · rcases List.mem_cons.1 h with h | h
              · exact (hne h).elim
              · exact .inl h
            · exact .inr h
          · rintro (h | h)
            · exact ⟨.inl (List.mem_cons_of_mem _ h), fun e => hnd'.1.1 (e ▸ h)⟩
            · exact ⟨.inr h, fun e => hnd'.2.2 i (by simp) j h e.symm⟩
        have hnd2 : (r ++ sil).Nodup := by
          rw [List.nodup_append]
          exact ⟨hnd'.1.2, hnd'.2.1, fun x hx y hy => hnd'.2.2 x (List.mem_cons_of_mem _ hx) y hy⟩
        have iready : (∀ s ∈ sil, dep ops i s = false) → i ∈ Region.ready .any ops listed := by
          intro hd
          refine mem_ready.2 ⟨(hinv i).2 (.inl (by simp)), o, hi, fun e he hb => ?_⟩
          have hr := Array.all_eq_true_iff_forall_mem.1 hc1 e he
          simp only [hb, Bool.not_true, Bool.false_or] at hr
          have hon : e.on < ops.size := by simpa using hr
          have hdep : dep ops i e.on = true := by
            simp only [dep, hi, Option.map_some, Option.getD_some, Array.any_eq_true', Bool.and_eq_true, beq_iff_eq]
            exact ⟨e, he, hb, rfl⟩
          have hnot : ¬ listed.getD e.on true = false := by
            rw [hinv e.on]
            rintro (h | h)
            · have := List.all_eq_true.1 hc2 e.on h
              simp [hdep] at this
            · rw [hd e.on h] at hdep; cases hdep
          have hin : e.on < listed.size := by omega
          simp [hin] at hnot ⊢
          exact hnot
        cases hty : (isVal o.op && sil0.all fun s => !dep ops i s) with
        | true =>
          rw [hty] at hc3
          simp only [Bool.and_eq_true] at hty
          have hd : ∀ s ∈ sil, dep ops i s = false := fun s hs => by simpa using List.all_eq_true.1 hty.2 s (hss s hs)
          obtain ⟨o', ho', hcase⟩ := hB i r rfl hd
          rw [hi] at ho'
          cases ho'
          rcases hcase with ⟨_, v, hy, hT⟩ | ⟨hf, _⟩
          · refine wpV_delay hsel hQ hi n (ai := a) (v := v) (iready hd) ?_ ⟨rfl, rfl⟩ hy hp (wpV_of_T hsel hQ hs0 n (by simp at hn; omega) hc4 hss hnd2 (by simpa using hsz) hinv' ?_ hT)
            · intro j oj hoj hji hun hdj
              have hmem : j ∈ r ++ sil0 := by
                rcases (hinv j).1 hun with h | h
                · rcases List.mem_cons.1 h with h | h
                  · exact (hji h).elim
                  · exact List.mem_append.2 (.inl h)
                · exact List.mem_append.2 (.inr (hss j h))
              have := List.all_eq_true.1 hc3 j hmem
              simpa [hdj, hoj] using this
            · intro p hpm
              rcases List.mem_cons.1 hpm with rfl | hpm
              · exact ⟨o, hi, hy⟩
              · exact hp p hpm
          · rw [hty.1] at hf; cases hf
        | false =>
          rw [hty] at hc3
          refine ⟨fun h0 => ?_, fun j hj => ?_⟩
          · by_cases hd : ∀ s ∈ sil, dep ops i s = false
            · have := iready hd
              rw [h0] at this
              cases this
            · have ⟨s, hs⟩ : ∃ s, s ∈ sil := by
                cases sil with
                | nil => exact (hd (by simp)).elim
                | cons s l => exact ⟨s, by simp⟩
              have := silready s hs
              rw [h0] at this
              cases this
          · rcases (hinv j).1 (mem_ready.1 hj).1 with h | h
            · rcases List.mem_cons.1 h with rfl | h
              · have hd : ∀ s ∈ sil, dep ops j s = false := fun s hs => dep_of_ready hj ((hinv s).2 (.inr hs))
                obtain ⟨o', ho', hcase⟩ := hB j r rfl hd
                rw [hi] at ho'
                cases ho'
                rcases hcase with ⟨_, v, hy, hT⟩ | ⟨_, hw⟩
                · refine hy.wpOp hi ⟨fun p hpm _ => hp p hpm, wpV_mono _ (fun p hpm => List.mem_cons_of_mem _ (List.mem_filter.1 hpm).1) (wpV_of_T hsel hQ hs0 n (by simp at hn; omega) hc4 hss hnd2 (by simpa using hsz) hinv' ?_ hT)⟩
                  intro p hpm
                  rcases List.mem_cons.1 hpm with rfl | hpm
                  · exact ⟨o, hi, hy⟩
                  · exact hp p hpm
                · refine wpOp_mono (fun a' w' ⟨h1, h2⟩ => ⟨h1, wpV_of_T hsel hQ hs0 n (by simp at hn; omega) hc4 hss hnd2 (by simpa using hsz) hinv' ?_ h2⟩) hw
                  intro p hpm
                  obtain ⟨h3, h4⟩ := List.mem_filter.1 hpm
                  exact h1 p h3 (by simpa using h4)
              · have := List.all_eq_true.1 hc3 j h
                obtain ⟨k, hk, hdk⟩ := List.any_eq_true.1 this
                rw [dep_of_ready hj ((hinv k).2 (.inl hk))] at hdk
                cases hdk
            · exact silstep j h

end
end Go.Proofs.Ytodaijlclbngbaa.En
