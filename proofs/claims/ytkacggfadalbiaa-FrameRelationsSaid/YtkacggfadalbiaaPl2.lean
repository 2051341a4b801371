/- The plain law of FrameOrder: relations that agree with one placement are all accepted, in whatever order, and lead to the same. -/
import Derived.Test.YtkacggfadalbiaaPl1
set_option linter.all false
namespace Go.Proofs.Ytkacggfadalbiaa

/-- relations that agree with a placement -/
def Good (P : Int → Fr) (l : List Rel) : Prop := (∀ k, FrOk (P k)) ∧ ∀ x ∈ l, addOk x = true ∧ addX x = x ∧ cmpF (P x.1) x.2.2 = P x.2.1

theorem Good.sub {P : Int → Fr} {l l' : List Rel} (h : Good P l) (hs : ∀ x ∈ l', x ∈ l) : Good P l' := ⟨h.1, fun x hx => h.2 x (hs x hx)⟩

/-- what holds while good relations are added -/
structure OInv (P : Int → Fr) (rs dn : List Rel) : Prop where
  acc : Acc rs
  plc : Plc rs P
  sub : ∀ r ∈ rs, r ∈ dn
  con : ∀ r ∈ dn, Conn rs r.1 r.2.1

theorem OInv.step {P : Int → Fr} {rs dn : List Rel} {x : Rel} (h : OInv P rs dn) (hx : addOk x = true ∧ addX x = x ∧ cmpF (P x.1) x.2.2 = P x.2.1) : (addF rs x).1 = 0 ∧ OInv P (addF rs x).2 (dn ++ [x]) := by
  obtain ⟨h1, h2, h3⟩ := hx
  have hok : RelOk x := by have := addX_ok h1; rwa [h2] at this
  unfold addF
  rw [if_pos h1, h2]
  cases hb : btF rs x.1 x.2.1 with
  | none =>
    refine ⟨rfl, .snoc h.acc hok hb, ⟨h.plc.ok, ?_⟩, ?_, ?_⟩
    · intro r hr
      rcases List.mem_append.1 hr with hr | hr
      · exact h.plc.rel r hr
      · simp at hr; subst hr; exact h3
    · intro r hr
      rcases List.mem_append.1 hr with hr | hr
      · exact List.mem_append.2 (.inl (h.sub r hr))
      · exact List.mem_append.2 (.inr hr)
    · intro r hr
      rcases List.mem_append.1 hr with hr | hr
      · exact (h.con r hr).mono fun z hz => List.mem_append.2 (.inl hz)
      · simp at hr; subst hr; exact .fwd .refl (by simp)
  | some f =>
    obtain ⟨g1, g2⟩ := btF_plc h.plc h.acc.ok hb
    have hf : f = x.2.2 := cmpF_cancel (h.plc.ok x.1) g2 (relFr hok) (g1.trans h3.symm)
    simp only [hf]
    refine ⟨rfl, h.acc, h.plc, fun r hr => List.mem_append.2 (.inl (h.sub r hr)), ?_⟩
    intro r hr
    rcases List.mem_append.1 hr with hr | hr
    · exact h.con r hr
    · simp at hr; subst hr
      exact (btF_conn h.acc.ok hok.1 hok.2.1 hok.2.2.1 hok.2.2.2.1).1 (by rw [hb]; rfl)

theorem OInv.all {P : Int → Fr} : ∀ {l rs dn : List Rel}, OInv P rs dn → Good P l → OInv P (addAll rs l) (dn ++ l)
  | [], _, _, h, _ => by simpa [addAll] using h
  | x :: l, rs, dn, h, hl => by
    have := OInv.all (l := l) (h.step (hl.2 x (by simp))).2 (hl.sub fun z hz => by simp [hz])
    simpa [addAll] using this
theorem OInv.nil {P : Int → Fr} (hP : ∀ k, FrOk (P k)) : OInv P [] [] := ⟨.nil, ⟨hP, by simp⟩, by simp, by simp⟩
theorem good_inv {P : Int → Fr} {l : List Rel} (h : Good P l) : OInv P (addAll [] l) l := by simpa using (OInv.nil h.1).all h

theorem good_add {P : Int → Fr} {l : List Rel} (h : Good P l) {k : Nat} {x : Rel} (hx : l[k]? = some x) : (addF (addAll [] (l.take k)) x).1 = 0 ∧ addAll [] (l.take (k + 1)) = (addF (addAll [] (l.take k)) x).2 := by
  obtain ⟨hk, hx'⟩ := List.getElem?_eq_some_iff.1 hx
  refine ⟨((good_inv (h.sub fun z hz => List.mem_of_mem_take hz)).step (h.2 x (List.mem_of_getElem? hx))).1, ?_⟩
  rw [← addAll_snoc, List.take_succ_eq_append_getElem hk, hx']

theorem order_conn {P : Int → Fr} {l l' : List Rel} (h : Good P l) (hs : ∀ x, x ∈ l ↔ x ∈ l') (a b : Int) : Conn (addAll [] l) a b ↔ Conn (addAll [] l') a b := by
  have h1 := good_inv h
  have h2 := good_inv (h.sub fun x hx => (hs x).2 hx)
  exact ⟨fun hc => hc.less fun r hr => h2.con r ((hs r).1 (h1.sub r hr)), fun hc => hc.less fun r hr => h1.con r ((hs r).2 (h2.sub r hr))⟩
theorem order_bt {P : Int → Fr} {l l' : List Rel} (h : Good P l) (hs : ∀ x, x ∈ l ↔ x ∈ l') {a b : Int} (a0 : 0 ≤ a) (a1 : a < 8) (b0 : 0 ≤ b) (b1 : b < 8) : btF (addAll [] l') a b = btF (addAll [] l) a b := by
  have h1 := good_inv h
  have h2 := good_inv (h.sub fun x hx => (hs x).2 hx)
  have hc := order_conn h hs a b
  cases e1 : btF (addAll [] l) a b with
  | none =>
    cases e2 : btF (addAll [] l') a b with
    | none => rfl
    | some g =>
      have := (btF_conn h1.acc.ok a0 a1 b0 b1).2 (hc.2 ((btF_conn h2.acc.ok a0 a1 b0 b1).1 (by rw [e2]; rfl)))
      rw [e1] at this; cases this
  | some f =>
    obtain ⟨g, hg⟩ := Option.isSome_iff_exists.1 ((btF_conn h2.acc.ok a0 a1 b0 b1).2 (hc.1 ((btF_conn h1.acc.ok a0 a1 b0 b1).1 (by rw [e1]; rfl))))
    obtain ⟨p1, p2⟩ := btF_plc h1.plc h1.acc.ok e1
    obtain ⟨p3, p4⟩ := btF_plc h2.plc h2.acc.ok hg
    rw [hg]
    exact congrArg some (cmpF_cancel (h.1 a) p4 p2 (p3.trans p1.symm))
theorem order_grp {P : Int → Fr} {l l' : List Rel} (h : Good P l) (hs : ∀ x, x ∈ l ↔ x ∈ l') : arrG (addAll [] l') 8 = arrG (addAll [] l) 8 := by
  have h1 := good_inv h
  have h2 := good_inv (h.sub fun x hx => (hs x).2 hx)
  unfold arrG
  congr 1
  refine List.map_congr_left fun i hi => ?_
  have hi8 : i < 8 := by simpa using hi
  rw [if_pos hi8, if_pos hi8]
  congr 1
  exact grp_same (by omega) (by omega) (by omega) (by omega) h2.acc.ok h1.acc.ok fun k => (order_conn h hs i k).symm

/-- the relation between two placed robots -/
def trueRel (P : Int → Fr) (a b : Int) : Rel := (a, b, cmpF (invF (P a)) (P b))
theorem trueRel_good {P : Int → Fr} (hP : ∀ k, FrOk (P k)) (hb : ∀ k, -200 ≤ (P k).2.1 ∧ (P k).2.1 ≤ 200 ∧ -200 ≤ (P k).2.2 ∧ (P k).2.2 ≤ 200) {a b : Int} (a0 : 0 ≤ a) (a1 : a < 8) (b0 : 0 ≤ b) (b1 : b < 8) (hab : a ≠ b) :
    addOk (trueRel P a b) = true ∧ addX (trueRel P a b) = trueRel P a b ∧ cmpF (P (trueRel P a b).1) (trueRel P a b).2.2 = P (trueRel P a b).2.1 := by
  have hi := invF_bd (P a) 200 (hb a)
  obtain ⟨c1, c2, c3, c4, c5, c6⟩ := cmpF_bd (invF (P a)) (P b) 200 200 hi.2.2 (hb b)
  refine ⟨?_, ?_, ?_⟩
  · simp only [addOk, trueRel]
    rw [rbB_mk a0 a1, rbB_mk b0 b1, szB_in (by omega) (by omega), szB_in (by omega) (by omega)]
    simpa using hab
  · simp only [addX, trueRel]
    rw [Int.emod_eq_of_lt c1 c2]
  · simp only [trueRel]
    rw [← cmpF_assoc _ _ _ (hP a) (invF_ok _), cmpF_inv _ (hP a), zero_cmpF _ (hP b)]
end Go.Proofs.Ytkacggfadalbiaa
