import Derived.Test.YtlnplelandimeaaGreatZbfa35
set_option linter.all false
section
namespace Go.Proofs.YtlnplelandimeaaGreat.En
open Go.RowKit
set_option maxRecDepth 100000
section
variable {α : Type} {key : α → List Int}
theorem top_opt (o : Option α) : TopOf key o.toList o := by
  cases o with
  | none => rfl
  | some v => exact ⟨by simp, fun u hu => by rw [show u = v by simpa using hu, lexC_self]; exact Int.le_refl _⟩
theorem joinO_comm (hk : ∀ a b, key a = key b → a = b) (o p : Option α) : joinO key o p = joinO key p o :=
  TopOf.unique key hk ((top_opt o).join (top_opt p)) ((top_opt p).join (top_opt o)) fun x => by simp only [List.mem_append]; exact Or.comm
theorem joinO_assoc (hk : ∀ a b, key a = key b → a = b) (o p q : Option α) : joinO key (joinO key o p) q = joinO key o (joinO key p q) :=
  TopOf.unique key hk (((top_opt o).join (top_opt p)).join (top_opt q)) ((top_opt o).join ((top_opt p).join (top_opt q))) fun x => by simp only [List.mem_append]; exact or_assoc
theorem joinO_self (hk : ∀ a b, key a = key b → a = b) (o : Option α) : joinO key o o = o :=
  TopOf.unique key hk ((top_opt o).join (top_opt o)) (top_opt o) fun x => by simp only [List.mem_append]; exact or_self_iff
end
theorem joinA_comm (a b : AtT) : joinA a b = joinA b a := Prod.ext (funext fun k => joinO_comm keyS_inj _ _) (funext fun k => joinO_comm keyP_inj _ _)
theorem joinA_assoc (a b c : AtT) : joinA (joinA a b) c = joinA a (joinA b c) := Prod.ext (funext fun k => joinO_assoc keyS_inj _ _ _) (funext fun k => joinO_assoc keyP_inj _ _ _)
theorem joinA_self (a : AtT) : joinA a a = a := Prod.ext (funext fun k => joinO_self keyS_inj _) (funext fun k => joinO_self keyP_inj _)
abbrev KnT := (Nat → Nat → Option Fr) × (Nat → AtT)
def knS (S : SnT) : KnT := (S.rel, S.ats)
def jK (a b : KnT) : KnT := (fun u v => joinO keyF (a.1 u v) (b.1 u v), fun i => joinA (a.2 i) (b.2 i))
theorem jK_comm (a b : KnT) : jK a b = jK b a := Prod.ext (funext fun u => funext fun v => joinO_comm keyF_inj _ _) (funext fun i => joinA_comm _ _)
theorem jK_assoc (a b c : KnT) : jK (jK a b) c = jK a (jK b c) := Prod.ext (funext fun u => funext fun v => joinO_assoc keyF_inj _ _ _) (funext fun i => joinA_assoc _ _ _)
theorem jK_self (a : KnT) : jK a a = a := Prod.ext (funext fun u => funext fun v => joinO_self keyF_inj _) (funext fun i => joinA_self _)
theorem jK_self2 (a b : KnT) : jK (jK a b) b = jK a b := by rw [jK_assoc, jK_self]
theorem jK_right (a b c : KnT) : jK (jK a b) c = jK (jK a c) b := by rw [jK_assoc, jK_comm b c, ← jK_assoc]
theorem kn_hear (S O : SnT) : knS (hearS S O) = jK (knS S) (knS O) := rfl
theorem pairs_kn {S O : SnT} (h : knS S = knS O) : pairs S = pairs O := by
  have h1 : S.rel = O.rel := congrArg Prod.fst h
  unfold pairs pairsN
  congr 1
  funext t
  unfold prs
  rw [h1]
theorem same_kn {S O : SnT} (h : knS S = knS O) : sameS S O := ⟨pairs_kn h, fun i _ => congrFun (congrArg Prod.snd h) i⟩
theorem view_kn {S O : SnT} (h : knS S = knS O) (n : Int) : viewS S n = viewS O n := by
  have h2 : S.ats = O.ats := congrArg Prod.snd h
  have h3 : framesS S = framesS O := by
    unfold framesS
    rw [pairs_kn h]
  unfold viewS
  have : ∀ k, viewK S n k = viewK O n k := by
    intro k
    induction k with
    | zero => rfl
    | succ k ih =>
      unfold viewK
      rw [h2, h3, ih]
  exact this 8
theorem normR_bd {x : RelT} (h : addOk x = true) : ((normR x).1.toNat < (normR x).2.1.toNat ∧ (normR x).2.1.toNat < 8) ∧ (0 ≤ (normR x).2.2.1 ∧ (normR x).2.2.1 < 4) ∧ (-1024 ≤ (normR x).2.2.2.1 ∧ (normR x).2.2.2.1 ≤ 1024) ∧ -1024 ≤ (normR x).2.2.2.2 ∧ (normR x).2.2.2.2 ≤ 1024 := by
  obtain ⟨h1, h2, h3, h4, h5⟩ := addOk_bd h
  unfold normR
  split
  · have t1 := tX_bd ((-x.2.2.1) % 4) (-x.2.2.2.1) (-x.2.2.2.2) 1024 (by omega) (by omega) (by omega) (by omega)
    have t2 := tY_bd ((-x.2.2.1) % 4) (-x.2.2.2.1) (-x.2.2.2.2) 1024 (by omega) (by omega) (by omega) (by omega)
    unfold invF
    dsimp only
    exact ⟨by omega, by omega, t1, t2⟩
  · dsimp only
    exact ⟨by omega, by omega, h4, h5⟩
theorem joinO_in {α : Type} {key : α → List Int} {P : α → Prop} {o p : Option α} (h1 : ∀ x, o = some x → P x) (h2 : ∀ x, p = some x → P x) : ∀ x, joinO key o p = some x → P x := by
  intro x hx
  rcases joinO_cases key o p with e | e <;> rw [e] at hx
  · exact h2 x hx
  · exact h1 x hx
theorem wf_take {S : SnT} (h : wfS S) {x : RelT} (hx : addOk x = true) : wfS (takeS S x) := by
  obtain ⟨n1, n2, n3, n4, n5⟩ := normR_bd hx
  have hr : ∀ u v f, (takeS S x).rel u v = some f → S.rel u v = some f ∨ (u = (normR x).1.toNat ∧ v = (normR x).2.1.toNat ∧ f = (normR x).2.2) := by
    intro u v f hf
    have hf : upd2 S.rel (normR x).1.toNat (normR x).2.1.toNat (mxO keyF (S.rel (normR x).1.toNat (normR x).2.1.toNat) (normR x).2.2) u v = some f := hf
    unfold upd2 at hf
    split at hf
    · rename_i e
      rcases mxO_cases keyF (S.rel (normR x).1.toNat (normR x).2.1.toNat) (normR x).2.2 with c | c <;> rw [c] at hf
      · exact .inr ⟨e.1, e.2, (Option.some.inj hf).symm⟩
      · exact .inl (by rw [e.1, e.2]; exact hf)
    · exact .inl hf
  refine ⟨fun u v hc => ?_, fun u v f hf => ?_, h.2.2⟩
  · rcases opt_em ((takeS S x).rel u v) with e | ⟨f, e⟩
    · exact e
    · rcases hr u v f e with e2 | ⟨rfl, rfl, rfl⟩
      · rw [h.1 u v hc] at e2
        cases e2
      · exact absurd n1 hc
  · rcases hr u v f hf with e2 | ⟨rfl, rfl, rfl⟩
    · exact h.2.1 u v f e2
    · exact ⟨n2, n3, n4, n5⟩
theorem wf_hear {S O : SnT} (h : wfS S) (h' : wfS O) : wfS (hearS S O) := by
  refine ⟨fun u v hc => ?_, fun u v => ?_, fun i hi => ?_⟩
  · show joinO keyF (S.rel u v) (O.rel u v) = none
    rw [h.1 u v hc, h'.1 u v hc]
    rfl
  · exact joinO_in (h.2.1 u v) (h'.2.1 u v)
  · show joinA (S.ats i) (O.ats i) = at0
    rw [h.2.2 i hi, h'.2.2 i hi]
    rfl
theorem wf_upd {S : SnT} (h : wfS S) {i : Nat} (hi : i < 8) (a : AtT) : wfS { S with ats := updN S.ats i a } := by
  refine ⟨h.1, h.2.1, fun j hj => ?_⟩
  show updN S.ats i a j = at0
  unfold updN
  rw [if_neg (by omega)]
  exact h.2.2 j hj
theorem wf_st {Q : Nat → SnT} (hQ : okQ Q) (o : FOp) {i j : Nat} (hi : i < 3) (hj : j < 3) : (stF Q o i j).me = i ∧ wfS (stF Q o i j) := by
  obtain ⟨hm, hw⟩ := hQ i hi
  unfold stF
  split
  · exact ⟨hm, wf_upd hw (by omega) _⟩
  · split
    · exact ⟨hm, wf_upd hw (by omega) _⟩
    · split
      · split
        · rename_i hx
          exact ⟨hm, wf_take hw hx⟩
        · exact ⟨hm, hw⟩
      · split
        · exact ⟨hm, hw⟩
        · exact ⟨hm, wf_hear hw (hQ j hj).2⟩
theorem whoF_lt (o : FOp) : whoF o < 3 := by unfold whoF; omega
theorem froF_lt (o : FOp) : froF o < 3 := by unfold froF; omega
theorem okQ_do {Q : Nat → SnT} (hQ : okQ Q) (o : FOp) : okQ (doQ Q o) := by
  intro i hi
  unfold doQ updN
  split
  · rename_i e
    subst e
    exact wf_st hQ o (whoF_lt o) (froF_lt o)
  · exact hQ i hi
def Q0 : Nat → SnT := fun i => sn0 i
theorem wf_sn0 (m : Int) : wfS (sn0 m) := ⟨fun _ _ _ => rfl, fun _ _ _ h => (by cases h), fun _ _ => rfl⟩
theorem okQ0 : okQ Q0 := fun i _ => ⟨rfl, wf_sn0 i⟩
def runQ (Q : Nat → SnT) (l : List FOp) : Nat → SnT := l.foldl doQ Q
theorem okQ_run : ∀ (l : List FOp) {Q : Nat → SnT}, okQ Q → okQ (runQ Q l)
  | [], _, h => h
  | o :: l, _, h => okQ_run l (okQ_do h o)
theorem runQ_take {Q : Nat → SnT} {l : List FOp} {k : Nat} (hk : k < l.length) : runQ Q (l.take (k + 1)) = doQ (runQ Q (l.take k)) (l.getD k fo0) := by
  have e : l.getD k fo0 = l[k] := by simp [hk]
  unfold runQ
  rw [List.take_succ_eq_append_getElem hk, List.foldl_append, e]
  rfl
def k3 (o : FOp) : FOp := (o.1 % 3, o.2)
theorem hears1 (a b c : SnT) : knS (hearS (hearS a b) c) = knS (hearS c (hearS b a)) := by
  simp only [kn_hear]
  rw [jK_comm (knS a) (knS b), jK_comm]
theorem hears2 (a b c : SnT) : knS (hearS b (hearS (hearS a b) c)) = knS (hearS (hearS a b) c) := by
  simp only [kn_hear]
  rw [jK_comm (knS b), jK_right _ _ (knS b), jK_self2]
theorem hears3 (a b c y : SnT) (h : knS y = knS (hearS (hearS a b) c)) : knS (hearS (hearS (hearS (hearS a b) c) y) a) = knS (hearS (hearS a b) c) := by
  rw [kn_hear, kn_hear, h, jK_self]
  simp only [kn_hear]
  rw [jK_comm (knS a) (knS b), jK_right, jK_self2]
end Go.Proofs.YtlnplelandimeaaGreat.En
end
section
namespace Go.Proofs.YtlnplelandimeaaGreat.En
open Go.RowKit
set_option maxRecDepth 100000
theorem do3_m (b0 b1 b2 : Nat) (cs : Co3) (Q : Nat → SnT) (hQ : okQ Q) (A : Option Addr) (cc : Nat) (o : FOp) (hn : o.2.2.2.2.1.2.2.length ≤ maxLen) :
    CallM Tryz.prog 15 [.v (.slice A 3 cc), foX o] (fun w M => ArgN w M o.2.2.2.2.1.1 o.2.2.2.2.1.2.2.length 2 (o.2.2.2.2.1.2.2.map encBm)) [stO b0 cs.1 (Q 0) allT, stO b1 cs.2.1 (Q 1) allT, stO b2 cs.2.2 (Q 2) allT, ptsO A cc b0 b1 b2]
    (fun _ : Co3 => I (erF o)) (fun cs => [stO b0 cs.1 (doQ Q o 0) allT, stO b1 cs.2.1 (doQ Q o 1) allT, stO b2 cs.2.2 (doQ Q o 2) allT, ptsO A cc b0 b1 b2]) := by
  rcases (by omega : o.2.1 % 3 = 0 ∨ o.2.1 % 3 = 1 ∨ o.2.1 % 3 = 2) with h | h | h
  · exact do0_m b0 b1 b2 cs.1 cs.2.1 cs.2.2 Q hQ A cc o h hn
  · exact do1_m b0 b1 b2 cs.1 cs.2.1 cs.2.2 Q hQ A cc o h hn
  · exact do2_m b0 b1 b2 cs.1 cs.2.1 cs.2.2 Q hQ A cc o h hn
theorem fewG_len {l : List FOp} (h : fewG l = true) : l.length ≤ 16 := by
  unfold fewG at h
  simp only [Bool.and_eq_true, decide_eq_true_eq] at h
  exact h.1
end Go.Proofs.YtlnplelandimeaaGreat.En
end
