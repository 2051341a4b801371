/- Relations in plain Lean: connected robots, placements of robots, what Between and Groups say. -/
import Derived.Test.YtkacggfadalbiaaGs
import Derived.Test.YtkacggfadalbiaaRg
set_option linter.all false
namespace Go.Proofs.Ytkacggfadalbiaa

/-- connected through relations -/
inductive Conn (rs : List Rel) (a : Int) : Int → Prop
  | refl : Conn rs a a
  | fwd {r : Rel} : Conn rs a r.1 → r ∈ rs → Conn rs a r.2.1
  | back {r : Rel} : Conn rs a r.2.1 → r ∈ rs → Conn rs a r.1

theorem Conn.trans {rs : List Rel} {a b c : Int} (h1 : Conn rs a b) (h2 : Conn rs b c) : Conn rs a c := by
  induction h2 with
  | refl => exact h1
  | fwd _ hr ih => exact .fwd ih hr
  | back _ hr ih => exact .back ih hr
theorem Conn.symm {rs : List Rel} {a b : Int} (h : Conn rs a b) : Conn rs b a := by
  induction h with
  | refl => exact .refl
  | fwd _ hr ih => exact (Conn.back .refl hr).trans ih
  | back _ hr ih => exact (Conn.fwd .refl hr).trans ih
theorem Conn.mono {rs rs' : List Rel} {a b : Int} (h : Conn rs a b) (hs : ∀ r ∈ rs, r ∈ rs') : Conn rs' a b := by
  induction h with
  | refl => exact .refl
  | fwd _ hr ih => exact .fwd ih (hs _ hr)
  | back _ hr ih => exact .back ih (hs _ hr)
/-- relations between robots that are connected already add nothing -/
theorem Conn.less {rs rs' : List Rel} {a b : Int} (h : Conn rs' a b) (hs : ∀ r ∈ rs', Conn rs r.1 r.2.1) : Conn rs a b := by
  induction h with
  | refl => exact .refl
  | fwd _ hr ih => exact ih.trans (hs _ hr)
  | back _ hr ih => exact ih.trans (hs _ hr).symm

theorem stepM_all (Q : Int → Fr → Prop) {m : List (Int × Fr)} {r : Rel} (h : ∀ p ∈ m, Q p.1 p.2) (h1 : ∀ f, Q r.1 f → Q r.2.1 (cmpF f r.2.2)) (h2 : ∀ g, Q r.2.1 g → Q r.1 (cmpF g (invF r.2.2))) : ∀ p ∈ stepM m r, Q p.1 p.2 := by
  unfold stepM
  cases ha : fLook m r.1 with
  | some f =>
    cases hb : fLook m r.2.1 with
    | some g => exact h
    | none =>
      intro p hp
      rcases List.mem_append.1 hp with hp | hp
      · exact h p hp
      · simp at hp; subst hp; exact h1 f (h _ (fLook_mem ha))
  | none =>
    cases hb : fLook m r.2.1 with
    | some g =>
      intro p hp
      rcases List.mem_append.1 hp with hp | hp
      · exact h p hp
      · simp at hp; subst hp; exact h2 g (h _ (fLook_mem hb))
    | none => exact h
theorem passM_all (Q : Int → Fr → Prop) : ∀ {rs : List Rel} {m : List (Int × Fr)}, (∀ p ∈ m, Q p.1 p.2) → (∀ r ∈ rs, ∀ f, Q r.1 f → Q r.2.1 (cmpF f r.2.2)) → (∀ r ∈ rs, ∀ g, Q r.2.1 g → Q r.1 (cmpF g (invF r.2.2))) → ∀ p ∈ passM rs m, Q p.1 p.2
  | [], _, h, _, _ => h
  | r :: rs, _, h, h1, h2 => passM_all Q (rs := rs) (stepM_all Q h (h1 r (by simp)) (h2 r (by simp))) (fun x hx => h1 x (by simp [hx])) (fun x hx => h2 x (by simp [hx]))
theorem iterM_all (Q : Int → Fr → Prop) {rs : List Rel} (h1 : ∀ r ∈ rs, ∀ f, Q r.1 f → Q r.2.1 (cmpF f r.2.2)) (h2 : ∀ r ∈ rs, ∀ g, Q r.2.1 g → Q r.1 (cmpF g (invF r.2.2))) : ∀ (n : Nat) {m : List (Int × Fr)}, (∀ p ∈ m, Q p.1 p.2) → ∀ p ∈ iterM rs n m, Q p.1 p.2
  | 0, _, h => h
  | n + 1, _, h => iterM_all Q h1 h2 n (passM_all Q h h1 h2)
theorem fromL_all (Q : Int → Fr → Prop) {rs : List Rel} {a : Int} (h0 : Q a (0, 0, 0)) (h1 : ∀ r ∈ rs, ∀ f, Q r.1 f → Q r.2.1 (cmpF f r.2.2)) (h2 : ∀ r ∈ rs, ∀ g, Q r.2.1 g → Q r.1 (cmpF g (invF r.2.2))) : ∀ p ∈ fromL rs a, Q p.1 p.2 :=
  iterM_all Q h1 h2 8 (by intro p hp; simp at hp; subst hp; exact h0)

theorem fLook_append {m l : List (Int × Fr)} {k : Int} {f : Fr} (h : fLook m k = some f) : fLook (m ++ l) k = some f := by
  induction m with
  | nil => simp [fLook] at h
  | cons p m ih =>
    obtain ⟨k', v⟩ := p
    by_cases e : k = k'
    · simp [fLook, e] at h ⊢; exact h
    · simp [fLook, e] at h ⊢; exact ih h
theorem stepM_keep {m : List (Int × Fr)} {r : Rel} {k : Int} {f : Fr} (h : fLook m k = some f) : fLook (stepM m r) k = some f := by
  unfold stepM
  cases fLook m r.1 <;> cases fLook m r.2.1 <;> first | exact h | exact fLook_append h
theorem passM_keep : ∀ {rs : List Rel} {m : List (Int × Fr)} {k : Int} {f : Fr}, fLook m k = some f → fLook (passM rs m) k = some f
  | [], _, _, _, h => h
  | _ :: rs, _, _, _, h => passM_keep (rs := rs) (stepM_keep h)
theorem iterM_keep {rs : List Rel} {k : Int} {f : Fr} : ∀ (n : Nat) {m : List (Int × Fr)}, fLook m k = some f → fLook (iterM rs n m) k = some f
  | 0, _, h => h
  | n + 1, _, h => iterM_keep n (passM_keep h)
theorem fromL_self (rs : List Rel) (a : Int) : fLook (fromL rs a) a = some (0, 0, 0) := iterM_keep 8 (by simp [fLook])

theorem iterM_grow (rs : List Rel) (m : List (Int × Fr)) (hm : 1 ≤ m.length) : ∀ n : Nat, passM rs (iterM rs n m) = iterM rs n m ∨ n + 1 ≤ (iterM rs n m).length
  | 0 => .inr hm
  | n + 1 => by
    rw [iterM_succ]
    rcases iterM_grow rs m hm n with h | h
    · left; rw [h, h]
    · by_cases e : passM rs (iterM rs n m) = iterM rs n m
      · left; rw [e, e]
      · right
        have := passM_len rs (iterM rs n m)
        have : (passM rs (iterM rs n m)).length ≠ (iterM rs n m).length := fun h => e (this.2 h)
        omega
theorem fromL_fix {rs : List Rel} {a : Int} (h0 : 0 ≤ a) (h1 : a < 8) (hok : ∀ r ∈ rs, RelOk r) : passM rs (fromL rs a) = fromL rs a := by
  rcases iterM_grow rs [(a, (0, 0, 0))] (by simp) 8 with h | h
  · exact h
  · have := (fromL_ok h0 h1 hok).len
    unfold fromL at this
    omega
theorem passM_fix : ∀ {rs : List Rel} {m : List (Int × Fr)}, passM rs m = m → ∀ r ∈ rs, stepM m r = m
  | [], _, _, r, hr => by simp at hr
  | x :: rs, m, h, r, hr => by
    have e : passM (x :: rs) m = passM rs (stepM m x) := rfl
    rw [e] at h
    have h1 := passM_len rs (stepM m x)
    have hx : stepM m x = m := by
      rcases stepM_len m x with h2 | h2
      · exact h2
      · rw [h] at h1; omega
    rcases List.mem_cons.1 hr with rfl | hr
    · exact hx
    · rw [hx] at h; exact passM_fix h r hr
theorem stepM_fix {m : List (Int × Fr)} {r : Rel} (h : stepM m r = m) : (fLook m r.1).isSome = (fLook m r.2.1).isSome := by
  unfold stepM at h
  cases ha : fLook m r.1 <;> cases hb : fLook m r.2.1 <;> simp [ha, hb] at h ⊢

theorem fromL_conn {rs : List Rel} {a b : Int} (h0 : 0 ≤ a) (h1 : a < 8) (hok : ∀ r ∈ rs, RelOk r) : (fLook (fromL rs a) b).isSome = true ↔ Conn rs a b := by
  constructor
  · intro h
    obtain ⟨f, hf⟩ := Option.isSome_iff_exists.1 h
    exact fromL_all (fun k _ => Conn rs a k) .refl (fun r hr _ h => .fwd h hr) (fun r hr _ h => .back h hr) _ (fLook_mem hf)
  · intro h
    have hf := passM_fix (fromL_fix h0 h1 hok)
    induction h with
    | refl => rw [fromL_self]; rfl
    | fwd _ hr ih => rw [← stepM_fix (hf _ hr)]; exact ih
    | back _ hr ih => rw [stepM_fix (hf _ hr)]; exact ih

/-- a placement of the robots that agrees with the relations -/
structure Plc (rs : List Rel) (P : Int → Fr) : Prop where
  ok : ∀ k, FrOk (P k)
  rel : ∀ r ∈ rs, cmpF (P r.1) r.2.2 = P r.2.1

theorem relFr {r : Rel} (h : RelOk r) : FrOk r.2.2 := ⟨h.2.2.2.2.2.1, h.2.2.2.2.2.2.1⟩

theorem fromL_plc {rs : List Rel} {P : Int → Fr} (hP : Plc rs P) {a k : Int} {f : Fr} (hok : ∀ r ∈ rs, RelOk r) (h : fLook (fromL rs a) k = some f) : cmpF (P a) f = P k ∧ FrOk f := by
  refine fromL_all (fun k f => cmpF (P a) f = P k ∧ FrOk f) ⟨cmpF_zero _ (hP.ok a), by simp [FrOk]⟩ ?_ ?_ _ (fLook_mem h)
  · rintro r hr f ⟨h1, h2⟩
    exact ⟨by rw [← cmpF_assoc _ _ _ (hP.ok a) h2, h1, hP.rel r hr], cmpF_ok _ _⟩
  · rintro r hr g ⟨h1, h2⟩
    have hx := relFr (hok r hr)
    exact ⟨by rw [← cmpF_assoc _ _ _ (hP.ok a) h2, h1, ← hP.rel r hr, cmpF_assoc _ _ _ (hP.ok _) hx, cmpF_inv _ hx, cmpF_zero _ (hP.ok _)], cmpF_ok _ _⟩

theorem cmpF_cancel {p f g : Fr} (hp : FrOk p) (hf : FrOk f) (hg : FrOk g) (h : cmpF p f = cmpF p g) : f = g := by
  have h1 : cmpF (invF p) (cmpF p f) = cmpF (invF p) (cmpF p g) := by rw [h]
  rwa [← cmpF_assoc _ _ _ (invF_ok p) hp, ← cmpF_assoc _ _ _ (invF_ok p) hp, inv_cmpF _ hp, zero_cmpF _ hf, zero_cmpF _ hg] at h1

/-- what Add makes out of nothing -/
inductive Acc : List Rel → Prop
  | nil : Acc []
  | snoc {rs : List Rel} {r : Rel} : Acc rs → RelOk r → btF rs r.1 r.2.1 = none → Acc (rs ++ [r])
theorem Acc.ok {rs : List Rel} (h : Acc rs) : ∀ r ∈ rs, RelOk r := by
  induction h with
  | nil => simp
  | snoc _ hr _ ih =>
    intro x hx
    rcases List.mem_append.1 hx with hx | hx
    · exact ih x hx
    · simp at hx; subst hx; exact hr

theorem rbB_mk {n : Int} (h0 : 0 ≤ n) (h1 : n < 8) : rbB n = true := by simp [rbB]; omega
theorem btF_eq {rs : List Rel} {a b : Int} (a0 : 0 ≤ a) (a1 : a < 8) (b0 : 0 ≤ b) (b1 : b < 8) : btF rs a b = fLook (fromL rs a) b := by
  unfold btF; rw [rbB_mk a0 a1, rbB_mk b0 b1]; rfl
theorem btF_conn {rs : List Rel} {a b : Int} (hok : ∀ r ∈ rs, RelOk r) (a0 : 0 ≤ a) (a1 : a < 8) (b0 : 0 ≤ b) (b1 : b < 8) : (btF rs a b).isSome = true ↔ Conn rs a b := by
  rw [btF_eq a0 a1 b0 b1, fromL_conn a0 a1 hok]
theorem btF_plc {rs : List Rel} {P : Int → Fr} (hP : Plc rs P) {a b : Int} {f : Fr} (hok : ∀ r ∈ rs, RelOk r) (h : btF rs a b = some f) : cmpF (P a) f = P b ∧ FrOk f := by
  unfold btF at h
  split at h
  · exact fromL_plc hP hok h
  · cases h

open Classical in
theorem Acc.plc {rs : List Rel} (h : Acc rs) : ∃ P, Plc rs P := by
  induction h with
  | nil => exact ⟨fun _ => (0, 0, 0), fun _ => by simp [FrOk], by simp⟩
  | @snoc rs r hs hr hn ih =>
    obtain ⟨P, hP⟩ := ih
    have hx := relFr hr
    have hnc : ¬ Conn rs r.2.1 r.1 := fun hc => by
      have := (btF_conn hs.ok hr.1 hr.2.1 hr.2.2.1 hr.2.2.2.1).2 hc.symm
      rw [hn] at this; cases this
    refine ⟨fun k => if Conn rs r.2.1 k then cmpF (cmpF (P r.1) (cmpF r.2.2 (invF (P r.2.1)))) (P k) else P k, ?_, ?_⟩
    · intro k
      show FrOk (if _ then _ else _)
      split
      · exact cmpF_ok _ _
      · exact hP.ok k
    · intro x hxm
      rcases List.mem_append.1 hxm with hxm | hxm
      · have hiff : Conn rs r.2.1 x.1 ↔ Conn rs r.2.1 x.2.1 := ⟨fun h => .fwd h hxm, fun h => .back h hxm⟩
        by_cases hc : Conn rs r.2.1 x.1
        · simp only [if_pos hc, if_pos (hiff.1 hc)]
          rw [cmpF_assoc _ _ _ (cmpF_ok _ _) (hP.ok _), hP.rel x hxm]
        · simp only [if_neg hc, if_neg (fun h => hc (hiff.2 h))]
          exact hP.rel x hxm
      · simp at hxm; subst hxm
        simp only [if_neg hnc, if_pos (Conn.refl : Conn rs x.2.1 x.2.1)]
        rw [cmpF_assoc _ _ _ (hP.ok _) (cmpF_ok _ _), cmpF_assoc _ _ _ hx (invF_ok _), inv_cmpF _ (hP.ok _), cmpF_zero _ hx]

/-- a script of Adds -/
def addAll (rs : List Rel) (l : List Rel) : List Rel := l.foldl (fun rs x => (addF rs x).2) rs
theorem addF_acc {rs : List Rel} (h : Acc rs) (x : Rel) : Acc (addF rs x).2 := by
  unfold addF
  split
  · rename_i hx
    cases hb : btF rs x.1 x.2.1 with
    | none => exact .snoc h (addX_ok hx) hb
    | some f => simp only; split <;> exact h
  · exact h
theorem addF_len (rs : List Rel) (x : Rel) : (addF rs x).2.length ≤ rs.length + 1 := by
  unfold addF
  split
  · cases hb : btF rs x.1 x.2.1 with
    | none => simp
    | some f => simp only; split <;> simp
  · simp
theorem addAll_snoc (rs l : List Rel) (x : Rel) : addAll rs (l ++ [x]) = (addF (addAll rs l) x).2 := by simp [addAll]
theorem addAll_acc : ∀ (l : List Rel) {rs : List Rel}, Acc rs → Acc (addAll rs l)
  | [], _, h => h
  | x :: l, _, h => addAll_acc l (addF_acc h x)
theorem addAll_len : ∀ (l rs : List Rel), (addAll rs l).length ≤ rs.length + l.length
  | [], _ => by simp [addAll]
  | x :: l, rs => by
    have := addAll_len l (addF rs x).2
    have := addF_len rs x
    have e : addAll rs (x :: l) = addAll (addF rs x).2 l := rfl
    rw [e]; simp only [List.length_cons]; omega

theorem keysL_conn {rs : List Rel} {a k : Int} (h0 : 0 ≤ a) (h1 : a < 8) (hok : ∀ r ∈ rs, RelOk r) : k ∈ keysL (fromL rs a) ↔ Conn rs a k := by
  rw [← fromL_conn h0 h1 hok]
  constructor
  · intro h
    cases hf : fLook (fromL rs a) k with
    | some f => rfl
    | none => exact absurd h (fLook_none hf)
  · intro h
    obtain ⟨f, hf⟩ := Option.isSome_iff_exists.1 h
    exact List.mem_map.2 ⟨_, fLook_mem hf, rfl⟩
theorem grp_same {rs rs' : List Rel} {a b : Int} (a0 : 0 ≤ a) (a1 : a < 8) (b0 : 0 ≤ b) (b1 : b < 8) (hok : ∀ r ∈ rs, RelOk r) (hok' : ∀ r ∈ rs', RelOk r) (h : ∀ k, Conn rs a k ↔ Conn rs' b k) : grp rs a = grp rs' b := by
  obtain ⟨g1, g2, g3⟩ := grpL_spec (keysL (fromL rs a)) a
  have hk : ∀ k, k ∈ keysL (fromL rs a) ↔ k ∈ keysL (fromL rs' b) := fun k => by rw [keysL_conn a0 a1 hok, keysL_conn b0 b1 hok']; exact h k
  have ha : a ∈ keysL (fromL rs a) := (keysL_conn a0 a1 hok).2 .refl
  have hb : b ∈ keysL (fromL rs' b) := (keysL_conn b0 b1 hok').2 .refl
  refine grpL_eq (g2 b ((hk b).2 hb)) (fun k hk' => g2 k ((hk k).2 hk')) (.inr ((hk _).1 ?_))
  unfold grp
  rcases g3 with g3 | g3
  · rw [g3]; exact ha
  · exact g3
theorem grp_conn {rs : List Rel} {a : Int} (a0 : 0 ≤ a) (a1 : a < 8) (hok : ∀ r ∈ rs, RelOk r) : Conn rs a (grp rs a) := by
  obtain ⟨g1, g2, g3⟩ := grpL_spec (keysL (fromL rs a)) a
  rcases g3 with g3 | g3
  · unfold grp; rw [g3]; exact .refl
  · exact (keysL_conn a0 a1 hok).1 g3
theorem grp_iff {rs : List Rel} {a b : Int} (a0 : 0 ≤ a) (a1 : a < 8) (b0 : 0 ≤ b) (b1 : b < 8) (hok : ∀ r ∈ rs, RelOk r) : grp rs a = grp rs b ↔ Conn rs a b := by
  constructor
  · intro h
    have h1 := grp_conn a0 a1 hok
    have h2 := grp_conn b0 b1 hok
    rw [← h] at h2
    exact h1.trans h2.symm
  · intro h
    exact grp_same a0 a1 b0 b1 hok hok fun k => ⟨fun hk => h.symm.trans hk, fun hk => h.trans hk⟩

/-- frames between robots are not far -/
theorem btF_bd {rs : List Rel} {a b : Int} {f : Fr} (hok : ∀ r ∈ rs, RelOk r) (h : btF rs a b = some f) : 0 ≤ f.1 ∧ f.1 < 4 ∧ -7168 ≤ f.2.1 ∧ f.2.1 ≤ 7168 ∧ -7168 ≤ f.2.2 ∧ f.2.2 ≤ 7168 := by
  unfold btF at h
  split at h
  · rename_i hr
    simp only [Bool.and_eq_true] at hr
    have ha := rbB_of hr.1
    have hm := fromL_ok ha.1 ha.2 hok
    have := hm.fr _ (fLook_mem h)
    have := hm.len
    simp only at *
    omega
  · cases h

/-- the laws of FrameLoops -/
theorem loops_back {rs : List Rel} (hs : Acc rs) {a b : Int} {f : Fr} (a0 : 0 ≤ a) (a1 : a < 8) (b0 : 0 ≤ b) (b1 : b < 8) (h : btF rs a b = some f) : btF rs b a = some (invF f) := by
  obtain ⟨P, hP⟩ := hs.plc
  have hc : Conn rs a b := (btF_conn hs.ok a0 a1 b0 b1).1 (by rw [h]; rfl)
  obtain ⟨g, hg⟩ := Option.isSome_iff_exists.1 ((btF_conn hs.ok b0 b1 a0 a1).2 hc.symm)
  obtain ⟨h1, h2⟩ := btF_plc hP hs.ok h
  obtain ⟨h3, h4⟩ := btF_plc hP hs.ok hg
  rw [hg]
  refine congrArg some (cmpF_cancel (hP.ok b) h4 (invF_ok f) ?_)
  rw [h3, ← h1, cmpF_assoc _ _ _ (hP.ok a) h2, cmpF_inv _ h2, cmpF_zero _ (hP.ok a)]
theorem loops_chain {rs : List Rel} (hs : Acc rs) {a b c : Int} {f : Fr} (a0 : 0 ≤ a) (a1 : a < 8) (b0 : 0 ≤ b) (b1 : b < 8) (c0 : 0 ≤ c) (c1 : c < 8) (h : btF rs a b = some f) :
    (btF rs b c = none ∧ btF rs a c = none) ∨ ∃ g, btF rs b c = some g ∧ btF rs a c = some (cmpF f g) := by
  obtain ⟨P, hP⟩ := hs.plc
  have hc : Conn rs a b := (btF_conn hs.ok a0 a1 b0 b1).1 (by rw [h]; rfl)
  by_cases hbc : Conn rs b c
  · right
    obtain ⟨g, hg⟩ := Option.isSome_iff_exists.1 ((btF_conn hs.ok b0 b1 c0 c1).2 hbc)
    obtain ⟨i, hi⟩ := Option.isSome_iff_exists.1 ((btF_conn hs.ok a0 a1 c0 c1).2 (hc.trans hbc))
    obtain ⟨h1, h2⟩ := btF_plc hP hs.ok h
    obtain ⟨h3, h4⟩ := btF_plc hP hs.ok hg
    obtain ⟨h5, h6⟩ := btF_plc hP hs.ok hi
    refine ⟨g, hg, ?_⟩
    rw [hi]
    refine congrArg some (cmpF_cancel (hP.ok a) h6 (cmpF_ok _ _) ?_)
    rw [h5, ← cmpF_assoc _ _ _ (hP.ok a) h2, h1, h3]
  · left
    have e1 : (btF rs b c).isSome ≠ true := fun h => hbc ((btF_conn hs.ok b0 b1 c0 c1).1 h)
    have e2 : (btF rs a c).isSome ≠ true := fun h => hbc (hc.symm.trans ((btF_conn hs.ok a0 a1 c0 c1).1 h))
    exact ⟨by simpa using e1, by simpa using e2⟩
end Go.Proofs.Ytkacggfadalbiaa
