/- Plain laws of an atlas's map: it is the sum of its parts; a new placement takes the old part away and adds the new one -/
import Derived.Test.YtodaijlclbngbaaGreatAm
import Derived.Test.YtodaijlclbngbaaGreatAj
set_option linter.all false
namespace Go.Proofs.YtodaijlclbngbaaGreat.En
open Go.RowKit
set_option maxRecDepth 100000

/-! ### how long a part is -/
theorem met_len4 {at_ : PoseT} {b : BeamT} (h3 : -1 ≤ b.2 ∧ b.2 ≤ 1024) : (metL (at_.1, at_.2.1) (beamF at_.2.2 b.1) b).length ≤ 4000 := by
  have hv := beam_vec at_.2.2 b.1
  have hr : 0 ≤ reachB b ∧ reachB b ≤ 1024 := by
    unfold reachB
    split <;> omega
  simp only [vecB, Bool.and_eq_true, vecIn_iff] at hv
  generalize beamF at_.2.2 b.1 = v at *
  have b1 := reach_bd (a := at_.1) (b := at_.1) (n := v.1) (d := v.2.2) (lo := 0) (hi := reachB b) (by omega) (by omega) (by omega) (by omega) (by omega)
  have b2 := reach_bd (a := at_.2.1) (b := at_.2.1) (n := v.2.1) (d := v.2.2) (lo := 0) (hi := reachB b) (by omega) (by omega) (by omega) (by omega) (by omega)
  unfold metL tracedL sweepL
  have hx : (swX (ptR (at_.1, at_.2.1)) v 0 (reachB b)).2 - (swX (ptR (at_.1, at_.2.1)) v 0 (reachB b)).1 + 1 ≤ 40 := by
    unfold swX spanF ptR
    dsimp only
    omega
  have hy : (swY (ptR (at_.1, at_.2.1)) v 0 (reachB b)).2 - (swY (ptR (at_.1, at_.2.1)) v 0 (reachB b)).1 + 1 ≤ 40 := by
    unfold swY spanF ptR
    dsimp only
    omega
  have := outK_len (hitR (ptR (at_.1, at_.2.1)) v 0 (reachB b)) (swX (ptR (at_.1, at_.2.1)) v 0 (reachB b)).1 (swY (ptR (at_.1, at_.2.1)) v 0 (reachB b)).1 ((swX (ptR (at_.1, at_.2.1)) v 0 (reachB b)).2 - (swX (ptR (at_.1, at_.2.1)) v 0 (reachB b)).1 + 1).toNat (by omega) ((swY (ptR (at_.1, at_.2.1)) v 0 (reachB b)).2 - (swY (ptR (at_.1, at_.2.1)) v 0 (reachB b)).1 + 1).toNat
  omega
theorem of_okT4 {at_ : PoseT} {s : List BeamT} (hs : scanB s = true) : ∀ k, k ≤ s.length → OkT (k * 4000) ((s.take k).foldl (beamT at_) [])
  | 0, _ => by simpa using OkT.nil
  | k + 1, hk => by
    have ih := of_okT4 (at_ := at_) hs k (by omega)
    rw [fold_take (d := b0) _ _ (by omega)]
    obtain ⟨_, _, _, q1, q2⟩ := scan_ok hs (k := k) (by omega)
    have hl := met_len4 (at_ := at_) (b := s.getD k b0) ⟨q1, q2⟩
    exact (ih.steps _ _).mono (by omega)
/-- a valid list, not too long, its counters from 0 to a bound -/
def GoodN (N : Nat) (l : List EntT) : Prop := vE l = true ∧ l.length ≤ N ∧ ∀ c, (0 ≤ (valT l c).1 ∧ (valT l c).1 ≤ N) ∧ 0 ≤ (valT l c).2 ∧ (valT l c).2 ≤ N
theorem GoodN.nil (N : Nat) : GoodN N [] := by
  refine ⟨vE_nil, by simp, fun c => ?_⟩
  rw [valT_none (L := []) (by simp)]
  dsimp only
  omega
theorem ofE_good (at_ : PoseT) (s : List BeamT) : GoodN (s.length * 4000) (ofE at_ s).1 := by
  cases hk : ofOk at_ s with
  | false =>
    have : (ofE at_ s).1 = [] := by
      unfold ofE
      rw [hk]
      rfl
    rw [this]
    exact GoodN.nil _
  | true =>
    obtain ⟨hr, hv⟩ := ofE_rep hk
    obtain ⟨_, _, hs⟩ := ofOk_bd hk
    have ho := of_okT4 (at_ := at_) hs s.length (Nat.le_refl _)
    rw [List.take_length] at ho
    have ho : OkT (s.length * 4000) (ofL at_ s) := ho
    refine ⟨hv, ?_, fun c => ?_⟩
    · have e : (ofE at_ s).1 = lstF (ofL at_ s) := by
        unfold ofE
        rw [hk]
        rfl
      rw [e]
      unfold lstF
      rw [List.length_mergeSort]
      exact Nat.le_trans (List.length_filter_le _ _) ho.len
    · rw [hr.val c, ← of_val]
      have := bd_get (K := ((s.length * 4000 : Nat) : Int)) (by omega) ho.bd c
      unfold valT
      dsimp only
      omega
/-! ### sums of parts -/
theorem addT_len (L : List EntT) (c : CellT) (a p : Int) : (addT L c a p).length ≤ L.length + 1 := setT_len _ _
theorem combL_len (f : Int) (a b : List EntT) : (combL f a b).length ≤ a.length + b.length := by
  unfold combL
  have h1 : ∀ (a L : List EntT), (a.foldl addE L).length ≤ L.length + a.length := by
    intro a
    induction a with
    | nil => intro L; simp
    | cons e a ih =>
      intro L
      have h2 := ih (addE L e)
      have h3 := addT_len L e.cell e.2.2.1 e.2.2.2
      have h4 : (addE L e).length ≤ L.length + 1 := h3
      simp only [List.foldl_cons, List.length_cons]
      omega
  have h2 : ∀ (b L : List EntT), (b.foldl (addF f) L).length ≤ L.length + b.length := by
    intro b
    induction b with
    | nil => intro L; simp
    | cons e b ih =>
      intro L
      have h2 := ih (addF f L e)
      have h3 := addT_len L e.cell (f * e.2.2.1) (f * e.2.2.2)
      have h4 : (addF f L e).length ≤ L.length + 1 := h3
      simp only [List.foldl_cons, List.length_cons]
      omega
  have h3 := h1 a []
  have h4 := h2 b (a.foldl addE [])
  simp only [List.length_nil] at h3
  omega
theorem GoodN.comb {N M : Nat} {a b : List EntT} (ha : GoodN N a) (hb : GoodN M b) (h : N + M ≤ 1048576) : (combE 1 a b).2 = 0 ∧ GoodN (N + M) (combE 1 a b).1 ∧ ∀ c, valT (combE 1 a b).1 c = ((valT a c).1 + (valT b c).1, (valT a c).2 + (valT b c).2) := by
  have hr := rep_comb 1 ha.1 hb.1
  have hlen : (lstF (combL 1 a b)).length ≤ N + M := by
    unfold lstF
    rw [List.length_mergeSort]
    have h1 := combL_len 1 a b
    have h2 := List.length_filter_le (fun e => !zeroE e) (combL 1 a b)
    have h3 := ha.2.1
    have h4 := hb.2.1
    omega
  have hcode : (combE 1 a b).2 = 0 := by
    rw [comb_def ha.1 hb.1]
    have h1 : ((lstF (combL 1 a b)).any fun e => !countB e) = false := by
      rw [List.any_eq_false]
      intro x hx
      obtain ⟨_, hv⟩ := (hr.2 x).1 hx
      have h1 := ha.2.2 x.cell
      have h2 := hb.2.2 x.cell
      unfold sumV at hv
      simp only [Prod.mk.injEq, Int.one_mul] at hv
      simp only [countB, szB, Bool.not_eq_true', Bool.and_eq_false_iff, decide_eq_false_iff_not]
      omega
    rw [h1, if_neg (by simp), if_neg (by omega)]
  have hv : ∀ c, valT (combE 1 a b).1 c = ((valT a c).1 + (valT b c).1, (valT a c).2 + (valT b c).2) := by
    intro c
    rw [comb_val hcode]
    unfold sumV
    simp only [Int.one_mul]
  refine ⟨hcode, ⟨comb_vE hcode, by rw [(comb_code hcode).2.2.1]; exact hlen, fun c => ?_⟩, hv⟩
  rw [hv]
  have h1 := ha.2.2 c
  have h2 := hb.2.2 c
  dsimp only
  omega
theorem GoodN.mono {N M : Nat} {a : List EntT} (h : GoodN N a) (hm : N ≤ M) : GoodN M a :=
  ⟨h.1, Nat.le_trans h.2.1 hm, fun c => by have := h.2.2 c; omega⟩
section
variable (pt : Int → List EntT) (wt : Int → Nat)
def mapG (ids : List Int) (o : List EntT) : List EntT := ids.foldl (fun o k => (combE 1 o (pt k)).1) o
def valG (ids : List Int) (c : CellT) : Int × Int := ((ids.map fun k => (valT (pt k) c).1).sum, (ids.map fun k => (valT (pt k) c).2).sum)
def wG (ids : List Int) : Nat := (ids.map wt).sum
theorem mapG_good (hp : ∀ k, GoodN (wt k) (pt k)) : ∀ (ids : List Int) {N : Nat} {o : List EntT}, GoodN N o → N + wG wt ids ≤ 1048576 →
    GoodN (N + wG wt ids) (mapG pt ids o) ∧ ∀ c, valT (mapG pt ids o) c = ((valT o c).1 + (valG pt ids c).1, (valT o c).2 + (valG pt ids c).2)
  | [], N, o, ho, _ => by
    refine ⟨by simpa [wG, mapG] using ho, fun c => ?_⟩
    simp [valG, mapG]
  | k :: ids, N, o, ho, h => by
    have hw : wG wt (k :: ids) = wt k + wG wt ids := by simp [wG]
    rw [hw] at h ⊢
    obtain ⟨_, h2, h3⟩ := ho.comb (hp k) (by omega)
    obtain ⟨h4, h5⟩ := mapG_good hp ids h2 (by omega)
    refine ⟨by rw [← Nat.add_assoc]; exact h4, fun c => ?_⟩
    have e : mapG pt (k :: ids) o = mapG pt ids (combE 1 o (pt k)).1 := rfl
    rw [e, h5, h3]
    unfold valG
    simp only [List.map_cons, List.sum_cons]
    refine Prod.ext ?_ ?_ <;> (dsimp only; omega)
variable {pt wt}
/-- one id apart -/
theorem split_sum {f : Int → Int} {n : Int} : ∀ {ids : List Int}, ids.Nodup → (n ∉ ids → f n = 0) → (ids.map f).sum = ((ids.filter fun k => decide (k ≠ n)).map f).sum + f n
  | [], _, h => by simp [h]
  | k :: ids, hn, h => by
    rw [List.nodup_cons] at hn
    rw [List.map_cons, List.sum_cons]
    by_cases e : k = n
    · subst e
      have : (List.filter (fun j => decide (j ≠ k)) (k :: ids)) = ids := by
        rw [List.filter_cons]
        simp only [ne_eq, not_true_eq_false, decide_false, Bool.false_eq_true, if_false]
        rw [List.filter_eq_self]
        intro x hx
        have : x ≠ k := fun e => hn.1 (e ▸ hx)
        simp [this]
      rw [this]
      omega
    · have := split_sum (f := f) hn.2 (fun hm => h (by simp [hm, Ne.symm e]))
      rw [List.filter_cons]
      simp only [ne_eq, e, not_false_eq_true, decide_true, if_true, List.map_cons, List.sum_cons]
      simp only [ne_eq] at this
      omega
theorem split_sumN {f : Int → Nat} {n : Int} : ∀ {ids : List Int}, ids.Nodup → n ∈ ids → (ids.map f).sum = ((ids.filter fun k => decide (k ≠ n)).map f).sum + f n
  | [], _, h => by cases h
  | k :: ids, hn, h => by
    rw [List.nodup_cons] at hn
    rw [List.map_cons, List.sum_cons]
    by_cases e : k = n
    · subst e
      have : (List.filter (fun j => decide (j ≠ k)) (k :: ids)) = ids := by
        rw [List.filter_cons]
        simp only [ne_eq, not_true_eq_false, decide_false, Bool.false_eq_true, if_false]
        rw [List.filter_eq_self]
        intro x hx
        have : x ≠ k := fun e => hn.1 (e ▸ hx)
        simp [this]
      rw [this]
      omega
    · have := split_sumN (f := f) hn.2 (by simpa [Ne.symm e] using h)
      rw [List.filter_cons]
      simp only [ne_eq, e, not_false_eq_true, decide_true, if_true, List.map_cons, List.sum_cons]
      simp only [ne_eq] at this
      omega
theorem sum_sub {f : Int → Nat} {l m : List Int} (h : l.Sublist m) : (l.map f).sum ≤ (m.map f).sum := by
  induction h with
  | slnil => simp
  | cons _ _ ih => simp only [List.map_cons, List.sum_cons]; omega
  | cons_cons _ _ ih => simp only [List.map_cons, List.sum_cons]; omega
end
/-! ### the weight of an atlas -/
def wA (a : AtT) (k : Int) : Nat := match a.1 k with
  | some s => s.length * 4000
  | none => 0
def all64 : List Int := (List.range 64).map fun i : Nat => (i : Int)
theorem all64_nodup : all64.Nodup := by decide +kernel
theorem all64_mem {k : Int} (h : vId k = true) : k ∈ all64 := by
  simp only [vId, Bool.and_eq_true, decide_eq_true_eq] at h
  unfold all64
  rw [List.mem_map]
  exact ⟨k.toNat, by rw [List.mem_range]; omega, by omega⟩
theorem partA_good (a : AtT) (k : Int) : GoodN (wA a k) (partA a k) := by
  unfold partA wA
  cases a.1 k with
  | none => exact GoodN.nil _
  | some s =>
    cases a.2 k with
    | none => exact GoodN.nil _
    | some p =>
      dsimp only
      split
      · exact GoodN.nil _
      · exact ofE_good _ _
theorem idsF_sub (s : Int → Bool) : (idsF s 64).Sublist all64 := by
  unfold idsF all64
  exact (List.filter_sublist).map _
theorem mapF_G (a : AtT) (ids : List Int) : mapF a ids = mapG (partA a) ids [] := rfl
theorem partA_out {a : AtT} {n : Int} (h : n ∉ idsF (hasA a) 64) (hv : vId n = true) : partA a n = [] := by
  rw [idsF_mem] at h
  have : hasA a n = false := by
    cases e : hasA a n with
    | false => rfl
    | true => exact (h ⟨hv, e⟩).elim
  unfold hasA at this
  simp only [Bool.or_eq_false_iff, Option.isSome_eq_false_iff, Option.isNone_iff_eq_none] at this
  unfold partA
  rw [this.1]
/-- the map is the sum of all parts -/
theorem map_spec {a : AtT} (hw : wG (wA a) all64 ≤ 1048576) : GoodN (wG (wA a) (idsF (hasA a) 64)) (mapF a (idsF (hasA a) 64)) ∧ ∀ c, valT (mapF a (idsF (hasA a) 64)) c = valG (partA a) (idsF (hasA a) 64) c := by
  have hs := sum_sub (f := wA a) (idsF_sub (hasA a))
  obtain ⟨h1, h2⟩ := mapG_good (partA a) (wA a) (partA_good a) (idsF (hasA a) 64) (GoodN.nil 0) (by unfold wG at *; omega)
  rw [mapF_G]
  refine ⟨by simpa using h1, fun c => ?_⟩
  rw [h2, valT_none (L := []) (by simp)]
  simp
/-- the other parts -/
theorem others {a : AtT} {n : Int} (hv : vId n = true) (hw : wG (wA a) all64 ≤ 1048576) :
    combE 1 (mapF a ((idsF (hasA a) 64).filter fun k => decide (k ≠ n))) (partA a n) = (mapF a (idsF (hasA a) 64), 0) := by
  obtain ⟨h1, h2⟩ := map_spec hw
  have hs : wG (wA a) ((idsF (hasA a) 64).filter fun k => decide (k ≠ n)) + wA a n ≤ wG (wA a) all64 := by
    have h3 := split_sumN (f := wA a) all64_nodup (all64_mem hv)
    have h4 := sum_sub (f := wA a) ((idsF_sub (hasA a)).filter fun k => decide (k ≠ n))
    unfold wG
    omega
  obtain ⟨h3, h4⟩ := mapG_good (partA a) (wA a) (partA_good a) ((idsF (hasA a) 64).filter fun k => decide (k ≠ n)) (GoodN.nil 0) (by omega)
  rw [← mapF_G] at h3 h4
  obtain ⟨h5, h6, h7⟩ := h3.comb (partA_good a n) (by omega)
  refine Prod.ext ?_ h5
  refine (rep_vE h6.1).unique (rep_vE h1.1) fun c => ?_
  rw [h7, h4, h2, valT_none (L := []) (by simp)]
  unfold valG
  have hz : n ∉ idsF (hasA a) 64 → valT (partA a n) c = (0, 0) := fun h => by
    rw [partA_out h hv, valT_none (L := []) (by simp)]
  refine Prod.ext ?_ ?_
  · have := split_sum (f := fun k => (valT (partA a k) c).1) (idsF_nodup (hasA a) 64) (n := n) (fun h => by rw [hz h])
    simp only [Int.zero_add]
    omega
  · have := split_sum (f := fun k => (valT (partA a k) c).2) (idsF_nodup (hasA a) 64) (n := n) (fun h => by rw [hz h])
    simp only [Int.zero_add]
    omega
/-- the old part taken away, the new one added -/
theorem replace_law {a a' : AtT} {n : Int} (hv : vId n = true) (hw : wG (wA a) all64 ≤ 1048576) (hw' : wG (wA a') all64 ≤ 1048576) (h1 : ∀ k, k ≠ n → a'.1 k = a.1 k ∧ a'.2 k = a.2 k) :
    ∃ l, combE (-1) (mapF a (idsF (hasA a) 64)) (partA a n) = (l, 0) ∧ combE 1 l (partA a' n) = (mapF a' (idsF (hasA a') 64), 0) := by
  have o1 := others hv hw
  have o2 := others hv hw'
  have e1 : ((idsF (hasA a') 64).filter fun k => decide (k ≠ n)) = (idsF (hasA a) 64).filter fun k => decide (k ≠ n) := by
    unfold idsF
    rw [List.filter_map, List.filter_map, List.filter_filter, List.filter_filter]
    congr 1
    refine List.filter_congr fun i _ => ?_
    by_cases e : (i : Int) = n
    · simp [e]
    · obtain ⟨g1, g2⟩ := h1 i e
      simp only [Function.comp, hasA, g1, g2]
  have e2 : mapF a' ((idsF (hasA a) 64).filter fun k => decide (k ≠ n)) = mapF a ((idsF (hasA a) 64).filter fun k => decide (k ≠ n)) := by
    unfold mapF
    have : ∀ (ids : List Int) (o : List EntT), (∀ k ∈ ids, k ≠ n) → ids.foldl (fun o k => (combE 1 o (partA a' k)).1) o = ids.foldl (fun o k => (combE 1 o (partA a k)).1) o := by
      intro ids
      induction ids with
      | nil => exact fun o _ => rfl
      | cons k ids ih =>
        intro o hk
        obtain ⟨g1, g2⟩ := h1 k (hk k (by simp))
        have : partA a' k = partA a k := by
          unfold partA
          rw [g1, g2]
        simp only [List.foldl_cons]
        rw [this, ih _ fun x hx => hk x (by simp [hx])]
    exact this _ _ fun k hk => by simpa using (List.mem_filter.1 hk).2
  rw [e1, e2] at o2
  refine ⟨mapF a ((idsF (hasA a) 64).filter fun k => decide (k ≠ n)), ?_, o2⟩
  have := comb_back (a := mapF a ((idsF (hasA a) 64).filter fun k => decide (k ≠ n))) (b := partA a n) (by rw [o1])
  rw [o1] at this
  exact this
/-- the weight of what some calls made -/
theorem wG_upd {f g : Int → Nat} {n : Int} (h : ∀ k, k ≠ n → f k = g k) {d : Nat} (hd : f n ≤ g n + d) : wG f all64 ≤ wG g all64 + d := by
  have : ∀ ids : List Int, ids.Nodup → (ids.map f).sum ≤ (ids.map g).sum + d := by
    intro ids
    induction ids with
    | nil => simp
    | cons k ids ih =>
      intro hn
      rw [List.nodup_cons] at hn
      simp only [List.map_cons, List.sum_cons]
      by_cases e : k = n
      · subst e
        have : ids.map f = ids.map g := List.map_congr_left fun x hx => h x fun e => hn.1 (e ▸ hx)
        rw [this]
        omega
      · have := ih hn.2
        rw [h k e]
        omega
  exact this all64 all64_nodup
theorem step_w (a : AtT) (o : OpT) : wG (wA (stepA a o)) all64 ≤ wG (wA a) all64 + o.2.2.1.length * 4000 := by
  unfold stepA plcA putA
  split
  · split
    · exact Nat.le_trans (Nat.le_of_eq rfl) (Nat.le_add_right _ _)
    · exact Nat.le_add_right _ _
  · split
    · refine wG_upd (n := o.2.1) (fun k hk => by unfold wA updF; dsimp only; rw [if_neg hk]) ?_
      unfold wA updF
      dsimp only
      rw [if_pos rfl]
      cases a.1 o.2.1 with
      | none =>
        unfold mxO
        dsimp only
        omega
      | some u =>
        have : mxO keyS (some u) o.2.2.1 = some o.2.2.1 ∨ mxO keyS (some u) o.2.2.1 = some u := by
          unfold mxO
          dsimp only
          split
          · exact .inl rfl
          · exact .inr rfl
        rcases this with e | e
        · rw [e]
          dsimp only
          omega
        · rw [e]
          dsimp only
          omega
    · exact Nat.le_add_right _ _
theorem fold_w : ∀ (l : List OpT) (a : AtT), wG (wA (l.foldl stepA a)) all64 ≤ wG (wA a) all64 + (l.map fun o => o.2.2.1.length * 4000).sum
  | [], a => by simp
  | o :: l, a => by
    have h1 := fold_w l (stepA a o)
    have h2 := step_w a o
    simp only [List.foldl_cons, List.map_cons, List.sum_cons]
    omega
theorem few_sum : ∀ (l : List AOp), (l.map lenF).sum ≤ 150 → 0 ≤ (l.map lenF).sum ∧ ((l.map absO).map fun o => o.2.2.1.length * 4000).sum ≤ ((l.map lenF).sum * 4000).toNat
  | [], _ => by simp
  | o :: l, h => by
    simp only [List.map_cons, List.sum_cons] at h ⊢
    have h0 : 0 ≤ lenF o := by unfold lenF; omega
    have hn : ∀ l : List AOp, 0 ≤ (l.map lenF).sum := by
      intro l
      induction l with
      | nil => simp
      | cons o l ih =>
        simp only [List.map_cons, List.sum_cons]
        unfold lenF
        unfold lenF at ih
        omega
    have hl := hn l
    obtain ⟨h1, h2⟩ := few_sum l (by omega)
    have e : (absO o).2.2.1.length = o.2.2.1.2.2.length := rfl
    have h3 : lenF o = o.2.2.1.2.2.length := by
      have hle : lenF o ≤ 150 := by omega
      unfold lenF at hle ⊢
      omega
    rw [e]
    refine ⟨by omega, ?_⟩
    omega
theorem made_w {l : List AOp} (h : fewB l = true) : wG (wA (madeM l)) all64 ≤ 1048576 := by
  unfold fewB at h
  simp only [Bool.and_eq_true, decide_eq_true_eq] at h
  rw [List.take_of_length_le (by omega)] at h
  have h1 := few_sum l h.2
  have h2 := fold_w (l.map absO) at0
  have h3 : wG (wA at0) all64 = 0 := by decide +kernel
  unfold madeM madeA
  omega
end Go.Proofs.YtodaijlclbngbaaGreat.En
