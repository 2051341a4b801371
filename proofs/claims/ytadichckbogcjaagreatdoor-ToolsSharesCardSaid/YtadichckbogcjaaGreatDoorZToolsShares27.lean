import Derived.Test.YtadichckbogcjaaGreatDoorZToolsShares21
import Derived.Test.YtadichckbogcjaaGreatDoorZToolsShares26
import Derived.Test.YtadichckbogcjaaGreatDoorZToolsShares20
set_option linter.all false
section
namespace Go.Proofs.YtadichckbogcjaaGreatDoor.En
open Go.RowKit
set_option maxRecDepth 100000
end Go.Proofs.YtadichckbogcjaaGreatDoor.En
end
section
namespace Go.Proofs.YtadichckbogcjaaGreatDoor.En
open Go.RowKit
set_option maxRecDepth 100000
theorem ArgN.sc {C : Ctx} {ob : List OB} {b : Nat} {m : List (Int × SlT)} (j : Nat) (k : Int) (h : nth ob j = some (scO b m)) {n : Nat} {r : List Nat} (hr : ∀ i, i < n → r.getD i 0 < ob.length ∧ r.getD i 0 ≠ j) :
    ∀ σ fp w, Mem C σ fp ob w → ArgN w (MOf n fun i => fp (r.getD i 0)) (slOf m k).1 (slOf m k).2.2.length 2 ((slOf m k).2.2.map encBm) := by
  intro σ fp w hm
  refine ⟨ArgSl.sc j k h σ fp w hm, ?_⟩
  rintro hn c o hA ⟨i, hi, hb⟩
  obtain ⟨_, hs, hjl⟩ := nth_sc hm h
  obtain ⟨h6, h7⟩ := hr i hi
  unfold slOf at hn hA
  cases hl : lkI m k with
  | none => rw [hl] at hn; exact hn rfl
  | some v =>
    rw [hl] at hn hA
    exact hm.disj _ j h6 hjl h7 c hb ((hs _ (lkI_mem hl)).2 hn c o none hA)
end Go.Proofs.YtadichckbogcjaaGreatDoor.En
end
section
namespace Go.Proofs.YtadichckbogcjaaGreatDoor.En
open Go.RowKit
set_option maxRecDepth 100000
abbrev ShT := Int × Int × Int
def encSh (s : ShT) : List Value := [.int .i64 s.1, .int .i64 s.2.1, .int .i64 s.2.2]
def sh0 : ShT := (0, 0, 0)
def shV (k : Int) (e : EntT) : List ShT := if e.2.2.1 = 0 ∧ e.2.2.2 = 0 then [] else [(k, e.2.2.1, e.2.2.2)]
def shE (a : AtT) (c : CellT) (k : Int) : List ShT := shV k (atE (partA a k) c)
def shL (a : AtT) (c : CellT) (ids : List Int) : List ShT := ids.flatMap (shE a c)
def shF (a : AtT) (c : CellT) : List ShT := shL a c (idsF (hasA a) 64)
theorem shE_len (a : AtT) (c : CellT) (k : Int) : (shE a c k).length ≤ 1 := by
  unfold shE shV
  split <;> simp
theorem shL_next (a : AtT) (c : CellT) {ids : List Int} {k : Nat} (hk : k < ids.length) : shL a c (ids.take (k + 1)) = shL a c (ids.take k) ++ shE a c (ids.getD k 0) := by
  unfold shL
  rw [List.take_succ_eq_append_getElem hk, List.flatMap_append]
  simp [hk]
theorem shL_len (a : AtT) (c : CellT) : ∀ ids : List Int, (shL a c ids).length ≤ ids.length
  | [] => by simp [shL]
  | k :: ids => by
    have h1 := shL_len a c ids
    have h2 := shE_len a c k
    unfold shL at *
    rw [List.flatMap_cons, List.length_append, List.length_cons]
    omega
theorem part_vE (a : AtT) (k : Int) : vE (partA a k) = true := by
  unfold partA
  split
  · rename_i s p _ _
    split
    · exact vE_nil
    · by_cases h : ofOk p.2.2 s = true
      · exact (ofE_rep h).2
      · have := (ofE_bad (at_ := p.2.2) (s := s) (fun e => h (ofE_ok.1 e))).1
        rw [this]
        exact vE_nil
  · exact vE_nil
def pick (c : CellT) (k : Int) (l : List EntT) : List ShT := (l.filter fun e => decide (e.cell = c)).map fun e => (k, e.2.2.1, e.2.2.2)
end Go.Proofs.YtadichckbogcjaaGreatDoor.En
end
section
namespace Go.Proofs.YtadichckbogcjaaGreatDoor.En
open Go.RowKit
set_option maxRecDepth 100000
theorem met_len4 {at_ : PoseT} {b : BeamT} (h3 : -1 ≤ b.2 ∧ b.2 ≤ 1024) : (metL (at_.1, at_.2.1) (beamF at_.2.2 b.1) b).length ≤ 4000 := by
  have hv := beam_vec at_.2.2 b.1
  have hr : 0 ≤ reachB b ∧ reachB b ≤ 1024 := by
    unfold reachB
    split <;> omega
  simp only [vecB, Bool.and_eq_true, vecIn_iff] at hv
  generalize beamF at_.2.2 b.1 = v at *
  have b1 := reach_bd (a := at_.1) (b := at_.1) (n := v.1) (d := v.2.2) (lo := 0) (hi := reachB b) (by omega) (by omega) (by omega) (by omega) (by omega)
  have b2 := reach_bd (a := at_.2.1) (b := at_.2.1) (n := v.2.1) (d := v.2.2) (lo := 0) (hi := reachB b) (by omega) (by omega) (by omega) (by omega) (by omega)
  unfold metL tracedL sweepL
  have hx : (swX (ptR (at_.1, at_.2.1)) v 0 (reachB b)).2 - (swX (ptR (at_.1, at_.2.1)) v 0 (reachB b)).1 + 1 ≤ 40 := by
    unfold swX spanF ptR
    dsimp only
    omega
  have hy : (swY (ptR (at_.1, at_.2.1)) v 0 (reachB b)).2 - (swY (ptR (at_.1, at_.2.1)) v 0 (reachB b)).1 + 1 ≤ 40 := by
    unfold swY spanF ptR
    dsimp only
    omega
  have := outK_len (hitR (ptR (at_.1, at_.2.1)) v 0 (reachB b)) (swX (ptR (at_.1, at_.2.1)) v 0 (reachB b)).1 (swY (ptR (at_.1, at_.2.1)) v 0 (reachB b)).1 ((swX (ptR (at_.1, at_.2.1)) v 0 (reachB b)).2 - (swX (ptR (at_.1, at_.2.1)) v 0 (reachB b)).1 + 1).toNat (by omega) ((swY (ptR (at_.1, at_.2.1)) v 0 (reachB b)).2 - (swY (ptR (at_.1, at_.2.1)) v 0 (reachB b)).1 + 1).toNat
  omega
theorem of_okT4 {at_ : PoseT} {s : List BeamT} (hs : scanB s = true) : ∀ k, k ≤ s.length → OkT (k * 4000) ((s.take k).foldl (beamT at_) [])
  | 0, _ => by simpa using OkT.nil
  | k + 1, hk => by
    have ih := of_okT4 (at_ := at_) hs k (by omega)
    rw [fold_take (d := b0) _ _ (by omega)]
    obtain ⟨_, _, _, q1, q2⟩ := scan_ok hs (k := k) (by omega)
    have hl := met_len4 (at_ := at_) (b := s.getD k b0) ⟨q1, q2⟩
    exact (ih.steps _ _).mono (by omega)
def GoodN (N : Nat) (l : List EntT) : Prop := vE l = true ∧ l.length ≤ N ∧ ∀ c, (0 ≤ (valT l c).1 ∧ (valT l c).1 ≤ N) ∧ 0 ≤ (valT l c).2 ∧ (valT l c).2 ≤ N
theorem GoodN.nil (N : Nat) : GoodN N [] := by
  refine ⟨vE_nil, by simp, fun c => ?_⟩
  rw [valT_none (L := []) (by simp)]
  dsimp only
  omega
theorem ofE_good (at_ : PoseT) (s : List BeamT) : GoodN (s.length * 4000) (ofE at_ s).1 := by
  cases hk : ofOk at_ s with
  | false =>
    have : (ofE at_ s).1 = [] := by
      unfold ofE
      rw [hk]
      rfl
    rw [this]
    exact GoodN.nil _
  | true =>
    obtain ⟨hr, hv⟩ := ofE_rep hk
    obtain ⟨_, _, hs⟩ := ofOk_bd hk
    have ho := of_okT4 (at_ := at_) hs s.length (Nat.le_refl _)
    rw [List.take_length] at ho
    have ho : OkT (s.length * 4000) (ofL at_ s) := ho
    refine ⟨hv, ?_, fun c => ?_⟩
    · have e : (ofE at_ s).1 = lstF (ofL at_ s) := by
        unfold ofE
        rw [hk]
        rfl
      rw [e]
      unfold lstF
      rw [List.length_mergeSort]
      exact Nat.le_trans (List.length_filter_le _ _) ho.len
    · rw [hr.val c, ← of_val]
      have := bd_get (K := ((s.length * 4000 : Nat) : Int)) (by omega) ho.bd c
      unfold valT
      dsimp only
      omega
theorem addT_len (L : List EntT) (c : CellT) (a p : Int) : (addT L c a p).length ≤ L.length + 1 := setT_len _ _
theorem combL_len (f : Int) (a b : List EntT) : (combL f a b).length ≤ a.length + b.length := by
  unfold combL
  have h1 : ∀ (a L : List EntT), (a.foldl addE L).length ≤ L.length + a.length := by
    intro a
    induction a with
    | nil => intro L; simp
    | cons e a ih =>
      intro L
      have h2 := ih (addE L e)
      have h3 := addT_len L e.cell e.2.2.1 e.2.2.2
      have h4 : (addE L e).length ≤ L.length + 1 := h3
      simp only [List.foldl_cons, List.length_cons]
      omega
  have h2 : ∀ (b L : List EntT), (b.foldl (adF f) L).length ≤ L.length + b.length := by
    intro b
    induction b with
    | nil => intro L; simp
    | cons e b ih =>
      intro L
      have h2 := ih (adF f L e)
      have h3 := addT_len L e.cell (f * e.2.2.1) (f * e.2.2.2)
      have h4 : (adF f L e).length ≤ L.length + 1 := h3
      simp only [List.foldl_cons, List.length_cons]
      omega
  have h3 := h1 a []
  have h4 := h2 b (a.foldl addE [])
  simp only [List.length_nil] at h3
  omega
theorem GoodN.comb {N M : Nat} {a b : List EntT} (ha : GoodN N a) (hb : GoodN M b) (h : N + M ≤ 1048576) : (combE 1 a b).2 = 0 ∧ GoodN (N + M) (combE 1 a b).1 ∧ ∀ c, valT (combE 1 a b).1 c = ((valT a c).1 + (valT b c).1, (valT a c).2 + (valT b c).2) := by
  have hr := rep_comb 1 ha.1 hb.1
  have hlen : (lstF (combL 1 a b)).length ≤ N + M := by
    unfold lstF
    rw [List.length_mergeSort]
    have h1 := combL_len 1 a b
    have h2 := List.length_filter_le (fun e => !zeroE e) (combL 1 a b)
    have h3 := ha.2.1
    have h4 := hb.2.1
    omega
  have hcode : (combE 1 a b).2 = 0 := by
    rw [comb_def ha.1 hb.1]
    have h1 : ((lstF (combL 1 a b)).any fun e => !countB e) = false := by
      rw [List.any_eq_false]
      intro x hx
      obtain ⟨_, hv⟩ := (hr.2 x).1 hx
      have h1 := ha.2.2 x.cell
      have h2 := hb.2.2 x.cell
      unfold sumV at hv
      simp only [Prod.mk.injEq, Int.one_mul] at hv
      simp only [countB, szB, Bool.not_eq_true', Bool.and_eq_false_iff, decide_eq_false_iff_not]
      omega
    rw [h1, if_neg (by simp), if_neg (by omega)]
  have hv : ∀ c, valT (combE 1 a b).1 c = ((valT a c).1 + (valT b c).1, (valT a c).2 + (valT b c).2) := by
    intro c
    rw [comb_val hcode]
    unfold sumV
    simp only [Int.one_mul]
  refine ⟨hcode, ⟨comb_vE hcode, by rw [(comb_code hcode).2.2.1]; exact hlen, fun c => ?_⟩, hv⟩
  rw [hv]
  have h1 := ha.2.2 c
  have h2 := hb.2.2 c
  dsimp only
  omega
theorem GoodN.mono {N M : Nat} {a : List EntT} (h : GoodN N a) (hm : N ≤ M) : GoodN M a :=
  ⟨h.1, Nat.le_trans h.2.1 hm, fun c => by have := h.2.2 c; omega⟩
section
variable (pt : Int → List EntT) (wt : Int → Nat)
def mapG (ids : List Int) (o : List EntT) : List EntT := ids.foldl (fun o k => (combE 1 o (pt k)).1) o
def valG (ids : List Int) (c : CellT) : Int × Int := ((ids.map fun k => (valT (pt k) c).1).sum, (ids.map fun k => (valT (pt k) c).2).sum)
def wG (ids : List Int) : Nat := (ids.map wt).sum
theorem mapG_good (hp : ∀ k, GoodN (wt k) (pt k)) : ∀ (ids : List Int) {N : Nat} {o : List EntT}, GoodN N o → N + wG wt ids ≤ 1048576 →
    GoodN (N + wG wt ids) (mapG pt ids o) ∧ ∀ c, valT (mapG pt ids o) c = ((valT o c).1 + (valG pt ids c).1, (valT o c).2 + (valG pt ids c).2)
  | [], N, o, ho, _ => by
    refine ⟨by simpa [wG, mapG] using ho, fun c => ?_⟩
    simp [valG, mapG]
  | k :: ids, N, o, ho, h => by
    have hw : wG wt (k :: ids) = wt k + wG wt ids := by simp [wG]
    rw [hw] at h ⊢
    obtain ⟨_, h2, h3⟩ := ho.comb (hp k) (by omega)
    obtain ⟨h4, h5⟩ := mapG_good hp ids h2 (by omega)
    refine ⟨by rw [← Nat.add_assoc]; exact h4, fun c => ?_⟩
    have e : mapG pt (k :: ids) o = mapG pt ids (combE 1 o (pt k)).1 := rfl
    rw [e, h5, h3]
    unfold valG
    simp only [List.map_cons, List.sum_cons]
    refine Prod.ext ?_ ?_ <;> (dsimp only; omega)
variable {pt wt}
theorem sum_sub {f : Int → Nat} {l m : List Int} (h : l.Sublist m) : (l.map f).sum ≤ (m.map f).sum := by
  induction h with
  | slnil => simp
  | cons _ _ ih => simp only [List.map_cons, List.sum_cons]; omega
  | cons_cons _ _ ih => simp only [List.map_cons, List.sum_cons]; omega
end
def wA (a : AtT) (k : Int) : Nat := match a.1 k with
  | some s => s.length * 4000
  | none => 0
def all64 : List Int := (List.range 64).map fun i : Nat => (i : Int)
theorem all64_nodup : all64.Nodup := by decide +kernel
theorem partA_good (a : AtT) (k : Int) : GoodN (wA a k) (partA a k) := by
  unfold partA wA
  cases a.1 k with
  | none => exact GoodN.nil _
  | some s =>
    cases a.2 k with
    | none => exact GoodN.nil _
    | some p =>
      dsimp only
      split
      · exact GoodN.nil _
      · exact ofE_good _ _
theorem idsF_sub (s : Int → Bool) : (idsF s 64).Sublist all64 := by
  unfold idsF all64
  exact (List.filter_sublist).map _
theorem mapF_G (a : AtT) (ids : List Int) : mapF a ids = mapG (partA a) ids [] := rfl
theorem map_spec {a : AtT} (hw : wG (wA a) all64 ≤ 1048576) : GoodN (wG (wA a) (idsF (hasA a) 64)) (mapF a (idsF (hasA a) 64)) ∧ ∀ c, valT (mapF a (idsF (hasA a) 64)) c = valG (partA a) (idsF (hasA a) 64) c := by
  have hs := sum_sub (f := wA a) (idsF_sub (hasA a))
  obtain ⟨h1, h2⟩ := mapG_good (partA a) (wA a) (partA_good a) (idsF (hasA a) 64) (GoodN.nil 0) (by unfold wG at *; omega)
  rw [mapF_G]
  refine ⟨by simpa using h1, fun c => ?_⟩
  rw [h2, valT_none (L := []) (by simp)]
  simp
theorem wG_upd {f g : Int → Nat} {n : Int} (h : ∀ k, k ≠ n → f k = g k) {d : Nat} (hd : f n ≤ g n + d) : wG f all64 ≤ wG g all64 + d := by
  have : ∀ ids : List Int, ids.Nodup → (ids.map f).sum ≤ (ids.map g).sum + d := by
    intro ids
    induction ids with
    | nil => simp
    | cons k ids ih =>
      intro hn
      rw [List.nodup_cons] at hn
      simp only [List.map_cons, List.sum_cons]
      by_cases e : k = n
      · subst e
        have : ids.map f = ids.map g := List.map_congr_left fun x hx => h x fun e => hn.1 (e ▸ hx)
        rw [this]
        omega
      · have := ih hn.2
        rw [h k e]
        omega
  exact this all64 all64_nodup
theorem step_w (a : AtT) (o : OpT) : wG (wA (stepA a o)) all64 ≤ wG (wA a) all64 + o.2.2.1.length * 4000 := by
  unfold stepA plcA putA
  split
  · split
    · exact Nat.le_trans (Nat.le_of_eq rfl) (Nat.le_add_right _ _)
    · exact Nat.le_add_right _ _
  · split
    · refine wG_upd (n := o.2.1) (fun k hk => by unfold wA updF; dsimp only; rw [if_neg hk]) ?_
      unfold wA updF
      dsimp only
      rw [if_pos rfl]
      cases a.1 o.2.1 with
      | none =>
        unfold mxO
        dsimp only
        omega
      | some u =>
        have : mxO keyS (some u) o.2.2.1 = some o.2.2.1 ∨ mxO keyS (some u) o.2.2.1 = some u := by
          unfold mxO
          dsimp only
          split
          · exact .inl rfl
          · exact .inr rfl
        rcases this with e | e
        · rw [e]
          dsimp only
          omega
        · rw [e]
          dsimp only
          omega
    · exact Nat.le_add_right _ _
theorem fold_w : ∀ (l : List OpT) (a : AtT), wG (wA (l.foldl stepA a)) all64 ≤ wG (wA a) all64 + (l.map fun o => o.2.2.1.length * 4000).sum
  | [], a => by simp
  | o :: l, a => by
    have h1 := fold_w l (stepA a o)
    have h2 := step_w a o
    simp only [List.foldl_cons, List.map_cons, List.sum_cons]
    omega
theorem few_sum : ∀ (l : List AOp), (l.map lenF).sum ≤ 150 → 0 ≤ (l.map lenF).sum ∧ ((l.map absO).map fun o => o.2.2.1.length * 4000).sum ≤ ((l.map lenF).sum * 4000).toNat
  | [], _ => by simp
  | o :: l, h => by
    simp only [List.map_cons, List.sum_cons] at h ⊢
    have h0 : 0 ≤ lenF o := by unfold lenF; omega
    have hn : ∀ l : List AOp, 0 ≤ (l.map lenF).sum := by
      intro l
      induction l with
      | nil => simp
      | cons o l ih =>
        simp only [List.map_cons, List.sum_cons]
        unfold lenF
        unfold lenF at ih
        omega
    have hl := hn l
    obtain ⟨h1, h2⟩ := few_sum l (by omega)
    have e : (absO o).2.2.1.length = o.2.2.1.2.2.length := rfl
    have h3 : lenF o = o.2.2.1.2.2.length := by
      have hle : lenF o ≤ 150 := by omega
      unfold lenF at hle ⊢
      omega
    rw [e]
    refine ⟨by omega, ?_⟩
    omega
theorem made_w {l : List AOp} (h : fewB l = true) : wG (wA (madeM l)) all64 ≤ 1048576 := by
  unfold fewB at h
  simp only [Bool.and_eq_true, decide_eq_true_eq] at h
  rw [List.take_of_length_le (by omega)] at h
  have h1 := few_sum l h.2
  have h2 := fold_w (l.map absO) at0
  have h3 : wG (wA at0) all64 = 0 := by decide +kernel
  unfold madeM madeA
  omega
end Go.Proofs.YtadichckbogcjaaGreatDoor.En
end
section
namespace Go.Proofs.YtadichckbogcjaaGreatDoor.En
open Go.RowKit
set_option maxRecDepth 100000
theorem at_val {l : List EntT} (h : vE l = true) (c : CellT) : atE l c = (c.1, c.2, (valT l c).1, (valT l c).2) := by
  rw [atE_eq, if_pos h]
  rcases getF_mem l c with ⟨h1, h2⟩ | ⟨h1, h2⟩
  · have hv := mem_val (asc_ne (vE_pairwise h)) h1
    rw [h2] at hv
    rw [hv]
    have e1 : (getF l c).1 = c.1 := congrArg Prod.fst h2
    have e2 : (getF l c).2.1 = c.2 := congrArg Prod.snd h2
    rw [← e1, ← e2]
  · rw [h1, valT_none h2]
def hitS (l : List ShT) : Int := (l.map fun s => s.2.1).sum
def passS (l : List ShT) : Int := (l.map fun s => s.2.2).sum
theorem shE_sum (a : AtT) (c : CellT) (k : Int) : hitS (shE a c k) = (valT (partA a k) c).1 ∧ passS (shE a c k) = (valT (partA a k) c).2 := by
  unfold shE
  rw [at_val (part_vE a k)]
  unfold shV hitS passS
  dsimp only
  split
  · rename_i h
    simp [h.1, h.2]
  · simp
theorem shL_sum (a : AtT) (c : CellT) : ∀ ids : List Int, hitS (shL a c ids) = (valG (partA a) ids c).1 ∧ passS (shL a c ids) = (valG (partA a) ids c).2
  | [] => by simp [hitS, passS, shL, valG]
  | k :: ids => by
    obtain ⟨h1, h2⟩ := shL_sum a c ids
    obtain ⟨h3, h4⟩ := shE_sum a c k
    unfold hitS passS shL valG at *
    simp only [List.flatMap_cons, List.map_append, List.sum_append, List.map_cons, List.sum_cons]
    simp only at h1 h2
    rw [h3, h4, h1, h2]
    exact ⟨rfl, rfl⟩
theorem shE_nn (a : AtT) (c : CellT) (k : Int) : ∀ s ∈ shE a c k, s.1 = k ∧ 0 ≤ s.2.1 ∧ 0 ≤ s.2.2 := by
  have hg := (partA_good a k).2.2 c
  unfold shE
  rw [at_val (part_vE a k)]
  unfold shV
  dsimp only
  split
  · simp
  · intro s hs
    rw [List.mem_singleton] at hs
    subst hs
    dsimp only
    omega
theorem shL_nn (a : AtT) (c : CellT) (ids : List Int) : ∀ s ∈ shL a c ids, s.1 ∈ ids ∧ 0 ≤ s.2.1 ∧ 0 ≤ s.2.2 := by
  intro s hs
  unfold shL at hs
  obtain ⟨k, hk, hs⟩ := List.mem_flatMap.1 hs
  obtain ⟨h1, h2⟩ := shE_nn a c k s hs
  exact ⟨h1 ▸ hk, h2⟩
theorem shL_asc (a : AtT) (c : CellT) : ∀ {ids : List Int}, ids.Pairwise (· < ·) → (shL a c ids).Pairwise fun s t => s.1 < t.1
  | [], _ => List.Pairwise.nil
  | k :: ids, h => by
    obtain ⟨h1, h2⟩ := List.pairwise_cons.1 h
    have ih := shL_asc a c h2
    have e : shL a c (k :: ids) = shE a c k ++ shL a c ids := by simp [shL]
    rw [e, List.pairwise_append]
    refine ⟨?_, ih, fun s hs t ht => ?_⟩
    · have := shE_len a c k
      generalize shE a c k = l at *
      match l, this with
      | [], _ => exact List.Pairwise.nil
      | [x], _ => exact List.pairwise_singleton _ _
    · have h3 := (shE_nn a c k s hs).1
      have h4 := (shL_nn a c ids t ht).1
      rw [h3]
      exact h1 _ h4
theorem idsF_asc (s : Int → Bool) (n : Nat) : (idsF s n).Pairwise (· < ·) := by
  unfold idsF
  rw [List.pairwise_map]
  refine List.Pairwise.imp (fun {a b} (h : a < b) => by omega) (List.Pairwise.filter _ List.pairwise_lt_range)
theorem sum_next (g : ShT → Int) {l : List ShT} {k : Nat} (hk : k < l.length) : ((l.take (k + 1)).map g).sum = ((l.take k).map g).sum + g (l.getD k sh0) := by
  rw [List.take_succ_eq_append_getElem hk, List.map_append, List.sum_append]
  simp [hk]
theorem sum_pre (g : ShT → Int) : ∀ {l : List ShT}, (∀ s ∈ l, 0 ≤ g s) → ∀ k, 0 ≤ ((l.take k).map g).sum ∧ ((l.take k).map g).sum ≤ (l.map g).sum
  | [], _, k => by simp
  | x :: l, h, 0 => by
    have := sum_pre g (l := l) (fun s hs => h s (by simp [hs])) 0
    have h0 := h x (by simp)
    simp only [List.take_zero, List.map_nil, List.sum_nil, List.map_cons, List.sum_cons] at *
    omega
  | x :: l, h, k + 1 => by
    have := sum_pre g (l := l) (fun s hs => h s (by simp [hs])) k
    have h0 := h x (by simp)
    simp only [List.take_succ_cons, List.map_cons, List.sum_cons] at *
    omega
theorem shares_law {a : AtT} (hw : wG (wA a) all64 ≤ 1048576) (c : CellT) :
    atE (mapF a (idsF (hasA a) 64)) c = (c.1, c.2, hitS (shF a c), passS (shF a c)) ∧ (0 ≤ hitS (shF a c) ∧ hitS (shF a c) ≤ 1048576) ∧ (0 ≤ passS (shF a c) ∧ passS (shF a c) ≤ 1048576) := by
  obtain ⟨h1, h2⟩ := map_spec hw
  obtain ⟨h3, h4⟩ := shL_sum a c (idsF (hasA a) 64)
  have hs := sum_sub (f := wA a) (idsF_sub (hasA a))
  have hg := h1.2.2 c
  unfold wG at hg hw
  rw [at_val h1.1, h2]
  rw [h2] at hg
  unfold shF
  rw [h3, h4]
  refine ⟨rfl, ?_, ?_⟩ <;> omega
end Go.Proofs.YtadichckbogcjaaGreatDoor.En
end
section
namespace Go.Proofs.YtadichckbogcjaaGreatDoor.En
open Go.RowKit
set_option maxRecDepth 100000
set_option maxHeartbeats 4000000 in
theorem Explain_m (b1 b2 : Nat) (m : List (Int × SlT)) (q : List (Int × PlT)) (hok : okS m) (c : CellT) :
    CallM Tryz.prog 15 [.p 0 0, .a [I c.1, I c.2]] (fun _ _ => True) [atB b1 b2, scO b1 m, plO b2 q]
      (fun r : Option Addr × Nat => .v (.slice r.1 (shF (absM (m, q)) c).length r.2)) (fun r => [atB b1 b2, scO b1 m, plO b2 q, .row 51 3 r.1 (shF (absM (m, q)) c).length r.2 ((shF (absM (m, q)) c).map encSh)]) := by
  have ki := Ids_m b1 b2 m q
  have kp := fun k => Part_m b1 b2 m q k hok
  rw [has_sem] at ki
  unfold shF
  have hab : (semS m, lkI q) = absM (m, q) := rfl
  rw [hab] at ki
  clear hab
  generalize absM (m, q) = a at *
  have hli := idsF_len (hasA a) 64
  have hpl := fun k => part_len a k
  have hat := fun (A : Option Addr) (c' : Nat) (k : Int) => At_v A c' (partA a k) c rfl (by have := hpl k; omega)
  generalize idsF (hasA a) 64 = L at *
  refine CallM.of (m := 3) Tryz.func15 rfl tabOk rfl rfl rfl rfl (by simp [SV.wfs, SV.wf]) fun w M π _ => ?_
  (conv=>whnf);repeat' (first|((with_reducible refine isC ?_);first|(((with_reducible refine isF 35 ?_);((refine CallX_m ki [0, 1, 2] rfl ⟨⟨rfl, rfl, by simp [SV.wf, SV.wfs]⟩, fun _ _ h => h, fun _ _ h => h, trivial⟩ (by decide) (fun _ _ _ _ => trivial) ?_; intro r1; obtain ⟨A1, c1⟩ := r1; dsimp only)));conv=>whnf))|((with_reducible refine isO ?_);first|((first|(refine OpX_build0 tabOk rfl rfl rfl ?_);intro bN|(refine OpX_build tabOk rfl rfl rfl rfl rfl ?_);intro bN);conv=>whnf))|((with_reducible refine isW ?_;first|refine xwr_ok (by omega) (by omega) ?_|refine xwr_raw ?_);conv=>whnf)|((first|refine DrawX_s tabOk folOk ?_|refine DrawS_i (by kernel_rfl) ?_|with_reducible refine andX_i ?_ ?_)<;>conv=>whnf)|with_reducible exact rfl|((with_reducible first|refine xif_kt (by assumption) ?_|refine xif_kf (by assumption) ?_);conv=>whnf)|((with_reducible refine xif_s ?_ ?_)<;>(intro hb;(try simp (disch:=omega) only [hbS] at hb)<;>conv=>whnf)))
  refine LoopX_addNil 51 3 ?_
  conv => whnf
  refine LoopX_inv tabOk (α := Nat × Option Addr × Nat) (fun s => s.1 ≤ L.length) (fun s => [(0, .p 0 0), (3, .p 3 0), (5, .v (.slice s.2.1 (shL a c (L.take s.1)).length s.2.2)), (9, .p 0 0), (10, .v (.slice A1 L.length c1)), (11, I L.length), (12, I s.1)])
    (fun s => [atB b1 b2, scO b1 m, plO b2 q, .box 25 [I c.1, I c.2], .row 3 1 A1 L.length c1 (L.map fun x => [encI x]), .row 51 3 s.2.1 (shL a c (L.take s.1)).length s.2.2 ((shL a c (L.take s.1)).map encSh)]) (fun s => L.length - s.1) (0, none, 0) [0, 1, 2, 3, 4, 5] (Nat.zero_le _) ?_ ?_
  · ((refine ⟨?_, ?_, ?_, ?_⟩) <;> (repeat' ((conv => whnf); apply And.intro)) <;> (try (first | exact trivial | decide)))
    all_goals first | rfl | exact fun _ _ h => h | (simp [SV.wf, SV.wfs]; done) | trace_state
  · rintro ⟨k, A, c0⟩ hk
    dsimp only at hk ⊢
    by_cases hlt : k < L.length
    · have hnx := shL_next a c hlt
      have hsl := shL_len a c (L.take k)
      have htl : (L.take k).length = k := by simp; omega
      have kpk := kp (L.getD k 0)
      have hak := fun A c1 => hat A c1 (L.getD k 0)
      have hlk := hpl (L.getD k 0)
      unfold shE at hnx
      generalize shL a c (L.take k) = O at *
      generalize partA a (L.getD k 0) = pt at *
      obtain ⟨e, he⟩ : ∃ e, atE pt c = e := ⟨_, rfl⟩
      simp only [he] at hak hnx
      obtain ⟨ex, ey, eh, ep⟩ := e
      by_cases hz : eh = 0 ∧ ep = 0
      · obtain ⟨rfl, rfl⟩ := hz
        (conv=>whnf);repeat' (first|((with_reducible refine isC ?_);first|((first|(with_reducible refine isF 36 ?_);((refine CallX_m kpk [0, 1, 2] rfl ⟨⟨rfl, rfl, by simp [SV.wf, SV.wfs]⟩, fun _ _ h => h, fun _ _ h => h, trivial⟩ (by decide) (fun _ _ _ _ => trivial) ?_; intro r1; obtain ⟨A2, c2⟩ := r1; dsimp only))|(with_reducible refine isF 25 ?_);((refine CallX_v (hak A2 c2) (ArgSl.row 6 rfl) ?_)));conv=>whnf))|((with_reducible refine isV ?_);first|((first|refine ValX_index tabOk rfl (ArgSl.row 4 rfl) rfl ?_ ?_ ?_|(with_reducible refine nat_idx ?_);refine ValX_load1n _ _ (0) tabOk rfl rfl rfl (ArgSl.row 4 rfl) ?_ ?_ ?_|refine ValX_load1 _ _ (0) tabOk rfl rfl rfl (ArgSl.row 4 rfl) ?_ ?_ ?_)<;>first|rfl|omega|with_reducible refine isP ?_|conv=>whnf))|((with_reducible refine isO ?_);first|((first|(refine OpX_build0 tabOk rfl rfl rfl ?_);intro bN|(refine OpX_build tabOk rfl rfl rfl rfl rfl ?_);intro bN);conv=>whnf))|((with_reducible refine isW ?_;first|refine xwr_ok (by omega) (by omega) ?_|refine xwr_raw ?_);conv=>whnf)|((first|refine DrawX_s tabOk folOk ?_|refine DrawS_i (by kernel_rfl) ?_|with_reducible refine andX_i ?_ ?_)<;>conv=>whnf)|with_reducible exact rfl|((with_reducible first|refine xif_kt (by assumption) ?_|refine xif_kf (by assumption) ?_);conv=>whnf)|((with_reducible refine xif_s ?_ ?_)<;>(intro hb;(try simp (disch:=omega) only [hbS] at hb)<;>conv=>whnf)))
        all_goals try (exfalso; omega)
        refine ⟨(k + 1, A, c0), [0, 1, 2, 3, 4, 5], by (try dsimp only); omega, ?_, by (try dsimp only); omega⟩
        dsimp only
        rw [hnx, show shV (L.getD k 0) (ex, ey, 0, 0) = [] by simp [shV], List.append_nil]
        ((refine ⟨?_, ?_, ?_, ?_⟩) <;> (repeat' ((conv => whnf); apply And.intro)) <;> (try (first | exact trivial | decide)))
        all_goals first | rfl | exact fun _ _ h => h | (simp [SV.wf, SV.wfs]; done) | trace_state
      · (conv=>whnf);repeat' (first|((with_reducible refine isC ?_);first|((first|(with_reducible refine isF 36 ?_);((refine CallX_m kpk [0, 1, 2] rfl ⟨⟨rfl, rfl, by simp [SV.wf, SV.wfs]⟩, fun _ _ h => h, fun _ _ h => h, trivial⟩ (by decide) (fun _ _ _ _ => trivial) ?_; intro r1; obtain ⟨A2, c2⟩ := r1; dsimp only))|(with_reducible refine isF 25 ?_);((refine CallX_v (hak A2 c2) (ArgSl.row 6 rfl) ?_)));conv=>whnf))|((with_reducible refine isV ?_);first|((first|refine ValX_index tabOk rfl (ArgSl.row 4 rfl) rfl ?_ ?_ ?_|(with_reducible refine nat_idx ?_);refine ValX_load1n _ _ (0) tabOk rfl rfl rfl (ArgSl.row 4 rfl) ?_ ?_ ?_|refine ValX_load1 _ _ (0) tabOk rfl rfl rfl (ArgSl.row 4 rfl) ?_ ?_ ?_)<;>first|rfl|omega|with_reducible refine isP ?_|conv=>whnf))|((with_reducible refine isO ?_);first|((refine OpX_append 5 tabOk rfl rfl rfl rfl (ArgSl.row 8 rfl) (by decide) ?_ ?_ ?_)<;>first|omega|(dsimp only;omega)|(intro A' c';conv=>whnf))|((first|(refine OpX_build0 tabOk rfl rfl rfl ?_);intro bN|(refine OpX_build tabOk rfl rfl rfl rfl rfl ?_);intro bN);conv=>whnf))|((with_reducible refine isW ?_;first|refine xwr_ok (by omega) (by omega) ?_|refine xwr_raw ?_);conv=>whnf)|((first|refine DrawX_s tabOk folOk ?_|refine DrawS_i (by kernel_rfl) ?_|with_reducible refine andX_i ?_ ?_)<;>conv=>whnf)|with_reducible exact rfl|((with_reducible first|refine xif_kt (by assumption) ?_|refine xif_kf (by assumption) ?_);conv=>whnf)|((with_reducible refine xif_s ?_ ?_)<;>(intro hb;(try simp (disch:=omega) only [hbS] at hb)<;>conv=>whnf)))
        all_goals try (exfalso; omega)
        all_goals
          refine ⟨(k + 1, A', c'), [0, 1, 2, 3, 4, 5], by (try dsimp only); omega, ?_, by (try dsimp only); omega⟩
          dsimp only
          rw [hnx, show shV (L.getD k 0) (ex, ey, eh, ep) = [(L.getD k 0, eh, ep)] by simp only [shV]; rw [if_neg hz], List.length_append, List.map_append]
          ((refine ⟨?_, ?_, ?_, ?_⟩) <;> (repeat' ((conv => whnf); apply And.intro)) <;> (try (first | exact trivial | decide)))
          all_goals first | rfl | exact fun _ _ h => h | (simp [SV.wf, SV.wfs]; done) | trace_state
    · obtain rfl : k = L.length := by omega
      rw [List.take_length]
      have hsl := shL_len a c L
      (conv=>whnf);repeat' (first|((with_reducible refine isO ?_);first|((first|(refine OpX_build0 tabOk rfl rfl rfl ?_);intro bN|(refine OpX_build tabOk rfl rfl rfl rfl rfl ?_);intro bN);conv=>whnf))|((with_reducible refine isW ?_;first|refine xwr_ok (by omega) (by omega) ?_|refine xwr_raw ?_);conv=>whnf)|((first|refine DrawX_s tabOk folOk ?_|refine DrawS_i (by kernel_rfl) ?_|with_reducible refine andX_i ?_ ?_)<;>conv=>whnf)|with_reducible exact rfl|((with_reducible first|refine xif_kt (by assumption) ?_|refine xif_kf (by assumption) ?_);conv=>whnf)|((with_reducible refine xif_s ?_ ?_)<;>(intro hb;(try simp (disch:=omega) only [hbS] at hb)<;>conv=>whnf)))
      all_goals try (exfalso; omega)
      exact Fin_m (A, c0) [0, 1, 2, 5] ⟨rfl, by simp [SV.wf, SV.wfs]⟩ ⟨⟨rfl, rfl, by simp [SV.wf, SV.wfs]⟩, fun _ _ h => h, fun _ _ h => h, ⟨rfl, rfl, rfl, rfl, rfl, rfl⟩, trivial⟩ (by decide) rfl
end Go.Proofs.YtadichckbogcjaaGreatDoor.En
end
section
namespace Go.Proofs.YtadichckbogcjaaGreatDoor.En
open Go.RowKit
set_option maxRecDepth 100000
theorem few_w (A : Option Addr) (c : Nat) (l : List AOp) {n : Nat} (hl : l.length = n) (hn : n ≤ maxLen) :
    CallW Tryz.prog 14 [.v (.slice A n c)] (fun w => ArgSl w A n 8 (l.map encOp) ∧ ∀ o ∈ l, o.2.2.1.2.2.length ≤ maxLen) (B (fewB l)) := by
  unfold maxLen at hn
  refine CallW.of Tryz.func14 rfl tabOk rfl rfl rfl (by simp [SV.wfs, SV.wf]) (by simp [SV.wfs, SV.wf]) fun w hpre => ?_
  obtain ⟨hpre, hlen⟩ := hpre
  (conv=>whnf);repeat' (first|((with_reducible refine isW ?_;first|refine xwr_ok (by omega) (by omega) ?_|refine xwr_raw ?_);conv=>whnf)|with_reducible exact rfl|((with_reducible first|refine xif_kt (by assumption) ?_|refine xif_kf (by assumption) ?_);conv=>whnf)|((with_reducible refine xif_s ?_ ?_)<;>(intro hb;(try simp (disch:=omega) only [hbS] at hb)<;>conv=>whnf)))
  refine LoopX_inv tabOk (α := Nat) (fun k => k ≤ n ∧ k ≤ 100) (fun k => [(0, .v (.slice A n c)), (3, I ((l.take k).map lenF).sum), (4, I k)]) (fun _ => []) (fun k => n - k) 0 [] ⟨Nat.zero_le _, Nat.zero_le _⟩ ?_ ?_
  · ((refine ⟨?_, ?_, ?_, ?_⟩) <;> (repeat' ((conv => whnf); apply And.intro)) <;> (try (first | exact trivial | decide)))
    all_goals first | rfl | exact fun _ _ h => h | simp [SV.wf, SV.wfs]
  · rintro k ⟨hk, hk2⟩
    have hbk := few_bd l k
    by_cases hlt : k < n
    · by_cases hlt2 : k < 100
      · have hnx := few_next (l := l) (k := k) (by omega)
        have hol := hlen (l.getD k op0) (by simp [show k < l.length by omega])
        unfold maxLen at hol
        have hlf : lenF (l.getD k op0) = min ((l.getD k op0).2.2.1.2.2.length : Int) 1000 := rfl
        rw [hlf] at hnx
        generalize ((l.take k).map lenF).sum = S at *
        (conv=>whnf);repeat' (first|((with_reducible refine isV ?_);first|((first|(with_reducible refine nat_idxF ?_);refine ValX_loadFn _ _ (op0) _ tabOk rfl rfl rfl (hpre.mem (by decide) rfl) ?_ ?_ rfl ?_|refine ValX_loadF _ _ (op0) _ tabOk rfl rfl rfl (hpre.mem (by decide) rfl) ?_ ?_ rfl ?_)<;>first|omega|(simp;omega)|with_reducible refine isP ?_|conv=>whnf)|((refine ValX_index tabOk rfl (hpre.mem (by decide) rfl) rfl ?_ ?_ ?_)<;>first|rfl|omega|with_reducible refine isP ?_|conv=>whnf))|((with_reducible refine isW ?_;first|refine xwr_ok (by omega) (by omega) ?_|refine xwr_raw ?_);conv=>whnf)|with_reducible exact rfl|((with_reducible first|refine xif_kt (by assumption) ?_|refine xif_kf (by assumption) ?_);conv=>whnf)|((with_reducible refine xif_s ?_ ?_)<;>(intro hb;(try simp (disch:=omega) only [hbS] at hb)<;>conv=>whnf)))
        all_goals try (exfalso; omega)
        refine ⟨k + 1, [], ⟨by (try dsimp only); omega, by (try dsimp only); omega⟩, ?_, by (try dsimp only); omega⟩
        dsimp only
        rw [hnx]
        ((refine ⟨?_, ?_, ?_, ?_⟩) <;> (repeat' ((conv => whnf); apply And.intro)) <;> (try (first | exact trivial | decide)))
        all_goals first | rfl | exact fun _ _ h => h | (simp [SV.wf, SV.wfs]; done) | trace_state
      · obtain rfl : k = 100 := by omega
        have hf : fewB l = (decide (l.length ≤ 30) && decide (((l.take 100).map lenF).sum ≤ 150)) := rfl
        rw [hf]
        generalize ((l.take 100).map lenF).sum = S at *
        (conv=>whnf);repeat' (first|((with_reducible refine isW ?_;first|refine xwr_ok (by omega) (by omega) ?_|refine xwr_raw ?_);conv=>whnf)|with_reducible exact rfl|((with_reducible first|refine xif_kt (by assumption) ?_|refine xif_kf (by assumption) ?_);conv=>whnf)|((with_reducible refine xif_s ?_ ?_)<;>(intro hb;(try simp (disch:=omega) only [hbS] at hb)<;>conv=>whnf)))
        all_goals try (exfalso; omega)
        all_goals refine Fin_pure rfl (B_eq ?_) trivial
        all_goals simp
        all_goals omega
    · obtain rfl : k = n := by omega
      have hf : fewB l = (decide (l.length ≤ 30) && decide (((l.take k).map lenF).sum ≤ 150)) := by
        unfold fewB
        rw [List.take_of_length_le (show l.length ≤ 100 by omega), List.take_of_length_le (by omega)]
      rw [hf]
      generalize ((l.take k).map lenF).sum = S at *
      (conv=>whnf);repeat' (first|((with_reducible refine isW ?_;first|refine xwr_ok (by omega) (by omega) ?_|refine xwr_raw ?_);conv=>whnf)|with_reducible exact rfl|((with_reducible first|refine xif_kt (by assumption) ?_|refine xif_kf (by assumption) ?_);conv=>whnf)|((with_reducible refine xif_s ?_ ?_)<;>(intro hb;(try simp (disch:=omega) only [hbS] at hb)<;>conv=>whnf)))
      all_goals try (exfalso; omega)
      all_goals refine Fin_pure rfl (B_eq ?_) trivial
      all_goals simp
      all_goals omega
set_option maxHeartbeats 2000000 in
theorem made_m (A : Option Addr) (c : Nat) (l : List AOp) {n : Nat} (hl : l.length = n) (hn : n ≤ maxLen) :
    CallM Tryz.prog 16 [.v (.slice A n c)] (fun w M => opsN w M A n l) [] (fun _ : (Nat × Nat) × StI (madeM l) => .p 0 0) (fun q => [atB q.1.1 q.1.2, scO q.1.1 q.2.1.1, plO q.1.2 q.2.1.2]) := by
  unfold maxLen at hn
  refine CallM.of (m := 0) Tryz.func16 rfl tabOk rfl rfl rfl rfl (by simp [SV.wfs, SV.wf]) fun w M π hpre => ?_
  (conv=>whnf);repeat' (first|((with_reducible refine isC ?_);first|(((with_reducible refine isF 37 ?_);(refine CallX_m New_m [] rfl trivial (by decide) (fun _ _ _ _ => trivial) ?_; intro b; obtain ⟨b1, b2⟩ := b));conv=>whnf))|((with_reducible refine isW ?_;first|refine xwr_ok (by omega) (by omega) ?_|refine xwr_raw ?_);conv=>whnf)|((first|refine DrawX_s tabOk folOk ?_|refine DrawS_i (by kernel_rfl) ?_|with_reducible refine andX_i ?_ ?_)<;>conv=>whnf)|with_reducible exact rfl|((with_reducible first|refine xif_kt (by assumption) ?_|refine xif_kf (by assumption) ?_);conv=>whnf)|((with_reducible refine xif_s ?_ ?_)<;>(intro hb;(try simp (disch:=omega) only [hbS] at hb)<;>conv=>whnf)))
  refine LoopX_inv tabOk (α := (k : Nat) × StI (madeM (l.take k))) (fun s => s.1 ≤ n) (fun s => [(0, .v (.slice A n c)), (3, .p 0 0), (4, I s.1)])
    (fun s => [atB b1 b2, scO b1 s.2.1.1, plO b2 s.2.1.2]) (fun s => n - s.1) ⟨0, ⟨([], []), (by intro e he; cases he), rfl⟩⟩ [0, 1, 2] (Nat.zero_le _) ?_ ?_
  · ((refine ⟨?_, ?_, ?_, ?_⟩) <;> (repeat' ((conv => whnf); apply And.intro)) <;> (try (first | exact trivial | decide)))
    all_goals first | rfl | exact fun _ _ h => h | (simp [SV.wf, SV.wfs]; done) | trace_state
  · rintro ⟨k, ⟨m, q⟩, hok, hab⟩ hk
    dsimp only at hk hok ⊢
    by_cases hlt : k < n
    · have hmem : l.getD k op0 ∈ l := by simp [show k < l.length by omega]
      obtain ⟨hop, hol⟩ := hpre.2 _ hmem
      have hsk := made_take (l := l) (k := k) (by omega)
      have hab' : (semS m, lkI q) = madeM (l.take k) := hab
      rw [← hab'] at hsk
      obtain ⟨o, ho⟩ : ∃ o, l.getD k op0 = o := ⟨_, rfl⟩
      have hO : o = (o.1, o.2.1, (o.2.2.1.1, o.2.2.1.2.1, o.2.2.1.2.2), o.2.2.2.1, o.2.2.2.2.1, o.2.2.2.2.2.1, o.2.2.2.2.2.2.1, o.2.2.2.2.2.2.2) := rfl
      have kp := Place_m b1 b2 m q (l.getD k op0).2.1 (l.getD k op0).2.2.2
      have ku := Put_m b1 b2 m q (l.getD k op0).2.1 (l.getD k op0).2.2.1.1 (l.getD k op0).2.2.1.2.1 (l.getD k op0).2.2.1.2.2 rfl hol hok
      rcases Bool.eq_false_or_eq_true (l.getD k op0).1 with hv | hv
      · (conv=>whnf);repeat' (first|((with_reducible refine isC ?_);first|(((with_reducible refine isF 38 ?_);(refine CallX_m kp [0, 1, 2] rfl ⟨⟨rfl, rfl, by simp [SV.wf, SV.wfs]⟩, fun _ _ h => h, fun _ _ h => h, trivial⟩ (by decide) (fun _ _ _ _ => trivial) ?_; intro r));conv=>whnf))|((with_reducible refine isV ?_);first|((first|(with_reducible refine nat_idxF ?_);refine ValX_loadFn _ _ (op0) _ tabOk rfl rfl rfl (ArgN.mem hpre.1 (by decide)) ?_ ?_ rfl ?_|refine ValX_loadF _ _ (op0) _ tabOk rfl rfl rfl (ArgN.mem hpre.1 (by decide)) ?_ ?_ rfl ?_)<;>first|omega|(simp;omega)|with_reducible refine isP ?_|conv=>whnf)|((first|(with_reducible refine nat_idxF ?_);refine ValX_loadGn _ _ (op0) _ tabOk rfl rfl rfl (ArgN.mem hpre.1 (by decide)) ?_ ?_ rfl rfl ?_|refine ValX_loadG _ _ (op0) _ tabOk rfl rfl rfl (ArgN.mem hpre.1 (by decide)) ?_ ?_ rfl rfl ?_)<;>first|omega|with_reducible refine isP ?_|conv=>whnf)|((refine ValX_index tabOk rfl (ArgN.mem hpre.1 (by decide)) rfl ?_ ?_ ?_)<;>first|rfl|omega|with_reducible refine isP ?_|conv=>whnf))|((with_reducible refine isW ?_;first|refine xwr_ok (by omega) (by omega) ?_|refine xwr_raw ?_);conv=>whnf)|(rw [hv]; conv => whnf)|((first|refine DrawX_s tabOk folOk ?_|refine DrawS_i (by kernel_rfl) ?_|with_reducible refine andX_i ?_ ?_)<;>conv=>whnf)|with_reducible exact rfl|((with_reducible first|refine xif_kt (by assumption) ?_|refine xif_kf (by assumption) ?_);conv=>whnf)|((with_reducible refine xif_s ?_ ?_)<;>(intro hb;(try simp (disch:=omega) only [hbS] at hb)<;>conv=>whnf)))
        all_goals try (exfalso; omega)
        refine ⟨⟨k + 1, (m, r.1), hok, by rw [hsk]; show (semS m, lkI r.1) = _; rw [r.2]; simp only [stepA, absO, hv, if_true, plcA]; split <;> rfl⟩, [0, 1, 2], by (try dsimp only); omega, ?_, by (try dsimp only); omega⟩
        ((refine ⟨?_, ?_, ?_, ?_⟩) <;> (repeat' ((conv => whnf); apply And.intro)) <;> (try (first | exact trivial | decide)))
        all_goals first | rfl | exact fun _ _ h => h | (simp [SV.wf, SV.wfs]; done) | trace_state
      · (conv=>whnf);repeat' (first|((with_reducible refine isC ?_);first|(((with_reducible refine isF 39 ?_);(refine CallX_m ku [0, 1, 2] rfl ⟨⟨rfl, rfl, by simp [SV.wf, SV.wfs]⟩, fun _ _ h => h, fun _ _ h => h, trivial⟩ (by decide) (opN.on hop (m := 3) (r := [0, 1, 2]) (fun j hj => by rcases (by omega : j = 0 ∨ j = 1 ∨ j = 2) with rfl | rfl | rfl <;> simp)) ?_; intro r));conv=>whnf))|((with_reducible refine isV ?_);first|((first|(with_reducible refine nat_idxF ?_);refine ValX_loadFn _ _ (op0) _ tabOk rfl rfl rfl (ArgN.mem hpre.1 (by decide)) ?_ ?_ rfl ?_|refine ValX_loadF _ _ (op0) _ tabOk rfl rfl rfl (ArgN.mem hpre.1 (by decide)) ?_ ?_ rfl ?_)<;>first|omega|(simp;omega)|with_reducible refine isP ?_|conv=>whnf)|((first|(with_reducible refine nat_idxF ?_);refine ValX_loadGn _ _ (op0) _ tabOk rfl rfl rfl (ArgN.mem hpre.1 (by decide)) ?_ ?_ rfl rfl ?_|refine ValX_loadG _ _ (op0) _ tabOk rfl rfl rfl (ArgN.mem hpre.1 (by decide)) ?_ ?_ rfl rfl ?_)<;>first|omega|with_reducible refine isP ?_|conv=>whnf)|((refine ValX_index tabOk rfl (ArgN.mem hpre.1 (by decide)) rfl ?_ ?_ ?_)<;>first|rfl|omega|with_reducible refine isP ?_|conv=>whnf))|((with_reducible refine isW ?_;first|refine xwr_ok (by omega) (by omega) ?_|refine xwr_raw ?_);conv=>whnf)|(rw [hv]; conv => whnf)|((first|refine DrawX_s tabOk folOk ?_|refine DrawS_i (by kernel_rfl) ?_|with_reducible refine andX_i ?_ ?_)<;>conv=>whnf)|with_reducible exact rfl|((with_reducible first|refine xif_kt (by assumption) ?_|refine xif_kf (by assumption) ?_);conv=>whnf)|((with_reducible refine xif_s ?_ ?_)<;>(intro hb;(try simp (disch:=omega) only [hbS] at hb)<;>conv=>whnf)))
        all_goals try (exfalso; omega)
        refine ⟨⟨k + 1, (r.1, q), r.2.1, by rw [hsk]; show (semS r.1, lkI q) = _; rw [r.2.2]; simp only [stepA, absO, hv, Bool.false_eq_true, if_false, putA]; split <;> rfl⟩, [0, 1, 2], by (try dsimp only); omega, ?_, by (try dsimp only); omega⟩
        ((refine ⟨?_, ?_, ?_, ?_⟩) <;> (repeat' ((conv => whnf); apply And.intro)) <;> (try (first | exact trivial | decide)))
        all_goals first | rfl | exact fun _ _ h => h | (simp [SV.wf, SV.wfs]; done) | trace_state
    · obtain rfl : k = n := by omega
      (conv=>whnf);repeat' (first|((with_reducible refine isW ?_;first|refine xwr_ok (by omega) (by omega) ?_|refine xwr_raw ?_);conv=>whnf)|((first|refine DrawX_s tabOk folOk ?_|refine DrawS_i (by kernel_rfl) ?_|with_reducible refine andX_i ?_ ?_)<;>conv=>whnf)|with_reducible exact rfl|((with_reducible first|refine xif_kt (by assumption) ?_|refine xif_kf (by assumption) ?_);conv=>whnf)|((with_reducible refine xif_s ?_ ?_)<;>(intro hb;(try simp (disch:=omega) only [hbS] at hb)<;>conv=>whnf)))
      all_goals try (exfalso; omega)
      exact Fin_m ⟨(b1, b2), (m, q), hok, by rw [hab, ← hl, List.take_length]⟩ [0, 1, 2] ⟨rfl, by simp [SV.wf, SV.wfs]⟩ ⟨⟨rfl, rfl, by simp [SV.wf, SV.wfs]⟩, fun _ _ h => h, fun _ _ h => h, trivial⟩ (by decide) rfl
end Go.Proofs.YtadichckbogcjaaGreatDoor.En
end
