import Derived.Test.YtadichckbogcjaaGreatDoorZToolsFirst16
import Derived.Test.YtadichckbogcjaaGreatDoorZToolsFirst15
set_option linter.all false
section
namespace Go.Proofs.YtadichckbogcjaaGreatDoor.En
open Go.RowKit
def plusE (x e : EntT) : EntT := (e.1, e.2.1, x.2.2.1 + e.2.2.1, x.2.2.2 + e.2.2.2)
def putS (e : EntT) (s : List EntT × Bool × Bool) (x : EntT) : List EntT × Bool × Bool :=
  if s.2.1 = false ∧ x.cell = e.cell then (if zeroE (plusE x e) then s.1 else s.1 ++ [plusE x e], true, countB (plusE x e))
  else if s.2.1 = false ∧ befB e.cell x.cell = true then (s.1 ++ [e] ++ [x], true, s.2.2)
  else (s.1 ++ [x], s.2.1, s.2.2)
def putE (l : List EntT) (e : EntT) : List EntT × Bool :=
  let s := l.foldl (putS e) ([], false, true)
  (if s.2.1 then s.1 else s.1 ++ [e], s.2.2)
def putR (e : EntT) : List EntT → List EntT × Bool
  | [] => ([e], true)
  | x :: xs => if x.cell = e.cell then (if zeroE (plusE x e) then xs else plusE x e :: xs, countB (plusE x e)) else if befB e.cell x.cell then (e :: x :: xs, true) else (x :: (putR e xs).1, (putR e xs).2)
theorem putS_done (e : EntT) (t : Bool) : ∀ (xs acc : List EntT), xs.foldl (putS e) (acc, true, t) = (acc ++ xs, true, t)
  | [], acc => by simp
  | x :: xs, acc => by
    rw [List.foldl_cons]
    have : putS e (acc, true, t) x = (acc ++ [x], true, t) := by simp [putS]
    rw [this, putS_done e t xs]
    simp
theorem putS_go (e : EntT) : ∀ (xs acc : List EntT), let s := xs.foldl (putS e) (acc, false, true); (if s.2.1 then s.1 else s.1 ++ [e]) = acc ++ (putR e xs).1 ∧ s.2.2 = (putR e xs).2
  | [], acc => by simp [putR]
  | x :: xs, acc => by
    dsimp only
    rw [List.foldl_cons]
    have hS : putS e (acc, false, true) x = if x.cell = e.cell then (if zeroE (plusE x e) then acc else acc ++ [plusE x e], true, countB (plusE x e)) else if befB e.cell x.cell = true then (acc ++ [e] ++ [x], true, true) else (acc ++ [x], false, true) := by
      unfold putS
      simp only [true_and]
    rw [hS]
    by_cases h1 : x.cell = e.cell
    · rw [if_pos h1, putS_done]
      simp only [putR, if_pos h1, if_true, and_true]
      by_cases h3 : zeroE (plusE x e) = true
      · simp [h3]
      · simp [h3]
    · rw [if_neg h1]
      by_cases h2 : befB e.cell x.cell = true
      · rw [if_pos h2, putS_done]
        simp [putR, h1, h2]
      · rw [if_neg h2]
        have ih := putS_go e xs (acc ++ [x])
        dsimp only at ih
        rw [ih.1, ih.2]
        simp [putR, h1, h2]
theorem putE_R (l : List EntT) (e : EntT) : putE l e = putR e l := by
  obtain ⟨h1, h2⟩ := putS_go e l []
  unfold putE
  dsimp only at h1 h2 ⊢
  rw [h1, h2]
  simp
theorem rep_asc {l : List EntT} (ha : asc l) (hz : ∀ e ∈ l, zeroE e = false) : Rep (valT l) l :=
  ⟨ha, fun _ => ⟨fun he => ⟨hz _ he, mem_val (asc_ne ha) he⟩, fun ⟨h1, h2⟩ => val_mem h1 h2⟩⟩
theorem asc_cons {x : EntT} {l : List EntT} : asc (x :: l) ↔ (∀ y ∈ l, befB x.cell y.cell = true) ∧ asc l := by
  unfold asc
  rw [List.pairwise_cons]
theorem putR_mem (e : EntT) : ∀ {l : List EntT} {y : EntT}, y ∈ (putR e l).1 → y.cell = e.cell ∨ y ∈ l
  | [], y, h => by
    rw [putR, List.mem_singleton] at h
    subst h
    exact .inl rfl
  | x :: xs, y, h => by
    rw [putR] at h
    split at h
    · rename_i h1
      split at h
      · exact .inr (List.mem_cons_of_mem _ h)
      · rcases List.mem_cons.1 h with rfl | h
        · exact .inl rfl
        · exact .inr (List.mem_cons_of_mem _ h)
    · split at h
      · rcases List.mem_cons.1 h with rfl | h
        · exact .inl rfl
        · exact .inr h
      · rcases List.mem_cons.1 h with rfl | h
        · exact .inr (by simp)
        · rcases putR_mem e h with h | h
          · exact .inl h
          · exact .inr (List.mem_cons_of_mem _ h)
theorem putR_asc (e : EntT) : ∀ {l : List EntT}, asc l → asc (putR e l).1
  | [], _ => by simp [putR, asc]
  | x :: xs, h => by
    have h0 := asc_cons.1 h
    rw [putR]
    split
    · rename_i h1
      dsimp only
      split
      · exact h0.2
      · exact asc_cons.2 ⟨fun y hy => by
          have := h0.1 y hy
          rw [h1] at this
          exact this, h0.2⟩
    · rename_i h1
      split
      · rename_i h2
        refine asc_cons.2 ⟨fun y hy => ?_, h⟩
        rcases List.mem_cons.1 hy with rfl | hy
        · exact h2
        · exact befB_trans h2 (h0.1 y hy)
      · rename_i h2
        refine asc_cons.2 ⟨fun y hy => ?_, putR_asc e h0.2⟩
        rcases putR_mem e hy with hy | hy
        · rw [hy]
          cases h3 : befB x.cell e.cell with
          | true => rfl
          | false => exact (h1 (befB_total h3 (by simpa using h2))).elim
        · exact h0.1 y hy
theorem putR_val (e : EntT) (c : CellT) : ∀ {l : List EntT}, asc l → valT (putR e l).1 c = if c = e.cell then ((valT l c).1 + e.2.2.1, (valT l c).2 + e.2.2.2) else valT l c
  | [], _ => by
    rw [putR, valT_cons (by simp [neT]), valT_none (L := []) (by simp)]
    by_cases h : c = e.cell
    · rw [if_pos h.symm, if_pos h]
      simp
    · rw [if_neg (fun h' => h h'.symm), if_neg h]
  | x :: xs, h => by
    have h0 := asc_cons.1 h
    have hn := asc_ne h
    have hR := putR_asc e h
    rw [putR] at hR ⊢
    split at hR
    · rename_i h1
      rw [if_pos h1]
      dsimp only at hR ⊢
      have hx0 : ∀ c, c = e.cell → valT xs c = (0, 0) := fun c hc => valT_none fun y hy hyc => by
        have := h0.1 y hy
        rw [hyc, hc, h1, befB_irr] at this
        cases this
      rw [valT_cons hn]
      by_cases hc : c = e.cell
      · rw [if_pos hc, if_pos (h1.trans hc.symm)]
        split
        · rename_i hz
          rw [hx0 c hc]
          have hz' := hz
          unfold zeroE plusE at hz'
          rw [Bool.and_eq_true] at hz'
          exact Prod.ext (of_decide_eq_true hz'.1).symm (of_decide_eq_true hz'.2).symm
        · rename_i hz
          rw [if_neg hz] at hR
          rw [valT_cons (asc_ne hR), if_pos (show (plusE x e).cell = c from hc.symm)]
          rfl
      · have hxc : ¬ x.cell = c := fun h' => hc (h'.symm.trans h1)
        rw [if_neg hc]
        split
        · first | rfl | rw [if_neg hxc]
        · rename_i hz
          rw [if_neg hz] at hR
          try rw [if_neg hxc]
          rw [valT_cons (asc_ne hR), if_neg (show ¬ (plusE x e).cell = c from fun h' => hc h'.symm)]
    · rename_i h1
      rw [if_neg h1]
      split at hR
      · rename_i h2
        rw [if_pos h2]
        dsimp only at hR ⊢
        have hR0 := asc_cons.1 hR
        rw [valT_cons (asc_ne hR)]
        by_cases hc : c = e.cell
        · rw [if_pos hc.symm, if_pos hc, valT_none (L := x :: xs) (fun y hy hyc => by
            have := hR0.1 y hy
            rw [hyc, hc, befB_irr] at this
            cases this)]
          simp
        · rw [if_neg (fun h' => hc h'.symm), if_neg hc]
      · rename_i h2
        rw [if_neg h2]
        dsimp only at hR ⊢
        rw [valT_cons (asc_ne hR), valT_cons hn, putR_val e c h0.2]
        by_cases hx : x.cell = c
        · rw [if_pos hx, if_pos hx]
          rw [if_neg (fun h' => h1 (hx.trans h'))]
        · rw [if_neg hx, if_neg hx]
def okV (p : Int × Int) : Bool := szB p.1 1099511627776 && szB p.2 1099511627776
theorem putR_fit (e : EntT) (he : countB e = true) : ∀ {l : List EntT}, asc l → (putR e l).2 = okV ((valT l e.cell).1 + e.2.2.1, (valT l e.cell).2 + e.2.2.2)
  | [], _ => by
    rw [valT_none (L := []) (by simp)]
    simp only [putR, okV, Int.zero_add]
    exact he.symm
  | x :: xs, h => by
    have h0 := asc_cons.1 h
    rw [putR]
    split
    · rename_i h1
      rw [valT_cons (asc_ne h), if_pos h1]
      rfl
    · rename_i h1
      rw [valT_cons (asc_ne h), if_neg h1]
      split
      · rename_i h2
        rw [valT_none (L := xs) (fun y hy hyc => by
          have := befB_trans h2 (h0.1 y hy)
          rw [hyc, befB_irr] at this
          cases this)]
        simp only [okV, Int.zero_add]
        exact he.symm
      · exact putR_fit e he h0.2
theorem putR_all {p : EntT → Prop} (e : EntT) (he : p e) (hp : ∀ x, p x → x.cell = e.cell → countB (plusE x e) = true → zeroE (plusE x e) = false → p (plusE x e)) : ∀ {l : List EntT}, (∀ x ∈ l, p x) → (putR e l).2 = true → ∀ y ∈ (putR e l).1, p y
  | [], _, _, y, hy => by
    rw [putR, List.mem_singleton] at hy
    rw [hy]
    exact he
  | x :: xs, hl, hf, y, hy => by
    rw [putR] at hf hy
    split at hf
    · rename_i h1
      rw [if_pos h1] at hy
      dsimp only at hy hf
      split at hy
      · exact hl y (List.mem_cons_of_mem _ hy)
      · rename_i hz
        rcases List.mem_cons.1 hy with rfl | hy
        · exact hp x (hl x (by simp)) h1 hf (by simpa using hz)
        · exact hl y (List.mem_cons_of_mem _ hy)
    · rename_i h1
      rw [if_neg h1] at hy
      split at hf
      · rename_i h2
        rw [if_pos h2] at hy
        rcases List.mem_cons.1 hy with rfl | hy
        · exact he
        · exact hl y hy
      · rename_i h2
        rw [if_neg h2] at hy
        rcases List.mem_cons.1 hy with rfl | hy
        · exact hl y (by simp)
        · exact putR_all e he hp (fun z hz => hl z (List.mem_cons_of_mem _ hz)) hf y hy
def mulE (f : Int) (x : EntT) : EntT := (x.1, x.2.1, f * x.2.2.1, f * x.2.2.2)
def sumG (f : Int) : List EntT → List EntT → List EntT × Int
  | out, [] => if 1048576 < out.length then ([], 6) else (out, 0)
  | out, x :: b => if (putE out (mulE f x)).2 then sumG f (putE out (mulE f x)).1 b else ([], 2)
def rsumE (f : Int) (a b : List EntT) : List EntT × Int := if vE a && vE b then sumG f a b else ([], 1)
theorem mul_good {f : Int} (hf : f = 1 ∨ f = -1) {x : EntT} (h : goodB x = true) : goodB (mulE f x) = true := by
  rcases hf with rfl | rfl
  · have e : mulE 1 x = x := by simp [mulE]
    rw [e]
    exact h
  · have e : mulE (-1) x = (x.1, x.2.1, -x.2.2.1, -x.2.2.2) := by simp [mulE]
    rw [e]
    simp only [goodB, countB, szB, Bool.and_eq_true, decide_eq_true_eq, Bool.not_eq_true', Bool.and_eq_false_iff, decide_eq_false_iff_not] at h ⊢
    omega
theorem plus_good {e : EntT} (he : goodB e = true) (x : EntT) (_ : goodB x = true) (_ : x.cell = e.cell) (h1 : countB (plusE x e) = true) (h2 : zeroE (plusE x e) = false) : goodB (plusE x e) = true := by
  simp only [goodB, Bool.and_eq_true] at he ⊢
  refine ⟨⟨⟨h1, ?_⟩, he.1.2⟩, he.2⟩
  rw [Bool.not_eq_true']
  exact h2
theorem good_zero {x : EntT} (h : goodB x = true) : zeroE x = false := by
  simp only [goodB, Bool.and_eq_true, Bool.not_eq_true'] at h
  exact h.1.1.2
theorem good_count {x : EntT} (h : goodB x = true) : countB x = true := by
  simp only [goodB, Bool.and_eq_true] at h
  exact h.1.1.1
theorem put_all {f : Int} (hf : f = 1 ∨ f = -1) {out : List EntT} {x : EntT} (ho : ∀ y ∈ out, goodB y = true) (hx : goodB x = true) (hk : (putE out (mulE f x)).2 = true) : ∀ y ∈ (putE out (mulE f x)).1, goodB y = true := by
  rw [putE_R] at hk ⊢
  exact putR_all (p := fun y => goodB y = true) _ (mul_good hf hx) (plus_good (mul_good hf hx)) ho hk
theorem sumG_spec {f : Int} (hf : f = 1 ∨ f = -1) : ∀ (b out : List EntT), asc out → (∀ y ∈ out, goodB y = true) → asc b → (∀ y ∈ b, goodB y = true) →
    ((∀ e ∈ b, okV (sumV f out b e.cell) = true) → ∃ L, Rep (sumV f out b) L ∧ sumG f out b = if 1048576 < L.length then ([], 6) else (L, 0)) ∧ ((∃ e ∈ b, okV (sumV f out b e.cell) = false) → sumG f out b = ([], 2))
  | [], out, ho, hg, _, _ => by
    refine ⟨fun _ => ⟨out, ?_, rfl⟩, fun ⟨e, he, _⟩ => by cases he⟩
    refine (rep_asc ho fun e he => good_zero (hg e he)).congr fun c => ?_
    unfold sumV
    rw [valT_none (L := []) (by simp)]
    simp
  | x :: b, out, ho, hg, hb, hgb => by
    have hb0 := asc_cons.1 hb
    have hxg := hgb x (by simp)
    have hmg := mul_good hf hxg
    have hnb := asc_ne hb
    have hbx : ∀ y ∈ b, y.cell ≠ x.cell := fun y hy hyc => by
      have := hb0.1 y hy
      rw [hyc, befB_irr] at this
      cases this
    have hx0 : valT b x.cell = (0, 0) := valT_none hbx
    have hfit := putR_fit (mulE f x) (good_count hmg) ho
    have hsx : sumV f out (x :: b) x.cell = ((valT out (mulE f x).cell).1 + (mulE f x).2.2.1, (valT out (mulE f x).cell).2 + (mulE f x).2.2.2) := by
      unfold sumV
      rw [valT_cons hnb, if_pos rfl]
      rfl
    rw [← hsx] at hfit
    have hstep : sumG f out (x :: b) = if (putE out (mulE f x)).2 then sumG f (putE out (mulE f x)).1 b else ([], 2) := rfl
    have hval : ∀ c, sumV f (putR (mulE f x) out).1 b c = sumV f out (x :: b) c := by
      intro c
      unfold sumV
      rw [putR_val _ _ ho, valT_cons hnb]
      by_cases hc : c = x.cell
      · rw [if_pos (show c = (mulE f x).cell from hc), if_pos hc.symm, hc, hx0]
        simp [mulE]
      · rw [if_neg (show ¬ c = (mulE f x).cell from hc), if_neg (fun h => hc h.symm)]
    rw [hstep, putE_R]
    cases hk : okV (sumV f out (x :: b) x.cell) with
    | false =>
      rw [hk] at hfit
      rw [hfit]
      refine ⟨fun h => ?_, fun _ => rfl⟩
      rw [h x (by simp)] at hk
      cases hk
    | true =>
      rw [hk] at hfit
      rw [hfit, if_pos rfl]
      have hall := put_all hf hg hxg (by rw [putE_R]; exact hfit)
      rw [putE_R] at hall
      obtain ⟨i1, i2⟩ := sumG_spec hf b (putR (mulE f x) out).1 (putR_asc _ ho) hall hb0.2 (fun y hy => hgb y (List.mem_cons_of_mem _ hy))
      refine ⟨fun h => ?_, fun ⟨e, he, hne⟩ => ?_⟩
      · obtain ⟨L, hL, hr⟩ := i1 fun e he => by
          rw [hval]
          exact h e (List.mem_cons_of_mem _ he)
        exact ⟨L, hL.congr fun c => (hval c), hr⟩
      · refine i2 ?_
        rcases List.mem_cons.1 he with rfl | he
        · rw [hk] at hne
          cases hne
        · exact ⟨e, he, by rw [hval]; exact hne⟩
theorem rsum_eq {f : Int} (hf : f = 1 ∨ f = -1) (a b : List EntT) : rsumE f a b = combE f a b := by
  unfold rsumE
  cases ha : vE a with
  | false =>
    rw [comb_inv ha]
    rfl
  | true =>
  cases hb : vE b with
  | false =>
    unfold combE
    rw [ha, hb]
    rfl
  | true =>
  rw [comb_def ha hb]
  have hr := rep_comb f ha hb
  obtain ⟨i1, i2⟩ := sumG_spec hf b a (vE_pairwise ha) (fun y hy => vE_good ha hy) (vE_pairwise hb) (fun y hy => vE_good hb hy)
  have hmem : ∀ e, e ∈ lstF (combL f a b) ↔ zeroE e = false ∧ sumV f a b e.cell = (e.2.2.1, e.2.2.2) := hr.2
  show sumG f a b = _
  by_cases hall : ∀ e ∈ b, okV (sumV f a b e.cell) = true
  · obtain ⟨L, hL, hs⟩ := i1 hall
    have e := hL.unique hr fun _ => rfl
    rw [hs, e]
    have hany : ((lstF (combL f a b)).any fun e => !countB e) = false := by
      rw [List.any_eq_false]
      intro y hy
      obtain ⟨hz, hv⟩ := (hmem y).1 hy
      have h1 : okV (sumV f a b y.cell) = countB y := by
        rw [hv]
        rfl
      rw [← h1]
      rcases getT_mem (L := b) (c := y.cell) with ⟨h2, h3⟩ | ⟨_, h3⟩
      · rw [← h3, hall _ h2]
        simp
      · have h4 : sumV f a b y.cell = valT a y.cell := by
          unfold sumV
          rw [valT_none h3]
          simp
        rw [h4]
        rcases getT_mem (L := a) (c := y.cell) with ⟨h5, h6⟩ | ⟨_, h6⟩
        · have := good_count (vE_good ha h5)
          have h7 : okV (valT a y.cell) = countB (getT a y.cell) := rfl
          rw [h7, this]
          simp
        · rw [valT_none h6]
          decide
    rw [hany]
    rfl
  · have hex : ∃ e ∈ b, okV (sumV f a b e.cell) = false := by
      apply Classical.byContradiction
      intro hne
      apply hall
      intro e he
      cases h : okV (sumV f a b e.cell) with
      | true => rfl
      | false => exact (hne ⟨e, he, h⟩).elim
    rw [i2 hex]
    obtain ⟨e, he, hk⟩ := hex
    have hz : ((lstF (combL f a b)).any fun e => !countB e) = true := by
      rw [List.any_eq_true]
      refine ⟨(e.1, e.2.1, (sumV f a b e.cell).1, (sumV f a b e.cell).2), (hmem _).2 ⟨?_, rfl⟩, ?_⟩
      · cases h0 : zeroE (e.1, e.2.1, (sumV f a b e.cell).1, (sumV f a b e.cell).2) with
        | false => rfl
        | true =>
          simp only [zeroE, Bool.and_eq_true, decide_eq_true_eq] at h0
          rw [okV, h0.1, h0.2] at hk
          exact absurd hk (by decide)
      · have : countB (e.1, e.2.1, (sumV f a b e.cell).1, (sumV f a b e.cell).2) = okV (sumV f a b e.cell) := rfl
        rw [this, hk]
        rfl
    rw [hz, if_pos rfl]
end Go.Proofs.YtadichckbogcjaaGreatDoor.En
end
section
namespace Go.Proofs.YtadichckbogcjaaGreatDoor.En
open Go.RowKit
set_option maxRecDepth 100000
theorem abs4_x (n : Int) (h : -1000000000000 ≤ n ∧ n ≤ 1000000000000) : PureX Tryz.prog 171 [I n] (I (n.natAbs : Nat)) := by
  refine PureX.of Tryz.func171 rfl tabOk rfl rfl rfl (by simp [SV.wfs, SV.wf]) (by simp [SV.wfs, SV.wf]) fun w => ?_
  (conv=>whnf);repeat' (first|((with_reducible refine isW ?_;first|refine xwr_ok (by omega) (by omega) ?_|refine xwr_raw ?_);conv=>whnf)|with_reducible exact rfl|((with_reducible first|refine xif_kt (by assumption) ?_|refine xif_kf (by assumption) ?_);conv=>whnf)|((with_reducible refine xif_s ?_ ?_)<;>(intro hb;(try simp (disch:=omega) only [hbS] at hb)<;>conv=>whnf)))
  all_goals exact Fin_pure rfl (I_eq (by omega)) trivial
set_option maxHeartbeats 2000000 in
theorem gcd4_x (a b c : Nat) (ha : a ≤ 1000000000000) (hb0 : b ≤ 1000000000000) (hc : c ≤ 1000000000000) : PureX Tryz.prog 170 [I a, I b, I c] (I (Nat.gcd (Nat.gcd a b) c : Nat)) := by
  generalize hK1 : Nat.gcd a b = K1
  generalize hK : Nat.gcd K1 c = K
  have hb1 : K1 ≤ 1000000000000 := by
    rw [← hK1]
    rcases Nat.eq_zero_or_pos a with h | h
    · rw [h, Nat.gcd_zero_left]; omega
    · have := Nat.gcd_le_left b h; omega
  refine PureX.of Tryz.func170 rfl tabOk rfl rfl rfl (by simp [SV.wfs, SV.wf]) (by simp [SV.wfs, SV.wf]) fun w => ?_
  (conv=>whnf);repeat' (first|((with_reducible refine isR ?_;first|refine xrem_nn (by omega) (by omega) ?_|refine xrem_raw (by omega) ?_);conv=>whnf)|((with_reducible refine need_i ?_ ?_)<;>first|omega|conv=>whnf)|with_reducible exact rfl|((with_reducible first|refine xif_kt (by assumption) ?_|refine xif_kf (by assumption) ?_);conv=>whnf)|((with_reducible refine xif_s ?_ ?_)<;>(intro hb;(try simp (disch:=omega) only [hbS] at hb)<;>conv=>whnf)))
  refine LoopX_inv tabOk (α := Nat × Nat) (fun s => (s.1 ≤ 1000000000000 ∧ s.2 ≤ 1000000000000) ∧ Nat.gcd s.1 s.2 = K1) (fun s => [(0, I s.1), (1, I s.2), (2, I c)]) (fun _ => []) (fun s => s.2) (a, b) [] ⟨by dsimp only; omega, hK1⟩ ?_ ?_
  · ((refine ⟨?_, ?_, ?_, ?_⟩) <;> (repeat' ((conv => whnf); apply And.intro)) <;> (try (first | exact trivial | decide)))
    all_goals first | rfl | exact fun _ _ h => h | simp [SV.wf, SV.wfs]
  · rintro ⟨g, n⟩ ⟨hj, hgk⟩
    dsimp only at hj hgk ⊢
    by_cases hn : n = 0
    · subst hn
      rw [Nat.gcd_zero_right] at hgk
      subst hgk
      (conv=>whnf);repeat' (first|((with_reducible refine isR ?_;first|refine xrem_nn (by omega) (by omega) ?_|refine xrem_raw (by omega) ?_);conv=>whnf)|((with_reducible refine need_i ?_ ?_)<;>first|omega|conv=>whnf)|with_reducible exact rfl|((with_reducible first|refine xif_kt (by assumption) ?_|refine xif_kf (by assumption) ?_);conv=>whnf)|((with_reducible refine xif_s ?_ ?_)<;>(intro hb;(try simp (disch:=omega) only [hbS] at hb)<;>conv=>whnf)))
      all_goals try (exfalso; omega)
      refine LoopX_inv tabOk (α := Nat × Nat) (fun s => (s.1 ≤ 1000000000000 ∧ s.2 ≤ 1000000000000) ∧ Nat.gcd s.1 s.2 = K) (fun s => [(0, I s.1), (2, I s.2)]) (fun _ => []) (fun s => s.2) (g, c) [] ⟨by dsimp only; omega, hK⟩ ?_ ?_
      · ((refine ⟨?_, ?_, ?_, ?_⟩) <;> (repeat' ((conv => whnf); apply And.intro)) <;> (try (first | exact trivial | decide)))
        all_goals first | rfl | exact fun _ _ h => h | simp [SV.wf, SV.wfs]
      · rintro ⟨g2, m⟩ ⟨hj2, hgk2⟩
        dsimp only at hj2 hgk2 ⊢
        by_cases hm : m = 0
        · subst hm
          rw [Nat.gcd_zero_right] at hgk2
          (conv=>whnf);repeat' (first|((with_reducible refine isR ?_;first|refine xrem_nn (by omega) (by omega) ?_|refine xrem_raw (by omega) ?_);conv=>whnf)|((with_reducible refine need_i ?_ ?_)<;>first|omega|conv=>whnf)|with_reducible exact rfl|((with_reducible first|refine xif_kt (by assumption) ?_|refine xif_kf (by assumption) ?_);conv=>whnf)|((with_reducible refine xif_s ?_ ?_)<;>(intro hb;(try simp (disch:=omega) only [hbS] at hb)<;>conv=>whnf)))
          all_goals try (exfalso; omega)
          exact Fin_pure rfl (I_eq (by omega)) trivial
        · have hr2 := Nat.mod_lt g2 (show m > 0 by omega)
          have e : (g2 : Int) % (m : Int) = ((g2 % m : Nat) : Int) := rfl
          (conv=>whnf);repeat' (first|((with_reducible refine isR ?_;first|refine xrem_nn (by omega) (by omega) ?_|refine xrem_raw (by omega) ?_);conv=>whnf)|((with_reducible refine need_i ?_ ?_)<;>first|omega|conv=>whnf)|with_reducible exact rfl|((with_reducible first|refine xif_kt (by assumption) ?_|refine xif_kf (by assumption) ?_);conv=>whnf)|((with_reducible refine xif_s ?_ ?_)<;>(intro hb;(try simp (disch:=omega) only [hbS] at hb)<;>conv=>whnf)))
          all_goals try (exfalso; omega)
          refine ⟨(m, g2 % m), [], ⟨by dsimp only; omega, ?_⟩, ?_, by (try dsimp only); omega⟩
          · dsimp only
            rw [← hgk2, Nat.gcd_comm g2 m, Nat.gcd_rec m g2, Nat.gcd_comm]
          · ((refine ⟨?_, ?_, ?_, ?_⟩) <;> (repeat' ((conv => whnf); apply And.intro)) <;> (try (first | exact trivial | decide)))
            all_goals first | rfl | exact fun _ _ h => h | simp [SV.wf, SV.wfs]
    · have hr2 := Nat.mod_lt g (show n > 0 by omega)
      have e : (g : Int) % (n : Int) = ((g % n : Nat) : Int) := rfl
      (conv=>whnf);repeat' (first|((with_reducible refine isR ?_;first|refine xrem_nn (by omega) (by omega) ?_|refine xrem_raw (by omega) ?_);conv=>whnf)|((with_reducible refine need_i ?_ ?_)<;>first|omega|conv=>whnf)|with_reducible exact rfl|((with_reducible first|refine xif_kt (by assumption) ?_|refine xif_kf (by assumption) ?_);conv=>whnf)|((with_reducible refine xif_s ?_ ?_)<;>(intro hb;(try simp (disch:=omega) only [hbS] at hb)<;>conv=>whnf)))
      all_goals try (exfalso; omega)
      refine ⟨(n, g % n), [], ⟨by dsimp only; omega, ?_⟩, ?_, by (try dsimp only); omega⟩
      · dsimp only
        rw [← hgk, Nat.gcd_comm g n, Nat.gcd_rec n g, Nat.gcd_comm]
      · ((refine ⟨?_, ?_, ?_, ?_⟩) <;> (repeat' ((conv => whnf); apply And.intro)) <;> (try (first | exact trivial | decide)))
        all_goals first | rfl | exact fun _ _ h => h | simp [SV.wf, SV.wfs]
theorem low4_x (x y d : Int) (hx : -1000000000000 ≤ x ∧ x ≤ 1000000000000) (hy : -1000000000000 ≤ y ∧ y ≤ 1000000000000) (hd : 1 ≤ d ∧ d ≤ 1000000000000) : PureX Tryz.prog 146 [I x, I y, I d] (.a [I (lowF x y d).1, I (lowF x y d).2.1, I (lowF x y d).2.2]) := by
  have k1 := abs4_x x hx
  have k2 := abs4_x y hy
  have k3 : PureX Tryz.prog 171 [I d] (I (d.natAbs : Nat)) := abs4_x d (by omega)
  have kg := gcd4_x x.natAbs y.natAbs d.natAbs (by omega) (by omega) (by omega)
  have ed : ((d.natAbs : Nat) : Int) = d := by omega
  rw [ed] at kg
  have hg := gsI_pos x y d hd.1 2
  have e : ((Nat.gcd (Nat.gcd x.natAbs y.natAbs) d.natAbs : Nat) : Int) = gsI x y d 2 := by
    rw [Nat.gcd_comm (Nat.gcd x.natAbs y.natAbs), ← Nat.gcd_assoc]
    rfl
  rw [e] at kg
  have b1 := tdiv_le x (gsI x y d 2)
  have b2 := tdiv_le y (gsI x y d 2)
  unfold lowF
  generalize gsI x y d 2 = g at *
  refine PureX.of Tryz.func146 rfl tabOk rfl rfl rfl (by simp [SV.wfs, SV.wf]) (by simp [SV.wfs, SV.wf]) fun w => ?_
  (conv=>whnf);repeat' (first|((with_reducible refine isC ?_);first|((first|with_reducible refine CallX_pure (k1) ?_|with_reducible refine CallX_pure (k2) ?_|with_reducible refine CallX_pure (kg) ?_)<;>first|omega|with_reducible refine isP ?_|conv=>whnf))|((with_reducible refine isQ ?_;first|refine xquo_nn (by omega) (by omega) (by omega) ?_|refine xquo_ok (by omega) (by omega) (by omega) ?_|refine xquo_raw (by omega) ?_);conv=>whnf)|((with_reducible refine need_i ?_ ?_)<;>first|omega|conv=>whnf)|((first|refine DrawX_s tabOk folOk ?_|refine DrawS_i (by kernel_rfl) ?_|with_reducible refine andX_i ?_ ?_)<;>conv=>whnf)|with_reducible exact rfl|((with_reducible first|refine xif_kt (by assumption) ?_|refine xif_kf (by assumption) ?_);conv=>whnf)|((with_reducible refine xif_s ?_ ?_)<;>(intro hb;(try simp (disch:=omega) only [hbS] at hb)<;>conv=>whnf)))
  all_goals try (exfalso; omega)
  exact Fin_pure rfl rfl (by simp [SV.wf, SV.wfs])
set_option maxHeartbeats 1000000 in
theorem bVector_x (v : VecT) : PureX Tryz.prog 169 [.a [I v.1, I v.2.1, I v.2.2]] (B (vecB v)) := by
  have hsz := vecIn_sz v
  cases h : vecIn v with
  | true =>
    obtain ⟨q1, q2, q3⟩ := vec_sq h
    have h' := vecIn_iff.1 h
    rw [h] at hsz
    simp only [Bool.true_eq, Bool.and_eq_true, decide_eq_true_eq] at hsz
    obtain ⟨⟨_, s1⟩, s2⟩ := hsz
    refine PureX.of Tryz.func169 rfl tabOk rfl rfl rfl (by simp [SV.wfs, SV.wf]) (by simp [SV.wfs, SV.wf]) fun w => ?_
    (conv=>whnf);repeat' (first|((with_reducible refine isC ?_);first|((with_reducible refine CallX_pure (Size_x _ _ ?_ ?_) ?_)<;>first|omega|with_reducible refine isP ?_|conv=>whnf))|((with_reducible refine isW ?_;first|refine xwr_ok (by omega) (by omega) ?_|refine xwr_raw ?_);conv=>whnf)|with_reducible exact rfl|((with_reducible first|refine xif_kt (by assumption) ?_|refine xif_kf (by assumption) ?_);conv=>whnf)|((with_reducible refine xif_s ?_ ?_)<;>(intro hb;(try simp (disch:=omega) only [hbS] at hb)<;>conv=>whnf)))
    all_goals try (exfalso; omega)
    all_goals try exact (Bool.false_ne_true (hb.symm.trans s1)).elim
    all_goals try exact (Bool.false_ne_true (hb.symm.trans s2)).elim
    all_goals refine Fin_pure rfl (B_eq ?_) trivial
    all_goals simp [vecB, h]
    all_goals rfl
  | false =>
    have h' : ¬ (1 ≤ v.2.2 ∧ v.2.2 ≤ 67108864 ∧ szB v.1 v.2.2 = true ∧ szB v.2.1 v.2.2 = true) := by
      rintro ⟨a1, a2, a3, a4⟩
      rw [h] at hsz
      simp [a1, a2, a3, a4] at hsz
    refine PureX.of Tryz.func169 rfl tabOk rfl rfl rfl (by simp [SV.wfs, SV.wf]) (by simp [SV.wfs, SV.wf]) fun w => ?_
    (conv=>whnf);repeat' (first|((with_reducible refine isC ?_);first|((with_reducible refine CallX_pure (Size_x _ _ ?_ ?_) ?_)<;>first|omega|with_reducible refine isP ?_|conv=>whnf))|((with_reducible refine isW ?_;first|refine xwr_ok (by omega) (by omega) ?_|refine xwr_raw ?_);conv=>whnf)|with_reducible exact rfl|((with_reducible first|refine xif_kt (by assumption) ?_|refine xif_kf (by assumption) ?_);conv=>whnf)|((with_reducible refine xif_s ?_ ?_)<;>(intro hb;(try simp (disch:=omega) only [hbS] at hb)<;>conv=>whnf)))
    all_goals first
      | (refine Fin_pure rfl (B_eq ?_) trivial; simp [vecB, h]; done)
      | exact (h' ⟨by omega, by omega, by assumption, by assumption⟩).elim
theorem rvValid_x (v : VecT) : PureX Tryz.prog 145 [.a [I v.1, I v.2.1, I v.2.2]] (B (vecB v)) := by
  have h := bVector_x v
  refine PureX.of Tryz.func145 rfl tabOk rfl rfl rfl (by simp [SV.wfs, SV.wf]) (by simp [SV.wfs, SV.wf]) fun w => ?_
  (conv=>whnf);repeat' (first|((with_reducible refine isC ?_);first|((with_reducible refine CallX_pure (h) ?_)<;>first|omega|with_reducible refine isP ?_|conv=>whnf))|with_reducible exact rfl|((with_reducible first|refine xif_kt (by assumption) ?_|refine xif_kf (by assumption) ?_);conv=>whnf)|((with_reducible refine xif_s ?_ ?_)<;>(intro hb;(try simp (disch:=omega) only [hbS] at hb)<;>conv=>whnf)))
  exact Fin_pure rfl rfl trivial
theorem rTurn_x (a b : VecT) (ha : vecB a = true) (hb' : vecB b = true) (hD : a.2.2 * b.2.2 ≤ 67108864) : PureX Tryz.prog 111 [.a [I a.1, I a.2.1, I a.2.2], .a [I b.1, I b.2.1, I b.2.2]] (.t [.a [I (turnF a b).1, I (turnF a b).2.1, I (turnF a b).2.2], I 0]) := by
  obtain ⟨m1, m2, m3, m4, m5⟩ := turn_bd ha hb' hD
  have hl := low4_x (a.1 * b.1 - a.2.1 * b.2.1) (a.1 * b.2.1 + a.2.1 * b.1) (a.2.2 * b.2.2) (by omega) (by omega) (by omega)
  have hd : (turnF a b).2.2 ≤ 67108864 := by
    have hg := gsI_pos (a.1 * b.1 - a.2.1 * b.2.1) (a.1 * b.2.1 + a.2.1 * b.1) (a.2.2 * b.2.2) m5 2
    show (a.2.2 * b.2.2) / _ ≤ 67108864
    have := Int.ediv_le_self (gsI (a.1 * b.1 - a.2.1 * b.2.1) (a.1 * b.2.1 + a.2.1 * b.1) (a.2.2 * b.2.2) 2) (show 0 ≤ a.2.2 * b.2.2 by omega)
    omega
  have hl' : PureX Tryz.prog 146 [I (a.1 * b.1 - a.2.1 * b.2.1), I (a.1 * b.2.1 + a.2.1 * b.1), I (a.2.2 * b.2.2)] (.a [I (turnF a b).1, I (turnF a b).2.1, I (turnF a b).2.2]) := hl
  clear hl
  have hv1 := rvValid_x a
  have hv2 := rvValid_x b
  rw [ha] at hv1
  rw [hb'] at hv2
  generalize turnF a b = v at *
  refine PureX.of Tryz.func111 rfl tabOk rfl rfl rfl (by simp [SV.wfs, SV.wf]) (by simp [SV.wfs, SV.wf]) fun w => ?_
  (conv=>whnf);repeat' (first|((with_reducible refine isC ?_);first|((first|with_reducible refine CallX_pure (hv1) ?_|with_reducible refine CallX_pure (hv2) ?_|with_reducible refine CallX_pure (hl') ?_)<;>first|omega|with_reducible refine isP ?_|conv=>whnf))|((with_reducible refine isW ?_;first|refine xwr_ok (by omega) (by omega) ?_|refine xwr_raw ?_);conv=>whnf)|with_reducible exact rfl|((with_reducible first|refine xif_kt (by assumption) ?_|refine xif_kf (by assumption) ?_);conv=>whnf)|((with_reducible refine xif_s ?_ ?_)<;>(intro hb;(try simp (disch:=omega) only [hbS] at hb)<;>conv=>whnf)))
  all_goals try (exfalso; omega)
  exact Fin_pure rfl rfl (by simp [SV.wf, SV.wfs])
theorem rDir_x (h : Int) : PureX Tryz.prog 112 [I h] (.a [I (dirF h).1, I (dirF h).2.1, I (dirF h).2.2]) := by
  unfold dirF
  have hk0 : 0 ≤ h % 256 ∧ h % 256 < 256 := by omega
  have hk1 : 0 ≤ h % 256 % 64 ∧ h % 256 % 64 < 64 := by omega
  have hq1 : 0 ≤ h % 256 / 64 ∧ h % 256 / 64 < 4 := by omega
  have kk := mul_bd (a := h % 256 % 64) (b := h % 256 % 64) (A := 63) (B := 63) (by omega) (by omega)
  have kk0 : 0 ≤ (h % 256 % 64) * (h % 256 % 64) := Int.mul_nonneg hk1.1 hk1.1
  have hl := low4_x (4096 - (h % 256 % 64) * (h % 256 % 64)) (128 * (h % 256 % 64)) (4096 + (h % 256 % 64) * (h % 256 % 64)) (by omega) (by omega) (by omega)
  have b1 := tdiv_le (4096 - (h % 256 % 64) * (h % 256 % 64)) (gsI (4096 - (h % 256 % 64) * (h % 256 % 64)) (128 * (h % 256 % 64)) (4096 + (h % 256 % 64) * (h % 256 % 64)) 2)
  have b2 := tdiv_le (128 * (h % 256 % 64)) (gsI (4096 - (h % 256 % 64) * (h % 256 % 64)) (128 * (h % 256 % 64)) (4096 + (h % 256 % 64) * (h % 256 % 64)) 2)
  have b3 : (quF (h % 256 % 64)).1.natAbs ≤ 10000 ∧ (quF (h % 256 % 64)).2.1.natAbs ≤ 10000 := by
    show ((4096 - (h % 256 % 64) * (h % 256 % 64)).tdiv _).natAbs ≤ 10000 ∧ ((128 * (h % 256 % 64)).tdiv _).natAbs ≤ 10000
    omega
  have hl' : PureX Tryz.prog 146 [I (4096 - (h % 256 % 64) * (h % 256 % 64)), I (128 * (h % 256 % 64)), I (4096 + (h % 256 % 64) * (h % 256 % 64))] (.a [I (quF (h % 256 % 64)).1, I (quF (h % 256 % 64)).2.1, I (quF (h % 256 % 64)).2.2]) := hl
  clear hl b1 b2
  generalize quF (h % 256 % 64) = v at *
  refine PureX.of Tryz.func112 rfl tabOk rfl rfl rfl (by simp [SV.wfs, SV.wf]) (by simp [SV.wfs, SV.wf]) fun w => ?_
  (conv=>whnf);repeat' (first|((with_reducible refine isC ?_);first|((first|with_reducible refine CallX_pure (mod_x _ _ ?_ ?_) ?_|with_reducible refine CallX_pure (hl') ?_)<;>first|omega|with_reducible refine isP ?_|conv=>whnf))|((with_reducible refine isW ?_;first|refine xwr_ok (by omega) (by omega) ?_|refine xwr_raw ?_);conv=>whnf)|((with_reducible refine isQ ?_;first|refine xquo_nn (by omega) (by omega) (by omega) ?_|refine xquo_ok (by omega) (by omega) (by omega) ?_|refine xquo_raw (by omega) ?_);conv=>whnf)|((with_reducible refine isR ?_;first|refine xrem_nn (by omega) (by omega) ?_|refine xrem_raw (by omega) ?_);conv=>whnf)|((with_reducible refine need_i ?_ ?_)<;>first|omega|conv=>whnf)|with_reducible exact rfl|((with_reducible first|refine xif_kt (by assumption) ?_|refine xif_kf (by assumption) ?_);conv=>whnf)|((with_reducible refine xif_s ?_ ?_)<;>(intro hb;(try simp (disch:=omega) only [hbS] at hb)<;>conv=>whnf)))
  all_goals try (exfalso; omega)
  clear hl'
  generalize hH : h % 256 = H at *
  refine LoopX_inv tabOk (α := Nat) (fun i => (i : Int) ≤ H / 64) (fun i => [(0, I H), (2, .p 0 0), (4, .p 1 0), (5, I i)]) (fun i => [.box 100 [I 0, I 0, I 0], .box 100 [I (tX i v.1 v.2.1), I (tY i v.1 v.2.1), I v.2.2]]) (fun i => (H / 64).toNat - i) 0 [0, 1] (by omega) ?_ ?_
  · ((refine ⟨?_, ?_, ?_, ?_⟩) <;> (repeat' ((conv => whnf); apply And.intro)) <;> (try (first | exact trivial | decide)))
    all_goals first | rfl | exact fun _ _ h => h | (simp [tX, tY, SV.ren, SV.rens]; done) | (simp [SV.wf, SV.wfs]; done) | trace_state
  · intro i hi
    have tb := tXY_bd (q := (i : Int)) (x := v.1) (y := v.2.1) (m := 10000) (by omega)
    by_cases hlt : (i : Int) < H / 64
    · (conv=>whnf);repeat' (first|((with_reducible refine isW ?_;first|refine xwr_ok (by omega) (by omega) ?_|refine xwr_raw ?_);conv=>whnf)|((with_reducible refine isQ ?_;first|refine xquo_nn (by omega) (by omega) (by omega) ?_|refine xquo_ok (by omega) (by omega) (by omega) ?_|refine xquo_raw (by omega) ?_);conv=>whnf)|((with_reducible refine isR ?_;first|refine xrem_nn (by omega) (by omega) ?_|refine xrem_raw (by omega) ?_);conv=>whnf)|((with_reducible refine need_i ?_ ?_)<;>first|omega|conv=>whnf)|with_reducible exact rfl|((with_reducible first|refine xif_kt (by assumption) ?_|refine xif_kf (by assumption) ?_);conv=>whnf)|((with_reducible refine xif_s ?_ ?_)<;>(intro hb;(try simp (disch:=omega) only [hbS] at hb)<;>conv=>whnf)))
      all_goals try (exfalso; omega)
      refine ⟨i + 1, [0, 1], by omega, ?_, by (try dsimp only); omega⟩
      have e : tX ((i + 1 : Nat) : Int) v.1 v.2.1 = 0 - tY i v.1 v.2.1 ∧ tY ((i + 1 : Nat) : Int) v.1 v.2.1 = tX i v.1 v.2.1 := by
        rcases (by omega : i = 0 ∨ i = 1 ∨ i = 2) with rfl | rfl | rfl <;> simp [tX, tY] <;> omega
      dsimp only
      rw [e.1, e.2]
      ((refine ⟨?_, ?_, ?_, ?_⟩) <;> (repeat' ((conv => whnf); apply And.intro)) <;> (try (first | exact trivial | decide)))
      all_goals first | rfl | exact fun _ _ h => h | exact I_eq (by simp) | (simp [SV.wf, SV.wfs]; done) | trace_state
    · obtain hq : (i : Int) = H / 64 := by omega
      (conv=>whnf);repeat' (first|((with_reducible refine isW ?_;first|refine xwr_ok (by omega) (by omega) ?_|refine xwr_raw ?_);conv=>whnf)|((with_reducible refine isQ ?_;first|refine xquo_nn (by omega) (by omega) (by omega) ?_|refine xquo_ok (by omega) (by omega) (by omega) ?_|refine xquo_raw (by omega) ?_);conv=>whnf)|((with_reducible refine isR ?_;first|refine xrem_nn (by omega) (by omega) ?_|refine xrem_raw (by omega) ?_);conv=>whnf)|((with_reducible refine need_i ?_ ?_)<;>first|omega|conv=>whnf)|with_reducible exact rfl|((with_reducible first|refine xif_kt (by assumption) ?_|refine xif_kf (by assumption) ?_);conv=>whnf)|((with_reducible refine xif_s ?_ ?_)<;>(intro hb;(try simp (disch:=omega) only [hbS] at hb)<;>conv=>whnf)))
      all_goals try (exfalso; omega)
      rw [hq]
      exact Fin_pure rfl rfl (by simp [SV.wf, SV.wfs])
theorem rvBeam_x (h m : Int) : PureX Tryz.prog 66 [I h, I m] (.a [I (beamF h m).1, I (beamF h m).2.1, I (beamF h m).2.2]) := by
  have hd1 := rDir_x h
  have hd2 := rDir_x m
  have ht := rTurn_x (dirF h) (dirF m) (dir_ok h).1 (dir_ok m).1 (dir_prod h m)
  unfold beamF
  generalize turnF (dirF h) (dirF m) = v at *
  generalize dirF h = a at *
  generalize dirF m = b at *
  refine PureX.of Tryz.func66 rfl tabOk rfl rfl rfl (by simp [SV.wfs, SV.wf]) (by simp [SV.wfs, SV.wf]) fun w => ?_
  (conv=>whnf);repeat' (first|((with_reducible refine isC ?_);first|((first|with_reducible refine CallX_pure (hd1) ?_|with_reducible refine CallX_pure (hd2) ?_|with_reducible refine CallX_pure (ht) ?_)<;>first|omega|with_reducible refine isP ?_|conv=>whnf))|with_reducible exact rfl|((with_reducible first|refine xif_kt (by assumption) ?_|refine xif_kf (by assumption) ?_);conv=>whnf)|((with_reducible refine xif_s ?_ ?_)<;>(intro hb;(try simp (disch:=omega) only [hbS] at hb)<;>conv=>whnf)))
  exact Fin_pure rfl rfl (by simp [SV.wf, SV.wfs])
end Go.Proofs.YtadichckbogcjaaGreatDoor.En
end
