import Derived.Test.YtadichckbogcjaaGreatDoorZToolsFirst10
import Derived.Test.YtadichckbogcjaaGreatDoorLySortE
set_option linter.all false
section
namespace Go.Proofs.YtadichckbogcjaaGreatDoor.En
open Go.RowKit Go.Sort
set_option maxRecDepth 100000
theorem cell_swo : SWO (ltOf fun x y : EntT => cellI x.cell y.cell) := by
  have key : ∀ x y : EntT, ltOf (fun x y : EntT => cellI x.cell y.cell) x y = befB x.cell y.cell := by
    intro x y
    rw [Bool.eq_iff_iff]
    simp only [ltOf, decide_eq_true_eq]
    exact cellI_neg _ _
  refine ⟨fun x => ?_, fun x y z h1 h2 => ?_, fun x y z h1 h2 => ?_⟩
  · rw [key, befB_irr]
  · rw [key] at *
    exact befB_trans h1 h2
  · rw [key] at *
    rw [befB_false] at *
    omega
theorem CallX_sortE {C : Ctx} {ob : List OB} {k : SV → List OB → Prop} (hP : C.P = Tryz.prog) {g : Nat} (hen : Entr Tryz.prog g) (hg : ∀ a b : EntT, PureD Tryz.prog g [.a [I a.1, I a.2.1, I a.2.2.1, I a.2.2.2], .a [I b.1, I b.2.1, I b.2.2.1, I b.2.2.2]] (I (cellI a.cell b.cell))) (j : Nat) (xs : List EntT) {A : Option Addr} {n c e : Nat} (hj : nth ob j = some (.row e 4 A n c (xs.map encE))) (hx : xs.length = n) (hn : n < 4611686018427387904)
    (hk : ∀ ys : List EntT, ys.Perm xs → (∀ i k, i < k → k < n → befB (ys.getD k e0).cell (ys.getD i e0).cell = false) → force (setN ob j (.row e 4 A n c (ys.map encE))) fun ob => k (.t []) ob) :
    CallX C 105 [.v (.slice A n c), .fn g []] ob k := by
  obtain ⟨P, T, nn, w0, M, m, π, d⟩ := C
  simp only at hP
  subst hP
  refine CallX_sortK (ρ := SortE_ren) SortE (by decide) encE (fun _ => rfl) (fun x v hv => by
    simp [encE] at hv
    rcases hv with rfl | rfl | rfl | rfl <;> rfl) Tryz.isAgg34 Tryz.sizeOf34 (fun x y => cellI x.cell y.cell) cell_swo g (fun args w => by
      have h := hen
      unfold Entr at h
      exact h args w) (fun W x y => ?_) (Entr.of Tryz.func105 rfl rfl) j xs hj hx hn ?_
  · refine ((hg x y).2.2 (fun _ => 0) W).mono ?_
    rintro en w' ⟨rfl, hb, hdr⟩
    obtain ⟨q, os', h⟩ := grow_of_below hb hdr
    exact ⟨rfl, q, os', h⟩
  · intro ys hp hs
    refine hk ys hp fun i k' h1 h2 => ?_
    have := hs i k' h1 h2
    simp only [ltOf, decide_eq_false_iff_not] at this
    rw [cellI_neg] at this
    exact Bool.eq_false_iff.2 this
def imgE (f : FrT) (e : EntT) : EntT := ((cellR f e.cell).1.1, (cellR f e.cell).1.2, e.2.2.1, e.2.2.2)
def errsF (f : FrT) (l : List EntT) : List Int := l.map fun e => (cellR f e.cell).2
def okF (f : FrT) (l : List EntT) : Bool := szB f.2.1 8192 && szB f.2.2 8192 && vE l
def codeF (f : FrT) (l : List EntT) : Int := if okF f l then orI (errsF f l) else 1
def asc (l : List EntT) : Prop := l.Pairwise fun a b => befB a.cell b.cell = true
def IsOut (f : FrT) (l ys : List EntT) : Prop := if codeF f l = 0 then ys.Perm (l.map (imgE f)) ∧ asc ys else ys = []
theorem IsOut.unique {f : FrT} {l ys zs : List EntT} (h1 : IsOut f l ys) (h2 : IsOut f l zs) : ys = zs := by
  unfold IsOut at *
  split at h1
  · rename_i h
    rw [if_pos h] at h2
    exact asc_unique h1.2 h2.2 (h1.1.trans h2.1.symm)
  · rename_i h
    rw [if_neg h] at h2
    rw [h1, h2]
theorem asc_of_sorted {xs ys : List EntT} (hp : ys.Perm xs) (hs : ∀ i k, i < k → k < ys.length → befB (ys.getD k e0).cell (ys.getD i e0).cell = false) (hne : xs.Pairwise fun a b => a.cell ≠ b.cell) : asc ys := by
  have hne' : ys.Pairwise fun a b => a.cell ≠ b.cell := (hp.pairwise_iff (fun {a b} h => h.symm)).2 hne
  unfold asc
  rw [List.pairwise_iff_getElem] at hne' ⊢
  intro i j hi hj hij
  have h1 := hs i j hij hj
  simp only [List.getD_eq_getElem?_getD, List.getElem?_eq_getElem hi, List.getElem?_eq_getElem hj, Option.getD_some] at h1
  cases h2 : befB ys[i].cell ys[j].cell with
  | true => rfl
  | false => exact (hne' i j hi hj hij (befB_total h2 h1)).elim
theorem asc_vE {l : List EntT} (h : asc l) (hg : ∀ e ∈ l, goodB e = true) (hn : l.length ≤ 1048576) : vE l = true := by
  rw [vE_end]
  · simpa using hn
  · intro j hj
    unfold asc at h
    rw [List.pairwise_iff_getElem] at h
    have h1 := hg l[j] (List.getElem_mem hj)
    have e1 : l.getD j e0 = l[j] := by simp [hj]
    simp only [okAt, e1, h1, Bool.true_and]
    by_cases h0 : j = 0
    · simp [h0]
    · have := h (j - 1) j (by omega) hj (by omega)
      have e2 : l.getD (j - 1) e0 = l[j - 1] := by simp [show j - 1 < l.length by omega]
      rw [e2, this, Bool.or_true]
end Go.Proofs.YtadichckbogcjaaGreatDoor.En
namespace Go.Proofs.YtadichckbogcjaaGreatDoor.En
open Go.RowKit Go.Sort
set_option maxRecDepth 100000
theorem CallX_args {C : Ctx} {f : FuncId} {args : List SV} (args' : List SV) {ob : List OB} {k : SV → List OB → Prop} (he : ∀ σ, SV.vals σ args = SV.vals σ args') (h : CallX C f args' ob k) : CallX C f args ob k := by
  unfold CallX at *
  refine ⟨h.1, fun σ fp w hm => ?_⟩
  rw [he σ]
  exact h.2 σ fp w hm
end Go.Proofs.YtadichckbogcjaaGreatDoor.En
end
section
namespace Go.Proofs.YtadichckbogcjaaGreatDoor.En
open Go.RowKit
set_option maxRecDepth 100000
def addT (L : List EntT) (c : CellT) (h p : Int) : List EntT := setT L (c.1, c.2, (getT L c).2.2.1 + h, (getT L c).2.2.2 + p)
theorem add_m (b : Nat) (L : List EntT) (c : CellT) (h p : Int) (h1 : -4611686018427387904 ≤ (getT L c).2.2.1 + h ∧ (getT L c).2.2.1 + h ≤ 4611686018427387904) (h2 : -4611686018427387904 ≤ (getT L c).2.2.2 + p ∧ (getT L c).2.2.2 + p ≤ 4611686018427387904) :
    CallM Tryz.prog 57 [.v (.map (some b)), .a [I c.1, I c.2], I h, I p] (fun _ _ => True) [talO b L] (fun _ : Unit => .t []) (fun _ => [talO b (addT L c h p)]) := by
  refine CallM.of (m := 1) Tryz.func57 rfl tabOk rfl rfl rfl rfl (by simp [SV.wfs, SV.wf]) fun w M π _ => ?_
  (conv=>whnf);repeat' (first|((with_reducible refine isV ?_);first|(refine ValX_lookT (c := c) 0 rfl rfl rfl ?_; conv => whnf))|((with_reducible refine isO ?_);first|(refine OpX_updT (e := (c.1, c.2, (getT L c).2.2.1 + h, (getT L c).2.2.2 + p)) 0 rfl rfl rfl ?_; conv => whnf))|((with_reducible refine isW ?_;first|refine xwr_ok (by omega) (by omega) ?_|refine xwr_raw ?_);conv=>whnf)|with_reducible exact rfl|((with_reducible first|refine xif_kt (by assumption) ?_|refine xif_kf (by assumption) ?_);conv=>whnf)|((with_reducible refine xif_s ?_ ?_)<;>(intro hb;(try simp (disch:=omega) only [hbS] at hb)<;>conv=>whnf)))
  exact Fin_m () [0] ⟨rfl, by simp [SV.wf, SV.wfs]⟩ ⟨fun _ _ h => h, trivial⟩ (by decide) rfl
def zeroE (e : EntT) : Bool := decide (e.2.2.1 = 0) && decide (e.2.2.2 = 0)
theorem list1_x (e : EntT) : PureX Tryz.prog 104 [.a [I e.1, I e.2.1, I e.2.2.1, I e.2.2.2]] (B (zeroE e)) := by
  refine PureX.of Tryz.func104 rfl tabOk rfl rfl rfl (by simp [SV.wfs, SV.wf]) (by simp [SV.wfs, SV.wf]) fun w => ?_
  (conv=>whnf);repeat' (first|with_reducible exact rfl|((with_reducible first|refine xif_kt (by assumption) ?_|refine xif_kf (by assumption) ?_);conv=>whnf)|((with_reducible refine xif_s ?_ ?_)<;>(intro hb;(try simp (disch:=omega) only [hbS] at hb)<;>conv=>whnf)))
  all_goals refine Fin_pure rfl ?_ trivial
  all_goals
    simp [zeroE, hb]
    try rfl
theorem list2_d (a b : EntT) : PureD Tryz.prog 106 [.a [I a.1, I a.2.1, I a.2.2.1, I a.2.2.2], .a [I b.1, I b.2.1, I b.2.2.1, I b.2.2.2]] (I (cellI a.cell b.cell)) := by
  refine PureD.of Tryz.func106 rfl tabOk rfl rfl rfl (by simp [SV.wfs, SV.wf]) (by simp [SV.wfs, SV.wf]) fun w => ?_
  (conv=>whnf);repeat' (first|((with_reducible refine isC ?_);first|((with_reducible refine CallX_d (compare_d (_, _) (_, _)) ?_)<;>first|omega|with_reducible refine isP ?_|conv=>whnf))|with_reducible exact rfl|((with_reducible first|refine xif_kt (by assumption) ?_|refine xif_kf (by assumption) ?_);conv=>whnf)|((with_reducible refine xif_s ?_ ?_)<;>(intro hb;(try simp (disch:=omega) only [hbS] at hb)<;>conv=>whnf)))
  exact Fin_d rfl rfl rfl trivial
def idxF {α : Type} (p : α → Bool) (l : List α) : Int := match l.findIdx? p with
  | some i => (i : Int)
  | none => -1
theorem idxF_at {α : Type} {p : α → Bool} {l : List α} {d : α} {k : Nat} (hk : k < l.length) (h : ∀ j, j < k → p (l.getD j d) = false) (hp : p (l.getD k d) = true) : idxF p l = k := by
  have : l.findIdx? p = some k := by
    rw [List.findIdx?_eq_some_iff_getElem]
    refine ⟨hk, by simpa [hk] using hp, fun j hj => ?_⟩
    have := h j hj
    simpa [show j < l.length by omega] using this
  simp [idxF, this]
theorem idxF_none {α : Type} {p : α → Bool} {l : List α} {d : α} (h : ∀ j, j < l.length → p (l.getD j d) = false) : idxF p l = -1 := by
  have : l.findIdx? p = none := by
    rw [List.findIdx?_eq_none_iff]
    intro x hx
    obtain ⟨i, hi, rfl⟩ := List.getElem_of_mem hx
    have := h i hi
    simpa [hi] using this
  simp [idxF, this]
theorem IndexFuncE_w (g : Nat) (p : EntT → Bool) (hg : ∀ e : EntT, PureX Tryz.prog g [.a [I e.1, I e.2.1, I e.2.2.1, I e.2.2.2]] (B (p e))) (A : Option Addr) (c : Nat) (l : List EntT) {n : Nat} (hl : l.length = n) (hn : n ≤ 1000000000) :
    CallW Tryz.prog 141 [.v (.slice A n c), .v (.func (.func g) #[] #[])] (fun w => ArgSl w A n 4 (l.map encE)) (I (idxF p l)) := by
  refine CallW.of Tryz.func141 rfl tabOk rfl rfl rfl (by simp [SV.wfs, SV.wf]) (by simp [SV.wfs, SV.wf]) fun w hpre => ?_
  (conv=>whnf);repeat' (first|((with_reducible refine isW ?_;first|refine xwr_ok (by omega) (by omega) ?_|refine xwr_raw ?_);conv=>whnf)|with_reducible exact rfl|((with_reducible first|refine xif_kt (by assumption) ?_|refine xif_kf (by assumption) ?_);conv=>whnf)|((with_reducible refine xif_s ?_ ?_)<;>(intro hb;(try simp (disch:=omega) only [hbS] at hb)<;>conv=>whnf)))
  refine LoopX_inv tabOk (α := Nat) (fun k => k ≤ n ∧ ∀ j, j < k → p (l.getD j e0) = false) (fun k => [(0, .v (.slice A n c)), (1, .v (.func (.func g) #[] #[])), (7, I n), (8, I k)]) (fun _ => []) (fun k => n - k) 0 [] ⟨Nat.zero_le _, fun i hi => by omega⟩ ?_ ?_
  · ((refine ⟨?_, ?_, ?_, ?_⟩) <;> (repeat' ((conv => whnf); apply And.intro)) <;> (try (first | exact trivial | decide)))
    all_goals first | rfl | exact fun _ _ h => h | simp [SV.wf, SV.wfs]
  · rintro k ⟨hk, hz⟩
    (conv=>whnf);repeat' (first|((with_reducible refine isC ?_);first|((with_reducible refine CallX_pure (hg (l.getD k e0)) ?_)<;>first|omega|with_reducible refine isP ?_|conv=>whnf))|((with_reducible refine isV ?_);first|((first|refine ValX_index tabOk rfl (hpre.mem (by decide) rfl) rfl ?_ ?_ ?_|(with_reducible refine nat_idx ?_);refine ValX_loadEn _ _ (e0) tabOk rfl rfl rfl rfl (hpre.mem (by decide) rfl) ?_ ?_ ?_|refine ValX_loadE _ _ (e0) tabOk rfl rfl rfl rfl (hpre.mem (by decide) rfl) ?_ ?_ ?_)<;>first|rfl|omega|with_reducible refine isP ?_|conv=>whnf))|((with_reducible refine isW ?_;first|refine xwr_ok (by omega) (by omega) ?_|refine xwr_raw ?_);conv=>whnf)|with_reducible exact rfl|((with_reducible first|refine xif_kt (by assumption) ?_|refine xif_kf (by assumption) ?_);conv=>whnf)|((with_reducible refine xif_s ?_ ?_)<;>(intro hb;(try simp (disch:=omega) only [hbS] at hb)<;>conv=>whnf)))
    · refine Fin_pure rfl ?_ trivial
      rw [idxF_at (k := k) (by omega) hz hb]
    · refine ⟨k + 1, [], ⟨by omega, fun j hj => ?_⟩, ?_, by (try dsimp only); omega⟩
      · by_cases e : j = k
        · rw [e]; exact hb
        · exact hz j (by omega)
      · ((refine ⟨?_, ?_, ?_, ?_⟩) <;> (repeat' ((conv => whnf); apply And.intro)) <;> (try (first | exact trivial | decide)))
        all_goals first | rfl | exact fun _ _ h => h | exact I_eq (wr (by omega) (by omega)) | simp [SV.wf, SV.wfs]
    · refine Fin_pure rfl ?_ trivial
      rw [idxF_none (d := e0) (fun j hj => hz j (by omega))]
structure DelS where
  i : Nat
  j : Nat
  xs : List EntT
def delJ (p : EntT → Bool) (ys : List EntT) (s : DelS) : Prop :=
  s.i < s.j ∧ s.j ≤ ys.length ∧ s.xs.length = ys.length ∧ s.xs.take s.i = (ys.take s.j).filter (fun e => !p e) ∧ ∀ k, s.j ≤ k → s.xs.getD k e0 = ys.getD k e0
theorem take_getD {l : List EntT} {j : Nat} (h : j < l.length) : l.take (j + 1) = l.take j ++ [l.getD j e0] := by
  rw [List.take_succ_eq_append_getElem h]
  simp [h]
theorem delJ_skip {p : EntT → Bool} {ys : List EntT} {s : DelS} (h : delJ p ys s) (hj : s.j < ys.length) (hp : p (ys.getD s.j e0) = true) : delJ p ys ⟨s.i, s.j + 1, s.xs⟩ := by
  obtain ⟨h1, h2, h3, h4, h5⟩ := h
  refine ⟨by (try dsimp only); omega, hj, h3, ?_, fun k hk => h5 k (by (try dsimp only at hk); omega)⟩
  dsimp only
  rw [take_getD hj, List.filter_append, h4]
  simp only [hp, List.filter_cons, Bool.not_true, Bool.false_eq_true, if_false, List.filter_nil, List.append_nil]
theorem delJ_keep {p : EntT → Bool} {ys : List EntT} {s : DelS} (h : delJ p ys s) (hj : s.j < ys.length) (hp : p (ys.getD s.j e0) = false) : delJ p ys ⟨s.i + 1, s.j + 1, s.xs.set s.i (ys.getD s.j e0)⟩ := by
  obtain ⟨h1, h2, h3, h4, h5⟩ := h
  refine ⟨by (try dsimp only); omega, hj, by simp [h3], ?_, fun k hk => ?_⟩
  · dsimp only
    rw [take_getD hj, List.filter_append, ← h4]
    have hlt : s.i < s.xs.length := by omega
    rw [List.take_succ_eq_append_getElem (by simpa using hlt)]
    simp only [List.getElem_set_self, List.take_set_of_le (Nat.le_refl _), hp, List.filter_cons, Bool.not_false, if_true, List.filter_nil]
  · dsimp only at hk ⊢
    rw [← h5 k (by omega)]
    simp only [List.getD_eq_getElem?_getD]
    rw [List.getElem?_set_ne (by omega)]
theorem delJ_start {p : EntT → Bool} {ys : List EntT} {k : Nat} (hk : k < ys.length) (h : ∀ j, j < k → p (ys.getD j e0) = false) (hp : p (ys.getD k e0) = true) : delJ p ys ⟨k, k + 1, ys⟩ := by
  refine ⟨by (try dsimp only); omega, hk, rfl, ?_, fun _ _ => rfl⟩
  dsimp only
  rw [take_getD hk, List.filter_append]
  simp only [hp, List.filter_cons, Bool.not_true, Bool.false_eq_true, if_false, List.filter_nil, List.append_nil]
  symm
  rw [List.filter_eq_self]
  intro x hx
  obtain ⟨i, hi, rfl⟩ := List.getElem_of_mem hx
  rw [List.length_take] at hi
  have := h i (by omega)
  simp [show i < ys.length by omega] at this
  simp [this]
theorem DeleteFuncE_m (g : Nat) (p : EntT → Bool) (hg : ∀ e : EntT, PureX Tryz.prog g [.a [I e.1, I e.2.1, I e.2.2.1, I e.2.2.2]] (B (p e))) (A : Option Addr) (c : Nat) (ys : List EntT) {n : Nat} (hl : ys.length = n) (hn : n ≤ 1000000000) (hc : n ≤ c) :
    CallM Tryz.prog 103 [.v (.slice A n c), .v (.func (.func g) #[] #[])] (fun _ _ => True) [.row 34 4 A n c (ys.map encE)]
      (fun _ : Unit => .v (.slice A (ys.filter fun e => !p e).length c)) (fun _ => [.row 34 4 A (ys.filter fun e => !p e).length c ((ys.filter fun e => !p e).map encE)]) := by
  refine CallM.of (m := 1) Tryz.func103 rfl tabOk rfl rfl rfl rfl (by simp [SV.wfs, SV.wf]) fun w M π _ => ?_
  cases hx : ys.findIdx? p with
  | none =>
    have hi : idxF p ys = -1 := by simp [idxF, hx]
    have hf : ys.filter (fun e => !p e) = ys := by
      rw [List.filter_eq_self]
      rw [List.findIdx?_eq_none_iff] at hx
      intro x h
      simp [hx x h]
    (conv=>whnf);repeat' (first|((with_reducible refine isC ?_);first|(refine CallX_w (IndexFuncE_w g p hg A c ys hl hn) (ArgSl.row 0 rfl) ?_; rw [hi]; conv => whnf))|((with_reducible refine isW ?_;first|refine xwr_ok (by omega) (by omega) ?_|refine xwr_raw ?_);conv=>whnf)|with_reducible exact rfl|((with_reducible first|refine xif_kt (by assumption) ?_|refine xif_kf (by assumption) ?_);conv=>whnf)|((with_reducible refine xif_s ?_ ?_)<;>(intro hb;(try simp (disch:=omega) only [hbS] at hb)<;>conv=>whnf)))
    exact Fin_m () [0] ⟨by rw [hf, hl]; rfl, by simp [SV.wf, SV.wfs]⟩ ⟨by rw [hf, hl]; exact ⟨rfl, rfl, rfl, rfl, rfl, rfl⟩, trivial⟩ (by decide) rfl
  | some k =>
    rw [List.findIdx?_eq_some_iff_getElem] at hx
    obtain ⟨hk, h1, h2⟩ := hx
    have hp : p (ys.getD k e0) = true := by simpa [hk] using h1
    have hz : ∀ j, j < k → p (ys.getD j e0) = false := fun j hj => by
      have := h2 j hj
      simpa [show j < ys.length by omega] using this
    have hi := idxF_at hk hz hp
    (conv=>whnf);repeat' (first|((with_reducible refine isC ?_);first|(refine CallX_w (IndexFuncE_w g p hg A c ys hl hn) (ArgSl.row 0 rfl) ?_; rw [hi]; conv => whnf))|((with_reducible refine isW ?_;first|refine xwr_ok (by omega) (by omega) ?_|refine xwr_raw ?_);conv=>whnf)|with_reducible exact rfl|((with_reducible first|refine xif_kt (by assumption) ?_|refine xif_kf (by assumption) ?_);conv=>whnf)|((with_reducible refine xif_s ?_ ?_)<;>(intro hb;(try simp (disch:=omega) only [hbS] at hb)<;>conv=>whnf)))
    refine LoopX_inv tabOk (α := DelS) (delJ p ys) (fun s => [(0, .v (.slice A n c)), (1, .v (.func (.func g) #[] #[])), (5, I s.i), (6, I s.j)]) (fun s => [.row 34 4 A n c (s.xs.map encE)]) (fun s => n - s.j) ⟨k, k + 1, ys⟩ [0] (delJ_start hk hz hp) ?_ ?_
    · ((refine ⟨?_, ?_, ?_, ?_⟩) <;> (repeat' ((conv => whnf); apply And.intro)) <;> (try (first | exact trivial | decide)))
      all_goals first | rfl | exact fun _ _ h => h | exact I_eq (wr (by omega) (by omega)) | simp [SV.wf, SV.wfs]
    · rintro ⟨i, j, xs⟩ hJ
      have hJ' := hJ
      obtain ⟨j1, j2, j3, j4, j5⟩ := hJ
      try dsimp only at j1 j2 j3 j4 j5 ⊢
      by_cases hlt : j < n
      · have hv := j5 j (Nat.le_refl _)
        (conv=>whnf);repeat' (first|((with_reducible refine isC ?_);first|((with_reducible refine CallX_pure (hg (xs.getD j e0)) ?_)<;>first|omega|with_reducible refine isP ?_|conv=>whnf))|((with_reducible refine isV ?_);first|((first|refine ValX_index tabOk rfl (ArgSl.row 0 rfl) rfl ?_ ?_ ?_|(with_reducible refine nat_idx ?_);refine ValX_loadEn _ _ (e0) tabOk rfl rfl rfl rfl (ArgSl.row 0 rfl) ?_ ?_ ?_|refine ValX_loadE _ _ (e0) tabOk rfl rfl rfl rfl (ArgSl.row 0 rfl) ?_ ?_ ?_)<;>first|rfl|omega|with_reducible refine isP ?_|conv=>whnf))|((with_reducible refine isO ?_);first|((refine OpX_store 0 tabOk rfl rfl rfl rfl rfl rfl ?_ ?_)<;>first|omega|with_reducible refine isP ?_|conv=>whnf))|((with_reducible refine isW ?_;first|refine xwr_ok (by omega) (by omega) ?_|refine xwr_raw ?_);conv=>whnf)|with_reducible exact rfl|((with_reducible first|refine xif_kt (by assumption) ?_|refine xif_kf (by assumption) ?_);conv=>whnf)|((with_reducible refine xif_s ?_ ?_)<;>(intro hb;(try simp (disch:=omega) only [hbS] at hb)<;>conv=>whnf)))
        · refine ⟨⟨i + 1, j + 1, xs.set i (xs.getD j e0)⟩, [0], ?_, ?_, by (try dsimp only); omega⟩
          · have := delJ_keep hJ' (by (try dsimp only); omega) (by (try dsimp only); rw [← hv]; exact hb)
            try dsimp only at this
            rw [← hv] at this
            exact this
          · try dsimp only
            rw [List.map_set]
            ((refine ⟨?_, ?_, ?_, ?_⟩) <;> (repeat' ((conv => whnf); apply And.intro)) <;> (try (first | exact trivial | decide)))
            all_goals first | rfl | exact fun _ _ h => h | exact I_eq (wr (by omega) (by omega)) | simp [SV.wf, SV.wfs]
        · refine ⟨⟨i, j + 1, xs⟩, [0], ?_, ?_, by (try dsimp only); omega⟩
          · exact delJ_skip hJ' (by (try dsimp only); omega) (by (try dsimp only); rw [← hv]; exact hb)
          · ((refine ⟨?_, ?_, ?_, ?_⟩) <;> (repeat' ((conv => whnf); apply And.intro)) <;> (try (first | exact trivial | decide)))
            all_goals first | rfl | exact fun _ _ h => h | exact I_eq (wr (by omega) (by omega)) | simp [SV.wf, SV.wfs]
        all_goals omega
      · obtain rfl : j = n := by omega
        (conv=>whnf);repeat' (first|((with_reducible refine isV ?_);first|(refine ValX_sliceLo (m := i) tabOk rfl rfl (row_spot 0 rfl) (by omega) ?_; conv => whnf)|(refine ValX_sliceHi (m := i) tabOk rfl rfl (by omega) ?_; conv => whnf))|((with_reducible refine isO ?_);first|(refine OpX_clear (i := i) 0 tabOk rfl rfl rfl rfl rfl (by omega) ?_; conv => whnf))|((with_reducible refine isW ?_;first|refine xwr_ok (by omega) (by omega) ?_|refine xwr_raw ?_);conv=>whnf)|with_reducible exact rfl|((with_reducible first|refine xif_kt (by assumption) ?_|refine xif_kf (by assumption) ?_);conv=>whnf)|((with_reducible refine xif_s ?_ ?_)<;>(intro hb;(try simp (disch:=omega) only [hbS] at hb)<;>conv=>whnf)))
        · exfalso
          omega
        · rw [← hl, List.take_of_length_le (Nat.le_refl _)] at j4
          have hlen : (ys.filter fun e => !p e).length = i := by
            rw [← j4, List.length_take]
            omega
          refine Fin_m () [0] ⟨by rw [hlen]; rfl, by simp [SV.wf, SV.wfs]⟩ ⟨?_, trivial⟩ (by decide) rfl
          rw [hlen, ← j4, List.map_take]
          exact ⟨rfl, rfl, rfl, rfl, rfl, rfl⟩
end Go.Proofs.YtadichckbogcjaaGreatDoor.En
end
section
namespace Go.Proofs.YtadichckbogcjaaGreatDoor.En
open Go.RowKit Go.Sort
set_option maxRecDepth 100000
theorem Values_m (b : Nat) : CallM Tryz.prog 102 [.v (.map (some b))] (fun _ _ => True) [] (fun _ : Unit => .fn 140 [.p 0 0]) (fun _ => [.box 95 [.v (.map (some b))]]) := by
  refine CallM.of (m := 0) Tryz.func102 rfl tabOk rfl rfl rfl rfl (by simp [SV.wfs, SV.wf]) fun w M π _ => ?_
  (conv=>whnf);repeat' (first|with_reducible exact rfl|((with_reducible first|refine xif_kt (by assumption) ?_|refine xif_kf (by assumption) ?_);conv=>whnf)|((with_reducible refine xif_s ?_ ?_)<;>(intro hb;(try simp (disch:=omega) only [hbS] at hb)<;>conv=>whnf)))
  exact Fin_m () [0] ⟨rfl, by simp [SV.wf, SV.wfs]⟩ ⟨⟨rfl, rfl, by simp [SV.wf, SV.wfs]⟩, trivial⟩ (by decide) rfl
def IsList (L ys : List EntT) : Prop := ys.Perm (L.filter fun e => !zeroE e) ∧ asc ys
theorem IsList.unique {L ys zs : List EntT} (h1 : IsList L ys) (h2 : IsList L zs) : ys = zs := asc_unique h1.2 h2.2 (h1.1.trans h2.1.symm)
abbrev LstT (L : List EntT) := {p : Option Addr × Nat × List EntT // IsList L p.2.2}
def neT (L : List EntT) : Prop := L.Pairwise fun a b => a.cell ≠ b.cell
set_option maxHeartbeats 1000000 in
theorem list_m (b : Nat) (L : List EntT) (hL : neT L) (hn : L.length ≤ 1000000000) :
    CallM Tryz.prog 58 [.v (.map (some b))] (fun _ _ => True) [talO b L]
      (fun p : LstT L => .v (.slice p.1.1 p.1.2.2.length p.1.2.1)) (fun p => [talO b L, .row 34 4 p.1.1 p.1.2.2.length p.1.2.1 (p.1.2.2.map encE)]) := by
  refine CallM.of (m := 1) Tryz.func58 rfl tabOk rfl rfl rfl rfl (by simp [SV.wfs, SV.wf]) fun w M π _ => ?_
  (conv=>whnf);repeat' (first|((with_reducible refine isC ?_);first|(refine CallX_m (Values_m b) [] rfl trivial (by decide) (fun _ _ _ _ => trivial) ?_; intro p; conv => whnf)|(refine CallX_collect (b := b) (L := L) (j := 1) (q := 0) rfl rfl rfl hn ?_; intro ys A c hp hc; conv => whnf))|with_reducible exact rfl|((with_reducible first|refine xif_kt (by assumption) ?_|refine xif_kf (by assumption) ?_);conv=>whnf)|((with_reducible refine xif_s ?_ ?_)<;>(intro hb;(try simp (disch:=omega) only [hbS] at hb)<;>conv=>whnf)))
  have hyl : ys.length ≤ 1000000000 := by rw [hp.length_eq]; exact hn
  (conv=>whnf);repeat' (first|((with_reducible refine isC ?_);first|(refine CallX_m (DeleteFuncE_m 104 zeroE list1_x A c ys rfl hyl hc) [2] rfl ⟨⟨rfl, rfl, rfl, rfl, rfl, rfl⟩, trivial⟩ (by decide) (fun _ _ _ _ => trivial) ?_; intro p; conv => whnf))|with_reducible exact rfl|((with_reducible first|refine xif_kt (by assumption) ?_|refine xif_kf (by assumption) ?_);conv=>whnf)|((with_reducible refine xif_s ?_ ?_)<;>(intro hb;(try simp (disch:=omega) only [hbS] at hb)<;>conv=>whnf)))
  have hfl : (ys.filter fun e => !zeroE e).length ≤ 1000000000 := Nat.le_trans (List.length_filter_le _ _) hyl
  have hne : (ys.filter fun e => !zeroE e).Pairwise fun a b => a.cell ≠ b.cell := (((hp.pairwise_iff (fun {a b} h => h.symm)).2 hL).sublist List.filter_sublist)
  have hpf : (ys.filter fun e => !zeroE e).Perm (L.filter fun e => !zeroE e) := hp.filter _
  generalize ys.filter (fun e => !zeroE e) = zs at *
  (conv=>whnf);repeat' (first|((with_reducible refine isC ?_);first|(refine CallX_args [.v (.slice A zs.length c), .fn 106 []] (fun σ => rfl) ?_; refine CallX_sortE rfl (list2_d e0 e0).1 list2_d 2 zs rfl rfl (by omega) ?_; intro vs hv hs; conv => whnf))|with_reducible exact rfl|((with_reducible first|refine xif_kt (by assumption) ?_|refine xif_kf (by assumption) ?_);conv=>whnf)|((with_reducible refine xif_s ?_ ?_)<;>(intro hb;(try simp (disch:=omega) only [hbS] at hb)<;>conv=>whnf)))
  have hvl := hv.length_eq
  refine Fin_m ⟨(A, c, vs), hv.trans hpf, asc_of_sorted hv (by rw [hvl]; exact hs) hne⟩ [0, 2] ⟨?_, by simp [SV.wf, SV.wfs]⟩ ⟨fun _ _ h => h, ⟨rfl, rfl, rfl, hvl.symm, rfl, rfl⟩, trivial⟩ (by decide) rfl
  show _ = SV.v (.slice A vs.length c)
  rw [hvl]
end Go.Proofs.YtadichckbogcjaaGreatDoor.En
end
