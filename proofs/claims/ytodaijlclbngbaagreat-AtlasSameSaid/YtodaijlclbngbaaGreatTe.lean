/- evidence.tally: add, list. -/
import Derived.Test.YtodaijlclbngbaaGreatTd
import Derived.Test.YtodaijlclbngbaaGreatFs
set_option linter.all false
namespace Go.Proofs.YtodaijlclbngbaaGreat.En
open Go.RowKit
set_option maxRecDepth 100000



def addT (L : List EntT) (c : CellT) (h p : Int) : List EntT := setT L (c.1, c.2, (getT L c).2.2.1 + h, (getT L c).2.2.2 + p)
theorem add_m (b : Nat) (L : List EntT) (c : CellT) (h p : Int) (h1 : -4611686018427387904 ≤ (getT L c).2.2.1 + h ∧ (getT L c).2.2.1 + h ≤ 4611686018427387904) (h2 : -4611686018427387904 ≤ (getT L c).2.2.2 + p ∧ (getT L c).2.2.2 + p ≤ 4611686018427387904) :
    CallM Tryz.prog 68 [.v (.map (some b)), .a [I c.1, I c.2], I h, I p] (fun _ _ => True) [talO b L] (fun _ : Unit => .t []) (fun _ => [talO b (addT L c h p)]) := by
  refine CallM.of (m := 1) Tryz.func68 rfl tabOk rfl rfl rfl rfl (by simp [SV.wfs, SV.wf]) fun w M π _ => ?_
  (conv => whnf); repeat' (first | ((with_reducible refine isV ?_); first | (refine ValX_lookT (c := c) 0 rfl rfl rfl ?_; conv => whnf)) | ((with_reducible refine isO ?_); first | (refine OpX_updT (e := (c.1, c.2, (getT L c).2.2.1 + h, (getT L c).2.2.2 + p)) 0 rfl rfl rfl ?_; conv => whnf)) | ((with_reducible refine isW ?_); first | ((with_reducible refine xwr_ok (by omega) (by omega) ?_); conv => whnf) | ((with_reducible refine xwr_raw ?_); conv => whnf)) | (with_reducible exact rfl) | ((with_reducible refine xif_kt (by with_reducible assumption) ?_); conv => whnf) | ((with_reducible refine xif_kf (by with_reducible assumption) ?_); conv => whnf) | (((with_reducible refine xif_s ?_ ?_) <;> (intro hb; (try simp (disch := omega) only [hbS] at hb))) <;> (conv => whnf)))
  exact Fin_m () [0] ⟨rfl, by simp [SV.wf, SV.wfs]⟩ ⟨fun _ _ h => h, trivial⟩ (by decide) rfl

/-- neither hits nor passes -/
def zeroE (e : EntT) : Bool := decide (e.2.2.1 = 0) && decide (e.2.2.2 = 0)
theorem list1_x (e : EntT) : PureX Tryz.prog 97 [.a [I e.1, I e.2.1, I e.2.2.1, I e.2.2.2]] (B (zeroE e)) := by
  refine PureX.of Tryz.func97 rfl tabOk rfl rfl rfl (by simp [SV.wfs, SV.wf]) (by simp [SV.wfs, SV.wf]) fun w => ?_
  (conv => whnf); repeat' (first | (with_reducible exact rfl) | ((with_reducible refine xif_kt (by with_reducible assumption) ?_); conv => whnf) | ((with_reducible refine xif_kf (by with_reducible assumption) ?_); conv => whnf) | (((with_reducible refine xif_s ?_ ?_) <;> (intro hb; (try simp (disch := omega) only [hbS] at hb))) <;> (conv => whnf)))
  all_goals refine Fin_pure rfl ?_ trivial
  all_goals
    simp [zeroE, hb]
    try rfl
theorem list2_d (a b : EntT) : PureD Tryz.prog 99 [.a [I a.1, I a.2.1, I a.2.2.1, I a.2.2.2], .a [I b.1, I b.2.1, I b.2.2.1, I b.2.2.2]] (I (cellI a.cell b.cell)) := by
  refine PureD.of Tryz.func99 rfl tabOk rfl rfl rfl (by simp [SV.wfs, SV.wf]) (by simp [SV.wfs, SV.wf]) fun w => ?_
  (conv => whnf); repeat' (first | ((with_reducible refine isC ?_); first | ((with_reducible refine CallX_d (compare_d (_, _) (_, _)) ?_) <;> first | omega | (with_reducible show (_ : Int) ≤ _) | (with_reducible show (_ : Int) < _) | (with_reducible show (_ : Nat) ≤ _) | (with_reducible show (_ : Nat) < _) | (conv => whnf))) | (with_reducible exact rfl) | ((with_reducible refine xif_kt (by with_reducible assumption) ?_); conv => whnf) | ((with_reducible refine xif_kf (by with_reducible assumption) ?_); conv => whnf) | (((with_reducible refine xif_s ?_ ?_) <;> (intro hb; (try simp (disch := omega) only [hbS] at hb))) <;> (conv => whnf)))
  exact Fin_d rfl rfl rfl trivial

/-- the first index at which p holds; -1 if there is none -/
def idxF {α : Type} (p : α → Bool) (l : List α) : Int := match l.findIdx? p with
  | some i => (i : Int)
  | none => -1
theorem idxF_at {α : Type} {p : α → Bool} {l : List α} {d : α} {k : Nat} (hk : k < l.length) (h : ∀ j, j < k → p (l.getD j d) = false) (hp : p (l.getD k d) = true) : idxF p l = k := by
  have : l.findIdx? p = some k := by
    rw [List.findIdx?_eq_some_iff_getElem]
    refine ⟨hk, by simpa [hk] using hp, fun j hj => ?_⟩
    have := h j hj
    simpa [show j < l.length by omega] using this
  simp [idxF, this]
theorem idxF_none {α : Type} {p : α → Bool} {l : List α} {d : α} (h : ∀ j, j < l.length → p (l.getD j d) = false) : idxF p l = -1 := by
  have : l.findIdx? p = none := by
    rw [List.findIdx?_eq_none_iff]
    intro x hx
    obtain ⟨i, hi, rfl⟩ := List.getElem_of_mem hx
    have := h i hi
    simpa [hi] using this
  simp [idxF, this]
theorem IndexFuncE_w (g : Nat) (p : EntT → Bool) (hg : ∀ e : EntT, PureX Tryz.prog g [.a [I e.1, I e.2.1, I e.2.2.1, I e.2.2.2]] (B (p e))) (A : Option Addr) (c : Nat) (l : List EntT) {n : Nat} (hl : l.length = n) (hn : n ≤ 1000000000) :
    CallW Tryz.prog 123 [.v (.slice A n c), .v (.func (.func g) #[] #[])] (fun w => ArgSl w A n 4 (l.map encE)) (I (idxF p l)) := by
  refine CallW.of Tryz.func123 rfl tabOk rfl rfl rfl (by simp [SV.wfs, SV.wf]) (by simp [SV.wfs, SV.wf]) fun w hpre => ?_
  (conv => whnf); repeat' (first | ((with_reducible refine isW ?_); first | ((with_reducible refine xwr_ok (by omega) (by omega) ?_); conv => whnf) | ((with_reducible refine xwr_raw ?_); conv => whnf)) | (with_reducible exact rfl) | ((with_reducible refine xif_kt (by with_reducible assumption) ?_); conv => whnf) | ((with_reducible refine xif_kf (by with_reducible assumption) ?_); conv => whnf) | (((with_reducible refine xif_s ?_ ?_) <;> (intro hb; (try simp (disch := omega) only [hbS] at hb))) <;> (conv => whnf)))
  refine LoopX_inv tabOk (α := Nat) (fun k => k ≤ n ∧ ∀ j, j < k → p (l.getD j e0) = false) (fun k => [(0, .v (.slice A n c)), (1, .v (.func (.func g) #[] #[])), (7, I n), (8, I k)]) (fun _ => []) (fun k => n - k) 0 [] ⟨Nat.zero_le _, fun i hi => by omega⟩ ?_ ?_
  · ((refine ⟨?_, ?_, ?_, ?_⟩) <;> (repeat' ((conv => whnf); apply And.intro)) <;> (try (first | exact trivial | decide)))
    all_goals first | rfl | exact fun _ _ h => h | simp [SV.wf, SV.wfs]
  · rintro k ⟨hk, hz⟩
    (conv => whnf); repeat' (first | ((with_reducible refine isC ?_); first | ((with_reducible refine CallX_pure (hg (l.getD k e0)) ?_) <;> first | omega | (with_reducible show (_ : Int) ≤ _) | (with_reducible show (_ : Int) < _) | (with_reducible show (_ : Nat) ≤ _) | (with_reducible show (_ : Nat) < _) | (conv => whnf))) | ((with_reducible refine isV ?_); first | ((refine ValX_index tabOk rfl (hpre.mem (by decide) rfl) rfl ?_ ?_ ?_) <;> first | omega | (with_reducible show (_ : Int) ≤ _) | (with_reducible show (_ : Int) < _) | (with_reducible show (_ : Nat) ≤ _) | (with_reducible show (_ : Nat) < _) | (conv => whnf)) | ((with_reducible refine nat_idx ?_); (refine ValX_loadEn _ _ (e0) tabOk rfl rfl rfl rfl (hpre.mem (by decide) rfl) ?_ ?_ ?_) <;> first | rfl | omega | (with_reducible show (_ : Int) ≤ _) | (with_reducible show (_ : Int) < _) | (with_reducible show (_ : Nat) ≤ _) | (with_reducible show (_ : Nat) < _) | (conv => whnf)) | ((refine ValX_loadE _ _ (e0) tabOk rfl rfl rfl rfl (hpre.mem (by decide) rfl) ?_ ?_ ?_) <;> first | rfl | omega | (with_reducible show (_ : Int) ≤ _) | (with_reducible show (_ : Int) < _) | (with_reducible show (_ : Nat) ≤ _) | (with_reducible show (_ : Nat) < _) | (conv => whnf))) | ((with_reducible refine isW ?_); first | ((with_reducible refine xwr_ok (by omega) (by omega) ?_); conv => whnf) | ((with_reducible refine xwr_raw ?_); conv => whnf)) | (with_reducible exact rfl) | ((with_reducible refine xif_kt (by with_reducible assumption) ?_); conv => whnf) | ((with_reducible refine xif_kf (by with_reducible assumption) ?_); conv => whnf) | (((with_reducible refine xif_s ?_ ?_) <;> (intro hb; (try simp (disch := omega) only [hbS] at hb))) <;> (conv => whnf)))
    · refine Fin_pure rfl ?_ trivial
      rw [idxF_at (k := k) (by omega) hz hb]
    · refine ⟨k + 1, [], ⟨by omega, fun j hj => ?_⟩, ?_, by (try dsimp only); omega⟩
      · by_cases e : j = k
        · rw [e]; exact hb
        · exact hz j (by omega)
      · ((refine ⟨?_, ?_, ?_, ?_⟩) <;> (repeat' ((conv => whnf); apply And.intro)) <;> (try (first | exact trivial | decide)))
        all_goals first | rfl | exact fun _ _ h => h | exact I_eq (wr (by omega) (by omega)) | simp [SV.wf, SV.wfs]
    · refine Fin_pure rfl ?_ trivial
      rw [idxF_none (d := e0) (fun j hj => hz j (by omega))]

structure DelS where
  i : Nat
  j : Nat
  xs : List EntT
/-- what deleting has done so far -/
def delJ (p : EntT → Bool) (ys : List EntT) (s : DelS) : Prop :=
  s.i < s.j ∧ s.j ≤ ys.length ∧ s.xs.length = ys.length ∧ s.xs.take s.i = (ys.take s.j).filter (fun e => !p e) ∧ ∀ k, s.j ≤ k → s.xs.getD k e0 = ys.getD k e0
theorem take_getD {l : List EntT} {j : Nat} (h : j < l.length) : l.take (j + 1) = l.take j ++ [l.getD j e0] := by
  rw [List.take_succ_eq_append_getElem h]
  simp [h]
theorem delJ_skip {p : EntT → Bool} {ys : List EntT} {s : DelS} (h : delJ p ys s) (hj : s.j < ys.length) (hp : p (ys.getD s.j e0) = true) : delJ p ys ⟨s.i, s.j + 1, s.xs⟩ := by
  obtain ⟨h1, h2, h3, h4, h5⟩ := h
  refine ⟨by (try dsimp only); omega, hj, h3, ?_, fun k hk => h5 k (by (try dsimp only at hk); omega)⟩
  dsimp only
  rw [take_getD hj, List.filter_append, h4]
  simp only [hp, List.filter_cons, Bool.not_true, Bool.false_eq_true, if_false, List.filter_nil, List.append_nil]
theorem delJ_keep {p : EntT → Bool} {ys : List EntT} {s : DelS} (h : delJ p ys s) (hj : s.j < ys.length) (hp : p (ys.getD s.j e0) = false) : delJ p ys ⟨s.i + 1, s.j + 1, s.xs.set s.i (ys.getD s.j e0)⟩ := by
  obtain ⟨h1, h2, h3, h4, h5⟩ := h
  refine ⟨by (try dsimp only); omega, hj, by simp [h3], ?_, fun k hk => ?_⟩
  · dsimp only
    rw [take_getD hj, List.filter_append, ← h4]
    have hlt : s.i < s.xs.length := by omega
    rw [List.take_succ_eq_append_getElem (by simpa using hlt)]
    simp only [List.getElem_set_self, List.take_set_of_le (Nat.le_refl _), hp, List.filter_cons, Bool.not_false, if_true, List.filter_nil]
  · dsimp only at hk ⊢
    rw [← h5 k (by omega)]
    simp only [List.getD_eq_getElem?_getD]
    rw [List.getElem?_set_ne (by omega)]
theorem delJ_start {p : EntT → Bool} {ys : List EntT} {k : Nat} (hk : k < ys.length) (h : ∀ j, j < k → p (ys.getD j e0) = false) (hp : p (ys.getD k e0) = true) : delJ p ys ⟨k, k + 1, ys⟩ := by
  refine ⟨by (try dsimp only); omega, hk, rfl, ?_, fun _ _ => rfl⟩
  dsimp only
  rw [take_getD hk, List.filter_append]
  simp only [hp, List.filter_cons, Bool.not_true, Bool.false_eq_true, if_false, List.filter_nil, List.append_nil]
  symm
  rw [List.filter_eq_self]
  intro x hx
  obtain ⟨i, hi, rfl⟩ := List.getElem_of_mem hx
  rw [List.length_take] at hi
  have := h i (by omega)
  simp [show i < ys.length by omega] at this
  simp [this]

theorem DeleteFuncE_m (g : Nat) (p : EntT → Bool) (hg : ∀ e : EntT, PureX Tryz.prog g [.a [I e.1, I e.2.1, I e.2.2.1, I e.2.2.2]] (B (p e))) (A : Option Addr) (c : Nat) (ys : List EntT) {n : Nat} (hl : ys.length = n) (hn : n ≤ 1000000000) (hc : n ≤ c) :
    CallM Tryz.prog 96 [.v (.slice A n c), .v (.func (.func g) #[] #[])] (fun _ _ => True) [.row 81 4 A n c (ys.map encE)]
      (fun _ : Unit => .v (.slice A (ys.filter fun e => !p e).length c)) (fun _ => [.row 81 4 A (ys.filter fun e => !p e).length c ((ys.filter fun e => !p e).map encE)]) := by
  refine CallM.of (m := 1) Tryz.func96 rfl tabOk rfl rfl rfl rfl (by simp [SV.wfs, SV.wf]) fun w M π _ => ?_
  cases hx : ys.findIdx? p with
  | none =>
    have hi : idxF p ys = -1 := by simp [idxF, hx]
    have hf : ys.filter (fun e => !p e) = ys := by
      rw [List.filter_eq_self]
      rw [List.findIdx?_eq_none_iff] at hx
      intro x h
      simp [hx x h]
    (conv => whnf); repeat' (first | ((with_reducible refine isC ?_); first | (refine CallX_w (IndexFuncE_w g p hg A c ys hl hn) (ArgSl.row 0 rfl) ?_; rw [hi]; conv => whnf)) | ((with_reducible refine isW ?_); first | ((with_reducible refine xwr_ok (by omega) (by omega) ?_); conv => whnf) | ((with_reducible refine xwr_raw ?_); conv => whnf)) | (with_reducible exact rfl) | ((with_reducible refine xif_kt (by with_reducible assumption) ?_); conv => whnf) | ((with_reducible refine xif_kf (by with_reducible assumption) ?_); conv => whnf) | (((with_reducible refine xif_s ?_ ?_) <;> (intro hb; (try simp (disch := omega) only [hbS] at hb))) <;> (conv => whnf)))
    exact Fin_m () [0] ⟨by rw [hf, hl]; rfl, by simp [SV.wf, SV.wfs]⟩ ⟨by rw [hf, hl]; exact ⟨rfl, rfl, rfl, rfl, rfl, rfl⟩, trivial⟩ (by decide) rfl
  | some k =>
    rw [List.findIdx?_eq_some_iff_getElem] at hx
    obtain ⟨hk, h1, h2⟩ := hx
    have hp : p (ys.getD k e0) = true := by simpa [hk] using h1
    have hz : ∀ j, j < k → p (ys.getD j e0) = false := fun j hj => by
      have := h2 j hj
      simpa [show j < ys.length by omega] using this
    have hi := idxF_at hk hz hp
    (conv => whnf); repeat' (first | ((with_reducible refine isC ?_); first | (refine CallX_w (IndexFuncE_w g p hg A c ys hl hn) (ArgSl.row 0 rfl) ?_; rw [hi]; conv => whnf)) | ((with_reducible refine isW ?_); first | ((with_reducible refine xwr_ok (by omega) (by omega) ?_); conv => whnf) | ((with_reducible refine xwr_raw ?_); conv => whnf)) | (with_reducible exact rfl) | ((with_reducible refine xif_kt (by with_reducible assumption) ?_); conv => whnf) | ((with_reducible refine xif_kf (by with_reducible assumption) ?_); conv => whnf) | (((with_reducible refine xif_s ?_ ?_) <;> (intro hb; (try simp (disch := omega) only [hbS] at hb))) <;> (conv => whnf)))
    refine LoopX_inv tabOk (α := DelS) (delJ p ys) (fun s => [(0, .v (.slice A n c)), (1, .v (.func (.func g) #[] #[])), (5, I s.i), (6, I s.j)]) (fun s => [.row 81 4 A n c (s.xs.map encE)]) (fun s => n - s.j) ⟨k, k + 1, ys⟩ [0] (delJ_start hk hz hp) ?_ ?_
    · ((refine ⟨?_, ?_, ?_, ?_⟩) <;> (repeat' ((conv => whnf); apply And.intro)) <;> (try (first | exact trivial | decide)))
      all_goals first | rfl | exact fun _ _ h => h | exact I_eq (wr (by omega) (by omega)) | simp [SV.wf, SV.wfs]
    · rintro ⟨i, j, xs⟩ hJ
      have hJ' := hJ
      obtain ⟨j1, j2, j3, j4, j5⟩ := hJ
      try dsimp only at j1 j2 j3 j4 j5 ⊢
      by_cases hlt : j < n
      · have hv := j5 j (Nat.le_refl _)
        (conv => whnf); repeat' (first | ((with_reducible refine isC ?_); first | ((with_reducible refine CallX_pure (hg (xs.getD j e0)) ?_) <;> first | omega | (with_reducible show (_ : Int) ≤ _) | (with_reducible show (_ : Int) < _) | (with_reducible show (_ : Nat) ≤ _) | (with_reducible show (_ : Nat) < _) | (conv => whnf))) | ((with_reducible refine isV ?_); first | ((refine ValX_index tabOk rfl (ArgSl.row 0 rfl) rfl ?_ ?_ ?_) <;> first | omega | (with_reducible show (_ : Int) ≤ _) | (with_reducible show (_ : Int) < _) | (with_reducible show (_ : Nat) ≤ _) | (with_reducible show (_ : Nat) < _) | (conv => whnf)) | ((with_reducible refine nat_idx ?_); (refine ValX_loadEn _ _ (e0) tabOk rfl rfl rfl rfl (ArgSl.row 0 rfl) ?_ ?_ ?_) <;> first | rfl | omega | (with_reducible show (_ : Int) ≤ _) | (with_reducible show (_ : Int) < _) | (with_reducible show (_ : Nat) ≤ _) | (with_reducible show (_ : Nat) < _) | (conv => whnf)) | ((refine ValX_loadE _ _ (e0) tabOk rfl rfl rfl rfl (ArgSl.row 0 rfl) ?_ ?_ ?_) <;> first | rfl | omega | (with_reducible show (_ : Int) ≤ _) | (with_reducible show (_ : Int) < _) | (with_reducible show (_ : Nat) ≤ _) | (with_reducible show (_ : Nat) < _) | (conv => whnf))) | ((with_reducible refine isO ?_); first | ((refine OpX_store 0 tabOk rfl rfl rfl rfl rfl rfl ?_ ?_) <;> first | omega | (with_reducible show (_ : Int) ≤ _) | (with_reducible show (_ : Int) < _) | (with_reducible show (_ : Nat) ≤ _) | (with_reducible show (_ : Nat) < _) | (conv => whnf))) | ((with_reducible refine isW ?_); first | ((with_reducible refine xwr_ok (by omega) (by omega) ?_); conv => whnf) | ((with_reducible refine xwr_raw ?_); conv => whnf)) | (with_reducible exact rfl) | ((with_reducible refine xif_kt (by with_reducible assumption) ?_); conv => whnf) | ((with_reducible refine xif_kf (by with_reducible assumption) ?_); conv => whnf) | (((with_reducible refine xif_s ?_ ?_) <;> (intro hb; (try simp (disch := omega) only [hbS] at hb))) <;> (conv => whnf)))
        · refine ⟨⟨i + 1, j + 1, xs.set i (xs.getD j e0)⟩, [0], ?_, ?_, by (try dsimp only); omega⟩
          · have := delJ_keep hJ' (by (try dsimp only); omega) (by (try dsimp only); rw [← hv]; exact hb)
            try dsimp only at this
            rw [← hv] at this
            exact this
          · try dsimp only
            rw [List.map_set]
            ((refine ⟨?_, ?_, ?_, ?_⟩) <;> (repeat' ((conv => whnf); apply And.intro)) <;> (try (first | exact trivial | decide)))
            all_goals first | rfl | exact fun _ _ h => h | exact I_eq (wr (by omega) (by omega)) | simp [SV.wf, SV.wfs]
        · refine ⟨⟨i, j + 1, xs⟩, [0], ?_, ?_, by (try dsimp only); omega⟩
          · exact delJ_skip hJ' (by (try dsimp only); omega) (by (try dsimp only); rw [← hv]; exact hb)
          · ((refine ⟨?_, ?_, ?_, ?_⟩) <;> (repeat' ((conv => whnf); apply And.intro)) <;> (try (first | exact trivial | decide)))
            all_goals first | rfl | exact fun _ _ h => h | exact I_eq (wr (by omega) (by omega)) | simp [SV.wf, SV.wfs]
        all_goals omega
      · obtain rfl : j = n := by omega
        (conv => whnf); repeat' (first | ((with_reducible refine isV ?_); first | (refine ValX_sliceLo (m := i) tabOk rfl rfl (row_spot 0 rfl) (by omega) ?_; conv => whnf) | (refine ValX_sliceHi (m := i) tabOk rfl rfl (by omega) ?_; conv => whnf)) | ((with_reducible refine isO ?_); first | (refine OpX_clear (i := i) 0 tabOk rfl rfl rfl rfl rfl (by omega) ?_; conv => whnf)) | ((with_reducible refine isW ?_); first | ((with_reducible refine xwr_ok (by omega) (by omega) ?_); conv => whnf) | ((with_reducible refine xwr_raw ?_); conv => whnf)) | (with_reducible exact rfl) | ((with_reducible refine xif_kt (by with_reducible assumption) ?_); conv => whnf) | ((with_reducible refine xif_kf (by with_reducible assumption) ?_); conv => whnf) | (((with_reducible refine xif_s ?_ ?_) <;> (intro hb; (try simp (disch := omega) only [hbS] at hb))) <;> (conv => whnf)))
        · exfalso
          omega
        · rw [← hl, List.take_of_length_le (Nat.le_refl _)] at j4
          have hlen : (ys.filter fun e => !p e).length = i := by
            rw [← j4, List.length_take]
            omega
          refine Fin_m () [0] ⟨by rw [hlen]; rfl, by simp [SV.wf, SV.wfs]⟩ ⟨?_, trivial⟩ (by decide) rfl
          rw [hlen, ← j4, List.map_take]
          exact ⟨rfl, rfl, rfl, rfl, rfl, rfl⟩
end Go.Proofs.YtodaijlclbngbaaGreat.En
