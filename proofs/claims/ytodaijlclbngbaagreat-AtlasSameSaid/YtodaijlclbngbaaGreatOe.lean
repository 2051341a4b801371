/- slices.Contains over cells, ContainsFunc over beams, evidence.scanned; plain: tallies as functions of cells. -/
import Derived.Test.YtodaijlclbngbaaGreatTf
import Derived.Test.YtodaijlclbngbaaGreatPn
set_option linter.all false
namespace Go.Proofs.YtodaijlclbngbaaGreat.En
open Go.RowKit
set_option maxRecDepth 100000

def inB (x : CellT) (e : CellT) : Bool := decide (e = x)
theorem Index_w (A : Option Addr) (c : Nat) (l : List CellT) (x : CellT) {n : Nat} (hl : l.length = n) (hn : n ≤ 1000000000) :
    CallW Tryz.prog 93 [.v (.slice A n c), .a [I x.1, I x.2]] (fun w => ArgSl w A n 2 (l.map encC)) (I (idxF (inB x) l)) := by
  refine CallW.of Tryz.func93 rfl tabOk rfl rfl rfl (by simp [SV.wfs, SV.wf]) (by simp [SV.wfs, SV.wf]) fun w hpre => ?_
  (conv => whnf); repeat' (first | ((with_reducible refine isW ?_); first | ((with_reducible refine xwr_ok (by omega) (by omega) ?_); conv => whnf) | ((with_reducible refine xwr_raw ?_); conv => whnf)) | ((refine DrawX_s tabOk folOk ?_); conv => whnf) | ((refine DrawS_i (by kernel_rfl) ?_); conv => whnf) | ((with_reducible refine andX_i ?_ ?_) <;> (conv => whnf)) | (with_reducible exact rfl) | ((with_reducible refine xif_kt (by with_reducible assumption) ?_); conv => whnf) | ((with_reducible refine xif_kf (by with_reducible assumption) ?_); conv => whnf) | (((with_reducible refine xif_s ?_ ?_) <;> (intro hb; (try simp (disch := omega) only [hbS] at hb))) <;> (conv => whnf)))
  refine LoopX_inv tabOk (α := Nat) (fun k => k ≤ n ∧ ∀ j, j < k → inB x (l.getD j c0) = false) (fun k => [(0, .v (.slice A n c)), (3, .p 0 0), (7, I n), (8, I k)]) (fun _ => [.box 79 [I x.1, I x.2]]) (fun k => n - k) 0 [0] ⟨Nat.zero_le _, fun i hi => by omega⟩ ?_ ?_
  · ((refine ⟨?_, ?_, ?_, ?_⟩) <;> (repeat' ((conv => whnf); apply And.intro)) <;> (try (first | exact trivial | decide)))
    all_goals first | rfl | exact fun _ _ h => h | simp [SV.wf, SV.wfs]
  · rintro k ⟨hk, hz⟩
    (conv => whnf); repeat' (first | ((with_reducible refine isV ?_); first | ((refine ValX_index tabOk rfl (hpre.mem (by decide) rfl) rfl ?_ ?_ ?_) <;> first | omega | (with_reducible show (_ : Int) ≤ _) | (with_reducible show (_ : Int) < _) | (with_reducible show (_ : Nat) ≤ _) | (with_reducible show (_ : Nat) < _) | (conv => whnf)) | ((with_reducible refine nat_idx ?_); (refine ValX_loadEn _ _ (c0) tabOk rfl rfl rfl rfl (hpre.mem (by decide) rfl) ?_ ?_ ?_) <;> first | rfl | omega | (with_reducible show (_ : Int) ≤ _) | (with_reducible show (_ : Int) < _) | (with_reducible show (_ : Nat) ≤ _) | (with_reducible show (_ : Nat) < _) | (conv => whnf)) | ((refine ValX_loadE _ _ (c0) tabOk rfl rfl rfl rfl (hpre.mem (by decide) rfl) ?_ ?_ ?_) <;> first | rfl | omega | (with_reducible show (_ : Int) ≤ _) | (with_reducible show (_ : Int) < _) | (with_reducible show (_ : Nat) ≤ _) | (with_reducible show (_ : Nat) < _) | (conv => whnf))) | ((with_reducible refine isW ?_); first | ((with_reducible refine xwr_ok (by omega) (by omega) ?_); conv => whnf) | ((with_reducible refine xwr_raw ?_); conv => whnf)) | ((refine DrawX_s tabOk folOk ?_); conv => whnf) | ((refine DrawS_i (by kernel_rfl) ?_); conv => whnf) | ((with_reducible refine andX_i ?_ ?_) <;> (conv => whnf)) | (with_reducible exact rfl) | ((with_reducible refine xif_kt (by with_reducible assumption) ?_); conv => whnf) | ((with_reducible refine xif_kf (by with_reducible assumption) ?_); conv => whnf) | (((with_reducible refine xif_s ?_ ?_) <;> (intro hb; (try simp (disch := omega) only [hbS] at hb))) <;> (conv => whnf)))
    · refine Fin_pure rfl ?_ trivial
      rw [idxF_at (d := c0) (k := k) (by omega) hz (by simp only [inB, decide_eq_true_eq]; exact Prod.ext hb.1.symm hb.2.1.symm)]
    · refine ⟨k + 1, [0], ⟨by omega, fun j hj => ?_⟩, ?_, by (try dsimp only); omega⟩
      · by_cases e : j = k
        · rw [e]
          simp only [inB, decide_eq_false_iff_not]
          intro h
          rw [h] at hb
          simp at hb
        · exact hz j (by omega)
      · ((refine ⟨?_, ?_, ?_, ?_⟩) <;> (repeat' ((conv => whnf); apply And.intro)) <;> (try (first | exact trivial | decide)))
        all_goals first | rfl | exact fun _ _ h => h | exact I_eq (wr (by omega) (by omega)) | simp [SV.wf, SV.wfs]
    · refine Fin_pure rfl ?_ trivial
      rw [idxF_none (d := c0) (fun j hj => hz j (by omega))]
theorem idxF_ge {α : Type} (p : α → Bool) (l : List α) : decide (0 ≤ idxF p l) = l.any p := by
  rw [Bool.eq_iff_iff, decide_eq_true_eq, List.any_eq_true]
  unfold idxF
  cases h : l.findIdx? p with
  | none =>
    rw [List.findIdx?_eq_none_iff] at h
    constructor
    · intro h1
      exact absurd h1 (by decide)
    · rintro ⟨x, hx, hp⟩
      rw [h x hx] at hp
      cases hp
  | some i =>
    rw [List.findIdx?_eq_some_iff_getElem] at h
    obtain ⟨h1, h2, _⟩ := h
    exact ⟨fun _ => ⟨l[i], List.getElem_mem h1, h2⟩, fun _ => by dsimp only; omega⟩
theorem Contains_w (A : Option Addr) (c : Nat) (l : List CellT) (x : CellT) {n : Nat} (hl : l.length = n) (hn : n ≤ 1000000000) :
    CallW Tryz.prog 67 [.v (.slice A n c), .a [I x.1, I x.2]] (fun w => ArgSl w A n 2 (l.map encC)) (B (l.any (inB x))) := by
  refine CallW.of Tryz.func67 rfl tabOk rfl rfl rfl (by simp [SV.wfs, SV.wf]) (by simp [SV.wfs, SV.wf]) fun w hpre => ?_
  (conv => whnf); repeat' (first | ((with_reducible refine isC ?_); first | (refine CallX_w (Index_w A c l x hl hn) (hpre.mem (by decide) rfl) ?_; conv => whnf)) | (with_reducible exact rfl) | ((with_reducible refine xif_kt (by with_reducible assumption) ?_); conv => whnf) | ((with_reducible refine xif_kf (by with_reducible assumption) ?_); conv => whnf) | (((with_reducible refine xif_s ?_ ?_) <;> (intro hb; (try simp (disch := omega) only [hbS] at hb))) <;> (conv => whnf)))
  refine Fin_pure rfl (B_eq ?_) trivial
  exact idxF_ge _ _

/-! ### scans -/
abbrev BeamT := Int × Int
def encB (b : BeamT) : List Value := [.int .i64 b.1, .int .i64 b.2]
def b0 : BeamT := (0, 0)
def wrongB (b : BeamT) : Bool := decide (b.1 < 0) || decide (256 ≤ b.1) || decide (b.2 < -1) || decide (1024 < b.2)
theorem wrong_x (b : BeamT) : PureX Tryz.prog 87 [.a [I b.1, I b.2]] (B (wrongB b)) := by
  refine PureX.of Tryz.func87 rfl tabOk rfl rfl rfl (by simp [SV.wfs, SV.wf]) (by simp [SV.wfs, SV.wf]) fun w => ?_
  (conv => whnf); repeat' (first | (with_reducible exact rfl) | ((with_reducible refine xif_kt (by with_reducible assumption) ?_); conv => whnf) | ((with_reducible refine xif_kf (by with_reducible assumption) ?_); conv => whnf) | (((with_reducible refine xif_s ?_ ?_) <;> (intro hb; (try simp (disch := omega) only [hbS] at hb))) <;> (conv => whnf)))
  all_goals refine Fin_pure rfl (B_eq ?_) trivial
  all_goals rw [Bool.eq_iff_iff]
  all_goals simp only [wrongB, Bool.or_eq_true, decide_eq_true_eq, true_iff, gt_iff_lt, ge_iff_le]
  all_goals omega
theorem IndexFuncB_w (g : Nat) (p : BeamT → Bool) (hg : ∀ e : BeamT, PureX Tryz.prog g [.a [I e.1, I e.2]] (B (p e))) (A : Option Addr) (c : Nat) (l : List BeamT) {n : Nat} (hl : l.length = n) (hn : n ≤ 1000000000) :
    CallW Tryz.prog 111 [.v (.slice A n c), .v (.func (.func g) #[] #[])] (fun w => ArgSl w A n 2 (l.map encB)) (I (idxF p l)) := by
  refine CallW.of Tryz.func111 rfl tabOk rfl rfl rfl (by simp [SV.wfs, SV.wf]) (by simp [SV.wfs, SV.wf]) fun w hpre => ?_
  (conv => whnf); repeat' (first | ((with_reducible refine isW ?_); first | ((with_reducible refine xwr_ok (by omega) (by omega) ?_); conv => whnf) | ((with_reducible refine xwr_raw ?_); conv => whnf)) | (with_reducible exact rfl) | ((with_reducible refine xif_kt (by with_reducible assumption) ?_); conv => whnf) | ((with_reducible refine xif_kf (by with_reducible assumption) ?_); conv => whnf) | (((with_reducible refine xif_s ?_ ?_) <;> (intro hb; (try simp (disch := omega) only [hbS] at hb))) <;> (conv => whnf)))
  refine LoopX_inv tabOk (α := Nat) (fun k => k ≤ n ∧ ∀ j, j < k → p (l.getD j b0) = false) (fun k => [(0, .v (.slice A n c)), (1, .v (.func (.func g) #[] #[])), (7, I n), (8, I k)]) (fun _ => []) (fun k => n - k) 0 [] ⟨Nat.zero_le _, fun i hi => by omega⟩ ?_ ?_
  · ((refine ⟨?_, ?_, ?_, ?_⟩) <;> (repeat' ((conv => whnf); apply And.intro)) <;> (try (first | exact trivial | decide)))
    all_goals first | rfl | exact fun _ _ h => h | simp [SV.wf, SV.wfs]
  · rintro k ⟨hk, hz⟩
    (conv => whnf); repeat' (first | ((with_reducible refine isC ?_); first | ((with_reducible refine CallX_pure (hg (l.getD k b0)) ?_) <;> first | omega | (with_reducible show (_ : Int) ≤ _) | (with_reducible show (_ : Int) < _) | (with_reducible show (_ : Nat) ≤ _) | (with_reducible show (_ : Nat) < _) | (conv => whnf))) | ((with_reducible refine isV ?_); first | ((refine ValX_index tabOk rfl (hpre.mem (by decide) rfl) rfl ?_ ?_ ?_) <;> first | omega | (with_reducible show (_ : Int) ≤ _) | (with_reducible show (_ : Int) < _) | (with_reducible show (_ : Nat) ≤ _) | (with_reducible show (_ : Nat) < _) | (conv => whnf)) | ((with_reducible refine nat_idx ?_); (refine ValX_loadEn _ _ (b0) tabOk rfl rfl rfl rfl (hpre.mem (by decide) rfl) ?_ ?_ ?_) <;> first | rfl | omega | (with_reducible show (_ : Int) ≤ _) | (with_reducible show (_ : Int) < _) | (with_reducible show (_ : Nat) ≤ _) | (with_reducible show (_ : Nat) < _) | (conv => whnf)) | ((refine ValX_loadE _ _ (b0) tabOk rfl rfl rfl rfl (hpre.mem (by decide) rfl) ?_ ?_ ?_) <;> first | rfl | omega | (with_reducible show (_ : Int) ≤ _) | (with_reducible show (_ : Int) < _) | (with_reducible show (_ : Nat) ≤ _) | (with_reducible show (_ : Nat) < _) | (conv => whnf))) | ((with_reducible refine isW ?_); first | ((with_reducible refine xwr_ok (by omega) (by omega) ?_); conv => whnf) | ((with_reducible refine xwr_raw ?_); conv => whnf)) | (with_reducible exact rfl) | ((with_reducible refine xif_kt (by with_reducible assumption) ?_); conv => whnf) | ((with_reducible refine xif_kf (by with_reducible assumption) ?_); conv => whnf) | (((with_reducible refine xif_s ?_ ?_) <;> (intro hb; (try simp (disch := omega) only [hbS] at hb))) <;> (conv => whnf)))
    · refine Fin_pure rfl ?_ trivial
      rw [idxF_at (k := k) (by omega) hz hb]
    · refine ⟨k + 1, [], ⟨by omega, fun j hj => ?_⟩, ?_, by (try dsimp only); omega⟩
      · by_cases e : j = k
        · rw [e]; exact hb
        · exact hz j (by omega)
      · ((refine ⟨?_, ?_, ?_, ?_⟩) <;> (repeat' ((conv => whnf); apply And.intro)) <;> (try (first | exact trivial | decide)))
        all_goals first | rfl | exact fun _ _ h => h | exact I_eq (wr (by omega) (by omega)) | simp [SV.wf, SV.wfs]
    · refine Fin_pure rfl ?_ trivial
      rw [idxF_none (d := b0) (fun j hj => hz j (by omega))]
theorem ContainsFuncB_w (g : Nat) (p : BeamT → Bool) (hg : ∀ e : BeamT, PureX Tryz.prog g [.a [I e.1, I e.2]] (B (p e))) (A : Option Addr) (c : Nat) (l : List BeamT) {n : Nat} (hl : l.length = n) (hn : n ≤ 1000000000) :
    CallW Tryz.prog 82 [.v (.slice A n c), .v (.func (.func g) #[] #[])] (fun w => ArgSl w A n 2 (l.map encB)) (B (l.any p)) := by
  refine CallW.of Tryz.func82 rfl tabOk rfl rfl rfl (by simp [SV.wfs, SV.wf]) (by simp [SV.wfs, SV.wf]) fun w hpre => ?_
  (conv => whnf); repeat' (first | ((with_reducible refine isC ?_); first | (refine CallX_w (IndexFuncB_w g p hg A c l hl hn) (hpre.mem (by decide) rfl) ?_; conv => whnf)) | (with_reducible exact rfl) | ((with_reducible refine xif_kt (by with_reducible assumption) ?_); conv => whnf) | ((with_reducible refine xif_kf (by with_reducible assumption) ?_); conv => whnf) | (((with_reducible refine xif_s ?_ ?_) <;> (intro hb; (try simp (disch := omega) only [hbS] at hb))) <;> (conv => whnf)))
  refine Fin_pure rfl (B_eq ?_) trivial
  exact idxF_ge _ _
def scanB (l : List BeamT) : Bool := decide (l.length ≤ 32) && !l.any wrongB
theorem scanned_w (A : Option Addr) (c : Nat) (l : List BeamT) {n : Nat} (hl : l.length = n) (hn : n ≤ maxLen) :
    CallW Tryz.prog 64 [.v (.slice A n c)] (fun w => ArgSl w A n 2 (l.map encB)) (B (scanB l)) := by
  unfold maxLen at hn
  by_cases h : n ≤ 32
  · refine CallW.of Tryz.func64 rfl tabOk rfl rfl rfl (by simp [SV.wfs, SV.wf]) (by simp [SV.wfs, SV.wf]) fun w hpre => ?_
    (conv => whnf); repeat' (first | ((with_reducible refine isC ?_); first | (refine CallX_w (ContainsFuncB_w 87 wrongB wrong_x A c l hl (by omega)) (hpre.mem (by decide) rfl) ?_; conv => whnf)) | (with_reducible exact rfl) | ((with_reducible refine xif_kt (by with_reducible assumption) ?_); conv => whnf) | ((with_reducible refine xif_kf (by with_reducible assumption) ?_); conv => whnf) | (((with_reducible refine xif_s ?_ ?_) <;> (intro hb; (try simp (disch := omega) only [hbS] at hb))) <;> (conv => whnf)))
    all_goals try (exfalso; omega)
    refine Fin_pure rfl (B_eq ?_) trivial
    have : decide (l.length ≤ 32) = true := by simp; omega
    rw [scanB, this, Bool.true_and]
  · refine CallW.of Tryz.func64 rfl tabOk rfl rfl rfl (by simp [SV.wfs, SV.wf]) (by simp [SV.wfs, SV.wf]) fun w hpre => ?_
    (conv => whnf); repeat' (first | (with_reducible exact rfl) | ((with_reducible refine xif_kt (by with_reducible assumption) ?_); conv => whnf) | ((with_reducible refine xif_kf (by with_reducible assumption) ?_); conv => whnf) | (((with_reducible refine xif_s ?_ ?_) <;> (intro hb; (try simp (disch := omega) only [hbS] at hb))) <;> (conv => whnf)))
    all_goals try (exfalso; omega)
    refine Fin_pure rfl (B_eq ?_) trivial
    have : decide (l.length ≤ 32) = false := by simp; omega
    rw [scanB, this, Bool.false_and]

/-! ### tallies -/
theorem idxT_none {L : List EntT} {c : CellT} (h : idxT L c = none) : ∀ e ∈ L, e.cell ≠ c := by
  unfold idxT at h
  rw [List.findIdx?_eq_none_iff] at h
  intro e he
  simpa using h e he
theorem getT_mem {L : List EntT} {c : CellT} : getT L c ∈ L ∧ (getT L c).cell = c ∨ getT L c = e0 ∧ ∀ e ∈ L, e.cell ≠ c := by
  unfold getT
  cases h : idxT L c with
  | none => exact .inr ⟨rfl, idxT_none h⟩
  | some i =>
    obtain ⟨h1, h2⟩ := idxT_lt h
    refine .inl ⟨?_, h2⟩
    simp [h1]
theorem mem_setT {L : List EntT} {e x : EntT} (h : x ∈ setT L e) : x ∈ L ∨ x = e := by
  unfold setT at h
  split at h
  · rcases List.mem_or_eq_of_mem_set h with h | h
    · exact .inl h
    · exact .inr h
  · rcases List.mem_append.1 h with h | h
    · exact .inl h
    · exact .inr (by simpa using h)
theorem setT_len (L : List EntT) (e : EntT) : (setT L e).length ≤ L.length + 1 := by
  unfold setT
  split <;> simp
theorem setT_ne {L : List EntT} {e : EntT} (h : neT L) : neT (setT L e) := by
  unfold neT at *
  unfold setT
  cases hi : idxT L e.cell with
  | none =>
    have hn := idxT_none hi
    dsimp only
    rw [List.pairwise_append]
    refine ⟨h, by simp, fun a ha b hb => ?_⟩
    simp at hb
    rw [hb]
    exact hn a ha
  | some i =>
    obtain ⟨h1, h2⟩ := idxT_lt hi
    have e2 : L[i].cell = e.cell := by simpa [h1] using h2
    dsimp only
    rw [List.pairwise_iff_getElem] at h ⊢
    intro a b ha hb hab
    simp only [List.length_set] at ha hb
    rw [List.getElem_set, List.getElem_set]
    have hh := h a b ha hb hab
    split
    · rename_i e1
      split
      · omega
      · subst e1
        rw [← e2]
        exact hh
    · split
      · rename_i e1
        subst e1
        rw [← e2]
        exact hh
      · exact hh
/-- the counters at a cell -/
def valT (L : List EntT) (c : CellT) : Int × Int := ((getT L c).2.2.1, (getT L c).2.2.2)
theorem getT_of {L : List EntT} (h : neT L) {e : EntT} (he : e ∈ L) : getT L e.cell = e := by
  rcases getT_mem (L := L) (c := e.cell) with ⟨h1, h2⟩ | ⟨_, h2⟩
  · obtain ⟨i, hi, e1⟩ := List.getElem_of_mem h1
    obtain ⟨j, hj, e2⟩ := List.getElem_of_mem he
    unfold neT at h
    rw [List.pairwise_iff_getElem] at h
    rcases Nat.lt_trichotomy i j with hlt | rfl | hgt
    · exact (h i j hi hj hlt (by rw [e1, e2, h2])).elim
    · rw [← e1, e2]
    · exact (h j i hj hi hgt (by rw [e1, e2, h2])).elim
  · exact (h2 e he rfl).elim
theorem mem_set_self {L : List EntT} {e : EntT} : e ∈ setT L e := by
  unfold setT
  cases hi : idxT L e.cell with
  | none => simp
  | some i =>
    have h1 := (idxT_lt hi).1
    dsimp only
    exact List.mem_iff_getElem.2 ⟨i, by simpa using h1, by simp⟩
theorem mem_set_other {L : List EntT} {e x : EntT} (hx : x ∈ L) (hc : x.cell ≠ e.cell) : x ∈ setT L e := by
  unfold setT
  cases hi : idxT L e.cell with
  | none => simp [hx]
  | some i =>
    obtain ⟨h1, h2⟩ := idxT_lt hi
    obtain ⟨j, hj, rfl⟩ := List.getElem_of_mem hx
    dsimp only
    have hne : i ≠ j := by
      rintro rfl
      exact hc (by simpa [h1] using h2)
    exact List.mem_iff_getElem.2 ⟨j, by simpa using hj, by simp [List.getElem_set, hne]⟩
theorem valT_set {L : List EntT} (h : neT L) (e : EntT) (c : CellT) : valT (setT L e) c = if e.cell = c then (e.2.2.1, e.2.2.2) else valT L c := by
  have hs := setT_ne (e := e) h
  split
  · rename_i hc
    subst hc
    unfold valT
    rw [getT_of hs mem_set_self]
  · rename_i hc
    rcases getT_mem (L := L) (c := c) with ⟨h1, h2⟩ | ⟨h1, h2⟩
    · have h3 := mem_set_other (e := e) h1 (by rw [h2]; exact fun h => hc h.symm)
      have h4 := getT_of hs h3
      rw [h2] at h4
      unfold valT
      rw [h4]
    · rcases getT_mem (L := setT L e) (c := c) with ⟨h3, h4⟩ | ⟨h3, _⟩
      · rcases mem_setT h3 with h5 | h5
        · exact (h2 _ h5 h4).elim
        · rw [h5] at h4
          exact (hc h4).elim
      · unfold valT
        rw [h3, h1]
theorem valT_add {L : List EntT} (h : neT L) (c : CellT) (a p : Int) (c' : CellT) : valT (addT L c a p) c' = if c = c' then ((valT L c).1 + a, (valT L c).2 + p) else valT L c' := by
  unfold addT
  rw [valT_set h]
  rfl
theorem addT_ne {L : List EntT} (h : neT L) (c : CellT) (a p : Int) : neT (addT L c a p) := setT_ne h
/-- all counters are from 0 to a bound -/
def bdT (K : Int) (L : List EntT) : Prop := ∀ e ∈ L, 0 ≤ e.2.2.1 ∧ e.2.2.1 ≤ K ∧ 0 ≤ e.2.2.2 ∧ e.2.2.2 ≤ K
theorem bd_get {K : Int} (hK : 0 ≤ K) {L : List EntT} (h : bdT K L) (c : CellT) : 0 ≤ (getT L c).2.2.1 ∧ (getT L c).2.2.1 ≤ K ∧ 0 ≤ (getT L c).2.2.2 ∧ (getT L c).2.2.2 ≤ K := by
  rcases getT_mem (L := L) (c := c) with ⟨h1, _⟩ | ⟨h1, _⟩
  · exact h _ h1
  · rw [h1]
    simp only [e0]
    omega
theorem bd_add {K : Int} (hK : 0 ≤ K) {L : List EntT} (h : bdT K L) (c : CellT) (a p : Int) (ha : 0 ≤ a ∧ a ≤ 1) (hp : 0 ≤ p ∧ p ≤ 1) : bdT (K + 1) (addT L c a p) := by
  intro e he
  have h1 := bd_get hK h c
  rcases mem_setT he with h2 | rfl
  · have := h e h2
    omega
  · dsimp only
    omega
end Go.Proofs.YtodaijlclbngbaaGreat.En
