import Derived.Test.YtadichckbogcjaaGreatDoorZToolsFirst11
import Derived.Test.YtadichckbogcjaaGreatDoorZToolsFirst13
import Derived.Test.YtadichckbogcjaaGreatDoorZToolsFirst09
import Derived.Test.YtadichckbogcjaaGreatDoorZToolsFirst08
import Derived.Maps.Own
import Derived.Maps.OwnOps
import Derived.MapKept
set_option linter.all false
section
namespace Go.Proofs.YtadichckbogcjaaGreatDoor.En
open Go.RowKit
set_option maxRecDepth 100000
def inB (x : CellT) (e : CellT) : Bool := decide (e = x)
theorem Index_w (A : Option Addr) (c : Nat) (l : List CellT) (x : CellT) {n : Nat} (hl : l.length = n) (hn : n ≤ 1000000000) :
    CallW Tryz.prog 100 [.v (.slice A n c), .a [I x.1, I x.2]] (fun w => ArgSl w A n 2 (l.map encC)) (I (idxF (inB x) l)) := by
  refine CallW.of Tryz.func100 rfl tabOk rfl rfl rfl (by simp [SV.wfs, SV.wf]) (by simp [SV.wfs, SV.wf]) fun w hpre => ?_
  (conv=>whnf);repeat' (first|((with_reducible refine isW ?_;first|refine xwr_ok (by omega) (by omega) ?_|refine xwr_raw ?_);conv=>whnf)|((first|refine DrawX_s tabOk folOk ?_|refine DrawS_i (by kernel_rfl) ?_|with_reducible refine andX_i ?_ ?_)<;>conv=>whnf)|with_reducible exact rfl|((with_reducible first|refine xif_kt (by assumption) ?_|refine xif_kf (by assumption) ?_);conv=>whnf)|((with_reducible refine xif_s ?_ ?_)<;>(intro hb;(try simp (disch:=omega) only [hbS] at hb)<;>conv=>whnf)))
  refine LoopX_inv tabOk (α := Nat) (fun k => k ≤ n ∧ ∀ j, j < k → inB x (l.getD j c0) = false) (fun k => [(0, .v (.slice A n c)), (3, .p 0 0), (7, I n), (8, I k)]) (fun _ => [.box 25 [I x.1, I x.2]]) (fun k => n - k) 0 [0] ⟨Nat.zero_le _, fun i hi => by omega⟩ ?_ ?_
  · ((refine ⟨?_, ?_, ?_, ?_⟩) <;> (repeat' ((conv => whnf); apply And.intro)) <;> (try (first | exact trivial | decide)))
    all_goals first | rfl | exact fun _ _ h => h | simp [SV.wf, SV.wfs]
  · rintro k ⟨hk, hz⟩
    (conv=>whnf);repeat' (first|((with_reducible refine isV ?_);first|((first|refine ValX_index tabOk rfl (hpre.mem (by decide) rfl) rfl ?_ ?_ ?_|(with_reducible refine nat_idx ?_);refine ValX_loadEn _ _ (c0) tabOk rfl rfl rfl rfl (hpre.mem (by decide) rfl) ?_ ?_ ?_|refine ValX_loadE _ _ (c0) tabOk rfl rfl rfl rfl (hpre.mem (by decide) rfl) ?_ ?_ ?_)<;>first|rfl|omega|with_reducible refine isP ?_|conv=>whnf))|((with_reducible refine isW ?_;first|refine xwr_ok (by omega) (by omega) ?_|refine xwr_raw ?_);conv=>whnf)|((first|refine DrawX_s tabOk folOk ?_|refine DrawS_i (by kernel_rfl) ?_|with_reducible refine andX_i ?_ ?_)<;>conv=>whnf)|with_reducible exact rfl|((with_reducible first|refine xif_kt (by assumption) ?_|refine xif_kf (by assumption) ?_);conv=>whnf)|((with_reducible refine xif_s ?_ ?_)<;>(intro hb;(try simp (disch:=omega) only [hbS] at hb)<;>conv=>whnf)))
    · refine Fin_pure rfl ?_ trivial
      rw [idxF_at (d := c0) (k := k) (by omega) hz (by simp only [inB, decide_eq_true_eq]; exact Prod.ext hb.1.symm hb.2.1.symm)]
    · refine ⟨k + 1, [0], ⟨by omega, fun j hj => ?_⟩, ?_, by (try dsimp only); omega⟩
      · by_cases e : j = k
        · rw [e]
          simp only [inB, decide_eq_false_iff_not]
          intro h
          rw [h] at hb
          simp at hb
        · exact hz j (by omega)
      · ((refine ⟨?_, ?_, ?_, ?_⟩) <;> (repeat' ((conv => whnf); apply And.intro)) <;> (try (first | exact trivial | decide)))
        all_goals first | rfl | exact fun _ _ h => h | exact I_eq (wr (by omega) (by omega)) | simp [SV.wf, SV.wfs]
    · refine Fin_pure rfl ?_ trivial
      rw [idxF_none (d := c0) (fun j hj => hz j (by omega))]
theorem idxF_ge {α : Type} (p : α → Bool) (l : List α) : decide (0 ≤ idxF p l) = l.any p := by
  rw [Bool.eq_iff_iff, decide_eq_true_eq, List.any_eq_true]
  unfold idxF
  cases h : l.findIdx? p with
  | none =>
    rw [List.findIdx?_eq_none_iff] at h
    constructor
    · intro h1
      exact absurd h1 (by decide)
    · rintro ⟨x, hx, hp⟩
      rw [h x hx] at hp
      cases hp
  | some i =>
    rw [List.findIdx?_eq_some_iff_getElem] at h
    obtain ⟨h1, h2, _⟩ := h
    exact ⟨fun _ => ⟨l[i], List.getElem_mem h1, h2⟩, fun _ => by dsimp only; omega⟩
theorem Contains_w (A : Option Addr) (c : Nat) (l : List CellT) (x : CellT) {n : Nat} (hl : l.length = n) (hn : n ≤ 1000000000) :
    CallW Tryz.prog 56 [.v (.slice A n c), .a [I x.1, I x.2]] (fun w => ArgSl w A n 2 (l.map encC)) (B (l.any (inB x))) := by
  refine CallW.of Tryz.func56 rfl tabOk rfl rfl rfl (by simp [SV.wfs, SV.wf]) (by simp [SV.wfs, SV.wf]) fun w hpre => ?_
  (conv=>whnf);repeat' (first|((with_reducible refine isC ?_);first|(refine CallX_w (Index_w A c l x hl hn) (hpre.mem (by decide) rfl) ?_; conv => whnf))|with_reducible exact rfl|((with_reducible first|refine xif_kt (by assumption) ?_|refine xif_kf (by assumption) ?_);conv=>whnf)|((with_reducible refine xif_s ?_ ?_)<;>(intro hb;(try simp (disch:=omega) only [hbS] at hb)<;>conv=>whnf)))
  refine Fin_pure rfl (B_eq ?_) trivial
  exact idxF_ge _ _
abbrev BeamT := Int × Int
def encB (b : BeamT) : List Value := [.int .i64 b.1, .int .i64 b.2]
def b0 : BeamT := (0, 0)
def wrongB (b : BeamT) : Bool := decide (b.1 < 0) || decide (256 ≤ b.1) || decide (b.2 < -1) || decide (1024 < b.2)
theorem wrong_x (b : BeamT) : PureX Tryz.prog 93 [.a [I b.1, I b.2]] (B (wrongB b)) := by
  refine PureX.of Tryz.func93 rfl tabOk rfl rfl rfl (by simp [SV.wfs, SV.wf]) (by simp [SV.wfs, SV.wf]) fun w => ?_
  (conv=>whnf);repeat' (first|with_reducible exact rfl|((with_reducible first|refine xif_kt (by assumption) ?_|refine xif_kf (by assumption) ?_);conv=>whnf)|((with_reducible refine xif_s ?_ ?_)<;>(intro hb;(try simp (disch:=omega) only [hbS] at hb)<;>conv=>whnf)))
  all_goals refine Fin_pure rfl (B_eq ?_) trivial
  all_goals rw [Bool.eq_iff_iff]
  all_goals simp only [wrongB, Bool.or_eq_true, decide_eq_true_eq, true_iff, gt_iff_lt, ge_iff_le]
  all_goals omega
theorem IndexFuncB_w (g : Nat) (p : BeamT → Bool) (hg : ∀ e : BeamT, PureX Tryz.prog g [.a [I e.1, I e.2]] (B (p e))) (A : Option Addr) (c : Nat) (l : List BeamT) {n : Nat} (hl : l.length = n) (hn : n ≤ 1000000000) :
    CallW Tryz.prog 129 [.v (.slice A n c), .v (.func (.func g) #[] #[])] (fun w => ArgSl w A n 2 (l.map encB)) (I (idxF p l)) := by
  refine CallW.of Tryz.func129 rfl tabOk rfl rfl rfl (by simp [SV.wfs, SV.wf]) (by simp [SV.wfs, SV.wf]) fun w hpre => ?_
  (conv=>whnf);repeat' (first|((with_reducible refine isW ?_;first|refine xwr_ok (by omega) (by omega) ?_|refine xwr_raw ?_);conv=>whnf)|with_reducible exact rfl|((with_reducible first|refine xif_kt (by assumption) ?_|refine xif_kf (by assumption) ?_);conv=>whnf)|((with_reducible refine xif_s ?_ ?_)<;>(intro hb;(try simp (disch:=omega) only [hbS] at hb)<;>conv=>whnf)))
  refine LoopX_inv tabOk (α := Nat) (fun k => k ≤ n ∧ ∀ j, j < k → p (l.getD j b0) = false) (fun k => [(0, .v (.slice A n c)), (1, .v (.func (.func g) #[] #[])), (7, I n), (8, I k)]) (fun _ => []) (fun k => n - k) 0 [] ⟨Nat.zero_le _, fun i hi => by omega⟩ ?_ ?_
  · ((refine ⟨?_, ?_, ?_, ?_⟩) <;> (repeat' ((conv => whnf); apply And.intro)) <;> (try (first | exact trivial | decide)))
    all_goals first | rfl | exact fun _ _ h => h | simp [SV.wf, SV.wfs]
  · rintro k ⟨hk, hz⟩
    (conv=>whnf);repeat' (first|((with_reducible refine isC ?_);first|((with_reducible refine CallX_pure (hg (l.getD k b0)) ?_)<;>first|omega|with_reducible refine isP ?_|conv=>whnf))|((with_reducible refine isV ?_);first|((first|refine ValX_index tabOk rfl (hpre.mem (by decide) rfl) rfl ?_ ?_ ?_|(with_reducible refine nat_idx ?_);refine ValX_loadEn _ _ (b0) tabOk rfl rfl rfl rfl (hpre.mem (by decide) rfl) ?_ ?_ ?_|refine ValX_loadE _ _ (b0) tabOk rfl rfl rfl rfl (hpre.mem (by decide) rfl) ?_ ?_ ?_)<;>first|rfl|omega|with_reducible refine isP ?_|conv=>whnf))|((with_reducible refine isW ?_;first|refine xwr_ok (by omega) (by omega) ?_|refine xwr_raw ?_);conv=>whnf)|with_reducible exact rfl|((with_reducible first|refine xif_kt (by assumption) ?_|refine xif_kf (by assumption) ?_);conv=>whnf)|((with_reducible refine xif_s ?_ ?_)<;>(intro hb;(try simp (disch:=omega) only [hbS] at hb)<;>conv=>whnf)))
    · refine Fin_pure rfl ?_ trivial
      rw [idxF_at (k := k) (by omega) hz hb]
    · refine ⟨k + 1, [], ⟨by omega, fun j hj => ?_⟩, ?_, by (try dsimp only); omega⟩
      · by_cases e : j = k
        · rw [e]; exact hb
        · exact hz j (by omega)
      · ((refine ⟨?_, ?_, ?_, ?_⟩) <;> (repeat' ((conv => whnf); apply And.intro)) <;> (try (first | exact trivial | decide)))
        all_goals first | rfl | exact fun _ _ h => h | exact I_eq (wr (by omega) (by omega)) | simp [SV.wf, SV.wfs]
    · refine Fin_pure rfl ?_ trivial
      rw [idxF_none (d := b0) (fun j hj => hz j (by omega))]
theorem ContainsFuncB_w (g : Nat) (p : BeamT → Bool) (hg : ∀ e : BeamT, PureX Tryz.prog g [.a [I e.1, I e.2]] (B (p e))) (A : Option Addr) (c : Nat) (l : List BeamT) {n : Nat} (hl : l.length = n) (hn : n ≤ 1000000000) :
    CallW Tryz.prog 94 [.v (.slice A n c), .v (.func (.func g) #[] #[])] (fun w => ArgSl w A n 2 (l.map encB)) (B (l.any p)) := by
  refine CallW.of Tryz.func94 rfl tabOk rfl rfl rfl (by simp [SV.wfs, SV.wf]) (by simp [SV.wfs, SV.wf]) fun w hpre => ?_
  (conv=>whnf);repeat' (first|((with_reducible refine isC ?_);first|(refine CallX_w (IndexFuncB_w g p hg A c l hl hn) (hpre.mem (by decide) rfl) ?_; conv => whnf))|with_reducible exact rfl|((with_reducible first|refine xif_kt (by assumption) ?_|refine xif_kf (by assumption) ?_);conv=>whnf)|((with_reducible refine xif_s ?_ ?_)<;>(intro hb;(try simp (disch:=omega) only [hbS] at hb)<;>conv=>whnf)))
  refine Fin_pure rfl (B_eq ?_) trivial
  exact idxF_ge _ _
def scanB (l : List BeamT) : Bool := decide (l.length ≤ 32) && !l.any wrongB
theorem scanned_w (A : Option Addr) (c : Nat) (l : List BeamT) {n : Nat} (hl : l.length = n) (hn : n ≤ maxLen) :
    CallW Tryz.prog 53 [.v (.slice A n c)] (fun w => ArgSl w A n 2 (l.map encB)) (B (scanB l)) := by
  unfold maxLen at hn
  by_cases h : n ≤ 32
  · refine CallW.of Tryz.func53 rfl tabOk rfl rfl rfl (by simp [SV.wfs, SV.wf]) (by simp [SV.wfs, SV.wf]) fun w hpre => ?_
    (conv=>whnf);repeat' (first|((with_reducible refine isC ?_);first|(refine CallX_w (ContainsFuncB_w 93 wrongB wrong_x A c l hl (by omega)) (hpre.mem (by decide) rfl) ?_; conv => whnf))|with_reducible exact rfl|((with_reducible first|refine xif_kt (by assumption) ?_|refine xif_kf (by assumption) ?_);conv=>whnf)|((with_reducible refine xif_s ?_ ?_)<;>(intro hb;(try simp (disch:=omega) only [hbS] at hb)<;>conv=>whnf)))
    all_goals try (exfalso; omega)
    refine Fin_pure rfl (B_eq ?_) trivial
    have : decide (l.length ≤ 32) = true := by simp; omega
    rw [scanB, this, Bool.true_and]
  · refine CallW.of Tryz.func53 rfl tabOk rfl rfl rfl (by simp [SV.wfs, SV.wf]) (by simp [SV.wfs, SV.wf]) fun w hpre => ?_
    (conv=>whnf);repeat' (first|with_reducible exact rfl|((with_reducible first|refine xif_kt (by assumption) ?_|refine xif_kf (by assumption) ?_);conv=>whnf)|((with_reducible refine xif_s ?_ ?_)<;>(intro hb;(try simp (disch:=omega) only [hbS] at hb)<;>conv=>whnf)))
    all_goals try (exfalso; omega)
    refine Fin_pure rfl (B_eq ?_) trivial
    have : decide (l.length ≤ 32) = false := by simp; omega
    rw [scanB, this, Bool.false_and]
theorem idxT_none {L : List EntT} {c : CellT} (h : idxT L c = none) : ∀ e ∈ L, e.cell ≠ c := by
  unfold idxT at h
  rw [List.findIdx?_eq_none_iff] at h
  intro e he
  simpa using h e he
theorem getT_mem {L : List EntT} {c : CellT} : getT L c ∈ L ∧ (getT L c).cell = c ∨ getT L c = e0 ∧ ∀ e ∈ L, e.cell ≠ c := by
  unfold getT
  cases h : idxT L c with
  | none => exact .inr ⟨rfl, idxT_none h⟩
  | some i =>
    obtain ⟨h1, h2⟩ := idxT_lt h
    refine .inl ⟨?_, h2⟩
    simp [h1]
theorem mem_setT {L : List EntT} {e x : EntT} (h : x ∈ setT L e) : x ∈ L ∨ x = e := by
  unfold setT at h
  split at h
  · rcases List.mem_or_eq_of_mem_set h with h | h
    · exact .inl h
    · exact .inr h
  · rcases List.mem_append.1 h with h | h
    · exact .inl h
    · exact .inr (by simpa using h)
theorem setT_len (L : List EntT) (e : EntT) : (setT L e).length ≤ L.length + 1 := by
  unfold setT
  split <;> simp
theorem setT_ne {L : List EntT} {e : EntT} (h : neT L) : neT (setT L e) := by
  unfold neT at *
  unfold setT
  cases hi : idxT L e.cell with
  | none =>
    have hn := idxT_none hi
    dsimp only
    rw [List.pairwise_append]
    refine ⟨h, by simp, fun a ha b hb => ?_⟩
    simp at hb
    rw [hb]
    exact hn a ha
  | some i =>
    obtain ⟨h1, h2⟩ := idxT_lt hi
    have e2 : L[i].cell = e.cell := by simpa [h1] using h2
    dsimp only
    rw [List.pairwise_iff_getElem] at h ⊢
    intro a b ha hb hab
    simp only [List.length_set] at ha hb
    rw [List.getElem_set, List.getElem_set]
    have hh := h a b ha hb hab
    split
    · rename_i e1
      split
      · omega
      · subst e1
        rw [← e2]
        exact hh
    · split
      · rename_i e1
        subst e1
        rw [← e2]
        exact hh
      · exact hh
def valT (L : List EntT) (c : CellT) : Int × Int := ((getT L c).2.2.1, (getT L c).2.2.2)
theorem getT_of {L : List EntT} (h : neT L) {e : EntT} (he : e ∈ L) : getT L e.cell = e := by
  rcases getT_mem (L := L) (c := e.cell) with ⟨h1, h2⟩ | ⟨_, h2⟩
  · obtain ⟨i, hi, e1⟩ := List.getElem_of_mem h1
    obtain ⟨j, hj, e2⟩ := List.getElem_of_mem he
    unfold neT at h
    rw [List.pairwise_iff_getElem] at h
    rcases Nat.lt_trichotomy i j with hlt | rfl | hgt
    · exact (h i j hi hj hlt (by rw [e1, e2, h2])).elim
    · rw [← e1, e2]
    · exact (h j i hj hi hgt (by rw [e1, e2, h2])).elim
  · exact (h2 e he rfl).elim
theorem mem_set_self {L : List EntT} {e : EntT} : e ∈ setT L e := by
  unfold setT
  cases hi : idxT L e.cell with
  | none => simp
  | some i =>
    have h1 := (idxT_lt hi).1
    dsimp only
    exact List.mem_iff_getElem.2 ⟨i, by simpa using h1, by simp⟩
theorem mem_set_other {L : List EntT} {e x : EntT} (hx : x ∈ L) (hc : x.cell ≠ e.cell) : x ∈ setT L e := by
  unfold setT
  cases hi : idxT L e.cell with
  | none => simp [hx]
  | some i =>
    obtain ⟨h1, h2⟩ := idxT_lt hi
    obtain ⟨j, hj, rfl⟩ := List.getElem_of_mem hx
    dsimp only
    have hne : i ≠ j := by
      rintro rfl
      exact hc (by simpa [h1] using h2)
    exact List.mem_iff_getElem.2 ⟨j, by simpa using hj, by simp [List.getElem_set, hne]⟩
theorem valT_set {L : List EntT} (h : neT L) (e : EntT) (c : CellT) : valT (setT L e) c = if e.cell = c then (e.2.2.1, e.2.2.2) else valT L c := by
  have hs := setT_ne (e := e) h
  split
  · rename_i hc
    subst hc
    unfold valT
    rw [getT_of hs mem_set_self]
  · rename_i hc
    rcases getT_mem (L := L) (c := c) with ⟨h1, h2⟩ | ⟨h1, h2⟩
    · have h3 := mem_set_other (e := e) h1 (by rw [h2]; exact fun h => hc h.symm)
      have h4 := getT_of hs h3
      rw [h2] at h4
      unfold valT
      rw [h4]
    · rcases getT_mem (L := setT L e) (c := c) with ⟨h3, h4⟩ | ⟨h3, _⟩
      · rcases mem_setT h3 with h5 | h5
        · exact (h2 _ h5 h4).elim
        · rw [h5] at h4
          exact (hc h4).elim
      · unfold valT
        rw [h3, h1]
theorem valT_add {L : List EntT} (h : neT L) (c : CellT) (a p : Int) (c' : CellT) : valT (addT L c a p) c' = if c = c' then ((valT L c).1 + a, (valT L c).2 + p) else valT L c' := by
  unfold addT
  rw [valT_set h]
  rfl
theorem addT_ne {L : List EntT} (h : neT L) (c : CellT) (a p : Int) : neT (addT L c a p) := setT_ne h
def bdT (K : Int) (L : List EntT) : Prop := ∀ e ∈ L, 0 ≤ e.2.2.1 ∧ e.2.2.1 ≤ K ∧ 0 ≤ e.2.2.2 ∧ e.2.2.2 ≤ K
theorem bd_get {K : Int} (hK : 0 ≤ K) {L : List EntT} (h : bdT K L) (c : CellT) : 0 ≤ (getT L c).2.2.1 ∧ (getT L c).2.2.1 ≤ K ∧ 0 ≤ (getT L c).2.2.2 ∧ (getT L c).2.2.2 ≤ K := by
  rcases getT_mem (L := L) (c := c) with ⟨h1, _⟩ | ⟨h1, _⟩
  · exact h _ h1
  · rw [h1]
    simp only [e0]
    omega
theorem bd_add {K : Int} (hK : 0 ≤ K) {L : List EntT} (h : bdT K L) (c : CellT) (a p : Int) (ha : 0 ≤ a ∧ a ≤ 1) (hp : 0 ≤ p ∧ p ≤ 1) : bdT (K + 1) (addT L c a p) := by
  intro e he
  have h1 := bd_get hK h c
  rcases mem_setT he with h2 | rfl
  · have := h e h2
    omega
  · dsimp only
    omega
end Go.Proofs.YtadichckbogcjaaGreatDoor.En
end
section
namespace Go.Proofs.YtadichckbogcjaaGreatDoor.En
open Go.RowKit
def lexC : List Int → List Int → Int
  | [], [] => 0
  | [], _ :: _ => -1
  | _ :: _, [] => 1
  | x :: xs, y :: ys => if cmpI x y = 0 then lexC xs ys else cmpI x y
theorem cmpI_neg' (x y : Int) : cmpI y x = -cmpI x y := by
  unfold cmpI
  split <;> split <;> (try split) <;> omega
theorem cmpI_zero {x y : Int} : cmpI x y = 0 ↔ x = y := by
  unfold cmpI
  split
  · omega
  · split <;> omega
theorem cmpI_pos {x y : Int} : 0 < cmpI x y ↔ y < x := by
  unfold cmpI
  split
  · omega
  · split <;> omega
theorem lexC_neg : ∀ xs ys : List Int, lexC ys xs = -lexC xs ys
  | [], [] => rfl
  | [], _ :: _ => rfl
  | _ :: _, [] => rfl
  | x :: xs, y :: ys => by
    unfold lexC
    rw [cmpI_neg' x y, lexC_neg xs ys]
    by_cases h : cmpI x y = 0
    · rw [if_pos h, if_pos (by omega)]
    · rw [if_neg h, if_neg (by omega)]
theorem lexC_zero : ∀ {xs ys : List Int}, lexC xs ys = 0 → xs = ys
  | [], [], _ => rfl
  | [], _ :: _, h => by simp [lexC] at h
  | _ :: _, [], h => by simp [lexC] at h
  | x :: xs, y :: ys, h => by
    unfold lexC at h
    by_cases hc : cmpI x y = 0
    · rw [if_pos hc] at h
      rw [cmpI_zero.1 hc, lexC_zero h]
    · rw [if_neg hc] at h
      exact (hc h).elim
theorem lexC_self : ∀ xs : List Int, lexC xs xs = 0
  | [] => rfl
  | x :: xs => by
    unfold lexC
    rw [if_pos (cmpI_zero.2 rfl), lexC_self xs]
theorem lexC_trans : ∀ {xs ys zs : List Int}, lexC xs ys ≤ 0 → lexC ys zs ≤ 0 → lexC xs zs ≤ 0
  | [], [], _, _, h => h
  | [], _ :: _, [], _, h => by simp [lexC] at h
  | [], _ :: _, _ :: _, _, _ => by simp [lexC]
  | _ :: _, [], _, h, _ => by simp [lexC] at h
  | _ :: _, _ :: _, [], _, h => by simp [lexC] at h
  | x :: xs, y :: ys, z :: zs, h1, h2 => by
    unfold lexC at *
    have p1 := @cmpI_pos x y
    have p2 := @cmpI_pos y z
    have p3 := @cmpI_pos x z
    have z1 := @cmpI_zero x y
    have z2 := @cmpI_zero y z
    have z3 := @cmpI_zero x z
    by_cases a : cmpI x y = 0
    · rw [if_pos a] at h1
      by_cases b : cmpI y z = 0
      · rw [if_pos b] at h2
        rw [if_pos (by rw [z3, z1.1 a, z2.1 b])]
        exact lexC_trans h1 h2
      · rw [if_neg b] at h2
        have : x = y := z1.1 a
        subst this
        rw [if_neg b]
        exact h2
    · rw [if_neg a] at h1
      by_cases b : cmpI y z = 0
      · have : y = z := z2.1 b
        subst this
        rw [if_neg a]
        exact h1
      · rw [if_neg b] at h2
        have : x < z := by omega
        rw [if_neg (by omega)]
        omega
section
variable {α : Type} (key : α → List Int)
def mxO (o : Option α) (v : α) : Option α := match o with
  | none => some v
  | some u => if 0 < lexC (key v) (key u) then some v else some u
def TopOf (l : List α) (o : Option α) : Prop := match o with
  | none => l = []
  | some v => v ∈ l ∧ ∀ u ∈ l, lexC (key u) (key v) ≤ 0
theorem TopOf.snoc {l : List α} {o : Option α} (h : TopOf key l o) (v : α) : TopOf key (l ++ [v]) (mxO key o v) := by
  cases o with
  | none =>
    have h : l = [] := h
    subst h
    exact ⟨by simp, by simp [lexC_self]⟩
  | some u =>
    obtain ⟨h1, h2⟩ := h
    unfold mxO
    dsimp only
    by_cases hc : 0 < lexC (key v) (key u)
    · rw [if_pos hc]
      refine ⟨by simp, fun x hx => ?_⟩
      rcases List.mem_append.1 hx with hx | hx
      · refine lexC_trans (h2 x hx) ?_
        rw [lexC_neg (key v) (key u)]
        omega
      · rw [List.mem_singleton.1 hx, lexC_self]
        exact Int.le_refl _
    · rw [if_neg hc]
      refine ⟨List.mem_append_left _ h1, fun x hx => ?_⟩
      rcases List.mem_append.1 hx with hx | hx
      · exact h2 x hx
      · rw [List.mem_singleton.1 hx]
        omega
theorem TopOf.unique (hk : ∀ a b, key a = key b → a = b) {l m : List α} {o p : Option α} (h1 : TopOf key l o) (h2 : TopOf key m p) (h : ∀ x, x ∈ l ↔ x ∈ m) : o = p := by
  cases o with
  | none =>
    have h1 : l = [] := h1
    subst h1
    cases p with
    | none => rfl
    | some v => exact absurd ((h v).2 h2.1) (by simp)
  | some u =>
    cases p with
    | none =>
      have h2 : m = [] := h2
      subst h2
      exact absurd ((h u).1 h1.1) (by simp)
    | some v =>
      have a := h1.2 v ((h v).2 h2.1)
      have b := h2.2 u ((h u).1 h1.1)
      rw [lexC_neg (key u) (key v)] at a
      exact congrArg some (hk u v (lexC_zero (by omega)))
theorem TopOf.congr {l m : List α} {o : Option α} (h : TopOf key l o) (hm : ∀ x, x ∈ l ↔ x ∈ m) : TopOf key m o := by
  cases o with
  | none =>
    have h : l = [] := h
    subst h
    exact List.eq_nil_iff_forall_not_mem.2 fun x hx => absurd ((hm x).2 hx) (by simp)
  | some v => exact ⟨(hm v).1 h.1, fun u hu => h.2 u ((hm u).2 hu)⟩
end
end Go.Proofs.YtadichckbogcjaaGreatDoor.En
namespace Go.Proofs.YtadichckbogcjaaGreatDoor.En
open Go.RowKit
abbrev PlT := Int × Bool × Int × Int × Int
abbrev BmsT := List (Int × Int)
def keyP (p : PlT) : List Int := [p.1, if p.2.1 then 1 else 0, p.2.2.1, p.2.2.2.1, p.2.2.2.2]
theorem keyP_inj (a b : PlT) (h : keyP a = keyP b) : a = b := by
  obtain ⟨a1, a2, a3, a4, a5⟩ := a
  obtain ⟨b1, b2, b3, b4, b5⟩ := b
  simp only [keyP, List.cons.injEq, and_true] at h
  obtain ⟨h1, h2, h3, h4, h5⟩ := h
  have : a2 = b2 := by cases a2 <;> cases b2 <;> simp at h2 <;> rfl
  subst h1 h3 h4 h5 this
  rfl
def flatB : BmsT → List Int
  | [] => []
  | b :: r => b.1 :: b.2 :: flatB r
def keyS (s : BmsT) : List Int := (s.length : Int) :: flatB s
theorem flatB_inj : ∀ (a b : BmsT), flatB a = flatB b → a = b
  | [], [], _ => rfl
  | [], _ :: _, h => by simp [flatB] at h
  | _ :: _, [], h => by simp [flatB] at h
  | (a1, a2) :: a, (b1, b2) :: b, h => by
    simp only [flatB, List.cons.injEq] at h
    obtain ⟨h1, h2, h3⟩ := h
    rw [h1, h2, flatB_inj a b h3]
theorem keyS_inj (a b : BmsT) (h : keyS a = keyS b) : a = b := by
  simp only [keyS, List.cons.injEq] at h
  exact flatB_inj a b h.2
def vId (k : Int) : Bool := decide (0 ≤ k) && decide (k < 64)
def vPl (p : PlT) : Bool := decide (1 ≤ p.1) && decide (p.1 ≤ 1073741824) && (if p.2.1 then decide (p.2.2.1 = 0) && decide (p.2.2.2.1 = 0) && decide (p.2.2.2.2 = 0) else szB p.2.2.1 262144 && szB p.2.2.2.1 262144 && decide (0 ≤ p.2.2.2.2) && decide (p.2.2.2.2 < 256))
abbrev AtT := (Int → Option BmsT) × (Int → Option PlT)
def updF {α : Type} (f : Int → Option α) (k : Int) (v : Option α) : Int → Option α := fun i => if i = k then v else f i
def putA (a : AtT) (k : Int) (s : BmsT) : AtT := if scanB s && vId k then (updF a.1 k (mxO keyS (a.1 k) s), a.2) else a
def plcA (a : AtT) (k : Int) (p : PlT) : AtT := if vPl p && vId k then (a.1, updF a.2 k (mxO keyP (a.2 k) p)) else a
abbrev OpT := Bool × Int × BmsT × PlT
def stepA (a : AtT) (o : OpT) : AtT := if o.1 then plcA a o.2.1 o.2.2.2 else putA a o.2.1 o.2.2.1
def valS (l : List OpT) (k : Int) : List BmsT := (l.filter fun o => !o.1 && scanB o.2.2.1 && vId o.2.1 && decide (o.2.1 = k)).map fun o => o.2.2.1
def valP (l : List OpT) (k : Int) : List PlT := (l.filter fun o => o.1 && vPl o.2.2.2 && vId o.2.1 && decide (o.2.1 = k)).map fun o => o.2.2.2
def TopA (l : List OpT) (a : AtT) : Prop := ∀ k, TopOf keyS (valS l k) (a.1 k) ∧ TopOf keyP (valP l k) (a.2 k)
theorem TopA.step {l : List OpT} {a : AtT} (h : TopA l a) (o : OpT) : TopA (l ++ [o]) (stepA a o) := by
  intro k
  obtain ⟨h1, h2⟩ := h k
  unfold stepA plcA putA valS valP
  simp only [List.filter_append, List.map_append]
  obtain ⟨mv, id, s, p⟩ := o
  dsimp only
  cases mv with
  | true =>
    simp only [if_true, Bool.not_true, Bool.false_and, List.filter_cons, List.filter_nil, Bool.false_eq_true, if_false, List.map_nil, List.append_nil, Bool.true_and]
    cases hv : vPl p && vId id with
    | false =>
      simp only [Bool.false_and, Bool.false_eq_true, if_false, List.map_nil, List.append_nil]
      exact ⟨h1, h2⟩
    | true =>
      simp only [if_true, Bool.true_and]
      refine ⟨h1, ?_⟩
      unfold updF
      by_cases hk : id = k
      · subst hk
        simp only [decide_true, if_true, List.map_cons, List.map_nil]
        exact h2.snoc keyP p
      · have hk' : ¬ k = id := fun e => hk e.symm
        simp only [hk', hk, decide_false, Bool.false_eq_true, if_false, List.map_nil, List.append_nil]
        exact h2
  | false =>
    simp only [Bool.not_false, Bool.true_and, Bool.false_and, List.filter_cons, List.filter_nil, Bool.false_eq_true, if_false, List.map_nil, List.append_nil]
    cases hv : scanB s && vId id with
    | false =>
      simp only [Bool.false_and, Bool.false_eq_true, if_false, List.map_nil, List.append_nil]
      exact ⟨h1, h2⟩
    | true =>
      simp only [if_true, Bool.true_and]
      refine ⟨?_, h2⟩
      unfold updF
      by_cases hk : id = k
      · subst hk
        simp only [decide_true, if_true, List.map_cons, List.map_nil]
        exact h1.snoc keyS s
      · have hk' : ¬ k = id := fun e => hk e.symm
        simp only [hk', hk, decide_false, Bool.false_eq_true, if_false, List.map_nil, List.append_nil]
        exact h1
theorem TopA.unique {l m : List OpT} {a b : AtT} (h1 : TopA l a) (h2 : TopA m b) (h : ∀ o, o ∈ l ↔ o ∈ m) : a = b := by
  refine Prod.ext (funext fun k => ?_) (funext fun k => ?_)
  · refine TopOf.unique keyS keyS_inj (h1 k).1 (h2 k).1 fun x => ?_
    unfold valS
    simp only [List.mem_map, List.mem_filter, h]
  · refine TopOf.unique keyP keyP_inj (h1 k).2 (h2 k).2 fun x => ?_
    unfold valP
    simp only [List.mem_map, List.mem_filter, h]
end Go.Proofs.YtadichckbogcjaaGreatDoor.En
end
section
namespace Go.Proofs.YtadichckbogcjaaGreatDoor.En
open Go.RowKit Go.MapKept
open Go.ChangeMaps (setBlock)
set_option maxRecDepth 100000
section
variable {α : Type} (enc : α → Value)
def imE : List (Int × α) → Nat → List MapEntry
  | [], _ => []
  | (k, v) :: r, i => { key := .int .i64 k, val := enc v, born := i } :: imE r (i + 1)
def ImAt (w : World) (b : Nat) (m : List (Int × α)) : Prop := w.heap[b]? = some (.map (imE enc m 0).toArray m.length)
def ixI : List (Int × α) → Int → Option (Nat × α)
  | [], _ => none
  | (k', v) :: r, k => if k = k' then some (0, v) else (ixI r k).map fun p => (p.1 + 1, p.2)
def lkI (m : List (Int × α)) (k : Int) : Option α := (ixI m k).map (·.2)
def stI : List (Int × α) → Int → α → List (Int × α)
  | [], k, v => [(k, v)]
  | (k', v') :: r, k, v => if k = k' then (k, v) :: r else (k', v') :: stI r k v
variable {P : Program} {w w' : World} {b : Nat} {m : List (Int × α)}
theorem ixI_some : ∀ {m : List (Int × α)} {k : Int} {p : Nat × α} (v : α), ixI m k = some p → m[p.1]? = some (k, p.2) ∧ stI m k v = m.set p.1 (k, v)
  | [], _, _, _, h => by cases h
  | (k', u) :: r, k, p, v, h => by
    unfold ixI at h
    unfold stI
    by_cases hk : k = k'
    · rw [if_pos hk] at h
      cases h
      subst hk
      simp
    · rw [if_neg hk] at h
      rw [if_neg hk]
      cases hr : ixI r k with
      | none => rw [hr] at h; cases h
      | some q =>
        rw [hr] at h
        cases h
        obtain ⟨h1, h2⟩ := ixI_some v hr
        simp [h1, h2]
end
end Go.Proofs.YtadichckbogcjaaGreatDoor.En
namespace Go.Proofs.YtadichckbogcjaaGreatDoor.En
open Go.RowKit Go.MapKept
open Go.ChangeMaps (setBlock)
set_option maxRecDepth 100000
section
variable {α : Type} {enc : α → Value} {C : Ctx} {ob : List OB} {b : Nat} {m : List (Int × α)}
theorem ImAt.ext {w w' : World} (h : ImAt enc w b m) (hw : w'.heap[b]? = w.heap[b]?) : ImAt enc w' b m := hw.trans h
end
abbrev SlT := Option Addr × Nat × List (Int × Int)
def encBm (b : Int × Int) : List Value := [.int .i64 b.1, .int .i64 b.2]
def encS (s : SlT) : Value := .slice s.1 s.2.2.length s.2.1
def InF (w : World) (F : Nat → Prop) (s : SlT) : Prop := ArgSl w s.1 s.2.2.length 2 (s.2.2.map encBm) ∧ (s.2.2.length ≠ 0 → ∀ a o q, s.1 = some ⟨a, o, q⟩ → F a)
theorem InF.ext {w w' : World} {F F' : Nat → Prop} {s : SlT} (h : InF w F s) (hF : ∀ i, F i → F' i) (hw : ∀ i, F i → w'.heap[i]? = w.heap[i]?) : InF w' F' s := by
  obtain ⟨h1, h2⟩ := h
  refine ⟨⟨h1.len, h1.size, h1.one, fun hn => ?_⟩, fun hn a o q hA => hF _ (h2 hn a o q hA)⟩
  obtain ⟨b, o, hA, hc⟩ := h1.at_ hn
  refine ⟨b, o, hA, fun i x hi j v hj => ?_⟩
  rw [World.cell?_of_block (w := w) (hw b (h2 hn b o none hA))]
  exact hc i x hi j v hj
def scO (b : Nat) (m : List (Int × SlT)) : OB := .res fun w F => (ImAt encS w b m ∧ F b) ∧ ∀ e ∈ m, InF w F e.2
def bmO (s : SlT) : OB := .res fun w F => InF w F s
section
variable {C : Ctx} {ob : List OB} {b : Nat} {m : List (Int × SlT)}
theorem nth_sc {σ : Nat → Nat} {fp : Nat → Nat → Prop} {w : World} {j : Nat} (hm : Mem C σ fp ob w) (h : nth ob j = some (scO b m)) : (ImAt encS w b m ∧ fp j b) ∧ (∀ e ∈ m, InF w (fp j) e.2) ∧ j < ob.length := by
  rw [nth_eq] at h
  have := hm.at_ j _ h
  exact ⟨this.1.1, this.1.2, (List.getElem?_eq_some_iff.1 h).1⟩
theorem nth_bm {σ : Nat → Nat} {fp : Nat → Nat → Prop} {w : World} {j : Nat} {s : SlT} (hm : Mem C σ fp ob w) (h : nth ob j = some (bmO s)) : InF w (fp j) s ∧ j < ob.length := by
  rw [nth_eq] at h
  have := hm.at_ j _ h
  exact ⟨this.1, (List.getElem?_eq_some_iff.1 h).1⟩
def slOf (m : List (Int × SlT)) (k : Int) : SlT := (lkI m k).getD (none, 0, [])
theorem lkI_mem {α : Type} {m : List (Int × α)} {k : Int} {v : α} (h : lkI m k = some v) : (k, v) ∈ m := by
  unfold lkI at h
  cases hi : ixI m k with
  | none => rw [hi] at h; cases h
  | some p =>
    rw [hi] at h
    cases h
    exact List.mem_of_getElem? (ixI_some p.2 hi).1
theorem stI_mem {α : Type} : ∀ {m : List (Int × α)} {k : Int} {v : α} {e : Int × α}, e ∈ stI m k v → e ∈ m ∨ e = (k, v)
  | [], _, _, _, h => by simpa [stI] using h
  | (k', u) :: r, k, v, e, h => by
    unfold stI at h
    split at h
    · rcases List.mem_cons.1 h with h | h
      · exact .inr h
      · exact .inl (List.mem_cons_of_mem _ h)
    · rcases List.mem_cons.1 h with h | h
      · exact .inl (by rw [h]; exact List.mem_cons_self ..)
      · rcases stI_mem h with h | h
        · exact .inl (List.mem_cons_of_mem _ h)
        · exact .inr h
theorem ArgSl.sc (j : Nat) (k : Int) (h : nth ob j = some (scO b m)) : ∀ σ fp w, Mem C σ fp ob w → ArgSl w (slOf m k).1 (slOf m k).2.2.length 2 ((slOf m k).2.2.map encBm) := by
  intro σ fp w hm
  obtain ⟨_, hs, _⟩ := nth_sc hm h
  unfold slOf
  cases hi : lkI m k with
  | none => exact ⟨rfl, by simp, by simp, fun h => (h rfl).elim⟩
  | some v => exact (hs _ (lkI_mem hi)).1
theorem ArgSl.bm {s : SlT} (j : Nat) (h : nth ob j = some (bmO s)) : ∀ σ fp w, Mem C σ fp ob w → ArgSl w s.1 s.2.2.length 2 (s.2.2.map encBm) :=
  fun _ _ _ hm => (nth_bm hm h).1.1
end
end Go.Proofs.YtadichckbogcjaaGreatDoor.En
end
section
namespace Go.Proofs.YtadichckbogcjaaGreatDoor.En
open Go.RowKit
set_option maxRecDepth 100000
end Go.Proofs.YtadichckbogcjaaGreatDoor.En
end
