import Derived.Test.YtadichckbogcjaaGreatDoorZToolsFirst01
import Derived.Test.YtadichckbogcjaaGreatDoorZToolsFirst08
import Derived.Maps.RangeRun
import Derived.Sort.MapsRangeIn
import Derived.RangeFuncNested
import Derived.RangeFuncBound
import Derived.RangeFuncLeaves
import Derived.Maps.AppendAt
import Derived.WalkKit
import Derived.OwnWalkIn
import Derived.TacticsInMore
import Derived.RegionIn
import Derived.LoopNIn
import Derived.LoopIn
import Derived.Shelf.Abstract
import Derived.Shelf.AbstractIn
set_option linter.all false
section
namespace Go.Proofs.YtadichckbogcjaaGreatDoor.En
open Go.RowKit
abbrev EntT := Int × Int × Int × Int
abbrev CellT := Int × Int
def EntT.cell (e : EntT) : CellT := (e.1, e.2.1)
def e0 : EntT := (0, 0, 0, 0)
def encE (e : EntT) : List Value := [.int .i64 e.1, .int .i64 e.2.1, .int .i64 e.2.2.1, .int .i64 e.2.2.2]
def befB (a b : CellT) : Bool := decide (a.2 < b.2) || (decide (a.2 = b.2) && decide (a.1 < b.1))
theorem befB_iff (a b : CellT) : befB a b = true ↔ a.2 < b.2 ∨ (a.2 = b.2 ∧ a.1 < b.1) := by simp [befB]
theorem befB_false (a b : CellT) : befB a b = false ↔ ¬ (a.2 < b.2 ∨ (a.2 = b.2 ∧ a.1 < b.1)) := by rw [← befB_iff]; simp
theorem befB_trans {a b c : CellT} (h1 : befB a b = true) (h2 : befB b c = true) : befB a c = true := by rw [befB_iff] at *; omega
theorem befB_irr (a : CellT) : befB a a = false := by rw [befB_false]; omega
theorem befB_total {a b : CellT} (h1 : befB a b = false) (h2 : befB b a = false) : a = b := by
  rw [befB_false] at *
  exact Prod.ext (by omega) (by omega)
def countB (e : EntT) : Bool := szB e.2.2.1 1099511627776 && szB e.2.2.2 1099511627776
def goodB (e : EntT) : Bool := countB e && !(decide (e.2.2.1 = 0) && decide (e.2.2.2 = 0)) && szB e.1 16384 && szB e.2.1 16384
def okAt (l : List EntT) (i : Nat) : Bool := goodB (l.getD i e0) && (decide (i = 0) || befB (l.getD (i - 1) e0).cell (l.getD i e0).cell)
def vE (l : List EntT) : Bool := decide (l.length ≤ 1048576) && (List.range l.length).all fun i => okAt l i
theorem vE_bad {l : List EntT} {k : Nat} (hk : k < l.length) (h : okAt l k = false) : vE l = false := by
  rw [vE, Bool.and_eq_false_iff]
  right
  rw [List.all_eq_false]
  exact ⟨k, by simpa using hk, by simp [h]⟩
theorem vE_end {l : List EntT} (h : ∀ j, j < l.length → okAt l j = true) : vE l = decide (l.length ≤ 1048576) := by
  rw [vE, show ((List.range l.length).all fun i => okAt l i) = true from List.all_eq_true.2 fun j hj => h j (by simpa using hj)]
  simp
theorem vE_long {l : List EntT} (h : ¬ l.length ≤ 1048576) : vE l = false := by simp [vE, h]
theorem vE_at {l : List EntT} (h : vE l = true) {i : Nat} (hi : i < l.length) : okAt l i = true := by
  simp only [vE, Bool.and_eq_true, List.all_eq_true, List.mem_range] at h
  exact h.2 i hi
theorem vE_good {l : List EntT} (h : vE l = true) {e : EntT} (he : e ∈ l) : goodB e = true := by
  obtain ⟨i, hi, rfl⟩ := List.getElem_of_mem he
  have := vE_at h hi
  simp [okAt, hi] at this
  exact this.1
theorem vE_asc {l : List EntT} (h : vE l = true) : ∀ {j i : Nat}, i < j → (hj : j < l.length) → befB (l.getD i e0).cell (l.getD j e0).cell = true
  | 0, i, h1, _ => by omega
  | j + 1, i, h1, hj => by
    have h2 := vE_at h hj
    simp only [okAt, Bool.and_eq_true, Bool.or_eq_true, decide_eq_true_eq, Nat.add_sub_cancel] at h2
    have h3 : befB (l.getD j e0).cell (l.getD (j + 1) e0).cell = true := by
      rcases h2.2 with h4 | h4
      · omega
      · exact h4
    by_cases e : i = j
    · rw [e]; exact h3
    · exact befB_trans (vE_asc h (by omega) (by omega)) h3
theorem vE_pairwise {l : List EntT} (h : vE l = true) : l.Pairwise fun a b => befB a.cell b.cell = true := by
  rw [List.pairwise_iff_getElem]
  intro i j hi hj hij
  have := vE_asc h hij hj
  simpa [hi, hj] using this
theorem asc_unique : ∀ {l m : List EntT}, (l.Pairwise fun a b => befB a.cell b.cell = true) → (m.Pairwise fun a b => befB a.cell b.cell = true) → l.Perm m → l = m
  | [], m, _, _, h => (List.nil_perm.1 h).symm
  | a :: l, [], _, _, h => (by have := h.length_eq; simp at this)
  | a :: l, b :: m, h1, h2, h => by
    rw [List.pairwise_cons] at h1 h2
    have hab : a = b := by
      have ha : a ∈ b :: m := h.mem_iff.1 (by simp)
      have hb : b ∈ a :: l := h.mem_iff.2 (by simp)
      rcases List.mem_cons.1 ha with e | ha
      · exact e
      · rcases List.mem_cons.1 hb with e | hb
        · exact e.symm
        · have := befB_trans (h2.1 a ha) (h1.1 b hb)
          rw [befB_irr] at this
          cases this
    subst hab
    rw [asc_unique h1.2 h2.2 h.cons_inv]
end Go.Proofs.YtadichckbogcjaaGreatDoor.En
namespace Go.Proofs.YtadichckbogcjaaGreatDoor.En
open Go.RowKit
set_option maxRecDepth 100000
def cmpI (x y : Int) : Int := if x < y then -1 else if y < x then 1 else 0
theorem isNaN_d (x : Int) : PureD Tryz.prog 144 [I x] (B false) := by
  refine PureD.of Tryz.func144 rfl tabOk rfl rfl rfl (by simp [SV.wfs, SV.wf]) (by simp [SV.wfs, SV.wf]) fun w => ?_
  (conv=>whnf);repeat' (first|with_reducible exact rfl|((with_reducible first|refine xif_kt (by assumption) ?_|refine xif_kf (by assumption) ?_);conv=>whnf)|((with_reducible refine xif_s ?_ ?_)<;>(intro hb;(try simp (disch:=omega) only [hbS] at hb)<;>conv=>whnf)))
  exact Fin_d rfl rfl (by simp) trivial
theorem Compare_d (x y : Int) : PureD Tryz.prog 108 [I x, I y] (I (cmpI x y)) := by
  refine PureD.of Tryz.func108 rfl tabOk rfl rfl rfl (by simp [SV.wfs, SV.wf]) (by simp [SV.wfs, SV.wf]) fun w => ?_
  (conv=>whnf);repeat' (first|((with_reducible refine isC ?_);first|((with_reducible refine CallX_d (isNaN_d _) ?_)<;>first|omega|with_reducible refine isP ?_|conv=>whnf))|with_reducible exact rfl|((with_reducible first|refine xif_kt (by assumption) ?_|refine xif_kf (by assumption) ?_);conv=>whnf)|((with_reducible refine xif_s ?_ ?_)<;>(intro hb;(try simp (disch:=omega) only [hbS] at hb)<;>conv=>whnf)))
  all_goals refine Fin_d rfl rfl ?_ trivial
  all_goals refine I_eq ?_
  all_goals simp only [cmpI]
  · rw [if_pos hb]
  · rw [if_neg (by omega), if_pos hb]
  · rw [if_neg (by omega), if_neg (by omega)]
def orI : List Int → Int
  | [] => 0
  | x :: l => if x = 0 then orI l else x
theorem orI_zero : ∀ {l : List Int} {k : Nat}, k ≤ l.length → (∀ i, i < k → l.getD i 0 = 0) → orI l = orI (l.drop k)
  | l, 0, _, _ => by simp
  | [], k + 1, h, _ => by simp at h
  | x :: l, k + 1, hk, h => by
    have h0 := h 0 (by omega)
    simp at h0
    rw [orI, if_pos h0, List.drop_succ_cons]
    exact orI_zero (by simpa using hk) fun i hi => by simpa using h (i + 1) (by omega)
theorem orI_at {l : List Int} {k : Nat} (hk : k < l.length) (h : ∀ i, i < k → l.getD i 0 = 0) (hn : ¬ l.getD k 0 = 0) : orI l = l.getD k 0 := by
  rw [orI_zero (by omega) h, List.drop_eq_getElem_cons hk, orI]
  simp only [List.getD_eq_getElem?_getD, List.getElem?_eq_getElem hk, Option.getD_some] at hn ⊢
  rw [if_neg hn]
theorem Or_v (A : Option Addr) (c : Nat) (xs : List Int) {n : Nat} (hx : xs.length = n) (hn : n ≤ 1000000) :
    CallV Tryz.prog 107 [.v (.slice A n c)] (fun w => ArgSl w A n 1 (xs.map fun x => [encI x])) (I (orI xs)) := by
  refine CallV.of Tryz.func107 rfl tabOk rfl rfl rfl (by simp [SV.wfs, SV.wf]) (by simp [SV.wfs, SV.wf]) fun w hpre => ?_
  (conv=>whnf);repeat' (first|((with_reducible refine isW ?_;first|refine xwr_ok (by omega) (by omega) ?_|refine xwr_raw ?_);conv=>whnf)|with_reducible exact rfl|((with_reducible first|refine xif_kt (by assumption) ?_|refine xif_kf (by assumption) ?_);conv=>whnf)|((with_reducible refine xif_s ?_ ?_)<;>(intro hb;(try simp (disch:=omega) only [hbS] at hb)<;>conv=>whnf)))
  refine LoopX_inv tabOk (α := Nat) (fun k => k ≤ n ∧ ∀ i, i < k → xs.getD i 0 = 0) (fun k => [(8, I k), (7, I n), (6, .v (.slice A n c)), (3, I 0)]) (fun _ => []) (fun k => n - k) 0 [] ⟨Nat.zero_le _, fun i hi => by omega⟩ ?_ ?_
  · ((refine ⟨?_, ?_, ?_, ?_⟩) <;> (repeat' ((conv => whnf); apply And.intro)) <;> (try (first | exact trivial | decide)))
    all_goals first | rfl | exact fun _ _ h => h | simp [SV.wf, SV.wfs]
  · rintro k ⟨hk, hz⟩
    (conv=>whnf);repeat' (first|((with_reducible refine isV ?_);first|((first|refine ValX_index tabOk rfl (hpre.mem (by decide) rfl) rfl ?_ ?_ ?_|(with_reducible refine nat_idx ?_);refine ValX_load1n _ _ (0) tabOk rfl rfl rfl (hpre.mem (by decide) rfl) ?_ ?_ ?_|refine ValX_load1 _ _ (0) tabOk rfl rfl rfl (hpre.mem (by decide) rfl) ?_ ?_ ?_)<;>first|rfl|omega|with_reducible refine isP ?_|conv=>whnf))|((with_reducible refine isW ?_;first|refine xwr_ok (by omega) (by omega) ?_|refine xwr_raw ?_);conv=>whnf)|with_reducible exact rfl|((with_reducible first|refine xif_kt (by assumption) ?_|refine xif_kf (by assumption) ?_);conv=>whnf)|((with_reducible refine xif_s ?_ ?_)<;>(intro hb;(try simp (disch:=omega) only [hbS] at hb)<;>conv=>whnf)))
    · refine Fin_d rfl rfl ?_ trivial
      exact I_eq (orI_at (by omega) hz hb).symm
    · refine ⟨k + 1, [], ⟨by omega, fun i hi => ?_⟩, ?_, by (try dsimp only); omega⟩
      · by_cases e : i = k
        · rw [e]; exact hb
        · exact hz i (by omega)
      · ((refine ⟨?_, ?_, ?_, ?_⟩) <;> (repeat' ((conv => whnf); apply And.intro)) <;> (try (first | exact trivial | decide)))
        all_goals first | rfl | exact fun _ _ h => h | simp [SV.wf, SV.wfs]
    · refine Fin_d rfl rfl ?_ trivial
      refine I_eq ?_
      rw [orI_zero (k := k) (by omega) hz, List.drop_eq_nil_of_le (by omega)]
      rfl
def cellI (a b : CellT) : Int := orI [cmpI a.2 b.2, cmpI a.1 b.1]
theorem cellI_neg (a b : CellT) : cellI a b < 0 ↔ befB a b = true := by
  rw [befB_iff]
  simp only [cellI, orI, cmpI]
  repeat' split
  all_goals omega
end Go.Proofs.YtadichckbogcjaaGreatDoor.En
namespace Go.Proofs.YtadichckbogcjaaGreatDoor.En
open Go.RowKit
set_option maxRecDepth 100000
theorem within_d (n m : Int) (h0 : 0 ≤ m) (h1 : m ≤ 9000000000000000000) : PureD Tryz.prog 52 [I n, I m] (B (szB n m)) := by
  refine PureD.of Tryz.func52 rfl tabOk rfl rfl rfl (by simp [SV.wfs, SV.wf]) (by simp [SV.wfs, SV.wf]) fun w => ?_
  (conv=>whnf);repeat' (first|((with_reducible refine isW ?_;first|refine xwr_ok (by omega) (by omega) ?_|refine xwr_raw ?_);conv=>whnf)|with_reducible exact rfl|((with_reducible first|refine xif_kt (by assumption) ?_|refine xif_kf (by assumption) ?_);conv=>whnf)|((with_reducible refine xif_s ?_ ?_)<;>(intro hb;(try simp (disch:=omega) only [hbS] at hb)<;>conv=>whnf)))
  all_goals refine Fin_d rfl rfl ?_ trivial
  all_goals simp [szB]
  all_goals omega
theorem compare_d (a b : CellT) : PureD Tryz.prog 61 [.a [I a.1, I a.2], .a [I b.1, I b.2]] (I (cellI a b)) := by
  refine PureD.of Tryz.func61 rfl tabOk rfl rfl rfl (by simp [SV.wfs, SV.wf]) (by simp [SV.wfs, SV.wf]) fun w => ?_
  (conv=>whnf);repeat' (first|((with_reducible refine isC ?_);first|((with_reducible refine CallX_d (Compare_d _ _) ?_)<;>first|omega|with_reducible refine isP ?_|conv=>whnf)|(refine CallX_v (Or_v _ _ [cmpI a.2 b.2, cmpI a.1 b.1] rfl (by decide)) (ArgSl.row 2 rfl) ?_; conv => whnf))|((with_reducible refine isO ?_);first|((first|(refine OpX_build0 tabOk rfl rfl rfl ?_);intro bN|(refine OpX_build tabOk rfl rfl rfl rfl rfl ?_);intro bN);conv=>whnf))|((first|refine DrawX_s tabOk folOk ?_|refine DrawS_i (by kernel_rfl) ?_|with_reducible refine andX_i ?_ ?_)<;>conv=>whnf)|with_reducible exact rfl|((with_reducible first|refine xif_kt (by assumption) ?_|refine xif_kf (by assumption) ?_);conv=>whnf)|((with_reducible refine xif_s ?_ ?_)<;>(intro hb;(try simp (disch:=omega) only [hbS] at hb)<;>conv=>whnf)))
  exact Fin_d rfl rfl rfl trivial
theorem counted_d (e : EntT) : PureD Tryz.prog 109 [.a [I e.1, I e.2.1, I e.2.2.1, I e.2.2.2]] (B (countB e)) := by
  refine PureD.of Tryz.func109 rfl tabOk rfl rfl rfl (by simp [SV.wfs, SV.wf]) (by simp [SV.wfs, SV.wf]) fun w => ?_
  (conv=>whnf);repeat' (first|((with_reducible refine isC ?_);first|((with_reducible refine CallX_d (within_d _ _ ?_ ?_) ?_)<;>first|omega|with_reducible refine isP ?_|conv=>whnf))|with_reducible exact rfl|((with_reducible first|refine xif_kt (by assumption) ?_|refine xif_kf (by assumption) ?_);conv=>whnf)|((with_reducible refine xif_s ?_ ?_)<;>(intro hb;(try simp (disch:=omega) only [hbS] at hb)<;>conv=>whnf)))
  all_goals refine Fin_d rfl rfl ?_ trivial
  all_goals simp [countB, hb]
theorem good_d (e : EntT) : PureD Tryz.prog 88 [.a [I e.1, I e.2.1, I e.2.2.1, I e.2.2.2]] (B (goodB e)) := by
  refine PureD.of Tryz.func88 rfl tabOk rfl rfl rfl (by simp [SV.wfs, SV.wf]) (by simp [SV.wfs, SV.wf]) fun w => ?_
  (conv=>whnf);repeat' (first|((with_reducible refine isC ?_);first|((first|with_reducible refine CallX_d (within_d _ _ ?_ ?_) ?_|with_reducible refine CallX_d (counted_d e) ?_)<;>first|omega|with_reducible refine isP ?_|conv=>whnf))|with_reducible exact rfl|((with_reducible first|refine xif_kt (by assumption) ?_|refine xif_kf (by assumption) ?_);conv=>whnf)|((with_reducible refine xif_s ?_ ?_)<;>(intro hb;(try simp (disch:=omega) only [hbS] at hb)<;>conv=>whnf)))
  all_goals refine Fin_d rfl rfl ?_ trivial
  all_goals simp_all [goodB]
theorem Valid_v (A : Option Addr) (c : Nat) (l : List EntT) {n : Nat} (hl : l.length = n) (hn : n ≤ maxLen) :
    CallV Tryz.prog 46 [.v (.slice A n c)] (fun w => ArgSl w A n 4 (l.map encE)) (B (vE l)) := by
  unfold maxLen at hn
  refine CallV.of Tryz.func46 rfl tabOk rfl rfl rfl (by simp [SV.wfs, SV.wf]) (by simp [SV.wfs, SV.wf]) fun w hpre => ?_
  (conv=>whnf);repeat' (first|((with_reducible refine isW ?_;first|refine xwr_ok (by omega) (by omega) ?_|refine xwr_raw ?_);conv=>whnf)|((first|refine DrawX_s tabOk folOk ?_|refine DrawS_i (by kernel_rfl) ?_|with_reducible refine andX_i ?_ ?_)<;>conv=>whnf)|with_reducible exact rfl|((with_reducible first|refine xif_kt (by assumption) ?_|refine xif_kf (by assumption) ?_);conv=>whnf)|((with_reducible refine xif_s ?_ ?_)<;>(intro hb;(try simp (disch:=omega) only [hbS] at hb)<;>conv=>whnf)))
  refine LoopX_inv tabOk (α := Nat) (fun k => k ≤ n ∧ ∀ j, j < k → okAt l j = true) (fun k => [(7, I k), (6, I n), (5, .v (.slice A n c)), (0, .v (.slice A n c))]) (fun _ => []) (fun k => n - k) 0 [] ⟨Nat.zero_le _, fun i hi => by omega⟩ ?_ ?_
  · ((refine ⟨?_, ?_, ?_, ?_⟩) <;> (repeat' ((conv => whnf); apply And.intro)) <;> (try (first | exact trivial | decide)))
    all_goals first | rfl | exact fun _ _ h => h | simp [SV.wf, SV.wfs]
  · rintro k ⟨hk, hz⟩
    (conv=>whnf);repeat' (first|((with_reducible refine isC ?_);first|((first|with_reducible refine CallX_d (good_d (l.getD k e0)) ?_|with_reducible refine CallX_d (compare_d (_, _) (_, _)) ?_)<;>first|omega|with_reducible refine isP ?_|conv=>whnf))|((with_reducible refine isV ?_);first|((first|refine ValX_index tabOk rfl (hpre.mem (by decide) rfl) rfl ?_ ?_ ?_|(with_reducible refine nat_idx ?_);refine ValX_loadEn _ _ (e0) tabOk rfl rfl rfl rfl (hpre.mem (by decide) rfl) ?_ ?_ ?_|refine ValX_loadE _ _ (e0) tabOk rfl rfl rfl rfl (hpre.mem (by decide) rfl) ?_ ?_ ?_)<;>first|rfl|omega|with_reducible refine isP ?_|conv=>whnf)|((first|(with_reducible refine nat_idxF ?_);refine ValX_loadGn _ _ (e0) _ tabOk rfl rfl rfl (hpre.mem (by decide) rfl) ?_ ?_ rfl rfl ?_|refine ValX_loadG _ _ (e0) _ tabOk rfl rfl rfl (hpre.mem (by decide) rfl) ?_ ?_ rfl rfl ?_)<;>first|omega|with_reducible refine isP ?_|conv=>whnf))|((with_reducible refine isW ?_;first|refine xwr_ok (by omega) (by omega) ?_|refine xwr_raw ?_);conv=>whnf)|((first|refine DrawX_s tabOk folOk ?_|refine DrawS_i (by kernel_rfl) ?_|with_reducible refine andX_i ?_ ?_)<;>conv=>whnf)|with_reducible exact rfl|((with_reducible first|refine xif_kt (by assumption) ?_|refine xif_kf (by assumption) ?_);conv=>whnf)|((with_reducible refine xif_s ?_ ?_)<;>(intro hb;(try simp (disch:=omega) only [hbS] at hb)<;>conv=>whnf)))
    · refine Fin_d rfl rfl ?_ trivial
      rw [vE_bad (k := k) (by omega) (by simp only [okAt, hb, Bool.false_and])]
    · refine Fin_d rfl rfl ?_ trivial
      have e : ((k : Int) - 1).toNat = k - 1 := by omega
      rw [e] at hb
      have hbf : befB (l.getD (k - 1) e0).cell (l.getD k e0).cell = false := by
        have := mt (cellI_neg (l.getD (k - 1) e0).cell (l.getD k e0).cell).2 (Int.not_lt.2 hb)
        simpa using this
      have hk0 : ¬ k = 0 := by omega
      rw [vE_bad (k := k) (by omega) (by simp only [okAt, hbf, hk0]; simp)]
    · refine ⟨k + 1, [], ⟨by omega, fun j hj => ?_⟩, ?_, by (try dsimp only); omega⟩
      · by_cases e : j = k
        · rw [e]
          have e : ((k : Int) - 1).toNat = k - 1 := by omega
          rw [e] at hb
          have hbf := (cellI_neg (l.getD (k - 1) e0).cell (l.getD k e0).cell).1 hb
          simp only [okAt, hbf]
          simp_all
        · exact hz j (by omega)
      · ((refine ⟨?_, ?_, ?_, ?_⟩) <;> (repeat' ((conv => whnf); apply And.intro)) <;> (try (first | exact trivial | decide)))
        all_goals first | rfl | exact fun _ _ h => h | simp [SV.wf, SV.wfs]
    · refine ⟨k + 1, [], ⟨by omega, fun j hj => ?_⟩, ?_, by (try dsimp only); omega⟩
      · by_cases e : j = k
        · have hk0 : k = 0 := by omega
          rw [e]
          simp only [okAt, hk0]
          simp_all
        · exact hz j (by omega)
      · ((refine ⟨?_, ?_, ?_, ?_⟩) <;> (repeat' ((conv => whnf); apply And.intro)) <;> (try (first | exact trivial | decide)))
        all_goals first | rfl | exact fun _ _ h => h | simp [SV.wf, SV.wfs]
    · refine Fin_d rfl rfl ?_ trivial
      obtain rfl : k = n := by omega
      rw [vE_end (by rw [hl]; exact hz), hl]
      congr 2
      refine decide_eq_decide.2 ?_
      omega
end Go.Proofs.YtadichckbogcjaaGreatDoor.En
end
section
namespace Go.Proofs.YtadichckbogcjaaGreatDoor.En
open Go.RowKit Go.Shelf
open Go.ChangeMaps (setBlock)
open Go.Maps Go.MapKept
abbrev encA (e : EntT) : Value := .agg #[.int .i64 e.1, .int .i64 e.2.1, .int .i64 e.2.2.1, .int .i64 e.2.2.2]
abbrev keyC (c : CellT) : Value := .agg #[.int .i64 c.1, .int .i64 c.2]
def tE1 (e : EntT) (i : Nat) : MapEntry := { key := keyC e.cell, val := encA e, born := i }
def tEs : List EntT → Nat → List MapEntry
  | [], _ => []
  | e :: r, i => tE1 e i :: tEs r (i + 1)
theorem tEs_get : ∀ (L : List EntT) (s i : Nat), (tEs L s)[i]? = (L[i]?).map fun e => tE1 e (s + i)
  | [], _, _ => by simp [tEs]
  | e :: r, s, 0 => by simp [tEs]
  | e :: r, s, i + 1 => by
    simp only [tEs, List.getElem?_cons_succ, tEs_get r (s + 1) i]
    rw [show s + 1 + i = s + (i + 1) by omega]
theorem tEs_len : ∀ (L : List EntT) (s : Nat), (tEs L s).length = L.length
  | [], _ => rfl
  | e :: r, s => by simp [tEs, tEs_len r (s + 1)]
theorem tEs_append : ∀ (L M : List EntT) (s : Nat), tEs (L ++ M) s = tEs L s ++ tEs M (s + L.length)
  | [], M, s => by simp [tEs]
  | e :: r, M, s => by
    simp only [List.cons_append, tEs, tEs_append r M (s + 1), List.length_cons]
    rw [show s + 1 + r.length = s + (r.length + 1) by omega]
theorem tEs_set : ∀ (L : List EntT) (s i : Nat) (e : EntT), tEs (L.set i e) s = (tEs L s).set i (tE1 e (s + i))
  | [], _, _, _ => by simp [tEs]
  | a :: r, s, 0, e => by simp [tEs]
  | a :: r, s, i + 1, e => by
    simp only [List.set_cons_succ, tEs, tEs_set r (s + 1) i e]
    rw [show s + 1 + i = s + (i + 1) by omega]
theorem tEs_mem {L : List EntT} {x : MapEntry} (h : x ∈ tEs L 0) : ∃ i, i < L.length ∧ x = tE1 (L.getD i e0) i := by
  obtain ⟨i, hi, rfl⟩ := List.getElem_of_mem h
  rw [tEs_len] at hi
  refine ⟨i, hi, ?_⟩
  have := tEs_get L 0 i
  rw [List.getElem?_eq_getElem (by rw [tEs_len]; exact hi), List.getElem?_eq_getElem hi] at this
  simp at this
  simp [this, hi]
theorem tEs_born : ∀ (L : List EntT) (s : Nat), (tEs L s).map (·.born) = List.range' s L.length
  | [], _ => rfl
  | e :: r, s => by simp [tEs, tE1, tEs_born r (s + 1), List.range'_succ]
def TalAt (w : World) (b : Nat) (L : List EntT) : Prop := w.heap[b]? = some (.map (tEs L 0).toArray L.length)
section
variable {P : Program} {w w' : World} {b r : Nat} {L : List EntT}
theorem TalAt.lt (h : TalAt w b L) : b < w.heap.size := (Array.getElem?_eq_some_iff.1 h).1
theorem TalAt.ext (h : TalAt w b L) (hb : w'.heap[b]? = w.heap[b]?) : TalAt w' b L := hb.trans h
theorem run_range_tal {t k e : TypeId} (ht : P.underlying t = some (.map k e)) (h : TalAt w b L) :
    (Instr.range t (.map (some b))).run P w = .ok (.pointer (some ⟨w.heap.size, 0, none⟩)) (w.alloc (.mapIter (some b) L.length #[] L.length)) := by
  simp [Instr.range, run_underlying ht, MapKept.run_getObj_map (P := P) h]
theorem run_next_tal (ty : TypeId) {idx : List Nat} (hr : w.heap[r]? = some (.mapIter (some b) L.length idx.toArray L.length)) (hb : TalAt w b L) (hne : r ≠ b) :
    ((∀ i, i < L.length → i ∈ idx) ∧ (Instr.next (.pointer (some ⟨r, 0, none⟩)) false ty).run P w = .ok (.tuple #[.bool false]) w) ∨
    ∃ i w', i < L.length ∧ i ∉ idx ∧ (Instr.next (.pointer (some ⟨r, 0, none⟩)) false ty).run P w = .ok (.tuple #[.bool true, keyC (L.getD i e0).cell, encA (L.getD i e0)]) w' ∧
      w'.heap[r]? = some (.mapIter (some b) L.length (idx ++ [i]).toArray L.length) ∧ TalAt w' b L ∧ w.grownBy w' (some r) ∧ w'.heap.size = w.heap.size ∧
      (Instr.entry (.pointer (some ⟨r, 0, none⟩))).run P w' = .ok (.tuple #[keyC (L.getD i e0).cell, encA (L.getD i e0)]) w' := by
  have hold : ∀ x ∈ (tEs L 0).toArray.toList, x.born < L.length := by
    intro x hx
    obtain ⟨i, hi, rfl⟩ := tEs_mem (by simpa using hx)
    exact hi
  rcases run_next_at (P := P) w ty r b L.length L.length idx.toArray (tEs L 0).toArray L.length hr hb hold (Nat.le_refl _) with ⟨h0, hrun⟩ | ⟨e, he, w1, hal, hrun⟩
  · refine .inl ⟨fun i hi => ?_, hrun⟩
    have he : leftOf (tEs L 0).toArray idx.toArray = #[] := Array.eq_empty_of_size_eq_zero h0
    unfold leftOf at he
    rw [Array.filter_eq_empty_iff] at he
    have hg := tEs_get L 0 i
    rw [List.getElem?_eq_getElem hi] at hg
    have hm : tE1 L[i] (0 + i) ∈ tEs L 0 := List.mem_of_getElem? (by simpa using hg)
    have := he _ (by simpa using hm)
    simpa [tE1] using this
  · have hm : e ∈ tEs L 0 ∧ ¬ e.born ∈ idx := by
      unfold leftOf at he
      simp at he
      exact he
    obtain ⟨i, hi, rfl⟩ := tEs_mem hm.1
    have hr1 : w1.heap[r]? = some (.mapIter (some b) L.length idx.toArray L.length) := by rcases hal with rfl | rfl <;> exact hr
    have hb1 : w1.heap[b]? = some (.map (tEs L 0).toArray L.length) := by rcases hal with rfl | rfl <;> exact hb
    have hset := heap_set (o' := .mapIter (some b) L.length (idx.toArray.push i) L.length) hr1
    have hb' : TalAt (setBlock w1 r (.mapIter (some b) L.length (idx.toArray.push i) L.length)) b L := (hset.2 b (fun e1 => hne e1.symm)).trans hb1
    have hent := run_entry_at (P := P) _ r b L.length idx.toArray (tEs L 0).toArray L.length (tE1 (L.getD i e0) i) hset.1 hb' (by simpa using hm.1) (by simp [tEs_born, List.nodup_range'])
    refine .inr ⟨i, _, hi, hm.2, hrun, ?_, hb', ?_, ?_, hent⟩
    · have := hset.1
      rw [show idx.toArray.push i = (idx ++ [i]).toArray by simp] at this
      rw [show (idx ++ [i]).toArray = idx.toArray.push (tE1 (L.getD i e0) i).born by simp [tE1]]
      exact hset.1
    · rcases hal with rfl | rfl <;> exact ⟨rfl, rfl, rfl, by simp [setBlock], fun j _ hj => hset.2 j (fun e1 => hj (by rw [e1]))⟩
    · rcases hal with rfl | rfl <;> simp [setBlock]
variable {F : Fence} {n : Nat} {ops : Array Oper} {rest : List Oper} {o : Oper} {a : Act} {Q : Exit → Act → World → Prop}
theorem wpListIn_range_tal (hg : o.guard = none) (m : Operand) (t : TypeId) (hop : o.op = Op.range t m) (k e : TypeId) (ht : P.underlying t = some (.map k e)) (hm : a.eval m = .map (some b)) (h : TalAt w b L)
    (hK : wpListIn F n P ops Q rest (a.put o.dst (.pointer (some ⟨w.heap.size, 0, none⟩))) (w.alloc (.mapIter (some b) L.length #[] L.length))) : wpListIn F n P ops Q (o :: rest) a w := by
  refine wpListIn_plain hg fun K' hK' => ?_
  unfold Oper.wpIn
  refine ⟨?_, ?_⟩
  · simp [Oper.about, hop]
  · rw [Oper.semAt_plain F _ _ (by rw [hop]; intro c hc'; cases hc')]
    simp [execOp, hop, hm, run_range_tal ht h, Result.andThen]
    exact hK' _ _ hK
theorem wpListIn_next_tal (hg : o.guard = none) (it : Operand) (hop : o.op = Op.next it false) {idx : List Nat} (hit : a.eval it = .pointer (some ⟨r, 0, none⟩)) (hr : w.heap[r]? = some (.mapIter (some b) L.length idx.toArray L.length)) (hb : TalAt w b L) (hne : r ≠ b)
    (hDone : (∀ i, i < L.length → i ∈ idx) → wpListIn F n P ops Q rest (a.put o.dst (.tuple #[.bool false])) w)
    (hMore : ∀ i w', i < L.length → i ∉ idx → w'.heap[r]? = some (.mapIter (some b) L.length (idx ++ [i]).toArray L.length) → TalAt w' b L → w.grownBy w' (some r) → w'.heap.size = w.heap.size →
      (Instr.entry (.pointer (some ⟨r, 0, none⟩))).run P w' = .ok (.tuple #[keyC (L.getD i e0).cell, encA (L.getD i e0)]) w' → wpListIn F n P ops Q rest (a.put o.dst (.tuple #[.bool true, keyC (L.getD i e0).cell, encA (L.getD i e0)])) w') :
    wpListIn F n P ops Q (o :: rest) a w := by
  refine wpListIn_plain hg fun K' hK' => ?_
  unfold Oper.wpIn
  refine ⟨by simp [Oper.about, hop], ?_⟩
  rw [Oper.semAt_plain F _ _ (by rw [hop]; intro c hc'; cases hc')]
  rcases run_next_tal (P := P) o.type hr hb hne with ⟨h0, hrun⟩ | ⟨i, w', h1, h2, hrun, h3, h4, h5, h6, h7⟩
  · simp [execOp, hop, hit, hrun, Result.andThen]
    exact hK' _ _ (hDone h0)
  · simp only [execOp, hop, hit, Sem.run_bind, hrun, Result.andThen_ok, Sem.run_pure]
    exact hK' _ _ (hMore i w' h1 h2 h3 h4 h5 h6 h7)
end
theorem perm_of_idx {L : List EntT} {idx : List Nat} (hn : idx.Nodup) (hlt : ∀ i ∈ idx, i < L.length) (hall : ∀ i, i < L.length → i ∈ idx) : (idx.map fun i => L.getD i e0).Perm L := by
  have hp : idx.Perm (List.range L.length) := by
    rw [List.perm_ext_iff_of_nodup hn List.nodup_range]
    intro i
    simp
    exact ⟨hlt i, hall i⟩
  have h2 := hp.map fun i => L.getD i e0
  have e : (List.range L.length).map (fun i => L.getD i e0) = L := by
    apply List.ext_getElem
    · simp
    · intro i h1 h2
      simp at h1
      simp [h1]
  rwa [e] at h2
end Go.Proofs.YtadichckbogcjaaGreatDoor.En
namespace Go.Proofs.YtadichckbogcjaaGreatDoor.En
open Go.RowKit Go.Shelf Go.Maps Go.MapKept
set_option maxRecDepth 100000 in
set_option maxHeartbeats 1000000 in
theorem values1_in (F : Fence) (n : Nat) (hf : F.fn 140) (hro : F.round = none) (hn : 1 ≤ n) (l Bm b : Nat) (L : List EntT) (J Jx : List EntT → World → Prop)
    (hY : ∀ pre x W, J pre W → pre.length < L.length → YieldAt F (n - 1) Tryz.prog l #[encA x] W fun e W' =>
      (e = .returned (.bool true) ∧ J (pre ++ [x]) W' ∧ KeepsWalks W W') ∨ (e = .returned (.bool false) ∧ Jx (pre ++ [x]) W'))
    (W : World) (hJ : AbidesFrom W.heap.size J) (hm : W.cell? ⟨Bm, 0, none⟩ = some (.map (some b))) (hT : TalAt W b L) (h0 : J [] W) :
    CallsIn F n Tryz.prog 140 #[.func (.yield l) #[] #[], .pointer (some ⟨Bm, 0, none⟩)] W fun e W' => (∃ v, e = .returned v) ∧
      ((∃ xs, xs.Perm L ∧ J xs W') ∨ (∃ pre, Jx pre W')) := by
  refine callsIn_of_wp Tryz.func140 rfl hf ?_ hro
  simp only [Tryz.ntmps140, List.size_toArray, List.length_cons, List.length_nil, Nat.reduceAdd, Nat.reduceSub, Array.replicate_succ, Array.replicate_zero, List.push_toArray, List.append_toArray, List.nil_append, List.cons_append]
  gi_wp2_with (first
    | (gi_at_range; refine wpListIn_range_tal rfl _ 95 rfl 25 34 Tryz.underlying95 rfl hT ?_)
    | gi_in)
  go_frame
  have hbl := hT.lt
  gi_loopw [4] (fun _ wr => ∃ idx : List Nat, wr.heap[W.heap.size]? = some (.mapIter (some b) L.length idx.toArray L.length) ∧ TalAt wr b L ∧ idx.Nodup ∧ (∀ i ∈ idx, i < L.length) ∧ J (idx.map fun i => L.getD i e0) wr)
    (fun _ wr => match wr.heap[W.heap.size]? with | some (.mapIter _ _ seen _) => L.length - seen.size | _ => 0)
  case atStart =>
    refine ⟨[], World.alloc_heap_new W _, hT.ext (Below.heap_alloc _ _ b hbl), by simp, by simp, ?_⟩
    exact hJ [] W _ none h0 (World.grownBy_alloc W _ none) (fun r e => by cases e)
  case round =>
    obtain ⟨idx, hr, hTr, hnd, hlt, hJs⟩ := hrel
    gi_wp2_with (first
      | (gi_at_next; refine wpListIn_next_tal rfl _ rfl rfl hr hTr (by omega) ?_ ?_)
      | gi_in)
    · intro hall
      gi_wp2
      go_end0
      exact ⟨⟨_, rfl⟩, .inl ⟨_, perm_of_idx hnd hlt hall, hJs⟩⟩
    · intro i w2 hi hni hr2 hT2 hg2 hs2 hen
      have hJ2 : J (idx.map fun i => L.getD i e0) w2 := hJ _ wr w2 (some W.heap.size) hJs hg2 (fun r e => by cases e; exact ⟨Nat.le_refl _, _, hr, rfl⟩)
      have hlen : idx.length < L.length := by
        have h1 : (idx ++ [i]).Nodup := by
          rw [List.nodup_append]
          refine ⟨hnd, by simp, fun a ha b hb => ?_⟩
          simp at hb
          subst hb
          intro e
          exact hni (e ▸ ha)
        have h2 : (idx ++ [i]) ⊆ List.range L.length := by
          intro j hj
          rcases List.mem_append.1 hj with h | h
          · simpa using hlt j h
          · simp at h
            simpa [h] using hi
        have := h1.length_le_of_subset h2
        simp at this
        omega
      generalize hx : L[i]?.getD e0 = x at *
      have hJ3 : J (idx.map fun i => L.getD i e0) (w2.alloc (.cells #[.int .i64 x.1, .int .i64 x.2.1, .int .i64 x.2.2.1, .int .i64 x.2.2.2] 34)) := hJ _ w2 _ none hJ2 (World.grownBy_alloc w2 _ none) (fun r e => by cases e)
      obtain ⟨fn, tmps, assign, body, hy, hR⟩ := hY _ x _ hJ3 (by simpa using hlen)
      clear hs2
      gi_wp2
      refine hR.mono ?_
      have hnd2 : (idx ++ [i]).Nodup := by
        rw [List.nodup_append]
        refine ⟨hnd, by simp, fun a ha b hb => ?_⟩
        simp at hb
        subst hb
        intro e
        exact hni (e ▸ ha)
      have hlt2 : ∀ j ∈ idx ++ [i], j < L.length := by
        intro j hj
        rcases List.mem_append.1 hj with h | h
        · exact hlt j h
        · simp at h
          rw [h]
          exact hi
      have hmap : (idx ++ [i]).map (fun i => L.getD i e0) = (idx.map fun i => L.getD i e0) ++ [x] := by
        rw [List.map_append]
        simp [hx]
      have hsz := hg2.size
      have hr3 : (w2.alloc (.cells #[.int .i64 x.1, .int .i64 x.2.1, .int .i64 x.2.2.1, .int .i64 x.2.2.2] 34)).heap[W.heap.size]? = some (.mapIter (some b) L.length (idx ++ [i]).toArray L.length) :=
        (Below.heap_alloc _ _ _ (Array.getElem?_eq_some_iff.1 hr2).1).trans hr2
      have hT3 := hT2.ext (Below.heap_alloc w2 (.cells #[.int .i64 x.1, .int .i64 x.2.1, .int .i64 x.2.2.1, .int .i64 x.2.2.2] 34) b hT2.lt)
      rintro e W3 (⟨rfl, hJ4, hk4⟩ | ⟨rfl, hJx4⟩)
      · gi_wp2
        have hr4 := hk4.same _ _ hr3 rfl
        have hT4 : TalAt W3 b L := hk4.same _ _ hT3 rfl
        go_roundw
        case rel => exact ⟨idx ++ [i], hr4, hT4, hnd2, hlt2, by rw [hmap]; exact hJ4⟩
        case measure =>
          rw [hr4, hr]
          simp
          omega
      · gi_wp2
        refine bodyPost_ret (results_none rfl _ _ _) rfl ?_
        exact ⟨⟨_, rfl⟩, .inr ⟨_, hJx4⟩⟩
theorem values_stops (F : Fence) (n : Nat) (hf : F.fn 140) (hro : F.round = none) (hn : 1 ≤ n) (Bm b : Nat) (L : List EntT) (w : World) (hBm : Bm < w.heap.size)
    (hm : w.cell? ⟨Bm, 0, none⟩ = some (.map (some b))) (hT : TalAt w b L) :
    SeqStopsK F n Tryz.prog 140 #[.pointer (some ⟨Bm, 0, none⟩)] (fun x : EntT => #[encA x]) KeepsWalks (fun xs => xs.Perm L) (fun _ => True) L.length w := fun l J Jx W hW hJ _ hY h0 => by
  refine (values1_in F n hf hro hn l Bm b L J Jx hY W hJ ((hW.cell (p := ⟨Bm, 0, none⟩) hBm).trans hm) (hT.ext (hW.block b hT.lt)) h0).mono ?_
  rintro e W' ⟨h1, h2 | ⟨pre, h2⟩⟩
  · exact ⟨h1, .inl h2⟩
  · exact ⟨h1, .inr ⟨pre, trivial, h2⟩⟩
end Go.Proofs.YtadichckbogcjaaGreatDoor.En
namespace Go.Proofs.YtadichckbogcjaaGreatDoor.En
open Go.RowKit Go.Shelf Go.Maps Go.MapKept
attribute [local go_sem] Oper.semAt_some
theorem cells_new (w : World) (xs : List Value) (t : TypeId) : ∀ j u, xs[j]? = some u → (w.alloc (.cells xs.toArray t)).cell? ((⟨w.heap.size, 0, none⟩ : Addr).add j) = some u := by
  intro j u hj
  have e : ((⟨w.heap.size, 0, none⟩ : Addr).add j) = ⟨w.heap.size, j, none⟩ := by
    unfold Addr.add
    split
    · rename_i h
      rw [h]
    · simp
  rw [e]
  unfold World.cell?
  rw [World.alloc_heap_new]
  simpa using hj
theorem infoE : (Tryz.prog.info? 34).map (fun i => (i.zero, i.size, i.bytes)) = some (some (.agg #[.int .i64 0, .int .i64 0, .int .i64 0, .int .i64 0]), 4, 32) := by kernel_rfl
def colI (w : World) (B : Nat) (pre : List EntT) (W : World) : Prop :=
  (∃ v, Boxed W B 36 v ∧ W.ownsRow w.heap.size 34 4 v pre.length ((pre.map encE).flatten) ∧ (v = .slice none 0 0 ↔ pre = [])) ∧ Below w.heap.size w W
set_option maxRecDepth 100000 in
set_option maxHeartbeats 2000000 in
theorem appendSeq_in (F : Fence) (n : Nat) (hf : F.fn 139) (hro : F.round = none) (hn : 3 ≤ n) (g : Nat) (lb : Array Value) (hFg : F.fn g) (eg : ∀ args w, (callFunc g args).run Tryz.prog w = .ok (.enter g args) w)
    (S Sp : List EntT → Prop) (N : Nat) (hN : N ≤ 1000000000) (w : World) (hseq : SeqStopsK F (n - 1) Tryz.prog g lb (fun x : EntT => #[encA x]) KeepsWalks S Sp N w) :
    CallsIn F n Tryz.prog 139 #[.slice none 0 0, .func (.func g) #[] lb] w fun e w' => ∃ (v : Value) (ys : List EntT), e = .returned v ∧ S ys ∧ w'.ownsRow w.heap.size 34 4 v ys.length ((ys.map encE).flatten) ∧ (v = .slice none 0 0 ↔ ys = []) ∧ Below w.heap.size w w' := by
  have h1 : 1 ≤ n := by omega
  obtain ⟨i0, hi, hz0, hz1, hz2⟩ := info_parts infoE
  refine callsIn_of_wp_marks Tryz.func139 rfl hf ?_ hro
  simp only [Tryz.ntmps139, List.size_toArray, List.length_cons, List.length_nil, Nat.reduceAdd, Nat.reduceSub, Array.replicate_succ, Array.replicate_zero, List.push_toArray, List.append_toArray, List.nil_append, List.cons_append]
  gi_wp2
  obtain ⟨W0, hW0⟩ : ∃ W0, w.alloc (.cells #[.slice none 0 0] 36) = W0 := ⟨_, rfl⟩
  have hs0 : W0.heap.size = w.heap.size + 1 := by rw [← hW0]; simp
  have hv0 : Boxed W0 w.heap.size 36 (.slice none 0 0) := by rw [← hW0]; exact Boxed.new w _ _
  have hb0 : Below w.heap.size w W0 := by rw [← hW0]; exact (Below.refl _ w).alloc (Nat.le_refl _) _
  rw [hW0]
  refine wpIn_rangeFunc_ownH hro h1 (gf := g) (lb := lb) rfl hFg eg hseq walksK_t walksK_b hb0 (fun _ => rfl) (colI w w.heap.size) (fun _ _ _ => False) ?hI (fun c s A B row h _ _ => h.elim) ?h0
    (fun x a' W => ∃ Bx, w.heap.size < Bx ∧ W.heap[Bx]? = some (.cells (encE x).toArray 34 (0, 0)) ∧ a' = { tmps := #[.slice none 0 0, .func (.func g) #[] lb, .pointer (some ⟨w.heap.size, 0, none⟩), undef, .slice none 0 0, .pointer (some ⟨Bx, 0, none⟩), .func (.func g) #[] lb, encA x, undef, undef, undef, undef, undef], defers := [] }) ?hAx ?assign ?body ?done ?stop
  case hI => exact OwnFrom.and (Own.from (holdsRow_own w.heap.size w.heap.size 36 34 4 (fun pre : List EntT => pre.length) (fun pre => (pre.map encE).flatten) (fun pre v => v = .slice none 0 0 ↔ pre = [])) _) (ownFrom_below (Nat.le_refl _) (by omega))
  case h0 =>
    exact ⟨⟨_, hv0, World.ownsRow_nil _ _ _ _, by simp⟩, hb0⟩
  case hAx =>
    rintro x a' _ A B row ⟨Bx, h2, h3, h4⟩ hg hr
    refine ⟨Bx, h2, (hg.block Bx (Array.getElem?_eq_some_iff.1 h3).1 fun e => ?_).trans h3, h4⟩
    obtain ⟨_, o, ho, hc⟩ := hr Bx e.symm
    rw [h3] at ho
    cases ho
    cases hc
  case assign =>
    intro l pre x W K hi hK
    gi_wp2
    have hlt := hi.1.elim fun v h => h.1.lt
    refine hK _ _ ((KeepsOthers.alloc _ _).from _) (KeepsWalks.alloc _ _) ?_ ⟨W.heap.size, hlt, World.alloc_heap_new _ _, rfl⟩
    obtain ⟨⟨v, hv, hrow, hnil⟩, hB⟩ := hi
    exact ⟨⟨v, hv.alloc _, hrow.alloc _, hnil⟩, hB.alloc hB.size _⟩
  case body =>
    rintro l pre x a' W hl ⟨r, hr⟩ ⟨⟨v, hv, hrow, hnil⟩, hB⟩ ⟨Bx, hBx, hbx, rfl⟩ hlen
    have hc := hv.cell
    have hf := hv.frozen
    have hle := hB.size
    have hBl := hv.lt
    have c0 : W.cell? ⟨Bx, 0, none⟩ = some (.int .i64 x.1) := by simp [World.cell?, hbx, encE]
    have c1 : W.cell? ⟨Bx, 1, none⟩ = some (.int .i64 x.2.1) := by simp [World.cell?, hbx, encE]
    have c2 : W.cell? ⟨Bx, 2, none⟩ = some (.int .i64 x.2.2.1) := by simp [World.cell?, hbx, encE]
    have c3 : W.cell? ⟨Bx, 3, none⟩ = some (.int .i64 x.2.2.2) := by simp [World.cell?, hbx, encE]
    have hxl : Bx < W.heap.size := (Array.getElem?_eq_some_iff.1 hbx).1
    gi_wp2_with (first
      | (gi_at_builtin; refine wpListIn_append_own _ rfl _ _ 36 rfl w.heap.size 34 i0 _ 4 32 Tryz.underlying36 hi hz0 hz1 hz2 rfl (by decide) _ _ _ rfl (hrow.alloc _) ⟨W.heap.size, 0, none⟩ 1 1 (encE x) rfl rfl (cells_new _ _ _) ?_ (by unfold maxLen; omega) (by omega) (by have := hB.size; simp; omega) ?_; (focus (intro u hu; simp [encE] at hu; rcases hu with rfl | rfl | rfl | rfl <;> rfl)); intro v' w1 hown' hgrow _; obtain ⟨g', cap', rfl⟩ := ownsRow_succ hown'; obtain ⟨hv1, hv2, hr2, hk2, hb2⟩ := hv.appended (by decide) hrow hB.size (Nat.le_refl _) hown' hgrow; have hc1 := hv1.cell; have hf1 := hv1.frozen)
      | gi_in)
    refine ⟨hk2.from _, ⟨hk2.size, fun k o hk ho => hk2.same k o hk (Obj.not_cells_of_walk ho)⟩, ⟨_, hv2, ?_, by simp⟩, hB.trans hb2⟩
    simpa using hr2
  case done =>
    rintro D ys W hD hS ⟨⟨v, hv, hrow, hnil⟩, hB⟩ hK
    have hc := hv.cell
    have hf := hv.frozen
    have hBl := hv.lt
    gi_wp2
    refine ⟨by simp, .inl ⟨_, _, rfl, run_takeDeferred hK, ?_⟩⟩
    exact ⟨_, results_tmp rfl _ _ _, v, ys, rfl, hS, ownsRow_putObj hrow _ hK rfl, hnil, hB.trans (belowK_b (w := w) (Nat.le_refl _) W D _ _ (by omega) hK rfl rfl)⟩
  case stop =>
    intro D c pre W _ _ h
    exact h.elim
set_option maxHeartbeats 1000000 in
theorem collect_in (F : Fence) (n : Nat) (hf : F.fn 101) (hf2 : F.fn 139) (hro : F.round = none) (hn : 4 ≤ n) (g : Nat) (lb : Array Value) (hFg : F.fn g) (eg : ∀ args w, (callFunc g args).run Tryz.prog w = .ok (.enter g args) w)
    (S Sp : List EntT → Prop) (N : Nat) (hN : N ≤ 1000000000) (w : World) (hseq : SeqStopsK F (n - 1 - 1) Tryz.prog g lb (fun x : EntT => #[encA x]) KeepsWalks S Sp N w) :
    CallsIn F n Tryz.prog 101 #[.func (.func g) #[] lb] w fun e w' => ∃ (v : Value) (ys : List EntT), e = .returned v ∧ S ys ∧ w'.ownsRow w.heap.size 34 4 v ys.length ((ys.map encE).flatten) ∧ (v = .slice none 0 0 ↔ ys = []) ∧ Below w.heap.size w w' := by
  have h1 : 1 ≤ n := by omega
  refine callsIn_of_wp Tryz.func101 rfl hf ?_ hro
  simp only [Tryz.ntmps101, List.size_toArray, List.length_cons, List.length_nil, Nat.reduceAdd, Nat.reduceSub, Array.replicate_succ, Array.replicate_zero, List.push_toArray, List.append_toArray, List.nil_append, List.cons_append]
  gi_wp2_with (gi_at_call 139; refine (appendSeq_in F (n - 1) hf2 hro (by omega) g lb hFg eg S Sp N hN _ hseq).mono ?_; rintro e w' ⟨v, ys, rfl, hS, hrow, hnil, hb⟩)
  go_ret
  exact ⟨v, ys, rfl, hS, hrow, hnil, hb⟩
theorem collect_any (Bm b : Nat) (L : List EntT) (hL : L.length ≤ 1000000000) (w : World) (hBm : Bm < w.heap.size) (hm : w.cell? ⟨Bm, 0, none⟩ = some (.map (some b))) (hT : TalAt w b L) :
    Calls Tryz.prog 101 #[.func (.func 140) #[] #[.pointer (some ⟨Bm, 0, none⟩)]] w fun e w' =>
      ∃ (v : Value) (ys : List EntT), e = .returned v ∧ ys.Perm L ∧ w'.ownsRow w.heap.size 34 4 v ys.length ((ys.map encE).flatten) ∧ (v = .slice none 0 0 ↔ ys = []) ∧ Below w.heap.size w w' :=
  callsIn_wide.1 (collect_in Fence.wide 9 trivial trivial rfl (by decide) _ _ trivial (enters_of Tryz.func140 (by kernel_rfl) rfl) (fun xs => xs.Perm L) (fun _ => True) L.length hL w (values_stops Fence.wide _ trivial rfl (by decide) Bm b L w hBm hm hT))
end Go.Proofs.YtadichckbogcjaaGreatDoor.En
end
