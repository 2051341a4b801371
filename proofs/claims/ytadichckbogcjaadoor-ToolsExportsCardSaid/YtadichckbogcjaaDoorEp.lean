/- Lists of entries in plain Lean: valid lists, cells in order. -/
/- cmp.Compare and cmp.Or at int, and what compares cells. -/
/- Package evidence: within, compare, counted, good, Valid. -/
import Derived.Test.YtadichckbogcjaaDoorFr1
import Derived.Test.YtadichckbogcjaaDoorBs0
set_option linter.all false
namespace Go.Proofs.YtadichckbogcjaaDoor.En
open Go.RowKit

/-- an entry: X, Y, hits, passes -/
abbrev EntT := Int × Int × Int × Int
abbrev CellT := Int × Int
def EntT.cell (e : EntT) : CellT := (e.1, e.2.1)
def e0 : EntT := (0, 0, 0, 0)
def encE (e : EntT) : List Value := [.int .i64 e.1, .int .i64 e.2.1, .int .i64 e.2.2.1, .int .i64 e.2.2.2]

/-- the first cell stands before the second one by (Y, X) -/
def befB (a b : CellT) : Bool := decide (a.2 < b.2) || (decide (a.2 = b.2) && decide (a.1 < b.1))
theorem befB_iff (a b : CellT) : befB a b = true ↔ a.2 < b.2 ∨ (a.2 = b.2 ∧ a.1 < b.1) := by simp [befB]
theorem befB_false (a b : CellT) : befB a b = false ↔ ¬ (a.2 < b.2 ∨ (a.2 = b.2 ∧ a.1 < b.1)) := by rw [← befB_iff]; simp
theorem befB_trans {a b c : CellT} (h1 : befB a b = true) (h2 : befB b c = true) : befB a c = true := by rw [befB_iff] at *; omega
theorem befB_irr (a : CellT) : befB a a = false := by rw [befB_false]; omega
theorem befB_total {a b : CellT} (h1 : befB a b = false) (h2 : befB b a = false) : a = b := by
  rw [befB_false] at *
  exact Prod.ext (by omega) (by omega)

def countB (e : EntT) : Bool := szB e.2.2.1 1099511627776 && szB e.2.2.2 1099511627776
def goodB (e : EntT) : Bool := countB e && !(decide (e.2.2.1 = 0) && decide (e.2.2.2 = 0)) && szB e.1 16384 && szB e.2.1 16384
/-- the entry i of a list is as it may be -/
def okAt (l : List EntT) (i : Nat) : Bool := goodB (l.getD i e0) && (decide (i = 0) || befB (l.getD (i - 1) e0).cell (l.getD i e0).cell)
def vE (l : List EntT) : Bool := decide (l.length ≤ 1048576) && (List.range l.length).all fun i => okAt l i
theorem vE_bad {l : List EntT} {k : Nat} (hk : k < l.length) (h : okAt l k = false) : vE l = false := by
  rw [vE, Bool.and_eq_false_iff]
  right
  rw [List.all_eq_false]
  exact ⟨k, by simpa using hk, by simp [h]⟩
theorem vE_end {l : List EntT} (h : ∀ j, j < l.length → okAt l j = true) : vE l = decide (l.length ≤ 1048576) := by
  rw [vE, show ((List.range l.length).all fun i => okAt l i) = true from List.all_eq_true.2 fun j hj => h j (by simpa using hj)]
  simp
theorem vE_long {l : List EntT} (h : ¬ l.length ≤ 1048576) : vE l = false := by simp [vE, h]
theorem vE_at {l : List EntT} (h : vE l = true) {i : Nat} (hi : i < l.length) : okAt l i = true := by
  simp only [vE, Bool.and_eq_true, List.all_eq_true, List.mem_range] at h
  exact h.2 i hi
theorem vE_good {l : List EntT} (h : vE l = true) {e : EntT} (he : e ∈ l) : goodB e = true := by
  obtain ⟨i, hi, rfl⟩ := List.getElem_of_mem he
  have := vE_at h hi
  simp [okAt, hi] at this
  exact this.1
/-- a valid list is ascending -/
theorem vE_asc {l : List EntT} (h : vE l = true) : ∀ {j i : Nat}, i < j → (hj : j < l.length) → befB (l.getD i e0).cell (l.getD j e0).cell = true
  | 0, i, h1, _ => by omega
  | j + 1, i, h1, hj => by
    have h2 := vE_at h hj
    simp only [okAt, Bool.and_eq_true, Bool.or_eq_true, decide_eq_true_eq, Nat.add_sub_cancel] at h2
    have h3 : befB (l.getD j e0).cell (l.getD (j + 1) e0).cell = true := by
      rcases h2.2 with h4 | h4
      · omega
      · exact h4
    by_cases e : i = j
    · rw [e]; exact h3
    · exact befB_trans (vE_asc h (by omega) (by omega)) h3
theorem vE_pairwise {l : List EntT} (h : vE l = true) : l.Pairwise fun a b => befB a.cell b.cell = true := by
  rw [List.pairwise_iff_getElem]
  intro i j hi hj hij
  have := vE_asc h hij hj
  simpa [hi, hj] using this

/-- two ascending lists with the same elements are one -/
theorem asc_unique : ∀ {l m : List EntT}, (l.Pairwise fun a b => befB a.cell b.cell = true) → (m.Pairwise fun a b => befB a.cell b.cell = true) → l.Perm m → l = m
  | [], m, _, _, h => (List.nil_perm.1 h).symm
  | a :: l, [], _, _, h => (by have := h.length_eq; simp at this)
  | a :: l, b :: m, h1, h2, h => by
    rw [List.pairwise_cons] at h1 h2
    have hab : a = b := by
      have ha : a ∈ b :: m := h.mem_iff.1 (by simp)
      have hb : b ∈ a :: l := h.mem_iff.2 (by simp)
      rcases List.mem_cons.1 ha with e | ha
      · exact e
      · rcases List.mem_cons.1 hb with e | hb
        · exact e.symm
        · have := befB_trans (h2.1 a ha) (h1.1 b hb)
          rw [befB_irr] at this
          cases this
    subst hab
    rw [asc_unique h1.2 h2.2 h.cons_inv]
end Go.Proofs.YtadichckbogcjaaDoor.En

namespace Go.Proofs.YtadichckbogcjaaDoor.En
open Go.RowKit
set_option maxRecDepth 100000

def cmpI (x y : Int) : Int := if x < y then -1 else if y < x then 1 else 0
theorem isNaN_d (x : Int) : PureD Tryd.prog 77 [I x] (B false) := by
  refine PureD.of Tryd.func77 rfl tabOk rfl rfl rfl (by simp [SV.wfs, SV.wf]) (by simp [SV.wfs, SV.wf]) fun w => ?_
  (conv=>whnf);repeat' (first|with_reducible exact rfl|((with_reducible first|refine xif_kt (by assumption) ?_|refine xif_kf (by assumption) ?_);conv=>whnf)|((with_reducible refine xif_s ?_ ?_)<;>(intro hb;(try simp (disch:=omega) only [hbS] at hb)<;>conv=>whnf)))
  exact Fin_d rfl rfl (by simp) trivial
theorem Compare_d (x y : Int) : PureD Tryd.prog 61 [I x, I y] (I (cmpI x y)) := by
  refine PureD.of Tryd.func61 rfl tabOk rfl rfl rfl (by simp [SV.wfs, SV.wf]) (by simp [SV.wfs, SV.wf]) fun w => ?_
  (conv=>whnf);repeat' (first|((with_reducible refine isC ?_);first|((with_reducible refine CallX_d (isNaN_d _) ?_)<;>first|omega|with_reducible refine isP ?_|conv=>whnf))|with_reducible exact rfl|((with_reducible first|refine xif_kt (by assumption) ?_|refine xif_kf (by assumption) ?_);conv=>whnf)|((with_reducible refine xif_s ?_ ?_)<;>(intro hb;(try simp (disch:=omega) only [hbS] at hb)<;>conv=>whnf)))
  all_goals refine Fin_d rfl rfl ?_ trivial
  all_goals refine I_eq ?_
  all_goals simp only [cmpI]
  · rw [if_pos hb]
  · rw [if_neg (by omega), if_pos hb]
  · rw [if_neg (by omega), if_neg (by omega)]
/-- the first that is not 0 -/
def orI : List Int → Int
  | [] => 0
  | x :: l => if x = 0 then orI l else x
theorem orI_zero : ∀ {l : List Int} {k : Nat}, k ≤ l.length → (∀ i, i < k → l.getD i 0 = 0) → orI l = orI (l.drop k)
  | l, 0, _, _ => by simp
  | [], k + 1, h, _ => by simp at h
  | x :: l, k + 1, hk, h => by
    have h0 := h 0 (by omega)
    simp at h0
    rw [orI, if_pos h0, List.drop_succ_cons]
    exact orI_zero (by simpa using hk) fun i hi => by simpa using h (i + 1) (by omega)
theorem orI_at {l : List Int} {k : Nat} (hk : k < l.length) (h : ∀ i, i < k → l.getD i 0 = 0) (hn : ¬ l.getD k 0 = 0) : orI l = l.getD k 0 := by
  rw [orI_zero (by omega) h, List.drop_eq_getElem_cons hk, orI]
  simp only [List.getD_eq_getElem?_getD, List.getElem?_eq_getElem hk, Option.getD_some] at hn ⊢
  rw [if_neg hn]
theorem Or_v (A : Option Addr) (c : Nat) (xs : List Int) {n : Nat} (hx : xs.length = n) (hn : n ≤ 1000000) :
    CallV Tryd.prog 60 [.v (.slice A n c)] (fun w => ArgSl w A n 1 (xs.map fun x => [encI x])) (I (orI xs)) := by
  refine CallV.of Tryd.func60 rfl tabOk rfl rfl rfl (by simp [SV.wfs, SV.wf]) (by simp [SV.wfs, SV.wf]) fun w hpre => ?_
  (conv=>whnf);repeat' (first|((with_reducible refine isW ?_;first|refine xwr_ok (by omega) (by omega) ?_|refine xwr_raw ?_);conv=>whnf)|with_reducible exact rfl|((with_reducible first|refine xif_kt (by assumption) ?_|refine xif_kf (by assumption) ?_);conv=>whnf)|((with_reducible refine xif_s ?_ ?_)<;>(intro hb;(try simp (disch:=omega) only [hbS] at hb)<;>conv=>whnf)))
  refine LoopX_inv tabOk (α := Nat) (fun k => k ≤ n ∧ ∀ i, i < k → xs.getD i 0 = 0) (fun k => [(8, I k), (7, I n), (6, .v (.slice A n c)), (3, I 0)]) (fun _ => []) (fun k => n - k) 0 [] ⟨Nat.zero_le _, fun i hi => by omega⟩ ?_ ?_
  · ((refine ⟨?_, ?_, ?_, ?_⟩) <;> (repeat' ((conv => whnf); apply And.intro)) <;> (try (first | exact trivial | decide)))
    all_goals first | rfl | exact fun _ _ h => h | simp [SV.wf, SV.wfs]
  · rintro k ⟨hk, hz⟩
    (conv=>whnf);repeat' (first|((with_reducible refine isV ?_);first|((first|refine ValX_index tabOk rfl (hpre.mem (by decide) rfl) rfl ?_ ?_ ?_|(with_reducible refine nat_idx ?_);refine ValX_load1n _ _ (0) tabOk rfl rfl rfl (hpre.mem (by decide) rfl) ?_ ?_ ?_|refine ValX_load1 _ _ (0) tabOk rfl rfl rfl (hpre.mem (by decide) rfl) ?_ ?_ ?_)<;>first|rfl|omega|with_reducible refine isP ?_|conv=>whnf))|((with_reducible refine isW ?_;first|refine xwr_ok (by omega) (by omega) ?_|refine xwr_raw ?_);conv=>whnf)|with_reducible exact rfl|((with_reducible first|refine xif_kt (by assumption) ?_|refine xif_kf (by assumption) ?_);conv=>whnf)|((with_reducible refine xif_s ?_ ?_)<;>(intro hb;(try simp (disch:=omega) only [hbS] at hb)<;>conv=>whnf)))
    · refine Fin_d rfl rfl ?_ trivial
      exact I_eq (orI_at (by omega) hz hb).symm
    · refine ⟨k + 1, [], ⟨by omega, fun i hi => ?_⟩, ?_, by (try dsimp only); omega⟩
      · by_cases e : i = k
        · rw [e]; exact hb
        · exact hz i (by omega)
      · ((refine ⟨?_, ?_, ?_, ?_⟩) <;> (repeat' ((conv => whnf); apply And.intro)) <;> (try (first | exact trivial | decide)))
        all_goals first | rfl | exact fun _ _ h => h | simp [SV.wf, SV.wfs]
    · refine Fin_d rfl rfl ?_ trivial
      refine I_eq ?_
      rw [orI_zero (k := k) (by omega) hz, List.drop_eq_nil_of_le (by omega)]
      rfl
/-- the order of cells, as Go has it -/
def cellI (a b : CellT) : Int := orI [cmpI a.2 b.2, cmpI a.1 b.1]
theorem cellI_neg (a b : CellT) : cellI a b < 0 ↔ befB a b = true := by
  rw [befB_iff]
  simp only [cellI, orI, cmpI]
  repeat' split
  all_goals omega
end Go.Proofs.YtadichckbogcjaaDoor.En

namespace Go.Proofs.YtadichckbogcjaaDoor.En
open Go.RowKit
set_option maxRecDepth 100000

theorem within_d (n m : Int) (h0 : 0 ≤ m) (h1 : m ≤ 9000000000000000000) : PureD Tryd.prog 59 [I n, I m] (B (szB n m)) := by
  refine PureD.of Tryd.func59 rfl tabOk rfl rfl rfl (by simp [SV.wfs, SV.wf]) (by simp [SV.wfs, SV.wf]) fun w => ?_
  (conv=>whnf);repeat' (first|((with_reducible refine isW ?_;first|refine xwr_ok (by omega) (by omega) ?_|refine xwr_raw ?_);conv=>whnf)|with_reducible exact rfl|((with_reducible first|refine xif_kt (by assumption) ?_|refine xif_kf (by assumption) ?_);conv=>whnf)|((with_reducible refine xif_s ?_ ?_)<;>(intro hb;(try simp (disch:=omega) only [hbS] at hb)<;>conv=>whnf)))
  all_goals refine Fin_d rfl rfl ?_ trivial
  all_goals simp [szB]
  all_goals omega
theorem compare_d (a b : CellT) : PureD Tryd.prog 42 [.a [I a.1, I a.2], .a [I b.1, I b.2]] (I (cellI a b)) := by
  refine PureD.of Tryd.func42 rfl tabOk rfl rfl rfl (by simp [SV.wfs, SV.wf]) (by simp [SV.wfs, SV.wf]) fun w => ?_
  (conv=>whnf);repeat' (first|((with_reducible refine isC ?_);first|((with_reducible refine CallX_d (Compare_d _ _) ?_)<;>first|omega|with_reducible refine isP ?_|conv=>whnf)|(refine CallX_v (Or_v _ _ [cmpI a.2 b.2, cmpI a.1 b.1] rfl (by decide)) (ArgSl.row 2 rfl) ?_; conv => whnf))|((with_reducible refine isO ?_);first|((first|(refine OpX_build0 tabOk rfl rfl rfl ?_);intro bN|(refine OpX_build tabOk rfl rfl rfl rfl rfl ?_);intro bN);conv=>whnf))|((first|refine DrawX_s tabOk folOk ?_|refine DrawS_i (by kernel_rfl) ?_|with_reducible refine andX_i ?_ ?_)<;>conv=>whnf)|with_reducible exact rfl|((with_reducible first|refine xif_kt (by assumption) ?_|refine xif_kf (by assumption) ?_);conv=>whnf)|((with_reducible refine xif_s ?_ ?_)<;>(intro hb;(try simp (disch:=omega) only [hbS] at hb)<;>conv=>whnf)))
  exact Fin_d rfl rfl rfl trivial
theorem counted_d (e : EntT) : PureD Tryd.prog 58 [.a [I e.1, I e.2.1, I e.2.2.1, I e.2.2.2]] (B (countB e)) := by
  refine PureD.of Tryd.func58 rfl tabOk rfl rfl rfl (by simp [SV.wfs, SV.wf]) (by simp [SV.wfs, SV.wf]) fun w => ?_
  (conv=>whnf);repeat' (first|((with_reducible refine isC ?_);first|((with_reducible refine CallX_d (within_d _ _ ?_ ?_) ?_)<;>first|omega|with_reducible refine isP ?_|conv=>whnf))|with_reducible exact rfl|((with_reducible first|refine xif_kt (by assumption) ?_|refine xif_kf (by assumption) ?_);conv=>whnf)|((with_reducible refine xif_s ?_ ?_)<;>(intro hb;(try simp (disch:=omega) only [hbS] at hb)<;>conv=>whnf)))
  all_goals refine Fin_d rfl rfl ?_ trivial
  all_goals simp [countB, hb]
theorem good_d (e : EntT) : PureD Tryd.prog 41 [.a [I e.1, I e.2.1, I e.2.2.1, I e.2.2.2]] (B (goodB e)) := by
  refine PureD.of Tryd.func41 rfl tabOk rfl rfl rfl (by simp [SV.wfs, SV.wf]) (by simp [SV.wfs, SV.wf]) fun w => ?_
  (conv=>whnf);repeat' (first|((with_reducible refine isC ?_);first|((first|with_reducible refine CallX_d (within_d _ _ ?_ ?_) ?_|with_reducible refine CallX_d (counted_d e) ?_)<;>first|omega|with_reducible refine isP ?_|conv=>whnf))|with_reducible exact rfl|((with_reducible first|refine xif_kt (by assumption) ?_|refine xif_kf (by assumption) ?_);conv=>whnf)|((with_reducible refine xif_s ?_ ?_)<;>(intro hb;(try simp (disch:=omega) only [hbS] at hb)<;>conv=>whnf)))
  all_goals refine Fin_d rfl rfl ?_ trivial
  all_goals simp_all [goodB]
theorem Valid_v (A : Option Addr) (c : Nat) (l : List EntT) {n : Nat} (hl : l.length = n) (hn : n ≤ maxLen) :
    CallV Tryd.prog 23 [.v (.slice A n c)] (fun w => ArgSl w A n 4 (l.map encE)) (B (vE l)) := by
  unfold maxLen at hn
  refine CallV.of Tryd.func23 rfl tabOk rfl rfl rfl (by simp [SV.wfs, SV.wf]) (by simp [SV.wfs, SV.wf]) fun w hpre => ?_
  (conv=>whnf);repeat' (first|((with_reducible refine isW ?_;first|refine xwr_ok (by omega) (by omega) ?_|refine xwr_raw ?_);conv=>whnf)|((first|refine DrawX_s tabOk folOk ?_|refine DrawS_i (by kernel_rfl) ?_|with_reducible refine andX_i ?_ ?_)<;>conv=>whnf)|with_reducible exact rfl|((with_reducible first|refine xif_kt (by assumption) ?_|refine xif_kf (by assumption) ?_);conv=>whnf)|((with_reducible refine xif_s ?_ ?_)<;>(intro hb;(try simp (disch:=omega) only [hbS] at hb)<;>conv=>whnf)))
  refine LoopX_inv tabOk (α := Nat) (fun k => k ≤ n ∧ ∀ j, j < k → okAt l j = true) (fun k => [(7, I k), (6, I n), (5, .v (.slice A n c)), (0, .v (.slice A n c))]) (fun _ => []) (fun k => n - k) 0 [] ⟨Nat.zero_le _, fun i hi => by omega⟩ ?_ ?_
  · ((refine ⟨?_, ?_, ?_, ?_⟩) <;> (repeat' ((conv => whnf); apply And.intro)) <;> (try (first | exact trivial | decide)))
    all_goals first | rfl | exact fun _ _ h => h | simp [SV.wf, SV.wfs]
  · rintro k ⟨hk, hz⟩
    (conv=>whnf);repeat' (first|((with_reducible refine isC ?_);first|((first|with_reducible refine CallX_d (good_d (l.getD k e0)) ?_|with_reducible refine CallX_d (compare_d (_, _) (_, _)) ?_)<;>first|omega|with_reducible refine isP ?_|conv=>whnf))|((with_reducible refine isV ?_);first|((first|refine ValX_index tabOk rfl (hpre.mem (by decide) rfl) rfl ?_ ?_ ?_|(with_reducible refine nat_idx ?_);refine ValX_loadEn _ _ (e0) tabOk rfl rfl rfl rfl (hpre.mem (by decide) rfl) ?_ ?_ ?_|refine ValX_loadE _ _ (e0) tabOk rfl rfl rfl rfl (hpre.mem (by decide) rfl) ?_ ?_ ?_)<;>first|rfl|omega|with_reducible refine isP ?_|conv=>whnf)|((first|(with_reducible refine nat_idxF ?_);refine ValX_loadGn _ _ (e0) _ tabOk rfl rfl rfl (hpre.mem (by decide) rfl) ?_ ?_ rfl rfl ?_|refine ValX_loadG _ _ (e0) _ tabOk rfl rfl rfl (hpre.mem (by decide) rfl) ?_ ?_ rfl rfl ?_)<;>first|omega|with_reducible refine isP ?_|conv=>whnf))|((with_reducible refine isW ?_;first|refine xwr_ok (by omega) (by omega) ?_|refine xwr_raw ?_);conv=>whnf)|((first|refine DrawX_s tabOk folOk ?_|refine DrawS_i (by kernel_rfl) ?_|with_reducible refine andX_i ?_ ?_)<;>conv=>whnf)|with_reducible exact rfl|((with_reducible first|refine xif_kt (by assumption) ?_|refine xif_kf (by assumption) ?_);conv=>whnf)|((with_reducible refine xif_s ?_ ?_)<;>(intro hb;(try simp (disch:=omega) only [hbS] at hb)<;>conv=>whnf)))
    · refine Fin_d rfl rfl ?_ trivial
      rw [vE_bad (k := k) (by omega) (by simp only [okAt, hb, Bool.false_and])]
    · refine Fin_d rfl rfl ?_ trivial
      have e : ((k : Int) - 1).toNat = k - 1 := by omega
      rw [e] at hb
      have hbf : befB (l.getD (k - 1) e0).cell (l.getD k e0).cell = false := by
        have := mt (cellI_neg (l.getD (k - 1) e0).cell (l.getD k e0).cell).2 (Int.not_lt.2 hb)
        simpa using this
      have hk0 : ¬ k = 0 := by omega
      rw [vE_bad (k := k) (by omega) (by simp only [okAt, hbf, hk0]; simp)]
    · refine ⟨k + 1, [], ⟨by omega, fun j hj => ?_⟩, ?_, by (try dsimp only); omega⟩
      · by_cases e : j = k
        · rw [e]
          have e : ((k : Int) - 1).toNat = k - 1 := by omega
          rw [e] at hb
          have hbf := (cellI_neg (l.getD (k - 1) e0).cell (l.getD k e0).cell).1 hb
          simp only [okAt, hbf]
          simp_all
        · exact hz j (by omega)
      · ((refine ⟨?_, ?_, ?_, ?_⟩) <;> (repeat' ((conv => whnf); apply And.intro)) <;> (try (first | exact trivial | decide)))
        all_goals first | rfl | exact fun _ _ h => h | simp [SV.wf, SV.wfs]
    · refine ⟨k + 1, [], ⟨by omega, fun j hj => ?_⟩, ?_, by (try dsimp only); omega⟩
      · by_cases e : j = k
        · have hk0 : k = 0 := by omega
          rw [e]
          simp only [okAt, hk0]
          simp_all
        · exact hz j (by omega)
      · ((refine ⟨?_, ?_, ?_, ?_⟩) <;> (repeat' ((conv => whnf); apply And.intro)) <;> (try (first | exact trivial | decide)))
        all_goals first | rfl | exact fun _ _ h => h | simp [SV.wf, SV.wfs]
    · refine Fin_d rfl rfl ?_ trivial
      obtain rfl : k = n := by omega
      rw [vE_end (by rw [hl]; exact hz), hl]
      congr 2
      refine decide_eq_decide.2 ?_
      omega
end Go.Proofs.YtadichckbogcjaaDoor.En
