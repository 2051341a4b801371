import Derived.Test.YtadichckbogcjaaGreatDoorZToolsExplains09
import Derived.Test.YtadichckbogcjaaGreatDoorZToolsExplains19
import Derived.Test.YtadichckbogcjaaGreatDoorZToolsExplains18
import Derived.Test.YtadichckbogcjaaGreatDoorZToolsExplains15
import Derived.Test.YtadichckbogcjaaGreatDoorZToolsExplains10
import Derived.Test.YtadichckbogcjaaGreatDoorZToolsExplains14
set_option linter.all false
section
namespace Go.Proofs.YtadichckbogcjaaGreatDoor.En
open Go.RowKit
set_option maxRecDepth 100000
def bsI (p : Nat → Bool) : Nat → Nat → Nat → Nat
  | 0, i, _ => i
  | f + 1, i, j => if i < j then (if p ((i + j) / 2) then bsI p f ((i + j) / 2 + 1) j else bsI p f i ((i + j) / 2)) else i
theorem bsI_end (p : Nat → Bool) (f i : Nat) : bsI p f i i = i := by cases f <;> simp [bsI]
theorem bsI_at (p : Nat → Bool) (m : Nat) : ∀ f i j, j - i ≤ f → i ≤ m → m ≤ j → (∀ k, k < m → p k = true) → (∀ k, m ≤ k → k < j → p k = false) → bsI p f i j = m
  | 0, i, j, h, h1, h2, _, _ => by simp [bsI]; omega
  | f + 1, i, j, h, h1, h2, ht, hf => by
    unfold bsI
    by_cases hij : i < j
    · rw [if_pos hij]
      by_cases hm : (i + j) / 2 < m
      · rw [ht _ hm, if_pos rfl]
        exact bsI_at p m f _ j (by omega) (by omega) h2 ht hf
      · rw [hf _ (by omega) (by omega), if_neg (by simp)]
        exact bsI_at p m f i _ (by omega) h1 (by omega) ht fun k h3 h4 => hf k h3 (by omega)
    · rw [if_neg hij]
      omega
theorem At1_d (e : EntT) (c : CellT) : PureD Tryz.prog 60 [.a [I e.1, I e.2.1, I e.2.2.1, I e.2.2.2], .a [I c.1, I c.2]] (I (cellI e.cell c)) := by
  refine PureD.of Tryz.func60 rfl tabOk rfl rfl rfl (by simp [SV.wfs, SV.wf]) (by simp [SV.wfs, SV.wf]) fun w => ?_
  (conv=>whnf);repeat' (first|((with_reducible refine isC ?_);first|((with_reducible refine CallX_d (compare_d (_, _) (_, _)) ?_)<;>first|omega|with_reducible refine isP ?_|conv=>whnf))|with_reducible exact rfl|((with_reducible first|refine xif_kt (by assumption) ?_|refine xif_kf (by assumption) ?_);conv=>whnf)|((with_reducible refine xif_s ?_ ?_)<;>(intro hb;(try simp (disch:=omega) only [hbS] at hb)<;>conv=>whnf)))
  exact Fin_d rfl rfl rfl trivial
def befP (l : List EntT) (c : CellT) (k : Nat) : Bool := decide (cellI (l.getD k e0).cell c < 0)
def bsE (l : List EntT) (c : CellT) : Nat := bsI (befP l c) l.length 0 l.length
def bsF (l : List EntT) (c : CellT) : Bool := decide (bsE l c < l.length) && decide (cellI (l.getD (bsE l c) e0).cell c = 0)
set_option maxHeartbeats 1000000 in
theorem BSF_v (A : Option Addr) (c : Nat) (l : List EntT) (x : CellT) {n : Nat} (hl : l.length = n) (hn : n ≤ 1000000000) :
    CallV Tryz.prog 59 [.v (.slice A n c), .a [I x.1, I x.2], .v (.func (.func 60) #[] #[])] (fun w => ArgSl w A n 4 (l.map encE)) (.t [I (bsE l x), B (bsF l x)]) := by
  refine CallV.of Tryz.func59 rfl tabOk rfl rfl rfl (by simp [SV.wfs, SV.wf]) (by simp [SV.wfs, SV.wf]) fun w hpre => ?_
  (conv=>whnf);repeat' (first|((with_reducible refine isW ?_;first|refine xwr_ok (by omega) (by omega) ?_|refine xwr_raw ?_);conv=>whnf)|((with_reducible refine isS ?_;refine xshr_1 ?_);conv=>whnf)|((with_reducible refine isK ?_;first|refine xcv_i64 (by omega) (by omega) ?_|refine xcv_u64 (by omega) (by omega) ?_|refine xcv_u8 (by omega) (by omega) ?_|refine xcv_raw ?_);conv=>whnf)|((first|refine DrawX_s tabOk folOk ?_|refine DrawS_i (by kernel_rfl) ?_|with_reducible refine andX_i ?_ ?_)<;>conv=>whnf)|with_reducible exact rfl|((with_reducible first|refine xif_kt (by assumption) ?_|refine xif_kf (by assumption) ?_);conv=>whnf)|((with_reducible refine xif_s ?_ ?_)<;>(intro hb;(try simp (disch:=omega) only [hbS] at hb)<;>conv=>whnf)))
  refine LoopX_inv tabOk (α := Nat × Nat) (fun p => p.1 ≤ p.2 ∧ p.2 ≤ n ∧ ∃ f, p.2 - p.1 ≤ f ∧ bsI (befP l x) f p.1 p.2 = bsE l x) (fun p => [(0, .v (.slice A n c)), (2, .v (.func (.func 60) #[] #[])), (4, .p 0 0), (8, I n), (9, I p.1), (10, I p.2)]) (fun _ => [.box 25 [I x.1, I x.2]]) (fun p => p.2 - p.1) (0, n) [0] ⟨Nat.zero_le _, Nat.le_refl _, n, by simp, by simp [bsE, hl]⟩ ?_ ?_
  · ((refine ⟨?_, ?_, ?_, ?_⟩) <;> (repeat' ((conv => whnf); apply And.intro)) <;> (try (first | exact trivial | decide)))
    all_goals first | rfl | exact fun _ _ h => h | simp [SV.wf, SV.wfs]
  · rintro ⟨i, j⟩ hk
    try dsimp only at hk ⊢
    obtain ⟨hij, hjn, f, hf, hr⟩ := hk
    (conv=>whnf);repeat' (first|((with_reducible refine isC ?_);first|((first|with_reducible refine CallX_d (At1_d (l.getD (((i : Int) + j) / 2).toNat e0) x) ?_|with_reducible refine CallX_d (At1_d (l.getD i e0) x) ?_)<;>first|omega|with_reducible refine isP ?_|conv=>whnf))|((with_reducible refine isV ?_);first|((first|refine ValX_index tabOk rfl (hpre.mem (by decide) rfl) rfl ?_ ?_ ?_|(with_reducible refine nat_idx ?_);refine ValX_loadEn _ _ (e0) tabOk rfl rfl rfl rfl (hpre.mem (by decide) rfl) ?_ ?_ ?_|refine ValX_loadE _ _ (e0) tabOk rfl rfl rfl rfl (hpre.mem (by decide) rfl) ?_ ?_ ?_)<;>first|rfl|omega|with_reducible refine isP ?_|conv=>whnf))|((with_reducible refine isW ?_;first|refine xwr_ok (by omega) (by omega) ?_|refine xwr_raw ?_);conv=>whnf)|((with_reducible refine isS ?_;refine xshr_1 ?_);conv=>whnf)|((with_reducible refine isK ?_;first|refine xcv_i64 (by omega) (by omega) ?_|refine xcv_u64 (by omega) (by omega) ?_|refine xcv_u8 (by omega) (by omega) ?_|refine xcv_raw ?_);conv=>whnf)|((first|refine DrawX_s tabOk folOk ?_|refine DrawS_i (by kernel_rfl) ?_|with_reducible refine andX_i ?_ ?_)<;>conv=>whnf)|with_reducible exact rfl|((with_reducible first|refine xif_kt (by assumption) ?_|refine xif_kf (by assumption) ?_);conv=>whnf)|((with_reducible refine xif_s ?_ ?_)<;>(intro hb;(try simp (disch:=omega) only [hbS] at hb)<;>conv=>whnf)))
    all_goals try (rw [show ((((i : Int) + j) / 2).toNat) = (i + j) / 2 by omega] at hb)
    · have hlt : i < j := by omega
      obtain ⟨f, rfl⟩ : ∃ f', f = f' + 1 := ⟨f - 1, by omega⟩
      have hp : befP l x ((i + j) / 2) = true := by simpa [befP] using hb
      rw [bsI, if_pos hlt, hp, if_pos rfl] at hr
      refine ⟨((i + j) / 2 + 1, j), [0], ⟨by (try dsimp only); omega, hjn, f, by (try dsimp only); omega, hr⟩, ?_, by (try dsimp only); omega⟩
      ((refine ⟨?_, ?_, ?_, ?_⟩) <;> (repeat' ((conv => whnf); apply And.intro)) <;> (try (first | exact trivial | decide)))
      all_goals first | rfl | exact fun _ _ h => h | exact I_eq (by omega) | simp [SV.wf, SV.wfs]
    · have hlt : i < j := by omega
      obtain ⟨f, rfl⟩ : ∃ f', f = f' + 1 := ⟨f - 1, by omega⟩
      have hp : befP l x ((i + j) / 2) = false := by simpa [befP] using hb
      rw [bsI, if_pos hlt, hp, if_neg (by simp)] at hr
      refine ⟨(i, (i + j) / 2), [0], ⟨by (try dsimp only); omega, by (try dsimp only); omega, f, by (try dsimp only); omega, hr⟩, ?_, by (try dsimp only); omega⟩
      ((refine ⟨?_, ?_, ?_, ?_⟩) <;> (repeat' ((conv => whnf); apply And.intro)) <;> (try (first | exact trivial | decide)))
      all_goals first | rfl | exact fun _ _ h => h | exact I_eq (by omega) | simp [SV.wf, SV.wfs]
    · obtain rfl : i = j := by omega
      rw [bsI_end] at hr
      refine Fin_d rfl rfl ?_ (by simp [SV.wf, SV.wfs])
      have hlt : bsE l x < l.length := by omega
      simp only [bsF, ← hr]
      rw [hr, decide_eq_true hlt, ← hr, Bool.true_and]
      rfl
    · obtain rfl : i = j := by omega
      rw [bsI_end] at hr
      refine Fin_d rfl rfl ?_ (by simp [SV.wf, SV.wfs])
      have hlt : ¬ bsE l x < l.length := by omega
      simp only [bsF, ← hr]
      rw [hr, decide_eq_false hlt, ← hr, Bool.false_and]
theorem bsF_lt {l : List EntT} {x : CellT} (h : bsF l x = true) : bsE l x < l.length := by
  simp only [bsF, Bool.and_eq_true, decide_eq_true_eq] at h
  exact h.1
def atE (l : List EntT) (x : CellT) : EntT := if bsF l x && vE l then l.getD (bsE l x) e0 else (x.1, x.2, 0, 0)
theorem At_v (A : Option Addr) (c : Nat) (l : List EntT) (x : CellT) {n : Nat} (hl : l.length = n) (hn : n ≤ 1000000000) :
    CallV Tryz.prog 25 [.v (.slice A n c), .a [I x.1, I x.2]] (fun w => ArgSl w A n 4 (l.map encE)) (.a [I (atE l x).1, I (atE l x).2.1, I (atE l x).2.2.1, I (atE l x).2.2.2]) := by
  have hlen := bsF_lt (l := l) (x := x)
  refine CallV.of Tryz.func25 rfl tabOk rfl rfl rfl (by simp [SV.wfs, SV.wf]) (by simp [SV.wfs, SV.wf]) fun w hpre => ?_
  (conv=>whnf);repeat' (first|((with_reducible refine isC ?_);first|(refine CallX_v (BSF_v A c l x hl hn) (hpre.mem (by decide) rfl) ?_; conv => whnf)|(refine CallX_v (Valid_v A c l hl (by unfold maxLen; omega)) (hpre.mem (by decide) rfl) ?_; conv => whnf))|((with_reducible refine isV ?_);first|((first|refine ValX_index tabOk rfl (hpre.mem (by decide) rfl) rfl ?_ ?_ ?_|(with_reducible refine nat_idx ?_);refine ValX_loadEn _ _ (e0) tabOk rfl rfl rfl rfl (hpre.mem (by decide) rfl) ?_ ?_ ?_|refine ValX_loadE _ _ (e0) tabOk rfl rfl rfl rfl (hpre.mem (by decide) rfl) ?_ ?_ ?_)<;>first|rfl|omega|with_reducible refine isP ?_|conv=>whnf))|with_reducible exact rfl|((with_reducible first|refine xif_kt (by assumption) ?_|refine xif_kf (by assumption) ?_);conv=>whnf)|((with_reducible refine xif_s ?_ ?_)<;>(intro hb;(try simp (disch:=omega) only [hbS] at hb)<;>conv=>whnf)))
  all_goals try (have := hlen ‹_›; omega)
  · refine Fin_d rfl rfl ?_ (by simp [SV.wf, SV.wfs])
    simp only [atE, hb, Bool.false_and, Bool.false_eq_true, if_false]
  · refine Fin_d rfl rfl ?_ (by simp [SV.wf, SV.wfs])
    simp only [atE, hb, Bool.and_false, Bool.false_eq_true, if_false]
  · rename_i h1
    refine Fin_d rfl rfl ?_ (by simp [SV.wf, SV.wfs])
    simp only [atE, hb, h1, Bool.and_self, if_true]
theorem cellI_zero (a b : CellT) : cellI a b = 0 ↔ a = b := by
  constructor
  · intro h
    simp only [cellI, orI, cmpI] at h
    refine Prod.ext ?_ ?_
    all_goals
      repeat' split at h
      all_goals omega
  · rintro rfl
    simp [cellI, orI, cmpI]
theorem befP_iff (l : List EntT) (c : CellT) (k : Nat) : befP l c k = befB (l.getD k e0).cell c := by
  rw [Bool.eq_iff_iff, befP, decide_eq_true_eq, cellI_neg]
theorem bsE_at {l : List EntT} (h : vE l = true) {x : CellT} {m : Nat} (hm : m ≤ l.length) (h1 : ∀ k, k < m → befB (l.getD k e0).cell x = true) (h2 : m < l.length → befB (l.getD m e0).cell x = false) : bsE l x = m := by
  unfold bsE
  refine bsI_at _ m _ _ _ (by omega) (Nat.zero_le _) hm (fun k hk => by rw [befP_iff]; exact h1 k hk) fun k hk hk' => ?_
  rw [befP_iff]
  have h3 := h2 (by omega)
  by_cases e : k = m
  · rw [e]; exact h3
  · have h4 := vE_asc h (show m < k by omega) hk'
    cases h5 : befB (l.getD k e0).cell x with
    | false => rfl
    | true => rw [befB_trans h4 h5] at h3; cases h3
theorem at_mem {l : List EntT} (h : vE l = true) {e : EntT} (he : e ∈ l) : atE l e.cell = e := by
  obtain ⟨m, hm, rfl⟩ := List.getElem_of_mem he
  have hg : l.getD m e0 = l[m] := by simp [hm]
  have hb : bsE l l[m].cell = m := bsE_at h (by omega) (fun k hk => by rw [← hg]; exact vE_asc h hk hm) (fun _ => by rw [hg]; exact befB_irr _)
  have hf : bsF l l[m].cell = true := by
    simp only [bsF, hb, hg]
    simp [hm, cellI_zero]
  simp only [atE, hf, h, Bool.and_self, if_true, hb, hg]
theorem at_none {l : List EntT} {x : CellT} (hx : ∀ e ∈ l, e.cell ≠ x) : atE l x = (x.1, x.2, 0, 0) := by
  unfold atE
  cases hf : bsF l x with
  | false => simp
  | true =>
    have hlt := bsF_lt hf
    simp only [bsF, Bool.and_eq_true, decide_eq_true_eq, cellI_zero] at hf
    refine (hx (l.getD (bsE l x) e0) ?_ hf.2).elim
    simp [hlt]
theorem at_bad {l : List EntT} {x : CellT} (h : vE l = false) : atE l x = (x.1, x.2, 0, 0) := by
  simp [atE, h]
end Go.Proofs.YtadichckbogcjaaGreatDoor.En
end
section
namespace Go.Proofs.YtadichckbogcjaaGreatDoor.En
open Go.RowKit
set_option maxRecDepth 100000
def getF (l : List EntT) (c : CellT) : EntT := (l.find? fun e => decide (e.cell = c)).getD (c.1, c.2, 0, 0)
theorem getF_mem (l : List EntT) (c : CellT) : getF l c ∈ l ∧ (getF l c).cell = c ∨ getF l c = (c.1, c.2, 0, 0) ∧ ∀ e ∈ l, e.cell ≠ c := by
  unfold getF
  cases h : l.find? fun e => decide (e.cell = c) with
  | none =>
    rw [List.find?_eq_none] at h
    exact .inr ⟨rfl, fun e he => by simpa using h e he⟩
  | some x =>
    have h1 := List.find?_some h
    exact .inl ⟨List.mem_of_find?_eq_some h, by simpa using h1⟩
theorem atE_eq {l : List EntT} (c : CellT) : atE l c = if vE l then getF l c else (c.1, c.2, 0, 0) := by
  cases h : vE l with
  | false => rw [if_neg (by simp), at_bad h]
  | true =>
    rw [if_pos rfl]
    rcases getF_mem l c with ⟨h1, h2⟩ | ⟨h1, h2⟩
    · rw [← h2, at_mem h h1, h2]
    · rw [at_none h2, h1]
end Go.Proofs.YtadichckbogcjaaGreatDoor.En
end
section
namespace Go.Proofs.YtadichckbogcjaaGreatDoor.En
open Go.RowKit
set_option maxRecDepth 100000
theorem clip_cmp (a b : Int) : clipI (a - b) (-1) 1 = cmpI a b := by
  unfold clipI cmpI
  repeat' split
  all_goals omega
theorem order_d (a b : Int) (ha : -4611686018427387904 ≤ a ∧ a ≤ 4611686018427387904) (hb0 : -4611686018427387904 < b ∧ b ≤ 4611686018427387904) : PureD Tryz.prog 121 [I a, I b] (I (cmpI a b)) := by
  have hc : PureD Tryz.prog 151 [I (a - b), I (-1), I 1] (I (cmpI a b)) := by
    rw [← clip_cmp]
    refine PureD.of Tryz.func151 rfl tabOk rfl rfl rfl (by simp [SV.wfs, SV.wf]) (by simp [SV.wfs, SV.wf]) fun w => ?_
    (conv=>whnf);repeat' (first|with_reducible exact rfl|((with_reducible first|refine xif_kt (by assumption) ?_|refine xif_kf (by assumption) ?_);conv=>whnf)|((with_reducible refine xif_s ?_ ?_)<;>(intro hb;(try simp (disch:=omega) only [hbS] at hb)<;>conv=>whnf)))
    exact Fin_d rfl rfl rfl trivial
  refine PureD.of Tryz.func121 rfl tabOk rfl rfl rfl (by simp [SV.wfs, SV.wf]) (by simp [SV.wfs, SV.wf]) fun w => ?_
  (conv=>whnf);repeat' (first|((with_reducible refine isC ?_);first|((with_reducible refine CallX_d (hc) ?_)<;>first|omega|with_reducible refine isP ?_|conv=>whnf))|((with_reducible refine isW ?_;first|refine xwr_ok (by omega) (by omega) ?_|refine xwr_raw ?_);conv=>whnf)|with_reducible exact rfl|((with_reducible first|refine xif_kt (by assumption) ?_|refine xif_kf (by assumption) ?_);conv=>whnf)|((with_reducible refine xif_s ?_ ?_)<;>(intro hb;(try simp (disch:=omega) only [hbS] at hb)<;>conv=>whnf)))
  exact Fin_d rfl rfl rfl trivial
theorem gone_d (p : PlT) : PureD Tryz.prog 122 [plX p] (I (if p.2.1 then 1 else 0)) := by
  obtain ⟨v, g, x, y, h⟩ := p
  cases g with
  | true =>
    refine PureD.of Tryz.func122 rfl tabOk rfl rfl rfl (by simp [SV.wfs, SV.wf]) (by simp [SV.wfs, SV.wf]) fun w => ?_
    (conv=>whnf);repeat' (first|with_reducible exact rfl|((with_reducible first|refine xif_kt (by assumption) ?_|refine xif_kf (by assumption) ?_);conv=>whnf)|((with_reducible refine xif_s ?_ ?_)<;>(intro hb;(try simp (disch:=omega) only [hbS] at hb)<;>conv=>whnf)))
    exact Fin_d rfl rfl rfl trivial
  | false =>
    refine PureD.of Tryz.func122 rfl tabOk rfl rfl rfl (by simp [SV.wfs, SV.wf]) (by simp [SV.wfs, SV.wf]) fun w => ?_
    (conv=>whnf);repeat' (first|with_reducible exact rfl|((with_reducible first|refine xif_kt (by assumption) ?_|refine xif_kf (by assumption) ?_);conv=>whnf)|((with_reducible refine xif_s ?_ ?_)<;>(intro hb;(try simp (disch:=omega) only [hbS] at hb)<;>conv=>whnf)))
    exact Fin_d rfl rfl rfl trivial
theorem first_v (A : Option Addr) (c : Nat) (xs : List Int) {n : Nat} (hx : xs.length = n) (hn : n ≤ 1000000) :
    CallV Tryz.prog 120 [.v (.slice A n c)] (fun w => ArgSl w A n 1 (xs.map fun x => [encI x])) (I (orI xs)) := by
  refine CallV.of Tryz.func120 rfl tabOk rfl rfl rfl (by simp [SV.wfs, SV.wf]) (by simp [SV.wfs, SV.wf]) fun w hpre => ?_
  (conv=>whnf);repeat' (first|((with_reducible refine isW ?_;first|refine xwr_ok (by omega) (by omega) ?_|refine xwr_raw ?_);conv=>whnf)|with_reducible exact rfl|((with_reducible first|refine xif_kt (by assumption) ?_|refine xif_kf (by assumption) ?_);conv=>whnf)|((with_reducible refine xif_s ?_ ?_)<;>(intro hb;(try simp (disch:=omega) only [hbS] at hb)<;>conv=>whnf)))
  refine LoopX_inv tabOk (α := Nat) (fun k => k ≤ n ∧ ∀ i, i < k → xs.getD i 0 = 0) (fun k => [(0, .v (.slice A n c)), (3, I k)]) (fun _ => []) (fun k => n - k) 0 [] ⟨Nat.zero_le _, fun i hi => by omega⟩ ?_ ?_
  · ((refine ⟨?_, ?_, ?_, ?_⟩) <;> (repeat' ((conv => whnf); apply And.intro)) <;> (try (first | exact trivial | decide)))
    all_goals first | rfl | exact fun _ _ h => h | simp [SV.wf, SV.wfs]
  · rintro k ⟨hk, hz⟩
    (conv=>whnf);repeat' (first|((with_reducible refine isV ?_);first|((first|refine ValX_index tabOk rfl (hpre.mem (by decide) rfl) rfl ?_ ?_ ?_|(with_reducible refine nat_idx ?_);refine ValX_load1n _ _ (0) tabOk rfl rfl rfl (hpre.mem (by decide) rfl) ?_ ?_ ?_|refine ValX_load1 _ _ (0) tabOk rfl rfl rfl (hpre.mem (by decide) rfl) ?_ ?_ ?_)<;>first|rfl|omega|with_reducible refine isP ?_|conv=>whnf))|((with_reducible refine isW ?_;first|refine xwr_ok (by omega) (by omega) ?_|refine xwr_raw ?_);conv=>whnf)|with_reducible exact rfl|((with_reducible first|refine xif_kt (by assumption) ?_|refine xif_kf (by assumption) ?_);conv=>whnf)|((with_reducible refine xif_s ?_ ?_)<;>(intro hb;(try simp (disch:=omega) only [hbS] at hb)<;>conv=>whnf)))
    · refine Fin_d rfl rfl ?_ trivial
      exact I_eq (orI_at (by omega) hz hb).symm
    · refine ⟨k + 1, [], ⟨by omega, fun i hi => ?_⟩, ?_, by (try dsimp only); omega⟩
      · by_cases e : i = k
        · rw [e]; exact hb
        · exact hz i (by omega)
      · ((refine ⟨?_, ?_, ?_, ?_⟩) <;> (repeat' ((conv => whnf); apply And.intro)) <;> (try (first | exact trivial | decide)))
        all_goals first | rfl | exact fun _ _ h => h | simp [SV.wf, SV.wfs]
    · refine Fin_d rfl rfl ?_ trivial
      refine I_eq ?_
      rw [orI_zero (k := k) (by omega) hz, List.drop_eq_nil_of_le (by omega)]
      rfl
def smP (p : PlT) : Prop := (-1099511627776 ≤ p.1 ∧ p.1 ≤ 1099511627776) ∧ (-1099511627776 ≤ p.2.2.1 ∧ p.2.2.1 ≤ 1099511627776) ∧ (-1099511627776 ≤ p.2.2.2.1 ∧ p.2.2.2.1 ≤ 1099511627776) ∧ (-1099511627776 ≤ p.2.2.2.2 ∧ p.2.2.2.2 ≤ 1099511627776)
theorem vPl_sm {p : PlT} (h : vPl p = true) : smP p := by
  unfold vPl at h
  unfold smP
  simp only [Bool.and_eq_true, decide_eq_true_eq] at h
  obtain ⟨⟨h1, h2⟩, h3⟩ := h
  cases hg : p.2.1 with
  | true =>
    rw [hg] at h3
    simp only [if_true, Bool.and_eq_true, decide_eq_true_eq] at h3
    omega
  | false =>
    rw [hg] at h3
    simp only [Bool.false_eq_true, if_false, szB, Bool.and_eq_true, decide_eq_true_eq] at h3
    omega
theorem smP0 : smP (0, false, 0, 0, 0) := by
  unfold smP
  decide
theorem rLater_d (p q : PlT) (hp : smP p) (hq : smP q) : PureD Tryz.prog 85 [plX p, plX q] (I (lexC (keyP p) (keyP q))) := by
  have e : lexC (keyP p) (keyP q) = orI [cmpI p.1 q.1, cmpI (if p.2.1 then 1 else 0) (if q.2.1 then 1 else 0), cmpI p.2.2.1 q.2.2.1, cmpI p.2.2.2.1 q.2.2.2.1, cmpI p.2.2.2.2 q.2.2.2.2] := rfl
  rw [e]
  unfold smP at hp hq
  have o1 := order_d p.1 q.1 (by omega) (by omega)
  have o2 := order_d (if p.2.1 then 1 else 0) (if q.2.1 then 1 else 0) (by cases p.2.1 <;> simp) (by cases q.2.1 <;> simp)
  have o3 := order_d p.2.2.1 q.2.2.1 (by omega) (by omega)
  have o4 := order_d p.2.2.2.1 q.2.2.2.1 (by omega) (by omega)
  have o5 := order_d p.2.2.2.2 q.2.2.2.2 (by omega) (by omega)
  refine PureD.of Tryz.func85 rfl tabOk rfl rfl rfl (by simp [SV.wfs, SV.wf]) (by simp [SV.wfs, SV.wf]) fun w => ?_
  (conv=>whnf);repeat' (first|((with_reducible refine isC ?_);first|((first|with_reducible refine CallX_d (o1) ?_|with_reducible refine CallX_d (o2) ?_|with_reducible refine CallX_d (o3) ?_|with_reducible refine CallX_d (o4) ?_|with_reducible refine CallX_d (o5) ?_|with_reducible refine CallX_d (gone_d _) ?_)<;>first|omega|with_reducible refine isP ?_|conv=>whnf)|(((with_reducible refine isF 120 ?_);(refine CallX_v (first_v _ _ [cmpI p.1 q.1, cmpI (if p.2.1 then 1 else 0) (if q.2.1 then 1 else 0), cmpI p.2.2.1 q.2.2.1, cmpI p.2.2.2.1 q.2.2.2.1, cmpI p.2.2.2.2 q.2.2.2.2] rfl (by decide)) (ArgSl.row 2 rfl) ?_));conv=>whnf))|((with_reducible refine isO ?_);first|((first|(refine OpX_build0 tabOk rfl rfl rfl ?_);intro bN|(refine OpX_build tabOk rfl rfl rfl rfl rfl ?_);intro bN);conv=>whnf))|((first|refine DrawX_s tabOk folOk ?_|refine DrawS_i (by kernel_rfl) ?_|with_reducible refine andX_i ?_ ?_)<;>conv=>whnf)|with_reducible exact rfl|((with_reducible first|refine xif_kt (by assumption) ?_|refine xif_kf (by assumption) ?_);conv=>whnf)|((with_reducible refine xif_s ?_ ?_)<;>(intro hb;(try simp (disch:=omega) only [hbS] at hb)<;>conv=>whnf)))
  exact Fin_d rfl rfl rfl trivial
theorem bPose17_x (p : Int × Int × Int) : PureX Tryz.prog 63 [.a [I p.1, I p.2.1, I p.2.2]] (B (szB p.1 1048576 && szB p.2.1 1048576 && decide (0 ≤ p.2.2) && decide (p.2.2 < 256))) := by
  refine PureX.of Tryz.func63 rfl tabOk rfl rfl rfl (by simp [SV.wfs, SV.wf]) (by simp [SV.wfs, SV.wf]) fun w => ?_
  (conv=>whnf);repeat' (first|((with_reducible refine isC ?_);first|((with_reducible refine CallX_pure (Size_x _ _ ?_ ?_) ?_)<;>first|omega|with_reducible refine isP ?_|conv=>whnf))|with_reducible exact rfl|((with_reducible first|refine xif_kt (by assumption) ?_|refine xif_kf (by assumption) ?_);conv=>whnf)|((with_reducible refine xif_s ?_ ?_)<;>(intro hb;(try simp (disch:=omega) only [hbS] at hb)<;>conv=>whnf)))
  all_goals refine Fin_pure rfl (B_eq ?_) trivial
  all_goals first | (simp [*]; done) | (simp [*]; omega)
theorem rPlacement_x (p : PlT) : PureX Tryz.prog 83 [plX p] (B (vPl p)) := by
  obtain ⟨v, g, x, y, h⟩ := p
  cases g with
  | true =>
    refine PureX.of Tryz.func83 rfl tabOk rfl rfl rfl (by simp [SV.wfs, SV.wf]) (by simp [SV.wfs, SV.wf]) fun w => ?_
    (conv=>whnf);repeat' (first|with_reducible exact rfl|((with_reducible first|refine xif_kt (by assumption) ?_|refine xif_kf (by assumption) ?_);conv=>whnf)|((with_reducible refine xif_s ?_ ?_)<;>(intro hb;(try simp (disch:=omega) only [hbS] at hb)<;>conv=>whnf)))
    all_goals refine Fin_pure rfl (B_eq ?_) trivial
    all_goals first | (simp [vPl]; done) | (simp [vPl]; omega) | (unfold vPl; rw [Bool.eq_iff_iff]; simp; omega)
  | false =>
    have hx : (szB x 1048576 && szB y 1048576 && decide (0 ≤ h) && decide (h < 256) && szB x 262144 && szB y 262144) = (szB x 262144 && szB y 262144 && decide (0 ≤ h) && decide (h < 256)) := by
      rw [Bool.eq_iff_iff]
      simp only [szB, Bool.and_eq_true, decide_eq_true_eq]
      omega
    have kp := bPose17_x (x, y, h)
    dsimp only at kp
    have hv : vPl (v, false, x, y, h) = (decide (1 ≤ v) && decide (v ≤ 1073741824) && (szB x 1048576 && szB y 1048576 && decide (0 ≤ h) && decide (h < 256) && szB x 262144 && szB y 262144)) := by
      rw [hx]
      rfl
    rw [hv]
    clear hv hx
    generalize (szB x 1048576 && szB y 1048576 && decide (0 ≤ h) && decide (h < 256)) = b at *
    refine PureX.of Tryz.func83 rfl tabOk rfl rfl rfl (by simp [SV.wfs, SV.wf]) (by simp [SV.wfs, SV.wf]) fun w => ?_
    (conv=>whnf);repeat' (first|((with_reducible refine isC ?_);first|((first|with_reducible refine CallX_pure (Size_x _ _ ?_ ?_) ?_|with_reducible refine CallX_pure (kp) ?_)<;>first|omega|with_reducible refine isP ?_|conv=>whnf))|with_reducible exact rfl|((with_reducible first|refine xif_kt (by assumption) ?_|refine xif_kf (by assumption) ?_);conv=>whnf)|((with_reducible refine xif_s ?_ ?_)<;>(intro hb;(try simp (disch:=omega) only [hbS] at hb)<;>conv=>whnf)))
    all_goals refine Fin_pure rfl (B_eq ?_) trivial
    all_goals first | (simp [*]; done) | (simp [*]; omega) | (simp; omega) | trace_state
end Go.Proofs.YtadichckbogcjaaGreatDoor.En
end
section
namespace Go.Proofs.YtadichckbogcjaaGreatDoor.En
open Go.RowKit
set_option maxRecDepth 100000
theorem bBeam_x (b : BeamT) : PureX Tryz.prog 110 [.a [I b.1, I b.2]] (B (!wrongB b)) := by
  refine PureX.of Tryz.func110 rfl tabOk rfl rfl rfl (by simp [SV.wfs, SV.wf]) (by simp [SV.wfs, SV.wf]) fun w => ?_
  (conv=>whnf);repeat' (first|with_reducible exact rfl|((with_reducible first|refine xif_kt (by assumption) ?_|refine xif_kf (by assumption) ?_);conv=>whnf)|((with_reducible refine xif_s ?_ ?_)<;>(intro hb;(try simp (disch:=omega) only [hbS] at hb)<;>conv=>whnf)))
  all_goals refine Fin_pure rfl (B_eq ?_) trivial
  all_goals first
    | (simp [wrongB, hb]; done)
    | (rw [Bool.eq_iff_iff]; simp [wrongB]; omega)
theorem bScan_w (A : Option Addr) (c : Nat) (l : List BeamT) {n : Nat} (hl : l.length = n) (hn : n ≤ maxLen) :
    CallW Tryz.prog 65 [.v (.slice A n c)] (fun w => ArgSl w A n 2 (l.map encB)) (B (scanB l)) := by
  unfold maxLen at hn
  refine CallW.of Tryz.func65 rfl tabOk rfl rfl rfl (by simp [SV.wfs, SV.wf]) (by simp [SV.wfs, SV.wf]) fun w hpre => ?_
  (conv=>whnf);repeat' (first|((with_reducible refine isW ?_;first|refine xwr_ok (by omega) (by omega) ?_|refine xwr_raw ?_);conv=>whnf)|with_reducible exact rfl|((with_reducible first|refine xif_kt (by assumption) ?_|refine xif_kf (by assumption) ?_);conv=>whnf)|((with_reducible refine xif_s ?_ ?_)<;>(intro hb;(try simp (disch:=omega) only [hbS] at hb)<;>conv=>whnf)))
  · refine Fin_pure rfl (B_eq ?_) trivial
    unfold scanB
    rw [decide_eq_false (by omega)]
    rfl
  · refine LoopX_inv tabOk (α := Nat) (fun k => k ≤ n ∧ ∀ j, j < k → wrongB (l.getD j b0) = false) (fun k => [(0, .v (.slice A n c)), (3, I k)]) (fun _ => []) (fun k => n - k) 0 [] ⟨Nat.zero_le _, fun i hi => by omega⟩ ?_ ?_
    · ((refine ⟨?_, ?_, ?_, ?_⟩) <;> (repeat' ((conv => whnf); apply And.intro)) <;> (try (first | exact trivial | decide)))
      all_goals first | rfl | exact fun _ _ h => h | simp [SV.wf, SV.wfs]
    · rintro k ⟨hk, hall⟩
      by_cases hlt : k < n
      · have hx := bBeam_x (l.getD k b0)
        cases hw : wrongB (l.getD k b0) with
        | true =>
          rw [hw] at hx
          (conv=>whnf);repeat' (first|((with_reducible refine isC ?_);first|((with_reducible refine CallX_pure (hx) ?_)<;>first|omega|with_reducible refine isP ?_|conv=>whnf))|((with_reducible refine isV ?_);first|((first|refine ValX_index tabOk rfl (hpre.mem (by decide) rfl) rfl ?_ ?_ ?_|(with_reducible refine nat_idx ?_);refine ValX_loadEn _ _ (b0) tabOk rfl rfl rfl rfl (hpre.mem (by decide) rfl) ?_ ?_ ?_|refine ValX_loadE _ _ (b0) tabOk rfl rfl rfl rfl (hpre.mem (by decide) rfl) ?_ ?_ ?_)<;>first|rfl|omega|with_reducible refine isP ?_|conv=>whnf))|((with_reducible refine isW ?_;first|refine xwr_ok (by omega) (by omega) ?_|refine xwr_raw ?_);conv=>whnf)|with_reducible exact rfl|((with_reducible first|refine xif_kt (by assumption) ?_|refine xif_kf (by assumption) ?_);conv=>whnf)|((with_reducible refine xif_s ?_ ?_)<;>(intro hb;(try simp (disch:=omega) only [hbS] at hb)<;>conv=>whnf)))
          all_goals try (exfalso; omega)
          refine Fin_pure rfl (B_eq ?_) trivial
          have hany : l.any wrongB = true := List.any_eq_true.2 ⟨l.getD k b0, by simp [hl, hlt], hw⟩
          unfold scanB
          rw [hany]
          simp
        | false =>
          rw [hw] at hx
          (conv=>whnf);repeat' (first|((with_reducible refine isC ?_);first|((with_reducible refine CallX_pure (hx) ?_)<;>first|omega|with_reducible refine isP ?_|conv=>whnf))|((with_reducible refine isV ?_);first|((first|refine ValX_index tabOk rfl (hpre.mem (by decide) rfl) rfl ?_ ?_ ?_|(with_reducible refine nat_idx ?_);refine ValX_loadEn _ _ (b0) tabOk rfl rfl rfl rfl (hpre.mem (by decide) rfl) ?_ ?_ ?_|refine ValX_loadE _ _ (b0) tabOk rfl rfl rfl rfl (hpre.mem (by decide) rfl) ?_ ?_ ?_)<;>first|rfl|omega|with_reducible refine isP ?_|conv=>whnf))|((with_reducible refine isW ?_;first|refine xwr_ok (by omega) (by omega) ?_|refine xwr_raw ?_);conv=>whnf)|with_reducible exact rfl|((with_reducible first|refine xif_kt (by assumption) ?_|refine xif_kf (by assumption) ?_);conv=>whnf)|((with_reducible refine xif_s ?_ ?_)<;>(intro hb;(try simp (disch:=omega) only [hbS] at hb)<;>conv=>whnf)))
          all_goals try (exfalso; omega)
          refine ⟨k + 1, [], ⟨by omega, fun j hj => ?_⟩, ?_, by (try dsimp only); omega⟩
          · by_cases hjk : j = k
            · rw [hjk]; exact hw
            · exact hall j (by omega)
          · ((refine ⟨?_, ?_, ?_, ?_⟩) <;> (repeat' ((conv => whnf); apply And.intro)) <;> (try (first | exact trivial | decide)))
            all_goals first | rfl | exact fun _ _ h => h | (simp [SV.wf, SV.wfs]; done) | trace_state
      · obtain rfl : k = n := by omega
        (conv=>whnf);repeat' (first|((with_reducible refine isW ?_;first|refine xwr_ok (by omega) (by omega) ?_|refine xwr_raw ?_);conv=>whnf)|with_reducible exact rfl|((with_reducible first|refine xif_kt (by assumption) ?_|refine xif_kf (by assumption) ?_);conv=>whnf)|((with_reducible refine xif_s ?_ ?_)<;>(intro hb;(try simp (disch:=omega) only [hbS] at hb)<;>conv=>whnf)))
        all_goals try (exfalso; omega)
        refine Fin_pure rfl (B_eq ?_) trivial
        have hany : l.any wrongB = false := by
          rw [List.any_eq_false]
          intro b hbm
          obtain ⟨i, hi, rfl⟩ := List.getElem_of_mem hbm
          have := hall i (by omega)
          simp only [List.getD_eq_getElem?_getD, List.getElem?_eq_getElem hi, Option.getD_some] at this
          rw [this]
          simp
        unfold scanB
        rw [hany, decide_eq_true (by omega)]
        rfl
end Go.Proofs.YtadichckbogcjaaGreatDoor.En
end
section
namespace Go.Proofs.YtadichckbogcjaaGreatDoor.En
open Go.RowKit
set_option maxRecDepth 100000
theorem part_len (a : AtT) (k : Int) : (partA a k).length ≤ 1048576 := by
  unfold partA
  split
  · split
    · simp
    · exact ofE_len _ _
  · simp
end Go.Proofs.YtadichckbogcjaaGreatDoor.En
end
