import Derived.Test.YtlnplelandimeaaGreatZFleetAligned30
import Derived.Test.YtlnplelandimeaaGreatZFleetAligned28
import Derived.Test.YtlnplelandimeaaGreatZFleetAligned24
import Derived.Test.YtlnplelandimeaaGreatZFleetAligned12
set_option linter.all false
section
namespace Go.Proofs.YtlnplelandimeaaGreat.En
open Go.RowKit
set_option maxRecDepth 100000
section
variable {α : Type} {key : α → List Int}
end
theorem normR_bd {x : RelT} (h : addOk x = true) : ((normR x).1.toNat < (normR x).2.1.toNat ∧ (normR x).2.1.toNat < 8) ∧ (0 ≤ (normR x).2.2.1 ∧ (normR x).2.2.1 < 4) ∧ (-1024 ≤ (normR x).2.2.2.1 ∧ (normR x).2.2.2.1 ≤ 1024) ∧ -1024 ≤ (normR x).2.2.2.2 ∧ (normR x).2.2.2.2 ≤ 1024 := by
 obtain ⟨h1, h2, h3, h4, h5⟩ := addOk_bd h
 unfold normR
 split
 ·have t1 := tX_bd ((-x.2.2.1) % 4) (-x.2.2.2.1) (-x.2.2.2.2) 1024 (by omega) (by omega) (by omega) (by omega)
  have t2 := tY_bd ((-x.2.2.1) % 4) (-x.2.2.2.1) (-x.2.2.2.2) 1024 (by omega) (by omega) (by omega) (by omega)
  unfold invF
  dsimp only
  exact ⟨by omega, by omega, t1, t2⟩
 ·dsimp only
  exact ⟨by omega, by omega, h4, h5⟩
theorem joinO_in {α : Type} {key : α → List Int} {P : α → Prop} {o p : Option α} (h1 : ∀ x, o = some x → P x) (h2 : ∀ x, p = some x → P x) : ∀ x, joinO key o p = some x → P x := by
 intro x hx
 rcases joinO_cases key o p with e | e <;> rw [e] at hx
 ·exact h2 x hx
 ·exact h1 x hx
theorem wf_take {S : SnT} (h : wfS S) {x : RelT} (hx : addOk x = true) : wfS (takeS S x) := by
 obtain ⟨n1, n2, n3, n4, n5⟩ := normR_bd hx
 have hr : ∀ u v f, (takeS S x).rel u v = some f → S.rel u v = some f ∨ (u = (normR x).1.toNat ∧ v = (normR x).2.1.toNat ∧ f = (normR x).2.2) := by
  intro u v f hf
  have hf : upd2 S.rel (normR x).1.toNat (normR x).2.1.toNat (mxO keyF (S.rel (normR x).1.toNat (normR x).2.1.toNat) (normR x).2.2) u v = some f := hf
  unfold upd2 at hf
  split at hf
  ·rename_i e
   rcases mxO_cases keyF (S.rel (normR x).1.toNat (normR x).2.1.toNat) (normR x).2.2 with c | c <;> rw [c] at hf
   ·exact .inr ⟨e.1, e.2, (Option.some.inj hf).symm⟩
   ·exact .inl (by rw [e.1, e.2]; exact hf)
  ·exact .inl hf
 refine ⟨fun u v hc => ?_, fun u v f hf => ?_, h.2.2⟩
 ·rcases opt_em ((takeS S x).rel u v) with e | ⟨f, e⟩
  ·exact e
  ·rcases hr u v f e with e2 | ⟨rfl, rfl, rfl⟩
   ·rw [h.1 u v hc] at e2
    cases e2
   ·exact absurd n1 hc
 ·rcases hr u v f hf with e2 | ⟨rfl, rfl, rfl⟩
  ·exact h.2.1 u v f e2
  ·exact ⟨n2, n3, n4, n5⟩
theorem wf_hear {S O : SnT} (h : wfS S) (h' : wfS O) : wfS (hearS S O) := by
 refine ⟨fun u v hc => ?_, fun u v => ?_, fun i hi => ?_⟩
 ·show joinO keyF (S.rel u v) (O.rel u v) = none
  rw [h.1 u v hc, h'.1 u v hc]
  rfl
 ·exact joinO_in (h.2.1 u v) (h'.2.1 u v)
 ·show joinA (S.ats i) (O.ats i) = at0
  rw [h.2.2 i hi, h'.2.2 i hi]
  rfl
theorem wf_upd {S : SnT} (h : wfS S) {i : Nat} (hi : i < 8) (a : AtT) : wfS { S with ats := updN S.ats i a } := by
 refine ⟨h.1, h.2.1, fun j hj => ?_⟩
 show updN S.ats i a j = at0
 unfold updN
 rw [if_neg (by omega)]
 exact h.2.2 j hj
theorem wf_st {Q : Nat → SnT} (hQ : okQ Q) (o : FOp) {i j : Nat} (hi : i < 3) (hj : j < 3) : (stF Q o i j).me = i ∧ wfS (stF Q o i j) := by
 obtain ⟨hm, hw⟩ := hQ i hi
 unfold stF
 split
 ·exact ⟨hm, wf_upd hw (by omega) _⟩
 ·split
  ·exact ⟨hm, wf_upd hw (by omega) _⟩
  ·split
   ·split
    ·rename_i hx
     exact ⟨hm, wf_take hw hx⟩
    ·exact ⟨hm, hw⟩
   ·split
    ·exact ⟨hm, hw⟩
    ·exact ⟨hm, wf_hear hw (hQ j hj).2⟩
theorem whoF_lt (o : FOp) : whoF o < 3 := by unfold whoF; omega
theorem froF_lt (o : FOp) : froF o < 3 := by unfold froF; omega
theorem okQ_do {Q : Nat → SnT} (hQ : okQ Q) (o : FOp) : okQ (doQ Q o) := by
 intro i hi
 unfold doQ updN
 split
 ·rename_i e
  subst e
  exact wf_st hQ o (whoF_lt o) (froF_lt o)
 ·exact hQ i hi
def Q0 : Nat → SnT := fun i => sn0 i
theorem wf_sn0 (m : Int) : wfS (sn0 m) := ⟨fun _ _ _ => rfl, fun _ _ _ h => (by cases h), fun _ _ => rfl⟩
theorem okQ0 : okQ Q0 := fun i _ => ⟨rfl, wf_sn0 i⟩
def runQ (Q : Nat → SnT) (l : List FOp) : Nat → SnT := l.foldl doQ Q
theorem okQ_run : ∀ (l : List FOp) {Q : Nat → SnT}, okQ Q → okQ (runQ Q l)
 | [], _, h => h
 | o :: l, _, h => okQ_run l (okQ_do h o)
theorem runQ_take {Q : Nat → SnT} {l : List FOp} {k : Nat} (hk : k < l.length) : runQ Q (l.take (k + 1)) = doQ (runQ Q (l.take k)) (l.getD k fo0) := by
 have e : l.getD k fo0 = l[k] := by simp [hk]
 unfold runQ
 rw [List.take_succ_eq_append_getElem hk, List.foldl_append, e]
 rfl
def k3 (o : FOp) : FOp := (o.1 % 3, o.2)
end Go.Proofs.YtlnplelandimeaaGreat.En
end
section
namespace Go.Proofs.YtlnplelandimeaaGreat.En
open Go.RowKit
set_option maxRecDepth 100000
theorem do3_m (b0 b1 b2 : Nat) (cs : Co3) (Q : Nat → SnT) (hQ : okQ Q) (A : Option Addr) (cc : Nat) (o : FOp) (hn : o.2.2.2.2.1.2.2.length ≤ maxLen) :
 CallM Tryz.prog 15 [.v (.slice A 3 cc), foX o] (fun w M => ArgN w M o.2.2.2.2.1.1 o.2.2.2.2.1.2.2.length 2 (o.2.2.2.2.1.2.2.map encBm)) [stO b0 cs.1 (Q 0) allT, stO b1 cs.2.1 (Q 1) allT, stO b2 cs.2.2 (Q 2) allT, ptsO A cc b0 b1 b2]
 (fun _ : Co3 => I (erF o)) (fun cs => [stO b0 cs.1 (doQ Q o 0) allT, stO b1 cs.2.1 (doQ Q o 1) allT, stO b2 cs.2.2 (doQ Q o 2) allT, ptsO A cc b0 b1 b2]) := by
 rcases (by omega : o.2.1 % 3 = 0 ∨ o.2.1 % 3 = 1 ∨ o.2.1 % 3 = 2) with h | h | h
 ·exact do0_m b0 b1 b2 cs.1 cs.2.1 cs.2.2 Q hQ A cc o h hn
 ·exact do1_m b0 b1 b2 cs.1 cs.2.1 cs.2.2 Q hQ A cc o h hn
 ·exact do2_m b0 b1 b2 cs.1 cs.2.1 cs.2.2 Q hQ A cc o h hn
theorem fewG_len {l : List FOp} (h : fewG l = true) : l.length ≤ 16 := by
 unfold fewG at h
 simp only [Bool.and_eq_true, decide_eq_true_eq] at h
 exact h.1
end Go.Proofs.YtlnplelandimeaaGreat.En
end
section
namespace Go.Proofs.YtlnplelandimeaaGreat.En
open Go.RowKit
set_option maxRecDepth 100000
def imC (f : FrT) (c : CellT) : CellT := (min (tX (f.1 % 4) c.1 c.2) (tX (f.1 % 4) (c.1 + 1) (c.2 + 1)) + f.2.1, min (tY (f.1 % 4) c.1 c.2) (tY (f.1 % 4) (c.1 + 1) (c.2 + 1)) + f.2.2)
theorem imC_inj {f : FrT} {a b : CellT} (h : imC f a = imC f b) : a = b := by
 obtain ⟨h1, h2⟩ := Prod.ext_iff.1 h
 unfold imC at h1 h2
 simp only at h1 h2
 obtain ⟨h3, h4⟩ := tXY_inj (q := f.1 % 4) (x := a.1) (y := a.2) (x' := b.1) (y' := b.2) (by omega) (by omega) (by omega)
 exact Prod.ext h3 h4
theorem imC_cmp {f g : FrT} (hf : Go.Proofs.YtlnplelandimeaaGreat.FrOk f) (hg : Go.Proofs.YtlnplelandimeaaGreat.FrOk g) (c : CellT) : imC (Go.Proofs.YtlnplelandimeaaGreat.cmpF f g) c = imC f (imC g c) := by
 obtain ⟨f1, f2, f3⟩ := f
 obtain ⟨g1, g2, g3⟩ := g
 obtain ⟨c1, c2⟩ := c
 simp only [Go.Proofs.YtlnplelandimeaaGreat.FrOk] at hf hg
 rcases (by omega : f1 = 0 ∨ f1 = 1 ∨ f1 = 2 ∨ f1 = 3) with rfl | rfl | rfl | rfl <;> rcases (by omega : g1 = 0 ∨ g1 = 1 ∨ g1 = 2 ∨ g1 = 3) with rfl | rfl | rfl | rfl <;>
  simp [imC, Go.Proofs.YtlnplelandimeaaGreat.cmpF, tX, tY] <;> omega
theorem imC_zero (c : CellT) : imC (0, 0, 0) c = c := by
 obtain ⟨c1, c2⟩ := c
 simp [imC, tX, tY]
 omega
theorem imC_back {f : FrT} (hf : Go.Proofs.YtlnplelandimeaaGreat.FrOk f) (c : CellT) : imC f (imC (Go.Proofs.YtlnplelandimeaaGreat.invF f) c) = c := by
 rw [← imC_cmp hf (Go.Proofs.YtlnplelandimeaaGreat.invF_ok f), Go.Proofs.YtlnplelandimeaaGreat.cmpF_inv _ hf, imC_zero]
theorem cellR_im {f : FrT} {c : CellT} (f1 : szB f.2.1 8192 = true) (f2 : szB f.2.2 8192 = true) (c1 : szB c.1 16384 = true) (c2 : szB c.2 16384 = true) (i1 : szB (imC f c).1 16384 = true) (i2 : szB (imC f c).2 16384 = true) : cellR f c = (imC f c, 0) := by
 unfold cellR
 rw [f1, f2, c1, c2]
 unfold imC at i1 i2
 simp only at i1 i2
 rw [i1, i2]
 rfl
def mvE (f : FrT) (e : EntT) : EntT := ((imC f e.cell).1, (imC f e.cell).2, e.2.2.1, e.2.2.2)
theorem mvE_cell (f : FrT) (e : EntT) : (mvE f e).cell = imC f e.cell := rfl
def FO (f : FrT) (l l' : List EntT) : Prop := vE l = true ∧ vE l' = true ∧ ∀ c, valT l' (imC f c) = valT l c
theorem val_nil (c : CellT) : valT [] c = (0, 0) := valT_none (by simp)
theorem FO.nil (f : FrT) : FO f [] [] := ⟨vE_nil, vE_nil, fun c => by rw [val_nil, val_nil]⟩
theorem FO.symm {f : FrT} (hf : Go.Proofs.YtlnplelandimeaaGreat.FrOk f) {l l' : List EntT} (h : FO f l l') : FO (Go.Proofs.YtlnplelandimeaaGreat.invF f) l' l :=
 ⟨h.2.1, h.1, fun c => by
  have := h.2.2 (imC (Go.Proofs.YtlnplelandimeaaGreat.invF f) c)
  rw [imC_back hf] at this
  exact this.symm⟩
theorem FO.unique {f : FrT} (hf : Go.Proofs.YtlnplelandimeaaGreat.FrOk f) {l m n : List EntT} (h1 : FO f l m) (h2 : FO f l n) : m = n := by
 refine (rep_vE h1.2.1).unique (rep_vE h2.2.1) fun c => ?_
 have e1 := h1.2.2 (imC (Go.Proofs.YtlnplelandimeaaGreat.invF f) c)
 have e2 := h2.2.2 (imC (Go.Proofs.YtlnplelandimeaaGreat.invF f) c)
 rw [imC_back hf] at e1 e2
 rw [e1, e2]
theorem good_in {l : List EntT} (h : vE l = true) {e : EntT} (he : e ∈ l) : countB e = true ∧ zeroE e = false ∧ szB e.cell.1 16384 = true ∧ szB e.cell.2 16384 = true ∧ valT l e.cell = (e.2.2.1, e.2.2.2) := by
 have hg := vE_good h he
 have hm := ((rep_vE h).2 e).1 he
 simp only [goodB, Bool.and_eq_true] at hg
 exact ⟨hg.1.1.1, hm.1, hg.1.2, hg.2, hm.2⟩
theorem ne_zero {e : EntT} (h : zeroE e = false) : (e.2.2.1, e.2.2.2) ≠ ((0, 0) : Int × Int) := by
 intro he
 obtain ⟨h1, h2⟩ := Prod.ext_iff.1 he
 simp only at h1 h2
 simp [zeroE, h1, h2] at h
theorem FO.make (f : FrT) {r : List EntT} (hr : vE r = true) (hb : ∀ c, valT r c ≠ (0, 0) → szB (imC f c).1 16384 = true ∧ szB (imC f c).2 16384 = true) :
 ∃ r', FO f r r' ∧ r'.Perm (r.map (mvE f)) ∧ asc r' := by
 have hp : r.Pairwise fun a b => befB a.cell b.cell = true := vE_pairwise hr
 have hne : neT (r.map (mvE f)) := by
  unfold neT
  rw [List.pairwise_map]
  refine hp.imp fun {a b} hab he => ?_
  have := imC_inj (show imC f a.cell = imC f b.cell from he)
  rw [this, befB_irr] at hab
  cases hab
 obtain ⟨hpm, ha⟩ := lstF_list hne
 have hrep := rep_lst hne
 have hall : ∀ e ∈ r.map (mvE f), (!zeroE e) = true := by
  intro e he
  obtain ⟨x, hx, rfl⟩ := List.mem_map.1 he
  have := (good_in hr hx).2.1
  show (!zeroE x) = true
  rw [this]
  rfl
 rw [List.filter_eq_self.2 hall] at hpm
 have hlen : (lstF (r.map (mvE f))).length = r.length := by rw [hpm.length_eq, List.length_map]
 have hv : vE (lstF (r.map (mvE f))) = true := by
  refine asc_vE ha (fun e he => ?_) (by rw [hlen]; exact vE_length hr)
  obtain ⟨x, hx, rfl⟩ := List.mem_map.1 (hpm.mem_iff.1 he)
  obtain ⟨g1, g2, g3, g4, g5⟩ := good_in hr hx
  have hi := hb x.cell (by rw [g5]; exact ne_zero g2)
  have e1 : szB (mvE f x).1 16384 = true := hi.1
  have e2 : szB (mvE f x).2.1 16384 = true := hi.2
  have e3 : countB (mvE f x) = true := g1
  have e4 : zeroE (mvE f x) = false := g2
  simp only [zeroE] at e4
  simp only [goodB, e1, e2, e3, e4]
  rfl
 refine ⟨_, ⟨hr, hv, fun c => ?_⟩, hpm, ha⟩
 rw [hrep.val]
 rcases getT_mem (L := r) (c := c) with ⟨h1, h2⟩ | ⟨h1, h2⟩
 ·have h3 := mem_val hne (List.mem_map_of_mem (f := mvE f) h1)
  rw [mvE_cell, h2] at h3
  rw [h3]
  rfl
 ·rw [valT_none h2, valT_none]
  intro e he hc
  obtain ⟨x, hx, rfl⟩ := List.mem_map.1 he
  exact h2 x hx (imC_inj hc)
theorem FO.comb_half {f : FrT} (hf : Go.Proofs.YtlnplelandimeaaGreat.FrOk f) {a b a' b' : List EntT} (ha : FO f a a') (hb : FO f b b') (h : (combE 1 a b).2 = 0) :
 ∃ r', combE 1 a' b' = (r', 0) ∧ FO f (combE 1 a b).1 r' := by
 have hv := comb_val h
 obtain ⟨r', hr', _⟩ := FO.make f (comb_vE h) (fun c hc => by
  rw [hv c] at hc
  by_cases h1 : valT a c = (0, 0)
  ·by_cases h2 : valT b c = (0, 0)
   ·unfold sumV at hc
    rw [h1, h2] at hc
    exact (hc (by simp)).elim
   ·rw [← hb.2.2] at h2
    exact cell_lim hb.2.1 h2
  ·rw [← ha.2.2] at h1
   exact cell_lim ha.2.1 h1)
 refine ⟨r', comb_of_rep ha.2.1 hb.2.1 hr'.2.1 fun c => ?_, hr'⟩
 rw [← imC_back hf c]
 generalize imC (Go.Proofs.YtlnplelandimeaaGreat.invF f) c = x
 rw [hr'.2.2, hv]
 unfold sumV
 rw [ha.2.2, hb.2.2]
theorem FO.comb {f : FrT} (hf : Go.Proofs.YtlnplelandimeaaGreat.FrOk f) {a b a' b' : List EntT} (ha : FO f a a') (hb : FO f b b') : FO f (combE 1 a b).1 (combE 1 a' b').1 := by
 by_cases h : (combE 1 a b).2 = 0
 ·obtain ⟨r', h1, h2⟩ := FO.comb_half hf ha hb h
  rw [h1]
  exact h2
 ·by_cases h' : (combE 1 a' b').2 = 0
  ·obtain ⟨r', h1, h2⟩ := FO.comb_half (Go.Proofs.YtlnplelandimeaaGreat.invF_ok f) (ha.symm hf) (hb.symm hf) h'
   rw [h1] at h
   exact (h rfl).elim
  ·rw [comb_bad h, comb_bad h']
   exact FO.nil f
theorem all_orI : ∀ {l : List Int}, (∀ x ∈ l, x = 0) → orI l = 0
 | [], _ => rfl
 | x :: l, h => by
  unfold orI
  rw [if_pos (h x (by simp))]
  exact all_orI fun y hy => h y (by simp [hy])
theorem FO.cell {f : FrT} (f1 : szB f.2.1 8192 = true) (f2 : szB f.2.2 8192 = true) {l l' : List EntT} (h : FO f l l') {e : EntT} (he : e ∈ l) : cellR f e.cell = (imC f e.cell, 0) := by
 obtain ⟨g1, g2, g3, g4, g5⟩ := good_in h.1 he
 have hi := cell_lim h.2.1 (c := imC f e.cell) (by rw [h.2.2, g5]; exact ne_zero g2)
 exact cellR_im f1 f2 g3 g4 hi.1 hi.2
theorem FO.code {f : FrT} (f1 : szB f.2.1 8192 = true) (f2 : szB f.2.2 8192 = true) {l l' : List EntT} (h : FO f l l') : codeF f l = 0 := by
 unfold codeF okF
 rw [f1, f2, h.1]
 rw [if_pos (by rfl)]
 refine all_orI fun x hx => ?_
 obtain ⟨e, he, rfl⟩ := List.mem_map.1 hx
 rw [h.cell f1 f2 he]
theorem FO.out {f : FrT} (hf : Go.Proofs.YtlnplelandimeaaGreat.FrOk f) (f1 : szB f.2.1 8192 = true) (f2 : szB f.2.2 8192 = true) {l l' : List EntT} (h : FO f l l') : IsOut f l l' := by
 obtain ⟨r, hr, hp, ha⟩ := FO.make f h.1 (fun c hc => by
  rw [← h.2.2] at hc
  exact cell_lim h.2.1 hc)
 rw [h.unique hf hr]
 unfold IsOut
 rw [if_pos (h.code f1 f2)]
 refine ⟨?_, ha⟩
 have : l.map (mvE f) = l.map (imgE f) := List.map_congr_left fun e he => by
  unfold imgE
  rw [h.cell f1 f2 he]
  rfl
 rwa [this] at hp
def nearV (l : List EntT) : Prop := vE l = true ∧ ∀ c, valT l c ≠ (0, 0) → (-5000 ≤ c.1 ∧ c.1 ≤ 5000) ∧ (-5000 ≤ c.2 ∧ c.2 ≤ 5000)
theorem near_nil : nearV [] := ⟨vE_nil, fun c hc => (hc (val_nil c)).elim⟩
theorem near_of (p : PoseT) (s : List BeamT) : nearV (ofE p s).1 := by
 by_cases h : ofOk p s = true
 ·obtain ⟨h1, h2⟩ := ofE_rep h
  refine ⟨h2, fun c hc => ?_⟩
  rw [h1.val] at hc
  obtain ⟨b, hb, hcb⟩ := contS_met hc
  obtain ⟨k1, k2, k3⟩ := ofOk_bd h
  have := scan_mem k3 hb
  exact met_near k1 k2 ⟨this.2.2.1, this.2.2.2⟩ (contB_met hcb)
 ·have : (ofE p s).1 = [] := by
   unfold ofE
   rw [if_neg h]
  rw [this]
  exact near_nil
theorem near_comb {a b : List EntT} (ha : nearV a) (hb : nearV b) : nearV (combE 1 a b).1 := by
 by_cases h : (combE 1 a b).2 = 0
 ·refine ⟨comb_vE h, fun c hc => ?_⟩
  rw [comb_val h] at hc
  by_cases h1 : valT a c = (0, 0)
  ·by_cases h2 : valT b c = (0, 0)
   ·unfold sumV at hc
    rw [h1, h2] at hc
    exact (hc (by simp)).elim
   ·exact hb.2 c h2
  ·exact ha.2 c h1
 ·rw [comb_bad h]
  exact near_nil
theorem near_part (a : AtT) (k : Int) : nearV (partA a k) := by
 unfold partA
 split
 ·split
  ·exact near_nil
  ·exact near_of _ _
 ·exact near_nil
theorem near_fold (a : AtT) : ∀ (ids : List Int) (o : List EntT), nearV o → nearV (ids.foldl (fun o k => (combE 1 o (partA a k)).1) o)
 | [], _, h => h
 | k :: ids, o, h => near_fold a ids _ (near_comb h (near_part a k))
theorem near_map (a : AtT) : nearV (mapA a) := near_fold a _ _ near_nil
theorem im_far {g : FrT} (hg : 0 ≤ g.1 ∧ g.1 < 4 ∧ -7168 ≤ g.2.1 ∧ g.2.1 ≤ 7168 ∧ -7168 ≤ g.2.2 ∧ g.2.2 ≤ 7168) {c : CellT} (hc : (-5000 ≤ c.1 ∧ c.1 ≤ 5000) ∧ (-5000 ≤ c.2 ∧ c.2 ≤ 5000)) : szB (imC g c).1 16384 = true ∧ szB (imC g c).2 16384 = true := by
 have b1 := tXY_bd (q := g.1 % 4) (x := c.1) (y := c.2) (m := 5001) (by omega)
 have b2 := tXY_bd (q := g.1 % 4) (x := c.1 + 1) (y := c.2 + 1) (m := 5001) (by omega)
 unfold imC szB
 simp only [decide_eq_true_eq]
 omega
theorem fr_sz {g : FrT} (hg : 0 ≤ g.1 ∧ g.1 < 4 ∧ -7168 ≤ g.2.1 ∧ g.2.1 ≤ 7168 ∧ -7168 ≤ g.2.2 ∧ g.2.2 ≤ 7168) : Go.Proofs.YtlnplelandimeaaGreat.FrOk g ∧ szB g.2.1 8192 = true ∧ szB g.2.2 8192 = true := by
 refine ⟨⟨hg.1, hg.2.1⟩, ?_, ?_⟩ <;> simp only [szB, decide_eq_true_eq] <;> omega
theorem out_near {g : FrT} (hg : 0 ≤ g.1 ∧ g.1 < 4 ∧ -7168 ≤ g.2.1 ∧ g.2.1 ≤ 7168 ∧ -7168 ≤ g.2.2 ∧ g.2.2 ≤ 7168) {m : List EntT} (hm : nearV m) : FO g m (outL g m) := by
 obtain ⟨r, hr, _⟩ := FO.make g hm.1 (fun c hc => im_far hg (hm.2 c hc))
 obtain ⟨k1, k2, k3⟩ := fr_sz hg
 rw [outL_eq (hr.out k1 k2 k3)]
 exact hr
theorem framesL_acc : ∀ (L : List RelT) {rs : List RelT}, Go.Proofs.YtlnplelandimeaaGreat.Acc rs → Go.Proofs.YtlnplelandimeaaGreat.Acc (L.foldl (fun rs x => (Go.Proofs.YtlnplelandimeaaGreat.addF rs x).2) rs)
 | [], _, h => h
 | x :: L, _, h => framesL_acc L (Go.Proofs.YtlnplelandimeaaGreat.addF_acc h x)
theorem framesS_acc (S : SnT) : Go.Proofs.YtlnplelandimeaaGreat.Acc (framesS S) := framesL_acc _ .nil
theorem btF_in8 {rs : List RelT} {a b : Int} {f : FrT} (h : Go.Proofs.YtlnplelandimeaaGreat.btF rs a b = some f) : (0 ≤ a ∧ a < 8) ∧ (0 ≤ b ∧ b < 8) := by
 unfold Go.Proofs.YtlnplelandimeaaGreat.btF at h
 split at h
 ·rename_i hr
  simp only [Bool.and_eq_true] at hr
  exact ⟨Go.Proofs.YtlnplelandimeaaGreat.rbB_of hr.1, Go.Proofs.YtlnplelandimeaaGreat.rbB_of hr.2⟩
 ·cases h
theorem view_FO (S : SnT) {a b : Int} {f : FrT} (hf : Go.Proofs.YtlnplelandimeaaGreat.btF (framesS S) a b = some f) : ∀ k : Nat, k ≤ 8 → FO f (viewK S b k) (viewK S a k)
 | 0, _ => FO.nil f
 | k + 1, hk => by
  have hacc := framesS_acc S
  obtain ⟨⟨a0, a1⟩, b0, b1⟩ := btF_in8 hf
  have ih := view_FO S hf k (by omega)
  have bf := Go.Proofs.YtlnplelandimeaaGreat.btF_bd hacc.ok hf
  have fo := (fr_sz bf).1
  unfold viewK
  rcases Go.Proofs.YtlnplelandimeaaGreat.loops_chain hacc a0 a1 b0 b1 (show (0 : Int) ≤ (k : Int) by omega) (by omega) hf with ⟨h1, h2⟩ | ⟨g, h1, h2⟩
  ·rw [h1, h2]
   exact ih
  ·rw [h1, h2]
   have bg := Go.Proofs.YtlnplelandimeaaGreat.btF_bd hacc.ok h1
   have bh := Go.Proofs.YtlnplelandimeaaGreat.btF_bd hacc.ok h2
   have go := (fr_sz bg).1
   refine FO.comb fo ih ?_
   have o1 := out_near bg (near_map (S.ats k))
   have o2 := out_near bh (near_map (S.ats k))
   refine ⟨o1.2.1, o2.2.1, fun c => ?_⟩
   have e1 := o1.2.2 (imC (Go.Proofs.YtlnplelandimeaaGreat.invF g) c)
   have e2 := o2.2.2 (imC (Go.Proofs.YtlnplelandimeaaGreat.invF g) c)
   rw [imC_cmp fo go, imC_back go] at e2
   rw [imC_back go] at e1
   rw [e1, e2]
theorem view_image (S : SnT) {a b : Int} {f : FrT} (hf : Go.Proofs.YtlnplelandimeaaGreat.btF (framesS S) a b = some f) : codeF f (viewS S b) = 0 ∧ ∀ ys, IsOut f (viewS S b) ys → ys = viewS S a := by
 have hacc := framesS_acc S
 obtain ⟨k1, k2, k3⟩ := fr_sz (Go.Proofs.YtlnplelandimeaaGreat.btF_bd hacc.ok hf)
 have h := view_FO S hf 8 (by omega)
 exact ⟨h.code k2 k3, fun ys hy => hy.unique (h.out k1 k2 k3)⟩
end Go.Proofs.YtlnplelandimeaaGreat.En
end
section
namespace Go.Proofs.YtlnplelandimeaaGreat.En
open Go.RowKit Go.Sort
set_option maxRecDepth 100000
def insAt (ys : List EntT) (j : Nat) (x : EntT) : List EntT := ys.take j ++ x :: ys.drop j
theorem insAt_len {ys : List EntT} {j : Nat} {x : EntT} (hj : j ≤ ys.length) : (insAt ys j x).length = ys.length + 1 := by
 simp [insAt]
 omega
theorem insAt_at {ys : List EntT} {j : Nat} {x : EntT} (hj : j ≤ ys.length) : (insAt ys j x).getD j e0 = x := by
 simp [insAt, List.getElem?_append_right, Nat.min_eq_left hj]
theorem insAt_pre {ys : List EntT} {j : Nat} {x : EntT} (h1 : 1 ≤ j) (hj : j ≤ ys.length) : (insAt ys j x).getD (j - 1) e0 = ys.getD (j - 1) e0 := by
 simp only [insAt, List.getD_eq_getElem?_getD]
 rw [List.getElem?_append_left (by simp; omega), List.getElem?_take_of_lt (by omega)]
theorem insAt_all (ys : List EntT) (x : EntT) : insAt ys ys.length x = ys ++ [x] := by simp [insAt]
theorem insAt_swap {ys : List EntT} {j : Nat} {x : EntT} (h1 : 1 ≤ j) (hj : j ≤ ys.length) : ((insAt ys j x).set j (ys.getD (j - 1) e0)).set (j - 1) x = insAt ys (j - 1) x := by
 apply List.ext_getElem?
 intro i
 simp only [List.getElem?_set, insAt, List.length_set, List.length_append, List.length_take, List.length_cons, List.length_drop, List.getElem?_append, List.getElem?_take, List.getElem?_cons, List.getElem?_drop, List.getD_eq_getElem?_getD]
 by_cases e1 : i = j - 1
 ·subst e1
  simp [Nat.min_eq_left hj, show min (j - 1) ys.length = j - 1 by omega]
  omega
 ·by_cases e2 : i = j
  ·subst e2
   have h3 : min (i - 1) ys.length = i - 1 := by omega
   have h4 : i - (i - 1) = 1 := by omega
   simp [h3, h4, show ¬ i - 1 = i by omega, show ¬ i < i - 1 by omega, show i - 1 < ys.length by omega]
   omega
  ·by_cases e3 : i < j - 1
   ·have h5 : min j ys.length = j := by omega
    have h6 : min (j - 1) ys.length = j - 1 := by omega
    simp [h5, h6, show ¬ j - 1 = i by omega, show ¬ j = i by omega, show i < j by omega, show i < ys.length by omega, e3]
   ·have h5 : min j ys.length = j := by omega
    have h6 : min (j - 1) ys.length = j - 1 := by omega
    simp only [h5, h6, show ¬ j - 1 = i by omega, show ¬ j = i by omega, show ¬ i < j by omega, e3, if_false, show ¬ i - j = 0 by omega, show ¬ i - (j - 1) = 0 by omega]
    congr 1
    omega
theorem insAt_perm (ys : List EntT) (j : Nat) (x : EntT) : (insAt ys j x).Perm (ys ++ [x]) := by
 have h1 : (insAt ys j x).Perm (x :: (ys.take j ++ ys.drop j)) := List.perm_middle
 rw [List.take_append_drop] at h1
 exact h1.trans (List.perm_append_singleton x ys).symm
def wk (l : List EntT) : Prop := l.Pairwise fun a b => befB b.cell a.cell = false
theorem befB_asym {a b : CellT} (h : befB a b = true) : befB b a = false := by
 rw [befB_iff] at h
 rw [befB_false]
 omega
theorem befB_le {a b c : CellT} (h1 : befB b a = false) (h2 : befB c b = false) : befB c a = false := by
 rw [befB_false] at *
 omega
theorem insAt_wk {ys : List EntT} {j : Nat} {x : EntT} (hj : j ≤ ys.length) (hw : wk ys) (hd : ∀ y ∈ ys.drop j, befB x.cell y.cell = true) (hp : j ≠ 0 → befB x.cell (ys.getD (j - 1) e0).cell = false) : wk (insAt ys j x) := by
 unfold wk insAt at *
 rw [← List.take_append_drop j ys] at hw
 rw [List.pairwise_append] at hw ⊢
 obtain ⟨w1, w2, w3⟩ := hw
 refine ⟨w1, ?_, ?_⟩
 ·rw [List.pairwise_cons]
  exact ⟨fun y hy => befB_asym (hd y hy), w2⟩
 ·intro a ha b hb
  rcases List.mem_cons.1 hb with rfl | hb
  ·obtain ⟨i, hi, rfl⟩ := List.getElem_of_mem ha
   have hi' : i < j := by
    simp at hi
    omega
   have h0 := hp (by omega)
   by_cases e : i = j - 1
   ·subst e
    simpa [hj, show j - 1 < ys.length by omega] using h0
   ·have h4 := (List.pairwise_iff_getElem.1 w1) i (j - 1) hi (by simp; omega) (by omega)
    have h5 : befB b.cell ((ys.take j)[j - 1]'(by simp; omega)).cell = false := by simpa [show j - 1 < ys.length by omega] using h0
    exact befB_le h4 h5
  ·exact w3 a ha b hb
theorem wk_get {ys : List EntT} (h : wk ys) : ∀ i k, i < k → k < ys.length → befB (ys.getD k e0).cell (ys.getD i e0).cell = false := by
 intro i k h1 h2
 have := (List.pairwise_iff_getElem.1 h) i k (by omega) h2 h1
 simpa [h2, show i < ys.length by omega] using this
end Go.Proofs.YtlnplelandimeaaGreat.En
end
section
namespace Go.Proofs.YtlnplelandimeaaGreat.En
open Go.RowKit Go.Sort
set_option maxRecDepth 100000
set_option maxHeartbeats 2000000 in
theorem rEntries_m (f : FrT) (A : Option Addr) (c : Nat) (l : List EntT) {n : Nat} (hl : l.length = n) (hn : n ≤ 1000000000) :
 CallM Tryz.prog 23 [.a [I f.1, I f.2.1, I f.2.2], .v (.slice A n c)] (fun w M => ArgN w M A n 4 (l.map encE)) []
  (fun (p : OutT f l) => .t [.v (.slice p.1.1 p.1.2.2.length p.1.2.1), I (codeF f l)]) (fun p => [.row 89 4 p.1.1 p.1.2.2.length p.1.2.1 (p.1.2.2.map encE)]) := by
 refine CallM.of (m := 0) Tryz.func23 rfl tabOk rfl rfl rfl rfl (by simp [SV.wfs, SV.wf]) fun w M π hpre => ?_
 (conv=>whnf);repeat' (first|((with_reducible refine isC ?_);first|((with_reducible refine CallX_pure (rValid_x _ _ _) ?_)<;>first|omega|with_reducible refine isP ?_|conv=>whnf)|(refine CallX_w (rVE_w A c l hl (by unfold maxLen; omega)) (ArgN.mem hpre (by decide)) ?_; conv => whnf))|((with_reducible refine isO ?_);first|((first|(refine OpX_build0 tabOk rfl rfl rfl ?_);intro bN|(refine OpX_build tabOk rfl rfl rfl rfl rfl ?_);intro bN);conv=>whnf))|((with_reducible refine isW ?_;first|refine xwr_ok (by omega) (by omega) ?_|refine xwr_raw ?_);conv=>whnf)|((first|refine DrawX_s tabOk folOk ?_|refine DrawS_i (by kernel_rfl) ?_|with_reducible refine andX_i ?_ ?_)<;>conv=>whnf)|with_reducible exact rfl|((with_reducible first|refine xif_kt (by assumption) ?_|refine xif_kf (by assumption) ?_);conv=>whnf)|((with_reducible refine xif_s ?_ ?_)<;>(intro hb;(try simp (disch:=omega) only [hbS] at hb)<;>conv=>whnf)))
 ·refine Fin_addNil 89 4 ?_
  have h1 : codeF f l = 1 := by simp only [codeF, okF, hb, Bool.false_and, Bool.false_eq_true, if_false]
  exact Fin_m ⟨(none, 0, []), IsOut_bad (by omega)⟩ [1] ⟨congrArg (fun i => SV.t [.v (.slice none 0 0), I i]) h1.symm, by simp [SV.wf, SV.wfs]⟩ ⟨⟨rfl, rfl, rfl, rfl, rfl, rfl⟩, trivial⟩ (by decide) rfl
 ·refine Fin_addNil 89 4 ?_
  have h1 : codeF f l = 1 := by simp only [codeF, okF, hb, Bool.and_false, Bool.false_eq_true, if_false]
  exact Fin_m ⟨(none, 0, []), IsOut_bad (by omega)⟩ [1] ⟨congrArg (fun i => SV.t [.v (.slice none 0 0), I i]) h1.symm, by simp [SV.wf, SV.wfs]⟩ ⟨⟨rfl, rfl, rfl, rfl, rfl, rfl⟩, trivial⟩ (by decide) rfl
 rename_i hb1
 have hok : okF f l = true := by simp only [okF, hb, hb1.1, hb1.2, Bool.and_self]
 have hlen : l.length ≤ 1048576 := by
  by_cases h : l.length ≤ 1048576
  ·exact h
  ·rw [vE_long h] at hb
   cases hb
 have h2 : codeF f l = orI (errsF f l) := by simp only [codeF, hok, if_true]
 have hel : (errsF f l).length = n := by simp [errsF, hl]
 have hml : (l.map (imgE f)).length = n := by simp [hl]
 refine LoopX_addNil 89 4 ?_
 conv => whnf
 refine LoopX_inv tabOk (α := Nat × Option Addr × Nat × List EntT) (fun p => p.1 ≤ n ∧ p.2.2.2.length = p.1 ∧ p.2.2.2.Perm ((l.map (imgE f)).take p.1) ∧ wk p.2.2.2 ∧ ∀ i, i < p.1 → (errsF f l).getD i 0 = 0) (fun p => [(7, I p.1), (1, .v (.slice A n c)), (2, .p 0 0), (6, .v (.slice p.2.1 p.1 p.2.2.1))]) (fun p => [.box 37 [I f.1, I f.2.1, I f.2.2], .row 89 4 p.2.1 p.1 p.2.2.1 (p.2.2.2.map encE)]) (fun p => n - p.1) (0, none, 0, []) [0, 1] ⟨by (try dsimp only); omega, rfl, .refl _, .nil, fun i hi => by (try dsimp only at hi); omega⟩ ?_ ?_
 ·try dsimp only
  ((refine ⟨?_, ?_, ?_, ?_⟩) <;> (repeat' ((conv => whnf); apply And.intro)) <;> (try (first | exact trivial | decide)))
  all_goals first | rfl | exact fun _ _ h => h | simp [SV.wf, SV.wfs]
 ·rintro ⟨k, A', c', ys⟩ hk
  try dsimp only at hk ⊢
  obtain ⟨hkn, hyl, hyp, hyw, hz⟩ := hk
  by_cases hlt : k < n
  ·have hat : (errsF f l).getD k 0 = (cellR f (l.getD k e0).cell).2 := by
    simp [errsF, hl, hlt]
   (conv=>whnf);repeat' (first|((with_reducible refine isC ?_);first|((with_reducible refine CallX_pure (rCell_x f (_, _)) ?_)<;>first|omega|with_reducible refine isP ?_|conv=>whnf))|((with_reducible refine isV ?_);first|((first|refine ValX_index tabOk rfl (ArgN.mem hpre (by decide)) rfl ?_ ?_ ?_|(with_reducible refine nat_idx ?_);refine ValX_loadEn _ _ (e0) tabOk rfl rfl rfl rfl (ArgN.mem hpre (by decide)) ?_ ?_ ?_|refine ValX_loadE _ _ (e0) tabOk rfl rfl rfl rfl (ArgN.mem hpre (by decide)) ?_ ?_ ?_)<;>first|rfl|omega|with_reducible refine isP ?_|conv=>whnf)|((first|(with_reducible refine nat_idxF ?_);refine ValX_loadGn _ _ (e0) _ tabOk rfl rfl rfl (ArgN.mem hpre (by decide)) ?_ ?_ rfl rfl ?_|refine ValX_loadG _ _ (e0) _ tabOk rfl rfl rfl (ArgN.mem hpre (by decide)) ?_ ?_ rfl rfl ?_)<;>first|omega|with_reducible refine isP ?_|conv=>whnf)|((first|(with_reducible refine nat_idxF ?_);refine ValX_loadFn _ _ (e0) _ tabOk rfl rfl rfl (ArgN.mem hpre (by decide)) ?_ ?_ rfl ?_|refine ValX_loadF _ _ (e0) _ tabOk rfl rfl rfl (ArgN.mem hpre (by decide)) ?_ ?_ rfl ?_)<;>first|omega|(simp;omega)|with_reducible refine isP ?_|conv=>whnf))|((with_reducible refine isO ?_);first|((refine OpX_append 1 tabOk rfl rfl rfl rfl (ArgSl.row 4 rfl) (by decide) ?_ ?_ ?_)<;>first|omega|(dsimp only;omega)|(intro A' c';conv=>whnf))|((first|(refine OpX_build0 tabOk rfl rfl rfl ?_);intro bN|(refine OpX_build tabOk rfl rfl rfl rfl rfl ?_);intro bN);conv=>whnf))|((with_reducible refine isW ?_;first|refine xwr_ok (by omega) (by omega) ?_|refine xwr_raw ?_);conv=>whnf)|((first|refine DrawX_s tabOk folOk ?_|refine DrawS_i (by kernel_rfl) ?_|with_reducible refine andX_i ?_ ?_)<;>conv=>whnf)|with_reducible exact rfl|((with_reducible first|refine xif_kt (by assumption) ?_|refine xif_kf (by assumption) ?_);conv=>whnf)|((with_reducible refine xif_s ?_ ?_)<;>(intro hb;(try simp (disch:=omega) only [hbS] at hb)<;>conv=>whnf)))
   ·refine Fin_addNil 89 4 ?_
    have h1 : codeF f l = (cellR f (l.getD k e0).cell).2 := by rw [h2, orI_at (by omega) hz (by rw [hat]; exact hb), hat]
    have h3 : codeF f l ≠ 0 := by rw [h1]; exact hb
    exact Fin_m ⟨(none, 0, []), IsOut_bad h3⟩ [3] ⟨congrArg (fun i => SV.t [.v (.slice none 0 0), I i]) h1.symm, by simp [SV.wf, SV.wfs]⟩ ⟨⟨rfl, rfl, rfl, rfl, rfl, rfl⟩, trivial⟩ (by decide) rfl
   ·have hz' : ∀ i, i < k + 1 → (errsF f l).getD i 0 = 0 := by
     intro i hi
     by_cases e : i = k
     ·rw [e, hat]
      exact hb
     ·exact hz i (by omega)
    have ht : (l.map (imgE f)).take (k + 1) = (l.map (imgE f)).take k ++ [imgE f (l.getD k e0)] := by
     rw [List.take_succ_eq_append_getElem (by omega)]
     simp [hl, hlt]
    obtain ⟨x, hx⟩ : ∃ x, x = imgE f (l.getD k e0) := ⟨_, rfl⟩
    have hin : insAt ys k x = ys ++ [imgE f (l.getD k e0)] := by
     rw [← hx]
     subst hyl
     exact insAt_all ys x
    refine LoopX_inv tabOk (α := Nat) (fun j => j ≤ k ∧ ∀ y ∈ ys.drop j, befB x.cell y.cell = true) (fun j => [(11, I j), (7, I k), (1, .v (.slice A n c)), (2, .p 0 0), (6, .v (.slice A' (k + 1) c'))]) (fun j => [.box 37 [I f.1, I f.2.1, I f.2.2], .row 89 4 A' (k + 1) c' ((insAt ys j x).map encE)]) (fun j => j) k [0, 1] ⟨by omega, fun y hy => by rw [← hyl] at hy; simp at hy⟩ ?_ ?_
    ·try dsimp only
     rw [hin, List.map_append]
     ((refine ⟨?_, ?_, ?_, ?_⟩) <;> (repeat' ((conv => whnf); apply And.intro)) <;> (try (first | exact trivial | decide)))
     all_goals first | rfl | exact fun _ _ h => h | exact congrArg (fun i => SV.v (Value.int .i64 i)) (show ((k + 1 : Nat) : Int) - 1 = k by omega) | (simp [SV.wf, SV.wfs]; done) | trace_state
    ·intro j hj
     try dsimp only at hj ⊢
     obtain ⟨hjk, hd⟩ := hj
     have hyp2 : (insAt ys j x).Perm ((l.map (imgE f)).take (k + 1)) := by
      rw [ht, ← hx]
      exact (insAt_perm ys j x).trans (hyp.append_right [x])
     clear hb hx hin ht hat hz
     have hjy : j ≤ ys.length := by omega
     have hil : (insAt ys j x).length = k + 1 := by rw [insAt_len (by omega), hyl]
     (conv=>whnf);repeat' (first|((with_reducible refine isC ?_);first|((with_reducible refine CallX_pure (Before_x (_, _) (_, _)) ?_)<;>first|omega|with_reducible refine isP ?_|conv=>whnf))|((with_reducible refine isV ?_);first|((first|(with_reducible refine nat_idxF ?_);refine ValX_loadGn _ _ (e0) _ tabOk rfl rfl rfl (ArgSl.row 1 rfl) ?_ ?_ rfl rfl ?_|refine ValX_loadG _ _ (e0) _ tabOk rfl rfl rfl (ArgSl.row 1 rfl) ?_ ?_ rfl rfl ?_)<;>first|omega|with_reducible refine isP ?_|conv=>whnf)|((first|refine ValX_index tabOk rfl (ArgSl.row 1 rfl) rfl ?_ ?_ ?_|(with_reducible refine nat_idx ?_);refine ValX_loadEn _ _ (e0) tabOk rfl rfl rfl rfl (ArgSl.row 1 rfl) ?_ ?_ ?_|refine ValX_loadE _ _ (e0) tabOk rfl rfl rfl rfl (ArgSl.row 1 rfl) ?_ ?_ ?_|refine ValX_index tabOk rfl (ArgSl.row 1 rfl) rfl ?_ ?_ ?_)<;>first|rfl|omega|with_reducible refine isP ?_|conv=>whnf))|((with_reducible refine isO ?_);first|((refine OpX_store 1 tabOk rfl rfl rfl rfl rfl rfl ?_ ?_)<;>first|omega|with_reducible refine isP ?_|conv=>whnf)|((first|(refine OpX_build0 tabOk rfl rfl rfl ?_);intro bN|(refine OpX_build tabOk rfl rfl rfl rfl rfl ?_);intro bN);conv=>whnf))|((with_reducible refine isW ?_;first|refine xwr_ok (by omega) (by omega) ?_|refine xwr_raw ?_);conv=>whnf)|((first|refine DrawX_s tabOk folOk ?_|refine DrawS_i (by kernel_rfl) ?_|with_reducible refine andX_i ?_ ?_)<;>conv=>whnf)|with_reducible exact rfl|((with_reducible first|refine xif_kt (by assumption) ?_|refine xif_kf (by assumption) ?_);conv=>whnf)|((with_reducible refine xif_s ?_ ?_)<;>(intro hb;(try simp (disch:=omega) only [hbS] at hb)<;>conv=>whnf)))
     all_goals try exact hil
     ·have hi : ((j : Int) - 1).toNat = j - 1 := by omega
      have h1j : 1 ≤ j := by omega
      rw [hi, insAt_at hjy, insAt_pre h1j hjy] at hb
      have key : (((insAt ys j x).map encE).set j (encE (ys.getD (j - 1) e0))).set (j - 1) (encE x) = (insAt ys (j - 1) x).map encE := by rw [← insAt_swap h1j hjy, List.map_set, List.map_set]
      refine ⟨j - 1, [0, 1], ⟨by omega, fun y hy => ?_⟩, ?_, by (try dsimp only); omega⟩
      ·rw [List.drop_eq_getElem_cons (show j - 1 < ys.length by omega), show j - 1 + 1 = j by omega] at hy
       rcases List.mem_cons.1 hy with rfl | hy
       ·have e : ys.getD (j - 1) e0 = ys[j - 1] := by simp [show j - 1 < ys.length by omega]
        rw [e] at hb
        exact hb
       ·exact hd y hy
      ·try dsimp only
       rw [← key]
       try rw [hi]
       try rw [insAt_at hjy]
       try rw [insAt_pre h1j hjy]
       ((refine ⟨?_, ?_, ?_, ?_⟩) <;> (repeat' ((conv => whnf); apply And.intro)) <;> (try (first | exact trivial | decide)))
       all_goals first | rfl | exact fun _ _ h => h | exact congrArg (fun i => SV.v (Value.int .i64 i)) (show (j : Int) - 1 = ((j - 1 : Nat) : Int) by omega) | (simp [SV.wf, SV.wfs]; done) | trace_state
     ·have hi : ((j : Int) - 1).toNat = j - 1 := by omega
      have h1j : 1 ≤ j := by omega
      rw [hi, insAt_at hjy, insAt_pre h1j hjy] at hb
      refine ⟨(k + 1, A', c', insAt ys j x), [0, 1], ⟨by (try dsimp only); omega, hil, hyp2, insAt_wk hjy hyw hd (fun _ => hb), hz'⟩, ?_, by (try dsimp only); omega⟩
      try dsimp only
      ((refine ⟨?_, ?_, ?_, ?_⟩) <;> (repeat' ((conv => whnf); apply And.intro)) <;> (try (first | exact trivial | decide)))
      all_goals first | rfl | exact fun _ _ h => h | exact I_eq (wr (by omega) (by omega)) | (simp [SV.wf, SV.wfs]; done) | trace_state
     ·refine ⟨(k + 1, A', c', insAt ys j x), [0, 1], ⟨by (try dsimp only); omega, hil, hyp2, insAt_wk hjy hyw hd (fun h0 => by omega), hz'⟩, ?_, by (try dsimp only); omega⟩
      try dsimp only
      ((refine ⟨?_, ?_, ?_, ?_⟩) <;> (repeat' ((conv => whnf); apply And.intro)) <;> (try (first | exact trivial | decide)))
      all_goals first | rfl | exact fun _ _ h => h | exact I_eq (wr (by omega) (by omega)) | (simp [SV.wf, SV.wfs]; done) | trace_state
   ·exfalso
    omega
  ·obtain rfl : k = n := by omega
   have hc0 : codeF f l = 0 := by
    rw [h2, orI_zero (k := k) (by omega) hz, ← hel]
    simp [orI]
   have htk : (l.map (imgE f)).take k = l.map (imgE f) := List.take_of_length_le (by omega)
   rw [htk] at hyp
   (conv=>whnf);repeat' (first|((with_reducible refine isO ?_);first|((first|(refine OpX_build0 tabOk rfl rfl rfl ?_);intro bN|(refine OpX_build tabOk rfl rfl rfl rfl rfl ?_);intro bN);conv=>whnf))|((with_reducible refine isW ?_;first|refine xwr_ok (by omega) (by omega) ?_|refine xwr_raw ?_);conv=>whnf)|((first|refine DrawX_s tabOk folOk ?_|refine DrawS_i (by kernel_rfl) ?_|with_reducible refine andX_i ?_ ?_)<;>conv=>whnf)|with_reducible exact rfl|((with_reducible first|refine xif_kt (by assumption) ?_|refine xif_kf (by assumption) ?_);conv=>whnf)|((with_reducible refine xif_s ?_ ?_)<;>(intro hb;(try simp (disch:=omega) only [hbS] at hb)<;>conv=>whnf)))
   ·exfalso
    omega
   ·refine Fin_m ⟨(A', c', ys), ?_⟩ [1] ⟨?_, by simp [SV.wf, SV.wfs]⟩ ⟨⟨rfl, rfl, rfl, ?_, rfl, rfl⟩, trivial⟩ (by decide) rfl
    ·unfold IsOut
     rw [if_pos hc0]
     exact ⟨hyp, asc_of_sorted hyp (wk_get hyw) (img_ne hc0)⟩
    ·show _ = SV.t [.v (.slice A' ys.length c'), I (codeF f l)]
     rw [hyl, hc0]
    ·first | exact hyl | exact hyl.symm
end Go.Proofs.YtlnplelandimeaaGreat.En
end
