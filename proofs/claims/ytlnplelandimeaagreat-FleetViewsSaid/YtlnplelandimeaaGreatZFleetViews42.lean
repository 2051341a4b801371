import Derived.Test.YtlnplelandimeaaGreatZFleetViews41
import Derived.Test.YtlnplelandimeaaGreatZFleetViews39
set_option linter.all false
section
namespace Go.Proofs.YtlnplelandimeaaGreat.En
open Go.RowKit
set_option maxRecDepth 100000
def capF (a b : SpT) : SpT := ((maxF (a.1, a.2.1) (b.1, b.2.1)).1, (maxF (a.1, a.2.1) (b.1, b.2.1)).2, (minF (a.2.2.1, a.2.2.2) (b.2.2.1, b.2.2.2)).1, (minF (a.2.2.1, a.2.2.2) (b.2.2.1, b.2.2.2)).2)
def axS (p d a b : Int) : SpT := ((akk p d a b).1, (akk p d a b).2, (akl p d a b).1, (akl p d a b).2)
def axE (p d a b : Int) : Bool := decide (d = 0) && (decide (p < a) || decide (b < p))
def up0 (s : SpT) : SpT := if s.1 < 0 then (0, 1, s.2.2.1, s.2.2.2) else s
def tmA (p : PtT) (v : VecT) (r : aqv) : SpT := if v.1 = 0 then axS p.2 v.2.1 r.2.1 r.2.2.2 else axS p.1 v.1 r.1 r.2.2.1
def tmB (p : PtT) (v : VecT) (r : aqv) : SpT := if v.2.1 = 0 then axS p.1 v.1 r.1 r.2.2.1 else axS p.2 v.2.1 r.2.1 r.2.2.2
def tmS (p : PtT) (v : VecT) (r : aqv) : SpT := up0 (capF (tmA p v r) (tmB p v r))
def tmE (p : PtT) (v : VecT) (r : aqv) : Bool := axE p.1 v.1 r.1 r.2.2.1 || axE p.2 v.2.1 r.2.1 r.2.2.2 || aj9 ((tmS p v r).2.2.1, (tmS p v r).2.2.2) ((tmS p v r).1, (tmS p v r).2.1)
theorem capF_in {a b : SpT} (ha : spP a) (hb : spP b) {t : Int × Int} (ht : 0 < t.2) : inS (capF a b) t ↔ inS a t ∧ inS b t := by
 unfold inS capF
 have h1:=ckk (s:=(a.1,a.2.1)) (l:=(b.1,b.2.1)) ha.1 hb.1 ht
 have h2:=ckl (s:=(a.2.2.1,a.2.2.2)) (l:=(b.2.2.1,b.2.2.2)) ha.2 hb.2 ht
 constructor
 ·rintro ⟨q1,q2⟩
  exact ⟨⟨(h1.1 q1).1,(h2.1 q2).1⟩,(h1.1 q1).2,(h2.1 q2).2⟩
 ·rintro ⟨⟨q1,q2⟩,q3,q4⟩
  exact ⟨h1.2 ⟨q1,q3⟩,h2.2 ⟨q2,q4⟩⟩
theorem cwf {a b : SpT} (ha : spP a) (hb : spP b) : spP (capF a b) := ⟨cze (s := (a.1, a.2.1)) (l := (b.1, b.2.1)) ha.1 hb.1, czf (s := (a.2.2.1, a.2.2.2)) (l := (b.2.2.1, b.2.2.2)) ha.2 hb.2⟩
theorem axS_pos {p d a b : Int} (hd : d ≠ 0) : spP (axS p d a b) := ⟨bqi hd, bqj hd⟩
theorem cwg {p d a b : Int} (hd : d ≠ 0) {t : Int × Int} : inS (axS p d a b) t ↔ inD p d a b t := ckm hd t
theorem axE_in {p d a b : Int} {t : Int × Int} (ht : 0 < t.2) (h : axE p d a b = true) : ¬ inD p d a b t := by
 simp only [axE,Bool.and_eq_true,Bool.or_eq_true,decide_eq_true_eq] at h
 obtain ⟨rfl,h⟩:=h
 simp only [inD,Int.mul_zero,Int.add_zero,ajo ht]
 omega
theorem ax0_in {p d a b : Int} {t : Int × Int} (ht : 0 < t.2) (h : axE p d a b = false) (hd : d = 0) : inD p d a b t := by
 subst hd
 simp [axE] at h
 simp only [inD,Int.mul_zero,Int.add_zero,ajo ht]
 omega
theorem up0_in {s : SpT} (h : spP s) {t : Int × Int} (ht : 0 < t.2) : inS (up0 s) t ↔ inS s t ∧ 0 ≤ t.1 := by
 unfold up0
 split
 ·rename_i h0
  unfold inS frLe
  dsimp only
  constructor
  ·rintro ⟨q1,q2⟩
   have q3 : 0≤t.1:=by omega
   refine ⟨⟨?_,q2⟩,q3⟩
   have e1 : s.1 * t.2≤0:=Int.mul_nonpos_of_nonpos_of_nonneg (by omega) (by omega)
   have e2 : 0≤t.1 * s.2.1:=Int.mul_nonneg q3 (by have:=h.1;omega)
   omega
  ·rintro ⟨⟨q1,q2⟩,q3⟩
   exact ⟨by omega,q2⟩
 ·rename_i h0
  refine ⟨fun q=>⟨q,?_⟩,fun q=>q.1⟩
  have:=q.1
  unfold frLe at this
  dsimp only at this
  have e1 : 0≤s.1 * t.2:=Int.mul_nonneg (by omega) (by omega)
  refine Int.nonneg_of_mul_nonneg_left (b:=s.2.1) ?_ h.1
  omega
theorem up0_pos {s : SpT} (h : spP s) : spP (up0 s) ∧ 0 ≤ (up0 s).1 := by
 unfold up0
 split
 ·exact ⟨⟨Int.zero_lt_one,h.2⟩,Int.le_refl _⟩
 ·exact ⟨h,by omega⟩
theorem cwh {v : VecT} (hv : vecB v = true) : v.1 ≠ 0 ∨ v.2.1 ≠ 0 := by
 simp only [vecB,Bool.and_eq_true,aqo,decide_eq_true_eq] at hv
 refine Classical.byContradiction fun h=>?_
 have h1 : v.1=0:=by omega
 have h2 : v.2.1=0:=by omega
 obtain ⟨⟨h3,_⟩,h4⟩:=hv
 rw [h1,h2] at h4
 have : 1 * 1≤v.2.2 * v.2.2:=Int.mul_le_mul h3 h3 (by decide) (by omega)
 omega
theorem czg {p : PtT} {v : VecT} {r : aqv} (hv : vecB v = true) : spP (tmA p v r) ∧ spP (tmB p v r) := by
 have:=cwh hv
 unfold tmA tmB
 constructor<;>split<;>exact axS_pos (by omega)
theorem bvq {p : PtT} {v : VecT} {r : aqv} (hv : vecB v = true) : spP (tmS p v r) ∧ 0 ≤ (tmS p v r).1 :=
 up0_pos (cwf (czg hv).1 (czg hv).2)
theorem tm_in {p : PtT} {v : VecT} {r : aqv} (hv : vecB v = true) {t : Int × Int} (ht : 0 < t.2) :
 (tmE p v r=false→inS (tmS p v r) t→0≤t.1∧inR p v r t)∧(0≤t.1∧inR p v r t→tmE p v r=false∧inS (tmS p v r) t):=by
 have hnz:=cwh hv
 have hab:=czg (p:=p) (r:=r) hv
 have hin : inS (tmS p v r) t↔(inS (tmA p v r) t∧inS (tmB p v r) t)∧0≤t.1:=by
  unfold tmS
  rw [up0_in (cwf hab.1 hab.2) ht,capF_in hab.1 hab.2 ht]
 have hA : axE p.1 v.1 r.1 r.2.2.1=false→axE p.2 v.2.1 r.2.1 r.2.2.2=false→((inS (tmA p v r) t∧inS (tmB p v r) t)↔inR p v r t):=by
  intro e1 e2
  unfold tmA tmB inR
  by_cases h1 : v.1=0
  ·rw [if_pos h1,if_neg (by omega),cwg (by omega)]
   exact ⟨fun q=>⟨ax0_in ht e1 h1,q.1⟩,fun q=>⟨q.2,q.2⟩⟩
  ·rw [if_neg h1]
   by_cases h2 : v.2.1=0
   ·rw [if_pos h2,cwg h1]
    exact ⟨fun q=>⟨q.1,ax0_in ht e2 h2⟩,fun q=>⟨q.1,q.1⟩⟩
   ·rw [if_neg h2,cwg h1,cwg h2]
 constructor
 ·intro he hs
  simp only [tmE,Bool.or_eq_false_iff] at he
  obtain ⟨⟨e1,e2⟩,-⟩:=he
  have:=hin.1 hs
  exact ⟨this.2,(hA e1 e2).1 this.1⟩
 ·rintro ⟨h0,hr⟩
  have e1 : axE p.1 v.1 r.1 r.2.2.1=false:=by
   cases h : axE p.1 v.1 r.1 r.2.2.1 with
   | false=>rfl
   | true=>exact (axE_in ht h hr.1).elim
  have e2 : axE p.2 v.2.1 r.2.1 r.2.2.2=false:=by
   cases h : axE p.2 v.2.1 r.2.1 r.2.2.2 with
   | false=>rfl
   | true=>exact (axE_in ht h hr.2).elim
  have hs:=hin.2 ⟨(hA e1 e2).2 hr,h0⟩
  refine ⟨?_,hs⟩
  simp only [tmE,e1,e2,Bool.false_or]
  rw [akh]
  have hp:=bvq (p:=p) (r:=r) hv
  exact axl hp.1.1 ht hp.1.2 hs.1 hs.2
def awl (p : PtT) (v : VecT) (lo hi : Int) (r : aqv) : Bool :=
 !tmE p v r && decide ((tmS p v r).1 * v.2.2≤hi * (tmS p v r).2.1) && decide (lo * (tmS p v r).2.2.2≤(tmS p v r).2.2.1 * v.2.2)
theorem bvr {p : PtT} {v : VecT} {lo hi : Int} {r : aqv} (hv : vecB v = true) (h2 : lo ≤ hi) :
 awl p v lo hi r=true↔∃ t : Int × Int,0 < t.2∧0≤t.1∧inR p v r t∧lo * t.2≤t.1 * v.2.2∧t.1 * v.2.2≤hi * t.2:=by
 have hv1 : 1≤v.2.2:=by
  have:=hv
  simp only [vecB,Bool.and_eq_true,aqo] at this
  exact this.1.1
 have hp:=bvq (p:=p) (r:=r) hv
 unfold awl
 simp only [Bool.and_eq_true,decide_eq_true_eq,Bool.not_eq_true']
 constructor
 ·rintro ⟨⟨q1,q3⟩,q2⟩
  have g3 : frLe ((tmS p v r).1,(tmS p v r).2.1) ((tmS p v r).2.2.1,(tmS p v r).2.2.2):=by
   have:=q1
   simp only [tmE,Bool.or_eq_false_iff] at this
   exact akh.1 this.2
  have key : ∀ t : Int × Int,0 < t.2→inS (tmS p v r) t→frLe (lo,v.2.2) t→frLe t (hi,v.2.2)→∃ t : Int × Int,0 < t.2∧0≤t.1∧inR p v r t∧lo * t.2≤t.1 * v.2.2∧t.1 * v.2.2≤hi * t.2:=by
   intro t ht hs hl hh
   have hr:=(tm_in hv ht).1 q1 hs
   exact ⟨t,ht,hr.1,hr.2,hl,hh⟩
  have l2 : frLe (lo,v.2.2) ((tmS p v r).2.2.1,(tmS p v r).2.2.2):=q2
  have l3 : frLe ((tmS p v r).1,(tmS p v r).2.1) (hi,v.2.2):=q3
  by_cases hc : frLe ((tmS p v r).1,(tmS p v r).2.1) (lo,v.2.2)
  ·refine key (lo,v.2.2) (by dsimp only;omega) ⟨hc,l2⟩ (by unfold frLe;exact Int.le_refl _) ?_
   unfold frLe
   exact Int.mul_le_mul_of_nonneg_right h2 (by omega)
  ·exact key ((tmS p v r).1,(tmS p v r).2.1) hp.1.1 ⟨by unfold frLe;exact Int.le_refl _,g3⟩ ((awa _ _).resolve_left hc) l3
 ·rintro ⟨t,ht,t0,hr,hl,hh⟩
  obtain ⟨k1,k2,k3⟩:=(tm_in hv ht).2 ⟨t0,hr⟩
  refine ⟨⟨k1,?_⟩,?_⟩
  ·exact axl (a:=((tmS p v r).1,(tmS p v r).2.1)) (b:=t) (c:=(hi,v.2.2)) hp.1.1 ht (by dsimp only;omega) k2 hh
  ·exact axl (a:=(lo,v.2.2)) (b:=t) (c:=((tmS p v r).2.2.1,(tmS p v r).2.2.2)) (by dsimp only;omega) ht hp.1.2 hl k3
theorem bxd {n : Int} : szB n 2097152 = bqs n := by
 rw [Bool.eq_iff_iff]
 simp [szB,bqs]
theorem rPoint_x (p : PtT) : PureX Tryz.prog 211 [.a [I p.1, I p.2]] (B (ptL p)) := by
 refine PureX.of Tryz.func211 rfl aza rfl rfl rfl (by simp [SV.wfs,SV.wf]) (by simp [SV.wfs,SV.wf]) fun w=>?_
 (conv=>whnf);repeat' (first|((with_reducible refine isC ?_);first|((with_reducible refine azb (ajz _ _ ?_ ?_) ?_)<;>first|omega|with_reducible refine isP ?_|conv=>whnf))|with_reducible exact rfl|((with_reducible refine aze (by assumption) ?_);conv=>whnf)|((with_reducible refine azd ?_ ?_)<;>(intro hb;(try simp (disch:=omega) only [hbS] at hb)<;>conv=>whnf)))
 ·refine azk rfl (B_eq ?_) trivial
  unfold ptL
  rw [← bxd,← bxd,hb,Bool.true_and]
 ·refine azk rfl (B_eq ?_) trivial
  unfold ptL
  rw [← bxd,← bxd,hb,Bool.false_and]
theorem rRect_x (r : aqv) (h : aj8 r = true) : PureX Tryz.prog 212 [.a [I r.1, I r.2.1, I r.2.2.1, I r.2.2.2]] (B true) := by
 simp only [aj8,Bool.and_eq_true,axq,decide_eq_true_eq] at h
 refine PureX.of Tryz.func212 rfl aza rfl rfl rfl (by simp [SV.wfs,SV.wf]) (by simp [SV.wfs,SV.wf]) fun w=>?_
 (conv=>whnf);repeat' (first|with_reducible exact rfl|((with_reducible refine aze (by assumption) ?_);conv=>whnf)|((with_reducible refine azd ?_ ?_)<;>(intro hb;(try simp (disch:=omega) only [hbS] at hb)<;>conv=>whnf)))
 all_goals try (exfalso;omega)
 all_goals exact azk rfl (B_eq (by simp;omega)) trivial
theorem rArgs_x {p : PtT} {v : VecT} {r : aqv} (h : ax9 p v r = true) : PureX Tryz.prog 202 [.a [I p.1, I p.2], .a [I v.1, I v.2.1, I v.2.2], .a [I r.1, I r.2.1, I r.2.2.1, I r.2.2.2]] (B true) := by
 simp only [ax9,Bool.and_eq_true] at h
 obtain ⟨⟨h1,h2⟩,h3⟩:=h
 have k1:=rPoint_x p
 have k2:=cxz v
 have k3:=rRect_x r h3
 rw [h1] at k1
 rw [h2] at k2
 refine PureX.of Tryz.func202 rfl aza rfl rfl rfl (by simp [SV.wfs,SV.wf]) (by simp [SV.wfs,SV.wf]) fun w=>?_
 (conv=>whnf);repeat' (first|((with_reducible refine isC ?_);first|((first|with_reducible refine azb (k1) ?_|with_reducible refine azb (k2) ?_|with_reducible refine azb (k3) ?_)<;>first|omega|with_reducible refine isP ?_|conv=>whnf))|with_reducible exact rfl|((with_reducible refine aze (by assumption) ?_);conv=>whnf)|((with_reducible refine azd ?_ ?_)<;>(intro hb;(try simp (disch:=omega) only [hbS] at hb)<;>conv=>whnf)))
 exact azk rfl rfl trivial
abbrev axV (s : SpT) (e a : Bool) : SV := .a [I s.1, I s.2.1, I s.2.2.1, I s.2.2.2, B e, B a]
theorem cwi (p d a b : Int) (h : -2097152 ≤ p ∧ p ≤ 2097152 ∧ -2097152 ≤ a ∧ a ≤ 2097152 ∧ -2097152 ≤ b ∧ b ≤ 2097152 ∧ 0 < d ∧ d ≤ 67108864) : PureX Tryz.prog 213 [I p, I d, I a, I b] (axV (a - p, d, b - p, d) false false) := by
 refine PureX.of Tryz.func213 rfl aza rfl rfl rfl (by simp [SV.wfs,SV.wf]) (by simp [SV.wfs,SV.wf]) fun w=>?_
 (conv=>whnf);repeat' (first|((with_reducible refine isW ?_;first|refine azg (by omega) (by omega) ?_|refine azc ?_);conv=>whnf)|with_reducible exact rfl|((with_reducible refine aze (by assumption) ?_);conv=>whnf)|((with_reducible refine azd ?_ ?_)<;>(intro hb;(try simp (disch:=omega) only [hbS] at hb)<;>conv=>whnf)))
 all_goals try (exfalso;omega)
 exact azk rfl rfl (by simp [SV.wf,SV.wfs])
theorem axis_nz (p d a b : Int) (h : -2097152 ≤ p ∧ p ≤ 2097152 ∧ -2097152 ≤ a ∧ a ≤ 2097152 ∧ -2097152 ≤ b ∧ b ≤ 2097152 ∧ -67108864 ≤ d ∧ d ≤ 67108864) (h0 : d ≠ 0) : PureX Tryz.prog 213 [I p, I d, I a, I b] (axV (axS p d a b) false false) := by
 by_cases hd : d < 0
 ·have k:=cwi (0 - p) (0 - d) (0 - b) (0 - a) (by omega)
  rw [show 0 - b - (0 - p)=p - b by omega,show 0 - a - (0 - p)=p - a by omega] at k
  unfold axS akk akl
  rw [if_pos hd,if_pos hd]
  refine PureX.of Tryz.func213 rfl aza rfl rfl rfl (by simp [SV.wfs,SV.wf]) (by simp [SV.wfs,SV.wf]) fun w=>?_
  (conv=>whnf);repeat' (first|((with_reducible refine isC ?_);first|((with_reducible refine azb (k) ?_)<;>first|omega|with_reducible refine isP ?_|conv=>whnf))|((with_reducible refine isW ?_;first|refine azg (by omega) (by omega) ?_|refine azc ?_);conv=>whnf)|with_reducible exact rfl|((with_reducible refine aze (by assumption) ?_);conv=>whnf)|((with_reducible refine azd ?_ ?_)<;>(intro hb;(try simp (disch:=omega) only [hbS] at hb)<;>conv=>whnf)))
  all_goals try (exfalso;omega)
  exact azk rfl rfl (by simp [SV.wf,SV.wfs])
 ·unfold axS akk akl
  rw [if_neg hd,if_neg hd]
  exact cwi p d a b (by omega)
theorem axis_0 (p a b : Int) : PureX Tryz.prog 213 [I p, I 0, I a, I b] (axV (0, 0, 0, 0) (axE p 0 a b) (!axE p 0 a b)) := by
 refine PureX.of Tryz.func213 rfl aza rfl rfl rfl (by simp [SV.wfs,SV.wf]) (by simp [SV.wfs,SV.wf]) fun w=>?_
 (conv=>whnf);repeat' (first|((with_reducible refine isW ?_;first|refine azg (by omega) (by omega) ?_|refine azc ?_);conv=>whnf)|with_reducible exact rfl|((with_reducible refine aze (by assumption) ?_);conv=>whnf)|((with_reducible refine azd ?_ ?_)<;>(intro hb;(try simp (disch:=omega) only [hbS] at hb)<;>conv=>whnf)))
 all_goals try (exfalso;omega)
 all_goals
  first
  | rw [show axE p 0 a b=true by simp [axE];omega]
  | rw [show axE p 0 a b=false by simp [axE];omega]
 all_goals exact azk rfl rfl (by simp [SV.wf,SV.wfs])
theorem bvs {p d a b : Int} (hp : -2097152 ≤ p ∧ p ≤ 2097152) (ha : -2097152 ≤ a ∧ a ≤ 2097152) (hb : -2097152 ≤ b ∧ b ≤ 2097152) (hd : -67108864 ≤ d ∧ d ≤ 67108864) (h0 : d ≠ 0) : spB (axS p d a b) := ⟨cqo hp ha hb hd h0, cqp hp ha hb hd h0⟩
theorem capF_sp {a b : SpT} (ha : spB a) (hb : spB b) : spB (capF a b) := ⟨maxF_fr (s := (a.1, a.2.1)) (l := (b.1, b.2.1)) ha.1 hb.1, minF_fr (s := (a.2.2.1, a.2.2.2)) (l := (b.2.2.1, b.2.2.2)) ha.2 hb.2⟩
theorem up0_sp {a : SpT} (ha : spB a) : spB (up0 a) := by
 unfold up0
 split
 ·exact ⟨by unfold frB;dsimp only;omega,ha.2⟩
 ·exact ha
theorem tmS_sp {p : PtT} {v : VecT} {r : aqv} (h : ax9 p v r = true) : spB (tmS p v r) := by
 obtain ⟨⟨p1,p2⟩,⟨v1,v2,v3,v4⟩,r1,r2,r3,r4⟩:=ak5 h
 simp only [ax9,Bool.and_eq_true] at h
 have hnz:=cwh h.1.2
 unfold tmS tmA tmB
 refine up0_sp (capF_sp ?_ ?_)
 ·split
  ·exact bvs p2 r2 r4 v2 (by omega)
  ·exact bvs p1 r1 r3 v1 (by omega)
 ·split
  ·exact bvs p1 r1 r3 v1 (by omega)
  ·exact bvs p2 r2 r4 v2 (by omega)
theorem aqp {x y : Int} (h1 : -8388608 ≤ x ∧ x ≤ 8388608) (h2 : 1 ≤ y ∧ y ≤ 67108864) : -562949953421312 ≤ x * y ∧ x * y ≤ 562949953421312 := by
 have:=ax2 (a:=x) (b:=y) (A:=8388608) (B:=67108864) (by omega) (by omega)
 omega
def resV (s : SpT) : SV := if aj9 (s.2.2.1, s.2.2.2) (s.1, s.2.1) then axV (0, 0, 0, 0) true false else axV s false false
set_option maxHeartbeats 4000000 in
theorem times_2 (p : PtT) (v : VecT) (r : aqv) (a b : SpT) (ha : spB a) (hb : spB b)
 (kx : PureX Tryz.prog 213 [I p.1,I v.1,I r.1,I r.2.2.1] (axV a false false)) (ky : PureX Tryz.prog 213 [I p.2,I v.2.1,I r.2.1,I r.2.2.2] (axV b false false)) :
 PureX Tryz.prog 203 [.a [I p.1,I p.2],.a [I v.1,I v.2.1,I v.2.2],.a [I r.1,I r.2.1,I r.2.2.1,I r.2.2.2]] (resV (up0 (capF a b))):=by
 obtain ⟨⟨a1,a2,a3,a4⟩,a5,a6,a7,a8⟩:=ha
 dsimp only at a1 a2 a3 a4 a5 a6 a7 a8
 obtain ⟨⟨b1,b2,b3,b4⟩,b5,b6,b7,b8⟩:=hb
 dsimp only at b1 b2 b3 b4 b5 b6 b7 b8
 have m0:=aqp (x:=a.1) (y:=a.2.1) ⟨a1,a2⟩ ⟨a3,a4⟩
 have m1:=aqp (x:=a.1) (y:=a.2.2.2) ⟨a1,a2⟩ ⟨a7,a8⟩
 have m2:=aqp (x:=a.2.2.1) (y:=a.2.1) ⟨a5,a6⟩ ⟨a3,a4⟩
 have m3:=aqp (x:=a.2.2.1) (y:=a.2.2.2) ⟨a5,a6⟩ ⟨a7,a8⟩
 have m4:=aqp (x:=a.1) (y:=b.2.1) ⟨a1,a2⟩ ⟨b3,b4⟩
 have m5:=aqp (x:=a.1) (y:=b.2.2.2) ⟨a1,a2⟩ ⟨b7,b8⟩
 have m6:=aqp (x:=a.2.2.1) (y:=b.2.1) ⟨a5,a6⟩ ⟨b3,b4⟩
 have m7:=aqp (x:=a.2.2.1) (y:=b.2.2.2) ⟨a5,a6⟩ ⟨b7,b8⟩
 have m8:=aqp (x:=b.1) (y:=a.2.1) ⟨b1,b2⟩ ⟨a3,a4⟩
 have m9:=aqp (x:=b.1) (y:=a.2.2.2) ⟨b1,b2⟩ ⟨a7,a8⟩
 have m10:=aqp (x:=b.2.2.1) (y:=a.2.1) ⟨b5,b6⟩ ⟨a3,a4⟩
 have m11:=aqp (x:=b.2.2.1) (y:=a.2.2.2) ⟨b5,b6⟩ ⟨a7,a8⟩
 have m12:=aqp (x:=b.1) (y:=b.2.1) ⟨b1,b2⟩ ⟨b3,b4⟩
 have m13:=aqp (x:=b.1) (y:=b.2.2.2) ⟨b1,b2⟩ ⟨b7,b8⟩
 have m14:=aqp (x:=b.2.2.1) (y:=b.2.1) ⟨b5,b6⟩ ⟨b3,b4⟩
 have m15:=aqp (x:=b.2.2.1) (y:=b.2.2.2) ⟨b5,b6⟩ ⟨b7,b8⟩
 have e : ∀ s : SpT,s=up0 (capF a b)→PureX Tryz.prog 203 [.a [I p.1,I p.2],.a [I v.1,I v.2.1,I v.2.2],.a [I r.1,I r.2.1,I r.2.2.1,I r.2.2.2]] (resV s):=by
  intro s hs
  unfold capF maxF minF at hs
  by_cases g1 : aj9 (a.1,a.2.1) (b.1,b.2.1)=true
  all_goals by_cases g2 : aj9 (b.2.2.1,b.2.2.2) (a.2.2.1,a.2.2.2)=true
  all_goals
   simp only [g1,g2,if_true,if_false,Bool.false_eq_true,up0] at hs
   simp only [aj9,decide_eq_true_eq] at g1 g2
  all_goals split at hs
  all_goals
   subst hs
   unfold resV
   split
  all_goals
   rename_i g3 g4
   simp only [aj9,decide_eq_true_eq,Int.zero_mul,Int.mul_one] at g4
   refine PureX.of Tryz.func203 rfl aza rfl rfl rfl (by simp [SV.wfs,SV.wf]) (by simp [SV.wfs,SV.wf]) fun w=>?_
   (conv=>whnf);repeat' (first|((with_reducible refine isC ?_);first|((first|with_reducible refine azb (kx) ?_|with_reducible refine azb (ky) ?_)<;>first|omega|with_reducible refine isP ?_|conv=>whnf))|((with_reducible refine isW ?_;first|refine azg (by omega) (by omega) ?_|refine azc ?_);conv=>whnf)|((first|refine azj aza azt ?_|refine azi (by kernel_rfl) ?_|with_reducible refine azo ?_ ?_)<;>conv=>whnf)|with_reducible exact rfl|((with_reducible refine aze (by assumption) ?_);conv=>whnf)|((with_reducible refine azd ?_ ?_)<;>(intro hb;(try simp (disch:=omega) only [hbS] at hb)<;>conv=>whnf)))
   all_goals try (exfalso;omega)
   all_goals exact azk rfl rfl (by simp [SV.wf,SV.wfs])
 exact e _ rfl
set_option maxHeartbeats 4000000 in
theorem times_y (p : PtT) (v : VecT) (r : aqv) (b : SpT) (hb : spB b)
 (kx : PureX Tryz.prog 213 [I p.1,I v.1,I r.1,I r.2.2.1] (axV (0,0,0,0) false true)) (ky : PureX Tryz.prog 213 [I p.2,I v.2.1,I r.2.1,I r.2.2.2] (axV b false false)) :
 PureX Tryz.prog 203 [.a [I p.1,I p.2],.a [I v.1,I v.2.1,I v.2.2],.a [I r.1,I r.2.1,I r.2.2.1,I r.2.2.2]] (resV (up0 (capF b b))):=by
 obtain ⟨⟨b1,b2,b3,b4⟩,b5,b6,b7,b8⟩:=hb
 dsimp only at b1 b2 b3 b4 b5 b6 b7 b8
 have m0:=aqp (x:=b.1) (y:=b.2.1) ⟨b1,b2⟩ ⟨b3,b4⟩
 have m1:=aqp (x:=b.1) (y:=b.2.2.2) ⟨b1,b2⟩ ⟨b7,b8⟩
 have m2:=aqp (x:=b.2.2.1) (y:=b.2.1) ⟨b5,b6⟩ ⟨b3,b4⟩
 have m3:=aqp (x:=b.2.2.1) (y:=b.2.2.2) ⟨b5,b6⟩ ⟨b7,b8⟩
 have e : ∀ s : SpT,s=up0 (capF b b)→PureX Tryz.prog 203 [.a [I p.1,I p.2],.a [I v.1,I v.2.1,I v.2.2],.a [I r.1,I r.2.1,I r.2.2.1,I r.2.2.2]] (resV s):=by
  intro s hs
  unfold capF maxF minF at hs
  by_cases g1 : aj9 (b.1,b.2.1) (b.1,b.2.1)=true
  all_goals by_cases g2 : aj9 (b.2.2.1,b.2.2.2) (b.2.2.1,b.2.2.2)=true
  all_goals
   simp only [g1,g2,if_true,if_false,Bool.false_eq_true,up0] at hs
   simp only [aj9,decide_eq_true_eq] at g1 g2
  all_goals split at hs
  all_goals
   subst hs
   unfold resV
   split
  all_goals
   rename_i g3 g4
   simp only [aj9,decide_eq_true_eq,Int.zero_mul,Int.mul_one] at g4
   refine PureX.of Tryz.func203 rfl aza rfl rfl rfl (by simp [SV.wfs,SV.wf]) (by simp [SV.wfs,SV.wf]) fun w=>?_
   (conv=>whnf);repeat' (first|((with_reducible refine isC ?_);first|((first|with_reducible refine azb (kx) ?_|with_reducible refine azb (ky) ?_)<;>first|omega|with_reducible refine isP ?_|conv=>whnf))|((with_reducible refine isW ?_;first|refine azg (by omega) (by omega) ?_|refine azc ?_);conv=>whnf)|((first|refine azj aza azt ?_|refine azi (by kernel_rfl) ?_|with_reducible refine azo ?_ ?_)<;>conv=>whnf)|with_reducible exact rfl|((with_reducible refine aze (by assumption) ?_);conv=>whnf)|((with_reducible refine azd ?_ ?_)<;>(intro hb;(try simp (disch:=omega) only [hbS] at hb)<;>conv=>whnf)))
   all_goals try (exfalso;omega)
   all_goals exact azk rfl rfl (by simp [SV.wf,SV.wfs])
 exact e _ rfl
set_option maxHeartbeats 4000000 in
theorem times_x (p : PtT) (v : VecT) (r : aqv) (a : SpT) (ha : spB a)
 (kx : PureX Tryz.prog 213 [I p.1,I v.1,I r.1,I r.2.2.1] (axV a false false)) (ky : PureX Tryz.prog 213 [I p.2,I v.2.1,I r.2.1,I r.2.2.2] (axV (0,0,0,0) false true)) :
 PureX Tryz.prog 203 [.a [I p.1,I p.2],.a [I v.1,I v.2.1,I v.2.2],.a [I r.1,I r.2.1,I r.2.2.1,I r.2.2.2]] (resV (up0 (capF a a))):=by
 obtain ⟨⟨a1,a2,a3,a4⟩,a5,a6,a7,a8⟩:=ha
 dsimp only at a1 a2 a3 a4 a5 a6 a7 a8
 have m0:=aqp (x:=a.1) (y:=a.2.1) ⟨a1,a2⟩ ⟨a3,a4⟩
 have m1:=aqp (x:=a.1) (y:=a.2.2.2) ⟨a1,a2⟩ ⟨a7,a8⟩
 have m2:=aqp (x:=a.2.2.1) (y:=a.2.1) ⟨a5,a6⟩ ⟨a3,a4⟩
 have m3:=aqp (x:=a.2.2.1) (y:=a.2.2.2) ⟨a5,a6⟩ ⟨a7,a8⟩
 have e : ∀ s : SpT,s=up0 (capF a a)→PureX Tryz.prog 203 [.a [I p.1,I p.2],.a [I v.1,I v.2.1,I v.2.2],.a [I r.1,I r.2.1,I r.2.2.1,I r.2.2.2]] (resV s):=by
  intro s hs
  unfold capF maxF minF at hs
  by_cases g1 : aj9 (a.1,a.2.1) (a.1,a.2.1)=true
  all_goals by_cases g2 : aj9 (a.2.2.1,a.2.2.2) (a.2.2.1,a.2.2.2)=true
  all_goals
   simp only [g1,g2,if_true,if_false,Bool.false_eq_true,up0] at hs
   simp only [aj9,decide_eq_true_eq] at g1 g2
  all_goals split at hs
  all_goals
   subst hs
   unfold resV
   split
  all_goals
   rename_i g3 g4
   simp only [aj9,decide_eq_true_eq,Int.zero_mul,Int.mul_one] at g4
   refine PureX.of Tryz.func203 rfl aza rfl rfl rfl (by simp [SV.wfs,SV.wf]) (by simp [SV.wfs,SV.wf]) fun w=>?_
   (conv=>whnf);repeat' (first|((with_reducible refine isC ?_);first|((first|with_reducible refine azb (kx) ?_|with_reducible refine azb (ky) ?_)<;>first|omega|with_reducible refine isP ?_|conv=>whnf))|((with_reducible refine isW ?_;first|refine azg (by omega) (by omega) ?_|refine azc ?_);conv=>whnf)|((first|refine azj aza azt ?_|refine azi (by kernel_rfl) ?_|with_reducible refine azo ?_ ?_)<;>conv=>whnf)|with_reducible exact rfl|((with_reducible refine aze (by assumption) ?_);conv=>whnf)|((with_reducible refine azd ?_ ?_)<;>(intro hb;(try simp (disch:=omega) only [hbS] at hb)<;>conv=>whnf)))
   all_goals try (exfalso;omega)
   all_goals exact azk rfl rfl (by simp [SV.wf,SV.wfs])
 exact e _ rfl
theorem cko (e : EntT) : ∀ {l : List EntT} {y : EntT}, y ∈ (putR e l).1 → y ∈ l ∨ y = e ∨ ∃ x ∈ l, y = ajb x e ∧ axb y = false
 | [],y,h=>by
   rw [putR,List.mem_singleton] at h
   exact .inr (.inl h)
 | x :: xs,y,h=>by
   rw [putR] at h
   split at h
   ·split at h
    ·exact .inl (List.mem_cons_of_mem _ h)
    ·rename_i hz
     rcases List.mem_cons.1 h with rfl|h
     ·exact .inr (.inr ⟨x,List.mem_cons_self ..,rfl,by simpa using hz⟩)
     ·exact .inl (List.mem_cons_of_mem _ h)
   ·split at h
    ·rcases List.mem_cons.1 h with rfl|h
     ·exact .inr (.inl rfl)
     ·exact .inl h
    ·rcases List.mem_cons.1 h with rfl|h
     ·exact .inl (List.mem_cons_self ..)
     ·rcases cko e h with h|h|⟨z,hz,h⟩
      ·exact .inl (List.mem_cons_of_mem _ h)
      ·exact .inr (.inl h)
      ·exact .inr (.inr ⟨z,List.mem_cons_of_mem _ hz,h⟩)
theorem bj7 (e : EntT) : ∀ l : List EntT, (putR e l).1.length ≤ l.length + 1
 | []=>by simp [putR]
 | x :: xs=>by
   have:=bj7 e xs
   rw [putR]
   split
   ·split<;>simp only [List.length_cons]<;>omega
   ·split
    ·simp only [List.length_cons];omega
    ·simp only [List.length_cons]
     omega
def mB (a : aqr) (b : az5) (c : azx) : Bool := awl (a.1, a.2.1) (axs a.2.2 b.1) 0 (axi b) (sqR c)
def eB (a : aqr) (b : az5) (c : azx) : Bool := !decide (b.2 = -1) && awl (a.1, a.2.1) (axs a.2.2 b.1) b.2 b.2 (sqR c)
def entG (a : aqr) (b : az5) (c : azx) : EntT := if eB a b c then (c.1, c.2, 1, 0) else (c.1, c.2, 0, 1)
def axr (a : aqr) (b : az5) (out : List EntT) (c : azx) : List EntT := if mB a b c then (putE out (entG a b c)).1 else out
def kB (b : az5) : Int := axi b / 64 + 2
def cx1 (a : aqr) (b : az5) : List azx := outK allC (a.1 / 64 - kB b) (a.2.1 / 64 - kB b) (2 * kB b + 1).toNat (2 * kB b + 1).toNat
def awe (a : aqr) (out : List EntT) (b : az5) : List EntT := (cx1 a b).foldl (axr a b) out
def ofG (a : aqr) (s : List az5) : List EntT := s.foldl (awe a) []
def okG (m : Nat) (out : List EntT) : Prop := out.length ≤ m ∧ ∀ e ∈ out, (0 ≤ e.2.2.1 ∧ e.2.2.1 ≤ m) ∧ 0 ≤ e.2.2.2 ∧ e.2.2.2 ≤ m
theorem okG.le {m k : Nat} {out : List EntT} (h : okG m out) (hk : m ≤ k) : okG k out := ⟨Nat.le_trans h.1 hk, fun e he => by have := h.2 e he; omega⟩
theorem ckp (a : aqr) (b : az5) (c : azx) : (entG a b c).cell = c ∧ axb (entG a b c) = false ∧ ((0 ≤ (entG a b c).2.2.1 ∧ (entG a b c).2.2.1 ≤ 1) ∧ 0 ≤ (entG a b c).2.2.2 ∧ (entG a b c).2.2.2 ≤ 1) := by
 unfold entG
 split<;>exact ⟨rfl,by simp [axb],by dsimp only;omega⟩
theorem stepG_ok {a : aqr} {b : az5} {m : Nat} {out : List EntT} (c : azx) (h : okG m out) : okG (m + 1) (axr a b out c) := by
 unfold axr
 split
 ·rw [bj5]
  refine ⟨Nat.le_trans (bj7 _ _) (by have:=h.1;omega),fun y hy=>?_⟩
  have hb:=(ckp a b c).2.2
  rcases cko _ hy with hy|rfl|⟨x,hx,rfl,-⟩
  ·have:=h.2 y hy
   omega
  ·omega
  ·have:=h.2 x hx
   unfold ajb
   dsimp only
   omega
 ·exact h.le (Nat.le_succ _)
theorem bxe {a : aqr} {b : az5} : ∀ (l : List azx) {m : Nat} {out : List EntT}, okG m out → okG (m + l.length) (l.foldl (axr a b) out)
 | [],_,_,h=>h
 | c :: l,m,out,h=>by
   rw [List.foldl_cons,List.length_cons,show m + (l.length + 1)=m + 1 + l.length by omega]
   exact bxe l (stepG_ok c h)
def gC (a : aqr) (b : az5) (c : azx) : Int × Int := if mB a b c then (if eB a b c then (1, 0) else (0, 1)) else (0, 0)
theorem entG_gC {a : aqr} {b : az5} {c : azx} (h : mB a b c = true) : gC a b c = ((entG a b c).2.2.1, (entG a b c).2.2.2) := by
 unfold gC entG
 rw [if_pos h]
 split<;>rfl
def azG (out : List EntT) : Prop := asc out ∧ ∀ e ∈ out, axb e = false
theorem stepG_az {a : aqr} {b : az5} {out : List EntT} (c : azx) (h : azG out) : azG (axr a b out c) := by
 unfold axr
 split
 ·rw [bj5]
  refine ⟨bxc _ h.1,fun y hy=>?_⟩
  rcases cko _ hy with hy|rfl|⟨x,hx,-,hz⟩
  ·exact h.2 y hy
  ·exact (ckp a b c).2.1
  ·exact hz
 ·exact h
theorem stepG_val {a : aqr} {b : az5} {out : List EntT} (c d : azx) (h : azG out) : valT (axr a b out c) d = ((valT out d).1 + (if d = c then (gC a b c).1 else 0), (valT out d).2 + (if d = c then (gC a b c).2 else 0)) := by
 unfold axr
 split
 ·rename_i hm
  rw [bj5,czc _ _ h.1,(ckp a b c).1,entG_gC hm]
  split<;>simp
 ·rename_i hm
  have : gC a b c=(0,0):=by unfold gC;rw [if_neg hm]
  rw [this]
  simp
theorem cx2 {a : aqr} {b : az5} (d : azx) : ∀ (l : List azx) {out : List EntT}, l.Nodup → azG out → azG (l.foldl (axr a b) out) ∧ valT (l.foldl (axr a b) out) d = ((valT out d).1 + (if d ∈ l then (gC a b d).1 else 0), (valT out d).2 + (if d ∈ l then (gC a b d).2 else 0))
 | [],out,_,h=>by simp [h]
 | c :: l,out,hn,h=>by
   rw [List.nodup_cons] at hn
   obtain ⟨i1,i2⟩:=cx2 d l hn.2 (stepG_az (a:=a) (b:=b) c h)
   rw [List.foldl_cons]
   refine ⟨i1,?_⟩
   rw [i2,stepG_val c d h]
   by_cases hd : d=c
   ·subst hd
    simp [hn.1]
   ·simp [hd]
theorem inR_sq {p : PtT} {v : VecT} {c : azx} {t : Int × Int} : inR p v (sqR c) t ↔ inC p v c t := by
 unfold inR inC sqR inD
 exact Iff.rfl
theorem mB_met {a : aqr} {b : az5} (hp : ptB (a.1, a.2.1)) (hb : -1 ≤ b.2 ∧ b.2 ≤ 1024) (c : azx) : mB a b c = true ↔ c ∈ metL (a.1, a.2.1) (axs a.2.2 b.1) b := by
 unfold mB
 rw [bvr (aja _ _) (bzp hb).1,ckn hp (aja _ _) hb]
 simp only [inR_sq]
theorem eB_ends {a : aqr} {b : az5} (hp : ptB (a.1, a.2.1)) (hb : -1 ≤ b.2 ∧ b.2 ≤ 1024) (c : azx) : eB a b c = true ↔ c ∈ bqt (a.1, a.2.1) (axs a.2.2 b.1) b := by
 unfold eB
 rw [Bool.and_eq_true,bvr (aja _ _) (Int.le_refl _),cwe hp (aja _ _) hb]
 simp only [inR_sq,Bool.not_eq_true',decide_eq_false_iff_not]
 refine and_congr_left fun _=>?_
 omega
theorem gC_cont {a : aqr} {b : az5} (hp : ptB (a.1, a.2.1)) (hb : -1 ≤ b.2 ∧ b.2 ≤ 1024) (c : azx) : gC a b c = bqc a b c := by
 have h1:=mB_met hp hb c
 have h2:=eB_ends hp hb c
 have h3:=count_of (met_nodup (a.1,a.2.1) (axs a.2.2 b.1) b) c
 have h4:=fun h=>ends_met (c:=c) hp (aja a.2.2 b.1) hb h
 unfold gC bqc cj3
 by_cases q2 : c∈bqt (a.1,a.2.1) (axs a.2.2 b.1) b
 ·rw [if_pos q2,if_pos (h1.2 (h4 q2)),if_pos (h2.2 q2),h3,if_pos (h4 q2)]
  rfl
 ·rw [if_neg q2,if_neg (show ¬ eB a b c=true from fun h=>q2 (h2.1 h)),h3]
  by_cases q1 : c∈metL (a.1,a.2.1) (axs a.2.2 b.1) b
  ·rw [if_pos (h1.2 q1),if_pos q1]
   rfl
  ·rw [if_neg (fun h=>q1 (h1.1 h)),if_neg q1]
   rfl
theorem cx3 {x a D far n e k : Int} (hD : 1 ≤ D) (ha : -D ≤ a ∧ a ≤ D) (he : 0 < e) (hn : 0 ≤ n) (h2 : n * D ≤ far * e)
 (g1 : k * 64 * e≤x * e + n * a) (g2 : x * e + n * a≤(k * 64 + 64) * e) : k * 64≤x + far∧x - far≤k * 64 + 64:=by
 have e1 : n * a≤n * D:=Int.mul_le_mul_of_nonneg_left ha.2 hn
 have e2 : n * (-D)≤n * a:=Int.mul_le_mul_of_nonneg_left ha.1 hn
 rw [Int.mul_neg] at e2
 constructor
 ·rw [← ajo he,Int.add_mul]
  omega
 ·rw [← ajo he,Int.sub_mul]
  omega
theorem met_grid {a : aqr} {b : az5} (hp : ptB (a.1, a.2.1)) (hb : -1 ≤ b.2 ∧ b.2 ≤ 1024) {c : azx} (h : c ∈ metL (a.1, a.2.1) (axs a.2.2 b.1) b) : c ∈ cx1 a b := by
 obtain ⟨t,a1,a2,a3,a4,a5⟩:=(ckn hp (aja _ _) hb).1 h
 have hv:=aja a.2.2 b.1
 have hv':=hv
 simp only [vecB,Bool.and_eq_true,aqo] at hv'
 obtain ⟨⟨v1,v2,v3,v4,v5,v6⟩,-⟩:=hv'
 obtain ⟨x1,x2⟩:=cx3 v1 ⟨v3,v4⟩ a1 a2 a5 a3.1.1 a3.1.2
 obtain ⟨y1,y2⟩:=cx3 v1 ⟨v5,v6⟩ a1 a2 a5 a3.2.1 a3.2.2
 have hr:=bzp hb
 unfold cx1
 rw [bwy]
 unfold kB
 dsimp only at *
 refine ⟨rfl,?_,?_⟩<;>omega
theorem beamG_val {a : aqr} {b : az5} (hp : ptB (a.1, a.2.1)) (hb : -1 ≤ b.2 ∧ b.2 ≤ 1024) (d : azx) {out : List EntT} (h : azG out) :
 azG (awe a out b)∧valT (awe a out b) d=((valT out d).1 + (bqc a b d).1,(valT out d).2 + (bqc a b d).2):=by
 obtain ⟨i1,i2⟩:=cx2 (a:=a) (b:=b) d (cx1 a b) (bqb _ _ _ _ _) h
 refine ⟨i1,?_⟩
 unfold awe
 rw [i2,gC_cont hp hb]
 by_cases hd : d∈cx1 a b
 ·rw [if_pos hd,if_pos hd]
 ·rw [if_neg hd,if_neg hd]
  have : bqc a b d=(0,0):=Classical.byContradiction fun hc=>hd (met_grid hp hb (cq4 hc))
  rw [this]
theorem ofG_val {a : aqr} (hp : ptB (a.1, a.2.1)) (d : azx) : ∀ (s : List az5) {out : List EntT}, (∀ b ∈ s, -1 ≤ b.2 ∧ b.2 ≤ 1024) → azG out →
 azG (s.foldl (awe a) out)∧valT (s.foldl (awe a) out) d=((valT out d).1 + (awc a s d).1,(valT out d).2 + (awc a s d).2)
 | [],out,_,h=>by simp [h,awc]
 | b :: s,out,hb,h=>by
   obtain ⟨i1,i2⟩:=beamG_val hp (hb b (List.mem_cons_self ..)) d h
   obtain ⟨j1,j2⟩:=ofG_val hp d s (fun x hx=>hb x (List.mem_cons_of_mem _ hx)) i1
   rw [List.foldl_cons]
   refine ⟨j1,?_⟩
   rw [j2,i2]
   unfold awc
   simp only [List.map_cons,List.sum_cons,Int.add_assoc]
theorem ofG_eq {a : aqr} {s : List az5} (h : ofOk a s = true) : ofG a s = (ofE a s).1 := by
 have hp : ptB (a.1,a.2.1):=by
  obtain ⟨h1,h2,-⟩:=bwz h
  have:=ajc h1
  have:=ajc h2
  unfold ptB
  dsimp only
  omega
 have hb : ∀ b∈s,-1≤b.2∧b.2≤1024:=fun b hb=>by
  have:=bw0 (bwz h).2.2 hb
  omega
 have haz:=fun d=>ofG_val hp d s (out:=[]) hb ⟨by simp [asc],by simp⟩
 refine Rep.unique (rep_asc (haz (0,0)).1.1 (haz (0,0)).1.2) (ofE_rep h).1 fun d=>?_
 have:=(haz d).2
 have e0 : valT [] d=(0,0):=aq2 (by simp)
 rw [e0] at this
 simpa [ofG] using this
end Go.Proofs.YtlnplelandimeaaGreat.En
end
