import Derived.Test.YtlnplelandimeaaGreatZFleetViews08
set_option linter.all false
section
namespace Go.Proofs.YtlnplelandimeaaGreat.En
open Go.RowKit
set_option maxRecDepth 100000
theorem ax2 {a b A B : Int} (h1 : -A ≤ a ∧ a ≤ A) (h2 : -B ≤ b ∧ b ≤ B) : -(A * B) ≤ a * b ∧ a * b ≤ A * B := by
 have hA : 0≤A:=by omega
 have hB : 0≤B:=by omega
 have ha : a.natAbs≤A.natAbs:=by omega
 have hb : b.natAbs≤B.natAbs:=by omega
 have h : (a * b).natAbs≤(A * B).natAbs:=by
  rw [Int.natAbs_mul,Int.natAbs_mul]
  exact Nat.mul_le_mul ha hb
 have hAB : 0≤A * B:=Int.mul_nonneg hA hB
 omega
abbrev PtT := Int × Int
abbrev VecT := Int × Int × Int
abbrev aqv := Int × Int × Int × Int
abbrev SpT := Int × Int × Int × Int
def bqs (n : Int) : Bool := decide (-2097152 ≤ n) && decide (n ≤ 2097152)
def ptL (p : PtT) : Bool := bqs p.1 && bqs p.2
def aj8 (r : aqv) : Bool := bqs r.1 && bqs r.2.1 && bqs r.2.2.1 && bqs r.2.2.2 && decide (r.1 ≤ r.2.2.1) && decide (r.2.1 ≤ r.2.2.2)
def bwn (v : VecT) : Bool := decide (1 ≤ v.2.2) && decide (v.2.2 ≤ 67108864) && decide (-v.2.2 ≤ v.1) && decide (v.1 ≤ v.2.2) && decide (-v.2.2 ≤ v.2.1) && decide (v.2.1 ≤ v.2.2)
def vecB (v : VecT) : Bool := bwn v && decide (v.1 * v.1 + v.2.1 * v.2.1 = v.2.2 * v.2.2)
theorem axq {n : Int} : bqs n = true ↔ -2097152 ≤ n ∧ n ≤ 2097152 := by simp [bqs]
theorem aqo {v : VecT} : bwn v = true ↔ 1 ≤ v.2.2 ∧ v.2.2 ≤ 67108864 ∧ -v.2.2 ≤ v.1 ∧ v.1 ≤ v.2.2 ∧ -v.2.2 ≤ v.2.1 ∧ v.2.1 ≤ v.2.2 := by
 simp only [bwn,Bool.and_eq_true,decide_eq_true_eq]
 omega
theorem near_d (n : Int) : PureX Tryz.prog 215 [I n] (B (bqs n)) := by
 refine PureX.of Tryz.func215 rfl aza rfl rfl rfl (by simp [SV.wfs,SV.wf]) (by simp [SV.wfs,SV.wf]) fun w=>?_
 (conv=>whnf);repeat' (first|with_reducible exact rfl|((with_reducible refine aze (by assumption) ?_);conv=>whnf)|((with_reducible refine azd ?_ ?_)<;>(intro hb;(try simp (disch:=omega) only [hbS] at hb)<;>conv=>whnf)))
 all_goals refine azk rfl ?_ trivial
 all_goals refine congrArg (fun b=>SV.v (Value.bool b)) ?_
 all_goals rw [Bool.eq_iff_iff,axq]
 all_goals try simp only [decide_eq_true_eq,Bool.false_eq_true,false_iff]
 all_goals omega
theorem B_eq {a b : Bool} (h : a = b) : B a = B b := by rw [h]
theorem bk0 (p : PtT) : PureX Tryz.prog 216 [.a [I p.1, I p.2]] (B (ptL p)) := by
 refine PureX.of Tryz.func216 rfl aza rfl rfl rfl (by simp [SV.wfs,SV.wf]) (by simp [SV.wfs,SV.wf]) fun w=>?_
 (conv=>whnf);repeat' (first|((with_reducible refine isC ?_);first|((with_reducible refine azb (near_d _) ?_)<;>first|omega|with_reducible refine isP ?_|conv=>whnf))|with_reducible exact rfl|((with_reducible refine aze (by assumption) ?_);conv=>whnf)|((with_reducible refine azd ?_ ?_)<;>(intro hb;(try simp (disch:=omega) only [hbS] at hb)<;>conv=>whnf)))
 all_goals refine azk rfl (B_eq ?_) trivial
 all_goals simp [ptL,hb]
theorem ak4 (r : aqv) : PureX Tryz.prog 206 [.a [I r.1, I r.2.1, I r.2.2.1, I r.2.2.2]] (B (aj8 r)) := by
 refine PureX.of Tryz.func206 rfl aza rfl rfl rfl (by simp [SV.wfs,SV.wf]) (by simp [SV.wfs,SV.wf]) fun w=>?_
 (conv=>whnf);repeat' (first|((with_reducible refine isC ?_);first|((with_reducible refine azb (near_d _) ?_)<;>first|omega|with_reducible refine isP ?_|conv=>whnf))|with_reducible exact rfl|((with_reducible refine aze (by assumption) ?_);conv=>whnf)|((with_reducible refine azd ?_ ?_)<;>(intro hb;(try simp (disch:=omega) only [hbS] at hb)<;>conv=>whnf)))
 all_goals refine azk rfl (B_eq ?_) trivial
 all_goals first|(simp_all [aj8];done)|(simp_all [aj8];omega)
theorem cvb {v : VecT} (h : bwn v = true) : (-4503599627370496 ≤ v.1 * v.1 ∧ v.1 * v.1 ≤ 4503599627370496) ∧ (-4503599627370496 ≤ v.2.1 * v.2.1 ∧ v.2.1 * v.2.1 ≤ 4503599627370496) ∧ (-4503599627370496 ≤ v.2.2 * v.2.2 ∧ v.2.2 * v.2.2 ≤ 4503599627370496) := by
 rw [aqo] at h
 exact ⟨ax2 (A:=67108864) (B:=67108864) (by omega) (by omega),ax2 (A:=67108864) (B:=67108864) (by omega) (by omega),ax2 (A:=67108864) (B:=67108864) (by omega) (by omega)⟩
theorem bjb (v : VecT) : PureX Tryz.prog 217 [.a [I v.1, I v.2.1, I v.2.2]] (B (vecB v)) := by
 cases h : bwn v with
 | true =>
   obtain ⟨q1,q2,q3⟩:=cvb h
   have h':=aqo.1 h
   refine PureX.of Tryz.func217 rfl aza rfl rfl rfl (by simp [SV.wfs,SV.wf]) (by simp [SV.wfs,SV.wf]) fun w=>?_
   (conv=>whnf);repeat' (first|((with_reducible refine isW ?_;first|refine azg (by omega) (by omega) ?_|refine azc ?_);conv=>whnf)|with_reducible exact rfl|((with_reducible refine aze (by assumption) ?_);conv=>whnf)|((with_reducible refine azd ?_ ?_)<;>(intro hb;(try simp (disch:=omega) only [hbS] at hb)<;>conv=>whnf)))
   all_goals try (exfalso;omega)
   all_goals refine azk rfl (B_eq ?_) trivial
   all_goals simp [vecB,h]
   all_goals rfl
 | false =>
   have h':=(Bool.eq_false_iff.1 h)
   rw [ne_eq,aqo] at h'
   refine PureX.of Tryz.func217 rfl aza rfl rfl rfl (by simp [SV.wfs,SV.wf]) (by simp [SV.wfs,SV.wf]) fun w=>?_
   (conv=>whnf);repeat' (first|((with_reducible refine isW ?_;first|refine azg (by omega) (by omega) ?_|refine azc ?_);conv=>whnf)|with_reducible exact rfl|((with_reducible refine aze (by assumption) ?_);conv=>whnf)|((with_reducible refine azd ?_ ?_)<;>(intro hb;(try simp (disch:=omega) only [hbS] at hb)<;>conv=>whnf)))
   all_goals try (exfalso;omega)
   all_goals refine azk rfl (B_eq ?_) trivial
   all_goals simp [vecB,h]
def aj9 (a b : Int × Int) : Bool := decide (a.1 * b.2 < b.1 * a.2)
def frB (a : Int × Int) : Prop := -8388608 ≤ a.1 ∧ a.1 ≤ 8388608 ∧ 1 ≤ a.2 ∧ a.2 ≤ 67108864
theorem less_x (a b : Int × Int) (ha : frB a) (hb' : frB b) : PureX Tryz.prog 219 [.a [I a.1, I a.2], .a [I b.1, I b.2]] (B (aj9 a b)) := by
 obtain ⟨a1,a2,a3,a4⟩:=ha
 obtain ⟨b1,b2,b3,b4⟩:=hb'
 have h1:=ax2 (a:=a.1) (b:=b.2) (A:=8388608) (B:=67108864) (by omega) (by omega)
 have h2:=ax2 (a:=b.1) (b:=a.2) (A:=8388608) (B:=67108864) (by omega) (by omega)
 refine PureX.of Tryz.func219 rfl aza rfl rfl rfl (by simp [SV.wfs,SV.wf]) (by simp [SV.wfs,SV.wf]) fun w=>?_
 (conv=>whnf);repeat' (first|((with_reducible refine isW ?_;first|refine azg (by omega) (by omega) ?_|refine azc ?_);conv=>whnf)|with_reducible exact rfl|((with_reducible refine aze (by assumption) ?_);conv=>whnf)|((with_reducible refine azd ?_ ?_)<;>(intro hb;(try simp (disch:=omega) only [hbS] at hb)<;>conv=>whnf)))
 exact azk rfl rfl trivial
theorem less_e (n1 d1 n2 d2 : Int) (h : -8388608 ≤ n1 ∧ n1 ≤ 8388608 ∧ 1 ≤ d1 ∧ d1 ≤ 67108864 ∧ -8388608 ≤ n2 ∧ n2 ≤ 8388608 ∧ 1 ≤ d2 ∧ d2 ≤ 67108864) : PureX Tryz.prog 219 [.a [I n1, I d1], .a [I n2, I d2]] (B (aj9 (n1, d1) (n2, d2))) :=
 less_x (n1,d1) (n2,d2) ⟨h.1,h.2.1,h.2.2.1,h.2.2.2.1⟩ ⟨h.2.2.2.2.1,h.2.2.2.2.2.1,h.2.2.2.2.2.2.1,h.2.2.2.2.2.2.2⟩
def akk (p d a b : Int) : Int × Int := if d < 0 then (p - b, 0 - d) else (a - p, d)
def akl (p d a b : Int) : Int × Int := if d < 0 then (p - a, 0 - d) else (b - p, d)
def maxF (s l : Int × Int) : Int × Int := if aj9 s l then l else s
def minF (s h : Int × Int) : Int × Int := if aj9 h s then h else s
def axx (s : SpT) (p d a b : Int) : SpT × Bool :=
 if d=0 then (s,decide (a≤p) && decide (p≤b)) else
 (((maxF (s.1,s.2.1) (akk p d a b)).1,(maxF (s.1,s.2.1) (akk p d a b)).2,(minF (s.2.2.1,s.2.2.2) (akl p d a b)).1,(minF (s.2.2.1,s.2.2.2) (akl p d a b)).2),
  !aj9 (minF (s.2.2.1,s.2.2.2) (akl p d a b)) (maxF (s.1,s.2.1) (akk p d a b)))
def spB (s : SpT) : Prop := frB (s.1, s.2.1) ∧ frB (s.2.2.1, s.2.2.2)
theorem cqo {p d a b : Int} (hp : -2097152 ≤ p ∧ p ≤ 2097152) (ha : -2097152 ≤ a ∧ a ≤ 2097152) (hb : -2097152 ≤ b ∧ b ≤ 2097152) (hd : -67108864 ≤ d ∧ d ≤ 67108864) (h0 : d ≠ 0) : frB (akk p d a b) := by
 unfold akk frB
 split<;>dsimp only<;>omega
theorem cqp {p d a b : Int} (hp : -2097152 ≤ p ∧ p ≤ 2097152) (ha : -2097152 ≤ a ∧ a ≤ 2097152) (hb : -2097152 ≤ b ∧ b ≤ 2097152) (hd : -67108864 ≤ d ∧ d ≤ 67108864) (h0 : d ≠ 0) : frB (akl p d a b) := by
 unfold akl frB
 split<;>dsimp only<;>omega
theorem maxF_fr {s l : Int × Int} (h1 : frB s) (h2 : frB l) : frB (maxF s l) := by
 unfold maxF
 split<;>assumption
theorem minF_fr {s l : Int × Int} (h1 : frB s) (h2 : frB l) : frB (minF s l) := by
 unfold minF
 split<;>assumption
theorem slab_m (s : SpT) (p d a b : Int) (hs : spB s) (hp : -2097152 ≤ p ∧ p ≤ 2097152) (ha : -2097152 ≤ a ∧ a ≤ 2097152) (hb0 : -2097152 ≤ b ∧ b ≤ 2097152) (hd : -67108864 ≤ d ∧ d ≤ 67108864) :
 CallM Tryz.prog 218 [.p 0 0,I p,I d,I a,I b] (fun _ _=>True) [.box 245 [I s.1,I s.2.1,I s.2.2.1,I s.2.2.2]] (fun _ : Unit=>B (axx s p d a b).2) (fun _=>[.box 245 [I (axx s p d a b).1.1,I (axx s p d a b).1.2.1,I (axx s p d a b).1.2.2.1,I (axx s p d a b).1.2.2.2]]):=by
 refine CallM.of (m:=1) Tryz.func218 rfl aza rfl rfl rfl rfl (by simp [SV.wfs,SV.wf]) fun w M π _=>?_
 by_cases h0 : d=0
 ·subst h0
  (conv=>whnf);repeat' (first|((with_reducible refine isW ?_;first|refine azg (by omega) (by omega) ?_|refine azc ?_);conv=>whnf)|((first|refine azj aza azt ?_|refine azi (by kernel_rfl) ?_|with_reducible refine azo ?_ ?_)<;>conv=>whnf)|with_reducible exact rfl|((with_reducible refine aze (by assumption) ?_);conv=>whnf)|((with_reducible refine azd ?_ ?_)<;>(intro hb;(try simp (disch:=omega) only [hbS] at hb)<;>conv=>whnf)))
  all_goals refine azv () [0] ⟨?_,by simp [SV.wf,SV.wfs]⟩ ⟨⟨rfl,rfl,by simp [SV.wf,SV.wfs]⟩,trivial⟩ (by decide) rfl
  all_goals refine B_eq ?_
  all_goals simp [axx,hb]
  try omega
 ·obtain ⟨⟨s1,s2,s3,s4⟩,s5,s6,s7,s8⟩:=hs
  dsimp only at s1 s2 s3 s4 s5 s6 s7 s8
  by_cases hn : d < 0
  all_goals (conv=>whnf);repeat' (first|((with_reducible refine isC ?_);first|((with_reducible refine azb (less_e _ _ _ _ ?_) ?_)<;>first|omega|with_reducible refine isP ?_|conv=>whnf))|((with_reducible refine isW ?_;first|refine azg (by omega) (by omega) ?_|refine azc ?_);conv=>whnf)|((first|refine azj aza azt ?_|refine azi (by kernel_rfl) ?_|with_reducible refine azo ?_ ?_)<;>conv=>whnf)|with_reducible exact rfl|((with_reducible refine aze (by assumption) ?_);conv=>whnf)|((with_reducible refine azd ?_ ?_)<;>(intro hb;(try simp (disch:=omega) only [hbS] at hb)<;>conv=>whnf)))
  all_goals try (exfalso;omega)
  all_goals
   rename_i hb1
   simp only [axx,akk,akl,h0,hn,if_false,if_true,maxF,minF,hb1,hb,Bool.false_eq_true]
   exact azv () [0] ⟨rfl,by simp [SV.wf,SV.wfs]⟩ ⟨⟨rfl,rfl,by simp [SV.wf,SV.wfs]⟩,trivial⟩ (by decide) rfl
theorem bwo {s : SpT} {p d a b : Int} (hs : spB s) (hp : -2097152 ≤ p ∧ p ≤ 2097152) (ha : -2097152 ≤ a ∧ a ≤ 2097152) (hb : -2097152 ≤ b ∧ b ≤ 2097152) (hd : -67108864 ≤ d ∧ d ≤ 67108864) : spB (axx s p d a b).1 := by
 unfold axx
 split
 ·exact hs
 ·rename_i h0
  exact ⟨maxF_fr hs.1 (cqo hp ha hb hd h0),minF_fr hs.2 (cqp hp ha hb hd h0)⟩
def sp0 : SpT := (0, 1, 8388608, 1)
theorem sp0_sp : spB sp0 := by
 unfold spB frB sp0
 decide
def ax9 (p : PtT) (v : VecT) (r : aqv) : Bool := ptL p && vecB v && aj8 r
def az0 (p : PtT) (v : VecT) (r : aqv) : SpT × Bool :=
 if ax9 p v r then
  if (axx sp0 p.1 v.1 r.1 r.2.2.1).2 then
   if (axx (axx sp0 p.1 v.1 r.1 r.2.2.1).1 p.2 v.2.1 r.2.1 r.2.2.2).2 then ((axx (axx sp0 p.1 v.1 r.1 r.2.2.1).1 p.2 v.2.1 r.2.1 r.2.2.2).1,true) else ((0,0,0,0),false)
  else ((0,0,0,0),false)
 else ((0,0,0,0),false)
theorem ak5 {p : PtT} {v : VecT} {r : aqv} (h : ax9 p v r = true) : ((-2097152 ≤ p.1 ∧ p.1 ≤ 2097152) ∧ (-2097152 ≤ p.2 ∧ p.2 ≤ 2097152)) ∧ ((-67108864 ≤ v.1 ∧ v.1 ≤ 67108864) ∧ (-67108864 ≤ v.2.1 ∧ v.2.1 ≤ 67108864) ∧ 1 ≤ v.2.2 ∧ v.2.2 ≤ 67108864) ∧
 ((-2097152≤r.1∧r.1≤2097152)∧(-2097152≤r.2.1∧r.2.1≤2097152)∧(-2097152≤r.2.2.1∧r.2.2.1≤2097152)∧(-2097152≤r.2.2.2∧r.2.2.2≤2097152)):=by
 simp only [ax9,ptL,vecB,aj8,Bool.and_eq_true,axq,aqo,decide_eq_true_eq] at h
 omega
set_option maxHeartbeats 1000000 in
theorem through_x (p : PtT) (v : VecT) (r : aqv) : PureX Tryz.prog 207 [.a [I p.1, I p.2], .a [I v.1, I v.2.1, I v.2.2], .a [I r.1, I r.2.1, I r.2.2.1, I r.2.2.2]] (.t [.a [I (az0 p v r).1.1, I (az0 p v r).1.2.1, I (az0 p v r).1.2.2.1, I (az0 p v r).1.2.2.2], B (az0 p v r).2]) := by
 cases h : ax9 p v r with
 | false =>
   have e : az0 p v r=((0,0,0,0),false):=by simp only [az0,h,Bool.false_eq_true,if_false]
   rw [e]
   refine PureX.of Tryz.func207 rfl aza rfl rfl rfl (by simp [SV.wfs,SV.wf]) (by simp [SV.wfs,SV.wf]) fun w=>?_
   (conv=>whnf);repeat' (first|((with_reducible refine isC ?_);first|((first|with_reducible refine azb (bk0 (_,_)) ?_|with_reducible refine azb (bjb (_,_,_)) ?_|with_reducible refine azb (ak4 (_,_,_,_)) ?_)<;>first|omega|with_reducible refine isP ?_|conv=>whnf))|with_reducible exact rfl|((with_reducible refine aze (by assumption) ?_);conv=>whnf)|((with_reducible refine azd ?_ ?_)<;>(intro hb;(try simp (disch:=omega) only [hbS] at hb)<;>conv=>whnf)))
   all_goals first
    | exact azk rfl rfl (by simp [SV.wf,SV.wfs])
    | (exfalso;simp_all [ax9];done)
    | trace_state
 | true =>
   obtain ⟨⟨p1,p2⟩,⟨v1,v2,v3,v4⟩,r1,r2,r3,r4⟩:=ak5 h
   have c1:=slab_m sp0 p.1 v.1 r.1 r.2.2.1 sp0_sp p1 r1 r3 v1
   have hs1:=bwo (s:=sp0) sp0_sp p1 r1 r3 v1
   have c2:=slab_m (axx sp0 p.1 v.1 r.1 r.2.2.1).1 p.2 v.2.1 r.2.1 r.2.2.2 hs1 p2 r2 r4 v2
   unfold az0
   rw [h,if_pos rfl]
   generalize axx sp0 p.1 v.1 r.1 r.2.2.1=s1 at *
   generalize axx s1.1 p.2 v.2.1 r.2.1 r.2.2.2=s2 at *
   simp only [ax9,Bool.and_eq_true] at h
   obtain ⟨⟨g1,g2⟩,g3⟩:=h
   refine PureX.of Tryz.func207 rfl aza rfl rfl rfl (by simp [SV.wfs,SV.wf]) (by simp [SV.wfs,SV.wf]) fun w=>?_
   (conv=>whnf);repeat' (first|((with_reducible refine isC ?_);first|((first|with_reducible refine azb (bk0 (_,_)) ?_|with_reducible refine azb (bjb (_,_,_)) ?_|with_reducible refine azb (ak4 (_,_,_,_)) ?_)<;>first|omega|with_reducible refine isP ?_|conv=>whnf)|(refine azl c1 [4] rfl ⟨⟨rfl,rfl,by simp [SV.wf,SV.wfs]⟩,trivial⟩ (by decide) (fun _ _ _ _=>trivial) ?_;intro p;conv=>whnf)|(refine azl c2 [4] rfl ⟨⟨rfl,rfl,by simp [SV.wf,SV.wfs]⟩,trivial⟩ (by decide) (fun _ _ _ _=>trivial) ?_;intro p;conv=>whnf))|with_reducible exact rfl|((with_reducible refine aze (by assumption) ?_);conv=>whnf)|((with_reducible refine azd ?_ ?_)<;>(intro hb;(try simp (disch:=omega) only [hbS] at hb)<;>conv=>whnf)))
   ·exact (Bool.false_ne_true (hb.symm.trans g1)).elim
   ·exact (Bool.false_ne_true (hb.symm.trans g2)).elim
   ·exact (Bool.false_ne_true (hb.symm.trans g3)).elim
   ·simp only [hb,Bool.false_eq_true,if_false]
    exact azk rfl rfl (by simp [SV.wf,SV.wfs])
   ·rename_i h1
    simp only [h1,hb,Bool.false_eq_true,if_false,if_true]
    exact azk rfl rfl (by simp [SV.wf,SV.wfs])
   ·rename_i h1
    simp only [h1,hb,if_true]
    exact azk rfl rfl (by simp [SV.wf,SV.wfs])
def cqq (p : PtT) (v : VecT) (lo hi : Int) (r : aqv) : Bool :=
 decide (0≤lo) && decide (lo≤hi) && decide (hi≤65536) && (az0 p v r).2 && decide (lo * (az0 p v r).1.2.2.2≤(az0 p v r).1.2.2.1 * v.2.2) && decide ((az0 p v r).1.1 * v.2.2≤hi * (az0 p v r).1.2.1)
theorem bk1 {p : PtT} {v : VecT} {r : aqv} (h : (az0 p v r).2 = true) : spB (az0 p v r).1 ∧ ax9 p v r = true := by
 cases h0 : ax9 p v r with
 | false=>simp only [az0,h0,Bool.false_eq_true,if_false] at h
 | true =>
   obtain ⟨⟨p1,p2⟩,⟨v1,v2,v3,v4⟩,r1,r2,r3,r4⟩:=ak5 h0
   have hs1:=bwo (s:=sp0) sp0_sp p1 r1 r3 v1
   have hs2:=bwo (s:=(axx sp0 p.1 v.1 r.1 r.2.2.1).1) hs1 p2 r2 r4 v2
   refine ⟨?_,rfl⟩
   unfold az0 at h ⊢
   rw [h0,if_pos rfl] at h ⊢
   split
   ·rename_i h1
    rw [if_pos h1] at h
    split
    ·exact hs2
    ·rename_i h2
     rw [if_neg h2] at h
     cases h
   ·rename_i h1
    rw [if_neg h1] at h
    cases h
theorem Meets_x (p : PtT) (v : VecT) (lo hi : Int) (r : aqv) : PureX Tryz.prog 199 [.a [I p.1, I p.2], .a [I v.1, I v.2.1, I v.2.2], I lo, I hi, .a [I r.1, I r.2.1, I r.2.2.1, I r.2.2.2]] (B (cqq p v lo hi r)) := by
 have ht:=through_x p v r
 unfold cqq
 by_cases hg : 0≤lo∧lo≤hi∧hi≤65536
 ·obtain ⟨g1,g2,g3⟩:=hg
  cases h : (az0 p v r).2 with
  | false =>
    rw [h] at ht
    refine PureX.of Tryz.func199 rfl aza rfl rfl rfl (by simp [SV.wfs,SV.wf]) (by simp [SV.wfs,SV.wf]) fun w=>?_
    (conv=>whnf);repeat' (first|((with_reducible refine isC ?_);first|((with_reducible refine azb (ht) ?_)<;>first|omega|with_reducible refine isP ?_|conv=>whnf))|((with_reducible refine isW ?_;first|refine azg (by omega) (by omega) ?_|refine azc ?_);conv=>whnf)|with_reducible exact rfl|((with_reducible refine aze (by assumption) ?_);conv=>whnf)|((with_reducible refine azd ?_ ?_)<;>(intro hb;(try simp (disch:=omega) only [hbS] at hb)<;>conv=>whnf)))
    all_goals try (exfalso;omega)
    exact azk rfl (by simp) trivial
  | true =>
    obtain ⟨⟨⟨b1,b2,b3,b4⟩,b5,b6,b7,b8⟩,hab⟩:=bk1 h
    obtain ⟨_,⟨_,_,v3,v4⟩,_⟩:=ak5 hab
    rw [h] at ht
    generalize (az0 p v r).1=s at *
    dsimp only at b1 b2 b3 b4 b5 b6 b7 b8
    have m1:=ax2 (a:=lo) (b:=s.2.2.2) (A:=65536) (B:=67108864) (by omega) (by omega)
    have m2:=ax2 (a:=s.2.2.1) (b:=v.2.2) (A:=8388608) (B:=67108864) (by omega) (by omega)
    have m3:=ax2 (a:=s.1) (b:=v.2.2) (A:=8388608) (B:=67108864) (by omega) (by omega)
    have m4:=ax2 (a:=hi) (b:=s.2.1) (A:=65536) (B:=67108864) (by omega) (by omega)
    refine PureX.of Tryz.func199 rfl aza rfl rfl rfl (by simp [SV.wfs,SV.wf]) (by simp [SV.wfs,SV.wf]) fun w=>?_
    (conv=>whnf);repeat' (first|((with_reducible refine isC ?_);first|((with_reducible refine azb (ht) ?_)<;>first|omega|with_reducible refine isP ?_|conv=>whnf))|((with_reducible refine isW ?_;first|refine azg (by omega) (by omega) ?_|refine azc ?_);conv=>whnf)|with_reducible exact rfl|((with_reducible refine aze (by assumption) ?_);conv=>whnf)|((with_reducible refine azd ?_ ?_)<;>(intro hb;(try simp (disch:=omega) only [hbS] at hb)<;>conv=>whnf)))
    all_goals try (exfalso;omega)
    all_goals refine azk rfl (B_eq ?_) trivial
    all_goals first|(simp [g1,g2,g3,hb];done)|(simp [g1,g2,g3,hb];omega)
 ·refine PureX.of Tryz.func199 rfl aza rfl rfl rfl (by simp [SV.wfs,SV.wf]) (by simp [SV.wfs,SV.wf]) fun w=>?_
  (conv=>whnf);repeat' (first|((with_reducible refine isW ?_;first|refine azg (by omega) (by omega) ?_|refine azc ?_);conv=>whnf)|with_reducible exact rfl|((with_reducible refine aze (by assumption) ?_);conv=>whnf)|((with_reducible refine azd ?_ ?_)<;>(intro hb;(try simp (disch:=omega) only [hbS] at hb)<;>conv=>whnf)))
  all_goals first
   | (refine azk rfl (B_eq ?_) trivial;symm;rw [Bool.eq_false_iff];intro hx;simp only [Bool.and_eq_true,decide_eq_true_eq] at hx;omega)
   | (exfalso;omega)
theorem Minus_x (q r : aqv) (h1 : aj8 q = true) (h2 : aj8 r = true) : PureX Tryz.prog 197 [.a [I q.1, I q.2.1, I q.2.2.1, I q.2.2.2], .a [I r.1, I r.2.1, I r.2.2.1, I r.2.2.2]]
 (if aj8 (q.1 - r.2.2.1,q.2.1 - r.2.2.2,q.2.2.1 - r.1,q.2.2.2 - r.2.1) then .t [.a [I (q.1 - r.2.2.1),I (q.2.1 - r.2.2.2),I (q.2.2.1 - r.1),I (q.2.2.2 - r.2.1)],B true] else .t [.a [I 0,I 0,I 0,I 0],B false]):=by
 have b1:=h1
 have b2:=h2
 simp only [aj8,Bool.and_eq_true,axq,decide_eq_true_eq] at b1 b2
 cases h : aj8 (q.1 - r.2.2.1,q.2.1 - r.2.2.2,q.2.2.1 - r.1,q.2.2.2 - r.2.1) with
 | true =>
   rw [if_pos rfl]
   refine PureX.of Tryz.func197 rfl aza rfl rfl rfl (by simp [SV.wfs,SV.wf]) (by simp [SV.wfs,SV.wf]) fun w=>?_
   (conv=>whnf);repeat' (first|((with_reducible refine isC ?_);first|((with_reducible refine azb (ak4 (_,_,_,_)) ?_)<;>first|omega|with_reducible refine isP ?_|conv=>whnf))|((with_reducible refine isW ?_;first|refine azg (by omega) (by omega) ?_|refine azc ?_);conv=>whnf)|with_reducible exact rfl|((with_reducible refine aze (by assumption) ?_);conv=>whnf)|((with_reducible refine azd ?_ ?_)<;>(intro hb;(try simp (disch:=omega) only [hbS] at hb)<;>conv=>whnf)))
   all_goals first
    | exact azk rfl rfl (by simp [SV.wf,SV.wfs])
    | exact (Bool.false_ne_true (hb.symm.trans h1)).elim
    | exact (Bool.false_ne_true (hb.symm.trans h2)).elim
    | exact (Bool.false_ne_true (hb.symm.trans h)).elim
 | false =>
   rw [if_neg (by simp)]
   refine PureX.of Tryz.func197 rfl aza rfl rfl rfl (by simp [SV.wfs,SV.wf]) (by simp [SV.wfs,SV.wf]) fun w=>?_
   (conv=>whnf);repeat' (first|((with_reducible refine isC ?_);first|((with_reducible refine azb (ak4 (_,_,_,_)) ?_)<;>first|omega|with_reducible refine isP ?_|conv=>whnf))|((with_reducible refine isW ?_;first|refine azg (by omega) (by omega) ?_|refine azc ?_);conv=>whnf)|with_reducible exact rfl|((with_reducible refine aze (by assumption) ?_);conv=>whnf)|((with_reducible refine azd ?_ ?_)<;>(intro hb;(try simp (disch:=omega) only [hbS] at hb)<;>conv=>whnf)))
   all_goals first
    | exact azk rfl rfl (by simp [SV.wf,SV.wfs])
    | exact (Bool.false_ne_true (hb.symm.trans h1)).elim
    | exact (Bool.false_ne_true (hb.symm.trans h2)).elim
    | exact (Bool.false_ne_true (h.symm.trans hb)).elim
end Go.Proofs.YtlnplelandimeaaGreat.En
end
