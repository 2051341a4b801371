import Derived.Test.YtlnplelandimeaaGreatZFleetViews29
set_option linter.all false
section
namespace Go.Proofs.YtlnplelandimeaaGreat.En
open Go.RowKit
set_option maxRecDepth 100000
theorem bzo {α : Type} (key : α → List Int) (o : Option α) (v : α) : mxO key o v = some v ∨ mxO key o v = o := by
 cases o with
 | none=>exact .inl rfl
 | some u =>
   unfold mxO
   dsimp only
   split
   ·exact .inl rfl
   ·exact .inr rfl
theorem cxk {a : AtT} (h : ajj a) (k : Int) (s : BmsT) : ajj (putA a k s) := by
 unfold putA
 split
 ·rename_i hc
  simp only [Bool.and_eq_true] at hc
  intro i
  refine ⟨fun t ht=>?_,(h i).2⟩
  unfold updF at ht
  dsimp only at ht
  by_cases e : i=k
  ·rw [if_pos e] at ht
   subst e
   rcases bzo keyS (a.1 i) s with hm|hm
   ·rw [hm] at ht
    obtain rfl:=Option.some.inj ht
    exact hc
   ·rw [hm] at ht
    exact (h i).1 t ht
  ·rw [if_neg e] at ht
   exact (h i).1 t ht
 ·exact h
theorem cxl {a : AtT} (h : ajj a) (k : Int) (s : PlT) : ajj (plcA a k s) := by
 unfold plcA
 split
 ·rename_i hc
  simp only [Bool.and_eq_true] at hc
  intro i
  refine ⟨(h i).1,fun t ht=>?_⟩
  unfold updF at ht
  dsimp only at ht
  by_cases e : i=k
  ·rw [if_pos e] at ht
   subst e
   rcases bzo keyP (a.2 i) s with hm|hm
   ·rw [hm] at ht
    obtain rfl:=Option.some.inj ht
    exact hc
   ·rw [hm] at ht
    exact (h i).2 t ht
  ·rw [if_neg e] at ht
   exact (h i).2 t ht
 ·exact h
theorem awr {α : Type} (key : α → List Int) (o p : Option α) : akp key o p = p ∨ akp key o p = o := by
 cases p with
 | none=>exact .inr rfl
 | some v=>exact bzo key o v
theorem bjs {a b : AtT} (h : ajj a) (h' : ajj b) : ajj (bzh a b) := by
 intro i
 constructor
 ·intro t ht
  have ht : akp keyS (a.1 i) (b.1 i)=some t:=ht
  rcases awr keyS (a.1 i) (b.1 i) with e|e<;>rw [e] at ht
  ·exact (h' i).1 t ht
  ·exact (h i).1 t ht
 ·intro t ht
  have ht : akp keyP (a.2 i) (b.2 i)=some t:=ht
  rcases awr keyP (a.2 i) (b.2 i) with e|e<;>rw [e] at ht
  ·exact (h' i).2 t ht
  ·exact (h i).2 t ht
theorem put_abs {m : List (Int × SlT)} {q : List (Int × PlT)} {k : Int} {s : BmsT} (r : PutI m k s) : absM (r.1, q) = putA (absM (m, q)) k s := by
 unfold absM putA
 dsimp only
 rw [r.2.2]
 split<;>rfl
theorem plc_abs {m : List (Int × SlT)} {q : List (Int × PlT)} {k : Int} {p : PlT} (r : PlcI q k p) : absM (m, r.1) = plcA (absM (m, q)) k p := by
 unfold absM plcA
 dsimp only
 rw [r.2]
 split<;>rfl
set_option maxHeartbeats 2000000 in
theorem cv0 (b : Nat) (c : CoT) (S : SnT) (i : Nat) (hi : i < 8) (hme : S.me = i) (k : Int) (A : Option Addr) (cc : Nat) (s : BmsT) {n : Nat} (hl : s.length = n) (hn : n ≤ maxLen) :
 CallM Tryz.prog 42 [pR b,I k,.v (.slice A n cc)] (fun w M=>ArgN w M A n 2 (s.map encBm)) [stO b c S allT] (fun _ : Unit=>I (putC k s)) (fun _=>[stO b c { S with ats:=updN S.ats i (putA (S.ats i) k s) } allT]):=by
 refine CallM.of (m:=1) Tryz.func42 rfl aza rfl rfl rfl rfl (by simp [SV.wfs,SV.wf]) fun w M π hpre=>?_
 (conv=>whnf);repeat' (first|((with_reducible refine isV ?_);first|((refine azs (n:=8) (sz:=1) aza rfl Tryz.underlying94 rfl rfl ?_ ?_ ?_)<;>first|omega|conv=>whnf)|((refine azs (n:=8) (sz:=8) aza rfl Tryz.underlying97 rfl rfl ?_ ?_ ?_)<;>first|omega|conv=>whnf)|((refine azs (n:=8) (sz:=1) aza rfl Tryz.underlying96 rfl rfl ?_ ?_ ?_)<;>first|omega|conv=>whnf)|(refine bzm 0 i aza rfl rfl rfl rfl hme ?_;conv=>whnf)|(refine avr 0 i _ aza rfl rfl rfl rfl hi rfl ?_;conv=>whnf))|((first|refine azj aza azt ?_|refine azi (by kernel_rfl) ?_|with_reducible refine azo ?_ ?_)<;>conv=>whnf)|with_reducible exact rfl|((with_reducible refine aze (by assumption) ?_);conv=>whnf)|((with_reducible refine azd ?_ ?_)<;>(intro hb;(try simp (disch:=omega) only [hbS] at hb)<;>conv=>whnf)))
 (refine ajl (b:=b) (c:=c) (S:=S) [.p 1 0,I k,.v (.slice A n cc)] 0 i 1 ?_ ?_ ?_ hi (ajk hi) ?_ ?_ ?_);(focus (exact Entr.of Tryz.func38 rfl rfl));(focus rfl);(focus rfl);(focus (simp [SV.wf,SV.wfs]));(focus (intro σ h;simp [SV.vals,SV.val,ptP,h]))
 intro b1 b2 m q hok hab hg
 conv=>whnf
 refine azl (Put_m b1 b2 m q k A cc s hl hn hok) [1,2,3] rfl ⟨⟨rfl,rfl,by simp [SV.wf,SV.wfs]⟩,fun _ _ h=>h,fun _ _ h=>h,trivial⟩ (by decide) (ArgN.on hpre (by decide) (m:=3) (r:=[1,2,3]) (fun j hj=>by rcases (by omega : j=0∨j=1∨j=2) with rfl|rfl|rfl<;>simp)) ?_
 intro r
 have e : absM (r.1,q)=putA (S.ats i) k s:=(put_abs r).trans (by rw [hab])
 conv=>whnf
 refine ⟨b1,b2,r.1,q,rfl,rfl,rfl,rfl,r.2.1,by rw [e];exact cxk hg _ _,?_⟩
 rw [e]
 (conv=>whnf);repeat' (first|((first|refine azj aza azt ?_|refine azi (by kernel_rfl) ?_|with_reducible refine azo ?_ ?_)<;>conv=>whnf)|with_reducible exact rfl|((with_reducible refine aze (by assumption) ?_);conv=>whnf)|((with_reducible refine azd ?_ ?_)<;>(intro hb;(try simp (disch:=omega) only [hbS] at hb)<;>conv=>whnf)))
 exact azv () [0] ⟨rfl,by simp [SV.wf,SV.wfs]⟩ ⟨fun _ _ h=>h,trivial⟩ (by decide) rfl
set_option maxHeartbeats 2000000 in
theorem bq8 (b : Nat) (c : CoT) (S : SnT) (i : Nat) (hi : i < 8) (hme : S.me = i) (k : Int) (p : PlT) :
 CallM Tryz.prog 43 [pR b,I k,plX p] (fun _ _=>True) [stO b c S allT] (fun _ : Unit=>I (plcC k p)) (fun _=>[stO b c { S with ats:=updN S.ats i (plcA (S.ats i) k p) } allT]):=by
 refine CallM.of (m:=1) Tryz.func43 rfl aza rfl rfl rfl rfl (by simp [SV.wfs,SV.wf]) fun w M π _=>?_
 (conv=>whnf);repeat' (first|((with_reducible refine isV ?_);first|((refine azs (n:=8) (sz:=1) aza rfl Tryz.underlying94 rfl rfl ?_ ?_ ?_)<;>first|omega|conv=>whnf)|((refine azs (n:=8) (sz:=8) aza rfl Tryz.underlying97 rfl rfl ?_ ?_ ?_)<;>first|omega|conv=>whnf)|((refine azs (n:=8) (sz:=1) aza rfl Tryz.underlying96 rfl rfl ?_ ?_ ?_)<;>first|omega|conv=>whnf)|(refine bzm 0 i aza rfl rfl rfl rfl hme ?_;conv=>whnf)|(refine avr 0 i _ aza rfl rfl rfl rfl hi rfl ?_;conv=>whnf))|((first|refine azj aza azt ?_|refine azi (by kernel_rfl) ?_|with_reducible refine azo ?_ ?_)<;>conv=>whnf)|with_reducible exact rfl|((with_reducible refine aze (by assumption) ?_);conv=>whnf)|((with_reducible refine azd ?_ ?_)<;>(intro hb;(try simp (disch:=omega) only [hbS] at hb)<;>conv=>whnf)))
 (refine ajl (b:=b) (c:=c) (S:=S) [.p 2 0,I k,plX p] 0 i 2 ?_ ?_ ?_ hi (ajk hi) ?_ ?_ ?_);(focus (exact Entr.of Tryz.func84 rfl rfl));(focus rfl);(focus rfl);(focus (simp [SV.wf,SV.wfs]));(focus (intro σ h;simp [SV.vals,SV.val,ptP,h]))
 intro b1 b2 m q hok hab hg
 conv=>whnf
 refine azl (bjj b1 b2 m q k p) [2,3,4] rfl ⟨⟨rfl,rfl,by simp [SV.wf,SV.wfs]⟩,fun _ _ h=>h,fun _ _ h=>h,trivial⟩ (by decide) (fun _ _ _ _=>trivial) ?_
 intro r
 have e : absM (m,r.1)=plcA (S.ats i) k p:=(plc_abs r).trans (by rw [hab])
 conv=>whnf
 refine ⟨b1,b2,m,r.1,rfl,rfl,rfl,rfl,hok,by rw [e];exact cxl hg _ _,?_⟩
 rw [e]
 (conv=>whnf);repeat' (first|((first|refine azj aza azt ?_|refine azi (by kernel_rfl) ?_|with_reducible refine azo ?_ ?_)<;>conv=>whnf)|with_reducible exact rfl|((with_reducible refine aze (by assumption) ?_);conv=>whnf)|((with_reducible refine azd ?_ ?_)<;>(intro hb;(try simp (disch:=omega) only [hbS] at hb)<;>conv=>whnf)))
 exact azv () [0] ⟨rfl,by simp [SV.wf,SV.wfs]⟩ ⟨fun _ _ h=>h,trivial⟩ (by decide) rfl
theorem fMe_m (b : Nat) (c : CoT) (S : SnT) : CallM Tryz.prog 39 [pR b] (fun _ _ => True) [stO b c S allT] (fun _ : Unit => I S.me) (fun _ => [stO b c S allT]) := by
 refine CallM.of (m:=1) Tryz.func39 rfl aza rfl rfl rfl rfl (by simp [SV.wfs,SV.wf]) fun w M π _=>?_
 (conv=>whnf);repeat' (first|((with_reducible refine isV ?_);first|(refine bzm 0 _ aza rfl rfl rfl rfl rfl ?_;conv=>whnf))|with_reducible exact rfl|((with_reducible refine aze (by assumption) ?_);conv=>whnf)|((with_reducible refine azd ?_ ?_)<;>(intro hb;(try simp (disch:=omega) only [hbS] at hb)<;>conv=>whnf)))
 exact azv () [0] ⟨rfl,by simp [SV.wf,SV.wfs]⟩ ⟨fun _ _ h=>h,trivial⟩ (by decide) rfl
def aqs (x : RelT) : RelT := if x.2.1 < x.1 then (x.2.1, x.1, ((invF x.2.2).1 % 4, (invF x.2.2).2.1, (invF x.2.2).2.2)) else (x.1, x.2.1, (x.2.2.1 % 4, x.2.2.2.1, x.2.2.2.2))
def setR (S : SnT) (u v : Nat) (f : Fr) : SnT := { S with rel := upd2 S.rel u v (mxO keyF (S.rel u v) f) }
def axe (S : SnT) (x : RelT) : SnT := setR S (aqs x).1.toNat (aqs x).2.1.toNat (aqs x).2.2
theorem cxm {α : Type} (f : Nat → Nat → α) (x y : Nat) : upd2 f x y (f x y) = f := by
 funext i j
 unfold upd2
 split
 ·rename_i h
  rw [h.1,h.2]
 ·rfl
theorem cxn {S : SnT} {u v : Nat} {f : Fr} (h : S.rel u v = none) : setR S u v f = { S with rel := upd2 S.rel u v (some f) } := by
 unfold setR
 rw [h]
 rfl
theorem setR_gt {S : SnT} {u v : Nat} {f g : Fr} (h : S.rel u v = some g) (hl : 0 < lexC (keyF f) (keyF g)) : setR S u v f = { S with rel := upd2 S.rel u v (some f) } := by
 unfold setR
 rw [h]
 unfold mxO
 dsimp only
 rw [if_pos hl]
theorem setR_le {S : SnT} {u v : Nat} {f g : Fr} (h : S.rel u v = some g) (hl : ¬ 0 < lexC (keyF f) (keyF g)) : setR S u v f = S := by
 unfold setR
 have : mxO keyF (S.rel u v) f=S.rel u v:=by
  rw [h]
  unfold mxO
  dsimp only
  rw [if_neg hl]
 rw [this,cxm]
abbrev relX (x : RelT) : SV := .a [I x.1, I x.2.1, I x.2.2.1, I x.2.2.2.1, I x.2.2.2.2]
theorem av7 {x : RelT} (h : aq1 x = true) : (0 ≤ x.1 ∧ x.1 < 8) ∧ (0 ≤ x.2.1 ∧ x.2.1 < 8) ∧ x.1 ≠ x.2.1 ∧ (-1024 ≤ x.2.2.2.1 ∧ x.2.2.2.1 ≤ 1024) ∧ (-1024 ≤ x.2.2.2.2 ∧ x.2.2.2.2 ≤ 1024) := by
 unfold aq1 rbB szB at h
 simp at h
 omega
set_option maxHeartbeats 4000000 in
theorem bw6 (b : Nat) (c : CoT) (S : SnT) (x : RelT) (hx : aq1 x = true) :
 CallM Tryz.prog 76 [pR b,relX x] (fun _ _=>True) [stO b c S allT] (fun _ : Nat→Nat→Nat=>.t []) (fun rp=>[stO b { c with rp:=rp } (axe S x) allT]):=by
 obtain ⟨h1,h2,hne,h3,h4⟩:=av7 hx
 obtain ⟨u,hu'⟩:=Int.eq_ofNat_of_zero_le h1.1
 obtain ⟨v,hv'⟩:=Int.eq_ofNat_of_zero_le h2.1
 obtain ⟨a,a2,qq,xx,yy⟩:=x
 dsimp only at h1 h2 hne h3 h4 hu' hv'
 subst hu' hv'
 have hu : u < 8:=by omega
 have hv : v < 8:=by omega
 have ki:=Inverse_x 1024 (qq,xx,yy) (by dsimp only;omega) (by omega)
 unfold relX
 dsimp only at ki ⊢
 refine CallM.of (m:=1) Tryz.func76 rfl aza rfl rfl rfl rfl (by simp [SV.wfs,SV.wf]) fun w M π _=>?_
 by_cases hgt : (v : Int) < u
 ·skip
  have hset : axe S ((u : Int),(v : Int),qq,xx,yy)=setR S v u ((invF (qq,xx,yy)).1 % 4,(invF (qq,xx,yy)).2.1,(invF (qq,xx,yy)).2.2):=by unfold axe aqs;dsimp only;rw [if_pos (by omega)];simp only [Int.toNat_natCast]
  rw [hset]
  clear hset
  rcases ax3 (S.rel v u) with hn|⟨g,hs⟩
  ·rw [cxn hn]
   (conv=>whnf);repeat' (first|((with_reducible refine isC ?_);first|((with_reducible refine azb (ki) ?_)<;>first|omega|with_reducible refine isP ?_|conv=>whnf))|((with_reducible refine isV ?_);first|((refine azs (n:=8) (sz:=1) aza rfl Tryz.underlying94 rfl rfl ?_ ?_ ?_)<;>first|omega|conv=>whnf)|((refine azs (n:=8) (sz:=8) aza rfl Tryz.underlying97 rfl rfl ?_ ?_ ?_)<;>first|omega|conv=>whnf)|((refine azs (n:=8) (sz:=1) aza rfl Tryz.underlying96 rfl rfl ?_ ?_ ?_)<;>first|omega|conv=>whnf)|(refine aj5 0 v u none aza rfl rfl rfl rfl hv hu (by unfold relP;rw [hn];rfl) ?_;(try simp only [and3]);(try conv=>whnf)))|((with_reducible refine isO ?_);first|(refine bzn 0 1 v u ((invF (qq,xx,yy)).1 % 4,(invF (qq,xx,yy)).2.1,(invF (qq,xx,yy)).2.2) (by decide) aza rfl rfl rfl rfl rfl hv hu ?_;intro g;conv=>whnf))|((first|refine azj aza azt ?_|refine azi (by kernel_rfl) ?_|with_reducible refine azo ?_ ?_)<;>conv=>whnf)|with_reducible exact rfl|((with_reducible refine aze (by assumption) ?_);conv=>whnf)|((with_reducible refine azd ?_ ?_)<;>(intro hb;(try simp (disch:=omega) only [hbS] at hb)<;>conv=>whnf)))
   all_goals try (exfalso;omega)
   exact azv _ [0] ⟨rfl,by simp [SV.wf,SV.wfs]⟩ ⟨fun _ _ h=>h,trivial⟩ (by decide) rfl
  ·have kg:=bjr ((invF (qq,xx,yy)).1 % 4,(invF (qq,xx,yy)).2.1,(invF (qq,xx,yy)).2.2) g
   have hcase : (0 < lexC (keyF ((invF (qq,xx,yy)).1 % 4,(invF (qq,xx,yy)).2.1,(invF (qq,xx,yy)).2.2)) (keyF g)→setR S v u ((invF (qq,xx,yy)).1 % 4,(invF (qq,xx,yy)).2.1,(invF (qq,xx,yy)).2.2) = { S with rel:=upd2 S.rel v u (some ((invF (qq,xx,yy)).1 % 4,(invF (qq,xx,yy)).2.1,(invF (qq,xx,yy)).2.2)) })∧(¬ 0 < lexC (keyF ((invF (qq,xx,yy)).1 % 4,(invF (qq,xx,yy)).2.1,(invF (qq,xx,yy)).2.2)) (keyF g)→setR S v u ((invF (qq,xx,yy)).1 % 4,(invF (qq,xx,yy)).2.1,(invF (qq,xx,yy)).2.2)=S):=⟨setR_gt hs,setR_le hs⟩
   generalize lexC (keyF ((invF (qq,xx,yy)).1 % 4,(invF (qq,xx,yy)).2.1,(invF (qq,xx,yy)).2.2)) (keyF g)=L at *
   by_cases hL : 0 < L
   ·rw [hcase.1 hL]
    rw [decide_eq_true hL] at kg
    clear hcase
    (conv=>whnf);repeat' (first|((with_reducible refine isC ?_);first|((first|with_reducible refine azb (ki) ?_|with_reducible refine aq3 (kg) ?_)<;>first|omega|with_reducible refine isP ?_|conv=>whnf))|((with_reducible refine isV ?_);first|((refine azs (n:=8) (sz:=1) aza rfl Tryz.underlying94 rfl rfl ?_ ?_ ?_)<;>first|omega|conv=>whnf)|((refine azs (n:=8) (sz:=8) aza rfl Tryz.underlying97 rfl rfl ?_ ?_ ?_)<;>first|omega|conv=>whnf)|((refine azs (n:=8) (sz:=1) aza rfl Tryz.underlying96 rfl rfl ?_ ?_ ?_)<;>first|omega|conv=>whnf)|(refine aj5 0 v u (some ⟨c.rp v u,2,none⟩) aza rfl rfl rfl rfl hv hu (by unfold relP;rw [hs];rfl) ?_;(try simp only [and3]);(try conv=>whnf))|(refine avs 0 v u g aza rfl rfl rfl rfl rfl hv hu hs ?_;conv=>whnf))|((with_reducible refine isO ?_);first|(refine bzn 0 1 v u ((invF (qq,xx,yy)).1 % 4,(invF (qq,xx,yy)).2.1,(invF (qq,xx,yy)).2.2) (by decide) aza rfl rfl rfl rfl rfl hv hu ?_;intro g;conv=>whnf))|((first|refine azj aza azt ?_|refine azi (by kernel_rfl) ?_|with_reducible refine azo ?_ ?_)<;>conv=>whnf)|with_reducible exact rfl|((with_reducible refine aze (by assumption) ?_);conv=>whnf)|((with_reducible refine azd ?_ ?_)<;>(intro hb;(try simp (disch:=omega) only [hbS] at hb)<;>conv=>whnf)))
    all_goals try (exfalso;omega)
    exact azv _ [0] ⟨rfl,by simp [SV.wf,SV.wfs]⟩ ⟨fun _ _ h=>h,trivial⟩ (by decide) rfl
   ·rw [hcase.2 hL]
    rw [decide_eq_false hL] at kg
    clear hcase
    (conv=>whnf);repeat' (first|((with_reducible refine isC ?_);first|((first|with_reducible refine azb (ki) ?_|with_reducible refine aq3 (kg) ?_)<;>first|omega|with_reducible refine isP ?_|conv=>whnf))|((with_reducible refine isV ?_);first|((refine azs (n:=8) (sz:=1) aza rfl Tryz.underlying94 rfl rfl ?_ ?_ ?_)<;>first|omega|conv=>whnf)|((refine azs (n:=8) (sz:=8) aza rfl Tryz.underlying97 rfl rfl ?_ ?_ ?_)<;>first|omega|conv=>whnf)|((refine azs (n:=8) (sz:=1) aza rfl Tryz.underlying96 rfl rfl ?_ ?_ ?_)<;>first|omega|conv=>whnf)|(refine aj5 0 v u (some ⟨c.rp v u,2,none⟩) aza rfl rfl rfl rfl hv hu (by unfold relP;rw [hs];rfl) ?_;(try simp only [and3]);(try conv=>whnf))|(refine avs 0 v u g aza rfl rfl rfl rfl rfl hv hu hs ?_;conv=>whnf))|((first|refine azj aza azt ?_|refine azi (by kernel_rfl) ?_|with_reducible refine azo ?_ ?_)<;>conv=>whnf)|with_reducible exact rfl|((with_reducible refine aze (by assumption) ?_);conv=>whnf)|((with_reducible refine azd ?_ ?_)<;>(intro hb;(try simp (disch:=omega) only [hbS] at hb)<;>conv=>whnf)))
    all_goals try (exfalso;omega)
    exact azv c.rp [0] ⟨rfl,by simp [SV.wf,SV.wfs]⟩ ⟨fun _ _ h=>h,trivial⟩ (by decide) rfl
 ·skip
  have hset : axe S ((u : Int),(v : Int),qq,xx,yy)=setR S u v (qq % 4,xx,yy):=by unfold axe aqs;dsimp only;rw [if_neg (by omega)];simp only [Int.toNat_natCast]
  rw [hset]
  clear hset
  rcases ax3 (S.rel u v) with hn|⟨g,hs⟩
  ·rw [cxn hn]
   (conv=>whnf);repeat' (first|((with_reducible refine isV ?_);first|((refine azs (n:=8) (sz:=1) aza rfl Tryz.underlying94 rfl rfl ?_ ?_ ?_)<;>first|omega|conv=>whnf)|((refine azs (n:=8) (sz:=8) aza rfl Tryz.underlying97 rfl rfl ?_ ?_ ?_)<;>first|omega|conv=>whnf)|((refine azs (n:=8) (sz:=1) aza rfl Tryz.underlying96 rfl rfl ?_ ?_ ?_)<;>first|omega|conv=>whnf)|(refine aj5 0 u v none aza rfl rfl rfl rfl hu hv (by unfold relP;rw [hn];rfl) ?_;(try simp only [and3]);(try conv=>whnf)))|((with_reducible refine isO ?_);first|(refine bzn 0 1 u v (qq % 4,xx,yy) (by decide) aza rfl rfl rfl rfl rfl hu hv ?_;intro g;conv=>whnf))|((first|refine azj aza azt ?_|refine azi (by kernel_rfl) ?_|with_reducible refine azo ?_ ?_)<;>conv=>whnf)|with_reducible exact rfl|((with_reducible refine aze (by assumption) ?_);conv=>whnf)|((with_reducible refine azd ?_ ?_)<;>(intro hb;(try simp (disch:=omega) only [hbS] at hb)<;>conv=>whnf)))
   all_goals try (exfalso;omega)
   exact azv _ [0] ⟨rfl,by simp [SV.wf,SV.wfs]⟩ ⟨fun _ _ h=>h,trivial⟩ (by decide) rfl
  ·have kg:=bjr (qq % 4,xx,yy) g
   have hcase : (0 < lexC (keyF (qq % 4,xx,yy)) (keyF g)→setR S u v (qq % 4,xx,yy) = { S with rel:=upd2 S.rel u v (some (qq % 4,xx,yy)) })∧(¬ 0 < lexC (keyF (qq % 4,xx,yy)) (keyF g)→setR S u v (qq % 4,xx,yy)=S):=⟨setR_gt hs,setR_le hs⟩
   generalize lexC (keyF (qq % 4,xx,yy)) (keyF g)=L at *
   by_cases hL : 0 < L
   ·rw [hcase.1 hL]
    rw [decide_eq_true hL] at kg
    clear hcase
    (conv=>whnf);repeat' (first|((with_reducible refine isC ?_);first|((with_reducible refine aq3 (kg) ?_)<;>first|omega|with_reducible refine isP ?_|conv=>whnf))|((with_reducible refine isV ?_);first|((refine azs (n:=8) (sz:=1) aza rfl Tryz.underlying94 rfl rfl ?_ ?_ ?_)<;>first|omega|conv=>whnf)|((refine azs (n:=8) (sz:=8) aza rfl Tryz.underlying97 rfl rfl ?_ ?_ ?_)<;>first|omega|conv=>whnf)|((refine azs (n:=8) (sz:=1) aza rfl Tryz.underlying96 rfl rfl ?_ ?_ ?_)<;>first|omega|conv=>whnf)|(refine aj5 0 u v (some ⟨c.rp u v,2,none⟩) aza rfl rfl rfl rfl hu hv (by unfold relP;rw [hs];rfl) ?_;(try simp only [and3]);(try conv=>whnf))|(refine avs 0 u v g aza rfl rfl rfl rfl rfl hu hv hs ?_;conv=>whnf))|((with_reducible refine isO ?_);first|(refine bzn 0 1 u v (qq % 4,xx,yy) (by decide) aza rfl rfl rfl rfl rfl hu hv ?_;intro g;conv=>whnf))|((first|refine azj aza azt ?_|refine azi (by kernel_rfl) ?_|with_reducible refine azo ?_ ?_)<;>conv=>whnf)|with_reducible exact rfl|((with_reducible refine aze (by assumption) ?_);conv=>whnf)|((with_reducible refine azd ?_ ?_)<;>(intro hb;(try simp (disch:=omega) only [hbS] at hb)<;>conv=>whnf)))
    all_goals try (exfalso;omega)
    exact azv _ [0] ⟨rfl,by simp [SV.wf,SV.wfs]⟩ ⟨fun _ _ h=>h,trivial⟩ (by decide) rfl
   ·rw [hcase.2 hL]
    rw [decide_eq_false hL] at kg
    clear hcase
    (conv=>whnf);repeat' (first|((with_reducible refine isC ?_);first|((with_reducible refine aq3 (kg) ?_)<;>first|omega|with_reducible refine isP ?_|conv=>whnf))|((with_reducible refine isV ?_);first|((refine azs (n:=8) (sz:=1) aza rfl Tryz.underlying94 rfl rfl ?_ ?_ ?_)<;>first|omega|conv=>whnf)|((refine azs (n:=8) (sz:=8) aza rfl Tryz.underlying97 rfl rfl ?_ ?_ ?_)<;>first|omega|conv=>whnf)|((refine azs (n:=8) (sz:=1) aza rfl Tryz.underlying96 rfl rfl ?_ ?_ ?_)<;>first|omega|conv=>whnf)|(refine aj5 0 u v (some ⟨c.rp u v,2,none⟩) aza rfl rfl rfl rfl hu hv (by unfold relP;rw [hs];rfl) ?_;(try simp only [and3]);(try conv=>whnf))|(refine avs 0 u v g aza rfl rfl rfl rfl rfl hu hv hs ?_;conv=>whnf))|((first|refine azj aza azt ?_|refine azi (by kernel_rfl) ?_|with_reducible refine azo ?_ ?_)<;>conv=>whnf)|with_reducible exact rfl|((with_reducible refine aze (by assumption) ?_);conv=>whnf)|((with_reducible refine azd ?_ ?_)<;>(intro hb;(try simp (disch:=omega) only [hbS] at hb)<;>conv=>whnf)))
    all_goals try (exfalso;omega)
    exact azv c.rp [0] ⟨rfl,by simp [SV.wf,SV.wfs]⟩ ⟨fun _ _ h=>h,trivial⟩ (by decide) rfl
theorem bq9 (b : Nat) (c : CoT) (S : SnT) (x : RelT) : CallM Tryz.prog 41 [pR b, relX x] (fun _ _ => True) [stO b c S allT] (fun _ : Nat → Nat → Nat => I (if aq1 x then 0 else 1)) (fun rp => [stO b { c with rp := rp } (if aq1 x then axe S x else S) allT]) := by
 obtain ⟨a,a2,qq,xx,yy⟩:=x
 have k1:=akf a
 have k2:=akf a2
 have k3:=cvy xx
 have k4:=cvy yy
 have kt:=bw6 b c S (a,a2,qq,xx,yy)
 unfold relX at kt ⊢
 dsimp only at kt ⊢
 have hao : aq1 (a,a2,qq,xx,yy)=(rbB a && rbB a2 && !(a == a2) && szB xx 1024 && szB yy 1024):=rfl
 refine CallM.of (m:=1) Tryz.func41 rfl aza rfl rfl rfl rfl (by simp [SV.wfs,SV.wf]) fun w M π _=>?_
 rcases Bool.eq_false_or_eq_true (aq1 (a,a2,qq,xx,yy)) with h|h
 ·have kt:=kt h
  rw [h]
  rw [hao] at h
  simp only [Bool.and_eq_true] at h
  obtain ⟨⟨⟨⟨e1,e2⟩,e3⟩,e4⟩,e5⟩:=h
  rw [e1] at k1
  rw [e2] at k2
  rw [e4] at k3
  rw [e5] at k4
  have e3 : ¬ a=a2:=by simpa using e3
  (conv=>whnf);repeat' (first|((with_reducible refine isC ?_);first|((first|with_reducible refine azb (k1) ?_|with_reducible refine azb (k2) ?_|with_reducible refine azb (k3) ?_|with_reducible refine azb (k4) ?_)<;>first|omega|with_reducible refine isP ?_|conv=>whnf)|(((with_reducible refine isF 76 ?_);(refine azl kt [0] rfl ⟨fun _ _ h=>h,trivial⟩ (by decide) (fun _ _ _ _=>trivial) ?_;intro rp));conv=>whnf))|with_reducible exact rfl|((with_reducible refine aze (by assumption) ?_);conv=>whnf)|((with_reducible refine azd ?_ ?_)<;>(intro hb;(try simp (disch:=omega) only [hbS] at hb)<;>conv=>whnf)))
  all_goals try (exfalso;omega)
  all_goals try (exfalso;exact e3 hb;done)
  exact azv rp [0] ⟨rfl,by simp [SV.wf,SV.wfs]⟩ ⟨fun _ _ h=>h,trivial⟩ (by decide) rfl
 ·rw [h]
  rw [hao] at h
  generalize rbB a=g1 at *
  generalize rbB a2=g2 at *
  generalize szB xx 1024=g3 at *
  generalize szB yy 1024=g4 at *
  (conv=>whnf);repeat' (first|((with_reducible refine isC ?_);first|((first|with_reducible refine azb (k1) ?_|with_reducible refine azb (k2) ?_|with_reducible refine azb (k3) ?_|with_reducible refine azb (k4) ?_)<;>first|omega|with_reducible refine isP ?_|conv=>whnf))|with_reducible exact rfl|((with_reducible refine aze (by assumption) ?_);conv=>whnf)|((with_reducible refine azd ?_ ?_)<;>(intro hb;(try simp (disch:=omega) only [hbS] at hb)<;>conv=>whnf)))
  all_goals first
   | exact azv c.rp [0] ⟨rfl,by simp [SV.wf,SV.wfs]⟩ ⟨fun _ _ h=>h,trivial⟩ (by decide) rfl
   | (exfalso;simp_all;done)
def prs (S : SnT) (t : Nat) : Option RelT := (S.rel (t / 8) (t % 8)).map fun f => (((t / 8 : Nat) : Int), ((t % 8 : Nat) : Int), f)
def aqt (S : SnT) (n : Nat) : List RelT := (List.range n).filterMap (prs S)
def aqj (S : SnT) : List RelT := aqt S 64
theorem aws {S : SnT} {n : Nat} (h : prs S n = none) : aqt S (n + 1) = aqt S n := by
 unfold aqt
 rw [List.range_succ,List.filterMap_append]
 simp [h]
theorem avc {S : SnT} {n : Nat} {x : RelT} (h : prs S n = some x) : aqt S (n + 1) = aqt S n ++ [x] := by
 unfold aqt
 rw [List.range_succ,List.filterMap_append]
 simp [h]
theorem prs_at {S : SnT} {x y : Nat} (hy : y < 8) : prs S (8 * x + y) = (S.rel x y).map fun f => ((x : Int), (y : Int), f) := by
 unfold prs
 rw [show (8 * x + y) / 8=x by omega,show (8 * x + y) % 8=y by omega]
theorem axu (S : SnT) (n : Nat) : (aqt S n).length ≤ n := by
 unfold aqt
 exact Nat.le_trans (List.length_filterMap_le _ _) (by simp)
def rowV (c : CoT) (S : SnT) (x : Nat) : List Value := [.pointer (relP c S x 0), .pointer (relP c S x 1), .pointer (relP c S x 2), .pointer (relP c S x 3), .pointer (relP c S x 4), .pointer (relP c S x 5), .pointer (relP c S x 6), .pointer (relP c S x 7)]
theorem row_of (c : CoT) (S : SnT) {x : Nat} (hx : x < 8) : ((bw5 c S).drop (x * 8)).take 8 = rowV c S x := by
 rcases (by omega : x=0∨x=1∨x=2∨x=3∨x=4∨x=5∨x=6∨x=7) with rfl|rfl|rfl|rfl|rfl|rfl|rfl|rfl<;>rfl
theorem row_at (c : CoT) (S : SnT) (x : Nat) {y : Nat} (hy : y < 8) : ((rowV c S x).drop (y * 1)).take 1 = [.pointer (relP c S x y)] := by
 rcases (by omega : y=0∨y=1∨y=2∨y=3∨y=4∨y=5∨y=6∨y=7) with rfl|rfl|rfl|rfl|rfl|rfl|rfl|rfl<;>rfl
theorem cv1 (c : CoT) {y : Nat} (hy : y < 8) : ((ptsL c).drop (y * 1)).take 1 = [.pointer (ptP c y)] := by
 rcases (by omega : y=0∨y=1∨y=2∨y=3∨y=4∨y=5∨y=6∨y=7) with rfl|rfl|rfl|rfl|rfl|rfl|rfl|rfl<;>rfl
set_option maxHeartbeats 4000000 in
theorem avd (b : Nat) (c : CoT) (S : SnT) (H : Nat → Bool) : CallM Tryz.prog 35 [pR b] (fun _ _ => True) [stO b c S H]
 (fun q : Option Addr × Nat=>.v (.slice q.1 (aqj S).length q.2)) (fun q=>[stO b c S H,.row 39 5 q.1 (aqj S).length q.2 ((aqj S).map encR)]):=by
 refine CallM.of (m:=1) Tryz.func35 rfl aza rfl rfl rfl rfl (by simp [SV.wfs,SV.wf]) fun w M π _=>?_
 (conv=>whnf);repeat' (first|((with_reducible refine isV ?_);first|(refine ckb 0 aza rfl rfl rfl rfl rfl ?_;conv=>whnf))|((with_reducible refine isO ?_);first|((first|(refine azh aza rfl rfl rfl ?_);intro bN|(refine azm aza rfl rfl rfl rfl rfl ?_);intro bN);conv=>whnf))|((with_reducible refine isW ?_;first|refine azg (by omega) (by omega) ?_|refine azc ?_);conv=>whnf)|with_reducible exact rfl|((with_reducible refine aze (by assumption) ?_);conv=>whnf)|((with_reducible refine azd ?_ ?_)<;>(intro hb;(try simp (disch:=omega) only [hbS] at hb)<;>conv=>whnf)))
 refine aql 39 5 ?_
 conv=>whnf
 refine azr aza (α:=Nat × Option Addr × Nat) (fun s=>s.1≤8) (fun s=>[(0,pR b),(3,.v (.slice s.2.1 (aqt S (8 * s.1)).length s.2.2)),(14,.a ((bw5 c S).map .v)),(15,I s.1)])
  (fun s=>[stO b c S H,.row 39 5 s.2.1 (aqt S (8 * s.1)).length s.2.2 ((aqt S (8 * s.1)).map encR)]) (fun s=>8 - s.1) (0,none,0) [0,1] (by decide) ?_ ?_
 ·(refine ⟨?_,?_,?_,?_⟩<;>(repeat' ((conv=>whnf);apply And.intro))<;>try (first|exact trivial|decide))
  all_goals first|rfl|exact fun _ _ h=>h|(simp [SV.wf,SV.wfs];done)|trace_state
 ·rintro ⟨x,A,cc⟩ hx
  dsimp only at hx ⊢
  by_cases hlt : x < 8
  ·(conv=>whnf);repeat' (first|((with_reducible refine isV ?_);first|(refine akd (sz:=8) (vs:=bw5 c S) (.a ((rowV c S x).map .v)) aza rfl Tryz.underlying97 rfl rfl (by omega) (by omega) (by simp [bw5]) (congrArg (fun l=>SV.a (l.map .v)) (row_of c S hlt).symm) ?_;conv=>whnf))|((with_reducible refine isO ?_);first|((first|(refine azh aza rfl rfl rfl ?_);intro bN|(refine azm aza rfl rfl rfl rfl rfl ?_);intro bN);conv=>whnf))|((with_reducible refine isW ?_;first|refine azg (by omega) (by omega) ?_|refine azc ?_);conv=>whnf)|with_reducible exact rfl|((with_reducible refine aze (by assumption) ?_);conv=>whnf)|((with_reducible refine azd ?_ ?_)<;>(intro hb;(try simp (disch:=omega) only [hbS] at hb)<;>conv=>whnf)))
   all_goals try (exfalso;omega)
   refine azr aza (α:=Nat × Option Addr × Nat) (fun s=>s.1≤8) (fun s=>[(0,pR b),(3,.v (.slice s.2.1 (aqt S (8 * x + s.1)).length s.2.2)),(4,I x),(14,.a ((bw5 c S).map .v)),(15,I x),(19,.a ((rowV c S x).map .v)),(20,I s.1)])
    (fun s=>[stO b c S H,.row 39 5 s.2.1 (aqt S (8 * x + s.1)).length s.2.2 ((aqt S (8 * x + s.1)).map encR)]) (fun s=>8 - s.1) (0,A,cc) [0,1] (Nat.zero_le _) ?_ ?_
   ·(refine ⟨?_,?_,?_,?_⟩<;>(repeat' ((conv=>whnf);apply And.intro))<;>try (first|exact trivial|decide))
    all_goals first|rfl|exact fun _ _ h=>h|(simp [SV.wf,SV.wfs];done)|trace_state
   ·rintro ⟨y,A,cc⟩ hy
    dsimp only at hy ⊢
    by_cases hlt2 : y < 8
    ·have hp:=prs_at (S:=S) (x:=x) hlt2
     have hl:=axu S (8 * x + y)
     rcases ax3 (S.rel x y) with hn|⟨f,hs⟩
     ·rw [hn] at hp
      have hnx:=aws hp
      generalize aqt S (8 * x + y)=L at *
      (conv=>whnf);repeat' (first|((with_reducible refine isV ?_);first|(refine akd (sz:=1) (vs:=rowV c S x) (.v (.pointer none)) aza rfl Tryz.underlying96 rfl rfl (by omega) (by omega) rfl (by (try dsimp only);rw [Int.toNat_natCast,row_at c S x hlt2];unfold relP;rw [hn];rfl) ?_;conv=>whnf))|((with_reducible refine isO ?_);first|((first|(refine azh aza rfl rfl rfl ?_);intro bN|(refine azm aza rfl rfl rfl rfl rfl ?_);intro bN);conv=>whnf))|((with_reducible refine isW ?_;first|refine azg (by omega) (by omega) ?_|refine azc ?_);conv=>whnf)|with_reducible exact rfl|((with_reducible refine aze (by assumption) ?_);conv=>whnf)|((with_reducible refine azd ?_ ?_)<;>(intro hb;(try simp (disch:=omega) only [hbS] at hb)<;>conv=>whnf)))
      all_goals try (exfalso;omega)
      refine ⟨(y + 1,A,cc),[0,1],by (try dsimp only);omega,?_,by (try dsimp only);omega⟩
      dsimp only
      rw [show 8 * x + (y + 1)=8 * x + y + 1 by omega,hnx]
      (refine ⟨?_,?_,?_,?_⟩<;>(repeat' ((conv=>whnf);apply And.intro))<;>try (first|exact trivial|decide))
      all_goals first|rfl|exact fun _ _ h=>h|(simp [SV.wf,SV.wfs];done)|trace_state
     ·rw [hs] at hp
      have hnx:=avc hp
      generalize aqt S (8 * x + y)=L at *
      (conv=>whnf);repeat' (first|((with_reducible refine isV ?_);first|(refine akd (sz:=1) (vs:=rowV c S x) (.v (.pointer (some ⟨c.rp x y,2,none⟩))) aza rfl Tryz.underlying96 rfl rfl (by omega) (by omega) rfl (by (try dsimp only);rw [Int.toNat_natCast,row_at c S x hlt2];unfold relP;rw [hs];rfl) ?_;conv=>whnf)|(refine avs 0 x y f aza rfl rfl rfl rfl rfl hlt hlt2 hs ?_;conv=>whnf))|((with_reducible refine isO ?_);first|((refine azz 1 aza rfl rfl rfl rfl (ArgSl.row 2 rfl) (by decide) ?_ ?_ ?_)<;>first|omega|(dsimp only;omega)|(intro A' c';conv=>whnf))|((first|(refine azh aza rfl rfl rfl ?_);intro bN|(refine azm aza rfl rfl rfl rfl rfl ?_);intro bN);conv=>whnf))|((with_reducible refine isW ?_;first|refine azg (by omega) (by omega) ?_|refine azc ?_);conv=>whnf)|with_reducible exact rfl|((with_reducible refine aze (by assumption) ?_);conv=>whnf)|((with_reducible refine azd ?_ ?_)<;>(intro hb;(try simp (disch:=omega) only [hbS] at hb)<;>conv=>whnf)))
      all_goals try (exfalso;omega)
      refine ⟨(y + 1,A',c'),[0,1],by (try dsimp only);omega,?_,by (try dsimp only);omega⟩
      dsimp only
      rw [show 8 * x + (y + 1)=8 * x + y + 1 by omega,hnx,List.length_append,List.map_append]
      (refine ⟨?_,?_,?_,?_⟩<;>(repeat' ((conv=>whnf);apply And.intro))<;>try (first|exact trivial|decide))
      all_goals first|rfl|exact fun _ _ h=>h|(simp [SV.wf,SV.wfs];done)|trace_state
    ·obtain rfl : y=8:=by omega
     (conv=>whnf);repeat' (first|((with_reducible refine isO ?_);first|((first|(refine azh aza rfl rfl rfl ?_);intro bN|(refine azm aza rfl rfl rfl rfl rfl ?_);intro bN);conv=>whnf))|((with_reducible refine isW ?_;first|refine azg (by omega) (by omega) ?_|refine azc ?_);conv=>whnf)|with_reducible exact rfl|((with_reducible refine aze (by assumption) ?_);conv=>whnf)|((with_reducible refine azd ?_ ?_)<;>(intro hb;(try simp (disch:=omega) only [hbS] at hb)<;>conv=>whnf)))
     all_goals try (exfalso;omega)
     refine ⟨(x + 1,A,cc),[0,1],by (try dsimp only);omega,?_,by (try dsimp only);omega⟩
     dsimp only
     rw [show 8 * (x + 1)=8 * x + 8 by omega]
     (refine ⟨?_,?_,?_,?_⟩<;>(repeat' ((conv=>whnf);apply And.intro))<;>try (first|exact trivial|decide))
     all_goals first|rfl|exact fun _ _ h=>h|(simp [SV.wf,SV.wfs];done)|trace_state
  ·obtain rfl : x=8:=by omega
   (conv=>whnf);repeat' (first|((with_reducible refine isO ?_);first|((first|(refine azh aza rfl rfl rfl ?_);intro bN|(refine azm aza rfl rfl rfl rfl rfl ?_);intro bN);conv=>whnf))|((with_reducible refine isW ?_;first|refine azg (by omega) (by omega) ?_|refine azc ?_);conv=>whnf)|with_reducible exact rfl|((with_reducible refine aze (by assumption) ?_);conv=>whnf)|((with_reducible refine azd ?_ ?_)<;>(intro hb;(try simp (disch:=omega) only [hbS] at hb)<;>conv=>whnf)))
   all_goals try (exfalso;omega)
   exact azv (A,cc) [0,1] ⟨rfl,by simp [SV.wf,SV.wfs]⟩ ⟨fun _ _ h=>h,⟨rfl,rfl,rfl,rfl,rfl,rfl⟩,trivial⟩ (by decide) rfl
set_option maxHeartbeats 2000000 in
theorem fAtlas_m (b : Nat) (c : CoT) (S : SnT) (i : Nat) (hi : i < 8) : CallM Tryz.prog 37 [pR b, I i] (fun _ _ => True) [stO b c S allT]
 (fun _ : {_r : (Nat × Nat) × StI (S.ats i) // ajj (S.ats i)}=>.p 1 0) (fun r=>[stO b c S allT,atB r.1.1.1 r.1.1.2,scO r.1.1.1 r.1.2.1.1,plO r.1.1.2 r.1.2.1.2]):=by
 have kr:=akf i
 rw [show rbB (i : Int)=true by unfold rbB;exact decide_eq_true (by omega)] at kr
 refine CallM.of (m:=1) Tryz.func37 rfl aza rfl rfl rfl rfl (by simp [SV.wfs,SV.wf]) fun w M π _=>?_
 (conv=>whnf);repeat' (first|((with_reducible refine isC ?_);first|((with_reducible refine azb (kr) ?_)<;>first|omega|with_reducible refine isP ?_|conv=>whnf))|((with_reducible refine isV ?_);first|((refine azs (n:=8) (sz:=1) aza rfl Tryz.underlying94 rfl rfl ?_ ?_ ?_)<;>first|omega|conv=>whnf)|((refine azs (n:=8) (sz:=8) aza rfl Tryz.underlying97 rfl rfl ?_ ?_ ?_)<;>first|omega|conv=>whnf)|((refine azs (n:=8) (sz:=1) aza rfl Tryz.underlying96 rfl rfl ?_ ?_ ?_)<;>first|omega|conv=>whnf)|(refine avr 0 i _ aza rfl rfl rfl rfl hi rfl ?_;conv=>whnf))|with_reducible exact rfl|((with_reducible refine aze (by assumption) ?_);conv=>whnf)|((with_reducible refine azd ?_ ?_)<;>(intro hb;(try simp (disch:=omega) only [hbS] at hb)<;>conv=>whnf)))
 (refine ajl (b:=b) (c:=c) (S:=S) [.p 1 0] 0 i 1 ?_ ?_ ?_ hi (ajk hi) ?_ ?_ ?_);(focus (exact Entr.of Tryz.func75 rfl rfl));(focus rfl);(focus rfl);(focus (simp [SV.wf,SV.wfs]));(focus (intro σ h;simp [SV.vals,SV.val,ptP,h]))
 intro b1 b2 m q hok hab hg
 conv=>whnf
 refine azl (AClone_m b1 b2 m q hok (by rw [hab];exact hg)) [1,2,3] rfl ⟨⟨rfl,rfl,by simp [SV.wf,SV.wfs]⟩,fun _ _ h=>h,fun _ _ h=>h,trivial⟩ (by decide) (fun _ _ _ _=>trivial) ?_
 rintro ⟨⟨y1,y2⟩,⟨m2,q2⟩,ok2,ab2⟩
 dsimp only at ok2 ⊢
 have ab2:=ab2.trans hab
 conv=>whnf
 refine ⟨b1,b2,m,q,rfl,rfl,rfl,rfl,hok,by rw [hab];exact hg,?_⟩
 rw [hab,ajw]
 (conv=>whnf);repeat' (first|with_reducible exact rfl|((with_reducible refine aze (by assumption) ?_);conv=>whnf)|((with_reducible refine azd ?_ ?_)<;>(intro hb;(try simp (disch:=omega) only [hbS] at hb)<;>conv=>whnf)))
 exact azv ⟨⟨(y1,y2),(m2,q2),ok2,ab2⟩,hg⟩ [0,4,5,6] ⟨rfl,by simp [SV.wf,SV.wfs]⟩ ⟨fun _ _ h=>h,⟨rfl,rfl,by simp [SV.wf,SV.wfs]⟩,fun _ _ h=>h,fun _ _ h=>h,trivial⟩ (by decide) rfl
theorem dzl (b : Nat) (c : CoT) (S : SnT) (i : Int) (hi : rbB i = false) : CallM Tryz.prog 37 [pR b, I i] (fun _ _ => True) [stO b c S allT] (fun _ : Unit => nilP) (fun _ => [stO b c S allT]) := by
 have kr:=akf i
 rw [hi] at kr
 refine CallM.of (m:=1) Tryz.func37 rfl aza rfl rfl rfl rfl (by simp [SV.wfs,SV.wf]) fun w M π _=>?_
 (conv=>whnf);repeat' (first|((with_reducible refine isC ?_);first|((with_reducible refine azb (kr) ?_)<;>first|omega|with_reducible refine isP ?_|conv=>whnf))|with_reducible exact rfl|((with_reducible refine aze (by assumption) ?_);conv=>whnf)|((with_reducible refine azd ?_ ?_)<;>(intro hb;(try simp (disch:=omega) only [hbS] at hb)<;>conv=>whnf)))
 exact azv () [0] ⟨rfl,by simp [SV.wf,SV.wfs]⟩ ⟨fun _ _ h=>h,trivial⟩ (by decide) rfl
def wfS (S : SnT) : Prop := (∀ x y, ¬ (x < y ∧ y < 8) → S.rel x y = none) ∧ (∀ x y f, S.rel x y = some f → (0 ≤ f.1 ∧ f.1 < 4) ∧ (-1024 ≤ f.2.1 ∧ f.2.1 ≤ 1024) ∧ -1024 ≤ f.2.2 ∧ f.2.2 ≤ 1024) ∧ ∀ i, 8 ≤ i → S.ats i = at0
theorem prs_ok {S : SnT} (h : wfS S) {t : Nat} {x : RelT} (hx : prs S t = some x) : ∃ f, S.rel (t / 8) (t % 8) = some f ∧ x = (((t / 8 : Nat) : Int), ((t % 8 : Nat) : Int), f) ∧ t / 8 < t % 8 ∧ t % 8 < 8 := by
 unfold prs at hx
 rcases ax3 (S.rel (t / 8) (t % 8)) with hn|⟨f,hs⟩
 ·rw [hn] at hx;cases hx
 ·rw [hs] at hx
  refine ⟨f,hs,(Option.some.inj hx).symm,?_⟩
  by_cases hc : t / 8 < t % 8∧t % 8 < 8
  ·exact hc
  ·rw [h.1 _ _ hc] at hs;cases hs
theorem bjt {S O : SnT} (h : wfS O) {u v : Nat} {f : Fr} (hf : O.rel u v = some f) : axe S ((u : Int), (v : Int), f) = setR S u v f ∧ aq1 ((u : Int), (v : Int), f) = true := by
 have hlt : u < v∧v < 8:=by
  by_cases hc : u < v∧v < 8
  ·exact hc
  ·rw [h.1 _ _ hc] at hf;cases hf
 obtain ⟨h1,h2,h3⟩:=h.2.1 u v f hf
 constructor
 ·unfold axe aqs
  dsimp only
  rw [if_neg (by omega)]
  simp only [Int.toNat_natCast]
  congr 1
  exact Prod.ext (by simp;omega) rfl
 ·unfold aq1 rbB szB
  simp
  omega
theorem cxo {O : SnT} (h : wfS O) (S : SnT) : ∀ n, n ≤ 64 → (aqt O n).foldl axe S = { S with rel := fun u v => if v < 8 ∧ 8 * u + v < n then akp keyF (S.rel u v) (O.rel u v) else S.rel u v }
 | 0,_=>by
   show S=_
   have : (fun u v=>if v < 8∧8 * u + v < 0 then akp keyF (S.rel u v) (O.rel u v) else S.rel u v)=S.rel:=by
    funext u v
    rw [if_neg (by omega)]
   rw [this]
 | n + 1,hn=>by
   have ih:=cxo h S n (by omega)
   rcases ax3 (prs O n) with hp|⟨x,hp⟩
   ·rw [aws hp,ih]
    congr 1
    funext u v
    by_cases c1 : v < 8∧8 * u + v < n
    ·rw [if_pos c1,if_pos (by omega)]
    ·rw [if_neg c1]
     by_cases c2 : v < 8∧8 * u + v < n + 1
     ·rw [if_pos c2]
      have : O.rel u v=none:=by
       unfold prs at hp
       rw [show n / 8=u by omega,show n % 8=v by omega] at hp
       simpa using hp
      rw [this]
      rfl
     ·rw [if_neg c2]
   ·obtain ⟨f,hf,rfl,hlt⟩:=prs_ok h hp
    rw [avc hp,List.foldl_append,ih]
    simp only [List.foldl_cons,List.foldl_nil]
    rw [(bjt h hf).1]
    unfold setR
    congr 1
    funext u v
    unfold upd2
    dsimp only
    by_cases e : u=n / 8∧v=n % 8
    ·rw [if_pos e,if_neg (by omega),if_pos (by omega),e.1,e.2,hf]
     rfl
    ·rw [if_neg e]
     by_cases c1 : v < 8∧8 * u + v < n
     ·rw [if_pos c1,if_pos (by omega)]
     ·rw [if_neg c1,if_neg (by omega)]
def joinR (S O : SnT) : SnT := { S with rel := fun u v => akp keyF (S.rel u v) (O.rel u v) }
theorem dzm {O : SnT} (h : wfS O) (S : SnT) : (aqj O).foldl axe S = joinR S O := by
 unfold aqj
 rw [cxo h S 64 (Nat.le_refl _)]
 unfold joinR
 congr 1
 funext u v
 by_cases c : v < 8∧8 * u + v < 64
 ·rw [if_pos c]
 ·rw [if_neg c,h.1 u v (by omega)]
  rfl
def aki (S O : SnT) : SnT := ⟨S.me, fun u v => akp keyF (S.rel u v) (O.rel u v), fun i => bzh (S.ats i) (O.ats i)⟩
def r0 : RelT := (0, 0, 0, 0, 0)
end Go.Proofs.YtlnplelandimeaaGreat.En
end
