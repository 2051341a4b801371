import Derived.Test.YtlnplelandimeaaGreatZFleetViews13
import Derived.Test.YtlnplelandimeaaGreatLySortE
import Derived.Test.YtlnplelandimeaaGreatZFleetViews12
set_option linter.all false
section
namespace Go.Proofs.YtlnplelandimeaaGreat.En
open Go.RowKit Go.Sort
set_option maxRecDepth 100000
theorem bky (a b : EntT) : PureD Tryz.prog 95 [.a [I a.1, I a.2.1, I a.2.2.1, I a.2.2.2], .a [I b.1, I b.2.1, I b.2.2.1, I b.2.2.2]] (I (bwa a.cell b.cell)) := by
 refine PureD.of Tryz.func95 rfl aza rfl rfl rfl (by simp [SV.wfs,SV.wf]) (by simp [SV.wfs,SV.wf]) fun w=>?_
 (conv=>whnf);repeat' (first|((with_reducible refine isC ?_);first|((with_reducible refine aq3 (akv _ _) ?_)<;>first|omega|with_reducible refine isP ?_|conv=>whnf)|(refine aje (Or_v _ _ [cmpI a.2.1 b.2.1,cmpI a.1 b.1] rfl (by decide)) (ArgSl.row 2 rfl) ?_;conv=>whnf))|((with_reducible refine isO ?_);first|((first|(refine azh aza rfl rfl rfl ?_);intro bN|(refine azm aza rfl rfl rfl rfl rfl ?_);intro bN);conv=>whnf))|((first|refine azj aza azt ?_|refine azi (by kernel_rfl) ?_|with_reducible refine azo ?_ ?_)<;>conv=>whnf)|with_reducible exact rfl|((with_reducible refine aze (by assumption) ?_);conv=>whnf)|((with_reducible refine azd ?_ ?_)<;>(intro hb;(try simp (disch:=omega) only [hbS] at hb)<;>conv=>whnf)))
 exact ajx rfl rfl rfl trivial
theorem cell_swo : SWO (ltOf fun x y : EntT => bwa x.cell y.cell) := by
 have key : ∀ x y : EntT,ltOf (fun x y : EntT=>bwa x.cell y.cell) x y=befB x.cell y.cell:=by
  intro x y
  rw [Bool.eq_iff_iff]
  simp only [ltOf,decide_eq_true_eq]
  exact aw7 _ _
 refine ⟨fun x=>?_,fun x y z h1 h2=>?_,fun x y z h1 h2=>?_⟩
 ·rw [key,aj0]
 ·rw [key] at *
  exact aku h1 h2
 ·rw [key] at *
  rw [ajf] at *
  omega
theorem bx8 {C : Ctx} {ob : List OB} {k : SV → List OB → Prop} (hP : C.P = Tryz.prog) {g : Nat} (hen : Entr Tryz.prog g) (hg : ∀ a b : EntT, PureD Tryz.prog g [.a [I a.1, I a.2.1, I a.2.2.1, I a.2.2.2], .a [I b.1, I b.2.1, I b.2.2.1, I b.2.2.2]] (I (bwa a.cell b.cell))) (j : Nat) (xs : List EntT) {A : Option Addr} {n c e : Nat} (hj : nth ob j = some (.row e 4 A n c (xs.map encE))) (hx : xs.length = n) (hn : n < 4611686018427387904)
 (hk : ∀ ys : List EntT,ys.Perm xs→(∀ i k,i < k→k < n→befB (ys.getD k e0).cell (ys.getD i e0).cell=false)→aqb (setN ob j (.row e 4 A n c (ys.map encE))) fun ob=>k (.t []) ob) :
 aqy C 94 [.v (.slice A n c),.fn g []] ob k:=by
 obtain ⟨P,T,nn,w0,M,m,π,d⟩:=C
 simp only at hP
 subst hP
 refine cjp (ρ:=SortE_ren) SortE (by decide) encE (fun _=>rfl) (fun x v hv=>by
  simp [encE] at hv
  rcases hv with rfl|rfl|rfl|rfl<;>rfl) Tryz.isAgg89 Tryz.sizeOf89 (fun x y=>bwa x.cell y.cell) cell_swo g (fun args w=>by
   have h:=hen
   unfold Entr at h
   exact h args w) (fun W x y=>?_) (Entr.of Tryz.func94 rfl rfl) j xs hj hx hn ?_
 ·refine ((hg x y).2.2 (fun _=>0) W).mono ?_
  rintro en w' ⟨rfl,hb,hdr⟩
  obtain ⟨q,os',h⟩:=bv8 hb hdr
  exact ⟨rfl,q,os',h⟩
 ·intro ys hp hs
  refine hk ys hp fun i k' h1 h2=>?_
  have:=hs i k' h1 h2
  simp only [ltOf,decide_eq_false_iff_not] at this
  rw [aw7] at this
  exact Bool.eq_false_iff.2 this
def imgE (f : FrT) (e : EntT) : EntT := ((ajt f e.cell).1.1, (ajt f e.cell).1.2, e.2.2.1, e.2.2.2)
def bzc (f : FrT) (l : List EntT) : List Int := l.map fun e => (ajt f e.cell).2
def okF (f : FrT) (l : List EntT) : Bool := szB f.2.1 8192 && szB f.2.2 8192 && vE l
def aju (f : FrT) (l : List EntT) : Int := if okF f l then orI (bzc f l) else 1
def asc (l : List EntT) : Prop := l.Pairwise fun a b => befB a.cell b.cell = true
def IsOut (f : FrT) (l ys : List EntT) : Prop := if aju f l = 0 then ys.Perm (l.map (imgE f)) ∧ asc ys else ys = []
theorem IsOut.unique {f : FrT} {l ys zs : List EntT} (h1 : IsOut f l ys) (h2 : IsOut f l zs) : ys = zs := by
 unfold IsOut at *
 split at h1
 ·rename_i h
  rw [if_pos h] at h2
  exact av0 h1.2 h2.2 (h1.1.trans h2.1.symm)
 ·rename_i h
  rw [if_neg h] at h2
  rw [h1,h2]
theorem tXY_inj {q x y x' y' : Int} (hq : q = 0 ∨ q = 1 ∨ q = 2 ∨ q = 3) (h1 : min (tX q x y) (tX q (x + 1) (y + 1)) = min (tX q x' y') (tX q (x' + 1) (y' + 1))) (h2 : min (tY q x y) (tY q (x + 1) (y + 1)) = min (tY q x' y') (tY q (x' + 1) (y' + 1))) : x = x' ∧ y = y' := by
 rcases hq with rfl|rfl|rfl|rfl<;>simp [tX,tY] at h1 h2<;>omega
theorem cva {f : FrT} {c : azx} (h : (ajt f c).2 = 0) : (ajt f c).1 = (min (tX (f.1 % 4) c.1 c.2) (tX (f.1 % 4) (c.1 + 1) (c.2 + 1)) + f.2.1, min (tY (f.1 % 4) c.1 c.2) (tY (f.1 % 4) (c.1 + 1) (c.2 + 1)) + f.2.2) := by
 unfold ajt at h ⊢
 split at h
 ·rename_i h1
  split at h
  ·rename_i h2
   rw [if_pos h1,if_pos h2]
  ·simp at h
 ·simp at h
theorem cellR_inj {f : FrT} {a b : azx} (ha : (ajt f a).2 = 0) (hb : (ajt f b).2 = 0) (h : (ajt f a).1 = (ajt f b).1) : a = b := by
 rw [cva ha,cva hb] at h
 obtain ⟨h1,h2⟩:=Prod.ext_iff.1 h
 simp only at h1 h2
 obtain ⟨h3,h4⟩:=tXY_inj (q:=f.1 % 4) (x:=a.1) (y:=a.2) (x':=b.1) (y':=b.2) (by omega) (by omega) (by omega)
 exact Prod.ext h3 h4
theorem orI_all {l : List Int} (h : orI l = 0) : ∀ x ∈ l, x = 0 := by
 induction l with
 | nil=>simp
 | cons a l ih =>
   unfold orI at h
   split at h
   ·rename_i h0
    intro x hx
    rcases List.mem_cons.1 hx with rfl|hx
    ·exact h0
    ·exact ih h x hx
   ·rename_i h0
    exact (h0 h).elim
theorem img_ne {f : FrT} {l : List EntT} (h : aju f l = 0) : (l.map (imgE f)).Pairwise fun a b => a.cell ≠ b.cell := by
 unfold aju at h
 split at h
 ·rename_i hok
  simp only [okF,Bool.and_eq_true] at hok
  have hz:=orI_all h
  have hp:=ajg hok.2
  rw [List.pairwise_map]
  refine hp.imp_of_mem fun {a b} ha hb hab he=>?_
  have h1:=hz _ (List.mem_map_of_mem (f:=fun e : EntT=>(ajt f e.cell).2) ha)
  have h2:=hz _ (List.mem_map_of_mem (f:=fun e : EntT=>(ajt f e.cell).2) hb)
  have:=cellR_inj h1 h2 he
  rw [this,aj0] at hab
  cases hab
 ·cases h
theorem ak3 {xs ys : List EntT} (hp : ys.Perm xs) (hs : ∀ i k, i < k → k < ys.length → befB (ys.getD k e0).cell (ys.getD i e0).cell = false) (hne : xs.Pairwise fun a b => a.cell ≠ b.cell) : asc ys := by
 have hne' : ys.Pairwise fun a b=>a.cell ≠ b.cell:=(hp.pairwise_iff (fun {a b} h=>h.symm)).2 hne
 unfold asc
 rw [List.pairwise_iff_getElem] at hne' ⊢
 intro i j hi hj hij
 have h1:=hs i j hij hj
 simp only [List.getD_eq_getElem?_getD,List.getElem?_eq_getElem hi,List.getElem?_eq_getElem hj,Option.getD_some] at h1
 cases h2 : befB ys[i].cell ys[j].cell with
 | true=>rfl
 | false=>exact (hne' i j hi hj hij (bz3 h2 h1)).elim
theorem asc_vE {l : List EntT} (h : asc l) (hg : ∀ e ∈ l, axo e = true) (hn : l.length ≤ 1048576) : vE l = true := by
 rw [vE_end]
 ·simpa using hn
 ·intro j hj
  unfold asc at h
  rw [List.pairwise_iff_getElem] at h
  have h1:=hg l[j] (List.getElem_mem hj)
  have e1 : l.getD j e0=l[j]:=by simp [hj]
  simp only [okAt,e1,h1,Bool.true_and]
  by_cases h0 : j=0
  ·simp [h0]
  ·have:=h (j - 1) j (by omega) hj (by omega)
   have e2 : l.getD (j - 1) e0=l[j - 1]:=by simp [show j - 1 < l.length by omega]
   rw [e2,this,Bool.or_true]
abbrev OutT (f : FrT) (l : List EntT) := {p : Option Addr × Nat × List EntT // IsOut f l p.2.2}
theorem akw {f : FrT} {l : List EntT} (h : aju f l ≠ 0) : IsOut f l [] := by
 unfold IsOut
 rw [if_neg h]
theorem bkz {C : Ctx} {f : FuncId} {args : List SV} (args' : List SV) {ob : List OB} {k : SV → List OB → Prop} (he : ∀ σ, SV.vals σ args = SV.vals σ args') (h : aqy C f args' ob k) : aqy C f args ob k := by
 unfold aqy at *
 refine ⟨h.1,fun σ fp w hm=>?_⟩
 rw [he σ]
 exact h.2 σ fp w hm
theorem Entries_m (f : FrT) (A : Option Addr) (c : Nat) (l : List EntT) {n : Nat} (hl : l.length = n) (hn : n ≤ 1000000000) :
 CallM Tryz.prog 52 [.a [I f.1,I f.2.1,I f.2.2],.v (.slice A n c)] (fun w M=>ArgN w M A n 4 (l.map encE)) []
  (fun (p : OutT f l)=>.t [.v (.slice p.1.1 p.1.2.2.length p.1.2.1),I (aju f l)]) (fun p=>[.row 89 4 p.1.1 p.1.2.2.length p.1.2.1 (p.1.2.2.map encE)]):=by
 refine CallM.of (m:=0) Tryz.func52 rfl aza rfl rfl rfl rfl (by simp [SV.wfs,SV.wf]) fun w M π hpre=>?_
 (conv=>whnf);repeat' (first|((with_reducible refine isC ?_);first|((with_reducible refine azb (cjh _ _ _) ?_)<;>first|omega|with_reducible refine isP ?_|conv=>whnf)|(refine aje (bz4 A c l hl (by unfold maxLen;omega)) (ArgN.mem hpre (by decide)) ?_;conv=>whnf))|((with_reducible refine isO ?_);first|((first|(refine azh aza rfl rfl rfl ?_);intro bN|(refine azm aza rfl rfl rfl rfl rfl ?_);intro bN);conv=>whnf))|((with_reducible refine isW ?_;first|refine azg (by omega) (by omega) ?_|refine azc ?_);conv=>whnf)|with_reducible exact rfl|((with_reducible refine aze (by assumption) ?_);conv=>whnf)|((with_reducible refine azd ?_ ?_)<;>(intro hb;(try simp (disch:=omega) only [hbS] at hb)<;>conv=>whnf)))
 ·refine az3 89 4 ?_
  have h1 : aju f l=1:=by simp only [aju,okF,hb,Bool.false_and,Bool.false_eq_true,if_false]
  exact azv ⟨(none,0,[]),akw (by omega)⟩ [1] ⟨congrArg (fun i=>SV.t [.v (.slice none 0 0),I i]) h1.symm,by simp [SV.wf,SV.wfs]⟩ ⟨⟨rfl,rfl,rfl,rfl,rfl,rfl⟩,trivial⟩ (by decide) rfl
 ·refine az3 89 4 ?_
  have h1 : aju f l=1:=by simp only [aju,okF,hb,Bool.and_false,Bool.false_eq_true,if_false]
  exact azv ⟨(none,0,[]),akw (by omega)⟩ [1] ⟨congrArg (fun i=>SV.t [.v (.slice none 0 0),I i]) h1.symm,by simp [SV.wf,SV.wfs]⟩ ⟨⟨rfl,rfl,rfl,rfl,rfl,rfl⟩,trivial⟩ (by decide) rfl
 rename_i hb1
 have hok : okF f l=true:=by simp only [okF,hb,hb1.1,hb1.2,Bool.and_self]
 have hlen : l.length≤1048576:=by
  by_cases h : l.length≤1048576
  ·exact h
  ·rw [bv9 h] at hb
   cases hb
 have h2 : aju f l=orI (bzc f l):=by simp only [aju,hok,if_true]
 have hel : (bzc f l).length=n:=by simp [bzc,hl]
 have hml : (l.map (imgE f)).length=n:=by simp [hl]
 refine aql 89 4 ?_
 conv=>whnf
 refine azr aza (α:=Nat × Option Addr × Nat) (fun p=>p.1≤n∧∀ i,i < p.1→(bzc f l).getD i 0=0) (fun p=>[(19,.v (.slice A n c)),(20,I n),(21,I p.1),(2,.p 0 0),(6,.v (.slice p.2.1 p.1 p.2.2))]) (fun p=>[.box 37 [I f.1,I f.2.1,I f.2.2],.row 89 4 p.2.1 p.1 p.2.2 (((l.map (imgE f)).take p.1).map encE)]) (fun p=>n - p.1) (0,none,0) [0,1] ⟨by (try dsimp only);omega,fun i hi=>by (try dsimp only at hi);omega⟩ ?_ ?_
 ·try dsimp only
  (refine ⟨?_,?_,?_,?_⟩<;>(repeat' ((conv=>whnf);apply And.intro))<;>try (first|exact trivial|decide))
  all_goals first|rfl|exact fun _ _ h=>h|simp [SV.wf,SV.wfs]
 ·rintro ⟨k,A',c'⟩ hk
  try dsimp only at hk ⊢
  obtain ⟨hkn,hz⟩:=hk
  by_cases hlt : k < n
  ·have hat : (bzc f l).getD k 0=(ajt f (l.getD k e0).cell).2:=by
    simp [bzc,hl,hlt]
   (conv=>whnf);repeat' (first|((with_reducible refine isC ?_);first|((with_reducible refine azb (Cell_x f (_,_)) ?_)<;>first|omega|with_reducible refine isP ?_|conv=>whnf))|((with_reducible refine isV ?_);first|((first|refine azf aza rfl (ArgN.mem hpre (by decide)) rfl ?_ ?_ ?_|(with_reducible refine azq ?_);refine azw _ _ (e0) aza rfl rfl rfl rfl (ArgN.mem hpre (by decide)) ?_ ?_ ?_|refine azy _ _ (e0) aza rfl rfl rfl rfl (ArgN.mem hpre (by decide)) ?_ ?_ ?_)<;>first|rfl|omega|with_reducible refine isP ?_|conv=>whnf))|((with_reducible refine isO ?_);first|((refine azz 1 aza rfl rfl rfl rfl (ArgSl.row 4 rfl) (by decide) ?_ ?_ ?_)<;>first|omega|(dsimp only;omega)|(intro A' c';conv=>whnf))|((first|(refine azh aza rfl rfl rfl ?_);intro bN|(refine azm aza rfl rfl rfl rfl rfl ?_);intro bN);conv=>whnf))|((with_reducible refine isW ?_;first|refine azg (by omega) (by omega) ?_|refine azc ?_);conv=>whnf)|with_reducible exact rfl|((with_reducible refine aze (by assumption) ?_);conv=>whnf)|((with_reducible refine azd ?_ ?_)<;>(intro hb;(try simp (disch:=omega) only [hbS] at hb)<;>conv=>whnf)))
   ·refine az3 89 4 ?_
    have h1 : aju f l=(ajt f (l.getD k e0).cell).2:=by rw [h2,ck6 (by omega) hz (by rw [hat];exact hb),hat]
    have h3 : aju f l ≠ 0:=by rw [h1];exact hb
    exact azv ⟨(none,0,[]),akw h3⟩ [4] ⟨congrArg (fun i=>SV.t [.v (.slice none 0 0),I i]) h1.symm,by simp [SV.wf,SV.wfs]⟩ ⟨⟨rfl,rfl,rfl,rfl,rfl,rfl⟩,trivial⟩ (by decide) rfl
   ·refine ⟨(k + 1,A',c'),[0,1],⟨by (try dsimp only);omega,fun i hi=>?_⟩,?_,by (try dsimp only);omega⟩
    ·try dsimp only at hi
     by_cases e : i=k
     ·rw [e,hat]
      exact hb
     ·exact hz i (by omega)
    ·try dsimp only
     have ht : (l.map (imgE f)).take (k + 1)=(l.map (imgE f)).take k ++ [imgE f (l.getD k e0)]:=by
      rw [List.take_succ_eq_append_getElem (by omega)]
      simp [hl,hlt]
     rw [ht,List.map_append]
     (refine ⟨?_,?_,?_,?_⟩<;>(repeat' ((conv=>whnf);apply And.intro))<;>try (first|exact trivial|decide))
     all_goals first|rfl|exact fun _ _ h=>h|simp [SV.wf,SV.wfs]
   all_goals omega
  ·obtain rfl : k=n:=by omega
   have hc0 : aju f l=0:=by
    rw [h2,av1 (k:=k) (by omega) hz,← hel]
    simp [orI]
   have htk : (l.map (imgE f)).take k=l.map (imgE f):=List.take_of_length_le (by omega)
   rw [htk]
   (conv=>whnf);repeat' (first|((with_reducible refine isC ?_);first|(refine bkz [.v (.slice A' k c'),.fn 95 []] (fun σ=>rfl) ?_;refine bx8 rfl (bky e0 e0).1 bky 1 (l.map (imgE f)) rfl hml (by omega) ?_;intro ys hp hs;conv=>whnf))|((with_reducible refine isO ?_);first|((first|(refine azh aza rfl rfl rfl ?_);intro bN|(refine azm aza rfl rfl rfl rfl rfl ?_);intro bN);conv=>whnf))|((with_reducible refine isW ?_;first|refine azg (by omega) (by omega) ?_|refine azc ?_);conv=>whnf)|with_reducible exact rfl|((with_reducible refine aze (by assumption) ?_);conv=>whnf)|((with_reducible refine azd ?_ ?_)<;>(intro hb;(try simp (disch:=omega) only [hbS] at hb)<;>conv=>whnf)))
   ·exfalso
    omega
   ·have hy : ys.length=k:=by rw [hp.length_eq,hml]
    refine azv ⟨(A',c',ys),?_⟩ [1] ⟨?_,by simp [SV.wf,SV.wfs]⟩ ⟨⟨rfl,rfl,rfl,?_,rfl,rfl⟩,trivial⟩ (by decide) rfl
    ·unfold IsOut
     rw [if_pos hc0]
     exact ⟨hp,ak3 hp (by rw [hy];exact hs) (img_ne hc0)⟩
    ·show _=SV.t [.v (.slice A' ys.length c'),I (aju f l)]
     rw [hy,hc0]
    ·first|exact hy|exact hy.symm
end Go.Proofs.YtlnplelandimeaaGreat.En
namespace Go.Proofs.YtlnplelandimeaaGreat.En
open Go.RowKit
set_option maxRecDepth 100000
def addT (L : List EntT) (c : azx) (h p : Int) : List EntT := setT L (c.1, c.2, (getT L c).2.2.1 + h, (getT L c).2.2.2 + p)
theorem add_m (b : Nat) (L : List EntT) (c : azx) (h p : Int) (h1 : -4611686018427387904 ≤ (getT L c).2.2.1 + h ∧ (getT L c).2.2.1 + h ≤ 4611686018427387904) (h2 : -4611686018427387904 ≤ (getT L c).2.2.2 + p ∧ (getT L c).2.2.2 + p ≤ 4611686018427387904) :
 CallM Tryz.prog 131 [.v (.map (some b)),.a [I c.1,I c.2],I h,I p] (fun _ _=>True) [talO b L] (fun _ : Unit=>.t []) (fun _=>[talO b (addT L c h p)]):=by
 refine CallM.of (m:=1) Tryz.func131 rfl aza rfl rfl rfl rfl (by simp [SV.wfs,SV.wf]) fun w M π _=>?_
 (conv=>whnf);repeat' (first|((with_reducible refine isV ?_);first|(refine cw4 (c:=c) 0 rfl rfl rfl ?_;conv=>whnf))|((with_reducible refine isO ?_);first|(refine OpX_updT (e:=(c.1,c.2,(getT L c).2.2.1 + h,(getT L c).2.2.2 + p)) 0 rfl rfl rfl ?_;conv=>whnf))|((with_reducible refine isW ?_;first|refine azg (by omega) (by omega) ?_|refine azc ?_);conv=>whnf)|with_reducible exact rfl|((with_reducible refine aze (by assumption) ?_);conv=>whnf)|((with_reducible refine azd ?_ ?_)<;>(intro hb;(try simp (disch:=omega) only [hbS] at hb)<;>conv=>whnf)))
 exact azv () [0] ⟨rfl,by simp [SV.wf,SV.wfs]⟩ ⟨fun _ _ h=>h,trivial⟩ (by decide) rfl
def axb (e : EntT) : Bool := decide (e.2.2.1 = 0) && decide (e.2.2.2 = 0)
theorem list1_x (e : EntT) : PureX Tryz.prog 164 [.a [I e.1, I e.2.1, I e.2.2.1, I e.2.2.2]] (B (axb e)) := by
 refine PureX.of Tryz.func164 rfl aza rfl rfl rfl (by simp [SV.wfs,SV.wf]) (by simp [SV.wfs,SV.wf]) fun w=>?_
 (conv=>whnf);repeat' (first|with_reducible exact rfl|((with_reducible refine aze (by assumption) ?_);conv=>whnf)|((with_reducible refine azd ?_ ?_)<;>(intro hb;(try simp (disch:=omega) only [hbS] at hb)<;>conv=>whnf)))
 all_goals refine azk rfl ?_ trivial
 all_goals
  simp [axb,hb]
  try rfl
theorem list2_d (a b : EntT) : PureD Tryz.prog 165 [.a [I a.1, I a.2.1, I a.2.2.1, I a.2.2.2], .a [I b.1, I b.2.1, I b.2.2.1, I b.2.2.2]] (I (bwa a.cell b.cell)) := by
 refine PureD.of Tryz.func165 rfl aza rfl rfl rfl (by simp [SV.wfs,SV.wf]) (by simp [SV.wfs,SV.wf]) fun w=>?_
 (conv=>whnf);repeat' (first|((with_reducible refine isC ?_);first|((with_reducible refine aq3 (cz7 (_,_) (_,_)) ?_)<;>first|omega|with_reducible refine isP ?_|conv=>whnf))|with_reducible exact rfl|((with_reducible refine aze (by assumption) ?_);conv=>whnf)|((with_reducible refine azd ?_ ?_)<;>(intro hb;(try simp (disch:=omega) only [hbS] at hb)<;>conv=>whnf)))
 exact ajx rfl rfl rfl trivial
def idxF {α : Type} (p : α → Bool) (l : List α) : Int := match l.findIdx? p with
 | some i=>(i : Int)
 | none=>-1
theorem bwl {α : Type} {p : α → Bool} {l : List α} {d : α} {k : Nat} (hk : k < l.length) (h : ∀ j, j < k → p (l.getD j d) = false) (hp : p (l.getD k d) = true) : idxF p l = k := by
 have : l.findIdx? p=some k:=by
  rw [List.findIdx?_eq_some_iff_getElem]
  refine ⟨hk,by simpa [hk] using hp,fun j hj=>?_⟩
  have:=h j hj
  simpa [show j < l.length by omega] using this
 simp [idxF,this]
theorem bx9 {α : Type} {p : α → Bool} {l : List α} {d : α} (h : ∀ j, j < l.length → p (l.getD j d) = false) : idxF p l = -1 := by
 have : l.findIdx? p=none:=by
  rw [List.findIdx?_eq_none_iff]
  intro x hx
  obtain ⟨i,hi,rfl⟩:=List.getElem_of_mem hx
  have:=h i hi
  simpa [hi] using this
 simp [idxF,this]
theorem avm (g : Nat) (p : EntT → Bool) (hg : ∀ e : EntT, PureX Tryz.prog g [.a [I e.1, I e.2.1, I e.2.2.1, I e.2.2.2]] (B (p e))) (A : Option Addr) (c : Nat) (l : List EntT) {n : Nat} (hl : l.length = n) (hn : n ≤ 1000000000) :
 CallW Tryz.prog 166 [.v (.slice A n c),.v (.func (.func g) #[] #[])] (fun w=>ArgSl w A n 4 (l.map encE)) (I (idxF p l)):=by
 refine CallW.of Tryz.func166 rfl aza rfl rfl rfl (by simp [SV.wfs,SV.wf]) (by simp [SV.wfs,SV.wf]) fun w hpre=>?_
 (conv=>whnf);repeat' (first|((with_reducible refine isW ?_;first|refine azg (by omega) (by omega) ?_|refine azc ?_);conv=>whnf)|with_reducible exact rfl|((with_reducible refine aze (by assumption) ?_);conv=>whnf)|((with_reducible refine azd ?_ ?_)<;>(intro hb;(try simp (disch:=omega) only [hbS] at hb)<;>conv=>whnf)))
 refine azr aza (α:=Nat) (fun k=>k≤n∧∀ j,j < k→p (l.getD j e0)=false) (fun k=>[(0,.v (.slice A n c)),(1,.v (.func (.func g) #[] #[])),(7,I n),(8,I k)]) (fun _=>[]) (fun k=>n - k) 0 [] ⟨Nat.zero_le _,fun i hi=>by omega⟩ ?_ ?_
 ·(refine ⟨?_,?_,?_,?_⟩<;>(repeat' ((conv=>whnf);apply And.intro))<;>try (first|exact trivial|decide))
  all_goals first|rfl|exact fun _ _ h=>h|simp [SV.wf,SV.wfs]
 ·rintro k ⟨hk,hz⟩
  (conv=>whnf);repeat' (first|((with_reducible refine isC ?_);first|((with_reducible refine azb (hg (l.getD k e0)) ?_)<;>first|omega|with_reducible refine isP ?_|conv=>whnf))|((with_reducible refine isV ?_);first|((first|refine azf aza rfl (hpre.mem (by decide) rfl) rfl ?_ ?_ ?_|(with_reducible refine azq ?_);refine azw _ _ (e0) aza rfl rfl rfl rfl (hpre.mem (by decide) rfl) ?_ ?_ ?_|refine azy _ _ (e0) aza rfl rfl rfl rfl (hpre.mem (by decide) rfl) ?_ ?_ ?_)<;>first|rfl|omega|with_reducible refine isP ?_|conv=>whnf))|((with_reducible refine isW ?_;first|refine azg (by omega) (by omega) ?_|refine azc ?_);conv=>whnf)|with_reducible exact rfl|((with_reducible refine aze (by assumption) ?_);conv=>whnf)|((with_reducible refine azd ?_ ?_)<;>(intro hb;(try simp (disch:=omega) only [hbS] at hb)<;>conv=>whnf)))
  ·refine azk rfl ?_ trivial
   rw [bwl (k:=k) (by omega) hz hb]
  ·refine ⟨k + 1,[],⟨by omega,fun j hj=>?_⟩,?_,by (try dsimp only);omega⟩
   ·by_cases e : j=k
    ·rw [e];exact hb
    ·exact hz j (by omega)
   ·(refine ⟨?_,?_,?_,?_⟩<;>(repeat' ((conv=>whnf);apply And.intro))<;>try (first|exact trivial|decide))
    all_goals first|rfl|exact fun _ _ h=>h|exact I_eq (wr (by omega) (by omega))|simp [SV.wf,SV.wfs]
  ·refine azk rfl ?_ trivial
   rw [bx9 (d:=e0) (fun j hj=>hz j (by omega))]
structure DelS where
 i : Nat
 j : Nat
 xs : List EntT
def delJ (p : EntT → Bool) (ys : List EntT) (s : DelS) : Prop :=
 s.i < s.j∧s.j≤ys.length∧s.xs.length=ys.length∧s.xs.take s.i=(ys.take s.j).filter (fun e=>!p e)∧∀ k,s.j≤k→s.xs.getD k e0=ys.getD k e0
theorem bja {l : List EntT} {j : Nat} (h : j < l.length) : l.take (j + 1) = l.take j ++ [l.getD j e0] := by
 rw [List.take_succ_eq_append_getElem h]
 simp [h]
theorem delJ_skip {p : EntT → Bool} {ys : List EntT} {s : DelS} (h : delJ p ys s) (hj : s.j < ys.length) (hp : p (ys.getD s.j e0) = true) : delJ p ys ⟨s.i, s.j + 1, s.xs⟩ := by
 obtain ⟨h1,h2,h3,h4,h5⟩:=h
 refine ⟨by (try dsimp only);omega,hj,h3,?_,fun k hk=>h5 k (by (try dsimp only at hk);omega)⟩
 dsimp only
 rw [bja hj,List.filter_append,h4]
 simp only [hp,List.filter_cons,Bool.not_true,Bool.false_eq_true,if_false,List.filter_nil,List.append_nil]
theorem delJ_keep {p : EntT → Bool} {ys : List EntT} {s : DelS} (h : delJ p ys s) (hj : s.j < ys.length) (hp : p (ys.getD s.j e0) = false) : delJ p ys ⟨s.i + 1, s.j + 1, s.xs.set s.i (ys.getD s.j e0)⟩ := by
 obtain ⟨h1,h2,h3,h4,h5⟩:=h
 refine ⟨by (try dsimp only);omega,hj,by simp [h3],?_,fun k hk=>?_⟩
 ·dsimp only
  rw [bja hj,List.filter_append,← h4]
  have hlt : s.i < s.xs.length:=by omega
  rw [List.take_succ_eq_append_getElem (by simpa using hlt)]
  simp only [List.getElem_set_self,List.take_set_of_le (Nat.le_refl _),hp,List.filter_cons,Bool.not_false,if_true,List.filter_nil]
 ·dsimp only at hk ⊢
  rw [← h5 k (by omega)]
  simp only [List.getD_eq_getElem?_getD]
  rw [List.getElem?_set_ne (by omega)]
theorem cw6 {p : EntT → Bool} {ys : List EntT} {k : Nat} (hk : k < ys.length) (h : ∀ j, j < k → p (ys.getD j e0) = false) (hp : p (ys.getD k e0) = true) : delJ p ys ⟨k, k + 1, ys⟩ := by
 refine ⟨by (try dsimp only);omega,hk,rfl,?_,fun _ _=>rfl⟩
 dsimp only
 rw [bja hk,List.filter_append]
 simp only [hp,List.filter_cons,Bool.not_true,Bool.false_eq_true,if_false,List.filter_nil,List.append_nil]
 symm
 rw [List.filter_eq_self]
 intro x hx
 obtain ⟨i,hi,rfl⟩:=List.getElem_of_mem hx
 rw [List.length_take] at hi
 have:=h i (by omega)
 simp [show i < ys.length by omega] at this
 simp [this]
theorem bwm (g : Nat) (p : EntT → Bool) (hg : ∀ e : EntT, PureX Tryz.prog g [.a [I e.1, I e.2.1, I e.2.2.1, I e.2.2.2]] (B (p e))) (A : Option Addr) (c : Nat) (ys : List EntT) {n : Nat} (hl : ys.length = n) (hn : n ≤ 1000000000) (hc : n ≤ c) :
 CallM Tryz.prog 163 [.v (.slice A n c),.v (.func (.func g) #[] #[])] (fun _ _=>True) [.row 89 4 A n c (ys.map encE)]
  (fun _ : Unit=>.v (.slice A (ys.filter fun e=>!p e).length c)) (fun _=>[.row 89 4 A (ys.filter fun e=>!p e).length c ((ys.filter fun e=>!p e).map encE)]):=by
 refine CallM.of (m:=1) Tryz.func163 rfl aza rfl rfl rfl rfl (by simp [SV.wfs,SV.wf]) fun w M π _=>?_
 cases hx : ys.findIdx? p with
 | none =>
   have hi : idxF p ys = -1:=by simp [idxF,hx]
   have hf : ys.filter (fun e=>!p e)=ys:=by
    rw [List.filter_eq_self]
    rw [List.findIdx?_eq_none_iff] at hx
    intro x h
    simp [hx x h]
   (conv=>whnf);repeat' (first|((with_reducible refine isC ?_);first|(refine az2 (avm g p hg A c ys hl hn) (ArgSl.row 0 rfl) ?_;rw [hi];conv=>whnf))|((with_reducible refine isW ?_;first|refine azg (by omega) (by omega) ?_|refine azc ?_);conv=>whnf)|with_reducible exact rfl|((with_reducible refine aze (by assumption) ?_);conv=>whnf)|((with_reducible refine azd ?_ ?_)<;>(intro hb;(try simp (disch:=omega) only [hbS] at hb)<;>conv=>whnf)))
   exact azv () [0] ⟨by rw [hf,hl];rfl,by simp [SV.wf,SV.wfs]⟩ ⟨by rw [hf,hl];exact ⟨rfl,rfl,rfl,rfl,rfl,rfl⟩,trivial⟩ (by decide) rfl
 | some k =>
   rw [List.findIdx?_eq_some_iff_getElem] at hx
   obtain ⟨hk,h1,h2⟩:=hx
   have hp : p (ys.getD k e0)=true:=by simpa [hk] using h1
   have hz : ∀ j,j < k→p (ys.getD j e0)=false:=fun j hj=>by
    have:=h2 j hj
    simpa [show j < ys.length by omega] using this
   have hi:=bwl hk hz hp
   (conv=>whnf);repeat' (first|((with_reducible refine isC ?_);first|(refine az2 (avm g p hg A c ys hl hn) (ArgSl.row 0 rfl) ?_;rw [hi];conv=>whnf))|((with_reducible refine isW ?_;first|refine azg (by omega) (by omega) ?_|refine azc ?_);conv=>whnf)|with_reducible exact rfl|((with_reducible refine aze (by assumption) ?_);conv=>whnf)|((with_reducible refine azd ?_ ?_)<;>(intro hb;(try simp (disch:=omega) only [hbS] at hb)<;>conv=>whnf)))
   refine azr aza (α:=DelS) (delJ p ys) (fun s=>[(0,.v (.slice A n c)),(1,.v (.func (.func g) #[] #[])),(5,I s.i),(6,I s.j)]) (fun s=>[.row 89 4 A n c (s.xs.map encE)]) (fun s=>n - s.j) ⟨k,k + 1,ys⟩ [0] (cw6 hk hz hp) ?_ ?_
   ·(refine ⟨?_,?_,?_,?_⟩<;>(repeat' ((conv=>whnf);apply And.intro))<;>try (first|exact trivial|decide))
    all_goals first|rfl|exact fun _ _ h=>h|exact I_eq (wr (by omega) (by omega))|simp [SV.wf,SV.wfs]
   ·rintro ⟨i,j,xs⟩ hJ
    have hJ':=hJ
    obtain ⟨j1,j2,j3,j4,j5⟩:=hJ
    try dsimp only at j1 j2 j3 j4 j5 ⊢
    by_cases hlt : j < n
    ·have hv:=j5 j (Nat.le_refl _)
     (conv=>whnf);repeat' (first|((with_reducible refine isC ?_);first|((with_reducible refine azb (hg (xs.getD j e0)) ?_)<;>first|omega|with_reducible refine isP ?_|conv=>whnf))|((with_reducible refine isV ?_);first|((first|refine azf aza rfl (ArgSl.row 0 rfl) rfl ?_ ?_ ?_|(with_reducible refine azq ?_);refine azw _ _ (e0) aza rfl rfl rfl rfl (ArgSl.row 0 rfl) ?_ ?_ ?_|refine azy _ _ (e0) aza rfl rfl rfl rfl (ArgSl.row 0 rfl) ?_ ?_ ?_)<;>first|rfl|omega|with_reducible refine isP ?_|conv=>whnf))|((with_reducible refine isO ?_);first|((refine aj6 0 aza rfl rfl rfl rfl rfl rfl ?_ ?_)<;>first|omega|with_reducible refine isP ?_|conv=>whnf))|((with_reducible refine isW ?_;first|refine azg (by omega) (by omega) ?_|refine azc ?_);conv=>whnf)|with_reducible exact rfl|((with_reducible refine aze (by assumption) ?_);conv=>whnf)|((with_reducible refine azd ?_ ?_)<;>(intro hb;(try simp (disch:=omega) only [hbS] at hb)<;>conv=>whnf)))
     ·refine ⟨⟨i + 1,j + 1,xs.set i (xs.getD j e0)⟩,[0],?_,?_,by (try dsimp only);omega⟩
      ·have:=delJ_keep hJ' (by (try dsimp only);omega) (by (try dsimp only);rw [← hv];exact hb)
       try dsimp only at this
       rw [← hv] at this
       exact this
      ·try dsimp only
       rw [List.map_set]
       (refine ⟨?_,?_,?_,?_⟩<;>(repeat' ((conv=>whnf);apply And.intro))<;>try (first|exact trivial|decide))
       all_goals first|rfl|exact fun _ _ h=>h|exact I_eq (wr (by omega) (by omega))|simp [SV.wf,SV.wfs]
     ·refine ⟨⟨i,j + 1,xs⟩,[0],?_,?_,by (try dsimp only);omega⟩
      ·exact delJ_skip hJ' (by (try dsimp only);omega) (by (try dsimp only);rw [← hv];exact hb)
      ·(refine ⟨?_,?_,?_,?_⟩<;>(repeat' ((conv=>whnf);apply And.intro))<;>try (first|exact trivial|decide))
       all_goals first|rfl|exact fun _ _ h=>h|exact I_eq (wr (by omega) (by omega))|simp [SV.wf,SV.wfs]
     all_goals omega
    ·obtain rfl : j=n:=by omega
     (conv=>whnf);repeat' (first|((with_reducible refine isV ?_);first|(refine ajs (m:=i) aza rfl rfl (aw0 0 rfl) (by omega) ?_;conv=>whnf)|(refine cz6 (m:=i) aza rfl rfl (by omega) ?_;conv=>whnf))|((with_reducible refine isO ?_);first|(refine OpX_clear (i:=i) 0 aza rfl rfl rfl rfl rfl (by omega) ?_;conv=>whnf))|((with_reducible refine isW ?_;first|refine azg (by omega) (by omega) ?_|refine azc ?_);conv=>whnf)|with_reducible exact rfl|((with_reducible refine aze (by assumption) ?_);conv=>whnf)|((with_reducible refine azd ?_ ?_)<;>(intro hb;(try simp (disch:=omega) only [hbS] at hb)<;>conv=>whnf)))
     ·exfalso
      omega
     ·rw [← hl,List.take_of_length_le (Nat.le_refl _)] at j4
      have hlen : (ys.filter fun e=>!p e).length=i:=by
       rw [← j4,List.length_take]
       omega
      refine azv () [0] ⟨by rw [hlen];rfl,by simp [SV.wf,SV.wfs]⟩ ⟨?_,trivial⟩ (by decide) rfl
      rw [hlen,← j4,List.map_take]
      exact ⟨rfl,rfl,rfl,rfl,rfl,rfl⟩
end Go.Proofs.YtlnplelandimeaaGreat.En
namespace Go.Proofs.YtlnplelandimeaaGreat.En
open Go.RowKit Go.Sort
set_option maxRecDepth 100000
theorem Values_m (b : Nat) : CallM Tryz.prog 162 [.v (.map (some b))] (fun _ _ => True) [] (fun _ : Unit => .fn 185 [.p 0 0]) (fun _ => [.box 170 [.v (.map (some b))]]) := by
 refine CallM.of (m:=0) Tryz.func162 rfl aza rfl rfl rfl rfl (by simp [SV.wfs,SV.wf]) fun w M π _=>?_
 (conv=>whnf);repeat' (first|with_reducible exact rfl|((with_reducible refine aze (by assumption) ?_);conv=>whnf)|((with_reducible refine azd ?_ ?_)<;>(intro hb;(try simp (disch:=omega) only [hbS] at hb)<;>conv=>whnf)))
 exact azv () [0] ⟨rfl,by simp [SV.wf,SV.wfs]⟩ ⟨⟨rfl,rfl,by simp [SV.wf,SV.wfs]⟩,trivial⟩ (by decide) rfl
def IsList (L ys : List EntT) : Prop := ys.Perm (L.filter fun e => !axb e) ∧ asc ys
theorem IsList.unique {L ys zs : List EntT} (h1 : IsList L ys) (h2 : IsList L zs) : ys = zs := av0 h1.2 h2.2 (h1.1.trans h2.1.symm)
abbrev LstT (L : List EntT) := {p : Option Addr × Nat × List EntT // IsList L p.2.2}
def neT (L : List EntT) : Prop := L.Pairwise fun a b => a.cell ≠ b.cell
set_option maxHeartbeats 1000000 in
theorem list_m (b : Nat) (L : List EntT) (hL : neT L) (hn : L.length ≤ 1000000000) :
 CallM Tryz.prog 132 [.v (.map (some b))] (fun _ _=>True) [talO b L]
  (fun p : LstT L=>.v (.slice p.1.1 p.1.2.2.length p.1.2.1)) (fun p=>[talO b L,.row 89 4 p.1.1 p.1.2.2.length p.1.2.1 (p.1.2.2.map encE)]):=by
 refine CallM.of (m:=1) Tryz.func132 rfl aza rfl rfl rfl rfl (by simp [SV.wfs,SV.wf]) fun w M π _=>?_
 (conv=>whnf);repeat' (first|((with_reducible refine isC ?_);first|(refine azl (Values_m b) [] rfl trivial (by decide) (fun _ _ _ _=>trivial) ?_;intro p;conv=>whnf)|(refine bwk (b:=b) (L:=L) (j:=1) (q:=0) rfl rfl rfl hn ?_;intro ys A c hp hc;conv=>whnf))|with_reducible exact rfl|((with_reducible refine aze (by assumption) ?_);conv=>whnf)|((with_reducible refine azd ?_ ?_)<;>(intro hb;(try simp (disch:=omega) only [hbS] at hb)<;>conv=>whnf)))
 have hyl : ys.length≤1000000000:=by rw [hp.length_eq];exact hn
 (conv=>whnf);repeat' (first|((with_reducible refine isC ?_);first|(refine azl (bwm 164 axb list1_x A c ys rfl hyl hc) [2] rfl ⟨⟨rfl,rfl,rfl,rfl,rfl,rfl⟩,trivial⟩ (by decide) (fun _ _ _ _=>trivial) ?_;intro p;conv=>whnf))|with_reducible exact rfl|((with_reducible refine aze (by assumption) ?_);conv=>whnf)|((with_reducible refine azd ?_ ?_)<;>(intro hb;(try simp (disch:=omega) only [hbS] at hb)<;>conv=>whnf)))
 have hfl : (ys.filter fun e=>!axb e).length≤1000000000:=Nat.le_trans (List.length_filter_le _ _) hyl
 have hne : (ys.filter fun e=>!axb e).Pairwise fun a b=>a.cell ≠ b.cell:=(((hp.pairwise_iff (fun {a b} h=>h.symm)).2 hL).sublist List.filter_sublist)
 have hpf : (ys.filter fun e=>!axb e).Perm (L.filter fun e=>!axb e):=hp.filter _
 generalize ys.filter (fun e=>!axb e)=zs at *
 (conv=>whnf);repeat' (first|((with_reducible refine isC ?_);first|(refine bkz [.v (.slice A zs.length c),.fn 165 []] (fun σ=>rfl) ?_;refine bx8 rfl (list2_d e0 e0).1 list2_d 2 zs rfl rfl (by omega) ?_;intro vs hv hs;conv=>whnf))|with_reducible exact rfl|((with_reducible refine aze (by assumption) ?_);conv=>whnf)|((with_reducible refine azd ?_ ?_)<;>(intro hb;(try simp (disch:=omega) only [hbS] at hb)<;>conv=>whnf)))
 have hvl:=hv.length_eq
 refine azv ⟨(A,c,vs),hv.trans hpf,ak3 hv (by rw [hvl];exact hs) hne⟩ [0,2] ⟨?_,by simp [SV.wf,SV.wfs]⟩ ⟨fun _ _ h=>h,⟨rfl,rfl,rfl,hvl.symm,rfl,rfl⟩,trivial⟩ (by decide) rfl
 show _=SV.v (.slice A vs.length c)
 rw [hvl]
end Go.Proofs.YtlnplelandimeaaGreat.En
end
