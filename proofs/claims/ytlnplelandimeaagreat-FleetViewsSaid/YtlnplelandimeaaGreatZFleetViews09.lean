import Derived.Test.YtlnplelandimeaaGreatZFleetViews01
import Derived.Test.YtlnplelandimeaaGreatZFleetViews08
set_option linter.all false
section
namespace Go.Proofs.YtlnplelandimeaaGreat.En
open Go.RowKit
abbrev EntT := Int × Int × Int × Int
abbrev azx := Int × Int
def EntT.cell (e : EntT) : azx := (e.1, e.2.1)
def e0 : EntT := (0, 0, 0, 0)
def encE (e : EntT) : List Value := [.int .i64 e.1, .int .i64 e.2.1, .int .i64 e.2.2.1, .int .i64 e.2.2.2]
def befB (a b : azx) : Bool := decide (a.2 < b.2) || (decide (a.2 = b.2) && decide (a.1 < b.1))
theorem aw6 (a b : azx) : befB a b = true ↔ a.2 < b.2 ∨ (a.2 = b.2 ∧ a.1 < b.1) := by simp [befB]
theorem ajf (a b : azx) : befB a b = false ↔ ¬ (a.2 < b.2 ∨ (a.2 = b.2 ∧ a.1 < b.1)) := by rw [← aw6]; simp
theorem aku {a b c : azx} (h1 : befB a b = true) (h2 : befB b c = true) : befB a c = true := by rw [aw6] at *; omega
theorem aj0 (a : azx) : befB a a = false := by rw [ajf]; omega
theorem bz3 {a b : azx} (h1 : befB a b = false) (h2 : befB b a = false) : a = b := by
 rw [ajf] at *
 exact Prod.ext (by omega) (by omega)
def aq0 (e : EntT) : Bool := szB e.2.2.1 1099511627776 && szB e.2.2.2 1099511627776
def axo (e : EntT) : Bool := aq0 e && !(decide (e.2.2.1 = 0) && decide (e.2.2.2 = 0)) && szB e.1 16384 && szB e.2.1 16384
def okAt (l : List EntT) (i : Nat) : Bool := axo (l.getD i e0) && (decide (i = 0) || befB (l.getD (i - 1) e0).cell (l.getD i e0).cell)
def vE (l : List EntT) : Bool := decide (l.length ≤ 1048576) && (List.range l.length).all fun i => okAt l i
theorem ck5 {l : List EntT} {k : Nat} (hk : k < l.length) (h : okAt l k = false) : vE l = false := by
 rw [vE,Bool.and_eq_false_iff]
 right
 rw [List.all_eq_false]
 exact ⟨k,by simpa using hk,by simp [h]⟩
theorem vE_end {l : List EntT} (h : ∀ j, j < l.length → okAt l j = true) : vE l = decide (l.length ≤ 1048576) := by
 rw [vE,show ((List.range l.length).all fun i=>okAt l i)=true from List.all_eq_true.2 fun j hj=>h j (by simpa using hj)]
 simp
theorem bv9 {l : List EntT} (h : ¬ l.length ≤ 1048576) : vE l = false := by simp [vE, h]
theorem vE_at {l : List EntT} (h : vE l = true) {i : Nat} (hi : i < l.length) : okAt l i = true := by
 simp only [vE,Bool.and_eq_true,List.all_eq_true,List.mem_range] at h
 exact h.2 i hi
theorem avi {l : List EntT} (h : vE l = true) {e : EntT} (he : e ∈ l) : axo e = true := by
 obtain ⟨i,hi,rfl⟩:=List.getElem_of_mem he
 have:=vE_at h hi
 simp [okAt,hi] at this
 exact this.1
theorem vE_asc {l : List EntT} (h : vE l = true) : ∀ {j i : Nat}, i < j → (hj : j < l.length) → befB (l.getD i e0).cell (l.getD j e0).cell = true
 | 0,i,h1,_=>by omega
 | j + 1,i,h1,hj=>by
   have h2:=vE_at h hj
   simp only [okAt,Bool.and_eq_true,Bool.or_eq_true,decide_eq_true_eq,Nat.add_sub_cancel] at h2
   have h3 : befB (l.getD j e0).cell (l.getD (j + 1) e0).cell=true:=by
    rcases h2.2 with h4|h4
    ·omega
    ·exact h4
   by_cases e : i=j
   ·rw [e];exact h3
   ·exact aku (vE_asc h (by omega) (by omega)) h3
theorem ajg {l : List EntT} (h : vE l = true) : l.Pairwise fun a b => befB a.cell b.cell = true := by
 rw [List.pairwise_iff_getElem]
 intro i j hi hj hij
 have:=vE_asc h hij hj
 simpa [hi,hj] using this
theorem av0 : ∀ {l m : List EntT}, (l.Pairwise fun a b => befB a.cell b.cell = true) → (m.Pairwise fun a b => befB a.cell b.cell = true) → l.Perm m → l = m
 | [],m,_,_,h=>(List.nil_perm.1 h).symm
 | a :: l,[],_,_,h=>(by have:=h.length_eq;simp at this)
 | a :: l,b :: m,h1,h2,h=>by
   rw [List.pairwise_cons] at h1 h2
   have hab : a=b:=by
    have ha : a∈b :: m:=h.mem_iff.1 (by simp)
    have hb : b∈a :: l:=h.mem_iff.2 (by simp)
    rcases List.mem_cons.1 ha with e|ha
    ·exact e
    ·rcases List.mem_cons.1 hb with e|hb
     ·exact e.symm
     ·have:=aku (h2.1 a ha) (h1.1 b hb)
      rw [aj0] at this
      cases this
   subst hab
   rw [av0 h1.2 h2.2 h.cons_inv]
end Go.Proofs.YtlnplelandimeaaGreat.En
namespace Go.Proofs.YtlnplelandimeaaGreat.En
open Go.RowKit
set_option maxRecDepth 100000
def cmpI (x y : Int) : Int := if x < y then -1 else if y < x then 1 else 0
theorem isNaN_d (x : Int) : PureD Tryz.prog 129 [I x] (B false) := by
 refine PureD.of Tryz.func129 rfl aza rfl rfl rfl (by simp [SV.wfs,SV.wf]) (by simp [SV.wfs,SV.wf]) fun w=>?_
 (conv=>whnf);repeat' (first|with_reducible exact rfl|((with_reducible refine aze (by assumption) ?_);conv=>whnf)|((with_reducible refine azd ?_ ?_)<;>(intro hb;(try simp (disch:=omega) only [hbS] at hb)<;>conv=>whnf)))
 exact ajx rfl rfl (by simp) trivial
theorem akv (x y : Int) : PureD Tryz.prog 97 [I x, I y] (I (cmpI x y)) := by
 refine PureD.of Tryz.func97 rfl aza rfl rfl rfl (by simp [SV.wfs,SV.wf]) (by simp [SV.wfs,SV.wf]) fun w=>?_
 (conv=>whnf);repeat' (first|((with_reducible refine isC ?_);first|((with_reducible refine aq3 (isNaN_d _) ?_)<;>first|omega|with_reducible refine isP ?_|conv=>whnf))|with_reducible exact rfl|((with_reducible refine aze (by assumption) ?_);conv=>whnf)|((with_reducible refine azd ?_ ?_)<;>(intro hb;(try simp (disch:=omega) only [hbS] at hb)<;>conv=>whnf)))
 all_goals refine ajx rfl rfl ?_ trivial
 all_goals refine I_eq ?_
 all_goals simp only [cmpI]
 ·rw [if_pos hb]
 ·rw [if_neg (by omega),if_pos hb]
 ·rw [if_neg (by omega),if_neg (by omega)]
def orI : List Int → Int
 | []=>0
 | x :: l=>if x=0 then orI l else x
theorem av1 : ∀ {l : List Int} {k : Nat}, k ≤ l.length → (∀ i, i < k → l.getD i 0 = 0) → orI l = orI (l.drop k)
 | l,0,_,_=>by simp
 | [],k + 1,h,_=>by simp at h
 | x :: l,k + 1,hk,h=>by
   have h0:=h 0 (by omega)
   simp at h0
   rw [orI,if_pos h0,List.drop_succ_cons]
   exact av1 (by simpa using hk) fun i hi=>by simpa using h (i + 1) (by omega)
theorem ck6 {l : List Int} {k : Nat} (hk : k < l.length) (h : ∀ i, i < k → l.getD i 0 = 0) (hn : ¬ l.getD k 0 = 0) : orI l = l.getD k 0 := by
 rw [av1 (by omega) h,List.drop_eq_getElem_cons hk,orI]
 simp only [List.getD_eq_getElem?_getD,List.getElem?_eq_getElem hk,Option.getD_some] at hn ⊢
 rw [if_neg hn]
theorem Or_v (A : Option Addr) (c : Nat) (xs : List Int) {n : Nat} (hx : xs.length = n) (hn : n ≤ 1000000) :
 CallV Tryz.prog 96 [.v (.slice A n c)] (fun w=>ArgSl w A n 1 (xs.map fun x=>[encI x])) (I (orI xs)):=by
 refine CallV.of Tryz.func96 rfl aza rfl rfl rfl (by simp [SV.wfs,SV.wf]) (by simp [SV.wfs,SV.wf]) fun w hpre=>?_
 (conv=>whnf);repeat' (first|((with_reducible refine isW ?_;first|refine azg (by omega) (by omega) ?_|refine azc ?_);conv=>whnf)|with_reducible exact rfl|((with_reducible refine aze (by assumption) ?_);conv=>whnf)|((with_reducible refine azd ?_ ?_)<;>(intro hb;(try simp (disch:=omega) only [hbS] at hb)<;>conv=>whnf)))
 refine azr aza (α:=Nat) (fun k=>k≤n∧∀ i,i < k→xs.getD i 0=0) (fun k=>[(8,I k),(7,I n),(6,.v (.slice A n c)),(3,I 0)]) (fun _=>[]) (fun k=>n - k) 0 [] ⟨Nat.zero_le _,fun i hi=>by omega⟩ ?_ ?_
 ·(refine ⟨?_,?_,?_,?_⟩<;>(repeat' ((conv=>whnf);apply And.intro))<;>try (first|exact trivial|decide))
  all_goals first|rfl|exact fun _ _ h=>h|simp [SV.wf,SV.wfs]
 ·rintro k ⟨hk,hz⟩
  (conv=>whnf);repeat' (first|((with_reducible refine isV ?_);first|((first|refine azf aza rfl (hpre.mem (by decide) rfl) rfl ?_ ?_ ?_|(with_reducible refine azq ?_);refine azn _ _ (0) aza rfl rfl rfl (hpre.mem (by decide) rfl) ?_ ?_ ?_|refine azp _ _ (0) aza rfl rfl rfl (hpre.mem (by decide) rfl) ?_ ?_ ?_)<;>first|rfl|omega|with_reducible refine isP ?_|conv=>whnf))|((with_reducible refine isW ?_;first|refine azg (by omega) (by omega) ?_|refine azc ?_);conv=>whnf)|with_reducible exact rfl|((with_reducible refine aze (by assumption) ?_);conv=>whnf)|((with_reducible refine azd ?_ ?_)<;>(intro hb;(try simp (disch:=omega) only [hbS] at hb)<;>conv=>whnf)))
  ·refine ajx rfl rfl ?_ trivial
   exact I_eq (ck6 (by omega) hz hb).symm
  ·refine ⟨k + 1,[],⟨by omega,fun i hi=>?_⟩,?_,by (try dsimp only);omega⟩
   ·by_cases e : i=k
    ·rw [e];exact hb
    ·exact hz i (by omega)
   ·(refine ⟨?_,?_,?_,?_⟩<;>(repeat' ((conv=>whnf);apply And.intro))<;>try (first|exact trivial|decide))
    all_goals first|rfl|exact fun _ _ h=>h|simp [SV.wf,SV.wfs]
  ·refine ajx rfl rfl ?_ trivial
   refine I_eq ?_
   rw [av1 (k:=k) (by omega) hz,List.drop_eq_nil_of_le (by omega)]
   rfl
def bwa (a b : azx) : Int := orI [cmpI a.2 b.2, cmpI a.1 b.1]
theorem aw7 (a b : azx) : bwa a b < 0 ↔ befB a b = true := by
 rw [aw6]
 simp only [bwa,orI,cmpI]
 repeat' split
 all_goals omega
theorem bqy (n m : Int) (h0 : 0 ≤ m) (h1 : m ≤ 9000000000000000000) : PureD Tryz.prog 146 [I n, I m] (B (szB n m)) := by
 refine PureD.of Tryz.func146 rfl aza rfl rfl rfl (by simp [SV.wfs,SV.wf]) (by simp [SV.wfs,SV.wf]) fun w=>?_
 (conv=>whnf);repeat' (first|((with_reducible refine isW ?_;first|refine azg (by omega) (by omega) ?_|refine azc ?_);conv=>whnf)|with_reducible exact rfl|((with_reducible refine aze (by assumption) ?_);conv=>whnf)|((with_reducible refine azd ?_ ?_)<;>(intro hb;(try simp (disch:=omega) only [hbS] at hb)<;>conv=>whnf)))
 all_goals refine ajx rfl rfl ?_ trivial
 all_goals simp [szB]
 all_goals omega
theorem cz7 (a b : azx) : PureD Tryz.prog 125 [.a [I a.1, I a.2], .a [I b.1, I b.2]] (I (bwa a b)) := by
 refine PureD.of Tryz.func125 rfl aza rfl rfl rfl (by simp [SV.wfs,SV.wf]) (by simp [SV.wfs,SV.wf]) fun w=>?_
 (conv=>whnf);repeat' (first|((with_reducible refine isC ?_);first|((with_reducible refine aq3 (akv _ _) ?_)<;>first|omega|with_reducible refine isP ?_|conv=>whnf)|(refine aje (Or_v _ _ [cmpI a.2 b.2,cmpI a.1 b.1] rfl (by decide)) (ArgSl.row 2 rfl) ?_;conv=>whnf))|((with_reducible refine isO ?_);first|((first|(refine azh aza rfl rfl rfl ?_);intro bN|(refine azm aza rfl rfl rfl rfl rfl ?_);intro bN);conv=>whnf))|((first|refine azj aza azt ?_|refine azi (by kernel_rfl) ?_|with_reducible refine azo ?_ ?_)<;>conv=>whnf)|with_reducible exact rfl|((with_reducible refine aze (by assumption) ?_);conv=>whnf)|((with_reducible refine azd ?_ ?_)<;>(intro hb;(try simp (disch:=omega) only [hbS] at hb)<;>conv=>whnf)))
 exact ajx rfl rfl rfl trivial
theorem cz8 (e : EntT) : PureD Tryz.prog 135 [.a [I e.1, I e.2.1, I e.2.2.1, I e.2.2.2]] (B (aq0 e)) := by
 refine PureD.of Tryz.func135 rfl aza rfl rfl rfl (by simp [SV.wfs,SV.wf]) (by simp [SV.wfs,SV.wf]) fun w=>?_
 (conv=>whnf);repeat' (first|((with_reducible refine isC ?_);first|((with_reducible refine aq3 (bqy _ _ ?_ ?_) ?_)<;>first|omega|with_reducible refine isP ?_|conv=>whnf))|with_reducible exact rfl|((with_reducible refine aze (by assumption) ?_);conv=>whnf)|((with_reducible refine azd ?_ ?_)<;>(intro hb;(try simp (disch:=omega) only [hbS] at hb)<;>conv=>whnf)))
 all_goals refine ajx rfl rfl ?_ trivial
 all_goals simp [aq0,hb]
theorem good_d (e : EntT) : PureD Tryz.prog 124 [.a [I e.1, I e.2.1, I e.2.2.1, I e.2.2.2]] (B (axo e)) := by
 refine PureD.of Tryz.func124 rfl aza rfl rfl rfl (by simp [SV.wfs,SV.wf]) (by simp [SV.wfs,SV.wf]) fun w=>?_
 (conv=>whnf);repeat' (first|((with_reducible refine isC ?_);first|((first|with_reducible refine aq3 (bqy _ _ ?_ ?_) ?_|with_reducible refine aq3 (cz8 e) ?_)<;>first|omega|with_reducible refine isP ?_|conv=>whnf))|with_reducible exact rfl|((with_reducible refine aze (by assumption) ?_);conv=>whnf)|((with_reducible refine azd ?_ ?_)<;>(intro hb;(try simp (disch:=omega) only [hbS] at hb)<;>conv=>whnf)))
 all_goals refine ajx rfl rfl ?_ trivial
 all_goals simp_all [axo]
theorem bz4 (A : Option Addr) (c : Nat) (l : List EntT) {n : Nat} (hl : l.length = n) (hn : n ≤ maxLen) :
 CallV Tryz.prog 92 [.v (.slice A n c)] (fun w=>ArgSl w A n 4 (l.map encE)) (B (vE l)):=by
 unfold maxLen at hn
 refine CallV.of Tryz.func92 rfl aza rfl rfl rfl (by simp [SV.wfs,SV.wf]) (by simp [SV.wfs,SV.wf]) fun w hpre=>?_
 (conv=>whnf);repeat' (first|((with_reducible refine isW ?_;first|refine azg (by omega) (by omega) ?_|refine azc ?_);conv=>whnf)|((first|refine azj aza azt ?_|refine azi (by kernel_rfl) ?_|with_reducible refine azo ?_ ?_)<;>conv=>whnf)|with_reducible exact rfl|((with_reducible refine aze (by assumption) ?_);conv=>whnf)|((with_reducible refine azd ?_ ?_)<;>(intro hb;(try simp (disch:=omega) only [hbS] at hb)<;>conv=>whnf)))
 refine azr aza (α:=Nat) (fun k=>k≤n∧∀ j,j < k→okAt l j=true) (fun k=>[(7,I k),(6,I n),(5,.v (.slice A n c)),(0,.v (.slice A n c))]) (fun _=>[]) (fun k=>n - k) 0 [] ⟨Nat.zero_le _,fun i hi=>by omega⟩ ?_ ?_
 ·(refine ⟨?_,?_,?_,?_⟩<;>(repeat' ((conv=>whnf);apply And.intro))<;>try (first|exact trivial|decide))
  all_goals first|rfl|exact fun _ _ h=>h|simp [SV.wf,SV.wfs]
 ·rintro k ⟨hk,hz⟩
  (conv=>whnf);repeat' (first|((with_reducible refine isC ?_);first|((first|with_reducible refine aq3 (good_d (l.getD k e0)) ?_|with_reducible refine aq3 (cz7 (_,_) (_,_)) ?_)<;>first|omega|with_reducible refine isP ?_|conv=>whnf))|((with_reducible refine isV ?_);first|((first|refine azf aza rfl (hpre.mem (by decide) rfl) rfl ?_ ?_ ?_|(with_reducible refine azq ?_);refine azw _ _ (e0) aza rfl rfl rfl rfl (hpre.mem (by decide) rfl) ?_ ?_ ?_|refine azy _ _ (e0) aza rfl rfl rfl rfl (hpre.mem (by decide) rfl) ?_ ?_ ?_)<;>first|rfl|omega|with_reducible refine isP ?_|conv=>whnf)|((first|(with_reducible refine az1 ?_);refine az9 _ _ (e0) _ aza rfl rfl rfl (hpre.mem (by decide) rfl) ?_ ?_ rfl rfl ?_|refine aqd _ _ (e0) _ aza rfl rfl rfl (hpre.mem (by decide) rfl) ?_ ?_ rfl rfl ?_)<;>first|omega|with_reducible refine isP ?_|conv=>whnf))|((with_reducible refine isW ?_;first|refine azg (by omega) (by omega) ?_|refine azc ?_);conv=>whnf)|((first|refine azj aza azt ?_|refine azi (by kernel_rfl) ?_|with_reducible refine azo ?_ ?_)<;>conv=>whnf)|with_reducible exact rfl|((with_reducible refine aze (by assumption) ?_);conv=>whnf)|((with_reducible refine azd ?_ ?_)<;>(intro hb;(try simp (disch:=omega) only [hbS] at hb)<;>conv=>whnf)))
  ·refine ajx rfl rfl ?_ trivial
   rw [ck5 (k:=k) (by omega) (by simp only [okAt,hb,Bool.false_and])]
  ·refine ajx rfl rfl ?_ trivial
   have e : ((k : Int) - 1).toNat=k - 1:=by omega
   rw [e] at hb
   have hbf : befB (l.getD (k - 1) e0).cell (l.getD k e0).cell=false:=by
    have:=mt (aw7 (l.getD (k - 1) e0).cell (l.getD k e0).cell).2 (Int.not_lt.2 hb)
    simpa using this
   have hk0 : ¬ k=0:=by omega
   rw [ck5 (k:=k) (by omega) (by simp only [okAt,hbf,hk0];simp)]
  ·refine ⟨k + 1,[],⟨by omega,fun j hj=>?_⟩,?_,by (try dsimp only);omega⟩
   ·by_cases e : j=k
    ·rw [e]
     have e : ((k : Int) - 1).toNat=k - 1:=by omega
     rw [e] at hb
     have hbf:=(aw7 (l.getD (k - 1) e0).cell (l.getD k e0).cell).1 hb
     simp only [okAt,hbf]
     simp_all
    ·exact hz j (by omega)
   ·(refine ⟨?_,?_,?_,?_⟩<;>(repeat' ((conv=>whnf);apply And.intro))<;>try (first|exact trivial|decide))
    all_goals first|rfl|exact fun _ _ h=>h|simp [SV.wf,SV.wfs]
  ·refine ⟨k + 1,[],⟨by omega,fun j hj=>?_⟩,?_,by (try dsimp only);omega⟩
   ·by_cases e : j=k
    ·have hk0 : k=0:=by omega
     rw [e]
     simp only [okAt,hk0]
     simp_all
    ·exact hz j (by omega)
   ·(refine ⟨?_,?_,?_,?_⟩<;>(repeat' ((conv=>whnf);apply And.intro))<;>try (first|exact trivial|decide))
    all_goals first|rfl|exact fun _ _ h=>h|simp [SV.wf,SV.wfs]
  ·refine ajx rfl rfl ?_ trivial
   obtain rfl : k=n:=by omega
   rw [vE_end (by rw [hl];exact hz),hl]
   congr 2
   refine decide_eq_decide.2 ?_
   omega
theorem size_x (n m : Int) (h0 : 0 ≤ m) (h1 : m ≤ 1000000000) : PureX Tryz.prog 102 [I n, I m] (B (szB n m)) := by
 refine PureX.of Tryz.func102 rfl aza rfl rfl rfl (by simp [SV.wfs,SV.wf]) (by simp [SV.wfs,SV.wf]) fun w=>?_
 (conv=>whnf);repeat' (first|((with_reducible refine isW ?_;first|refine azg (by omega) (by omega) ?_|refine azc ?_);conv=>whnf)|with_reducible exact rfl|((with_reducible refine aze (by assumption) ?_);conv=>whnf)|((with_reducible refine azd ?_ ?_)<;>(intro hb;(try simp (disch:=omega) only [hbS] at hb)<;>conv=>whnf)))
 all_goals refine azk rfl ?_ trivial
 all_goals simp [szB]
 all_goals omega
theorem cjh (q x y : Int) : PureX Tryz.prog 91 [.a [I q, I x, I y]] (B (szB x 8192 && szB y 8192)) := by
 refine PureX.of Tryz.func91 rfl aza rfl rfl rfl (by simp [SV.wfs,SV.wf]) (by simp [SV.wfs,SV.wf]) fun w=>?_
 (conv=>whnf);repeat' (first|((with_reducible refine isC ?_);first|((with_reducible refine azb (size_x _ _ ?_ ?_) ?_)<;>first|omega|with_reducible refine isP ?_|conv=>whnf))|with_reducible exact rfl|((with_reducible refine aze (by assumption) ?_);conv=>whnf)|((with_reducible refine azd ?_ ?_)<;>(intro hb;(try simp (disch:=omega) only [hbS] at hb)<;>conv=>whnf)))
 all_goals refine azk rfl ?_ trivial
 all_goals simp [hb]
theorem turned_x (q x y : Int) (hx : -4000000000 ≤ x ∧ x ≤ 4000000000) (hy : -4000000000 ≤ y ∧ y ≤ 4000000000) : PureX Tryz.prog 126 [I q, I x, I y] (.t [I (tX (q % 4) x y), I (tY (q % 4) x y)]) := by
 refine PureX.of Tryz.func126 rfl aza rfl rfl rfl (by simp [SV.wfs,SV.wf]) (by simp [SV.wfs,SV.wf]) fun w=>?_
 (conv=>whnf);repeat' (first|((with_reducible refine isW ?_;first|refine azg (by omega) (by omega) ?_|refine azc ?_);conv=>whnf)|with_reducible exact rfl|((with_reducible refine aze (by assumption) ?_);conv=>whnf)|((with_reducible refine azd ?_ ?_)<;>(intro hb;(try simp (disch:=omega) only [hbS] at hb)<;>conv=>whnf)))
 refine azr aza (fun k : Nat=>(k : Int)≤q % 4) (fun k=>[(10,I k),(9,I (q % 4)),(1,I (tX k x y)),(2,I (tY k x y))]) (fun _=>[]) (fun k=>(q % 4).toNat - k) 0 [] (by omega) ?_ ?_
 ·(refine ⟨?_,?_,?_,?_⟩<;>(repeat' ((conv=>whnf);apply And.intro))<;>try (first|exact trivial|decide))
  all_goals first|rfl|simp [SV.ren,and3,tX,tY]
 ·intro k hk
  (conv=>whnf);repeat' (first|((with_reducible refine isW ?_;first|refine azg (by omega) (by omega) ?_|refine azc ?_);conv=>whnf)|with_reducible exact rfl|((with_reducible refine aze (by assumption) ?_);conv=>whnf)|((with_reducible refine azd ?_ ?_)<;>(intro hb;(try simp (disch:=omega) only [hbS] at hb)<;>conv=>whnf)))
  ·refine ⟨k + 1,[],by omega,?_,show (q % 4).toNat - (k + 1) < (q % 4).toNat - k by omega⟩
   obtain rfl|rfl|rfl : k=0∨k=1∨k=2:=by omega
   all_goals (refine ⟨?_,?_,?_,?_⟩<;>(repeat' ((conv=>whnf);apply And.intro))<;>try (first|exact trivial|decide))
   all_goals first|rfl|(refine I_eq ?_;first|(simp [tX,tY];done)|(simp [tX,tY];rw [wr]<;>omega))
  ·obtain h : (k : Int)=q % 4:=by omega
   rw [h]
   exact azk rfl rfl (by simp [SV.wf,SV.wfs])
theorem PureX.mk' {P : Program} {f : FuncId} {args : List SV} {x : SV} (hen : Entr P f) (hx : x.wf 0) (hw : SV.wfs 0 args) (h : ∀ w, Calls P f (SV.vals (fun _ => 0) args).toArray w fun e w' => e = .returned (x.val fun _ => 0) ∧ Below w.heap.size w w') : PureX P f args x := by
 refine ⟨hen,hx,fun σ w=>?_⟩
 have h1:=h w
 rw [SV.vals_ext (n:=0) (σ:=σ) (σ':=fun _=>0) (by simp) args hw] at h1
 rw [SV.val_ext (n:=0) (σ:=σ) (σ':=fun _=>0) (by simp) x hx] at h1
 exact h1
theorem aqu (n m : Int) (h1 : 1 ≤ m) (h2 : m ≤ 1000000000000) : PureX Tryz.prog 36 [I n, I m] (I (n % m)) :=
 PureX.mk' (Entr.of Tryz.func36 rfl rfl) trivial ⟨trivial,trivial,trivial⟩ fun w=>(bxf n m w h1 h2).mono fun e w' ⟨he,hw⟩=>⟨he,hw ▸ Below.refl _ _⟩
theorem ajz (n m : Int) (h0 : 0 ≤ m) (h1 : m ≤ 9000000000000000000) : PureX Tryz.prog 85 [I n, I m] (B (szB n m)) := by
 refine PureX.of Tryz.func85 rfl aza rfl rfl rfl (by simp [SV.wfs,SV.wf]) (by simp [SV.wfs,SV.wf]) fun w=>?_
 (conv=>whnf);repeat' (first|((with_reducible refine isW ?_;first|refine azg (by omega) (by omega) ?_|refine azc ?_);conv=>whnf)|with_reducible exact rfl|((with_reducible refine aze (by assumption) ?_);conv=>whnf)|((with_reducible refine azd ?_ ?_)<;>(intro hb;(try simp (disch:=omega) only [hbS] at hb)<;>conv=>whnf)))
 all_goals refine azk rfl ?_ trivial
 all_goals simp [szB]
 all_goals omega
theorem bwb (q x y : Int) : PureX Tryz.prog 61 [.a [I q, I x, I y]] (B (szB x 8192 && szB y 8192)) := by
 refine PureX.of Tryz.func61 rfl aza rfl rfl rfl (by simp [SV.wfs,SV.wf]) (by simp [SV.wfs,SV.wf]) fun w=>?_
 (conv=>whnf);repeat' (first|((with_reducible refine isC ?_);first|((with_reducible refine azb (ajz _ _ ?_ ?_) ?_)<;>first|omega|with_reducible refine isP ?_|conv=>whnf))|with_reducible exact rfl|((with_reducible refine aze (by assumption) ?_);conv=>whnf)|((with_reducible refine azd ?_ ?_)<;>(intro hb;(try simp (disch:=omega) only [hbS] at hb)<;>conv=>whnf)))
 all_goals refine azk rfl ?_ trivial
 all_goals simp [hb]
theorem turn_x (q x y : Int) (hx : -4000000000 ≤ x ∧ x ≤ 4000000000) (hy : -4000000000 ≤ y ∧ y ≤ 4000000000) : PureX Tryz.prog 105 [I q, I x, I y] (.t [I (tX (q % 4) x y), I (tY (q % 4) x y)]) := by
 refine PureX.of Tryz.func105 rfl aza rfl rfl rfl (by simp [SV.wfs,SV.wf]) (by simp [SV.wfs,SV.wf]) fun w=>?_
 (conv=>whnf);repeat' (first|((with_reducible refine isC ?_);first|((with_reducible refine azb (aqu _ _ ?_ ?_) ?_)<;>first|omega|with_reducible refine isP ?_|conv=>whnf))|((with_reducible refine isW ?_;first|refine azg (by omega) (by omega) ?_|refine azc ?_);conv=>whnf)|with_reducible exact rfl|((with_reducible refine aze (by assumption) ?_);conv=>whnf)|((with_reducible refine azd ?_ ?_)<;>(intro hb;(try simp (disch:=omega) only [hbS] at hb)<;>conv=>whnf)))
 all_goals refine azk rfl ?_ (by simp [SV.wf,SV.wfs])
 all_goals
  have e : (tX (q % 4) x y=x∧tY (q % 4) x y=y∧q % 4=0)∨(tX (q % 4) x y=0 - y∧tY (q % 4) x y=x∧q % 4=1)∨(tX (q % 4) x y=0 - x∧tY (q % 4) x y=0 - y∧q % 4=2)∨(tX (q % 4) x y=y∧tY (q % 4) x y=0 - x∧q % 4=3):=by
   have h4 : q % 4=0∨q % 4=1∨q % 4=2∨q % 4=3:=by omega
   rcases h4 with h|h|h|h<;>simp [h,tX,tY]
  rcases e with ⟨e1,e2,e3⟩|⟨e1,e2,e3⟩|⟨e1,e2,e3⟩|⟨e1,e2,e3⟩
  all_goals first
   | (rw [e1,e2];done)
   | (exfalso;omega)
abbrev FrT := Int × Int × Int
def ajt (f : FrT) (c : azx) : azx × Int :=
 if szB f.2.1 8192 && szB f.2.2 8192 && szB c.1 16384 && szB c.2 16384 then
  if szB (min (tX (f.1 % 4) c.1 c.2) (tX (f.1 % 4) (c.1 + 1) (c.2 + 1)) + f.2.1) 16384 && szB (min (tY (f.1 % 4) c.1 c.2) (tY (f.1 % 4) (c.1 + 1) (c.2 + 1)) + f.2.2) 16384 then
   ((min (tX (f.1 % 4) c.1 c.2) (tX (f.1 % 4) (c.1 + 1) (c.2 + 1)) + f.2.1,min (tY (f.1 % 4) c.1 c.2) (tY (f.1 % 4) (c.1 + 1) (c.2 + 1)) + f.2.2),0)
  else ((0,0),2)
 else ((0,0),1)
theorem ajc {n m : Int} (h : szB n m = true) : -m ≤ n ∧ n ≤ m := by simpa [szB] using h
theorem bkr {q x y m : Int} (h : -m ≤ x ∧ x ≤ m ∧ -m ≤ y ∧ y ≤ m) : -m ≤ tX q x y ∧ tX q x y ≤ m ∧ -m ≤ tY q x y ∧ tY q x y ≤ m := by
 unfold tX tY
 repeat' split
 all_goals omega
set_option maxHeartbeats 2000000 in
theorem Cell_x (f : FrT) (c : azx) : PureX Tryz.prog 93 [.a [I f.1, I f.2.1, I f.2.2], .a [I c.1, I c.2]] (.t [.a [I (ajt f c).1.1, I (ajt f c).1.2], I (ajt f c).2]) := by
 cases h : (szB f.2.1 8192 && szB f.2.2 8192 && szB c.1 16384 && szB c.2 16384) with
 | false =>
   refine PureX.of Tryz.func93 rfl aza rfl rfl rfl (by simp [SV.wfs,SV.wf]) (by simp [SV.wfs,SV.wf]) fun w=>?_
   (conv=>whnf);repeat' (first|((with_reducible refine isC ?_);first|((first|with_reducible refine azb (cjh _ _ _) ?_|with_reducible refine azb (size_x _ _ ?_ ?_) ?_)<;>first|omega|with_reducible refine isP ?_|conv=>whnf))|((with_reducible refine isW ?_;first|refine azg (by omega) (by omega) ?_|refine azc ?_);conv=>whnf)|with_reducible exact rfl|((with_reducible refine aze (by assumption) ?_);conv=>whnf)|((with_reducible refine azd ?_ ?_)<;>(intro hb;(try simp (disch:=omega) only [hbS] at hb)<;>conv=>whnf)))
   all_goals try (exfalso;simp_all;done)
   all_goals refine azk rfl ?_ (by simp [SV.wf,SV.wfs])
   all_goals simp only [ajt,h]
   all_goals rfl
 | true =>
   simp only [Bool.and_eq_true] at h
   have b1:=ajc h.1.1.1
   have b2:=ajc h.1.1.2
   have b3:=ajc h.1.2
   have b4:=ajc h.2
   have t1:=bkr (q:=f.1 % 4) (x:=c.1) (y:=c.2) (m:=16384) (by omega)
   have t2:=bkr (q:=f.1 % 4) (x:=c.1 + 1) (y:=c.2 + 1) (m:=16385) (by omega)
   refine PureX.of Tryz.func93 rfl aza rfl rfl rfl (by simp [SV.wfs,SV.wf]) (by simp [SV.wfs,SV.wf]) fun w=>?_
   (conv=>whnf);repeat' (first|((with_reducible refine isC ?_);first|((first|with_reducible refine azb (cjh _ _ _) ?_|with_reducible refine azb (size_x _ _ ?_ ?_) ?_|with_reducible refine azb (turned_x _ _ _ ?_ ?_) ?_)<;>first|omega|with_reducible refine isP ?_|conv=>whnf))|((with_reducible refine isW ?_;first|refine azg (by omega) (by omega) ?_|refine azc ?_);conv=>whnf)|with_reducible exact rfl|((with_reducible refine aze (by assumption) ?_);conv=>whnf)|((with_reducible refine azd ?_ ?_)<;>(intro hb;(try simp (disch:=omega) only [hbS] at hb)<;>conv=>whnf)))
   all_goals try (exfalso;simp_all;done)
   all_goals refine azk rfl ?_ (by simp [SV.wf,SV.wfs])
   all_goals simp only [ajt]
   all_goals rw [if_pos (by simp [h.1.1.1,h.1.1.2,h.1.2,h.2])]
   all_goals first
    | (rw [if_pos (by simp [*])];done)
    | (rw [if_neg (by simp [*])];done)
set_option maxHeartbeats 2000000 in
theorem rCell_x (f : FrT) (c : azx) : PureX Tryz.prog 63 [.a [I f.1, I f.2.1, I f.2.2], .a [I c.1, I c.2]] (.t [.a [I (ajt f c).1.1, I (ajt f c).1.2], I (ajt f c).2]) := by
 cases h : (szB f.2.1 8192 && szB f.2.2 8192 && szB c.1 16384 && szB c.2 16384) with
 | false =>
   refine PureX.of Tryz.func63 rfl aza rfl rfl rfl (by simp [SV.wfs,SV.wf]) (by simp [SV.wfs,SV.wf]) fun w=>?_
   (conv=>whnf);repeat' (first|((with_reducible refine isC ?_);first|((first|with_reducible refine azb (bwb _ _ _) ?_|with_reducible refine azb (ajz _ _ ?_ ?_) ?_)<;>first|omega|with_reducible refine isP ?_|conv=>whnf))|((with_reducible refine isW ?_;first|refine azg (by omega) (by omega) ?_|refine azc ?_);conv=>whnf)|with_reducible exact rfl|((with_reducible refine aze (by assumption) ?_);conv=>whnf)|((with_reducible refine azd ?_ ?_)<;>(intro hb;(try simp (disch:=omega) only [hbS] at hb)<;>conv=>whnf)))
   all_goals try (exfalso;simp_all;done)
   all_goals refine azk rfl ?_ (by simp [SV.wf,SV.wfs])
   all_goals simp only [ajt,h]
   all_goals rfl
 | true =>
   simp only [Bool.and_eq_true] at h
   have b1:=ajc h.1.1.1
   have b2:=ajc h.1.1.2
   have b3:=ajc h.1.2
   have b4:=ajc h.2
   have t1:=bkr (q:=f.1 % 4) (x:=c.1) (y:=c.2) (m:=16384) (by omega)
   have t2:=bkr (q:=f.1 % 4) (x:=c.1 + 1) (y:=c.2 + 1) (m:=16385) (by omega)
   refine PureX.of Tryz.func63 rfl aza rfl rfl rfl (by simp [SV.wfs,SV.wf]) (by simp [SV.wfs,SV.wf]) fun w=>?_
   (conv=>whnf);repeat' (first|((with_reducible refine isC ?_);first|((first|with_reducible refine azb (bwb _ _ _) ?_|with_reducible refine azb (ajz _ _ ?_ ?_) ?_|with_reducible refine azb (turn_x _ _ _ ?_ ?_) ?_)<;>first|omega|with_reducible refine isP ?_|conv=>whnf))|((with_reducible refine isW ?_;first|refine azg (by omega) (by omega) ?_|refine azc ?_);conv=>whnf)|with_reducible exact rfl|((with_reducible refine aze (by assumption) ?_);conv=>whnf)|((with_reducible refine azd ?_ ?_)<;>(intro hb;(try simp (disch:=omega) only [hbS] at hb)<;>conv=>whnf)))
   all_goals try (exfalso;simp_all;done)
   all_goals refine azk rfl ?_ (by simp [SV.wf,SV.wfs])
   all_goals simp only [ajt]
   all_goals rw [if_pos (by simp [h.1.1.1,h.1.1.2,h.1.2,h.2])]
   all_goals first
    | (rw [if_pos (by simp [*])];done)
    | (rw [if_neg (by simp [*])];done)
end Go.Proofs.YtlnplelandimeaaGreat.En
end
section
namespace Go.Proofs.YtlnplelandimeaaGreat
open Go.RowKit
set_option maxHeartbeats 400000 in
theorem bx1 (fq fx fy gq gx gy : Int) (w : World) (h1 : -1000000000 ≤ fx) (h2 : fx ≤ 1000000000) (h3 : -1000000000 ≤ fy) (h4 : fy ≤ 1000000000)
 (h5 : -1000000000≤gx) (h6 : gx≤1000000000) (h7 : -1000000000≤gy) (h8 : gy≤1000000000) :
 Calls Tryz.prog 103 #[.agg #[.int .i64 fq,.int .i64 fx,.int .i64 fy],.agg #[.int .i64 gq,.int .i64 gx,.int .i64 gy]] w fun e w' =>
  e = .returned (.agg #[.int .i64 ((fq + gq) % 4),.int .i64 (tX (fq % 4) gx gy + fx),.int .i64 (tY (fq % 4) gx gy + fy)]) ∧
  ((w.alloc (.cells #[.int .i64 fq,.int .i64 fx,.int .i64 fy] 37)).alloc (.cells #[.int .i64 gq,.int .i64 gx,.int .i64 gy] 37)).alloc
   (.cells #[.int .i64 ((fq + gq) % 4),.int .i64 (tX (fq % 4) gx gy + fx),.int .i64 (tY (fq % 4) gx gy + fy)] 37)=w':=by
 have ha:=and3
 obtain ⟨b1,b2⟩:=cx7 (fq % 4) gx gy 1000000000 h5 h6 h7 h8
 obtain ⟨b3,b4⟩:=cx8 (fq % 4) gx gy 1000000000 h5 h6 h7 h8
 go_enter Tryz.func103,Tryz.ntmps103
 go_wp2_with (go_at_call 126;refine (bkc _ _ _ _ (by omega) (by omega) (by omega) (by omega)).mono ?_;rintro e w' ⟨rfl,rfl⟩)
 exact bodyPost_ret (v:=.agg #[.int .i64 ((fq + gq) % 4),.int .i64 (tX (fq % 4) gx gy + fx),.int .i64 (tY (fq % 4) gx gy + fy)]) (by simp [results,Tryz.results103,go_sem]) rfl
  ⟨rfl,rfl⟩
def CmpV (fq fx fy gq gx gy : Int) : Value :=
 if szB fx 8192 && szB fy 8192 && (szB gx 8192 && szB gy 8192) then
  if szB (tX (fq % 4) gx gy + fx) 8192 && szB (tY (fq % 4) gx gy + fy) 8192 then
   .tuple #[.agg #[.int .i64 ((fq + gq) % 4),.int .i64 (tX (fq % 4) gx gy + fx),.int .i64 (tY (fq % 4) gx gy + fy)],.int .i64 0]
  else .tuple #[.agg #[.int .i64 0,.int .i64 0,.int .i64 0],.int .i64 2]
 else .tuple #[.agg #[.int .i64 0,.int .i64 0,.int .i64 0],.int .i64 1]
theorem bwc {n k m : Int} (h : (szB n m && szB k m) = true) : -m ≤ n ∧ n ≤ m ∧ -m ≤ k ∧ k ≤ m := by
 simp [szB] at h;omega
end Go.Proofs.YtlnplelandimeaaGreat
namespace Go.Proofs.YtlnplelandimeaaGreat
open Go.RowKit
theorem wneg4 (q : Int) : wrap64 (-q) % 4 = (-q) % 4 := by unfold wrap64; omega
set_option maxHeartbeats 400000 in
theorem bx2 (fq fx fy : Int) (w : World) (h1 : -1000000000 ≤ fx) (h2 : fx ≤ 1000000000) (h3 : -1000000000 ≤ fy) (h4 : fy ≤ 1000000000) :
 Calls Tryz.prog 104 #[.agg #[.int .i64 fq,.int .i64 fx,.int .i64 fy]] w fun e w' =>
  e = .returned (.agg #[.int .i64 ((-fq) % 4),.int .i64 (tX ((-fq) % 4) (-fx) (-fy)),.int .i64 (tY ((-fq) % 4) (-fx) (-fy))]) ∧
  (w.alloc (.cells #[.int .i64 fq,.int .i64 fx,.int .i64 fy] 37)).alloc (.cells #[.int .i64 ((-fq) % 4),.int .i64 (tX ((-fq) % 4) (-fx) (-fy)),.int .i64 (tY ((-fq) % 4) (-fx) (-fy))] 37)=w':=by
 have ha:=and3
 have hb:=wneg4
 go_enter Tryz.func104,Tryz.ntmps104
 go_wp2_with (go_at_call 126;refine (bkc _ _ _ _ (by omega) (by omega) (by omega) (by omega)).mono ?_;rintro e w' ⟨rfl,rfl⟩)
 exact bodyPost_ret (v:=.agg #[.int .i64 ((-fq) % 4),.int .i64 (tX ((-fq) % 4) (-fx) (-fy)),.int .i64 (tY ((-fq) % 4) (-fx) (-fy))]) (by simp [results,Tryz.results104,go_sem]) rfl
  ⟨rfl,rfl⟩
def InvV (fq fx fy : Int) : Value :=
 if szB fx 8192 && szB fy 8192 then .tuple #[.agg #[.int .i64 ((-fq) % 4),.int .i64 (tX ((-fq) % 4) (-fx) (-fy)),.int .i64 (tY ((-fq) % 4) (-fx) (-fy))],.int .i64 0]
 else .tuple #[.agg #[.int .i64 0,.int .i64 0,.int .i64 0],.int .i64 1]
set_option maxHeartbeats 400000 in
theorem cji (fq fx fy : Int) (w : World) :
 Calls Tryz.prog 111 #[.agg #[.int .i64 fq,.int .i64 fx,.int .i64 fy]] w fun e w'=>e = .returned (InvV fq fx fy)∧Below w.heap.size w w':=by
 cases hf : (szB fx 8192 && szB fy 8192)
 ·have HS:=Lib.hid (show InvV fq fx fy = .tuple #[.agg #[.int .i64 0,.int .i64 0,.int .i64 0],.int .i64 1] by simp [InvV,hf])
  go_enter Tryz.func111,Tryz.ntmps111
  go_wp2_with (go_at_call 91;refine (czi _ _ _ _).mono ?_;rintro e w1 ⟨rfl,rfl⟩)
  refine bodyPost_ret (v:=.tuple #[.agg #[.int .i64 0,.int .i64 0,.int .i64 0],.int .i64 1]) (by simp [results,Tryz.results111,go_sem]) rfl ⟨by rw [HS.out],?_⟩
  repeat (first|exact aqx _|refine aqa ?_ _)
 ·have HS:=Lib.hid (show InvV fq fx fy = .tuple #[.agg #[.int .i64 ((-fq) % 4),.int .i64 (tX ((-fq) % 4) (-fx) (-fy)),.int .i64 (tY ((-fq) % 4) (-fx) (-fy))],.int .i64 0] by simp [InvV,hf])
  obtain ⟨f1,f2,f3,f4⟩:=bwc hf
  go_enter Tryz.func111,Tryz.ntmps111
  go_wp2_with (first|(go_at_call 91;refine (czi _ _ _ _).mono ?_;rintro e w1 ⟨rfl,rfl⟩)|(go_at_call 104;refine (bx2 _ _ _ _ (by omega) (by omega) (by omega) (by omega)).mono ?_;rintro e w1 ⟨rfl,rfl⟩))
  refine bodyPost_ret (v:=.tuple #[.agg #[.int .i64 ((-fq) % 4),.int .i64 (tX ((-fq) % 4) (-fx) (-fy)),.int .i64 (tY ((-fq) % 4) (-fx) (-fy))],.int .i64 0]) (by simp [results,Tryz.results111,go_sem]) rfl ⟨by rw [HS.out],?_⟩
  repeat (first|exact aqx _|refine aqa ?_ _)
end Go.Proofs.YtlnplelandimeaaGreat
namespace Go.Proofs.YtlnplelandimeaaGreat
open Go.RowKit
def PtV (fq fx fy x y : Int) : Value :=
 if szB fx 8192 && szB fy 8192 && (szB x 1048576 && szB y 1048576) then
  if szB (tX (fq % 4) x y + 64 * fx) 1048576 && szB (tY (fq % 4) x y + 64 * fy) 1048576 then .tuple #[.agg #[.int .i64 (tX (fq % 4) x y + 64 * fx),.int .i64 (tY (fq % 4) x y + 64 * fy)],.int .i64 0]
  else .tuple #[.agg #[.int .i64 0,.int .i64 0],.int .i64 2]
 else .tuple #[.agg #[.int .i64 0,.int .i64 0],.int .i64 1]
end Go.Proofs.YtlnplelandimeaaGreat
namespace Go.Proofs.YtlnplelandimeaaGreat
open Go.RowKit
end Go.Proofs.YtlnplelandimeaaGreat
end
