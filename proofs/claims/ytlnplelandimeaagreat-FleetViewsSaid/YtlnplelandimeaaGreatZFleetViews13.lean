import Derived.Test.YtlnplelandimeaaGreatZFleetViews09
import Derived.Test.YtlnplelandimeaaGreatZFleetViews08
import Derived.Shelf.SlSortCmp.WholeK
import Derived.Shelf.SlSortCmp.NoneTotal
set_option linter.all false
section
namespace Go.Proofs.YtlnplelandimeaaGreat.En
open Go.RowKit
set_option maxRecDepth 100000
theorem bq0 (a b : azx) : PureX Tryz.prog 64 [.a [I a.1, I a.2], .a [I b.1, I b.2]] (B (befB a b)) := by
 refine PureX.of Tryz.func64 rfl aza rfl rfl rfl (by simp [SV.wfs,SV.wf]) (by simp [SV.wfs,SV.wf]) fun w=>?_
 (conv=>whnf);repeat' (first|with_reducible exact rfl|((with_reducible refine aze (by assumption) ?_);conv=>whnf)|((with_reducible refine azd ?_ ?_)<;>(intro hb;(try simp (disch:=omega) only [hbS] at hb)<;>conv=>whnf)))
 all_goals refine azk rfl ?_ trivial
 all_goals refine congrArg (fun b=>SV.v (Value.bool b)) ?_
 all_goals rw [Bool.eq_iff_iff,aw6]
 all_goals try simp only [decide_eq_true_eq,Bool.false_eq_true,true_iff,false_iff]
 all_goals omega
theorem rV_bad {l : List EntT} {k : Nat} (hk : k < l.length) (h : axo (l.getD k e0) = false ∨ (k ≠ 0 ∧ befB (l.getD (k - 1) e0).cell (l.getD k e0).cell = false)) : B false = B (vE l) := by
 rw [ck5 hk]
 rcases h with h|⟨h1,h2⟩
 ·simp only [okAt,h,Bool.false_and]
 ·simp only [okAt,h2,h1,decide_false,Bool.or_self,Bool.and_false]
theorem step_ok {l : List EntT} {k : Nat} (hz : ∀ j, j < k → okAt l j = true) (h : axo (l.getD k e0) = true ∧ (k ≠ 0 → befB (l.getD (k - 1) e0).cell (l.getD k e0).cell = true)) : ∀ j, j < k + 1 → okAt l j = true := by
 intro j hj
 by_cases e : j=k
 ·subst e
  by_cases h0 : j=0
  ·simp only [okAt,h.1,h0,decide_true,Bool.true_or,Bool.and_true]
   rw [← h0]
   exact h.1
  ·simp only [okAt,h.1,h.2 h0,Bool.or_true,Bool.and_self]
 ·exact hz j (by omega)
theorem rV_end {l : List EntT} (h : l.length ≤ 1048576) (hz : ∀ j, j < l.length → okAt l j = true) : B true = B (vE l) := by
 rw [vE_end hz,decide_eq_true h]
theorem rVE_w (A : Option Addr) (c : Nat) (l : List EntT) {n : Nat} (hl : l.length = n) (hn : n ≤ maxLen) :
 CallW Tryz.prog 62 [.v (.slice A n c)] (fun w=>ArgSl w A n 4 (l.map encE)) (B (vE l)):=by
 unfold maxLen at hn
 refine CallW.of Tryz.func62 rfl aza rfl rfl rfl (by simp [SV.wfs,SV.wf]) (by simp [SV.wfs,SV.wf]) fun w hpre=>?_
 (conv=>whnf);repeat' (first|((with_reducible refine isW ?_;first|refine azg (by omega) (by omega) ?_|refine azc ?_);conv=>whnf)|((first|refine azj aza azt ?_|refine azi (by kernel_rfl) ?_|with_reducible refine azo ?_ ?_)<;>conv=>whnf)|with_reducible exact rfl|((with_reducible refine aze (by assumption) ?_);conv=>whnf)|((with_reducible refine azd ?_ ?_)<;>(intro hb;(try simp (disch:=omega) only [hbS] at hb)<;>conv=>whnf)))
 ·refine azk rfl ?_ trivial
  rw [bv9 (by omega)]
 refine azr aza (α:=Nat) (fun k=>k≤n∧∀ j,j < k→okAt l j=true) (fun k=>[(3,I k),(0,.v (.slice A n c))]) (fun _=>[]) (fun k=>n - k) 0 [] ⟨Nat.zero_le _,fun i hi=>by omega⟩ ?_ ?_
 ·(refine ⟨?_,?_,?_,?_⟩<;>(repeat' ((conv=>whnf);apply And.intro))<;>try (first|exact trivial|decide))
  all_goals first|rfl|exact fun _ _ h=>h|simp [SV.wf,SV.wfs]
 ·rintro k ⟨hk,hz⟩
  have bad : axo (l.getD k e0)=false→k < n→vE l=false:=fun h hk'=>ck5 (k:=k) (by omega) (by simp only [okAt,h,Bool.false_and])
  (conv=>whnf);repeat' (first|((with_reducible refine isC ?_);first|((first|with_reducible refine azb (ajz _ _ ?_ ?_) ?_|with_reducible refine azb (bq0 (_,_) (_,_)) ?_)<;>first|omega|with_reducible refine isP ?_|conv=>whnf))|((with_reducible refine isV ?_);first|((first|refine azf aza rfl (hpre.mem (by decide) rfl) rfl ?_ ?_ ?_|(with_reducible refine azq ?_);refine azw _ _ (e0) aza rfl rfl rfl rfl (hpre.mem (by decide) rfl) ?_ ?_ ?_|refine azy _ _ (e0) aza rfl rfl rfl rfl (hpre.mem (by decide) rfl) ?_ ?_ ?_)<;>first|rfl|omega|with_reducible refine isP ?_|conv=>whnf)|((first|(with_reducible refine az1 ?_);refine az9 _ _ (e0) _ aza rfl rfl rfl (hpre.mem (by decide) rfl) ?_ ?_ rfl rfl ?_|refine aqd _ _ (e0) _ aza rfl rfl rfl (hpre.mem (by decide) rfl) ?_ ?_ rfl rfl ?_)<;>first|omega|with_reducible refine isP ?_|conv=>whnf))|((with_reducible refine isW ?_;first|refine azg (by omega) (by omega) ?_|refine azc ?_);conv=>whnf)|((first|refine azj aza azt ?_|refine azi (by kernel_rfl) ?_|with_reducible refine azo ?_ ?_)<;>conv=>whnf)|with_reducible exact rfl|((with_reducible refine aze (by assumption) ?_);conv=>whnf)|((with_reducible refine azd ?_ ?_)<;>(intro hb;(try simp (disch:=omega) only [hbS] at hb)<;>conv=>whnf)))
  all_goals try rw [show ((k : Int) - 1).toNat=k - 1 by omega] at hb
  all_goals try (refine azk rfl (rV_bad (k:=k) (l:=l) ?_ ?_) trivial<;>first|omega|(left;simp only [axo,aq0, *];simp;done)|(right;exact ⟨by omega,hb⟩))
  all_goals try (refine azk rfl (rV_end (l:=l) ?_ ?_) trivial<;>first|omega|(intro j hj;exact hz j (by omega)))
  all_goals
   refine ⟨k + 1,[],⟨?_,step_ok hz ⟨?_,?_⟩⟩,?_,?_⟩
  all_goals first
   | omega
   | (dsimp only;omega)
   | ((refine ⟨?_,?_,?_,?_⟩<;>(repeat' ((conv=>whnf);apply And.intro))<;>try (first|exact trivial|decide))<;>first|rfl|exact fun _ _ h=>h|simp [SV.wf,SV.wfs])
   | (intro h0;first|(exfalso;omega)|exact hb)
   | (simp only [axo,aq0, *];simp;done)
   | (simp_all [axo,aq0];done)
theorem Entries_w (A1 A2 : Option Addr) (c1 c2 : Nat) (xs ys : List EntT) {n m : Nat} (hx : xs.length = n) (hy : ys.length = m) (h1 : n ≤ 1000000000) (h2 : m ≤ 1000000000) :
 CallW Tryz.prog 17 [.v (.slice A1 n c1),.v (.slice A2 m c2)] (fun w=>ArgSl w A1 n 4 (xs.map encE)∧ArgSl w A2 m 4 (ys.map encE)) (B (decide (xs=ys))):=by
 refine CallW.of Tryz.func17 rfl aza rfl rfl rfl (by simp [SV.wfs,SV.wf]) (by simp [SV.wfs,SV.wf]) fun w hpre=>?_
 obtain ⟨hA1,hA2⟩:=hpre
 (conv=>whnf);repeat' (first|((with_reducible refine isW ?_;first|refine azg (by omega) (by omega) ?_|refine azc ?_);conv=>whnf)|((first|refine azj aza azt ?_|refine azi (by kernel_rfl) ?_|with_reducible refine azo ?_ ?_)<;>conv=>whnf)|with_reducible exact rfl|((with_reducible refine aze (by assumption) ?_);conv=>whnf)|((with_reducible refine azd ?_ ?_)<;>(intro hb;(try simp (disch:=omega) only [hbS] at hb)<;>conv=>whnf)))
 ·refine azk rfl ?_ trivial
  have : ¬ xs=ys:=by
   rintro rfl
   exact hb (by rw [← hx,← hy])
  simp [this]
 ·refine azr aza (fun k : Nat=>k≤n∧xs.take k=ys.take k) (fun k=>[(5,I k),(0,SV.v (Value.slice A1 n c1)),(1,SV.v (Value.slice A2 m c2))]) (fun _=>[]) (fun k=>n - k) 0 [] (by simp) ?_ ?_
  ·(refine ⟨?_,?_,?_,?_⟩<;>(repeat' ((conv=>whnf);apply And.intro))<;>try (first|exact trivial|decide))
   all_goals rfl
  ·intro k hk
   (conv=>whnf);repeat' (first|((with_reducible refine isV ?_);first|((first|refine azf aza rfl (hA1.mem (by decide) rfl) rfl ?_ ?_ ?_|(with_reducible refine azq ?_);refine azw _ _ (e0) aza rfl rfl rfl rfl (hA1.mem (by decide) rfl) ?_ ?_ ?_|refine azy _ _ (e0) aza rfl rfl rfl rfl (hA1.mem (by decide) rfl) ?_ ?_ ?_|refine azf aza rfl (hA2.mem (by decide) rfl) rfl ?_ ?_ ?_|(with_reducible refine azq ?_);refine azw _ _ (e0) aza rfl rfl rfl rfl (hA2.mem (by decide) rfl) ?_ ?_ ?_|refine azy _ _ (e0) aza rfl rfl rfl rfl (hA2.mem (by decide) rfl) ?_ ?_ ?_)<;>first|rfl|omega|with_reducible refine isP ?_|conv=>whnf))|((with_reducible refine isW ?_;first|refine azg (by omega) (by omega) ?_|refine azc ?_);conv=>whnf)|((first|refine azj aza azt ?_|refine azi (by kernel_rfl) ?_|with_reducible refine azo ?_ ?_)<;>conv=>whnf)|with_reducible exact rfl|((with_reducible refine aze (by assumption) ?_);conv=>whnf)|((with_reducible refine azd ?_ ?_)<;>(intro hb;(try simp (disch:=omega) only [hbS] at hb)<;>conv=>whnf)))
   ·refine azk rfl ?_ trivial
    have hne : ¬ xs.getD k e0=ys.getD k e0:=by
     intro e
     rw [e] at hb
     simp at hb
    have : ¬ xs=ys:=fun e=>hne (by rw [e])
    simp [this]
   ·refine ⟨k + 1,[],⟨by omega,?_⟩,?_,by (try dsimp only);omega⟩
    ·refine take_next (d:=e0) (by omega) (by omega) hk.2 ?_
     obtain ⟨b1,b2,b3,b4,_⟩:=hb
     exact Prod.ext b1 (Prod.ext b2 (Prod.ext b3 b4))
    ·(refine ⟨?_,?_,?_,?_⟩<;>(repeat' ((conv=>whnf);apply And.intro))<;>try (first|exact trivial|decide))
     all_goals first|rfl|exact I_eq (wr (by omega) (by omega))
   ·refine azk rfl ?_ trivial
    have h3:=hk.2
    rw [List.take_of_length_le (by omega),List.take_of_length_le (by omega)] at h3
    simp [h3]
end Go.Proofs.YtlnplelandimeaaGreat.En
namespace Go.Proofs.YtlnplelandimeaaGreat.En
open Go.RowKit Go.Sort Go.Shelf
section
variable {α : Type} [Inhabited α]
theorem ck9 {sz : Nat} {enc : α → List Value} (henc : ∀ x, (enc x).length = sz) (hsz : 0 < sz) (xs : List α) {t : Nat} (ht : t < xs.length * sz) : (xs.map enc).flatten[t]? = (enc (xs.toArray[t / sz]!))[t % sz]? := by
 have h1 : t / sz < xs.length:=by rw [Nat.div_lt_iff_lt_mul hsz];exact ht
 have h2 : t % sz < sz:=Nat.mod_lt _ hsz
 have hx : xs.toArray[t / sz]! = xs[t / sz]:=by simp [h1]
 have h3:=bqw (sz:=sz) (els:=xs.map enc) (i:=t / sz) (j:=t % sz) (e:=enc xs[t / sz]) (v:=(enc xs[t / sz])[t % sz]'(by rw [henc];exact h2)) (by
  intro e he
  obtain ⟨x,_,rfl⟩:=List.mem_map.1 he
  exact henc x) (by simp [h1]) (by simp)
 rw [show t / sz * sz + t % sz=t by rw [Nat.mul_comm];exact Nat.div_add_mod t sz] at h3
 rw [h3,hx]
 simp
theorem get_bang {l : List Value} {i : Nat} (h : i < l.length) : l[i]! = l[i] := by simp [h]
theorem cw5 {sz : Nat} {enc : α → List Value} (henc : ∀ x, (enc x).length = sz) (hsz : 0 < sz) {w : World} {g : Nat} {cur : Array Value} {e : TypeId} {xs : List α} (hb : w.heap[g]? = some (.cells cur e (0, 0))) (ht : cur.toList.take (xs.length * sz) = (xs.map enc).flatten) : HoldsK enc sz w g 0 xs.toArray := by
 intro t h
 have h' : t < xs.length * sz:=by simpa using h
 refine ⟨?_,by simp [World.frozen?,hb]⟩
 have h1 : (cur.toList.take (xs.length * sz))[t]? = (xs.map enc).flatten[t]?:=by rw [ht]
 rw [List.getElem?_take_of_lt h',ck9 henc hsz xs h'] at h1
 rw [get_flatK _ _ _ _ (by simpa using h')]
 simp only [World.cell?,hb,Nat.zero_add,Option.isSome_none,Bool.false_eq_true,if_false,id]
 rw [← Array.getElem?_toList,h1]
 have h2 : t % sz < (enc (xs.toArray[t / sz]!)).length:=by rw [henc];exact Nat.mod_lt _ hsz
 rw [List.getElem?_eq_getElem h2]
 exact congrArg some (get_bang h2).symm
theorem cql {sz : Nat} {enc : α → List Value} {w : World} {g n : Nat} {os : Array Obj} {cur : Array Value} {e : TypeId} {fr : Nat × Nat} (d : Array α) (hb : w.heap[g]? = some (.cells cur e fr)) :
 (sortWorldK enc sz w g 0 n d os).heap[g]? = some (.cells (putCells id 0 (flatK enc sz d) cur) e fr):=by
 have hg : g < w.heap.size:=(Array.getElem?_eq_some_iff.1 hb).1
 unfold sortWorldK putRowK
 rw [heap_grow_old _ _ (by simpa [putRow,mapBlock,Sort.ahead] using hg)]
 simp [putRow,mapBlock,Sort.ahead,Array.getElem?_modify,hb,onCells]
theorem bqr {sz : Nat} {enc : α → List Value} {w : World} {g n : Nat} {os : Array Obj} (d : Array α) {i : Nat} (hi : i < w.heap.size) (hne : i ≠ g) : (sortWorldK enc sz w g 0 n d os).heap[i]? = w.heap[i]? := by
 unfold sortWorldK putRowK
 rw [heap_grow_old _ _ (by simpa [putRow,mapBlock,Sort.ahead] using hi)]
 simp [putRow,mapBlock,Sort.ahead,Array.getElem?_modify,hne.symm]
theorem cqm {sz : Nat} {enc : α → List Value} {w : World} {g n : Nat} {os : Array Obj} (d : Array α) : w.heap.size ≤ (sortWorldK enc sz w g 0 n d os).heap.size := by
 simp [sortWorldK,putRowK,putRow,mapBlock,Sort.ahead,Sort.grow]
theorem cqn {sz : Nat} {enc : α → List Value} (henc : ∀ x, (enc x).length = sz) (hsz : 0 < sz) (cur : Array Value) (ys : List α) (h : ys.length * sz ≤ cur.size) : (putCells id 0 (flatK enc sz ys.toArray) cur).toList.take (ys.length * sz) = (ys.map enc).flatten := by
 have hfl : ((ys.map enc).flatten).length=ys.length * sz:=by
  rw [ajp (sz:=sz) (by
   intro e he
   obtain ⟨x,_,rfl⟩:=List.mem_map.1 he
   exact henc x)]
  simp
 apply List.ext_getElem?
 intro t
 by_cases ht : t < ys.length * sz
 ·rw [List.getElem?_take_of_lt ht,Array.getElem?_toList,ck9 henc hsz ys ht]
  have h2 : t % sz < (enc (ys.toArray[t / sz]!)).length:=by rw [henc];exact Nat.mod_lt _ hsz
  have hg:=get_flatK enc sz ys.toArray t (by simpa using ht)
  rw [List.getElem?_eq_getElem h2]
  simp only [putCells,Array.getElem?_mapIdx]
  rw [Array.getElem?_eq_getElem (show t < cur.size by omega)]
  simp only [Option.map_some,Nat.zero_le,true_and,Nat.zero_add,size_flatK,List.size_toArray,ht,if_true,Nat.sub_zero,id,hg]
  simp
  rw [List.getElem?_eq_getElem (by rw [henc];exact Nat.mod_lt _ hsz)]
  rfl
 ·rw [List.getElem?_take_eq_none (by omega),List.getElem?_eq_none (by omega)]
theorem cjp {C : Ctx} {ob : List OB} {k : SV → List OB → Prop} {ρ : Ren} (L : SlLaysF0.n6 C.P ρ) {sz : Nat} (hsz : 0 < sz) (enc : α → List Value) (henc : ∀ x, (enc x).length = sz) (h1 : ∀ x, ∀ v ∈ enc x, v.oneCell' = true)
 (aE : ∀ w,(isAgg (ρ.t 24)).run C.P w = .ok true w) (zE : ∀ w,(Go.sizeOf (ρ.t 24)).run C.P w = .ok sz w) (cf : α→α→Int) (hO : SWO (ltOf cf)) (g : Nat) (eg : ∀ args w,(callFunc g args).run C.P w = .ok (.enter g args) w)
 (hcmp : ∀ (W : World) (x y : α),Calls C.P g #[.agg (enc x).toArray,.agg (enc y).toArray] W fun e w'=>e = .returned (.int .i64 (cf x y))∧∃ q os',w' = grow (W.drewN q) os')
 (hent : Entr C.P (ρ.f 6)) (j : Nat) (xs : List α) {A : Option Addr} {n c e : Nat} (hj : nth ob j=some (.row e sz A n c (xs.map enc))) (hx : xs.length=n) (hn : n < 4611686018427387904)
 (hk : ∀ ys : List α,ys.Perm xs→(∀ i k,i < k→k < n→ltOf cf (ys.getD k default) (ys.getD i default)=false)→aqb (setN ob j (.row e sz A n c (ys.map enc))) fun ob=>k (.t []) ob) :
 aqy C (ρ.f 6) [.v (.slice A n c),.fn g []] ob k:=by
 unfold aqy
 refine ⟨hent,fun σ fp w hm=>?_⟩
 obtain ⟨⟨hown,hlen,hsize,hone,hF⟩,hjl⟩:=akn hm hj
 simp only [SV.vals,SV.val]
 have hset : ob.set j (.row e sz A n c (xs.map enc))=ob:=by
  rw [aq4] at hj
  apply List.ext_getElem?
  intro i
  rw [List.getElem?_set]
  by_cases e : j=i
  ·subst e
   simp [hjl,hj]
   exact (List.getElem?_eq_some_iff.1 hj).2.symm
  ·simp [e]
 by_cases h0 : n=0
 ·subst h0
  have hxs : xs=[]:=List.eq_nil_of_length_eq_zero hx
  refine (AnyF.slices_SortFunc_none L A c (.func (.func g) #[] #[]) w).mono ?_
  rintro e' w' ⟨rfl,rfl⟩
  have hk':=hk xs (List.Perm.refl _) (fun i k h1 h2=>by omega)
  rw [azu,aqm,hset] at hk'
  exact ⟨_,rfl,.t [],ob,σ,fp,hk',fun _ _=>rfl,Nat.le_refl _,rfl,trivial,hm,Frm.below (Below.refl _ _)⟩
 ·rcases hown.2 with ⟨_,h⟩|⟨blk,cap,cur,hsl,hbg,hg,hnc,hcm,hcs,htake⟩
  ·exact (h0 h).elim
  simp at hsl
  obtain ⟨rfl,rfl⟩:=hsl
  subst hx
  have hlt : blk < w.heap.size:=(Array.getElem?_eq_some_iff.1 hg).1
  have hH:=cw5 henc hsz hg htake
  have hcon:=AnyQ.slices_SortFunc L sz aE zE enc henc h1 cf hO g #[] blk 0 c xs.toArray w eg (fun m os dk _ x y=>by simpa using hcmp _ x y) hH hlt (by simpa using hn)
  simp only [List.size_toArray] at hcon
  refine hcon.mono ?_
  rintro e' w' ⟨rfl,d',m,os,⟨hsz',_,hperm⟩,hsort,rfl⟩
  obtain ⟨ys,rfl⟩ : ∃ ys : List α,ys.toArray=d':=⟨d'.toList,by simp⟩
  have hyl : ys.length=xs.length:=by simpa using hsz'
  have hp : ys.Perm xs:=by
   have:=hperm
   simp only [List.extract_toArray,List.extract_eq_drop_take,Nat.sub_zero,List.drop_zero] at this
   rwa [← hyl,List.take_length,hyl,List.take_length] at this
  have hk':=hk ys hp (fun i k hik hkn=>by
   have:=hsort i k (Nat.zero_le _) hik hkn
   have e1 : ys.toArray[k]! = ys.getD k default:=by simp [show k < ys.length by omega]
   have e2 : ys.toArray[i]! = ys.getD i default:=by simp [show i < ys.length by omega]
   rwa [e1,e2] at this)
  rw [azu,aqm] at hk'
  have hcsz : ys.length * sz≤cur.size:=by
   rw [hcs,hyl]
   exact Nat.mul_le_mul_right _ hnc
  have hown' : (sortWorldK enc sz w blk 0 m ys.toArray os).ownsRow 0 e sz (.slice (some ⟨blk,0,none⟩) xs.length c) xs.length (ys.map enc).flatten:=by
   refine ⟨?_,.inr ⟨blk,c,_,rfl,Nat.zero_le _,cql _ hg,hnc,hcm,by simp [putCells,hcs],?_⟩⟩
   ·rw [ajp (sz:=sz) (by
     intro q hq
     obtain ⟨x,_,rfl⟩:=List.mem_map.1 hq
     exact henc x)]
    simp [hyl]
   ·rw [← hyl]
    exact cqn henc hsz cur ys hcsz
  have hsame : ∀ i,i < w.heap.size→¬ fp j i→(sortWorldK enc sz w blk 0 m ys.toArray os).heap[i]? = w.heap[i]?:=by
   intro i hi hni
   exact bqr _ hi fun e'=>hni ((hF i).2 (by simp [Value.ownBlock,e']))
  have hszw : w.heap.size≤(sortWorldK enc sz w blk 0 m ys.toArray os).heap.size:=cqm _
  have hM:=hm.change (w':=sortWorldK enc sz w blk 0 m ys.toArray os) hjl (.row e sz (some ⟨blk,0,none⟩) xs.length c (ys.map enc)) (fp j) ⟨hown',by simp [hyl],(by
   intro q hq
   obtain ⟨x,_,rfl⟩:=List.mem_map.1 hq
   exact henc x),(by
   intro q hq
   obtain ⟨l,hl,hql⟩:=List.mem_flatten.1 hq
   obtain ⟨x,_,rfl⟩:=List.mem_map.1 hl
   exact h1 x q hql),hF⟩ (fun i hi=>.inl hi) (fun i hi=>Nat.lt_of_lt_of_le (hm.hi j hjl i hi) hszw) rfl rfl rfl hszw hsame (fun _=>by simp [sortWorldK,putRowK,putRow,mapBlock,Sort.ahead,Sort.grow])
  exact ⟨_,rfl,.t [],_,σ,_,hk',fun _ _=>rfl,by simp,rfl,trivial,hM,Frm.changed hjl (by simp) (fun i hi=>.inl hi) hszw hsame⟩
end
end Go.Proofs.YtlnplelandimeaaGreat.En
end
