import Derived.Test.YtkflmidichikjaaGreatDoorZSystemReplays17
import Derived.Shelf.SlSortCmp.WholeK
import Derived.Shelf.SlSortCmp.NoneTotal
import Derived.Test.YtkflmidichikjaaGreatDoorZSystemReplays13
set_option linter.all false
section
namespace Go.Proofs.YtkflmidichikjaaGreatDoor.V
open Go.RowKit
section
variable {α β : Type}
def insL (le : α → α → Bool) (x : α) : List α → List α
 | []=>[x]
 | y :: r=>if le x y then x :: y :: r else y :: insL le x r
def isort (le : α → α → Bool) : List α → List α
 | []=>[]
 | x :: r=>insL le x (isort le r)
theorem insL_perm {le : α → α → Bool} {x : α} : ∀ l : List α, (insL le x l).Perm (x :: l)
 | []=>.refl _
 | y :: r=>by
   unfold insL
   split
   ·exact .refl _
   ·exact ((insL_perm r).cons y).trans (.swap x y r)
theorem isort_perm {le : α → α → Bool} : ∀ l : List α, (isort le l).Perm l
 | []=>.refl _
 | x :: r=>(insL_perm _).trans ((isort_perm r).cons x)
structure Tot (le : α → α → Bool) : Prop where
 tot : ∀ a b,le a b=true∨le b a=true
 trans : ∀ a b c,le a b=true→le b c=true→le a c=true
 anti : ∀ a b,le a b=true→le b a=true→a=b
theorem insL_sorted {le : α → α → Bool} (h : Tot le) {x : α} : ∀ {l : List α}, l.Pairwise (fun a b => le a b = true) → (insL le x l).Pairwise (fun a b => le a b = true)
 | [],_=>by simp [insL]
 | y :: r,hp=>by
   unfold insL
   split
   ·rename_i hx
    rw [List.pairwise_cons]
    refine ⟨fun b hb=>?_,hp⟩
    rcases List.mem_cons.1 hb with rfl|hb
    ·exact hx
    ·exact h.trans _ _ _ hx ((List.pairwise_cons.1 hp).1 b hb)
   ·rename_i hx
    rw [List.pairwise_cons] at hp ⊢
    refine ⟨fun b hb=>?_,insL_sorted h hp.2⟩
    rcases List.mem_cons.1 ((insL_perm r).mem_iff.1 hb) with rfl|hb
    ·rcases h.tot y b with h1|h1
     ·exact h1
     ·exact absurd h1 hx
    ·exact hp.1 b hb
theorem isort_sorted {le : α → α → Bool} (h : Tot le) : ∀ l : List α, (isort le l).Pairwise (fun a b => le a b = true)
 | []=>.nil
 | _ :: r=>insL_sorted h (isort_sorted h r)
theorem sorted_unique {le : α → α → Bool} (h : Tot le) : ∀ {l m : List α}, (l.Pairwise fun a b => le a b = true) → (m.Pairwise fun a b => le a b = true) → l.Perm m → l = m
 | [],m,_,_,hp=>(List.nil_perm.1 hp).symm
 | a :: l,[],_,_,hp=>(by have:=hp.length_eq;simp at this)
 | a :: l,b :: m,h1,h2,hp=>by
   rw [List.pairwise_cons] at h1 h2
   have hab : a=b:=by
    have ha : a∈b :: m:=hp.mem_iff.1 (by simp)
    have hb : b∈a :: l:=hp.mem_iff.2 (by simp)
    rcases List.mem_cons.1 ha with e|ha
    ·exact e
    ·rcases List.mem_cons.1 hb with e|hb
     ·exact e.symm
     ·exact h.anti _ _ (h1.1 b hb) (h2.1 a ha)
   subst hab
   rw [sorted_unique h h1.2 h2.2 hp.cons_inv]
def dedup [DecidableEq α] : List α → List α
 | []=>[]
 | [x]=>[x]
 | x :: y :: r=>if x=y then dedup (y :: r) else x :: dedup (y :: r)
theorem drop_gtP [Inhabited α] {Q : List α} {i : Nat} (h : i < Q.length) : Q.drop i = gt Q i :: Q.drop (i + 1) := by
 rw [List.drop_eq_getElem_cons h]
 simp [gt,h]
theorem flat_next [Inhabited α] {f : α → List β} {X : List α} {i : Nat} (h : i < X.length) : (X.take (i + 1)).flatMap f = (X.take i).flatMap f ++ f (gt X i) := by
 rw [List.take_succ,List.flatMap_append]
 simp [gt,h]
theorem map_next [Inhabited α] {f : α → β} {X : List α} {i : Nat} (h : i < X.length) : (X.take (i + 1)).map f = (X.take i).map f ++ [f (gt X i)] := by
 rw [List.take_succ,List.map_append]
 simp [gt,h]
theorem filter_next [Inhabited α] {p : α → Bool} {X : List α} {i : Nat} (h : i < X.length) : (X.take (i + 1)).filter p = (X.take i).filter p ++ (if p (gt X i) then [gt X i] else []) := by
 rw [List.take_succ,List.filter_append]
 congr 1
 simp [gt,h,List.filter_cons]
theorem flat_len' {f : α → List β} {n : Nat} (h : ∀ a, (f a).length ≤ n) : ∀ X : List α, (X.flatMap f).length ≤ X.length * n
 | []=>by simp
 | a :: r=>by
   have h1:=flat_len' h r
   have h2:=h a
   rw [List.flatMap_cons,List.length_append,List.length_cons,Nat.add_mul]
   omega
end
end Go.Proofs.YtkflmidichikjaaGreatDoor.V
end
section
namespace Go.Proofs.YtkflmidichikjaaGreatDoor.V
open Go.RowKit Go.Sort Go.Shelf
set_option maxRecDepth 100000
theorem grow_of_below {w w' : World} (hb : Go.RowKit.Below w.heap.size w w') (hd : w.drawn ≤ w'.drawn) : ∃ q os', w' = grow (w.drewN q) os' := by
 refine ⟨w'.drawn - w.drawn,w'.heap.extract w.heap.size w'.heap.size,?_⟩
 have hh : w'.heap=w.heap ++ w'.heap.extract w.heap.size w'.heap.size:=by
  apply Array.ext_getElem?
  intro i
  rw [Array.getElem?_append]
  split
  ·rename_i hi
   exact hb.block i hi
  ·rename_i hi
   rw [Array.getElem?_extract]
   have:=hb.size
   split
   ·congr 1;omega
   ·exact Array.getElem?_eq_none (by omega)
 cases w'
 cases w
 simp only [World.drewN,grow] at *
 obtain ⟨h1,h2,h3,h4,h5⟩:=hb
 simp only at h1 h2 h3 h4 h5
 subst h1 h2 h3
 congr 1
 omega
section
variable {α : Type} [Inhabited α]
theorem flat_div {sz : Nat} {enc : α → List Value} (henc : ∀ x, (enc x).length = sz) (hsz : 0 < sz) (xs : List α) {t : Nat} (ht : t < xs.length * sz) : (xs.map enc).flatten[t]? = (enc (xs.toArray[t / sz]!))[t % sz]? := by
 have h1 : t / sz < xs.length:=by rw [Nat.div_lt_iff_lt_mul hsz];exact ht
 have h2 : t % sz < sz:=Nat.mod_lt _ hsz
 have hx : xs.toArray[t / sz]! = xs[t / sz]:=by simp [h1]
 have h3:=flat_get (sz:=sz) (els:=xs.map enc) (i:=t / sz) (j:=t % sz) (e:=enc xs[t / sz]) (v:=(enc xs[t / sz])[t % sz]'(by rw [henc];exact h2)) (by
  intro e he
  obtain ⟨x,_,rfl⟩:=List.mem_map.1 he
  exact henc x) (by simp [h1]) (by simp)
 rw [show t / sz * sz + t % sz=t by rw [Nat.mul_comm];exact Nat.div_add_mod t sz] at h3
 rw [h3,hx]
 simp
theorem get_bang {l : List Value} {i : Nat} (h : i < l.length) : l[i]! = l[i] := by simp [h]
theorem holdsK_row {sz o : Nat} {enc : α → List Value} (henc : ∀ x, (enc x).length = sz) (hsz : 0 < sz) {w : World} {g : Nat} {cur : Array Value} {e : TypeId} {xs : List α} {fz : Nat × Nat} (hb : w.heap[g]? = some (.cells cur e fz)) (hfz : okM cur.size fz) (hle : o + xs.length * sz ≤ cur.size) (ht : (cur.toList.drop o).take (xs.length * sz) = (xs.map enc).flatten) : HoldsK enc sz w g o xs.toArray := by
 intro t h
 have h' : t < xs.length * sz:=by simpa using h
 refine ⟨?_,by
  obtain ⟨lo,hi⟩:=fz
  simp only [World.frozen?,hb,Bool.and_eq_false_iff,decide_eq_false_iff_not]
  have:=hfz.use (a:=o + t + 1) (b:=o + t) (by omega)
  simp only at this
  omega⟩
 have h1 : ((cur.toList.drop o).take (xs.length * sz))[t]? = (xs.map enc).flatten[t]?:=by rw [ht]
 rw [List.getElem?_take_of_lt h',flat_div henc hsz xs h',List.getElem?_drop] at h1
 rw [get_flatK _ _ _ _ (by simpa using h')]
 simp only [World.cell?,hb,Option.isSome_none,Bool.false_eq_true,if_false,id]
 rw [← Array.getElem?_toList,h1]
 have h2 : t % sz < (enc (xs.toArray[t / sz]!)).length:=by rw [henc];exact Nat.mod_lt _ hsz
 rw [List.getElem?_eq_getElem h2]
 exact congrArg some (get_bang h2).symm
theorem heap_sortedK {sz : Nat} {enc : α → List Value} {w : World} {g o n : Nat} {os : Array Obj} {cur : Array Value} {e : TypeId} {fr : Nat × Nat} (d : Array α) (hb : w.heap[g]? = some (.cells cur e fr)) :
 (sortWorldK enc sz w g o n d os).heap[g]? = some (.cells (putCells id o (flatK enc sz d) cur) e fr):=by
 have hg : g < w.heap.size:=(Array.getElem?_eq_some_iff.1 hb).1
 unfold sortWorldK putRowK
 rw [heap_grow_old _ _ (by simpa [putRow,mapBlock,Sort.ahead] using hg)]
 simp [putRow,mapBlock,Sort.ahead,Array.getElem?_modify,hb,onCells]
theorem heap_sortedK_old {sz : Nat} {enc : α → List Value} {w : World} {g o n : Nat} {os : Array Obj} (d : Array α) {i : Nat} (hi : i < w.heap.size) (hne : i ≠ g) : (sortWorldK enc sz w g o n d os).heap[i]? = w.heap[i]? := by
 unfold sortWorldK putRowK
 rw [heap_grow_old _ _ (by simpa [putRow,mapBlock,Sort.ahead] using hi)]
 simp [putRow,mapBlock,Sort.ahead,Array.getElem?_modify,hne.symm]
theorem size_sortedK {sz : Nat} {enc : α → List Value} {w : World} {g o n : Nat} {os : Array Obj} (d : Array α) : w.heap.size ≤ (sortWorldK enc sz w g o n d os).heap.size := by
 simp [sortWorldK,putRowK,putRow,mapBlock,Sort.ahead,Sort.grow]
theorem take_sortedK {sz o : Nat} {enc : α → List Value} (henc : ∀ x, (enc x).length = sz) (hsz : 0 < sz) (cur : Array Value) (ys : List α) (h : o + ys.length * sz ≤ cur.size) : ((putCells id o (flatK enc sz ys.toArray) cur).toList.drop o).take (ys.length * sz) = (ys.map enc).flatten := by
 have hfl : ((ys.map enc).flatten).length=ys.length * sz:=by
  rw [flat_len (sz:=sz) (by
   intro e he
   obtain ⟨x,_,rfl⟩:=List.mem_map.1 he
   exact henc x)]
  simp
 apply List.ext_getElem?
 intro t
 by_cases ht : t < ys.length * sz
 ·rw [List.getElem?_take_of_lt ht,List.getElem?_drop,Array.getElem?_toList,flat_div henc hsz ys ht]
  have h2 : t % sz < (enc (ys.toArray[t / sz]!)).length:=by rw [henc];exact Nat.mod_lt _ hsz
  have hg:=get_flatK enc sz ys.toArray t (by simpa using ht)
  rw [List.getElem?_eq_getElem h2]
  simp only [putCells,Array.getElem?_mapIdx]
  rw [Array.getElem?_eq_getElem (show o + t < cur.size by omega)]
  simp only [Option.map_some,size_flatK,List.size_toArray,id]
  rw [if_pos (by omega),show o + t - o=t by omega,hg]
  simp
  rw [List.getElem?_eq_getElem (by rw [henc];exact Nat.mod_lt _ hsz)]
  rfl
 ·rw [List.getElem?_take_eq_none (by omega),List.getElem?_eq_none (by omega)]
def sortL (lt : α → α → Bool) (X : List α) : List α := (pdq lt X.toArray 0 X.length (Lib.bitLen X.length) true true).toList
theorem sortL_perm {lt : α → α → Bool} (h : SWO lt) (X : List α) : (sortL lt X).Perm X ∧ ∀ i k, i < k → k < X.length → lt ((sortL lt X).getD k default) ((sortL lt X).getD i default) = false := by
 have h1:=pdq_sorts lt h X.toArray 0 X.length (Lib.bitLen X.length) true true (Nat.zero_le _) (by simp) (Or.inl rfl)
 obtain ⟨⟨hsz,_,hperm⟩,hs⟩:=h1
 unfold sortL
 generalize pdq lt X.toArray 0 X.length (Lib.bitLen X.length) true true=d at *
 have hdl : d.toList.length=X.length:=by simpa using hsz
 refine ⟨?_,fun i k hik hk=>?_⟩
 ·have:=hperm
  simp only [List.extract_toArray,List.extract_eq_drop_take,Nat.sub_zero,List.drop_zero,List.take_length] at this
  have e : (d.extract 0 X.length).toList=d.toList:=by
   rw [Array.toList_extract,List.extract_eq_drop_take]
   simp only [Nat.sub_zero,List.drop_zero]
   exact List.take_of_length_le (by omega)
  rw [e] at this
  simpa using this
 ·have:=hs i k (Nat.zero_le _) hik hk
  have e1 : d[k]! = d.toList.getD k default:=by simp [show k < d.size by rw [← Array.length_toList];omega]
  have e2 : d[i]! = d.toList.getD i default:=by simp [show i < d.size by rw [← Array.length_toList];omega]
  rwa [e1,e2] at this
theorem sortL_eq {lt le : α → α → Bool} (ho : SWO lt) (h : Tot le) (hl : ∀ a b, lt a b = !le b a) (X : List α) : sortL lt X = isort le X := by
 obtain ⟨h1,h2⟩:=sortL_perm ho X
 have hlen:=h1.length_eq
 refine sorted_unique h ?_ (isort_sorted h X) (h1.trans (isort_perm X).symm)
 rw [List.pairwise_iff_getElem]
 intro i j hi hj hij
 have:=h2 i j hij (by omega)
 rw [hl] at this
 simpa [hi,hj] using this
theorem CallX_sortV {C : Ctx} {ob : List OB} {k : SV → List OB → Prop} {ρ : Ren} (L : SlLaysF0.n6 C.P ρ) {sz : Nat} (hsz : 0 < sz) (enc : α → List Value) (henc : ∀ x, (enc x).length = sz) (h1 : ∀ x, ∀ v ∈ enc x, v.oneCell' = true)
 (aE : ∀ w,(isAgg (ρ.t 24)).run C.P w = .ok true w) (zE : ∀ w,(Go.sizeOf (ρ.t 24)).run C.P w = .ok sz w) (cf : α→α→Int) (hO : SWO (ltOf cf)) (g : Nat) (eg : ∀ args w,(callFunc g args).run C.P w = .ok (.enter g args) w)
 (hcmp : ∀ (W : World) (x y : α),Calls C.P g #[.agg (enc x).toArray,.agg (enc y).toArray] W fun e w'=>e = .returned (.int .i64 (cf x y))∧∃ q os',w' = grow (W.drewN q) os')
 (hent : Entr C.P (ρ.f 6)) {j p n e : Nat} {xs : List α} (hj : nth ob j=some (.row false e sz (fl enc xs))) (hx : n=xs.length) (hn : n < 4611686018427387904)
 (hk : force (setN ob j (.row false e sz (fl enc (sortL (ltOf cf) xs)))) fun ob=>k (.t []) ob) :
 CallX C (ρ.f 6) [.sl j p 0 n sz,.fn g []] ob k:=by
 subst hx
 rw [force_eq,setN_eq] at hk
 unfold CallX
 intro σ G fp w hm _
 refine CallsE.of hent ?_
 have hj':=hj
 rw [nth_eq] at hj'
 have hat : RowAt G w e sz (dA (σ j)) (dC (σ j)) (fl enc xs) (fp j):=hm.at_ j _ hj'
 have hjl:=(List.getElem?_eq_some_iff.1 hj').1
 have hset : ob.set j (.row false e sz (fl enc xs))=ob:=by
  apply List.ext_getElem?
  intro i
  rw [List.getElem?_set]
  by_cases e : j=i
  ·subst e
   simp [hjl,hj'.symm]
  ·simp [e]
 by_cases h0 : xs=[]
 ·subst h0
  have e0 : sortL (ltOf cf) ([] : List α)=[]:=List.eq_nil_of_length_eq_zero (sortL_perm hO []).1.length_eq
  rw [e0,hset] at hk
  simp only [SV.vals,SV.val,List.length_nil]
  refine (AnyF.slices_SortFunc_none L _ _ (.func (.func g) #[] #[]) w).mono ?_
  rintro e' w' ⟨rfl,rfl⟩
  exact ⟨_,rfl,.t [],ob,σ,G,fp,hk,fun _ _=>rfl,Fz.refl _,Nat.le_refl _,rfl,trivial,hm,Frm.below (Below.refl _ _)⟩
 ·rcases hat.at_ with ⟨h,_⟩|⟨blk,o,cur,vs,hA,⟨fz,hg,hfz⟩,hle,hrd,hfl,hF⟩
  ·have:=hat.cap.1
   rw [fl_len] at this
   exact (h0 (List.eq_nil_of_length_eq_zero (by omega))).elim
  have hpos : 0 < xs.length:=List.length_pos_iff.2 h0
  have hcap:=hat.cap
  rw [fl_len] at hcap hfl
  have hvs : vs=xs.map enc:=by
   have : ∀ {X : List α} {vs : List (List Value)},rdLL G (fl enc X) vs→vs=X.map enc:=by
    intro X
    induction X with
    | nil=>intro vs h;cases vs with
      | nil=>rfl
      | cons _ _=>exact h.elim
    | cons a r ih=>intro vs h;cases vs with
      | nil=>exact h.elim
      | cons v vs =>
        rw [List.map_cons,← ih h.2,rdL_vs h.1]
   exact this hrd
  subst hvs
  have hcp : cutP (dA (σ j)) (dC (σ j)) p 0 sz=some ⟨blk,o,none⟩:=by
   have hb : Nat.beq (dC (σ j)) 0=false:=by
    cases hq : Nat.beq (dC (σ j)) 0 with
    | false=>rfl
    | true=>have:=Nat.eq_of_beq_eq_true hq;omega
   simp only [cutP,hA,hb,cond_false,Option.map_some,Nat.zero_mul,Nat.add_zero]
  simp only [SV.vals,SV.val,hcp,Nat.sub_zero]
  have hlt : blk < w.heap.size:=(Array.getElem?_eq_some_iff.1 hg).1
  have hH:=holdsK_row henc hsz hg hfz (by have:=Nat.mul_le_mul_right sz hcap.1;omega) hfl
  have hcon:=AnyQ.slices_SortFunc_eq L sz aE zE enc henc h1 cf hO g #[] blk o (dC (σ j)) xs.toArray w eg (fun m os dk _ x y=>by simpa using hcmp _ x y) hH hlt (by simpa using hn)
  simp only [List.size_toArray] at hcon
  refine hcon.mono ?_
  rintro e' w' ⟨rfl,m,os,rfl⟩
  have hpl : (sortL (ltOf cf) xs).length=xs.length:=(sortL_perm hO xs).1.length_eq
  have hpd : pdq (ltOf cf) xs.toArray 0 xs.length (Lib.bitLen xs.length) true true=(sortL (ltOf cf) xs).toArray:=by simp [sortL]
  rw [hpd]
  generalize sortL (ltOf cf) xs=ys at *
  have hszw : w.heap.size≤(sortWorldK enc sz w blk o m ys.toArray os).heap.size:=size_sortedK _
  have hsame : ∀ i,i < w.heap.size→¬ fp j i→(sortWorldK enc sz w blk o m ys.toArray os).heap[i]? = w.heap[i]?:=by
   intro i hi hni
   exact heap_sortedK_old _ hi fun e'=>hni ((hF i).2 e')
  have hmul : xs.length * sz≤dC (σ j) * sz:=Nat.mul_le_mul_right _ hcap.1
  have hrow : RowAt G (sortWorldK enc sz w blk o m ys.toArray os) e sz (dA (σ j)) (dC (σ j)) (fl enc ys) (fp j):=by
   refine ⟨by rw [fl_len,hpl];exact hcap,fun x hx=>?_,hat.spot,.inr ⟨blk,o,_,ys.map enc,hA,⟨fz,heap_sortedK _ hg,hfz.le (by simp [putCells])⟩,by simpa [putCells] using hle,?_,?_,hF⟩⟩
   ·obtain ⟨a,_,rfl⟩:=List.mem_map.1 hx
    simp [henc]
   ·exact rdLL_fl fun v hv=>by
     obtain ⟨l,hl,hvl⟩:=List.mem_flatten.1 hv
     obtain ⟨a,_,rfl⟩:=List.mem_map.1 hl
     exact h1 a v hvl
   ·rw [fl_len]
    exact take_sortedK henc hsz cur ys (by rw [hpl];omega)
  have hM:=hm.change (w':=sortWorldK enc sz w blk o m ys.toArray os) hjl (.row false e sz (fl enc ys)) (fp j) hrow (fun i hi=>.inl hi) (fun i hi=>Nat.lt_of_lt_of_le (hm.hi j hjl i hi) hszw) rfl rfl rfl hszw hsame (fun _=>by simp [sortWorldK,putRowK,putRow,mapBlock,Sort.ahead,Sort.grow])
  exact ⟨_,rfl,.t [],_,σ,G,_,hk,fun _ _=>rfl,Fz.refl _,by simp,rfl,trivial,hM,Frm.changed hjl (by simp) (fun i hi=>.inl hi) hszw hsame⟩
end
end Go.Proofs.YtkflmidichikjaaGreatDoor.V
end
section
namespace Go.Proofs.YtkflmidichikjaaGreatDoor.V
open Go.RowKit
set_option maxRecDepth 100000
set_option maxHeartbeats 8000000
section
variable {A : Option Addr} {c : Nat}
instance inVc_1 {X : List Int} : CFc 75 false [.fz A c 1 (fl ye X)] (X.length ≤ 1000000000) (.sl 0 0 0 X.length 1) [.row false 5 1 (fl ye X)] := ⟨fun _ => by
 refine CM.of Tryz.func75 rfl tabOk rfl rfl rfl rfl (by simp [SV.nms,SV.nm]) fun w_ M_ π_ G0_=>?_
 refine runA (a1 ?_)
 intro h
 obtain rfl:=List.eq_nil_of_length_eq_zero h
 rfl⟩
instance inVc_2 {X : List Int} : CFc 34 false [.fz A c 1 (fl ie X)] (X.length ≤ 1000000000) (.sl 0 0 0 X.length 1) [.row false 3 1 (fl ie X)] := ⟨fun _ => by
 refine CM.of Tryz.func34 rfl tabOk rfl rfl rfl rfl (by simp [SV.nms,SV.nm]) fun w_ M_ π_ G0_=>?_
 refine runA (a1 ?_)
 intro h
 obtain rfl:=List.eq_nil_of_length_eq_zero h
 rfl⟩
instance inVc_3 {X : List Box} : CFc 81 false [.fz A c 6 (fl Box.e X)] (X.length ≤ 1000000000) (.sl 0 0 0 X.length 6) [.row false 85 6 (fl Box.e X)] := ⟨fun _ => by
 refine CM.of Tryz.func81 rfl tabOk rfl rfl rfl rfl (by simp [SV.nms,SV.nm]) fun w_ M_ π_ G0_=>?_
 refine runA (a1 ?_)
 intro h
 obtain rfl:=List.eq_nil_of_length_eq_zero h
 rfl⟩
instance inVc_4 {X : List Beam} : CFc 121 false [.fz A c 2 (fl Beam.e X)] (X.length ≤ 1000000000) (.sl 0 0 0 X.length 2) [.row false 221 2 (fl Beam.e X)] := ⟨fun _ => by
 refine CM.of Tryz.func121 rfl tabOk rfl rfl rfl rfl (by simp [SV.nms,SV.nm]) fun w_ M_ π_ G0_=>?_
 refine runA (a1 ?_)
 intro h
 obtain rfl:=List.eq_nil_of_length_eq_zero h
 rfl⟩
instance inVc_5 {X : List Point} : CFc 195 false [.fz A c 2 (fl Point.e X)] (X.length ≤ 1000000000) (.sl 0 0 0 X.length 2) [.row false 147 2 (fl Point.e X)] := ⟨fun _ => by
 refine CM.of Tryz.func195 rfl tabOk rfl rfl rfl rfl (by simp [SV.nms,SV.nm]) fun w_ M_ π_ G0_=>?_
 refine runA (a1 ?_)
 intro h
 obtain rfl:=List.eq_nil_of_length_eq_zero h
 rfl⟩
instance inVc_6 {X : List Bool} : CFc 151 false [.fz A c 1 (fl be X)] (X.length ≤ 1000000000) (.sl 0 0 0 X.length 1) [.row false 4 1 (fl be X)] := ⟨fun _ => by
 refine CM.of Tryz.func151 rfl tabOk rfl rfl rfl rfl (by simp [SV.nms,SV.nm]) fun w_ M_ π_ G0_=>?_
 refine runA (a1 ?_)
 intro h
 obtain rfl:=List.eq_nil_of_length_eq_zero h
 rfl⟩
end
end Go.Proofs.YtkflmidichikjaaGreatDoor.V
end
