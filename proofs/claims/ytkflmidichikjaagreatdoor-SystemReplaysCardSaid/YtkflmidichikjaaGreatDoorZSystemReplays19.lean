import Derived.Test.YtkflmidichikjaaGreatDoorZSystemReplays18
import Derived.Test.YtkflmidichikjaaGreatDoorLySortC
import Derived.Test.YtkflmidichikjaaGreatDoorZSystemReplays13
set_option linter.all false
section
namespace Go.Proofs.YtkflmidichikjaaGreatDoor.V
open Go.RowKit Go.Sort Go.Shelf
set_option maxRecDepth 100000
set_option maxHeartbeats 16000000
def cmpI (x y : Int) : Int := if x < y then -1 else if y < x then 1 else 0
def orI : List Int → Int
 | []=>0
 | x :: l=>if x=0 then orI l else x
theorem orI_zero [Inhabited Int] : ∀ {l : List Int} {k : Nat}, k ≤ l.length → (∀ i, i < k → gt l i = 0) → orI l = orI (l.drop k)
 | l,0,_,_=>rfl
 | [],k + 1,h,_=>by simp at h
 | x :: r,k + 1,h,hz=>by
   have h0 : x=0:=by simpa [gt] using hz 0 (by omega)
   have hr:=orI_zero (l:=r) (k:=k) (by simpa using h) fun i hi=>by simpa [gt] using hz (i + 1) (by omega)
   rw [orI,if_pos h0,hr]
   rfl
theorem orI_at {l : List Int} {k : Nat} (hk : k < l.length) (hz : ∀ i, i < k → gt l i = 0) (hx : gt l k ≠ 0) : orI l = gt l k := by
 rw [orI_zero (Nat.le_of_lt hk) hz,List.drop_eq_getElem_cons hk]
 simp only [gt,List.getD_eq_getElem?_getD,List.getElem?_eq_getElem hk,Option.getD_some] at hx ⊢
 rw [orI,if_neg hx]
theorem orI_all {l : List Int} (hz : ∀ i, i < l.length → gt l i = 0) : orI l = 0 := by
 rw [orI_zero (Nat.le_refl _) hz]
 simp [orI]
instance inVcm_1 {x : Int} : CDc 287 [I x] True (.bool false) := ⟨fun _ => by
 refine CD.of Tryz.func287 rfl tabOk rfl rfl rfl fun w_ G0_=>?_
 refine roA (a1 ?_)
 exact Fin_de (by simp)⟩
instance inVcm_2 {x y : Int} : CDc 230 [I x, I y] True (.int .i64 (cmpI x y)) := ⟨fun _ => by
 refine CD.of Tryz.func230 rfl tabOk rfl rfl rfl fun w_ G0_=>?_
 refine roA (a3 ?_ ?_ ?_)
 ·intro h
  refine Fin_de ?_
  rw [cmpI,if_pos h]
 ·intro h1 h2
  refine Fin_de ?_
  rw [cmpI,if_neg (by omega),if_pos h2]
 ·intro h1 h2
  refine Fin_de ?_
  rw [cmpI,if_neg (by omega),if_neg (by omega)]⟩
instance inVcm_3 {A : Option Addr} {c : Nat} {X : List Int} : CDc 233 [.fz A c 1 (fl ie X)] (X.length ≤ 1000000000) (.int .i64 (orI X)) := ⟨fun hp => by
 refine CD.of Tryz.func233 rfl tabOk rfl rfl rfl fun w_ G0_=>?_
 refine roA (a1 ?_)
 refine LoopX_p [] (fun (i : Nat)=>i≤X.length∧∀ j,j < i→gt X j=0) (fun i=>[(8,I i)]) (fun _=>[]) (fun i=>X.length - i) 0 ?_
 conv=>whnf
 rintro i ⟨h1,h2⟩
 have Hh : Hold (∀ j,j < i→gt X j=0):=⟨h2⟩
 clear h2
 refine roA (a3 ?_ ?_ ?_)
 ·intro a0 a1
  exact Fin_de (congrArg (Value.int .i64) (orI_at (by omega) Hh.out (by simpa using a1)).symm)
 ·intro a0 a1
  exact rn (i + 1) ⟨by omega,fun j hj=>by
   rcases Nat.lt_succ_iff_lt_or_eq.1 hj with h|rfl
   ·exact Hh.out j h
   ·simpa using a1⟩
 ·intro a0
  obtain rfl : i=X.length:=by omega
  exact Fin_de (congrArg (Value.int .i64) (orI_all Hh.out).symm)⟩
def cellI (a b : Cell) : Int := orI [cmpI a.Y b.Y, cmpI a.X b.X]
def leC (a b : Cell) : Bool := decide (a.Y < b.Y) || (decide (a.Y = b.Y) && decide (a.X ≤ b.X))
theorem cellI_neg (a b : Cell) : ltOf cellI a b = !leC b a := by
 rw [Bool.eq_iff_iff]
 simp only [ltOf,cellI,orI,cmpI,leC,decide_eq_true_eq,Bool.not_eq_true',Bool.or_eq_false_iff,Bool.and_eq_false_iff,decide_eq_false_iff_not]
 by_cases h1 : a.Y < b.Y<;>by_cases h2 : b.Y < a.Y<;>by_cases h3 : a.X < b.X<;>by_cases h4 : b.X < a.X<;>simp [h1,h2,h3,h4]<;>omega
theorem leC_tot : Tot leC := ⟨fun a b => by simp only [leC, Bool.or_eq_true, Bool.and_eq_true, decide_eq_true_eq]; omega, fun a b c => by simp only [leC, Bool.or_eq_true, Bool.and_eq_true, decide_eq_true_eq]; omega, fun a b => by
 obtain ⟨x,y⟩:=a
 obtain ⟨z,u⟩:=b
 simp only [leC,Bool.or_eq_true,Bool.and_eq_true,decide_eq_true_eq,Cell.mk.injEq]
 omega⟩
theorem cell_swo : SWO (ltOf cellI) := by
 have h:=leC_tot
 refine ⟨fun x=>?_,fun x y z h1 h2=>?_,fun x y z h1 h2=>?_⟩
 ·rw [cellI_neg,Bool.not_eq_false']
  rcases h.tot x x with h|h<;>exact h
 ·simp only [cellI_neg,leC,Bool.not_eq_true',Bool.or_eq_false_iff,Bool.and_eq_false_iff,decide_eq_false_iff_not] at *
  omega
 ·simp only [cellI_neg,leC,Bool.not_eq_false',Bool.or_eq_true,Bool.and_eq_true,decide_eq_true_eq] at *
  omega
def sortC (X : List Cell) : List Cell := isort leC X
theorem sortC_eq (X : List Cell) : sortL (ltOf cellI) X = sortC X := sortL_eq cell_swo leC_tot cellI_neg X
theorem CallX_sortC {C : Ctx} {ob : List OB} {k : SV → List OB → Prop} {g : FuncId} [hg : ∀ a b : Cell, CDc g [a.s, b.s] True (.int .i64 (cellI a b))] (hen : Entr Tryz.prog g) {j p n e : Nat} {X : List Cell} (hj : nth ob j = some (.row false e 2 (fl Cell.e X))) (hx : n = X.length) (hn : n < 4611686018427387904)
 (hk : force (setN ob j (.row false e 2 (fl Cell.e (sortC X)))) fun ob=>k (.t []) ob) (hP : C.P=Tryz.prog:=by rfl) : CallX C 282 [.sl j p 0 n 2,.fn g []] ob k:=by
 obtain ⟨P,T,nn,w0,M,m,π,d,z⟩:=C
 simp only at hP
 subst hP
 rw [← sortC_eq] at hk
 refine CallX_sortV (ρ:=En.SortC_ren) En.SortC (by decide) Cell.e (fun _=>rfl) (fun x v hv=>by
  simp at hv
  rcases hv with rfl|rfl<;>rfl) Tryz.isAgg128 Tryz.sizeOf128 cellI cell_swo g (fun args w=>by
   have h:=hen
   unfold Entr at h
   exact h args w) (fun W x y=>?_) (Entr.of Tryz.func282 rfl rfl) hj hx hn hk
 have h1:=(hg x y).out trivial W (by simp [SV.wfs,SV.wf])
 unfold CallsE at h1
 rw [hen] at h1
 refine Calls.mono h1 ?_
 rintro en w' ⟨rfl,hb,hdr⟩
 obtain ⟨q,os',h⟩:=grow_of_below hb hdr
 exact ⟨rfl,q,os',h⟩
theorem dedup_snoc {α : Type} [DecidableEq α] : ∀ (L : List α) (y x : α), dedup (L ++ [y] ++ [x]) = dedup (L ++ [y]) ++ (if y = x then [] else [x])
 | [],y,x=>by
   simp only [List.nil_append,List.cons_append,dedup]
   split
   ·rename_i h
    rw [h]
   ·rfl
 | [a],y,x=>by
   have h:=dedup_snoc [] y x
   simp only [List.nil_append,List.cons_append,dedup] at h ⊢
   rw [h]
   split<;>simp
 | a :: b :: r,y,x=>by
   have h:=dedup_snoc (b :: r) y x
   simp only [List.cons_append,dedup] at h ⊢
   rw [h]
   split<;>simp
theorem take_snoc {α : Type} [Inhabited α] {X : List α} {m : Nat} (h : m < X.length) : X.take (m + 1) = X.take m ++ [gt X m] := by
 rw [List.take_succ]
 simp [gt,h]
theorem dedup_next {α : Type} [DecidableEq α] [Inhabited α] {X : List α} {m : Nat} (h0 : 0 < m) (h : m < X.length) : dedup (X.take (m + 1)) = dedup (X.take m) ++ (if gt X (m - 1) = gt X m then [] else [gt X m]) := by
 obtain ⟨q,rfl⟩ : ∃ q,m=q + 1:=⟨m - 1,by omega⟩
 rw [take_snoc h,take_snoc (show q < X.length by omega)]
 exact dedup_snoc _ _ _
theorem cell_ne {a b : Cell} (h : (a.X == b.X && (a.Y == b.Y && true)) = false) : ¬ b = a := fun e => by
 subst e
 simp at h
theorem cell_eq2 {a b : Cell} (h : a.X = b.X ∧ a.Y = b.Y ∧ True) : b = a := by
 obtain ⟨_,_⟩:=a
 obtain ⟨_,_⟩:=b
 obtain ⟨h1,h2,_⟩:=h
 simp only at h1 h2
 rw [h1,h2]
instance inVcm_4 : CMp 284 (List Cell × Nat) false (fun (X, n) => [.sl 0 0 0 n 2]) (fun (X, n) => [.row false 128 2 (fl Cell.e X)]) (fun (X, n) => n = X.length ∧ n ≤ 1000000000) (fun (X, n) => .sl 0 0 0 (dedup X).length 2) (fun (X, n) => [.row false 128 2 (fl Cell.e (dedup X))]) := ⟨fun ⟨X, n⟩ hp => by
 obtain ⟨rfl,hn⟩:=hp
 refine CM.of Tryz.func284 rfl tabOk rfl rfl rfl rfl (by simp [SV.nms,SV.nm]) fun w_ M_ π_ G0_=>?_
 have gtd : ∀ {D : List Cell} {q : Nat},D.length≤q→gt (D ++ X.drop D.length) q=gt X q:=fun {D q} h=>by
  simp only [gt,List.getD_eq_getElem?_getD]
  rw [List.getElem?_append_right h,List.getElem?_drop]
  congr 2
  omega
 refine roA (a2 ?_ ?_)
 ·intro h
  have e : dedup X=X:=by
   match X,h with
   | [],_=>rfl
   | [_],_=>rfl
   | _ :: _ :: _,h=>simp at h;omega
  clear gtd
  exact run
 ·intro h
  refine LoopX_p [] (fun (k : Nat)=>(1≤k∧k≤X.length)∧dedup (X.take k)=X.take k) (fun k=>[(3,I k)]) (fun _=>[]) (fun k=>X.length - k) 1 ?_ ⟨by omega,by cases X with|nil=>rfl|cons a r=>rfl⟩
  conv=>whnf
  rintro k ⟨⟨h1,h2⟩,h3⟩
  have Hg : Hold (_∧_):=⟨⟨@gtd,h3⟩⟩
  clear gtd h3
  refine roA (a3 ?_ ?_ ?_)
  ·intro a0 a1
   obtain ⟨gtd,h3⟩:=Hg.out
   have hk : k < X.length:=by omega
   have i0 : ((k : Int) - 1).toNat + 0=k - 1:=by omega
   have e1 : gt X (k - 1)=gt X k:=by
    have:=cell_eq2 a1
    rw [i0] at this
    exact this
   have e2 : dedup (X.take (k + 1))=X.take k:=by rw [dedup_next (by omega) hk,if_pos e1,h3,List.append_nil]
   have hl : (X.take k).length=k:=by rw [List.length_take];omega
   clear a1
   refine LoopX_p [] (fun ((k',i,D,Z) : Nat × Nat × List Cell × List Cell)=>k' = D.length∧Z=D ++ X.drop D.length∧(1≤i∧k + i≤X.length∧D.length + 1≤k + i)∧D=dedup (X.take (k + i))) (fun (k',i,_,_)=>[(3,I k'),(5,I i)]) (fun (_,_,_,Z)=>[(0,.row false 128 2 (fl Cell.e Z))]) (fun (_,i,_,_)=>X.length - i) (k,1,X.take k,X) ?_ ⟨hl.symm,by rw [hl,List.take_append_drop],by omega,e2.symm⟩
   conv=>whnf
   rintro ⟨k',i,D,Z⟩ ⟨rfl,j2,⟨j3,j4,j5⟩,j6⟩
   have hZ : Z.length=X.length:=by rw [j2,List.length_append,List.length_drop];omega
   have Hj : Hold (_∧_):=⟨⟨j2,j6⟩⟩
   clear j2 j6 e1 e2
   refine roA (a3 ?_ ?_ ?_)
   ·intro b0 b1
    obtain ⟨j2,j6⟩:=Hj.out
    have hm : k + i < X.length:=by omega
    have i1 : i + (0 + k)=k + i:=by omega
    have i2 : ((i : Int) - 1).toNat + (0 + k)=k + i - 1:=by omega
    have g1 : gt Z (i + (0 + k))=gt X (k + i):=by rw [i1,j2];exact gtd (by omega)
    have g2 : gt Z (((i : Int) - 1).toNat + (0 + k))=gt X (k + i - 1):=by rw [i2,j2];exact gtd (by omega)
    have hne:=cell_ne b1
    rw [g1,g2] at hne
    refine rn (D.length + 1,i + 1,D ++ [gt X (k + i)],Z.set D.length (gt Z (i + (0 + k)))) ⟨by simp,?_,by simp only [List.length_append,List.length_cons,List.length_nil];omega,?_⟩
    ·rw [g1,j2,List.length_append,List.length_cons,List.length_nil,List.set_append_right _ _ (Nat.le_refl _),Nat.sub_self]
     have hd : X.drop D.length=gt X D.length :: X.drop (D.length + 1):=by
      rw [List.drop_eq_getElem_cons (by omega)]
      simp [gt,show D.length < X.length by omega]
     rw [hd]
     simp
    ·rw [show k + (i + 1)=k + i + 1 by omega,dedup_next (by omega) hm,if_neg hne,← j6]
   ·intro b0 b1
    obtain ⟨j2,j6⟩:=Hj.out
    have hm : k + i < X.length:=by omega
    have i1 : i + (0 + k)=k + i:=by omega
    have i2 : ((i : Int) - 1).toNat + (0 + k)=k + i - 1:=by omega
    have g1 : gt Z (i + (0 + k))=gt X (k + i):=by rw [i1,j2];exact gtd (by omega)
    have g2 : gt Z (((i : Int) - 1).toNat + (0 + k))=gt X (k + i - 1):=by rw [i2,j2];exact gtd (by omega)
    have he:=cell_eq2 b1
    rw [g1,g2] at he
    exact rn (D.length,i + 1,D,Z) ⟨rfl,j2,by omega,by rw [show k + (i + 1)=k + i + 1 by omega,dedup_next (by omega) hm,if_pos he,List.append_nil,← j6]⟩
   ·intro b0
    obtain ⟨j2,j6⟩:=Hj.out
    have e : k + i=X.length:=by omega
    rw [e,List.take_length] at j6
    refine Fin_tr 0 D.length rfl ?_
    conv=>whnf
    refine Fin_j () ?_
    conv=>whnf
    refine ⟨congrArg (fun n=>SV.sl 0 0 0 n 2) (by rw [← j6];rfl),congrArg (fun z=>some [OB.row false 128 2 (fl Cell.e z)]) ?_,⟨flatD_fl _ _,trivial⟩,rfl⟩
    rw [← j6,List.append_assoc,List.take_append_of_le_length (by rw [List.length_take];omega),List.take_take,Int.toNat_natCast,Nat.zero_add,Nat.min_self,j2,List.take_left]
  ·intro a0 a1
   obtain ⟨gtd,h3⟩:=Hg.out
   have hk : k < X.length:=by omega
   have hne:=cell_ne a1
   have i2 : ((k : Int) - 1).toNat + 0=k - 1:=by omega
   rw [i2] at hne
   exact rn (k + 1) ⟨by omega,by rw [dedup_next (by omega) hk,if_neg (show ¬gt X (k - 1)=gt X k from hne),h3,take_snoc hk]⟩
  ·intro a0
   obtain ⟨gtd,h3⟩:=Hg.out
   obtain rfl : k=X.length:=by omega
   rw [List.take_length] at h3
   clear gtd Hg
   exact run⟩
instance inVcm_5 : AQ 284 2 := ⟨trivial⟩
theorem idxF_some {α : Type} [Inhabited α] {p : α → Bool} {X : List α} (h : ¬ idxF p X = -1) : ∃ i : Nat, idxF p X = i ∧ i < X.length ∧ (∀ j, j < i → p (gt X j) = false) ∧ p (gt X i) = true := by
 have h1:=idxF_any p X
 have h2 : X.any p=true:=h1.1.1 (by omega)
 obtain ⟨i,hi,hno,hyes⟩ : ∃ i,i < X.length∧(∀ j,j < i→p (gt X j)=false)∧p (gt X i)=true:=by
  clear h h1
  induction X with
  | nil=>simp at h2
  | cons a r ih =>
    cases ha : p a with
    | true=>exact ⟨0,by simp,fun j hj=>by omega,by simpa [gt] using ha⟩
    | false =>
      rw [List.any_cons,ha,Bool.false_or] at h2
      obtain ⟨i,h3,h4,h5⟩:=ih h2
      refine ⟨i + 1,by simpa using h3,fun j hj=>?_,by simpa [gt] using h5⟩
      cases j with
      | zero=>simpa [gt] using ha
      | succ j=>simpa [gt] using h4 j (by omega)
 exact ⟨i,idxF_at p X i hi hno hyes,hi,hno,hyes⟩
theorem del_cm {g : FuncId} {ad : Addr} {ds : List DV} {pre : Cell → Prop} {p : Cell → Bool} [h : ∀ a : Cell, CFc g false [a.s, .fa ad ds] (pre a) (B (p a)) []] {X : List Cell} (hn : X.length ≤ 1000000000) (hp : ∀ i : Nat, i < X.length → pre (gt X i)) :
 CM Tryz.prog 142 false [.sl 0 0 0 X.length 2,.fn g [.fa ad ds]] [.row false 128 2 (fl Cell.e X)] (fun _ : Unit=>.sl 0 0 0 (X.filter fun a=>!p a).length 2) (fun _=>[.row false 128 2 (fl Cell.e (X.filter fun a=>!p a))]):=by
 refine CM.of Tryz.func142 rfl tabOk rfl rfl rfl rfl (by simp [SV.nms,SV.nm]) fun w_ M_ π_ G0_=>?_
 have hc0 : SV.nms 0 [SV.fa ad ds]:=⟨trivial,trivial⟩
 refine roA (a2 ?_ ?_)
 ·intro a0
  have e : (X.filter fun a=>!p a)=X:=by
   rw [List.filter_eq_self]
   intro a ha
   have h1:=(idxF_any p X).1
   have h2 : X.any p=false:=by
    cases hq : X.any p with
    | false=>rfl
    | true=>have:=h1.2 hq;omega
   rw [List.any_eq_false] at h2
   simpa using h2 a ha
  clear hp
  exact run
 ·intro a0
  obtain ⟨i,hi,hlt,hno,hyes⟩:=idxF_some a0
  have hf : (X.take (i + 1)).filter (fun a=>!p a)=X.take i:=by
   rw [filter_next hlt,hyes]
   simp only [Bool.not_true,Bool.false_eq_true,if_false,List.append_nil]
   rw [List.filter_eq_self]
   intro a ha
   obtain ⟨j,hj,rfl⟩:=List.mem_iff_getElem.1 ha
   rw [List.length_take] at hj
   have:=hno j (by omega)
   rw [List.getElem_take]
   simp only [gt,List.getD_eq_getElem?_getD,List.getElem?_eq_getElem (show j < X.length by omega),Option.getD_some] at this
   simp [this]
  have hl : (X.take i).length=i:=by rw [List.length_take];omega
  have gtd : ∀ {D : List Cell} {q : Nat},D.length≤q→gt (D ++ X.drop D.length) q=gt X q:=fun {D q} h=>by
   simp only [gt,List.getD_eq_getElem?_getD]
   rw [List.getElem?_append_right h,List.getElem?_drop]
   congr 2
   omega
  have Hg : Hold (_∧_):=⟨⟨@gtd,hf⟩⟩
  clear gtd hf hno hyes a0
  generalize idxF p X=q at *
  subst hi
  refine xwr_a ?_
  refine roA (a1 ?_)
  refine LoopX_p [] (fun ((m,j,D,Z) : Nat × Nat × List Cell × List Cell)=>m=D.length∧Z=D ++ X.drop D.length∧(j≤X.length∧D.length + 1≤j)∧D=(X.take j).filter (fun a=>!p a)) (fun (m,j,_,_)=>[(5,I m),(6,I j)]) (fun (_,_,_,Z)=>[(0,.row false 128 2 (fl Cell.e Z))]) (fun (_,j,_,_)=>X.length - j) (i,i + 1,X.take i,X) ?_ ⟨hl.symm,by rw [hl,List.take_append_drop],by omega,Hg.out.2.symm⟩
  conv=>whnf
  rintro ⟨m,j,D,Z⟩ ⟨rfl,j2,⟨j3,j4⟩,j5⟩
  have hZ : Z.length=X.length:=by rw [j2,List.length_append,List.length_drop];omega
  have Hj : Hold (_∧_):=⟨⟨j2,j5⟩⟩
  have hpz : j < X.length→pre (gt Z ((j : Int).toNat + 0)):=fun hj=>by
   have : gt Z ((j : Int).toNat + 0)=gt X j:=by rw [j2];exact Hg.out.1 (by omega)
   rw [this]
   exact hp j hj
  clear j2 j5 hp
  have gz : gt Z (j + 0)=gt X j:=by rw [Hj.out.1];exact Hg.out.1 (by omega)
  refine roA (a3 ?_ ?_ ?_)
  ·intro a0 a1
   obtain ⟨j2,j5⟩:=Hj.out
   have hj : j < X.length:=by omega
   rw [gz] at a1
   have e:=filter_next (p:=fun a=>!p a) hj
   rw [a1] at e
   refine rn (D.length + 1,j + 1,D ++ [gt X j],Z.set D.length (gt Z (j + 0))) ⟨by simp,?_,by simp only [List.length_append,List.length_cons,List.length_nil];omega,by rw [e,← j5];rfl⟩
   rw [gz,j2,List.length_append,List.length_cons,List.length_nil,List.set_append_right _ _ (Nat.le_refl _),Nat.sub_self]
   have hd : X.drop D.length=gt X D.length :: X.drop (D.length + 1):=by
    rw [List.drop_eq_getElem_cons (by omega)]
    simp [gt,show D.length < X.length by omega]
   rw [hd]
   simp
  ·intro a0 a1
   obtain ⟨j2,j5⟩:=Hj.out
   have hj : j < X.length:=by omega
   rw [gz] at a1
   have e:=filter_next (p:=fun a=>!p a) hj
   rw [a1] at e
   exact rn (D.length,j + 1,D,Z) ⟨rfl,j2,by omega,by rw [e,← j5];simp⟩
  ·intro a0
   obtain ⟨j2,j5⟩:=Hj.out
   obtain rfl : j=X.length:=by omega
   rw [List.take_length] at j5
   refine Fin_tr 0 D.length rfl ?_
   conv=>whnf
   refine Fin_j () ?_
   conv=>whnf
   refine ⟨congrArg (fun n=>SV.sl 0 0 0 n 2) (by rw [← j5];rfl),congrArg (fun z=>some [OB.row false 128 2 (fl Cell.e z)]) ?_,⟨flatD_fl _ _,trivial⟩,rfl⟩
   rw [← j5,List.append_assoc,List.take_append_of_le_length (by rw [List.length_take];omega),List.take_take,Int.toNat_natCast,Nat.zero_add,Nat.min_self,j2,List.take_left]
end Go.Proofs.YtkflmidichikjaaGreatDoor.V
end
section
namespace Go.Proofs.YtkflmidichikjaaGreatDoor.V
open Go.RowKit
set_option maxRecDepth 100000
set_option maxHeartbeats 8000000
namespace Heading
def vArc (a : Arc) : Bool := decide (a.From ≥ 0) && decide (a.From < 256) && decide (a.Count ≥ 1) && decide (a.Count ≤ 256) && (a.From == 0 || decide (a.Count < 256))
theorem vArc_iff {a : Arc} : vArc a = true ↔ 0 ≤ a.From ∧ a.From < 256 ∧ 1 ≤ a.Count ∧ a.Count ≤ 256 ∧ (a.From = 0 ∨ a.Count < 256) := by simp [vArc, and_assoc]
instance inVh_1 {x y : Int} : Bnd (vArc ⟨x, y⟩) (vArc ⟨x, y⟩ = true ∧ 0 ≤ x ∧ x < 256 ∧ 1 ≤ y ∧ y ≤ 256 ∧ (x = 0 ∨ y < 256)) := ⟨fun h => ⟨h, vArc_iff.1 h⟩⟩
def has (a : Arc) (h : Int) : Bool := vArc a && decide ((h - a.From) % 256 < a.Count)
def arc (f c : Int) : Arc := if c ≥ 256 then ⟨0, 256⟩ else ⟨f % 256, c⟩
def shift (a : Arc) (n : Int) : Arc × Int := if vArc a then (arc (a.From + n % 256) a.Count, 0) else (⟨0, 0⟩, 1)
def grow (a : Arc) (n : Int) : Arc × Int := if vArc a then (if n < 0 ∨ n > 256 then (⟨0, 0⟩, 2) else (arc (a.From - n) (a.Count + 2 * n), 0)) else (⟨0, 0⟩, 1)
def covers (f : Int) (a : Arc) : Int := (a.From - f) % 256 + a.Count
def hullStep (a b best : Arc) (f : Int) : Arc :=
 if max (covers f a) (covers f b) < best.Count∨(max (covers f a) (covers f b)=best.Count∧max (covers f a) (covers f b) < 256∧f < best.From) then ⟨f,max (covers f a) (covers f b)⟩ else best
def hull (a b : Arc) : Arc × Int := if vArc a ∧ vArc b then (hullStep a b (hullStep a b ⟨0, 256⟩ a.From) b.From, 0) else (⟨0, 0⟩, 1)
def list (a : Arc) : List Int := if vArc a then (List.range a.Count.toNat).map (fun i => (a.From + (i : Nat)) % 256) else []
def gcdI (a b : Int) : Int := (Nat.gcd a.natAbs b.natAbs : Nat)
def lowest (x y d : Int) : Vector := ⟨x.tdiv (gcdI (gcdI d x) y), y.tdiv (gcdI (gcdI d x) y), d / gcdI (gcdI d x) y⟩
theorem gcdI_step {g n : Int} (h : 0 ≤ g) (h' : 0 < n) : gcdI n (g % n) = gcdI g n := by
 obtain ⟨a,rfl⟩:=Int.eq_ofNat_of_zero_le h
 obtain ⟨b,rfl⟩:=Int.eq_ofNat_of_zero_le (Int.le_of_lt h')
 unfold gcdI
 rw [← Int.natCast_emod]
 simp only [Int.natAbs_natCast]
 rw [Nat.gcd_comm b,← Nat.gcd_rec,Nat.gcd_comm]
theorem gcdI_zero {g : Int} (h : 0 ≤ g) : gcdI g 0 = g := by unfold gcdI; simp; omega
theorem gcdI_abs {g n : Int} : gcdI g (max n (0 - n)) = gcdI g n := by unfold gcdI; congr 2; omega
theorem gcdI_pos {g n : Int} (h : 1 ≤ g) : 1 ≤ gcdI g n ∧ gcdI g n ≤ g := by
 have h1 : 0 < Nat.gcd g.natAbs n.natAbs:=Nat.gcd_pos_of_pos_left _ (by omega)
 have h2:=Nat.gcd_le_left n.natAbs (show 0 < g.natAbs by omega)
 unfold gcdI
 omega
def delta (a b : Int) : Int := if (b - a) % 256 ≥ 128 then (b - a) % 256 - 256 else (b - a) % 256
def vVec (v : Vector) : Bool := decide (1 ≤ v.D) && decide (v.D ≤ 67108864) && decide (0 - v.D ≤ v.X) && decide (v.X ≤ v.D) && decide (0 - v.D ≤ v.Y) && decide (v.Y ≤ v.D) && (v.X * v.X + v.Y * v.Y == v.D * v.D)
end Heading
open Heading
instance inVh_2 {h : Int} : CFc 88 false [I h] True (I (h % 256)) [] := ⟨fun _ => by
 refine CM.of Tryz.func88 rfl tabOk rfl rfl rfl rfl (by simp [SV.nms,SV.nm]) fun w_ M_ π_ G0_=>?_
 refine runA (a1 ?_)
 exact congrArg I (and255 h)⟩
instance inVh_3 {x y : Int} : CFc 86 false [.a [I x, I y]] True (B (vArc ⟨x, y⟩)) [] := ⟨fun _ => by
 unfold vArc
 refine CM.of Tryz.func86 rfl tabOk rfl rfl rfl rfl (by simp [SV.nms,SV.nm]) fun w_ M_ π_ G0_=>?_
 exact run⟩
instance inVh_4 {x y h : Int} : CFc 112 false [.a [I x, I y], I h] (-1000000000000 ≤ h ∧ h ≤ 1000000000000) (B (has ⟨x, y⟩ h)) [] := ⟨fun _ => by
 unfold has
 refine CM.of Tryz.func112 rfl tabOk rfl rfl rfl rfl (by simp [SV.nms,SV.nm]) fun w_ M_ π_ G0_=>?_
 exact run⟩
instance inVh_5 {f c : Int} : CFc 87 false [I f, I c] True (arc f c).s [] := ⟨fun _ => by
 unfold arc
 refine CM.of Tryz.func87 rfl tabOk rfl rfl rfl rfl (by simp [SV.nms,SV.nm]) fun w_ M_ π_ G0_=>?_
 exact run⟩
instance inVh_6 {x y n : Int} : CFc 42 false [.a [I x, I y], I n] True (.t [(shift ⟨x, y⟩ n).1.s, I (shift ⟨x, y⟩ n).2]) [] := ⟨fun _ => by
 unfold shift
 refine CM.of Tryz.func42 rfl tabOk rfl rfl rfl rfl (by simp [SV.nms,SV.nm]) fun w_ M_ π_ G0_=>?_
 exact run⟩
instance inVh_7 {x y n : Int} : CFc 43 false [.a [I x, I y], I n] True (.t [(grow ⟨x, y⟩ n).1.s, I (grow ⟨x, y⟩ n).2]) [] := ⟨fun _ => by
 unfold grow
 refine CM.of Tryz.func43 rfl tabOk rfl rfl rfl rfl (by simp [SV.nms,SV.nm]) fun w_ M_ π_ G0_=>?_
 exact run⟩
instance inVh_8 {x y f : Int} : CFc 288 false [I f, .a [I x, I y]] (-1000000000000 ≤ f ∧ f ≤ 1000000000000 ∧ -1000000000000 ≤ x ∧ x ≤ 1000000000000 ∧ -1000000000000 ≤ y ∧ y ≤ 1000000000000) (I (covers f ⟨x, y⟩)) [] := ⟨fun _ => by
 unfold covers
 refine CM.of Tryz.func288 rfl tabOk rfl rfl rfl rfl (by simp [SV.nms,SV.nm]) fun w_ M_ π_ G0_=>?_
 exact run⟩
def hullN (a b : Arc) : Nat → Arc
 | 0=>⟨0,256⟩
 | 1=>hullStep a b ⟨0,256⟩ a.From
 | _=>hullStep a b (hullStep a b ⟨0,256⟩ a.From) b.From
instance inVh_9 {a b c d : Int} : CFc 234 false [.a [I a, I b], .a [I c, I d]] True (.t [(hull ⟨a, b⟩ ⟨c, d⟩).1.s, I (hull ⟨a, b⟩ ⟨c, d⟩).2]) [] := ⟨fun _ => by
 unfold hull
 refine CM.of Tryz.func234 rfl tabOk rfl rfl rfl rfl (by simp [SV.nms,SV.nm]) fun w_ M_ π_ G0_=>?_
 refine runA (a1 ?_)
 intro h1 h2 h3 h4
 refine LoopX_c tabOk [] (fun x : Nat × Arc=>x.1≤2∧x.2=hullN ⟨a,b⟩ ⟨c,d⟩ x.1) (fun x=>[(25,I x.1)]) (fun x=>[(3,.box 107 [I x.2.From,I x.2.Count])]) (fun x=>2 - x.1) (0,⟨0,256⟩) (by simp [hullN]) ⟨rfl,trivial⟩ ⟨rfl,trivial⟩ ?_
 conv=>whnf
 rintro ⟨i,e⟩ ⟨hi,he⟩
 simp only at hi he
 match i,hi with
 | 0,_ =>
   refine runA (a5 ?_ ?_ ?_ ?_ ?_) <;>
   (intros;(first|refine rnd (1,⟨a,max (covers a ⟨a,b⟩) (covers a ⟨c,d⟩)⟩) ⟨by simp,by show _=hullStep _ _ (hullN ⟨a,b⟩ ⟨c,d⟩ 0) a;rw [← he];unfold hullStep;rw [if_pos (by (try simp only []);omega)]⟩|refine rnd (1,e) ⟨by simp,by show _=hullStep _ _ (hullN ⟨a,b⟩ ⟨c,d⟩ 0) a;rw [← he];unfold hullStep;rw [if_neg (by (try simp only []);omega)]⟩))
 | 1,_ =>
   refine runA (a5 ?_ ?_ ?_ ?_ ?_) <;>
   (intros;(first|refine rnd (2,⟨c,max (covers c ⟨a,b⟩) (covers c ⟨c,d⟩)⟩) ⟨by simp,by show _=hullStep _ _ (hullN ⟨a,b⟩ ⟨c,d⟩ 1) c;rw [← he];unfold hullStep;rw [if_pos (by (try simp only []);omega)]⟩|refine rnd (2,e) ⟨by simp,by show _=hullStep _ _ (hullN ⟨a,b⟩ ⟨c,d⟩ 1) c;rw [← he];unfold hullStep;rw [if_neg (by (try simp only []);omega)]⟩))
 | 2,_ =>
   have e1 : hullStep ⟨a,b⟩ ⟨c,d⟩ (hullStep ⟨a,b⟩ ⟨c,d⟩ ⟨0,256⟩ a) c=e:=he.symm
   exact run⟩
instance inVh_10 {a b : Int} : CFc 336 false [I a, I b] (-1000000000000 ≤ a ∧ a ≤ 1000000000000 ∧ -1000000000000 ≤ b ∧ b ≤ 1000000000000) (I (delta a b)) [] := ⟨fun _ => by
 unfold delta
 refine CM.of Tryz.func336 rfl tabOk rfl rfl rfl rfl (by simp [SV.nms,SV.nm]) fun w_ M_ π_ G0_=>?_
 exact run⟩
theorem gcdI_round {g n c : Int} (h : 1 ≤ g ∧ 0 ≤ n ∧ g ≤ 4611686018427387904 ∧ gcdI g n = c) (hn : ¬n = 0) (hb : n ≤ 4611686018427387904) : 1 ≤ n ∧ 0 ≤ g % n ∧ n ≤ 4611686018427387904 ∧ gcdI n (g % n) = c := by
 refine ⟨by omega,Int.emod_nonneg _ hn,hb,?_⟩
 rw [gcdI_step (by omega) (by omega),h.2.2.2]
instance inVh_11 {x y d : Int} : CFc 190 false [I x, I y, I d] (1 ≤ d ∧ d ≤ 4611686018427387904 ∧ -4611686018427387904 ≤ x ∧ x ≤ 4611686018427387904 ∧ -4611686018427387904 ≤ y ∧ y ≤ 4611686018427387904) (lowest x y d).s [] := ⟨fun hp => by
 refine CM.of Tryz.func190 rfl tabOk rfl rfl rfl rfl (by simp [SV.nms,SV.nm]) fun w_ M_ π_ G0_=>?_
 refine runA (a1 ?_)
 refine LoopX_r tabOk 3 ?_
 refine runA (a1 ?_)
 refine LoopX_c tabOk [] (fun p : Int × Int=>(1≤p.1∧0≤p.2∧p.1≤4611686018427387904∧gcdI p.1 p.2=gcdI d x)∧p.2≤4611686018427387904) (fun p=>[(9,I p.2),(7,I p.1)]) (fun _=>[]) (fun p=>p.2.toNat) (d,max x (0 - x)) ⟨⟨hp.1,by simp only;omega,hp.2.1,gcdI_abs⟩,by simp only;omega⟩ ⟨rfl,rfl,trivial⟩ trivial ?_
 conv=>whnf
 rintro ⟨g,n⟩ ⟨hj,hq⟩
 simp only at hj hq
 have hj':=hj
 obtain ⟨hj1,hj2,hj3,-⟩:=hj'
 have hem:=fun h=>Int.emod_lt_of_pos g (b:=n) h
 refine runA (a2 ?_ ?_)
 ·exact fun h=>rnd (n,g % n) ⟨gcdI_round hj h hq,by have:=hem (by omega);simp only;omega⟩ (by have:=hem (by omega);have:=Int.emod_nonneg g h;simp only;omega)
 intro h0
 subst h0
 rw [gcdI_zero (by omega)] at hj
 have hg:=hj.2.2.2
 refine LoopX_c tabOk [] (fun p : Int × Int=>(1≤p.1∧0≤p.2∧p.1≤4611686018427387904∧gcdI p.1 p.2=gcdI g y)∧p.2≤4611686018427387904) (fun p=>[(9,I p.2),(7,I p.1)]) (fun _=>[]) (fun p=>p.2.toNat) (g,max y (0 - y)) ⟨⟨hj1,by simp only;omega,hj3,gcdI_abs⟩,by simp only;omega⟩ ⟨rfl,rfl,trivial⟩ trivial ?_
 conv=>whnf
 rintro ⟨g',n⟩ ⟨hk,hq⟩
 simp only at hk hq
 have hk':=hk
 obtain ⟨hk1,hk2,hk3,-⟩:=hk'
 have hem:=fun h=>Int.emod_lt_of_pos g' (b:=n) h
 refine runA (a2 ?_ ?_)
 ·exact fun h=>rnd (n,g' % n) ⟨gcdI_round hk h hq,by have:=hem (by omega);simp only;omega⟩ (by have:=hem (by omega);have:=Int.emod_nonneg g' h;simp only;omega)
 intro h0
 subst h0
 rw [gcdI_zero (by omega),hg] at hk
 simp only [lowest,← hk.2.2.2]
 rfl⟩
attribute [irreducible] Heading.vArc Heading.has Heading.arc Heading.shift Heading.grow Heading.covers Heading.hullStep Heading.hull Heading.list Heading.lowest Heading.delta Heading.vVec
end Go.Proofs.YtkflmidichikjaaGreatDoor.V
end
section
namespace Go.Proofs.YtkflmidichikjaaGreatDoor.V
open Go.RowKit
set_option maxRecDepth 100000
set_option maxHeartbeats 8000000
open Heading
namespace Heading
theorem tdiv_bnd {x g B : Int} (h : -B ≤ x ∧ x ≤ B) : -B ≤ x.tdiv g ∧ x.tdiv g ≤ B := by
 have h2 : (x.tdiv g).natAbs≤x.natAbs:=by rw [Int.natAbs_tdiv];exact Nat.div_le_self _ _
 omega
theorem lowest_bnd {x y d B : Int} (hd : 1 ≤ d) (hx : -B ≤ x ∧ x ≤ B) (hy : -B ≤ y ∧ y ≤ B) : -B ≤ (lowest x y d).X ∧ (lowest x y d).X ≤ B ∧ -B ≤ (lowest x y d).Y ∧ (lowest x y d).Y ≤ B ∧ 1 ≤ (lowest x y d).D ∧ (lowest x y d).D ≤ d := by
 have h1:=gcdI_pos (n:=x) hd
 have h2:=gcdI_pos (n:=y) h1.1
 have e1:=tdiv_bnd (g:=gcdI (gcdI d x) y) hx
 have e2:=tdiv_bnd (g:=gcdI (gcdI d x) y) hy
 have h3 : gcdI (gcdI d x) y≤d:=by omega
 have e3 : 1≤d / gcdI (gcdI d x) y:=(Int.le_ediv_iff_mul_le (by omega)).2 (by omega)
 have e4 : d / gcdI (gcdI d x) y≤d:=Int.ediv_le_self _ (by omega)
 unfold lowest
 exact ⟨e1.1,e1.2,e2.1,e2.2,e3,e4⟩
def rotN (v : Vector) : Nat → Vector
 | 0=>v
 | i + 1=>⟨0 - (rotN v i).Y,(rotN v i).X,(rotN v i).D⟩
theorem rotN_bnd {v : Vector} {B : Int} (h : -B ≤ v.X ∧ v.X ≤ B ∧ -B ≤ v.Y ∧ v.Y ≤ B) : ∀ i, -B ≤ (rotN v i).X ∧ (rotN v i).X ≤ B ∧ -B ≤ (rotN v i).Y ∧ (rotN v i).Y ≤ B
 | 0=>h
 | i + 1=>by
   have:=rotN_bnd h i
   simp only [rotN]
   omega
theorem rotN_D {v : Vector} : ∀ i, (rotN v i).D = v.D
 | 0=>rfl
 | i + 1=>rotN_D i
def dir0 (k : Int) : Vector := lowest (4096 - k * k) (128 * k) (4096 + k * k)
def dir (h : Int) : Vector := rotN (dir0 (h % 256 % 64)) (h % 256 / 64).toNat
theorem sq_bnd {k B : Int} (h : -B ≤ k ∧ k ≤ B) : 0 ≤ k * k ∧ k * k ≤ B * B := by
 have h1 : 0≤(B - k) * (B + k):=Int.mul_nonneg (by omega) (by omega)
 have h2 : 0≤k * k:=by
  rcases Int.le_total 0 k with h|h
  ·exact Int.mul_nonneg h h
  ·have:=Int.mul_nonneg (show 0≤-k by omega) (show 0≤-k by omega);rwa [Int.neg_mul_neg] at this
 refine ⟨h2,?_⟩
 have : (B - k) * (B + k)=B * B - k * k:=by rw [Int.sub_mul,Int.mul_add,Int.mul_add,Int.mul_comm k B];omega
 omega
theorem mul_bnd {a b A B : Int} (ha : -A ≤ a ∧ a ≤ A) (hb : -B ≤ b ∧ b ≤ B) : -(A * B) ≤ a * b ∧ a * b ≤ A * B := by
 have hA : 0≤A:=by omega
 have hB : 0≤B:=by omega
 have h1 : 0≤(A - a) * (B + b):=Int.mul_nonneg (by omega) (by omega)
 have h2 : 0≤(A + a) * (B - b):=Int.mul_nonneg (by omega) (by omega)
 have h3 : 0≤(A - a) * (B - b):=Int.mul_nonneg (by omega) (by omega)
 have h4 : 0≤(A + a) * (B + b):=Int.mul_nonneg (by omega) (by omega)
 have e1 : (A - a) * (B + b)=A * B + A * b - a * B - a * b:=by rw [Int.sub_mul,Int.mul_add,Int.mul_add];omega
 have e2 : (A + a) * (B - b)=A * B - A * b + a * B - a * b:=by rw [Int.add_mul,Int.mul_sub,Int.mul_sub];omega
 have e3 : (A - a) * (B - b)=A * B - A * b - a * B + a * b:=by rw [Int.sub_mul,Int.mul_sub,Int.mul_sub];omega
 have e4 : (A + a) * (B + b)=A * B + A * b + a * B + a * b:=by rw [Int.add_mul,Int.mul_add,Int.mul_add];omega
 omega
theorem vVec_iff {v : Vector} : vVec v = true ↔ 1 ≤ v.D ∧ v.D ≤ 67108864 ∧ -v.D ≤ v.X ∧ v.X ≤ v.D ∧ -v.D ≤ v.Y ∧ v.Y ≤ v.D ∧ v.X * v.X + v.Y * v.Y = v.D * v.D := by simp [vVec, and_assoc]
instance inVh2_1 {x y d : Int} : Bnd (vVec ⟨x, y, d⟩) (vVec ⟨x, y, d⟩ = true ∧ 1 ≤ d ∧ d ≤ 67108864 ∧ -d ≤ x ∧ x ≤ d ∧ -d ≤ y ∧ y ≤ d) := ⟨fun h => by have := vVec_iff.1 h; simp only at this; exact ⟨h, by omega⟩⟩
def turn (a b : Vector) : Vector × Int :=
 if vVec a∧vVec b then (if (lowest (a.X * b.X - a.Y * b.Y) (a.X * b.Y + a.Y * b.X) (a.D * b.D)).D > 67108864 then (⟨0,0,0⟩,2) else (lowest (a.X * b.X - a.Y * b.Y) (a.X * b.Y + a.Y * b.X) (a.D * b.D),0)) else (⟨0,0,0⟩,1)
def beam (h m : Int) : Vector := (turn (dir h) (dir m)).1
end Heading
instance inVh2_2 {h : Int} : CFc 137 false [I h] True (dir h).s [] := ⟨fun _ => by
 refine CM.of Tryz.func137 rfl tabOk rfl rfl rfl rfl (by simp [SV.nms,SV.nm]) fun w_ M_ π_ G0_=>?_
 have hk:=sq_bnd (k:=h % 256 % 64) (B:=64) (by omega)
 have hl:=lowest_bnd (x:=4096 - h % 256 % 64 * (h % 256 % 64)) (y:=128 * (h % 256 % 64)) (d:=4096 + h % 256 % 64 * (h % 256 % 64)) (B:=8192) (by omega) (by omega) (by omega)
 have hr:=rotN_bnd (v:=dir0 (h % 256 % 64)) (B:=8192) ⟨hl.1,hl.2.1,hl.2.2.1,hl.2.2.2.1⟩
 refine runA (a1 ?_)
 refine LoopX_c tabOk [] (fun i : Nat=>(i : Int)≤h % 256 / 64) (fun i=>[(22,I i)]) (fun i=>[(1,.box 235 [I (rotN (dir0 (h % 256 % 64)) i).X,I (rotN (dir0 (h % 256 % 64)) i).Y,I (rotN (dir0 (h % 256 % 64)) i).D])]) (fun i=>(h % 256 / 64).toNat - i) 0 (by omega) ⟨rfl,trivial⟩ ⟨rfl,trivial⟩ ?_
 conv=>whnf
 intro i hi
 have hi2:=hr i
 refine runA (a2 ?_ ?_)
 ·exact fun h1=>rnd (i + 1) (by omega)
 ·intro h1
  have : (h % 256 / 64).toNat=i:=by omega
  simp only [dir,this]
  rfl⟩
instance inVh2_3 {x y d : Int} : CFc 349 false [.a [I x, I y, I d]] True (B (vVec ⟨x, y, d⟩)) [] := ⟨fun _ => by
 unfold vVec
 refine CM.of Tryz.func349 rfl tabOk rfl rfl rfl rfl (by simp [SV.nms,SV.nm]) fun w_ M_ π_ G0_=>?_
 refine runA (a1 ?_)
 intros
 have h1:=sq_bnd (k:=x) (B:=67108864) (by omega)
 have h2:=sq_bnd (k:=y) (B:=67108864) (by omega)
 have h3:=sq_bnd (k:=d) (B:=67108864) (by omega)
 exact run⟩
instance inVh2_4 {x y d x' y' d' : Int} : CFc 309 false [.a [I x, I y, I d], .a [I x', I y', I d']] True (.t [(turn ⟨x, y, d⟩ ⟨x', y', d'⟩).1.s, I (turn ⟨x, y, d⟩ ⟨x', y', d'⟩).2]) [] := ⟨fun _ => by
 unfold turn
 refine CM.of Tryz.func309 rfl tabOk rfl rfl rfl rfl (by simp [SV.nms,SV.nm]) fun w_ M_ π_ G0_=>?_
 refine runA (a1 ?_)
 intros
 have h1:=mul_bnd (a:=x) (b:=x') (A:=67108864) (B:=67108864) (by omega) (by omega)
 have h2:=mul_bnd (a:=y) (b:=y') (A:=67108864) (B:=67108864) (by omega) (by omega)
 have h3:=mul_bnd (a:=x) (b:=y') (A:=67108864) (B:=67108864) (by omega) (by omega)
 have h4:=mul_bnd (a:=y) (b:=x') (A:=67108864) (B:=67108864) (by omega) (by omega)
 have h5:=mul_bnd (a:=d) (b:=d') (A:=67108864) (B:=67108864) (by omega) (by omega)
 have h6 : 1 * 1≤d * d':=Int.mul_le_mul (by omega) (by omega) (by omega) (by omega)
 exact run⟩
instance inVh2_5 {h m : Int} : CFc 267 false [I h, I m] True (beam h m).s [] := ⟨fun _ => by
 unfold beam
 refine CM.of Tryz.func267 rfl tabOk rfl rfl rfl rfl (by simp [SV.nms,SV.nm]) fun w_ M_ π_ G0_=>?_
 exact run⟩
instance inVh2_6 {x y : Int} : CFc 44 false [.a [I x, I y]] True (.sl 0 0 0 (list ⟨x, y⟩).length 1) [.row false 3 1 (fl ie (list ⟨x, y⟩))] := ⟨fun _ => by
 unfold list
 refine CM.of Tryz.func44 rfl tabOk rfl rfl rfl rfl (by simp [SV.nms,SV.nm]) fun w_ M_ π_ G0_=>?_
 refine runA (a1 ?_)
 intro h1 h2
 refine LoopX_c tabOk [] (fun s : Nat × List Int=>s.1≤y.toNat∧s.2=fillN (fun i=>(x + (i : Nat)) % 256) 0 y.toNat s.1) (fun s=>[(13,I s.1)]) (fun s=>[(1,.row false 3 1 (fl ie s.2))]) (fun s=>y.toNat - s.1) (0,List.replicate y.toNat default) ⟨by simp,(fillN_zero _ _ _).symm⟩ ⟨rfl,trivial⟩ ⟨rfl,trivial⟩ ?_
 conv=>whnf
 rintro ⟨i,X⟩ ⟨hi,hX⟩
 simp only at hi hX
 have hl : X.length=y.toNat:=by rw [hX,fillN_len]
 refine runA (a2 ?_ ?_)
 ·exact fun h=>rnd (i + 1,X.set i ((x + (i : Nat)) % 256)) ⟨by simp only;omega,by rw [hX];exact fillN_set (fun i=>(x + (i : Nat)) % 256) 0⟩ (by simp only;omega)
 ·intro h
  rw [hX,fillN_all _ _ (by omega)]
  simp [h1,nthL,nth,rnOs,OB.rnB]⟩
attribute [irreducible] Heading.dir0 Heading.dir Heading.turn Heading.beam
end Go.Proofs.YtkflmidichikjaaGreatDoor.V
end
section
namespace Go.Proofs.YtkflmidichikjaaGreatDoor.V
open Go.RowKit
set_option maxRecDepth 100000
set_option maxHeartbeats 8000000
namespace BoxP
open Heading
def far (n : Int) : Bool := decide (n < -1048576) || decide (n > 1048576)
def vBox (b : Box) : Bool := decide (b.X0 ≤ b.X1) && decide (b.Y0 ≤ b.Y1) && (!([b.X0, b.Y0, b.X1, b.Y1].any far)) && vArc ⟨b.From, b.Count⟩
theorem vBox_iff {b : Box} : vBox b = true ↔ b.X0 ≤ b.X1 ∧ b.Y0 ≤ b.Y1 ∧ (-1048576 ≤ b.X0 ∧ b.X0 ≤ 1048576) ∧ (-1048576 ≤ b.Y0 ∧ b.Y0 ≤ 1048576) ∧ (-1048576 ≤ b.X1 ∧ b.X1 ≤ 1048576) ∧ (-1048576 ≤ b.Y1 ∧ b.Y1 ≤ 1048576) ∧ vArc ⟨b.From, b.Count⟩ = true := by
 simp [vBox,and_assoc,far]
theorem vBox_arc {b : Box} (h : vBox b = true) : vArc ⟨b.From, b.Count⟩ = true := (vBox_iff.1 h).2.2.2.2.2.2
instance inVb_1 {a b c d e f : Int} : Bnd (vBox ⟨a, b, c, d, e, f⟩) (vBox ⟨a, b, c, d, e, f⟩ = true ∧ a ≤ c ∧ b ≤ d ∧ -1048576 ≤ a ∧ c ≤ 1048576 ∧ -1048576 ≤ b ∧ d ≤ 1048576 ∧ 0 ≤ e ∧ e < 256 ∧ 1 ≤ f ∧ f ≤ 256 ∧ (e = 0 ∨ f < 256)) := ⟨fun h => by
 have h1:=vBox_iff.1 h
 have h2:=vArc_iff.1 (vBox_arc h)
 simp only at h1 h2
 exact ⟨h,by omega⟩⟩
def bhas (b : Box) (p : Pose) : Bool := vBox b && decide (b.X0 ≤ p.X) && decide (p.X ≤ b.X1) && decide (b.Y0 ≤ p.Y) && decide (p.Y ≤ b.Y1) && has ⟨b.From, b.Count⟩ p.H
def vol (b : Box) : Int := if vBox b then (b.X1 - b.X0 + 1) * (b.Y1 - b.Y0 + 1) * b.Count else 0
def withA (r : Rect) (a : Arc) : Box := ⟨r.X0, r.Y0, r.X1, r.Y1, a.From, a.Count⟩
def bhull (a b : Box) : Box × Int :=
 if vBox a∧vBox b then (⟨min a.X0 b.X0,min a.Y0 b.Y0,max a.X1 b.X1,max a.Y1 b.Y1,(hull ⟨a.From,a.Count⟩ ⟨b.From,b.Count⟩).1.From,(hull ⟨a.From,a.Count⟩ ⟨b.From,b.Count⟩).1.Count⟩,0) else (⟨0,0,0,0,0,0⟩,1)
def rectangle (b : Box) : Rect := if vBox b then ⟨b.X0, b.Y0, b.X1, b.Y1⟩ else ⟨0, 0, 0, 0⟩
def bcorners (b : Box) : List Point := if vBox b then [⟨b.X0, b.Y0⟩, ⟨b.X1, b.Y0⟩, ⟨b.X0, b.Y1⟩, ⟨b.X1, b.Y1⟩] else []
end BoxP
open Heading BoxP
instance inVb_2 {n : Int} : CFc 184 false [I n] True (B (far n)) [] := ⟨fun _ => by
 unfold far
 refine CM.of Tryz.func184 rfl tabOk rfl rfl rfl rfl (by simp [SV.nms,SV.nm]) fun w_ M_ π_ G0_=>?_
 exact run⟩
instance inVb_3 {A : Option Addr} {c : Nat} {X : List Int} : CFc 131 false [.fz A c 1 (fl ie X)] (X.length ≤ 1000000000000) (B (!(X.any far))) [] := ⟨fun _ => by
 refine CM.of Tryz.func131 rfl tabOk rfl rfl rfl rfl (by simp [SV.nms,SV.nm]) fun w_ M_ π_ G0_=>?_
 exact run⟩
instance inVb_4 {a b c d e f : Int} : CFc 113 false [.a [I a, I b, I c, I d, I e, I f]] True (.a [I e, I f]) [] := ⟨fun _ => by
 refine CM.of Tryz.func113 rfl tabOk rfl rfl rfl rfl (by simp [SV.nms,SV.nm]) fun w_ M_ π_ G0_=>?_
 exact run⟩
instance inVb_5 {a b c d e f : Int} : CFc 235 false [.a [I a, I b, I c, I d], .a [I e, I f]] True (.a [I a, I b, I c, I d, I e, I f]) [] := ⟨fun _ => by
 refine CM.of Tryz.func235 rfl tabOk rfl rfl rfl rfl (by simp [SV.nms,SV.nm]) fun w_ M_ π_ G0_=>?_
 exact run⟩
instance inVb_6 {a b c d e f : Int} : CFc 85 false [.a [I a, I b, I c, I d, I e, I f]] True (B (vBox ⟨a, b, c, d, e, f⟩)) [] := ⟨fun _ => by
 unfold vBox
 refine CM.of Tryz.func85 rfl tabOk rfl rfl rfl rfl (by simp [SV.nms,SV.nm]) fun w_ M_ π_ G0_=>?_
 exact run⟩
instance inVb_7 {a b c d e f x y h : Int} : CFc 65 false [.a [I a, I b, I c, I d, I e, I f], .a [I x, I y, I h]] (-1000000000000 ≤ h ∧ h ≤ 1000000000000) (B (bhas ⟨a, b, c, d, e, f⟩ ⟨x, y, h⟩)) [] := ⟨fun _ => by
 unfold bhas
 refine CM.of Tryz.func65 rfl tabOk rfl rfl rfl rfl (by simp [SV.nms,SV.nm]) fun w_ M_ π_ G0_=>?_
 exact run⟩
instance inVb_8 {a b c d e f : Int} : CFc 274 false [.a [I a, I b, I c, I d, I e, I f]] True (I (vol ⟨a, b, c, d, e, f⟩)) [] := ⟨fun _ => by
 unfold vol
 refine CM.of Tryz.func274 rfl tabOk rfl rfl rfl rfl (by simp [SV.nms,SV.nm]) fun w_ M_ π_ G0_=>?_
 refine runA (a1 ?_)
 intros
 have h1:=mul_bnd (a:=c - a + 1) (b:=d - b + 1) (A:=2097153) (B:=2097153) (by omega) (by omega)
 have h2:=mul_bnd (a:=(c - a + 1) * (d - b + 1)) (b:=f) (A:=4398050705409) (B:=256) (by omega) (by omega)
 exact run⟩
instance inVb_9 {a b c d e f a' b' c' d' e' f' : Int} : CFc 166 false [.a [I a, I b, I c, I d, I e, I f], .a [I a', I b', I c', I d', I e', I f']] True (.t [(bhull ⟨a, b, c, d, e, f⟩ ⟨a', b', c', d', e', f'⟩).1.s, I (bhull ⟨a, b, c, d, e, f⟩ ⟨a', b', c', d', e', f'⟩).2]) [] := ⟨fun _ => by
 unfold bhull
 refine CM.of Tryz.func166 rfl tabOk rfl rfl rfl rfl (by simp [SV.nms,SV.nm]) fun w_ M_ π_ G0_=>?_
 exact run⟩
instance inVb_10 {a b c d e f : Int} : CFc 46 false [.a [I a, I b, I c, I d, I e, I f]] True (rectangle ⟨a, b, c, d, e, f⟩).s [] := ⟨fun _ => by
 unfold rectangle
 refine CM.of Tryz.func46 rfl tabOk rfl rfl rfl rfl (by simp [SV.nms,SV.nm]) fun w_ M_ π_ G0_=>?_
 exact run⟩
instance inVb_11 {a b c d e f : Int} : CFc 317 false [.a [I a, I b, I c, I d, I e, I f]] True (.sl 0 0 0 (bcorners ⟨a, b, c, d, e, f⟩).length 2) [.row false 147 2 (fl Point.e (bcorners ⟨a, b, c, d, e, f⟩))] := ⟨fun _ => by
 unfold bcorners
 refine CM.of Tryz.func317 rfl tabOk rfl rfl rfl rfl (by simp [SV.nms,SV.nm]) fun w_ M_ π_ G0_=>?_
 exact run⟩
attribute [irreducible] BoxP.far BoxP.vBox BoxP.bhas BoxP.vol BoxP.withA BoxP.bhull BoxP.rectangle BoxP.bcorners
end Go.Proofs.YtkflmidichikjaaGreatDoor.V
end
