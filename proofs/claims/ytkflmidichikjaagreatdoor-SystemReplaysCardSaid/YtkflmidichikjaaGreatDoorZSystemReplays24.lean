import Derived.Test.YtkflmidichikjaaGreatDoorZSystemReplays19
import Derived.Test.YtkflmidichikjaaGreatDoorZSystemReplays23
set_option linter.all false
section
namespace Go.Proofs.YtkflmidichikjaaGreatDoor.V
open Go.RowKit
set_option maxRecDepth 100000
set_option maxHeartbeats 16000000
theorem ValX_ixStr {C : Ctx} {ob : List OB} {o : Oper} {t : TypeId} {x ix : Operand} {b : ByteArray} {i : Int} {kd : IntKind} {k : SV → Prop} (ho : o.op = .index t x ix) (hu : C.P.underlying t = some .string) (h0 : 0 ≤ i) (h1 : i < b.size) (hk : ∀ v : Int, 0 ≤ v → v ≤ 255 → k (.v (.int .u8 v))) : ValX C o [.v (.string b), .v (.int kd i)] ob k := by
 unfold ValX
 intro σ G fp w ρ hm hw hx
 obtain ⟨dst,op,ty,pos,after,guard⟩:=o
 simp only at ho
 subst ho
 simp [Op.operands,SV.vals,SV.val] at hx
 have hb : i.toNat < b.size:=by omega
 refine ⟨_,hk (b[i.toNat]).toNat (by omega) (by have:=(b[i.toNat]).toNat_lt;omega),?_,trivial⟩
 simp only [execOp,hx,Sem.run_bind,Instr.index,asIntOf,Sem.run_pure,Result.andThen_ok,run_underlying hu,h0,if_true,SV.val]
 rw [getElem?_pos b i.toNat hb]
 rfl
instance inVzo_1 : CMe 333 Int false (fun n => [.v (.int .u64 n)]) (fun _ => []) (fun n => 0 ≤ n ∧ n ≤ 12) Int (fun _ v => I v) (fun _ _ => []) := ⟨fun n ⟨h0, h1⟩ => by
 refine CM.of Tryz.func333 rfl tabOk rfl rfl rfl rfl (by simp [SV.nms,SV.nm]) fun w_ M_ π_ G0_=>?_
 refine ruA (a1 ?_)
 intro _ _ _
 refine ValX_ixStr rfl Tryz.underlying9 h0 (by show n < 256;omega) fun v hv0 hv1=>?_
 refine roA (a1 ?_)
 refine Fin_j (0 + v) ?_
 conv=>whnf
 exact ⟨rfl,rfl,trivial,rfl⟩⟩
instance inVzo_2 : AR 333 1 := ⟨trivial⟩
instance inVzo_3 : CMe 290 Int false (fun n => [.v (.int .u64 n)]) (fun _ => []) (fun n => 0 ≤ n ∧ n ≤ 12) Int (fun _ v => I v) (fun _ _ => []) := ⟨fun n ⟨h0, h1⟩ => by
 refine CM.of Tryz.func290 rfl tabOk rfl rfl rfl rfl (by simp [SV.nms,SV.nm]) fun w_ M_ π_ G0_=>?_
 refine roA (a1 ?_)
 intro v
 refine Fin_j v ?_
 conv=>whnf
 exact ⟨rfl,rfl,trivial,rfl⟩⟩
instance inVzo_4 : AR 290 1 := ⟨trivial⟩
namespace Zono
def crossP (a b : Point) : Int := a.X * b.Y - a.Y * b.X
def nearP (p : Point) : Prop := (-16777216 ≤ p.X ∧ p.X ≤ 16777216) ∧ -16777216 ≤ p.Y ∧ p.Y ≤ 16777216
def cmpZ (a b : Point) : Int := 0 - cmpI (crossP a b) 0
def ltZ (a b : Point) : Bool := decide (cmpZ a b < 0)
def insZ {α : Type} (lt : α → α → Bool) (x : α) (S : List α) : List α := S.take (S.length - (S.reverse.takeWhile (lt x)).length) ++ x :: S.drop (S.length - (S.reverse.takeWhile (lt x)).length)
def sortZ {α : Type} (lt : α → α → Bool) (L : List α) : List α := L.foldl (fun S x => insZ lt x S) []
theorem cmp_bnd (x y : Int) : -1 ≤ cmpI x y ∧ cmpI x y ≤ 1 := by unfold cmpI; split <;> (try split) <;> omega
theorem cross_bnd {a b : Point} (h : nearP a) (h' : nearP b) : -281474976710656 ≤ a.X * b.Y ∧ a.X * b.Y ≤ 281474976710656 ∧ -281474976710656 ≤ a.Y * b.X ∧ a.Y * b.X ≤ 281474976710656 := by
 obtain ⟨h1,h2⟩:=h
 obtain ⟨h3,h4⟩:=h'
 have h5:=Heading.mul_bnd (a:=a.X) (b:=b.Y) (A:=16777216) (B:=16777216) (by omega) (by omega)
 have h6:=Heading.mul_bnd (a:=a.Y) (b:=b.X) (A:=16777216) (B:=16777216) (by omega) (by omega)
 omega
end Zono
open Zono
instance inVzo_5 {a b c d : Int} : CFc 243 false [.a [I a, I b], .a [I c, I d]] (nearP ⟨a, b⟩ ∧ nearP ⟨c, d⟩) (I (crossP ⟨a, b⟩ ⟨c, d⟩)) [] := ⟨fun ⟨h1, h2⟩ => by
 have h:=cross_bnd h1 h2
 simp only at h
 unfold crossP
 refine CM.of Tryz.func243 rfl tabOk rfl rfl rfl rfl (by simp [SV.nms,SV.nm]) fun w_ M_ π_ G0_=>?_
 exact ru⟩
instance inVzo_6 {a b c d : Int} : CFc 242 false [.a [I a, I b], .a [I c, I d]] (nearP ⟨a, b⟩ ∧ nearP ⟨c, d⟩) (I (cmpZ ⟨a, b⟩ ⟨c, d⟩)) [] := ⟨fun ⟨h1, h2⟩ => by
 have h:=cmp_bnd (crossP ⟨a,b⟩ ⟨c,d⟩) 0
 unfold cmpZ
 refine CM.of Tryz.func242 rfl tabOk rfl rfl rfl rfl (by simp [SV.nms,SV.nm]) fun w_ M_ π_ G0_=>?_
 exact ru⟩
namespace Zono
theorem insZ_mem {α : Type} {lt : α → α → Bool} {x p : α} {S : List α} : p ∈ insZ lt x S ↔ p = x ∨ p ∈ S := by
 unfold insZ
 generalize S.length - (S.reverse.takeWhile (lt x)).length=m
 rw [List.mem_append,List.mem_cons]
 have h : p∈S↔p∈S.take m∨p∈S.drop m:=by rw [← List.mem_append,List.take_append_drop]
 rw [h]
 constructor
 ·rintro (h1|h1|h1)
  ·exact .inr (.inl h1)
  ·exact .inl h1
  ·exact .inr (.inr h1)
 ·rintro (h1|h1|h1)
  ·exact .inr (.inl h1)
  ·exact .inl h1
  ·exact .inr (.inr h1)
theorem insZ_len {α : Type} {lt : α → α → Bool} {x : α} {S : List α} : (insZ lt x S).length = S.length + 1 := by
 unfold insZ
 rw [List.length_append,List.length_cons,List.length_take,List.length_drop]
 omega
theorem sortZ_next {α : Type} [Inhabited α] {lt : α → α → Bool} {X : List α} {i : Nat} (h : i < X.length) : sortZ lt (X.take (i + 1)) = insZ lt (gt X i) (sortZ lt (X.take i)) := by
 unfold sortZ
 rw [take_snoc h,List.foldl_append]
 rfl
theorem foldZ_mem {α : Type} {lt : α → α → Bool} {p : α} : ∀ {L S : List α}, p ∈ L.foldl (fun S x => insZ lt x S) S ↔ p ∈ S ∨ p ∈ L
 | [],S=>by simp
 | x :: r,S=>by
   rw [List.foldl_cons,foldZ_mem,insZ_mem,List.mem_cons]
   constructor
   ·rintro ((h|h)|h)
    ·exact .inr (.inl h)
    ·exact .inl h
    ·exact .inr (.inr h)
   ·rintro (h|h|h)
    ·exact .inl (.inr h)
    ·exact .inl (.inl h)
    ·exact .inr h
theorem sortZ_mem {α : Type} {lt : α → α → Bool} {p : α} {L : List α} : p ∈ sortZ lt L ↔ p ∈ L := by
 unfold sortZ
 rw [foldZ_mem]
 simp
theorem foldZ_len {α : Type} {lt : α → α → Bool} : ∀ {L S : List α}, (L.foldl (fun S x => insZ lt x S) S).length = S.length + L.length
 | [],S=>rfl
 | x :: r,S=>by
   rw [List.foldl_cons,foldZ_len,insZ_len,List.length_cons]
   omega
theorem sortZ_len {α : Type} {lt : α → α → Bool} {L : List α} : (sortZ lt L).length = L.length := by
 unfold sortZ
 rw [foldZ_len]
 simp
theorem insZ_at {α : Type} [Inhabited α] {lt : α → α → Bool} {x : α} {S : List α} {j : Nat} (hj : j ≤ S.length) (h : ∀ q, j ≤ q → q < S.length → lt x (gt S q) = true) (h' : j = 0 ∨ lt x (gt S (j - 1)) = false) : insZ lt x S = S.take j ++ x :: S.drop j := by
 have hk : (S.reverse.takeWhile (lt x)).length=S.length - j:=by
  rcases Nat.eq_zero_or_pos j with rfl|hp
  ·have:=tw_len (q:=lt x) (L:=S.reverse) (i:=S.length) (fun q hq=>by rw [gt_rev hq];exact h _ (Nat.zero_le _) (by omega)) (by simp) (.inl (by simp))
   rw [this,Nat.sub_zero]
  ·exact rtw_len h hp hj (h'.resolve_left (by omega))
 unfold insZ
 rw [hk,show S.length - (S.length - j)=j by omega]
end Zono
instance inVzo_7 : CMp 324 (List Point × Nat) false (fun (X, n) => [.sl 0 0 0 n 2, I 0, I n, .fn 242 []]) (fun (X, n) => [.row false 147 2 (fl Point.e X)]) (fun (X, n) => n = X.length ∧ n ≤ 12 ∧ ∀ p ∈ X, nearP p) (fun (X, n) => .t []) (fun (X, n) => [.row false 147 2 (fl Point.e (sortZ ltZ X))]) := ⟨fun ⟨X, n⟩ hp => by
 obtain ⟨rfl,hn,hX⟩:=hp
 refine CM.of Tryz.func324 rfl tabOk rfl rfl rfl rfl (by simp [SV.nms,SV.nm]) fun w_ M_ π_ G0_=>?_
 refine ruA (a1 ?_)
 refine LoopX_p [] (fun ((i,Z) : Nat × List Point)=>(1≤i∧(i≤X.length∨i=1))∧Z=sortZ ltZ (X.take i) ++ X.drop i) (fun (i,_)=>[(8,I i)]) (fun (_,Z)=>[(0,.row false 147 2 (fl Point.e Z))]) (fun (i,_)=>X.length + 1 - i) (1,X) ?_ ⟨by omega,by cases X with|nil=>rfl|cons a r=>rfl⟩
 conv=>whnf
 rintro ⟨i,Z⟩ ⟨⟨h1,h2⟩,h3⟩
 by_cases hi : i < X.length
 ·have hSl : (sortZ ltZ (X.take i)).length=i:=by rw [sortZ_len,List.length_take];omega
  have hSm : ∀ p∈sortZ ltZ (X.take i),nearP p:=fun p hq=>hX p (List.mem_of_mem_take (sortZ_mem.1 hq))
  have hx:=hX _ (gt_mem hi)
  have hnx:=sortZ_next (lt:=ltZ) hi
  generalize hS : sortZ ltZ (X.take i)=S at *
  generalize hx' : gt X i=x at *
  have hd : X.drop i=x :: X.drop (i + 1):=by rw [drop_gtP hi,hx']
  rw [hd] at h3
  have Hg : Hold (_∧_∧_):=⟨⟨hSm,hnx,hX⟩⟩
  clear hSm hnx hX
  refine ruA (a1 ?_)
  intro _
  refine LoopX_p [] (fun ((v,Z') : Int × List Point)=>(0≤v∧v≤i)∧Z' = S.take v.toNat ++ (x :: (S.drop v.toNat ++ X.drop (i + 1)))∧∀ q,v.toNat≤q→q < i→ltZ x (gt S q)=true) (fun (v,_)=>[(9,I v)]) (fun (_,Z')=>[(0,.row false 147 2 (fl Point.e Z'))]) (fun (v,_)=>v.toNat) ((i : Int),Z) ?_ ⟨by omega,by rw [Int.toNat_natCast,h3,List.take_of_length_le (show S.length≤i by omega),List.drop_of_length_le (show S.length≤i by omega),List.nil_append],fun q h1 h2=>by omega⟩
  conv=>whnf
  rintro ⟨v,Z'⟩ ⟨j1,j2,j3⟩
  obtain ⟨j,hj⟩ : ∃ j,v.toNat=j:=⟨_,rfl⟩
  rw [hj] at j2 j3
  have hZl : Z'.length=X.length:=by rw [j2];simp only [List.length_append,List.length_cons,List.length_take,List.length_drop];omega
  have gj : gt Z' j=x:=by rw [j2];simp [gt,List.getElem?_append_right,show (S.take j).length=j by rw [List.length_take];omega]
  by_cases hj0 : v=0
  ·subst hj0
   obtain rfl : j=0:=by omega
   have Hj : Hold (_∧_):=⟨⟨j2,j3⟩⟩
   clear j2 j3
   refine ruA (a1 ?_)
   exact rn (i + 1,Z') ⟨by omega,by
    rw [Hg.out.2.1,insZ_at (j:=0) (by omega) (fun q h4 h5=>Hj.out.2 q h4 (by omega)) (.inl rfl),Hj.out.1]
    simp⟩
  ·have gj1 : gt Z' (j - 1)=gt S (j - 1):=by
    rw [j2]
    simp only [gt,List.getD_eq_getElem?_getD]
    rw [List.getElem?_append_left (by rw [List.length_take];omega),List.getElem?_take_of_lt (by omega)]
   have e0 : v.toNat + 0=j:=by omega
   have e1 : (v - 1).toNat + 0=j - 1:=by omega
   have q1 : nearP (gt Z' (v.toNat + 0)):=by rw [e0,gj];exact hx
   have q2 : nearP (gt Z' ((v - 1).toNat + 0)):=by rw [e1,gj1];exact Hg.out.1 _ (gt_mem (by omega))
   have Hj : Hold (_∧_):=⟨⟨j2,j3⟩⟩
   clear j2 j3
   unfold nearP at q1 q2
   refine ruA (a2 ?_ ?_)
   ·intro _ a1
    obtain ⟨j2,j3⟩:=Hj.out
    have a2 : cmpZ (gt Z' (v.toNat + 0)) (gt Z' ((v - 1).toNat + 0)) < 0:=a1
    rw [e0,e1,gj,gj1] at a2
    refine rn (v - 1,(Z'.set (v.toNat + 0) (gt Z' ((v - 1).toNat + 0))).set ((v - 1).toNat + 0) (gt Z' (v.toNat + 0))) ⟨by omega,?_,fun q h4 h5=>?_⟩
    ·rw [e0,e1,gj,gj1,show (v - 1).toNat=j - 1 by omega,j2]
     obtain ⟨m,rfl⟩ : ∃ m,j=m + 1:=⟨j - 1,by omega⟩
     have hml : m < S.length:=by omega
     have t1 : S.take (m + 1)=S.take m ++ [gt S m]:=take_snoc hml
     have t2 : S.drop m=gt S m :: S.drop (m + 1):=drop_gtP hml
     have l1 : (S.take m).length=m:=by rw [List.length_take];omega
     simp only [Nat.add_sub_cancel]
     rw [t1,t2]
     generalize S.take m=P at *
     subst l1
     simp
    ·by_cases hq : q=j - 1
     ·subst hq
      unfold ltZ
      exact decide_eq_true a2
     ·exact j3 q (by omega) h5
   ·intro _ a1
    obtain ⟨j2,j3⟩:=Hj.out
    have a2 : 0≤cmpZ (gt Z' (v.toNat + 0)) (gt Z' ((v - 1).toNat + 0)):=a1
    rw [e0,e1,gj,gj1] at a2
    exact rn (i + 1,Z') ⟨by omega,by
     rw [Hg.out.2.1,insZ_at (j:=j) (by omega) (fun q h4 h5=>j3 q h4 (by omega)) (.inr (by unfold ltZ;exact decide_eq_false (by omega))),j2]
     simp⟩
 ·have e : sortZ ltZ X=Z:=by
   rw [h3]
   rcases h2 with h2|h2
   ·obtain rfl : i=X.length:=by omega
    rw [List.take_length,List.drop_length,List.append_nil]
   ·subst h2
    match X,hi with
    | [],_=>rfl
    | [a],_=>rfl
    | _ :: _ :: _,hi=>simp at hi
  clear h3 hX
  exact ru⟩
instance inVzo_8 : AQ 324 2 := ⟨trivial⟩
instance inVzo_9 : CMp 289 (List Point × Nat × Int) false (fun (X, n, q) => [.sl 0 0 0 n 2, I 0, I n, I q, .fn 242 []]) (fun (X, n, q) => [.row false 147 2 (fl Point.e X)]) (fun (X, n, q) => n = X.length ∧ n ≤ 12 ∧ ∀ p ∈ X, nearP p) (fun (X, n, q) => .t []) (fun (X, n, q) => [.row false 147 2 (fl Point.e (sortZ ltZ X))]) := ⟨fun ⟨X, n, q⟩ hp => by
 obtain ⟨rfl,hn,hX⟩:=hp
 refine CM.of Tryz.func289 rfl tabOk rfl rfl rfl rfl (by simp [SV.nms,SV.nm]) fun w_ M_ π_ G0_=>?_
 refine ruA (a1 ?_)
 refine LoopX_r tabOk 2 ?_
 exact ru⟩
instance inVzo_10 : AQ 289 3 := ⟨trivial⟩
instance inVzo_11 : CMp 241 (List Point × Nat) false (fun (X, n) => [.sl 0 0 0 n 2, .fn 242 []]) (fun (X, n) => [.row false 147 2 (fl Point.e X)]) (fun (X, n) => n = X.length ∧ n ≤ 12 ∧ ∀ p ∈ X, nearP p) (fun (X, n) => .t []) (fun (X, n) => [.row false 147 2 (fl Point.e (sortZ ltZ X))]) := ⟨fun ⟨X, n⟩ hp => by
 obtain ⟨rfl,hn,hX⟩:=hp
 refine CM.of Tryz.func241 rfl tabOk rfl rfl rfl rfl (by simp [SV.nms,SV.nm]) fun w_ M_ π_ G0_=>?_
 exact ru⟩
instance inVzo_12 : AQ 241 2 := ⟨trivial⟩
end Go.Proofs.YtkflmidichikjaaGreatDoor.V
end
section
namespace Go.Proofs.YtkflmidichikjaaGreatDoor.V
open Go.RowKit
set_option maxRecDepth 100000
set_option maxHeartbeats 16000000
namespace Zono
def sizeZ (n most : Int) : Bool := decide (-most ≤ n) && decide (n ≤ most)
def absZ (n : Int) : Int := max n (0 - n)
def vGen (g : Point) : Bool := sizeZ g.X 65536 && sizeZ g.Y 65536
def vZ (x y : Int) (X : List Point) : Bool := sizeZ x 8388608 && (sizeZ y 8388608 && (decide ((X.length : Int) ≤ 16) && !X.any fun g => !vGen g))
def nearL (l : List Int) : Bool := !l.any fun n => !sizeZ n 2097152
def spreadZ (X : List Point) (a b : Int) : Int := X.foldl (fun s g => s + absZ (a * g.X + b * g.Y)) 0
def flipZ (g : Point) : Point := if g.Y < 0 ∨ (g.Y = 0 ∧ g.X < 0) then ⟨0 - g.X, 0 - g.Y⟩ else g
def keepZ (X : List Point) : List Point := (X.map flipZ).filter fun g => !(decide (g.X = 0) && decide (g.Y = 0))
def mergeZ (L : List Point) (g : Point) : List Point := if 0 < L.length ∧ crossP (gt L (L.length - 1)) g = 0 then L.set (L.length - 1) ⟨(gt L (L.length - 1)).X + g.X, (gt L (L.length - 1)).Y + g.Y⟩ else L ++ [g]
def canonZ (X : List Point) : List Point := (sortZ ltZ (keepZ X)).foldl mergeZ []
def boundsZ (x y : Int) (X : List Point) : Rect := ⟨x - spreadZ X 1 0, y - spreadZ X 0 1, x + spreadZ X 1 0, y + spreadZ X 0 1⟩
theorem absZ_bnd {n m : Int} (h : -m ≤ n ∧ n ≤ m) : 0 ≤ absZ n ∧ absZ n ≤ m := by unfold absZ; omega
theorem fold_snoc {α β : Type} [Inhabited α] {f : β → α → β} {b : β} {X : List α} {i : Nat} (h : i < X.length) : (X.take (i + 1)).foldl f b = f ((X.take i).foldl f b) (gt X i) := by
 rw [take_snoc h,List.foldl_append]
 rfl
end Zono
open Zono
instance inVzq_1 {n m : Int} : CFc 191 false [I n, I m] (0 ≤ m ∧ m ≤ 9223372036854775807) (B (sizeZ n m)) [] := ⟨fun hp => by
 unfold sizeZ
 refine CM.of Tryz.func191 rfl tabOk rfl rfl rfl rfl (by simp [SV.nms,SV.nm]) fun w_ M_ π_ G0_=>?_
 exact ru⟩
instance inVzq_2 {n : Int} : CFc 196 false [I n] (-9223372036854775807 ≤ n ∧ n ≤ 9223372036854775807) (I (absZ n)) [] := ⟨fun hp => by
 unfold absZ
 refine CM.of Tryz.func196 rfl tabOk rfl rfl rfl rfl (by simp [SV.nms,SV.nm]) fun w_ M_ π_ G0_=>?_
 exact ru⟩
instance inVzq_3 {a b : Int} : CFc 244 false [.a [I a, I b]] True (B (!vGen ⟨a, b⟩)) [] := ⟨fun hp => by
 unfold vGen
 simp only
 refine CM.of Tryz.func244 rfl tabOk rfl rfl rfl rfl (by simp [SV.nms,SV.nm]) fun w_ M_ π_ G0_=>?_
 exact ru⟩
instance inVzq_4 {x y : Int} {A : Option Addr} {c : Nat} {X : List Point} : CFc 187 false [.a [I x, I y, .fz A c 2 (fl Point.e X)]] (X.length ≤ 1000000) (B (vZ x y X)) [] := ⟨fun hp => by
 unfold vZ
 refine CM.of Tryz.func187 rfl tabOk rfl rfl rfl rfl (by simp [SV.nms,SV.nm]) fun w_ M_ π_ G0_=>?_
 exact ru⟩
instance inVzq_5 {n : Int} : CFc 240 false [I n] True (B (!sizeZ n 2097152)) [] := ⟨fun hp => by
 refine CM.of Tryz.func240 rfl tabOk rfl rfl rfl rfl (by simp [SV.nms,SV.nm]) fun w_ M_ π_ G0_=>?_
 exact ru⟩
instance inVzq_6 {A : Option Addr} {c : Nat} {X : List Int} : CFc 185 false [.fz A c 1 (fl ie X)] (X.length ≤ 1000000) (B (nearL X)) [] := ⟨fun hp => by
 unfold nearL
 refine CM.of Tryz.func185 rfl tabOk rfl rfl rfl rfl (by simp [SV.nms,SV.nm]) fun w_ M_ π_ G0_=>?_
 exact ru⟩
instance inVzq_7 {a b : Int} {A : Option Addr} {c : Nat} {X : List Point} : CFc 197 false [.fz A c 2 (fl Point.e X), .a [I a, I b]] (X.length ≤ 20 ∧ (-268435456 ≤ a ∧ a ≤ 268435456) ∧ (-268435456 ≤ b ∧ b ≤ 268435456) ∧ ∀ g ∈ X, (-268435456 ≤ g.X ∧ g.X ≤ 268435456) ∧ -268435456 ≤ g.Y ∧ g.Y ≤ 268435456) (I (spreadZ X a b)) [] := ⟨fun hp => by
 obtain ⟨h1,h2,h3,h4⟩:=hp
 unfold spreadZ
 refine CM.of Tryz.func197 rfl tabOk rfl rfl rfl rfl (by simp [SV.nms,SV.nm]) fun w_ M_ π_ G0_=>?_
 refine ruA (a1 ?_)
 refine LoopX_p [] (fun ((i,s) : Nat × Int)=>(i≤X.length∧0≤s∧s≤i * 144115188075855872)∧s=(X.take i).foldl (fun s g=>s + absZ (a * g.X + b * g.Y)) 0) (fun (i,s)=>[(5,I s),(10,I i)]) (fun _=>[]) (fun (i,_)=>X.length - i) (0,0) ?_
 conv=>whnf
 rintro ⟨i,s⟩ ⟨j1,j2⟩
 by_cases hi : i < X.length
 ·have q:=h4 _ (gt_mem hi)
  have e:=fold_snoc (f:=fun s g=>s + absZ (a * g.X + b * g.Y)) (b:=(0 : Int)) hi
  rw [← j2] at e
  have q1:=Heading.mul_bnd (a:=a) (b:=(gt X (i : Int).toNat).X) (A:=268435456) (B:=268435456) (by omega) q.1
  have q2:=Heading.mul_bnd (a:=b) (b:=(gt X (i : Int).toNat).Y) (A:=268435456) (B:=268435456) (by omega) q.2
  have q3:=absZ_bnd (n:=a * (gt X (i : Int).toNat).X + b * (gt X (i : Int).toNat).Y) (m:=144115188075855872) (by omega)
  clear h4
  refine ruA (a1 ?_)
  intro _
  exact rn (i + 1,s + absZ (a * (gt X (i : Int).toNat).X + b * (gt X (i : Int).toNat).Y)) ⟨by omega,e.symm⟩
 ·obtain rfl : i=X.length:=by omega
  rw [List.take_length] at j2
  rw [← j2]
  clear j2 h4
  exact ru⟩
class StC {α : Type} (enc : α → List Value) (off : Nat) (a : α) (x : Value) (a' : outParam α) : Prop where
 out : spliceD ((enc a).map .v) off [.v x]=(enc a').map DV.v
instance inVzq_8 {a : Point} {x : Int} : StC Point.e 0 a (.int .i64 x) ⟨x, a.Y⟩ := ⟨rfl⟩
instance inVzq_9 {a : Point} {x : Int} : StC Point.e 1 a (.int .i64 x) ⟨a.X, x⟩ := ⟨rfl⟩
theorem OpX_storeC {C : Ctx} {ob : List OB} {e sz : Nat} {α : Type} [Inhabited α] {enc : α → List Value} {X : List α} {a' : α} {o : Oper} {t : TypeId} {x y : Operand} {j i off : Nat} {v : Value} {k : SV → List OB → Prop} {te : TI} (hT : TabOk C.P C.T) (ho : o.op = .store t x y) (hj : nth ob j = some (.row false e sz (fl enc X))) (ht : lookT C.T t = some te)
 [hs : StC enc off (gt X i) v a'] (hd : toD (SV.v v).cells=some [.v v]) (hchk : (Nat.beq (SV.v v).cells.length te.zero.length && Nat.ble (off + te.zero.length) sz && ones (SV.v v).cells)=true) (hq : i < X.length)
 (hk : force (setN ob j (.row false e sz (fl enc (X.set i a')))) fun ob=>k (.v undef) ob) : OpX C o [.sq j i off sz,.v v] ob k:=by
 refine OpX_storeQ hT ho hj ht hd hchk (fl_get hq) ?_
 rw [hs.out,fl_set]
 exact hk
theorem gt_set_self {α : Type} [Inhabited α] {X : List α} {i : Nat} {a : α} (h : i < X.length) : gt (X.set i a) i = a := by simp [gt, h]
namespace Zono
theorem keepZ_yes {X : List Point} {i : Nat} (h : i < X.length) (hz : ¬ ((flipZ (gt X i)).X = 0 ∧ (flipZ (gt X i)).Y = 0)) : keepZ (X.take (i + 1)) = keepZ (X.take i) ++ [flipZ (gt X i)] := by
 unfold keepZ
 rw [take_snoc h,List.map_append,List.filter_append]
 congr 1
 have : (decide ((flipZ (gt X i)).X=0) && decide ((flipZ (gt X i)).Y=0))=false:=by
  rw [Bool.and_eq_false_iff]
  by_cases h1 : (flipZ (gt X i)).X=0
  ·exact .inr (decide_eq_false fun h2=>hz ⟨h1,h2⟩)
  ·exact .inl (decide_eq_false h1)
 simp only [List.map_cons,List.map_nil,List.filter_cons,this,Bool.not_false,if_true,List.filter_nil]
theorem keepZ_no {X : List Point} {i : Nat} (h : i < X.length) (h1 : (flipZ (gt X i)).X = 0) (h2 : (flipZ (gt X i)).Y = 0) : keepZ (X.take (i + 1)) = keepZ (X.take i) := by
 unfold keepZ
 rw [take_snoc h,List.map_append,List.filter_append]
 simp only [List.map_cons,List.map_nil,List.filter_cons,h1,h2,decide_true,Bool.and_self,Bool.not_true,Bool.false_eq_true,if_false,List.filter_nil,List.append_nil]
theorem keepZ_len {X : List Point} : (keepZ X).length ≤ X.length := by
 unfold keepZ
 refine Nat.le_trans (List.length_filter_le _ _) ?_
 rw [List.length_map]
 exact Nat.le_refl _
theorem keepZ_mem {X : List Point} {p : Point} (h : p ∈ keepZ X) : ∃ g ∈ X, p = flipZ g := by
 unfold keepZ at h
 obtain ⟨g,h1,h2⟩:=List.mem_map.1 (List.mem_filter.1 h).1
 exact ⟨g,h1,h2.symm⟩
def inZ (m : Int) (g : Point) : Prop := (-m ≤ g.X ∧ g.X ≤ m) ∧ -m ≤ g.Y ∧ g.Y ≤ m
theorem flipZ_in {m : Int} {g : Point} (h : inZ m g) : inZ m (flipZ g) := by
 unfold flipZ inZ at *
 split<;>(try simp only)<;>omega
theorem mergeZ_in {m b : Int} (hb : 0 ≤ b) {L : List Point} {g : Point} (hL : ∀ p ∈ L, inZ b p) (hg : inZ m g) (hm : 0 ≤ m) : ∀ p ∈ mergeZ L g, inZ (b + m) p := by
 intro p hp
 unfold mergeZ at hp
 split at hp
 ·rename_i hc
  rcases List.mem_or_eq_of_mem_set hp with h|h
  ·have:=hL p h
   unfold inZ at *
   omega
  ·have:=hL _ (gt_mem (X:=L) (i:=L.length - 1) (by omega))
   subst h
   unfold inZ at *
   simp only
   omega
 ·rcases List.mem_append.1 hp with h|h
  ·have:=hL p h
   unfold inZ at *
   omega
  ·rw [List.mem_singleton] at h
   subst h
   unfold inZ at *
   omega
theorem mergeZ_len {L : List Point} {g : Point} : (mergeZ L g).length ≤ L.length + 1 := by
 unfold mergeZ
 split<;>simp
end Zono
instance inVzq_10 : CMe 186 (Option Addr × Nat × Int × Int × List Point) true (fun (A, c, x, y, X) => [.a [I x, I y, .fz A c 2 (fl Point.e X)]]) (fun _ => []) (fun (_, _, _, _, X) => X.length ≤ 12 ∧ ∀ g ∈ X, inZ 1048576 g) (Option Addr × Nat) (fun (_, _, x, y, X) q => .a [I x, I y, .fz q.1 q.2 2 (fl Point.e (canonZ X))]) (fun _ _ => []) := ⟨fun (A, c, x, y, X) ⟨h1, h2⟩ => by
 dsimp only [canonZ]
 refine CM.of Tryz.func186 rfl tabOk rfl rfl rfl rfl (by simp [SV.nms,SV.nm]) fun w_ M_ π_ G0_=>?_
 refine ruA (a1 ?_)
 refine LoopX_nil 3 147 2 rfl ?_
 conv=>whnf
 refine LoopX_p [2] (fun ((i,n,L) : Nat × Nat × List Point)=>i≤X.length∧n=L.length∧L=keepZ (X.take i)) (fun (i,n,_)=>[(3,.sl 2 0 0 n 2),(13,I i)]) (fun (_,_,L)=>[(2,.row false 147 2 (fl Point.e L))]) (fun (i,_,_)=>X.length - i) (0,0,[]) ?_
 conv=>whnf
 rintro ⟨i,n,L⟩ ⟨j1,rfl,j3⟩
 by_cases hi : i < X.length
 ·have q : inZ 1048576 (gt X (i : Int).toNat):=h2 _ (gt_mem hi)
  have q0 : L.length≤12:=by
   have:=keepZ_len (X:=X.take i)
   rw [← j3,List.length_take] at this
   omega
  have e : gt X (i : Int).toNat=gt X i:=rfl
  have y1:=keepZ_yes (X:=X) hi
  have n1:=keepZ_no (X:=X) hi
  rw [← j3] at y1 n1
  unfold inZ at q
  have Hh : Hold (_∧_∧_):=⟨⟨h2,y1,n1⟩⟩
  clear h2 y1 n1
  rcases Int.lt_trichotomy (gt X (i : Int).toNat).Y 0 with c1|c1|c1
  ·have f : flipZ (gt X i) = ⟨0 - (gt X (i : Int).toNat).X,0 - (gt X (i : Int).toNat).Y⟩:=if_pos (.inl c1)
   have c1':=c1
   rw [e] at c1'
   refine ruA (a1 ?_)
   intros
   refine rn (i + 1,L.length + 1,L ++ [⟨0 - (gt X (i : Int).toNat).X,0 - (gt X (i : Int).toNat).Y⟩]) ⟨by omega,by simp,?_⟩
   rw [Hh.out.2.1 (by rw [f];simp only;omega),f]
  ·rcases Int.lt_trichotomy (gt X (i : Int).toNat).X 0 with c2|c2|c2
   ·have f : flipZ (gt X i) = ⟨0 - (gt X (i : Int).toNat).X,0 - (gt X (i : Int).toNat).Y⟩:=if_pos (.inr ⟨c1,c2⟩)
    have c1':=c1
    rw [e] at c1'
    have c2':=c2
    rw [e] at c2'
    refine ruA (a1 ?_)
    intros
    refine rn (i + 1,L.length + 1,L ++ [⟨0 - (gt X (i : Int).toNat).X,0 - (gt X (i : Int).toNat).Y⟩]) ⟨by omega,by simp,?_⟩
    rw [Hh.out.2.1 (by rw [f];simp only;omega),f]
   ·have f : flipZ (gt X i)=gt X i:=if_neg (by rw [← e];omega)
    have c1':=c1
    rw [e] at c1'
    have c2':=c2
    rw [e] at c2'
    refine ruA (a2 ?_ ?_)
    ·intro _ _ _ _ a5
     simp [c1',c2'] at a5
    ·intros
     refine rn (i + 1,L.length,L) ⟨by omega,rfl,?_⟩
     rw [Hh.out.2.2 (by rw [f];exact c2) (by rw [f];exact c1)]
   ·have f : flipZ (gt X i)=gt X i:=if_neg (by rw [← e];omega)
    have c1':=c1
    rw [e] at c1'
    have c2':=c2
    rw [e] at c2'
    refine ruA (a1 ?_)
    intros
    refine rn (i + 1,L.length + 1,L ++ [gt X (i : Int).toNat]) ⟨by omega,by simp,?_⟩
    rw [Hh.out.2.1 (by rw [f];omega),f,e]
  ·have f : flipZ (gt X i)=gt X i:=if_neg (by rw [← e];omega)
   have c1':=c1
   rw [e] at c1'
   refine ruA (a1 ?_)
   intros
   refine rn (i + 1,L.length + 1,L ++ [gt X (i : Int).toNat]) ⟨by omega,by simp,?_⟩
   rw [Hh.out.2.1 (by rw [f];omega),f,e]
 ·obtain rfl : i=X.length:=by omega
  rw [List.take_length] at j3
  subst j3
  have l1:=keepZ_len (X:=X)
  have m1 : ∀ p∈keepZ X,nearP p:=fun p hp=>by
   obtain ⟨g,h3,rfl⟩:=keepZ_mem hp
   have:=flipZ_in (h2 g h3)
   unfold inZ at this
   unfold nearP
   omega
  have m2 : ∀ p∈sortZ ltZ (keepZ X),inZ 1048576 p:=fun p hp=>by
   obtain ⟨g,h3,rfl⟩:=keepZ_mem (sortZ_mem.1 hp)
   exact flipZ_in (h2 g h3)
  have l2 : (sortZ ltZ (keepZ X)).length≤12:=by rw [sortZ_len];omega
  have l3 : (sortZ ltZ (keepZ X)).length=(keepZ X).length:=sortZ_len
  generalize hK : keepZ X=K at *
  clear h2
  have Hm : Hold (∀ p∈sortZ ltZ K,inZ 1048576 p):=⟨m2⟩
  clear m2
  refine ruA (a1 ?_)
  intro _
  have m2:=Hm.out
  clear Hm m1
  rw [← l3]
  generalize hZ : sortZ ltZ K=Z at *
  refine LoopX_nilB 3 2 147 2 rfl rfl ?_
  conv=>whnf
  refine LoopX_p [4] (fun ((i,n,L) : Nat × Nat × List Point)=>(i≤Z.length∧L.length≤i∧n=L.length)∧L=(Z.take i).foldl mergeZ []∧∀ p∈L,inZ (i * 1048576) p) (fun (i,_,_)=>[(54,I i)]) (fun (_,n,L)=>[(3,.box 168 [I x,I y,.sl 4 0 0 n 2]),(4,.row false 147 2 (fl Point.e L))]) (fun (i,_,_)=>Z.length - i) (0,0,[]) ?_
  conv=>whnf
  rintro ⟨i,n,L⟩ ⟨⟨k1,k2,rfl⟩,k3,k4⟩
  by_cases hi' : i < Z.length
  ·have q : inZ 1048576 (gt Z ((i : Int).toNat + 0)):=m2 _ (gt_mem hi')
   have e:=fold_snoc (f:=mergeZ) (b:=([] : List Point)) hi'
   rw [← k3] at e
   have hin:=mergeZ_in (b:=i * 1048576) (m:=1048576) (by omega) k4 (m2 _ (gt_mem hi')) (by omega)
   rw [← e] at hin
   have hin' : ∀ p∈(Z.take (i + 1)).foldl mergeZ [],inZ ((i + 1 : Nat) * 1048576) p:=fun p hp=>by
    have:=hin p hp
    unfold inZ at *
    omega
   unfold inZ at q
   by_cases h0 : 0 < L.length
   ·have q2 : inZ (i * 1048576) (gt L (((L.length : Int) - 1).toNat + 0)):=k4 _ (gt_mem (by omega))
    unfold inZ at q2
    have e1 : ((L.length : Int) - 1).toNat + 0=L.length - 1:=by omega
    have Hh : Hold (_∧_∧_∧_):=⟨⟨m2,k4,e,hin'⟩⟩
    clear m2 k4 e hin hin' k3
    have n1 : nearP (gt L (((L.length : Int) - 1).toNat + 0)):=by unfold nearP;omega
    have n2 : nearP (gt Z ((i : Int).toNat + 0)):=by unfold nearP;omega
    refine ruA (a2 ?_ ?_)
    ·intro _ _ a3
     have g1 : gt (L.set (((L.length : Int) - 1).toNat + 0) ⟨(gt L (((L.length : Int) - 1).toNat + 0)).X + (gt Z ((i : Int).toNat + 0)).X,(gt L (((L.length : Int) - 1).toNat + 0)).Y⟩) (((L.length : Int) - 1).toNat + 0) = ⟨(gt L (((L.length : Int) - 1).toNat + 0)).X + (gt Z ((i : Int).toNat + 0)).X,(gt L (((L.length : Int) - 1).toNat + 0)).Y⟩:=gt_set_self (by omega)
     have g2:=congrArg Point.Y g1
     simp only at g2
     refine OpX_storeC tabOk rfl rfl rfl rfl rfl (by omega) ?_
     refine ruA (a1 ?_)
     refine OpX_storeC tabOk rfl rfl rfl rfl rfl (by rw [List.length_set];omega) ?_
     refine ruA (a1 ?_)
     have a4 : crossP (gt L (L.length - 1)) (gt Z i)=0:=by rw [← e1];exact a3
     have e2 : mergeZ L (gt Z i)=L.set (L.length - 1) (⟨(gt L (L.length - 1)).X + (gt Z i).X,(gt L (L.length - 1)).Y + (gt Z i).Y⟩ : Point):=if_pos ⟨h0,a4⟩
     have e3 : (L.set (((L.length : Int) - 1).toNat + 0) ⟨(gt L (((L.length : Int) - 1).toNat + 0)).X + (gt Z ((i : Int).toNat + 0)).X,(gt L (((L.length : Int) - 1).toNat + 0)).Y⟩).set (((L.length : Int) - 1).toNat + 0) ⟨(gt (L.set (((L.length : Int) - 1).toNat + 0) ⟨(gt L (((L.length : Int) - 1).toNat + 0)).X + (gt Z ((i : Int).toNat + 0)).X,(gt L (((L.length : Int) - 1).toNat + 0)).Y⟩) (((L.length : Int) - 1).toNat + 0)).X,(gt (L.set (((L.length : Int) - 1).toNat + 0) ⟨(gt L (((L.length : Int) - 1).toNat + 0)).X + (gt Z ((i : Int).toNat + 0)).X,(gt L (((L.length : Int) - 1).toNat + 0)).Y⟩) (((L.length : Int) - 1).toNat + 0)).Y + (gt Z ((i : Int).toNat + 0)).Y⟩ = mergeZ L (gt Z i):=by
      rw [List.set_set,g1,e1]
      exact e2.symm
     refine rn (i + 1,L.length,_) ⟨⟨by omega,?_,?_⟩,e3.trans Hh.out.2.2.1.symm,?_⟩
     ·simp only [List.length_set];omega
     ·simp only [List.length_set]
     ·rw [e3,← Hh.out.2.2.1]
      exact Hh.out.2.2.2
    ·intro _ _ a3
     have a4 : ¬crossP (gt L (L.length - 1)) (gt Z i)=0:=by rw [← e1];exact a3
     have e2 : mergeZ L (gt Z i)=L ++ [gt Z i]:=if_neg fun h=>a4 h.2
     refine rn (i + 1,L.length + 1,L ++ [gt Z ((i : Int).toNat + 0)]) ⟨⟨by omega,by simp;omega,by simp⟩,(Hh.out.2.2.1.trans e2).symm,?_⟩
     rw [show gt Z ((i : Int).toNat + 0)=gt Z i from rfl,← e2,← Hh.out.2.2.1]
     exact Hh.out.2.2.2
   ·obtain rfl : L=[]:=List.eq_nil_of_length_eq_zero (by omega)
    have Hh : Hold (_∧_∧_):=⟨⟨m2,e,hin'⟩⟩
    clear m2 k4 e hin hin' k3
    refine ruA (a1 ?_)
    intros
    have e2 : mergeZ [] (gt Z i)=[gt Z i]:=if_neg fun h=>by simp at h
    refine rn (i + 1,1,[gt Z ((i : Int).toNat + 0)]) ⟨⟨by omega,by simp,by simp⟩,(Hh.out.2.1.trans e2).symm,?_⟩
    rw [show gt Z ((i : Int).toNat + 0)=gt Z i from rfl,← e2,← Hh.out.2.1]
    exact Hh.out.2.2
  ·obtain rfl : i=Z.length:=by omega
   rw [List.take_length] at k3
   rw [← k3]
   clear k3 k4 m2
   refine roA (a1 ?_)
   intro _
   refine Fin_fr 4 rfl fun A' c'=>?_
   conv=>whnf
   (repeat ((with_reducible show ViewE _ _ _ _);(first|refine view_w zLn ?_|refine view_pf zSd ?_|refine view_p zSd ?_);(conv=>whnf)))
   refine Fin_ja (A',c') ?_
   conv=>whnf
   exact ⟨rfl,rfl,rfl⟩⟩
instance inVzq_11 : AR 186 5 := ⟨trivial⟩
end Go.Proofs.YtkflmidichikjaaGreatDoor.V
end
