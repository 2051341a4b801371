import Derived.Test.YtkflmidichikjaaGreatDoorZSystemReplays23
import Derived.Test.YtkflmidichikjaaGreatDoorZSystemReplays18
set_option linter.all false
section
namespace Go.Proofs.YtkflmidichikjaaGreatDoor.V
open Go.RowKit Heading BoxP Drive Seg PlanP Contr RayP
set_option maxRecDepth 100000
set_option maxHeartbeats 16000000
structure KPair where
 b : Box
 v : Vector
 deriving DecidableEq,Inhabited
abbrev KPair.e (p : KPair) : List Value := [.int .i64 p.b.X0, .int .i64 p.b.Y0, .int .i64 p.b.X1, .int .i64 p.b.Y1, .int .i64 p.b.From, .int .i64 p.b.Count, .int .i64 p.v.X, .int .i64 p.v.Y, .int .i64 p.v.D]
abbrev KPair.s (p : KPair) : SV := .a [I p.b.X0, I p.b.Y0, I p.b.X1, I p.b.Y1, I p.b.From, I p.b.Count, I p.v.X, I p.v.Y, I p.v.D]
instance inVkn_1 {a b c d e f x y z : Int} : Dec KPair.e (.a [I a, I b, I c, I d, I e, I f, I x, I y, I z]) ⟨⟨a, b, c, d, e, f⟩, ⟨x, y, z⟩⟩ := ⟨rfl⟩
instance inVkn_2 : TyEnc 380 KPair KPair.e := ⟨trivial⟩
section
variable {A : Option Addr} {c : Nat} {g : FuncId} {caps : List SV}
instance inVkn_3 {X : List KPair} {pre : KPair → Prop} {p : KPair → Bool} [h : ∀ a : KPair, CFc g false ((KPair.s a) :: caps) (pre a) (B (p a)) []] :
 CFc 354 false [.fz A c 9 (fl KPair.e X),.fn g caps] (X.length≤1000000000000∧(∀ i : Nat,i < X.length→pre (gt X i))∧SV.nms 0 caps) (I (idxF p X)) []:=⟨fun ⟨hl,hp,hc⟩=>by
 refine CM.of Tryz.func354 rfl tabOk rfl rfl rfl rfl (by simp [SV.nms,SV.nm,hc]) fun w_ M_ π_ G0_=>?_
 refine runA (a1 ?_)
 refine LoopX_c tabOk [] (fun i : Nat=>i≤X.length∧∀ j,j < i→p (gt X j)=false) (fun i=>[(8,I i)]) (fun _=>[]) (fun i=>X.length - i) 0 (by simp) ⟨rfl,trivial⟩ trivial ?_
 conv=>whnf
 intro i hi
 have hi1:=hi.1
 refine runA (a3 ?_ ?_ ?_)
 ·exact fun h1 h2=>congrArg I (idxF_at p X i (by omega) hi.2 h2).symm
 ·exact fun h1 h2=>round_i (i + 1) ⟨by omega,upto_succ hi.2 h2⟩ (by omega) ent0
 ·exact fun h1=>congrArg I (idxF_none p X fun j hj=>hi.2 j (by omega)).symm⟩
instance inVkn_4 {X : List KPair} {pre : KPair → Prop} {p : KPair → Bool} [h : ∀ a : KPair, CFc g false ((KPair.s a) :: caps) (pre a) (B (p a)) []] :
 CFc 320 false [.fz A c 9 (fl KPair.e X),.fn g caps] (X.length≤1000000000000∧(∀ i : Nat,i < X.length→pre (gt X i))∧SV.nms 0 caps) (B (X.any p)) []:=⟨fun hh=>by
 have hc:=hh.2.2
 refine CM.of Tryz.func320 rfl tabOk rfl rfl rfl rfl (by simp [SV.nms,SV.nm,hc]) fun w_ M_ π_ G0_=>?_
 rw [← idxF_dec p X]
 exact run⟩
end
namespace Known
def vSet (S : List Box) : Bool := decide (S.length ≤ 16) && !(S.any fun b => !vBox b)
theorem vSet_iff {S : List Box} : vSet S = true ↔ S.length ≤ 16 ∧ ∀ b ∈ S, vBox b = true := by simp [vSet]
def rightK (p : Plan) (S : List Box) (s : List Beam) (rng : Int) : Bool := vPlan p && decide (S.length > 0) && vSet S && decide (s.length ≤ 32) && !(s.any fun b => !vBeam b) && between rng 1 32
def pairsL (S : List Box) : Int := S.foldl (fun n b => n + b.Count) 0
def wideB (b : Box) : Bool := decide (b.X1 - b.X0 > 64) || decide (b.Y1 - b.Y0 > 64)
def taughtK (S : List Box) : Bool := decide (pairsL S ≤ 32) && !(S.any wideB)
def dirB (m : Int) (x : Box) : List KPair := (list ⟨x.From, x.Count⟩).map fun h => ⟨x, beam h m⟩
def directedL (S : List Box) (b : Beam) : List KPair := S.flatMap (dirB b.Mark)
def passesK (x : KPair) (sq : Rect) (far : Int) : Bool := !((bcorners x.b).any fun c => !before c x.v far sq)
def freeB (p : Plan) (l : List KPair) (far : Int) (c : Cell) : Bool := between c.X 0 (p.W - 1) && between c.Y 0 (p.H - 1) && !(l.any fun x => !passesK x (squareP c).1 far)
def farK (b : Beam) (rng : Int) : Int := if b.Reading = -1 then 1024 - rng else b.Reading - rng
def provenK (p : Plan) (S : List Box) (b : Beam) (rng : Int) : List Cell :=
 if farK b rng≤0 then [] else
 (tracedL (gt (bcorners (gt (directedL S b) 0).b) 0) (gt (directedL S b) 0).v 0 (farK b rng)).1.filter (freeB p (directedL S b) (farK b rng))
theorem vBox_b {b : Box} (h : vBox b = true) : b.X0 ≤ b.X1 ∧ b.Y0 ≤ b.Y1 ∧ -1048576 ≤ b.X0 ∧ b.X1 ≤ 1048576 ∧ -1048576 ≤ b.Y0 ∧ b.Y1 ≤ 1048576 ∧ 0 ≤ b.From ∧ b.From < 256 ∧ 1 ≤ b.Count ∧ b.Count ≤ 256 ∧ (b.From = 0 ∨ b.Count < 256) := by
 obtain ⟨_,_,_,_,_,_⟩:=b
 exact (bnd h).2
theorem fold_bnd : ∀ (S : List Box) (n : Int), (∀ b ∈ S, vBox b = true) → n ≤ S.foldl (fun n b => n + b.Count) n ∧ S.foldl (fun n b => n + b.Count) n ≤ n + 256 * S.length
 | [],n,_=>by simp
 | ⟨a,b,c,d,e,f⟩ :: r,n,h=>by
   have h1:=bnd (h _ List.mem_cons_self)
   have h2:=fold_bnd r (n + f) fun b hb=>h b (List.mem_cons_of_mem _ hb)
   simp only [List.foldl_cons,List.length_cons]
   omega
end Known
open Known
section
variable {A B' : Option Addr} {cc b' : Nat} {X : List Int} {S : List Box} {s : List Beam} {w h a b c d e f m k rng x y z : Int}
instance inVkn_5 {n lo hi : Int} : CFc 228 false [I n, I lo, I hi] True (B (between n lo hi)) [] := ⟨fun _ => by
 unfold between
 refine CM.of Tryz.func228 rfl tabOk rfl rfl rfl rfl (by simp [SV.nms,SV.nm]) fun w_ M_ π_ G0_=>?_
 exact run⟩
instance inVkn_6 : CFc 277 false [.a [I m, I k]] True (B (vBeam ⟨m, k⟩)) [] := ⟨fun _ => by
 unfold vBeam
 refine CM.of Tryz.func277 rfl tabOk rfl rfl rfl rfl (by simp [SV.nms,SV.nm]) fun w_ M_ π_ G0_=>?_
 exact run⟩
instance inVkn_7 : CFc 316 false [.a [I a, I b, I c, I d, I e, I f]] True (B (!vBox ⟨a, b, c, d, e, f⟩)) [] := ⟨fun _ => by
 refine CM.of Tryz.func316 rfl tabOk rfl rfl rfl rfl (by simp [SV.nms,SV.nm]) fun w_ M_ π_ G0_=>?_
 exact run⟩
instance inVkn_8 : CFc 276 false [.a [I m, I k]] True (B (!vBeam ⟨m, k⟩)) [] := ⟨fun _ => by
 refine CM.of Tryz.func276 rfl tabOk rfl rfl rfl rfl (by simp [SV.nms,SV.nm]) fun w_ M_ π_ G0_=>?_
 exact run⟩
instance inVkn_9 : CFc 278 false [.fz A cc 6 (fl Box.e S)] (S.length ≤ 1000000000) (B (vSet S)) [] := ⟨fun hp => by
 unfold vSet
 refine CM.of Tryz.func278 rfl tabOk rfl rfl rfl rfl (by simp [SV.nms,SV.nm]) fun w_ M_ π_ G0_=>?_
 exact run⟩
instance inVkn_10 {D' : Option Addr} {d' : Nat} : CFc 223 false [.a [I w, I h, .fz A cc 1 (fl ye X)], .fz B' b' 6 (fl Box.e S), .fz D' d' 2 (fl Beam.e s), I rng] (X.length ≤ 1000000000 ∧ S.length ≤ 1000000000 ∧ s.length ≤ 1000000000) (B (rightK ⟨w, h, X⟩ S s rng)) [] := ⟨fun hp => by
 unfold rightK
 refine CM.of Tryz.func223 rfl tabOk rfl rfl rfl rfl (by simp [SV.nms,SV.nm]) fun w_ M_ π_ G0_=>?_
 exact run⟩
instance inVkn_11 : CFc 280 false [.fz A cc 6 (fl Box.e S)] (S.length ≤ 16 ∧ ∀ b ∈ S, vBox b = true) (I (pairsL S)) [] := ⟨fun hp => by
 obtain ⟨p1,p2⟩:=hp
 unfold pairsL
 refine CM.of Tryz.func280 rfl tabOk rfl rfl rfl rfl (by simp [SV.nms,SV.nm]) fun w_ M_ π_ G0_=>?_
 refine runA (a1 ?_)
 refine LoopX_p [] (fun ((i,n) : Nat × Int)=>i≤S.length∧n=(S.take i).foldl (fun n b=>n + b.Count) 0) (fun (i,n)=>[(3,I n),(8,I i)]) (fun _=>[]) (fun (i,_)=>S.length - i) (0,0) ?_
 conv=>whnf
 rintro ⟨i,n⟩ ⟨h1,h2⟩
 by_cases hi : i < S.length
 ·have q1:=fold_bnd (S.take i) 0 (fun b hq=>p2 b (List.mem_of_mem_take hq))
  rw [← h2,List.length_take] at q1
  have q2 : 1≤(gt S (i : Int).toNat).Count∧(gt S (i : Int).toNat).Count≤256:=by have:=vBox_b (p2 _ (gt_mem hi));simp only [Int.toNat_natCast];omega
  have e : n + (gt S i).Count=(S.take (i + 1)).foldl (fun n b=>n + b.Count) 0:=by rw [foldl_take hi,h2]
  clear p2
  refine runA (a1 ?_)
  intro _
  exact rn (i + 1,n + (gt S i).Count) ⟨by omega,e⟩
 ·obtain rfl : i=S.length:=by omega
  rw [List.take_length] at h2
  subst h2
  clear p2
  exact run⟩
instance inVkn_12 : CFc 279 false [.a [I a, I b, I c, I d, I e, I f]] (-1048576 ≤ a ∧ a ≤ 1048576 ∧ -1048576 ≤ b ∧ b ≤ 1048576 ∧ -1048576 ≤ c ∧ c ≤ 1048576 ∧ -1048576 ≤ d ∧ d ≤ 1048576) (B (wideB ⟨a, b, c, d, e, f⟩)) [] := ⟨fun hp => by
 unfold wideB
 refine CM.of Tryz.func279 rfl tabOk rfl rfl rfl rfl (by simp [SV.nms,SV.nm]) fun w_ M_ π_ G0_=>?_
 exact run⟩
instance inVkn_13 : CFc 224 false [.fz A cc 6 (fl Box.e S)] (S.length ≤ 16 ∧ ∀ b ∈ S, vBox b = true) (B (taughtK S)) [] := ⟨fun hp => by
 obtain ⟨p1,p2⟩:=hp
 have hpre : ∀ i : Nat,i < S.length→(-1048576≤(gt S i).X0∧(gt S i).X0≤1048576∧-1048576≤(gt S i).Y0∧(gt S i).Y0≤1048576∧-1048576≤(gt S i).X1∧(gt S i).X1≤1048576∧-1048576≤(gt S i).Y1∧(gt S i).Y1≤1048576):=fun i hi=>by
  have:=vBox_b (p2 _ (gt_mem hi))
  omega
 unfold taughtK
 refine CM.of Tryz.func224 rfl tabOk rfl rfl rfl rfl (by simp [SV.nms,SV.nm]) fun w_ M_ π_ G0_=>?_
 exact run⟩
theorem dir_len {m : Int} {x : Box} : (dirB m x).length ≤ 256 := by
 unfold dirB
 rw [List.length_map]
 exact list_len
theorem directed_len {S : List Box} {q : Beam} (h : S.length ≤ 16) : (directedL S q).length ≤ 4096 := by
 have:=flat_len' (f:=dirB q.Mark) (n:=256) (fun _=>dir_len) S
 unfold directedL
 omega
instance inVkn_14 : CFc 285 false [.fz A cc 6 (fl Box.e S), .a [I m, I k]] (S.length ≤ 16) (.sl 0 0 0 (directedL S ⟨m, k⟩).length 9) [.row false 383 9 (fl KPair.e (directedL S ⟨m, k⟩))] := ⟨fun p1 => by
 unfold directedL
 simp only
 refine CM.of Tryz.func285 rfl tabOk rfl rfl rfl rfl (by simp [SV.nms,SV.nm]) fun w_ M_ π_ G0_=>?_
 refine runA (a1 ?_)
 refine LoopX_nil 5 383 9 rfl ?_
 conv=>whnf
 refine LoopX_keep [3,5,10,11,12] ?_
 conv=>whnf
 refine LoopX_p [1] (fun ((i,n,L) : Nat × Nat × List KPair)=>i≤S.length∧n=L.length∧L=(S.take i).flatMap (dirB m)) (fun (i,n,_)=>[(5,.sl 1 0 0 n 9),(12,I i)]) (fun (_,_,L)=>[(1,.row false 383 9 (fl KPair.e L))]) (fun (i,_,_)=>S.length - i) (0,0,[]) ?_
 conv=>whnf
 rintro ⟨i,n,L⟩ ⟨h1,rfl,h3⟩
 by_cases hi : i < S.length
 ·have q1 : L.length≤i * 256:=by
   rw [h3]
   have:=flat_len' (f:=dirB m) (n:=256) (fun _=>dir_len) (S.take i)
   rw [List.length_take] at this
   have:=Nat.mul_le_mul_right 256 (Nat.min_le_left i S.length)
   omega
  have e:=flat_next (f:=dirB m) hi
  rw [← h3] at e
  have q3:=list_len (a:=⟨(gt S (i : Int).toNat).From,(gt S (i : Int).toNat).Count⟩)
  refine runA (a1 ?_)
  intro _
  refine LoopX_keep [3,5,7,10,11,12,21,22,23] ?_
  conv=>whnf
  generalize hM : list ⟨(gt S (i : Int).toNat).From,(gt S (i : Int).toNat).Count⟩ = M at *
  have e2 : L ++ dirB m (gt S i)=L ++ M.map fun h=>⟨gt S i,beam h m⟩:=by rw [← hM];rfl
  rw [e2] at e
  refine LoopX_p [1] (fun ((j,n,N) : Nat × Nat × List KPair)=>j≤M.length∧n=N.length∧N=L ++ (M.take j).map fun h=>⟨gt S i,beam h m⟩) (fun (j,n,_)=>[(5,.sl 1 0 0 n 9),(23,I j)]) (fun (_,_,N)=>[(1,.row false 383 9 (fl KPair.e N))]) (fun (j,_,_)=>M.length - j) (0,L.length,L) ?_
  conv=>whnf
  rintro ⟨j,n',N⟩ ⟨k1,rfl,k3⟩
  have hl : N.length≤4096:=by rw [k3];simp;omega
  by_cases hj : j < M.length
  ·have e3:=map_next (f:=fun h=>(⟨gt S i,beam h m⟩ : KPair)) hj
   refine runA (a1 ?_)
   intro _
   exact rn (j + 1,N.length + 1,N ++ [⟨gt S i,beam (gt M j) m⟩]) ⟨by omega,by simp,by rw [e3,k3,List.append_assoc]⟩
  ·obtain rfl : j=M.length:=by omega
   rw [List.take_length] at k3
   refine runA (a1 ?_)
   intro _
   exact rn (i + 1,N.length,N) ⟨by omega,rfl,by rw [e,k3]⟩
 ·obtain rfl : i=S.length:=by omega
  rw [List.take_length] at h3
  subst h3
  exact run⟩
instance inVkn_15 {q r u v far : Int} : CFc 319 false [.a [I a, I b, I c, I d, I e, I f, I x, I y, I z], .a [I q, I r, I u, I v], I far] True (B (passesK ⟨⟨a, b, c, d, e, f⟩, ⟨x, y, z⟩⟩ ⟨q, r, u, v⟩ far)) [] := ⟨fun _ => by
 unfold passesK
 simp only
 refine CM.of Tryz.func319 rfl tabOk rfl rfl rfl rfl (by simp [SV.nms,SV.nm]) fun w_ M_ π_ G0_=>?_
 refine runA (a1 ?_)
 have hl : (bcorners ⟨a,b,c,d,e,f⟩).length≤4:=by unfold bcorners;split<;>simp
 generalize hX : bcorners ⟨a,b,c,d,e,f⟩ = X at *
 refine LoopX_p [] (fun (i : Nat)=>i≤X.length∧∀ j,j < i→(!before (gt X j) ⟨x,y,z⟩ far ⟨q,r,u,v⟩)=false) (fun i=>[(13,I i)]) (fun _=>[]) (fun i=>X.length - i) 0 ?_
 conv=>whnf
 rintro i ⟨h1,h2⟩
 by_cases hi : i < X.length
 ·have ey : before (gt X i) ⟨x,y,z⟩ far ⟨q,r,u,v⟩ = false→(X.any fun c=>!before c ⟨x,y,z⟩ far ⟨q,r,u,v⟩)=true:=fun h=>any_yes hi (by simp [h])
  have Hh : Hold (∀ j,j < i→(!before (gt X j) ⟨x,y,z⟩ far ⟨q,r,u,v⟩)=false):=⟨h2⟩
  clear h2
  refine runA (a1 ?_)
  intro _ g
  exact rn (i + 1) ⟨by omega,all_next Hh.out (by simpa using g)⟩
 ·obtain rfl : i=X.length:=by omega
  have ef:=any_no (p:=fun c=>!before c ⟨x,y,z⟩ far ⟨q,r,u,v⟩) h2
  rw [ef]
  clear h2
  exact run⟩
attribute [irreducible] Known.passesK
instance inVkn_16 {q r u v far : Int} {ad ad' : Addr} : CFc 318 false [.a [I a, I b, I c, I d, I e, I f, I x, I y, I z], .fa ad [.v (.int .i64 q), .v (.int .i64 r), .v (.int .i64 u), .v (.int .i64 v)], .fa ad' [.v (.int .i64 far)]] True (B (!passesK ⟨⟨a, b, c, d, e, f⟩, ⟨x, y, z⟩⟩ ⟨q, r, u, v⟩ far)) [] := ⟨fun _ => by
 refine CM.of Tryz.func318 rfl tabOk rfl rfl rfl rfl (by simp [SV.nms,SV.nm]) fun w_ M_ π_ G0_=>?_
 exact run⟩
theorem directed_pos {q : Beam} (h : 0 < S.length) (hv : ∀ b ∈ S, vBox b = true) : 0 < (directedL S q).length ∧ vBox (gt (directedL S q) 0).b = true := by
 have hall : ∀ x∈directedL S q,vBox x.b=true:=by
  intro x hx
  unfold directedL at hx
  obtain ⟨b,hb',hx⟩:=List.mem_flatMap.1 hx
  unfold dirB at hx
  obtain ⟨h',_,rfl⟩:=List.mem_map.1 hx
  exact hv b hb'
 have hpos : 0 < (directedL S q).length:=by
  cases S with
  | nil=>simp at h
  | cons b r =>
    unfold directedL
    rw [List.flatMap_cons,List.length_append]
    have h1:=vBox_b (hv b List.mem_cons_self)
    have h2 : 0 < (dirB q.Mark b).length:=by
     unfold dirB
     rw [List.length_map]
     unfold list
     rw [if_pos (vBox_arc (hv b List.mem_cons_self))]
     simp
     omega
    omega
 exact ⟨hpos,hall _ (gt_mem hpos)⟩
instance inVkn_17 {rng : Int} : CFc 281 false [.a [I w, I h, .fz A cc 1 (fl ye X)], .fz B' b' 6 (fl Box.e S), .a [I m, I k], I rng] (0 < S.length ∧ S.length ≤ 16 ∧ (∀ b ∈ S, vBox b = true) ∧ -1 ≤ k ∧ k ≤ 1024 ∧ 1 ≤ rng ∧ rng ≤ 32 ∧ 1 ≤ w ∧ w ≤ 64 ∧ 1 ≤ h ∧ h ≤ 64) (.sl 0 0 0 (provenK ⟨w, h, X⟩ S ⟨m, k⟩ rng).length 2) [.row false 128 2 (fl Cell.e (provenK ⟨w, h, X⟩ S ⟨m, k⟩ rng))] := ⟨fun hp => by
 obtain ⟨p1,p2,p3,p4,p5,p6,p7,p8,p9,p10,p11⟩:=hp
 have hd:=directed_pos (q:=⟨m,k⟩) p1 p3
 have hc : (bcorners ⟨(gt (directedL S ⟨m,k⟩) ((0 : Int).toNat + 0)).b.X0,(gt (directedL S ⟨m,k⟩) ((0 : Int).toNat + 0)).b.Y0,(gt (directedL S ⟨m,k⟩) ((0 : Int).toNat + 0)).b.X1,(gt (directedL S ⟨m,k⟩) ((0 : Int).toNat + 0)).b.Y1,(gt (directedL S ⟨m,k⟩) ((0 : Int).toNat + 0)).b.From,(gt (directedL S ⟨m,k⟩) ((0 : Int).toNat + 0)).b.Count⟩).length=4:=by unfold bcorners;exact (congrArg List.length (if_pos hd.2)).trans rfl
 have hdl:=directed_len (q:=⟨m,k⟩) p2
 have hdp:=hd.1
 clear hd p3
 unfold provenK farK
 simp only
 refine CM.of Tryz.func281 rfl tabOk rfl rfl rfl rfl (by simp [SV.nms,SV.nm]) fun w_ M_ π_ G0_=>?_
 refine runA (a2 ?_ ?_)
 ·intro g1 g2
  rw [if_pos g1,if_neg (by omega)]
  refine LoopX_nil 13 128 2 rfl ?_
  conv=>whnf
  refine LoopX_keep [4,6,9,10,13,49,50,51] ?_
  conv=>whnf
  obtain ⟨M,hM⟩ : ∃ M,(tracedL (gt (bcorners (gt (directedL S ⟨m,k⟩) 0).b) 0) (gt (directedL S ⟨m,k⟩) 0).v 0 (1024 - rng)).1=M:=⟨_,rfl⟩
  obtain ⟨p,hq⟩ : ∃ p,freeB ⟨w,h,X⟩ (directedL S ⟨m,k⟩) (1024 - rng)=p:=⟨_,rfl⟩
  have hML : M.length≤8281:=by rw [← hM];exact traced_len
  rw [hM,hq]
  refine LoopX_p [6] (fun ((i,n,N) : Nat × Nat × List Cell)=>i≤M.length∧n=N.length∧N=(M.take i).filter p) (fun (i,n,_)=>[(13,.sl 6 0 0 n 2),(51,I i)]) (fun (_,_,N)=>[(6,.row false 128 2 (fl Cell.e N))]) (fun (i,_,_)=>M.length - i) (0,0,[]) ?_
  conv=>whnf
  rintro ⟨i,n,N⟩ ⟨k1,rfl,k3⟩
  have hNL : N.length≤8281:=by rw [k3];exact Nat.le_trans (List.length_filter_le _ _) (Nat.le_trans (List.length_take_le _ _) (by omega))
  have hlt : ∀ {L : List Cell},L=M→(i : Int) < (L.length : Int)→i < M.length:=fun e g=>by subst e;omega
  have hle : ∀ {L : List Cell},L=M→(L.length : Int)≤(i : Int)→i=M.length:=fun e g=>by subst e;omega
  have no : i < M.length→p (gt M i)=false→(M.take (i + 1)).filter p=N:=fun hi hp=>by rw [filter_next hi,hp,k3];simp
  have Hs : Hold (_∧_∧_):=⟨⟨@hlt,@hle,no⟩⟩
  clear hlt hle no
  refine runA (a6 ?_ ?_ ?_ ?_ ?_ ?_)
  ·intro a0 a1 _ a3 _ a5
   obtain ⟨hlt,-,-⟩:=Hs.out
   have hi:=hlt hM a0
   have hp : p (gt M i)=true:=by rw [← hq,← hM];unfold freeB;simp only [Bool.and_eq_true,Bool.not_eq_true'];exact ⟨⟨a1,a3⟩,a5⟩
   have e:=filter_next (p:=p) hi
   rw [if_pos hp] at e
   exact rn (i + 1,N.length + 1,N ++ [gt (tracedL (gt (bcorners (gt (directedL S ⟨m,k⟩) 0).b) 0) (gt (directedL S ⟨m,k⟩) 0).v 0 (1024 - rng)).1 i]) ⟨by omega,by simp,by rw [e,k3,hM]⟩
  ·intro a0 a1 _ a3 _ a5
   obtain ⟨hlt,-,no⟩:=Hs.out
   have hi:=hlt hM a0
   have hp : p (gt M i)=false:=by rw [← hq,← hM];unfold freeB;simp only [Bool.and_eq_false_iff,Bool.not_eq_false'];exact .inr a5
   exact rn (i + 1,N.length,N) ⟨by omega,rfl,(no hi hp).symm⟩
  ·intro a0 a1 _ a3
   obtain ⟨hlt,-,no⟩:=Hs.out
   have hi:=hlt hM a0
   have hp : p (gt M i)=false:=by rw [← hq,← hM];unfold freeB;simp only [Bool.and_eq_false_iff];exact .inl (.inr a3)
   exact rn (i + 1,N.length,N) ⟨by omega,rfl,(no hi hp).symm⟩
  ·intro a0 a1
   obtain ⟨hlt,-,no⟩:=Hs.out
   have hi:=hlt hM a0
   have hp : p (gt M i)=false:=by rw [← hq,← hM];unfold freeB;simp only [Bool.and_eq_false_iff];exact .inl (.inl a1)
   exact rn (i + 1,N.length,N) ⟨by omega,rfl,(no hi hp).symm⟩
  ·intro a0
   obtain rfl:=Hs.out.2.1 hM a0
   rw [List.take_length] at k3
   subst k3
   rfl
  ·intro a0
   obtain rfl:=Hs.out.2.1 hM a0
   rw [List.take_length] at k3
   subst k3
   rfl
 ·intro g1 g2
  rw [if_neg g1,if_neg (by omega)]
  refine LoopX_nil 13 128 2 rfl ?_
  conv=>whnf
  refine LoopX_keep [4,6,9,10,13,49,50,51] ?_
  conv=>whnf
  obtain ⟨M,hM⟩ : ∃ M,(tracedL (gt (bcorners (gt (directedL S ⟨m,k⟩) 0).b) 0) (gt (directedL S ⟨m,k⟩) 0).v 0 (k - rng)).1=M:=⟨_,rfl⟩
  obtain ⟨p,hq⟩ : ∃ p,freeB ⟨w,h,X⟩ (directedL S ⟨m,k⟩) (k - rng)=p:=⟨_,rfl⟩
  have hML : M.length≤8281:=by rw [← hM];exact traced_len
  rw [hM,hq]
  refine LoopX_p [6] (fun ((i,n,N) : Nat × Nat × List Cell)=>i≤M.length∧n=N.length∧N=(M.take i).filter p) (fun (i,n,_)=>[(13,.sl 6 0 0 n 2),(51,I i)]) (fun (_,_,N)=>[(6,.row false 128 2 (fl Cell.e N))]) (fun (i,_,_)=>M.length - i) (0,0,[]) ?_
  conv=>whnf
  rintro ⟨i,n,N⟩ ⟨k1,rfl,k3⟩
  have hNL : N.length≤8281:=by rw [k3];exact Nat.le_trans (List.length_filter_le _ _) (Nat.le_trans (List.length_take_le _ _) (by omega))
  have hlt : ∀ {L : List Cell},L=M→(i : Int) < (L.length : Int)→i < M.length:=fun e g=>by subst e;omega
  have hle : ∀ {L : List Cell},L=M→(L.length : Int)≤(i : Int)→i=M.length:=fun e g=>by subst e;omega
  have no : i < M.length→p (gt M i)=false→(M.take (i + 1)).filter p=N:=fun hi hp=>by rw [filter_next hi,hp,k3];simp
  have Hs : Hold (_∧_∧_):=⟨⟨@hlt,@hle,no⟩⟩
  clear hlt hle no
  refine runA (a6 ?_ ?_ ?_ ?_ ?_ ?_)
  ·intro a0 a1 _ a3 _ a5
   obtain ⟨hlt,-,-⟩:=Hs.out
   have hi:=hlt hM a0
   have hp : p (gt M i)=true:=by rw [← hq,← hM];unfold freeB;simp only [Bool.and_eq_true,Bool.not_eq_true'];exact ⟨⟨a1,a3⟩,a5⟩
   have e:=filter_next (p:=p) hi
   rw [if_pos hp] at e
   exact rn (i + 1,N.length + 1,N ++ [gt (tracedL (gt (bcorners (gt (directedL S ⟨m,k⟩) 0).b) 0) (gt (directedL S ⟨m,k⟩) 0).v 0 (k - rng)).1 i]) ⟨by omega,by simp,by rw [e,k3,hM]⟩
  ·intro a0 a1 _ a3 _ a5
   obtain ⟨hlt,-,no⟩:=Hs.out
   have hi:=hlt hM a0
   have hp : p (gt M i)=false:=by rw [← hq,← hM];unfold freeB;simp only [Bool.and_eq_false_iff,Bool.not_eq_false'];exact .inr a5
   exact rn (i + 1,N.length,N) ⟨by omega,rfl,(no hi hp).symm⟩
  ·intro a0 a1 _ a3
   obtain ⟨hlt,-,no⟩:=Hs.out
   have hi:=hlt hM a0
   have hp : p (gt M i)=false:=by rw [← hq,← hM];unfold freeB;simp only [Bool.and_eq_false_iff];exact .inl (.inr a3)
   exact rn (i + 1,N.length,N) ⟨by omega,rfl,(no hi hp).symm⟩
  ·intro a0 a1
   obtain ⟨hlt,-,no⟩:=Hs.out
   have hi:=hlt hM a0
   have hp : p (gt M i)=false:=by rw [← hq,← hM];unfold freeB;simp only [Bool.and_eq_false_iff];exact .inl (.inl a1)
   exact rn (i + 1,N.length,N) ⟨by omega,rfl,(no hi hp).symm⟩
  ·intro a0
   obtain rfl:=Hs.out.2.1 hM a0
   rw [List.take_length] at k3
   subst k3
   rfl
  ·intro a0
   obtain rfl:=Hs.out.2.1 hM a0
   rw [List.take_length] at k3
   subst k3
   rfl⟩
end
attribute [irreducible] Known.vSet Known.rightK Known.taughtK Known.directedL Known.provenK
end Go.Proofs.YtkflmidichikjaaGreatDoor.V
end
