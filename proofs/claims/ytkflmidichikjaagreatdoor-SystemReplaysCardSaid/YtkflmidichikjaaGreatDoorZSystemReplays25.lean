import Derived.Test.YtkflmidichikjaaGreatDoorZSystemReplays24
import Derived.Test.YtkflmidichikjaaGreatDoorZSystemReplays15
set_option linter.all false
section
namespace Go.Proofs.YtkflmidichikjaaGreatDoor.V
open Go.RowKit
set_option maxRecDepth 100000
set_option maxHeartbeats 16000000
open Zono
namespace Zono
theorem near4 {a b c d : Int} (h : (-2097152 ≤ a ∧ a ≤ 2097152) ∧ (-2097152 ≤ b ∧ b ≤ 2097152) ∧ (-2097152 ≤ c ∧ c ≤ 2097152) ∧ -2097152 ≤ d ∧ d ≤ 2097152) : nearL [a, b, c, d] = true := by
 unfold nearL sizeZ
 simp
 omega
end Zono
instance inVzr_1 : CMe 134 (Int × Int × Int × Int) true (fun (a, b, c, d) => [.a [I a, I b, I c, I d]]) (fun _ => []) (fun (a, b, c, d) => (-2097152 ≤ a ∧ a ≤ 2097152) ∧ (-2097152 ≤ b ∧ b ≤ 2097152) ∧ (a ≤ c ∧ c ≤ 2097152) ∧ (b ≤ d ∧ d ≤ 2097152) ∧ c - a ≤ 65536 ∧ d - b ≤ 65536) (Option Addr × Nat) (fun (a, b, c, d) q => .t [.a [I (a + c), I (b + d), .fz q.1 q.2 2 (fl Point.e (canonZ [⟨c - a, 0⟩, ⟨0, d - b⟩]))], I 0]) (fun _ _ => []) := ⟨fun (a, b, c, d) ⟨h1, h2, h3, h4, h5, h6⟩ => by
 dsimp only
 have hn : nearL [a,b,c,d]=true:=near4 (by omega)
 have hz : ∀ g∈[(⟨c - a,0⟩ : Point),⟨0,d - b⟩],inZ 1048576 g:=by
  intro g hg
  simp only [List.mem_cons,List.not_mem_nil,or_false] at hg
  rcases hg with rfl|rfl<;>unfold inZ<;>simp only<;>omega
 refine CM.of Tryz.func134 rfl tabOk rfl rfl rfl rfl (by simp [SV.nms,SV.nm]) fun w_ M_ π_ G0_=>?_
 refine ruA (a1 ?_)
 intros
 refine CallX_fr 3 rfl fun A' c'=>?_
 conv=>whnf
 (repeat ((with_reducible show ViewE _ _ _ _);(first|refine view_w zLn ?_|refine view_pf zSd ?_|refine view_p zSd ?_);(conv=>whnf)))
 refine roA (a1 ?_)
 intro q
 refine Fin_ja q ?_
 conv=>whnf
 exact ⟨rfl,rfl,rfl⟩⟩
instance inVzr_2 : AR 134 4 := ⟨trivial⟩
instance inVzr_3 : CMe 138 (Int × Int × Int × Int) true (fun (a, b, c, d) => [.a [I a, I b], .a [I c, I d]]) (fun _ => []) (fun (a, b, c, d) => (-2097152 ≤ a ∧ a ≤ 2097152) ∧ (-2097152 ≤ b ∧ b ≤ 2097152) ∧ (-2097152 ≤ c ∧ c ≤ 2097152) ∧ (-2097152 ≤ d ∧ d ≤ 2097152) ∧ (-65536 ≤ c - a ∧ c - a ≤ 65536) ∧ -65536 ≤ d - b ∧ d - b ≤ 65536) (Option Addr × Nat) (fun (a, b, c, d) q => .t [.a [I (a + c), I (b + d), .fz q.1 q.2 2 (fl Point.e (canonZ [⟨c - a, d - b⟩]))], I 0]) (fun _ _ => []) := ⟨fun (a, b, c, d) ⟨h1, h2, h3, h4, h5, h6⟩ => by
 dsimp only
 have hn : nearL [a,b,c,d]=true:=near4 (by omega)
 have hz : ∀ g∈[(⟨c - a,d - b⟩ : Point)],inZ 1048576 g:=by
  intro g hg
  simp only [List.mem_cons,List.not_mem_nil,or_false] at hg
  subst hg
  unfold inZ
  simp only
  omega
 have s1 : sizeZ (a - c) 65536=true:=by unfold sizeZ;simp;omega
 have s2 : sizeZ (b - d) 65536=true:=by unfold sizeZ;simp;omega
 refine CM.of Tryz.func138 rfl tabOk rfl rfl rfl rfl (by simp [SV.nms,SV.nm]) fun w_ M_ π_ G0_=>?_
 refine ruA (a1 ?_)
 intros
 refine CallX_fr 4 rfl fun A' c'=>?_
 conv=>whnf
 (repeat ((with_reducible show ViewE _ _ _ _);(first|refine view_w zLn ?_|refine view_pf zSd ?_|refine view_p zSd ?_);(conv=>whnf)))
 refine roA (a1 ?_)
 intro q
 refine Fin_ja q ?_
 conv=>whnf
 exact ⟨rfl,rfl,rfl⟩⟩
instance inVzr_4 : AR 138 4 := ⟨trivial⟩
instance inVzr_5 : CMe 188 (Option Addr × Nat × Int × Int × List Point) true (fun (A, c, x, y, X) => [.a [I x, I y, .fz A c 2 (fl Point.e X)]]) (fun _ => []) (fun (_, _, x, y, X) => vZ x y X = true ∧ X.length ≤ 1000000) Unit (fun (A, c, x, y, X) _ => .t [.a [I x, I y, .fz A c 2 (fl Point.e X)], I 0]) (fun _ _ => []) := ⟨fun (A, c, x, y, X) ⟨h1, h2⟩ => by
 dsimp only
 refine CM.of Tryz.func188 rfl tabOk rfl rfl rfl rfl (by simp [SV.nms,SV.nm]) fun w_ M_ π_ G0_=>?_
 refine roA (a1 ?_)
 intro _
 refine Fin_ja () ?_
 conv=>whnf
 exact ⟨rfl,rfl,rfl⟩⟩
instance inVzr_6 : AR 188 5 := ⟨trivial⟩
instance inVzr_7 {n : Int} : CFc 246 false [.v (.slice none 0 0), I n] (0 ≤ n ∧ n ≤ 32) (.sl 0 0 0 0 2) [.row false 147 2 (fl Point.e [])] := ⟨fun hp => by
 refine CM.of Tryz.func246 rfl tabOk rfl rfl rfl rfl (by simp [SV.nms,SV.nm]) fun w_ M_ π_ G0_=>?_
 refine roA (a2 ?_ ?_)
 ·intro _ _
  refine Fin_tr 0 0 rfl ?_
  conv=>whnf
  refine Fin_j () ?_
  conv=>whnf
  exact ⟨rfl,rfl,by simp only [OB.flats,flatD_fl,and_self],rfl⟩
 ·intro _ _
  refine Fin_j () ?_
  conv=>whnf
  exact ⟨rfl,rfl,by simp only [OB.flats,flatD_fl,and_self],rfl⟩⟩
instance inVzr_8 {A : Option Addr} {c : Nat} {X Y : List Point} : CFc 189 false [.fz A c 1 [[.fz 2 (fl Point.e X)], [.fz 2 (fl Point.e Y)]]] (X.length ≤ 16 ∧ Y.length ≤ 16) (.sl 0 0 0 (X.length + Y.length) 2) [.row false 147 2 (fl Point.e (X ++ Y))] := ⟨fun ⟨h1, h2⟩ => by
 have e1 : (fl Point.e X).length=X.length:=fl_len _ _
 have e2 : (fl Point.e Y).length=Y.length:=fl_len _ _
 refine CM.of Tryz.func189 rfl tabOk rfl rfl rfl rfl (by simp [SV.nms,SV.nm]) fun w_ M_ π_ G0_=>?_
 refine ruA (a1 ?_)
 refine LoopX_r tabOk 3 ?_
 refine ruA (a1 ?_)
 intro f1 f2
 refine LoopX_r tabOk 3 ?_
 refine roA (a1 ?_)
 intro f3 f4
 rw [show 0 + X.length + Y.length=X.length + Y.length by omega]
 refine Fin_j () ?_
 conv=>whnf
 exact ⟨rfl,by simp [nthL,nth,rnOs,OB.rnB],by simp only [OB.flats,flatD_fl,and_self],rfl⟩⟩
namespace Zono
def sumF (f : Point → Int) (L : List Point) : Int := L.foldr (fun p s => f p + s) 0
section
variable {f : Point → Int}
theorem sumF_app : ∀ {L M : List Point}, sumF f (L ++ M) = sumF f L + sumF f M
 | [],M=>by show sumF f M=0 + sumF f M;omega
 | x :: r,M=>by
   have:=sumF_app (L:=r) (M:=M)
   show f x + sumF f (r ++ M)=f x + sumF f r + sumF f M
   omega
theorem sumF_nn (h : ∀ p, 0 ≤ f p) : ∀ {L : List Point}, 0 ≤ sumF f L
 | []=>Int.le_refl 0
 | x :: r=>by
   have:=sumF_nn h (L:=r)
   have:=h x
   show 0≤f x + sumF f r
   omega
theorem sumF_mem (h : ∀ p, 0 ≤ f p) : ∀ {L : List Point} {p : Point}, p ∈ L → f p ≤ sumF f L
 | x :: r,p,hp=>by
   have h1:=sumF_nn h (L:=r)
   have h2:=h x
   show f p≤f x + sumF f r
   rcases List.mem_cons.1 hp with rfl|hp
   ·omega
   ·have:=sumF_mem h hp
    omega
theorem sumF_set : ∀ {L : List Point} {i : Nat} {v : Point}, i < L.length → sumF f (L.set i v) = sumF f L - f (gt L i) + f v
 | x :: r,0,v,_=>by
   show f v + sumF f r=f x + sumF f r - f x + f v
   omega
 | x :: r,i + 1,v,hi=>by
   have:=sumF_set (L:=r) (i:=i) (v:=v) (by simpa using hi)
   have e : gt (x :: r) (i + 1)=gt r i:=by simp [gt]
   rw [e]
   show f x + sumF f (r.set i v)=f x + sumF f r - f (gt r i) + f v
   omega
theorem sumF_ins {lt : Point → Point → Bool} {x : Point} {S : List Point} : sumF f (insZ lt x S) = f x + sumF f S := by
 unfold insZ
 generalize S.length - (S.reverse.takeWhile (lt x)).length=m
 have h:=sumF_app (f:=f) (L:=S.take m) (M:=S.drop m)
 rw [List.take_append_drop] at h
 rw [sumF_app]
 show sumF f (S.take m) + (f x + sumF f (S.drop m))=_
 omega
theorem sumF_fold {lt : Point → Point → Bool} : ∀ {L S : List Point}, sumF f (L.foldl (fun S x => insZ lt x S) S) = sumF f S + sumF f L
 | [],S=>by show sumF f S=sumF f S + 0;omega
 | x :: r,S=>by
   rw [List.foldl_cons,sumF_fold,sumF_ins]
   show f x + sumF f S + sumF f r=sumF f S + (f x + sumF f r)
   omega
theorem sumF_sort {lt : Point → Point → Bool} {L : List Point} : sumF f (sortZ lt L) = sumF f L := by
 unfold sortZ
 rw [sumF_fold]
 show 0 + sumF f L=_
 omega
theorem sumF_keep (h : ∀ p, 0 ≤ f p) (hf : ∀ p, f (flipZ p) = f p) : ∀ {L : List Point}, sumF f (keepZ L) ≤ sumF f L
 | []=>Int.le_refl _
 | x :: r=>by
   have:=sumF_keep h hf (L:=r)
   have h2:=h x
   unfold keepZ at this ⊢
   rw [List.map_cons,List.filter_cons]
   have h3:=hf x
   split
   ·show f (flipZ x) + sumF f _≤f x + sumF f r
    omega
   ·show sumF f _≤f x + sumF f r
    omega
theorem sumF_merge (ha : ∀ a b : Point, f ⟨a.X + b.X, a.Y + b.Y⟩ ≤ f a + f b) {L : List Point} {g : Point} : sumF f (mergeZ L g) ≤ sumF f L + f g := by
 unfold mergeZ
 split
 ·rw [sumF_set (by omega)]
  have:=ha (gt L (L.length - 1)) g
  omega
 ·rw [sumF_app]
  show sumF f L + (f g + 0)≤_
  omega
theorem sumF_mergeL (ha : ∀ a b : Point, f ⟨a.X + b.X, a.Y + b.Y⟩ ≤ f a + f b) : ∀ {Z L : List Point}, sumF f (Z.foldl mergeZ L) ≤ sumF f L + sumF f Z
 | [],L=>by show sumF f L≤sumF f L + 0;omega
 | g :: r,L=>by
   have h1:=sumF_mergeL ha (Z:=r) (L:=mergeZ L g)
   have h2:=sumF_merge ha (L:=L) (g:=g)
   show sumF f (r.foldl mergeZ (mergeZ L g))≤sumF f L + (f g + sumF f r)
   omega
theorem sumF_canon (h : ∀ p, 0 ≤ f p) (hf : ∀ p, f (flipZ p) = f p) (ha : ∀ a b : Point, f ⟨a.X + b.X, a.Y + b.Y⟩ ≤ f a + f b) {X : List Point} : sumF f (canonZ X) ≤ sumF f X := by
 unfold canonZ
 have h1:=sumF_mergeL ha (Z:=sortZ ltZ (keepZ X)) (L:=[])
 rw [sumF_sort] at h1
 have h2:=sumF_keep h hf (L:=X)
 have : sumF f []=0:=rfl
 omega
end
theorem mergeL_len : ∀ {Z L : List Point}, (Z.foldl mergeZ L).length ≤ L.length + Z.length
 | [],L=>Nat.le_refl _
 | g :: r,L=>by
   have h1:=mergeL_len (Z:=r) (L:=mergeZ L g)
   have h2:=mergeZ_len (L:=L) (g:=g)
   simp only [List.foldl_cons,List.length_cons]
   omega
theorem canonZ_len {X : List Point} : (canonZ X).length ≤ X.length := by
 unfold canonZ
 have h1:=mergeL_len (Z:=sortZ ltZ (keepZ X)) (L:=[])
 rw [sortZ_len] at h1
 have h2:=keepZ_len (X:=X)
 simp only [List.length_nil] at h1
 omega
theorem spread_bnd {a b m : Int} : ∀ {X : List Point}, (∀ g ∈ X, -m ≤ a * g.X + b * g.Y ∧ a * g.X + b * g.Y ≤ m) → 0 ≤ spreadZ X a b ∧ spreadZ X a b ≤ X.length * m := by
 have h : ∀ (X : List Point) (s : Int),(∀ g∈X,-m≤a * g.X + b * g.Y∧a * g.X + b * g.Y≤m)→s≤X.foldl (fun s g=>s + absZ (a * g.X + b * g.Y)) s∧X.foldl (fun s g=>s + absZ (a * g.X + b * g.Y)) s≤s + X.length * m:=by
  intro X
  induction X with
  | nil=>intro s _;simp
  | cons g r ih =>
    intro s hg
    have h1:=absZ_bnd (hg g (by simp))
    have h2:=ih (s + absZ (a * g.X + b * g.Y)) fun g hq=>hg g (by simp [hq])
    rw [List.foldl_cons,List.length_cons,Int.natCast_succ,Int.add_mul,Int.one_mul]
    omega
 intro X hX
 have:=h X 0 hX
 unfold spreadZ
 omega
theorem sumF_le {f : Point → Int} {m : Int} : ∀ {X : List Point}, (∀ g ∈ X, f g ≤ m) → sumF f X ≤ X.length * m
 | [],_=>by show (0 : Int)≤_;simp
 | g :: r,h=>by
   have h1:=sumF_le (f:=f) (m:=m) (X:=r) fun g hg=>h g (by simp [hg])
   have h2:=h g (by simp)
   rw [List.length_cons,Int.natCast_succ,Int.add_mul,Int.one_mul]
   show f g + sumF f r≤_
   omega
def fX (p : Point) : Int := absZ p.X
def fY (p : Point) : Int := absZ p.Y
theorem canonX {X : List Point} : sumF fX (canonZ X) ≤ sumF fX X := sumF_canon (fun p => by unfold fX absZ; omega) (fun p => by unfold fX flipZ absZ; split <;> (try simp only) <;> omega) fun a b => by unfold fX absZ; simp only; omega
theorem canonY {X : List Point} : sumF fY (canonZ X) ≤ sumF fY X := sumF_canon (fun p => by unfold fY absZ; omega) (fun p => by unfold fY flipZ absZ; split <;> (try simp only) <;> omega) fun a b => by unfold fY absZ; simp only; omega
theorem gens_in {m : Int} {X : List Point} (h1 : sumF fX X ≤ m) (h2 : sumF fY X ≤ m) : ∀ g ∈ X, inZ m g := by
 intro g hg
 have h3 : absZ g.X≤sumF fX X:=sumF_mem (f:=fX) (fun p=>by unfold fX absZ;omega) hg
 have h4 : absZ g.Y≤sumF fY X:=sumF_mem (f:=fY) (fun p=>by unfold fY absZ;omega) hg
 unfold absZ at h3 h4
 unfold inZ
 omega
theorem vZ_of {x y : Int} {X : List Point} (hx : -8388608 ≤ x ∧ x ≤ 8388608) (hy : -8388608 ≤ y ∧ y ≤ 8388608) (hl : X.length ≤ 16) (h : ∀ g ∈ X, inZ 65536 g) : vZ x y X = true := by
 unfold vZ
 have h1 : sizeZ x 8388608=true:=by unfold sizeZ;simp;omega
 have h2 : sizeZ y 8388608=true:=by unfold sizeZ;simp;omega
 have h3 : (X.any fun g=>!vGen g)=false:=by
  rw [List.any_eq_false]
  intro g hg
  have:=h g hg
  unfold inZ at this
  have : vGen g=true:=by unfold vGen sizeZ;simp;omega
  simp [this]
 simp [h1,h2,h3]
 omega
end Zono
instance inVzr_9 : CMe 135 (Option Addr × Nat × Int × Int × List Point × Option Addr × Nat × Int × Int × List Point) true (fun (A, c, x, y, X, B', d, u, v, Y) => [.a [I x, I y, .fz A c 2 (fl Point.e X)], .a [I u, I v, .fz B' d 2 (fl Point.e Y)]]) (fun _ => []) (fun (_, _, x, y, X, _, _, u, v, Y) => (vZ x y X = true ∧ vZ u v Y = true ∧ vZ (x + u) (y + v) (canonZ (X ++ Y)) = true) ∧ X.length + Y.length ≤ 12 ∧ (-8388608 ≤ x ∧ x ≤ 8388608) ∧ (-8388608 ≤ y ∧ y ≤ 8388608) ∧ (-8388608 ≤ u ∧ u ≤ 8388608) ∧ (-8388608 ≤ v ∧ v ≤ 8388608) ∧ ∀ g ∈ X ++ Y, inZ 1048576 g) (Option Addr × Nat) (fun (_, _, x, y, X, _, _, u, v, Y) q => .t [.a [I (x + u), I (y + v), .fz q.1 q.2 2 (fl Point.e (canonZ (X ++ Y)))], I 0]) (fun _ _ => []) := ⟨fun (A, c, x, y, X, B', d, u, v, Y) ⟨⟨h1, h2, h3⟩, h4, h5, h6, h7, h8, h9⟩ => by
 dsimp only
 have l0:=canonZ_len (X:=X ++ Y)
 rw [List.length_append] at l0
 have l1 : (X ++ Y).length≤12:=by rw [List.length_append];exact h4
 have l2 : (X ++ Y).length=X.length + Y.length:=List.length_append
 refine CM.of Tryz.func135 rfl tabOk rfl rfl rfl rfl (by simp [SV.nms,SV.nm]) fun w_ M_ π_ G0_=>?_
 refine roA (a1 ?_)
 intro _ _
 refine CallX_fr 4 rfl fun A1 c1=>?_
 conv=>whnf
 refine view_w (by first|exact (fl_len _ _).trans l2|exact ((fl_len _ _).trans l2).symm) ?_
 conv=>whnf
 refine roA (a1 ?_)
 intro q _
 refine Fin_ja q ?_
 conv=>whnf
 exact ⟨rfl,rfl,rfl⟩⟩
instance inVzr_10 : AR 135 10 := ⟨trivial⟩
instance inVzr_11 {x y : Int} {A : Option Addr} {c : Nat} {X : List Point} : CFc 192 false [.a [I x, I y, .fz A c 2 (fl Point.e X)]] (X.length ≤ 16 ∧ (-8388608 ≤ x ∧ x ≤ 8388608) ∧ (-8388608 ≤ y ∧ y ≤ 8388608) ∧ ∀ g ∈ X, inZ 65536 g) (boundsZ x y X).s [] := ⟨fun hp => by
 obtain ⟨h1,h2,h3,h4⟩:=hp
 have q : ∀ a b : Int,((a=1∧b=0)∨(a=0∧b=1))→0≤spreadZ X a b∧spreadZ X a b≤1048576:=fun a b hab=>by
  have h:=spread_bnd (a:=a) (b:=b) (m:=65536) (X:=X) (by
   intro g hg
   have:=h4 g hg
   unfold inZ at this
   rcases hab with ⟨rfl,rfl⟩|⟨rfl,rfl⟩<;>omega)
  have:=Int.mul_le_mul_of_nonneg_right (show (X.length : Int)≤16 by omega) (show (0 : Int)≤65536 by omega)
  omega
 have q1:=q 1 0 (.inl ⟨rfl,rfl⟩)
 have q2:=q 0 1 (.inr ⟨rfl,rfl⟩)
 have h5 : ∀ g∈X,(-268435456≤g.X∧g.X≤268435456)∧-268435456≤g.Y∧g.Y≤268435456:=fun g hg=>by
  have:=h4 g hg
  unfold inZ at this
  omega
 unfold boundsZ
 clear h4 q
 refine CM.of Tryz.func192 rfl tabOk rfl rfl rfl rfl (by simp [SV.nms,SV.nm]) fun w_ M_ π_ G0_=>?_
 exact ru⟩
instance inVzr_12 {x y : Int} {A : Option Addr} {c : Nat} {X : List Point} : CFc 140 false [.a [I x, I y, .fz A c 2 (fl Point.e X)]] (vZ x y X = true ∧ X.length ≤ 16 ∧ (-8388608 ≤ x ∧ x ≤ 8388608) ∧ (-8388608 ≤ y ∧ y ≤ 8388608) ∧ ∀ g ∈ X, inZ 65536 g) (.t [(boundsZ x y X).s, I 0]) [] := ⟨fun hp => by
 obtain ⟨h0,h1,h2,h3,h4⟩:=hp
 refine CM.of Tryz.func140 rfl tabOk rfl rfl rfl rfl (by simp [SV.nms,SV.nm]) fun w_ M_ π_ G0_=>?_
 exact ru⟩
end Go.Proofs.YtkflmidichikjaaGreatDoor.V
end
section
namespace Go.Proofs.YtkflmidichikjaaGreatDoor.V
open Go.RowKit
set_option maxRecDepth 100000
section
variable {P : Program} {ops : Array Oper} {Q : Exit → Act → World → Prop}
theorem YO.uniq {o : Oper} {a : Act} {v v' : Value} {w : World} (h : YO P ops o a v w) (h' : YO P ops o a v' w) : v = v' := by
 unfold YO at h h'
 rcases h with ⟨h1,h2⟩|⟨h1,h2⟩<;>rcases h' with ⟨h3,h4⟩|⟨h3,h4⟩
 ·rw [h2] at h4
  cases h4
  rfl
 ·rw [h1] at h3;cases h3
 ·rw [h1] at h3;cases h3
 ·rw [h2,h4]
def chkSS (ops : Array Oper) (i j : Nat) (r1 r2 : List Nat) : List Nat → Array Bool → Bool
 | [],listed=>(match ops[i]?,ops[j]? with
   | some o,some o'=>!isVal o.op && !isVal o'.op
   | _,_=>false) && ((Region.ready .any ops listed).all fun x=>x == i || x == j) && !(Region.ready .any ops listed).isEmpty && chkS ops r1 (listed.setIfInBounds i true) && chkS ops r2 (listed.setIfInBounds j true)
 | q :: p,listed=>(match ops[q]? with
   | none=>false
   | some o=>isVal o.op && (Region.ready .any ops listed).contains q && (List.range ops.size).all fun j=>j == q || listed.getD j true || dep ops j q || ((ops[j]?).map fun oj=>o.apart ops oj).getD true) && chkSS ops i j r1 r2 p (listed.setIfInBounds q true)
theorem wpV_of_SS (hsel : Region.noSelect ops = true) (hQ : ∀ c a w, ¬ Q (.panic c) a w) {i j : Nat} {r1 r2 : List Nat} (hl : r2.length = r1.length) : ∀ (p : List Nat) {pend : List Pend} {listed : Array Bool} {a : Act} {w : World}, Closed ops listed → chkSS ops i j r1 r2 p listed = true → (∀ p ∈ pend, YW P ops p w) →
 wpS P ops Q (p ++ i :: r1) pend a w→wpS P ops Q (p ++ j :: r2) pend a w→wpV P ops Q (p.length + (r1.length + 1)) pend listed a w
 | [],pend,listed,a,w,hcl,hc,hp,h1,h2=>by
   simp only [List.nil_append] at h1 h2
   rw [List.length_nil,Nat.zero_add]
   unfold chkSS at hc
   simp only [Bool.and_eq_true] at hc
   obtain ⟨⟨⟨⟨c1,c2⟩,c3⟩,c4⟩,c5⟩:=hc
   unfold wpS at h1 h2
   cases hi : ops[i]? with
   | none=>simp [hi] at h1
   | some o =>
     cases hj : ops[j]? with
     | none=>simp [hj] at h2
     | some o' =>
       simp only [hi,hj,Bool.and_eq_true,Bool.not_eq_true'] at c1 h1 h2
       rw [c1.1] at h1
       rw [c1.2] at h2
       simp only at h1 h2
       refine ⟨fun h0=>by rw [h0] at c3;simp at c3,fun x hx=>?_⟩
       have hcl':=closed_set hcl hx
       have:=List.all_eq_true.1 c2 x hx
       simp only [Bool.or_eq_true,beq_iff_eq] at this
       rcases this with rfl|rfl
       ·refine wpOp_mono (fun a' w' ⟨g1,g2⟩=>⟨g1,wpV_of_S hsel hQ r1 hcl' c4 ?_ g2⟩) h1
        intro p hpm
        obtain ⟨h3,h4⟩:=List.mem_filter.1 hpm
        exact g1 p h3 (by simpa using h4)
       ·rw [← hl]
        refine wpOp_mono (fun a' w' ⟨g1,g2⟩=>⟨g1,wpV_of_S hsel hQ r2 hcl' c5 ?_ g2⟩) h2
        intro p hpm
        obtain ⟨h3,h4⟩:=List.mem_filter.1 hpm
        exact g1 p h3 (by simpa using h4)
 | q :: p,pend,listed,a,w,hcl,hc,hp,h1,h2=>by
   rw [show (q :: p).length + (r1.length + 1)=p.length + (r1.length + 1) + 1 by simp only [List.length_cons];omega]
   unfold chkSS at hc
   simp only [List.cons_append] at h1 h2
   unfold wpS at h1 h2
   cases hi : ops[q]? with
   | none=>simp [hi] at h1
   | some o =>
     simp only [hi,Bool.and_eq_true] at hc h1 h2
     obtain ⟨⟨⟨hv,hc0⟩,hc1⟩,hc2⟩:=hc
     simp only [hv] at h1 h2
     obtain ⟨v,hy,hs⟩:=h1
     obtain ⟨v',hy',hs'⟩:=h2
     obtain rfl:=hy.uniq hy'
     have hri : q∈Region.ready .any ops listed:=by simpa using hc0
     refine wpV_delay hsel hQ hi (p.length + (r1.length + 1)) (ai:=a) (v:=v) hcl hri ?_ ⟨rfl,rfl⟩ hy hp (wpV_of_SS hsel hQ hl p (closed_set hcl hri) hc2 ?_ hs hs')
     ·intro j oj hoj hji hun hd
      have hlt : j < ops.size:=(Array.getElem?_eq_some_iff.1 hoj).1
      have:=List.all_eq_true.1 hc1 j (List.mem_range.2 hlt)
      simpa [hji,hun,hd,hoj] using this
     ·intro p hpm
      rcases List.mem_cons.1 hpm with rfl|hpm
      ·exact ⟨o,hi,hy⟩
      ·exact hp p hpm
end
theorem xsch_S {C : Ctx} {ob : List OB} {K : Kx} {tm : List (Nat × SV)} {ops : Array Oper} {sch : List Nat} {σ : Nat → Nat} {G : Fz} {fp : Nat → Nat → Prop} {a : Act} {w : World} (hT : TabOk C.P C.T) (hr : Rel C tm ob σ G fp a w) (h : xsch C ops.toList sch [] tm ob fun tm ob => K .normal tm ob) : wpS C.P ops (onlyN (post C K .normal)) sch [] a w.drew := by
 have:=xsch_sound hT (full:=ops.toList) (pend:=[]) (Q:=post C K .normal) h ⟨hr.tm,hr.mem.drew⟩ ⟨by intro s hs;simp at hs,by intro p hp;simp at hp⟩ (by simp) fun tm ob σ G fp a w hk hr=>⟨tm,ob,σ,G,fp,hk,hr⟩
 simpa using this
theorem DrawX_two {C : Ctx} {ob : List OB} {K : Kx} {tm : List (Nat × SV)} {ops : Array Oper} (hT : TabOk C.P C.T) (hm : C.P.follows .mixedOrders = true) (p : List Nat) (i j : Nat) (r1 r2 : List Nat)
 (hc : (Region.noSelect ops && Nat.beq (p.length + (r1.length + 1)) ops.size && Nat.beq r2.length r1.length && chkSS ops i j r1 r2 p (Array.replicate ops.size false))=true)
 (h1 : xsch C ops.toList (p ++ i :: r1) [] tm ob fun tm ob=>K .normal tm ob) (h2 : xsch C ops.toList (p ++ j :: r2) [] tm ob fun tm ob=>K .normal tm ob) : DrawX C ops tm ob K:=by
 unfold DrawX
 intro id σ G fp a w hr
 simp only [Bool.and_eq_true] at hc
 obtain ⟨⟨⟨c1,c2⟩,c3⟩,c4⟩:=hc
 have c2:=Nat.eq_of_beq_eq_true c2
 have c3:=Nat.eq_of_beq_eq_true c3
 have hV:=wpV_of_SS (Q:=onlyN (post C K .normal)) c1 (fun c a w h=>h) c3 p closed_none c4 (by simp) (xsch_S hT hr h1) (xsch_S hT hr h2)
 rw [c2] at hV
 refine wp_mono (wp_region_any hm (wpAny_of_V _ hV)) ?_
 intro e a w h
 cases e<;>first|exact h|exact h.elim
end Go.Proofs.YtkflmidichikjaaGreatDoor.V
end
section
namespace Go.Proofs.YtkflmidichikjaaGreatDoor.V
open Go.RowKit
set_option maxRecDepth 100000
set_option maxHeartbeats 16000000
open Zono
namespace Zono
def normsZ (L : List Point) : List Point := [⟨1, 0⟩, ⟨0, 1⟩] ++ L.flatMap fun g => [⟨0 - g.Y, g.X⟩, g]
def apartZ (x y : Int) (X : List Point) (a b c d : Int) : Bool :=
 (normsZ (canonZ (X ++ [⟨c - a,0⟩,⟨0,d - b⟩]))).any fun n=>decide (absZ (n.X * (a + c - x) + n.Y * (b + d - y)) > spreadZ (canonZ (X ++ [⟨c - a,0⟩,⟨0,d - b⟩])) n.X n.Y)
theorem norms_in {m : Int} {L : List Point} (h : ∀ g ∈ L, inZ m g) (hm : 1 ≤ m) : ∀ g ∈ normsZ L, inZ m g := by
 intro g hg
 unfold normsZ at hg
 rcases List.mem_append.1 hg with hg|hg
 ·simp only [List.mem_cons,List.not_mem_nil,or_false] at hg
  rcases hg with rfl|rfl<;>unfold inZ<;>simp only<;>omega
 ·obtain ⟨q,h1,h2⟩:=List.mem_flatMap.1 hg
  have:=h q h1
  simp only [List.mem_cons,List.not_mem_nil,or_false] at h2
  rcases h2 with rfl|rfl
  ·unfold inZ at *
   simp only
   omega
  ·exact this
theorem norms_len {L : List Point} : (normsZ L).length = 2 + 2 * L.length := by
 unfold normsZ
 rw [List.length_append]
 have : (L.flatMap fun g=>[(⟨0 - g.Y,g.X⟩ : Point),g]).length=2 * L.length:=by
  induction L with
  | nil=>rfl
  | cons x r ih=>simp only [List.flatMap_cons,List.length_append,List.length_cons,List.length_nil,ih];omega
 rw [this]
 rfl
end Zono
instance inVzs_1 {x y a b c d : Int} {A : Option Addr} {cc : Nat} {X : List Point} : CFc 144 false [.a [I x, I y, .fz A cc 2 (fl Point.e X)], .a [I a, I b, I c, I d]] (vZ x y X = true ∧ (X.length ≤ 10 ∧ (-8388608 ≤ x ∧ x ≤ 8388608) ∧ (-8388608 ≤ y ∧ y ≤ 8388608) ∧ ∀ g ∈ X, inZ 65536 g) ∧ (-2097152 ≤ a ∧ a ≤ 2097152) ∧ (-2097152 ≤ b ∧ b ≤ 2097152) ∧ (a ≤ c ∧ c ≤ 2097152) ∧ (b ≤ d ∧ d ≤ 2097152) ∧ c - a ≤ 65536 ∧ d - b ≤ 65536) (B (apartZ x y X a b c d)) [] := ⟨fun ⟨h0, ⟨h1, h2, h3, h4⟩, h5, h6, h7, h8, h9, h10⟩ => by
 have hn : nearL [a,b,c,d]=true:=near4 (by omega)
 have hz : ∀ g∈X ++ [(⟨c - a,0⟩ : Point),⟨0,d - b⟩],inZ 1048576 g:=by
  intro g hg
  rcases List.mem_append.1 hg with hg|hg
  ·have:=h4 g hg
   unfold inZ at *
   omega
  ·simp only [List.mem_cons,List.not_mem_nil,or_false] at hg
   rcases hg with rfl|rfl<;>unfold inZ<;>simp only<;>omega
 have l1 : (X ++ [(⟨c - a,0⟩ : Point),⟨0,d - b⟩]).length=X.length + 2:=by simp
 have l2:=canonZ_len (X:=X ++ [(⟨c - a,0⟩ : Point),⟨0,d - b⟩])
 have hK : ∀ g∈canonZ (X ++ [(⟨c - a,0⟩ : Point),⟨0,d - b⟩]),inZ 1048576 g:=by
  refine gens_in (Int.le_trans canonX ?_) (Int.le_trans canonY ?_)
  ·rw [sumF_app]
   have:=sumF_le (f:=fX) (m:=65536) (X:=X) fun g hg=>by have:=h4 g hg;unfold inZ at this;unfold fX absZ;omega
   have:=Int.mul_le_mul_of_nonneg_right (show (X.length : Int)≤10 by omega) (show (0 : Int)≤65536 by omega)
   show sumF fX X + (absZ (c - a) + (absZ 0 + 0))≤_
   unfold absZ
   omega
  ·rw [sumF_app]
   have:=sumF_le (f:=fY) (m:=65536) (X:=X) fun g hg=>by have:=h4 g hg;unfold inZ at this;unfold fY absZ;omega
   have:=Int.mul_le_mul_of_nonneg_right (show (X.length : Int)≤10 by omega) (show (0 : Int)≤65536 by omega)
   show sumF fY X + (absZ 0 + (absZ (d - b) + 0))≤_
   unfold absZ
   omega
 unfold apartZ
 have Hk : Hold (_∧_):=⟨⟨hK,h4⟩⟩
 clear hK h4
 refine CM.of Tryz.func144 rfl tabOk rfl rfl rfl rfl (by simp [SV.nms,SV.nm]) fun w_ M_ π_ G0_=>?_
 (conv=>whnf);repeat' (first|with_reducible exact trivial|with_reducible exact Unit.unit|((fail_if_success (with_reducible show DrawX _ _ _ _ _));(first|((with_reducible show CallX _ _ _ _ _);first|refine CallX_i ?_ zSi|(refine AR_has ?_;(first|(refine AR_chk 1 ?_;apply CallX_me (_);(conv=>whnf);refine ⟨⟨rfl,rfl⟩,zSi,by kernel_rfl,fun hb=>?_⟩)|(refine AR_chk 2 ?_;apply CallX_me (_,_);(conv=>whnf);refine ⟨⟨rfl,rfl⟩,zSi,by kernel_rfl,fun hb=>?_⟩)|(refine AR_chk 3 ?_;apply CallX_me (_,_,_);(conv=>whnf);refine ⟨⟨rfl,rfl⟩,zSi,by kernel_rfl,fun hb=>?_⟩)|(refine AR_chk 4 ?_;apply CallX_me (_,_,_,_);(conv=>whnf);refine ⟨⟨rfl,rfl⟩,zSi,by kernel_rfl,fun hb=>?_⟩)|(refine AR_chk 5 ?_;apply CallX_me (_,_,_,_,_);(conv=>whnf);refine ⟨⟨rfl,rfl⟩,zSi,by kernel_rfl,fun hb=>?_⟩)|(refine AR_chk 6 ?_;apply CallX_me (_,_,_,_,_,_);(conv=>whnf);refine ⟨⟨rfl,rfl⟩,zSi,by kernel_rfl,fun hb=>?_⟩)|(refine AR_chk 7 ?_;apply CallX_me (_,_,_,_,_,_,_);(conv=>whnf);refine ⟨⟨rfl,rfl⟩,zSi,by kernel_rfl,fun hb=>?_⟩)|(refine AR_chk 8 ?_;apply CallX_me (_,_,_,_,_,_,_,_);(conv=>whnf);refine ⟨⟨rfl,rfl⟩,zSi,by kernel_rfl,fun hb=>?_⟩)|(refine AR_chk 9 ?_;apply CallX_me (_,_,_,_,_,_,_,_,_);(conv=>whnf);refine ⟨⟨rfl,rfl⟩,zSi,by kernel_rfl,fun hb=>?_⟩)|(refine AR_chk 10 ?_;apply CallX_me (_,_,_,_,_,_,_,_,_,_);(conv=>whnf);refine ⟨⟨rfl,rfl⟩,zSi,by kernel_rfl,fun hb=>?_⟩)|(refine AR_chk 11 ?_;apply CallX_me (_,_,_,_,_,_,_,_,_,_,_);(conv=>whnf);refine ⟨⟨rfl,rfl⟩,zSi,by kernel_rfl,fun hb=>?_⟩)|(refine AR_chk 12 ?_;apply CallX_me (_,_,_,_,_,_,_,_,_,_,_,_);(conv=>whnf);refine ⟨⟨rfl,rfl⟩,zSi,by kernel_rfl,fun hb=>?_⟩)|(refine AR_chk 13 ?_;apply CallX_me (_,_,_,_,_,_,_,_,_,_,_,_,_);(conv=>whnf);refine ⟨⟨rfl,rfl⟩,zSi,by kernel_rfl,fun hb=>?_⟩)|(refine AR_chk 14 ?_;apply CallX_me (_,_,_,_,_,_,_,_,_,_,_,_,_,_);(conv=>whnf);refine ⟨⟨rfl,rfl⟩,zSi,by kernel_rfl,fun hb=>?_⟩)|(refine AR_chk 15 ?_;apply CallX_me (_,_,_,_,_,_,_,_,_,_,_,_,_,_,_);(conv=>whnf);refine ⟨⟨rfl,rfl⟩,zSi,by kernel_rfl,fun hb=>?_⟩)|(refine AR_chk 16 ?_;apply CallX_me (_,_,_,_,_,_,_,_,_,_,_,_,_,_,_,_);(conv=>whnf);refine ⟨⟨rfl,rfl⟩,zSi,by kernel_rfl,fun hb=>?_⟩))))|(first |(with_reducible show xwr64 _ _);refine xwr_a ?_ |(with_reducible show CallX _ _ _ _ _);(first|refine CallX_i ?_ zSi|(refine AQ_has ?_;(first|(refine AQ_chk 1 ?_;apply CallX_mp (_);(conv=>whnf);refine ⟨⟨rfl,rfl⟩,zSi,by kernel_rfl,?_⟩)|(refine AQ_chk 2 ?_;apply CallX_mp (_,_);(conv=>whnf);refine ⟨⟨rfl,rfl⟩,zSi,by kernel_rfl,?_⟩)|(refine AQ_chk 3 ?_;apply CallX_mp (_,_,_);(conv=>whnf);refine ⟨⟨rfl,rfl⟩,zSi,by kernel_rfl,?_⟩)|(refine AQ_chk 4 ?_;apply CallX_mp (_,_,_,_);(conv=>whnf);refine ⟨⟨rfl,rfl⟩,zSi,by kernel_rfl,?_⟩)|(refine AQ_chk 5 ?_;apply CallX_mp (_,_,_,_,_);(conv=>whnf);refine ⟨⟨rfl,rfl⟩,zSi,by kernel_rfl,?_⟩)|(refine AQ_chk 6 ?_;apply CallX_mp (_,_,_,_,_,_);(conv=>whnf);refine ⟨⟨rfl,rfl⟩,zSi,by kernel_rfl,?_⟩)|(refine AQ_chk 7 ?_;apply CallX_mp (_,_,_,_,_,_,_);(conv=>whnf);refine ⟨⟨rfl,rfl⟩,zSi,by kernel_rfl,?_⟩)|(refine AQ_chk 8 ?_;apply CallX_mp (_,_,_,_,_,_,_,_);(conv=>whnf);refine ⟨⟨rfl,rfl⟩,zSi,by kernel_rfl,?_⟩)|(refine AQ_chk 9 ?_;apply CallX_mp (_,_,_,_,_,_,_,_,_);(conv=>whnf);refine ⟨⟨rfl,rfl⟩,zSi,by kernel_rfl,?_⟩)|(refine AQ_chk 10 ?_;apply CallX_mp (_,_,_,_,_,_,_,_,_,_);(conv=>whnf);refine ⟨⟨rfl,rfl⟩,zSi,by kernel_rfl,?_⟩)|(refine AQ_chk 11 ?_;apply CallX_mp (_,_,_,_,_,_,_,_,_,_,_);(conv=>whnf);refine ⟨⟨rfl,rfl⟩,zSi,by kernel_rfl,?_⟩)|(refine AQ_chk 12 ?_;apply CallX_mp (_,_,_,_,_,_,_,_,_,_,_,_);(conv=>whnf);refine ⟨⟨rfl,rfl⟩,zSi,by kernel_rfl,?_⟩)))|(refine CallX_v fun φ=>?_;(conv=>whnf);(repeat ((with_reducible show ViewE _ _ _ _);(first|refine view_w zLn ?_|refine view_pf zSd ?_|refine view_p zSd ?_);(conv=>whnf)));(with_reducible show CallB _ _ _ _ _);refine CallB_i ?_ zSi)) |(with_reducible show CallB _ _ _ _ _);(with_reducible show CallB _ _ _ _ _);refine CallB_i ?_ zSi |(with_reducible show ValX _ _ _ _ _);(first|refine ValX_idxF tabOk rfl rfl zSd zSd ?_|refine ValX_idxS tabOk rfl rfl rfl zLn zSd zSd zSd ?_|refine ValX_loadF tabOk rfl rfl rfl rfl rfl zSd ?_|refine ValX_loadQ tabOk rfl rfl rfl rfl rfl rfl ?_|refine ValX_sl1 tabOk rfl rfl rfl zLn zSd zSd ?_|refine ValX_slLo tabOk rfl rfl rfl zLn zSd zSd zSd ?_|refine ValX_slHi tabOk rfl rfl rfl zLn zSd zSd zSd ?_|refine ValX_max3 rfl ?_|refine ValX_cpl rfl ?_|refine ValX_fzNil tabOk rfl rfl rfl (fun hb=>?_) ?_|refine ValX_bldA rfl rfl ?_ (fun w=>by kernel_rfl)|refine ValX_bldB rfl rfl ?_ (fun w=>by kernel_rfl)|refine ValX_ixA1 rfl rfl rfl rfl ?_ (fun w=>by kernel_rfl)|refine ValX_ixA2 rfl rfl rfl rfl ?_ (fun w=>by kernel_rfl)) |(with_reducible show OpX _ _ _ _ _);(first|refine OpX_storeF tabOk rfl rfl rfl (by rfl) (by rfl) zSd ?_|refine OpX_appF tabOk rfl rfl zLn rfl rfl zSe rfl zSd zSd ?_|refine OpX_appP tabOk rfl rfl rfl rfl zSe rfl zSd zSd zSd zSd ?_|refine OpX_build_a tabOk rfl rfl rfl ?_ (by rfl)|refine OpX_make_a tabOk rfl rfl rfl ?_ (by rfl) (by rfl) zSd zSd zSd|refine OpX_build0_a tabOk rfl rfl rfl ?_|refine OpX_nil_a rfl rfl ?_) |(with_reducible show DrawX _ _ _ _ _);refine DrawX_s tabOk folOk ?_ |(with_reducible show DrawS _ _ _ _ _ _ _);refine DrawS_i (by kernel_rfl) ?_ |(with_reducible show ViewE _ _ _ _);(first|refine view_w zLn ?_|refine view_pf zSd ?_|refine view_p zSd ?_) |(with_reducible show xquo64 _ _ _);(first|refine xquo_a ?_|refine xquo_b ?_) |(with_reducible show xrem64 _ _ _);(first|refine xrem_a ?_|refine xrem_b ?_) |(with_reducible show xshr _ _ _ _);(first|refine xshr_1 ?_|refine xshr_32 ?_|refine xshr_6 ?_|refine xshr_7 ?_|refine xshr_8 ?_|refine xshr_63 ?_) |(with_reducible show xshl _ _ _ _);(first|refine xshl_1u ?_|refine xshl_0u ?_|refine xshl_7u ?_) |(with_reducible show andX _ _);refine andX_i ?_ ?_ |(with_reducible show need _ _);refine need_i zSd ?_ |(with_reducible show xwru _ _ _);(first|refine xwru_64 (by omega) (by omega) ?_|refine xwru_32 (by omega) (by omega) ?_|refine xwru_32m ?_) |(with_reducible show xquou _ _ _ _);refine xquou_nn (by omega) (by omega) (by omega) ?_ |(with_reducible show xremu _ _ _);refine xremu_nn (by omega) (by omega) ?_ |(with_reducible show xcv _ _ _);(first|refine xcv_i64 (by omega) (by omega) ?_|refine xcv_u8 (by omega) (by omega) ?_|refine xcv_u32 (by omega) (by omega) ?_|refine xcv_u64 (by omega) (by omega) ?_|refine xcv_u8m ?_|refine xcv_u32m ?_|refine xcv_u64m ?_))|(first |(with_reducible show OpX _ _ _ _ _);(first|refine OpX_clearF tabOk rfl rfl rfl rfl rfl rfl zSd ?_|refine OpX_buildD tabOk rfl rfl rfl rfl (by rfl) ?_|refine OpX_appD tabOk rfl rfl zLd rfl rfl zSf rfl zSd zSd ?_|refine OpX_appZ tabOk rfl rfl rfl rfl (by rfl) zSd zSd zSd ?_) |(with_reducible show ValX _ _ _ _ _);(first|refine ValX_idxD tabOk rfl rfl zSd zSd ?_|refine ValX_loadA tabOk rfl rfl (by rfl) (by rfl) ?_|refine ValX_loadZD tabOk rfl rfl rfl (by rfl) (by rfl) zSd ?_|refine ValX_idxS tabOk rfl rfl rfl (flD_len _ _) zSd zSd zSd ?_|refine ValX_cap0 tabOk rfl rfl ?_|refine ValX_slNil tabOk rfl rfl ?_|refine ValX_fld rfl rfl rfl (fun σ w=>by kernel_rfl) ?_|refine ValX_idxL tabOk rfl rfl (by decide) (by simp;done) rfl ?_) |(with_reducible show CallX _ _ _ _ _);(first|(apply CallX_me (.unit);(conv=>whnf);refine ⟨⟨rfl,rfl⟩,zSi,by kernel_rfl,fun hb=>?_⟩)|(refine AQ_has ?_;(first|(refine AQ_chk 1 ?_;apply CallX_mv (_);intro φ;(conv=>whnf);refine ⟨rfl,?_⟩;(repeat ((with_reducible show ViewE _ _ _ _);(first|refine view_w zLn ?_|refine view_pf zSd ?_|refine view_p zSd ?_);(conv=>whnf)));refine ⟨rfl,zSi,by kernel_rfl,?_⟩)|(refine AQ_chk 2 ?_;apply CallX_mv (_,_);intro φ;(conv=>whnf);refine ⟨rfl,?_⟩;(repeat ((with_reducible show ViewE _ _ _ _);(first|refine view_w zLn ?_|refine view_pf zSd ?_|refine view_p zSd ?_);(conv=>whnf)));refine ⟨rfl,zSi,by kernel_rfl,?_⟩)|(refine AQ_chk 3 ?_;apply CallX_mv (_,_,_);intro φ;(conv=>whnf);refine ⟨rfl,?_⟩;(repeat ((with_reducible show ViewE _ _ _ _);(first|refine view_w zLn ?_|refine view_pf zSd ?_|refine view_p zSd ?_);(conv=>whnf)));refine ⟨rfl,zSi,by kernel_rfl,?_⟩)|(refine AQ_chk 4 ?_;apply CallX_mv (_,_,_,_);intro φ;(conv=>whnf);refine ⟨rfl,?_⟩;(repeat ((with_reducible show ViewE _ _ _ _);(first|refine view_w zLn ?_|refine view_pf zSd ?_|refine view_p zSd ?_);(conv=>whnf)));refine ⟨rfl,zSi,by kernel_rfl,?_⟩)|(refine AQ_chk 5 ?_;apply CallX_mv (_,_,_,_,_);intro φ;(conv=>whnf);refine ⟨rfl,?_⟩;(repeat ((with_reducible show ViewE _ _ _ _);(first|refine view_w zLn ?_|refine view_pf zSd ?_|refine view_p zSd ?_);(conv=>whnf)));refine ⟨rfl,zSi,by kernel_rfl,?_⟩)|(refine AQ_chk 6 ?_;apply CallX_mv (_,_,_,_,_,_);intro φ;(conv=>whnf);refine ⟨rfl,?_⟩;(repeat ((with_reducible show ViewE _ _ _ _);(first|refine view_w zLn ?_|refine view_pf zSd ?_|refine view_p zSd ?_);(conv=>whnf)));refine ⟨rfl,zSi,by kernel_rfl,?_⟩)|(refine AQ_chk 7 ?_;apply CallX_mv (_,_,_,_,_,_,_);intro φ;(conv=>whnf);refine ⟨rfl,?_⟩;(repeat ((with_reducible show ViewE _ _ _ _);(first|refine view_w zLn ?_|refine view_pf zSd ?_|refine view_p zSd ?_);(conv=>whnf)));refine ⟨rfl,zSi,by kernel_rfl,?_⟩)|(refine AQ_chk 8 ?_;apply CallX_mv (_,_,_,_,_,_,_,_);intro φ;(conv=>whnf);refine ⟨rfl,?_⟩;(repeat ((with_reducible show ViewE _ _ _ _);(first|refine view_w zLn ?_|refine view_pf zSd ?_|refine view_p zSd ?_);(conv=>whnf)));refine ⟨rfl,zSi,by kernel_rfl,?_⟩)|(refine AQ_chk 9 ?_;apply CallX_mv (_,_,_,_,_,_,_,_,_);intro φ;(conv=>whnf);refine ⟨rfl,?_⟩;(repeat ((with_reducible show ViewE _ _ _ _);(first|refine view_w zLn ?_|refine view_pf zSd ?_|refine view_p zSd ?_);(conv=>whnf)));refine ⟨rfl,zSi,by kernel_rfl,?_⟩)|(refine AQ_chk 10 ?_;apply CallX_mv (_,_,_,_,_,_,_,_,_,_);intro φ;(conv=>whnf);refine ⟨rfl,?_⟩;(repeat ((with_reducible show ViewE _ _ _ _);(first|refine view_w zLn ?_|refine view_pf zSd ?_|refine view_p zSd ?_);(conv=>whnf)));refine ⟨rfl,zSi,by kernel_rfl,?_⟩)|(refine AQ_chk 11 ?_;apply CallX_mv (_,_,_,_,_,_,_,_,_,_,_);intro φ;(conv=>whnf);refine ⟨rfl,?_⟩;(repeat ((with_reducible show ViewE _ _ _ _);(first|refine view_w zLn ?_|refine view_pf zSd ?_|refine view_p zSd ?_);(conv=>whnf)));refine ⟨rfl,zSi,by kernel_rfl,?_⟩)|(refine AQ_chk 12 ?_;apply CallX_mv (_,_,_,_,_,_,_,_,_,_,_,_);intro φ;(conv=>whnf);refine ⟨rfl,?_⟩;(repeat ((with_reducible show ViewE _ _ _ _);(first|refine view_w zLn ?_|refine view_pf zSd ?_|refine view_p zSd ?_);(conv=>whnf)));refine ⟨rfl,zSi,by kernel_rfl,?_⟩)))|(refine CallX_w fun φ=>?_;(conv=>whnf);(repeat ((with_reducible show ViewE _ _ _ _);(first|refine view_w zLn ?_|refine view_pf zSd ?_|refine view_p zSd ?_);(conv=>whnf)));(with_reducible show CallR _ _ _ _ _);refine CallR_i ?_ zSi)|(refine CallX_v fun φ=>?_;(conv=>whnf);(repeat ((with_reducible show ViewE _ _ _ _);(first|refine view_w zLn ?_|refine view_pf zSd ?_|refine view_p zSd ?_);(conv=>whnf)));(with_reducible show CallB _ _ _ _ _);refine CallB_di ?_ zSi)) |(with_reducible show CallB _ _ _ _ _);refine CallB_di ?_ zSi))<;>conv=>whnf)|((with_reducible show ∀ (_ : Nat→Option Addr × Nat),_);intro hb;conv=>whnf)|((with_reducible show _=_);rfl)|((with_reducible refine xif_s ?_ ?_)<;>(intro hb;((try simp (disch:=omega) only [hbS,fl_len] at hb);(try have hb:=bnd hb))<;>first|(exfalso;omega)|(exact (cfl hb (by with_reducible assumption)).elim)|(exact (cfl (by with_reducible assumption) hb).elim)|conv=>whnf)))
 repeat clear hb
 refine DrawX_two tabOk folOk [0,1,3,4,5,6,7,8,9,10,11,12,13,14] 2 15 [15,16,17,18,19,20] [2,16,17,18,19,20] (by kernel_rfl) ?_ ?_
 all_goals
  refine roA (a1 ?_)
  all_goals intros
  refine CallX_fr 5 rfl fun A1 c1=>?_
  conv=>whnf
  refine view_w (by rw [fl_len];exact l1.symm) ?_
  conv=>whnf
  obtain ⟨hK,h4⟩:=Hk.out
  clear Hk
  have l3 : (canonZ (X ++ [(⟨c - a,0⟩ : Point),⟨0,d - b⟩])).length≤12:=by omega
  have l4 : (X ++ [(⟨c - a,0⟩ : Point),⟨0,d - b⟩]).length≤12:=by omega
  generalize hLL : canonZ (X ++ [(⟨c - a,0⟩ : Point),⟨0,d - b⟩])=L at *
  apply CallX_me (A1,c1,(0 : Int),(0 : Int),X ++ [(⟨c - a,0⟩ : Point),⟨0,d - b⟩])
  conv=>whnf
  refine ⟨⟨rfl,rfl⟩,⟨l4,hz⟩,by kernel_rfl,fun q=>?_⟩
  dsimp only
  rw [hLL]
  have hn1:=norms_in hK (by omega)
  have hn2:=norms_len (L:=L)
  have Hk : Hold (_∧_):=⟨⟨hK,hn1⟩⟩
  clear hK h4 hz hn1
  refine roA (a1 ?_)
  all_goals intros
  refine LoopX_p [7] (fun ((i,n,N) : Nat × Nat × List Point)=>i≤L.length∧n=N.length∧N=[(⟨1,0⟩ : Point),⟨0,1⟩] ++ (L.take i).flatMap fun g=>[⟨0 - g.Y,g.X⟩,g]) (fun (i,n,_)=>[(7,.sl 7 0 0 n 2),(84,I i)]) (fun (_,_,N)=>[(7,.row false 147 2 (fl Point.e N))]) (fun (i,_,_)=>L.length - i) (0,2,[(⟨1,0⟩ : Point),⟨0,1⟩]) ?_ ⟨by omega,rfl,rfl⟩
  conv=>whnf
  rintro ⟨i,n,N⟩ ⟨j1,rfl,j3⟩
  by_cases hi : i < L.length
  ·have e:=flat_next (f:=fun g : Point=>[(⟨0 - g.Y,g.X⟩ : Point),g]) hi
   have q1 : inZ 1048576 (gt L (i : Int).toNat):=Hk.out.1 _ (gt_mem hi)
   unfold inZ at q1
   have l5 : N.length≤2 + 2 * i:=by
    have:=norms_len (L:=L.take i)
    unfold normsZ at this
    rw [← j3,List.length_take] at this
    omega
   have Hj : Hold (_∧_):=⟨⟨j3,e⟩⟩
   clear j3 e
   refine ruA (a1 ?_)
   intro _
   refine rn (i + 1,N.length + 2,N ++ [⟨0 - (gt L (i : Int).toNat).Y,(gt L (i : Int).toNat).X⟩,gt L (i : Int).toNat]) ⟨by omega,by simp,?_⟩
   rw [Hj.out.2,Hj.out.1,List.append_assoc]
   rfl
  ·obtain rfl : i=L.length:=by omega
   rw [List.take_length] at j3
   have j4 : N=normsZ L:=j3
   rw [← j4] at hn2
   have hn1:=Hk.out.2
   rw [← j4] at hn1
   rw [← j4]
   have Hk2 : Hold (_∧_):=⟨⟨Hk.out.1,hn1⟩⟩
   clear j3 j4 hn1 Hk
   refine ruA (a1 ?_)
   intro _
   obtain ⟨p,hp⟩ : ∃ p : Point→Bool,p=fun n=>decide (absZ (n.X * (a + c - x) + n.Y * (b + d - y)) > spreadZ L n.X n.Y):=⟨_,rfl⟩
   rw [← hp]
   refine LoopX_p [] (fun (i : Nat)=>i≤N.length∧∀ j,j < i→p (gt N j)=false) (fun i=>[(101,I i)]) (fun _=>[]) (fun i=>N.length - i) 0 ?_ ⟨by omega,fun j hj=>by omega⟩
   conv=>whnf
   rintro i ⟨k1,k2⟩
   by_cases hi : i < N.length
   ·have hy:=any_yes (p:=p) hi
    have q1 : inZ 1048576 (gt N ((i : Int).toNat + 0)):=Hk2.out.2 _ (gt_mem hi)
    unfold inZ at q1
    have m1:=Heading.mul_bnd (a:=(gt N ((i : Int).toNat + 0)).X) (b:=a + c - x) (A:=1048576) (B:=16777216) q1.1 (by omega)
    have m2:=Heading.mul_bnd (a:=(gt N ((i : Int).toNat + 0)).Y) (b:=b + d - y) (A:=1048576) (B:=16777216) q1.2 (by omega)
    have h4 : ∀ g∈L,(-268435456≤g.X∧g.X≤268435456)∧-268435456≤g.Y∧g.Y≤268435456:=fun g hg=>by
     have:=Hk2.out.1 g hg
     unfold inZ at this
     omega
    have Hj : Hold (_∧_∧_):=⟨⟨k2,hy,hp⟩⟩
    clear k2 hy hp
    refine roA (a2 ?_ ?_)
    ·intro _ g
     have e : p (gt N i)=true:=by rw [Hj.out.2.2];exact decide_eq_true g
     refine Fin_j () ?_
     conv=>whnf
     exact ⟨by rw [Hj.out.2.1 e];rfl,rfl,trivial,rfl⟩
    ·intro _ g
     have e : p (gt N i)=false:=by rw [Hj.out.2.2];exact decide_eq_false (Int.not_lt.2 g)
     exact rn (i + 1) ⟨by omega,all_next Hj.out.1 e⟩
   ·obtain rfl : i=N.length:=by omega
    have:=any_no (p:=p) k2
    rw [this]
    clear k2 this hp
    exact ru⟩
end Go.Proofs.YtkflmidichikjaaGreatDoor.V
end
