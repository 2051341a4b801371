import Derived.Test.YtkflmidichikjaaGreatDoorZbQ38
import Derived.Test.YtkflmidichikjaaGreatDoorZbQ34
set_option linter.all false
section
namespace Go.Proofs.YtkflmidichikjaaGreatDoor.V
open Go.RowKit
set_option maxRecDepth 100000
open Heading BoxP Drive Seg PlanP Zono Mot
namespace Sound
theorem lin_mid {α β γ n1 d1 n d n2 d2 : Int} (h1 : 0 < d1) (h : 0 < d) (h2 : 0 < d2) (e1 : n1 * d ≤ n * d1) (e2 : n * d2 ≤ n2 * d) (a1 : α * d1 ≤ β * d1 + n1 * γ) (a2 : α * d2 ≤ β * d2 + n2 * γ) : α * d ≤ β * d + n * γ := by
 rcases Int.le_total 0 γ with hg|hg
 ·have f1:=Int.mul_le_mul_of_nonneg_right e1 hg
  have f2:=Int.mul_le_mul_of_nonneg_right a1 (Int.le_of_lt h)
  have f3 : (α * d) * d1≤(β * d + n * γ) * d1:=by grind
  exact Int.le_of_mul_le_mul_right f3 h1
 ·have f1:=Int.mul_le_mul_of_nonpos_right e2 hg
  have f2:=Int.mul_le_mul_of_nonneg_right a2 (Int.le_of_lt h)
  have f3 : (α * d) * d2≤(β * d + n * γ) * d2:=by grind
  exact Int.le_of_mul_le_mul_right f3 h2
def convF (P : Int → Int → Prop) : Prop := ∀ n1 d1 n d n2 d2, 0 < d1 → 0 < d → 0 < d2 → n1 * d ≤ n * d1 → n * d2 ≤ n2 * d → P n1 d1 → P n2 d2 → P n d
theorem median {A B C : Int → Int → Prop} (hA : convF A) (hB : convF B) (hC : convF C) {x dx y dy z dz : Int} (px : 0 < dx) (py : 0 < dy) (pz : 0 < dz) (x1 : A x dx) (x2 : B x dx) (y1 : A y dy) (y2 : C y dy) (z1 : B z dz) (z2 : C z dz) : ∃ n d, 0 < d ∧ A n d ∧ B n d ∧ C n d := by
 rcases Int.le_total (x * dy) (y * dx) with h1|h1
 ·rcases Int.le_total (y * dz) (z * dy) with h2|h2
  ·exact ⟨y,dy,py,y1,hB x dx y dy z dz px py pz h1 h2 x2 z1,y2⟩
  ·rcases Int.le_total (x * dz) (z * dx) with h3|h3
   ·exact ⟨z,dz,pz,hA x dx z dz y dy px pz py h3 h2 x1 y1,z1,z2⟩
   ·exact ⟨x,dx,px,x1,x2,hC z dz x dx y dy pz px py h3 h1 z2 y2⟩
 ·rcases Int.le_total (x * dz) (z * dx) with h2|h2
  ·exact ⟨x,dx,px,x1,x2,hC y dy x dx z dz py px pz h1 h2 y2 z2⟩
  ·rcases Int.le_total (y * dz) (z * dy) with h3|h3
   ·exact ⟨z,dz,pz,hA y dy z dz x dx py pz px h3 h2 y1 x1,z1,z2⟩
   ·exact ⟨y,dy,py,y1,hB z dz y dy x dx pz py px h3 h1 z1 x2,y2⟩
theorem conv01 : convF fun n d => 0 ≤ n ∧ n ≤ d := by
 intro n1 d1 n d n2 d2 h1 h h2 e1 e2 a1 a2
 constructor
 ·have f1:=Int.mul_nonneg a1.1 (Int.le_of_lt h)
  have f2 : 0 * d1≤n * d1:=by omega
  exact Int.le_of_mul_le_mul_right f2 h1
 ·have f1:=Int.mul_le_mul_of_nonneg_right a2.2 (Int.le_of_lt h)
  have f2 : n * d2≤d * d2:=by
   have : d2 * d=d * d2:=Int.mul_comm ..
   omega
  exact Int.le_of_mul_le_mul_right f2 h2
theorem convI (p dX X0 X1 : Int) : convF fun n d => X0 * d ≤ p * d + n * dX ∧ p * d + n * dX ≤ X1 * d := by
 intro n1 d1 n d n2 d2 h1 h h2 e1 e2 a1 a2
 refine ⟨lin_mid h1 h h2 e1 e2 a1.1 a2.1,?_⟩
 have:=lin_mid (α:=-X1) (β:=-p) (γ:=-dX) h1 h h2 e1 e2 (by grind) (by grind)
 grind
theorem axis_hit {p q X0 X1 : Int} (h1 : X0 ≤ X1) (h2 : X0 ≤ max p q) (h3 : min p q ≤ X1) : ∃ n d : Int, 0 < d ∧ (0 ≤ n ∧ n ≤ d) ∧ X0 * d ≤ p * d + n * (q - p) ∧ p * d + n * (q - p) ≤ X1 * d := by
 rcases Int.lt_or_le p X0 with h|h
 ·refine ⟨X0 - p,q - p,by omega,by omega,?_,?_⟩
  ·have : p * (q - p) + (X0 - p) * (q - p)=X0 * (q - p):=by grind
   omega
  ·have : p * (q - p) + (X0 - p) * (q - p)=X0 * (q - p):=by grind
   have:=Int.mul_le_mul_of_nonneg_right h1 (show 0≤q - p by omega)
   omega
 ·rcases Int.lt_or_le X1 p with h'|h'
  ·refine ⟨p - X1,p - q,by omega,by omega,?_,?_⟩
   ·have : p * (p - q) + (p - X1) * (q - p)=X1 * (p - q):=by grind
    have:=Int.mul_le_mul_of_nonneg_right h1 (show 0≤p - q by omega)
    omega
   ·have : p * (p - q) + (p - X1) * (q - p)=X1 * (p - q):=by grind
    omega
  ·exact ⟨0,1,by omega,by omega,by omega,by omega⟩
theorem cross_eq (p q c : Point) : cross p q c = (q.X - p.X) * (c.Y - p.Y) - (q.Y - p.Y) * (c.X - p.X) := by unfold cross; rfl
theorem sgn_le {x : Int} (h : sgn x ≤ 0) : x ≤ 0 := by unfold sgn at h; split at h <;> omega
theorem sgn_ge {x : Int} (h : 0 ≤ sgn x) : 0 ≤ x := by
 unfold sgn at h
 split at h
 ·omega
 ·split at h<;>omega
theorem line_hit {p q : Point} {r : Rect} {c1 c2 : Point} (hd : p.X ≠ q.X ∨ p.Y ≠ q.Y) (h1 : (r.X0 ≤ c1.X ∧ c1.X ≤ r.X1) ∧ (r.Y0 ≤ c1.Y ∧ c1.Y ≤ r.Y1)) (h2 : (r.X0 ≤ c2.X ∧ c2.X ≤ r.X1) ∧ (r.Y0 ≤ c2.Y ∧ c2.Y ≤ r.Y1)) (k1 : cross p q c1 ≤ 0) (k2 : 0 ≤ cross p q c2) :
 ∃ n d : Int,0 < d∧(r.X0 * d≤p.X * d + n * (q.X - p.X)∧p.X * d + n * (q.X - p.X)≤r.X1 * d)∧(r.Y0 * d≤p.Y * d + n * (q.Y - p.Y)∧p.Y * d + n * (q.Y - p.Y)≤r.Y1 * d):=by
 rw [cross_eq] at k1 k2
 obtain ⟨u,hu⟩ : ∃ u,u=q.X - p.X:=⟨_,rfl⟩
 obtain ⟨w,hw⟩ : ∃ w,w=q.Y - p.Y:=⟨_,rfl⟩
 rw [← hu,← hw] at k1 k2 ⊢
 have hl : 0 < u * u + w * w:=by
  have s1 : 0≤u * u:=by
   rcases Int.le_total 0 u with h|h
   ·exact Int.mul_nonneg h h
   ·have:=Int.mul_nonneg (show 0≤-u by omega) (show 0≤-u by omega);rwa [Int.neg_mul_neg] at this
  have s2 : 0≤w * w:=by
   rcases Int.le_total 0 w with h|h
   ·exact Int.mul_nonneg h h
   ·have:=Int.mul_nonneg (show 0≤-w by omega) (show 0≤-w by omega);rwa [Int.neg_mul_neg] at this
  by_cases h0 : u=0
  ·have hw0 : w ≠ 0:=by omega
   have : w * w ≠ 0:=Int.mul_ne_zero hw0 hw0
   omega
  ·have : u * u ≠ 0:=Int.mul_ne_zero h0 h0
   omega
 -- weights
 obtain ⟨a1,a2,ha1,ha2,hpos,hzero⟩ : ∃ a1 a2 : Int,0≤a1∧0≤a2∧0 < a1 + a2∧a2 * (u * (c1.Y - p.Y) - w * (c1.X - p.X)) + a1 * (u * (c2.Y - p.Y) - w * (c2.X - p.X))=0:=by
  by_cases h0 : u * (c1.Y - p.Y) - w * (c1.X - p.X)=0
  ·exact ⟨0,1,by omega,by omega,by omega,by rw [h0];omega⟩
  ·refine ⟨-(u * (c1.Y - p.Y) - w * (c1.X - p.X)),u * (c2.Y - p.Y) - w * (c2.X - p.X),by omega,k2,by omega,?_⟩
   generalize u * (c1.Y - p.Y) - w * (c1.X - p.X)=s
   generalize u * (c2.Y - p.Y) - w * (c2.X - p.X)=t
   grind
 obtain ⟨W,hW⟩ : ∃ W,W=a2 * c1.X + a1 * c2.X:=⟨_,rfl⟩
 obtain ⟨V,hV⟩ : ∃ V,V=a2 * c1.Y + a1 * c2.Y:=⟨_,rfl⟩
 have hz : u * (V - (a1 + a2) * p.Y)=w * (W - (a1 + a2) * p.X):=by rw [hW,hV];grind
 have bX : r.X0 * (a1 + a2)≤W∧W≤r.X1 * (a1 + a2):=by
  have e1:=Int.mul_le_mul_of_nonneg_left h1.1.1 ha2
  have e2:=Int.mul_le_mul_of_nonneg_left h1.1.2 ha2
  have e3:=Int.mul_le_mul_of_nonneg_left h2.1.1 ha1
  have e4:=Int.mul_le_mul_of_nonneg_left h2.1.2 ha1
  rw [hW]
  constructor
  ·clear e2 e4 hz hzero k1 k2 hl;grind
  ·clear e1 e3 hz hzero k1 k2 hl;grind
 have bY : r.Y0 * (a1 + a2)≤V∧V≤r.Y1 * (a1 + a2):=by
  have e1:=Int.mul_le_mul_of_nonneg_left h1.2.1 ha2
  have e2:=Int.mul_le_mul_of_nonneg_left h1.2.2 ha2
  have e3:=Int.mul_le_mul_of_nonneg_left h2.2.1 ha1
  have e4:=Int.mul_le_mul_of_nonneg_left h2.2.2 ha1
  rw [hV]
  constructor
  ·clear e2 e4 hz hzero k1 k2 hl;grind
  ·clear e1 e3 hz hzero k1 k2 hl;grind
 generalize a1 + a2=a at *
 generalize hL : u * u + w * w=L at *
 have x1 : p.X * (a * L) + ((W - a * p.X) * u + (V - a * p.Y) * w) * u=W * L:=by rw [← hL];clear bX bY hzero k1 k2;grind
 have y1 : p.Y * (a * L) + ((W - a * p.X) * u + (V - a * p.Y) * w) * w=V * L:=by rw [← hL];clear bX bY hzero k1 k2;grind
 have m1:=Int.mul_le_mul_of_nonneg_right bX.1 (Int.le_of_lt hl)
 have m2:=Int.mul_le_mul_of_nonneg_right bX.2 (Int.le_of_lt hl)
 have m3:=Int.mul_le_mul_of_nonneg_right bY.1 (Int.le_of_lt hl)
 have m4:=Int.mul_le_mul_of_nonneg_right bY.2 (Int.le_of_lt hl)
 refine ⟨(W - a * p.X) * u + (V - a * p.Y) * w,a * L,Int.mul_pos hpos hl,⟨?_,?_⟩,?_,?_⟩
 ·rw [x1,← Int.mul_assoc];exact m1
 ·rw [x1,← Int.mul_assoc];exact m2
 ·rw [y1,← Int.mul_assoc];exact m3
 ·rw [y1,← Int.mul_assoc];exact m4
theorem meets_pt {p q : Point} {r : Rect} (hr : r.X0 ≤ r.X1 ∧ r.Y0 ≤ r.Y1) (h : meetsR p q r = true) : ∃ n d : Int, 0 < d ∧ (0 ≤ n ∧ n ≤ d) ∧ (r.X0 * d ≤ p.X * d + n * (q.X - p.X) ∧ p.X * d + n * (q.X - p.X) ≤ r.X1 * d) ∧ (r.Y0 * d ≤ p.Y * d + n * (q.Y - p.Y) ∧ p.Y * d + n * (q.Y - p.Y) ≤ r.Y1 * d) := by
 unfold meetsR at h
 split at h
 ·cases h
 rename_i hb
 simp only [Bool.and_eq_true,decide_eq_true_eq] at h
 obtain ⟨s1,s2⟩:=h
 obtain ⟨nx,dx,px,x1,x2⟩:=axis_hit (p:=p.X) (q:=q.X) hr.1 (by omega) (by omega)
 obtain ⟨ny,dy,py,y1,y2⟩:=axis_hit (p:=p.Y) (q:=q.Y) hr.2 (by omega) (by omega)
 by_cases hd : p.X ≠ q.X∨p.Y ≠ q.Y
 ·have lo : ∃ c : Point,((r.X0≤c.X∧c.X≤r.X1)∧(r.Y0≤c.Y∧c.Y≤r.Y1))∧cross p q c≤0:=by
   have : sgn (cross p q ⟨r.X0,r.Y0⟩)≤0∨sgn (cross p q ⟨r.X1,r.Y0⟩)≤0∨sgn (cross p q ⟨r.X0,r.Y1⟩)≤0∨sgn (cross p q ⟨r.X1,r.Y1⟩)≤0:=by omega
   rcases this with h|h|h|h
   ·exact ⟨⟨r.X0,r.Y0⟩,by simp only;omega,sgn_le h⟩
   ·exact ⟨⟨r.X1,r.Y0⟩,by simp only;omega,sgn_le h⟩
   ·exact ⟨⟨r.X0,r.Y1⟩,by simp only;omega,sgn_le h⟩
   ·exact ⟨⟨r.X1,r.Y1⟩,by simp only;omega,sgn_le h⟩
  have hi : ∃ c : Point,((r.X0≤c.X∧c.X≤r.X1)∧(r.Y0≤c.Y∧c.Y≤r.Y1))∧0≤cross p q c:=by
   have : 0≤sgn (cross p q ⟨r.X0,r.Y0⟩)∨0≤sgn (cross p q ⟨r.X1,r.Y0⟩)∨0≤sgn (cross p q ⟨r.X0,r.Y1⟩)∨0≤sgn (cross p q ⟨r.X1,r.Y1⟩):=by omega
   rcases this with h|h|h|h
   ·exact ⟨⟨r.X0,r.Y0⟩,by simp only;omega,sgn_ge h⟩
   ·exact ⟨⟨r.X1,r.Y0⟩,by simp only;omega,sgn_ge h⟩
   ·exact ⟨⟨r.X0,r.Y1⟩,by simp only;omega,sgn_ge h⟩
   ·exact ⟨⟨r.X1,r.Y1⟩,by simp only;omega,sgn_ge h⟩
  obtain ⟨c1,g1,k1⟩:=lo
  obtain ⟨c2,g2,k2⟩:=hi
  obtain ⟨nz,dz,pz,z1,z2⟩:=line_hit hd g1 g2 k1 k2
  obtain ⟨n,d,hd',r1,r2,r3⟩:=median conv01 (convI p.X (q.X - p.X) r.X0 r.X1) (convI p.Y (q.Y - p.Y) r.Y0 r.Y1) px py pz x1 x2 y1 y2 z1 z2
  exact ⟨n,d,hd',r1,r2,r3⟩
 ·refine ⟨0,1,by omega,by omega,?_,?_⟩<;>omega
end Sound
end Go.Proofs.YtkflmidichikjaaGreatDoor.V
end
section
namespace Go.Proofs.YtkflmidichikjaaGreatDoor.V
open Go.RowKit
set_option maxRecDepth 100000
open Heading BoxP Drive Seg PlanP Zono Mot Grow Known
namespace Sound
def nearPt (p q : Point) (r : Rect) (k : Int) : Prop := ∃ n D PX PY : Int, 0 < D ∧ (0 ≤ n ∧ n ≤ D) ∧ ((r.X0 * D ≤ PX ∧ PX ≤ r.X1 * D) ∧ (r.Y0 * D ≤ PY ∧ PY ≤ r.Y1 * D)) ∧ (-(k * D) ≤ PX - (p.X * D + n * (q.X - p.X)) ∧ PX - (p.X * D + n * (q.X - p.X)) ≤ k * D) ∧ (-(k * D) ≤ PY - (p.Y * D + n * (q.Y - p.Y)) ∧ PY - (p.Y * D + n * (q.Y - p.Y)) ≤ k * D)
theorem sq_nn (x : Int) : 0 ≤ x * x := by
 rcases Int.le_total 0 x with h|h
 ·exact Int.mul_nonneg h h
 ·have:=Int.mul_nonneg (show 0≤-x by omega) (show 0≤-x by omega);rwa [Int.neg_mul_neg] at this
theorem gap_near {p : Point} {r : Rect} {k : Int} (hk : 0 ≤ k) (hp : sPoint p = true) (hr : sRect r = true) (h : gap p r ≤ k * k) : ∃ PX PY : Int, ((r.X0 ≤ PX ∧ PX ≤ r.X1) ∧ (r.Y0 ≤ PY ∧ PY ≤ r.Y1)) ∧ (-k ≤ PX - p.X ∧ PX - p.X ≤ k) ∧ (-k ≤ PY - p.Y ∧ PY - p.Y ≤ k) := by
 have hR:=sRect_iff.1 hr
 unfold gap at h
 rw [if_pos ⟨hp,hr⟩] at h
 have n1:=sq_nn (beside p.X r.X0 r.X1)
 have n2:=sq_nn (beside p.Y r.Y0 r.Y1)
 have b1:=sq_le hk (show beside p.X r.X0 r.X1 * beside p.X r.X0 r.X1≤k * k by omega)
 have b2:=sq_le hk (show beside p.Y r.Y0 r.Y1 * beside p.Y r.Y0 r.Y1≤k * k by omega)
 unfold beside at b1 b2
 refine ⟨max r.X0 (min p.X r.X1),max r.Y0 (min p.Y r.Y1),?_,?_,?_⟩<;>omega
theorem within_near {c p q : Point} {r : Rect} {k : Int} (hk : 0 ≤ k) (hc : (r.X0 ≤ c.X ∧ c.X ≤ r.X1) ∧ (r.Y0 ≤ c.Y ∧ c.Y ≤ r.Y1)) (h : withinS c p q k = true) : nearPt p q r k := by
 have far2 : ∀ a b : Point,sq2 a b≤k * k→(-k≤a.X - b.X∧a.X - b.X≤k)∧(-k≤a.Y - b.Y∧a.Y - b.Y≤k):=by
  intro a b h
  unfold sq2 at h
  have n1:=sq_nn (a.X - b.X)
  have n2:=sq_nn (a.Y - b.Y)
  exact ⟨sq_le hk (by omega),sq_le hk (by omega)⟩
 unfold withinS at h
 split at h
 ·have:=far2 _ _ (of_decide_eq_true h)
  exact ⟨0,1,c.X,c.Y,by omega,by omega,by omega,by omega,by omega⟩
 rename_i g1
 split at h
 ·have:=far2 _ _ (of_decide_eq_true h)
  exact ⟨1,1,c.X,c.Y,by omega,by omega,by omega,by omega,by omega⟩
 rename_i g2
 split at h
 ·cases h
 have h3:=of_decide_eq_true h
 have hlen : lenF p q=(q.X - p.X) * (q.X - p.X) + (q.Y - p.Y) * (q.Y - p.Y):=by unfold lenF;rfl
 have hdot : dotF c p q=(c.X - p.X) * (q.X - p.X) + (c.Y - p.Y) * (q.Y - p.Y):=by unfold dotF;rfl
 have hcr:=cross_eq p q c
 obtain ⟨u,hu⟩ : ∃ u,u=q.X - p.X:=⟨_,rfl⟩
 obtain ⟨w,hw⟩ : ∃ w,w=q.Y - p.Y:=⟨_,rfl⟩
 rw [← hu,← hw] at hlen hdot hcr
 generalize hL : lenF p q=L at *
 generalize hDt : dotF c p q=T at *
 generalize hC : cross p q c=K at *
 have hLp : 0 < L:=by omega
 have nu:=sq_nn u
 have nw:=sq_nn w
 have nK:=sq_nn K
 have e1 : c.X * L - (p.X * L + T * u) = -(w * K):=by rw [hlen,hdot,hcr];clear h3 hlen hdot hcr;grind
 have e2 : c.Y * L - (p.Y * L + T * w)=u * K:=by rw [hlen,hdot,hcr];clear h3 hlen hdot hcr;grind
 have big : ∀ x : Int,0≤x * x→x * x≤L→-(k * L)≤x * K∧x * K≤k * L:=by
  intro x h0 hx
  refine sq_le (Int.mul_nonneg hk (by omega)) ?_
  have f1:=Int.mul_le_mul_of_nonneg_right hx nK
  have f2:=Int.mul_le_mul_of_nonneg_left h3 (show 0≤L by omega)
  have f3 : (x * K) * (x * K)=(x * x) * (K * K):=by grind
  have f4 : (k * L) * (k * L)=L * (k * k * L):=by grind
  rw [f3,f4]
  exact Int.le_trans f1 f2
 have b1:=big w nw (by omega)
 have b2:=big u nu (by omega)
 have m1:=Int.mul_le_mul_of_nonneg_right hc.1.1 (Int.le_of_lt hLp)
 have m2:=Int.mul_le_mul_of_nonneg_right hc.1.2 (Int.le_of_lt hLp)
 have m3:=Int.mul_le_mul_of_nonneg_right hc.2.1 (Int.le_of_lt hLp)
 have m4:=Int.mul_le_mul_of_nonneg_right hc.2.2 (Int.le_of_lt hLp)
 refine ⟨T,L,c.X * L,c.Y * L,hLp,by omega,⟨⟨m1,m2⟩,m3,m4⟩,?_,?_⟩
 ·rw [← hu,e1];omega
 ·rw [← hw,e2];exact b2
theorem touch_pt {p q : Point} {r : Rect} {k : Int} (h : touch p q r k = true) : nearPt p q r k := by
 unfold touch at h
 split at h
 ·cases h
 rename_i g
 simp only [not_or,Bool.not_eq_false] at g
 obtain ⟨g1,g2,g3,g4,g5⟩:=g
 have hR:=sRect_iff.1 g3
 split at h
 ·cases h
 split at h
 ·rename_i h3
  rcases h3 with h3|h3|h3
  ·obtain ⟨n,d,hd,hn,hx,hy⟩:=meets_pt (by omega) h3
   have hkd : 0≤k * d:=Int.mul_nonneg (by omega) (by omega)
   exact ⟨n,d,_,_,hd,hn,⟨hx,hy⟩,by omega,by omega⟩
  ·obtain ⟨PX,PY,a1,a2,a3⟩:=gap_near (by omega) g1 g3 h3
   exact ⟨0,1,PX,PY,by omega,by omega,by omega,by omega,by omega⟩
  ·obtain ⟨PX,PY,a1,a2,a3⟩:=gap_near (by omega) g2 g3 h3
   exact ⟨1,1,PX,PY,by omega,by omega,by omega,by omega,by omega⟩
 ·simp only [Bool.or_eq_true] at h
  rcases h with ((h|h)|h)|h
  ·exact within_near (by omega) (by simp only;omega) h
  ·exact within_near (by omega) (by simp only;omega) h
  ·exact within_near (by omega) (by simp only;omega) h
  ·exact within_near (by omega) (by simp only;omega) h
theorem round_two {x d ν m : Int} (hd : 0 < d) (hν : 0 ≤ ν) (hm : ν ≤ m) : -m ≤ ν * x / d * m - ν * (m * x / d) ∧ ν * x / d * m - ν * (m * x / d) ≤ m := by
 have a1 : ν * x / d * d≤ν * x:=Int.ediv_mul_le _ (by omega)
 have a2 : ν * x < (ν * x / d + 1) * d:=Int.lt_ediv_add_one_mul_self _ hd
 have b1 : m * x / d * d≤m * x:=Int.ediv_mul_le _ (by omega)
 have b2 : m * x < (m * x / d + 1) * d:=Int.lt_ediv_add_one_mul_self _ hd
 generalize ν * x / d=A at *
 generalize m * x / d=W at *
 have c1:=Int.mul_le_mul_of_nonneg_right a1 (show 0≤m by omega)
 have c2:=Int.mul_le_mul_of_nonneg_right (Int.le_of_lt a2) (show 0≤m by omega)
 have c3:=Int.mul_le_mul_of_nonneg_left b1 hν
 have c4:=Int.mul_le_mul_of_nonneg_left (Int.le_of_lt b2) hν
 constructor
 ·have : (-m) * d≤(A * m - ν * W) * d:=by clear c1 c4 a1 a2 b1 b2;grind
  exact Int.le_of_mul_le_mul_right this hd
 ·have h1 : (A * m - ν * W) * d≤ν * d:=by clear c2 c3 a1 a2 b1 b2;grind
  have:=Int.le_of_mul_le_mul_right h1 hd
  omega
theorem way_off {P D n A e W ν m k Q sl : Int} (hD : 0 < D) (hn : 0 ≤ n ∧ n ≤ D) (hm : 0 < m) (hr : -m ≤ A * m - ν * W ∧ A * m - ν * W ≤ m) (he : -sl ≤ e ∧ e ≤ sl) (hs : 0 ≤ sl) (hQ : -(k * D) ≤ Q - (P * D + n * (A + e)) ∧ Q - (P * D + n * (A + e)) ≤ k * D) :
 -((sl + (k + 1)) * (D * m))≤Q * m - (P * (D * m) + n * ν * W)∧Q * m - (P * (D * m) + n * ν * W)≤(sl + (k + 1)) * (D * m):=by
 have q1:=Int.mul_le_mul_of_nonneg_right hQ.1 (Int.le_of_lt hm)
 have q2:=Int.mul_le_mul_of_nonneg_right hQ.2 (Int.le_of_lt hm)
 have r1:=Int.mul_le_mul_of_nonneg_left hr.1 hn.1
 have r2:=Int.mul_le_mul_of_nonneg_left hr.2 hn.1
 have s0 : 0≤n * m:=Int.mul_nonneg hn.1 (by omega)
 have s1:=Int.mul_le_mul_of_nonneg_left he.1 s0
 have s2:=Int.mul_le_mul_of_nonneg_left he.2 s0
 have t1 : n * m≤D * m:=Int.mul_le_mul_of_nonneg_right hn.2 (by omega)
 have t2 : n * m * sl≤D * m * sl:=Int.mul_le_mul_of_nonneg_right t1 hs
 constructor
 ·clear q2 r2 s2 hQ hr;grind
 ·clear q1 r1 s1 hQ hr;grind
end Sound
end Go.Proofs.YtkflmidichikjaaGreatDoor.V
end
section
namespace Go.Proofs.YtkflmidichikjaaGreatDoor.V
open Go.RowKit
set_option maxRecDepth 100000
open Heading BoxP Drive Seg PlanP Zono Mot Grow Known
namespace Sound
theorem hb_base {r : Rect} {D PX PY : Int} (hD : 0 < D) (hx : r.X0 * D ≤ PX ∧ PX ≤ r.X1 * D) (hy : r.Y0 * D ≤ PY ∧ PY ≤ r.Y1 * D) (hr : r.X0 ≤ r.X1 ∧ r.Y0 ≤ r.Y1) : hb (r.X0 + r.X1) (r.Y0 + r.Y1) (baseZ r) D PX PY := by
 unfold baseZ
 exact hb_canon (hb_rect hD hx hy hr)
theorem hb_square {h D PX PY : Int} (hD : 0 < D) (h0 : 0 ≤ h) (hx : -(h * D) ≤ PX ∧ PX ≤ h * D) (hy : -(h * D) ≤ PY ∧ PY ≤ h * D) : hb (0 - h + h) (0 - h + h) (sqZ h) D PX PY := by
 unfold sqZ
 refine hb_canon (hb_rect (r:=⟨0 - h,0 - h,h,h⟩) hD ?_ ?_ (by simp only;omega))
 ·simp only
  rw [Int.sub_mul,Int.zero_mul]
  omega
 ·simp only
  rw [Int.sub_mul,Int.zero_mul]
  omega
theorem hb_wayZ {h m D n : Int} (hn : 0 ≤ n ∧ n ≤ D) : hb (0 + m * (dir h).X / (dir h).D) (0 + m * (dir h).Y / (dir h).D) (wayZ h m) D (n * (m * (dir h).X / (dir h).D)) (n * (m * (dir h).Y / (dir h).D)) := by
 unfold wayZ
 rw [Int.sub_zero,Int.sub_zero,Int.zero_add,Int.zero_add]
 exact hb_canon (hb_way hn)
theorem wall_of {p : Plan} {c : Cell} (hv : vPlan p = true) (h : openC p c = false) : at_ p c = 2 := by
 unfold at_
 rw [if_pos hv]
 split
 ·rename_i hin
  unfold insideP at hin
  unfold openC at h
  rw [hin] at h
  simpa using h
 ·rfl
theorem free_way {p p0 : Plan} {r : Rect} {h : Int} {c : Command} {bd : Bounds} {e : Slip} {a : Point} (hp : vPlan p = true) (hb' : Below p p0) (hu : unhP p r h c bd = true) (ha : inR r a.X a.Y) (hF : 0 < c.Forward) (he : fits bd e)
 {x : Cell} (hn : nearPt a ⟨a.X + ((aheadP h (c.Forward + e.Length)).X + e.X),a.Y + ((aheadP h (c.Forward + e.Length)).Y + e.Y)⟩ (sqC x) 20) : at_ p0 x=1:=by
 obtain ⟨n,D,PX,PY,hD,hnD,⟨hx,hy⟩,nx,ny⟩:=hn
 unfold unhP at hu
 simp only [Bool.and_eq_true,decide_eq_true_eq,Bool.not_eq_true'] at hu
 obtain ⟨u1,u2,u3⟩:=hu
 obtain ⟨⟨-,k1,k2⟩,⟨k3,k4⟩,k5⟩:=ok_iff.1 u1
 have hB:=vBounds_iff.1 k4
 have hd:=dir_bnd h
 obtain ⟨e1,e2,e3,e4⟩:=he
 simp only at nx ny
 obtain ⟨m,hm⟩ : ∃ m,m=c.Forward + bd.Length:=⟨_,rfl⟩
 obtain ⟨ν,hν⟩ : ∃ ν,ν=max 0 (c.Forward + e.Length):=⟨_,rfl⟩
 have hAX : (aheadP h (c.Forward + e.Length)).X=ν * (dir h).X / (dir h).D:=by rw [hν];unfold aheadP;rfl
 have hAY : (aheadP h (c.Forward + e.Length)).Y=ν * (dir h).Y / (dir h).D:=by rw [hν];unfold aheadP;rfl
 rw [hAX] at nx
 rw [hAY] at ny
 have rx:=round_two (x:=(dir h).X) (d:=(dir h).D) (ν:=ν) (m:=m) (by omega) (by omega) (by omega)
 have ry:=round_two (x:=(dir h).Y) (d:=(dir h).D) (ν:=ν) (m:=m) (by omega) (by omega) (by omega)
 have ox:=way_off (P:=a.X) (D:=D) (n:=n) (A:=ν * (dir h).X / (dir h).D) (e:=e.X) (W:=m * (dir h).X / (dir h).D) (ν:=ν) (m:=m) (k:=20) (Q:=PX) (sl:=bd.Slip) hD hnD (by omega) rx e3 (by omega) (by
  have : a.X + (ν * (dir h).X / (dir h).D + e.X) - a.X=ν * (dir h).X / (dir h).D + e.X:=by omega
  rw [this] at nx
  exact nx)
 have oy:=way_off (P:=a.Y) (D:=D) (n:=n) (A:=ν * (dir h).Y / (dir h).D) (e:=e.Y) (W:=m * (dir h).Y / (dir h).D) (ν:=ν) (m:=m) (k:=20) (Q:=PY) (sl:=bd.Slip) hD hnD (by omega) ry e4 (by omega) (by
  have : a.Y + (ν * (dir h).Y / (dir h).D + e.Y) - a.Y=ν * (dir h).Y / (dir h).D + e.Y:=by omega
  rw [this] at ny
  exact ny)
 have hE : 0 < D * m:=Int.mul_pos hD (by omega)
 have hnν : 0≤n * ν∧n * ν≤D * m:=⟨Int.mul_nonneg hnD.1 (by omega),Int.le_trans (Int.mul_le_mul_of_nonneg_right hnD.2 (by omega)) (Int.mul_le_mul_of_nonneg_left (by omega) (by omega))⟩
 have hax:=Int.mul_le_mul_of_nonneg_right ha.1.1 (Int.le_of_lt hE)
 have hax':=Int.mul_le_mul_of_nonneg_right ha.1.2 (Int.le_of_lt hE)
 have hay:=Int.mul_le_mul_of_nonneg_right ha.2.1 (Int.le_of_lt hE)
 have hay':=Int.mul_le_mul_of_nonneg_right ha.2.2 (Int.le_of_lt hE)
 have z1:=hb_base (r:=r) (D:=D * m) (PX:=a.X * (D * m)) (PY:=a.Y * (D * m)) hE ⟨hax,hax'⟩ ⟨hay,hay'⟩ (by omega)
 have z2:=hb_wayZ (h:=h) (m:=m) (D:=D * m) (n:=n * ν) hnν
 have z3:=hb_square (h:=bd.Slip + 21) (D:=D * m) (PX:=PX * m - (a.X * (D * m) + n * ν * (m * (dir h).X / (dir h).D))) (PY:=PY * m - (a.Y * (D * m) + n * ν * (m * (dir h).Y / (dir h).D))) hE (by omega) ox oy
 have z:=hb_canon (hb_add (hb_canon (hb_add z1 z2)) z3)
 rw [show a.X * (D * m) + n * ν * (m * (dir h).X / (dir h).D) + (PX * m - (a.X * (D * m) + n * ν * (m * (dir h).X / (dir h).D)))=PX * m by omega,show a.Y * (D * m) + n * ν * (m * (dir h).Y / (dir h).D) + (PY * m - (a.Y * (D * m) + n * ν * (m * (dir h).Y / (dir h).D)))=PY * m by omega] at z
 have hsw : sweepZ r h c bd=(r.X0 + r.X1 + (0 + m * (dir h).X / (dir h).D) + (0 - (bd.Slip + 21) + (bd.Slip + 21)),r.Y0 + r.Y1 + (0 + m * (dir h).Y / (dir h).D) + (0 - (bd.Slip + 21) + (bd.Slip + 21)),canonZ (canonZ (baseZ r ++ wayZ h m) ++ sqZ (bd.Slip + 21))):=by
  unfold sweepZ
  rw [if_neg (by omega),hm]
 rw [hsw] at u2 u3
 simp only at u2 u3
 rw [sqC_eq] at hx hy
 simp only at hx hy
 have mx1:=Int.mul_le_mul_of_nonneg_right hx.1 (show 0≤m by omega)
 have mx2:=Int.mul_le_mul_of_nonneg_right hx.2 (show 0≤m by omega)
 have my1:=Int.mul_le_mul_of_nonneg_right hy.1 (show 0≤m by omega)
 have my2:=Int.mul_le_mul_of_nonneg_right hy.2 (show 0≤m by omega)
 have hmem:=touched_mem hE z (c:=x) (by rw [← Int.mul_assoc,← Int.mul_assoc];exact ⟨mx1,mx2⟩) (by rw [← Int.mul_assoc,← Int.mul_assoc];exact ⟨my1,my2⟩) u2
 have hfree : at_ p x=1:=by
  have:=List.any_eq_false.1 u3 x hmem
  simpa using this
 exact at_below hp hb' hfree (by omega)
theorem safe_free {p p0 : Plan} {S : List Box} {b : Box} {P : Pose} {c : Command} {bd : Bounds} {e : Slip} (hp : vPlan p = true) (hb' : Below p p0) (hv0 : vPlan p0 = true) (hk : ¬ cntP p0 0 > 0) (hs : safeP p S c bd = (true, 0)) (hb : b ∈ S) (hvb : vBox b = true) (hi : inB b P) (hst : stands p0 P) (hc : vCmd c = true) (hbd : vBounds bd = true) (he : fits bd e) (hF : 0 < c.Forward) :
 blockedD p0 ⟨P.X,P.Y⟩ ⟨(movedP P c e).X,(movedP P c e).Y⟩ = false:=by
 obtain ⟨w1,w2,_,_⟩:=vPlan_iff.1 hv0
 obtain ⟨-,nx,ny⟩:=next_eq hv0 hst hc hbd he
 have hB:=vBounds_iff.1 hbd
 -- the box's headings
 unfold safeP at hs
 rw [if_neg (by
  intro h
  rcases h with h|h|h|h
  ·rw [hp] at h;cases h
  ·rw [if_pos (.inr (.inl h))] at hs;cases hs
  ·rw [hc] at h;cases h
  ·rw [hbd] at h;cases h),if_neg (by omega)] at hs
 have hs1 : (S.any (badB p c bd))=false:=by
  have:=congrArg Prod.fst hs
  simpa using this
 have hbad : badB p c bd b=false:=by simpa using List.any_eq_false.1 hs1 b hb
 have hh:=turned_in (c:=c) (e:=e) hvb hbd he hi
 unfold Pred.turnedA at hh
 have hmem : (P.H + c.Turn + e.Turn) % 256∈hdsP c bd b:=by
  unfold hdsP
  exact list_mem hh.2 hh.1 (by omega)
 have hun : unhP p (rectangle b) ((P.H + c.Turn + e.Turn) % 256) c bd=true:=by
  unfold badB at hbad
  simpa using List.any_eq_false.1 hbad _ hmem
 have hrect : rectangle b = ⟨b.X0,b.Y0,b.X1,b.Y1⟩:=by unfold rectangle;rw [if_pos hvb]
 rw [hrect] at hun
 have hPx : movedP P c e = ⟨P.X + ((aheadP ((P.H + c.Turn + e.Turn) % 256) (c.Forward + e.Length)).X + e.X),P.Y + ((aheadP ((P.H + c.Turn + e.Turn) % 256) (c.Forward + e.Length)).Y + e.Y),(P.H + c.Turn + e.Turn) % 256⟩:=by
  unfold movedP
  rw [if_neg (by omega),if_neg (by omega)]
 have hs2:=hst.1
 unfold blockedD
 rw [if_neg (by
  intro h
  rcases h with h|h|h|h
  ·rw [hv0] at h;cases h
  ·exact hk h
  ·rw [vPoint_iff.2 (by simp only;omega)] at h;cases h
  ·rw [vPoint_iff.2 (by simp only;omega)] at h;cases h),if_neg (by
  intro h
  rcases h with h|h
  ·rw [Drive.within_iff.2 (by simp only;omega)] at h;cases h
  ·rw [Drive.within_iff.2 (by simp only;omega)] at h;cases h)]
 cases hg : gridL (hitB p0 ⟨P.X,P.Y⟩ ⟨(movedP P c e).X,(movedP P c e).Y⟩) (blX P.X (movedP P c e).X) (blX P.Y (movedP P c e).Y) with
 | nil=>rfl
 | cons x l =>
   exfalso
   have hx : x∈gridL (hitB p0 ⟨P.X,P.Y⟩ ⟨(movedP P c e).X,(movedP P c e).Y⟩) (blX P.X (movedP P c e).X) (blX P.Y (movedP P c e).Y):=by rw [hg];simp
   obtain ⟨h1,-,-⟩:=mem_gridL.1 hx
   unfold hitB at h1
   simp only [Bool.and_eq_true,Bool.not_eq_true'] at h1
   have hw:=wall_of hv0 h1.1
   have hsb : sqB x=sqC x:=by
    rw [sqC_eq]
    unfold sqB
    rw [Int.add_mul,Int.add_mul,Int.one_mul]
   have ht:=touch_pt h1.2
   rw [hsb,hPx] at ht
   have:=free_way (a:=⟨P.X,P.Y⟩) hp hb' hun ⟨hi.1,hi.2.1⟩ hF he ht
   omega
end Sound
end Go.Proofs.YtkflmidichikjaaGreatDoor.V
end
section
namespace Go.Proofs.YtkflmidichikjaaGreatDoor.V
open Go.RowKit
set_option maxRecDepth 100000
open Heading BoxP Drive Seg PlanP Zono Mot Grow Known Mon Sys Loc RobotP
namespace Sound
def okF (f : Int) : Prop := f = 0 ∨ f = 1 ∨ f = 8 ∨ f = 9
theorem okF_and {f : Int} (h : okF f) : bits .and .i64 f 6 = 0 := by
 rcases h with rfl|rfl|rfl|rfl<;>decide +kernel
theorem okF_or1 {f : Int} (h : okF f) : okF (orN f 1) := by
 unfold okF orN
 rcases h with rfl|rfl|rfl|rfl<;>decide +kernel
theorem okF_or8 {f : Int} (h : okF f) : okF (orN f 8) := by
 unfold okF orN
 rcases h with rfl|rfl|rfl|rfl<;>decide +kernel
theorem obs_ok {m : Mon.St} {a d e : Bool} (h : okF m.faults) : okF (obs m a false false d e).faults := by
 unfold obs late
 simp only [cond_false]
 have h0 : okF (bif e then 0 else m.faults):=by
  cases e
  ·exact h
  ·exact .inl rfl
 have h1 : okF (bif a then orN (bif e then 0 else m.faults) 1 else (bif e then 0 else m.faults)):=by
  cases a
  ·exact h0
  ·exact okF_or1 h0
 generalize (bif a then orN (bif e then 0 else m.faults) 1 else (bif e then 0 else m.faults))=f at *
 cases decide ((bif d then 0 else min (m.age + 1) 1073741824) > m.limit)
 ·exact h1
 ·exact okF_or8 h1
theorem clear_tick {bd : Bounds} {k : Int} {S : SS} {i : Inp} (h : TrueI bd k S) (hbd : S.bd = bd) (hb : S.bumped = false) (hf : okF S.mon.faults) :
 bumpG S i (cmdT S i)=false∧okF (monT S i).faults∧(cmdT S i=i.want∨cmdT S i = ⟨0,0⟩)∧(cmdT S i ≠ ⟨0,0⟩→(safeP S.ft.p S.ft.set i.want bd).1=true∧(monT S i).faults=0)∧(tickT S i).bd=bd∧(tickT S i).bumped=false∧okF (tickT S i).mon.faults:=by
 have hm : okF (monT S i).faults:=by
  unfold monT
  rw [h.h6,hb]
  exact obs_ok hf
 have hsafe : safeT S i=(safeP S.ft.p S.ft.set i.want bd).1:=by
  unfold safeT
  rw [if_neg (by simp [h.h6]),hbd]
 have hcmd : (cmdT S i=i.want∧(monT S i).faults=0∧safeT S i=true∧vCmd i.want=true)∨cmdT S i = ⟨0,0⟩:=by
  unfold cmdT gate
  split
  ·rename_i hg
   exact .inl ⟨rfl,hg⟩
  ·exact .inr rfl
 have hbump : bumpG S i (cmdT S i)=false:=by
  unfold bumpG stepB
  have hc : vCmd (cmdT S i)=true:=gate_ok
  have he : fits bd (clip S.rob.b i.slip).1:=by rw [h.h2];exact clip_fits h.h4
  obtain ⟨hn,-,-⟩:=next_eq (c:=cmdT S i) h.h0.1 h.h5 hc h.h4 he
  unfold stepD
  rw [if_neg (by simp [h.h0.1]),if_neg h.h1,hn]
  simp only
  rw [if_neg (by simp)]
  by_cases h0 : 0 < (cmdT S i).Forward
  ·rcases hcmd with ⟨c1,c2,c3,c4⟩|c1
   ·have hs1 : (safeP S.ft.p S.ft.set (cmdT S i) bd).1=true:=by rw [c1,← hsafe];exact c3
    have hs2 : safeP S.ft.p S.ft.set (cmdT S i) bd=(true,0):=by
     unfold safeP at hs1 ⊢
     split at hs1
     ·cases hs1
     ·rename_i g
      rw [if_neg g]
      split at hs1
      ·rename_i g2
       rw [if_pos g2]
      ·rename_i g2
       rw [if_neg g2]
       simp only at hs1
       rw [hs1]
    obtain ⟨b,hb',hi⟩:=h.h12
    have:=safe_free h.h7 h.h8 h.h0.1 h.h1 hs2 hb' (h.h11 b hb').1 hi h.h5 hc h.h4 he h0
    rw [if_neg (by rw [this];simp)]
   ·rw [c1] at h0
    simp at h0
  ·rw [if_neg (by omega)]
 refine ⟨hbump,hm,hcmd.imp (·.1) id,fun hne=>?_,hbd,hbump,hm⟩
 rcases hcmd with ⟨c1,c2,c3,c4⟩|c1
 ·rw [hsafe] at c3
  exact ⟨c3,c2⟩
 ·exact (hne c1).elim
end Sound
end Go.Proofs.YtkflmidichikjaaGreatDoor.V
end
section
namespace Go.Proofs.YtkflmidichikjaaGreatDoor.V
open Go.RowKit
set_option maxRecDepth 100000
open Heading BoxP Drive Seg PlanP Grow Known Mon Sys Loc RobotP
namespace Hon
structure Sc where
 (plan : Plan) (at_ : Pose) (veil : List Int) (bd : Bounds) (marks : List Int) (every late : Int) (w0 w1 w2 w3 w4 w5 : Int)
def w8 (n : Nat) : Int := IntKind.i64.wrap (8 * (n : Int))
def veilB (V : List Int) (i : Nat) : Bool := decide ((i : Int) < w8 V.length) && (bits .and .u8 ((gt V (i / 8)).fdiv (2 ^ (i % 8))) 1 != 0)
def veilL (X V : List Int) : List Int := (List.range X.length).map fun i => if veilB V i then 0 else gt X i
def veilTo (X V : List Int) (i : Nat) : List Int := (List.range X.length).map fun j => if decide (j < i) && veilB V j then 0 else gt X j
theorem w8_lt {i n : Nat} (h : (i : Int) < w8 n) : i / 8 < n := by
 unfold w8 IntKind.wrap at h
 simp [IntKind.bits,IntKind.signed] at h
 omega
theorem veilTo_len {X V : List Int} {i : Nat} : (veilTo X V i).length = X.length := by unfold veilTo; simp
theorem veilTo_gt {X V : List Int} {i j : Nat} (hj : j < X.length) : (veilTo X V i)[j]? = some (if decide (j < i) && veilB V j then 0 else gt X j) := by
 unfold veilTo
 simp [hj]
theorem gt_at {X : List Int} {j : Nat} (hj : j < X.length) : X[j]? = some (gt X j) := by
 simp [gt,List.getD_eq_getElem?_getD,List.getElem?_eq_getElem hj]
theorem veilTo_0 {X V : List Int} : veilTo X V 0 = X := by
 refine List.ext_getElem? fun j=>?_
 by_cases hj : j < X.length
 ·rw [veilTo_gt hj,gt_at hj];simp
 ·rw [List.getElem?_eq_none (by rw [veilTo_len];omega),List.getElem?_eq_none (by omega)]
theorem veilTo_y {X V : List Int} {i : Nat} (hi : i < X.length) (h : veilB V i = true) : (veilTo X V i).set i 0 = veilTo X V (i + 1) := by
 refine List.ext_getElem? fun j=>?_
 by_cases hj : j < X.length
 ·rw [veilTo_gt hj,List.getElem?_set]
  by_cases e : i=j
  ·subst e
   simp [veilTo_len,hi,h]
  ·rw [if_neg e,veilTo_gt hj]
   have : decide (j < i + 1)=decide (j < i):=by rw [decide_eq_decide];omega
   rw [this]
 ·rw [List.getElem?_eq_none (by rw [List.length_set,veilTo_len];omega),List.getElem?_eq_none (by rw [veilTo_len];omega)]
theorem veilTo_n {X V : List Int} {i : Nat} (h : veilB V i = false) : veilTo X V (i + 1) = veilTo X V i := by
 refine List.ext_getElem? fun j=>?_
 by_cases hj : j < X.length
 ·rw [veilTo_gt hj,veilTo_gt hj]
  by_cases e : i=j
  ·subst e
   simp [h]
  ·have : decide (j < i + 1)=decide (j < i):=by rw [decide_eq_decide];omega
   rw [this]
 ·rw [List.getElem?_eq_none (by rw [veilTo_len];omega),List.getElem?_eq_none (by rw [veilTo_len];omega)]
theorem veilTo_end {X V : List Int} {i : Nat} (h : X.length ≤ i ∨ w8 V.length ≤ i) : veilTo X V i = veilL X V := by
 refine List.ext_getElem? fun j=>?_
 by_cases hj : j < X.length
 ·rw [veilTo_gt hj]
  unfold veilL
  simp only [List.getElem?_map,List.getElem?_range hj,Option.map_some]
  by_cases hb : veilB V j=true
  ·have hl : (j : Int) < w8 V.length:=by
    unfold veilB at hb
    simp only [Bool.and_eq_true,decide_eq_true_eq] at hb
    exact hb.1
   have : j < i:=by omega
   simp [this,hb]
  ·simp [hb]
 ·rw [List.getElem?_eq_none (by rw [veilTo_len];omega),List.getElem?_eq_none (by unfold veilL;simp;omega)]
def startH (x : Sc) : Pose := ⟨max 0 (min x.at_.X 4096), max 0 (min x.at_.Y 4096), x.at_.H % 256⟩
def boxH (x : Sc) : Box := ⟨(startH x).X - x.w0 % 40, (startH x).Y - x.w1 % 40, (startH x).X + x.w2 % 40, (startH x).Y + x.w3 % 40, ((startH x).H - x.w5 % (1 + x.w4 % 4)) % 256, 1 + x.w4 % 4⟩
def honS (x : Sc) : Setup := ⟨x.plan, ⟨x.plan.W, x.plan.H, veilL x.plan.cells x.veil⟩, x.bd, startH x, [boxH x], x.marks.map (· % 256), 1 + x.every % 3, 1 + x.late % 6⟩
theorem veil_gt {X V : List Int} (i : Nat) : gt (veilL X V) i = 0 ∨ gt (veilL X V) i = gt X i := by
 unfold veilL
 by_cases h : i < X.length
 ·simp only [gt,List.getD_eq_getElem?_getD,List.getElem?_map,List.getElem?_range h,Option.map_some,Option.getD_some]
  split
  ·exact .inl rfl
  ·exact .inr rfl
 ·left
  have h2 : (List.range X.length)[i]? = none:=List.getElem?_eq_none (by rw [List.length_range];omega)
  simp [gt,h2]
theorem veil_len {X V : List Int} : (veilL X V).length = X.length := by unfold veilL; simp
theorem veil_below {p : Plan} {V : List Int} (hg : goodC p.cells) : Below ⟨p.W, p.H, veilL p.cells V⟩ p ∧ goodC (veilL p.cells V) := by
 refine ⟨⟨rfl,rfl,veil_len.symm,hg,fun i hi h0=>?_⟩,fun i hi=>?_⟩
 ·rcases veil_gt (X:=p.cells) (V:=V) i with h|h
  ·exact (h0 h).elim
  ·exact h.symm
 ·rw [veil_len] at hi
  rcases veil_gt (X:=p.cells) (V:=V) i with h|h
  ·rw [h];omega
  ·rw [h];exact hg i hi
end Hon
open Hon Sound
theorem hon_init {x : Sc} (h : errN (honS x) = 0) (hX : ∀ c ∈ x.plan.cells, 0 ≤ c ∧ c ≤ 255) (hw : (0 ≤ x.w0 ∧ 0 ≤ x.w1 ∧ 0 ≤ x.w2 ∧ 0 ≤ x.w3) ∧ 0 ≤ x.w4 ∧ 0 ≤ x.w5) : TrueI x.bd 5000 (new0 (honS x)) ∧ (new0 (honS x)).bd = x.bd ∧ (new0 (honS x)).bumped = false ∧ okF (new0 (honS x)).mon.faults := by
 have hr : rnew x.plan x.bd (startH x)=0:=by
  unfold errN at h
  split at h
  ·rename_i h0;exact absurd h h0
  ·rename_i h0
   have h1 : rnew (honS x).floor (honS x).bd (honS x).start=0:=by simpa using h0
   exact h1
 have hcs : checkS (honS x)=0:=by
  unfold errN at h
  rwa [if_neg (by
   intro hh
   exact hh hr)] at h
 obtain ⟨c1,c2,c3,c4,c5,c6,c7,c8,c9,c10,c11,c12⟩:=check_0 hcs
 obtain ⟨r1,r2,r3,r4,r5,r6,r7⟩:=rnew_0 hr
 have hv:=FloorP.checkF_0 r1
 have hg : goodC x.plan.cells:=good_of hv fun c hc=>(hX c hc).1
 obtain ⟨b1,b2⟩:=veil_below (p:=x.plan) (V:=x.veil) hg
 have hvb : vBox (boxH x)=true:=by
  have : vSetL [boxH x]=true:=c7
  unfold vSetL at this
  simpa using this
 refine ⟨init_true h hX b1 b2 (fun b hb=>?_) ⟨boxH x,List.mem_singleton.2 rfl,?_⟩ (by decide),rfl,rfl,.inl rfl⟩
 ·obtain rfl:=List.mem_singleton.1 hb
  refine ⟨hvb,?_,?_⟩
  ·unfold boxH startH;simp only;omega
  ·unfold boxH startH;simp only;omega
 ·show inB (boxH x) (startH x)
  unfold inB boxH startH
  simp only
  have hc : 0 < 1 + x.w4 % 4:=by omega
  have hm:=Int.emod_nonneg x.w5 (show 1 + x.w4 % 4 ≠ 0 by omega)
  have hm2:=Int.emod_lt_of_pos x.w5 hc
  generalize x.w5 % (1 + x.w4 % 4)=m at *
  omega
end Go.Proofs.YtkflmidichikjaaGreatDoor.V
end
section
namespace Go.Proofs.YtkflmidichikjaaGreatDoor.V
open Go.RowKit
set_option maxRecDepth 100000
open Sys Hon
structure Gs where
 (a v m : Option Addr × Nat)
abbrev U8 (n : Int) : SV := .v (.int .u8 n)
abbrev Hon.Sc.s (x : Sc) (g : Gs) : SV := .a [I x.plan.W, I x.plan.H, .fz g.a.1 g.a.2 1 (fl ye x.plan.cells), I x.at_.X, I x.at_.Y, I x.at_.H, .fz g.v.1 g.v.2 1 (fl ye x.veil), I x.bd.Turn, I x.bd.Length, I x.bd.Slip, I x.bd.Range,
 .fz g.m.1 g.m.2 1 (fl ie x.marks),I x.every,I x.late,U8 x.w0,U8 x.w1,U8 x.w2,U8 x.w3,U8 x.w4,U8 x.w5]
structure Hon.Sc.ok (x : Sc) : Prop where
 (h1 : ∀ c∈x.plan.cells,0≤c∧c≤255) (h2 : ∀ c∈x.veil,0≤c∧c≤255) (h3 : (0≤x.w0∧0≤x.w1∧0≤x.w2∧0≤x.w3)∧0≤x.w4∧0≤x.w5) (h4 : x.w0≤255∧x.w1≤255∧x.w2≤255∧x.w3≤255∧x.w4≤255∧x.w5≤255)
 (h5 : x.plan.cells.length≤maxLen) (h6 : x.veil.length≤maxLen) (h7 : x.marks.length≤maxLen)
 (h8 : (-9223372036854775808≤x.at_.X∧x.at_.X≤9223372036854775807)∧(-9223372036854775808≤x.at_.Y∧x.at_.Y≤9223372036854775807)∧(-9223372036854775808≤x.at_.H∧x.at_.H≤9223372036854775807)∧(-9223372036854775808≤x.every∧x.every≤9223372036854775807)∧(-9223372036854775808≤x.late∧x.late≤9223372036854775807))
theorem sh_bytes2 {els : List (List DV)} (h : ∀ x ∈ els, Sh.hasL [.int .u8] x) : ∃ X : List Int, els = fl ye X ∧ ∀ n ∈ X, 0 ≤ n ∧ n ≤ 255 := by
 obtain ⟨X,h1,h2⟩:=map_of (f:=fun n : Int=>[DV.v (.int .u8 n)]) (p:=fun n=>(Lit.int .u8 n).wf=true) fun x hx=>sh_int (h x hx)
 refine ⟨X,h1,fun n hn=>?_⟩
 have:=h2 n hn
 simp [Lit.wf,IntKind.min,IntKind.max,IntKind.signed,IntKind.bits] at this
 omega
theorem inv_i8 {r : List Sh} {x : List DV} (h : Sh.hasL (.int .u8 :: r) x) : ∃ (n : Int) (l : List DV), x = .v (.int .u8 n) :: l ∧ (0 ≤ n ∧ n ≤ 255) ∧ Sh.hasL r l := by
 obtain ⟨d,l,rfl,h1,h2⟩:=Sh.hasL_inv h
 obtain ⟨n,rfl,h3⟩:=Sh.has_i.1 h1
 refine ⟨n,l,rfl,?_,h2⟩
 simp [Lit.wf,IntKind.min,IntKind.max,IntKind.signed,IntKind.bits] at h3
 omega
theorem inv_i64 {r : List Sh} {x : List DV} (h : Sh.hasL (.int .i64 :: r) x) : ∃ (n : Int) (l : List DV), x = .v (.int .i64 n) :: l ∧ (-9223372036854775808 ≤ n ∧ n ≤ 9223372036854775807) ∧ Sh.hasL r l := by
 obtain ⟨d,l,rfl,h1,h2⟩:=Sh.hasL_inv h
 obtain ⟨n,rfl,h3⟩:=Sh.has_i.1 h1
 refine ⟨n,l,rfl,?_,h2⟩
 simp [Lit.wf,IntKind.min,IntKind.max,IntKind.signed,IntKind.bits] at h3
 omega
abbrev shScene : List Sh := [.int .i64, .int .i64, .sl 1 [.int .u8], .int .i64, .int .i64, .int .i64, .sl 1 [.int .u8], .int .i64, .int .i64, .int .i64, .int .i64, .sl 1 [.int .i64], .int .i64, .int .i64, .int .u8, .int .u8, .int .u8, .int .u8, .int .u8, .int .u8]
theorem shScene_ok : shOf Tryz.prog 6 32 = some shScene := by kernel_rfl
theorem open_scene {G : Fz} {ds : List DV} {cs : List Value} (h : Sh.hasL shScene ds) (hr : rdL G ds cs) : ∃ (x : Sc) (g : Gs), Value.agg cs.toArray = (x.s g).val (fun _ => 0) ∧ (x.s g).wf ⟨G, 0⟩ ∧ x.ok := by
 obtain ⟨a1,l1,rfl,_,h_1⟩:=inv_i64 h
 obtain ⟨a2,l2,rfl,_,h_2⟩:=inv_i64 h_1
 obtain ⟨e1,l3,rfl,n1,k1,h_3⟩:=inv_sl h_2
 obtain ⟨a3,l4,rfl,q3,h_4⟩:=inv_i64 h_3
 obtain ⟨a4,l5,rfl,q4,h_5⟩:=inv_i64 h_4
 obtain ⟨a5,l6,rfl,q5,h_6⟩:=inv_i64 h_5
 obtain ⟨e2,l7,rfl,n2,k2,h_7⟩:=inv_sl h_6
 obtain ⟨a6,l8,rfl,_,h_8⟩:=inv_i64 h_7
 obtain ⟨a7,l9,rfl,_,h_9⟩:=inv_i64 h_8
 obtain ⟨a8,l10,rfl,_,h_10⟩:=inv_i64 h_9
 obtain ⟨a9,l11,rfl,_,h_11⟩:=inv_i64 h_10
 obtain ⟨e3,l12,rfl,n3,k3,h_12⟩:=inv_sl h_11
 obtain ⟨b1,l13,rfl,q6,h_13⟩:=inv_i64 h_12
 obtain ⟨b2,l14,rfl,q7,h_14⟩:=inv_i64 h_13
 obtain ⟨w0,l15,rfl,p0,h_15⟩:=inv_i8 h_14
 obtain ⟨w1,l16,rfl,p1,h_16⟩:=inv_i8 h_15
 obtain ⟨w2,l17,rfl,p2,h_17⟩:=inv_i8 h_16
 obtain ⟨w3,l18,rfl,p3,h_18⟩:=inv_i8 h_17
 obtain ⟨w4,l19,rfl,p4,h_19⟩:=inv_i8 h_18
 obtain ⟨w5,l20,rfl,p5,h_20⟩:=inv_i8 h_19
 obtain rfl:=Sh.hasL_inv0 h_20
 obtain ⟨X1,rfl,r1⟩:=sh_bytes2 k1
 obtain ⟨X2,rfl,r2⟩:=sh_bytes2 k2
 obtain ⟨X3,rfl⟩:=sh_ints k3
 obtain ⟨m1,rfl,rr_1⟩:=rd_v hr
 obtain ⟨m2,rfl,rr_2⟩:=rd_v rr_1
 obtain ⟨A1,c1,m3,rfl,s1,rr_3⟩:=rd_fz rr_2
 obtain ⟨m4,rfl,rr_4⟩:=rd_v rr_3
 obtain ⟨m5,rfl,rr_5⟩:=rd_v rr_4
 obtain ⟨m6,rfl,rr_6⟩:=rd_v rr_5
 obtain ⟨A2,c2,m7,rfl,s2,rr_7⟩:=rd_fz rr_6
 obtain ⟨m8,rfl,rr_8⟩:=rd_v rr_7
 obtain ⟨m9,rfl,rr_9⟩:=rd_v rr_8
 obtain ⟨m10,rfl,rr_10⟩:=rd_v rr_9
 obtain ⟨m11,rfl,rr_11⟩:=rd_v rr_10
 obtain ⟨A3,c3,m12,rfl,s3,rr_12⟩:=rd_fz rr_11
 obtain ⟨m13,rfl,rr_13⟩:=rd_v rr_12
 obtain ⟨m14,rfl,rr_14⟩:=rd_v rr_13
 obtain ⟨m15,rfl,rr_15⟩:=rd_v rr_14
 obtain ⟨m16,rfl,rr_16⟩:=rd_v rr_15
 obtain ⟨m17,rfl,rr_17⟩:=rd_v rr_16
 obtain ⟨m18,rfl,rr_18⟩:=rd_v rr_17
 obtain ⟨m19,rfl,rr_19⟩:=rd_v rr_18
 obtain ⟨m20,rfl,rr_20⟩:=rd_v rr_19
 obtain rfl:=rd_nil rr_20
 rw [fl_len] at n1 n2 n3
 exact ⟨⟨⟨a1,a2,X1⟩,⟨a3,a4,a5⟩,X2,⟨a6,a7,a8,a9⟩,X3,b1,b2,w0,w1,w2,w3,w4,w5⟩,⟨(A1,c1),(A2,c2),(A3,c3)⟩,rfl,
  ⟨trivial,trivial,s1,trivial,trivial,trivial,s2,trivial,trivial,trivial,trivial,s3,trivial,trivial,trivial,trivial,trivial,trivial,trivial,trivial,trivial⟩,
  ⟨r1,r2,⟨⟨p0.1,p1.1,p2.1,p3.1⟩,p4.1,p5.1⟩,⟨p0.2,p1.2,p2.2,p3.2,p4.2,p5.2⟩,n1,n2,n3,⟨q3,q4,q5,q6,q7⟩⟩⟩
end Go.Proofs.YtkflmidichikjaaGreatDoor.V
end
section
namespace Go.Proofs.YtkflmidichikjaaGreatDoor.V
open Go.RowKit
set_option maxRecDepth 100000
open Heading BoxP Drive PlanP Known Contr Loc Jou Atl RobotP Mon Mot Sys Grow
namespace Sys
def roomP : Plan := ⟨3, 3, [1, 1, 1, 1, 1, 1, 1, 1, 1]⟩
def roomS : Setup := ⟨roomP, roomP, ⟨0, 0, 0, 1⟩, ⟨96, 96, 0⟩, [⟨96, 96, 96, 96, 0, 1⟩], [0, 64], 1, 5⟩
def inW : Inp := ⟨⟨0, 32⟩, false, false, false, ⟨0, 0, 0, 0⟩, []⟩
abbrev S0 : SS := new0 roomS
abbrev S1 : SS := tickT S0 inW
abbrev S2 : SS := tickT S1 inW
abbrev S3 : SS := tickT S2 inW
theorem room_ok : errN roomS = 0 := by decide +kernel
theorem aw1 : (cmdT S0 inW).Forward = 32 := by decide +kernel
theorem aw2 : (cmdT S2 inW).Turn = 0 ∧ (cmdT S2 inW).Forward = 0 := by decide +kernel
theorem aw3 : S3.rob.at_.X = 160 ∧ S3.rob.at_.Y = 96 ∧ S3.rob.at_.H = 0 := by decide +kernel
theorem aw4 : S3.ft.lost = false := by decide +kernel
theorem aw5 : S0.jb.length ≤ 65280 ∧ S1.jb.length ≤ 65280 ∧ S2.jb.length ≤ 65280 := by decide +kernel
theorem aw6 : (repT S0 inW).cmd.Forward = 32 ∧ (repT S1 inW).tick = 2 ∧ (repT S2 inW).cmd.Turn = 0 ∧ (repT S2 inW).cmd.Forward = 0 := ⟨aw1, by decide +kernel, aw2⟩
theorem len0 : lenN roomS := by decide
theorem ok0 : okN 0 S0 := new_keeps room_ok len0 (by decide)
theorem ok1 : okN 1 S1 := tick_keeps ok0
theorem ok2 : okN 2 S2 := tick_keeps ok1
end Sys
end Go.Proofs.YtkflmidichikjaaGreatDoor.V
end
