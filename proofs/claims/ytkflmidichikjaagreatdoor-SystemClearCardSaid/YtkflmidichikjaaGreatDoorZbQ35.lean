import Derived.Test.YtkflmidichikjaaGreatDoorZbQ21
import Derived.Test.YtkflmidichikjaaGreatDoorZbQ30
import Derived.Test.YtkflmidichikjaaGreatDoorZbQ19
import Derived.Test.YtkflmidichikjaaGreatDoorZbQ20
set_option linter.all false
section
namespace Go.Proofs.YtkflmidichikjaaGreatDoor.V
open Go.RowKit
set_option maxRecDepth 100000
open Heading BoxP Drive Pred RobotP
namespace Sound
def inB (b : Box) (P : Pose) : Prop := (b.X0 ≤ P.X ∧ P.X ≤ b.X1) ∧ (b.Y0 ≤ P.Y ∧ P.Y ≤ b.Y1) ∧ (P.H - b.From) % 256 < b.Count
def inA (a : Arc) (h : Int) : Prop := (h - a.From) % 256 < a.Count
def inR (r : Rect) (x y : Int) : Prop := (r.X0 ≤ x ∧ x ≤ r.X1) ∧ (r.Y0 ≤ y ∧ y ≤ r.Y1)
theorem arc_v {f c : Int} (h : 1 ≤ c) : vArc (Heading.arc f c) = true := by
 unfold Heading.arc
 split
 ·exact vArc_iff.2 ⟨by decide,by decide,by decide,by decide,.inl rfl⟩
 ·rw [vArc_iff]
  simp only
  omega
theorem shift_in {a : Arc} {n h : Int} (hv : vArc a = true) (hi : inA a h) : inA (shift a n).1 ((h + n) % 256) ∧ vArc (shift a n).1 = true := by
 have h1:=vArc_iff.1 hv
 unfold shift
 rw [if_pos hv]
 refine ⟨?_,arc_v h1.2.2.1⟩
 unfold inA Heading.arc at *
 split
 ·show ((h + n) % 256 - 0) % 256 < 256
  omega
 ·show ((h + n) % 256 - (a.From + n % 256) % 256) % 256 < a.Count
  omega
theorem grow_in {a : Arc} {n e h : Int} (hv : vArc a = true) (hn : 0 ≤ n ∧ n ≤ 100) (he : -n ≤ e ∧ e ≤ n) (hi : inA a h) : inA (grow a n).1 ((h + e) % 256) ∧ vArc (grow a n).1 = true := by
 have h1:=vArc_iff.1 hv
 unfold grow
 rw [if_pos hv,if_neg (by omega)]
 refine ⟨?_,arc_v (by omega)⟩
 unfold inA Heading.arc at *
 split
 ·show ((h + e) % 256 - 0) % 256 < 256
  omega
 ·show ((h + e) % 256 - (a.From - n) % 256) % 256 < a.Count + 2 * n
  omega
theorem list_mem {a : Arc} {h : Int} (hv : vArc a = true) (hi : inA a h) (h0 : 0 ≤ h ∧ h < 256) : h ∈ list a := by
 have h1:=vArc_iff.1 hv
 unfold inA at hi
 unfold list
 rw [if_pos hv]
 refine List.mem_map.2 ⟨((h - a.From) % 256).toNat,List.mem_range.2 (by omega),?_⟩
 omega
theorem reachN_in {c : Command} {bd : Bounds} {L : List Int} {x y : Int} {j : Nat} (h : inR (reach c bd (gt L j)).1 x y) : ∀ {i : Nat}, j < i → inR (reachN c bd L i) x y
 | 0,h0=>by omega
 | i + 1,h0=>by
   unfold reachN
   by_cases e : j=i
   ·subst e
    unfold inR hullR at *
    refine ⟨⟨?_,?_⟩,?_,?_⟩
    ·exact Int.le_trans (Int.min_le_right _ _) h.1.1
    ·exact Int.le_trans h.1.2 (Int.le_max_right _ _)
    ·exact Int.le_trans (Int.min_le_right _ _) h.2.1
    ·exact Int.le_trans h.2.2 (Int.le_max_right _ _)
   ·have:=reachN_in h (i:=i) (by omega)
    rw [if_neg (by omega)]
    unfold inR hullR at *
    refine ⟨⟨?_,?_⟩,?_,?_⟩
    ·exact Int.le_trans (Int.min_le_left _ _) this.1.1
    ·exact Int.le_trans this.1.2 (Int.le_max_left _ _)
    ·exact Int.le_trans (Int.min_le_left _ _) this.2.1
    ·exact Int.le_trans this.2.2 (Int.le_max_left _ _)
theorem reachA_in {c : Command} {bd : Bounds} {a : Arc} {h x y : Int} (hm : h ∈ list a) (hr : inR (reach c bd h).1 x y) : inR (reachA c bd a) x y := by
 obtain ⟨j,hj,e⟩:=List.getElem_of_mem hm
 unfold reachA
 refine reachN_in (j:=j) ?_ hj
 have : gt (list a) j=h:=by simp [gt,List.getElem?_eq_getElem hj,e]
 rw [this]
 exact hr
theorem mid_div {m m1 m2 x d : Int} (hd : 0 < d) (h1 : m1 ≤ m) (h2 : m ≤ m2) : min (m1 * x / d) (m2 * x / d) ≤ m * x / d ∧ m * x / d ≤ max (m1 * x / d) (m2 * x / d) := by
 rcases Int.le_total 0 x with h|h
 ·have e1:=Int.ediv_le_ediv hd (Int.mul_le_mul_of_nonneg_right h1 h)
  have e2:=Int.ediv_le_ediv hd (Int.mul_le_mul_of_nonneg_right h2 h)
  omega
 ·have e1:=Int.ediv_le_ediv hd (Int.mul_le_mul_of_nonpos_right h1 h)
  have e2:=Int.ediv_le_ediv hd (Int.mul_le_mul_of_nonpos_right h2 h)
  omega
theorem ahead_mid {h n n1 n2 : Int} (h1 : n1 ≤ n) (h2 : n ≤ n2) :
 (min (aheadP h n1).X (aheadP h n2).X≤(aheadP h n).X∧(aheadP h n).X≤max (aheadP h n1).X (aheadP h n2).X)∧(min (aheadP h n1).Y (aheadP h n2).Y≤(aheadP h n).Y∧(aheadP h n).Y≤max (aheadP h n1).Y (aheadP h n2).Y):=by
 have hd:=dir_bnd h
 unfold aheadP
 exact ⟨mid_div (by omega) (by omega) (by omega),mid_div (by omega) (by omega) (by omega)⟩
def fits (bd : Bounds) (e : Slip) : Prop := (-bd.Turn ≤ e.Turn ∧ e.Turn ≤ bd.Turn) ∧ (-bd.Length ≤ e.Length ∧ e.Length ≤ bd.Length) ∧ (-bd.Slip ≤ e.X ∧ e.X ≤ bd.Slip) ∧ (-bd.Slip ≤ e.Y ∧ e.Y ≤ bd.Slip)
theorem clip_fits {bd : Bounds} {e : Slip} (h : vBounds bd = true) : fits bd (clip bd e).1 := by
 have hb:=vBounds_iff.1 h
 unfold clip fits clip1
 rw [if_pos h]
 simp only
 omega
theorem reach_in {c : Command} {bd : Bounds} {h : Int} {e : Slip} (hc : vCmd c = true) (hb : vBounds bd = true) (hh : 0 ≤ h ∧ h < 256) (he : fits bd e) :
 inR (reach c bd h).1 (if c.Forward=0 then 0 else (aheadP h (c.Forward + e.Length)).X + e.X) (if c.Forward=0 then 0 else (aheadP h (c.Forward + e.Length)).Y + e.Y):=by
 obtain ⟨e1,e2,e3,e4⟩:=he
 unfold reach
 rw [if_neg (by simp [hc,hb]),if_neg (by simp only [between,Bool.and_eq_false_iff,decide_eq_false_iff_not];omega)]
 by_cases h0 : c.Forward=0
 ·rw [if_pos h0,if_pos h0,if_pos h0]
  unfold inR
  simp
 ·rw [if_neg h0,if_neg h0,if_neg h0]
  have:=ahead_mid (h:=h) (n:=c.Forward + e.Length) (n1:=c.Forward - bd.Length) (n2:=c.Forward + bd.Length) (by omega) (by omega)
  unfold inR
  simp only
  omega
theorem turned_in {b : Box} {P : Pose} {c : Command} {bd : Bounds} {e : Slip} (hv : vBox b = true) (hb : vBounds bd = true) (he : fits bd e) (hi : inB b P) :
 inA (turnedA b c.Turn bd.Turn) ((P.H + c.Turn + e.Turn) % 256)∧vArc (turnedA b c.Turn bd.Turn)=true:=by
 have hB:=vBounds_iff.1 hb
 have h1:=shift_in (a:=⟨b.From,b.Count⟩) (n:=c.Turn) (h:=P.H) (vBox_arc hv) hi.2.2
 have h2:=grow_in (n:=bd.Turn) (e:=e.Turn) h1.2 (by omega) he.1 h1.1
 unfold turnedA
 refine ⟨?_,h2.2⟩
 have : ((P.H + c.Turn) % 256 + e.Turn) % 256=(P.H + c.Turn + e.Turn) % 256:=by omega
 rw [← this]
 exact h2.1
theorem image_in {b : Box} {P : Pose} {c : Command} {bd : Bounds} {e : Slip} (hv : vBox b = true) (hc : vCmd c = true) (hb : vBounds bd = true) (he : fits bd e) (hi : inB b P) (h2 : (imageP b c bd).2 = 0) :
 inB (imageP b c bd).1 ⟨P.X + (if c.Forward=0 then 0 else (aheadP ((P.H + c.Turn + e.Turn) % 256) (c.Forward + e.Length)).X + e.X),P.Y + (if c.Forward=0 then 0 else (aheadP ((P.H + c.Turn + e.Turn) % 256) (c.Forward + e.Length)).Y + e.Y),(P.H + c.Turn + e.Turn) % 256⟩∧vBox (imageP b c bd).1=true:=by
 obtain ⟨ht,htv⟩:=turned_in (c:=c) hv hb he hi
 have hr:=reachA_in (list_mem htv ht (by omega)) (reach_in (e:=e) hc hb (show 0≤(P.H + c.Turn + e.Turn) % 256∧(P.H + c.Turn + e.Turn) % 256 < 256 by omega) he)
 unfold imageP at h2 ⊢
 rw [if_pos (by simp [hv,hc,hb])] at h2 ⊢
 generalize turnedA b c.Turn bd.Turn=a at *
 generalize reachA c bd a=r at *
 generalize (if c.Forward=0 then 0 else (aheadP ((P.H + c.Turn + e.Turn) % 256) (c.Forward + e.Length)).X + e.X)=dx at *
 generalize (if c.Forward=0 then 0 else (aheadP ((P.H + c.Turn + e.Turn) % 256) (c.Forward + e.Length)).Y + e.Y)=dy at *
 unfold movedB bmove at h2 ⊢
 split at h2
 ·cases h2
 rename_i g1
 rw [if_neg g1]
 split at h2
 ·cases h2
 rename_i g2
 rw [if_neg g2]
 split at h2
 ·cases h2
 rename_i g3
 rw [if_neg g3]
 have hvb:=vBox_iff.1 hv
 unfold inB inR at *
 refine ⟨⟨by simp only;omega,by simp only;omega,ht⟩,?_⟩
 rw [vBox_iff]
 simp [far] at g3
 simp only
 refine ⟨by omega,by omega,by omega,by omega,by omega,by omega,htv⟩
end Sound
end Go.Proofs.YtkflmidichikjaaGreatDoor.V
end
section
namespace Go.Proofs.YtkflmidichikjaaGreatDoor.V
open Go.RowKit
set_option maxRecDepth 100000
open Heading BoxP Drive Seg
namespace Sound
theorem fr_trans {a b c d e f : Int} (hb : 0 < b) (hd : 0 < d) (hf : 0 < f) (h1 : a * d ≤ c * b) (h2 : c * f ≤ e * d) : a * f ≤ e * b := by
 have e1:=Int.mul_le_mul_of_nonneg_right h1 (Int.le_of_lt hf)
 have e2:=Int.mul_le_mul_of_nonneg_right h2 (Int.le_of_lt hb)
 have e3 : (a * f) * d≤(e * b) * d:=by grind
 exact Int.le_of_mul_le_mul_right e3 hd
def atT (p : Point) (v : Vector) (n d : Int) (r : Rect) : Prop := (r.X0 * d ≤ p.X * d + n * v.X ∧ p.X * d + n * v.X ≤ r.X1 * d) ∧ (r.Y0 * d ≤ p.Y * d + n * v.Y ∧ p.Y * d + n * v.Y ≤ r.Y1 * d)
def metQ (p : Point) (v : Vector) (lo hi : Int) (r : Rect) : Prop := ∃ n d : Int, 0 < d ∧ 0 ≤ n ∧ lo * d ≤ n * v.D ∧ n * v.D ≤ hi * d ∧ atT p v n d r
theorem conv_x {p p0 p1 : Point} {v : Vector} {lo hi : Int} {r : Rect} (hx : p0.X ≤ p.X ∧ p.X ≤ p1.X) (hy : p0.Y = p.Y ∧ p1.Y = p.Y) (h0 : metQ p0 v lo hi r) (h1 : metQ p1 v lo hi r) : metQ p v lo hi r := by
 obtain ⟨n0,d0,a1,a2,a3,a4,⟨a5,a6⟩,a7,a8⟩:=h0
 obtain ⟨n1,d1,b1,b2,b3,b4,⟨b5,b6⟩,b7,b8⟩:=h1
 by_cases hw : p0.X=p1.X
 ·refine ⟨n0,d0,a1,a2,a3,a4,⟨?_,?_⟩,?_,?_⟩
  ·rwa [show p.X=p0.X by omega]
  ·rwa [show p.X=p0.X by omega]
  ·rwa [show p.Y=p0.Y by omega]
  ·rwa [show p.Y=p0.Y by omega]
 ·obtain ⟨k,hk⟩ : ∃ k,k=p.X - p0.X:=⟨_,rfl⟩
  obtain ⟨m,hm⟩ : ∃ m,m=p1.X - p.X:=⟨_,rfl⟩
  have k0 : 0≤k * d0:=Int.mul_nonneg (by omega) (by omega)
  have m0 : 0≤m * d1:=Int.mul_nonneg (by omega) (by omega)
  have hd : 0 < (k + m) * (d0 * d1):=Int.mul_pos (by omega) (Int.mul_pos a1 b1)
  have l0:=fun {x y : Int} (h : x≤y)=>Int.mul_le_mul_of_nonneg_left h m0
  have l1:=fun {x y : Int} (h : x≤y)=>Int.mul_le_mul_of_nonneg_left h k0
  have ex : p0.X=p.X - k:=by omega
  have ex1 : p1.X=p.X + m:=by omega
  have u3:=l0 a3
  have u4:=l0 a4
  have u5:=l0 a5
  have u6:=l0 a6
  have u7:=l0 a7
  have u8:=l0 a8
  have w3:=l1 b3
  have w4:=l1 b4
  have w5:=l1 b5
  have w6:=l1 b6
  have w7:=l1 b7
  have w8:=l1 b8
  rw [hy.1] at u7 u8
  rw [hy.2] at w7 w8
  rw [ex] at u5 u6
  rw [ex1] at w5 w6
  refine ⟨m * d1 * n0 + k * d0 * n1,(k + m) * (d0 * d1),hd,Int.add_nonneg (Int.mul_nonneg m0 a2) (Int.mul_nonneg k0 b2),?_,?_,⟨?_,?_⟩,?_,?_⟩
  ·clear u4 u5 u6 u7 u8 w4 w5 w6 w7 w8;grind
  ·clear u3 u5 u6 u7 u8 w3 w5 w6 w7 w8;grind
  ·clear u3 u4 u6 u7 u8 w3 w4 w6 w7 w8;grind
  ·clear u3 u4 u5 u7 u8 w3 w4 w5 w7 w8;grind
  ·clear u3 u4 u5 u6 u8 w3 w4 w5 w6 w8;grind
  ·clear u3 u4 u5 u6 u7 w3 w4 w5 w6 w7;grind
end Sound
end Go.Proofs.YtkflmidichikjaaGreatDoor.V
end
section
namespace Go.Proofs.YtkflmidichikjaaGreatDoor.V
open Go.RowKit
set_option maxRecDepth 100000
open Heading BoxP Drive Seg
namespace Sound
theorem max_fr {x y : Fraction} {n d : Int} (hx : 0 < x.D) (hy : 0 < y.D) (hd : 0 < d) : (bif lessF x y then y else x).N * d ≤ n * (bif lessF x y then y else x).D ↔ x.N * d ≤ n * x.D ∧ y.N * d ≤ n * y.D := by
 unfold lessF
 by_cases h : x.N * y.D < y.N * x.D
 ·rw [decide_eq_true h]
  simp only [cond_true]
  exact ⟨fun h2=>⟨fr_trans hx hy hd (Int.le_of_lt h) h2,h2⟩,fun h2=>h2.2⟩
 ·rw [decide_eq_false h]
  simp only [cond_false]
  exact ⟨fun h2=>⟨h2,fr_trans hy hx hd (Int.not_lt.1 h) h2⟩,fun h2=>h2.1⟩
theorem min_fr {x y : Fraction} {n d : Int} (hx : 0 < x.D) (hy : 0 < y.D) (hd : 0 < d) : n * (bif lessF y x then y else x).D ≤ (bif lessF y x then y else x).N * d ↔ n * x.D ≤ x.N * d ∧ n * y.D ≤ y.N * d := by
 unfold lessF
 by_cases h : y.N * x.D < x.N * y.D
 ·rw [decide_eq_true h]
  simp only [cond_true]
  exact ⟨fun h2=>⟨fr_trans hd hy hx h2 (Int.le_of_lt h),h2⟩,fun h2=>h2.2⟩
 ·rw [decide_eq_false h]
  simp only [cond_false]
  exact ⟨fun h2=>⟨h2,fr_trans hd hx hy h2 (Int.not_lt.1 h)⟩,fun h2=>h2.1⟩
def inSp (s : Span) (n d : Int) : Prop := s.lo.N * d ≤ n * s.lo.D ∧ n * s.hi.D ≤ s.hi.N * d
def posSp (s : Span) : Prop := 0 < s.lo.D ∧ 0 < s.hi.D
theorem bif_D {x y : Fraction} {c : Bool} (hx : 0 < x.D) (hy : 0 < y.D) : 0 < (bif c then x else y).D := by cases c <;> assumption
theorem loHi_pos {p v a b : Int} (h : v ≠ 0) : 0 < (loHi p v a b).1.D ∧ 0 < (loHi p v a b).2.D := by
 unfold loHi
 split<;>simp only<;>omega
theorem loHi_in {p v a b n d : Int} : (a * d ≤ p * d + n * v ∧ p * d + n * v ≤ b * d) ↔ ((loHi p v a b).1.N * d ≤ n * (loHi p v a b).1.D ∧ n * (loHi p v a b).2.D ≤ (loHi p v a b).2.N * d) := by
 unfold loHi
 split
 ·simp only
  constructor
  ·rintro ⟨h1,h2⟩
   constructor<;>grind
  ·rintro ⟨h1,h2⟩
   constructor<;>grind
 ·simp only
  constructor
  ·rintro ⟨h1,h2⟩
   constructor<;>grind
  ·rintro ⟨h1,h2⟩
   constructor<;>grind
theorem slab_pos {s : Span} {p v a b : Int} (hs : posSp s) : posSp (slab s p v a b).1 := by
 unfold slab
 split
 ·exact hs
 ·rename_i h
  have:=loHi_pos (p:=p) (a:=a) (b:=b) h
  exact ⟨bif_D this.1 hs.1,bif_D this.2 hs.2⟩
theorem slab_in {s : Span} {p v a b n d : Int} (hs : posSp s) (hd : 0 < d) (hf : (slab s p v a b).2 = true) : inSp (slab s p v a b).1 n d ↔ inSp s n d ∧ (a * d ≤ p * d + n * v ∧ p * d + n * v ≤ b * d) := by
 unfold slab at hf ⊢
 by_cases h : v=0
 ·rw [if_pos h] at hf ⊢
  simp only [Bool.and_eq_true,decide_eq_true_eq] at hf
  subst h
  have e1:=Int.mul_le_mul_of_nonneg_right hf.1 (Int.le_of_lt hd)
  have e2:=Int.mul_le_mul_of_nonneg_right hf.2 (Int.le_of_lt hd)
  constructor
  ·exact fun h=>⟨h,by omega,by omega⟩
  ·exact fun h=>h.1
 ·rw [if_neg h]
  have hp:=loHi_pos (p:=p) (a:=a) (b:=b) h
  unfold inSp
  simp only
  rw [max_fr hs.1 hp.1 hd,min_fr hs.2 hp.2 hd,loHi_in (p:=p) (v:=v)]
  constructor
  ·rintro ⟨⟨h1,h2⟩,h3,h4⟩
   exact ⟨⟨h1,h3⟩,h2,h4⟩
  ·rintro ⟨⟨h1,h3⟩,h2,h4⟩
   exact ⟨⟨h1,h2⟩,h3,h4⟩
theorem slab_yes {s : Span} {p v a b n d : Int} (hs : posSp s) (hd : 0 < d) (h1 : inSp s n d) (h2 : a * d ≤ p * d + n * v ∧ p * d + n * v ≤ b * d) : (slab s p v a b).2 = true := by
 unfold slab
 by_cases h : v=0
 ·rw [if_pos h]
  subst h
  rw [Int.mul_zero,Int.add_zero] at h2
  simp only [Bool.and_eq_true,decide_eq_true_eq]
  exact ⟨Int.le_of_mul_le_mul_right h2.1 hd,Int.le_of_mul_le_mul_right h2.2 hd⟩
 ·rw [if_neg h]
  have hp:=loHi_pos (p:=p) (a:=a) (b:=b) h
  have h3:=loHi_in.1 h2
  have e1:=(max_fr hs.1 hp.1 hd).2 ⟨h1.1,h3.1⟩
  have e2:=(min_fr hs.2 hp.2 hd).2 ⟨h1.2,h3.2⟩
  have d1 : 0 < (bif lessF s.lo (loHi p v a b).1 then (loHi p v a b).1 else s.lo).D:=bif_D hp.1 hs.1
  have d2 : 0 < (bif lessF (loHi p v a b).2 s.hi then (loHi p v a b).2 else s.hi).D:=bif_D hp.2 hs.2
  have e3:=fr_trans d1 hd d2 e1 e2
  simp only [lessF,Bool.not_eq_true',decide_eq_false_iff_not] at e3 ⊢
  exact Int.not_lt.2 e3
theorem slab_le {s : Span} {p v a b : Int} (hs : posSp s) (hl : s.lo.N * s.hi.D ≤ s.hi.N * s.lo.D) (hf : (slab s p v a b).2 = true) : (slab s p v a b).1.lo.N * (slab s p v a b).1.hi.D ≤ (slab s p v a b).1.hi.N * (slab s p v a b).1.lo.D := by
 unfold slab at hf ⊢
 by_cases h : v=0
 ·rw [if_pos h];exact hl
 ·rw [if_neg h] at hf ⊢
  simp only [lessF,Bool.not_eq_true',decide_eq_false_iff_not] at hf ⊢
  exact Int.not_lt.1 hf
theorem span0_pos : posSp span0 := by unfold posSp span0; simp
theorem through_eq {p : Point} {v : Vector} {r : Rect} (hp : sPoint p = true) (hv : vVec v = true) (hr : sRect r = true) : through p v r = if (slab span0 p.X v.X r.X0 r.X1).2 ∧ (slab (slab span0 p.X v.X r.X0 r.X1).1 p.Y v.Y r.Y0 r.Y1).2 then ((slab (slab span0 p.X v.X r.X0 r.X1).1 p.Y v.Y r.Y0 r.Y1).1, true) else (⟨⟨0, 0⟩, ⟨0, 0⟩⟩, false) := by
 unfold through
 rw [if_pos ⟨hp,hv,hr⟩]
theorem through_yes {p : Point} {v : Vector} {r : Rect} {n d : Int} (hp : sPoint p = true) (hv : vVec v = true) (hr : sRect r = true) (hd : 0 < d) (h0 : 0 ≤ n) (h1 : n ≤ 8388608 * d) (h : atT p v n d r) : (through p v r).2 = true := by
 have g0 : inSp span0 n d:=by unfold inSp span0;simp only;omega
 have g1:=slab_yes span0_pos hd g0 h.1
 have g2:=(slab_in (p:=p.X) (v:=v.X) (a:=r.X0) (b:=r.X1) span0_pos hd g1).2 ⟨g0,h.1⟩
 have g3:=slab_yes (slab_pos span0_pos) hd g2 h.2
 rw [through_eq hp hv hr,if_pos ⟨g1,g3⟩]
theorem through_in {p : Point} {v : Vector} {r : Rect} {n d : Int} (hf : (through p v r).2 = true) (hd : 0 < d) : inSp (through p v r).1 n d ↔ (0 ≤ n ∧ n ≤ 8388608 * d) ∧ atT p v n d r := by
 obtain ⟨-,hp,hv,hr⟩:=through_ok hf
 rw [through_eq hp hv hr] at hf ⊢
 split at hf
 ·rename_i h
  rw [if_pos h]
  simp only
  rw [slab_in (slab_pos span0_pos) hd h.2,slab_in span0_pos hd h.1]
  unfold inSp span0 atT
  simp only
  constructor
  ·rintro ⟨⟨h1,h2⟩,h3⟩
   exact ⟨by omega,h2,h3⟩
  ·rintro ⟨h1,h2,h3⟩
   exact ⟨⟨by omega,h2⟩,h3⟩
 ·cases hf
theorem through_le {p : Point} {v : Vector} {r : Rect} (hf : (through p v r).2 = true) : posSp (through p v r).1 ∧ (through p v r).1.lo.N * (through p v r).1.hi.D ≤ (through p v r).1.hi.N * (through p v r).1.lo.D := by
 obtain ⟨-,hp,hv,hr⟩:=through_ok hf
 rw [through_eq hp hv hr] at hf ⊢
 split at hf
 ·rename_i h
  rw [if_pos h]
  exact ⟨slab_pos (slab_pos span0_pos),slab_le (slab_pos span0_pos) (slab_le span0_pos (by decide) h.1) h.2⟩
 ·cases hf
theorem meets_iff {p : Point} {v : Vector} {lo hi : Int} {r : Rect} (hp : sPoint p = true) (hv : vVec v = true) (hr : sRect r = true) (h0 : 0 ≤ lo) (h1 : lo ≤ hi) (h2 : hi ≤ 65536) : meets p v lo hi r = true ↔ metQ p v lo hi r := by
 have hD : 1≤v.D:=(vVec_iff.1 hv).1
 unfold meets
 rw [if_neg (by omega)]
 simp only [Bool.and_eq_true,decide_eq_true_eq]
 constructor
 ·rintro ⟨⟨hf,g1⟩,g2⟩
  obtain ⟨hpos,hle⟩:=through_le hf
  generalize hs : (through p v r).1=s at *
  by_cases hc : lo * s.lo.D≤s.lo.N * v.D
  ·have hin : inSp (through p v r).1 s.lo.N s.lo.D:=by rw [hs];exact ⟨Int.le_refl _,hle⟩
   obtain ⟨⟨e1,e2⟩,e3⟩:=(through_in hf hpos.1).1 hin
   exact ⟨s.lo.N,s.lo.D,hpos.1,e1,hc,g2,e3⟩
  ·have hin : inSp (through p v r).1 lo v.D:=by rw [hs];exact ⟨Int.le_of_lt (Int.not_le.1 hc),g1⟩
   obtain ⟨⟨e1,e2⟩,e3⟩:=(through_in hf (by omega)).1 hin
   exact ⟨lo,v.D,by omega,h0,Int.le_refl _,Int.mul_le_mul_of_nonneg_right h1 (by omega),e3⟩
 ·rintro ⟨n,d,hd,hn,e1,e2,e3⟩
  have hbig : n≤8388608 * d:=by
   have : n * 1≤n * v.D:=Int.mul_le_mul_of_nonneg_left hD hn
   have h3 : hi * d≤65536 * d:=Int.mul_le_mul_of_nonneg_right h2 (by omega)
   omega
  have hf:=through_yes hp hv hr hd hn hbig e3
  obtain ⟨hpos,hle⟩:=through_le hf
  have hin:=(through_in hf hd).2 ⟨⟨hn,hbig⟩,e3⟩
  refine ⟨⟨hf,?_⟩,?_⟩
  ·have:=fr_trans (a:=lo) (b:=v.D) (c:=n) (d:=d) (e:=(through p v r).1.hi.N) (f:=(through p v r).1.hi.D) (by omega) hd hpos.2 e1 hin.2
   exact this
  ·have:=fr_trans (a:=(through p v r).1.lo.N) (b:=(through p v r).1.lo.D) (c:=n) (d:=d) (e:=hi) (f:=v.D) hpos.1 hd (by omega) hin.1 e2
   exact this
end Sound
end Go.Proofs.YtkflmidichikjaaGreatDoor.V
end
section
namespace Go.Proofs.YtkflmidichikjaaGreatDoor.V
open Go.RowKit
set_option maxRecDepth 100000
open Heading BoxP Drive Seg
namespace Sound
theorem fr_lt {a b c d e f : Int} (hb : 0 < b) (hd : 0 < d) (hf : 0 < f) (h1 : a * d ≤ c * b) (h2 : c * f < e * d) : a * f < e * b := by
 have e1:=Int.mul_le_mul_of_nonneg_right h1 (Int.le_of_lt hf)
 have e2:=Int.mul_lt_mul_of_pos_right h2 hb
 have e3 : (a * f) * d < (e * b) * d:=by grind
 exact Int.lt_of_mul_lt_mul_right e3 (Int.le_of_lt hd)
def befQ (p : Point) (v : Vector) (hi : Int) (r : Rect) : Prop := ∃ n d : Int, 0 < d ∧ 0 ≤ n ∧ n * v.D < hi * d ∧ atT p v n d r
theorem before_iff {p : Point} {v : Vector} {hi : Int} {r : Rect} (hp : sPoint p = true) (hv : vVec v = true) (hr : sRect r = true) (h1 : 0 ≤ hi) (h2 : hi ≤ 65536) : before p v hi r = true ↔ befQ p v hi r := by
 have hD : 1≤v.D:=(vVec_iff.1 hv).1
 unfold before
 rw [if_neg (by omega)]
 simp only [Bool.and_eq_true,decide_eq_true_eq]
 constructor
 ·rintro ⟨hf,g2⟩
  obtain ⟨hpos,hle⟩:=through_le hf
  have hin : inSp (through p v r).1 (through p v r).1.lo.N (through p v r).1.lo.D:=⟨Int.le_refl _,hle⟩
  obtain ⟨⟨e1,e2⟩,e3⟩:=(through_in hf hpos.1).1 hin
  exact ⟨_,_,hpos.1,e1,g2,e3⟩
 ·rintro ⟨n,d,hd,hn,e2,e3⟩
  have hbig : n≤8388608 * d:=by
   have : n * 1≤n * v.D:=Int.mul_le_mul_of_nonneg_left hD hn
   have h3 : hi * d≤65536 * d:=Int.mul_le_mul_of_nonneg_right h2 (by omega)
   omega
  have hf:=through_yes hp hv hr hd hn hbig e3
  obtain ⟨hpos,hle⟩:=through_le hf
  have hin:=(through_in hf hd).2 ⟨⟨hn,hbig⟩,e3⟩
  exact ⟨hf,fr_lt (a:=(through p v r).1.lo.N) (b:=(through p v r).1.lo.D) (c:=n) (d:=d) (e:=hi) (f:=v.D) hpos.1 hd (by omega) hin.1 e2⟩
theorem conv_y {p p0 p1 : Point} {v : Vector} {lo hi : Int} {r : Rect} (hx : p0.Y ≤ p.Y ∧ p.Y ≤ p1.Y) (hy : p0.X = p.X ∧ p1.X = p.X) (h0 : metQ p0 v lo hi r) (h1 : metQ p1 v lo hi r) : metQ p v lo hi r := by
 have key : ∀ {q : Point} {lo hi : Int},metQ q v lo hi r→metQ ⟨q.Y,q.X⟩ ⟨v.Y,v.X,v.D⟩ lo hi ⟨r.Y0,r.X0,r.Y1,r.X1⟩:=by
  rintro q lo hi ⟨n,d,a1,a2,a3,a4,a5,a6⟩
  exact ⟨n,d,a1,a2,a3,a4,a6,a5⟩
 obtain ⟨n,d,a1,a2,a3,a4,a5,a6⟩:=conv_x (p:=⟨p.Y,p.X⟩) (p0:=⟨p0.Y,p0.X⟩) (p1:=⟨p1.Y,p1.X⟩) hx hy (key h0) (key h1)
 exact ⟨n,d,a1,a2,a3,a4,a6,a5⟩
theorem bonv_x {p p0 p1 : Point} {v : Vector} {hi : Int} {r : Rect} (hx : p0.X ≤ p.X ∧ p.X ≤ p1.X) (hy : p0.Y = p.Y ∧ p1.Y = p.Y) (h0 : befQ p0 v hi r) (h1 : befQ p1 v hi r) : befQ p v hi r := by
 obtain ⟨n0,d0,a1,a2,a4,⟨a5,a6⟩,a7,a8⟩:=h0
 obtain ⟨n1,d1,b1,b2,b4,⟨b5,b6⟩,b7,b8⟩:=h1
 by_cases hw : p0.X=p1.X
 ·refine ⟨n0,d0,a1,a2,a4,⟨?_,?_⟩,?_,?_⟩
  ·rwa [show p.X=p0.X by omega]
  ·rwa [show p.X=p0.X by omega]
  ·rwa [show p.Y=p0.Y by omega]
  ·rwa [show p.Y=p0.Y by omega]
 ·obtain ⟨k,hk⟩ : ∃ k,k=p.X - p0.X:=⟨_,rfl⟩
  obtain ⟨m,hm⟩ : ∃ m,m=p1.X - p.X:=⟨_,rfl⟩
  have k0 : 0≤k * d0:=Int.mul_nonneg (by omega) (by omega)
  have m0 : 0≤m * d1:=Int.mul_nonneg (by omega) (by omega)
  have hd : 0 < (k + m) * (d0 * d1):=Int.mul_pos (by omega) (Int.mul_pos a1 b1)
  have l0:=fun {x y : Int} (h : x≤y)=>Int.mul_le_mul_of_nonneg_left h m0
  have l1:=fun {x y : Int} (h : x≤y)=>Int.mul_le_mul_of_nonneg_left h k0
  have ex : p0.X=p.X - k:=by omega
  have ex1 : p1.X=p.X + m:=by omega
  have u5:=l0 a5
  have u6:=l0 a6
  have u7:=l0 a7
  have u8:=l0 a8
  have w5:=l1 b5
  have w6:=l1 b6
  have w7:=l1 b7
  have w8:=l1 b8
  rw [hy.1] at u7 u8
  rw [hy.2] at w7 w8
  rw [ex] at u5 u6
  rw [ex1] at w5 w6
  refine ⟨m * d1 * n0 + k * d0 * n1,(k + m) * (d0 * d1),hd,Int.add_nonneg (Int.mul_nonneg m0 a2) (Int.mul_nonneg k0 b2),?_,⟨?_,?_⟩,?_,?_⟩
  ·clear u5 u6 u7 u8 w5 w6 w7 w8
   rcases (show 0 < m∨0 < k by omega) with hm0|hk0
   ·have q0:=Int.mul_lt_mul_of_pos_left a4 (show 0 < m * d1 from Int.mul_pos hm0 b1)
    have q1:=l1 (Int.le_of_lt b4)
    grind
   ·have q1:=Int.mul_lt_mul_of_pos_left b4 (show 0 < k * d0 from Int.mul_pos hk0 a1)
    have q0:=l0 (Int.le_of_lt a4)
    grind
  ·clear u6 u7 u8 w6 w7 w8;grind
  ·clear u5 u7 u8 w5 w7 w8;grind
  ·clear u5 u6 u8 w5 w6 w8;grind
  ·clear u5 u6 u7 w5 w6 w7;grind
theorem bonv_y {p p0 p1 : Point} {v : Vector} {hi : Int} {r : Rect} (hx : p0.Y ≤ p.Y ∧ p.Y ≤ p1.Y) (hy : p0.X = p.X ∧ p1.X = p.X) (h0 : befQ p0 v hi r) (h1 : befQ p1 v hi r) : befQ p v hi r := by
 have key : ∀ {q : Point},befQ q v hi r→befQ ⟨q.Y,q.X⟩ ⟨v.Y,v.X,v.D⟩ hi ⟨r.Y0,r.X0,r.Y1,r.X1⟩:=by
  rintro q ⟨n,d,a1,a2,a3,a4,a5⟩
  exact ⟨n,d,a1,a2,a3,a5,a4⟩
 obtain ⟨n,d,a1,a2,a3,a4,a5⟩:=bonv_x (p:=⟨p.Y,p.X⟩) (p0:=⟨p0.Y,p0.X⟩) (p1:=⟨p1.Y,p1.X⟩) hx hy (key h0) (key h1)
 exact ⟨n,d,a1,a2,a3,a5,a4⟩
theorem met_all {q r : Rect} {p : Point} {v : Vector} {lo hi : Int} (hp : inR q p.X p.Y) (h1 : metQ ⟨q.X0, q.Y0⟩ v lo hi r) (h2 : metQ ⟨q.X1, q.Y0⟩ v lo hi r) (h3 : metQ ⟨q.X0, q.Y1⟩ v lo hi r) (h4 : metQ ⟨q.X1, q.Y1⟩ v lo hi r) : metQ p v lo hi r :=
 conv_y (p0:=⟨p.X,q.Y0⟩) (p1:=⟨p.X,q.Y1⟩) hp.2 ⟨rfl,rfl⟩ (conv_x (p0:=⟨q.X0,q.Y0⟩) (p1:=⟨q.X1,q.Y0⟩) hp.1 ⟨rfl,rfl⟩ h1 h2) (conv_x (p0:=⟨q.X0,q.Y1⟩) (p1:=⟨q.X1,q.Y1⟩) hp.1 ⟨rfl,rfl⟩ h3 h4)
theorem bef_all {q r : Rect} {p : Point} {v : Vector} {hi : Int} (hp : inR q p.X p.Y) (h1 : befQ ⟨q.X0, q.Y0⟩ v hi r) (h2 : befQ ⟨q.X1, q.Y0⟩ v hi r) (h3 : befQ ⟨q.X0, q.Y1⟩ v hi r) (h4 : befQ ⟨q.X1, q.Y1⟩ v hi r) : befQ p v hi r :=
 bonv_y (p0:=⟨p.X,q.Y0⟩) (p1:=⟨p.X,q.Y1⟩) hp.2 ⟨rfl,rfl⟩ (bonv_x (p0:=⟨q.X0,q.Y0⟩) (p1:=⟨q.X1,q.Y0⟩) hp.1 ⟨rfl,rfl⟩ h1 h2) (bonv_x (p0:=⟨q.X0,q.Y1⟩) (p1:=⟨q.X1,q.Y1⟩) hp.1 ⟨rfl,rfl⟩ h3 h4)
end Sound
end Go.Proofs.YtkflmidichikjaaGreatDoor.V
end
section
namespace Go.Proofs.YtkflmidichikjaaGreatDoor.V
open Go.RowKit
set_option maxRecDepth 100000
open Heading BoxP Drive Seg PlanP
namespace Sound
theorem axis_mid {vX vD n d lo hi : Int} (h1 : lo * d ≤ n * vD) (h2 : n * vD ≤ hi * d) (hd : 0 < d) : min (lo * vX) (hi * vX) * d ≤ n * vX * vD ∧ n * vX * vD ≤ max (lo * vX) (hi * vX) * d := by
 have m1 : min (lo * vX) (hi * vX) * d≤lo * vX * d:=Int.mul_le_mul_of_nonneg_right (Int.min_le_left _ _) (Int.le_of_lt hd)
 have m2 : min (lo * vX) (hi * vX) * d≤hi * vX * d:=Int.mul_le_mul_of_nonneg_right (Int.min_le_right _ _) (Int.le_of_lt hd)
 have m3 : lo * vX * d≤max (lo * vX) (hi * vX) * d:=Int.mul_le_mul_of_nonneg_right (Int.le_max_left _ _) (Int.le_of_lt hd)
 have m4 : hi * vX * d≤max (lo * vX) (hi * vX) * d:=Int.mul_le_mul_of_nonneg_right (Int.le_max_right _ _) (Int.le_of_lt hd)
 rcases Int.le_total 0 vX with h|h
 ·have e1:=Int.mul_le_mul_of_nonneg_right h1 h
  have e2:=Int.mul_le_mul_of_nonneg_right h2 h
  constructor
  ·clear m2 m3 m4 e2 h1 h2;grind
  ·clear m1 m2 m3 e1 h1 h2;grind
 ·have e1:=Int.mul_le_mul_of_nonpos_right h1 h
  have e2:=Int.mul_le_mul_of_nonpos_right h2 h
  constructor
  ·clear m1 m3 m4 e1 h1 h2;grind
  ·clear m1 m2 m4 e2 h1 h2;grind
theorem axis_in {x0 x1 px vX vD n d lo hi cx : Int} (hd : 0 < d) (hD : 0 < vD) (h1 : lo * d ≤ n * vD) (h2 : n * vD ≤ hi * d) (hp : x0 ≤ px ∧ px ≤ x1) (ha : cx * 64 * d ≤ px * d + n * vX ∧ px * d + n * vX ≤ (cx * 64 + 64) * d) :
 (span (reachP x0 x1 vX vD lo hi).1 (reachP x0 x1 vX vD lo hi).2).1≤cx∧cx≤(span (reachP x0 x1 vX vD lo hi).1 (reachP x0 x1 vX vD lo hi).2).2:=by
 obtain ⟨k1,k2⟩:=axis_mid (vX:=vX) h1 h2 hd
 unfold span reachP
 generalize min (lo * vX) (hi * vX)=M at *
 generalize max (lo * vX) (hi * vX)=N at *
 have p1:=Int.mul_le_mul_of_nonneg_right hp.1 (Int.le_of_lt hd)
 have p2:=Int.mul_le_mul_of_nonneg_right hp.2 (Int.le_of_lt hd)
 have q1 : n * vX≤(cx * 64 + 64 - x0) * d:=by grind
 have q2 : (cx * 64 - x1) * d≤n * vX:=by grind
 have r1:=Int.mul_le_mul_of_nonneg_right q1 (Int.le_of_lt hD)
 have r2:=Int.mul_le_mul_of_nonneg_right q2 (Int.le_of_lt hD)
 have s1 : M * d≤(cx * 64 + 64 - x0) * vD * d:=by grind
 have s2 : (cx * 64 - x1) * vD * d≤N * d:=by grind
 have t1:=Int.le_of_mul_le_mul_right s1 hd
 have t2:=Int.le_of_mul_le_mul_right s2 hd
 have u1 : M / vD≤cx * 64 + 64 - x0:=Int.ediv_le_of_le_mul hD t1
 have u2 : cx * 64 - x1≤N / vD:=(Int.le_ediv_iff_mul_le hD).2 t2
 simp only
 omega
theorem axis_far {px vX vD n d hi cx : Int} (hd : 0 < d) (hn : 0 ≤ n) (hv : -vD ≤ vX ∧ vX ≤ vD) (h2 : n * vD ≤ hi * d) (ha : cx * 64 * d ≤ px * d + n * vX ∧ px * d + n * vX ≤ (cx * 64 + 64) * d) : cx * 64 ≤ px + hi ∧ px - hi ≤ cx * 64 + 64 := by
 have e1:=Int.mul_le_mul_of_nonneg_left hv.2 hn
 have e2:=Int.mul_le_mul_of_nonneg_left hv.1 hn
 have f1 : cx * 64 * d≤(px + hi) * d:=by grind
 have f2 : (px - hi) * d≤(cx * 64 + 64) * d:=by grind
 exact ⟨Int.le_of_mul_le_mul_right f1 hd,Int.le_of_mul_le_mul_right f2 hd⟩
theorem sqC_eq (c : Cell) : sqC c = ⟨c.X * 64, c.Y * 64, c.X * 64 + 64, c.Y * 64 + 64⟩ := by unfold sqC; rfl
theorem sqC_near {c : Cell} (h : (-16000 ≤ c.X ∧ c.X ≤ 16000) ∧ (-16000 ≤ c.Y ∧ c.Y ≤ 16000)) : sRect (sqC c) = true := by
 unfold sqC
 rw [sRect_iff]
 simp only
 omega
theorem sweep_mem {r : Rect} {v : Vector} {lo hi : Int} {c : Cell} {p : Point} (hr : (-500000 ≤ r.X0 ∧ r.X1 ≤ 500000) ∧ (-500000 ≤ r.Y0 ∧ r.Y1 ≤ 500000)) (hv : vVec v = true) (h0 : 0 ≤ lo) (h1 : lo ≤ hi) (h2 : hi ≤ 2048) (hp : inR r p.X p.Y) (hm : metQ p v lo hi (sqC c)) : c ∈ sweepL r v lo hi := by
 obtain ⟨n,d,hd,hn,e1,e2,a1,a2⟩:=hm
 have hV:=vVec_iff.1 hv
 have hpx:=hp.1
 have hpy:=hp.2
 have sq:=sqC_eq c
 rw [sq] at a1 a2
 simp only at a1 a2
 have f1:=axis_far (vD:=v.D) (vX:=v.X) hd hn (by omega) e2 a1
 have f2:=axis_far (vD:=v.D) (vX:=v.Y) hd hn (by omega) e2 a2
 unfold sweepL swX swY
 rw [mem_gridL]
 refine ⟨?_,axis_in hd (by omega) e1 e2 hpx a1,axis_in hd (by omega) e1 e2 hpy a2⟩
 have s1 : sRect (sqC c)=true:=sqC_near (by omega)
 have s2 : sRect r=true:=by rw [sRect_iff];omega
 have s3 : sRect ⟨(sqC c).X0 - r.X1,(sqC c).Y0 - r.Y1,(sqC c).X1 - r.X0,(sqC c).Y1 - r.Y0⟩ = true:=by
  rw [sq,sRect_iff]
  simp only
  omega
 unfold hitR minusR
 rw [if_pos ⟨s1,s2,s3⟩]
 simp only [Bool.true_and]
 rw [meets_iff (sPoint_iff.2 (by simp)) hv s3 h0 h1 (by omega),sq]
 refine ⟨n,d,hd,hn,e1,e2,?_⟩
 have q1:=Int.mul_le_mul_of_nonneg_right hpx.1 (Int.le_of_lt hd)
 have q2:=Int.mul_le_mul_of_nonneg_right hpx.2 (Int.le_of_lt hd)
 have q3:=Int.mul_le_mul_of_nonneg_right hpy.1 (Int.le_of_lt hd)
 have q4:=Int.mul_le_mul_of_nonneg_right hpy.2 (Int.le_of_lt hd)
 obtain ⟨a3,a4⟩:=a1
 obtain ⟨a5,a6⟩:=a2
 refine ⟨⟨?_,?_⟩,?_,?_⟩
 ·simp only;clear q1 q3 q4 a4 a5 a6 e1 e2 f1 f2;grind
 ·simp only;clear q2 q3 q4 a3 a5 a6 e1 e2 f1 f2;grind
 ·simp only;clear q1 q2 q3 a3 a4 a6 e1 e2 f1 f2;grind
 ·simp only;clear q1 q2 q4 a3 a4 a5 e1 e2 f1 f2;grind
end Sound
end Go.Proofs.YtkflmidichikjaaGreatDoor.V
end
section
namespace Go.Proofs.YtkflmidichikjaaGreatDoor.V
open Go.RowKit
set_option maxRecDepth 100000
open Heading BoxP Drive Seg PlanP RayP
namespace Sound
theorem traced_iff {a : Point} {v : Vector} {lo m : Int} {c : Cell} (ha : (-500000 ≤ a.X ∧ a.X ≤ 500000) ∧ (-500000 ≤ a.Y ∧ a.Y ≤ 500000)) (hv : vVec v = true) (h0 : 0 ≤ lo) (h1 : lo ≤ m) (h2 : m ≤ 2048) : c ∈ (tracedL a v lo m).1 ↔ metQ a v lo m (sqC c) := by
 have hvp : vPoint a=true:=vPoint_iff.2 (by omega)
 unfold tracedL
 rw [if_neg (by simp [hvp,hv]),if_neg (by omega)]
 simp only
 constructor
 ·intro hc
  unfold sweepL at hc
  obtain ⟨hh,-,-⟩:=mem_gridL.1 hc
  unfold hitR at hh
  simp only [Bool.and_eq_true] at hh
  obtain ⟨g1,g2⟩:=hh
  unfold minusR at g1 g2
  split at g1
  ·rename_i hs
   rw [if_pos hs] at g2
   obtain ⟨n,d,hd,hn,e1,e2,a1,a2⟩:=(meets_iff (sPoint_iff.2 (by simp)) hv hs.2.2 h0 h1 (by omega)).1 g2
   refine ⟨n,d,hd,hn,e1,e2,?_⟩
   have sq:=sqC_eq c
   rw [sq] at a1 a2 ⊢
   unfold ptR at a1 a2
   simp only at a1 a2
   unfold atT
   simp only
   obtain ⟨a3,a4⟩:=a1
   obtain ⟨a5,a6⟩:=a2
   refine ⟨⟨?_,?_⟩,?_,?_⟩
   ·clear a4 a5 a6 e1 e2;grind
   ·clear a3 a5 a6 e1 e2;grind
   ·clear a3 a4 a6 e1 e2;grind
   ·clear a3 a4 a5 e1 e2;grind
  ·cases g1
 ·intro hm
  exact sweep_mem (r:=ptR a) (p:=a) (by unfold ptR;simp only;omega) hv h0 h1 h2 (by unfold inR ptR;simp) hm
theorem dist_cross {t : Fraction} {v : Vector} : (distF t v).N * t.D = t.N * v.D * (distF t v).D := by
 unfold distF
 simp only
 have h1 : gcdI (t.N * v.D) t.D ∣ t.N * v.D:=by unfold gcdI;exact Int.ofNat_dvd_left.2 (Nat.gcd_dvd_left _ _)
 have h2 : gcdI (t.N * v.D) t.D ∣ t.D:=by unfold gcdI;exact Int.ofNat_dvd_left.2 (Nat.gcd_dvd_right _ _)
 have e1:=Int.ediv_mul_cancel h1
 have e2:=Int.ediv_mul_cancel h2
 generalize gcdI (t.N * v.D) t.D=g at *
 generalize t.N * v.D / g=x at *
 generalize t.D / g=y at *
 generalize t.N * v.D=z at *
 rw [← e1,← e2]
 grind
theorem dst_spec {a : Point} {v : Vector} {c : Cell} {m : Int} (ha : (0 ≤ a.X ∧ a.X ≤ 4096) ∧ (0 ≤ a.Y ∧ a.Y ≤ 4096)) (hv : vVec v = true) (h0 : 0 ≤ m) (h2 : m ≤ 2048) (hm : metQ a v 0 m (sqC c)) :
 (0 < (dst a v c).D∧0≤(dst a v c).N∧(dst a v c).N≤m * (dst a v c).D)∧(∃ n d : Int,0 < d∧0≤n∧(dst a v c).N * d=n * v.D * (dst a v c).D∧atT a v n d (sqC c))∧∀ n d : Int,0 < d→0≤n→n * v.D≤2048 * d→atT a v n d (sqC c)→(dst a v c).N * d≤n * v.D * (dst a v c).D:=by
 have hV:=vVec_iff.1 hv
 have hc : c∈(tracedL a v 0 m).1:=(traced_iff (by omega) hv (Int.le_refl _) h0 h2).2 hm
 obtain ⟨b1,b2,b3,b4,b5,b6,b7⟩:=traced_bnd (by omega) hc
 obtain ⟨n,d,hd,hn,e1,e2,e3⟩:=hm
 have hV1:=axis_far (vD:=v.D) (vX:=v.X) (px:=a.X) (cx:=c.X) hd hn (by omega) e2 (by have:=e3.1;rw [sqC_eq] at this;exact this)
 have hV2:=axis_far (vD:=v.D) (vX:=v.Y) (px:=a.Y) (cx:=c.Y) hd hn (by omega) e2 (by have:=e3.2;rw [sqC_eq] at this;exact this)
 have hs : sRect (sqC c)=true:=sqC_near (by omega)
 have hp : sPoint a=true:=sPoint_iff.2 (by omega)
 have big : ∀ n d : Int,0 < d→0≤n→n * v.D≤2048 * d→n≤8388608 * d:=by
  intro n d hd hn h
  have : n * 1≤n * v.D:=Int.mul_le_mul_of_nonneg_left hV.1 hn
  omega
 have hmd : m * d≤2048 * d:=Int.mul_le_mul_of_nonneg_right h2 (by omega)
 have hf:=through_yes hp hv hs hd hn (big n d hd hn (by omega)) e3
 obtain ⟨hpos,hle⟩:=through_le hf
 have hd' : dst a v c=distF (through a v (sqC c)).1.lo v:=by unfold dst enter;rw [b1];simp only [hf,if_true]
 have hx:=dist_cross (t:=(through a v (sqC c)).1.lo) (v:=v)
 rw [← hd'] at hx
 have hin : inSp (through a v (sqC c)).1 (through a v (sqC c)).1.lo.N (through a v (sqC c)).1.lo.D:=⟨Int.le_refl _,hle⟩
 obtain ⟨⟨g1,g2⟩,g3⟩:=(through_in hf hpos.1).1 hin
 refine ⟨⟨by omega,b2,b3⟩,⟨_,_,hpos.1,g1,hx,g3⟩,fun n' d' q1 q2 q3 q4=>?_⟩
 have hin2:=(through_in hf q1).2 ⟨⟨q2,big n' d' q1 q2 q3⟩,q4⟩
 have k1:=hin2.1
 have hp1:=hpos.1
 generalize (through a v (sqC c)).1.lo=t at *
 generalize dst a v c=f at *
 have k2:=Int.mul_le_mul_of_nonneg_right k1 (show 0≤v.D * f.D from Int.mul_nonneg (by omega) (by omega))
 have k3 : (f.N * d') * t.D≤(n' * v.D * f.D) * t.D:=by
  have : t.N * d' * (v.D * f.D)=(f.N * t.D) * d':=by rw [hx];grind
  grind
 exact Int.le_of_mul_le_mul_right k3 hp1
theorem fst_spec {p : Plan} {a : Point} {v : Vector} : ∀ {L : List Cell} {s : Hit}, (∀ c ∈ L, 0 < (dst a v c).D) → (s.2.2 = true → 0 < s.1.D) →
 ((L.foldl (fstStep p a v) s).2.2=false→s.2.2=false∧∀ c∈L,at_ p c ≠ 2) ∧
 ((L.foldl (fstStep p a v) s).2.2=true→0 < (L.foldl (fstStep p a v) s).1.D∧(L.foldl (fstStep p a v) s=s∨∃ c∈L,at_ p c=2∧(L.foldl (fstStep p a v) s).1=dst a v c) ∧
  (s.2.2=true→(L.foldl (fstStep p a v) s).1.N * s.1.D≤s.1.N * (L.foldl (fstStep p a v) s).1.D)∧∀ c∈L,at_ p c=2→(L.foldl (fstStep p a v) s).1.N * (dst a v c).D≤(dst a v c).N * (L.foldl (fstStep p a v) s).1.D)
 | [],s,_,hs=>⟨fun h=>⟨h,fun c hc=>(by cases hc)⟩,fun h=>⟨hs h,.inl rfl,fun _=>Int.le_refl _,fun c hc=>(by cases hc)⟩⟩
 | x :: L,s,hL,hs=>by
   have hx:=hL x (by simp)
   have hs' : (fstStep p a v s x).2.2=true→0 < (fstStep p a v s x).1.D:=by
    unfold fstStep
    split
    ·exact hs
    ·split
     ·exact fun _=>hx
     ·exact hs
   obtain ⟨i1,i2⟩:=fst_spec (L:=L) (s:=fstStep p a v s x) (fun c hc=>hL c (by simp [hc])) hs'
   show ((L.foldl (fstStep p a v) (fstStep p a v s x)).2.2=false→_)∧((L.foldl (fstStep p a v) (fstStep p a v s x)).2.2=true→_)
   rw [List.foldl_cons]
   generalize L.foldl (fstStep p a v) (fstStep p a v s x)=f at *
   constructor
   ·intro hf
    obtain ⟨j1,j2⟩:=i1 hf
    unfold fstStep at j1
    split at j1
    ·rename_i hw
     refine ⟨j1,fun c hc=>?_⟩
     rcases List.mem_cons.1 hc with rfl|hc
     ·exact hw
     ·exact j2 c hc
    ·split at j1
     ·cases j1
     ·rename_i hn
      simp only [not_or] at hn
      exact (hn.1 j1).elim
   ·intro hf
    obtain ⟨j0,j1,j2,j3⟩:=i2 hf
    unfold fstStep at j1 j2
    by_cases hw : at_ p x ≠ 2
    ·rw [if_pos hw] at j1 j2
     refine ⟨j0,?_,j2,fun c hc h2=>?_⟩
     ·rcases j1 with h|⟨c,hc,h⟩
      ·exact .inl h
      ·exact .inr ⟨c,by simp [hc],h⟩
     ·rcases List.mem_cons.1 hc with rfl|hc
      ·exact (hw h2).elim
      ·exact j3 c hc h2
    ·rw [if_neg hw] at j1 j2
     have hw2 : at_ p x=2:=by simpa using hw
     by_cases hb : s.2.2=false∨(dst a v x).N * s.1.D < s.1.N * (dst a v x).D
     ·rw [if_pos hb] at j1 j2
      have j2':=j2 rfl
      simp only at j2'
      refine ⟨j0,.inr ?_,fun h=>?_,fun c hc h2=>?_⟩
      ·rcases j1 with h|⟨c,hc,h⟩
       ·exact ⟨x,by simp,hw2,by rw [h]⟩
       ·exact ⟨c,by simp [hc],h⟩
      ·rcases hb with hb|hb
       ·rw [h] at hb;cases hb
       ·exact fr_trans j0 hx (hs h) j2' (Int.le_of_lt hb)
      ·rcases List.mem_cons.1 hc with rfl|hc
       ·exact j2'
       ·exact j3 c hc h2
     ·rw [if_neg hb] at j1 j2
      simp only [not_or,Bool.not_eq_false] at hb
      have j2':=j2 hb.1
      refine ⟨j0,?_,fun _=>j2',fun c hc h2=>?_⟩
      ·rcases j1 with h|⟨c,hc,h⟩
       ·exact .inl h
       ·exact .inr ⟨c,by simp [hc],h⟩
      ·rcases List.mem_cons.1 hc with rfl|hc
       ·exact fr_trans j0 (hs hb.1) hx j2' (Int.not_lt.1 hb.2)
       ·exact j3 c hc h2
end Sound
end Go.Proofs.YtkflmidichikjaaGreatDoor.V
end
