import Derived.Test.YtkflmidichikjaaGreatDoorZbQ35
import Derived.Test.YtkflmidichikjaaGreatDoorZbQ32
import Derived.Test.YtkflmidichikjaaGreatDoorZbQ30
import Derived.Test.YtkflmidichikjaaGreatDoorZbQ22
set_option linter.all false
section
namespace Go.Proofs.YtkflmidichikjaaGreatDoor.V
open Go.RowKit
set_option maxRecDepth 100000
open Heading BoxP Drive Seg PlanP RayP
namespace Sound
theorem met_mono {a : Point} {v : Vector} {lo hi lo' hi' : Int} {r : Rect} (h1 : lo' ≤ lo) (h2 : hi ≤ hi') (h : metQ a v lo hi r) : metQ a v lo' hi' r := by
 obtain ⟨n,d,hd,hn,e1,e2,e3⟩:=h
 have f1:=Int.mul_le_mul_of_nonneg_right h1 (Int.le_of_lt hd)
 have f2:=Int.mul_le_mul_of_nonneg_right h2 (Int.le_of_lt hd)
 exact ⟨n,d,hd,hn,by omega,by omega,e3⟩
theorem first_spec {p : Plan} {a : Point} {v : Vector} {m : Int} (hin : RayP.inR p a = true) (hv : vVec v = true) (h0 : 0 ≤ m) (h2 : m ≤ 2048) :
 ((firstR p a v m).2.2=false→∀ c,at_ p c=2→¬ metQ a v 0 m (sqC c)) ∧
 ((firstR p a v m).2.2=true→0 < (firstR p a v m).1.D∧0≤(firstR p a v m).1.N∧(∃ c,at_ p c=2∧∃ n d : Int,0 < d∧0≤n∧(firstR p a v m).1.N * d=n * v.D * (firstR p a v m).1.D∧atT a v n d (sqC c)) ∧
  ∀ c (n d : Int),at_ p c=2→0 < d→0≤n→n * v.D≤m * d→atT a v n d (sqC c)→(firstR p a v m).1.N * d≤n * v.D * (firstR p a v m).1.D):=by
 have hI:=inR_iff.1 hin
 obtain ⟨w1,w2,_,_⟩:=vPlan_iff.1 hI.1
 have hb : (0≤a.X∧a.X≤4096)∧(0≤a.Y∧a.Y≤4096):=by omega
 have ht : ∀ c,c∈(tracedL a v 0 m).1↔metQ a v 0 m (sqC c):=fun c=>traced_iff (by omega) hv (Int.le_refl _) h0 h2
 have hvp : vPoint a=true:=vPoint_iff.2 (by omega)
 have h3 : (tracedL a v 0 m).2=0:=by
  unfold tracedL
  rw [if_neg (by simp [hv,hvp]),if_neg (by omega)]
 have hL : ∀ c∈(tracedL a v 0 m).1,0 < (dst a v c).D:=fun c hc=>(dst_spec hb hv h0 h2 ((ht c).1 hc)).1.1
 obtain ⟨g1,g2⟩:=fst_spec (p:=p) (a:=a) (v:=v) (L:=(tracedL a v 0 m).1) (s:=hit0) hL (fun h=>by cases h)
 unfold firstR
 rw [if_neg (by simp [hin]),if_neg (by simp [h3])]
 constructor
 ·intro hf c hc hm
  exact (g1 hf).2 c ((ht c).2 hm) hc
 ·intro hf
  obtain ⟨j0,j1,-,j3⟩:=g2 hf
  rcases j1 with h|⟨c,hc,hw,he⟩
  ·rw [h] at hf;cases hf
  ·obtain ⟨⟨k1,k2,k3⟩,k4,-⟩:=dst_spec hb hv h0 h2 ((ht c).1 hc)
   rw [he] at j0 ⊢
   refine ⟨j0,k2,⟨c,hw,k4⟩,fun c' n d hw' hd hn hle hat=>?_⟩
   have hm' : metQ a v 0 m (sqC c'):=⟨n,d,hd,hn,by rw [Int.zero_mul];exact Int.mul_nonneg hn (by have:=(vVec_iff.1 hv).1;omega),hle,hat⟩
   obtain ⟨⟨q1,q2,q3⟩,-,q5⟩:=dst_spec hb hv h0 h2 hm'
   have e1:=j3 c' ((ht c').2 hm') hw'
   rw [he] at e1
   have hmd : m * d≤2048 * d:=Int.mul_le_mul_of_nonneg_right h2 (by omega)
   have e2:=q5 n d hd hn (by omega) hat
   exact fr_trans j0 q1 hd e1 e2
theorem meas_spec {p : Plan} {a : Pose} {k rng err : Int} (hs : standsR p a = true) (hr : 1 ≤ rng ∧ rng ≤ 32) (hk : 0 ≤ k ∧ k ≤ 255) (hv : vVec (beam a.H k) = true) :
 ((measR p a k rng err).1 = -1→∀ c,at_ p c=2→¬ metQ ⟨a.X,a.Y⟩ (beam a.H k) 0 (1024 - rng) (sqC c)) ∧
 ((measR p a k rng err).1 ≠ -1→(0≤(measR p a k rng err).1∧(measR p a k rng err).1≤1024)∧(∀ c,at_ p c=2→¬ befQ ⟨a.X,a.Y⟩ (beam a.H k) ((measR p a k rng err).1 - rng) (sqC c)) ∧
  ∃ c,at_ p c=2∧metQ ⟨a.X,a.Y⟩ (beam a.H k) (max 0 ((measR p a k rng err).1 - rng)) ((measR p a k rng err).1 + rng) (sqC c)):=by
 have hin : RayP.inR p ⟨a.X,a.Y⟩ = true:=by
  unfold standsR at hs
  simp only [Bool.and_eq_true] at hs
  exact hs.1
 obtain ⟨f1,f2⟩:=first_spec (m:=1024) hin hv (by omega) (by omega)
 unfold measR lookR
 rw [if_neg (by simp [hs]),if_neg (by simp only [between,Bool.and_eq_false_iff,decide_eq_false_iff_not];omega)]
 generalize firstR p ⟨a.X,a.Y⟩ (beam a.H k) 1024=F at *
 generalize beam a.H k=v at *
 have hV:=(vVec_iff.1 hv).1
 by_cases hF : F.2.2=false
 ·rw [if_pos hF]
  exact ⟨fun _ c hc hm=>f1 hF c hc (met_mono (Int.le_refl _) (by omega) hm),fun h=>(h rfl).elim⟩
 ·rw [if_neg hF]
  obtain ⟨D0,N0,⟨c0,w0,n0,d0,hd0,hn0,he0,hat0⟩,hmin⟩:=f2 (by simpa using hF)
  obtain ⟨⟨N,D⟩,cc,bb⟩:=F
  simp only at D0 N0 he0 hmin ⊢
  clear f1 f2 hF
  have q1 : N / D * D≤N:=Int.ediv_mul_le _ (by omega)
  have q2 : N < (N / D + 1) * D:=Int.lt_ediv_add_one_mul_self _ D0
  generalize N / D=q at *
  have he : 1 - rng≤min (max err (1 - rng)) rng∧min (max err (1 - rng)) rng≤rng:=by omega
  generalize min (max err (1 - rng)) rng=e at *
  by_cases hz : max (q + e) 0 > 1024
  ·rw [if_pos hz]
   refine ⟨fun _ c hc ⟨n,d,hd,hn,g1,g2,g3⟩=>?_,fun h=>(h rfl).elim⟩
   have g4 : (1024 - rng) * d≤1024 * d:=Int.mul_le_mul_of_nonneg_right (by omega) (by omega)
   have h1:=hmin c n d hc hd hn (by omega) g3
   have h2:=Int.mul_le_mul_of_nonneg_right g2 (Int.le_of_lt D0)
   have h3 : N * d≤(1024 - rng) * D * d:=by grind
   have h4:=Int.le_of_mul_le_mul_right h3 hd
   have h5 : (1024 - rng + 1) * D≤q * D:=Int.mul_le_mul_of_nonneg_right (by omega) (by omega)
   rw [Int.add_mul] at h5
   omega
  ·rw [if_neg hz]
   simp only
   obtain ⟨z,hz'⟩ : ∃ z,z=max (q + e) 0:=⟨_,rfl⟩
   rw [← hz'] at hz ⊢
   refine ⟨fun h=>by omega,fun _=>⟨by omega,fun c hc ⟨n,d,hd,hn,g2,g3⟩=>?_,c0,w0,n0,d0,hd0,hn0,?_,?_,hat0⟩⟩
   ·have hzr : 0 < z - rng:=by
     rcases Int.lt_or_le 0 (z - rng) with h|h
     ·exact h
     ·have:=Int.mul_le_mul_of_nonneg_right h (Int.le_of_lt hd)
      have h2 : 0≤n * v.D:=Int.mul_nonneg hn (by omega)
      omega
    have g4 : (z - rng) * d≤1024 * d:=Int.mul_le_mul_of_nonneg_right (by omega) (by omega)
    have h1:=hmin c n d hc hd hn (by omega) g3
    have h2:=Int.mul_lt_mul_of_pos_right g2 D0
    have h3 : N * d < (z - rng) * D * d:=by grind
    have h4:=Int.lt_of_mul_lt_mul_right h3 (Int.le_of_lt hd)
    have h5 : (z - rng) * D≤q * D:=Int.mul_le_mul_of_nonneg_right (by omega) (by omega)
    omega
   ·have h1 : max 0 (z - rng)≤q∨max 0 (z - rng)=0:=by omega
    rcases h1 with h1|h1
    ·have h5 : max 0 (z - rng) * D≤q * D:=Int.mul_le_mul_of_nonneg_right h1 (by omega)
     generalize max 0 (z - rng)=y at *
     have h6 : y * D≤N:=by omega
     have h7:=Int.mul_le_mul_of_nonneg_right h6 (Int.le_of_lt hd0)
     have h8 : y * d0 * D≤n0 * v.D * D:=by grind
     exact Int.le_of_mul_le_mul_right h8 D0
    ·rw [h1,Int.zero_mul]
     exact Int.mul_nonneg hn0 (by omega)
   ·have h5 : (q + 1) * D≤(z + rng) * D:=Int.mul_le_mul_of_nonneg_right (by omega) (by omega)
    have h6 : N≤(z + rng) * D:=by omega
    have h7:=Int.mul_le_mul_of_nonneg_right h6 (Int.le_of_lt hd0)
    have h8 : n0 * v.D * D≤(z + rng) * d0 * D:=by grind
    exact Int.le_of_mul_le_mul_right h8 D0
end Sound
end Go.Proofs.YtkflmidichikjaaGreatDoor.V
end
section
namespace Go.Proofs.YtkflmidichikjaaGreatDoor.V
open Go.RowKit
set_option maxRecDepth 100000
open Heading BoxP Drive Seg PlanP RayP
namespace Sound
theorem dir_v (h : Int) : vVec (dir h) = true := by
 have all : ∀ i : _root_.Fin 256,vVec (dir (i.val : Int))=true:=by decide +kernel
 have e : dir h=dir (((h % 256).toNat : Nat) : Int):=by
  unfold dir
  rw [show (((h % 256).toNat : Nat) : Int) % 256=h % 256 by omega]
 rw [e]
 exact all ⟨(h % 256).toNat,by omega⟩
theorem sq_le {x d : Int} (hd : 0 ≤ d) (h : x * x ≤ d * d) : -d ≤ x ∧ x ≤ d := by
 constructor
 ·rcases Int.lt_or_le x (-d) with h1|h1
  ·have h2 : (d + 1) * (d + 1)≤(-x) * (-x):=Int.mul_le_mul (by omega) (by omega) (by omega) (by omega)
   have : (-x) * (-x)=x * x:=by grind
   have h3 : (d + 1) * (d + 1)=d * d + 2 * d + 1:=by grind
   omega
  ·exact h1
 ·rcases Int.lt_or_le d x with h1|h1
  ·have h2 : (d + 1) * (d + 1)≤x * x:=Int.mul_le_mul (by omega) (by omega) (by omega) (by omega)
   have h3 : (d + 1) * (d + 1)=d * d + 2 * d + 1:=by grind
   omega
  ·exact h1
theorem lowest_v {x y d : Int} (hd : 1 ≤ d) (h : x * x + y * y = d * d) : 1 ≤ (lowest x y d).D ∧ (lowest x y d).D ≤ d ∧ (lowest x y d).X * (lowest x y d).X + (lowest x y d).Y * (lowest x y d).Y = (lowest x y d).D * (lowest x y d).D := by
 have hg1:=(gcdI_pos (g:=d) (n:=x) hd).1
 have hg:=gcdI_pos (g:=gcdI d x) (n:=y) hg1
 have d1 : gcdI (gcdI d x) y ∣ gcdI d x:=by
  conv=>lhs;unfold gcdI
  exact Int.ofNat_dvd_left.2 (Nat.gcd_dvd_left _ _)
 have d2 : gcdI (gcdI d x) y ∣ y:=by
  conv=>lhs;unfold gcdI
  exact Int.ofNat_dvd_left.2 (Nat.gcd_dvd_right _ _)
 have d3 : gcdI d x ∣ d:=by unfold gcdI;exact Int.ofNat_dvd_left.2 (Nat.gcd_dvd_left _ _)
 have d4 : gcdI d x ∣ x:=by unfold gcdI;exact Int.ofNat_dvd_left.2 (Nat.gcd_dvd_right _ _)
 have e1:=Int.tdiv_mul_cancel (Int.dvd_trans d1 d4)
 have e2:=Int.tdiv_mul_cancel d2
 have e3:=Int.ediv_mul_cancel (Int.dvd_trans d1 d3)
 unfold lowest
 simp only
 generalize gcdI (gcdI d x) y=g at *
 generalize x.tdiv g=X at *
 generalize y.tdiv g=Y at *
 generalize d / g=D at *
 have hD : 1≤D:=by
  rcases Int.lt_or_le D 1 with h1|h1
  ·have : D * g≤0 * g:=Int.mul_le_mul_of_nonneg_right (by omega) (by omega)
   omega
  ·exact h1
 refine ⟨hD,?_,?_⟩
 ·have : D * 1≤D * g:=Int.mul_le_mul_of_nonneg_left hg.1 (by omega)
  omega
 ·have hgg : 0 < g * g:=Int.mul_pos (by omega) (by omega)
  have : (X * X + Y * Y) * (g * g)=(D * D) * (g * g):=by
   rw [← e1,← e2,← e3] at h
   grind
  exact Int.eq_of_mul_eq_mul_right (by omega) this
theorem beam_v (h m : Int) : vVec (beam h m) = true := by
 have a:=vVec_iff.1 (dir_v h)
 have b:=vVec_iff.1 (dir_v m)
 have hA:=dir_bnd h
 have hB:=dir_bnd m
 unfold beam turn
 rw [if_pos ⟨dir_v h,dir_v m⟩]
 have hDD:=mul_bnd (a:=(dir h).D) (b:=(dir m).D) (A:=8192) (B:=8192) (by omega) (by omega)
 have h1 : 1≤(dir h).D * (dir m).D:=Int.mul_pos (by omega) (by omega)
 have h2 : ((dir h).X * (dir m).X - (dir h).Y * (dir m).Y) * ((dir h).X * (dir m).X - (dir h).Y * (dir m).Y) + ((dir h).X * (dir m).Y + (dir h).Y * (dir m).X) * ((dir h).X * (dir m).Y + (dir h).Y * (dir m).X)=(dir h).D * (dir m).D * ((dir h).D * (dir m).D):=by
  have e1:=a.2.2.2.2.2.2
  have e2:=b.2.2.2.2.2.2
  have e3 : (dir h).D * (dir m).D * ((dir h).D * (dir m).D)=((dir h).D * (dir h).D) * ((dir m).D * (dir m).D):=by grind
  rw [e3,← e1,← e2]
  grind
 have hl:=lowest_v h1 h2
 rw [if_neg (by omega)]
 simp only
 generalize lowest _ _ _=v at *
 obtain ⟨v1,v2,v3⟩:=hl
 have x0 : 0≤v.X * v.X:=by
  rcases Int.le_total 0 v.X with h|h
  ·exact Int.mul_nonneg h h
  ·have:=Int.mul_nonneg (show 0≤-v.X by omega) (show 0≤-v.X by omega);rwa [Int.neg_mul_neg] at this
 have y0 : 0≤v.Y * v.Y:=by
  rcases Int.le_total 0 v.Y with h|h
  ·exact Int.mul_nonneg h h
  ·have:=Int.mul_nonneg (show 0≤-v.Y by omega) (show 0≤-v.Y by omega);rwa [Int.neg_mul_neg] at this
 have b1:=sq_le (x:=v.X) (d:=v.D) (by omega) (by omega)
 have b2:=sq_le (x:=v.Y) (d:=v.D) (by omega) (by omega)
 exact vVec_iff.2 ⟨v1,by omega,b1.1,b1.2,b2.1,b2.2,v3⟩
def trueB (p : Plan) (a : Pose) (rng : Int) (b : Beam) : Prop :=
 (0≤b.Mark∧b.Mark≤255) ∧
 (b.Reading = -1→∀ c,at_ p c=2→¬ metQ ⟨a.X,a.Y⟩ (beam a.H b.Mark) 0 (1024 - rng) (sqC c)) ∧
 (b.Reading ≠ -1→(0≤b.Reading∧b.Reading≤1024)∧(∀ c,at_ p c=2→¬ befQ ⟨a.X,a.Y⟩ (beam a.H b.Mark) (b.Reading - rng) (sqC c)) ∧
  ∃ c,at_ p c=2∧metQ ⟨a.X,a.Y⟩ (beam a.H b.Mark) (max 0 (b.Reading - rng)) (b.Reading + rng) (sqC c))
theorem meas_ok {p : Plan} {a : Pose} {k rng err : Int} (hs : standsR p a = true) (hr : 1 ≤ rng ∧ rng ≤ 32) (hk : 0 ≤ k ∧ k ≤ 255) : (measR p a k rng err).2 = 0 := by
 unfold measR
 rw [if_neg (by simp [hs]),if_neg (by simp only [between,Bool.and_eq_false_iff,decide_eq_false_iff_not];omega)]
 split
 ·rfl
 ·split<;>rfl
theorem mapE_mem {α β : Type} {f : Nat → α → β × Int} : ∀ {L : List α} {i : Nat}, ∀ y ∈ (mapE f L i).1, ∃ (j : Nat) (x : α), x ∈ L ∧ y = (f j x).1
 | [],_,y,h=>by
   unfold mapE at h
   cases h
 | x :: r,i,y,h=>by
   unfold mapE at h
   split at h
   ·cases h
   ·split at h
    ·cases h
    ·rcases List.mem_cons.1 h with rfl|h
     ·exact ⟨i,x,by simp,rfl⟩
     ·obtain ⟨j,z,hz,e⟩:=mapE_mem (L:=r) y h
      exact ⟨j,z,by simp [hz],e⟩
theorem scan_true {p : Plan} {a : Pose} {M E : List Int} {rng : Int} (hs : standsR p a = true) (hr : 1 ≤ rng ∧ rng ≤ 32) (hM : ∀ m ∈ M, 0 ≤ m ∧ m ≤ 255) : ∀ b ∈ (sweepR p a M rng E).1, trueB p a rng b := by
 intro b hb
 unfold sweepR at hb
 split at hb
 ·cases hb
 ·obtain ⟨j,m,hm,rfl⟩:=mapE_mem b hb
  unfold swpF
  have hk:=hM m hm
  obtain ⟨h1,h2⟩:=meas_spec (err:=errAt E j) hs hr hk (beam_v a.H m)
  exact ⟨hk,h1,h2⟩
end Sound
end Go.Proofs.YtkflmidichikjaaGreatDoor.V
end
section
namespace Go.Proofs.YtkflmidichikjaaGreatDoor.V
open Go.RowKit
set_option maxRecDepth 100000
set_option maxHeartbeats 16000000
open Heading BoxP Drive PlanP Known Contr Loc Jou Atl RobotP Mon Mot Sys
namespace Sys
structure okS (S : SS) : Prop where
 (h1 : S.rob.p.cells.length≤1000000000) (h2 : S.marks.length≤32) (h3 : S.marks.any wrongM=false) (h4 : 0≤S.rob.n∧S.rob.n≤1000000) (h5 : 0≤S.rob.bumps∧S.rob.bumps≤1000000)
 (h6 : S.ft.set.length≤1000000000) (h7 : S.ft.p.cells.length≤1000000000) (h8 : 0≤S.mon.age∧S.mon.age≤1073741824) (h9 : S.je.length≤1000000)
 (h10 : 1≤S.every) (h11 : 0≤S.ticks∧S.ticks≤1000000) (h12 : 0≤S.scans) (h13 : lkM S.sc S.scans=none) (h14 : lkM S.pl S.scans=none) (h15 : lastE S.je < S.rob.n + 1)
end Sys
theorem gate_ok {m : Mon.St} {c : Command} {s : Bool} : vCmd (gate m c s) = true := by
 unfold gate
 split
 ·rename_i h
  exact h.2.2
 ·exact vCmd_iff.2 (by decide)
theorem tick_no1 {g : Gh} {S : SS} {t f : Int} {au sp rs : Bool} {a b c d : Int} {A : Option Addr} {k : Nat} {E : List Int} (h : vCmd ⟨t, f⟩ = false) :
 CMe 13 Unit true (fun _=>[.p 3 0,.a [I t,I f,B au,B sp,B rs,I a,I b,I c,I d,.fz A k 1 (fl ie E)]]) (fun _=>sysO g S) (fun _=>S.jb.length≤1000000000) Unit (fun _ _=>.t [.a [I 0,I 0,I 0,I 0,I 0,I 0,B false,nilS,I 0,B false,I 0],I 1]) (fun _ _=>sysO g S):=⟨fun _ p1=>by
 dsimp only [sysO] at *
 have h':=cmd_no h
 refine CM.of Tryz.func13 rfl tabOk rfl rfl rfl rfl (by simp [SV.nms,SV.nm]) fun w_ M_ π_ G0_=>?_
 refine roA (a1 ?_)
 all_goals intros
 refine Fin_ja () ?_
 conv=>whnf
 exact ⟨rfl,rfl,rfl⟩⟩
end Go.Proofs.YtkflmidichikjaaGreatDoor.V
end
section
namespace Go.Proofs.YtkflmidichikjaaGreatDoor.V
open Go.RowKit
set_option maxRecDepth 100000
open Heading BoxP Drive PlanP FloorP RayP RobotP Contr
theorem mapE_mem {α β : Type} {f : Nat → α → β × Int} {y : β} : ∀ {M : List α} {s : Nat}, y ∈ (mapE f M s).1 → ∃ i x, x ∈ M ∧ y = (f i x).1 ∧ (f i x).2 = 0
 | [],_,h=>by simp [mapE] at h
 | x :: r,s,h=>by
   unfold mapE at h
   split at h
   ·simp at h
   ·rename_i h0
    split at h
    ·simp at h
    ·rcases List.mem_cons.1 h with rfl|h
     ·exact ⟨s,x,by simp,rfl,by simpa using h0⟩
     ·obtain ⟨i,x',h1,h2⟩:=mapE_mem h
      exact ⟨i,x',by simp [h1],h2⟩
theorem mapE_len' {α β : Type} {f : Nat → α → β × Int} : ∀ (M : List α) (s : Nat), (mapE f M s).1.length ≤ M.length
 | [],_=>by simp [mapE]
 | x :: r,s=>by
   have:=mapE_len' (f:=f) r (s + 1)
   unfold mapE
   split
   ·simp
   ·split
    ·simp
    ·simp only [List.length_cons];omega
theorem sweep_len32 {p : Plan} {a : Pose} {M E : List Int} {rng : Int} : (sweepR p a M rng E).1.length ≤ 32 := by
 unfold sweepR
 split
 ·simp
 ·have:=mapE_len' (f:=swpF p a rng E) M 0
  omega
theorem meas_ok {p : Plan} {a : Pose} {k rng err : Int} (h : (measR p a k rng err).2 = 0) : -1 ≤ (measR p a k rng err).1 ∧ (measR p a k rng err).1 ≤ 1024 := by
 unfold measR at h ⊢
 split at h
 ·cases h
 ·rename_i h1
  rw [if_neg h1]
  split at h
  ·cases h
  ·rename_i h2
   rw [if_neg h2]
   split
   ·simp
   ·split
    ·simp
    ·rename_i h3
     simp only
     omega
theorem scan_ok {R : Rob} {c : Command} {s : Slip} {M E : List Int} (hM : M.any wrongM = false) : vScan (scanR R c s M E) = true ∧ (scanR R c s M E).length ≤ 32 := by
 unfold scanR
 have hl:=sweep_len32 (p:=R.p) (a:=(stepD R.p R.at_ c (clip R.b s).1).1) (M:=M) (E:=E) (rng:=R.b.Range)
 refine ⟨vScan_iff.2 ⟨fun b hb=>?_,hl⟩,hl⟩
 unfold sweepR at hb
 split at hb
 ·cases hb
 ·obtain ⟨i,x,h1,h2,h3⟩:=mapE_mem hb
  have hx : wrongM x=false:=by
   have:=List.any_eq_false.1 hM x h1
   simpa using this
  unfold swpF at h2 h3
  simp only at h2 h3
  have:=meas_ok h3
  unfold wrongM at hx
  simp only [Bool.or_eq_false_iff,decide_eq_false_iff_not] at hx
  refine vBeam_iff.2 ?_
  rw [h2]
  simp only
  omega
end Go.Proofs.YtkflmidichikjaaGreatDoor.V
end
section
namespace Go.Proofs.YtkflmidichikjaaGreatDoor.V
open Go.RowKit
set_option maxRecDepth 100000
open Heading BoxP Drive PlanP Contr Jou Wire
theorem uint_lt : ∀ (f k : Nat) (n : Int), 0 ≤ n → n < 128 ^ (k + 1) → k ≤ f → (uintN f n).length ≤ k + 1
 | 0,k,n,_,_,_=>by simp [uintN]
 | f + 1,k,n,h0,h1,h2=>by
   unfold uintN
   split
   ·rename_i h3
    cases k with
    | zero=>omega
    | succ k =>
      have h4 : n / 128 < 128 ^ (k + 1):=by
       rw [Int.pow_succ] at h1
       omega
      have:=uint_lt f k (n / 128) (by omega) h4 (by omega)
      simp only [List.length_cons]
      omega
   ·simp
theorem uintB_lt {k : Nat} {n : Int} (h0 : 0 ≤ n) (h1 : n < 128 ^ (k + 1)) (h2 : k ≤ 9) : (uintB n).length ≤ k + 1 := by
 unfold uintB
 exact uint_lt 9 k n h0 h1 h2
theorem xor0 {a : Int} (h0 : 0 ≤ a) (h1 : a < 18446744073709551616) : bits .xor .u64 a 0 = a := by
 have h : (BitVec.ofInt 64 a ^^^ BitVec.ofInt 64 0).toNat=a.toNat:=by
  simp [BitVec.toNat_ofInt]
  omega
 show IntKind.u64.wrap ((BitVec.ofInt 64 a ^^^ BitVec.ofInt 64 0).toNat : Nat)=a
 rw [h]
 unfold IntKind.wrap
 simp [IntKind.bits,IntKind.signed]
 omega
theorem intB_pos {n : Int} {k : Nat} (h0 : 0 ≤ n) (h1 : n * 2 < 128 ^ (k + 1)) (h2 : k ≤ 8) : (intB n).length ≤ k + 1 := by
 have hk : (128 : Int) ^ (k + 1)≤128 ^ 9:=by
  have : (128 : Nat) ^ (k + 1)≤128 ^ 9:=Nat.pow_le_pow_right (by decide) (by omega)
  exact_mod_cast this
 have h9 : (128 : Int) ^ 9=9223372036854775808:=rfl
 have hn : n * 2 < 9223372036854775808:=by omega
 unfold intB
 rw [show n / 9223372036854775808 % 18446744073709551616=0 by omega,show n % 18446744073709551616 * 2 % 18446744073709551616=n * 2 by omega,xor0 (by omega) (by omega)]
 exact uintB_lt (by omega) h1 (by omega)
theorem intB_small {u : Int} (h : -32 ≤ u ∧ u ≤ 32) : (intB u).length = 1 := by
 have all : ∀ i : _root_.Fin 65,(intB ((i.val : Int) - 32)).length=1:=by decide +kernel
 have:=all ⟨(u + 32).toNat,by omega⟩
 simp only at this
 rwa [show (((u + 32).toNat : Nat) : Int) - 32=u by omega] at this
theorem beamB_len {b : Beam} (h : vBeam b = true) : (beamB b).length ≤ 4 := by
 obtain ⟨h1,h2⟩:=vBeam_iff.1 h
 have e1:=uintB_lt (k:=1) (n:=b.Mark) (by omega) (by have : (128 : Int) ^ (1 + 1)=16384:=rfl;omega) (by omega)
 have e2:=uintB_lt (k:=1) (n:=b.Reading + 1) (by omega) (by have : (128 : Int) ^ (1 + 1)=16384:=rfl;omega) (by omega)
 simp only [beamB,List.length_append]
 omega
theorem beamsB_len : ∀ {s : List Beam}, (∀ b ∈ s, vBeam b = true) → (s.flatMap beamB).length ≤ 4 * s.length
 | [],_=>by simp
 | b :: r,h=>by
   have h1:=beamB_len (h b (by simp))
   have h2:=beamsB_len (s:=r) fun x hx=>h x (by simp [hx])
   simp only [List.flatMap_cons,List.length_append,List.length_cons]
   omega
theorem encB_256 {t u f : Int} {b : Bool} {s : List Beam} (ht : 0 ≤ t ∧ t ≤ 1000000000) (hc : vCmd ⟨u, f⟩ = true) (hs : Contr.vScan s = true) : (encB t u f b s).length ≤ 137 := by
 obtain ⟨h1,h2⟩:=vScan_iff.1 hs
 obtain ⟨h3,h4⟩:=vCmd_iff.1 hc
 simp only at h3 h4
 have e1:=intB_pos (k:=4) (n:=t) ht.1 (by have : (128 : Int) ^ (4 + 1)=34359738368:=rfl;omega) (by omega)
 have e2:=intB_small h3
 have e3:=intB_small (u:=f) ⟨by omega,h4.2⟩
 have e4:=uintB_lt (k:=0) (n:=(s.length : Int)) (by omega) (by have : (128 : Int) ^ (0 + 1)=128:=rfl;omega) (by omega)
 have e5:=beamsB_len h1
 unfold encB
 simp only [List.length_append,List.length_cons,List.length_nil]
 omega
theorem frm_256 {t u f : Int} {b : Bool} {s : List Beam} (ht : 0 ≤ t ∧ t ≤ 1000000000) (hc : vCmd ⟨u, f⟩ = true) (hs : Contr.vScan s = true) : (frmJ t u f b s).length ≤ 256 := by
 have h1:=encB_256 (b:=b) ht hc hs
 have h2:=frameB_len (k:=1) (X:=encB t u f b s)
 unfold frmJ
 omega
end Go.Proofs.YtkflmidichikjaaGreatDoor.V
end
section
namespace Go.Proofs.YtkflmidichikjaaGreatDoor.V
open Go.RowKit
set_option maxRecDepth 100000
set_option maxHeartbeats 16000000
open Heading BoxP Drive PlanP Known Contr Loc Jou Atl RobotP Mon Mot Sys
namespace Sys
def cmd0 (S : SS) (i : Inp) : Command := gate (monT S i) i.want false
def cmd1 (S : SS) (i : Inp) : Command := gate (monT S i) i.want (safeP S.ft.p S.ft.set i.want S.bd).1
end Sys
theorem cmd_l {S : SS} {i : Inp} (h : S.ft.lost = true) : cmdT S i = cmd0 S i := by unfold cmdT cmd0 safeT; rw [if_pos h]
theorem cmd_n {S : SS} {i : Inp} (h : S.ft.lost = false) : cmdT S i = cmd1 S i := by unfold cmdT cmd1 safeT; rw [if_neg (by simp [h])]
abbrev Sys.Inp.s (i : Inp) (A : Option Addr) (k : Nat) : SV := .a [I i.want.Turn, I i.want.Forward, B i.auto, B i.stop, B i.reset, I i.slip.Turn, I i.slip.Length, I i.slip.X, I i.slip.Y, .fz A k 1 (fl ie i.errs)]
abbrev TickC (g : Gh) (S : SS) (i : Inp) (A : Option Addr) (k : Nat) (cm : Command) (o : Bool) : Prop := okS S ∧ i.errs.length ≤ 1000000000 → CM Tryz.prog 13 true [.p 3 0, i.s A k] (sysO g S)
 (fun q : Gh × Option Addr × Nat=>.t [(repG S i (monT S i) cm o).s q.2,I 0]) (fun q=>sysN q.1 (tickG S i (monT S i) cm o))
theorem see_len {F : Filt} {s : List Beam} (h : F.set.length ≤ 1000000000) : (seeP F s).1.set.length ≤ 1000000000 := by
 unfold seeP
 split
 ·exact h
 ·split
  ·exact h
  ·split
   ·exact h
   ·split
    ·simp only
     unfold compL
     have l1:=refineR_len (p:=F.p) (S:=F.set) (s:=s) (rng:=F.b.Range)
     have l3:=compact_n (X:=(Contr.refineR F.p F.set s F.b.Range 32).1) (most:=16)
     rw [List.length_take]
     omega
    ·exact h
theorem follow_len {F : Filt} {c : Command} {b : Bool} {s : List Beam} {o : Bool} (h : F.set.length ≤ 1000000000) : (followF F c b s o).set.length ≤ 1000000000 := by
 unfold followF
 have m1:=move_len (F:=F) (c:=c) (b:=b)
 split
 ·exact h
 ·split
  ·exact see_len (by omega)
  ·omega
theorem scan_c {g : Gh} {S : SS} {t : Int} (v : Bool) (h : scanS S.every t = v) (h0 : 0 ≤ t) (h1 : 1 ≤ S.every) : CMe 52 Unit true (fun _ => [.p 3 0, I t]) (fun _ => sysO g S) (fun _ => True) Unit (fun _ _ => B v) (fun _ _ => sysO g S) :=
 ⟨fun _ _=>by
  subst h
  exact CMe.out (f:=52) (g,S,t) ⟨h0,h1⟩⟩
theorem rusA {G L : Prop} (h1 : L) (h : Hold L → G := by intro hl; ((conv=>whnf);repeat' (first|with_reducible exact trivial|with_reducible exact Unit.unit|((fail_if_success (with_reducible show CallX _ 52 _ _ _));(fail_if_success (with_reducible show CallX _ 53 _ _ _));(fail_if_success (with_reducible show CallX _ 57 _ _ _));(fail_if_success (with_reducible show CallX _ 58 _ _ _));(fail_if_success (with_reducible show CallX _ 55 _ _ _));(fail_if_success (with_reducible show CallX _ 56 _ _ _));(fail_if_success (with_reducible show CallX _ 59 _ _ _));(first|((with_reducible show CallX _ _ _ _ _);first|refine CallX_i ?_ zSi|(refine AR_has ?_;(first|(refine AR_chk 1 ?_;apply CallX_me (_);(conv=>whnf);refine ⟨⟨rfl,rfl⟩,zSi,by kernel_rfl,fun hb => ?_⟩)|(refine AR_chk 2 ?_;apply CallX_me (_, _);(conv=>whnf);refine ⟨⟨rfl,rfl⟩,zSi,by kernel_rfl,fun hb => ?_⟩)|(refine AR_chk 3 ?_;apply CallX_me (_, _, _);(conv=>whnf);refine ⟨⟨rfl,rfl⟩,zSi,by kernel_rfl,fun hb => ?_⟩)|(refine AR_chk 4 ?_;apply CallX_me (_, _, _, _);(conv=>whnf);refine ⟨⟨rfl,rfl⟩,zSi,by kernel_rfl,fun hb => ?_⟩)|(refine AR_chk 5 ?_;apply CallX_me (_, _, _, _, _);(conv=>whnf);refine ⟨⟨rfl,rfl⟩,zSi,by kernel_rfl,fun hb => ?_⟩)|(refine AR_chk 6 ?_;apply CallX_me (_, _, _, _, _, _);(conv=>whnf);refine ⟨⟨rfl,rfl⟩,zSi,by kernel_rfl,fun hb => ?_⟩)|(refine AR_chk 7 ?_;apply CallX_me (_, _, _, _, _, _, _);(conv=>whnf);refine ⟨⟨rfl,rfl⟩,zSi,by kernel_rfl,fun hb => ?_⟩)|(refine AR_chk 8 ?_;apply CallX_me (_, _, _, _, _, _, _, _);(conv=>whnf);refine ⟨⟨rfl,rfl⟩,zSi,by kernel_rfl,fun hb => ?_⟩)|(refine AR_chk 9 ?_;apply CallX_me (_, _, _, _, _, _, _, _, _);(conv=>whnf);refine ⟨⟨rfl,rfl⟩,zSi,by kernel_rfl,fun hb => ?_⟩)|(refine AR_chk 10 ?_;apply CallX_me (_, _, _, _, _, _, _, _, _, _);(conv=>whnf);refine ⟨⟨rfl,rfl⟩,zSi,by kernel_rfl,fun hb => ?_⟩)|(refine AR_chk 11 ?_;apply CallX_me (_, _, _, _, _, _, _, _, _, _, _);(conv=>whnf);refine ⟨⟨rfl,rfl⟩,zSi,by kernel_rfl,fun hb => ?_⟩)|(refine AR_chk 12 ?_;apply CallX_me (_, _, _, _, _, _, _, _, _, _, _, _);(conv=>whnf);refine ⟨⟨rfl,rfl⟩,zSi,by kernel_rfl,fun hb => ?_⟩)|(refine AR_chk 13 ?_;apply CallX_me (_, _, _, _, _, _, _, _, _, _, _, _, _);(conv=>whnf);refine ⟨⟨rfl,rfl⟩,zSi,by kernel_rfl,fun hb => ?_⟩)|(refine AR_chk 14 ?_;apply CallX_me (_, _, _, _, _, _, _, _, _, _, _, _, _, _);(conv=>whnf);refine ⟨⟨rfl,rfl⟩,zSi,by kernel_rfl,fun hb => ?_⟩)|(refine AR_chk 15 ?_;apply CallX_me (_, _, _, _, _, _, _, _, _, _, _, _, _, _, _);(conv=>whnf);refine ⟨⟨rfl,rfl⟩,zSi,by kernel_rfl,fun hb => ?_⟩)|(refine AR_chk 16 ?_;apply CallX_me (_, _, _, _, _, _, _, _, _, _, _, _, _, _, _, _);(conv=>whnf);refine ⟨⟨rfl,rfl⟩,zSi,by kernel_rfl,fun hb => ?_⟩))))|(first |(with_reducible show xwr64 _ _);refine xwr_a ?_ |(with_reducible show CallX _ _ _ _ _);(first|refine CallX_i ?_ zSi|(refine AQ_has ?_;(first|(refine AQ_chk 1 ?_;apply CallX_mp (_);(conv=>whnf);refine ⟨⟨rfl,rfl⟩,zSi,by kernel_rfl,?_⟩)|(refine AQ_chk 2 ?_;apply CallX_mp (_, _);(conv=>whnf);refine ⟨⟨rfl,rfl⟩,zSi,by kernel_rfl,?_⟩)|(refine AQ_chk 3 ?_;apply CallX_mp (_, _, _);(conv=>whnf);refine ⟨⟨rfl,rfl⟩,zSi,by kernel_rfl,?_⟩)|(refine AQ_chk 4 ?_;apply CallX_mp (_, _, _, _);(conv=>whnf);refine ⟨⟨rfl,rfl⟩,zSi,by kernel_rfl,?_⟩)|(refine AQ_chk 5 ?_;apply CallX_mp (_, _, _, _, _);(conv=>whnf);refine ⟨⟨rfl,rfl⟩,zSi,by kernel_rfl,?_⟩)|(refine AQ_chk 6 ?_;apply CallX_mp (_, _, _, _, _, _);(conv=>whnf);refine ⟨⟨rfl,rfl⟩,zSi,by kernel_rfl,?_⟩)|(refine AQ_chk 7 ?_;apply CallX_mp (_, _, _, _, _, _, _);(conv=>whnf);refine ⟨⟨rfl,rfl⟩,zSi,by kernel_rfl,?_⟩)|(refine AQ_chk 8 ?_;apply CallX_mp (_, _, _, _, _, _, _, _);(conv=>whnf);refine ⟨⟨rfl,rfl⟩,zSi,by kernel_rfl,?_⟩)|(refine AQ_chk 9 ?_;apply CallX_mp (_, _, _, _, _, _, _, _, _);(conv=>whnf);refine ⟨⟨rfl,rfl⟩,zSi,by kernel_rfl,?_⟩)|(refine AQ_chk 10 ?_;apply CallX_mp (_, _, _, _, _, _, _, _, _, _);(conv=>whnf);refine ⟨⟨rfl,rfl⟩,zSi,by kernel_rfl,?_⟩)|(refine AQ_chk 11 ?_;apply CallX_mp (_, _, _, _, _, _, _, _, _, _, _);(conv=>whnf);refine ⟨⟨rfl,rfl⟩,zSi,by kernel_rfl,?_⟩)|(refine AQ_chk 12 ?_;apply CallX_mp (_, _, _, _, _, _, _, _, _, _, _, _);(conv=>whnf);refine ⟨⟨rfl,rfl⟩,zSi,by kernel_rfl,?_⟩)))|(refine CallX_v fun φ => ?_;(conv=>whnf);(repeat ((with_reducible show ViewE _ _ _ _);(first|refine view_w zLn ?_|refine view_pf zSd ?_|refine view_p zSd ?_);(conv=>whnf)));(with_reducible show CallB _ _ _ _ _);refine CallB_i ?_ zSi)) |(with_reducible show CallB _ _ _ _ _);(with_reducible show CallB _ _ _ _ _);refine CallB_i ?_ zSi |(with_reducible show ValX _ _ _ _ _);(first|refine ValX_idxF tabOk rfl rfl zSd zSd ?_|refine ValX_idxS tabOk rfl rfl rfl zLn zSd zSd zSd ?_|refine ValX_loadF tabOk rfl rfl rfl rfl rfl zSd ?_|refine ValX_loadQ tabOk rfl rfl rfl rfl rfl rfl ?_|refine ValX_sl1 tabOk rfl rfl rfl zLn zSd zSd ?_|refine ValX_slLo tabOk rfl rfl rfl zLn zSd zSd zSd ?_|refine ValX_slHi tabOk rfl rfl rfl zLn zSd zSd zSd ?_|refine ValX_max3 rfl ?_|refine ValX_cpl rfl ?_|refine ValX_fzNil tabOk rfl rfl rfl (fun hb=>?_) ?_|refine ValX_bldA rfl rfl ?_ (fun w => by kernel_rfl)|refine ValX_bldB rfl rfl ?_ (fun w => by kernel_rfl)|refine ValX_ixA1 rfl rfl rfl rfl ?_ (fun w => by kernel_rfl)|refine ValX_ixA2 rfl rfl rfl rfl ?_ (fun w => by kernel_rfl)) |(with_reducible show OpX _ _ _ _ _);(first|refine OpX_storeF tabOk rfl rfl rfl (by rfl) (by rfl) zSd ?_|refine OpX_appF tabOk rfl rfl zLn rfl rfl zSe rfl zSd zSd ?_|refine OpX_appP tabOk rfl rfl rfl rfl zSe rfl zSd zSd zSd zSd ?_|refine OpX_build_a tabOk rfl rfl rfl ?_ (by rfl)|refine OpX_make_a tabOk rfl rfl rfl ?_ (by rfl) (by rfl) zSd zSd zSd|refine OpX_build0_a tabOk rfl rfl rfl ?_|refine OpX_nil_a rfl rfl ?_) |(with_reducible show DrawX _ _ _ _ _);refine DrawX_s tabOk folOk ?_ |(with_reducible show DrawS _ _ _ _ _ _ _);refine DrawS_i (by kernel_rfl) ?_ |(with_reducible show ViewE _ _ _ _);(first|refine view_w zLn ?_|refine view_pf zSd ?_|refine view_p zSd ?_) |(with_reducible show xquo64 _ _ _);(first|refine xquo_a ?_|refine xquo_b ?_) |(with_reducible show xrem64 _ _ _);(first|refine xrem_a ?_|refine xrem_b ?_) |(with_reducible show xshr _ _ _ _);(first|refine xshr_1 ?_|refine xshr_32 ?_|refine xshr_6 ?_|refine xshr_7 ?_|refine xshr_8 ?_|refine xshr_63 ?_) |(with_reducible show xshl _ _ _ _);(first|refine xshl_1u ?_|refine xshl_0u ?_|refine xshl_7u ?_) |(with_reducible show andX _ _);refine andX_i ?_ ?_ |(with_reducible show need _ _);refine need_i zSd ?_ |(with_reducible show xwru _ _ _);(first|refine xwru_64 (by omega) (by omega) ?_|refine xwru_32 (by omega) (by omega) ?_|refine xwru_32m ?_) |(with_reducible show xquou _ _ _ _);refine xquou_nn (by omega) (by omega) (by omega) ?_ |(with_reducible show xremu _ _ _);refine xremu_nn (by omega) (by omega) ?_ |(with_reducible show xcv _ _ _);(first|refine xcv_i64 (by omega) (by omega) ?_|refine xcv_u8 (by omega) (by omega) ?_|refine xcv_u32 (by omega) (by omega) ?_|refine xcv_u64 (by omega) (by omega) ?_|refine xcv_u8m ?_|refine xcv_u32m ?_|refine xcv_u64m ?_))|(first |(with_reducible show OpX _ _ _ _ _);(first|refine OpX_clearF tabOk rfl rfl rfl rfl rfl rfl zSd ?_|refine OpX_buildD tabOk rfl rfl rfl rfl (by rfl) ?_|refine OpX_appD tabOk rfl rfl zLd rfl rfl zSf rfl zSd zSd ?_|refine OpX_appZ tabOk rfl rfl rfl rfl (by rfl) zSd zSd zSd ?_) |(with_reducible show ValX _ _ _ _ _);(first|refine ValX_idxD tabOk rfl rfl zSd zSd ?_|refine ValX_loadA tabOk rfl rfl (by rfl) (by rfl) ?_|refine ValX_loadZD tabOk rfl rfl rfl (by rfl) (by rfl) zSd ?_|refine ValX_idxS tabOk rfl rfl rfl (flD_len _ _) zSd zSd zSd ?_|refine ValX_cap0 tabOk rfl rfl ?_|refine ValX_slNil tabOk rfl rfl ?_|refine ValX_fld rfl rfl rfl (fun σ w => by kernel_rfl) ?_|refine ValX_idxL tabOk rfl rfl (by decide) (by simp;done) rfl ?_) |(with_reducible show CallX _ _ _ _ _);(first|(apply CallX_me (.unit);(conv=>whnf);refine ⟨⟨rfl,rfl⟩,zSi,by kernel_rfl,fun hb => ?_⟩)|(refine AQ_has ?_;(first|(refine AQ_chk 1 ?_;apply CallX_mv (_);intro φ;(conv=>whnf);refine ⟨rfl,?_⟩;(repeat ((with_reducible show ViewE _ _ _ _);(first|refine view_w zLn ?_|refine view_pf zSd ?_|refine view_p zSd ?_);(conv=>whnf)));refine ⟨rfl,zSi,by kernel_rfl,?_⟩)|(refine AQ_chk 2 ?_;apply CallX_mv (_, _);intro φ;(conv=>whnf);refine ⟨rfl,?_⟩;(repeat ((with_reducible show ViewE _ _ _ _);(first|refine view_w zLn ?_|refine view_pf zSd ?_|refine view_p zSd ?_);(conv=>whnf)));refine ⟨rfl,zSi,by kernel_rfl,?_⟩)|(refine AQ_chk 3 ?_;apply CallX_mv (_, _, _);intro φ;(conv=>whnf);refine ⟨rfl,?_⟩;(repeat ((with_reducible show ViewE _ _ _ _);(first|refine view_w zLn ?_|refine view_pf zSd ?_|refine view_p zSd ?_);(conv=>whnf)));refine ⟨rfl,zSi,by kernel_rfl,?_⟩)|(refine AQ_chk 4 ?_;apply CallX_mv (_, _, _, _);intro φ;(conv=>whnf);refine ⟨rfl,?_⟩;(repeat ((with_reducible show ViewE _ _ _ _);(first|refine view_w zLn ?_|refine view_pf zSd ?_|refine view_p zSd ?_);(conv=>whnf)));refine ⟨rfl,zSi,by kernel_rfl,?_⟩)|(refine AQ_chk 5 ?_;apply CallX_mv (_, _, _, _, _);intro φ;(conv=>whnf);refine ⟨rfl,?_⟩;(repeat ((with_reducible show ViewE _ _ _ _);(first|refine view_w zLn ?_|refine view_pf zSd ?_|refine view_p zSd ?_);(conv=>whnf)));refine ⟨rfl,zSi,by kernel_rfl,?_⟩)|(refine AQ_chk 6 ?_;apply CallX_mv (_, _, _, _, _, _);intro φ;(conv=>whnf);refine ⟨rfl,?_⟩;(repeat ((with_reducible show ViewE _ _ _ _);(first|refine view_w zLn ?_|refine view_pf zSd ?_|refine view_p zSd ?_);(conv=>whnf)));refine ⟨rfl,zSi,by kernel_rfl,?_⟩)|(refine AQ_chk 7 ?_;apply CallX_mv (_, _, _, _, _, _, _);intro φ;(conv=>whnf);refine ⟨rfl,?_⟩;(repeat ((with_reducible show ViewE _ _ _ _);(first|refine view_w zLn ?_|refine view_pf zSd ?_|refine view_p zSd ?_);(conv=>whnf)));refine ⟨rfl,zSi,by kernel_rfl,?_⟩)|(refine AQ_chk 8 ?_;apply CallX_mv (_, _, _, _, _, _, _, _);intro φ;(conv=>whnf);refine ⟨rfl,?_⟩;(repeat ((with_reducible show ViewE _ _ _ _);(first|refine view_w zLn ?_|refine view_pf zSd ?_|refine view_p zSd ?_);(conv=>whnf)));refine ⟨rfl,zSi,by kernel_rfl,?_⟩)|(refine AQ_chk 9 ?_;apply CallX_mv (_, _, _, _, _, _, _, _, _);intro φ;(conv=>whnf);refine ⟨rfl,?_⟩;(repeat ((with_reducible show ViewE _ _ _ _);(first|refine view_w zLn ?_|refine view_pf zSd ?_|refine view_p zSd ?_);(conv=>whnf)));refine ⟨rfl,zSi,by kernel_rfl,?_⟩)|(refine AQ_chk 10 ?_;apply CallX_mv (_, _, _, _, _, _, _, _, _, _);intro φ;(conv=>whnf);refine ⟨rfl,?_⟩;(repeat ((with_reducible show ViewE _ _ _ _);(first|refine view_w zLn ?_|refine view_pf zSd ?_|refine view_p zSd ?_);(conv=>whnf)));refine ⟨rfl,zSi,by kernel_rfl,?_⟩)|(refine AQ_chk 11 ?_;apply CallX_mv (_, _, _, _, _, _, _, _, _, _, _);intro φ;(conv=>whnf);refine ⟨rfl,?_⟩;(repeat ((with_reducible show ViewE _ _ _ _);(first|refine view_w zLn ?_|refine view_pf zSd ?_|refine view_p zSd ?_);(conv=>whnf)));refine ⟨rfl,zSi,by kernel_rfl,?_⟩)|(refine AQ_chk 12 ?_;apply CallX_mv (_, _, _, _, _, _, _, _, _, _, _, _);intro φ;(conv=>whnf);refine ⟨rfl,?_⟩;(repeat ((with_reducible show ViewE _ _ _ _);(first|refine view_w zLn ?_|refine view_pf zSd ?_|refine view_p zSd ?_);(conv=>whnf)));refine ⟨rfl,zSi,by kernel_rfl,?_⟩)))|(refine CallX_w fun φ => ?_;(conv=>whnf);(repeat ((with_reducible show ViewE _ _ _ _);(first|refine view_w zLn ?_|refine view_pf zSd ?_|refine view_p zSd ?_);(conv=>whnf)));(with_reducible show CallR _ _ _ _ _);refine CallR_i ?_ zSi)|(refine CallX_v fun φ => ?_;(conv=>whnf);(repeat ((with_reducible show ViewE _ _ _ _);(first|refine view_w zLn ?_|refine view_pf zSd ?_|refine view_p zSd ?_);(conv=>whnf)));(with_reducible show CallB _ _ _ _ _);refine CallB_di ?_ zSi)) |(with_reducible show CallB _ _ _ _ _);refine CallB_di ?_ zSi))<;>conv=>whnf)|((with_reducible show ∀ (_ : Nat → Option Addr × Nat), _);intro hb;conv=>whnf)|((with_reducible show _=_);rfl)|((with_reducible refine xif_s ?_ ?_)<;>(intro hb;((try simp (disch:=omega) only [hbS,fl_len] at hb);(try have hb:=bnd hb))<;>first|(exfalso;omega)|(exact (cfl hb (by with_reducible assumption)).elim)|(exact (cfl (by with_reducible assumption) hb).elim)|conv=>whnf))));all_goals ((repeat revert hb);first|with_reducible exact hl.out.1|with_reducible exact hl.out.2.1|with_reducible exact hl.out.2.2.1|with_reducible exact hl.out.2.2.2.1|with_reducible exact hl.out.2.2.2.2.1|with_reducible exact hl.out.2.2.2.2.2.1|with_reducible exact hl.out.2.2.2.2.2.2.1|with_reducible exact hl.out.2.2.2.2.2.2.2.1|with_reducible exact hl.out.2.2.2.2.2.2.2.2.1|with_reducible exact hl.out.2.2.2.2.2.2.2.2.2.1|with_reducible exact hl.out.2.2.2.2.2.2.2.2.2.2.1|with_reducible exact hl.out.2.2.2.2.2.2.2.2.2.2.2.1)) : G := h ⟨h1⟩
end Go.Proofs.YtkflmidichikjaaGreatDoor.V
end
section
namespace Go.Proofs.YtkflmidichikjaaGreatDoor.V
open Go.RowKit
set_option maxRecDepth 100000
open Heading BoxP Drive PlanP Known Contr Loc Sys
namespace Grow
def goodC (X : List Int) : Prop := ∀ i, i < X.length → 0 ≤ gt X i ∧ gt X i ≤ 2
theorem maxN_le {X : List Int} {m : Int} : ∀ n, maxN X n ≤ m ↔ ∀ i, i ≤ n → gt X i ≤ m
 | 0=>by
   show gt X 0≤m↔_
   refine ⟨fun h i hi=>?_,fun h=>h 0 (Nat.le_refl _)⟩
   obtain rfl : i=0:=by omega
   exact h
 | n + 1=>by
   show max (maxN X n) (gt X (n + 1))≤m↔_
   rw [Int.max_le,maxN_le n]
   constructor
   ·rintro ⟨h1,h2⟩ i hi
    by_cases h : i=n + 1
    ·rw [h];exact h2
    ·exact h1 i (by omega)
   ·exact fun h=>⟨fun i hi=>h i (by omega),h _ (Nat.le_refl _)⟩
theorem good_of {p : Plan} (h : vPlan p = true) (h0 : ∀ x ∈ p.cells, 0 ≤ x) : goodC p.cells := by
 intro i hi
 refine ⟨h0 _ (gt_mem hi),?_⟩
 obtain ⟨_,_,_,h4⟩:=vPlan_iff.1 h
 exact (maxN_le _).1 h4 i (by omega)
theorem good_vPlan {p : Plan} {q : List Int} (h : vPlan p = true) (hl : q.length = p.cells.length) (hg : goodC q) : vPlan ⟨p.W, p.H, q⟩ = true := by
 obtain ⟨h1,h2,h3,h4⟩:=vPlan_iff.1 h
 refine vPlan_iff.2 ⟨h1,h2,by simp only [hl];exact h3,?_⟩
 have hb:=wh_bnd h1 h2
 refine (maxN_le _).2 fun i hi=>(hg i ?_).2
 simp only at hi
 omega
def Ext (X Y : List Int) : Prop := Y.length = X.length ∧ goodC Y ∧ ∀ i, i < X.length → gt X i ≠ 0 → gt Y i = gt X i
theorem Ext.refl {X : List Int} (h : goodC X) : Ext X X := ⟨rfl, h, fun _ _ _ => rfl⟩
theorem Ext.trans {X Y Z : List Int} (h : Ext X Y) (h' : Ext Y Z) : Ext X Z := by
 obtain ⟨h1,h2,h3⟩:=h
 obtain ⟨k1,k2,k3⟩:=h'
 refine ⟨k1.trans h1,k2,fun i hi h0=>?_⟩
 rw [k3 i (by omega) (by rw [h3 i hi h0];exact h0),h3 i hi h0]
theorem gt_set' {X : List Int} {i j : Nat} {v : Int} : gt (X.set i v) j = if i = j ∧ j < X.length then v else gt X j := by
 simp only [gt,List.getD_eq_getElem?_getD,List.getElem?_set]
 by_cases h : i=j
 ·subst h
  by_cases h2 : i < X.length
  ·simp [h2]
  ·simp [h2]
 ·simp [h]
theorem Ext.set {X : List Int} (hg : goodC X) {i : Nat} {v : Int} (hv : v = 1 ∨ v = 2) (h : i < X.length → gt X i = 0 ∨ gt X i = v) : Ext X (X.set i v) := by
 refine ⟨by simp,fun j hj=>?_,fun j hj h0=>?_⟩
 ·rw [List.length_set] at hj
  rw [gt_set']
  split
  ·omega
  ·exact hg j hj
 ·rw [gt_set']
  split
  ·rename_i e
   obtain ⟨rfl,_⟩:=e
   rcases h hj with h|h
   ·exact (h0 h).elim
   ·exact h.symm
  ·rfl
theorem free_ext {p : Plan} : ∀ {L : List Cell} {q q' : List Int}, freeL p L q = some q' → goodC q → Ext q q'
 | [],q,q',h,hg=>by
   unfold freeL at h
   cases h
   exact .refl hg
 | c :: r,q,q',h,hg=>by
   unfold freeL at h
   split at h
   ·cases h
   ·rename_i h2
    have h1 : Ext q (q.set (idxC p c) 1):=.set hg (.inl rfl) fun hi=>by
     have:=hg _ hi
     omega
    exact h1.trans (free_ext h h1.2.1)
theorem wall_ext {p : Plan} {S : List Box} {rng : Int} (hv : vPlan p = true) : ∀ {s : List Beam} {q q' : List Int}, wallL p S rng s q = some q' → q.length = p.cells.length → goodC q → Ext q q'
 | [],q,q',h,hl,hg=>by
   unfold wallL at h
   cases h
   exact .refl hg
 | b :: r,q,q',h,hl,hg=>by
   unfold wallL at h
   split at h
   ·exact wall_ext hv h hl hg
   ·split at h
    ·cases h
    ·rename_i c l hf
     have hc : c∈(suspectsK S b rng).filter fun c=>!(at_ ⟨p.W,p.H,q⟩ c == 1):=by rw [hf];simp
     have hc2:=(List.mem_filter.1 hc).2
     split at h
     ·rename_i hin
      have h1 : Ext q (q.set (idxC p c) 2):=.set hg (.inr rfl) fun hi=>by
       have h3:=hg _ hi
       have hvq:=good_vPlan hv hl hg
       obtain ⟨-,e1,e2⟩:=hin
       rw [between_iff] at e1 e2
       unfold at_ at hc2
       rw [if_pos hvq,if_pos (by unfold insideP;simp only [Bool.and_eq_true,decide_eq_true_eq];omega)] at hc2
       have hc3 : gt q (idxC p c) ≠ 1:=by
        intro h
        unfold idxC at h
        simp only [h] at hc2
        cases hc2
       omega
      exact h1.trans (wall_ext hv h (by rw [h1.1,hl]) h1.2.1)
     ·exact wall_ext hv h hl hg
theorem learn_ext {p : Plan} {S : List Box} {s : List Beam} {rng : Int} (hv : vPlan p = true) (hg : goodC p.cells) (h0 : (learnK p S s rng).2 = 0) : (learnK p S s rng).1.W = p.W ∧ (learnK p S s rng).1.H = p.H ∧ Ext p.cells (learnK p S s rng).1.cells := by
 unfold learnK at h0 ⊢
 by_cases h1 : rightK p S s rng=true
 ·simp only [h1,if_true] at h0 ⊢
  by_cases h2 : taughtK S=true
  ·simp only [h2,if_true] at h0 ⊢
   cases h3 : freeL p (allK p S s rng) p.cells with
   | none=>simp [h3] at h0
   | some q =>
     simp only [h3] at h0 ⊢
     have h4:=free_ext h3 hg
     cases h5 : wallL p S rng s q with
     | none=>simp [h5] at h0
     | some q2=>refine ⟨?_,?_,h4.trans (wall_ext hv h5 h4.1 h4.2.1)⟩<;>first|trivial|rfl
  ·simp only [h2,if_false,Bool.false_eq_true] at h0 ⊢
   refine ⟨?_,?_,.refl hg⟩<;>first|trivial|rfl
 ·simp [h1] at h0
def Below (a b : Plan) : Prop := b.W = a.W ∧ b.H = a.H ∧ Ext a.cells b.cells
theorem Below.refl {a : Plan} (h : goodC a.cells) : Below a a := ⟨rfl, rfl, .refl h⟩
theorem Below.trans {a b c : Plan} (h : Below a b) (h' : Below b c) : Below a c := ⟨h'.1.trans h.1, h'.2.1.trans h.2.1, h.2.2.trans h'.2.2⟩
theorem Below.v {a b : Plan} (h : Below a b) (hv : vPlan a = true) : vPlan b = true := by
 obtain ⟨w,h',X⟩:=b
 obtain ⟨rfl,rfl,h3⟩:=h
 exact good_vPlan hv h3.1 h3.2.1
theorem move_p {F : Filt} {c : Command} {b : Bool} : (moveP F c b).1.p = F.p := by
 unfold moveP
 split
 ·rfl
 ·split
  ·rfl
  ·split<;>rfl
theorem see_below {F : Filt} {s : List Beam} (hv : vPlan F.p = true) (hg : goodC F.p.cells) : Below F.p (seeP F s).1.p := by
 unfold seeP
 split
 ·exact .refl hg
 ·split
  ·exact .refl hg
  ·split
   ·exact .refl hg
   ·split
    ·rename_i h
     exact learn_ext hv hg h
    ·exact .refl hg
theorem follow_below {F : Filt} {c : Command} {b : Bool} {s : List Beam} {o : Bool} (hv : vPlan F.p = true) (hg : goodC F.p.cells) : Below F.p (followF F c b s o).p := by
 unfold followF
 split
 ·exact .refl hg
 ·split
  ·have:=see_below (F:=(moveP F c b).1) (s:=s) (by rw [move_p];exact hv) (by rw [move_p];exact hg)
   rwa [move_p] at this
  ·rw [move_p]
   exact .refl hg
end Grow
end Go.Proofs.YtkflmidichikjaaGreatDoor.V
end
