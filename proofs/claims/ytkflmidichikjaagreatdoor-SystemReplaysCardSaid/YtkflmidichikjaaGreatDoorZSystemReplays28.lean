import Derived.Test.YtkflmidichikjaaGreatDoorZSystemReplays27
import Derived.Test.YtkflmidichikjaaGreatDoorZSystemReplays22
set_option linter.all false
section
namespace Go.Proofs.YtkflmidichikjaaGreatDoor.V
open Go.RowKit
set_option maxRecDepth 100000
set_option maxHeartbeats 16000000
open Heading BoxP Drive PlanP Zono Known Mot
namespace Mot
theorem dir0_unit : ∀ k : _root_.Fin 64, (-(dir0 ((k : Nat) : Int)).D ≤ (dir0 ((k : Nat) : Int)).X ∧ (dir0 ((k : Nat) : Int)).X ≤ (dir0 ((k : Nat) : Int)).D) ∧ -(dir0 ((k : Nat) : Int)).D ≤ (dir0 ((k : Nat) : Int)).Y ∧ (dir0 ((k : Nat) : Int)).Y ≤ (dir0 ((k : Nat) : Int)).D := by decide +kernel
theorem dir_unit (h : Int) : (-(dir h).D ≤ (dir h).X ∧ (dir h).X ≤ (dir h).D) ∧ -(dir h).D ≤ (dir h).Y ∧ (dir h).Y ≤ (dir h).D := by
 obtain ⟨k,hk⟩ : ∃ k : _root_.Fin 64,h % 256 % 64=((k : Nat) : Int):=⟨⟨(h % 256 % 64).toNat,by omega⟩,by show _=(((h % 256 % 64).toNat : Nat) : Int);omega⟩
 have h1:=dir0_unit k
 rw [← hk] at h1
 unfold dir
 have hD:=rotN_D (v:=dir0 (h % 256 % 64)) (h % 256 / 64).toNat
 have hr:=rotN_bnd (v:=dir0 (h % 256 % 64)) (B:=(dir0 (h % 256 % 64)).D) ⟨h1.1.1,h1.1.2,h1.2.1,h1.2.2⟩ (h % 256 / 64).toNat
 rw [hD]
 exact ⟨⟨hr.1,hr.2.1⟩,hr.2.2.1,hr.2.2.2⟩
theorem way_bnd {m x d : Int} (hm : 0 ≤ m ∧ m ≤ 48) (hd : 1 ≤ d) (hx : -d ≤ x ∧ x ≤ d) : -48 ≤ m * x / d ∧ m * x / d ≤ 48 := by
 have h1 : m * x≤48 * d:=by
  have h2 : m * x≤m * d:=Int.mul_le_mul_of_nonneg_left hx.2 hm.1
  have h3 : m * d≤48 * d:=Int.mul_le_mul_of_nonneg_right hm.2 (by omega)
  omega
 have h4 : -48 * d≤m * x:=by
  have h2 : m * (-d)≤m * x:=Int.mul_le_mul_of_nonneg_left hx.1 hm.1
  have h3 : m * d≤48 * d:=Int.mul_le_mul_of_nonneg_right hm.2 (by omega)
  rw [Int.mul_neg] at h2
  omega
 exact ⟨(Int.le_ediv_iff_mul_le (by omega)).2 h4,Int.ediv_le_of_le_mul (by omega) h1⟩
def Zb (n : Nat) (m : Int) (X : List Point) : Prop := X.length ≤ n ∧ sumF fX X ≤ m ∧ sumF fY X ≤ m
theorem Zb.app {n n' : Nat} {m m' : Int} {X Y : List Point} (h : Zb n m X) (h' : Zb n' m' Y) : Zb (n + n') (m + m') (X ++ Y) := by
 unfold Zb at *
 rw [List.length_append,sumF_app,sumF_app]
 omega
theorem Zb.canon {n : Nat} {m : Int} {X : List Point} (h : Zb n m X) : Zb n m (canonZ X) := by
 have h1:=canonZ_len (X:=X)
 have h2:=canonX (X:=X)
 have h3:=canonY (X:=X)
 unfold Zb at *
 omega
theorem Zb.in_ {n : Nat} {m M : Int} {X : List Point} (h : Zb n m X) (hm : m ≤ M) : ∀ g ∈ X, inZ M g := gens_in (Int.le_trans h.2.1 hm) (Int.le_trans h.2.2 hm)
theorem Zb.v {n : Nat} {m x y : Int} {X : List Point} (h : Zb n m X) (hn : n ≤ 16) (hm : m ≤ 65536) (hx : -8388608 ≤ x ∧ x ≤ 8388608) (hy : -8388608 ≤ y ∧ y ≤ 8388608) : vZ x y X = true := vZ_of hx hy (Nat.le_trans h.1 hn) (h.in_ hm)
theorem Zb.two {a b m : Int} (ha : 0 ≤ a ∧ a ≤ m) (hb : 0 ≤ b ∧ b ≤ m) : Zb 2 m [⟨a, 0⟩, ⟨0, b⟩] := by
 refine ⟨Nat.le_refl _,?_,?_⟩
 ·show absZ a + (absZ 0 + 0)≤m
  unfold absZ
  omega
 ·show absZ 0 + (absZ b + 0)≤m
  unfold absZ
  omega
theorem Zb.one {a b m : Int} (ha : -m ≤ a ∧ a ≤ m) (hb : -m ≤ b ∧ b ≤ m) : Zb 1 m [⟨a, b⟩] := by
 refine ⟨Nat.le_refl _,?_,?_⟩
 ·show absZ a + 0≤m
  unfold absZ
  omega
 ·show absZ b + 0≤m
  unfold absZ
  omega
def sqZ (h : Int) : List Point := canonZ [⟨h - (0 - h), 0⟩, ⟨0, h - (0 - h)⟩]
theorem sq_b {h m : Int} (h0 : 0 ≤ h) (h1 : h + h ≤ m) : Zb 2 m (sqZ h) := Zb.canon (Zb.two (by omega) (by omega))
def wayZ (h m : Int) : List Point := canonZ [⟨m * (dir h).X / (dir h).D - 0, m * (dir h).Y / (dir h).D - 0⟩]
def sweepOk (r : Rect) (h : Int) (c : Command) (bd : Bounds) : Bool :=
 between r.X0 (-1048576) 1048576 && (between r.Y0 (-1048576) 1048576 && (between r.X1 (-1048576) 1048576 && (between r.Y1 (-1048576) 1048576 && (between (r.X1 - r.X0) 0 32768 && (between (r.Y1 - r.Y0) 0 32768 && (vCmd c && (vBounds bd && between h 0 255)))))))
def baseZ (r : Rect) : List Point := canonZ [⟨r.X1 - r.X0, 0⟩, ⟨0, r.Y1 - r.Y0⟩]
def sweepZ (r : Rect) (h : Int) (c : Command) (bd : Bounds) : Int × Int × List Point :=
 if c.Forward=0 then (r.X0 + r.X1 + (0 - 20 + 20),r.Y0 + r.Y1 + (0 - 20 + 20),canonZ (baseZ r ++ sqZ 20))
 else (r.X0 + r.X1 + (0 + (c.Forward + bd.Length) * (dir h).X / (dir h).D) + (0 - (bd.Slip + 21) + (bd.Slip + 21)),r.Y0 + r.Y1 + (0 + (c.Forward + bd.Length) * (dir h).Y / (dir h).D) + (0 - (bd.Slip + 21) + (bd.Slip + 21)),
  canonZ (canonZ (baseZ r ++ wayZ h (c.Forward + bd.Length)) ++ sqZ (bd.Slip + 21)))
theorem ok_iff {r : Rect} {h : Int} {c : Command} {bd : Bounds} : sweepOk r h c bd = true ↔ (((-1048576 ≤ r.X0 ∧ r.X0 ≤ 1048576) ∧ (-1048576 ≤ r.Y0 ∧ r.Y0 ≤ 1048576) ∧ (-1048576 ≤ r.X1 ∧ r.X1 ≤ 1048576) ∧ (-1048576 ≤ r.Y1 ∧ r.Y1 ≤ 1048576)) ∧ ((0 ≤ r.X1 - r.X0 ∧ r.X1 - r.X0 ≤ 32768) ∧ 0 ≤ r.Y1 - r.Y0 ∧ r.Y1 - r.Y0 ≤ 32768)) ∧ (vCmd c = true ∧ vBounds bd = true) ∧ 0 ≤ h ∧ h ≤ 255 := by
 simp only [sweepOk,between,Bool.and_eq_true,decide_eq_true_eq,ge_iff_le]
 constructor
 ·intro h
  simp only [h,and_self]
 ·intro h
  simp only [h,and_self]
end Mot
instance inVmo2_1 : CMe 136 Int true (fun h => [I h]) (fun _ => []) (fun h => 0 ≤ h ∧ h ≤ 32768) (Option Addr × Nat) (fun h q => .a [I (0 - h + h), I (0 - h + h), .fz q.1 q.2 2 (fl Point.e (sqZ h))]) (fun _ _ => []) := ⟨fun h ⟨h1, h2⟩ => by
 dsimp only [sqZ]
 refine CM.of Tryz.func136 rfl tabOk rfl rfl rfl rfl (by simp [SV.nms,SV.nm]) fun w_ M_ π_ G0_=>?_
 refine roA (a1 ?_)
 intro q
 refine Fin_ja q ?_
 conv=>whnf
 exact ⟨rfl,rfl,rfl⟩⟩
instance inVmo2_2 : AR 136 1 := ⟨trivial⟩
end Go.Proofs.YtkflmidichikjaaGreatDoor.V
end
section
namespace Go.Proofs.YtkflmidichikjaaGreatDoor.V
open Go.RowKit
set_option maxRecDepth 100000
set_option maxHeartbeats 16000000
open Heading BoxP Drive PlanP Zono Known Mot
attribute [local irreducible] vZ canonZ sqZ sweepOk inZ
instance inVmo3_1 : CMe 89 (Int × Int × Int × Int × Int × Int × Int × Int × Int × Int × Int) true (fun (a, b, c, d, h, t, f, e, l, s, r) => [.a [I a, I b, I c, I d], I h, .a [I t, I f], .a [I e, I l, I s, I r]]) (fun _ => []) (fun (a, b, c, d, h, t, f, e, l, s, r) => sweepOk ⟨a, b, c, d⟩ h ⟨t, f⟩ ⟨e, l, s, r⟩ = true) (Option Addr × Nat)
 (fun (a,b,c,d,h,t,f,e,l,s,r) q=>.t [.a [I (sweepZ ⟨a,b,c,d⟩ h ⟨t,f⟩ ⟨e,l,s,r⟩).1,I (sweepZ ⟨a,b,c,d⟩ h ⟨t,f⟩ ⟨e,l,s,r⟩).2.1,.fz q.1 q.2 2 (fl Point.e (sweepZ ⟨a,b,c,d⟩ h ⟨t,f⟩ ⟨e,l,s,r⟩).2.2)],I 0]) (fun _ _=>[]):=⟨fun (a,b,c,d,h,t,f,e,l,s,r) hp=>by
 obtain ⟨⟨⟨h1,h2,h3,h4⟩,h5,h6⟩,⟨h7,h8⟩,h9,h10⟩:=ok_iff.1 hp
 have hp':=hp
 simp only [sweepOk,Bool.and_eq_true] at hp'
 obtain ⟨n1,n2,n3,n4,n5,n6,n7,n8,n9⟩:=hp'
 clear n7 n8
 have b1:=bnd h7
 have b2:=bnd h8
 dsimp only at *
 have zb : Zb 2 32768 (baseZ ⟨a,b,c,d⟩):=Zb.canon (Zb.two h5 h6)
 by_cases h0 : f=0
 ·subst h0
  have zs : Zb 2 40 (sqZ 20):=sq_b (by omega) (by omega)
  have zz:=zb.app zs
  have v1 : vZ (a + c) (b + d) (baseZ ⟨a,b,c,d⟩)=true:=zb.v (by omega) (by omega) (by omega) (by omega)
  have v2 : vZ (0 - 20 + 20) (0 - 20 + 20) (sqZ 20)=true:=zs.v (by omega) (by omega) (by omega) (by omega)
  have v3 : vZ (a + c + (0 - 20 + 20)) (b + d + (0 - 20 + 20)) (canonZ (baseZ ⟨a,b,c,d⟩ ++ sqZ 20))=true:=zz.canon.v (by omega) (by omega) (by omega) (by omega)
  have i1:=zz.in_ (M:=1048576) (by omega)
  have l1:=zb.1
  have l2:=zs.1
  unfold sweepZ
  simp only [if_true]
  have eb : baseZ ⟨a,b,c,d⟩ = canonZ [⟨c - a,0⟩,⟨0,d - b⟩]:=rfl
  rw [eb] at v1 v3 i1 l1 ⊢
  clear eb zb zs zz hp
  refine CM.of Tryz.func89 rfl tabOk rfl rfl rfl rfl (by simp [SV.nms,SV.nm]) fun w_ M_ π_ G0_=>?_
  refine roA (a1 ?_)
  iterate 18 intro _
  intro q1 q2 q3
  refine Fin_ja q3 ?_
  conv=>whnf
  exact ⟨rfl,rfl,rfl⟩
 ·have hD:=dir_bnd h
  have hU:=dir_unit h
  have w1:=way_bnd (m:=f + l) (x:=(dir h).X) (by omega) hD.2.2.2.2.1 hU.1
  have w2:=way_bnd (m:=f + l) (x:=(dir h).Y) (by omega) hD.2.2.2.2.1 hU.2
  have m1:=Heading.mul_bnd (a:=f + l) (b:=(dir h).X) (A:=48) (B:=8192) (by omega) (by omega)
  have m2:=Heading.mul_bnd (a:=f + l) (b:=(dir h).Y) (A:=48) (B:=8192) (by omega) (by omega)
  have zw : Zb 1 48 (wayZ h (f + l)):=Zb.canon (Zb.one (by omega) (by omega))
  have zs : Zb 2 58 (sqZ (s + 21)):=sq_b (by omega) (by omega)
  have z1:=zb.app zw
  have z2:=z1.canon.app zs
  have v1 : vZ (a + c) (b + d) (baseZ ⟨a,b,c,d⟩)=true:=zb.v (by omega) (by omega) (by omega) (by omega)
  have v2 : vZ (0 + (f + l) * (dir h).X / (dir h).D) (0 + (f + l) * (dir h).Y / (dir h).D) (wayZ h (f + l))=true:=zw.v (by omega) (by omega) (by omega) (by omega)
  have v3 : vZ (a + c + (0 + (f + l) * (dir h).X / (dir h).D)) (b + d + (0 + (f + l) * (dir h).Y / (dir h).D)) (canonZ (baseZ ⟨a,b,c,d⟩ ++ wayZ h (f + l)))=true:=z1.canon.v (by omega) (by omega) (by omega) (by omega)
  have v4 : vZ (0 - (s + 21) + (s + 21)) (0 - (s + 21) + (s + 21)) (sqZ (s + 21))=true:=zs.v (by omega) (by omega) (by omega) (by omega)
  have v5 : vZ (a + c + (0 + (f + l) * (dir h).X / (dir h).D) + (0 - (s + 21) + (s + 21))) (b + d + (0 + (f + l) * (dir h).Y / (dir h).D) + (0 - (s + 21) + (s + 21))) (canonZ (canonZ (baseZ ⟨a,b,c,d⟩ ++ wayZ h (f + l)) ++ sqZ (s + 21)))=true:=z2.canon.v (by omega) (by omega) (by omega) (by omega)
  have i1:=z1.in_ (M:=1048576) (by omega)
  have i2:=z2.in_ (M:=1048576) (by omega)
  have l1:=zb.1
  have l2:=zw.1
  have l3:=zs.1
  have l4:=z1.canon.1
  have h0' : ¬(f == 0)=true:=by simpa using h0
  unfold sweepZ
  simp only [if_neg h0]
  have eb : baseZ ⟨a,b,c,d⟩ = canonZ [⟨c - a,0⟩,⟨0,d - b⟩]:=rfl
  have ew : wayZ h (f + l)=canonZ [⟨(f + l) * (dir h).X / (dir h).D - 0,(f + l) * (dir h).Y / (dir h).D - 0⟩]:=rfl
  rw [eb,ew] at v3 v5 i1 i2 l4 ⊢
  rw [eb] at v1 l1
  rw [ew] at v2 l2
  clear eb ew zb zs zw z1 z2 hp hU
  refine CM.of Tryz.func89 rfl tabOk rfl rfl rfl rfl (by simp [SV.nms,SV.nm]) fun w_ M_ π_ G0_=>?_
  refine roA (a1 ?_)
  iterate 18 intro _
  intro _ _ _ _ _ q
  refine Fin_ja q ?_
  conv=>whnf
  exact ⟨rfl,rfl,rfl⟩⟩
instance inVmo3_2 : AR 89 11 := ⟨trivial⟩
theorem btw {x lo hi : Int} (h : lo ≤ x ∧ x ≤ hi) : between x lo hi = true := by unfold between; simp; omega
theorem sweep_no {a b c d h t f e l s r : Int} (hn : sweepOk ⟨a, b, c, d⟩ h ⟨t, f⟩ ⟨e, l, s, r⟩ = false) : ∃ x : Int, x ≠ 0 ∧ CFc 89 false [.a [I a, I b, I c, I d], I h, .a [I t, I f], .a [I e, I l, I s, I r]] (-1048576 ≤ a ∧ a ≤ 1048576 ∧ -1048576 ≤ b ∧ b ≤ 1048576 ∧ -1048576 ≤ c ∧ c ≤ 1048576 ∧ -1048576 ≤ d ∧ d ≤ 1048576) (.t [.a [I 0, I 0, .v (.slice none 0 0)], I x]) [] := by
 by_cases h1 : (between a (-1048576) 1048576 && (between b (-1048576) 1048576 && (between c (-1048576) 1048576 && (between d (-1048576) 1048576 && (between (c - a) 0 32768 && (between (d - b) 0 32768 && (vCmd ⟨t,f⟩ && vBounds ⟨e,l,s,r⟩)))))))=true
 ·have h2 : between h 0 255=false:=by
   cases hb : between h 0 255 with
   | false=>rfl
   | true =>
     exfalso
     simp only [Bool.and_eq_true] at h1
     have : sweepOk ⟨a,b,c,d⟩ h ⟨t,f⟩ ⟨e,l,s,r⟩ = true:=by
      unfold sweepOk
      simp only [h1,hb,Bool.and_self]
     rw [hn] at this
     cases this
  simp only [Bool.and_eq_true] at h1
  obtain ⟨n1,n2,n3,n4,n5,n6,n7,n8⟩:=h1
  clear hn
  have h2' : ¬(0≤h∧h≤255):=fun hc=>by
   have : between h 0 255=true:=by unfold between;simp;omega
   rw [h2] at this
   cases this
  refine ⟨2,by omega,⟨fun hp=>?_⟩⟩
  refine CM.of Tryz.func89 rfl tabOk rfl rfl rfl rfl (by simp [SV.nms,SV.nm]) fun w_ M_ π_ G0_=>?_
  exact ru
 ·have h3 : (between a (-1048576) 1048576 && (between b (-1048576) 1048576 && (between c (-1048576) 1048576 && (between d (-1048576) 1048576 && (between (c - a) 0 32768 && (between (d - b) 0 32768 && (vCmd ⟨t,f⟩ && vBounds ⟨e,l,s,r⟩)))))))=false:=by simpa using h1
  refine ⟨1,by omega,⟨fun hp=>?_⟩⟩
  simp only [Bool.and_eq_false_iff] at h3
  clear hn h1
  have nb : ∀ x lo hi : Int,between x lo hi=false→¬(lo≤x∧x≤hi):=fun x lo hi hb hc=>by
   have : between x lo hi=true:=by unfold between;simp;omega
   rw [hb] at this
   cases this
  have h4 : ¬(-1048576≤a∧a≤1048576)∨¬(-1048576≤b∧b≤1048576)∨¬(-1048576≤c∧c≤1048576)∨¬(-1048576≤d∧d≤1048576)∨¬(0≤c - a∧c - a≤32768)∨¬(0≤d - b∧d - b≤32768)∨¬(-32≤t∧t≤32∧0≤f∧f≤32)∨¬(0≤e∧e≤8∧0≤l∧l≤16∧0≤s∧s≤8∧1≤r∧r≤32):=by
   rcases h3 with n|n|n|n|n|n|n|n
   ·exact .inl (nb _ _ _ n)
   ·exact .inr (.inl (nb _ _ _ n))
   ·exact .inr (.inr (.inl (nb _ _ _ n)))
   ·exact .inr (.inr (.inr (.inl (nb _ _ _ n))))
   ·exact .inr (.inr (.inr (.inr (.inl (nb _ _ _ n)))))
   ·exact .inr (.inr (.inr (.inr (.inr (.inl (nb _ _ _ n))))))
   ·refine .inr (.inr (.inr (.inr (.inr (.inr (.inl fun hc=>?_))))))
    have : vCmd ⟨t,f⟩ = true:=by unfold vCmd within between;simp;omega
    rw [n] at this
    cases this
   ·refine .inr (.inr (.inr (.inr (.inr (.inr (.inr fun hc=>?_))))))
    have : vBounds ⟨e,l,s,r⟩ = true:=by unfold vBounds between;simp;omega
    rw [n] at this
    cases this
  have h5 : ¬(0≤c - a∧c - a≤32768)∨¬(0≤d - b∧d - b≤32768)∨¬(-32≤t∧t≤32∧0≤f∧f≤32)∨¬(0≤e∧e≤8∧0≤l∧l≤16∧0≤s∧s≤8∧1≤r∧r≤32):=by omega
  clear h3 h4 nb
  obtain ⟨p1,p2,p3,p4,p5,p6,p7,p8⟩:=hp
  have n1:=btw (x:=a) (lo:=-1048576) (hi:=1048576) ⟨p1,p2⟩
  have n2:=btw (x:=b) (lo:=-1048576) (hi:=1048576) ⟨p3,p4⟩
  have n3:=btw (x:=c) (lo:=-1048576) (hi:=1048576) ⟨p5,p6⟩
  have n4:=btw (x:=d) (lo:=-1048576) (hi:=1048576) ⟨p7,p8⟩
  refine CM.of Tryz.func89 rfl tabOk rfl rfl rfl rfl (by simp [SV.nms,SV.nm]) fun w_ M_ π_ G0_=>?_
  exact ru
end Go.Proofs.YtkflmidichikjaaGreatDoor.V
end
section
namespace Go.Proofs.YtkflmidichikjaaGreatDoor.V
open Go.RowKit
set_option maxRecDepth 100000
set_option maxHeartbeats 16000000
open Heading BoxP Drive PlanP Zono Known Mot
attribute [local irreducible] vZ canonZ sqZ sweepOk inZ apartZ spreadZ
namespace Mot
def zOk (x y : Int) (X : List Point) : Prop := vZ x y X = true ∧ X.length ≤ 10 ∧ (-8388608 ≤ x ∧ x ≤ 8388608) ∧ (-8388608 ≤ y ∧ y ≤ 8388608) ∧ ∀ g ∈ X, inZ 65536 g
def cellsOf (x y : Int) (X : List Point) : List Cell × Int := cellsP ⟨(boundsZ x y X).X0 / 2, (boundsZ x y X).Y0 / 2, 0 - (0 - (boundsZ x y X).X1) / 2, 0 - (0 - (boundsZ x y X).Y1) / 2⟩
def apC (x y : Int) (X : List Point) (c : Cell) : Bool := apartZ x y X (c.X * 64) (c.Y * 64) ((c.X + 1) * 64) ((c.Y + 1) * 64)
def touchedP (x y : Int) (X : List Point) : List Cell × Int := if (cellsOf x y X).2 = 0 then ((cellsOf x y X).1.filter fun c => !apC x y X c, 0) else ([], (cellsOf x y X).2)
def inC (c : Cell) : Prop := (-16400 ≤ c.X ∧ c.X ≤ 16400) ∧ -16400 ≤ c.Y ∧ c.Y ≤ 16400
theorem cells_in {r : Rect} : ∀ c ∈ (cellsP r).1, inC c := by
 intro c hc
 unfold cellsP at hc
 split at hc
 ·rename_i hr
  have h:=vRect_iff.1 hr
  split at hc
  ·cases hc
  ·have:=mem_gridL.1 hc
   unfold span at this
   simp only at this
   unfold inC
   omega
 ·cases hc
theorem cells_len {r : Rect} : (cellsP r).1.length ≤ 1000000000 := by
 unfold cellsP
 split
 ·rename_i hr
  have h:=vRect_iff.1 hr
  split
  ·simp
  ·rename_i hc
   show (gridL _ _ _).length≤_
   unfold gridL
   have h1:=outK_len (fun _=>true) (span r.X0 r.X1).1 (span r.Y0 r.Y1).1 ((span r.X0 r.X1).2 + 1 - (span r.X0 r.X1).1).toNat ((span r.Y0 r.Y1).2 + 1 - (span r.Y0 r.Y1).1).toNat
   have hA : 0≤(span r.X0 r.X1).2 + 1 - (span r.X0 r.X1).1:=by unfold span;simp only;omega
   have hB : 0≤(span r.Y0 r.Y1).2 + 1 - (span r.Y0 r.Y1).1:=by unfold span;simp only;omega
   have eA : (span r.X0 r.X1).2 - (span r.X0 r.X1).1 + 1=(span r.X0 r.X1).2 + 1 - (span r.X0 r.X1).1:=by omega
   have eB : (span r.Y0 r.Y1).2 - (span r.Y0 r.Y1).1 + 1=(span r.Y0 r.Y1).2 + 1 - (span r.Y0 r.Y1).1:=by omega
   rw [eA,eB] at hc
   generalize (span r.X0 r.X1).2 + 1 - (span r.X0 r.X1).1=a at *
   generalize (span r.Y0 r.Y1).2 + 1 - (span r.Y0 r.Y1).1=b at *
   have e : ((b.toNat * a.toNat : Nat) : Int)=a * b:=by rw [Int.natCast_mul,Int.toNat_of_nonneg hB,Int.toNat_of_nonneg hA,Int.mul_comm]
   omega
 ·simp
theorem bounds_ok {x y : Int} {X : List Point} (h : zOk x y X) : (0 ≤ spreadZ X 1 0 ∧ spreadZ X 1 0 ≤ 1048576) ∧ 0 ≤ spreadZ X 0 1 ∧ spreadZ X 0 1 ≤ 1048576 := by
 obtain ⟨h0,h1,h2,h3,h4⟩:=h
 have q : ∀ a b : Int,((a=1∧b=0)∨(a=0∧b=1))→0≤spreadZ X a b∧spreadZ X a b≤1048576:=fun a b hab=>by
  have h:=spread_bnd (a:=a) (b:=b) (m:=65536) (X:=X) (by
   intro g hg
   have:=h4 g hg
   unfold inZ at this
   rcases hab with ⟨rfl,rfl⟩|⟨rfl,rfl⟩<;>omega)
  have:=Int.mul_le_mul_of_nonneg_right (show (X.length : Int)≤10 by omega) (show (0 : Int)≤65536 by omega)
  omega
 exact ⟨q 1 0 (.inl ⟨rfl,rfl⟩),q 0 1 (.inr ⟨rfl,rfl⟩)⟩
end Mot
instance inVmo4_1 {cx cy x y : Int} {ad : Addr} {X : List Point} : CFc 143 false [.a [I cx, I cy], .fa ad [.v (.int .i64 x), .v (.int .i64 y), .fz 2 (fl Point.e X)]] (inC ⟨cx, cy⟩ ∧ zOk x y X) (B (apC x y X ⟨cx, cy⟩)) [] := ⟨fun ⟨⟨h1, h2⟩, h3, h4, h5, h6, h7⟩ => by
 unfold apC
 simp only at h1 h2
 refine CM.of Tryz.func143 rfl tabOk rfl rfl rfl rfl (by simp [SV.nms,SV.nm]) fun w_ M_ π_ G0_=>?_
 exact ru⟩
instance inVmo4_2 {x y : Int} {A : Option Addr} {c : Nat} {X : List Point} : CFc 90 false [.a [I x, I y, .fz A c 2 (fl Point.e X)]] (zOk x y X) (.t [.sl 0 0 0 (touchedP x y X).1.length 2, I (touchedP x y X).2]) [.row false 128 2 (fl Cell.e (touchedP x y X).1)] := ⟨fun hp => by
 have hb:=bounds_ok hp
 have hq:=hp
 obtain ⟨h0,h1,h2,h3,h4⟩:=hp
 have h16 : X.length≤16:=by omega
 unfold touchedP cellsOf
 have e0 : (boundsZ x y X).X0=x - spreadZ X 1 0:=rfl
 have e1 : (boundsZ x y X).Y0=y - spreadZ X 0 1:=rfl
 have e2 : (boundsZ x y X).X1=x + spreadZ X 1 0:=rfl
 have e3 : (boundsZ x y X).Y1=y + spreadZ X 0 1:=rfl
 obtain ⟨r,hr⟩ : ∃ r,cellsP ⟨(boundsZ x y X).X0 / 2,(boundsZ x y X).Y0 / 2,0 - (0 - (boundsZ x y X).X1) / 2,0 - (0 - (boundsZ x y X).Y1) / 2⟩ = r:=⟨_,rfl⟩
 refine CM.of Tryz.func90 rfl tabOk rfl rfl rfl rfl (by simp [SV.nms,SV.nm]) fun w_ M_ π_ G0_=>?_
 have hbb:=hb
 clear hb
 refine ruA (a1 ?_)
 intro g0
 have hl : (cellsP ⟨(boundsZ x y X).X0 / 2,(boundsZ x y X).Y0 / 2,0 - (0 - (boundsZ x y X).X1) / 2,0 - (0 - (boundsZ x y X).Y1) / 2⟩).1.length≤1000000000:=cells_len
 refine CallX_q [2] rfl fun φ=>?_
 conv=>whnf
 refine CallQ_m (del_cm (pre:=fun c=>inC c∧zOk x y X) (p:=fun c=>apC x y X c) hl fun i hi=>⟨cells_in _ (gt_mem hi),hq⟩) rfl rfl rfl ?_
 rw [if_pos g0]
 refine roA (a1 ?_)
 refine Fin_j () ?_
 conv=>whnf
 exact ⟨rfl,rfl,by simp only [OB.flats,flatD_fl,and_self],rfl⟩⟩
namespace Mot
theorem sweep_zok {r : Rect} {h : Int} {c : Command} {bd : Bounds} (hp : sweepOk r h c bd = true) : zOk (sweepZ r h c bd).1 (sweepZ r h c bd).2.1 (sweepZ r h c bd).2.2 := by
 obtain ⟨⟨⟨h1,h2,h3,h4⟩,h5,h6⟩,⟨h7,h8⟩,h9,h10⟩:=ok_iff.1 hp
 have b1 : 0≤c.Forward∧c.Forward≤32:=by
  have:=bnd (p:=vCmd ⟨c.Turn,c.Forward⟩) h7
  omega
 have b2 : 0≤bd.Length∧bd.Length≤16∧0≤bd.Slip∧bd.Slip≤8:=by
  have:=bnd (p:=vBounds ⟨bd.Turn,bd.Length,bd.Slip,bd.Range⟩) h8
  omega
 have zb : Zb 2 32768 (baseZ r):=Zb.canon (Zb.two h5 h6)
 unfold sweepZ
 split
 ·have zz:=(zb.app (sq_b (h:=20) (m:=40) (by omega) (by omega))).canon
  exact ⟨zz.v (by omega) (by omega) (by simp only;omega) (by simp only;omega),Nat.le_trans zz.1 (by omega),by simp only;omega,by simp only;omega,zz.in_ (by omega)⟩
 ·have hD:=dir_bnd h
  have hU:=dir_unit h
  have w1:=way_bnd (m:=c.Forward + bd.Length) (x:=(dir h).X) (by omega) hD.2.2.2.2.1 hU.1
  have w2:=way_bnd (m:=c.Forward + bd.Length) (x:=(dir h).Y) (by omega) hD.2.2.2.2.1 hU.2
  have zw : Zb 1 48 (wayZ h (c.Forward + bd.Length)):=Zb.canon (Zb.one (by omega) (by omega))
  have zz:=((zb.app zw).canon.app (sq_b (h:=bd.Slip + 21) (m:=58) (by omega) (by omega))).canon
  exact ⟨zz.v (by omega) (by omega) (by simp only;omega) (by simp only;omega),Nat.le_trans zz.1 (by omega),by simp only;omega,by simp only;omega,zz.in_ (by omega)⟩
def unhP (p : Plan) (r : Rect) (h : Int) (c : Command) (bd : Bounds) : Bool :=
 sweepOk r h c bd && (decide ((touchedP (sweepZ r h c bd).1 (sweepZ r h c bd).2.1 (sweepZ r h c bd).2.2).2=0) && !(touchedP (sweepZ r h c bd).1 (sweepZ r h c bd).2.1 (sweepZ r h c bd).2.2).1.any fun d=>!(at_ p d == 1))
theorem touched_len {x y : Int} {X : List Point} : (touchedP x y X).1.length ≤ 1000000000 := by
 unfold touchedP cellsOf
 split
 ·exact Nat.le_trans (List.length_filter_le _ _) cells_len
 ·simp
end Mot
section
variable {A : Option Addr} {cc : Nat} {X : List Int} {w h a b c d hd t f e l s r : Int}
instance inVmo4_3 {x y : Int} {ad : Addr} : CFc 92 false [.a [I x, I y], .fa ad [.v (.int .i64 w), .v (.int .i64 h), .fz 1 (fl ye X)]] (X.length ≤ 1000000000) (B (!(at_ ⟨w, h, X⟩ ⟨x, y⟩ == 1))) [] := ⟨fun hp => by
 refine CM.of Tryz.func92 rfl tabOk rfl rfl rfl rfl (by simp [SV.nms,SV.nm]) fun w_ M_ π_ G0_=>?_
 exact ru⟩
instance inVmo4_4 : CFc 45 false [.a [I w, I h, .fz A cc 1 (fl ye X)], .a [I a, I b, I c, I d], I hd, .a [I t, I f], .a [I e, I l, I s, I r]] ((-1048576 ≤ a ∧ a ≤ 1048576 ∧ -1048576 ≤ b ∧ b ≤ 1048576 ∧ -1048576 ≤ c ∧ c ≤ 1048576 ∧ -1048576 ≤ d ∧ d ≤ 1048576) ∧ X.length ≤ 1000000000) (B (unhP ⟨w, h, X⟩ ⟨a, b, c, d⟩ hd ⟨t, f⟩ ⟨e, l, s, r⟩)) [] := ⟨fun ⟨hp, hX⟩ => by
 unfold unhP
 cases hok : sweepOk ⟨a,b,c,d⟩ hd ⟨t,f⟩ ⟨e,l,s,r⟩ with
 | false =>
   obtain ⟨x,hx,hc⟩:=sweep_no hok
   simp only [Bool.false_and]
   refine CM.of Tryz.func45 rfl tabOk rfl rfl rfl rfl (by simp [SV.nms,SV.nm]) fun w_ M_ π_ G0_=>?_
   exact ru
 | true =>
   have hz:=sweep_zok hok
   have hl:=touched_len (x:=(sweepZ ⟨a,b,c,d⟩ hd ⟨t,f⟩ ⟨e,l,s,r⟩).1) (y:=(sweepZ ⟨a,b,c,d⟩ hd ⟨t,f⟩ ⟨e,l,s,r⟩).2.1) (X:=(sweepZ ⟨a,b,c,d⟩ hd ⟨t,f⟩ ⟨e,l,s,r⟩).2.2)
   simp only [Bool.true_and]
   refine CM.of Tryz.func45 rfl tabOk rfl rfl rfl rfl (by simp [SV.nms,SV.nm]) fun w_ M_ π_ G0_=>?_
   exact ru⟩
end
end Go.Proofs.YtkflmidichikjaaGreatDoor.V
end
section
namespace Go.Proofs.YtkflmidichikjaaGreatDoor.V
open Go.RowKit
set_option maxRecDepth 100000
set_option maxHeartbeats 16000000
open Heading BoxP Drive PlanP Zono Known Mot
attribute [local irreducible] unhP
namespace Mot
def hdsP (c : Command) (bd : Bounds) (b : Box) : List Int := list (grow (shift ⟨b.From, b.Count⟩ c.Turn).1 bd.Turn).1
def badB (p : Plan) (c : Command) (bd : Bounds) (b : Box) : Bool := (hdsP c bd b).any fun h => !unhP p (rectangle b) h c bd
def safeP (p : Plan) (S : List Box) (c : Command) (bd : Bounds) : Bool × Int :=
 if vPlan p=false∨vSet S=false∨vCmd c=false∨vBounds bd=false then (false,1) else if c.Forward=0 then (true,0) else (!S.any (badB p c bd),0)
theorem rect_in {b : Box} (h : vBox b = true) : -1048576 ≤ (rectangle b).X0 ∧ (rectangle b).X0 ≤ 1048576 ∧ -1048576 ≤ (rectangle b).Y0 ∧ (rectangle b).Y0 ≤ 1048576 ∧ -1048576 ≤ (rectangle b).X1 ∧ (rectangle b).X1 ≤ 1048576 ∧ -1048576 ≤ (rectangle b).Y1 ∧ (rectangle b).Y1 ≤ 1048576 := by
 have h1:=vBox_iff.1 h
 unfold rectangle
 rw [if_pos h]
 simp only
 omega
end Mot
section
variable {A B' : Option Addr} {cc b' : Nat} {X : List Int} {S : List Box} {w h t f e l s r : Int}
instance inVmo5_1 : CFc 10 false [.a [I w, I h, .fz A cc 1 (fl ye X)], .fz B' b' 6 (fl Box.e S), .a [I t, I f], .a [I e, I l, I s, I r]] (X.length ≤ 1000000000 ∧ S.length ≤ 1000000000) (.t [B (safeP ⟨w, h, X⟩ S ⟨t, f⟩ ⟨e, l, s, r⟩).1, I (safeP ⟨w, h, X⟩ S ⟨t, f⟩ ⟨e, l, s, r⟩).2]) [] := ⟨fun ⟨hX, hS⟩ => by
 unfold safeP
 by_cases h0 : vPlan ⟨w,h,X⟩ = false∨vSet S=false∨vCmd ⟨t,f⟩ = false∨vBounds ⟨e,l,s,r⟩ = false
 ·rw [if_pos h0]
  refine CM.of Tryz.func10 rfl tabOk rfl rfl rfl rfl (by simp [SV.nms,SV.nm]) fun w_ M_ π_ G0_=>?_
  have Hh : Hold _:=⟨h0⟩
  clear h0
  refine roA (a6 ?_ ?_ ?_ ?_ ?_ ?_)
  all_goals intros
  all_goals first|(refine Fin_j () ?_;(conv=>whnf);exact ⟨rfl,rfl,trivial,rfl⟩)|(exfalso;have:=Hh.out;simp_all;done)
 ·rw [if_neg h0]
  have h1 : vPlan ⟨w,h,X⟩ = true∧vSet S=true∧vCmd ⟨t,f⟩ = true∧vBounds ⟨e,l,s,r⟩ = true:=by
   revert h0
   cases vPlan ⟨w,h,X⟩<;>cases vSet S<;>cases vCmd ⟨t,f⟩<;>cases vBounds ⟨e,l,s,r⟩<;>simp
  obtain ⟨n1,n2,n3,n4⟩:=h1
  clear h0
  by_cases hf : f=0
  ·subst hf
   rw [if_pos rfl]
   refine CM.of Tryz.func10 rfl tabOk rfl rfl rfl rfl (by simp [SV.nms,SV.nm]) fun w_ M_ π_ G0_=>?_
   exact ru
  ·rw [if_neg hf]
   have hv:=(vSet_iff.1 n2).2
   obtain ⟨p,hp⟩ : ∃ p,p=badB ⟨w,h,X⟩ ⟨t,f⟩ ⟨e,l,s,r⟩:=⟨_,rfl⟩
   rw [← hp]
   have Hh : Hold (_∧_):=⟨⟨hv,hp⟩⟩
   clear hv hp
   have hf' : ¬(f == 0)=true:=by simpa using hf
   refine CM.of Tryz.func10 rfl tabOk rfl rfl rfl rfl (by simp [SV.nms,SV.nm]) fun w_ M_ π_ G0_=>?_
   refine ruA (a1 ?_)
   intros
   refine LoopX_p [] (fun (i : Nat)=>i≤S.length∧∀ j,j < i→p (gt S j)=false) (fun i=>[(39,I i)]) (fun _=>[]) (fun i=>S.length - i) 0 ?_ ⟨by omega,fun j hj=>by omega⟩
   conv=>whnf
   rintro i ⟨j1,j2⟩
   by_cases hi : i < S.length
   ·have hv:=Hh.out.1 _ (gt_mem hi)
    have hq : -1048576≤(rectangle ⟨(gt S (i : Int).toNat).X0,(gt S (i : Int).toNat).Y0,(gt S (i : Int).toNat).X1,(gt S (i : Int).toNat).Y1,(gt S (i : Int).toNat).From,(gt S (i : Int).toNat).Count⟩).X0∧_:=rect_in hv
    have hy:=any_yes (p:=p) hi
    have Hj : Hold (_∧_):=⟨⟨j2,hy⟩⟩
    clear j2 hy hv
    refine ruA (a1 ?_)
    intros
    generalize hM : list ⟨(grow ⟨(shift ⟨(gt S (i : Int).toNat).From,(gt S (i : Int).toNat).Count⟩ t).1.From,(shift ⟨(gt S (i : Int).toNat).From,(gt S (i : Int).toNat).Count⟩ t).1.Count⟩ e).1.From,(grow ⟨(shift ⟨(gt S (i : Int).toNat).From,(gt S (i : Int).toNat).Count⟩ t).1.From,(shift ⟨(gt S (i : Int).toNat).From,(gt S (i : Int).toNat).Count⟩ t).1.Count⟩ e).1.Count⟩ = M
    obtain ⟨g,hg⟩ : ∃ g : Int→Bool,g=fun hd=>!unhP ⟨w,h,X⟩ (rectangle (gt S i)) hd ⟨t,f⟩ ⟨e,l,s,r⟩:=⟨_,rfl⟩
    have hpi : p (gt S i)=M.any g:=by
     rw [Hh.out.2,hg,← hM]
     rfl
    have hMl : M.length≤256:=by rw [← hM];exact list_len
    have Hg : Hold (_∧_):=⟨⟨hpi,hg⟩⟩
    clear hpi hg hM
    refine LoopX_p [] (fun (k : Nat)=>k≤M.length∧∀ j,j < k→g (gt M j)=false) (fun k=>[(64,I k)]) (fun _=>[]) (fun k=>M.length - k) 0 ?_ ⟨by omega,fun j hj=>by omega⟩
    conv=>whnf
    rintro k ⟨k1,k2⟩
    by_cases hk : k < M.length
    ·have hy:=any_yes (p:=g) hk
     have Hk : Hold (_∧_):=⟨⟨k2,hy⟩⟩
     clear k2 hy
     refine roA (a2 ?_ ?_)
     ·intro _ a1
      have e0 : g (gt M k)=true:=by
       rw [Hg.out.2]
       show (!unhP _ _ _ _ _)=true
       have : unhP ⟨w,h,X⟩ (rectangle (gt S i)) (gt M k) ⟨t,f⟩ ⟨e,l,s,r⟩ = false:=a1
       rw [this]
       rfl
      have e2:=Hj.out.2 (Hg.out.1.trans (Hk.out.2 e0))
      refine Fin_j () ?_
      conv=>whnf
      exact ⟨by rw [e2];rfl,rfl,trivial,rfl⟩
     ·intro _ a1
      have e0 : g (gt M k)=false:=by
       rw [Hg.out.2]
       show (!unhP _ _ _ _ _)=false
       have : unhP ⟨w,h,X⟩ (rectangle (gt S i)) (gt M k) ⟨t,f⟩ ⟨e,l,s,r⟩ = true:=a1
       rw [this]
       rfl
      exact rn (k + 1) ⟨by omega,all_next Hk.out.1 e0⟩
    ·obtain rfl : k=M.length:=by omega
     have e0:=any_no k2
     rw [← Hg.out.1] at e0
     have Hk : Hold (_):=⟨e0⟩
     clear k2 e0
     refine ruA (a1 ?_)
     intros
     exact rn (i + 1) ⟨by omega,all_next Hj.out.1 Hk.out⟩
   ·obtain rfl : i=S.length:=by omega
    have e:=any_no j2
    rw [e]
    clear j2 e
    exact ru⟩
end
end Go.Proofs.YtkflmidichikjaaGreatDoor.V
end
section
namespace Go.Proofs.YtkflmidichikjaaGreatDoor.V
open Go.RowKit
set_option maxRecDepth 100000
set_option maxHeartbeats 16000000
open Heading BoxP Drive PlanP Known Contr
namespace Loc
structure Filt where
 (p : Plan) (set : List Box) (b : Bounds) (lost : Bool)
def vSetL (S : List Box) : Bool := decide (0 < (S.length : Int)) && (decide ((S.length : Int) ≤ 16) && !S.any fun b => !vBox b)
abbrev filtO (q : (Option Addr × Nat) × Option Addr × Nat) (F : Filt) : OB := .box 159 [I F.p.W, I F.p.H, .fz q.1.1 q.1.2 1 (fl ye F.p.cells), .fz q.2.1 q.2.2 6 (fl Box.e F.set), I F.b.Turn, I F.b.Length, I F.b.Slip, I F.b.Range, B F.lost]
end Loc
open Loc
section
variable {A : Option Addr} {cc : Nat} {X : List Int} {S : List Box} {s : List Beam} {w h a b c d e f : Int}
instance inVlo_1 : CFc 80 false [.a [I w, I h, .fz A cc 1 (fl ye X)]] (X.length ≤ 1000000000) (.a [I w, I h, .sl 0 0 0 X.length 1]) [.row false 5 1 (fl ye X)] := ⟨fun hp => by
 refine CM.of Tryz.func80 rfl tabOk rfl rfl rfl rfl (by simp [SV.nms,SV.nm]) fun w_ M_ π_ G0_=>?_
 exact ru⟩
instance inVlo_2 : CFc 130 false [.a [I a, I b, I c, I d, I e, I f]] True (B (!vBox ⟨a, b, c, d, e, f⟩)) [] := ⟨fun hp => by
 refine CM.of Tryz.func130 rfl tabOk rfl rfl rfl rfl (by simp [SV.nms,SV.nm]) fun w_ M_ π_ G0_=>?_
 exact ru⟩
instance inVlo_3 : CFc 79 false [.fz A cc 6 (fl Box.e S)] (S.length ≤ 1000000000) (B (vSetL S)) [] := ⟨fun hp => by
 unfold vSetL
 refine CM.of Tryz.func79 rfl tabOk rfl rfl rfl rfl (by simp [SV.nms,SV.nm]) fun w_ M_ π_ G0_=>?_
 exact ru⟩
instance inVlo_4 : CFc 215 false [.a [I a, I b]] True (B (!vBeam ⟨a, b⟩)) [] := ⟨fun hp => by
 unfold vBeam between
 simp only
 by_cases h : b≤1024
 ·have hd : ¬1024 < b:=by omega
  refine CM.of Tryz.func215 rfl tabOk rfl rfl rfl rfl (by simp [SV.nms,SV.nm]) fun w_ M_ π_ G0_=>?_
  exact ru
 ·refine CM.of Tryz.func215 rfl tabOk rfl rfl rfl rfl (by simp [SV.nms,SV.nm]) fun w_ M_ π_ G0_=>?_
  exact ru⟩
instance inVlo_5 : CFc 159 false [.fz A cc 2 (fl Beam.e s)] (s.length ≤ 1000000000) (B (Contr.vScan s)) [] := ⟨fun hp => by
 have e : Contr.vScan s=(decide ((s.length : Int)≤32) && !s.any fun b=>!vBeam b):=by
  rw [Bool.eq_iff_iff,vScan_iff]
  simp
  exact ⟨fun h=>⟨by omega,h.1⟩,fun h=>⟨h.2,by omega⟩⟩
 rw [e]
 clear e
 refine CM.of Tryz.func159 rfl tabOk rfl rfl rfl rfl (by simp [SV.nms,SV.nm]) fun w_ M_ π_ G0_=>?_
 exact ru⟩
end
instance inVlo_6 : CMe 37 (Option Addr × Nat × Option Addr × Nat × Int × Int × List Int × List Box × Int × Int × Int × Int) true (fun (A, c, A', c', w, h, X, S, t, l, s, r) => [.a [I w, I h, .fz A c 1 (fl ye X)], .fz A' c' 6 (fl Box.e S), .a [I t, I l, I s, I r]]) (fun _ => []) (fun (_, _, _, _, w, h, X, S, t, l, s, r) => (vPlan ⟨w, h, X⟩ = true ∧ vSetL S = true ∧ vBounds ⟨t, l, s, r⟩ = true) ∧ X.length ≤ 1000000000 ∧ S.length ≤ 1000000000) ((Option Addr × Nat) × Option Addr × Nat) (fun _ _ => .t [.p 0 0, I 0]) (fun (_, _, _, _, w, h, X, S, t, l, s, r) q => [filtO q ⟨⟨w, h, X⟩, S, ⟨t, l, s, r⟩, false⟩]) := ⟨fun (A, c, A', c', w, h, X, S, t, l, s, r) ⟨⟨h1, h2, h3⟩, h4, h5⟩ => by
 dsimp only
 refine CM.of Tryz.func37 rfl tabOk rfl rfl rfl rfl (by simp [SV.nms,SV.nm]) fun w_ M_ π_ G0_=>?_
 refine roA (a1 ?_)
 intros
 refine Fin_fr 2 rfl fun A1 c1=>?_
 conv=>whnf
 (repeat ((with_reducible show ViewE _ _ _ _);(first|refine view_w zLn ?_|refine view_pf zSd ?_|refine view_p zSd ?_);(conv=>whnf)))
 refine Fin_fr 3 rfl fun A2 c2=>?_
 conv=>whnf
 (repeat ((with_reducible show ViewE _ _ _ _);(first|refine view_w zLn ?_|refine view_pf zSd ?_|refine view_p zSd ?_);(conv=>whnf)))
 refine Fin_ja ((A1,c1),A2,c2) ?_
 conv=>whnf
 exact ⟨rfl,rfl,rfl⟩⟩
instance inVlo_7 : AR 37 12 := ⟨trivial⟩
namespace Loc
theorem cmd_no {t g : Int} (h : vCmd ⟨t, g⟩ = false) : ¬(-32 ≤ t ∧ t ≤ 32 ∧ 0 ≤ g ∧ g ≤ 32) := fun hc => by
 have : vCmd ⟨t,g⟩ = true:=by unfold vCmd within between;simp;omega
 rw [h] at this
 cases this
def moveP (F : Filt) (c : Command) (bump : Bool) : Filt × Int :=
 if vCmd c=false then (F,1) else if F.lost=true then (F,9) else if (Pred.boxesP F.set c F.b bump).2=0 then (⟨F.p,(Pred.boxesP F.set c F.b bump).1,F.b,F.lost⟩,0) else (F,(Pred.boxesP F.set c F.b bump).2)
end Loc
instance inVlo_8 : CMe 101 (((Option Addr × Nat) × Option Addr × Nat) × Filt × Int × Int × Bool) true (fun (_, _, t, g, bump) => [.p 0 0, .a [I t, I g], B bump]) (fun (q, F, _, _, _) => [filtO q F]) (fun (_, F, _, _, _) => F.set.length ≤ 1000000000) ((Option Addr × Nat) × Option Addr × Nat) (fun (_, F, t, g, bump) _ => I (moveP F ⟨t, g⟩ bump).2) (fun (_, F, t, g, bump) q => [filtO q (moveP F ⟨t, g⟩ bump).1]) := ⟨fun (q, ⟨⟨w, h, X⟩, S, ⟨e, l, s, r⟩, lost⟩, t, g, bump) hp => by
 dsimp only [filtO] at *
 unfold moveP
 by_cases h1 : vCmd ⟨t,g⟩ = false
 ·rw [if_pos h1]
  have h1':=cmd_no h1
  refine CM.of Tryz.func101 rfl tabOk rfl rfl rfl rfl (by simp [SV.nms,SV.nm]) fun w_ M_ π_ G0_=>?_
  refine roA (a1 ?_)
  intro _
  refine Fin_ja q ?_
  conv=>whnf
  exact ⟨rfl,rfl,rfl⟩
 ·have h1' : vCmd ⟨t,g⟩ = true:=by simpa using h1
  rw [if_neg h1]
  clear h1
  cases lost with
  | true =>
    simp only [if_true]
    refine CM.of Tryz.func101 rfl tabOk rfl rfl rfl rfl (by simp [SV.nms,SV.nm]) fun w_ M_ π_ G0_=>?_
    refine roA (a1 ?_)
    intros
    refine Fin_ja q ?_
    conv=>whnf
    exact ⟨rfl,rfl,rfl⟩
  | false =>
    simp only [Bool.false_eq_true,if_false]
    refine CM.of Tryz.func101 rfl tabOk rfl rfl rfl rfl (by simp [SV.nms,SV.nm]) fun w_ M_ π_ G0_=>?_
    refine roA (a2 ?_ ?_)
    ·intro _ _ a
     rw [if_neg a]
     refine Fin_ja q ?_
     conv=>whnf
     exact ⟨rfl,rfl,rfl⟩
    ·intro _ _ a
     rw [if_pos a]
     refine Fin_fr 2 rfl fun A1 c1=>?_
     conv=>whnf
     (repeat ((with_reducible show ViewE _ _ _ _);(first|refine view_w zLn ?_|refine view_pf zSd ?_|refine view_p zSd ?_);(conv=>whnf)))
     refine Fin_ja (q.1,A1,c1) ?_
     conv=>whnf
     exact ⟨rfl,rfl,rfl⟩⟩
instance inVlo_9 : AR 101 5 := ⟨trivial⟩
end Go.Proofs.YtkflmidichikjaaGreatDoor.V
end
