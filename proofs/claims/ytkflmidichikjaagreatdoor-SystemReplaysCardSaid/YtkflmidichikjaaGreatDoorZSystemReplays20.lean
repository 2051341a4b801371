import Derived.Test.YtkflmidichikjaaGreatDoorZSystemReplays19
set_option linter.all false
section
namespace Go.Proofs.YtkflmidichikjaaGreatDoor.V
open Go.RowKit
set_option maxRecDepth 100000
set_option maxHeartbeats 8000000
open Heading BoxP
namespace BoxP
def szU (n u : Int) : Int := if n = 1 then 0 else n * u
def split (b : Box) : Box × Box × Bool :=
 if vol b < 2 then (⟨0,0,0,0,0,0⟩,⟨0,0,0,0,0,0⟩,false) else
 if szU (b.X1 - b.X0 + 1) 1 ≥ szU (b.Y1 - b.Y0 + 1) 1∧szU (b.X1 - b.X0 + 1) 1 ≥ szU b.Count 8 then
  ({ b with X1:=b.X0 + (b.X1 - b.X0 + 1) / 2 - 1 },{ b with X0:=b.X0 + (b.X1 - b.X0 + 1) / 2 },true)
 else if szU (b.Y1 - b.Y0 + 1) 1 ≥ szU b.Count 8 then
  ({ b with Y1:=b.Y0 + (b.Y1 - b.Y0 + 1) / 2 - 1 },{ b with Y0:=b.Y0 + (b.Y1 - b.Y0 + 1) / 2 },true)
 else ({ b with Count:=b.Count / 2 },{ b with From:=(b.From + b.Count / 2) % 256,Count:=b.Count - b.Count / 2 },true)
def far2 (d : Int) : Bool := decide (d < -2097152) || decide (d > 2097152)
def bmove (b : Box) (dx0 dx1 dy0 dy1 : Int) : Box × Int :=
 if vBox b=false∨dx0 > dx1∨dy0 > dy1 then (⟨0,0,0,0,0,0⟩,1) else
 if [dx0,dx1,dy0,dy1].any far2 then (⟨0,0,0,0,0,0⟩,2) else
 if [b.X0 + dx0,b.X1 + dx1,b.Y0 + dy0,b.Y1 + dy1].any far then (⟨0,0,0,0,0,0⟩,2) else
 ({ b with X0:=b.X0 + dx0,X1:=b.X1 + dx1,Y0:=b.Y0 + dy0,Y1:=b.Y1 + dy1 },0)
theorem vol_lt {b : Box} (h : ¬vol b < 2) : vBox b = true := by
 unfold vol at h
 split at h
 ·assumption
 ·omega
theorem far2_any {a b c d : Int} (h : [a, b, c, d].any far2 = false) : -2097152 ≤ a ∧ a ≤ 2097152 ∧ -2097152 ≤ b ∧ b ≤ 2097152 ∧ -2097152 ≤ c ∧ c ≤ 2097152 ∧ -2097152 ≤ d ∧ d ≤ 2097152 := by
 simp [far2] at h
 omega
end BoxP
instance inVb2_1 {n u : Int} : CFc 275 false [I n, I u] (-1000000000000 ≤ n ∧ n ≤ 1000000000000 ∧ (u = 1 ∨ u = 8)) (I (szU n u)) [] := ⟨fun ⟨_, _, h⟩ => by
 unfold szU
 refine CM.of Tryz.func275 rfl tabOk rfl rfl rfl rfl (by simp [SV.nms,SV.nm]) fun w_ M_ π_ G0_=>?_
 rcases h with rfl|rfl
 ·exact run
 ·exact run⟩
instance inVb2_2 {n : Int} : CFc 350 false [I n] True (B (far2 n)) [] := ⟨fun _ => by
 unfold far2
 refine CM.of Tryz.func350 rfl tabOk rfl rfl rfl rfl (by simp [SV.nms,SV.nm]) fun w_ M_ π_ G0_=>?_
 exact run⟩
instance inVb2_3 {ad : Addr} {a b c d e f x y h : Int} : CFc 64 false [.a [I a, I b, I c, I d, I e, I f], .fa ad [.v (.int .i64 x), .v (.int .i64 y), .v (.int .i64 h)]] (-1000000000000 ≤ h ∧ h ≤ 1000000000000) (B (bhas ⟨a, b, c, d, e, f⟩ ⟨x, y, h⟩)) [] := ⟨fun _ => by
 refine CM.of Tryz.func64 rfl tabOk rfl rfl rfl rfl (by simp [SV.nms,SV.nm]) fun w_ M_ π_ G0_=>?_
 exact run⟩
instance inVb2_4 {A : Option Addr} {cc : Nat} {X : List Box} {x y h : Int} : CFc 15 false [.fz A cc 6 (fl Box.e X), .a [I x, I y, I h]] (X.length ≤ 1000000000000 ∧ -1000000000000 ≤ h ∧ h ≤ 1000000000000) (B (X.any fun b => bhas b ⟨x, y, h⟩)) [] := ⟨fun _ => by
 refine CM.of Tryz.func15 rfl tabOk rfl rfl rfl rfl (by simp [SV.nms,SV.nm]) fun w_ M_ π_ G0_=>?_
 exact run⟩
instance inVb2_5 {a b c d e f : Int} : CFc 219 false [.a [I a, I b, I c, I d, I e, I f]] True (.t [(split ⟨a, b, c, d, e, f⟩).1.s, (split ⟨a, b, c, d, e, f⟩).2.1.s, B (split ⟨a, b, c, d, e, f⟩).2.2]) [] := ⟨fun _ => by
 unfold split
 refine CM.of Tryz.func219 rfl tabOk rfl rfl rfl rfl (by simp [SV.nms,SV.nm]) fun w_ M_ π_ G0_=>?_
 refine runA (a1 ?_)
 intro h
 have h1:=bnd (vol_lt (by omega : ¬ vol ⟨a,b,c,d,e,f⟩ < 2))
 exact run⟩
instance inVb2_6 {a b c d e f p q r s : Int} : CFc 311 false [.a [I a, I b, I c, I d, I e, I f], I p, I q, I r, I s] True (.t [(bmove ⟨a, b, c, d, e, f⟩ p q r s).1.s, I (bmove ⟨a, b, c, d, e, f⟩ p q r s).2]) [] := ⟨fun _ => by
 unfold bmove
 refine CM.of Tryz.func311 rfl tabOk rfl rfl rfl rfl (by simp [SV.nms,SV.nm]) fun w_ M_ π_ G0_=>?_
 refine runA (a1 ?_)
 intros
 have h1:=far2_any (by assumption)
 exact run⟩
attribute [irreducible] BoxP.szU BoxP.split BoxP.far2 BoxP.bmove
end Go.Proofs.YtkflmidichikjaaGreatDoor.V
end
section
namespace Go.Proofs.YtkflmidichikjaaGreatDoor.V
open Go.RowKit
set_option maxRecDepth 100000
set_option maxHeartbeats 8000000
open Heading BoxP
namespace Drive
def between (n lo hi : Int) : Bool := decide (n ≥ lo) && decide (n ≤ hi)
theorem between_iff {n lo hi : Int} : between n lo hi = true ↔ lo ≤ n ∧ n ≤ hi := by simp [between]
instance inVd_1 {n lo hi : Int} : Bnd (between n lo hi) (between n lo hi = true ∧ lo ≤ n ∧ n ≤ hi) := ⟨fun h => ⟨h, between_iff.1 h⟩⟩
def within (n k : Int) : Bool := between n (0 - k) k
theorem within_iff {n k : Int} : within n k = true ↔ 0 - k ≤ n ∧ n ≤ k := between_iff
instance inVd_2 {n k : Int} : Bnd (within n k) (within n k = true ∧ 0 - k ≤ n ∧ n ≤ k) := ⟨fun h => ⟨h, within_iff.1 h⟩⟩
def vBounds (b : Bounds) : Bool := between b.Turn 0 8 && between b.Length 0 16 && between b.Slip 0 8 && between b.Range 1 32
theorem vBounds_iff {b : Bounds} : vBounds b = true ↔ (0 ≤ b.Turn ∧ b.Turn ≤ 8) ∧ (0 ≤ b.Length ∧ b.Length ≤ 16) ∧ (0 ≤ b.Slip ∧ b.Slip ≤ 8) ∧ (1 ≤ b.Range ∧ b.Range ≤ 32) := by simp [vBounds, between_iff, and_assoc]
instance inVd_3 {t l s r : Int} : Bnd (vBounds ⟨t, l, s, r⟩) (vBounds ⟨t, l, s, r⟩ = true ∧ 0 ≤ t ∧ t ≤ 8 ∧ 0 ≤ l ∧ l ≤ 16 ∧ 0 ≤ s ∧ s ≤ 8 ∧ 1 ≤ r ∧ r ≤ 32) := ⟨fun h => by have := vBounds_iff.1 h; simp only at this; exact ⟨h, by omega⟩⟩
def vCmd (c : Command) : Bool := within c.Turn 32 && between c.Forward 0 32
theorem vCmd_iff {c : Command} : vCmd c = true ↔ (-32 ≤ c.Turn ∧ c.Turn ≤ 32) ∧ (0 ≤ c.Forward ∧ c.Forward ≤ 32) := by simp [vCmd, within_iff, between_iff]
instance inVd_4 {t f : Int} : Bnd (vCmd ⟨t, f⟩) (vCmd ⟨t, f⟩ = true ∧ -32 ≤ t ∧ t ≤ 32 ∧ 0 ≤ f ∧ f ≤ 32) := ⟨fun h => by have := vCmd_iff.1 h; simp only at this; exact ⟨h, by omega⟩⟩
def vPoint (p : Point) : Bool := within p.X 1048576 && within p.Y 1048576
theorem vPoint_iff {p : Point} : vPoint p = true ↔ (-1048576 ≤ p.X ∧ p.X ≤ 1048576) ∧ (-1048576 ≤ p.Y ∧ p.Y ≤ 1048576) := by simp [vPoint, within_iff]
instance inVd_5 {x y : Int} : Bnd (vPoint ⟨x, y⟩) (vPoint ⟨x, y⟩ = true ∧ -1048576 ≤ x ∧ x ≤ 1048576 ∧ -1048576 ≤ y ∧ y ≤ 1048576) := ⟨fun h => by have := vPoint_iff.1 h; simp only at this; exact ⟨h, by omega⟩⟩
def vPose (p : Pose) : Bool := vPoint ⟨p.X, p.Y⟩ && between p.H 0 255
theorem vPose_iff {p : Pose} : vPose p = true ↔ (-1048576 ≤ p.X ∧ p.X ≤ 1048576) ∧ (-1048576 ≤ p.Y ∧ p.Y ≤ 1048576) ∧ (0 ≤ p.H ∧ p.H ≤ 255) := by simp [vPose, vPoint_iff, between_iff, and_assoc]
instance inVd_6 {x y h : Int} : Bnd (vPose ⟨x, y, h⟩) (vPose ⟨x, y, h⟩ = true ∧ -1048576 ≤ x ∧ x ≤ 1048576 ∧ -1048576 ≤ y ∧ y ≤ 1048576 ∧ 0 ≤ h ∧ h ≤ 255) := ⟨fun h => by have := vPose_iff.1 h; simp only at this; exact ⟨h, by omega⟩⟩
def clip1 (n k : Int) : Int := max (0 - k) (min n k)
def clip (b : Bounds) (e : Slip) : Slip × Int := if vBounds b then (⟨clip1 e.Turn b.Turn, clip1 e.Length b.Length, clip1 e.X b.Slip, clip1 e.Y b.Slip⟩, 0) else (⟨0, 0, 0, 0⟩, 1)
theorem tmod_lit {h : Int} : -256 < h.tmod 256 ∧ h.tmod 256 < 256 ∧ h.tmod 256 + 256 * h.tdiv 256 = h := by
 have h1:=Int.tmod_add_mul_tdiv h 256
 have h2:=Int.tmod_lt_of_pos h (b:=256) (by omega)
 have h3:=Int.lt_tmod_of_pos h (b:=256) (by omega)
 omega
theorem tdiv_dn {a b : Int} (h : 1 ≤ b) : (a.tmod b < 0 → a.tdiv b - 1 = a / b) ∧ (0 ≤ a.tmod b → a.tdiv b = a / b) ∧ (a.tdiv b).natAbs ≤ a.natAbs := by
 have hn : (a.tdiv b).natAbs≤a.natAbs:=by rw [Int.natAbs_tdiv];exact Nat.div_le_self _ _
 have e1:=Int.tmod_add_mul_tdiv a b
 have e2:=Int.tmod_lt_of_pos a (b:=b) (by omega)
 have e3:=Int.lt_tmod_of_pos a (b:=b) (by omega)
 refine ⟨fun h0=>?_,fun h0=>?_,hn⟩
 ·have:=(Int.ediv_emod_unique (a:=a) (b:=b) (r:=a.tmod b + b) (q:=a.tdiv b - 1) (by omega)).2 ⟨by rw [Int.mul_sub,Int.mul_one];omega,by omega,by omega⟩
  exact this.1.symm
 ·have:=(Int.ediv_emod_unique (a:=a) (b:=b) (r:=a.tmod b) (q:=a.tdiv b) (by omega)).2 ⟨by omega,by omega,by omega⟩
  exact this.1.symm
def aheadP (h n : Int) : Point := ⟨(max 0 n * (dir h).X) / (dir h).D, (max 0 n * (dir h).Y) / (dir h).D⟩
def next (at_ : Pose) (c : Command) (e : Slip) : Pose × Int :=
 if vPose at_=false∨vCmd c=false then (⟨0,0,0⟩,1) else
 if within e.Turn 64=false∨within e.Length 64=false∨within e.X 64=false∨within e.Y 64=false then (⟨0,0,0⟩,2) else
 if c.Forward=0 then (⟨at_.X,at_.Y,(at_.H + c.Turn + e.Turn) % 256⟩,0) else
 if vPoint ⟨at_.X + ((aheadP ((at_.H + c.Turn + e.Turn) % 256) (c.Forward + e.Length)).X + e.X),at_.Y + ((aheadP ((at_.H + c.Turn + e.Turn) % 256) (c.Forward + e.Length)).Y + e.Y)⟩ then
  (⟨at_.X + ((aheadP ((at_.H + c.Turn + e.Turn) % 256) (c.Forward + e.Length)).X + e.X),at_.Y + ((aheadP ((at_.H + c.Turn + e.Turn) % 256) (c.Forward + e.Length)).Y + e.Y),(at_.H + c.Turn + e.Turn) % 256⟩,0) else (⟨0,0,0⟩,2)
def reach (c : Command) (b : Bounds) (h : Int) : Rect × Int :=
 if vCmd c=false∨vBounds b=false then (⟨0,0,0,0⟩,1) else
 if between h 0 255=false then (⟨0,0,0,0⟩,2) else
 if c.Forward=0 then (⟨0,0,0,0⟩,0) else
 (⟨min (aheadP h (c.Forward - b.Length)).X (aheadP h (c.Forward + b.Length)).X - b.Slip,min (aheadP h (c.Forward - b.Length)).Y (aheadP h (c.Forward + b.Length)).Y - b.Slip,
  max (aheadP h (c.Forward - b.Length)).X (aheadP h (c.Forward + b.Length)).X + b.Slip,max (aheadP h (c.Forward - b.Length)).Y (aheadP h (c.Forward + b.Length)).Y + b.Slip⟩,0)
theorem dir_bnd (h : Int) : -8192 ≤ (dir h).X ∧ (dir h).X ≤ 8192 ∧ -8192 ≤ (dir h).Y ∧ (dir h).Y ≤ 8192 ∧ 1 ≤ (dir h).D ∧ (dir h).D ≤ 8192 := by
 unfold dir dir0
 have hk:=sq_bnd (k:=h % 256 % 64) (B:=64) (by omega)
 have hl:=lowest_bnd (x:=4096 - h % 256 % 64 * (h % 256 % 64)) (y:=128 * (h % 256 % 64)) (d:=4096 + h % 256 % 64 * (h % 256 % 64)) (B:=8192) (by omega) (by omega) (by omega)
 have hr:=rotN_bnd (v:=lowest (4096 - h % 256 % 64 * (h % 256 % 64)) (128 * (h % 256 % 64)) (4096 + h % 256 % 64 * (h % 256 % 64))) (B:=8192) ⟨hl.1,hl.2.1,hl.2.2.1,hl.2.2.2.1⟩ (h % 256 / 64).toNat
 have hD:=rotN_D (v:=lowest (4096 - h % 256 % 64 * (h % 256 % 64)) (128 * (h % 256 % 64)) (4096 + h % 256 % 64 * (h % 256 % 64))) (h % 256 / 64).toNat
 have e5:=hl.2.2.2.2.1
 have e6:=hl.2.2.2.2.2
 refine ⟨hr.1,hr.2.1,hr.2.2.1,hr.2.2.2,?_,?_⟩
 ·show 1≤(rotN _ _).D
  rw [hD]
  exact e5
 ·show (rotN _ _).D≤8192
  rw [hD]
  skip
  omega
theorem div_bnd {a b B : Int} (hb : 1 ≤ b) (h : -B ≤ a ∧ a ≤ B) : -B ≤ a / b ∧ a / b ≤ B := by
 have hB : 0≤B:=by omega
 constructor
 ·refine (Int.le_ediv_iff_mul_le (by omega)).2 ?_
  have : B * 1≤B * b:=Int.mul_le_mul_of_nonneg_left hb hB
  rw [Int.neg_mul]
  omega
 ·refine Int.le_trans (Int.ediv_le_ediv (by omega) h.2) (Int.ediv_le_self _ hB)
theorem aheadP_bnd {h n N : Int} (hn : n ≤ N) (hN : 0 ≤ N) : -(N * 8192) ≤ (aheadP h n).X ∧ (aheadP h n).X ≤ N * 8192 ∧ -(N * 8192) ≤ (aheadP h n).Y ∧ (aheadP h n).Y ≤ N * 8192 := by
 have hd:=dir_bnd h
 have h1:=div_bnd (b:=(dir h).D) hd.2.2.2.2.1 (mul_bnd (a:=max 0 n) (b:=(dir h).X) (A:=N) (B:=8192) (by omega) (by omega))
 have h2:=div_bnd (b:=(dir h).D) hd.2.2.2.2.1 (mul_bnd (a:=max 0 n) (b:=(dir h).Y) (A:=N) (B:=8192) (by omega) (by omega))
 exact ⟨h1.1,h1.2,h2.1,h2.2⟩
end Drive
open Drive
instance inVd_7 {n lo hi : Int} : CFc 62 false [I n, I lo, I hi] True (B (between n lo hi)) [] := ⟨fun _ => by
 unfold between
 refine CM.of Tryz.func62 rfl tabOk rfl rfl rfl rfl (by simp [SV.nms,SV.nm]) fun w_ M_ π_ G0_=>?_
 exact run⟩
instance inVd_8 {n k : Int} : CFc 61 false [I n, I k] (-1000000000000 ≤ k ∧ k ≤ 1000000000000) (B (within n k)) [] := ⟨fun _ => by
 unfold within
 refine CM.of Tryz.func61 rfl tabOk rfl rfl rfl rfl (by simp [SV.nms,SV.nm]) fun w_ M_ π_ G0_=>?_
 exact run⟩
instance inVd_9 {t l s r : Int} : CFc 41 false [.a [I t, I l, I s, I r]] True (B (vBounds ⟨t, l, s, r⟩)) [] := ⟨fun _ => by
 unfold vBounds
 refine CM.of Tryz.func41 rfl tabOk rfl rfl rfl rfl (by simp [SV.nms,SV.nm]) fun w_ M_ π_ G0_=>?_
 exact run⟩
instance inVd_10 {t f : Int} : CFc 14 false [.a [I t, I f]] True (B (vCmd ⟨t, f⟩)) [] := ⟨fun _ => by
 unfold vCmd
 refine CM.of Tryz.func14 rfl tabOk rfl rfl rfl rfl (by simp [SV.nms,SV.nm]) fun w_ M_ π_ G0_=>?_
 exact run⟩
instance inVd_11 {x y : Int} : CFc 208 false [.a [I x, I y]] True (B (vPoint ⟨x, y⟩)) [] := ⟨fun _ => by
 unfold vPoint
 refine CM.of Tryz.func208 rfl tabOk rfl rfl rfl rfl (by simp [SV.nms,SV.nm]) fun w_ M_ π_ G0_=>?_
 exact run⟩
instance inVd_12 {x y h : Int} : CFc 156 false [.a [I x, I y, I h]] True (.a [I x, I y]) [] := ⟨fun _ => by
 refine CM.of Tryz.func156 rfl tabOk rfl rfl rfl rfl (by simp [SV.nms,SV.nm]) fun w_ M_ π_ G0_=>?_
 exact run⟩
instance inVd_13 {x y h : Int} : CFc 205 false [.a [I x, I y, I h]] True (B (vPose ⟨x, y, h⟩)) [] := ⟨fun _ => by
 unfold vPose
 refine CM.of Tryz.func205 rfl tabOk rfl rfl rfl rfl (by simp [SV.nms,SV.nm]) fun w_ M_ π_ G0_=>?_
 exact run⟩
instance inVd_14 {n k : Int} : CFc 152 false [I n, I k] (0 ≤ k ∧ k ≤ 1000000000000) (I (clip1 n k)) [] := ⟨fun _ => by
 unfold clip1
 refine CM.of Tryz.func152 rfl tabOk rfl rfl rfl rfl (by simp [SV.nms,SV.nm]) fun w_ M_ π_ G0_=>?_
 exact run⟩
instance inVd_15 {t l s r t' l' x y : Int} : CFc 98 false [.a [I t, I l, I s, I r], .a [I t', I l', I x, I y]] True (.t [(clip ⟨t, l, s, r⟩ ⟨t', l', x, y⟩).1.s, I (clip ⟨t, l, s, r⟩ ⟨t', l', x, y⟩).2]) [] := ⟨fun _ => by
 unfold clip
 refine CM.of Tryz.func98 rfl tabOk rfl rfl rfl rfl (by simp [SV.nms,SV.nm]) fun w_ M_ π_ G0_=>?_
 exact run⟩
instance inVd_16 {a b : Int} : CFc 209 false [I a, I b] (1 ≤ b ∧ b ≤ 9223372036854775807 ∧ -9223372036854775806 ≤ a ∧ a ≤ 9223372036854775807) (I (a / b)) [] := ⟨fun _ => by
 refine CM.of Tryz.func209 rfl tabOk rfl rfl rfl rfl (by simp [SV.nms,SV.nm]) fun w_ M_ π_ G0_=>?_
 have h1:=tdiv_dn (a:=a) (b:=b) (by omega)
 exact run⟩
instance inVd_17 {h : Int} : CFc 206 false [I h] (-1000000000000 ≤ h ∧ h ≤ 1000000000000) (I (h % 256)) [] := ⟨fun _ => by
 refine CM.of Tryz.func206 rfl tabOk rfl rfl rfl rfl (by simp [SV.nms,SV.nm]) fun w_ M_ π_ G0_=>?_
 have h1:=tmod_lit (h:=h)
 exact run⟩
instance inVd_18 {h n : Int} : CFc 207 false [I h, I n] (-1000000 ≤ n ∧ n ≤ 1000000) (aheadP h n).s [] := ⟨fun _ => by
 unfold aheadP
 refine CM.of Tryz.func207 rfl tabOk rfl rfl rfl rfl (by simp [SV.nms,SV.nm]) fun w_ M_ π_ G0_=>?_
 have hd:=dir_bnd h
 have h1:=mul_bnd (a:=max 0 n) (b:=(dir h).X) (A:=1000000) (B:=8192) (by omega) (by omega)
 have h2:=mul_bnd (a:=max 0 n) (b:=(dir h).Y) (A:=1000000) (B:=8192) (by omega) (by omega)
 exact run⟩
instance inVd_19 {x y h t f t' l' x' y' : Int} : CFc 154 false [.a [I x, I y, I h], .a [I t, I f], .a [I t', I l', I x', I y']] True (.t [(next ⟨x, y, h⟩ ⟨t, f⟩ ⟨t', l', x', y'⟩).1.s, I (next ⟨x, y, h⟩ ⟨t, f⟩ ⟨t', l', x', y'⟩).2]) [] := ⟨fun _ => by
 unfold next
 refine CM.of Tryz.func154 rfl tabOk rfl rfl rfl rfl (by simp [SV.nms,SV.nm]) fun w_ M_ π_ G0_=>?_
 refine runA (a1 ?_)
 intros
 have h1:=aheadP_bnd (h:=(h + t + t') % 256) (n:=f + l') (N:=96) (by omega) (by omega)
 exact run⟩
instance inVd_20 {t f t' l' s' r' h : Int} : CFc 312 false [.a [I t, I f], .a [I t', I l', I s', I r'], I h] True (.t [(reach ⟨t, f⟩ ⟨t', l', s', r'⟩ h).1.s, I (reach ⟨t, f⟩ ⟨t', l', s', r'⟩ h).2]) [] := ⟨fun _ => by
 unfold reach
 refine CM.of Tryz.func312 rfl tabOk rfl rfl rfl rfl (by simp [SV.nms,SV.nm]) fun w_ M_ π_ G0_=>?_
 refine runA (a1 ?_)
 intros
 have h1:=aheadP_bnd (h:=h) (n:=f - l') (N:=96) (by omega) (by omega)
 have h2:=aheadP_bnd (h:=h) (n:=f + l') (N:=96) (by omega) (by omega)
 exact run⟩
attribute [irreducible] Drive.between Drive.within Drive.vBounds Drive.vCmd Drive.vPoint Drive.vPose Drive.clip1 Drive.clip Drive.aheadP Drive.next Drive.reach
end Go.Proofs.YtkflmidichikjaaGreatDoor.V
end
section
namespace Go.Proofs.YtkflmidichikjaaGreatDoor.V
open Go.RowKit
set_option maxRecDepth 100000
set_option maxHeartbeats 8000000
open Heading BoxP Drive
structure Plan where
 (W H : Int)
 (cells : List Int)
 deriving DecidableEq,Inhabited
namespace PlanP
def size (n : Int) : Bool := decide (n ≥ 1) && decide (n ≤ 64)
theorem size_iff {n : Int} : size n = true ↔ 1 ≤ n ∧ n ≤ 64 := by simp [size]
instance inVp_1 {n : Int} : Bnd (size n) (size n = true ∧ 1 ≤ n ∧ n ≤ 64) := ⟨fun h => ⟨h, size_iff.1 h⟩⟩
def maxN (X : List Int) : Nat → Int
 | 0=>gt X 0
 | i + 1=>max (maxN X i) (gt X (i + 1))
def vPlan (p : Plan) : Bool := size p.W && size p.H && ((p.cells.length : Int) == p.W * p.H) && decide (maxN p.cells (p.cells.length - 1) ≤ 2)
def insideP (p : Plan) (c : Cell) : Bool := decide (c.X ≥ 0) && decide (c.X < p.W) && decide (c.Y ≥ 0) && decide (c.Y < p.H)
def at_ (p : Plan) (c : Cell) : Int := if vPlan p then (if insideP p c then gt p.cells (c.Y * p.W + c.X).toNat else 2) else 0
theorem wh_bnd {w h : Int} (h1 : 1 ≤ w ∧ w ≤ 64) (h2 : 1 ≤ h ∧ h ≤ 64) : 1 ≤ w * h ∧ w * h ≤ 4096 := by
 have:=mul_bnd (a:=w) (b:=h) (A:=64) (B:=64) (by omega) (by omega)
 have h3 : 1 * 1≤w * h:=Int.mul_le_mul (by omega) (by omega) (by omega) (by omega)
 omega
theorem vPlan_iff {p : Plan} : vPlan p = true ↔ (1 ≤ p.W ∧ p.W ≤ 64) ∧ (1 ≤ p.H ∧ p.H ≤ 64) ∧ (p.cells.length : Int) = p.W * p.H ∧ maxN p.cells (p.cells.length - 1) ≤ 2 := by simp [vPlan, size_iff, and_assoc]
instance inVp_2 {w h : Int} {X : List Int} : Bnd (vPlan ⟨w, h, X⟩) (vPlan ⟨w, h, X⟩ = true ∧ 1 ≤ w ∧ w ≤ 64 ∧ 1 ≤ h ∧ h ≤ 64 ∧ (X.length : Int) = w * h ∧ X.length ≤ 4096) := ⟨fun e => by
 have:=vPlan_iff.1 e
 simp only at this
 have h1:=wh_bnd (w:=w) (h:=h) (by omega) (by omega)
 exact ⟨e,by omega⟩⟩
theorem inside_iff {p : Plan} {c : Cell} : insideP p c = true ↔ (0 ≤ c.X ∧ c.X < p.W) ∧ 0 ≤ c.Y ∧ c.Y < p.H := by simp [insideP, and_assoc]
instance inVp_3 {w h x y : Int} {X : List Int} : Bnd (insideP ⟨w, h, X⟩ ⟨x, y⟩) (insideP ⟨w, h, X⟩ ⟨x, y⟩ = true ∧ 0 ≤ x ∧ x < w ∧ 0 ≤ y ∧ y < h) := ⟨fun e => by
 have:=inside_iff.1 e
 simp only at this
 exact ⟨e,by omega⟩⟩
theorem idx_bnd {w h x y : Int} (h1 : 0 ≤ x ∧ x < w) (h2 : 0 ≤ y ∧ y < h) : 0 ≤ y * w ∧ y * w + x < w * h := by
 have e1 : 0≤y * w:=Int.mul_nonneg (by omega) (by omega)
 have e2 : (y + 1) * w≤h * w:=Int.mul_le_mul_of_nonneg_right (by omega) (by omega)
 rw [Int.add_mul,Int.one_mul,Int.mul_comm h w] at e2
 exact ⟨e1,by omega⟩
end PlanP
open PlanP
instance inVp_4 {n : Int} : CFc 82 false [I n] True (B (size n)) [] := ⟨fun _ => by
 unfold size
 refine CM.of Tryz.func82 rfl tabOk rfl rfl rfl rfl (by simp [SV.nms,SV.nm]) fun w_ M_ π_ G0_=>?_
 exact run⟩
section
variable {A : Option Addr} {cc : Nat} {X : List Int}
instance inVp_5 : CFc 83 false [.fz A cc 1 (fl ye X)] (1 ≤ X.length ∧ X.length ≤ 1000000000000) (.v (.int .u8 (maxN X (X.length - 1)))) [] := ⟨fun hp => by
 refine CM.of Tryz.func83 rfl tabOk rfl rfl rfl rfl (by simp [SV.nms,SV.nm]) fun w_ M_ π_ G0_=>?_
 refine runA (a1 ?_)
 intros
 refine LoopX_c tabOk [] (fun s : Nat × Int=>s.1 + 1≤X.length∧s.2=maxN X s.1) (fun s=>[(4,I (s.1 + 1 : Nat)),(3,Y s.2)]) (fun _=>[]) (fun s=>X.length - s.1) (0,gt X 0) ⟨by simp only;omega,rfl⟩ ⟨rfl,rfl,trivial⟩ trivial ?_
 conv=>whnf
 rintro ⟨i,m⟩ ⟨hi,hm⟩
 simp only at hi hm
 refine runA (a2 ?_ ?_)
 ·exact fun h=>rnd (i + 1,max m (gt X (i + 1))) ⟨by simp only;omega,by rw [hm];rfl⟩ (by simp only;omega)
 ·intro h
  rw [hm,show X.length - 1=i by omega]
  rfl⟩
instance inVp_6 {w h : Int} : CFc 39 false [.a [I w, I h, .fz A cc 1 (fl ye X)]] (X.length ≤ 1000000000000) (B (vPlan ⟨w, h, X⟩)) [] := ⟨fun hp => by
 unfold vPlan
 refine CM.of Tryz.func39 rfl tabOk rfl rfl rfl rfl (by simp [SV.nms,SV.nm]) fun w_ M_ π_ G0_=>?_
 refine runA (a1 ?_)
 intros
 have h1:=wh_bnd (w:=w) (h:=h) (by omega) (by omega)
 exact run⟩
instance inVp_7 {w h x y : Int} : CFc 146 false [.a [I w, I h, .fz A cc 1 (fl ye X)], .a [I x, I y]] True (B (insideP ⟨w, h, X⟩ ⟨x, y⟩)) [] := ⟨fun hp => by
 unfold insideP
 refine CM.of Tryz.func146 rfl tabOk rfl rfl rfl rfl (by simp [SV.nms,SV.nm]) fun w_ M_ π_ G0_=>?_
 exact run⟩
instance inVp_8 {w h x y : Int} : CFc 93 false [.a [I w, I h, .fz A cc 1 (fl ye X)], .a [I x, I y]] (X.length ≤ 1000000000000) (Y (at_ ⟨w, h, X⟩ ⟨x, y⟩)) [] := ⟨fun hp => by
 unfold at_
 refine CM.of Tryz.func93 rfl tabOk rfl rfl rfl rfl (by simp [SV.nms,SV.nm]) fun w_ M_ π_ G0_=>?_
 refine runA (a1 ?_)
 intros
 have h1:=idx_bnd (w:=w) (h:=h) (x:=x) (y:=y) (by omega) (by omega)
 have h2:=wh_bnd (w:=w) (h:=h) (by omega) (by omega)
 exact run⟩
end
attribute [irreducible] PlanP.size PlanP.vPlan PlanP.insideP PlanP.at_
end Go.Proofs.YtkflmidichikjaaGreatDoor.V
end
section
namespace Go.Proofs.YtkflmidichikjaaGreatDoor.V
open Go.RowKit
set_option maxRecDepth 100000
set_option maxHeartbeats 8000000
open Heading BoxP Drive
namespace Seg
def near (n : Int) : Bool := decide (n ≥ -2097152) && decide (n ≤ 2097152)
theorem near_iff {n : Int} : near n = true ↔ -2097152 ≤ n ∧ n ≤ 2097152 := by simp [near]
instance inVs_1 {n : Int} : Bnd (near n) (near n = true ∧ -2097152 ≤ n ∧ n ≤ 2097152) := ⟨fun h => ⟨h, near_iff.1 h⟩⟩
def sPoint (p : Point) : Bool := near p.X && near p.Y
theorem sPoint_iff {p : Point} : sPoint p = true ↔ (-2097152 ≤ p.X ∧ p.X ≤ 2097152) ∧ (-2097152 ≤ p.Y ∧ p.Y ≤ 2097152) := by simp [sPoint, near_iff]
instance inVs_2 {x y : Int} : Bnd (sPoint ⟨x, y⟩) (sPoint ⟨x, y⟩ = true ∧ -2097152 ≤ x ∧ x ≤ 2097152 ∧ -2097152 ≤ y ∧ y ≤ 2097152) := ⟨fun h => by have := sPoint_iff.1 h; simp only at this; exact ⟨h, by omega⟩⟩
def sRect (r : Rect) : Bool := near r.X0 && near r.Y0 && near r.X1 && near r.Y1 && decide (r.X0 ≤ r.X1) && decide (r.Y0 ≤ r.Y1)
theorem sRect_iff {r : Rect} : sRect r = true ↔ (-2097152 ≤ r.X0 ∧ r.X0 ≤ 2097152) ∧ (-2097152 ≤ r.Y0 ∧ r.Y0 ≤ 2097152) ∧ (-2097152 ≤ r.X1 ∧ r.X1 ≤ 2097152) ∧ (-2097152 ≤ r.Y1 ∧ r.Y1 ≤ 2097152) ∧ r.X0 ≤ r.X1 ∧ r.Y0 ≤ r.Y1 := by simp [sRect, near_iff, and_assoc]
instance inVs_3 {a b c d : Int} : Bnd (sRect ⟨a, b, c, d⟩) (sRect ⟨a, b, c, d⟩ = true ∧ -2097152 ≤ a ∧ c ≤ 2097152 ∧ -2097152 ≤ b ∧ d ≤ 2097152 ∧ a ≤ c ∧ b ≤ d) := ⟨fun h => by have := sRect_iff.1 h; simp only at this; exact ⟨h, by omega⟩⟩
def lessF (a b : Fraction) : Bool := decide (a.N * b.D < b.N * a.D)
structure Span where
 (lo hi : Fraction)
 deriving DecidableEq,Inhabited
def loHi (p d a b : Int) : Fraction × Fraction := if d < 0 then (⟨p - b, 0 - d⟩, ⟨p - a, 0 - d⟩) else (⟨a - p, d⟩, ⟨b - p, d⟩)
def slab (s : Span) (p d a b : Int) : Span × Bool :=
 if d=0 then (s,decide (a≤p) && decide (p≤b)) else
 (⟨bif lessF s.lo (loHi p d a b).1 then (loHi p d a b).1 else s.lo,bif lessF (loHi p d a b).2 s.hi then (loHi p d a b).2 else s.hi⟩,
  !lessF (bif lessF (loHi p d a b).2 s.hi then (loHi p d a b).2 else s.hi) (bif lessF s.lo (loHi p d a b).1 then (loHi p d a b).1 else s.lo))
def beside (n lo hi : Int) : Int := max (max (lo - n) 0) (n - hi)
def sgn (n : Int) : Int := if n > 0 then 1 else if n < 0 then -1 else 0
def cross (p q r : Point) : Int := (q.X - p.X) * (r.Y - p.Y) - (q.Y - p.Y) * (r.X - p.X)
def sq2 (a b : Point) : Int := (a.X - b.X) * (a.X - b.X) + (a.Y - b.Y) * (a.Y - b.Y)
def gap (p : Point) (r : Rect) : Int := if sPoint p ∧ sRect r then beside p.X r.X0 r.X1 * beside p.X r.X0 r.X1 + beside p.Y r.Y0 r.Y1 * beside p.Y r.Y0 r.Y1 else 0
def minusR (q r : Rect) : Rect × Bool := if sRect q ∧ sRect r ∧ sRect ⟨q.X0 - r.X1, q.Y0 - r.Y1, q.X1 - r.X0, q.Y1 - r.Y0⟩ then (⟨q.X0 - r.X1, q.Y0 - r.Y1, q.X1 - r.X0, q.Y1 - r.Y0⟩, true) else (⟨0, 0, 0, 0⟩, false)
end Seg
open Seg
instance inVs_4 {n : Int} : CFc 239 false [I n] True (B (near n)) [] := ⟨fun _ => by
 unfold near
 refine CM.of Tryz.func239 rfl tabOk rfl rfl rfl rfl (by simp [SV.nms,SV.nm]) fun w_ M_ π_ G0_=>?_
 exact run⟩
instance inVs_5 {x y : Int} : CFc 181 false [.a [I x, I y]] True (B (sPoint ⟨x, y⟩)) [] := ⟨fun _ => by
 unfold sPoint
 refine CM.of Tryz.func181 rfl tabOk rfl rfl rfl rfl (by simp [SV.nms,SV.nm]) fun w_ M_ π_ G0_=>?_
 exact run⟩
instance inVs_6 {x y d : Int} : CFc 377 false [.a [I x, I y, I d]] True (B (vVec ⟨x, y, d⟩)) [] := ⟨fun _ => by
 unfold vVec
 refine CM.of Tryz.func377 rfl tabOk rfl rfl rfl rfl (by simp [SV.nms,SV.nm]) fun w_ M_ π_ G0_=>?_
 refine runA (a1 ?_)
 intros
 have h1:=sq_bnd (k:=x) (B:=67108864) (by omega)
 have h2:=sq_bnd (k:=y) (B:=67108864) (by omega)
 have h3:=sq_bnd (k:=d) (B:=67108864) (by omega)
 exact run⟩
instance inVs_7 {a b c d : Int} : CFc 182 false [.a [I a, I b, I c, I d]] True (B (sRect ⟨a, b, c, d⟩)) [] := ⟨fun _ => by
 unfold sRect
 refine CM.of Tryz.func182 rfl tabOk rfl rfl rfl rfl (by simp [SV.nms,SV.nm]) fun w_ M_ π_ G0_=>?_
 exact run⟩
instance inVs_8 {a b c d : Int} : CFc 384 false [.a [I a, I b], .a [I c, I d]] (-67108864 ≤ a ∧ a ≤ 67108864 ∧ -67108864 ≤ b ∧ b ≤ 67108864 ∧ -67108864 ≤ c ∧ c ≤ 67108864 ∧ -67108864 ≤ d ∧ d ≤ 67108864) (B (lessF ⟨a, b⟩ ⟨c, d⟩)) [] := ⟨fun _ => by
 unfold lessF
 refine CM.of Tryz.func384 rfl tabOk rfl rfl rfl rfl (by simp [SV.nms,SV.nm]) fun w_ M_ π_ G0_=>?_
 have h1:=mul_bnd (a:=a) (b:=d) (A:=67108864) (B:=67108864) (by omega) (by omega)
 have h2:=mul_bnd (a:=c) (b:=b) (A:=67108864) (B:=67108864) (by omega) (by omega)
 exact run⟩
instance inVs_9 {n lo hi : Int} : CFc 183 false [I n, I lo, I hi] (-1000000000000 ≤ n ∧ n ≤ 1000000000000 ∧ -1000000000000 ≤ lo ∧ lo ≤ 1000000000000 ∧ -1000000000000 ≤ hi ∧ hi ≤ 1000000000000) (I (beside n lo hi)) [] := ⟨fun _ => by
 unfold beside
 refine CM.of Tryz.func183 rfl tabOk rfl rfl rfl rfl (by simp [SV.nms,SV.nm]) fun w_ M_ π_ G0_=>?_
 exact run⟩
instance inVs_10 {n : Int} : CFc 304 false [I n] True (I (sgn n)) [] := ⟨fun _ => by
 unfold sgn
 refine CM.of Tryz.func304 rfl tabOk rfl rfl rfl rfl (by simp [SV.nms,SV.nm]) fun w_ M_ π_ G0_=>?_
 exact run⟩
instance inVs_11 {a b c d e f : Int} : CFc 305 false [.a [I a, I b], .a [I c, I d], .a [I e, I f]] (-4194304 ≤ a ∧ a ≤ 4194304 ∧ -4194304 ≤ b ∧ b ≤ 4194304 ∧ -4194304 ≤ c ∧ c ≤ 4194304 ∧ -4194304 ≤ d ∧ d ≤ 4194304 ∧ -4194304 ≤ e ∧ e ≤ 4194304 ∧ -4194304 ≤ f ∧ f ≤ 4194304) (I (cross ⟨a, b⟩ ⟨c, d⟩ ⟨e, f⟩)) [] := ⟨fun _ => by
 unfold cross
 refine CM.of Tryz.func305 rfl tabOk rfl rfl rfl rfl (by simp [SV.nms,SV.nm]) fun w_ M_ π_ G0_=>?_
 have h1:=mul_bnd (a:=c - a) (b:=f - b) (A:=8388608) (B:=8388608) (by omega) (by omega)
 have h2:=mul_bnd (a:=d - b) (b:=e - a) (A:=8388608) (B:=8388608) (by omega) (by omega)
 exact run⟩
instance inVs_12 {a b c d : Int} : CFc 306 false [.a [I a, I b], .a [I c, I d]] (-4194304 ≤ a ∧ a ≤ 4194304 ∧ -4194304 ≤ b ∧ b ≤ 4194304 ∧ -4194304 ≤ c ∧ c ≤ 4194304 ∧ -4194304 ≤ d ∧ d ≤ 4194304) (I (sq2 ⟨a, b⟩ ⟨c, d⟩)) [] := ⟨fun _ => by
 unfold sq2
 refine CM.of Tryz.func306 rfl tabOk rfl rfl rfl rfl (by simp [SV.nms,SV.nm]) fun w_ M_ π_ G0_=>?_
 have h1:=sq_bnd (k:=a - c) (B:=8388608) (by omega)
 have h2:=sq_bnd (k:=b - d) (B:=8388608) (by omega)
 exact run⟩
instance inVs_13 {a b c d a' b' c' d' : Int} : CFc 364 false [.a [I a, I b, I c, I d], .a [I a', I b', I c', I d']] (-1000000000000 ≤ a ∧ a ≤ 1000000000000 ∧ -1000000000000 ≤ b ∧ b ≤ 1000000000000 ∧ -1000000000000 ≤ c ∧ c ≤ 1000000000000 ∧ -1000000000000 ≤ d ∧ d ≤ 1000000000000 ∧ -1000000000000 ≤ a' ∧ a' ≤ 1000000000000 ∧ -1000000000000 ≤ b' ∧ b' ≤ 1000000000000 ∧ -1000000000000 ≤ c' ∧ c' ≤ 1000000000000 ∧ -1000000000000 ≤ d' ∧ d' ≤ 1000000000000) (.t [(minusR ⟨a, b, c, d⟩ ⟨a', b', c', d'⟩).1.s, B (minusR ⟨a, b, c, d⟩ ⟨a', b', c', d'⟩).2]) [] := ⟨fun _ => by
 unfold minusR
 refine CM.of Tryz.func364 rfl tabOk rfl rfl rfl rfl (by simp [SV.nms,SV.nm]) fun w_ M_ π_ G0_=>?_
 exact run⟩
attribute [irreducible] Seg.near Seg.sPoint Seg.sRect Seg.lessF Seg.loHi Seg.slab Seg.beside Seg.sgn Seg.cross Seg.sq2 Seg.gap Seg.minusR
end Go.Proofs.YtkflmidichikjaaGreatDoor.V
end
section
namespace Go.Proofs.YtkflmidichikjaaGreatDoor.V
open Go.RowKit
set_option maxRecDepth 100000
set_option maxHeartbeats 8000000
open Heading BoxP Drive Seg
instance inVs2_1 {p q a b c d : Int} : CFc 126 false [.a [I p, I q], .a [I a, I b, I c, I d]] True (I (gap ⟨p, q⟩ ⟨a, b, c, d⟩)) [] := ⟨fun _ => by
 unfold gap
 refine CM.of Tryz.func126 rfl tabOk rfl rfl rfl rfl (by simp [SV.nms,SV.nm]) fun w_ M_ π_ G0_=>?_
 refine runA (a1 ?_)
 intros
 have h1:=sq_bnd (k:=beside p a c) (B:=8388608) (by unfold beside;omega)
 have h2:=sq_bnd (k:=beside q b d) (B:=8388608) (by unfold beside;omega)
 exact run⟩
instance inVs2_2 : CMp 378 (Int × Int × Int × Int × Int × Int × Int × Int) false (fun (ln, ld, hn, hd, p, d, a, b) => [.p 0 0, I p, I d, I a, I b]) (fun (ln, ld, hn, hd, p, d, a, b) => [.box 439 [I ln, I ld, I hn, I hd]]) (fun (ln, ld, hn, hd, p, d, a, b) => -67108864 ≤ ln ∧ ln ≤ 67108864 ∧ -67108864 ≤ ld ∧ ld ≤ 67108864 ∧ -67108864 ≤ hn ∧ hn ≤ 67108864 ∧ -67108864 ≤ hd ∧ hd ≤ 67108864 ∧ -8388608 ≤ p ∧ p ≤ 8388608 ∧ -67108864 ≤ d ∧ d ≤ 67108864 ∧ -8388608 ≤ a ∧ a ≤ 8388608 ∧ -8388608 ≤ b ∧ b ≤ 8388608) (fun (ln, ld, hn, hd, p, d, a, b) => B (slab ⟨⟨ln, ld⟩, ⟨hn, hd⟩⟩ p d a b).2) (fun (ln, ld, hn, hd, p, d, a, b) => [.box 439 [I (slab ⟨⟨ln, ld⟩, ⟨hn, hd⟩⟩ p d a b).1.lo.N, I (slab ⟨⟨ln, ld⟩, ⟨hn, hd⟩⟩ p d a b).1.lo.D, I (slab ⟨⟨ln, ld⟩, ⟨hn, hd⟩⟩ p d a b).1.hi.N, I (slab ⟨⟨ln, ld⟩, ⟨hn, hd⟩⟩ p d a b).1.hi.D]]) := ⟨fun ⟨ln, ld, hn, hd, p, d, a, b⟩ hp => by
 simp only at hp
 unfold slab loHi
 refine CM.of Tryz.func378 rfl tabOk rfl rfl rfl rfl (by simp [SV.nms,SV.nm]) fun w_ M_ π_ G0_=>?_
 exact run⟩
instance inVs2_3 : AQ 378 8 := ⟨trivial⟩
namespace Seg
def Span.ok (s : Span) : Prop := -67108864 ≤ s.lo.N ∧ s.lo.N ≤ 67108864 ∧ 1 ≤ s.lo.D ∧ s.lo.D ≤ 67108864 ∧ -67108864 ≤ s.hi.N ∧ s.hi.N ≤ 67108864 ∧ 1 ≤ s.hi.D ∧ s.hi.D ≤ 67108864
theorem slab_ok {s : Span} {p d a b : Int} (h : s.ok) (hp : -2097152 ≤ p ∧ p ≤ 2097152) (hd : -67108864 ≤ d ∧ d ≤ 67108864) (ha : -2097152 ≤ a ∧ a ≤ 2097152) (hb : -2097152 ≤ b ∧ b ≤ 2097152) : (slab s p d a b).1.ok := by
 unfold slab
 split
 ·exact h
 unfold Span.ok at h ⊢
 unfold loHi
 split<;>simp only []<;>cases lessF s.lo _<;>cases lessF _ s.hi<;>simp only [cond_true,cond_false]<;>omega
def span0 : Span := ⟨⟨0, 1⟩, ⟨8388608, 1⟩⟩
def through (p : Point) (v : Vector) (r : Rect) : Span × Bool :=
 if sPoint p∧vVec v∧sRect r then
  (if (slab span0 p.X v.X r.X0 r.X1).2∧(slab (slab span0 p.X v.X r.X0 r.X1).1 p.Y v.Y r.Y0 r.Y1).2 then ((slab (slab span0 p.X v.X r.X0 r.X1).1 p.Y v.Y r.Y0 r.Y1).1,true) else (⟨⟨0,0⟩,⟨0,0⟩⟩,false))
 else (⟨⟨0,0⟩,⟨0,0⟩⟩,false)
end Seg
attribute [irreducible] Seg.through
end Go.Proofs.YtkflmidichikjaaGreatDoor.V
end
section
namespace Go.Proofs.YtkflmidichikjaaGreatDoor.V
open Go.RowKit
set_option maxRecDepth 100000
set_option maxHeartbeats 8000000
open Heading BoxP Drive Seg
instance inVs3_1 {px py x y d a b c e : Int} : CFc 347 false [.a [I px, I py], .a [I x, I y, I d], .a [I a, I b, I c, I e]] True (.t [.a [I (through ⟨px, py⟩ ⟨x, y, d⟩ ⟨a, b, c, e⟩).1.lo.N, I (through ⟨px, py⟩ ⟨x, y, d⟩ ⟨a, b, c, e⟩).1.lo.D, I (through ⟨px, py⟩ ⟨x, y, d⟩ ⟨a, b, c, e⟩).1.hi.N, I (through ⟨px, py⟩ ⟨x, y, d⟩ ⟨a, b, c, e⟩).1.hi.D], B (through ⟨px, py⟩ ⟨x, y, d⟩ ⟨a, b, c, e⟩).2]) [] := ⟨fun _ => by
 unfold through span0
 refine CM.of Tryz.func347 rfl tabOk rfl rfl rfl rfl (by simp [SV.nms,SV.nm]) fun w_ M_ π_ G0_=>?_
 refine runA (a1 ?_)
 intros
 have h1:=slab_ok (s:=span0) (p:=px) (d:=x) (a:=a) (b:=c) (by unfold Span.ok span0;simp) (by omega) (by omega) (by omega) (by omega)
 unfold Span.ok span0 at h1
 exact run⟩
namespace Seg
theorem through_ok {p : Point} {v : Vector} {r : Rect} (h : (through p v r).2 = true) : (through p v r).1.ok ∧ sPoint p = true ∧ vVec v = true ∧ sRect r = true := by
 unfold through at h ⊢
 split at h
 ·rename_i hv
  obtain ⟨h1,h2,h3⟩:=hv
  have e1:=sPoint_iff.1 h1
  have e2:=vVec_iff.1 h2
  have e3:=sRect_iff.1 h3
  split at h
  ·rename_i hs
   rw [if_pos ⟨h1,h2,h3⟩,if_pos hs]
   exact ⟨slab_ok (slab_ok (by unfold Span.ok span0;simp) (by omega) (by omega) (by omega) (by omega)) (by omega) (by omega) (by omega) (by omega),h1,h2,h3⟩
  ·cases h
 ·cases h
def meets (p : Point) (v : Vector) (lo hi : Int) (r : Rect) : Bool :=
 if lo < 0∨hi < lo∨hi > 65536 then false else
 (through p v r).2 && decide (lo * (through p v r).1.hi.D≤(through p v r).1.hi.N * v.D) && decide ((through p v r).1.lo.N * v.D≤hi * (through p v r).1.lo.D)
end Seg
instance inVs3_2 {px py x y d lo hi a b c e : Int} : CFc 365 false [.a [I px, I py], .a [I x, I y, I d], I lo, I hi, .a [I a, I b, I c, I e]] True (B (meets ⟨px, py⟩ ⟨x, y, d⟩ lo hi ⟨a, b, c, e⟩)) [] := ⟨fun _ => by
 unfold meets
 refine CM.of Tryz.func365 rfl tabOk rfl rfl rfl rfl (by simp [SV.nms,SV.nm]) fun w_ M_ π_ G0_=>?_
 refine runA (a1 ?_)
 intro g1 g2 g3 ht
 have hk:=through_ok ht
 obtain ⟨hs,-,hv,-⟩:=hk
 have hv:=vVec_iff.1 hv
 simp only at hv
 unfold Span.ok at hs
 have h1:=mul_bnd (a:=lo) (b:=(through ⟨px,py⟩ ⟨x,y,d⟩ ⟨a,b,c,e⟩).1.hi.D) (A:=65536) (B:=67108864) (by omega) (by omega)
 have h2:=mul_bnd (a:=(through ⟨px,py⟩ ⟨x,y,d⟩ ⟨a,b,c,e⟩).1.hi.N) (b:=d) (A:=67108864) (B:=67108864) (by omega) (by omega)
 have h3:=mul_bnd (a:=(through ⟨px,py⟩ ⟨x,y,d⟩ ⟨a,b,c,e⟩).1.lo.N) (b:=d) (A:=67108864) (B:=67108864) (by omega) (by omega)
 have h4:=mul_bnd (a:=hi) (b:=(through ⟨px,py⟩ ⟨x,y,d⟩ ⟨a,b,c,e⟩).1.lo.D) (A:=65536) (B:=67108864) (by omega) (by omega)
 exact run⟩
namespace Seg
def before (p : Point) (v : Vector) (hi : Int) (r : Rect) : Bool :=
 if hi < 0∨hi > 65536 then false else
 (through p v r).2 && decide ((through p v r).1.lo.N * v.D < hi * (through p v r).1.lo.D)
end Seg
instance inVs3_3 {px py x y d hi a b c e : Int} : CFc 353 false [.a [I px, I py], .a [I x, I y, I d], I hi, .a [I a, I b, I c, I e]] True (B (before ⟨px, py⟩ ⟨x, y, d⟩ hi ⟨a, b, c, e⟩)) [] := ⟨fun _ => by
 unfold before
 refine CM.of Tryz.func353 rfl tabOk rfl rfl rfl rfl (by simp [SV.nms,SV.nm]) fun w_ M_ π_ G0_=>?_
 refine runA (a1 ?_)
 intro g1 g2 ht
 have hk:=through_ok ht
 obtain ⟨hs,-,hv,-⟩:=hk
 have hv:=vVec_iff.1 hv
 simp only at hv
 unfold Span.ok at hs
 have h3:=mul_bnd (a:=(through ⟨px,py⟩ ⟨x,y,d⟩ ⟨a,b,c,e⟩).1.lo.N) (b:=d) (A:=67108864) (B:=67108864) (by omega) (by omega)
 have h4:=mul_bnd (a:=hi) (b:=(through ⟨px,py⟩ ⟨x,y,d⟩ ⟨a,b,c,e⟩).1.lo.D) (A:=65536) (B:=67108864) (by omega) (by omega)
 exact run⟩
attribute [irreducible] Seg.meets Seg.before
end Go.Proofs.YtkflmidichikjaaGreatDoor.V
end
