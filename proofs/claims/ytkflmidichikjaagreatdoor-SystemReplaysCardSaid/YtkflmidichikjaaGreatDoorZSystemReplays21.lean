import Derived.Test.YtkflmidichikjaaGreatDoorZSystemReplays20
import Derived.Test.YtkflmidichikjaaGreatDoorZSystemReplays13
import Derived.Lib.BytesEntry
import Derived.Laws.Externs
set_option linter.all false
section
namespace Go.Proofs.YtkflmidichikjaaGreatDoor.V
open Go.RowKit
set_option maxRecDepth 100000
set_option maxHeartbeats 8000000
open Heading BoxP Drive Seg PlanP
namespace PlanP
def sqC (c : Cell) : Rect := ⟨c.X * 64, c.Y * 64, c.X * 64 + 64, c.Y * 64 + 64⟩
def squareP (c : Cell) : Rect × Bool := if within c.X 16384 ∧ within c.Y 16384 then (sqC c, true) else (⟨0, 0, 0, 0⟩, false)
def ofP (p : Point) : Cell × Bool := if vPoint p then (⟨p.X / 64, p.Y / 64⟩, true) else (⟨0, 0⟩, false)
def vRect (r : Rect) : Bool := decide (r.X0 ≤ r.X1) && decide (r.Y0 ≤ r.Y1) && vPoint ⟨r.X0, r.Y0⟩ && vPoint ⟨r.X1, r.Y1⟩
theorem vRect_iff {r : Rect} : vRect r = true ↔ r.X0 ≤ r.X1 ∧ r.Y0 ≤ r.Y1 ∧ ((-1048576 ≤ r.X0 ∧ r.X0 ≤ 1048576) ∧ (-1048576 ≤ r.Y0 ∧ r.Y0 ≤ 1048576)) ∧ (-1048576 ≤ r.X1 ∧ r.X1 ≤ 1048576) ∧ (-1048576 ≤ r.Y1 ∧ r.Y1 ≤ 1048576) := by simp [vRect, vPoint_iff, and_assoc]
instance inVp2_1 {a b c d : Int} : Bnd (vRect ⟨a, b, c, d⟩) (vRect ⟨a, b, c, d⟩ = true ∧ a ≤ c ∧ b ≤ d ∧ -1048576 ≤ a ∧ c ≤ 1048576 ∧ -1048576 ≤ b ∧ d ≤ 1048576) := ⟨fun h => by have := vRect_iff.1 h; simp only at this; exact ⟨h, by omega⟩⟩
def span (a b : Int) : Int × Int := (0 - (0 - a) / 64 - 1, b / 64)
def reachP (a b n d lo hi : Int) : Int × Int := (a + min (lo * n) (hi * n) / d, b + max (lo * n) (hi * n) / d + 1)
section
variable (p : Cell → Bool) (x0 y0 : Int)
def rowK (y : Int) (j : Nat) : List Cell := ((List.range j).map fun i : Nat => (⟨x0 + (i : Int), y⟩ : Cell)).filter p
def outK (w : Nat) (k : Nat) : List Cell := (List.range k).flatMap fun i : Nat => rowK p x0 (y0 + (i : Int)) w
theorem rowK_succ (y : Int) (j : Nat) : rowK p x0 y (j + 1) = rowK p x0 y j ++ if p ⟨x0 + (j : Int), y⟩ then [⟨x0 + (j : Int), y⟩] else [] := by
 unfold rowK
 rw [List.range_succ,List.map_append,List.filter_append]
 simp only [List.map_cons,List.map_nil,List.filter_cons,List.filter_nil]
theorem outK_succ (w k : Nat) : outK p x0 y0 w (k + 1) = outK p x0 y0 w k ++ rowK p x0 (y0 + (k : Int)) w := by
 unfold outK
 rw [List.range_succ,List.flatMap_append]
 simp
theorem rowK_len (y : Int) (j : Nat) : (rowK p x0 y j).length ≤ j := by
 unfold rowK
 refine Nat.le_trans (List.length_filter_le _ _) ?_
 simp
theorem outK_len (w : Nat) : ∀ k, (outK p x0 y0 w k).length ≤ k * w
 | 0=>by simp [outK]
 | k + 1=>by
   rw [outK_succ,List.length_append]
   have h1:=outK_len w k
   have h2:=rowK_len p x0 (y0 + (k : Int)) w
   rw [Nat.add_mul]
   omega
theorem outK_one (w : Nat) : outK p x0 y0 w 0 = [] := rfl
end
theorem mem_rowK {p : Cell → Bool} {x0 y : Int} {j : Nat} {c : Cell} : c ∈ rowK p x0 y j ↔ p c = true ∧ c.Y = y ∧ x0 ≤ c.X ∧ c.X < x0 + j := by
 unfold rowK
 rw [List.mem_filter,List.mem_map]
 constructor
 ·rintro ⟨⟨i,hi,rfl⟩,h2⟩
  have:=List.mem_range.1 hi
  exact ⟨h2,rfl,by dsimp only;omega,by dsimp only;omega⟩
 ·rintro ⟨h1,h2,h3,h4⟩
  refine ⟨⟨(c.X - x0).toNat,List.mem_range.2 (by omega),?_⟩,h1⟩
  cases c
  simp only [Cell.mk.injEq] at *
  omega
theorem mem_outK {p : Cell → Bool} {x0 y0 : Int} {w k : Nat} {c : Cell} : c ∈ outK p x0 y0 w k ↔ p c = true ∧ (x0 ≤ c.X ∧ c.X < x0 + w) ∧ y0 ≤ c.Y ∧ c.Y < y0 + k := by
 unfold outK
 rw [List.mem_flatMap]
 constructor
 ·rintro ⟨i,hi,h⟩
  have:=List.mem_range.1 hi
  obtain ⟨h1,h2,h3,h4⟩:=mem_rowK.1 h
  exact ⟨h1,⟨h3,h4⟩,by omega,by omega⟩
 ·rintro ⟨h1,⟨h2,h3⟩,h4,h5⟩
  exact ⟨(c.Y - y0).toNat,List.mem_range.2 (by omega),mem_rowK.2 ⟨h1,by omega,h2,h3⟩⟩
def gridL (p : Cell → Bool) (x y : Int × Int) : List Cell := outK p x.1 y.1 (x.2 + 1 - x.1).toNat (y.2 + 1 - y.1).toNat
theorem mem_gridL {p : Cell → Bool} {x y : Int × Int} {c : Cell} : c ∈ gridL p x y ↔ p c = true ∧ (x.1 ≤ c.X ∧ c.X ≤ x.2) ∧ y.1 ≤ c.Y ∧ c.Y ≤ y.2 := by
 unfold gridL
 rw [mem_outK]
 constructor
 ·rintro ⟨h1,h2,h3⟩
  refine ⟨h1,?_,?_⟩<;>omega
 ·rintro ⟨h1,h2,h3⟩
  refine ⟨h1,?_,?_⟩<;>omega
def cellsP (r : Rect) : List Cell × Int :=
 if vRect r then
  (if ((span r.X0 r.X1).2 - (span r.X0 r.X1).1 + 1) * ((span r.Y0 r.Y1).2 - (span r.Y0 r.Y1).1 + 1) > 8192 then ([],6) else (gridL (fun _=>true) (span r.X0 r.X1) (span r.Y0 r.Y1),0))
 else ([],1)
def hitR (r : Rect) (v : Vector) (lo hi : Int) (c : Cell) : Bool := (minusR (sqC c) r).2 && meets ⟨0, 0⟩ v lo hi (minusR (sqC c) r).1
def swX (r : Rect) (v : Vector) (lo hi : Int) : Int × Int := span (reachP r.X0 r.X1 v.X v.D lo hi).1 (reachP r.X0 r.X1 v.X v.D lo hi).2
def swY (r : Rect) (v : Vector) (lo hi : Int) : Int × Int := span (reachP r.Y0 r.Y1 v.Y v.D lo hi).1 (reachP r.Y0 r.Y1 v.Y v.D lo hi).2
def sweepL (r : Rect) (v : Vector) (lo hi : Int) : List Cell := gridL (hitR r v lo hi) (swX r v lo hi) (swY r v lo hi)
def ptR (p : Point) : Rect := ⟨p.X, p.Y, p.X, p.Y⟩
def tracedL (p : Point) (v : Vector) (lo hi : Int) : List Cell × Int :=
 if vPoint p=false∨vVec v=false then ([],1) else if lo < 0∨hi < lo∨hi > 2048 then ([],2) else (sweepL (ptR p) v lo hi,0)
def sweptL (r : Rect) (v : Vector) (lo hi : Int) : List Cell × Int :=
 if vRect r=false∨vVec v=false then ([],1) else if lo < 0∨hi < lo∨hi > 2048 then ([],2) else if r.X1 - r.X0 > 1024∨r.Y1 - r.Y0 > 1024 then ([],6) else (sweepL r v lo hi,0)
theorem vVec_w {v : Vector} : vVec v = (decide (1 ≤ v.D) && decide (v.D ≤ 67108864) && within v.X v.D && within v.Y v.D && (v.X * v.X + v.Y * v.Y == v.D * v.D)) := by
 rw [Bool.eq_iff_iff,vVec_iff]
 simp only [Bool.and_eq_true,decide_eq_true_eq,beq_iff_eq]
 constructor
 ·rintro ⟨h1,h2,h3,h4,h5,h6,h7⟩
  exact ⟨⟨⟨⟨h1,h2⟩,Drive.within_iff.2 (by omega)⟩,Drive.within_iff.2 (by omega)⟩,h7⟩
 ·rintro ⟨⟨⟨⟨h1,h2⟩,h3⟩,h4⟩,h7⟩
  have h3:=Drive.within_iff.1 h3
  have h4:=Drive.within_iff.1 h4
  exact ⟨h1,h2,by omega,by omega,by omega,by omega,h7⟩
theorem mul_sc {s n d : Int} (hs : 0 ≤ s) (h1 : -d ≤ n) (h2 : n ≤ d) : -(s * d) ≤ s * n ∧ s * n ≤ s * d := by
 have a1 : s * (-d)≤s * n:=Int.mul_le_mul_of_nonneg_left h1 hs
 have a2 : s * n≤s * d:=Int.mul_le_mul_of_nonneg_left h2 hs
 rw [Int.mul_neg] at a1
 exact ⟨a1,a2⟩
theorem div_sc {x s d : Int} (hd : 1 ≤ d) (h1 : -(s * d) ≤ x) (h2 : x ≤ s * d) : -s ≤ x / d ∧ x / d ≤ s := by
 constructor
 ·refine (Int.le_ediv_iff_mul_le (by omega)).2 ?_
  rw [Int.neg_mul]
  exact h1
 ·have : x / d < s + 1:=Int.ediv_lt_of_lt_mul (by omega) (by rw [Int.add_mul];omega)
  omega
theorem reach_bd {a b n d lo hi : Int} (hd : 1 ≤ d) (h1 : -d ≤ n) (h2 : n ≤ d) (h3 : 0 ≤ lo) (h4 : lo ≤ hi) : a - hi ≤ (reachP a b n d lo hi).1 ∧ (reachP a b n d lo hi).1 ≤ a + hi ∧ b - hi + 1 ≤ (reachP a b n d lo hi).2 ∧ (reachP a b n d lo hi).2 ≤ b + hi + 1 := by
 have a1:=mul_sc (s:=lo) h3 h1 h2
 have a2:=mul_sc (s:=hi) (by omega) h1 h2
 have a3 : lo * d≤hi * d:=Int.mul_le_mul_of_nonneg_right h4 (by omega)
 have b1:=div_sc (x:=min (lo * n) (hi * n)) (s:=hi) hd (by omega) (by omega)
 have b2:=div_sc (x:=max (lo * n) (hi * n)) (s:=hi) hd (by omega) (by omega)
 unfold reachP
 dsimp only
 omega
def swOk (r : Rect) (v : Vector) (lo hi : Int) : Prop := -1048576 ≤ r.X0 ∧ r.X0 ≤ r.X1 ∧ r.X1 ≤ 1048576 ∧ -1048576 ≤ r.Y0 ∧ r.Y0 ≤ r.Y1 ∧ r.Y1 ≤ 1048576 ∧ r.X1 - r.X0 ≤ 1024 ∧ r.Y1 - r.Y0 ≤ 1024 ∧ vVec v = true ∧ 0 ≤ lo ∧ lo ≤ hi ∧ hi ≤ 2048
theorem sw_bd {r : Rect} {v : Vector} {lo hi : Int} (h : swOk r v lo hi) :
 r.X0 - 2200≤(swX r v lo hi).1 * 64∧(swX r v lo hi).2 * 64≤r.X1 + 2100∧(swX r v lo hi).2 - (swX r v lo hi).1≤90∧r.Y0 - 2200≤(swY r v lo hi).1 * 64∧(swY r v lo hi).2 * 64≤r.Y1 + 2100∧(swY r v lo hi).2 - (swY r v lo hi).1≤90:=by
 obtain ⟨h1,h2,h3,h4,h5,h6,h7,h8,hv,h9,h10,h11⟩:=h
 have hv:=vVec_iff.1 hv
 have b1:=reach_bd (a:=r.X0) (b:=r.X1) (n:=v.X) (d:=v.D) (lo:=lo) (hi:=hi) (by omega) (by omega) (by omega) h9 h10
 have b2:=reach_bd (a:=r.Y0) (b:=r.Y1) (n:=v.Y) (d:=v.D) (lo:=lo) (hi:=hi) (by omega) (by omega) (by omega) h9 h10
 unfold swX swY span
 dsimp only
 omega
end PlanP
instance inVp2_2 {x y : Int} : CFc 180 false [.a [I x, I y]] (-1000000000000 ≤ x ∧ x ≤ 1000000000000 ∧ -1000000000000 ≤ y ∧ y ≤ 1000000000000) (sqC ⟨x, y⟩).s [] := ⟨fun _ => by
 unfold sqC
 refine CM.of Tryz.func180 rfl tabOk rfl rfl rfl rfl (by simp [SV.nms,SV.nm]) fun w_ M_ π_ G0_=>?_
 exact run⟩
instance inVp2_3 {n k : Int} : CFc 179 false [I n, I k] (-1000000000000 ≤ k ∧ k ≤ 1000000000000) (B (within n k)) [] := ⟨fun _ => by
 unfold within between
 refine CM.of Tryz.func179 rfl tabOk rfl rfl rfl rfl (by simp [SV.nms,SV.nm]) fun w_ M_ π_ G0_=>?_
 exact run⟩
instance inVp2_4 {x y : Int} : CFc 124 false [.a [I x, I y]] True (.t [(squareP ⟨x, y⟩).1.s, B (squareP ⟨x, y⟩).2]) [] := ⟨fun _ => by
 unfold squareP
 refine CM.of Tryz.func124 rfl tabOk rfl rfl rfl rfl (by simp [SV.nms,SV.nm]) fun w_ M_ π_ G0_=>?_
 exact run⟩
instance inVp2_5 {a b : Int} : CFc 170 false [I a, I b] (1 ≤ b ∧ b ≤ 9223372036854775807 ∧ -9223372036854775806 ≤ a ∧ a ≤ 9223372036854775807) (I (a / b)) [] := ⟨fun _ => by
 refine CM.of Tryz.func170 rfl tabOk rfl rfl rfl rfl (by simp [SV.nms,SV.nm]) fun w_ M_ π_ G0_=>?_
 have h1:=tdiv_dn (a:=a) (b:=b) (by omega)
 exact run⟩
instance inVp2_6 {x y : Int} : CFc 169 false [.a [I x, I y]] True (B (vPoint ⟨x, y⟩)) [] := ⟨fun _ => by
 unfold vPoint
 refine CM.of Tryz.func169 rfl tabOk rfl rfl rfl rfl (by simp [SV.nms,SV.nm]) fun w_ M_ π_ G0_=>?_
 exact run⟩
instance inVp2_7 {a b c d : Int} : CFc 193 false [.a [I a, I b, I c, I d]] True (B (vRect ⟨a, b, c, d⟩)) [] := ⟨fun _ => by
 unfold vRect
 refine CM.of Tryz.func193 rfl tabOk rfl rfl rfl rfl (by simp [SV.nms,SV.nm]) fun w_ M_ π_ G0_=>?_
 exact run⟩
instance inVp2_8 {x y : Int} : CFc 106 false [.a [I x, I y]] True (.t [(ofP ⟨x, y⟩).1.s, B (ofP ⟨x, y⟩).2]) [] := ⟨fun _ => by
 unfold ofP
 refine CM.of Tryz.func106 rfl tabOk rfl rfl rfl rfl (by simp [SV.nms,SV.nm]) fun w_ M_ π_ G0_=>?_
 exact run⟩
instance inVp2_9 {a b : Int} : CFc 194 false [I a, I b] (-1000000000000 ≤ a ∧ a ≤ 1000000000000 ∧ -1000000000000 ≤ b ∧ b ≤ 1000000000000) (.t [I (span a b).1, I (span a b).2]) [] := ⟨fun _ => by
 unfold span
 refine CM.of Tryz.func194 rfl tabOk rfl rfl rfl rfl (by simp [SV.nms,SV.nm]) fun w_ M_ π_ G0_=>?_
 exact run⟩
instance inVp2_10 {x y d : Int} : CFc 322 false [.a [I x, I y, I d]] True (B (vVec ⟨x, y, d⟩)) [] := ⟨fun _ => by
 rw [vVec_w]
 refine CM.of Tryz.func322 rfl tabOk rfl rfl rfl rfl (by simp [SV.nms,SV.nm]) fun w_ M_ π_ G0_=>?_
 refine runA (a1 ?_)
 intros
 have h1:=sq_bnd (k:=x) (B:=67108864) (by omega)
 have h2:=sq_bnd (k:=y) (B:=67108864) (by omega)
 have h3:=sq_bnd (k:=d) (B:=67108864) (by omega)
 exact run⟩
instance inVp2_11 {a b n d lo hi : Int} : CFc 363 false [I a, I b, I n, I d, I lo, I hi] (-1000000000000 ≤ a ∧ a ≤ 1000000000000 ∧ -1000000000000 ≤ b ∧ b ≤ 1000000000000 ∧ 1 ≤ d ∧ d ≤ 67108864 ∧ -d ≤ n ∧ n ≤ d ∧ 0 ≤ lo ∧ lo ≤ hi ∧ hi ≤ 100000) (.t [I (reachP a b n d lo hi).1, I (reachP a b n d lo hi).2]) [] := ⟨fun _ => by
 have m1:=mul_bnd (a:=lo) (b:=n) (A:=100000) (B:=67108864) (by omega) (by omega)
 have m2:=mul_bnd (a:=hi) (b:=n) (A:=100000) (B:=67108864) (by omega) (by omega)
 have b1:=div_bnd (b:=d) (a:=min (lo * n) (hi * n)) (B:=100000 * 67108864) (by omega) (by omega)
 have b2:=div_bnd (b:=d) (a:=max (lo * n) (hi * n)) (B:=100000 * 67108864) (by omega) (by omega)
 unfold reachP
 refine CM.of Tryz.func363 rfl tabOk rfl rfl rfl rfl (by simp [SV.nms,SV.nm]) fun w_ M_ π_ G0_=>?_
 exact run⟩
attribute [irreducible] PlanP.sqC PlanP.squareP PlanP.ofP PlanP.vRect PlanP.span PlanP.reachP PlanP.gridL PlanP.cellsP PlanP.hitR PlanP.swX PlanP.swY PlanP.sweepL PlanP.tracedL PlanP.sweptL
end Go.Proofs.YtkflmidichikjaaGreatDoor.V
end
section
namespace Go.Proofs.YtkflmidichikjaaGreatDoor.V
open Go.RowKit Go.Lib
set_option maxRecDepth 100000
theorem Mem.nil0 {P : Program} {w : World} {M : Nat → Prop} {π σ : Nat → Nat} {G : Fz} {fp : Nat → Nat → Prop} : Mem ⟨P, [], 0, w, M, 0, π, false, G⟩ σ (fun _ => none) fp [] w :=
 ⟨fun k o h=>by simp at h,fun j k hj=>by simp at hj,fun k hk=>by simp at hk,fun k hk=>by simp at hk,⟨rfl,rfl,rfl,Nat.le_refl _,fun _ _ _=>rfl⟩,fun b o h=>by simp at h,fun b o h=>by simp at h,⟨Nat.le_refl _,fun j hj=>by cases hj⟩,fun h=>by cases h⟩
theorem CF.ext {P : Program} {f : FuncId} {fn : Func} {e : Array Value → Sem Value} {args : List SV} {x : Value} (hf : P.funcs[f]? = some fn) (hname : (fn.name == "runtime.NumGoroutine") = false) (hb : fn.body.isNone = true) (hn : Extern.findNext fn = none) (he : Extern.find fn = some e)
 (hw : SV.nms 0 args) (h : ∀ σ G w,(∀ b o,G b=some o→w.heap[b]? = some o)→SV.wfs ⟨G,0⟩ args→(e (SV.vals σ args).toArray).run P w = .ok x w) : CF P f false args (.v x) []:=by
 refine ⟨hw,fun σ G fp w hm hwf=>?_⟩
 unfold CallsE
 rw [run_callFunc_extern hf hname hb hn he,h σ G w (fun b o hb=>(hm.fz b o hb).1) hwf]
 exact ⟨(),σ,fun _=>none,fp,rfl,trivial,Mem.nil0,fun _ b o h=>by simp at h⟩
theorem rdL_val {G : Fz} : ∀ {l xs : List Value}, rdL G (l.map .v) xs → xs = l
 | [],[],_=>rfl
 | [],_ :: _,h=>h.elim
 | _ :: _,[],h=>h.elim
 | x :: l,y :: r,h=>by
   have h1 : y=x:=h.1.2
   rw [h1,rdL_val (l:=l) (xs:=r) h.2]
theorem rdLL_val {G : Fz} {α : Type} {enc : α → List Value} : ∀ {X : List α} {xs : List (List Value)}, rdLL G (fl enc X) xs → xs = X.map enc
 | [],[],_=>rfl
 | [],_ :: _,h=>h.elim
 | _ :: _,[],h=>h.elim
 | x :: l,y :: r,h=>by
   rw [rdL_val (l:=enc x) (xs:=y) h.1,rdLL_val (X:=l) (xs:=r) h.2]
   rfl
theorem cell_fz {w : World} {G : Fz} {A : Option Addr} {n c : Nat} {X : List Int} (h : (DV.fz 1 (fl ye X)).rd G (.slice A n c)) (hz : ∀ b o, G b = some o → w.heap[b]? = some o) :
 n=X.length∧(X=[]∨∃ b o,A=some ⟨b,o,none⟩∧∀ i,i < n→w.cell? ⟨b,o + i,none⟩ = some (.int .u8 (X.getD i 0))):=by
 obtain ⟨⟨h1,h2,h3⟩,-⟩:=rd_rds h hz
 rw [fl_len] at h1
 refine ⟨h1.symm,?_⟩
 by_cases hX : X=[]
 ·exact .inl hX
 ·refine .inr ?_
  obtain ⟨b,o,xs,h4,h5,h6⟩:=h3 (by intro e;rw [e] at h1;exact hX (List.eq_nil_of_length_eq_zero h1))
  have:=rdLL_val h5
  subst this
  refine ⟨b,o,h4,fun i hi=>?_⟩
  apply h6
  have hf : (X.map ye).flatten=X.map (fun n=>Value.int .u8 n):=by
   clear h6 h5 h h1 h2 h3 hX
   induction X with
   | nil=>rfl
   | cons x r ih=>simp [ih]
  rw [hf]
  simp [List.getElem?_eq_getElem (show i < X.length by omega)]
def cntB (X : List Int) (c : Int) : Int := (countByte (bytesOf X) c.toNat.toUInt8 : Nat)
def idxB (X : List Int) (c : Int) : Int := indexByte (bytesOf X) c.toNat.toUInt8
theorem run_countSlice' {P : Program} (w : World) (b off n c : Nat) (xs : List Int) (hx : xs.length = n) (hc : ∀ i, i < n → w.cell? ⟨b, off + i, none⟩ = some (.int .u8 (xs.getD i 0))) (cv : Int) :
 (Extern.BytealgCount.count #[.slice (some ⟨b,off,none⟩) n c,.int .u8 cv]).run P w = .ok (.int .i64 (countByte (bytesOf xs) cv.toNat.toUInt8)) w:=by
 have hl:=run_loadBytesX (P:=P) w xs ⟨b,off,none⟩ .empty (fun j x hj=>by
  have hjl : j < xs.length:=(List.getElem?_eq_some_iff.1 hj).1
  have e : (⟨b,off,none⟩ : Addr).add j = ⟨b,off + j,none⟩:=by unfold Addr.add;split<;>simp_all
  rw [e,hc j (by omega),List.getD_eq_getElem?_getD,hj]
  rfl)
 rw [hx] at hl
 have hs:=run_countString (P:=P) ⟨(bytesOf xs).toArray⟩ cv w
 have he : (⟨ByteArray.empty.data ++ (bytesOf xs).toArray⟩ : ByteArray) = ⟨(bytesOf xs).toArray⟩:=by
  apply ByteArray.ext
  show (#[] : Array UInt8) ++ (bytesOf xs).toArray=(bytesOf xs).toArray
  simp
 rw [he] at hl
 change Sem.run P (do
  let b ← Extern.Bytes.bytesOf (.slice (some ⟨b,off,none⟩) n c)
  let c' ← Extern.Bytes.asByte (.int .u8 cv)
  pure (goInt (b.foldl (fun n x=>if x == c' then n + 1 else n) (0 : Nat)))) w=_
 change Sem.run P (do
  let b ← Extern.Bytes.bytesOf (.string ⟨(bytesOf xs).toArray⟩)
  let c' ← Extern.Bytes.asByte (.int .u8 cv)
  pure (goInt (b.foldl (fun n x=>if x == c' then n + 1 else n) (0 : Nat)))) w=_ at hs
 simp only [Extern.Bytes.bytesOf,Sem.run_bind,Sem.run_pure,hl,Result.andThen] at hs ⊢
 simpa using hs
instance inVe_1 {A : Option Addr} {c : Nat} {X : List Int} {v : Int} : CFc 260 false [.fz A c 1 (fl ye X), Y v] True (I (cntB X v)) [] := ⟨fun _ => by
 refine CF.ext Tryz.func260 rfl rfl rfl rfl (by simp [SV.nms,SV.nm]) fun σ G w hz hw=>?_
 obtain ⟨h1,h2⟩:=cell_fz hw.1 hz
 show (Extern.BytealgCount.count #[.slice A (fl ye X).length c,.int .u8 v]).run Tryz.prog w=_
 rcases h2 with rfl|⟨b,o,rfl,hc⟩
 ·cases A with
  | none=>exact run_countString (P:=Tryz.prog) .empty v w
  | some a=>exact run_countString (P:=Tryz.prog) .empty v w
 ·exact run_countSlice' w b o _ c X h1.symm hc v⟩
instance inVe_2 {A : Option Addr} {c : Nat} {X : List Int} {v : Int} : CFc 178 false [.fz A c 1 (fl ye X), Y v] True (I (idxB X v)) [] := ⟨fun _ => by
 refine CF.ext Tryz.func178 rfl rfl rfl rfl (by simp [SV.nms,SV.nm]) fun σ G w hz hw=>?_
 obtain ⟨h1,h2⟩:=cell_fz hw.1 hz
 show (Extern.BytealgIndexByte.indexByte #[.slice A (fl ye X).length c,.int .u8 v]).run Tryz.prog w=_
 rcases h2 with rfl|⟨b,o,rfl,hc⟩
 ·cases A with
  | none=>exact run_indexByteNil w 0 c v
  | some a=>exact run_indexByteNil w 0 c v
 ·exact run_indexByteSlice w b o _ c X h1.symm hc v⟩
instance inVe_3 {A B : Option Addr} {c d : Nat} {X : List Int} {v : Int} : CFc 204 false [.fz A c 1 (fl ye X), .fz B d 1 (fl ye [v])] True (I (cntB X v)) [] := ⟨fun _ => by
 refine CM.of Tryz.func204 rfl tabOk rfl rfl rfl rfl (by simp [SV.nms,SV.nm]) fun w_ M_ π_ G0_=>?_
 exact run⟩
instance inVe_4 {A : Option Addr} {c : Nat} {X : List Int} {v : Int} : CFc 122 false [.fz A c 1 (fl ye X), Y v] True (I (idxB X v)) [] := ⟨fun _ => by
 refine CM.of Tryz.func122 rfl tabOk rfl rfl rfl rfl (by simp [SV.nms,SV.nm]) fun w_ M_ π_ G0_=>?_
 exact run⟩
end Go.Proofs.YtkflmidichikjaaGreatDoor.V
end
section
namespace Go.Proofs.YtkflmidichikjaaGreatDoor.V
open Go.RowKit
set_option maxRecDepth 100000
set_option maxHeartbeats 8000000
open Heading BoxP Drive Seg PlanP
namespace PlanP
theorem grid_next {p : Cell → Bool} {x0 y0 y : Int} {w : Nat} (h : y0 ≤ y) : outK p x0 y0 w (y + 1 - y0).toNat = outK p x0 y0 w (y - y0).toNat ++ rowK p x0 y w := by
 rw [show (y + 1 - y0).toNat=(y - y0).toNat + 1 by omega,outK_succ,show y0 + ((y - y0).toNat : Int)=y by omega]
theorem row_next {p : Cell → Bool} {x0 y x : Int} (h : x0 ≤ x) : rowK p x0 y (x + 1 - x0).toNat = rowK p x0 y (x - x0).toNat ++ if p ⟨x, y⟩ then [⟨x, y⟩] else [] := by
 rw [show (x + 1 - x0).toNat=(x - x0).toNat + 1 by omega,rowK_succ,show x0 + ((x - x0).toNat : Int)=x by omega]
theorem row_bnd {p : Cell → Bool} {x0 y0 y x : Int} {w k : Nat} (hx : (x - x0).toNat ≤ w) (hk : (y - y0).toNat < k) : (outK p x0 y0 w (y - y0).toNat ++ rowK p x0 y (x - x0).toNat).length ≤ k * w := by
 have h1:=outK_len p x0 y0 w (y - y0).toNat
 have h2:=rowK_len p x0 y (x - x0).toNat
 rw [List.length_append]
 have h3 : ((y - y0).toNat + 1) * w≤k * w:=Nat.mul_le_mul_right _ hk
 rw [Nat.add_mul] at h3
 omega
def cntP (p : Plan) (v : Int) : Int := if vPlan p then cntB p.cells v else 0
end PlanP
instance inVp3_1 {a b c d : Int} : CFc 141 false [.a [I a, I b, I c, I d]] True (.t [.sl 0 0 0 (cellsP ⟨a, b, c, d⟩).1.length 2, I (cellsP ⟨a, b, c, d⟩).2]) [.row false 128 2 (fl Cell.e (cellsP ⟨a, b, c, d⟩).1)] := ⟨fun _ => by
 unfold cellsP gridL
 refine CM.of Tryz.func141 rfl tabOk rfl rfl rfl rfl (by simp [SV.nms,SV.nm]) fun w_ M_ π_ G0_=>?_
 refine runA (a1 ?_)
 intro _ g
 have hx : -20000≤(span a c).1∧(span a c).1≤(span a c).2∧(span a c).2≤20000:=by unfold span;dsimp only;omega
 have hy : -20000≤(span b d).1∧(span b d).1≤(span b d).2∧(span b d).2≤20000:=by unfold span;dsimp only;omega
 simp only
 generalize span a c=X at *
 generalize span b d=Y at *
 have hm:=mul_bnd (a:=X.2 - X.1 + 1) (b:=Y.2 - Y.1 + 1) (A:=65536) (B:=65536) (by omega) (by omega)
 refine runA (a1 ?_)
 intro g2
 have hw : (Y.2 + 1 - Y.1).toNat * (X.2 + 1 - X.1).toNat≤8192:=by
  have e : (((Y.2 + 1 - Y.1).toNat * (X.2 + 1 - X.1).toNat : Nat) : Int)=(X.2 - X.1 + 1) * (Y.2 - Y.1 + 1):=by
   rw [Int.natCast_mul,Int.toNat_of_nonneg (by omega),Int.toNat_of_nonneg (by omega),Int.mul_comm,show X.2 + 1 - X.1=X.2 - X.1 + 1 by omega,show Y.2 + 1 - Y.1=Y.2 - Y.1 + 1 by omega]
  omega
 refine LoopX_nil 8 128 2 rfl ?_
 conv=>whnf
 refine LoopX_c tabOk [1] (fun s : Int × Nat × List Cell=>(Y.1≤s.1∧s.1≤Y.2 + 1)∧s.2.1=s.2.2.length∧s.2.2=outK (fun _=>true) X.1 Y.1 (X.2 + 1 - X.1).toNat (s.1 - Y.1).toNat) (fun s=>[(8,.sl 1 0 0 s.2.1 2),(9,I s.1)]) (fun s=>[(1,.row false 128 2 (fl Cell.e s.2.2))]) (fun s=>(Y.2 + 1 - s.1).toNat) (Y.1,0,[]) ⟨by simp only;omega,rfl,by simp [outK]⟩ ⟨rfl,rfl,trivial⟩ ⟨rfl,trivial⟩ ?_
 conv=>whnf
 rintro ⟨y,n,L⟩ ⟨h1,h2,h3⟩
 simp only at h1 h2 h3
 subst h2
 by_cases hc : y≤Y.2
 ·refine runA (a1 ?_)
  intros
  refine LoopX_c tabOk [1] (fun s : Int × Nat × List Cell=>(X.1≤s.1∧s.1≤X.2 + 1)∧s.2.1=s.2.2.length∧s.2.2=L ++ rowK (fun _=>true) X.1 y (s.1 - X.1).toNat) (fun s=>[(8,.sl 1 0 0 s.2.1 2),(10,I s.1)]) (fun s=>[(1,.row false 128 2 (fl Cell.e s.2.2))]) (fun s=>(X.2 + 1 - s.1).toNat) (X.1,L.length,L) ⟨by simp only;omega,rfl,by simp [rowK]⟩ ⟨rfl,rfl,trivial⟩ ⟨rfl,trivial⟩ ?_
  conv=>whnf
  rintro ⟨x,n,M⟩ ⟨k1,k2,k3⟩
  simp only at k1 k2 k3
  subst k2
  have hM : M.length≤8192:=by
   rw [k3,h3]
   exact Nat.le_trans (row_bnd (k:=(Y.2 + 1 - Y.1).toNat) (by omega) (by omega)) hw
  by_cases hd : x≤X.2
  ·refine runA (a1 ?_)
   intros
   exact rnd (x + 1,M.length + 1,M ++ [⟨x,y⟩]) ⟨by simp only;omega,by simp,by simp only;rw [row_next k1.1,k3];simp⟩ (by simp only;omega)
  ·refine runA (a1 ?_)
   intros
   exact rnd (y + 1,M.length,M) ⟨by simp only;omega,rfl,by simp only;rw [grid_next h1.1,← h3,k3,show x=X.2 + 1 by omega]⟩ (by simp only;omega)
 ·obtain rfl : y=Y.2 + 1:=by omega
  subst h3
  exact run⟩
instance inVp3_2 {A : Option Addr} {cc : Nat} {X : List Int} {w h v : Int} : CFc 153 false [.a [I w, I h, .fz A cc 1 (fl ye X)], Y v] (X.length ≤ 1000000000000) (I (cntP ⟨w, h, X⟩ v)) [] := ⟨fun hp => by
 unfold cntP
 refine CM.of Tryz.func153 rfl tabOk rfl rfl rfl rfl (by simp [SV.nms,SV.nm]) fun w_ M_ π_ G0_=>?_
 exact run⟩
instance inVp3_3 {a b c d x y e lo hi : Int} : CFc 323 false [.a [I a, I b, I c, I d], .a [I x, I y, I e], I lo, I hi] (swOk ⟨a, b, c, d⟩ ⟨x, y, e⟩ lo hi) (.sl 0 0 0 (sweepL ⟨a, b, c, d⟩ ⟨x, y, e⟩ lo hi).length 2) [.row false 128 2 (fl Cell.e (sweepL ⟨a, b, c, d⟩ ⟨x, y, e⟩ lo hi))] := ⟨fun hp => by
 have hb0:=sw_bd hp
 obtain ⟨q1,q2,q3,q4,q5,q6,q7,q8,hv,q9,q10,q11⟩:=hp
 simp only at q1 q2 q3 q4 q5 q6 q7 q8
 have hv':=vVec_iff.1 hv
 simp only at hv'
 have r1:=reach_bd (a:=a) (b:=c) (n:=x) (d:=e) (lo:=lo) (hi:=hi) (by omega) (by omega) (by omega) q9 q10
 have r2:=reach_bd (a:=b) (b:=d) (n:=y) (d:=e) (lo:=lo) (hi:=hi) (by omega) (by omega) (by omega) q9 q10
 unfold sweepL gridL swX swY
 unfold swX swY at hb0
 simp only at hb0 ⊢
 generalize hp : hitR ⟨a,b,c,d⟩ ⟨x,y,e⟩ lo hi=p
 unfold hitR at hp
 refine CM.of Tryz.func323 rfl tabOk rfl rfl rfl rfl (by simp [SV.nms,SV.nm]) fun w_ M_ π_ G0_=>?_
 refine runA (a1 ?_)
 generalize span (reachP a c x e lo hi).1 (reachP a c x e lo hi).2=X at *
 generalize span (reachP b d y e lo hi).1 (reachP b d y e lo hi).2=Y at *
 have hw : (Y.2 + 1 - Y.1).toNat * (X.2 + 1 - X.1).toNat≤91 * 91:=Nat.mul_le_mul (by omega) (by omega)
 have hX : -40000≤X.1∧X.2≤40000:=by omega
 have hY : -40000≤Y.1∧Y.2≤40000:=by omega
 have hR : -1048576≤a∧a≤1048576∧-1048576≤b∧b≤1048576∧-1048576≤c∧c≤1048576∧-1048576≤d∧d≤1048576:=by omega
 clear r1 r2 hv hv' hb0 q1 q2 q3 q4 q5 q6 q7 q8 q9 q10 q11
 refine LoopX_nil 17 128 2 rfl ?_
 conv=>whnf
 by_cases hy : Y.2 + 1 < Y.1
 ·have e1 : (Y.2 + 1 - Y.1).toNat=0:=by omega
  rw [e1]
  simp only [outK_one]
  refine LoopX_r tabOk 1 ?_
  exact run
 refine LoopX_keep [2,3,4,5,13,14,16,17,18] ?_
 conv=>whnf
 refine LoopX_c tabOk [2] (fun s : Int × Nat × List Cell=>(Y.1≤s.1∧s.1≤Y.2 + 1)∧s.2.1=s.2.2.length∧s.2.2=outK p X.1 Y.1 (X.2 + 1 - X.1).toNat (s.1 - Y.1).toNat) (fun s=>[(17,.sl 2 0 0 s.2.1 2),(18,I s.1)]) (fun s=>[(2,.row false 128 2 (fl Cell.e s.2.2))]) (fun s=>(Y.2 + 1 - s.1).toNat) (Y.1,0,[]) ⟨by simp only;omega,rfl,by simp [outK]⟩ ⟨rfl,rfl,trivial⟩ ⟨rfl,trivial⟩ ?_
 conv=>whnf
 rintro ⟨yy,n,L⟩ ⟨h1,h2,h3⟩
 simp only at h1 h2 h3
 subst h2
 by_cases hc : yy≤Y.2
 ·refine runA (a1 ?_)
  intros
  by_cases hx : X.2 + 1 < X.1
  ·have e1 : (X.2 + 1 - X.1).toNat=0:=by omega
   refine LoopX_r tabOk 1 ?_
   refine runA (a1 ?_)
   intros
   exact rnd (yy + 1,L.length,L) ⟨by simp only;omega,rfl,by simp only;rw [grid_next h1.1,← h3,e1];simp [rowK]⟩ (by simp only;omega)
  refine LoopX_keep [2,3,4,5,13,14,16,17,18,19] ?_
  conv=>whnf
  refine LoopX_c tabOk [2] (fun s : Int × Nat × List Cell=>(X.1≤s.1∧s.1≤X.2 + 1)∧s.2.1=s.2.2.length∧s.2.2=L ++ rowK p X.1 yy (s.1 - X.1).toNat) (fun s=>[(17,.sl 2 0 0 s.2.1 2),(19,I s.1)]) (fun s=>[(2,.row false 128 2 (fl Cell.e s.2.2))]) (fun s=>(X.2 + 1 - s.1).toNat) (X.1,L.length,L) ⟨by simp only;omega,rfl,by simp [rowK]⟩ ⟨rfl,rfl,trivial⟩ ⟨rfl,trivial⟩ ?_
  conv=>whnf
  rintro ⟨xx,n,M⟩ ⟨k1,k2,k3⟩
  simp only at k1 k2 k3
  subst k2
  have hM : M.length≤8281:=by
   rw [k3,h3]
   exact Nat.le_trans (row_bnd (k:=(Y.2 + 1 - Y.1).toNat) (by omega) (by omega)) hw
  by_cases hd : xx≤X.2
  ·have hz : (-40000≤xx∧xx≤40000)∧-40000≤yy∧yy≤40000:=by omega
   have k3' : M ++ (if p ⟨xx,yy⟩ then [⟨xx,yy⟩] else [])=L ++ rowK p X.1 yy (xx + 1 - X.1).toNat:=by rw [row_next k1.1,k3];simp
   have hp' : ((minusR (sqC ⟨xx,yy⟩) ⟨a,b,c,d⟩).2 && meets ⟨0,0⟩ ⟨x,y,e⟩ lo hi (minusR (sqC ⟨xx,yy⟩) ⟨a,b,c,d⟩).1)=p ⟨xx,yy⟩:=congrFun hp ⟨xx,yy⟩
   have hs : (sqC ⟨xx,yy⟩).X0=xx * 64∧(sqC ⟨xx,yy⟩).Y0=yy * 64∧(sqC ⟨xx,yy⟩).X1=xx * 64 + 64∧(sqC ⟨xx,yy⟩).Y1=yy * 64 + 64:=by unfold sqC;simp
   clear hw h3 h1 k3 hX hY hc hp
   refine runA (a3 ?_ ?_ ?_)
   ·intro _ t1 t2
    have e1 : p ⟨xx,yy⟩ = true:=hp'.symm.trans (Bool.and_eq_true_iff.2 ⟨t1,t2⟩)
    exact rnd (xx + 1,M.length + 1,M ++ [⟨xx,yy⟩]) ⟨by simp only;omega,by simp,by simp only;rw [← k3',if_pos e1]⟩ (by simp only;omega)
   ·intro _ t1 t2
    have e1 : ¬p ⟨xx,yy⟩ = true:=by rw [← hp'];intro h;have:=(Bool.and_eq_true_iff.1 h).2;rw [show meets _ _ _ _ _=false from t2] at this;cases this
    exact rnd (xx + 1,M.length,M) ⟨by simp only;omega,rfl,by simp only;rw [← k3',if_neg e1,List.append_nil]⟩ (by simp only;omega)
   ·intro _ t1
    have e1 : ¬p ⟨xx,yy⟩ = true:=by rw [← hp'];intro h;have:=(Bool.and_eq_true_iff.1 h).1;rw [show (minusR _ _).2=false from t1] at this;cases this
    exact rnd (xx + 1,M.length,M) ⟨by simp only;omega,rfl,by simp only;rw [← k3',if_neg e1,List.append_nil]⟩ (by simp only;omega)
  ·refine runA (a1 ?_)
   intros
   exact rnd (yy + 1,M.length,M) ⟨by simp only;omega,rfl,by simp only;rw [grid_next h1.1,← h3,k3,show xx=X.2 + 1 by omega]⟩ (by simp only;omega)
 ·obtain rfl : yy=Y.2 + 1:=by omega
  subst h3
  exact run⟩
instance inVp3_4 {px py x y e lo hi : Int} : CFc 307 false [.a [I px, I py], .a [I x, I y, I e], I lo, I hi] True (.t [.sl 0 0 0 (tracedL ⟨px, py⟩ ⟨x, y, e⟩ lo hi).1.length 2, I (tracedL ⟨px, py⟩ ⟨x, y, e⟩ lo hi).2]) [.row false 128 2 (fl Cell.e (tracedL ⟨px, py⟩ ⟨x, y, e⟩ lo hi).1)] := ⟨fun _ => by
 unfold tracedL ptR
 refine CM.of Tryz.func307 rfl tabOk rfl rfl rfl rfl (by simp [SV.nms,SV.nm]) fun w_ M_ π_ G0_=>?_
 refine runA (a1 ?_)
 intro _ g1 g2 _ g3 g4 g5
 have h : swOk ⟨px,py,px,py⟩ ⟨x,y,e⟩ lo hi:=⟨g1.2.1,Int.le_refl _,g1.2.2.1,g1.2.2.2.1,Int.le_refl _,g1.2.2.2.2,by simp,by simp,g2,g3,g4,g5⟩
 exact run⟩
instance inVp3_5 {a b c d x y e lo hi : Int} : CFc 286 false [.a [I a, I b, I c, I d], .a [I x, I y, I e], I lo, I hi] True (.t [.sl 0 0 0 (sweptL ⟨a, b, c, d⟩ ⟨x, y, e⟩ lo hi).1.length 2, I (sweptL ⟨a, b, c, d⟩ ⟨x, y, e⟩ lo hi).2]) [.row false 128 2 (fl Cell.e (sweptL ⟨a, b, c, d⟩ ⟨x, y, e⟩ lo hi).1)] := ⟨fun _ => by
 unfold sweptL
 refine CM.of Tryz.func286 rfl tabOk rfl rfl rfl rfl (by simp [SV.nms,SV.nm]) fun w_ M_ π_ G0_=>?_
 refine runA (a1 ?_)
 intro _ g1 g2 _ g3 g4 g5 g6 g7
 have h : swOk ⟨a,b,c,d⟩ ⟨x,y,e⟩ lo hi:=⟨g1.2.2.2.1,g1.2.1,g1.2.2.2.2.1,g1.2.2.2.2.2.1,g1.2.2.1,g1.2.2.2.2.2.2,g6,g7,g2,g3,g4,g5⟩
 exact run⟩
attribute [irreducible] PlanP.cntP
end Go.Proofs.YtkflmidichikjaaGreatDoor.V
end
section
namespace Go.Proofs.YtkflmidichikjaaGreatDoor.V
open Go.RowKit
set_option maxRecDepth 100000
set_option maxHeartbeats 8000000
open Heading BoxP Drive Seg
namespace Seg
def distF (t : Fraction) (v : Vector) : Fraction := ⟨(t.N * v.D) / gcdI (t.N * v.D) t.D, t.D / gcdI (t.N * v.D) t.D⟩
def enter (p : Point) (v : Vector) (r : Rect) : Fraction × Bool := if (through p v r).2 then (distF (through p v r).1.lo v, true) else (⟨0, 0⟩, false)
theorem slab_lo {s : Span} {p d a b : Int} (h : 0 ≤ s.lo.N) (h1 : 1 ≤ s.lo.D) : 0 ≤ (slab s p d a b).1.lo.N := by
 unfold slab
 split
 ·exact h
 simp only []
 cases hl : lessF s.lo (loHi p d a b).1 with
 | false=>exact h
 | true =>
   simp only [cond_true]
   unfold lessF at hl
   have hl:=of_decide_eq_true hl
   have hd : 0 < (loHi p d a b).1.D:=by unfold loHi;split<;>simp only []<;>omega
   have h2 : 0≤s.lo.N * (loHi p d a b).1.D:=Int.mul_nonneg h (by omega)
   by_cases hn : 0≤(loHi p d a b).1.N
   ·exact hn
   ·have:=Int.mul_nonneg (a:=-(loHi p d a b).1.N) (b:=s.lo.D) (by omega) (by omega)
    rw [Int.neg_mul] at this
    omega
theorem through_lo {p : Point} {v : Vector} {r : Rect} (h : (through p v r).2 = true) : 0 ≤ (through p v r).1.lo.N := by
 unfold through at h ⊢
 split at h
 ·rename_i hv
  rw [if_pos hv]
  split at h
  ·rename_i hs
   rw [if_pos hs]
   obtain ⟨h1,h2,h3⟩:=hv
   have e1:=sPoint_iff.1 h1
   have e2:=vVec_iff.1 h2
   have e3:=sRect_iff.1 h3
   have hk:=slab_ok (s:=span0) (p:=p.X) (d:=v.X) (a:=r.X0) (b:=r.X1) (by unfold Span.ok span0;simp) (by omega) (by omega) (by omega) (by omega)
   exact slab_lo (slab_lo (by simp [span0]) (by simp [span0])) (by unfold Span.ok at hk;omega)
  ·cases h
 ·cases h
theorem gcdI_comm (a b : Int) : gcdI a b = gcdI b a := by unfold gcdI; rw [Nat.gcd_comm]
theorem gcdI_pos2 {a b : Int} (h : 1 ≤ b) : 1 ≤ gcdI a b := by rw [gcdI_comm]; exact (gcdI_pos h).1
def meetsR (p q : Point) (r : Rect) : Bool :=
 if max p.X q.X < r.X0∨min p.X q.X > r.X1∨max p.Y q.Y < r.Y0∨min p.Y q.Y > r.Y1 then false else
 decide (min (min (min (min 1 (sgn (cross p q ⟨r.X0,r.Y0⟩))) (sgn (cross p q ⟨r.X1,r.Y0⟩))) (sgn (cross p q ⟨r.X0,r.Y1⟩))) (sgn (cross p q ⟨r.X1,r.Y1⟩))≤0) &&
 decide (max (max (max (max (-1) (sgn (cross p q ⟨r.X0,r.Y0⟩))) (sgn (cross p q ⟨r.X1,r.Y0⟩))) (sgn (cross p q ⟨r.X0,r.Y1⟩))) (sgn (cross p q ⟨r.X1,r.Y1⟩)) ≥ 0)
def dotF (c p q : Point) : Int := (c.X - p.X) * (q.X - p.X) + (c.Y - p.Y) * (q.Y - p.Y)
def lenF (p q : Point) : Int := (q.X - p.X) * (q.X - p.X) + (q.Y - p.Y) * (q.Y - p.Y)
def withinS (c p q : Point) (k : Int) : Bool :=
 if dotF c p q≤0 then decide (sq2 c p≤k * k) else
 if dotF c p q ≥ lenF p q then decide (sq2 c q≤k * k) else
 if cross p q c < -4194304∨cross p q c > 4194304 then false else
 decide (cross p q c * cross p q c≤k * k * lenF p q)
def touch (p q : Point) (r : Rect) (k : Int) : Bool :=
 if sPoint p=false∨sPoint q=false∨sRect r=false∨k < 0∨k > 1024 then false else
 if beside q.X (p.X - 1024) (p.X + 1024) > 0∨beside q.Y (p.Y - 1024) (p.Y + 1024) > 0 then false else
 if meetsR p q r∨gap p r≤k * k∨gap q r≤k * k then true else
 withinS ⟨r.X0,r.Y0⟩ p q k || withinS ⟨r.X1,r.Y0⟩ p q k || withinS ⟨r.X0,r.Y1⟩ p q k || withinS ⟨r.X1,r.Y1⟩ p q k
end Seg
open Seg
instance inVs4_1 {n d x y e : Int} : CFc 348 false [.a [I n, I d], .a [I x, I y, I e]] (0 ≤ n ∧ n ≤ 67108864 ∧ 1 ≤ d ∧ d ≤ 67108864 ∧ 1 ≤ e ∧ e ≤ 67108864) (distF ⟨n, d⟩ ⟨x, y, e⟩).s [] := ⟨fun hp => by
 have h1:=mul_bnd (a:=n) (b:=e) (A:=67108864) (B:=67108864) (by omega) (by omega)
 have h0 : 0≤n * e:=Int.mul_nonneg (by omega) (by omega)
 unfold distF
 refine CM.of Tryz.func348 rfl tabOk rfl rfl rfl rfl (by simp [SV.nms,SV.nm]) fun w_ M_ π_ G0_=>?_
 refine runA (a1 ?_)
 refine LoopX_c tabOk [] (fun p : Int × Int=>0≤p.1∧0≤p.2∧(p.1≤4611686018427387904∧p.2≤4611686018427387904)∧1≤p.1 + p.2∧gcdI p.1 p.2=gcdI (n * e) d) (fun p=>[(8,I p.2),(7,I p.1)]) (fun _=>[]) (fun p=>p.2.toNat) (n * e,d) ⟨by simp only;omega,by simp only;omega,by simp only;omega,by simp only;omega,rfl⟩ ⟨rfl,rfl,trivial⟩ trivial ?_
 conv=>whnf
 rintro ⟨g,m⟩ ⟨h2,h3,h4,h5,h6⟩
 simp only at h2 h3 h4 h5 h6
 have hem:=fun h=>Int.emod_lt_of_pos g (b:=m) h
 refine runA (a2 ?_ ?_)
 ·intro h
  have h7:=hem (by omega)
  have h8:=Int.emod_nonneg g h
  exact rnd (m,g % m) ⟨h3,h8,⟨h4.2,by simp only;omega⟩,by simp only;omega,by simp only;rw [gcdI_step h2 (by omega)];exact h6⟩ (by simp only;omega)
 ·intro h
  subst h
  rw [gcdI_zero h2] at h6
  rw [← h6]
  refine runA (a1 ?_)
  intro _
  rfl⟩
instance inVs4_2 {px py x y d a b c e : Int} : CFc 308 false [.a [I px, I py], .a [I x, I y, I d], .a [I a, I b, I c, I e]] True (.t [(enter ⟨px, py⟩ ⟨x, y, d⟩ ⟨a, b, c, e⟩).1.s, B (enter ⟨px, py⟩ ⟨x, y, d⟩ ⟨a, b, c, e⟩).2]) [] := ⟨fun _ => by
 unfold enter
 refine CM.of Tryz.func308 rfl tabOk rfl rfl rfl rfl (by simp [SV.nms,SV.nm]) fun w_ M_ π_ G0_=>?_
 refine runA (a1 ?_)
 intro ht
 obtain ⟨hs,-,hv,-⟩:=through_ok ht
 have h1:=through_lo ht
 have hv:=vVec_iff.1 hv
 simp only at hv
 unfold Span.ok at hs
 exact run⟩
instance inVs4_3 {a b c d : Int} : CFc 263 false [.a [I a, I b, I c, I d]] True (.a [I a, I b, I c, I b, I a, I d, I c, I d]) [] := ⟨fun _ => by
 refine CM.of Tryz.func263 rfl tabOk rfl rfl rfl rfl (by simp [SV.nms,SV.nm]) fun w_ M_ π_ G0_=>?_
 exact run⟩
instance inVs4_4 {a b c d p q p' q' : Int} : CFc 262 false [.a [I p, I q], .a [I p', I q'], .a [I a, I b, I c, I d]] (-4194304 ≤ a ∧ a ≤ 4194304 ∧ -4194304 ≤ b ∧ b ≤ 4194304 ∧ -4194304 ≤ c ∧ c ≤ 4194304 ∧ -4194304 ≤ d ∧ d ≤ 4194304 ∧ -4194304 ≤ p ∧ p ≤ 4194304 ∧ -4194304 ≤ q ∧ q ≤ 4194304 ∧ -4194304 ≤ p' ∧ p' ≤ 4194304 ∧ -4194304 ≤ q' ∧ q' ≤ 4194304) (B (meetsR ⟨p, q⟩ ⟨p', q'⟩ ⟨a, b, c, d⟩)) [] := ⟨fun _ => by
 unfold meetsR
 refine CM.of Tryz.func262 rfl tabOk rfl rfl rfl rfl (by simp [SV.nms,SV.nm]) fun w_ M_ π_ G0_=>?_
 refine runA (a1 ?_)
 intros
 refine LoopX_r tabOk 5 ?_
 exact run⟩
instance inVs4_5 {a b p q p' q' k : Int} : CFc 264 false [.a [I a, I b], .a [I p, I q], .a [I p', I q'], I k] (-4194304 ≤ a ∧ a ≤ 4194304 ∧ -4194304 ≤ b ∧ b ≤ 4194304 ∧ -4194304 ≤ p ∧ p ≤ 4194304 ∧ -4194304 ≤ q ∧ q ≤ 4194304 ∧ -4194304 ≤ p' ∧ p' ≤ 4194304 ∧ -4194304 ≤ q' ∧ q' ≤ 4194304 ∧ -1024 ≤ p - p' ∧ p - p' ≤ 1024 ∧ -1024 ≤ q - q' ∧ q - q' ≤ 1024 ∧ 0 ≤ k ∧ k ≤ 1024) (B (withinS ⟨a, b⟩ ⟨p, q⟩ ⟨p', q'⟩ k)) [] := ⟨fun _ => by
 unfold withinS dotF lenF
 refine CM.of Tryz.func264 rfl tabOk rfl rfl rfl rfl (by simp [SV.nms,SV.nm]) fun w_ M_ π_ G0_=>?_
 have h1:=mul_bnd (a:=a - p) (b:=p' - p) (A:=8388608) (B:=1024) (by omega) (by omega)
 have h2:=mul_bnd (a:=b - q) (b:=q' - q) (A:=8388608) (B:=1024) (by omega) (by omega)
 have h3:=sq_bnd (k:=p' - p) (B:=1024) (by omega)
 have h4:=sq_bnd (k:=q' - q) (B:=1024) (by omega)
 have h5:=sq_bnd (k:=k) (B:=1024) (by omega)
 refine runA (a1 ?_)
 intros
 have h6:=sq_bnd (k:=cross ⟨p,q⟩ ⟨p',q'⟩ ⟨a,b⟩) (B:=4194304) (by omega)
 have h7:=mul_bnd (a:=k * k) (b:=(p' - p) * (p' - p) + (q' - q) * (q' - q)) (A:=1048576) (B:=2097152) (by omega) (by omega)
 exact run⟩
instance inVs4_6 {a b c d p q p' q' k : Int} : CFc 210 false [.a [I p, I q], .a [I p', I q'], .a [I a, I b, I c, I d], I k] True (B (touch ⟨p, q⟩ ⟨p', q'⟩ ⟨a, b, c, d⟩ k)) [] := ⟨fun _ => by
 unfold touch
 refine CM.of Tryz.func210 rfl tabOk rfl rfl rfl rfl (by simp [SV.nms,SV.nm]) fun w_ M_ π_ G0_=>?_
 refine runA (a1 ?_)
 intro _ _ _ _ _ _ _ _ g1 g2 _
 have e1 : -1024≤p - p'∧p - p'≤1024:=by unfold beside at g1;omega
 have e2 : -1024≤q - q'∧q - q'≤1024:=by unfold beside at g2;omega
 have h1:=sq_bnd (k:=k) (B:=1024) (by omega)
 refine runA (a1 ?_)
 intros
 refine LoopX_r tabOk 5 ?_
 exact run⟩
attribute [irreducible] Seg.distF Seg.enter Seg.meetsR Seg.dotF Seg.lenF Seg.withinS Seg.touch
end Go.Proofs.YtkflmidichikjaaGreatDoor.V
end
