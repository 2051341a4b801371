import Derived.Test.YtlnplelandimeaaGreatRows
import Derived.WalkKit
import Derived.WalkSpells
import Derived.WalkLawsBesides
import Derived.Lib.Hide
import Derived.Deep.RegionHeld3
import Derived.Deep.QuietTactic
import Derived.BigQuiet
import Derived.StillTailTactics
import Derived.Deep.DeepFit
import Derived.Deep.DeepCutAuto
import Derived.Deep.LoopGhost
set_option linter.all false
section
namespace Go.Proofs.YtlnplelandimeaaGreat
open Go.RowKit
theorem cwm {W w1 : World} (hb : Below W.heap.size W w1) : (∀ b o, b < W.heap.size → w1.cell? ⟨b, o, none⟩ = W.cell? ⟨b, o, none⟩) ∧ (∀ b o, b < W.heap.size → w1.frozen? ⟨b, o, none⟩ = W.frozen? ⟨b, o, none⟩) :=
 ⟨fun b o h=>hb.cell (p:=⟨b,o,none⟩) h,fun b o h=>hb.frozen (p:=⟨b,o,none⟩) h⟩
theorem aqx (w : World) : Below w.heap.size w w := Below.refl _ _
theorem aq6 {w w' : World} (h : Below w.heap.size w w') : Below w.heap.size w w'.drew := h.drew
theorem aqq {w w' : World} (n : Nat) (h : Below w.heap.size w w') : Below w.heap.size w (w'.drewN n) := ⟨h.os, h.tape, h.output, h.size, h.block⟩
theorem aqa {w w' : World} (h : Below w.heap.size w w') (o : Obj) : Below w.heap.size w (w'.alloc o) := h.alloc h.size o
theorem axv {w w' : World} (h : Below w.heap.size w w') {p : Addr} (hp : w.heap.size ≤ p.block) (u : Value) : Below w.heap.size w (w'.setCell p u) := h.setCell hp u
theorem aq7 {w W w1 : World} (hb : Below W.heap.size W w1) (h : Below w.heap.size w W) : Below w.heap.size w w1 := h.trans (hb.mono h.size)
theorem and3 (n : Int) : bits .and .i64 n 3 = n % 4 := by
 have h3 : (BitVec.ofInt 64 3).toNat=2 ^ 2 - 1:=by decide
 have key : (BitVec.ofInt 64 n &&& BitVec.ofInt 64 3).toNat=(n % ((2 ^ 64 : Nat) : Int)).toNat % 2 ^ 2:=by
  rw [BitVec.toNat_and,BitVec.toNat_ofInt,h3,Nat.and_two_pow_sub_one_eq_mod]
 show IntKind.i64.wrap ((BitVec.ofInt 64 n &&& BitVec.ofInt 64 3).toNat : Nat)=n % 4
 rw [key,IntKind.wrap_i64]
 omega
theorem cx6 (n m : Int) (h0 : n < 0) (h1 : 1 ≤ m) : (n.tmod m < 0 → n % m = n.tmod m + m) ∧ (¬ n.tmod m < 0 → n % m = n.tmod m) ∧ n.tmod m ≤ 0 ∧ -m < n.tmod m := by
 have a1:=Int.tmod_nonneg (a:=-n) m (by omega)
 have a2:=Int.tmod_lt_of_pos (-n) (show 0 < m by omega)
 rw [Int.neg_tmod] at a1 a2
 have a3:=Int.emod_nonneg n (show m ≠ 0 by omega)
 have a4:=Int.emod_lt_of_pos n (show 0 < m by omega)
 have e1:=Int.mul_tdiv_add_tmod n m
 have e2:=Int.mul_ediv_add_emod n m
 have key : m * (n.tdiv m - n / m)=n % m - n.tmod m:=by rw [Int.mul_sub];omega
 generalize n.tdiv m - n / m=d at key
 have hd : d=0∨d=1:=by
  rcases (by omega : d < 0∨0≤d) with h|h
  ·have : m * d≤m * (-1):=Int.mul_le_mul_of_nonneg_left (by omega) (by omega)
   omega
  ·rcases (by omega : 1 < d∨d≤1) with h'|h'
   ·have : m * 2≤m * d:=Int.mul_le_mul_of_nonneg_left (by omega) (by omega)
    omega
   ·omega
 rcases hd with rfl|rfl
 ·refine ⟨fun h=>by omega,fun h=>by omega,by omega,by omega⟩
 ·refine ⟨fun h=>by omega,fun h=>by omega,by omega,by omega⟩
end Go.Proofs.YtlnplelandimeaaGreat
end
section
namespace Go.Proofs.YtlnplelandimeaaGreat
open Go.RowKit
def szB (n m : Int) : Bool := decide (-m ≤ n ∧ n ≤ m)
set_option maxHeartbeats 400000 in
theorem ax7 (n m : Int) (w : World) (h1 : -1000000000000 ≤ m) (h2 : m ≤ 1000000000000) :
 Calls Tryz.prog 102 #[.int .i64 n,.int .i64 m] w fun e w'=>e = .returned (.bool (szB n m))∧w=w':=by
 by_cases h3 : -m≤n
 ·by_cases h4 : n≤m
  ·have HS:=Lib.hid (show szB n m=true by simp [szB,h3,h4])
   go_enter Tryz.func102,Tryz.ntmps102
   go_wp2
   go_ret
   exact ⟨by simp [HS.out],rfl⟩
  ·have HS:=Lib.hid (show szB n m=false by simp [szB,h4])
   go_enter Tryz.func102,Tryz.ntmps102
   go_wp2
   go_ret
   exact ⟨by simp [HS.out],rfl⟩
 ·have HS:=Lib.hid (show szB n m=false by simp [szB,h3])
  go_enter Tryz.func102,Tryz.ntmps102
  go_wp2
  go_ret
  exact ⟨by simp [HS.out],rfl⟩
set_option maxHeartbeats 400000 in
theorem czi (q x y : Int) (w : World) :
 Calls Tryz.prog 91 #[.agg #[.int .i64 q,.int .i64 x,.int .i64 y]] w fun e w'=>e = .returned (.bool (szB x 8192 && szB y 8192))∧w.alloc (.cells #[.int .i64 q,.int .i64 x,.int .i64 y] 37)=w':=by
 cases h3 : szB x 8192
 all_goals
  go_enter Tryz.func91,Tryz.ntmps91
  go_wp2_with (go_at_call 102;refine (ax7 _ _ _ (by omega) (by omega)).mono ?_;rintro e w' ⟨rfl,rfl⟩)
  go_ret
  exact ⟨by simp,rfl⟩
def clipI (n lo hi : Int) : Int := max lo (min n hi)
set_option maxHeartbeats 400000 in
theorem bxf (n m : Int) (w : World) (h1 : 1 ≤ m) (h2 : m ≤ 1000000000000) :
 Calls Tryz.prog 36 #[.int .i64 n,.int .i64 m] w fun e w'=>e = .returned (.int .i64 (n % m))∧w=w':=by
 by_cases h3 : 0≤n
 ·have h4 : 0≤n % m:=Int.emod_nonneg _ (by omega)
  go_enter Tryz.func36,Tryz.ntmps36
  go_wp2
  go_ret
  exact ⟨by simp,rfl⟩
 ·obtain ⟨k1,k2,h4,h5⟩:=cx6 n m (by omega) h1
  by_cases h6 : n.tmod m < 0
  ·have HS:=Lib.hid (k1 h6)
   clear k1 k2
   go_enter Tryz.func36,Tryz.ntmps36
   go_wp2
   go_ret
   exact ⟨by simp [HS.out],rfl⟩
  ·have HS:=Lib.hid (k2 h6)
   clear k1 k2
   go_enter Tryz.func36,Tryz.ntmps36
   go_wp2
   go_ret
   exact ⟨by simp [HS.out],rfl⟩
def tX (q x y : Int) : Int := if q = 0 then x else if q = 1 then -y else if q = 2 then -x else y
def tY (q x y : Int) : Int := if q = 0 then y else if q = 1 then x else if q = 2 then -y else -x
theorem cx7 (q x y B : Int) (h1 : -B ≤ x) (h2 : x ≤ B) (h3 : -B ≤ y) (h4 : y ≤ B) : -B ≤ tX q x y ∧ tX q x y ≤ B := by
 unfold tX;split<;>(try split)<;>(try split)<;>omega
theorem cx8 (q x y B : Int) (h1 : -B ≤ x) (h2 : x ≤ B) (h3 : -B ≤ y) (h4 : y ≤ B) : -B ≤ tY q x y ∧ tY q x y ≤ B := by
 unfold tY;split<;>(try split)<;>(try split)<;>omega
theorem tXY_succ (k x y : Int) (h0 : 0 ≤ k) (h1 : k < 3) : tX (k + 1) x y = -(tY k x y) ∧ tY (k + 1) x y = tX k x y := by
 rcases (by omega : k=0∨k=1∨k=2) with rfl|rfl|rfl<;>simp [tX,tY]
set_option maxHeartbeats 400000 in
theorem bkc (q x y : Int) (w : World) (h1 : -1000000000000 ≤ x) (h2 : x ≤ 1000000000000) (h3 : -1000000000000 ≤ y) (h4 : y ≤ 1000000000000) :
 Calls Tryz.prog 126 #[.int .i64 q,.int .i64 x,.int .i64 y] w fun e w'=>e = .returned (.tuple #[.int .i64 (tX (q % 4) x y),.int .i64 (tY (q % 4) x y)])∧w=w':=by
 have ha:=and3 q
 have hq1 : 0≤q % 4:=by omega
 have hq2 : q % 4≤3:=by omega
 generalize q % 4=m at *
 go_enter Tryz.func126,Tryz.ntmps126
 go_wp2
 go_loop [1,2,10] (fun a b i=>∃ k : Int,0≤k∧k≤m∧i = .int .i64 k∧a = .int .i64 (tX k x y)∧b = .int .i64 (tY k x y)) (fun _ _ i=>(m - intOf i).toNat)
 case atStart=>exact ⟨0,by omega,by omega,rfl,by simp [tX],by simp [tY]⟩
 case round =>
  obtain ⟨k,hk0,hk,rfl,rfl,rfl⟩:=hrel
  obtain ⟨b1,b2⟩:=cx7 k x y 1000000000000 h1 h2 h3 h4
  obtain ⟨b3,b4⟩:=cx8 k x y 1000000000000 h1 h2 h3 h4
  by_cases hlt : k < m
  ·have HS:=Lib.hid (tXY_succ k x y hk0 (by omega))
   go_wp2
   go_round
   case rel=>exact ⟨k + 1,by omega,by omega,rfl,by rw [HS.out.1],by rw [HS.out.2]⟩
   case measure=>simp [intOf];omega
  ·obtain rfl : k=m:=by omega
   go_wp2
   go_ret2
   exact ⟨rfl,rfl⟩
end Go.Proofs.YtlnplelandimeaaGreat
end
