import Derived.Test.YtlnplelandimeaaGreatZFleetViews01
import Derived.ProofKit
import Derived.OpenShut
import Derived.Lib.SmallJoins
import Derived.Deep.Slices
import Derived.Deep.Fields
import Derived.Test.YtlnplelandimeaaGreatZFleetViews09
import Derived.Maps.RangeRun
import Derived.Sort.MapsRangeIn
import Derived.RangeFuncNested
import Derived.RangeFuncBound
import Derived.RangeFuncLeaves
import Derived.Maps.AppendAt
import Derived.WalkKit
import Derived.OwnWalkIn
import Derived.TacticsInMore
import Derived.RegionIn
import Derived.LoopNIn
import Derived.LoopIn
import Derived.Shelf.Abstract
import Derived.Shelf.AbstractIn
import Derived.Test.YtlnplelandimeaaGreatZFleetViews08
set_option linter.all false
section
namespace Go.Proofs.YtlnplelandimeaaGreat
open Go.ChangeShapes Go.WideShapes Go.ChangeAt Go.RowKit Go.Joins Go.Deep
theorem own : ownKnob Tryz.prog.godebug = none := by kernel_rfl
theorem laidOut : laidOutB Tryz.prog = true := by kernel_rfl
section
variable {H : Type} {enc : TypeId × Value → H} {P : Program} {w : World} {base : Nat} {spare : Nat → Bool} {held : Bool}
end
end Go.Proofs.YtlnplelandimeaaGreat
namespace Go.Proofs.YtlnplelandimeaaGreat
open Go.ChangeShapes Go.WideShapes Go.ChangeAt Go.RowKit Go.Joins Go.Deep
def cwz (P : Program) : Nat → TypeId → Bool
 | 0,_=>false
 | n + 1,t =>
   match P.underlying t with
   | some (.int .i64)=>true
   | some (.struct fs)=>(fs.all fun f=>cwz P n f.type) && (List.range (P.cellsOf t)).all fun j=>fs.any fun f=>decide (f.offset≤j) && decide (j < f.offset + P.cellsOf f.type)
   | _=>false
section
variable {H : Type} {enc : TypeId × Value → H} {P : Program} {w : World} {base : Nat} {spare : Nat → Bool} {held : Bool}
theorem bkv : ∀ (n : Nat) {t : TypeId} {fuel : Nat} {cs : List Value} {x : DataW H × List MemPlace}, cwz P n t = true → DataW.trod enc P w base spare held fuel t cs = some x → ∀ j, j < cs.length → ∃ a : Int, cs[j]? = some (.int .i64 a) ∧ (Lit.int .i64 a).wf = true
 | 0,_,_,_,_,hf,_,_,_=>by simp [cwz] at hf
 | n + 1,t,fuel,cs,x,hf,h,j,hj=>by
   unfold cwz at hf
   split at hf
   ·rename_i ht
    obtain ⟨a,rfl,_,hw⟩:=DataW.trod_int ht h
    simp at hj
    subst hj
    exact ⟨a,rfl,hw⟩
   ·rename_i fs ht
    simp only [Bool.and_eq_true] at hf
    obtain ⟨hf1,hf2⟩:=hf
    obtain ⟨xs,m,_,_,hl,hxl,hg⟩:=DataW.trod_struct ht h
    have h2:=List.all_eq_true.1 hf2 j (by simp;omega)
    obtain ⟨i,hi,hij⟩:=Array.any_eq_true.1 h2
    simp only [Bool.and_eq_true,decide_eq_true_eq] at hij
    have h1:=hg i fs[i] (Array.getElem?_eq_getElem hi)
    have hys : xs[i]? = some (xs[i]'(by omega)):=List.getElem?_eq_getElem (by omega)
    rw [hys] at h1
    have h3:=Array.all_eq_true.1 hf1 i hi
    obtain ⟨a,ha,hw⟩:=bkv n h3 h1 (j - fs[i].offset) (by simp;omega)
    refine ⟨a,?_,hw⟩
    rw [List.getElem?_take_of_lt (by omega),List.getElem?_drop] at ha
    rw [← ha]
    congr 1
    omega
   ·cases hf
def SlAt (w : World) (a : Addr) (len C : Nat) (V : Nat → Nat → Int) : Prop :=
 ∀ i,i < len→∀ j,j < C→w.cell? ((a.add (i * C)).add j)=some (.int .i64 (V i j))∧(Lit.int .i64 (V i j)).wf=true
theorem cjl {t e : TypeId} {n : Nat} {cs : List Value} {fuel : Nat} {x : DataW H × List MemPlace} (ht : P.underlying t = some (.slice e)) (hf : cwz P n e = true) (h : DataW.trod enc P w base spare held fuel t cs = some x) :
 cs=[.slice none 0 0]∨∃ (a : Addr) (len cap : Nat) (V : Nat→Nat→Int),cs=[.slice (some a) len cap]∧len≤cap∧cap≤maxLen∧SlAt w a len (P.cellsOf e) V:=by
 rcases open_slice ht h with h0|⟨a,len,cap,m,k,D,Pl,hcs,hb,hl,hm,hmm,hx,hi⟩
 ·exact .inl h0.1
 ·have hlm : len≤m:=by rw [hmm];split<;>omega
  have hex : ∀ i j,∃ v : Int,i < len→j < P.cellsOf e→w.cell? ((a.add (i * P.cellsOf e)).add j)=some (.int .i64 v)∧(Lit.int .i64 v).wf=true:=by
   intro i j
   by_cases h1 : i < len
   ·by_cases h2 : j < P.cellsOf e
    ·obtain ⟨cs',hc,ht'⟩:=hi i (by omega)
     obtain ⟨_,hcl,hat⟩:=World.cells?_some hc
     obtain ⟨v,hv,hw⟩:=bkv n hf ht' j (by omega)
     exact ⟨v,fun _ _=>⟨by rw [hat j h2,hv],hw⟩⟩
    ·exact ⟨0,fun _ h=>absurd h h2⟩
   ·exact ⟨0,fun h=>absurd h h1⟩
  exact .inr ⟨a,len,cap,fun i j=>Classical.choose (hex i j),hcs,hl,hm,fun i h1 j h2=>Classical.choose_spec (hex i j) h1 h2⟩
end
def SlO (w : World) (A : Option Addr) (len C : Nat) (V : Nat → Nat → Int) : Prop := len = 0 ∨ ∃ a, A = some a ∧ SlAt w a len C V
theorem SlAt.below {w w' : World} {a : Addr} {len C : Nat} {V : Nat → Nat → Int} (h : SlAt w a len C V) (hb : Below w.heap.size w w') : SlAt w' a len C V := fun i hi j hj => by
 obtain ⟨h1,h2⟩:=h i hi j hj
 exact ⟨(hb.cell (World.block_lt_of_cell? w _ h1)).trans h1,h2⟩
theorem SlO.below {w w' : World} {A : Option Addr} {len C : Nat} {V : Nat → Nat → Int} (h : SlO w A len C V) (hb : Below w.heap.size w w') : SlO w' A len C V := by
 rcases h with h|⟨a,h1,h2⟩
 ·exact .inl h
 ·exact .inr ⟨a,h1,h2.below hb⟩
theorem SlO.at {w : World} {A : Option Addr} {len C i : Nat} {V : Nat → Nat → Int} (h : SlO w A len C V) (hi : i < len) : ∃ a, A = some a ∧ ∀ j, j < C → w.cell? ((a.add (i * C)).add j) = some (.int .i64 (V i j)) := by
 rcases h with h|⟨a,h1,h2⟩
 ·omega
 ·exact ⟨a,h1,fun j hj=>(h2 i hi j hj).1⟩
theorem SlO.get {w : World} {A : Option Addr} {len C i : Nat} {V : Nat → Nat → Int} (h : SlO w A len C V) (hi : i < len) (hC : 0 < C) :
 ∃ a,A=some a∧w.cell? (a.add (i * C))=some (.int .i64 (V i 0))∧∀ j,0 < j→j < C→w.cell? ⟨(a.add (i * C)).block,(a.add (i * C)).off + j,none⟩ = some (.int .i64 (V i j)):=by
 obtain ⟨a,h1,h2⟩:=h.at hi
 refine ⟨a,h1,h2 0 hC,fun j h0 hj=>?_⟩
 have:=h2 j hj
 unfold Addr.add at this ⊢
 rw [if_neg (by omega : j ≠ 0)] at this
 exact this
end Go.Proofs.YtlnplelandimeaaGreat
end
section
namespace Go.Proofs.YtlnplelandimeaaGreat
open Go.ChangeShapes Go.WideShapes Go.ChangeAt Go.RowKit Go.Joins Go.Deep
set_option maxRecDepth 100000
def cw0 (P : Program) : Nat → TypeId → Nat → Option TypeId
 | 0,_,_=>none
 | n + 1,t,j =>
   match P.underlying t with
   | some (.struct fs)=>(fs.toList.find? fun f=>decide (f.offset≤j) && decide (j < f.offset + P.cellsOf f.type) && decide (f.offset + P.cellsOf f.type≤P.cellsOf t)).bind fun f=>cw0 P n f.type (j - f.offset)
   | some _=>if decide (j=0) && decide (P.cellsOf t=1) then some t else none
   | none=>none
section
variable {H : Type} {enc : TypeId × Value → H} {P : Program} {w : World} {base : Nat} {spare : Nat → Bool} {held : Bool}
theorem aw9 : ∀ (n : Nat) {t tl : TypeId} {j fuel : Nat} {cs : List Value} {x : DataW H × List MemPlace}, cw0 P n t j = some tl → cs.length = P.cellsOf t → DataW.trod enc P w base spare held fuel t cs = some x →
 ∃ (fuel' : Nat) (y : DataW H × List MemPlace),DataW.trod enc P w base spare held fuel' tl ((cs.drop j).take 1)=some y
 | 0,_,_,_,_,_,_,hf,_,_=>by cases hf
 | n + 1,t,tl,j,fuel,cs,x,hf,hc,h=>by
   unfold cw0 at hf
   split at hf
   ·rename_i fs ht
    obtain ⟨xs,m,_,_,hl,hxl,hg⟩:=DataW.trod_struct ht h
    cases hq : fs.toList.find? fun f=>decide (f.offset≤j) && decide (j < f.offset + P.cellsOf f.type) && decide (f.offset + P.cellsOf f.type≤P.cellsOf t) with
    | none=>rw [hq] at hf;cases hf
    | some f =>
      rw [hq] at hf
      have h1:=List.find?_some hq
      have h2:=List.mem_of_find?_eq_some hq
      simp only [Bool.and_eq_true,decide_eq_true_eq] at h1
      obtain ⟨i,hi,hfi⟩:=List.getElem_of_mem h2
      have hfi' : fs[i]? = some f:=by
       rw [← hfi,Array.getElem_toList]
       exact Array.getElem?_eq_getElem (by simpa using hi)
      have h3:=hg i f hfi'
      have hys : xs[i]? = some (xs[i]'(by rw [hxl];simpa using hi)):=List.getElem?_eq_getElem _
      rw [hys] at h3
      obtain ⟨fuel',y,hy⟩:=aw9 n (by simpa using hf) (by simp;omega) h3
      refine ⟨fuel',y,?_⟩
      rw [← hy,List.drop_take,List.take_take,List.drop_drop,show min 1 (P.cellsOf f.type - (j - f.offset))=1 by omega]
      first
      | rw [show f.offset + (j - f.offset)=j by omega]
      | rw [show j - f.offset + f.offset=j by omega]
   ·rename_i ht hs
    split at hf
    ·rename_i h1
     cases hf
     simp only [Bool.and_eq_true,decide_eq_true_eq] at h1
     obtain ⟨rfl,h2⟩:=h1
     refine ⟨fuel,x,?_⟩
     rw [List.drop_zero,List.take_of_length_le (by omega)]
     exact h
    ·cases hf
   ·cases hf
end
end Go.Proofs.YtlnplelandimeaaGreat
end
section
namespace Go.Proofs.YtlnplelandimeaaGreat.En
open Go.RowKit Go.Shelf
open Go.ChangeMaps (setBlock)
open Go.Maps Go.MapKept
abbrev encA (e : EntT) : Value := .agg #[.int .i64 e.1, .int .i64 e.2.1, .int .i64 e.2.2.1, .int .i64 e.2.2.2]
abbrev keyC (c : azx) : Value := .agg #[.int .i64 c.1, .int .i64 c.2]
def tE1 (e : EntT) (i : Nat) : MapEntry := { key := keyC e.cell, val := encA e, born := i }
def tEs : List EntT → Nat → List MapEntry
 | [],_=>[]
 | e :: r,i=>tE1 e i :: tEs r (i + 1)
theorem bwh : ∀ (L : List EntT) (s i : Nat), (tEs L s)[i]? = (L[i]?).map fun e => tE1 e (s + i)
 | [],_,_=>by simp [tEs]
 | e :: r,s,0=>by simp [tEs]
 | e :: r,s,i + 1=>by
   simp only [tEs,List.getElem?_cons_succ,bwh r (s + 1) i]
   rw [show s + 1 + i=s + (i + 1) by omega]
theorem bwi : ∀ (L : List EntT) (s : Nat), (tEs L s).length = L.length
 | [],_=>rfl
 | e :: r,s=>by simp [tEs,bwi r (s + 1)]
theorem bkw : ∀ (L M : List EntT) (s : Nat), tEs (L ++ M) s = tEs L s ++ tEs M (s + L.length)
 | [],M,s=>by simp [tEs]
 | e :: r,M,s=>by
   simp only [List.cons_append,tEs,bkw r M (s + 1),List.length_cons]
   rw [show s + 1 + r.length=s + (r.length + 1) by omega]
theorem tEs_set : ∀ (L : List EntT) (s i : Nat) (e : EntT), tEs (L.set i e) s = (tEs L s).set i (tE1 e (s + i))
 | [],_,_,_=>by simp [tEs]
 | a :: r,s,0,e=>by simp [tEs]
 | a :: r,s,i + 1,e=>by
   simp only [List.set_cons_succ,tEs,tEs_set r (s + 1) i e]
   rw [show s + 1 + i=s + (i + 1) by omega]
theorem tEs_mem {L : List EntT} {x : MapEntry} (h : x ∈ tEs L 0) : ∃ i, i < L.length ∧ x = tE1 (L.getD i e0) i := by
 obtain ⟨i,hi,rfl⟩:=List.getElem_of_mem h
 rw [bwi] at hi
 refine ⟨i,hi,?_⟩
 have:=bwh L 0 i
 rw [List.getElem?_eq_getElem (by rw [bwi];exact hi),List.getElem?_eq_getElem hi] at this
 simp at this
 simp [this,hi]
theorem ck8 : ∀ (L : List EntT) (s : Nat), (tEs L s).map (·.born) = List.range' s L.length
 | [],_=>rfl
 | e :: r,s=>by simp [tEs,tE1,ck8 r (s + 1),List.range'_succ]
def TalAt (w : World) (b : Nat) (L : List EntT) : Prop := w.heap[b]? = some (.map (tEs L 0).toArray L.length)
section
variable {P : Program} {w w' : World} {b r : Nat} {L : List EntT}
theorem TalAt.lt (h : TalAt w b L) : b < w.heap.size := (Array.getElem?_eq_some_iff.1 h).1
theorem TalAt.ext (h : TalAt w b L) (hb : w'.heap[b]? = w.heap[b]?) : TalAt w' b L := hb.trans h
theorem bwj {t k e : TypeId} (ht : P.underlying t = some (.map k e)) (h : TalAt w b L) :
 (Instr.range t (.map (some b))).run P w = .ok (.pointer (some ⟨w.heap.size,0,none⟩)) (w.alloc (.mapIter (some b) L.length #[] L.length)):=by
 simp [Instr.range,run_underlying ht,MapKept.run_getObj_map (P:=P) h]
theorem cqe (ty : TypeId) {idx : List Nat} (hr : w.heap[r]? = some (.mapIter (some b) L.length idx.toArray L.length)) (hb : TalAt w b L) (hne : r ≠ b) :
 ((∀ i,i < L.length→i∈idx)∧(Instr.next (.pointer (some ⟨r,0,none⟩)) false ty).run P w = .ok (.tuple #[.bool false]) w) ∨
 ∃ i w',i < L.length∧i ∉ idx∧(Instr.next (.pointer (some ⟨r,0,none⟩)) false ty).run P w = .ok (.tuple #[.bool true,keyC (L.getD i e0).cell,encA (L.getD i e0)]) w' ∧
  w'.heap[r]? = some (.mapIter (some b) L.length (idx ++ [i]).toArray L.length)∧TalAt w' b L∧w.grownBy w' (some r)∧w'.heap.size=w.heap.size ∧
  (Instr.entry (.pointer (some ⟨r,0,none⟩))).run P w' = .ok (.tuple #[keyC (L.getD i e0).cell,encA (L.getD i e0)]) w':=by
 have hold : ∀ x∈(tEs L 0).toArray.toList,x.born < L.length:=by
  intro x hx
  obtain ⟨i,hi,rfl⟩:=tEs_mem (by simpa using hx)
  exact hi
 rcases run_next_at (P:=P) w ty r b L.length L.length idx.toArray (tEs L 0).toArray L.length hr hb hold (Nat.le_refl _) with ⟨h0,hrun⟩|⟨e,he,w1,hal,hrun⟩
 ·refine .inl ⟨fun i hi=>?_,hrun⟩
  have he : leftOf (tEs L 0).toArray idx.toArray = #[]:=Array.eq_empty_of_size_eq_zero h0
  unfold leftOf at he
  rw [Array.filter_eq_empty_iff] at he
  have hg:=bwh L 0 i
  rw [List.getElem?_eq_getElem hi] at hg
  have hm : tE1 L[i] (0 + i)∈tEs L 0:=List.mem_of_getElem? (by simpa using hg)
  have:=he _ (by simpa using hm)
  simpa [tE1] using this
 ·have hm : e∈tEs L 0∧¬ e.born∈idx:=by
   unfold leftOf at he
   simp at he
   exact he
  obtain ⟨i,hi,rfl⟩:=tEs_mem hm.1
  have hr1 : w1.heap[r]? = some (.mapIter (some b) L.length idx.toArray L.length):=by rcases hal with rfl|rfl<;>exact hr
  have hb1 : w1.heap[b]? = some (.map (tEs L 0).toArray L.length):=by rcases hal with rfl|rfl<;>exact hb
  have hset:=heap_set (o':=.mapIter (some b) L.length (idx.toArray.push i) L.length) hr1
  have hb' : TalAt (setBlock w1 r (.mapIter (some b) L.length (idx.toArray.push i) L.length)) b L:=(hset.2 b (fun e1=>hne e1.symm)).trans hb1
  have hent:=run_entry_at (P:=P) _ r b L.length idx.toArray (tEs L 0).toArray L.length (tE1 (L.getD i e0) i) hset.1 hb' (by simpa using hm.1) (by simp [ck8,List.nodup_range'])
  refine .inr ⟨i,_,hi,hm.2,hrun,?_,hb',?_,?_,hent⟩
  ·have:=hset.1
   rw [show idx.toArray.push i=(idx ++ [i]).toArray by simp] at this
   rw [show (idx ++ [i]).toArray=idx.toArray.push (tE1 (L.getD i e0) i).born by simp [tE1]]
   exact hset.1
  ·rcases hal with rfl|rfl<;>exact ⟨rfl,rfl,rfl,by simp [setBlock],fun j _ hj=>hset.2 j (fun e1=>hj (by rw [e1]))⟩
  ·rcases hal with rfl|rfl<;>simp [setBlock]
variable {F : Fence} {n : Nat} {ops : Array Oper} {rest : List Oper} {o : Oper} {a : Act} {Q : Exit → Act → World → Prop}
theorem bza (hg : o.guard = none) (m : Operand) (t : TypeId) (hop : o.op = Op.range t m) (k e : TypeId) (ht : P.underlying t = some (.map k e)) (hm : a.eval m = .map (some b)) (h : TalAt w b L)
 (hK : wpListIn F n P ops Q rest (a.put o.dst (.pointer (some ⟨w.heap.size,0,none⟩))) (w.alloc (.mapIter (some b) L.length #[] L.length))) : wpListIn F n P ops Q (o :: rest) a w:=by
 refine wpListIn_plain hg fun K' hK'=>?_
 unfold Oper.wpIn
 refine ⟨?_,?_⟩
 ·simp [Oper.about,hop]
 ·rw [Oper.semAt_plain F _ _ (by rw [hop];intro c hc';cases hc')]
  simp [execOp,hop,hm,bwj ht h,Result.andThen]
  exact hK' _ _ hK
theorem bz8 (hg : o.guard = none) (it : Operand) (hop : o.op = Op.next it false) {idx : List Nat} (hit : a.eval it = .pointer (some ⟨r, 0, none⟩)) (hr : w.heap[r]? = some (.mapIter (some b) L.length idx.toArray L.length)) (hb : TalAt w b L) (hne : r ≠ b)
 (hDone : (∀ i,i < L.length→i∈idx)→wpListIn F n P ops Q rest (a.put o.dst (.tuple #[.bool false])) w)
 (hMore : ∀ i w',i < L.length→i ∉ idx→w'.heap[r]? = some (.mapIter (some b) L.length (idx ++ [i]).toArray L.length)→TalAt w' b L→w.grownBy w' (some r)→w'.heap.size=w.heap.size →
  (Instr.entry (.pointer (some ⟨r,0,none⟩))).run P w' = .ok (.tuple #[keyC (L.getD i e0).cell,encA (L.getD i e0)]) w'→wpListIn F n P ops Q rest (a.put o.dst (.tuple #[.bool true,keyC (L.getD i e0).cell,encA (L.getD i e0)])) w') :
 wpListIn F n P ops Q (o :: rest) a w:=by
 refine wpListIn_plain hg fun K' hK'=>?_
 unfold Oper.wpIn
 refine ⟨by simp [Oper.about,hop],?_⟩
 rw [Oper.semAt_plain F _ _ (by rw [hop];intro c hc';cases hc')]
 rcases cqe (P:=P) o.type hr hb hne with ⟨h0,hrun⟩|⟨i,w',h1,h2,hrun,h3,h4,h5,h6,h7⟩
 ·simp [execOp,hop,hit,hrun,Result.andThen]
  exact hK' _ _ (hDone h0)
 ·simp only [execOp,hop,hit,Sem.run_bind,hrun,Result.andThen_ok,Sem.run_pure]
  exact hK' _ _ (hMore i w' h1 h2 h3 h4 h5 h6 h7)
end
theorem cjm {L : List EntT} {idx : List Nat} (hn : idx.Nodup) (hlt : ∀ i ∈ idx, i < L.length) (hall : ∀ i, i < L.length → i ∈ idx) : (idx.map fun i => L.getD i e0).Perm L := by
 have hp : idx.Perm (List.range L.length):=by
  rw [List.perm_ext_iff_of_nodup hn List.nodup_range]
  intro i
  simp
  exact ⟨hlt i,hall i⟩
 have h2:=hp.map fun i=>L.getD i e0
 have e : (List.range L.length).map (fun i=>L.getD i e0)=L:=by
  apply List.ext_getElem
  ·simp
  ·intro i h1 h2
   simp at h1
   simp [h1]
 rwa [e] at h2
end Go.Proofs.YtlnplelandimeaaGreat.En
namespace Go.Proofs.YtlnplelandimeaaGreat.En
open Go.RowKit Go.Shelf Go.Maps Go.MapKept
set_option maxRecDepth 100000 in
set_option maxHeartbeats 1000000 in
theorem cw1 (F : Fence) (n : Nat) (hf : F.fn 185) (hro : F.round = none) (hn : 1 ≤ n) (l Bm b : Nat) (L : List EntT) (J Jx : List EntT → World → Prop)
 (hY : ∀ pre x W,J pre W→pre.length < L.length→YieldAt F (n - 1) Tryz.prog l #[encA x] W fun e W' =>
  (e = .returned (.bool true)∧J (pre ++ [x]) W'∧KeepsWalks W W')∨(e = .returned (.bool false)∧Jx (pre ++ [x]) W'))
 (W : World) (hJ : AbidesFrom W.heap.size J) (hm : W.cell? ⟨Bm,0,none⟩ = some (.map (some b))) (hT : TalAt W b L) (h0 : J [] W) :
 CallsIn F n Tryz.prog 185 #[.func (.yield l) #[] #[],.pointer (some ⟨Bm,0,none⟩)] W fun e W'=>(∃ v,e = .returned v) ∧
  ((∃ xs,xs.Perm L∧J xs W')∨(∃ pre,Jx pre W')):=by
 refine callsIn_of_wp Tryz.func185 rfl hf ?_ hro
 simp only [Tryz.ntmps185,List.size_toArray,List.length_cons,List.length_nil,Nat.reduceAdd,Nat.reduceSub,Array.replicate_succ,Array.replicate_zero,List.push_toArray,List.append_toArray,List.nil_append,List.cons_append]
 gi_wp2_with (first
  | (gi_at_range;refine bza rfl _ 170 rfl 87 89 Tryz.underlying170 rfl hT ?_)
  | gi_in)
 go_frame
 have hbl:=hT.lt
 gi_loopw [4] (fun _ wr=>∃ idx : List Nat,wr.heap[W.heap.size]? = some (.mapIter (some b) L.length idx.toArray L.length)∧TalAt wr b L∧idx.Nodup∧(∀ i∈idx,i < L.length)∧J (idx.map fun i=>L.getD i e0) wr)
  (fun _ wr=>match wr.heap[W.heap.size]? with|some (.mapIter _ _ seen _)=>L.length - seen.size|_=>0)
 case atStart =>
  refine ⟨[],World.alloc_heap_new W _,hT.ext (Below.heap_alloc _ _ b hbl),by simp,by simp,?_⟩
  exact hJ [] W _ none h0 (World.grownBy_alloc W _ none) (fun r e=>by cases e)
 case round =>
  obtain ⟨idx,hr,hTr,hnd,hlt,hJs⟩:=hrel
  gi_wp2_with (first
   | (gi_at_next;refine bz8 rfl _ rfl rfl hr hTr (by omega) ?_ ?_)
   | gi_in)
  ·intro hall
   gi_wp2
   go_end0
   exact ⟨⟨_,rfl⟩,.inl ⟨_,cjm hnd hlt hall,hJs⟩⟩
  ·intro i w2 hi hni hr2 hT2 hg2 hs2 hen
   have hJ2 : J (idx.map fun i=>L.getD i e0) w2:=hJ _ wr w2 (some W.heap.size) hJs hg2 (fun r e=>by cases e;exact ⟨Nat.le_refl _,_,hr,rfl⟩)
   have hlen : idx.length < L.length:=by
    have h1 : (idx ++ [i]).Nodup:=by
     rw [List.nodup_append]
     refine ⟨hnd,by simp,fun a ha b hb=>?_⟩
     simp at hb
     subst hb
     intro e
     exact hni (e ▸ ha)
    have h2 : (idx ++ [i]) ⊆ List.range L.length:=by
     intro j hj
     rcases List.mem_append.1 hj with h|h
     ·simpa using hlt j h
     ·simp at h
      simpa [h] using hi
    have:=h1.length_le_of_subset h2
    simp at this
    omega
   generalize hx : L[i]?.getD e0=x at *
   have hJ3 : J (idx.map fun i=>L.getD i e0) (w2.alloc (.cells #[.int .i64 x.1,.int .i64 x.2.1,.int .i64 x.2.2.1,.int .i64 x.2.2.2] 89)):=hJ _ w2 _ none hJ2 (World.grownBy_alloc w2 _ none) (fun r e=>by cases e)
   obtain ⟨fn,tmps,assign,body,hy,hR⟩:=hY _ x _ hJ3 (by simpa using hlen)
   clear hs2
   gi_wp2
   refine hR.mono ?_
   have hnd2 : (idx ++ [i]).Nodup:=by
    rw [List.nodup_append]
    refine ⟨hnd,by simp,fun a ha b hb=>?_⟩
    simp at hb
    subst hb
    intro e
    exact hni (e ▸ ha)
   have hlt2 : ∀ j∈idx ++ [i],j < L.length:=by
    intro j hj
    rcases List.mem_append.1 hj with h|h
    ·exact hlt j h
    ·simp at h
     rw [h]
     exact hi
   have hmap : (idx ++ [i]).map (fun i=>L.getD i e0)=(idx.map fun i=>L.getD i e0) ++ [x]:=by
    rw [List.map_append]
    simp [hx]
   have hsz:=hg2.size
   have hr3 : (w2.alloc (.cells #[.int .i64 x.1,.int .i64 x.2.1,.int .i64 x.2.2.1,.int .i64 x.2.2.2] 89)).heap[W.heap.size]? = some (.mapIter (some b) L.length (idx ++ [i]).toArray L.length) :=
    (Below.heap_alloc _ _ _ (Array.getElem?_eq_some_iff.1 hr2).1).trans hr2
   have hT3:=hT2.ext (Below.heap_alloc w2 (.cells #[.int .i64 x.1,.int .i64 x.2.1,.int .i64 x.2.2.1,.int .i64 x.2.2.2] 89) b hT2.lt)
   rintro e W3 (⟨rfl,hJ4,hk4⟩|⟨rfl,hJx4⟩)
   ·gi_wp2
    have hr4:=hk4.same _ _ hr3 rfl
    have hT4 : TalAt W3 b L:=hk4.same _ _ hT3 rfl
    go_roundw
    case rel=>exact ⟨idx ++ [i],hr4,hT4,hnd2,hlt2,by rw [hmap];exact hJ4⟩
    case measure =>
     rw [hr4,hr]
     simp
     omega
   ·gi_wp2
    refine bodyPost_ret (results_none rfl _ _ _) rfl ?_
    exact ⟨⟨_,rfl⟩,.inr ⟨_,hJx4⟩⟩
theorem cqf (F : Fence) (n : Nat) (hf : F.fn 185) (hro : F.round = none) (hn : 1 ≤ n) (Bm b : Nat) (L : List EntT) (w : World) (hBm : Bm < w.heap.size)
 (hm : w.cell? ⟨Bm,0,none⟩ = some (.map (some b))) (hT : TalAt w b L) :
 SeqStopsK F n Tryz.prog 185 #[.pointer (some ⟨Bm,0,none⟩)] (fun x : EntT=>#[encA x]) KeepsWalks (fun xs=>xs.Perm L) (fun _=>True) L.length w:=fun l J Jx W hW hJ _ hY h0=>by
 refine (cw1 F n hf hro hn l Bm b L J Jx hY W hJ ((hW.cell (p:=⟨Bm,0,none⟩) hBm).trans hm) (hT.ext (hW.block b hT.lt)) h0).mono ?_
 rintro e W' ⟨h1,h2|⟨pre,h2⟩⟩
 ·exact ⟨h1,.inl h2⟩
 ·exact ⟨h1,.inr ⟨pre,trivial,h2⟩⟩
end Go.Proofs.YtlnplelandimeaaGreat.En
namespace Go.Proofs.YtlnplelandimeaaGreat.En
open Go.RowKit Go.Shelf Go.Maps Go.MapKept
attribute [local go_sem] Oper.semAt_some
theorem cells_new (w : World) (xs : List Value) (t : TypeId) : ∀ j u, xs[j]? = some u → (w.alloc (.cells xs.toArray t)).cell? ((⟨w.heap.size, 0, none⟩ : Addr).add j) = some u := by
 intro j u hj
 have e : ((⟨w.heap.size,0,none⟩ : Addr).add j) = ⟨w.heap.size,j,none⟩:=by
  unfold Addr.add
  split
  ·rename_i h
   rw [h]
  ·simp
 rw [e]
 unfold World.cell?
 rw [World.alloc_heap_new]
 simpa using hj
theorem infoE : (Tryz.prog.info? 89).map (fun i => (i.zero, i.size, i.bytes)) = some (some (.agg #[.int .i64 0, .int .i64 0, .int .i64 0, .int .i64 0]), 4, 32) := by kernel_rfl
def colI (w : World) (B : Nat) (pre : List EntT) (W : World) : Prop :=
 (∃ v,Boxed W B 44 v∧W.ownsRow w.heap.size 89 4 v pre.length ((pre.map encE).flatten)∧(v = .slice none 0 0↔pre=[]))∧Below w.heap.size w W
set_option maxRecDepth 100000 in
set_option maxHeartbeats 2000000 in
theorem cqg (F : Fence) (n : Nat) (hf : F.fn 184) (hro : F.round = none) (hn : 3 ≤ n) (g : Nat) (lb : Array Value) (hFg : F.fn g) (eg : ∀ args w, (callFunc g args).run Tryz.prog w = .ok (.enter g args) w)
 (S Sp : List EntT→Prop) (N : Nat) (hN : N≤1000000000) (w : World) (hseq : SeqStopsK F (n - 1) Tryz.prog g lb (fun x : EntT=>#[encA x]) KeepsWalks S Sp N w) :
 CallsIn F n Tryz.prog 184 #[.slice none 0 0,.func (.func g) #[] lb] w fun e w'=>∃ (v : Value) (ys : List EntT),e = .returned v∧S ys∧w'.ownsRow w.heap.size 89 4 v ys.length ((ys.map encE).flatten)∧(v = .slice none 0 0↔ys=[])∧Below w.heap.size w w':=by
 have h1 : 1≤n:=by omega
 obtain ⟨i0,hi,hz0,hz1,hz2⟩:=info_parts infoE
 refine callsIn_of_wp_marks Tryz.func184 rfl hf ?_ hro
 simp only [Tryz.ntmps184,List.size_toArray,List.length_cons,List.length_nil,Nat.reduceAdd,Nat.reduceSub,Array.replicate_succ,Array.replicate_zero,List.push_toArray,List.append_toArray,List.nil_append,List.cons_append]
 gi_wp2
 obtain ⟨W0,hW0⟩ : ∃ W0,w.alloc (.cells #[.slice none 0 0] 44)=W0:=⟨_,rfl⟩
 have hs0 : W0.heap.size=w.heap.size + 1:=by rw [← hW0];simp
 have hv0 : Boxed W0 w.heap.size 44 (.slice none 0 0):=by rw [← hW0];exact Boxed.new w _ _
 have hb0 : Below w.heap.size w W0:=by rw [← hW0];exact (Below.refl _ w).alloc (Nat.le_refl _) _
 rw [hW0]
 refine wpIn_rangeFunc_ownH hro h1 (gf:=g) (lb:=lb) rfl hFg eg hseq walksK_t walksK_b hb0 (fun _=>rfl) (colI w w.heap.size) (fun _ _ _=>False) ?hI (fun c s A B row h _ _=>h.elim) ?h0
  (fun x a' W=>∃ Bx,w.heap.size < Bx∧W.heap[Bx]? = some (.cells (encE x).toArray 89 (0,0))∧a' = { tmps:=#[.slice none 0 0,.func (.func g) #[] lb,.pointer (some ⟨w.heap.size,0,none⟩),undef,.slice none 0 0,.pointer (some ⟨Bx,0,none⟩),.func (.func g) #[] lb,encA x,undef,undef,undef,undef,undef],defers:=[] }) ?hAx ?assign ?body ?done ?stop
 case hI=>exact OwnFrom.and (Own.from (holdsRow_own w.heap.size w.heap.size 44 89 4 (fun pre : List EntT=>pre.length) (fun pre=>(pre.map encE).flatten) (fun pre v=>v = .slice none 0 0↔pre=[])) _) (ownFrom_below (Nat.le_refl _) (by omega))
 case h0 =>
  exact ⟨⟨_,hv0,World.ownsRow_nil _ _ _ _,by simp⟩,hb0⟩
 case hAx =>
  rintro x a' _ A B row ⟨Bx,h2,h3,h4⟩ hg hr
  refine ⟨Bx,h2,(hg.block Bx (Array.getElem?_eq_some_iff.1 h3).1 fun e=>?_).trans h3,h4⟩
  obtain ⟨_,o,ho,hc⟩:=hr Bx e.symm
  rw [h3] at ho
  cases ho
  cases hc
 case assign =>
  intro l pre x W K hi hK
  gi_wp2
  have hlt:=hi.1.elim fun v h=>h.1.lt
  refine hK _ _ ((KeepsOthers.alloc _ _).from _) (KeepsWalks.alloc _ _) ?_ ⟨W.heap.size,hlt,World.alloc_heap_new _ _,rfl⟩
  obtain ⟨⟨v,hv,hrow,hnil⟩,hB⟩:=hi
  exact ⟨⟨v,hv.alloc _,hrow.alloc _,hnil⟩,hB.alloc hB.size _⟩
 case body =>
  rintro l pre x a' W hl ⟨r,hr⟩ ⟨⟨v,hv,hrow,hnil⟩,hB⟩ ⟨Bx,hBx,hbx,rfl⟩ hlen
  have hc:=hv.cell
  have hf:=hv.frozen
  have hle:=hB.size
  have hBl:=hv.lt
  have c0 : W.cell? ⟨Bx,0,none⟩ = some (.int .i64 x.1):=by simp [World.cell?,hbx,encE]
  have c1 : W.cell? ⟨Bx,1,none⟩ = some (.int .i64 x.2.1):=by simp [World.cell?,hbx,encE]
  have c2 : W.cell? ⟨Bx,2,none⟩ = some (.int .i64 x.2.2.1):=by simp [World.cell?,hbx,encE]
  have c3 : W.cell? ⟨Bx,3,none⟩ = some (.int .i64 x.2.2.2):=by simp [World.cell?,hbx,encE]
  have hxl : Bx < W.heap.size:=(Array.getElem?_eq_some_iff.1 hbx).1
  gi_wp2_with (first
   | (gi_at_builtin;refine wpListIn_append_own _ rfl _ _ 44 rfl w.heap.size 89 i0 _ 4 32 Tryz.underlying44 hi hz0 hz1 hz2 rfl (by decide) _ _ _ rfl (hrow.alloc _) ⟨W.heap.size,0,none⟩ 1 1 (encE x) rfl rfl (cells_new _ _ _) ?_ (by unfold maxLen;omega) (by omega) (by have:=hB.size;simp;omega) ?_;(focus (intro u hu;simp [encE] at hu;rcases hu with rfl|rfl|rfl|rfl<;>rfl));intro v' w1 hown' hgrow _;obtain ⟨g',cap',rfl⟩:=ownsRow_succ hown';obtain ⟨hv1,hv2,hr2,hk2,hb2⟩:=hv.appended (by decide) hrow hB.size (Nat.le_refl _) hown' hgrow;have hc1:=hv1.cell;have hf1:=hv1.frozen)
   | gi_in)
  refine ⟨hk2.from _,⟨hk2.size,fun k o hk ho=>hk2.same k o hk (Obj.not_cells_of_walk ho)⟩,⟨_,hv2,?_,by simp⟩,hB.trans hb2⟩
  simpa using hr2
 case done =>
  rintro D ys W hD hS ⟨⟨v,hv,hrow,hnil⟩,hB⟩ hK
  have hc:=hv.cell
  have hf:=hv.frozen
  have hBl:=hv.lt
  gi_wp2
  refine ⟨by simp,.inl ⟨_,_,rfl,run_takeDeferred hK,?_⟩⟩
  exact ⟨_,results_tmp rfl _ _ _,v,ys,rfl,hS,ownsRow_putObj hrow _ hK rfl,hnil,hB.trans (belowK_b (w:=w) (Nat.le_refl _) W D _ _ (by omega) hK rfl rfl)⟩
 case stop =>
  intro D c pre W _ _ h
  exact h.elim
set_option maxHeartbeats 1000000 in
theorem cw2 (F : Fence) (n : Nat) (hf : F.fn 161) (hf2 : F.fn 184) (hro : F.round = none) (hn : 4 ≤ n) (g : Nat) (lb : Array Value) (hFg : F.fn g) (eg : ∀ args w, (callFunc g args).run Tryz.prog w = .ok (.enter g args) w)
 (S Sp : List EntT→Prop) (N : Nat) (hN : N≤1000000000) (w : World) (hseq : SeqStopsK F (n - 1 - 1) Tryz.prog g lb (fun x : EntT=>#[encA x]) KeepsWalks S Sp N w) :
 CallsIn F n Tryz.prog 161 #[.func (.func g) #[] lb] w fun e w'=>∃ (v : Value) (ys : List EntT),e = .returned v∧S ys∧w'.ownsRow w.heap.size 89 4 v ys.length ((ys.map encE).flatten)∧(v = .slice none 0 0↔ys=[])∧Below w.heap.size w w':=by
 have h1 : 1≤n:=by omega
 refine callsIn_of_wp Tryz.func161 rfl hf ?_ hro
 simp only [Tryz.ntmps161,List.size_toArray,List.length_cons,List.length_nil,Nat.reduceAdd,Nat.reduceSub,Array.replicate_succ,Array.replicate_zero,List.push_toArray,List.append_toArray,List.nil_append,List.cons_append]
 gi_wp2_with (gi_at_call 184;refine (cqg F (n - 1) hf2 hro (by omega) g lb hFg eg S Sp N hN _ hseq).mono ?_;rintro e w' ⟨v,ys,rfl,hS,hrow,hnil,hb⟩)
 go_ret
 exact ⟨v,ys,rfl,hS,hrow,hnil,hb⟩
theorem cjn (Bm b : Nat) (L : List EntT) (hL : L.length ≤ 1000000000) (w : World) (hBm : Bm < w.heap.size) (hm : w.cell? ⟨Bm, 0, none⟩ = some (.map (some b))) (hT : TalAt w b L) :
 Calls Tryz.prog 161 #[.func (.func 185) #[] #[.pointer (some ⟨Bm,0,none⟩)]] w fun e w' =>
  ∃ (v : Value) (ys : List EntT),e = .returned v∧ys.Perm L∧w'.ownsRow w.heap.size 89 4 v ys.length ((ys.map encE).flatten)∧(v = .slice none 0 0↔ys=[])∧Below w.heap.size w w' :=
 callsIn_wide.1 (cw2 Fence.wide 9 trivial trivial rfl (by decide) _ _ trivial (enters_of Tryz.func185 (by kernel_rfl) rfl) (fun xs=>xs.Perm L) (fun _=>True) L.length hL w (cqf Fence.wide _ trivial rfl (by decide) Bm b L w hBm hm hT))
end Go.Proofs.YtlnplelandimeaaGreat.En
namespace Go.Proofs.YtlnplelandimeaaGreat.En
open Go.RowKit Go.MapKept
open Go.ChangeMaps (setBlock)
set_option maxRecDepth 100000
def talO (b : Nat) (L : List EntT) : OB := .res fun w F => TalAt w b L ∧ ∀ i, F i ↔ i = b
theorem talO_mk {w : World} {b : Nat} {L : List EntT} (h : TalAt w b L) {σ : Nat → Nat} {n q : Nat} {F : Nat → Prop} (hF : ∀ i, F i ↔ i = b) : (talO b L).at σ n w q F :=
 ⟨⟨h,hF⟩,fun w' hw=>⟨h.ext (hw b ((hF b).2 rfl)),hF⟩⟩
theorem cjo {C : Ctx} {σ : Nat → Nat} {fp : Nat → Nat → Prop} {ob : List OB} {w : World} {j b : Nat} {L : List EntT} (hm : Mem C σ fp ob w) (h : nth ob j = some (talO b L)) : TalAt w b L ∧ (∀ i, fp j i ↔ i = b) ∧ j < ob.length := by
 rw [aq4] at h
 have:=hm.at_ j _ h
 exact ⟨this.1.1,this.1.2,(List.getElem?_eq_some_iff.1 h).1⟩
def idxT (L : List EntT) (c : azx) : Option Nat := L.findIdx? fun e => decide (e.cell = c)
def getT (L : List EntT) (c : azx) : EntT := match idxT L c with
 | some i=>L.getD i e0
 | none=>e0
def setT (L : List EntT) (e : EntT) : List EntT := match idxT L e.cell with
 | some i=>L.set i e
 | none=>L ++ [e]
theorem cw3 (a b : azx) (w : World) : (Op.equal 87 (keyC a) (keyC b)).run Tryz.prog w = .ok (decide (b = a)) w := by
 have h:=(aza 87 _ rfl).2.eq (fun _=>0) [I a.1,I a.2] [I b.1,I b.2] _ rfl w
 have e : (a.1 == b.1 && (a.2 == b.2 && true))=decide (b=a):=by
  rw [Bool.eq_iff_iff]
  simp only [Bool.and_true,Bool.and_eq_true,beq_iff_eq,decide_eq_true_eq]
  constructor
  ·rintro ⟨h1,h2⟩
   exact Prod.ext h1.symm h2.symm
  ·rintro rfl
   exact ⟨rfl,rfl⟩
 rw [e] at h
 exact h
theorem bkx (a : azx) (x : Bool) (w : World) : (Instr.checkKey x 10000 87 (keyC a)).run Tryz.prog w = .ok () w := by kernel_rfl
theorem awh (c : azx) (w : World) : ∀ (L : List EntT) (s i : Nat), (Instr.findAsking 87 (keyC c) (tEs L s) i).run Tryz.prog w = .ok ((idxT L c).map fun k => (i + k, encA (L.getD k e0))) w
 | [],s,i=>by simp [tEs,Instr.findAsking,idxT]
 | e :: r,s,i=>by
   have ih:=awh c w r (s + 1) (i + 1)
   have hs : Instr.findAsking 87 (keyC c) (tEs (e :: r) s) i=(do if ← Op.equal 87 (keyC c) (keyC e.cell) then pure (some (i,encA e)) else Instr.findAsking 87 (keyC c) (tEs r (s + 1)) (i + 1)):=rfl
   rw [hs,Sem.run_bind,cw3,Result.andThen_ok]
   cases h : decide (e.cell=c) with
   | true=>simp [idxT,List.findIdx?_cons,h]
   | false =>
     simp only [Bool.false_eq_true,if_false]
     rw [ih]
     unfold idxT
     rw [List.findIdx?_cons,h]
     simp only [Bool.false_eq_true,if_false]
     cases List.findIdx? (fun e=>decide (e.cell=c)) r with
     | none=>rfl
     | some k=>simp [Nat.add_assoc,Nat.add_comm 1 k]
theorem bzb (c : azx) (L : List EntT) (w : World) : (Instr.findKey 87 (keyC c) (tEs L 0)).run Tryz.prog w = .ok ((idxT L c).map fun k => (k, encA (L.getD k e0))) w := by
 unfold Instr.findKey
 simp only [Sem.run_bind,run_underlying Tryz.underlying87,Result.andThen_ok]
 cases L with
 | nil=>simp [tEs,Instr.findNow,idxT]
 | cons e r =>
   have:=awh c w (e :: r) 0 0
   simp only [Nat.zero_add] at this
   simp only [tEs,tE1,Instr.findNow,Instr.sameNow]
   simpa [tEs,tE1] using this
theorem bx7 {L : List EntT} {c : azx} {i : Nat} (h : idxT L c = some i) : i < L.length ∧ (L.getD i e0).cell = c := by
 unfold idxT at h
 rw [List.findIdx?_eq_some_iff_getElem] at h
 obtain ⟨h1,h2,_⟩:=h
 refine ⟨h1,?_⟩
 simpa [h1] using h2
theorem cqh {w : World} {b : Nat} {L : List EntT} (h : TalAt w b L) (c : azx) :
 (Instr.lookup 170 (.map (some b)) (keyC c) false).run Tryz.prog w = .ok (encA (getT L c)) w:=by
 have hgo:=MapKept.run_getObj_map (P:=Tryz.prog) h
 have hz : (zeroValue 89).run Tryz.prog w = .ok (encA e0) w:=by kernel_rfl
 simp only [Instr.lookup,Sem.run_bind,run_underlying Tryz.underlying170,Result.andThen_ok,hgo,Sem.run_pure,bkx,bzb]
 unfold getT
 cases idxT L c with
 | none=>simp [hz]
 | some i=>simp
theorem cqi (c : azx) : Instr.sameBits 10000 (keyC c) (keyC c) = true := by
 simp [Instr.sameBits]
theorem cqj {w : World} {b : Nat} {L : List EntT} (h : TalAt w b L) (e : EntT) :
 (Instr.mapUpdate 170 (.map (some b)) (keyC e.cell) (encA e)).run Tryz.prog w = .ok () (setBlock w b (.map (tEs (setT L e) 0).toArray (setT L e).length)):=by
 have hgo:=MapKept.run_getObj_map (P:=Tryz.prog) h
 have hso:=fun o=>MapKept.run_setObj_map (P:=Tryz.prog) o h
 simp only [Instr.mapUpdate,Sem.run_bind,run_underlying Tryz.underlying170,Result.andThen_ok,hgo,bkx,bzb]
 cases hi : idxT L e.cell with
 | none =>
   simp only [Option.map_none,hso,setBlock]
   simp only [setT,hi,bkw,List.length_append]
   simp [tEs,tE1]
 | some i =>
   obtain ⟨hlt,hc⟩:=bx7 hi
   have hg:=bwh L 0 i
   rw [List.getElem?_eq_getElem hlt] at hg
   have hLi : L.getD i e0=L[i]:=by simp [hlt]
   rw [hLi] at hc
   have hkey : (((tEs L 0).toArray[i]?).map (·.key)).getD (keyC e.cell)=keyC e.cell:=by
    simp only [List.getElem?_toArray,hg]
    simp [tE1,hc]
   simp only [Option.map_some,Sem.run_bind,hkey,Instr.keyThatStays,cqi,if_true,Sem.run_pure,Result.andThen_ok,hso,setBlock]
   simp only [setT,hi,tEs_set,List.length_set]
   congr 5
   apply Array.ext_getElem?
   intro j
   rw [Array.getElem?_modify]
   simp only [List.getElem?_toArray,List.getElem?_set,bwi,hlt,if_true,Nat.zero_add]
   by_cases hj : i=j
   ·subst hj
    simp [hg,tE1]
   ·simp [hj]
section
variable {C : Ctx} {ob : List OB}
theorem cqk {o : Oper} {t : TypeId} {k : SV → List OB → Prop} (ho : o.op = .makeMap t none) (hk : ∀ b, aqb (ob ++ [talO b []]) fun ob => k (.v (.map (some b))) ob) : OpX C o [] ob k := by
 unfold OpX
 intro σ fp w ρ hm hx
 have hex : (execOp ρ o).run C.P w = .ok (.value (.map (some w.heap.size))) (w.alloc (.map #[] 0)):=by
  simp [execOp,ho,Instr.makeMap,run_newObj_alloc]
 rw [hex]
 have hT : TalAt (w.alloc (.map #[] 0)) w.heap.size []:=World.alloc_heap_new w _
 have hb : Below w.heap.size w (w.alloc (.map #[] 0)):=(Below.refl _ w).alloc (Nat.le_refl _) _
 have hk:=hk w.heap.size
 rw [azu] at hk
 refine ⟨.v (.map (some w.heap.size)),_,_,_,hk,fun j hj=>by simp [show j ≠ ob.length by omega],by simp,rfl,trivial,hm.pushO hb (talO w.heap.size []) 0 (fun i=>i=w.heap.size) (talO_mk hT fun i=>Iff.rfl) (fun i hi=>by subst hi;simp) (fun _=>Nat.le_refl _),Frm.pushed hb (by simp) fun i hi=>by omega⟩
theorem cw4 {o : Oper} {x y : Operand} {b : Nat} {L : List EntT} {c : azx} {k : SV → Prop} (j : Nat) (hP : C.P = Tryz.prog) (ho : o.op = .lookup 170 x y false) (hj : nth ob j = some (talO b L))
 (hk : k (.a [I (getT L c).1,I (getT L c).2.1,I (getT L c).2.2.1,I (getT L c).2.2.2])) : ValX C o [.v (.map (some b)),.a [I c.1,I c.2]] ob k:=by
 unfold ValX
 intro σ fp w ρ hm hx
 obtain ⟨hT,_⟩:=cjo hm hj
 rw [ho] at hx
 simp [Op.operands,SV.vals,SV.val] at hx
 refine ⟨_,hk,?_,by simp [SV.wf,SV.wfs]⟩
 have:=cqh hT c
 rw [hP]
 simp only [execOp,ho,hx.1,hx.2,Sem.run_bind,this,Result.andThen_ok,Sem.run_pure]
 rfl
theorem OpX_updT {o : Oper} {x y z : Operand} {b : Nat} {L : List EntT} {e : EntT} {k : SV → List OB → Prop} (j : Nat) (hP : C.P = Tryz.prog) (ho : o.op = .mapUpdate 170 x y z) (hj : nth ob j = some (talO b L))
 (hk : aqb (setN ob j (talO b (setT L e))) fun ob=>k (.v undef) ob) : OpX C o [.v (.map (some b)),.a [I e.1,I e.2.1],.a [I e.1,I e.2.1,I e.2.2.1,I e.2.2.2]] ob k:=by
 unfold OpX
 intro σ fp w ρ hm hx
 obtain ⟨hT,hF,hjl⟩:=cjo hm hj
 rw [ho] at hx
 simp [Op.operands,SV.vals,SV.val] at hx
 have hu:=cqj hT e
 have hex : (execOp ρ o).run C.P w = .ok .skip (setBlock w b (.map (tEs (setT L e) 0).toArray (setT L e).length)):=by
  rw [hP]
  simp only [execOp,ho,hx.1,hx.2.1,hx.2.2,Sem.run_bind]
  have hu' : (Instr.mapUpdate 170 (.map (some b)) (.agg #[.int .i64 e.1,.int .i64 e.2.1]) (.agg #[.int .i64 e.1,.int .i64 e.2.1,.int .i64 e.2.2.1,.int .i64 e.2.2.2])).run Tryz.prog w = .ok () (setBlock w b (.map (tEs (setT L e) 0).toArray (setT L e).length)):=hu
  rw [hu']
  rfl
 rw [hex]
 have hset:=heap_set (o':=.map (tEs (setT L e) 0).toArray (setT L e).length) hT
 have hT' : TalAt (setBlock w b (.map (tEs (setT L e) 0).toArray (setT L e).length)) b (setT L e):=hset.1
 have hsz : (setBlock w b (.map (tEs (setT L e) 0).toArray (setT L e).length)).heap.size=w.heap.size:=by simp [setBlock]
 have hsame : ∀ q,q < w.heap.size→¬ fp j q→(setBlock w b (.map (tEs (setT L e) 0).toArray (setT L e).length)).heap[q]? = w.heap[q]?:=by
  intro q hq hnq
  exact hset.2 q fun e'=>hnq ((hF q).2 e')
 have hM:=hm.change (w':=setBlock w b (.map (tEs (setT L e) 0).toArray (setT L e).length)) hjl (talO b (setT L e)) (fp j) (talO_mk hT' hF) (fun i hi=>.inl hi) (by
  intro q hq
  have:=hm.hi j hjl q hq
  rw [hsz]
  exact this) rfl rfl rfl (by rw [hsz];exact Nat.le_refl _) hsame (fun _=>Nat.le_refl _)
 rw [azu,aqm] at hk
 exact ⟨.v undef,_,σ,_,hk,fun _ _=>rfl,by simp,rfl,trivial,hM,Frm.changed hjl (by simp) (fun i hi=>.inl hi) (by rw [hsz];exact Nat.le_refl _) hsame⟩
theorem bwk {k : SV → List OB → Prop} {b : Nat} {L : List EntT} {j q : Nat} (hP : C.P = Tryz.prog) (hj : nth ob j = some (.box 170 [.v (.map (some b))])) (hq : nth ob q = some (talO b L)) (hL : L.length ≤ 1000000000)
 (hk : ∀ (ys : List EntT) (A : Option Addr) (c : Nat),ys.Perm L→ys.length≤c→aqb (ob ++ [.row 89 4 A ys.length c (ys.map encE)]) fun ob=>k (.v (.slice A ys.length c)) ob) (hd : C.d=false:=by rfl) :
 aqy C 161 [.fn 185 [.p j 0]] ob k:=by
 unfold aqy
 rw [hP]
 refine ⟨Entr.of Tryz.func161 rfl rfl,fun σ fp w hm=>?_⟩
 obtain ⟨hT,_,_⟩:=cjo hm hq
 obtain ⟨hb,_,_,_⟩:=bvx hm hj
 have hlt : σ j < w.heap.size:=(Array.getElem?_eq_some_iff.1 hb).1
 have hc : w.cell? ⟨σ j,0,none⟩ = some (.map (some b)):=by
  unfold World.cell?
  rw [hb]
  rfl
 refine (cjn (σ j) b L hL w hlt hc hT).mono ?_
 rintro e w' ⟨v,ys,rfl,hp,hown,_,hbl⟩
 obtain ⟨A,c,rfl⟩:=awy (czy hown (Nat.zero_le _))
 refine ⟨_,rfl,Goes.pushRow hm hbl hown (by simp) (fun x hx=>?_) (fun x hx=>?_) (.v (.slice A ys.length c)) (fun _=>rfl) trivial ?_ (fun h=>by rw [hd] at h;cases h)⟩
 ·obtain ⟨e,_,rfl⟩:=List.mem_map.1 hx
  rfl
 ·obtain ⟨l,hl,hx⟩:=List.mem_flatten.1 hx
  obtain ⟨e,_,rfl⟩:=List.mem_map.1 hl
  simp [encE] at hx
  rcases hx with rfl|rfl|rfl|rfl<;>rfl
 ·have hlc : ys.length≤c:=by
   rcases hown.2 with ⟨h,h0⟩|⟨g,cap,cur,h,_,_,h1,_⟩
   ·omega
   ·simp at h
    omega
  have:=hk ys A c hp hlc
  rwa [azu] at this
end
end Go.Proofs.YtlnplelandimeaaGreat.En
end
