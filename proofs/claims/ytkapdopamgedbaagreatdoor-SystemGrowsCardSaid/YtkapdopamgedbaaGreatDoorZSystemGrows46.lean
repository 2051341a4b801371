import Derived.Test.YtkapdopamgedbaaGreatDoorZSystemGrows30
import Derived.Maps.RangeRun
import Derived.Sort.MapsRangeIn
import Derived.RangeFuncNested
import Derived.RangeFuncBound
import Derived.RangeFuncLeaves
import Derived.Maps.AppendAt
import Derived.WalkKit
import Derived.OwnWalkIn
import Derived.TacticsInMore
import Derived.RegionIn
import Derived.LoopNIn
import Derived.LoopIn
import Derived.Shelf.Abstract
import Derived.Shelf.AbstractIn
import Derived.Test.YtkapdopamgedbaaGreatDoorZSystemGrows19
import Derived.Test.YtkapdopamgedbaaGreatDoorZSystemGrows38
import Derived.Test.YtkapdopamgedbaaGreatDoorZSystemGrows45
import Derived.Test.YtkapdopamgedbaaGreatDoorZSystemGrows44
set_option linter.all false
section
namespace Go.Proofs.YtkapdopamgedbaaGreatDoor.V
open Go.RowKit Go.Shelf Go.Maps Go.MapKept
open Go.ChangeMaps (setBlock)
abbrev d0 : Cell × Value := (⟨0, 0⟩, undef)
abbrev kM (L : List (Cell × Value)) (i : Nat) : Cell := (L.getD i d0).1
abbrev eM (L : List (Cell × Value)) (i : Nat) : MapEntry := { key := keC (kM L i), val := (L.getD i d0).2, born := i }
theorem mE_mem {L : List (Cell × Value)} {x : MapEntry} (h : x ∈ mE keC L 0) : ∃ i, i < L.length ∧ x = eM L i := by
 obtain ⟨i,hi,rfl⟩:=List.mem_iff_getElem.1 h
 rw [mE_len] at hi
 refine ⟨i,hi,?_⟩
 have:=mE_get (ke:=keC) L 0 i
 rw [List.getElem?_eq_getElem (by rw [mE_len];exact hi),List.getElem?_eq_getElem hi] at this
 simp at this
 simp [this,kM,hi]
theorem mE_born : ∀ (L : List (Cell × Value)) (s : Nat), (mE keC L s).map (·.born) = List.range' s L.length
 | [],_=>rfl
 | e :: r,s=>by simp [mE,mE_born r (s + 1),List.range'_succ]
section
variable {P : Program} {w w' : World} {b r : Nat} {L : List (Cell × Value)}
theorem MapAt.lt (h : MapAt keC w b L) : b < w.heap.size := (Array.getElem?_eq_some_iff.1 h).1
theorem run_range_key {t k e : TypeId} (ht : P.underlying t = some (.map k e)) (h : MapAt keC w b L) :
 (Instr.range t (.map (some b))).run P w = .ok (.pointer (some ⟨w.heap.size,0,none⟩)) (w.alloc (.mapIter (some b) L.length #[] L.length)):=by
 have h : w.heap[b]? = some (.map (mE keC L 0).toArray L.length):=h
 simp [Instr.range,run_underlying ht,MapKept.run_getObj_map (P:=P) h,mE_len]
theorem run_next_key (ty : TypeId) {idx : List Nat} (hr : w.heap[r]? = some (.mapIter (some b) L.length idx.toArray L.length)) (hb : MapAt keC w b L) (hne : r ≠ b) :
 ((∀ i,i < L.length→i∈idx)∧(Instr.next (.pointer (some ⟨r,0,none⟩)) false ty).run P w = .ok (.tuple #[.bool false]) w) ∨
 ∃ i w',i < L.length∧i ∉ idx∧(Instr.next (.pointer (some ⟨r,0,none⟩)) false ty).run P w = .ok (.tuple #[.bool true,keC (kM L i),(L.getD i d0).2]) w' ∧
  w'.heap[r]? = some (.mapIter (some b) L.length (idx ++ [i]).toArray L.length)∧MapAt keC w' b L∧w.grownBy w' (some r)∧w'.heap.size=w.heap.size ∧
  (Instr.entry (.pointer (some ⟨r,0,none⟩))).run P w' = .ok (.tuple #[keC (kM L i),(L.getD i d0).2]) w':=by
 have hold : ∀ x∈(mE keC L 0).toArray.toList,x.born < L.length:=by
  intro x hx
  obtain ⟨i,hi,rfl⟩:=mE_mem (by simpa using hx)
  exact hi
 rcases run_next_at (P:=P) w ty r b L.length L.length idx.toArray (mE keC L 0).toArray L.length hr hb hold (Nat.le_refl _) with ⟨h0,hrun⟩|⟨e,he,w1,hal,hrun⟩
 ·refine .inl ⟨fun i hi=>?_,hrun⟩
  have he : leftOf (mE keC L 0).toArray idx.toArray = #[]:=Array.eq_empty_of_size_eq_zero h0
  unfold leftOf at he
  rw [Array.filter_eq_empty_iff] at he
  have hg:=mE_get (ke:=keC) L 0 i
  rw [List.getElem?_eq_getElem hi] at hg
  have hm:=List.mem_of_getElem? hg
  have:=he _ (by simpa using hm)
  simpa using this
 ·have hm : e∈mE keC L 0∧¬ e.born∈idx:=by
   unfold leftOf at he
   simp at he
   exact he
  obtain ⟨i,hi,rfl⟩:=mE_mem hm.1
  have hr1 : w1.heap[r]? = some (.mapIter (some b) L.length idx.toArray L.length):=by rcases hal with rfl|rfl<;>exact hr
  have hb1 : w1.heap[b]? = some (.map (mE keC L 0).toArray L.length):=by rcases hal with rfl|rfl<;>exact hb
  have hset:=heap_set (o':=.mapIter (some b) L.length (idx.toArray.push i) L.length) hr1
  have hb' : MapAt keC (setBlock w1 r (.mapIter (some b) L.length (idx.toArray.push i) L.length)) b L:=(hset.2 b (fun e1=>hne e1.symm)).trans hb1
  have hent:=run_entry_at (P:=P) _ r b L.length idx.toArray (mE keC L 0).toArray L.length (eM L i) hset.1 hb' (by simpa using hm.1) (by simp [mE_born,List.nodup_range'])
  refine .inr ⟨i,_,hi,hm.2,hrun,?_,hb',?_,?_,hent⟩
  ·have:=hset.1
   rw [show idx.toArray.push i=(idx ++ [i]).toArray by simp] at this
   rw [show (idx ++ [i]).toArray=idx.toArray.push (eM L i).born by simp]
   exact hset.1
  ·rcases hal with rfl|rfl<;>exact ⟨rfl,rfl,rfl,by simp [setBlock],fun j _ hj=>hset.2 j (fun e1=>hj (by rw [e1]))⟩
  ·rcases hal with rfl|rfl<;>simp [setBlock]
variable {F : Fence} {n : Nat} {ops : Array Oper} {rest : List Oper} {o : Oper} {a : Act} {Q : Exit → Act → World → Prop}
theorem wpListIn_range_key (hg : o.guard = none) (m : Operand) (t : TypeId) (hop : o.op = Op.range t m) (k e : TypeId) (ht : P.underlying t = some (.map k e)) (hm : a.eval m = .map (some b)) (h : MapAt keC w b L)
 (hK : wpListIn F n P ops Q rest (a.put o.dst (.pointer (some ⟨w.heap.size,0,none⟩))) (w.alloc (.mapIter (some b) L.length #[] L.length))) : wpListIn F n P ops Q (o :: rest) a w:=by
 refine wpListIn_plain hg fun K' hK'=>?_
 unfold Oper.wpIn
 refine ⟨?_,?_⟩
 ·simp [Oper.about,hop]
 ·rw [Oper.semAt_plain F _ _ (by rw [hop];intro c hc';cases hc')]
  simp [execOp,hop,hm,run_range_key ht h,Result.andThen]
  exact hK' _ _ hK
theorem wpListIn_next_key (hg : o.guard = none) (it : Operand) (hop : o.op = Op.next it false) {idx : List Nat} (hit : a.eval it = .pointer (some ⟨r, 0, none⟩)) (hr : w.heap[r]? = some (.mapIter (some b) L.length idx.toArray L.length)) (hb : MapAt keC w b L) (hne : r ≠ b)
 (hDone : (∀ i,i < L.length→i∈idx)→wpListIn F n P ops Q rest (a.put o.dst (.tuple #[.bool false])) w)
 (hMore : ∀ i w',i < L.length→i ∉ idx→w'.heap[r]? = some (.mapIter (some b) L.length (idx ++ [i]).toArray L.length)→MapAt keC w' b L→w.grownBy w' (some r)→w'.heap.size=w.heap.size →
  (Instr.entry (.pointer (some ⟨r,0,none⟩))).run P w' = .ok (.tuple #[keC (kM L i),(L.getD i d0).2]) w'→wpListIn F n P ops Q rest (a.put o.dst (.tuple #[.bool true,keC (kM L i),(L.getD i d0).2])) w') :
 wpListIn F n P ops Q (o :: rest) a w:=by
 refine wpListIn_plain hg fun K' hK'=>?_
 unfold Oper.wpIn
 refine ⟨by simp [Oper.about,hop],?_⟩
 rw [Oper.semAt_plain F _ _ (by rw [hop];intro c hc';cases hc')]
 rcases run_next_key (P:=P) o.type hr hb hne with ⟨h0,hrun⟩|⟨i,w',h1,h2,hrun,h3,h4,h5,h6,h7⟩
 ·simp [execOp,hop,hit,hrun,Result.andThen]
  exact hK' _ _ (hDone h0)
 ·simp only [execOp,hop,hit,Sem.run_bind,hrun,Result.andThen_ok,Sem.run_pure]
  exact hK' _ _ (hMore i w' h1 h2 h3 h4 h5 h6 h7)
end
theorem keys_of_idx {L : List (Cell × Value)} {idx : List Nat} (hn : idx.Nodup) (hlt : ∀ i ∈ idx, i < L.length) (hall : ∀ i, i < L.length → i ∈ idx) : (idx.map (kM L)).Perm (L.map (·.1)) := by
 have hp : idx.Perm (List.range L.length):=by
  rw [List.perm_ext_iff_of_nodup hn List.nodup_range]
  intro i
  simp
  exact ⟨hlt i,hall i⟩
 have h2:=hp.map (kM L)
 have e : (List.range L.length).map (kM L)=L.map (·.1):=by
  apply List.ext_getElem
  ·simp
  ·intro i h1 h2
   simp at h1
   simp [kM,h1]
 rwa [e] at h2
end Go.Proofs.YtkapdopamgedbaaGreatDoor.V
end
section
namespace Go.Proofs.YtkapdopamgedbaaGreatDoor.V
open Go.RowKit Go.Shelf Go.Maps Go.MapKept
open Go.ChangeMaps (setBlock)
set_option maxRecDepth 100000 in
set_option maxHeartbeats 1000000 in
theorem keys1_in (F : Fence) (n : Nat) (hf : F.fn 61) (hro : F.round = none) (hn : 1 ≤ n) (l Bm b : Nat) (L : List (Cell × Value)) (J Jx : List Cell → World → Prop)
 (hY : ∀ pre x W,J pre W→pre.length < L.length→YieldAt F (n - 1) Tryz.prog l #[keC x] W fun e W' =>
  (e = .returned (.bool true)∧J (pre ++ [x]) W'∧KeepsWalks W W')∨(e = .returned (.bool false)∧Jx (pre ++ [x]) W'))
 (W : World) (hJ : AbidesFrom W.heap.size J) (hm : W.cell? ⟨Bm,0,none⟩ = some (.map (some b))) (hT : MapAt keC W b L) (h0 : J [] W) :
 CallsIn F n Tryz.prog 61 #[.func (.yield l) #[] #[],.pointer (some ⟨Bm,0,none⟩)] W fun e W'=>(∃ v,e = .returned v) ∧
  ((∃ xs,xs.Perm (L.map (·.1))∧J xs W')∨(∃ pre,Jx pre W')):=by
 refine callsIn_of_wp Tryz.func61 rfl hf ?_ hro
 simp only [Tryz.ntmps61,List.size_toArray,List.length_cons,List.length_nil,Nat.reduceAdd,Nat.reduceSub,Array.replicate_succ,Array.replicate_zero,List.push_toArray,List.append_toArray,List.nil_append,List.cons_append]
 gi_wp2_with (first
  | (gi_at_range;refine wpListIn_range_key rfl _ 74 rfl 59 4 Tryz.underlying74 rfl hT ?_)
  | gi_in)
 go_frame
 have hbl:=hT.lt
 gi_loopw [3] (fun _ wr=>∃ idx : List Nat,wr.heap[W.heap.size]? = some (.mapIter (some b) L.length idx.toArray L.length)∧MapAt keC wr b L∧idx.Nodup∧(∀ i∈idx,i < L.length)∧J (idx.map (kM L)) wr)
  (fun _ wr=>match wr.heap[W.heap.size]? with|some (.mapIter _ _ seen _)=>L.length - seen.size|_=>0)
 case atStart =>
  refine ⟨[],World.alloc_heap_new W _,hT.ext (Below.heap_alloc _ _ b hbl),by simp,by simp,?_⟩
  exact hJ [] W _ none h0 (World.grownBy_alloc W _ none) (fun r e=>by cases e)
 case round =>
  obtain ⟨idx,hr,hTr,hnd,hlt,hJs⟩:=hrel
  gi_wp2_with (first
   | (gi_at_next;refine wpListIn_next_key rfl _ rfl rfl hr hTr (by omega) ?_ ?_)
   | gi_in)
  ·intro hall
   gi_wp2
   go_end0
   exact ⟨⟨_,rfl⟩,.inl ⟨_,keys_of_idx hnd hlt hall,hJs⟩⟩
  ·intro i w2 hi hni hr2 hT2 hg2 hs2 hen
   have hJ2 : J (idx.map (kM L)) w2:=hJ _ wr w2 (some W.heap.size) hJs hg2 (fun r e=>by cases e;exact ⟨Nat.le_refl _,_,hr,rfl⟩)
   have hlen : idx.length < L.length:=by
    have h1 : (idx ++ [i]).Nodup:=by
     rw [List.nodup_append]
     refine ⟨hnd,by simp,fun a ha b hb=>?_⟩
     simp at hb
     subst hb
     intro e
     exact hni (e ▸ ha)
    have h2 : (idx ++ [i]) ⊆ List.range L.length:=by
     intro j hj
     rcases List.mem_append.1 hj with h|h
     ·simpa using hlt j h
     ·simp at h
      simpa [h] using hi
    have:=h1.length_le_of_subset h2
    simp at this
    omega
   generalize hx : kM L i=x at *
   have hJ3 : J (idx.map (kM L)) (w2.alloc (.cells #[.int .i64 x.X,.int .i64 x.Y] 59)):=hJ _ w2 _ none hJ2 (World.grownBy_alloc w2 _ none) (fun r e=>by cases e)
   obtain ⟨fn,tmps,assign,body,hy,hR⟩:=hY _ x _ hJ3 (by simpa using hlen)
   clear hs2
   gi_wp2
   refine hR.mono ?_
   have hnd2 : (idx ++ [i]).Nodup:=by
    rw [List.nodup_append]
    refine ⟨hnd,by simp,fun a ha b hb=>?_⟩
    simp at hb
    subst hb
    intro e
    exact hni (e ▸ ha)
   have hlt2 : ∀ j∈idx ++ [i],j < L.length:=by
    intro j hj
    rcases List.mem_append.1 hj with h|h
    ·exact hlt j h
    ·simp at h
     rw [h]
     exact hi
   have hmap : (idx ++ [i]).map (kM L)=(idx.map (kM L)) ++ [x]:=by
    rw [List.map_append]
    simp [hx]
   have hsz:=hg2.size
   have hr3 : (w2.alloc (.cells #[.int .i64 x.X,.int .i64 x.Y] 59)).heap[W.heap.size]? = some (.mapIter (some b) L.length (idx ++ [i]).toArray L.length) :=
    (Below.heap_alloc _ _ _ (Array.getElem?_eq_some_iff.1 hr2).1).trans hr2
   have hT3:=hT2.ext (Below.heap_alloc w2 (.cells #[.int .i64 x.X,.int .i64 x.Y] 59) b hT2.lt)
   rintro e W3 (⟨rfl,hJ4,hk4⟩|⟨rfl,hJx4⟩)
   ·gi_wp2
    have hr4:=hk4.same _ _ hr3 rfl
    have hT4 : MapAt keC W3 b L:=hk4.same _ _ hT3 rfl
    go_roundw
    case rel=>exact ⟨idx ++ [i],hr4,hT4,hnd2,hlt2,by rw [hmap];exact hJ4⟩
    case measure =>
     rw [hr4,hr]
     simp
     omega
   ·gi_wp2
    refine bodyPost_ret (results_none rfl _ _ _) rfl ?_
    exact ⟨⟨_,rfl⟩,.inr ⟨_,hJx4⟩⟩
theorem keys_stops (F : Fence) (n : Nat) (hf : F.fn 61) (hro : F.round = none) (hn : 1 ≤ n) (Bm b : Nat) (L : List (Cell × Value)) (w : World) (hBm : Bm < w.heap.size)
 (hm : w.cell? ⟨Bm,0,none⟩ = some (.map (some b))) (hT : MapAt keC w b L) :
 SeqStopsK F n Tryz.prog 61 #[.pointer (some ⟨Bm,0,none⟩)] (fun x : Cell=>#[keC x]) KeepsWalks (fun xs=>xs.Perm (L.map (·.1))) (fun _=>True) L.length w:=fun l J Jx W hW hJ _ hY h0=>by
 refine (keys1_in F n hf hro hn l Bm b L J Jx hY W hJ ((hW.cell (p:=⟨Bm,0,none⟩) hBm).trans hm) (hT.ext (hW.block b hT.lt)) h0).mono ?_
 rintro e W' ⟨h1,h2|⟨pre,h2⟩⟩
 ·exact ⟨h1,.inl h2⟩
 ·exact ⟨h1,.inr ⟨pre,trivial,h2⟩⟩
end Go.Proofs.YtkapdopamgedbaaGreatDoor.V
namespace Go.Proofs.YtkapdopamgedbaaGreatDoor.V
open Go.RowKit Go.Shelf Go.Maps Go.MapKept
open Go.ChangeMaps (setBlock)
attribute [local go_sem] Oper.semAt_some
theorem cells_new (w : World) (xs : List Value) (t : TypeId) : ∀ j u, xs[j]? = some u → (w.alloc (.cells xs.toArray t)).cell? ((⟨w.heap.size, 0, none⟩ : Addr).add j) = some u := by
 intro j u hj
 have e : ((⟨w.heap.size,0,none⟩ : Addr).add j) = ⟨w.heap.size,j,none⟩:=by
  unfold Addr.add
  split
  ·rename_i h
   rw [h]
  ·simp
 rw [e]
 unfold World.cell?
 rw [World.alloc_heap_new]
 simpa using hj
theorem infoK : (Tryz.prog.info? 59).map (fun i => (i.zero, i.size, i.bytes)) = some (some (.agg #[.int .i64 0, .int .i64 0]), 2, 16) := by kernel_rfl
def colI (w : World) (B : Nat) (pre : List Cell) (W : World) : Prop :=
 (∃ v,Boxed W B 42 v∧W.ownsRow w.heap.size 59 2 v pre.length ((pre.map Cell.e).flatten)∧(v = .slice none 0 0↔pre=[]))∧Below w.heap.size w W
set_option maxRecDepth 100000 in
set_option maxHeartbeats 2000000 in
theorem appendSeq_in (F : Fence) (n : Nat) (hf : F.fn 101) (hro : F.round = none) (hn : 3 ≤ n) (g : Nat) (lb : Array Value) (hFg : F.fn g) (eg : ∀ args w, (callFunc g args).run Tryz.prog w = .ok (.enter g args) w)
 (S Sp : List Cell→Prop) (N : Nat) (hN : N≤1000000000) (w : World) (hseq : SeqStopsK F (n - 1) Tryz.prog g lb (fun x : Cell=>#[keC x]) KeepsWalks S Sp N w) :
 CallsIn F n Tryz.prog 101 #[.slice none 0 0,.func (.func g) #[] lb] w fun e w'=>∃ (v : Value) (ys : List Cell),e = .returned v∧S ys∧w'.ownsRow w.heap.size 59 2 v ys.length ((ys.map Cell.e).flatten)∧(v = .slice none 0 0↔ys=[])∧Below w.heap.size w w':=by
 have h1 : 1≤n:=by omega
 obtain ⟨i0,hi,hz0,hz1,hz2⟩:=info_parts infoK
 refine callsIn_of_wp_marks Tryz.func101 rfl hf ?_ hro
 simp only [Tryz.ntmps101,List.size_toArray,List.length_cons,List.length_nil,Nat.reduceAdd,Nat.reduceSub,Array.replicate_succ,Array.replicate_zero,List.push_toArray,List.append_toArray,List.nil_append,List.cons_append]
 gi_wp2
 obtain ⟨W0,hW0⟩ : ∃ W0,w.alloc (.cells #[.slice none 0 0] 42)=W0:=⟨_,rfl⟩
 have hs0 : W0.heap.size=w.heap.size + 1:=by rw [← hW0];simp
 have hv0 : Boxed W0 w.heap.size 42 (.slice none 0 0):=by rw [← hW0];exact Boxed.new w _ _
 have hb0 : Below w.heap.size w W0:=by rw [← hW0];exact (Below.refl _ w).alloc (Nat.le_refl _) _
 rw [hW0]
 refine wpIn_rangeFunc_ownH hro h1 (gf:=g) (lb:=lb) rfl hFg eg hseq walksK_t walksK_b hb0 (fun _=>rfl) (colI w w.heap.size) (fun _ _ _=>False) ?hI (fun c s A B row h _ _=>h.elim) ?h0
  (fun x a' W=>∃ Bx,w.heap.size < Bx∧W.heap[Bx]? = some (.cells (Cell.e x).toArray 59 (0,0))∧a' = { tmps:=#[.slice none 0 0,.func (.func g) #[] lb,.pointer (some ⟨w.heap.size,0,none⟩),undef,.slice none 0 0,.pointer (some ⟨Bx,0,none⟩),.func (.func g) #[] lb,keC x,undef,undef,undef,undef,undef],defers:=[] }) ?hAx ?assign ?body ?done ?stop
 case hI=>exact OwnFrom.and (Own.from (holdsRow_own w.heap.size w.heap.size 42 59 2 (fun pre : List Cell=>pre.length) (fun pre=>(pre.map Cell.e).flatten) (fun pre v=>v = .slice none 0 0↔pre=[])) _) (ownFrom_below (Nat.le_refl _) (by omega))
 case h0 =>
  exact ⟨⟨_,hv0,World.ownsRow_nil _ _ _ _,by simp⟩,hb0⟩
 case hAx =>
  rintro x a' _ A B row ⟨Bx,h2,h3,h4⟩ hg hr
  refine ⟨Bx,h2,(hg.block Bx (Array.getElem?_eq_some_iff.1 h3).1 fun e=>?_).trans h3,h4⟩
  obtain ⟨_,o,ho,hc⟩:=hr Bx e.symm
  rw [h3] at ho
  cases ho
  cases hc
 case assign =>
  intro l pre x W K hi hK
  gi_wp2
  have hlt:=hi.1.elim fun v h=>h.1.lt
  refine hK _ _ ((KeepsOthers.alloc _ _).from _) (KeepsWalks.alloc _ _) ?_ ⟨W.heap.size,hlt,World.alloc_heap_new _ _,rfl⟩
  obtain ⟨⟨v,hv,hrow,hnil⟩,hB⟩:=hi
  exact ⟨⟨v,hv.alloc _,hrow.alloc _,hnil⟩,hB.alloc hB.size _⟩
 case body =>
  rintro l pre x a' W hl ⟨r,hr⟩ ⟨⟨v,hv,hrow,hnil⟩,hB⟩ ⟨Bx,hBx,hbx,rfl⟩ hlen
  have hc:=hv.cell
  have hf:=hv.frozen
  have hle:=hB.size
  have hBl:=hv.lt
  have c0 : W.cell? ⟨Bx,0,none⟩ = some (.int .i64 x.X):=by simp [World.cell?,hbx]
  have c1 : W.cell? ⟨Bx,1,none⟩ = some (.int .i64 x.Y):=by simp [World.cell?,hbx]
  have hxl : Bx < W.heap.size:=(Array.getElem?_eq_some_iff.1 hbx).1
  gi_wp2_with (first
   | (gi_at_builtin;refine wpListIn_append_own _ rfl _ _ 42 rfl w.heap.size 59 i0 _ 2 16 Tryz.underlying42 hi hz0 hz1 hz2 rfl (by decide) _ _ _ rfl (hrow.alloc _) ⟨W.heap.size,0,none⟩ 1 1 (Cell.e x) rfl rfl (cells_new _ _ _) ?_ (by unfold maxLen;omega) (by omega) (by have:=hB.size;simp;omega) ?_;(focus (intro u hu;simp at hu;rcases hu with rfl|rfl<;>rfl));intro v' w1 hown' hgrow _;obtain ⟨g',cap',rfl⟩:=ownsRow_succ hown';obtain ⟨hv1,hv2,hr2,hk2,hb2⟩:=hv.appended (by decide) hrow hB.size (Nat.le_refl _) hown' hgrow;have hc1:=hv1.cell;have hf1:=hv1.frozen)
   | gi_in)
  refine ⟨hk2.from _,⟨hk2.size,fun k o hk ho=>hk2.same k o hk (Obj.not_cells_of_walk ho)⟩,⟨_,hv2,?_,by simp⟩,hB.trans hb2⟩
  simpa using hr2
 case done =>
  rintro D ys W hD hS ⟨⟨v,hv,hrow,hnil⟩,hB⟩ hK
  have hc:=hv.cell
  have hf:=hv.frozen
  have hBl:=hv.lt
  gi_wp2
  refine ⟨by simp,.inl ⟨_,_,rfl,run_takeDeferred hK,?_⟩⟩
  exact ⟨_,results_tmp rfl _ _ _,v,ys,rfl,hS,ownsRow_putObj hrow _ hK rfl,hnil,hB.trans (belowK_b (w:=w) (Nat.le_refl _) W D _ _ (by omega) hK rfl rfl)⟩
 case stop =>
  intro D c pre W _ _ h
  exact h.elim
set_option maxHeartbeats 1000000 in
theorem collect_in (F : Fence) (n : Nat) (hf : F.fn 59) (hf2 : F.fn 101) (hro : F.round = none) (hn : 4 ≤ n) (g : Nat) (lb : Array Value) (hFg : F.fn g) (eg : ∀ args w, (callFunc g args).run Tryz.prog w = .ok (.enter g args) w)
 (S Sp : List Cell→Prop) (N : Nat) (hN : N≤1000000000) (w : World) (hseq : SeqStopsK F (n - 1 - 1) Tryz.prog g lb (fun x : Cell=>#[keC x]) KeepsWalks S Sp N w) :
 CallsIn F n Tryz.prog 59 #[.func (.func g) #[] lb] w fun e w'=>∃ (v : Value) (ys : List Cell),e = .returned v∧S ys∧w'.ownsRow w.heap.size 59 2 v ys.length ((ys.map Cell.e).flatten)∧(v = .slice none 0 0↔ys=[])∧Below w.heap.size w w':=by
 have h1 : 1≤n:=by omega
 refine callsIn_of_wp Tryz.func59 rfl hf ?_ hro
 simp only [Tryz.ntmps59,List.size_toArray,List.length_cons,List.length_nil,Nat.reduceAdd,Nat.reduceSub,Array.replicate_succ,Array.replicate_zero,List.push_toArray,List.append_toArray,List.nil_append,List.cons_append]
 gi_wp2_with (gi_at_call 101;refine (appendSeq_in F (n - 1) hf2 hro (by omega) g lb hFg eg S Sp N hN _ hseq).mono ?_;rintro e w' ⟨v,ys,rfl,hS,hrow,hnil,hb⟩)
 go_ret
 exact ⟨v,ys,rfl,hS,hrow,hnil,hb⟩
theorem collect_any (Bm b : Nat) (L : List (Cell × Value)) (hL : L.length ≤ 1000000000) (w : World) (hBm : Bm < w.heap.size) (hm : w.cell? ⟨Bm, 0, none⟩ = some (.map (some b))) (hT : MapAt keC w b L) :
 Calls Tryz.prog 59 #[.func (.func 61) #[] #[.pointer (some ⟨Bm,0,none⟩)]] w fun e w' =>
  ∃ (v : Value) (ys : List Cell),e = .returned v∧ys.Perm (L.map (·.1))∧w'.ownsRow w.heap.size 59 2 v ys.length ((ys.map Cell.e).flatten)∧(v = .slice none 0 0↔ys=[])∧Below w.heap.size w w' :=
 callsIn_wide.1 (collect_in Fence.wide 9 trivial trivial rfl (by decide) _ _ trivial (enters_of Tryz.func61 (by kernel_rfl) rfl) (fun xs=>xs.Perm (L.map (·.1))) (fun _=>True) L.length hL w (keys_stops Fence.wide _ trivial rfl (by decide) Bm b L w hBm hm hT))
end Go.Proofs.YtkapdopamgedbaaGreatDoor.V
end
section
namespace Go.Proofs.YtkapdopamgedbaaGreatDoor.V
open Go.RowKit
set_option maxRecDepth 100000
set_option maxHeartbeats 16000000
open Sys Grow
theorem mRel_keys {κ α : Type} {G : Fz} {dv : α → DV} : ∀ {m' : List (κ × Value)} {m : List (κ × α)}, mRel G dv m' m → m'.map (·.1) = m.map (·.1)
 | [],[],_=>rfl
 | [],_ :: _,h=>h.elim
 | _ :: _,[],h=>h.elim
 | (a,v) :: r,(b,x) :: l,h=>by
   obtain ⟨⟨h1,_⟩,h3⟩:=h
   simp only [List.map_cons,mRel_keys h3]
   rw [show a=b from h1]
theorem CallX_collectK {C : Ctx} {ob : List OB} {k : SV → List OB → Prop} {b j q : Nat} {m : List (Cell × Bool)} (hj : nth ob j = some (.box 74 [.v (.map (some b))])) (hq : nth ob q = some (mapO keC dvB b m)) (hL : m.length ≤ 1000000000)
 (hk : ∀ ys : List Cell,ys.Perm (m.map (·.1))→force (ob ++ [.row false 59 2 (fl Cell.e ys)]) fun ob'=>lenK lits ob (fun r=>k (.sl r 0 0 ys.length 2) ob') False) (hP : C.P=Tryz.prog:=by rfl) (hd : C.d=false:=by rfl) : CallX C 59 [.fn 61 [.p j 0]] ob k:=by
 unfold CallX
 rw [hP]
 intro σ G fp w hm _
 refine CallsE.of (Entr.of Tryz.func59 rfl rfl) ?_
 obtain ⟨⟨m',hT,hrel⟩,_,_⟩:=nth_map hm hq
 obtain ⟨hb,_,_,_⟩:=nth_box hm hj
 have hlt : σ j < w.heap.size:=(Array.getElem?_eq_some_iff.1 hb).1
 have hc : w.cell? ⟨σ j,0,none⟩ = some (.map (some b)):=by
  unfold World.cell?
  rw [hb]
  rfl
 have hkeys:=mRel_keys hrel
 have hlen : m'.length=m.length:=by simpa using congrArg List.length hkeys
 refine (collect_any (σ j) b m' (by omega) w hlt hc hT).mono ?_
 rintro e w' ⟨v,ys,rfl,hp,hown,_,hbl⟩
 rw [hkeys] at hp
 obtain ⟨A',c',F',h1,h2,h3⟩:=RowAt.of_owns (G:=G) (els:=fl Cell.e ys) (xs:=ys.map Cell.e) (n:=ys.length) (by simpa [List.flatMap_def] using hown) (rdLL_fl fun v hv=>by
  obtain ⟨l,hl,hx⟩:=List.mem_flatten.1 hv
  obtain ⟨e,_,rfl⟩:=List.mem_map.1 hl
  simp at hx
  rcases hx with rfl|rfl<;>rfl) (fun x hx=>by
  obtain ⟨a,_,rfl⟩:=List.mem_map.1 hx
  rfl) (fl_len _ _)
 cases h1
 have h4:=hk ys hp
 rw [force_eq] at h4
 have h4:=lenK_spec h4
 exact ⟨_,rfl,Goes.pushN hm hbl h2 (fl_len _ _) h3 h4 (fun h=>by rw [hd] at h;cases h)⟩
theorem sortC_perm {ys zs : List Cell} (h : ys.Perm zs) : sortC ys = sortC zs :=
 sorted_unique leC_tot (isort_sorted leC_tot _) (isort_sorted leC_tot _) ((isort_perm ys).trans (h.trans (isort_perm zs).symm))
instance inVky3_1 {a b c d : Int} : CDc 24 [.a [I a, I b], .a [I c, I d]] True (.int .i64 (cellI ⟨a, b⟩ ⟨c, d⟩)) := ⟨fun _ => by
 refine CD.of Tryz.func24 rfl tabOk rfl rfl rfl fun w_ G0_=>?_
 refine roA (a1 ?_)
 exact Fin_d⟩
instance inVky3_2 : CMe 27 (Nat × List (Cell × Bool)) true (fun _ => [.fn 61 [.p 1 0], .fn 24 []]) (fun (b, m) => [mapO keC dvB b m, .box 74 [.v (.map (some b))]]) (fun (_, m) => m.length ≤ 1000000000) Unit
 (fun (_,m) _=>.sl 2 0 0 m.length 2) (fun (b,m) _=>[mapO keC dvB b m,.box 74 [.v (.map (some b))],.row false 59 2 (fl Cell.e (sortC (m.map (·.1))))]):=⟨fun (b,m) p1=>by
 dsimp only at *
 refine CM.of Tryz.func27 rfl tabOk rfl rfl rfl rfl (by simp [SV.nms,SV.nm]) fun w_ M_ π_ G0_=>?_
 refine roA (a1 ?_)
 all_goals intros
 refine CallX_collectK (q:=0) rfl rfl p1 fun ys hy=>?_
 conv=>whnf
 have hl : ys.length=m.length:=by simpa using hy.length_eq
 rw [hl]
 refine roA (a1 ?_)
 all_goals intros
 refine CallX_sortC (Entr.of Tryz.func24 rfl rfl) rfl hl.symm (by omega) ?_
 conv=>whnf
 rw [sortC_perm hy]
 refine roA (a1 ?_)
 all_goals intros
 refine Fin_ja () ?_
 conv=>whnf
 exact ⟨rfl,rfl,rfl⟩⟩
instance inVky3_3 : AR 27 2 := ⟨trivial⟩
instance inVky3_4 {b : Nat} : CFc 28 true [.v (.map (some b))] True (.fn 61 [.p 0 0]) [.box 74 [.v (.map (some b))]] := ⟨fun _ => by
 refine CM.of Tryz.func28 rfl tabOk rfl rfl rfl rfl (by simp [SV.nms,SV.nm]) fun w_ M_ π_ G0_=>?_
 refine roA (a1 ?_)
 all_goals intros
 refine Fin_ja () ?_
 conv=>whnf
 exact ⟨rfl,rfl,rfl⟩⟩
instance inVky3_5 : CMe 9 (Gh × SS) true (fun _ => [.p 3 0]) (fun (g, S) => sysO g S) (fun (_, S) => S.vis.length ≤ 1000000000) (Option Addr × Nat) (fun (_, S) q => .fz q.1 q.2 2 (fl Cell.e (visL S.vis))) (fun (g, S) _ => sysO g S) := ⟨fun (g, S) p1 => by
 dsimp only [sysO] at *
 unfold visL
 refine CM.of Tryz.func9 rfl tabOk rfl rfl rfl rfl (by simp [SV.nms,SV.nm]) fun w_ M_ π_ G0_=>?_
 refine roA (a1 ?_)
 all_goals intros
 refine CallX_mr [2,11] (g.mv,S.vis) rfl rfl p1 rfl (fun _=>?_)
 conv=>whnf
 refine roA (a1 ?_)
 all_goals intros
 rw [show S.vis.length=(sortC (S.vis.map (·.1))).length by have h:=(isort_perm (le:=leC) (S.vis.map (·.1))).length_eq;rw [List.length_map] at h;exact h.symm]
 (first|refine Fin_fr 30 rfl fun A1 c1=>?_|refine Fin_fr 29 rfl fun A1 c1=>?_|refine Fin_fr 28 rfl fun A1 c1=>?_|refine Fin_fr 27 rfl fun A1 c1=>?_|refine Fin_fr 26 rfl fun A1 c1=>?_|refine Fin_fr 25 rfl fun A1 c1=>?_|refine Fin_fr 24 rfl fun A1 c1=>?_|refine Fin_fr 23 rfl fun A1 c1=>?_|refine Fin_fr 22 rfl fun A1 c1=>?_|refine Fin_fr 21 rfl fun A1 c1=>?_|refine Fin_fr 20 rfl fun A1 c1=>?_|refine Fin_fr 19 rfl fun A1 c1=>?_|refine Fin_fr 18 rfl fun A1 c1=>?_|refine Fin_fr 17 rfl fun A1 c1=>?_|refine Fin_fr 16 rfl fun A1 c1=>?_|refine Fin_fr 15 rfl fun A1 c1=>?_|refine Fin_fr 14 rfl fun A1 c1=>?_|refine Fin_fr 13 rfl fun A1 c1=>?_|refine Fin_fr 12 rfl fun A1 c1=>?_|refine Fin_fr 11 rfl fun A1 c1=>?_|refine Fin_fr 10 rfl fun A1 c1=>?_)
 conv=>whnf
 (repeat ((with_reducible show ViewE _ _ _ _);(first|refine view_w zLn ?_|refine view_pf zSd ?_|refine view_p zSd ?_);(conv=>whnf)))
 refine Fin_ja (A1,c1) ?_
 conv=>whnf
 exact ⟨rfl,rfl,rfl⟩⟩
instance inVky3_6 : AR 9 2 := ⟨trivial⟩
end Go.Proofs.YtkapdopamgedbaaGreatDoor.V
end
section
namespace Go.Proofs.YtkapdopamgedbaaGreatDoor.V
open Go.RowKit
set_option maxRecDepth 100000
set_option maxHeartbeats 16000000
open Heading BoxP Drive PlanP Known Contr Loc Jou Atl RobotP Mon Mot Sys Grow
abbrev Sys.sysL (g : Gh) (S : SS) (kq : Option Addr × Nat) : List (Nat × OB) := [
 (1,mapO keI dvS g.ms S.sc),(2,mapO keI dvP g.mp S.pl),(3,mapO keC dvB g.mv S.vis),
 (4,.box 80 [I 0,I 0,nilS,I 0,I 0,nilS,I S.bd.Turn,I S.bd.Length,I S.bd.Slip,I S.bd.Range,I S.start.X,I S.start.Y,I S.start.H,nilS,.fz g.mr.1 g.mr.2 1 (fl ie S.marks),I S.every,I S.late,
  .p 5 0,.p 6 0,.p 7 0,.p 8 0,.p 11 0,.v (.pointer none),nilS,.v (.map (some g.mv)),I S.ticks,I S.scans,B S.bumped]),
 (5,robO g.rp S.rob),(6,filtO (g.fp,g.fs) S.ft),(7,.box 137 [I S.mon.limit,I S.mon.faults,I S.mon.age]),
 (8,.box 126 [.sl 9 0 0 S.jb.length 1,.sl 10 0 0 S.je.length 5]),(9,.row false 5 1 (fl ye S.jb)),(10,.row false 49 5 (flD Evt.e S.je)),
 (11,.box 130 [.v (.map (some g.ms)),.v (.map (some g.mp))]),
 (12,.box 24 [I S.ft.p.W,I S.ft.p.H,.fz kq.1 kq.2 1 (fl ye S.ft.p.cells)])]
theorem jb_len {n : Nat} {S : SS} {i : Inp} (h : okN n S) (hn : n ≤ 1000) : (tickT S i).jb.length ≤ S.jb.length + 256 := by
 show (S.jb ++ frmE (evG S i (cmdT S i) (scanT S))).length≤_
 rw [List.length_append]
 have hs : Contr.vScan (beamsG S i (cmdT S i) (scanT S))=true:=by
  unfold beamsG
  split
  ·exact (scan_ok h.h3).1
  ·exact (scan_ok (M:=[]) rfl).1
 have hf:=frm_256 (t:=S.rob.n + 1) (u:=(cmdT S i).Turn) (f:=(cmdT S i).Forward) (b:=bumpG S i (cmdT S i)) (s:=beamsG S i (cmdT S i) (scanT S)) (by have:=h.h4;omega) gate_ok hs
 have : frmE (evG S i (cmdT S i) (scanT S))=frmJ (S.rob.n + 1) (cmdT S i).Turn (cmdT S i).Forward (bumpG S i (cmdT S i)) (beamsG S i (cmdT S i) (scanT S)):=rfl
 rw [this]
 omega
theorem gre_step {V A : List Cell} {j a : Nat} (h1 : j < V.length) (h2 : a < A.length) : gre (V.drop j) (A.drop a) = if gt V j = gt A a then gre (V.drop (j + 1)) (A.drop (a + 1)) else gre (V.drop (j + 1)) (A.drop a) := by
 rw [drop_gt h1,drop_gt h2]
 rfl
theorem gre_end {V A : List Cell} {j a : Nat} (h1 : V.length ≤ j) (h : gre (V.drop j) (A.drop a) = []) : A.length ≤ a := by
 rw [List.drop_of_length_le h1] at h
 exact List.drop_eq_nil_iff.1 h
theorem below_yes2 {A A' : Option Addr} {c c' : Nat} {p q : Plan} (hv : vPlan p = true) (hb : Below p q) : CFc 12 false [.a [I p.W, I p.H, .fz A c 1 (fl ye p.cells)], .a [I q.W, I q.H, .fz A' c' 1 (fl ye q.cells)]] (p.cells.length ≤ 1000000000) (B true) [] := by
 have hv':=hb.v hv
 obtain ⟨w,h,X⟩:=p
 obtain ⟨w',h',Y⟩:=q
 obtain ⟨h1,h2,h3,_,h5⟩:=hb
 simp only at h1 h2
 subst h1 h2
 exact below_yes hv hv' h3 h5
theorem Sys.okN.mono {n m : Nat} {S : SS} (h : okN n S) (hn : n ≤ m) : okN m S := by
 obtain ⟨h1,h2,h3,h4,h5,h6,h7,h7',h8,h9,h10,h11,h12,h13,h15,h16⟩:=h
 exact ⟨h1,h2,h3,by omega,by omega,h6,h7,h7',h8,by omega,h10,by omega,h12,h13,h15,by omega⟩
theorem cell_ext {a b : Cell} (h1 : a.X = b.X) (h2 : a.Y = b.Y) : a = b := by
 cases a
 cases b
 simp_all
theorem grows_c {s : Setup} {g : Ga} {A : Option Addr} {c : Nat} {l : List Inp} : CFc 3 false [s.s g, .fz A c 10 (flD Inp.e l)] (∀ x ∈ s.known.cells, 0 ≤ x) (B true) [] := ⟨fun p3 => by
 haveI:=@light_c s g
 have hln : (flD Inp.e l).length=l.length:=flD_len _ _
 have P3 : Hold (∀ x∈s.known.cells,0≤x):=⟨p3⟩
 clear p3
 by_cases h1 : lightP s=true∧fewP l=true∧l.length≤5
 ·obtain ⟨h2,h3,h4⟩:=h1
  by_cases he : errN s=0
  ·have hlen:=light_l h2
   have hok:=new_keeps he hlen P3.out
   have hkl:=plan_len hok.h7
   have hpos : 0 < s.known.cells.length:=by
    obtain ⟨e1,e2,e3,_⟩:=vPlan_iff.1 hok.h7
    have:=wh_bnd e1 e2
    have e4 : ((new0 s).ft.p.cells.length : Int)=s.known.cells.length:=rfl
    omega
   have hv0 : (fl Cell.e (visL (new0 s).vis)).length=0:=rfl
   dsimp only [Setup.s] at *
   refine CM.of Tryz.func3 rfl tabOk rfl rfl rfl rfl (by simp [SV.nms,SV.nm]) fun w_ M_ π_ G0_=>?_
   refine rulA (a1 ?_)
   all_goals intros
   apply CallX_me (h:=new_ok (s:=s) (g:=g) he) ()
   conv=>whnf
   refine ⟨⟨rfl,rfl⟩,hlen,by kernel_rfl,fun g0=>?_⟩
   refine rulA (a1 ?_)
   all_goals intros
   refine CallX_mr [1,2,3,4,5,6,7,8,9,10,11] (g0,new0 s) rfl rfl (Nat.le_trans hkl (by decide)) rfl (fun kq=>?_)
   conv=>whnf
   refine rulA (a1 ?_)
   all_goals intros
   refine CallX_mr [1,2,3,4,5,6,7,8,9,10,11] (g0,new0 s) rfl rfl (Nat.zero_le _) rfl (fun vq=>?_)
   conv=>whnf
   refine rulA (a1 ?_)
   all_goals intros
   refine CallX_i (h:=plans_same (A:=kq.1) (c:=kq.2) (A':=g.b.1) (c':=g.b.2) (w:=s.known.W) (h:=s.known.H) (X:=s.known.cells)) ?_ hpos
   conv=>whnf
   refine rulA (a1 ?_)
   all_goals intros
   refine LoopX_keep [1,5,7,8,9] ?_
   conv=>whnf
   refine LoopX_p [9,10] (fun ((i,S,_,_,_) : Nat × SS × Gh × (Option Addr × Nat) × (Option Addr × Nat))=>i≤l.length∧Hold (okN i S∧S.jb.length≤4 + 256 * i)) (fun (i,S,_,_,vq)=>[(8,.fz vq.1 vq.2 2 (fl Cell.e (visL S.vis))),(9,I i)]) (fun (_,S,g,kq,_)=>sysL g S kq) (fun (i,_,_,_,_)=>l.length - i) (0,new0 s,g0,kq,vq) ?_ ⟨Nat.zero_le _,⟨hok,show (4 : Nat)≤4 + 256 * 0 by decide⟩⟩
   conv=>whnf
   rintro ⟨i,S,g1,kq1,vq1⟩ ⟨j1,⟨j2,j3⟩⟩
   conv=>whnf
   by_cases hlt : i < l.length
   ·have hx1 : (gt l i).errs.length≤1000000000:=Nat.le_trans ((few_l h3).2 _ (gt_mem hlt)) (by decide)
    refine rulA (a1 ?_)
    all_goals intros
    by_cases hw : vCmd (gt l i).want=true
    ·refine CallX_mr (h:=tick_ok (g:=g1) (S:=S) (i:=gt l i) (A:=_) (k:=_) hw (by omega)) [1,2,3,4,5,6,7,8,9,10,11] () rfl rfl ⟨j2.ok (by omega),hx1⟩ rfl (fun q=>?_)
     conv=>whnf
     refine rulA (a1 ?_)
     all_goals intros
     have n1:=tick_keeps (i:=gt l i) j2
     have n2:=tick_grows (i:=gt l i) j2
     have n3:=jb_len (i:=gt l i) j2 (by omega)
     have n4:=plan_len n1.h7
     refine CallX_mr [1,2,3,4,5,6,7,8,13,14,11] (q.1,tickT S (gt l i)) rfl rfl (Nat.le_trans n4 (by decide)) rfl (fun kq2=>?_)
     conv=>whnf
     refine rulA (a1 ?_)
     all_goals intros
     refine CallX_mr [1,2,3,4,5,6,7,8,13,14,11] (q.1,tickT S (gt l i)) rfl rfl (by have:=n1.h16;omega) rfl (fun vq2=>?_)
     conv=>whnf
     refine rulA (a1 ?_)
     all_goals intros
     obtain ⟨b1,b2,b3,b4⟩:=n2
     refine CallX_i (h:=below_yes2 (A:=kq1.1) (c:=kq1.2) (A':=kq2.1) (c':=kq2.2) (p:=S.ft.p) (q:=(tickT S (gt l i)).ft.p) j2.h7 b1) ?_ (Nat.le_trans (plan_len j2.h7) (by decide))
     conv=>whnf
     have l0 : (fl Cell.e (visL S.vis)).length=(visL S.vis).length:=fl_len _ _
     have l1 : (fl Cell.e (visL (tickT S (gt l i)).vis)).length=(visL (tickT S (gt l i)).vis).length:=fl_len _ _
     have l2 : (visL S.vis).length≤1000:=by
      have h:=(isort_perm (le:=leC) (S.vis.map (·.1))).length_eq
      rw [List.length_map] at h
      have h' : (visL S.vis).length=S.vis.length:=h
      have:=j2.h16
      omega
     refine rulA (a1 ?_)
     all_goals intros
     refine LoopX_keep [1,5,7,8,9,10,11,12,13] ?_
     conv=>whnf
     refine LoopX_p [] (fun ((m,a) : Nat × Nat)=>m≤(visL (tickT S (gt l i)).vis).length∧a≤(visL S.vis).length∧Hold (gre ((visL (tickT S (gt l i)).vis).drop m) ((visL S.vis).drop a)=[])) (fun (m,a)=>[(12,I a),(13,I m)]) (fun _=>[]) (fun (m,_)=>(visL (tickT S (gt l i)).vis).length - m) (0,0) ?_ ⟨Nat.zero_le _,Nat.zero_le _,⟨gre_sub b2⟩⟩
     conv=>whnf
     rintro ⟨m,a⟩ ⟨i1,i2,⟨i3⟩⟩
     conv=>whnf
     by_cases hm : m < (visL (tickT S (gt l i)).vis).length
     ·by_cases ha : a < (visL S.vis).length
      ·have i4:=i3
       rw [gre_step hm ha] at i4
       by_cases hc : gt (visL (tickT S (gt l i)).vis) m=gt (visL S.vis) a
       ·rw [if_pos hc] at i4
        have c1 : (gt (visL (tickT S (gt l i)).vis) m).X=(gt (visL S.vis) a).X:=congrArg Cell.X hc
        have c2 : (gt (visL (tickT S (gt l i)).vis) m).Y=(gt (visL S.vis) a).Y:=congrArg Cell.Y hc
        refine rulA (a2 ?_ ?_)
        all_goals intros
        ·exact rn (m + 1,a + 1) ⟨by omega,by omega,⟨i4⟩⟩
        ·rename_i hb
         exfalso
         simp [c1,c2] at hb
       ·rw [if_neg hc] at i4
        have c3 : ¬ ((gt (visL (tickT S (gt l i)).vis) m).X=(gt (visL S.vis) a).X∧(gt (visL (tickT S (gt l i)).vis) m).Y=(gt (visL S.vis) a).Y):=fun ⟨e1,e2⟩=>hc (cell_ext e1 e2)
        refine rulA (a1 ?_)
        all_goals intros
        exact rn (m + 1,a) ⟨by omega,by omega,⟨i4⟩⟩
      ·refine rulA (a1 ?_)
       all_goals intros
       exact rn (i + 1,tickT S (gt l i),q.1,kq2,vq2) ⟨by omega,⟨n1,by omega⟩⟩
     ·have i5:=gre_end (Nat.le_of_not_lt hm) i3
      refine rulA (a1 ?_)
      all_goals intros
      exact rn (i + 1,tickT S (gt l i),q.1,kq2,vq2) ⟨by omega,⟨n1,by omega⟩⟩
    ·have hw' : vCmd ⟨(gt l i).want.Turn,(gt l i).want.Forward⟩ = false:=by simpa using hw
     refine CallX_mr (h:=tick_no1 (g:=g1) (S:=S) (t:=(gt l i).want.Turn) (f:=(gt l i).want.Forward) (au:=(gt l i).auto) (sp:=(gt l i).stop) (rs:=(gt l i).reset) (a:=(gt l i).slip.Turn) (b:=(gt l i).slip.Length) (c:=(gt l i).slip.X) (d:=(gt l i).slip.Y) (A:=_) (k:=_) (E:=(gt l i).errs) hw') [1,2,3,4,5,6,7,8,9,10,11] () rfl rfl (by omega) rfl (fun q=>?_)
     conv=>whnf
     refine rulA (a1 ?_)
     all_goals intros
     have n4:=plan_len j2.h7
     refine CallX_mr [1,2,3,4,5,6,7,8,9,10,11] (g1,S) rfl rfl (Nat.le_trans n4 (by decide)) rfl (fun kq2=>?_)
     conv=>whnf
     refine rulA (a1 ?_)
     all_goals intros
     refine CallX_mr [1,2,3,4,5,6,7,8,9,10,11] (g1,S) rfl rfl (by have:=j2.h16;omega) rfl (fun vq2=>?_)
     conv=>whnf
     refine rulA (a1 ?_)
     all_goals intros
     refine CallX_i (h:=below_yes2 (A:=kq1.1) (c:=kq1.2) (A':=kq2.1) (c':=kq2.2) (p:=S.ft.p) (q:=S.ft.p) j2.h7 (Below.refl j2.h7')) ?_ (Nat.le_trans n4 (by decide))
     conv=>whnf
     have l0 : (fl Cell.e (visL S.vis)).length=(visL S.vis).length:=fl_len _ _
     have l2 : (visL S.vis).length≤1000:=by
      have h:=(isort_perm (le:=leC) (S.vis.map (·.1))).length_eq
      rw [List.length_map] at h
      have h' : (visL S.vis).length=S.vis.length:=h
      have:=j2.h16
      omega
     refine rulA (a1 ?_)
     all_goals intros
     refine LoopX_keep [1,5,7,8,9,10,11,12,13] ?_
     conv=>whnf
     refine LoopX_p [] (fun (m : Nat)=>m≤(visL S.vis).length) (fun m=>[(12,I m),(13,I m)]) (fun _=>[]) (fun m=>(visL S.vis).length - m) 0 ?_ (Nat.zero_le _)
     conv=>whnf
     intro m i1
     conv=>whnf
     by_cases hm : m < (visL S.vis).length
     ·refine rulA (a2 ?_ ?_)
      all_goals intros
      ·exact rn (m + 1) (show m + 1≤(visL S.vis).length by omega)
      ·rename_i hb
       exfalso
       simp at hb
     ·refine rulA (a1 ?_)
      all_goals intros
      exact rn (i + 1,S,g1,kq2,vq2) ⟨by omega,⟨j2.mono (Nat.le_succ _),by omega⟩⟩
   ·refine rulA (a1 ?_)
    all_goals intros
    ((refine Fin_j () ?_;(conv=>whnf);refine ⟨?_,?_,?_,?_⟩)<;>try first|rfl|exact trivial|((simp only [OB.flats,flatD_fl,and_self]);done)|(first|exact zCl|(subst_vars;exact zCl)))
  ·have hlen:=light_l h2
   dsimp only [Setup.s] at *
   refine CM.of Tryz.func3 rfl tabOk rfl rfl rfl rfl (by simp [SV.nms,SV.nm]) fun w_ M_ π_ G0_=>?_
   refine rulA (a1 ?_)
   all_goals intros
   refine CallX_i (h:=new_no (s:=s) (g:=g) he) ?_ hlen
   conv=>whnf
   refine rulA (a1 ?_)
   all_goals intros
   ((refine Fin_j () ?_;(conv=>whnf);refine ⟨?_,?_,?_,?_⟩)<;>try first|rfl|exact trivial|((simp only [OB.flats,flatD_fl,and_self]);done)|(first|exact zCl|(subst_vars;exact zCl)))
 ·dsimp only [Setup.s] at *
  rcases Bool.eq_false_or_eq_true (lightP s) with h2|h2
  ·rcases Bool.eq_false_or_eq_true (fewP l) with h3|h3
   ·have h4 : 5 < l.length:=by
     refine Nat.lt_of_not_le fun h=>h1 ⟨h2,h3,h⟩
    clear h1
    refine CM.of Tryz.func3 rfl tabOk rfl rfl rfl rfl (by simp [SV.nms,SV.nm]) fun w_ M_ π_ G0_=>?_
    refine rulA (a1 ?_)
    all_goals intros
    ((refine Fin_j () ?_;(conv=>whnf);refine ⟨?_,?_,?_,?_⟩)<;>try first|rfl|exact trivial|((simp only [OB.flats,flatD_fl,and_self]);done)|(first|exact zCl|(subst_vars;exact zCl)))
   ·clear h1
    refine CM.of Tryz.func3 rfl tabOk rfl rfl rfl rfl (by simp [SV.nms,SV.nm]) fun w_ M_ π_ G0_=>?_
    refine rulA (a1 ?_)
    all_goals intros
    ((refine Fin_j () ?_;(conv=>whnf);refine ⟨?_,?_,?_,?_⟩)<;>try first|rfl|exact trivial|((simp only [OB.flats,flatD_fl,and_self]);done)|(first|exact zCl|(subst_vars;exact zCl)))
  ·clear h1
   refine CM.of Tryz.func3 rfl tabOk rfl rfl rfl rfl (by simp [SV.nms,SV.nm]) fun w_ M_ π_ G0_=>?_
   refine rulA (a1 ?_)
   all_goals intros
   ((refine Fin_j () ?_;(conv=>whnf);refine ⟨?_,?_,?_,?_⟩)<;>try first|rfl|exact trivial|((simp only [OB.flats,flatD_fl,and_self]);done)|(first|exact zCl|(subst_vars;exact zCl)))⟩
end Go.Proofs.YtkapdopamgedbaaGreatDoor.V
end
