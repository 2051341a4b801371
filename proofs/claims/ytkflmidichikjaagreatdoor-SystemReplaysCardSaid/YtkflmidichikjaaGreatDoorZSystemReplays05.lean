import Derived.Test.YtkflmidichikjaaGreatDoorZSystemReplays04
import Derived.OrdersHeld
set_option linter.all false
section
namespace Go.Proofs.YtkflmidichikjaaGreatDoor.V
open Go.RowKit
def dep (ops : Array Oper) (j p : Nat) : Bool := ((ops[j]?).map fun o => o.after.any fun e => Region.binds .any e && e.on == p).getD false
inductive TD (ops : Array Oper) : Nat → Nat → Prop
 | one {j p : Nat} (h : dep ops j p=true) : TD ops j p
 | more {j k p : Nat} (h : dep ops j k=true) (h' : TD ops k p) : TD ops j p
theorem TD.snoc {ops : Array Oper} {j k p : Nat} (h : TD ops j k) (h' : dep ops k p = true) : TD ops j p := by
 induction h with
 | one h=>exact .more h (.one h')
 | more h _ ih=>exact .more h (ih h')
noncomputable def tdB (ops : Array Oper) (j p : Nat) : Bool := @decide (TD ops j p) (Classical.propDecidable _)
theorem tdB_true {ops : Array Oper} {j p : Nat} : tdB ops j p = true ↔ TD ops j p := by simp [tdB]
def Closed (ops : Array Oper) (listed : Array Bool) : Prop := ∀ j k, j < ops.size → listed.getD j true = true → dep ops j k = true → listed.getD k true = true
theorem dep_lt {ops : Array Oper} {j k : Nat} (h : dep ops j k = true) : j < ops.size := by
 unfold dep at h
 cases hj : ops[j]? with
 | none=>rw [hj] at h;cases h
 | some o=>exact (Array.getElem?_eq_some_iff.1 hj).1
structure Pend where
 i : Nat
 a : Act
 v : Value
section
variable {P : Program} {ops : Array Oper} {Q : Exit → Act → World → Prop}
def YO (P : Program) (ops : Array Oper) (o : Oper) (a : Act) (v : Value) (w : World) : Prop :=
 (Region.wanted o (yielded ops a.tmps)=true∧(execOp a.eval o).run P w = .ok (.value v) w)∨(Region.wanted o (yielded ops a.tmps)=false∧v=undef)
def YW (P : Program) (ops : Array Oper) (p : Pend) (w : World) : Prop := ∃ o, ops[p.i]? = some o ∧ YO P ops o p.a p.v w
def wpV (P : Program) (ops : Array Oper) (Q : Exit → Act → World → Prop) : Nat → List Pend → Array Bool → Act → World → Prop
 | 0,_,listed,a,w=>Region.ready .any ops listed=[]∧Q .normal a w
 | f + 1,pend,listed,a,w=>(Region.ready .any ops listed=[]→Q .normal a w) ∧
   ∀ i∈Region.ready .any ops listed,wpOp P ops Q i (fun a' w'=>(∀ p∈pend,tdB ops i p.i=false→YW P ops p w')∧wpV P ops Q f (pend.filter fun p=>!tdB ops i p.i) (listed.setIfInBounds i true) a' w') a w
theorem wpV_mono : ∀ (f : Nat) {pend pend' : List Pend} {listed : Array Bool} {a : Act} {w : World}, (∀ p ∈ pend, p ∈ pend') → wpV P ops Q f pend' listed a w → wpV P ops Q f pend listed a w
 | 0,_,_,_,_,_,_,h=>h
 | f + 1,pend,pend',listed,a,w,hs,h=>⟨h.1,fun i hi=>wpOp_mono (fun a' w' ⟨h1,h2⟩=>⟨fun p hp hd=>h1 p (hs p hp) hd,wpV_mono f (fun p hp=>by
    simp only [List.mem_filter] at hp ⊢
    exact ⟨hs p hp.1,hp.2⟩) h2⟩) (h.2 i hi)⟩
theorem wpAny_of_V : ∀ (f : Nat) {pend : List Pend} {listed : Array Bool} {a : Act} {w : World}, wpV P ops Q f pend listed a w → wpAny P .any ops Q f listed a w
 | 0,_,_,_,_,h=>h
 | f + 1,_,_,_,_,h=>⟨h.1,fun i hi=>wpOp_mono (fun a' w' hh=>wpAny_of_V f hh.2) (h.2 i hi)⟩
theorem wpOp_putZ {j : Nat} {oi oj : Oper} {v : Value} (hj : ops[j]? = some oj) (hap : oi.apart ops oj = true)
 (hsj : ∀ cs b,oj.op ≠ .select cs b)
 (hQ : ∀ c a w,Q (.panic c) (a.put oi.dst v) w→Q (.panic c) a w) {K : Act→World→Prop} {a : Act} {w : World} (Z : Act→Prop) (keep : ∀ a u,Z a→Z (a.put oj.dst u)) (keepD : ∀ a d,Z a→Z { a with defers:=d :: a.defers })
 (hy : Z a) (h : wpOp P ops Q j K (a.put oi.dst v) w) :
 wpOp P ops Q j (fun a' w'=>Z a'∧K (a'.put oi.dst v) w') a w:=by
 obtain ⟨h1,h2,h3⟩:=Oper.apart_spec hap
 unfold wpOp at *
 simp only [hj] at *
 rw [wanted_put oj a oi.dst v h1] at h
 split
 ·rename_i hw
  simp only [hw,if_true] at h
  rcases h with h|⟨hasks,hlets⟩
  case inr=>exact .inr ⟨by unfold Oper.asks at *;rw [execOp_put oj hsj a oi.dst v h1] at hasks;exact hasks,hlets⟩
  refine .inl ?_
  unfold Oper.wp at *
  rw [execOp_put oj hsj a oi.dst v h1] at h
  generalize (execOp a.eval oj).run P w=r at *
  cases r with
  | ok n w' =>
    cases n<;>simp only [Oper.upon] at h ⊢
    case value u=>exact ⟨keep a u hy,by rw [← Act.put_comm a v u h2];exact h⟩
    case skip=>exact ⟨keep a _ hy,by rw [← Act.put_comm a v undef h2];exact h⟩
    case defer d =>
     refine ⟨keep _ _ (keepD a d hy),?_⟩
     rw [← Act.put_comm _ v undef h2,← Act.put_defers]
     exact h
    case enter f args =>
     refine Calls.mono h fun e w'' he=>?_
     cases e with
     | returned u=>exact ⟨keep a u hy,by rw [← Act.put_comm a v u h2];exact he⟩
     | panicked c=>exact hQ _ _ _ he
     | outgrown=>exact he
    case row row args=>exact Rows.mono h fun u w'' he=>⟨keep a u hy,by rw [← Act.put_comm a v u h2];exact he⟩
  | halt x w' =>
    cases x<;>simp only [Oper.upon] at h ⊢
    case panic u=>exact hQ _ _ _ h
 ·rename_i hw
  simp only [hw] at h
  exact ⟨keep a _ hy,by rw [← Act.put_comm a v undef h2];exact h⟩
theorem YO.wpOp {i : Nat} {o : Oper} {v : Value} {a : Act} {w : World} (hi : ops[i]? = some o) (hy : YO P ops o a v w) {K : Act → World → Prop} (h : K (a.put o.dst v) w) : wpOp P ops Q i K a w := by
 unfold Go.wpOp
 simp only [hi]
 rcases hy with ⟨hw,hv⟩|⟨hw,rfl⟩
 ·simp only [hw,if_true,Oper.wp,hv,Oper.upon];exact .inl h
 ·simp only [hw,Bool.false_eq_true,if_false];exact h
theorem dep_false {j i : Nat} {oj : Oper} {listed : Array Bool} (hj : j ∈ Region.ready .any ops listed) (hoj : ops[j]? = some oj) (hun : listed.getD i true = false) : dep ops j i = false := by
 obtain ⟨_,o,ho,hall⟩:=mem_ready.1 hj
 rw [hoj] at ho
 cases ho
 simp only [dep,hoj,Option.map_some,Option.getD_some]
 rw [Bool.eq_false_iff]
 intro h
 simp only [Array.any_eq_true',Bool.and_eq_true,beq_iff_eq] at h
 obtain ⟨e,he,hb,heq⟩:=h
 have h1:=hall e he hb
 rw [heq] at h1
 rcases Nat.lt_or_ge i listed.size with h'|h'
 ·simp [h'] at h1 hun;rw [hun] at h1;cases h1
 ·simp [Array.getElem?_eq_none h'] at h1
theorem td_listed {listed : Array Bool} (hcl : Closed ops listed) {j p : Nat} (h : TD ops j p) : listed.getD j true = true → listed.getD p true = true := by
 induction h with
 | one h=>exact fun hj=>hcl _ _ (dep_lt h) hj h
 | more h _ ih=>exact fun hj=>ih (hcl _ _ (dep_lt h) hj h)
theorem td_ready {listed : Array Bool} (hcl : Closed ops listed) {j i : Nat} (hj : j ∈ Region.ready .any ops listed) (hun : listed.getD i true = false) : tdB ops j i = false := by
 obtain ⟨_,oj,hoj,_⟩:=mem_ready.1 hj
 have one : ∀ k,dep ops j k=true→listed.getD k true=true:=by
  intro k hk
  cases hk' : listed.getD k true with
  | true=>rfl
  | false=>rw [dep_false hj hoj hk'] at hk;cases hk
 cases ht : tdB ops j i with
 | false=>rfl
 | true =>
   have:=tdB_true.1 ht
   have hl : listed.getD i true=true:=by
    cases this with
    | one h=>exact one _ h
    | more h h'=>exact td_listed hcl h' (one _ h)
   rw [hun] at hl
   cases hl
theorem closed_set {listed : Array Bool} (hcl : Closed ops listed) {i : Nat} (hi : i ∈ Region.ready .any ops listed) : Closed ops (listed.setIfInBounds i true) := by
 obtain ⟨_,oi,hoi,_⟩:=mem_ready.1 hi
 intro j k hjl hj hd
 have hk : listed.getD k true=true:=by
  by_cases e : i=j
  ·subst e
   cases hk' : listed.getD k true with
   | true=>rfl
   | false=>rw [dep_false hi hoi hk'] at hd;cases hd
  ·rw [getD_set_ne true e] at hj
   exact hcl j k hjl hj hd
 by_cases e : i=k
 ·subst e
  by_cases hb : i < listed.size
  ·simp [hb]
  ·simp [hb]
 ·rw [getD_set_ne true e]
  exact hk
theorem closed_none : Closed ops (Array.replicate ops.size false) := by
 intro j k hj h
 simp [hj] at h
theorem wpV_delay (hsel : Region.noSelect ops = true) (hQ : ∀ c a w, ¬ Q (.panic c) a w) {i : Nat} {oi : Oper} {v : Value} {ai : Act} (hi : ops[i]? = some oi) :
 ∀ (f : Nat) {pend : List Pend} {listed : Array Bool} {a : Act} {w : World},Closed ops listed→i∈Region.ready .any ops listed →
  (∀ j oj,ops[j]? = some oj→j ≠ i→listed.getD j true=false→dep ops j i=false→oi.apart ops oj=true) →
  (execOp a.eval oi=execOp ai.eval oi∧Region.wanted oi (yielded ops a.tmps)=Region.wanted oi (yielded ops ai.tmps)) →
  YO P ops oi ai v w→(∀ p∈pend,YW P ops p w)→wpV P ops Q f (⟨i,ai,v⟩ :: pend) (listed.setIfInBounds i true) (a.put oi.dst v) w→wpV P ops Q (f + 1) pend listed a w:=by
 have here : ∀ {a : Act} {w : World},(execOp a.eval oi=execOp ai.eval oi∧Region.wanted oi (yielded ops a.tmps)=Region.wanted oi (yielded ops ai.tmps))→YO P ops oi ai v w→YO P ops oi a v w:=by
  intro a w h hy
  unfold YO at *
  rw [h.1,h.2]
  exact hy
 intro f
 induction f with
 | zero =>
   intro pend listed a w hcl hr hfree hsame hy hp H
   refine ⟨fun h=>(by rw [h] at hr;cases hr),fun j hj=>?_⟩
   by_cases hji : j=i
   ·subst hji
    exact (here hsame hy).wpOp hi ⟨fun p hpm _=>hp p hpm,H⟩
   ·have:=ready_mono hj hji
    rw [H.1] at this
    cases this
 | succ f ih =>
   intro pend listed a w hcl hr hfree hsame hy hp H
   have hun:=(mem_ready.1 hr).1
   refine ⟨fun h=>(by rw [h] at hr;cases hr),fun j hj=>?_⟩
   by_cases hji : j=i
   ·subst hji
    exact (here hsame hy).wpOp hi ⟨fun p hpm _=>hp p hpm,wpV_mono _ (fun p hpm=>List.mem_cons_of_mem _ (List.mem_filter.1 hpm).1) H⟩
   ·have h1:=H.2 j (ready_mono hj hji)
    obtain ⟨hjun,oj,hoj,hall⟩:=mem_ready.1 hj
    have hd:=dep_false hj hoj hun
    have hd':=td_ready hcl hj hun
    have hap:=hfree j oj hoj hji hjun hd
    have hnot:=(Oper.apart_spec hap).2.2
    have h2:=wpOp_putZ hoj hap (fun cs b=>Region.noSelect_spec hsel j oj cs b hoj) (fun c a w h=>(hQ c _ w h).elim)
     (fun a'=>execOp a'.eval oi=execOp ai.eval oi∧Region.wanted oi (yielded ops a'.tmps)=Region.wanted oi (yielded ops ai.tmps))
     (fun a' u h=>⟨by rw [execOp_put oi (fun cs b=>Region.noSelect_spec hsel i oi cs b hi) a' oj.dst u hnot];exact h.1,by rw [wanted_put oi a' oj.dst u hnot];exact h.2⟩)
     (fun a' d h=>h) hsame h1
    refine wpOp_mono (fun a' w' ⟨hz,hv,hK⟩=>⟨fun p hpm hdp=>hv p (List.mem_cons_of_mem _ hpm) hdp,?_⟩) h2
    refine ih (closed_set hcl hj) (ready_mono hr (Ne.symm hji)) ?_ hz ?_ ?_ ?_
    ·intro k ok hk hki hun' hno
     refine hfree k ok hk hki ?_ hno
     by_cases hjk : j=k
     ·subst hjk;exact hjun
     ·rw [getD_set_ne true hjk] at hun';exact hun'
    ·obtain ⟨o,ho,hyo⟩:=hv ⟨i,ai,v⟩ (by simp) hd'
     simp only at ho
     rw [hi] at ho
     cases ho
     exact hyo
    ·intro p hpm
     obtain ⟨h3,h4⟩:=List.mem_filter.1 hpm
     exact hv p (List.mem_cons_of_mem _ h3) (by simpa using h4)
    ·rw [Array.setIfInBounds_comm _ _ hji]
     have e : (⟨i,ai,v⟩ :: pend).filter (fun p=>!tdB ops j p.i) = ⟨i,ai,v⟩ :: pend.filter (fun p=>!tdB ops j p.i):=by
      simp [List.filter_cons,hd']
     rw [e] at hK
     exact hK
def wpS (P : Program) (ops : Array Oper) (Q : Exit → Act → World → Prop) : List Nat → List Pend → Act → World → Prop
 | [],_,a,w=>Q .normal a w
 | i :: r,pend,a,w=>match ops[i]? with
   | none=>False
   | some o=>match isVal o.op with
     | true=>∃ v,YO P ops o a v w∧wpS P ops Q r (⟨i,a,v⟩ :: pend) (a.put o.dst v) w
     | false=>wpOp P ops Q i (fun a' w'=>(∀ p∈pend,tdB ops i p.i=false→YW P ops p w')∧wpS P ops Q r (pend.filter fun p=>!tdB ops i p.i) a' w') a w
def chkS (ops : Array Oper) : List Nat → Array Bool → Bool
 | [],listed=>(Region.ready .any ops listed).isEmpty
 | i :: r,listed=>(match ops[i]? with
   | none=>false
   | some o=>match isVal o.op with
     | true=>(Region.ready .any ops listed).contains i && (List.range ops.size).all fun j=>j == i || listed.getD j true || dep ops j i || ((ops[j]?).map fun oj=>o.apart ops oj).getD true
     | false=>Region.ready .any ops listed == [i]) && chkS ops r (listed.setIfInBounds i true)
theorem wpV_of_S (hsel : Region.noSelect ops = true) (hQ : ∀ c a w, ¬ Q (.panic c) a w) : ∀ (sch : List Nat) {pend : List Pend} {listed : Array Bool} {a : Act} {w : World}, Closed ops listed → chkS ops sch listed = true → (∀ p ∈ pend, YW P ops p w) →
 wpS P ops Q sch pend a w→wpV P ops Q sch.length pend listed a w
 | [],pend,listed,a,w,hcl,hc,hp,h=>⟨by simpa [chkS] using hc,h⟩
 | i :: r,pend,listed,a,w,hcl,hc,hp,h=>by
   unfold chkS at hc
   unfold wpS at h
   cases hi : ops[i]? with
   | none=>simp [hi] at h
   | some o =>
     simp only [hi,Bool.and_eq_true] at hc h
     obtain ⟨hc1,hc2⟩:=hc
     cases hv : isVal o.op with
     | true =>
       simp only [hv,Bool.and_eq_true] at hc1 h
       obtain ⟨v,hy,hs⟩:=h
       have hri : i∈Region.ready .any ops listed:=by simpa using hc1.1
       refine wpV_delay hsel hQ hi r.length (ai:=a) (v:=v) hcl hri ?_ ⟨rfl,rfl⟩ hy hp (wpV_of_S hsel hQ r (closed_set hcl hri) hc2 ?_ hs)
       ·intro j oj hoj hji hun hd
        have hlt : j < ops.size:=(Array.getElem?_eq_some_iff.1 hoj).1
        have:=List.all_eq_true.1 hc1.2 j (List.mem_range.2 hlt)
        simpa [hji,hun,hd,hoj] using this
       ·intro p hpm
        rcases List.mem_cons.1 hpm with rfl|hpm
        ·exact ⟨o,hi,hy⟩
        ·exact hp p hpm
     | false =>
       simp only [hv] at hc1 h
       have hr : Region.ready .any ops listed=[i]:=by simpa using hc1
       refine ⟨fun h0=>(by rw [hr] at h0;cases h0),fun j hj=>?_⟩
       have hcl':=closed_set hcl hj
       rw [hr] at hj
       simp at hj
       subst hj
       refine wpOp_mono (fun a' w' ⟨h1,h2⟩=>⟨h1,wpV_of_S hsel hQ r hcl' hc2 ?_ h2⟩) h
       intro p hpm
       obtain ⟨h3,h4⟩:=List.mem_filter.1 hpm
       exact h1 p h3 (by simpa using h4)
def onlyN (Q : Act → World → Prop) : Exit → Act → World → Prop
 | .normal,a,w=>Q a w
 | _,_,_=>False
def wpT (P : Program) (ops : Array Oper) (Q : Exit → Act → World → Prop) : Nat → List Nat → List Nat → List Pend → Act → World → Prop
 | 0,_,_,_,a,w=>Q .normal a w
 | n + 1,sch,sil,pend,a,w =>
   (∀ s∈sil,wpOp P ops Q s (fun a' w'=>(∀ p∈pend,YW P ops p w')∧wpT P ops Q n sch (sil.erase s) pend a' w') a w) ∧
   (∀ i r,sch=i :: r→(∀ s∈sil,dep ops i s=false)→∃ o,ops[i]? = some o ∧
    ((isVal o.op=true∧∃ v,YO P ops o a v w∧wpT P ops Q n r sil (⟨i,a,v⟩ :: pend) (a.put o.dst v) w) ∨
     (isVal o.op=false∧wpOp P ops Q i (fun a' w'=>(∀ p∈pend,tdB ops i p.i=false→YW P ops p w')∧wpT P ops Q n r sil (pend.filter fun p=>!tdB ops i p.i) a' w') a w)))
def chkT (ops : Array Oper) (sil0 : List Nat) : List Nat → Bool
 | []=>true
 | i :: r=>(match ops[i]? with
   | none=>false
   | some o=>(o.after.all fun e=>!Region.binds .any e || Nat.blt e.on ops.size) && ((i :: r).all fun j=>!dep ops i j) &&
     (match isVal o.op && sil0.all (fun s=>!dep ops i s) with
      | true=>(r ++ sil0).all fun j=>dep ops j i || ((ops[j]?).map fun oj=>o.apart ops oj).getD true
      | false=>r.all fun j=>(i :: r).any fun k=>dep ops j k)) && chkT ops sil0 r
theorem dep_of_ready {j k : Nat} {listed : Array Bool} (hj : j ∈ Region.ready .any ops listed) (hun : listed.getD k true = false) : dep ops j k = false := by
 obtain ⟨_,o,ho,_⟩:=mem_ready.1 hj
 exact dep_false hj ho hun
theorem wpV_of_T (hsel : Region.noSelect ops = true) (hQ : ∀ c a w, ¬ Q (.panic c) a w) {sil0 : List Nat} (hs0 : ∀ s ∈ sil0, ∃ o, ops[s]? = some o ∧ o.after = #[]) :
 ∀ (n : Nat) {sch sil : List Nat} {pend : List Pend} {listed : Array Bool} {a : Act} {w : World},sch.length + sil.length=n→chkT ops sil0 sch=true→(∀ s∈sil,s∈sil0)→(sch ++ sil).Nodup→listed.size=ops.size→Closed ops listed →
  (∀ j,listed.getD j true=false↔j∈sch∨j∈sil)→(∀ p∈pend,YW P ops p w)→wpT P ops Q n sch sil pend a w→wpV P ops Q n pend listed a w
 | 0,sch,sil,pend,listed,a,w,hn,hc,hss,hnd,hsz,hcl,hinv,hp,h=>by
   have e1 : sch=[]:=List.eq_nil_of_length_eq_zero (by omega)
   have e2 : sil=[]:=List.eq_nil_of_length_eq_zero (by omega)
   subst e1 e2
   refine ⟨List.eq_nil_iff_forall_not_mem.2 fun j hj=>?_,h⟩
   have:=(hinv j).1 (mem_ready.1 hj).1
   simp at this
 | n + 1,sch,sil,pend,listed,a,w,hn,hc,hss,hnd,hsz,hcl,hinv,hp,h=>by
   obtain ⟨hA,hB⟩:=h
   have lst : ∀ j,j < ops.size→∀ k,(listed.setIfInBounds j true).getD k true=false↔(listed.getD k true=false∧k ≠ j):=by
    intro j hj k
    by_cases e : j=k
    ·subst e
     simp [hsz,hj]
    ·rw [getD_set_ne true e]
     simp [Ne.symm e]
   have silready : ∀ s∈sil,s∈Region.ready .any ops listed:=by
    intro s hs
    obtain ⟨o,ho,haf⟩:=hs0 s (hss s hs)
    exact mem_ready.2 ⟨(hinv s).2 (.inr hs),o,ho,by simp [haf]⟩
   have sildep : ∀ s∈sil,∀ p,dep ops s p=false:=by
    intro s hs p
    obtain ⟨o,ho,haf⟩:=hs0 s (hss s hs)
    simp [dep,ho,haf]
   have silstep : ∀ s∈sil,wpOp P ops Q s (fun a' w'=>(∀ p∈pend,tdB ops s p.i=false→YW P ops p w')∧wpV P ops Q n (pend.filter fun p=>!tdB ops s p.i) (listed.setIfInBounds s true) a' w') a w:=by
    intro s hs
    obtain ⟨o,ho,haf⟩:=hs0 s (hss s hs)
    have hlt : s < ops.size:=(Array.getElem?_eq_some_iff.1 ho).1
    refine wpOp_mono (fun a' w' ⟨h1,h2⟩=>⟨fun p hpm _=>h1 p hpm,wpV_mono _ (fun p hpm=>(List.mem_filter.1 hpm).1) ?_⟩) (hA s hs)
    have hnd':=hnd
    rw [List.nodup_append] at hnd'
    refine wpV_of_T (sch:=sch) (sil:=sil.erase s) hsel hQ hs0 n (by have:=List.length_erase_of_mem hs;have:=List.length_pos_of_mem hs;omega) hc (fun x hx=>hss x (List.mem_of_mem_erase hx)) ?_ (by simpa using hsz) (closed_set hcl (silready s hs)) ?_ h1 h2
    ·rw [List.nodup_append]
     exact ⟨hnd'.1,hnd'.2.1.erase _,fun x hx y hy=>hnd'.2.2 x hx y (List.mem_of_mem_erase hy)⟩
    ·intro j
     rw [lst s hlt j,hinv j,hnd'.2.1.mem_erase_iff]
     constructor
     ·rintro ⟨h|h,hne⟩
      ·exact .inl h
      ·exact .inr ⟨hne,h⟩
     ·rintro (h|⟨hne,h⟩)
      ·exact ⟨.inl h,fun e=>hnd'.2.2 j h s hs e⟩
      ·exact ⟨.inr h,hne⟩
   cases sch with
   | nil =>
     refine ⟨fun h0=>?_,fun j hj=>?_⟩
     ·cases sil with
      | nil=>simp at hn
      | cons s l=>have:=silready s (by simp);rw [h0] at this;cases this
     ·rcases (hinv j).1 (mem_ready.1 hj).1 with h|h
      ·cases h
      ·exact silstep j h
   | cons i r =>
     unfold chkT at hc
     cases hi : ops[i]? with
     | none=>simp [hi] at hc
     | some o =>
       simp only [hi,Bool.and_eq_true] at hc
       obtain ⟨⟨⟨hc1,hc2⟩,hc3⟩,hc4⟩:=hc
       have hlt : i < ops.size:=(Array.getElem?_eq_some_iff.1 hi).1
       have hnd':=hnd
       rw [List.nodup_append,List.nodup_cons] at hnd'
       have hinv' : ∀ j,(listed.setIfInBounds i true).getD j true=false↔j∈r∨j∈sil:=by
        intro j
        rw [lst i hlt j,hinv j]
        constructor
        ·rintro ⟨h|h,hne⟩
         ·rcases List.mem_cons.1 h with h|h
          ·exact (hne h).elim
          ·exact .inl h
         ·exact .inr h
        ·rintro (h|h)
         ·exact ⟨.inl (List.mem_cons_of_mem _ h),fun e=>hnd'.1.1 (e ▸ h)⟩
         ·exact ⟨.inr h,fun e=>hnd'.2.2 i (by simp) j h e.symm⟩
       have hnd2 : (r ++ sil).Nodup:=by
        rw [List.nodup_append]
        exact ⟨hnd'.1.2,hnd'.2.1,fun x hx y hy=>hnd'.2.2 x (List.mem_cons_of_mem _ hx) y hy⟩
       have iready : (∀ s∈sil,dep ops i s=false)→i∈Region.ready .any ops listed:=by
        intro hd
        refine mem_ready.2 ⟨(hinv i).2 (.inl (by simp)),o,hi,fun e he hb=>?_⟩
        have hr:=Array.all_eq_true_iff_forall_mem.1 hc1 e he
        simp only [hb,Bool.not_true,Bool.false_or] at hr
        have hon : e.on < ops.size:=by simpa using hr
        have hdep : dep ops i e.on=true:=by
         simp only [dep,hi,Option.map_some,Option.getD_some,Array.any_eq_true',Bool.and_eq_true,beq_iff_eq]
         exact ⟨e,he,hb,rfl⟩
        have hnot : ¬ listed.getD e.on true=false:=by
         rw [hinv e.on]
         rintro (h|h)
         ·have:=List.all_eq_true.1 hc2 e.on h
          simp [hdep] at this
         ·rw [hd e.on h] at hdep;cases hdep
        have hin : e.on < listed.size:=by omega
        simp [hin] at hnot ⊢
        exact hnot
       cases hty : (isVal o.op && sil0.all fun s=>!dep ops i s) with
       | true =>
         rw [hty] at hc3
         simp only [Bool.and_eq_true] at hty
         have hd : ∀ s∈sil,dep ops i s=false:=fun s hs=>by simpa using List.all_eq_true.1 hty.2 s (hss s hs)
         obtain ⟨o',ho',hcase⟩:=hB i r rfl hd
         rw [hi] at ho'
         cases ho'
         rcases hcase with ⟨_,v,hy,hT⟩|⟨hf,_⟩
         ·refine wpV_delay hsel hQ hi n (ai:=a) (v:=v) hcl (iready hd) ?_ ⟨rfl,rfl⟩ hy hp (wpV_of_T hsel hQ hs0 n (by simp at hn;omega) hc4 hss hnd2 (by simpa using hsz) (closed_set hcl (iready hd)) hinv' ?_ hT)
          ·intro j oj hoj hji hun hdj
           have hmem : j∈r ++ sil0:=by
            rcases (hinv j).1 hun with h|h
            ·rcases List.mem_cons.1 h with h|h
             ·exact (hji h).elim
             ·exact List.mem_append.2 (.inl h)
            ·exact List.mem_append.2 (.inr (hss j h))
           have:=List.all_eq_true.1 hc3 j hmem
           simpa [hdj,hoj] using this
          ·intro p hpm
           rcases List.mem_cons.1 hpm with rfl|hpm
           ·exact ⟨o,hi,hy⟩
           ·exact hp p hpm
         ·rw [hty.1] at hf;cases hf
       | false =>
         rw [hty] at hc3
         refine ⟨fun h0=>?_,fun j hj=>?_⟩
         ·by_cases hd : ∀ s∈sil,dep ops i s=false
          ·have:=iready hd
           rw [h0] at this
           cases this
          ·have ⟨s,hs⟩ : ∃ s,s∈sil:=by
            cases sil with
            | nil=>exact (hd (by simp)).elim
            | cons s l=>exact ⟨s,by simp⟩
           have:=silready s hs
           rw [h0] at this
           cases this
         ·rcases (hinv j).1 (mem_ready.1 hj).1 with h|h
          ·rcases List.mem_cons.1 h with rfl|h
           ·have hd : ∀ s∈sil,dep ops j s=false:=fun s hs=>dep_of_ready hj ((hinv s).2 (.inr hs))
            obtain ⟨o',ho',hcase⟩:=hB j r rfl hd
            rw [hi] at ho'
            cases ho'
            rcases hcase with ⟨_,v,hy,hT⟩|⟨_,hw⟩
            ·refine hy.wpOp hi ⟨fun p hpm _=>hp p hpm,wpV_mono _ (fun p hpm=>List.mem_cons_of_mem _ (List.mem_filter.1 hpm).1) (wpV_of_T hsel hQ hs0 n (by simp at hn;omega) hc4 hss hnd2 (by simpa using hsz) (closed_set hcl hj) hinv' ?_ hT)⟩
             intro p hpm
             rcases List.mem_cons.1 hpm with rfl|hpm
             ·exact ⟨o,hi,hy⟩
             ·exact hp p hpm
            ·refine wpOp_mono (fun a' w' ⟨h1,h2⟩=>⟨h1,wpV_of_T hsel hQ hs0 n (by simp at hn;omega) hc4 hss hnd2 (by simpa using hsz) (closed_set hcl hj) hinv' ?_ h2⟩) hw
             intro p hpm
             obtain ⟨h3,h4⟩:=List.mem_filter.1 hpm
             exact h1 p h3 (by simpa using h4)
           ·have:=List.all_eq_true.1 hc3 j h
            obtain ⟨k,hk,hdk⟩:=List.any_eq_true.1 this
            rw [dep_of_ready hj ((hinv k).2 (.inl hk))] at hdk
            cases hdk
          ·exact silstep j h
end
end Go.Proofs.YtkflmidichikjaaGreatDoor.V
namespace Go.Proofs.YtkflmidichikjaaGreatDoor.V
open Go.RowKit
structure SP where
 i : Nat
 o : Oper
 tm : List (Nat × SV)
 x : SV
@[irreducible] def andX (p : Prop) (k : Unit → Prop) : Prop := p ∧ k ()
theorem andX_iff {p : Prop} {k : Unit → Prop} : andX p k ↔ p ∧ k () := by unfold andX; exact Iff.rfl
theorem andX_i {p : Prop} {k : Unit → Prop} (h1 : p) (h2 : k ()) : andX p k := andX_iff.2 ⟨h1, h2⟩
def vX (C : Ctx) (ob : List OB) : List SP → (Unit → Prop) → Prop
 | [],k=>k ()
 | p :: r,k=>andX (xval C p.o p.tm ob fun x=>x=p.x) fun _=>vX C ob r k
def pureOp : Op → Bool
 | .move _|.assign _|.pick ..|.extract ..|.unOp ..=>true
 | _=>false
def bindsG : Ground → Bool
 | .textOnly _=>false
 | .gcOnly _=>false
 | _=>true
def depL : List Edge → Nat → Bool
 | [],_=>false
 | e :: r,p=>match bindsG e.ground,Nat.beq e.on p with
   | true,true=>true
   | _,_=>depL r p
def depLs : List (List Edge) → Nat → Bool
 | [],_=>false
 | es :: r,p=>match depL es p with
   | true=>true
   | false=>depLs r p
def filtKs (ess : List (List Edge)) : List SP → (List SP → Prop) → Prop
 | [],k=>k []
 | p :: r,k=>match depLs ess p.i with
   | true=>filtKs (p.o.after.toList :: ess) r k
   | false=>filtKs ess r fun r'=>k (p :: r')
def filtK (es : List Edge) (pd : List SP) (k : List SP → Prop) : Prop := filtKs [es] pd k
def runS (C : Ctx) (o : Oper) (i : Nat) (pd : List SP) (tm : List (Nat × SV)) (ob : List OB) (kk : List SP → List (Nat × SV) → List OB → Prop) : Prop :=
 match isVal o.op with
 | true=>xval C o tm ob fun x=>putT C o.dst x tm fun tm'=>match pureOp o.op with
   | true=>kk pd tm' ob
   | false=>kk (⟨i,o,tm,x⟩ :: pd) tm' ob
 | false=>xop C o tm ob fun x ob'=>filtK o.after.toList pd fun pd'=>vX C ob' pd' fun _=>putT C o.dst x tm fun tm'=>kk pd' tm' ob'
def skipS (C : Ctx) (o : Oper) (pd : List SP) (tm : List (Nat × SV)) (ob : List OB) (kk : List SP → List (Nat × SV) → List OB → Prop) : Prop :=
 putT C o.dst (.v undef) tm fun tm'=>match isVal o.op with
  | true=>kk pd tm' ob
  | false=>filtK o.after.toList pd fun pd'=>kk pd' tm' ob
def xsch (C : Ctx) (full : List Oper) : List Nat → List SP → List (Nat × SV) → List OB → (List (Nat × SV) → List OB → Prop) → Prop
 | [],_,tm,ob,k=>k tm ob
 | i :: r,pd,tm,ob,k=>match nth full i with
   | none=>False
   | some o=>match o.guard with
     | none=>runS C o i pd tm ob fun pd tm ob=>xsch C full r pd tm ob k
     | some (j,want)=>match nth full j with
       | some g=>match g.dst with
         | some d=>match look tm d with
           | some (.v (.bool b))=>match want with
             | true=>xif b (fun _=>runS C o i pd ((d,.v (.bool true)) :: tm) ob fun pd tm ob=>xsch C full r pd tm ob k) (fun _=>skipS C o pd ((d,.v (.bool false)) :: tm) ob fun pd tm ob=>xsch C full r pd tm ob k)
             | false=>xif b (fun _=>skipS C o pd ((d,.v (.bool true)) :: tm) ob fun pd tm ob=>xsch C full r pd tm ob k) (fun _=>runS C o i pd ((d,.v (.bool false)) :: tm) ob fun pd tm ob=>xsch C full r pd tm ob k)
           | some (.v (.tuple _))=>skipS C o pd tm ob fun pd tm ob=>xsch C full r pd tm ob k
           | _=>False
         | none=>False
       | none=>False
section
variable {C : Ctx} {ob : List OB} {σ : Nat → Nat} {G : Fz} {fp : Nat → Nat → Prop} {a : Act} {w : World}
theorem Mem.drew (h : Mem C σ G fp ob w) : Mem C σ G fp ob w.drew :=
 ⟨fun k o hk=>OB.at_ext (h.at_ k o hk) (fun _ _=>rfl) (Ev.same (Nat.le_refl _)) fun _ _=>rfl,h.disj,h.lo,h.hi,⟨h.kept.os,h.kept.tape,h.kept.output,h.kept.size,h.kept.block⟩,h.fz,h.src,h.pin,fun hd=>Nat.le_succ_of_le (h.drw hd)⟩
theorem pure_any {P : Program} {o : Oper} {ρ : Operand → Value} {v : Value} {w : World} (hp : pureOp o.op = true) (h : (execOp ρ o).run P w = .ok (.value v) w) (w' : World) : (execOp ρ o).run P w' = .ok (.value v) w' := by
 obtain ⟨dst,op,ty,pos,after,guard⟩:=o
 cases op<;>simp only [pureOp,Bool.false_eq_true] at hp
 case move x=>simp [execOp] at h ⊢;exact h
 case assign x=>simp [execOp] at h ⊢;exact h
 case pick c x y =>
  simp only [execOp,Sem.run_bind] at h ⊢
  cases hc : ρ c<;>simp [hc,asBool,stuck,Sem.run] at h ⊢
  exact h
 case extract x i =>
  simp only [execOp,Instr.extract,Sem.run_bind] at h ⊢
  cases hc : ρ x<;>simp [hc,stuck,Sem.run] at h ⊢
  rename_i vs
  cases hi : vs[i]?<;>simp [hi,stuck,Sem.run] at h ⊢
  exact h
 case unOp op t x =>
  simp only [execOp,Sem.run_bind] at h ⊢
  cases op<;>cases hc : ρ x<;>simp [hc,Op.unary,Op.intArith,Op.intBits,stuck,unsupported,Sem.run] at h ⊢<;>first|exact h|(rename_i q;cases q<;>simp [stuck,unsupported,Sem.run] at h)
theorem depL_eq (ops : Array Oper) {i p : Nat} {o : Oper} (hi : ops[i]? = some o) : dep ops i p = depL o.after.toList p := by
 have key : ∀ l : List Edge,(l.any fun e=>Region.binds .any e && e.on == p)=depL l p:=by
  intro l
  induction l with
  | nil=>rfl
  | cons e r ih =>
    have hb : Region.binds .any e=bindsG e.ground:=by
     unfold Region.binds bindsG
     cases e.ground<;>rfl
    rw [List.any_cons,ih,hb]
    show _=(match bindsG e.ground,Nat.beq e.on p with|true,true=>true|_,_=>depL r p)
    cases bindsG e.ground with
    | false=>simp
    | true =>
      cases hq : Nat.beq e.on p with
      | true=>simp [Nat.eq_of_beq_eq_true hq]
      | false =>
        have : e.on ≠ p:=fun e'=>by simp [e'] at hq
        simp [this]
 simp only [dep,hi,Option.map_some,Option.getD_some]
 rw [← key,Array.any_toList]
def filtLs (ess : List (List Edge)) : List SP → List SP
 | []=>[]
 | p :: r=>match depLs ess p.i with
   | true=>filtLs (p.o.after.toList :: ess) r
   | false=>p :: filtLs ess r
def filtL (es : List Edge) (pd : List SP) : List SP := filtLs [es] pd
theorem filtKs_spec : ∀ {pd : List SP} {ess : List (List Edge)} {k : List SP → Prop}, filtKs ess pd k → k (filtLs ess pd)
 | [],ess,k,h=>h
 | p :: r,ess,k,h=>by
   unfold filtKs at h
   unfold filtLs
   cases hd : depLs ess p.i with
   | true =>
     rw [hd] at h
     exact filtKs_spec h
   | false =>
     rw [hd] at h
     exact filtKs_spec (k:=fun r'=>k (p :: r')) h
theorem filtK_spec {es : List Edge} {pd : List SP} {k : List SP → Prop} (h : filtK es pd k) : k (filtL es pd) := filtKs_spec h
theorem filtLs_sub : ∀ {pd : List SP} {ess : List (List Edge)} {s : SP}, s ∈ filtLs ess pd → s ∈ pd
 | [],_,_,h=>h
 | p :: r,ess,s,h=>by
   unfold filtLs at h
   split at h
   ·exact List.mem_cons_of_mem _ (filtLs_sub h)
   ·rcases List.mem_cons.1 h with rfl|h
    ·exact List.mem_cons_self
    ·exact List.mem_cons_of_mem _ (filtLs_sub h)
theorem filtL_sub {es : List Edge} {pd : List SP} {s : SP} (h : s ∈ filtL es pd) : s ∈ pd := filtLs_sub h
theorem depLs_mem : ∀ {ess : List (List Edge)} {q : Nat}, depLs ess q = true → ∃ es ∈ ess, depL es q = true
 | [],_,h=>by cases h
 | es :: r,q,h=>by
   unfold depLs at h
   cases hd : depL es q with
   | true=>exact ⟨es,List.mem_cons_self,hd⟩
   | false =>
     rw [hd] at h
     obtain ⟨e,h1,h2⟩:=depLs_mem h
     exact ⟨e,List.mem_cons_of_mem _ h1,h2⟩
def PInv (C : Ctx) (ops : Array Oper) (σ : Nat → Nat) (n : Ev) (pd : List SP) (pend : List Pend) : Prop :=
 (∀ s∈pd,ops[s.i]? = some s.o)∧∀ p∈pend,(∀ w,YW C.P ops p w)∨∃ s∈pd,s.i=p.i∧ops[p.i]? = some s.o∧Region.wanted s.o (yielded ops p.a.tmps)=true∧Tm C σ n s.tm p.a∧p.v=s.x.val σ∧s.x.wf n
theorem vX_spec : ∀ {pd : List SP} {k : Unit → Prop}, vX C ob pd k → (∀ s ∈ pd, xval C s.o s.tm ob fun x => x = s.x) ∧ k ()
 | [],k,h=>⟨by simp,h⟩
 | p :: r,k,h=>by
   unfold vX at h
   rw [andX_iff] at h
   obtain ⟨h1,h2⟩:=vX_spec h.2
   refine ⟨fun s hs=>?_,h2⟩
   rcases List.mem_cons.1 hs with rfl|hs
   ·exact h.1
   ·exact h1 s hs
theorem filtLs_td {ops : Array Oper} {i : Nat} : ∀ {pd : List SP} {ess : List (List Edge)}, (∀ s ∈ pd, ops[s.i]? = some s.o) → (∀ es ∈ ess, ∀ q, depL es q = true → TD ops i q) → ∀ s ∈ pd, s ∈ filtLs ess pd ∨ TD ops i s.i
 | [],_,_,_,s,hs=>by cases hs
 | p :: r,ess,hops,hg,s,hs=>by
   unfold filtLs
   cases hd : depLs ess p.i with
   | true =>
     obtain ⟨es,h1,h2⟩:=depLs_mem hd
     have hp : TD ops i p.i:=hg es h1 _ h2
     rcases List.mem_cons.1 hs with rfl|hs
     ·exact .inr hp
     ·refine filtLs_td (fun s hs=>hops s (List.mem_cons_of_mem _ hs)) ?_ s hs
      intro es' he q hq
      rcases List.mem_cons.1 he with rfl|he
      ·exact hp.snoc (by rw [depL_eq ops (hops p List.mem_cons_self)];exact hq)
      ·exact hg es' he q hq
   | false =>
     rcases List.mem_cons.1 hs with rfl|hs
     ·exact .inl List.mem_cons_self
     ·rcases filtLs_td (fun s hs=>hops s (List.mem_cons_of_mem _ hs)) hg s hs with h|h
      ·exact .inl (List.mem_cons_of_mem _ h)
      ·exact .inr h
theorem filtL_td {ops : Array Oper} {i : Nat} {o : Oper} (hi : ops[i]? = some o) {pd : List SP} (hops : ∀ s ∈ pd, ops[s.i]? = some s.o) {s : SP} (hs : s ∈ pd) (hn : tdB ops i s.i = false) : s ∈ filtL o.after.toList pd := by
 rcases filtLs_td (ops:=ops) (i:=i) (ess:=[o.after.toList]) hops (fun es he q hq=>by
  obtain rfl:=List.mem_singleton.1 he
  exact .one (by rw [depL_eq ops hi];exact hq)) s hs with h|h
 ·exact h
 ·rw [tdB_true.2 h] at hn
  cases hn
theorem PInv.again (hT : TabOk C.P C.T) {ops : Array Oper} {n : Ev} {pd : List SP} {pend : List Pend} (h : PInv C ops σ n pd pend) {σ' : Nat → Nat} {G' : Fz} {fp' : Nat → Nat → Prop} {ob' : List OB} {w' : World} (hσ : ∀ j, j < n.n → σ' j = σ j) (hn : n.le ⟨G', ob'.length⟩)
 (hm : Mem C σ' G' fp' ob' w') {i : Nat} {o : Oper} (hi : ops[i]? = some o) (hv : ∀ s∈filtL o.after.toList pd,xval C s.o s.tm ob' fun x=>x=s.x) :
 (∀ p∈pend,tdB ops i p.i=false→YW C.P ops p w')∧PInv C ops σ' ⟨G',ob'.length⟩ (filtL o.after.toList pd) (pend.filter fun p=>!tdB ops i p.i):=by
 refine ⟨fun p hp hd=>?_,fun s hs=>h.1 s (filtL_sub hs),fun p hp=>?_⟩
 ·rcases h.2 p hp with h1|⟨s,hs,h1,h2,h3,h4,h5,h6⟩
  ·exact h1 w'
  ·rw [← h1] at hd
   obtain ⟨x,hx,hrun,_⟩:=xval_sound hT (hv s (filtL_td hi h.1 hs hd)) (h4.ext hσ hn) hm
   subst hx
   refine ⟨s.o,h2,.inl ⟨h3,?_⟩⟩
   rw [h5,← SV.val_ext hσ s.x h6]
   exact hrun
 ·obtain ⟨hp1,hp2⟩:=List.mem_filter.1 hp
  rcases h.2 p hp1 with h1|⟨s,hs,h1,h2,h3,h4,h5,h6⟩
  ·exact .inl h1
  ·refine .inr ⟨s,filtL_td hi h.1 hs ?_,h1,h2,h3,h4.ext hσ hn,by rw [h5,SV.val_ext hσ s.x h6],SV.wf_mono hn _ h6⟩
   rw [← h1] at hp2
   simpa using hp2
theorem PInv.filt {ops : Array Oper} {n : Ev} {pd : List SP} {pend : List Pend} (h : PInv C ops σ n pd pend) {i : Nat} {o : Oper} (hi : ops[i]? = some o) : PInv C ops σ n (filtL o.after.toList pd) (pend.filter fun p => !tdB ops i p.i) := by
 refine ⟨fun s hs=>h.1 s (filtL_sub hs),fun p hp=>?_⟩
 obtain ⟨hp1,hp2⟩:=List.mem_filter.1 hp
 rcases h.2 p hp1 with h1|⟨s,hs,h1,h2⟩
 ·exact .inl h1
 ·refine .inr ⟨s,filtL_td hi h.1 hs ?_,h1,h2⟩
  rw [← h1] at hp2
  simpa using hp2
theorem xsch_sound (hT : TabOk C.P C.T) {Q : Act → World → Prop} {full : List Oper} : ∀ {sch : List Nat} {pd : List SP} {pend : List Pend} {tm : List (Nat × SV)} {ob : List OB} {k : List (Nat × SV) → List OB → Prop} {σ : Nat → Nat} {G : Fz} {fp : Nat → Nat → Prop} {a : Act} {w : World},
 xsch C full sch pd tm ob k→Rel C tm ob σ G fp a w→PInv C full.toArray σ ⟨G,ob.length⟩ pd pend→(∀ p∈pend,YW C.P full.toArray p w)→(∀ tm ob σ G fp a w,k tm ob→Rel C tm ob σ G fp a w→Q a w) →
 wpS C.P full.toArray (onlyN Q) sch pend a w
 | [],pd,pend,tm,ob,k,σ,G,fp,a,w,h,hr,hp,hpw,hk=>hk _ _ _ _ _ _ _ h hr
 | i :: r,pd,pend,tm,ob,k,σ,G,fp,a,w,h,hr,hp,hpw,hk=>by
   unfold xsch at h
   cases hn : nth full i with
   | none=>simp [hn] at h
   | some o =>
     simp only [hn] at h
     have hi : full.toArray[i]? = some o:=by simpa [nth_eq] using hn
     have run : ∀ tm,Rel C tm ob σ G fp a w→Region.wanted o (yielded full.toArray a.tmps)=true→(runS C o i pd tm ob fun pd tm ob=>xsch C full r pd tm ob k)→wpS C.P full.toArray (onlyN Q) (i :: r) pend a w:=by
      intro tm hr hw hx
      unfold wpS
      simp only [hi]
      unfold runS at hx
      cases hv : isVal o.op with
      | true =>
        simp only [hv] at hx ⊢
        obtain ⟨x,h1,hrun,hwf⟩:=xval_sound hT hx hr.tm hr.mem
        obtain ⟨tm',h2,h3⟩:=putT_spec (n:=none) (σ':=σ) h1 hr.tm hwf
        refine ⟨x.val σ,.inl ⟨hw,hrun⟩,?_⟩
        have hpw' : ∀ p∈(⟨i,a,x.val σ⟩ : Pend) :: pend,YW C.P full.toArray p w:=by
         intro p hpm
         rcases List.mem_cons.1 hpm with rfl|hpm
         ·exact ⟨o,hi,.inl ⟨hw,hrun⟩⟩
         ·exact hpw p hpm
        split at h2
        ·rename_i hpo
         refine xsch_sound hT h2 ⟨h3,hr.mem⟩ ⟨hp.1,?_⟩ hpw' hk
         intro p hpm
         rcases List.mem_cons.1 hpm with rfl|hpm
         ·exact .inl fun w'=>⟨o,hi,.inl ⟨hw,pure_any hpo hrun w'⟩⟩
         ·exact hp.2 p hpm
        ·refine xsch_sound hT h2 ⟨h3,hr.mem⟩ ⟨fun s hs=>?_,?_⟩ hpw' hk
         ·rcases List.mem_cons.1 hs with rfl|hs
          ·exact hi
          ·exact hp.1 s hs
         intro p hpm
         rcases List.mem_cons.1 hpm with rfl|hpm
         ·exact .inr ⟨_,List.mem_cons_self,rfl,hi,hw,hr.tm,rfl,hwf⟩
         ·rcases hp.2 p hpm with h4|⟨s,hs,h5⟩
          ·exact .inl h4
          ·exact .inr ⟨s,List.mem_cons_of_mem _ hs,h5⟩
      | false =>
        simp only [hv] at hx ⊢
        unfold wpOp
        simp only [hi,hw,if_true]
        refine .inl (xop_sound hT hx hr ?_)
        rintro v w' ⟨x,ob',σ',G',fp',hf,hσ,hG,hn0,rfl,hwf,hm,hfr⟩
        have hn' : Ev.le ⟨G,ob.length⟩ ⟨G',ob'.length⟩:=⟨hG,hn0⟩
        obtain ⟨h1,h2⟩:=vX_spec (filtK_spec hf)
        obtain ⟨h3,h4⟩:=hp.again hT hσ hn' hm hi h1
        refine ⟨h3,?_⟩
        obtain ⟨tm',h5,h6⟩:=putT_spec (n:=none) (σ':=σ') h2 (hr.tm.ext hσ hn') hwf
        exact xsch_sound hT h5 ⟨h6,hm⟩ h4 (fun p hpm=>h3 p (List.mem_filter.1 hpm).1 (by simpa using (List.mem_filter.1 hpm).2)) hk
     have skip : ∀ tm,Rel C tm ob σ G fp a w→Region.wanted o (yielded full.toArray a.tmps)=false→(skipS C o pd tm ob fun pd tm ob=>xsch C full r pd tm ob k)→wpS C.P full.toArray (onlyN Q) (i :: r) pend a w:=by
      intro tm hr hw hx
      unfold skipS at hx
      obtain ⟨tm',h2,h3⟩:=putT_spec (n:=none) (σ':=σ) hx hr.tm (x:=.v undef) trivial
      unfold wpS
      simp only [hi]
      cases hv : isVal o.op with
      | true =>
        simp only [hv] at h2 ⊢
        refine ⟨undef,.inr ⟨hw,rfl⟩,xsch_sound hT h2 ⟨h3,hr.mem⟩ ⟨hp.1,?_⟩ ?_ hk⟩
        ·intro p hpm
         rcases List.mem_cons.1 hpm with rfl|hpm
         ·exact .inl fun w'=>⟨o,hi,.inr ⟨hw,rfl⟩⟩
         ·exact hp.2 p hpm
        ·intro p hpm
         rcases List.mem_cons.1 hpm with rfl|hpm
         ·exact ⟨o,hi,.inr ⟨hw,rfl⟩⟩
         ·exact hpw p hpm
      | false =>
        simp only [hv] at h2 ⊢
        unfold wpOp
        simp only [hi,hw,Bool.false_eq_true,if_false]
        have h5:=filtK_spec h2
        exact ⟨fun p hpm _=>hpw p hpm,xsch_sound hT h5 ⟨h3,hr.mem⟩ (hp.filt hi) (fun p hpm=>hpw p (List.mem_filter.1 hpm).1) hk⟩
     cases hg : o.guard with
     | none =>
       simp only [hg] at h
       exact run tm hr (by simp [Region.wanted,hg]) h
     | some jw =>
       obtain ⟨j,want⟩:=jw
       simp only [hg] at h
       split at h
       ·rename_i g hj
        split at h
        ·rename_i d hd
         split at h
         ·rename_i b hl
          have hy:=yield_spec hr.tm hj hd hl
          have lit : Rel C ((d,.v (.bool b)) :: tm) ob σ G fp a w:=hr.lit hl
          split at h
          ·rw [xif_iff] at h
           cases b with
           | true=>exact run _ lit (by simp [Region.wanted,hg,hy]) (h.1 rfl)
           | false=>exact skip _ lit (by simp [Region.wanted,hg,hy]) (h.2 rfl)
          ·rw [xif_iff] at h
           cases b with
           | true=>exact skip _ lit (by simp [Region.wanted,hg,hy]) (h.1 rfl)
           | false=>exact run _ lit (by simp [Region.wanted,hg,hy]) (h.2 rfl)
         ·rename_i l hl
          have hy:=yield_none hr.tm hj hd hl
          exact skip _ hr (by simp [Region.wanted,hg,hy]) h
         ·exact h.elim
        ·exact h.elim
       ·exact h.elim
def memN (x : Nat) : List Nat → Bool
 | []=>false
 | y :: r=>match Nat.beq x y with
   | true=>true
   | false=>memN x r
def readyL (done : List Nat) : List Edge → Bool
 | []=>true
 | e :: r=>match bindsG e.ground,memN e.on done with
   | true,false=>false
   | _,_=>readyL done r
def takeK (v : Bool) (done : List Nat) : List (Nat × Oper) → (Nat → List (Nat × Oper) → Prop) → (Unit → Prop) → Prop
 | [],_,no=>no ()
 | (i,o) :: r,yes,no=>match readyL done o.after.toList,v,isVal o.op with
   | true,true,true=>yes i r
   | true,false,_=>yes i r
   | _,_,_=>takeK v done r (fun j r'=>yes j ((i,o) :: r')) no
def zipL {α : Type} : List Nat → List α → List (Nat × α)
 | m :: ms,x :: r=>(m,x) :: zipL ms r
 | _,_=>[]
theorem takeK_spec {v : Bool} {done : List Nat} : ∀ {l : List (Nat × Oper)} {yes : Nat → List (Nat × Oper) → Prop} {no : Unit → Prop}, takeK v done l yes no → (∃ i r, yes i r) ∨ no ()
 | [],yes,no,h=>.inr h
 | (i,o) :: r,yes,no,h=>by
   unfold takeK at h
   split at h
   ·exact .inl ⟨_,_,h⟩
   ·exact .inl ⟨_,_,h⟩
   ·rcases takeK_spec h with ⟨j,r',h1⟩|h1
    ·exact .inl ⟨_,_,h1⟩
    ·exact .inr h1
end
end Go.Proofs.YtkflmidichikjaaGreatDoor.V
end
