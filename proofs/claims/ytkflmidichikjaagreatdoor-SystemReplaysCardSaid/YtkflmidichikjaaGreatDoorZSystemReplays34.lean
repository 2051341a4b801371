import Derived.Test.YtkflmidichikjaaGreatDoorZSystemReplays25
import Derived.Test.YtkflmidichikjaaGreatDoorZSystemReplays33
set_option linter.all false
section
namespace Go.Proofs.YtkflmidichikjaaGreatDoor.V
open Go.RowKit
set_option maxRecDepth 100000
inductive ST where
 | nil
 | op (i : Nat) (t : ST)
 | alt (i : Nat) (t u : ST)
def stepX (C : Ctx) (full : List Oper) (i : Nat) (pd : List SP) (tm : List (Nat × SV)) (ob : List OB) (kk : List SP → List (Nat × SV) → List OB → Prop) : Prop :=
 match nth full i with
  | none=>False
  | some o=>match o.guard with
    | none=>runS C o i pd tm ob kk
    | some (j,want)=>match nth full j with
      | some g=>match g.dst with
        | some d=>match look tm d with
          | some (.v (.bool b))=>match want with
            | true=>xif b (fun _=>runS C o i pd ((d,.v (.bool true)) :: tm) ob kk) (fun _=>skipS C o pd ((d,.v (.bool false)) :: tm) ob kk)
            | false=>xif b (fun _=>skipS C o pd ((d,.v (.bool true)) :: tm) ob kk) (fun _=>runS C o i pd ((d,.v (.bool false)) :: tm) ob kk)
          | some (.v (.tuple _))=>skipS C o pd tm ob kk
          | _=>False
        | none=>False
      | none=>False
def xtree (C : Ctx) (full : List Oper) : ST → List SP → List (Nat × SV) → List OB → (List (Nat × SV) → List OB → Prop) → Prop
 | .nil,_,tm,ob,k=>k tm ob
 | .op i t,pd,tm,ob,k=>stepX C full i pd tm ob fun pd tm ob=>xtree C full t pd tm ob k
 | .alt i t u,pd,tm,ob,k=>(stepX C full i pd tm ob fun pd tm ob=>xtree C full t pd tm ob k)∧xtree C full u pd tm ob k
def stepW (P : Program) (ops : Array Oper) (Q : Exit → Act → World → Prop) (i : Nat) (K : List Pend → Act → World → Prop) (pend : List Pend) (a : Act) (w : World) : Prop :=
 match ops[i]? with
  | none=>False
  | some o=>match isVal o.op with
    | true=>∃ v,YO P ops o a v w∧K (⟨i,a,v⟩ :: pend) (a.put o.dst v) w
    | false=>wpOp P ops Q i (fun a' w'=>(∀ p∈pend,tdB ops i p.i=false→YW P ops p w')∧K (pend.filter fun p=>!tdB ops i p.i) a' w') a w
def wpTree (P : Program) (ops : Array Oper) (Q : Exit → Act → World → Prop) : ST → List Pend → Act → World → Prop
 | .nil,_,a,w=>Q .normal a w
 | .op i t,pend,a,w=>stepW P ops Q i (wpTree P ops Q t) pend a w
 | .alt i t u,pend,a,w=>stepW P ops Q i (wpTree P ops Q t) pend a w∧wpTree P ops Q u pend a w
section
variable {C : Ctx} {ob : List OB} {σ : Nat → Nat} {G : Fz} {fp : Nat → Nat → Prop} {a : Act} {w : World}
theorem stepX_sound (hT : TabOk C.P C.T) {Q : Act → World → Prop} {full : List Oper} {i : Nat} {pd : List SP} {pend : List Pend} {tm : List (Nat × SV)} {K : List Pend → Act → World → Prop} {kk : List SP → List (Nat × SV) → List OB → Prop}
 (h : stepX C full i pd tm ob kk) (hr : Rel C tm ob σ G fp a w) (hp : PInv C full.toArray σ ⟨G,ob.length⟩ pd pend) (hpw : ∀ p∈pend,YW C.P full.toArray p w)
 (hk : ∀ pd pend tm ob σ G fp a w,kk pd tm ob→Rel C tm ob σ G fp a w→PInv C full.toArray σ ⟨G,ob.length⟩ pd pend→(∀ p∈pend,YW C.P full.toArray p w)→K pend a w) : stepW C.P full.toArray (onlyN Q) i K pend a w:=by
 unfold stepX at h
 cases hn : nth full i with
 | none=>simp [hn] at h
 | some o =>
   simp only [hn] at h
   have hi : full.toArray[i]? = some o:=by simpa [nth_eq] using hn
   have run : ∀ tm,Rel C tm ob σ G fp a w→Region.wanted o (yielded full.toArray a.tmps)=true→(runS C o i pd tm ob kk)→stepW C.P full.toArray (onlyN Q) i K pend a w:=by
    intro tm hr hw hx
    unfold stepW
    simp only [hi]
    unfold runS at hx
    cases hv : isVal o.op with
    | true =>
      simp only [hv] at hx ⊢
      obtain ⟨x,h1,hrun,hwf⟩:=xval_sound hT hx hr.tm hr.mem
      obtain ⟨tm',h2,h3⟩:=putT_spec (n:=none) (σ':=σ) h1 hr.tm hwf
      refine ⟨x.val σ,.inl ⟨hw,hrun⟩,?_⟩
      have hpw' : ∀ p∈(⟨i,a,x.val σ⟩ : Pend) :: pend,YW C.P full.toArray p w:=by
       intro p hpm
       rcases List.mem_cons.1 hpm with rfl|hpm
       ·exact ⟨o,hi,.inl ⟨hw,hrun⟩⟩
       ·exact hpw p hpm
      split at h2
      ·rename_i hpo
       refine hk _ _ _ _ _ _ _ _ _ h2 ⟨h3,hr.mem⟩ ⟨hp.1,?_⟩ hpw'
       intro p hpm
       rcases List.mem_cons.1 hpm with rfl|hpm
       ·exact .inl fun w'=>⟨o,hi,.inl ⟨hw,pure_any hpo hrun w'⟩⟩
       ·exact hp.2 p hpm
      ·refine hk _ _ _ _ _ _ _ _ _ h2 ⟨h3,hr.mem⟩ ⟨fun s hs=>?_,?_⟩ hpw'
       ·rcases List.mem_cons.1 hs with rfl|hs
        ·exact hi
        ·exact hp.1 s hs
       intro p hpm
       rcases List.mem_cons.1 hpm with rfl|hpm
       ·exact .inr ⟨_,List.mem_cons_self,rfl,hi,hw,hr.tm,rfl,hwf⟩
       ·rcases hp.2 p hpm with h4|⟨s,hs,h5⟩
        ·exact .inl h4
        ·exact .inr ⟨s,List.mem_cons_of_mem _ hs,h5⟩
    | false =>
      simp only [hv] at hx ⊢
      unfold wpOp
      simp only [hi,hw,if_true]
      refine .inl (xop_sound hT hx hr ?_)
      rintro v w' ⟨x,ob',σ',G',fp',hf,hσ,hG,hn0,rfl,hwf,hm,hfr⟩
      have hn' : Ev.le ⟨G,ob.length⟩ ⟨G',ob'.length⟩:=⟨hG,hn0⟩
      obtain ⟨h1,h2⟩:=vX_spec (filtK_spec hf)
      obtain ⟨h3,h4⟩:=hp.again hT hσ hn' hm hi h1
      refine ⟨h3,?_⟩
      obtain ⟨tm',h5,h6⟩:=putT_spec (n:=none) (σ':=σ') h2 (hr.tm.ext hσ hn') hwf
      exact hk _ _ _ _ _ _ _ _ _ h5 ⟨h6,hm⟩ h4 (fun p hpm=>h3 p (List.mem_filter.1 hpm).1 (by simpa using (List.mem_filter.1 hpm).2))
   have skip : ∀ tm,Rel C tm ob σ G fp a w→Region.wanted o (yielded full.toArray a.tmps)=false→(skipS C o pd tm ob kk)→stepW C.P full.toArray (onlyN Q) i K pend a w:=by
    intro tm hr hw hx
    unfold skipS at hx
    obtain ⟨tm',h2,h3⟩:=putT_spec (n:=none) (σ':=σ) hx hr.tm (x:=.v undef) trivial
    unfold stepW
    simp only [hi]
    cases hv : isVal o.op with
    | true =>
      simp only [hv] at h2 ⊢
      refine ⟨undef,.inr ⟨hw,rfl⟩,hk _ _ _ _ _ _ _ _ _ h2 ⟨h3,hr.mem⟩ ⟨hp.1,?_⟩ ?_⟩
      ·intro p hpm
       rcases List.mem_cons.1 hpm with rfl|hpm
       ·exact .inl fun w'=>⟨o,hi,.inr ⟨hw,rfl⟩⟩
       ·exact hp.2 p hpm
      ·intro p hpm
       rcases List.mem_cons.1 hpm with rfl|hpm
       ·exact ⟨o,hi,.inr ⟨hw,rfl⟩⟩
       ·exact hpw p hpm
    | false =>
      simp only [hv] at h2 ⊢
      unfold wpOp
      simp only [hi,hw,Bool.false_eq_true,if_false]
      have h5:=filtK_spec h2
      exact ⟨fun p hpm _=>hpw p hpm,hk _ _ _ _ _ _ _ _ _ h5 ⟨h3,hr.mem⟩ (hp.filt hi) (fun p hpm=>hpw p (List.mem_filter.1 hpm).1)⟩
   cases hg : o.guard with
   | none =>
     simp only [hg] at h
     exact run tm hr (by simp [Region.wanted,hg]) h
   | some jw =>
     obtain ⟨j,want⟩:=jw
     simp only [hg] at h
     split at h
     ·rename_i g hj
      split at h
      ·rename_i d hd
       split at h
       ·rename_i b hl
        have hy:=yield_spec hr.tm hj hd hl
        have lit : Rel C ((d,.v (.bool b)) :: tm) ob σ G fp a w:=hr.lit hl
        split at h
        ·rw [xif_iff] at h
         cases b with
         | true=>exact run _ lit (by simp [Region.wanted,hg,hy]) (h.1 rfl)
         | false=>exact skip _ lit (by simp [Region.wanted,hg,hy]) (h.2 rfl)
        ·rw [xif_iff] at h
         cases b with
         | true=>exact skip _ lit (by simp [Region.wanted,hg,hy]) (h.1 rfl)
         | false=>exact run _ lit (by simp [Region.wanted,hg,hy]) (h.2 rfl)
       ·rename_i l hl
        have hy:=yield_none hr.tm hj hd hl
        exact skip _ hr (by simp [Region.wanted,hg,hy]) h
       ·exact h.elim
      ·exact h.elim
     ·exact h.elim
theorem xtree_sound (hT : TabOk C.P C.T) {Q : Act → World → Prop} {full : List Oper} {k : List (Nat × SV) → List OB → Prop} (hk : ∀ tm ob σ G fp a w, k tm ob → Rel C tm ob σ G fp a w → Q a w) : ∀ (t : ST) {pd : List SP} {pend : List Pend} {tm : List (Nat × SV)} {ob : List OB} {σ : Nat → Nat} {G : Fz} {fp : Nat → Nat → Prop} {a : Act} {w : World},
 xtree C full t pd tm ob k→Rel C tm ob σ G fp a w→PInv C full.toArray σ ⟨G,ob.length⟩ pd pend→(∀ p∈pend,YW C.P full.toArray p w)→wpTree C.P full.toArray (onlyN Q) t pend a w
 | .nil,pd,pend,tm,ob,σ,G,fp,a,w,h,hr,hp,hpw=>hk _ _ _ _ _ _ _ h hr
 | .op i t,pd,pend,tm,ob,σ,G,fp,a,w,h,hr,hp,hpw=>stepX_sound hT h hr hp hpw fun pd pend tm ob σ G fp a w h1 h2 h3 h4=>xtree_sound hT hk t h1 h2 h3 h4
 | .alt i t u,pd,pend,tm,ob,σ,G,fp,a,w,h,hr,hp,hpw =>
   ⟨stepX_sound hT h.1 hr hp hpw fun pd pend tm ob σ G fp a w h1 h2 h3 h4=>xtree_sound hT hk t h1 h2 h3 h4,xtree_sound hT hk u h.2 hr hp hpw⟩
end
section
variable {P : Program} {ops : Array Oper} {Q : Exit → Act → World → Prop}
def noVal (ops : Array Oper) (i : Nat) : Bool := match ops[i]? with
 | some o=>!isVal o.op
 | none=>false
def chkTree (ops : Array Oper) : ST → Nat → List Nat → Array Bool → Bool
 | .nil,n,seen,listed=>Nat.beq n 0 && seen.isEmpty && (Region.ready .any ops listed).isEmpty
 | .alt i t u,n,seen,listed=>match n with
   | 0=>false
   | m + 1=>noVal ops i && chkTree ops t m [] (listed.setIfInBounds i true) && chkTree ops u (m + 1) (i :: seen) listed
 | .op i t,n,seen,listed=>match n with
   | 0=>false
   | m + 1=>chkTree ops t m [] (listed.setIfInBounds i true) && match noVal ops i with
     | true=>!(Region.ready .any ops listed).isEmpty && (Region.ready .any ops listed).all fun x=>x == i || seen.contains x
     | false=>seen.isEmpty && (ops[i]?).isSome && (Region.ready .any ops listed).contains i && (List.range ops.size).all fun j=>j == i || listed.getD j true || dep ops j i || ((ops[i]?).bind fun o=>(ops[j]?).map fun oj=>o.apart ops oj).getD true
abbrev goodV (P : Program) (ops : Array Oper) (Q : Exit → Act → World → Prop) (n : Nat) (pend : List Pend) (listed : Array Bool) (a : Act) (w : World) (i : Nat) : Prop :=
 wpOp P ops Q i (fun a' w'=>(∀ p∈pend,tdB ops i p.i=false→YW P ops p w')∧wpV P ops Q n (pend.filter fun p=>!tdB ops i p.i) (listed.setIfInBounds i true) a' w') a w
theorem wpV_of_tree (hsel : Region.noSelect ops = true) (hQ : ∀ c a w, ¬ Q (.panic c) a w) : ∀ (t : ST) (n : Nat) {seen : List Nat} {pend : List Pend} {listed : Array Bool} {a : Act} {w : World}, Closed ops listed → chkTree ops t n seen listed = true → (∀ p ∈ pend, YW P ops p w) → wpTree P ops Q t pend a w →
 (∀ x∈seen,x∈Region.ready .any ops listed→∃ m,n=m + 1∧goodV P ops Q m pend listed a w x)→wpV P ops Q n pend listed a w
 | .nil,n,seen,pend,listed,a,w,hcl,hc,hp,h,hs=>by
   unfold chkTree at hc
   simp only [Bool.and_eq_true] at hc
   obtain rfl:=Nat.eq_of_beq_eq_true hc.1.1
   exact ⟨by simpa using hc.2,h⟩
 | .alt _ _ _,0,seen,pend,listed,a,w,hcl,hc,hp,h,hs=>by
   unfold chkTree at hc
   cases hc
 | .op _ _,0,seen,pend,listed,a,w,hcl,hc,hp,h,hs=>by
   unfold chkTree at hc
   cases hc
 | .alt i t u,n + 1,seen,pend,listed,a,w,hcl,hc,hp,h,hs=>by
   unfold chkTree at hc
   simp only [Bool.and_eq_true] at hc
   obtain ⟨⟨h1,h2⟩,h3⟩:=hc
   refine wpV_of_tree hsel hQ u (n + 1) hcl h3 hp h.2 fun x hx hr=>?_
   rcases List.mem_cons.1 hx with rfl|hx
   ·refine ⟨n,rfl,?_⟩
    have h4:=h.1
    unfold stepW at h4
    unfold noVal at h1
    cases hi : ops[x]? with
    | none=>simp [hi] at h1
    | some o =>
      simp only [hi] at h1 h4
      have hv : isVal o.op=false:=by simpa using h1
      simp only [hv] at h4
      refine wpOp_mono (fun a' w' ⟨g1,g2⟩=>⟨g1,wpV_of_tree hsel hQ t n (closed_set hcl hr) h2 ?_ g2 (by simp)⟩) h4
      intro p hpm
      obtain ⟨h5,h6⟩:=List.mem_filter.1 hpm
      exact g1 p h5 (by simpa using h6)
   ·exact hs x hx hr
 | .op i t,n + 1,seen,pend,listed,a,w,hcl,hc,hp,h,hs=>by
   unfold chkTree at hc
   simp only [Bool.and_eq_true] at hc
   obtain ⟨h2,h3⟩:=hc
   have h4 : stepW P ops Q i (wpTree P ops Q t) pend a w:=h
   unfold stepW at h4
   cases hi : ops[i]? with
   | none=>simp [hi] at h4
   | some o =>
     simp only [hi] at h4
     cases hv : isVal o.op with
     | false =>
       have hn : noVal ops i=true:=by unfold noVal;simp [hi,hv]
       simp only [hn,Bool.and_eq_true,Bool.not_eq_true'] at h3
       simp only [hv] at h4
       refine ⟨fun h0=>by rw [h0] at h3;simp at h3,fun x hx=>?_⟩
       have:=List.all_eq_true.1 h3.2 x hx
       simp only [Bool.or_eq_true,beq_iff_eq,List.contains_iff_mem] at this
       rcases this with rfl|hxs
       ·refine wpOp_mono (fun a' w' ⟨g1,g2⟩=>⟨g1,wpV_of_tree hsel hQ t n (closed_set hcl hx) h2 ?_ g2 (by simp)⟩) h4
        intro p hpm
        obtain ⟨h5,h6⟩:=List.mem_filter.1 hpm
        exact g1 p h5 (by simpa using h6)
       ·obtain ⟨m,hm,hg⟩:=hs x hxs hx
        cases hm
        exact hg
     | true =>
       have hn : noVal ops i=false:=by unfold noVal;simp [hi,hv]
       simp only [hn,Bool.and_eq_true] at h3
       simp only [hv] at h4
       obtain ⟨v,hy,hst⟩:=h4
       obtain ⟨⟨⟨c1,_⟩,c2⟩,c3⟩:=h3
       have hri : i∈Region.ready .any ops listed:=by simpa using c2
       refine wpV_delay hsel hQ hi n (ai:=a) (v:=v) hcl hri ?_ ⟨rfl,rfl⟩ hy hp (wpV_of_tree hsel hQ t n (closed_set hcl hri) h2 ?_ hst (by simp))
       ·intro j oj hoj hji hun hd
        have hlt : j < ops.size:=(Array.getElem?_eq_some_iff.1 hoj).1
        have:=List.all_eq_true.1 c3 j (List.mem_range.2 hlt)
        simpa [hji,hun,hd,hoj,hi] using this
       ·intro p hpm
        rcases List.mem_cons.1 hpm with rfl|hpm
        ·exact ⟨o,hi,hy⟩
        ·exact hp p hpm
end
theorem DrawX_tree {C : Ctx} {ob : List OB} {K : Kx} {tm : List (Nat × SV)} {ops : Array Oper} (hT : TabOk C.P C.T) (hm : C.P.follows .mixedOrders = true) (t : ST) (hc : (Region.noSelect ops && chkTree ops t ops.size [] (Array.replicate ops.size false)) = true)
 (h : xtree C ops.toList t [] tm ob fun tm ob=>K .normal tm ob) : DrawX C ops tm ob K:=by
 unfold DrawX
 intro id σ G fp a w hr
 simp only [Bool.and_eq_true] at hc
 have h1:=xtree_sound hT (full:=ops.toList) (Q:=post C K .normal) (fun tm ob σ G fp a w hk hr=>⟨tm,ob,σ,G,fp,hk,hr⟩) t (pd:=[]) (pend:=[]) h ⟨hr.tm,hr.mem.drew⟩ ⟨by intro s hs;simp at hs,by intro p hp;simp at hp⟩ (by simp)
 have hV:=wpV_of_tree (P:=C.P) (ops:=ops) (Q:=onlyN (post C K .normal)) (pend:=[]) (seen:=[]) hc.1 (fun c a w h=>h) t ops.size closed_none hc.2 (by simp) (by simpa using h1) (by simp)
 refine wp_mono (wp_region_any hm (wpAny_of_V _ hV)) ?_
 intro e a w h
 cases e<;>first|exact h|exact h.elim
end Go.Proofs.YtkflmidichikjaaGreatDoor.V
end
section
namespace Go.Proofs.YtkflmidichikjaaGreatDoor.V
open Go.RowKit
set_option maxRecDepth 100000
set_option maxHeartbeats 16000000
open Heading BoxP Drive PlanP Known Contr Loc Jou Atl RobotP Mon Mot Sys
namespace Sys
structure Setup where
 (floor known : Plan) (bd : Bounds) (start : Pose) (set : List Box) (marks : List Int) (every late : Int)
def farS (n : Int) : Bool := decide (n < -262144) || decide (n > 262144)
def wideS (b : Box) : Bool := farS b.X0 || farS b.Y0 || farS b.X1 || farS b.Y1
def checkS (s : Setup) : Int :=
 if vPlan s.known=false∨s.known.W ≠ s.floor.W∨s.known.H ≠ s.floor.H then 1 else
 if (s.set.any wideS)=true then 1 else
 if s.marks.length > 32∨s.marks.any wrongM=true then 1 else
 if vSetL s.set=false∨vBounds s.bd=false then 1 else
 if s.every < 1∨s.every > 100∨s.late < 1∨s.late > 1000 then 2 else 0
structure Ga where
 (a b c d : Option Addr × Nat)
abbrev Setup.s (s : Setup) (g : Ga) : SV := .a [I s.floor.W, I s.floor.H, .fz g.a.1 g.a.2 1 (fl ye s.floor.cells), I s.known.W, I s.known.H, .fz g.b.1 g.b.2 1 (fl ye s.known.cells), I s.bd.Turn, I s.bd.Length, I s.bd.Slip, I s.bd.Range, I s.start.X, I s.start.Y, I s.start.H, .fz g.c.1 g.c.2 6 (fl Box.e s.set), .fz g.d.1 g.d.2 1 (fl ie s.marks), I s.every, I s.late]
end Sys
instance inVsn_1 {n : Int} : CFc 128 false [I n] True (B (farS n)) [] := ⟨fun _ => by
 unfold farS
 refine CM.of Tryz.func128 rfl tabOk rfl rfl rfl rfl (by simp [SV.nms,SV.nm]) fun w_ M_ π_ G0_=>?_
 exact ru⟩
instance inVsn_2 {a b c d e f : Int} : CFc 77 false [.a [I a, I b, I c, I d, I e, I f]] True (B (wideS ⟨a, b, c, d, e, f⟩)) [] := ⟨fun _ => by
 unfold wideS
 refine CM.of Tryz.func77 rfl tabOk rfl rfl rfl rfl (by simp [SV.nms,SV.nm]) fun w_ M_ π_ G0_=>?_
 exact ru⟩
instance inVsn_3 {n : Int} : CFc 76 false [I n] True (B (wrongM n)) [] := ⟨fun _ => by
 unfold wrongM
 refine CM.of Tryz.func76 rfl tabOk rfl rfl rfl rfl (by simp [SV.nms,SV.nm]) fun w_ M_ π_ G0_=>?_
 exact ru⟩
theorem check_a {s : Setup} (h1 : vPlan s.known = true) (h2 : s.known.W = s.floor.W) (h3 : s.known.H = s.floor.H) : checkS s =
 if (s.set.any wideS)=true then 1 else
 if s.marks.length > 32∨s.marks.any wrongM=true then 1 else
 if vSetL s.set=false∨vBounds s.bd=false then 1 else
 if s.every < 1∨s.every > 100∨s.late < 1∨s.late > 1000 then 2 else 0:=if_neg (by simp [h1,h2,h3])
theorem check_b {s : Setup} (h1 : vPlan s.known = true) (h2 : s.known.W = s.floor.W) (h3 : s.known.H = s.floor.H) (h4 : s.set.any wideS = false) (h5 : (s.marks.length : Int) ≤ 32) (h6 : s.marks.any wrongM = false) : checkS s =
 if vSetL s.set=false∨vBounds s.bd=false then 1 else
 if s.every < 1∨s.every > 100∨s.late < 1∨s.late > 1000 then 2 else 0:=by
 rw [check_a h1 h2 h3,if_neg (by simp [h4]),if_neg (by simp only [h6,Bool.false_eq_true,or_false];omega)]
theorem check_c {s : Setup} {g : Ga} : CFc 33 false [s.s g] (s.known.cells.length ≤ 1000000000 ∧ s.set.length ≤ 1000000000 ∧ s.marks.length ≤ 1000000000) (I (checkS s)) [] := ⟨fun ⟨p1, p2, p3⟩ => by
 dsimp only [Setup.s]
 refine CM.of Tryz.func33 rfl tabOk rfl rfl rfl rfl (by simp [SV.nms,SV.nm]) fun w_ M_ π_ G0_=>?_
 refine roA (a7 ?_ ?_ ?_ ?_ ?_ ?_ ?_)
 all_goals intros
 ·rw [show checkS s=1 from if_pos (.inl (by assumption))]
  ((refine Fin_j () ?_;(conv=>whnf);refine ⟨?_,?_,?_,?_⟩)<;>try first|rfl|exact trivial|((simp only [OB.flats,flatD_fl,and_self]);done)|(first|exact zCl|(subst_vars;exact zCl)))
 ·rw [show checkS s=1 from if_pos (.inr (.inl (by assumption)))]
  ((refine Fin_j () ?_;(conv=>whnf);refine ⟨?_,?_,?_,?_⟩)<;>try first|rfl|exact trivial|((simp only [OB.flats,flatD_fl,and_self]);done)|(first|exact zCl|(subst_vars;exact zCl)))
 ·rw [show checkS s=1 from if_pos (.inr (.inr (by assumption)))]
  ((refine Fin_j () ?_;(conv=>whnf);refine ⟨?_,?_,?_,?_⟩)<;>try first|rfl|exact trivial|((simp only [OB.flats,flatD_fl,and_self]);done)|(first|exact zCl|(subst_vars;exact zCl)))
 ·rw [check_a (by assumption) (by assumption) (by assumption),if_pos (by assumption)]
  ((refine Fin_j () ?_;(conv=>whnf);refine ⟨?_,?_,?_,?_⟩)<;>try first|rfl|exact trivial|((simp only [OB.flats,flatD_fl,and_self]);done)|(first|exact zCl|(subst_vars;exact zCl)))
 ·rename_i e1 _ e2 e3 e4 _
  rw [check_a e1 e2 e3,if_neg (by intro h;exact cfl e4 h),if_pos (.inl (by omega))]
  ((refine Fin_j () ?_;(conv=>whnf);refine ⟨?_,?_,?_,?_⟩)<;>try first|rfl|exact trivial|((simp only [OB.flats,flatD_fl,and_self]);done)|(first|exact zCl|(subst_vars;exact zCl)))
 ·rename_i e1 _ e2 e3 e4 _ _
  rw [check_a e1 e2 e3,if_neg (by intro h;exact cfl e4 h),if_pos (.inr (by assumption))]
  ((refine Fin_j () ?_;(conv=>whnf);refine ⟨?_,?_,?_,?_⟩)<;>try first|rfl|exact trivial|((simp only [OB.flats,flatD_fl,and_self]);done)|(first|exact zCl|(subst_vars;exact zCl)))
 ·rename_i e1 _ e2 e3 e4 e5 e6
  rw [check_b e1 e2 e3 e4 e5 e6]
  by_cases hq : vSetL s.set=true∧vBounds s.bd=true
  ·obtain ⟨q1,q2⟩:=hq
   have q2' : vBounds ⟨s.bd.Turn,s.bd.Length,s.bd.Slip,s.bd.Range⟩ = true:=q2
   rw [if_neg (by simp [q1,q2])]
   refine roA (a5 ?_ ?_ ?_ ?_ ?_)
   all_goals intros
   ·rw [if_pos (by omega)]
    ((refine Fin_j () ?_;(conv=>whnf);refine ⟨?_,?_,?_,?_⟩)<;>try first|rfl|exact trivial|((simp only [OB.flats,flatD_fl,and_self]);done)|(first|exact zCl|(subst_vars;exact zCl)))
   ·rw [if_pos (by omega)]
    ((refine Fin_j () ?_;(conv=>whnf);refine ⟨?_,?_,?_,?_⟩)<;>try first|rfl|exact trivial|((simp only [OB.flats,flatD_fl,and_self]);done)|(first|exact zCl|(subst_vars;exact zCl)))
   ·rw [if_pos (by omega)]
    ((refine Fin_j () ?_;(conv=>whnf);refine ⟨?_,?_,?_,?_⟩)<;>try first|rfl|exact trivial|((simp only [OB.flats,flatD_fl,and_self]);done)|(first|exact zCl|(subst_vars;exact zCl)))
   ·rw [if_pos (by omega)]
    ((refine Fin_j () ?_;(conv=>whnf);refine ⟨?_,?_,?_,?_⟩)<;>try first|rfl|exact trivial|((simp only [OB.flats,flatD_fl,and_self]);done)|(first|exact zCl|(subst_vars;exact zCl)))
   ·rw [if_neg (by omega)]
    ((refine Fin_j () ?_;(conv=>whnf);refine ⟨?_,?_,?_,?_⟩)<;>try first|rfl|exact trivial|((simp only [OB.flats,flatD_fl,and_self]);done)|(first|exact zCl|(subst_vars;exact zCl)))
  ·have hq' : vSetL s.set=false∨vBounds s.bd=false:=by
    cases h1 : vSetL s.set
    ·exact .inl rfl
    ·exact .inr (by simpa [h1] using hq)
   rw [if_pos hq']
   haveI:=@locNew_no g.b.1 g.c.1 g.b.2 g.c.2 s.known.W s.known.H s.bd.Turn s.bd.Length s.bd.Slip s.bd.Range s.known.cells s.set e1 hq'
   refine roA (a1 ?_)
   all_goals intros
   ((refine Fin_j () ?_;(conv=>whnf);refine ⟨?_,?_,?_,?_⟩)<;>try first|rfl|exact trivial|((simp only [OB.flats,flatD_fl,and_self]);done)|(first|exact zCl|(subst_vars;exact zCl)))⟩
end Go.Proofs.YtkflmidichikjaaGreatDoor.V
end
section
namespace Go.Proofs.YtkflmidichikjaaGreatDoor.V
open Go.RowKit
set_option maxRecDepth 100000
set_option maxHeartbeats 16000000
open Heading BoxP Drive PlanP Known Contr Loc Jou Atl RobotP Mon Mot Sys
theorem Fin_jr {P : Program} {T : List TI} {n m : Nat} {w : World} {M : Nat → Prop} {π : Nat → Nat} {G0 : Fz} {ι : Type} {ob : List OB} {x : ι → SV} {os1 : ι → List OB} {y : SV} (i : ι) (r : List Nat) (h1 : y = (x i).ren r) (h2 : nthL ob r = some (rnOs r (os1 i)))
 (h4 : ((x i).nmB (os1 i).length && nmOB (os1 i).length (os1 i) && nodupB r && pinB m 0 r)=true) : Fin ⟨P,T,n,w,M,m,π,false,G0⟩ (RetM P w M m π true G0 x os1) y ob:=by
 simp only [Bool.and_eq_true] at h4
 exact Fin_a i r h1 (entO_of h2 h4.1.1.2) (nmB_spec _ h4.1.1.1) (nodupB_spec h4.1.2) h4.2
namespace Sys
def errN (s : Setup) : Int := if rnew s.floor s.bd s.start ≠ 0 then rnew s.floor s.bd s.start else checkS s
def new0 (s : Setup) : SS := ⟨s.start, s.bd, s.marks, s.every, s.late, ⟨s.floor, s.bd, s.start, 0, 0⟩, ⟨s.known, s.set, s.bd, false⟩, ⟨s.late, 0, 0⟩, [87, 70, 74, 49], [], [], [], [], 0, 0, false⟩
abbrev lenN (s : Setup) : Prop := s.floor.cells.length ≤ 1000000000 ∧ s.known.cells.length ≤ 1000000000 ∧ s.set.length ≤ 1000000000 ∧ s.marks.length ≤ 1000000000
end Sys
theorem check_0 {s : Setup} (h : checkS s = 0) : vPlan s.known = true ∧ s.known.W = s.floor.W ∧ s.known.H = s.floor.H ∧ s.set.any wideS = false ∧ s.marks.length ≤ 32 ∧ s.marks.any wrongM = false ∧ vSetL s.set = true ∧ vBounds s.bd = true ∧ 1 ≤ s.every ∧ s.every ≤ 100 ∧ 1 ≤ s.late ∧ s.late ≤ 1000 := by
 unfold checkS at h
 split at h
 ·cases h
 rename_i h1
 split at h
 ·cases h
 rename_i h2
 split at h
 ·cases h
 rename_i h3
 split at h
 ·cases h
 rename_i h4
 split at h
 ·cases h
 rename_i h5
 simp only [not_or,Bool.not_eq_false,ne_eq,Decidable.not_not,Bool.not_eq_true] at h1 h2 h3 h4 h5
 refine ⟨h1.1,h1.2.1,h1.2.2,h2,by omega,h3.2,h4.1,h4.2,by omega,by omega,by omega,by omega⟩
theorem new_no {s : Setup} {g : Ga} (h : errN s ≠ 0) : CFc 9 false [s.s g] (lenN s) (.t [.v (.pointer none), I (errN s)]) [] := ⟨fun ⟨p1, p2, p3, p4⟩ => by
 haveI:=@check_c s g
 by_cases h0 : rnew s.floor s.bd s.start=0
 ·have e : errN s=checkS s:=if_neg (by simpa using h0)
  rw [e] at h ⊢
  haveI:=@robotNew_ok g.a.1 g.a.2 s.floor.W s.floor.H s.floor.cells s.bd.Turn s.bd.Length s.bd.Slip s.bd.Range s.start.X s.start.Y s.start.H h0
  have hp : s.known.cells.length≤1000000000∧s.set.length≤1000000000∧s.marks.length≤1000000000:=⟨p2,p3,p4⟩
  refine CM.of Tryz.func9 rfl tabOk rfl rfl rfl rfl (by simp [SV.nms,SV.nm]) fun w_ M_ π_ G0_=>?_
  dsimp only [Setup.s] at *
  refine rudA (a1 ?_)
  all_goals intros
  ·((refine Fin_j () ?_;(conv=>whnf);refine ⟨?_,?_,?_,?_⟩)<;>try first|rfl|exact trivial|((simp only [OB.flats,flatD_fl,and_self]);done)|(first|exact zCl|(subst_vars;exact zCl)))
  all_goals exact ()
 ·have e : errN s=rnew s.floor s.bd s.start:=if_pos h0
  rw [e] at h ⊢
  have h0' : ¬rnew ⟨s.floor.W,s.floor.H,s.floor.cells⟩ ⟨s.bd.Turn,s.bd.Length,s.bd.Slip,s.bd.Range⟩ ⟨s.start.X,s.start.Y,s.start.H⟩ = 0:=h0
  haveI:=@robotNew_no g.a.1 g.a.2 s.floor.cells s.floor.W s.floor.H s.bd.Turn s.bd.Length s.bd.Slip s.bd.Range s.start.X s.start.Y s.start.H h0
  refine CM.of Tryz.func9 rfl tabOk rfl rfl rfl rfl (by simp [SV.nms,SV.nm]) fun w_ M_ π_ G0_=>?_
  dsimp only [Setup.s] at *
  refine rudA (a1 ?_)
  all_goals intros
  ((refine Fin_j () ?_;(conv=>whnf);refine ⟨?_,?_,?_,?_⟩)<;>try first|rfl|exact trivial|((simp only [OB.flats,flatD_fl,and_self]);done)|(first|exact zCl|(subst_vars;exact zCl)))⟩
theorem new_ok {s : Setup} {g : Ga} (h : errN s = 0) : CMe 9 Unit true (fun _ => [s.s g]) (fun _ => []) (fun _ => lenN s) Gh (fun _ _ => .t [.p 3 0, I 0]) (fun _ q => sysO q (new0 s)) := ⟨fun _ ⟨p1, p2, p3, p4⟩ => by
 haveI:=@check_c s g
 have h0 : rnew s.floor s.bd s.start=0:=by
  unfold errN at h
  split at h
  ·rename_i h0;exact absurd h h0
  ·rename_i h0;simpa using h0
 have hc : checkS s=0:=by
  unfold errN at h
  rwa [if_neg (by simpa using h0)] at h
 obtain ⟨c1,c2,c3,c4,c5,c6,c7,c8,c9,c10,c11,c12⟩:=check_0 hc
 have c1' : vPlan ⟨s.known.W,s.known.H,s.known.cells⟩ = true:=c1
 have c8' : vBounds ⟨s.bd.Turn,s.bd.Length,s.bd.Slip,s.bd.Range⟩ = true:=c8
 haveI:=@robotNew_ok g.a.1 g.a.2 s.floor.W s.floor.H s.floor.cells s.bd.Turn s.bd.Length s.bd.Slip s.bd.Range s.start.X s.start.Y s.start.H h0
 have hp : s.known.cells.length≤1000000000∧s.set.length≤1000000000∧s.marks.length≤1000000000:=⟨p2,p3,p4⟩
 refine CM.of Tryz.func9 rfl tabOk rfl rfl rfl rfl (by simp [SV.nms,SV.nm]) fun w_ M_ π_ G0_=>?_
 dsimp only [Setup.s,sysO] at *
 refine rudA (a1 ?_)
 all_goals intros
 ·refine DrawX_tree tabOk folOk (.op 0 (.op 1 (.alt 4 (.op 2 (.op 3 (.op 5 (.op 6 (.op 7 .nil))))) (.op 2 (.alt 4 (.op 3 (.op 5 (.op 6 (.op 7 .nil)))) (.op 3 (.op 4 (.op 5 (.op 6 (.op 7 .nil)))))))))) (by kernel_rfl) ?_
  conv=>whnf
  refine ⟨?_,?_⟩
  ·conv=>whnf
   refine OpX_makeM keC dvB rfl fun b=>?_
   conv=>whnf
   refine roA (a1 ?_)
   all_goals intros
   refine Fin_fr 2 rfl fun A1 c1=>?_
   conv=>whnf
   (repeat ((with_reducible show ViewE _ _ _ _);(first|refine view_w zLn ?_|refine view_pf zSd ?_|refine view_p zSd ?_);(conv=>whnf)))
   refine Fin_jr (⟨_,_,_,(A1,c1),_,_,b⟩ : Gh) [7,8,3,10,1,11,12,4,5,6,9] rfl rfl rfl
   all_goals exact ⟨⟩
  ·conv=>whnf
   refine roA (a1 ?_)
   all_goals intros
   refine ⟨?_,?_⟩
   ·conv=>whnf
    refine OpX_makeM keC dvB rfl fun b=>?_
    conv=>whnf
    refine roA (a1 ?_)
    all_goals intros
    refine Fin_fr 2 rfl fun A1 c1=>?_
    conv=>whnf
    (repeat ((with_reducible show ViewE _ _ _ _);(first|refine view_w zLn ?_|refine view_pf zSd ?_|refine view_p zSd ?_);(conv=>whnf)))
    refine Fin_jr (⟨_,_,_,(A1,c1),_,_,b⟩ : Gh) [7,8,6,10,1,11,12,3,4,5,9] rfl rfl rfl
    all_goals exact ⟨⟩
   ·conv=>whnf
    refine roA (a1 ?_)
    all_goals intros
    refine OpX_makeM keC dvB rfl fun b=>?_
    conv=>whnf
    refine roA (a1 ?_)
    all_goals intros
    refine Fin_fr 2 rfl fun A1 c1=>?_
    conv=>whnf
    (repeat ((with_reducible show ViewE _ _ _ _);(first|refine view_w zLn ?_|refine view_pf zSd ?_|refine view_p zSd ?_);(conv=>whnf)))
    refine Fin_jr (⟨_,_,_,(A1,c1),_,_,b⟩ : Gh) [6,7,9,10,1,11,12,3,4,5,8] rfl rfl rfl
    all_goals exact ⟨⟩
   all_goals exact ⟨⟩
 all_goals exact ⟨⟩⟩
end Go.Proofs.YtkflmidichikjaaGreatDoor.V
end
