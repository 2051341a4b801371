import Derived.Test.YtlnplelandimeaaGreatZFleetViews11
import Derived.Test.YtlnplelandimeaaGreatZFleetViews26
import Derived.Test.YtlnplelandimeaaGreatZFleetViews09
import Derived.Test.YtlnplelandimeaaGreatZFleetViews08
set_option linter.all false
section
namespace Go.Proofs.YtlnplelandimeaaGreat
inductive Conn (rs : List Rel) (a : Int) : Int → Prop
 | refl : Conn rs a a
 | fwd {r : Rel} : Conn rs a r.1→r∈rs→Conn rs a r.2.1
 | back {r : Rel} : Conn rs a r.2.1→r∈rs→Conn rs a r.1
theorem Conn.trans {rs : List Rel} {a b c : Int} (h1 : Conn rs a b) (h2 : Conn rs b c) : Conn rs a c := by
 induction h2 with
 | refl=>exact h1
 | fwd _ hr ih=>exact .fwd ih hr
 | back _ hr ih=>exact .back ih hr
theorem Conn.symm {rs : List Rel} {a b : Int} (h : Conn rs a b) : Conn rs b a := by
 induction h with
 | refl=>exact .refl
 | fwd _ hr ih=>exact (Conn.back .refl hr).trans ih
 | back _ hr ih=>exact (Conn.fwd .refl hr).trans ih
theorem Conn.mono {rs rs' : List Rel} {a b : Int} (h : Conn rs a b) (hs : ∀ r ∈ rs, r ∈ rs') : Conn rs' a b := by
 induction h with
 | refl=>exact .refl
 | fwd _ hr ih=>exact .fwd ih (hs _ hr)
 | back _ hr ih=>exact .back ih (hs _ hr)
theorem stepM_all (Q : Int → Fr → Prop) {m : List (Int × Fr)} {r : Rel} (h : ∀ p ∈ m, Q p.1 p.2) (h1 : ∀ f, Q r.1 f → Q r.2.1 (cmpF f r.2.2)) (h2 : ∀ g, Q r.2.1 g → Q r.1 (cmpF g (invF r.2.2))) : ∀ p ∈ axm m r, Q p.1 p.2 := by
 unfold axm
 cases ha : aqe m r.1 with
 | some f =>
   cases hb : aqe m r.2.1 with
   | some g=>exact h
   | none =>
     intro p hp
     rcases List.mem_append.1 hp with hp|hp
     ·exact h p hp
     ·simp at hp;subst hp;exact h1 f (h _ (axw ha))
 | none =>
   cases hb : aqe m r.2.1 with
   | some g =>
     intro p hp
     rcases List.mem_append.1 hp with hp|hp
     ·exact h p hp
     ·simp at hp;subst hp;exact h2 g (h _ (axw hb))
   | none=>exact h
theorem cxa (Q : Int → Fr → Prop) : ∀ {rs : List Rel} {m : List (Int × Fr)}, (∀ p ∈ m, Q p.1 p.2) → (∀ r ∈ rs, ∀ f, Q r.1 f → Q r.2.1 (cmpF f r.2.2)) → (∀ r ∈ rs, ∀ g, Q r.2.1 g → Q r.1 (cmpF g (invF r.2.2))) → ∀ p ∈ aq8 rs m, Q p.1 p.2
 | [],_,h,_,_=>h
 | r :: rs,_,h,h1,h2=>cxa Q (rs:=rs) (stepM_all Q h (h1 r (by simp)) (h2 r (by simp))) (fun x hx=>h1 x (by simp [hx])) (fun x hx=>h2 x (by simp [hx]))
theorem cxb (Q : Int → Fr → Prop) {rs : List Rel} (h1 : ∀ r ∈ rs, ∀ f, Q r.1 f → Q r.2.1 (cmpF f r.2.2)) (h2 : ∀ r ∈ rs, ∀ g, Q r.2.1 g → Q r.1 (cmpF g (invF r.2.2))) : ∀ (n : Nat) {m : List (Int × Fr)}, (∀ p ∈ m, Q p.1 p.2) → ∀ p ∈ axf rs n m, Q p.1 p.2
 | 0,_,h=>h
 | n + 1,_,h=>cxb Q h1 h2 n (cxa Q h h1 h2)
theorem cxc (Q : Int → Fr → Prop) {rs : List Rel} {a : Int} (h0 : Q a (0, 0, 0)) (h1 : ∀ r ∈ rs, ∀ f, Q r.1 f → Q r.2.1 (cmpF f r.2.2)) (h2 : ∀ r ∈ rs, ∀ g, Q r.2.1 g → Q r.1 (cmpF g (invF r.2.2))) : ∀ p ∈ aj7 rs a, Q p.1 p.2 :=
 cxb Q h1 h2 8 (by intro p hp;simp at hp;subst hp;exact h0)
theorem cxd {m l : List (Int × Fr)} {k : Int} {f : Fr} (h : aqe m k = some f) : aqe (m ++ l) k = some f := by
 induction m with
 | nil=>simp [aqe] at h
 | cons p m ih =>
   obtain ⟨k',v⟩:=p
   by_cases e : k=k'
   ·simp [aqe,e] at h ⊢;exact h
   ·simp [aqe,e] at h ⊢;exact ih h
theorem dzg {m : List (Int × Fr)} {r : Rel} {k : Int} {f : Fr} (h : aqe m k = some f) : aqe (axm m r) k = some f := by
 unfold axm
 cases aqe m r.1<;>cases aqe m r.2.1<;>first|exact h|exact cxd h
theorem bva : ∀ {rs : List Rel} {m : List (Int × Fr)} {k : Int} {f : Fr}, aqe m k = some f → aqe (aq8 rs m) k = some f
 | [],_,_,_,h=>h
 | _ :: rs,_,_,_,h=>bva (rs:=rs) (dzg h)
theorem bvb {rs : List Rel} {k : Int} {f : Fr} : ∀ (n : Nat) {m : List (Int × Fr)}, aqe m k = some f → aqe (axf rs n m) k = some f
 | 0,_,h=>h
 | n + 1,_,h=>bvb n (bva h)
theorem dzh (rs : List Rel) (a : Int) : aqe (aj7 rs a) a = some (0, 0, 0) := bvb 8 (by simp [aqe])
theorem bvc (rs : List Rel) (m : List (Int × Fr)) (hm : 1 ≤ m.length) : ∀ n : Nat, aq8 rs (axf rs n m) = axf rs n m ∨ n + 1 ≤ (axf rs n m).length
 | 0=>.inr hm
 | n + 1=>by
   rw [bz7]
   rcases bvc rs m hm n with h|h
   ·left;rw [h,h]
   ·by_cases e : aq8 rs (axf rs n m)=axf rs n m
    ·left;rw [e,e]
    ·right
     have:=avl rs (axf rs n m)
     have : (aq8 rs (axf rs n m)).length ≠ (axf rs n m).length:=fun h=>e (this.2 h)
     omega
theorem fromL_fix {rs : List Rel} {a : Int} (h0 : 0 ≤ a) (h1 : a < 8) (hok : ∀ r ∈ rs, RelOk r) : aq8 rs (aj7 rs a) = aj7 rs a := by
 rcases bvc rs [(a,(0,0,0))] (by simp) 8 with h|h
 ·exact h
 ·have:=(fromL_ok h0 h1 hok).len
  unfold aj7 at this
  omega
theorem cxe : ∀ {rs : List Rel} {m : List (Int × Fr)}, aq8 rs m = m → ∀ r ∈ rs, axm m r = m
 | [],_,_,r,hr=>by simp at hr
 | x :: rs,m,h,r,hr=>by
   have e : aq8 (x :: rs) m=aq8 rs (axm m x):=rfl
   rw [e] at h
   have h1:=avl rs (axm m x)
   have hx : axm m x=m:=by
    rcases cqa m x with h2|h2
    ·exact h2
    ·rw [h] at h1;omega
   rcases List.mem_cons.1 hr with rfl|hr
   ·exact hx
   ·rw [hx] at h;exact cxe h r hr
theorem cxf {m : List (Int × Fr)} {r : Rel} (h : axm m r = m) : (aqe m r.1).isSome = (aqe m r.2.1).isSome := by
 unfold axm at h
 cases ha : aqe m r.1<;>cases hb : aqe m r.2.1<;>simp [ha,hb] at h ⊢
theorem dzi {rs : List Rel} {a b : Int} (h0 : 0 ≤ a) (h1 : a < 8) (hok : ∀ r ∈ rs, RelOk r) : (aqe (aj7 rs a) b).isSome = true ↔ Conn rs a b := by
 constructor
 ·intro h
  obtain ⟨f,hf⟩:=Option.isSome_iff_exists.1 h
  exact cxc (fun k _=>Conn rs a k) .refl (fun r hr _ h=>.fwd h hr) (fun r hr _ h=>.back h hr) _ (axw hf)
 ·intro h
  have hf:=cxe (fromL_fix h0 h1 hok)
  induction h with
  | refl=>rw [dzh];rfl
  | fwd _ hr ih=>rw [← cxf (hf _ hr)];exact ih
  | back _ hr ih=>rw [cxf (hf _ hr)];exact ih
structure Plc (rs : List Rel) (P : Int → Fr) : Prop where
 ok : ∀ k,FrOk (P k)
 rel : ∀ r∈rs,cmpF (P r.1) r.2.2=P r.2.1
theorem relFr {r : Rel} (h : RelOk r) : FrOk r.2.2 := ⟨h.2.2.2.2.2.1, h.2.2.2.2.2.2.1⟩
theorem fromL_plc {rs : List Rel} {P : Int → Fr} (hP : Plc rs P) {a k : Int} {f : Fr} (hok : ∀ r ∈ rs, RelOk r) (h : aqe (aj7 rs a) k = some f) : cmpF (P a) f = P k ∧ FrOk f := by
 refine cxc (fun k f=>cmpF (P a) f=P k∧FrOk f) ⟨bjn _ (hP.ok a),by simp [FrOk]⟩ ?_ ?_ _ (axw h)
 ·rintro r hr f ⟨h1,h2⟩
  exact ⟨by rw [← ax4 _ _ _ (hP.ok a) h2,h1,hP.rel r hr],bjo _ _⟩
 ·rintro r hr g ⟨h1,h2⟩
  have hx:=relFr (hok r hr)
  exact ⟨by rw [← ax4 _ _ _ (hP.ok a) h2,h1,← hP.rel r hr,ax4 _ _ _ (hP.ok _) hx,cmpF_inv _ hx,bjn _ (hP.ok _)],bjo _ _⟩
theorem cj9 {p f g : Fr} (hp : FrOk p) (hf : FrOk f) (hg : FrOk g) (h : cmpF p f = cmpF p g) : f = g := by
 have h1 : cmpF (invF p) (cmpF p f)=cmpF (invF p) (cmpF p g):=by rw [h]
 rwa [← ax4 _ _ _ (cj8 p) hp,← ax4 _ _ _ (cj8 p) hp,cvr _ hp,cq9 _ hf,cq9 _ hg] at h1
inductive Acc : List Rel → Prop
 | nil : Acc []
 | snoc {rs : List Rel} {r : Rel} : Acc rs→RelOk r→btF rs r.1 r.2.1=none→Acc (rs ++ [r])
theorem Acc.ok {rs : List Rel} (h : Acc rs) : ∀ r ∈ rs, RelOk r := by
 induction h with
 | nil=>simp
 | snoc _ hr _ ih =>
   intro x hx
   rcases List.mem_append.1 hx with hx|hx
   ·exact ih x hx
   ·simp at hx;subst hx;exact hr
theorem rbB_mk {n : Int} (h0 : 0 ≤ n) (h1 : n < 8) : rbB n = true := by simp [rbB]; omega
theorem btF_eq {rs : List Rel} {a b : Int} (a0 : 0 ≤ a) (a1 : a < 8) (b0 : 0 ≤ b) (b1 : b < 8) : btF rs a b = aqe (aj7 rs a) b := by
 unfold btF;rw [rbB_mk a0 a1,rbB_mk b0 b1];rfl
theorem cvs {rs : List Rel} {a b : Int} (hok : ∀ r ∈ rs, RelOk r) (a0 : 0 ≤ a) (a1 : a < 8) (b0 : 0 ≤ b) (b1 : b < 8) : (btF rs a b).isSome = true ↔ Conn rs a b := by
 rw [btF_eq a0 a1 b0 b1,dzi a0 a1 hok]
theorem btF_plc {rs : List Rel} {P : Int → Fr} (hP : Plc rs P) {a b : Int} {f : Fr} (hok : ∀ r ∈ rs, RelOk r) (h : btF rs a b = some f) : cmpF (P a) f = P b ∧ FrOk f := by
 unfold btF at h
 split at h
 ·exact fromL_plc hP hok h
 ·cases h
open Classical in
theorem Acc.plc {rs : List Rel} (h : Acc rs) : ∃ P, Plc rs P := by
 induction h with
 | nil=>exact ⟨fun _=>(0,0,0),fun _=>by simp [FrOk],by simp⟩
 | @snoc rs r hs hr hn ih =>
   obtain ⟨P,hP⟩:=ih
   have hx:=relFr hr
   have hnc : ¬ Conn rs r.2.1 r.1:=fun hc=>by
    have:=(cvs hs.ok hr.1 hr.2.1 hr.2.2.1 hr.2.2.2.1).2 hc.symm
    rw [hn] at this;cases this
   refine ⟨fun k=>if Conn rs r.2.1 k then cmpF (cmpF (P r.1) (cmpF r.2.2 (invF (P r.2.1)))) (P k) else P k,?_,?_⟩
   ·intro k
    show FrOk (if _ then _ else _)
    split
    ·exact bjo _ _
    ·exact hP.ok k
   ·intro x hxm
    rcases List.mem_append.1 hxm with hxm|hxm
    ·have hiff : Conn rs r.2.1 x.1↔Conn rs r.2.1 x.2.1:=⟨fun h=>.fwd h hxm,fun h=>.back h hxm⟩
     by_cases hc : Conn rs r.2.1 x.1
     ·simp only [if_pos hc,if_pos (hiff.1 hc)]
      rw [ax4 _ _ _ (bjo _ _) (hP.ok _),hP.rel x hxm]
     ·simp only [if_neg hc,if_neg (fun h=>hc (hiff.2 h))]
      exact hP.rel x hxm
    ·simp at hxm;subst hxm
     simp only [if_neg hnc,if_pos (Conn.refl : Conn rs x.2.1 x.2.1)]
     rw [ax4 _ _ _ (hP.ok _) (bjo _ _),ax4 _ _ _ hx (cj8 _),cvr _ (hP.ok _),bjn _ hx]
def cvt (rs : List Rel) (l : List Rel) : List Rel := l.foldl (fun rs x => (addF rs x).2) rs
theorem addF_acc {rs : List Rel} (h : Acc rs) (x : Rel) : Acc (addF rs x).2 := by
 unfold addF
 split
 ·rename_i hx
  cases hb : btF rs x.1 x.2.1 with
  | none=>exact .snoc h (cjk hx) hb
  | some f=>simp only;split<;>exact h
 ·exact h
theorem cvu (rs : List Rel) (x : Rel) : (addF rs x).2.length ≤ rs.length + 1 := by
 unfold addF
 split
 ·cases hb : btF rs x.1 x.2.1 with
  | none=>simp
  | some f=>simp only;split<;>simp
 ·simp
theorem addAll_acc : ∀ (l : List Rel) {rs : List Rel}, Acc rs → Acc (cvt rs l)
 | [],_,h=>h
 | x :: l,_,h=>addAll_acc l (addF_acc h x)
end Go.Proofs.YtlnplelandimeaaGreat
end
section
namespace Go.Proofs.YtlnplelandimeaaGreat
def Good (P : Int → Fr) (l : List Rel) : Prop := (∀ k, FrOk (P k)) ∧ ∀ x ∈ l, aq1 x = true ∧ addX x = x ∧ cmpF (P x.1) x.2.2 = P x.2.1
theorem Good.sub {P : Int → Fr} {l l' : List Rel} (h : Good P l) (hs : ∀ x ∈ l', x ∈ l) : Good P l' := ⟨h.1, fun x hx => h.2 x (hs x hx)⟩
structure OInv (P : Int → Fr) (rs dn : List Rel) : Prop where
 acc : Acc rs
 plc : Plc rs P
 sub : ∀ r∈rs,r∈dn
 con : ∀ r∈dn,Conn rs r.1 r.2.1
theorem OInv.step {P : Int → Fr} {rs dn : List Rel} {x : Rel} (h : OInv P rs dn) (hx : aq1 x = true ∧ addX x = x ∧ cmpF (P x.1) x.2.2 = P x.2.1) : (addF rs x).1 = 0 ∧ OInv P (addF rs x).2 (dn ++ [x]) := by
 obtain ⟨h1,h2,h3⟩:=hx
 have hok : RelOk x:=by have:=cjk h1;rwa [h2] at this
 unfold addF
 rw [if_pos h1,h2]
 cases hb : btF rs x.1 x.2.1 with
 | none =>
   refine ⟨rfl,.snoc h.acc hok hb,⟨h.plc.ok,?_⟩,?_,?_⟩
   ·intro r hr
    rcases List.mem_append.1 hr with hr|hr
    ·exact h.plc.rel r hr
    ·simp at hr;subst hr;exact h3
   ·intro r hr
    rcases List.mem_append.1 hr with hr|hr
    ·exact List.mem_append.2 (.inl (h.sub r hr))
    ·exact List.mem_append.2 (.inr hr)
   ·intro r hr
    rcases List.mem_append.1 hr with hr|hr
    ·exact (h.con r hr).mono fun z hz=>List.mem_append.2 (.inl hz)
    ·simp at hr;subst hr;exact .fwd .refl (by simp)
 | some f =>
   obtain ⟨g1,g2⟩:=btF_plc h.plc h.acc.ok hb
   have hf : f=x.2.2:=cj9 (h.plc.ok x.1) g2 (relFr hok) (g1.trans h3.symm)
   simp only [hf]
   refine ⟨rfl,h.acc,h.plc,fun r hr=>List.mem_append.2 (.inl (h.sub r hr)),?_⟩
   intro r hr
   rcases List.mem_append.1 hr with hr|hr
   ·exact h.con r hr
   ·simp at hr;subst hr
    exact (cvs h.acc.ok hok.1 hok.2.1 hok.2.2.1 hok.2.2.2.1).1 (by rw [hb];rfl)
theorem OInv.all {P : Int → Fr} : ∀ {l rs dn : List Rel}, OInv P rs dn → Good P l → OInv P (cvt rs l) (dn ++ l)
 | [],_,_,h,_=>by simpa [cvt] using h
 | x :: l,rs,dn,h,hl=>by
   have:=OInv.all (l:=l) (h.step (hl.2 x (by simp))).2 (hl.sub fun z hz=>by simp [hz])
   simpa [cvt] using this
theorem OInv.nil {P : Int → Fr} (hP : ∀ k, FrOk (P k)) : OInv P [] [] := ⟨.nil, ⟨hP, by simp⟩, by simp, by simp⟩
end Go.Proofs.YtlnplelandimeaaGreat
end
section
namespace Go.Proofs.YtlnplelandimeaaGreat.En
open Go.RowKit
set_option maxRecDepth 100000
def encF (f : Fr) : List Value := [.int .i64 f.1, .int .i64 f.2.1, .int .i64 f.2.2]
def encR (r : RelT) : List Value := [.int .i64 r.1, .int .i64 r.2.1, .int .i64 r.2.2.1, .int .i64 r.2.2.2.1, .int .i64 r.2.2.2.2]
def padTo (ats : List Fr) (k : Nat) : List Fr := ats ++ (List.range (k - ats.length)).map fun (i : Nat) => ((0 : Int), ((ats.length + i : Nat) : Int), (0 : Int))
def plc (ats : List Fr) (k : Int) : Fr := nearF ((padTo ats 8).getD k.toNat (0, 0, 0)) 200
end Go.Proofs.YtlnplelandimeaaGreat.En
end
section
namespace Go.Proofs.YtlnplelandimeaaGreat
open Go.RowKit
set_option maxHeartbeats 400000 in
theorem bsize_any (n m : Int) (w : World) (h1 : -1000000000000 ≤ m) (h2 : m ≤ 1000000000000) :
 Calls Tryz.prog 85 #[.int .i64 n,.int .i64 m] w fun e w'=>e = .returned (.bool (szB n m))∧w=w':=by
 by_cases h3 : -m≤n
 ·by_cases h4 : n≤m
  ·have HS:=Lib.hid (show szB n m=true by simp [szB,h3,h4])
   go_enter Tryz.func85,Tryz.ntmps85
   go_wp2
   go_ret
   exact ⟨by simp [HS.out],rfl⟩
  ·have HS:=Lib.hid (show szB n m=false by simp [szB,h4])
   go_enter Tryz.func85,Tryz.ntmps85
   go_wp2
   go_ret
   exact ⟨by simp [HS.out],rfl⟩
 ·have HS:=Lib.hid (show szB n m=false by simp [szB,h3])
  go_enter Tryz.func85,Tryz.ntmps85
  go_wp2
  go_ret
  exact ⟨by simp [HS.out],rfl⟩
set_option maxHeartbeats 400000 in
theorem ax5 (q x y : Int) (w : World) :
 Calls Tryz.prog 61 #[.agg #[.int .i64 q,.int .i64 x,.int .i64 y]] w fun e w'=>e = .returned (.bool (szB x 8192 && szB y 8192))∧w.alloc (.cells #[.int .i64 q,.int .i64 x,.int .i64 y] 37)=w':=by
 cases h3 : szB x 8192
 all_goals
  go_enter Tryz.func61,Tryz.ntmps61
  go_wp2_with (go_at_call 85;refine (bsize_any _ _ _ (by omega) (by omega)).mono ?_;rintro e w' ⟨rfl,rfl⟩)
  go_ret
  exact ⟨by simp,rfl⟩
set_option maxHeartbeats 800000 in
theorem bjp (q x y : Int) (w : World) (h1 : -1000000000000 ≤ x) (h2 : x ≤ 1000000000000) (h3 : -1000000000000 ≤ y) (h4 : y ≤ 1000000000000) :
 Calls Tryz.prog 105 #[.int .i64 q,.int .i64 x,.int .i64 y] w fun e w'=>e = .returned (.tuple #[.int .i64 (tX (q % 4) x y),.int .i64 (tY (q % 4) x y)])∧w=w':=by
 have hm:=Lib.hid (bxf q 4 w (by omega) (by omega))
 have hq1 : 0≤q % 4:=by omega
 have hq2 : q % 4≤3:=by omega
 generalize q % 4=m at *
 rcases (by omega : m=0∨m=1∨m=2∨m=3) with rfl|rfl|rfl|rfl
 all_goals
  go_enter Tryz.func105,Tryz.ntmps105
  go_wp2_with (go_at_call 36;refine hm.out.mono ?_;rintro e w' ⟨rfl,rfl⟩)
  go_ret2
  exact ⟨by simp [tX,tY],rfl⟩
set_option maxRecDepth 100000 in
set_option maxHeartbeats 1000000 in
theorem cxg (fq fx fy gq gx gy : Int) (w : World) :
 Calls Tryz.prog 106 #[.agg #[.int .i64 fq,.int .i64 fx,.int .i64 fy],.agg #[.int .i64 gq,.int .i64 gx,.int .i64 gy]] w fun e w'=>e = .returned (CmpV fq fx fy gq gx gy)∧Below w.heap.size w w':=by
 cases hf : (szB fx 8192 && szB fy 8192)
 ·have HS:=Lib.hid (show CmpV fq fx fy gq gx gy = .tuple #[.agg #[.int .i64 0,.int .i64 0,.int .i64 0],.int .i64 1] by simp [CmpV,hf])
  go_enter Tryz.func106,Tryz.ntmps106
  go_wp2_with (go_at_call 61;refine (ax5 _ _ _ _).mono ?_;rintro e w1 ⟨rfl,rfl⟩)
  refine bodyPost_ret (v:=.tuple #[.agg #[.int .i64 0,.int .i64 0,.int .i64 0],.int .i64 1]) (by simp [results,Tryz.results106,go_sem]) rfl ⟨by rw [HS.out],?_⟩
  repeat (first|with_reducible assumption|with_reducible exact aqx _|with_reducible refine aqa ?_ _|with_reducible refine aq6 ?_|with_reducible refine aqq _ ?_|refine axv ?_ (by simp;try omega) _|refine aq7 (by with_reducible assumption) ?_)
 ·cases hg : (szB gx 8192 && szB gy 8192)
  ·have HS:=Lib.hid (show CmpV fq fx fy gq gx gy = .tuple #[.agg #[.int .i64 0,.int .i64 0,.int .i64 0],.int .i64 1] by simp [CmpV,hg])
   go_enter Tryz.func106,Tryz.ntmps106
   go_wp2_with (go_at_call 61;refine (ax5 _ _ _ _).mono ?_;rintro e w1 ⟨rfl,rfl⟩)
   refine bodyPost_ret (v:=.tuple #[.agg #[.int .i64 0,.int .i64 0,.int .i64 0],.int .i64 1]) (by simp [results,Tryz.results106,go_sem]) rfl ⟨by rw [HS.out],?_⟩
   repeat (first|with_reducible assumption|with_reducible exact aqx _|with_reducible refine aqa ?_ _|with_reducible refine aq6 ?_|with_reducible refine aqq _ ?_|refine axv ?_ (by simp;try omega) _|refine aq7 (by with_reducible assumption) ?_)
  ·obtain ⟨f1,f2,f3,f4⟩:=bwc hf
   obtain ⟨g1,g2,g3,g4⟩:=bwc hg
   obtain ⟨b1,b2⟩:=cx7 (fq % 4) gx gy 8192 g1 g2 g3 g4
   obtain ⟨b3,b4⟩:=cx8 (fq % 4) gx gy 8192 g1 g2 g3 g4
   cases hh : (szB (tX (fq % 4) gx gy + fx) 8192 && szB (tY (fq % 4) gx gy + fy) 8192)
   ·have HS:=Lib.hid (show CmpV fq fx fy gq gx gy = .tuple #[.agg #[.int .i64 0,.int .i64 0,.int .i64 0],.int .i64 2] by simp [CmpV,hf,hg,hh])
    go_enter Tryz.func106,Tryz.ntmps106
    go_wp2_with (first|(go_at_call 61;refine (ax5 _ _ _ _).mono ?_;rintro e w1 ⟨rfl,rfl⟩)|(go_at_call 105;refine (bjp _ _ _ _ (by omega) (by omega) (by omega) (by omega)).mono ?_;rintro e w1 ⟨rfl,rfl⟩))
    have e1 : IntKind.i64.wrap (fq % 4 + gq % 4)=fq % 4 + gq % 4:=IntWalk.i64_in _ (by omega)
    have e2 : IntKind.i64.wrap (tX (fq % 4) gx gy + fx)=tX (fq % 4) gx gy + fx:=IntWalk.i64_in _ (by omega)
    have e3 : IntKind.i64.wrap (tY (fq % 4) gx gy + fy)=tY (fq % 4) gx gy + fy:=IntWalk.i64_in _ (by omega)
    go_region_held3 (fun w'=>w'.cell? ⟨w.heap.size,0,none⟩ = some (.int .i64 fq)∧w'.cell? ⟨w.heap.size,1,none⟩ = some (.int .i64 fx)∧w'.cell? ⟨w.heap.size,2,none⟩ = some (.int .i64 fy)∧w'.cell? ⟨w.heap.size + 1,0,none⟩ = some (.int .i64 gq)) (simp [go_sem,World.cell?_alloc_past])
     (first
      | (go_at_call 36;refine (bxf _ _ _ (by omega) (by omega)).mono ?_;rintro e w' ⟨rfl,rfl⟩))
    all_goals
     clear e1 e2 e3
     go_wp2_with (go_at_call 61;refine (ax5 _ _ _ _).mono ?_;rintro e w1 ⟨rfl,rfl⟩)
     refine bodyPost_ret (v:=.tuple #[.agg #[.int .i64 0,.int .i64 0,.int .i64 0],.int .i64 2]) (by simp [results,Tryz.results106,go_sem]) rfl ⟨by rw [HS.out],?_⟩
     repeat (first|with_reducible assumption|with_reducible exact aqx _|with_reducible refine aqa ?_ _|with_reducible refine aq6 ?_|with_reducible refine aqq _ ?_|refine axv ?_ (by simp;try omega) _|refine aq7 (by with_reducible assumption) ?_)
   ·have HS:=Lib.hid (show CmpV fq fx fy gq gx gy = .tuple #[.agg #[.int .i64 ((fq + gq) % 4),.int .i64 (tX (fq % 4) gx gy + fx),.int .i64 (tY (fq % 4) gx gy + fy)],.int .i64 0] by simp [CmpV,hf,hg,hh])
    go_enter Tryz.func106,Tryz.ntmps106
    go_wp2_with (first|(go_at_call 61;refine (ax5 _ _ _ _).mono ?_;rintro e w1 ⟨rfl,rfl⟩)|(go_at_call 105;refine (bjp _ _ _ _ (by omega) (by omega) (by omega) (by omega)).mono ?_;rintro e w1 ⟨rfl,rfl⟩))
    have e1 : IntKind.i64.wrap (fq % 4 + gq % 4)=fq % 4 + gq % 4:=IntWalk.i64_in _ (by omega)
    have e2 : IntKind.i64.wrap (tX (fq % 4) gx gy + fx)=tX (fq % 4) gx gy + fx:=IntWalk.i64_in _ (by omega)
    have e3 : IntKind.i64.wrap (tY (fq % 4) gx gy + fy)=tY (fq % 4) gx gy + fy:=IntWalk.i64_in _ (by omega)
    go_region_held3 (fun w'=>w'.cell? ⟨w.heap.size,0,none⟩ = some (.int .i64 fq)∧w'.cell? ⟨w.heap.size,1,none⟩ = some (.int .i64 fx)∧w'.cell? ⟨w.heap.size,2,none⟩ = some (.int .i64 fy)∧w'.cell? ⟨w.heap.size + 1,0,none⟩ = some (.int .i64 gq)) (simp [go_sem,World.cell?_alloc_past])
     (first
      | (go_at_call 36;refine (bxf _ _ _ (by omega) (by omega)).mono ?_;rintro e w' ⟨rfl,rfl⟩))
    all_goals
     clear e1 e2 e3
     go_wp2_with (go_at_call 61;refine (ax5 _ _ _ _).mono ?_;rintro e w1 ⟨rfl,rfl⟩)
     refine bodyPost_ret (v:=.tuple #[.agg #[.int .i64 ((fq + gq) % 4),.int .i64 (tX (fq % 4) gx gy + fx),.int .i64 (tY (fq % 4) gx gy + fy)],.int .i64 0]) (by simp [results,Tryz.results106,go_sem]) rfl ⟨by rw [HS.out],?_⟩
     repeat (first|with_reducible assumption|with_reducible exact aqx _|with_reducible refine aqa ?_ _|with_reducible refine aq6 ?_|with_reducible refine aqq _ ?_|refine axv ?_ (by simp;try omega) _|refine aq7 (by with_reducible assumption) ?_)
end Go.Proofs.YtlnplelandimeaaGreat
end
section
namespace Go.Proofs.YtlnplelandimeaaGreat
open Go.RowKit
theorem tX_neg (q x y : Int) : tX q (-x) (-y) = -(tX q x y) := by unfold tX; split <;> (try split) <;> (try split) <;> omega
theorem tY_neg (q x y : Int) : tY q (-x) (-y) = -(tY q x y) := by unfold tY; split <;> (try split) <;> (try split) <;> omega
theorem neg4 (q : Int) : -(q % 4) % 4 = -q % 4 := by omega
set_option maxHeartbeats 1000000 in
theorem cxh (fq fx fy : Int) (w : World) :
 Calls Tryz.prog 107 #[.agg #[.int .i64 fq,.int .i64 fx,.int .i64 fy]] w fun e w'=>e = .returned (InvV fq fx fy)∧Below w.heap.size w w':=by
 have hn:=neg4
 cases hf : (szB fx 8192 && szB fy 8192)
 ·have HS:=Lib.hid (show InvV fq fx fy = .tuple #[.agg #[.int .i64 0,.int .i64 0,.int .i64 0],.int .i64 1] by simp [InvV,hf])
  go_enter Tryz.func107,Tryz.ntmps107
  go_wp2_with (go_at_call 61;refine (ax5 _ _ _ _).mono ?_;rintro e w1 ⟨rfl,rfl⟩)
  refine bodyPost_ret (v:=.tuple #[.agg #[.int .i64 0,.int .i64 0,.int .i64 0],.int .i64 1]) (by simp [results,Tryz.results107,go_sem]) rfl ⟨by rw [HS.out],?_⟩
  repeat (first|with_reducible assumption|with_reducible exact aqx _|with_reducible refine aqa ?_ _|with_reducible refine aq6 ?_|with_reducible refine aqq _ ?_|refine axv ?_ (by simp;try omega) _|refine aq7 (by with_reducible assumption) ?_)
 ·have HS:=Lib.hid (show InvV fq fx fy = .tuple #[.agg #[.int .i64 ((-fq) % 4),.int .i64 (-(tX ((-fq) % 4) fx fy)),.int .i64 (-(tY ((-fq) % 4) fx fy))],.int .i64 0] by simp [InvV,hf,tX_neg,tY_neg])
  obtain ⟨f1,f2,f3,f4⟩:=bwc hf
  obtain ⟨b1,b2⟩:=cx7 (-fq % 4) fx fy 8192 f1 f2 f3 f4
  obtain ⟨b3,b4⟩:=cx8 (-fq % 4) fx fy 8192 f1 f2 f3 f4
  go_enter Tryz.func107,Tryz.ntmps107
  go_wp2_with (first|(go_at_call 61;refine (ax5 _ _ _ _).mono ?_;rintro e w1 ⟨rfl,rfl⟩)|(go_at_call 36;refine (bxf _ _ _ (by omega) (by omega)).mono ?_;rintro e w1 ⟨rfl,rfl⟩)|(go_at_call 105;refine (bjp _ _ _ _ (by omega) (by omega) (by omega) (by omega)).mono ?_;rintro e w1 ⟨rfl,rfl⟩))
  refine bodyPost_ret (v:=.tuple #[.agg #[.int .i64 ((-fq) % 4),.int .i64 (-(tX ((-fq) % 4) fx fy)),.int .i64 (-(tY ((-fq) % 4) fx fy))],.int .i64 0]) (by simp [results,Tryz.results107,go_sem]) rfl ⟨by rw [HS.out],?_⟩
  repeat (first|with_reducible assumption|with_reducible exact aqx _|with_reducible refine aqa ?_ _|with_reducible refine aq6 ?_|with_reducible refine aqq _ ?_|refine axv ?_ (by simp;try omega) _|refine aq7 (by with_reducible assumption) ?_)
end Go.Proofs.YtlnplelandimeaaGreat
end
section
namespace Go.Proofs.YtlnplelandimeaaGreat.En
open Go.RowKit
set_option maxRecDepth 100000
def awd (m : List (Int × Fr)) : List Fr := (List.range 8).map fun (b : Nat) => (aqe m b).getD (0, 0, 0)
def ava (m : List (Int × Fr)) : List Bool := (List.range 8).map fun (b : Nat) => (aqe m b).isSome
theorem bq7 (m : List (Int × Fr)) {k : Int} (h0 : 0 ≤ k) (h1 : k < 8) (d : Fr) : (awd m).getD k.toNat d = (aqe m k).getD (0, 0, 0) := by
 have : k.toNat < 8:=by omega
 have e : ((k.toNat : Nat) : Int)=k:=by omega
 simp [awd,this,e]
theorem avb (m : List (Int × Fr)) {k : Int} (h0 : 0 ≤ k) (h1 : k < 8) (d : Bool) : (ava m).getD k.toNat d = (aqe m k).isSome := by
 have : k.toNat < 8:=by omega
 have e : ((k.toNat : Nat) : Int)=k:=by omega
 simp [ava,this,e]
theorem bqd (b : Int) (f : Fr) (k : Int) : ∀ m : List (Int × Fr), aqe (m ++ [(b, f)]) k = match aqe m k with | some g => some g | none => if k = b then some f else none
 | []=>by simp [aqe]
 | (k',v) :: r=>by
   by_cases e : k=k'
   ·simp [aqe,e]
   ·simp only [List.cons_append,aqe,e,if_false]
    exact bqd b f k r
theorem bvd {m : List (Int × Fr)} {b : Int} {f : Fr} (h0 : 0 ≤ b) (h : aqe m b = none) : awd (m ++ [(b, f)]) = (awd m).set b.toNat f := by
 apply List.ext_getElem?
 intro i
 rw [List.getElem?_set]
 simp only [awd,List.getElem?_map,List.length_map,List.length_range]
 by_cases hi : i < 8
 ·rw [List.getElem?_range hi]
  simp only [Option.map_some,bqd]
  by_cases e : b.toNat=i
  ·have e' : b=(i : Int):=by omega
   rw [← e',h]
   simp [e,hi]
  ·have e' : ¬ (i : Int)=b:=by omega
   rw [if_neg e]
   cases aqe m (i : Int)<;>simp [e']
 ·rw [List.getElem?_eq_none (by simpa using hi)]
  by_cases e : b.toNat=i
  ·simp [e,hi]
  ·simp [e]
theorem bqe {m : List (Int × Fr)} {b : Int} {f : Fr} (h0 : 0 ≤ b) : ava (m ++ [(b, f)]) = (ava m).set b.toNat true := by
 apply List.ext_getElem?
 intro i
 rw [List.getElem?_set]
 simp only [ava,List.getElem?_map,List.length_map,List.length_range]
 by_cases hi : i < 8
 ·rw [List.getElem?_range hi]
  simp only [Option.map_some,bqd]
  by_cases e : b.toNat=i
  ·have e' : b=(i : Int):=by omega
   rw [← e']
   cases aqe m b<;>simp [e,hi]
  ·have e' : ¬ (i : Int)=b:=by omega
   rw [if_neg e]
   cases aqe m (i : Int)<;>simp [e']
 ·rw [List.getElem?_eq_none (by simpa using hi)]
  by_cases e : b.toNat=i
  ·simp [e,hi]
  ·simp [e]
theorem frsOf_one (a : Int) : awd [(a, (0, 0, 0))] = List.replicate 8 (0, 0, 0) := by
 simp only [awd,aqe]
 refine List.ext_getElem (by simp) fun i h1 h2=>?_
 rw [List.getElem_replicate,List.getElem_map]
 split<;>rfl
theorem hasOf_one {a : Int} (h0 : 0 ≤ a) : ava [(a, (0, 0, 0))] = (List.replicate 8 false).set a.toNat true := by
 have:=bqe (m:=[]) (b:=a) (f:=(0,0,0)) h0
 rw [List.nil_append] at this
 rw [this]
 rfl
def bw3 (b : Bool) : List Value := [.bool b]
theorem cxi {m : List (Int × Fr)} {x : RelT} (hA0 : 0 ≤ x.1) (hA1 : x.1 < 8) (hB0 : 0 ≤ x.2.1) (hB1 : x.2.1 < 8) (h1 : (ava m).getD x.1.toNat false = true) (h2 : (ava m).getD x.2.1.toNat false = false) :
 (awd (axm m x)).map encF=((awd m).map encF).set x.2.1.toNat (encF (cmpF ((awd m).getD x.1.toNat (0,0,0)) x.2.2))∧(ava (axm m x)).map bw3=((ava m).map bw3).set x.2.1.toNat (bw3 true):=by
 rw [avb m hA0 hA1] at h1
 rw [avb m hB0 hB1] at h2
 rw [bq7 m hA0 hA1]
 obtain ⟨f,hf⟩:=Option.isSome_iff_exists.1 h1
 have hn : aqe m x.2.1=none:=by simpa using h2
 have e : axm m x=m ++ [(x.2.1,cmpF f x.2.2)]:=by simp only [axm,hf,hn]
 rw [e,bvd hB0 hn,bqe hB0,hf,List.map_set,List.map_set]
 exact ⟨rfl,rfl⟩
theorem bve {m : List (Int × Fr)} {x : RelT} (hA0 : 0 ≤ x.1) (hA1 : x.1 < 8) (hB0 : 0 ≤ x.2.1) (hB1 : x.2.1 < 8) (h1 : (ava m).getD x.1.toNat false = false) (h2 : (ava m).getD x.2.1.toNat false = true) :
 (awd (axm m x)).map encF=((awd m).map encF).set x.1.toNat (encF (cmpF ((awd m).getD x.2.1.toNat (0,0,0)) (invF x.2.2)))∧(ava (axm m x)).map bw3=((ava m).map bw3).set x.1.toNat (bw3 true):=by
 rw [avb m hA0 hA1] at h1
 rw [avb m hB0 hB1] at h2
 rw [bq7 m hB0 hB1]
 obtain ⟨f,hf⟩:=Option.isSome_iff_exists.1 h2
 have hn : aqe m x.1=none:=by simpa using h1
 have e : axm m x=m ++ [(x.1,cmpF f (invF x.2.2))]:=by simp only [axm,hf,hn]
 rw [e,bvd hA0 hn,bqe hA0,hf,List.map_set,List.map_set]
 exact ⟨rfl,rfl⟩
theorem dzj {m : List (Int × Fr)} {x : RelT} (hA0 : 0 ≤ x.1) (hA1 : x.1 < 8) (hB0 : 0 ≤ x.2.1) (hB1 : x.2.1 < 8) (h1 : (ava m).getD x.1.toNat false = (ava m).getD x.2.1.toNat false) : axm m x = m := by
 rw [avb m hA0 hA1,avb m hB0 hB1] at h1
 unfold axm
 cases h2 : aqe m x.1<;>cases h3 : aqe m x.2.1<;>simp [h2,h3] at h1 ⊢
theorem frs_bd {m : List (Int × Fr)} (h : MOk m) (k : Int) : -7168 ≤ ((aqe m k).getD (0, 0, 0)).2.1 ∧ ((aqe m k).getD (0, 0, 0)).2.1 ≤ 7168 ∧ -7168 ≤ ((aqe m k).getD (0, 0, 0)).2.2 ∧ ((aqe m k).getD (0, 0, 0)).2.2 ≤ 7168 := by
 cases hk : aqe m k with
 | none=>simp
 | some f =>
   have h1:=h.fr _ (axw hk)
   have h2:=h.len
   simp only [Option.getD_some] at h1 ⊢
   omega
theorem dzk (A Bb : Int) (f g : Fr) (h1 : -A ≤ f.2.1 ∧ f.2.1 ≤ A ∧ -A ≤ f.2.2 ∧ f.2.2 ≤ A) (h2 : -Bb ≤ g.2.1 ∧ g.2.1 ≤ Bb ∧ -Bb ≤ g.2.2 ∧ g.2.2 ≤ Bb) (hA : 0 ≤ A) (hB : 0 ≤ Bb) (hAB : A + Bb ≤ 8192) :
 PureX Tryz.prog 106 [.a [I f.1,I f.2.1,I f.2.2],.a [I g.1,I g.2.1,I g.2.2]] (.t [.a [I (cmpF f g).1,I (cmpF f g).2.1,I (cmpF f g).2.2],I 0]):=by
 refine PureX.mk' (Entr.of Tryz.func106 rfl rfl) (by simp [SV.wf,SV.wfs]) (by simp [SV.wf,SV.wfs]) fun w=>(cxg f.1 f.2.1 f.2.2 g.1 g.2.1 g.2.2 w).mono ?_
 rintro e w' ⟨rfl,hb⟩
 refine ⟨?_,hb⟩
 obtain ⟨c1,c2,c3,c4,c5,c6⟩:=cjj f g A Bb h1 h2
 have e1 : (szB f.2.1 8192 && szB f.2.2 8192)=true:=by simp [szB];omega
 have e2 : (szB g.2.1 8192 && szB g.2.2 8192)=true:=by simp [szB];omega
 have e3 : (szB (cmpF f g).2.1 8192 && szB (cmpF f g).2.2 8192)=true:=by simp [szB];omega
 simp only [cmpF] at e3
 simp [CmpV,e1,e2,e3,SV.val,SV.vals,cmpF]
theorem bvf (A : Int) (f : Fr) (h1 : -A ≤ f.2.1 ∧ f.2.1 ≤ A ∧ -A ≤ f.2.2 ∧ f.2.2 ≤ A) (hA : A ≤ 8192) :
 PureX Tryz.prog 107 [.a [I f.1,I f.2.1,I f.2.2]] (.t [.a [I (invF f).1,I (invF f).2.1,I (invF f).2.2],I 0]):=by
 refine PureX.mk' (Entr.of Tryz.func107 rfl rfl) (by simp [SV.wf,SV.wfs]) (by simp [SV.wf,SV.wfs]) fun w=>(cxh f.1 f.2.1 f.2.2 w).mono ?_
 rintro e w' ⟨rfl,hb⟩
 refine ⟨?_,hb⟩
 have e1 : (szB f.2.1 8192 && szB f.2.2 8192)=true:=by simp [szB];omega
 simp [InvV,e1,SV.val,SV.vals,invF]
theorem cvv {rs : List RelT} : ∀ (n : Nat) {m : List (Int × Fr)}, MOk m → (∀ r ∈ rs, RelOk r) → MOk (axf rs n m)
 | 0,_,h,_=>h
 | n + 1,_,h,hok=>cvv n (bqz h hok) hok
set_option maxHeartbeats 2000000 in
theorem reached_x (A : Option Addr) (c : Nat) (rs : List RelT) (a : Int) (h0 : 0 ≤ a) (h1 : a < 8) (hok : ∀ r ∈ rs, RelOk r) (hl : rs.length ≤ 1000) :
 CallM Tryz.prog 66 [.a [.v (.slice A rs.length c)],I a] (fun w M=>ArgN w M A rs.length 5 (rs.map encR)) []
  (fun (p : Nat × Nat)=>.t [.v (.slice (some ⟨p.1,0,none⟩) 8 8),.v (.slice (some ⟨p.2,0,none⟩) 8 8)])
  (fun p=>[.row 37 3 (some ⟨p.1,0,none⟩) 8 8 ((awd (aj7 rs a)).map encF),.row 4 1 (some ⟨p.2,0,none⟩) 8 8 ((ava (aj7 rs a)).map bw3)]):=by
 refine CallM.of (m:=0) Tryz.func66 rfl aza rfl rfl rfl rfl (by simp [SV.wfs,SV.wf]) fun w M π hpre=>?_
 (conv=>whnf);repeat' (first|((with_reducible refine isV ?_);first|((refine azf aza rfl (ArgSl.row 2 rfl) rfl ?_ ?_ ?_)<;>first|rfl|omega|with_reducible refine isP ?_|conv=>whnf))|((with_reducible refine isO ?_);first|((refine OpX_make (m:=8) aza rfl rfl rfl rfl ?_ ?_ ?_)<;>first|omega|(dsimp only;omega)|(intro b2;conv=>whnf))|((refine aj6 2 aza rfl rfl rfl rfl rfl rfl ?_ ?_)<;>first|omega|with_reducible refine isP ?_|conv=>whnf))|((with_reducible refine isW ?_;first|refine azg (by omega) (by omega) ?_|refine azc ?_);conv=>whnf)|((first|refine azj aza azt ?_|refine azi (by kernel_rfl) ?_|with_reducible refine azo ?_ ?_)<;>conv=>whnf)|with_reducible exact rfl|((with_reducible refine aze (by assumption) ?_);conv=>whnf)|((with_reducible refine azd ?_ ?_)<;>(intro hb;(try simp (disch:=omega) only [hbS] at hb)<;>conv=>whnf)))
 rename_i b1
 refine azr aza (α:=Nat) (fun k=>k≤8) (fun k=>[(8,I k),(2,.p 0 0),(6,.v (.slice (some ⟨b1,0,none⟩) 8 8)),(7,.v (.slice (some ⟨b2,0,none⟩) 8 8))])
  (fun k=>[.box 59 [.v (.slice A rs.length c)],.row 37 3 (some ⟨b1,0,none⟩) 8 8 ((awd (axf rs k [(a,(0,0,0))])).map encF),.row 4 1 (some ⟨b2,0,none⟩) 8 8 ((ava (axf rs k [(a,(0,0,0))])).map bw3)]) (fun k=>8 - k) 0 [0,1,2] (by (try dsimp only);omega) ?_ ?_
 ·try dsimp only
  rw [axf,frsOf_one,hasOf_one h0,List.map_set]
  (refine ⟨?_,?_,?_,?_⟩<;>(repeat' ((conv=>whnf);apply And.intro))<;>try (first|exact trivial|decide))
  all_goals first|rfl|exact fun _ _ h=>h|simp [SV.wf,SV.wfs]
 ·intro k hk
  try dsimp only at hk
  have hM:=cvv k (MOk.start a h0 h1) hok
  generalize hm : axf rs k [(a,(0,0,0))]=m at hM
  (conv=>whnf);repeat' (first|((with_reducible refine isW ?_;first|refine azg (by omega) (by omega) ?_|refine azc ?_);conv=>whnf)|((first|refine azj aza azt ?_|refine azi (by kernel_rfl) ?_|with_reducible refine azo ?_ ?_)<;>conv=>whnf)|with_reducible exact rfl|((with_reducible refine aze (by assumption) ?_);conv=>whnf)|((with_reducible refine azd ?_ ?_)<;>(intro hb;(try simp (disch:=omega) only [hbS] at hb)<;>conv=>whnf)))
  ·refine azr aza (α:=Nat) (fun i=>i≤rs.length) (fun i=>[(9,I i),(8,I k),(2,.p 0 0),(6,.v (.slice (some ⟨b1,0,none⟩) 8 8)),(7,.v (.slice (some ⟨b2,0,none⟩) 8 8))])
    (fun i=>[.box 59 [.v (.slice A rs.length c)],.row 37 3 (some ⟨b1,0,none⟩) 8 8 ((awd (aq8 (rs.take i) m)).map encF),.row 4 1 (some ⟨b2,0,none⟩) 8 8 ((ava (aq8 (rs.take i) m)).map bw3)]) (fun i=>rs.length - i) 0 [0,1,2] (by (try dsimp only);omega) ?_ ?_
   ·try dsimp only
    (refine ⟨?_,?_,?_,?_⟩<;>(repeat' ((conv=>whnf);apply And.intro))<;>try (first|exact trivial|decide))
    all_goals first|rfl|exact fun _ _ h=>h|simp [SV.wf,SV.wfs]
   ·intro i hi
    try dsimp only at hi
    have hM2:=bqz (rs:=rs.take i) hM (fun r hr=>hok r (List.mem_of_mem_take hr))
    generalize hm2 : aq8 (rs.take i) m=m2 at hM2
    by_cases hlt : i < rs.length
    ·have hr:=hok (rs.getD i (0,0,0,0,0)) (by simp [hlt])
     have hnx : aq8 (rs.take (i + 1)) m=axm m2 (rs.getD i (0,0,0,0,0)):=by rw [← hm2,List.take_succ_eq_append_getElem hlt,bku];simp [hlt]
     unfold RelOk at hr
     have hx:=frs_bd hM2 (rs.getD i (0,0,0,0,0)).1
     have hy:=frs_bd hM2 (rs.getD i (0,0,0,0,0)).2.1
     rw [← bq7 m2 (by omega) (by omega) (0,0,0)] at hx hy
     have hv:=bwf (rs.getD i (0,0,0,0,0)).2.2 1024 (by omega)
     (conv=>whnf);repeat' (first|((with_reducible refine isC ?_);first|((first|with_reducible refine azb (bvf 1024 _ ?_ (by decide)) ?_|with_reducible refine azb (dzk 7168 1024 _ _ ?_ ?_ (by decide) (by decide) (by decide)) ?_)<;>first|omega|with_reducible refine isP ?_|conv=>whnf))|((with_reducible refine isV ?_);first|((first|refine azf aza rfl (ArgN.mem hpre (by decide)) rfl ?_ ?_ ?_|(with_reducible refine azq ?_);refine azw _ _ ((0,0,0,0,0)) aza rfl rfl rfl rfl (ArgN.mem hpre (by decide)) ?_ ?_ ?_|refine azy _ _ ((0,0,0,0,0)) aza rfl rfl rfl rfl (ArgN.mem hpre (by decide)) ?_ ?_ ?_|refine azf aza rfl (ArgSl.row 2 rfl) rfl ?_ ?_ ?_|(with_reducible refine azq ?_);refine azn _ _ (false) aza rfl rfl rfl (ArgSl.row 2 rfl) ?_ ?_ ?_|refine azp _ _ (false) aza rfl rfl rfl (ArgSl.row 2 rfl) ?_ ?_ ?_|refine azf aza rfl (ArgSl.row 1 rfl) rfl ?_ ?_ ?_|(with_reducible refine azq ?_);refine azw _ _ ((0,0,0)) aza rfl rfl rfl rfl (ArgSl.row 1 rfl) ?_ ?_ ?_|refine azy _ _ ((0,0,0)) aza rfl rfl rfl rfl (ArgSl.row 1 rfl) ?_ ?_ ?_|refine azf aza rfl (ArgSl.row 1 rfl) rfl ?_ ?_ ?_|refine azf aza rfl (ArgSl.row 2 rfl) rfl ?_ ?_ ?_)<;>first|rfl|omega|with_reducible refine isP ?_|conv=>whnf))|((with_reducible refine isO ?_);first|((first|refine aj6 1 aza rfl rfl rfl rfl rfl rfl ?_ ?_|refine aj6 2 aza rfl rfl rfl rfl rfl rfl ?_ ?_)<;>first|omega|with_reducible refine isP ?_|conv=>whnf))|((with_reducible refine isW ?_;first|refine azg (by omega) (by omega) ?_|refine azc ?_);conv=>whnf)|((first|refine azj aza azt ?_|refine azi (by kernel_rfl) ?_|with_reducible refine azo ?_ ?_)<;>conv=>whnf)|with_reducible exact rfl|((with_reducible refine aze (by assumption) ?_);conv=>whnf)|((with_reducible refine azd ?_ ?_)<;>(intro hb;(try simp (disch:=omega) only [hbS] at hb)<;>conv=>whnf)))
     all_goals try (first|omega|(exfalso;omega))
     all_goals try (exfalso;simp_all;done)
     all_goals
      refine ⟨i + 1,[0,1,2],by (try dsimp only);omega,?_,by (try dsimp only);omega⟩
      try dsimp only
      rw [hnx]
      first
      | (rw [(cxi (x:=rs.getD i (0,0,0,0,0)) (by omega) (by omega) (by omega) (by omega) (by assumption) (by assumption)).1,(cxi (x:=rs.getD i (0,0,0,0,0)) (by omega) (by omega) (by omega) (by omega) (by assumption) (by assumption)).2])
      | (rw [(bve (x:=rs.getD i (0,0,0,0,0)) (by omega) (by omega) (by omega) (by omega) (by assumption) (by assumption)).1,(bve (x:=rs.getD i (0,0,0,0,0)) (by omega) (by omega) (by omega) (by omega) (by assumption) (by assumption)).2])
      | (rw [dzj (x:=rs.getD i (0,0,0,0,0)) (by omega) (by omega) (by omega) (by omega) (by simp_all;done)])
      (refine ⟨?_,?_,?_,?_⟩<;>(repeat' ((conv=>whnf);apply And.intro))<;>try (first|exact trivial|decide))
      all_goals first|rfl|exact fun _ _ h=>h|simp [SV.wf,SV.wfs]
    ·obtain rfl : i=rs.length:=by omega
     rw [List.take_length] at hm2
     (conv=>whnf);repeat' (first|((with_reducible refine isW ?_;first|refine azg (by omega) (by omega) ?_|refine azc ?_);conv=>whnf)|((first|refine azj aza azt ?_|refine azi (by kernel_rfl) ?_|with_reducible refine azo ?_ ?_)<;>conv=>whnf)|with_reducible exact rfl|((with_reducible refine aze (by assumption) ?_);conv=>whnf)|((with_reducible refine azd ?_ ?_)<;>(intro hb;(try simp (disch:=omega) only [hbS] at hb)<;>conv=>whnf)))
     ·omega
     ·refine ⟨k + 1,[0,1,2],by (try dsimp only);omega,?_,by (try dsimp only);omega⟩
      try dsimp only
      rw [bz7,hm,hm2]
      (refine ⟨?_,?_,?_,?_⟩<;>(repeat' ((conv=>whnf);apply And.intro))<;>try (first|exact trivial|decide))
      all_goals first|rfl|exact fun _ _ h=>h|simp [SV.wf,SV.wfs]
  ·obtain rfl : k=8:=by omega
   refine azv (b1,b2) [1,2] ⟨rfl,by simp [SV.wf,SV.wfs]⟩ ?_ (by decide) rfl
   dsimp only
   rw [aj7,hm]
   exact ⟨⟨rfl,rfl,rfl,rfl,rfl,rfl⟩,⟨rfl,rfl,rfl,rfl,rfl,rfl⟩,trivial⟩
end Go.Proofs.YtlnplelandimeaaGreat.En
end
