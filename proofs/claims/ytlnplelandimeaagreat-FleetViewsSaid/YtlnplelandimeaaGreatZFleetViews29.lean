import Derived.Test.YtlnplelandimeaaGreatZFleetViews28
set_option linter.all false
section
namespace Go.Proofs.YtlnplelandimeaaGreat.En
open Go.RowKit
set_option maxRecDepth 100000
section
variable {C : Ctx} {ob : List OB} {b : Nat} {c : CoT} {S : SnT} {H : Nat → Bool}
theorem Mem.merge4 {σ : Nat → Nat} {fp : Nat → Nat → Prop} {w w' : World} (h : Mem C σ fp ob w) {j k0 k1 k2 : Nat} (hj : j < ob.length) (h0 : k0 < ob.length) (h1 : k1 < ob.length) (h2 : k2 < ob.length) (e0 : j ≠ k0) (e1 : j ≠ k1) (e2 : j ≠ k2) (e01 : k0 ≠ k1) (e02 : k0 ≠ k2) (e12 : k1 ≠ k2) (o : OB)
 (ho : o.at σ ob.length w' (σ j) (fun i=>((fp j i∨fp k0 i)∨fp k1 i)∨fp k2 i)) (hos : w'.os=w.os) (htape : w'.tape=w.tape) (hout : w'.output=w.output) (hsz : w'.heap.size=w.heap.size)
 (hsame : ∀ i,i < w.heap.size→¬ fp j i→w'.heap[i]? = w.heap[i]?) (hdr : w'.drawn=w.drawn) :
 ∃ fp',(∀ k i,k < ob.length→fp' k i→∃ k',k' < ob.length∧fp k' i)∧Mem C σ fp' ((((((ob.set j noO).set k0 noO).set j noO).set k1 noO).set j o).set k2 noO) w':=by
 have hn : ∀ (n : Nat) (w : World) (q : Nat) (F : Nat→Prop),noO.at σ n w q F:=fun _ _ _ _=>⟨trivial,fun _ _=>trivial⟩
 have m1:=h.merge (w':=w') hj h0 e0 noO noO (hn _ _ _ _) (hn _ _ _ _) hos htape hout hsz hsame hdr
 have m2:=m1.merge (w':=w') (j:=j) (q:=k1) (by simpa using hj) (by simpa using h1) e1 noO noO (hn _ _ _ _) (hn _ _ _ _) rfl rfl rfl rfl (fun _ _ _=>rfl) rfl
 have m3:=m2.merge (w':=w') (j:=j) (q:=k2) (by simpa using hj) (by simpa using h2) e2 o noO (by
  simp only [if_true,if_neg e1.symm,if_neg e01.symm,if_neg e2.symm,if_neg e02.symm,if_neg e12.symm,List.length_set]
  exact ho) (hn _ _ _ _) rfl rfl rfl rfl (fun _ _ _=>rfl) rfl
 refine ⟨_,?_,m3⟩
 intro k i hk hi
 by_cases a : k=j
 ·subst a
  simp only [if_true,if_neg e1.symm,if_neg e01.symm,if_neg e2.symm,if_neg e02.symm,if_neg e12.symm] at hi
  rcases hi with ((hi|hi)|hi)|hi
  ·exact ⟨k,hj,hi⟩
  ·exact ⟨k0,h0,hi⟩
  ·exact ⟨k1,h1,hi⟩
  ·exact ⟨k2,h2,hi⟩
 ·rw [if_neg a] at hi
  by_cases a2 : k=k2
  ·rw [if_pos a2] at hi;exact hi.elim
  ·rw [if_neg a2,if_neg a] at hi
   by_cases a1 : k=k1
   ·rw [if_pos a1] at hi;exact hi.elim
   ·rw [if_neg a1,if_neg a] at hi
    by_cases a0 : k=k0
    ·rw [if_pos a0] at hi;exact hi.elim
    ·rw [if_neg a0] at hi
     exact ⟨k,hk,hi⟩
theorem atw_of {σ : Nat → Nat} {fp : Nat → Nat → Prop} {w : World} (hm : Mem C σ fp ob w) {k0 k1 k2 b1 b2 : Nat} {m : List (Int × SlT)} {q : List (Int × PlT)} (h0 : nth ob k0 = some (atB b1 b2)) (h1 : nth ob k1 = some (scO b1 m)) (h2 : nth ob k2 = some (plO b2 q)) (e01 : k0 ≠ k1) (e02 : k0 ≠ k2) (e12 : k1 ≠ k2) (hok : okS m) (hg : ajj (absM (m, q))) :
 AtW w (fun i=>(fp k0 i∨fp k1 i)∨fp k2 i) (σ k0) (absM (m,q))∧k0 < ob.length∧k1 < ob.length∧k2 < ob.length:=by
 obtain ⟨a1,a2,a3⟩:=cqx hm h1
 obtain ⟨c1,c2,c3⟩:=nth_im hm h2
 rw [aq4] at h0
 obtain ⟨d1,d2,d3⟩:=hm.at_ k0 _ h0
 have l0:=(List.getElem?_eq_some_iff.1 h0).1
 refine ⟨⟨hg,b1,b2,m,q,fp k1,fp k2,hok,rfl,d1,⟨a1,a2⟩,⟨c1,c2⟩,fun i=>?_,fun i hi=>⟨fun e=>?_,hm.disj k1 k2 a3 c3 e12 i hi⟩,fun i hi e=>?_⟩,l0,a3,c3⟩
 ·show (fp k0 i∨fp k1 i)∨fp k2 i↔_
  rw [d2,or_assoc]
 ·exact hm.disj k0 k1 l0 a3 e01 i ((d2 i).2 e) hi
 ·exact hm.disj k0 k2 l0 c3 e02 i ((d2 i).2 e) hi
theorem StW.put {w w' : World} {F G : Nat → Prop} {Fs : Nat → Nat → Prop} (h : StW w F b c S H Fs) {i p : Nat} {a : AtT} (hi : i < 8) (hH : H i = false) (hw : ∀ x, F x → x ≠ b → w'.heap[x]? = w.heap[x]?) (hG : ∀ x, G x → ¬ F x) (hA : AtW w' G p a) {c' : CoT} {S' : SnT} {H' : Nat → Bool}
 (hbox : FnAt w' b 99 73 (stC c' S')) (hp : c'.pt i=some p) (hpt : ∀ k,k ≠ i→c'.pt k=c.pt k) (hrp : c'.rp=c.rp) (hrel : S'.rel=S.rel) (ha : S'.ats i=a) (hats : ∀ k,k ≠ i→S'.ats k=S.ats k) (hH' : ∀ k,k ≠ i→H' k=H k) :
 StW w' (fun x=>F x∨G x) b c' S' H' (fun k=>if k=i then G else Fs k):=by
 refine ⟨hbox,?_,?_,?_,?_,?_⟩
 ·(try dsimp only)
  rw [if_neg (by omega)];exact h.own
 ·intro x y f hx hy hf
  rw [hrel] at hf
  obtain ⟨⟨u,v,h1⟩,h2,h3⟩:=h.rel x y f hx hy hf
  (try dsimp only)
  rw [hrp,if_neg (by omega)]
  exact ⟨⟨u,v,(hw _ (h.sub 8 (by omega) _ h2) h3).trans h1⟩,h2,h3⟩
 ·intro k hk hHk
  by_cases e : k=i
  ·subst e
   refine ⟨p,hp,?_⟩
   (try dsimp only)
   rw [if_pos rfl,ha];exact hA
  ·rw [hH' k e] at hHk
   obtain ⟨p',h1,h2⟩:=h.ats k hk hHk
   refine ⟨p',by rw [hpt k e];exact h1,?_⟩
   (try dsimp only)
   rw [if_neg e,hats k e]
   exact h2.ext fun x hx=>hw x (h.sub k (by omega) x hx) fun e=>h.disj k 8 (by omega) (by omega) (by omega) x hx (e ▸ h.own)
 ·intro k l hk hl hkl x hx hx'
  (try dsimp only at hx hx')
  by_cases e1 : k=i<;>by_cases e2 : l=i
  ·omega
  ·rw [if_pos e1] at hx
   rw [if_neg e2] at hx'
   exact hG x hx (h.sub l hl x hx')
  ·rw [if_neg e1] at hx
   rw [if_pos e2] at hx'
   exact hG x hx' (h.sub k hk x hx)
  ·rw [if_neg e1] at hx
   rw [if_neg e2] at hx'
   exact h.disj k l hk hl hkl x hx hx'
 ·intro k hk x hx
  (try dsimp only at hx)
  by_cases e1 : k=i
  ·rw [if_pos e1] at hx
   exact .inr hx
  ·rw [if_neg e1] at hx
   exact .inl (h.sub k hk x hx)
def onF (H : Nat → Bool) (i : Nat) : Nat → Bool := fun k => if k = i then true else H k
def offF (H : Nat → Bool) (i : Nat) : Nat → Bool := fun k => if k = i then false else H k
theorem on_off (H : Nat → Bool) (i : Nat) (h : H i = true) : onF (offF H i) i = H := by
 funext k
 unfold onF offF
 by_cases e : k=i
 ·rw [if_pos e,e,h]
 ·rw [if_neg e,if_neg e]
variable {o : Oper} {t : TypeId} {x y : Operand} {te : TI}
theorem stC_pt (c : CoT) (S : SnT) (i p : Nat) (a : AtT) (hi : i < 8) (k : Nat) (hk : k < 73) : stC { c with pt := updN c.pt i (some p) } { S with ats := updN S.ats i a } k = if i + 1 ≤ k ∧ k < i + 1 + [Value.pointer (some ⟨p, 0, none⟩)].length then [Value.pointer (some ⟨p, 0, none⟩)].getD (k - (i + 1)) undef else stC c S k := by
 unfold stC
 simp only [List.length_cons,List.length_nil,Nat.zero_add]
 by_cases c0 : k=0
 ·rw [if_pos c0,if_neg (by omega),if_pos c0]
 ·rw [if_neg c0,if_neg c0]
  by_cases c1 : k < 9
  ·rw [if_pos c1,if_pos c1]
   by_cases e : k=i + 1
   ·rw [if_pos (by omega),e,Nat.sub_self]
    unfold ptP updN
    dsimp only
    rw [if_pos (by omega)]
    rfl
   ·rw [if_neg (by omega)]
    unfold ptP updN
    dsimp only
    rw [if_neg (by omega)]
  ·rw [if_neg c1,if_neg c1,if_neg (by omega)]
   rfl
theorem OpX_stPt (j k0 k1 k2 i : Nat) {b1 b2 : Nat} {m : List (Int × SlT)} {q : List (Int × PlT)} {K : SV → List OB → Prop} (e0 : j ≠ k0) (e1 : j ≠ k1) (e2 : j ≠ k2) (e01 : k0 ≠ k1) (e02 : k0 ≠ k2) (e12 : k1 ≠ k2) (hT : aqc C.P C.T) (ho : o.op = .store t x y) (hte : aqf C.T t = some te) (hz : te.zero.length = 1)
 (hj : nth ob j=some (stO b c S H)) (h0 : nth ob k0=some (atB b1 b2)) (h1 : nth ob k1=some (scO b1 m)) (h2 : nth ob k2=some (plO b2 q)) (hok : okS m) (hg : ajj (absM (m,q))) (hi : i < 8) (hH : H i=false)
 (hK : ∀ p,aqb (setN (setN (setN (setN (setN (setN ob j noO) k0 noO) j noO) k1 noO) j (stO b { c with pt:=updN c.pt i (some p) } { S with ats:=updN S.ats i (absM (m,q)) } (onF H i))) k2 noO) fun ob=>K (.v undef) ob) :
 OpX C o [.v (.pointer (some (((⟨b,0,none⟩ : Addr).add 1).add ((i : Int).toNat * 1)))),.p k0 0] ob K:=by
 rw [ake,ake,Int.toNat_natCast,Nat.mul_one,Nat.zero_add,Nat.add_comm 1 i]
 unfold OpX
 intro σ fp w ρ hm hx
 obtain ⟨⟨Fs,hs⟩,hjl⟩:=bzl hm hj
 obtain ⟨hA,l0,l1,l2⟩:=atw_of hm h0 h1 h2 e01 e02 e12 hok hg
 obtain ⟨w',hex,hR',s2,s3,q1,q2,q3,q4⟩:=fn_set (vs:=[.pointer (some ⟨σ k0,0,none⟩)]) (v:=.p k0 0) (f':=stC { c with pt:=updN c.pt i (some (σ k0)) } { S with ats:=updN S.ats i (absM (m,q)) }) hT ho hte (by simp;omega) (by rw [hz];rfl) (by simp [Value.oneCell']) (fun k hk=>stC_pt c S i (σ k0) _ hi k hk) (.inr ⟨_,rfl,rfl⟩) hs.box hx
 rw [hex]
 have hb : fp j b:=hs.sub 8 (by omega) b hs.own
 have hsame : ∀ q,q < w.heap.size→¬ fp j q→w'.heap[q]? = w.heap[q]?:=fun q hq hnq=>s2 q fun e=>hnq (e ▸ hb)
 have hnot : ∀ x,((fp k0 x∨fp k1 x)∨fp k2 x)→¬ fp j x:=by
  rintro x ((h|h)|h) hj'
  ·exact hm.disj j k0 hjl l0 e0 x hj' h
  ·exact hm.disj j k1 hjl l1 e1 x hj' h
  ·exact hm.disj j k2 hjl l2 e2 x hj' h
 have hst:=hs.put (w':=w') (i:=i) (p:=σ k0) (a:=absM (m,q)) (c':={ c with pt:=updN c.pt i (some (σ k0)) }) (S':={ S with ats:=updN S.ats i (absM (m,q)) }) (H':=onF H i) hi hH (fun x _ hxb=>s2 x hxb) hnot (hA.ext fun x hx=>s2 x fun e=>hnot x hx (e ▸ hb)) hR' (by simp [updN]) (fun k hk=>by simp [updN,hk]) rfl rfl (by simp [updN]) (fun k hk=>by simp [updN,hk]) (fun k hk=>by simp [onF,hk])
 obtain ⟨fp',hfp,hM⟩:=hm.merge4 (w':=w') hjl l0 l1 l2 e0 e1 e2 e01 e02 e12 (stO b { c with pt:=updN c.pt i (some (σ k0)) } { S with ats:=updN S.ats i (absM (m,q)) } (onF H i)) (cxj (by
  have he : (fun i=>((fp j i∨fp k0 i)∨fp k1 i)∨fp k2 i)=fun x=>fp j x∨(fp k0 x∨fp k1 x)∨fp k2 x:=by
   funext x
   simp only [or_assoc]
  rw [he]
  exact hst)) q1 q2 q3 s3 hsame q4
 have hK:=hK (σ k0)
 rw [azu] at hK
 simp only [aqm] at hK
 refine ⟨.v undef,_,σ,fp',hK,fun _ _=>rfl,by simp,rfl,trivial,hM,⟨fun i _ hi hno=>hsame i hi (hno j hjl),fun k' hk' i hi _ hlt=>?_,by rw [s3];exact Nat.le_refl _⟩⟩
 simp at hk'
 exact hfp k' i hk' hi
theorem stC_rel (c : CoT) (S : SnT) (x y g : Nat) (f : Fr) (hx : x < 8) (hy : y < 8) (k : Nat) (hk : k < 73) : stC { c with rp := upd2 c.rp x y g } { S with rel := upd2 S.rel x y (some f) } k = if 9 + x * 8 + y ≤ k ∧ k < 9 + x * 8 + y + [Value.pointer (some ⟨g, 2, none⟩)].length then [Value.pointer (some ⟨g, 2, none⟩)].getD (k - (9 + x * 8 + y)) undef else stC c S k := by
 unfold stC
 simp only [List.length_cons,List.length_nil,Nat.zero_add]
 by_cases c0 : k=0
 ·rw [if_pos c0,if_neg (by omega),if_pos c0]
 ·rw [if_neg c0,if_neg c0]
  by_cases c1 : k < 9
  ·rw [if_pos c1,if_neg (by omega),if_pos c1]
   rfl
  ·rw [if_neg c1,if_neg c1]
   unfold relP upd2
   (try dsimp only)
   by_cases e : k=9 + x * 8 + y
   ·rw [if_pos (by omega),e,Nat.sub_self,if_pos (by omega),if_pos (by omega)]
    rfl
   ·rw [if_neg (by omega),if_neg (by omega),if_neg (by omega)]
theorem bzn (j k u v : Nat) (f : Fr) {x0 y0 : SV} {K : SV → List OB → Prop} (e0 : j ≠ k) (hT : aqc C.P C.T) (ho : o.op = .store t x y) (hte : aqf C.T t = some te) (hz : te.zero.length = 1)
 (hj : nth ob j=some (stO b c S H)) (h0 : nth ob k=some (.box 39 [x0,y0,I f.1,I f.2.1,I f.2.2])) (hu : u < 8) (hv : v < 8)
 (hK : ∀ g,aqb (setN (setN ob j (stO b { c with rp:=upd2 c.rp u v g } { S with rel:=upd2 S.rel u v (some f) } H)) k noO) fun ob=>K (.v undef) ob) :
 OpX C o [.v (.pointer (some ((((⟨b,0,none⟩ : Addr).add 9).add ((u : Int).toNat * 8)).add ((v : Int).toNat * 1)))),.p k 2] ob K:=by
 rw [ake,ake,ake,Int.toNat_natCast,Int.toNat_natCast,Nat.mul_one,Nat.zero_add]
 unfold OpX
 intro σ fp w ρ hm hx
 obtain ⟨⟨Fs,hs⟩,hjl⟩:=bzl hm hj
 rw [aq4] at h0
 obtain ⟨d1,d2,d3⟩:=hm.at_ k _ h0
 have l0:=(List.getElem?_eq_some_iff.1 h0).1
 obtain ⟨w',hex,hR',s2,s3,q1,q2,q3,q4⟩:=fn_set (vs:=[.pointer (some ⟨σ k,2,none⟩)]) (v:=.p k 2) (f':=stC { c with rp:=upd2 c.rp u v (σ k) } { S with rel:=upd2 S.rel u v (some f) }) hT ho hte (by simp;omega) (by rw [hz];rfl) (by simp [Value.oneCell']) (fun i hi=>stC_rel c S u v (σ k) f hu hv i hi) (.inr ⟨_,rfl,rfl⟩) hs.box hx
 rw [hex]
 have hb : fp j b:=hs.sub 8 (by omega) b hs.own
 have hsame : ∀ q,q < w.heap.size→¬ fp j q→w'.heap[q]? = w.heap[q]?:=fun q hq hnq=>s2 q fun e=>hnq (e ▸ hb)
 have hkj : ∀ x,fp k x→¬ fp j x:=fun x h h'=>hm.disj j k hjl l0 e0 x h' h
 have hkb : σ k ≠ b:=fun e=>hkj b ((d2 b).2 e.symm) hb
 have hst : StW w' (fun x=>fp j x∨fp k x) b { c with rp:=upd2 c.rp u v (σ k) } { S with rel:=upd2 S.rel u v (some f) } H (fun i=>if i=8 then (fun x=>Fs 8 x∨fp k x) else Fs i):=by
  refine ⟨hR',?_,?_,?_,?_,?_⟩
  ·(try dsimp only)
   rw [if_pos rfl];exact .inl hs.own
  ·intro x y f' hx hy hf
   (try dsimp only at hf ⊢)
   rw [if_pos rfl]
   unfold upd2 at hf ⊢
   by_cases e : x=u∧y=v
   ·rw [if_pos e] at hf ⊢
    obtain rfl:=Option.some.inj hf
    refine ⟨⟨x0.val σ,y0.val σ,?_⟩,.inr ((d2 _).2 rfl),hkb⟩
    rw [s2 _ hkb,d1]
    rfl
   ·rw [if_neg e] at hf ⊢
    obtain ⟨⟨u',v',h1⟩,h2,h3⟩:=hs.rel x y f' hx hy hf
    exact ⟨⟨u',v',(s2 _ h3).trans h1⟩,.inl h2,h3⟩
  ·intro i hi hHi
   obtain ⟨p,h1,h2⟩:=hs.ats i hi hHi
   refine ⟨p,h1,?_⟩
   (try dsimp only)
   rw [if_neg (by omega)]
   exact h2.ext fun x hx=>s2 x fun e=>hs.disj i 8 (by omega) (by omega) (by omega) x hx (e ▸ hs.own)
  ·intro i i' hi hi' hne z hz hz'
   (try dsimp only at hz hz')
   by_cases e1 : i=8<;>by_cases e2 : i' = 8
   ·omega
   ·rw [if_pos e1] at hz
    rw [if_neg e2] at hz'
    rcases hz with hz|hz
    ·exact hs.disj 8 i' (by omega) hi' (by omega) z hz hz'
    ·exact hkj z hz (hs.sub i' hi' z hz')
   ·rw [if_neg e1] at hz
    rw [if_pos e2] at hz'
    rcases hz' with hz'|hz'
    ·exact hs.disj i 8 hi (by omega) (by omega) z hz hz'
    ·exact hkj z hz' (hs.sub i hi z hz)
   ·rw [if_neg e1] at hz
    rw [if_neg e2] at hz'
    exact hs.disj i i' hi hi' hne z hz hz'
  ·intro i hi z hz
   (try dsimp only at hz)
   by_cases e1 : i=8
   ·rw [if_pos e1] at hz
    rcases hz with hz|hz
    ·exact .inl (hs.sub 8 (by omega) z hz)
    ·exact .inr hz
   ·rw [if_neg e1] at hz
    exact .inl (hs.sub i hi z hz)
 have hM:=hm.merge (w':=w') hjl l0 e0 (stO b { c with rp:=upd2 c.rp u v (σ k) } { S with rel:=upd2 S.rel u v (some f) } H) noO (cxj hst) ⟨trivial,fun _ _=>trivial⟩ q1 q2 q3 s3 hsame q4
 have hK:=hK (σ k)
 rw [azu,aqm,aqm] at hK
 refine ⟨.v undef,_,σ,_,hK,fun _ _=>rfl,by simp,rfl,trivial,hM,⟨fun i _ hi hno=>hsame i hi (hno j hjl),fun k' hk' i hi _ hlt=>?_,by rw [s3];exact Nat.le_refl _⟩⟩
 simp at hk'
 by_cases e1 : k' = j
 ·rw [if_pos e1] at hi
  rcases hi with hi|hi
  ·exact ⟨j,hjl,hi⟩
  ·exact ⟨k,l0,hi⟩
 ·rw [if_neg e1] at hi
  by_cases e2 : k' = k
  ·rw [if_pos e2] at hi
   exact hi.elim
  ·rw [if_neg e2] at hi
   exact ⟨k',hk',hi⟩
theorem Mem.openSt {σ : Nat → Nat} {fp : Nat → Nat → Prop} {w : World} {j i : Nat} (hm : Mem C σ fp ob w) (hj : nth ob j = some (stO b c S H)) (hi : i < 8) (hH : H i = true) :
 ∃ p b1 b2 m q σ' fp',c.pt i=some p∧okS m∧absM (m,q)=S.ats i∧ajj (S.ats i)∧σ' ob.length=p∧(∀ k,k < ob.length→σ' k=σ k)∧(∀ k x,k < ob.length + 3→fp' k x→∃ k',k' < ob.length∧fp k' x) ∧
  Mem C σ' fp' (ob.set j (stO b c S (offF H i)) ++ [atB b1 b2] ++ [scO b1 m] ++ [plO b2 q]) w:=by
 obtain ⟨⟨Fs,hs⟩,hjl⟩:=bzl hm hj
 obtain ⟨p,hp,hg,b1,b2,m,q,F1,F2,h1,h2,h3,⟨⟨h4,h5⟩,h6⟩,⟨h7,h8⟩,h9,h10,h11⟩:=hs.ats i hi hH
 have hs' : StW w (fun x=>fp j x∧¬ Fs i x) b c S (offF H i) (fun k=>if k=i then (fun _=>False) else Fs k):=by
  refine ⟨hs.box,?_,?_,?_,?_,?_⟩
  ·(try dsimp only)
   rw [if_neg (by omega)];exact hs.own
  ·intro x y f hx hy hf
   (try dsimp only)
   rw [if_neg (by omega)]
   exact hs.rel x y f hx hy hf
  ·intro k hk hHk
   unfold offF at hHk
   by_cases e : k=i
   ·rw [if_pos e] at hHk;cases hHk
   ·rw [if_neg e] at hHk
    obtain ⟨p',g1,g2⟩:=hs.ats k hk hHk
    refine ⟨p',g1,?_⟩
    (try dsimp only)
    rw [if_neg e];exact g2
  ·intro k l hk hl hkl x hx hx'
   (try dsimp only at hx hx')
   by_cases e1 : k=i
   ·rw [if_pos e1] at hx;exact hx
   ·by_cases e2 : l=i
    ·rw [if_pos e2] at hx';exact hx'
    ·rw [if_neg e1] at hx
     rw [if_neg e2] at hx'
     exact hs.disj k l hk hl hkl x hx hx'
  ·intro k hk x hx
   (try dsimp only at hx)
   by_cases e1 : k=i
   ·rw [if_pos e1] at hx;exact hx.elim
   ·rw [if_neg e1] at hx
    exact ⟨hs.sub k hk x hx,fun h=>hs.disj k i hk (by omega) e1 x hx h⟩
 have hFi : ∀ x,Fs i x→fp j x:=fun x hx=>hs.sub i (by omega) x hx
 have m0:=hm.change (w':=w) hjl (stO b c S (offF H i)) (fun x=>fp j x∧¬ Fs i x) (cxj hs') (fun x hx=>.inl hx.1) (fun x hx=>hm.hi j hjl x hx.1) rfl rfl rfl (Nat.le_refl _) (fun _ _ _=>rfl) (fun _=>Nat.le_refl _)
 have free0 : ∀ x,Fs i x→(C.M x∨C.w0.heap.size≤x)∧x < w.heap.size∧∀ k,k < (ob.set j (stO b c S (offF H i))).length→¬ (if k=j then (fun x=>fp j x∧¬ Fs i x) else fp k) x:=by
  intro x hx
  refine ⟨hm.lo j hjl x (hFi x hx),hm.hi j hjl x (hFi x hx),fun k hk h=>?_⟩
  simp at hk
  by_cases e : k=j
  ·rw [if_pos e] at h;exact h.2 hx
  ·rw [if_neg e] at h
   exact hm.disj k j hk hjl e x h (hFi x hx)
 have m1:=m0.adopt (atB b1 b2) p (· = p) ⟨h3,fun _=>Iff.rfl,by simp [SV.wf,SV.wfs]⟩ (by
  rintro x rfl
  exact free0 x ((h9 x).2 (.inl rfl)))
 have m2:=m1.adopt (scO b1 m) 0 F1 (scO_mk h4 h5 h6) (by
  intro x hx
  obtain ⟨f1,f2,f3⟩:=free0 x ((h9 x).2 (.inr (.inl hx)))
  refine ⟨f1,f2,fun k hk h=>?_⟩
  simp at hk
  by_cases e : k=(ob.set j (stO b c S (offF H i))).length
  ·rw [if_pos e] at h
   exact (h10 x hx).1 h
  ·rw [if_neg e] at h
   simp at e
   exact f3 k (by simp;omega) h)
 have m3:=m2.adopt (plO b2 q) 0 F2 (imO_mk h7 h8) (by
  intro x hx
  obtain ⟨f1,f2,f3⟩:=free0 x ((h9 x).2 (.inr (.inr hx)))
  refine ⟨f1,f2,fun k hk h=>?_⟩
  simp at hk
  by_cases e2 : k=(ob.set j (stO b c S (offF H i)) ++ [atB b1 b2]).length
  ·rw [if_pos e2] at h
   exact (h10 x h).2 hx
  ·rw [if_neg e2] at h
   simp at e2
   by_cases e : k=(ob.set j (stO b c S (offF H i))).length
   ·rw [if_pos e] at h
    exact h11 x hx h
   ·rw [if_neg e] at h
    simp at e
    exact f3 k (by simp;omega) h)
 refine ⟨p,b1,b2,m,q,_,_,hp,h1,h2,hg,?_,?_,?_,m3⟩
 ·simp
 ·intro k hk
  simp [show k ≠ ob.length by omega,show k ≠ ob.length + 1 by omega,show k ≠ ob.length + 1 + 1 by omega]
 ·intro k x hk h
  simp only [List.length_append,List.length_set,List.length_cons,List.length_nil] at h
  by_cases e3 : k=ob.length + (0 + 1) + (0 + 1)
  ·rw [if_pos e3] at h
   exact ⟨j,hjl,hFi x ((h9 x).2 (.inr (.inr h)))⟩
  ·rw [if_neg e3] at h
   by_cases e2 : k=ob.length + (0 + 1)
   ·rw [if_pos e2] at h
    exact ⟨j,hjl,hFi x ((h9 x).2 (.inr (.inl h)))⟩
   ·rw [if_neg e2] at h
    by_cases e1 : k=ob.length
    ·rw [if_pos e1] at h
     exact ⟨j,hjl,hFi x ((h9 x).2 (.inl h))⟩
    ·rw [if_neg e1] at h
     by_cases e : k=j
     ·rw [if_pos e] at h
      exact ⟨j,hjl,h.1⟩
     ·rw [if_neg e] at h
      exact ⟨k,by omega,h⟩
theorem Mem.closeSt {σ : Nat → Nat} {fp : Nat → Nat → Prop} {w : World} {j k0 k1 k2 i b1 b2 p : Nat} {m : List (Int × SlT)} {q : List (Int × PlT)} (hm : Mem C σ fp ob w) (hj : nth ob j = some (stO b c S (offF H i))) (h0 : nth ob k0 = some (atB b1 b2)) (h1 : nth ob k1 = some (scO b1 m)) (h2 : nth ob k2 = some (plO b2 q))
 (e0 : j ≠ k0) (e1 : j ≠ k1) (e2 : j ≠ k2) (e01 : k0 ≠ k1) (e02 : k0 ≠ k2) (e12 : k1 ≠ k2) (hi : i < 8) (hp : c.pt i=some p) (hσ : σ k0=p) (hok : okS m) (hg : ajj (absM (m,q))) :
 ∃ fp',(∀ k i,k < ob.length→fp' k i→∃ k',k' < ob.length∧fp k' i)∧Mem C σ fp' ((((((ob.set j noO).set k0 noO).set j noO).set k1 noO).set j (stO b c { S with ats:=updN S.ats i (absM (m,q)) } (onF (offF H i) i))).set k2 noO) w:=by
 obtain ⟨⟨Fs,hs⟩,hjl⟩:=bzl hm hj
 obtain ⟨hA,l0,l1,l2⟩:=atw_of hm h0 h1 h2 e01 e02 e12 hok hg
 rw [hσ] at hA
 have hnot : ∀ x,((fp k0 x∨fp k1 x)∨fp k2 x)→¬ fp j x:=by
  rintro x ((h|h)|h) hj'
  ·exact hm.disj j k0 hjl l0 e0 x hj' h
  ·exact hm.disj j k1 hjl l1 e1 x hj' h
  ·exact hm.disj j k2 hjl l2 e2 x hj' h
 have hst:=hs.put (w':=w) (i:=i) (p:=p) (a:=absM (m,q)) (c':=c) (S':={ S with ats:=updN S.ats i (absM (m,q)) }) (H':=onF (offF H i) i) hi (by simp [offF]) (fun x _ _=>rfl) hnot hA hs.box hp (fun k hk=>rfl) rfl rfl (by simp [updN]) (fun k hk=>by simp [updN,hk]) (fun k hk=>by simp [onF,hk])
 exact hm.merge4 (w':=w) hjl l0 l1 l2 e0 e1 e2 e01 e02 e12 _ (cxj (by
  have he : (fun i=>((fp j i∨fp k0 i)∨fp k1 i)∨fp k2 i)=fun x=>fp j x∨(fp k0 x∨fp k1 x)∨fp k2 x:=by
   funext x
   simp only [or_assoc]
  rw [he]
  exact hst)) rfl rfl rfl rfl (fun _ _ _=>rfl) rfl
def closeK (j n b : Nat) (c : CoT) (S : SnT) (H : Nat → Bool) (i : Nat) (k : SV → List OB → Prop) (x : SV) (ob : List OB) : Prop :=
 ∃ (b1 b2 : Nat) (m : List (Int × SlT)) (q : List (Int × PlT)),nth ob j=some (stO b c S (offF H i))∧nth ob n=some (atB b1 b2)∧nth ob (n + 1)=some (scO b1 m)∧nth ob (n + 2)=some (plO b2 q)∧okS m∧ajj (absM (m,q)) ∧
  aqb (setN (setN (setN (setN (setN (setN ob j noO) n noO) j noO) (n + 1) noO) j (stO b c { S with ats:=updN S.ats i (absM (m,q)) } H)) (n + 2) noO) fun ob=>k x ob
theorem ajl {f : FuncId} {args : List SV} (args' : List SV) (j i n : Nat) (hen : Entr C.P f) {k : SV → List OB → Prop} (hj : nth ob j = some (stO b c S H)) (hn : ob.length = n) (hi : i < 8) (hH : H i = true) (hw : SV.wfs ob.length args) (hargs : ∀ σ : Nat → Nat, c.pt i = some (σ n) → SV.vals σ args = SV.vals σ args')
 (h : ∀ b1 b2 m q,okS m→absM (m,q)=S.ats i→ajj (S.ats i)→aqb (setN ob j (stO b c S (offF H i)) ++ [atB b1 b2] ++ [scO b1 m] ++ [plO b2 q]) fun ob=>aqy C f args' ob (closeK j n b c S H i k)) : aqy C f args ob k:=by
 subst hn
 have key : ∀ σ fp w,Mem C σ fp ob w→Calls C.P f (SV.vals σ args).toArray w fun e w'=>∃ v,e = .returned v∧Goes C ob.length σ fp w k v w':=by
  intro σ fp w hm
  obtain ⟨p,b1,b2,m,q,σ',fp',hp,hok,hab,hg,hσp,hσ',hfp',hm'⟩:=hm.openSt hj hi hH
  have h3:=h b1 b2 m q hok hab hg
  rw [azu,aqm] at h3
  unfold aqy at h3
  have h4:=h3.2 σ' fp' w hm'
  rw [← hargs σ' (by rw [hσp];exact hp),SV.vals_ext hσ' args hw] at h4
  refine h4.mono ?_
  rintro e w' ⟨v,rfl,x,ob2,σ2,fp2,⟨b1',b2',m',q',g1,g2,g3,g4,g5,g6,g7⟩,t1,t2,t3,t4,t5,t6⟩
  have hlen : (ob.set j (stO b c S (offF H i)) ++ [atB b1 b2] ++ [scO b1 m] ++ [plO b2 q]).length=ob.length + 3:=by simp
  rw [hlen] at t1 t2 t6
  have hjl : j < ob.length:=(bzl hm hj).2
  obtain ⟨fp3,hf3,hm3⟩:=t5.closeSt g1 g2 g3 g4 (p:=p) (by omega) (by omega) (by omega) (by omega) (by omega) (by omega) hi hp (by rw [t1 _ (by omega)];exact hσp) g5 g6
  rw [azu] at g7
  simp only [aqm] at g7
  rw [on_off H i hH] at hm3
  refine ⟨v,rfl,x,_,σ2,fp3,g7,fun k hk=>(t1 k (by omega)).trans (hσ' k hk),by simp;omega,t3,by simpa using t4,hm3,⟨fun y hy hlt hno=>t6.old y hy hlt fun k hk hk2=>?_,fun k hk y hy hl hlt=>?_,t6.size⟩⟩
  ·obtain ⟨k',h1,h2⟩:=hfp' k y hk hk2
   exact hno k' h1 h2
  ·simp at hk
   obtain ⟨k',h1,h2⟩:=hf3 k y hk hy
   obtain ⟨k'',h3,h4⟩:=t6.new k' h1 y h2 hl hlt
   exact hfp' k'' y h3 h4
 unfold aqy
 exact ⟨hen,key⟩
end
def subP (j b : Nat) : SV → SV
 | .p k off=>match Nat.beq k j with
   | true=>.v (.pointer (some ⟨b,off,none⟩))
   | false=>.p k off
 | x=>x
def subT (j b : Nat) : List (Nat × SV) → List (Nat × SV)
 | []=>[]
 | (i,x) :: r=>(i,subP j b x) :: subT j b r
theorem cvw (j b t : Nat) : ∀ tm : List (Nat × SV), look (subT j b tm) t = (look tm t).map (subP j b)
 | []=>rfl
 | (i,x) :: r=>by
   unfold subT look
   cases Nat.beq i t with
   | true=>rfl
   | false=>exact cvw j b t r
theorem subP_val (j : Nat) (σ : Nat → Nat) (n : Nat) (x : SV) (hw : x.wf n) : (subP j (σ j) x).val σ = x.val σ ∧ (subP j (σ j) x).wf n := by
 unfold subP
 split
 ·rename_i k off
  split
  ·rename_i h
   rw [Nat.eq_of_beq_eq_true h]
   exact ⟨rfl,trivial⟩
  ·exact ⟨rfl,hw⟩
 ·exact ⟨rfl,hw⟩
section
variable {C : Ctx} {ob : List OB}
theorem bvh {cd : Code} {tm : List (Nat × SV)} {K : Exit → List (Nat × SV) → List OB → Prop} (j : Nat) (o : OB) (o' : Nat → OB) (hj : nth ob j = some o) (ho : ∀ σ fp w, Mem C σ fp ob w → (o' (σ j)).at σ ob.length w (σ j) (fp j))
 (h : ∀ b,aqb (subT j b tm) fun tm=>aqb (setN ob j (o' b)) fun ob=>awm C cd tm ob K) : awm C cd tm ob K:=by
 unfold awm
 intro σ fp a w hr
 have hm:=hr.mem
 rw [aq4] at hj
 have hjl:=(List.getElem?_eq_some_iff.1 hj).1
 have h1:=h (σ j)
 rw [azu,azu,aqm] at h1
 unfold awm at h1
 have hM:=hm.change (w':=w) hjl (o' (σ j)) (fp j) (ho σ fp w hm) (fun x hx=>.inl hx) (fun x hx=>hm.hi j hjl x hx) rfl rfl rfl (Nat.le_refl _) (fun _ _ _=>rfl) (fun _=>Nat.le_refl _)
 have hfp : (fun k=>if k=j then fp j else fp k)=fp:=by
  funext k
  by_cases e : k=j
  ·rw [if_pos e,e]
  ·rw [if_neg e]
 rw [hfp] at hM
 refine h1 σ fp a w ⟨⟨hr.tm.size,hr.tm.defers,fun t x hx=>?_⟩,hM⟩
 rw [cvw] at hx
 cases hl : look tm t with
 | none=>rw [hl] at hx;cases hx
 | some y =>
   rw [hl] at hx
   obtain rfl:=Option.some.inj hx
   obtain ⟨v1,v2⟩:=hr.tm.val t y hl
   obtain ⟨s1,s2⟩:=subP_val j σ ob.length y v2
   exact ⟨v1.trans s1.symm,by simpa using s2⟩
end
def sn0 (me : Int) : SnT := ⟨me, fun _ _ => none, fun _ => at0⟩
def co0 : CoT := ⟨fun _ => none, fun _ _ => 0⟩
def noneT : Nat → Bool := fun i => decide (i < 0)
theorem st_new {C : Ctx} {ob : List OB} {σ : Nat → Nat} {fp : Nat → Nat → Prop} {w : World} (hm : Mem C σ fp ob w) {j : Nat} {me : Int} {cells : List SV} (hj : nth ob j = some (.box 99 cells)) (hc : cells = I me :: List.replicate 72 (.v (.pointer none))) : (stO (σ j) co0 (sn0 me) noneT).at σ ob.length w (σ j) (fp j) := by
 rw [aq4] at hj
 obtain ⟨h1,h2,h3⟩:=hm.at_ j _ hj
 refine cxj (Fs:=fun i x=>i=8∧x=σ j) ⟨⟨SV.vals σ cells,h1,?_,fun k hk=>?_⟩,⟨rfl,rfl⟩,fun x y f _ _ hf=>(by cases hf),fun i hi hH=>(by simp [noneT] at hH),?_,?_⟩
 ·rw [aqz,hc]
  rfl
 ·rw [ak1,hc]
  unfold stC
  cases k with
  | zero=>rfl
  | succ k =>
    rw [List.getElem?_cons_succ,List.getElem?_replicate,if_pos (by omega),if_neg (by omega)]
    split<;>rfl
 ·rintro i k hi hk hne x ⟨rfl,_⟩ ⟨rfl,_⟩
  exact hne rfl
 ·rintro i hi x ⟨_,rfl⟩
  exact (h2 _).2 rfl
theorem cvx {w : World} {F : Nat → Prop} {b : Nat} {c : CoT} {S S' : SnT} {H H' : Nat → Bool} (hS : S = S') (hH : H = H') (h : ∃ Fs, StW w F b c S H Fs) : ∃ Fs, StW w F b c S' H' Fs := by
 subst hS hH
 exact h
theorem akf (n : Int) : PureX Tryz.prog 51 [I n] (B (rbB n)) := by
 refine PureX.of Tryz.func51 rfl aza rfl rfl rfl (by simp [SV.wfs,SV.wf]) (by simp [SV.wfs,SV.wf]) fun w=>?_
 (conv=>whnf);repeat' (first|with_reducible exact rfl|((with_reducible refine aze (by assumption) ?_);conv=>whnf)|((with_reducible refine azd ?_ ?_)<;>(intro hb;(try simp (disch:=omega) only [hbS] at hb)<;>conv=>whnf)))
 all_goals refine azk rfl (B_eq ?_) trivial
 all_goals simp [rbB]
 all_goals omega
theorem cvy (n : Int) : PureX Tryz.prog 83 [I n] (B (szB n 1024)) := by
 refine PureX.of Tryz.func83 rfl aza rfl rfl rfl (by simp [SV.wfs,SV.wf]) (by simp [SV.wfs,SV.wf]) fun w=>?_
 (conv=>whnf);repeat' (first|with_reducible exact rfl|((with_reducible refine aze (by assumption) ?_);conv=>whnf)|((with_reducible refine azd ?_ ?_)<;>(intro hb;(try simp (disch:=omega) only [hbS] at hb)<;>conv=>whnf)))
 all_goals refine azk rfl (B_eq ?_) trivial
 all_goals simp [szB]
 all_goals omega
def keyF (f : Fr) : List Int := [f.1, f.2.1, f.2.2]
theorem bjr (f g : Fr) : PureD Tryz.prog 112 [.a [I f.1, I f.2.1, I f.2.2], .a [I g.1, I g.2.1, I g.2.2]] (B (decide (0 < lexC (keyF f) (keyF g)))) := by
 have e : lexC (keyF f) (keyF g)=orI [cmpI f.1 g.1,cmpI f.2.1 g.2.1,cmpI f.2.2 g.2.2]:=rfl
 rw [e]
 refine PureD.of Tryz.func112 rfl aza rfl rfl rfl (by simp [SV.wfs,SV.wf]) (by simp [SV.wfs,SV.wf]) fun w=>?_
 (conv=>whnf);repeat' (first|((with_reducible refine isC ?_);first|((with_reducible refine aq3 (akv _ _) ?_)<;>first|omega|with_reducible refine isP ?_|conv=>whnf)|(refine aje (Or_v _ _ [cmpI f.1 g.1,cmpI f.2.1 g.2.1,cmpI f.2.2 g.2.2] rfl (by decide)) (ArgSl.row 2 rfl) ?_;conv=>whnf))|((with_reducible refine isO ?_);first|((first|(refine azh aza rfl rfl rfl ?_);intro bN|(refine azm aza rfl rfl rfl rfl rfl ?_);intro bN);conv=>whnf))|((first|refine azj aza azt ?_|refine azi (by kernel_rfl) ?_|with_reducible refine azo ?_ ?_)<;>conv=>whnf)|with_reducible exact rfl|((with_reducible refine aze (by assumption) ?_);conv=>whnf)|((with_reducible refine azd ?_ ?_)<;>(intro hb;(try simp (disch:=omega) only [hbS] at hb)<;>conv=>whnf)))
 exact ajx rfl rfl (B_eq rfl) trivial
set_option maxHeartbeats 2000000 in
theorem cvz (me : Nat) (hme : me < 8) : CallM Tryz.prog 40 [I me] (fun _ _ => True) [] (fun q : Nat × CoT => .t [pR q.1, I 0]) (fun q => [stO q.1 q.2 (sn0 me) allT]) := by
 have kr:=akf me
 rw [show rbB (me : Int)=true by unfold rbB;exact decide_eq_true (by omega)] at kr
 have hok0 : okS []:=by intro e he;cases he
 have hg0 : ajj (absM ([],[])):=by
  intro k
  exact ⟨fun s hs=>(by cases hs),fun p hp=>(by cases hp)⟩
 refine CallM.of (m:=0) Tryz.func40 rfl aza rfl rfl rfl rfl (by simp [SV.wfs,SV.wf]) fun w M π _=>?_
 (conv=>whnf);repeat' (first|((with_reducible refine isC ?_);first|((with_reducible refine azb (kr) ?_)<;>first|omega|with_reducible refine isP ?_|conv=>whnf))|((with_reducible refine isW ?_;first|refine azg (by omega) (by omega) ?_|refine azc ?_);conv=>whnf)|((first|refine azj aza azt ?_|refine azi (by kernel_rfl) ?_|with_reducible refine azo ?_ ?_)<;>conv=>whnf)|with_reducible exact rfl|((with_reducible refine aze (by assumption) ?_);conv=>whnf)|((with_reducible refine azd ?_ ?_)<;>(intro hb;(try simp (disch:=omega) only [hbS] at hb)<;>conv=>whnf)))
 refine bvh 0 _ (fun b=>stO b co0 (sn0 me) noneT) rfl (fun σ fp w hm=>st_new hm rfl rfl) ?_
 intro b
 conv=>whnf
 refine azr aza (α:=(k : Nat) × CoT × {q : SnT × (Nat→Bool) // q.1=sn0 me∧q.2=fun i=>decide (i < k)}) (fun s=>s.1≤8) (fun s=>[(4,pR b),(12,I s.1)]) (fun s=>[stO b s.2.1 s.2.2.1.1 s.2.2.1.2]) (fun s=>8 - s.1) ⟨0,co0,⟨(sn0 me,noneT),rfl,rfl⟩⟩ [0] (Nat.zero_le _) ?_ ?_
 ·(refine ⟨?_,?_,?_,?_⟩<;>(repeat' ((conv=>whnf);apply And.intro))<;>try (first|exact trivial|decide))
  all_goals first|rfl|exact fun _ _ h=>h|(simp [SV.wf,SV.wfs];done)|trace_state
 ·rintro ⟨k,c,⟨⟨S,H⟩,hS,hH⟩⟩ hk
  dsimp only at hk hS hH ⊢
  by_cases hlt : k < 8
  ·(conv=>whnf);repeat' (first|((with_reducible refine isC ?_);first|(((with_reducible refine isF 82 ?_);(refine azl New_m [] rfl trivial (by decide) (fun _ _ _ _=>trivial) ?_;intro q;obtain ⟨b1,b2⟩:=q));conv=>whnf))|((with_reducible refine isV ?_);first|((refine azs (n:=8) (sz:=1) aza rfl Tryz.underlying94 rfl rfl ?_ ?_ ?_)<;>first|omega|conv=>whnf)|((refine azs (n:=8) (sz:=8) aza rfl Tryz.underlying97 rfl rfl ?_ ?_ ?_)<;>first|omega|conv=>whnf)|((refine azs (n:=8) (sz:=1) aza rfl Tryz.underlying96 rfl rfl ?_ ?_ ?_)<;>first|omega|conv=>whnf))|((with_reducible refine isO ?_);first|(refine OpX_stPt 0 1 2 3 k (by decide) (by decide) (by decide) (by decide) (by decide) (by decide) aza rfl rfl rfl rfl rfl rfl rfl hok0 hg0 hlt (by rw [hH];exact decide_eq_false (by omega)) ?_;intro p;conv=>whnf))|((with_reducible refine isW ?_;first|refine azg (by omega) (by omega) ?_|refine azc ?_);conv=>whnf)|((first|refine azj aza azt ?_|refine azi (by kernel_rfl) ?_|with_reducible refine azo ?_ ?_)<;>conv=>whnf)|with_reducible exact rfl|((with_reducible refine aze (by assumption) ?_);conv=>whnf)|((with_reducible refine azd ?_ ?_)<;>(intro hb;(try simp (disch:=omega) only [hbS] at hb)<;>conv=>whnf)))
   all_goals try (exfalso;omega)
   refine ⟨⟨k + 1,{ c with pt:=updN c.pt k (some p) },⟨({ S with ats:=updN S.ats k (absM ([],[])) },onF H k),?_,?_⟩⟩,[0],by (try dsimp only);omega,?_,by (try dsimp only);omega⟩
   ·rw [hS]
    unfold sn0
    dsimp only
    congr 1
    funext i
    unfold updN
    split<;>rfl
   ·rw [hH]
    funext i
    show (if i=k then true else decide (i < k))=decide (i < k + 1)
    by_cases e : i=k
    ·rw [if_pos e,e]
     exact (decide_eq_true (by omega)).symm
    ·rw [if_neg e]
     exact decide_eq_decide.2 (by omega)
   ·(refine ⟨?_,?_,?_,?_⟩<;>(repeat' ((conv=>whnf);apply And.intro))<;>try (first|exact trivial|decide))
    all_goals first|rfl|exact fun _ _ h=>h|(simp [SV.wf,SV.wfs];done)|trace_state
  ·obtain rfl : k=8:=by omega
   (conv=>whnf);repeat' (first|((with_reducible refine isW ?_;first|refine azg (by omega) (by omega) ?_|refine azc ?_);conv=>whnf)|((first|refine azj aza azt ?_|refine azi (by kernel_rfl) ?_|with_reducible refine azo ?_ ?_)<;>conv=>whnf)|with_reducible exact rfl|((with_reducible refine aze (by assumption) ?_);conv=>whnf)|((with_reducible refine azd ?_ ?_)<;>(intro hb;(try simp (disch:=omega) only [hbS] at hb)<;>conv=>whnf)))
   all_goals try (exfalso;omega)
   exact azv (b,c) [0] ⟨rfl,by simp [SV.wf,SV.wfs]⟩ ⟨fun _ _ h=>cvx hS hH h,trivial⟩ (by decide) rfl
end Go.Proofs.YtlnplelandimeaaGreat.En
end
