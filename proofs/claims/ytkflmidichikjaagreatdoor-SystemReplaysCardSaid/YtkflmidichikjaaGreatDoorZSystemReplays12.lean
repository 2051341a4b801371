import Derived.Test.YtkflmidichikjaaGreatDoorZSystemReplays11
import Derived.LoopN
set_option linter.all false
section
namespace Go.Proofs.YtkflmidichikjaaGreatDoor.V
open Go.RowKit
theorem fl_nil {α : Type} (enc : α → List Value) : fl enc [] = [] := rfl
def roundsX (C : Ctx) (c : Code) (K : Kx) : Nat → List (Nat × SV) → List OB → Prop
 | 0,_,_=>False
 | n + 1,tm,ob=>xcode C c tm ob fun e tm ob=>match e with
   | .normal=>roundsX C c K n tm ob
   | .exit i=>K (.exit i) tm ob
   | .ret=>K .ret tm ob
   | _=>False
theorem roundsX_spec {C : Ctx} (hT : TabOk C.P C.T) {c : Code} {K : Kx} : ∀ {n : Nat} {tm : List (Nat × SV)} {ob : List OB} {σ : Nat → Nat} {G : Fz} {fp : Nat → Nat → Prop} {a : Act} {w : World}, roundsX C c K n tm ob → Rel C tm ob σ G fp a w → Code.rounds C.P c (post C K) n a w
 | 0,_,_,_,_,_,_,_,h,_=>h.elim
 | n + 1,tm,ob,σ,G,fp,a,w,h,hr=>by
   rw [rounds_succ]
   refine wp_mono (xcode_sound hT c h hr) ?_
   rintro e a' w' ⟨tm',ob',σ',G',fp',hk,hr'⟩
   cases e with
   | normal=>exact roundsX_spec hT hk hr'
   | exit i=>exact ⟨tm',ob',σ',G',fp',hk,hr'⟩
   | ret=>exact ⟨tm',ob',σ',G',fp',hk,hr'⟩
   | goto l=>exact hk.elim
   | panic l=>exact hk.elim
   | outgrown=>exact hk.elim
theorem LoopX_r {C : Ctx} (hT : TabOk C.P C.T) {c : Code} {tm : List (Nat × SV)} {ob : List OB} {K : Kx} (n : Nat) (h : roundsX C c K n tm ob) : LoopX C c tm ob K := by
 unfold LoopX
 intro σ G fp a w hr
 exact wp_loop_rounds n (roundsX_spec hT h hr)
theorem RowAt.sub {G : Fz} {w : World} {e sz : Nat} {b : Nat} {els : List (List DV)} {F : Nat → Prop} {p i n : Nat} (h : RowAt G w e sz (dA b) (dC b) els F) (hi : i + n ≤ els.length) (hp : p ≤ i) : RowAt G w e sz (cutP (dA b) (dC b) p i sz) (dC b - i) ((els.drop i).take n) F := by
 have hc:=h.cap
 have hlen : ((els.drop i).take n).length=n:=by simp;omega
 refine ⟨by rw [hlen];omega,fun x hx=>h.size x (List.mem_of_mem_drop (List.mem_of_mem_take hx)),fun a ha=>?_,?_⟩
 ·unfold cutP at ha
  cases hA : dA b with
  | none=>simp [hA] at ha
  | some a'=>simp [hA] at ha;subst ha;rfl
 ·rcases h.at_ with ⟨h1,h2⟩|⟨g,o,cs,xs,h1,h2,h3,h4,h5,h6⟩
  ·exact .inl ⟨by omega,h2⟩
  ·refine .inr ⟨g,o + (bif Nat.beq (dC b) i then p else i) * sz,cs,(xs.drop i).take n,by simp only [cutP,h1,Option.map_some],h2,?_,rdLL_cut i n h4,?_,h6⟩
   ·cases hb : Nat.beq (dC b) i with
    | true =>
      have:=Nat.eq_of_beq_eq_true hb
      simp only [cond_true]
      have h7 : p * sz≤dC b * sz:=Nat.mul_le_mul_right _ (by omega)
      rw [show dC b - i=0 by omega,Nat.zero_mul]
      omega
    | false =>
      simp only [cond_false]
      have : i * sz + (dC b - i) * sz=dC b * sz:=by rw [← Nat.add_mul];congr 1;omega
      omega
   ·rw [flat_cut i n (rdLL_size h4 h.size),← h5,hlen]
    cases hb : Nat.beq (dC b) i with
    | true =>
      have:=Nat.eq_of_beq_eq_true hb
      have hn : n=0:=by omega
      subst hn
      simp
    | false =>
      simp only [cond_false]
      rw [List.drop_take,List.drop_drop,List.take_take]
      congr 1
      have : n * sz≤els.length * sz - i * sz:=by rw [← Nat.sub_mul];exact Nat.mul_le_mul_right _ (by omega)
      omega
theorem OpX_appendP {C : Ctx} {ob : List OB} {e sz : Nat} {els : List (List DV)} {o : Oper} {t : TypeId} {x y : Operand} {j p i N m : Nat} {y' : SV} {X : List (List DV)} {k : SV → List OB → Prop} {te : TI} (hT : TabOk C.P C.T) (ho : o.op = .call ⟨.builtin .append, #[x, y], #[t, t]⟩) (hj : nth ob j = some (.row false e sz els))
 (hs : slInfo C t=some (e,sz)) (hte : lookT C.T e=some te) (hy : Sees ob sz y' m X) (hsz : Nat.ble 1 sz=true) (hi : i + N≤els.length) (hp : p≤i) (hn : (N + m) * te.byt≤140737488355328) (hn' : N + m≤1000000000000)
 (hk : force (setN ob j dead ++ [.row false e sz ((els.drop i).take N ++ X)]) fun ob'=>lenK lits ob (fun q=>k (.sl q 0 0 (N + m) sz) ob') False) (hd : C.d=false:=by rfl) : OpX C o [.sl j p i N sz,y'] ob k:=by
 rw [force_eq] at hk
 have hk:=lenK_spec hk
 unfold OpX
 intro σ G fp w ρ hm hw hx
 have hsz:=Nat.le_of_ble_eq_true hsz
 obtain ⟨hu,te',hl,hz,hti,hid⟩:=slInfo_spec hT hs
 rw [hte] at hl
 cases hl
 obtain ⟨A2,c2,hyv,hS⟩:=hy.rds hm hw.2.1
 have hj':=hj
 rw [nth_eq] at hj'
 have hat : RowAt G w e sz (dA (σ j)) (dC (σ j)) els (fp j):=hm.at_ j _ hj'
 have hjl:=(List.getElem?_eq_some_iff.1 hj').1
 have hat':=hat.sub (p:=p) hi hp
 have hlen : ((els.drop i).take N).length=N:=by simp;omega
 obtain ⟨A',c',F',w',hr,ho',hF,h1,h2,h3,h4,h5⟩:=append_run (ty:=o.type) hu hti hid hz hsz hat' (c2:=c2) hS (by rw [hlen];exact hn) (by rw [hlen];exact hn')
 rw [hlen] at hr
 rw [ho] at hx
 simp only [Op.operands,Call.operands,SV.vals,hyv,SV.val] at hx
 simp at hx
 obtain ⟨dst,op,ty,pos,after,guard⟩:=o
 simp only at ho hr
 subst ho
 have hexec : (execOp ρ ⟨dst,.call ⟨.builtin .append,#[x,y],#[t,t]⟩,ty,pos,after,guard⟩).run C.P w = .ok (.value (.slice A' (N + m) c')) w':=by
  simp [execOp,resolve,invoke,builtin,hx.1,hx.2,hr]
 rw [hexec]
 exact Goes.handN hm hjl ho' (by simp [hS.len,hlen]) hF h1 h2 h3 h4 h5 hk (fun h=>by rw [hd] at h;cases h)
theorem OpX_appP {C : Ctx} {ob : List OB} {e sz : Nat} {α : Type} {enc : α → List Value} {X Y : List α} {o : Oper} {t : TypeId} {x y : Operand} {j p i N m : Nat} {y' : SV} {k : SV → List OB → Prop} {te : TI} (hT : TabOk C.P C.T) (ho : o.op = .call ⟨.builtin .append, #[x, y], #[t, t]⟩) (hj : nth ob j = some (.row false e sz (fl enc X)))
 (hs : slInfo C t=some (e,sz)) (hte : lookT C.T e=some te) (hy : Sees ob sz y' m (fl enc Y)) (hsz : Nat.ble 1 sz=true) (hi : i + N≤X.length) (hp : p≤i) (hn : (N + m) * te.byt≤140737488355328) (hn' : N + m≤1000000000000)
 (hk : force (setN ob j dead ++ [.row false e sz (fl enc ((X.drop i).take N ++ Y))]) fun ob'=>lenK lits ob (fun q=>k (.sl q 0 0 (N + m) sz) ob') False) (hd : C.d=false:=by rfl) : OpX C o [.sl j p i N sz,y'] ob k :=
 OpX_appendP hT ho hj hs hte hy hsz (by rw [fl_len];exact hi) hp hn hn' (by
  have : (((fl enc X).drop i).take N ++ fl enc Y)=fl enc ((X.drop i).take N ++ Y):=by simp [fl,List.map_drop,List.map_take]
  rw [this];exact hk) hd
section
variable {C : Ctx} {ob : List OB} {e sz n : Nat} {els : List (List DV)} {k : SV → Prop}
theorem ValX_slLo {o : Oper} {t : TypeId} {x la : Operand} {j b i N : Nat} {m : Int} {ro : Bool} (hT : TabOk C.P C.T) (ho : o.op = .slice t x (some la) none none) (hs : slInfo C t = some (e, sz)) (hj : nth ob j = some (.row ro e sz els)) (hN : els.length = N) (g0 : 0 ≤ m) (g1 : m ≤ n) (g3 : i + n ≤ N)
 (hk : k (.sl j (bif Nat.beq m.toNat 0 then b else i) (i + m.toNat) (n - m.toNat) sz)) : ValX C o [.sl j b i n sz,.v (.int .i64 m)] ob k :=
 ValX_slS (lo:=some m) (hi:=none) hT ho rfl rfl hs hj hN (fun q hq=>by simp at hq;omega) (by simp;omega) (by simp) g3 hk
theorem ValX_sl1 {o : Oper} {t : TypeId} {x la : Operand} {j b i N : Nat} {ro : Bool} (hT : TabOk C.P C.T) (ho : o.op = .slice t x (some la) none none) (hs : slInfo C t = some (e, sz)) (hj : nth ob j = some (.row ro e sz els)) (hN : els.length = N) (g1 : 1 ≤ n) (g3 : i + n ≤ N)
 (hk : k (.sl j i (i + 1) (n - 1) sz)) : ValX C o [.sl j b i n sz,.v (.int .i64 1)] ob k :=
 ValX_slLo hT ho hs hj hN (by omega) (by omega) g3 hk
theorem ValX_slHi {o : Oper} {t : TypeId} {x la : Operand} {j b i N : Nat} {m : Int} {ro : Bool} (hT : TabOk C.P C.T) (ho : o.op = .slice t x none (some la) none) (hs : slInfo C t = some (e, sz)) (hj : nth ob j = some (.row ro e sz els)) (hN : els.length = N) (g0 : 0 ≤ m) (g1 : m ≤ n) (g3 : i + n ≤ N)
 (hk : k (.sl j b i m.toNat sz)) : ValX C o [.sl j b i n sz,.v (.int .i64 m)] ob k :=
 ValX_slS (lo:=none) (hi:=some m) hT ho rfl rfl hs hj hN (fun q hq=>by simp at hq;omega) (by simp) (by simp;omega) g3 hk
end
def keepL (tm : List (Nat × SV)) : List Nat → List (Nat × SV)
 | []=>[]
 | k :: r=>match look tm k with
   | some x=>(k,x) :: keepL tm r
   | none=>keepL tm r
theorem keepL_spec {tm : List (Nat × SV)} : ∀ {ks : List Nat} {t : Nat} {x : SV}, look (keepL tm ks) t = some x → look tm t = some x
 | [],t,x,h=>by simp [keepL,look] at h
 | k :: r,t,x,h=>by
   unfold keepL at h
   split at h
   ·rename_i y hy
    unfold look at h
    split at h
    ·rename_i hb
     have hb:=Nat.eq_of_beq_eq_true hb
     subst hb
     simp at h
     subst h
     exact hy
    ·exact keepL_spec h
   ·exact keepL_spec h
theorem LoopX_keep {C : Ctx} {c : Code} {tm : List (Nat × SV)} {ob : List OB} {K : Kx} (ks : List Nat) (h : force (keepL tm ks) fun tm => LoopX C c tm ob K) : LoopX C c tm ob K := by
 rw [force_eq] at h
 unfold LoopX at *
 intro σ G fp a w hr
 exact h σ G fp a w ⟨⟨hr.tm.size,hr.tm.defers,fun t x hx=>hr.tm.val t x (keepL_spec hx)⟩,hr.mem⟩
def aggT (T : List TI) (t : Nat) : Bool := match lookT T t with
 | some ti=>ti.agg
 | none=>false
def lenT (T : List TI) (t : Nat) : Nat := match lookT T t with
 | some ti=>ti.zero.length
 | none=>0
def outV : List SV → Option (List Value)
 | []=>some []
 | .v x :: r=>match outV r with
   | some l=>some (x :: l)
   | none=>none
 | _=>none
theorem outV_spec : ∀ {l : List SV} {xs : List Value}, outV l = some xs → l = xs.map .v
 | [],xs,h=>by cases h;rfl
 | .v x :: r,xs,h=>by
   unfold outV at h
   cases hr : outV r with
   | none=>rw [hr] at h;cases h
   | some l=>rw [hr] at h;cases h;rw [outV_spec hr];rfl
section
variable {C : Ctx} {ob : List OB} {k : SV → Prop}
theorem ValX_bldA {o : Oper} {t : TypeId} {parts : Array (Nat × Operand)} {l : List SV} {xs : List Value} (ho : o.op = .build t parts) (hv : outV l = some xs) (hk : k (.a l))
 (hr : ∀ w,(Instr.build t (((parts.toList.map (·.1)).zip xs).toArray)).run C.P w = .ok (.agg xs.toArray) w) : ValX C o l ob k:=by
 have hl:=outV_spec hv
 subst hl
 unfold ValX
 intro σ G fp w ρ hm hw hx
 obtain ⟨dst,op,ty,pos,after,guard⟩:=o
 simp only at ho
 subst ho
 have hx' : parts.toList.map (fun p=>ρ p.2)=xs:=by simpa [Op.operands,Function.comp_def,vals_v] using hx
 refine ⟨_,hk,?_,by simpa [SV.wf] using hw⟩
 have : (parts.map fun (i,x)=>(i,ρ x))=((parts.toList.map (·.1)).zip xs).toArray:=by
  apply Array.toList_inj.1
  rw [← hx']
  simp [List.zip_map']
 simp only [execOp,Sem.run_bind,this,hr,Result.andThen_ok,Sem.run_pure,SV.val,vals_v]
theorem ValX_fzNil (hT : TabOk C.P C.T) {α : Type} {enc : α → List Value} {X : List α} {o : Oper} {t : TypeId} {x y : Operand} {q : TypeId} {A : Option Addr} {c sz n' c' e : Nat} {ti : TI} (ho : o.op = .binOp .eql t x y q) (ht : lookT C.T t = some ti) (hel : ti.el = e + 1)
 (h1 : X.length=0→k (.v (.bool true))) (h2 : k (.v (.bool false))) : ValX C o [.fz A c sz (fl enc X),.v (.slice none n' c')] ob k:=by
 unfold ValX
 intro σ G fp w ρ hm hw hx
 obtain ⟨dst,op,ty,pos,after,guard⟩:=o
 simp only at ho
 subst ho
 simp [Op.operands,SV.vals,SV.val] at hx
 obtain ⟨hid,hti⟩:=hT t ti ht
 have hq : ∀ w,(Op.equal t (.slice A (fl enc X).length c) (.slice none n' c')).run C.P w = .ok A.isNone w:=by
  intro w
  have hu:=hti.sl e hel
  rw [hid] at hu
  unfold Op.equal Op.maxDepth Op.equalIn
  cases A<;>simp [run_underlying hu]
 cases A with
 | none =>
   obtain ⟨A',c0,e1,e2,e4⟩:=hw.1
   cases e1
   have hX : X.length=0:=by
    by_cases hne : fl enc X=[]
    ·have:=congrArg List.length hne
     simpa [fl_len] using this
    ·obtain ⟨b,o,cs,ty,fz,h5,_⟩:=e4 hne
     cases h5
   exact ⟨_,h1 hX,by simp [execOp,hx.1,hx.2,binOp,eqGuard,hq,SV.val],trivial⟩
 | some a=>exact ⟨_,h2,by simp [execOp,hx.1,hx.2,binOp,eqGuard,hq,SV.val],trivial⟩
def outA : List SV → Option (List Value × List Value)
 | []=>some ([],[])
 | .a m :: r=>match outV m,outA r with
   | some xs,some (vs,fl)=>some (.agg xs.toArray :: vs,xs ++ fl)
   | _,_=>none
 | _=>none
theorem outA_spec {σ : Nat → Nat} : ∀ {l : List SV} {vs fl : List Value}, outA l = some (vs, fl) → SV.vals σ l = vs
 | [],vs,fl,h=>by cases h;rfl
 | .a m :: r,vs,fl,h=>by
   unfold outA at h
   cases hm : outV m with
   | none=>rw [hm] at h;cases h
   | some xs =>
     cases hr : outA r with
     | none=>rw [hm,hr] at h;cases h
     | some q =>
       obtain ⟨vs',fl'⟩:=q
       rw [hm,hr] at h
       cases h
       rw [outV_spec hm]
       simp only [SV.vals,SV.val,vals_v,outA_spec hr]
theorem ValX_bldB {o : Oper} {t : TypeId} {parts : Array (Nat × Operand)} {l : List SV} {vs fl : List Value} (ho : o.op = .build t parts) (hv : outA l = some (vs, fl)) (hk : force (fl.map SV.v) fun q => k (.a q))
 (hr : ∀ w,(Instr.build t (((parts.toList.map (·.1)).zip vs).toArray)).run C.P w = .ok (.agg fl.toArray) w) : ValX C o l ob k:=by
 rw [force_eq] at hk
 unfold ValX
 intro σ G fp w ρ hm hw hx
 obtain ⟨dst,op,ty,pos,after,guard⟩:=o
 simp only at ho
 subst ho
 rw [outA_spec hv] at hx
 have hx' : parts.toList.map (fun p=>ρ p.2)=vs:=by simpa [Op.operands,Function.comp_def] using hx
 refine ⟨_,hk,?_,by simp only [SV.wf];exact wfs_v _ _⟩
 have : (parts.map fun (i,x)=>(i,ρ x))=((parts.toList.map (·.1)).zip vs).toArray:=by
  apply Array.toList_inj.1
  rw [← hx']
  simp [List.zip_map']
 simp only [execOp,Sem.run_bind,this,hr,Result.andThen_ok,Sem.run_pure,SV.val,vals_v]
theorem ValX_max3 {o : Oper} {args : Array Operand} {ats : Array TypeId} {a b c : Int} (ho : o.op = .call ⟨.builtin .max, args, ats⟩) (hk : k (.v (.int .i64 (max (max a b) c)))) : ValX C o [.v (.int .i64 a), .v (.int .i64 b), .v (.int .i64 c)] ob k := by
 unfold ValX
 intro σ G fp w ρ hm hw hx
 refine ⟨_,hk,?_,trivial⟩
 obtain ⟨dst,op,ty,pos,after,guard⟩:=o
 simp only at ho
 subst ho
 have hargs : args.map ρ = #[.int .i64 a,.int .i64 b,.int .i64 c]:=by
  apply Array.toList_inj.1
  simpa [Op.operands,Call.operands,SV.vals,SV.val] using hx
 simp [execOp,resolve,invoke,builtin,hargs,Builtin.max_,Builtin.max2,SV.val]
 (repeat' split)<;>omega
theorem ValX_ixA1 {o : Oper} {t : TypeId} {x ix : Operand} {l : List SV} {xs : List Value} {i : Int} {v : Value} (ho : o.op = .index t x ix) (_ : aggT C.T o.type = false) (hv : outV l = some xs) (hn : nth xs i.toNat = some v) (hk : k (.v v))
 (hr : ∀ w,(Instr.index t (.agg xs.toArray) (.int .i64 i)).run C.P w = .ok v w) : ValX C o [.a l,I i] ob k:=by
 have hl:=outV_spec hv
 subst hl
 unfold ValX
 intro σ G fp w ρ hm hw hx
 obtain ⟨dst,op,ty,pos,after,guard⟩:=o
 simp only at ho
 subst ho
 simp [Op.operands,SV.vals,SV.val,vals_v] at hx
 refine ⟨_,hk,?_,trivial⟩
 simp only [execOp,hx,Sem.run_bind,hr,Result.andThen_ok,Sem.run_pure,SV.val]
theorem ValX_ixA2 {m : Nat} {o : Oper} {t : TypeId} {x ix : Operand} {l : List SV} {xs : List Value} {i : Int} (ho : o.op = .index t x ix) (_ : aggT C.T o.type = true) (_ : lenT C.T o.type = m) (hv : outV l = some xs) (hk : force ((cut xs (i.toNat * m) m).map SV.v) fun q => k (.a q))
 (hr : ∀ w,(Instr.index t (.agg xs.toArray) (.int .i64 i)).run C.P w = .ok (.agg (cut xs (i.toNat * m) m).toArray) w) : ValX C o [.a l,I i] ob k:=by
 have hl:=outV_spec hv
 subst hl
 rw [force_eq] at hk
 unfold ValX
 intro σ G fp w ρ hm hw hx
 obtain ⟨dst,op,ty,pos,after,guard⟩:=o
 simp only at ho
 subst ho
 simp [Op.operands,SV.vals,SV.val,vals_v] at hx
 refine ⟨_,hk,?_,wfs_v _ _⟩
 simp only [execOp,hx,Sem.run_bind,hr,Result.andThen_ok,Sem.run_pure,SV.val,vals_v]
end
theorem lenK_mono {α : Type} {k k' : Nat → Prop} : ∀ {m : List Nat} {l : List α}, lenK m l k False → (∀ n, k n → k' n) → lenK m l k' False
 | [],_,h,_=>h.elim
 | _ :: _,[],h,hk=>hk _ h
 | a :: m,x :: l,h,hk=>lenK_mono (m:=m) (l:=l) h hk
mutual
theorem mendK_mono0 {os : List OB} {k k' : SV → List OB → Prop} : ∀ {x y : SV} {ob : List OB}, mendK0 os x y ob k → (∀ y ob, k y ob → k' y ob) → mendK0 os x y ob k'
 | x,y,ob,h,hk=>by
   unfold mendK0 at h ⊢
   split at h
   ·split at h
    ·exact lenK_mono h fun n h=>by rw [force_eq] at h ⊢;exact hk _ _ h
    ·exact hk _ _ h
   ·exact mendsK_mono0 h fun m ob h=>hk _ _ h
   ·exact mendsK_mono0 h fun m ob h=>hk _ _ h
   ·exact hk _ _ h
theorem mendsK_mono0 {os : List OB} {k k' : List SV → List OB → Prop} : ∀ {l m : List SV} {ob : List OB}, mendsK0 os l m ob k → (∀ m ob, k m ob → k' m ob) → mendsK0 os l m ob k'
 | x :: l,y :: m,ob,h,hk=>by
   unfold mendsK0 at h ⊢
   exact mendK_mono0 h fun y ob h=>mendsK_mono0 h fun m ob h=>hk _ _ h
 | [],m,ob,h,hk=>by unfold mendsK0 at h ⊢;exact hk _ _ h
 | _ :: _,[],ob,h,hk=>by unfold mendsK0 at h ⊢;exact hk _ _ h
end
theorem mendK_mono {os : List OB} {k k' : SV → List OB → Prop} : ∀ {x y : SV} {ob : List OB}, mendK os x y ob k → (∀ y ob, k y ob → k' y ob) → mendK os x y ob k' := by
 intro x y ob h hk
 rw [mendK_eq] at h ⊢
 exact mendK_mono0 h hk
mutual
def SV.nmB (n : Nat) : SV → Bool
 | .p k _=>Nat.blt k n
 | .a l=>SV.nmsB n l
 | .t l=>SV.nmsB n l
 | .fn _ l=>SV.nmsB n l
 | .sl k _ _ _ _=>Nat.blt k n
 | .sq k _ _ _=>Nat.blt k n
 | _=>true
def SV.nmsB (n : Nat) : List SV → Bool
 | []=>true
 | x :: r=>x.nmB n && SV.nmsB n r
end
mutual
theorem nmB_spec {n : Nat} : ∀ x : SV, x.nmB n = true → x.nm n
 | .v _,_=>trivial
 | .p k _,h=>Nat.le_of_ble_eq_true h
 | .a l,h=>nmsB_spec l h
 | .t l,h=>nmsB_spec l h
 | .fn _ l,h=>nmsB_spec l h
 | .sl k _ _ _ _,h=>Nat.le_of_ble_eq_true h
 | .sq k _ _ _,h=>Nat.le_of_ble_eq_true h
 | .fz _ _ _ _,_=>trivial
 | .fa _ _,_=>trivial
theorem nmsB_spec {n : Nat} : ∀ l : List SV, SV.nmsB n l = true → SV.nms n l
 | [],_=>trivial
 | x :: r,h=>by
   simp only [SV.nmsB,Bool.and_eq_true] at h
   exact ⟨nmB_spec x h.1,nmsB_spec r h.2⟩
end
mutual
def SV.ownB : SV → Bool
 | .a l=>SV.ownsB l
 | .t l=>SV.ownsB l
 | .fn _ l=>SV.ownsB l
 | .fz _ _ _ _=>false
 | .fa _ _=>false
 | _=>true
def SV.ownsB : List SV → Bool
 | []=>true
 | x :: r=>x.ownB && SV.ownsB r
end
mutual
theorem ownB_spec : ∀ x : SV, x.ownB = true → x.own
 | .v _,_=>trivial
 | .p _ _,_=>trivial
 | .a l,h=>ownsV_spec l h
 | .t l,h=>ownsV_spec l h
 | .fn _ l,h=>ownsV_spec l h
 | .sl _ _ _ _ _,_=>trivial
 | .sq _ _ _ _,_=>trivial
 | .fz _ _ _ _,h=>by cases h
 | .fa _ _,h=>by cases h
theorem ownsV_spec : ∀ l : List SV, SV.ownsB l = true → SV.owns l
 | [],_=>trivial
 | x :: r,h=>by
   simp only [SV.ownsB,Bool.and_eq_true] at h
   exact ⟨ownB_spec x h.1,ownsV_spec r h.2⟩
end
def lookL (tm : List (Nat × SV)) : List (Nat × SV) → Option (List SV)
 | []=>some []
 | (t,_) :: l=>match look tm t,lookL tm l with
   | some y,some r=>some (y :: r)
   | _,_=>none
def renTs (r : List Nat) : List (Nat × SV) → List SV
 | []=>[]
 | (_,x) :: l=>x.ren r :: renTs r l
def nmTB (n : Nat) : List (Nat × SV) → Bool
 | []=>true
 | (_,x) :: l=>x.nmB n && nmTB n l
theorem entT_of {r : List Nat} {n : Nat} {tm : List (Nat × SV)} : ∀ {l : List (Nat × SV)}, lookL tm l = some (renTs r l) → nmTB n l = true → entT r n tm l
 | [],_,_=>trivial
 | (t,x) :: l,h,h'=>by
   unfold lookL at h
   simp only [nmTB,Bool.and_eq_true] at h'
   cases h1 : look tm t with
   | none=>rw [h1] at h;cases h
   | some y =>
     cases h2 : lookL tm l with
     | none=>rw [h1,h2] at h;cases h
     | some q =>
       rw [h1,h2] at h
       simp only [renTs,Option.some.injEq,List.cons.injEq] at h
       refine ⟨?_,entT_of (by rw [h2,h.2]) h'.2⟩
       rw [h1]
       exact ⟨h.1,nmB_spec x h'.1⟩
def OB.rnB (r : List Nat) : OB → OB
 | .box t cs=>.box t (SV.rens r cs)
 | o=>o
def OB.nmB (n : Nat) : OB → Bool
 | .box _ cs=>SV.nmsB n cs
 | _=>true
def nthL (ob : List OB) : List Nat → Option (List OB)
 | []=>some []
 | j :: l=>match nth ob j,nthL ob l with
   | some o,some r=>some (o :: r)
   | _,_=>none
def rnOs (r : List Nat) : List OB → List OB
 | []=>[]
 | o :: l=>o.rnB r :: rnOs r l
def nmOB (n : Nat) : List OB → Bool
 | []=>true
 | o :: l=>o.nmB n && nmOB n l
theorem is_of {r : List Nat} {n : Nat} : ∀ {o : OB}, o.nmB n = true → (o.rnB r).is r n o
 | .box _ cs,h=>⟨rfl,rfl,nmsB_spec cs h⟩
 | .row _ _ _ _,_=>⟨rfl,rfl,rfl,rfl⟩
 | .res _,_=>fun _ _ _ _ h=>h
theorem entO_of {r : List Nat} {n : Nat} {ob : List OB} : ∀ {js : List Nat} {l : List OB}, nthL ob js = some (rnOs r l) → nmOB n l = true → entO r n ob js l
 | [],[],_,_=>trivial
 | [],_ :: _,h,_=>by simp [nthL,rnOs] at h
 | j :: js,l,h,h'=>by
   unfold nthL at h
   cases h1 : nth ob j with
   | none=>rw [h1] at h;cases h
   | some o =>
     cases h2 : nthL ob js with
     | none=>rw [h1,h2] at h;cases h
     | some q =>
       rw [h1,h2] at h
       cases l with
       | nil=>simp [rnOs] at h
       | cons o' l =>
         simp only [nmOB,Bool.and_eq_true] at h'
         simp only [rnOs,Option.some.injEq,List.cons.injEq] at h
         refine ⟨?_,entO_of (by rw [h2,h.2]) h'.2⟩
         rw [h1]
         simp only [h.1]
         exact is_of h'.1
def memB (x : Nat) : List Nat → Bool
 | []=>false
 | y :: r=>Nat.beq x y || memB x r
def nodupB : List Nat → Bool
 | []=>true
 | x :: r=>!memB x r && nodupB r
theorem memB_spec {x : Nat} : ∀ {l : List Nat}, memB x l = false → x ∉ l
 | [],_=>by simp
 | y :: r,h=>by
   simp only [memB,Bool.or_eq_false_iff] at h
   have h1 : x ≠ y:=fun e=>by rw [e] at h;simp at h
   simp [h1,memB_spec h.2]
theorem nodupB_spec : ∀ {l : List Nat}, nodupB l = true → l.Nodup
 | [],_=>List.nodup_nil
 | x :: r,h=>by
   simp only [nodupB,Bool.and_eq_true,Bool.not_eq_true'] at h
   exact List.nodup_cons.2 ⟨memB_spec h.1,nodupB_spec h.2⟩
theorem round_k {C : Ctx} {α : Type} {J : α → Prop} {It : α → List (Nat × SV)} {Io : α → List OB} {μ : α → Nat} {x : α} {tm : List (Nat × SV)} {ob : List OB} (y : α) (hj : J y) (hμ : μ y < μ x)
 (h1 : lookL tm (It y)=some (renTs (fO ob lits (Io y) (fT0 tm (It y) (idL lits (Io y)))) (It y))) (h2 : nthL ob (fO ob lits (Io y) (fT0 tm (It y) (idL lits (Io y))))=some (rnOs (fO ob lits (Io y) (fT0 tm (It y) (idL lits (Io y)))) (Io y)))
 (h3 : (nmTB (Io y).length (It y) && nmOB (Io y).length (Io y) && nodupB (fO ob lits (Io y) (fT0 tm (It y) (idL lits (Io y)))) && pinB C.m 0 (fO ob lits (Io y) (fT0 tm (It y) (idL lits (Io y)))))=true) : RoundE C J It Io μ x tm ob:=by
 simp only [Bool.and_eq_true] at h3
 exact ⟨y,_,hj,⟨entT_of h1 h3.1.1.1,entO_of h2 h3.1.1.2,nodupB_spec h3.1.2,h3.2⟩,hμ⟩
def OB.plain : List OB → Bool
 | []=>true
 | .box _ cs :: r=>SV.ownsB cs && OB.plain r
 | .row ro _ _ _ :: r=>!ro && OB.plain r
 | .res _ :: _=>false
def OB.flats : List OB → Prop
 | []=>True
 | .row _ _ _ els :: r=>flatD els∧OB.flats r
 | _ :: r=>OB.flats r
theorem ownsB_of : ∀ {l : List OB}, OB.plain l = true → OB.flats l → OB.ownsB l
 | [],_,_=>trivial
 | .box _ cs :: r,h,h'=>by
   simp only [OB.plain,Bool.and_eq_true] at h
   exact ⟨ownsV_spec cs h.1,ownsB_of h.2 h'⟩
 | .row ro _ _ els :: r,h,h'=>by
   simp only [OB.plain,Bool.and_eq_true,Bool.not_eq_true'] at h
   exact ⟨⟨h.1,h'.1⟩,ownsB_of h.2 h'.2⟩
 | .res _ :: _,h,_=>by cases h
theorem Fin_j {P : Program} {T : List TI} {n m : Nat} {w : World} {M : Nat → Prop} {π : Nat → Nat} {G0 : Fz} {ι : Type} {ob : List OB} {x : ι → SV} {os1 : ι → List OB} {y : SV} (i : ι) (h : mendK (os1 i) (x i) y ob fun y ob => force (fO ob lits (os1 i) (fV0 (x i) y (idL lits (os1 i)))) fun r =>
 y=(x i).ren r∧nthL ob r=some (rnOs r (os1 i))∧OB.flats (os1 i)∧((x i).nmB (os1 i).length && (x i).ownB && nmOB (os1 i).length (os1 i) && OB.plain (os1 i) && nodupB r && pinB m 0 r)=true) : Fin ⟨P,T,n,w,M,m,π,false,G0⟩ (RetM P w M m π false G0 x os1) y ob:=by
 refine Fin_k i ?_
 refine mendK_mono h fun y ob h=>?_
 rw [force_eq] at h ⊢
 obtain ⟨h1,h2,h3,h4⟩:=h
 simp only [Bool.and_eq_true] at h4
 exact ⟨h1,entO_of h2 h4.1.1.1.2,nmB_spec _ h4.1.1.1.1.1,ownB_spec _ h4.1.1.1.1.2,ownsB_of h4.1.1.2 h3,nodupB_spec h4.1.2,h4.2⟩
theorem Fin_ja {P : Program} {T : List TI} {n m : Nat} {w : World} {M : Nat → Prop} {π : Nat → Nat} {G0 : Fz} {ι : Type} {ob : List OB} {x : ι → SV} {os1 : ι → List OB} {y : SV} (i : ι) (h : mendK (os1 i) (x i) y ob fun y ob => force (fO ob lits (os1 i) (fV0 (x i) y (idL lits (os1 i)))) fun r =>
 y=(x i).ren r∧nthL ob r=some (rnOs r (os1 i))∧((x i).nmB (os1 i).length && nmOB (os1 i).length (os1 i) && nodupB r && pinB m 0 r)=true) : Fin ⟨P,T,n,w,M,m,π,false,G0⟩ (RetM P w M m π true G0 x os1) y ob:=by
 refine Fin_ka i ?_
 refine mendK_mono h fun y ob h=>?_
 rw [force_eq] at h ⊢
 obtain ⟨h1,h2,h4⟩:=h
 simp only [Bool.and_eq_true] at h4
 exact ⟨h1,entO_of h2 h4.1.1.2,nmB_spec _ h4.1.1.1,nodupB_spec h4.1.2,h4.2⟩
end Go.Proofs.YtkflmidichikjaaGreatDoor.V
end
