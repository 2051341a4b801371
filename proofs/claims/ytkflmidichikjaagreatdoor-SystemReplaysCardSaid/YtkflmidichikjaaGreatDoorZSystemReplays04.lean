import Derived.Test.YtkflmidichikjaaGreatDoorZSystemReplays03
set_option linter.all false
section
namespace Go.Proofs.YtkflmidichikjaaGreatDoor.V
open Go.RowKit
def eqV : List Nat → List Value → List Value → Option Bool
 | [],[],[]=>some true
 | 0 :: ks,.int .i64 a :: l,.int .i64 b :: m=>match eqV ks l m with
   | some r=>some ((a == b) && r)
   | none=>none
 | 1 :: ks,.bool a :: l,.bool b :: m=>match eqV ks l m with
   | some r=>some ((a == b) && r)
   | none=>none
 | _,_,_=>none
theorem eqL_eqV (σ : Nat → Nat) : ∀ (ks : List Nat) (l m : List SV) (r : Bool), eqL ks l m = some r → eqV ks (SV.vals σ l) (SV.vals σ m) = some r
 | ks,l,m,r,h=>by
   unfold eqL at h
   split at h
   ·exact h
   ·rename_i ks a l b m
    cases hq : eqL ks l m with
    | none=>simp [hq] at h
    | some r'=>simp [hq] at h;simp [SV.vals,SV.val,eqV,eqL_eqV σ ks l m r' hq,h]
   ·rename_i ks a l b m
    cases hq : eqL ks l m with
    | none=>simp [hq] at h
    | some r'=>simp [hq] at h;simp [SV.vals,SV.val,eqV,eqL_eqV σ ks l m r' hq,h]
   ·cases h
theorem eqV_len : ∀ {ks : List Nat} {xs ys : List Value} {r : Bool}, eqV ks xs ys = some r → xs.length = ks.length ∧ ys.length = ks.length
 | ks,xs,ys,r,h=>by
   unfold eqV at h
   split at h
   ·simp
   ·rename_i ks a l b m
    cases hq : eqV ks l m with
    | none=>simp [hq] at h
    | some r'=>have:=eqV_len hq;simp [this]
   ·rename_i ks a l b m
    cases hq : eqV ks l m with
    | none=>simp [hq] at h
    | some r'=>have:=eqV_len hq;simp [this]
   ·cases h
theorem eqV_append : ∀ {k1 k2 : List Nat} {xs ys : List Value} {r : Bool}, eqV (k1 ++ k2) xs ys = some r → ∃ r1 r2, eqV k1 (xs.take k1.length) (ys.take k1.length) = some r1 ∧ eqV k2 (xs.drop k1.length) (ys.drop k1.length) = some r2 ∧ r = (r1 && r2)
 | [],k2,xs,ys,r,h=>⟨true,r,by simp [eqV],by simpa using h,by simp⟩
 | k :: k1,k2,xs,ys,r,h=>by
   rw [List.cons_append] at h
   unfold eqV at h
   split at h
   ·rename_i e;cases e
   ·rename_i ks a l b m e
    simp at e
    obtain ⟨rfl,rfl⟩:=e
    cases hq : eqV (k1 ++ k2) l m with
    | none=>simp [hq] at h
    | some r' =>
      simp [hq] at h
      obtain ⟨r1,r2,h1,h2,h3⟩:=eqV_append hq
      exact ⟨(a == b) && r1,r2,by simp [eqV,h1],by simpa using h2,by rw [← h,h3,Bool.and_assoc]⟩
   ·rename_i ks a l b m e
    simp at e
    obtain ⟨rfl,rfl⟩:=e
    cases hq : eqV (k1 ++ k2) l m with
    | none=>simp [hq] at h
    | some r' =>
      simp [hq] at h
      obtain ⟨r1,r2,h1,h2,h3⟩:=eqV_append hq
      exact ⟨(a == b) && r1,r2,by simp [eqV,h1],by simpa using h2,by rw [← h,h3,Bool.and_assoc]⟩
   ·cases h
def kindsF (P : Program) (kd : TypeId → Option (List Nat)) : Nat → List Field → Option (List Nat)
 | _,[]=>some []
 | off,f :: fs=>match kd f.type,P.info? f.type,P.underlying f.type with
   | some ks, some i, some d => match Nat.beq f.offset off, Nat.beq i.size ks.length, f.name == "_", kindsF P kd (off + ks.length) fs with
     | true,true,false,some l=>match d.isRow,Nat.beq ks.length 1,Nat.beq ks.length 0 with
       | _,_,true=>none
       | false,false,false=>none
       | _,_,_=>some (ks ++ l)
     | _,_,_,_=>none
   | _,_,_=>none
def kinds (P : Program) : Nat → TypeId → Option (List Nat)
 | 0,_=>none
 | d + 1,t=>match P.underlying t with
   | some (.int .i64)=>some [0]
   | some .bool=>some [1]
   | some (.struct fs)=>match P.stoodInHeld t with
     | true=>none
     | false=>kindsF P (kinds P d) 0 fs.toList
   | _=>none
def pv (P : Program) (t : TypeId) (xs : List Value) : Value :=
 match P.underlying t with
 | some d=>match d.isRow with
   | true=>.agg xs.toArray
   | false=>xs.headD undef
 | none=>undef
theorem run_isAgg {P : Program} {t : TypeId} {d : TypeDesc} (hd : P.underlying t = some d) (w : World) : (isAgg t).run P w = .ok d.isRow w := by
 unfold isAgg
 simp only [Sem.run_bind,run_underlying hd,Result.andThen_ok]
 cases d<;>rfl
theorem run_sizeOf {P : Program} {t : TypeId} {i : TypeInfo} (hi : P.info? t = some i) (w : World) : (sizeOf t).run P w = .ok i.size w := by
 unfold sizeOf
 simp [typeInfo,hi]
theorem run_part {P : Program} {t : TypeId} {d : TypeDesc} {i : TypeInfo} (hd : P.underlying t = some d) (hi : P.info? t = some i) (xs : List Value) (off n : Nat) (hn : i.size = n) (hle : off + n ≤ xs.length) (h1 : d.isRow = false → n = 1) (w : World) :
 (part t xs.toArray off).run P w = .ok (pv P t ((xs.drop off).take n)) w:=by
 unfold part pv
 simp only [Sem.run_bind,run_isAgg hd,Result.andThen_ok,hd]
 cases hr : d.isRow with
 | true =>
   simp only [if_true,Sem.run_bind,run_sizeOf hi,Result.andThen_ok,Sem.run_pure,hn]
   congr 3
   simp [List.extract_toArray,List.extract]
 | false =>
   obtain rfl:=h1 hr
   have hlt : off < xs.length:=by omega
   have : xs[off]? = some xs[off]:=by simp
   simp only [Bool.false_eq_true,if_false,List.getElem?_toArray,this,Sem.run_pure]
   congr 1
   have hh : (xs.drop off).head? = some xs[off]:=by simp [List.head?_drop]
   simp [List.head?_take,hh]
theorem kindsF_eq {P : Program} {D d : Nat} {w : World} (hd : ∀ t ks, kinds P d t = some ks → ∀ xs ys r, eqV ks xs ys = some r → (Op.equalIn D t (pv P t xs) (pv P t ys)).run P w = .ok r w) (xs ys : List Value) :
 ∀ (fs : List Field) (off : Nat) (ks : List Nat) (r : Bool),kindsF P (kinds P d) off fs=some ks→eqV ks (xs.drop off) (ys.drop off)=some r →
  ∃ g : Field → Bool, ∃ gs : List Bool, (∀ i f, fs[i]? = some f → f.name ≠ "_" ∧ ∃ p q, (part f.type xs.toArray f.offset).run P w = .ok p w ∧ (part f.type ys.toArray f.offset).run P w = .ok q w ∧ (Op.equalIn D f.type p q).run P w = .ok (gs.getD i false) w) ∧ gs.length = fs.length ∧ r = gs.all id
 | [],off,ks,r,h,he=>by
   simp [kindsF] at h
   subst h
   refine ⟨fun _=>true,[],fun i f hf=>by simp at hf,rfl,?_⟩
   have:=eqV_len he
   cases hx : xs.drop off with
   | nil=>cases hy : ys.drop off with
     | nil=>simp [hx,hy,eqV] at he;simp [← he]
     | cons _ _=>simp [hy] at this
   | cons _ _=>simp [hx] at this
 | f :: fs,off,ks,r,h,he=>by
   unfold kindsF at h
   split at h
   ·rename_i k1 i dd hk hi hu
    split at h
    ·rename_i l e1 e2 e3 hl
     have e1:=Nat.eq_of_beq_eq_true e1
     have e2:=Nat.eq_of_beq_eq_true e2
     have hks : ks=k1 ++ l∧(dd.isRow=false→k1.length=1)∧k1.length ≠ 0:=by
      split at h
      ·cases h
      ·cases h
      ·rename_i hne1 hne2
       simp at h
       refine ⟨h.symm,fun hr=>?_,fun h0=>hne1 (by simp [h0])⟩
       cases hb : Nat.beq k1.length 1 with
       | true=>exact Nat.eq_of_beq_eq_true hb
       | false =>
         cases hz : Nat.beq k1.length 0 with
         | true=>exact (hne1 hz).elim
         | false=>exact (hne2 hr hb hz).elim
     obtain ⟨rfl,h1,h0⟩:=hks
     have hlen:=eqV_len he
     simp at hlen
     obtain ⟨r1,r2,h2,h3,h4⟩:=eqV_append he
     rw [List.drop_drop,List.drop_drop] at h3
     obtain ⟨g,gs,h5,h6,h7⟩:=kindsF_eq hd xs ys fs (off + k1.length) l r2 hl h3
     refine ⟨g,r1 :: gs,?_,by simp [h6],by simp [h4,h7]⟩
     intro j f' hf
     cases j with
     | zero =>
       simp at hf
       subst hf
       refine ⟨by simpa using e3,_,_,run_part hu hi xs f.offset k1.length e2 (by omega) h1 w,run_part hu hi ys f.offset k1.length e2 (by omega) h1 w,?_⟩
       rw [e1]
       exact hd _ _ hk _ _ _ h2
     | succ j =>
       simpa using h5 j f' (by simpa using hf)
    ·cases h
   ·cases h
theorem eqLoop' {P : Program} {d : Nat} {xs ys : Array Value} (w : World) : ∀ (fs : List Field) (gs : List Bool), gs.length = fs.length → (∀ i f, fs[i]? = some f → f.name ≠ "_" ∧ ∃ p q, (part f.type xs f.offset).run P w = .ok p w ∧ (part f.type ys f.offset).run P w = .ok q w ∧ (Op.equalIn d f.type p q).run P w = .ok (gs.getD i false) w) →
 (forIn fs ((none,()) : Option Bool × Unit) (fun f __s =>
  if f.name ≠ "_" then do
   let __do_lift ← part f.type xs f.offset
   let __do_lift_1 ← part f.type ys f.offset
   let __do_lift ← Op.equalIn d f.type __do_lift __do_lift_1
   if (!__do_lift)=true then pure (ForInStep.done (some false,())) else pure (ForInStep.yield (none,()))
  else pure (ForInStep.yield (none,())) : Field→Option Bool × Unit→Sem (ForInStep (Option Bool × Unit)))).run P w = .ok (if gs.all id then none else some false,()) w
 | [],gs,hl,_=>by cases gs<;>simp_all
 | f :: fs,[],hl,_=>by simp at hl
 | f :: fs,b :: gs,hl,h=>by
   obtain ⟨h1,p,q,h2,h3,h4⟩:=h 0 f (by simp)
   have ih:=eqLoop' w fs gs (by simpa using hl) (fun i f' hf=>by simpa using h (i + 1) f' (by simpa using hf))
   simp only [List.forIn_cons,h1,ne_eq,not_false_iff,if_true,Sem.run_bind,h2,h3,h4,Result.andThen_ok]
   cases b with
   | true=>simp only [List.getD_cons_zero,Bool.not_true,Bool.false_eq_true,if_false,Sem.run_pure,Result.andThen_ok,List.all_cons,id,Bool.true_and];exact ih
   | false=>simp
theorem kinds_eq {P : Program} (w : World) : ∀ (d : Nat) (t : TypeId) (ks : List Nat), kinds P d t = some ks → ∀ D, d ≤ D → ∀ xs ys r, eqV ks xs ys = some r → (Op.equalIn D t (pv P t xs) (pv P t ys)).run P w = .ok r w
 | 0,_,_,h,_,_,_,_,_,_=>by simp [kinds] at h
 | d + 1,t,ks,h,D,hD,xs,ys,r,he=>by
   obtain ⟨D,rfl⟩ : ∃ D',D=D' + 1:=⟨D - 1,by omega⟩
   unfold kinds at h
   split at h
   ·rename_i hu
    simp at h
    subst h
    have hl:=eqV_len he
    obtain ⟨x,rfl⟩:=List.length_eq_one_iff.1 hl.1
    obtain ⟨y,rfl⟩:=List.length_eq_one_iff.1 hl.2
    unfold eqV at he
    split at he<;>simp_all
    simp [pv,hu,Op.equalIn,run_underlying hu]
    simpa [eqV] using he
   ·rename_i hu
    simp at h
    subst h
    have hl:=eqV_len he
    obtain ⟨x,rfl⟩:=List.length_eq_one_iff.1 hl.1
    obtain ⟨y,rfl⟩:=List.length_eq_one_iff.1 hl.2
    unfold eqV at he
    split at he<;>simp_all
    simp [pv,hu,Op.equalIn,run_underlying hu]
    simpa [eqV] using he
   ·rename_i fs hu
    split at h
    ·cases h
    ·rename_i hs
     obtain ⟨_,gs,h1,h2,h3⟩:=kindsF_eq (w:=w) (D:=D) (fun t ks hk xs ys r he=>kinds_eq w d t ks hk D (by omega) xs ys r he) xs ys fs.toList 0 ks r h (by simpa using he)
     have e1 : pv P t xs = .agg xs.toArray:=by simp [pv,hu]
     have e2 : pv P t ys = .agg ys.toArray:=by simp [pv,hu]
     rw [e1,e2]
     unfold Op.equalIn
     simp only [Sem.run_bind,run_underlying hu,Result.andThen_ok,run_program,hs,Bool.false_eq_true,if_false]
     rw [← Array.forIn_toList,eqLoop' w _ gs h2 h1,h3]
     cases gs.all id<;>simp
   ·cases h
def fldsS (P : Program) : List Field → Option (List (Nat × Nat × Bool))
 | []=>some []
 | f :: fs=>match P.info? f.type,fldsS P fs with
   | some i,some l=>some ((f.offset,i.size,false) :: l)
   | _,_=>none
def fldsOf (P : Program) : TypeDesc → Option (List (Nat × Nat × Bool))
 | .struct fs=>fldsS P fs.toList
 | .array _ e=>match P.info? e with
   | some _=>some []
   | none=>none
 | _=>some []
def kdOf : TypeDesc → Nat
 | .bool=>1
 | .pointer _=>2
 | .int k=>match k with
   | .i64=>10
   | .u8=>11
   | .i32=>12
   | .u32=>13
   | .u64=>14
   | .i8=>15
   | .i16=>16
   | .u16=>17
 | .string=>4
 | .slice _=>5
 | .map _ _=>6
 | _=>0
theorem kdOf_3 {d : TypeDesc} {k : IntKind} (h : ikOf (kdOf d) = some k) : d = .int k := by
 cases d<;>first|(simp [kdOf,ikOf] at h;done)|(rename_i j;cases j<;>simp [kdOf,ikOf] at h<;>rw [h])|simp [kdOf,ikOf] at h
theorem kdOf_int (k : IntKind) : 10 ≤ kdOf (.int k) := by cases k <;> simp [kdOf]
theorem kdOf_1 {d : TypeDesc} (h : kdOf d = 1) : d = .bool := by
 cases d<;>first|rfl|(rename_i j;have:=kdOf_int j;omega)|(simp [kdOf] at h;done)
theorem kdOf_2 {d : TypeDesc} (h : kdOf d = 2) : ∃ e, d = .pointer e := by
 cases d<;>first|exact ⟨_,rfl⟩|(rename_i j;have:=kdOf_int j;omega)|(simp [kdOf] at h;done)
def elOf : TypeDesc → Nat
 | .slice e=>e + 1
 | _=>0
theorem elOf_spec {d : TypeDesc} {e : Nat} (h : elOf d = e + 1) : d = .slice e := by
 cases d<;>simp [elOf] at h
 rw [h]
def TI.of (P : Program) (id : Nat) : Option TI :=
 match P.info? id,P.underlying id with
 | some i,some d=>match i.zero,fldsOf P d with
   | some z,some fl=>match Nat.beq z.cells.size i.size,d.isRow,Nat.beq i.size 1,P.eqGuardType P.depth id with
     | true,true,_,false=>some ⟨id,true,z.cells.toList,fl,(kinds P 10 id).getD [],0,i.bytes,0⟩
     | true,false,true,false=>some ⟨id,false,z.cells.toList,fl,[],elOf d,i.bytes,kdOf d⟩
     | _,_,_,_=>none
   | _,_=>none
 | _,_=>none
theorem fldsS_get {P : Program} : ∀ {fs : List Field} {l : List (Nat × Nat × Bool)}, fldsS P fs = some l → ∀ j : Nat, (fs[j]?).isSome = (nth l j).isSome ∧ ∀ f x, fs[j]? = some f → nth l j = some x → ∃ i, P.info? f.type = some i ∧ x = (f.offset, i.size, false)
 | [],l,h,j=>by simp [fldsS] at h;subst h;simp [nth]
 | f :: fs,l,h,j=>by
   unfold fldsS at h
   split at h
   ·rename_i i m hi hm
    simp at h
    subst h
    cases j with
    | zero=>simp [nth];exact ⟨i,hi,rfl⟩
    | succ j=>simpa [nth] using fldsS_get hm j
   ·cases h
theorem mapM_places {P : Program} {w : World} : ∀ {fs : List Field} {l : List (Nat × Nat × Bool)}, fldsS P fs = some l →
 (fs.mapM fun (f : Field)=>do pure (f.offset,← sizeOf f.type)).run P w = .ok (l.map fun x=>(x.1,x.2.1)) w
 | [],l,h=>by simp [fldsS] at h;subst h;simp
 | f :: fs,l,h=>by
   unfold fldsS at h
   split at h
   ·rename_i i m hi hm
    simp at h
    subst h
    simp only [List.mapM_cons,Sem.run_bind,run_sizeOf hi,Result.andThen_ok,Sem.run_pure,mapM_places hm,List.map_cons]
   ·cases h
theorem TIok.of {P : Program} {id : Nat} {ti : TI} (h : TI.of P id = some ti) : ti.id = id ∧ TIok P ti := by
 unfold TI.of at h
 split at h
 ·rename_i i d hi hd
  split at h
  ·rename_i z fl hz hfl
   have hzero : ∀ w,(zeroValue id).run P w = .ok z w:=fun w=>by simp [zeroValue,typeInfo,hi,hz]
   have hfld : ∀ j fo fs fa,nth fl j=some (fo,fs,fa)→fs ≠ 0→∀ a w,(Instr.fieldAt id (.pointer (some a)) j).run P w = .ok (.pointer (some (a.add fo))) w:=by
    intro j fo fs fa hj hne a w
    cases d with
    | struct fds =>
      obtain ⟨g1,g2⟩:=fldsS_get (show fldsS P fds.toList=some fl from hfl) j
      rw [hj] at g1
      obtain ⟨f,hf⟩:=Option.isSome_iff_exists.1 (by simpa using g1 : (fds.toList[j]?).isSome=true)
      obtain ⟨fi,hfi,e⟩:=g2 f _ hf hj
      simp at e
      obtain ⟨rfl,rfl,rfl⟩:=e
      have hf' : fds[j]? = some f:=by simpa using hf
      unfold Instr.fieldAt
      simp only [Sem.run_bind,run_underlying hd,Result.andThen_ok,hf',Instr.sureAddr,Sem.run_pure,fieldPlace,run_sizeOf hfi,hne,if_false]
    | array n e =>
      simp only [fldsOf] at hfl
      split at hfl
      ·simp at hfl;subst hfl;simp [nth] at hj
      ·cases hfl
    | _=>simp [fldsOf] at hfl;subst hfl;simp [nth] at hj
   have hbuild : d.isRow=true→∀ parts cells w,Instr.fill (fun i=>(nth fl i).map fun f=>(f.1,f.2.1)) z.cells parts.toList=some cells→(Instr.build id parts).run P w = .ok (.agg cells) w:=by
    intro hrow parts cells w hf
    unfold Instr.build
    simp only [Sem.run_bind,hzero,Result.andThen_ok,run_underlying hd]
    cases d with
    | struct fds =>
      have hp : (fds.mapM fun (f : Field)=>do pure (f.offset,← sizeOf f.type)).run P w = .ok (fl.map fun x=>(x.1,x.2.1)).toArray w:=by
       rw [← Array.toArray_toList (xs:=fds),List.mapM_toArray]
       simp only [Sem.run_map,mapM_places (w:=w) (show fldsS P fds.toList=some fl from hfl),Result.andThen_ok]
      have hfun : (fun i=>((fl.map fun x=>(x.1,x.2.1)).toArray)[i]?)=fun i=>(nth fl i).map fun f=>(f.1,f.2.1):=by
       funext i
       simp [nth_eq]
      simp only [Sem.run_bind,hp,Result.andThen_ok,hfun,hf,Sem.run_pure]
    | array n e =>
      simp only [fldsOf] at hfl
      split at hfl<;>simp at hfl
      rename_i ei hei
      subst hfl
      simp only [Sem.run_bind,run_sizeOf hei,Result.andThen_ok]
      cases hps : parts.toList with
      | nil =>
        rw [hps] at hf
        simp [Instr.fill] at hf
        simp [Instr.fill,hf]
      | cons p ps =>
        rw [hps] at hf
        obtain ⟨i,v⟩:=p
        simp [Instr.fill,nth] at hf
    | _=>cases hrow
   have heq : ∀ σ l m r,eqT ((kinds P 10 id).getD []) l m=some r→d.isRow=true→∀ w,(Op.equal id (.agg (SV.vals σ l).toArray) (.agg (SV.vals σ m).toArray)).run P w = .ok r w:=by
    intro σ l m r he hrow w
    cases hk : kinds P 10 id with
    | none=>simp [hk,eqT] at he
    | some ks =>
      have he' : eqL ks l m=some r:=by
       rw [hk] at he
       unfold eqT at he
       simp only [Option.getD_some] at he
       cases ks with
       | nil=>cases he
       | cons _ _=>exact he
      have:=kinds_eq w 10 id ks hk Op.maxDepth (by decide) _ _ r (eqL_eqV σ ks l m r he')
      simpa [Op.equal,pv,hd,hrow] using this
   split at h
   ·rename_i h1 h2 h4
    simp at h
    subst h
    have h1:=Nat.eq_of_beq_eq_true h1
    exact ⟨rfl,by simp [hi,← h1],⟨d,hd,h2⟩,⟨z,hzero,by simp⟩,⟨i,z,hi,hz,by simp,by simp [h1],rfl⟩,fun h=>(by cases h),hfld,fun _=>by simpa using hbuild h2,fun e h=>(by cases h),(fun h=>by cases h),(fun h=>by cases h),(fun k h=>by simp [ikOf] at h),h4,fun σ l m r he=>heq σ l m r he h2⟩
   ·rename_i h1 h2 h3 h4
    simp at h
    subst h
    have h1:=Nat.eq_of_beq_eq_true h1
    have h3:=Nat.eq_of_beq_eq_true h3
    exact ⟨rfl,by simp [hi,← h1],⟨d,hd,h2⟩,⟨z,hzero,by simp⟩,⟨i,z,hi,hz,by simp,by simp [h1],rfl⟩,fun _=>by simp [h1,h3],hfld,fun h=>(by cases h),fun e h=>(by rw [hd,elOf_spec h]),(fun h=>by rw [hd,kdOf_1 h]),(fun h=>by obtain ⟨e,he⟩:=kdOf_2 h;exact ⟨e,by rw [hd,he]⟩),(fun k h=>by rw [hd,kdOf_3 h]),h4,fun σ l m r he=>by simp [eqT] at he⟩
   ·cases h
  ·cases h
 ·cases h
theorem tab_ok {P : Program} {T : List TI} (h : (T.map fun ti => TI.of P ti.id) = T.map some) : TabOk P T := by
 intro t ti hl
 have hmem : ∀ {T : List TI},lookT T t=some ti→ti∈T∧ti.id=t:=by
  intro T
  induction T with
  | nil=>intro h;simp [lookT] at h
  | cons x r ih =>
    intro h
    unfold lookT at h
    split at h
    ·rename_i e
     simp at h
     subst h
     exact ⟨by simp,Nat.eq_of_beq_eq_true e⟩
    ·exact ⟨by simp [(ih h).1],(ih h).2⟩
 obtain ⟨h1,h2⟩:=hmem hl
 have h3 : ∀ x∈T,TI.of P x.id=some x:=by
  intro x hx
  obtain ⟨i,hi⟩:=List.mem_iff_getElem?.1 hx
  have:=congrArg (fun l=>l[i]?) h
  simpa [hi] using this
 exact ⟨h2,(TIok.of (h3 ti h1)).2⟩
end Go.Proofs.YtkflmidichikjaaGreatDoor.V
end
