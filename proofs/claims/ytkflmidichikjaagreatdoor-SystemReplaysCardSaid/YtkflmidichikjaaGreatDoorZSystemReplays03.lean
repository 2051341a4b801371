import Derived.Test.YtkflmidichikjaaGreatDoorZSystemReplays02
set_option linter.all false
section
namespace Go.Proofs.YtkflmidichikjaaGreatDoor.V
open Go.RowKit
section
variable {C : Ctx} {tm : List (Nat × SV)} {ob : List OB} {σ : Nat → Nat} {G : Fz} {fp : Nat → Nat → Prop} {a : Act} {w : World} {k : SV → List OB → Prop} {next : Act → World → Prop} {Q : Exit → Act → World → Prop}
theorem binI_spec {o : Oper} {op : BinOp} {t t' : TypeId} {x y : Operand} {kd : IntKind} {p q : Int} {k : SV → Prop} (ho : o.op = .binOp op t x y t') (hx : a.eval x = .int kd p) (hy : a.eval y = .int kd q) (h : binI op kd p q k) :
 ∃ r,k (.v r)∧(execOp a.eval o).run C.P w = .ok (.value r) w:=by
 have hg : ∀ op,(eqGuard op t x y (.int kd p) (.int kd q)).run C.P w = .ok () w:=by
  intro op
  unfold eqGuard
  cases op<;>rfl
 have key : ∀ r : Value,(binOp op t (.int kd p) (.int kd q)).run C.P w = .ok r w→k (.v r)→∃ r,k (.v r)∧(execOp a.eval o).run C.P w = .ok (.value r) w:=by
  intro r hr hkr
  refine ⟨r,hkr,?_⟩
  simp only [execOp,ho,hx,hy,Sem.run_bind,hg,Result.andThen_ok,hr,Sem.run_pure]
 unfold binI at h
 cases op<;>simp only [xwr_iff,xquo_iff,xrem_iff,xshr_iff,xshl_iff] at h
 all_goals first
  | exact h.elim
  | (refine key _ ?_ h;simp [binOp,Op.intArith,Op.intCmp,Op.intBits,bits];done)
  | (refine key _ ?_ h.2;simp [binOp,Op.intDiv,h.1];done)
  | (refine key _ ?_ h.2;simp [binOp,Op.shift,Int.not_lt.2 h.1];done)
theorem shift_spec {o : Oper} {op : BinOp} {t t' : TypeId} {x y : Operand} {kd kd' : IntKind} {p q r : Int} (ho : o.op = .binOp op t x y t') (hx : a.eval x = .int kd p) (hy : a.eval y = .int kd' q) (hq : 0 ≤ q)
 (h : (op = .shr∧r=p.fdiv (2 ^ min q.toNat kd.bits))∨(op = .shl∧r=kd.wrap (p * 2 ^ min q.toNat kd.bits))) : (execOp a.eval o).run C.P w = .ok (.value (.int kd r)) w:=by
 have hg : ∀ op,(eqGuard op t x y (.int kd p) (.int kd' q)).run C.P w = .ok () w:=by
  intro op
  unfold eqGuard
  cases op<;>rfl
 rcases h with ⟨rfl,rfl⟩|⟨rfl,rfl⟩<;>simp [execOp,ho,hx,hy,hg,binOp,Op.shift,Int.not_lt.2 hq]
theorem zip_spec (ρ : Operand → Value) (σ : Nat → Nat) : ∀ (ps : List (Nat × Operand)) (l : List SV), (ps.map (·.2)).map ρ = SV.vals σ l →
 ps.map (fun p=>(p.1,ρ p.2))=((ps.map (·.1)).zip l).map fun p=>(p.1,p.2.val σ)
 | [],l,h=>by simp
 | p :: ps,[],h=>by simp [SV.vals] at h
 | p :: ps,x :: l,h=>by
   simp only [List.map_cons,SV.vals,List.cons.injEq] at h
   simp only [List.map_cons,List.zip_cons_cons,h.1,zip_spec ρ σ ps l h.2]
theorem OpX_spec {o : Oper} {xs : List SV} (h : OpX C o xs ob k) (hx : o.op.operands.toList.map a.eval = SV.vals σ xs) (hw : SV.wfs ⟨G, ob.length⟩ xs) (hm : Mem C σ G fp ob w)
 (hk : ∀ v w',Goes C ob.length σ G fp w k v w'→next (a.put o.dst v) w') : o.wp C.P a w next Q:=by
 unfold OpX at h
 have h1:=h σ G fp w a.eval hm hw hx
 unfold Oper.wp
 generalize (execOp a.eval o).run C.P w=r at h1 ⊢
 cases r with
 | halt _ _=>exact h1.elim
 | ok n w' =>
   cases n with
   | value v=>exact hk _ _ h1
   | skip=>exact hk _ _ h1
   | enter f args=>exact h1.mono fun e w'' ⟨v,he,hg⟩=>by subst he;exact hk _ _ hg
   | _=>exact h1.elim
theorem ValX_spec {o : Oper} {xs : List SV} {k : SV → Prop} (h : ValX C o xs ob k) (hx : o.op.operands.toList.map a.eval = SV.vals σ xs) (hw : SV.wfs ⟨G, ob.length⟩ xs) (hm : Mem C σ G fp ob w) : ∃ x, k x ∧ (execOp a.eval o).run C.P w = .ok (.value (x.val σ)) w ∧ x.wf ⟨G, ob.length⟩ := by
 unfold ValX at h
 exact h σ G fp w a.eval hm hw hx
theorem xval_sound (hT : TabOk C.P C.T) {o : Oper} {k : SV → Prop} (h : xval C o tm ob k) (htm : Tm C σ ⟨G, ob.length⟩ tm a) (hm : Mem C σ G fp ob w) :
 ∃ x,k x∧(execOp a.eval o).run C.P w = .ok (.value (x.val σ)) w∧x.wf ⟨G,ob.length⟩:=by
 obtain ⟨dst,op,ty,pos,after,guard⟩:=o
 have gen : ∀ (hh : match evs tm op.operands.toList with|some l=>force l fun l=>ValX C ⟨dst,op,ty,pos,after,guard⟩ l ob k|none=>False),∃ x,k x∧(execOp a.eval ⟨dst,op,ty,pos,after,guard⟩).run C.P w = .ok (.value (x.val σ)) w∧x.wf ⟨G,ob.length⟩:=by
  intro hh
  cases he : evs tm op.operands.toList with
  | none=>rw [he] at hh;exact hh.elim
  | some l =>
    rw [he] at hh
    simp only [force_eq] at hh
    exact ValX_spec hh (evs_spec htm he).1 (evs_spec htm he).2 hm
 cases op with
 | move x =>
   simp only [xval] at h
   split at h
   ·rename_i r he
    obtain ⟨h1,h2⟩:=ev_spec htm he
    exact ⟨r,h,by simp [execOp,h1],h2⟩
   ·exact h.elim
 | assign x =>
   simp only [xval] at h
   split at h
   ·rename_i r he
    obtain ⟨h1,h2⟩:=ev_spec htm he
    exact ⟨r,h,by simp [execOp,h1],h2⟩
   ·exact h.elim
 | pick c x y =>
   simp only [xval] at h
   split at h
   ·rename_i b r s hc hx hy
    obtain ⟨h1,_⟩:=ev_spec htm hc
    obtain ⟨h2,h3⟩:=ev_spec htm hx
    obtain ⟨h4,h5⟩:=ev_spec htm hy
    rw [xif_iff] at h
    cases b with
    | true=>exact ⟨r,h.1 rfl,by simp [execOp,h1,h2,SV.val,asBool],h3⟩
    | false=>exact ⟨s,h.2 rfl,by simp [execOp,h1,h4,SV.val,asBool],h5⟩
   ·exact h.elim
 | load t x =>
   simp only [xval] at h
   split at h
   ·rename_i j off he
    obtain ⟨h1,h2⟩:=ev_spec htm he
    split at h
    ·rename_i ti t' cs ht hb
     obtain ⟨hid,hti⟩:=hT t ti ht
     obtain ⟨hh,hf,hw,hj⟩:=nth_box hm hb
     split at h
     ·rename_i hagg
      split at h
      ·rename_i hle
       have hle:=Nat.le_of_ble_eq_true hle
       rw [force_eq,cut_eq] at h
       obtain ⟨d,hd,hrow⟩:=hti.under
       have hl:=run_loadVar_mid (P:=C.P) w (σ j) off ti.id (((SV.vals σ cs).drop off).take ti.zero.length) d (by
        intro i v hv
        rw [List.getElem?_take] at hv
        split at hv
        ·rw [List.getElem?_drop] at hv
         simpa [World.cell?,hh] using hv
        ·cases hv) hd (by rw [hrow,hagg]) (by rw [hti.info];simp [vals_length];omega)
       refine ⟨.a ((cs.drop off).take ti.zero.length),h,?_,wfs_cut hw _ _⟩
       rw [hid] at hl
       simp only [execOp,Instr.loadAt,h1,SV.val,Instr.sureAddr,Sem.run_bind,Sem.run_pure,Result.andThen_ok,hl,vals_cut]
      ·exact h.elim
     ·rename_i hagg
      split at h
      ·rename_i r hr'
       rw [nth_eq] at hr'
       have hc : w.cell? ⟨σ j,off,none⟩ = some (r.val σ):=by
        simp [World.cell?,hh,vals_get,hr']
       have hl:=load_one hti hagg hc
       rw [hid] at hl
       refine ⟨r,h,?_,wfs_get hw hr'⟩
       simp only [execOp,Instr.loadAt,h1,SV.val,Instr.sureAddr,Sem.run_bind,Sem.run_pure,Result.andThen_ok,hl]
      ·exact h.elim
    ·exact h.elim
   ·rename_i ad cs he
    obtain ⟨h1,h2⟩:=ev_spec htm he
    have hv : ValX C ⟨dst,.load t x,ty,pos,after,guard⟩ [.fa ad cs] ob k→∃ x,k x∧(execOp a.eval ⟨dst,.load t ‹Operand›,ty,pos,after,guard⟩).run C.P w = .ok (.value (x.val σ)) w∧x.wf ⟨G,ob.length⟩ :=
     fun h=>ValX_spec h (by simp [Op.operands,SV.vals,h1]) ⟨h2,trivial⟩ hm
    split at h
    ·rename_i ti ht
     obtain ⟨hid,hti⟩:=hT t ti ht
     obtain ⟨b,oo,ocs,oty,ofz,rfl,hg,hr⟩:=h2
     have hb:=(hm.fz b _ hg).1
     obtain ⟨d,hd,hrow⟩:=hti.under
     split at h
     ·rename_i hagg
      split at h
      ·rename_i l hle hle1 ho
       have hle:=Nat.le_of_ble_eq_true hle
       rw [force_eq] at h
       rw [cut_eq,List.drop_zero] at ho
       obtain ⟨hl1,hl2⟩:=outr_rd (hr.take ti.zero.length) ho
       rw [List.length_take] at hl1
       have hl:=run_loadVar_mid (P:=C.P) w b oo ti.id (SV.vals σ l) d (by
        intro i v hv
        simpa [World.cell?,hb] using hl2 σ i v hv) hd (by rw [hrow,hagg]) (by rw [hti.info];simp [vals_length,hl1];omega)
       refine ⟨.a l,h,?_,outr_wf ho⟩
       rw [hid] at hl
       simp only [execOp,Instr.loadAt,h1,SV.val,Instr.sureAddr,Sem.run_bind,Sem.run_pure,Result.andThen_ok,hl]
      ·exact hv h
     ·rename_i hagg
      split at h
      ·rename_i r hr'
       rw [nth_eq] at hr'
       cases cs with
       | nil=>simp at hr'
       | cons c cs =>
         simp at hr'
         subst hr'
         obtain ⟨⟨y,h3,h4,h5⟩,_⟩:=hr
         cases h5
         have hl:=load_one hti hagg (show w.cell? ⟨b,oo,none⟩ = some r by simp [World.cell?,hb,h3])
         rw [hid] at hl
         refine ⟨.v r,h,?_,trivial⟩
         simp only [execOp,Instr.loadAt,h1,SV.val,Instr.sureAddr,Sem.run_bind,Sem.run_pure,Result.andThen_ok,hl]
      ·exact hv h
    ·exact h.elim
   ·exact ValX_spec h (by simp [Op.operands,SV.vals,(ev_spec htm ‹ev tm x=some _›).1]) ⟨(ev_spec htm ‹ev tm x=some _›).2,trivial⟩ hm
   ·exact h.elim
 | fieldAddr t x i =>
   simp only [xval] at h
   split at h
   ·rename_i j off he
    obtain ⟨h1,h2⟩:=ev_spec htm he
    split at h
    ·rename_i ti ht
     obtain ⟨hid,hti⟩:=hT t ti ht
     split at h
     ·rename_i fo fs fa hf
      split at h
      ·exact h.elim
      ·rename_i m
       have h5:=litK_spec h
       have hfl:=hti.fld i fo (m + 1) fa hf (by omega) ⟨σ j,off,none⟩ w
       rw [hid] at hfl
       refine ⟨.p j (off + fo),h5,?_,h2⟩
       simp only [execOp,h1,SV.val,Sem.run_bind,hfl,Result.andThen_ok,Sem.run_pure,Addr.add_mid]
     ·exact h.elim
    ·exact h.elim
   ·rename_i ad he
    obtain ⟨h1,h2⟩:=ev_spec htm he
    split at h
    ·rename_i ti ht
     obtain ⟨hid,hti⟩:=hT t ti ht
     split at h
     ·rename_i fo fs fa hf
      split at h
      ·exact h.elim
      ·rename_i m
       have hfl:=hti.fld i fo (m + 1) fa hf (by omega) ad w
       rw [hid] at hfl
       refine ⟨_,h,?_,trivial⟩
       simp only [execOp,h1,SV.val,Sem.run_bind,hfl,Result.andThen_ok,Sem.run_pure]
     ·exact h.elim
    ·exact h.elim
   ·rename_i j e off sz he
    obtain ⟨h1,h2⟩:=ev_spec htm he
    split at h
    ·rename_i ti ht
     obtain ⟨hid,hti⟩:=hT t ti ht
     split at h
     ·rename_i fo fs fa hf
      split at h
      ·exact h.elim
      ·rename_i m
       have h5:=litK_spec h
       have hfl:=hti.fld i fo (m + 1) fa hf (by omega) ⟨qB (σ j),qO (σ j) + (e * sz + off),none⟩ w
       rw [hid] at hfl
       refine ⟨.sq j e (off + fo) sz,h5,?_,h2⟩
       simp only [execOp,h1,SV.val,Sem.run_bind,hfl,Result.andThen_ok,Sem.run_pure,Addr.add_mid,Nat.add_assoc]
     ·exact h.elim
    ·exact h.elim
   ·rename_i ad cs he
    obtain ⟨h1,h2⟩:=ev_spec htm he
    split at h
    ·rename_i ti ht
     obtain ⟨hid,hti⟩:=hT t ti ht
     split at h
     ·rename_i fo fs fa hf
      split at h
      ·exact h.elim
      ·rename_i m
       rw [force_eq,dropN_eq] at h
       have hfl:=hti.fld i fo (m + 1) fa hf (by omega) ad w
       rw [hid] at hfl
       refine ⟨_,h,?_,h2.drop fo⟩
       simp only [execOp,h1,SV.val,Sem.run_bind,hfl,Result.andThen_ok,Sem.run_pure]
     ·exact h.elim
    ·exact h.elim
   ·exact ValX_spec h (by simp [Op.operands,SV.vals,(ev_spec htm ‹ev tm x=some _›).1]) ⟨(ev_spec htm ‹ev tm x=some _›).2,trivial⟩ hm
   ·exact h.elim
 | nilCheck x =>
   simp only [xval] at h
   split at h
   ·rename_i j off he
    obtain ⟨h1,h2⟩:=ev_spec htm he
    exact ⟨.p j off,h,by simp [execOp,h1,SV.val],h2⟩
   ·rename_i ad he
    obtain ⟨h1,h2⟩:=ev_spec htm he
    exact ⟨_,h,by simp [execOp,h1,SV.val],h2⟩
   ·rename_i j e off sz he
    obtain ⟨h1,h2⟩:=ev_spec htm he
    exact ⟨_,h,by simp [execOp,h1,SV.val],h2⟩
   ·rename_i ad cs he
    obtain ⟨h1,h2⟩:=ev_spec htm he
    exact ⟨_,h,by simp [execOp,h1,SV.val],h2⟩
   ·exact ValX_spec h (by simp [Op.operands,SV.vals,(ev_spec htm ‹ev tm x=some _›).1]) ⟨(ev_spec htm ‹ev tm x=some _›).2,trivial⟩ hm
   ·exact h.elim
 | build t parts =>
   simp only [xval] at h
   split at h
   ·rename_i ti l ht he
    obtain ⟨hid,hti⟩:=hT t ti ht
    obtain ⟨h1,h2⟩:=evs_spec htm he
    split at h
    ·rename_i f0 fs0 hagg hfl
     rw [force_eq] at h
     obtain ⟨cs,hf,h⟩:=fillK_spec h
     have hz:=zip_spec a.eval σ parts.toList l h1
     have hp : ∀ p∈(parts.toList.map (·.1)).zip l,p.2.wf ⟨G,ob.length⟩:=by
      rintro ⟨i,s⟩ hpm
      have:=List.of_mem_zip hpm
      obtain ⟨j,hj⟩:=List.mem_iff_getElem?.1 this.2
      exact wfs_get h2 hj
     obtain ⟨hf1,hf2⟩:=fill_spec σ ⟨G,ob.length⟩ ti.flds _ _ _ hf (wfs_v _ _) hp
     rw [vals_v] at hf1
     have hb:=hti.build hagg (parts.map fun (i,x)=>(i,a.eval x)) _ w (by rw [Array.toList_map,hz];exact hf1)
     rw [hid] at hb
     refine ⟨.a cs,h,?_,hf2⟩
     simp only [execOp,Sem.run_bind,hb,Result.andThen_ok,Sem.run_pure,SV.val]
    ·rw [force_eq] at h
     exact ValX_spec h (by simpa [Op.operands] using h1) h2 hm
   ·exact h.elim
 | extract x i =>
   simp only [xval] at h
   split at h
   ·rename_i l he
    obtain ⟨h1,h2⟩:=ev_spec htm he
    split at h
    ·rename_i r hr'
     rw [nth_eq] at hr'
     refine ⟨r,h,?_,wfs_get h2 hr'⟩
     simp [execOp,Instr.extract,h1,SV.val,vals_get,hr']
    ·exact h.elim
   ·exact h.elim
 | makeFunc fn first cap =>
   cases fn with
   | func f =>
     simp only [xval] at h
     split at h
     ·rename_i l hfi he
      rw [force_eq] at h
      obtain ⟨h1,h2⟩:=evs_spec htm he
      refine ⟨_,h,?_,h2⟩
      have hf : first = #[]:=Array.toList_inj.1 (by simpa using hfi)
      have hargs : (cap.map a.eval)=(SV.vals σ l).toArray:=by
       rw [← h1]
       apply Array.toList_inj.1
       simp
      simp [execOp,Instr.makeFunc,hf,hargs,SV.val]
     ·exact h.elim
   | _=>exact gen h
 | convert s u x =>
   simp only [xval] at h
   split at h
   ·rename_i kd n he
    obtain ⟨h1,h2⟩:=ev_spec htm he
    have hv : ValX C ⟨dst,.convert s u x,ty,pos,after,guard⟩ [.v (.int kd n)] ob k→∃ x,k x∧(execOp a.eval ⟨dst,.convert s u ‹Operand›,ty,pos,after,guard⟩).run C.P w = .ok (.value (x.val σ)) w∧x.wf ⟨G,ob.length⟩ :=
     fun h=>ValX_spec h (by simp [Op.operands,SV.vals,h1]) ⟨h2,trivial⟩ hm
    split at h
    ·rename_i ts ti hs ht
     split at h
     ·rename_i kd' hk
      obtain ⟨hid,hti⟩:=hT u ti ht
      obtain ⟨hid',hti'⟩:=hT s ts hs
      obtain ⟨d,hd,_⟩:=hti'.under
      have hu:=hti.kd3 kd' hk
      rw [hid] at hu
      rw [hid'] at hd
      rw [xcv_iff] at h
      refine ⟨_,h,?_,trivial⟩
      simp only [SV.val] at h1
      simp [execOp,convert,run_underlying hu,run_underlying hd,h1,Conv.intToInt,SV.val]
     ·exact hv h
    ·exact hv h
   ·rename_i y _ he
    rw [force_eq] at h
    exact ValX_spec h (by simp [Op.operands,SV.vals,(ev_spec htm he).1]) ⟨(ev_spec htm he).2,trivial⟩ hm
   ·exact h.elim
 | unOp op t x =>
   simp only [xval] at h
   split at h
   ·rename_i b he
    obtain ⟨h1,h2⟩:=ev_spec htm he
    exact ⟨.v (.bool !b),h,by simp [execOp,Op.unary,h1,SV.val],trivial⟩
   ·rename_i kd n he
    obtain ⟨h1,h2⟩:=ev_spec htm he
    exact ⟨.v (.int kd (kd.wrap (0 - n))),xwr_iff.1 h,by simp [execOp,Op.unary,Op.intArith,h1,SV.val],trivial⟩
   ·exact ValX_spec h (by simp [Op.operands,SV.vals,(ev_spec htm ‹ev tm x=some _›).1]) ⟨(ev_spec htm ‹ev tm x=some _›).2,trivial⟩ hm
   ·exact h.elim
 | binOp op t x y t' =>
   simp only [xval] at h
   split at h
   ·rename_i kd p kd' q he he'
    obtain ⟨h1,_⟩:=ev_spec htm he
    obtain ⟨h2,_⟩:=ev_spec htm he'
    split at h
    ·rename_i hs
     obtain rfl:=sameK_eq hs
     obtain ⟨r,hk,hrun⟩:=binI_spec (C:=C) (w:=w) (o:=⟨dst,.binOp op t x y t',ty,pos,after,guard⟩) rfl h1 h2 h
     exact ⟨.v r,hk,hrun,trivial⟩
    ·split at h
     ·rw [xshr_iff] at h
      exact ⟨_,h.2,shift_spec (C:=C) (w:=w) (o:=⟨dst,.binOp .shr t x y t',ty,pos,after,guard⟩) rfl h1 h2 h.1 (.inl ⟨rfl,rfl⟩),trivial⟩
     ·rw [xshl_iff] at h
      exact ⟨_,h.2,shift_spec (C:=C) (w:=w) (o:=⟨dst,.binOp .shl t x y t',ty,pos,after,guard⟩) rfl h1 h2 h.1 (.inr ⟨rfl,rfl⟩),trivial⟩
     ·exact h.elim
   ·rename_i l m he he'
    obtain ⟨h1,h3⟩:=ev_spec htm he
    obtain ⟨h2,h4⟩:=ev_spec htm he'
    split at h
    ·rename_i ti ht
     obtain ⟨hid,hti⟩:=hT t ti ht
     have hgd:=hti.guard
     rw [hid] at hgd
     have hg : ∀ op,(eqGuard op t x y (SV.val σ (.a l)) (SV.val σ (.a m))).run C.P w = .ok () w:=by
      intro op
      unfold eqGuard
      cases op<;>simp [SV.val,program,hgd,Sem.run]
     split at h
     ·rename_i r hq
      have he:=hti.eq σ l m r hq w
      rw [hid] at he
      refine ⟨.v (.bool r),h,?_,trivial⟩
      have hg':=hg .eql
      simp only [SV.val] at hg' h1 h2
      simp [execOp,h1,h2,hg',binOp,he,SV.val]
     ·rename_i r hq
      have he:=hti.eq σ l m r hq w
      rw [hid] at he
      refine ⟨.v (.bool !r),h,?_,trivial⟩
      have hg':=hg .neq
      simp only [SV.val] at hg' h1 h2
      simp [execOp,h1,h2,hg',binOp,he,SV.val]
     ·exact h.elim
    ·exact h.elim
   ·rename_i b1 b2 he he'
    obtain ⟨h1,_⟩:=ev_spec htm he
    obtain ⟨h2,_⟩:=ev_spec htm he'
    simp only [SV.val] at h1 h2
    split at h
    ·rename_i ti ht
     obtain ⟨hid,hti⟩:=hT t ti ht
     split at h
     ·rename_i hkd
      have hu:=hti.kd1 hkd
      rw [hid] at hu
      refine ⟨_,h,?_,trivial⟩
      have hq : (Op.equal t (.bool b1) (.bool b2)).run C.P w = .ok (b1 == b2) w:=by
       unfold Op.equal Op.maxDepth Op.equalIn
       simp [run_underlying hu]
      simp [execOp,h1,h2,binOp,eqGuard,hq,SV.val]
     ·rename_i hkd
      have hu:=hti.kd1 hkd
      rw [hid] at hu
      refine ⟨_,h,?_,trivial⟩
      have hq : (Op.equal t (.bool b1) (.bool b2)).run C.P w = .ok (b1 == b2) w:=by
       unfold Op.equal Op.maxDepth Op.equalIn
       simp [run_underlying hu]
      simp [execOp,h1,h2,binOp,eqGuard,hq,SV.val]
     ·exact h.elim
    ·exact h.elim
   ·rename_i pa he he'
    obtain ⟨h1,_⟩:=ev_spec htm he
    obtain ⟨h2,_⟩:=ev_spec htm he'
    simp only [SV.val] at h1 h2
    split at h
    ·rename_i ti ht
     obtain ⟨hid,hti⟩:=hT t ti ht
     have hq : ti.kd=2→(Op.equal t (.pointer pa) (.pointer none)).run C.P w = .ok pa.isNone w:=by
      intro hkd
      obtain ⟨e,hu⟩:=hti.kd2 hkd
      rw [hid] at hu
      unfold Op.equal Op.maxDepth Op.equalIn
      cases pa<;>simp [run_underlying hu]
     split at h
     ·rename_i hkd
      refine ⟨_,h,?_,trivial⟩
      simp [execOp,h1,h2,binOp,eqGuard,hq hkd,SV.val]
     ·rename_i hkd
      refine ⟨_,h,?_,trivial⟩
      simp [execOp,h1,h2,binOp,eqGuard,hq hkd,SV.val]
     ·exact h.elim
    ·exact h.elim
   ·rename_i pa na ca nb cb he he'
    obtain ⟨h1,_⟩:=ev_spec htm he
    obtain ⟨h2,_⟩:=ev_spec htm he'
    simp only [SV.val] at h1 h2
    split at h
    ·rename_i ti ht
     obtain ⟨hid,hti⟩:=hT t ti ht
     have hq : ∀ e,ti.el=e + 1→(Op.equal t (.slice pa na ca) (.slice none nb cb)).run C.P w = .ok pa.isNone w:=by
      intro e hel
      have hu:=hti.sl e hel
      rw [hid] at hu
      unfold Op.equal Op.maxDepth Op.equalIn
      cases pa<;>simp [run_underlying hu]
     split at h
     ·rename_i e hel
      refine ⟨_,h,?_,trivial⟩
      simp [execOp,h1,h2,binOp,eqGuard,hq _ hel,SV.val]
     ·rename_i e hel
      refine ⟨_,h,?_,trivial⟩
      simp [execOp,h1,h2,binOp,eqGuard,hq _ hel,SV.val]
     ·exact h.elim
    ·exact h.elim
   ·rename_i j off he he'
    obtain ⟨h1,_⟩:=ev_spec htm he
    obtain ⟨h2,_⟩:=ev_spec htm he'
    simp only [SV.val] at h1 h2
    split at h
    ·rename_i ti ht
     obtain ⟨hid,hti⟩:=hT t ti ht
     have hq : ti.kd=2→(Op.equal t (.pointer (some ⟨σ j,off,none⟩)) (.pointer none)).run C.P w = .ok false w:=by
      intro hkd
      obtain ⟨e,hu⟩:=hti.kd2 hkd
      rw [hid] at hu
      unfold Op.equal Op.maxDepth Op.equalIn
      simp [run_underlying hu]
     split at h
     ·rename_i hkd
      refine ⟨_,h,?_,trivial⟩
      simp [execOp,h1,h2,binOp,eqGuard,hq hkd,SV.val]
     ·rename_i hkd
      refine ⟨_,h,?_,trivial⟩
      simp [execOp,h1,h2,binOp,eqGuard,hq hkd,SV.val]
     ·exact h.elim
    ·exact h.elim
   ·exact ValX_spec h (by simp [Op.operands,SV.vals,(ev_spec htm ‹ev tm x=some _›).1,(ev_spec htm ‹ev tm y=some _›).1]) ⟨(ev_spec htm ‹ev tm x=some _›).2,(ev_spec htm ‹ev tm y=some _›).2,trivial⟩ hm
   ·exact h.elim
 | call c =>
   obtain ⟨callee,args,ats⟩:=c
   cases callee with
   | value f=>exact gen h
   | invoke _ _=>exact gen h
   | builtin b =>
     cases b with
     | len =>
       simp only [xval] at h
       split at h
       ·rename_i q n cp t he ht
        split at h
        ·rename_i ti hl
         split at h
         ·exact h.elim
         ·rename_i e hel
          obtain ⟨hid,hti⟩:=hT t ti hl
          have hu:=hti.sl e hel
          rw [hid] at hu
          obtain ⟨h1,_⟩:=evs_spec htm he
          refine ⟨_,h,?_,trivial⟩
          have hargs : (args.map a.eval) = #[.slice q n cp]:=by
           apply Array.toList_inj.1
           simpa [SV.vals,SV.val] using h1
          have hats : ats = #[t]:=by
           apply Array.toList_inj.1
           simpa using ht
          simp [execOp,resolve,invoke,builtin,hargs,hats,Builtin.len_,SV.val,run_underlying hu,goInt]
        ·exact h.elim
       ·rename_i j p i n sz t he ht
        split at h
        ·rename_i ti hl
         split at h
         ·exact h.elim
         ·rename_i e hel
          obtain ⟨hid,hti⟩:=hT t ti hl
          have hu:=hti.sl e hel
          rw [hid] at hu
          obtain ⟨h1,_⟩:=evs_spec htm he
          refine ⟨_,h,?_,trivial⟩
          have hargs : (args.map a.eval) = #[(SV.sl j p i n sz).val σ]:=by
           apply Array.toList_inj.1
           simpa [SV.vals] using h1
          have hats : ats = #[t]:=by
           apply Array.toList_inj.1
           simpa using ht
          simp [execOp,resolve,invoke,builtin,hargs,hats,Builtin.len_,SV.val,run_underlying hu,goInt]
        ·exact h.elim
       ·rename_i A c sz els t he ht
        split at h
        ·rename_i ti hl
         split at h
         ·exact h.elim
         ·rename_i e hel
          obtain ⟨hid,hti⟩:=hT t ti hl
          have hu:=hti.sl e hel
          rw [hid] at hu
          obtain ⟨h1,_⟩:=evs_spec htm he
          refine ⟨_,h,?_,trivial⟩
          have hargs : (args.map a.eval) = #[(SV.fz A c sz els).val σ]:=by
           apply Array.toList_inj.1
           simpa [SV.vals] using h1
          have hats : ats = #[t]:=by
           apply Array.toList_inj.1
           simpa using ht
          simp [execOp,resolve,invoke,builtin,hargs,hats,Builtin.len_,SV.val,run_underlying hu,goInt]
        ·exact h.elim
       ·rename_i l he _ _ _
        rw [force_eq] at h
        exact ValX_spec h (by simpa [Op.operands,Call.operands] using (evs_spec htm he).1) (evs_spec htm he).2 hm
       ·exact h.elim
     | min =>
       simp only [xval] at h
       split at h
       ·rename_i kd p kd' q he
        obtain ⟨h1,_⟩:=evs_spec htm he
        refine ⟨_,h,?_,trivial⟩
        have hargs : (args.map a.eval) = #[.int kd p,.int kd' q]:=by
         apply Array.toList_inj.1
         simpa [SV.vals,SV.val] using h1
        simp [execOp,resolve,invoke,builtin,hargs,Builtin.min_,Builtin.min2,SV.val]
        omega
       ·rename_i l _ he
        rw [force_eq] at h
        exact ValX_spec h (by simpa [Op.operands,Call.operands] using (evs_spec htm he).1) (evs_spec htm he).2 hm
       ·exact h.elim
     | max =>
       simp only [xval] at h
       split at h
       ·rename_i kd p kd' q he
        obtain ⟨h1,_⟩:=evs_spec htm he
        refine ⟨_,h,?_,trivial⟩
        have hargs : (args.map a.eval) = #[.int kd p,.int kd' q]:=by
         apply Array.toList_inj.1
         simpa [SV.vals,SV.val] using h1
        simp [execOp,resolve,invoke,builtin,hargs,Builtin.max_,Builtin.max2,SV.val]
        omega
       ·rename_i l _ he
        rw [force_eq] at h
        exact ValX_spec h (by simpa [Op.operands,Call.operands] using (evs_spec htm he).1) (evs_spec htm he).2 hm
       ·exact h.elim
     | _=>exact gen h
 | _=>exact gen h
theorem xop_sound (hT : TabOk C.P C.T) {o : Oper} (h : xop C o tm ob k) (hr : Rel C tm ob σ G fp a w)
 (hk : ∀ v w',Goes C ob.length σ G fp w k v w'→next (a.put o.dst v) w') : o.wp C.P a w next Q:=by
 have hm:=hr.mem
 have htm:=hr.tm
 obtain ⟨dst,op,ty,pos,after,guard⟩:=o
 have gen : ∀ (hh : match isVal op with
  | true=>xval C ⟨dst,op,ty,pos,after,guard⟩ tm ob fun x=>k x ob
  | false=>match evs tm op.operands.toList with
    | some l=>force l fun l=>OpX C ⟨dst,op,ty,pos,after,guard⟩ l ob k
    | none=>False),Oper.wp C.P ⟨dst,op,ty,pos,after,guard⟩ a w next Q:=by
  intro hh
  cases hi : isVal op with
  | true =>
    rw [hi] at hh
    obtain ⟨x,h1,h2,h3⟩:=xval_sound hT hh htm hm
    exact wp_value h2 (hk _ _ (Goes.same h1 h3 hm))
  | false =>
    rw [hi] at hh
    cases he : evs tm op.operands.toList with
    | none=>rw [he] at hh;exact hh.elim
    | some l =>
      rw [he] at hh
      simp only [force_eq] at hh
      exact OpX_spec hh (evs_spec htm he).1 (evs_spec htm he).2 hm hk
 cases op with
 | alloc t =>
   simp only [xop] at h
   split at h
   ·rename_i ti ht
    obtain ⟨hid,hti⟩:=hT t ti ht
    obtain ⟨z,hz,hzc⟩:=hti.zero
    rw [hid] at hz
    have hg:=Goes.newBox h (wfs_v _ _) hm
    rw [vals_v] at hg
    refine wp_value ?_ (hk _ _ hg)
    simp only [execOp,Instr.alloc,Sem.run_bind,hz,Result.andThen_ok,newVar,newRow,hzc]
    rfl
   ·exact h.elim
 | box t x =>
   simp only [xop] at h
   split at h
   ·rename_i r he
    obtain ⟨h1,h2⟩:=ev_spec htm he
    refine wp_value ?_ (hk _ _ (Goes.newBox h (cells_wf h2) hm))
    simp only [execOp,Instr.box,newVar,newRow,h1,cells_val]
    rfl
   ·exact h.elim
 | store t x y =>
   simp only [xop] at h
   split at h
   ·rename_i j off r he he'
    obtain ⟨h1,h2⟩:=ev_spec htm he
    obtain ⟨h3,h4⟩:=ev_spec htm he'
    split at h
    ·rename_i ti t' cs ht hb
     obtain ⟨hid,hti⟩:=hT t ti ht
     obtain ⟨hh,hf,hw,hj⟩:=nth_box hm hb
     split at h
     ·rename_i e1 e2 e3
      have e1:=Nat.eq_of_beq_eq_true e1
      have e2:=Nat.le_of_ble_eq_true e2
      simp only [force_eq] at h
      rw [splK_eq _ _ _ _ (by omega)] at h
      rw [setN_eq] at h
      have hst:=run_storeCells_at (P:=C.P) (σ j) off t' (SV.vals σ r.cells) 0 (SV.vals σ cs).toArray w hh (by simp [vals_length];omega) (ones_spec σ e3)
      simp only [Nat.add_zero] at hst
      have hsz : (sizeOf t).run C.P w = .ok ti.zero.length w:=by
       have:=hti.info
       rw [hid] at this
       unfold sizeOf
       cases hq : C.P.info? t with
       | none=>simp [hq] at this
       | some i=>simp [hq] at this;simp [typeInfo,hq,this]
      have hrow:=setRow_heap w (σ j) (SV.vals σ cs).toArray ((SV.vals σ cs).take off ++ SV.vals σ r.cells ++ (SV.vals σ cs).drop (off + (SV.vals σ r.cells).length)).toArray t' (0,0) hh
      have hsz2 : w.heap.size≤(w.setRow (σ j) ((SV.vals σ cs).take off ++ SV.vals σ r.cells ++ (SV.vals σ cs).drop (off + (SV.vals σ r.cells).length)).toArray).heap.size:=by simp [World.setRow]
      have hsame : ∀ i,i < w.heap.size→¬ fp j i→(w.setRow (σ j) ((SV.vals σ cs).take off ++ SV.vals σ r.cells ++ (SV.vals σ cs).drop (off + (SV.vals σ r.cells).length)).toArray).heap[i]? = w.heap[i]?:=by
       intro i hi hni
       have : i ≠ σ j:=fun e=>hni ((hf i).2 e)
       simp [World.setRow,Array.getElem?_modify,this.symm]
      have hM:=hm.change (w':=w.setRow (σ j) ((SV.vals σ cs).take off ++ SV.vals σ r.cells ++ (SV.vals σ cs).drop (off + (SV.vals σ r.cells).length)).toArray) hj (.box t' (cs.take off ++ r.cells ++ cs.drop (off + r.cells.length))) (fp j) ⟨by rw [vals_splice];exact hrow,hf,wfs_splice hw (cells_wf h4) off⟩ (fun i hi=>.inl hi) (by
       intro i hi
       have:=hm.hi j hj i hi
       simpa [World.setRow] using this) rfl rfl rfl hsz2 hsame (fun _=>Nat.le_refl _)
      refine wp_skip' (w':=w.setRow (σ j) ((SV.vals σ cs).take off ++ SV.vals σ r.cells ++ (SV.vals σ cs).drop (off + (SV.vals σ r.cells).length)).toArray) ?_ (hk _ _ ⟨.v undef,_,σ,G,_,h,fun _ _=>rfl,Fz.refl _,by simp,rfl,trivial,hM,Frm.changed hj (by simp) (fun i hi=>.inl hi) hsz2 hsame⟩)
      simp only [execOp,Instr.storeAt,h1,SV.val,Instr.sureAddr,Sem.run_bind,Sem.run_pure,Result.andThen_ok,storeVar,hsz,h3,cells_val,List.size_toArray,vals_length,e1,ne_eq,not_true,if_false,hst]
     ·exact h.elim
    ·exact h.elim
   ·rename_i r s he he' hne
    exact OpX_spec h (by simp [Op.operands,SV.vals,(ev_spec htm ‹ev tm x=some _›).1,(ev_spec htm ‹ev tm y=some _›).1]) ⟨(ev_spec htm ‹ev tm x=some _›).2,(ev_spec htm ‹ev tm y=some _›).2,trivial⟩ hm hk
   ·exact h.elim
 | call c =>
   obtain ⟨callee,args,ats⟩:=c
   cases callee with
   | value f =>
     cases f with
     | func f =>
       simp only [xop] at h
       split at h
       ·rename_i l he
        rw [force_eq] at h
        unfold CallX at h
        obtain ⟨h1,h2⟩:=evs_spec htm he
        have h3:=h σ G fp w hm h2
        have hargs : (args.map a.eval)=(SV.vals σ l).toArray:=by
         rw [← h1]
         apply Array.toList_inj.1
         simp
        unfold Oper.wp
        have hrun : (execOp a.eval ⟨dst,.call ⟨.value (.func f),args,ats⟩,ty,pos,after,guard⟩).run C.P w=(callFunc f (SV.vals σ l).toArray).run C.P w:=by
         simp only [execOp,resolve,Act.eval,Deferred.ofValue,Sem.run_bind,Sem.run_pure,Result.andThen_ok,invoke,hargs,Array.empty_append,Array.append_empty]
        rw [hrun]
        unfold CallsE at h3
        split at h3
        ·rename_i v w' hq
         obtain ⟨v',he,hg⟩:=h3
         cases he
         rw [hq]
         exact hk _ _ hg
        ·rename_i hq
         rw [hq]
         exact h3.mono fun e w'' ⟨v,he,hg⟩=>by subst he;exact hk _ _ hg
        ·exact h3.elim
       ·exact h.elim
     | tmp t =>
       simp only [xop] at h
       have go : ∀ f l,a.eval (.tmp t) = .func (.func f) #[] (SV.vals σ l).toArray→SV.wfs ⟨G,ob.length⟩ l→∀ xs,evs tm args.toList=some xs→CallX C f (xs ++ l) ob k→Oper.wp C.P ⟨dst,.call ⟨.value (.tmp t),args,ats⟩,ty,pos,after,guard⟩ a w next Q:=by
        intro f l hf hl' xs he h
        unfold CallX at h
        obtain ⟨h1,h2⟩:=evs_spec htm he
        have h3:=h σ G fp w hm (wfs_append h2 hl')
        have hargs : (args.map a.eval)=(SV.vals σ xs).toArray:=by
         rw [← h1]
         apply Array.toList_inj.1
         simp
        unfold Oper.wp
        have hrun : (execOp a.eval ⟨dst,.call ⟨.value (.tmp t),args,ats⟩,ty,pos,after,guard⟩).run C.P w=(callFunc f (SV.vals σ (xs ++ l)).toArray).run C.P w:=by
         simp only [execOp,resolve,hf,Deferred.ofValue,Sem.run_bind,Sem.run_pure,Result.andThen_ok,invoke,hargs,Array.empty_append,vals_append]
         rw [← List.append_toArray]
        rw [hrun]
        unfold CallsE at h3
        split at h3
        ·rename_i v w' hq
         obtain ⟨v',he,hg⟩:=h3
         cases he
         rw [hq]
         exact hk _ _ hg
        ·rename_i hq
         rw [hq]
         exact h3.mono fun e w'' ⟨v,he,hg⟩=>by subst he;exact hk _ _ hg
        ·exact h3.elim
       split at h
       ·rename_i f cap l hl he
        rw [forceC_eq] at h
        exact go f cap (by have:=(ev_spec htm (x:=.tmp t) hl).1;rwa [SV.val] at this) (ev_spec htm (x:=.tmp t) hl).2 l he h
       ·rename_i f first cap l hl he
        split at h
        ·rename_i hfi
         rw [force_eq] at h
         refine go f (cap.toList.map .v) ?_ (wfs_v _ _) l he h
         have h1:=(ev_spec htm (x:=.tmp t) hl).1
         rw [SV.val] at h1
         rw [h1,vals_v,show first = #[] from Array.toList_inj.1 (by simpa using hfi)]
        ·exact h.elim
       ·rename_i x l _ _ hl he
        rw [force_eq] at h
        exact OpX_spec h (by
         have h1:=(ev_spec htm (x:=.tmp t) hl).1
         have h2:=(evs_spec htm he).1
         simp [Op.operands,Call.operands,SV.vals,h1,h2]) ⟨(ev_spec htm (x:=.tmp t) hl).2,(evs_spec htm he).2⟩ hm hk
       ·exact h.elim
     | const _=>exact gen h
     | global _=>exact gen h
   | invoke _ _=>exact gen h
   | builtin _=>exact gen h
 | convert t u x =>
   simp only [xop] at h
   split at h
   ·rename_i b he
    exact OpX_spec h (by simp [Op.operands,SV.vals,(ev_spec htm he).1]) ⟨(ev_spec htm he).2,trivial⟩ hm hk
   ·rename_i j b i n sz he
    exact OpX_spec h (by simp [Op.operands,SV.vals,(ev_spec htm he).1]) ⟨(ev_spec htm he).2,trivial⟩ hm hk
   ·exact gen h
 | _=>exact gen h
end
end Go.Proofs.YtkflmidichikjaaGreatDoor.V
namespace Go.Proofs.YtkflmidichikjaaGreatDoor.V
open Go.RowKit
section
variable {C : Ctx} {tm : List (Nat × SV)} {ob : List OB} {σ : Nat → Nat} {G : Fz} {fp : Nat → Nat → Prop} {a : Act} {w : World}
theorem Tm.ext {σ' : Nat → Nat} {n m : Ev} (h : Tm C σ n tm a) (hσ : ∀ j, j < n.n → σ' j = σ j) (hn : n.le m) : Tm C σ' m tm a :=
 ⟨h.size,h.defers,fun t x hx=>⟨by rw [(h.val t x hx).1,SV.val_ext hσ x (h.val t x hx).2],SV.wf_mono hn x (h.val t x hx).2⟩⟩
theorem Tm.put {m : Ev} {d : Nat} {x : SV} (h : Tm C σ m tm a) (hd : d < C.n) (hx : x.wf m) : Tm C σ m ((d, x) :: tm) (a.put (some d) (x.val σ)) := by
 refine ⟨by simp [Act.put,h.size],h.defers,fun t y hy=>?_⟩
 unfold look at hy
 split at hy
 ·rename_i e
  have e:=Nat.eq_of_beq_eq_true e
  simp at hy
  subst e hy
  exact ⟨by simp [Act.put,h.size,hd],hx⟩
 ·rename_i e
  have hne : d ≠ t:=fun e'=>by simp [e'] at e
  have:=h.val t y hy
  refine ⟨?_,this.2⟩
  rw [← this.1]
  simp [Act.put,Array.getElem?_setIfInBounds_ne hne]
theorem putT_spec {n d : Option Nat} {x : SV} {m : Ev} {σ' : Nat → Nat} {k : List (Nat × SV) → Prop} (h : putT C d x tm k) (ht : Tm C σ m tm a) (hx : x.wf m) : ∃ tm', k tm' ∧ Tm C σ m tm' (a.put d (x.val σ)) := by
 unfold putT at h
 cases d with
 | none=>exact ⟨tm,h,ht⟩
 | some d =>
   simp only at h
   split at h
   ·rename_i hd
    exact ⟨_,h,ht.put (Nat.le_of_ble_eq_true hd) hx⟩
   ·exact h.elim
theorem yield_spec {full : List Oper} {j d : Nat} {g : Oper} {b : Bool} (ht : Tm C σ ⟨G, ob.length⟩ tm a) (hg : nth full j = some g) (hd : g.dst = some d) (hl : look tm d = some (.v (.bool b))) : yielded full.toArray a.tmps j = some b := by
 have h1:=(ht.val d _ hl).1
 simp only [SV.val] at h1
 have h2 : a.tmps[d]? = some (.bool b):=by
  cases hq : a.tmps[d]? with
  | none=>simp [hq,undef] at h1
  | some v=>simp [hq] at h1;rw [h1]
 rw [nth_eq] at hg
 simp [yielded,hg,hd,h2]
theorem yield_none {full : List Oper} {j d : Nat} {g : Oper} {l : Array Value} (ht : Tm C σ ⟨G, ob.length⟩ tm a) (hg : nth full j = some g) (hd : g.dst = some d) (hl : look tm d = some (.v (.tuple l))) : yielded full.toArray a.tmps j = none := by
 have h1:=(ht.val d _ hl).1
 simp only [SV.val] at h1
 rw [nth_eq] at hg
 cases hq : a.tmps[d]? with
 | none=>simp [yielded,hg,hd,hq]
 | some v=>simp [hq] at h1;simp [yielded,hg,hd,hq,h1]
theorem Rel.lit (hr : Rel C tm ob σ G fp a w) {d : Nat} {b : Bool} (hl : look tm d = some (.v (.bool b))) : Rel C ((d, .v (.bool b)) :: tm) ob σ G fp a w := by
 refine ⟨⟨hr.tm.size,hr.tm.defers,fun t x hx=>?_⟩,hr.mem⟩
 unfold look at hx
 split at hx
 ·rename_i e
  have e:=Nat.eq_of_beq_eq_true e
  subst e
  simp at hx
  subst hx
  exact hr.tm.val _ _ hl
 ·exact hr.tm.val t x hx
theorem xops_sound (hT : TabOk C.P C.T) {Q : Exit → Act → World → Prop} {full : List Oper} : ∀ {r : List Oper} {tm : List (Nat × SV)} {ob : List OB} {k : List (Nat × SV) → List OB → Prop} {σ : Nat → Nat} {G : Fz} {fp : Nat → Nat → Prop} {a : Act} {w : World},
 xops C full r tm ob k→Rel C tm ob σ G fp a w→(∀ tm ob σ G fp a w,k tm ob→Rel C tm ob σ G fp a w→Q .normal a w)→wpList C.P full.toArray Q r a w
 | [],tm,ob,k,σ,G,fp,a,w,h,hr,hk=>hk _ _ _ _ _ _ _ h hr
 | o :: r,tm,ob,k,σ,G,fp,a,w,h,hr,hk=>by
   have run : ∀ tm,Rel C tm ob σ G fp a w→(xop C o tm ob fun x ob=>putT C o.dst x tm fun tm=>xops C full r tm ob k)→o.wp C.P a w (wpList C.P full.toArray Q r) Q:=by
    intro tm hr hx
    refine xop_sound hT hx hr ?_
    rintro v w' ⟨x,ob',σ',G',fp',hp,hσ,hG,hn,rfl,hw,hm,_⟩
    obtain ⟨tm',h1,h2⟩:=putT_spec (n:=none) (σ':=σ') hp (hr.tm.ext (m:=⟨G',ob'.length⟩) hσ ⟨hG,hn⟩) hw
    exact xops_sound hT h1 ⟨h2,hm⟩ hk
   have skip : ∀ tm,Rel C tm ob σ G fp a w→(putT C o.dst (.v undef) tm fun tm=>xops C full r tm ob k)→wpList C.P full.toArray Q r (a.put o.dst undef) w:=by
    intro tm hr hx
    obtain ⟨tm',h1,h2⟩:=putT_spec (n:=none) (σ':=σ) hx hr.tm (x:=.v undef) trivial
    exact xops_sound hT h1 ⟨h2,hr.mem⟩ hk
   have lit : ∀ d b,look tm d=some (.v (.bool b))→Rel C ((d,.v (.bool b)) :: tm) ob σ G fp a w:=by
    intro d b hl
    refine ⟨⟨hr.tm.size,hr.tm.defers,fun t x hx=>?_⟩,hr.mem⟩
    unfold look at hx
    split at hx
    ·rename_i e
     have e:=Nat.eq_of_beq_eq_true e
     subst e
     simp at hx
     subst hx
     exact hr.tm.val _ _ hl
    ·exact hr.tm.val t x hx
   unfold xops at h
   unfold wpList
   cases hg : o.guard with
   | none =>
     simp only [hg] at h
     rw [if_pos (by simp [Region.wanted,hg])]
     exact .inl (run _ hr h)
   | some jw =>
     obtain ⟨j,want⟩:=jw
     simp only [hg] at h
     split at h
     ·rename_i g hj
      split at h
      ·rename_i d hd
       split at h
       ·rename_i b hl
        have hy:=yield_spec hr.tm hj hd hl
        split at h
        ·rw [xif_iff] at h
         cases b with
         | true=>rw [if_pos (by simp [Region.wanted,hg,hy])];exact .inl (run _ (lit _ _ hl) (h.1 rfl))
         | false=>rw [if_neg (by simp [Region.wanted,hg,hy])];exact skip _ (lit _ _ hl) (h.2 rfl)
        ·rw [xif_iff] at h
         cases b with
         | true=>rw [if_neg (by simp [Region.wanted,hg,hy])];exact skip _ (lit _ _ hl) (h.1 rfl)
         | false=>rw [if_pos (by simp [Region.wanted,hg,hy])];exact .inl (run _ (lit _ _ hl) (h.2 rfl))
       ·rename_i l hl
        have hy:=yield_none hr.tm hj hd hl
        rw [if_neg (by simp [Region.wanted,hg,hy])]
        exact skip _ hr h
       ·exact h.elim
      ·exact h.elim
     ·exact h.elim
theorem xcode_sound (hT : TabOk C.P C.T) : ∀ (c : Code) {tm : List (Nat × SV)} {ob : List OB} {K : Kx} {σ : Nat → Nat} {G : Fz} {fp : Nat → Nat → Prop} {a : Act} {w : World},
 xcode C c tm ob K→Rel C tm ob σ G fp a w→c.wp C.P (post C K) a w:=by
 intro c
 induction c with
 | skip=>intro tm ob K σ G fp a w h hr;exact wp_skip ⟨tm,ob,σ,G,fp,h,hr⟩
 | label l=>intro tm ob K σ G fp a w h hr;exact wp_label ⟨tm,ob,σ,G,fp,h,hr⟩
 | exit i=>intro tm ob K σ G fp a w h hr;exact wp_exit ⟨tm,ob,σ,G,fp,h,hr⟩
 | ret=>intro tm ob K σ G fp a w h hr;exact wp_ret ⟨tm,ob,σ,G,fp,h,hr⟩
 | region id ops draw =>
   intro tm ob K σ G fp a w h hr
   cases draw with
   | true =>
     replace h : DrawX C ops tm ob K:=h
     unfold DrawX at h
     exact h id σ G fp a w hr
   | false =>
     refine wp_region_list ?_
     have:=xops_sound hT (full:=ops.toList) (Q:=post C K) h hr fun tm ob σ G fp a w hk hr=>⟨tm,ob,σ,G,fp,hk,hr⟩
     simpa using this
 | seq x y ihx ihy =>
   intro tm ob K σ G fp a w h hr
   refine wp_seq (wp_mono (ihx h hr) ?_)
   rintro e a' w' ⟨tm',ob',σ',G',fp',hk,hr'⟩
   cases e with
   | normal=>exact ihy hk hr'
   | exit i=>exact ⟨tm',ob',σ',G',fp',hk,hr'⟩
   | ret=>exact ⟨tm',ob',σ',G',fp',hk,hr'⟩
   | goto l=>exact hk.elim
   | panic l=>exact hk.elim
   | outgrown=>exact hk.elim
 | cond c x y ihx ihy =>
   intro tm ob K σ G fp a w h hr
   replace h : condX c (xcode C x) (xcode C y) tm ob K:=h
   unfold condX at h
   split at h
   ·rename_i t he
    rw [xif_iff] at h
    have h1:=(ev_spec hr.tm he).1
    exact wp_cond_split h1 (fun ht=>ihx (h.1 ht) hr) (fun ht=>ihy (h.2 ht) hr)
   ·exact h.elim
 | block id c ih =>
   intro tm ob K σ G fp a w h hr
   refine wp_block (wp_mono (ih h hr) ?_)
   rintro e a' w' ⟨tm',ob',σ',G',fp',hk,hr'⟩
   cases e with
   | normal=>exact ⟨tm',ob',σ',G',fp',hk,hr'⟩
   | exit i =>
     simp only at hk
     show if i=id then post C K .normal a' w' else post C K (.exit i) a' w'
     split at hk
     ·rename_i e
      have e:=Nat.eq_of_beq_eq_true e
      subst e
      rw [if_pos rfl]
      exact ⟨tm',ob',σ',G',fp',hk,hr'⟩
     ·rename_i e
      rw [if_neg (fun e'=>by simp [e'] at e)]
      exact ⟨tm',ob',σ',G',fp',hk,hr'⟩
   | ret=>exact ⟨tm',ob',σ',G',fp',hk,hr'⟩
   | goto l=>exact hk.elim
   | panic l=>exact hk.elim
   | outgrown=>exact hk.elim
 | loop c ih =>
   intro tm ob K σ G fp a w h hr
   replace h : LoopX C c tm ob K:=h
   unfold LoopX at h
   exact h σ G fp a w hr
 | rangeFunc f ps x y _ _=>intro tm ob K σ G fp a w h hr;exact h.elim
 | scope c _=>intro tm ob K σ G fp a w h hr;exact h.elim
 | goto l=>intro tm ob K σ G fp a w h hr;exact h.elim
 | refuse s=>intro tm ob K σ G fp a w h hr;exact h.elim
end
def resX (C : Ctx) (tm : List (Nat × SV)) (ob : List OB) : List ResultVar → Option (List SV)
 | []=>some []
 | .tmp t :: r=>match look tm t,resX C tm ob r with
   | some x,some l=>some (x :: l)
   | _,_=>none
 | .cell t ty :: r=>match look tm t,lookT C.T ty with
   | some (.p j off),some ti=>match nth ob j,resX C tm ob r with
     | some (.box _ cs),some l=>match ti.agg with
       | true=>match Nat.ble (off + ti.zero.length) cs.length with
         | true=>some (.a (cut cs off ti.zero.length) :: l)
         | false=>none
       | false=>match nth cs off with
         | some x=>some (x :: l)
         | none=>none
     | _,_=>none
   | _,_=>none
def resSem (tmps : Array Value) : ResultVar → Sem Value
 | .tmp t=>pure (tmps.getD t undef)
 | .cell a t=>do loadVar t (← asAddr (tmps.getD a undef))
theorem results_eq (fn : Func) (tmps : Array Value) : results fn tmps = (do
 let vs ← fn.results.mapM (resSem tmps)
 pure (if h : vs.size=1 then vs[0] else .tuple vs)):=by
 unfold results
 congr 2
@[irreducible] def Fin (C : Ctx) (R : Ending → World → Prop) (x : SV) (ob : List OB) : Prop := ∀ σ G fp w, Mem C σ G fp ob w → x.wf ⟨G, ob.length⟩ → R (.returned (x.val σ)) w
def forceV (x : SV) (k : SV → Prop) : Prop :=
 match x with
 | .a l=>force l fun l=>k (.a l)
 | .v y=>k (.v y)
 | .p j o=>k (.p j o)
 | .t l=>k (.t l)
 | x=>k x
theorem forceV_eq (x : SV) (k : SV → Prop) : forceV x k = k x := by cases x <;> simp [forceV, force_eq]
def forceVs : List SV → (List SV → Prop) → Prop
 | [],k=>k []
 | x :: r,k=>forceV x fun x=>forceVs r fun r=>k (x :: r)
theorem forceVs_eq : ∀ (l : List SV) (k : List SV → Prop), forceVs l k = k l
 | [],_=>rfl
 | x :: r,k=>by simp [forceVs,forceV_eq,forceVs_eq r]
def finX (C : Ctx) (R : Ending → World → Prop) (rs : List ResultVar) (tm : List (Nat × SV)) (ob : List OB) : Prop :=
 match resX C tm ob rs with
 | some [x]=>forceV x fun x=>Fin C R x ob
 | some l=>forceVs l fun l=>Fin C R (.t l) ob
 | none=>False
def endX (C : Ctx) (R : Ending → World → Prop) (rs : List ResultVar) : Kx := fun e tm ob =>
 match e with
 | .normal=>finX C R rs tm ob
 | .ret=>finX C R rs tm ob
 | _=>False
def argsX : Nat → List SV → List (Nat × SV)
 | _,[]=>[]
 | n,x :: r=>(n,x) :: argsX (n + 1) r
section
variable {C : Ctx} {tm : List (Nat × SV)} {ob : List OB} {σ : Nat → Nat} {G : Fz} {fp : Nat → Nat → Prop} {a : Act} {w : World}
theorem resX_spec (hT : TabOk C.P C.T) (hr : Rel C tm ob σ G fp a w) : ∀ {rs : List ResultVar} {l : List SV}, resX C tm ob rs = some l →
 (rs.mapM (resSem a.tmps)).run C.P w = .ok (SV.vals σ l) w∧SV.wfs ⟨G,ob.length⟩ l
 | [],l,h=>by simp [resX] at h;subst h;exact ⟨by simp [SV.vals],trivial⟩
 | .tmp t :: r,l,h=>by
   unfold resX at h
   split at h
   ·rename_i x m hx hm
    simp at h
    subst h
    obtain ⟨h1,h2⟩:=hr.tm.val t x hx
    obtain ⟨h3,h4⟩:=resX_spec hT hr hm
    refine ⟨?_,h2,h4⟩
    simp only [List.mapM_cons,Sem.run_bind,Sem.run_pure,Result.andThen_ok,h3,h1,SV.vals,resSem]
   ·cases h
 | .cell t ty :: r,l,h=>by
   unfold resX at h
   split at h
   ·rename_i j off ti hx ht
    split at h
    ·rename_i bt cs m hb hm
     obtain ⟨h1,h2⟩:=hr.tm.val t _ hx
     obtain ⟨h3,h4⟩:=resX_spec hT hr hm
     obtain ⟨hid,hti⟩:=hT ty ti ht
     obtain ⟨hh,hf,hw,hj⟩:=nth_box hr.mem hb
     have key : ∀ x : SV,(loadVar ty ⟨σ j,off,none⟩).run C.P w = .ok (x.val σ) w→x.wf ⟨G,ob.length⟩→some (x :: m)=some l→((ResultVar.cell t ty :: r).mapM (resSem a.tmps)).run C.P w = .ok (SV.vals σ l) w∧SV.wfs ⟨G,ob.length⟩ l:=by
      intro x hx hxw hl
      simp at hl
      subst hl
      refine ⟨?_,hxw,h4⟩
      simp only [List.mapM_cons,Sem.run_bind,Sem.run_pure,Result.andThen_ok,h3,h1,SV.vals,SV.val,asAddr,hx,resSem]
     split at h
     ·rename_i hagg
      split at h
      ·rename_i hle
       have hle:=Nat.le_of_ble_eq_true hle
       rw [cut_eq] at h
       obtain ⟨d,hd,hrow⟩:=hti.under
       have hl:=run_loadVar_mid (P:=C.P) w (σ j) off ti.id (((SV.vals σ cs).drop off).take ti.zero.length) d (by
        intro i v hv
        rw [List.getElem?_take] at hv
        split at hv
        ·rw [List.getElem?_drop] at hv
         simpa [World.cell?,hh] using hv
        ·cases hv) hd (by rw [hrow,hagg]) (by rw [hti.info];simp [vals_length];omega)
       rw [hid] at hl
       exact key (.a ((cs.drop off).take ti.zero.length)) (by rw [hl,SV.val,vals_cut]) (wfs_cut hw _ _) h
      ·cases h
     ·rename_i hagg
      split at h
      ·rename_i x hx'
       rw [nth_eq] at hx'
       have hl:=load_one hti hagg (show w.cell? ⟨σ j,off,none⟩ = some (x.val σ) by simp [World.cell?,hh,vals_get,hx'])
       rw [hid] at hl
       exact key _ hl (wfs_get hw hx') h
      ·cases h
    ·cases h
   ·cases h
theorem results_of (fn : Func) (hT : TabOk C.P C.T) (hr : Rel C tm ob σ G fp a w) {l : List SV} (h : resX C tm ob fn.results.toList = some l) :
 (results fn a.tmps).run C.P w = .ok (match l with|[x]=>x.val σ|l=>(SV.t l).val σ) w∧SV.wfs ⟨G,ob.length⟩ l:=by
 obtain ⟨h1,h2⟩:=resX_spec hT hr h
 refine ⟨?_,h2⟩
 rw [results_eq]
 have e : (fn.results.mapM (resSem a.tmps)).run C.P w = .ok (SV.vals σ l).toArray w:=by
  rw [← Array.toArray_toList (xs:=fn.results),List.mapM_toArray]
  simp only [Sem.run_map,h1,Result.andThen_ok]
 simp only [Sem.run_bind]
 rw [e]
 simp only [Result.andThen_ok,Sem.run_pure]
 congr 1
 match l with
 | []=>simp [SV.vals,SV.val]
 | [x]=>simp [SV.vals]
 | x :: y :: r=>simp [SV.vals,SV.val]
theorem finX_spec (fn : Func) (hT : TabOk C.P C.T) (hr : Rel C tm ob σ G fp a w) {R : Ending → World → Prop} (h : finX C R fn.results.toList tm ob) : a.defers = [] ∧ ∃ v, (results fn a.tmps).run C.P w = .ok v w ∧ R (.returned v) w := by
 refine ⟨hr.tm.defers,?_⟩
 unfold finX at h
 cases hl : resX C tm ob fn.results.toList with
 | none=>rw [hl] at h;exact h.elim
 | some l =>
   obtain ⟨h1,h2⟩:=results_of fn hT hr hl
   rw [hl] at h
   refine ⟨_,h1,?_⟩
   match l,h,h2 with
   | [],h,h2=>simp only [forceVs_eq] at h;unfold Fin at h;exact h σ G fp w hr.mem h2
   | [x],h,h2=>simp only [forceV_eq] at h;unfold Fin at h;exact h σ G fp w hr.mem h2.1
   | x :: y :: r,h,h2=>simp only [forceVs_eq] at h;unfold Fin at h;exact h σ G fp w hr.mem h2
theorem look_args {n : Ev} : ∀ (l : List SV) (s t : Nat) (x : SV), SV.wfs n l → look (argsX s l) t = some x → (SV.vals σ l)[t - s]? = some (x.val σ) ∧ s ≤ t ∧ x.wf n
 | [],s,t,x,_,h=>by simp [argsX,look] at h
 | y :: r,s,t,x,hw,h=>by
   unfold argsX look at h
   split at h
   ·rename_i e
    have e:=Nat.eq_of_beq_eq_true e
    simp at h
    subst e h
    exact ⟨by simp [SV.vals],Nat.le_refl _,hw.1⟩
   ·obtain ⟨h1,h2,h3⟩:=look_args r (s + 1) t x hw.2 h
    refine ⟨?_,by omega,h3⟩
    rw [show t - s=(t - (s + 1)) + 1 by omega]
    simpa [SV.vals] using h1
theorem calls_of_x (hT : TabOk C.P C.T) {f : FuncId} {fn : Func} {c : Code} {args : List SV} {R : Ending → World → Prop} (hf : C.P.funcs[f]? = some fn) (hb : fn.body = some c) (hn : fn.ntmps = C.n) (hl : args.length ≤ C.n)
 (hw : SV.wfs ⟨G,ob.length⟩ args) (hm : Mem C σ G fp ob w) (h : xcode C c (argsX 0 args) ob (endX C R fn.results.toList)) : Calls C.P f (SV.vals σ args).toArray w R:=by
 refine calls_of_wp hf hb ?_
 have hr : Rel C (argsX 0 args) ob σ G fp { tmps:=(SV.vals σ args).toArray ++ Array.replicate (fn.ntmps - (SV.vals σ args).toArray.size) undef,defers:=[] } w:=by
  refine ⟨⟨by simp [vals_length,hn];omega,rfl,fun t x hx=>?_⟩,hm⟩
  obtain ⟨h1,_,h3⟩:=look_args (σ:=σ) args 0 t x hw hx
  refine ⟨?_,h3⟩
  simp only [Nat.sub_zero] at h1
  have hlt:=(List.getElem?_eq_some_iff.1 h1).1
  have h4:=(List.getElem?_eq_some_iff.1 h1).2
  simp [Array.getElem?_append,hlt,h4]
 refine wp_mono (xcode_sound hT c h hr) ?_
 rintro e a' w' ⟨tm',ob',σ',G',fp',hk,hr'⟩
 cases e with
 | normal=>exact finX_spec fn hT hr' hk
 | ret=>exact finX_spec fn hT hr' hk
 | exit i=>exact hk.elim
 | goto l=>exact hk.elim
 | panic l=>exact hk.elim
 | outgrown=>exact hk.elim
end
end Go.Proofs.YtkflmidichikjaaGreatDoor.V
namespace Go.Proofs.YtkflmidichikjaaGreatDoor.V
open Go.RowKit
theorem xif_s {b : Bool} {T E : Prop} (h1 : b = true → T) (h2 : b = false → E) : Bool.rec (motive := fun _ => Prop) E T b := by
 cases b
 ·exact h2 rfl
 ·exact h1 rfl
theorem need_i {p : Prop} {k : Unit → Prop} (h1 : p) (h2 : k ()) : need p k := need_iff.2 ⟨h1, h2⟩
theorem xwr_ok {e : Int} {k : Int → Prop} (h1 : -9223372036854775808 ≤ e) (h2 : e ≤ 9223372036854775807) (h : k e) : xwr64 e k := by
 refine ⟨?_⟩
 rw [show IntKind.i64.wrap e=e by rw [IntKind.wrap_i64];omega]
 exact h
theorem xquo_nn {a b : Int} {k : Int → Prop} (h1 : 0 ≤ a) (h2 : 0 < b) (h3 : a ≤ 9223372036854775807) (h : k (a / b)) : xquo64 a b k := by
 refine ⟨?_⟩
 refine ⟨by omega,?_⟩
 have e : a.tdiv b=a / b:=Int.tdiv_eq_ediv_of_nonneg h1
 have l1 : 0≤a / b:=Int.ediv_nonneg h1 (by omega)
 have l2 : a / b≤a:=Int.ediv_le_self b h1
 rw [e,show IntKind.i64.wrap (a / b)=a / b by rw [IntKind.wrap_i64];omega]
 exact h
theorem xquo_ok {a b : Int} {k : Int → Prop} (h1 : -9223372036854775807 ≤ a) (h2 : a ≤ 9223372036854775807) (h3 : b ≠ 0) (h : k (a.tdiv b)) : xquo64 a b k := by
 refine ⟨?_⟩
 refine ⟨h3,?_⟩
 have l1 : (a.tdiv b).natAbs≤a.natAbs:=by rw [Int.natAbs_tdiv];exact Nat.div_le_self _ _
 rw [show IntKind.i64.wrap (a.tdiv b)=a.tdiv b by rw [IntKind.wrap_i64];omega]
 exact h
theorem xrem_nn {a b : Int} {k : Int → Prop} (h1 : 0 ≤ a) (h2 : b ≠ 0) (h : k (a % b)) : xrem64 a b k := by
 refine ⟨?_⟩
 refine ⟨h2,?_⟩
 rw [show a.tmod b=a % b from Int.tmod_eq_emod_of_nonneg h1]
 exact h
theorem xrem_raw {a b : Int} {k : Int → Prop} (h1 : b ≠ 0) (h : k (a.tmod b)) : xrem64 a b k := ⟨⟨h1, h⟩⟩
theorem xshr_lit {kd : IntKind} {a : Int} (n : Nat) {k : Int → Prop} (hn : Nat.ble n kd.bits = true) (h : k (a / ((2 ^ n : Nat) : Int))) : xshr kd a ((n : Nat) : Int) k := by
 refine ⟨by omega,?_⟩
 have hn:=Nat.le_of_ble_eq_true hn
 have e : min ((n : Nat) : Int).toNat kd.bits=n:=by simp;omega
 rw [e,Int.fdiv_eq_ediv_of_nonneg _ (by exact Int.pow_nonneg (by decide))]
 simpa using h
theorem xshr_1 {kd : IntKind} {a : Int} {k : Int → Prop} (h : k (a / 2)) : xshr kd a 1 k := xshr_lit (kd := kd) 1 (by cases kd <;> rfl) h
theorem xshr_32 {a : Int} {k : Int → Prop} (h : k (a / 4294967296)) : xshr .u64 a 32 k := xshr_lit (kd := .u64) 32 rfl h
theorem xcv_i64 {n : Int} {k : Int → Prop} (h1 : -9223372036854775808 ≤ n) (h2 : n ≤ 9223372036854775807) (h : k n) : xcv .i64 n k := by
 refine ⟨?_⟩
 rwa [show IntKind.i64.wrap n=n by rw [IntKind.wrap_i64];omega]
theorem xcv_u64 {n : Int} {k : Int → Prop} (h1 : 0 ≤ n) (h2 : n ≤ 18446744073709551615) (h : k n) : xcv .u64 n k := by
 refine ⟨?_⟩
 rwa [show IntKind.u64.wrap n=n by simp [IntKind.wrap,IntKind.bits,IntKind.signed];omega]
theorem xcv_u8 {n : Int} {k : Int → Prop} (h1 : 0 ≤ n) (h2 : n ≤ 255) (h : k n) : xcv .u8 n k := by
 refine ⟨?_⟩
 rwa [show IntKind.u8.wrap n=n by simp [IntKind.wrap,IntKind.bits,IntKind.signed];omega]
theorem xcv_u32 {n : Int} {k : Int → Prop} (h1 : 0 ≤ n) (h2 : n < 4294967296) (h : k n) : xcv .u32 n k := by
 refine ⟨?_⟩
 rwa [show IntKind.u32.wrap n=n by unfold IntKind.wrap;simp [IntKind.bits,IntKind.signed];omega]
theorem xcv_u32m {n : Int} {k : Int → Prop} (h : k (n % 4294967296)) : xcv .u32 n k := by
 refine ⟨?_⟩
 rwa [show IntKind.u32.wrap n=n % 4294967296 by unfold IntKind.wrap;simp [IntKind.bits,IntKind.signed]]
theorem xcv_u64m {n : Int} {k : Int → Prop} (h : k (n % 18446744073709551616)) : xcv .u64 n k := by
 refine ⟨?_⟩
 rwa [show IntKind.u64.wrap n=n % 18446744073709551616 by unfold IntKind.wrap;simp [IntKind.bits,IntKind.signed]]
theorem xwru_64 {e : Int} {k : Int → Prop} (h1 : 0 ≤ e) (h2 : e < 18446744073709551616) (h : k e) : xwru .u64 e k := by
 refine ⟨?_⟩
 rwa [show IntKind.u64.wrap e=e by unfold IntKind.wrap;simp [IntKind.bits,IntKind.signed];omega]
theorem xwru_32 {e : Int} {k : Int → Prop} (h1 : 0 ≤ e) (h2 : e < 4294967296) (h : k e) : xwru .u32 e k := by
 refine ⟨?_⟩
 rwa [show IntKind.u32.wrap e=e by unfold IntKind.wrap;simp [IntKind.bits,IntKind.signed];omega]
theorem xwru_32m {e : Int} {k : Int → Prop} (h : k (e % 4294967296)) : xwru .u32 e k := by
 refine ⟨?_⟩
 rwa [show IntKind.u32.wrap e=e % 4294967296 by unfold IntKind.wrap;simp [IntKind.bits,IntKind.signed]]
theorem tdiv_le {a b : Int} (h1 : 0 ≤ a) (h2 : 0 < b) : a.tdiv b = a / b ∧ 0 ≤ a / b ∧ a / b ≤ a := by
 refine ⟨Int.tdiv_eq_ediv_of_nonneg h1,Int.ediv_nonneg h1 (by omega),Int.ediv_le_self _ h1⟩
theorem xquou_nn {a b : Int} {k : Int → Prop} (h1 : 0 ≤ a) (h2 : 0 < b) (h3 : a < 18446744073709551616) (h : k (a / b)) : xquou .u64 a b k := by
 obtain ⟨h4,h5,h6⟩:=tdiv_le h1 h2
 refine ⟨by omega,?_⟩
 rw [h4]
 rwa [show IntKind.u64.wrap (a / b)=a / b by unfold IntKind.wrap;simp [IntKind.bits,IntKind.signed];omega]
theorem xremu_nn {a b : Int} {k : Int → Prop} (h1 : 0 ≤ a) (h2 : b ≠ 0) (h : k (a % b)) : xremu a b k := by
 refine ⟨h2,?_⟩
 rwa [Int.tmod_eq_emod_of_nonneg h1]
theorem Entr.of {P : Program} {f : FuncId} {fn : Func} {c : Code} (hf : P.funcs[f]? = some fn) (hname : (fn.name == "runtime.NumGoroutine") = false) (hb : fn.body = some c) : Entr P f := by
 intro args w
 unfold callFunc
 simp only [Sem.run_bind,run_program,Result.andThen_ok,hf,hname,hb,Option.isNone_some,Bool.false_eq_true,if_false]
 rfl
def argsL : List Nat → List SV → List (Nat × SV)
 | m :: ms,x :: r=>(m,x) :: argsL ms r
 | _,_=>[]
theorem argsL_range : ∀ (n s : Nat) (l : List SV), l.length ≤ n → argsL (List.range' s n) l = argsX s l
 | 0,s,[],_=>by simp [argsL,argsX]
 | 0,s,_ :: _,h=>by simp at h
 | n + 1,s,[],_=>by simp [List.range'_succ,argsL,argsX]
 | n + 1,s,x :: l,h=>by simp [List.range'_succ,argsL,argsX,argsL_range n (s + 1) l (by simpa using h)]
theorem argsL_eq {l : List SV} (h : l.length ≤ 300) : argsL lits l = argsX 0 l := by rw [lits_eq, argsL_range _ _ _ h]
theorem wr {e : Int} (h1 : -9223372036854775808 ≤ e) (h2 : e ≤ 9223372036854775807) : IntKind.i64.wrap e = e := by
 rw [IntKind.wrap_i64];omega
abbrev I (n : Int) : SV := .v (.int .i64 n)
abbrev B (b : Bool) : SV := .v (.bool b)
theorem ge_dec (a b : Int) : (a ≥ b) = (b ≤ a) := rfl
theorem gt_dec (a b : Int) : (a > b) = (b < a) := rfl
theorem hbS : type_of% @wr ∧ type_of% @ge_dec ∧ type_of% @gt_dec ∧ type_of% @decide_eq_true_eq ∧ type_of% @decide_eq_false_iff_not ∧ type_of% @beq_iff_eq.{0} ∧ type_of% @bne_iff_ne.{0} ∧ type_of% @beq_eq_false_iff_ne.{0} ∧ type_of% @bne_eq_false_iff_eq.{0} ∧ type_of% @Bool.not_eq_true' ∧ type_of% @Bool.not_eq_false' ∧ type_of% @Bool.and_eq_true ∧ type_of% @Bool.or_eq_true ∧ type_of% @Bool.not_not ∧ type_of% @ne_eq.{1} ∧ type_of% @Decidable.not_not ∧ type_of% @Int.not_le ∧ type_of% @Int.not_lt ∧ type_of% @Int.toNat_natCast ∧ type_of% not_true_eq_false ∧ type_of% @eq_self.{1} ∧ type_of% Bool.not_true ∧ type_of% Bool.not_false ∧ type_of% Bool.true_eq_false ∧ type_of% Bool.false_eq_true :=
 ⟨@wr,@ge_dec,@gt_dec,@decide_eq_true_eq,@decide_eq_false_iff_not,@beq_iff_eq.{0},@bne_iff_ne.{0},@beq_eq_false_iff_ne.{0},@bne_eq_false_iff_eq.{0},@Bool.not_eq_true',@Bool.not_eq_false',@Bool.and_eq_true,@Bool.or_eq_true,@Bool.not_not,@ne_eq.{1},@Decidable.not_not,@Int.not_le,@Int.not_lt,@Int.toNat_natCast,not_true_eq_false,@eq_self.{1},Bool.not_true,Bool.not_false,Bool.true_eq_false,Bool.false_eq_true⟩
end Go.Proofs.YtkflmidichikjaaGreatDoor.V
end
