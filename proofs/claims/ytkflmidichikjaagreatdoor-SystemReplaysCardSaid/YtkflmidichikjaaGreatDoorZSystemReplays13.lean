import Derived.Test.YtkflmidichikjaaGreatDoorZSystemReplays10
import Derived.Test.YtkflmidichikjaaGreatDoorZSystemReplays12
set_option linter.all false
section
namespace Go.Proofs.YtkflmidichikjaaGreatDoor.V
open Go.RowKit
class CFc (f : FuncId) (al : outParam Bool) (args : List SV) (pre : outParam Prop) (r : outParam SV) (os : outParam (List OB)) : Prop where
 out : pre→CF Tryz.prog f al args r os
theorem CallX_i {C : Ctx} {f : FuncId} {args : List SV} {ob : List OB} {k : SV → List OB → Prop} {al : Bool} {pre : Prop} {r : SV} {os : List OB} [h : CFc f al args pre r os] (hk : retM ob [] r os k) (hp : pre) (hP : C.P = Tryz.prog := by rfl) (hd : C.d = false := by rfl) : CallX C f args ob k :=
 CallX_cf (by rw [hP];exact h.out hp) hk hd
theorem CallB_i {C : Ctx} {f : FuncId} {args : List SV} {ob : List OB} {k : SV → List OB → Prop} {pre : Prop} {r : SV} {os : List OB} [h : CFc f false args pre r os] (hk : retM ob [] r os k) (hp : pre) (hP : C.P = Tryz.prog := by rfl) (hd : C.d = false := by rfl) : CallB C f args ob k :=
 CallB_cf (by rw [hP];exact h.out hp) hk hd
class CMp (f : FuncId) (ι : outParam Type) (al : outParam Bool) (args0 : outParam (ι → List SV)) (os0 : outParam (ι → List OB)) (pre : outParam (ι → Prop)) (x : outParam (ι → SV)) (os1 : outParam (ι → List OB)) : Prop where
 out : ∀ i,pre i→CM Tryz.prog f al (args0 i) (os0 i) (fun _ : Unit=>x i) (fun _=>os1 i)
def fVs0 (a b : List SV) : List Nat → List Nat
 | []=>[]
 | x :: l=>fVs a b (x :: l)
theorem CallX_mp {C : Ctx} {f : FuncId} {args : List SV} {ob : List OB} {k : SV → List OB → Prop} {ι : Type} {al : Bool} {args0 : ι → List SV} {os0 : ι → List OB} {pre : ι → Prop} {x : ι → SV} {os1 : ι → List OB} [h : CMp f ι al args0 os0 pre x os1] (i : ι)
 (hk : force (fO ob lits (os0 i) (fVs0 (args0 i) args (idL lits (os0 i)))) fun r=>(args=SV.rens r (args0 i)∧nthL ob r=some (rnOs r (os0 i)))∧pre i∧(nmOB (os0 i).length (os0 i) && nodupB r)=true∧retM ob r (x i) (os1 i) k) (hP : C.P=Tryz.prog:=by rfl) (hd : C.d=false:=by rfl) : CallX C f args ob k:=by
 rw [force_eq] at hk
 obtain ⟨⟨h1,h2⟩,h3,h4,h5⟩:=hk
 simp only [Bool.and_eq_true] at h4
 exact CallX_m (by rw [hP];exact h.out i h3) _ h1 (entO_of h2 h4.1) (nodupB_spec h4.2) (fun _=>h5) hd
class AR (f : FuncId) (n : outParam Nat) : Prop where
 out : True
class AQ (f : FuncId) (n : outParam Nat) : Prop where
 out : True
theorem AR_has {n : Nat} {C : Ctx} {f : FuncId} {args : List SV} {ob : List OB} {k : SV → List OB → Prop} [AR f n] (h : CallX C f args ob k) : CallX C f args ob k := h
theorem AQ_has {n : Nat} {C : Ctx} {f : FuncId} {args : List SV} {ob : List OB} {k : SV → List OB → Prop} [AQ f n] (h : CallX C f args ob k) : CallX C f args ob k := h
theorem AR_chk (n : Nat) {C : Ctx} {f : FuncId} {args : List SV} {ob : List OB} {k : SV → List OB → Prop} [AR f n] (h : CallX C f args ob k) : CallX C f args ob k := h
theorem AQ_chk (n : Nat) {C : Ctx} {f : FuncId} {args : List SV} {ob : List OB} {k : SV → List OB → Prop} [AQ f n] (h : CallX C f args ob k) : CallX C f args ob k := h
theorem xwr_a {e : Int} {k : Int → Prop} (h : k e) (h1 : -9223372036854775808 ≤ e := by omega) (h2 : e ≤ 9223372036854775807 := by omega) : xwr64 e k := xwr_ok h1 h2 h
theorem xquo_a {a b : Int} {k : Int → Prop} (h : k (a / b)) (h1 : 0 ≤ a := by omega) (h2 : 0 < b := by omega) (h3 : a ≤ 9223372036854775807 := by omega) : xquo64 a b k := xquo_nn h1 h2 h3 h
theorem xquo_b {a b : Int} {k : Int → Prop} (h : k (a.tdiv b)) (h1 : -9223372036854775807 ≤ a := by omega) (h2 : a ≤ 9223372036854775807 := by omega) (h3 : b ≠ 0 := by omega) : xquo64 a b k := xquo_ok h1 h2 h3 h
theorem xrem_a {a b : Int} {k : Int → Prop} (h : k (a % b)) (h1 : 0 ≤ a := by omega) (h2 : b ≠ 0 := by omega) : xrem64 a b k := xrem_nn h1 h2 h
theorem xrem_b {a b : Int} {k : Int → Prop} (h : k (a.tmod b)) (h1 : b ≠ 0 := by omega) : xrem64 a b k := xrem_raw h1 h
theorem xshr_6 {kd : IntKind} {a : Int} {k : Int → Prop} (h : k (a / 64)) : xshr kd a 6 k := xshr_lit (kd := kd) 6 (by cases kd <;> rfl) h
theorem xshr_7 {a : Int} {k : Int → Prop} (h : k (a / 128)) : xshr .u64 a 7 k := xshr_lit (kd := .u64) 7 rfl h
theorem xshr_8 {a : Int} {k : Int → Prop} (h : k (a / 256)) : xshr .u32 a 8 k := xshr_lit (kd := .u32) 8 rfl h
theorem xshr_63 {a : Int} {k : Int → Prop} (h : k (a / 9223372036854775808)) : xshr .i64 a 63 k := xshr_lit (kd := .i64) 63 rfl h
theorem xcv_u8m {n : Int} {k : Int → Prop} (h : k (n % 256)) : xcv .u8 n k := by
 refine ⟨?_⟩
 rwa [show IntKind.u8.wrap n=n % 256 by unfold IntKind.wrap;simp [IntKind.bits,IntKind.signed]]
theorem xshl_1u {n : Int} {k : Int → Prop} (h : k ((n * 2) % 18446744073709551616)) : xshl .u64 n 1 k := by
 refine ⟨by omega,?_⟩
 rwa [show IntKind.u64.wrap (n * 2 ^ min (1 : Int).toNat IntKind.u64.bits)=(n * 2) % 18446744073709551616 by unfold IntKind.wrap;simp [IntKind.bits,IntKind.signed]]
theorem xshl_0u {n : Int} {k : Int → Prop} (h : k (n % 18446744073709551616)) : xshl .u64 n 0 k := by
 refine ⟨by omega,?_⟩
 rwa [show IntKind.u64.wrap (n * 2 ^ min (0 : Int).toNat IntKind.u64.bits)=n % 18446744073709551616 by unfold IntKind.wrap;simp [IntKind.bits,IntKind.signed]]
theorem xshl_7u {n : Int} {k : Int → Prop} (h : k ((n * 128) % 18446744073709551616)) : xshl .u64 n 7 k := by
 refine ⟨by omega,?_⟩
 rwa [show IntKind.u64.wrap (n * 2 ^ min (7 : Int).toNat IntKind.u64.bits)=(n * 128) % 18446744073709551616 by unfold IntKind.wrap;simp [IntKind.bits,IntKind.signed]]
theorem ValX_cpl {C : Ctx} {ob : List OB} {o : Oper} {t : TypeId} {x : Operand} {n : Int} {k : SV → Prop} (ho : o.op = .unOp .xor t x) (hk : k (.v (.int .u32 (bits .xor .u32 4294967295 n)))) : ValX C o [.v (.int .u32 n)] ob k := by
 unfold ValX
 intro σ G fp w ρ hm hw hx
 obtain ⟨dst,op,ty,pos,after,guard⟩:=o
 simp only at ho
 subst ho
 simp [Op.operands,SV.vals,SV.val] at hx
 exact ⟨_,hk,by simp [execOp,Op.unary,Op.intBits,hx,SV.val,IntKind.signed,IntKind.max,IntKind.bits,bits],trivial⟩
theorem and255 (n : Int) : bits .and .i64 n 255 = n % 256 := by
 have h3 : (BitVec.ofInt 64 255).toNat=2 ^ 8 - 1:=by decide
 have key : (BitVec.ofInt 64 n &&& BitVec.ofInt 64 255).toNat=(n % ((2 ^ 64 : Nat) : Int)).toNat % 2 ^ 8:=by
  rw [BitVec.toNat_and,BitVec.toNat_ofInt,h3,Nat.and_two_pow_sub_one_eq_mod]
 show IntKind.i64.wrap ((BitVec.ofInt 64 n &&& BitVec.ofInt 64 255).toNat : Nat)=n % 256
 rw [key,IntKind.wrap_i64]
 omega
class TyEnc (t : TypeId) (α : outParam Type) (enc : outParam (α → List Value)) : Prop where
 out : True
section
variable {C : Ctx} {ob : List OB} {e sz n c : Nat} {A : Option Addr} {els : List (List DV)}
theorem OpX_build_a {α : Type} {enc : α → List Value} {ys : List α} {o : Oper} {t : TypeId} {len : Nat} {parts : Array (Nat × Operand)} {k : SV → List OB → Prop} {te : TI} {rs : List SV} (hT : TabOk C.P C.T) (ho : o.op = .buildSlice t len parts) [TyEnc t α enc] [hv : DecL enc rs ys]
 (hs : slInfo C t=some (e,sz)) (hte : lookT C.T e=some te) (hk : force (ob ++ [.row false e sz (fl enc ys)]) fun ob'=>lenK lits ob (fun q=>k (.sl q 0 0 len sz) ob') False)
 (hchk : (idxP 0 parts.toList && Nat.beq parts.toList.length len && szF enc sz ys && ones ((ys.map enc).flatten.map .v) && Nat.ble (len * sz) 16777216 && Nat.ble 1 (len * sz))=true) : OpX C o rs ob k:=OpX_build hT ho hs hte hchk hk
theorem OpX_build0_a {α : Type} {enc : α → List Value} {o : Oper} {t : TypeId} {parts : Array (Nat × Operand)} {k : SV → List OB → Prop} (hT : TabOk C.P C.T) (ho : o.op = .buildSlice t 0 parts) [TyEnc t α enc] (hp : parts.toList = [])
 (hs : slInfo C t=some (e,sz)) (hk : force (ob ++ [.row false e sz (fl enc [])]) fun ob'=>lenK lits ob (fun q=>k (.sl q 0 0 0 sz) ob') False) : OpX C o [] ob k:=OpX_build0 enc hT ho hp hs hk
theorem OpX_make_a {α : Type} [Inhabited α] {enc : α → List Value} {o : Oper} {t : TypeId} {x y : Operand} {m : Int} {k : SV → List OB → Prop} {te : TI} (hT : TabOk C.P C.T) (ho : o.op = .makeSlice t x y) [TyEnc t α enc]
 (hs : slInfo C t=some (e,sz)) (hte : lookT C.T e=some te) (hk : force (ob ++ [.row false e sz (fl enc (List.replicate m.toNat default))]) fun ob'=>lenK lits ob (fun q=>k (.sl q 0 0 m.toNat sz) ob') False) (ha : te.zero=enc default) (hone : (ones (te.zero.map .v) && Nat.ble 1 sz)=true) (h0 : 0≤m) (hn : te.byt * m.toNat≤140737488355328) (hn' : m.toNat * sz≤16777216)
 (hd : C.d=false:=by rfl) : OpX C o [.v (.int .i64 m),.v (.int .i64 m)] ob k:=OpX_make hT ho hs hte ha hone h0 hn hn' hk hd
theorem OpX_nil_a {α : Type} {enc : α → List Value} {o : Oper} {t : TypeId} {x y : Operand} {xs : List SV} {k : SV → List OB → Prop} (ho : o.op = .call ⟨.builtin .append, #[x, y], #[t, t]⟩) [TyEnc t α enc] (hs : slInfo C t = some (e, sz))
 (hk : force (ob ++ [.row false e sz (fl enc [])]) fun ob'=>lenK lits ob (fun m=>OpX C o (.sl m 0 0 0 sz :: xs) ob' k) False) : OpX C o (.v (.slice none 0 0) :: xs) ob k:=OpX_nil e sz hk
end
class Bnd (p : Bool) (P : outParam Prop) : Prop where
 out : p=true→P
theorem bnd {p : Bool} {P : Prop} [h : Bnd p P] (e : p = true) : P := h.out e
theorem cfl {p : Bool} (h : p = false) (h' : p = true) : False := by rw [h] at h'; cases h'
theorem zSd {G : Prop} (h : G := by first|omega|(simp only [fl_len, List.length_set, List.length_append, List.length_replicate, List.length_cons, List.length_nil, List.length_take, List.length_drop];omega)|(dsimp only;omega)|(dsimp only;simp only [fl_len, List.length_set, List.length_append, List.length_replicate, List.length_cons, List.length_nil, List.length_take, List.length_drop];omega)) : G := h
theorem zSi {G : Prop} (h : G := by first|trivial|omega|assumption|((repeat' apply And.intro)<;>first|omega|assumption|trivial|(simp [SV.nms,SV.nm];done))|(simp only [fl_len, List.length_set, List.length_append, List.length_replicate, List.length_cons, List.length_nil, List.length_take, List.length_drop];omega)|(apply_assumption<;>omega)) : G := h
theorem zLn {G : Prop} (h : G := by first|exact fl_len _ _|exact (fl_len _ _).symm|rfl) : G := h
theorem zSe {G : Prop} (h : G := by first|exact Sees.allF rfl zSd|exact Sees.rowF rfl zSd|exact Sees.fzF|exact Sees.nilF) : G := h
theorem zCl {G : Prop} (h : G := by (first|((simp only [SV.ren,SV.rens,rnOs,OB.rnB,nthL,nth,↓reduceIte,cond_true,cond_false,not_true_eq_false,not_false_eq_true,false_and,and_false,false_or,or_false,true_and,and_true,true_or,or_true,reduceCtorEq,List.getD_cons_zero,List.getD_cons_succ,List.length_nil,fl_nil,fl_len, *]);done)|((simp (disch:=omega) only [if_pos,if_neg,SV.ren,SV.rens,rnOs,OB.rnB,nthL,nth,↓reduceIte,cond_true,cond_false,not_true_eq_false,not_false_eq_true,false_and,and_false,false_or,or_false,true_and,and_true,true_or,or_true,reduceCtorEq,List.getD_cons_zero,List.getD_cons_succ,List.length_nil,fl_nil,fl_len, *]);done)|(simp [SV.ren,SV.rens,rnOs,OB.rnB,nthL,nth,fl_len,fl_nil, *];done)|(simp [SV.ren,SV.rens, *];omega)|(simp (disch:=first|omega|assumption) [SV.ren,SV.rens,if_pos,if_neg, *];done)|(simp (disch:=first|omega|assumption) only [SV.ren,SV.rens,if_pos,if_neg];rfl)|(simp (disch:=first|omega|assumption) [SV.ren,SV.rens,if_pos,if_neg, *];omega))) : G := h
theorem run {G : Prop} (h : G := by ((conv=>whnf);repeat' (first|with_reducible exact trivial|with_reducible exact Unit.unit|((first |(with_reducible show xwr64 _ _);refine xwr_a ?_ |(with_reducible show CallX _ _ _ _ _);(first|refine CallX_i ?_ zSi|(refine AQ_has ?_;(first|(refine AQ_chk 1 ?_;apply CallX_mp (_);(conv=>whnf);refine ⟨⟨rfl,rfl⟩,zSi,by kernel_rfl,?_⟩)|(refine AQ_chk 2 ?_;apply CallX_mp (_, _);(conv=>whnf);refine ⟨⟨rfl,rfl⟩,zSi,by kernel_rfl,?_⟩)|(refine AQ_chk 3 ?_;apply CallX_mp (_, _, _);(conv=>whnf);refine ⟨⟨rfl,rfl⟩,zSi,by kernel_rfl,?_⟩)|(refine AQ_chk 4 ?_;apply CallX_mp (_, _, _, _);(conv=>whnf);refine ⟨⟨rfl,rfl⟩,zSi,by kernel_rfl,?_⟩)|(refine AQ_chk 5 ?_;apply CallX_mp (_, _, _, _, _);(conv=>whnf);refine ⟨⟨rfl,rfl⟩,zSi,by kernel_rfl,?_⟩)|(refine AQ_chk 6 ?_;apply CallX_mp (_, _, _, _, _, _);(conv=>whnf);refine ⟨⟨rfl,rfl⟩,zSi,by kernel_rfl,?_⟩)|(refine AQ_chk 7 ?_;apply CallX_mp (_, _, _, _, _, _, _);(conv=>whnf);refine ⟨⟨rfl,rfl⟩,zSi,by kernel_rfl,?_⟩)|(refine AQ_chk 8 ?_;apply CallX_mp (_, _, _, _, _, _, _, _);(conv=>whnf);refine ⟨⟨rfl,rfl⟩,zSi,by kernel_rfl,?_⟩)|(refine AQ_chk 9 ?_;apply CallX_mp (_, _, _, _, _, _, _, _, _);(conv=>whnf);refine ⟨⟨rfl,rfl⟩,zSi,by kernel_rfl,?_⟩)|(refine AQ_chk 10 ?_;apply CallX_mp (_, _, _, _, _, _, _, _, _, _);(conv=>whnf);refine ⟨⟨rfl,rfl⟩,zSi,by kernel_rfl,?_⟩)|(refine AQ_chk 11 ?_;apply CallX_mp (_, _, _, _, _, _, _, _, _, _, _);(conv=>whnf);refine ⟨⟨rfl,rfl⟩,zSi,by kernel_rfl,?_⟩)|(refine AQ_chk 12 ?_;apply CallX_mp (_, _, _, _, _, _, _, _, _, _, _, _);(conv=>whnf);refine ⟨⟨rfl,rfl⟩,zSi,by kernel_rfl,?_⟩)))|(refine CallX_v fun φ => ?_;(conv=>whnf);(repeat ((with_reducible show ViewE _ _ _ _);(first|refine view_w zLn ?_|refine view_pf zSd ?_|refine view_p zSd ?_);(conv=>whnf)));(with_reducible show CallB _ _ _ _ _);refine CallB_i ?_ zSi)) |(with_reducible show CallB _ _ _ _ _);(with_reducible show CallB _ _ _ _ _);refine CallB_i ?_ zSi |(with_reducible show ValX _ _ _ _ _);(first|refine ValX_idxF tabOk rfl rfl zSd zSd ?_|refine ValX_idxS tabOk rfl rfl rfl zLn zSd zSd zSd ?_|refine ValX_loadF tabOk rfl rfl rfl rfl rfl zSd ?_|refine ValX_loadQ tabOk rfl rfl rfl rfl rfl rfl ?_|refine ValX_sl1 tabOk rfl rfl rfl zLn zSd zSd ?_|refine ValX_slLo tabOk rfl rfl rfl zLn zSd zSd zSd ?_|refine ValX_slHi tabOk rfl rfl rfl zLn zSd zSd zSd ?_|refine ValX_max3 rfl ?_|refine ValX_cpl rfl ?_|refine ValX_fzNil tabOk rfl rfl rfl (fun hb=>?_) ?_|refine ValX_bldA rfl rfl ?_ (fun w => by kernel_rfl)|refine ValX_bldB rfl rfl ?_ (fun w => by kernel_rfl)|refine ValX_ixA1 rfl rfl rfl rfl ?_ (fun w => by kernel_rfl)|refine ValX_ixA2 rfl rfl rfl rfl ?_ (fun w => by kernel_rfl)) |(with_reducible show OpX _ _ _ _ _);(first|refine OpX_storeF tabOk rfl rfl rfl (by rfl) (by rfl) zSd ?_|refine OpX_appF tabOk rfl rfl zLn rfl rfl zSe rfl zSd zSd ?_|refine OpX_appP tabOk rfl rfl rfl rfl zSe rfl zSd zSd zSd zSd ?_|refine OpX_build_a tabOk rfl rfl rfl ?_ (by rfl)|refine OpX_make_a tabOk rfl rfl rfl ?_ (by rfl) (by rfl) zSd zSd zSd|refine OpX_build0_a tabOk rfl rfl rfl ?_|refine OpX_nil_a rfl rfl ?_) |(with_reducible show DrawX _ _ _ _ _);refine DrawX_s tabOk folOk ?_ |(with_reducible show DrawS _ _ _ _ _ _ _);refine DrawS_i (by kernel_rfl) ?_ |(with_reducible show ViewE _ _ _ _);(first|refine view_w zLn ?_|refine view_pf zSd ?_|refine view_p zSd ?_) |(with_reducible show xquo64 _ _ _);(first|refine xquo_a ?_|refine xquo_b ?_) |(with_reducible show xrem64 _ _ _);(first|refine xrem_a ?_|refine xrem_b ?_) |(with_reducible show xshr _ _ _ _);(first|refine xshr_1 ?_|refine xshr_32 ?_|refine xshr_6 ?_|refine xshr_7 ?_|refine xshr_8 ?_|refine xshr_63 ?_) |(with_reducible show xshl _ _ _ _);(first|refine xshl_1u ?_|refine xshl_0u ?_|refine xshl_7u ?_) |(with_reducible show andX _ _);refine andX_i ?_ ?_ |(with_reducible show need _ _);refine need_i zSd ?_ |(with_reducible show xwru _ _ _);(first|refine xwru_64 (by omega) (by omega) ?_|refine xwru_32 (by omega) (by omega) ?_|refine xwru_32m ?_) |(with_reducible show xquou _ _ _ _);refine xquou_nn (by omega) (by omega) (by omega) ?_ |(with_reducible show xremu _ _ _);refine xremu_nn (by omega) (by omega) ?_ |(with_reducible show xcv _ _ _);(first|refine xcv_i64 (by omega) (by omega) ?_|refine xcv_u8 (by omega) (by omega) ?_|refine xcv_u32 (by omega) (by omega) ?_|refine xcv_u64 (by omega) (by omega) ?_|refine xcv_u8m ?_|refine xcv_u32m ?_|refine xcv_u64m ?_))<;>conv=>whnf)|((with_reducible show _=_);rfl)|((with_reducible refine xif_s ?_ ?_)<;>(intro hb;((try simp (disch:=omega) only [hbS,fl_len] at hb);(try have hb:=bnd hb))<;>first|(exfalso;omega)|(exact (cfl hb (by with_reducible assumption)).elim)|(exact (cfl (by with_reducible assumption) hb).elim)|conv=>whnf))));(repeat' ((refine Fin_j () ?_;(conv=>whnf);refine ⟨?_,?_,?_,?_⟩)<;>try first|rfl|exact trivial|((simp only [OB.flats,flatD_fl,and_self]);done)|(first|exact zCl|(subst_vars;exact zCl))))) : G := h
structure Hold (L : Prop) : Prop where
 out : L
theorem rnd {C : Ctx} {α : Type} {J : α → Prop} {It : α → List (Nat × SV)} {Io : α → List OB} {μ : α → Nat} {x : α} {tm : List (Nat × SV)} {ob : List OB} (y : α) (hj : J y) (hμ : μ y < μ x := by first|omega|(simp;omega)|(simp;done))
 (h1 : lookL tm (It y)=some (renTs (fO ob lits (Io y) (fT0 tm (It y) (idL lits (Io y)))) (It y)):=by kernel_rfl) (h2 : nthL ob (fO ob lits (Io y) (fT0 tm (It y) (idL lits (Io y))))=some (rnOs (fO ob lits (Io y) (fT0 tm (It y) (idL lits (Io y)))) (Io y)):=by kernel_rfl)
 (h3 : (nmTB (Io y).length (It y) && nmOB (Io y).length (Io y) && nodupB (fO ob lits (Io y) (fT0 tm (It y) (idL lits (Io y)))) && pinB C.m 0 (fO ob lits (Io y) (fT0 tm (It y) (idL lits (Io y)))))=true:=by kernel_rfl) : RoundE C J It Io μ x tm ob:=round_k y hj hμ h1 h2 h3
theorem ent0 {G : Prop} (h : G := by (((conv=>whnf);repeat' (apply And.intro))<;>(try first|exact trivial|rfl|assumption|decide|(simp [SV.ren,SV.rens,SV.nm,SV.nms,rens_clean,fl_len, *];done)|(simp [SV.ren,SV.rens, *];omega)))) : G := h
theorem a1 {L1 : Prop} (h1 : L1) : L1 ∧ True := ⟨h1, trivial⟩
theorem a2 {L1 L2 : Prop} (h1 : L1) (h2 : L2) : L1 ∧ L2 ∧ True := ⟨h1, h2, trivial⟩
theorem a3 {L1 L2 L3 : Prop} (h1 : L1) (h2 : L2) (h3 : L3) : L1 ∧ L2 ∧ L3 ∧ True := ⟨h1, h2, h3, trivial⟩
theorem a4 {L1 L2 L3 L4 : Prop} (h1 : L1) (h2 : L2) (h3 : L3) (h4 : L4) : L1 ∧ L2 ∧ L3 ∧ L4 ∧ True := ⟨h1, h2, h3, h4, trivial⟩
theorem a5 {L1 L2 L3 L4 L5 : Prop} (h1 : L1) (h2 : L2) (h3 : L3) (h4 : L4) (h5 : L5) : L1 ∧ L2 ∧ L3 ∧ L4 ∧ L5 ∧ True := ⟨h1, h2, h3, h4, h5, trivial⟩
theorem a6 {L1 L2 L3 L4 L5 L6 : Prop} (h1 : L1) (h2 : L2) (h3 : L3) (h4 : L4) (h5 : L5) (h6 : L6) : L1 ∧ L2 ∧ L3 ∧ L4 ∧ L5 ∧ L6 ∧ True := ⟨h1, h2, h3, h4, h5, h6, trivial⟩
theorem a7 {L1 L2 L3 L4 L5 L6 L7 : Prop} (h1 : L1) (h2 : L2) (h3 : L3) (h4 : L4) (h5 : L5) (h6 : L6) (h7 : L7) : L1 ∧ L2 ∧ L3 ∧ L4 ∧ L5 ∧ L6 ∧ L7 ∧ True := ⟨h1, h2, h3, h4, h5, h6, h7, trivial⟩
theorem a8 {L1 L2 L3 L4 L5 L6 L7 L8 : Prop} (h1 : L1) (h2 : L2) (h3 : L3) (h4 : L4) (h5 : L5) (h6 : L6) (h7 : L7) (h8 : L8) : L1 ∧ L2 ∧ L3 ∧ L4 ∧ L5 ∧ L6 ∧ L7 ∧ L8 ∧ True := ⟨h1, h2, h3, h4, h5, h6, h7, h8, trivial⟩
theorem a9 {L1 L2 L3 L4 L5 L6 L7 L8 L9 : Prop} (h1 : L1) (h2 : L2) (h3 : L3) (h4 : L4) (h5 : L5) (h6 : L6) (h7 : L7) (h8 : L8) (h9 : L9) : L1 ∧ L2 ∧ L3 ∧ L4 ∧ L5 ∧ L6 ∧ L7 ∧ L8 ∧ L9 ∧ True := ⟨h1, h2, h3, h4, h5, h6, h7, h8, h9, trivial⟩
theorem runA {G L : Prop} (h1 : L) (h : Hold L → G := by intro hl; ((conv=>whnf);repeat' (first|with_reducible exact trivial|with_reducible exact Unit.unit|((first |(with_reducible show xwr64 _ _);refine xwr_a ?_ |(with_reducible show CallX _ _ _ _ _);(first|refine CallX_i ?_ zSi|(refine AQ_has ?_;(first|(refine AQ_chk 1 ?_;apply CallX_mp (_);(conv=>whnf);refine ⟨⟨rfl,rfl⟩,zSi,by kernel_rfl,?_⟩)|(refine AQ_chk 2 ?_;apply CallX_mp (_, _);(conv=>whnf);refine ⟨⟨rfl,rfl⟩,zSi,by kernel_rfl,?_⟩)|(refine AQ_chk 3 ?_;apply CallX_mp (_, _, _);(conv=>whnf);refine ⟨⟨rfl,rfl⟩,zSi,by kernel_rfl,?_⟩)|(refine AQ_chk 4 ?_;apply CallX_mp (_, _, _, _);(conv=>whnf);refine ⟨⟨rfl,rfl⟩,zSi,by kernel_rfl,?_⟩)|(refine AQ_chk 5 ?_;apply CallX_mp (_, _, _, _, _);(conv=>whnf);refine ⟨⟨rfl,rfl⟩,zSi,by kernel_rfl,?_⟩)|(refine AQ_chk 6 ?_;apply CallX_mp (_, _, _, _, _, _);(conv=>whnf);refine ⟨⟨rfl,rfl⟩,zSi,by kernel_rfl,?_⟩)|(refine AQ_chk 7 ?_;apply CallX_mp (_, _, _, _, _, _, _);(conv=>whnf);refine ⟨⟨rfl,rfl⟩,zSi,by kernel_rfl,?_⟩)|(refine AQ_chk 8 ?_;apply CallX_mp (_, _, _, _, _, _, _, _);(conv=>whnf);refine ⟨⟨rfl,rfl⟩,zSi,by kernel_rfl,?_⟩)|(refine AQ_chk 9 ?_;apply CallX_mp (_, _, _, _, _, _, _, _, _);(conv=>whnf);refine ⟨⟨rfl,rfl⟩,zSi,by kernel_rfl,?_⟩)|(refine AQ_chk 10 ?_;apply CallX_mp (_, _, _, _, _, _, _, _, _, _);(conv=>whnf);refine ⟨⟨rfl,rfl⟩,zSi,by kernel_rfl,?_⟩)|(refine AQ_chk 11 ?_;apply CallX_mp (_, _, _, _, _, _, _, _, _, _, _);(conv=>whnf);refine ⟨⟨rfl,rfl⟩,zSi,by kernel_rfl,?_⟩)|(refine AQ_chk 12 ?_;apply CallX_mp (_, _, _, _, _, _, _, _, _, _, _, _);(conv=>whnf);refine ⟨⟨rfl,rfl⟩,zSi,by kernel_rfl,?_⟩)))|(refine CallX_v fun φ => ?_;(conv=>whnf);(repeat ((with_reducible show ViewE _ _ _ _);(first|refine view_w zLn ?_|refine view_pf zSd ?_|refine view_p zSd ?_);(conv=>whnf)));(with_reducible show CallB _ _ _ _ _);refine CallB_i ?_ zSi)) |(with_reducible show CallB _ _ _ _ _);(with_reducible show CallB _ _ _ _ _);refine CallB_i ?_ zSi |(with_reducible show ValX _ _ _ _ _);(first|refine ValX_idxF tabOk rfl rfl zSd zSd ?_|refine ValX_idxS tabOk rfl rfl rfl zLn zSd zSd zSd ?_|refine ValX_loadF tabOk rfl rfl rfl rfl rfl zSd ?_|refine ValX_loadQ tabOk rfl rfl rfl rfl rfl rfl ?_|refine ValX_sl1 tabOk rfl rfl rfl zLn zSd zSd ?_|refine ValX_slLo tabOk rfl rfl rfl zLn zSd zSd zSd ?_|refine ValX_slHi tabOk rfl rfl rfl zLn zSd zSd zSd ?_|refine ValX_max3 rfl ?_|refine ValX_cpl rfl ?_|refine ValX_fzNil tabOk rfl rfl rfl (fun hb=>?_) ?_|refine ValX_bldA rfl rfl ?_ (fun w => by kernel_rfl)|refine ValX_bldB rfl rfl ?_ (fun w => by kernel_rfl)|refine ValX_ixA1 rfl rfl rfl rfl ?_ (fun w => by kernel_rfl)|refine ValX_ixA2 rfl rfl rfl rfl ?_ (fun w => by kernel_rfl)) |(with_reducible show OpX _ _ _ _ _);(first|refine OpX_storeF tabOk rfl rfl rfl (by rfl) (by rfl) zSd ?_|refine OpX_appF tabOk rfl rfl zLn rfl rfl zSe rfl zSd zSd ?_|refine OpX_appP tabOk rfl rfl rfl rfl zSe rfl zSd zSd zSd zSd ?_|refine OpX_build_a tabOk rfl rfl rfl ?_ (by rfl)|refine OpX_make_a tabOk rfl rfl rfl ?_ (by rfl) (by rfl) zSd zSd zSd|refine OpX_build0_a tabOk rfl rfl rfl ?_|refine OpX_nil_a rfl rfl ?_) |(with_reducible show DrawX _ _ _ _ _);refine DrawX_s tabOk folOk ?_ |(with_reducible show DrawS _ _ _ _ _ _ _);refine DrawS_i (by kernel_rfl) ?_ |(with_reducible show ViewE _ _ _ _);(first|refine view_w zLn ?_|refine view_pf zSd ?_|refine view_p zSd ?_) |(with_reducible show xquo64 _ _ _);(first|refine xquo_a ?_|refine xquo_b ?_) |(with_reducible show xrem64 _ _ _);(first|refine xrem_a ?_|refine xrem_b ?_) |(with_reducible show xshr _ _ _ _);(first|refine xshr_1 ?_|refine xshr_32 ?_|refine xshr_6 ?_|refine xshr_7 ?_|refine xshr_8 ?_|refine xshr_63 ?_) |(with_reducible show xshl _ _ _ _);(first|refine xshl_1u ?_|refine xshl_0u ?_|refine xshl_7u ?_) |(with_reducible show andX _ _);refine andX_i ?_ ?_ |(with_reducible show need _ _);refine need_i zSd ?_ |(with_reducible show xwru _ _ _);(first|refine xwru_64 (by omega) (by omega) ?_|refine xwru_32 (by omega) (by omega) ?_|refine xwru_32m ?_) |(with_reducible show xquou _ _ _ _);refine xquou_nn (by omega) (by omega) (by omega) ?_ |(with_reducible show xremu _ _ _);refine xremu_nn (by omega) (by omega) ?_ |(with_reducible show xcv _ _ _);(first|refine xcv_i64 (by omega) (by omega) ?_|refine xcv_u8 (by omega) (by omega) ?_|refine xcv_u32 (by omega) (by omega) ?_|refine xcv_u64 (by omega) (by omega) ?_|refine xcv_u8m ?_|refine xcv_u32m ?_|refine xcv_u64m ?_))<;>conv=>whnf)|((with_reducible show _=_);rfl)|((with_reducible refine xif_s ?_ ?_)<;>(intro hb;((try simp (disch:=omega) only [hbS,fl_len] at hb);(try have hb:=bnd hb))<;>first|(exfalso;omega)|(exact (cfl hb (by with_reducible assumption)).elim)|(exact (cfl (by with_reducible assumption) hb).elim)|conv=>whnf))));(repeat' ((refine Fin_j () ?_;(conv=>whnf);refine ⟨?_,?_,?_,?_⟩)<;>try first|rfl|exact trivial|((simp only [OB.flats,flatD_fl,and_self]);done)|(first|exact zCl|(subst_vars;exact zCl))));all_goals ((repeat revert hb);first|with_reducible exact hl.out.1|with_reducible exact hl.out.2.1|with_reducible exact hl.out.2.2.1|with_reducible exact hl.out.2.2.2.1|with_reducible exact hl.out.2.2.2.2.1|with_reducible exact hl.out.2.2.2.2.2.1|with_reducible exact hl.out.2.2.2.2.2.2.1|with_reducible exact hl.out.2.2.2.2.2.2.2.1|with_reducible exact hl.out.2.2.2.2.2.2.2.2.1|with_reducible exact hl.out.2.2.2.2.2.2.2.2.2.1|with_reducible exact hl.out.2.2.2.2.2.2.2.2.2.2.1|with_reducible exact hl.out.2.2.2.2.2.2.2.2.2.2.2.1)) : G := h ⟨h1⟩
end Go.Proofs.YtkflmidichikjaaGreatDoor.V
end
section
namespace Go.Proofs.YtkflmidichikjaaGreatDoor.V
open Go.RowKit
abbrev ie (n : Int) : List Value := [.int .i64 n]
abbrev be (b : Bool) : List Value := [.bool b]
abbrev ye (n : Int) : List Value := [.int .u8 n]
instance inVa_1 {n : Int} : Dec ie (I n) n := ⟨rfl⟩
instance inVa_2 {b : Bool} : Dec be (B b) b := ⟨rfl⟩
instance inVa_3 {n : Int} : Dec ye (.v (.int .u8 n)) n := ⟨rfl⟩
instance inVa_4 : TyEnc 29 Int ie := ⟨trivial⟩
instance inVa_5 : TyEnc 206 Bool be := ⟨trivial⟩
instance inVa_6 : TyEnc 22 Int ye := ⟨trivial⟩
structure Vector where
 (X Y D : Int)
 deriving DecidableEq,Inhabited
abbrev Vector.e (a : Vector) : List Value := [.int .i64 a.X, .int .i64 a.Y, .int .i64 a.D]
abbrev Vector.s (a : Vector) : SV := .a [I a.X, I a.Y, I a.D]
instance inVa_7 {x0 x1 x2 : Int} : Dec Vector.e (.a [I x0, I x1, I x2]) ⟨x0, x1, x2⟩ := ⟨rfl⟩
structure Point where
 (X Y : Int)
 deriving DecidableEq,Inhabited
abbrev Point.e (a : Point) : List Value := [.int .i64 a.X, .int .i64 a.Y]
abbrev Point.s (a : Point) : SV := .a [I a.X, I a.Y]
instance inVa_8 {x0 x1 : Int} : Dec Point.e (.a [I x0, I x1]) ⟨x0, x1⟩ := ⟨rfl⟩
instance inVa_9 : TyEnc 166 Point Point.e := ⟨trivial⟩
structure Rect where
 (X0 Y0 X1 Y1 : Int)
 deriving DecidableEq,Inhabited
abbrev Rect.e (a : Rect) : List Value := [.int .i64 a.X0, .int .i64 a.Y0, .int .i64 a.X1, .int .i64 a.Y1]
abbrev Rect.s (a : Rect) : SV := .a [I a.X0, I a.Y0, I a.X1, I a.Y1]
instance inVa_10 {x0 x1 x2 x3 : Int} : Dec Rect.e (.a [I x0, I x1, I x2, I x3]) ⟨x0, x1, x2, x3⟩ := ⟨rfl⟩
structure Cell where
 (X Y : Int)
 deriving DecidableEq,Inhabited
abbrev Cell.e (a : Cell) : List Value := [.int .i64 a.X, .int .i64 a.Y]
abbrev Cell.s (a : Cell) : SV := .a [I a.X, I a.Y]
instance inVa_11 {x0 x1 : Int} : Dec Cell.e (.a [I x0, I x1]) ⟨x0, x1⟩ := ⟨rfl⟩
instance inVa_12 : TyEnc 171 Cell Cell.e := ⟨trivial⟩
structure Pose where
 (X Y H : Int)
 deriving DecidableEq,Inhabited
abbrev Pose.e (a : Pose) : List Value := [.int .i64 a.X, .int .i64 a.Y, .int .i64 a.H]
abbrev Pose.s (a : Pose) : SV := .a [I a.X, I a.Y, I a.H]
instance inVa_13 {x0 x1 x2 : Int} : Dec Pose.e (.a [I x0, I x1, I x2]) ⟨x0, x1, x2⟩ := ⟨rfl⟩
structure Arc where
 (From Count : Int)
 deriving DecidableEq,Inhabited
abbrev Arc.e (a : Arc) : List Value := [.int .i64 a.From, .int .i64 a.Count]
abbrev Arc.s (a : Arc) : SV := .a [I a.From, I a.Count]
instance inVa_14 {x0 x1 : Int} : Dec Arc.e (.a [I x0, I x1]) ⟨x0, x1⟩ := ⟨rfl⟩
structure Box where
 (X0 Y0 X1 Y1 From Count : Int)
 deriving DecidableEq,Inhabited
abbrev Box.e (a : Box) : List Value := [.int .i64 a.X0, .int .i64 a.Y0, .int .i64 a.X1, .int .i64 a.Y1, .int .i64 a.From, .int .i64 a.Count]
abbrev Box.s (a : Box) : SV := .a [I a.X0, I a.Y0, I a.X1, I a.Y1, I a.From, I a.Count]
instance inVa_15 {x0 x1 x2 x3 x4 x5 : Int} : Dec Box.e (.a [I x0, I x1, I x2, I x3, I x4, I x5]) ⟨x0, x1, x2, x3, x4, x5⟩ := ⟨rfl⟩
instance inVa_16 : TyEnc 36 Box Box.e := ⟨trivial⟩
structure Bounds where
 (Turn Length Slip Range : Int)
 deriving DecidableEq,Inhabited
abbrev Bounds.e (a : Bounds) : List Value := [.int .i64 a.Turn, .int .i64 a.Length, .int .i64 a.Slip, .int .i64 a.Range]
abbrev Bounds.s (a : Bounds) : SV := .a [I a.Turn, I a.Length, I a.Slip, I a.Range]
instance inVa_17 {x0 x1 x2 x3 : Int} : Dec Bounds.e (.a [I x0, I x1, I x2, I x3]) ⟨x0, x1, x2, x3⟩ := ⟨rfl⟩
structure Command where
 (Turn Forward : Int)
 deriving DecidableEq,Inhabited
abbrev Command.e (a : Command) : List Value := [.int .i64 a.Turn, .int .i64 a.Forward]
abbrev Command.s (a : Command) : SV := .a [I a.Turn, I a.Forward]
instance inVa_18 {x0 x1 : Int} : Dec Command.e (.a [I x0, I x1]) ⟨x0, x1⟩ := ⟨rfl⟩
instance inVa_19 : TyEnc 178 Command Command.e := ⟨trivial⟩
structure Slip where
 (Turn Length X Y : Int)
 deriving DecidableEq,Inhabited
abbrev Slip.e (a : Slip) : List Value := [.int .i64 a.Turn, .int .i64 a.Length, .int .i64 a.X, .int .i64 a.Y]
abbrev Slip.s (a : Slip) : SV := .a [I a.Turn, I a.Length, I a.X, I a.Y]
instance inVa_20 {x0 x1 x2 x3 : Int} : Dec Slip.e (.a [I x0, I x1, I x2, I x3]) ⟨x0, x1, x2, x3⟩ := ⟨rfl⟩
structure Beam where
 (Mark Reading : Int)
 deriving DecidableEq,Inhabited
abbrev Beam.e (a : Beam) : List Value := [.int .i64 a.Mark, .int .i64 a.Reading]
abbrev Beam.s (a : Beam) : SV := .a [I a.Mark, I a.Reading]
instance inVa_21 {x0 x1 : Int} : Dec Beam.e (.a [I x0, I x1]) ⟨x0, x1⟩ := ⟨rfl⟩
instance inVa_22 : TyEnc 55 Beam Beam.e := ⟨trivial⟩
structure Fraction where
 (N D : Int)
 deriving DecidableEq,Inhabited
abbrev Fraction.e (a : Fraction) : List Value := [.int .i64 a.N, .int .i64 a.D]
abbrev Fraction.s (a : Fraction) : SV := .a [I a.N, I a.D]
instance inVa_23 {x0 x1 : Int} : Dec Fraction.e (.a [I x0, I x1]) ⟨x0, x1⟩ := ⟨rfl⟩
structure Entry where
 (cell : Cell)
 (Hits Passes : Int)
 deriving DecidableEq,Inhabited
abbrev Entry.e (a : Entry) : List Value := [.int .i64 a.cell.X, .int .i64 a.cell.Y, .int .i64 a.Hits, .int .i64 a.Passes]
abbrev Entry.s (a : Entry) : SV := .a [I a.cell.X, I a.cell.Y, I a.Hits, I a.Passes]
instance inVa_24 {x y h p : Int} : Dec Entry.e (.a [I x, I y, I h, I p]) ⟨⟨x, y⟩, h, p⟩ := ⟨rfl⟩
abbrev Y (n : Int) : SV := .v (.int .u8 n)
end Go.Proofs.YtkflmidichikjaaGreatDoor.V
end
section
namespace Go.Proofs.YtkflmidichikjaaGreatDoor.V
open Go.RowKit
set_option maxRecDepth 100000
set_option maxHeartbeats 8000000
def idxF {α : Type} (p : α → Bool) : List α → Int
 | []=>-1
 | x :: r=>if p x then 0 else if idxF p r = -1 then -1 else idxF p r + 1
theorem idxF_any {α : Type} (p : α → Bool) : ∀ X : List α, (0 ≤ idxF p X ↔ X.any p = true) ∧ -1 ≤ idxF p X
 | []=>by simp [idxF]
 | x :: r=>by
   have:=idxF_any p r
   simp only [idxF,List.any_cons]
   cases hx : p x
   ·simp only [Bool.false_or,← this.1]
    split<;>simp at *<;>omega
   ·simp
theorem idxF_dec {α : Type} (p : α → Bool) (X : List α) : decide (idxF p X ≥ 0) = X.any p := by
 have:=(idxF_any p X).1
 cases h : X.any p<;>simp [h] at this ⊢<;>omega
theorem gt_mem {α : Type} [Inhabited α] {X : List α} {i : Nat} (h : i < X.length) : gt X i ∈ X := by simp [gt, h]
theorem idxF_none {α : Type} [Inhabited α] (p : α → Bool) : ∀ X : List α, (∀ j, j < X.length → p (gt X j) = false) → idxF p X = -1
 | [],_=>rfl
 | x :: r,h=>by
   have h0 : p x=false:=by simpa [gt] using h 0 (by simp)
   simp [idxF,h0,idxF_none p r fun j hj=>by simpa [gt] using h (j + 1) (by simpa using hj)]
theorem idxF_at {α : Type} [Inhabited α] (p : α → Bool) : ∀ (X : List α) (i : Nat), i < X.length → (∀ j, j < i → p (gt X j) = false) → p (gt X i) = true → idxF p X = i
 | [],i,h,_,_=>by simp at h
 | x :: r,0,_,_,h=>by simp [gt] at h;simp [idxF,h]
 | x :: r,i + 1,h,h1,h2=>by
   have h0 : p x=false:=by simpa [gt] using h1 0 (by omega)
   have:=idxF_at p r i (by simpa using h) (fun j hj=>by simpa [gt] using h1 (j + 1) (by omega)) (by simpa [gt] using h2)
   simp [idxF,h0,this]
theorem upto_succ {P : Nat → Prop} {i : Nat} (h : ∀ j, j < i → P j) (h' : P i) : ∀ j, j < i + 1 → P j := fun j hj => by
 rcases Nat.lt_succ_iff_lt_or_eq.1 hj with h1|rfl
 ·exact h j h1
 ·exact h'
def fillN {α : Type} (f : Nat → α) (d : α) (n i : Nat) : List α := (List.range n).map fun j => if j < i then f j else d
theorem fillN_zero {α : Type} (f : Nat → α) (d : α) (n : Nat) : fillN f d n 0 = List.replicate n d := by
 simp [fillN,List.map_const']
theorem fillN_all {α : Type} (f : Nat → α) (d : α) {n i : Nat} (h : n ≤ i) : fillN f d n i = (List.range n).map f := by
 unfold fillN
 apply List.map_congr_left
 intro j hj
 have:=List.mem_range.1 hj
 rw [if_pos (by omega)]
theorem fillN_set {α : Type} (f : Nat → α) (d : α) {n i : Nat} : (fillN f d n i).set i (f i) = fillN f d n (i + 1) := by
 apply List.ext_getElem
 ·simp [fillN]
 ·intro j h1 h2
  simp only [fillN,List.getElem_set,List.getElem_map,List.getElem_range]
  by_cases h : i=j
  ·subst h;simp
  ·have : j < i + 1↔j < i:=by omega
   simp [h,this]
theorem fillN_len {α : Type} (f : Nat → α) (d : α) {n i : Nat} : (fillN f d n i).length = n := by simp [fillN]
section
variable {A : Option Addr} {c : Nat} {g : FuncId} {caps : List SV}
instance inVl_1 {X : List Box} {pre : Box → Prop} {p : Box → Bool} [h : ∀ a : Box, CFc g false ((Box.s a) :: caps) (pre a) (B (p a)) []] :
 CFc 111 false [.fz A c 6 (fl Box.e X),.fn g caps] (X.length≤1000000000000∧(∀ i : Nat,i < X.length→pre (gt X i))∧SV.nms 0 caps) (I (idxF p X)) []:=⟨fun ⟨hl,hp,hc⟩=>by
 refine CM.of Tryz.func111 rfl tabOk rfl rfl rfl rfl (by simp [SV.nms,SV.nm,hc]) fun w_ M_ π_ G0_=>?_
 refine runA (a1 ?_)
 refine LoopX_c tabOk [] (fun i : Nat=>i≤X.length∧∀ j,j < i→p (gt X j)=false) (fun i=>[(8,I i)]) (fun _=>[]) (fun i=>X.length - i) 0 (by simp) ⟨rfl,trivial⟩ trivial ?_
 conv=>whnf
 intro i hi
 have hi1:=hi.1
 refine runA (a3 ?_ ?_ ?_)
 ·exact fun h1 h2=>congrArg I (idxF_at p X i (by omega) hi.2 h2).symm
 ·exact fun h1 h2=>round_i (i + 1) ⟨by omega,upto_succ hi.2 h2⟩ (by omega) ent0
 ·exact fun h1=>congrArg I (idxF_none p X fun j hj=>hi.2 j (by omega)).symm⟩
instance inVl_2 {X : List Box} {pre : Box → Prop} {p : Box → Bool} [h : ∀ a : Box, CFc g false ((Box.s a) :: caps) (pre a) (B (p a)) []] :
 CFc 63 false [.fz A c 6 (fl Box.e X),.fn g caps] (X.length≤1000000000000∧(∀ i : Nat,i < X.length→pre (gt X i))∧SV.nms 0 caps) (B (X.any p)) []:=⟨fun hh=>by
 have hc:=hh.2.2
 refine CM.of Tryz.func63 rfl tabOk rfl rfl rfl rfl (by simp [SV.nms,SV.nm,hc]) fun w_ M_ π_ G0_=>?_
 rw [← idxF_dec p X]
 exact run⟩
instance inVl_3 {X : List Cell} {pre : Cell → Prop} {p : Cell → Bool} [h : ∀ a : Cell, CFc g false ((Cell.s a) :: caps) (pre a) (B (p a)) []] :
 CFc 145 false [.fz A c 2 (fl Cell.e X),.fn g caps] (X.length≤1000000000000∧(∀ i : Nat,i < X.length→pre (gt X i))∧SV.nms 0 caps) (I (idxF p X)) []:=⟨fun ⟨hl,hp,hc⟩=>by
 refine CM.of Tryz.func145 rfl tabOk rfl rfl rfl rfl (by simp [SV.nms,SV.nm,hc]) fun w_ M_ π_ G0_=>?_
 refine runA (a1 ?_)
 refine LoopX_c tabOk [] (fun i : Nat=>i≤X.length∧∀ j,j < i→p (gt X j)=false) (fun i=>[(8,I i)]) (fun _=>[]) (fun i=>X.length - i) 0 (by simp) ⟨rfl,trivial⟩ trivial ?_
 conv=>whnf
 intro i hi
 have hi1:=hi.1
 refine runA (a3 ?_ ?_ ?_)
 ·exact fun h1 h2=>congrArg I (idxF_at p X i (by omega) hi.2 h2).symm
 ·exact fun h1 h2=>round_i (i + 1) ⟨by omega,upto_succ hi.2 h2⟩ (by omega) ent0
 ·exact fun h1=>congrArg I (idxF_none p X fun j hj=>hi.2 j (by omega)).symm⟩
instance inVl_4 {X : List Cell} {pre : Cell → Prop} {p : Cell → Bool} [h : ∀ a : Cell, CFc g false ((Cell.s a) :: caps) (pre a) (B (p a)) []] :
 CFc 91 false [.fz A c 2 (fl Cell.e X),.fn g caps] (X.length≤1000000000000∧(∀ i : Nat,i < X.length→pre (gt X i))∧SV.nms 0 caps) (B (X.any p)) []:=⟨fun hh=>by
 have hc:=hh.2.2
 refine CM.of Tryz.func91 rfl tabOk rfl rfl rfl rfl (by simp [SV.nms,SV.nm,hc]) fun w_ M_ π_ G0_=>?_
 rw [← idxF_dec p X]
 exact run⟩
instance inVl_5 {X : List Beam} {pre : Beam → Prop} {p : Beam → Bool} [h : ∀ a : Beam, CFc g false ((Beam.s a) :: caps) (pre a) (B (p a)) []] :
 CFc 238 false [.fz A c 2 (fl Beam.e X),.fn g caps] (X.length≤1000000000000∧(∀ i : Nat,i < X.length→pre (gt X i))∧SV.nms 0 caps) (I (idxF p X)) []:=⟨fun ⟨hl,hp,hc⟩=>by
 refine CM.of Tryz.func238 rfl tabOk rfl rfl rfl rfl (by simp [SV.nms,SV.nm,hc]) fun w_ M_ π_ G0_=>?_
 refine runA (a1 ?_)
 refine LoopX_c tabOk [] (fun i : Nat=>i≤X.length∧∀ j,j < i→p (gt X j)=false) (fun i=>[(8,I i)]) (fun _=>[]) (fun i=>X.length - i) 0 (by simp) ⟨rfl,trivial⟩ trivial ?_
 conv=>whnf
 intro i hi
 have hi1:=hi.1
 refine runA (a3 ?_ ?_ ?_)
 ·exact fun h1 h2=>congrArg I (idxF_at p X i (by omega) hi.2 h2).symm
 ·exact fun h1 h2=>round_i (i + 1) ⟨by omega,upto_succ hi.2 h2⟩ (by omega) ent0
 ·exact fun h1=>congrArg I (idxF_none p X fun j hj=>hi.2 j (by omega)).symm⟩
instance inVl_6 {X : List Beam} {pre : Beam → Prop} {p : Beam → Bool} [h : ∀ a : Beam, CFc g false ((Beam.s a) :: caps) (pre a) (B (p a)) []] :
 CFc 171 false [.fz A c 2 (fl Beam.e X),.fn g caps] (X.length≤1000000000000∧(∀ i : Nat,i < X.length→pre (gt X i))∧SV.nms 0 caps) (B (X.any p)) []:=⟨fun hh=>by
 have hc:=hh.2.2
 refine CM.of Tryz.func171 rfl tabOk rfl rfl rfl rfl (by simp [SV.nms,SV.nm,hc]) fun w_ M_ π_ G0_=>?_
 rw [← idxF_dec p X]
 exact run⟩
instance inVl_7 {X : List Point} {pre : Point → Prop} {p : Point → Bool} [h : ∀ a : Point, CFc g false ((Point.s a) :: caps) (pre a) (B (p a)) []] :
 CFc 291 false [.fz A c 2 (fl Point.e X),.fn g caps] (X.length≤1000000000000∧(∀ i : Nat,i < X.length→pre (gt X i))∧SV.nms 0 caps) (I (idxF p X)) []:=⟨fun ⟨hl,hp,hc⟩=>by
 refine CM.of Tryz.func291 rfl tabOk rfl rfl rfl rfl (by simp [SV.nms,SV.nm,hc]) fun w_ M_ π_ G0_=>?_
 refine runA (a1 ?_)
 refine LoopX_c tabOk [] (fun i : Nat=>i≤X.length∧∀ j,j < i→p (gt X j)=false) (fun i=>[(8,I i)]) (fun _=>[]) (fun i=>X.length - i) 0 (by simp) ⟨rfl,trivial⟩ trivial ?_
 conv=>whnf
 intro i hi
 have hi1:=hi.1
 refine runA (a3 ?_ ?_ ?_)
 ·exact fun h1 h2=>congrArg I (idxF_at p X i (by omega) hi.2 h2).symm
 ·exact fun h1 h2=>round_i (i + 1) ⟨by omega,upto_succ hi.2 h2⟩ (by omega) ent0
 ·exact fun h1=>congrArg I (idxF_none p X fun j hj=>hi.2 j (by omega)).symm⟩
instance inVl_8 {X : List Point} {pre : Point → Prop} {p : Point → Bool} [h : ∀ a : Point, CFc g false ((Point.s a) :: caps) (pre a) (B (p a)) []] :
 CFc 245 false [.fz A c 2 (fl Point.e X),.fn g caps] (X.length≤1000000000000∧(∀ i : Nat,i < X.length→pre (gt X i))∧SV.nms 0 caps) (B (X.any p)) []:=⟨fun hh=>by
 have hc:=hh.2.2
 refine CM.of Tryz.func245 rfl tabOk rfl rfl rfl rfl (by simp [SV.nms,SV.nm,hc]) fun w_ M_ π_ G0_=>?_
 rw [← idxF_dec p X]
 exact run⟩
instance inVl_9 {X : List Int} {pre : Int → Prop} {p : Int → Bool} [h : ∀ a : Int, CFc g false ((I a) :: caps) (pre a) (B (p a)) []] :
 CFc 129 false [.fz A c 1 (fl ie X),.fn g caps] (X.length≤1000000000000∧(∀ i : Nat,i < X.length→pre (gt X i))∧SV.nms 0 caps) (I (idxF p X)) []:=⟨fun ⟨hl,hp,hc⟩=>by
 refine CM.of Tryz.func129 rfl tabOk rfl rfl rfl rfl (by simp [SV.nms,SV.nm,hc]) fun w_ M_ π_ G0_=>?_
 refine runA (a1 ?_)
 refine LoopX_c tabOk [] (fun i : Nat=>i≤X.length∧∀ j,j < i→p (gt X j)=false) (fun i=>[(8,I i)]) (fun _=>[]) (fun i=>X.length - i) 0 (by simp) ⟨rfl,trivial⟩ trivial ?_
 conv=>whnf
 intro i hi
 have hi1:=hi.1
 refine runA (a3 ?_ ?_ ?_)
 ·exact fun h1 h2=>congrArg I (idxF_at p X i (by omega) hi.2 h2).symm
 ·exact fun h1 h2=>round_i (i + 1) ⟨by omega,upto_succ hi.2 h2⟩ (by omega) ent0
 ·exact fun h1=>congrArg I (idxF_none p X fun j hj=>hi.2 j (by omega)).symm⟩
instance inVl_10 {X : List Int} {pre : Int → Prop} {p : Int → Bool} [h : ∀ a : Int, CFc g false ((I a) :: caps) (pre a) (B (p a)) []] :
 CFc 78 false [.fz A c 1 (fl ie X),.fn g caps] (X.length≤1000000000000∧(∀ i : Nat,i < X.length→pre (gt X i))∧SV.nms 0 caps) (B (X.any p)) []:=⟨fun hh=>by
 have hc:=hh.2.2
 refine CM.of Tryz.func78 rfl tabOk rfl rfl rfl rfl (by simp [SV.nms,SV.nm,hc]) fun w_ M_ π_ G0_=>?_
 rw [← idxF_dec p X]
 exact run⟩
end
end Go.Proofs.YtkflmidichikjaaGreatDoor.V
end
