/- The symbolic executor: rules for calls and loops. -/
import Derived.Test.YtodaijlclbngbaaEn6
set_option linter.all false
namespace Go.Proofs.Ytodaijlclbngbaa.En
open Go.RowKit

theorem xif_s {b : Bool} {T E : Prop} (h1 : b = true → T) (h2 : b = false → E) : Bool.rec (motive := fun _ => Prop) E T b := by
  cases b
  · exact h2 rfl
  · exact h1 rfl
theorem xif_kt {b : Bool} {T E : Prop} (hb : b = true) (h : T) : Bool.rec (motive := fun _ => Prop) E T b := by subst hb; exact h
theorem xif_kf {b : Bool} {T E : Prop} (hb : b = false) (h : E) : Bool.rec (motive := fun _ => Prop) E T b := by subst hb; exact h
theorem need_i {p : Prop} {k : Unit → Prop} (h1 : p) (h2 : k ()) : need p k := need_iff.2 ⟨h1, h2⟩

theorem xwr_ok {e : Int} {k : Int → Prop} (h1 : -9223372036854775808 ≤ e) (h2 : e ≤ 9223372036854775807) (h : k e) : xwr64 e k := by
  refine ⟨?_⟩
  rw [show IntKind.i64.wrap e = e by rw [IntKind.wrap_i64]; omega]
  exact h
theorem xwr_raw {e : Int} {k : Int → Prop} (h : k (IntKind.i64.wrap e)) : xwr64 e k := ⟨h⟩
theorem xquo_nn {a b : Int} {k : Int → Prop} (h1 : 0 ≤ a) (h2 : 0 < b) (h3 : a ≤ 9223372036854775807) (h : k (a / b)) : xquo64 a b k := by
  refine ⟨?_⟩
  refine ⟨by omega, ?_⟩
  have e : a.tdiv b = a / b := Int.tdiv_eq_ediv_of_nonneg h1
  have l1 : 0 ≤ a / b := Int.ediv_nonneg h1 (by omega)
  have l2 : a / b ≤ a := Int.ediv_le_self b h1
  rw [e, show IntKind.i64.wrap (a / b) = a / b by rw [IntKind.wrap_i64]; omega]
  exact h
theorem xquo_ok {a b : Int} {k : Int → Prop} (h1 : -9223372036854775807 ≤ a) (h2 : a ≤ 9223372036854775807) (h3 : b ≠ 0) (h : k (a.tdiv b)) : xquo64 a b k := by
  refine ⟨?_⟩
  refine ⟨h3, ?_⟩
  have l1 : (a.tdiv b).natAbs ≤ a.natAbs := by rw [Int.natAbs_tdiv]; exact Nat.div_le_self _ _
  rw [show IntKind.i64.wrap (a.tdiv b) = a.tdiv b by rw [IntKind.wrap_i64]; omega]
  exact h
theorem xquo_raw {a b : Int} {k : Int → Prop} (h1 : b ≠ 0) (h : k (IntKind.i64.wrap (a.tdiv b))) : xquo64 a b k := ⟨⟨h1, h⟩⟩
theorem xrem_nn {a b : Int} {k : Int → Prop} (h1 : 0 ≤ a) (h2 : b ≠ 0) (h : k (a % b)) : xrem64 a b k := by
  refine ⟨?_⟩
  refine ⟨h2, ?_⟩
  rw [show a.tmod b = a % b from Int.tmod_eq_emod_of_nonneg h1]
  exact h
theorem xrem_raw {a b : Int} {k : Int → Prop} (h1 : b ≠ 0) (h : k (a.tmod b)) : xrem64 a b k := ⟨⟨h1, h⟩⟩

theorem xshr_lit {kd : IntKind} {a : Int} (n : Nat) {k : Int → Prop} (hn : Nat.ble n kd.bits = true) (h : k (a / ((2 ^ n : Nat) : Int))) : xshr kd a ((n : Nat) : Int) k := by
  refine ⟨by omega, ?_⟩
  have hn := Nat.le_of_ble_eq_true hn
  have e : min ((n : Nat) : Int).toNat kd.bits = n := by simp; omega
  rw [e, Int.fdiv_eq_ediv_of_nonneg _ (by exact Int.pow_nonneg (by decide))]
  simpa using h
theorem xshr_1 {kd : IntKind} {a : Int} {k : Int → Prop} (h : k (a / 2)) : xshr kd a 1 k := xshr_lit (kd := kd) 1 (by cases kd <;> rfl) h
theorem xcv_i64 {n : Int} {k : Int → Prop} (h1 : -9223372036854775808 ≤ n) (h2 : n ≤ 9223372036854775807) (h : k n) : xcv .i64 n k := by
  refine ⟨?_⟩
  rwa [show IntKind.i64.wrap n = n by rw [IntKind.wrap_i64]; omega]
theorem xcv_u64 {n : Int} {k : Int → Prop} (h1 : 0 ≤ n) (h2 : n ≤ 18446744073709551615) (h : k n) : xcv .u64 n k := by
  refine ⟨?_⟩
  rwa [show IntKind.u64.wrap n = n by simp [IntKind.wrap, IntKind.bits, IntKind.signed]; omega]
theorem xcv_u8 {n : Int} {k : Int → Prop} (h1 : 0 ≤ n) (h2 : n ≤ 255) (h : k n) : xcv .u8 n k := by
  refine ⟨?_⟩
  rwa [show IntKind.u8.wrap n = n by simp [IntKind.wrap, IntKind.bits, IntKind.signed]; omega]
theorem xcv_raw {kd : IntKind} {n : Int} {k : Int → Prop} (h : k (kd.wrap n)) : xcv kd n k := ⟨h⟩

theorem Entr.of {P : Program} {f : FuncId} {fn : Func} {c : Code} (hf : P.funcs[f]? = some fn) (hname : (fn.name == "runtime.NumGoroutine") = false) (hb : fn.body = some c) : Entr P f := by
  intro args w
  unfold callFunc
  simp only [Sem.run_bind, run_program, Result.andThen_ok, hf, hname, hb, Option.isNone_some, Bool.false_eq_true, if_false]
  rfl

theorem Mem.nil (C : Ctx) (hm : C.m = 0) (σ : Nat → Nat) (fp : Nat → Nat → Prop) : Mem C σ fp [] C.w0 :=
  ⟨fun k o h => by simp at h, fun j k h => by simp at h, fun k h => by simp at h, fun k h => by simp at h, ⟨rfl, rfl, rfl, Nat.le_refl _, fun _ _ _ => rfl⟩, ⟨by rw [hm]; exact Nat.zero_le _, fun j hj => by rw [hm] at hj; cases hj⟩, fun _ => Nat.le_refl _⟩

theorem Kept.below {M : Nat → Prop} {w0 w w' : World} (h : Kept M w0 w) (hb : Below w.heap.size w w') : Kept M w0 w' :=
  ⟨hb.os.trans h.os, hb.tape.trans h.tape, hb.output.trans h.output, Nat.le_trans h.size hb.size, fun i hi hm => (hb.block i (Nat.lt_of_lt_of_le hi h.size)).trans (h.block i hi hm)⟩
theorem Kept.to_below {w0 w : World} (h : Kept (fun _ => False) w0 w) : Below w0.heap.size w0 w :=
  ⟨h.os, h.tape, h.output, h.size, fun i hi => h.block i hi (fun h => h)⟩
theorem Mem.below {C : Ctx} {σ : Nat → Nat} {fp : Nat → Nat → Prop} {ob : List OB} {w w' : World} (h : Mem C σ fp ob w) (hb : Below w.heap.size w w') (hdr : C.d = true → w.drawn ≤ w'.drawn) : Mem C σ fp ob w' :=
  ⟨fun k o hk => OB.at_ext (h.at_ k o hk) (fun _ _ => rfl) (Nat.le_refl _) fun i hi => hb.block i (h.hi k (List.getElem?_eq_some_iff.1 hk).1 i hi), h.disj, h.lo,
    fun k hk i hi => Nat.lt_of_lt_of_le (h.hi k hk i hi) hb.size, h.kept.below hb, h.pin, fun hd => Nat.le_trans (h.drw hd) (hdr hd)⟩

def argsL : List Nat → List SV → List (Nat × SV)
  | m :: ms, x :: r => (m, x) :: argsL ms r
  | _, _ => []
theorem argsL_range : ∀ (n s : Nat) (l : List SV), l.length ≤ n → argsL (List.range' s n) l = argsX s l
  | 0, s, [], _ => by simp [argsL, argsX]
  | 0, s, _ :: _, h => by simp at h
  | n + 1, s, [], _ => by simp [List.range'_succ, argsL, argsX]
  | n + 1, s, x :: l, h => by simp [List.range'_succ, argsL, argsX, argsL_range n (s + 1) l (by simpa using h)]
theorem argsL_eq {l : List SV} (h : l.length ≤ 300) : argsL lits l = argsX 0 l := by rw [lits_eq, argsL_range _ _ _ h]

/-- a function that computes: its result is a value; it may make memory -/
def PureX (P : Program) (f : FuncId) (args : List SV) (x : SV) : Prop :=
  Entr P f ∧ x.wf 0 ∧ ∀ σ w, Calls P f (SV.vals σ args).toArray w fun e w' => e = .returned (x.val σ) ∧ Below w.heap.size w w'

theorem CallX_pure {C : Ctx} {f : FuncId} {args : List SV} {ob : List OB} {k : SV → List OB → Prop} {x : SV} (h : PureX C.P f args x) (hk : k x ob) (hd : C.d = false := by rfl) : CallX C f args ob k := by
  unfold CallX
  refine ⟨h.1, fun σ fp w hm => (h.2.2 σ w).mono ?_⟩
  rintro e w' ⟨rfl, hb⟩
  exact ⟨_, rfl, x, ob, σ, fp, hk, fun _ _ => rfl, Nat.le_refl _, rfl, SV.wf_mono (Nat.zero_le _) x h.2.1, hm.below hb (fun h => by rw [hd] at h; cases h), Frm.below hb⟩

theorem PureX.of {P : Program} {T : List TI} {f : FuncId} {fn : Func} {c : Code} {args : List SV} {x : SV} (hf : P.funcs[f]? = some fn) (hb : fn.body = some c) (hT : TabOk P T) (hname : (fn.name == "runtime.NumGoroutine") = false) (hl : Nat.ble args.length fn.ntmps = true) (hl' : Nat.ble args.length 300 = true)
    (hw : SV.wfs 0 args) (hx : x.wf 0) (h : ∀ w, force (argsL lits args) fun tm => xcode ⟨P, T, fn.ntmps, w, fun _ => False, 0, id, false⟩ c tm [] (endX ⟨P, T, fn.ntmps, w, fun _ => False, 0, id, false⟩ (fun e w' => (∀ σ, e = .returned (x.val σ)) ∧ Below w.heap.size w w') fn.results.toList)) : PureX P f args x := by
  refine ⟨Entr.of hf hname hb, hx, fun σ w => ?_⟩
  refine (calls_of_x (C := ⟨P, T, fn.ntmps, w, fun _ => False, 0, id, false⟩) (σ := σ) (ob := []) hT hf hb rfl (Nat.le_of_ble_eq_true hl) hw (Mem.nil _ rfl σ (fun _ _ => False)) (by have := h w; rwa [force_eq, argsL_eq (Nat.le_of_ble_eq_true hl')] at this)).mono ?_
  rintro e w' ⟨h1, h2⟩
  exact ⟨h1 σ, h2⟩

/-- the same, and it does not take draws back -/
def PureD (P : Program) (f : FuncId) (args : List SV) (x : SV) : Prop :=
  Entr P f ∧ x.wf 0 ∧ ∀ σ w, Calls P f (SV.vals σ args).toArray w fun e w' => e = .returned (x.val σ) ∧ Below w.heap.size w w' ∧ w.drawn ≤ w'.drawn
theorem PureD.pure {P : Program} {f : FuncId} {args : List SV} {x : SV} (h : PureD P f args x) : PureX P f args x :=
  ⟨h.1, h.2.1, fun σ w => (h.2.2 σ w).mono fun _ _ h => ⟨h.1, h.2.1⟩⟩
theorem CallX_d {C : Ctx} {f : FuncId} {args : List SV} {ob : List OB} {k : SV → List OB → Prop} {x : SV} (h : PureD C.P f args x) (hk : k x ob) : CallX C f args ob k := by
  unfold CallX
  refine ⟨h.1, fun σ fp w hm => (h.2.2 σ w).mono ?_⟩
  rintro e w' ⟨rfl, hb, hdr⟩
  exact ⟨_, rfl, x, ob, σ, fp, hk, fun _ _ => rfl, Nat.le_refl _, rfl, SV.wf_mono (Nat.zero_le _) x h.2.1, hm.below hb (fun _ => hdr), Frm.below hb⟩
theorem PureD.of {P : Program} {T : List TI} {f : FuncId} {fn : Func} {c : Code} {args : List SV} {x : SV} (hf : P.funcs[f]? = some fn) (hb : fn.body = some c) (hT : TabOk P T) (hname : (fn.name == "runtime.NumGoroutine") = false) (hl : Nat.ble args.length fn.ntmps = true) (hl' : Nat.ble args.length 300 = true)
    (hw : SV.wfs 0 args) (hx : x.wf 0) (h : ∀ w, force (argsL lits args) fun tm => xcode ⟨P, T, fn.ntmps, w, fun _ => False, 0, id, true⟩ c tm [] (endX ⟨P, T, fn.ntmps, w, fun _ => False, 0, id, true⟩ (fun e w' => (∀ σ, e = .returned (x.val σ)) ∧ Below w.heap.size w w' ∧ w.drawn ≤ w'.drawn) fn.results.toList)) : PureD P f args x := by
  refine ⟨Entr.of hf hname hb, hx, fun σ w => ?_⟩
  refine (calls_of_x (C := ⟨P, T, fn.ntmps, w, fun _ => False, 0, id, true⟩) (σ := σ) (ob := []) hT hf hb rfl (Nat.le_of_ble_eq_true hl) hw (Mem.nil _ rfl σ (fun _ _ => False)) (by have := h w; rwa [force_eq, argsL_eq (Nat.le_of_ble_eq_true hl')] at this)).mono ?_
  rintro e w' ⟨h1, h2⟩
  exact ⟨h1 σ, h2⟩
theorem Fin_d {C : Ctx} {x y : SV} {ob : List OB} (hM : C.M = fun _ => False) (hd : C.d = true) (hx : x = y) (hw : y.wf 0) : Fin C (fun e w' => (∀ σ, e = .returned (y.val σ)) ∧ Below C.w0.heap.size C.w0 w' ∧ C.w0.drawn ≤ w'.drawn) x ob := by
  subst hx
  unfold Fin
  intro σ fp w hm _
  refine ⟨fun σ' => by rw [SV.val_ext (n := 0) (by simp) x hw], ?_, hm.drw hd⟩
  have := hm.kept
  rw [hM] at this
  exact this.to_below

theorem Fin_pure {C : Ctx} {x y : SV} {ob : List OB} (hM : C.M = fun _ => False) (hx : x = y) (hw : y.wf 0) : Fin C (fun e w' => (∀ σ, e = .returned (y.val σ)) ∧ Below C.w0.heap.size C.w0 w') x ob := by
  subst hx
  unfold Fin
  intro σ fp w hm _
  refine ⟨fun σ' => by rw [SV.val_ext (n := 0) (by simp) x hw], ?_⟩
  have := hm.kept
  rw [hM] at this
  exact this.to_below

/-! ### Loops -/
mutual
def SV.ren (r : List Nat) : SV → SV
  | .v x => .v x
  | .p k off => .p (r.getD k 0) off
  | .a l => .a (SV.rens r l)
  | .t l => .t (SV.rens r l)
  | .fn f l => .fn f (SV.rens r l)
def SV.rens (r : List Nat) : List SV → List SV
  | [] => []
  | x :: l => x.ren r :: SV.rens r l
end
mutual
theorem val_ren (σ : Nat → Nat) (r : List Nat) : ∀ x : SV, (x.ren r).val σ = x.val (fun j => σ (r.getD j 0))
  | .v _ => rfl
  | .p _ _ => rfl
  | .a l => by simp only [SV.ren, SV.val, vals_ren σ r l]
  | .t l => by simp only [SV.ren, SV.val, vals_ren σ r l]
  | .fn _ l => by simp only [SV.ren, SV.val, vals_ren σ r l]
theorem vals_ren (σ : Nat → Nat) (r : List Nat) : ∀ l : List SV, SV.vals σ (SV.rens r l) = SV.vals (fun j => σ (r.getD j 0)) l
  | [] => rfl
  | x :: l => by simp only [SV.rens, SV.vals, val_ren σ r x, vals_ren σ r l]
end

/-- the state as another one's: the slots that it names, the objects that it keeps -/
def entT (r : List Nat) (n : Nat) (tm : List (Nat × SV)) : List (Nat × SV) → Prop
  | [] => True
  | (t, x) :: l => (match look tm t with | some y => y = x.ren r ∧ x.wf n | none => False) ∧ entT r n tm l
def OB.is (r : List Nat) (n : Nat) (o o' : OB) : Prop :=
  match o, o' with
  | .box t cs, .box t' cs' => t = t' ∧ cs = SV.rens r cs' ∧ SV.wfs n cs'
  | .row e sz A m c els, .row e' sz' A' m' c' els' => e = e' ∧ sz = sz' ∧ A = A' ∧ m = m' ∧ c = c' ∧ els = els'
  | .row e sz A m c els, .res R' => ∀ (w : World) (F : Nat → Prop), (OB.row e sz A m c els).at (fun _ => 0) 0 w 0 F → R' w F ∧ ∀ w' : World, (∀ i, F i → w'.heap[i]? = w.heap[i]?) → R' w' F
  | .res R, .res R' => ∀ w F, R w F → R' w F
  | _, _ => False
def entO (r : List Nat) (n : Nat) (ob : List OB) : List Nat → List OB → Prop
  | [], [] => True
  | j :: js, o' :: l => (match nth ob j with | some o => o.is r n o' | none => False) ∧ entO r n ob js l
  | _, _ => False
/-- the first m objects stay where they are -/
def pinB : Nat → Nat → List Nat → Bool
  | 0, _, _ => true
  | m + 1, j, i :: r => Nat.beq i j && pinB m (j + 1) r
  | _ + 1, _, [] => false
theorem pinB_spec : ∀ {m s : Nat} {r : List Nat}, pinB m s r = true → ∀ j, j < m → r[j]? = some (s + j)
  | 0, _, _, _, j, hj => by omega
  | m + 1, s, [], h, _, _ => by simp [pinB] at h
  | m + 1, s, i :: r, h, j, hj => by
    simp only [pinB, Bool.and_eq_true] at h
    have e := Nat.eq_of_beq_eq_true h.1
    cases j with
    | zero => simp [e]
    | succ j =>
      have := pinB_spec h.2 j (by omega)
      simp only [List.getElem?_cons_succ, this]
      congr 1
      omega
def Ent (m : Nat) (r : List Nat) (tm : List (Nat × SV)) (ob : List OB) (tm' : List (Nat × SV)) (ob' : List OB) : Prop :=
  entT r ob'.length tm tm' ∧ entO r ob'.length ob r ob' ∧ r.Nodup ∧ pinB m 0 r = true

theorem entT_spec {r : List Nat} {n : Nat} {tm : List (Nat × SV)} : ∀ {tm' : List (Nat × SV)}, entT r n tm tm' → ∀ t x, look tm' t = some x → look tm t = some (x.ren r) ∧ x.wf n
  | [], _, t, x, h => by simp [look] at h
  | (s, y) :: l, he, t, x, h => by
    obtain ⟨h1, h2⟩ := he
    unfold look at h
    split at h
    · rename_i e
      have e := Nat.eq_of_beq_eq_true e
      simp at h
      subst e h
      split at h1
      · rename_i z hz
        exact ⟨by rw [hz, h1.1], h1.2⟩
      · exact h1.elim
    · exact entT_spec h2 t x h
theorem entO_spec {r : List Nat} {n : Nat} {ob : List OB} : ∀ {js : List Nat} {l : List OB}, entO r n ob js l → js.length = l.length ∧ ∀ (i : Nat) (o' : OB), l[i]? = some o' → ∃ (j : Nat) (o : OB), js[i]? = some j ∧ ob[j]? = some o ∧ o.is r n o'
  | [], [], _ => ⟨rfl, fun i o' h => by simp at h⟩
  | [], _ :: _, h => h.elim
  | _ :: _, [], h => h.elim
  | j :: js, o' :: l, h => by
    obtain ⟨h1, h2⟩ := h
    obtain ⟨h3, h4⟩ := entO_spec h2
    refine ⟨by simp [h3], fun i o hi => ?_⟩
    cases i with
    | zero =>
      simp at hi
      subst hi
      split at h1
      · rename_i o hn
        rw [nth_eq] at hn
        exact ⟨j, o, by simp, hn, h1⟩
      · exact h1.elim
    | succ i => simpa using h4 i o (by simpa using hi)

theorem Ent.rel {C : Ctx} {r : List Nat} {tm tm' : List (Nat × SV)} {ob ob' : List OB} (h : Ent C.m r tm ob tm' ob') {σ : Nat → Nat} {fp : Nat → Nat → Prop} {a : Act} {w : World} (hr : Rel C tm ob σ fp a w) :
    Rel C tm' ob' (fun j => σ (r.getD j 0)) (fun j => fp (r.getD j 0)) a w := by
  obtain ⟨h1, h2, h3, hpb⟩ := h
  obtain ⟨h4, h5⟩ := entO_spec h2
  have idx : ∀ i, i < ob'.length → ∃ j, r[i]? = some j ∧ r.getD i 0 = j ∧ j < ob.length := by
    intro i hi
    obtain ⟨j, o, hj, ho, _⟩ := h5 i ob'[i] (by simp [hi])
    exact ⟨j, hj, by simp [hj], (List.getElem?_eq_some_iff.1 ho).1⟩
  refine ⟨⟨hr.tm.size, hr.tm.defers, fun t x hx => ?_⟩, ⟨fun i o' hi => ?_, fun i j hi hj hne b hb hb' => ?_, fun i hi b hb => ?_, fun i hi b hb => ?_, hr.mem.kept, ?_, hr.mem.drw⟩⟩
  · obtain ⟨h6, h7⟩ := entT_spec h1 t x hx
    exact ⟨by rw [(hr.tm.val t _ h6).1, val_ren], h7⟩
  · obtain ⟨j, o, hj, ho, his⟩ := h5 i o' hi
    have hat := hr.mem.at_ j o ho
    have hg : r.getD i 0 = j := by simp [hj]
    simp only [hg]
    cases o with
    | box t cs =>
      cases o' with
      | box t' cs' =>
        obtain ⟨rfl, rfl, hw⟩ := his
        exact ⟨by rw [hat.1, vals_ren], hat.2.1, hw⟩
      | row _ _ _ _ _ _ => exact his.elim
      | res _ => exact his.elim
    | row e sz A m c els =>
      cases o' with
      | box _ _ => exact his.elim
      | row e' sz' A' m' c' els' =>
        obtain ⟨rfl, rfl, rfl, rfl, rfl, rfl⟩ := his
        exact hat
      | res R' => exact his w _ hat
    | res R =>
      cases o' with
      | box _ _ => exact his.elim
      | row _ _ _ _ _ _ => exact his.elim
      | res R' => exact ⟨his _ _ hat.1, fun w' hw' => his _ _ (hat.2 w' hw')⟩
  · obtain ⟨i', hi1, hi2, hi3⟩ := idx i hi
    obtain ⟨j', hj1, hj2, hj3⟩ := idx j hj
    simp only [hi2, hj2] at hb hb'
    refine hr.mem.disj i' j' hi3 hj3 (fun e => hne ?_) b hb hb'
    subst e
    exact (List.getElem?_inj (List.getElem?_eq_some_iff.1 hi1).1 h3).1 (hi1.trans hj1.symm)
  · obtain ⟨i', hi1, hi2, hi3⟩ := idx i hi
    simp only [hi2] at hb
    exact hr.mem.lo i' hi3 b hb
  · obtain ⟨i', hi1, hi2, hi3⟩ := idx i hi
    simp only [hi2] at hb
    exact hr.mem.hi i' hi3 b hb
  · have hp := hr.mem.pin
    refine ⟨?_, fun j hj => ?_⟩
    · cases hm : C.m with
      | zero => exact Nat.zero_le _
      | succ m =>
        have := pinB_spec hpb m (by omega)
        have := (List.getElem?_eq_some_iff.1 this).1
        omega
    · have := pinB_spec hpb j hj
      simp only [Nat.zero_add] at this
      simp [this, hp.2 j hj]

/-- a round's end: the invariant again, and the measure has gone down; or an exit -/
def roundX {α : Type} (m : Nat) (J : α → Prop) (It : α → List (Nat × SV)) (Io : α → List OB) (μ : α → Nat) (x : α) (K : Kx) : Kx := fun e tm ob =>
  match e with
  | .normal => ∃ y r, J y ∧ Ent m r tm ob (It y) (Io y) ∧ μ y < μ x
  | .exit i => K (.exit i) tm ob
  | .ret => K .ret tm ob
  | _ => False

theorem LoopX_inv {C : Ctx} (hT : TabOk C.P C.T) {c : Code} {tm : List (Nat × SV)} {ob : List OB} {K : Kx} {α : Type} (J : α → Prop) (It : α → List (Nat × SV)) (Io : α → List OB) (μ : α → Nat) (x0 : α) (r : List Nat) (hj : J x0) (h0 : Ent C.m r tm ob (It x0) (Io x0))
    (hround : ∀ x, J x → force (It x) fun tm => force (Io x) fun ob => xcode C c tm ob (roundX C.m J It Io μ x K)) : LoopX C c tm ob K := by
  unfold LoopX
  intro σ fp a w hr
  refine wp_loop_ghost (fun n a w => ∃ x σ fp, J x ∧ μ x = n ∧ Rel C (It x) (Io x) σ fp a w) (μ x0) ⟨x0, _, _, hj, rfl, h0.rel hr⟩ ?_
  rintro n a w ⟨x, σ, fp, hj, rfl, hr⟩
  have hrd := hround x hj
  simp only [force_eq] at hrd
  refine wp_mono (xcode_sound hT c hrd hr) ?_
  rintro e a' w' ⟨tm', ob', σ', fp', hk, hr'⟩
  cases e with
  | normal =>
    obtain ⟨y, r', hj', he, hlt⟩ := hk
    exact ⟨_, hlt, y, _, _, hj', rfl, he.rel hr'⟩
  | exit i => exact ⟨tm', ob', σ', fp', hk, hr'⟩
  | ret => exact ⟨tm', ob', σ', fp', hk, hr'⟩
  | goto l => exact hk.elim
  | panic l => exact hk.elim
  | outgrown => exact hk.elim

theorem wr {e : Int} (h1 : -9223372036854775808 ≤ e) (h2 : e ≤ 9223372036854775807) : IntKind.i64.wrap e = e := by
  rw [IntKind.wrap_i64]; omega
abbrev I (n : Int) : SV := .v (.int .i64 n)
abbrev B (b : Bool) : SV := .v (.bool b)
theorem ge_dec (a b : Int) : (a ≥ b) = (b ≤ a) := rfl
theorem gt_dec (a b : Int) : (a > b) = (b < a) := rfl

end Go.Proofs.Ytodaijlclbngbaa.En
