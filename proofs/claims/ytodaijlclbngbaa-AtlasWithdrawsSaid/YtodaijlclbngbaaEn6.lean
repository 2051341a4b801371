/- The symbolic executor is sound: code, calls, loops. -/
import Derived.Test.YtodaijlclbngbaaEn5
set_option linter.all false
namespace Go.Proofs.Ytodaijlclbngbaa.En
open Go.RowKit

section
variable {C : Ctx} {tm : List (Nat × SV)} {ob : List OB} {σ : Nat → Nat} {fp : Nat → Nat → Prop} {a : Act} {w : World}

theorem Tm.ext {σ' : Nat → Nat} {n m : Nat} (h : Tm C σ n tm a) (hσ : ∀ j, j < n → σ' j = σ j) (hn : n ≤ m) : Tm C σ' m tm a :=
  ⟨h.size, h.defers, fun t x hx => ⟨by rw [(h.val t x hx).1, SV.val_ext hσ x (h.val t x hx).2], SV.wf_mono hn x (h.val t x hx).2⟩⟩
theorem Tm.put {m d : Nat} {x : SV} (h : Tm C σ m tm a) (hd : d < C.n) (hx : x.wf m) : Tm C σ m ((d, x) :: tm) (a.put (some d) (x.val σ)) := by
  refine ⟨by simp [Act.put, h.size], h.defers, fun t y hy => ?_⟩
  unfold look at hy
  split at hy
  · rename_i e
    have e := Nat.eq_of_beq_eq_true e
    simp at hy
    subst e hy
    exact ⟨by simp [Act.put, h.size, hd], hx⟩
  · rename_i e
    have hne : d ≠ t := fun e' => by simp [e'] at e
    have := h.val t y hy
    refine ⟨?_, this.2⟩
    rw [← this.1]
    simp [Act.put, Array.getElem?_setIfInBounds_ne hne]

theorem putT_spec {n d : Option Nat} {x : SV} {m : Nat} {σ' : Nat → Nat} {k : List (Nat × SV) → Prop} (h : putT C d x tm k) (ht : Tm C σ m tm a) (hx : x.wf m) : ∃ tm', k tm' ∧ Tm C σ m tm' (a.put d (x.val σ)) := by
  unfold putT at h
  cases d with
  | none => exact ⟨tm, h, ht⟩
  | some d =>
    simp only at h
    split at h
    · rename_i hd
      exact ⟨_, h, ht.put (Nat.le_of_ble_eq_true hd) hx⟩
    · exact h.elim

theorem yield_spec {full : List Oper} {j d : Nat} {g : Oper} {b : Bool} (ht : Tm C σ ob.length tm a) (hg : nth full j = some g) (hd : g.dst = some d) (hl : look tm d = some (.v (.bool b))) : yielded full.toArray a.tmps j = some b := by
  have h1 := (ht.val d _ hl).1
  simp only [SV.val] at h1
  have h2 : a.tmps[d]? = some (.bool b) := by
    cases hq : a.tmps[d]? with
    | none => simp [hq, undef] at h1
    | some v => simp [hq] at h1; rw [h1]
  rw [nth_eq] at hg
  simp [yielded, hg, hd, h2]

theorem yield_none {full : List Oper} {j d : Nat} {g : Oper} {l : Array Value} (ht : Tm C σ ob.length tm a) (hg : nth full j = some g) (hd : g.dst = some d) (hl : look tm d = some (.v (.tuple l))) : yielded full.toArray a.tmps j = none := by
  have h1 := (ht.val d _ hl).1
  simp only [SV.val] at h1
  rw [nth_eq] at hg
  cases hq : a.tmps[d]? with
  | none => simp [yielded, hg, hd, hq]
  | some v => simp [hq] at h1; simp [yielded, hg, hd, hq, h1]

theorem Rel.lit (hr : Rel C tm ob σ fp a w) {d : Nat} {b : Bool} (hl : look tm d = some (.v (.bool b))) : Rel C ((d, .v (.bool b)) :: tm) ob σ fp a w := by
  refine ⟨⟨hr.tm.size, hr.tm.defers, fun t x hx => ?_⟩, hr.mem⟩
  unfold look at hx
  split at hx
  · rename_i e
    have e := Nat.eq_of_beq_eq_true e
    subst e
    simp at hx
    subst hx
    exact hr.tm.val _ _ hl
  · exact hr.tm.val t x hx

theorem xops_sound (hT : TabOk C.P C.T) {Q : Exit → Act → World → Prop} {full : List Oper} : ∀ {r : List Oper} {tm : List (Nat × SV)} {ob : List OB} {k : List (Nat × SV) → List OB → Prop} {σ : Nat → Nat} {fp : Nat → Nat → Prop} {a : Act} {w : World},
    xops C full r tm ob k → Rel C tm ob σ fp a w → (∀ tm ob σ fp a w, k tm ob → Rel C tm ob σ fp a w → Q .normal a w) → wpList C.P full.toArray Q r a w
  | [], tm, ob, k, σ, fp, a, w, h, hr, hk => hk _ _ _ _ _ _ h hr
  | o :: r, tm, ob, k, σ, fp, a, w, h, hr, hk => by
    have run : ∀ tm, Rel C tm ob σ fp a w → (xop C o tm ob fun x ob => putT C o.dst x tm fun tm => xops C full r tm ob k) → o.wp C.P a w (wpList C.P full.toArray Q r) Q := by
      intro tm hr hx
      refine xop_sound hT hx hr ?_
      rintro v w' ⟨x, ob', σ', fp', hp, hσ, hn, rfl, hw, hm, _⟩
      obtain ⟨tm', h1, h2⟩ := putT_spec (n := none) (σ' := σ') hp (hr.tm.ext hσ hn) hw
      exact xops_sound hT h1 ⟨h2, hm⟩ hk
    have skip : ∀ tm, Rel C tm ob σ fp a w → (putT C o.dst (.v undef) tm fun tm => xops C full r tm ob k) → wpList C.P full.toArray Q r (a.put o.dst undef) w := by
      intro tm hr hx
      obtain ⟨tm', h1, h2⟩ := putT_spec (n := none) (σ' := σ) hx hr.tm (x := .v undef) trivial
      exact xops_sound hT h1 ⟨h2, hr.mem⟩ hk
    have lit : ∀ d b, look tm d = some (.v (.bool b)) → Rel C ((d, .v (.bool b)) :: tm) ob σ fp a w := by
      intro d b hl
      refine ⟨⟨hr.tm.size, hr.tm.defers, fun t x hx => ?_⟩, hr.mem⟩
      unfold look at hx
      split at hx
      · rename_i e
        have e := Nat.eq_of_beq_eq_true e
        subst e
        simp at hx
        subst hx
        exact hr.tm.val _ _ hl
      · exact hr.tm.val t x hx
    unfold xops at h
    unfold wpList
    cases hg : o.guard with
    | none =>
      simp only [hg] at h
      rw [if_pos (by simp [Region.wanted, hg])]
      exact .inl (run _ hr h)
    | some jw =>
      obtain ⟨j, want⟩ := jw
      simp only [hg] at h
      split at h
      · rename_i g hj
        split at h
        · rename_i d hd
          split at h
          · rename_i b hl
            have hy := yield_spec hr.tm hj hd hl
            split at h
            · rw [xif_iff] at h
              cases b with
              | true => rw [if_pos (by simp [Region.wanted, hg, hy])]; exact .inl (run _ (lit _ _ hl) (h.1 rfl))
              | false => rw [if_neg (by simp [Region.wanted, hg, hy])]; exact skip _ (lit _ _ hl) (h.2 rfl)
            · rw [xif_iff] at h
              cases b with
              | true => rw [if_neg (by simp [Region.wanted, hg, hy])]; exact skip _ (lit _ _ hl) (h.1 rfl)
              | false => rw [if_pos (by simp [Region.wanted, hg, hy])]; exact .inl (run _ (lit _ _ hl) (h.2 rfl))
          · rename_i l hl
            have hy := yield_none hr.tm hj hd hl
            rw [if_neg (by simp [Region.wanted, hg, hy])]
            exact skip _ hr h
          · exact h.elim
        · exact h.elim
      · exact h.elim

theorem xcode_sound (hT : TabOk C.P C.T) : ∀ (c : Code) {tm : List (Nat × SV)} {ob : List OB} {K : Kx} {σ : Nat → Nat} {fp : Nat → Nat → Prop} {a : Act} {w : World},
    xcode C c tm ob K → Rel C tm ob σ fp a w → c.wp C.P (post C K) a w := by
  intro c
  induction c with
  | skip => intro tm ob K σ fp a w h hr; exact wp_skip ⟨tm, ob, σ, fp, h, hr⟩
  | label l => intro tm ob K σ fp a w h hr; exact wp_label ⟨tm, ob, σ, fp, h, hr⟩
  | exit i => intro tm ob K σ fp a w h hr; exact wp_exit ⟨tm, ob, σ, fp, h, hr⟩
  | ret => intro tm ob K σ fp a w h hr; exact wp_ret ⟨tm, ob, σ, fp, h, hr⟩
  | region id ops draw =>
    intro tm ob K σ fp a w h hr
    cases draw with
    | true =>
      replace h : DrawX C ops tm ob K := h
      unfold DrawX at h
      exact h id σ fp a w hr
    | false =>
      refine wp_region_list ?_
      have := xops_sound hT (full := ops.toList) (Q := post C K) h hr fun tm ob σ fp a w hk hr => ⟨tm, ob, σ, fp, hk, hr⟩
      simpa using this
  | seq x y ihx ihy =>
    intro tm ob K σ fp a w h hr
    refine wp_seq (wp_mono (ihx h hr) ?_)
    rintro e a' w' ⟨tm', ob', σ', fp', hk, hr'⟩
    cases e with
    | normal => exact ihy hk hr'
    | exit i => exact ⟨tm', ob', σ', fp', hk, hr'⟩
    | ret => exact ⟨tm', ob', σ', fp', hk, hr'⟩
    | goto l => exact hk.elim
    | panic l => exact hk.elim
    | outgrown => exact hk.elim
  | cond c x y ihx ihy =>
    intro tm ob K σ fp a w h hr
    replace h : condX c (xcode C x) (xcode C y) tm ob K := h
    unfold condX at h
    split at h
    · rename_i t he
      rw [xif_iff] at h
      have h1 := (ev_spec hr.tm he).1
      exact wp_cond_split h1 (fun ht => ihx (h.1 ht) hr) (fun ht => ihy (h.2 ht) hr)
    · exact h.elim
  | block id c ih =>
    intro tm ob K σ fp a w h hr
    refine wp_block (wp_mono (ih h hr) ?_)
    rintro e a' w' ⟨tm', ob', σ', fp', hk, hr'⟩
    cases e with
    | normal => exact ⟨tm', ob', σ', fp', hk, hr'⟩
    | exit i =>
      simp only at hk
      show if i = id then post C K .normal a' w' else post C K (.exit i) a' w'
      split at hk
      · rename_i e
        have e := Nat.eq_of_beq_eq_true e
        subst e
        rw [if_pos rfl]
        exact ⟨tm', ob', σ', fp', hk, hr'⟩
      · rename_i e
        rw [if_neg (fun e' => by simp [e'] at e)]
        exact ⟨tm', ob', σ', fp', hk, hr'⟩
    | ret => exact ⟨tm', ob', σ', fp', hk, hr'⟩
    | goto l => exact hk.elim
    | panic l => exact hk.elim
    | outgrown => exact hk.elim
  | loop c ih =>
    intro tm ob K σ fp a w h hr
    replace h : LoopX C c tm ob K := h
    unfold LoopX at h
    exact h σ fp a w hr
  | rangeFunc f ps x y _ _ => intro tm ob K σ fp a w h hr; exact h.elim
  | scope c _ => intro tm ob K σ fp a w h hr; exact h.elim
  | goto l => intro tm ob K σ fp a w h hr; exact h.elim
  | refuse s => intro tm ob K σ fp a w h hr; exact h.elim

end

/-! ### Functions -/
def resX (C : Ctx) (tm : List (Nat × SV)) (ob : List OB) : List ResultVar → Option (List SV)
  | [] => some []
  | .tmp t :: r => match look tm t, resX C tm ob r with
    | some x, some l => some (x :: l)
    | _, _ => none
  | .cell t ty :: r => match look tm t, lookT C.T ty with
    | some (.p j off), some ti => match nth ob j, resX C tm ob r with
      | some (.box _ cs), some l => match ti.agg with
        | true => match Nat.ble (off + ti.zero.length) cs.length with
          | true => some (.a (cut cs off ti.zero.length) :: l)
          | false => none
        | false => match nth cs off with
          | some x => some (x :: l)
          | none => none
      | _, _ => none
    | _, _ => none

def resSem (tmps : Array Value) : ResultVar → Sem Value
  | .tmp t => pure (tmps.getD t undef)
  | .cell a t => do loadVar t (← asAddr (tmps.getD a undef))
theorem results_eq (fn : Func) (tmps : Array Value) : results fn tmps = (do
    let vs ← fn.results.mapM (resSem tmps)
    pure (if h : vs.size = 1 then vs[0] else .tuple vs)) := by
  unfold results
  congr 2

/-- the end of a call: its result, and the memory -/
@[irreducible] def Fin (C : Ctx) (R : Ending → World → Prop) (x : SV) (ob : List OB) : Prop := ∀ σ fp w, Mem C σ fp ob w → x.wf ob.length → R (.returned (x.val σ)) w

def forceV (x : SV) (k : SV → Prop) : Prop :=
  match x with
  | .a l => force l fun l => k (.a l)
  | .v y => k (.v y)
  | .p j o => k (.p j o)
  | .t l => k (.t l)
  | .fn f l => k (.fn f l)
theorem forceV_eq (x : SV) (k : SV → Prop) : forceV x k = k x := by cases x <;> simp [forceV, force_eq]
def forceVs : List SV → (List SV → Prop) → Prop
  | [], k => k []
  | x :: r, k => forceV x fun x => forceVs r fun r => k (x :: r)
theorem forceVs_eq : ∀ (l : List SV) (k : List SV → Prop), forceVs l k = k l
  | [], _ => rfl
  | x :: r, k => by simp [forceVs, forceV_eq, forceVs_eq r]

def finX (C : Ctx) (R : Ending → World → Prop) (rs : List ResultVar) (tm : List (Nat × SV)) (ob : List OB) : Prop :=
  match resX C tm ob rs with
  | some [x] => forceV x fun x => Fin C R x ob
  | some l => forceVs l fun l => Fin C R (.t l) ob
  | none => False

def endX (C : Ctx) (R : Ending → World → Prop) (rs : List ResultVar) : Kx := fun e tm ob =>
  match e with
  | .normal => finX C R rs tm ob
  | .ret => finX C R rs tm ob
  | _ => False

def argsX : Nat → List SV → List (Nat × SV)
  | _, [] => []
  | n, x :: r => (n, x) :: argsX (n + 1) r

section
variable {C : Ctx} {tm : List (Nat × SV)} {ob : List OB} {σ : Nat → Nat} {fp : Nat → Nat → Prop} {a : Act} {w : World}

theorem resX_spec (hT : TabOk C.P C.T) (hr : Rel C tm ob σ fp a w) : ∀ {rs : List ResultVar} {l : List SV}, resX C tm ob rs = some l →
    (rs.mapM (resSem a.tmps)).run C.P w = .ok (SV.vals σ l) w ∧ SV.wfs ob.length l
  | [], l, h => by simp [resX] at h; subst h; exact ⟨by simp [SV.vals], trivial⟩
  | .tmp t :: r, l, h => by
    unfold resX at h
    split at h
    · rename_i x m hx hm
      simp at h
      subst h
      obtain ⟨h1, h2⟩ := hr.tm.val t x hx
      obtain ⟨h3, h4⟩ := resX_spec hT hr hm
      refine ⟨?_, h2, h4⟩
      simp only [List.mapM_cons, Sem.run_bind, Sem.run_pure, Result.andThen_ok, h3, h1, SV.vals, resSem]
    · cases h
  | .cell t ty :: r, l, h => by
    unfold resX at h
    split at h
    · rename_i j off ti hx ht
      split at h
      · rename_i bt cs m hb hm
        obtain ⟨h1, h2⟩ := hr.tm.val t _ hx
        obtain ⟨h3, h4⟩ := resX_spec hT hr hm
        obtain ⟨hid, hti⟩ := hT ty ti ht
        obtain ⟨hh, hf, hw, hj⟩ := nth_box hr.mem hb
        have key : ∀ x : SV, (loadVar ty ⟨σ j, off, none⟩).run C.P w = .ok (x.val σ) w → x.wf ob.length → some (x :: m) = some l → ((ResultVar.cell t ty :: r).mapM (resSem a.tmps)).run C.P w = .ok (SV.vals σ l) w ∧ SV.wfs ob.length l := by
          intro x hx hxw hl
          simp at hl
          subst hl
          refine ⟨?_, hxw, h4⟩
          simp only [List.mapM_cons, Sem.run_bind, Sem.run_pure, Result.andThen_ok, h3, h1, SV.vals, SV.val, asAddr, hx, resSem]
        split at h
        · rename_i hagg
          split at h
          · rename_i hle
            have hle := Nat.le_of_ble_eq_true hle
            rw [cut_eq] at h
            obtain ⟨d, hd, hrow⟩ := hti.under
            have hl := run_loadVar_mid (P := C.P) w (σ j) off ti.id (((SV.vals σ cs).drop off).take ti.zero.length) d (by
              intro i v hv
              rw [List.getElem?_take] at hv
              split at hv
              · rw [List.getElem?_drop] at hv
                simpa [World.cell?, hh] using hv
              · cases hv) hd (by rw [hrow, hagg]) (by rw [hti.info]; simp [vals_length]; omega)
            rw [hid] at hl
            exact key (.a ((cs.drop off).take ti.zero.length)) (by rw [hl, SV.val, vals_cut]) (wfs_cut hw _ _) h
          · cases h
        · rename_i hagg
          split at h
          · rename_i x hx'
            rw [nth_eq] at hx'
            have hl := load_one hti hagg (show w.cell? ⟨σ j, off, none⟩ = some (x.val σ) by simp [World.cell?, hh, vals_get, hx'])
            rw [hid] at hl
            exact key _ hl (wfs_get hw hx') h
          · cases h
      · cases h
    · cases h

theorem results_of (fn : Func) (hT : TabOk C.P C.T) (hr : Rel C tm ob σ fp a w) {l : List SV} (h : resX C tm ob fn.results.toList = some l) :
    (results fn a.tmps).run C.P w = .ok (match l with | [x] => x.val σ | l => (SV.t l).val σ) w ∧ SV.wfs ob.length l := by
  obtain ⟨h1, h2⟩ := resX_spec hT hr h
  refine ⟨?_, h2⟩
  rw [results_eq]
  have e : (fn.results.mapM (resSem a.tmps)).run C.P w = .ok (SV.vals σ l).toArray w := by
    rw [← Array.toArray_toList (xs := fn.results), List.mapM_toArray]
    simp only [Sem.run_map, h1, Result.andThen_ok]
  simp only [Sem.run_bind]
  rw [e]
  simp only [Result.andThen_ok, Sem.run_pure]
  congr 1
  match l with
  | [] => simp [SV.vals, SV.val]
  | [x] => simp [SV.vals]
  | x :: y :: r => simp [SV.vals, SV.val]

theorem finX_spec (fn : Func) (hT : TabOk C.P C.T) (hr : Rel C tm ob σ fp a w) {R : Ending → World → Prop} (h : finX C R fn.results.toList tm ob) : a.defers = [] ∧ ∃ v, (results fn a.tmps).run C.P w = .ok v w ∧ R (.returned v) w := by
  refine ⟨hr.tm.defers, ?_⟩
  unfold finX at h
  cases hl : resX C tm ob fn.results.toList with
  | none => rw [hl] at h; exact h.elim
  | some l =>
    obtain ⟨h1, h2⟩ := results_of fn hT hr hl
    rw [hl] at h
    refine ⟨_, h1, ?_⟩
    match l, h, h2 with
    | [], h, h2 => simp only [forceVs_eq] at h; unfold Fin at h; exact h σ fp w hr.mem h2
    | [x], h, h2 => simp only [forceV_eq] at h; unfold Fin at h; exact h σ fp w hr.mem h2.1
    | x :: y :: r, h, h2 => simp only [forceVs_eq] at h; unfold Fin at h; exact h σ fp w hr.mem h2

theorem look_args {n : Nat} : ∀ (l : List SV) (s t : Nat) (x : SV), SV.wfs n l → look (argsX s l) t = some x → (SV.vals σ l)[t - s]? = some (x.val σ) ∧ s ≤ t ∧ x.wf n
  | [], s, t, x, _, h => by simp [argsX, look] at h
  | y :: r, s, t, x, hw, h => by
    unfold argsX look at h
    split at h
    · rename_i e
      have e := Nat.eq_of_beq_eq_true e
      simp at h
      subst e h
      exact ⟨by simp [SV.vals], Nat.le_refl _, hw.1⟩
    · obtain ⟨h1, h2, h3⟩ := look_args r (s + 1) t x hw.2 h
      refine ⟨?_, by omega, h3⟩
      rw [show t - s = (t - (s + 1)) + 1 by omega]
      simpa [SV.vals] using h1

/-- a function's contract by the executor -/
theorem calls_of_x (hT : TabOk C.P C.T) {f : FuncId} {fn : Func} {c : Code} {args : List SV} {R : Ending → World → Prop} (hf : C.P.funcs[f]? = some fn) (hb : fn.body = some c) (hn : fn.ntmps = C.n) (hl : args.length ≤ C.n)
    (hw : SV.wfs ob.length args) (hm : Mem C σ fp ob w) (h : xcode C c (argsX 0 args) ob (endX C R fn.results.toList)) : Calls C.P f (SV.vals σ args).toArray w R := by
  refine calls_of_wp hf hb ?_
  have hr : Rel C (argsX 0 args) ob σ fp { tmps := (SV.vals σ args).toArray ++ Array.replicate (fn.ntmps - (SV.vals σ args).toArray.size) undef, defers := [] } w := by
    refine ⟨⟨by simp [vals_length, hn]; omega, rfl, fun t x hx => ?_⟩, hm⟩
    obtain ⟨h1, _, h3⟩ := look_args (σ := σ) args 0 t x hw hx
    refine ⟨?_, h3⟩
    simp only [Nat.sub_zero] at h1
    have hlt := (List.getElem?_eq_some_iff.1 h1).1
    have h4 := (List.getElem?_eq_some_iff.1 h1).2
    simp [Array.getElem?_append, hlt, h4]
  refine wp_mono (xcode_sound hT c h hr) ?_
  rintro e a' w' ⟨tm', ob', σ', fp', hk, hr'⟩
  cases e with
  | normal => exact finX_spec fn hT hr' hk
  | ret => exact finX_spec fn hT hr' hk
  | exit i => exact hk.elim
  | goto l => exact hk.elim
  | panic l => exact hk.elim
  | outgrown => exact hk.elim

end
end Go.Proofs.Ytodaijlclbngbaa.En
