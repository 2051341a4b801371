/- The symbolic executor in a region that draws its order. -/
import Derived.Test.YtodaijlclbngbaaEn9
set_option linter.all false
namespace Go.Proofs.Ytodaijlclbngbaa.En
open Go.RowKit

structure SP where
  i : Nat
  o : Oper
  tm : List (Nat × SV)
  x : SV

@[irreducible] def andX (p : Prop) (k : Unit → Prop) : Prop := p ∧ k ()
theorem andX_iff {p : Prop} {k : Unit → Prop} : andX p k ↔ p ∧ k () := by unfold andX; exact Iff.rfl
theorem andX_i {p : Prop} {k : Unit → Prop} (h1 : p) (h2 : k ()) : andX p k := andX_iff.2 ⟨h1, h2⟩

/-- what was read is read again -/
def vX (C : Ctx) (ob : List OB) : List SP → (Unit → Prop) → Prop
  | [], k => k ()
  | p :: r, k => andX (xval C p.o p.tm ob fun x => x = p.x) fun _ => vX C ob r k

def pureOp : Op → Bool
  | .move _ | .assign _ | .pick .. | .extract .. | .unOp .. => true
  | _ => false

def bindsG : Ground → Bool
  | .textOnly _ => false
  | .gcOnly _ => false
  | _ => true
def depL : List Edge → Nat → Bool
  | [], _ => false
  | e :: r, p => match bindsG e.ground, Nat.beq e.on p with
    | true, true => true
    | _, _ => depL r p
def filtK (es : List Edge) : List SP → (List SP → Prop) → Prop
  | [], k => k []
  | p :: r, k => match depL es p.i with
    | true => filtK es r k
    | false => filtK es r fun r' => k (p :: r')

def runS (C : Ctx) (o : Oper) (i : Nat) (pd : List SP) (tm : List (Nat × SV)) (ob : List OB) (kk : List SP → List (Nat × SV) → List OB → Prop) : Prop :=
  match isVal o.op with
  | true => xval C o tm ob fun x => putT C o.dst x tm fun tm' => match pureOp o.op with
    | true => kk pd tm' ob
    | false => kk (⟨i, o, tm, x⟩ :: pd) tm' ob
  | false => xop C o tm ob fun x ob' => filtK o.after.toList pd fun pd' => vX C ob' pd' fun _ => putT C o.dst x tm fun tm' => kk pd' tm' ob'
def skipS (C : Ctx) (o : Oper) (pd : List SP) (tm : List (Nat × SV)) (ob : List OB) (kk : List SP → List (Nat × SV) → List OB → Prop) : Prop :=
  putT C o.dst (.v undef) tm fun tm' => match isVal o.op with
    | true => kk pd tm' ob
    | false => filtK o.after.toList pd fun pd' => kk pd' tm' ob

def xsch (C : Ctx) (full : List Oper) : List Nat → List SP → List (Nat × SV) → List OB → (List (Nat × SV) → List OB → Prop) → Prop
  | [], _, tm, ob, k => k tm ob
  | i :: r, pd, tm, ob, k => match nth full i with
    | none => False
    | some o => match o.guard with
      | none => runS C o i pd tm ob fun pd tm ob => xsch C full r pd tm ob k
      | some (j, want) => match nth full j with
        | some g => match g.dst with
          | some d => match look tm d with
            | some (.v (.bool b)) => match want with
              | true => xif b (fun _ => runS C o i pd ((d, .v (.bool true)) :: tm) ob fun pd tm ob => xsch C full r pd tm ob k) (fun _ => skipS C o pd ((d, .v (.bool false)) :: tm) ob fun pd tm ob => xsch C full r pd tm ob k)
              | false => xif b (fun _ => skipS C o pd ((d, .v (.bool true)) :: tm) ob fun pd tm ob => xsch C full r pd tm ob k) (fun _ => runS C o i pd ((d, .v (.bool false)) :: tm) ob fun pd tm ob => xsch C full r pd tm ob k)
            | some (.v (.tuple _)) => skipS C o pd tm ob fun pd tm ob => xsch C full r pd tm ob k
            | _ => False
          | none => False
        | none => False

section
variable {C : Ctx} {ob : List OB} {σ : Nat → Nat} {fp : Nat → Nat → Prop} {a : Act} {w : World}

theorem Mem.drew (h : Mem C σ fp ob w) : Mem C σ fp ob w.drew :=
  ⟨fun k o hk => OB.at_ext (h.at_ k o hk) (fun _ _ => rfl) (Nat.le_refl _) fun _ _ => rfl, h.disj, h.lo, h.hi, ⟨h.kept.os, h.kept.tape, h.kept.output, h.kept.size, h.kept.block⟩, h.pin, fun hd => Nat.le_succ_of_le (h.drw hd)⟩

theorem pure_any {P : Program} {o : Oper} {ρ : Operand → Value} {v : Value} {w : World} (hp : pureOp o.op = true) (h : (execOp ρ o).run P w = .ok (.value v) w) (w' : World) : (execOp ρ o).run P w' = .ok (.value v) w' := by
  obtain ⟨dst, op, ty, pos, after, guard⟩ := o
  cases op <;> simp only [pureOp, Bool.false_eq_true] at hp
  case move x => simp [execOp] at h ⊢; exact h
  case assign x => simp [execOp] at h ⊢; exact h
  case pick c x y =>
    simp only [execOp, Sem.run_bind] at h ⊢
    cases hc : ρ c <;> simp [hc, asBool, stuck, Sem.run] at h ⊢
    exact h
  case extract x i =>
    simp only [execOp, Instr.extract, Sem.run_bind] at h ⊢
    cases hc : ρ x <;> simp [hc, stuck, Sem.run] at h ⊢
    rename_i vs
    cases hi : vs[i]? <;> simp [hi, stuck, Sem.run] at h ⊢
    exact h
  case unOp op t x =>
    simp only [execOp, Sem.run_bind] at h ⊢
    cases op <;> cases hc : ρ x <;> simp [hc, Op.unary, Op.intArith, Op.intBits, stuck, unsupported, Sem.run] at h ⊢ <;> first | exact h | (rename_i q; cases q <;> simp [stuck, unsupported, Sem.run] at h)

theorem depL_eq (ops : Array Oper) {i p : Nat} {o : Oper} (hi : ops[i]? = some o) : dep ops i p = depL o.after.toList p := by
  have key : ∀ l : List Edge, (l.any fun e => Region.binds .any e && e.on == p) = depL l p := by
    intro l
    induction l with
    | nil => rfl
    | cons e r ih =>
      have hb : Region.binds .any e = bindsG e.ground := by
        unfold Region.binds bindsG
        cases e.ground <;> rfl
      rw [List.any_cons, ih, hb]
      show _ = (match bindsG e.ground, Nat.beq e.on p with | true, true => true | _, _ => depL r p)
      cases bindsG e.ground with
      | false => simp
      | true =>
        cases hq : Nat.beq e.on p with
        | true => simp [Nat.eq_of_beq_eq_true hq]
        | false =>
          have : e.on ≠ p := fun e' => by simp [e'] at hq
          simp [this]
  simp only [dep, hi, Option.map_some, Option.getD_some]
  rw [← key, Array.any_toList]

theorem filtK_spec {es : List Edge} : ∀ {pd : List SP} {k : List SP → Prop}, filtK es pd k → k (pd.filter fun p => !depL es p.i)
  | [], k, h => h
  | p :: r, k, h => by
    unfold filtK at h
    split at h
    · rename_i hd
      simpa [List.filter_cons, hd] using filtK_spec h
    · rename_i hd
      have := filtK_spec h
      simpa [List.filter_cons, hd] using this

/-- what is to be read again -/
def PInv (C : Ctx) (ops : Array Oper) (σ : Nat → Nat) (n : Nat) (pd : List SP) (pend : List Pend) : Prop :=
  ∀ p ∈ pend, (∀ w, YW C.P ops p w) ∨ ∃ s ∈ pd, s.i = p.i ∧ ops[p.i]? = some s.o ∧ Region.wanted s.o (yielded ops p.a.tmps) = true ∧ Tm C σ n s.tm p.a ∧ p.v = s.x.val σ ∧ s.x.wf n

theorem vX_spec : ∀ {pd : List SP} {k : Unit → Prop}, vX C ob pd k → (∀ s ∈ pd, xval C s.o s.tm ob fun x => x = s.x) ∧ k ()
  | [], k, h => ⟨by simp, h⟩
  | p :: r, k, h => by
    unfold vX at h
    rw [andX_iff] at h
    obtain ⟨h1, h2⟩ := vX_spec h.2
    refine ⟨fun s hs => ?_, h2⟩
    rcases List.mem_cons.1 hs with rfl | hs
    · exact h.1
    · exact h1 s hs

theorem PInv.again (hT : TabOk C.P C.T) {ops : Array Oper} {n : Nat} {pd : List SP} {pend : List Pend} (h : PInv C ops σ n pd pend) {σ' : Nat → Nat} {fp' : Nat → Nat → Prop} {ob' : List OB} {w' : World} (hσ : ∀ j, j < n → σ' j = σ j) (hn : n ≤ ob'.length)
    (hm : Mem C σ' fp' ob' w') {i : Nat} {o : Oper} (hi : ops[i]? = some o) (hv : ∀ s ∈ pd.filter (fun p => !depL o.after.toList p.i), xval C s.o s.tm ob' fun x => x = s.x) :
    (∀ p ∈ pend, dep ops i p.i = false → YW C.P ops p w') ∧ PInv C ops σ' ob'.length (pd.filter fun p => !depL o.after.toList p.i) (pend.filter fun p => !dep ops i p.i) := by
  refine ⟨fun p hp hd => ?_, fun p hp => ?_⟩
  · rcases h p hp with h1 | ⟨s, hs, h1, h2, h3, h4, h5, h6⟩
    · exact h1 w'
    · rw [depL_eq ops hi, ← h1] at hd
      obtain ⟨x, hx, hrun, _⟩ := xval_sound hT (hv s (List.mem_filter.2 ⟨hs, by simp [hd]⟩)) (h4.ext hσ hn) hm
      subst hx
      refine ⟨s.o, h2, .inl ⟨h3, ?_⟩⟩
      rw [h5, ← SV.val_ext hσ s.x h6]
      exact hrun
  · obtain ⟨hp1, hp2⟩ := List.mem_filter.1 hp
    rcases h p hp1 with h1 | ⟨s, hs, h1, h2, h3, h4, h5, h6⟩
    · exact .inl h1
    · refine .inr ⟨s, List.mem_filter.2 ⟨hs, ?_⟩, h1, h2, h3, h4.ext hσ hn, by rw [h5, SV.val_ext hσ s.x h6], SV.wf_mono hn _ h6⟩
      rw [depL_eq ops hi, ← h1] at hp2
      exact hp2

theorem PInv.filt {ops : Array Oper} {n : Nat} {pd : List SP} {pend : List Pend} (h : PInv C ops σ n pd pend) {i : Nat} {o : Oper} (hi : ops[i]? = some o) : PInv C ops σ n (pd.filter fun p => !depL o.after.toList p.i) (pend.filter fun p => !dep ops i p.i) := by
  intro p hp
  obtain ⟨hp1, hp2⟩ := List.mem_filter.1 hp
  rcases h p hp1 with h1 | ⟨s, hs, h1, h2⟩
  · exact .inl h1
  · refine .inr ⟨s, List.mem_filter.2 ⟨hs, ?_⟩, h1, h2⟩
    rw [depL_eq ops hi, ← h1] at hp2
    exact hp2

theorem xsch_sound (hT : TabOk C.P C.T) {Q : Act → World → Prop} {full : List Oper} : ∀ {sch : List Nat} {pd : List SP} {pend : List Pend} {tm : List (Nat × SV)} {ob : List OB} {k : List (Nat × SV) → List OB → Prop} {σ : Nat → Nat} {fp : Nat → Nat → Prop} {a : Act} {w : World},
    xsch C full sch pd tm ob k → Rel C tm ob σ fp a w → PInv C full.toArray σ ob.length pd pend → (∀ p ∈ pend, YW C.P full.toArray p w) → (∀ tm ob σ fp a w, k tm ob → Rel C tm ob σ fp a w → Q a w) →
    wpS C.P full.toArray (onlyN Q) sch pend a w
  | [], pd, pend, tm, ob, k, σ, fp, a, w, h, hr, hp, hpw, hk => hk _ _ _ _ _ _ h hr
  | i :: r, pd, pend, tm, ob, k, σ, fp, a, w, h, hr, hp, hpw, hk => by
    unfold xsch at h
    cases hn : nth full i with
    | none => simp [hn] at h
    | some o =>
      simp only [hn] at h
      have hi : full.toArray[i]? = some o := by simpa [nth_eq] using hn
      have run : ∀ tm, Rel C tm ob σ fp a w → Region.wanted o (yielded full.toArray a.tmps) = true → (runS C o i pd tm ob fun pd tm ob => xsch C full r pd tm ob k) → wpS C.P full.toArray (onlyN Q) (i :: r) pend a w := by
        intro tm hr hw hx
        unfold wpS
        simp only [hi]
        unfold runS at hx
        cases hv : isVal o.op with
        | true =>
          simp only [hv] at hx ⊢
          obtain ⟨x, h1, hrun, hwf⟩ := xval_sound hT hx hr.tm hr.mem
          obtain ⟨tm', h2, h3⟩ := putT_spec (n := none) (σ' := σ) h1 hr.tm hwf
          refine ⟨x.val σ, .inl ⟨hw, hrun⟩, ?_⟩
          have hpw' : ∀ p ∈ (⟨i, a, x.val σ⟩ : Pend) :: pend, YW C.P full.toArray p w := by
            intro p hpm
            rcases List.mem_cons.1 hpm with rfl | hpm
            · exact ⟨o, hi, .inl ⟨hw, hrun⟩⟩
            · exact hpw p hpm
          split at h2
          · rename_i hpo
            refine xsch_sound hT h2 ⟨h3, hr.mem⟩ ?_ hpw' hk
            intro p hpm
            rcases List.mem_cons.1 hpm with rfl | hpm
            · exact .inl fun w' => ⟨o, hi, .inl ⟨hw, pure_any hpo hrun w'⟩⟩
            · exact hp p hpm
          · refine xsch_sound hT h2 ⟨h3, hr.mem⟩ ?_ hpw' hk
            intro p hpm
            rcases List.mem_cons.1 hpm with rfl | hpm
            · exact .inr ⟨_, List.mem_cons_self, rfl, hi, hw, hr.tm, rfl, hwf⟩
            · rcases hp p hpm with h4 | ⟨s, hs, h5⟩
              · exact .inl h4
              · exact .inr ⟨s, List.mem_cons_of_mem _ hs, h5⟩
        | false =>
          simp only [hv] at hx ⊢
          unfold wpOp
          simp only [hi, hw, if_true]
          refine .inl (xop_sound hT hx hr ?_)
          rintro v w' ⟨x, ob', σ', fp', hf, hσ, hn', rfl, hwf, hm, hfr⟩
          obtain ⟨h1, h2⟩ := vX_spec (filtK_spec hf)
          obtain ⟨h3, h4⟩ := hp.again hT hσ hn' hm hi h1
          refine ⟨h3, ?_⟩
          obtain ⟨tm', h5, h6⟩ := putT_spec (n := none) (σ' := σ') h2 (hr.tm.ext hσ hn') hwf
          exact xsch_sound hT h5 ⟨h6, hm⟩ h4 (fun p hpm => h3 p (List.mem_filter.1 hpm).1 (by simpa using (List.mem_filter.1 hpm).2)) hk
      have skip : ∀ tm, Rel C tm ob σ fp a w → Region.wanted o (yielded full.toArray a.tmps) = false → (skipS C o pd tm ob fun pd tm ob => xsch C full r pd tm ob k) → wpS C.P full.toArray (onlyN Q) (i :: r) pend a w := by
        intro tm hr hw hx
        unfold skipS at hx
        obtain ⟨tm', h2, h3⟩ := putT_spec (n := none) (σ' := σ) hx hr.tm (x := .v undef) trivial
        unfold wpS
        simp only [hi]
        cases hv : isVal o.op with
        | true =>
          simp only [hv] at h2 ⊢
          refine ⟨undef, .inr ⟨hw, rfl⟩, xsch_sound hT h2 ⟨h3, hr.mem⟩ ?_ ?_ hk⟩
          · intro p hpm
            rcases List.mem_cons.1 hpm with rfl | hpm
            · exact .inl fun w' => ⟨o, hi, .inr ⟨hw, rfl⟩⟩
            · exact hp p hpm
          · intro p hpm
            rcases List.mem_cons.1 hpm with rfl | hpm
            · exact ⟨o, hi, .inr ⟨hw, rfl⟩⟩
            · exact hpw p hpm
        | false =>
          simp only [hv] at h2 ⊢
          unfold wpOp
          simp only [hi, hw, Bool.false_eq_true, if_false]
          have h5 := filtK_spec h2
          exact ⟨fun p hpm _ => hpw p hpm, xsch_sound hT h5 ⟨h3, hr.mem⟩ (hp.filt hi) (fun p hpm => hpw p (List.mem_filter.1 hpm).1) hk⟩
      cases hg : o.guard with
      | none =>
        simp only [hg] at h
        exact run tm hr (by simp [Region.wanted, hg]) h
      | some jw =>
        obtain ⟨j, want⟩ := jw
        simp only [hg] at h
        split at h
        · rename_i g hj
          split at h
          · rename_i d hd
            split at h
            · rename_i b hl
              have hy := yield_spec hr.tm hj hd hl
              have lit : Rel C ((d, .v (.bool b)) :: tm) ob σ fp a w := hr.lit hl
              split at h
              · rw [xif_iff] at h
                cases b with
                | true => exact run _ lit (by simp [Region.wanted, hg, hy]) (h.1 rfl)
                | false => exact skip _ lit (by simp [Region.wanted, hg, hy]) (h.2 rfl)
              · rw [xif_iff] at h
                cases b with
                | true => exact skip _ lit (by simp [Region.wanted, hg, hy]) (h.1 rfl)
                | false => exact run _ lit (by simp [Region.wanted, hg, hy]) (h.2 rfl)
            · rename_i l hl
              have hy := yield_none hr.tm hj hd hl
              exact skip _ hr (by simp [Region.wanted, hg, hy]) h
            · exact h.elim
          · exact h.elim
        · exact h.elim

theorem DrawX_of {K : Kx} {tm : List (Nat × SV)} {ops : Array Oper} (hT : TabOk C.P C.T) (sch : List Nat) (hm : C.P.follows .mixedOrders = true) (hc : (Region.noSelect ops && Nat.beq sch.length ops.size && chkS ops sch (Array.replicate ops.size false)) = true)
    (h : xsch C ops.toList sch [] tm ob fun tm ob => K .normal tm ob) : DrawX C ops tm ob K := by
  unfold DrawX
  intro id σ fp a w hr
  simp only [Bool.and_eq_true] at hc
  refine wp_region_S (Q := post C K) hm hc.1.1 sch (Nat.eq_of_beq_eq_true hc.1.2) hc.2 ?_
  have := xsch_sound hT (full := ops.toList) (pend := []) (Q := post C K .normal) h ⟨hr.tm, hr.mem.drew⟩ (by intro p hp; simp at hp) (by simp) fun tm ob σ fp a w hk hr => ⟨tm, ob, σ, fp, hk, hr⟩
  simpa using this
/-! the order in which such a region is walked: what computes and reads as early as it can -/
def memN (x : Nat) : List Nat → Bool
  | [] => false
  | y :: r => match Nat.beq x y with
    | true => true
    | false => memN x r
def readyL (done : List Nat) : List Edge → Bool
  | [] => true
  | e :: r => match bindsG e.ground, memN e.on done with
    | true, false => false
    | _, _ => readyL done r
/-- the first that is ready (and computes), taken out -/
def takeK (v : Bool) (done : List Nat) : List (Nat × Oper) → (Nat → List (Nat × Oper) → Prop) → (Unit → Prop) → Prop
  | [], _, no => no ()
  | (i, o) :: r, yes, no => match readyL done o.after.toList, v, isVal o.op with
    | true, true, true => yes i r
    | true, false, _ => yes i r
    | _, _, _ => takeK v done r (fun j r' => yes j ((i, o) :: r')) no
def canonK : Nat → List (Nat × Oper) → List Nat → (List Nat → Prop) → Prop
  | 0, _, done, k => force done.reverse k
  | f + 1, rem, done, k => takeK true done rem (fun i r => canonK f r (i :: done) k) fun _ => takeK false done rem (fun i r => canonK f r (i :: done) k) fun _ => force done.reverse k
def zipL {α : Type} : List Nat → List α → List (Nat × α)
  | m :: ms, x :: r => (m, x) :: zipL ms r
  | _, _ => []

theorem takeK_spec {v : Bool} {done : List Nat} : ∀ {l : List (Nat × Oper)} {yes : Nat → List (Nat × Oper) → Prop} {no : Unit → Prop}, takeK v done l yes no → (∃ i r, yes i r) ∨ no ()
  | [], yes, no, h => .inr h
  | (i, o) :: r, yes, no, h => by
    unfold takeK at h
    split at h
    · exact .inl ⟨_, _, h⟩
    · exact .inl ⟨_, _, h⟩
    · rcases takeK_spec h with ⟨j, r', h1⟩ | h1
      · exact .inl ⟨_, _, h1⟩
      · exact .inr h1
theorem canonK_spec : ∀ {f : Nat} {rem : List (Nat × Oper)} {done : List Nat} {k : List Nat → Prop}, canonK f rem done k → ∃ sch, k sch
  | 0, rem, done, k, h => by
    unfold canonK at h
    rw [force_eq] at h
    exact ⟨_, h⟩
  | f + 1, rem, done, k, h => by
    unfold canonK at h
    rcases takeK_spec h with ⟨i, r, h1⟩ | h1
    · exact canonK_spec h1
    · rcases takeK_spec h1 with ⟨i, r, h2⟩ | h2
      · exact canonK_spec h2
      · rw [force_eq] at h2
        exact ⟨_, h2⟩

@[irreducible] def DrawK (C : Ctx) (ops : Array Oper) (sch : List Nat) (tm : List (Nat × SV)) (ob : List OB) (K : Kx) : Prop :=
  (Region.noSelect ops && Nat.beq sch.length ops.size && chkS ops sch (Array.replicate ops.size false)) = true ∧ xsch C ops.toList sch [] tm ob fun tm ob => K .normal tm ob
theorem DrawK_i {K : Kx} {tm : List (Nat × SV)} {ops : Array Oper} {sch : List Nat} (hc : (Region.noSelect ops && Nat.beq sch.length ops.size && chkS ops sch (Array.replicate ops.size false)) = true) (h : xsch C ops.toList sch [] tm ob fun tm ob => K .normal tm ob) : DrawK C ops sch tm ob K := by
  unfold DrawK
  exact ⟨hc, h⟩
theorem DrawX_k {K : Kx} {tm : List (Nat × SV)} {ops : Array Oper} (hT : TabOk C.P C.T) (hm : C.P.follows .mixedOrders = true) (h : canonK ops.size (zipL lits ops.toList) [] fun sch => DrawK C ops sch tm ob K) : DrawX C ops tm ob K := by
  obtain ⟨sch, hs⟩ := canonK_spec h
  unfold DrawK at hs
  exact DrawX_of hT sch hm hs.1 hs.2
end
end Go.Proofs.Ytodaijlclbngbaa.En
