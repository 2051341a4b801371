/- The symbolic executor: calls in general: of functions that are handed objects of the caller, change them, and make new ones. -/
/- The symbolic executor: slice expressions on slices, clear. -/
import Derived.Test.YtadichckbogcjaaDoorEnC
set_option linter.all false
namespace Go.Proofs.YtadichckbogcjaaDoor.En
open Go.RowKit

theorem Mem.ctx {C C' : Ctx} {σ : Nat → Nat} {fp : Nat → Nat → Prop} {ob : List OB} {w : World} (h : Mem C σ fp ob w) (h1 : C'.M = C.M) (h2 : C'.w0 = C.w0) (h3 : C'.m = C.m) (h4 : C'.π = C.π) (h5 : C'.d = C.d) : Mem C' σ fp ob w :=
  ⟨h.at_, h.disj, by rw [h1, h2]; exact h.lo, h.hi, by rw [h1, h2]; exact h.kept, by rw [h3, h4]; exact h.pin, by rw [h2, h5]; exact h.drw⟩

theorem Mem.ren {C : Ctx} {σ : Nat → Nat} {fp : Nat → Nat → Prop} {ob ob' : List OB} {w : World} {r : List Nat} (h : entO r ob'.length ob r ob') (hnd : r.Nodup) (hp : pinB C.m 0 r = true) (hm : Mem C σ fp ob w) :
    Mem C (fun j => σ (r.getD j 0)) (fun j => fp (r.getD j 0)) ob' w :=
  (Ent.rel (C := C) (r := r) (tm := []) (tm' := []) (a := { tmps := Array.replicate C.n undef, defers := [] }) ⟨trivial, h, hnd, hp⟩ ⟨⟨by simp, rfl, fun t x hx => by simp [look] at hx⟩, hm⟩).mem

/-- the blocks of the objects that are handed over -/
def MOf (n : Nat) (fp : Nat → Nat → Prop) : Nat → Prop := fun b => ∃ j, j < n ∧ fp j b

def CallM (P : Program) (f : FuncId) (args : List SV) (pre : World → (Nat → Prop) → Prop) (os0 : List OB) {ι : Type} (x : ι → SV) (os1 : ι → List OB) : Prop :=
  Entr P f ∧ SV.wfs os0.length args ∧ ∀ σ fp w, Mem ⟨P, [], 0, w, MOf os0.length fp, os0.length, σ, false⟩ σ fp os0 w → pre w (MOf os0.length fp) →
    Calls P f (SV.vals σ args).toArray w fun e w' => ∃ i σ' fp', e = .returned ((x i).val σ') ∧ (x i).wf (os1 i).length ∧ Mem ⟨P, [], 0, w, MOf os0.length fp, os0.length, σ, false⟩ σ' fp' (os1 i) w'

/-- what such a function's end shows -/
def RetM (P : Program) (w : World) (M : Nat → Prop) (m : Nat) (π : Nat → Nat) {ι : Type} (x : ι → SV) (os1 : ι → List OB) (e : Ending) (w' : World) : Prop :=
  ∃ i σ' fp', e = .returned ((x i).val σ') ∧ (x i).wf (os1 i).length ∧ Mem ⟨P, [], 0, w, M, m, π, false⟩ σ' fp' (os1 i) w'

theorem CallM.of {P : Program} {T : List TI} {f : FuncId} {fn : Func} {cd : Code} {args : List SV} {pre : World → (Nat → Prop) → Prop} {os0 : List OB} {ι : Type} {x : ι → SV} {os1 : ι → List OB} {m : Nat} (hf : P.funcs[f]? = some fn) (hb : fn.body = some cd) (hT : TabOk P T) (hname : (fn.name == "runtime.NumGoroutine") = false) (hl : Nat.ble args.length fn.ntmps = true) (hl' : Nat.ble args.length 300 = true)
    (hm : os0.length = m) (hw : SV.wfs m args) (h : ∀ w M π, pre w M → force (argsL lits args) fun tm => force os0 fun ob => xcode ⟨P, T, fn.ntmps, w, M, m, π, false⟩ cd tm ob (endX ⟨P, T, fn.ntmps, w, M, m, π, false⟩ (RetM P w M m π x os1) fn.results.toList)) : CallM P f args pre os0 x os1 := by
  subst hm
  refine ⟨Entr.of hf hname hb, hw, fun σ fp w hM hp => ?_⟩
  exact calls_of_x (C := ⟨P, T, fn.ntmps, w, MOf os0.length fp, os0.length, σ, false⟩) (σ := σ) (ob := os0) hT hf hb rfl (Nat.le_of_ble_eq_true hl) hw (hM.ctx rfl rfl rfl rfl rfl) (by have := h w (MOf os0.length fp) σ hp; rwa [force_eq, force_eq, argsL_eq (Nat.le_of_ble_eq_true hl')] at this)

theorem Fin_m {P : Program} {T : List TI} {n m : Nat} {w : World} {M : Nat → Prop} {π : Nat → Nat} {ι : Type} {x : ι → SV} {os1 : ι → List OB} {y : SV} {ob : List OB} (i : ι) (r : List Nat) (hy : y = (x i).ren r ∧ (x i).wf (os1 i).length) (ho : entO r (os1 i).length ob r (os1 i)) (hnd : r.Nodup) (hp : pinB m 0 r = true) :
    Fin ⟨P, T, n, w, M, m, π, false⟩ (RetM P w M m π x os1) y ob := by
  unfold Fin
  intro σ fp w' hm _
  refine ⟨i, _, _, ?_, hy.2, (Mem.ren (C := ⟨P, T, n, w, M, m, π, false⟩) ho hnd hp hm).ctx rfl rfl rfl rfl rfl⟩
  rw [hy.1, val_ren]

/-! ### the caller's side -/
def drK {α β : Type} : List α → List β → List β
  | [], l => l
  | _ :: _, [] => []
  | _ :: r, _ :: l => drK r l
def tkK {α : Type} : List α → List Nat → (List Nat → Prop) → Prop
  | [], _, k => k []
  | _ :: _, [], _ => False
  | _ :: r, m :: l, k => tkK r l fun x => k (m :: x)
mutual
def renK (ρ : List Nat) : SV → (SV → Prop) → Prop
  | .v x, k => k (.v x)
  | .p j off, k => match nth ρ j with
    | some n => k (.p n off)
    | none => False
  | .a l, k => renKs ρ l fun l => k (.a l)
  | .t l, k => renKs ρ l fun l => k (.t l)
  | .fn f l, k => renKs ρ l fun l => k (.fn f l)
def renKs (ρ : List Nat) : List SV → (List SV → Prop) → Prop
  | [], k => k []
  | x :: l, k => renK ρ x fun x => renKs ρ l fun l => k (x :: l)
end
def OB.ren (ρ : List Nat) : OB → OB
  | .box t cs => .box t (SV.rens ρ cs)
  | o => o
def renOs (ρ : List Nat) : List OB → (List OB → Prop) → Prop
  | [], k => k []
  | .box t cs :: l, k => renKs ρ cs fun cs => renOs ρ l fun l => k (.box t cs :: l)
  | .row e sz A n c els :: l, k => renOs ρ l fun l => k (.row e sz A n c els :: l)
  | .res R :: l, k => renOs ρ l fun l => k (.res R :: l)
def putO : List Nat → List OB → List OB → List OB
  | [], os, ob => ob ++ os
  | _ :: _, [], ob => ob
  | j :: r, o :: os, ob => putO r os (setN ob j o)
def retM (ob : List OB) (r : List Nat) (x : SV) (os : List OB) (k : SV → List OB → Prop) : Prop :=
  tkK (drK r os) (drK ob lits) fun ex => force (r ++ ex) fun ρ => renK ρ x fun x => renOs ρ os fun os => force (putO r os ob) fun ob => k x ob

mutual
theorem renK_spec {ρ : List Nat} : ∀ {x : SV} {k : SV → Prop}, renK ρ x k → k (x.ren ρ)
  | .v x, k, h => by unfold renK at h; exact h
  | .p j off, k, h => by
    unfold renK at h
    split at h
    · rename_i n hn
      rw [nth_eq] at hn
      simp only [SV.ren, List.getD_eq_getElem?_getD, hn, Option.getD_some]
      exact h
    · exact h.elim
  | .a l, k, h => by unfold renK at h; exact renKs_spec h
  | .t l, k, h => by unfold renK at h; exact renKs_spec h
  | .fn f l, k, h => by unfold renK at h; exact renKs_spec h
theorem renKs_spec {ρ : List Nat} : ∀ {l : List SV} {k : List SV → Prop}, renKs ρ l k → k (SV.rens ρ l)
  | [], k, h => by unfold renKs at h; exact h
  | x :: l, k, h => by
    unfold renKs at h
    exact renKs_spec (k := fun l => k (x.ren ρ :: l)) (renK_spec (k := fun x => renKs ρ l fun l => k (x :: l)) h)
end
theorem renOs_spec {ρ : List Nat} : ∀ {l : List OB} {k : List OB → Prop}, renOs ρ l k → k (l.map (OB.ren ρ))
  | [], k, h => h
  | .box t cs :: l, k, h => by
    unfold renOs at h
    exact renOs_spec (k := fun l => k (.box t (SV.rens ρ cs) :: l)) (renKs_spec (k := fun cs => renOs ρ l fun l => k (.box t cs :: l)) h)
  | .row e sz A n c els :: l, k, h => by
    unfold renOs at h
    exact renOs_spec (l := l) (k := fun l => k (.row e sz A n c els :: l)) h
  | .res R :: l, k, h => by
    unfold renOs at h
    exact renOs_spec (l := l) (k := fun l => k (.res R :: l)) h
theorem drK_eq {α β : Type} : ∀ (r : List α) (l : List β), drK r l = l.drop r.length
  | [], l => rfl
  | _ :: _, [] => by simp [drK]
  | _ :: r, _ :: l => by simp [drK, drK_eq r l]
theorem tkK_spec {α : Type} : ∀ {l : List α} {s n : Nat} {k : List Nat → Prop}, tkK l (List.range' s n) k → k (List.range' s l.length)
  | [], s, n, k, h => h
  | _ :: r, s, 0, k, h => by simp [tkK] at h
  | _ :: r, s, n + 1, k, h => by
    rw [List.range'_succ] at h
    unfold tkK at h
    simpa [List.range'_succ] using tkK_spec h
theorem putO_eq : ∀ (r : List Nat) (os ob : List OB), r.length ≤ os.length → putO r os ob = ((r.zip os).foldl (fun ob p => ob.set p.1 p.2) ob) ++ os.drop r.length
  | [], os, ob, _ => by simp [putO]
  | _ :: _, [], ob, h => by simp at h
  | j :: r, o :: os, ob, h => by
    rw [putO, putO_eq r os _ (by simpa using h), setN_eq]
    simp
theorem sets_len : ∀ (l : List (Nat × OB)) (ob : List OB), (l.foldl (fun ob p => ob.set p.1 p.2) ob).length = ob.length
  | [], _ => rfl
  | p :: l, ob => by simp [sets_len l]
theorem sets_miss : ∀ (l : List (Nat × OB)) (ob : List OB) (k : Nat), k ∉ l.map (·.1) → (l.foldl (fun ob p => ob.set p.1 p.2) ob)[k]? = ob[k]?
  | [], _, _, _ => rfl
  | p :: l, ob, k, h => by
    simp only [List.map_cons, List.mem_cons, not_or] at h
    rw [List.foldl_cons, sets_miss l _ k h.2, List.getElem?_set_ne (Ne.symm h.1)]
theorem sets_hit : ∀ (r : List Nat) (os ob : List OB) (i k : Nat) (o : OB), r.Nodup → r[i]? = some k → os[i]? = some o → k < ob.length → ((r.zip os).foldl (fun ob p => ob.set p.1 p.2) ob)[k]? = some o
  | [], _, _, i, k, o, _, h, _, _ => by simp at h
  | j :: r, [], _, i, k, o, _, _, h, _ => by simp at h
  | j :: r, o' :: os, ob, 0, k, o, hnd, h, h', hk => by
    simp at h h'
    subst h h'
    have hn : j ∉ (r.zip os).map (·.1) := fun hm => by
      obtain ⟨p, hp, e⟩ := List.mem_map.1 hm
      have := (List.of_mem_zip (a := p.1) (b := p.2) hp).1
      exact (List.nodup_cons.1 hnd).1 (e ▸ this)
    rw [List.zip_cons_cons, List.foldl_cons, sets_miss _ _ _ hn]
    simp [hk]
  | j :: r, o' :: os, ob, i + 1, k, o, hnd, h, h', hk => by
    rw [List.zip_cons_cons, List.foldl_cons]
    exact sets_hit r os _ i k o (List.nodup_cons.1 hnd).2 (by simpa using h) (by simpa using h') (by simpa using hk)

mutual
theorem wf_ren {ρ : List Nat} {n m : Nat} (h : ∀ j, j < n → ρ.getD j 0 < m) : ∀ x : SV, x.wf n → (x.ren ρ).wf m
  | .v _, _ => trivial
  | .p k off, hw => h k hw
  | .a l, hw => wfs_ren h l hw
  | .t l, hw => wfs_ren h l hw
  | .fn f l, hw => wfs_ren h l hw
theorem wfs_ren {ρ : List Nat} {n m : Nat} (h : ∀ j, j < n → ρ.getD j 0 < m) : ∀ l : List SV, SV.wfs n l → SV.wfs m (SV.rens ρ l)
  | [], _ => trivial
  | x :: l, hw => ⟨wf_ren h x hw.1, wfs_ren h l hw.2⟩
end

theorem OB.at_ren {σ σ' : Nat → Nat} {n m b : Nat} {w : World} {F : Nat → Prop} {ρ : List Nat} (hρ : ∀ j, j < n → ρ.getD j 0 < m ∧ σ' (ρ.getD j 0) = σ j) {o : OB} (h : o.at σ n w b F) : (o.ren ρ).at σ' m w b F := by
  cases o with
  | box t cs =>
    obtain ⟨h1, h2, h3⟩ := h
    refine ⟨?_, h2, wfs_ren (fun j hj => (hρ j hj).1) cs h3⟩
    rw [h1, vals_ren]
    congr 2
    exact congrArg List.toArray (SV.vals_ext (fun j hj => ((hρ j hj).2).symm) cs h3)
  | row e sz A n c els => exact h
  | res R => exact h

theorem CallX_m {C : Ctx} {f : FuncId} {args : List SV} {ob : List OB} {k : SV → List OB → Prop} {args0 : List SV} {pre : World → (Nat → Prop) → Prop} {os0 : List OB} {ι : Type} {x : ι → SV} {os1 : ι → List OB} (h : CallM C.P f args0 pre os0 x os1) (r : List Nat)
    (hargs : args = SV.rens r args0) (hent : entO r os0.length ob r os0) (hnd : r.Nodup) (hpre : ∀ σ fp w, Mem C σ fp ob w → pre w (MOf os0.length fun j => fp (r.getD j 0))) (hk : ∀ i, retM ob r (x i) (os1 i) k) (hd : C.d = false := by rfl) : CallX C f args ob k := by
  obtain ⟨h1, h2, h3⟩ := h
  unfold CallX
  refine ⟨h1, fun σ fp w hm => ?_⟩
  obtain ⟨hlen, hidx⟩ := entO_spec hent
  have ridx : ∀ j, j < os0.length → ∃ q, r[j]? = some q ∧ r.getD j 0 = q ∧ q < ob.length := by
    intro j hj
    obtain ⟨q, o, h4, h5, _⟩ := hidx j os0[j] (by simp [hj])
    exact ⟨q, h4, by simp [h4], (List.getElem?_eq_some_iff.1 h5).1⟩
  have hm0 : Mem ⟨C.P, [], 0, w, MOf os0.length fun j => fp (r.getD j 0), os0.length, fun j => σ (r.getD j 0), false⟩ (fun j => σ (r.getD j 0)) (fun j => fp (r.getD j 0)) os0 w := by
    have := Mem.ren (C := ⟨C.P, [], 0, C.w0, C.M, 0, id, false⟩) (r := r) hent hnd rfl ⟨hm.at_, hm.disj, hm.lo, hm.hi, hm.kept, ⟨Nat.zero_le _, fun j hj => by cases hj⟩, fun h => by cases h⟩
    exact ⟨this.at_, this.disj, fun q hq i hi => .inl ⟨q, hq, hi⟩, this.hi, ⟨rfl, rfl, rfl, Nat.le_refl _, fun _ _ _ => rfl⟩, ⟨Nat.le_refl _, fun _ _ => rfl⟩, fun h => by cases h⟩
  have hc := h3 _ _ w hm0 (hpre σ fp w hm)
  rw [show SV.vals (fun j => σ (r.getD j 0)) args0 = SV.vals σ args by rw [hargs, vals_ren]] at hc
  refine hc.mono ?_
  rintro e w' ⟨i, σ', fp', rfl, hwf, hm'⟩
  refine ⟨_, rfl, ?_⟩
  have hki := hk i
  unfold retM at hki
  rw [drK_eq, drK_eq, lits_eq, show (List.range' 0 300).drop ob.length = List.range' ob.length (300 - ob.length) by rw [List.drop_range']; simp] at hki
  have hk1 := tkK_spec hki
  rw [force_eq] at hk1
  have hk2 := renOs_spec (renK_spec hk1)
  rw [force_eq] at hk2
  have hpin := hm'.pin
  simp only at hpin
  have hrl : r.length = os0.length := hlen
  rw [putO_eq _ _ _ (by simp; omega)] at hk2
  generalize hρ : r ++ List.range' ob.length ((os1 i).drop r.length).length = ρ at hk2
  have hos1 : os0.length ≤ (os1 i).length := hpin.1
  have ρlo : ∀ j, j < os0.length → ρ.getD j 0 = r.getD j 0 := by
    intro j hj
    rw [← hρ]
    simp [List.getElem?_append_left (show j < r.length by omega)]
  have ρhi : ∀ j, os0.length ≤ j → j < (os1 i).length → ρ.getD j 0 = ob.length + (j - os0.length) := by
    intro j hj hj'
    rw [← hρ, List.getD_eq_getElem?_getD, List.getElem?_append_right (by omega), List.getElem?_range' (by simp; omega)]
    simp
    omega
  -- the caller's view
  let σ2 : Nat → Nat := fun j => if j < ob.length then σ j else σ' (os0.length + (j - ob.length))
  let fp2 : Nat → Nat → Prop := fun j => if j < ob.length then (if j ∈ r then fp' (r.idxOf j) else fp j) else fp' (os0.length + (j - ob.length))
  have hσ2 : ∀ j, j < (os1 i).length → ρ.getD j 0 < ob.length + ((os1 i).length - os0.length) ∧ σ2 (ρ.getD j 0) = σ' j := by
    intro j hj
    by_cases e : j < os0.length
    · obtain ⟨q, h4, h5, h6⟩ := ridx j e
      rw [ρlo j e, h5]
      refine ⟨by omega, ?_⟩
      simp only [σ2, h6, if_true]
      rw [hpin.2 j e, h5]
    · rw [ρhi j (by omega) hj]
      refine ⟨by omega, ?_⟩
      simp only [σ2, show ¬ ob.length + (j - os0.length) < ob.length by omega, if_false]
      congr 1
      omega
  have notM : ∀ q, q < ob.length → q ∉ r → ∀ b, fp q b → ¬ MOf os0.length (fun j => fp (r.getD j 0)) b := by
    rintro q hq hqr b hb ⟨j, hj, hbj⟩
    obtain ⟨q', h4, h5, h6⟩ := ridx j hj
    simp only [h5] at hbj
    refine hm.disj q q' hq h6 (fun e => hqr ?_) b hb hbj
    rw [e]
    exact List.mem_of_getElem? h4
  have same : ∀ b, b < w.heap.size → ¬ MOf os0.length (fun j => fp (r.getD j 0)) b → w'.heap[b]? = w.heap[b]? := fun b hb hn => hm'.kept.block b hb hn
  have idx : ∀ q, q ∈ r → r.idxOf q < os0.length ∧ r[r.idxOf q]? = some q := by
    intro q hq
    have := List.idxOf_lt_length_iff.2 hq
    exact ⟨by omega, by rw [List.getElem?_eq_getElem this, List.getElem_idxOf]⟩
  have lo' : ∀ j, j < (os1 i).length → ∀ b, fp' j b → (∃ q, q < ob.length ∧ q ∈ r ∧ fp q b) ∨ w.heap.size ≤ b := by
    intro j hj b hb
    rcases hm'.lo j hj b hb with ⟨q, hq, hqb⟩ | h4
    · obtain ⟨q', h5, h6, h7⟩ := ridx q hq
      simp only [h6] at hqb
      exact .inl ⟨q', h7, List.mem_of_getElem? h5, hqb⟩
    · exact .inr h4
  have hmlen : ((os1 i).map (OB.ren ρ)).length = (os1 i).length := by simp
  have hoblen : (List.foldl (fun ob p => ob.set p.1 p.2) ob (r.zip ((os1 i).map (OB.ren ρ))) ++ ((os1 i).map (OB.ren ρ)).drop r.length).length = ob.length + ((os1 i).length - os0.length) := by
    rw [List.length_append, sets_len, List.length_drop, hmlen, hrl]
  refine ⟨_, _, σ2, fp2, hk2, fun j hj => by simp only [σ2, hj, if_true], by rw [hoblen]; omega, ?_, ?_, ⟨?_, ?_, ?_, ?_, ?_, ?_, (fun h => by rw [hd] at h; cases h)⟩, ⟨?_, ?_, ?_⟩⟩
  · rw [val_ren]
    exact SV.val_ext (fun j hj => (hσ2 j hj).2.symm) _ hwf
  · rw [hoblen]
    exact wf_ren (fun j hj => (hσ2 j hj).1) _ hwf
  · -- at_
    intro q o hq
    rw [hoblen]
    by_cases hql : q < ob.length
    · rw [List.getElem?_append_left (by rw [sets_len]; exact hql)] at hq
      by_cases hqr : q ∈ r
      · obtain ⟨h4, h5⟩ := idx q hqr
        have h6 : (os1 i)[r.idxOf q]? = some ((os1 i)[r.idxOf q]'(by omega)) := List.getElem?_eq_getElem (by omega)
        rw [sets_hit r _ ob (r.idxOf q) q _ hnd h5 (by rw [List.getElem?_map, h6]; rfl) hql] at hq
        cases hq
        have h7 := hm'.at_ _ _ h6
        have h8 : σ' (r.idxOf q) = σ2 q := by
          rw [hpin.2 _ h4]
          simp only [σ2, hql, if_true, List.getD_eq_getElem?_getD, h5, Option.getD_some]
        rw [h8] at h7
        simp only [fp2, hql, hqr, if_true]
        exact OB.at_ren hσ2 h7
      · rw [sets_miss _ _ _ (fun hm => by
          obtain ⟨p, hp, e⟩ := List.mem_map.1 hm
          have := (List.of_mem_zip (a := p.1) (b := p.2) hp).1
          exact hqr (e ▸ this))] at hq
        simp only [fp2, hql, hqr, if_true, if_false]
        have h7 := hm.at_ q o hq
        have h8 : σ2 q = σ q := by simp only [σ2, hql, if_true]
        rw [h8]
        exact OB.at_ext h7 (fun j hj => by simp only [σ2, hj, if_true]) (by omega) fun b hb => same b (hm.hi q hql b hb) (notM q hql hqr b hb)
    · rw [List.getElem?_append_right (by rw [sets_len]; omega), sets_len, List.getElem?_drop, List.getElem?_map, hrl] at hq
      have h5 : os0.length + (q - ob.length) < (os1 i).length := by
        cases h6 : (os1 i)[os0.length + (q - ob.length)]? with
        | none => rw [h6] at hq; cases hq
        | some o' => exact (List.getElem?_eq_some_iff.1 h6).1
      rw [List.getElem?_eq_getElem h5] at hq
      cases hq
      have h7 := hm'.at_ _ _ (List.getElem?_eq_getElem h5)
      have h8 : σ' (os0.length + (q - ob.length)) = σ2 q := by simp only [σ2, hql, if_false]
      rw [h8] at h7
      simp only [fp2, hql, if_false]
      exact OB.at_ren hσ2 h7
  · -- disj
    rw [hoblen]
    have cls : ∀ q, q < ob.length + ((os1 i).length - os0.length) → (q < ob.length ∧ q ∉ r ∧ fp2 q = fp q) ∨ ∃ j, j < (os1 i).length ∧ fp2 q = fp' j ∧ ρ.getD j 0 = q := by
      intro q hq
      by_cases hql : q < ob.length
      · by_cases hqr : q ∈ r
        · obtain ⟨h4, h5⟩ := idx q hqr
          exact .inr ⟨r.idxOf q, by omega, by simp only [fp2, hql, hqr, if_true], by rw [ρlo _ h4]; simp [h5]⟩
        · exact .inl ⟨hql, hqr, by simp only [fp2, hql, hqr, if_true, if_false]⟩
      · exact .inr ⟨os0.length + (q - ob.length), by omega, by simp only [fp2, hql, if_false], by rw [ρhi _ (by omega) (by omega)]; omega⟩
    intro p q hp hq hne b hb hb'
    rcases cls p hp with ⟨p1, p2, p3⟩ | ⟨jp, p1, p2, p3⟩ <;> rcases cls q hq with ⟨q1, q2, q3⟩ | ⟨jq, q1, q2, q3⟩
    · rw [p3] at hb; rw [q3] at hb'
      exact hm.disj p q p1 q1 hne b hb hb'
    · rw [p3] at hb; rw [q2] at hb'
      rcases lo' jq q1 b hb' with ⟨s, s1, s2, s3⟩ | h4
      · exact hm.disj p s p1 s1 (fun e => p2 (e ▸ s2)) b hb s3
      · have := hm.hi p p1 b hb; omega
    · rw [p2] at hb; rw [q3] at hb'
      rcases lo' jp p1 b hb with ⟨s, s1, s2, s3⟩ | h4
      · exact hm.disj q s q1 s1 (fun e => q2 (e ▸ s2)) b hb' s3
      · have := hm.hi q q1 b hb'; omega
    · rw [p2] at hb; rw [q2] at hb'
      refine hm'.disj jp jq p1 q1 (fun e => hne ?_) b hb hb'
      rw [← p3, ← q3, e]
  · -- lo
    rw [hoblen]
    intro q hq b hb
    have frm : ∀ j, j < (os1 i).length → fp' j b → C.M b ∨ C.w0.heap.size ≤ b := by
      intro j hj hjb
      rcases lo' j hj b hjb with ⟨s, s1, s2, s3⟩ | h4
      · exact hm.lo s s1 b s3
      · have := hm.kept.size; right; omega
    by_cases hql : q < ob.length
    · by_cases hqr : q ∈ r
      · simp only [fp2, hql, hqr, if_true] at hb
        exact frm _ (by have := (idx q hqr).1; omega) hb
      · simp only [fp2, hql, hqr, if_true, if_false] at hb
        exact hm.lo q hql b hb
    · simp only [fp2, hql, if_false] at hb
      exact frm _ (by omega) hb
  · -- hi
    rw [hoblen]
    intro q hq b hb
    have hsz := hm'.kept.size
    simp only at hsz
    by_cases hql : q < ob.length
    · by_cases hqr : q ∈ r
      · simp only [fp2, hql, hqr, if_true] at hb
        exact hm'.hi _ (by have := (idx q hqr).1; omega) b hb
      · simp only [fp2, hql, hqr, if_true, if_false] at hb
        have := hm.hi q hql b hb
        omega
    · simp only [fp2, hql, if_false] at hb
      exact hm'.hi _ (by omega) b hb
  · -- kept
    have hk' := hm'.kept
    refine ⟨hk'.os.trans hm.kept.os, hk'.tape.trans hm.kept.tape, hk'.output.trans hm.kept.output, Nat.le_trans hm.kept.size hk'.size, fun b hb hnM => ?_⟩
    rw [same b (Nat.lt_of_lt_of_le hb hm.kept.size) ?_, hm.kept.block b hb hnM]
    rintro ⟨j, hj, hjb⟩
    obtain ⟨q', h4, h5, h6⟩ := ridx j hj
    simp only [h5] at hjb
    rcases hm.lo q' h6 b hjb with h | h
    · exact hnM h
    · omega
  · -- pin
    refine ⟨by rw [hoblen]; have := hm.pin.1; omega, fun j hj => ?_⟩
    have : j < ob.length := Nat.lt_of_lt_of_le hj hm.pin.1
    simp only [σ2, this, if_true]
    exact hm.pin.2 j hj
  · -- what is no object
    intro b hb hlt hno
    refine same b hlt ?_
    rintro ⟨j, hj, hjb⟩
    obtain ⟨q', h4, h5, h6⟩ := ridx j hj
    simp only [h5] at hjb
    exact hno q' h6 hjb
  · rw [hoblen]
    intro q hq b hb hlo hlt
    by_cases hql : q < ob.length
    · by_cases hqr : q ∈ r
      · simp only [fp2, hql, hqr, if_true] at hb
        rcases lo' _ (by have := (idx q hqr).1; omega) b hb with ⟨s, s1, s2, s3⟩ | h4
        · exact ⟨s, s1, s3⟩
        · omega
      · simp only [fp2, hql, hqr, if_true, if_false] at hb
        exact ⟨q, hql, hb⟩
    · simp only [fp2, hql, if_false] at hb
      rcases lo' _ (by omega) b hb with ⟨s, s1, s2, s3⟩ | h4
      · exact ⟨s, s1, s3⟩
      · omega
  · exact hm'.kept.size

/-! ### slices that are read, beside objects that change -/
def ArgN (w : World) (M : Nat → Prop) (A : Option Addr) (n sz : Nat) (els : List (List Value)) : Prop := ArgSl w A n sz els ∧ (n ≠ 0 → ∀ b o, A = some ⟨b, o, none⟩ → ¬ M b)
section
variable {C : Ctx} {ob : List OB} {w : World} {M : Nat → Prop} {A : Option Addr} {n sz : Nat} {els : List (List Value)}
theorem ArgN.of (h : ArgSl w A n sz els) (hM : ∀ b, ¬ M b) : ArgN w M A n sz els := ⟨h, fun _ b _ _ => hM b⟩
theorem MOf_zero (fp : Nat → Nat → Prop) : ∀ b, ¬ MOf 0 fp b := by rintro b ⟨j, hj, _⟩; omega
theorem ArgN.of0 (h : ArgSl w A n sz els) (fp : Nat → Nat → Prop) : ArgN w (MOf 0 fp) A n sz els := .of h (MOf_zero fp)
theorem ArgN.mem (h : ArgN C.w0 C.M A n sz els) (hz : sz ≠ 0) : ∀ σ fp w, Mem C σ fp ob w → ArgSl w A n sz els := by
  intro σ fp w hm
  obtain ⟨h, hM⟩ := h
  refine ⟨h.len, h.size, h.one, fun hn => ?_⟩
  obtain ⟨b, o, hA, hlt⟩ := h.block hn hz
  obtain ⟨b', o', hA', hc⟩ := h.at_ hn
  rw [hA] at hA'
  simp at hA'
  obtain ⟨rfl, rfl⟩ := hA'
  refine ⟨b, o, hA, fun i x hi j v hj => ?_⟩
  rw [World.cell?_of_block (w := C.w0) (hm.kept.block b hlt (hM hn b o hA))]
  exact hc i x hi j v hj
/-- handed on, beside objects of the call -/
theorem ArgN.on (h : ArgN C.w0 C.M A n sz els) (hz : sz ≠ 0) {m : Nat} {r : List Nat} (hr : ∀ j, j < m → r.getD j 0 < ob.length) : ∀ σ fp w, Mem C σ fp ob w → ArgN w (MOf m fun j => fp (r.getD j 0)) A n sz els := by
  intro σ fp w hm
  refine ⟨h.mem hz σ fp w hm, ?_⟩
  rintro hn b o hA ⟨j, hj, hb⟩
  obtain ⟨b', o', hA', hlt⟩ := h.1.block hn hz
  rw [hA] at hA'
  simp at hA'
  obtain ⟨rfl, rfl⟩ := hA'
  rcases hm.lo _ (hr j hj) b hb with h1 | h1
  · exact h.2 hn b o hA h1
  · omega
theorem ArgN.row {c e : Nat} (q : Nat) (h : nth ob q = some (.row e sz A n c els)) {m : Nat} {r : List Nat} (hr : ∀ j, j < m → r.getD j 0 < ob.length ∧ r.getD j 0 ≠ q) : ∀ σ fp w, Mem C σ fp ob w → ArgN w (MOf m fun j => fp (r.getD j 0)) A n sz els := by
  intro σ fp w hm
  refine ⟨ArgSl.row q h σ fp w hm, ?_⟩
  rintro hn b o hA ⟨j, hj, hb⟩
  obtain ⟨⟨h1, h2, h3, h4, h5⟩, hql⟩ := nth_row hm h
  obtain ⟨h6, h7⟩ := hr j hj
  exact hm.disj _ q h6 hql h7 b hb ((h5 b).2 (by
    rcases h1.2 with ⟨h8, h9⟩ | ⟨g, cap, cur, h8, _⟩
    · exact (hn h9).elim
    · rw [hA] at h8 ⊢
      simp at h8
      obtain ⟨⟨rfl, rfl⟩, rfl⟩ := h8
      rfl))
end
theorem Fin_addNil {C : Ctx} {R : Ending → World → Prop} {x : SV} {ob : List OB} (e sz : Nat) (h : Fin C R x (ob ++ [.row e sz none 0 0 []])) : Fin C R x ob := by
  unfold Fin at *
  intro σ fp w hm hw
  obtain ⟨σ', fp', hσ, _, hm'⟩ := hm.addNil e sz
  have := h σ' fp' w hm' (SV.wf_mono (by simp) x hw)
  rwa [SV.val_ext hσ x hw] at this
theorem CallX_addNil {C : Ctx} {f : FuncId} {args : List SV} {k : SV → List OB → Prop} {ob : List OB} (e sz : Nat) (hw : SV.wfs ob.length args) (h : CallX C f args (ob ++ [.row e sz none 0 0 []]) k) : CallX C f args ob k := by
  unfold CallX at *
  obtain ⟨h1, h2⟩ := h
  refine ⟨h1, fun σ fp w hm => ?_⟩
  obtain ⟨σ', fp', hσ, hfp, hm'⟩ := hm.addNil e sz
  have h3 := h2 σ' fp' w hm'
  rw [SV.vals_ext hσ args hw] at h3
  exact h3.mono fun e w'' ⟨v, he, hg⟩ => ⟨v, he, hg.less (by simp) hσ hfp⟩

/-- reads memory, and does not take draws back -/
def CallV (P : Program) (f : FuncId) (args : List SV) (pre : World → Prop) (x : SV) : Prop :=
  Entr P f ∧ x.wf 0 ∧ ∀ σ w, pre w → Calls P f (SV.vals σ args).toArray w fun e w' => e = .returned (x.val σ) ∧ Below w.heap.size w w' ∧ w.drawn ≤ w'.drawn
theorem CallX_v {C : Ctx} {ob : List OB} {f : FuncId} {args : List SV} {k : SV → List OB → Prop} {x : SV} {pre : World → Prop} (h : CallV C.P f args pre x) (hp : ∀ σ fp w, Mem C σ fp ob w → pre w) (hk : k x ob) : CallX C f args ob k := by
  unfold CallX
  refine ⟨h.1, fun σ fp w hm => (h.2.2 σ w (hp σ fp w hm)).mono ?_⟩
  rintro e w' ⟨rfl, hb, hdr⟩
  exact ⟨_, rfl, x, ob, σ, fp, hk, fun _ _ => rfl, Nat.le_refl _, rfl, SV.wf_mono (Nat.zero_le _) x h.2.1, hm.below hb (fun _ => hdr), Frm.below hb⟩
theorem CallV.of {P : Program} {T : List TI} {f : FuncId} {fn : Func} {c : Code} {args : List SV} {x : SV} {pre : World → Prop} (hf : P.funcs[f]? = some fn) (hb : fn.body = some c) (hT : TabOk P T) (hname : (fn.name == "runtime.NumGoroutine") = false) (hl : Nat.ble args.length fn.ntmps = true) (hl' : Nat.ble args.length 300 = true)
    (hw : SV.wfs 0 args) (hx : x.wf 0) (h : ∀ w, pre w → force (argsL lits args) fun tm => xcode ⟨P, T, fn.ntmps, w, fun _ => False, 0, id, true⟩ c tm [] (endX ⟨P, T, fn.ntmps, w, fun _ => False, 0, id, true⟩ (fun e w' => (∀ σ, e = .returned (x.val σ)) ∧ Below w.heap.size w w' ∧ w.drawn ≤ w'.drawn) fn.results.toList)) : CallV P f args pre x := by
  refine ⟨Entr.of hf hname hb, hx, fun σ w hp => ?_⟩
  refine (calls_of_x (C := ⟨P, T, fn.ntmps, w, fun _ => False, 0, id, true⟩) (σ := σ) (ob := []) hT hf hb rfl (Nat.le_of_ble_eq_true hl) hw (Mem.nil _ rfl σ (fun _ _ => False)) (by have := h w hp; rwa [force_eq, argsL_eq (Nat.le_of_ble_eq_true hl')] at this)).mono ?_
  rintro e w' ⟨h1, h2⟩
  exact ⟨h1 σ, h2⟩

/-! which event it is -/
/-- a comparison of numbers: left as it is -/
class NumP (p : Prop) : Prop
instance numP1 (a b : Int) : NumP (a ≤ b) := ⟨⟩
instance numP2 (a b : Int) : NumP (a < b) := ⟨⟩
instance numP3 (a b : Nat) : NumP (a ≤ b) := ⟨⟩
instance numP4 (a b : Nat) : NumP (a < b) := ⟨⟩
theorem isP {p : Prop} [NumP p] (h : p) : p := h
theorem isF {C : Ctx} (f : FuncId) {args : List SV} {ob : List OB} {k : SV → List OB → Prop} (h : CallX C f args ob k) : CallX C f args ob k := h
theorem isC {C : Ctx} {f : FuncId} {args : List SV} {ob : List OB} {k : SV → List OB → Prop} (h : CallX C f args ob k) : CallX C f args ob k := h
theorem isV {C : Ctx} {o : Oper} {xs : List SV} {ob : List OB} {k : SV → Prop} (h : ValX C o xs ob k) : ValX C o xs ob k := h
theorem isO {C : Ctx} {o : Oper} {xs : List SV} {ob : List OB} {k : SV → List OB → Prop} (h : OpX C o xs ob k) : OpX C o xs ob k := h
theorem isW {e : Int} {k : Int → Prop} (h : xwr64 e k) : xwr64 e k := h
theorem isQ {a b : Int} {k : Int → Prop} (h : xquo64 a b k) : xquo64 a b k := h
theorem isS {kd : IntKind} {a b : Int} {k : Int → Prop} (h : xshr kd a b k) : xshr kd a b k := h
theorem isK {kd : IntKind} {n : Int} {k : Int → Prop} (h : xcv kd n k) : xcv kd n k := h
theorem isU {kd : IntKind} {e : Int} {k : Int → Prop} (h : xwru kd e k) : xwru kd e k := h
theorem isUq {kd : IntKind} {a b : Int} {k : Int → Prop} (h : xquou kd a b k) : xquou kd a b k := h
theorem isUr {a b : Int} {k : Int → Prop} (h : xremu a b k) : xremu a b k := h
theorem isR {a b : Int} {k : Int → Prop} (h : xrem64 a b k) : xrem64 a b k := h
end Go.Proofs.YtadichckbogcjaaDoor.En

namespace Go.Proofs.YtadichckbogcjaaDoor.En
open Go.RowKit

section
variable {C : Ctx} {σ : Nat → Nat} {fp : Nat → Nat → Prop} {ob : List OB} {w : World} {A : Option Addr} {n c sz e : Nat} {els : List (List Value)}

/-- where a slice begins whose first i elements are dropped -/
def cutA (A : Option Addr) (c i sz : Nat) : Option Addr := if c = i then A else A.map fun a => ⟨a.block, a.off + i * sz, none⟩

theorem slInfo_run (hT : TabOk C.P C.T) {t : TypeId} (h : slInfo C t = some (e, sz)) (w : World) : C.P.underlying t = some (.slice e) ∧ (sizeOf e).run C.P w = .ok sz w := by
  obtain ⟨hu, te, hl, hz, hti, hid⟩ := slInfo_spec hT h
  refine ⟨hu, ?_⟩
  have := hti.run_size w
  rwa [hid, hz] at this
theorem addr_add0 (A : Option Addr) : A.map (·.add 0) = A := by cases A <;> simp [Addr.add]
theorem run_slice_hi {P : Program} {t : TypeId} {w : World} (hu : P.underlying t = some (.slice e)) (hs : (sizeOf e).run P w = .ok sz w) {m : Nat} (hm : m ≤ c) :
    (Instr.slice t (.slice A n c) none (some (.int .i64 m)) none).run P w = .ok (.slice A m c) w := by
  have h0 : (0 : Int) ≤ m := by omega
  have h1 : (m : Int) ≤ c := by omega
  simp [Instr.slice, run_underlying hu, Instr.sliceBounds, run_sliceBound, hs, h1, addr_add0]
theorem run_slice_lo {P : Program} {t : TypeId} {w : World} (hu : P.underlying t = some (.slice e)) (hs : (sizeOf e).run P w = .ok sz w) {m : Nat} (hm : m ≤ n) (hA : ∀ a, A = some a → a.spot = none) :
    (Instr.slice t (.slice A n c) (some (.int .i64 m)) none none).run P w = .ok (.slice (cutA A c m sz) (n - m) (c - m)) w := by
  have h0 : (0 : Int) ≤ m := by omega
  have h1 : (m : Int) ≤ n := by omega
  simp only [Instr.slice, run_underlying hu, Instr.sliceBounds, run_sliceBound _ _ _ _ _ h0 h1, hs, Sem.run_bind, Sem.run_pure, Result.andThen_ok, Int.toNat_natCast]
  congr 2
  unfold cutA
  split
  · rfl
  · cases A with
    | none => rfl
    | some a =>
      have := hA a rfl
      obtain ⟨b, o, s⟩ := a
      simp only at this
      subst this
      simp only [Option.map_some]
      congr 1
      unfold Addr.add
      split
      · rename_i h
        rw [h]
        simp
      · rfl

theorem ValX_sliceHi {o : Oper} {t : TypeId} {x y : Operand} {m : Nat} {k : SV → Prop} (hT : TabOk C.P C.T) (ho : o.op = .slice t x none (some y) none) (hs : slInfo C t = some (e, sz)) (hm : m ≤ c)
    (hk : k (.v (.slice A m c))) : ValX C o [.v (.slice A n c), .v (.int .i64 (m : Int))] ob k := by
  unfold ValX
  intro σ fp w ρ hM hx
  obtain ⟨hu, hz⟩ := slInfo_run hT hs w
  rw [ho] at hx
  simp [Op.operands, SV.vals, SV.val] at hx
  refine ⟨_, hk, ?_, trivial⟩
  simp [execOp, ho, hx.1, hx.2, Instr.sliceAt, run_underlying hu, run_slice_hi (w := w) hu hz hm, SV.val]
theorem ValX_sliceLo {o : Oper} {t : TypeId} {x y : Operand} {m : Nat} {k : SV → Prop} (hT : TabOk C.P C.T) (ho : o.op = .slice t x (some y) none none) (hs : slInfo C t = some (e, sz)) (hA : ∀ σ fp w, Mem C σ fp ob w → ∀ a, A = some a → a.spot = none) (hm : m ≤ n)
    (hk : k (.v (.slice (cutA A c m sz) (n - m) (c - m)))) : ValX C o [.v (.slice A n c), .v (.int .i64 (m : Int))] ob k := by
  unfold ValX
  intro σ fp w ρ hM hx
  obtain ⟨hu, hz⟩ := slInfo_run hT hs w
  rw [ho] at hx
  simp [Op.operands, SV.vals, SV.val] at hx
  refine ⟨_, hk, ?_, trivial⟩
  simp [execOp, ho, hx.1, hx.2, Instr.sliceAt, run_underlying hu, run_slice_lo (w := w) hu hz hm (hA σ fp w hM), SV.val]
theorem row_spot (j : Nat) (hj : nth ob j = some (.row e sz A n c els)) : ∀ σ fp w, Mem C σ fp ob w → ∀ a, A = some a → a.spot = none := by
  intro σ fp w hm a ha
  obtain ⟨⟨hown, _⟩, _⟩ := nth_row hm hj
  rcases hown.2 with ⟨h, _⟩ | ⟨g, cap, cur, hsl, _⟩
  · simp [ha] at h
  · simp [ha] at hsl
    rw [hsl.1]

/-- a row with fewer elements -/
theorem owns_take {base : Nat} {i : Nat} (h : w.ownsRow base e sz (.slice A n c) n els.flatten) (hl : els.length = n) (hs : ∀ x ∈ els, x.length = sz) (hi : i ≤ n) : (A ≠ none ∨ i = n) → w.ownsRow base e sz (.slice A i c) i (els.take i).flatten := by
  intro hA
  have hs' : ∀ x ∈ els.take i, x.length = sz := fun x hx => hs x (List.mem_of_mem_take hx)
  rcases h.2 with ⟨h0, h1⟩ | ⟨g, cap, cur, hsl, hb, hg, hnc, hcm, hcs, ht⟩
  · simp at h0
    obtain ⟨rfl, rfl, rfl⟩ := h0
    obtain rfl : i = 0 := by omega
    simpa using World.ownsRow_nil w base e sz
  · simp at hsl
    obtain ⟨rfl, rfl⟩ := hsl
    refine ⟨by rw [flat_len hs', List.length_take, hl, Nat.min_eq_left hi], .inr ⟨g, c, cur, rfl, hb, hg, by omega, hcm, hcs, ?_⟩⟩
    have e1 : (els.take i).flatten = els.flatten.take (i * sz) := by
      have hsplit : els.flatten = (els.take i).flatten ++ (els.drop i).flatten := by rw [← List.flatten_append, List.take_append_drop]
      rw [hsplit, List.take_left' (by rw [flat_len hs', List.length_take, hl, Nat.min_eq_left hi])]
    rw [e1, ← ht, List.take_take, Nat.min_eq_left (Nat.mul_le_mul_right _ hi)]

theorem zero_one {t : TypeId} {te : TI} (hT : TabOk C.P C.T) (ht : lookT C.T t = some te) (hone : ones (te.zero.map .v) = true) : ∀ v ∈ te.zero, v.oneCell' = true := by
  have := ones_spec (fun _ => 0) hone
  rwa [vals_v] at this
theorem OpX_clear {o : Oper} {t : TypeId} {x : Operand} {i : Nat} {k : SV → List OB → Prop} {te : TI} (j : Nat) (hT : TabOk C.P C.T) (ho : o.op = .call ⟨.builtin .clear, #[x], #[t]⟩) (hj : nth ob j = some (.row e sz A n c els))
    (hs : slInfo C t = some (e, sz)) (hte : lookT C.T e = some te) (hone : ones (te.zero.map .v) = true) (hi : i < n)
    (hk : force (setN ob j (.row e sz A i c (els.take i))) fun ob => k (.t []) ob) : OpX C o [.v (.slice (cutA A c i sz) (n - i) (c - i))] ob k := by
  unfold OpX
  intro σ fp w ρ hm hx
  obtain ⟨hu, te', hl', hz', hti', hid'⟩ := slInfo_spec hT hs
  obtain ⟨hid, hti⟩ := hT e te hte
  rw [hl'] at hte
  cases hte
  obtain ⟨⟨hown, hlen, hsize, hone', hF⟩, hjl⟩ := nth_row hm hj
  rcases hown.2 with ⟨_, h0⟩ | ⟨g, cap, cur, hsl, hbg, hg, hnc, hcm, hcs, htake⟩
  · omega
  simp at hsl
  obtain ⟨rfl, rfl⟩ := hsl
  obtain ⟨z, hzr, hzc⟩ := hti.zero
  have hzr' := hzr w
  rw [hid] at hzr'
  have hcut : cutA (some (⟨g, 0, none⟩ : Addr)) c i sz = some ⟨g, i * sz, none⟩ := by
    unfold cutA
    rw [if_neg (by omega)]
    simp
  rw [ho, hcut] at hx
  simp [Op.operands, Call.operands, SV.vals, SV.val] at hx
  have hzl : (Builtin.zeroCells z.cells (n - i)).size = (n - i) * sz := by simp [Builtin.zeroCells, hzc, hz']
  have h1z := zero_one hT hl' hone
  have hz1 : ∀ v ∈ (Builtin.zeroCells z.cells (n - i)).toList, v.oneCell' = true := by
    intro v hv
    simp only [Builtin.zeroCells, Array.toList_map, List.mem_map] at hv
    obtain ⟨q, hq, rfl⟩ := hv
    rw [hzc]
    simp [hzc, hz'] at hq
    have hsz0 : 0 < sz := by
      rcases Nat.eq_zero_or_pos sz with h | h
      · rw [h] at hq; simp at hq
      · exact h
    have hlt : q % te.zero.toArray.size < te.zero.toArray.size := Nat.mod_lt _ (by simp [hz']; omega)
    rw [getElem!_pos te.zero.toArray (q % te.zero.toArray.size) hlt]
    exact h1z _ (by simp)
  have hle : i * sz + (n - i) * sz ≤ c * sz := by
    rw [← Nat.add_mul]
    exact Nat.mul_le_mul_right _ (by omega)
  have hst := run_storeCells_at (P := C.P) g (i * sz) e (Builtin.zeroCells z.cells (n - i)).toList 0 cur w hg (by rw [hcs, Array.length_toList, hzl]; omega) hz1
  simp only [Nat.add_zero] at hst
  generalize hcur : (cur.toList.take (i * sz) ++ (Builtin.zeroCells z.cells (n - i)).toList ++ cur.toList.drop (i * sz + (Builtin.zeroCells z.cells (n - i)).toList.length)).toArray = cur' at hst
  obtain ⟨m', hm'⟩ : ∃ m', n - i = m' + 1 := ⟨n - i - 1, by omega⟩
  have hex : (execOp ρ o).run C.P w = .ok (.value (.tuple #[])) (w.setRow g cur') := by
    rw [hm'] at hst
    simp [execOp, ho, resolve, invoke, builtin, Builtin.clear_, hx, hm', run_underlying hu, hzr', hst, Result.andThen]
  rw [hex]
  have hcl : cur'.size = c * sz := by
    rw [← hcur]
    simp only [List.size_toArray, List.length_append, List.length_take, List.length_drop, Array.length_toList, hcs, hzl]
    omega
  have htk : cur'.toList.take (i * sz) = cur.toList.take (i * sz) := by
    rw [← hcur]
    simp only [List.append_assoc]
    rw [List.take_left' (by rw [List.length_take, Array.length_toList, hcs]; omega)]
  have hrow := setRow_heap w g cur cur' e (0, 0) hg
  have hown' : (w.setRow g cur').ownsRow 0 e sz (.slice (some ⟨g, 0, none⟩) i c) i (els.take i).flatten := by
    have h2 := owns_take (i := i) hown hlen hsize (by omega) (.inl (by simp))
    rcases h2.2 with ⟨h3, _⟩ | ⟨g2, cap2, cur2, hsl2, _, hg2, h5, h6, h7, h8⟩
    · simp at h3
    · simp at hsl2
      obtain ⟨rfl, rfl⟩ := hsl2
      rw [hg] at hg2
      cases hg2
      exact ⟨h2.1, .inr ⟨g, c, cur', rfl, Nat.zero_le _, hrow, h5, h6, hcl, by rw [htk]; exact h8⟩⟩
  have hsz2 : w.heap.size ≤ (w.setRow g cur').heap.size := by simp [World.setRow]
  have hsame : ∀ q, q < w.heap.size → ¬ fp j q → (w.setRow g cur').heap[q]? = w.heap[q]? := by
    intro q hq hnq
    have : q ≠ g := fun e' => hnq ((hF q).2 (by simp [Value.ownBlock, e']))
    simp [World.setRow, Array.getElem?_modify, this.symm]
  have hM := hm.change (w' := w.setRow g cur') hjl (.row e sz (some ⟨g, 0, none⟩) i c (els.take i)) (fp j) ⟨hown', by simp; omega, fun q hq => hsize q (List.mem_of_mem_take hq), (by
      intro q hq
      obtain ⟨l, hl, hql⟩ := List.mem_flatten.1 hq
      exact hone' q (List.mem_flatten.2 ⟨l, List.mem_of_mem_take hl, hql⟩)), fun q => by rw [hF q]; simp [Value.ownBlock]⟩ (fun i hi => .inl hi) (by
      intro q hq
      have := hm.hi j hjl q hq
      simpa [World.setRow] using this) rfl rfl rfl hsz2 hsame (fun _ => Nat.le_refl _)
  rw [force_eq, setN_eq] at hk
  exact ⟨.t [], _, σ, _, hk, fun _ _ => rfl, by simp, rfl, trivial, hM, Frm.changed hjl (by simp) (fun i hi => .inl hi) hsz2 hsame⟩
end
end Go.Proofs.YtadichckbogcjaaDoor.En
