import Derived.Test.YtadichckbogcjaaGreatDoorZToolsShares08
import Derived.Maps.Own
import Derived.Maps.OwnOps
import Derived.MapKept
import Derived.Test.YtadichckbogcjaaGreatDoorZToolsShares14
set_option linter.all false
section
namespace Go.Proofs.YtadichckbogcjaaGreatDoor.En
open Go.RowKit Go.MapKept
open Go.ChangeMaps (setBlock)
set_option maxRecDepth 100000
section
variable {α : Type} (enc : α → Value)
def imE : List (Int × α) → Nat → List MapEntry
  | [], _ => []
  | (k, v) :: r, i => { key := .int .i64 k, val := enc v, born := i } :: imE r (i + 1)
theorem imE_append : ∀ (m l : List (Int × α)) (i : Nat), imE enc (m ++ l) i = imE enc m i ++ imE enc l (i + m.length)
  | [], l, i => by simp [imE]
  | (k, v) :: r, l, i => by
    simp only [List.cons_append, imE, imE_append r l (i + 1), List.length_cons]
    rw [show i + 1 + r.length = i + (r.length + 1) by omega]
def ImAt (w : World) (b : Nat) (m : List (Int × α)) : Prop := w.heap[b]? = some (.map (imE enc m 0).toArray m.length)
def ixI : List (Int × α) → Int → Option (Nat × α)
  | [], _ => none
  | (k', v) :: r, k => if k = k' then some (0, v) else (ixI r k).map fun p => (p.1 + 1, p.2)
def lkI (m : List (Int × α)) (k : Int) : Option α := (ixI m k).map (·.2)
def stI : List (Int × α) → Int → α → List (Int × α)
  | [], k, v => [(k, v)]
  | (k', v') :: r, k, v => if k = k' then (k, v) :: r else (k', v') :: stI r k v
theorem lkI_st (m : List (Int × α)) (k : Int) (v : α) (k' : Int) : lkI (stI m k v) k' = if k' = k then some v else lkI m k' := by
  unfold lkI
  induction m with
  | nil =>
    by_cases h : k' = k <;> simp [stI, ixI, h]
  | cons e r ih =>
    obtain ⟨q, u⟩ := e
    unfold stI
    by_cases h : k = q
    · subst h
      rw [if_pos rfl]
      by_cases h2 : k' = k <;> simp [ixI, h2]
    · rw [if_neg h]
      by_cases h2 : k' = q
      · subst h2
        simp [ixI, Ne.symm h]
      · simp only [ixI, h2, if_false]
        simp only [Option.map_map] at ih ⊢
        simpa [Function.comp_def] using ih
theorem findNow_im (k : Int) : ∀ (m : List (Int × α)) (i j : Nat), Instr.findNow (.int .i64) (.int .i64 k) (imE enc m i) j = some ((ixI m k).map fun p => (j + p.1, enc p.2))
  | [], _, _ => rfl
  | (k', v) :: r, i, j => by
    by_cases h : k = k'
    · subst h
      simp [imE, Instr.findNow, Instr.sameNow, ixI]
    · have hb : (k == k') = false := by simp [h]
      have := findNow_im k r (i + 1) (j + 1)
      simp only [imE, Instr.findNow, Instr.sameNow, hb, ixI, h, if_false]
      rw [this]
      cases ixI r k with
      | none => rfl
      | some p => simp; omega
variable {P : Program} {w w' : World} {b : Nat} {m : List (Int × α)}
theorem run_findKey_im {kt : TypeId} (hk : P.underlying kt = some (.int .i64)) (k : Int) (m : List (Int × α)) (w : World) :
    (Instr.findKey kt (.int .i64 k) (imE enc m 0)).run P w = .ok ((ixI m k).map fun p => (p.1, enc p.2)) w := by
  have h1 := findNow_im enc k m 0 0
  simp only [Nat.zero_add] at h1
  simp [Instr.findKey, run_underlying hk, h1]
theorem run_lookup_im {t kt e : TypeId} {z : Value} (ht : P.underlying t = some (.map kt e)) (hk : P.underlying kt = some (.int .i64)) (hz : ∀ w, (zeroValue e).run P w = .ok z w) (h : ImAt enc w b m) (k : Int) :
    (Instr.lookup t (.map (some b)) (.int .i64 k) true).run P w = .ok (.tuple #[((lkI m k).map enc).getD z, .bool (lkI m k).isSome]) w := by
  have h1 := run_findKey_im enc hk k m w
  have hck := fun e n => run_checkKey (P := P) (w := w) (k := .int .i64 k) hk (by simp [IsKey]) e n
  have hgo := MapKept.run_getObj_map (P := P) h
  unfold lkI
  cases hi : ixI m k with
  | none =>
    rw [hi] at h1
    simp [Instr.lookup, run_underlying ht, hgo, hck, h1, hz]
  | some p =>
    rw [hi] at h1
    simp [Instr.lookup, run_underlying ht, hgo, hck, h1]
theorem imE_get : ∀ (m : List (Int × α)) (s i : Nat), (imE enc m s)[i]? = (m[i]?).map fun e => { key := .int .i64 e.1, val := enc e.2, born := s + i }
  | [], _, _ => by simp [imE]
  | (k, v) :: r, s, 0 => by simp [imE]
  | (k, v) :: r, s, i + 1 => by
    simp only [imE, List.getElem?_cons_succ, imE_get r (s + 1) i]
    rw [show s + 1 + i = s + (i + 1) by omega]
theorem ixI_some : ∀ {m : List (Int × α)} {k : Int} {p : Nat × α} (v : α), ixI m k = some p → m[p.1]? = some (k, p.2) ∧ stI m k v = m.set p.1 (k, v)
  | [], _, _, _, h => by cases h
  | (k', u) :: r, k, p, v, h => by
    unfold ixI at h
    unfold stI
    by_cases hk : k = k'
    · rw [if_pos hk] at h
      cases h
      subst hk
      simp
    · rw [if_neg hk] at h
      rw [if_neg hk]
      cases hr : ixI r k with
      | none => rw [hr] at h; cases h
      | some q =>
        rw [hr] at h
        cases h
        obtain ⟨h1, h2⟩ := ixI_some v hr
        simp [h1, h2]
theorem ixI_none : ∀ {m : List (Int × α)} {k : Int} (v : α), ixI m k = none → stI m k v = m ++ [(k, v)]
  | [], _, _, _ => rfl
  | (k', u) :: r, k, v, h => by
    unfold ixI at h
    unfold stI
    by_cases hk : k = k'
    · rw [if_pos hk] at h
      cases h
    · rw [if_neg hk] at h
      rw [if_neg hk]
      cases hr : ixI r k with
      | none => simp [ixI_none v hr]
      | some q => rw [hr] at h; cases h
theorem run_update_im {t kt e : TypeId} (ht : P.underlying t = some (.map kt e)) (hk : P.underlying kt = some (.int .i64)) (h : ImAt enc w b m) (k : Int) (v : α) :
    (Instr.mapUpdate t (.map (some b)) (.int .i64 k) (enc v)).run P w = .ok () (setBlock w b (.map (imE enc (stI m k v) 0).toArray (stI m k v).length)) := by
  have h1 := run_findKey_im enc hk k m w
  have hck := fun e n => run_checkKey (P := P) (w := w) (k := .int .i64 k) hk (by simp [IsKey]) e n
  have hgo := MapKept.run_getObj_map (P := P) h
  have hso := fun o => MapKept.run_setObj_map (P := P) o h
  cases hi : ixI m k with
  | none =>
    rw [hi] at h1
    rw [ixI_none v hi, imE_append, List.length_append]
    simp [Instr.mapUpdate, run_underlying ht, hgo, hck, h1, hso, setBlock, imE]
  | some p =>
    rw [hi] at h1
    obtain ⟨hg0, hst⟩ := ixI_some v hi
    have hlt : p.1 < m.length := (List.getElem?_eq_some_iff.1 hg0).1
    have hg := imE_get enc m 0 p.1
    rw [hg0] at hg
    rw [hst]
    have hkey : (((imE enc m 0).toArray[p.1]?).map (·.key)).getD (.int .i64 k) = .int .i64 k := by
      simp only [List.getElem?_toArray, hg]
      rfl
    have hsb : Instr.sameBits 10000 (.int .i64 k) (.int .i64 k) = true := by simp [Instr.sameBits]
    simp only [Instr.mapUpdate, Sem.run_bind, run_underlying ht, Result.andThen_ok, hgo, hck, h1, Option.map_some, hkey, Instr.keyThatStays, hsb, if_true, Sem.run_pure, hso, setBlock]
    simp only [List.length_set]
    congr 5
    apply Array.ext_getElem?
    intro j
    rw [Array.getElem?_modify]
    simp only [List.getElem?_toArray, imE_get, List.getElem?_set, Nat.zero_add]
    by_cases hj : p.1 = j
    · subst hj
      simp [hlt, hg0]
    · simp [hj]
end
end Go.Proofs.YtadichckbogcjaaGreatDoor.En
namespace Go.Proofs.YtadichckbogcjaaGreatDoor.En
open Go.RowKit Go.MapKept
open Go.ChangeMaps (setBlock)
set_option maxRecDepth 100000
section
variable {α : Type} {enc : α → Value} {C : Ctx} {ob : List OB} {b : Nat} {m : List (Int × α)}
def imO (enc : α → Value) (b : Nat) (m : List (Int × α)) : OB := .res fun w F => ImAt enc w b m ∧ F b
theorem ImAt.ext {w w' : World} (h : ImAt enc w b m) (hw : w'.heap[b]? = w.heap[b]?) : ImAt enc w' b m := hw.trans h
theorem imO_mk {w : World} (h : ImAt enc w b m) {σ : Nat → Nat} {n q : Nat} {F : Nat → Prop} (hF : F b) : (imO enc b m).at σ n w q F :=
  ⟨⟨h, hF⟩, fun w' hw => ⟨h.ext (hw b hF), hF⟩⟩
theorem nth_im {σ : Nat → Nat} {fp : Nat → Nat → Prop} {w : World} {j : Nat} (hm : Mem C σ fp ob w) (h : nth ob j = some (imO enc b m)) : ImAt enc w b m ∧ fp j b ∧ j < ob.length := by
  rw [nth_eq] at h
  have := hm.at_ j _ h
  exact ⟨this.1.1, this.1.2, (List.getElem?_eq_some_iff.1 h).1⟩
theorem imSet {w : World} (h : ImAt enc w b m) (o' : Obj) : (setBlock w b o').heap[b]? = some o' ∧ (∀ i, i ≠ b → (setBlock w b o').heap[i]? = w.heap[i]?) ∧ (setBlock w b o').heap.size = w.heap.size :=
  ⟨ChangeMaps.heap_setBlock_same h _, fun _ hi => ChangeMaps.heap_setBlock_other h _ hi, by simp [setBlock]⟩
theorem ValX_lookI {o : Oper} {x y : Operand} {t kt e : TypeId} {k : Int} {z : Value} (j : Nat) (r : SV) {K : SV → Prop} (hP : C.P = Tryz.prog) (ho : o.op = .lookup t x y true) (ht : Tryz.prog.underlying t = some (.map kt e)) (hk : Tryz.prog.underlying kt = some (.int .i64)) (hz : ∀ w, (zeroValue e).run Tryz.prog w = .ok z w)
    (hj : nth ob j = some (imO enc b m)) (hr : ∀ σ, r.val σ = ((lkI m k).map enc).getD z) (hw : r.wf 0) (hK : K (.t [r, B (lkI m k).isSome])) : ValX C o [.v (.map (some b)), I k] ob K := by
  unfold ValX
  intro σ fp w ρ hm hx
  obtain ⟨hT, _⟩ := nth_im hm hj
  rw [ho] at hx
  simp [Op.operands, SV.vals, SV.val] at hx
  have hw' := SV.wf_mono (Nat.zero_le ob.length) r hw
  refine ⟨_, hK, ?_, by simp [SV.wf, SV.wfs, hw']⟩
  have := run_lookup_im enc ht hk hz hT k
  rw [hP]
  simp only [execOp, ho, hx.1, hx.2, Sem.run_bind, this, Result.andThen_ok, Sem.run_pure, SV.val, SV.vals, hr]
theorem OpX_makeI {o : Oper} {t : TypeId} {K : SV → List OB → Prop} (enc : α → Value) (ho : o.op = .makeMap t none) (hK : ∀ b, force (ob ++ [imO enc b []]) fun ob => K (.v (.map (some b))) ob) : OpX C o [] ob K := by
  unfold OpX
  intro σ fp w ρ hm hx
  have hex : (execOp ρ o).run C.P w = .ok (.value (.map (some w.heap.size))) (w.alloc (.map #[] 0)) := by
    simp [execOp, ho, Instr.makeMap, run_newObj_alloc]
  rw [hex]
  have hT : ImAt enc (w.alloc (.map #[] 0)) w.heap.size [] := heap_alloc_new w _
  have hb : Below w.heap.size w (w.alloc (.map #[] 0)) := (Below.refl _ w).alloc (Nat.le_refl _) _
  have hK := hK w.heap.size
  rw [force_eq] at hK
  refine ⟨.v (.map (some w.heap.size)), _, _, _, hK, fun j hj => by simp [show j ≠ ob.length by omega], by simp, rfl, trivial, hm.pushO hb (imO enc w.heap.size []) 0 (fun i => i = w.heap.size) (imO_mk hT rfl) (fun i hi => by subst hi; simp) (fun _ => Nat.le_refl _), Frm.pushed hb (by simp) fun i hi => by omega⟩
theorem OpX_updI {o : Oper} {x y u : Operand} {t kt e : TypeId} {k : Int} {v : α} {r : SV} {K : SV → List OB → Prop} (j : Nat) (hP : C.P = Tryz.prog) (ho : o.op = .mapUpdate t x y u) (ht : Tryz.prog.underlying t = some (.map kt e)) (hk : Tryz.prog.underlying kt = some (.int .i64))
    (hj : nth ob j = some (imO enc b m)) (hr : ∀ σ, r.val σ = enc v) (hK : force (setN ob j (imO enc b (stI m k v))) fun ob => K (.v undef) ob) : OpX C o [.v (.map (some b)), I k, r] ob K := by
  unfold OpX
  intro σ fp w ρ hm hx
  obtain ⟨hT, hF, hjl⟩ := nth_im hm hj
  rw [ho] at hx
  simp [Op.operands, SV.vals, SV.val, hr] at hx
  have hu := run_update_im enc ht hk hT k v
  have hex : (execOp ρ o).run C.P w = .ok .skip (setBlock w b (.map (imE enc (stI m k v) 0).toArray (stI m k v).length)) := by
    rw [hP]
    simp only [execOp, ho, hx.1, hx.2.1, hx.2.2, Sem.run_bind]
    rw [hu]
    rfl
  rw [hex]
  obtain ⟨s1, s2, s3⟩ := imSet hT (.map (imE enc (stI m k v) 0).toArray (stI m k v).length)
  have hsame : ∀ q, q < w.heap.size → ¬ fp j q → (setBlock w b (.map (imE enc (stI m k v) 0).toArray (stI m k v).length)).heap[q]? = w.heap[q]? := fun q hq hnq => s2 q fun e => hnq (e ▸ hF)
  have hM := hm.change (w' := setBlock w b (.map (imE enc (stI m k v) 0).toArray (stI m k v).length)) hjl (imO enc b (stI m k v)) (fp j) (imO_mk s1 hF) (fun i hi => .inl hi) (by
      intro q hq
      have := hm.hi j hjl q hq
      rw [s3]
      exact this) rfl rfl rfl (by rw [s3]; exact Nat.le_refl _) hsame (fun _ => Nat.le_refl _)
  rw [force_eq, setN_eq] at hK
  exact ⟨.v undef, _, σ, _, hK, fun _ _ => rfl, by simp, rfl, trivial, hM, Frm.changed hjl (by simp) (fun i hi => .inl hi) (by rw [s3]; exact Nat.le_refl _) hsame⟩
end
abbrev SlT := Option Addr × Nat × List (Int × Int)
def encBm (b : Int × Int) : List Value := [.int .i64 b.1, .int .i64 b.2]
def encS (s : SlT) : Value := .slice s.1 s.2.2.length s.2.1
def InF (w : World) (F : Nat → Prop) (s : SlT) : Prop := ArgSl w s.1 s.2.2.length 2 (s.2.2.map encBm) ∧ (s.2.2.length ≠ 0 → ∀ a o q, s.1 = some ⟨a, o, q⟩ → F a)
theorem InF.ext {w w' : World} {F F' : Nat → Prop} {s : SlT} (h : InF w F s) (hF : ∀ i, F i → F' i) (hw : ∀ i, F i → w'.heap[i]? = w.heap[i]?) : InF w' F' s := by
  obtain ⟨h1, h2⟩ := h
  refine ⟨⟨h1.len, h1.size, h1.one, fun hn => ?_⟩, fun hn a o q hA => hF _ (h2 hn a o q hA)⟩
  obtain ⟨b, o, hA, hc⟩ := h1.at_ hn
  refine ⟨b, o, hA, fun i x hi j v hj => ?_⟩
  rw [World.cell?_of_block (w := w) (hw b (h2 hn b o none hA))]
  exact hc i x hi j v hj
def scO (b : Nat) (m : List (Int × SlT)) : OB := .res fun w F => (ImAt encS w b m ∧ F b) ∧ ∀ e ∈ m, InF w F e.2
def bmO (s : SlT) : OB := .res fun w F => InF w F s
def noO : OB := .res fun _ _ => True
theorem scO_mk {w : World} {b : Nat} {m : List (Int × SlT)} {F : Nat → Prop} (h : ImAt encS w b m) (hF : F b) (hs : ∀ e ∈ m, InF w F e.2) {σ : Nat → Nat} {n q : Nat} : (scO b m).at σ n w q F :=
  ⟨⟨⟨h, hF⟩, hs⟩, fun w' hw => ⟨⟨h.ext (hw b hF), hF⟩, fun e he => (hs e he).ext (fun _ h => h) hw⟩⟩
section
variable {C : Ctx} {ob : List OB} {b : Nat} {m : List (Int × SlT)}
theorem nth_sc {σ : Nat → Nat} {fp : Nat → Nat → Prop} {w : World} {j : Nat} (hm : Mem C σ fp ob w) (h : nth ob j = some (scO b m)) : (ImAt encS w b m ∧ fp j b) ∧ (∀ e ∈ m, InF w (fp j) e.2) ∧ j < ob.length := by
  rw [nth_eq] at h
  have := hm.at_ j _ h
  exact ⟨this.1.1, this.1.2, (List.getElem?_eq_some_iff.1 h).1⟩
theorem nth_bm {σ : Nat → Nat} {fp : Nat → Nat → Prop} {w : World} {j : Nat} {s : SlT} (hm : Mem C σ fp ob w) (h : nth ob j = some (bmO s)) : InF w (fp j) s ∧ j < ob.length := by
  rw [nth_eq] at h
  have := hm.at_ j _ h
  exact ⟨this.1, (List.getElem?_eq_some_iff.1 h).1⟩
theorem Mem.merge {σ : Nat → Nat} {fp : Nat → Nat → Prop} {w w' : World} (h : Mem C σ fp ob w) {j q : Nat} (hj : j < ob.length) (hq : q < ob.length) (hjq : j ≠ q) (o o2 : OB)
    (ho : o.at σ ob.length w' (σ j) (fun i => fp j i ∨ fp q i)) (ho2 : o2.at σ ob.length w' (σ q) (fun _ => False)) (hos : w'.os = w.os) (htape : w'.tape = w.tape) (hout : w'.output = w.output) (hsz : w'.heap.size = w.heap.size)
    (hsame : ∀ i, i < w.heap.size → ¬ fp j i → w'.heap[i]? = w.heap[i]?) (hdr : w'.drawn = w.drawn) : Mem C σ (fun k => if k = j then (fun i => fp j i ∨ fp q i) else if k = q then (fun _ => False) else fp k) ((ob.set j o).set q o2) w' := by
  have hch := h.change (w' := w') hj (.res fun _ _ => True) (fp j) ⟨trivial, fun _ _ => trivial⟩ (fun i hi => .inl hi) (fun i hi => by rw [hsz]; exact h.hi j hj i hi) hos htape hout (by omega) hsame (fun _ => by omega)
  refine ⟨?_, ?_, ?_, ?_, hch.kept, ⟨by simpa using h.pin.1, h.pin.2⟩, fun hd => by rw [hdr]; exact h.drw hd⟩
  · intro k o' hk
    simp only [List.length_set]
    by_cases e : k = q
    · subst e
      rw [List.getElem?_set_self (by simpa using hq)] at hk
      cases hk
      rw [if_neg (by omega), if_pos rfl]
      exact ho2
    · rw [List.getElem?_set_ne (by omega)] at hk
      by_cases ej : k = j
      · subst ej
        rw [List.getElem?_set_self hj] at hk
        cases hk
        rw [if_pos rfl]
        exact ho
      · rw [List.getElem?_set_ne (by omega)] at hk
        rw [if_neg ej, if_neg e]
        have hlt := (List.getElem?_eq_some_iff.1 hk).1
        exact OB.at_ext (h.at_ k o' hk) (fun _ _ => rfl) (Nat.le_refl _) fun i hi => hsame i (h.hi k hlt i hi) (h.disj k j hlt hj ej i hi)
  · intro a b ha hb hne i hi hi'
    simp at ha hb
    have key : ∀ a i, a < ob.length → (if a = j then (fun i => fp j i ∨ fp q i) else if a = q then (fun _ => False) else fp a) i → ∃ a', a' < ob.length ∧ fp a' i ∧ (a' = a ∨ (a = j ∧ a' = q)) ∧ a ≠ q := by
      intro a i ha hi
      by_cases e1 : a = j
      · rw [if_pos e1] at hi
        rcases hi with hi | hi
        · exact ⟨j, hj, hi, .inl e1.symm, by omega⟩
        · exact ⟨q, hq, hi, .inr ⟨e1, rfl⟩, by omega⟩
      · rw [if_neg e1] at hi
        by_cases e2 : a = q
        · rw [if_pos e2] at hi
          exact hi.elim
        · rw [if_neg e2] at hi
          exact ⟨a, ha, hi, .inl rfl, e2⟩
    obtain ⟨a', a1, a2, a3, a4⟩ := key a i ha hi
    obtain ⟨b', b1, b2, b3, b4⟩ := key b i hb hi'
    refine h.disj a' b' a1 b1 ?_ i a2 b2
    omega
  · intro k hk i hi
    simp at hk
    by_cases e1 : k = j
    · rw [if_pos e1] at hi
      rcases hi with hi | hi
      · exact h.lo j hj i hi
      · exact h.lo q hq i hi
    · rw [if_neg e1] at hi
      by_cases e2 : k = q
      · rw [if_pos e2] at hi
        exact hi.elim
      · rw [if_neg e2] at hi
        exact h.lo k hk i hi
  · intro k hk i hi
    simp at hk
    rw [hsz]
    by_cases e1 : k = j
    · rw [if_pos e1] at hi
      rcases hi with hi | hi
      · exact h.hi j hj i hi
      · exact h.hi q hq i hi
    · rw [if_neg e1] at hi
      by_cases e2 : k = q
      · rw [if_pos e2] at hi
        exact hi.elim
      · rw [if_neg e2] at hi
        exact h.hi k hk i hi
theorem OpX_makeS {o : Oper} {t : TypeId} {K : SV → List OB → Prop} (ho : o.op = .makeMap t none) (hK : ∀ b, force (ob ++ [scO b []]) fun ob => K (.v (.map (some b))) ob) : OpX C o [] ob K := by
  unfold OpX
  intro σ fp w ρ hm hx
  have hex : (execOp ρ o).run C.P w = .ok (.value (.map (some w.heap.size))) (w.alloc (.map #[] 0)) := by
    simp [execOp, ho, Instr.makeMap, run_newObj_alloc]
  rw [hex]
  have hT : ImAt encS (w.alloc (.map #[] 0)) w.heap.size [] := heap_alloc_new w _
  have hb : Below w.heap.size w (w.alloc (.map #[] 0)) := (Below.refl _ w).alloc (Nat.le_refl _) _
  have hK := hK w.heap.size
  rw [force_eq] at hK
  refine ⟨.v (.map (some w.heap.size)), _, _, _, hK, fun j hj => by simp [show j ≠ ob.length by omega], by simp, rfl, trivial, hm.pushO hb (scO w.heap.size []) 0 (fun i => i = w.heap.size) (scO_mk (F := fun i => i = w.heap.size) hT rfl (fun e he => by cases he)) (fun i hi => by subst hi; simp) (fun _ => Nat.le_refl _), Frm.pushed hb (by simp) fun i hi => by omega⟩
def slOf (m : List (Int × SlT)) (k : Int) : SlT := (lkI m k).getD (none, 0, [])
theorem ValX_lookS {o : Oper} {x y : Operand} {t kt e : TypeId} {k : Int} (j : Nat) {K : SV → Prop} (hP : C.P = Tryz.prog) (ho : o.op = .lookup t x y true) (ht : Tryz.prog.underlying t = some (.map kt e)) (hk : Tryz.prog.underlying kt = some (.int .i64)) (hz : ∀ w, (zeroValue e).run Tryz.prog w = .ok (.slice none 0 0) w)
    (hj : nth ob j = some (scO b m)) (hK : K (.t [.v (.slice (slOf m k).1 (slOf m k).2.2.length (slOf m k).2.1), B (lkI m k).isSome])) : ValX C o [.v (.map (some b)), I k] ob K := by
  unfold ValX
  intro σ fp w ρ hm hx
  obtain ⟨⟨hT, _⟩, _⟩ := nth_sc hm hj
  rw [ho] at hx
  simp [Op.operands, SV.vals, SV.val] at hx
  refine ⟨_, hK, ?_, by simp [SV.wf, SV.wfs]⟩
  have := run_lookup_im encS ht hk hz hT k
  have e2 : ((lkI m k).map encS).getD (.slice none 0 0) = .slice (slOf m k).1 (slOf m k).2.2.length (slOf m k).2.1 := by
    unfold slOf
    cases lkI m k <;> rfl
  rw [e2] at this
  rw [hP]
  simp only [execOp, ho, hx.1, hx.2, Sem.run_bind, this, Result.andThen_ok, Sem.run_pure, SV.val, SV.vals]
theorem lkI_mem {α : Type} {m : List (Int × α)} {k : Int} {v : α} (h : lkI m k = some v) : (k, v) ∈ m := by
  unfold lkI at h
  cases hi : ixI m k with
  | none => rw [hi] at h; cases h
  | some p =>
    rw [hi] at h
    cases h
    exact List.mem_of_getElem? (ixI_some p.2 hi).1
theorem stI_mem {α : Type} : ∀ {m : List (Int × α)} {k : Int} {v : α} {e : Int × α}, e ∈ stI m k v → e ∈ m ∨ e = (k, v)
  | [], _, _, _, h => by simpa [stI] using h
  | (k', u) :: r, k, v, e, h => by
    unfold stI at h
    split at h
    · rcases List.mem_cons.1 h with h | h
      · exact .inr h
      · exact .inl (List.mem_cons_of_mem _ h)
    · rcases List.mem_cons.1 h with h | h
      · exact .inl (by rw [h]; exact List.mem_cons_self ..)
      · rcases stI_mem h with h | h
        · exact .inl (List.mem_cons_of_mem _ h)
        · exact .inr h
theorem ArgSl.sc (j : Nat) (k : Int) (h : nth ob j = some (scO b m)) : ∀ σ fp w, Mem C σ fp ob w → ArgSl w (slOf m k).1 (slOf m k).2.2.length 2 ((slOf m k).2.2.map encBm) := by
  intro σ fp w hm
  obtain ⟨_, hs, _⟩ := nth_sc hm h
  unfold slOf
  cases hi : lkI m k with
  | none => exact ⟨rfl, by simp, by simp, fun h => (h rfl).elim⟩
  | some v => exact (hs _ (lkI_mem hi)).1
theorem ArgSl.bm {s : SlT} (j : Nat) (h : nth ob j = some (bmO s)) : ∀ σ fp w, Mem C σ fp ob w → ArgSl w s.1 s.2.2.length 2 (s.2.2.map encBm) :=
  fun _ _ _ hm => (nth_bm hm h).1.1
theorem OpX_putS {o : Oper} {x y u : Operand} {t kt e : TypeId} {k : Int} {s : SlT} {K : SV → List OB → Prop} (j q : Nat) (hjq : j ≠ q) (hP : C.P = Tryz.prog) (ho : o.op = .mapUpdate t x y u) (ht : Tryz.prog.underlying t = some (.map kt e)) (hk : Tryz.prog.underlying kt = some (.int .i64))
    (hj : nth ob j = some (scO b m)) (hq : nth ob q = some (bmO s)) (hK : force (setN (setN ob j (scO b (stI m k s))) q noO) fun ob => K (.v undef) ob) : OpX C o [.v (.map (some b)), I k, .v (.slice s.1 s.2.2.length s.2.1)] ob K := by
  unfold OpX
  intro σ fp w ρ hm hx
  obtain ⟨⟨hT, hF⟩, hs, hjl⟩ := nth_sc hm hj
  obtain ⟨hb, hql⟩ := nth_bm hm hq
  rw [ho] at hx
  simp [Op.operands, SV.vals, SV.val] at hx
  have hu := run_update_im encS ht hk hT k s
  have hex : (execOp ρ o).run C.P w = .ok .skip (setBlock w b (.map (imE encS (stI m k s) 0).toArray (stI m k s).length)) := by
    rw [hP]
    simp only [execOp, ho, hx.1, hx.2.1, hx.2.2, Sem.run_bind]
    have hu' : (Instr.mapUpdate t (.map (some b)) (.int .i64 k) (.slice s.1 s.2.2.length s.2.1)).run Tryz.prog w = .ok () (setBlock w b (.map (imE encS (stI m k s) 0).toArray (stI m k s).length)) := hu
    rw [hu']
    rfl
  rw [hex]
  obtain ⟨s1, s2, s3⟩ := imSet hT (.map (imE encS (stI m k s) 0).toArray (stI m k s).length)
  have hsame : ∀ q, q < w.heap.size → ¬ fp j q → (setBlock w b (.map (imE encS (stI m k s) 0).toArray (stI m k s).length)).heap[q]? = w.heap[q]? := fun q hq hnq => s2 q fun e => hnq (e ▸ hF)
  have hMb : ∀ (v : SlT) (F : Nat → Prop), InF w F v → (∀ i, F i → fp j i ∨ fp q i) → InF (setBlock w b (.map (imE encS (stI m k s) 0).toArray (stI m k s).length)) (fun i => fp j i ∨ fp q i) v := by
    intro v F hv hFF
    obtain ⟨h1, h2⟩ := hv
    refine ⟨⟨h1.len, h1.size, h1.one, fun hn => ?_⟩, fun hn a o z hA => hFF _ (h2 hn a o z hA)⟩
    obtain ⟨c, o, hA, hc⟩ := h1.at_ hn
    refine ⟨c, o, hA, fun i x hi j' v' hj' => ?_⟩
    have hne : c ≠ b := by
      rintro rfl
      have hcell := hc i x hi j' v' hj'
      unfold World.cell? at hcell
      have hT' : w.heap[c]? = some (.map (imE encS m 0).toArray m.length) := hT
      rw [hT'] at hcell
      simp at hcell
    rw [World.cell?_of_block (w := w) (s2 c hne)]
    exact hc i x hi j' v' hj'
  have hM := hm.merge (w' := setBlock w b (.map (imE encS (stI m k s) 0).toArray (stI m k s).length)) hjl hql hjq (scO b (stI m k s)) noO (scO_mk s1 (.inl hF) (by
      intro e he
      rcases stI_mem he with he | rfl
      · exact hMb _ (fp j) (hs e he) fun _ h => .inl h
      · exact hMb _ (fp q) hb fun _ h => .inr h)) ⟨trivial, fun _ _ => trivial⟩ rfl rfl rfl s3 hsame rfl
  rw [force_eq, setN_eq, setN_eq] at hK
  refine ⟨.v undef, _, σ, _, hK, fun _ _ => rfl, by simp, rfl, trivial, hM, ⟨fun i _ hi hno => hsame i hi (hno j hjl), fun k' hk' i hi _ hlt => ?_, by rw [s3]; exact Nat.le_refl _⟩⟩
  simp at hk'
  by_cases e1 : k' = j
  · rw [if_pos e1] at hi
    rcases hi with hi | hi
    · exact ⟨j, hjl, hi⟩
    · exact ⟨q, hql, hi⟩
  · rw [if_neg e1] at hi
    by_cases e2 : k' = q
    · rw [if_pos e2] at hi
      exact hi.elim
    · rw [if_neg e2] at hi
      exact ⟨k', hk', hi⟩
theorem row_bm {r : List Nat} {n : Nat} {e : Nat} {s : SlT} : OB.is r n (.row e 2 s.1 s.2.2.length s.2.1 (s.2.2.map encBm)) (bmO s) := by
  intro w F h
  obtain ⟨h1, h2, h3, h4, h5⟩ := h
  have hin : InF w F s := ⟨ArgSl.of_owns h1 h2 h3 h4, fun _ a o q hA => (h5 a).2 (by rw [hA]; rfl)⟩
  exact ⟨hin, fun w' hw => hin.ext (fun _ h => h) hw⟩
end
end Go.Proofs.YtadichckbogcjaaGreatDoor.En
end
section
namespace Go.Proofs.YtadichckbogcjaaGreatDoor.En
open Go.RowKit
set_option maxRecDepth 100000
theorem vwrong_x (b : BeamT) : PureX Tryz.prog 117 [.a [I b.1, I b.2]] (B (wrongB b)) := by
  refine PureX.of Tryz.func117 rfl tabOk rfl rfl rfl (by simp [SV.wfs, SV.wf]) (by simp [SV.wfs, SV.wf]) fun w => ?_
  (conv=>whnf);repeat' (first|with_reducible exact rfl|((with_reducible first|refine xif_kt (by assumption) ?_|refine xif_kf (by assumption) ?_);conv=>whnf)|((with_reducible refine xif_s ?_ ?_)<;>(intro hb;(try simp (disch:=omega) only [hbS] at hb)<;>conv=>whnf)))
  all_goals refine Fin_pure rfl (B_eq ?_) trivial
  all_goals rw [Bool.eq_iff_iff]
  all_goals simp only [wrongB, Bool.or_eq_true, decide_eq_true_eq, true_iff, gt_iff_lt, ge_iff_le]
  all_goals omega
theorem validScan_w (A : Option Addr) (c : Nat) (l : List BeamT) {n : Nat} (hl : l.length = n) (hn : n ≤ maxLen) :
    CallW Tryz.prog 78 [.v (.slice A n c)] (fun w => ArgSl w A n 2 (l.map encB)) (B (scanB l)) := by
  unfold maxLen at hn
  by_cases h : n ≤ 32
  · refine CallW.of Tryz.func78 rfl tabOk rfl rfl rfl (by simp [SV.wfs, SV.wf]) (by simp [SV.wfs, SV.wf]) fun w hpre => ?_
    (conv=>whnf);repeat' (first|((with_reducible refine isC ?_);first|(refine CallX_w (ContainsFuncB_w 117 wrongB vwrong_x A c l hl (by omega)) (hpre.mem (by decide) rfl) ?_; conv => whnf))|with_reducible exact rfl|((with_reducible first|refine xif_kt (by assumption) ?_|refine xif_kf (by assumption) ?_);conv=>whnf)|((with_reducible refine xif_s ?_ ?_)<;>(intro hb;(try simp (disch:=omega) only [hbS] at hb)<;>conv=>whnf)))
    all_goals try (exfalso; omega)
    refine Fin_pure rfl (B_eq ?_) trivial
    have : decide (l.length ≤ 32) = true := by simp; omega
    rw [scanB, this, Bool.true_and]
  · refine CallW.of Tryz.func78 rfl tabOk rfl rfl rfl (by simp [SV.wfs, SV.wf]) (by simp [SV.wfs, SV.wf]) fun w hpre => ?_
    (conv=>whnf);repeat' (first|with_reducible exact rfl|((with_reducible first|refine xif_kt (by assumption) ?_|refine xif_kf (by assumption) ?_);conv=>whnf)|((with_reducible refine xif_s ?_ ?_)<;>(intro hb;(try simp (disch:=omega) only [hbS] at hb)<;>conv=>whnf)))
    all_goals try (exfalso; omega)
    refine Fin_pure rfl (B_eq ?_) trivial
    have : decide (l.length ≤ 32) = false := by simp; omega
    rw [scanB, this, Bool.false_and]
theorem validId_x (k : Int) : PureX Tryz.prog 76 [I k] (B (vId k)) := by
  refine PureX.of Tryz.func76 rfl tabOk rfl rfl rfl (by simp [SV.wfs, SV.wf]) (by simp [SV.wfs, SV.wf]) fun w => ?_
  (conv=>whnf);repeat' (first|with_reducible exact rfl|((with_reducible first|refine xif_kt (by assumption) ?_|refine xif_kf (by assumption) ?_);conv=>whnf)|((with_reducible refine xif_s ?_ ?_)<;>(intro hb;(try simp (disch:=omega) only [hbS] at hb)<;>conv=>whnf)))
  all_goals refine Fin_pure rfl (B_eq ?_) trivial
  all_goals first | (simp [vId, hb]; done) | (simp [vId]; omega)
theorem awithin_x (n : Int) : PureX Tryz.prog 115 [I n] (B (szB n 262144)) := by
  refine PureX.of Tryz.func115 rfl tabOk rfl rfl rfl (by simp [SV.wfs, SV.wf]) (by simp [SV.wfs, SV.wf]) fun w => ?_
  (conv=>whnf);repeat' (first|with_reducible exact rfl|((with_reducible first|refine xif_kt (by assumption) ?_|refine xif_kf (by assumption) ?_);conv=>whnf)|((with_reducible refine xif_s ?_ ?_)<;>(intro hb;(try simp (disch:=omega) only [hbS] at hb)<;>conv=>whnf)))
  all_goals refine Fin_pure rfl (B_eq ?_) trivial
  all_goals first | (simp [szB, hb]; done) | (simp [szB]; omega) | (unfold szB; rw [decide_eq_decide]; omega)
abbrev plX (p : PlT) : SV := .a [I p.1, B p.2.1, I p.2.2.1, I p.2.2.2.1, I p.2.2.2.2]
theorem validPl_x (p : PlT) : PureX Tryz.prog 75 [plX p] (B (vPl p)) := by
  obtain ⟨v, g, x, y, h⟩ := p
  cases g with
  | true =>
    refine PureX.of Tryz.func75 rfl tabOk rfl rfl rfl (by simp [SV.wfs, SV.wf]) (by simp [SV.wfs, SV.wf]) fun w => ?_
    (conv=>whnf);repeat' (first|((with_reducible refine isC ?_);first|((with_reducible refine CallX_pure (awithin_x _) ?_)<;>first|omega|with_reducible refine isP ?_|conv=>whnf))|with_reducible exact rfl|((with_reducible first|refine xif_kt (by assumption) ?_|refine xif_kf (by assumption) ?_);conv=>whnf)|((with_reducible refine xif_s ?_ ?_)<;>(intro hb;(try simp (disch:=omega) only [hbS] at hb)<;>conv=>whnf)))
    all_goals refine Fin_pure rfl (B_eq ?_) trivial
    all_goals first | (simp [vPl]; done) | (simp [vPl]; omega) | (unfold vPl; rw [Bool.eq_iff_iff]; simp; omega)
  | false =>
    refine PureX.of Tryz.func75 rfl tabOk rfl rfl rfl (by simp [SV.wfs, SV.wf]) (by simp [SV.wfs, SV.wf]) fun w => ?_
    (conv=>whnf);repeat' (first|((with_reducible refine isC ?_);first|((with_reducible refine CallX_pure (awithin_x _) ?_)<;>first|omega|with_reducible refine isP ?_|conv=>whnf))|with_reducible exact rfl|((with_reducible first|refine xif_kt (by assumption) ?_|refine xif_kf (by assumption) ?_);conv=>whnf)|((with_reducible refine xif_s ?_ ?_)<;>(intro hb;(try simp (disch:=omega) only [hbS] at hb)<;>conv=>whnf)))
    all_goals refine Fin_pure rfl (B_eq ?_) trivial
    all_goals first | (simp [vPl, *]; done) | (simp [vPl, *]; omega) | (simp [vPl]; omega)
theorem number_d (b : Bool) : PureD Tryz.prog 116 [B b] (I (if b then 1 else 0)) := by
  cases b with
  | true =>
    refine PureD.of Tryz.func116 rfl tabOk rfl rfl rfl (by simp [SV.wfs, SV.wf]) (by simp [SV.wfs, SV.wf]) fun w => ?_
    (conv=>whnf);repeat' (first|with_reducible exact rfl|((with_reducible first|refine xif_kt (by assumption) ?_|refine xif_kf (by assumption) ?_);conv=>whnf)|((with_reducible refine xif_s ?_ ?_)<;>(intro hb;(try simp (disch:=omega) only [hbS] at hb)<;>conv=>whnf)))
    exact Fin_d rfl rfl rfl trivial
  | false =>
    refine PureD.of Tryz.func116 rfl tabOk rfl rfl rfl (by simp [SV.wfs, SV.wf]) (by simp [SV.wfs, SV.wf]) fun w => ?_
    (conv=>whnf);repeat' (first|with_reducible exact rfl|((with_reducible first|refine xif_kt (by assumption) ?_|refine xif_kf (by assumption) ?_);conv=>whnf)|((with_reducible refine xif_s ?_ ?_)<;>(intro hb;(try simp (disch:=omega) only [hbS] at hb)<;>conv=>whnf)))
    exact Fin_d rfl rfl rfl trivial
theorem comparePl_d (p q : PlT) : PureD Tryz.prog 77 [plX p, plX q] (I (lexC (keyP p) (keyP q))) := by
  have e : lexC (keyP p) (keyP q) = orI [cmpI p.1 q.1, cmpI (if p.2.1 then 1 else 0) (if q.2.1 then 1 else 0), cmpI p.2.2.1 q.2.2.1, cmpI p.2.2.2.1 q.2.2.2.1, cmpI p.2.2.2.2 q.2.2.2.2] := rfl
  rw [e]
  refine PureD.of Tryz.func77 rfl tabOk rfl rfl rfl (by simp [SV.wfs, SV.wf]) (by simp [SV.wfs, SV.wf]) fun w => ?_
  (conv=>whnf);repeat' (first|((with_reducible refine isC ?_);first|((first|with_reducible refine CallX_d (Compare_d _ _) ?_|with_reducible refine CallX_d (number_d _) ?_)<;>first|omega|with_reducible refine isP ?_|conv=>whnf)|(refine CallX_v (Or_v _ _ [cmpI p.1 q.1, cmpI (if p.2.1 then 1 else 0) (if q.2.1 then 1 else 0), cmpI p.2.2.1 q.2.2.1, cmpI p.2.2.2.1 q.2.2.2.1, cmpI p.2.2.2.2 q.2.2.2.2] rfl (by decide)) (ArgSl.row 2 rfl) ?_; conv => whnf))|((with_reducible refine isO ?_);first|((first|(refine OpX_build0 tabOk rfl rfl rfl ?_);intro bN|(refine OpX_build tabOk rfl rfl rfl rfl rfl ?_);intro bN);conv=>whnf))|((first|refine DrawX_s tabOk folOk ?_|refine DrawS_i (by kernel_rfl) ?_|with_reducible refine andX_i ?_ ?_)<;>conv=>whnf)|with_reducible exact rfl|((with_reducible first|refine xif_kt (by assumption) ?_|refine xif_kf (by assumption) ?_);conv=>whnf)|((with_reducible refine xif_s ?_ ?_)<;>(intro hb;(try simp (disch:=omega) only [hbS] at hb)<;>conv=>whnf)))
  exact Fin_d rfl rfl rfl trivial
theorem compareB_d (a b : BeamT) : PureD Tryz.prog 119 [.a [I a.1, I a.2], .a [I b.1, I b.2]] (I (orI [cmpI a.1 b.1, cmpI a.2 b.2])) := by
  refine PureD.of Tryz.func119 rfl tabOk rfl rfl rfl (by simp [SV.wfs, SV.wf]) (by simp [SV.wfs, SV.wf]) fun w => ?_
  (conv=>whnf);repeat' (first|((with_reducible refine isC ?_);first|((with_reducible refine CallX_d (Compare_d _ _) ?_)<;>first|omega|with_reducible refine isP ?_|conv=>whnf)|(refine CallX_v (Or_v _ _ [cmpI a.1 b.1, cmpI a.2 b.2] rfl (by decide)) (ArgSl.row 2 rfl) ?_; conv => whnf))|((with_reducible refine isO ?_);first|((first|(refine OpX_build0 tabOk rfl rfl rfl ?_);intro bN|(refine OpX_build tabOk rfl rfl rfl rfl rfl ?_);intro bN);conv=>whnf))|((first|refine DrawX_s tabOk folOk ?_|refine DrawS_i (by kernel_rfl) ?_|with_reducible refine andX_i ?_ ?_)<;>conv=>whnf)|with_reducible exact rfl|((with_reducible first|refine xif_kt (by assumption) ?_|refine xif_kf (by assumption) ?_);conv=>whnf)|((with_reducible refine xif_s ?_ ?_)<;>(intro hb;(try simp (disch:=omega) only [hbS] at hb)<;>conv=>whnf)))
  exact Fin_d rfl rfl rfl trivial
theorem lexC_cons2 (a b : BeamT) (xs ys : List BeamT) : lexC (flatB (a :: xs)) (flatB (b :: ys)) = if orI [cmpI a.1 b.1, cmpI a.2 b.2] = 0 then lexC (flatB xs) (flatB ys) else orI [cmpI a.1 b.1, cmpI a.2 b.2] := by
  simp only [flatB, lexC, orI]
  by_cases h1 : cmpI a.1 b.1 = 0
  · simp only [h1, if_true]
    by_cases h2 : cmpI a.2 b.2 = 0
    · simp only [h2, if_true]
    · simp only [h2, if_false]
  · simp only [h1, if_false]
set_option maxHeartbeats 1000000 in
theorem CompareFunc_w (A1 A2 : Option Addr) (c1 c2 : Nat) (a b : List BeamT) {n : Nat} (ha : a.length = n) (hb0 : b.length = n) (hn : n ≤ 1000000000) :
    CallW Tryz.prog 118 [.v (.slice A1 n c1), .v (.slice A2 n c2), .v (.func (.func 119) #[] #[])] (fun w => ArgSl w A1 n 2 (a.map encB) ∧ ArgSl w A2 n 2 (b.map encB)) (I (lexC (flatB a) (flatB b))) := by
  refine CallW.of Tryz.func118 rfl tabOk rfl rfl rfl (by simp [SV.wfs, SV.wf]) (by simp [SV.wfs, SV.wf]) fun w hpre => ?_
  obtain ⟨h1, h2⟩ := hpre
  (conv=>whnf);repeat' (first|((with_reducible refine isW ?_;first|refine xwr_ok (by omega) (by omega) ?_|refine xwr_raw ?_);conv=>whnf)|with_reducible exact rfl|((with_reducible first|refine xif_kt (by assumption) ?_|refine xif_kf (by assumption) ?_);conv=>whnf)|((with_reducible refine xif_s ?_ ?_)<;>(intro hb;(try simp (disch:=omega) only [hbS] at hb)<;>conv=>whnf)))
  refine LoopX_inv tabOk (α := Nat) (fun k => k ≤ n ∧ lexC (flatB a) (flatB b) = lexC (flatB (a.drop k)) (flatB (b.drop k))) (fun k => [(0, .v (.slice A1 n c1)), (1, .v (.slice A2 n c2)), (2, .v (.func (.func 119) #[] #[])), (11, .v (.slice A1 n c1)), (12, I n), (13, I k)]) (fun _ => []) (fun k => n - k) 0 [] ⟨Nat.zero_le _, by simp⟩ ?_ ?_
  · ((refine ⟨?_, ?_, ?_, ?_⟩) <;> (repeat' ((conv => whnf); apply And.intro)) <;> (try (first | exact trivial | decide)))
    all_goals first | rfl | exact fun _ _ h => h | simp [SV.wf, SV.wfs]
  · rintro k ⟨hk, hlx⟩
    by_cases hlt : k < n
    · have hc := PureD.pure (compareB_d (a.getD k b0) (b.getD k b0))
      have da : a.drop k = a.getD k b0 :: a.drop (k + 1) := by
        rw [List.drop_eq_getElem_cons (show k < a.length by omega)]
        simp [show k < a.length by omega]
      have db : b.drop k = b.getD k b0 :: b.drop (k + 1) := by
        rw [List.drop_eq_getElem_cons (show k < b.length by omega)]
        simp [show k < b.length by omega]
      rw [da, db, lexC_cons2] at hlx
      generalize hO : orI [cmpI (a.getD k b0).1 (b.getD k b0).1, cmpI (a.getD k b0).2 (b.getD k b0).2] = O at *
      (conv=>whnf);repeat' (first|((with_reducible refine isC ?_);first|((with_reducible refine CallX_pure (hc) ?_)<;>first|omega|with_reducible refine isP ?_|conv=>whnf))|((with_reducible refine isV ?_);first|((first|refine ValX_index tabOk rfl (h1.mem (by decide) rfl) rfl ?_ ?_ ?_|(with_reducible refine nat_idx ?_);refine ValX_loadEn _ _ (b0) tabOk rfl rfl rfl rfl (h1.mem (by decide) rfl) ?_ ?_ ?_|refine ValX_loadE _ _ (b0) tabOk rfl rfl rfl rfl (h1.mem (by decide) rfl) ?_ ?_ ?_|refine ValX_index tabOk rfl (h2.mem (by decide) rfl) rfl ?_ ?_ ?_|(with_reducible refine nat_idx ?_);refine ValX_loadEn _ _ (b0) tabOk rfl rfl rfl rfl (h2.mem (by decide) rfl) ?_ ?_ ?_|refine ValX_loadE _ _ (b0) tabOk rfl rfl rfl rfl (h2.mem (by decide) rfl) ?_ ?_ ?_)<;>first|rfl|omega|with_reducible refine isP ?_|conv=>whnf))|((with_reducible refine isW ?_;first|refine xwr_ok (by omega) (by omega) ?_|refine xwr_raw ?_);conv=>whnf)|with_reducible exact rfl|((with_reducible first|refine xif_kt (by assumption) ?_|refine xif_kf (by assumption) ?_);conv=>whnf)|((with_reducible refine xif_s ?_ ?_)<;>(intro hb;(try simp (disch:=omega) only [hbS] at hb)<;>conv=>whnf)))
      all_goals try (exfalso; omega)
      · rw [if_neg hb] at hlx
        rw [hlx]
        exact Fin_pure rfl rfl trivial
      · rw [if_pos hb] at hlx
        refine ⟨k + 1, [], ⟨by omega, hlx⟩, ?_, by (try dsimp only); omega⟩
        ((refine ⟨?_, ?_, ?_, ?_⟩) <;> (repeat' ((conv => whnf); apply And.intro)) <;> (try (first | exact trivial | decide)))
        all_goals first | rfl | exact fun _ _ h => h | (simp [SV.wf, SV.wfs]; done) | trace_state
    · obtain rfl : k = n := by omega
      rw [List.drop_of_length_le (by omega), List.drop_of_length_le (by omega)] at hlx
      (conv=>whnf);repeat' (first|((with_reducible refine isW ?_;first|refine xwr_ok (by omega) (by omega) ?_|refine xwr_raw ?_);conv=>whnf)|with_reducible exact rfl|((with_reducible first|refine xif_kt (by assumption) ?_|refine xif_kf (by assumption) ?_);conv=>whnf)|((with_reducible refine xif_s ?_ ?_)<;>(intro hb;(try simp (disch:=omega) only [hbS] at hb)<;>conv=>whnf)))
      all_goals try (exfalso; omega)
      rw [hlx]
      exact Fin_pure rfl rfl trivial
theorem compareScans_w (A1 A2 : Option Addr) (c1 c2 : Nat) (a b : List BeamT) {n m : Nat} (ha : a.length = n) (hb0 : b.length = m) (hn : n ≤ 1000000000) (hm : m ≤ 1000000000) :
    CallW Tryz.prog 79 [.v (.slice A1 n c1), .v (.slice A2 m c2)] (fun w => ArgSl w A1 n 2 (a.map encB) ∧ ArgSl w A2 m 2 (b.map encB)) (I (lexC (keyS a) (keyS b))) := by
  have e : lexC (keyS a) (keyS b) = if cmpI n m = 0 then lexC (flatB a) (flatB b) else cmpI n m := by
    rw [← ha, ← hb0]
    rfl
  rw [e]
  have k1 := PureD.pure (Compare_d (n : Int) (m : Int))
  by_cases h : n = m
  · subst h
    rw [cmpI_zero.2 rfl] at k1 ⊢
    rw [if_pos rfl]
    refine CallW.of Tryz.func79 rfl tabOk rfl rfl rfl (by simp [SV.wfs, SV.wf]) (by simp [SV.wfs, SV.wf]) fun w hpre => ?_
    (conv=>whnf);repeat' (first|((with_reducible refine isC ?_);first|((with_reducible refine CallX_pure (k1) ?_)<;>first|omega|with_reducible refine isP ?_|conv=>whnf)|(refine CallX_w (CompareFunc_w A1 A2 c1 c2 a b ha hb0 hn) (fun σ fp w hm => ⟨hpre.1.mem (by decide) rfl σ fp w hm, hpre.2.mem (by decide) rfl σ fp w hm⟩) ?_; conv => whnf))|with_reducible exact rfl|((with_reducible first|refine xif_kt (by assumption) ?_|refine xif_kf (by assumption) ?_);conv=>whnf)|((with_reducible refine xif_s ?_ ?_)<;>(intro hb;(try simp (disch:=omega) only [hbS] at hb)<;>conv=>whnf)))
    exact Fin_pure rfl rfl trivial
  · have hne : cmpI (n : Int) (m : Int) ≠ 0 := fun hc => h (by have := cmpI_zero.1 hc; omega)
    rw [if_neg hne]
    generalize cmpI (n : Int) (m : Int) = O at *
    refine CallW.of Tryz.func79 rfl tabOk rfl rfl rfl (by simp [SV.wfs, SV.wf]) (by simp [SV.wfs, SV.wf]) fun w hpre => ?_
    (conv=>whnf);repeat' (first|((with_reducible refine isC ?_);first|((with_reducible refine CallX_pure (k1) ?_)<;>first|omega|with_reducible refine isP ?_|conv=>whnf))|with_reducible exact rfl|((with_reducible first|refine xif_kt (by assumption) ?_|refine xif_kf (by assumption) ?_);conv=>whnf)|((with_reducible refine xif_s ?_ ?_)<;>(intro hb;(try simp (disch:=omega) only [hbS] at hb)<;>conv=>whnf)))
    all_goals try (exfalso; omega)
    exact Fin_pure rfl rfl trivial
end Go.Proofs.YtadichckbogcjaaGreatDoor.En
end
