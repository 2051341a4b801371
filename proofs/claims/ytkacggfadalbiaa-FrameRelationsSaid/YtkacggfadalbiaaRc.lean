/- slices.Clone of relations, and (*Relations).Clone. -/
import Derived.Test.YtkacggfadalbiaaRq3
set_option linter.all false
namespace Go.Proofs.Ytkacggfadalbiaa.En
open Go.RowKit
set_option maxRecDepth 100000

theorem cloneR_x (A : Option Addr) (c : Nat) (rs : List RelT) (hl : rs.length ≤ 1000) :
    CallM Try.prog 55 [.v (.slice A rs.length c)] (fun w M => ArgN w M A rs.length 5 (rs.map encR)) []
      (fun (p : Option Addr × Nat) => .v (.slice p.1 rs.length p.2)) (fun p => [.row 56 5 p.1 rs.length p.2 (rs.map encR)]) := by
  refine CallM.of (m := 0) Try.func55 rfl tabOk rfl rfl rfl rfl (by simp [SV.wfs, SV.wf]) fun w M π hpre => ?_
  cases A with
  | none =>
    have hn : rs.length = 0 := by
      cases h : rs.length with
      | zero => rfl
      | succ n =>
        obtain ⟨b, o, h1, _⟩ := hpre.1.at_ (by omega)
        cases h1
    have he : rs = [] := List.eq_nil_of_length_eq_zero hn
    subst he
    (conv => whnf); repeat' (first | ((with_reducible refine isO ?_); first | ((refine OpX_build0 tabOk rfl rfl rfl ?_); intro bN; conv => whnf) | ((refine OpX_build tabOk rfl rfl rfl rfl rfl ?_); intro bN; conv => whnf)) | ((with_reducible refine isW ?_); first | ((with_reducible refine xwr_ok (by omega) (by omega) ?_); conv => whnf) | ((with_reducible refine xwr_raw ?_); conv => whnf)) | ((with_reducible refine isQ ?_); first | ((with_reducible refine xquo_nn (by omega) (by omega) (by omega) ?_); conv => whnf) | ((with_reducible refine xquo_ok (by omega) (by omega) (by omega) ?_); conv => whnf) | ((with_reducible refine xquo_raw (by omega) ?_); conv => whnf)) | ((with_reducible refine isR ?_); first | ((with_reducible refine xrem_nn (by omega) (by omega) ?_); conv => whnf) | ((with_reducible refine xrem_raw (by omega) ?_); conv => whnf)) | ((with_reducible refine need_i ?_ ?_) <;> first | omega | (conv => whnf)) | ((refine DrawX_s tabOk folOk ?_); conv => whnf) | ((refine DrawS_i (by kernel_rfl) ?_); conv => whnf) | ((with_reducible refine andX_i ?_ ?_) <;> (conv => whnf)) | (with_reducible exact rfl) | ((with_reducible refine xif_kt (by with_reducible assumption) ?_); conv => whnf) | ((with_reducible refine xif_kf (by with_reducible assumption) ?_); conv => whnf) | (((with_reducible refine xif_s ?_ ?_) <;> (intro hb; (try simp (disch := omega) only [wr, ge_dec, gt_dec, decide_eq_true_eq, decide_eq_false_iff_not, beq_iff_eq, bne_iff_ne, beq_eq_false_iff_ne, bne_eq_false_iff_eq, Bool.not_eq_true', Bool.not_eq_false', Bool.and_eq_true, Bool.or_eq_true, Bool.not_not, ne_eq, Decidable.not_not, Int.not_le, Int.not_lt, Int.toNat_natCast, not_true_eq_false, eq_self, Bool.not_true, Bool.not_false, Bool.true_eq_false, Bool.false_eq_true] at hb))) <;> (conv => whnf)))
    refine Fin_addNil 56 5 ?_
    exact Fin_m (none, 0) [0] ⟨rfl, by simp [SV.wf]⟩ ⟨⟨rfl, rfl, rfl, rfl, rfl, rfl⟩, trivial⟩ (by decide) rfl
  | some a =>
    (conv => whnf); repeat' (first | ((with_reducible refine isO ?_); first | ((refine OpX_append 0 tabOk rfl rfl rfl rfl (ArgN.mem hpre (by decide)) (by decide) ?_ ?_ ?_) <;> first | omega | (dsimp only; omega) | (intro A' c'; conv => whnf)) | ((refine OpX_build0 tabOk rfl rfl rfl ?_); intro bN; conv => whnf) | ((refine OpX_build tabOk rfl rfl rfl rfl rfl ?_); intro bN; conv => whnf)) | ((with_reducible refine isW ?_); first | ((with_reducible refine xwr_ok (by omega) (by omega) ?_); conv => whnf) | ((with_reducible refine xwr_raw ?_); conv => whnf)) | ((with_reducible refine isQ ?_); first | ((with_reducible refine xquo_nn (by omega) (by omega) (by omega) ?_); conv => whnf) | ((with_reducible refine xquo_ok (by omega) (by omega) (by omega) ?_); conv => whnf) | ((with_reducible refine xquo_raw (by omega) ?_); conv => whnf)) | ((with_reducible refine isR ?_); first | ((with_reducible refine xrem_nn (by omega) (by omega) ?_); conv => whnf) | ((with_reducible refine xrem_raw (by omega) ?_); conv => whnf)) | ((with_reducible refine need_i ?_ ?_) <;> first | omega | (conv => whnf)) | ((refine DrawX_s tabOk folOk ?_); conv => whnf) | ((refine DrawS_i (by kernel_rfl) ?_); conv => whnf) | ((with_reducible refine andX_i ?_ ?_) <;> (conv => whnf)) | (with_reducible exact rfl) | ((with_reducible refine xif_kt (by with_reducible assumption) ?_); conv => whnf) | ((with_reducible refine xif_kf (by with_reducible assumption) ?_); conv => whnf) | (((with_reducible refine xif_s ?_ ?_) <;> (intro hb; (try simp (disch := omega) only [wr, ge_dec, gt_dec, decide_eq_true_eq, decide_eq_false_iff_not, beq_iff_eq, bne_iff_ne, beq_eq_false_iff_ne, bne_eq_false_iff_eq, Bool.not_eq_true', Bool.not_eq_false', Bool.and_eq_true, Bool.or_eq_true, Bool.not_not, ne_eq, Decidable.not_not, Int.not_le, Int.not_lt, Int.toNat_natCast, not_true_eq_false, eq_self, Bool.not_true, Bool.not_false, Bool.true_eq_false, Bool.false_eq_true] at hb))) <;> (conv => whnf)))
    exact Fin_m (A', c') [0] ⟨by rw [Nat.zero_add]; rfl, by simp [SV.wf]⟩ ⟨⟨rfl, rfl, rfl, by rw [Nat.zero_add], rfl, rfl⟩, trivial⟩ (by decide) rfl

theorem cloneRel_x (A : Option Addr) (c : Nat) (rs : List RelT) (hl : rs.length ≤ 1000) :
    CallM Try.prog 29 [.p 0 0] (fun _ _ => True) [.box 95 [.v (.slice A rs.length c)], .row 56 5 A rs.length c (rs.map encR)]
      (fun (_ : Option Addr × Nat) => .p 2 0) (fun p => [.box 95 [.v (.slice A rs.length c)], .row 56 5 A rs.length c (rs.map encR), .box 95 [.v (.slice p.1 rs.length p.2)], .row 56 5 p.1 rs.length p.2 (rs.map encR)]) := by
  refine CallM.of (m := 2) Try.func29 rfl tabOk rfl rfl rfl rfl (by simp [SV.wfs, SV.wf]) fun w M π hpre => ?_
  (conv => whnf); repeat' (first | ((with_reducible refine isC ?_); first | (refine CallX_m (cloneR_x A c rs hl) [] rfl trivial (by decide) (ArgN.row 1 rfl (m := 0) (fun j hj => by omega)) ?_; intro p; conv => whnf)) | ((with_reducible refine isO ?_); first | ((refine OpX_build0 tabOk rfl rfl rfl ?_); intro bN; conv => whnf) | ((refine OpX_build tabOk rfl rfl rfl rfl rfl ?_); intro bN; conv => whnf)) | ((with_reducible refine isW ?_); first | ((with_reducible refine xwr_ok (by omega) (by omega) ?_); conv => whnf) | ((with_reducible refine xwr_raw ?_); conv => whnf)) | ((with_reducible refine isQ ?_); first | ((with_reducible refine xquo_nn (by omega) (by omega) (by omega) ?_); conv => whnf) | ((with_reducible refine xquo_ok (by omega) (by omega) (by omega) ?_); conv => whnf) | ((with_reducible refine xquo_raw (by omega) ?_); conv => whnf)) | ((with_reducible refine isR ?_); first | ((with_reducible refine xrem_nn (by omega) (by omega) ?_); conv => whnf) | ((with_reducible refine xrem_raw (by omega) ?_); conv => whnf)) | ((with_reducible refine need_i ?_ ?_) <;> first | omega | (conv => whnf)) | ((refine DrawX_s tabOk folOk ?_); conv => whnf) | ((refine DrawS_i (by kernel_rfl) ?_); conv => whnf) | ((with_reducible refine andX_i ?_ ?_) <;> (conv => whnf)) | (with_reducible exact rfl) | ((with_reducible refine xif_kt (by with_reducible assumption) ?_); conv => whnf) | ((with_reducible refine xif_kf (by with_reducible assumption) ?_); conv => whnf) | (((with_reducible refine xif_s ?_ ?_) <;> (intro hb; (try simp (disch := omega) only [wr, ge_dec, gt_dec, decide_eq_true_eq, decide_eq_false_iff_not, beq_iff_eq, bne_iff_ne, beq_eq_false_iff_ne, bne_eq_false_iff_eq, Bool.not_eq_true', Bool.not_eq_false', Bool.and_eq_true, Bool.or_eq_true, Bool.not_not, ne_eq, Decidable.not_not, Int.not_le, Int.not_lt, Int.toNat_natCast, not_true_eq_false, eq_self, Bool.not_true, Bool.not_false, Bool.true_eq_false, Bool.false_eq_true] at hb))) <;> (conv => whnf)))
  exact Fin_m p [0, 1, 3, 2] ⟨rfl, by simp [SV.wf]⟩ ⟨⟨rfl, rfl, trivial, trivial⟩, ⟨rfl, rfl, rfl, rfl, rfl, rfl⟩, ⟨rfl, rfl, trivial, trivial⟩, ⟨rfl, rfl, rfl, rfl, rfl, rfl⟩, trivial⟩ (by decide) rfl

theorem flat_rels : ∀ rs : List RelT, (rs.map encR).flatten = relsCells rs
  | [] => rfl
  | r :: rs => by
    have := flat_rels rs
    simp only [relsCells, List.map_cons, List.flatten_cons, List.flatMap_cons] at this ⊢
    rw [this]
    rfl
theorem rels_at {C : Ctx} {σ : Nat → Nat} {fp : Nat → Nat → Prop} {os : List OB} {w : World} {i i2 : Nat} {A : Option Addr} {c n : Nat} {rs : List RelT} (hm : Mem C σ fp os w) (h1 : os[i]? = some (.box 95 [.v (.slice A n c)])) (h2 : os[i2]? = some (.row 56 5 A n c (rs.map encR))) (hne : i ≠ i2) (hok : ∀ r ∈ rs, RelOk r) :
    RObj w (σ i) (Value.slice A n c).ownBlock rs ∧ (∀ b, fp i b ↔ b = σ i) ∧ ∀ b, fp i2 b ↔ (Value.slice A n c).ownBlock = some b := by
  obtain ⟨a1, a2, a3⟩ := hm.at_ i _ h1
  obtain ⟨b1, b2, b3, b4, b5⟩ := hm.at_ i2 _ h2
  have hn : n = rs.length := by simpa using b2.symm
  subst hn
  refine ⟨⟨_, rfl, by simpa [SV.vals, SV.val] using a1, by rw [← flat_rels]; exact b1, ?_, hok⟩, a2, b5⟩
  intro e
  exact hm.disj i i2 (List.getElem?_eq_some_iff.1 h1).1 (List.getElem?_eq_some_iff.1 h2).1 hne (σ i) ((a2 _).2 rfl) ((b5 _).2 e)
theorem rels_mem {P : Program} {w : World} {rb : Nat} {q : Option Nat} {rs : List RelT} (h : RObj w rb q rs) : ∃ A c, Mem ⟨P, [], 0, w, MOf 2 (fun j b => if j = 0 then b = rb else q = some b), 2, fun _ => rb⟩ (fun _ => rb) (fun j b => if j = 0 then b = rb else q = some b) [.box 95 [.v (.slice A rs.length c)], .row 56 5 A rs.length c (rs.map encR)] w := by
  have hlt := h.lt
  obtain ⟨v, hv, hh, ho, hne, hok⟩ := h
  obtain ⟨A, c, rfl⟩ := ownsRow_slice ho
  refine ⟨A, c, ⟨?_, ?_, fun k hk i hi => .inl ⟨k, hk, hi⟩, ?_, ⟨rfl, rfl, rfl, Nat.le_refl _, fun _ _ _ => rfl⟩, Nat.le_refl _, fun _ _ => rfl⟩⟩
  · intro k o hk
    match k, hk with
    | 0, hk =>
      simp at hk
      subst hk
      exact ⟨by simpa [SV.vals, SV.val] using hh, fun i => Iff.rfl, trivial, trivial⟩
    | 1, hk =>
      simp at hk
      subst hk
      refine ⟨by rw [flat_rels]; exact ho, by simp, ?_, ?_, fun i => by simp [hv]⟩
      · intro x hx
        obtain ⟨r, _, rfl⟩ := List.mem_map.1 hx
        rfl
      · intro x hx
        obtain ⟨l, hl, hxl⟩ := List.mem_flatten.1 hx
        obtain ⟨r, _, rfl⟩ := List.mem_map.1 hl
        simp [encR] at hxl
        rcases hxl with rfl | rfl | rfl | rfl | rfl <;> rfl
    | k + 2, hk => simp at hk
  · intro j k hj hk hne' b hb hb'
    simp at hj hk
    by_cases e : j = 0
    · have e' : k ≠ 0 := fun e2 => hne' (e.trans e2.symm)
      simp only [e, e', if_true, if_false] at hb hb'
      subst hb
      exact hne hb'
    · have e' : k = 0 := by omega
      simp only [e, e', if_true, if_false] at hb hb'
      subst hb'
      exact hne hb
  · intro k hk b hb
    simp at hk
    by_cases e : k = 0
    · simp only [e, if_true] at hb
      rw [hb]
      exact hlt.1
    · simp only [e, if_false] at hb
      exact hlt.2 b hb

theorem CallX_Clone {C : Ctx} {ob : List OB} {k : SV → List OB → Prop} (j : Nat) {rb : Nat} {rs : List RelT} (hP : C.P = Try.prog) (hj : nth ob j = some (relO rb rs)) (hn : rs.length ≤ 1000) (hk : ∀ rb2, force (ob ++ [relO rb2 rs]) fun ob => k (.v (.pointer (some ⟨rb2, 0, none⟩))) ob) :
    CallX C 29 [.v (.pointer (some ⟨rb, 0, none⟩))] ob k := by
  simp only [force_eq] at hk
  unfold CallX
  rw [hP]
  refine ⟨Entr.of Try.func29 rfl rfl, fun σ fp w hm => ?_⟩
  obtain ⟨⟨q, hr, hF⟩, hjl⟩ := nth_rel hm hj
  have hok : ∀ r ∈ rs, RelOk r := by obtain ⟨_, _, _, _, _, h⟩ := hr; exact h
  obtain ⟨A, c, hm0⟩ := rels_mem (P := Try.prog) hr
  refine ((cloneRel_x A c rs hn).2.2 _ _ w hm0 trivial).mono ?_
  rintro e w' ⟨p, σ', fp', rfl, _, hm'⟩
  obtain ⟨r1, f1, f2⟩ := rels_at (i := 0) (i2 := 1) hm' rfl rfl (by decide) hok
  obtain ⟨r2, f3, f4⟩ := rels_at (i := 2) (i2 := 3) hm' rfl rfl (by decide) hok
  have hs0 : σ' 0 = rb := hm'.pin.2 0 (by show 0 < 2; omega)
  rw [hs0] at r1 f1
  have inM : ∀ b, MOf 2 (fun j b => if j = 0 then b = rb else q = some b) b → fp j b := by
    rintro b ⟨i, hi, hb⟩
    by_cases e : i = 0
    · simp only [e, if_true] at hb
      exact (hF b).2 (.inl hb)
    · simp only [e, if_false] at hb
      exact (hF b).2 (.inr hb)
  have loc : ∀ i, i < 4 → ∀ b, fp' i b → fp j b ∨ w.heap.size ≤ b := by
    intro i hi b hb
    rcases hm'.lo i hi b hb with h | h
    · exact .inl (inM b h)
    · exact .inr h
  have hsame : ∀ b, b < w.heap.size → ¬ fp j b → w'.heap[b]? = w.heap[b]? := fun b hb hn => hm'.kept.block b hb fun h => hn (inM b h)
  have hin : ∀ b, (b = rb ∨ (Value.slice A rs.length c).ownBlock = some b) → fp j b ∨ w.heap.size ≤ b := by
    rintro b (h | h)
    · exact loc 0 (by decide) b ((f1 b).2 h)
    · exact loc 1 (by decide) b ((f2 b).2 h)
  have hc := hm.change (w' := w') hjl (relO rb rs) (fun b => b = rb ∨ (Value.slice A rs.length c).ownBlock = some b) (relO_at r1) hin (by
    rintro b (h | h)
    · exact hm'.hi 0 (by simp) b ((f1 b).2 h)
    · exact hm'.hi 1 (by simp) b ((f2 b).2 h)) hm'.kept.os hm'.kept.tape hm'.kept.output hm'.kept.size hsame
  have hset : ob.set j (relO rb rs) = ob := by
    rw [nth_eq] at hj
    apply List.ext_getElem?
    intro i
    rw [List.getElem?_set]
    by_cases e : j = i
    · subst e
      simp [hjl, hj]
      exact (List.getElem?_eq_some_iff.1 hj).2.symm
    · simp [e]
  rw [hset] at hc
  have hnew : ∀ b, (b = σ' 2 ∨ (Value.slice p.1 rs.length p.2).ownBlock = some b) → fp' 2 b ∨ fp' 3 b := by
    rintro b (h | h)
    · exact .inl ((f3 b).2 h)
    · exact .inr ((f4 b).2 h)
  have ha := hc.adopt (relO (σ' 2) rs) 0 (fun b => b = σ' 2 ∨ (Value.slice p.1 rs.length p.2).ownBlock = some b) (relO_at r2) (by
    intro b hb
    have h1 := hnew b hb
    have old : ∀ i, i < 2 → ∀ b, fp' i b → ¬ (fp' 2 b ∨ fp' 3 b) := by
      rintro i hi b h2 (h3 | h3)
      · exact hm'.disj i 2 (by simp; omega) (by simp) (by omega) b h2 h3
      · exact hm'.disj i 3 (by simp; omega) (by simp) (by omega) b h2 h3
    refine ⟨?_, ?_, ?_⟩
    · have h2 : fp j b ∨ w.heap.size ≤ b := by
        rcases h1 with h | h
        · exact loc 2 (by decide) b h
        · exact loc 3 (by decide) b h
      rcases h2 with h2 | h2
      · exact hm.lo j hjl b h2
      · have := hm.kept.size; right; omega
    · rcases h1 with h | h
      · exact hm'.hi 2 (by simp) b h
      · exact hm'.hi 3 (by simp) b h
    · intro i hi hb2
      by_cases e : i = j
      · simp only [e, if_true] at hb2
        rcases hb2 with h | h
        · exact old 0 (by decide) b ((f1 b).2 h) h1
        · exact old 1 (by decide) b ((f2 b).2 h) h1
      · simp only [e, if_false] at hb2
        have h3 : fp j b ∨ w.heap.size ≤ b := by
          rcases h1 with h | h
          · exact loc 2 (by decide) b h
          · exact loc 3 (by decide) b h
        rcases h3 with h | h
        · exact hm.disj i j hi hjl e b hb2 h
        · have := hm.hi i hi b hb2; omega)
  refine ⟨_, rfl, .v (.pointer (some ⟨σ' 2, 0, none⟩)), _, _, _, hk _, fun i hi => by simp [show i ≠ ob.length by omega], by simp, rfl, trivial, ha, ?_⟩
  refine ⟨fun b hb hlt hno => hsame b hlt (hno j hjl), fun i hi b hb hlo hlt => ?_, hm'.kept.size⟩
  simp at hi
  by_cases e : i = ob.length
  · simp only [e, if_true] at hb
    rcases hnew b hb with h | h
    · rcases loc 2 (by decide) b h with h2 | h2
      · exact ⟨j, hjl, h2⟩
      · omega
    · rcases loc 3 (by decide) b h with h2 | h2
      · exact ⟨j, hjl, h2⟩
      · omega
  · simp only [e, if_false] at hb
    by_cases e2 : i = j
    · simp only [e2, if_true] at hb
      rcases hin b hb with h | h
      · exact ⟨j, hjl, h⟩
      · omega
    · simp only [e2, if_false] at hb
      exact ⟨i, by omega, hb⟩
end Go.Proofs.Ytkacggfadalbiaa.En
