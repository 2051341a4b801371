import Derived.Test.YtlnplelandimeaaGreatZFleetOrder34
set_option linter.all false
section
namespace Go.Proofs.YtlnplelandimeaaGreat.En
open Go.RowKit
set_option maxRecDepth 100000
section
variable {α : Type} {key : α → List Int}
theorem top_opt (o : Option α) : TopOf key o.toList o := by
  cases o with
  | none => rfl
  | some v => exact ⟨by simp, fun u hu => by rw [show u = v by simpa using hu, lexC_self]; exact Int.le_refl _⟩
theorem joinO_comm (hk : ∀ a b, key a = key b → a = b) (o p : Option α) : joinO key o p = joinO key p o :=
  TopOf.unique key hk ((top_opt o).join (top_opt p)) ((top_opt p).join (top_opt o)) fun x => by simp only [List.mem_append]; exact Or.comm
theorem joinO_assoc (hk : ∀ a b, key a = key b → a = b) (o p q : Option α) : joinO key (joinO key o p) q = joinO key o (joinO key p q) :=
  TopOf.unique key hk (((top_opt o).join (top_opt p)).join (top_opt q)) ((top_opt o).join ((top_opt p).join (top_opt q))) fun x => by simp only [List.mem_append]; exact or_assoc
theorem joinO_self (hk : ∀ a b, key a = key b → a = b) (o : Option α) : joinO key o o = o :=
  TopOf.unique key hk ((top_opt o).join (top_opt o)) (top_opt o) fun x => by simp only [List.mem_append]; exact or_self_iff
end
theorem joinA_comm (a b : AtT) : joinA a b = joinA b a := Prod.ext (funext fun k => joinO_comm keyS_inj _ _) (funext fun k => joinO_comm keyP_inj _ _)
theorem joinA_assoc (a b c : AtT) : joinA (joinA a b) c = joinA a (joinA b c) := Prod.ext (funext fun k => joinO_assoc keyS_inj _ _ _) (funext fun k => joinO_assoc keyP_inj _ _ _)
theorem joinA_self (a : AtT) : joinA a a = a := Prod.ext (funext fun k => joinO_self keyS_inj _) (funext fun k => joinO_self keyP_inj _)
abbrev KnT := (Nat → Nat → Option Fr) × (Nat → AtT)
def knS (S : SnT) : KnT := (S.rel, S.ats)
def jK (a b : KnT) : KnT := (fun u v => joinO keyF (a.1 u v) (b.1 u v), fun i => joinA (a.2 i) (b.2 i))
theorem jK_comm (a b : KnT) : jK a b = jK b a := Prod.ext (funext fun u => funext fun v => joinO_comm keyF_inj _ _) (funext fun i => joinA_comm _ _)
theorem jK_assoc (a b c : KnT) : jK (jK a b) c = jK a (jK b c) := Prod.ext (funext fun u => funext fun v => joinO_assoc keyF_inj _ _ _) (funext fun i => joinA_assoc _ _ _)
theorem jK_self (a : KnT) : jK a a = a := Prod.ext (funext fun u => funext fun v => joinO_self keyF_inj _) (funext fun i => joinA_self _)
theorem jK_self2 (a b : KnT) : jK (jK a b) b = jK a b := by rw [jK_assoc, jK_self]
theorem jK_right (a b c : KnT) : jK (jK a b) c = jK (jK a c) b := by rw [jK_assoc, jK_comm b c, ← jK_assoc]
theorem SnT.ext' {S O : SnT} (h1 : S.me = O.me) (h2 : knS S = knS O) : S = O := by
  cases S
  cases O
  have a : _ = _ := congrArg Prod.fst h2
  have b : _ = _ := congrArg Prod.snd h2
  simp only [knS] at a b
  cases h1
  cases a
  cases b
  rfl
theorem normR_bd {x : RelT} (h : addOk x = true) : ((normR x).1.toNat < (normR x).2.1.toNat ∧ (normR x).2.1.toNat < 8) ∧ (0 ≤ (normR x).2.2.1 ∧ (normR x).2.2.1 < 4) ∧ (-1024 ≤ (normR x).2.2.2.1 ∧ (normR x).2.2.2.1 ≤ 1024) ∧ -1024 ≤ (normR x).2.2.2.2 ∧ (normR x).2.2.2.2 ≤ 1024 := by
  obtain ⟨h1, h2, h3, h4, h5⟩ := addOk_bd h
  unfold normR
  split
  · have t1 := tX_bd ((-x.2.2.1) % 4) (-x.2.2.2.1) (-x.2.2.2.2) 1024 (by omega) (by omega) (by omega) (by omega)
    have t2 := tY_bd ((-x.2.2.1) % 4) (-x.2.2.2.1) (-x.2.2.2.2) 1024 (by omega) (by omega) (by omega) (by omega)
    unfold invF
    dsimp only
    exact ⟨by omega, by omega, t1, t2⟩
  · dsimp only
    exact ⟨by omega, by omega, h4, h5⟩
theorem joinO_in {α : Type} {key : α → List Int} {P : α → Prop} {o p : Option α} (h1 : ∀ x, o = some x → P x) (h2 : ∀ x, p = some x → P x) : ∀ x, joinO key o p = some x → P x := by
  intro x hx
  rcases joinO_cases key o p with e | e <;> rw [e] at hx
  · exact h2 x hx
  · exact h1 x hx
def relU (x : RelT) : KnT := (upd2 (fun _ _ => none) (normR x).1.toNat (normR x).2.1.toNat (some (normR x).2.2), fun _ => at0)
theorem take_kn (S : SnT) (x : RelT) : knS (takeS S x) = jK (knS S) (relU x) := by
  unfold takeS setR relU jK knS
  refine Prod.ext ?_ rfl
  funext u v
  unfold upd2
  dsimp only
  split
  · rename_i h
    rw [h.1, h.2]
    rfl
  · rfl
theorem wf_take {S : SnT} (h : wfS S) {x : RelT} (hx : addOk x = true) : wfS (takeS S x) := by
  obtain ⟨n1, n2, n3, n4, n5⟩ := normR_bd hx
  have hr : ∀ u v f, (takeS S x).rel u v = some f → S.rel u v = some f ∨ (u = (normR x).1.toNat ∧ v = (normR x).2.1.toNat ∧ f = (normR x).2.2) := by
    intro u v f hf
    have hf : upd2 S.rel (normR x).1.toNat (normR x).2.1.toNat (mxO keyF (S.rel (normR x).1.toNat (normR x).2.1.toNat) (normR x).2.2) u v = some f := hf
    unfold upd2 at hf
    split at hf
    · rename_i e
      rcases mxO_cases keyF (S.rel (normR x).1.toNat (normR x).2.1.toNat) (normR x).2.2 with c | c <;> rw [c] at hf
      · exact .inr ⟨e.1, e.2, (Option.some.inj hf).symm⟩
      · exact .inl (by rw [e.1, e.2]; exact hf)
    · exact .inl hf
  refine ⟨fun u v hc => ?_, fun u v f hf => ?_, h.2.2⟩
  · rcases opt_em ((takeS S x).rel u v) with e | ⟨f, e⟩
    · exact e
    · rcases hr u v f e with e2 | ⟨rfl, rfl, rfl⟩
      · rw [h.1 u v hc] at e2
        cases e2
      · exact absurd n1 hc
  · rcases hr u v f hf with e2 | ⟨rfl, rfl, rfl⟩
    · exact h.2.1 u v f e2
    · exact ⟨n2, n3, n4, n5⟩
theorem wf_hear {S O : SnT} (h : wfS S) (h' : wfS O) : wfS (hearS S O) := by
  refine ⟨fun u v hc => ?_, fun u v => ?_, fun i hi => ?_⟩
  · show joinO keyF (S.rel u v) (O.rel u v) = none
    rw [h.1 u v hc, h'.1 u v hc]
    rfl
  · exact joinO_in (h.2.1 u v) (h'.2.1 u v)
  · show joinA (S.ats i) (O.ats i) = at0
    rw [h.2.2 i hi, h'.2.2 i hi]
    rfl
theorem wf_upd {S : SnT} (h : wfS S) {i : Nat} (hi : i < 8) (a : AtT) : wfS { S with ats := updN S.ats i a } := by
  refine ⟨h.1, h.2.1, fun j hj => ?_⟩
  show updN S.ats i a j = at0
  unfold updN
  rw [if_neg (by omega)]
  exact h.2.2 j hj
theorem wf_st {Q : Nat → SnT} (hQ : okQ Q) (o : FOp) {i j : Nat} (hi : i < 3) (hj : j < 3) : (stF Q o i j).me = i ∧ wfS (stF Q o i j) := by
  obtain ⟨hm, hw⟩ := hQ i hi
  unfold stF
  split
  · exact ⟨hm, wf_upd hw (by omega) _⟩
  · split
    · exact ⟨hm, wf_upd hw (by omega) _⟩
    · split
      · split
        · rename_i hx
          exact ⟨hm, wf_take hw hx⟩
        · exact ⟨hm, hw⟩
      · split
        · exact ⟨hm, hw⟩
        · exact ⟨hm, wf_hear hw (hQ j hj).2⟩
theorem whoF_lt (o : FOp) : whoF o < 3 := by unfold whoF; omega
theorem froF_lt (o : FOp) : froF o < 3 := by unfold froF; omega
theorem okQ_do {Q : Nat → SnT} (hQ : okQ Q) (o : FOp) : okQ (doQ Q o) := by
  intro i hi
  unfold doQ updN
  split
  · rename_i e
    subst e
    exact wf_st hQ o (whoF_lt o) (froF_lt o)
  · exact hQ i hi
def Q0 : Nat → SnT := fun i => sn0 i
theorem wf_sn0 (m : Int) : wfS (sn0 m) := ⟨fun _ _ _ => rfl, fun _ _ _ h => (by cases h), fun _ _ => rfl⟩
theorem okQ0 : okQ Q0 := fun i _ => ⟨rfl, wf_sn0 i⟩
def runQ (Q : Nat → SnT) (l : List FOp) : Nat → SnT := l.foldl doQ Q
theorem okQ_run : ∀ (l : List FOp) {Q : Nat → SnT}, okQ Q → okQ (runQ Q l)
  | [], _, h => h
  | o :: l, _, h => okQ_run l (okQ_do h o)
theorem runQ_take {Q : Nat → SnT} {l : List FOp} {k : Nat} (hk : k < l.length) : runQ Q (l.take (k + 1)) = doQ (runQ Q (l.take k)) (l.getD k fo0) := by
  have e : l.getD k fo0 = l[k] := by simp [hk]
  unfold runQ
  rw [List.take_succ_eq_append_getElem hk, List.foldl_append, e]
  rfl
def opU (o : FOp) : KnT :=
  if o.1 % 4 = 0 then (fun _ _ => none, updN (fun _ => at0) (whoF o) (putA at0 o.2.2.2.1 o.2.2.2.2.1.2.2))
  else if o.1 % 4 = 1 then (fun _ _ => none, updN (fun _ => at0) (whoF o) (plcA at0 o.2.2.2.1 o.2.2.2.2.2.1))
  else if addOk o.2.2.2.2.2.2 then relU o.2.2.2.2.2.2 else (fun _ _ => none, fun _ => at0)
theorem join_put (a : AtT) (k : Int) (s : BmsT) : putA a k s = joinA a (putA at0 k s) := by
  unfold putA
  split
  · refine Prod.ext (funext fun i => ?_) rfl
    show updF a.1 k (mxO keyS (a.1 k) s) i = joinO keyS (a.1 i) (updF (fun _ => none) k (mxO keyS none s) i)
    unfold updF
    split
    · rename_i e
      rw [e]
      rfl
    · rfl
  · rfl
theorem join_plc (a : AtT) (k : Int) (s : PlT) : plcA a k s = joinA a (plcA at0 k s) := by
  unfold plcA
  split
  · refine Prod.ext rfl (funext fun i => ?_)
    show updF a.2 k (mxO keyP (a.2 k) s) i = joinO keyP (a.2 i) (updF (fun _ => none) k (mxO keyP none s) i)
    unfold updF
    split
    · rename_i e
      rw [e]
      rfl
    · rfl
  · rfl
theorem upd_kn (S : SnT) (i : Nat) (a : AtT) : knS { S with ats := updN S.ats i (joinA (S.ats i) a) } = jK (knS S) (fun _ _ => none, updN (fun _ => at0) i a) := by
  unfold knS jK
  refine Prod.ext rfl (funext fun j => ?_)
  unfold updN
  dsimp only
  split
  · rename_i e
    rw [e]
  · rfl
def kindOk (o : FOp) : Prop := o.1 % 4 = 0 ∨ o.1 % 4 = 1 ∨ o.1 % 4 = 2
theorem do_kn (Q : Nat → SnT) (o : FOp) (h : kindOk o) (i : Nat) : (doQ Q o i).me = (Q i).me ∧ knS (doQ Q o i) = if i = whoF o then jK (knS (Q i)) (opU o) else knS (Q i) := by
  unfold doQ updN
  by_cases e : i = whoF o
  · rw [if_pos e, if_pos e, ← e]
    unfold stF opU
    rcases h with h | h | h
    · simp only [if_pos h]
      rw [join_put, ← e]
      exact ⟨trivial, upd_kn _ _ _⟩
    · have n0 : ¬ o.1 % 4 = 0 := by omega
      simp only [if_neg n0, if_pos h]
      rw [join_plc, ← e]
      exact ⟨trivial, upd_kn _ _ _⟩
    · have n0 : ¬ o.1 % 4 = 0 := by omega
      have n1 : ¬ o.1 % 4 = 1 := by omega
      simp only [if_neg n0, if_neg n1, if_pos h]
      split
      · exact ⟨rfl, take_kn _ _⟩
      · exact ⟨rfl, rfl⟩
  · rw [if_neg e, if_neg e]
    exact ⟨rfl, rfl⟩
theorem do_swap (Q : Nat → SnT) {o p : FOp} (h : kindOk o) (h' : kindOk p) : doQ (doQ Q o) p = doQ (doQ Q p) o := by
  funext i
  obtain ⟨a1, a2⟩ := do_kn Q o h i
  obtain ⟨b1, b2⟩ := do_kn Q p h' i
  obtain ⟨c1, c2⟩ := do_kn (doQ Q o) p h' i
  obtain ⟨d1, d2⟩ := do_kn (doQ Q p) o h i
  refine SnT.ext' (by rw [c1, a1, d1, b1]) ?_
  rw [c2, d2, a2, b2]
  by_cases e1 : i = whoF o <;> by_cases e2 : i = whoF p
  · simp only [if_pos e1, if_pos e2]
    exact jK_right _ _ _
  · simp only [if_pos e1, if_neg e2]
  · simp only [if_neg e1, if_pos e2]
  · simp only [if_neg e1, if_neg e2]
theorem do_again (Q : Nat → SnT) {o : FOp} (h : kindOk o) : doQ (doQ Q o) o = doQ Q o := by
  funext i
  obtain ⟨a1, a2⟩ := do_kn Q o h i
  obtain ⟨c1, c2⟩ := do_kn (doQ Q o) o h i
  refine SnT.ext' c1 ?_
  rw [c2, a2]
  by_cases e1 : i = whoF o
  · simp only [if_pos e1]
    exact jK_self2 _ _
  · simp only [if_neg e1]
theorem run_out : ∀ (l : List FOp) (Q : Nat → SnT) {o : FOp}, kindOk o → (∀ p ∈ l, kindOk p) → runQ (doQ Q o) l = doQ (runQ Q l) o
  | [], _, _, _, _ => rfl
  | p :: l, Q, o, ho, hl => by
    show runQ (doQ (doQ Q o) p) l = doQ (runQ (doQ Q p) l) o
    rw [do_swap Q ho (hl p (by simp)), run_out l (doQ Q p) ho fun q hq => hl q (by simp [hq])]
def backQ (Q : Nat → SnT) (l : List FOp) : Nat → SnT := l.foldr (fun o Q => doQ (doQ Q o) o) Q
theorem run_back : ∀ (l : List FOp) (Q : Nat → SnT), (∀ p ∈ l, kindOk p) → runQ Q l = backQ Q l
  | [], _, _ => rfl
  | o :: l, Q, hl => by
    show runQ (doQ Q o) l = doQ (doQ (backQ Q l) o) o
    rw [run_out l Q (hl o (by simp)) fun q hq => hl q (by simp [hq]), do_again _ (hl o (by simp)), run_back l Q fun q hq => hl q (by simp [hq])]
theorem backQ_drop {Q : Nat → SnT} {l : List FOp} {k : Nat} (hk : k < l.length) : backQ Q (l.drop k) = doQ (doQ (backQ Q (l.drop (k + 1))) (l.getD k fo0)) (l.getD k fo0) := by
  have e : l.getD k fo0 = l[k] := by simp [hk]
  rw [List.drop_eq_getElem_cons hk, e]
  rfl
def k3 (o : FOp) : FOp := (o.1 % 3, o.2)
theorem k3_ok (o : FOp) : kindOk (k3 o) := by unfold kindOk k3; dsimp only; omega
theorem map_k3 {l : List FOp} {k : Nat} (hk : k < l.length) : (l.map k3).getD k fo0 = k3 (l.getD k fo0) := by simp [hk]
theorem order_law (l : List FOp) : runQ Q0 (l.map k3) = backQ Q0 (l.map k3) := run_back _ _ fun p hp => by
  obtain ⟨o, _, rfl⟩ := List.mem_map.1 hp
  exact k3_ok o
end Go.Proofs.YtlnplelandimeaaGreat.En
end
section
namespace Go.Proofs.YtlnplelandimeaaGreat.En
open Go.RowKit
set_option maxRecDepth 100000
theorem do3_m (b0 b1 b2 : Nat) (cs : Co3) (Q : Nat → SnT) (hQ : okQ Q) (A : Option Addr) (cc : Nat) (o : FOp) (hn : o.2.2.2.2.1.2.2.length ≤ maxLen) :
    CallM Tryz.prog 15 [.v (.slice A 3 cc), foX o] (fun w M => ArgN w M o.2.2.2.2.1.1 o.2.2.2.2.1.2.2.length 2 (o.2.2.2.2.1.2.2.map encBm)) [stO b0 cs.1 (Q 0) allT, stO b1 cs.2.1 (Q 1) allT, stO b2 cs.2.2 (Q 2) allT, ptsO A cc b0 b1 b2]
    (fun _ : Co3 => I (erF o)) (fun cs => [stO b0 cs.1 (doQ Q o 0) allT, stO b1 cs.2.1 (doQ Q o 1) allT, stO b2 cs.2.2 (doQ Q o 2) allT, ptsO A cc b0 b1 b2]) := by
  rcases (by omega : o.2.1 % 3 = 0 ∨ o.2.1 % 3 = 1 ∨ o.2.1 % 3 = 2) with h | h | h
  · exact do0_m b0 b1 b2 cs.1 cs.2.1 cs.2.2 Q hQ A cc o h hn
  · exact do1_m b0 b1 b2 cs.1 cs.2.1 cs.2.2 Q hQ A cc o h hn
  · exact do2_m b0 b1 b2 cs.1 cs.2.1 cs.2.2 Q hQ A cc o h hn
theorem fewG_len {l : List FOp} (h : fewG l = true) : l.length ≤ 16 := by
  unfold fewG at h
  simp only [Bool.and_eq_true, decide_eq_true_eq] at h
  exact h.1
end Go.Proofs.YtlnplelandimeaaGreat.En
end
section
namespace Go.Proofs.YtlnplelandimeaaGreat.En
open Go.RowKit
set_option maxRecDepth 100000
set_option maxHeartbeats 16000000 in
theorem forder_x (A : Option Addr) (c : Nat) (l : List FOp) {n : Nat} (hl : l.length = n) (hn : n ≤ maxLen) :
    CallW Tryz.prog 8 [.v (.slice A n c)] (fun w => opsF w A n l) (B true) := by
  have kf := few34_w A c l hl hn
  rcases Bool.eq_false_or_eq_true (fewG l) with hf | hf
  rotate_left
  · rw [hf] at kf
    refine CallW.of Tryz.func8 rfl tabOk rfl rfl rfl (by simp [SV.wfs, SV.wf]) (by simp [SV.wfs, SV.wf]) fun w hpre => ?_
    (conv => whnf); repeat' (first | ((with_reducible refine isC ?_); first | ((with_reducible refine CallX_pure (awake34_x) ?_) <;> first | omega | (with_reducible show (_ : Int) ≤ _) | (with_reducible show (_ : Int) < _) | (with_reducible show (_ : Nat) ≤ _) | (with_reducible show (_ : Nat) < _) | (conv => whnf)) | ((with_reducible refine isF 12 ?_); (with_reducible refine CallX_w (kf) ?_ ?_); (focus (exact hpre.few rfl)); conv => whnf)) | ((with_reducible refine isW ?_); first | ((with_reducible refine xwr_ok (by omega) (by omega) ?_); conv => whnf) | ((with_reducible refine xwr_raw ?_); conv => whnf)) | ((refine DrawX_s tabOk folOk ?_); conv => whnf) | ((refine DrawS_i (by kernel_rfl) ?_); conv => whnf) | ((with_reducible refine andX_i ?_ ?_) <;> (conv => whnf)) | (with_reducible exact rfl) | ((with_reducible refine xif_kt (by with_reducible assumption) ?_); conv => whnf) | ((with_reducible refine xif_kf (by with_reducible assumption) ?_); conv => whnf) | (((with_reducible refine xif_s ?_ ?_) <;> (intro hb; (try simp (disch := omega) only [hbS] at hb))) <;> (conv => whnf)))
    exact Fin_pure rfl rfl trivial
  · rw [hf] at kf
    have hfl := fewG_len hf
    have hlaw := order_law l
    refine CallW.of Tryz.func8 rfl tabOk rfl rfl rfl (by simp [SV.wfs, SV.wf]) (by simp [SV.wfs, SV.wf]) fun w hpre => ?_
    (conv => whnf); repeat' (first | ((with_reducible refine isC ?_); first | ((with_reducible refine CallX_pure (awake34_x) ?_) <;> first | omega | (with_reducible show (_ : Int) ≤ _) | (with_reducible show (_ : Int) < _) | (with_reducible show (_ : Nat) ≤ _) | (with_reducible show (_ : Nat) < _) | (conv => whnf)) | ((with_reducible refine isF 12 ?_); (with_reducible refine CallX_w (kf) ?_ ?_); (focus (exact hpre.few rfl)); conv => whnf)) | ((with_reducible refine isW ?_); first | ((with_reducible refine xwr_ok (by omega) (by omega) ?_); conv => whnf) | ((with_reducible refine xwr_raw ?_); conv => whnf)) | ((refine DrawX_s tabOk folOk ?_); conv => whnf) | ((refine DrawS_i (by kernel_rfl) ?_); conv => whnf) | ((with_reducible refine andX_i ?_ ?_) <;> (conv => whnf)) | (with_reducible exact rfl) | ((with_reducible refine xif_kt (by with_reducible assumption) ?_); conv => whnf) | ((with_reducible refine xif_kf (by with_reducible assumption) ?_); conv => whnf) | (((with_reducible refine xif_s ?_ ?_) <;> (intro hb; (try simp (disch := omega) only [hbS] at hb))) <;> (conv => whnf)))
    refine CallX_m three_m [] rfl trivial (by decide) (fun _ _ _ _ => trivial) ?_
    rintro ⟨⟨a0, d0⟩, ⟨a1, d1⟩, ⟨a2, d2⟩, A1, e1⟩
    dsimp only
    (conv => whnf); repeat' (first | ((with_reducible refine isW ?_); first | ((with_reducible refine xwr_ok (by omega) (by omega) ?_); conv => whnf) | ((with_reducible refine xwr_raw ?_); conv => whnf)) | ((refine DrawX_s tabOk folOk ?_); conv => whnf) | ((refine DrawS_i (by kernel_rfl) ?_); conv => whnf) | ((with_reducible refine andX_i ?_ ?_) <;> (conv => whnf)) | (with_reducible exact rfl) | ((with_reducible refine xif_kt (by with_reducible assumption) ?_); conv => whnf) | ((with_reducible refine xif_kf (by with_reducible assumption) ?_); conv => whnf) | (((with_reducible refine xif_s ?_ ?_) <;> (intro hb; (try simp (disch := omega) only [hbS] at hb))) <;> (conv => whnf)))
    refine CallX_m three_m [] rfl trivial (by decide) (fun _ _ _ _ => trivial) ?_
    rintro ⟨⟨b0, f0⟩, ⟨b1, f1⟩, ⟨b2, f2⟩, A2, e2⟩
    dsimp only
    (conv => whnf); repeat' (first | ((with_reducible refine isW ?_); first | ((with_reducible refine xwr_ok (by omega) (by omega) ?_); conv => whnf) | ((with_reducible refine xwr_raw ?_); conv => whnf)) | ((refine DrawX_s tabOk folOk ?_); conv => whnf) | ((refine DrawS_i (by kernel_rfl) ?_); conv => whnf) | ((with_reducible refine andX_i ?_ ?_) <;> (conv => whnf)) | (with_reducible exact rfl) | ((with_reducible refine xif_kt (by with_reducible assumption) ?_); conv => whnf) | ((with_reducible refine xif_kf (by with_reducible assumption) ?_); conv => whnf) | (((with_reducible refine xif_s ?_ ?_) <;> (intro hb; (try simp (disch := omega) only [hbS] at hb))) <;> (conv => whnf)))
    clear kf
    refine LoopX_inv tabOk (α := (k : Nat) × Co3 × {Q : Nat → SnT // Q = runQ Q0 ((l.map k3).take k)}) (fun s => s.1 ≤ n) (fun s => [(0, .v (.slice A n c)), (3, .v (.slice A1 3 e1)), (4, .v (.slice A2 3 e2)), (5, I s.1)])
      (fun s => [stO a0 s.2.1.1 (s.2.2.1 0) allT, stO a1 s.2.1.2.1 (s.2.2.1 1) allT, stO a2 s.2.1.2.2 (s.2.2.1 2) allT, ptsO A1 e1 a0 a1 a2, stO b0 f0 (sn0 0) allT, stO b1 f1 (sn0 1) allT, stO b2 f2 (sn0 2) allT, ptsO A2 e2 b0 b1 b2]) (fun s => n - s.1) ⟨0, (d0, d1, d2), ⟨Q0, rfl⟩⟩ [0, 1, 2, 3, 4, 5, 6, 7] (Nat.zero_le _) ?_ ?_
    · ((refine ⟨?_, ?_, ?_, ?_⟩) <;> (repeat' ((conv => whnf); apply And.intro)) <;> (try (first | exact trivial | decide)))
      all_goals first | rfl | exact fun _ _ h => h | (simp [SV.wf, SV.wfs]; done) | trace_state
    · rintro ⟨k, cs, Q, hQ⟩ hk
      dsimp only at hk hQ ⊢
      by_cases hlt : k < n
      · have hmem : l.getD k fo0 ∈ l := by simp [show k < l.length by omega]
        have hop := hpre.op hmem
        have hol := (hpre.2 _ hmem).2
        have hokQ : okQ Q := by rw [hQ]; exact okQ_run _ okQ0
        have hnx : doQ Q (k3 (l.getD k fo0)) = runQ Q0 ((l.map k3).take (k + 1)) := by rw [runQ_take (by simp; omega), map_k3 (by omega), hQ]
        generalize hx : l.getD k fo0 = o at *
        have hd := do3_m a0 a1 a2 cs Q hokQ A1 e1 (k3 o) hol
        have hmod := mod_x o.1 3 (by decide) (by decide)
        (conv => whnf); repeat' (first | ((with_reducible refine isC ?_); first | ((with_reducible refine isF 36 ?_); (with_reducible refine CallX_pure hmod ?_); conv => whnf) | ((with_reducible refine isF 15 ?_); (refine CallX_m hd [0, 1, 2, 3] rfl ⟨fun _ _ h => h, fun _ _ h => h, fun _ _ h => h, ⟨rfl, rfl, rfl, rfl, rfl, rfl⟩, trivial⟩ (by decide) (ArgN.on hop (by decide) (m := 4) (r := [0, 1, 2, 3]) (fun j hj => by rcases (by omega : j = 0 ∨ j = 1 ∨ j = 2 ∨ j = 3) with rfl | rfl | rfl | rfl <;> simp)) ?_; intro q); conv => whnf)) | ((with_reducible refine isV ?_); first | ((refine ValX_index tabOk rfl (hpre.1.mem (by decide) rfl) rfl ?_ ?_ ?_) <;> first | omega | (with_reducible show (_ : Int) ≤ _) | (with_reducible show (_ : Int) < _) | (with_reducible show (_ : Nat) ≤ _) | (with_reducible show (_ : Nat) < _) | (conv => whnf)) | ((with_reducible refine nat_idx ?_); (refine ValX_loadEn _ _ (fo0) tabOk rfl rfl rfl rfl (hpre.1.mem (by decide) rfl) ?_ ?_ ?_) <;> first | rfl | omega | (with_reducible show (_ : Int) ≤ _) | (with_reducible show (_ : Int) < _) | (with_reducible show (_ : Nat) ≤ _) | (with_reducible show (_ : Nat) < _) | (conv => whnf)) | ((refine ValX_loadE _ _ (fo0) tabOk rfl rfl rfl rfl (hpre.1.mem (by decide) rfl) ?_ ?_ ?_) <;> first | rfl | omega | (with_reducible show (_ : Int) ≤ _) | (with_reducible show (_ : Int) < _) | (with_reducible show (_ : Nat) ≤ _) | (with_reducible show (_ : Nat) < _) | (conv => whnf))) | ((with_reducible refine isW ?_); first | ((with_reducible refine xwr_ok (by omega) (by omega) ?_); conv => whnf) | ((with_reducible refine xwr_raw ?_); conv => whnf)) | (rw [hx]; conv => whnf) | ((refine DrawX_s tabOk folOk ?_); conv => whnf) | ((refine DrawS_i (by kernel_rfl) ?_); conv => whnf) | ((with_reducible refine andX_i ?_ ?_) <;> (conv => whnf)) | (with_reducible exact rfl) | ((with_reducible refine xif_kt (by with_reducible assumption) ?_); conv => whnf) | ((with_reducible refine xif_kf (by with_reducible assumption) ?_); conv => whnf) | (((with_reducible refine xif_s ?_ ?_) <;> (intro hb; (try simp (disch := omega) only [hbS] at hb))) <;> (conv => whnf)))
        all_goals try (exfalso; omega)
        refine ⟨⟨k + 1, q, ⟨_, hnx⟩⟩, [0, 1, 2, 3, 4, 5, 6, 7], by (try dsimp only); omega, ?_, by (try dsimp only); omega⟩
        ((refine ⟨?_, ?_, ?_, ?_⟩) <;> (repeat' ((conv => whnf); apply And.intro)) <;> (try (first | exact trivial | decide)))
        all_goals first | rfl | exact fun _ _ h => h | (simp [SV.wf, SV.wfs]; done) | trace_state
      · obtain rfl : k = n := by omega
        rw [List.take_of_length_le (by simp; omega)] at hQ
        (conv => whnf); repeat' (first | ((with_reducible refine isW ?_); first | ((with_reducible refine xwr_ok (by omega) (by omega) ?_); conv => whnf) | ((with_reducible refine xwr_raw ?_); conv => whnf)) | ((refine DrawX_s tabOk folOk ?_); conv => whnf) | ((refine DrawS_i (by kernel_rfl) ?_); conv => whnf) | ((with_reducible refine andX_i ?_ ?_) <;> (conv => whnf)) | (with_reducible exact rfl) | ((with_reducible refine xif_kt (by with_reducible assumption) ?_); conv => whnf) | ((with_reducible refine xif_kf (by with_reducible assumption) ?_); conv => whnf) | (((with_reducible refine xif_s ?_ ?_) <;> (intro hb; (try simp (disch := omega) only [hbS] at hb))) <;> (conv => whnf)))
        all_goals try (exfalso; omega)
        refine LoopX_inv tabOk (α := (j : Nat) × Co3 × {W : Nat → SnT // W = backQ Q0 ((l.map k3).drop j)}) (fun s => s.1 ≤ k) (fun s => [(0, .v (.slice A k c)), (3, .v (.slice A1 3 e1)), (4, .v (.slice A2 3 e2)), (7, I ((s.1 : Int) - 1))])
          (fun s => [stO a0 cs.1 (Q 0) allT, stO a1 cs.2.1 (Q 1) allT, stO a2 cs.2.2 (Q 2) allT, ptsO A1 e1 a0 a1 a2, stO b0 s.2.1.1 (s.2.2.1 0) allT, stO b1 s.2.1.2.1 (s.2.2.1 1) allT, stO b2 s.2.1.2.2 (s.2.2.1 2) allT, ptsO A2 e2 b0 b1 b2]) (fun s => s.1) ⟨k, (f0, f1, f2), ⟨Q0, by rw [List.drop_of_length_le (by simp; omega)]; rfl⟩⟩ [0, 1, 2, 3, 4, 5, 6, 7] (Nat.le_refl _) ?_ ?_
        · ((refine ⟨?_, ?_, ?_, ?_⟩) <;> (repeat' ((conv => whnf); apply And.intro)) <;> (try (first | exact trivial | decide)))
          all_goals first | rfl | exact fun _ _ h => h | (simp [SV.wf, SV.wfs]; done) | trace_state
        · rintro ⟨j, fs, W, hW⟩ hj
          dsimp only at hj hW ⊢
          by_cases hlt : 0 < j
          · obtain ⟨i, rfl⟩ : ∃ i, j = i + 1 := ⟨j - 1, by omega⟩
            have hmem : l.getD i fo0 ∈ l := by simp [show i < l.length by omega]
            have hop := hpre.op hmem
            have hol := (hpre.2 _ hmem).2
            have hokW : okQ W := by rw [hW, ← run_back _ _ (fun p hp => by obtain ⟨o, _, rfl⟩ := List.mem_map.1 (List.mem_of_mem_drop hp); exact k3_ok o)]; exact okQ_run _ okQ0
            have hnx : doQ (doQ W (k3 (l.getD i fo0))) (k3 (l.getD i fo0)) = backQ Q0 ((l.map k3).drop i) := by rw [backQ_drop (by simp; omega), map_k3 (by omega), hW]
            have hi : ((i + 1 : Nat) : Int) - 1 = (i : Int) := by omega
            rw [hi]
            generalize hx : l.getD i fo0 = o at *
            have hd1 := do3_m b0 b1 b2 fs W hokW A2 e2 (k3 o) hol
            have hd2 := fun cs2 => do3_m b0 b1 b2 cs2 (doQ W (k3 o)) (okQ_do hokW _) A2 e2 (k3 o) hol
            have hmod := mod_x o.1 3 (by decide) (by decide)
            (conv => whnf); repeat' (first | ((with_reducible refine isC ?_); first | ((with_reducible refine isF 36 ?_); (with_reducible refine CallX_pure hmod ?_); conv => whnf) | ((with_reducible refine isF 15 ?_); (first | (refine CallX_m hd1 [4, 5, 6, 7] rfl ⟨fun _ _ h => h, fun _ _ h => h, fun _ _ h => h, ⟨rfl, rfl, rfl, rfl, rfl, rfl⟩, trivial⟩ (by decide) (ArgN.on hop (by decide) (m := 4) (r := [4, 5, 6, 7]) (fun j hj => by rcases (by omega : j = 0 ∨ j = 1 ∨ j = 2 ∨ j = 3) with rfl | rfl | rfl | rfl <;> simp)) ?_; intro q; clear hd1; replace hd2 := hd2 q) | (refine CallX_m hd2 [4, 5, 6, 7] rfl ⟨fun _ _ h => h, fun _ _ h => h, fun _ _ h => h, ⟨rfl, rfl, rfl, rfl, rfl, rfl⟩, trivial⟩ (by decide) (ArgN.on hop (by decide) (m := 4) (r := [4, 5, 6, 7]) (fun j hj => by rcases (by omega : j = 0 ∨ j = 1 ∨ j = 2 ∨ j = 3) with rfl | rfl | rfl | rfl <;> simp)) ?_; intro q2)); conv => whnf)) | ((with_reducible refine isV ?_); first | ((refine ValX_index tabOk rfl (hpre.1.mem (by decide) rfl) rfl ?_ ?_ ?_) <;> first | omega | (with_reducible show (_ : Int) ≤ _) | (with_reducible show (_ : Int) < _) | (with_reducible show (_ : Nat) ≤ _) | (with_reducible show (_ : Nat) < _) | (conv => whnf)) | ((with_reducible refine nat_idx ?_); (refine ValX_loadEn _ _ (fo0) tabOk rfl rfl rfl rfl (hpre.1.mem (by decide) rfl) ?_ ?_ ?_) <;> first | rfl | omega | (with_reducible show (_ : Int) ≤ _) | (with_reducible show (_ : Int) < _) | (with_reducible show (_ : Nat) ≤ _) | (with_reducible show (_ : Nat) < _) | (conv => whnf)) | ((refine ValX_loadE _ _ (fo0) tabOk rfl rfl rfl rfl (hpre.1.mem (by decide) rfl) ?_ ?_ ?_) <;> first | rfl | omega | (with_reducible show (_ : Int) ≤ _) | (with_reducible show (_ : Int) < _) | (with_reducible show (_ : Nat) ≤ _) | (with_reducible show (_ : Nat) < _) | (conv => whnf))) | ((with_reducible refine isW ?_); first | ((with_reducible refine xwr_ok (by omega) (by omega) ?_); conv => whnf) | ((with_reducible refine xwr_raw ?_); conv => whnf)) | (rw [hx]; conv => whnf) | ((refine DrawX_s tabOk folOk ?_); conv => whnf) | ((refine DrawS_i (by kernel_rfl) ?_); conv => whnf) | ((with_reducible refine andX_i ?_ ?_) <;> (conv => whnf)) | (with_reducible exact rfl) | ((with_reducible refine xif_kt (by with_reducible assumption) ?_); conv => whnf) | ((with_reducible refine xif_kf (by with_reducible assumption) ?_); conv => whnf) | (((with_reducible refine xif_s ?_ ?_) <;> (intro hb; (try simp (disch := omega) only [hbS] at hb))) <;> (conv => whnf)))
            all_goals try (exfalso; omega)
            refine ⟨⟨i, q2, ⟨_, hnx⟩⟩, [0, 1, 2, 3, 4, 5, 6, 7], by (try dsimp only); omega, ?_, by (try dsimp only); omega⟩
            ((refine ⟨?_, ?_, ?_, ?_⟩) <;> (repeat' ((conv => whnf); apply And.intro)) <;> (try (first | exact trivial | decide)))
            all_goals first | rfl | exact fun _ _ h => h | (simp [SV.wf, SV.wfs]; done) | trace_state
          · obtain rfl : j = 0 := by omega
            have hWQ : W = Q := by rw [hW, List.drop_zero, ← hlaw, ← hQ]
            subst hWQ
            have s0 := fSame_m a0 b0 cs.1 fs.1 (W 0) (W 0) true (by simp [sameS])
            have s1 := fSame_m a1 b1 cs.2.1 fs.2.1 (W 1) (W 1) true (by simp [sameS])
            have s2 := fSame_m b2 a2 fs.2.2 cs.2.2 (W 2) (W 2) true (by simp [sameS])
            (conv => whnf); repeat' (first | ((with_reducible refine isC ?_); first | ((with_reducible refine isF 30 ?_); (first | (refine CallX_m s0 [0, 4] rfl ⟨fun _ _ h => h, fun _ _ h => h, trivial⟩ (by decide) (fun _ _ _ _ => trivial) ?_; intro u0) | (refine CallX_m s1 [1, 5] rfl ⟨fun _ _ h => h, fun _ _ h => h, trivial⟩ (by decide) (fun _ _ _ _ => trivial) ?_; intro u1) | (refine CallX_m s2 [6, 2] rfl ⟨fun _ _ h => h, fun _ _ h => h, trivial⟩ (by decide) (fun _ _ _ _ => trivial) ?_; intro u2)); conv => whnf)) | ((with_reducible refine isV ?_); first | ((refine ValX_index tabOk rfl (ArgSl.row 3 rfl) rfl ?_ ?_ ?_) <;> first | omega | (with_reducible show (_ : Int) ≤ _) | (with_reducible show (_ : Int) < _) | (with_reducible show (_ : Nat) ≤ _) | (with_reducible show (_ : Nat) < _) | (conv => whnf)) | ((with_reducible refine nat_idx ?_); (refine ValX_load1n _ _ (0) tabOk rfl rfl rfl (ArgSl.row 3 rfl) ?_ ?_ ?_) <;> first | rfl | omega | (with_reducible show (_ : Int) ≤ _) | (with_reducible show (_ : Int) < _) | (with_reducible show (_ : Nat) ≤ _) | (with_reducible show (_ : Nat) < _) | (conv => whnf)) | ((refine ValX_load1 _ _ (0) tabOk rfl rfl rfl (ArgSl.row 3 rfl) ?_ ?_ ?_) <;> first | rfl | omega | (with_reducible show (_ : Int) ≤ _) | (with_reducible show (_ : Int) < _) | (with_reducible show (_ : Nat) ≤ _) | (with_reducible show (_ : Nat) < _) | (conv => whnf)) | ((refine ValX_index tabOk rfl (ArgSl.row 7 rfl) rfl ?_ ?_ ?_) <;> first | omega | (with_reducible show (_ : Int) ≤ _) | (with_reducible show (_ : Int) < _) | (with_reducible show (_ : Nat) ≤ _) | (with_reducible show (_ : Nat) < _) | (conv => whnf)) | ((with_reducible refine nat_idx ?_); (refine ValX_load1n _ _ (0) tabOk rfl rfl rfl (ArgSl.row 7 rfl) ?_ ?_ ?_) <;> first | rfl | omega | (with_reducible show (_ : Int) ≤ _) | (with_reducible show (_ : Int) < _) | (with_reducible show (_ : Nat) ≤ _) | (with_reducible show (_ : Nat) < _) | (conv => whnf)) | ((refine ValX_load1 _ _ (0) tabOk rfl rfl rfl (ArgSl.row 7 rfl) ?_ ?_ ?_) <;> first | rfl | omega | (with_reducible show (_ : Int) ≤ _) | (with_reducible show (_ : Int) < _) | (with_reducible show (_ : Nat) ≤ _) | (with_reducible show (_ : Nat) < _) | (conv => whnf))) | ((with_reducible refine isW ?_); first | ((with_reducible refine xwr_ok (by omega) (by omega) ?_); conv => whnf) | ((with_reducible refine xwr_raw ?_); conv => whnf)) | ((refine DrawX_s tabOk folOk ?_); conv => whnf) | ((refine DrawS_i (by kernel_rfl) ?_); conv => whnf) | ((with_reducible refine andX_i ?_ ?_) <;> (conv => whnf)) | (with_reducible exact rfl) | ((with_reducible refine xif_kt (by with_reducible assumption) ?_); conv => whnf) | ((with_reducible refine xif_kf (by with_reducible assumption) ?_); conv => whnf) | (((with_reducible refine xif_s ?_ ?_) <;> (intro hb; (try simp (disch := omega) only [hbS] at hb))) <;> (conv => whnf)))
            all_goals try (exfalso; omega)
            exact Fin_pure rfl rfl trivial
theorem forder_walk (A0 : Option Addr) (n0 c0 : Nat) (l0 : List FOp) (w : World) (h0 : l0.length = n0) (o0 : opsF w A0 n0 l0) (g0 : n0 ≤ c0) (k0 : c0 ≤ maxLen) :
    Calls Tryz.prog 8 #[.slice A0 n0 c0] w fun e w' => e = .returned (.bool true) ∧ Below w.heap.size w w' :=
  (forder_x A0 c0 l0 h0 (by omega)).2.2 (fun _ => 0) w o0
end Go.Proofs.YtlnplelandimeaaGreat.En
end
