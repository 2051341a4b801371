/- tools.Import. -/
import Derived.Test.YtadichckbogcjaaDoorNq
import Derived.Test.YtadichckbogcjaaDoorEc
set_option linter.all false
namespace Go.Proofs.YtadichckbogcjaaDoor.En
open Go.RowKit
set_option maxRecDepth 100000

theorem par_next {f : Nat} {rest next : List UInt8} {e : EntT} (h : rest ≠ []) (hs : stepI rest = some (e, next)) : parI (f + 1) rest = (parI f next).map (e :: ·) := by
  rw [parI, if_neg h, hs]
theorem par_stop {f : Nat} {rest : List UInt8} (h : rest ≠ []) (hs : stepI rest = none) : parI f rest = none := by
  cases f with
  | zero => rw [parI, if_neg h]
  | succ f => rw [parI, if_neg h, hs]
/-- where Import's loop stands -/
def imJ (s rest : List UInt8) (out : List EntT) (f : Nat) : Prop := rest.length ≤ f ∧ out.length + f ≤ s.length ∧ parI s.length s = (parI f rest).map (out ++ ·)
theorem imJ_next {s rest next : List UInt8} {out : List EntT} {f : Nat} {e : EntT} (h : imJ s rest out f) (hr : rest ≠ []) (hs : stepI rest = some (e, next)) (hn : next.length < rest.length) : ∃ g, g + 1 = f ∧ imJ s next (out ++ [e]) g := by
  obtain ⟨h1, h2, h3⟩ := h
  refine ⟨f - 1, by omega, by omega, by rw [List.length_append]; simp; omega, ?_⟩
  have e1 : f = (f - 1) + 1 := by omega
  rw [h3]
  conv => lhs; rw [e1]
  rw [par_next hr hs, Option.map_map]
  congr 1
  funext x
  simp
theorem imJ_stop {s rest : List UInt8} {out : List EntT} {f : Nat} (h : imJ s rest out f) (hr : rest ≠ []) (hs : stepI rest = none) : imF s = ([], 3) := by
  unfold imF
  rw [h.2.2, par_stop hr hs]
  rfl
theorem imJ_end {s : List UInt8} {out : List EntT} {f : Nat} (h : imJ s [] out f) : imF s = if (if vE out then exportS out else []) = s then (out, 0) else ([], 3) := by
  unfold imF
  have : parI f [] = some [] := by cases f <;> rfl
  rw [h.2.2, this]
  simp
theorem words_step {rest : List UInt8} (h : (Lib.cut rest [10]).2.2 = true) (hw : (wordsF (Lib.cut rest [10]).1 [32]).length = 4) : stepI rest = (numsO (wordsF (Lib.cut rest [10]).1 [32])).map fun l => ((l.getD 0 0, l.getD 1 0, l.getD 2 0, l.getD 3 0), (Lib.cut rest [10]).2.1) := by
  unfold stepI
  rw [if_pos ⟨h, hw⟩]
theorem step_bad {rest : List UInt8} (h : ¬ ((Lib.cut rest [10]).2.2 = true ∧ (wordsF (Lib.cut rest [10]).1 [32]).length = 4)) : stepI rest = none := by
  unfold stepI
  rw [if_neg h]
theorem words_le (s : List UInt8) (c : UInt8) : (wordsF s [c]).length ≤ s.length + 1 := by
  rw [words_len _ _ (by simp), show Lib.countB ⟨s.toArray⟩ ⟨[c].toArray⟩ = Lib.count s [c] from rfl, Lib.count_one]
  have := List.count_le_length (a := c) (l := s)
  omega
def stN (w : World) (M : Nat → Prop) : Prop := stW w ∧ ∀ b, ¬ M b
theorem stN.mem {C : Ctx} {ob : List OB} (h : stN C.w0 C.M) : ∀ σ fp w, Mem C σ fp ob w → stW w := by
  intro σ fp w hm
  exact h.1.keep fun i hi => hm.kept.block i hi (h.2 i)
theorem four {α : Type} {l : List α} (h : l.length = 4) : ∃ a b c d, l = [a, b, c, d] := by
  match l, h with
  | [a, b, c, d], _ => exact ⟨a, b, c, d, rfl⟩
theorem split_mem (sep : List UInt8) : ∀ (k : Nat) (s : List UInt8), ∀ a ∈ Lib.splitK sep 0 k s, a.length ≤ s.length
  | 0, s, a, h => by
    simp only [Lib.splitK, List.mem_singleton] at h
    rw [h]
    exact Nat.le_refl _
  | k + 1, s, a, h => by
    unfold Lib.splitK at h
    split at h
    · simp only [List.mem_singleton] at h
      rw [h]
      exact Nat.le_refl _
    · rcases List.mem_cons.1 h with rfl | h
      · rw [List.length_take]
        omega
      · have := split_mem sep k _ a h
        rw [List.length_drop] at this
        omega
theorem words_mem {s sep a : List UInt8} (h : a ∈ wordsF s sep) : a.length ≤ s.length := split_mem _ _ _ a h
theorem und_err : Tryd.prog.underlying 56 = some (.interface (Tryd.prog.methodsAt 56)) := by kernel_rfl
theorem ValX_arrP {C : Ctx} {ob : List OB} {o : Oper} {t e : TypeId} {x ix : Operand} {i : Int} {n sz j off : Nat} {te : TI} {K : SV → Prop} (hT : TabOk C.P C.T) (ho : o.op = .indexAddr t x ix) (ht : C.P.underlying t = some (.array n e)) (hte : lookT C.T e = some te) (hz : te.zero.length = sz) (hj : Nat.ble (j + 1) ob.length = true)
    (h0 : 0 ≤ i) (h1 : i < n) (hK : K (.p j (off + i.toNat * sz))) : ValX C o [.p j off, I i] ob K := by
  unfold ValX
  intro σ fp w ρ hm hx
  obtain ⟨hid, hti⟩ := hT e te hte
  refine ⟨_, hK, ?_, Nat.le_of_ble_eq_true hj⟩
  rw [ho] at hx
  simp [Op.operands, SV.vals, SV.val] at hx
  have hsz := hti.run_size w
  rw [hid, hz] at hsz
  obtain ⟨dst, op, ty, pos, after, guard⟩ := o
  simp only at ho
  subst ho
  have hc : (0 ≤ i ∧ i < (n : Int)) := ⟨h0, h1⟩
  simp only [execOp, hx, Instr.indexAt, asIntOf, Instr.sureAddr, Sem.run_bind, Sem.run_pure, Result.andThen_ok, run_underlying ht, hc, and_self, if_true, hsz, SV.val]
  have e : (⟨σ j, off, none⟩ : Addr).add (i.toNat * sz) = ⟨σ j, off + i.toNat * sz, none⟩ := by
    unfold Addr.add
    split
    · rename_i h
      rw [h]
      rfl
    · rfl
  rw [e]
def arr4 (a b c d : Int) : Nat → List SV
  | 0 => [I 0, I 0, I 0, I 0]
  | 1 => [I a, I 0, I 0, I 0]
  | 2 => [I a, I b, I 0, I 0]
  | 3 => [I a, I b, I c, I 0]
  | _ => [I a, I b, I c, I d]
theorem numsO_ok {a : List UInt8} {v : Int} {r : List (List UInt8)} (h : Lib.atoiAll a = .ok v) (hr : numsO r = none) : numsO (a :: r) = none := by
  simp only [numsO, h, hr, Option.map_none]
theorem numsO_bad {a : List UInt8} {r : List (List UInt8)} (h : ¬ ∃ v, Lib.atoiAll a = .ok v) : numsO (a :: r) = none := by
  unfold numsO
  split
  · rename_i v hv
    exact absurd ⟨v, hv⟩ h
  · rfl
set_option maxHeartbeats 8000000 in
theorem Import_m (s : List UInt8) (hs : s.length ≤ 1048576) :
    CallM Tryd.prog 13 [S s] stN []
      (fun q : Option Addr × Nat => .t [.v (.slice q.1 (imF s).1.length q.2), I (imF s).2]) (fun q => [.row 44 4 q.1 (imF s).1.length q.2 ((imF s).1.map encE)]) := by
  refine CallM.of (m := 0) Tryd.func13 rfl tabOk rfl rfl rfl rfl (by simp [SV.wfs, SV.wf]) fun w M π hpre => ?_
  have hst := fun {ob : List OB} => stN.mem (C := ⟨Tryd.prog, tab, Tryd.f13.ntmps, w, M, 0, π, false⟩) (ob := ob) hpre
  (conv=>whnf);repeat' (first|((with_reducible refine isV ?_);first|((refine ValX_sLen rfl Tryd.underlying9 ?_); conv => whnf))|((with_reducible refine isO ?_);first|((first|(refine OpX_build0 tabOk rfl rfl rfl ?_);intro bN|(refine OpX_build tabOk rfl rfl rfl rfl rfl ?_);intro bN);conv=>whnf))|((with_reducible refine isW ?_;first|refine xwr_ok (by omega) (by omega) ?_|refine xwr_raw ?_);conv=>whnf)|with_reducible exact rfl|((with_reducible first|refine xif_kt (by assumption) ?_|refine xif_kf (by assumption) ?_);conv=>whnf)|((with_reducible refine xif_s ?_ ?_)<;>(intro hb;(try simp (disch:=omega) only [hbS] at hb)<;>conv=>whnf)))
  all_goals try (exfalso; omega)
  refine LoopX_addNil 44 4 ?_
  conv => whnf
  refine LoopX_inv tabOk (α := (Nat × List UInt8 × List EntT) × Option Addr × Nat) (fun z => imJ s z.1.2.1 z.1.2.2 z.1.1) (fun z => [(0, S s), (4, .v (.slice z.2.1 z.1.2.2.length z.2.2)), (5, S z.1.2.1)])
    (fun z => [.row 44 4 z.2.1 z.1.2.2.length z.2.2 (z.1.2.2.map encE)]) (fun z => z.1.1) ((s.length, s, []), none, 0) [0] ⟨Nat.le_refl _, by simp, by simp⟩ ?_ ?_
  · ((refine ⟨?_, ?_, ?_, ?_⟩) <;> (repeat' ((conv => whnf); apply And.intro)) <;> (try (first | exact trivial | decide)))
    all_goals first | rfl | exact fun _ _ h => h | (simp [SV.wf, SV.wfs]; done) | trace_state
  · rintro ⟨⟨f, rest, out⟩, A, c⟩ hj
    dsimp only at hj ⊢
    have hlen := hj.2.1
    have hrl := hj.1
    by_cases hr : rest = []
    · subst hr
      have he := imJ_end hj
      have kx := fun (A' : Option Addr) (c' : Nat) => Export_w A' c' out rfl (by unfold maxLen; omega)
      clear hj
      generalize (if vE out then exportS out else []) = X at *
      by_cases hX : X = s
      · rw [if_pos hX] at he
        rw [he]
        dsimp only
        (conv=>whnf);repeat' (first|((with_reducible refine isC ?_);first|(((with_reducible refine isF 12 ?_;refine CallX_w (kx _ _) ?_ ?_);(focus exact fun σ fp w' hm => ⟨ArgSl.row 0 rfl σ fp w' hm, (hst σ fp w' hm).p10⟩));conv=>whnf))|((with_reducible refine isV ?_);first|(refine ValX_sNe (a := []) (b := []) (r := false) rfl Tryd.underlying9 (by decide) ?_; conv => whnf)|(refine ValX_sNe (a := X) (b := s) (r := false) rfl Tryd.underlying9 (by simp [hX]) ?_; conv => whnf))|((with_reducible refine isO ?_);first|((first|(refine OpX_build0 tabOk rfl rfl rfl ?_);intro bN|(refine OpX_build tabOk rfl rfl rfl rfl rfl ?_);intro bN);conv=>whnf))|((with_reducible refine isW ?_;first|refine xwr_ok (by omega) (by omega) ?_|refine xwr_raw ?_);conv=>whnf)|with_reducible exact rfl|((with_reducible first|refine xif_kt (by assumption) ?_|refine xif_kf (by assumption) ?_);conv=>whnf)|((with_reducible refine xif_s ?_ ?_)<;>(intro hb;(try simp (disch:=omega) only [hbS] at hb)<;>conv=>whnf)))
        exact Fin_m (A, c) [0] ⟨rfl, by simp [SV.wf, SV.wfs]⟩ ⟨⟨rfl, rfl, rfl, rfl, rfl, rfl⟩, trivial⟩ (by decide) rfl
      · rw [if_neg hX] at he
        rw [he]
        dsimp only
        (conv=>whnf);repeat' (first|((with_reducible refine isC ?_);first|(((with_reducible refine isF 12 ?_;refine CallX_w (kx _ _) ?_ ?_);(focus exact fun σ fp w' hm => ⟨ArgSl.row 0 rfl σ fp w' hm, (hst σ fp w' hm).p10⟩));conv=>whnf))|((with_reducible refine isV ?_);first|(refine ValX_sNe (a := []) (b := []) (r := false) rfl Tryd.underlying9 (by decide) ?_; conv => whnf)|(refine ValX_sNe (a := X) (b := s) (r := true) rfl Tryd.underlying9 (by simp [hX]) ?_; conv => whnf))|((with_reducible refine isO ?_);first|((first|(refine OpX_build0 tabOk rfl rfl rfl ?_);intro bN|(refine OpX_build tabOk rfl rfl rfl rfl rfl ?_);intro bN);conv=>whnf))|((with_reducible refine isW ?_;first|refine xwr_ok (by omega) (by omega) ?_|refine xwr_raw ?_);conv=>whnf)|with_reducible exact rfl|((with_reducible first|refine xif_kt (by assumption) ?_|refine xif_kf (by assumption) ?_);conv=>whnf)|((with_reducible refine xif_s ?_ ?_)<;>(intro hb;(try simp (disch:=omega) only [hbS] at hb)<;>conv=>whnf)))
        refine Fin_addNil 44 4 ?_
        exact Fin_m (none, 0) [1] ⟨rfl, by simp [SV.wf, SV.wfs]⟩ ⟨⟨rfl, rfl, rfl, rfl, rfl, rfl⟩, trivial⟩ (by decide) rfl
    · have kc := Cut_w rest [10] (by omega)
      have hcl := cut_le rest 10
      have hstop := fun h => imJ_stop hj hr h
      have ks := Split_r (Lib.cut rest [10]).1 [32] (by omega) (by simp) (by have := words_le (Lib.cut rest [10]).1 32; omega)
      have hsh := cut_short rest 10
      have hws := words_step (rest := rest)
      have hbad := step_bad (rest := rest)
      have hnx := fun (e : EntT) (next : List UInt8) => imJ_next (next := next) (e := e) hj hr
      have hwl := words_le (Lib.cut rest [10]).1 32
      clear hj
      generalize stepI rest = st at *
      generalize hcv : Lib.cut rest [10] = cv at *
      obtain ⟨line, next, ended⟩ := cv
      dsimp only at kc hcl ks hsh hws hbad hwl
      by_cases hok : ended = true ∧ (wordsF line [32]).length = 4
      · obtain ⟨rfl, hw4⟩ := hok
        replace hws := hws rfl hw4
        replace hsh := hsh rfl
        clear hbad
        obtain ⟨a1, a2, a3, a4, hw⟩ := four hw4
        have hmem := fun a (h : a ∈ wordsF line [32]) => words_mem h
        rw [hw] at hws ks hmem
        have hb1 := hmem a1 (by simp)
        have hb2 := hmem a2 (by simp)
        have hb3 := hmem a3 (by simp)
        have hb4 := hmem a4 (by simp)
        clear hmem hw hw4 hwl
        have hnone : numsO [a1, a2, a3, a4] = none → imF s = ([], 3) := fun h => hstop (by rw [hws, h]; rfl)
        simp only [List.map_cons, List.map_nil, List.length_cons, List.length_nil] at ks
        by_cases h1 : ∃ v, Lib.atoiAll a1 = .ok v
        · obtain ⟨v1, h1⟩ := h1
          have k1 := Atoi_w a1 (by omega) v1 h1
          by_cases h2 : ∃ v, Lib.atoiAll a2 = .ok v
          · obtain ⟨v2, h2⟩ := h2
            have k2 := Atoi_w a2 (by omega) v2 h2
            by_cases h3 : ∃ v, Lib.atoiAll a3 = .ok v
            · obtain ⟨v3, h3⟩ := h3
              have k3 := Atoi_w a3 (by omega) v3 h3
              by_cases h4 : ∃ v, Lib.atoiAll a4 = .ok v
              · obtain ⟨v4, h4⟩ := h4
                have k4 := Atoi_w a4 (by omega) v4 h4
                have hst1 : st = some ((v1, v2, v3, v4), next) := by
                  rw [hws]
                  simp only [numsO, h1, h2, h3, h4, Option.map_some]
                  rfl
                obtain ⟨g, hg, hjn⟩ := hnx _ _ hst1 hsh
                clear hnone hstop hws hnx hst1
                (conv=>whnf);repeat' (first|((with_reducible refine isC ?_);first|((first|(with_reducible refine isF 31 ?_;refine CallX_w (kc) ?_ ?_);(focus exact hst)|(with_reducible refine isF 32 ?_);((refine CallX_r ks hst ?_; intro A1 c1)));conv=>whnf))|((with_reducible refine isV ?_);first|(refine ValX_sNe (a := rest) (b := []) (r := true) rfl Tryd.underlying9 (by simpa using hr) ?_; conv => whnf))|((with_reducible refine isO ?_);first|((first|(refine OpX_build0 tabOk rfl rfl rfl ?_);intro bN|(refine OpX_build tabOk rfl rfl rfl rfl rfl ?_);intro bN);conv=>whnf))|((with_reducible refine isW ?_;first|refine xwr_ok (by omega) (by omega) ?_|refine xwr_raw ?_);conv=>whnf)|with_reducible exact rfl|((with_reducible first|refine xif_kt (by assumption) ?_|refine xif_kf (by assumption) ?_);conv=>whnf)|((with_reducible refine xif_s ?_ ?_)<;>(intro hb;(try simp (disch:=omega) only [hbS] at hb)<;>conv=>whnf)))
                all_goals try (exfalso; omega)
                refine LoopX_inv tabOk (α := Nat) (fun i => i ≤ 4) (fun i => [(0, S s), (4, .v (.slice A out.length c)), (7, S next), (10, .p 2 0), (36, .v (.slice A1 4 c1)), (37, I 4), (38, I i)])
                  (fun i => [.row 44 4 A out.length c (out.map encE), .row 9 1 A1 4 c1 [[.string ⟨a1.toArray⟩], [.string ⟨a2.toArray⟩], [.string ⟨a3.toArray⟩], [.string ⟨a4.toArray⟩]], .box 65 (arr4 v1 v2 v3 v4 i)]) (fun i => 5 - i) 0 [0, 1, 2] (Nat.zero_le _) ?_ ?_
                · ((refine ⟨?_, ?_, ?_, ?_⟩) <;> (repeat' ((conv => whnf); apply And.intro)) <;> (try (first | exact trivial | decide)))
                  all_goals first | rfl | exact fun _ _ h => h | (simp [SV.wf, SV.wfs]; done) | trace_state
                · intro i hi
                  rcases (by omega : i = 0 ∨ i = 1 ∨ i = 2 ∨ i = 3 ∨ i = 4) with rfl | rfl | rfl | rfl | rfl
                  · (conv=>whnf);repeat' (first|((with_reducible refine isC ?_);first|(((with_reducible refine isF 33 ?_;refine CallX_w (k1) ?_ ?_);(focus exact hst));conv=>whnf))|((with_reducible refine isV ?_);first|(refine ValX_loadL _ tabOk rfl rfl rfl (ArgSl.row 1 rfl) (Nat.le_of_ble_eq_true rfl) rfl ?_; conv => whnf)|((refine ValX_index tabOk rfl (ArgSl.row 1 rfl) rfl ?_ ?_ ?_) <;> first | omega | (conv => whnf))|((refine ValX_arrP (n := 4) (sz := 1) tabOk rfl Tryd.underlying65 rfl rfl rfl ?_ ?_ ?_) <;> first | omega | (conv => whnf))|((first | refine ValX_ifNe rfl und_err _ false (.inl ⟨rfl, rfl⟩) ?_ | refine ValX_ifNe rfl und_err _ true (.inr ⟨_, _, rfl, rfl⟩) ?_); conv => whnf))|((with_reducible refine isO ?_);first|((first|(refine OpX_build0 tabOk rfl rfl rfl ?_);intro bN|(refine OpX_build tabOk rfl rfl rfl rfl rfl ?_);intro bN);conv=>whnf))|((with_reducible refine isW ?_;first|refine xwr_ok (by omega) (by omega) ?_|refine xwr_raw ?_);conv=>whnf)|with_reducible exact rfl|((with_reducible first|refine xif_kt (by assumption) ?_|refine xif_kf (by assumption) ?_);conv=>whnf)|((with_reducible refine xif_s ?_ ?_)<;>(intro hb;(try simp (disch:=omega) only [hbS] at hb)<;>conv=>whnf)))
                    all_goals try (exfalso; omega)
                    refine ⟨1, [0, 1, 2], by decide, ?_, by decide⟩
                    ((refine ⟨?_, ?_, ?_, ?_⟩) <;> (repeat' ((conv => whnf); apply And.intro)) <;> (try (first | exact trivial | decide)))
                    all_goals first | rfl | exact fun _ _ h => h | (simp [SV.wf, SV.wfs]; done) | trace_state
                  · (conv=>whnf);repeat' (first|((with_reducible refine isC ?_);first|(((with_reducible refine isF 33 ?_;refine CallX_w (k2) ?_ ?_);(focus exact hst));conv=>whnf))|((with_reducible refine isV ?_);first|(refine ValX_loadL _ tabOk rfl rfl rfl (ArgSl.row 1 rfl) (Nat.le_of_ble_eq_true rfl) rfl ?_; conv => whnf)|((refine ValX_index tabOk rfl (ArgSl.row 1 rfl) rfl ?_ ?_ ?_) <;> first | omega | (conv => whnf))|((refine ValX_arrP (n := 4) (sz := 1) tabOk rfl Tryd.underlying65 rfl rfl rfl ?_ ?_ ?_) <;> first | omega | (conv => whnf))|((first | refine ValX_ifNe rfl und_err _ false (.inl ⟨rfl, rfl⟩) ?_ | refine ValX_ifNe rfl und_err _ true (.inr ⟨_, _, rfl, rfl⟩) ?_); conv => whnf))|((with_reducible refine isO ?_);first|((first|(refine OpX_build0 tabOk rfl rfl rfl ?_);intro bN|(refine OpX_build tabOk rfl rfl rfl rfl rfl ?_);intro bN);conv=>whnf))|((with_reducible refine isW ?_;first|refine xwr_ok (by omega) (by omega) ?_|refine xwr_raw ?_);conv=>whnf)|with_reducible exact rfl|((with_reducible first|refine xif_kt (by assumption) ?_|refine xif_kf (by assumption) ?_);conv=>whnf)|((with_reducible refine xif_s ?_ ?_)<;>(intro hb;(try simp (disch:=omega) only [hbS] at hb)<;>conv=>whnf)))
                    all_goals try (exfalso; omega)
                    refine ⟨2, [0, 1, 2], by decide, ?_, by decide⟩
                    ((refine ⟨?_, ?_, ?_, ?_⟩) <;> (repeat' ((conv => whnf); apply And.intro)) <;> (try (first | exact trivial | decide)))
                    all_goals first | rfl | exact fun _ _ h => h | (simp [SV.wf, SV.wfs]; done) | trace_state
                  · (conv=>whnf);repeat' (first|((with_reducible refine isC ?_);first|(((with_reducible refine isF 33 ?_;refine CallX_w (k3) ?_ ?_);(focus exact hst));conv=>whnf))|((with_reducible refine isV ?_);first|(refine ValX_loadL _ tabOk rfl rfl rfl (ArgSl.row 1 rfl) (Nat.le_of_ble_eq_true rfl) rfl ?_; conv => whnf)|((refine ValX_index tabOk rfl (ArgSl.row 1 rfl) rfl ?_ ?_ ?_) <;> first | omega | (conv => whnf))|((refine ValX_arrP (n := 4) (sz := 1) tabOk rfl Tryd.underlying65 rfl rfl rfl ?_ ?_ ?_) <;> first | omega | (conv => whnf))|((first | refine ValX_ifNe rfl und_err _ false (.inl ⟨rfl, rfl⟩) ?_ | refine ValX_ifNe rfl und_err _ true (.inr ⟨_, _, rfl, rfl⟩) ?_); conv => whnf))|((with_reducible refine isO ?_);first|((first|(refine OpX_build0 tabOk rfl rfl rfl ?_);intro bN|(refine OpX_build tabOk rfl rfl rfl rfl rfl ?_);intro bN);conv=>whnf))|((with_reducible refine isW ?_;first|refine xwr_ok (by omega) (by omega) ?_|refine xwr_raw ?_);conv=>whnf)|with_reducible exact rfl|((with_reducible first|refine xif_kt (by assumption) ?_|refine xif_kf (by assumption) ?_);conv=>whnf)|((with_reducible refine xif_s ?_ ?_)<;>(intro hb;(try simp (disch:=omega) only [hbS] at hb)<;>conv=>whnf)))
                    all_goals try (exfalso; omega)
                    refine ⟨3, [0, 1, 2], by decide, ?_, by decide⟩
                    ((refine ⟨?_, ?_, ?_, ?_⟩) <;> (repeat' ((conv => whnf); apply And.intro)) <;> (try (first | exact trivial | decide)))
                    all_goals first | rfl | exact fun _ _ h => h | (simp [SV.wf, SV.wfs]; done) | trace_state
                  · (conv=>whnf);repeat' (first|((with_reducible refine isC ?_);first|(((with_reducible refine isF 33 ?_;refine CallX_w (k4) ?_ ?_);(focus exact hst));conv=>whnf))|((with_reducible refine isV ?_);first|(refine ValX_loadL _ tabOk rfl rfl rfl (ArgSl.row 1 rfl) (Nat.le_of_ble_eq_true rfl) rfl ?_; conv => whnf)|((refine ValX_index tabOk rfl (ArgSl.row 1 rfl) rfl ?_ ?_ ?_) <;> first | omega | (conv => whnf))|((refine ValX_arrP (n := 4) (sz := 1) tabOk rfl Tryd.underlying65 rfl rfl rfl ?_ ?_ ?_) <;> first | omega | (conv => whnf))|((first | refine ValX_ifNe rfl und_err _ false (.inl ⟨rfl, rfl⟩) ?_ | refine ValX_ifNe rfl und_err _ true (.inr ⟨_, _, rfl, rfl⟩) ?_); conv => whnf))|((with_reducible refine isO ?_);first|((first|(refine OpX_build0 tabOk rfl rfl rfl ?_);intro bN|(refine OpX_build tabOk rfl rfl rfl rfl rfl ?_);intro bN);conv=>whnf))|((with_reducible refine isW ?_;first|refine xwr_ok (by omega) (by omega) ?_|refine xwr_raw ?_);conv=>whnf)|with_reducible exact rfl|((with_reducible first|refine xif_kt (by assumption) ?_|refine xif_kf (by assumption) ?_);conv=>whnf)|((with_reducible refine xif_s ?_ ?_)<;>(intro hb;(try simp (disch:=omega) only [hbS] at hb)<;>conv=>whnf)))
                    all_goals try (exfalso; omega)
                    refine ⟨4, [0, 1, 2], by decide, ?_, by decide⟩
                    ((refine ⟨?_, ?_, ?_, ?_⟩) <;> (repeat' ((conv => whnf); apply And.intro)) <;> (try (first | exact trivial | decide)))
                    all_goals first | rfl | exact fun _ _ h => h | (simp [SV.wf, SV.wfs]; done) | trace_state
                  · (conv=>whnf);repeat' (first|((with_reducible refine isV ?_);first|(refine ValX_loadL _ tabOk rfl rfl rfl (ArgSl.row 1 rfl) (Nat.le_of_ble_eq_true rfl) rfl ?_; conv => whnf)|((refine ValX_index tabOk rfl (ArgSl.row 1 rfl) rfl ?_ ?_ ?_) <;> first | omega | (conv => whnf))|((refine ValX_arrP (n := 4) (sz := 1) tabOk rfl Tryd.underlying65 rfl rfl rfl ?_ ?_ ?_) <;> first | omega | (conv => whnf))|((first | refine ValX_ifNe rfl und_err _ false (.inl ⟨rfl, rfl⟩) ?_ | refine ValX_ifNe rfl und_err _ true (.inr ⟨_, _, rfl, rfl⟩) ?_); conv => whnf))|((with_reducible refine isO ?_);first|((refine OpX_append 0 tabOk rfl rfl rfl rfl (ArgSl.row 3 rfl) (by decide) ?_ ?_ ?_)<;>first|omega|(dsimp only;omega)|(intro A' c';conv=>whnf))|((first|(refine OpX_build0 tabOk rfl rfl rfl ?_);intro bN|(refine OpX_build tabOk rfl rfl rfl rfl rfl ?_);intro bN);conv=>whnf))|((with_reducible refine isW ?_;first|refine xwr_ok (by omega) (by omega) ?_|refine xwr_raw ?_);conv=>whnf)|with_reducible exact rfl|((with_reducible first|refine xif_kt (by assumption) ?_|refine xif_kf (by assumption) ?_);conv=>whnf)|((with_reducible refine xif_s ?_ ?_)<;>(intro hb;(try simp (disch:=omega) only [hbS] at hb)<;>conv=>whnf)))
                    all_goals try (exfalso; omega)
                    refine ⟨((g, next, out ++ [(v1, v2, v3, v4)]), A', c'), [0], hjn, ?_, by (try dsimp only); omega⟩
                    dsimp only
                    rw [List.length_append, List.map_append]
                    ((refine ⟨?_, ?_, ?_, ?_⟩) <;> (repeat' ((conv => whnf); apply And.intro)) <;> (try (first | exact trivial | decide)))
                    all_goals first | rfl | exact fun _ _ h => h | (simp [SV.wf, SV.wfs]; done) | trace_state
              · have hno : numsO [a1, a2, a3, a4] = none := numsO_ok h1 (numsO_ok h2 (numsO_ok h3 (numsO_bad h4)))
                rw [hnone hno]
                dsimp only
                have kE := AtoiE_m a4 (by omega) (fun v h => h4 ⟨v, h⟩)
                clear hnone hstop hws hnx hno
                (conv=>whnf);repeat' (first|((with_reducible refine isC ?_);first|((first|(with_reducible refine isF 31 ?_;refine CallX_w (kc) ?_ ?_);(focus exact hst)|(with_reducible refine isF 32 ?_);((refine CallX_r ks hst ?_; intro A1 c1)));conv=>whnf))|((with_reducible refine isV ?_);first|(refine ValX_sNe (a := rest) (b := []) (r := true) rfl Tryd.underlying9 (by simpa using hr) ?_; conv => whnf))|((with_reducible refine isO ?_);first|((first|(refine OpX_build0 tabOk rfl rfl rfl ?_);intro bN|(refine OpX_build tabOk rfl rfl rfl rfl rfl ?_);intro bN);conv=>whnf))|((with_reducible refine isW ?_;first|refine xwr_ok (by omega) (by omega) ?_|refine xwr_raw ?_);conv=>whnf)|with_reducible exact rfl|((with_reducible first|refine xif_kt (by assumption) ?_|refine xif_kf (by assumption) ?_);conv=>whnf)|((with_reducible refine xif_s ?_ ?_)<;>(intro hb;(try simp (disch:=omega) only [hbS] at hb)<;>conv=>whnf)))
                all_goals try (exfalso; omega)
                refine LoopX_inv tabOk (α := Nat) (fun i => i ≤ 3) (fun i => [(0, S s), (4, .v (.slice A out.length c)), (7, S next), (10, .p 2 0), (36, .v (.slice A1 4 c1)), (37, I 4), (38, I i)])
                  (fun i => [.row 44 4 A out.length c (out.map encE), .row 9 1 A1 4 c1 [[.string ⟨a1.toArray⟩], [.string ⟨a2.toArray⟩], [.string ⟨a3.toArray⟩], [.string ⟨a4.toArray⟩]], .box 65 (arr4 v1 v2 v3 0 i)]) (fun i => 5 - i) 0 [0, 1, 2] (Nat.zero_le _) ?_ ?_
                · ((refine ⟨?_, ?_, ?_, ?_⟩) <;> (repeat' ((conv => whnf); apply And.intro)) <;> (try (first | exact trivial | decide)))
                  all_goals first | rfl | exact fun _ _ h => h | (simp [SV.wf, SV.wfs]; done) | trace_state
                · intro i hi
                  rcases (by omega : i = 0 ∨ i = 1 ∨ i = 2 ∨ i = 3) with rfl | rfl | rfl | rfl
                  · (conv=>whnf);repeat' (first|((with_reducible refine isC ?_);first|(((with_reducible refine isF 33 ?_;refine CallX_w (k1) ?_ ?_);(focus exact hst));conv=>whnf))|((with_reducible refine isV ?_);first|(refine ValX_loadL _ tabOk rfl rfl rfl (ArgSl.row 1 rfl) (Nat.le_of_ble_eq_true rfl) rfl ?_; conv => whnf)|((refine ValX_index tabOk rfl (ArgSl.row 1 rfl) rfl ?_ ?_ ?_) <;> first | omega | (conv => whnf))|((refine ValX_arrP (n := 4) (sz := 1) tabOk rfl Tryd.underlying65 rfl rfl rfl ?_ ?_ ?_) <;> first | omega | (conv => whnf))|((first | refine ValX_ifNe rfl und_err _ false (.inl ⟨rfl, rfl⟩) ?_ | refine ValX_ifNe rfl und_err _ true (.inr ⟨_, _, rfl, rfl⟩) ?_); conv => whnf))|((with_reducible refine isO ?_);first|((first|(refine OpX_build0 tabOk rfl rfl rfl ?_);intro bN|(refine OpX_build tabOk rfl rfl rfl rfl rfl ?_);intro bN);conv=>whnf))|((with_reducible refine isW ?_;first|refine xwr_ok (by omega) (by omega) ?_|refine xwr_raw ?_);conv=>whnf)|with_reducible exact rfl|((with_reducible first|refine xif_kt (by assumption) ?_|refine xif_kf (by assumption) ?_);conv=>whnf)|((with_reducible refine xif_s ?_ ?_)<;>(intro hb;(try simp (disch:=omega) only [hbS] at hb)<;>conv=>whnf)))
                    all_goals try (exfalso; omega)
                    refine ⟨1, [0, 1, 2], by decide, ?_, by decide⟩
                    ((refine ⟨?_, ?_, ?_, ?_⟩) <;> (repeat' ((conv => whnf); apply And.intro)) <;> (try (first | exact trivial | decide)))
                    all_goals first | rfl | exact fun _ _ h => h | (simp [SV.wf, SV.wfs]; done) | trace_state
                  · (conv=>whnf);repeat' (first|((with_reducible refine isC ?_);first|(((with_reducible refine isF 33 ?_;refine CallX_w (k2) ?_ ?_);(focus exact hst));conv=>whnf))|((with_reducible refine isV ?_);first|(refine ValX_loadL _ tabOk rfl rfl rfl (ArgSl.row 1 rfl) (Nat.le_of_ble_eq_true rfl) rfl ?_; conv => whnf)|((refine ValX_index tabOk rfl (ArgSl.row 1 rfl) rfl ?_ ?_ ?_) <;> first | omega | (conv => whnf))|((refine ValX_arrP (n := 4) (sz := 1) tabOk rfl Tryd.underlying65 rfl rfl rfl ?_ ?_ ?_) <;> first | omega | (conv => whnf))|((first | refine ValX_ifNe rfl und_err _ false (.inl ⟨rfl, rfl⟩) ?_ | refine ValX_ifNe rfl und_err _ true (.inr ⟨_, _, rfl, rfl⟩) ?_); conv => whnf))|((with_reducible refine isO ?_);first|((first|(refine OpX_build0 tabOk rfl rfl rfl ?_);intro bN|(refine OpX_build tabOk rfl rfl rfl rfl rfl ?_);intro bN);conv=>whnf))|((with_reducible refine isW ?_;first|refine xwr_ok (by omega) (by omega) ?_|refine xwr_raw ?_);conv=>whnf)|with_reducible exact rfl|((with_reducible first|refine xif_kt (by assumption) ?_|refine xif_kf (by assumption) ?_);conv=>whnf)|((with_reducible refine xif_s ?_ ?_)<;>(intro hb;(try simp (disch:=omega) only [hbS] at hb)<;>conv=>whnf)))
                    all_goals try (exfalso; omega)
                    refine ⟨2, [0, 1, 2], by decide, ?_, by decide⟩
                    ((refine ⟨?_, ?_, ?_, ?_⟩) <;> (repeat' ((conv => whnf); apply And.intro)) <;> (try (first | exact trivial | decide)))
                    all_goals first | rfl | exact fun _ _ h => h | (simp [SV.wf, SV.wfs]; done) | trace_state
                  · (conv=>whnf);repeat' (first|((with_reducible refine isC ?_);first|(((with_reducible refine isF 33 ?_;refine CallX_w (k3) ?_ ?_);(focus exact hst));conv=>whnf))|((with_reducible refine isV ?_);first|(refine ValX_loadL _ tabOk rfl rfl rfl (ArgSl.row 1 rfl) (Nat.le_of_ble_eq_true rfl) rfl ?_; conv => whnf)|((refine ValX_index tabOk rfl (ArgSl.row 1 rfl) rfl ?_ ?_ ?_) <;> first | omega | (conv => whnf))|((refine ValX_arrP (n := 4) (sz := 1) tabOk rfl Tryd.underlying65 rfl rfl rfl ?_ ?_ ?_) <;> first | omega | (conv => whnf))|((first | refine ValX_ifNe rfl und_err _ false (.inl ⟨rfl, rfl⟩) ?_ | refine ValX_ifNe rfl und_err _ true (.inr ⟨_, _, rfl, rfl⟩) ?_); conv => whnf))|((with_reducible refine isO ?_);first|((first|(refine OpX_build0 tabOk rfl rfl rfl ?_);intro bN|(refine OpX_build tabOk rfl rfl rfl rfl rfl ?_);intro bN);conv=>whnf))|((with_reducible refine isW ?_;first|refine xwr_ok (by omega) (by omega) ?_|refine xwr_raw ?_);conv=>whnf)|with_reducible exact rfl|((with_reducible first|refine xif_kt (by assumption) ?_|refine xif_kf (by assumption) ?_);conv=>whnf)|((with_reducible refine xif_s ?_ ?_)<;>(intro hb;(try simp (disch:=omega) only [hbS] at hb)<;>conv=>whnf)))
                    all_goals try (exfalso; omega)
                    refine ⟨3, [0, 1, 2], by decide, ?_, by decide⟩
                    ((refine ⟨?_, ?_, ?_, ?_⟩) <;> (repeat' ((conv => whnf); apply And.intro)) <;> (try (first | exact trivial | decide)))
                    all_goals first | rfl | exact fun _ _ h => h | (simp [SV.wf, SV.wfs]; done) | trace_state
                  · (conv=>whnf);repeat' (first|((with_reducible refine isC ?_);first|(((with_reducible refine isF 33 ?_;refine CallX_m (kE) [] ?_ ?_ ?_ ?_ ?_);(focus exact rfl);(focus exact trivial);(focus decide);(focus exact hst);intro q; obtain ⟨z0, tt, N⟩ := q; dsimp only);conv=>whnf))|((with_reducible refine isV ?_);first|(refine ValX_loadL _ tabOk rfl rfl rfl (ArgSl.row 1 rfl) (Nat.le_of_ble_eq_true rfl) rfl ?_; conv => whnf)|((refine ValX_index tabOk rfl (ArgSl.row 1 rfl) rfl ?_ ?_ ?_) <;> first | omega | (conv => whnf))|((refine ValX_arrP (n := 4) (sz := 1) tabOk rfl Tryd.underlying65 rfl rfl rfl ?_ ?_ ?_) <;> first | omega | (conv => whnf))|((first | refine ValX_ifNe rfl und_err _ false (.inl ⟨rfl, rfl⟩) ?_ | refine ValX_ifNe rfl und_err _ true (.inr ⟨_, _, rfl, rfl⟩) ?_); conv => whnf))|((with_reducible refine isO ?_);first|((first|(refine OpX_build0 tabOk rfl rfl rfl ?_);intro bN|(refine OpX_build tabOk rfl rfl rfl rfl rfl ?_);intro bN);conv=>whnf))|((with_reducible refine isW ?_;first|refine xwr_ok (by omega) (by omega) ?_|refine xwr_raw ?_);conv=>whnf)|with_reducible exact rfl|((with_reducible first|refine xif_kt (by assumption) ?_|refine xif_kf (by assumption) ?_);conv=>whnf)|((with_reducible refine xif_s ?_ ?_)<;>(intro hb;(try simp (disch:=omega) only [hbS] at hb)<;>conv=>whnf)))
                    all_goals try (exfalso; omega)
                    refine Fin_addNil 44 4 ?_
                    exact Fin_m (none, 0) [3] ⟨rfl, by simp [SV.wf, SV.wfs]⟩ ⟨⟨rfl, rfl, rfl, rfl, rfl, rfl⟩, trivial⟩ (by decide) rfl
            · have hno : numsO [a1, a2, a3, a4] = none := numsO_ok h1 (numsO_ok h2 (numsO_bad h3))
              rw [hnone hno]
              dsimp only
              have kE := AtoiE_m a3 (by omega) (fun v h => h3 ⟨v, h⟩)
              clear hnone hstop hws hnx hno
              (conv=>whnf);repeat' (first|((with_reducible refine isC ?_);first|((first|(with_reducible refine isF 31 ?_;refine CallX_w (kc) ?_ ?_);(focus exact hst)|(with_reducible refine isF 32 ?_);((refine CallX_r ks hst ?_; intro A1 c1)));conv=>whnf))|((with_reducible refine isV ?_);first|(refine ValX_sNe (a := rest) (b := []) (r := true) rfl Tryd.underlying9 (by simpa using hr) ?_; conv => whnf))|((with_reducible refine isO ?_);first|((first|(refine OpX_build0 tabOk rfl rfl rfl ?_);intro bN|(refine OpX_build tabOk rfl rfl rfl rfl rfl ?_);intro bN);conv=>whnf))|((with_reducible refine isW ?_;first|refine xwr_ok (by omega) (by omega) ?_|refine xwr_raw ?_);conv=>whnf)|with_reducible exact rfl|((with_reducible first|refine xif_kt (by assumption) ?_|refine xif_kf (by assumption) ?_);conv=>whnf)|((with_reducible refine xif_s ?_ ?_)<;>(intro hb;(try simp (disch:=omega) only [hbS] at hb)<;>conv=>whnf)))
              all_goals try (exfalso; omega)
              refine LoopX_inv tabOk (α := Nat) (fun i => i ≤ 2) (fun i => [(0, S s), (4, .v (.slice A out.length c)), (7, S next), (10, .p 2 0), (36, .v (.slice A1 4 c1)), (37, I 4), (38, I i)])
                (fun i => [.row 44 4 A out.length c (out.map encE), .row 9 1 A1 4 c1 [[.string ⟨a1.toArray⟩], [.string ⟨a2.toArray⟩], [.string ⟨a3.toArray⟩], [.string ⟨a4.toArray⟩]], .box 65 (arr4 v1 v2 0 0 i)]) (fun i => 5 - i) 0 [0, 1, 2] (Nat.zero_le _) ?_ ?_
              · ((refine ⟨?_, ?_, ?_, ?_⟩) <;> (repeat' ((conv => whnf); apply And.intro)) <;> (try (first | exact trivial | decide)))
                all_goals first | rfl | exact fun _ _ h => h | (simp [SV.wf, SV.wfs]; done) | trace_state
              · intro i hi
                rcases (by omega : i = 0 ∨ i = 1 ∨ i = 2) with rfl | rfl | rfl
                · (conv=>whnf);repeat' (first|((with_reducible refine isC ?_);first|(((with_reducible refine isF 33 ?_;refine CallX_w (k1) ?_ ?_);(focus exact hst));conv=>whnf))|((with_reducible refine isV ?_);first|(refine ValX_loadL _ tabOk rfl rfl rfl (ArgSl.row 1 rfl) (Nat.le_of_ble_eq_true rfl) rfl ?_; conv => whnf)|((refine ValX_index tabOk rfl (ArgSl.row 1 rfl) rfl ?_ ?_ ?_) <;> first | omega | (conv => whnf))|((refine ValX_arrP (n := 4) (sz := 1) tabOk rfl Tryd.underlying65 rfl rfl rfl ?_ ?_ ?_) <;> first | omega | (conv => whnf))|((first | refine ValX_ifNe rfl und_err _ false (.inl ⟨rfl, rfl⟩) ?_ | refine ValX_ifNe rfl und_err _ true (.inr ⟨_, _, rfl, rfl⟩) ?_); conv => whnf))|((with_reducible refine isO ?_);first|((first|(refine OpX_build0 tabOk rfl rfl rfl ?_);intro bN|(refine OpX_build tabOk rfl rfl rfl rfl rfl ?_);intro bN);conv=>whnf))|((with_reducible refine isW ?_;first|refine xwr_ok (by omega) (by omega) ?_|refine xwr_raw ?_);conv=>whnf)|with_reducible exact rfl|((with_reducible first|refine xif_kt (by assumption) ?_|refine xif_kf (by assumption) ?_);conv=>whnf)|((with_reducible refine xif_s ?_ ?_)<;>(intro hb;(try simp (disch:=omega) only [hbS] at hb)<;>conv=>whnf)))
                  all_goals try (exfalso; omega)
                  refine ⟨1, [0, 1, 2], by decide, ?_, by decide⟩
                  ((refine ⟨?_, ?_, ?_, ?_⟩) <;> (repeat' ((conv => whnf); apply And.intro)) <;> (try (first | exact trivial | decide)))
                  all_goals first | rfl | exact fun _ _ h => h | (simp [SV.wf, SV.wfs]; done) | trace_state
                · (conv=>whnf);repeat' (first|((with_reducible refine isC ?_);first|(((with_reducible refine isF 33 ?_;refine CallX_w (k2) ?_ ?_);(focus exact hst));conv=>whnf))|((with_reducible refine isV ?_);first|(refine ValX_loadL _ tabOk rfl rfl rfl (ArgSl.row 1 rfl) (Nat.le_of_ble_eq_true rfl) rfl ?_; conv => whnf)|((refine ValX_index tabOk rfl (ArgSl.row 1 rfl) rfl ?_ ?_ ?_) <;> first | omega | (conv => whnf))|((refine ValX_arrP (n := 4) (sz := 1) tabOk rfl Tryd.underlying65 rfl rfl rfl ?_ ?_ ?_) <;> first | omega | (conv => whnf))|((first | refine ValX_ifNe rfl und_err _ false (.inl ⟨rfl, rfl⟩) ?_ | refine ValX_ifNe rfl und_err _ true (.inr ⟨_, _, rfl, rfl⟩) ?_); conv => whnf))|((with_reducible refine isO ?_);first|((first|(refine OpX_build0 tabOk rfl rfl rfl ?_);intro bN|(refine OpX_build tabOk rfl rfl rfl rfl rfl ?_);intro bN);conv=>whnf))|((with_reducible refine isW ?_;first|refine xwr_ok (by omega) (by omega) ?_|refine xwr_raw ?_);conv=>whnf)|with_reducible exact rfl|((with_reducible first|refine xif_kt (by assumption) ?_|refine xif_kf (by assumption) ?_);conv=>whnf)|((with_reducible refine xif_s ?_ ?_)<;>(intro hb;(try simp (disch:=omega) only [hbS] at hb)<;>conv=>whnf)))
                  all_goals try (exfalso; omega)
                  refine ⟨2, [0, 1, 2], by decide, ?_, by decide⟩
                  ((refine ⟨?_, ?_, ?_, ?_⟩) <;> (repeat' ((conv => whnf); apply And.intro)) <;> (try (first | exact trivial | decide)))
                  all_goals first | rfl | exact fun _ _ h => h | (simp [SV.wf, SV.wfs]; done) | trace_state
                · (conv=>whnf);repeat' (first|((with_reducible refine isC ?_);first|(((with_reducible refine isF 33 ?_;refine CallX_m (kE) [] ?_ ?_ ?_ ?_ ?_);(focus exact rfl);(focus exact trivial);(focus decide);(focus exact hst);intro q; obtain ⟨z0, tt, N⟩ := q; dsimp only);conv=>whnf))|((with_reducible refine isV ?_);first|(refine ValX_loadL _ tabOk rfl rfl rfl (ArgSl.row 1 rfl) (Nat.le_of_ble_eq_true rfl) rfl ?_; conv => whnf)|((refine ValX_index tabOk rfl (ArgSl.row 1 rfl) rfl ?_ ?_ ?_) <;> first | omega | (conv => whnf))|((refine ValX_arrP (n := 4) (sz := 1) tabOk rfl Tryd.underlying65 rfl rfl rfl ?_ ?_ ?_) <;> first | omega | (conv => whnf))|((first | refine ValX_ifNe rfl und_err _ false (.inl ⟨rfl, rfl⟩) ?_ | refine ValX_ifNe rfl und_err _ true (.inr ⟨_, _, rfl, rfl⟩) ?_); conv => whnf))|((with_reducible refine isO ?_);first|((first|(refine OpX_build0 tabOk rfl rfl rfl ?_);intro bN|(refine OpX_build tabOk rfl rfl rfl rfl rfl ?_);intro bN);conv=>whnf))|((with_reducible refine isW ?_;first|refine xwr_ok (by omega) (by omega) ?_|refine xwr_raw ?_);conv=>whnf)|with_reducible exact rfl|((with_reducible first|refine xif_kt (by assumption) ?_|refine xif_kf (by assumption) ?_);conv=>whnf)|((with_reducible refine xif_s ?_ ?_)<;>(intro hb;(try simp (disch:=omega) only [hbS] at hb)<;>conv=>whnf)))
                  all_goals try (exfalso; omega)
                  refine Fin_addNil 44 4 ?_
                  exact Fin_m (none, 0) [3] ⟨rfl, by simp [SV.wf, SV.wfs]⟩ ⟨⟨rfl, rfl, rfl, rfl, rfl, rfl⟩, trivial⟩ (by decide) rfl
          · have hno : numsO [a1, a2, a3, a4] = none := numsO_ok h1 (numsO_bad h2)
            rw [hnone hno]
            dsimp only
            have kE := AtoiE_m a2 (by omega) (fun v h => h2 ⟨v, h⟩)
            clear hnone hstop hws hnx hno
            (conv=>whnf);repeat' (first|((with_reducible refine isC ?_);first|((first|(with_reducible refine isF 31 ?_;refine CallX_w (kc) ?_ ?_);(focus exact hst)|(with_reducible refine isF 32 ?_);((refine CallX_r ks hst ?_; intro A1 c1)));conv=>whnf))|((with_reducible refine isV ?_);first|(refine ValX_sNe (a := rest) (b := []) (r := true) rfl Tryd.underlying9 (by simpa using hr) ?_; conv => whnf))|((with_reducible refine isO ?_);first|((first|(refine OpX_build0 tabOk rfl rfl rfl ?_);intro bN|(refine OpX_build tabOk rfl rfl rfl rfl rfl ?_);intro bN);conv=>whnf))|((with_reducible refine isW ?_;first|refine xwr_ok (by omega) (by omega) ?_|refine xwr_raw ?_);conv=>whnf)|with_reducible exact rfl|((with_reducible first|refine xif_kt (by assumption) ?_|refine xif_kf (by assumption) ?_);conv=>whnf)|((with_reducible refine xif_s ?_ ?_)<;>(intro hb;(try simp (disch:=omega) only [hbS] at hb)<;>conv=>whnf)))
            all_goals try (exfalso; omega)
            refine LoopX_inv tabOk (α := Nat) (fun i => i ≤ 1) (fun i => [(0, S s), (4, .v (.slice A out.length c)), (7, S next), (10, .p 2 0), (36, .v (.slice A1 4 c1)), (37, I 4), (38, I i)])
              (fun i => [.row 44 4 A out.length c (out.map encE), .row 9 1 A1 4 c1 [[.string ⟨a1.toArray⟩], [.string ⟨a2.toArray⟩], [.string ⟨a3.toArray⟩], [.string ⟨a4.toArray⟩]], .box 65 (arr4 v1 0 0 0 i)]) (fun i => 5 - i) 0 [0, 1, 2] (Nat.zero_le _) ?_ ?_
            · ((refine ⟨?_, ?_, ?_, ?_⟩) <;> (repeat' ((conv => whnf); apply And.intro)) <;> (try (first | exact trivial | decide)))
              all_goals first | rfl | exact fun _ _ h => h | (simp [SV.wf, SV.wfs]; done) | trace_state
            · intro i hi
              rcases (by omega : i = 0 ∨ i = 1) with rfl | rfl
              · (conv=>whnf);repeat' (first|((with_reducible refine isC ?_);first|(((with_reducible refine isF 33 ?_;refine CallX_w (k1) ?_ ?_);(focus exact hst));conv=>whnf))|((with_reducible refine isV ?_);first|(refine ValX_loadL _ tabOk rfl rfl rfl (ArgSl.row 1 rfl) (Nat.le_of_ble_eq_true rfl) rfl ?_; conv => whnf)|((refine ValX_index tabOk rfl (ArgSl.row 1 rfl) rfl ?_ ?_ ?_) <;> first | omega | (conv => whnf))|((refine ValX_arrP (n := 4) (sz := 1) tabOk rfl Tryd.underlying65 rfl rfl rfl ?_ ?_ ?_) <;> first | omega | (conv => whnf))|((first | refine ValX_ifNe rfl und_err _ false (.inl ⟨rfl, rfl⟩) ?_ | refine ValX_ifNe rfl und_err _ true (.inr ⟨_, _, rfl, rfl⟩) ?_); conv => whnf))|((with_reducible refine isO ?_);first|((first|(refine OpX_build0 tabOk rfl rfl rfl ?_);intro bN|(refine OpX_build tabOk rfl rfl rfl rfl rfl ?_);intro bN);conv=>whnf))|((with_reducible refine isW ?_;first|refine xwr_ok (by omega) (by omega) ?_|refine xwr_raw ?_);conv=>whnf)|with_reducible exact rfl|((with_reducible first|refine xif_kt (by assumption) ?_|refine xif_kf (by assumption) ?_);conv=>whnf)|((with_reducible refine xif_s ?_ ?_)<;>(intro hb;(try simp (disch:=omega) only [hbS] at hb)<;>conv=>whnf)))
                all_goals try (exfalso; omega)
                refine ⟨1, [0, 1, 2], by decide, ?_, by decide⟩
                ((refine ⟨?_, ?_, ?_, ?_⟩) <;> (repeat' ((conv => whnf); apply And.intro)) <;> (try (first | exact trivial | decide)))
                all_goals first | rfl | exact fun _ _ h => h | (simp [SV.wf, SV.wfs]; done) | trace_state
              · (conv=>whnf);repeat' (first|((with_reducible refine isC ?_);first|(((with_reducible refine isF 33 ?_;refine CallX_m (kE) [] ?_ ?_ ?_ ?_ ?_);(focus exact rfl);(focus exact trivial);(focus decide);(focus exact hst);intro q; obtain ⟨z0, tt, N⟩ := q; dsimp only);conv=>whnf))|((with_reducible refine isV ?_);first|(refine ValX_loadL _ tabOk rfl rfl rfl (ArgSl.row 1 rfl) (Nat.le_of_ble_eq_true rfl) rfl ?_; conv => whnf)|((refine ValX_index tabOk rfl (ArgSl.row 1 rfl) rfl ?_ ?_ ?_) <;> first | omega | (conv => whnf))|((refine ValX_arrP (n := 4) (sz := 1) tabOk rfl Tryd.underlying65 rfl rfl rfl ?_ ?_ ?_) <;> first | omega | (conv => whnf))|((first | refine ValX_ifNe rfl und_err _ false (.inl ⟨rfl, rfl⟩) ?_ | refine ValX_ifNe rfl und_err _ true (.inr ⟨_, _, rfl, rfl⟩) ?_); conv => whnf))|((with_reducible refine isO ?_);first|((first|(refine OpX_build0 tabOk rfl rfl rfl ?_);intro bN|(refine OpX_build tabOk rfl rfl rfl rfl rfl ?_);intro bN);conv=>whnf))|((with_reducible refine isW ?_;first|refine xwr_ok (by omega) (by omega) ?_|refine xwr_raw ?_);conv=>whnf)|with_reducible exact rfl|((with_reducible first|refine xif_kt (by assumption) ?_|refine xif_kf (by assumption) ?_);conv=>whnf)|((with_reducible refine xif_s ?_ ?_)<;>(intro hb;(try simp (disch:=omega) only [hbS] at hb)<;>conv=>whnf)))
                all_goals try (exfalso; omega)
                refine Fin_addNil 44 4 ?_
                exact Fin_m (none, 0) [3] ⟨rfl, by simp [SV.wf, SV.wfs]⟩ ⟨⟨rfl, rfl, rfl, rfl, rfl, rfl⟩, trivial⟩ (by decide) rfl
        · have hno : numsO [a1, a2, a3, a4] = none := numsO_bad h1
          rw [hnone hno]
          dsimp only
          have kE := AtoiE_m a1 (by omega) (fun v h => h1 ⟨v, h⟩)
          clear hnone hstop hws hnx hno
          (conv=>whnf);repeat' (first|((with_reducible refine isC ?_);first|((first|(with_reducible refine isF 31 ?_;refine CallX_w (kc) ?_ ?_);(focus exact hst)|(with_reducible refine isF 32 ?_);((refine CallX_r ks hst ?_; intro A1 c1)));conv=>whnf))|((with_reducible refine isV ?_);first|(refine ValX_sNe (a := rest) (b := []) (r := true) rfl Tryd.underlying9 (by simpa using hr) ?_; conv => whnf))|((with_reducible refine isO ?_);first|((first|(refine OpX_build0 tabOk rfl rfl rfl ?_);intro bN|(refine OpX_build tabOk rfl rfl rfl rfl rfl ?_);intro bN);conv=>whnf))|((with_reducible refine isW ?_;first|refine xwr_ok (by omega) (by omega) ?_|refine xwr_raw ?_);conv=>whnf)|with_reducible exact rfl|((with_reducible first|refine xif_kt (by assumption) ?_|refine xif_kf (by assumption) ?_);conv=>whnf)|((with_reducible refine xif_s ?_ ?_)<;>(intro hb;(try simp (disch:=omega) only [hbS] at hb)<;>conv=>whnf)))
          all_goals try (exfalso; omega)
          refine LoopX_inv tabOk (α := Nat) (fun i => i ≤ 0) (fun i => [(0, S s), (4, .v (.slice A out.length c)), (7, S next), (10, .p 2 0), (36, .v (.slice A1 4 c1)), (37, I 4), (38, I i)])
            (fun i => [.row 44 4 A out.length c (out.map encE), .row 9 1 A1 4 c1 [[.string ⟨a1.toArray⟩], [.string ⟨a2.toArray⟩], [.string ⟨a3.toArray⟩], [.string ⟨a4.toArray⟩]], .box 65 (arr4 0 0 0 0 i)]) (fun i => 5 - i) 0 [0, 1, 2] (Nat.zero_le _) ?_ ?_
          · ((refine ⟨?_, ?_, ?_, ?_⟩) <;> (repeat' ((conv => whnf); apply And.intro)) <;> (try (first | exact trivial | decide)))
            all_goals first | rfl | exact fun _ _ h => h | (simp [SV.wf, SV.wfs]; done) | trace_state
          · intro i hi
            rcases (by omega : i = 0) with rfl
            · (conv=>whnf);repeat' (first|((with_reducible refine isC ?_);first|(((with_reducible refine isF 33 ?_;refine CallX_m (kE) [] ?_ ?_ ?_ ?_ ?_);(focus exact rfl);(focus exact trivial);(focus decide);(focus exact hst);intro q; obtain ⟨z0, tt, N⟩ := q; dsimp only);conv=>whnf))|((with_reducible refine isV ?_);first|(refine ValX_loadL _ tabOk rfl rfl rfl (ArgSl.row 1 rfl) (Nat.le_of_ble_eq_true rfl) rfl ?_; conv => whnf)|((refine ValX_index tabOk rfl (ArgSl.row 1 rfl) rfl ?_ ?_ ?_) <;> first | omega | (conv => whnf))|((refine ValX_arrP (n := 4) (sz := 1) tabOk rfl Tryd.underlying65 rfl rfl rfl ?_ ?_ ?_) <;> first | omega | (conv => whnf))|((first | refine ValX_ifNe rfl und_err _ false (.inl ⟨rfl, rfl⟩) ?_ | refine ValX_ifNe rfl und_err _ true (.inr ⟨_, _, rfl, rfl⟩) ?_); conv => whnf))|((with_reducible refine isO ?_);first|((first|(refine OpX_build0 tabOk rfl rfl rfl ?_);intro bN|(refine OpX_build tabOk rfl rfl rfl rfl rfl ?_);intro bN);conv=>whnf))|((with_reducible refine isW ?_;first|refine xwr_ok (by omega) (by omega) ?_|refine xwr_raw ?_);conv=>whnf)|with_reducible exact rfl|((with_reducible first|refine xif_kt (by assumption) ?_|refine xif_kf (by assumption) ?_);conv=>whnf)|((with_reducible refine xif_s ?_ ?_)<;>(intro hb;(try simp (disch:=omega) only [hbS] at hb)<;>conv=>whnf)))
              all_goals try (exfalso; omega)
              refine Fin_addNil 44 4 ?_
              exact Fin_m (none, 0) [3] ⟨rfl, by simp [SV.wf, SV.wfs]⟩ ⟨⟨rfl, rfl, rfl, rfl, rfl, rfl⟩, trivial⟩ (by decide) rfl
      · have hst0 := hstop (hbad hok)
        rw [hst0]
        dsimp only
        clear hstop hbad hws hnx hsh
        generalize wordsF line [32] = ws at *
        cases ended
        · (conv=>whnf);repeat' (first|((with_reducible refine isC ?_);first|((first|(with_reducible refine isF 31 ?_;refine CallX_w (kc) ?_ ?_);(focus exact hst)|(with_reducible refine isF 32 ?_);((refine CallX_r ks hst ?_; intro A1 c1)));conv=>whnf))|((with_reducible refine isV ?_);first|(refine ValX_sNe (r := true) rfl Tryd.underlying9 (by simpa using hr) ?_; conv => whnf))|((with_reducible refine isO ?_);first|((first|(refine OpX_build0 tabOk rfl rfl rfl ?_);intro bN|(refine OpX_build tabOk rfl rfl rfl rfl rfl ?_);intro bN);conv=>whnf))|((with_reducible refine isW ?_;first|refine xwr_ok (by omega) (by omega) ?_|refine xwr_raw ?_);conv=>whnf)|with_reducible exact rfl|((with_reducible first|refine xif_kt (by assumption) ?_|refine xif_kf (by assumption) ?_);conv=>whnf)|((with_reducible refine xif_s ?_ ?_)<;>(intro hb;(try simp (disch:=omega) only [hbS] at hb)<;>conv=>whnf)))
          all_goals try (exfalso; omega)
          refine Fin_addNil 44 4 ?_
          exact Fin_m (none, 0) [2] ⟨rfl, by simp [SV.wf, SV.wfs]⟩ ⟨⟨rfl, rfl, rfl, rfl, rfl, rfl⟩, trivial⟩ (by decide) rfl
        · have hn5 : ws.length ≠ 4 := fun h => hok ⟨rfl, h⟩
          have hn4 : (ws.map fun b => [Value.string ⟨b.toArray⟩]).length ≠ 4 := fun h => hok ⟨rfl, by simpa using h⟩
          (conv=>whnf);repeat' (first|((with_reducible refine isC ?_);first|((first|(with_reducible refine isF 31 ?_;refine CallX_w (kc) ?_ ?_);(focus exact hst)|(with_reducible refine isF 32 ?_);((refine CallX_r ks hst ?_; intro A1 c1)));conv=>whnf))|((with_reducible refine isV ?_);first|(refine ValX_sNe (r := true) rfl Tryd.underlying9 (by simpa using hr) ?_; conv => whnf))|((with_reducible refine isO ?_);first|((first|(refine OpX_build0 tabOk rfl rfl rfl ?_);intro bN|(refine OpX_build tabOk rfl rfl rfl rfl rfl ?_);intro bN);conv=>whnf))|((with_reducible refine isW ?_;first|refine xwr_ok (by omega) (by omega) ?_|refine xwr_raw ?_);conv=>whnf)|with_reducible exact rfl|((with_reducible first|refine xif_kt (by assumption) ?_|refine xif_kf (by assumption) ?_);conv=>whnf)|((with_reducible refine xif_s ?_ ?_)<;>(intro hb;(try simp (disch:=omega) only [hbS] at hb)<;>conv=>whnf)))
          all_goals try (exfalso; omega)
          refine Fin_addNil 44 4 ?_
          exact Fin_m (none, 0) [2] ⟨rfl, by simp [SV.wf, SV.wfs]⟩ ⟨⟨rfl, rfl, rfl, rfl, rfl, rfl⟩, trivial⟩ (by decide) rfl
end Go.Proofs.YtadichckbogcjaaDoor.En
