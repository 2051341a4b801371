/- The walk of AtlasJoins. -/
import Derived.Test.YtodaijlclbngbaaGreatQg
import Derived.Test.YtodaijlclbngbaaGreatLwAo
set_option linter.all false
namespace Go.Proofs.YtodaijlclbngbaaGreat.En
open Go.RowKit
set_option maxRecDepth 100000

theorem goodA_made (l : List AOp) : goodA (madeM l) := (top_made (l.map absO)).good
theorem join_comm (l m : List AOp) : joinA (madeM l) (madeM m) = joinA (madeM m) (madeM l) :=
  TopA.unique ((top_made (l.map absO)).join (top_made (m.map absO))) ((top_made (m.map absO)).join (top_made (l.map absO))) fun o => by simp only [List.mem_append]; exact Or.comm
theorem join_again (l m : List AOp) : joinA (joinA (madeM l) (madeM m)) (madeM m) = joinA (madeM l) (madeM m) :=
  TopA.unique (((top_made (l.map absO)).join (top_made (m.map absO))).join (top_made (m.map absO))) ((top_made (l.map absO)).join (top_made (m.map absO))) fun o => by simp only [List.mem_append]; exact ⟨fun h => h.elim id .inr, .inl⟩
theorem goodA_join (l m : List AOp) : goodA (joinA (madeM l) (madeM m)) := ((top_made (l.map absO)).join (top_made (m.map absO))).good
set_option maxHeartbeats 16000000 in
theorem joins_x (A : Option Addr) (c : Nat) (l : List AOp) {n : Nat} (hl : l.length = n) (hn : n ≤ maxLen) (A2 : Option Addr) (c2 : Nat) (m : List AOp) {n2 : Nat} (hl2 : m.length = n2) (hn2 : n2 ≤ maxLen) :
    CallW Tryz.prog 5 [.v (.slice A n c), .v (.slice A2 n2 c2)] (fun w => opsW w A n l ∧ opsW w A2 n2 m) (B true) := by
  have kf := few_w A c l hl hn
  have kf2 := few_w A2 c2 m hl2 hn2
  have km := made_m A c l hl hn
  have km2 := made_m A2 c2 m hl2 hn2
  have kr := model_m A c l hl hn
  have kr2 := model_m A2 c2 m hl2 hn2
  rcases Bool.eq_false_or_eq_true (fewB l) with hf | hf
  rotate_left
  · rw [hf] at kf
    refine CallW.of Tryz.func5 rfl tabOk rfl rfl rfl (by simp [SV.wfs, SV.wf]) (by simp [SV.wfs, SV.wf]) fun w hpre => ?_
    (conv => whnf); repeat' (first | ((with_reducible refine isC ?_); first | ((with_reducible refine CallX_pure (awake17_x) ?_) <;> first | omega | (with_reducible show (_ : Int) ≤ _) | (with_reducible show (_ : Int) < _) | (with_reducible show (_ : Nat) ≤ _) | (with_reducible show (_ : Nat) < _) | (conv => whnf)) | ((with_reducible refine isF 9 ?_); (with_reducible refine CallX_w (kf) ?_ ?_); (focus (exact hpre.1.few rfl)); conv => whnf)) | (with_reducible exact rfl) | ((with_reducible refine xif_kt (by with_reducible assumption) ?_); conv => whnf) | ((with_reducible refine xif_kf (by with_reducible assumption) ?_); conv => whnf) | (((with_reducible refine xif_s ?_ ?_) <;> (intro hb; (try simp (disch := omega) only [hbS] at hb))) <;> (conv => whnf)))
    exact Fin_pure rfl rfl trivial
  · rw [hf] at kf
    rcases Bool.eq_false_or_eq_true (fewB m) with hf2 | hf2
    rotate_left
    · rw [hf2] at kf2
      refine CallW.of Tryz.func5 rfl tabOk rfl rfl rfl (by simp [SV.wfs, SV.wf]) (by simp [SV.wfs, SV.wf]) fun w hpre => ?_
      (conv => whnf); repeat' (first | ((with_reducible refine isC ?_); first | ((with_reducible refine CallX_pure (awake17_x) ?_) <;> first | omega | (with_reducible show (_ : Int) ≤ _) | (with_reducible show (_ : Int) < _) | (with_reducible show (_ : Nat) ≤ _) | (with_reducible show (_ : Nat) < _) | (conv => whnf)) | ((with_reducible refine isF 9 ?_); (with_reducible refine CallX_w (kf) ?_ ?_); (focus (exact hpre.1.few rfl)); conv => whnf) | ((with_reducible refine isF 9 ?_); (with_reducible refine CallX_w (kf2) ?_ ?_); (focus (exact hpre.2.few rfl)); conv => whnf)) | (with_reducible exact rfl) | ((with_reducible refine xif_kt (by with_reducible assumption) ?_); conv => whnf) | ((with_reducible refine xif_kf (by with_reducible assumption) ?_); conv => whnf) | (((with_reducible refine xif_s ?_ ?_) <;> (intro hb; (try simp (disch := omega) only [hbS] at hb))) <;> (conv => whnf)))
      exact Fin_pure rfl rfl trivial
    · rw [hf2] at kf2
      have hgl := goodA_made l
      have hgm := goodA_made m
      have hgj := goodA_join l m
      have hcm := join_comm l m
      have hag := join_again l m
      refine CallW.of Tryz.func5 rfl tabOk rfl rfl rfl (by simp [SV.wfs, SV.wf]) (by simp [SV.wfs, SV.wf]) fun w hpre => ?_
      obtain ⟨hp1, hp2⟩ := hpre
      (conv => whnf); repeat' (first | ((with_reducible refine isC ?_); first | ((with_reducible refine CallX_pure (awake17_x) ?_) <;> first | omega | (with_reducible show (_ : Int) ≤ _) | (with_reducible show (_ : Int) < _) | (with_reducible show (_ : Nat) ≤ _) | (with_reducible show (_ : Nat) < _) | (conv => whnf)) | ((with_reducible refine isF 9 ?_); (with_reducible refine CallX_w (kf) ?_ ?_); (focus (exact hp1.few rfl)); conv => whnf) | ((with_reducible refine isF 9 ?_); (with_reducible refine CallX_w (kf2) ?_ ?_); (focus (exact hp2.few rfl)); conv => whnf)) | (with_reducible exact rfl) | ((with_reducible refine xif_kt (by with_reducible assumption) ?_); conv => whnf) | ((with_reducible refine xif_kf (by with_reducible assumption) ?_); conv => whnf) | (((with_reducible refine xif_s ?_ ?_) <;> (intro hb; (try simp (disch := omega) only [hbS] at hb))) <;> (conv => whnf)))
      generalize madeM l = LA at *
      generalize madeM m = MA at *
      refine CallX_m km [] rfl trivial (by decide) (hp1.of0 rfl) ?_
      rintro ⟨⟨a1, a2⟩, ⟨ma, qa⟩, oka, aba⟩
      (conv => whnf); repeat' (first | (with_reducible exact rfl) | ((with_reducible refine xif_kt (by with_reducible assumption) ?_); conv => whnf) | ((with_reducible refine xif_kf (by with_reducible assumption) ?_); conv => whnf) | (((with_reducible refine xif_s ?_ ?_) <;> (intro hb; (try simp (disch := omega) only [hbS] at hb))) <;> (conv => whnf)))
      refine CallX_m km2 [] rfl trivial (by decide) (hp2.of0 rfl) ?_
      rintro ⟨⟨b1, b2⟩, ⟨mb, qb⟩, okb, abb⟩
      (conv => whnf); repeat' (first | (with_reducible exact rfl) | ((with_reducible refine xif_kt (by with_reducible assumption) ?_); conv => whnf) | ((with_reducible refine xif_kf (by with_reducible assumption) ?_); conv => whnf) | (((with_reducible refine xif_s ?_ ?_) <;> (intro hb; (try simp (disch := omega) only [hbS] at hb))) <;> (conv => whnf)))
      refine CallX_m km [] rfl trivial (by decide) (hp1.of0 rfl) ?_
      rintro ⟨⟨d1, d2⟩, ⟨mc, qc⟩, okc, abc⟩
      (conv => whnf); repeat' (first | (with_reducible exact rfl) | ((with_reducible refine xif_kt (by with_reducible assumption) ?_); conv => whnf) | ((with_reducible refine xif_kf (by with_reducible assumption) ?_); conv => whnf) | (((with_reducible refine xif_s ?_ ?_) <;> (intro hb; (try simp (disch := omega) only [hbS] at hb))) <;> (conv => whnf)))
      refine CallX_m km2 [] rfl trivial (by decide) (hp2.of0 rfl) ?_
      rintro ⟨⟨e1, e2⟩, ⟨md, qd⟩, okd, abd⟩
      dsimp only at oka okb okc okd
      (conv => whnf); repeat' (first | (with_reducible exact rfl) | ((with_reducible refine xif_kt (by with_reducible assumption) ?_); conv => whnf) | ((with_reducible refine xif_kf (by with_reducible assumption) ?_); conv => whnf) | (((with_reducible refine xif_s ?_ ?_) <;> (intro hb; (try simp (disch := omega) only [hbS] at hb))) <;> (conv => whnf)))
      refine CallX_m (Join_m a1 a2 b1 b2 ma mb qa qb oka okb (by rw [abb]; exact hgm)) [0, 1, 2, 3, 4, 5] rfl ⟨⟨rfl, rfl, by simp [SV.wf, SV.wfs]⟩, fun _ _ h => h, fun _ _ h => h, ⟨rfl, rfl, by simp [SV.wf, SV.wfs]⟩, fun _ _ h => h, fun _ _ h => h, trivial⟩ (by decide) (fun _ _ _ _ => trivial) ?_
      rintro ⟨⟨ma', qa'⟩, oka', aba'⟩
      dsimp only at oka'
      have aba' : absM (ma', qa') = joinA LA MA := aba'.trans (by rw [aba, abb])
      (conv => whnf); repeat' (first | (with_reducible exact rfl) | ((with_reducible refine xif_kt (by with_reducible assumption) ?_); conv => whnf) | ((with_reducible refine xif_kf (by with_reducible assumption) ?_); conv => whnf) | (((with_reducible refine xif_s ?_ ?_) <;> (intro hb; (try simp (disch := omega) only [hbS] at hb))) <;> (conv => whnf)))
      refine CallX_m (Join_m e1 e2 d1 d2 md mc qd qc okd okc (by rw [abc]; exact hgl)) [9, 10, 11, 6, 7, 8] rfl ⟨⟨rfl, rfl, by simp [SV.wf, SV.wfs]⟩, fun _ _ h => h, fun _ _ h => h, ⟨rfl, rfl, by simp [SV.wf, SV.wfs]⟩, fun _ _ h => h, fun _ _ h => h, trivial⟩ (by decide) (fun _ _ _ _ => trivial) ?_
      rintro ⟨⟨md', qd'⟩, okd', abd'⟩
      dsimp only at okd'
      have abd' : absM (md', qd') = joinA LA MA := abd'.trans (by rw [abd, abc, hcm])
      (conv => whnf); repeat' (first | (with_reducible exact rfl) | ((with_reducible refine xif_kt (by with_reducible assumption) ?_); conv => whnf) | ((with_reducible refine xif_kf (by with_reducible assumption) ?_); conv => whnf) | (((with_reducible refine xif_s ?_ ?_) <;> (intro hb; (try simp (disch := omega) only [hbS] at hb))) <;> (conv => whnf)))
      refine CallX_m km2 [] rfl trivial (by decide) (hp2.of0 rfl) ?_
      rintro ⟨⟨f1, f2⟩, ⟨mf, qf⟩, okf, abf⟩
      dsimp only at okf
      (conv => whnf); repeat' (first | (with_reducible exact rfl) | ((with_reducible refine xif_kt (by with_reducible assumption) ?_); conv => whnf) | ((with_reducible refine xif_kf (by with_reducible assumption) ?_); conv => whnf) | (((with_reducible refine xif_s ?_ ?_) <;> (intro hb; (try simp (disch := omega) only [hbS] at hb))) <;> (conv => whnf)))
      refine CallX_m (Same_m b1 b2 f1 f2 mb mf qb qf okb okf (by rw [abb, abf])) [3, 4, 5, 12, 13, 14] rfl ⟨⟨rfl, rfl, by simp [SV.wf, SV.wfs]⟩, fun _ _ h => h, fun _ _ h => h, ⟨rfl, rfl, by simp [SV.wf, SV.wfs]⟩, fun _ _ h => h, fun _ _ h => h, trivial⟩ (by decide) (fun _ _ _ _ => trivial) ?_
      intro u1
      (conv => whnf); repeat' (first | (with_reducible exact rfl) | ((with_reducible refine xif_kt (by with_reducible assumption) ?_); conv => whnf) | ((with_reducible refine xif_kf (by with_reducible assumption) ?_); conv => whnf) | (((with_reducible refine xif_s ?_ ?_) <;> (intro hb; (try simp (disch := omega) only [hbS] at hb))) <;> (conv => whnf)))
      refine CallX_m kr [] rfl trivial (by decide) (hp1.of0 rfl) ?_
      rintro ⟨x1, r1, hr1, hb1⟩
      (conv => whnf); repeat' (first | (with_reducible exact rfl) | ((with_reducible refine xif_kt (by with_reducible assumption) ?_); conv => whnf) | ((with_reducible refine xif_kf (by with_reducible assumption) ?_); conv => whnf) | (((with_reducible refine xif_s ?_ ?_) <;> (intro hb; (try simp (disch := omega) only [hbS] at hb))) <;> (conv => whnf)))
      refine CallX_m kr2 [] rfl trivial (by decide) (hp2.of0 rfl) ?_
      rintro ⟨x2, r2, hr2, hb2⟩
      (conv => whnf); repeat' (first | (with_reducible exact rfl) | ((with_reducible refine xif_kt (by with_reducible assumption) ?_); conv => whnf) | ((with_reducible refine xif_kf (by with_reducible assumption) ?_); conv => whnf) | (((with_reducible refine xif_s ?_ ?_) <;> (intro hb; (try simp (disch := omega) only [hbS] at hb))) <;> (conv => whnf)))
      refine CallX_m (rJoin_m x1 x2 r1 r2 hr1 hr2 (by rw [hb2]; exact hgm)) [15, 16] rfl ⟨fun _ _ h => h, fun _ _ h => h, trivial⟩ (by decide) (fun _ _ _ _ => trivial) ?_
      rintro ⟨r1', hr1', hb1'⟩
      have hb1' : absR r1' = joinA LA MA := hb1'.trans (by rw [hb1, hb2])
      have ks1 := same17_m a1 a2 x1 ma' qa' r1' oka' hr1' (by rw [aba', hb1'])
      have ks2 := same17_m e1 e2 x1 md' qd' r1' okd' hr1' (by rw [abd', hb1'])
      (conv => whnf); repeat' (first | (with_reducible exact rfl) | ((with_reducible refine xif_kt (by with_reducible assumption) ?_); conv => whnf) | ((with_reducible refine xif_kf (by with_reducible assumption) ?_); conv => whnf) | (((with_reducible refine xif_s ?_ ?_) <;> (intro hb; (try simp (disch := omega) only [hbS] at hb))) <;> (conv => whnf)))
      refine CallX_m ks1 [0, 1, 2, 15] rfl ⟨⟨rfl, rfl, by simp [SV.wf, SV.wfs]⟩, fun _ _ h => h, fun _ _ h => h, fun _ _ h => h, trivial⟩ (by decide) (fun _ _ _ _ => trivial) ?_
      intro u2
      (conv => whnf); repeat' (first | (with_reducible exact rfl) | ((with_reducible refine xif_kt (by with_reducible assumption) ?_); conv => whnf) | ((with_reducible refine xif_kf (by with_reducible assumption) ?_); conv => whnf) | (((with_reducible refine xif_s ?_ ?_) <;> (intro hb; (try simp (disch := omega) only [hbS] at hb))) <;> (conv => whnf)))
      refine CallX_m ks2 [9, 10, 11, 15] rfl ⟨⟨rfl, rfl, by simp [SV.wf, SV.wfs]⟩, fun _ _ h => h, fun _ _ h => h, fun _ _ h => h, trivial⟩ (by decide) (fun _ _ _ _ => trivial) ?_
      intro u3
      (conv => whnf); repeat' (first | (with_reducible exact rfl) | ((with_reducible refine xif_kt (by with_reducible assumption) ?_); conv => whnf) | ((with_reducible refine xif_kf (by with_reducible assumption) ?_); conv => whnf) | (((with_reducible refine xif_s ?_ ?_) <;> (intro hb; (try simp (disch := omega) only [hbS] at hb))) <;> (conv => whnf)))
      refine CallX_m (Join_m a1 a2 b1 b2 ma' mb qa' qb oka' okb (by rw [abb]; exact hgm)) [0, 1, 2, 3, 4, 5] rfl ⟨⟨rfl, rfl, by simp [SV.wf, SV.wfs]⟩, fun _ _ h => h, fun _ _ h => h, ⟨rfl, rfl, by simp [SV.wf, SV.wfs]⟩, fun _ _ h => h, fun _ _ h => h, trivial⟩ (by decide) (fun _ _ _ _ => trivial) ?_
      rintro ⟨⟨ma2, qa2⟩, oka2, aba2⟩
      dsimp only at oka2
      have aba2 : absM (ma2, qa2) = joinA LA MA := aba2.trans (by rw [aba', abb, hag])
      (conv => whnf); repeat' (first | (with_reducible exact rfl) | ((with_reducible refine xif_kt (by with_reducible assumption) ?_); conv => whnf) | ((with_reducible refine xif_kf (by with_reducible assumption) ?_); conv => whnf) | (((with_reducible refine xif_s ?_ ?_) <;> (intro hb; (try simp (disch := omega) only [hbS] at hb))) <;> (conv => whnf)))
      refine CallX_m (JoinSelf_m a1 a2 ma2 qa2 oka2 (by rw [aba2]; exact hgj)) [0, 1, 2] rfl ⟨⟨rfl, rfl, by simp [SV.wf, SV.wfs]⟩, fun _ _ h => h, fun _ _ h => h, trivial⟩ (by decide) (fun _ _ _ _ => trivial) ?_
      rintro ⟨qa3, hq3⟩
      have aba3 : absM (ma2, qa3) = joinA LA MA := by
        rw [← aba2]
        unfold absM
        dsimp only
        rw [hq3]
      have ks3 := same17_m a1 a2 x1 ma2 qa3 r1' oka2 hr1' (by rw [aba3, hb1'])
      (conv => whnf); repeat' (first | (with_reducible exact rfl) | ((with_reducible refine xif_kt (by with_reducible assumption) ?_); conv => whnf) | ((with_reducible refine xif_kf (by with_reducible assumption) ?_); conv => whnf) | (((with_reducible refine xif_s ?_ ?_) <;> (intro hb; (try simp (disch := omega) only [hbS] at hb))) <;> (conv => whnf)))
      refine CallX_m ks3 [0, 1, 2, 15] rfl ⟨⟨rfl, rfl, by simp [SV.wf, SV.wfs]⟩, fun _ _ h => h, fun _ _ h => h, fun _ _ h => h, trivial⟩ (by decide) (fun _ _ _ _ => trivial) ?_
      intro u4
      (conv => whnf); repeat' (first | (with_reducible exact rfl) | ((with_reducible refine xif_kt (by with_reducible assumption) ?_); conv => whnf) | ((with_reducible refine xif_kf (by with_reducible assumption) ?_); conv => whnf) | (((with_reducible refine xif_s ?_ ?_) <;> (intro hb; (try simp (disch := omega) only [hbS] at hb))) <;> (conv => whnf)))
      refine CallX_m (Same_m a1 a2 e1 e2 ma2 md' qa3 qd' oka2 okd' (by rw [aba3, abd'])) [0, 1, 2, 9, 10, 11] rfl ⟨⟨rfl, rfl, by simp [SV.wf, SV.wfs]⟩, fun _ _ h => h, fun _ _ h => h, ⟨rfl, rfl, by simp [SV.wf, SV.wfs]⟩, fun _ _ h => h, fun _ _ h => h, trivial⟩ (by decide) (fun _ _ _ _ => trivial) ?_
      intro u5
      obtain ⟨rr, hrr⟩ : ∃ rr : Bool, rr = true ↔ joinA LA MA = LA := ⟨@decide (joinA LA MA = LA) (Classical.propDecidable _), by simp⟩
      (conv => whnf); repeat' (first | (with_reducible exact rfl) | ((with_reducible refine xif_kt (by with_reducible assumption) ?_); conv => whnf) | ((with_reducible refine xif_kf (by with_reducible assumption) ?_); conv => whnf) | (((with_reducible refine xif_s ?_ ?_) <;> (intro hb; (try simp (disch := omega) only [hbS] at hb))) <;> (conv => whnf)))
      refine CallX_m (SameG_m a1 a2 d1 d2 ma2 mc qa3 qc oka2 okc (by rw [aba3]; exact hgj) (by rw [abc]; exact hgl) rr (by rw [hrr, aba3, abc])) [0, 1, 2, 6, 7, 8] rfl ⟨⟨rfl, rfl, by simp [SV.wf, SV.wfs]⟩, fun _ _ h => h, fun _ _ h => h, ⟨rfl, rfl, by simp [SV.wf, SV.wfs]⟩, fun _ _ h => h, fun _ _ h => h, trivial⟩ (by decide) (fun _ _ _ _ => trivial) ?_
      intro u6
      (conv => whnf); repeat' (first | (with_reducible exact rfl) | ((with_reducible refine xif_kt (by with_reducible assumption) ?_); conv => whnf) | ((with_reducible refine xif_kf (by with_reducible assumption) ?_); conv => whnf) | (((with_reducible refine xif_s ?_ ?_) <;> (intro hb; (try simp (disch := omega) only [hbS] at hb))) <;> (conv => whnf)))
      refine CallX_m kr [] rfl trivial (by decide) (hp1.of0 rfl) ?_
      rintro ⟨x3, r3, hr3, hb3⟩
      (conv => whnf); repeat' (first | (with_reducible exact rfl) | ((with_reducible refine xif_kt (by with_reducible assumption) ?_); conv => whnf) | ((with_reducible refine xif_kf (by with_reducible assumption) ?_); conv => whnf) | (((with_reducible refine xif_s ?_ ?_) <;> (intro hb; (try simp (disch := omega) only [hbS] at hb))) <;> (conv => whnf)))
      refine CallX_m (rSame_m x1 x3 r1' r3 hr1' hr3 rr (by rw [hrr, hb1', hb3])) [15, 17] rfl ⟨fun _ _ h => h, fun _ _ h => h, trivial⟩ (by decide) (fun _ _ _ _ => trivial) ?_
      intro u7
      (conv => whnf); repeat' (first | (with_reducible exact rfl) | ((with_reducible refine xif_kt (by with_reducible assumption) ?_); conv => whnf) | ((with_reducible refine xif_kf (by with_reducible assumption) ?_); conv => whnf) | (((with_reducible refine xif_s ?_ ?_) <;> (intro hb; (try simp (disch := omega) only [hbS] at hb))) <;> (conv => whnf)))
      refine Fin_pure rfl (B_eq ?_) trivial
      simp
/-- the same, over arguments as they are opened -/
theorem joins_walk (A0 : Option Addr) (n0 c0 : Nat) (l0 : List AOp) (A1 : Option Addr) (n1 c1 : Nat) (l1 : List AOp) (w : World) (h0 : l0.length = n0) (o0 : opsW w A0 n0 l0) (g0 : n0 ≤ c0) (k0 : c0 ≤ maxLen) (h1 : l1.length = n1) (o1 : opsW w A1 n1 l1) (g1 : n1 ≤ c1) (k1 : c1 ≤ maxLen) :
    Calls Tryz.prog 5 #[.slice A0 n0 c0, .slice A1 n1 c1] w fun e w' => e = .returned (.bool true) ∧ Below w.heap.size w w' :=
  (joins_x A0 c0 l0 h0 (by omega) A1 c1 l1 h1 (by omega)).2.2 (fun _ => 0) w ⟨o0, o1⟩
end Go.Proofs.YtodaijlclbngbaaGreat.En
