/- The walk of AtlasMaps. -/
import Derived.Test.YtodaijlclbngbaaGreatQd
import Derived.Test.YtodaijlclbngbaaGreatLwAo
import Derived.Test.YtodaijlclbngbaaGreatOi
set_option linter.all false
namespace Go.Proofs.YtodaijlclbngbaaGreat.En
open Go.RowKit
set_option maxRecDepth 100000

set_option maxHeartbeats 8000000 in
theorem maps_x (A : Option Addr) (c : Nat) (l : List AOp) {n : Nat} (hl : l.length = n) (hn : n ≤ maxLen) (k : Int) :
    CallW Tryz.prog 4 [.v (.slice A n c), I k] (fun w => opsW w A n l) (B true) := by
  have hn' := hn
  unfold maxLen at hn'
  have kf := few_w A c l hl hn
  have km := made_m A c l hl hn
  have kr := model_m A c l hl hn
  rcases Bool.eq_false_or_eq_true (fewB l) with hf | hf
  rotate_left
  · rw [hf] at kf
    refine CallW.of Tryz.func4 rfl tabOk rfl rfl rfl (by simp [SV.wfs, SV.wf]) (by simp [SV.wfs, SV.wf]) fun w hpre => ?_
    (conv => whnf); repeat' (first | ((with_reducible refine isC ?_); first | ((with_reducible refine CallX_pure (awake17_x) ?_) <;> first | omega | (with_reducible show (_ : Int) ≤ _) | (with_reducible show (_ : Int) < _) | (with_reducible show (_ : Nat) ≤ _) | (with_reducible show (_ : Nat) < _) | (conv => whnf)) | ((with_reducible refine isF 9 ?_); (with_reducible refine CallX_w (kf) ?_ ?_); (focus (exact hpre.few rfl)); conv => whnf)) | (with_reducible exact rfl) | ((with_reducible refine xif_kt (by with_reducible assumption) ?_); conv => whnf) | ((with_reducible refine xif_kf (by with_reducible assumption) ?_); conv => whnf) | (((with_reducible refine xif_s ?_ ?_) <;> (intro hb; (try simp (disch := omega) only [hbS] at hb))) <;> (conv => whnf)))
    exact Fin_pure rfl rfl trivial
  · rw [hf] at kf
    refine CallW.of Tryz.func4 rfl tabOk rfl rfl rfl (by simp [SV.wfs, SV.wf]) (by simp [SV.wfs, SV.wf]) fun w hpre => ?_
    (conv => whnf); repeat' (first | ((with_reducible refine isC ?_); first | ((with_reducible refine CallX_pure (awake17_x) ?_) <;> first | omega | (with_reducible show (_ : Int) ≤ _) | (with_reducible show (_ : Int) < _) | (with_reducible show (_ : Nat) ≤ _) | (with_reducible show (_ : Nat) < _) | (conv => whnf)) | ((with_reducible refine isF 9 ?_); (with_reducible refine CallX_w (kf) ?_ ?_); (focus (exact hpre.few rfl)); conv => whnf)) | (with_reducible exact rfl) | ((with_reducible refine xif_kt (by with_reducible assumption) ?_); conv => whnf) | ((with_reducible refine xif_kf (by with_reducible assumption) ?_); conv => whnf) | (((with_reducible refine xif_s ?_ ?_) <;> (intro hb; (try simp (disch := omega) only [hbS] at hb))) <;> (conv => whnf)))
    refine CallX_m km [] rfl trivial (by decide) (hpre.of0 rfl) ?_
    rintro ⟨⟨a1, a2⟩, ⟨m, q⟩, hok, hab⟩
    (conv => whnf); repeat' (first | (with_reducible exact rfl) | ((with_reducible refine xif_kt (by with_reducible assumption) ?_); conv => whnf) | ((with_reducible refine xif_kf (by with_reducible assumption) ?_); conv => whnf) | (((with_reducible refine xif_s ?_ ?_) <;> (intro hb; (try simp (disch := omega) only [hbS] at hb))) <;> (conv => whnf)))
    refine CallX_m kr [] rfl trivial (by decide) (hpre.of0 rfl) ?_
    rintro ⟨b, r, hr, hbr⟩
    have heq : absR r = absM (m, q) := by rw [hab, hbr]
    have kmap := Map_m a1 a2 m q hok (idsF (hasM m q) 64) rfl
    have kpart := Part_m a1 a2 m q k hok
    have rmap := rMap_m b r hr
    have rpart := rPart_m b r k hr
    have l1 := map_len (absM (m, q)) (idsF (hasM m q) 64)
    have l2 := part_len (absM (m, q)) k
    rw [mapT_all, heq, show hasA (absM (m, q)) = hasM m q from (has_sem m q).symm] at rmap
    rw [heq] at rpart
    generalize mapF (absM (m, q)) (idsF (hasM m q) 64) = mp at *
    generalize partA (absM (m, q)) k = pt at *
    (conv => whnf); repeat' (first | ((with_reducible refine isC ?_); first | ((with_reducible refine isF 18 ?_); ((refine CallX_m kpart [0, 1, 2] rfl ⟨⟨rfl, rfl, by simp [SV.wf, SV.wfs]⟩, fun _ _ h => h, fun _ _ h => h, trivial⟩ (by decide) (fun _ _ _ _ => trivial) ?_; intro r1; obtain ⟨A1, c1⟩ := r1)); conv => whnf) | ((with_reducible refine isF 19 ?_); ((refine CallX_m rpart [3] rfl ⟨fun _ _ h => h, trivial⟩ (by decide) (fun _ _ _ _ => trivial) ?_; intro r2; obtain ⟨A2, c2⟩ := r2)); conv => whnf)) | (with_reducible exact rfl) | ((with_reducible refine xif_kt (by with_reducible assumption) ?_); conv => whnf) | ((with_reducible refine xif_kf (by with_reducible assumption) ?_); conv => whnf) | (((with_reducible refine xif_s ?_ ?_) <;> (intro hb; (try simp (disch := omega) only [hbS] at hb))) <;> (conv => whnf)))
    refine CallX_w (Entries_t A1 A2 c1 c2 pt pt rfl rfl rfl (by omega) (by omega)) (fun σ fp w hm => ⟨ArgSl.row 4 rfl σ fp w hm, ArgSl.row 5 rfl σ fp w hm⟩) ?_
    (conv => whnf); repeat' (first | ((with_reducible refine isC ?_); first | ((with_reducible refine isF 20 ?_); ((refine CallX_m kmap [0, 1, 2] rfl ⟨⟨rfl, rfl, by simp [SV.wf, SV.wfs]⟩, fun _ _ h => h, fun _ _ h => h, trivial⟩ (by decide) (fun _ _ _ _ => trivial) ?_; intro r3; obtain ⟨A3, c3⟩ := r3)); conv => whnf) | ((with_reducible refine isF 21 ?_); ((refine CallX_m rmap [3] rfl ⟨fun _ _ h => h, trivial⟩ (by decide) (fun _ _ _ _ => trivial) ?_; intro r4; obtain ⟨A4, c4⟩ := r4)); conv => whnf) | ((with_reducible refine isF 17 ?_); ((refine CallX_w (Entries_t A3 A4 c3 c4 mp mp rfl rfl rfl (by omega) (by omega)) (fun σ fp w hm => ⟨ArgSl.row 6 rfl σ fp w hm, ArgSl.row 7 rfl σ fp w hm⟩) ?_)); conv => whnf)) | (with_reducible exact rfl) | ((with_reducible refine xif_kt (by with_reducible assumption) ?_); conv => whnf) | ((with_reducible refine xif_kf (by with_reducible assumption) ?_); conv => whnf) | (((with_reducible refine xif_s ?_ ?_) <;> (intro hb; (try simp (disch := omega) only [hbS] at hb))) <;> (conv => whnf)))
    all_goals try (exfalso; omega)
    exact Fin_pure rfl rfl trivial
/-- the same, over arguments as they are opened -/
theorem maps_walk (A0 : Option Addr) (n0 c0 : Nat) (l0 : List AOp) (k : Int) (w : World) (h0 : l0.length = n0) (o0 : opsW w A0 n0 l0) (g0 : n0 ≤ c0) (k0 : c0 ≤ maxLen) :
    Calls Tryz.prog 4 #[.slice A0 n0 c0, .int .i64 k] w fun e w' => e = .returned (.bool true) ∧ Below w.heap.size w w' :=
  (maps_x A0 c0 l0 h0 (by omega) k).2.2 (fun _ => 0) w o0
end Go.Proofs.YtodaijlclbngbaaGreat.En
