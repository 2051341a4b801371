/- The reference's evidence of a scan, in plain Lean: looking at all cells around each beam gives the list that evidence.Of gives -/
import Derived.Test.YtodaijlclbngbaaGreatMg
import Derived.Test.YtodaijlclbngbaaGreatPu
import Derived.Test.YtodaijlclbngbaaGreatRm
set_option linter.all false
namespace Go.Proofs.YtodaijlclbngbaaGreat.En
open Go.RowKit
set_option maxRecDepth 100000

theorem putR_el (e : EntT) : ∀ {l : List EntT} {y : EntT}, y ∈ (putR e l).1 → y ∈ l ∨ y = e ∨ ∃ x ∈ l, y = plusE x e ∧ zeroE y = false
  | [], y, h => by
    rw [putR, List.mem_singleton] at h
    exact .inr (.inl h)
  | x :: xs, y, h => by
    rw [putR] at h
    split at h
    · split at h
      · exact .inl (List.mem_cons_of_mem _ h)
      · rename_i hz
        rcases List.mem_cons.1 h with rfl | h
        · exact .inr (.inr ⟨x, List.mem_cons_self .., rfl, by simpa using hz⟩)
        · exact .inl (List.mem_cons_of_mem _ h)
    · split at h
      · rcases List.mem_cons.1 h with rfl | h
        · exact .inr (.inl rfl)
        · exact .inl h
      · rcases List.mem_cons.1 h with rfl | h
        · exact .inl (List.mem_cons_self ..)
        · rcases putR_el e h with h | h | ⟨z, hz, h⟩
          · exact .inl (List.mem_cons_of_mem _ h)
          · exact .inr (.inl h)
          · exact .inr (.inr ⟨z, List.mem_cons_of_mem _ hz, h⟩)
theorem putR_length (e : EntT) : ∀ l : List EntT, (putR e l).1.length ≤ l.length + 1
  | [] => by simp [putR]
  | x :: xs => by
    have := putR_length e xs
    rw [putR]
    split
    · split <;> simp only [List.length_cons] <;> omega
    · split
      · simp only [List.length_cons]; omega
      · simp only [List.length_cons]
        omega
def mB (a : PoseT) (b : BeamT) (c : CellT) : Bool := rMeetF (a.1, a.2.1) (beamF a.2.2 b.1) 0 (reachB b) (sqR c)
def eB (a : PoseT) (b : BeamT) (c : CellT) : Bool := !decide (b.2 = -1) && rMeetF (a.1, a.2.1) (beamF a.2.2 b.1) b.2 b.2 (sqR c)
def entG (a : PoseT) (b : BeamT) (c : CellT) : EntT := if eB a b c then (c.1, c.2, 1, 0) else (c.1, c.2, 0, 1)
def stepG (a : PoseT) (b : BeamT) (out : List EntT) (c : CellT) : List EntT := if mB a b c then (putE out (entG a b c)).1 else out
def kB (b : BeamT) : Int := reachB b / 64 + 2
def gridC (a : PoseT) (b : BeamT) : List CellT := outK allC (a.1 / 64 - kB b) (a.2.1 / 64 - kB b) (2 * kB b + 1).toNat (2 * kB b + 1).toNat
def beamG (a : PoseT) (out : List EntT) (b : BeamT) : List EntT := (gridC a b).foldl (stepG a b) out
def ofG (a : PoseT) (s : List BeamT) : List EntT := s.foldl (beamG a) []
/-- small counters, not too long -/
def okG (m : Nat) (out : List EntT) : Prop := out.length ≤ m ∧ ∀ e ∈ out, (0 ≤ e.2.2.1 ∧ e.2.2.1 ≤ m) ∧ 0 ≤ e.2.2.2 ∧ e.2.2.2 ≤ m
theorem okG.le {m k : Nat} {out : List EntT} (h : okG m out) (hk : m ≤ k) : okG k out := ⟨Nat.le_trans h.1 hk, fun e he => by have := h.2 e he; omega⟩
theorem entG_bd (a : PoseT) (b : BeamT) (c : CellT) : (entG a b c).cell = c ∧ zeroE (entG a b c) = false ∧ ((0 ≤ (entG a b c).2.2.1 ∧ (entG a b c).2.2.1 ≤ 1) ∧ 0 ≤ (entG a b c).2.2.2 ∧ (entG a b c).2.2.2 ≤ 1) := by
  unfold entG
  split <;> exact ⟨rfl, by simp [zeroE], by dsimp only; omega⟩
theorem stepG_ok {a : PoseT} {b : BeamT} {m : Nat} {out : List EntT} (c : CellT) (h : okG m out) : okG (m + 1) (stepG a b out c) := by
  unfold stepG
  split
  · rw [putE_R]
    refine ⟨Nat.le_trans (putR_length _ _) (by have := h.1; omega), fun y hy => ?_⟩
    have hb := (entG_bd a b c).2.2
    rcases putR_el _ hy with hy | rfl | ⟨x, hx, rfl, -⟩
    · have := h.2 y hy
      omega
    · omega
    · have := h.2 x hx
      unfold plusE
      dsimp only
      omega
  · exact h.le (Nat.le_succ _)
theorem foldG_ok {a : PoseT} {b : BeamT} : ∀ (l : List CellT) {m : Nat} {out : List EntT}, okG m out → okG (m + l.length) (l.foldl (stepG a b) out)
  | [], _, _, h => h
  | c :: l, m, out, h => by
    rw [List.foldl_cons, List.length_cons, show m + (l.length + 1) = m + 1 + l.length by omega]
    exact foldG_ok l (stepG_ok c h)
def gC (a : PoseT) (b : BeamT) (c : CellT) : Int × Int := if mB a b c then (if eB a b c then (1, 0) else (0, 1)) else (0, 0)
theorem entG_gC {a : PoseT} {b : BeamT} {c : CellT} (h : mB a b c = true) : gC a b c = ((entG a b c).2.2.1, (entG a b c).2.2.2) := by
  unfold gC entG
  rw [if_pos h]
  split <;> rfl
/-- in order, and without zeros -/
def azG (out : List EntT) : Prop := asc out ∧ ∀ e ∈ out, zeroE e = false
theorem stepG_az {a : PoseT} {b : BeamT} {out : List EntT} (c : CellT) (h : azG out) : azG (stepG a b out c) := by
  unfold stepG
  split
  · rw [putE_R]
    refine ⟨putR_asc _ h.1, fun y hy => ?_⟩
    rcases putR_el _ hy with hy | rfl | ⟨x, hx, -, hz⟩
    · exact h.2 y hy
    · exact (entG_bd a b c).2.1
    · exact hz
  · exact h
theorem stepG_val {a : PoseT} {b : BeamT} {out : List EntT} (c d : CellT) (h : azG out) : valT (stepG a b out c) d = ((valT out d).1 + (if d = c then (gC a b c).1 else 0), (valT out d).2 + (if d = c then (gC a b c).2 else 0)) := by
  unfold stepG
  split
  · rename_i hm
    rw [putE_R, putR_val _ _ h.1, (entG_bd a b c).1, entG_gC hm]
    split <;> simp
  · rename_i hm
    have : gC a b c = (0, 0) := by unfold gC; rw [if_neg hm]
    rw [this]
    simp
theorem foldG_val {a : PoseT} {b : BeamT} (d : CellT) : ∀ (l : List CellT) {out : List EntT}, l.Nodup → azG out → azG (l.foldl (stepG a b) out) ∧ valT (l.foldl (stepG a b) out) d = ((valT out d).1 + (if d ∈ l then (gC a b d).1 else 0), (valT out d).2 + (if d ∈ l then (gC a b d).2 else 0))
  | [], out, _, h => by simp [h]
  | c :: l, out, hn, h => by
    rw [List.nodup_cons] at hn
    obtain ⟨i1, i2⟩ := foldG_val d l hn.2 (stepG_az (a := a) (b := b) c h)
    rw [List.foldl_cons]
    refine ⟨i1, ?_⟩
    rw [i2, stepG_val c d h]
    by_cases hd : d = c
    · subst hd
      simp [hn.1]
    · simp [hd]
/-! ### the grid holds what a beam meets -/
theorem inR_sq {p : PtT} {v : VecT} {c : CellT} {t : Int × Int} : inR p v (sqR c) t ↔ inC p v c t := by
  unfold inR inC sqR inD
  exact Iff.rfl
theorem mB_met {a : PoseT} {b : BeamT} (hp : ptB (a.1, a.2.1)) (hb : -1 ≤ b.2 ∧ b.2 ≤ 1024) (c : CellT) : mB a b c = true ↔ c ∈ metL (a.1, a.2.1) (beamF a.2.2 b.1) b := by
  unfold mB
  rw [rMeetF_iff (beam_vec _ _) (reachB_bd hb).1, mem_met hp (beam_vec _ _) hb]
  simp only [inR_sq]
theorem eB_ends {a : PoseT} {b : BeamT} (hp : ptB (a.1, a.2.1)) (hb : -1 ≤ b.2 ∧ b.2 ≤ 1024) (c : CellT) : eB a b c = true ↔ c ∈ endsL (a.1, a.2.1) (beamF a.2.2 b.1) b := by
  unfold eB
  rw [Bool.and_eq_true, rMeetF_iff (beam_vec _ _) (Int.le_refl _), mem_ends hp (beam_vec _ _) hb]
  simp only [inR_sq, Bool.not_eq_true', decide_eq_false_iff_not]
  refine and_congr_left fun _ => ?_
  omega
theorem gC_cont {a : PoseT} {b : BeamT} (hp : ptB (a.1, a.2.1)) (hb : -1 ≤ b.2 ∧ b.2 ≤ 1024) (c : CellT) : gC a b c = contB a b c := by
  have h1 := mB_met hp hb c
  have h2 := eB_ends hp hb c
  have h3 := count_of (met_nodup (a.1, a.2.1) (beamF a.2.2 b.1) b) c
  have h4 := fun h => ends_met (c := c) hp (beam_vec a.2.2 b.1) hb h
  unfold gC contB contE
  by_cases q2 : c ∈ endsL (a.1, a.2.1) (beamF a.2.2 b.1) b
  · rw [if_pos q2, if_pos (h1.2 (h4 q2)), if_pos (h2.2 q2), h3, if_pos (h4 q2)]
    rfl
  · rw [if_neg q2, if_neg (show ¬ eB a b c = true from fun h => q2 (h2.1 h)), h3]
    by_cases q1 : c ∈ metL (a.1, a.2.1) (beamF a.2.2 b.1) b
    · rw [if_pos (h1.2 q1), if_pos q1]
      rfl
    · rw [if_neg (fun h => q1 (h1.1 h)), if_neg q1]
      rfl
theorem grid_axis {x a D far n e k : Int} (hD : 1 ≤ D) (ha : -D ≤ a ∧ a ≤ D) (he : 0 < e) (hn : 0 ≤ n) (h2 : n * D ≤ far * e)
    (g1 : k * 64 * e ≤ x * e + n * a) (g2 : x * e + n * a ≤ (k * 64 + 64) * e) : k * 64 ≤ x + far ∧ x - far ≤ k * 64 + 64 := by
  have e1 : n * a ≤ n * D := Int.mul_le_mul_of_nonneg_left ha.2 hn
  have e2 : n * (-D) ≤ n * a := Int.mul_le_mul_of_nonneg_left ha.1 hn
  rw [Int.mul_neg] at e2
  constructor
  · rw [← mul_pos_le he, Int.add_mul]
    omega
  · rw [← mul_pos_le he, Int.sub_mul]
    omega
theorem met_grid {a : PoseT} {b : BeamT} (hp : ptB (a.1, a.2.1)) (hb : -1 ≤ b.2 ∧ b.2 ≤ 1024) {c : CellT} (h : c ∈ metL (a.1, a.2.1) (beamF a.2.2 b.1) b) : c ∈ gridC a b := by
  obtain ⟨t, a1, a2, a3, a4, a5⟩ := (mem_met hp (beam_vec _ _) hb).1 h
  have hv := beam_vec a.2.2 b.1
  have hv' := hv
  simp only [vecB, Bool.and_eq_true, vecIn_iff] at hv'
  obtain ⟨⟨v1, v2, v3, v4, v5, v6⟩, -⟩ := hv'
  obtain ⟨x1, x2⟩ := grid_axis v1 ⟨v3, v4⟩ a1 a2 a5 a3.1.1 a3.1.2
  obtain ⟨y1, y2⟩ := grid_axis v1 ⟨v5, v6⟩ a1 a2 a5 a3.2.1 a3.2.2
  have hr := reachB_bd hb
  unfold gridC
  rw [mem_outK]
  unfold kB
  dsimp only at *
  refine ⟨rfl, ?_, ?_⟩ <;> omega
theorem beamG_val {a : PoseT} {b : BeamT} (hp : ptB (a.1, a.2.1)) (hb : -1 ≤ b.2 ∧ b.2 ≤ 1024) (d : CellT) {out : List EntT} (h : azG out) :
    azG (beamG a out b) ∧ valT (beamG a out b) d = ((valT out d).1 + (contB a b d).1, (valT out d).2 + (contB a b d).2) := by
  obtain ⟨i1, i2⟩ := foldG_val (a := a) (b := b) d (gridC a b) (outK_nodup _ _ _ _ _) h
  refine ⟨i1, ?_⟩
  unfold beamG
  rw [i2, gC_cont hp hb]
  by_cases hd : d ∈ gridC a b
  · rw [if_pos hd, if_pos hd]
  · rw [if_neg hd, if_neg hd]
    have : contB a b d = (0, 0) := Classical.byContradiction fun hc => hd (met_grid hp hb (contB_met hc))
    rw [this]
theorem ofG_val {a : PoseT} (hp : ptB (a.1, a.2.1)) (d : CellT) : ∀ (s : List BeamT) {out : List EntT}, (∀ b ∈ s, -1 ≤ b.2 ∧ b.2 ≤ 1024) → azG out →
    azG (s.foldl (beamG a) out) ∧ valT (s.foldl (beamG a) out) d = ((valT out d).1 + (contS a s d).1, (valT out d).2 + (contS a s d).2)
  | [], out, _, h => by simp [h, contS]
  | b :: s, out, hb, h => by
    obtain ⟨i1, i2⟩ := beamG_val hp (hb b (List.mem_cons_self ..)) d h
    obtain ⟨j1, j2⟩ := ofG_val hp d s (fun x hx => hb x (List.mem_cons_of_mem _ hx)) i1
    rw [List.foldl_cons]
    refine ⟨j1, ?_⟩
    rw [j2, i2]
    unfold contS
    simp only [List.map_cons, List.sum_cons, Int.add_assoc]
theorem ofG_eq {a : PoseT} {s : List BeamT} (h : ofOk a s = true) : ofG a s = (ofE a s).1 := by
  have hp : ptB (a.1, a.2.1) := by
    obtain ⟨h1, h2, -⟩ := ofOk_bd h
    have := szB_bd h1
    have := szB_bd h2
    unfold ptB
    dsimp only
    omega
  have hb : ∀ b ∈ s, -1 ≤ b.2 ∧ b.2 ≤ 1024 := fun b hb => by
    have := scan_mem (ofOk_bd h).2.2 hb
    omega
  have haz := fun d => ofG_val hp d s (out := []) hb ⟨by simp [asc], by simp⟩
  refine Rep.unique (rep_asc (haz (0, 0)).1.1 (haz (0, 0)).1.2) (ofE_rep h).1 fun d => ?_
  have := (haz d).2
  have e0 : valT [] d = (0, 0) := valT_none (by simp)
  rw [e0] at this
  simpa [ofG] using this
end Go.Proofs.YtodaijlclbngbaaGreat.En
