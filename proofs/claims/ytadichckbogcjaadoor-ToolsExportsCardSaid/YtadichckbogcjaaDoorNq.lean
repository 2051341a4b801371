/- Reading exported lines (plain). -/
import Derived.Test.YtadichckbogcjaaDoorNp
import Derived.Test.YtadichckbogcjaaDoorNl
set_option linter.all false
namespace Go.Proofs.YtadichckbogcjaaDoor.En
open Go.RowKit
set_option maxRecDepth 100000

theorem index_at (c : UInt8) : ∀ (a r : List UInt8), c ∉ a → Lib.index (a ++ c :: r) [c] = (a.length : Int)
  | [], r, _ => by simp [Lib.index, List.isPrefixOf]
  | x :: a, r, h => by
    simp only [List.mem_cons, not_or] at h
    have ih := index_at c a r h.2
    have hx : (c == x) = false := by simpa using h.1
    rw [List.cons_append, Lib.index]
    simp only [List.isPrefixOf, hx, Bool.false_and, Bool.false_eq_true, if_false, ih, List.length_cons]
    rw [if_neg (by intro h; have := beq_iff_eq.1 h; omega)]
    omega
theorem index_no (c : UInt8) : ∀ (a : List UInt8), c ∉ a → Lib.index a [c] = -1
  | [], _ => by simp [Lib.index]
  | x :: a, h => by
    simp only [List.mem_cons, not_or] at h
    have ih := index_no c a h.2
    have hx : (c == x) = false := by simpa using h.1
    rw [Lib.index]
    simp only [List.isPrefixOf, hx, Bool.false_and, Bool.false_eq_true, if_false, ih]
    simp
theorem cut_at (c : UInt8) (a r : List UInt8) (h : c ∉ a) : Lib.cut (a ++ c :: r) [c] = (a, r, true) := by
  unfold Lib.cut
  rw [index_at c a r h, if_pos (by omega)]
  simp [List.drop_append]
theorem cut_short (s : List UInt8) (c : UInt8) (h : (Lib.cut s [c]).2.2 = true) : (Lib.cut s [c]).2.1.length < s.length := by
  unfold Lib.cut at *
  split at h
  · rename_i h0
    have := Lib.index_room s [c] h0
    rw [if_pos h0]
    simp at this ⊢
    omega
  · cases h
theorem cut_le (s : List UInt8) (c : UInt8) : (Lib.cut s [c]).1.length ≤ s.length := by
  unfold Lib.cut
  split
  · simp
    omega
  · exact Nat.le_refl _
theorem words_no (c : UInt8) (a : List UInt8) (h : c ∉ a) : wordsF a [c] = [a] := by
  have hc : Lib.countB ⟨a.toArray⟩ ⟨[c].toArray⟩ = 0 := by
    rw [show Lib.countB ⟨a.toArray⟩ ⟨[c].toArray⟩ = Lib.count a [c] from rfl, Lib.count_one]
    exact List.count_eq_zero_of_not_mem h
  unfold wordsF
  rw [hc]
  rfl
theorem words_at (c : UInt8) (a r : List UInt8) (h : c ∉ a) : wordsF (a ++ c :: r) [c] = a :: wordsF r [c] := by
  have hc : Lib.countB ⟨(a ++ c :: r).toArray⟩ ⟨[c].toArray⟩ = Lib.countB ⟨r.toArray⟩ ⟨[c].toArray⟩ + 1 := by
    rw [show Lib.countB ⟨(a ++ c :: r).toArray⟩ ⟨[c].toArray⟩ = Lib.count (a ++ c :: r) [c] from rfl, show Lib.countB ⟨r.toArray⟩ ⟨[c].toArray⟩ = Lib.count r [c] from rfl, Lib.count_one, Lib.count_one, List.count_append, List.count_eq_zero_of_not_mem h]
    simp
  unfold wordsF
  rw [hc, Lib.splitK, index_at c a r h, if_neg (by intro h; have := beq_iff_eq.1 h; omega)]
  simp [List.drop_append, List.drop_eq_nil_of_le (show a.length ≤ a.length + 1 by omega)]
/-! ### a number's text -/
theorem itoa_mem {n : Int} {c : UInt8} (h : c ∈ Lib.itoa n) : c = 45 ∨ (48 ≤ c.toNat ∧ c.toNat ≤ 57) := by
  have hd : ∀ (m : Nat) (c : UInt8), c ∈ Lib.decDigits m → 48 ≤ c.toNat ∧ c.toNat ≤ 57 := by
    intro m
    induction m using Nat.strongRecOn with
    | _ m ih =>
      intro c hc
      rw [Lib.decDigits] at hc
      split at hc
      · rename_i hm
        simp only [List.mem_singleton] at hc
        rw [hc, ofNat_dig hm]
        omega
      · rcases List.mem_append.1 hc with hc | hc
        · exact ih _ (by omega) c hc
        · simp only [List.mem_singleton] at hc
          rw [hc, ofNat_dig (by omega)]
          omega
  unfold Lib.itoa at h
  split at h
  · rcases List.mem_cons.1 h with rfl | h
    · exact .inl rfl
    · exact .inr (hd _ c h)
  · exact .inr (hd _ c h)
theorem itoa_no {n : Int} {c : UInt8} (h1 : c ≠ 45) (h2 : ¬ (48 ≤ c.toNat ∧ c.toNat ≤ 57)) : c ∉ Lib.itoa n := fun h => by
  rcases itoa_mem h with h | h
  · exact h1 h
  · exact h2 h
theorem parse_dig : ∀ (l : List UInt8) (v x : Nat), vD (v : Int) l = some (x : Int) → x < 1844674407370955162 → Lib.parseUint10 v l = .ok x
  | [], v, x, h, hx => by
    simp only [vD, Option.some.injEq] at h
    have : v = x := by omega
    subst this
    rfl
  | c :: r, v, x, h, hx => by
    simp only [vD] at h
    split at h
    · rename_i hc
      have e : (v : Int) * 10 + ((c.toNat : Int) - 48) = ((v * 10 + (c.toNat - 48) : Nat) : Int) := by omega
      rw [e] at h
      have ih := parse_dig r (v * 10 + (c.toNat - 48)) x h hx
      have hge : ∀ (l : List UInt8) (v x : Int), 0 ≤ v → vD v l = some x → v ≤ x := by
        intro l
        induction l with
        | nil =>
          intro v x _ h
          simp only [vD, Option.some.injEq] at h
          omega
        | cons c r ih =>
          intro v x hv h
          simp only [vD] at h
          split at h
          · have := ih _ x (by omega) h
            omega
          · cases h
      have hle := hge _ _ _ (by omega) h
      simp only [Lib.parseUint10]
      rw [if_pos hc, if_neg (by omega), if_neg (by omega)]
      exact ih
    · cases h
theorem atoi_itoa {n : Int} (h0 : -1000000000000000000 < n) (h1 : n < 1000000000000000000) : Lib.atoiAll (Lib.itoa n) = .ok n := by
  have key : ∀ m : Nat, m < 1000000000000000000 → Lib.parseMag (Lib.decDigits m) = .ok m := by
    intro m hm
    unfold Lib.parseMag
    rw [if_neg (by have := dig_ne (m : Int); unfold dig at this; simpa using this)]
    exact parse_dig _ 0 m (vD_dig m) (by omega)
  by_cases hn : n < 0
  · have e : Lib.itoa n = 45 :: Lib.decDigits n.natAbs := by
      unfold Lib.itoa
      rw [if_pos hn]
    rw [e]
    unfold Lib.atoiAll
    simp only
    rw [if_pos (by right; rfl), key _ (by omega)]
    simp only
    rw [if_neg (by intro h; exact h.1 rfl), if_neg (by omega), if_pos (show (45 : UInt8).toNat = 45 from rfl)]
    congr 1
    omega
  · have e : Lib.itoa n = Lib.decDigits n.toNat := by
      unfold Lib.itoa
      rw [if_neg hn]
    have hk := key n.toNat (by omega)
    rw [e]
    cases hd : Lib.decDigits n.toNat with
    | nil => exact absurd hd (by have := dig_ne n; unfold dig at this; exact this)
    | cons x r =>
      have hx : x ∈ Lib.itoa n := by rw [e, hd]; simp
      have hx2 : 48 ≤ x.toNat := by
        have hv := vD_dig n.toNat
        rw [hd] at hv
        simp only [vD] at hv
        split at hv
        · rename_i h; exact h.1
        · cases hv
      rw [hd] at hk
      unfold Lib.atoiAll
      simp only
      rw [if_neg (by omega), hk]
      simp only
      rw [if_neg (by omega), if_neg (by omega), if_neg (by omega)]
      congr 1
      omega
/-! ### what Import reads -/
def numsO : List (List UInt8) → Option (List Int)
  | [] => some []
  | a :: r => match Lib.atoiAll a with
    | .ok v => (numsO r).map (v :: ·)
    | _ => none
def stepI (rest : List UInt8) : Option (EntT × List UInt8) :=
  if (Lib.cut rest [10]).2.2 = true ∧ (wordsF (Lib.cut rest [10]).1 [32]).length = 4 then
    (numsO (wordsF (Lib.cut rest [10]).1 [32])).map fun l => ((l.getD 0 0, l.getD 1 0, l.getD 2 0, l.getD 3 0), (Lib.cut rest [10]).2.1)
  else none
def parI : Nat → List UInt8 → Option (List EntT)
  | 0, rest => if rest = [] then some [] else none
  | f + 1, rest => if rest = [] then some [] else match stepI rest with
    | some (e, next) => (parI f next).map (e :: ·)
    | none => none
def imF (s : List UInt8) : List EntT × Int := match parI s.length s with
  | some o => if (if vE o then exportS o else []) = s then (o, 0) else ([], 3)
  | none => ([], 3)
theorem step_line {e : EntT} (h : goodB e = true) (r : List UInt8) : stepI (lineE e ++ r) = some (e, r) := by
  simp only [goodB, countB, szB, Bool.and_eq_true, decide_eq_true_eq] at h
  have n32 : ∀ n : Int, (32 : UInt8) ∉ Lib.itoa n := fun n => itoa_no (by decide) (by decide)
  have n10 : ∀ n : Int, (10 : UInt8) ∉ Lib.itoa n := fun n => itoa_no (by decide) (by decide)
  have hc : Lib.cut (lineE e ++ r) [10] = (Lib.itoa e.1 ++ 32 :: (Lib.itoa e.2.1 ++ 32 :: (Lib.itoa e.2.2.1 ++ 32 :: Lib.itoa e.2.2.2)), r, true) := by
    rw [← cut_at 10 _ r (by simp [n10])]
    congr 1
    simp [lineE]
  have hw : wordsF (Lib.itoa e.1 ++ 32 :: (Lib.itoa e.2.1 ++ 32 :: (Lib.itoa e.2.2.1 ++ 32 :: Lib.itoa e.2.2.2))) [32] = [Lib.itoa e.1, Lib.itoa e.2.1, Lib.itoa e.2.2.1, Lib.itoa e.2.2.2] := by
    rw [words_at _ _ _ (n32 _), words_at _ _ _ (n32 _), words_at _ _ _ (n32 _), words_no _ _ (n32 _)]
  unfold stepI
  rw [hc]
  simp only
  rw [hw, if_pos (by simp)]
  simp only [numsO, atoi_itoa (n := e.1) (by omega) (by omega), atoi_itoa (n := e.2.1) (by omega) (by omega), atoi_itoa (n := e.2.2.1) (by omega) (by omega), atoi_itoa (n := e.2.2.2) (by omega) (by omega), Option.map_some]
  rfl
theorem exportS_cons (e : EntT) (l : List EntT) : exportS (e :: l) = lineE e ++ exportS l := rfl
theorem lineE_ne (e : EntT) : 0 < (lineE e).length := by
  simp only [lineE, List.length_append, List.length_cons, List.length_nil]
  omega
theorem par_export : ∀ (l : List EntT) (f : Nat), (∀ e ∈ l, goodB e = true) → l.length ≤ f → parI f (exportS l) = some l
  | [], f, _, _ => by cases f <;> rfl
  | e :: l, 0, _, h => by simp at h
  | e :: l, f + 1, hg, h => by
    have h1 := lineE_ne e
    rw [exportS_cons, parI, if_neg (by intro h2; rw [List.append_eq_nil_iff] at h2; rw [h2.1] at h1; simp at h1), step_line (hg e (by simp))]
    simp only
    rw [par_export l f (fun x hx => hg x (by simp [hx])) (by simpa using h)]
    rfl
theorem im_export {l : List EntT} (h : vE l = true) : imF (exportS l) = (l, 0) := by
  unfold imF
  rw [par_export l _ (fun e he => vE_good h he) (exportS_ge l)]
  simp only
  rw [if_pos h, if_pos rfl]
/-- in general -/
theorem im_spec (s : List UInt8) : (∃ l, vE l = true ∧ exportS l = s ∧ imF s = (l, 0)) ∨ ((∀ l, vE l = true → exportS l ≠ s) ∧ imF s = ([], 3)) := by
  by_cases hex : ∃ l, vE l = true ∧ exportS l = s
  · obtain ⟨l, h1, h2⟩ := hex
    subst h2
    exact .inl ⟨l, h1, rfl, im_export h1⟩
  · refine .inr ⟨fun l h1 h2 => hex ⟨l, h1, h2⟩, ?_⟩
    unfold imF
    split
    · rename_i o _
      by_cases hv : vE o = true
      · rw [if_pos hv, if_neg (fun h => hex ⟨o, hv, h⟩)]
      · rw [if_neg hv, if_neg (show ¬ ([] : List UInt8) = s from fun h => hex ⟨[], by simp [vE], h⟩)]
    · rfl
end Go.Proofs.YtadichckbogcjaaDoor.En
