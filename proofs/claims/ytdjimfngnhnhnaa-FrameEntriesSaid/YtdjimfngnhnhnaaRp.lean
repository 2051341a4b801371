/- Relations between robots, in plain Lean: frames, composing, the list of reached robots. -/
import Derived.Test.YtdjimfngnhnhnaaFr1
import Derived.Test.YtdjimfngnhnhnaaMp
set_option linter.all false
namespace Go.Proofs.Ytdjimfngnhnhnaa
open Go.RowKit

abbrev Fr := Int × Int × Int
abbrev Rel := Int × Int × Fr

def cmpF (f g : Fr) : Fr := ((f.1 + g.1) % 4, tX (f.1 % 4) g.2.1 g.2.2 + f.2.1, tY (f.1 % 4) g.2.1 g.2.2 + f.2.2)
def invF (f : Fr) : Fr := ((-f.1) % 4, tX ((-f.1) % 4) (-f.2.1) (-f.2.2), tY ((-f.1) % 4) (-f.2.1) (-f.2.2))

def frV (f : Fr) : Value := .agg #[.int .i64 f.1, .int .i64 f.2.1, .int .i64 f.2.2]
def encM (m : List (Int × Fr)) : List (Int × Value) := m.map fun p => (p.1, frV p.2)

def fLook : List (Int × Fr) → Int → Option Fr
  | [], _ => none
  | (k', v) :: r, k => if k = k' then some v else fLook r k
theorem mLook_enc (k : Int) : ∀ m : List (Int × Fr), mLook (encM m) k = (fLook m k).map frV
  | [] => rfl
  | (k', v) :: r => by
    by_cases h : k = k'
    · simp [encM, mLook, fLook, h]
    · have := mLook_enc k r
      simp only [encM] at this
      simp [encM, mLook, fLook, h, this]
theorem mGet_some {m : List (Int × Fr)} {k : Int} {f : Fr} (h : fLook m k = some f) (z : Value) : mGet (encM m) k z = frV f ∧ mHas (encM m) k = true := by
  simp [mGet, mHas, mLook_enc, h]
theorem mGet_none {m : List (Int × Fr)} {k : Int} (h : fLook m k = none) (z : Value) : mGet (encM m) k z = z ∧ mHas (encM m) k = false ∧ mLook (encM m) k = none := by
  simp [mGet, mHas, mLook_enc, h]
theorem encM_snoc (m : List (Int × Fr)) (k : Int) (f : Fr) : encM (m ++ [(k, f)]) = encM m ++ [(k, frV f)] := by simp [encM]

/-- one relation, seen in the inner loop -/
def stepM (m : List (Int × Fr)) (r : Rel) : List (Int × Fr) :=
  match fLook m r.1, fLook m r.2.1 with
  | some f, none => m ++ [(r.2.1, cmpF f r.2.2)]
  | none, some g => m ++ [(r.1, cmpF g (invF r.2.2))]
  | _, _ => m
def passM (rs : List Rel) (m : List (Int × Fr)) : List (Int × Fr) := rs.foldl stepM m
def iterM (rs : List Rel) : Nat → List (Int × Fr) → List (Int × Fr)
  | 0, m => m
  | n + 1, m => iterM rs n (passM rs m)
/-- the frames of all robots that are connected with a -/
def fromL (rs : List Rel) (a : Int) : List (Int × Fr) := iterM rs 8 [(a, (0, 0, 0))]

/-- a relation that Add accepts -/
def RelOk (r : Rel) : Prop := 0 ≤ r.1 ∧ r.1 < 8 ∧ 0 ≤ r.2.1 ∧ r.2.1 < 8 ∧ r.1 ≠ r.2.1 ∧ 0 ≤ r.2.2.1 ∧ r.2.2.1 < 4 ∧ -1024 ≤ r.2.2.2.1 ∧ r.2.2.2.1 ≤ 1024 ∧ -1024 ≤ r.2.2.2.2 ∧ r.2.2.2.2 ≤ 1024

/-- what holds of the list of reached robots: no robot twice, robots only, frames not far -/
structure MOk (m : List (Int × Fr)) : Prop where
  nodup : (m.map (·.1)).Nodup
  keys : ∀ p ∈ m, 0 ≤ p.1 ∧ p.1 < 8
  fr : ∀ p ∈ m, 0 ≤ p.2.1 ∧ p.2.1 < 4 ∧ -(1024 * ((m.length : Int) - 1)) ≤ p.2.2.1 ∧ p.2.2.1 ≤ 1024 * ((m.length : Int) - 1) ∧ -(1024 * ((m.length : Int) - 1)) ≤ p.2.2.2 ∧ p.2.2.2 ≤ 1024 * ((m.length : Int) - 1)

theorem fLook_mem {k : Int} {f : Fr} : ∀ {m : List (Int × Fr)}, fLook m k = some f → (k, f) ∈ m
  | [], h => by simp [fLook] at h
  | (k', v) :: r, h => by
    by_cases e : k = k'
    · simp [fLook, e] at h; simp [e, h]
    · simp [fLook, e] at h; exact List.mem_cons_of_mem _ (fLook_mem h)
theorem fLook_none {k : Int} : ∀ {m : List (Int × Fr)}, fLook m k = none → k ∉ m.map (·.1)
  | [], _ => by simp
  | (k', v) :: r, h => by
    by_cases e : k = k'
    · simp [fLook, e] at h
    · simp [fLook, e] at h
      have := fLook_none h
      simp only [List.map_cons, List.mem_cons, not_or]
      exact ⟨e, this⟩

theorem pigeon : ∀ (n : Nat) (l : List Int), l.Nodup → (∀ k ∈ l, 0 ≤ k ∧ k < n) → l.length ≤ n
  | 0, l, _, h => by
    cases l with
    | nil => simp
    | cons k r => have := h k (by simp); omega
  | n + 1, l, hd, h => by
    have h1 : (l.erase (n : Int)).length ≤ n := pigeon n _ (hd.erase _) (fun k hk => by
      have hk' := (hd.mem_erase_iff).1 hk
      have := h k hk'.2
      have := hk'.1
      omega)
    have h2 := List.length_erase (a := (n : Int)) (l := l)
    split at h2 <;> omega

theorem MOk.len {m : List (Int × Fr)} (h : MOk m) : m.length ≤ 8 := by
  have := pigeon 8 (m.map (·.1)) h.nodup (fun k hk => by
    obtain ⟨p, hp, rfl⟩ := List.mem_map.1 hk
    exact h.keys p hp)
  simpa using this

theorem MOk.start (a : Int) (h0 : 0 ≤ a) (h1 : a < 8) : MOk [(a, (0, 0, 0))] :=
  ⟨by simp, by simp; omega, by simp⟩

theorem MOk.snoc {m : List (Int × Fr)} (h : MOk m) {k : Int} {f : Fr} (hk : fLook m k = none) (h0 : 0 ≤ k) (h1 : k < 8) (hq0 : 0 ≤ f.1) (hq1 : f.1 < 4)
    (hf : -(1024 * (m.length : Int)) ≤ f.2.1 ∧ f.2.1 ≤ 1024 * (m.length : Int) ∧ -(1024 * (m.length : Int)) ≤ f.2.2 ∧ f.2.2 ≤ 1024 * (m.length : Int)) : MOk (m ++ [(k, f)]) := by
  have hn := fLook_none hk
  refine ⟨?_, ?_, ?_⟩
  · rw [List.map_append, List.nodup_append]
    refine ⟨h.nodup, by simp, ?_⟩
    intro a ha b hb
    simp at hb
    subst hb
    rintro rfl
    exact hn ha
  · intro p hp
    rcases List.mem_append.1 hp with hp | hp
    · exact h.keys p hp
    · simp at hp; subst hp; exact ⟨h0, h1⟩
  · intro p hp
    rw [List.length_append]
    simp only [List.length_cons, List.length_nil]
    rcases List.mem_append.1 hp with hp | hp
    · have := h.fr p hp; omega
    · simp at hp; subst hp; simp only; omega

theorem cmpF_bd (f g : Fr) (A B : Int) (h1 : -A ≤ f.2.1 ∧ f.2.1 ≤ A ∧ -A ≤ f.2.2 ∧ f.2.2 ≤ A) (h2 : -B ≤ g.2.1 ∧ g.2.1 ≤ B ∧ -B ≤ g.2.2 ∧ g.2.2 ≤ B) :
    0 ≤ (cmpF f g).1 ∧ (cmpF f g).1 < 4 ∧ -(A + B) ≤ (cmpF f g).2.1 ∧ (cmpF f g).2.1 ≤ A + B ∧ -(A + B) ≤ (cmpF f g).2.2 ∧ (cmpF f g).2.2 ≤ A + B := by
  have b1 := tX_bd (f.1 % 4) g.2.1 g.2.2 B h2.1 h2.2.1 h2.2.2.1 h2.2.2.2
  have b2 := tY_bd (f.1 % 4) g.2.1 g.2.2 B h2.1 h2.2.1 h2.2.2.1 h2.2.2.2
  unfold cmpF
  simp only
  omega
theorem invF_bd (f : Fr) (A : Int) (h1 : -A ≤ f.2.1 ∧ f.2.1 ≤ A ∧ -A ≤ f.2.2 ∧ f.2.2 ≤ A) :
    0 ≤ (invF f).1 ∧ (invF f).1 < 4 ∧ -A ≤ (invF f).2.1 ∧ (invF f).2.1 ≤ A ∧ -A ≤ (invF f).2.2 ∧ (invF f).2.2 ≤ A := by
  have b1 := tX_bd ((-f.1) % 4) (-f.2.1) (-f.2.2) A (by omega) (by omega) (by omega) (by omega)
  have b2 := tY_bd ((-f.1) % 4) (-f.2.1) (-f.2.2) A (by omega) (by omega) (by omega) (by omega)
  unfold invF
  simp only
  omega

theorem stepM_ok {m : List (Int × Fr)} {r : Rel} (h : MOk m) (hr : RelOk r) : MOk (stepM m r) := by
  obtain ⟨a0, a1, b0, b1, _, q0, q1, x0, x1, y0, y1⟩ := hr
  unfold stepM
  cases ha : fLook m r.1 with
  | some f =>
    cases hb : fLook m r.2.1 with
    | some g => exact h
    | none =>
      have hf := h.fr _ (fLook_mem ha)
      have := cmpF_bd f r.2.2 (1024 * ((m.length : Int) - 1)) 1024 hf.2.2 ⟨x0, x1, y0, y1⟩
      exact h.snoc hb b0 b1 this.1 this.2.1 (by omega)
  | none =>
    cases hb : fLook m r.2.1 with
    | some g =>
      have hf := h.fr _ (fLook_mem hb)
      have hi := invF_bd r.2.2 1024 ⟨x0, x1, y0, y1⟩
      have := cmpF_bd g (invF r.2.2) (1024 * ((m.length : Int) - 1)) 1024 hf.2.2 hi.2.2
      exact h.snoc ha a0 a1 this.1 this.2.1 (by omega)
    | none => exact h

theorem stepM_len (m : List (Int × Fr)) (r : Rel) : stepM m r = m ∨ (stepM m r).length = m.length + 1 := by
  unfold stepM
  cases fLook m r.1 <;> cases fLook m r.2.1 <;> simp
theorem passM_ok : ∀ {rs : List Rel} {m : List (Int × Fr)}, MOk m → (∀ r ∈ rs, RelOk r) → MOk (passM rs m)
  | [], _, h, _ => h
  | r :: rs, m, h, hr => passM_ok (rs := rs) (stepM_ok h (hr r (by simp))) (fun x hx => hr x (by simp [hx]))
theorem passM_len : ∀ (rs : List Rel) (m : List (Int × Fr)), m.length ≤ (passM rs m).length ∧ ((passM rs m).length = m.length → passM rs m = m)
  | [], m => ⟨Nat.le_refl _, fun _ => rfl⟩
  | r :: rs, m => by
    have ih := passM_len rs (stepM m r)
    have e : passM (r :: rs) m = passM rs (stepM m r) := rfl
    rw [e]
    rcases stepM_len m r with h | h
    · rw [h] at ih ⊢; exact ih
    · exact ⟨by omega, fun hh => by omega⟩
theorem passM_snoc (rs : List Rel) (r : Rel) (m : List (Int × Fr)) : passM (rs ++ [r]) m = stepM (passM rs m) r := by simp [passM]

theorem iterM_fix {rs : List Rel} {m : List (Int × Fr)} (h : passM rs m = m) : ∀ n, iterM rs n m = m
  | 0 => rfl
  | n + 1 => by rw [iterM, h, iterM_fix h n]
theorem iterM_add (rs : List Rel) : ∀ (i j : Nat) (m : List (Int × Fr)), iterM rs (i + j) m = iterM rs j (iterM rs i m)
  | 0, j, m => by simp [iterM]
  | i + 1, j, m => by rw [show i + 1 + j = (i + j) + 1 by omega, iterM, iterM_add rs i j, iterM]
/-- the outer loop's state: after i growing passes; so at most 7 of them -/
theorem fromL_of {rs : List Rel} {a : Int} {i : Nat} (hi : i ≤ 8) (h : passM rs (iterM rs i [(a, (0, 0, 0))]) = iterM rs i [(a, (0, 0, 0))]) : iterM rs i [(a, (0, 0, 0))] = fromL rs a := by
  unfold fromL
  rw [show 8 = i + (8 - i) by omega, iterM_add, iterM_fix h]
theorem iterM_succ (rs : List Rel) (i : Nat) (m : List (Int × Fr)) : iterM rs (i + 1) m = passM rs (iterM rs i m) := by
  rw [iterM_add rs i 1]; rfl

end Go.Proofs.Ytdjimfngnhnhnaa
