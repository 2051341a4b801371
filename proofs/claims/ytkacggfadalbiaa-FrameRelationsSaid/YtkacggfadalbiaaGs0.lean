/- Ranging over a map with int keys that the call itself made (Mp): which keys are still to come, and nothing of their order. -/
import Derived.Test.YtkacggfadalbiaaMp
import Derived.Maps.RangeWalk
set_option linter.all false
namespace Go.Proofs.Ytkacggfadalbiaa
open Go.RowKit Go.MapKept Go.WideElems

def R0 : Value → Option (DataW Unit × List MemPlace) := fun _ => some (.nil, [])

/-- block r is an iterator over the map b; left: the keys that are still to come, all of them in ks; cnt: how many -/
def Rng (P : Program) (k : TypeId) (w : World) (b r : Nat) (ks : List Int) (left : Int → Bool) (cnt : Nat) : Prop :=
  ∃ (n : Nat) (D : DataW Unit) (L : Lit → Bool), w.ranges P k R0 b r n D L cnt ∧ (∀ kl, L kl = true → ∃ x ∈ ks, kl = .int .i64 x) ∧ ∀ x, left x = L (.int .i64 x)

theorem mkEs_mem {x : MapEntry} : ∀ (m : List (Int × Value)) (i : Nat), x ∈ mkEs m i → (∃ k v, (k, v) ∈ m ∧ x.key = .int .i64 k) ∧ i ≤ x.born ∧ x.born < i + m.length
  | [], _, h => by simp [mkEs] at h
  | (k, v) :: r, i, h => by
    simp only [mkEs, List.mem_cons] at h
    rcases h with rfl | h
    · exact ⟨⟨k, v, by simp, rfl⟩, by simp, by simp⟩
    · obtain ⟨⟨k', v', h1, h2⟩, h3, h4⟩ := mkEs_mem r (i + 1) h
      exact ⟨⟨k', v', by simp [h1], h2⟩, by omega, by simp only [List.length_cons]; omega⟩
theorem mkEs_keys : ∀ (m : List (Int × Value)) (i : Nat), (mkEs m i).map (·.key) = m.map fun p => .int .i64 p.1
  | [], _ => rfl
  | (k, v) :: r, i => by simp [mkEs, mkEs_keys r (i + 1)]
theorem mkEs_born : ∀ (m : List (Int × Value)) (i : Nat), ((mkEs m i).map (·.born)).Nodup
  | [], _ => by simp [mkEs]
  | (k, v) :: r, i => by
    simp only [mkEs, List.map_cons, List.nodup_cons]
    refine ⟨fun h => ?_, mkEs_born r (i + 1)⟩
    obtain ⟨x, hx, he⟩ := List.mem_map.1 h
    have := (mkEs_mem r (i + 1) hx).2.1
    omega

section
variable {P : Program} {w w' : World} {b r : Nat} {m : List (Int × Value)}

theorem MapAt.owns {k : TypeId} (hk : P.underlying k = some (.int .i64)) (h : MapAt w b m) (hn : m.length ≤ 1000000) (hd : (m.map (·.1)).Nodup) (hw : ∀ p ∈ m, (Lit.int .i64 p.1).wf = true) :
    ∃ D : DataW Unit, w.ownsMap P k R0 b m.length D ∧ (∀ kl, Maps.has D kl = true → ∃ x ∈ m.map (·.1), kl = .int .i64 x) ∧ (∀ x ∈ m.map (·.1), Maps.has D (.int .i64 x) = true) ∧ Maps.size D = m.length := by
  have hrd : ∀ x ∈ (mkEs m 0), ∃ z, z ∈ m.map (·.1) ∧ rd P k R0 x = some (.int .i64 z, .nil) := fun x hx => by
    obtain ⟨⟨kk, v, h1, h2⟩, _⟩ := mkEs_mem m 0 hx
    exact ⟨kk, List.mem_map.2 ⟨_, h1, rfl⟩, by simp [rd, h2, keyOf, hk, mapKey, hw _ h1, R0]⟩
  have hrg : ∀ x ∈ (mkEs m 0), ∃ z, z ∈ m.map (·.1) ∧ rg P k R0 x = (.int .i64 z, .nil) := fun x hx => by
    obtain ⟨z, h1, h2⟩ := hrd x hx
    exact ⟨z, h1, rg_of h2⟩
  refine ⟨_, ⟨_, _, h, ⟨?_, ⟨?_, ?_, ?_⟩, ?_⟩, ?_, rfl⟩, ?_, ?_, ?_⟩
  · simp [mkEs_length, maxLen]; omega
  · intro x hx
    have := (mkEs_mem m 0 (by simpa using hx)).2.2
    omega
  · simpa using mkEs_born m 0
  · simp only [mkEs_keys]
    have : (m.map fun p => Value.int .i64 p.1) = (m.map (·.1)).map (fun z => Value.int .i64 z) := by simp
    rw [this]
    exact List.Pairwise.map _ (fun a b hne e => hne (by simpa using e)) hd
  · intro x hx
    obtain ⟨z, _, h2⟩ := hrd x (by simpa using hx)
    exact ⟨_, h2⟩
  · simp [mkEs_length]
  · intro kl hkl
    obtain ⟨p, hp, hs⟩ := List.any_eq_true.1 hkl
    rw [mem_sorted] at hp
    obtain ⟨x, hx, rfl⟩ := List.mem_map.1 hp
    obtain ⟨z, h1, h2⟩ := hrg x (by simpa using hx)
    rw [h2] at hs
    refine ⟨z, h1, ?_⟩
    cases kl <;> simp [Lit.sameKey] at hs
    obtain ⟨rfl, rfl⟩ := hs
    rfl
  · intro z hz
    obtain ⟨p, hp, rfl⟩ := List.mem_map.1 hz
    have : Value.int .i64 p.1 ∈ (mkEs m 0).map (·.key) := by rw [mkEs_keys]; exact List.mem_map.2 ⟨p, hp, rfl⟩
    obtain ⟨x, hx, hxk⟩ := List.mem_map.1 this
    refine List.any_eq_true.2 ⟨rg P k R0 x, mem_sorted.2 (List.mem_map.2 ⟨x, by simpa using hx, rfl⟩), ?_⟩
    have : rd P k R0 x = some (.int .i64 p.1, .nil) := by simp [rd, hxk, keyOf, hk, mapKey, hw _ hp, R0]
    rw [rg_of this]
    simp [Lit.sameKey]
  · simp [Maps.size, length_sorted, mkEs_length]

variable {ops : Array Oper} {rest : List Oper} {o : Oper} {a : Act} {Q : Exit → Act → World → Prop}

theorem wpList_range_mp (hg : o.guard = none) (mo : Operand) (t : TypeId) (hop : o.op = Op.range t mo) (k e : TypeId) (ht : P.underlying t = some (.map k e)) (hk : P.underlying k = some (.int .i64))
    (hm : a.eval mo = .map (some b)) (h : MapAt w b m) (hn : m.length ≤ 1000000) (hd : (m.map (·.1)).Nodup) (hw : ∀ p ∈ m, (Lit.int .i64 p.1).wf = true)
    (hK : ∀ w' left, Rng P k w' b w.heap.size (m.map (·.1)) left m.length → (∀ x ∈ m.map (·.1), left x = true) → w.grownBy w' none → w'.heap.size = w.heap.size + 1 → wpList P ops Q rest (a.put o.dst (.pointer (some ⟨w.heap.size, 0, none⟩))) w') :
    wpList P ops Q (o :: rest) a w := by
  obtain ⟨D, h1, h2, h3, h4⟩ := h.owns hk hn hd hw
  refine wpList_range_own w hg mo t hop k e (Maps.int_keyed hk) ht R0 b m.length D hm h1 fun w' r1 r2 r3 => ?_
  rw [h4] at r1
  exact hK w' (fun x => Maps.has D (.int .i64 x)) ⟨_, D, _, r1, h2, fun x => rfl⟩ h3 r2 r3

theorem wpList_next_mp {ks : List Int} {left : Int → Bool} {cnt : Nat} (hg : o.guard = none) (it : Operand) (hop : o.op = Op.next it false) (k : TypeId) (hk : P.underlying k = some (.int .i64))
    (hit : a.eval it = .pointer (some ⟨r, 0, none⟩)) (h : Rng P k w b r ks left cnt)
    (hDone : Hid (∀ x, left x = false) → wpList P ops Q rest (a.put o.dst (.tuple #[.bool false])) w)
    (hMore : ∀ (x : Int) (c : Value) (w' : World) (left' : Int → Bool) (cnt' : Nat), Hid (x ∈ ks) → Hid (Rng P k w' b r ks left' cnt') → Hid (∀ z, left z = true → left' z = true ∨ z = x) → cnt' < cnt →
      w.grownBy w' (some r) → w'.heap.size = w.heap.size → (Instr.entry (.pointer (some ⟨r, 0, none⟩))).run P w' = .ok (.tuple #[.int .i64 x, c]) w' → wpList P ops Q rest (a.put o.dst (.tuple #[.bool true, .int .i64 x, c])) w') :
    wpList P ops Q (o :: rest) a w := by
  obtain ⟨n, D, L, h1, h2, h3⟩ := h
  refine wpList_next_ranges (α := Int) (β := Value) w hg it hop k (Maps.int_keyed hk) R0 (Value.int .i64) (fun v => v) (fun key kl hkey => by obtain ⟨x, rfl, _⟩ := Maps.keyOf_int_inv hk hkey; exact ⟨x, rfl⟩) (fun v y _ => ⟨v, rfl⟩) b r n D L cnt hit h1
    (fun _ hl => hDone (Lib.hid fun x => by rw [h3]; exact hl _)) (fun x c kl y w' cnt' hkey hlk _ _ hrg hlt hgr hsz hen => ?_)
  obtain ⟨x', ex, rfl, _⟩ := Maps.keyOf_int_inv hk hkey
  cases ex
  obtain ⟨z, hz, hzz⟩ := h2 _ hlk
  cases hzz
  refine hMore x c w' (fun z => L (.int .i64 z) && !(Lit.int .i64 z).sameKey (.int .i64 x)) cnt' (Lib.hid hz) (Lib.hid ⟨n, D, _, hrg, fun kl hkl => h2 kl (by simp at hkl; exact hkl.1), fun z => rfl⟩) (Lib.hid (fun z hz => ?_)) hlt hgr hsz hen
  by_cases e : z = x
  · exact .inr e
  · left
    rw [h3] at hz
    simp [hz, Lit.sameKey, e]

theorem Rng.keep {k : TypeId} {ks : List Int} {left : Int → Bool} {cnt : Nat} (h : Rng P k w b r ks left cnt) (h1 : w'.heap[b]? = w.heap[b]?) (h2 : w'.heap[r]? = w.heap[r]?) : Rng P k w' b r ks left cnt := by
  obtain ⟨n, D, L, ⟨es, clock, since, seen, c0, x1, x2, x3, x4, x5, rest⟩, h3, h4⟩ := h
  exact ⟨n, D, L, ⟨es, clock, since, seen, c0, h1.trans x1, x2, x3, x4, h2.trans x5, rest⟩, h3, h4⟩
end
end Go.Proofs.Ytkacggfadalbiaa
