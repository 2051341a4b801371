import Derived.Test.YtlnplelandimeaaGreatZFleetFrames10
import Derived.Maps.RangeWalk
import Derived.Test.YtlnplelandimeaaGreatZFleetFrames01
set_option linter.all false
section
namespace Go.Proofs.YtlnplelandimeaaGreat
open Go.RowKit Go.MapKept Go.WideElems
def R0 : Value → Option (DataW Unit × List MemPlace) := fun _ => some (.nil, [])
def Rng (P : Program) (k : TypeId) (w : World) (b r : Nat) (ks : List Int) (left : Int → Bool) (cnt : Nat) : Prop :=
  ∃ (n : Nat) (D : DataW Unit) (L : Lit → Bool), w.ranges P k R0 b r n D L cnt ∧ (∀ kl, L kl = true → ∃ x ∈ ks, kl = .int .i64 x) ∧ ∀ x, left x = L (.int .i64 x)
theorem mkEs_mem {x : MapEntry} : ∀ (m : List (Int × Value)) (i : Nat), x ∈ mkEs m i → (∃ k v, (k, v) ∈ m ∧ x.key = .int .i64 k) ∧ i ≤ x.born ∧ x.born < i + m.length
  | [], _, h => by simp [mkEs] at h
  | (k, v) :: r, i, h => by
    simp only [mkEs, List.mem_cons] at h
    rcases h with rfl | h
    · exact ⟨⟨k, v, by simp, rfl⟩, by simp, by simp⟩
    · obtain ⟨⟨k', v', h1, h2⟩, h3, h4⟩ := mkEs_mem r (i + 1) h
      exact ⟨⟨k', v', by simp [h1], h2⟩, by omega, by simp only [List.length_cons]; omega⟩
theorem mkEs_keys : ∀ (m : List (Int × Value)) (i : Nat), (mkEs m i).map (·.key) = m.map fun p => .int .i64 p.1
  | [], _ => rfl
  | (k, v) :: r, i => by simp [mkEs, mkEs_keys r (i + 1)]
theorem mkEs_born : ∀ (m : List (Int × Value)) (i : Nat), ((mkEs m i).map (·.born)).Nodup
  | [], _ => by simp [mkEs]
  | (k, v) :: r, i => by
    simp only [mkEs, List.map_cons, List.nodup_cons]
    refine ⟨fun h => ?_, mkEs_born r (i + 1)⟩
    obtain ⟨x, hx, he⟩ := List.mem_map.1 h
    have := (mkEs_mem r (i + 1) hx).2.1
    omega
section
variable {P : Program} {w w' : World} {b r : Nat} {m : List (Int × Value)}
theorem MapAt.owns {k : TypeId} (hk : P.underlying k = some (.int .i64)) (h : MapAt w b m) (hn : m.length ≤ 1000000) (hd : (m.map (·.1)).Nodup) (hw : ∀ p ∈ m, (Lit.int .i64 p.1).wf = true) :
    ∃ D : DataW Unit, w.ownsMap P k R0 b m.length D ∧ (∀ kl, Maps.has D kl = true → ∃ x ∈ m.map (·.1), kl = .int .i64 x) ∧ (∀ x ∈ m.map (·.1), Maps.has D (.int .i64 x) = true) ∧ Maps.size D = m.length := by
  have hrd : ∀ x ∈ (mkEs m 0), ∃ z, z ∈ m.map (·.1) ∧ rd P k R0 x = some (.int .i64 z, .nil) := fun x hx => by
    obtain ⟨⟨kk, v, h1, h2⟩, _⟩ := mkEs_mem m 0 hx
    exact ⟨kk, List.mem_map.2 ⟨_, h1, rfl⟩, by simp [rd, h2, keyOf, hk, mapKey, hw _ h1, R0]⟩
  have hrg : ∀ x ∈ (mkEs m 0), ∃ z, z ∈ m.map (·.1) ∧ rg P k R0 x = (.int .i64 z, .nil) := fun x hx => by
    obtain ⟨z, h1, h2⟩ := hrd x hx
    exact ⟨z, h1, rg_of h2⟩
  refine ⟨_, ⟨_, _, h, ⟨?_, ⟨?_, ?_, ?_⟩, ?_⟩, ?_, rfl⟩, ?_, ?_, ?_⟩
  · simp [mkEs_length, maxLen]; omega
  · intro x hx
    have := (mkEs_mem m 0 (by simpa using hx)).2.2
    omega
  · simpa using mkEs_born m 0
  · simp only [mkEs_keys]
    have : (m.map fun p => Value.int .i64 p.1) = (m.map (·.1)).map (fun z => Value.int .i64 z) := by simp
    rw [this]
    exact List.Pairwise.map _ (fun a b hne e => hne (by simpa using e)) hd
  · intro x hx
    obtain ⟨z, _, h2⟩ := hrd x (by simpa using hx)
    exact ⟨_, h2⟩
  · simp [mkEs_length]
  · intro kl hkl
    obtain ⟨p, hp, hs⟩ := List.any_eq_true.1 hkl
    rw [mem_sorted] at hp
    obtain ⟨x, hx, rfl⟩ := List.mem_map.1 hp
    obtain ⟨z, h1, h2⟩ := hrg x (by simpa using hx)
    rw [h2] at hs
    refine ⟨z, h1, ?_⟩
    cases kl <;> simp [Lit.sameKey] at hs
    obtain ⟨rfl, rfl⟩ := hs
    rfl
  · intro z hz
    obtain ⟨p, hp, rfl⟩ := List.mem_map.1 hz
    have : Value.int .i64 p.1 ∈ (mkEs m 0).map (·.key) := by rw [mkEs_keys]; exact List.mem_map.2 ⟨p, hp, rfl⟩
    obtain ⟨x, hx, hxk⟩ := List.mem_map.1 this
    refine List.any_eq_true.2 ⟨rg P k R0 x, mem_sorted.2 (List.mem_map.2 ⟨x, by simpa using hx, rfl⟩), ?_⟩
    have : rd P k R0 x = some (.int .i64 p.1, .nil) := by simp [rd, hxk, keyOf, hk, mapKey, hw _ hp, R0]
    rw [rg_of this]
    simp [Lit.sameKey]
  · simp [Maps.size, length_sorted, mkEs_length]
variable {ops : Array Oper} {rest : List Oper} {o : Oper} {a : Act} {Q : Exit → Act → World → Prop}
theorem wpList_range_mp (hg : o.guard = none) (mo : Operand) (t : TypeId) (hop : o.op = Op.range t mo) (k e : TypeId) (ht : P.underlying t = some (.map k e)) (hk : P.underlying k = some (.int .i64))
    (hm : a.eval mo = .map (some b)) (h : MapAt w b m) (hn : m.length ≤ 1000000) (hd : (m.map (·.1)).Nodup) (hw : ∀ p ∈ m, (Lit.int .i64 p.1).wf = true)
    (hK : ∀ w' left, Rng P k w' b w.heap.size (m.map (·.1)) left m.length → (∀ x ∈ m.map (·.1), left x = true) → w.grownBy w' none → w'.heap.size = w.heap.size + 1 → wpList P ops Q rest (a.put o.dst (.pointer (some ⟨w.heap.size, 0, none⟩))) w') :
    wpList P ops Q (o :: rest) a w := by
  obtain ⟨D, h1, h2, h3, h4⟩ := h.owns hk hn hd hw
  refine wpList_range_own w hg mo t hop k e (Maps.int_keyed hk) ht R0 b m.length D hm h1 fun w' r1 r2 r3 => ?_
  rw [h4] at r1
  exact hK w' (fun x => Maps.has D (.int .i64 x)) ⟨_, D, _, r1, h2, fun x => rfl⟩ h3 r2 r3
theorem wpList_next_mp {ks : List Int} {left : Int → Bool} {cnt : Nat} (hg : o.guard = none) (it : Operand) (hop : o.op = Op.next it false) (k : TypeId) (hk : P.underlying k = some (.int .i64))
    (hit : a.eval it = .pointer (some ⟨r, 0, none⟩)) (h : Rng P k w b r ks left cnt)
    (hDone : Hid (∀ x, left x = false) → wpList P ops Q rest (a.put o.dst (.tuple #[.bool false])) w)
    (hMore : ∀ (x : Int) (c : Value) (w' : World) (left' : Int → Bool) (cnt' : Nat), Hid (x ∈ ks) → Hid (Rng P k w' b r ks left' cnt') → Hid (∀ z, left z = true → left' z = true ∨ z = x) → cnt' < cnt →
      w.grownBy w' (some r) → w'.heap.size = w.heap.size → (Instr.entry (.pointer (some ⟨r, 0, none⟩))).run P w' = .ok (.tuple #[.int .i64 x, c]) w' → wpList P ops Q rest (a.put o.dst (.tuple #[.bool true, .int .i64 x, c])) w') :
    wpList P ops Q (o :: rest) a w := by
  obtain ⟨n, D, L, h1, h2, h3⟩ := h
  refine wpList_next_ranges (α := Int) (β := Value) w hg it hop k (Maps.int_keyed hk) R0 (Value.int .i64) (fun v => v) (fun key kl hkey => by obtain ⟨x, rfl, _⟩ := Maps.keyOf_int_inv hk hkey; exact ⟨x, rfl⟩) (fun v y _ => ⟨v, rfl⟩) b r n D L cnt hit h1
    (fun _ hl => hDone (Lib.hid fun x => by rw [h3]; exact hl _)) (fun x c kl y w' cnt' hkey hlk _ _ hrg hlt hgr hsz hen => ?_)
  obtain ⟨x', ex, rfl, _⟩ := Maps.keyOf_int_inv hk hkey
  cases ex
  obtain ⟨z, hz, hzz⟩ := h2 _ hlk
  cases hzz
  refine hMore x c w' (fun z => L (.int .i64 z) && !(Lit.int .i64 z).sameKey (.int .i64 x)) cnt' (Lib.hid hz) (Lib.hid ⟨n, D, _, hrg, fun kl hkl => h2 kl (by simp at hkl; exact hkl.1), fun z => rfl⟩) (Lib.hid (fun z hz => ?_)) hlt hgr hsz hen
  by_cases e : z = x
  · exact .inr e
  · left
    rw [h3] at hz
    simp [hz, Lit.sameKey, e]
theorem Rng.keep {k : TypeId} {ks : List Int} {left : Int → Bool} {cnt : Nat} (h : Rng P k w b r ks left cnt) (h1 : w'.heap[b]? = w.heap[b]?) (h2 : w'.heap[r]? = w.heap[r]?) : Rng P k w' b r ks left cnt := by
  obtain ⟨n, D, L, ⟨es, clock, since, seen, c0, x1, x2, x3, x4, x5, rest⟩, h3, h4⟩ := h
  exact ⟨n, D, L, ⟨es, clock, since, seen, c0, h1.trans x1, x2, x3, x4, h2.trans x5, rest⟩, h3, h4⟩
end
end Go.Proofs.YtlnplelandimeaaGreat
end
section
namespace Go.Proofs.YtlnplelandimeaaGreat
open Go.RowKit
end Go.Proofs.YtlnplelandimeaaGreat
end
section
namespace Go.Proofs.YtlnplelandimeaaGreat
open Go.RowKit
def Bk (w : World) (g : Nat) (t : TypeId) (cs : Array Value) : Prop := w.heap[g]? = some (.cells cs t (0, 0))
section
variable {w w' : World} {g : Nat} {t : TypeId} {cs : Array Value}
theorem Bk.lt (h : Bk w g t cs) : g < w.heap.size := by
  rcases Nat.lt_or_ge g w.heap.size with hlt | hge
  · exact hlt
  · unfold Bk at h; rw [Array.getElem?_eq_none hge] at h; cases h
theorem Bk.cell (h : Bk w g t cs) (i : Nat) : w.cell? ⟨g, i, none⟩ = cs[i]? := cell_of_row w g i cs t (0, 0) h
theorem Bk.frozen (h : Bk w g t cs) : ∀ i, w.frozen? ⟨g, i, none⟩ = false := fun i => by
  unfold Bk at h
  simp [World.frozen?, h]
theorem Bk.new (w : World) (t : TypeId) (cs : Array Value) : Bk (w.alloc (.cells cs t)) w.heap.size t cs := heap_alloc_new w _
theorem Bk.drew (h : Bk w g t cs) : Bk w.drew g t cs := h
theorem Bk.drewN (h : Bk w g t cs) (n : Nat) : Bk (w.drewN n) g t cs := h
theorem Bk.alloc (h : Bk w g t cs) (o : Obj) : Bk (w.alloc o) g t cs := (Below.heap_alloc w o g h.lt).trans h
theorem Bk.set_ (h : Bk w g t cs) (i : Nat) (u : Value) : Bk (w.setCell ⟨g, i, none⟩ u) g t (cs.setIfInBounds i u) := by
  unfold Bk at h ⊢
  simp [World.setCell, Array.getElem?_modify, h]
theorem Bk.call (h : Bk w g t cs) (hb : Below w.heap.size w w') : Bk w' g t cs := (hb.block g h.lt).trans h
end
end Go.Proofs.YtlnplelandimeaaGreat
end
section
namespace Go.Proofs.YtlnplelandimeaaGreat
open Go.RowKit
def keysL (m : List (Int × Fr)) : List Int := m.map (·.1)
def grpL (l : List Int) (a : Int) : Int := l.foldl min a
def grp (rs : List Rel) (a : Int) : Int := grpL (keysL (fromL rs a)) a
theorem grpL_spec : ∀ (l : List Int) (a : Int), grpL l a ≤ a ∧ (∀ k ∈ l, grpL l a ≤ k) ∧ (grpL l a = a ∨ grpL l a ∈ l)
  | [], a => by simp [grpL]
  | k :: l, a => by
    have h := grpL_spec l (min a k)
    have e : grpL (k :: l) a = grpL l (min a k) := rfl
    rw [e]
    obtain ⟨h1, h2, h3⟩ := h
    refine ⟨by omega, ?_, ?_⟩
    · intro z hz
      rcases List.mem_cons.1 hz with rfl | hz
      · omega
      · exact h2 z hz
    · rcases h3 with h3 | h3
      · rcases (by omega : min a k = a ∨ min a k = k) with h | h
        · left; omega
        · right; rw [h3, h]; simp
      · right; simp [h3]
theorem grpL_eq {l : List Int} {a v : Int} (h1 : v ≤ a) (h2 : ∀ k ∈ l, v ≤ k) (h3 : v = a ∨ v ∈ l) : v = grpL l a := by
  obtain ⟨g1, g2, g3⟩ := grpL_spec l a
  rcases h3 with h3 | h3 <;> rcases g3 with g3 | g3
  · omega
  · have := h2 _ g3; omega
  · have := g2 _ h3; omega
  · have := h2 _ g3; have := g2 _ h3; omega
def arrG (rs : List Rel) (k : Nat) : Array Value := ((List.range 8).map fun i => Value.int .i64 (if i < k then grp rs i else 0)).toArray
theorem arrG_zero (rs : List Rel) : arrG rs 0 = #[.int .i64 0, .int .i64 0, .int .i64 0, .int .i64 0, .int .i64 0, .int .i64 0, .int .i64 0, .int .i64 0] := rfl
theorem arrG_size (rs : List Rel) (k : Nat) : (arrG rs k).size = 8 := by simp [arrG]
theorem arrG_get (rs : List Rel) (k i : Nat) (h : i < 8) : (arrG rs k)[i]? = some (.int .i64 (if i < k then grp rs i else 0)) := by
  simp [arrG, h]
theorem arrG_succ (rs : List Rel) (k : Nat) : (arrG rs k).setIfInBounds k (.int .i64 (grp rs k)) = arrG rs (k + 1) := by
  apply Array.ext_getElem?
  intro i
  rw [Array.getElem?_setIfInBounds]
  by_cases hi : i < 8
  · rw [arrG_get rs k i hi, arrG_get rs (k + 1) i hi, arrG_size]
    by_cases e : k = i
    · subst e; simp [hi]
    · rw [if_neg e]
      by_cases h : i < k
      · rw [if_pos h, if_pos (by omega)]
      · rw [if_neg h, if_neg (by omega)]
  · rw [Array.getElem?_eq_none (by rw [arrG_size]; omega), Array.getElem?_eq_none (by rw [arrG_size]; omega), arrG_size]
    split <;> simp
    omega
theorem makeG (w : World) : (Instr.makeSlice 62 (.int .i64 8) (.int .i64 8)).run Tryz.prog w = .ok (.slice (some ⟨w.heap.size, 0, none⟩) 8 8) (w.alloc (.cells #[.int .i64 0, .int .i64 0, .int .i64 0, .int .i64 0, .int .i64 0, .int .i64 0, .int .i64 0, .int .i64 0] 3)) := by kernel_rfl
def GrO (rs : List Rel) (w : World) (g : Nat) (i : Value) (wr : World) : Prop :=
  ∃ k : Nat, k ≤ 8 ∧ g = 8 - k ∧ i = .int .i64 k ∧ Bk wr w.heap.size 3 (arrG rs k) ∧ Below w.heap.size w wr
def GrI (rs : List Rel) (w : World) (k b r : Nat) (g : Nat) (wr : World) : Prop :=
  ∃ (v : Int) (left : Int → Bool), Rng Tryz.prog 3 wr b r (keysL (fromL rs k)) left g ∧ v ≤ k ∧ -1000 ≤ v ∧ (∀ x ∈ keysL (fromL rs k), left x = true ∨ v ≤ x) ∧ (v = k ∨ v ∈ keysL (fromL rs k)) ∧
    Bk wr w.heap.size 3 ((arrG rs k).setIfInBounds k (.int .i64 v)) ∧ Below w.heap.size w wr ∧ r < wr.heap.size
theorem fromL_ok {rs : List Rel} {a : Int} (h0 : 0 ≤ a) (h1 : a < 8) (hok : ∀ r ∈ rs, RelOk r) : MOk (fromL rs a) := by
  unfold fromL
  generalize 8 = n
  have : ∀ (n : Nat) (m : List (Int × Fr)), MOk m → MOk (iterM rs n m) := fun n => by
    induction n with
    | zero => intro m h; exact h
    | succ n ih => intro m h; exact ih _ (passM_ok h hok)
  exact this n _ (MOk.start a h0 h1)
theorem wf_small {n : Int} (h0 : 0 ≤ n) (h1 : n < 8) : (Lit.int .i64 n).wf = true := by
  simp [Lit.wf, IntKind.min, IntKind.max, IntKind.signed, IntKind.bits]
  omega
theorem below_grown {w w1 w2 : World} {r : Nat} (h : Below w.heap.size w w1) (hg : w1.grownBy w2 (some r)) (hr : w.heap.size ≤ r) : Below w.heap.size w w2 :=
  h.grown hg h.size (fun _ e => by injection e with e; omega)
theorem below_grown0 {w w1 w2 : World} (h : Below w.heap.size w w1) (hg : w1.grownBy w2 none) : Below w.heap.size w w2 :=
  h.grown hg h.size (fun _ e => by cases e)
theorem bk_grown {w1 w2 : World} {g : Nat} {t : TypeId} {cs : Array Value} {r : Option Nat} (h : Bk w1 g t cs) (hg : w1.grownBy w2 r) (hr : some g ≠ r) : Bk w2 g t cs :=
  (hg.block g h.lt hr).trans h
set_option maxRecDepth 100000 in
set_option maxHeartbeats 2000000 in
theorem Groups_any (rb : Nat) (ob : Option Nat) (rs : List Rel) (w : World) (hr : RObj w rb ob rs) (hn : rs.length ≤ 100) :
    Calls Tryz.prog 27 #[.pointer (some ⟨rb, 0, none⟩)] w fun e w' => e = .returned (.slice (some ⟨w.heap.size, 0, none⟩) 8 8) ∧ Bk w' w.heap.size 3 (arrG rs 8) ∧ Below w.heap.size w w' := by
  have HR := Lib.hid hr
  have HOK := Lib.hid (show ∀ r ∈ rs, RelOk r from hr.choose_spec.2.2.2.2)
  clear hr
  have hmk := makeG
  go_enter Tryz.func27, Tryz.ntmps27
  go_wp2
  clear hmk
  go_loopg [11] 8 (fun g i wr => GrO rs w g i wr)
  case atStart => exact ⟨0, by omega, by omega, by simp, by rw [arrG_zero]; exact Bk.new _ _ _, bw_alloc (bw_refl w) _⟩
  case round =>
    obtain ⟨k, hk, hgk, rfl, hB, hbl⟩ := hrel
    have HG := Lib.hid hgk
    clear hgk
    by_cases hlt : k < 8
    · have hk0 : (0 : Int) ≤ k := by omega
      have hk8 : (k : Int) < 8 := by omega
      have hc0 := (hB.cell k).trans (arrG_get rs k k hlt)
      rw [if_neg (by omega)] at hc0
      have hf0 := hB.frozen k
      have hBl := hB.lt
      go_wp2_with fail
      have hB1 := hB.set_ k (.int .i64 k)
      have hbl1 : Below w.heap.size w (wr.setCell ⟨w.heap.size, k, none⟩ (.int .i64 k)) := bw_set hbl (Nat.le_refl _) _
      generalize wr.setCell ⟨w.heap.size, k, none⟩ (.int .i64 k) = w1 at *
      clear hc0 hf0 hB hbl hBl
      obtain ⟨A, c, hc, hra⟩ := (HR.out.below hbl1).read
      refine (from_any rb A c rs k _ hc hra HOK.out hn hk0 hk8).mono ?_
      clear hc hra
      rintro e w2 ⟨rfl, hm, hb2⟩
      have hB2 := hB1.call hb2
      have hbl2 := bw_call hb2 hbl1
      have hlt12 : w.heap.size < w1.heap.size := hB1.lt
      have hmo := Lib.hid (fromL_ok hk0 hk8 HOK.out)
      have hk1 : ((encM (fromL rs k)).map (·.1)) = keysL (fromL rs k) := by simp [keysL, encM, Function.comp_def]
      have hnd : ((encM (fromL rs k)).map (·.1)).Nodup := by rw [hk1]; exact hmo.out.nodup
      have hwf : ∀ p ∈ encM (fromL rs k), (Lit.int .i64 p.1).wf = true := by
        intro p hp
        have : p.1 ∈ keysL (fromL rs k) := by rw [← hk1]; exact List.mem_map.2 ⟨p, hp, rfl⟩
        obtain ⟨q, hq, he⟩ := List.mem_map.1 this
        have := hmo.out.keys q hq
        exact wf_small (by omega) (by omega)
      have hln : (encM (fromL rs k)).length ≤ 1000000 := by have := hmo.out.len; simp [encM]; omega
      have Hk1 := Lib.hid hk1
      have Hnd := Lib.hid hnd
      have Hwf := Lib.hid hwf
      have Hm := Lib.hid hm
      have Hln := Lib.hid hln
      clear hk1 hnd hwf hm hln hB1 hbl1 hb2
      go_wp2_with (at_range; refine wpList_range_mp rfl _ 105 rfl 3 37 Tryz.underlying105 Tryz.underlying3 rfl Hm.out Hln.out Hnd.out Hwf.out ?_; intro w3 left hrg hall hg3 hs3)
      go_frame
      have hB3 := bk_grown hB2 hg3 (by simp)
      have hbl3 := below_grown0 hbl2 hg3
      have hw12 : w.heap.size < w2.heap.size := hB2.lt
      have hrm : w1.heap.size < w2.heap.size := Hm.out.lt
      rw [Hk1.out] at hrg hall
      clear hB2 hbl2 hg3
      go_loopg [5] (encM (fromL rs k)).length (fun g _ wr => GrI rs w k w1.heap.size w2.heap.size g wr)
      case atStart => exact ⟨k, left, hrg, by omega, by omega, fun x hx => .inl (hall x hx), .inl rfl, hB3, hbl3, by omega⟩
      case round =>
        clear hrg hall hB3 hbl3 hs3
        obtain ⟨v, left', hrg, hv1, hv2, hv3, hv4, hB3, hbl3, hr3⟩ := hrel
        have HV3 := Lib.hid hv3
        have HV4 := Lib.hid hv4
        have HRG := Lib.hid hrg
        clear hv3 hv4 hrg
        go_wp2_with (at_next; refine wpList_next_mp rfl _ rfl 3 Tryz.underlying3 rfl HRG.out ?_ ?_)
        · intro hl
          have hv := Lib.hid (show v = grp rs k from grpL_eq hv1 (fun x hx => (HV3.out x hx).resolve_left (by simp [hl.out x])) HV4.out)
          clear hl
          go_wp2
          go_roundg (8 - (k + 1))
          case measure => have := HG.out; omega
          case rel => exact ⟨k + 1, by omega, rfl, by simp, by rw [← arrG_succ, ← hv.out]; exact hB3, hbl3⟩
        · intro x cv w4 left4 cnt4 HX HR4 HL4 hct hg4 hs4 hen
          have hB4 := bk_grown hB3 hg4 (by simp; omega)
          have hbl4 := below_grown hbl3 hg4 (by omega)
          have hc4 := (hB4.cell k).trans (show _ = some (.int .i64 v) by rw [Array.getElem?_setIfInBounds_self, arrG_size, if_pos hlt])
          have hf4 := hB4.frozen k
          have hk2 := hmo.out
          obtain ⟨x0, x8⟩ : 0 ≤ x ∧ x < 8 := by
            obtain ⟨q, hq, rfl⟩ := List.mem_map.1 HX.out
            exact hk2.keys q hq
          clear hk2
          by_cases hvx : x < v
          all_goals
            go_wp2
            go_roundg cnt4
            case measure => exact hct
            case rel =>
              first
                | refine ⟨x, left4, HR4.out.keep ?_ ?_, by omega, by omega, fun z hz => ?_, .inr HX.out, ?_, bw_set hbl4 (Nat.le_refl _) _, by simp; omega⟩
                  · exact Below.heap_setCell _ _ _ _ (by simp; omega)
                  · exact Below.heap_setCell _ _ _ _ (by simp; omega)
                  · rcases HV3.out z hz with h | h
                    · rcases HL4.out z h with h' | h'
                      · exact .inl h'
                      · right; omega
                    · right; omega
                  · have := hB4.set_ k (.int .i64 x); simpa using this
                | refine ⟨v, left4, HR4.out.keep ?_ ?_, by omega, by omega, fun z hz => ?_, HV4.out, ?_, bw_set hbl4 (Nat.le_refl _) _, by simp; omega⟩
                  · exact Below.heap_setCell _ _ _ _ (by simp; omega)
                  · exact Below.heap_setCell _ _ _ _ (by simp; omega)
                  · rcases HV3.out z hz with h | h
                    · rcases HL4.out z h with h' | h'
                      · exact .inl h'
                      · right; omega
                    · right; omega
                  · have := hB4.set_ k (.int .i64 v); simpa using this
    · obtain rfl : k = 8 := by omega
      go_wp2
      go_ret
      exact ⟨rfl, hB, hbl⟩
end Go.Proofs.YtlnplelandimeaaGreat
end
