import Derived.Test.YtlnplelandimeaaGreatZFleetFrames24
import Derived.Maps.RangeWalk
import Derived.Test.YtlnplelandimeaaGreatZFleetFrames01
import Derived.Test.YtlnplelandimeaaGreatZFleetFrames23
import Derived.Test.YtlnplelandimeaaGreatZFleetFrames07
import Derived.Test.YtlnplelandimeaaGreatZFleetFrames10
set_option linter.all false
section
namespace Go.Proofs.YtlnplelandimeaaGreat
open Go.RowKit Go.MapKept Go.WideElems
def R0 : Value → Option (DataW Unit × List MemPlace) := fun _ => some (.nil, [])
def Rng (P : Program) (k : TypeId) (w : World) (b r : Nat) (ks : List Int) (left : Int → Bool) (cnt : Nat) : Prop :=
  ∃ (n : Nat) (D : DataW Unit) (L : Lit → Bool), w.ranges P k R0 b r n D L cnt ∧ (∀ kl, L kl = true → ∃ x ∈ ks, kl = .int .i64 x) ∧ ∀ x, left x = L (.int .i64 x)
theorem mkEs_mem {x : MapEntry} : ∀ (m : List (Int × Value)) (i : Nat), x ∈ mkEs m i → (∃ k v, (k, v) ∈ m ∧ x.key = .int .i64 k) ∧ i ≤ x.born ∧ x.born < i + m.length
  | [], _, h => by simp [mkEs] at h
  | (k, v) :: r, i, h => by
    simp only [mkEs, List.mem_cons] at h
    rcases h with rfl | h
    · exact ⟨⟨k, v, by simp, rfl⟩, by simp, by simp⟩
    · obtain ⟨⟨k', v', h1, h2⟩, h3, h4⟩ := mkEs_mem r (i + 1) h
      exact ⟨⟨k', v', by simp [h1], h2⟩, by omega, by simp only [List.length_cons]; omega⟩
theorem mkEs_keys : ∀ (m : List (Int × Value)) (i : Nat), (mkEs m i).map (·.key) = m.map fun p => .int .i64 p.1
  | [], _ => rfl
  | (k, v) :: r, i => by simp [mkEs, mkEs_keys r (i + 1)]
theorem mkEs_born : ∀ (m : List (Int × Value)) (i : Nat), ((mkEs m i).map (·.born)).Nodup
  | [], _ => by simp [mkEs]
  | (k, v) :: r, i => by
    simp only [mkEs, List.map_cons, List.nodup_cons]
    refine ⟨fun h => ?_, mkEs_born r (i + 1)⟩
    obtain ⟨x, hx, he⟩ := List.mem_map.1 h
    have := (mkEs_mem r (i + 1) hx).2.1
    omega
section
variable {P : Program} {w w' : World} {b r : Nat} {m : List (Int × Value)}
theorem MapAt.owns {k : TypeId} (hk : P.underlying k = some (.int .i64)) (h : MapAt w b m) (hn : m.length ≤ 1000000) (hd : (m.map (·.1)).Nodup) (hw : ∀ p ∈ m, (Lit.int .i64 p.1).wf = true) :
    ∃ D : DataW Unit, w.ownsMap P k R0 b m.length D ∧ (∀ kl, Maps.has D kl = true → ∃ x ∈ m.map (·.1), kl = .int .i64 x) ∧ (∀ x ∈ m.map (·.1), Maps.has D (.int .i64 x) = true) ∧ Maps.size D = m.length := by
  have hrd : ∀ x ∈ (mkEs m 0), ∃ z, z ∈ m.map (·.1) ∧ rd P k R0 x = some (.int .i64 z, .nil) := fun x hx => by
    obtain ⟨⟨kk, v, h1, h2⟩, _⟩ := mkEs_mem m 0 hx
    exact ⟨kk, List.mem_map.2 ⟨_, h1, rfl⟩, by simp [rd, h2, keyOf, hk, mapKey, hw _ h1, R0]⟩
  have hrg : ∀ x ∈ (mkEs m 0), ∃ z, z ∈ m.map (·.1) ∧ rg P k R0 x = (.int .i64 z, .nil) := fun x hx => by
    obtain ⟨z, h1, h2⟩ := hrd x hx
    exact ⟨z, h1, rg_of h2⟩
  refine ⟨_, ⟨_, _, h, ⟨?_, ⟨?_, ?_, ?_⟩, ?_⟩, ?_, rfl⟩, ?_, ?_, ?_⟩
  · simp [mkEs_length, maxLen]; omega
  · intro x hx
    have := (mkEs_mem m 0 (by simpa using hx)).2.2
    omega
  · simpa using mkEs_born m 0
  · simp only [mkEs_keys]
    have : (m.map fun p => Value.int .i64 p.1) = (m.map (·.1)).map (fun z => Value.int .i64 z) := by simp
    rw [this]
    exact List.Pairwise.map _ (fun a b hne e => hne (by simpa using e)) hd
  · intro x hx
    obtain ⟨z, _, h2⟩ := hrd x (by simpa using hx)
    exact ⟨_, h2⟩
  · simp [mkEs_length]
  · intro kl hkl
    obtain ⟨p, hp, hs⟩ := List.any_eq_true.1 hkl
    rw [mem_sorted] at hp
    obtain ⟨x, hx, rfl⟩ := List.mem_map.1 hp
    obtain ⟨z, h1, h2⟩ := hrg x (by simpa using hx)
    rw [h2] at hs
    refine ⟨z, h1, ?_⟩
    cases kl <;> simp [Lit.sameKey] at hs
    obtain ⟨rfl, rfl⟩ := hs
    rfl
  · intro z hz
    obtain ⟨p, hp, rfl⟩ := List.mem_map.1 hz
    have : Value.int .i64 p.1 ∈ (mkEs m 0).map (·.key) := by rw [mkEs_keys]; exact List.mem_map.2 ⟨p, hp, rfl⟩
    obtain ⟨x, hx, hxk⟩ := List.mem_map.1 this
    refine List.any_eq_true.2 ⟨rg P k R0 x, mem_sorted.2 (List.mem_map.2 ⟨x, by simpa using hx, rfl⟩), ?_⟩
    have : rd P k R0 x = some (.int .i64 p.1, .nil) := by simp [rd, hxk, keyOf, hk, mapKey, hw _ hp, R0]
    rw [rg_of this]
    simp [Lit.sameKey]
  · simp [Maps.size, length_sorted, mkEs_length]
variable {ops : Array Oper} {rest : List Oper} {o : Oper} {a : Act} {Q : Exit → Act → World → Prop}
theorem wpList_range_mp (hg : o.guard = none) (mo : Operand) (t : TypeId) (hop : o.op = Op.range t mo) (k e : TypeId) (ht : P.underlying t = some (.map k e)) (hk : P.underlying k = some (.int .i64))
    (hm : a.eval mo = .map (some b)) (h : MapAt w b m) (hn : m.length ≤ 1000000) (hd : (m.map (·.1)).Nodup) (hw : ∀ p ∈ m, (Lit.int .i64 p.1).wf = true)
    (hK : ∀ w' left, Rng P k w' b w.heap.size (m.map (·.1)) left m.length → (∀ x ∈ m.map (·.1), left x = true) → w.grownBy w' none → w'.heap.size = w.heap.size + 1 → wpList P ops Q rest (a.put o.dst (.pointer (some ⟨w.heap.size, 0, none⟩))) w') :
    wpList P ops Q (o :: rest) a w := by
  obtain ⟨D, h1, h2, h3, h4⟩ := h.owns hk hn hd hw
  refine wpList_range_own w hg mo t hop k e (Maps.int_keyed hk) ht R0 b m.length D hm h1 fun w' r1 r2 r3 => ?_
  rw [h4] at r1
  exact hK w' (fun x => Maps.has D (.int .i64 x)) ⟨_, D, _, r1, h2, fun x => rfl⟩ h3 r2 r3
theorem wpList_next_mp {ks : List Int} {left : Int → Bool} {cnt : Nat} (hg : o.guard = none) (it : Operand) (hop : o.op = Op.next it false) (k : TypeId) (hk : P.underlying k = some (.int .i64))
    (hit : a.eval it = .pointer (some ⟨r, 0, none⟩)) (h : Rng P k w b r ks left cnt)
    (hDone : Hid (∀ x, left x = false) → wpList P ops Q rest (a.put o.dst (.tuple #[.bool false])) w)
    (hMore : ∀ (x : Int) (c : Value) (w' : World) (left' : Int → Bool) (cnt' : Nat), Hid (x ∈ ks) → Hid (Rng P k w' b r ks left' cnt') → Hid (∀ z, left z = true → left' z = true ∨ z = x) → cnt' < cnt →
      w.grownBy w' (some r) → w'.heap.size = w.heap.size → (Instr.entry (.pointer (some ⟨r, 0, none⟩))).run P w' = .ok (.tuple #[.int .i64 x, c]) w' → wpList P ops Q rest (a.put o.dst (.tuple #[.bool true, .int .i64 x, c])) w') :
    wpList P ops Q (o :: rest) a w := by
  obtain ⟨n, D, L, h1, h2, h3⟩ := h
  refine wpList_next_ranges (α := Int) (β := Value) w hg it hop k (Maps.int_keyed hk) R0 (Value.int .i64) (fun v => v) (fun key kl hkey => by obtain ⟨x, rfl, _⟩ := Maps.keyOf_int_inv hk hkey; exact ⟨x, rfl⟩) (fun v y _ => ⟨v, rfl⟩) b r n D L cnt hit h1
    (fun _ hl => hDone (Lib.hid fun x => by rw [h3]; exact hl _)) (fun x c kl y w' cnt' hkey hlk _ _ hrg hlt hgr hsz hen => ?_)
  obtain ⟨x', ex, rfl, _⟩ := Maps.keyOf_int_inv hk hkey
  cases ex
  obtain ⟨z, hz, hzz⟩ := h2 _ hlk
  cases hzz
  refine hMore x c w' (fun z => L (.int .i64 z) && !(Lit.int .i64 z).sameKey (.int .i64 x)) cnt' (Lib.hid hz) (Lib.hid ⟨n, D, _, hrg, fun kl hkl => h2 kl (by simp at hkl; exact hkl.1), fun z => rfl⟩) (Lib.hid (fun z hz => ?_)) hlt hgr hsz hen
  by_cases e : z = x
  · exact .inr e
  · left
    rw [h3] at hz
    simp [hz, Lit.sameKey, e]
theorem Rng.keep {k : TypeId} {ks : List Int} {left : Int → Bool} {cnt : Nat} (h : Rng P k w b r ks left cnt) (h1 : w'.heap[b]? = w.heap[b]?) (h2 : w'.heap[r]? = w.heap[r]?) : Rng P k w' b r ks left cnt := by
  obtain ⟨n, D, L, ⟨es, clock, since, seen, c0, x1, x2, x3, x4, x5, rest⟩, h3, h4⟩ := h
  exact ⟨n, D, L, ⟨es, clock, since, seen, c0, h1.trans x1, x2, x3, x4, h2.trans x5, rest⟩, h3, h4⟩
end
end Go.Proofs.YtlnplelandimeaaGreat
end
section
namespace Go.Proofs.YtlnplelandimeaaGreat
open Go.RowKit
end Go.Proofs.YtlnplelandimeaaGreat
end
section
namespace Go.Proofs.YtlnplelandimeaaGreat
open Go.RowKit
def Bk (w : World) (g : Nat) (t : TypeId) (cs : Array Value) : Prop := w.heap[g]? = some (.cells cs t (0, 0))
section
variable {w w' : World} {g : Nat} {t : TypeId} {cs : Array Value}
theorem Bk.lt (h : Bk w g t cs) : g < w.heap.size := by
  rcases Nat.lt_or_ge g w.heap.size with hlt | hge
  · exact hlt
  · unfold Bk at h; rw [Array.getElem?_eq_none hge] at h; cases h
theorem Bk.cell (h : Bk w g t cs) (i : Nat) : w.cell? ⟨g, i, none⟩ = cs[i]? := cell_of_row w g i cs t (0, 0) h
theorem Bk.frozen (h : Bk w g t cs) : ∀ i, w.frozen? ⟨g, i, none⟩ = false := fun i => by
  unfold Bk at h
  simp [World.frozen?, h]
theorem Bk.new (w : World) (t : TypeId) (cs : Array Value) : Bk (w.alloc (.cells cs t)) w.heap.size t cs := heap_alloc_new w _
theorem Bk.drew (h : Bk w g t cs) : Bk w.drew g t cs := h
theorem Bk.drewN (h : Bk w g t cs) (n : Nat) : Bk (w.drewN n) g t cs := h
theorem Bk.alloc (h : Bk w g t cs) (o : Obj) : Bk (w.alloc o) g t cs := (Below.heap_alloc w o g h.lt).trans h
theorem Bk.set_ (h : Bk w g t cs) (i : Nat) (u : Value) : Bk (w.setCell ⟨g, i, none⟩ u) g t (cs.setIfInBounds i u) := by
  unfold Bk at h ⊢
  simp [World.setCell, Array.getElem?_modify, h]
theorem Bk.call (h : Bk w g t cs) (hb : Below w.heap.size w w') : Bk w' g t cs := (hb.block g h.lt).trans h
end
end Go.Proofs.YtlnplelandimeaaGreat
end
section
namespace Go.Proofs.YtlnplelandimeaaGreat
open Go.RowKit
def keysL (m : List (Int × Fr)) : List Int := m.map (·.1)
def grpL (l : List Int) (a : Int) : Int := l.foldl min a
def grp (rs : List Rel) (a : Int) : Int := grpL (keysL (fromL rs a)) a
theorem grpL_spec : ∀ (l : List Int) (a : Int), grpL l a ≤ a ∧ (∀ k ∈ l, grpL l a ≤ k) ∧ (grpL l a = a ∨ grpL l a ∈ l)
  | [], a => by simp [grpL]
  | k :: l, a => by
    have h := grpL_spec l (min a k)
    have e : grpL (k :: l) a = grpL l (min a k) := rfl
    rw [e]
    obtain ⟨h1, h2, h3⟩ := h
    refine ⟨by omega, ?_, ?_⟩
    · intro z hz
      rcases List.mem_cons.1 hz with rfl | hz
      · omega
      · exact h2 z hz
    · rcases h3 with h3 | h3
      · rcases (by omega : min a k = a ∨ min a k = k) with h | h
        · left; omega
        · right; rw [h3, h]; simp
      · right; simp [h3]
theorem grpL_eq {l : List Int} {a v : Int} (h1 : v ≤ a) (h2 : ∀ k ∈ l, v ≤ k) (h3 : v = a ∨ v ∈ l) : v = grpL l a := by
  obtain ⟨g1, g2, g3⟩ := grpL_spec l a
  rcases h3 with h3 | h3 <;> rcases g3 with g3 | g3
  · omega
  · have := h2 _ g3; omega
  · have := g2 _ h3; omega
  · have := h2 _ g3; have := g2 _ h3; omega
def arrG (rs : List Rel) (k : Nat) : Array Value := ((List.range 8).map fun i => Value.int .i64 (if i < k then grp rs i else 0)).toArray
theorem arrG_zero (rs : List Rel) : arrG rs 0 = #[.int .i64 0, .int .i64 0, .int .i64 0, .int .i64 0, .int .i64 0, .int .i64 0, .int .i64 0, .int .i64 0] := rfl
theorem arrG_size (rs : List Rel) (k : Nat) : (arrG rs k).size = 8 := by simp [arrG]
theorem arrG_get (rs : List Rel) (k i : Nat) (h : i < 8) : (arrG rs k)[i]? = some (.int .i64 (if i < k then grp rs i else 0)) := by
  simp [arrG, h]
theorem arrG_succ (rs : List Rel) (k : Nat) : (arrG rs k).setIfInBounds k (.int .i64 (grp rs k)) = arrG rs (k + 1) := by
  apply Array.ext_getElem?
  intro i
  rw [Array.getElem?_setIfInBounds]
  by_cases hi : i < 8
  · rw [arrG_get rs k i hi, arrG_get rs (k + 1) i hi, arrG_size]
    by_cases e : k = i
    · subst e; simp [hi]
    · rw [if_neg e]
      by_cases h : i < k
      · rw [if_pos h, if_pos (by omega)]
      · rw [if_neg h, if_neg (by omega)]
  · rw [Array.getElem?_eq_none (by rw [arrG_size]; omega), Array.getElem?_eq_none (by rw [arrG_size]; omega), arrG_size]
    split <;> simp
    omega
theorem makeG (w : World) : (Instr.makeSlice 62 (.int .i64 8) (.int .i64 8)).run Tryz.prog w = .ok (.slice (some ⟨w.heap.size, 0, none⟩) 8 8) (w.alloc (.cells #[.int .i64 0, .int .i64 0, .int .i64 0, .int .i64 0, .int .i64 0, .int .i64 0, .int .i64 0, .int .i64 0] 3)) := by kernel_rfl
def GrO (rs : List Rel) (w : World) (g : Nat) (i : Value) (wr : World) : Prop :=
  ∃ k : Nat, k ≤ 8 ∧ g = 8 - k ∧ i = .int .i64 k ∧ Bk wr w.heap.size 3 (arrG rs k) ∧ Below w.heap.size w wr
def GrI (rs : List Rel) (w : World) (k b r : Nat) (g : Nat) (wr : World) : Prop :=
  ∃ (v : Int) (left : Int → Bool), Rng Tryz.prog 3 wr b r (keysL (fromL rs k)) left g ∧ v ≤ k ∧ -1000 ≤ v ∧ (∀ x ∈ keysL (fromL rs k), left x = true ∨ v ≤ x) ∧ (v = k ∨ v ∈ keysL (fromL rs k)) ∧
    Bk wr w.heap.size 3 ((arrG rs k).setIfInBounds k (.int .i64 v)) ∧ Below w.heap.size w wr ∧ r < wr.heap.size
theorem fromL_ok {rs : List Rel} {a : Int} (h0 : 0 ≤ a) (h1 : a < 8) (hok : ∀ r ∈ rs, RelOk r) : MOk (fromL rs a) := by
  unfold fromL
  generalize 8 = n
  have : ∀ (n : Nat) (m : List (Int × Fr)), MOk m → MOk (iterM rs n m) := fun n => by
    induction n with
    | zero => intro m h; exact h
    | succ n ih => intro m h; exact ih _ (passM_ok h hok)
  exact this n _ (MOk.start a h0 h1)
theorem wf_small {n : Int} (h0 : 0 ≤ n) (h1 : n < 8) : (Lit.int .i64 n).wf = true := by
  simp [Lit.wf, IntKind.min, IntKind.max, IntKind.signed, IntKind.bits]
  omega
theorem below_grown {w w1 w2 : World} {r : Nat} (h : Below w.heap.size w w1) (hg : w1.grownBy w2 (some r)) (hr : w.heap.size ≤ r) : Below w.heap.size w w2 :=
  h.grown hg h.size (fun _ e => by injection e with e; omega)
theorem below_grown0 {w w1 w2 : World} (h : Below w.heap.size w w1) (hg : w1.grownBy w2 none) : Below w.heap.size w w2 :=
  h.grown hg h.size (fun _ e => by cases e)
theorem bk_grown {w1 w2 : World} {g : Nat} {t : TypeId} {cs : Array Value} {r : Option Nat} (h : Bk w1 g t cs) (hg : w1.grownBy w2 r) (hr : some g ≠ r) : Bk w2 g t cs :=
  (hg.block g h.lt hr).trans h
set_option maxRecDepth 100000 in
set_option maxHeartbeats 2000000 in
theorem Groups_any (rb : Nat) (ob : Option Nat) (rs : List Rel) (w : World) (hr : RObj w rb ob rs) (hn : rs.length ≤ 100) :
    Calls Tryz.prog 27 #[.pointer (some ⟨rb, 0, none⟩)] w fun e w' => e = .returned (.slice (some ⟨w.heap.size, 0, none⟩) 8 8) ∧ Bk w' w.heap.size 3 (arrG rs 8) ∧ Below w.heap.size w w' := by
  have HR := Lib.hid hr
  have HOK := Lib.hid (show ∀ r ∈ rs, RelOk r from hr.choose_spec.2.2.2.2)
  clear hr
  have hmk := makeG
  go_enter Tryz.func27, Tryz.ntmps27
  go_wp2
  clear hmk
  go_loopg [11] 8 (fun g i wr => GrO rs w g i wr)
  case atStart => exact ⟨0, by omega, by omega, by simp, by rw [arrG_zero]; exact Bk.new _ _ _, bw_alloc (bw_refl w) _⟩
  case round =>
    obtain ⟨k, hk, hgk, rfl, hB, hbl⟩ := hrel
    have HG := Lib.hid hgk
    clear hgk
    by_cases hlt : k < 8
    · have hk0 : (0 : Int) ≤ k := by omega
      have hk8 : (k : Int) < 8 := by omega
      have hc0 := (hB.cell k).trans (arrG_get rs k k hlt)
      rw [if_neg (by omega)] at hc0
      have hf0 := hB.frozen k
      have hBl := hB.lt
      go_wp2_with fail
      have hB1 := hB.set_ k (.int .i64 k)
      have hbl1 : Below w.heap.size w (wr.setCell ⟨w.heap.size, k, none⟩ (.int .i64 k)) := bw_set hbl (Nat.le_refl _) _
      generalize wr.setCell ⟨w.heap.size, k, none⟩ (.int .i64 k) = w1 at *
      clear hc0 hf0 hB hbl hBl
      obtain ⟨A, c, hc, hra⟩ := (HR.out.below hbl1).read
      refine (from_any rb A c rs k _ hc hra HOK.out hn hk0 hk8).mono ?_
      clear hc hra
      rintro e w2 ⟨rfl, hm, hb2⟩
      have hB2 := hB1.call hb2
      have hbl2 := bw_call hb2 hbl1
      have hlt12 : w.heap.size < w1.heap.size := hB1.lt
      have hmo := Lib.hid (fromL_ok hk0 hk8 HOK.out)
      have hk1 : ((encM (fromL rs k)).map (·.1)) = keysL (fromL rs k) := by simp [keysL, encM, Function.comp_def]
      have hnd : ((encM (fromL rs k)).map (·.1)).Nodup := by rw [hk1]; exact hmo.out.nodup
      have hwf : ∀ p ∈ encM (fromL rs k), (Lit.int .i64 p.1).wf = true := by
        intro p hp
        have : p.1 ∈ keysL (fromL rs k) := by rw [← hk1]; exact List.mem_map.2 ⟨p, hp, rfl⟩
        obtain ⟨q, hq, he⟩ := List.mem_map.1 this
        have := hmo.out.keys q hq
        exact wf_small (by omega) (by omega)
      have hln : (encM (fromL rs k)).length ≤ 1000000 := by have := hmo.out.len; simp [encM]; omega
      have Hk1 := Lib.hid hk1
      have Hnd := Lib.hid hnd
      have Hwf := Lib.hid hwf
      have Hm := Lib.hid hm
      have Hln := Lib.hid hln
      clear hk1 hnd hwf hm hln hB1 hbl1 hb2
      go_wp2_with (at_range; refine wpList_range_mp rfl _ 105 rfl 3 37 Tryz.underlying105 Tryz.underlying3 rfl Hm.out Hln.out Hnd.out Hwf.out ?_; intro w3 left hrg hall hg3 hs3)
      go_frame
      have hB3 := bk_grown hB2 hg3 (by simp)
      have hbl3 := below_grown0 hbl2 hg3
      have hw12 : w.heap.size < w2.heap.size := hB2.lt
      have hrm : w1.heap.size < w2.heap.size := Hm.out.lt
      rw [Hk1.out] at hrg hall
      clear hB2 hbl2 hg3
      go_loopg [5] (encM (fromL rs k)).length (fun g _ wr => GrI rs w k w1.heap.size w2.heap.size g wr)
      case atStart => exact ⟨k, left, hrg, by omega, by omega, fun x hx => .inl (hall x hx), .inl rfl, hB3, hbl3, by omega⟩
      case round =>
        clear hrg hall hB3 hbl3 hs3
        obtain ⟨v, left', hrg, hv1, hv2, hv3, hv4, hB3, hbl3, hr3⟩ := hrel
        have HV3 := Lib.hid hv3
        have HV4 := Lib.hid hv4
        have HRG := Lib.hid hrg
        clear hv3 hv4 hrg
        go_wp2_with (at_next; refine wpList_next_mp rfl _ rfl 3 Tryz.underlying3 rfl HRG.out ?_ ?_)
        · intro hl
          have hv := Lib.hid (show v = grp rs k from grpL_eq hv1 (fun x hx => (HV3.out x hx).resolve_left (by simp [hl.out x])) HV4.out)
          clear hl
          go_wp2
          go_roundg (8 - (k + 1))
          case measure => have := HG.out; omega
          case rel => exact ⟨k + 1, by omega, rfl, by simp, by rw [← arrG_succ, ← hv.out]; exact hB3, hbl3⟩
        · intro x cv w4 left4 cnt4 HX HR4 HL4 hct hg4 hs4 hen
          have hB4 := bk_grown hB3 hg4 (by simp; omega)
          have hbl4 := below_grown hbl3 hg4 (by omega)
          have hc4 := (hB4.cell k).trans (show _ = some (.int .i64 v) by rw [Array.getElem?_setIfInBounds_self, arrG_size, if_pos hlt])
          have hf4 := hB4.frozen k
          have hk2 := hmo.out
          obtain ⟨x0, x8⟩ : 0 ≤ x ∧ x < 8 := by
            obtain ⟨q, hq, rfl⟩ := List.mem_map.1 HX.out
            exact hk2.keys q hq
          clear hk2
          by_cases hvx : x < v
          all_goals
            go_wp2
            go_roundg cnt4
            case measure => exact hct
            case rel =>
              first
                | refine ⟨x, left4, HR4.out.keep ?_ ?_, by omega, by omega, fun z hz => ?_, .inr HX.out, ?_, bw_set hbl4 (Nat.le_refl _) _, by simp; omega⟩
                  · exact Below.heap_setCell _ _ _ _ (by simp; omega)
                  · exact Below.heap_setCell _ _ _ _ (by simp; omega)
                  · rcases HV3.out z hz with h | h
                    · rcases HL4.out z h with h' | h'
                      · exact .inl h'
                      · right; omega
                    · right; omega
                  · have := hB4.set_ k (.int .i64 x); simpa using this
                | refine ⟨v, left4, HR4.out.keep ?_ ?_, by omega, by omega, fun z hz => ?_, HV4.out, ?_, bw_set hbl4 (Nat.le_refl _) _, by simp; omega⟩
                  · exact Below.heap_setCell _ _ _ _ (by simp; omega)
                  · exact Below.heap_setCell _ _ _ _ (by simp; omega)
                  · rcases HV3.out z hz with h | h
                    · rcases HL4.out z h with h' | h'
                      · exact .inl h'
                      · right; omega
                    · right; omega
                  · have := hB4.set_ k (.int .i64 v); simpa using this
    · obtain rfl : k = 8 := by omega
      go_wp2
      go_ret
      exact ⟨rfl, hB, hbl⟩
end Go.Proofs.YtlnplelandimeaaGreat
end
section
namespace Go.Proofs.YtlnplelandimeaaGreat.En
open Go.RowKit
abbrev RelT := Go.Proofs.YtlnplelandimeaaGreat.Rel
def relO (rb : Nat) (rs : List RelT) : OB := .res fun w F => ∃ q, RObj w rb q rs ∧ ∀ i, F i ↔ (i = rb ∨ q = some i)
theorem relO_at {σ : Nat → Nat} {n : Nat} {w : World} {b rb : Nat} {q : Option Nat} {rs : List RelT} (h : RObj w rb q rs) : (relO rb rs).at σ n w b (fun i => i = rb ∨ q = some i) :=
  ⟨⟨q, h, fun _ => Iff.rfl⟩, fun w' hw => ⟨q, h.keep (hw rb (.inl rfl)) (fun g hg => hw g (.inr hg)), fun _ => Iff.rfl⟩⟩
theorem nth_rel {C : Ctx} {σ : Nat → Nat} {fp : Nat → Nat → Prop} {ob : List OB} {w : World} {j rb : Nat} {rs : List RelT} (hm : Mem C σ fp ob w) (h : nth ob j = some (relO rb rs)) : (∃ q, RObj w rb q rs ∧ ∀ i, fp j i ↔ (i = rb ∨ q = some i)) ∧ j < ob.length := by
  rw [nth_eq] at h
  exact ⟨(hm.at_ j _ h).1, (List.getElem?_eq_some_iff.1 h).1⟩
section
variable {C : Ctx} {ob : List OB} {k : SV → List OB → Prop}
theorem CallX_New (hP : C.P = Tryz.prog) (hk : ∀ rb, force (ob ++ [relO rb []]) fun ob => k (.v (.pointer (some ⟨rb, 0, none⟩))) ob) (hd : C.d = false := by rfl) : CallX C 57 [] ob k := by
  simp only [force_eq] at hk
  unfold CallX
  rw [hP]
  refine ⟨Entr.of Tryz.func57 rfl rfl, fun σ fp w hm => (New_any w).mono ?_⟩
  rintro e w' ⟨rfl, rfl⟩
  have hb : Below w.heap.size w (w.alloc (.cells #[.slice none 0 0] 143)) := (Below.refl _ _).alloc (Nat.le_refl _) _
  exact ⟨_, rfl, .v (.pointer (some ⟨w.heap.size, 0, none⟩)), _, _, _, hk _, fun j hj => by simp [show j ≠ ob.length by omega], by simp, rfl, trivial,
    hm.pushO hb (relO w.heap.size []) 0 _ (relO_at (RObj.new w)) (by rintro i (rfl | h); exact ⟨Nat.le_refl _, by simp⟩; cases h) (fun h => by rw [hd] at h; cases h), Frm.pushed hb (by simp) (by rintro i (rfl | h); exact Nat.le_refl _; cases h)⟩
theorem CallX_Add (j : Nat) {rb : Nat} {rs : List RelT} {a b q x y : Int} (hP : C.P = Tryz.prog) (hj : nth ob j = some (relO rb rs)) (hn : rs.length ≤ 99) (hk : force (setN ob j (relO rb (addF rs (a, b, q, x, y)).2)) fun ob => k (I (addF rs (a, b, q, x, y)).1) ob) (hd : C.d = false := by rfl) :
    CallX C 58 [.v (.pointer (some ⟨rb, 0, none⟩)), .a [I a, I b, I q, I x, I y]] ob k := by
  unfold CallX
  rw [hP]
  refine ⟨Entr.of Tryz.func58 rfl rfl, fun σ fp w hm => ?_⟩
  obtain ⟨⟨o, hr, hF⟩, hjl⟩ := nth_rel hm hj
  refine (Add_any rb o rs (a, b, q, x, y) w hr hn).mono ?_
  rintro e w' ⟨rfl, o', hr', hloc, honly⟩
  rw [force_eq, setN_eq] at hk
  have hin : ∀ i, (i = rb ∨ o' = some i) → fp j i ∨ w.heap.size ≤ i := by
    rintro i (rfl | h)
    · exact .inl ((hF i).2 (.inl rfl))
    · rcases hloc with rfl | ⟨g, rfl, hg⟩
      · exact .inl ((hF i).2 (.inr h))
      · simp at h; subst h; exact .inr hg
  have hsame : ∀ i, i < w.heap.size → ¬ fp j i → w'.heap[i]? = w.heap[i]? := by
    intro i hi hni
    exact honly.block i hi (fun h => hni ((hF i).2 (.inl h))) (fun h => hni ((hF i).2 (.inr h.symm)))
  refine ⟨_, rfl, _, _, σ, _, hk, fun _ _ => rfl, by simp, rfl, trivial, hm.change hjl (relO rb _) (fun i => i = rb ∨ o' = some i) (relO_at hr') hin ?_ honly.os honly.tape honly.output honly.size hsame (fun h => by rw [hd] at h; cases h), Frm.changed hjl (by simp) hin honly.size hsame⟩
  rintro i (rfl | h)
  · exact hr'.lt.1
  · exact hr'.lt.2 i h
def frS (f : Fr) : SV := .a [I f.1, I f.2.1, I f.2.2]
theorem CallX_Between (j : Nat) {rb : Nat} {rs : List RelT} {a b : Int} (hP : C.P = Tryz.prog) (hj : nth ob j = some (relO rb rs)) (hn : rs.length ≤ 100)
    (hk : k (.t [.a [I ((btF rs a b).getD (0, 0, 0)).1, I ((btF rs a b).getD (0, 0, 0)).2.1, I ((btF rs a b).getD (0, 0, 0)).2.2], B (btF rs a b).isSome]) ob) (hd : C.d = false := by rfl) : CallX C 22 [.v (.pointer (some ⟨rb, 0, none⟩)), I a, I b] ob k := by
  unfold CallX
  rw [hP]
  refine ⟨Entr.of Tryz.func22 rfl rfl, fun σ fp w hm => ?_⟩
  obtain ⟨⟨o, hr, hF⟩, hjl⟩ := nth_rel hm hj
  refine (Between_any rb o rs a b w hr hn).mono ?_
  rintro e w' ⟨rfl, hb⟩
  refine ⟨_, rfl, _, ob, σ, fp, hk, fun _ _ => rfl, Nat.le_refl _, ?_, by simp [SV.wf, SV.wfs], hm.below hb (fun h => by rw [hd] at h; cases h), Frm.below hb⟩
  cases btF rs a b <;> simp [btV, frV, SV.val, SV.vals]
def grps (rs : List RelT) : List Int := (List.range 8).map fun (i : Nat) => grp rs (i : Int)
theorem CallX_Groups (j : Nat) {rb : Nat} {rs : List RelT} (hP : C.P = Tryz.prog) (hj : nth ob j = some (relO rb rs)) (hn : rs.length ≤ 100)
    (hk : ∀ b, force (ob ++ [.row 3 1 (some ⟨b, 0, none⟩) 8 8 ((grps rs).map fun x => [encI x])]) fun ob => k (.v (.slice (some ⟨b, 0, none⟩) 8 8)) ob) (hd : C.d = false := by rfl) : CallX C 27 [.v (.pointer (some ⟨rb, 0, none⟩))] ob k := by
  simp only [force_eq] at hk
  unfold CallX
  rw [hP]
  refine ⟨Entr.of Tryz.func27 rfl rfl, fun σ fp w hm => ?_⟩
  obtain ⟨⟨o, hr, hF⟩, hjl⟩ := nth_rel hm hj
  refine (Groups_any rb o rs w hr hn).mono ?_
  rintro e w' ⟨rfl, hbk, hb⟩
  have hfl : ((grps rs).map fun x => [encI x]).flatten = (arrG rs 8).toList := by
    simp [grps, arrG, List.range_succ, encI]
  refine ⟨_, rfl, Goes.pushRow (els := (grps rs).map fun x => [encI x]) hm hb ⟨by rw [hfl]; simp [arrG_size], .inr ⟨w.heap.size, 8, arrG rs 8, rfl, Nat.le_refl _, hbk, Nat.le_refl _, by simp [maxLen], by simp [arrG_size], by rw [hfl]; exact List.take_of_length_le (by simp [arrG_size])⟩⟩ (by simp [grps]) (by simp) ?_ (.v (.slice (some ⟨w.heap.size, 0, none⟩) 8 8)) (fun _ => rfl) trivial (hk _) (fun h => by rw [hd] at h; cases h)⟩
  intro x hx
  obtain ⟨l, hl, hxl⟩ := List.mem_flatten.1 hx
  obtain ⟨q, _, rfl⟩ := List.mem_map.1 hl
  simp at hxl
  subst hxl
  rfl
end
end Go.Proofs.YtlnplelandimeaaGreat.En
end
section
namespace Go.Proofs.YtlnplelandimeaaGreat
open Go.RowKit
section
variable {P : Program} {ops : Array Oper} {md : Region.Mode} {S : World → Prop}
end
end Go.Proofs.YtlnplelandimeaaGreat
end
section
namespace Go.Proofs.YtlnplelandimeaaGreat
open Go.RowKit
def FrOk (f : Fr) : Prop := 0 ≤ f.1 ∧ f.1 < 4
theorem turn4 {q : Int} (h0 : 0 ≤ q) (h1 : q < 4) : q = 0 ∨ q = 1 ∨ q = 2 ∨ q = 3 := by omega
theorem cmpF_assoc (f g h : Fr) (hf : FrOk f) (hg : FrOk g) : cmpF (cmpF f g) h = cmpF f (cmpF g h) := by
  obtain ⟨fq, fx, fy⟩ := f
  obtain ⟨gq, gx, gy⟩ := g
  obtain ⟨hq, hx, hy⟩ := h
  obtain ⟨f0, f1⟩ := hf
  obtain ⟨g0, g1⟩ := hg
  simp only at f0 f1 g0 g1
  rcases turn4 f0 f1 with rfl | rfl | rfl | rfl <;> rcases turn4 g0 g1 with rfl | rfl | rfl | rfl <;> simp [cmpF, tX, tY] <;> omega
theorem cmpF_zero (f : Fr) (hf : FrOk f) : cmpF f (0, 0, 0) = f := by
  obtain ⟨fq, fx, fy⟩ := f
  obtain ⟨f0, f1⟩ := hf
  simp only at f0 f1
  rcases turn4 f0 f1 with rfl | rfl | rfl | rfl <;> simp [cmpF, tX, tY]
theorem zero_cmpF (f : Fr) (hf : FrOk f) : cmpF (0, 0, 0) f = f := by
  obtain ⟨fq, fx, fy⟩ := f
  obtain ⟨f0, f1⟩ := hf
  simp only at f0 f1
  simp [cmpF, tX, tY]
  omega
theorem cmpF_inv (f : Fr) (hf : FrOk f) : cmpF f (invF f) = (0, 0, 0) := by
  obtain ⟨fq, fx, fy⟩ := f
  obtain ⟨f0, f1⟩ := hf
  simp only at f0 f1
  rcases turn4 f0 f1 with rfl | rfl | rfl | rfl <;> simp [cmpF, invF, tX, tY] <;> omega
theorem inv_cmpF (f : Fr) (hf : FrOk f) : cmpF (invF f) f = (0, 0, 0) := by
  obtain ⟨fq, fx, fy⟩ := f
  obtain ⟨f0, f1⟩ := hf
  simp only at f0 f1
  rcases turn4 f0 f1 with rfl | rfl | rfl | rfl <;> simp [cmpF, invF, tX, tY] <;> omega
theorem invF_ok (f : Fr) : FrOk (invF f) := by unfold FrOk invF; simp only; omega
theorem cmpF_ok (f g : Fr) : FrOk (cmpF f g) := by unfold FrOk cmpF; simp only; omega
theorem szB_in {n m : Int} (h1 : -m ≤ n) (h2 : n ≤ m) : szB n m = true := by simp [szB, h1, h2]
def InvPost (f : Fr) (A : Int) (w : World) (e : Ending) (w' : World) : Prop :=
  ∃ q x y : Int, e = .returned (.tuple #[.agg #[.int .i64 q, .int .i64 x, .int .i64 y], .int .i64 0]) ∧ Hid ((q, x, y) = invF f) ∧ (0 ≤ q ∧ q < 4 ∧ -A ≤ x ∧ x ≤ A ∧ -A ≤ y ∧ y ≤ A) ∧ Below w.heap.size w w'
theorem Inverse_ok (A : Int) (fq fx fy : Int) (w : World) (h1 : -A ≤ fx) (h2 : fx ≤ A) (h3 : -A ≤ fy) (h4 : fy ≤ A) (hA : A ≤ 8192) :
    Calls Tryz.prog 111 #[.agg #[.int .i64 fq, .int .i64 fx, .int .i64 fy]] w (InvPost (fq, fx, fy) A w) := by
  have hb := invF_bd (fq, fx, fy) A (by simp only; omega)
  refine (Inverse_any fq fx fy w).mono fun e w' ⟨he, hw⟩ => ⟨(invF (fq, fx, fy)).1, (invF (fq, fx, fy)).2.1, (invF (fq, fx, fy)).2.2, ?_, rfl, by omega, hw⟩
  rw [he]
  have e1 := szB_in (n := fx) (m := 8192) (by omega) (by omega)
  have e2 := szB_in (n := fy) (m := 8192) (by omega) (by omega)
  simp [InvV, invF, e1, e2]
end Go.Proofs.YtlnplelandimeaaGreat
end
section
namespace Go.Proofs.YtlnplelandimeaaGreat.En
open Go.RowKit
set_option maxRecDepth 100000
theorem Inverse_x (A : Int) (f : Fr) (h1 : -A ≤ f.2.1 ∧ f.2.1 ≤ A ∧ -A ≤ f.2.2 ∧ f.2.2 ≤ A) (hA : A ≤ 8192) :
    PureX Tryz.prog 111 [.a [I f.1, I f.2.1, I f.2.2]] (.t [.a [I (invF f).1, I (invF f).2.1, I (invF f).2.2], I 0]) := by
  refine PureX.mk' (Entr.of Tryz.func111 rfl rfl) (by simp [SV.wf, SV.wfs]) (by simp [SV.wf, SV.wfs]) fun w => (Inverse_ok A f.1 f.2.1 f.2.2 w (by omega) (by omega) (by omega) (by omega) hA).mono ?_
  rintro e w' ⟨q, x, y, rfl, hq, _, hb⟩
  refine ⟨?_, hb⟩
  rw [← hq]
  rfl
def nearF (f : Fr) (m : Int) : Fr := (f.1 % 4, clipI f.2.1 (-m) m, clipI f.2.2 (-m) m)
end Go.Proofs.YtlnplelandimeaaGreat.En
end
section
namespace Go.Proofs.YtlnplelandimeaaGreat
inductive Conn (rs : List Rel) (a : Int) : Int → Prop
  | refl : Conn rs a a
  | fwd {r : Rel} : Conn rs a r.1 → r ∈ rs → Conn rs a r.2.1
  | back {r : Rel} : Conn rs a r.2.1 → r ∈ rs → Conn rs a r.1
theorem Conn.trans {rs : List Rel} {a b c : Int} (h1 : Conn rs a b) (h2 : Conn rs b c) : Conn rs a c := by
  induction h2 with
  | refl => exact h1
  | fwd _ hr ih => exact .fwd ih hr
  | back _ hr ih => exact .back ih hr
theorem Conn.symm {rs : List Rel} {a b : Int} (h : Conn rs a b) : Conn rs b a := by
  induction h with
  | refl => exact .refl
  | fwd _ hr ih => exact (Conn.back .refl hr).trans ih
  | back _ hr ih => exact (Conn.fwd .refl hr).trans ih
theorem Conn.mono {rs rs' : List Rel} {a b : Int} (h : Conn rs a b) (hs : ∀ r ∈ rs, r ∈ rs') : Conn rs' a b := by
  induction h with
  | refl => exact .refl
  | fwd _ hr ih => exact .fwd ih (hs _ hr)
  | back _ hr ih => exact .back ih (hs _ hr)
theorem stepM_all (Q : Int → Fr → Prop) {m : List (Int × Fr)} {r : Rel} (h : ∀ p ∈ m, Q p.1 p.2) (h1 : ∀ f, Q r.1 f → Q r.2.1 (cmpF f r.2.2)) (h2 : ∀ g, Q r.2.1 g → Q r.1 (cmpF g (invF r.2.2))) : ∀ p ∈ stepM m r, Q p.1 p.2 := by
  unfold stepM
  cases ha : fLook m r.1 with
  | some f =>
    cases hb : fLook m r.2.1 with
    | some g => exact h
    | none =>
      intro p hp
      rcases List.mem_append.1 hp with hp | hp
      · exact h p hp
      · simp at hp; subst hp; exact h1 f (h _ (fLook_mem ha))
  | none =>
    cases hb : fLook m r.2.1 with
    | some g =>
      intro p hp
      rcases List.mem_append.1 hp with hp | hp
      · exact h p hp
      · simp at hp; subst hp; exact h2 g (h _ (fLook_mem hb))
    | none => exact h
theorem passM_all (Q : Int → Fr → Prop) : ∀ {rs : List Rel} {m : List (Int × Fr)}, (∀ p ∈ m, Q p.1 p.2) → (∀ r ∈ rs, ∀ f, Q r.1 f → Q r.2.1 (cmpF f r.2.2)) → (∀ r ∈ rs, ∀ g, Q r.2.1 g → Q r.1 (cmpF g (invF r.2.2))) → ∀ p ∈ passM rs m, Q p.1 p.2
  | [], _, h, _, _ => h
  | r :: rs, _, h, h1, h2 => passM_all Q (rs := rs) (stepM_all Q h (h1 r (by simp)) (h2 r (by simp))) (fun x hx => h1 x (by simp [hx])) (fun x hx => h2 x (by simp [hx]))
theorem iterM_all (Q : Int → Fr → Prop) {rs : List Rel} (h1 : ∀ r ∈ rs, ∀ f, Q r.1 f → Q r.2.1 (cmpF f r.2.2)) (h2 : ∀ r ∈ rs, ∀ g, Q r.2.1 g → Q r.1 (cmpF g (invF r.2.2))) : ∀ (n : Nat) {m : List (Int × Fr)}, (∀ p ∈ m, Q p.1 p.2) → ∀ p ∈ iterM rs n m, Q p.1 p.2
  | 0, _, h => h
  | n + 1, _, h => iterM_all Q h1 h2 n (passM_all Q h h1 h2)
theorem fromL_all (Q : Int → Fr → Prop) {rs : List Rel} {a : Int} (h0 : Q a (0, 0, 0)) (h1 : ∀ r ∈ rs, ∀ f, Q r.1 f → Q r.2.1 (cmpF f r.2.2)) (h2 : ∀ r ∈ rs, ∀ g, Q r.2.1 g → Q r.1 (cmpF g (invF r.2.2))) : ∀ p ∈ fromL rs a, Q p.1 p.2 :=
  iterM_all Q h1 h2 8 (by intro p hp; simp at hp; subst hp; exact h0)
theorem fLook_append {m l : List (Int × Fr)} {k : Int} {f : Fr} (h : fLook m k = some f) : fLook (m ++ l) k = some f := by
  induction m with
  | nil => simp [fLook] at h
  | cons p m ih =>
    obtain ⟨k', v⟩ := p
    by_cases e : k = k'
    · simp [fLook, e] at h ⊢; exact h
    · simp [fLook, e] at h ⊢; exact ih h
theorem stepM_keep {m : List (Int × Fr)} {r : Rel} {k : Int} {f : Fr} (h : fLook m k = some f) : fLook (stepM m r) k = some f := by
  unfold stepM
  cases fLook m r.1 <;> cases fLook m r.2.1 <;> first | exact h | exact fLook_append h
theorem passM_keep : ∀ {rs : List Rel} {m : List (Int × Fr)} {k : Int} {f : Fr}, fLook m k = some f → fLook (passM rs m) k = some f
  | [], _, _, _, h => h
  | _ :: rs, _, _, _, h => passM_keep (rs := rs) (stepM_keep h)
theorem iterM_keep {rs : List Rel} {k : Int} {f : Fr} : ∀ (n : Nat) {m : List (Int × Fr)}, fLook m k = some f → fLook (iterM rs n m) k = some f
  | 0, _, h => h
  | n + 1, _, h => iterM_keep n (passM_keep h)
theorem fromL_self (rs : List Rel) (a : Int) : fLook (fromL rs a) a = some (0, 0, 0) := iterM_keep 8 (by simp [fLook])
theorem iterM_grow (rs : List Rel) (m : List (Int × Fr)) (hm : 1 ≤ m.length) : ∀ n : Nat, passM rs (iterM rs n m) = iterM rs n m ∨ n + 1 ≤ (iterM rs n m).length
  | 0 => .inr hm
  | n + 1 => by
    rw [iterM_succ]
    rcases iterM_grow rs m hm n with h | h
    · left; rw [h, h]
    · by_cases e : passM rs (iterM rs n m) = iterM rs n m
      · left; rw [e, e]
      · right
        have := passM_len rs (iterM rs n m)
        have : (passM rs (iterM rs n m)).length ≠ (iterM rs n m).length := fun h => e (this.2 h)
        omega
theorem fromL_fix {rs : List Rel} {a : Int} (h0 : 0 ≤ a) (h1 : a < 8) (hok : ∀ r ∈ rs, RelOk r) : passM rs (fromL rs a) = fromL rs a := by
  rcases iterM_grow rs [(a, (0, 0, 0))] (by simp) 8 with h | h
  · exact h
  · have := (fromL_ok h0 h1 hok).len
    unfold fromL at this
    omega
theorem passM_fix : ∀ {rs : List Rel} {m : List (Int × Fr)}, passM rs m = m → ∀ r ∈ rs, stepM m r = m
  | [], _, _, r, hr => by simp at hr
  | x :: rs, m, h, r, hr => by
    have e : passM (x :: rs) m = passM rs (stepM m x) := rfl
    rw [e] at h
    have h1 := passM_len rs (stepM m x)
    have hx : stepM m x = m := by
      rcases stepM_len m x with h2 | h2
      · exact h2
      · rw [h] at h1; omega
    rcases List.mem_cons.1 hr with rfl | hr
    · exact hx
    · rw [hx] at h; exact passM_fix h r hr
theorem stepM_fix {m : List (Int × Fr)} {r : Rel} (h : stepM m r = m) : (fLook m r.1).isSome = (fLook m r.2.1).isSome := by
  unfold stepM at h
  cases ha : fLook m r.1 <;> cases hb : fLook m r.2.1 <;> simp [ha, hb] at h ⊢
theorem fromL_conn {rs : List Rel} {a b : Int} (h0 : 0 ≤ a) (h1 : a < 8) (hok : ∀ r ∈ rs, RelOk r) : (fLook (fromL rs a) b).isSome = true ↔ Conn rs a b := by
  constructor
  · intro h
    obtain ⟨f, hf⟩ := Option.isSome_iff_exists.1 h
    exact fromL_all (fun k _ => Conn rs a k) .refl (fun r hr _ h => .fwd h hr) (fun r hr _ h => .back h hr) _ (fLook_mem hf)
  · intro h
    have hf := passM_fix (fromL_fix h0 h1 hok)
    induction h with
    | refl => rw [fromL_self]; rfl
    | fwd _ hr ih => rw [← stepM_fix (hf _ hr)]; exact ih
    | back _ hr ih => rw [stepM_fix (hf _ hr)]; exact ih
structure Plc (rs : List Rel) (P : Int → Fr) : Prop where
  ok : ∀ k, FrOk (P k)
  rel : ∀ r ∈ rs, cmpF (P r.1) r.2.2 = P r.2.1
theorem relFr {r : Rel} (h : RelOk r) : FrOk r.2.2 := ⟨h.2.2.2.2.2.1, h.2.2.2.2.2.2.1⟩
theorem fromL_plc {rs : List Rel} {P : Int → Fr} (hP : Plc rs P) {a k : Int} {f : Fr} (hok : ∀ r ∈ rs, RelOk r) (h : fLook (fromL rs a) k = some f) : cmpF (P a) f = P k ∧ FrOk f := by
  refine fromL_all (fun k f => cmpF (P a) f = P k ∧ FrOk f) ⟨cmpF_zero _ (hP.ok a), by simp [FrOk]⟩ ?_ ?_ _ (fLook_mem h)
  · rintro r hr f ⟨h1, h2⟩
    exact ⟨by rw [← cmpF_assoc _ _ _ (hP.ok a) h2, h1, hP.rel r hr], cmpF_ok _ _⟩
  · rintro r hr g ⟨h1, h2⟩
    have hx := relFr (hok r hr)
    exact ⟨by rw [← cmpF_assoc _ _ _ (hP.ok a) h2, h1, ← hP.rel r hr, cmpF_assoc _ _ _ (hP.ok _) hx, cmpF_inv _ hx, cmpF_zero _ (hP.ok _)], cmpF_ok _ _⟩
theorem cmpF_cancel {p f g : Fr} (hp : FrOk p) (hf : FrOk f) (hg : FrOk g) (h : cmpF p f = cmpF p g) : f = g := by
  have h1 : cmpF (invF p) (cmpF p f) = cmpF (invF p) (cmpF p g) := by rw [h]
  rwa [← cmpF_assoc _ _ _ (invF_ok p) hp, ← cmpF_assoc _ _ _ (invF_ok p) hp, inv_cmpF _ hp, zero_cmpF _ hf, zero_cmpF _ hg] at h1
inductive Acc : List Rel → Prop
  | nil : Acc []
  | snoc {rs : List Rel} {r : Rel} : Acc rs → RelOk r → btF rs r.1 r.2.1 = none → Acc (rs ++ [r])
theorem Acc.ok {rs : List Rel} (h : Acc rs) : ∀ r ∈ rs, RelOk r := by
  induction h with
  | nil => simp
  | snoc _ hr _ ih =>
    intro x hx
    rcases List.mem_append.1 hx with hx | hx
    · exact ih x hx
    · simp at hx; subst hx; exact hr
theorem rbB_mk {n : Int} (h0 : 0 ≤ n) (h1 : n < 8) : rbB n = true := by simp [rbB]; omega
theorem btF_eq {rs : List Rel} {a b : Int} (a0 : 0 ≤ a) (a1 : a < 8) (b0 : 0 ≤ b) (b1 : b < 8) : btF rs a b = fLook (fromL rs a) b := by
  unfold btF; rw [rbB_mk a0 a1, rbB_mk b0 b1]; rfl
theorem btF_conn {rs : List Rel} {a b : Int} (hok : ∀ r ∈ rs, RelOk r) (a0 : 0 ≤ a) (a1 : a < 8) (b0 : 0 ≤ b) (b1 : b < 8) : (btF rs a b).isSome = true ↔ Conn rs a b := by
  rw [btF_eq a0 a1 b0 b1, fromL_conn a0 a1 hok]
theorem btF_plc {rs : List Rel} {P : Int → Fr} (hP : Plc rs P) {a b : Int} {f : Fr} (hok : ∀ r ∈ rs, RelOk r) (h : btF rs a b = some f) : cmpF (P a) f = P b ∧ FrOk f := by
  unfold btF at h
  split at h
  · exact fromL_plc hP hok h
  · cases h
open Classical in
theorem Acc.plc {rs : List Rel} (h : Acc rs) : ∃ P, Plc rs P := by
  induction h with
  | nil => exact ⟨fun _ => (0, 0, 0), fun _ => by simp [FrOk], by simp⟩
  | @snoc rs r hs hr hn ih =>
    obtain ⟨P, hP⟩ := ih
    have hx := relFr hr
    have hnc : ¬ Conn rs r.2.1 r.1 := fun hc => by
      have := (btF_conn hs.ok hr.1 hr.2.1 hr.2.2.1 hr.2.2.2.1).2 hc.symm
      rw [hn] at this; cases this
    refine ⟨fun k => if Conn rs r.2.1 k then cmpF (cmpF (P r.1) (cmpF r.2.2 (invF (P r.2.1)))) (P k) else P k, ?_, ?_⟩
    · intro k
      show FrOk (if _ then _ else _)
      split
      · exact cmpF_ok _ _
      · exact hP.ok k
    · intro x hxm
      rcases List.mem_append.1 hxm with hxm | hxm
      · have hiff : Conn rs r.2.1 x.1 ↔ Conn rs r.2.1 x.2.1 := ⟨fun h => .fwd h hxm, fun h => .back h hxm⟩
        by_cases hc : Conn rs r.2.1 x.1
        · simp only [if_pos hc, if_pos (hiff.1 hc)]
          rw [cmpF_assoc _ _ _ (cmpF_ok _ _) (hP.ok _), hP.rel x hxm]
        · simp only [if_neg hc, if_neg (fun h => hc (hiff.2 h))]
          exact hP.rel x hxm
      · simp at hxm; subst hxm
        simp only [if_neg hnc, if_pos (Conn.refl : Conn rs x.2.1 x.2.1)]
        rw [cmpF_assoc _ _ _ (hP.ok _) (cmpF_ok _ _), cmpF_assoc _ _ _ hx (invF_ok _), inv_cmpF _ (hP.ok _), cmpF_zero _ hx]
def addAll (rs : List Rel) (l : List Rel) : List Rel := l.foldl (fun rs x => (addF rs x).2) rs
theorem addF_acc {rs : List Rel} (h : Acc rs) (x : Rel) : Acc (addF rs x).2 := by
  unfold addF
  split
  · rename_i hx
    cases hb : btF rs x.1 x.2.1 with
    | none => exact .snoc h (addX_ok hx) hb
    | some f => simp only; split <;> exact h
  · exact h
theorem addF_len (rs : List Rel) (x : Rel) : (addF rs x).2.length ≤ rs.length + 1 := by
  unfold addF
  split
  · cases hb : btF rs x.1 x.2.1 with
    | none => simp
    | some f => simp only; split <;> simp
  · simp
theorem addAll_acc : ∀ (l : List Rel) {rs : List Rel}, Acc rs → Acc (addAll rs l)
  | [], _, h => h
  | x :: l, _, h => addAll_acc l (addF_acc h x)
end Go.Proofs.YtlnplelandimeaaGreat
end
