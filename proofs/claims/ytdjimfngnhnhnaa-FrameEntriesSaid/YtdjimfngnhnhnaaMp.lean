/- A map with int keys that the call itself makes and that only grows: its block written out as a list of pairs, in the order of their insertion; lookup, insertion, and their worlds. -/
import Derived.Test.YtdjimfngnhnhnaaCm
import Derived.Maps.Own
import Derived.Maps.OwnOps
import Derived.MapKept
set_option linter.all false
namespace Go.Proofs.Ytdjimfngnhnhnaa
open Go.RowKit Go.MapKept

def mkEs : List (Int × Value) → Nat → List MapEntry
  | [], _ => []
  | (k, v) :: r, i => { key := .int .i64 k, val := v, born := i } :: mkEs r (i + 1)
theorem mkEs_length : ∀ (m : List (Int × Value)) (i : Nat), (mkEs m i).length = m.length
  | [], _ => rfl
  | (_, _) :: r, i => by simp [mkEs, mkEs_length r (i + 1)]
theorem mkEs_append : ∀ (m l : List (Int × Value)) (i : Nat), mkEs (m ++ l) i = mkEs m i ++ mkEs l (i + m.length)
  | [], l, i => by simp [mkEs]
  | (k, v) :: r, l, i => by
    simp only [List.cons_append, mkEs, mkEs_append r l (i + 1), List.length_cons]
    rw [show i + 1 + r.length = i + (r.length + 1) by omega]

def MapAt (w : World) (b : Nat) (m : List (Int × Value)) : Prop := w.heap[b]? = some (.map (mkEs m 0).toArray m.length)

def mLook : List (Int × Value) → Int → Option Value
  | [], _ => none
  | (k', v) :: r, k => if k = k' then some v else mLook r k
def mHas (m : List (Int × Value)) (k : Int) : Bool := (mLook m k).isSome
def mGet (m : List (Int × Value)) (k : Int) (z : Value) : Value := (mLook m k).getD z

theorem findNow_mk (k : Int) : ∀ (m : List (Int × Value)) (i j : Nat), ∃ r, Instr.findNow (.int .i64) (.int .i64 k) (mkEs m i) j = some r ∧ r.map (·.2) = mLook m k
  | [], _, _ => ⟨none, rfl, rfl⟩
  | (k', v) :: r, i, j => by
    by_cases h : k = k'
    · subst h
      exact ⟨some (j, v), by simp [mkEs, Instr.findNow, Instr.sameNow], by simp [mLook]⟩
    · obtain ⟨r', h1, h2⟩ := findNow_mk k r (i + 1) (j + 1)
      have hb : (k == k') = false := by simp [h]
      exact ⟨r', by simp [mkEs, Instr.findNow, Instr.sameNow, hb, h1], by simp [mLook, h, h2]⟩

section
variable {P : Program} {w w' : World} {b : Nat} {m : List (Int × Value)}

theorem MapAt.lt (h : MapAt w b m) : b < w.heap.size := by
  rcases Nat.lt_or_ge b w.heap.size with hlt | hge
  · exact hlt
  · unfold MapAt at h; rw [Array.getElem?_eq_none hge] at h; cases h
theorem MapAt.alloc (h : MapAt w b m) (o : Obj) : MapAt (w.alloc o) b m := (Below.heap_alloc w o b h.lt).trans h
theorem MapAt.drew (h : MapAt w b m) : MapAt w.drew b m := h
theorem MapAt.drewN (h : MapAt w b m) (n : Nat) : MapAt (w.drewN n) b m := h
theorem MapAt.below {B : Nat} (h : MapAt w b m) (hb : Below B w w') (hg : b < B) : MapAt w' b m := (hb.block b hg).trans h
theorem MapAt.set (h : MapAt w b m) {p : Addr} (hp : b ≠ p.block) (u : Value) : MapAt (w.setCell p u) b m := (Below.heap_setCell w p u b hp).trans h
theorem MapAt.made (w : World) : MapAt (w.alloc (.map #[] 0)) w.heap.size [] := heap_alloc_new w _

/-- the map stays where blocks are made and orders drawn: written out, as the depth of simp is small -/
theorem MapAt.many (h : MapAt w b m) :
    (∀ o1 : Obj, MapAt (w.alloc o1) b m) ∧ (∀ o1 o2 : Obj, MapAt ((w.alloc o1).alloc o2) b m) ∧ (∀ o1 o2 o3 : Obj, MapAt (((w.alloc o1).alloc o2).alloc o3) b m) ∧ (∀ o1 o2 o3 o4 : Obj, MapAt ((((w.alloc o1).alloc o2).alloc o3).alloc o4) b m) ∧ (∀ o1 o2 o3 o4 o5 : Obj, MapAt (((((w.alloc o1).alloc o2).alloc o3).alloc o4).alloc o5) b m) ∧ (∀ o1 o2 o3 o4 o5 o6 : Obj, MapAt ((((((w.alloc o1).alloc o2).alloc o3).alloc o4).alloc o5).alloc o6) b m) ∧ (∀ o1 o2 o3 o4 o5 o6 o7 : Obj, MapAt (((((((w.alloc o1).alloc o2).alloc o3).alloc o4).alloc o5).alloc o6).alloc o7) b m) ∧ (∀ o1 o2 o3 o4 o5 o6 o7 o8 : Obj, MapAt ((((((((w.alloc o1).alloc o2).alloc o3).alloc o4).alloc o5).alloc o6).alloc o7).alloc o8) b m) ∧ (MapAt w.drew b m) ∧ (∀ o1 : Obj, MapAt (w.alloc o1).drew b m) ∧ (∀ o1 o2 : Obj, MapAt ((w.alloc o1).alloc o2).drew b m) ∧ (∀ o1 o2 o3 : Obj, MapAt (((w.alloc o1).alloc o2).alloc o3).drew b m) ∧ (∀ o1 o2 o3 o4 : Obj, MapAt ((((w.alloc o1).alloc o2).alloc o3).alloc o4).drew b m) ∧ (∀ o1 o2 o3 o4 o5 : Obj, MapAt (((((w.alloc o1).alloc o2).alloc o3).alloc o4).alloc o5).drew b m) ∧ (∀ o1 o2 o3 o4 o5 o6 : Obj, MapAt ((((((w.alloc o1).alloc o2).alloc o3).alloc o4).alloc o5).alloc o6).drew b m) ∧ (∀ o1 o2 o3 o4 o5 o6 o7 : Obj, MapAt (((((((w.alloc o1).alloc o2).alloc o3).alloc o4).alloc o5).alloc o6).alloc o7).drew b m) ∧ (∀ o1 o2 o3 o4 o5 o6 o7 o8 : Obj, MapAt ((((((((w.alloc o1).alloc o2).alloc o3).alloc o4).alloc o5).alloc o6).alloc o7).alloc o8).drew b m) :=
  ⟨fun _ => (h.alloc _), fun _ _ => ((h.alloc _).alloc _), fun _ _ _ => (((h.alloc _).alloc _).alloc _), fun _ _ _ _ => ((((h.alloc _).alloc _).alloc _).alloc _), fun _ _ _ _ _ => (((((h.alloc _).alloc _).alloc _).alloc _).alloc _), fun _ _ _ _ _ _ => ((((((h.alloc _).alloc _).alloc _).alloc _).alloc _).alloc _), fun _ _ _ _ _ _ _ => (((((((h.alloc _).alloc _).alloc _).alloc _).alloc _).alloc _).alloc _), fun _ _ _ _ _ _ _ _ => ((((((((h.alloc _).alloc _).alloc _).alloc _).alloc _).alloc _).alloc _).alloc _), h.drew, fun _ => (h.alloc _).drew, fun _ _ => ((h.alloc _).alloc _).drew, fun _ _ _ => (((h.alloc _).alloc _).alloc _).drew, fun _ _ _ _ => ((((h.alloc _).alloc _).alloc _).alloc _).drew, fun _ _ _ _ _ => (((((h.alloc _).alloc _).alloc _).alloc _).alloc _).drew, fun _ _ _ _ _ _ => ((((((h.alloc _).alloc _).alloc _).alloc _).alloc _).alloc _).drew, fun _ _ _ _ _ _ _ => (((((((h.alloc _).alloc _).alloc _).alloc _).alloc _).alloc _).alloc _).drew, fun _ _ _ _ _ _ _ _ => ((((((((h.alloc _).alloc _).alloc _).alloc _).alloc _).alloc _).alloc _).alloc _).drew⟩

theorem run_findKey_mp {kt : TypeId} (hk : P.underlying kt = some (.int .i64)) (k : Int) (m : List (Int × Value)) (w : World) :
    ∃ r, (Instr.findKey kt (.int .i64 k) (mkEs m 0)).run P w = .ok r w ∧ r.map (·.2) = mLook m k := by
  obtain ⟨r, h1, h2⟩ := findNow_mk k m 0 0
  exact ⟨r, by simp [Instr.findKey, run_underlying hk, h1], h2⟩

theorem run_lookup_mp {t kt e : TypeId} {z : Value} (ht : P.underlying t = some (.map kt e)) (hk : P.underlying kt = some (.int .i64)) (hz : ∀ w, (zeroValue e).run P w = .ok z w) (h : MapAt w b m) (k : Int) :
    (Instr.lookup t (.map (some b)) (.int .i64 k) true).run P w = .ok (.tuple #[mGet m k z, .bool (mHas m k)]) w := by
  obtain ⟨r, h1, h2⟩ := run_findKey_mp hk k m w
  have hck := fun e n => run_checkKey (P := P) (w := w) (k := .int .i64 k) hk (by simp [IsKey]) e n
  have hgo := MapKept.run_getObj_map (P := P) h
  unfold mGet mHas
  rw [← h2]
  rcases r with _ | ⟨i, v⟩
  · simp [Instr.lookup, run_underlying ht, hgo, hck, h1, hz]
  · simp [Instr.lookup, run_underlying ht, hgo, hck, h1]

/-- the world behind an insertion of a new key -/
def putM (w : World) (b : Nat) (m : List (Int × Value)) (k : Int) (u : Value) : World :=
  ChangeMaps.setBlock w b (.map ((mkEs m 0).toArray.push { key := .int .i64 k, val := u, born := m.length }) (m.length + 1))

theorem run_up_mp {t kt e : TypeId} (ht : P.underlying t = some (.map kt e)) (hk : P.underlying kt = some (.int .i64)) (h : MapAt w b m) (k : Int) (hn : mLook m k = none) (v : Value) :
    (Instr.mapUpdate t (.map (some b)) (.int .i64 k) v).run P w = .ok () (putM w b m k v) := by
  obtain ⟨r, h1, h2⟩ := run_findKey_mp hk k m w
  have hck := fun e n => run_checkKey (P := P) (w := w) (k := .int .i64 k) hk (by simp [IsKey]) e n
  have hgo := MapKept.run_getObj_map (P := P) h
  rw [hn] at h2
  rcases r with _ | ⟨i, v'⟩
  · have hso := fun o => MapKept.run_setObj_map (P := P) o h
    simp [Instr.mapUpdate, run_underlying ht, hgo, hck, h1, hso, putM, ChangeMaps.setBlock]
  · simp at h2
theorem putM_map (h : MapAt w b m) (k : Int) (u : Value) : MapAt (putM w b m k u) b (m ++ [(k, u)]) := by
  unfold MapAt putM
  rw [ChangeMaps.heap_setBlock_same h]
  simp [mkEs_append, mkEs]
theorem putM_grown (h : MapAt w b m) (k : Int) (u : Value) : w.grownBy (putM w b m k u) (some b) :=
  ⟨rfl, rfl, rfl, by simp [putM, ChangeMaps.setBlock], fun i _ hi => ChangeMaps.heap_setBlock_other h _ (fun e => hi (by rw [e]))⟩
theorem putM_size (k : Int) (u : Value) : (putM w b m k u).heap.size = w.heap.size := by simp [putM, ChangeMaps.setBlock]
theorem putM_block (h : MapAt w b m) (k : Int) (u : Value) {i : Nat} (hi : i ≠ b) : (putM w b m k u).heap[i]? = w.heap[i]? := ChangeMaps.heap_setBlock_other h _ hi
theorem putM_cell (h : MapAt w b m) (k : Int) (u : Value) (p : Addr) : (putM w b m k u).cell? p = w.cell? p := by
  by_cases hp : p.block = b
  · have h1 : (putM w b m k u).heap[p.block]? = some (.map ((mkEs m 0).toArray.push { key := .int .i64 k, val := u, born := m.length }) (m.length + 1)) := by
      rw [hp]; unfold putM; exact ChangeMaps.heap_setBlock_same h _
    have h2 : w.heap[p.block]? = some (.map (mkEs m 0).toArray m.length) := by rw [hp]; exact h
    simp [World.cell?, h1, h2]
  · exact World.cell?_of_block (putM_block h k u hp)
theorem putM_frozen (h : MapAt w b m) (k : Int) (u : Value) (p : Addr) : (putM w b m k u).frozen? p = w.frozen? p := by
  by_cases hp : p.block = b
  · have h1 : (putM w b m k u).heap[p.block]? = some (.map ((mkEs m 0).toArray.push { key := .int .i64 k, val := u, born := m.length }) (m.length + 1)) := by
      rw [hp]; unfold putM; exact ChangeMaps.heap_setBlock_same h _
    have h2 : w.heap[p.block]? = some (.map (mkEs m 0).toArray m.length) := by rw [hp]; exact h
    simp [World.frozen?, h1, h2]
  · exact World.frozen?_of_block (putM_block h k u hp)
theorem putM_below {w0 : World} (hb : Below w0.heap.size w0 w) (h : MapAt w b m) (hlt : w0.heap.size ≤ b) (k : Int) (u : Value) : Below w0.heap.size w0 (putM w b m k u) :=
  hb.grown (putM_grown h k u) hb.size (fun _ e => by injection e with e; omega)
end
end Go.Proofs.Ytdjimfngnhnhnaa
