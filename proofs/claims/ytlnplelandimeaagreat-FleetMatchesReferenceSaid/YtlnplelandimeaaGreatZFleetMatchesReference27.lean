import Derived.Test.YtlnplelandimeaaGreatZFleetMatchesReference26
import Derived.Maps.RangeWalk
import Derived.Test.YtlnplelandimeaaGreatZFleetMatchesReference01
import Derived.Test.YtlnplelandimeaaGreatZFleetMatchesReference25
import Derived.Test.YtlnplelandimeaaGreatZFleetMatchesReference07
import Derived.Test.YtlnplelandimeaaGreatZFleetMatchesReference10
import Derived.Test.YtlnplelandimeaaGreatZFleetMatchesReference08
set_option linter.all false
section
namespace Go.Proofs.YtlnplelandimeaaGreat
open Go.RowKit Go.MapKept Go.WideElems
def R0 : Value → Option (DataW Unit × List MemPlace) := fun _ => some (.nil, [])
def Rng (P : Program) (k : TypeId) (w : World) (b r : Nat) (ks : List Int) (left : Int → Bool) (cnt : Nat) : Prop :=
 ∃ (n : Nat) (D : DataW Unit) (L : Lit → Bool), w.ranges P k R0 b r n D L cnt ∧ (∀ kl, L kl = true → ∃ x ∈ ks, kl = .int .i64 x) ∧ ∀ x, left x = L (.int .i64 x)
section
variable {P : Program} {w w' : World} {b r : Nat} {m : List (Int × Value)}
variable {ops : Array Oper} {rest : List Oper} {o : Oper} {a : Act} {Q : Exit → Act → World → Prop}
theorem Rng.keep {k : TypeId} {ks : List Int} {left : Int → Bool} {cnt : Nat} (h : Rng P k w b r ks left cnt) (h1 : w'.heap[b]? = w.heap[b]?) (h2 : w'.heap[r]? = w.heap[r]?) : Rng P k w' b r ks left cnt := by
 obtain ⟨n, D, L, ⟨es, clock, since, seen, c0, x1, x2, x3, x4, x5, rest⟩, h3, h4⟩ := h
 exact ⟨n, D, L, ⟨es, clock, since, seen, c0, h1.trans x1, x2, x3, x4, h2.trans x5, rest⟩, h3, h4⟩
end
end Go.Proofs.YtlnplelandimeaaGreat
end
section
namespace Go.Proofs.YtlnplelandimeaaGreat
open Go.RowKit
end Go.Proofs.YtlnplelandimeaaGreat
end
section
namespace Go.Proofs.YtlnplelandimeaaGreat
open Go.RowKit
def Bk (w : World) (g : Nat) (t : TypeId) (cs : Array Value) : Prop := w.heap[g]? = some (.cells cs t (0, 0))
section
variable {w w' : World} {g : Nat} {t : TypeId} {cs : Array Value}
theorem Bk.lt (h : Bk w g t cs) : g < w.heap.size := by
 rcases Nat.lt_or_ge g w.heap.size with hlt | hge
 ·exact hlt
 ·unfold Bk at h; rw [Array.getElem?_eq_none hge] at h; cases h
theorem Bk.cell (h : Bk w g t cs) (i : Nat) : w.cell? ⟨g, i, none⟩ = cs[i]? := cell_of_row w g i cs t (0, 0) h
theorem Bk.frozen (h : Bk w g t cs) : ∀ i, w.frozen? ⟨g, i, none⟩ = false := fun i => by
 unfold Bk at h
 simp [World.frozen?, h]
theorem Bk.new (w : World) (t : TypeId) (cs : Array Value) : Bk (w.alloc (.cells cs t)) w.heap.size t cs := heap_alloc_new w _
theorem Bk.drew (h : Bk w g t cs) : Bk w.drew g t cs := h
theorem Bk.drewN (h : Bk w g t cs) (n : Nat) : Bk (w.drewN n) g t cs := h
theorem Bk.alloc (h : Bk w g t cs) (o : Obj) : Bk (w.alloc o) g t cs := (Below.heap_alloc w o g h.lt).trans h
theorem Bk.call (h : Bk w g t cs) (hb : Below w.heap.size w w') : Bk w' g t cs := (hb.block g h.lt).trans h
end
end Go.Proofs.YtlnplelandimeaaGreat
end
section
namespace Go.Proofs.YtlnplelandimeaaGreat
open Go.RowKit
theorem fromL_ok {rs : List Rel} {a : Int} (h0 : 0 ≤ a) (h1 : a < 8) (hok : ∀ r ∈ rs, RelOk r) : MOk (fromL rs a) := by
 unfold fromL
 generalize 8 = n
 have : ∀ (n : Nat) (m : List (Int × Fr)), MOk m → MOk (iterM rs n m) := fun n => by
  induction n with
  | zero => intro m h; exact h
  | succ n ih => intro m h; exact ih _ (passM_ok h hok)
 exact this n _ (MOk.start a h0 h1)
end Go.Proofs.YtlnplelandimeaaGreat
end
section
namespace Go.Proofs.YtlnplelandimeaaGreat.En
open Go.RowKit
abbrev RelT := Go.Proofs.YtlnplelandimeaaGreat.Rel
def relO (rb : Nat) (rs : List RelT) : OB := .res fun w F => ∃ q, RObj w rb q rs ∧ ∀ i, F i ↔ (i = rb ∨ q = some i)
theorem relO_at {σ : Nat → Nat} {n : Nat} {w : World} {b rb : Nat} {q : Option Nat} {rs : List RelT} (h : RObj w rb q rs) : (relO rb rs).at σ n w b (fun i => i = rb ∨ q = some i) :=
 ⟨⟨q, h, fun _ => Iff.rfl⟩, fun w' hw => ⟨q, h.keep (hw rb (.inl rfl)) (fun g hg => hw g (.inr hg)), fun _ => Iff.rfl⟩⟩
theorem nth_rel {C : Ctx} {σ : Nat → Nat} {fp : Nat → Nat → Prop} {ob : List OB} {w : World} {j rb : Nat} {rs : List RelT} (hm : Mem C σ fp ob w) (h : nth ob j = some (relO rb rs)) : (∃ q, RObj w rb q rs ∧ ∀ i, fp j i ↔ (i = rb ∨ q = some i)) ∧ j < ob.length := by
 rw [nth_eq] at h
 exact ⟨(hm.at_ j _ h).1, (List.getElem?_eq_some_iff.1 h).1⟩
section
variable {C : Ctx} {ob : List OB} {k : SV → List OB → Prop}
theorem CallX_New (hP : C.P = Tryz.prog) (hk : ∀ rb, force (ob ++ [relO rb []]) fun ob => k (.v (.pointer (some ⟨rb, 0, none⟩))) ob) (hd : C.d = false := by rfl) : CallX C 57 [] ob k := by
 simp only [force_eq] at hk
 unfold CallX
 rw [hP]
 refine ⟨Entr.of Tryz.func57 rfl rfl, fun σ fp w hm => (New_any w).mono ?_⟩
 rintro e w' ⟨rfl, rfl⟩
 have hb : Below w.heap.size w (w.alloc (.cells #[.slice none 0 0] 143)) := (Below.refl _ _).alloc (Nat.le_refl _) _
 exact ⟨_, rfl, .v (.pointer (some ⟨w.heap.size, 0, none⟩)), _, _, _, hk _, fun j hj => by simp [show j ≠ ob.length by omega], by simp, rfl, trivial,
  hm.pushO hb (relO w.heap.size []) 0 _ (relO_at (RObj.new w)) (by rintro i (rfl | h); exact ⟨Nat.le_refl _, by simp⟩; cases h) (fun h => by rw [hd] at h; cases h), Frm.pushed hb (by simp) (by rintro i (rfl | h); exact Nat.le_refl _; cases h)⟩
theorem CallX_Add (j : Nat) {rb : Nat} {rs : List RelT} {a b q x y : Int} (hP : C.P = Tryz.prog) (hj : nth ob j = some (relO rb rs)) (hn : rs.length ≤ 99) (hk : force (setN ob j (relO rb (addF rs (a, b, q, x, y)).2)) fun ob => k (I (addF rs (a, b, q, x, y)).1) ob) (hd : C.d = false := by rfl) :
 CallX C 58 [.v (.pointer (some ⟨rb, 0, none⟩)), .a [I a, I b, I q, I x, I y]] ob k := by
 unfold CallX
 rw [hP]
 refine ⟨Entr.of Tryz.func58 rfl rfl, fun σ fp w hm => ?_⟩
 obtain ⟨⟨o, hr, hF⟩, hjl⟩ := nth_rel hm hj
 refine (Add_any rb o rs (a, b, q, x, y) w hr hn).mono ?_
 rintro e w' ⟨rfl, o', hr', hloc, honly⟩
 rw [force_eq, setN_eq] at hk
 have hin : ∀ i, (i = rb ∨ o' = some i) → fp j i ∨ w.heap.size ≤ i := by
  rintro i (rfl | h)
  ·exact .inl ((hF i).2 (.inl rfl))
  ·rcases hloc with rfl | ⟨g, rfl, hg⟩
   ·exact .inl ((hF i).2 (.inr h))
   ·simp at h; subst h; exact .inr hg
 have hsame : ∀ i, i < w.heap.size → ¬ fp j i → w'.heap[i]? = w.heap[i]? := by
  intro i hi hni
  exact honly.block i hi (fun h => hni ((hF i).2 (.inl h))) (fun h => hni ((hF i).2 (.inr h.symm)))
 refine ⟨_, rfl, _, _, σ, _, hk, fun _ _ => rfl, by simp, rfl, trivial, hm.change hjl (relO rb _) (fun i => i = rb ∨ o' = some i) (relO_at hr') hin ?_ honly.os honly.tape honly.output honly.size hsame (fun h => by rw [hd] at h; cases h), Frm.changed hjl (by simp) hin honly.size hsame⟩
 rintro i (rfl | h)
 ·exact hr'.lt.1
 ·exact hr'.lt.2 i h
theorem CallX_Between (j : Nat) {rb : Nat} {rs : List RelT} {a b : Int} (hP : C.P = Tryz.prog) (hj : nth ob j = some (relO rb rs)) (hn : rs.length ≤ 100)
 (hk : k (.t [.a [I ((btF rs a b).getD (0, 0, 0)).1, I ((btF rs a b).getD (0, 0, 0)).2.1, I ((btF rs a b).getD (0, 0, 0)).2.2], B (btF rs a b).isSome]) ob) (hd : C.d = false := by rfl) : CallX C 22 [.v (.pointer (some ⟨rb, 0, none⟩)), I a, I b] ob k := by
 unfold CallX
 rw [hP]
 refine ⟨Entr.of Tryz.func22 rfl rfl, fun σ fp w hm => ?_⟩
 obtain ⟨⟨o, hr, hF⟩, hjl⟩ := nth_rel hm hj
 refine (Between_any rb o rs a b w hr hn).mono ?_
 rintro e w' ⟨rfl, hb⟩
 refine ⟨_, rfl, _, ob, σ, fp, hk, fun _ _ => rfl, Nat.le_refl _, ?_, by simp [SV.wf, SV.wfs], hm.below hb (fun h => by rw [hd] at h; cases h), Frm.below hb⟩
 cases btF rs a b <;> simp [btV, frV, SV.val, SV.vals]
end
end Go.Proofs.YtlnplelandimeaaGreat.En
end
section
namespace Go.Proofs.YtlnplelandimeaaGreat
open Go.RowKit
section
variable {P : Program} {ops : Array Oper} {md : Region.Mode} {S : World → Prop}
end
end Go.Proofs.YtlnplelandimeaaGreat
end
section
namespace Go.Proofs.YtlnplelandimeaaGreat
open Go.RowKit
def FrOk (f : Fr) : Prop := 0 ≤ f.1 ∧ f.1 < 4
theorem turn4 {q : Int} (h0 : 0 ≤ q) (h1 : q < 4) : q = 0 ∨ q = 1 ∨ q = 2 ∨ q = 3 := by omega
theorem cmpF_assoc (f g h : Fr) (hf : FrOk f) (hg : FrOk g) : cmpF (cmpF f g) h = cmpF f (cmpF g h) := by
 obtain ⟨fq, fx, fy⟩ := f
 obtain ⟨gq, gx, gy⟩ := g
 obtain ⟨hq, hx, hy⟩ := h
 obtain ⟨f0, f1⟩ := hf
 obtain ⟨g0, g1⟩ := hg
 simp only at f0 f1 g0 g1
 rcases turn4 f0 f1 with rfl | rfl | rfl | rfl <;> rcases turn4 g0 g1 with rfl | rfl | rfl | rfl <;> simp [cmpF, tX, tY] <;> omega
theorem cmpF_zero (f : Fr) (hf : FrOk f) : cmpF f (0, 0, 0) = f := by
 obtain ⟨fq, fx, fy⟩ := f
 obtain ⟨f0, f1⟩ := hf
 simp only at f0 f1
 rcases turn4 f0 f1 with rfl | rfl | rfl | rfl <;> simp [cmpF, tX, tY]
theorem zero_cmpF (f : Fr) (hf : FrOk f) : cmpF (0, 0, 0) f = f := by
 obtain ⟨fq, fx, fy⟩ := f
 obtain ⟨f0, f1⟩ := hf
 simp only at f0 f1
 simp [cmpF, tX, tY]
 omega
theorem cmpF_inv (f : Fr) (hf : FrOk f) : cmpF f (invF f) = (0, 0, 0) := by
 obtain ⟨fq, fx, fy⟩ := f
 obtain ⟨f0, f1⟩ := hf
 simp only at f0 f1
 rcases turn4 f0 f1 with rfl | rfl | rfl | rfl <;> simp [cmpF, invF, tX, tY] <;> omega
theorem inv_cmpF (f : Fr) (hf : FrOk f) : cmpF (invF f) f = (0, 0, 0) := by
 obtain ⟨fq, fx, fy⟩ := f
 obtain ⟨f0, f1⟩ := hf
 simp only at f0 f1
 rcases turn4 f0 f1 with rfl | rfl | rfl | rfl <;> simp [cmpF, invF, tX, tY] <;> omega
theorem invF_ok (f : Fr) : FrOk (invF f) := by unfold FrOk invF; simp only; omega
theorem cmpF_ok (f g : Fr) : FrOk (cmpF f g) := by unfold FrOk cmpF; simp only; omega
theorem szB_in {n m : Int} (h1 : -m ≤ n) (h2 : n ≤ m) : szB n m = true := by simp [szB, h1, h2]
def InvPost (f : Fr) (A : Int) (w : World) (e : Ending) (w' : World) : Prop :=
 ∃ q x y : Int, e = .returned (.tuple #[.agg #[.int .i64 q, .int .i64 x, .int .i64 y], .int .i64 0]) ∧ Hid ((q, x, y) = invF f) ∧ (0 ≤ q ∧ q < 4 ∧ -A ≤ x ∧ x ≤ A ∧ -A ≤ y ∧ y ≤ A) ∧ Below w.heap.size w w'
theorem Inverse_ok (A : Int) (fq fx fy : Int) (w : World) (h1 : -A ≤ fx) (h2 : fx ≤ A) (h3 : -A ≤ fy) (h4 : fy ≤ A) (hA : A ≤ 8192) :
 Calls Tryz.prog 111 #[.agg #[.int .i64 fq, .int .i64 fx, .int .i64 fy]] w (InvPost (fq, fx, fy) A w) := by
 have hb := invF_bd (fq, fx, fy) A (by simp only; omega)
 refine (Inverse_any fq fx fy w).mono fun e w' ⟨he, hw⟩ => ⟨(invF (fq, fx, fy)).1, (invF (fq, fx, fy)).2.1, (invF (fq, fx, fy)).2.2, ?_, rfl, by omega, hw⟩
 rw [he]
 have e1 := szB_in (n := fx) (m := 8192) (by omega) (by omega)
 have e2 := szB_in (n := fy) (m := 8192) (by omega) (by omega)
 simp [InvV, invF, e1, e2]
end Go.Proofs.YtlnplelandimeaaGreat
end
section
namespace Go.Proofs.YtlnplelandimeaaGreat.En
open Go.RowKit
set_option maxRecDepth 100000
theorem Inverse_x (A : Int) (f : Fr) (h1 : -A ≤ f.2.1 ∧ f.2.1 ≤ A ∧ -A ≤ f.2.2 ∧ f.2.2 ≤ A) (hA : A ≤ 8192) :
 PureX Tryz.prog 111 [.a [I f.1, I f.2.1, I f.2.2]] (.t [.a [I (invF f).1, I (invF f).2.1, I (invF f).2.2], I 0]) := by
 refine PureX.mk' (Entr.of Tryz.func111 rfl rfl) (by simp [SV.wf, SV.wfs]) (by simp [SV.wf, SV.wfs]) fun w => (Inverse_ok A f.1 f.2.1 f.2.2 w (by omega) (by omega) (by omega) (by omega) hA).mono ?_
 rintro e w' ⟨q, x, y, rfl, hq, _, hb⟩
 refine ⟨?_, hb⟩
 rw [← hq]
 rfl
def nearF (f : Fr) (m : Int) : Fr := (f.1 % 4, clipI f.2.1 (-m) m, clipI f.2.2 (-m) m)
end Go.Proofs.YtlnplelandimeaaGreat.En
end
section
namespace Go.Proofs.YtlnplelandimeaaGreat
inductive Conn (rs : List Rel) (a : Int) : Int → Prop
 | refl : Conn rs a a
 | fwd {r : Rel} : Conn rs a r.1 → r ∈ rs → Conn rs a r.2.1
 | back {r : Rel} : Conn rs a r.2.1 → r ∈ rs → Conn rs a r.1
theorem Conn.trans {rs : List Rel} {a b c : Int} (h1 : Conn rs a b) (h2 : Conn rs b c) : Conn rs a c := by
 induction h2 with
 | refl => exact h1
 | fwd _ hr ih => exact .fwd ih hr
 | back _ hr ih => exact .back ih hr
theorem Conn.symm {rs : List Rel} {a b : Int} (h : Conn rs a b) : Conn rs b a := by
 induction h with
 | refl => exact .refl
 | fwd _ hr ih => exact (Conn.back .refl hr).trans ih
 | back _ hr ih => exact (Conn.fwd .refl hr).trans ih
theorem Conn.mono {rs rs' : List Rel} {a b : Int} (h : Conn rs a b) (hs : ∀ r ∈ rs, r ∈ rs') : Conn rs' a b := by
 induction h with
 | refl => exact .refl
 | fwd _ hr ih => exact .fwd ih (hs _ hr)
 | back _ hr ih => exact .back ih (hs _ hr)
theorem stepM_all (Q : Int → Fr → Prop) {m : List (Int × Fr)} {r : Rel} (h : ∀ p ∈ m, Q p.1 p.2) (h1 : ∀ f, Q r.1 f → Q r.2.1 (cmpF f r.2.2)) (h2 : ∀ g, Q r.2.1 g → Q r.1 (cmpF g (invF r.2.2))) : ∀ p ∈ stepM m r, Q p.1 p.2 := by
 unfold stepM
 cases ha : fLook m r.1 with
 | some f =>
  cases hb : fLook m r.2.1 with
  | some g => exact h
  | none =>
   intro p hp
   rcases List.mem_append.1 hp with hp | hp
   ·exact h p hp
   ·simp at hp; subst hp; exact h1 f (h _ (fLook_mem ha))
 | none =>
  cases hb : fLook m r.2.1 with
  | some g =>
   intro p hp
   rcases List.mem_append.1 hp with hp | hp
   ·exact h p hp
   ·simp at hp; subst hp; exact h2 g (h _ (fLook_mem hb))
  | none => exact h
theorem passM_all (Q : Int → Fr → Prop) : ∀ {rs : List Rel} {m : List (Int × Fr)}, (∀ p ∈ m, Q p.1 p.2) → (∀ r ∈ rs, ∀ f, Q r.1 f → Q r.2.1 (cmpF f r.2.2)) → (∀ r ∈ rs, ∀ g, Q r.2.1 g → Q r.1 (cmpF g (invF r.2.2))) → ∀ p ∈ passM rs m, Q p.1 p.2
 | [], _, h, _, _ => h
 | r :: rs, _, h, h1, h2 => passM_all Q (rs := rs) (stepM_all Q h (h1 r (by simp)) (h2 r (by simp))) (fun x hx => h1 x (by simp [hx])) (fun x hx => h2 x (by simp [hx]))
theorem iterM_all (Q : Int → Fr → Prop) {rs : List Rel} (h1 : ∀ r ∈ rs, ∀ f, Q r.1 f → Q r.2.1 (cmpF f r.2.2)) (h2 : ∀ r ∈ rs, ∀ g, Q r.2.1 g → Q r.1 (cmpF g (invF r.2.2))) : ∀ (n : Nat) {m : List (Int × Fr)}, (∀ p ∈ m, Q p.1 p.2) → ∀ p ∈ iterM rs n m, Q p.1 p.2
 | 0, _, h => h
 | n + 1, _, h => iterM_all Q h1 h2 n (passM_all Q h h1 h2)
theorem fromL_all (Q : Int → Fr → Prop) {rs : List Rel} {a : Int} (h0 : Q a (0, 0, 0)) (h1 : ∀ r ∈ rs, ∀ f, Q r.1 f → Q r.2.1 (cmpF f r.2.2)) (h2 : ∀ r ∈ rs, ∀ g, Q r.2.1 g → Q r.1 (cmpF g (invF r.2.2))) : ∀ p ∈ fromL rs a, Q p.1 p.2 :=
 iterM_all Q h1 h2 8 (by intro p hp; simp at hp; subst hp; exact h0)
theorem fLook_append {m l : List (Int × Fr)} {k : Int} {f : Fr} (h : fLook m k = some f) : fLook (m ++ l) k = some f := by
 induction m with
 | nil => simp [fLook] at h
 | cons p m ih =>
  obtain ⟨k', v⟩ := p
  by_cases e : k = k'
  ·simp [fLook, e] at h ⊢; exact h
  ·simp [fLook, e] at h ⊢; exact ih h
theorem stepM_keep {m : List (Int × Fr)} {r : Rel} {k : Int} {f : Fr} (h : fLook m k = some f) : fLook (stepM m r) k = some f := by
 unfold stepM
 cases fLook m r.1 <;> cases fLook m r.2.1 <;> first | exact h | exact fLook_append h
theorem passM_keep : ∀ {rs : List Rel} {m : List (Int × Fr)} {k : Int} {f : Fr}, fLook m k = some f → fLook (passM rs m) k = some f
 | [], _, _, _, h => h
 | _ :: rs, _, _, _, h => passM_keep (rs := rs) (stepM_keep h)
theorem iterM_keep {rs : List Rel} {k : Int} {f : Fr} : ∀ (n : Nat) {m : List (Int × Fr)}, fLook m k = some f → fLook (iterM rs n m) k = some f
 | 0, _, h => h
 | n + 1, _, h => iterM_keep n (passM_keep h)
theorem fromL_self (rs : List Rel) (a : Int) : fLook (fromL rs a) a = some (0, 0, 0) := iterM_keep 8 (by simp [fLook])
theorem iterM_grow (rs : List Rel) (m : List (Int × Fr)) (hm : 1 ≤ m.length) : ∀ n : Nat, passM rs (iterM rs n m) = iterM rs n m ∨ n + 1 ≤ (iterM rs n m).length
 | 0 => .inr hm
 | n + 1 => by
  rw [iterM_succ]
  rcases iterM_grow rs m hm n with h | h
  ·left; rw [h, h]
  ·by_cases e : passM rs (iterM rs n m) = iterM rs n m
   ·left; rw [e, e]
   ·right
    have := passM_len rs (iterM rs n m)
    have : (passM rs (iterM rs n m)).length ≠ (iterM rs n m).length := fun h => e (this.2 h)
    omega
theorem fromL_fix {rs : List Rel} {a : Int} (h0 : 0 ≤ a) (h1 : a < 8) (hok : ∀ r ∈ rs, RelOk r) : passM rs (fromL rs a) = fromL rs a := by
 rcases iterM_grow rs [(a, (0, 0, 0))] (by simp) 8 with h | h
 ·exact h
 ·have := (fromL_ok h0 h1 hok).len
  unfold fromL at this
  omega
theorem passM_fix : ∀ {rs : List Rel} {m : List (Int × Fr)}, passM rs m = m → ∀ r ∈ rs, stepM m r = m
 | [], _, _, r, hr => by simp at hr
 | x :: rs, m, h, r, hr => by
  have e : passM (x :: rs) m = passM rs (stepM m x) := rfl
  rw [e] at h
  have h1 := passM_len rs (stepM m x)
  have hx : stepM m x = m := by
   rcases stepM_len m x with h2 | h2
   ·exact h2
   ·rw [h] at h1; omega
  rcases List.mem_cons.1 hr with rfl | hr
  ·exact hx
  ·rw [hx] at h; exact passM_fix h r hr
theorem stepM_fix {m : List (Int × Fr)} {r : Rel} (h : stepM m r = m) : (fLook m r.1).isSome = (fLook m r.2.1).isSome := by
 unfold stepM at h
 cases ha : fLook m r.1 <;> cases hb : fLook m r.2.1 <;> simp [ha, hb] at h ⊢
theorem fromL_conn {rs : List Rel} {a b : Int} (h0 : 0 ≤ a) (h1 : a < 8) (hok : ∀ r ∈ rs, RelOk r) : (fLook (fromL rs a) b).isSome = true ↔ Conn rs a b := by
 constructor
 ·intro h
  obtain ⟨f, hf⟩ := Option.isSome_iff_exists.1 h
  exact fromL_all (fun k _ => Conn rs a k) .refl (fun r hr _ h => .fwd h hr) (fun r hr _ h => .back h hr) _ (fLook_mem hf)
 ·intro h
  have hf := passM_fix (fromL_fix h0 h1 hok)
  induction h with
  | refl => rw [fromL_self]; rfl
  | fwd _ hr ih => rw [← stepM_fix (hf _ hr)]; exact ih
  | back _ hr ih => rw [stepM_fix (hf _ hr)]; exact ih
structure Plc (rs : List Rel) (P : Int → Fr) : Prop where
 ok : ∀ k, FrOk (P k)
 rel : ∀ r ∈ rs, cmpF (P r.1) r.2.2 = P r.2.1
theorem relFr {r : Rel} (h : RelOk r) : FrOk r.2.2 := ⟨h.2.2.2.2.2.1, h.2.2.2.2.2.2.1⟩
theorem fromL_plc {rs : List Rel} {P : Int → Fr} (hP : Plc rs P) {a k : Int} {f : Fr} (hok : ∀ r ∈ rs, RelOk r) (h : fLook (fromL rs a) k = some f) : cmpF (P a) f = P k ∧ FrOk f := by
 refine fromL_all (fun k f => cmpF (P a) f = P k ∧ FrOk f) ⟨cmpF_zero _ (hP.ok a), by simp [FrOk]⟩ ?_ ?_ _ (fLook_mem h)
 ·rintro r hr f ⟨h1, h2⟩
  exact ⟨by rw [← cmpF_assoc _ _ _ (hP.ok a) h2, h1, hP.rel r hr], cmpF_ok _ _⟩
 ·rintro r hr g ⟨h1, h2⟩
  have hx := relFr (hok r hr)
  exact ⟨by rw [← cmpF_assoc _ _ _ (hP.ok a) h2, h1, ← hP.rel r hr, cmpF_assoc _ _ _ (hP.ok _) hx, cmpF_inv _ hx, cmpF_zero _ (hP.ok _)], cmpF_ok _ _⟩
theorem cmpF_cancel {p f g : Fr} (hp : FrOk p) (hf : FrOk f) (hg : FrOk g) (h : cmpF p f = cmpF p g) : f = g := by
 have h1 : cmpF (invF p) (cmpF p f) = cmpF (invF p) (cmpF p g) := by rw [h]
 rwa [← cmpF_assoc _ _ _ (invF_ok p) hp, ← cmpF_assoc _ _ _ (invF_ok p) hp, inv_cmpF _ hp, zero_cmpF _ hf, zero_cmpF _ hg] at h1
inductive Acc : List Rel → Prop
 | nil : Acc []
 | snoc {rs : List Rel} {r : Rel} : Acc rs → RelOk r → btF rs r.1 r.2.1 = none → Acc (rs ++ [r])
theorem Acc.ok {rs : List Rel} (h : Acc rs) : ∀ r ∈ rs, RelOk r := by
 induction h with
 | nil => simp
 | snoc _ hr _ ih =>
  intro x hx
  rcases List.mem_append.1 hx with hx | hx
  ·exact ih x hx
  ·simp at hx; subst hx; exact hr
theorem rbB_mk {n : Int} (h0 : 0 ≤ n) (h1 : n < 8) : rbB n = true := by simp [rbB]; omega
theorem btF_eq {rs : List Rel} {a b : Int} (a0 : 0 ≤ a) (a1 : a < 8) (b0 : 0 ≤ b) (b1 : b < 8) : btF rs a b = fLook (fromL rs a) b := by
 unfold btF; rw [rbB_mk a0 a1, rbB_mk b0 b1]; rfl
theorem btF_conn {rs : List Rel} {a b : Int} (hok : ∀ r ∈ rs, RelOk r) (a0 : 0 ≤ a) (a1 : a < 8) (b0 : 0 ≤ b) (b1 : b < 8) : (btF rs a b).isSome = true ↔ Conn rs a b := by
 rw [btF_eq a0 a1 b0 b1, fromL_conn a0 a1 hok]
theorem btF_plc {rs : List Rel} {P : Int → Fr} (hP : Plc rs P) {a b : Int} {f : Fr} (hok : ∀ r ∈ rs, RelOk r) (h : btF rs a b = some f) : cmpF (P a) f = P b ∧ FrOk f := by
 unfold btF at h
 split at h
 ·exact fromL_plc hP hok h
 ·cases h
open Classical in
theorem Acc.plc {rs : List Rel} (h : Acc rs) : ∃ P, Plc rs P := by
 induction h with
 | nil => exact ⟨fun _ => (0, 0, 0), fun _ => by simp [FrOk], by simp⟩
 | @snoc rs r hs hr hn ih =>
  obtain ⟨P, hP⟩ := ih
  have hx := relFr hr
  have hnc : ¬ Conn rs r.2.1 r.1 := fun hc => by
   have := (btF_conn hs.ok hr.1 hr.2.1 hr.2.2.1 hr.2.2.2.1).2 hc.symm
   rw [hn] at this; cases this
  refine ⟨fun k => if Conn rs r.2.1 k then cmpF (cmpF (P r.1) (cmpF r.2.2 (invF (P r.2.1)))) (P k) else P k, ?_, ?_⟩
  ·intro k
   show FrOk (if _ then _ else _)
   split
   ·exact cmpF_ok _ _
   ·exact hP.ok k
  ·intro x hxm
   rcases List.mem_append.1 hxm with hxm | hxm
   ·have hiff : Conn rs r.2.1 x.1 ↔ Conn rs r.2.1 x.2.1 := ⟨fun h => .fwd h hxm, fun h => .back h hxm⟩
    by_cases hc : Conn rs r.2.1 x.1
    ·simp only [if_pos hc, if_pos (hiff.1 hc)]
     rw [cmpF_assoc _ _ _ (cmpF_ok _ _) (hP.ok _), hP.rel x hxm]
    ·simp only [if_neg hc, if_neg (fun h => hc (hiff.2 h))]
     exact hP.rel x hxm
   ·simp at hxm; subst hxm
    simp only [if_neg hnc, if_pos (Conn.refl : Conn rs x.2.1 x.2.1)]
    rw [cmpF_assoc _ _ _ (hP.ok _) (cmpF_ok _ _), cmpF_assoc _ _ _ hx (invF_ok _), inv_cmpF _ (hP.ok _), cmpF_zero _ hx]
def addAll (rs : List Rel) (l : List Rel) : List Rel := l.foldl (fun rs x => (addF rs x).2) rs
theorem addF_len (rs : List Rel) (x : Rel) : (addF rs x).2.length ≤ rs.length + 1 := by
 unfold addF
 split
 ·cases hb : btF rs x.1 x.2.1 with
  | none => simp
  | some f => simp only; split <;> simp
 ·simp
end Go.Proofs.YtlnplelandimeaaGreat
end
section
namespace Go.Proofs.YtlnplelandimeaaGreat
def Good (P : Int → Fr) (l : List Rel) : Prop := (∀ k, FrOk (P k)) ∧ ∀ x ∈ l, addOk x = true ∧ addX x = x ∧ cmpF (P x.1) x.2.2 = P x.2.1
theorem Good.sub {P : Int → Fr} {l l' : List Rel} (h : Good P l) (hs : ∀ x ∈ l', x ∈ l) : Good P l' := ⟨h.1, fun x hx => h.2 x (hs x hx)⟩
structure OInv (P : Int → Fr) (rs dn : List Rel) : Prop where
 acc : Acc rs
 plc : Plc rs P
 sub : ∀ r ∈ rs, r ∈ dn
 con : ∀ r ∈ dn, Conn rs r.1 r.2.1
theorem OInv.step {P : Int → Fr} {rs dn : List Rel} {x : Rel} (h : OInv P rs dn) (hx : addOk x = true ∧ addX x = x ∧ cmpF (P x.1) x.2.2 = P x.2.1) : (addF rs x).1 = 0 ∧ OInv P (addF rs x).2 (dn ++ [x]) := by
 obtain ⟨h1, h2, h3⟩ := hx
 have hok : RelOk x := by have := addX_ok h1; rwa [h2] at this
 unfold addF
 rw [if_pos h1, h2]
 cases hb : btF rs x.1 x.2.1 with
 | none =>
  refine ⟨rfl, .snoc h.acc hok hb, ⟨h.plc.ok, ?_⟩, ?_, ?_⟩
  ·intro r hr
   rcases List.mem_append.1 hr with hr | hr
   ·exact h.plc.rel r hr
   ·simp at hr; subst hr; exact h3
  ·intro r hr
   rcases List.mem_append.1 hr with hr | hr
   ·exact List.mem_append.2 (.inl (h.sub r hr))
   ·exact List.mem_append.2 (.inr hr)
  ·intro r hr
   rcases List.mem_append.1 hr with hr | hr
   ·exact (h.con r hr).mono fun z hz => List.mem_append.2 (.inl hz)
   ·simp at hr; subst hr; exact .fwd .refl (by simp)
 | some f =>
  obtain ⟨g1, g2⟩ := btF_plc h.plc h.acc.ok hb
  have hf : f = x.2.2 := cmpF_cancel (h.plc.ok x.1) g2 (relFr hok) (g1.trans h3.symm)
  simp only [hf]
  refine ⟨rfl, h.acc, h.plc, fun r hr => List.mem_append.2 (.inl (h.sub r hr)), ?_⟩
  intro r hr
  rcases List.mem_append.1 hr with hr | hr
  ·exact h.con r hr
  ·simp at hr; subst hr
   exact (btF_conn h.acc.ok hok.1 hok.2.1 hok.2.2.1 hok.2.2.2.1).1 (by rw [hb]; rfl)
theorem OInv.all {P : Int → Fr} : ∀ {l rs dn : List Rel}, OInv P rs dn → Good P l → OInv P (addAll rs l) (dn ++ l)
 | [], _, _, h, _ => by simpa [addAll] using h
 | x :: l, rs, dn, h, hl => by
  have := OInv.all (l := l) (h.step (hl.2 x (by simp))).2 (hl.sub fun z hz => by simp [hz])
  simpa [addAll] using this
theorem OInv.nil {P : Int → Fr} (hP : ∀ k, FrOk (P k)) : OInv P [] [] := ⟨.nil, ⟨hP, by simp⟩, by simp, by simp⟩
end Go.Proofs.YtlnplelandimeaaGreat
end
section
namespace Go.Proofs.YtlnplelandimeaaGreat.En
open Go.RowKit
set_option maxRecDepth 100000
def encR (r : RelT) : List Value := [.int .i64 r.1, .int .i64 r.2.1, .int .i64 r.2.2.1, .int .i64 r.2.2.2.1, .int .i64 r.2.2.2.2]
def padTo (ats : List Fr) (k : Nat) : List Fr := ats ++ (List.range (k - ats.length)).map fun (i : Nat) => ((0 : Int), ((ats.length + i : Nat) : Int), (0 : Int))
def plc (ats : List Fr) (k : Int) : Fr := nearF ((padTo ats 8).getD k.toNat (0, 0, 0)) 200
end Go.Proofs.YtlnplelandimeaaGreat.En
end
section
namespace Go.Proofs.YtlnplelandimeaaGreat
open Go.RowKit
set_option maxHeartbeats 400000 in
theorem bsize_any (n m : Int) (w : World) (h1 : -1000000000000 ≤ m) (h2 : m ≤ 1000000000000) :
 Calls Tryz.prog 85 #[.int .i64 n, .int .i64 m] w fun e w' => e = .returned (.bool (szB n m)) ∧ w = w' := by
 by_cases h3 : -m ≤ n
 ·by_cases h4 : n ≤ m
  ·have HS := Lib.hid (show szB n m = true by simp [szB, h3, h4])
   go_enter Tryz.func85, Tryz.ntmps85
   go_wp2
   go_ret
   exact ⟨by simp [HS.out], rfl⟩
  ·have HS := Lib.hid (show szB n m = false by simp [szB, h4])
   go_enter Tryz.func85, Tryz.ntmps85
   go_wp2
   go_ret
   exact ⟨by simp [HS.out], rfl⟩
 ·have HS := Lib.hid (show szB n m = false by simp [szB, h3])
  go_enter Tryz.func85, Tryz.ntmps85
  go_wp2
  go_ret
  exact ⟨by simp [HS.out], rfl⟩
set_option maxHeartbeats 400000 in
theorem rvalid_any (q x y : Int) (w : World) :
 Calls Tryz.prog 61 #[.agg #[.int .i64 q, .int .i64 x, .int .i64 y]] w fun e w' => e = .returned (.bool (szB x 8192 && szB y 8192)) ∧ w.alloc (.cells #[.int .i64 q, .int .i64 x, .int .i64 y] 37) = w' := by
 cases h3 : szB x 8192
 all_goals
  go_enter Tryz.func61, Tryz.ntmps61
  go_wp2_with (go_at_call 85; refine (bsize_any _ _ _ (by omega) (by omega)).mono ?_; rintro e w' ⟨rfl, rfl⟩)
  go_ret
  exact ⟨by simp, rfl⟩
set_option maxHeartbeats 800000 in
theorem rturn_any (q x y : Int) (w : World) (h1 : -1000000000000 ≤ x) (h2 : x ≤ 1000000000000) (h3 : -1000000000000 ≤ y) (h4 : y ≤ 1000000000000) :
 Calls Tryz.prog 105 #[.int .i64 q, .int .i64 x, .int .i64 y] w fun e w' => e = .returned (.tuple #[.int .i64 (tX (q % 4) x y), .int .i64 (tY (q % 4) x y)]) ∧ w = w' := by
 have hm := Lib.hid (mod_any q 4 w (by omega) (by omega))
 have hq1 : 0 ≤ q % 4 := by omega
 have hq2 : q % 4 ≤ 3 := by omega
 generalize q % 4 = m at *
 rcases (by omega : m = 0 ∨ m = 1 ∨ m = 2 ∨ m = 3) with rfl | rfl | rfl | rfl
 all_goals
  go_enter Tryz.func105, Tryz.ntmps105
  go_wp2_with (go_at_call 36; refine hm.out.mono ?_; rintro e w' ⟨rfl, rfl⟩)
  go_ret2
  exact ⟨by simp [tX, tY], rfl⟩
end Go.Proofs.YtlnplelandimeaaGreat
end
section
namespace Go.Proofs.YtlnplelandimeaaGreat
open Go.RowKit
theorem tX_neg (q x y : Int) : tX q (-x) (-y) = -(tX q x y) := by unfold tX; split <;> (try split) <;> (try split) <;> omega
theorem tY_neg (q x y : Int) : tY q (-x) (-y) = -(tY q x y) := by unfold tY; split <;> (try split) <;> (try split) <;> omega
theorem neg4 (q : Int) : -(q % 4) % 4 = -q % 4 := by omega
set_option maxHeartbeats 1000000 in
theorem rInverse_any (fq fx fy : Int) (w : World) :
 Calls Tryz.prog 107 #[.agg #[.int .i64 fq, .int .i64 fx, .int .i64 fy]] w fun e w' => e = .returned (InvV fq fx fy) ∧ Below w.heap.size w w' := by
 have hn := neg4
 cases hf : (szB fx 8192 && szB fy 8192)
 ·have HS := Lib.hid (show InvV fq fx fy = .tuple #[.agg #[.int .i64 0, .int .i64 0, .int .i64 0], .int .i64 1] by simp [InvV, hf])
  go_enter Tryz.func107, Tryz.ntmps107
  go_wp2_with (go_at_call 61; refine (rvalid_any _ _ _ _).mono ?_; rintro e w1 ⟨rfl, rfl⟩)
  refine bodyPost_ret (v := .tuple #[.agg #[.int .i64 0, .int .i64 0, .int .i64 0], .int .i64 1]) (by simp [results, Tryz.results107, go_sem]) rfl ⟨by rw [HS.out], ?_⟩
  repeat (first | with_reducible assumption | with_reducible exact bw_refl _ | with_reducible refine bw_alloc ?_ _ | with_reducible refine bw_drew ?_ | with_reducible refine bw_drewN _ ?_ | refine bw_set ?_ (by simp; try omega) _ | refine bw_call (by with_reducible assumption) ?_)
 ·have HS := Lib.hid (show InvV fq fx fy = .tuple #[.agg #[.int .i64 ((-fq) % 4), .int .i64 (-(tX ((-fq) % 4) fx fy)), .int .i64 (-(tY ((-fq) % 4) fx fy))], .int .i64 0] by simp [InvV, hf, tX_neg, tY_neg])
  obtain ⟨f1, f2, f3, f4⟩ := szB2_of hf
  obtain ⟨b1, b2⟩ := tX_bd (-fq % 4) fx fy 8192 f1 f2 f3 f4
  obtain ⟨b3, b4⟩ := tY_bd (-fq % 4) fx fy 8192 f1 f2 f3 f4
  go_enter Tryz.func107, Tryz.ntmps107
  go_wp2_with (first | (go_at_call 61; refine (rvalid_any _ _ _ _).mono ?_; rintro e w1 ⟨rfl, rfl⟩) | (go_at_call 36; refine (mod_any _ _ _ (by omega) (by omega)).mono ?_; rintro e w1 ⟨rfl, rfl⟩) | (go_at_call 105; refine (rturn_any _ _ _ _ (by omega) (by omega) (by omega) (by omega)).mono ?_; rintro e w1 ⟨rfl, rfl⟩))
  refine bodyPost_ret (v := .tuple #[.agg #[.int .i64 ((-fq) % 4), .int .i64 (-(tX ((-fq) % 4) fx fy)), .int .i64 (-(tY ((-fq) % 4) fx fy))], .int .i64 0]) (by simp [results, Tryz.results107, go_sem]) rfl ⟨by rw [HS.out], ?_⟩
  repeat (first | with_reducible assumption | with_reducible exact bw_refl _ | with_reducible refine bw_alloc ?_ _ | with_reducible refine bw_drew ?_ | with_reducible refine bw_drewN _ ?_ | refine bw_set ?_ (by simp; try omega) _ | refine bw_call (by with_reducible assumption) ?_)
end Go.Proofs.YtlnplelandimeaaGreat
end
section
namespace Go.Proofs.YtlnplelandimeaaGreat.En
open Go.RowKit
set_option maxRecDepth 100000
theorem rInverse_x (A : Int) (f : Fr) (h1 : -A ≤ f.2.1 ∧ f.2.1 ≤ A ∧ -A ≤ f.2.2 ∧ f.2.2 ≤ A) (hA : A ≤ 8192) :
 PureX Tryz.prog 107 [.a [I f.1, I f.2.1, I f.2.2]] (.t [.a [I (invF f).1, I (invF f).2.1, I (invF f).2.2], I 0]) := by
 refine PureX.mk' (Entr.of Tryz.func107 rfl rfl) (by simp [SV.wf, SV.wfs]) (by simp [SV.wf, SV.wfs]) fun w => (rInverse_any f.1 f.2.1 f.2.2 w).mono ?_
 rintro e w' ⟨rfl, hb⟩
 refine ⟨?_, hb⟩
 have e1 : (szB f.2.1 8192 && szB f.2.2 8192) = true := by simp [szB]; omega
 simp [InvV, e1, SV.val, SV.vals, invF]
end Go.Proofs.YtlnplelandimeaaGreat.En
end
section
namespace Go.Proofs.YtlnplelandimeaaGreat.En
open Go.RowKit
set_option maxRecDepth 100000
end Go.Proofs.YtlnplelandimeaaGreat.En
end
section
namespace Go.Proofs.YtlnplelandimeaaGreat.En
open Go.RowKit
set_option maxRecDepth 100000
theorem Right_x (a b q x y : Int) : PureX Tryz.prog 44 [.a [I a, I b, I q, I x, I y]] (B (addOk (a, b, q, x, y))) := by
 refine PureX.of Tryz.func44 rfl tabOk rfl rfl rfl (by simp [SV.wfs, SV.wf]) (by simp [SV.wfs, SV.wf]) fun w => ?_
 (conv=>whnf);repeat' (first|((with_reducible refine isC ?_);first|((with_reducible refine CallX_pure (Size_x _ _ ?_ ?_) ?_)<;>first|omega|with_reducible refine isP ?_|conv=>whnf))|with_reducible exact rfl|((with_reducible first|refine xif_kt (by assumption) ?_|refine xif_kf (by assumption) ?_);conv=>whnf)|((with_reducible refine xif_s ?_ ?_)<;>(intro hb;(try simp (disch:=omega) only [hbS] at hb)<;>conv=>whnf)))
 all_goals refine Fin_pure rfl ?_ trivial
 all_goals simp only [addOk, rbB]
 all_goals simp_all
 all_goals omega
end Go.Proofs.YtlnplelandimeaaGreat.En
end
