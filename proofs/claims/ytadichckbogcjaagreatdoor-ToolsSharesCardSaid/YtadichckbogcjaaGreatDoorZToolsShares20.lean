import Derived.Test.YtadichckbogcjaaGreatDoorZToolsShares18
import Derived.Test.YtadichckbogcjaaGreatDoorZToolsShares19
import Derived.Test.YtadichckbogcjaaGreatDoorZToolsShares01
import Derived.Test.YtadichckbogcjaaGreatDoorZToolsShares08
import Derived.Test.YtadichckbogcjaaGreatDoorZToolsShares10
import Derived.Test.YtadichckbogcjaaGreatDoorZToolsShares09
import Derived.Test.YtadichckbogcjaaGreatDoorZToolsShares15
set_option linter.all false
section
namespace Go.Proofs.YtadichckbogcjaaGreatDoor.En
open Go.RowKit
set_option maxRecDepth 100000
def lenF (o : AOp) : Int := min (o.2.2.1.2.2.length : Int) 1000
def fewB (l : List AOp) : Bool := decide (l.length ≤ 30) && decide (((l.take 100).map lenF).sum ≤ 150)
theorem few_next {l : List AOp} {k : Nat} (hk : k < l.length) : ((l.take (k + 1)).map lenF).sum = ((l.take k).map lenF).sum + lenF (l.getD k op0) := by
  have e : l.getD k op0 = l[k] := by simp [hk]
  rw [List.take_succ_eq_append_getElem hk, e, List.map_append, List.sum_append]
  simp only [List.map_cons, List.map_nil, List.sum_cons, List.sum_nil, Int.add_zero]
theorem few_bd (l : List AOp) : ∀ k : Nat, 0 ≤ ((l.take k).map lenF).sum ∧ ((l.take k).map lenF).sum ≤ 1000 * k := by
  intro k
  induction k with
  | zero => simp
  | succ k ih =>
    by_cases hk : k < l.length
    · rw [few_next hk]
      unfold lenF at *
      omega
    · rw [List.take_of_length_le (by omega)]
      rw [List.take_of_length_le (by omega)] at ih
      omega
end Go.Proofs.YtadichckbogcjaaGreatDoor.En
namespace Go.Proofs.YtadichckbogcjaaGreatDoor.En
open Go.RowKit
set_option maxRecDepth 100000
def partA (a : AtT) (k : Int) : List EntT := match a.1 k, a.2 k with
  | some s, some p => if p.2.1 then [] else (ofE p.2.2 s).1
  | _, _ => []
set_option maxHeartbeats 2000000 in
theorem Part_m (b1 b2 : Nat) (m : List (Int × SlT)) (q : List (Int × PlT)) (k : Int) (hok : okS m) :
    CallM Tryz.prog 36 [.p 0 0, I k] (fun _ _ => True) [atB b1 b2, scO b1 m, plO b2 q]
      (fun r : Option Addr × Nat => .v (.slice r.1 (partA (absM (m, q)) k).length r.2)) (fun r => [atB b1 b2, scO b1 m, plO b2 q, .row 34 4 r.1 (partA (absM (m, q)) k).length r.2 ((partA (absM (m, q)) k).map encE)]) := by
  have ks := Scan_m b1 b2 m q k hok
  have kw := Where_m b1 b2 m q k
  have ho := hok.of k
  have hp : partA (absM (m, q)) k = if (lkI m k).isSome && (lkI q k).isSome && !(plOf q k).2.1 then (ofE (plOf q k).2.2 (slOf m k).2.2).1 else [] := by
    unfold partA absM semS plOf slOf
    cases hi : lkI m k with
    | none => simp [hi]
    | some v =>
      cases hj : lkI q k with
      | none => simp [hi, hj]
      | some p =>
        simp only [hi, hj, Option.map_some, Option.getD_some, Option.isSome_some, Bool.and_self, Bool.true_and]
        cases p.2.1 <;> rfl
  have hl := ofE_len (plOf q k).2.2 (slOf m k).2.2
  rw [hp]
  generalize hs : (lkI m k).isSome = has at *
  generalize hq : (lkI q k).isSome = had at *
  generalize hbs : (slOf m k).2.2 = bs at *
  generalize hpv : plOf q k = p at *
  obtain ⟨v, g, pose⟩ := p
  clear hs hq hp
  refine CallM.of (m := 3) Tryz.func36 rfl tabOk rfl rfl rfl rfl (by simp [SV.wfs, SV.wf]) fun w M π _ => ?_
  have hof := fun (A : Option Addr) (c : Nat) => ofE_m pose A c bs _ rfl rfl (by unfold maxLen; omega)
  dsimp only at hl ⊢
  generalize ofE pose bs = r at *
  cases has with
  | false =>
    (conv=>whnf);repeat' (first|((with_reducible refine isC ?_);first|((first|(with_reducible refine isF 73 ?_);((refine CallX_m ks [0, 1, 2] rfl ⟨⟨rfl, rfl, by simp [SV.wf, SV.wfs]⟩, fun _ _ h => h, fun _ _ h => h, trivial⟩ (by decide) (fun _ _ _ _ => trivial) ?_; intro r1; obtain ⟨B1, d1⟩ := r1))|(with_reducible refine isF 74 ?_);((refine CallX_m kw [0, 1, 2] rfl ⟨⟨rfl, rfl, by simp [SV.wf, SV.wfs]⟩, fun _ _ h => h, fun _ _ h => h, trivial⟩ (by decide) (fun _ _ _ _ => trivial) ?_; intro r3)));conv=>whnf))|with_reducible exact rfl|((with_reducible first|refine xif_kt (by assumption) ?_|refine xif_kf (by assumption) ?_);conv=>whnf)|((with_reducible refine xif_s ?_ ?_)<;>(intro hb;(try simp (disch:=omega) only [hbS] at hb)<;>conv=>whnf)))
    refine Fin_addNil 34 4 ?_
    exact Fin_m (none, 0) [0, 1, 2, 5] ⟨rfl, by simp [SV.wf, SV.wfs]⟩ ⟨⟨rfl, rfl, by simp [SV.wf, SV.wfs]⟩, fun _ _ h => h, fun _ _ h => h, ⟨rfl, rfl, rfl, rfl, rfl, rfl⟩, trivial⟩ (by decide) rfl
  | true =>
    cases had with
    | false =>
      (conv=>whnf);repeat' (first|((with_reducible refine isC ?_);first|((first|(with_reducible refine isF 73 ?_);((refine CallX_m ks [0, 1, 2] rfl ⟨⟨rfl, rfl, by simp [SV.wf, SV.wfs]⟩, fun _ _ h => h, fun _ _ h => h, trivial⟩ (by decide) (fun _ _ _ _ => trivial) ?_; intro r1; obtain ⟨B1, d1⟩ := r1))|(with_reducible refine isF 74 ?_);((refine CallX_m kw [0, 1, 2] rfl ⟨⟨rfl, rfl, by simp [SV.wf, SV.wfs]⟩, fun _ _ h => h, fun _ _ h => h, trivial⟩ (by decide) (fun _ _ _ _ => trivial) ?_; intro r3)));conv=>whnf))|with_reducible exact rfl|((with_reducible first|refine xif_kt (by assumption) ?_|refine xif_kf (by assumption) ?_);conv=>whnf)|((with_reducible refine xif_s ?_ ?_)<;>(intro hb;(try simp (disch:=omega) only [hbS] at hb)<;>conv=>whnf)))
      refine Fin_addNil 34 4 ?_
      exact Fin_m (none, 0) [0, 1, 2, 5] ⟨rfl, by simp [SV.wf, SV.wfs]⟩ ⟨⟨rfl, rfl, by simp [SV.wf, SV.wfs]⟩, fun _ _ h => h, fun _ _ h => h, ⟨rfl, rfl, rfl, rfl, rfl, rfl⟩, trivial⟩ (by decide) rfl
    | true =>
      cases g with
      | true =>
        (conv=>whnf);repeat' (first|((with_reducible refine isC ?_);first|((first|(with_reducible refine isF 73 ?_);((refine CallX_m ks [0, 1, 2] rfl ⟨⟨rfl, rfl, by simp [SV.wf, SV.wfs]⟩, fun _ _ h => h, fun _ _ h => h, trivial⟩ (by decide) (fun _ _ _ _ => trivial) ?_; intro r1; obtain ⟨B1, d1⟩ := r1))|(with_reducible refine isF 74 ?_);((refine CallX_m kw [0, 1, 2] rfl ⟨⟨rfl, rfl, by simp [SV.wf, SV.wfs]⟩, fun _ _ h => h, fun _ _ h => h, trivial⟩ (by decide) (fun _ _ _ _ => trivial) ?_; intro r3)));conv=>whnf))|with_reducible exact rfl|((with_reducible first|refine xif_kt (by assumption) ?_|refine xif_kf (by assumption) ?_);conv=>whnf)|((with_reducible refine xif_s ?_ ?_)<;>(intro hb;(try simp (disch:=omega) only [hbS] at hb)<;>conv=>whnf)))
        refine Fin_addNil 34 4 ?_
        exact Fin_m (none, 0) [0, 1, 2, 5] ⟨rfl, by simp [SV.wf, SV.wfs]⟩ ⟨⟨rfl, rfl, by simp [SV.wf, SV.wfs]⟩, fun _ _ h => h, fun _ _ h => h, ⟨rfl, rfl, rfl, rfl, rfl, rfl⟩, trivial⟩ (by decide) rfl
      | false =>
        (conv=>whnf);repeat' (first|((with_reducible refine isC ?_);first|((first|(with_reducible refine isF 73 ?_);((refine CallX_m ks [0, 1, 2] rfl ⟨⟨rfl, rfl, by simp [SV.wf, SV.wfs]⟩, fun _ _ h => h, fun _ _ h => h, trivial⟩ (by decide) (fun _ _ _ _ => trivial) ?_; intro r1; obtain ⟨B1, d1⟩ := r1))|(with_reducible refine isF 74 ?_);((refine CallX_m kw [0, 1, 2] rfl ⟨⟨rfl, rfl, by simp [SV.wf, SV.wfs]⟩, fun _ _ h => h, fun _ _ h => h, trivial⟩ (by decide) (fun _ _ _ _ => trivial) ?_; intro r3))|(with_reducible refine isF 24 ?_);((refine CallX_m (hof B1 d1) [] rfl trivial (by decide) (fun σ fp w hm => ArgN.of0 (ArgSl.bm (s := (B1, d1, bs)) 3 rfl σ fp w hm) _) ?_; intro r4; obtain ⟨B2, d2⟩ := r4)));conv=>whnf))|with_reducible exact rfl|((with_reducible first|refine xif_kt (by assumption) ?_|refine xif_kf (by assumption) ?_);conv=>whnf)|((with_reducible refine xif_s ?_ ?_)<;>(intro hb;(try simp (disch:=omega) only [hbS] at hb)<;>conv=>whnf)))
        exact Fin_m (B2, d2) [0, 1, 2, 5] ⟨rfl, by simp [SV.wf, SV.wfs]⟩ ⟨⟨rfl, rfl, by simp [SV.wf, SV.wfs]⟩, fun _ _ h => h, fun _ _ h => h, ⟨rfl, rfl, rfl, rfl, rfl, rfl⟩, trivial⟩ (by decide) rfl
end Go.Proofs.YtadichckbogcjaaGreatDoor.En
namespace Go.Proofs.YtadichckbogcjaaGreatDoor.En
open Go.RowKit
set_option maxRecDepth 100000
end Go.Proofs.YtadichckbogcjaaGreatDoor.En
end
section
namespace Go.Proofs.YtadichckbogcjaaGreatDoor.En
open Go.RowKit
theorem ArgSl.of_SlO {w : World} {A : Option Addr} {n C : Nat} {V : Nat → Nat → Int} {α : Type} (enc : α → List Value) (f : Nat → α) (h : SlO w A n C V) (hC : 0 < C) (he : ∀ i, enc (f i) = (List.range C).map fun j => Value.int .i64 (V i j)) : ArgSl w A n C (((List.range n).map f).map enc) := by
  refine ⟨by simp, fun e hm => ?_, fun e hm v hv => ?_, fun hn => ?_⟩
  · obtain ⟨x, hx, rfl⟩ := List.mem_map.1 hm
    obtain ⟨i, _, rfl⟩ := List.mem_map.1 hx
    simp [he]
  · obtain ⟨x, hx, rfl⟩ := List.mem_map.1 hm
    obtain ⟨i, _, rfl⟩ := List.mem_map.1 hx
    rw [he] at hv
    obtain ⟨j, _, rfl⟩ := List.mem_map.1 hv
    rfl
  · rcases h with h | ⟨a, rfl, h⟩
    · exact (hn h).elim
    · obtain ⟨b, o, s⟩ := a
      have h0 := (h 0 (by omega) 0 hC).1
      have hs : s = none := by
        simp only [Nat.zero_mul, Addr.add, if_true] at h0
        unfold World.cell? at h0
        cases s with
        | none => rfl
        | some s =>
          exfalso
          simp only [Option.isSome_some, if_true] at h0
          revert h0
          split <;> intro h0 <;> cases h0
      subst hs
      refine ⟨b, o, rfl, fun i e hi j v hj => ?_⟩
      rw [List.getElem?_map, List.getElem?_map] at hi
      by_cases hin : i < n
      · rw [List.getElem?_range hin] at hi
        simp only [Option.map_some, Option.some.injEq] at hi
        subst hi
        rw [he, List.getElem?_map] at hj
        by_cases hjn : j < C
        · rw [List.getElem?_range hjn] at hj
          simp only [Option.map_some, Option.some.injEq] at hj
          subst hj
          have := (h i hin j hjn).1
          rw [Addr.add_mid, Addr.add_mid] at this
          exact this
        · rw [List.getElem?_eq_none (by simpa using hjn)] at hj
          cases hj
      · rw [List.getElem?_eq_none (by simpa using hin)] at hi
        cases hi
end Go.Proofs.YtadichckbogcjaaGreatDoor.En
end
section
namespace Go.Proofs.YtadichckbogcjaaGreatDoor.En
open Go.RowKit
set_option maxRecDepth 100000
def opsW (w : World) (A : Option Addr) (n : Nat) (l : List AOp) : Prop := ArgSl w A n 8 (l.map encOp) ∧ ∀ o ∈ l, ArgSl w o.2.2.1.1 o.2.2.1.2.2.length 2 (o.2.2.1.2.2.map encBm) ∧ o.2.2.1.2.2.length ≤ maxLen
theorem opsW.of0 {C : Ctx} {ob : List OB} {A : Option Addr} {n : Nat} {l : List AOp} (h : opsW C.w0 A n l) (hM : C.M = fun _ => False) : ∀ σ fp w, Mem C σ fp ob w → opsN w (MOf 0 fun j => fp (([] : List Nat).getD j 0)) A n l :=
  fun σ fp w hm => ⟨ArgN.of0 (h.1.mem (by decide) hM σ fp w hm) _, fun o ho => ⟨ArgN.of0 ((h.2 o ho).1.mem (by decide) hM σ fp w hm) _, (h.2 o ho).2⟩⟩
theorem opsW.op {w : World} {A : Option Addr} {n : Nat} {l : List AOp} (h : opsW w A n l) {o : AOp} (ho : o ∈ l) : opN w (fun _ => False) o := ArgN.of (h.2 o ho).1 fun _ => id
theorem opsW.few {C : Ctx} {ob : List OB} {A : Option Addr} {n : Nat} {l : List AOp} (h : opsW C.w0 A n l) (hM : C.M = fun _ => False) : ∀ σ fp w, Mem C σ fp ob w → ArgSl w A n 8 (l.map encOp) ∧ ∀ o ∈ l, o.2.2.1.2.2.length ≤ maxLen :=
  fun σ fp w hm => ⟨h.1.mem (by decide) hM σ fp w hm, fun o ho => (h.2 o ho).2⟩
abbrev KnI (S : OpT → Prop) := {r : StT // okS r.1 ∧ ∃ L, TopA L (absM r) ∧ ∀ o, o ∈ L ↔ S o}
theorem KnI.step {S S' : OpT → Prop} {r : StT} (h : okS r.1 ∧ ∃ L, TopA L (absM r) ∧ ∀ o, o ∈ L ↔ S o) {o : OpT} (r' : StI (stepA (absM r) o)) (hS : ∀ x, S' x ↔ S x ∨ x = o) : okS r'.1.1 ∧ ∃ L, TopA L (absM r'.1) ∧ ∀ x, x ∈ L ↔ S' x := by
  obtain ⟨_, L, h1, h2⟩ := h
  refine ⟨r'.2.1, L ++ [o], ?_, fun x => ?_⟩
  · rw [r'.2.2]
    exact h1.step o
  · rw [List.mem_append, List.mem_singleton, h2, hS]
end Go.Proofs.YtadichckbogcjaaGreatDoor.En
end
section
namespace Go.Proofs.YtadichckbogcjaaGreatDoor
open Go.ChangeShapes Go.WideShapes Go.ChangeAt Go.RowKit Go.Joins Go.Deep
set_option maxRecDepth 100000
theorem op_cells {H : Type} {enc : TypeId × Value → H} {w : World} {base : Nat} {spare : Nat → Bool} {held : Bool} {fuel : Nat} {cs : List Value} {x : DataW H × List MemPlace} (hc : cs.length = 8) (h : DataW.trod enc Tryz.prog w base spare held fuel 72 cs = some x) :
    ∃ o : En.AOp, cs = En.encOp o ∧ En.ArgSl w o.2.2.1.1 o.2.2.1.2.2.length 2 (o.2.2.1.2.2.map En.encBm) ∧ o.2.2.1.2.2.length ≤ maxLen := by
  have hC : cs.length = Tryz.prog.cellsOf 72 := hc.trans (by kernel_rfl)
  have one : ∀ j, j < 8 → (cs.drop j).take 1 = [cs.getD j undef] := fun j hj => by
    have e : cs.getD j undef = cs[j]'(by omega) := by simp [show j < cs.length by omega]
    rw [e, List.drop_eq_getElem_cons (by omega)]
    rfl
  have hint : ∀ j, j < 8 → leafT Tryz.prog 4 72 j = some 3 → ∃ a : Int, cs.getD j undef = .int .i64 a := fun j hj hl => by
    obtain ⟨f', y, hy⟩ := leaf_cell 4 hl hC h
    obtain ⟨a, ha, _⟩ := DataW.trod_int Tryz.underlying3 hy
    rw [one j hj] at ha
    exact ⟨a, by simpa using ha⟩
  have hbool : ∀ j, j < 8 → leafT Tryz.prog 4 72 j = some 4 → ∃ a : Bool, cs.getD j undef = .bool a := fun j hj hl => by
    obtain ⟨f', y, hy⟩ := leaf_cell 4 hl hC h
    obtain ⟨a, ha, _⟩ := DataW.trod_bool Tryz.underlying4 hy
    rw [one j hj] at ha
    exact ⟨a, by simpa using ha⟩
  obtain ⟨mv, h0⟩ := hbool 0 (by decide) (by kernel_rfl)
  obtain ⟨id, h1⟩ := hint 1 (by decide) (by kernel_rfl)
  obtain ⟨v, h3⟩ := hint 3 (by decide) (by kernel_rfl)
  obtain ⟨g, h4⟩ := hbool 4 (by decide) (by kernel_rfl)
  obtain ⟨px, h5⟩ := hint 5 (by decide) (by kernel_rfl)
  obtain ⟨py, h6⟩ := hint 6 (by decide) (by kernel_rfl)
  obtain ⟨ph, h7⟩ := hint 7 (by decide) (by kernel_rfl)
  have hsl : leafT Tryz.prog 4 72 2 = some 59 := by kernel_rfl
  obtain ⟨f', y, hy⟩ := leaf_cell 4 hsl hC h
  rw [one 2 (by decide)] at hy
  have hcs : cs = [cs.getD 0 undef, cs.getD 1 undef, cs.getD 2 undef, cs.getD 3 undef, cs.getD 4 undef, cs.getD 5 undef, cs.getD 6 undef, cs.getD 7 undef] := by
    match cs, hc with
    | [_, _, _, _, _, _, _, _], _ => rfl
  rw [h0, h1, h3, h4, h5, h6, h7] at hcs
  have hflat : flatI Tryz.prog 4 98 = true := by kernel_rfl
  rcases open_sliceI Tryz.underlying59 hflat hy with h2 | ⟨a, len, cap, V, h2, hle, hcap, hat⟩
  · have h2' : cs.getD 2 undef = .slice none 0 0 := by simpa using h2
    rw [h2'] at hcs
    exact ⟨(mv, id, (none, 0, []), (v, g, px, py, ph)), hcs, ⟨rfl, by simp, by simp, fun h => (h rfl).elim⟩, by simp [maxLen]⟩
  · have h2' : cs.getD 2 undef = .slice (some a) len cap := by simpa using h2
    rw [h2'] at hcs
    have hC2 : Tryz.prog.cellsOf 98 = 2 := by kernel_rfl
    rw [hC2] at hat
    refine ⟨(mv, id, (some a, cap, (List.range len).map fun i => (V i 0, V i 1)), (v, g, px, py, ph)), ?_, ?_, ?_⟩
    · rw [hcs]
      simp [En.encOp]
    · have := En.ArgSl.of_SlO En.encBm (fun i => (V i 0, V i 1)) (.inr ⟨a, rfl, hat⟩) (by decide) (fun i => rfl)
      simpa using this
    · simp
      omega
theorem open_ops {H : Type} {enc : TypeId × Value → H} {w : World} {base : Nat} {spare : Nat → Bool} {held : Bool} {r : Reach} {b0 : Nat} {v : Value} {d : DataW H} {p : List MemPlace} (hv : Value.okWide Tryz.prog w r b0 38 v) (h : DataW.Trod enc Tryz.prog w base spare held 38 v d p) :
    ∃ (A : Option Addr) (n c : Nat) (l : List En.AOp), v = .slice A n c ∧ n ≤ c ∧ c ≤ maxLen ∧ l.length = n ∧ En.opsW w A n l := by
  obtain ⟨a, len, cap, rfl⟩ := okWide_slice Tryz.underlying38 hv
  obtain ⟨fuel, hf⟩ := h
  rcases open_slice Tryz.underlying38 hf with h0 | ⟨ad, len', cap', m, k, D, Pl, hcs, hb, hl, hm, hmm, hx, hi⟩
  · have : Value.slice a len cap = .slice none 0 0 := by simpa [Value.cells] using h0.1
    exact ⟨none, 0, 0, [], this, Nat.le_refl _, by simp [maxLen], rfl, ⟨rfl, by simp, by simp, fun h => (h rfl).elim⟩, by simp⟩
  · have hval : Value.slice a len cap = .slice (some ad) len' cap' := by simpa [Value.cells] using hcs
    have hC : Tryz.prog.cellsOf 72 = 8 := by kernel_rfl
    rw [hC] at hi
    have hlm : len' ≤ m := by rw [hmm]; split <;> omega
    have hex : ∀ i, ∃ o : En.AOp, i < len' → (∀ j, j < 8 → w.cell? ((ad.add (i * 8)).add j) = (En.encOp o)[j]?) ∧ En.ArgSl w o.2.2.1.1 o.2.2.1.2.2.length 2 (o.2.2.1.2.2.map En.encBm) ∧ o.2.2.1.2.2.length ≤ maxLen := by
      intro i
      by_cases h1 : i < len'
      · obtain ⟨cs', hc, ht'⟩ := hi i (by omega)
        obtain ⟨_, hcl, hat⟩ := World.cells?_some hc
        obtain ⟨o, ho, hs, hl2⟩ := op_cells hcl ht'
        refine ⟨o, fun _ => ⟨fun j hj => ?_, hs, hl2⟩⟩
        rw [← ho]
        exact hat j hj
      · exact ⟨En.op0, fun h => absurd h h1⟩
    obtain ⟨f, hfo⟩ := Classical.axiomOfChoice hex
    refine ⟨some ad, len', cap', (List.range len').map f, hval, hl, hm, by simp, ⟨by simp, ?_, ?_, ?_⟩, ?_⟩
    · intro e he
      obtain ⟨o, _, rfl⟩ := List.mem_map.1 he
      rfl
    · intro e he v hv'
      obtain ⟨o, _, rfl⟩ := List.mem_map.1 he
      simp [En.encOp] at hv'
      rcases hv' with rfl | rfl | rfl | rfl | rfl | rfl | rfl | rfl <;> rfl
    · intro hn
      obtain ⟨b, o, s⟩ := ad
      have h0 := (hfo 0 (by omega)).1 0 (by omega)
      have hs : s = none := by
        simp only [Nat.zero_mul, Addr.add] at h0
        unfold World.cell? at h0
        cases s with
        | none => rfl
        | some s =>
          exfalso
          simp [En.encOp] at h0
          revert h0
          split <;> intro h0 <;> cases h0
      subst hs
      refine ⟨b, o, rfl, fun i e hi' j v hj => ?_⟩
      rw [List.getElem?_map, List.getElem?_map] at hi'
      by_cases hin : i < len'
      · rw [List.getElem?_range hin] at hi'
        simp only [Option.map_some, Option.some.injEq] at hi'
        subst hi'
        have hj8 : j < 8 := (List.getElem?_eq_some_iff.1 hj).1
        have := (hfo i hin).1 j hj8
        rw [Addr.add_mid, Addr.add_mid] at this
        rw [this]
        exact hj
      · rw [List.getElem?_eq_none (by simpa using hin)] at hi'
        cases hi'
    · intro o ho
      obtain ⟨i, hi', rfl⟩ := List.mem_map.1 ho
      have := hfo i (by simpa using hi')
      exact this.2
end Go.Proofs.YtadichckbogcjaaGreatDoor
end
section
namespace Go.Proofs.YtadichckbogcjaaGreatDoor.En
open Go.RowKit
set_option maxRecDepth 100000
end Go.Proofs.YtadichckbogcjaaGreatDoor.En
end
section
namespace Go.Proofs.YtadichckbogcjaaGreatDoor.En
open Go.RowKit
set_option maxRecDepth 100000
def bsI (p : Nat → Bool) : Nat → Nat → Nat → Nat
  | 0, i, _ => i
  | f + 1, i, j => if i < j then (if p ((i + j) / 2) then bsI p f ((i + j) / 2 + 1) j else bsI p f i ((i + j) / 2)) else i
theorem bsI_end (p : Nat → Bool) (f i : Nat) : bsI p f i i = i := by cases f <;> simp [bsI]
theorem bsI_at (p : Nat → Bool) (m : Nat) : ∀ f i j, j - i ≤ f → i ≤ m → m ≤ j → (∀ k, k < m → p k = true) → (∀ k, m ≤ k → k < j → p k = false) → bsI p f i j = m
  | 0, i, j, h, h1, h2, _, _ => by simp [bsI]; omega
  | f + 1, i, j, h, h1, h2, ht, hf => by
    unfold bsI
    by_cases hij : i < j
    · rw [if_pos hij]
      by_cases hm : (i + j) / 2 < m
      · rw [ht _ hm, if_pos rfl]
        exact bsI_at p m f _ j (by omega) (by omega) h2 ht hf
      · rw [hf _ (by omega) (by omega), if_neg (by simp)]
        exact bsI_at p m f i _ (by omega) h1 (by omega) ht fun k h3 h4 => hf k h3 (by omega)
    · rw [if_neg hij]
      omega
theorem At1_d (e : EntT) (c : CellT) : PureD Tryz.prog 60 [.a [I e.1, I e.2.1, I e.2.2.1, I e.2.2.2], .a [I c.1, I c.2]] (I (cellI e.cell c)) := by
  refine PureD.of Tryz.func60 rfl tabOk rfl rfl rfl (by simp [SV.wfs, SV.wf]) (by simp [SV.wfs, SV.wf]) fun w => ?_
  (conv=>whnf);repeat' (first|((with_reducible refine isC ?_);first|((with_reducible refine CallX_d (compare_d (_, _) (_, _)) ?_)<;>first|omega|with_reducible refine isP ?_|conv=>whnf))|with_reducible exact rfl|((with_reducible first|refine xif_kt (by assumption) ?_|refine xif_kf (by assumption) ?_);conv=>whnf)|((with_reducible refine xif_s ?_ ?_)<;>(intro hb;(try simp (disch:=omega) only [hbS] at hb)<;>conv=>whnf)))
  exact Fin_d rfl rfl rfl trivial
def befP (l : List EntT) (c : CellT) (k : Nat) : Bool := decide (cellI (l.getD k e0).cell c < 0)
def bsE (l : List EntT) (c : CellT) : Nat := bsI (befP l c) l.length 0 l.length
def bsF (l : List EntT) (c : CellT) : Bool := decide (bsE l c < l.length) && decide (cellI (l.getD (bsE l c) e0).cell c = 0)
set_option maxHeartbeats 1000000 in
theorem BSF_v (A : Option Addr) (c : Nat) (l : List EntT) (x : CellT) {n : Nat} (hl : l.length = n) (hn : n ≤ 1000000000) :
    CallV Tryz.prog 59 [.v (.slice A n c), .a [I x.1, I x.2], .v (.func (.func 60) #[] #[])] (fun w => ArgSl w A n 4 (l.map encE)) (.t [I (bsE l x), B (bsF l x)]) := by
  refine CallV.of Tryz.func59 rfl tabOk rfl rfl rfl (by simp [SV.wfs, SV.wf]) (by simp [SV.wfs, SV.wf]) fun w hpre => ?_
  (conv=>whnf);repeat' (first|((with_reducible refine isW ?_;first|refine xwr_ok (by omega) (by omega) ?_|refine xwr_raw ?_);conv=>whnf)|((with_reducible refine isS ?_;refine xshr_1 ?_);conv=>whnf)|((with_reducible refine isK ?_;first|refine xcv_i64 (by omega) (by omega) ?_|refine xcv_u64 (by omega) (by omega) ?_|refine xcv_u8 (by omega) (by omega) ?_|refine xcv_raw ?_);conv=>whnf)|((first|refine DrawX_s tabOk folOk ?_|refine DrawS_i (by kernel_rfl) ?_|with_reducible refine andX_i ?_ ?_)<;>conv=>whnf)|with_reducible exact rfl|((with_reducible first|refine xif_kt (by assumption) ?_|refine xif_kf (by assumption) ?_);conv=>whnf)|((with_reducible refine xif_s ?_ ?_)<;>(intro hb;(try simp (disch:=omega) only [hbS] at hb)<;>conv=>whnf)))
  refine LoopX_inv tabOk (α := Nat × Nat) (fun p => p.1 ≤ p.2 ∧ p.2 ≤ n ∧ ∃ f, p.2 - p.1 ≤ f ∧ bsI (befP l x) f p.1 p.2 = bsE l x) (fun p => [(0, .v (.slice A n c)), (2, .v (.func (.func 60) #[] #[])), (4, .p 0 0), (8, I n), (9, I p.1), (10, I p.2)]) (fun _ => [.box 25 [I x.1, I x.2]]) (fun p => p.2 - p.1) (0, n) [0] ⟨Nat.zero_le _, Nat.le_refl _, n, by simp, by simp [bsE, hl]⟩ ?_ ?_
  · ((refine ⟨?_, ?_, ?_, ?_⟩) <;> (repeat' ((conv => whnf); apply And.intro)) <;> (try (first | exact trivial | decide)))
    all_goals first | rfl | exact fun _ _ h => h | simp [SV.wf, SV.wfs]
  · rintro ⟨i, j⟩ hk
    try dsimp only at hk ⊢
    obtain ⟨hij, hjn, f, hf, hr⟩ := hk
    (conv=>whnf);repeat' (first|((with_reducible refine isC ?_);first|((first|with_reducible refine CallX_d (At1_d (l.getD (((i : Int) + j) / 2).toNat e0) x) ?_|with_reducible refine CallX_d (At1_d (l.getD i e0) x) ?_)<;>first|omega|with_reducible refine isP ?_|conv=>whnf))|((with_reducible refine isV ?_);first|((first|refine ValX_index tabOk rfl (hpre.mem (by decide) rfl) rfl ?_ ?_ ?_|(with_reducible refine nat_idx ?_);refine ValX_loadEn _ _ (e0) tabOk rfl rfl rfl rfl (hpre.mem (by decide) rfl) ?_ ?_ ?_|refine ValX_loadE _ _ (e0) tabOk rfl rfl rfl rfl (hpre.mem (by decide) rfl) ?_ ?_ ?_)<;>first|rfl|omega|with_reducible refine isP ?_|conv=>whnf))|((with_reducible refine isW ?_;first|refine xwr_ok (by omega) (by omega) ?_|refine xwr_raw ?_);conv=>whnf)|((with_reducible refine isS ?_;refine xshr_1 ?_);conv=>whnf)|((with_reducible refine isK ?_;first|refine xcv_i64 (by omega) (by omega) ?_|refine xcv_u64 (by omega) (by omega) ?_|refine xcv_u8 (by omega) (by omega) ?_|refine xcv_raw ?_);conv=>whnf)|((first|refine DrawX_s tabOk folOk ?_|refine DrawS_i (by kernel_rfl) ?_|with_reducible refine andX_i ?_ ?_)<;>conv=>whnf)|with_reducible exact rfl|((with_reducible first|refine xif_kt (by assumption) ?_|refine xif_kf (by assumption) ?_);conv=>whnf)|((with_reducible refine xif_s ?_ ?_)<;>(intro hb;(try simp (disch:=omega) only [hbS] at hb)<;>conv=>whnf)))
    all_goals try (rw [show ((((i : Int) + j) / 2).toNat) = (i + j) / 2 by omega] at hb)
    · have hlt : i < j := by omega
      obtain ⟨f, rfl⟩ : ∃ f', f = f' + 1 := ⟨f - 1, by omega⟩
      have hp : befP l x ((i + j) / 2) = true := by simpa [befP] using hb
      rw [bsI, if_pos hlt, hp, if_pos rfl] at hr
      refine ⟨((i + j) / 2 + 1, j), [0], ⟨by (try dsimp only); omega, hjn, f, by (try dsimp only); omega, hr⟩, ?_, by (try dsimp only); omega⟩
      ((refine ⟨?_, ?_, ?_, ?_⟩) <;> (repeat' ((conv => whnf); apply And.intro)) <;> (try (first | exact trivial | decide)))
      all_goals first | rfl | exact fun _ _ h => h | exact I_eq (by omega) | simp [SV.wf, SV.wfs]
    · have hlt : i < j := by omega
      obtain ⟨f, rfl⟩ : ∃ f', f = f' + 1 := ⟨f - 1, by omega⟩
      have hp : befP l x ((i + j) / 2) = false := by simpa [befP] using hb
      rw [bsI, if_pos hlt, hp, if_neg (by simp)] at hr
      refine ⟨(i, (i + j) / 2), [0], ⟨by (try dsimp only); omega, by (try dsimp only); omega, f, by (try dsimp only); omega, hr⟩, ?_, by (try dsimp only); omega⟩
      ((refine ⟨?_, ?_, ?_, ?_⟩) <;> (repeat' ((conv => whnf); apply And.intro)) <;> (try (first | exact trivial | decide)))
      all_goals first | rfl | exact fun _ _ h => h | exact I_eq (by omega) | simp [SV.wf, SV.wfs]
    · obtain rfl : i = j := by omega
      rw [bsI_end] at hr
      refine Fin_d rfl rfl ?_ (by simp [SV.wf, SV.wfs])
      have hlt : bsE l x < l.length := by omega
      simp only [bsF, ← hr]
      rw [hr, decide_eq_true hlt, ← hr, Bool.true_and]
      rfl
    · obtain rfl : i = j := by omega
      rw [bsI_end] at hr
      refine Fin_d rfl rfl ?_ (by simp [SV.wf, SV.wfs])
      have hlt : ¬ bsE l x < l.length := by omega
      simp only [bsF, ← hr]
      rw [hr, decide_eq_false hlt, ← hr, Bool.false_and]
theorem bsF_lt {l : List EntT} {x : CellT} (h : bsF l x = true) : bsE l x < l.length := by
  simp only [bsF, Bool.and_eq_true, decide_eq_true_eq] at h
  exact h.1
def atE (l : List EntT) (x : CellT) : EntT := if bsF l x && vE l then l.getD (bsE l x) e0 else (x.1, x.2, 0, 0)
theorem At_v (A : Option Addr) (c : Nat) (l : List EntT) (x : CellT) {n : Nat} (hl : l.length = n) (hn : n ≤ 1000000000) :
    CallV Tryz.prog 25 [.v (.slice A n c), .a [I x.1, I x.2]] (fun w => ArgSl w A n 4 (l.map encE)) (.a [I (atE l x).1, I (atE l x).2.1, I (atE l x).2.2.1, I (atE l x).2.2.2]) := by
  have hlen := bsF_lt (l := l) (x := x)
  refine CallV.of Tryz.func25 rfl tabOk rfl rfl rfl (by simp [SV.wfs, SV.wf]) (by simp [SV.wfs, SV.wf]) fun w hpre => ?_
  (conv=>whnf);repeat' (first|((with_reducible refine isC ?_);first|(refine CallX_v (BSF_v A c l x hl hn) (hpre.mem (by decide) rfl) ?_; conv => whnf)|(refine CallX_v (Valid_v A c l hl (by unfold maxLen; omega)) (hpre.mem (by decide) rfl) ?_; conv => whnf))|((with_reducible refine isV ?_);first|((first|refine ValX_index tabOk rfl (hpre.mem (by decide) rfl) rfl ?_ ?_ ?_|(with_reducible refine nat_idx ?_);refine ValX_loadEn _ _ (e0) tabOk rfl rfl rfl rfl (hpre.mem (by decide) rfl) ?_ ?_ ?_|refine ValX_loadE _ _ (e0) tabOk rfl rfl rfl rfl (hpre.mem (by decide) rfl) ?_ ?_ ?_)<;>first|rfl|omega|with_reducible refine isP ?_|conv=>whnf))|with_reducible exact rfl|((with_reducible first|refine xif_kt (by assumption) ?_|refine xif_kf (by assumption) ?_);conv=>whnf)|((with_reducible refine xif_s ?_ ?_)<;>(intro hb;(try simp (disch:=omega) only [hbS] at hb)<;>conv=>whnf)))
  all_goals try (have := hlen ‹_›; omega)
  · refine Fin_d rfl rfl ?_ (by simp [SV.wf, SV.wfs])
    simp only [atE, hb, Bool.false_and, Bool.false_eq_true, if_false]
  · refine Fin_d rfl rfl ?_ (by simp [SV.wf, SV.wfs])
    simp only [atE, hb, Bool.and_false, Bool.false_eq_true, if_false]
  · rename_i h1
    refine Fin_d rfl rfl ?_ (by simp [SV.wf, SV.wfs])
    simp only [atE, hb, h1, Bool.and_self, if_true]
theorem cellI_zero (a b : CellT) : cellI a b = 0 ↔ a = b := by
  constructor
  · intro h
    simp only [cellI, orI, cmpI] at h
    refine Prod.ext ?_ ?_
    all_goals
      repeat' split at h
      all_goals omega
  · rintro rfl
    simp [cellI, orI, cmpI]
theorem befP_iff (l : List EntT) (c : CellT) (k : Nat) : befP l c k = befB (l.getD k e0).cell c := by
  rw [Bool.eq_iff_iff, befP, decide_eq_true_eq, cellI_neg]
theorem bsE_at {l : List EntT} (h : vE l = true) {x : CellT} {m : Nat} (hm : m ≤ l.length) (h1 : ∀ k, k < m → befB (l.getD k e0).cell x = true) (h2 : m < l.length → befB (l.getD m e0).cell x = false) : bsE l x = m := by
  unfold bsE
  refine bsI_at _ m _ _ _ (by omega) (Nat.zero_le _) hm (fun k hk => by rw [befP_iff]; exact h1 k hk) fun k hk hk' => ?_
  rw [befP_iff]
  have h3 := h2 (by omega)
  by_cases e : k = m
  · rw [e]; exact h3
  · have h4 := vE_asc h (show m < k by omega) hk'
    cases h5 : befB (l.getD k e0).cell x with
    | false => rfl
    | true => rw [befB_trans h4 h5] at h3; cases h3
theorem at_mem {l : List EntT} (h : vE l = true) {e : EntT} (he : e ∈ l) : atE l e.cell = e := by
  obtain ⟨m, hm, rfl⟩ := List.getElem_of_mem he
  have hg : l.getD m e0 = l[m] := by simp [hm]
  have hb : bsE l l[m].cell = m := bsE_at h (by omega) (fun k hk => by rw [← hg]; exact vE_asc h hk hm) (fun _ => by rw [hg]; exact befB_irr _)
  have hf : bsF l l[m].cell = true := by
    simp only [bsF, hb, hg]
    simp [hm, cellI_zero]
  simp only [atE, hf, h, Bool.and_self, if_true, hb, hg]
theorem at_none {l : List EntT} {x : CellT} (hx : ∀ e ∈ l, e.cell ≠ x) : atE l x = (x.1, x.2, 0, 0) := by
  unfold atE
  cases hf : bsF l x with
  | false => simp
  | true =>
    have hlt := bsF_lt hf
    simp only [bsF, Bool.and_eq_true, decide_eq_true_eq, cellI_zero] at hf
    refine (hx (l.getD (bsE l x) e0) ?_ hf.2).elim
    simp [hlt]
theorem at_bad {l : List EntT} {x : CellT} (h : vE l = false) : atE l x = (x.1, x.2, 0, 0) := by
  simp [atE, h]
end Go.Proofs.YtadichckbogcjaaGreatDoor.En
end
section
namespace Go.Proofs.YtadichckbogcjaaGreatDoor.En
open Go.RowKit
set_option maxRecDepth 100000
def getF (l : List EntT) (c : CellT) : EntT := (l.find? fun e => decide (e.cell = c)).getD (c.1, c.2, 0, 0)
theorem find_skip (p : EntT → Bool) (l : List EntT) : ∀ k, k ≤ l.length → (∀ j, j < k → p (l.getD j e0) = false) → l.find? p = (l.drop k).find? p
  | 0, _, _ => by simp
  | k + 1, hk, h => by
    rw [find_skip p l k (by omega) (fun j hj => h j (by omega)), List.drop_eq_getElem_cons (show k < l.length by omega), List.find?_cons]
    have := h k (by omega)
    simp only [List.getD_eq_getElem?_getD, List.getElem?_eq_getElem (show k < l.length by omega), Option.getD_some] at this
    rw [this]
theorem getF_at {l : List EntT} {c : CellT} {k : Nat} (hk : k < l.length) (hc : (l.getD k e0).cell = c) (h : ∀ j, j < k → (l.getD j e0).cell ≠ c) : getF l c = l.getD k e0 := by
  unfold getF
  rw [find_skip _ l k (by omega) (fun j hj => by simp only [h j hj, decide_false]), List.drop_eq_getElem_cons hk, List.find?_cons]
  have e : l.getD k e0 = l[k] := by simp [hk]
  rw [e] at hc ⊢
  simp [hc]
theorem getF_no {l : List EntT} {c : CellT} (h : ∀ j, j < l.length → (l.getD j e0).cell ≠ c) : getF l c = (c.1, c.2, 0, 0) := by
  unfold getF
  rw [find_skip _ l l.length (Nat.le_refl _) (fun j hj => by simp only [h j hj, decide_false])]
  simp
theorem getF_mem (l : List EntT) (c : CellT) : getF l c ∈ l ∧ (getF l c).cell = c ∨ getF l c = (c.1, c.2, 0, 0) ∧ ∀ e ∈ l, e.cell ≠ c := by
  unfold getF
  cases h : l.find? fun e => decide (e.cell = c) with
  | none =>
    rw [List.find?_eq_none] at h
    exact .inr ⟨rfl, fun e he => by simpa using h e he⟩
  | some x =>
    have h1 := List.find?_some h
    exact .inl ⟨List.mem_of_find?_eq_some h, by simpa using h1⟩
theorem atE_eq {l : List EntT} (c : CellT) : atE l c = if vE l then getF l c else (c.1, c.2, 0, 0) := by
  cases h : vE l with
  | false => rw [if_neg (by simp), at_bad h]
  | true =>
    rw [if_pos rfl]
    rcases getF_mem l c with ⟨h1, h2⟩ | ⟨h1, h2⟩
    · rw [← h2, at_mem h h1, h2]
    · rw [at_none h2, h1]
theorem find_w (A : Option Addr) (c : Nat) (l : List EntT) (x : CellT) {n : Nat} (hl : l.length = n) (hn : n ≤ maxLen) :
    CallW Tryz.prog 33 [.v (.slice A n c), .a [I x.1, I x.2]] (fun w => ArgSl w A n 4 (l.map encE)) (.a [I (getF l x).1, I (getF l x).2.1, I (getF l x).2.2.1, I (getF l x).2.2.2]) := by
  unfold maxLen at hn
  refine CallW.of Tryz.func33 rfl tabOk rfl rfl rfl (by simp [SV.wfs, SV.wf]) (by simp [SV.wfs, SV.wf]) fun w hpre => ?_
  (conv=>whnf);repeat' (first|((with_reducible refine isW ?_;first|refine xwr_ok (by omega) (by omega) ?_|refine xwr_raw ?_);conv=>whnf)|((first|refine DrawX_s tabOk folOk ?_|refine DrawS_i (by kernel_rfl) ?_|with_reducible refine andX_i ?_ ?_)<;>conv=>whnf)|with_reducible exact rfl|((with_reducible first|refine xif_kt (by assumption) ?_|refine xif_kf (by assumption) ?_);conv=>whnf)|((with_reducible refine xif_s ?_ ?_)<;>(intro hb;(try simp (disch:=omega) only [hbS] at hb)<;>conv=>whnf)))
  refine LoopX_inv tabOk (α := Nat) (fun k => k ≤ n ∧ ∀ j, j < k → (l.getD j e0).cell ≠ x) (fun k => [(5, I k), (0, .v (.slice A n c)), (3, .p 0 0), (4, .p 1 0)]) (fun _ => [.box 25 [I x.1, I x.2], .box 34 [I 0, I 0, I 0, I 0]]) (fun k => n - k) 0 [0, 1] ⟨Nat.zero_le _, by omega⟩ ?_ ?_
  · ((refine ⟨?_, ?_, ?_, ?_⟩) <;> (repeat' ((conv => whnf); apply And.intro)) <;> (try (first | exact trivial | decide)))
    all_goals first | rfl | exact fun _ _ h => h | (simp [SV.wf, SV.wfs]; done) | trace_state
  · rintro k ⟨hk, hf⟩
    by_cases hlt : k < n
    · (conv=>whnf);repeat' (first|((with_reducible refine isV ?_);first|((first|refine ValX_index tabOk rfl (hpre.mem (by decide) rfl) rfl ?_ ?_ ?_|(with_reducible refine nat_idx ?_);refine ValX_loadEn _ _ (e0) tabOk rfl rfl rfl rfl (hpre.mem (by decide) rfl) ?_ ?_ ?_|refine ValX_loadE _ _ (e0) tabOk rfl rfl rfl rfl (hpre.mem (by decide) rfl) ?_ ?_ ?_)<;>first|rfl|omega|with_reducible refine isP ?_|conv=>whnf)|((first|(with_reducible refine nat_idxF ?_);refine ValX_loadGn _ _ (e0) _ tabOk rfl rfl rfl (hpre.mem (by decide) rfl) ?_ ?_ rfl rfl ?_|refine ValX_loadG _ _ (e0) _ tabOk rfl rfl rfl (hpre.mem (by decide) rfl) ?_ ?_ rfl rfl ?_)<;>first|omega|with_reducible refine isP ?_|conv=>whnf))|((with_reducible refine isW ?_;first|refine xwr_ok (by omega) (by omega) ?_|refine xwr_raw ?_);conv=>whnf)|((first|refine DrawX_s tabOk folOk ?_|refine DrawS_i (by kernel_rfl) ?_|with_reducible refine andX_i ?_ ?_)<;>conv=>whnf)|with_reducible exact rfl|((with_reducible first|refine xif_kt (by assumption) ?_|refine xif_kf (by assumption) ?_);conv=>whnf)|((with_reducible refine xif_s ?_ ?_)<;>(intro hb;(try simp (disch:=omega) only [hbS] at hb)<;>conv=>whnf)))
      all_goals try (exfalso; omega)
      · have e := getF_at (c := x) (by omega) (Prod.ext (by simpa [EntT.cell] using hb.1) (by simpa [EntT.cell] using hb.2)) hf
        exact Fin_pure rfl (by rw [e]) (by simp [SV.wf, SV.wfs])
      · refine ⟨k + 1, [0, 1], ⟨by omega, fun j hj => ?_⟩, ?_, by (try dsimp only); omega⟩
        · by_cases hjk : j = k
          · subst hjk
            intro hc
            rw [← hc] at hb
            simp [EntT.cell] at hb
          · exact hf j (by omega)
        · ((refine ⟨?_, ?_, ?_, ?_⟩) <;> (repeat' ((conv => whnf); apply And.intro)) <;> (try (first | exact trivial | decide)))
          all_goals first | rfl | exact fun _ _ h => h | exact I_eq (wr (by omega) (by omega)) | (simp [SV.wf, SV.wfs]; done) | trace_state
    · obtain rfl : k = n := by omega
      (conv=>whnf);repeat' (first|((with_reducible refine isW ?_;first|refine xwr_ok (by omega) (by omega) ?_|refine xwr_raw ?_);conv=>whnf)|((first|refine DrawX_s tabOk folOk ?_|refine DrawS_i (by kernel_rfl) ?_|with_reducible refine andX_i ?_ ?_)<;>conv=>whnf)|with_reducible exact rfl|((with_reducible first|refine xif_kt (by assumption) ?_|refine xif_kf (by assumption) ?_);conv=>whnf)|((with_reducible refine xif_s ?_ ?_)<;>(intro hb;(try simp (disch:=omega) only [hbS] at hb)<;>conv=>whnf)))
      all_goals try (exfalso; omega)
      have e := getF_no (l := l) (c := x) (fun j hj => hf j (by omega))
      exact Fin_pure rfl (by rw [e]) (by simp [SV.wf, SV.wfs])
theorem rAt_w (A : Option Addr) (c : Nat) (l : List EntT) (x : CellT) {n : Nat} (hl : l.length = n) (hn : n ≤ maxLen) :
    CallW Tryz.prog 12 [.v (.slice A n c), .a [I x.1, I x.2]] (fun w => ArgSl w A n 4 (l.map encE)) (.a [I (atE l x).1, I (atE l x).2.1, I (atE l x).2.2.1, I (atE l x).2.2.2]) := by
  rw [atE_eq]
  have k1 := rVE_w A c l hl hn
  have k2 := find_w A c l x hl hn
  cases hv : vE l with
  | false =>
    rw [hv] at k1
    refine CallW.of Tryz.func12 rfl tabOk rfl rfl rfl (by simp [SV.wfs, SV.wf]) (by simp [SV.wfs, SV.wf]) fun w hpre => ?_
    (conv=>whnf);repeat' (first|((with_reducible refine isC ?_);first|(((with_reducible refine isF 32 ?_;refine CallX_w (k1) ?_ ?_);(focus exact hpre.mem (by decide) rfl));conv=>whnf))|with_reducible exact rfl|((with_reducible first|refine xif_kt (by assumption) ?_|refine xif_kf (by assumption) ?_);conv=>whnf)|((with_reducible refine xif_s ?_ ?_)<;>(intro hb;(try simp (disch:=omega) only [hbS] at hb)<;>conv=>whnf)))
    exact Fin_pure rfl rfl (by simp [SV.wf, SV.wfs])
  | true =>
    rw [hv] at k1
    rw [if_pos rfl]
    refine CallW.of Tryz.func12 rfl tabOk rfl rfl rfl (by simp [SV.wfs, SV.wf]) (by simp [SV.wfs, SV.wf]) fun w hpre => ?_
    (conv=>whnf);repeat' (first|((with_reducible refine isC ?_);first|((first|(with_reducible refine isF 32 ?_;refine CallX_w (k1) ?_ ?_);(focus exact hpre.mem (by decide) rfl)|(with_reducible refine isF 33 ?_;refine CallX_w (k2) ?_ ?_);(focus exact hpre.mem (by decide) rfl));conv=>whnf))|with_reducible exact rfl|((with_reducible first|refine xif_kt (by assumption) ?_|refine xif_kf (by assumption) ?_);conv=>whnf)|((with_reducible refine xif_s ?_ ?_)<;>(intro hb;(try simp (disch:=omega) only [hbS] at hb)<;>conv=>whnf)))
    exact Fin_pure rfl rfl (by simp [SV.wf, SV.wfs])
end Go.Proofs.YtadichckbogcjaaGreatDoor.En
end
section
namespace Go.Proofs.YtadichckbogcjaaGreatDoor.En
open Go.RowKit
set_option maxRecDepth 100000
end Go.Proofs.YtadichckbogcjaaGreatDoor.En
end
