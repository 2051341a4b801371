import Derived.Test.YtadichckbogcjaaGreatDoorZToolsFirst26
import Derived.Test.YtadichckbogcjaaGreatDoorZToolsFirst09
import Derived.Test.YtadichckbogcjaaGreatDoorLyItoa
import Derived.Shelf.Strconv.Itoa3
import Derived.Lib.ItoaLen
import Derived.Lib.LaidTab
set_option linter.all false
section
namespace Go.Proofs.YtadichckbogcjaaGreatDoor.En
open Go.RowKit Go.Sort
set_option maxRecDepth 100000
def p10N : String := Rows.toolsSharesRow.named.headD default
def p10W (w : World) : Prop := Lib.TabIs Tryz.prog w p10N .u64 Lib.pow10Tab
theorem p10W.at {w : World} (h : p10W w) {w' : World} (hs : w'.heap[0]? = w.heap[0]?) : p10W w' := by
  unfold p10W Lib.TabIs World.var? at *
  have hg : Tryz.prog.globalNamed p10N = some 0 := by kernel_rfl
  rw [hg] at h ⊢
  simp only [Option.bind_some] at h ⊢
  rw [hs]
  exact h
theorem p10W.lt {w : World} (h : p10W w) : 0 < w.heap.size := by
  unfold p10W Lib.TabIs World.var? at h
  have hg : Tryz.prog.globalNamed p10N = some 0 := by kernel_rfl
  rw [hg] at h
  simp only [Option.bind_some] at h
  rcases Nat.lt_or_ge 0 w.heap.size with h' | h'
  · exact h'
  · simp [Array.getElem?_eq_none h'] at h
theorem p10W.mem {C : Ctx} {ob : List OB} (h : p10W C.w0) (hM : C.M = fun _ => False) : ∀ σ fp w, Mem C σ fp ob w → p10W w := by
  intro σ fp w hm
  exact h.at (hm.kept.block _ h.lt (by rw [hM]; exact id))
theorem Itoa_w (n : Int) (h0 : -9223372036854775808 ≤ n) (h1 : n ≤ 9223372036854775807) : CallW Tryz.prog 48 [I n] p10W (S (Lib.itoa n)) := by
  refine ⟨Entr.of Tryz.func48 rfl rfl, trivial, fun σ w hp => ?_⟩
  refine (Any.strconv_Itoa Itoa n h0 h1 w hp).mono ?_
  rintro e w' ⟨rfl, k, os, rfl⟩
  refine ⟨rfl, ?_⟩
  exact ⟨rfl, rfl, rfl, by simp [grow], fun i hi => heap_grow_old _ _ (by simpa using hi)⟩
def lineE (e : EntT) : List UInt8 := Lib.itoa e.1 ++ [32] ++ Lib.itoa e.2.1 ++ [32] ++ Lib.itoa e.2.2.1 ++ [32] ++ Lib.itoa e.2.2.2 ++ [10]
def exportS (l : List EntT) : List UInt8 := (l.map lineE).flatten
theorem exportS_succ {l : List EntT} {k : Nat} (hk : k < l.length) : exportS (l.take (k + 1)) = exportS (l.take k) ++ lineE (l.getD k e0) := by
  unfold exportS
  rw [List.take_succ_eq_append_getElem hk, List.map_append, List.flatten_append]
  simp [hk]
theorem lineE_len {e : EntT} (h : goodB e = true) : (lineE e).length ≤ 88 := by
  simp only [goodB, countB, szB, Bool.and_eq_true, decide_eq_true_eq] at h
  have a1 := Lib.itoa_length_le e.1 (by omega) (by omega)
  have a2 := Lib.itoa_length_le e.2.1 (by omega) (by omega)
  have a3 := Lib.itoa_length_le e.2.2.1 (by omega) (by omega)
  have a4 := Lib.itoa_length_le e.2.2.2 (by omega) (by omega)
  simp only [lineE, List.length_append, List.length_cons, List.length_nil]
  omega
theorem exportS_len {l : List EntT} (h : ∀ e ∈ l, goodB e = true) : (exportS l).length ≤ 88 * l.length := by
  induction l with
  | nil => simp [exportS]
  | cons x l ih =>
    have h1 := lineE_len (h x (by simp))
    have h2 := ih fun e he => h e (by simp [he])
    have h3 : exportS (x :: l) = lineE x ++ exportS l := rfl
    rw [h3, List.length_append, List.length_cons]
    omega
theorem exportS_ge (l : List EntT) : l.length ≤ (exportS l).length := by
  induction l with
  | nil => simp
  | cons x l ih =>
    have h3 : exportS (x :: l) = lineE x ++ exportS l := rfl
    rw [h3, List.length_append, List.length_cons]
    have : 1 ≤ (lineE x).length := by
      simp only [lineE, List.length_append, List.length_cons, List.length_nil]
      omega
    omega
theorem bld_ren {x0 : SV} (hx : x0 = .v (.pointer none) ∨ x0 = .p 0 0) (y : Value) (r : List Nat) : [x0, SV.v y] = SV.rens (0 :: r) [x0, .v y] := by
  rcases hx with rfl | rfl <;> rfl
theorem bld_wf {x0 : SV} (hx : x0 = .v (.pointer none) ∨ x0 = .p 0 0) (y : Value) {n : Nat} : SV.wfs (n + 1) [x0, SV.v y] := by
  rcases hx with rfl | rfl <;> simp [SV.wf, SV.wfs]
set_option maxHeartbeats 4000000 in
theorem Export_w (A : Option Addr) (c : Nat) (l : List EntT) {n : Nat} (hl : l.length = n) (hn : n ≤ maxLen) :
    CallW Tryz.prog 22 [.v (.slice A n c)] (fun w => ArgSl w A n 4 (l.map encE) ∧ p10W w) (S (if vE l then exportS l else [])) := by
  have kv := Valid_v A c l hl hn
  rcases Bool.eq_false_or_eq_true (vE l) with hv | hv
  rotate_left
  · rw [hv] at kv ⊢
    refine CallW.of Tryz.func22 rfl tabOk rfl rfl rfl (by simp [SV.wfs, SV.wf]) (by simp [SV.wfs, SV.wf]) fun w hpre => ?_
    (conv=>whnf);repeat' (first|((with_reducible refine isC ?_);first|(((with_reducible refine isF 46 ?_;refine CallX_v (kv) ?_ ?_);(focus exact hpre.1.mem (by decide) rfl));conv=>whnf))|((with_reducible refine isW ?_;first|refine xwr_ok (by omega) (by omega) ?_|refine xwr_raw ?_);conv=>whnf)|((first|refine DrawX_s tabOk folOk ?_|refine DrawS_i (by kernel_rfl) ?_|with_reducible refine andX_i ?_ ?_)<;>conv=>whnf)|with_reducible exact rfl|((with_reducible first|refine xif_kt (by assumption) ?_|refine xif_kf (by assumption) ?_);conv=>whnf)|((with_reducible refine xif_s ?_ ?_)<;>(intro hb;(try simp (disch:=omega) only [hbS] at hb)<;>conv=>whnf)))
    exact Fin_pure rfl rfl trivial
  · rw [hv] at kv ⊢
    have hg : ∀ e ∈ l, goodB e = true := fun e he => vE_good hv he
    have hlen : l.length ≤ 1048576 := by
      simp only [vE, Bool.and_eq_true, decide_eq_true_eq] at hv
      exact hv.1
    refine CallW.of Tryz.func22 rfl tabOk rfl rfl rfl (by simp [SV.wfs, SV.wf]) (by simp [SV.wfs, SV.wf]) fun w hpre => ?_
    obtain ⟨hpre, htab⟩ := hpre
    (conv=>whnf);repeat' (first|((with_reducible refine isC ?_);first|(((with_reducible refine isF 46 ?_;refine CallX_v (kv) ?_ ?_);(focus exact hpre.mem (by decide) rfl));conv=>whnf))|((with_reducible refine isW ?_;first|refine xwr_ok (by omega) (by omega) ?_|refine xwr_raw ?_);conv=>whnf)|((first|refine DrawX_s tabOk folOk ?_|refine DrawS_i (by kernel_rfl) ?_|with_reducible refine andX_i ?_ ?_)<;>conv=>whnf)|with_reducible exact rfl|((with_reducible first|refine xif_kt (by assumption) ?_|refine xif_kf (by assumption) ?_);conv=>whnf)|((with_reducible refine xif_s ?_ ?_)<;>(intro hb;(try simp (disch:=omega) only [hbS] at hb)<;>conv=>whnf)))
    refine LoopX_addNil 5 1 ?_
    conv => whnf
    refine LoopX_inv tabOk (α := Nat × (Option Addr × Nat) × {x0 : SV // x0 = .v (.pointer none) ∨ x0 = .p 0 0}) (fun s => s.1 ≤ n ∧ (s.1 = 0 → s.2.1.1 = none)) (fun s => [(3, .p 0 0), (9, .v (.slice A n c)), (10, I n), (11, I s.1)])
      (fun s => [bldB s.2.2.1 s.2.1.1 (exportS (l.take s.1)).length s.2.1.2, bldR s.2.1.1 (exportS (l.take s.1)).length s.2.1.2 (exportS (l.take s.1))]) (fun s => n - s.1) (0, (none, 0), ⟨.v (.pointer none), .inl rfl⟩) [0, 1] ⟨Nat.zero_le _, fun _ => rfl⟩ ?_ ?_
    · ((refine ⟨?_, ?_, ?_, ?_⟩) <;> (repeat' ((conv => whnf); apply And.intro)) <;> (try (first | exact trivial | decide)))
      all_goals first | rfl | exact fun _ _ h => h | (simp [SV.wf, SV.wfs]; done) | trace_state
    · rintro ⟨k, ⟨A1, c1⟩, x0, hx0⟩ ⟨hk, hz⟩
      dsimp only at hk hz ⊢
      have hbd : (exportS (l.take k)).length ≤ 88 * 1048576 := by
        have := exportS_len (l := l.take k) fun e he => hg e (List.mem_of_mem_take he)
        rw [List.length_take] at this
        omega
      by_cases hlt : k < n
      · have hnx := exportS_succ (l := l) (k := k) (by omega)
        have hge := hg (l.getD k e0) (by simp [show k < l.length by omega])
        have hll := lineE_len hge
        simp only [goodB, countB, szB, Bool.and_eq_true, decide_eq_true_eq] at hge
        have i1 := Itoa_w (l.getD k e0).1 (by omega) (by omega)
        have i2 := Itoa_w (l.getD k e0).2.1 (by omega) (by omega)
        have i3 := Itoa_w (l.getD k e0).2.2.1 (by omega) (by omega)
        have i4 := Itoa_w (l.getD k e0).2.2.2 (by omega) (by omega)
        have htm := fun {ob : List OB} => p10W.mem (C := ⟨Tryz.prog, tab, Tryz.f22.ntmps, w, fun _ => False, 0, id, false⟩) (ob := ob) htab rfl
        generalize exportS (l.take k) = X at *
        have hll2 := hll
        unfold lineE at hll2
        simp only [List.length_append, List.length_cons, List.length_nil] at hll2
        have kw := WriteString_m x0 hx0 A1 X.length c1 X (lineE (l.getD k e0)) _ rfl (by omega)
        unfold lineE at kw
        (conv=>whnf);repeat' (first|((with_reducible refine isC ?_);first|((first|(with_reducible refine isF 48 ?_;refine CallX_w (i1) ?_ ?_);(focus exact htm)|(with_reducible refine isF 48 ?_;refine CallX_w (i2) ?_ ?_);(focus exact htm)|(with_reducible refine isF 48 ?_;refine CallX_w (i3) ?_ ?_);(focus exact htm)|(with_reducible refine isF 48 ?_;refine CallX_w (i4) ?_ ?_);(focus exact htm)|(with_reducible refine isF 47 ?_;refine CallX_m (kw) [0, 1] ?_ ?_ ?_ ?_ ?_);(focus exact rfl);(focus exact ⟨⟨rfl, bld_ren hx0 _ _, bld_wf hx0 _⟩, ⟨rfl, rfl, rfl, rfl, rfl, rfl⟩, trivial⟩);(focus decide);(focus exact (fun _ _ _ _ => trivial));intro q; obtain ⟨A2, c2⟩ := q; dsimp only);conv=>whnf))|((with_reducible refine isV ?_);first|((first|refine ValX_index tabOk rfl (hpre.mem (by decide) rfl) rfl ?_ ?_ ?_|(with_reducible refine nat_idx ?_);refine ValX_loadEn _ _ (e0) tabOk rfl rfl rfl rfl (hpre.mem (by decide) rfl) ?_ ?_ ?_|refine ValX_loadE _ _ (e0) tabOk rfl rfl rfl rfl (hpre.mem (by decide) rfl) ?_ ?_ ?_)<;>first|rfl|omega|with_reducible refine isP ?_|conv=>whnf)|(refine ValX_sAdd rfl (by simp only [List.length_append, List.length_cons, List.length_nil]; omega) ?_; conv => whnf))|((with_reducible refine isW ?_;first|refine xwr_ok (by omega) (by omega) ?_|refine xwr_raw ?_);conv=>whnf)|((first|refine DrawX_s tabOk folOk ?_|refine DrawS_i (by kernel_rfl) ?_|with_reducible refine andX_i ?_ ?_)<;>conv=>whnf)|with_reducible exact rfl|((with_reducible first|refine xif_kt (by assumption) ?_|refine xif_kf (by assumption) ?_);conv=>whnf)|((with_reducible refine xif_s ?_ ?_)<;>(intro hb;(try simp (disch:=omega) only [hbS] at hb)<;>conv=>whnf)))
        all_goals try (exfalso; omega)
        refine ⟨(k + 1, (A2, c2), ⟨.p 0 0, .inr rfl⟩), [0, 1], ⟨by (try dsimp only); omega, fun h => by cases h⟩, ?_, by (try dsimp only); omega⟩
        dsimp only
        rw [hnx, show (X ++ lineE (l.getD k e0)).length = X.length + (lineE (l.getD k e0)).length from List.length_append]
        unfold lineE
        ((refine ⟨?_, ?_, ?_, ?_⟩) <;> (repeat' ((conv => whnf); apply And.intro)) <;> (try (first | exact trivial | decide)))
        all_goals first | rfl | exact fun _ _ h => h | (simp [SV.wf, SV.wfs]; done) | trace_state
      · obtain rfl : k = n := by omega
        have ks := BString_m A1 _ c1 (exportS (l.take k)) rfl (by
          intro h0
          have := exportS_ge (l.take k)
          rw [List.length_take] at this
          exact hz (by omega)) (by omega) x0 hx0
        rw [List.take_of_length_le (by omega)] at ks ⊢
        (conv=>whnf);repeat' (first|((with_reducible refine isC ?_);first|(((with_reducible refine isF 49 ?_;refine CallX_m (ks) [0, 1] ?_ ?_ ?_ ?_ ?_);(focus exact rfl);(focus exact ⟨⟨rfl, bld_ren hx0 _ _, bld_wf hx0 _⟩, ⟨rfl, rfl, rfl, rfl, rfl, rfl⟩, trivial⟩);(focus decide);(focus exact (fun _ _ _ _ => trivial));intro q);conv=>whnf))|((with_reducible refine isW ?_;first|refine xwr_ok (by omega) (by omega) ?_|refine xwr_raw ?_);conv=>whnf)|((first|refine DrawX_s tabOk folOk ?_|refine DrawS_i (by kernel_rfl) ?_|with_reducible refine andX_i ?_ ?_)<;>conv=>whnf)|with_reducible exact rfl|((with_reducible first|refine xif_kt (by assumption) ?_|refine xif_kf (by assumption) ?_);conv=>whnf)|((with_reducible refine xif_s ?_ ?_)<;>(intro hb;(try simp (disch:=omega) only [hbS] at hb)<;>conv=>whnf)))
        all_goals try (exfalso; omega)
        exact Fin_pure rfl rfl trivial
end Go.Proofs.YtadichckbogcjaaGreatDoor.En
end
section
namespace Go.Proofs.YtadichckbogcjaaGreatDoor.En
open Go.RowKit
set_option maxRecDepth 100000
def szP (n : Int) : Bool := decide (1 ≤ n) && decide (n ≤ 64)
def vP (x y : Int) (l : List UInt8) : Bool := szP x && szP y && decide ((l.length : Int) = x * y) && l.all fun b => decide (b.toNat ≤ 2)
theorem szP_iff {n : Int} : szP n = true ↔ 1 ≤ n ∧ n ≤ 64 := by simp [szP]
theorem mul_bdP {x y : Int} (hx : szP x = true) (hy : szP y = true) : 1 ≤ x * y ∧ x * y ≤ 4096 := by
  rw [szP_iff] at hx hy
  refine ⟨?_, ?_⟩
  · have := Int.mul_le_mul hx.1 hy.1 (by omega) (by omega)
    omega
  · have := Int.mul_le_mul hx.2 hy.2 (by omega) (by omega)
    omega
def maxU (l : List UInt8) : Nat := l.foldl (fun m x => max m x.toNat) 0
theorem maxU_succ {l : List UInt8} {k : Nat} (hk : k < l.length) : maxU (l.take (k + 1)) = max (maxU (l.take k)) (l.getD k 0).toNat := by
  unfold maxU
  rw [List.take_succ_eq_append_getElem hk, List.foldl_append]
  simp [hk]
theorem maxU_le {l : List UInt8} {m : Nat} : maxU l ≤ m ↔ ∀ b ∈ l, b.toNat ≤ m := by
  have key : ∀ (l : List UInt8) (a : Nat), l.foldl (fun m x => max m x.toNat) a ≤ m ↔ a ≤ m ∧ ∀ b ∈ l, b.toNat ≤ m := by
    intro l
    induction l with
    | nil => intro a; simp
    | cons x l ih =>
      intro a
      rw [List.foldl_cons, ih]
      simp only [List.mem_cons, forall_eq_or_imp, Nat.max_le, and_assoc]
  rw [maxU, key]
  simp
theorem toNat_le (b : UInt8) : b.toNat ≤ 255 := by have := b.toNat_lt; omega
theorem maxU_255 (l : List UInt8) : maxU l ≤ 255 := maxU_le.2 fun b _ => toNat_le b
set_option maxHeartbeats 1000000 in
theorem MaxU_w (A : Option Addr) (c : Nat) (l : List UInt8) {n : Nat} (hl : l.length = n) (hn0 : n ≠ 0) (hn : n ≤ 1000000000) : CallW Tryz.prog 128 [.v (.slice A n c)] (fun w => ArgSl w A n 1 (l.map encU)) (.v (.int .u8 (maxU l : Nat))) := by
  have h1 : maxU (l.take 1) = (l.getD 0 0).toNat := by
    rw [maxU_succ (by omega)]
    simp [maxU]
  refine CallW.of Tryz.func128 rfl tabOk rfl rfl rfl (by simp [SV.wfs, SV.wf]) (by simp [SV.wfs, SV.wf]) fun w hpre => ?_
  (conv=>whnf);repeat' (first|((with_reducible refine isV ?_);first|((first|refine ValX_index tabOk rfl (hpre.mem (by decide) rfl) rfl ?_ ?_ ?_|(with_reducible refine nat_idx ?_);refine ValX_load1n _ _ (0) tabOk rfl rfl rfl (hpre.mem (by decide) rfl) ?_ ?_ ?_|refine ValX_load1 _ _ (0) tabOk rfl rfl rfl (hpre.mem (by decide) rfl) ?_ ?_ ?_)<;>first|rfl|omega|with_reducible refine isP ?_|conv=>whnf))|((with_reducible refine isW ?_;first|refine xwr_ok (by omega) (by omega) ?_|refine xwr_raw ?_);conv=>whnf)|with_reducible exact rfl|((with_reducible first|refine xif_kt (by assumption) ?_|refine xif_kf (by assumption) ?_);conv=>whnf)|((with_reducible refine xif_s ?_ ?_)<;>(intro hb;(try simp (disch:=omega) only [hbS] at hb)<;>conv=>whnf)))
  all_goals try (exfalso; omega)
  refine LoopX_inv tabOk (α := Nat) (fun k => 1 ≤ k ∧ k ≤ n) (fun k => [(0, .v (.slice A n c)), (3, .v (.int .u8 (maxU (l.take k) : Nat))), (4, I k)]) (fun _ => []) (fun k => n - k) 1 [] ⟨Nat.le_refl _, by omega⟩ ?_ ?_
  · dsimp only
    rw [h1]
    ((refine ⟨?_, ?_, ?_, ?_⟩) <;> (repeat' ((conv => whnf); apply And.intro)) <;> (try (first | exact trivial | decide)))
    all_goals first | rfl | exact fun _ _ h => h | (simp [SV.wf, SV.wfs]; done) | trace_state
  · rintro k ⟨hk0, hk⟩
    by_cases hlt : k < n
    · have hnx := maxU_succ (l := l) (k := k) (by omega)
      (conv=>whnf);repeat' (first|((with_reducible refine isV ?_);first|((first|refine ValX_index tabOk rfl (hpre.mem (by decide) rfl) rfl ?_ ?_ ?_|(with_reducible refine nat_idx ?_);refine ValX_load1n _ _ (0) tabOk rfl rfl rfl (hpre.mem (by decide) rfl) ?_ ?_ ?_|refine ValX_load1 _ _ (0) tabOk rfl rfl rfl (hpre.mem (by decide) rfl) ?_ ?_ ?_)<;>first|rfl|omega|with_reducible refine isP ?_|conv=>whnf))|((with_reducible refine isW ?_;first|refine xwr_ok (by omega) (by omega) ?_|refine xwr_raw ?_);conv=>whnf)|with_reducible exact rfl|((with_reducible first|refine xif_kt (by assumption) ?_|refine xif_kf (by assumption) ?_);conv=>whnf)|((with_reducible refine xif_s ?_ ?_)<;>(intro hb;(try simp (disch:=omega) only [hbS] at hb)<;>conv=>whnf)))
      all_goals try (exfalso; omega)
      refine ⟨k + 1, [], by (try dsimp only); omega, ?_, by (try dsimp only); omega⟩
      dsimp only
      rw [hnx, show ((max (maxU (l.take k)) (l.getD k 0).toNat : Nat) : Int) = max ((maxU (l.take k) : Nat) : Int) (((l.getD k 0).toNat : Nat) : Int) by omega]
      ((refine ⟨?_, ?_, ?_, ?_⟩) <;> (repeat' ((conv => whnf); apply And.intro)) <;> (try (first | exact trivial | decide)))
      all_goals first | rfl | exact fun _ _ h => h | (simp [SV.wf, SV.wfs]; done) | trace_state
    · obtain rfl : k = n := by omega
      (conv=>whnf);repeat' (first|((with_reducible refine isW ?_;first|refine xwr_ok (by omega) (by omega) ?_|refine xwr_raw ?_);conv=>whnf)|with_reducible exact rfl|((with_reducible first|refine xif_kt (by assumption) ?_|refine xif_kf (by assumption) ?_);conv=>whnf)|((with_reducible refine xif_s ?_ ?_)<;>(intro hb;(try simp (disch:=omega) only [hbS] at hb)<;>conv=>whnf)))
      all_goals try (exfalso; omega)
      rw [List.take_of_length_le (by omega)]
      exact Fin_pure rfl rfl trivial
theorem psize_x (n : Int) : PureX Tryz.prog 127 [I n] (B (szP n)) := by
  unfold szP
  refine PureX.of Tryz.func127 rfl tabOk rfl rfl rfl (by simp [SV.wfs, SV.wf]) (by simp [SV.wfs, SV.wf]) fun w => ?_
  (conv=>whnf);repeat' (first|with_reducible exact rfl|((with_reducible first|refine xif_kt (by assumption) ?_|refine xif_kf (by assumption) ?_);conv=>whnf)|((with_reducible refine xif_s ?_ ?_)<;>(intro hb;(try simp (disch:=omega) only [hbS] at hb)<;>conv=>whnf)))
  all_goals first | exact Fin_pure rfl rfl trivial | (refine Fin_pure rfl (congrArg B ?_) trivial; simp; omega) | trace_state
abbrev plX3 (x y : Int) (A : Option Addr) (n c : Nat) : SV := .a [I x, I y, .v (.slice A n c)]
theorem pValid_w (x y : Int) (A : Option Addr) (c : Nat) (l : List UInt8) {n : Nat} (hl : l.length = n) (hn : n ≤ maxLen) : CallW Tryz.prog 91 [plX3 x y A n c] (fun w => ArgSl w A n 1 (l.map encU)) (B (vP x y l)) := by
  unfold maxLen at hn
  have k1 := psize_x x
  have k2 := psize_x y
  rcases Bool.eq_false_or_eq_true (szP x) with hx | hx
  rotate_left
  · have e : vP x y l = false := by simp [vP, hx]
    rw [e]
    rw [hx] at k1
    refine CallW.of Tryz.func91 rfl tabOk rfl rfl rfl (by simp [SV.wfs, SV.wf]) (by simp [SV.wfs, SV.wf]) fun w hpre => ?_
    (conv=>whnf);repeat' (first|((with_reducible refine isC ?_);first|((first|with_reducible refine CallX_pure (k1) ?_|with_reducible refine CallX_pure (k2) ?_)<;>first|omega|with_reducible refine isP ?_|conv=>whnf))|((with_reducible refine isW ?_;first|refine xwr_ok (by omega) (by omega) ?_|refine xwr_raw ?_);conv=>whnf)|with_reducible exact rfl|((with_reducible first|refine xif_kt (by assumption) ?_|refine xif_kf (by assumption) ?_);conv=>whnf)|((with_reducible refine xif_s ?_ ?_)<;>(intro hb;(try simp (disch:=omega) only [hbS] at hb)<;>conv=>whnf)))
    all_goals first | exact Fin_pure rfl rfl trivial | trace_state
  rcases Bool.eq_false_or_eq_true (szP y) with hy | hy
  rotate_left
  · have e : vP x y l = false := by simp [vP, hy]
    rw [e]
    rw [hx] at k1
    rw [hy] at k2
    refine CallW.of Tryz.func91 rfl tabOk rfl rfl rfl (by simp [SV.wfs, SV.wf]) (by simp [SV.wfs, SV.wf]) fun w hpre => ?_
    (conv=>whnf);repeat' (first|((with_reducible refine isC ?_);first|((first|with_reducible refine CallX_pure (k1) ?_|with_reducible refine CallX_pure (k2) ?_)<;>first|omega|with_reducible refine isP ?_|conv=>whnf))|((with_reducible refine isW ?_;first|refine xwr_ok (by omega) (by omega) ?_|refine xwr_raw ?_);conv=>whnf)|with_reducible exact rfl|((with_reducible first|refine xif_kt (by assumption) ?_|refine xif_kf (by assumption) ?_);conv=>whnf)|((with_reducible refine xif_s ?_ ?_)<;>(intro hb;(try simp (disch:=omega) only [hbS] at hb)<;>conv=>whnf)))
    all_goals first | exact Fin_pure rfl rfl trivial | trace_state
  have hb := mul_bdP hx hy
  rw [hx] at k1
  rw [hy] at k2
  by_cases hm : (l.length : Int) = x * y
  · have kx := MaxU_w A c l hl (by omega) (by omega)
    have hmx := maxU_255 l
    have e : vP x y l = decide ((maxU l : Int) ≤ 2) := by
      simp only [vP, hx, hy, hm, decide_true, Bool.true_and]
      rw [Bool.eq_iff_iff]
      simp only [List.all_eq_true, decide_eq_true_eq]
      rw [← maxU_le]
      omega
    rw [e]
    refine CallW.of Tryz.func91 rfl tabOk rfl rfl rfl (by simp [SV.wfs, SV.wf]) (by simp [SV.wfs, SV.wf]) fun w hpre => ?_
    (conv=>whnf);repeat' (first|((with_reducible refine isC ?_);first|((first|with_reducible refine CallX_pure (k1) ?_|with_reducible refine CallX_pure (k2) ?_)<;>first|omega|with_reducible refine isP ?_|conv=>whnf)|(((with_reducible refine isF 128 ?_;refine CallX_w (kx) ?_ ?_);(focus exact hpre.mem (by decide) rfl));conv=>whnf))|((with_reducible refine isW ?_;first|refine xwr_ok (by omega) (by omega) ?_|refine xwr_raw ?_);conv=>whnf)|with_reducible exact rfl|((with_reducible first|refine xif_kt (by assumption) ?_|refine xif_kf (by assumption) ?_);conv=>whnf)|((with_reducible refine xif_s ?_ ?_)<;>(intro hb;(try simp (disch:=omega) only [hbS] at hb)<;>conv=>whnf)))
    all_goals try (exfalso; omega)
    all_goals first | exact Fin_pure rfl rfl trivial | (refine Fin_pure rfl (congrArg B ?_) trivial; simp; omega) | trace_state
  · have e : vP x y l = false := by simp [vP, hm]
    rw [e]
    refine CallW.of Tryz.func91 rfl tabOk rfl rfl rfl (by simp [SV.wfs, SV.wf]) (by simp [SV.wfs, SV.wf]) fun w hpre => ?_
    (conv=>whnf);repeat' (first|((with_reducible refine isC ?_);first|((first|with_reducible refine CallX_pure (k1) ?_|with_reducible refine CallX_pure (k2) ?_)<;>first|omega|with_reducible refine isP ?_|conv=>whnf))|((with_reducible refine isW ?_;first|refine xwr_ok (by omega) (by omega) ?_|refine xwr_raw ?_);conv=>whnf)|with_reducible exact rfl|((with_reducible first|refine xif_kt (by assumption) ?_|refine xif_kf (by assumption) ?_);conv=>whnf)|((with_reducible refine xif_s ?_ ?_)<;>(intro hb;(try simp (disch:=omega) only [hbS] at hb)<;>conv=>whnf)))
    all_goals try (exfalso; omega)
    all_goals first | exact Fin_pure rfl rfl trivial | trace_state
def sgn (b : UInt8) : UInt8 := ([63, 46, 35] : List UInt8).getD b.toNat 0
def textK (x : Int) (l : List UInt8) : Nat → List UInt8
  | 0 => []
  | k + 1 => textK x l k ++ [sgn (l.getD k 0)] ++ if (k : Int) % x = x - 1 then [10] else []
theorem textK_len (x : Int) (l : List UInt8) : ∀ k, k ≤ (textK x l k).length ∧ (textK x l k).length ≤ 2 * k
  | 0 => by simp [textK]
  | k + 1 => by
    have ih := textK_len x l k
    unfold textK
    split <;> simp only [List.length_append, List.length_cons, List.length_nil] <;> omega
def textP (x y : Int) (l : List UInt8) : List UInt8 := if vP x y l then textK x l l.length else []
theorem vP_all {x y : Int} {l : List UInt8} (h : vP x y l = true) : szP x = true ∧ szP y = true ∧ (l.length : Int) = x * y ∧ ∀ b ∈ l, b.toNat ≤ 2 := by
  simp only [vP, Bool.and_eq_true, decide_eq_true_eq, List.all_eq_true] at h
  exact ⟨h.1.1.1, h.1.1.2, h.1.2, h.2⟩
def bx (u : Bool) (j : Nat) : SV := match u with
  | true => .p j 0
  | false => .v (.pointer none)
theorem bx_or (u : Bool) : bx u 0 = .v (.pointer none) ∨ bx u 0 = .p 0 0 := by cases u <;> simp [bx]
theorem bx_ren (u : Bool) (j : Nat) (y : Value) (r : List Nat) : [bx u j, SV.v y] = SV.rens (j :: r) [bx u 0, .v y] := by cases u <;> rfl
theorem bx_wf0 (u : Bool) (y : Value) {n : Nat} : SV.wfs (n + 1) [bx u 0, SV.v y] := by cases u <;> simp [bx, SV.wf, SV.wfs]
set_option maxHeartbeats 4000000 in
theorem pText_w (x y : Int) (A : Option Addr) (c : Nat) (l : List UInt8) {n : Nat} (hl : l.length = n) (hn : n ≤ maxLen) : CallW Tryz.prog 50 [plX3 x y A n c] (fun w => ArgSl w A n 1 (l.map encU)) (S (textP x y l)) := by
  have kv := pValid_w x y A c l hl hn
  unfold textP
  rcases Bool.eq_false_or_eq_true (vP x y l) with hv | hv
  rotate_left
  · rw [hv] at kv ⊢
    refine CallW.of Tryz.func50 rfl tabOk rfl rfl rfl (by simp [SV.wfs, SV.wf]) (by simp [SV.wfs, SV.wf]) fun w hpre => ?_
    (conv=>whnf);repeat' (first|((with_reducible refine isC ?_);first|(((with_reducible refine isF 91 ?_;refine CallX_w (kv) ?_ ?_);(focus exact hpre.mem (by decide) rfl));conv=>whnf))|((with_reducible refine isW ?_;first|refine xwr_ok (by omega) (by omega) ?_|refine xwr_raw ?_);conv=>whnf)|((with_reducible refine isR ?_;first|refine xrem_nn (by omega) (by omega) ?_|refine xrem_raw (by omega) ?_);conv=>whnf)|((with_reducible refine need_i ?_ ?_)<;>first|omega|conv=>whnf)|((first|refine DrawX_s tabOk folOk ?_|refine DrawS_i (by kernel_rfl) ?_|with_reducible refine andX_i ?_ ?_)<;>conv=>whnf)|with_reducible exact rfl|((with_reducible first|refine xif_kt (by assumption) ?_|refine xif_kf (by assumption) ?_);conv=>whnf)|((with_reducible refine xif_s ?_ ?_)<;>(intro hb;(try simp (disch:=omega) only [hbS] at hb)<;>conv=>whnf)))
    exact Fin_pure rfl rfl trivial
  · rw [hv] at kv ⊢
    rw [if_pos rfl]
    obtain ⟨hx, hy, hm, hall⟩ := vP_all hv
    have hb := mul_bdP hx hy
    rw [szP_iff] at hx hy
    refine CallW.of Tryz.func50 rfl tabOk rfl rfl rfl (by simp [SV.wfs, SV.wf]) (by simp [SV.wfs, SV.wf]) fun w hpre => ?_
    (conv=>whnf);repeat' (first|((with_reducible refine isC ?_);first|(((with_reducible refine isF 91 ?_;refine CallX_w (kv) ?_ ?_);(focus exact hpre.mem (by decide) rfl));conv=>whnf))|((with_reducible refine isW ?_;first|refine xwr_ok (by omega) (by omega) ?_|refine xwr_raw ?_);conv=>whnf)|((with_reducible refine isR ?_;first|refine xrem_nn (by omega) (by omega) ?_|refine xrem_raw (by omega) ?_);conv=>whnf)|((with_reducible refine need_i ?_ ?_)<;>first|omega|conv=>whnf)|((first|refine DrawX_s tabOk folOk ?_|refine DrawS_i (by kernel_rfl) ?_|with_reducible refine andX_i ?_ ?_)<;>conv=>whnf)|with_reducible exact rfl|((with_reducible first|refine xif_kt (by assumption) ?_|refine xif_kf (by assumption) ?_);conv=>whnf)|((with_reducible refine xif_s ?_ ?_)<;>(intro hb;(try simp (disch:=omega) only [hbS] at hb)<;>conv=>whnf)))
    refine LoopX_addNil 5 1 ?_
    conv => whnf
    refine LoopX_inv tabOk (α := Nat × (Option Addr × Nat) × Bool) (fun s => s.1 ≤ n ∧ (s.1 = 0 → s.2.1.1 = none)) (fun s => [(1, .p 0 0), (3, .p 1 0), (10, .v (.slice A n c)), (11, I n), (12, I s.1)])
      (fun s => [.box 58 [I x, I y, .v (.slice A n c)], bldB (bx s.2.2 1) s.2.1.1 (textK x l s.1).length s.2.1.2, bldR s.2.1.1 (textK x l s.1).length s.2.1.2 (textK x l s.1)]) (fun s => n - s.1) (0, (none, 0), false) [0, 1, 2] ⟨Nat.zero_le _, fun _ => rfl⟩ ?_ ?_
    · ((refine ⟨?_, ?_, ?_, ?_⟩) <;> (repeat' ((conv => whnf); apply And.intro)) <;> (try (first | exact trivial | decide)))
      all_goals first | rfl | exact fun _ _ h => h | (simp [SV.wf, SV.wfs]; done) | trace_state
    · rintro ⟨k, ⟨A1, c1⟩, u⟩ ⟨hk, hz⟩
      dsimp only at hk hz ⊢
      have hbd := textK_len x l k
      by_cases hlt : k < n
      · have hnx : textK x l (k + 1) = textK x l k ++ [sgn (l.getD k 0)] ++ if (k : Int) % x = x - 1 then [10] else [] := rfl
        have hbk := hall (l.getD k 0) (by simp [show k < l.length by omega])
        have hsg : (([63, 46, 35] : List UInt8).getD ((((l.getD k 0).toNat : Nat) : Int)).toNat 0) = sgn (l.getD k 0) := rfl
        generalize textK x l k = X at *
        have kw := WriteByte_m (bx u 0) (bx_or u) A1 X.length c1 X (sgn (l.getD k 0)) (by omega)
        (conv=>whnf);repeat' (first|((with_reducible refine isC ?_);first|(((with_reducible refine isF 92 ?_;refine CallX_m (kw) [1, 2] ?_ ?_ ?_ ?_ ?_);(focus exact rfl);(focus exact ⟨⟨rfl, bx_ren u 1 _ _, bx_wf0 u _⟩, ⟨rfl, rfl, rfl, rfl, rfl, rfl⟩, trivial⟩);(focus decide);(focus exact (fun _ _ _ _ => trivial));intro q; obtain ⟨A2, c2⟩ := q; dsimp only);conv=>whnf))|((with_reducible refine isV ?_);first|((first|refine ValX_index tabOk rfl (hpre.mem (by decide) rfl) rfl ?_ ?_ ?_|(with_reducible refine nat_idx ?_);refine ValX_load1n _ _ (0) tabOk rfl rfl rfl (hpre.mem (by decide) rfl) ?_ ?_ ?_|refine ValX_load1 _ _ (0) tabOk rfl rfl rfl (hpre.mem (by decide) rfl) ?_ ?_ ?_)<;>first|rfl|omega|with_reducible refine isP ?_|conv=>whnf)|(refine ValX_sIdx (a := [63, 46, 35]) rfl Tryz.underlying9 (by omega) (by show (_ : Int) < 3; omega) ?_; rw [hsg]; conv => whnf))|((with_reducible refine isW ?_;first|refine xwr_ok (by omega) (by omega) ?_|refine xwr_raw ?_);conv=>whnf)|((with_reducible refine isR ?_;first|refine xrem_nn (by omega) (by omega) ?_|refine xrem_raw (by omega) ?_);conv=>whnf)|((with_reducible refine need_i ?_ ?_)<;>first|omega|conv=>whnf)|((first|refine DrawX_s tabOk folOk ?_|refine DrawS_i (by kernel_rfl) ?_|with_reducible refine andX_i ?_ ?_)<;>conv=>whnf)|with_reducible exact rfl|((with_reducible first|refine xif_kt (by assumption) ?_|refine xif_kf (by assumption) ?_);conv=>whnf)|((with_reducible refine xif_s ?_ ?_)<;>(intro hb;(try simp (disch:=omega) only [hbS] at hb)<;>conv=>whnf)))
        all_goals try (exfalso; omega)
        · refine CallX_m (WriteByte_m (bx true 0) (bx_or true) A2 (X.length + 1) c2 (X ++ [sgn (l.getD k 0)]) 10 (by omega)) [1, 2] rfl ⟨⟨rfl, rfl, by simp [SV.wf, SV.wfs, bx]⟩, ⟨rfl, rfl, rfl, rfl, rfl, rfl⟩, trivial⟩ (by decide) (fun _ _ _ _ => trivial) ?_
          rintro ⟨A3, c3⟩
          dsimp only
          (conv=>whnf);repeat' (first|((with_reducible refine isW ?_;first|refine xwr_ok (by omega) (by omega) ?_|refine xwr_raw ?_);conv=>whnf)|((with_reducible refine isR ?_;first|refine xrem_nn (by omega) (by omega) ?_|refine xrem_raw (by omega) ?_);conv=>whnf)|((with_reducible refine need_i ?_ ?_)<;>first|omega|conv=>whnf)|((first|refine DrawX_s tabOk folOk ?_|refine DrawS_i (by kernel_rfl) ?_|with_reducible refine andX_i ?_ ?_)<;>conv=>whnf)|with_reducible exact rfl|((with_reducible first|refine xif_kt (by assumption) ?_|refine xif_kf (by assumption) ?_);conv=>whnf)|((with_reducible refine xif_s ?_ ?_)<;>(intro hb;(try simp (disch:=omega) only [hbS] at hb)<;>conv=>whnf)))
          all_goals try (exfalso; omega)
          refine ⟨(k + 1, (A3, c3), true), [0, 1, 2], ⟨by (try dsimp only); omega, fun h => by cases h⟩, ?_, by (try dsimp only); omega⟩
          dsimp only
          rw [hnx, if_pos hb, show ((X ++ [sgn (l.getD k 0)] ++ [10] : List UInt8)).length = X.length + 1 + 1 by simp]
          ((refine ⟨?_, ?_, ?_, ?_⟩) <;> (repeat' ((conv => whnf); apply And.intro)) <;> (try (first | exact trivial | decide)))
          all_goals first | rfl | exact fun _ _ h => h | (simp [SV.wf, SV.wfs]; done) | trace_state
          all_goals simp [bx, SV.wf]
        · refine ⟨(k + 1, (A2, c2), true), [0, 1, 2], ⟨by (try dsimp only); omega, fun h => by cases h⟩, ?_, by (try dsimp only); omega⟩
          dsimp only
          rw [hnx, if_neg hb, List.append_nil, show ((X ++ [sgn (l.getD k 0)] : List UInt8)).length = X.length + 1 by simp]
          ((refine ⟨?_, ?_, ?_, ?_⟩) <;> (repeat' ((conv => whnf); apply And.intro)) <;> (try (first | exact trivial | decide)))
          all_goals first | rfl | exact fun _ _ h => h | (simp [SV.wf, SV.wfs]; done) | trace_state
          all_goals simp [bx, SV.wf]
      · obtain rfl : k = n := by omega
        have ks := BString_m A1 _ c1 (textK x l k) rfl (by
          intro h0
          exact hz (by omega)) (by omega) (bx u 0) (bx_or u)
        (conv=>whnf);repeat' (first|((with_reducible refine isC ?_);first|(((with_reducible refine isF 49 ?_;refine CallX_m (ks) [1, 2] ?_ ?_ ?_ ?_ ?_);(focus exact rfl);(focus exact ⟨⟨rfl, bx_ren u 1 _ _, bx_wf0 u _⟩, ⟨rfl, rfl, rfl, rfl, rfl, rfl⟩, trivial⟩);(focus decide);(focus exact (fun _ _ _ _ => trivial));intro q);conv=>whnf))|((with_reducible refine isW ?_;first|refine xwr_ok (by omega) (by omega) ?_|refine xwr_raw ?_);conv=>whnf)|((with_reducible refine isR ?_;first|refine xrem_nn (by omega) (by omega) ?_|refine xrem_raw (by omega) ?_);conv=>whnf)|((with_reducible refine need_i ?_ ?_)<;>first|omega|conv=>whnf)|((first|refine DrawX_s tabOk folOk ?_|refine DrawS_i (by kernel_rfl) ?_|with_reducible refine andX_i ?_ ?_)<;>conv=>whnf)|with_reducible exact rfl|((with_reducible first|refine xif_kt (by assumption) ?_|refine xif_kf (by assumption) ?_);conv=>whnf)|((with_reducible refine xif_s ?_ ?_)<;>(intro hb;(try simp (disch:=omega) only [hbS] at hb)<;>conv=>whnf)))
        all_goals try (exfalso; omega)
        rw [hl]
        exact Fin_pure rfl rfl trivial
end Go.Proofs.YtadichckbogcjaaGreatDoor.En
end
