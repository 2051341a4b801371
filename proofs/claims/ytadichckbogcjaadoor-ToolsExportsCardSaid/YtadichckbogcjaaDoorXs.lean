/- Strings and rows of bytes by the executor. -/
import Derived.Test.YtadichckbogcjaaDoorBs0
import Derived.Laws.Concat
import Derived.Laws.Strings3
import Derived.Laws.BytesArg
import Derived.Lib.AppendStr
import Derived.Lib.ConvBytes
set_option linter.all false
namespace Go.Proofs.YtadichckbogcjaaDoor.En
open Go.RowKit
set_option maxRecDepth 100000

abbrev S (l : List UInt8) : SV := .v (.string ⟨l.toArray⟩)
/-- a byte's cell -/
def encU (x : UInt8) : List Value := [.int .u8 (x.toNat : Nat)]
theorem encU_flat : ∀ l : List UInt8, (l.map encU).flatten = l.map fun x => Value.int .u8 (x.toNat : Nat)
  | [] => rfl
  | x :: l => by simp [encU, encU_flat l]
section
variable {C : Ctx} {ob : List OB} {k : SV → Prop} {o : Oper} {x y : Operand} {t t' : TypeId}
theorem ValX_sAdd {a b : List UInt8} (ho : o.op = .binOp .add t x y t') (hl : a.length + b.length ≤ 1000000000000) (hk : k (S (a ++ b))) : ValX C o [S a, S b] ob k := by
  unfold ValX
  intro σ fp w ρ hm hx
  rw [ho] at hx
  simp [Op.operands, SV.vals, SV.val] at hx
  refine ⟨_, hk, ?_, by simp [SV.wf, SV.wfs]⟩
  have h := run_string_add_sum (P := C.P) w ⟨a.toArray⟩ ⟨b.toArray⟩ (by simp [ByteArray.size]; omega)
  rw [ByteArray.mk_append_mk] at h
  have hq : (eqGuard .add t x y (.string ⟨a.toArray⟩) (.string ⟨b.toArray⟩)).run C.P w = .ok () w := rfl
  simp only [execOp, ho, hx.1, hx.2, binOp_string_add, Sem.run_bind, hq, h, Result.andThen_ok, Sem.run_pure]
  rfl
theorem ValX_sEq {a b : List UInt8} {r : Bool} (ho : o.op = .binOp .eql t x y t') (ht : C.P.underlying t = some .string) (hr : decide (a = b) = r) (hk : k (.v (.bool r))) : ValX C o [S a, S b] ob k := by
  subst hr
  unfold ValX
  intro σ fp w ρ hm hx
  rw [ho] at hx
  simp [Op.operands, SV.vals, SV.val] at hx
  refine ⟨_, hk, ?_, by simp [SV.wf, SV.wfs]⟩
  have hc : (binOp .eql t (.string ⟨a.toArray⟩) (.string ⟨b.toArray⟩)).run C.P w = .ok (.bool (decide (a = b))) w := by
    rw [binOp_string_eql, ByteArray.toList_mk, ByteArray.toList_mk]
    show Result.ok (Value.bool (a == b)) w = _
    congr 2
    by_cases e : a = b <;> simp [e]
  have hq : (eqGuard .eql t x y (.string ⟨a.toArray⟩) (.string ⟨b.toArray⟩)).run C.P w = .ok () w := by
    unfold eqGuard
    rfl
  simp only [execOp, ho, hx.1, hx.2, Sem.run_bind, hq, hc, Result.andThen_ok, Sem.run_pure]
  rfl
theorem ValX_sLen {a : List UInt8} (ho : o.op = .call ⟨.builtin .len, #[x], #[t]⟩) (ht : C.P.underlying t = some .string) (hk : k (I a.length)) : ValX C o [S a] ob k := by
  unfold ValX
  intro σ fp w ρ hm hx
  rw [ho] at hx
  simp [Op.operands, Call.operands, SV.vals, SV.val] at hx
  refine ⟨_, hk, ?_, by simp [SV.wf, SV.wfs]⟩
  have h := run_len_string (P := C.P) w t o.type ⟨a.toArray⟩ ht
  simp [execOp, ho, resolve, invoke, builtin, hx, h, goInt, ByteArray.size, SV.val]
theorem ValX_sIdx {a : List UInt8} {kd : IntKind} {i : Int} (ho : o.op = .index t x y) (ht : C.P.underlying t = some .string) (h0 : 0 ≤ i) (h1 : i < a.length) (hk : k (.v (.int .u8 ((a.getD i.toNat 0).toNat : Nat)))) : ValX C o [S a, .v (.int kd i)] ob k := by
  unfold ValX
  intro σ fp w ρ hm hx
  rw [ho] at hx
  simp [Op.operands, SV.vals, SV.val] at hx
  refine ⟨_, hk, ?_, by simp [SV.wf, SV.wfs]⟩
  have h := run_index_string (P := C.P) w t ⟨a.toArray⟩ kd i ht
  rw [dif_pos ⟨h0, by simpa [ByteArray.size] using h1⟩] at h
  have e : (ByteArray.mk a.toArray)[i.toNat]'(by simp [ByteArray.size]; omega) = a.getD i.toNat 0 := by
    simp [show i.toNat < a.length by omega]
    rfl
  rw [e] at h
  simp only [execOp, ho, hx.1, hx.2, Sem.run_bind, h, Result.andThen_ok, Sem.run_pure]
  rfl
theorem ValX_sSub {a : List UInt8} {i j : Int} {z : Operand} (ho : o.op = .slice t x (some y) (some z) none) (ht : C.P.underlying t = some .string) (h0 : 0 ≤ i) (h1 : i ≤ j) (h2 : j ≤ a.length) (hk : k (S ((a.drop i.toNat).take (j.toNat - i.toNat)))) : ValX C o [S a, I i, I j] ob k := by
  unfold ValX
  intro σ fp w ρ hm hx
  rw [ho] at hx
  simp [Op.operands, SV.vals, SV.val] at hx
  refine ⟨_, hk, ?_, by simp [SV.wf, SV.wfs]⟩
  have h := run_slice_string (P := C.P) w t ⟨a.toArray⟩ .i64 .i64 i j ht h0 h1 (by simpa [ByteArray.size] using h2)
  rw [ByteArray.extract_mk] at h
  simp only [execOp, ho, hx.1, hx.2.1, hx.2.2, Option.map_some, Option.map_none, run_sliceAt_string w t _ _ _ _ ht, Sem.run_bind, h, Result.andThen_ok, Sem.run_pure]
  rfl
/-- a row of bytes as a string -/
theorem ValX_toS {A : Option Addr} {n c : Nat} (bs : List UInt8) (ho : o.op = .convert t t' x) {e : TypeId} (ht : C.P.underlying t = some (.slice e)) (he : C.P.underlying e = some (.int .u8)) (ht' : C.P.underlying t' = some .string) (hl : bs.length = n)
    (hA : ∀ σ fp w, Mem C σ fp ob w → ArgSl w A n 1 (bs.map encU)) (hsp : ∀ σ fp w, Mem C σ fp ob w → ∀ a, A = some a → a.spot = none) (hk : k (S bs)) : ValX C o [.v (.slice A n c)] ob k := by
  unfold ValX
  intro σ fp w ρ hm hx
  rw [ho] at hx
  simp [Op.operands, SV.vals, SV.val] at hx
  refine ⟨_, hk, ?_, by simp [SV.wf, SV.wfs]⟩
  have hs : strOfNums (bs.map fun x => ((x.toNat : Nat) : Int)) = ⟨bs.toArray⟩ := by
    have e1 : ∀ x : UInt8, UInt8.ofNat ((x.toNat : Nat) : Int).toNat = x := fun x => by simp
    apply ByteArray.ext
    simp only [strOfNums, List.map_map, Function.comp_def, e1, List.map_id']
  have hc : (convert t t' (.slice A n c)).run C.P w = .ok (.string ⟨bs.toArray⟩) w := by
    by_cases hn : A = none
    · subst hn
      have h0 : n = 0 := by
        by_cases h0 : n = 0
        · exact h0
        · obtain ⟨b, off, h, _⟩ := (hA σ fp w hm).at_ h0
          cases h
      subst h0
      obtain rfl : bs = [] := List.eq_nil_of_length_eq_zero hl
      exact run_convert_bytes_nil w _ e ht he 0 c _ ht'
    · obtain ⟨ad, rfl⟩ := Option.ne_none_iff_exists'.1 hn
      have hspot := hsp σ fp w hm ad rfl
      obtain ⟨b, off, sp⟩ := ad
      simp only at hspot
      subst hspot
      rw [← hs]
      refine run_convert_bytes_arg w t e ht he b off n c _ (by simpa using hl) (fun i hi => ?_) _ ht'
      obtain ⟨b', off', h1, h2⟩ := (hA σ fp w hm).at_ (by omega)
      cases h1
      have := h2 i (encU (bs.getD i 0)) (by rw [List.getElem?_map]; simp [show i < bs.length by omega]) 0 _ rfl
      rw [Nat.mul_one, Nat.add_zero] at this
      rw [this]
      simp [show i < bs.length by omega]
  simp only [execOp, ho, hx, Sem.run_bind, hc, Result.andThen_ok, Sem.run_pure]
  rfl
end
end Go.Proofs.YtadichckbogcjaaDoor.En
