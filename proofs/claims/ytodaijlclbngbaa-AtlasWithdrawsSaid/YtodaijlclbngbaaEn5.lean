/- The symbolic executor is sound: every operation. -/
import Derived.Test.YtodaijlclbngbaaEn4
set_option linter.all false
namespace Go.Proofs.Ytodaijlclbngbaa.En
open Go.RowKit

section
variable {C : Ctx} {tm : List (Nat × SV)} {ob : List OB} {σ : Nat → Nat} {fp : Nat → Nat → Prop} {a : Act} {w : World} {k : SV → List OB → Prop} {next : Act → World → Prop} {Q : Exit → Act → World → Prop}

theorem binI_spec {o : Oper} {op : BinOp} {t t' : TypeId} {x y : Operand} {kd : IntKind} {p q : Int} {k : SV → Prop} (ho : o.op = .binOp op t x y t') (hx : a.eval x = .int kd p) (hy : a.eval y = .int kd q) (h : binI op kd p q k) :
    ∃ r, k (.v r) ∧ (execOp a.eval o).run C.P w = .ok (.value r) w := by
  have hg : ∀ op, (eqGuard op t x y (.int kd p) (.int kd q)).run C.P w = .ok () w := by
    intro op
    unfold eqGuard
    cases op <;> rfl
  have key : ∀ r : Value, (binOp op t (.int kd p) (.int kd q)).run C.P w = .ok r w → k (.v r) → ∃ r, k (.v r) ∧ (execOp a.eval o).run C.P w = .ok (.value r) w := by
    intro r hr hkr
    refine ⟨r, hkr, ?_⟩
    simp only [execOp, ho, hx, hy, Sem.run_bind, hg, Result.andThen_ok, hr, Sem.run_pure]
  unfold binI at h
  cases op <;> simp only [xwr_iff, xquo_iff, xrem_iff, xshr_iff, xshl_iff] at h
  all_goals first
    | exact h.elim
    | (refine key _ ?_ h; simp [binOp, Op.intArith, Op.intCmp, Op.intBits, bits]; done)
    | (refine key _ ?_ h.2; simp [binOp, Op.intDiv, h.1]; done)
    | (refine key _ ?_ h.2; simp [binOp, Op.shift, Int.not_lt.2 h.1]; done)

theorem shift_spec {o : Oper} {op : BinOp} {t t' : TypeId} {x y : Operand} {kd kd' : IntKind} {p q r : Int} (ho : o.op = .binOp op t x y t') (hx : a.eval x = .int kd p) (hy : a.eval y = .int kd' q) (hq : 0 ≤ q)
    (h : (op = .shr ∧ r = p.fdiv (2 ^ min q.toNat kd.bits)) ∨ (op = .shl ∧ r = kd.wrap (p * 2 ^ min q.toNat kd.bits))) : (execOp a.eval o).run C.P w = .ok (.value (.int kd r)) w := by
  have hg : ∀ op, (eqGuard op t x y (.int kd p) (.int kd' q)).run C.P w = .ok () w := by
    intro op
    unfold eqGuard
    cases op <;> rfl
  rcases h with ⟨rfl, rfl⟩ | ⟨rfl, rfl⟩ <;> simp [execOp, ho, hx, hy, hg, binOp, Op.shift, Int.not_lt.2 hq]

theorem zip_spec (ρ : Operand → Value) (σ : Nat → Nat) : ∀ (ps : List (Nat × Operand)) (l : List SV), (ps.map (·.2)).map ρ = SV.vals σ l →
    ps.map (fun p => (p.1, ρ p.2)) = ((ps.map (·.1)).zip l).map fun p => (p.1, p.2.val σ)
  | [], l, h => by simp
  | p :: ps, [], h => by simp [SV.vals] at h
  | p :: ps, x :: l, h => by
    simp only [List.map_cons, SV.vals, List.cons.injEq] at h
    simp only [List.map_cons, List.zip_cons_cons, h.1, zip_spec ρ σ ps l h.2]

/-- an operation as it runs -/
theorem OpX_spec {o : Oper} {xs : List SV} (h : OpX C o xs ob k) (hx : o.op.operands.toList.map a.eval = SV.vals σ xs) (hm : Mem C σ fp ob w)
    (hk : ∀ v w', Goes C ob.length σ fp w k v w' → next (a.put o.dst v) w') : o.wp C.P a w next Q := by
  unfold OpX at h
  have h1 := h σ fp w a.eval hm hx
  unfold Oper.wp
  generalize (execOp a.eval o).run C.P w = r at h1 ⊢
  cases r with
  | halt _ _ => exact h1.elim
  | ok n w' =>
    cases n with
    | value v => exact hk _ _ h1
    | skip => exact hk _ _ h1
    | enter f args => exact h1.mono fun e w'' ⟨v, he, hg⟩ => by subst he; exact hk _ _ hg
    | _ => exact h1.elim

theorem ValX_spec {o : Oper} {xs : List SV} {k : SV → Prop} (h : ValX C o xs ob k) (hx : o.op.operands.toList.map a.eval = SV.vals σ xs) (hm : Mem C σ fp ob w) : ∃ x, k x ∧ (execOp a.eval o).run C.P w = .ok (.value (x.val σ)) w ∧ x.wf ob.length := by
  unfold ValX at h
  exact h σ fp w a.eval hm hx

theorem xval_sound (hT : TabOk C.P C.T) {o : Oper} {k : SV → Prop} (h : xval C o tm ob k) (htm : Tm C σ ob.length tm a) (hm : Mem C σ fp ob w) :
    ∃ x, k x ∧ (execOp a.eval o).run C.P w = .ok (.value (x.val σ)) w ∧ x.wf ob.length := by
  obtain ⟨dst, op, ty, pos, after, guard⟩ := o
  have gen : ∀ (hh : match evs tm op.operands.toList with | some l => force l fun l => ValX C ⟨dst, op, ty, pos, after, guard⟩ l ob k | none => False), ∃ x, k x ∧ (execOp a.eval ⟨dst, op, ty, pos, after, guard⟩).run C.P w = .ok (.value (x.val σ)) w ∧ x.wf ob.length := by
    intro hh
    cases he : evs tm op.operands.toList with
    | none => rw [he] at hh; exact hh.elim
    | some l =>
      rw [he] at hh
      simp only [force_eq] at hh
      exact ValX_spec hh (evs_spec htm he).1 hm
  cases op with
  | move x =>
    simp only [xval] at h
    split at h
    · rename_i r he
      obtain ⟨h1, h2⟩ := ev_spec htm he
      exact ⟨r, h, by simp [execOp, h1], h2⟩
    · exact h.elim
  | assign x =>
    simp only [xval] at h
    split at h
    · rename_i r he
      obtain ⟨h1, h2⟩ := ev_spec htm he
      exact ⟨r, h, by simp [execOp, h1], h2⟩
    · exact h.elim
  | pick c x y =>
    simp only [xval] at h
    split at h
    · rename_i b r s hc hx hy
      obtain ⟨h1, _⟩ := ev_spec htm hc
      obtain ⟨h2, h3⟩ := ev_spec htm hx
      obtain ⟨h4, h5⟩ := ev_spec htm hy
      rw [xif_iff] at h
      cases b with
      | true => exact ⟨r, h.1 rfl, by simp [execOp, h1, h2, SV.val, asBool], h3⟩
      | false => exact ⟨s, h.2 rfl, by simp [execOp, h1, h4, SV.val, asBool], h5⟩
    · exact h.elim
  | load t x =>
    simp only [xval] at h
    split at h
    · rename_i j off he
      obtain ⟨h1, h2⟩ := ev_spec htm he
      split at h
      · rename_i ti t' cs ht hb
        obtain ⟨hid, hti⟩ := hT t ti ht
        obtain ⟨hh, hf, hw, hj⟩ := nth_box hm hb
        split at h
        · rename_i hagg
          split at h
          · rename_i hle
            have hle := Nat.le_of_ble_eq_true hle
            rw [force_eq, cut_eq] at h
            obtain ⟨d, hd, hrow⟩ := hti.under
            have hl := run_loadVar_mid (P := C.P) w (σ j) off ti.id (((SV.vals σ cs).drop off).take ti.zero.length) d (by
              intro i v hv
              rw [List.getElem?_take] at hv
              split at hv
              · rw [List.getElem?_drop] at hv
                simpa [World.cell?, hh] using hv
              · cases hv) hd (by rw [hrow, hagg]) (by rw [hti.info]; simp [vals_length]; omega)
            refine ⟨.a ((cs.drop off).take ti.zero.length), h, ?_, wfs_cut hw _ _⟩
            rw [hid] at hl
            simp only [execOp, Instr.loadAt, h1, SV.val, Instr.sureAddr, Sem.run_bind, Sem.run_pure, Result.andThen_ok, hl, vals_cut]
          · exact h.elim
        · rename_i hagg
          split at h
          · rename_i r hr'
            rw [nth_eq] at hr'
            have hc : w.cell? ⟨σ j, off, none⟩ = some (r.val σ) := by
              simp [World.cell?, hh, vals_get, hr']
            have hl := load_one hti hagg hc
            rw [hid] at hl
            refine ⟨r, h, ?_, wfs_get hw hr'⟩
            simp only [execOp, Instr.loadAt, h1, SV.val, Instr.sureAddr, Sem.run_bind, Sem.run_pure, Result.andThen_ok, hl]
          · exact h.elim
      · exact h.elim
    · exact ValX_spec h (by simp [Op.operands, SV.vals, (ev_spec htm ‹ev tm x = some _›).1]) hm
    · exact h.elim
  | fieldAddr t x i =>
    simp only [xval] at h
    split at h
    · rename_i j off he
      obtain ⟨h1, h2⟩ := ev_spec htm he
      split at h
      · rename_i ti ht
        obtain ⟨hid, hti⟩ := hT t ti ht
        split at h
        · rename_i fo fs fa hf
          split at h
          · exact h.elim
          · rename_i m
            have h5 := litK_spec h
            have hfl := hti.fld i fo (m + 1) fa hf (by omega) ⟨σ j, off, none⟩ w
            rw [hid] at hfl
            refine ⟨.p j (off + fo), h5, ?_, h2⟩
            simp only [execOp, h1, SV.val, Sem.run_bind, hfl, Result.andThen_ok, Sem.run_pure, Addr.add_mid]
        · exact h.elim
      · exact h.elim
    · rename_i ad he
      obtain ⟨h1, h2⟩ := ev_spec htm he
      split at h
      · rename_i ti ht
        obtain ⟨hid, hti⟩ := hT t ti ht
        split at h
        · rename_i fo fs fa hf
          split at h
          · exact h.elim
          · rename_i m
            have hfl := hti.fld i fo (m + 1) fa hf (by omega) ad w
            rw [hid] at hfl
            refine ⟨_, h, ?_, trivial⟩
            simp only [execOp, h1, SV.val, Sem.run_bind, hfl, Result.andThen_ok, Sem.run_pure]
        · exact h.elim
      · exact h.elim
    · exact ValX_spec h (by simp [Op.operands, SV.vals, (ev_spec htm ‹ev tm x = some _›).1]) hm
    · exact h.elim
  | nilCheck x =>
    simp only [xval] at h
    split at h
    · rename_i j off he
      obtain ⟨h1, h2⟩ := ev_spec htm he
      exact ⟨.p j off, h, by simp [execOp, h1, SV.val], h2⟩
    · rename_i ad he
      obtain ⟨h1, h2⟩ := ev_spec htm he
      exact ⟨_, h, by simp [execOp, h1, SV.val], h2⟩
    · exact ValX_spec h (by simp [Op.operands, SV.vals, (ev_spec htm ‹ev tm x = some _›).1]) hm
    · exact h.elim
  | build t parts =>
    simp only [xval] at h
    split at h
    · rename_i ti l ht he
      obtain ⟨hid, hti⟩ := hT t ti ht
      obtain ⟨h1, h2⟩ := evs_spec htm he
      split at h
      · rename_i cs hagg hf
        rw [force_eq] at h
        have hz := zip_spec a.eval σ parts.toList l h1
        have hp : ∀ p ∈ (parts.toList.map (·.1)).zip l, p.2.wf ob.length := by
          rintro ⟨i, s⟩ hpm
          have := List.of_mem_zip hpm
          obtain ⟨j, hj⟩ := List.mem_iff_getElem?.1 this.2
          exact wfs_get h2 hj
        obtain ⟨hf1, hf2⟩ := fill_spec σ ob.length ti.flds _ _ _ hf (wfs_v _ _) hp
        rw [vals_v] at hf1
        have hb := hti.build hagg (parts.map fun (i, x) => (i, a.eval x)) _ w (by rw [Array.toList_map, hz]; exact hf1)
        rw [hid] at hb
        refine ⟨.a cs, h, ?_, hf2⟩
        simp only [execOp, Sem.run_bind, hb, Result.andThen_ok, Sem.run_pure, SV.val]
      · rw [force_eq] at h
        exact ValX_spec h (by simpa [Op.operands] using h1) hm
    · exact h.elim
  | extract x i =>
    simp only [xval] at h
    split at h
    · rename_i l he
      obtain ⟨h1, h2⟩ := ev_spec htm he
      split at h
      · rename_i r hr'
        rw [nth_eq] at hr'
        refine ⟨r, h, ?_, wfs_get h2 hr'⟩
        simp [execOp, Instr.extract, h1, SV.val, vals_get, hr']
      · exact h.elim
    · exact h.elim
  | makeFunc fn first cap =>
    cases fn with
    | func f =>
      simp only [xval] at h
      split at h
      · rename_i l hfi he
        rw [force_eq] at h
        obtain ⟨h1, h2⟩ := evs_spec htm he
        refine ⟨_, h, ?_, h2⟩
        have hf : first = #[] := Array.toList_inj.1 (by simpa using hfi)
        have hargs : (cap.map a.eval) = (SV.vals σ l).toArray := by
          rw [← h1]
          apply Array.toList_inj.1
          simp
        simp [execOp, Instr.makeFunc, hf, hargs, SV.val]
      · exact h.elim
    | _ => exact gen h
  | convert s u x =>
    simp only [xval] at h
    split at h
    · rename_i kd n he
      obtain ⟨h1, h2⟩ := ev_spec htm he
      have hv : ValX C ⟨dst, .convert s u x, ty, pos, after, guard⟩ [.v (.int kd n)] ob k → ∃ x, k x ∧ (execOp a.eval ⟨dst, .convert s u ‹Operand›, ty, pos, after, guard⟩).run C.P w = .ok (.value (x.val σ)) w ∧ x.wf ob.length :=
        fun h => ValX_spec h (by simp [Op.operands, SV.vals, h1]) hm
      split at h
      · rename_i ts ti hs ht
        split at h
        · rename_i kd' hk
          obtain ⟨hid, hti⟩ := hT u ti ht
          obtain ⟨hid', hti'⟩ := hT s ts hs
          obtain ⟨d, hd, _⟩ := hti'.under
          have hu := hti.kd3 kd' hk
          rw [hid] at hu
          rw [hid'] at hd
          rw [xcv_iff] at h
          refine ⟨_, h, ?_, trivial⟩
          simp only [SV.val] at h1
          simp [execOp, convert, run_underlying hu, run_underlying hd, h1, Conv.intToInt, SV.val]
        · exact hv h
      · exact hv h
    · rename_i y _ he
      rw [force_eq] at h
      exact ValX_spec h (by simp [Op.operands, SV.vals, (ev_spec htm he).1]) hm
    · exact h.elim
  | unOp op t x =>
    simp only [xval] at h
    split at h
    · rename_i b he
      obtain ⟨h1, h2⟩ := ev_spec htm he
      exact ⟨.v (.bool !b), h, by simp [execOp, Op.unary, h1, SV.val], trivial⟩
    · rename_i kd n he
      obtain ⟨h1, h2⟩ := ev_spec htm he
      exact ⟨.v (.int kd (kd.wrap (0 - n))), xwr_iff.1 h, by simp [execOp, Op.unary, Op.intArith, h1, SV.val], trivial⟩
    · exact ValX_spec h (by simp [Op.operands, SV.vals, (ev_spec htm ‹ev tm x = some _›).1]) hm
    · exact h.elim
  | binOp op t x y t' =>
    simp only [xval] at h
    split at h
    · rename_i kd p kd' q he he'
      obtain ⟨h1, _⟩ := ev_spec htm he
      obtain ⟨h2, _⟩ := ev_spec htm he'
      split at h
      · rename_i hs
        obtain rfl := sameK_eq hs
        obtain ⟨r, hk, hrun⟩ := binI_spec (C := C) (w := w) (o := ⟨dst, .binOp op t x y t', ty, pos, after, guard⟩) rfl h1 h2 h
        exact ⟨.v r, hk, hrun, trivial⟩
      · split at h
        · rw [xshr_iff] at h
          exact ⟨_, h.2, shift_spec (C := C) (w := w) (o := ⟨dst, .binOp .shr t x y t', ty, pos, after, guard⟩) rfl h1 h2 h.1 (.inl ⟨rfl, rfl⟩), trivial⟩
        · rw [xshl_iff] at h
          exact ⟨_, h.2, shift_spec (C := C) (w := w) (o := ⟨dst, .binOp .shl t x y t', ty, pos, after, guard⟩) rfl h1 h2 h.1 (.inr ⟨rfl, rfl⟩), trivial⟩
        · exact h.elim
    · rename_i l m he he'
      obtain ⟨h1, h3⟩ := ev_spec htm he
      obtain ⟨h2, h4⟩ := ev_spec htm he'
      split at h
      · rename_i ti ht
        obtain ⟨hid, hti⟩ := hT t ti ht
        have hgd := hti.guard
        rw [hid] at hgd
        have hg : ∀ op, (eqGuard op t x y (SV.val σ (.a l)) (SV.val σ (.a m))).run C.P w = .ok () w := by
          intro op
          unfold eqGuard
          cases op <;> simp [SV.val, program, hgd, Sem.run]
        split at h
        · rename_i r hq
          have he := hti.eq σ l m r hq w
          rw [hid] at he
          refine ⟨.v (.bool r), h, ?_, trivial⟩
          have hg' := hg .eql
          simp only [SV.val] at hg' h1 h2
          simp [execOp, h1, h2, hg', binOp, he, SV.val]
        · rename_i r hq
          have he := hti.eq σ l m r hq w
          rw [hid] at he
          refine ⟨.v (.bool !r), h, ?_, trivial⟩
          have hg' := hg .neq
          simp only [SV.val] at hg' h1 h2
          simp [execOp, h1, h2, hg', binOp, he, SV.val]
        · exact h.elim
      · exact h.elim
    · rename_i b1 b2 he he'
      obtain ⟨h1, _⟩ := ev_spec htm he
      obtain ⟨h2, _⟩ := ev_spec htm he'
      simp only [SV.val] at h1 h2
      split at h
      · rename_i ti ht
        obtain ⟨hid, hti⟩ := hT t ti ht
        split at h
        · rename_i hkd
          have hu := hti.kd1 hkd
          rw [hid] at hu
          refine ⟨_, h, ?_, trivial⟩
          have hq : (Op.equal t (.bool b1) (.bool b2)).run C.P w = .ok (b1 == b2) w := by
            unfold Op.equal Op.maxDepth Op.equalIn
            simp [run_underlying hu]
          simp [execOp, h1, h2, binOp, eqGuard, hq, SV.val]
        · rename_i hkd
          have hu := hti.kd1 hkd
          rw [hid] at hu
          refine ⟨_, h, ?_, trivial⟩
          have hq : (Op.equal t (.bool b1) (.bool b2)).run C.P w = .ok (b1 == b2) w := by
            unfold Op.equal Op.maxDepth Op.equalIn
            simp [run_underlying hu]
          simp [execOp, h1, h2, binOp, eqGuard, hq, SV.val]
        · exact h.elim
      · exact h.elim
    · rename_i pa he he'
      obtain ⟨h1, _⟩ := ev_spec htm he
      obtain ⟨h2, _⟩ := ev_spec htm he'
      simp only [SV.val] at h1 h2
      split at h
      · rename_i ti ht
        obtain ⟨hid, hti⟩ := hT t ti ht
        have hq : ti.kd = 2 → (Op.equal t (.pointer pa) (.pointer none)).run C.P w = .ok pa.isNone w := by
          intro hkd
          obtain ⟨e, hu⟩ := hti.kd2 hkd
          rw [hid] at hu
          unfold Op.equal Op.maxDepth Op.equalIn
          cases pa <;> simp [run_underlying hu]
        split at h
        · rename_i hkd
          refine ⟨_, h, ?_, trivial⟩
          simp [execOp, h1, h2, binOp, eqGuard, hq hkd, SV.val]
        · rename_i hkd
          refine ⟨_, h, ?_, trivial⟩
          simp [execOp, h1, h2, binOp, eqGuard, hq hkd, SV.val]
        · exact h.elim
      · exact h.elim
    · rename_i pa na ca nb cb he he'
      obtain ⟨h1, _⟩ := ev_spec htm he
      obtain ⟨h2, _⟩ := ev_spec htm he'
      simp only [SV.val] at h1 h2
      split at h
      · rename_i ti ht
        obtain ⟨hid, hti⟩ := hT t ti ht
        have hq : ∀ e, ti.el = e + 1 → (Op.equal t (.slice pa na ca) (.slice none nb cb)).run C.P w = .ok pa.isNone w := by
          intro e hel
          have hu := hti.sl e hel
          rw [hid] at hu
          unfold Op.equal Op.maxDepth Op.equalIn
          cases pa <;> simp [run_underlying hu]
        split at h
        · rename_i e hel
          refine ⟨_, h, ?_, trivial⟩
          simp [execOp, h1, h2, binOp, eqGuard, hq _ hel, SV.val]
        · rename_i e hel
          refine ⟨_, h, ?_, trivial⟩
          simp [execOp, h1, h2, binOp, eqGuard, hq _ hel, SV.val]
        · exact h.elim
      · exact h.elim
    · rename_i j off he he'
      obtain ⟨h1, _⟩ := ev_spec htm he
      obtain ⟨h2, _⟩ := ev_spec htm he'
      simp only [SV.val] at h1 h2
      split at h
      · rename_i ti ht
        obtain ⟨hid, hti⟩ := hT t ti ht
        have hq : ti.kd = 2 → (Op.equal t (.pointer (some ⟨σ j, off, none⟩)) (.pointer none)).run C.P w = .ok false w := by
          intro hkd
          obtain ⟨e, hu⟩ := hti.kd2 hkd
          rw [hid] at hu
          unfold Op.equal Op.maxDepth Op.equalIn
          simp [run_underlying hu]
        split at h
        · rename_i hkd
          refine ⟨_, h, ?_, trivial⟩
          simp [execOp, h1, h2, binOp, eqGuard, hq hkd, SV.val]
        · rename_i hkd
          refine ⟨_, h, ?_, trivial⟩
          simp [execOp, h1, h2, binOp, eqGuard, hq hkd, SV.val]
        · exact h.elim
      · exact h.elim
    · exact ValX_spec h (by simp [Op.operands, SV.vals, (ev_spec htm ‹ev tm x = some _›).1, (ev_spec htm ‹ev tm y = some _›).1]) hm
    · exact h.elim
  | call c =>
    obtain ⟨callee, args, ats⟩ := c
    cases callee with
    | value f => exact gen h
    | invoke _ _ => exact gen h
    | builtin b =>
      cases b with
      | len =>
        simp only [xval] at h
        split at h
        · rename_i q n cp t he ht
          split at h
          · rename_i ti hl
            split at h
            · exact h.elim
            · rename_i e hel
              obtain ⟨hid, hti⟩ := hT t ti hl
              have hu := hti.sl e hel
              rw [hid] at hu
              obtain ⟨h1, _⟩ := evs_spec htm he
              refine ⟨_, h, ?_, trivial⟩
              have hargs : (args.map a.eval) = #[.slice q n cp] := by
                apply Array.toList_inj.1
                simpa [SV.vals, SV.val] using h1
              have hats : ats = #[t] := by
                apply Array.toList_inj.1
                simpa using ht
              simp [execOp, resolve, invoke, builtin, hargs, hats, Builtin.len_, SV.val, run_underlying hu, goInt]
          · exact h.elim
        · rename_i l he _
          rw [force_eq] at h
          exact ValX_spec h (by simpa [Op.operands, Call.operands] using (evs_spec htm he).1) hm
        · exact h.elim
      | min =>
        simp only [xval] at h
        split at h
        · rename_i kd p kd' q he
          obtain ⟨h1, _⟩ := evs_spec htm he
          refine ⟨_, h, ?_, trivial⟩
          have hargs : (args.map a.eval) = #[.int kd p, .int kd' q] := by
            apply Array.toList_inj.1
            simpa [SV.vals, SV.val] using h1
          simp [execOp, resolve, invoke, builtin, hargs, Builtin.min_, Builtin.min2, SV.val]
          omega
        · rename_i l _ he
          rw [force_eq] at h
          exact ValX_spec h (by simpa [Op.operands, Call.operands] using (evs_spec htm he).1) hm
        · exact h.elim
      | max =>
        simp only [xval] at h
        split at h
        · rename_i kd p kd' q he
          obtain ⟨h1, _⟩ := evs_spec htm he
          refine ⟨_, h, ?_, trivial⟩
          have hargs : (args.map a.eval) = #[.int kd p, .int kd' q] := by
            apply Array.toList_inj.1
            simpa [SV.vals, SV.val] using h1
          simp [execOp, resolve, invoke, builtin, hargs, Builtin.max_, Builtin.max2, SV.val]
          omega
        · rename_i l _ he
          rw [force_eq] at h
          exact ValX_spec h (by simpa [Op.operands, Call.operands] using (evs_spec htm he).1) hm
        · exact h.elim
      | _ => exact gen h
  | _ => exact gen h

theorem xop_sound (hT : TabOk C.P C.T) {o : Oper} (h : xop C o tm ob k) (hr : Rel C tm ob σ fp a w)
    (hk : ∀ v w', Goes C ob.length σ fp w k v w' → next (a.put o.dst v) w') : o.wp C.P a w next Q := by
  have hm := hr.mem
  have htm := hr.tm
  obtain ⟨dst, op, ty, pos, after, guard⟩ := o
  have gen : ∀ (hh : match isVal op with
      | true => xval C ⟨dst, op, ty, pos, after, guard⟩ tm ob fun x => k x ob
      | false => match evs tm op.operands.toList with
        | some l => force l fun l => OpX C ⟨dst, op, ty, pos, after, guard⟩ l ob k
        | none => False), Oper.wp C.P ⟨dst, op, ty, pos, after, guard⟩ a w next Q := by
    intro hh
    cases hi : isVal op with
    | true =>
      rw [hi] at hh
      obtain ⟨x, h1, h2, h3⟩ := xval_sound hT hh htm hm
      exact wp_value h2 (hk _ _ (Goes.same h1 h3 hm))
    | false =>
      rw [hi] at hh
      cases he : evs tm op.operands.toList with
      | none => rw [he] at hh; exact hh.elim
      | some l =>
        rw [he] at hh
        simp only [force_eq] at hh
        exact OpX_spec hh (evs_spec htm he).1 hm hk
  cases op with
  | alloc t =>
    simp only [xop] at h
    split at h
    · rename_i ti ht
      obtain ⟨hid, hti⟩ := hT t ti ht
      obtain ⟨z, hz, hzc⟩ := hti.zero
      rw [hid] at hz
      have hg := Goes.newBox h (wfs_v _ _) hm
      rw [vals_v] at hg
      refine wp_value ?_ (hk _ _ hg)
      simp only [execOp, Instr.alloc, Sem.run_bind, hz, Result.andThen_ok, newVar, newRow, hzc]
      rfl
    · exact h.elim
  | box t x =>
    simp only [xop] at h
    split at h
    · rename_i r he
      obtain ⟨h1, h2⟩ := ev_spec htm he
      refine wp_value ?_ (hk _ _ (Goes.newBox h (cells_wf h2) hm))
      simp only [execOp, Instr.box, newVar, newRow, h1, cells_val]
      rfl
    · exact h.elim
  | store t x y =>
    simp only [xop] at h
    split at h
    · rename_i j off r he he'
      obtain ⟨h1, h2⟩ := ev_spec htm he
      obtain ⟨h3, h4⟩ := ev_spec htm he'
      split at h
      · rename_i ti t' cs ht hb
        obtain ⟨hid, hti⟩ := hT t ti ht
        obtain ⟨hh, hf, hw, hj⟩ := nth_box hm hb
        split at h
        · rename_i e1 e2 e3
          have e1 := Nat.eq_of_beq_eq_true e1
          have e2 := Nat.le_of_ble_eq_true e2
          simp only [force_eq] at h
          rw [splice_eq _ _ _ (by omega), setN_eq] at h
          have hst := run_storeCells_at (P := C.P) (σ j) off t' (SV.vals σ r.cells) 0 (SV.vals σ cs).toArray w hh (by simp [vals_length]; omega) (ones_spec σ e3)
          simp only [Nat.add_zero] at hst
          have hsz : (sizeOf t).run C.P w = .ok ti.zero.length w := by
            have := hti.info
            rw [hid] at this
            unfold sizeOf
            cases hq : C.P.info? t with
            | none => simp [hq] at this
            | some i => simp [hq] at this; simp [typeInfo, hq, this]
          have hrow := setRow_heap w (σ j) (SV.vals σ cs).toArray ((SV.vals σ cs).take off ++ SV.vals σ r.cells ++ (SV.vals σ cs).drop (off + (SV.vals σ r.cells).length)).toArray t' (0, 0) hh
          have hsz2 : w.heap.size ≤ (w.setRow (σ j) ((SV.vals σ cs).take off ++ SV.vals σ r.cells ++ (SV.vals σ cs).drop (off + (SV.vals σ r.cells).length)).toArray).heap.size := by simp [World.setRow]
          have hsame : ∀ i, i < w.heap.size → ¬ fp j i → (w.setRow (σ j) ((SV.vals σ cs).take off ++ SV.vals σ r.cells ++ (SV.vals σ cs).drop (off + (SV.vals σ r.cells).length)).toArray).heap[i]? = w.heap[i]? := by
            intro i hi hni
            have : i ≠ σ j := fun e => hni ((hf i).2 e)
            simp [World.setRow, Array.getElem?_modify, this.symm]
          have hM := hm.change (w' := w.setRow (σ j) ((SV.vals σ cs).take off ++ SV.vals σ r.cells ++ (SV.vals σ cs).drop (off + (SV.vals σ r.cells).length)).toArray) hj (.box t' (cs.take off ++ r.cells ++ cs.drop (off + r.cells.length))) (fp j) ⟨by rw [vals_splice]; exact hrow, hf, wfs_splice hw (cells_wf h4) off⟩ (fun i hi => .inl hi) (by
              intro i hi
              have := hm.hi j hj i hi
              simpa [World.setRow] using this) rfl rfl rfl hsz2 hsame (fun _ => Nat.le_refl _)
          refine wp_skip' (w' := w.setRow (σ j) ((SV.vals σ cs).take off ++ SV.vals σ r.cells ++ (SV.vals σ cs).drop (off + (SV.vals σ r.cells).length)).toArray) ?_ (hk _ _ ⟨.v undef, _, σ, _, h, fun _ _ => rfl, by simp, rfl, trivial, hM, Frm.changed hj (by simp) (fun i hi => .inl hi) hsz2 hsame⟩)
          simp only [execOp, Instr.storeAt, h1, SV.val, Instr.sureAddr, Sem.run_bind, Sem.run_pure, Result.andThen_ok, storeVar, hsz, h3, cells_val, List.size_toArray, vals_length, e1, ne_eq, not_true, if_false, hst]
        · exact h.elim
      · exact h.elim
    · rename_i r s he he' hne
      exact OpX_spec h (by simp [Op.operands, SV.vals, (ev_spec htm ‹ev tm x = some _›).1, (ev_spec htm ‹ev tm y = some _›).1]) hm hk
    · exact h.elim
  | call c =>
    obtain ⟨callee, args, ats⟩ := c
    cases callee with
    | value f =>
      cases f with
      | func f =>
        simp only [xop] at h
        split at h
        · rename_i l he
          rw [force_eq] at h
          unfold CallX at h
          obtain ⟨hen, h⟩ := h
          obtain ⟨h1, h2⟩ := evs_spec htm he
          have h3 := h σ fp w hm
          have hargs : (args.map a.eval) = (SV.vals σ l).toArray := by
            rw [← h1]
            apply Array.toList_inj.1
            simp
          unfold Oper.wp
          have hrun : (execOp a.eval ⟨dst, .call ⟨.value (.func f), args, ats⟩, ty, pos, after, guard⟩).run C.P w = .ok (.enter f (SV.vals σ l).toArray) w := by
            simp only [execOp, resolve, Act.eval, Deferred.ofValue, Sem.run_bind, Sem.run_pure, Result.andThen_ok, invoke, hargs, Array.empty_append, Array.append_empty]
            exact hen _ _
          rw [hrun]
          exact h3.mono fun e w'' ⟨v, he, hg⟩ => by subst he; exact hk _ _ hg
        · exact h.elim
      | tmp t =>
        simp only [xop] at h
        have go : ∀ f l, a.eval (.tmp t) = .func (.func f) #[] (SV.vals σ l).toArray → ∀ xs, evs tm args.toList = some xs → CallX C f (xs ++ l) ob k → Oper.wp C.P ⟨dst, .call ⟨.value (.tmp t), args, ats⟩, ty, pos, after, guard⟩ a w next Q := by
          intro f l hf xs he h
          unfold CallX at h
          obtain ⟨hen, h⟩ := h
          obtain ⟨h1, h2⟩ := evs_spec htm he
          have h3 := h σ fp w hm
          have hargs : (args.map a.eval) = (SV.vals σ xs).toArray := by
            rw [← h1]
            apply Array.toList_inj.1
            simp
          unfold Oper.wp
          have hrun : (execOp a.eval ⟨dst, .call ⟨.value (.tmp t), args, ats⟩, ty, pos, after, guard⟩).run C.P w = .ok (.enter f (SV.vals σ (xs ++ l)).toArray) w := by
            simp only [execOp, resolve, hf, Deferred.ofValue, Sem.run_bind, Sem.run_pure, Result.andThen_ok, invoke, hargs, Array.empty_append, vals_append]
            have := hen ((SV.vals σ xs).toArray ++ (SV.vals σ l).toArray) w
            simpa using this
          rw [hrun]
          exact h3.mono fun e w'' ⟨v, he, hg⟩ => by subst he; exact hk _ _ hg
        split at h
        · rename_i f cap l hl he
          rw [force_eq] at h
          exact go f cap (by have := (ev_spec htm (x := .tmp t) hl).1; rwa [SV.val] at this) l he h
        · rename_i f first cap l hl he
          split at h
          · rename_i hfi
            rw [force_eq] at h
            refine go f (cap.toList.map .v) ?_ l he h
            have h1 := (ev_spec htm (x := .tmp t) hl).1
            rw [SV.val] at h1
            rw [h1, vals_v, show first = #[] from Array.toList_inj.1 (by simpa using hfi)]
          · exact h.elim
        · rename_i x l _ _ hl he
          rw [force_eq] at h
          exact OpX_spec h (by
            have h1 := (ev_spec htm (x := .tmp t) hl).1
            have h2 := (evs_spec htm he).1
            simp [Op.operands, Call.operands, SV.vals, h1, h2]) hm hk
        · exact h.elim
      | const _ => exact gen h
      | global _ => exact gen h
    | invoke _ _ => exact gen h
    | builtin _ => exact gen h
  | _ => exact gen h

end
end Go.Proofs.Ytodaijlclbngbaa.En
