import Derived.Test.YtlnplelandimeaaGreatZFleetViews32
import Derived.Test.YtlnplelandimeaaGreatZFleetViews31
set_option linter.all false
section
namespace Go.Proofs.YtlnplelandimeaaGreat.En
open Go.RowKit
set_option maxRecDepth 100000
theorem ArgSl.take {w : World} {A : Option Addr} {n sz : Nat} {els : List (List Value)} (h : ArgSl w A n sz els) {m : Nat} (hm : m ≤ n) : ArgSl w A m sz (els.take m) := by
 refine ⟨by rw [List.length_take,h.len];omega,fun e he=>h.size e (List.mem_of_mem_take he),fun e he=>h.one e (List.mem_of_mem_take he),fun hn=>?_⟩
 obtain ⟨b,o,hA,hc⟩:=h.at_ (by omega)
 refine ⟨b,o,hA,fun i e hi=>hc i e ?_⟩
 rw [List.getElem?_take] at hi
 split at hi
 ·exact hi
 ·cases hi
theorem ArgSl.drop {w : World} {A : Option Addr} {n sz : Nat} {els : List (List Value)} (h : ArgSl w A n sz els) {m : Nat} (hm : m ≤ n) {c : Nat} (hc : n ≤ c) : ArgSl w (cutA A c m sz) (n - m) sz (els.drop m) := by
 refine ⟨by rw [List.length_drop,h.len],fun e he=>h.size e (List.mem_of_mem_drop he),fun e he=>h.one e (List.mem_of_mem_drop he),fun hn=>?_⟩
 obtain ⟨b,o,hA,hcl⟩:=h.at_ (by omega)
 refine ⟨b,o + m * sz,?_,fun i e hi j v hj=>?_⟩
 ·unfold cutA
  rw [if_neg (by omega),hA]
  rfl
 ·rw [List.getElem?_drop] at hi
  have:=hcl (m + i) e hi j v hj
  rw [← this,Nat.add_mul]
  congr 2
  omega
def ltR (y x : RelT) : Bool := decide (y.1 < x.1) || (decide (y.1 = x.1) && decide (y.2.1 < x.2.1))
def eqR (y x : RelT) : Bool := decide (y.1 = x.1) && decide (y.2.1 = x.2.1)
def insR (x : RelT) : List RelT → List RelT
 | []=>[x]
 | y :: t=>if ltR y x=true then y :: insR x t else if eqR y x=true then (if 0 < lexC (keyF x.2.2) (keyF y.2.2) then x :: t else y :: t) else x :: y :: t
theorem cke (x : RelT) : ∀ (L : List RelT) (k : Nat), k ≤ L.length → (∀ j, j < k → ltR (L.getD j r0) x = true) → (k < L.length → ltR (L.getD k r0) x = false) →
 insR x L=if k < L.length∧eqR (L.getD k r0) x=true then (if 0 < lexC (keyF x.2.2) (keyF (L.getD k r0).2.2) then L.set k x else L) else L.take k ++ x :: L.drop k
 | [],k,hk,_,_=>by
   obtain rfl : k=0:=by simpa using hk
   rfl
 | y :: t,0,_,_,h0=>by
   have h0 : ltR y x=false:=by simpa using h0 (by simp)
   unfold insR
   rw [if_neg (by rw [h0];simp)]
   by_cases e : eqR y x=true
   ·have hc : 0 < (y :: t).length∧eqR ((y :: t).getD 0 r0) x=true:=⟨by simp,by simpa using e⟩
    rw [if_pos e,if_pos hc]
    simp
   ·have hc : ¬ (0 < (y :: t).length∧eqR ((y :: t).getD 0 r0) x=true):=fun h=>e (by simpa using h.2)
    rw [if_neg e,if_neg hc]
    rfl
 | y :: t,k + 1,hk,hj,h0=>by
   have h1 : ltR y x=true:=by simpa using hj 0 (by omega)
   have ih:=cke x t k (by simpa using hk) (fun j hjk=>by simpa using hj (j + 1) (by omega)) (fun h=>by simpa using h0 (by simpa using h))
   unfold insR
   rw [if_pos h1,ih]
   have e : (k + 1 < (y :: t).length∧eqR ((y :: t).getD (k + 1) r0) x=true)↔(k < t.length∧eqR (t.getD k r0) x=true):=by simp
   simp only [e]
   split
   ·simp only [List.getD_cons_succ,List.set_cons_succ]
    split<;>rfl
   ·rfl
theorem bjz (x : RelT) : ∀ (L M : List RelT), (∀ y ∈ L, ltR y x = true) → insR x (L ++ M) = L ++ insR x M
 | [],_,_=>rfl
 | y :: t,M,h=>by
   show insR x (y :: (t ++ M))=y :: (t ++ insR x M)
   rw [← bjz x t M fun z hz=>h z (by simp [hz])]
   conv=>lhs;unfold insR
   rw [if_pos (h y (by simp))]
theorem cxt (x y : RelT) (h1 : ltR y x = false) (h2 : eqR y x = false) : ∀ (L : List RelT), insR x (L ++ [y]) = insR x L ++ [y]
 | []=>by
   show insR x [y]=[x] ++ [y]
   unfold insR
   rw [if_neg (by rw [h1];simp),if_neg (by rw [h2];simp)]
   rfl
 | z :: t=>by
   show insR x (z :: (t ++ [y]))=insR x (z :: t) ++ [y]
   unfold insR
   split
   ·rw [cxt x y h1 h2 t]
    rfl
   ·split
    ·split<;>rfl
    ·rfl
theorem bj0 (S : SnT) (n : Nat) : aqt S (n + 1) = aqt S n ++ (prs S n).toList := by
 rcases ax3 (prs S n) with h|⟨x,h⟩
 ·rw [aws h,h]
  simp
 ·rw [avc h,h]
  rfl
theorem bvk {S : SnT} {n : Nat} {y : RelT} (h : y ∈ aqt S n) : ∃ t f, t < n ∧ y = (((t / 8 : Nat) : Int), ((t % 8 : Nat) : Int), f) := by
 unfold aqt at h
 obtain ⟨t,ht,he⟩:=List.mem_filterMap.1 h
 unfold prs at he
 rcases ax3 (S.rel (t / 8) (t % 8)) with hn|⟨f,hs⟩
 ·rw [hn] at he
  cases he
 ·rw [hs] at he
  exact ⟨t,f,by simpa using ht,(Option.some.inj he).symm⟩
theorem cxu (S : SnT) {u v : Nat} (f : Fr) (hv : v < 8) : ∀ n, aqt (setR S u v f) n = if 8 * u + v < n then insR ((u : Int), (v : Int), f) (aqt S n) else aqt S n
 | 0=>by rw [if_neg (by omega)];rfl
 | n + 1=>by
   have ih:=cxu S f hv (u:=u) n
   rw [bj0,bj0 S,ih]
   have hp : n ≠ 8 * u + v→prs (setR S u v f) n=prs S n:=by
    intro hn
    unfold prs setR upd2
    dsimp only
    rw [if_neg (by omega)]
   by_cases c1 : 8 * u + v < n
   ·rw [if_pos c1,if_pos (by omega),hp (by omega)]
    rcases ax3 (prs S n) with h|⟨y,h⟩
    ·rw [h]
     simp
    ·rw [h]
     have hy : y∈aqt S (n + 1):=by rw [avc h];simp
     obtain ⟨t,g,ht,rfl⟩:=bvk hy
     have hy2 : t=n:=by
      unfold prs at h
      rcases ax3 (S.rel (n / 8) (n % 8)) with hn|⟨f',hs⟩
      ·rw [hn] at h;cases h
      ·rw [hs] at h
       have h:=Option.some.inj h
       simp only [Prod.mk.injEq] at h
       omega
     subst hy2
     refine (cxt _ _ ?_ ?_ _).symm
     ·unfold ltR
      simp
      omega
     ·unfold eqR
      simp
      omega
   ·rw [if_neg c1]
    by_cases c2 : n=8 * u + v
    ·rw [if_pos (by omega)]
     have e1 : n / 8=u:=by omega
     have e2 : n % 8=v:=by omega
     rw [bjz _ _ _ (fun y hy=>?_)]
     ·congr 1
      unfold prs setR upd2
      dsimp only
      rw [e1,e2,if_pos ⟨rfl,rfl⟩]
      rcases ax3 (S.rel u v) with hn|⟨g,hs⟩
      ·rw [hn]
       rfl
      ·rw [hs]
       unfold mxO
       dsimp only
       show (Option.map (fun f=>((u : Int),(v : Int),f)) (if 0 < lexC (keyF f) (keyF g) then some f else some g)).toList=insR ((u : Int),(v : Int),f) [((u : Int),(v : Int),g)]
       have g1 : ¬ ltR ((u : Int),(v : Int),g) ((u : Int),(v : Int),f)=true:=by unfold ltR;simp
       have g2 : eqR ((u : Int),(v : Int),g) ((u : Int),(v : Int),f)=true:=by unfold eqR;simp
       unfold insR
       rw [if_neg g1,if_pos g2]
       split<;>rfl
     ·obtain ⟨t,g,ht,rfl⟩:=bvk hy
      unfold ltR
      simp
      omega
    ·rw [if_neg (by omega),hp c2]
theorem normR_bd' {x : RelT} (h : aq1 x = true) : ((aqs x).1.toNat < (aqs x).2.1.toNat ∧ (aqs x).2.1.toNat < 8) ∧ True := by
 obtain ⟨h1,h2,h3,h4,h5⟩:=av7 h
 unfold aqs
 split
 ·dsimp only
  exact ⟨by omega,trivial⟩
 ·dsimp only
  exact ⟨by omega,trivial⟩
theorem normR_nn {x : RelT} (h : aq1 x = true) : 0 ≤ (aqs x).1 ∧ 0 ≤ (aqs x).2.1 := by
 obtain ⟨h1,h2,h3,h4,h5⟩:=av7 h
 unfold aqs
 split
 ·exact ⟨h2.1,h1.1⟩
 ·exact ⟨h1.1,h2.1⟩
theorem dzp (S : SnT) {x : RelT} (hx : aq1 x = true) : aqj (axe S x) = insR (aqs x) (aqj S) := by
 obtain ⟨⟨n1,n2⟩,_⟩:=normR_bd' hx
 have h:=cxu S (u:=(aqs x).1.toNat) (v:=(aqs x).2.1.toNat) (aqs x).2.2 n2 64
 rw [if_pos (by omega)] at h
 have e : ((((aqs x).1.toNat : Nat) : Int),(((aqs x).2.1.toNat : Nat) : Int),(aqs x).2.2)=aqs x:=by
  obtain ⟨a1,a2⟩:=normR_nn hx
  rw [Int.toNat_of_nonneg a1,Int.toNat_of_nonneg a2]
 rw [e] at h
 exact h
end Go.Proofs.YtlnplelandimeaaGreat.En
end
