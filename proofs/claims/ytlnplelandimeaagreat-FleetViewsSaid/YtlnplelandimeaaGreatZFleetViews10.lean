import Derived.Test.YtlnplelandimeaaGreatZFleetViews01
import Derived.Maps.Own
import Derived.Maps.OwnOps
import Derived.MapKept
import Derived.Test.YtlnplelandimeaaGreatZFleetViews09
import Derived.Deep.AppendLies
import Derived.Deep.RegionLaw
set_option linter.all false
section
namespace Go.Proofs.YtlnplelandimeaaGreat
open Go.RowKit Go.MapKept
def mkEs : List (Int × Value) → Nat → List MapEntry
 | [],_=>[]
 | (k,v) :: r,i=>{ key:=.int .i64 k,val:=v,born:=i } :: mkEs r (i + 1)
theorem bx3 : ∀ (m l : List (Int × Value)) (i : Nat), mkEs (m ++ l) i = mkEs m i ++ mkEs l (i + m.length)
 | [],l,i=>by simp [mkEs]
 | (k,v) :: r,l,i=>by
   simp only [List.cons_append,mkEs,bx3 r l (i + 1),List.length_cons]
   rw [show i + 1 + r.length=i + (r.length + 1) by omega]
def MapAt (w : World) (b : Nat) (m : List (Int × Value)) : Prop := w.heap[b]? = some (.map (mkEs m 0).toArray m.length)
def bz5 : List (Int × Value) → Int → Option Value
 | [],_=>none
 | (k',v) :: r,k=>if k=k' then some v else bz5 r k
def mHas (m : List (Int × Value)) (k : Int) : Bool := (bz5 m k).isSome
def mGet (m : List (Int × Value)) (k : Int) (z : Value) : Value := (bz5 m k).getD z
theorem bks (k : Int) : ∀ (m : List (Int × Value)) (i j : Nat), ∃ r, Instr.findNow (.int .i64) (.int .i64 k) (mkEs m i) j = some r ∧ r.map (·.2) = bz5 m k
 | [],_,_=>⟨none,rfl,rfl⟩
 | (k',v) :: r,i,j=>by
   by_cases h : k=k'
   ·subst h
    exact ⟨some (j,v),by simp [mkEs,Instr.findNow,Instr.sameNow],by simp [bz5]⟩
   ·obtain ⟨r',h1,h2⟩:=bks k r (i + 1) (j + 1)
    have hb : (k == k')=false:=by simp [h]
    exact ⟨r',by simp [mkEs,Instr.findNow,Instr.sameNow,hb,h1],by simp [bz5,h,h2]⟩
section
variable {P : Program} {w w' : World} {b : Nat} {m : List (Int × Value)}
theorem MapAt.lt (h : MapAt w b m) : b < w.heap.size := by
 rcases Nat.lt_or_ge b w.heap.size with hlt|hge
 ·exact hlt
 ·unfold MapAt at h;rw [Array.getElem?_eq_none hge] at h;cases h
theorem MapAt.alloc (h : MapAt w b m) (o : Obj) : MapAt (w.alloc o) b m := (Below.heap_alloc w o b h.lt).trans h
theorem MapAt.drew (h : MapAt w b m) : MapAt w.drew b m := h
theorem MapAt.drewN (h : MapAt w b m) (n : Nat) : MapAt (w.drewN n) b m := h
theorem MapAt.below {B : Nat} (h : MapAt w b m) (hb : Below B w w') (hg : b < B) : MapAt w' b m := (hb.block b hg).trans h
theorem MapAt.set (h : MapAt w b m) {p : Addr} (hp : b ≠ p.block) (u : Value) : MapAt (w.setCell p u) b m := (Below.heap_setCell w p u b hp).trans h
theorem MapAt.made (w : World) : MapAt (w.alloc (.map #[] 0)) w.heap.size [] := heap_alloc_new w _
theorem MapAt.many (h : MapAt w b m) :
 (∀ o1 : Obj,MapAt (w.alloc o1) b m)∧(∀ o1 o2 : Obj,MapAt ((w.alloc o1).alloc o2) b m)∧(∀ o1 o2 o3 : Obj,MapAt (((w.alloc o1).alloc o2).alloc o3) b m)∧(∀ o1 o2 o3 o4 : Obj,MapAt ((((w.alloc o1).alloc o2).alloc o3).alloc o4) b m)∧(∀ o1 o2 o3 o4 o5 : Obj,MapAt (((((w.alloc o1).alloc o2).alloc o3).alloc o4).alloc o5) b m)∧(∀ o1 o2 o3 o4 o5 o6 : Obj,MapAt ((((((w.alloc o1).alloc o2).alloc o3).alloc o4).alloc o5).alloc o6) b m)∧(∀ o1 o2 o3 o4 o5 o6 o7 : Obj,MapAt (((((((w.alloc o1).alloc o2).alloc o3).alloc o4).alloc o5).alloc o6).alloc o7) b m)∧(∀ o1 o2 o3 o4 o5 o6 o7 o8 : Obj,MapAt ((((((((w.alloc o1).alloc o2).alloc o3).alloc o4).alloc o5).alloc o6).alloc o7).alloc o8) b m)∧(MapAt w.drew b m)∧(∀ o1 : Obj,MapAt (w.alloc o1).drew b m)∧(∀ o1 o2 : Obj,MapAt ((w.alloc o1).alloc o2).drew b m)∧(∀ o1 o2 o3 : Obj,MapAt (((w.alloc o1).alloc o2).alloc o3).drew b m)∧(∀ o1 o2 o3 o4 : Obj,MapAt ((((w.alloc o1).alloc o2).alloc o3).alloc o4).drew b m)∧(∀ o1 o2 o3 o4 o5 : Obj,MapAt (((((w.alloc o1).alloc o2).alloc o3).alloc o4).alloc o5).drew b m)∧(∀ o1 o2 o3 o4 o5 o6 : Obj,MapAt ((((((w.alloc o1).alloc o2).alloc o3).alloc o4).alloc o5).alloc o6).drew b m)∧(∀ o1 o2 o3 o4 o5 o6 o7 : Obj,MapAt (((((((w.alloc o1).alloc o2).alloc o3).alloc o4).alloc o5).alloc o6).alloc o7).drew b m)∧(∀ o1 o2 o3 o4 o5 o6 o7 o8 : Obj,MapAt ((((((((w.alloc o1).alloc o2).alloc o3).alloc o4).alloc o5).alloc o6).alloc o7).alloc o8).drew b m) :=
 ⟨fun _=>(h.alloc _),fun _ _=>((h.alloc _).alloc _),fun _ _ _=>(((h.alloc _).alloc _).alloc _),fun _ _ _ _=>((((h.alloc _).alloc _).alloc _).alloc _),fun _ _ _ _ _=>(((((h.alloc _).alloc _).alloc _).alloc _).alloc _),fun _ _ _ _ _ _=>((((((h.alloc _).alloc _).alloc _).alloc _).alloc _).alloc _),fun _ _ _ _ _ _ _=>(((((((h.alloc _).alloc _).alloc _).alloc _).alloc _).alloc _).alloc _),fun _ _ _ _ _ _ _ _=>((((((((h.alloc _).alloc _).alloc _).alloc _).alloc _).alloc _).alloc _).alloc _),h.drew,fun _=>(h.alloc _).drew,fun _ _=>((h.alloc _).alloc _).drew,fun _ _ _=>(((h.alloc _).alloc _).alloc _).drew,fun _ _ _ _=>((((h.alloc _).alloc _).alloc _).alloc _).drew,fun _ _ _ _ _=>(((((h.alloc _).alloc _).alloc _).alloc _).alloc _).drew,fun _ _ _ _ _ _=>((((((h.alloc _).alloc _).alloc _).alloc _).alloc _).alloc _).drew,fun _ _ _ _ _ _ _=>(((((((h.alloc _).alloc _).alloc _).alloc _).alloc _).alloc _).alloc _).drew,fun _ _ _ _ _ _ _ _=>((((((((h.alloc _).alloc _).alloc _).alloc _).alloc _).alloc _).alloc _).alloc _).drew⟩
theorem awg {kt : TypeId} (hk : P.underlying kt = some (.int .i64)) (k : Int) (m : List (Int × Value)) (w : World) :
 ∃ r,(Instr.findKey kt (.int .i64 k) (mkEs m 0)).run P w = .ok r w∧r.map (·.2)=bz5 m k:=by
 obtain ⟨r,h1,h2⟩:=bks k m 0 0
 exact ⟨r,by simp [Instr.findKey,run_underlying hk,h1],h2⟩
theorem bwd {t kt e : TypeId} {z : Value} (ht : P.underlying t = some (.map kt e)) (hk : P.underlying kt = some (.int .i64)) (hz : ∀ w, (zeroValue e).run P w = .ok z w) (h : MapAt w b m) (k : Int) :
 (Instr.lookup t (.map (some b)) (.int .i64 k) true).run P w = .ok (.tuple #[mGet m k z,.bool (mHas m k)]) w:=by
 obtain ⟨r,h1,h2⟩:=awg hk k m w
 have hck:=fun e n=>run_checkKey (P:=P) (w:=w) (k:=.int .i64 k) hk (by simp [IsKey]) e n
 have hgo:=MapKept.run_getObj_map (P:=P) h
 unfold mGet mHas
 rw [← h2]
 rcases r with _|⟨i,v⟩
 ·simp [Instr.lookup,run_underlying ht,hgo,hck,h1,hz]
 ·simp [Instr.lookup,run_underlying ht,hgo,hck,h1]
def putM (w : World) (b : Nat) (m : List (Int × Value)) (k : Int) (u : Value) : World :=
 ChangeMaps.setBlock w b (.map ((mkEs m 0).toArray.push { key:=.int .i64 k,val:=u,born:=m.length }) (m.length + 1))
theorem cz9 {t kt e : TypeId} (ht : P.underlying t = some (.map kt e)) (hk : P.underlying kt = some (.int .i64)) (h : MapAt w b m) (k : Int) (hn : bz5 m k = none) (v : Value) :
 (Instr.mapUpdate t (.map (some b)) (.int .i64 k) v).run P w = .ok () (putM w b m k v):=by
 obtain ⟨r,h1,h2⟩:=awg hk k m w
 have hck:=fun e n=>run_checkKey (P:=P) (w:=w) (k:=.int .i64 k) hk (by simp [IsKey]) e n
 have hgo:=MapKept.run_getObj_map (P:=P) h
 rw [hn] at h2
 rcases r with _|⟨i,v'⟩
 ·have hso:=fun o=>MapKept.run_setObj_map (P:=P) o h
  simp [Instr.mapUpdate,run_underlying ht,hgo,hck,h1,hso,putM,ChangeMaps.setBlock]
 ·simp at h2
theorem bwe (h : MapAt w b m) (k : Int) (u : Value) : MapAt (putM w b m k u) b (m ++ [(k, u)]) := by
 unfold MapAt putM
 rw [ChangeMaps.heap_setBlock_same h]
 simp [bx3,mkEs]
theorem cww (h : MapAt w b m) (k : Int) (u : Value) : w.grownBy (putM w b m k u) (some b) :=
 ⟨rfl,rfl,rfl,by simp [putM,ChangeMaps.setBlock],fun i _ hi=>ChangeMaps.heap_setBlock_other h _ (fun e=>hi (by rw [e]))⟩
theorem bx4 (k : Int) (u : Value) : (putM w b m k u).heap.size = w.heap.size := by simp [putM, ChangeMaps.setBlock]
theorem cwx (h : MapAt w b m) (k : Int) (u : Value) {i : Nat} (hi : i ≠ b) : (putM w b m k u).heap[i]? = w.heap[i]? := ChangeMaps.heap_setBlock_other h _ hi
theorem putM_cell (h : MapAt w b m) (k : Int) (u : Value) (p : Addr) : (putM w b m k u).cell? p = w.cell? p := by
 by_cases hp : p.block=b
 ·have h1 : (putM w b m k u).heap[p.block]? = some (.map ((mkEs m 0).toArray.push { key:=.int .i64 k,val:=u,born:=m.length }) (m.length + 1)):=by
   rw [hp];unfold putM;exact ChangeMaps.heap_setBlock_same h _
  have h2 : w.heap[p.block]? = some (.map (mkEs m 0).toArray m.length):=by rw [hp];exact h
  simp [World.cell?,h1,h2]
 ·exact World.cell?_of_block (cwx h k u hp)
theorem bz6 {w0 : World} (hb : Below w0.heap.size w0 w) (h : MapAt w b m) (hlt : w0.heap.size ≤ b) (k : Int) (u : Value) : Below w0.heap.size w0 (putM w b m k u) :=
 hb.grown (cww h k u) hb.size (fun _ e=>by injection e with e;omega)
end
end Go.Proofs.YtlnplelandimeaaGreat
namespace Go.Proofs.YtlnplelandimeaaGreat
open Go.RowKit
abbrev Fr := Int × Int × Int
abbrev Rel := Int × Int × Fr
def cmpF (f g : Fr) : Fr := ((f.1 + g.1) % 4, tX (f.1 % 4) g.2.1 g.2.2 + f.2.1, tY (f.1 % 4) g.2.1 g.2.2 + f.2.2)
def invF (f : Fr) : Fr := ((-f.1) % 4, tX ((-f.1) % 4) (-f.2.1) (-f.2.2), tY ((-f.1) % 4) (-f.2.1) (-f.2.2))
def frV (f : Fr) : Value := .agg #[.int .i64 f.1, .int .i64 f.2.1, .int .i64 f.2.2]
def encM (m : List (Int × Fr)) : List (Int × Value) := m.map fun p => (p.1, frV p.2)
def aqe : List (Int × Fr) → Int → Option Fr
 | [],_=>none
 | (k',v) :: r,k=>if k=k' then some v else aqe r k
theorem bx5 (k : Int) : ∀ m : List (Int × Fr), bz5 (encM m) k = (aqe m k).map frV
 | []=>rfl
 | (k',v) :: r=>by
   by_cases h : k=k'
   ·simp [encM,bz5,aqe,h]
   ·have:=bx5 k r
    simp only [encM] at this
    simp [encM,bz5,aqe,h,this]
theorem avj {m : List (Int × Fr)} {k : Int} {f : Fr} (h : aqe m k = some f) (z : Value) : mGet (encM m) k z = frV f ∧ mHas (encM m) k = true := by
 simp [mGet,mHas,bx5,h]
theorem avk {m : List (Int × Fr)} {k : Int} (h : aqe m k = none) (z : Value) : mGet (encM m) k z = z ∧ mHas (encM m) k = false ∧ bz5 (encM m) k = none := by
 simp [mGet,mHas,bx5,h]
theorem encM_snoc (m : List (Int × Fr)) (k : Int) (f : Fr) : encM (m ++ [(k, f)]) = encM m ++ [(k, frV f)] := by simp [encM]
def axm (m : List (Int × Fr)) (r : Rel) : List (Int × Fr) :=
 match aqe m r.1,aqe m r.2.1 with
 | some f,none=>m ++ [(r.2.1,cmpF f r.2.2)]
 | none,some g=>m ++ [(r.1,cmpF g (invF r.2.2))]
 | _,_=>m
def aq8 (rs : List Rel) (m : List (Int × Fr)) : List (Int × Fr) := rs.foldl axm m
def axf (rs : List Rel) : Nat → List (Int × Fr) → List (Int × Fr)
 | 0,m=>m
 | n + 1,m=>axf rs n (aq8 rs m)
def aj7 (rs : List Rel) (a : Int) : List (Int × Fr) := axf rs 8 [(a, (0, 0, 0))]
def RelOk (r : Rel) : Prop := 0 ≤ r.1 ∧ r.1 < 8 ∧ 0 ≤ r.2.1 ∧ r.2.1 < 8 ∧ r.1 ≠ r.2.1 ∧ 0 ≤ r.2.2.1 ∧ r.2.2.1 < 4 ∧ -1024 ≤ r.2.2.2.1 ∧ r.2.2.2.1 ≤ 1024 ∧ -1024 ≤ r.2.2.2.2 ∧ r.2.2.2.2 ≤ 1024
structure MOk (m : List (Int × Fr)) : Prop where
 nodup : (m.map (·.1)).Nodup
 keys : ∀ p∈m,0≤p.1∧p.1 < 8
 fr : ∀ p∈m,0≤p.2.1∧p.2.1 < 4∧-(1024 * ((m.length : Int) - 1))≤p.2.2.1∧p.2.2.1≤1024 * ((m.length : Int) - 1)∧-(1024 * ((m.length : Int) - 1))≤p.2.2.2∧p.2.2.2≤1024 * ((m.length : Int) - 1)
theorem axw {k : Int} {f : Fr} : ∀ {m : List (Int × Fr)}, aqe m k = some f → (k, f) ∈ m
 | [],h=>by simp [aqe] at h
 | (k',v) :: r,h=>by
   by_cases e : k=k'
   ·simp [aqe,e] at h;simp [e,h]
   ·simp [aqe,e] at h;exact List.mem_cons_of_mem _ (axw h)
theorem bkt {k : Int} : ∀ {m : List (Int × Fr)}, aqe m k = none → k ∉ m.map (·.1)
 | [],_=>by simp
 | (k',v) :: r,h=>by
   by_cases e : k=k'
   ·simp [aqe,e] at h
   ·simp [aqe,e] at h
    have:=bkt h
    simp only [List.map_cons,List.mem_cons,not_or]
    exact ⟨e,this⟩
theorem pigeon : ∀ (n : Nat) (l : List Int), l.Nodup → (∀ k ∈ l, 0 ≤ k ∧ k < n) → l.length ≤ n
 | 0,l,_,h=>by
   cases l with
   | nil=>simp
   | cons k r=>have:=h k (by simp);omega
 | n + 1,l,hd,h=>by
   have h1 : (l.erase (n : Int)).length≤n:=pigeon n _ (hd.erase _) (fun k hk=>by
    have hk':=(hd.mem_erase_iff).1 hk
    have:=h k hk'.2
    have:=hk'.1
    omega)
   have h2:=List.length_erase (a:=(n : Int)) (l:=l)
   split at h2<;>omega
theorem MOk.len {m : List (Int × Fr)} (h : MOk m) : m.length ≤ 8 := by
 have:=pigeon 8 (m.map (·.1)) h.nodup (fun k hk=>by
  obtain ⟨p,hp,rfl⟩:=List.mem_map.1 hk
  exact h.keys p hp)
 simpa using this
theorem MOk.start (a : Int) (h0 : 0 ≤ a) (h1 : a < 8) : MOk [(a, (0, 0, 0))] :=
 ⟨by simp,by simp;omega,by simp⟩
theorem MOk.snoc {m : List (Int × Fr)} (h : MOk m) {k : Int} {f : Fr} (hk : aqe m k = none) (h0 : 0 ≤ k) (h1 : k < 8) (hq0 : 0 ≤ f.1) (hq1 : f.1 < 4)
 (hf : -(1024 * (m.length : Int))≤f.2.1∧f.2.1≤1024 * (m.length : Int)∧-(1024 * (m.length : Int))≤f.2.2∧f.2.2≤1024 * (m.length : Int)) : MOk (m ++ [(k,f)]):=by
 have hn:=bkt hk
 refine ⟨?_,?_,?_⟩
 ·rw [List.map_append,List.nodup_append]
  refine ⟨h.nodup,by simp,?_⟩
  intro a ha b hb
  simp at hb
  subst hb
  rintro rfl
  exact hn ha
 ·intro p hp
  rcases List.mem_append.1 hp with hp|hp
  ·exact h.keys p hp
  ·simp at hp;subst hp;exact ⟨h0,h1⟩
 ·intro p hp
  rw [List.length_append]
  simp only [List.length_cons,List.length_nil]
  rcases List.mem_append.1 hp with hp|hp
  ·have:=h.fr p hp;omega
  ·simp at hp;subst hp;simp only;omega
theorem cjj (f g : Fr) (A B : Int) (h1 : -A ≤ f.2.1 ∧ f.2.1 ≤ A ∧ -A ≤ f.2.2 ∧ f.2.2 ≤ A) (h2 : -B ≤ g.2.1 ∧ g.2.1 ≤ B ∧ -B ≤ g.2.2 ∧ g.2.2 ≤ B) :
 0≤(cmpF f g).1∧(cmpF f g).1 < 4∧-(A + B)≤(cmpF f g).2.1∧(cmpF f g).2.1≤A + B∧-(A + B)≤(cmpF f g).2.2∧(cmpF f g).2.2≤A + B:=by
 have b1:=cx7 (f.1 % 4) g.2.1 g.2.2 B h2.1 h2.2.1 h2.2.2.1 h2.2.2.2
 have b2:=cx8 (f.1 % 4) g.2.1 g.2.2 B h2.1 h2.2.1 h2.2.2.1 h2.2.2.2
 unfold cmpF
 simp only
 omega
theorem bwf (f : Fr) (A : Int) (h1 : -A ≤ f.2.1 ∧ f.2.1 ≤ A ∧ -A ≤ f.2.2 ∧ f.2.2 ≤ A) :
 0≤(invF f).1∧(invF f).1 < 4∧-A≤(invF f).2.1∧(invF f).2.1≤A∧-A≤(invF f).2.2∧(invF f).2.2≤A:=by
 have b1:=cx7 ((-f.1) % 4) (-f.2.1) (-f.2.2) A (by omega) (by omega) (by omega) (by omega)
 have b2:=cx8 ((-f.1) % 4) (-f.2.1) (-f.2.2) A (by omega) (by omega) (by omega) (by omega)
 unfold invF
 simp only
 omega
theorem ck7 {m : List (Int × Fr)} {r : Rel} (h : MOk m) (hr : RelOk r) : MOk (axm m r) := by
 obtain ⟨a0,a1,b0,b1,_,q0,q1,x0,x1,y0,y1⟩:=hr
 unfold axm
 cases ha : aqe m r.1 with
 | some f =>
   cases hb : aqe m r.2.1 with
   | some g=>exact h
   | none =>
     have hf:=h.fr _ (axw ha)
     have:=cjj f r.2.2 (1024 * ((m.length : Int) - 1)) 1024 hf.2.2 ⟨x0,x1,y0,y1⟩
     exact h.snoc hb b0 b1 this.1 this.2.1 (by omega)
 | none =>
   cases hb : aqe m r.2.1 with
   | some g =>
     have hf:=h.fr _ (axw hb)
     have hi:=bwf r.2.2 1024 ⟨x0,x1,y0,y1⟩
     have:=cjj g (invF r.2.2) (1024 * ((m.length : Int) - 1)) 1024 hf.2.2 hi.2.2
     exact h.snoc ha a0 a1 this.1 this.2.1 (by omega)
   | none=>exact h
theorem cqa (m : List (Int × Fr)) (r : Rel) : axm m r = m ∨ (axm m r).length = m.length + 1 := by
 unfold axm
 cases aqe m r.1<;>cases aqe m r.2.1<;>simp
theorem bqz : ∀ {rs : List Rel} {m : List (Int × Fr)}, MOk m → (∀ r ∈ rs, RelOk r) → MOk (aq8 rs m)
 | [],_,h,_=>h
 | r :: rs,m,h,hr=>bqz (rs:=rs) (ck7 h (hr r (by simp))) (fun x hx=>hr x (by simp [hx]))
theorem avl : ∀ (rs : List Rel) (m : List (Int × Fr)), m.length ≤ (aq8 rs m).length ∧ ((aq8 rs m).length = m.length → aq8 rs m = m)
 | [],m=>⟨Nat.le_refl _,fun _=>rfl⟩
 | r :: rs,m=>by
   have ih:=avl rs (axm m r)
   have e : aq8 (r :: rs) m=aq8 rs (axm m r):=rfl
   rw [e]
   rcases cqa m r with h|h
   ·rw [h] at ih ⊢;exact ih
   ·exact ⟨by omega,fun hh=>by omega⟩
theorem bku (rs : List Rel) (r : Rel) (m : List (Int × Fr)) : aq8 (rs ++ [r]) m = axm (aq8 rs m) r := by simp [aq8]
theorem cqb {rs : List Rel} {m : List (Int × Fr)} (h : aq8 rs m = m) : ∀ n, axf rs n m = m
 | 0=>rfl
 | n + 1=>by rw [axf,h,cqb h n]
theorem bx6 (rs : List Rel) : ∀ (i j : Nat) (m : List (Int × Fr)), axf rs (i + j) m = axf rs j (axf rs i m)
 | 0,j,m=>by simp [axf]
 | i + 1,j,m=>by rw [show i + 1 + j=(i + j) + 1 by omega,axf,bx6 rs i j,axf]
theorem fromL_of {rs : List Rel} {a : Int} {i : Nat} (hi : i ≤ 8) (h : aq8 rs (axf rs i [(a, (0, 0, 0))]) = axf rs i [(a, (0, 0, 0))]) : axf rs i [(a, (0, 0, 0))] = aj7 rs a := by
 unfold aj7
 rw [show 8=i + (8 - i) by omega,bx6,cqb h]
theorem bz7 (rs : List Rel) (i : Nat) (m : List (Int × Fr)) : axf rs (i + 1) m = aq8 rs (axf rs i m) := by
 rw [bx6 rs i 1];rfl
end Go.Proofs.YtlnplelandimeaaGreat
namespace Go.Proofs.YtlnplelandimeaaGreat
open Go.RowKit
theorem zeroFr (w : World) : (zeroValue 37).run Tryz.prog w = .ok (.agg #[.int .i64 0, .int .i64 0, .int .i64 0]) w := by kernel_rfl
theorem cqc (b : Nat) (M : List (Int × Value)) :
 (∀ (W : World) (k : Int),MapAt W b M→(Instr.lookup 105 (.map (some b)) (.int .i64 k) true).run Tryz.prog W = .ok (.tuple #[mGet M k (.agg #[.int .i64 0,.int .i64 0,.int .i64 0]),.bool (mHas M k)]) W) ∧
 (∀ (W : World) (k : Int) (u : Value),MapAt W b M→bz5 M k=none→(Instr.mapUpdate 105 (.map (some b)) (.int .i64 k) u).run Tryz.prog W = .ok () (putM W b M k u)) :=
 ⟨fun _ k h=>bwd Tryz.underlying105 Tryz.underlying3 zeroFr h k,fun _ k u h hn=>cz9 Tryz.underlying105 Tryz.underlying3 h k hn u⟩
def RelsAt (w : World) (A : Option Addr) (rs : List Rel) : Prop :=
 rs=[]∨∃ g,A=some ⟨g,0,none⟩∧∀ (i : Nat) (r : Rel),rs[i]? = some r →
  w.cell? ⟨g,i * 5,none⟩ = some (.int .i64 r.1)∧w.cell? ⟨g,i * 5 + 1,none⟩ = some (.int .i64 r.2.1)∧w.cell? ⟨g,i * 5 + 2,none⟩ = some (.int .i64 r.2.2.1) ∧
  w.cell? ⟨g,i * 5 + 3,none⟩ = some (.int .i64 r.2.2.2.1)∧w.cell? ⟨g,i * 5 + 4,none⟩ = some (.int .i64 r.2.2.2.2)
theorem Below.cell0 {B : Nat} {w w' : World} (h : Below B w w') {b o : Nat} {v : Value} (hB : B = w.heap.size) (hc : w.cell? ⟨b, o, none⟩ = some v) : w'.cell? ⟨b, o, none⟩ = some v := by
 subst hB
 exact (h.cell (p:=⟨b,o,none⟩) (World.block_lt_of_cell? w _ hc)).trans hc
def FromI (rs : List Rel) (a : Int) (w : World) (k : Nat) (fd : Value) (wr : World) : Prop :=
 ∃ (i : Nat) (b : Bool),fd = .bool b∧i + 1≤(axf rs i [(a,(0,0,0))]).length∧(b=false→aq8 rs (axf rs i [(a,(0,0,0))])=axf rs i [(a,(0,0,0))]) ∧
  MapAt wr w.heap.size (encM (axf rs i [(a,(0,0,0))]))∧Below w.heap.size w wr∧w.heap.size < wr.heap.size∧MOk (axf rs i [(a,(0,0,0))])∧k=(if b then 10 - i else 0)
def FromJ (rs : List Rel) (m : List (Int × Fr)) (w : World) (k : Nat) (fd ix : Value) (wr : World) : Prop :=
 ∃ (j : Nat) (b : Bool),j≤rs.length∧k=rs.length - j∧ix = .int .i64 j∧fd = .bool b∧(b=true↔m.length < (aq8 (rs.take j) m).length) ∧
  MapAt wr w.heap.size (encM (aq8 (rs.take j) m))∧Below w.heap.size w wr∧w.heap.size < wr.heap.size∧MOk (aq8 (rs.take j) m)
theorem ax8 {rs : List Rel} {j : Nat} {r : Rel} (h : rs[j]? = some r) (m : List (Int × Fr)) : aq8 (rs.take (j + 1)) m = axm (aq8 (rs.take j) m) r := by
 obtain ⟨hj,rfl⟩:=List.getElem?_eq_some_iff.1 h
 rw [List.take_succ_eq_append_getElem hj,bku]
theorem FromJ.skip {rs : List Rel} {m : List (Int × Fr)} {w wr : World} {j : Nat} {b : Bool} {r : Rel} (hj : rs[j]? = some r) (hs : axm (aq8 (rs.take j) m) r = aq8 (rs.take j) m)
 (hb : b=true↔m.length < (aq8 (rs.take j) m).length) (hm : MapAt wr w.heap.size (encM (aq8 (rs.take j) m))) (hl : Below w.heap.size w wr) (hz : w.heap.size < wr.heap.size) (ho : MOk (aq8 (rs.take j) m)) :
 FromJ rs m w (rs.length - (j + 1)) (.bool b) (.int .i64 ((j : Int) + 1)) wr:=by
 have hlt : j < rs.length:=(List.getElem?_eq_some_iff.1 hj).1
 refine ⟨j + 1,b,by omega,rfl,by simp,rfl,?_,?_,hl,hz,?_⟩<;>rw [ax8 hj,hs]<;>assumption
theorem FromJ.grow {rs : List Rel} {m : List (Int × Fr)} {w wr : World} {j : Nat} {r : Rel} {k : Int} {f : Fr} (hj : rs[j]? = some r) (hr : RelOk r) (hs : axm (aq8 (rs.take j) m) r = aq8 (rs.take j) m ++ [(k, f)])
 (hm : MapAt wr w.heap.size (encM (aq8 (rs.take j) m) ++ [(k,frV f)])) (hl : Below w.heap.size w wr) (hz : w.heap.size < wr.heap.size) (ho : MOk (aq8 (rs.take j) m)) :
 FromJ rs m w (rs.length - (j + 1)) (.bool true) (.int .i64 ((j : Int) + 1)) wr:=by
 have hlt : j < rs.length:=(List.getElem?_eq_some_iff.1 hj).1
 have h1:=(avl (rs.take j) m).1
 have h2:=ck7 ho hr
 refine ⟨j + 1,true,by omega,rfl,by simp,rfl,?_,?_,hl,hz,?_⟩
 ·rw [ax8 hj,hs,List.length_append];simp;omega
 ·rw [ax8 hj,hs,encM_snoc];exact hm
 ·rw [ax8 hj];exact h2
set_option maxRecDepth 100000 in
set_option maxHeartbeats 1000000 in
theorem from_any (rb : Nat) (A : Option Addr) (c : Nat) (rs : List Rel) (a : Int) (w : World) (hp : w.cell? ⟨rb, 0, none⟩ = some (.slice A rs.length c)) (hr : RelsAt w A rs) (hok : ∀ r ∈ rs, RelOk r)
 (hn : rs.length≤100) (ha0 : 0≤a) (ha1 : a < 8) :
 Calls Tryz.prog 60 #[.pointer (some ⟨rb,0,none⟩),.int .i64 a] w fun e w'=>e = .returned (.map (some w.heap.size))∧MapAt w' w.heap.size (encM (aj7 rs a))∧Below w.heap.size w w':=by
 have hmm:=@run_makeMap Tryz.prog
 have hst:=MOk.start a ha0 ha1
 have hrb:=World.block_lt_of_cell? w _ hp
 have HR:=Lib.hid hr
 have HOK:=Lib.hid hok
 have HP:=Lib.hid hp
 clear hr hok hp
 go_enter Tryz.func60,Tryz.ntmps60
 have hmade:=MapAt.made w
 have hup:=cz9 (P:=Tryz.prog) Tryz.underlying105 Tryz.underlying3 hmade a rfl (.agg #[.int .i64 0,.int .i64 0,.int .i64 0])
 go_wp2
 clear hmm hup
 have hm1:=bwe hmade a (.agg #[.int .i64 0,.int .i64 0,.int .i64 0])
 have hb1:=bz6 (aqa (aqx w) _) hmade (Nat.le_refl _) a (.agg #[.int .i64 0,.int .i64 0,.int .i64 0])
 have hz1 : w.heap.size < (putM (w.alloc (.map #[] 0)) w.heap.size [] a (.agg #[.int .i64 0,.int .i64 0,.int .i64 0])).heap.size:=by rw [bx4];simp
 go_loopg [6] 10 (fun k fd wr=>FromI rs a w k fd wr)
 case atStart=>exact ⟨0,true,rfl,by simp [axf],by simp,hm1,hb1,hz1,hst,by simp⟩
 case round =>
  clear hm1 hb1 hz1 hmade
  obtain ⟨i,b,rfl,hi,hfix,hm,hbl,hsz,hmo,hk⟩:=hrel
  have hc0:=Below.cell0 hbl rfl HP.out
  cases b
  ·have HF:=Lib.hid (fromL_of (by have:=hmo.len;omega) (hfix rfl))
   clear hfix hk
   go_wp2
   go_ret
   refine ⟨rfl,?_,hbl⟩
   rw [← HF.out];exact hm
  ·clear hfix
   have HK:=Lib.hid (show gk=10 - i by simpa using hk)
   clear hk
   generalize hM : axf rs i [(a,(0,0,0))]=m at *
   have HM:=Lib.hid hM
   clear hM
   go_wp2
   go_loopg [6,23] rs.length (fun k fd ix wr=>FromJ rs m w k fd ix wr)
   case atStart=>exact ⟨0,false,by omega,by omega,by simp,rfl,by simp [aq8],hm,hbl,hsz,hmo⟩
   case round =>
    clear hm hbl hsz hmo
    obtain ⟨j,b,hj,hgk,rfl,rfl,hbt,hm,hbl,hsz,hmo⟩:=hrel
    by_cases hlt : j < rs.length
    ·obtain ⟨r,hr⟩ : ∃ r,rs[j]? = some r:=⟨_,List.getElem?_eq_getElem hlt⟩
     have hro:=HOK.out r (List.mem_of_getElem? hr)
     rcases HR.out with hnil|⟨g,hA,hcs⟩
     ·rw [hnil] at hlt;simp at hlt
     ·obtain ⟨d0,d1,d2,d3,d4⟩:=hcs j r hr
      have c0:=Below.cell0 hbl rfl d0
      have c1:=Below.cell0 hbl rfl d1
      have c2:=Below.cell0 hbl rfl d2
      have c3:=Below.cell0 hbl rfl d3
      have c4:=Below.cell0 hbl rfl d4
      have hg:=World.block_lt_of_cell? _ _ c0
      clear d0 d1 d2 d3 d4 hcs
      subst hA
      obtain ⟨ra,rbb,rq,rx,ry⟩:=r
      simp only at c0 c1 c2 c3 c4
      generalize hM' : aq8 (rs.take j) m=m' at *
      have HM':=Lib.hid hM';clear hM'
      have HJ:=Lib.hid hr;clear hr
      have HB':=Lib.hid hbt;clear hbt
      have hml:=hmo.len
      obtain ⟨R1,R2⟩:=cqc w.heap.size (encM m')
      have R3:=hm.many
      have hpc:=fun W k u p (h : MapAt W w.heap.size (encM m'))=>putM_cell h k u p
      obtain ⟨_,_,_,_,_,q0,q1,x0,x1,y0,y1⟩:=id hro
      simp only at q0 q1 x0 x1 y0 y1
      have hib:=bwf (rq,rx,ry) 1024 (by simp only;omega)
      simp only [invF] at hib
      obtain ⟨i0,i1,i2,i3,i4,i5⟩:=hib
      cases ha : aqe m' ra with
      | none =>
        cases hb : aqe m' rbb with
        | none =>
          obtain ⟨A1,A2,A3⟩:=avk ha (.agg #[.int .i64 0,.int .i64 0,.int .i64 0])
          obtain ⟨B1,B2,B3⟩:=avk hb (.agg #[.int .i64 0,.int .i64 0,.int .i64 0])
          have HA:=Lib.hid ha;clear ha
          have HB:=Lib.hid hb;clear hb
          clear A3 B3
          go_wp2
          go_roundg (rs.length - (j + 1))
          case measure=>omega
          case rel =>
           have:=HM'.out
           subst this
           exact FromJ.skip HJ.out (by simp [axm,HA.out,HB.out]) HB'.out (((hm.alloc _).alloc _).alloc _) (aqa (aqa (aqa hbl _) _) _) (by simp;omega) hmo
        | some gg =>
          obtain ⟨gq,gx,gy⟩:=gg
          obtain ⟨A1,A2,A3⟩:=avk ha (.agg #[.int .i64 0,.int .i64 0,.int .i64 0])
          obtain ⟨B1,B2⟩:=avj hb (.agg #[.int .i64 0,.int .i64 0,.int .i64 0])
          simp only [frV] at B1
          have HA:=Lib.hid ha;clear ha
          have HB:=Lib.hid hb;clear hb
          have hfb:=hmo.fr _ (axw HB.out)
          simp only at hfb
          obtain ⟨h1,h2,h3,h4,h5,h6⟩:=hfb
          go_wp2
          go_region_held3 (fun w'=>w'.cell? ⟨wr.heap.size,0,none⟩ = some (.int .i64 ra)∧w'.cell? ⟨wr.heap.size,2,none⟩ = some (.int .i64 rq)∧w'.cell? ⟨wr.heap.size,3,none⟩ = some (.int .i64 rx)∧w'.cell? ⟨wr.heap.size,4,none⟩ = some (.int .i64 ry) ∧
           w'.cell? ⟨wr.heap.size + 2,0,none⟩ = some (.int .i64 gq)∧w'.cell? ⟨wr.heap.size + 2,1,none⟩ = some (.int .i64 gx)∧w'.cell? ⟨wr.heap.size + 2,2,none⟩ = some (.int .i64 gy)) (simp [go_sem,World.cell?_alloc_past,R3,hpc])
           (first
            | (go_at_call 104;refine (bx2 _ _ _ _ (by omega) (by omega) (by omega) (by omega)).mono ?_;rintro e w' ⟨rfl,rfl⟩)
            | (go_at_call 103;refine (bx1 _ _ _ _ _ _ _ (by omega) (by omega) (by omega) (by omega) (by omega) (by omega) (by omega) (by omega)).mono ?_;rintro e w' ⟨rfl,rfl⟩))
          go_wp2
          go_roundg (rs.length - (j + 1))
          case measure=>omega
          case rel =>
           have:=HM'.out
           subst this
           refine FromJ.grow (k:=ra) (f:=cmpF (gq,gx,gy) (invF (rq,rx,ry))) HJ.out hro (by simp [axm,HA.out,HB.out]) ?_ ?_ ?_ hmo
           ·simp only [frV,cmpF,invF]
            rw [show (gq + -rq % 4) % 4=(gq + -rq) % 4 by omega]
            refine bwe ?_ _ _
            repeat (first|exact hm|refine MapAt.drew ?_|refine MapAt.alloc ?_ _)
           ·refine bz6 ?_ ?_ (Nat.le_refl _) _ _
            ·repeat (first|with_reducible assumption|with_reducible exact aqx _|with_reducible refine aqa ?_ _|with_reducible refine aq6 ?_|with_reducible refine aqq _ ?_|refine axv ?_ (by simp;try omega) _|refine aq7 (by with_reducible assumption) ?_)
            ·repeat (first|exact hm|refine MapAt.drew ?_|refine MapAt.alloc ?_ _)
           ·rw [bx4];simp;omega
      | some ff =>
        obtain ⟨fq,fx,fy⟩:=ff
        cases hb : aqe m' rbb with
        | none =>
          obtain ⟨A1,A2⟩:=avj ha (.agg #[.int .i64 0,.int .i64 0,.int .i64 0])
          simp only [frV] at A1
          obtain ⟨B1,B2,B3⟩:=avk hb (.agg #[.int .i64 0,.int .i64 0,.int .i64 0])
          have HA:=Lib.hid ha;clear ha
          have HB:=Lib.hid hb;clear hb
          have hfb:=hmo.fr _ (axw HA.out)
          simp only at hfb
          obtain ⟨h1,h2,h3,h4,h5,h6⟩:=hfb
          go_wp2
          go_region_held3 (fun w'=>w'.cell? ⟨wr.heap.size,1,none⟩ = some (.int .i64 rbb)∧w'.cell? ⟨wr.heap.size,2,none⟩ = some (.int .i64 rq)∧w'.cell? ⟨wr.heap.size,3,none⟩ = some (.int .i64 rx)∧w'.cell? ⟨wr.heap.size,4,none⟩ = some (.int .i64 ry) ∧
           w'.cell? ⟨wr.heap.size + 1,0,none⟩ = some (.int .i64 fq)∧w'.cell? ⟨wr.heap.size + 1,1,none⟩ = some (.int .i64 fx)∧w'.cell? ⟨wr.heap.size + 1,2,none⟩ = some (.int .i64 fy)) (simp [go_sem,World.cell?_alloc_past,R3,hpc])
           (first
            | (go_at_call 103;refine (bx1 _ _ _ _ _ _ _ (by omega) (by omega) (by omega) (by omega) (by omega) (by omega) (by omega) (by omega)).mono ?_;rintro e w' ⟨rfl,rfl⟩))
          go_wp2
          go_roundg (rs.length - (j + 1))
          case measure=>omega
          case rel =>
           have:=HM'.out
           subst this
           refine FromJ.grow (k:=rbb) (f:=cmpF (fq,fx,fy) (rq,rx,ry)) HJ.out hro (by simp [axm,HA.out,HB.out]) ?_ ?_ ?_ hmo
           ·simp only [frV,cmpF]
            refine bwe ?_ _ _
            repeat (first|exact hm|refine MapAt.drew ?_|refine MapAt.alloc ?_ _)
           ·refine bz6 ?_ ?_ (Nat.le_refl _) _ _
            ·repeat (first|with_reducible assumption|with_reducible exact aqx _|with_reducible refine aqa ?_ _|with_reducible refine aq6 ?_|with_reducible refine aqq _ ?_|refine axv ?_ (by simp;try omega) _|refine aq7 (by with_reducible assumption) ?_)
            ·repeat (first|exact hm|refine MapAt.drew ?_|refine MapAt.alloc ?_ _)
           ·rw [bx4];simp;omega
        | some gg =>
          obtain ⟨gq,gx,gy⟩:=gg
          obtain ⟨A1,A2⟩:=avj ha (.agg #[.int .i64 0,.int .i64 0,.int .i64 0])
          simp only [frV] at A1
          obtain ⟨B1,B2⟩:=avj hb (.agg #[.int .i64 0,.int .i64 0,.int .i64 0])
          simp only [frV] at B1
          have HA:=Lib.hid ha;clear ha
          have HB:=Lib.hid hb;clear hb
          go_wp2
          go_roundg (rs.length - (j + 1))
          case measure=>omega
          case rel =>
           have:=HM'.out
           subst this
           exact FromJ.skip HJ.out (by simp [axm,HA.out,HB.out]) HB'.out (((hm.alloc _).alloc _).alloc _) (aqa (aqa (aqa hbl _) _) _) (by simp;omega) hmo
    ·obtain rfl : j=rs.length:=by omega
     have ht : rs.take rs.length=rs:=List.take_length
     rw [ht] at hbt hm hmo
     clear ht
     have hl:=hmo.len
     have hpl:=avl rs m
     have hl1:=hpl.1
     have HI:=Lib.hid (show axf rs (i + 1) [(a,(0,0,0))]=aq8 rs m by rw [bz7,HM.out])
     cases b
     ·have HP':=Lib.hid (hpl.2 (by have:=hpl.1;simp at hbt;omega))
      clear hbt hpl
      go_wp2
      go_roundg 0
      case measure=>have:=HK.out;omega
      case rel =>
       refine ⟨i,false,rfl,?_,fun _=>?_,?_,hbl,hsz,?_,by simp⟩<;>rw [HM.out]
       ·exact hi
       ·exact HP'.out
       ·rw [HP'.out] at hm;exact hm
       ·rw [HP'.out] at hmo;exact hmo
     ·have hlt2 : m.length < (aq8 rs m).length:=hbt.1 rfl
      clear hbt hpl
      go_wp2
      go_roundg (10 - (i + 1))
      case measure=>have:=HK.out;omega
      case rel =>
       refine ⟨i + 1,true,rfl,?_,(fun h=>by cases h),?_,hbl,hsz,?_,by simp⟩<;>rw [HI.out]
       ·omega
       ·exact hm
       ·exact hmo
end Go.Proofs.YtlnplelandimeaaGreat
namespace Go.Proofs.YtlnplelandimeaaGreat
open Go.RowKit
def rbB (n : Int) : Bool := decide (0 ≤ n ∧ n < 8)
theorem rbB_of {n : Int} (h : rbB n = true) : 0 ≤ n ∧ n < 8 := by simpa [rbB] using h
set_option maxHeartbeats 400000 in
theorem axc (n : Int) (w : World) : Calls Tryz.prog 59 #[.int .i64 n] w fun e w' => e = .returned (.bool (rbB n)) ∧ w = w' := by
 by_cases h1 : 0≤n
 ·by_cases h2 : n < 8
  all_goals
   have HS:=Lib.hid (show rbB n=decide (n < 8) by simp [rbB,h1])
   go_enter Tryz.func59,Tryz.ntmps59
   go_wp2
   go_ret
   exact ⟨by simp [HS.out];omega,rfl⟩
 ·have HS:=Lib.hid (show rbB n=false by simp [rbB,h1])
  go_enter Tryz.func59,Tryz.ntmps59
  go_wp2
  go_ret
  exact ⟨by simp [HS.out],rfl⟩
def ak2 (r : Rel) : List Value := [.int .i64 r.1, .int .i64 r.2.1, .int .i64 r.2.2.1, .int .i64 r.2.2.2.1, .int .i64 r.2.2.2.2]
def axp (rs : List Rel) : List Value := rs.flatMap ak2
theorem aw8 : ∀ (rs : List Rel) (i : Nat) (r : Rel) (j : Nat), rs[i]? = some r → j < 5 → (axp rs)[i * 5 + j]? = (ak2 r)[j]?
 | [],i,r,j,h,_=>by simp at h
 | r' :: rs,0,r,j,h,hj=>by
   simp at h;subst h
   simp only [axp,List.flatMap_cons,Nat.zero_mul,Nat.zero_add]
   rw [List.getElem?_append_left (by simp [ak2];omega)]
 | r' :: rs,i + 1,r,j,h,hj=>by
   have ih:=aw8 rs i r j (by simpa using h) hj
   simp only [axp,List.flatMap_cons] at ih ⊢
   rw [List.getElem?_append_right (by simp [ak2];omega),← ih]
   congr 1
   simp [ak2]
   omega
theorem bkb (rs : List Rel) (r : Rel) : axp (rs ++ [r]) = axp rs ++ ak2 r := by simp [axp]
def RObj (w : World) (rb : Nat) (ob : Option Nat) (rs : List Rel) : Prop :=
 ∃ v : Value,v.ownBlock=ob∧w.heap[rb]? = some (.cells #[v] 143)∧w.ownsRow 0 39 5 v rs.length (axp rs)∧ob ≠ some rb∧(∀ r∈rs,RelOk r)
theorem RObj.lt {w : World} {rb : Nat} {ob : Option Nat} {rs : List Rel} (h : RObj w rb ob rs) : rb < w.heap.size ∧ ∀ g, ob = some g → g < w.heap.size := by
 obtain ⟨v,hv,hh,ho,_,_⟩:=h
 refine ⟨?_,fun g hg=>(ho.lt g (hv.trans hg)).2⟩
 rcases Nat.lt_or_ge rb w.heap.size with hlt|hge
 ·exact hlt
 ·rw [Array.getElem?_eq_none hge] at hh;cases hh
theorem RObj.keep {w w' : World} {rb : Nat} {ob : Option Nat} {rs : List Rel} (h : RObj w rb ob rs) (h1 : w'.heap[rb]? = w.heap[rb]?) (h2 : ∀ g, ob = some g → w'.heap[g]? = w.heap[g]?) : RObj w' rb ob rs := by
 obtain ⟨v,hv,hh,ho,hne,hok⟩:=h
 refine ⟨v,hv,h1.trans hh,⟨ho.1,?_⟩,hne,hok⟩
 rcases ho.2 with hn|⟨g,cap,cur,rfl,hb,hgg,rest⟩
 ·exact .inl hn
 ·exact .inr ⟨g,cap,cur,rfl,hb,(h2 g (by rw [← hv];rfl)).trans hgg,rest⟩
theorem RObj.below {w w' : World} {rb : Nat} {ob : Option Nat} {rs : List Rel} (h : RObj w rb ob rs) (hb : Below w.heap.size w w') : RObj w' rb ob rs :=
 h.keep (hb.block _ h.lt.1) (fun g hg=>hb.block _ (h.lt.2 g hg))
theorem RObj.alloc {w : World} {rb : Nat} {ob : Option Nat} {rs : List Rel} (h : RObj w rb ob rs) (o : Obj) : RObj (w.alloc o) rb ob rs :=
 h.keep (Below.heap_alloc _ _ _ h.lt.1) (fun g hg=>Below.heap_alloc _ _ _ (h.lt.2 g hg))
theorem RObj.read {w : World} {rb : Nat} {ob : Option Nat} {rs : List Rel} (h : RObj w rb ob rs) : ∃ A c, w.cell? ⟨rb, 0, none⟩ = some (.slice A rs.length c) ∧ RelsAt w A rs := by
 obtain ⟨v,hv,hh,ho,_,hok⟩:=h
 have hc:=cell_of_row w rb 0 #[v] 143 (0,0) hh
 rcases ho.2 with ⟨rfl,hn⟩|⟨g,cap,cur,rfl,hb,hgg,rest⟩
 ·have : rs=[]:=List.eq_nil_of_length_eq_zero hn
  subst this
  exact ⟨none,0,by simpa using hc,.inl rfl⟩
 ·refine ⟨_,cap,by simpa using hc,.inr ⟨g,rfl,fun i r hi=>?_⟩⟩
  have hlt : i < rs.length:=(List.getElem?_eq_some_iff.1 hi).1
  have hat:=fun (j : Nat) (hj : j < 5)=>(ho.cellAt (i * 5 + j) (by omega)).trans (aw8 rs i r j hi hj)
  exact ⟨hat 0 (by omega),hat 1 (by omega),hat 2 (by omega),hat 3 (by omega),hat 4 (by omega)⟩
set_option maxHeartbeats 400000 in
theorem New_any (w : World) : Calls Tryz.prog 57 #[] w fun e w' => e = .returned (.pointer (some ⟨w.heap.size, 0, none⟩)) ∧ w.alloc (.cells #[.slice none 0 0] 143) = w' := by
 go_enter Tryz.func57,Tryz.ntmps57
 go_wp2
 go_ret
 exact ⟨rfl,rfl⟩
theorem RObj.new (w : World) : RObj (w.alloc (.cells #[.slice none 0 0] 143)) w.heap.size none [] :=
 ⟨.slice none 0 0,rfl,heap_alloc_new w _,⟨by simp [axp],.inl ⟨rfl,rfl⟩⟩,by simp,by simp⟩
def btF (rs : List Rel) (a b : Int) : Option Fr := if rbB a && rbB b then aqe (aj7 rs a) b else none
def btV : Option Fr → Value
 | some f=>.tuple #[frV f,.bool true]
 | none=>.tuple #[.agg #[.int .i64 0,.int .i64 0,.int .i64 0],.bool false]
set_option maxHeartbeats 1000000 in
theorem ajh (rb : Nat) (ob : Option Nat) (rs : List Rel) (a b : Int) (w : World) (hr : RObj w rb ob rs) (hn : rs.length ≤ 100) :
 Calls Tryz.prog 22 #[.pointer (some ⟨rb,0,none⟩),.int .i64 a,.int .i64 b] w fun e w'=>e = .returned (btV (btF rs a b))∧Below w.heap.size w w':=by
 cases ha : rbB a
 ·have HS:=Lib.hid (show btF rs a b=none by simp [btF,ha])
  go_enter Tryz.func22,Tryz.ntmps22
  go_wp2_with (go_at_call 59;refine (axc _ _).mono ?_;rintro e w1 ⟨rfl,rfl⟩)
  refine bodyPost_ret (v:=.tuple #[.agg #[.int .i64 0,.int .i64 0,.int .i64 0],.bool false]) (by simp [results,Tryz.results22,go_sem]) rfl ⟨by rw [HS.out];rfl,?_⟩
  repeat (first|with_reducible assumption|with_reducible exact aqx _|with_reducible refine aqa ?_ _|with_reducible refine aq6 ?_|with_reducible refine aqq _ ?_|refine axv ?_ (by simp;try omega) _|refine aq7 (by with_reducible assumption) ?_)
 ·cases hb : rbB b
  ·have HS:=Lib.hid (show btF rs a b=none by simp [btF,hb])
   go_enter Tryz.func22,Tryz.ntmps22
   go_wp2_with (go_at_call 59;refine (axc _ _).mono ?_;rintro e w1 ⟨rfl,rfl⟩)
   refine bodyPost_ret (v:=.tuple #[.agg #[.int .i64 0,.int .i64 0,.int .i64 0],.bool false]) (by simp [results,Tryz.results22,go_sem]) rfl ⟨by rw [HS.out];rfl,?_⟩
   repeat (first|with_reducible assumption|with_reducible exact aqx _|with_reducible refine aqa ?_ _|with_reducible refine aq6 ?_|with_reducible refine aqq _ ?_|refine axv ?_ (by simp;try omega) _|refine aq7 (by with_reducible assumption) ?_)
  ·have HS:=Lib.hid (show btF rs a b=aqe (aj7 rs a) b by simp [btF,ha,hb])
   have hok:=Lib.hid (show ∀ r∈rs,RelOk r from hr.choose_spec.2.2.2.2)
   obtain ⟨a0,a1⟩:=rbB_of ha
   have HR:=Lib.hid hr
   clear hr
   go_enter Tryz.func22,Tryz.ntmps22
   go_wp2_with (go_at_call 59;refine (axc _ _).mono ?_;rintro e w1 ⟨rfl,rfl⟩)
   obtain ⟨A,c,hc,hra⟩:=(HR.out.alloc (.cells #[.int .i64 0,.int .i64 0,.int .i64 0] 37)).read
   refine (from_any rb A c rs a _ hc hra hok.out hn a0 a1).mono ?_
   clear hc hra
   rintro e w1 ⟨rfl,hm,hbl⟩
   have hs:=hbl.size
   simp at hs
   obtain ⟨hcc,hff⟩:=cwm hbl
   have s0 : w.heap.size < w1.heap.size:=by omega
   obtain ⟨R1,R2⟩:=cqc ((w.alloc (.cells #[.int .i64 0,.int .i64 0,.int .i64 0] 37)).heap.size) (encM (aj7 rs a))
   clear R2
   simp only [World.size_alloc] at R1 hm
   cases hl : aqe (aj7 rs a) b with
   | none =>
     obtain ⟨A1,A2,_⟩:=avk hl (.agg #[.int .i64 0,.int .i64 0,.int .i64 0])
     go_wp2
     refine bodyPost_ret (v:=.tuple #[.agg #[.int .i64 0,.int .i64 0,.int .i64 0],.bool false]) (by simp [results,Tryz.results22,go_sem,hcc,s0]) rfl ⟨by rw [HS.out,hl];rfl,?_⟩
     repeat (first|with_reducible assumption|with_reducible exact aqx _|with_reducible refine aqa ?_ _|with_reducible refine aq6 ?_|with_reducible refine aqq _ ?_|refine axv ?_ (by simp;try omega) _|refine aq7 (by with_reducible assumption) ?_)
   | some f =>
     obtain ⟨fq,fx,fy⟩:=f
     obtain ⟨A1,A2⟩:=avj hl (.agg #[.int .i64 0,.int .i64 0,.int .i64 0])
     simp only [frV] at A1
     go_wp2
     refine bodyPost_ret (v:=.tuple #[.agg #[.int .i64 fq,.int .i64 fx,.int .i64 fy],.bool true]) (by simp [results,Tryz.results22,go_sem,hcc,s0]) rfl ⟨by rw [HS.out,hl];rfl,?_⟩
     repeat (first|with_reducible assumption|with_reducible exact aqx _|with_reducible refine aqa ?_ _|with_reducible refine aq6 ?_|with_reducible refine aqq _ ?_|refine axv ?_ (by simp;try omega) _|refine aq7 (by with_reducible assumption) ?_)
end Go.Proofs.YtlnplelandimeaaGreat
namespace Go.Proofs.YtlnplelandimeaaGreat
open Go.RowKit
structure Only (w w' : World) (rb : Nat) (ob : Option Nat) : Prop where
 os : w'.os=w.os
 tape : w'.tape=w.tape
 output : w'.output=w.output
 size : w.heap.size≤w'.heap.size
 block : ∀ i,i < w.heap.size→i ≠ rb→some i ≠ ob→w'.heap[i]? = w.heap[i]?
theorem Only.of_below {w w' : World} (h : Below w.heap.size w w') (rb : Nat) (ob : Option Nat) : Only w w' rb ob := ⟨h.os, h.tape, h.output, h.size, fun i hi _ _ => h.block i hi⟩
def aq1 (x : Rel) : Bool := rbB x.1 && rbB x.2.1 && !(x.1 == x.2.1) && szB x.2.2.2.1 1024 && szB x.2.2.2.2 1024
def addX (x : Rel) : Rel := (x.1, x.2.1, (x.2.2.1 % 4, x.2.2.2.1, x.2.2.2.2))
def addF (rs : List Rel) (x : Rel) : Int × List Rel :=
 if aq1 x then
  match btF rs x.1 x.2.1 with
  | none=>(0,rs ++ [addX x])
  | some f=>if f=(addX x).2.2 then (0,rs) else (11,rs)
 else (1,rs)
def AddPost (w : World) (rb : Nat) (ob : Option Nat) (r : Int × List Rel) (e : Ending) (w' : World) : Prop :=
 e = .returned (.int .i64 r.1)∧∃ ob',RObj w' rb ob' r.2∧(ob' = ob∨∃ g,ob' = some g∧w.heap.size≤g)∧Only w w' rb ob
theorem AddPost.same {w w' : World} {rb : Nat} {ob : Option Nat} {rs : List Rel} {r : Int × List Rel} {c : Int} (hr : RObj w rb ob rs) (hb : Below w.heap.size w w') (h : r = (c, rs)) : AddPost w rb ob r (.returned (.int .i64 c)) w' := by
 subst h
 exact ⟨rfl,ob,hr.below hb,.inl rfl,Only.of_below hb _ _⟩
theorem cjk {x : Rel} (h : aq1 x = true) : RelOk (addX x) := by
 obtain ⟨a,b,q,x,y⟩:=x
 simp [aq1,rbB,szB] at h
 simp [RelOk,addX]
 omega
set_option maxHeartbeats 1000000 in
theorem Add_bad (rb : Nat) (ob : Option Nat) (rs : List Rel) (xa xb xq xx xy : Int) (w : World) (hr : RObj w rb ob rs) (hbad : aq1 (xa, xb, xq, xx, xy) = false) :
 Calls Tryz.prog 58 #[.pointer (some ⟨rb,0,none⟩),.agg #[.int .i64 xa,.int .i64 xb,.int .i64 xq,.int .i64 xx,.int .i64 xy]] w (AddPost w rb ob (addF rs (xa,xb,xq,xx,xy))):=by
 have HF:=Lib.hid (show addF rs (xa,xb,xq,xx,xy)=(1,rs) by simp [addF,hbad])
 have HR:=Lib.hid hr
 clear hr
 cases h1 : rbB xa
 ·clear hbad
  go_enter Tryz.func58,Tryz.ntmps58
  go_wp2_with (first|(go_at_call 59;refine (axc _ _).mono ?_;rintro e w1 ⟨rfl,rfl⟩)|(go_at_call 102;refine (ax7 _ _ _ (by omega) (by omega)).mono ?_;rintro e w1 ⟨rfl,rfl⟩))
  go_ret
  exact AddPost.same HR.out (by repeat (first|with_reducible assumption|with_reducible exact aqx _|with_reducible refine aqa ?_ _|with_reducible refine aq6 ?_|with_reducible refine aqq _ ?_|refine axv ?_ (by simp;try omega) _|refine aq7 (by with_reducible assumption) ?_)) HF.out
 ·cases h2 : rbB xb
  ·clear hbad
   go_enter Tryz.func58,Tryz.ntmps58
   go_wp2_with (first|(go_at_call 59;refine (axc _ _).mono ?_;rintro e w1 ⟨rfl,rfl⟩)|(go_at_call 102;refine (ax7 _ _ _ (by omega) (by omega)).mono ?_;rintro e w1 ⟨rfl,rfl⟩))
   go_ret
   exact AddPost.same HR.out (by repeat (first|with_reducible assumption|with_reducible exact aqx _|with_reducible refine aqa ?_ _|with_reducible refine aq6 ?_|with_reducible refine aqq _ ?_|refine axv ?_ (by simp;try omega) _|refine aq7 (by with_reducible assumption) ?_)) HF.out
  ·cases h3 : (xa == xb)
   ·cases h4 : szB xx 1024
    ·clear hbad
     go_enter Tryz.func58,Tryz.ntmps58
     go_wp2_with (first|(go_at_call 59;refine (axc _ _).mono ?_;rintro e w1 ⟨rfl,rfl⟩)|(go_at_call 102;refine (ax7 _ _ _ (by omega) (by omega)).mono ?_;rintro e w1 ⟨rfl,rfl⟩))
     go_ret
     exact AddPost.same HR.out (by repeat (first|with_reducible assumption|with_reducible exact aqx _|with_reducible refine aqa ?_ _|with_reducible refine aq6 ?_|with_reducible refine aqq _ ?_|refine axv ?_ (by simp;try omega) _|refine aq7 (by with_reducible assumption) ?_)) HF.out
    ·have h5 : szB xy 1024=false:=by simpa [aq1,h1,h2,h3,h4] using hbad
     clear hbad
     go_enter Tryz.func58,Tryz.ntmps58
     go_wp2_with (first|(go_at_call 59;refine (axc _ _).mono ?_;rintro e w1 ⟨rfl,rfl⟩)|(go_at_call 102;refine (ax7 _ _ _ (by omega) (by omega)).mono ?_;rintro e w1 ⟨rfl,rfl⟩))
     go_ret
     exact AddPost.same HR.out (by repeat (first|with_reducible assumption|with_reducible exact aqx _|with_reducible refine aqa ?_ _|with_reducible refine aq6 ?_|with_reducible refine aqq _ ?_|refine axv ?_ (by simp;try omega) _|refine aq7 (by with_reducible assumption) ?_)) HF.out
   ·clear hbad
    go_enter Tryz.func58,Tryz.ntmps58
    go_wp2_with (first|(go_at_call 59;refine (axc _ _).mono ?_;rintro e w1 ⟨rfl,rfl⟩)|(go_at_call 102;refine (ax7 _ _ _ (by omega) (by omega)).mono ?_;rintro e w1 ⟨rfl,rfl⟩))
    go_ret
    exact AddPost.same HR.out (by repeat (first|with_reducible assumption|with_reducible exact aqx _|with_reducible refine aqa ?_ _|with_reducible refine aq6 ?_|with_reducible refine aqq _ ?_|refine axv ?_ (by simp;try omega) _|refine aq7 (by with_reducible assumption) ?_)) HF.out
set_option maxHeartbeats 1000000 in
theorem Add_known (rb : Nat) (ob : Option Nat) (rs : List Rel) (xa xb xq xx xy : Int) (f : Fr) (w : World) (hr : RObj w rb ob rs) (hn : rs.length ≤ 100) (hgood : aq1 (xa, xb, xq, xx, xy) = true) (hf : btF rs xa xb = some f) :
 Calls Tryz.prog 58 #[.pointer (some ⟨rb,0,none⟩),.agg #[.int .i64 xa,.int .i64 xb,.int .i64 xq,.int .i64 xx,.int .i64 xy]] w (AddPost w rb ob (addF rs (xa,xb,xq,xx,xy))):=by
 have HR:=Lib.hid hr
 have HB:=Lib.hid hf
 obtain ⟨⟨⟨⟨h1,h2⟩,h3⟩,h4⟩,h5⟩ : (((rbB xa=true∧rbB xb=true)∧(xa == xb)=false)∧szB xx 1024=true)∧szB xy 1024=true:=by simpa [aq1,and_assoc] using hgood
 have ha:=and3
 obtain ⟨fq,fx,fy⟩:=f
 by_cases he : (fq,fx,fy)=(xq % 4,xx,xy)
 ·have HF:=Lib.hid (show addF rs (xa,xb,xq,xx,xy)=(0,rs) by simp [addF,hgood,hf,addX];simpa using he)
  clear hgood hf hr
  simp only [Prod.mk.injEq] at he
  obtain ⟨rfl,rfl,rfl⟩:=he
  go_enter Tryz.func58,Tryz.ntmps58
  go_wp2_with (first|(go_at_call 59;refine (axc _ _).mono ?_;rintro e w1 ⟨rfl,rfl⟩)|(go_at_call 102;refine (ax7 _ _ _ (by omega) (by omega)).mono ?_;rintro e w1 ⟨rfl,rfl⟩))
  refine (ajh rb ob rs xa xb _ (HR.out.alloc _) hn).mono ?_
  rintro e w1 ⟨rfl,hbl⟩
  rw [HB.out]
  simp only [btV,frV]
  have hs:=hbl.size
  simp at hs
  have s0 : w.heap.size < w1.heap.size:=by omega
  obtain ⟨hcc,hff⟩:=cwm hbl
  go_wp2_with fail
  go_ret
  exact AddPost.same HR.out (by repeat (first|with_reducible assumption|with_reducible exact aqx _|with_reducible refine aqa ?_ _|with_reducible refine aq6 ?_|with_reducible refine aqq _ ?_|refine axv ?_ (by simp;try omega) _|refine aq7 (by with_reducible assumption) ?_)) HF.out
 ·have HF:=Lib.hid (show addF rs (xa,xb,xq,xx,xy)=(11,rs) by simp [addF,hgood,hf,addX];simpa using he)
  clear hgood hf hr
  simp only [Prod.mk.injEq] at he
  by_cases e1 : fq=xq % 4
  ·by_cases e2 : fx=xx
   ·have t3 : (fy == xy)=false:=by simp;omega
    clear he
    subst e1 e2
    go_enter Tryz.func58,Tryz.ntmps58
    go_wp2_with (first|(go_at_call 59;refine (axc _ _).mono ?_;rintro e w1 ⟨rfl,rfl⟩)|(go_at_call 102;refine (ax7 _ _ _ (by omega) (by omega)).mono ?_;rintro e w1 ⟨rfl,rfl⟩))
    refine (ajh rb ob rs xa xb _ (HR.out.alloc _) hn).mono ?_
    rintro e w1 ⟨rfl,hbl⟩
    rw [HB.out]
    simp only [btV,frV]
    have hs:=hbl.size
    simp at hs
    have s0 : w.heap.size < w1.heap.size:=by omega
    obtain ⟨hcc,hff⟩:=cwm hbl
    go_wp2_with fail
    go_ret
    exact AddPost.same HR.out (by repeat (first|with_reducible assumption|with_reducible exact aqx _|with_reducible refine aqa ?_ _|with_reducible refine aq6 ?_|with_reducible refine aqq _ ?_|refine axv ?_ (by simp;try omega) _|refine aq7 (by with_reducible assumption) ?_)) HF.out
   ·have t2 : (fx == xx)=false:=by simp;omega
    clear he
    subst e1
    go_enter Tryz.func58,Tryz.ntmps58
    go_wp2_with (first|(go_at_call 59;refine (axc _ _).mono ?_;rintro e w1 ⟨rfl,rfl⟩)|(go_at_call 102;refine (ax7 _ _ _ (by omega) (by omega)).mono ?_;rintro e w1 ⟨rfl,rfl⟩))
    refine (ajh rb ob rs xa xb _ (HR.out.alloc _) hn).mono ?_
    rintro e w1 ⟨rfl,hbl⟩
    rw [HB.out]
    simp only [btV,frV]
    have hs:=hbl.size
    simp at hs
    have s0 : w.heap.size < w1.heap.size:=by omega
    obtain ⟨hcc,hff⟩:=cwm hbl
    go_wp2_with fail
    go_ret
    exact AddPost.same HR.out (by repeat (first|with_reducible assumption|with_reducible exact aqx _|with_reducible refine aqa ?_ _|with_reducible refine aq6 ?_|with_reducible refine aqq _ ?_|refine axv ?_ (by simp;try omega) _|refine aq7 (by with_reducible assumption) ?_)) HF.out
  ·have t1 : (fq == xq % 4)=false:=by simp;omega
   clear he
   go_enter Tryz.func58,Tryz.ntmps58
   go_wp2_with (first|(go_at_call 59;refine (axc _ _).mono ?_;rintro e w1 ⟨rfl,rfl⟩)|(go_at_call 102;refine (ax7 _ _ _ (by omega) (by omega)).mono ?_;rintro e w1 ⟨rfl,rfl⟩))
   refine (ajh rb ob rs xa xb _ (HR.out.alloc _) hn).mono ?_
   rintro e w1 ⟨rfl,hbl⟩
   rw [HB.out]
   simp only [btV,frV]
   have hs:=hbl.size
   simp at hs
   have s0 : w.heap.size < w1.heap.size:=by omega
   obtain ⟨hcc,hff⟩:=cwm hbl
   go_wp2_with fail
   go_ret
   exact AddPost.same HR.out (by repeat (first|with_reducible assumption|with_reducible exact aqx _|with_reducible refine aqa ?_ _|with_reducible refine aq6 ?_|with_reducible refine aqq _ ?_|refine axv ?_ (by simp;try omega) _|refine aq7 (by with_reducible assumption) ?_)) HF.out
theorem cwy {w : World} {rb : Nat} {ob : Option Nat} {rs : List Rel} (h : RObj w rb ob rs) : ∃ v : Value, v.ownBlock = ob ∧ w.cell? ⟨rb, 0, none⟩ = some v ∧ w.frozen? ⟨rb, 0, none⟩ = false ∧ w.ownsRow 0 39 5 v rs.length (axp rs) := by
 obtain ⟨v,hv,hh,ho,_,_⟩:=h
 exact ⟨v,hv,by simpa using cell_of_row w rb 0 #[v] 143 (0,0) hh,by simp [World.frozen?,hh],ho⟩
theorem bwg {w w' : World} {base : Nat} {e : TypeId} {size : Nat} {v : Value} {n : Nat} {xs : List Value} (h : w.ownsRow base e size v n xs) (hb : Below w.heap.size w w') : w'.ownsRow base e size v n xs := by
 refine ⟨h.1,?_⟩
 rcases h.2 with hn|⟨g,cap,cur,rfl,h1,hgg,rest⟩
 ·exact .inl hn
 ·exact .inr ⟨g,cap,cur,rfl,h1,(hb.block g (h.lt g rfl).2).trans hgg,rest⟩
theorem cqd {W w2 : World} {row : Option Nat} (hg : W.grownBy w2 row) {rb : Nat} {v : Value} (h : W.cell? ⟨rb, 0, none⟩ = some v ∧ W.frozen? ⟨rb, 0, none⟩ = false) (hne : row ≠ some rb) : w2.cell? ⟨rb, 0, none⟩ = some v ∧ w2.frozen? ⟨rb, 0, none⟩ = false := by
 have hb:=hg.block rb (World.block_lt_of_cell? W _ h.1) (fun e=>hne e.symm)
 exact ⟨(World.cell?_of_block (a:=⟨rb,0,none⟩) hb).trans h.1,(World.frozen?_of_block (a:=⟨rb,0,none⟩) hb).trans h.2⟩
theorem two_more {W : World} {rb : Nat} {v : Value} (h : W.cell? ⟨rb, 0, none⟩ = some v ∧ W.frozen? ⟨rb, 0, none⟩ = false) (o1 o2 : Obj) : ((W.alloc o1).alloc o2).drew.cell? ⟨rb, 0, none⟩ = some v ∧ ((W.alloc o1).alloc o2).drew.frozen? ⟨rb, 0, none⟩ = false := by
 have hb:=World.block_lt_of_cell? W _ h.1
 have h1 : ((W.alloc o1).alloc o2).drew.heap[rb]? = W.heap[rb]?:=by
  show ((W.alloc o1).alloc o2).heap[rb]? = W.heap[rb]?
  rw [Below.heap_alloc _ _ _ (by simp;simp at hb;omega),Below.heap_alloc _ _ _ hb]
 exact ⟨(World.cell?_of_block (a:=⟨rb,0,none⟩) h1).trans h.1,(World.frozen?_of_block (a:=⟨rb,0,none⟩) h1).trans h.2⟩
theorem AddPost.grow {w W w2 : World} {rb : Nat} {ob : Option Nat} {rs : List Rel} {x : Rel} {v : Value} {g cap : Nat} (hr : RObj w rb ob rs) (hW : Below w.heap.size w W) (hv : v.ownBlock = ob) (hg : W.grownBy w2 v.ownBlock)
 (hown : w2.ownsRow 0 39 5 (.slice (some ⟨g,0,none⟩) (rs.length + 1) cap) (rs.length + 1) (axp rs ++ ak2 (addX x))) (hat : v.ownBlock=some g∨g=W.heap.size) (hx : aq1 x=true)
 (hF : addF rs x=(0,rs ++ [addX x])) : AddPost w rb ob (addF rs x) (.returned (.int .i64 0)) (w2.setCell ⟨rb,0,none⟩ (.slice (some ⟨g,0,none⟩) (rs.length + 1) cap)):=by
 rw [hF]
 have hlt:=hr.lt
 obtain ⟨v0,hv0,hh,_,hne,hok⟩:=hr
 have hsz:=hW.size
 have hgr : g ≠ rb:=by
  rintro rfl
  rcases hat with h|h
  ·exact hne (hv.symm.trans h)
  ·omega
 have hb2 : w2.heap[rb]? = some (.cells #[v0] 143):=by
  rw [hg.block rb (by omega) (by rw [hv];exact fun e=>hne e.symm),hW.block rb hlt.1,hh]
 refine ⟨rfl,some g,⟨.slice (some ⟨g,0,none⟩) (rs.length + 1) cap,rfl,?_,?_,by simpa using hgr,?_⟩,?_,?_⟩
 ·simp [World.setCell,Array.getElem?_modify,hb2]
 ·simp only [List.length_append,List.length_cons,List.length_nil]
  rw [bkb]
  refine ⟨hown.1,?_⟩
  rcases hown.2 with hn|⟨g',cap',cur,h1,h2,h3,rest⟩
  ·exact .inl hn
  ·have e1 : g' = g:=by simp at h1;exact h1.1.symm
   exact .inr ⟨g',cap',cur,h1,h2,(Below.heap_setCell _ _ _ _ (by rw [e1];exact hgr)).trans h3,rest⟩
 ·intro r hrm
  rcases List.mem_append.1 hrm with h|h
  ·exact hok r h
  ·simp at h;subst h;exact cjk hx
 ·rcases hat with h|h
  ·exact .inl (h.symm.trans hv)
  ·exact .inr ⟨g,rfl,by omega⟩
 ·refine ⟨hg.os.trans hW.os,hg.tape.trans hW.tape,hg.output.trans hW.output,?_,fun i hi h1 h2=>?_⟩
  ·have:=hg.size
   simp [World.setCell]
   omega
  ·rw [Below.heap_setCell _ _ _ _ h1,hg.block i (by omega) (by rw [hv];exact h2),hW.block i hi]
theorem infoRel : (Tryz.prog.info? 39).map (fun i => (i.zero, i.size, i.bytes)) = some (some (.agg #[.int .i64 0, .int .i64 0, .int .i64 0, .int .i64 0, .int .i64 0]), 5, 40) := by kernel_rfl
set_option maxRecDepth 100000 in
set_option maxHeartbeats 1000000 in
theorem Add_new (rb : Nat) (ob : Option Nat) (rs : List Rel) (xa xb xq xx xy : Int) (w : World) (hr : RObj w rb ob rs) (hn : rs.length ≤ 99) (hgood : aq1 (xa, xb, xq, xx, xy) = true) (hf : btF rs xa xb = none) :
 Calls Tryz.prog 58 #[.pointer (some ⟨rb,0,none⟩),.agg #[.int .i64 xa,.int .i64 xb,.int .i64 xq,.int .i64 xx,.int .i64 xy]] w (AddPost w rb ob (addF rs (xa,xb,xq,xx,xy))):=by
 have HR:=Lib.hid hr
 have HB:=Lib.hid hf
 obtain ⟨⟨⟨⟨h1,h2⟩,h3⟩,h4⟩,h5⟩ : (((rbB xa=true∧rbB xb=true)∧(xa == xb)=false)∧szB xx 1024=true)∧szB xy 1024=true:=by simpa [aq1,and_assoc] using hgood
 have ha:=and3
 have HF:=Lib.hid (show addF rs (xa,xb,xq,xx,xy)=(0,rs ++ [addX (xa,xb,xq,xx,xy)]) by simp [addF,hgood,hf])
 have HG:=Lib.hid hgood
 have hlr:=hr.lt.1
 clear hgood hf hr
 obtain ⟨i0,hi0,hz0,hz1,hz2⟩:=info_parts infoRel
 go_enter Tryz.func58,Tryz.ntmps58
 go_wp2_with (first|(go_at_call 59;refine (axc _ _).mono ?_;rintro e w1 ⟨rfl,rfl⟩)|(go_at_call 102;refine (ax7 _ _ _ (by omega) (by omega)).mono ?_;rintro e w1 ⟨rfl,rfl⟩))
 refine (ajh rb ob rs xa xb _ (HR.out.alloc _) (by omega)).mono ?_
 rintro e w1 ⟨rfl,hbl⟩
 rw [HB.out]
 simp only [btV]
 have hs:=hbl.size
 simp at hs
 have s0 : w.heap.size < w1.heap.size:=by omega
 have s1 : rb < w1.heap.size:=by omega
 obtain ⟨hcc,hff⟩:=cwm hbl
 obtain ⟨v,hv,hc,hz,hown0⟩:=cwy HR.out
 have hown:=bwg (hown0.alloc _) hbl
 clear hown0
 have HV:=Lib.hid hv
 have HO:=Lib.hid hown
 have hw1:=Lib.hid (show w1.cell? ⟨rb,0,none⟩ = some v∧w1.frozen? ⟨rb,0,none⟩ = false by
  rw [hcc rb 0 (by simp;omega),hff rb 0 (by simp;omega)]
  simp [go_sem,hlr,hc,hz])
 have hne:=Lib.hid (show v.ownBlock ≠ some rb by rw [hv];exact HR.out.choose_spec.2.2.2.1)
 clear hv hown
 have hnb:=Lib.hid (show ((w1.alloc (.cells #[.int .i64 0,.int .i64 0,.int .i64 0] 37)).alloc (.cells #[.int .i64 xa,.int .i64 xb,.int .i64 (xq % 4),.int .i64 xx,.int .i64 xy] 39)).heap[w1.heap.size + 1]? = some (.cells #[.int .i64 xa,.int .i64 xb,.int .i64 (xq % 4),.int .i64 xx,.int .i64 xy] 39) by
  have h:=heap_alloc_new (w1.alloc (.cells #[.int .i64 0,.int .i64 0,.int .i64 0] 37)) (.cells #[.int .i64 xa,.int .i64 xb,.int .i64 (xq % 4),.int .i64 xx,.int .i64 xy] 39)
  rw [World.size_alloc] at h
  exact h)
 go_wp2_with fail
 go_region_law ((refine step_append_lies _ (by rfl) (.tmp 64) (.tmp 66) 57 (by rfl) 0 39 i0 _ 5 40 Tryz.underlying57 hi0 hz0 hz1 hz2 rfl (by omega) v rs.length (axp rs) (by rfl) (((HO.out.alloc _).alloc _).drew) ⟨w1.heap.size + 1,0,none⟩ 1 1 [.int .i64 xa,.int .i64 xb,.int .i64 (xq % 4),.int .i64 xx,.int .i64 xy] (by rfl) (by rfl) ?_ (by simp [Value.oneCell']) (by omega) (by simp only [maxLen];omega) (by omega) (by simp) (w1.heap.size + 2) (by simp) ?_;(exact World.news_of_block (cs:=#[.int .i64 xa,.int .i64 xb,.int .i64 (xq % 4),.int .i64 xx,.int .i64 xy]) (t:=39) (fr:=(0,0)) hnb.out);intro g cap w2 hown2 hgrow hat hlt;obtain ⟨c2,z2⟩:=cqd hgrow (two_more hw1.out _ _) hne.out))
 all_goals
  go_wp2
  go_ret
  exact AddPost.grow (x:=(xa,xb,xq,xx,xy)) HR.out (by repeat (first|with_reducible assumption|with_reducible exact aqx _|with_reducible refine aqa ?_ _|with_reducible refine aq6 ?_|with_reducible refine aqq _ ?_|refine axv ?_ (by simp;try omega) _|refine aq7 (by with_reducible assumption) ?_)) HV.out hgrow hown2 (by simpa using hat) HG.out HF.out
theorem Add_any (rb : Nat) (ob : Option Nat) (rs : List Rel) (x : Rel) (w : World) (hr : RObj w rb ob rs) (hn : rs.length ≤ 99) :
 Calls Tryz.prog 58 #[.pointer (some ⟨rb,0,none⟩),.agg #[.int .i64 x.1,.int .i64 x.2.1,.int .i64 x.2.2.1,.int .i64 x.2.2.2.1,.int .i64 x.2.2.2.2]] w (AddPost w rb ob (addF rs x)):=by
 obtain ⟨a,b,q,x,y⟩:=x
 cases h1 : aq1 (a,b,q,x,y)
 ·exact Add_bad rb ob rs a b q x y w hr h1
 ·cases h2 : btF rs a b with
  | none=>exact Add_new rb ob rs a b q x y w hr hn h1 h2
  | some f=>exact Add_known rb ob rs a b q x y f w hr (by omega) h1 h2
end Go.Proofs.YtlnplelandimeaaGreat
namespace Go.Proofs.YtlnplelandimeaaGreat
open Go.RowKit
theorem aw1 : PtV 1 2 0 64 10 = .tuple #[.agg #[.int .i64 118, .int .i64 64], .int .i64 0] := by simp [PtV, szB, tX, tY]
theorem aw2 : addF [] (0, 1, 0, 3, 0) = (0, [(0, 1, 0, 3, 0)]) := by decide
theorem aw3 : addF [(0, 1, 0, 3, 0)] (1, 2, 1, 0, 0) = (0, [(0, 1, 0, 3, 0), (1, 2, 1, 0, 0)]) := by decide
theorem aw4 : btF [(0, 1, 0, 3, 0), (1, 2, 1, 0, 0)] 0 2 = some (1, 3, 0) := by decide
end Go.Proofs.YtlnplelandimeaaGreat
namespace Go.Proofs.YtlnplelandimeaaGreat.En
open Go.RowKit
set_option maxRecDepth 100000
end Go.Proofs.YtlnplelandimeaaGreat.En
end
