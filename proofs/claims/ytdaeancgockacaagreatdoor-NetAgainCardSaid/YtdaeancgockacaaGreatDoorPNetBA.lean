/- A part of the proof. -/
import Derived.Below
import Derived.Deep.Draws
import Derived.OrdersHeld
import Derived.OwnWalk
import Derived.Tactics
import Derived.WalkKit
import Derived.KernelRfl
import Derived.Laws.OwnMore
import Derived.Laws.IdiomCopy
import Derived.Laws.Cells
import Derived.WalkLawsBesides
import Derived.Maps.AppendAt
import Derived.Laws.MakeOwn
import Derived.Deep.AppendSrc
import Derived.Laws.Slices
import Derived.Great.BuildSlice
import Derived.Laws.Tables
import Derived.Laws.IdiomStrings
import Derived.Lib.ConvBytes
import Derived.Lib.UnsafeStr
import Derived.Deep.LoopGhost
import Derived.Shelf.Abstract
set_option linter.unusedVariables false
set_option linter.unusedSimpArgs false
namespace Go.Proofs.YtdaeancgockacaaGreatDoor
namespace Ax
open Go Go.RowKit
inductive AV where
 | v (x:Value)
 | sl (n:Nat) (c:List AV)
 | slc (n m sz:Nat) (c:List AV)
 | rf (c:List AV)
 | own (id off n sz:Nat)
 | ptr (id off:Nat)
 | ag (c:List AV)
 | tp (c:List AV)
 | fn (f:FuncId) (c:List AV)
 | bp (id T:Nat)
 | bq (id T:Nat)
 | ob (id n T:Nat)
 | no
structure Rng where
 b:Nat
 o:Nat
 cap:Nat
 ty:Option TypeId
def Rng.at (r:Rng) (j:Nat):Addr:=⟨r.b,r.o+j,none⟩
theorem Rng.at_add (r:Rng) (i j:Nat):(r.at i).add j=r.at (i+j):=by
 unfold Rng.at
 rw[Addr.add_lit,Nat.add_assoc]
def Tabs (S:Addr→Option Value):Prop:=
 (∀ i:Nat,i<20→S ⟨1,i,none⟩=some (.int .u64 ((10 ^ i:Nat):Int))) ∧
 (∃ t p,S ⟨7,0,none⟩=some (.iface t p)) ∧
 (∃ t p,S ⟨8,0,none⟩=some (.iface t p)) ∧
 True
theorem Tabs.mono {S S':Addr→Option Value} (h:Tabs S) (hS:∀ a u,S a=some u→S' a=some u):Tabs S':=by
 refine ?_
 obtain⟨h1,h⟩:=h
 refine⟨fun i hi=>hS _ _ (h1 i hi),?_⟩
 obtain⟨⟨t2,p2,h2⟩,h⟩:=h
 refine⟨⟨t2,p2,hS _ _ h2⟩,?_⟩
 obtain⟨⟨t3,p3,h3⟩,h⟩:=h
 refine⟨⟨t3,p3,hS _ _ h3⟩,?_⟩
 exact trivial
def TabSize (w:World):Prop:=
 (∃ c e f,w.heap[1]?=some (.cells c e f)∧c.size=20) ∧
 True
structure KW where
 φ:Nat→Rng
 m:Nat
 S:Addr→Option Value
 tab:Tabs S
def KW.le (m0:Nat) (k k':KW):Prop:=m0≤k'.m∧(∀ i,i<m0→k'.φ i=k.φ i)∧∀ a u,k.S a=some u→k'.S a=some u
theorem KW.le_refl {m0:Nat} {k:KW} (h:m0≤k.m):KW.le m0 k k:=⟨h,fun _ _=>rfl,fun _ _ h=>h⟩
theorem KW.le_trans {m0:Nat} {a b c:KW} (h:KW.le m0 a b) (g:KW.le m0 b c):KW.le m0 a c:=
 ⟨g.1,fun i hi=>(g.2.1 i hi).trans (h.2.1 i hi),fun x u hx=>g.2.2 x u (h.2.2 x u hx)⟩
theorem KW.le_mono {m0 m1:Nat} {a b:KW} (h:KW.le m1 a b) (hm:m0≤m1):KW.le m0 a b:=⟨Nat.le_trans hm h.1,fun i hi=>h.2.1 i (by omega),h.2.2⟩
inductive Rel (k:KW):AV→Value→Prop
 | v (x:Value):Rel k (.v x) x
 | sl (n cap:Nat) (c:List AV) (a:Addr) (us:Nat→Value) (hn:n≤cap) (h1:∀ j,j<c.length→k.S (a.add j)=some (us j)) (h2:∀ (j:Nat) (z:AV),c[j]?=some z→Rel k z (us j)):Rel k (.sl n c) (.slice (some a) n cap)
 | sl0 (a:Option Addr) (cap:Nat):Rel k (.sl 0 []) (.slice a 0 cap)
 | slc (n m sz cap:Nat) (c:List AV) (a:Addr) (us:Nat→Value) (hn:n≤m) (hm:m≤cap) (hl:c.length=m*sz) (h1:∀ j,j<c.length→k.S (a.add j)=some (us j)) (h2:∀ (j:Nat) (z:AV),c[j]?=some z→Rel k z (us j)):Rel k (.slc n m sz c) (.slice (some a) n cap)
 | rf (c:List AV) (a:Addr) (us:Nat→Value) (h1:∀ j,j<c.length→k.S (a.add j)=some (us j)) (h2:∀ (j:Nat) (z:AV),c[j]?=some z→Rel k z (us j)):Rel k (.rf c) (.pointer (some a))
 | own (id off n sz cap:Nat) (hi:id<k.m) (hn:n≤cap) (hc:off+cap*sz=(k.φ id).cap):Rel k (.own id off n sz) (.slice (some ((k.φ id).at off)) n cap)
 | own0 (id off sz:Nat) (a:Option Addr) (hi:id<k.m) (hc:off=(k.φ id).cap):Rel k (.own id off 0 sz) (.slice a 0 0)
 | ptr (id off:Nat) (hi:id<k.m):Rel k (.ptr id off) (.pointer (some ((k.φ id).at off)))
 | ag (c:List AV) (us:List Value) (hl:us.length=c.length) (h:∀ (j:Nat) (z:AV) (u:Value),c[j]?=some z→us[j]?=some u→Rel k z u):Rel k (.ag c) (.agg us.toArray)
 | tp (c:List AV) (us:List Value) (hl:us.length=c.length) (h:∀ (j:Nat) (z:AV) (u:Value),c[j]?=some z→us[j]?=some u→Rel k z u):Rel k (.tp c) (.tuple us.toArray)
 | fn (f:FuncId) (c:List AV) (us:List Value) (hl:us.length=c.length) (h:∀ (j:Nat) (z:AV) (u:Value),c[j]?=some z→us[j]?=some u→Rel k z u):Rel k (.fn f c) (.func (.func f) #[] us.toArray)
 | bp0 (id T:Nat) (hi:id<k.m) (ht:(k.φ id).ty=some T) (hc:(k.φ id).cap=2):Rel k (.bp id T) (.pointer none)
 | bp (id T:Nat) (hi:id<k.m) (ht:(k.φ id).ty=some T) (hc:(k.φ id).cap=2):Rel k (.bp id T) (.pointer (some ((k.φ id).at 0)))
 | bq0 (id T:Nat) (hi:id<k.m) (hc:(k.φ id).cap=0):Rel k (.bq id T) (.pointer none)
 | bq (id T:Nat) (hi:id<k.m) (ht:(k.φ id).ty=some T) (h0:(k.φ id).cap≠0):Rel k (.bq id T) (.pointer (some ((k.φ id).at 0)))
 | ob0 (id T:Nat) (hi:id<k.m) (hc:(k.φ id).cap=0):Rel k (.ob id 0 T) (.slice none 0 0)
 | ob (id n T cap:Nat) (hi:id<k.m) (ht:(k.φ id).ty=some T) (hn:n≤cap) (hc:cap=(k.φ id).cap) (h0:cap≠0):Rel k (.ob id n T) (.slice (some ((k.φ id).at 0)) n cap)
 | no (u:Value):Rel k .no u
theorem Rel.mono {k k':KW} {z:AV} {u:Value} (h:Rel k z u) (hk:KW.le k.m k k'):Rel k' z u:=by
 induction h with
 | v x=>exact .v x
 | sl n cap c a us hn h1 h2 ih=>exact .sl n cap c a us hn (fun j hj=>hk.2.2 _ _ (h1 j hj)) ih
 | sl0 a cap=>exact .sl0 a cap
 | slc n m sz cap c a us hn hm hl h1 h2 ih=>exact .slc n m sz cap c a us hn hm hl (fun j hj=>hk.2.2 _ _ (h1 j hj)) ih
 | rf c a us h1 h2 ih=>exact .rf c a us (fun j hj=>hk.2.2 _ _ (h1 j hj)) ih
 | own id off n sz cap hi hn hc=>
  have e:=hk.2.1 id hi
  rw[←e]
  exact .own id off n sz cap (Nat.lt_of_lt_of_le hi hk.1) hn (by rw[e];exact hc)
 | own0 id off sz a hi hc=>exact .own0 id off sz a (Nat.lt_of_lt_of_le hi hk.1) (by rw[hk.2.1 id hi];exact hc)
 | ptr id off hi=>
  rw[←hk.2.1 id hi]
  exact .ptr id off (Nat.lt_of_lt_of_le hi hk.1)
 | ag c us hl h ih=>exact .ag c us hl ih
 | tp c us hl h ih=>exact .tp c us hl ih
 | fn f c us hl h ih=>exact .fn f c us hl ih
 | bp0 id T hi ht hc=>exact .bp0 id T (Nat.lt_of_lt_of_le hi hk.1) (by rw[hk.2.1 id hi];exact ht) (by rw[hk.2.1 id hi];exact hc)
 | bp id T hi ht hc=>
  have e:=hk.2.1 id hi
  rw[←e]
  exact .bp id T (Nat.lt_of_lt_of_le hi hk.1) (by rw[e];exact ht) (by rw[e];exact hc)
 | bq0 id T hi hc=>exact .bq0 id T (Nat.lt_of_lt_of_le hi hk.1) (by rw[hk.2.1 id hi];exact hc)
 | bq id T hi ht h0=>
  have e:=hk.2.1 id hi
  rw[←e]
  exact .bq id T (Nat.lt_of_lt_of_le hi hk.1) (by rw[e];exact ht) (by rw[e];exact h0)
 | ob0 id T hi hc=>exact .ob0 id T (Nat.lt_of_lt_of_le hi hk.1) (by rw[hk.2.1 id hi];exact hc)
 | ob id n T cap hi ht hn hc h0=>
  have e:=hk.2.1 id hi
  rw[←e]
  exact .ob id n T cap (Nat.lt_of_lt_of_le hi hk.1) (by rw[e];exact ht) hn (by rw[e];exact hc) h0
 | no u=>exact .no u
structure St where
 get:Nat→Option (List AV)
 nx:Nat
def St.set (s:St) (i:Nat) (c:List AV):St:=⟨fun j=>if j=i then some c else s.get j,s.nx⟩
def St.kill (s:St) (i:Nat):St:=⟨fun j=>if j=i then none else s.get j,s.nx⟩
def St.push (s:St) (c:List AV):St:=⟨fun j=>if j=s.nx then some c else s.get j,s.nx+1⟩
theorem St.set_same (s:St) (i:Nat) (c:List AV):(s.set i c).get i=some c:=if_pos rfl
theorem St.set_ne (s:St) (i j:Nat) (c:List AV) (h:j≠i):(s.set i c).get j=s.get j:=if_neg h
theorem St.kill_same (s:St) (i:Nat):(s.kill i).get i=none:=if_pos rfl
theorem St.kill_ne (s:St) (i j:Nat) (h:j≠i):(s.kill i).get j=s.get j:=if_neg h
theorem St.push_same (s:St) (c:List AV):(s.push c).get s.nx=some c:=if_pos rfl
theorem St.push_ne (s:St) (j:Nat) (c:List AV) (h:j≠s.nx):(s.push c).get j=s.get j:=if_neg h
theorem St.nx_set (s:St) (i:Nat) (c:List AV):(s.set i c).nx=s.nx:=rfl
theorem St.nx_kill (s:St) (i:Nat):(s.kill i).nx=s.nx:=rfl
theorem St.nx_push (s:St) (c:List AV):(s.push c).nx=s.nx+1:=rfl
structure Shp (w w':World):Prop where
 os:w'.os=w.os
 tape:w'.tape=w.tape
 output:w'.output=w.output
 size:w.heap.size≤w'.heap.size
 block:∀ i,i<w.heap.size→(∃ c c' e f,w.heap[i]?=some (.cells c e f)∧w'.heap[i]?=some (.cells c' e f)∧c'.size=c.size)∨((∀ c e f,w.heap[i]?≠some (.cells c e f))∧w'.heap[i]?=w.heap[i]?)
theorem Shp.refl (w:World):Shp w w:=⟨rfl,rfl,rfl,Nat.le_refl _,fun i hi=>by
 cases h:w.heap[i]? with
 | none=>exact .inr ⟨fun c e f=>nofun,rfl⟩
 | some o=>
  cases o with
  | cells c e f=>exact .inl ⟨c,c,e,f,rfl,rfl,rfl⟩
  | _=>exact .inr ⟨fun c e f=>nofun,rfl⟩⟩
theorem Shp.trans {a b c:World} (h:Shp a b) (g:Shp b c):Shp a c:=by
 refine⟨g.os.trans h.os,g.tape.trans h.tape,g.output.trans h.output,Nat.le_trans h.size g.size,fun i hi=>?_⟩
 rcases h.block i hi with ⟨x,y,e,f,h1,h2,h3⟩ | ⟨h1,h2⟩
 ·rcases g.block i (Nat.lt_of_lt_of_le hi h.size) with ⟨x',y',e',f',g1,g2,g3⟩ | ⟨g1,g2⟩
  ·rw[h2] at g1
   injection g1 with g1
   injection g1 with p1 p2 p3
   subst p1 p2 p3
   exact .inl ⟨x,y',e,f,h1,g2,g3.trans h3⟩
  ·exact absurd h2 (g1 _ _ _)
 ·rcases g.block i (Nat.lt_of_lt_of_le hi h.size) with ⟨x',y',e',f',g1,g2,g3⟩ | ⟨g1,g2⟩
  ·rw[h2] at g1
   exact absurd g1 (h1 _ _ _)
  ·exact .inr ⟨h1,g2.trans h2⟩
theorem Shp.drew {a b:World} (h:Shp a b) (n:Nat):Shp a { b with drawn:=n }:=⟨h.os,h.tape,h.output,h.size,h.block⟩
theorem Shp.alloc {a b:World} (h:Shp a b) (o:Obj):Shp a (b.alloc o):=
 h.trans ⟨rfl,rfl,rfl,by simp,fun i hi=>by
  rw[Below.heap_alloc _ _ _ hi]
  exact(Shp.refl b).block i hi⟩
theorem Shp.setCell {a b:World} (h:Shp a b) (p:Addr) (u:Value):Shp a (b.setCell p u):=by
 refine h.trans ⟨rfl,rfl,rfl,by simp [World.setCell],fun i hi=>?_⟩
 by_cases hp:i=p.block
 ·subst hp
  cases hh:b.heap[p.block]? with
  | none=>exact .inr ⟨fun c e f=>nofun,by simp [World.setCell,Array.getElem?_modify,hh]⟩
  | some o=>
   cases o with
   | cells c e f=>
    refine .inl ⟨c,if p.spot.isSome then c else c.setIfInBounds p.off u,e,f,rfl,by simp [World.setCell,Array.getElem?_modify,hh],?_⟩
    split <;> simp
   | _=>exact .inr ⟨fun c e f=>nofun,by simp [World.setCell,Array.getElem?_modify,hh]⟩
 ·rw[Below.heap_setCell _ _ _ _ hp]
  exact(Shp.refl b).block i hi
theorem Shp.below {w w':World} (h:Shp w w') (hc:∀ a u,w.cell? a=some u→w'.cell? a=some u):Below w.heap.size w w':=by
 refine⟨h.os,h.tape,h.output,h.size,fun i hi=>?_⟩
 rcases h.block i hi with ⟨x,y,e,f,h1,h2,h3⟩ | ⟨h1,h2⟩
 ·rw[h1,h2]
  congr 2
  apply Array.ext h3
  intro j hj1 hj2
  have c1:w.cell? ⟨i,j,none⟩=some x[j]:=by simp [World.cell?,h1,hj2]
  have c2:=hc _ _ c1
  simp [World.cell?,h2,hj1] at c2
  exact c2
 ·exact h2
theorem Shp.tz {w w':World} (h:Shp w w') (g:TabSize w):TabSize w':=by
 refine ?_
 obtain⟨c,e,f,h1,h2⟩:=g.1
 refine⟨?_,?_⟩
 ·rcases h.block _ (Array.getElem?_eq_some_iff.1 h1).1 with ⟨x,y,e',f',g1,g2,g3⟩ | ⟨g1,g2⟩
  ·rw[h1] at g1
   injection g1 with g1
   injection g1 with p1 p2 p3
   subst p1 p2 p3
   exact⟨y,_,_,g2,g3.trans h2⟩
  ·exact absurd h1 (g1 _ _ _)
 exact trivial
def BoxOk (k:KW) (w:World) (r:Rng) (c:List AV):Prop:=
 c.length≤r.cap∧∀ j,j<r.cap→∃ u,w.cell? (r.at j)=some u∧w.frozen? (r.at j)=false∧k.S (r.at j)=none∧∀ z,c[j]?=some z→Rel k z u
def TyOk (w:World) (r:Rng) (T:TypeId):Prop:=r.o=0∧∃ cs,w.heap[r.b]?=some (.cells cs T (0,0))∧cs.size=r.cap
structure Sim (w0:World) (k:KW) (w:World) (s:St):Prop where
 m:k.m=s.nx
 fz:∀ a u,k.S a=some u→w.cell? a=some u
 lt:∀ i c,s.get i=some c→i<s.nx
 box:∀ i c,s.get i=some c→BoxOk k w (k.φ i) c
 sep:∀ i j c d,s.get i=some c→s.get j=some d→i≠j→∀ x y,x<(k.φ i).cap→y<(k.φ j).cap→(k.φ i).at x≠(k.φ j).at y
 shp:Shp w0 w
 tz:TabSize w0
 ty:∀ i c T,s.get i=some c→(k.φ i).ty=some T→TyOk w (k.φ i) T
 cov:∀ a u,w0.cell? a=some u→k.S a=some u
theorem cell_block_lt {w:World} {a:Addr} {u:Value} (h:w.cell? a=some u):a.block<w.heap.size:=World.block_lt_of_cell? w a h
theorem Sim.drew {w0 w:World} {k:KW} {s:St} (h:Sim w0 k w s) (n:Nat):Sim w0 k { w with drawn:=n } s:=
 ⟨h.m,h.fz,h.lt,h.box,h.sep,h.shp.drew n,h.tz,h.ty,h.cov⟩
def KW.push (k:KW) (r:Rng):KW:=⟨fun i=>if i=k.m then r else k.φ i,k.m+1,k.S,k.tab⟩
theorem KW.push_le (k:KW) (r:Rng):KW.le k.m k (k.push r):=⟨Nat.le_succ _,fun i hi=>if_neg (Nat.ne_of_lt hi),fun _ _ h=>h⟩
theorem KW.push_same (k:KW) (r:Rng):(k.push r).φ k.m=r:=if_pos rfl
theorem KW.push_ne (k:KW) (r:Rng) (i:Nat) (h:i≠k.m):(k.push r).φ i=k.φ i:=if_neg h
theorem Sim.pushT {w0 w:World} {k:KW} {s:St} (h:Sim w0 k w s) (ty:Option TypeId) (us:List Value) (t:TypeId) (hty:∀ T,ty=some T→T=t) (c:List AV) (hl:c.length≤us.length) (hr:∀ (j:Nat) (z:AV) (u:Value),c[j]?=some z→us[j]?=some u→Rel (k.push ⟨w.heap.size,0,us.length,ty⟩) z u) :
  Sim w0 (k.push ⟨w.heap.size,0,us.length,ty⟩) (w.alloc (.cells us.toArray t)) (s.push c):=by
 have hle:=k.push_le ⟨w.heap.size,0,us.length,ty⟩
 have hm:=h.m
 have old:∀ a u,w.cell? a=some u→(w.alloc (.cells us.toArray t)).cell? a=some u:=fun a u hu=>(World.cell?_alloc_lt _ _ _ (cell_block_lt hu)).trans hu
 have hbox:∀ i c',s.get i=some c'→i≠k.m:=fun i c' hi=>by have:=h.lt i c' hi;omega
 refine⟨by rw[St.nx_push,←hm];rfl,fun a u hu=>old a u (h.fz a u hu),?_,?_,?_,h.shp.alloc _,h.tz,?_,h.cov⟩
 ·intro i c' hi
  rw[St.nx_push]
  by_cases e:i=s.nx
  ·omega
  ·rw[St.push_ne _ _ _ e] at hi
   have:=h.lt i c' hi
   omega
 ·intro i c' hi
  by_cases e:i=s.nx
  ·subst e
   rw[St.push_same] at hi
   injection hi with hi
   subst hi
   rw[←hm,KW.push_same]
   refine⟨hl,fun j hj=>?_⟩
   have hj':j<us.length:=hj
   refine⟨us[j],?_,?_,?_,fun z hz=>hr j z us[j] hz (by simp [hj'])⟩
   ·show (w.alloc (.cells us.toArray t)).cell? ⟨w.heap.size,0+j,none⟩=_
    rw[World.cell?_alloc_new,Nat.zero_add]
    simp [hj']
   ·show (w.alloc (.cells us.toArray t)).frozen? ⟨w.heap.size,0+j,none⟩=_
    rw[World.frozen?_alloc_new]
   ·show k.S ⟨w.heap.size,0+j,none⟩=none
    cases hS:k.S ⟨w.heap.size,0+j,none⟩ with
    | none=>rfl
    | some u=>exact absurd (cell_block_lt (h.fz _ _ hS)) (Nat.lt_irrefl _)
  ·rw[St.push_ne _ _ _ e] at hi
   rw[KW.push_ne _ _ _ (hbox i c' hi)]
   obtain⟨hc,hb⟩:=h.box i c' hi
   refine⟨hc,fun j hj=>?_⟩
   obtain⟨u,h1,h2,h3,h4⟩:=hb j hj
   exact⟨u,old _ _ h1,(World.frozen?_alloc_old _ _ _ (Nat.ne_of_lt (cell_block_lt h1))).trans h2,h3,fun z hz=>(h4 z hz).mono hle⟩
 ·intro i j c' d' hi hj hij x y hx hy
  by_cases e:i=s.nx
  ·subst e
   rw[St.push_ne _ _ _ (Ne.symm hij)] at hj
   rw[←hm,KW.push_same] at hx ⊢
   rw[KW.push_ne _ _ _ (hbox j d' hj)] at hy ⊢
   intro he
   obtain⟨u,h1,_⟩:=(h.box j d' hj).2 y hy
   rw[←he] at h1
   exact absurd (cell_block_lt h1) (Nat.lt_irrefl _)
  ·rw[St.push_ne _ _ _ e] at hi
   rw[KW.push_ne _ _ _ (hbox i c' hi)] at hx ⊢
   by_cases e':j=s.nx
   ·subst e'
    rw[←hm,KW.push_same] at hy ⊢
    intro he
    obtain⟨u,h1,_⟩:=(h.box i c' hi).2 x hx
    rw[he] at h1
    exact absurd (cell_block_lt h1) (Nat.lt_irrefl _)
   ·rw[St.push_ne _ _ _ e'] at hj
    rw[KW.push_ne _ _ _ (hbox j d' hj)] at hy ⊢
    exact h.sep i j c' d' hi hj hij x y hx hy
 ·intro i c' T hi hT
  by_cases e:i=s.nx
  ·subst e
   rw[←hm,KW.push_same] at hT ⊢
   obtain rfl:=hty T hT
   exact⟨rfl,us.toArray,(by show (w.heap.push _)[w.heap.size]?=_;exact Array.getElem?_push_size),by simp⟩
  ·rw[St.push_ne _ _ _ e] at hi
   rw[KW.push_ne _ _ _ (hbox i c' hi)] at hT ⊢
   obtain⟨h1,cs,h2,h3⟩:=h.ty i c' T hi hT
   exact⟨h1,cs,(Below.heap_alloc _ _ _ (Array.getElem?_eq_some_iff.1 h2).1).trans h2,h3⟩
theorem Sim.push {w0 w:World} {k:KW} {s:St} (h:Sim w0 k w s) (us:List Value) (t:TypeId) (c:List AV) (hl:c.length≤us.length) (hr:∀ (j:Nat) (z:AV) (u:Value),c[j]?=some z→us[j]?=some u→Rel k z u) :
  Sim w0 (k.push ⟨w.heap.size,0,us.length,none⟩) (w.alloc (.cells us.toArray t)) (s.push c):=h.pushT none us t (fun T h=>(by cases h)) c hl fun j z u hz hu=>(hr j z u hz hu).mono (k.push_le _)
theorem setCell_ty {w:World} {b n:Nat} {cs:Array Value} {T:TypeId} {a:Addr} {u:Value} (h:w.heap[b]?=some (.cells cs T (0,0))) (hn:cs.size=n):∃ cs',(w.setCell a u).heap[b]?=some (.cells cs' T (0,0))∧cs'.size=n:=by
 by_cases e:b=a.block
 ·subst e
  refine⟨if a.spot.isSome then cs else cs.setIfInBounds a.off u,by simp [World.setCell,Array.getElem?_modify,h],?_⟩
  split <;> simp [hn]
 ·exact⟨cs,(Below.heap_setCell _ _ _ _ e).trans h,hn⟩
theorem Sim.write {w0 w:World} {k:KW} {s:St} (h:Sim w0 k w s) {i:Nat} {c:List AV} (hi:s.get i=some c) {j:Nat} (hj:j<c.length) {z:AV} {u:Value} (hz:Rel k z u) :
  Sim w0 k (w.setCell ((k.φ i).at j) u) (s.set i (c.set j z)):=by
 obtain⟨hc,hb⟩:=h.box i c hi
 have hj':j<(k.φ i).cap:=Nat.lt_of_lt_of_le hj hc
 obtain⟨u0,g1,g2,g3,g4⟩:=hb j hj'
 have far:∀ a,a≠(k.φ i).at j→(w.setCell ((k.φ i).at j) u).cell? a=w.cell? a:=fun a ha=>World.cell?_setCell_other _ _ _ _ (Ne.symm ha)
 refine⟨h.m,fun a x hx=>?_,?_,?_,?_,h.shp.setCell _ _,h.tz,?_,h.cov⟩
 ·rw[far a (fun e=>by rw[e,g3] at hx;cases hx)]
  exact h.fz a x hx
 ·intro i' c' hi'
  rw[St.nx_set]
  by_cases e:i'=i
  ·subst e;exact h.lt _ c hi
  ·rw[St.set_ne _ _ _ _ e] at hi';exact h.lt i' c' hi'
 ·intro i' c' hi'
  by_cases e:i'=i
  ·subst e
   rw[St.set_same] at hi'
   injection hi' with hi'
   subst hi'
   refine⟨by simpa using hc,fun j' hj2=>?_⟩
   obtain⟨x,f1,f2,f3,f4⟩:=hb j' hj2
   by_cases ej:j'=j
   ·subst ej
    refine⟨u,World.cell?_setCell_same _ _ _ f1,by rw[World.frozen?_setCell];exact f2,f3,fun y hy=>?_⟩
    rw[List.getElem?_set_self hj] at hy
    injection hy with hy
    subst hy
    exact hz
   ·refine⟨x,?_,by rw[World.frozen?_setCell];exact f2,f3,fun y hy=>?_⟩
    ·rw[far _ (fun e=>ej (by unfold Rng.at at e;injection e with e1 e2 e3;omega))]
     exact f1
    ·rw[List.getElem?_set_ne (Ne.symm ej)] at hy
     exact f4 y hy
  ·rw[St.set_ne _ _ _ _ e] at hi'
   obtain⟨hc',hb'⟩:=h.box i' c' hi'
   refine⟨hc',fun j' hj2=>?_⟩
   obtain⟨x,f1,f2,f3,f4⟩:=hb' j' hj2
   refine⟨x,?_,by rw[World.frozen?_setCell];exact f2,f3,f4⟩
   rw[far _ (h.sep i' i c' c hi' hi e j' j hj2 hj')]
   exact f1
 ·intro a b ca cb ha hb2 hab x y hx hy
  have alive:∀ q cq,(s.set i (c.set j z)).get q=some cq→∃ cq',s.get q=some cq':=fun q cq hq=>by
   by_cases e:q=i
   ·subst e;exact⟨c,hi⟩
   ·rw[St.set_ne _ _ _ _ e] at hq;exact⟨cq,hq⟩
  obtain⟨ca',ha'⟩:=alive a ca ha
  obtain⟨cb',hb'⟩:=alive b cb hb2
  exact h.sep a b ca' cb' ha' hb' hab x y hx hy
 ·intro q cq T hq hT
  have alive:∃ cq',s.get q=some cq':=by
   by_cases e:q=i
   ·subst e;exact⟨c,hi⟩
   ·rw[St.set_ne _ _ _ _ e] at hq;exact⟨cq,hq⟩
  obtain⟨cq',hq'⟩:=alive
  obtain⟨h1,cs,h2,h3⟩:=h.ty q cq' T hq' hT
  exact⟨h1,setCell_ty h2 h3⟩
theorem Sim.kill {w0 w:World} {k:KW} {s:St} (h:Sim w0 k w s) (i:Nat):Sim w0 k w (s.kill i):=by
 have alive:∀ q cq,(s.kill i).get q=some cq→s.get q=some cq:=fun q cq hq=>by
  by_cases e:q=i
  ·subst e;rw[St.kill_same] at hq;cases hq
  ·rwa [St.kill_ne _ _ _ e] at hq
 exact⟨h.m,h.fz,fun q c hq=>h.lt q c (alive q c hq),fun q c hq=>h.box q c (alive q c hq),fun a b ca cb ha hb=>h.sep a b ca cb (alive _ _ ha) (alive _ _ hb),h.shp,h.tz,fun q c T hq=>h.ty q c T (alive q c hq),h.cov⟩
theorem Sim.ghost {w0 w:World} {k:KW} {s:St} (h:Sim w0 k w s):Sim w0 (k.push ⟨0,0,0,none⟩) w (s.push []):=by
 have hle:=k.push_le ⟨0,0,0,none⟩
 have hm:=h.m
 have hne:∀ q c,s.get q=some c→q≠k.m:=fun q c hq=>by have:=h.lt q c hq;omega
 refine⟨by rw[St.nx_push,←hm];rfl,h.fz,?_,?_,?_,h.shp,h.tz,?_,h.cov⟩
 ·intro i c hi
  rw[St.nx_push]
  by_cases e:i=s.nx
  ·omega
  ·rw[St.push_ne _ _ _ e] at hi
   have:=h.lt i c hi
   omega
 ·intro i c hi
  by_cases e:i=s.nx
  ·subst e
   rw[St.push_same] at hi
   injection hi with hi
   subst hi
   rw[←hm,KW.push_same]
   exact⟨Nat.zero_le _,fun j hj=>absurd hj (Nat.not_lt_zero _)⟩
  ·rw[St.push_ne _ _ _ e] at hi
   rw[KW.push_ne _ _ _ (hne i c hi)]
   obtain⟨hc,hb⟩:=h.box i c hi
   refine⟨hc,fun j hj=>?_⟩
   obtain⟨u,h1,h2,h3,h4⟩:=hb j hj
   exact⟨u,h1,h2,h3,fun z hz=>(h4 z hz).mono hle⟩
 ·intro i j c d hi hj hij x y hx hy
  by_cases e:i=s.nx
  ·subst e
   rw[←hm,KW.push_same] at hx
   exact absurd hx (Nat.not_lt_zero _)
  ·rw[St.push_ne _ _ _ e] at hi
   rw[KW.push_ne _ _ _ (hne i c hi)] at hx ⊢
   by_cases e':j=s.nx
   ·subst e'
    rw[←hm,KW.push_same] at hy
    exact absurd hy (Nat.not_lt_zero _)
   ·rw[St.push_ne _ _ _ e'] at hj
    rw[KW.push_ne _ _ _ (hne j d hj)] at hy ⊢
    exact h.sep i j c d hi hj hij x y hx hy
 ·intro i c T hi hT
  by_cases e:i=s.nx
  ·subst e
   rw[←hm,KW.push_same] at hT
   cases hT
  ·rw[St.push_ne _ _ _ e] at hi
   rw[KW.push_ne _ _ _ (hne i c hi)] at hT ⊢
   exact h.ty i c T hi hT
end Ax
namespace Ax
open Go Go.RowKit
variable {P:Program}
inductive K where
 | int (k:IntKind) | str | bool | sl (e:TypeId) | st (fs:List (Nat × TypeId)) | ar (n:Nat) (e:TypeId) | pt (e:TypeId) | ifc | mp (k e:TypeId) | fn | ot
structure TI where
 k:K
 size:Nat
 bytes:Nat
 zero:List Value
def kindOf (P:Program) (t:TypeId):K:=
 match P.underlying t with
 | some (.int k)=>.int k
 | some .string=>.str
 | some .bool=>.bool
 | some (.slice e)=>.sl e
 | some (.struct fs)=>.st (fs.toList.map fun f=>(f.offset,f.type))
 | some (.array n e)=>.ar n e
 | some (.pointer e)=>.pt e
 | some (.interface _)=>.ifc
 | some (.map k e)=>.mp k e
 | some (.func ..)=>.fn
 | _=>.ot
def tiOf (P:Program) (t:TypeId):Option TI:=
 match P.underlying t,P.info? t with
 | some _,some i=>match i.zero with
  | some z=>some ⟨kindOf P t,i.size,i.bytes,z.cells.toList⟩
  | none=>none
 | _,_=>none
theorem ti_info {t:TypeId} {ti:TI} (h:tiOf P t=some ti):∃ d i z,P.underlying t=some d∧P.info? t=some i∧i.zero=some z∧i.size=ti.size∧i.bytes=ti.bytes∧z.cells.toList=ti.zero∧ti.k=kindOf P t:=by
 unfold tiOf at h
 split at h
 ·rename_i d i hd hi
  split at h
  ·rename_i z hz
   injection h with h
   subst h
   exact⟨d,i,z,hd,hi,hz,rfl,rfl,rfl,rfl⟩
  ·cases h
 ·cases h
theorem kind_sl {t e:TypeId} (h:kindOf P t=.sl e):P.underlying t=some (.slice e):=by
 unfold kindOf at h
 split at h <;> first | (injection h with h;subst h;assumption) | cases h
theorem kind_st {t:TypeId} {fs:List (Nat × TypeId)} (h:kindOf P t=.st fs):∃ gs,P.underlying t=some (.struct gs)∧fs=gs.toList.map fun f=>(f.offset,f.type):=by
 unfold kindOf at h
 split at h <;> first | (injection h with h;exact⟨_,by assumption,h.symm⟩) | cases h
theorem kind_ar {t e:TypeId} {n:Nat} (h:kindOf P t=.ar n e):P.underlying t=some (.array n e):=by
 unfold kindOf at h
 split at h <;> first | (injection h with h h';subst h h';assumption) | cases h
theorem kind_str {t:TypeId} (h:kindOf P t=.str):P.underlying t=some .string:=by
 unfold kindOf at h
 split at h <;> first | assumption | cases h
theorem kind_int {t:TypeId} {k:IntKind} (h:kindOf P t=.int k):P.underlying t=some (.int k):=by
 unfold kindOf at h
 split at h <;> first | (injection h with h;subst h;assumption) | cases h
theorem kind_bool {t:TypeId} (h:kindOf P t=.bool):P.underlying t=some .bool:=by
 unfold kindOf at h
 split at h <;> first | assumption | cases h
theorem kind_pt {t e:TypeId} (h:kindOf P t=.pt e):P.underlying t=some (.pointer e):=by
 unfold kindOf at h
 split at h <;> first | (injection h with h;subst h;assumption) | cases h
theorem kind_ifc {t:TypeId} (h:kindOf P t=.ifc):∃ ms,P.underlying t=some (.interface ms):=by
 unfold kindOf at h
 split at h <;> first | exact⟨_,by assumption⟩ | cases h
def TI.agg (t:TI):Bool:=match t.k with | .st _ | .ar .. => true | _=>false
def aggDesc:TypeDesc→Bool | .struct _ | .array _ _=>true | _=>false
theorem agg_desc {t:TypeId} {ti:TI} {d:TypeDesc} (hd:P.underlying t=some d) (hk:ti.k=kindOf P t):ti.agg=aggDesc d:=by
 unfold TI.agg
 rw[hk]
 unfold kindOf
 simp only[hd]
 cases d <;> rfl
theorem run_isAgg {t:TypeId} {ti:TI} (h:tiOf P t=some ti) (w:World):(isAgg t).run P w=.ok ti.agg w:=by
 obtain⟨d,i,z,hd,hi,hz,hs,hb,hc,hk⟩:=ti_info h
 rw[agg_desc hd hk]
 unfold isAgg underlying
 cases d <;> simp [program,Sem.run,Sem.run_bind,hd,Result.andThen] <;> rfl
theorem run_sizeOf {t:TypeId} {ti:TI} (h:tiOf P t=some ti) (w:World):(sizeOf t).run P w=.ok ti.size w:=by
 obtain⟨d,i,z,hd,hi,hz,hs,hb,hc,hk⟩:=ti_info h
 unfold Go.sizeOf typeInfo
 simp [program,Sem.run,Sem.run_bind,hi,Result.andThen,hs]
def AV.cells:AV→List AV
 | .ag c=>c
 | z=>[z]
def AV.one:AV→Bool
 | .v x=>x.oneCell'
 | .sl .. | .slc .. | .rf .. | .own .. | .ptr .. | .fn .. | .bp .. | .bq .. | .ob .. => true
 | _=>false
theorem Rel.one {k:KW} {z:AV} {u:Value} (h:Rel k z u) (h1:z.one=true):u.oneCell'=true∧u.cells = #[u]:=by
 cases h with
 | v=>exact⟨h1,by cases u <;> first | rfl | cases h1⟩
 | sl | sl0 | slc | rf | own | own0 | ptr | fn | bp0 | bp | bq0 | bq | ob0 | ob=>exact⟨rfl,rfl⟩
 | ag | tp | no=>cases h1
def Reads (k:KW) (w:World) (a:Addr) (c:List AV):Prop:=∀ (j:Nat) (z:AV),c[j]?=some z→∃ u,w.cell? (a.add j)=some u∧Rel k z u
theorem Reads.drop {k:KW} {w:World} {a:Addr} {c:List AV} (h:Reads k w a c) (n:Nat):Reads k w (a.add n) (c.drop n):=by
 intro j z hz
 rw[List.getElem?_drop] at hz
 rw[Addr.add_add]
 exact h _ _ hz
theorem reads_rf {w0 w:World} {k:KW} {s:St} (hs:Sim w0 k w s) {c:List AV} {u:Value} (h:Rel k (.rf c) u):∃ a,u=.pointer (some a)∧Reads k w a c:=by
 cases h with
 | rf _ a us h1 h2=>
  refine⟨a,rfl,fun j z hz=>⟨us j,hs.fz _ _ (h1 j ?_),h2 j z hz⟩⟩
  exact(List.getElem?_eq_some_iff.1 hz).1
theorem reads_ptr {w0 w:World} {k:KW} {s:St} (hs:Sim w0 k w s) {id off:Nat} {c:List AV} {u:Value} (hc:s.get id=some c) (h:Rel k (.ptr id off) u):∃ a,u=.pointer (some a)∧a=(k.φ id).at off∧Reads k w a (c.drop off):=by
 cases h with
 | ptr _ _ hi=>
  refine⟨_,rfl,rfl,fun j z hz=>?_⟩
  rw[List.getElem?_drop] at hz
  rw[Rng.at_add]
  obtain⟨hl,hb⟩:=hs.box id c hc
  have hlt:=(List.getElem?_eq_some_iff.1 hz).1
  obtain⟨u,h1,h2,h3,h4⟩:=hb (off+j) (by omega)
  exact⟨u,h1,h4 z hz⟩
theorem loadCells_reads {k:KW} {w:World} {a:Addr} {c:List AV} (h:Reads k w a c) {n:Nat} (hn:n≤c.length):∃ us:List Value,us.length=n∧(loadCells a n).run P w=.ok us.toArray w∧(∀ (j:Nat) (u:Value),us[j]?=some u→w.cell? (a.add j)=some u)∧∀ (j:Nat) (z:AV) (u:Value),c[j]?=some z→us[j]?=some u→Rel k z u:=by
 have hx:∀ j:Fin n,∃ u,w.cell? (a.add j.1)=some u∧Rel k (c[j.1]'(by omega)) u:=fun j=>h j.1 _ (by simp)
 have hf:=fun j=>Classical.choose_spec (hx j)
 let f:Nat→Value:=fun j=>if hj:j<n then Classical.choose (hx ⟨j,hj⟩) else undef
 have hf':∀ j,(hj:j<n)→w.cell? (a.add j)=some (f j)∧Rel k (c[j]'(by omega)) (f j):=by
  intro j hj
  have:f j=Classical.choose (hx ⟨j,hj⟩):=dif_pos hj
  rw[this]
  exact hf ⟨j,hj⟩
 refine⟨(List.range n).map f,by simp,?_,?_,?_⟩
 ·exact run_loadCells (P:=P) (w:=w) a n f (fun j hj=>(hf' j hj).1)
 ·intro j u hu
  rw[List.getElem?_map] at hu
  by_cases hj:j<n
  ·rw[List.getElem?_range hj] at hu
   injection hu with hu
   subst hu
   exact(hf' j hj).1
  ·rw[List.getElem?_eq_none (by simpa using hj)] at hu
   cases hu
 ·intro j z u hz hu
  rw[List.getElem?_map] at hu
  by_cases hj:j<n
  ·rw[List.getElem?_range hj] at hu
   injection hu with hu
   subst hu
   have e:c[j]'(by omega)=z:=by
    have:=List.getElem?_eq_getElem (l:=c) (i:=j) (by omega)
    rw[this] at hz
    injection hz
   rw[←e]
   exact(hf' j hj).2
  ·rw[List.getElem?_eq_none (by simpa using hj)] at hu
   cases hu
def loadA (ti:TI) (c:List AV):Option AV:=
 if ti.agg then (if ti.size≤c.length then some (.ag (c.take ti.size)) else none) else c.head?
theorem load_reads {k:KW} {w:World} {a:Addr} {c:List AV} (h:Reads k w a c) {t:TypeId} {ti:TI} (ht:tiOf P t=some ti) {z:AV} (hz:loadA ti c=some z) :
  ∃ u,(loadVar t a).run P w=.ok u w∧Rel k z u:=by
 unfold loadA at hz
 unfold loadVar
 split at hz
 ·rename_i hg
  split at hz
  ·rename_i hs
   injection hz with hz
   subst hz
   obtain⟨us,hl,hr,hq,hrel⟩:=loadCells_reads (P:=P) h hs
   refine⟨.agg us.toArray,?_,?_⟩
   ·simp only[Sem.run_bind,run_isAgg ht,hg,Result.andThen_ok,if_true,run_sizeOf ht,hr,Sem.run_pure]
   ·refine .ag _ us (by simp [hl];omega) fun j z u hz hu=>?_
    rw[List.getElem?_take] at hz
    split at hz
    ·exact hrel j z u hz hu
    ·cases hz
  ·cases hz
 ·rename_i hg
  obtain⟨u,h1,h2⟩:=h 0 z (by rw[←hz];cases c <;> rfl)
  have e:a.add 0=a:=by simp [Addr.add]
  rw[e] at h1
  refine⟨u,?_,h2⟩
  simp only[Sem.run_bind,run_isAgg ht,hg,Result.andThen_ok,Bool.false_eq_true,if_false]
  rw[run_load,h1]
end Ax
namespace Ax
open Go Go.RowKit
variable {P:Program}
def Gives (P:Program) (w0:World) (k:KW) (m:Sem Next) (w:World) (z:AV) (s':St):Prop:=
 ∃ n w' k',m.run P w=.ok n w'∧(match n with | .value v=>Rel k' z v | .skip=>z=.no | _=>False)∧Sim w0 k' w' s'∧KW.le k.m k k'
def GivesV (P:Program) (w0:World) (k:KW) (m:Sem Value) (w:World) (z:AV) (s':St):Prop:=
 ∃ v w' k',m.run P w=.ok v w'∧Rel k' z v∧Sim w0 k' w' s'∧KW.le k.m k k'
theorem GivesV.gives {w0:World} {k:KW} {m:Sem Value} {w:World} {z:AV} {s':St} (h:GivesV P w0 k m w z s'):Gives P w0 k (do pure (.value (←m))) w z s':=by
 obtain⟨v,w',k',h1,h2,h3,h4⟩:=h
 exact⟨.value v,w',k',by simp only[Sem.run_bind,h1,Result.andThen_ok,Sem.run_pure],h2,h3,h4⟩
theorem GivesV.pure {w0:World} {k:KW} {m:Sem Value} {w:World} {z:AV} {s:St} {v:Value} (hs:Sim w0 k w s) (h:m.run P w=.ok v w) (hr:Rel k z v):GivesV P w0 k m w z s:=
 ⟨v,w,k,h,hr,hs,KW.le_refl (Nat.le_refl _)⟩
def AV.boxable:AV→Bool
 | .ag _=>true
 | z=>z.one
theorem Rel.cells {k:KW} {z:AV} {u:Value} (h:Rel k z u) (h1:z.boxable=true):∃ us:List Value,u.cells=us.toArray∧us.length=z.cells.length∧∀ (j:Nat) (y:AV) (x:Value),z.cells[j]?=some y→us[j]?=some x→Rel k y x:=by
 have single:z.one=true→z.cells=[z]→∃ us:List Value,u.cells=us.toArray∧us.length=z.cells.length∧∀ (j:Nat) (y:AV) (x:Value),z.cells[j]?=some y→us[j]?=some x→Rel k y x:=by
  intro ho hc
  refine⟨[u],(h.one ho).2,by rw[hc];rfl,fun j y x hy hx=>?_⟩
  rw[hc] at hy
  match j with
  | 0=>
   simp at hy hx
   subst hy hx
   exact h
  | j+1=>simp at hy
 cases z with
 | ag c=>
  cases h with
  | ag _ us hl hr=>exact⟨us,rfl,hl,hr⟩
 | v=>exact single h1 rfl
 | sl=>exact single h1 rfl
 | slc=>exact single h1 rfl
 | rf=>exact single h1 rfl
 | own=>exact single h1 rfl
 | ptr=>exact single h1 rfl
 | fn=>exact single h1 rfl
 | bp=>exact single h1 rfl
 | bq=>exact single h1 rfl
 | ob=>exact single h1 rfl
 | tp=>cases h1
 | no=>cases h1
theorem alloc_gives {w0 w:World} {k:KW} {s:St} (hs:Sim w0 k w s) {e:TypeId} {ti:TI} (he:tiOf P e=some ti) :
  GivesV P w0 k (Instr.alloc e true (.tuple #[])) w (.ptr s.nx 0) (s.push (ti.zero.map .v)):=by
 obtain⟨d,i,z,hd,hi,hz,hsz,hb,hc,hk⟩:=ti_info he
 have h:=hs.push ti.zero e (ti.zero.map .v) (by simp) (by
  intro j y u hy hu
  rw[List.getElem?_map,hu] at hy
  injection hy with hy
  subst hy
  exact .v u)
 refine⟨.pointer (some ⟨w.heap.size,0,none⟩),_,_,?_,?_,h,k.push_le _⟩
 ·have e1:z.cells=ti.zero.toArray:=by rw[←hc]
  simp [Instr.alloc,zeroValue,typeInfo,program,Sem.run_bind,Sem.run,hi,hz,Result.andThen,newVar,newRow,newObj,e1]
 ·have:=Rel.ptr (k:=k.push ⟨w.heap.size,0,ti.zero.length,none⟩) k.m 0 (Nat.lt_succ_self _)
  rw[KW.push_same] at this
  rw[←hs.m]
  exact this
theorem box_gives {w0 w:World} {k:KW} {s:St} (hs:Sim w0 k w s) {e:TypeId} {z:AV} {u:Value} (hu:Rel k z u) (hb:z.boxable=true) :
  GivesV P w0 k (Instr.box e u) w (.ptr s.nx 0) (s.push z.cells):=by
 obtain⟨us,h1,h2,h3⟩:=hu.cells hb
 have h:=hs.push us e z.cells (by omega) h3
 refine⟨.pointer (some ⟨w.heap.size,0,none⟩),_,_,?_,?_,h,k.push_le _⟩
 ·simp [Instr.box,newVar,newRow,newObj,Sem.run_bind,Sem.run,Result.andThen,h1]
 ·have:=Rel.ptr (k:=k.push ⟨w.heap.size,0,us.length,none⟩) k.m 0 (Nat.lt_succ_self _)
  rw[KW.push_same] at this
  rw[←hs.m]
  exact this
def xload (P:Program) (s:St) (t:TypeId) (x:AV):Option AV:=
 match tiOf P t with
 | none=>none
 | some ti=>match x with
  | .rf c=>loadA ti c
  | .ptr id off=>match s.get id with
   | some c=>loadA ti (c.drop off)
   | none=>none
  | _=>none
theorem load_gives {w0 w:World} {k:KW} {s:St} (hs:Sim w0 k w s) {t:TypeId} {x z:AV} {u:Value} (hu:Rel k x u) (h:xload P s t x=some z) :
  GivesV P w0 k (Instr.loadAt t u) w z s:=by
 unfold xload at h
 split at h
 ·cases h
 ·rename_i ti ht
  split at h
  ·obtain⟨a,rfl,hr⟩:=reads_rf hs hu
   obtain⟨v,h1,h2⟩:=load_reads hr ht h
   exact .pure hs (by simp only[Instr.loadAt,Instr.sureAddr,Sem.run_bind,Sem.run_pure,Result.andThen_ok,h1]) h2
  ·split at h
   ·rename_i c hc
    obtain⟨a,rfl,_,hr⟩:=reads_ptr hs hc hu
    obtain⟨v,h1,h2⟩:=load_reads hr ht h
    exact .pure hs (by simp only[Instr.loadAt,Instr.sureAddr,Sem.run_bind,Sem.run_pure,Result.andThen_ok,h1]) h2
   ·cases h
  ·cases h
def spl (c:List AV):Nat→List AV→List AV
 | _,[]=>c
 | n,z::zs=>spl (c.set n z) (n+1) zs
theorem spl_length (zs:List AV):∀ (c:List AV) (n:Nat),(spl c n zs).length=c.length:=by
 induction zs with
 | nil=>intro c n;rfl
 | cons z zs ih=>intro c n;rw[spl,ih,List.length_set]
theorem St.set_set (s:St) (i:Nat) (a b:List AV):(s.set i a).set i b=s.set i b:=by
 unfold St.set
 congr 1
 funext j
 by_cases h:j=i <;> simp [h]
theorem St.set_get (s:St) (i:Nat) (a:List AV) (h:s.get i=some a):s.set i a=s:=by
 unfold St.set
 cases s
 congr 1
 funext j
 by_cases e:j=i
 ·subst e;simpa using h.symm
 ·simp [e]
theorem storeCells_box (id off:Nat) (us:List Value):∀ (zs:List AV) (i:Nat) (w0 w:World) (k:KW) (s:St) (c:List AV),us.length=zs.length→(∀ (j:Nat) (u:Value),us[j]?=some u→u.oneCell'=true) →
  (∀ (j:Nat) (z:AV) (u:Value),zs[j]?=some z→us[j]?=some u→Rel k z u)→Sim w0 k w s→s.get id=some c→off+i+us.length≤c.length →
  ∃ w',(storeCells ((k.φ id).at off) us i).run P w=.ok () w'∧Sim w0 k w' (s.set id (spl c (off+i) zs)):=by
 induction us with
 | nil=>
  intro zs i w0 w k s c hl h1 hr hs hc hb
  have:zs=[]:=List.eq_nil_of_length_eq_zero (by simpa using hl.symm)
  subst this
  exact⟨w,rfl,by rw[spl,St.set_get _ _ _ hc];exact hs⟩
 | cons u us ih=>
  intro zs i w0 w k s c hl h1 hr hs hc hb
  cases zs with
  | nil=>cases hl
  | cons z zs=>
   simp only[List.length_cons] at hl hb
   have hw:=hs.write hc (j:=off+i) (by omega) (hr 0 z u rfl rfl)
   obtain⟨w',r1,r2⟩:=ih zs (i+1) w0 _ k (s.set id (c.set (off+i) z)) (c.set (off+i) z) (by omega) (fun j v hv=>h1 (j+1) v hv) (fun j y v hy hv=>hr (j+1) y v hy hv) hw (St.set_same _ _ _) (by rw[List.length_set];omega)
   refine⟨w',?_,?_⟩
   ·obtain⟨hbl,hbb⟩:=hs.box id c hc
    obtain⟨x,g1,g2,g3,g4⟩:=hbb (off+i) (by omega)
    simp only[storeCells,Sem.run_bind,Rng.at_add]
    rw[run_store P w _ u _ (h1 0 u rfl),g1]
    simp only[g2,Bool.false_eq_true,if_false,Result.andThen_ok]
    exact r1
   ·rw[St.set_set] at r2
    exact r2
def xstore (P:Program) (s:St) (t:TypeId) (p x:AV):Option St:=
 match p,tiOf P t with
 | .ptr id off,some ti=>match s.get id with
  | some c=>if x.cells.length=ti.size∧off+ti.size≤c.length∧x.cells.all AV.one=true then some (s.set id (spl c off x.cells)) else none
  | none=>none
 | _,_=>none
theorem AV.boxable_of_all {z:AV} (h:z.cells.all AV.one=true):z.boxable=true:=by
 cases z <;> first | rfl | (simpa [AV.cells,AV.boxable] using h)
theorem store_gives {w0 w:World} {k:KW} {s s':St} (hs:Sim w0 k w s) {t:TypeId} {p x:AV} {up ux:Value} (hp:Rel k p up) (hx:Rel k x ux) (h:xstore P s t p x=some s') :
  ∃ w',(Instr.storeAt t up ux).run P w=.ok () w'∧Sim w0 k w' s':=by
 unfold xstore at h
 split at h
 ·rename_i id off ti ht
  split at h
  ·rename_i c hc
   split at h
   ·rename_i hh
    obtain⟨e1,e2,e3⟩:=hh
    injection h with h
    subst h
    obtain⟨a,rfl,rfl,_⟩:=reads_ptr hs hc hp
    obtain⟨us,h1,h2,h3⟩:=hx.cells (AV.boxable_of_all e3)
    obtain⟨w',r1,r2⟩:=storeCells_box (P:=P) id off us x.cells 0 w0 w k s c h2 (by
     intro j u hu
     have hj:=(List.getElem?_eq_some_iff.1 hu).1
     have hy:x.cells[j]?=some (x.cells[j]'(by omega)):=List.getElem?_eq_getElem _
     exact((h3 j _ u hy hu).one (List.all_eq_true.1 e3 _ (List.getElem_mem _))).1) h3 hs hc (by omega)
    refine⟨w',?_,r2⟩
    simp only[Instr.storeAt,Instr.sureAddr,storeVar,Sem.run_bind,Sem.run_pure,Result.andThen_ok,run_sizeOf ht,h1]
    have:us.toArray.size=ti.size:=by simp;omega
    simp only[this,ne_eq,not_true_eq_false,if_false,Sem.run_bind,Sem.run_pure,Result.andThen_ok]
    exact r1
   ·cases h
  ·cases h
 ·cases h
def xfield (P:Program) (t:TypeId) (x:AV) (f:Nat):Option AV:=
 match tiOf P t with
 | some ti=>match ti.k with
  | .st fs=>match fs[f]? with
   | some (off,ft)=>match tiOf P ft with
    | some fi=>if fi.size=0 then none else match x with
     | .rf c=>some (.rf (c.drop off))
     | .ptr id o=>some (.ptr id (o+off))
     | .ag c=>loadA fi (c.drop off)
     | _=>none
    | none=>none
   | none=>none
  | _=>none
 | none=>none
theorem Rel.rf_drop {k:KW} {c:List AV} {a:Addr} (h:Rel k (.rf c) (.pointer (some a))) (n:Nat):Rel k (.rf (c.drop n)) (.pointer (some (a.add n))):=by
 cases h with
 | rf _ _ us h1 h2=>
  refine .rf _ _ (fun j=>us (n+j)) (fun j hj=>?_) (fun j z hz=>?_)
  ·rw[Addr.add_add]
   exact h1 (n+j) (by rw[List.length_drop] at hj;omega)
  ·rw[List.getElem?_drop] at hz
   exact h2 _ _ hz
theorem Rel.ptr_add {k:KW} {id off:Nat} {a:Addr} (h:Rel k (.ptr id off) (.pointer (some a))) (n:Nat):Rel k (.ptr id (off+n)) (.pointer (some (a.add n))):=by
 cases h with
 | ptr _ _ hi=>
  rw[Rng.at_add]
  exact .ptr _ _ hi
theorem field_st {t:TypeId} {ti:TI} {fs:List (Nat × TypeId)} {f off:Nat} {ft:TypeId} (ht:tiOf P t=some ti) (hk:ti.k=.st fs) (hf:fs[f]?=some (off,ft)) :
  ∃ gs g,P.underlying t=some (.struct gs)∧gs[f]?=some g∧g.offset=off∧g.type=ft:=by
 obtain⟨d,i,z,hd,hi,hz,hsz,hb,hc,hk2⟩:=ti_info ht
 rw[hk] at hk2
 obtain⟨gs,h1,h2⟩:=kind_st hk2.symm
 subst h2
 rw[List.getElem?_map] at hf
 cases hg:gs.toList[f]? with
 | none=>rw[hg] at hf;cases hf
 | some g=>
  rw[hg] at hf
  injection hf with hf
  injection hf with hf1 hf2
  exact⟨gs,g,h1,by simpa using hg,hf1,hf2⟩
theorem fieldAt_gives {w0 w:World} {k:KW} {s:St} (hs:Sim w0 k w s) {t:TypeId} {f:Nat} {x z:AV} {u:Value} (hu:Rel k x u) (hx:∀ c,x≠.ag c) (h:xfield P t x f=some z) :
  GivesV P w0 k (Instr.fieldAt t u f) w z s:=by
 unfold xfield at h
 split at h
 ·rename_i ti ht
  split at h
  ·rename_i fs hk
   split at h
   ·rename_i off ft hf
    split at h
    ·rename_i fi hfi
     split at h
     ·cases h
     ·rename_i hz
      obtain⟨gs,g,h1,h2,rfl,rfl⟩:=field_st ht hk hf
      have run:∀ a,(Instr.fieldAt t (.pointer (some a)) f).run P w=.ok (.pointer (some (a.add g.offset))) w:=by
       intro a
       simp [Instr.fieldAt,run_underlying h1,h2,Instr.sureAddr,fieldPlace,run_sizeOf hfi,hz,Sem.run_bind]
      split at h
      ·injection h with h
       subst h
       obtain⟨a,rfl,_⟩:=reads_rf hs hu
       exact .pure hs (run a) (hu.rf_drop _)
      ·injection h with h
       subst h
       cases hu with
       | ptr _ _ hi=>exact .pure hs (run _) ((Rel.ptr _ _ hi).ptr_add _)
      ·exact absurd rfl (hx _)
      ·cases h
    ·cases h
   ·cases h
  ·cases h
 ·cases h
end Ax
namespace Ax
open Go Go.RowKit
variable {P:Program}
theorem field_gives {w0 w:World} {k:KW} {s:St} (hs:Sim w0 k w s) {t:TypeId} {f:Nat} {c:List AV} {z:AV} {u:Value} (hu:Rel k (.ag c) u) (h:xfield P t (.ag c) f=some z) :
  GivesV P w0 k (Instr.field t u f) w z s:=by
 unfold xfield at h
 split at h
 ·rename_i ti ht
  split at h
  ·rename_i fs hk
   split at h
   ·rename_i off ft hf
    split at h
    ·rename_i fi hfi
     split at h
     ·cases h
     ·obtain⟨gs,g,h1,h2,rfl,rfl⟩:=field_st ht hk hf
      cases hu with
      | ag _ us hl hr=>
       have hg:∀ (j:Nat) (y:AV) (x:Value),(c.drop g.offset)[j]?=some y→(us.drop g.offset)[j]?=some x→Rel k y x:=by
        intro j y x hy hx
        rw[List.getElem?_drop] at hy hx
        exact hr _ _ _ hy hx
       simp only at h
       unfold loadA at h
       split at h
       ·rename_i ha
        split at h
        ·rename_i hsz
         injection h with h
         subst h
         refine .pure hs (v:=.agg ((us.drop g.offset).take fi.size).toArray) ?_ (.ag _ _ (by simp [hl]) fun j y x hy hx=>?_)
         ·simp only[Instr.field,Sem.run_bind,run_underlying h1,Result.andThen_ok,h2,asAgg,Sem.run_pure,part,run_isAgg hfi,ha,if_true,run_sizeOf hfi]
          congr 1
          simp [List.take_drop]
         ·rw[List.getElem?_take] at hy hx
          split at hy
          ·rw[if_pos (by assumption)] at hx
           exact hg j y x hy hx
          ·cases hy
        ·cases h
       ·rename_i ha
        have h0:(c.drop g.offset)[0]?=some z:=by rw[←h];cases c.drop g.offset <;> rfl
        rw[List.getElem?_drop,Nat.add_zero] at h0
        have hlt:=(List.getElem?_eq_some_iff.1 h0).1
        have hx:us[g.offset]?=some (us[g.offset]'(by omega)):=List.getElem?_eq_getElem _
        refine .pure hs (v:=us[g.offset]'(by omega)) ?_ (hr _ _ _ h0 hx)
        simp only[Instr.field,Sem.run_bind,run_underlying h1,Result.andThen_ok,h2,asAgg,Sem.run_pure,part,run_isAgg hfi,ha,Bool.false_eq_true,if_false]
        simp [hx]
    ·cases h
   ·cases h
  ·cases h
 ·cases h
def xindexAddr (P:Program) (t:TypeId) (x i:AV):Option AV:=
 match tiOf P t,i with
 | some ti,.v (.int _ i)=>match ti.k with
  | .sl e=>match tiOf P e with
   | some ei=>match x with
    | .sl n c=>if 0≤i∧i<(n:Int) then some (.rf (c.drop (i.toNat*ei.size))) else none
    | .own id off n sz=>if sz=ei.size∧0≤i∧i<(n:Int) then some (.ptr id (off+i.toNat*ei.size)) else none
    | .slc n m sz c=>if sz=ei.size∧0≤i∧i<(n:Int) then some (.rf (c.drop (i.toNat*ei.size))) else none
    | _=>none
   | none=>none
  | _=>none
 | _,_=>none
theorem under_ar {t e:TypeId} {n:Nat} {ti:TI} (ht:tiOf P t=some ti) (hk:ti.k=.ar n e):P.underlying t=some (.array n e):=by
 obtain⟨d,i,z,hd,hi,hz,hsz,hb,hc,hk2⟩:=ti_info ht
 exact kind_ar (hk ▸ hk2).symm
theorem under_sl {t e:TypeId} {ti:TI} (ht:tiOf P t=some ti) (hk:ti.k=.sl e):P.underlying t=some (.slice e):=by
 obtain⟨d,i,z,hd,hi,hz,hsz,hb,hc,hk2⟩:=ti_info ht
 exact kind_sl (hk ▸ hk2).symm
theorem under_str {t:TypeId} {ti:TI} (ht:tiOf P t=some ti) (hk:ti.k=.str):P.underlying t=some .string:=by
 obtain⟨d,i,z,hd,hi,hz,hsz,hb,hc,hk2⟩:=ti_info ht
 exact kind_str (hk ▸ hk2).symm
theorem under_int {t:TypeId} {k:IntKind} {ti:TI} (ht:tiOf P t=some ti) (hk:ti.k=.int k):P.underlying t=some (.int k):=by
 obtain⟨d,i,z,hd,hi,hz,hsz,hb,hc,hk2⟩:=ti_info ht
 exact kind_int (hk ▸ hk2).symm
theorem under_bool {t:TypeId} {ti:TI} (ht:tiOf P t=some ti) (hk:ti.k=.bool):P.underlying t=some .bool:=by
 obtain⟨d,i,z,hd,hi,hz,hsz,hb,hc,hk2⟩:=ti_info ht
 exact kind_bool (hk ▸ hk2).symm
theorem under_pt {t e:TypeId} {ti:TI} (ht:tiOf P t=some ti) (hk:ti.k=.pt e):P.underlying t=some (.pointer e):=by
 obtain⟨d,i,z,hd,hi,hz,hsz,hb,hc,hk2⟩:=ti_info ht
 exact kind_pt (hk ▸ hk2).symm
theorem Rel.sl_form {k:KW} {n:Nat} {c:List AV} {u:Value} (h:Rel k (.sl n c) u):∃ a cap,u=.slice a n cap∧(0<n→∃ b,a=some b∧n≤cap)∧∀ b,a=some b→Rel k (.rf c) (.pointer (some b)):=by
 cases h with
 | sl _ cap _ a us hn h1 h2=>exact⟨some a,cap,rfl,fun _=>⟨a,rfl,hn⟩,fun b hb=>by injection hb with hb;subst hb;exact .rf _ _ us h1 h2⟩
 | sl0 a cap=>exact⟨a,cap,rfl,fun h=>absurd h (Nat.lt_irrefl _),fun b hb=>.rf _ _ (fun _=>undef) (fun j hj=>absurd hj (Nat.not_lt_zero _)) (fun j z hz=>by simp at hz)⟩
theorem Rel.v_eq {k:KW} {x u:Value} (h:Rel k (.v x) u):u=x:=by cases h;rfl
theorem indexAddr_gives {w0 w:World} {k:KW} {s:St} (hs:Sim w0 k w s) {t:TypeId} {x i z:AV} {ux ui:Value} (hx:Rel k x ux) (hi:Rel k i ui) (h:xindexAddr P t x i=some z) :
  GivesV P w0 k (Instr.indexAt t ux ui) w z s:=by
 unfold xindexAddr at h
 split at h
 ·rename_i ti ik i ht
  obtain rfl:=hi.v_eq
  split at h
  ·rename_i e hk
   have hun:=under_sl ht hk
   split at h
   ·rename_i ei hei
    have run:∀ (a:Addr) (n cap:Nat),0≤i∧i<(n:Int)→(Instr.indexAt t (.slice (some a) n cap) (.int ik i)).run P w=.ok (.pointer (some (a.add (i.toNat*ei.size)))) w:=by
     intro a n cap hb
     simp only[Instr.indexAt,asIntOf,Sem.run_bind,Sem.run_pure,Result.andThen_ok,run_underlying hun]
     simp only[hb,and_self,if_true,run_sizeOf hei,Sem.run_bind,Result.andThen_ok,Sem.run_pure]
    split at h
    ·rename_i n c
     split at h
     ·rename_i hb
      injection h with h
      subst h
      obtain⟨a,cap,rfl,h1,h2⟩:=hx.sl_form
      obtain⟨b,rfl,_⟩:=h1 (by omega)
      exact .pure hs (run b n cap hb) ((h2 b rfl).rf_drop _)
     ·cases h
    ·rename_i id off n sz
     split at h
     ·rename_i hb
      obtain⟨rfl,hb⟩:=hb
      injection h with h
      subst h
      cases hx with
      | own _ _ _ _ cap hi hn hc=>exact .pure hs (run _ n cap hb) ((Rel.ptr _ _ hi).ptr_add _)
      | own0=>omega
     ·cases h
    ·rename_i n m sz c
     split at h
     ·rename_i hb
      obtain⟨rfl,hb⟩:=hb
      injection h with h
      subst h
      cases hx with
      | slc _ _ _ cap _ a us hn hm hl h1 h2=>exact .pure hs (run a n cap hb) ((Rel.rf c a us h1 h2).rf_drop _)
     ·cases h
    ·cases h
   ·cases h
  ·cases h
 ·cases h
def xindex (P:Program) (t:TypeId) (x i:AV):Option AV:=
 match tiOf P t,x,i with
 | some ti,.v (.string b),.v (.int _ i)=>match ti.k with
  | .str=>if 0≤i∧i<(b.size:Int) then some (.v (.int .u8 ((b.data.toList.getD i.toNat 0).toNat:Int))) else none
  | _=>none
 | some ti,.ag c,.v (.int _ i)=>match ti.k with
  | .ar n e=>match tiOf P e with
   | some ei=>if 0≤i∧i<(n:Int) then loadA ei (c.drop (i.toNat*ei.size)) else none
   | none=>none
  | _=>none
 | _,_,_=>none
theorem index_gives {w0 w:World} {k:KW} {s:St} (hs:Sim w0 k w s) {t:TypeId} {x i z:AV} {ux ui:Value} (hx:Rel k x ux) (hi:Rel k i ui) (h:xindex P t x i=some z) :
  GivesV P w0 k (Instr.index t ux ui) w z s:=by
 unfold xindex at h
 split at h
 ·rename_i ti b ik i ht
  obtain rfl:=hi.v_eq
  obtain rfl:=hx.v_eq
  split at h
  ·rename_i hk
   split at h
   ·rename_i hb
    injection h with h
    subst h
    refine .pure hs ?_ (.v _)
    have hlt:i.toNat<b.size:=by omega
    have hg:b[i.toNat]?=some (b.data.toList.getD i.toNat 0):=by
     rw[getElem?_pos b i.toNat hlt]
     congr 1
     rw[List.getD_eq_getElem?_getD,List.getElem?_eq_getElem (by simpa using hlt)]
     rfl
    simp only[Instr.index,asIntOf,Sem.run_bind,Sem.run_pure,Result.andThen_ok,run_underlying (under_str ht hk),hb.1,if_true,hg]
   ·cases h
  ·cases h
 ·rename_i ti c ik i ht
  obtain rfl:=hi.v_eq
  split at h
  ·rename_i n e hk
   split at h
   ·rename_i ei hei
    split at h
    ·rename_i hb
     cases hx with
     | ag _ us hl hr=>
      have hg:∀ (j:Nat) (y:AV) (x:Value),(c.drop (i.toNat*ei.size))[j]?=some y→(us.drop (i.toNat*ei.size))[j]?=some x→Rel k y x:=by
       intro j y x hy hx
       rw[List.getElem?_drop] at hy hx
       exact hr _ _ _ hy hx
      unfold loadA at h
      split at h
      ·rename_i ha
       split at h
       ·rename_i hsz
        injection h with h
        subst h
        refine .pure hs (v:=.agg ((us.drop (i.toNat*ei.size)).take ei.size).toArray) ?_ (.ag _ _ (by simp [hl]) fun j y x hy hx=>?_)
        ·simp only[Instr.index,asIntOf,Sem.run_bind,run_underlying (under_ar ht hk),Result.andThen_ok,Sem.run_pure,hb,and_self,if_true,run_sizeOf hei,part,run_isAgg hei,ha]
         congr 1
         simp [List.take_drop]
        ·rw[List.getElem?_take] at hy hx
         split at hy
         ·rw[if_pos (by assumption)] at hx
          exact hg j y x hy hx
         ·cases hy
       ·cases h
      ·rename_i ha
       have h0:(c.drop (i.toNat*ei.size))[0]?=some z:=by rw[←h];cases c.drop (i.toNat*ei.size) <;> rfl
       rw[List.getElem?_drop,Nat.add_zero] at h0
       have hlt:=(List.getElem?_eq_some_iff.1 h0).1
       have hx:us[i.toNat*ei.size]?=some (us[i.toNat*ei.size]'(by omega)):=List.getElem?_eq_getElem _
       refine .pure hs (v:=us[i.toNat*ei.size]'(by omega)) ?_ (hr _ _ _ h0 hx)
       simp only[Instr.index,asIntOf,Sem.run_bind,run_underlying (under_ar ht hk),Result.andThen_ok,Sem.run_pure,hb,and_self,if_true,run_sizeOf hei,part,run_isAgg hei,ha,Bool.false_eq_true,if_false]
       simp [hx]
    ·cases h
   ·cases h
  ·cases h
 ·cases h
def bnd (x:Option AV) (d:Int):Option Int:=
 match x with
 | none=>some d
 | some (.v (.int _ i))=>some i
 | _=>none
def xslice (P:Program) (t:TypeId) (x:AV) (lo hi:Option AV):Option AV:=
 match tiOf P t,bnd lo 0 with
 | some ti,some l=>match ti.k,x with
  | .str,.v (.string b)=>match bnd hi b.size with
   | some h=>if 0≤l∧l≤h∧h≤(b.size:Int) then some (.v (.string (b.extract l.toNat h.toNat))) else none
   | none=>none
  | .sl e,.sl n c=>match bnd hi n,tiOf P e with
   | some h,some ei=>if 0≤l∧l≤h∧h≤(n:Int) then some (.sl (h.toNat-l.toNat) ((c.drop (l.toNat*ei.size)).take ((h.toNat-l.toNat)*ei.size))) else none
   | _,_=>none
  | .sl e,.own id off n sz=>match bnd hi n,tiOf P e with
   | some h,some ei=>if sz=ei.size∧0≤l∧l≤h∧h≤(n:Int) then some (.own id (off+l.toNat*ei.size) (h.toNat-l.toNat) sz) else none
   | _,_=>none
  | .sl e,.slc n m sz c=>match bnd hi n,tiOf P e with
   | some h,some ei=>if sz=ei.size∧0≤l∧l≤h∧h≤(m:Int) then some (.sl (h.toNat-l.toNat) ((c.drop (l.toNat*ei.size)).take ((h.toNat-l.toNat)*ei.size))) else none
   | _,_=>none
  | _,_=>none
 | _,_=>none
theorem run_bound {x:Option AV} {ux:Option Value} {k:KW} (hx:match x,ux with | none,none=>True | some z,some u=>Rel k z u | _,_=>False) {d l:Int} (hb:bnd x d=some l) :
  (x=none∧ux=none∧l=d)∨∃ ik,ux=some (.int ik l):=by
 unfold bnd at hb
 split at hb
 ·injection hb with hb
  subst hb
  cases ux with
  | none=>exact .inl ⟨rfl,rfl,rfl⟩
  | some u=>exact hx.elim
 ·injection hb with hb
  subst hb
  cases ux with
  | none=>exact hx.elim
  | some u=>exact .inr ⟨_,by rw[Rel.v_eq hx]⟩
 ·cases hb
theorem run_sliceBoundsC {isSlice:Bool} {lo hi:Option AV} {ulo uhi:Option Value} {k:KW} (hlo:match lo,ulo with | none,none=>True | some z,some u=>Rel k z u | _,_=>False) (hhi:match hi,uhi with | none,none=>True | some z,some u=>Rel k z u | _,_=>False)
  {len cap:Nat} {l h:Int} (h1:bnd lo 0=some l) (h2:bnd hi len=some h) (hb:0≤l∧l≤h∧h≤(cap:Int)) (w:World) :
  (Instr.sliceBounds isSlice len cap ulo uhi none).run P w=.ok (l.toNat,h.toNat,cap) w:=by
 have e1:0≤h∧h≤(cap:Int):=by omega
 have e2:0≤l∧l≤(h.toNat:Int):=by omega
 rcases run_bound hlo h1 with ⟨rfl,rfl,rfl⟩ | ⟨ik,rfl⟩ <;> rcases run_bound hhi h2 with ⟨rfl,rfl,rfl⟩ | ⟨ik',rfl⟩
 ·simp [Instr.sliceBounds,Sem.run_bind]
 ·simp [Instr.sliceBounds,Sem.run_bind,Instr.sliceBound,asIntOf,e1]
 ·simp [Instr.sliceBounds,Sem.run_bind,Instr.sliceBound,asIntOf,hb.1,hb.2.1]
 ·simp [Instr.sliceBounds,Sem.run_bind,Instr.sliceBound,asIntOf,e1,e2]
  intro hlt
  omega
theorem run_sliceBounds {isSlice:Bool} {lo hi:Option AV} {ulo uhi:Option Value} {k:KW} (hlo:match lo,ulo with | none,none=>True | some z,some u=>Rel k z u | _,_=>False) (hhi:match hi,uhi with | none,none=>True | some z,some u=>Rel k z u | _,_=>False)
  {len cap:Nat} {l h:Int} (h1:bnd lo 0=some l) (h2:bnd hi len=some h) (hb:0≤l∧l≤h∧h≤(len:Int)) (hc:len≤cap) (w:World) :
  (Instr.sliceBounds isSlice len cap ulo uhi none).run P w=.ok (l.toNat,h.toNat,cap) w:=
 run_sliceBoundsC hlo hhi h1 h2 ⟨hb.1,hb.2.1,by omega⟩ w
theorem slice_gives {w0 w:World} {k:KW} {s:St} (hs:Sim w0 k w s) {t:TypeId} {x z:AV} {lo hi:Option AV} {ux:Value} {ulo uhi:Option Value} (hx:Rel k x ux)
  (hlo:match lo,ulo with | none,none=>True | some z,some u=>Rel k z u | _,_=>False) (hhi:match hi,uhi with | none,none=>True | some z,some u=>Rel k z u | _,_=>False)
  (h:xslice P t x lo hi=some z):GivesV P w0 k (Instr.sliceAt t ux ulo uhi none) w z s:=by
 unfold xslice at h
 split at h
 ·rename_i ti l ht hl
  split at h
  ·rename_i b hk
   obtain rfl:=hx.v_eq
   split at h
   ·rename_i hh hhb
    split at h
    ·rename_i hb
     injection h with h
     subst h
     refine .pure hs ?_ (.v _)
     simp only[Instr.sliceAt,Instr.slice,Sem.run_bind,run_underlying (under_str ht hk),Result.andThen_ok,Option.isSome_none,Bool.false_eq_true,if_false,run_sliceBounds (P:=P) hlo hhi hl hhb hb (Nat.le_refl _) w,Sem.run_pure]
    ·cases h
   ·cases h
  ·rename_i e n c hk
   split at h
   ·rename_i hh ei hhb hei
    split at h
    ·rename_i hb
     injection h with h
     subst h
     obtain⟨a,cap,rfl,h1,h2⟩:=hx.sl_form
     by_cases hn:0<n
     ·obtain⟨b,rfl,hcap⟩:=h1 hn
      have hrf:=(h2 b rfl)
      have run:(Instr.sliceAt t (.slice (some b) n cap) ulo uhi none).run P w=.ok (.slice (if cap=l.toNat then some b else some (b.add (l.toNat*ei.size))) (hh.toNat-l.toNat) (cap-l.toNat)) w:=by
       simp only[Instr.sliceAt,Instr.slice,Sem.run_bind,run_underlying (under_sl ht hk),Result.andThen_ok,run_sliceBounds (P:=P) hlo hhi hl hhb hb hcap w,run_sizeOf hei,Sem.run_pure,Option.map_some]
      refine .pure hs run ?_
      by_cases hcl:cap=l.toNat
      ·rw[if_pos hcl]
       have e0:hh.toNat-l.toNat=0:=by omega
       rw[e0,Nat.zero_mul,List.take_zero]
       exact .sl0 _ _
      ·rw[if_neg hcl]
       have hd:=hrf.rf_drop (l.toNat*ei.size)
       cases hd with
       | rf _ _ us h1 h2=>
        refine .sl _ _ _ _ us (by omega) (fun j hj=>h1 j ?_) (fun j z hz=>h2 j z ?_)
        ·rw[List.length_take] at hj;omega
        ·rw[List.getElem?_take] at hz
         split at hz
         ·exact hz
         ·cases hz
     ·obtain rfl:n=0:=by omega
      have l0:l=0:=by omega
      have hh0:hh=0:=by omega
      subst l0 hh0
      have run:∃ a' cap',(Instr.sliceAt t (.slice a 0 cap) ulo uhi none).run P w=.ok (.slice a' 0 cap') w:=by
       refine⟨if cap=0 then a else a.map (·.add (0*ei.size)),cap-0,?_⟩
       ·simp only[Instr.sliceAt,Instr.slice,Sem.run_bind,run_underlying (under_sl ht hk),Result.andThen_ok,run_sliceBounds (P:=P) (len:=0) (cap:=cap) hlo hhi hl hhb (by omega) (Nat.zero_le _) w,run_sizeOf hei,Sem.run_pure]
        rfl
      obtain⟨a',cap',run⟩:=run
      refine .pure hs run ?_
      simp only[Int.toNat_zero,Nat.sub_self,Nat.zero_mul,List.take_zero]
      exact .sl0 _ _
    ·cases h
   ·cases h
  ·rename_i e id off n sz hk
   split at h
   ·rename_i hh ei hhb hei
    split at h
    ·rename_i hb
     obtain⟨rfl,hb⟩:=hb
     injection h with h
     subst h
     cases hx with
     | own _ _ _ _ cap hi hn hc=>
      have run:(Instr.sliceAt t (.slice (some ((k.φ id).at off)) n cap) ulo uhi none).run P w=.ok (.slice (if cap=l.toNat then some ((k.φ id).at off) else some (((k.φ id).at off).add (l.toNat*ei.size))) (hh.toNat-l.toNat) (cap-l.toNat)) w:=by
       simp only[Instr.sliceAt,Instr.slice,Sem.run_bind,run_underlying (under_sl ht hk),Result.andThen_ok,run_sliceBounds (P:=P) hlo hhi hl hhb hb hn w,run_sizeOf hei,Sem.run_pure,Option.map_some]
      refine .pure hs run ?_
      have hle:l.toNat*ei.size≤cap*ei.size:=Nat.mul_le_mul_right _ (by omega)
      by_cases hcl:cap=l.toNat
      ·rw[if_pos hcl]
       have e0:hh.toNat-l.toNat=0:=by omega
       have e1:cap-l.toNat=0:=by omega
       rw[e0,e1]
       exact .own0 _ _ _ _ hi (by rw[←hcl];exact hc)
      ·rw[if_neg hcl,Rng.at_add]
       refine .own _ _ _ _ _ hi (by omega) ?_
       have:(cap-l.toNat)*ei.size=cap*ei.size-l.toNat*ei.size:=Nat.sub_mul _ _ _
       omega
     | own0 _ _ _ a hi hc=>
      cases a with
      | none=>
       have l0:l=0:=by omega
       have hh0:hh=0:=by omega
       subst l0 hh0
       have run:(Instr.sliceAt t (.slice none 0 0) ulo uhi none).run P w=.ok (.slice none 0 0) w:=by
        simp only[Instr.sliceAt,Instr.slice,Sem.run_bind,run_underlying (under_sl ht hk),Result.andThen_ok,run_sliceBounds (P:=P) (len:=0) (cap:=0) hlo hhi hl hhb (by omega) (Nat.le_refl _) w,run_sizeOf hei,Sem.run_pure]
        rfl
       refine .pure hs run ?_
       simp only[Int.toNat_zero,Nat.sub_self,Nat.zero_mul,Nat.add_zero]
       exact .own0 _ _ _ _ hi hc
      | some a=>
      have l0:l=0:=by omega
      have hh0:hh=0:=by omega
      subst l0 hh0
      have run:(Instr.sliceAt t (.slice (some a) 0 0) ulo uhi none).run P w=.ok (.slice (some a) 0 0) w:=by
       simp only[Instr.sliceAt,Instr.slice,Sem.run_bind,run_underlying (under_sl ht hk),Result.andThen_ok,run_sliceBounds (P:=P) (len:=0) (cap:=0) hlo hhi hl hhb (by omega) (Nat.le_refl _) w,run_sizeOf hei,Sem.run_pure]
       rfl
      refine .pure hs run ?_
      simp only[Int.toNat_zero,Nat.sub_self,Nat.zero_mul,Nat.add_zero]
      exact .own0 _ _ _ _ hi hc
    ·cases h
   ·cases h
  ·rename_i e n m sz c hk
   split at h
   ·rename_i hh ei hhb hei
    split at h
    ·rename_i hb
     obtain⟨rfl,hb⟩:=hb
     injection h with h
     subst h
     cases hx with
     | slc _ _ _ cap _ a us hn hm hlc h1 h2=>
      have run:(Instr.sliceAt t (.slice (some a) n cap) ulo uhi none).run P w=.ok (.slice (if cap=l.toNat then some a else some (a.add (l.toNat*ei.size))) (hh.toNat-l.toNat) (cap-l.toNat)) w:=by
       simp only[Instr.sliceAt,Instr.slice,Sem.run_bind,run_underlying (under_sl ht hk),Result.andThen_ok,run_sliceBoundsC (P:=P) (len:=n) (cap:=cap) hlo hhi hl hhb ⟨hb.1,hb.2.1,by omega⟩ w,run_sizeOf hei,Sem.run_pure,Option.map_some]
      refine .pure hs run ?_
      by_cases hcl:cap=l.toNat
      ·rw[if_pos hcl]
       have e0:hh.toNat-l.toNat=0:=by omega
       rw[e0,Nat.zero_mul,List.take_zero]
       exact .sl0 _ _
      ·rw[if_neg hcl]
       have hd:=(Rel.rf c a us h1 h2).rf_drop (l.toNat*ei.size)
       cases hd with
       | rf _ _ us h1 h2=>
        refine .sl _ _ _ _ us (by omega) (fun j hj=>h1 j ?_) (fun j z hz=>h2 j z ?_)
        ·rw[List.length_take] at hj;omega
        ·rw[List.getElem?_take] at hz
         split at hz
         ·exact hz
         ·cases hz
    ·cases h
   ·cases h
  ·cases h
 ·cases h
end Ax
namespace Ax
open Go Go.RowKit
variable {P:Program}
def RelL (k:KW) (c:List AV) (us:List Value):Prop:=us.length=c.length∧∀ (j:Nat) (z:AV) (u:Value),c[j]?=some z→us[j]?=some u→Rel k z u
theorem RelL.set {k:KW} {c:List AV} {us:List Value} (h:RelL k c us) (n:Nat) {z:AV} {u:Value} (hz:Rel k z u):RelL k (c.set n z) (us.set n u):=by
 refine⟨by simp [h.1],fun j y x hy hx=>?_⟩
 rw[List.getElem?_set] at hy hx
 by_cases e:n=j
 ·rw[if_pos e] at hy hx
  by_cases l:n<c.length
  ·rw[if_pos l] at hy
   rw[if_pos (by rw[h.1];exact l)] at hx
   injection hy with hy
   injection hx with hx
   subst hy hx
   exact hz
  ·rw[if_neg l] at hy
   cases hy
 ·rw[if_neg e] at hy hx
  exact h.2 j y x hy hx
def splV (us:List Value):Nat→List Value→List Value
 | _,[]=>us
 | n,v::vs=>splV (us.set n v) (n+1) vs
theorem RelL.spl {k:KW} (vs:List Value):∀ {c:List AV} {us:List Value} (zs:List AV) (n:Nat),RelL k c us→RelL k zs vs→RelL k (spl c n zs) (splV us n vs):=by
 induction vs with
 | nil=>
  intro c us zs n h hz
  have:zs=[]:=List.eq_nil_of_length_eq_zero (by simpa using hz.1.symm)
  subst this
  exact h
 | cons v vs ih=>
  intro c us zs n h hz
  cases zs with
  | nil=>cases hz.1
  | cons z zs=>exact ih zs (n+1) (h.set n (hz.2 0 z v rfl rfl)) ⟨by have:=hz.1;simpa using this,fun j y x hy hx=>hz.2 (j+1) y x hy hx⟩
theorem foldl_splV (off:Nat) (vs:List Value):∀ (n:Nat) (cs:List Value),((vs.zipIdx n).foldl (fun (cs:Array Value) (x:Value × Nat)=>cs.setIfInBounds (off+x.2) x.1) cs.toArray)=(splV cs (off+n) vs).toArray:=by
 induction vs with
 | nil=>intro n cs;rfl
 | cons v vs ih=>
  intro n cs
  rw[List.zipIdx_cons,List.foldl_cons]
  have:(cs.toArray.setIfInBounds (off+n) v)=(cs.set (off+n) v).toArray:=by simp
  show List.foldl _ (cs.toArray.setIfInBounds (off+n) v) _=_
  rw[this,ih (n+1)]
  rfl
def fillA (place:Nat→Option (Nat × Nat)) (c:List AV):List (Nat × AV)→Option (List AV)
 | []=>some c
 | (i,x)::rest=>match place i with
  | none=>none
  | some (off,size)=>if x.cells.length=size∧off+size≤c.length∧x.boxable=true then fillA place (spl c off x.cells) rest else none
theorem fill_gives {k:KW} (place:Nat→Option (Nat × Nat)) (ps:List (Nat × Value)):∀ {c c':List AV} {us:List Value} (qs:List (Nat × AV)),RelL k c us→ps.length=qs.length →
  (∀ (j:Nat) (p:Nat × Value) (q:Nat × AV),ps[j]?=some p→qs[j]?=some q→p.1=q.1∧Rel k q.2 p.2)→fillA place c qs=some c'→∃ us',Instr.fill place us.toArray ps=some us'.toArray∧RelL k c' us':=by
 induction ps with
 | nil=>
  intro c c' us qs h hl hr hf
  have:qs=[]:=List.eq_nil_of_length_eq_zero (by simpa using hl.symm)
  subst this
  injection hf with hf
  subst hf
  exact⟨us,rfl,h⟩
 | cons p ps ih=>
  intro c c' us qs h hl hr hf
  cases qs with
  | nil=>cases hl
  | cons q qs=>
   obtain⟨i,x⟩:=q
   obtain⟨i',v⟩:=p
   obtain⟨e,hv⟩:=hr 0 _ _ rfl rfl
   simp only at e hv
   subst e
   unfold fillA at hf
   cases hp:place i' with
   | none=>rw[hp] at hf;cases hf
   | some os=>
    obtain⟨off,size⟩:=os
    rw[hp] at hf
    simp only at hf
    split at hf
    ·rename_i hh
     obtain⟨h1,h2,h3⟩:=hh
     obtain⟨vs,e1,e2,e3⟩:=hv.cells h3
     obtain⟨us',g1,g2⟩:=ih (c:=spl c off x.cells) (us:=splV us off vs) qs (RelL.spl vs x.cells off h ⟨e2,e3⟩) (by simpa using hl) (fun j p q hp hq=>hr (j+1) p q hp hq) hf
     refine⟨us',?_,g2⟩
     unfold Instr.fill
     rw[hp]
     simp only[e1]
     have s1:vs.toArray.size=size:=by simp;omega
     have s2:¬(off+size > us.toArray.size):=by simp [h.1];omega
     have s3:((vs.toArray.zipIdx.foldl (fun (cs:Array Value) (x:Value × Nat)=>cs.setIfInBounds (off+x.2) x.1) us.toArray))=(splV us off vs).toArray:=by
      have hf0:=foldl_splV off vs 0 us
      rw[Nat.add_zero] at hf0
      rw[←hf0,←Array.foldl_toList]
      congr 1
      simp
     simp only[s1,ne_eq,not_true_eq_false,decide_false,Bool.false_or,s2,Bool.false_eq_true,if_false]
     rw[←g1]
     congr 1
    ·cases hf
def zrow (zero:List Value) (n:Nat):List AV:=(List.range n).map fun i=>.v (zero.toArray[i % zero.length]!)
theorem zrow_one (x:Value) (n:Nat):zrow [x] n=List.replicate n (.v x):=by
 apply List.ext_getElem
 ·simp [zrow]
 ·intro i h1 h2
  simp [zrow,Nat.mod_one]
theorem zrow_rel {k:KW} (zero:List Value) (n:Nat):RelL k (zrow zero n) ((List.range n).map fun i=>zero.toArray[i % zero.length]!):=by
 refine⟨by simp [zrow],fun j z u hz hu=>?_⟩
 unfold zrow at hz
 rw[List.getElem?_map] at hz hu
 cases hj:(List.range n)[j]? with
 | none=>rw[hj] at hz;cases hz
 | some i=>
  rw[hj] at hz hu
  injection hz with hz
  injection hu with hu
  subst hz hu
  exact .v _
theorem zrow_cells (z:Value) (zero:List Value) (n:Nat) (h:z.cells.toList=zero):(Array.range n).map (fun i=>z.cells[i % z.cells.size]!)=((List.range n).map fun i=>zero.toArray[i % zero.length]!).toArray:=by
 subst h
 apply Array.ext'
 simp
theorem Sim.push_own {w0 w:World} {k:KW} {s:St} (hs:Sim w0 k w s) (us:List Value) (t:TypeId) (c:List AV) (hr:RelL k c us) (n sz:Nat) (hn:n*sz=us.length) :
  Sim w0 (k.push ⟨w.heap.size,0,us.length,none⟩) (w.alloc (.cells us.toArray t)) (s.push c)∧Rel (k.push ⟨w.heap.size,0,us.length,none⟩) (.own s.nx 0 n sz) (.slice (some ⟨w.heap.size,0,none⟩) n n):=by
 refine⟨hs.push us t c (by rw[hr.1];exact Nat.le_refl _) hr.2,?_⟩
 have:=Rel.own (k:=k.push ⟨w.heap.size,0,us.length,none⟩) k.m 0 n sz n (Nat.lt_succ_self _) (Nat.le_refl _) (by rw[KW.push_same];simpa using hn)
 rw[KW.push_same] at this
 rw[←hs.m]
 exact this
def xbuildSlice (P:Program) (s:St) (t:TypeId) (len:Nat) (qs:List (Nat × AV)):Option (AV × St):=
 match tiOf P t with
 | some ti=>match ti.k with
  | .sl e=>match tiOf P e with
   | some ei=>if len*ei.size≤16777216 then match fillA (fun i=>some (i*ei.size,ei.size)) (zrow ei.zero (len*ei.size)) qs with
     | some c=>some (.own s.nx 0 len ei.size,s.push c)
     | none=>none
    else none
   | none=>none
  | _=>none
 | none=>none
theorem buildSlice_gives {w0 w:World} {k:KW} {s s':St} (hs:Sim w0 k w s) {t:TypeId} {len:Nat} {qs:List (Nat × AV)} {ps:Array (Nat × Value)} {z:AV} (hl:ps.size=qs.length)
  (hr:∀ (j:Nat) (p:Nat × Value) (q:Nat × AV),ps[j]?=some p→qs[j]?=some q→p.1=q.1∧Rel k q.2 p.2) (h:xbuildSlice P s t len qs=some (z,s')) :
  GivesV P w0 k (Instr.buildSlice t len ps) w z s':=by
 unfold xbuildSlice at h
 split at h
 ·rename_i ti ht
  split at h
  ·rename_i e hk
   split at h
   ·rename_i ei hei
    split at h
    ·rename_i hsz
     split at h
     ·rename_i c hc
      injection h with h
      injection h with h1 h2
      subst h1 h2
      obtain⟨d,i,zv,hd,hi,hz,hs2,hb,hcz,hk2⟩:=ti_info hei
      obtain⟨us',g1,g2⟩:=fill_gives (k:=k) (fun i=>some (i*ei.size,ei.size)) ps.toList qs (zrow_rel ei.zero (len*ei.size)) (by simpa using hl) (fun j p q hp hq=>hr j p q (by simpa using hp) hq) hc
      have hlen:us'.length=len*ei.size:=by
       have fl:∀ (qs:List (Nat × AV)) (c c':List AV),fillA (fun i=>some (i*ei.size,ei.size)) c qs=some c'→c'.length=c.length:=by
        intro qs
        induction qs with
        | nil=>intro c c' h;injection h with h;rw[h]
        | cons q qs ih=>
         intro c c' h
         unfold fillA at h
         simp only at h
         split at h
         ·rw[ih _ _ h,spl_length]
         ·cases h
       rw[g2.1,fl _ _ _ hc]
       simp [zrow]
      obtain⟨p1,p2⟩:=hs.push_own us' e c g2 len ei.size (by omega)
      refine⟨.slice (some ⟨w.heap.size,0,none⟩) len len,_,_,?_,p2,p1,k.push_le _⟩
      by_cases h0:len*ei.size=0
      ·have hu0:us'=[]:=List.eq_nil_of_length_eq_zero (by omega)
       subst hu0
       rw[h0] at g1
       simp only[List.range_zero,List.map_nil] at g1
       simp only[Instr.buildSlice,Sem.run_bind,run_underlying (under_sl ht hk),Result.andThen_ok,run_sizeOf hei,h0]
       simp [Sem.run_bind,Array.range_zero',g1,newRow]
      ·refine run_buildSlice (P:=P) w t e len ps us'.toArray i zv (under_sl ht hk) hi hz (by rw[hs2];omega) (by rw[hs2];exact h0) ?_
       rw[hs2,zrow_cells zv ei.zero _ hcz]
       exact g1
     ·cases h
    ·cases h
   ·cases h
  ·cases h
 ·cases h
def xmake (P:Program) (s:St) (t:TypeId) (l c:AV):Option (AV × St):=
 match tiOf P t,l,c with
 | some ti,.v (.int _ l),.v (.int _ c)=>match ti.k with
  | .sl e=>match tiOf P e with
   | some ei=>if l=c∧0≤l∧(ei.bytes:Int)*l≤281474976710656∧l≤9223372036854775807 then some (.own s.nx 0 l.toNat ei.size,s.push (zrow ei.zero (l.toNat*ei.size))) else none
   | none=>none
  | _=>none
 | _,_,_=>none
theorem make_gives {w0 w:World} {k:KW} {s s':St} (hs:Sim w0 k w s) {t:TypeId} {l c z:AV} {ul uc:Value} (hl:Rel k l ul) (hc:Rel k c uc) (h:xmake P s t l c=some (z,s')) :
  GivesV P w0 k (Instr.makeSlice t ul uc) w z s':=by
 unfold xmake at h
 split at h
 ·rename_i ti kl l kc c ht
  obtain rfl:=hl.v_eq
  obtain rfl:=hc.v_eq
  split at h
  ·rename_i e hk
   split at h
   ·rename_i ei hei
    split at h
    ·rename_i hh
     obtain⟨rfl,h0,hb,h63⟩:=hh
     injection h with h
     injection h with h1 h2
     subst h1 h2
     obtain⟨d,i,zv,hd,hi,hz,hs2,hby,hcz,hk2⟩:=ti_info hei
     obtain⟨p1,p2⟩:=hs.push_own _ e _ (zrow_rel ei.zero (l.toNat*ei.size)) l.toNat ei.size (by simp)
     refine⟨.slice (some ⟨w.heap.size,0,none⟩) l.toNat l.toNat,_,_,?_,p2,p1,k.push_le _⟩
     rw[run_make (P:=P) w t e i zv (under_sl ht hk) hi hz kl kc l l h0 (Int.le_refl _) (by rw[hby];exact hb) h63]
     rw[hs2]
     unfold madeCells
     rw[zrow_cells zv ei.zero _ hcz]
    ·cases h
   ·cases h
  ·cases h
 ·cases h
theorem Sim.below {w0 w w':World} {k:KW} {s:St} (hs:Sim w0 k w s) (hb:Below w.heap.size w w'):Sim w0 k w' s:=by
 have old:∀ a u,w.cell? a=some u→w'.cell? a=some u:=fun a u hu=>(hb.cell (cell_block_lt hu)).trans hu
 refine⟨hs.m,fun a u hu=>old a u (hs.fz a u hu),hs.lt,fun i c hi=>?_,hs.sep,hs.shp.trans ⟨hb.os,hb.tape,hb.output,hb.size,fun i hi=>?_⟩,hs.tz,fun i c T hi hT=>?_,hs.cov⟩
 ·obtain⟨h1,h2⟩:=hs.box i c hi
  refine⟨h1,fun j hj=>?_⟩
  obtain⟨u,q1,q2,q3,q4⟩:=h2 j hj
  exact⟨u,old _ _ q1,(hb.frozen (cell_block_lt q1)).trans q2,q3,q4⟩
 ·rw[hb.block i hi]
  exact(Shp.refl w).block i hi
 ·obtain⟨h1,cs,h2,h3⟩:=hs.ty i c T hi hT
  exact⟨h1,cs,(hb.block _ (Array.getElem?_eq_some_iff.1 h2).1).trans h2,h3⟩
theorem sim_more {w0 w:World} {k:KW} {s:St} (hs:Sim w0 k w s) (b:Nat) (hb:∀ i c,s.get i=some c→∀ j,j<(k.φ i).cap→((k.φ i).at j).block<b) :
  ∃ k':KW,k'.φ=k.φ∧k'.m=k.m∧(∀ a u,k.S a=some u→k'.S a=some u)∧(∀ a u,b≤a.block→w.cell? a=some u→k'.S a=some u)∧Sim w0 k' w s:=by
 have hS:∀ a u,k.S a=some u→(match k.S a with | some u=>some u | none=>if b≤a.block then w.cell? a else none)=some u:=fun a u h=>by rw[h]
 refine⟨⟨k.φ,k.m,fun a=>match k.S a with | some u=>some u | none=>if b≤a.block then w.cell? a else none,k.tab.mono hS⟩,rfl,rfl,hS,fun a u ha hu=>?_,⟨hs.m,fun a u hu=>?_,hs.lt,fun i c hi=>?_,hs.sep,hs.shp,hs.tz,hs.ty,fun a u hu=>hS a u (hs.cov a u hu)⟩⟩
 ·show (match k.S a with | some u=>some u | none=>if b≤a.block then w.cell? a else none)=some u
  cases h:k.S a with
  | none=>simp only[if_pos ha];exact hu
  | some u'=>
   have:=hs.fz a u' h
   rw[hu] at this
   exact this.symm
 ·have hu':(match k.S a with | some u=>some u | none=>if b≤a.block then w.cell? a else none)=some u:=hu
  cases h:k.S a with
  | none=>
   rw[h] at hu'
   simp only at hu'
   split at hu'
   ·exact hu'
   ·cases hu'
  | some u'=>
   rw[h] at hu'
   rw[←hu']
   exact hs.fz a u' h
 ·obtain⟨h1,h2⟩:=hs.box i c hi
  refine⟨h1,fun j hj=>?_⟩
  obtain⟨u,q1,q2,q3,q4⟩:=h2 j hj
  refine⟨u,q1,q2,?_,fun z hz=>(q4 z hz).mono ⟨Nat.le_refl _,fun _ _=>rfl,hS⟩⟩
  show (match k.S ((k.φ i).at j) with | some u=>some u | none=>if b≤((k.φ i).at j).block then w.cell? ((k.φ i).at j) else none)=none
  rw[q3]
  have:=hb i c hi j hj
  simp only
  rw[if_neg (by omega)]
theorem Sim.writes {id:Nat} (us:List Value):∀ (zs:List AV) (n:Nat) {w0 w:World} {k:KW} {s:St} {c:List AV},RelL k zs us→Sim w0 k w s→s.get id=some c→n+us.length≤c.length →
  Sim w0 k (w.setCells (k.φ id).b ((k.φ id).o+n) us) (s.set id (spl c n zs)):=by
 induction us with
 | nil=>
  intro zs n w0 w k s c hr hs hc hb
  have:zs=[]:=List.eq_nil_of_length_eq_zero (by simpa using hr.1.symm)
  subst this
  rw[spl,St.set_get _ _ _ hc]
  exact hs
 | cons u us ih=>
  intro zs n w0 w k s c hr hs hc hb
  cases zs with
  | nil=>cases hr.1
  | cons z zs=>
   simp only[List.length_cons] at hb
   have hw:=hs.write hc (j:=n) (by omega) (hr.2 0 z u rfl rfl)
   have:=ih zs (n+1) (s:=s.set id (c.set n z)) (c:=c.set n z) ⟨by have:=hr.1;simpa using this,fun j y x hy hx=>hr.2 (j+1) y x hy hx⟩ hw (St.set_same _ _ _) (by rw[List.length_set];omega)
   rw[St.set_set] at this
   exact this
theorem spl_append (zs:List AV):∀ (a b:List AV) (n:Nat),n=a.length→b.length=zs.length→spl (a++b) n zs=a++zs:=by
 induction zs with
 | nil=>
  intro a b n hn hb
  have:b=[]:=List.eq_nil_of_length_eq_zero (by simpa using hb)
  rw[this]
  rfl
 | cons z zs ih=>
  intro a b n hn hb
  cases b with
  | nil=>cases hb
  | cons y b=>
   subst hn
   rw[spl]
   have e:(a++y::b).set a.length z=(a++[z])++b:=by
    rw[List.set_append_right _ _ (Nat.le_refl _)]
    simp
   rw[e,ih (a++[z]) b _ (by simp) (by simpa using hb)]
   simp
theorem Sim.moveT {w0 w:World} {k:KW} {s:St} (hs:Sim w0 k w s) {i:Nat} {c:List AV} (hi:s.get i=some c) (off:Nat) (ty:Option TypeId) (hty:∀ T,ty=some T→off=0∧(k.φ i).ty=some T) (d:List AV) (hd:d.length+off≤(k.φ i).cap) (hp:∀ (j:Nat) (z:AV),d[j]?=some z→z=.no∨c[off+j]?=some z) :
  Sim w0 (k.push ⟨(k.φ i).b,(k.φ i).o+off,(k.φ i).cap-off,ty⟩) w ((s.kill i).push d):=by
 have hle:=k.push_le ⟨(k.φ i).b,(k.φ i).o+off,(k.φ i).cap-off,ty⟩
 have hm:=hs.m
 have hat:∀ j,(Rng.mk (k.φ i).b ((k.φ i).o+off) ((k.φ i).cap-off) ty).at j=(k.φ i).at (off+j):=fun j=>by
  show (⟨_,(k.φ i).o+off+j,none⟩:Addr)=⟨_,(k.φ i).o+(off+j),none⟩
  rw[Nat.add_assoc]
 have alive:∀ q cq,q≠s.nx→((s.kill i).push d).get q=some cq→s.get q=some cq∧q≠i:=fun q cq hq h=>by
  rw[St.push_ne (s.kill i) _ _ hq] at h
  by_cases e:q=i
  ·subst e;rw[St.kill_same] at h;cases h
  ·rw[St.kill_ne _ _ _ e] at h;exact⟨h,e⟩
 have hne:∀ q cq,s.get q=some cq→q≠k.m:=fun q cq hq=>by have:=hs.lt q cq hq;omega
 refine⟨by rw[St.nx_push,St.nx_kill,←hm];rfl,hs.fz,?_,?_,?_,hs.shp,hs.tz,?_,hs.cov⟩
 ·intro q cq hq
  rw[St.nx_push,St.nx_kill]
  by_cases e:q=s.nx
  ·omega
  ·have:=hs.lt q cq (alive q cq e hq).1
   omega
 ·intro q cq hq
  by_cases e:q=s.nx
  ·subst e
   have:((s.kill i).push d).get s.nx=some d:=St.push_same (s.kill i) d
   rw[this] at hq
   injection hq with hq
   subst hq
   rw[←hm,KW.push_same]
   refine⟨by simp only;omega,fun j hj=>?_⟩
   simp only at hj
   rw[hat]
   obtain⟨u,h1,h2,h3,h4⟩:=(hs.box i c hi).2 (off+j) (by omega)
   refine⟨u,h1,h2,h3,fun z hz=>?_⟩
   rcases hp j z hz with rfl | hz
   ·exact .no u
   ·exact(h4 z hz).mono hle
  ·obtain⟨h1,h2⟩:=alive q cq e hq
   rw[KW.push_ne _ _ _ (hne q cq h1)]
   obtain⟨hc,hb⟩:=hs.box q cq h1
   refine⟨hc,fun j hj=>?_⟩
   obtain⟨u,f1,f2,f3,f4⟩:=hb j hj
   exact⟨u,f1,f2,f3,fun z hz=>(f4 z hz).mono hle⟩
 ·intro a b ca cb ha hb hab x y hx hy
  by_cases ea:a=s.nx
  ·subst ea
   obtain⟨hb1,hb2⟩:=alive b cb (Ne.symm hab) hb
   rw[←hm,KW.push_same] at hx ⊢
   rw[KW.push_ne _ _ _ (hne b cb hb1)] at hy ⊢
   rw[hat]
   simp only at hx
   exact hs.sep i b c cb hi hb1 (Ne.symm hb2) _ _ (by omega) hy
  ·obtain⟨ha1,ha2⟩:=alive a ca ea ha
   rw[KW.push_ne _ _ _ (hne a ca ha1)] at hx ⊢
   by_cases eb:b=s.nx
   ·subst eb
    rw[←hm,KW.push_same] at hy ⊢
    rw[hat]
    simp only at hy
    exact hs.sep a i ca c ha1 hi ha2 _ _ hx (by omega)
   ·obtain⟨hb1,hb2⟩:=alive b cb eb hb
    rw[KW.push_ne _ _ _ (hne b cb hb1)] at hy ⊢
    exact hs.sep a b ca cb ha1 hb1 hab x y hx hy
 ·intro q cq T hq hT
  by_cases e:q=s.nx
  ·subst e
   rw[←hm,KW.push_same] at hT ⊢
   obtain⟨rfl,h0⟩:=hty T hT
   obtain⟨h1,cs,h2,h3⟩:=hs.ty i c T hi h0
   exact⟨(by show (k.φ i).o+0=0;omega),cs,h2,(by show cs.size=(k.φ i).cap-0;omega)⟩
  ·obtain⟨h1,h2⟩:=alive q cq e hq
   rw[KW.push_ne _ _ _ (hne q cq h1)] at hT ⊢
   exact hs.ty q cq T h1 hT
theorem Sim.move {w0 w:World} {k:KW} {s:St} (hs:Sim w0 k w s) {i:Nat} {c:List AV} (hi:s.get i=some c) (off:Nat) (d:List AV) (hd:d.length+off≤(k.φ i).cap) (hp:∀ (j:Nat) (z:AV),d[j]?=some z→z=.no∨c[off+j]?=some z) :
  Sim w0 (k.push ⟨(k.φ i).b,(k.φ i).o+off,(k.φ i).cap-off,none⟩) w ((s.kill i).push d):=hs.moveT hi off none (fun T h=>(by cases h)) d hd hp
end Ax
namespace Ax
open Go Go.RowKit
variable {P:Program}
def byteAV (b:ByteArray):List AV:=b.data.toList.map fun x=>.v (.int .u8 x.toNat)
def xsrc (P:Program) (s:St) (tx:TypeId) (y:AV) (sz:Nat):Option (Nat × List AV):=
 match tiOf P tx with
 | some ti=>match ti.k,y with
  | .sl _,.sl m c=>if c.length=m*sz then some (m,c) else none
  | .sl _,.own id off m sz'=>match s.get id with
   | some c=>if sz'=sz∧off+m*sz≤c.length then some (m,(c.drop off).take (m*sz)) else none
   | none=>none
  | .sl _,.v (.slice none 0 0)=>some (0,[])
  | .sl _,.v (.slice (some _) 0 _)=>some (0,[])
  | .str,.v (.string b)=>if sz=1 then some (b.size,byteAV b) else none
  | _,_=>none
 | none=>none
theorem RelL.mk_mono {k k':KW} {c:List AV} {us:List Value} (h:RelL k c us) (hk:KW.le k.m k k'):RelL k' c us:=⟨h.1,fun j z u hz hu=>(h.2 j z u hz hu).mono hk⟩
theorem relL_one {k:KW} {zs:List AV} {us:List Value} (h:RelL k zs us) (h1:zs.all AV.one=true):∀ u∈us,u.oneCell'=true:=by
 intro u hu
 obtain⟨j,hj,rfl⟩:=List.getElem_of_mem hu
 have hj':j<zs.length:=by rw[←h.1];exact hj
 exact((h.2 j zs[j] us[j] (by simp [hj']) (by simp [hj])).one (List.all_eq_true.1 h1 _ (List.getElem_mem _))).1
theorem reads_list {k:KW} {w:World} {a:Addr} {c:List AV} (h:Reads k w a c) (n:Nat) (hn:n≤c.length):∃ us:List Value,RelL k (c.take n) us∧us.length=n∧∀ (j:Nat) (u:Value),us[j]?=some u→w.cell? (a.add j)=some u:=by
 obtain⟨us,h1,_,h2,h3⟩:=loadCells_reads (P:=default) h hn
 refine⟨us,⟨by simp [h1];omega,fun j z u hz hu=>?_⟩,h1,h2⟩
 rw[List.getElem?_take] at hz
 split at hz
 ·exact h3 j z u hz hu
 ·cases hz
theorem src_gives {w0 w:World} {k:KW} {s:St} (hs:Sim w0 k w s) {tx:TypeId} {y:AV} {uy:Value} {sz m:Nat} {zs:List AV} (hy:Rel k y uy) (h:xsrc P s tx y sz=some (m,zs)) (h1:zs.all AV.one=true) :
  ∃ news,Src P sz tx uy m news w∧RelL k zs news:=by
 unfold xsrc at h
 split at h
 ·rename_i ti ht
  split at h
  ·rename_i e' m c hk
   split at h
   ·rename_i hl
    injection h with h
    injection h with e1 e2
    subst e1 e2
    obtain⟨a,cap,rfl,g1,g2⟩:=hy.sl_form
    cases a with
    | none=>
     have hm:m=0:=by
      rcases Nat.eq_zero_or_pos m with h | h
      ·exact h
      ·obtain⟨b,hb,_⟩:=g1 h;cases hb
     subst hm
     have:c=[]:=List.eq_nil_of_length_eq_zero (by simpa using hl)
     subst this
     exact⟨[],Src.ofNil w (under_sl ht hk) cap,rfl,fun j z u hz=>by simp at hz⟩
    | some a=>
     obtain⟨a',ha',hr⟩:=reads_rf hs (g2 a rfl)
     injection ha' with ha'
     injection ha' with ha'
     subst ha'
     obtain⟨us,q1,q2,q3⟩:=reads_list hr c.length (Nat.le_refl _)
     rw[List.take_length] at q1
     exact⟨us,Src.ofSlice w (under_sl ht hk) a m cap us (by omega) q3 (relL_one q1 h1),q1⟩
   ·cases h
  ·rename_i e' id off m sz' hk
   split at h
   ·rename_i c hc
    split at h
    ·rename_i hl
     obtain⟨rfl,hl⟩:=hl
     injection h with h
     injection h with e1 e2
     subst e1 e2
     cases hy with
     | own _ _ _ _ cap hi hn hcc=>
      obtain⟨a',ha',_,hr⟩:=reads_ptr hs hc (Rel.ptr id off hi)
      injection ha' with ha'
      injection ha' with ha'
      subst ha'
      obtain⟨us,q1,q2,q3⟩:=reads_list hr (m*sz') (by rw[List.length_drop];omega)
      exact⟨us,Src.ofSlice w (under_sl ht hk) _ m cap us q2 q3 (relL_one q1 h1),q1⟩
     | own0 _ _ _ a hi hcc=>
      cases a with
      | none=>exact⟨[],Src.ofNil w (under_sl ht hk) 0,by simp,fun j z u hz=>by simp at hz⟩
      | some a=>exact⟨[],Src.ofSlice w (under_sl ht hk) a 0 0 [] (by simp) (fun j u hu=>by simp at hu) (fun u hu=>by cases hu),by simp,fun j z u hz=>by simp at hz⟩
    ·cases h
   ·cases h
  ·rename_i e' hk
   injection h with h
   injection h with e1 e2
   subst e1 e2
   obtain rfl:=hy.v_eq
   exact⟨[],Src.ofNil w (under_sl ht hk) 0,rfl,fun j z u hz=>by simp at hz⟩
  ·rename_i e' a cap hk
   injection h with h
   injection h with e1 e2
   subst e1 e2
   obtain rfl:=hy.v_eq
   exact⟨[],Src.ofSlice w (under_sl ht hk) a 0 cap [] (by simp) (fun j u hu=>by simp at hu) (fun u hu=>by cases hu),rfl,fun j z u hz=>by simp at hz⟩
  ·rename_i b hk
   split at h
   ·rename_i hsz
    subst hsz
    injection h with h
    injection h with e1 e2
    subst e1 e2
    obtain rfl:=hy.v_eq
    refine⟨byteCells b,Src.ofString w (under_str ht hk) b,by simp [byteAV,byteCells],fun j z u hz hu=>?_⟩
    unfold byteAV at hz
    unfold byteCells at hu
    rw[List.getElem?_map] at hz hu
    cases hj:b.data.toList[j]? with
    | none=>rw[hj] at hz;cases hz
    | some x=>
     rw[hj] at hz hu
     injection hz with hz
     injection hu with hu
     subst hz hu
     exact .v _
   ·cases h
  ·cases h
 ·cases h
def xappend (P:Program) (s:St) (t tx:TypeId) (x y:AV):Option (AV × St):=
 match tiOf P t with
 | some ti=>match ti.k with
  | .sl e=>match tiOf P e with
   | some ei=>match xsrc P s tx y ei.size with
    | some (m,zs)=>if ei.zero.length=ei.size∧zs.length=m*ei.size∧zs.all AV.one=true then match x with
      | .own id off n sz=>match s.get id with
       | some c=>if sz=ei.size∧c.length=off+n*sz∧(n+m)*ei.bytes≤140737488355328∧n+m≤9223372036854775807 then some (.own s.nx 0 (n+m) sz,(s.kill id).push (c.drop off++zs)) else none
       | none=>none
      | .ob id n T=>match s.get id with
       | some c=>if T=e∧ei.size=1∧c.length=n∧(n+m)*ei.bytes≤140737488355328∧n+m≤9223372036854775807 then some (.ob s.nx (n+m) T,(s.kill id).push (c++zs)) else none
       | none=>none
      | .v (.slice none 0 0)=>if m=0 then some (.v (.slice none 0 0),s) else if m*ei.bytes≤140737488355328∧m≤9223372036854775807 then some (.own s.nx 0 m ei.size,s.push zs) else none
      | _=>none
     else none
    | none=>none
   | none=>none
  | _=>none
 | none=>none
theorem Sim.drew' {w0 w:World} {k:KW} {s:St} (h:Sim w0 k w s):Sim w0 k w.drew s:=h.drew _
theorem append_grown {w0 w:World} {k:KW} {s:St} (hs:Sim w0 k w s) {e:TypeId} {ei:TI} (hei:tiOf P e=some ei) (hz:ei.zero.length=ei.size) {i:TypeInfo} {zv:Value} (hzv:i.zero=some zv) (hcz:zv.cells.toList=ei.zero)
  (need old:Nat) (c:List AV) (us:List Value) (hr:RelL k c us) (hl:us.length=need*ei.size) :
  let cap:=grownCap w need old e
  let k':=k.push ⟨w.heap.size,0,(us++(Builtin.zeroCells zv.cells (cap-need)).toList).length,none⟩
  Sim w0 k' (w.drew.alloc (.cells (us.toArray++Builtin.zeroCells zv.cells (cap-need)) e)) (s.push c)∧Rel k' (.own s.nx 0 need ei.size) (.slice (some ⟨w.heap.size,0,none⟩) need cap):=by
 intro cap k'
 have hge:need≤cap:=grownCap_ge w need old e
 have hsz:zv.cells.size=ei.size:=by rw[←hz,←hcz];simp
 have hlen:(us++(Builtin.zeroCells zv.cells (cap-need)).toList).length=cap*ei.size:=by
  rw[List.length_append,hl,Array.length_toList,size_zeroCells,hsz,←Nat.add_mul]
  congr 1
  omega
 have hp:=hs.drew'.push (us++(Builtin.zeroCells zv.cells (cap-need)).toList) e c (by rw[List.length_append,hr.1];omega) (by
  intro j z u hz hu
  have hj:=(List.getElem?_eq_some_iff.1 hz).1
  rw[List.getElem?_append_left (by rw[hr.1];exact hj)] at hu
  exact hr.2 j z u hz hu)
 have e1:(us++(Builtin.zeroCells zv.cells (cap-need)).toList).toArray=us.toArray++Builtin.zeroCells zv.cells (cap-need):=by
  apply Array.ext'
  simp
 rw[e1] at hp
 refine⟨hp,?_⟩
 have:=Rel.own (k:=k') k.m 0 need ei.size cap (Nat.lt_succ_self _) hge (by
  show 0+cap*ei.size=((k.push _).φ k.m).cap
  rw[KW.push_same]
  simp only[hlen]
  omega)
 rw[show k'.φ k.m=_ from KW.push_same _ _] at this
 rw[←hs.m]
 exact this
theorem append_grownT {w0 w:World} {k:KW} {s:St} (hs:Sim w0 k w s) {e:TypeId} {ei:TI} (hei:tiOf P e=some ei) (hz:ei.zero.length=ei.size) {i:TypeInfo} {zv:Value} (hzv:i.zero=some zv) (hcz:zv.cells.toList=ei.zero)
  (need old:Nat) (c:List AV) (us:List Value) (hr:RelL k c us) (hl:us.length=need*ei.size) :
  let cap:=grownCap w need old e
  let k':=k.push ⟨w.heap.size,0,(us++(Builtin.zeroCells zv.cells (cap-need)).toList).length,some e⟩
  Sim w0 k' (w.drew.alloc (.cells (us.toArray++Builtin.zeroCells zv.cells (cap-need)) e)) (s.push c)∧(ei.size=1→0<need→Rel k' (.ob s.nx need e) (.slice (some ⟨w.heap.size,0,none⟩) need cap)):=by
 intro cap k'
 have hge:need≤cap:=grownCap_ge w need old e
 have hsz:zv.cells.size=ei.size:=by rw[←hz,←hcz];simp
 have hlen:(us++(Builtin.zeroCells zv.cells (cap-need)).toList).length=cap*ei.size:=by
  rw[List.length_append,hl,Array.length_toList,size_zeroCells,hsz,←Nat.add_mul]
  congr 1
  omega
 have hp:=hs.drew'.pushT (some e) (us++(Builtin.zeroCells zv.cells (cap-need)).toList) e (fun T h=>(by injection h with h;exact h.symm)) c (by rw[List.length_append,hr.1];omega) (by
  intro j z u hz hu
  have hj:=(List.getElem?_eq_some_iff.1 hz).1
  rw[List.getElem?_append_left (by rw[hr.1];exact hj)] at hu
  exact(hr.2 j z u hz hu).mono (k.push_le _))
 have e1:(us++(Builtin.zeroCells zv.cells (cap-need)).toList).toArray=us.toArray++Builtin.zeroCells zv.cells (cap-need):=by
  apply Array.ext'
  simp
 rw[e1] at hp
 refine⟨hp,fun h1 hpos=>?_⟩
 have:=Rel.ob (k:=k') k.m need e cap (Nat.lt_succ_self _) (by rw[show k'.φ k.m=_ from KW.push_same _ _]) hge (by
  rw[show k'.φ k.m=_ from KW.push_same _ _]
  simp only[hlen,h1,Nat.mul_one]) (by omega)
 rw[show k'.φ k.m=_ from KW.push_same _ _] at this
 rw[←hs.m]
 exact this
theorem append_gives {w0 w:World} {k:KW} {s s':St} (hs:Sim w0 k w s) {t tx ty:TypeId} {x y z:AV} {ux uy:Value} (hx:Rel k x ux) (hy:Rel k y uy) (h:xappend P s t tx x y=some (z,s')) :
  GivesV P w0 k (Builtin.append_ #[t,tx] ty #[ux,uy]) w z s':=by
 unfold xappend at h
 split at h
 ·rename_i ti ht
  split at h
  ·rename_i e hk
   have hu:=under_sl ht hk
   split at h
   ·rename_i ei hei
    obtain⟨d,i,zv,hd,hi,hz,hs2,hby,hcz,hk2⟩:=ti_info hei
    split at h
    ·rename_i m zs hsrc
     split at h
     ·rename_i hh
      obtain⟨hz0,hzl,hone⟩:=hh
      obtain⟨news,hS,hN⟩:=src_gives hs hy hsrc hone
      rw[←hs2] at hS
      split at h
      ·rename_i id off n sz
       split at h
       ·rename_i c hc
        split at h
        ·rename_i hcond
         obtain⟨rfl,hcl,hb,h63⟩:=hcond
         injection h with h
         injection h with e1 e2
         subst e1 e2
         have grow:∀ (a:Option Addr) (cap:Nat),cap<n+m→(0<n→a=some ((k.φ id).at off)∧id<k.m)→GivesV P w0 k (Builtin.append_ #[t,tx] ty #[.slice a n cap,uy]) w (.own s.nx 0 (n+m) ei.size) ((s.kill id).push (c.drop off++zs)):=by
          intro a cap hlt ha
          have old:∃ olds,RelL k (c.drop off) olds∧(Builtin.firstCells i.size n (.slice a n cap)).run P w.drew=.ok olds.toArray w.drew:=by
           by_cases hn:0<n
           ·obtain⟨rfl,hid⟩:=ha hn
            obtain⟨a',ha',_,hr⟩:=reads_ptr hs.drew' hc (Rel.ptr id off hid)
            injection ha' with ha'
            injection ha' with ha'
            subst ha'
            obtain⟨us,q1,q2,_,q3⟩:=loadCells_reads (P:=P) hr (n:=n*ei.size) (by rw[List.length_drop];omega)
            refine⟨us,⟨by rw[q1,List.length_drop];omega,q3⟩,?_⟩
            unfold Builtin.firstCells
            rw[hs2]
            exact q2
           ·obtain rfl:n=0:=by omega
            have:c.drop off=[]:=List.eq_nil_of_length_eq_zero (by rw[List.length_drop];omega)
            rw[this]
            refine⟨[],⟨rfl,fun j z u hz=>by simp at hz⟩,?_⟩
            unfold Builtin.firstCells
            rw[Nat.zero_mul]
            cases a <;> rfl
          obtain⟨olds,ho1,ho2⟩:=old
          have hr:=run_append_grow_src (P:=P) w t tx ty e i zv hu hi hz a n cap olds ho2 uy m news hS hlt (by omega) (growslice_fits hlt (by rw[hby];exact hb))
          have hrel:RelL k (c.drop off++zs) (olds++news):=by
           refine⟨by simp [ho1.1,hN.1],fun j z u hz hu=>?_⟩
           by_cases hj:j<(c.drop off).length
           ·rw[List.getElem?_append_left hj] at hz
            rw[List.getElem?_append_left (by rw[ho1.1];exact hj)] at hu
            exact ho1.2 j z u hz hu
           ·rw[List.getElem?_append_right (by omega)] at hz
            rw[List.getElem?_append_right (by rw[ho1.1];omega),ho1.1] at hu
            exact hN.2 _ z u hz hu
          obtain⟨p1,p2⟩:=append_grown (hs.kill id) hei hz0 hz hcz (n+m) cap (c.drop off++zs) (olds++news) hrel (by
           rw[hrel.1,List.length_append,List.length_drop,hcl,hzl,Nat.add_mul]
           omega)
          exact⟨_,_,_,hr,p2,p1,k.push_le _⟩
         cases hx with
         | own _ _ _ _ cap hi2 hn hcc=>
          by_cases hroom:n+m≤cap
          ·have hcap:(n+m)*ei.size≤cap*ei.size:=Nat.mul_le_mul_right _ hroom
           have hnl:news.length=m*ei.size:=by rw[hN.1,hzl]
           have hml:(n+m)*ei.size=n*ei.size+m*ei.size:=Nat.add_mul _ _ _
           have hbox:=(hs.box id c hc).2
           have hat:∀ j,(⟨(k.φ id).b,(k.φ id).o+off+n*i.size+j,none⟩:Addr)=(k.φ id).at (off+n*ei.size+j):=fun j=>by
            rw[hs2]
            unfold Rng.at
            rw[Nat.add_assoc,Nat.add_assoc,Nat.add_assoc]
           have hr:=run_append_room_src (P:=P) w t tx ty e i hu hi (k.φ id).b ((k.φ id).o+off) n cap uy m news hS hroom
            (fun j hj=>by
             rw[hat]
             obtain⟨u,g1,_⟩:=hbox (off+n*ei.size+j) (by omega)
             rw[g1]
             rfl)
            (fun j hj=>by
             rw[hat]
             obtain⟨u,g1,g2,_⟩:=hbox (off+n*ei.size+j) (by omega)
             exact g2)
           have hmv:=hs.move hc off (c.drop off++List.replicate (m*ei.size) .no) (by
            rw[List.length_append,List.length_drop,List.length_replicate]
            omega) (by
            intro j z hz
            by_cases hj:j<(c.drop off).length
            ·rw[List.getElem?_append_left hj,List.getElem?_drop] at hz
             exact .inr hz
            ·rw[List.getElem?_append_right (by omega)] at hz
             exact .inl (List.eq_of_mem_replicate (List.mem_of_getElem? hz)))
           have hdl:(c.drop off).length=n*ei.size:=by rw[List.length_drop];omega
           have hm:k.m=s.nx:=hs.m
           have hw:=Sim.writes (id:=k.m) news zs (n*ei.size) (RelL.mk_mono hN (k.push_le _)) hmv (c:=c.drop off++List.replicate (m*ei.size) .no) (by rw[hm];exact St.push_same (s.kill id) _) (by
            rw[List.length_append,List.length_replicate,hdl]
            omega)
           rw[spl_append zs _ _ _ hdl.symm (by rw[List.length_replicate,hzl])] at hw
           rw[KW.push_same] at hw
           have hset:((s.kill id).push (c.drop off++List.replicate (m*ei.size) .no)).set k.m (c.drop off++zs)=(s.kill id).push (c.drop off++zs):=by
            rw[hm]
            unfold St.set St.push
            congr 1
            funext j
            by_cases hj:j=s.nx <;> simp [hj,St.nx_kill]
           rw[hset] at hw
           refine⟨_,_,k.push ⟨(k.φ id).b,(k.φ id).o+off,(k.φ id).cap-off,none⟩,hr,?_,?_,k.push_le _⟩
           rotate_left
           ·rw[hs2]
            exact hw
           ·have:=Rel.own (k:=k.push ⟨(k.φ id).b,(k.φ id).o+off,(k.φ id).cap-off,none⟩) k.m 0 (n+m) ei.size cap (Nat.lt_succ_self _) hroom (by rw[KW.push_same];simp only;omega)
            rw[KW.push_same] at this
            rw[←hm]
            exact this
          ·exact grow _ cap (by omega) (fun _=>⟨rfl,hi2⟩)
         | own0 _ _ _ a hi2 hcc=>
          by_cases hm0:m=0
          ·subst hm0
           have hzs:zs=[]:=List.eq_nil_of_length_eq_zero (by simpa using hzl)
           subst hzs
           have hnews:news=[]:=List.eq_nil_of_length_eq_zero (by simpa using hN.1)
           subst hnews
           have hdl:c.drop off=[]:=List.eq_nil_of_length_eq_zero (by rw[List.length_drop];omega)
           have hmv:=hs.move hc off [] (by
            have:=(hs.box id c hc).1
            simp only[List.length_nil]
            omega) (fun j z hz=>by simp at hz)
           rw[hdl]
           have ra:(Builtin.append_ #[t,tx] ty #[.slice a 0 0,uy]).run P w=.ok (.slice a 0 0) w:=by
            cases a <;> rcases hS.kind with ⟨e',hk⟩ | hk <;> simp [Builtin.append_,run_underlying hu,run_underlying hk,Go.sizeOf,typeInfo,hi,hS.len,hS.cells,storeCells]
           refine⟨_,_,_,ra,?_,hmv,k.push_le _⟩
           rw[←hs.m]
           exact .own0 _ _ _ _ (Nat.lt_succ_self _) (by rw[KW.push_same];show 0=(k.φ id).cap-off;omega)
          ·exact grow a 0 (by omega) (fun h=>absurd h (Nat.lt_irrefl _))
        ·cases h
       ·cases h
      ·rename_i id n T
       split at h
       ·rename_i c hc
        split at h
        ·rename_i hcond
         obtain⟨rfl,h1,hcl,hb,h63⟩:=hcond
         injection h with h
         injection h with e1 e2
         subst e1 e2
         have grow:∀ (a:Option Addr) (cap:Nat),cap<n+m→(0<n→a=some ((k.φ id).at 0)∧id<k.m)→GivesV P w0 k (Builtin.append_ #[t,tx] ty #[.slice a n cap,uy]) w (.ob s.nx (n+m) T) ((s.kill id).push (c++zs)):=by
          intro a cap hlt ha
          have old:∃ olds,RelL k c olds∧(Builtin.firstCells i.size n (.slice a n cap)).run P w.drew=.ok olds.toArray w.drew:=by
           by_cases hn:0<n
           ·obtain⟨rfl,hid⟩:=ha hn
            obtain⟨a',ha',_,hr⟩:=reads_ptr hs.drew' hc (Rel.ptr id 0 hid)
            injection ha' with ha'
            injection ha' with ha'
            subst ha'
            rw[List.drop_zero] at hr
            obtain⟨us,q1,q2,_,q3⟩:=loadCells_reads (P:=P) hr (n:=n*ei.size) (by rw[h1];omega)
            refine⟨us,⟨by rw[q1,h1];omega,q3⟩,?_⟩
            unfold Builtin.firstCells
            rw[hs2]
            exact q2
           ·obtain rfl:n=0:=by omega
            have:c=[]:=List.eq_nil_of_length_eq_zero hcl
            rw[this]
            refine⟨[],⟨rfl,fun j z u hz=>by simp at hz⟩,?_⟩
            unfold Builtin.firstCells
            rw[Nat.zero_mul]
            cases a <;> rfl
          obtain⟨olds,ho1,ho2⟩:=old
          have hr:=run_append_grow_src (P:=P) w t tx ty T i zv hu hi hz a n cap olds ho2 uy m news hS hlt (by omega) (growslice_fits hlt (by rw[hby];exact hb))
          have hrel:RelL k (c++zs) (olds++news):=by
           refine⟨by simp [ho1.1,hN.1],fun j z u hz hu=>?_⟩
           by_cases hj:j<c.length
           ·rw[List.getElem?_append_left hj] at hz
            rw[List.getElem?_append_left (by rw[ho1.1];exact hj)] at hu
            exact ho1.2 j z u hz hu
           ·rw[List.getElem?_append_right (by omega)] at hz
            rw[List.getElem?_append_right (by rw[ho1.1];omega),ho1.1] at hu
            exact hN.2 _ z u hz hu
          obtain⟨p1,p2⟩:=append_grownT (hs.kill id) hei hz0 hz hcz (n+m) cap (c++zs) (olds++news) hrel (by
           rw[hrel.1,List.length_append,hcl,hzl,h1]
           omega)
          exact⟨_,_,_,hr,p2 h1 (by omega),p1,k.push_le _⟩
         cases hx with
         | ob _ _ _ cap hi2 hty hn hcc hc0=>
          by_cases hroom:n+m≤cap
          ·have hnl:news.length=m*ei.size:=by rw[hN.1,hzl]
           have hbox:=(hs.box id c hc).2
           rw[h1,Nat.mul_one] at hzl hnl
           have hat:∀ j,(⟨(k.φ id).b,(k.φ id).o+0+n*i.size+j,none⟩:Addr)=(k.φ id).at (n+j):=fun j=>by
            rw[hs2,h1]
            unfold Rng.at
            rw[Nat.mul_one,Nat.add_zero,Nat.add_assoc]
           have hr:=run_append_room_src (P:=P) w t tx ty T i hu hi (k.φ id).b ((k.φ id).o+0) n cap uy m news hS hroom
            (fun j hj=>by
             rw[hat]
             obtain⟨u,g1,_⟩:=hbox (n+j) (by omega)
             rw[g1]
             rfl)
            (fun j hj=>by
             rw[hat]
             obtain⟨u,g1,g2,_⟩:=hbox (n+j) (by omega)
             exact g2)
           have hmv:=hs.moveT hc 0 (some T) (fun T' h=>(by injection h with h;subst h;exact⟨rfl,hty⟩)) (c++List.replicate m .no) (by
            rw[List.length_append,List.length_replicate]
            omega) (by
            intro j z hz
            by_cases hj:j<c.length
            ·rw[List.getElem?_append_left hj] at hz
             rw[Nat.zero_add]
             exact .inr hz
            ·rw[List.getElem?_append_right (by omega)] at hz
             exact .inl (List.eq_of_mem_replicate (List.mem_of_getElem? hz)))
           have hm:k.m=s.nx:=hs.m
           have hw:=Sim.writes (id:=k.m) news zs n (RelL.mk_mono hN (k.push_le _)) hmv (c:=c++List.replicate m .no) (by rw[hm];exact St.push_same (s.kill id) _) (by
            rw[List.length_append,List.length_replicate]
            omega)
           rw[spl_append zs _ _ _ hcl.symm (by rw[List.length_replicate,hzl])] at hw
           rw[KW.push_same] at hw
           have hset:((s.kill id).push (c++List.replicate m .no)).set k.m (c++zs)=(s.kill id).push (c++zs):=by
            rw[hm]
            unfold St.set St.push
            congr 1
            funext j
            by_cases hj:j=s.nx <;> simp [hj,St.nx_kill]
           rw[hset] at hw
           refine⟨_,_,k.push ⟨(k.φ id).b,(k.φ id).o+0,(k.φ id).cap-0,some T⟩,hr,?_,?_,k.push_le _⟩
           rotate_left
           ·rw[hs2,h1,Nat.mul_one]
            exact hw
           ·have:=Rel.ob (k:=k.push ⟨(k.φ id).b,(k.φ id).o+0,(k.φ id).cap-0,some T⟩) k.m (n+m) T cap (Nat.lt_succ_self _) (by rw[KW.push_same]) hroom (by rw[KW.push_same];simp only;omega) hc0
            rw[KW.push_same] at this
            rw[←hm]
            exact this
          ·exact grow _ cap (by omega) (fun _=>⟨rfl,hi2⟩)
         | ob0 _ _ hi2 hcc=>
          by_cases hm0:m=0
          ·subst hm0
           have hzs:zs=[]:=List.eq_nil_of_length_eq_zero (by simpa using hzl)
           subst hzs
           have hnews:news=[]:=List.eq_nil_of_length_eq_zero (by simpa using hN.1)
           subst hnews
           have hc0:c=[]:=List.eq_nil_of_length_eq_zero hcl
           subst hc0
           have ra:(Builtin.append_ #[t,tx] ty #[.slice none 0 0,uy]).run P w=.ok (.slice none 0 0) w:=by
            rcases hS.kind with ⟨e',hk⟩ | hk <;> simp [Builtin.append_,run_underlying hu,run_underlying hk,Go.sizeOf,typeInfo,hi,hS.len,hS.cells,storeCells]
           refine⟨_,_,_,ra,?_,(hs.kill id).ghost,k.push_le _⟩
           rw[←hs.m]
           exact .ob0 _ _ (Nat.lt_succ_self _) (by rw[KW.push_same])
          ·exact grow none 0 (by omega) (fun h=>absurd h (Nat.lt_irrefl _))
        ·cases h
       ·cases h
      ·obtain rfl:=hx.v_eq
       split at h
       ·rename_i hm0
        subst hm0
        injection h with h
        injection h with e1 e2
        subst e1 e2
        have hzs:zs=[]:=List.eq_nil_of_length_eq_zero (by simpa using hzl)
        subst hzs
        have hnews:news=[]:=List.eq_nil_of_length_eq_zero (by simpa using hN.1)
        subst hnews
        refine .pure hs ?_ (.v _)
        rcases hS.kind with ⟨e',hk⟩ | hk <;> simp [Builtin.append_,run_underlying hu,run_underlying hk,Go.sizeOf,typeInfo,hi,hS.len,hS.cells]
       ·rename_i hm0
        split at h
        ·rename_i hcond
         injection h with h
         injection h with e1 e2
         subst e1 e2
         have hr:=run_append_grow_src (P:=P) w t tx ty e i zv hu hi hz none 0 0 [] (by rfl) uy m news hS (by omega) (by omega) (growslice_fits (by omega) (by rw[hby,Nat.zero_add];exact hcond.1))
         simp only[Nat.zero_add,List.nil_append] at hr
         obtain⟨p1,p2⟩:=append_grown hs hei hz0 hz hcz m 0 zs news hN (by rw[hN.1,hzl])
         exact⟨_,_,_,hr,p2,p1,k.push_le _⟩
        ·cases h
      ·cases h
     ·cases h
    ·cases h
   ·cases h
  ·cases h
 ·cases h
end Ax
namespace Ax
open Go Go.RowKit
variable {P:Program}
def xint (op:BinOp) (k:IntKind) (x y:Int):Option Value:=
 match op with
 | .add=>some (.int k (k.wrap (x+y)))
 | .sub=>some (.int k (k.wrap (x-y)))
 | .mul=>some (.int k (k.wrap (x*y)))
 | .quo=>if y=0 then none else some (.int k (k.wrap (x.tdiv y)))
 | .rem=>if y=0 then none else some (.int k (x.tmod y))
 | .and=>some (.int k (k.wrap (BitVec.ofInt k.bits x &&& BitVec.ofInt k.bits y).toNat))
 | .or=>some (.int k (k.wrap (BitVec.ofInt k.bits x ||| BitVec.ofInt k.bits y).toNat))
 | .xor=>some (.int k (k.wrap (BitVec.ofInt k.bits x ^^^ BitVec.ofInt k.bits y).toNat))
 | .andNot=>some (.int k (k.wrap (BitVec.ofInt k.bits x &&& ~~~(BitVec.ofInt k.bits y)).toNat))
 | .eql=>some (.bool (x==y))
 | .neq=>some (.bool (x != y))
 | .lss=>some (.bool (decide (x<y)))
 | .leq=>some (.bool (decide (x≤y)))
 | .gtr=>some (.bool (decide (y<x)))
 | .geq=>some (.bool (decide (y≤x)))
 | _=>none
def xshift (op:BinOp) (k:IntKind) (x y:Int):Option Value:=
 if y<0 then none else match op with
 | .shl=>some (.int k (k.wrap (x*2 ^ (min y.toNat k.bits))))
 | .shr=>some (.int k (x.fdiv (2 ^ (min y.toNat k.bits))))
 | _=>none
def xstr (op:BinOp) (a b:ByteArray):Option Value:=
 match op with
 | .add=>if a.size+b.size≤9223372036854775807 then some (.string (a++b)) else none
 | .eql=>some (.bool (a.toList==b.toList))
 | .neq=>some (.bool !(a.toList==b.toList))
 | _=>none
def isK:Operand→Bool | .const _=>true | _=>false
def eqOk (P:Program) (t:TypeId):Bool:=
 (match P.underlying t with
  | some (.struct fs)=>fs.size==2&&fs.all (fun f=>f.name != "_" && (match P.underlying f.type with | some (.int _)=>true | _=>false))
  | _=>false)&&!P.stoodInHeld t&&!P.eqGuardType P.depth t
def xeq (P:Program) (t:TypeId) (c1 c2:Bool) (x y:AV):Option Bool:=
 match tiOf P t with
 | some ti=>match ti.k,x,y with
  | .bool,.v (.bool a),.v (.bool b)=>some (a==b)
  | .sl _,.own _ _ n _,.v (.slice none _ _)=>if 0<n then some false else none
  | .sl _,.sl n _,.v (.slice none _ _)=>if 0<n then some false else none
  | .sl _,.v (.slice none _ _),.v (.slice none _ _)=>some true
  | .sl _,.v (.slice (some _) _ _),.v (.slice none _ _)=>some false
  | .pt _,.ptr ..,.v (.pointer none)=>some false
  | .pt _,.rf ..,.v (.pointer none)=>some false
  | .pt _,.v (.pointer none),.v (.pointer none)=>some true
  | .ifc,.v .nilIface,.v .nilIface=>if c1||c2 then some true else none
  | .ifc,.v (.iface _ _),.v .nilIface=>some false
  | .ifc,.v .nilIface,.v (.iface _ _)=>some false
  | .st [(0,_),(1,_)],.ag [.v (.int ka a),.v (.int kb b)],.ag [.v (.int kc c),.v (.int kd d)]=>if eqOk P t=true∧ka=kc∧kb=kd then some (a==c&&b==d) else none
  | _,_,_=>none
 | none=>none
def xbin (P:Program) (op:BinOp) (t:TypeId) (c1 c2:Bool) (x y:AV):Option Value:=
 match x,y with
 | .v (.int k a),.v (.int k' b)=>match op with
  | .shl | .shr=>xshift op k a b
  | _=>if k=k' then xint op k a b else none
 | .v (.string a),.v (.string b)=>xstr op a b
 | _,_=>match op with
  | .eql=>(xeq P t c1 c2 x y).map .bool
  | .neq=>(xeq P t c1 c2 x y).map fun b=>.bool !b
  | _=>none
theorem run_xint {op : BinOp} {k : IntKind} {a b : Int} {t : TypeId} {v : Value} (h : xint op k a b = some v) (w : World) : (binOp op t (.int k a) (.int k b)).run P w = .ok v w := by
  cases op <;> simp only [xint] at h <;> first
    | (injection h with h; subst h; simp [binOp, Op.intArith, Op.intBits, Op.intCmp])
    | (split at h
       · cases h
       · injection h with h; subst h; simp [binOp, Op.intDiv, *])
    | cases h
theorem run_guard_plain (op : BinOp) (t : TypeId) (x y : Operand) (a b : Value) (h : (match a, b with | .nilIface, .nilIface => false | .agg _, .agg _ => false | _, _ => true) = true) (w : World) : (eqGuard op t x y a b).run P w = .ok () w := by
  unfold eqGuard
  cases op <;> first
    | rfl
    | (simp only [Bool.not_true, Bool.false_eq_true, if_false]
       split
       · cases h
       · cases h
       · rfl)
theorem bins_of_equal {t:TypeId} {a b:Value} {r:Bool} {w:World} (h1:binOp .eql t a b=(do pure (.bool (←Op.equal t a b)))) (h2:binOp .neq t a b=(do pure (.bool (!(←Op.equal t a b))))) (h:(Op.equal t a b).run P w=.ok r w) :
  (binOp .eql t a b).run P w=.ok (.bool r) w∧(binOp .neq t a b).run P w=.ok (.bool !r) w:=by
 constructor
 ·rw[h1,Sem.run_bind,h]
  rfl
 ·rw[h2,Sem.run_bind,h]
  rfl
theorem equal_int {t:TypeId} {k0 k:IntKind} {a c:Int} (d:Nat) (h:P.underlying t=some (.int k0)) (w:World):(Op.equalIn (d+1) t (.int k a) (.int k c)).run P w=.ok (a==c) w:=by
 rw[Op.equalIn]
 simp [run_underlying h]
theorem equal_two {t:TypeId} {g1 g2:Field} {k1 k2 ka kb:IntKind} {a b c e:Int} (d:Nat) (hgs:P.underlying t=some (.struct #[g1,g2])) (h2:P.stoodInHeld t=false) (n1:¬g1.name = "_") (n2:¬g2.name = "_") (o1:g1.offset=0) (o2:g2.offset=1)
  (hk1:P.underlying g1.type=some (.int k1)) (hk2:P.underlying g2.type=some (.int k2)) (w:World) :
  (Op.equalIn (d+1+1) t (.agg #[.int ka a,.int kb b]) (.agg #[.int ka c,.int kb e])).run P w=.ok (a==c&&b==e) w:=by
 have a1:∀ w,(isAgg g1.type).run P w=.ok false w:=fun w=>by simp [isAgg,run_underlying hk1]
 have a2:∀ w,(isAgg g2.type).run P w=.ok false w:=fun w=>by simp [isAgg,run_underlying hk2]
 have p1:∀ (x y:Value) w,(part g1.type #[x,y] g1.offset).run P w=.ok x w:=fun x y w=>by simp [part,a1,o1]
 have p2:∀ (x y:Value) w,(part g2.type #[x,y] g2.offset).run P w=.ok y w:=fun x y w=>by simp [part,a2,o2]
 have q1:=fun (x y:Int) w=>equal_int (P:=P) (k:=ka) (a:=x) (c:=y) d hk1 w
 have q2:=fun (x y:Int) w=>equal_int (P:=P) (k:=kb) (a:=x) (c:=y) d hk2 w
 rw[Op.equalIn]
 generalize Op.equalIn (d+1)=E at *
 have f1:(g1.name ≠ "_")=True:=eq_true n1
 have f2:(g2.name ≠ "_")=True:=eq_true n2
 by_cases e1:a=c <;> by_cases e2:b=e <;> (simp [run_underlying hgs,h2,f1,f2,p1,p2,q1,q2,e1,e2,program,Sem.run_bind,Sem.run];try simp [n1,n2,e1,e2])
theorem run_xeq {t : TypeId} {x y : Operand} {ax ay : AV} {k : KW} {a b : Value} (ha : Rel k ax a) (hb : Rel k ay b) {r : Bool} (h : xeq P t (isK x) (isK y) ax ay = some r) (op : BinOp) (w : World) :
    (eqGuard op t x y a b).run P w = .ok () w ∧ (binOp .eql t a b).run P w = .ok (.bool r) w ∧ (binOp .neq t a b).run P w = .ok (.bool !r) w := by
  obtain ⟨D, hD⟩ : ∃ d, ∀ t a b, Op.equal t a b = Op.equalIn (d + 1 + 1) t a b := ⟨9998, fun _ _ _ => rfl⟩
  unfold xeq at h
  split at h
  · rename_i ti ht
    split at h
    · rename_i a b hk
      obtain rfl := ha.v_eq
      obtain rfl := hb.v_eq
      injection h with h
      subst h
      exact ⟨run_guard_plain _ _ _ _ _ _ rfl w, bins_of_equal rfl rfl (by rw [hD]; unfold Op.equalIn; simp [run_underlying (under_bool ht hk)])⟩
    · rename_i n _ _ _ hk
      obtain rfl := hb.v_eq
      split at h
      · rename_i hn
        injection h with h
        subst h
        cases ha with
        | own => exact ⟨run_guard_plain _ _ _ _ _ _ rfl w, bins_of_equal rfl rfl (by rw [hD]; unfold Op.equalIn; simp [run_underlying (under_sl ht hk)])⟩
        | own0 => exact absurd hn (Nat.lt_irrefl _)
      · cases h
    · rename_i n c _ _ hk
      obtain rfl := hb.v_eq
      split at h
      · rename_i hn
        injection h with h
        subst h
        obtain ⟨a', cap, rfl, g1, g2⟩ := ha.sl_form
        obtain ⟨b', rfl, _⟩ := g1 hn
        exact ⟨run_guard_plain _ _ _ _ _ _ rfl w, bins_of_equal rfl rfl (by rw [hD]; unfold Op.equalIn; simp [run_underlying (under_sl ht hk)])⟩
      · cases h
    · rename_i hk
      obtain rfl := ha.v_eq
      obtain rfl := hb.v_eq
      injection h with h
      subst h
      exact ⟨run_guard_plain _ _ _ _ _ _ rfl w, bins_of_equal rfl rfl (by rw [hD]; unfold Op.equalIn; simp [run_underlying (under_sl ht hk)])⟩
    · rename_i hk
      obtain rfl := ha.v_eq
      obtain rfl := hb.v_eq
      injection h with h
      subst h
      exact ⟨run_guard_plain _ _ _ _ _ _ rfl w, bins_of_equal rfl rfl (by rw [hD]; unfold Op.equalIn; simp [run_underlying (under_sl ht hk)])⟩
    · rename_i hk
      obtain rfl := hb.v_eq
      injection h with h
      subst h
      cases ha
      exact ⟨run_guard_plain _ _ _ _ _ _ rfl w, bins_of_equal rfl rfl (by rw [hD]; unfold Op.equalIn; simp [run_underlying (under_pt ht hk)])⟩
    · rename_i hk
      obtain rfl := hb.v_eq
      injection h with h
      subst h
      cases ha
      exact ⟨run_guard_plain _ _ _ _ _ _ rfl w, bins_of_equal rfl rfl (by rw [hD]; unfold Op.equalIn; simp [run_underlying (under_pt ht hk)])⟩
    · rename_i hk
      obtain rfl := ha.v_eq
      obtain rfl := hb.v_eq
      injection h with h
      subst h
      exact ⟨run_guard_plain _ _ _ _ _ _ rfl w, bins_of_equal rfl rfl (by rw [hD]; unfold Op.equalIn; simp [run_underlying (under_pt ht hk)])⟩
    · rename_i hk
      obtain rfl := ha.v_eq
      obtain rfl := hb.v_eq
      split at h
      · rename_i hc
        injection h with h
        subst h
        obtain ⟨d, i, z, hd, hi, hz, hs2, hby, hcz, hk2⟩ := ti_info ht
        obtain ⟨ms, hms⟩ := kind_ifc (hk ▸ hk2).symm
        refine ⟨?_, bins_of_equal rfl rfl (by rw [hD]; unfold Op.equalIn; simp [run_underlying hms])⟩
        unfold eqGuard
        cases op <;> first
          | rfl
          | (simp only [Bool.not_true, Bool.false_eq_true, if_false]
             rw [if_pos (by cases x <;> cases y <;> first | rfl | cases hc)]
             rfl)
      · cases h
    · rename_i hk
      obtain rfl := ha.v_eq
      obtain rfl := hb.v_eq
      injection h with h
      subst h
      obtain ⟨d, i, z, hd, hi, hz, hs2, hby, hcz, hk2⟩ := ti_info ht
      obtain ⟨ms, hms⟩ := kind_ifc (hk ▸ hk2).symm
      exact ⟨run_guard_plain _ _ _ _ _ _ rfl w, bins_of_equal rfl rfl (by rw [hD]; unfold Op.equalIn; simp [run_underlying hms])⟩
    · rename_i hk
      obtain rfl := ha.v_eq
      obtain rfl := hb.v_eq
      injection h with h
      subst h
      obtain ⟨d, i, z, hd, hi, hz, hs2, hby, hcz, hk2⟩ := ti_info ht
      obtain ⟨ms, hms⟩ := kind_ifc (hk ▸ hk2).symm
      exact ⟨run_guard_plain _ _ _ _ _ _ rfl w, bins_of_equal rfl rfl (by rw [hD]; unfold Op.equalIn; simp [run_underlying hms])⟩
    · rename_i ta tb ka a kb b kc c kd d hk
      split at h
      · rename_i hh
        obtain ⟨hok, rfl, rfl⟩ := hh
        injection h with h
        subst h
        unfold eqOk at hok
        simp only [Bool.and_eq_true, Bool.not_eq_true'] at hok
        obtain ⟨⟨h1, h2⟩, h3⟩ := hok
        obtain ⟨d', i, z, hd, hi, hz, hs2, hby, hcz, hk2⟩ := ti_info ht
        obtain ⟨gs, hgs, hgl⟩ := kind_st (hk ▸ hk2).symm
        rw [hgs] at h1
        simp only [Bool.and_eq_true, beq_iff_eq] at h1
        obtain ⟨hsz, hall⟩ := h1
        obtain ⟨g1, g2, rfl⟩ : ∃ g1 g2, gs = #[g1, g2] := by
          match gs, hsz with
          | ⟨[g1, g2]⟩, _ => exact ⟨g1, g2, rfl⟩
        simp only [List.map_cons, List.map_nil, List.cons.injEq, Prod.mk.injEq, and_true] at hgl
        obtain ⟨⟨o1, t1⟩, o2, t2⟩ := hgl
        simp only [Array.all_eq_true_iff_forall_mem, Bool.and_eq_true, bne_iff_ne, ne_eq] at hall
        obtain ⟨n1, i1⟩ := hall g1 (by simp)
        obtain ⟨n2, i2⟩ := hall g2 (by simp)
        obtain ⟨k1, hk1⟩ : ∃ k1, P.underlying g1.type = some (.int k1) := by
          split at i1
          · exact ⟨_, by assumption⟩
          · cases i1
        obtain ⟨k2, hk2'⟩ : ∃ k2, P.underlying g2.type = some (.int k2) := by
          split at i2
          · exact ⟨_, by assumption⟩
          · cases i2
        cases ha with
        | ag _ us hl hr =>
          match us, hl with
          | [u1, u2], _ =>
          obtain rfl := (hr 0 _ _ rfl rfl).v_eq
          obtain rfl := (hr 1 _ _ rfl rfl).v_eq
          cases hb with
          | ag _ vs hl hr =>
            match vs, hl with
            | [v1, v2], _ =>
            obtain rfl := (hr 0 _ _ rfl rfl).v_eq
            obtain rfl := (hr 1 _ _ rfl rfl).v_eq
            have heq : ∀ w, (Op.equal t (.agg #[.int ka a, .int kb b]) (.agg #[.int ka c, .int kb d])).run P w = .ok (a == c && b == d) w := by
              intro w
              rw [hD]
              exact equal_two D hgs h2 n1 n2 o1.symm o2.symm hk1 hk2' w
            refine ⟨?_, bins_of_equal rfl rfl (heq w)⟩
            · unfold eqGuard
              cases op <;> first
                | rfl
                | simp [program, Sem.run_bind, Sem.run, h3]
      · cases h
    · cases h
  · cases h
theorem bin_gives {w0 w:World} {k:KW} {s:St} (hs:Sim w0 k w s) {op:BinOp} {t:TypeId} {x y:Operand} {ax ay:AV} {a b v:Value} (ha:Rel k ax a) (hb:Rel k ay b) (h:xbin P op t (isK x) (isK y) ax ay=some v) :
  GivesV P w0 k (do eqGuard op t x y a b;binOp op t a b) w (.v v) s:=by
 unfold xbin at h
 split at h
 ·rename_i k1 a k2 b
  obtain rfl:=ha.v_eq
  obtain rfl:=hb.v_eq
  refine .pure hs ?_ (.v _)
  rw[Sem.run_bind,run_guard_plain _ _ _ _ _ _ rfl]
  rw[Result.andThen_ok]
  split at h
  ·unfold xshift at h
   split at h
   ·cases h
   ·rename_i hn
    injection h with h
    subst h
    simp [binOp,Op.shift,hn]
  ·unfold xshift at h
   split at h
   ·cases h
   ·rename_i hn
    injection h with h
    subst h
    simp [binOp,Op.shift,hn]
  ·split at h
   ·rename_i hk
    subst hk
    exact run_xint h w
   ·cases h
 ·rename_i a b
  obtain rfl:=ha.v_eq
  obtain rfl:=hb.v_eq
  refine .pure hs ?_ (.v _)
  rw[Sem.run_bind,run_guard_plain _ _ _ _ _ _ rfl]
  rw[Result.andThen_ok]
  unfold xstr at h
  split at h
  ·split at h
   ·rename_i hl
    injection h with h
    subst h
    have:¬(((a.size+b.size:Nat):Int) > IntKind.i64.max):=by
     have:IntKind.i64.max=9223372036854775807:=rfl
     rw[this]
     omega
    simp only[binOp,Op.stringOp,this,if_false,Sem.run_pure]
   ·cases h
  ·injection h with h
   subst h
   simp [binOp,Op.stringOp]
  ·injection h with h
   subst h
   simp [binOp,Op.stringOp]
  ·cases h
 ·rename_i hni hns
  split at h
  ·cases hq:xeq P t (isK x) (isK y) ax ay with
   | none=>rw[hq] at h;cases h
   | some r=>
    rw[hq] at h
    injection h with h
    subst h
    obtain⟨g1,g2,g3⟩:=run_xeq ha hb hq .eql w
    refine .pure hs ?_ (.v _)
    rw[Sem.run_bind,g1,Result.andThen_ok]
    exact g2
  ·cases hq:xeq P t (isK x) (isK y) ax ay with
   | none=>rw[hq] at h;cases h
   | some r=>
    rw[hq] at h
    injection h with h
    subst h
    obtain⟨g1,g2,g3⟩:=run_xeq ha hb hq .neq w
    refine .pure hs ?_ (.v _)
    rw[Sem.run_bind,g1,Result.andThen_ok]
    exact g3
  ·cases h
end Ax
namespace Ax
open Go Go.RowKit
variable {P:Program}
def xun (op:UnOp) (x:AV):Option AV:=
 match op,x with
 | .neg,.v (.int k n)=>some (.v (.int k (k.wrap (0-n))))
 | .not,.v (.bool b)=>some (.v (.bool !b))
 | _,_=>none
def isByte:AV→Bool
 | .v (.int .u8 n)=>decide (0≤n)&&decide (n<256)
 | _=>false
def unbyte:AV→UInt8
 | .v (.int .u8 n)=>UInt8.ofNat n.toNat
 | _=>0
def xconv (P:Program) (s:St) (src dst:TypeId) (x:AV):Option AV:=
 match tiOf P dst,tiOf P src with
 | some td,some ts=>match td.k,ts.k,x with
  | .int k,_,.v (.int _ n)=>some (.v (.int k (k.wrap n)))
  | .str,.str,.v (.string b)=>some (.v (.string b))
  | .str,.sl e,.sl n c=>match tiOf P e with
   | some ei=>match ei.k with
    | .int .u8=>if c.length=n∧c.all isByte=true then some (.v (.string ⟨(c.map unbyte).toArray⟩)) else none
    | _=>none
   | none=>none
  | .str,.sl e,.own id off n sz=>match tiOf P e,s.get id with
   | some ei,some c=>match ei.k with
    | .int .u8=>if off+n≤c.length∧((c.drop off).take n).all isByte=true then some (.v (.string ⟨(((c.drop off).take n).map unbyte).toArray⟩)) else none
    | _=>none
   | _,_=>none
  | .sl e,.str,.v (.string b)=>match tiOf P e with
   | some ei=>match ei.k with
    | .int .u8=>some (.sl b.size (byteAV b))
    | _=>none
   | none=>none
  | _,_,_=>none
 | _,_=>none
theorem isByte_v {z:AV} (h:isByte z=true) {k:KW} {u:Value} (hr:Rel k z u):u=.int .u8 ((unbyte z).toNat:Int):=by
 unfold isByte at h
 split at h
 ·rename_i n
  obtain rfl:=hr.v_eq
  simp only[Bool.and_eq_true,decide_eq_true_eq] at h
  unfold unbyte
  congr 1
  simp
  omega
 ·cases h
theorem conv_bytes {k:KW} {w:World} {a:Addr} {c:List AV} (hr:Reads k w a c) (hb:c.all isByte=true) {src dst e:TypeId} (hs:P.underlying src=some (.slice e)) (he:P.underlying e=some (.int .u8)) (hd:P.underlying dst=some .string) (cap:Nat) :
  (convert src dst (.slice (some a) c.length cap)).run P w=.ok (.string ⟨(c.map unbyte).toArray⟩) w:=by
 have:=run_convert_bytes_back (P:=P) w src dst e a cap (c.map unbyte) hs he hd (by
  intro j hj
  rw[List.length_map] at hj
  obtain⟨u,h1,h2⟩:=hr j c[j] (by simp [hj])
  rw[h1,isByte_v (List.all_eq_true.1 hb _ (List.getElem_mem hj)) h2]
  simp)
 rw[List.length_map] at this
 exact this
theorem conv_gives {w0 w:World} {k:KW} {s:St} (hs:Sim w0 k w s) {src dst:TypeId} {x z:AV} {u:Value} (hx:Rel k x u) (h:xconv P s src dst x=some z) :
  GivesV P w0 k (convert src dst u) w z s:=by
 unfold xconv at h
 split at h
 ·rename_i td ts hd hss
  obtain⟨ds,i1,z1,hd1,_⟩:=ti_info hss
  split at h
  ·rename_i ik ik' n hk
   injection h with h
   subst h
   obtain rfl:=hx.v_eq
   refine .pure hs ?_ (.v _)
   simp only[convert,Sem.run_bind,run_underlying hd1,Result.andThen_ok,run_underlying (under_int hd hk)]
   cases ds <;> simp [Conv.intToInt]
  ·rename_i b hk hk2
   injection h with h
   subst h
   obtain rfl:=hx.v_eq
   refine .pure hs ?_ (.v _)
   simp only[convert,Sem.run_bind,run_underlying (under_str hss hk2),Result.andThen_ok,run_underlying (under_str hd hk),Sem.run_pure]
  ·rename_i e n c hk hk2
   split at h
   ·rename_i ei hei
    split at h
    ·rename_i hku
     split at h
     ·rename_i hh
      obtain⟨rfl,hb⟩:=hh
      injection h with h
      subst h
      obtain⟨a,cap,rfl,g1,g2⟩:=hx.sl_form
      refine .pure hs ?_ (.v _)
      by_cases hn:0<c.length
      ·obtain⟨b,rfl,_⟩:=g1 hn
       obtain⟨b',hb',hr⟩:=reads_rf hs (g2 b rfl)
       injection hb' with hb'
       injection hb' with hb'
       subst hb'
       exact conv_bytes hr hb (under_sl hss hk2) (under_int hei hku) (under_str hd hk) cap
      ·have:c=[]:=List.eq_nil_of_length_eq_zero (by omega)
       subst this
       cases a with
       | none=>
        simp only[convert,Sem.run_bind,run_underlying (under_sl hss hk2),Result.andThen_ok,run_underlying (under_str hd hk),run_underlying (under_int hei hku),Conv.bytesToString,List.length_nil]
        rfl
       | some a=>exact conv_bytes (k:=k) (a:=a) (c:=[]) (fun j z hz=>by simp at hz) rfl (under_sl hss hk2) (under_int hei hku) (under_str hd hk) cap
     ·cases h
    ·cases h
   ·cases h
  ·rename_i e id off n sz hk hk2
   split at h
   ·rename_i ei c hei hc
    split at h
    ·rename_i hku
     split at h
     ·rename_i hh
      obtain⟨hl,hb⟩:=hh
      injection h with h
      subst h
      refine .pure hs ?_ (.v _)
      have hlen:((c.drop off).take n).length=n:=by rw[List.length_take,List.length_drop];omega
      cases hx with
      | own _ _ _ _ cap hi hn hcc=>
       obtain⟨a',ha',_,hr⟩:=reads_ptr hs hc (Rel.ptr id off hi)
       injection ha' with ha'
       injection ha' with ha'
       subst ha'
       have:=conv_bytes (P:=P) (k:=k) (c:=(c.drop off).take n) (a:=(k.φ id).at off) (w:=w) (fun j z hz=>hr j z (by
        rw[List.getElem?_take] at hz
        split at hz
        ·exact hz
        ·cases hz)) hb (under_sl hss hk2) (under_int hei hku) (under_str hd hk) cap
       rw[hlen] at this
       exact this
      | own0 _ _ _ a hi hcc=>
       rw[List.take_zero]
       cases a with
       | none=>
        simp only[convert,Sem.run_bind,run_underlying (under_sl hss hk2),Result.andThen_ok,run_underlying (under_str hd hk),run_underlying (under_int hei hku),Conv.bytesToString]
        rfl
       | some a=>exact conv_bytes (k:=k) (a:=a) (c:=[]) (fun j z hz=>by simp at hz) rfl (under_sl hss hk2) (under_int hei hku) (under_str hd hk) 0
     ·cases h
    ·cases h
   ·cases h
  ·rename_i e b hk hk2
   split at h
   ·rename_i ei hei
    split at h
    ·rename_i hku
     injection h with h
     subst h
     obtain rfl:=hx.v_eq
     have run:=Go.Lib.run_convert_string_bytes (P:=P) w src dst e b (under_str hss hk2) (under_sl hd hk) (under_int hei hku)
     have hb:Below w.heap.size w (Go.Lib.bytesWorld w e b):=by
      refine⟨?_,?_,?_,by rw[Go.Lib.bytesWorld_size];omega,fun i hi=>Go.Lib.bytesWorld_at_old w e b i hi⟩
      all_goals (unfold Go.Lib.bytesWorld World.freeze;split <;> rfl)
     obtain⟨k',e1,e2,e3,e4,hs2⟩:=sim_more (hs.below hb) w.heap.size fun i c hi j hj=>by
      obtain⟨u,q,_⟩:=(hs.box i c hi).2 j hj
      exact cell_block_lt q
     refine⟨_,_,k',run,.sl _ _ _ _ (fun j=>.int .u8 (b.data.toList.getD j 0).toNat) (grownCap_ge w b.size 0 e) (fun j hj=>e4 _ _ (by rw[Addr.add_lit];exact Nat.le_refl _) ?_) (fun j z hz=>?_),hs2,⟨by rw[e2];exact Nat.le_refl _,fun i hi=>by rw[e1],e3⟩⟩
     ·have hj':j<b.size:=by simpa [byteAV] using hj
      rw[Addr.add_lit,Nat.zero_add]
      exact Go.Lib.bytesWorld_cell w e b j hj'
     ·unfold byteAV at hz
      rw[List.getElem?_map,Option.map_eq_some_iff] at hz
      obtain⟨x,hx,rfl⟩:=hz
      rw[List.getD_eq_getElem?_getD,hx]
      exact .v _
    ·cases h
   ·cases h
  ·cases h
 ·cases h
def xlen (P:Program) (t:TypeId) (x:AV):Option AV:=
 match tiOf P t with
 | some ti=>match ti.k,x with
  | .str,.v (.string b)=>some (.v (.int .i64 b.size))
  | .sl _,.sl n _=>some (.v (.int .i64 n))
  | .sl _,.own _ _ n _=>some (.v (.int .i64 n))
  | .sl _,.v (.slice _ n _)=>some (.v (.int .i64 n))
  | .sl _,.slc n _ _ _=>some (.v (.int .i64 n))
  | .sl _,.ob _ n _=>some (.v (.int .i64 n))
  | _,_=>none
 | none=>none
theorem len_gives {w0 w:World} {k:KW} {s:St} (hs:Sim w0 k w s) {t ty:TypeId} {x z:AV} {u:Value} (hx:Rel k x u) (h:xlen P t x=some z) :
  GivesV P w0 k (Builtin.len_ #[t] ty #[u]) w z s:=by
 unfold xlen at h
 split at h
 ·rename_i ti ht
  split at h
  ·rename_i hk
   injection h with h
   subst h
   obtain rfl:=hx.v_eq
   exact .pure hs (by simp [Builtin.len_,run_underlying (under_str ht hk),goInt]) (.v _)
  ·rename_i hk
   injection h with h
   subst h
   obtain⟨a,cap,rfl,_⟩:=hx.sl_form
   exact .pure hs (by simp [Builtin.len_,run_underlying (under_sl ht hk),goInt]) (.v _)
  ·rename_i hk
   injection h with h
   subst h
   cases hx <;> exact .pure hs (by simp [Builtin.len_,run_underlying (under_sl ht hk),goInt]) (.v _)
  ·rename_i hk
   injection h with h
   subst h
   obtain rfl:=hx.v_eq
   exact .pure hs (by simp [Builtin.len_,run_underlying (under_sl ht hk),goInt]) (.v _)
  ·rename_i hk
   injection h with h
   subst h
   cases hx
   exact .pure hs (by simp [Builtin.len_,run_underlying (under_sl ht hk),goInt]) (.v _)
  ·rename_i hk
   injection h with h
   subst h
   cases hx <;> exact .pure hs (by simp [Builtin.len_,run_underlying (under_sl ht hk),goInt]) (.v _)
  ·cases h
 ·cases h
def xminmax (mx:Bool) (x y:AV):Option AV:=
 match x,y with
 | .v (.int k a),.v (.int k' b)=>some (.v (.int k (if mx then (if b > a then b else a) else (if b<a then b else a))))
 | _,_=>none
structure Env where
 n:Nat
 m:Nat→AV
def upd (m:Nat→AV) (i:Nat) (z:AV) (t:Nat):AV:=if i=t then z else m t
def Env.ev (e:Env):Operand→AV
 | .tmp t=>e.m t
 | .const v=>.v v
 | .global g=>.v (.pointer (some ⟨g,0,none⟩))
 | .func f=>.v (.func (.func f) #[] #[])
def Env.put (e:Env) (d:Option Nat) (z:AV):Env:=
 match d with
 | none=>e
 | some t=>⟨e.n,upd e.m t z⟩
def dstOk (d:Option Nat) (n:Nat):Bool:=
 match d with
 | none=>true
 | some t=>decide (t<n)
structure EnvRel (k:KW) (e:Env) (a:Act):Prop where
 d:a.defers=[]
 n:a.tmps.size=e.n
 r:∀ t,Rel k (e.m t) (a.tmps.getD t undef)
theorem EnvRel.mono {k k':KW} {e:Env} {a:Act} (h:EnvRel k e a) (hk:KW.le k.m k k'):EnvRel k' e a:=⟨h.d,h.n,fun t=>(h.r t).mono hk⟩
theorem EnvRel.ev {k:KW} {e:Env} {a:Act} (h:EnvRel k e a) (x:Operand):Rel k (e.ev x) (a.eval x):=by
 cases x with
 | tmp t=>exact h.r t
 | const v=>exact .v v
 | global g=>exact .v _
 | func f=>exact .v _
theorem EnvRel.put {k:KW} {e:Env} {a:Act} (h:EnvRel k e a) {d:Option Nat} {z:AV} {u:Value} (hd:dstOk d e.n=true) (hz:Rel k z u):EnvRel k (e.put d z) (a.put d u):=by
 cases d with
 | none=>exact h
 | some t=>
  have ht:t<a.tmps.size:=by rw[h.n];exact of_decide_eq_true hd
  refine⟨h.d,by simp [Act.put,Env.put,h.n],fun t'=>?_⟩
  show Rel k (if t=t' then z else e.m t') _
  by_cases e':t=t'
  ·subst e'
   rw[if_pos rfl]
   have:(a.put (some t) u).tmps.getD t undef=u:=by simp [Act.put,Array.getD_eq_getD_getElem?,ht]
   rw[this]
   exact hz
  ·rw[if_neg e']
   have:(a.put (some t) u).tmps.getD t' undef=a.tmps.getD t' undef:=by simp [Act.put,Array.getD_eq_getD_getElem?,Array.getElem?_setIfInBounds_ne e']
   rw[this]
   exact h.r t'
theorem freeze_heap (w:World) (a:Addr) (n b:Nat) (h:b≠a.block):(w.freeze a n).heap[b]?=w.heap[b]?:=by
 unfold World.freeze
 split
 ·rfl
 ·simp only[Array.getElem?_modify]
  rw[if_neg (Ne.symm h)]
theorem freeze_cell (w:World) (a x:Addr) (n:Nat):(w.freeze a n).cell? x=w.cell? x:=by
 unfold World.freeze
 split
 ·rfl
 ·unfold World.cell?
  simp only[Array.getElem?_modify]
  by_cases e:a.block=x.block
  ·rw[if_pos e]
   cases w.heap[x.block]? with
   | none=>rfl
   | some o=>cases o <;> rfl
  ·rw[if_neg e]
theorem freeze_rest (w:World) (a:Addr) (n:Nat):(w.freeze a n).os=w.os∧(w.freeze a n).tape=w.tape∧(w.freeze a n).output=w.output∧(w.freeze a n).heap.size=w.heap.size:=by
 unfold World.freeze
 split
 ·exact⟨rfl,rfl,rfl,rfl⟩
 ·exact⟨rfl,rfl,rfl,by simp⟩
theorem Sim.freeze {w0 w:World} {k:KW} {s:St} (hs:Sim w0 k w s) {i:Nat} {c:List AV} {T:TypeId} (hi:s.get i=some c) (ht:(k.φ i).ty=some T) (h0:0<(k.φ i).cap) (n:Nat):Sim w0 k (w.freeze ⟨(k.φ i).b,0,none⟩ n) (s.kill i):=by
 obtain⟨ho,cs,hb,hcs⟩:=hs.ty i c T hi ht
 have hk:=hs.kill i
 have alive:∀ q cq,(s.kill i).get q=some cq→s.get q=some cq∧q≠i:=fun q cq hq=>by
  by_cases e:q=i
  ·subst e;rw[St.kill_same] at hq;cases hq
  ·rw[St.kill_ne _ _ _ e] at hq;exact⟨hq,e⟩
 have far:∀ q cq,(s.kill i).get q=some cq→0<(k.φ q).cap→(k.φ q).b≠(k.φ i).b:=fun q cq hq hc e=>by
  obtain⟨h1,h2⟩:=alive q cq hq
  obtain⟨u,g1,_⟩:=(hs.box q cq h1).2 0 hc
  have hlt:(k.φ q).o<cs.size:=by
   have:w.heap[((k.φ q).at 0).block]?=some (.cells cs T (0,0)):=by show w.heap[(k.φ q).b]?=_;rw[e];exact hb
   simp only[World.cell?,this] at g1
   have:=(Array.getElem?_eq_some_iff.1 g1).1
   simpa [Rng.at] using this
  refine hs.sep q i cq c h1 hi h2 0 (k.φ q).o hc (by omega) ?_
  show (⟨(k.φ q).b,(k.φ q).o+0,none⟩:Addr)=⟨(k.φ i).b,(k.φ i).o+(k.φ q).o,none⟩
  rw[e,ho,Nat.zero_add,Nat.add_zero]
 have hnew:w0.heap.size≤(k.φ i).b:=by
  apply Nat.le_of_not_lt
  intro hlt
  rcases hs.shp.block _ hlt with ⟨x,y,e,f,h1,h2,h3⟩ | ⟨h1,h2⟩
  ·rw[hb] at h2
   injection h2 with h2
   injection h2 with p1 p2 p3
   subst p1
   have hx:0<x.size:=by omega
   have c0:w0.cell? ⟨(k.φ i).b,0,none⟩=some x[0]:=by simp [World.cell?,h1,hx]
   have:=hs.cov _ _ c0
   obtain⟨_,_,_,g3,_⟩:=(hs.box i c hi).2 0 h0
   rw[show (k.φ i).at 0=⟨(k.φ i).b,0,none⟩ by unfold Rng.at;rw[ho]] at g3
   rw[g3] at this
   cases this
  ·rw[hb] at h2
   exact h1 _ _ _ h2.symm
 refine⟨hk.m,fun a u hu=>(freeze_cell _ _ _ _).trans (hk.fz a u hu),hk.lt,fun q cq hq=>?_,hk.sep,?_,hk.tz,fun q cq T' hq hT=>?_,hk.cov⟩
 ·obtain⟨h1,h2⟩:=hk.box q cq hq
  refine⟨h1,fun j hj=>?_⟩
  obtain⟨u,g1,g2,g3,g4⟩:=h2 j hj
  refine⟨u,(freeze_cell _ _ _ _).trans g1,?_,g3,g4⟩
  have:=far q cq hq (by omega)
  unfold World.frozen? at g2 ⊢
  rw[freeze_heap w ⟨(k.φ i).b,0,none⟩ n ((k.φ q).at j).block this]
  exact g2
 ·obtain⟨r1,r2,r3,r4⟩:=freeze_rest w ⟨(k.φ i).b,0,none⟩ n
  refine⟨r1.trans hs.shp.os,r2.trans hs.shp.tape,r3.trans hs.shp.output,by rw[r4];exact hs.shp.size,fun b hb'=>?_⟩
  rw[freeze_heap w ⟨(k.φ i).b,0,none⟩ n b (show b≠(k.φ i).b by omega)]
  exact hs.shp.block b hb'
 ·obtain⟨h1,cs',h2,h3⟩:=hk.ty q cq T' hq hT
  refine⟨h1,cs',(freeze_heap _ _ _ _ ?_).trans h2,h3⟩
  intro e
  by_cases hc:0<(k.φ q).cap
  ·exact far q cq hq hc e
  ·have e':(k.φ q).b=(k.φ i).b:=e
   rw[e',hb] at h2
   injection h2 with h2
   injection h2 with p1 p2 p3
   subst p1
   omega
def xbuiltin (P:Program) (s:St) (b:Builtin) (zs:List AV) (ts:List TypeId):Option (AV × St):=
 match b,zs,ts with
 | .len,[x],[t]=>(xlen P t x).map (·,s)
 | .append,[x,y],[t,u]=>xappend P s t u x y
 | .min,[x,y],_=>(xminmax false x y).map (·,s)
 | .max,[x,y],_=>(xminmax true x y).map (·,s)
 | .unsafeSliceData,[.ob id _ T],_=>some (.bq id T,s)
 | .unsafeString,[.bq id T,.v (.int .i64 n)],[pt,_]=>match s.get id,tiOf P pt,tiOf P T with
  | some c,some pi,some ti=>match pi.k with
   | .pt e=>if e=T∧ti.size=1∧n=(c.length:Int)∧c.all isByte=true∧c.length≤9223372036854775807 then some (.v (.string ⟨(c.map unbyte).toArray⟩),s.kill id) else none
   | _=>none
  | _,_,_=>none
 | _,_,_=>none
def xop (P:Program) (e:Env) (s:St):Op→Option (AV × St)
 | .move x | .assign x=>some (e.ev x,s)
 | .pick c a b=>match e.ev c with
  | .v (.bool t)=>some (if t then e.ev a else e.ev b,s)
  | _=>none
 | .alloc t=>match tiOf P t with
  | some ti=>some (.ptr s.nx 0,s.push (ti.zero.map .v))
  | none=>none
 | .box t x=>if (e.ev x).boxable=true then some (.ptr s.nx 0,s.push (e.ev x).cells) else none
 | .build t ps=>match tiOf P t with
  | some ti=>match ti.k with
   | .st fs=>match fs.mapM (fun f=>(tiOf P f.2).map fun fi=>(f.1,fi.size)) with
    | some places=>match fillA (places[·]?) (ti.zero.map .v) (ps.toList.map fun p=>(p.1,e.ev p.2)) with
     | some c=>some (.ag c,s)
     | none=>none
    | none=>none
   | .ar _ el=>match tiOf P el with
    | some ei=>match fillA (fun i=>some (i*ei.size,ei.size)) (ti.zero.map .v) (ps.toList.map fun p=>(p.1,e.ev p.2)) with
     | some c=>some (.ag c,s)
     | none=>none
    | none=>none
   | _=>none
  | none=>none
 | .buildSlice t n ps=>xbuildSlice P s t n (ps.toList.map fun p=>(p.1,e.ev p.2))
 | .load t x=>(xload P s t (e.ev x)).map (·,s)
 | .store t a x=>(xstore P s t (e.ev a) (e.ev x)).map (AV.no,·)
 | .nilCheck x=>match e.ev x with
  | .ptr id off=>some (.ptr id off,s)
  | .rf c=>some (.rf c,s)
  | _=>none
 | .binOp op t x y _=>(xbin P op t (isK x) (isK y) (e.ev x) (e.ev y)).map fun v=>(.v v,s)
 | .unOp op _ x=>(xun op (e.ev x)).map (·,s)
 | .convert a b x=>(xconv P s a b (e.ev x)).map (·,s)
 | .makeSlice t l c=>xmake P s t (e.ev l) (e.ev c)
 | .slice t x lo hi mx=>match mx with
  | none=>(xslice P t (e.ev x) (lo.map e.ev) (hi.map e.ev)).map (·,s)
  | some _=>none
 | .fieldAddr t x f=>match e.ev x with
  | .ag _=>none
  | z=>(xfield P t z f).map (·,s)
 | .field t x f=>match e.ev x with
  | .ag c=>(xfield P t (.ag c) f).map (·,s)
  | _=>none
 | .indexAddr t x i=>(xindexAddr P t (e.ev x) (e.ev i)).map (·,s)
 | .index t x i=>(xindex P t (e.ev x) (e.ev i)).map (·,s)
 | .extract x i=>match e.ev x with
  | .tp c=>c[i]?.map (·,s)
  | _=>none
 | .makeInterface t x=>match tiOf P t,e.ev x with
  | some ti,.v u=>match ti.k with
   | .ifc=>none
   | _=>some (.v (.iface t u),s)
  | _,_=>none
 | .makeFunc fn first cap=>match fn with
  | .func f=>if first.size=0 then some (.fn f (cap.toList.map e.ev),s) else none
  | _=>none
 | .call c=>match c.callee with
  | .builtin b=>xbuiltin P s b (c.args.toList.map e.ev) c.argTypes.toList
  | _=>none
 | _=>none
theorem build_gives {w0 w:World} {k:KW} {s:St} (hs:Sim w0 k w s) {e:Env} {a:Act} (he:EnvRel k e a) {t:TypeId} {ti:TI} {fs:List (Nat × TypeId)} {ps:Array (Nat × Operand)} {places:List (Nat × Nat)} {c:List AV} (ht:tiOf P t=some ti) (hk:ti.k=.st fs)
  (hp:fs.mapM (fun f=>(tiOf P f.2).map fun fi=>(f.1,fi.size))=some places) (hc:fillA (places[·]?) (ti.zero.map .v) (ps.toList.map fun p=>(p.1,e.ev p.2))=some c) :
  GivesV P w0 k (Instr.build t (ps.map fun p=>(p.1,a.eval p.2))) w (.ag c) s:=by
 obtain⟨d,i,z,hd,hi,hz,hs2,hby,hcz,hk2⟩:=ti_info ht
 obtain⟨gs,hgs,hgl⟩:=kind_st (hk ▸ hk2).symm
 obtain⟨us',g1,g2⟩:=fill_gives (k:=k) (places[·]?) (ps.toList.map fun p=>(p.1,a.eval p.2)) (c:=ti.zero.map .v) (us:=ti.zero) (ps.toList.map fun p=>(p.1,e.ev p.2)) ⟨by simp,fun j y u hy hu=>by
  rw[List.getElem?_map,hu] at hy
  injection hy with hy
  subst hy
  exact .v u⟩ (by simp) (fun j p q hp hq=>by
  rw[List.getElem?_map] at hp hq
  cases hj:ps.toList[j]? with
  | none=>rw[hj] at hp;cases hp
  | some x=>
   rw[hj] at hp hq
   injection hp with hp
   injection hq with hq
   subst hp hq
   exact⟨rfl,he.ev _⟩) hc
 refine .pure hs (run_build (P:=P) w t _ us'.toArray ?_) (.ag _ _ g2.1 g2.2)
 unfold Program.built
 rw[hi,hgs]
 have hpl:gs.toList.mapM (fun f=>(P.info? f.type).map fun i=>(f.offset,i.size))=some places:=by
  subst hgl
  have step:∀ (l:List Field) (pl:List (Nat × Nat)),(l.map fun f=>(f.offset,f.type)).mapM (fun f=>(tiOf P f.2).map fun fi=>(f.1,fi.size))=some pl→l.mapM (fun f=>(P.info? f.type).map fun i=>(f.offset,i.size))=some pl:=by
   intro l
   induction l with
   | nil=>intro pl h;simpa using h
   | cons f l ih=>
    intro pl h
    simp only[List.map_cons,List.mapM_cons,Option.bind_eq_bind,Option.pure_def] at h ⊢
    cases hf:tiOf P f.type with
    | none=>rw[hf] at h;simp at h
    | some fi=>
     rw[hf] at h
     obtain⟨d',i',z',q1,q2,q3,q4,q5,q6,q7⟩:=ti_info hf
     rw[q2]
     cases hr:(l.map fun f=>(f.offset,f.type)).mapM (fun f=>(tiOf P f.2).map fun fi=>(f.1,fi.size)) with
     | none=>rw[hr] at h;simp at h
     | some rest=>
      rw[hr] at h
      rw[ih rest hr]
      simpa [q4] using h
  exact step gs.toList places hp
 simp only[hz,hpl]
 have e1:z.cells=ti.zero.toArray:=by rw[←hcz]
 rw[e1]
 rw[←g1]
 congr 1
 ·funext j;simp
 ·simp
theorem buildA_gives {w0 w:World} {k:KW} {s:St} (hs:Sim w0 k w s) {e:Env} {a:Act} (he:EnvRel k e a) {t el:TypeId} {ti ei:TI} {n:Nat} {ps:Array (Nat × Operand)} {c:List AV} (ht:tiOf P t=some ti) (hk:ti.k=.ar n el) (hei:tiOf P el=some ei)
  (hc:fillA (fun i=>some (i*ei.size,ei.size)) (ti.zero.map .v) (ps.toList.map fun p=>(p.1,e.ev p.2))=some c) :
  GivesV P w0 k (Instr.build t (ps.map fun p=>(p.1,a.eval p.2))) w (.ag c) s:=by
 obtain⟨d,i,z,hd,hi,hz,hs2,hby,hcz,hk2⟩:=ti_info ht
 obtain⟨us',g1,g2⟩:=fill_gives (k:=k) (fun i=>some (i*ei.size,ei.size)) (ps.toList.map fun p=>(p.1,a.eval p.2)) (c:=ti.zero.map .v) (us:=ti.zero) (ps.toList.map fun p=>(p.1,e.ev p.2)) ⟨by simp,fun j y u hy hu=>by
  rw[List.getElem?_map,hu] at hy
  injection hy with hy
  subst hy
  exact .v u⟩ (by simp) (fun j p q hp hq=>by
  rw[List.getElem?_map] at hp hq
  cases hj:ps.toList[j]? with
  | none=>rw[hj] at hp;cases hp
  | some x=>
   rw[hj] at hp hq
   injection hp with hp
   injection hq with hq
   subst hp hq
   exact⟨rfl,he.ev _⟩) hc
 refine .pure hs (run_build (P:=P) w t _ us'.toArray ?_) (.ag _ _ g2.1 g2.2)
 unfold Program.built
 obtain⟨d',i',z',q1,q2,q3,q4,q5,q6,q7⟩:=ti_info hei
 rw[hi,under_ar ht hk]
 simp only[hz,q2]
 have e1:z.cells=ti.zero.toArray:=by rw[←hcz]
 rw[e1,q4,←g1]
 congr 1
 simp
end Ax
namespace Ax
open Go Go.RowKit
variable {P:Program}
theorem gives_opt {w0 w:World} {k:KW} {s s':St} {m:Sem Next} {x:Option AV} {z:AV} (h:x.map (·,s)=some (z,s')) (g:∀ z,x=some z→Gives P w0 k m w z s):Gives P w0 k m w z s':=by
 cases x with
 | none=>cases h
 | some y=>
  injection h with h
  injection h with h1 h2
  subst h1 h2
  exact g y rfl
theorem optRel {k:KW} {e:Env} {a:Act} (he:EnvRel k e a) (x:Option Operand):match x.map e.ev,x.map a.eval with | none,none=>True | some z,some u=>Rel k z u | _,_=>False:=by
 cases x with
 | none=>trivial
 | some x=>exact he.ev x
theorem list_two {α β:Type} {f:α→β} {l:List α} {x y:β} (h:l.map f=[x,y]):∃ a b,l=[a,b]∧f a=x∧f b=y:=by
 match l,h with
 | [a,b],h=>
  simp only[List.map_cons,List.map_nil,List.cons.injEq,and_true] at h
  exact⟨a,b,rfl,h.1,h.2⟩
theorem list_one {α β:Type} {f:α→β} {l:List α} {x:β} (h:l.map f=[x]):∃ a,l=[a]∧f a=x:=by
 match l,h with
 | [a],h=>
  simp only[List.map_cons,List.map_nil,List.cons.injEq,and_true] at h
  exact⟨a,rfl,h⟩
theorem toList_eq {α:Type} {a:Array α} {l:List α} (h:a.toList=l):a=l.toArray:=by rw[←h]
theorem builtin_sound {w0 w:World} {k:KW} {s s':St} (hs:Sim w0 k w s) {e:Env} {a:Act} (he:EnvRel k e a) {b:Builtin} {args:Array Operand} {ts:Array TypeId} {dst:Option Tmp} {ty:TypeId} {pos:String} {after:Array Edge} {guard:Option (Nat × Bool)} {z:AV}
  (h:xbuiltin P s b (args.toList.map e.ev) ts.toList=some (z,s')):Gives P w0 k (execOp a.eval ⟨dst,.call ⟨.builtin b,args,ts⟩,ty,pos,after,guard⟩) w z s':=by
 unfold xbuiltin at h
 split at h
 ·rename_i x t e1 e2
  obtain⟨ox,h1,rfl⟩:=list_one e1
  obtain rfl:=toList_eq h1
  obtain rfl:=toList_eq e2
  refine gives_opt h fun z hz=>?_
  obtain⟨v,w',k',r1,r2,r3,r4⟩:=len_gives (ty:=ty) hs (he.ev ox) hz
  exact⟨.value v,w',k',by simp [execOp,resolve,invoke,builtin,Sem.run_bind,r1],r2,r3,r4⟩
 ·rename_i x y t u e1 e2
  obtain⟨ox,oy,h1,rfl,rfl⟩:=list_two e1
  obtain rfl:=toList_eq h1
  obtain rfl:=toList_eq e2
  obtain⟨v,w',k',r1,r2,r3,r4⟩:=append_gives (ty:=ty) hs (he.ev ox) (he.ev oy) h
  exact⟨.value v,w',k',by simp [execOp,resolve,invoke,builtin,Sem.run_bind,r1],r2,r3,r4⟩
 ·rename_i x y e1
  obtain⟨ox,oy,h1,rfl,rfl⟩:=list_two e1
  obtain rfl:=toList_eq h1
  refine gives_opt h fun z hz=>?_
  have h1:=he.ev ox
  have h2:=he.ev oy
  unfold xminmax at hz
  split at hz
  ·rename_i k1 b1 k2 b2 e1 e2
   injection hz with hz
   subst hz
   rw[e1] at h1
   rw[e2] at h2
   exact⟨.value _,w,k,by simp [execOp,resolve,invoke,builtin,Sem.run_bind,h1.v_eq,h2.v_eq,Builtin.min_,Builtin.min2],.v _,hs,KW.le_refl (Nat.le_refl _)⟩
  ·cases hz
 ·rename_i x y e1
  obtain⟨ox,oy,h1,rfl,rfl⟩:=list_two e1
  obtain rfl:=toList_eq h1
  refine gives_opt h fun z hz=>?_
  have h1:=he.ev ox
  have h2:=he.ev oy
  unfold xminmax at hz
  split at hz
  ·rename_i k1 b1 k2 b2 e1 e2
   injection hz with hz
   subst hz
   rw[e1] at h1
   rw[e2] at h2
   exact⟨.value _,w,k,by simp [execOp,resolve,invoke,builtin,Sem.run_bind,h1.v_eq,h2.v_eq,Builtin.max_,Builtin.max2],.v _,hs,KW.le_refl (Nat.le_refl _)⟩
  ·cases hz
 ·rename_i id n T e1
  obtain⟨ox,h1,h2⟩:=list_one e1
  obtain rfl:=toList_eq h1
  injection h with h
  injection h with g1 g2
  subst g1 g2
  have hr:=he.ev ox
  rw[h2] at hr
  obtain⟨u,hu⟩:∃ u,a.eval ox=u:=⟨_,rfl⟩
  rw[hu] at hr
  cases hr with
  | ob _ _ _ cap hi ht hn hc h0=>exact⟨.value _,w,k,by simp [execOp,resolve,invoke,builtin,Sem.run_bind,hu,Lib.run_unsafeSliceData_row _ _ _ _ _ _ h0],.bq _ _ hi ht (by omega),hs,KW.le_refl (Nat.le_refl _)⟩
  | ob0 _ _ hi hc=>exact⟨.value _,w,k,by simp [execOp,resolve,invoke,builtin,Sem.run_bind,hu,Lib.run_unsafeSliceData_nil],.bq0 _ _ hi hc,hs,KW.le_refl (Nat.le_refl _)⟩
 ·rename_i id T n pt it e1 e2
  obtain⟨ox,oy,h1,h2,h3⟩:=list_two e1
  obtain rfl:=toList_eq h1
  obtain rfl:=toList_eq e2
  split at h
  ·rename_i c pi ti hc hpi hti
   split at h
   ·rename_i e hk
    split at h
    ·rename_i hh
     obtain⟨rfl,hsz,rfl,hb,h63⟩:=hh
     injection h with h
     injection h with g1 g2
     subst g1 g2
     have hr:=he.ev ox
     have hn:=he.ev oy
     rw[h2] at hr
     rw[h3] at hn
     have hn:=hn.v_eq
     obtain⟨u,hu⟩:∃ u,a.eval ox=u:=⟨_,rfl⟩
     rw[hu] at hr
     suffices hf:∃ w',(Builtin.unsafeString_ #[pt,it] ty #[u,.int .i64 (c.length:Int)]).run P w=.ok (.string ⟨(c.map unbyte).toArray⟩) w'∧Sim w0 k w' (s.kill id) by
      obtain⟨w',r1,r2⟩:=hf
      exact⟨.value (.string ⟨(c.map unbyte).toArray⟩),w',k,by simp [execOp,resolve,invoke,builtin,Sem.run_bind,hn,hu,r1],.v _,r2,KW.le_refl (Nat.le_refl _)⟩
     by_cases h0:c.length=0
     ·have:c=[]:=List.eq_nil_of_length_eq_zero h0
      subst this
      have hp:∃ p,u=.pointer p:=by cases hr <;> exact⟨_,rfl⟩
      obtain⟨p,rfl⟩:=hp
      exact⟨w,Lib.run_unsafeString_none w pt it ty p,hs.kill id⟩
     ·obtain⟨d,i,z,hd,hi,hz,hs2,hby,hcz,hk2⟩:=ti_info hti
      obtain⟨hl,hbx⟩:=hs.box id c hc
      cases hr with
      | bq0 _ _ hid hcap=>omega
      | bq _ _ hid hty hcap=>
       obtain⟨ho,cs,hcs,hsz2⟩:=hs.ty id c e hc hty
       refine⟨_,?_,hs.freeze hc hty (by omega) c.length⟩
       have:=Lib.run_unsafeString_row (P:=P) w pt it ty e (under_pt hpi hk) (by simp [Program.cellsOf,hi,hs2,hsz]) (k.φ id).b cs.size (by simp [World.shape?,hcs]) (c.map unbyte) (by simpa using h0) (by rw[List.length_map];omega) (by rw[List.length_map];exact h63) (fun j x hx=>by
        rw[List.getElem?_map] at hx
        cases hj:c[j]? with
        | none=>rw[hj] at hx;cases hx
        | some y=>
         rw[hj] at hx
         injection hx with hx
         subst hx
         have hlt:=(List.getElem?_eq_some_iff.1 hj).1
         obtain⟨v,q1,_,_,q4⟩:=hbx j (by omega)
         have e1:(⟨(k.φ id).b,0,none⟩:Addr).add j=(k.φ id).at j:=by rw[Addr.add_lit,Nat.zero_add];unfold Rng.at;rw[ho,Nat.zero_add]
         rw[e1,q1,isByte_v (List.all_eq_true.1 hb _ (List.mem_of_getElem? hj)) (q4 y hj)])
       rw[List.length_map] at this
       have e2:(k.φ id).at 0=⟨(k.φ id).b,0,none⟩:=by unfold Rng.at;rw[ho]
       rw[e2]
       exact this
    ·cases h
   ·cases h
  ·cases h
 ·cases h
set_option maxHeartbeats 1000000 in
theorem relL_ev' {k:KW} {e:Env} {a:Act} (he:EnvRel k e a) (l:List Operand):∀ (j:Nat) (z:AV) (u:Value),(l.map e.ev)[j]?=some z→(l.map a.eval)[j]?=some u→Rel k z u:=fun j z u hz hu=>by
 rw[List.getElem?_map] at hz hu
 cases hj:l[j]? with
 | none=>rw[hj] at hz;cases hz
 | some x=>
  rw[hj] at hz hu
  injection hz with hz
  injection hu with hu
  subst hz hu
  exact he.ev x
set_option maxHeartbeats 2000000 in
theorem xop_sound {w0 w:World} {k:KW} {s s':St} (hs:Sim w0 k w s) {e:Env} {a:Act} (he:EnvRel k e a) {o:Oper} {z:AV} (h:xop P e s o.op=some (z,s')):Gives P w0 k (execOp a.eval o) w z s':=by
 obtain⟨dst,op,ty,pos,after,guard⟩:=o
 unfold xop at h
 simp only at h
 split at h
 ·rename_i x
  injection h with h
  injection h with h1 h2
  subst h1 h2
  exact⟨.value (a.eval x),w,k,rfl,he.ev x,hs,KW.le_refl (Nat.le_refl _)⟩
 ·rename_i x
  injection h with h
  injection h with h1 h2
  subst h1 h2
  exact⟨.value (a.eval x),w,k,rfl,he.ev x,hs,KW.le_refl (Nat.le_refl _)⟩
 ·rename_i c x y
  split at h
  ·rename_i t hc
   injection h with h
   injection h with h1 h2
   subst h1 h2
   have:=he.ev c
   rw[hc] at this
   have hcv:=this.v_eq
   refine⟨.value (if t then a.eval x else a.eval y),w,k,?_,?_,hs,KW.le_refl (Nat.le_refl _)⟩
   ·simp only[execOp,hcv,asBool,Sem.run_bind,Sem.run_pure,Result.andThen_ok]
   ·cases t
    ·exact he.ev y
    ·exact he.ev x
  ·cases h
 ·rename_i t
  split at h
  ·rename_i ti ht
   injection h with h
   injection h with h1 h2
   subst h1 h2
   exact(alloc_gives hs ht).gives
  ·cases h
 ·rename_i t x
  split at h
  ·rename_i hb
   injection h with h
   injection h with h1 h2
   subst h1 h2
   exact(box_gives hs (he.ev x) hb).gives
  ·cases h
 ·rename_i t ps
  split at h
  ·rename_i ti ht
   split at h
   ·rename_i fs hk
    split at h
    ·rename_i places hp
     split at h
     ·rename_i c hc
      injection h with h
      injection h with h1 h2
      subst h1 h2
      exact(build_gives hs he ht hk hp hc).gives
     ·cases h
    ·cases h
   ·rename_i n el hk
    split at h
    ·rename_i ei hei
     split at h
     ·rename_i c hc
      injection h with h
      injection h with h1 h2
      subst h1 h2
      exact(buildA_gives hs he ht hk hei hc).gives
     ·cases h
    ·cases h
   ·cases h
  ·cases h
 ·rename_i t n ps
  exact(buildSlice_gives hs (ps:=ps.map fun p=>(p.1,a.eval p.2)) (by simp) (fun j p q hp hq=>by
   rw[Array.getElem?_map] at hp
   rw[List.getElem?_map] at hq
   cases hj:ps[j]? with
   | none=>rw[hj] at hp;cases hp
   | some x=>
    rw[Array.getElem?_toList,hj] at hq
    rw[hj] at hp
    injection hp with hp
    injection hq with hq
    subst hp hq
    exact⟨rfl,he.ev _⟩) h).gives
 ·rename_i t x
  exact gives_opt h fun z hz=>(load_gives hs (he.ev x) hz).gives
 ·rename_i t p x
  cases hx:xstore P s t (e.ev p) (e.ev x) with
  | none=>rw[hx] at h;cases h
  | some s1=>
   rw[hx] at h
   injection h with h
   injection h with h1 h2
   subst h1 h2
   obtain⟨w',r1,r2⟩:=store_gives hs (he.ev p) (he.ev x) hx
   exact⟨.skip,w',k,by simp only[execOp,Sem.run_bind,r1,Result.andThen_ok,Sem.run_pure],rfl,r2,KW.le_refl (Nat.le_refl _)⟩
 ·rename_i x
  split at h
  ·rename_i id off hx
   injection h with h
   injection h with h1 h2
   subst h1 h2
   have:=he.ev x
   rw[hx] at this
   generalize hu:a.eval x=u at this
   cases this with
   | ptr _ _ hi=>exact⟨.value _,w,k,by simp only[execOp,hu];rfl,.ptr _ _ hi,hs,KW.le_refl (Nat.le_refl _)⟩
  ·rename_i c hx
   injection h with h
   injection h with h1 h2
   subst h1 h2
   have:=he.ev x
   rw[hx] at this
   generalize hu:a.eval x=u at this
   cases this with
   | rf _ b us q1 q2=>exact⟨.value _,w,k,by simp only[execOp,hu];rfl,.rf _ _ us q1 q2,hs,KW.le_refl (Nat.le_refl _)⟩
  ·cases h
 ·rename_i op t x y _
  cases hx:xbin P op t (isK x) (isK y) (e.ev x) (e.ev y) with
  | none=>rw[hx] at h;cases h
  | some v=>
   rw[hx] at h
   injection h with h
   injection h with h1 h2
   subst h1 h2
   exact(bin_gives hs (he.ev x) (he.ev y) hx).gives
 ·rename_i op t x
  refine gives_opt h fun z hz=>GivesV.gives ?_
  have hr:=he.ev x
  unfold xun at hz
  split at hz
  ·rename_i k0 n hx
   injection hz with hz
   subst hz
   rw[hx] at hr
   rw[hr.v_eq]
   exact .pure hs (by simp [Op.unary,Op.intArith]) (.v _)
  ·rename_i b hx
   injection hz with hz
   subst hz
   rw[hx] at hr
   rw[hr.v_eq]
   exact .pure hs (by simp [Op.unary]) (.v _)
  ·cases hz
 ·rename_i t1 t2 x
  exact gives_opt h fun z hz=>(conv_gives hs (he.ev x) hz).gives
 ·rename_i t l c
  exact(make_gives hs (he.ev l) (he.ev c) h).gives
 ·rename_i t x lo hi mx
  cases mx with
  | some m=>cases h
  | none=>
  exact gives_opt h fun z hz=>(slice_gives hs (he.ev x) (optRel he lo) (optRel he hi) hz).gives
 ·rename_i t x f
  split at h
  ·cases h
  ·rename_i hne
   exact gives_opt h fun z hz=>(fieldAt_gives hs (he.ev x) hne hz).gives
 ·rename_i t x f
  split at h
  ·rename_i c hx
   have hr:=he.ev x
   rw[hx] at hr
   exact gives_opt h fun z hz=>(field_gives hs hr hz).gives
  ·cases h
 ·rename_i t x i
  exact gives_opt h fun z hz=>(indexAddr_gives hs (he.ev x) (he.ev i) hz).gives
 ·rename_i t x i
  exact gives_opt h fun z hz=>(index_gives hs (he.ev x) (he.ev i) hz).gives
 ·rename_i x i
  split at h
  ·rename_i c hx
   have hr:=he.ev x
   rw[hx] at hr
   refine gives_opt h fun z hz=>GivesV.gives ?_
   generalize a.eval x=u at hr
   cases hr with
   | tp _ us hl hr=>
    have hj:=(List.getElem?_eq_some_iff.1 hz).1
    have hu:us[i]?=some (us[i]'(by omega)):=List.getElem?_eq_getElem _
    refine .pure hs ?_ (hr i z _ hz hu)
    simp [Instr.extract,hu]
  ·cases h
 ·rename_i t x
  split at h
  ·rename_i ti u ht hx
   split at h
   ·cases h
   ·rename_i hk
    injection h with h
    injection h with h1 h2
    subst h1 h2
    have hr:=he.ev x
    rw[hx] at hr
    have hv:=hr.v_eq
    obtain⟨d,i,z,hd,hi,hz,hs2,hby,hcz,hk2⟩:=ti_info ht
    refine GivesV.gives (.pure hs ?_ (.v _))
    rw[hv]
    have:∀ ms,d≠.interface ms:=fun ms hms=>hk (by rw[hk2];unfold kindOf;rw[hd,hms])
    cases d <;> first | (simp [Instr.makeInterface,run_underlying hd];done) | exact absurd rfl (this _)
  ·cases h
 ·rename_i fn first cap
  split at h
  ·rename_i f
   split at h
   ·rename_i h0
    injection h with h
    injection h with h1 h2
    subst h1 h2
    refine GivesV.gives (.pure hs ?_ (.fn f _ (cap.toList.map a.eval) (by simp) (relL_ev' he cap.toList)))
    simp [Instr.makeFunc,Array.eq_empty_of_size_eq_zero h0]
    apply Array.ext'
    simp
   ·cases h
  ·cases h
 ·rename_i c
  obtain⟨callee,args,argTypes⟩:=c
  simp only at h
  split at h
  ·rename_i b
   exact builtin_sound hs he h
  ·cases h
 ·cases h
end Ax
namespace Ax
open Go Go.RowKit
variable {P:Program}
def ACall (P:Program) (f:FuncId) (zs:List AV) (s:St) (R:AV→St→Prop):Prop:=
 Enters P f∧∀ w0 k w vs,Sim w0 k w s→RelL k zs vs→Calls P f vs.toArray w fun en w'=>∃ v r s' k',en=.returned v∧R r s'∧Sim w0 k' w' s'∧Rel k' r v∧KW.le s.nx k k'
theorem ACall.mono {f:FuncId} {zs:List AV} {s:St} {R R':AV→St→Prop} (h:ACall P f zs s R) (hr:∀ r s',R r s'→R' r s'):ACall P f zs s R':=
 ⟨h.1,fun w0 k w vs hs hv=>(h.2 w0 k w vs hs hv).mono fun en w' ⟨v,r,s',k',h1,h2,h3⟩=>⟨v,r,s',k',h1,hr _ _ h2,h3⟩⟩
def calleeOf (e:Env):Op→Option (FuncId × List AV)
 | .call c=>match c.callee with
  | .value x=>match e.ev x with
   | .v (.func (.func f) fst cap)=>some (f,fst.toList.map .v++c.args.toList.map e.ev++cap.toList.map .v)
   | .fn f c'=>some (f,c.args.toList.map e.ev++c')
   | _=>none
  | _=>none
 | _=>none
def xstep (P:Program) (o:Oper) (e:Env) (s:St) (K:Env→St→Prop):Prop:=
 dstOk o.dst e.n=true∧match calleeOf e o.op with
  | some (f,zs)=>ACall P f zs s fun r s'=>K (e.put o.dst r) s'
  | none=>match xop P e s o.op with
   | some (z,s')=>K (e.put o.dst z) s'
   | none=>False
theorem relL_v {k:KW} (us:List Value):RelL k (us.map .v) us:=⟨by simp,fun j z u hz hu=>by
 rw[List.getElem?_map,hu] at hz
 injection hz with hz
 subst hz
 exact .v u⟩
theorem RelL.append {k:KW} {c d:List AV} {us vs:List Value} (h:RelL k c us) (g:RelL k d vs):RelL k (c++d) (us++vs):=by
 refine⟨by simp [h.1,g.1],fun j z u hz hu=>?_⟩
 by_cases hj:j<c.length
 ·rw[List.getElem?_append_left hj] at hz
  rw[List.getElem?_append_left (by rw[h.1];exact hj)] at hu
  exact h.2 j z u hz hu
 ·rw[List.getElem?_append_right (by omega)] at hz
  rw[List.getElem?_append_right (by rw[h.1];omega),h.1] at hu
  exact g.2 _ z u hz hu
theorem relL_ev {k:KW} {e:Env} {a:Act} (he:EnvRel k e a) (l:List Operand):RelL k (l.map e.ev) (l.map a.eval):=⟨by simp,fun j z u hz hu=>by
 rw[List.getElem?_map] at hz hu
 cases hj:l[j]? with
 | none=>rw[hj] at hz;cases hz
 | some x=>
  rw[hj] at hz hu
  injection hz with hz
  injection hu with hu
  subst hz hu
  exact he.ev x⟩
theorem xstep_sound {o:Oper} {e:Env} {s:St} {K:Env→St→Prop} (h:xstep P o e s K) {w0 w:World} {kb k:KW} {a:Act} {m0:Nat} (hk:KW.le m0 kb k) (hs:Sim w0 k w s) (he:EnvRel k e a)
  {K':Act→World→Prop} {Q:Exit→Act→World→Prop} (hK:∀ e' s' k' a' w',K e' s'→KW.le m0 kb k'→Sim w0 k' w' s'→EnvRel k' e' a'→K' a' w'):o.wp P a w K' Q:=by
 obtain⟨hd,h⟩:=h
 have hm:m0≤k.m:=hk.1
 split at h
 ·rename_i f zs hc
  obtain⟨dst,op,ty,pos,after,guard⟩:=o
  cases op <;> simp only[calleeOf] at hc <;> try (cases hc;done)
  rename_i c
  obtain⟨callee,args,ts⟩:=c
  cases callee <;> simp only at hc <;> try (cases hc;done)
  rename_i x
  split at hc
  ·rename_i f' fst cap hx
   injection hc with hc
   injection hc with h1 h2
   subst h1 h2
   have hr:=he.ev x
   rw[hx] at hr
   have hv:=hr.v_eq
   obtain⟨hen,hcall⟩:=h
   have hargs:=((relL_v (k:=k) fst.toList).append (relL_ev he args.toList)).append (relL_v cap.toList)
   have:=hcall w0 k w _ hs hargs
   unfold Oper.wp
   have e1:(fst.toList++args.toList.map a.eval++cap.toList).toArray=fst++args.map a.eval++cap:=by
    apply Array.ext'
    simp
   rw[e1] at this
   simp only[execOp,resolve,Deferred.ofValue,hv,Sem.run_bind,Sem.run_pure,Result.andThen_ok,invoke,hen _ w,Oper.upon]
   refine this.mono fun en w' ⟨v,r,s',k',q1,q2,q3,q4,q5⟩=>?_
   subst q1
   have q5':KW.le k.m k k':=by rw[hs.m];exact q5
   exact hK _ _ k' _ _ q2 (KW.le_trans hk (KW.le_mono q5' hm)) q3 ((he.mono q5').put hd q4)
  ·rename_i f' c' hx
   injection hc with hc
   injection hc with h1 h2
   subst h1 h2
   have hr:=he.ev x
   rw[hx] at hr
   obtain⟨hen,hcall⟩:=h
   generalize hv:a.eval x=u at hr
   cases hr with
   | fn _ _ us hl hr=>
   have hargs:=(relL_ev he args.toList).append (d:=c') (vs:=us) ⟨hl,hr⟩
   have:=hcall w0 k w _ hs hargs
   unfold Oper.wp
   have e1:(args.toList.map a.eval++us).toArray = #[]++args.map a.eval++us.toArray:=by
    apply Array.ext'
    simp
   rw[e1] at this
   simp only[execOp,resolve,Deferred.ofValue,hv,Sem.run_bind,Sem.run_pure,Result.andThen_ok,invoke,hen _ w,Oper.upon]
   refine this.mono fun en w' ⟨v,r,s',k',q1,q2,q3,q4,q5⟩=>?_
   subst q1
   have q5':KW.le k.m k k':=by rw[hs.m];exact q5
   exact hK _ _ k' _ _ q2 (KW.le_trans hk (KW.le_mono q5' hm)) q3 ((he.mono q5').put hd q4)
  ·cases hc
 ·split at h
  ·rename_i z s' hx
   obtain⟨n,w',k',r1,r2,r3,r4⟩:=xop_sound hs he hx
   unfold Oper.wp
   rw[r1]
   cases n with
   | value v=>exact hK _ _ k' _ _ h (KW.le_trans hk (KW.le_mono r4 hm)) r3 ((he.mono r4).put hd r2)
   | skip=>
    subst r2
    exact hK _ _ k' _ _ h (KW.le_trans hk (KW.le_mono r4 hm)) r3 ((he.mono r4).put hd (.no _))
   | _=>exact r2.elim
  ·exact h.elim
def xguard (ops:Array Oper) (o:Oper) (e:Env):Option Bool:=
 match o.guard with
 | none=>some true
 | some (j,want)=>match (ops[j]?).bind (·.dst) with
  | some t=>match e.m t with
   | .v (.bool b)=>some (b==want)
   | .v (.tuple _)=>some false
   | _=>none
  | none=>none
theorem xguard_sound {ops:Array Oper} {o:Oper} {e:Env} {g:Bool} (h:xguard ops o e=some g) {k:KW} {a:Act} (he:EnvRel k e a):Region.wanted o (yielded ops a.tmps)=g:=by
 unfold xguard at h
 unfold Region.wanted
 split at h
 ·rename_i hg
  injection h with h
  rw[hg]
  exact h
 ·rename_i j want hg
  rw[hg]
  split at h
  ·rename_i t ht
   have hr:=he.r t
   split at h
   ·rename_i b hb
    injection h with h
    subst h
    rw[hb] at hr
    have hv:=hr.v_eq
    have hy:yielded ops a.tmps j=some b:=by
     unfold yielded
     rw[ht]
     simp only[Option.bind_some]
     by_cases hl:t<a.tmps.size
     ·rw[Array.getElem?_eq_getElem hl]
      simp only[Array.getD_eq_getD_getElem?,Array.getElem?_eq_getElem hl,Option.getD_some] at hv
      rw[hv]
     ·simp only[Array.getD_eq_getD_getElem?,Array.getElem?_eq_none (Nat.le_of_not_lt hl),Option.getD_none] at hv
      cases hv
    show (yielded ops a.tmps j==some want)=_
    rw[hy]
    simp
   ·rename_i u hb
    injection h with h
    subst h
    rw[hb] at hr
    have hv:=hr.v_eq
    have hy:yielded ops a.tmps j=none:=by
     unfold yielded
     rw[ht]
     simp only[Option.bind_some]
     by_cases hl:t<a.tmps.size
     ·rw[Array.getElem?_eq_getElem hl]
      simp only[Array.getD_eq_getD_getElem?,Array.getElem?_eq_getElem hl,Option.getD_some] at hv
      rw[hv]
     ·rw[Array.getElem?_eq_none (Nat.le_of_not_lt hl)]
    show (yielded ops a.tmps j==some want)=_
    rw[hy]
    rfl
   ·cases h
  ·cases h
def xgo (P:Program) (ops:Array Oper) (o:Oper) (e:Env) (s:St) (K:Env→St→Prop):Prop:=
 match xguard ops o e with
 | some g=>(g=true→xstep P o e s K)∧(g=false→dstOk o.dst e.n=true∧K (e.put o.dst (.v undef)) s)
 | none=>False
def xops (P:Program) (ops:Array Oper):List Oper→Env→St→(Env→St→Prop)→Prop
 | [],e,s,K=>K e s
 | o::r,e,s,K=>xgo P ops o e s fun e' s'=>xops P ops r e' s' K
def APost (m0:Nat) (w0:World) (kb:KW) (Q:Exit→Env→St→Prop):Exit→Act→World→Prop:=fun ex a w=>∃ e s k,Q ex e s∧KW.le m0 kb k∧Sim w0 k w s∧EnvRel k e a
theorem xops_sound {ops:Array Oper} {m0:Nat} {Q:Exit→Env→St→Prop} (l:List Oper):∀ {e:Env} {s:St},xops P ops l e s (Q .normal)→∀ {w0 w:World} {kb k:KW} {a:Act},KW.le m0 kb k→Sim w0 k w s→EnvRel k e a→wpList P ops (APost m0 w0 kb Q) l a w:=by
 induction l with
 | nil=>exact fun h w0 w kb k a hk hs he=>⟨_,_,k,h,hk,hs,he⟩
 | cons o l ih=>
  intro e s h w0 w kb k a hk hs he
  unfold xops xgo at h
  split at h
  ·rename_i g hg
   have hw:=xguard_sound hg he
   unfold wpList
   cases g with
   | true=>
    rw[if_pos hw]
    exact .inl (xstep_sound (h.1 rfl) hk hs he fun e' s' k' a' w' q1 q2 q3 q4=>ih q1 q2 q3 q4)
   | false=>
    rw[if_neg (by rw[hw];simp)]
    obtain⟨hd,h⟩:=h.2 rfl
    exact ih h hk hs (he.put hd (.v _))
  ·exact h.elim
def AW (P:Program) (c:Code) (m0:Nat) (e:Env) (s:St) (Q:Exit→Env→St→Prop):Prop:=
 ∀ w0 kb k w a,KW.le m0 kb k→Sim w0 k w s→EnvRel k e a→c.wp P (APost m0 w0 kb Q) a w
section
variable {m0:Nat} {e:Env} {s:St} {Q:Exit→Env→St→Prop}
theorem aw_mono {c:Code} {Q':Exit→Env→St→Prop} (h:AW P c m0 e s Q) (hq:∀ ex e s,Q ex e s→Q' ex e s):AW P c m0 e s Q':=
 fun w0 kb k w a hk hs he=>wp_mono (h w0 kb k w a hk hs he) fun ex a w ⟨e,s,k,q,r⟩=>⟨e,s,k,hq _ _ _ q,r⟩
theorem aw_skip (h:Q .normal e s):AW P .skip m0 e s Q:=fun w0 kb k w a hk hs he=>wp_skip ⟨e,s,k,h,hk,hs,he⟩
theorem aw_ret (h:Q .ret e s):AW P .ret m0 e s Q:=fun w0 kb k w a hk hs he=>wp_ret ⟨e,s,k,h,hk,hs,he⟩
theorem aw_exit {id:Nat} (h:Q (.exit id) e s):AW P (.exit id) m0 e s Q:=fun w0 kb k w a hk hs he=>wp_exit ⟨e,s,k,h,hk,hs,he⟩
def andThen (P:Program) (y:Code) (m0:Nat) (Q:Exit→Env→St→Prop):Exit→Env→St→Prop
 | .normal,e,s=>AW P y m0 e s Q
 | ex,e,s=>Q ex e s
theorem aw_seq {x y:Code} (h:AW P x m0 e s (andThen P y m0 Q)):AW P (.seq x y) m0 e s Q:=
 fun w0 kb k w a hk hs he=>wp_seq (wp_mono (h w0 kb k w a hk hs he) fun ex a w ⟨e,s,k',q,hk',hs',he'⟩=>by
  cases ex with
  | normal=>exact q w0 kb k' w a hk' hs' he'
  | _=>exact⟨e,s,k',q,hk',hs',he'⟩)
theorem aw_cond {c:Operand} {x y:Code} {b:Bool} (hc:e.ev c=.v (.bool b)) (ht:b=true→AW P x m0 e s Q) (hf:b=false→AW P y m0 e s Q):AW P (.cond c x y) m0 e s Q:=by
 intro w0 kb k w a hk hs he
 have hr:=he.ev c
 rw[hc] at hr
 exact wp_cond_split hr.v_eq (fun h=>ht h w0 kb k w a hk hs he) (fun h=>hf h w0 kb k w a hk hs he)
def inBlock (id:Nat) (Q:Exit→Env→St→Prop):Exit→Env→St→Prop
 | .exit id',e,s=>if id'=id then Q .normal e s else Q (.exit id') e s
 | ex,e,s=>Q ex e s
theorem aw_block {id:Nat} {c:Code} (h:AW P c m0 e s (inBlock id Q)):AW P (.block id c) m0 e s Q:=
 fun w0 kb k w a hk hs he=>wp_block (wp_mono (h w0 kb k w a hk hs he) fun ex a w ⟨e,s,k',q,r⟩=>by
  cases ex with
  | exit id'=>
   show if id'=id then APost m0 w0 kb Q .normal a w else APost m0 w0 kb Q (.exit id') a w
   have q':if id'=id then Q .normal e s else Q (.exit id') e s:=q
   by_cases h:id'=id
   ·rw[if_pos h] at q' ⊢
    exact⟨e,s,k',q',r⟩
   ·rw[if_neg h] at q' ⊢
    exact⟨e,s,k',q',r⟩
  | _=>exact⟨e,s,k',q,r⟩)
theorem aw_region {id:Nat} {ops:Array Oper} (h:xops P ops ops.toList e s (Q .normal)):AW P (.region id ops false) m0 e s Q:=
 fun w0 kb k w a hk hs he=>wp_region_list (xops_sound _ h hk hs he)
def inLoop (I:Nat→Env→St→Prop) (n:Nat) (Q:Exit→Env→St→Prop):Exit→Env→St→Prop
 | .normal,e,s=>∃ n',n'<n∧I n' e s
 | ex,e,s=>Q ex e s
theorem aw_loop {c:Code} (I:Nat→Env→St→Prop) (n:Nat) (h0:I n e s) (round:∀ n e s,I n e s→AW P c m0 e s (inLoop I n Q)):AW P (.loop c) m0 e s Q:=by
 intro w0 kb k w a hk hs he
 refine wp_loop_ghost (fun n a w=>APost m0 w0 kb (fun _ e s=>I n e s) .normal a w) n ⟨e,s,k,h0,hk,hs,he⟩ ?_
 rintro n a w ⟨e,s,k,hI,hk,hs,he⟩
 refine wp_mono (round n e s hI w0 kb k w a hk hs he) fun ex a w ⟨e,s,k',q,r⟩=>?_
 cases ex with
 | normal=>
  obtain⟨n',hn,hI'⟩:=q
  exact⟨n',hn,e,s,k',hI',r⟩
 | _=>exact⟨e,s,k',q,r⟩
end
end Ax
namespace Ax
open Go Go.RowKit
variable {P:Program}
def num (zs:List AV) (t:Nat):AV:=zs.getD t .no
def resA (P:Program) (e:Env) (s:St):List ResultVar→Option (List AV)
 | []=>some []
 | .tmp t::r=>(resA P e s r).map (e.m t :: ·)
 | .cell a t::r=>match xload P s t (e.m a),resA P e s r with
  | some z,some l=>some (z::l)
  | _,_=>none
def retA:List AV→AV
 | [z]=>z
 | l=>.tp l
def fpost (P:Program) (rs:List ResultVar) (R:AV→St→Prop):Exit→Env→St→Prop
 | .normal,e,s=>match resA P e s rs with | some l=>R (retA l) s | none=>False
 | .ret,e,s=>match resA P e s rs with | some l=>R (retA l) s | none=>False
 | _,_,_=>False
def resF (a:Act):ResultVar→Sem Value
 | .tmp t=>pure (a.tmps.getD t undef)
 | .cell x t=>do loadVar t (←asAddr (a.tmps.getD x undef))
theorem run_results_list {w0 w:World} {k:KW} {s:St} (hs:Sim w0 k w s) {e:Env} {a:Act} (he:EnvRel k e a) (rs:List ResultVar):∀ (l:List AV),resA P e s rs=some l →
  ∃ vs:List Value,(rs.mapM (m:=Sem) (resF a)).run P w=.ok vs w∧RelL k l vs:=by
 induction rs with
 | nil=>
  intro l h
  injection h with h
  subst h
  exact⟨[],by simp,rfl,fun j z u hz=>by simp at hz⟩
 | cons r rs ih=>
  intro l h
  cases r with
  | tmp t=>
   rw[resA] at h
   cases hr:resA P e s rs with
   | none=>rw[hr] at h;cases h
   | some l'=>
    rw[hr] at h
    injection h with h
    subst h
    obtain⟨vs,h1,h2,h3⟩:=ih l' hr
    refine⟨a.tmps.getD t undef::vs,by simp only[List.mapM_cons,Sem.run_bind,resF,Sem.run_pure,Result.andThen_ok,h1],by simp [h2],fun j z u hz hu=>?_⟩
    cases j with
    | zero=>
     simp at hz hu
     subst hz hu
     have:=he.r t
     simpa using this
    | succ j=>exact h3 j z u (by simpa using hz) (by simpa using hu)
  | cell x t=>
   rw[resA] at h
   split at h
   ·rename_i z l' hz hr
    injection h with h
    subst h
    obtain⟨vs,h1,h2,h3⟩:=ih l' hr
    obtain⟨v,w',k',q1,q2,q3,q4⟩:=load_gives (P:=P) hs (he.r x) hz
    have hp:∃ a',a.tmps.getD x undef=.pointer (some a'):=by
     have hr:=he.r x
     unfold xload at hz
     split at hz
     ·cases hz
     ·split at hz
      ·rename_i e1;rw[e1] at hr;obtain⟨a',h,_⟩:=reads_rf hs hr;exact⟨a',h⟩
      ·rename_i e1;rw[e1] at hr;generalize a.tmps.getD x undef=u at hr;cases hr;exact⟨_,rfl⟩
      ·cases hz
    obtain⟨a',ha'⟩:=hp
    rw[ha'] at q1
    simp only[Instr.loadAt,Instr.sureAddr,Sem.run_bind,Sem.run_pure,Result.andThen_ok] at q1
    have hw:w'=w∧Rel k z v:=by
     have hr:=he.r x
     rw[ha'] at hr
     unfold xload at hz
     split at hz
     ·cases hz
     ·rename_i ti ht
      split at hz
      ·rename_i c e1
       rw[e1] at hr
       obtain⟨a2,h5,h6⟩:=reads_rf hs hr
       injection h5 with h5
       injection h5 with h5
       subst h5
       obtain⟨v2,g1,g2⟩:=load_reads (P:=P) h6 ht hz
       rw[g1] at q1
       cases q1
       exact⟨rfl,g2⟩
      ·rename_i id off e1
       split at hz
       ·rename_i c hc
        rw[e1] at hr
        obtain⟨a2,h5,_,h6⟩:=reads_ptr hs hc hr
        injection h5 with h5
        injection h5 with h5
        subst h5
        obtain⟨v2,g1,g2⟩:=load_reads (P:=P) h6 ht hz
        rw[g1] at q1
        cases q1
        exact⟨rfl,g2⟩
       ·cases hz
      ·cases hz
    obtain⟨rfl,hrel⟩:=hw
    refine⟨v::vs,?_,by simp [h2],fun j z u hz hu=>?_⟩
    ·simp only[List.mapM_cons,Sem.run_bind,resF,ha',asAddr,Sem.run_pure,Result.andThen_ok,q1,h1]
    cases j with
    | zero=>
     simp at hz hu
     subst hz hu
     exact hrel
    | succ j=>exact h3 j z u (by simpa using hz) (by simpa using hu)
   ·cases h
theorem run_results {w0 w:World} {k:KW} {s:St} (hs:Sim w0 k w s) {e:Env} {a:Act} (he:EnvRel k e a) {fn:Func} {l:List AV} (h:resA P e s fn.results.toList=some l):∃ v,(results fn a.tmps).run P w=.ok v w∧Rel k (retA l) v:=by
 obtain⟨vs,h1,h2,h3⟩:=run_results_list hs he _ l h
 have hm:(results fn a.tmps).run P w=.ok (if h:vs.toArray.size=1 then vs.toArray[0] else .tuple vs.toArray) w:=by
  have:fn.results=fn.results.toList.toArray:=by simp
  have hf:results fn a.tmps=(do
    let vs ←fn.results.mapM (resF a)
    pure (if h:vs.size=1 then vs[0] else .tuple vs)):=rfl
  rw[hf,Array.mapM_eq_mapM_toList]
  simp [Sem.run_bind,h1]
 refine⟨_,hm,?_⟩
 match l,vs,h2,h3 with
 | [],[],_,h3=>exact .tp [] [] rfl h3
 | [z],[v],_,h3=>exact h3 0 z v rfl rfl
 | z::y::l,v::u::vs,h2,h3=>
  have:¬((v::u::vs).toArray.size=1):=by simp
  rw[dif_neg this]
  exact .tp _ _ h2 h3
theorem acall_of {f:FuncId} {fn:Func} {c:Code} {zs:List AV} {s:St} {R:AV→St→Prop} (hf:P.funcs[f]?=some fn) (hname:(fn.name == "runtime.NumGoroutine")=false) (hb:fn.body=some c) (hn:zs.length≤fn.ntmps)
  (h:AW P c s.nx ⟨fn.ntmps,num zs⟩ s (fpost P fn.results.toList R)):ACall P f zs s R:=by
 refine⟨enters_of hf hname hb,fun w0 k w vs hs hv=>calls_of_wp hf hb (wp_mono (h w0 k k w _ (KW.le_refl (by rw[hs.m];exact Nat.le_refl _)) hs ?_) ?_)⟩
 ·refine⟨rfl,by simp [hv.1];omega,fun t=>?_⟩
  show Rel k (zs.getD t .no) _
  rw[List.getD_eq_getElem?_getD]
  cases hz:zs[t]? with
  | none=>exact .no _
  | some z=>
   have ht:=(List.getElem?_eq_some_iff.1 hz).1
   have hu:vs[t]?=some (vs[t]'(by rw[hv.1];exact ht)):=List.getElem?_eq_getElem _
   have e1:(vs.toArray++Array.replicate (fn.ntmps-vs.toArray.size) undef).getD t undef=vs[t]'(by rw[hv.1];exact ht):=by
    rw[Array.getD_eq_getD_getElem?,Array.getElem?_append_left (by simp [hv.1];exact ht)]
    simp [hv.1,ht]
   rw[e1]
   exact hv.2 t z _ hz hu
 ·rintro ex a w' ⟨e',s',k',q,hk,hs',he'⟩
  have fin:∀ l,resA P e' s' fn.results.toList=some l→R (retA l) s'→a.defers=[]∧∃ v,(results fn a.tmps).run P w'=.ok v w'∧∃ v' r s'' k'',Ending.returned v=.returned v'∧R r s''∧Sim w0 k'' w' s''∧Rel k'' r v'∧KW.le s.nx k k'':=by
   intro l hl hR
   obtain⟨v,h1,h2⟩:=run_results hs' he' hl
   exact⟨he'.d,v,h1,v,_,_,k',rfl,hR,hs',h2,hk⟩
  cases ex with
  | normal=>
   unfold fpost at q
   simp only at q
   split at q
   ·rename_i l hl;exact fin l hl q
   ·exact q.elim
  | ret=>
   unfold fpost at q
   simp only at q
   split at q
   ·rename_i l hl;exact fin l hl q
   ·exact q.elim
  | _=>exact q.elim
def frz (i:Nat) (c:List AV):AV→AV
 | .own id off n sz=>if id=i then .sl n ((c.drop off).take (n*sz)) else .own id off n sz
 | .ptr id off=>if id=i then .rf (c.drop off) else .ptr id off
 | .ag l=>.ag (frzL i c l)
 | .tp l=>.tp (frzL i c l)
 | .fn f l=>.fn f (frzL i c l)
 | .sl n l=>.sl n (frzL i c l)
 | .slc n m sz l=>.slc n m sz (frzL i c l)
 | .rf l=>.rf (frzL i c l)
 | .v x=>.v x
 | .bp id T=>.bp id T
 | .bq id T=>.bq id T
 | .ob id n T=>.ob id n T
 | .no=>.no
where frzL (i:Nat) (c:List AV):List AV→List AV
 | []=>[]
 | z::r=>frz i c z::frzL i c r
theorem frzL_get (i:Nat) (c:List AV) (l:List AV):∀ (j:Nat),(frz.frzL i c l)[j]?=(l[j]?).map (frz i c):=by
 induction l with
 | nil=>intro j;simp [frz.frzL]
 | cons z l ih=>
  intro j
  cases j with
  | zero=>simp [frz.frzL]
  | succ j=>simpa [frz.frzL] using ih j
theorem frzL_length (i:Nat) (c:List AV) (l:List AV):(frz.frzL i c l).length=l.length:=by
 induction l with
 | nil=>rfl
 | cons z l ih=>simp [frz.frzL,ih]
def Env.frz (e:Env) (i:Nat) (c:List AV):Env:=⟨e.n,fun t=>Ax.frz i c (e.m t)⟩
def St.frz (s:St) (i:Nat) (c:List AV) (g:Nat→Bool):St:=⟨fun j=>if j=i then none else if g j then (s.get j).map (Ax.frz.frzL i c) else s.get j,s.nx⟩
theorem sim_frz {w0 w:World} {k:KW} {s:St} (hs:Sim w0 k w s) {i:Nat} {c:List AV} (hi:s.get i=some c) (g:Nat→Bool) :
  ∃ k',k'.φ=k.φ∧k'.m=k.m∧(∀ a u,k.S a=some u→k'.S a=some u)∧Sim w0 k' w (s.frz i c g)∧(∀ z u,Rel k z u→Rel k' (frz i c z) u) ∧
   ∀ (n m sz:Nat) (u:Value),c.length=m*sz→0<c.length→n≤m→Rel k (.own i 0 n sz) u→Rel k' (.slc n m sz c) u:=by
 classical
 obtain⟨hcl,hbox⟩:=hs.box i c hi
 let S':Addr→Option Value:=fun a=>if ∃ j,j<c.length∧a=(k.φ i).at j then w.cell? a else k.S a
 have hS:∀ a u,k.S a=some u→S' a=some u:=by
  intro a u ha
  show (if ∃ j,j<c.length∧a=(k.φ i).at j then w.cell? a else k.S a)=some u
  split
  ·exact hs.fz a u ha
  ·exact ha
 let k':KW:=⟨k.φ,k.m,S',k.tab.mono hS⟩
 have hle:KW.le k.m k k':=⟨Nat.le_refl _,fun _ _=>rfl,hS⟩
 have hin:∀ j,(hj:j<c.length)→∃ u,S' ((k.φ i).at j)=some u∧Rel k c[j] u:=by
  intro j hj
  obtain⟨u,h1,h2,h3,h4⟩:=hbox j (by omega)
  refine⟨u,?_,h4 _ (by simp [hj])⟩
  show (if ∃ j',j'<c.length∧(k.φ i).at j=(k.φ i).at j' then _ else _)=_
  rw[if_pos ⟨j,hj,rfl⟩]
  exact h1
 have tail:∀ off (d:List AV),(∀ (j:Nat) (z:AV),d[j]?=some z→c[off+j]?=some z)→∃ us:Nat→Value,(∀ j,j<d.length→S' (((k.φ i).at off).add j)=some (us j))∧∀ (j:Nat) (z:AV),d[j]?=some z→Rel k' z (us j):=by
  intro off d hd
  have hx:∀ j,∃ u,j<d.length→S' (((k.φ i).at off).add j)=some u∧∀ z,d[j]?=some z→Rel k' z u:=by
   intro j
   by_cases hj:j<d.length
   ·have hz:d[j]?=some d[j]:=by simp [hj]
    have hc:=hd j _ hz
    have hlt:=(List.getElem?_eq_some_iff.1 hc).1
    obtain⟨u,h1,h2⟩:=hin (off+j) hlt
    refine⟨u,fun _=>⟨by rw[Rng.at_add];exact h1,fun z hz'=>?_⟩⟩
    have hc':=hd j z hz'
    rw[List.getElem?_eq_getElem hlt] at hc'
    injection hc' with hc'
    rw[←hc']
    exact h2.mono hle
   ·exact⟨undef,fun h=>absurd h hj⟩
  refine⟨fun j=>Classical.choose (hx j),fun j hj=>(Classical.choose_spec (hx j) hj).1,fun j z hz=>?_⟩
  have hj:=(List.getElem?_eq_some_iff.1 hz).1
  exact(Classical.choose_spec (hx j) hj).2 z hz
 have hrel:∀ z u,Rel k z u→Rel k' (frz i c z) u:=by
  intro z u h
  induction h with
  | v x=>exact .v x
  | sl n cap l a us hn h1 h2 ih=>exact .sl n cap _ a us hn (fun j hj=>hS _ _ (h1 j (by rwa [frzL_length] at hj))) (fun j z hz=>by
    rw[frzL_get] at hz
    cases hl:l[j]? with
    | none=>rw[hl] at hz;cases hz
    | some y=>
     rw[hl] at hz
     injection hz with hz
     subst hz
     exact ih j y hl)
  | sl0 a cap=>exact .sl0 a cap
  | slc n m sz cap l a us hn hm hl' h1 h2 ih=>exact .slc n m sz cap _ a us hn hm (by rw[frzL_length];exact hl') (fun j hj=>hS _ _ (h1 j (by rwa [frzL_length] at hj))) (fun j z hz=>by
    rw[frzL_get] at hz
    cases hl:l[j]? with
    | none=>rw[hl] at hz;cases hz
    | some y=>
     rw[hl] at hz
     injection hz with hz
     subst hz
     exact ih j y hl)
  | rf l a us h1 h2 ih=>exact .rf _ a us (fun j hj=>hS _ _ (h1 j (by rwa [frzL_length] at hj))) (fun j z hz=>by
    rw[frzL_get] at hz
    cases hl:l[j]? with
    | none=>rw[hl] at hz;cases hz
    | some y=>
     rw[hl] at hz
     injection hz with hz
     subst hz
     exact ih j y hl)
  | own id off n sz cap hid hn hc=>
   rw[frz]
   split
   ·rename_i e
    subst e
    obtain⟨us,h1,h2⟩:=tail off ((c.drop off).take (n*sz)) (fun j z hz=>by
     rw[List.getElem?_take] at hz
     split at hz
     ·rwa [List.getElem?_drop] at hz
     ·cases hz)
    exact .sl n cap _ _ us hn h1 h2
   ·exact .own id off n sz cap hid hn hc
  | own0 id off sz a hid hc=>
   rw[frz]
   split
   ·rw[Nat.zero_mul,List.take_zero];exact .sl0 _ _
   ·exact .own0 id off sz a hid hc
  | ptr id off hid=>
   rw[frz]
   split
   ·rename_i e
    subst e
    obtain⟨us,h1,h2⟩:=tail off (c.drop off) (fun j z hz=>by rwa [List.getElem?_drop] at hz)
    exact .rf _ _ us h1 h2
   ·exact .ptr id off hid
  | ag l us hl h ih=>exact .ag _ us (by rw[frzL_length];exact hl) (fun j z u hz hu=>by
    rw[frzL_get] at hz
    cases hl:l[j]? with
    | none=>rw[hl] at hz;cases hz
    | some y=>
     rw[hl] at hz
     injection hz with hz
     subst hz
     exact ih j y u hl hu)
  | fn f l us hl h ih=>exact .fn f _ us (by rw[frzL_length];exact hl) (fun j z u hz hu=>by
    rw[frzL_get] at hz
    cases hl:l[j]? with
    | none=>rw[hl] at hz;cases hz
    | some y=>
     rw[hl] at hz
     injection hz with hz
     subst hz
     exact ih j y u hl hu)
  | tp l us hl h ih=>exact .tp _ us (by rw[frzL_length];exact hl) (fun j z u hz hu=>by
    rw[frzL_get] at hz
    cases hl:l[j]? with
    | none=>rw[hl] at hz;cases hz
    | some y=>
     rw[hl] at hz
     injection hz with hz
     subst hz
     exact ih j y u hl hu)
  | bp0 id T hi ht hc=>exact Rel.bp0 (k:=k') id T hi ht hc
  | bp id T hi ht hc=>exact Rel.bp (k:=k') id T hi ht hc
  | bq0 id T hi hc=>exact .bq0 id T hi hc
  | bq id T hi ht h0=>exact Rel.bq (k:=k') id T hi ht h0
  | ob0 id T hi hc=>exact .ob0 id T hi hc
  | ob id n T cap hi ht hn hc h0=>exact Rel.ob (k:=k') id n T cap hi ht hn hc h0
  | no u=>exact .no u
 have hrelc:∀ (n m sz:Nat) (u:Value),c.length=m*sz→0<c.length→n≤m→Rel k (.own i 0 n sz) u→Rel k' (.slc n m sz c) u:=by
  intro n m sz u hc1 hc2 hnm h
  cases h with
  | own _ _ _ _ cap hid hn hc=>
   obtain⟨us,h1,h2⟩:=tail 0 c (fun j z hz=>by rwa [Nat.zero_add])
   refine .slc n m sz cap c _ us hnm ?_ hc1 h1 h2
   have h3:m*sz≤cap*sz:=by omega
   have hsz:0<sz:=by
    rcases Nat.eq_zero_or_pos sz with e | e
    ·rw[e,Nat.mul_zero] at hc1;omega
    ·exact e
   exact Nat.le_of_mul_le_mul_right h3 hsz
  | own0 _ _ _ a hid hc=>omega
 refine⟨k',rfl,rfl,hS,⟨hs.m,?_,?_,?_,?_,hs.shp,hs.tz,?_,fun a u hu=>hS a u (hs.cov a u hu)⟩,hrel,hrelc⟩
 ·intro a u ha
  have ha':(if ∃ j,j<c.length∧a=(k.φ i).at j then w.cell? a else k.S a)=some u:=ha
  split at ha'
  ·exact ha'
  ·exact hs.fz a u ha'
 all_goals
  have alive:∀ q cq,(s.frz i c g).get q=some cq→q≠i∧∃ c0,s.get q=some c0∧(cq=c0∨cq=frz.frzL i c c0):=by
   intro q cq hq
   have hq':(if q=i then none else if g q then (s.get q).map (frz.frzL i c) else s.get q)=some cq:=hq
   by_cases e:q=i
   ·rw[if_pos e] at hq';cases hq'
   ·rw[if_neg e] at hq'
    refine⟨e,?_⟩
    split at hq'
    ·cases hc0:s.get q with
     | none=>rw[hc0] at hq';cases hq'
     | some c0=>rw[hc0] at hq';injection hq' with hq';exact⟨c0,rfl,.inr hq'.symm⟩
    ·exact⟨cq,hq',.inl rfl⟩
 ·intro q cq hq
  obtain⟨_,c0,h0,_⟩:=alive q cq hq
  exact hs.lt q c0 h0
 ·intro q cq hq
  obtain⟨hqi,c0,h0,hcq⟩:=alive q cq hq
  obtain⟨hl,hb⟩:=hs.box q c0 h0
  refine⟨by rcases hcq with rfl | rfl <;> simpa [frzL_length] using hl,fun j hj=>?_⟩
  obtain⟨u,h1,h2,h3,h4⟩:=hb j hj
  refine⟨u,h1,h2,?_,fun z hz=>?_⟩
  ·show (if ∃ j',j'<c.length∧(k.φ q).at j=(k.φ i).at j' then _ else _)=_
   rw[if_neg]
   ·exact h3
   ·rintro ⟨j',hj',he⟩
    exact hs.sep q i c0 c h0 hi hqi j j' hj (by omega) he
  ·rcases hcq with rfl | rfl
   ·exact(h4 z hz).mono hle
   ·rw[frzL_get] at hz
    cases hl:c0[j]? with
    | none=>rw[hl] at hz;cases hz
    | some y=>
     rw[hl] at hz
     injection hz with hz
     subst hz
     exact hrel _ _ (h4 y hl)
 ·intro a b ca cb ha hb
  obtain⟨_,c1,h1,_⟩:=alive a ca ha
  obtain⟨_,c2,h2,_⟩:=alive b cb hb
  exact hs.sep a b c1 c2 h1 h2
 ·intro q cq T hq hT
  obtain⟨_,c0,h0,_⟩:=alive q cq hq
  exact hs.ty q c0 T h0 hT
theorem aw_freeze {code:Code} {m0:Nat} {e:Env} {s:St} {Q:Exit→Env→St→Prop} (i:Nat) (c:List AV) (hi:s.get i=some c) (g:Nat→Bool) (h:AW P code m0 (e.frz i c) (s.frz i c g) Q):AW P code m0 e s Q:=by
 intro w0 kb k w a hk hs he
 obtain⟨k',h1,h2,h3,h4,h5,_⟩:=sim_frz hs hi g
 exact h w0 kb k' w a ⟨by rw[h2];exact hk.1,fun j hj=>by rw[h1];exact hk.2.1 j hj,fun a u ha=>h3 a u (hk.2.2 a u ha)⟩ h4 ⟨he.d,he.n,fun t=>h5 _ _ (he.r t)⟩
end Ax
namespace Ax
open Go Go.RowKit
variable {P:Program}
theorem Env.ev_put (e:Env) (d:Option Nat) (z:AV) (x:Operand) (h:∀ t,d=some t→x≠.tmp t):(e.put d z).ev x=e.ev x:=by
 cases d with
 | none=>rfl
 | some t=>
  cases x with
  | tmp t'=>
   have:t≠t':=fun he=>h t rfl (by rw[he])
   show upd e.m t z t'=e.m t'
   unfold upd
   rw[if_neg this]
  | _=>rfl
theorem Env.put_comm (e:Env) (d d':Option Nat) (z z':AV) (h:∀ t,d=some t→d'≠some t):(e.put d z).put d' z'=(e.put d' z').put d z:=by
 cases d with
 | none=>rfl
 | some t=>
  cases d' with
  | none=>rfl
  | some t'=>
   have hne:t≠t':=fun he=>h t rfl (by rw[he])
   show (⟨e.n,upd (upd e.m t z) t' z'⟩:Env)=⟨e.n,upd (upd e.m t' z') t z⟩
   congr 1
   funext q
   unfold upd
   by_cases h1:t'=q
   ·subst h1
    rw[if_pos rfl,if_neg hne,if_pos rfl]
   ·rw[if_neg h1]
    by_cases h2:t=q
    ·rw[if_pos h2,if_pos h2]
    ·rw[if_neg h2,if_neg h2,if_neg h1]
theorem Env.put_n (e:Env) (d:Option Nat) (z:AV):(e.put d z).n=e.n:=by cases d <;> rfl
theorem xop_congr {e e':Env} (s:St) (op:Op) (h:∀ x∈op.operands,e.ev x=e'.ev x):xop P e s op=xop P e' s op:=by
 have pairs:∀ ps:Array (Nat × Operand),(∀ x∈(ps.toList.map (·.2)).toArray,e.ev x=e'.ev x)→(ps.toList.map fun p=>(p.1,e.ev p.2))=ps.toList.map fun p=>(p.1,e'.ev p.2):=by
  intro ps hp
  apply List.map_congr_left
  intro p hm
  rw[hp p.2 (by simp;exact⟨p.1,by simpa using hm⟩)]
 cases op <;> simp only[Op.operands] at h <;> simp only[xop]
 case build t ps=>rw[pairs ps h]
 case buildSlice t n ps=>rw[pairs ps h]
 case call c=>
  have:c.args.toList.map e.ev=c.args.toList.map e'.ev:=List.map_congr_left fun x hx=>h x (by simp [Call.operands];exact .inr (by simpa using hx))
  rw[this]
 case slice t x lo hi mx=>
  cases lo <;> cases hi <;> cases mx <;> simp_all
 case makeFunc fn first cap=>
  have:cap.toList.map e.ev=cap.toList.map e'.ev:=List.map_congr_left fun x hx=>h x (by simp;exact .inr (by simpa using hx))
  rw[this]
 all_goals first
  | rfl
  | (simp only[Array.mem_def,List.mem_cons,List.not_mem_nil,or_false,forall_eq_or_imp,forall_eq] at h;first | rw[h] | (rw[h.1,h.2]) | (rw[h.1,h.2.1,h.2.2]) | simp_all)
theorem calleeOf_congr {e e':Env} (op:Op) (h:∀ x∈op.operands,e.ev x=e'.ev x):calleeOf e op=calleeOf e' op:=by
 cases op <;> simp only[calleeOf]
 case call c=>
  obtain⟨callee,args,ts⟩:=c
  cases callee with
  | value x=>
   have h1:e.ev x=e'.ev x:=h x (by simp [Op.operands,Call.operands])
   have h2:args.toList.map e.ev=args.toList.map e'.ev:=List.map_congr_left fun x hx=>h x (by simp [Op.operands,Call.operands];exact .inr (by simpa using hx))
   simp only[h1,h2]
  | _=>rfl
theorem ev_looks {ops:Array Oper} {o:Oper} {e:Env} {d:Option Nat} {z:AV} (h:∀ t,d=some t→t ∉ o.looksAt ops):∀ x∈o.op.operands,(e.put d z).ev x=e.ev x:=by
 intro x hx
 refine Env.ev_put e d z x fun t ht hxt=>h t ht ?_
 subst hxt
 exact List.mem_append_left _ (List.mem_filterMap.2 ⟨.tmp t,by simpa using hx,rfl⟩)
theorem xguard_put {ops:Array Oper} {o:Oper} {e:Env} {d:Option Nat} {z:AV} (h:∀ t,d=some t→t ∉ o.looksAt ops):xguard ops o (e.put d z)=xguard ops o e:=by
 unfold xguard
 cases hg:o.guard with
 | none=>rfl
 | some gw=>
  obtain⟨g,want⟩:=gw
  cases ht:(ops[g]?).bind (·.dst) with
  | none=>simp only[ht]
  | some t=>
   have:(e.put d z).m t=e.m t:=by
    cases d with
    | none=>rfl
    | some t'=>
     have hne:t'≠t:=fun he=>h t' rfl (by subst he;simp [Oper.looksAt,hg,ht])
     show upd e.m t' z t=_
     unfold upd
     rw[if_neg hne]
   simp only[ht,this]
def Takes (P:Program) (ops:Array Oper) (o:Oper) (e:Env) (s:St) (z:AV):Prop:=
 (xguard ops o e=some true∧calleeOf e o.op=none∧xop P e s o.op=some (z,s))∨(xguard ops o e=some false∧z=.v undef)
theorem Takes.put {ops:Array Oper} {o:Oper} {e:Env} {s:St} {z y:AV} {d:Option Nat} (h:∀ t,d=some t→t ∉ o.looksAt ops) (ht:Takes P ops o e s z):Takes P ops o (e.put d y) s z:=by
 have hev:=ev_looks (e:=e) (z:=y) h
 unfold Takes
 rw[xguard_put h,calleeOf_congr o.op hev,xop_congr s o.op hev]
 exact ht
theorem Takes.go {ops:Array Oper} {o:Oper} {e:Env} {s:St} {z:AV} {K:Env→St→Prop} (ht:Takes P ops o e s z) (hd:dstOk o.dst e.n=true) (h:K (e.put o.dst z) s):xgo P ops o e s K:=by
 unfold xgo
 rcases ht with ⟨h1,h2,h3⟩ | ⟨h1,rfl⟩
 ·rw[h1]
  refine⟨fun _=>⟨hd,?_⟩,nofun⟩
  rw[h2,h3]
  exact h
 ·rw[h1]
  exact⟨nofun,fun _=>⟨hd,h⟩⟩
theorem xgo_mono {ops:Array Oper} {o:Oper} {e:Env} {s:St} {K K':Env→St→Prop} (h:xgo P ops o e s K) (hk:∀ e s,K e s→K' e s):xgo P ops o e s K':=by
 unfold xgo at *
 split at h
 ·refine⟨fun hg=>?_,fun hg=>⟨(h.2 hg).1,hk _ _ (h.2 hg).2⟩⟩
  obtain⟨hd,h⟩:=h.1 hg
  refine⟨hd,?_⟩
  split at h
  ·exact h.mono fun r s'=>hk _ _
  ·split at h
   ·exact hk _ _ h
   ·exact h.elim
 ·exact h.elim
theorem xgo_put {ops:Array Oper} {oi oj:Oper} {e:Env} {s:St} {z:AV} {K:Env→St→Prop} (hap:oi.apart ops oj=true) (h:xgo P ops oj (e.put oi.dst z) s K):xgo P ops oj e s fun e' s'=>K (e'.put oi.dst z) s'∧∃ y,e'=e.put oj.dst y:=by
 obtain⟨h1,h2,h3⟩:=Oper.apart_spec hap
 have hev:=ev_looks (e:=e) (z:=z) h1
 unfold xgo at *
 rw[xguard_put h1] at h
 split at h
 ·refine⟨fun hg=>?_,fun hg=>?_⟩
  ·obtain⟨hd,h⟩:=h.1 hg
   refine⟨by rwa [Env.put_n] at hd,?_⟩
   rw[calleeOf_congr oj.op hev,xop_congr s oj.op hev] at h
   split at h
   ·exact h.mono fun r s' hr=>⟨by rw[←Env.put_comm e oi.dst oj.dst z r h2];exact hr,r,rfl⟩
   ·split at h
    ·exact⟨by rw[←Env.put_comm e oi.dst oj.dst z _ h2];exact h,_,rfl⟩
    ·exact h.elim
  ·obtain⟨hd,h⟩:=h.2 hg
   exact⟨by rwa [Env.put_n] at hd,by rw[←Env.put_comm e oi.dst oj.dst z _ h2];exact h,_,rfl⟩
 ·exact h.elim
def AnyA (P:Program) (ops:Array Oper) (H:St→Prop) (K:Env→St→Prop):Nat→Array Bool→Env→St→Prop
 | 0,listed,e,s=>H s∧Region.ready .any ops listed=[]∧K e s
 | n+1,listed,e,s=>H s∧(Region.ready .any ops listed=[]→K e s)∧∀ i∈Region.ready .any ops listed,∃ o,ops[i]?=some o∧xgo P ops o e s (AnyA P ops H K n (listed.setIfInBounds i true))
theorem AnyA.held {ops:Array Oper} {H:St→Prop} {K:Env→St→Prop} {n:Nat} {listed:Array Bool} {e:Env} {s:St} (h:AnyA P ops H K n listed e s):H s:=by cases n <;> exact h.1
theorem AnyA.sound {ops:Array Oper} {H:St→Prop} {m0:Nat} {Q:Exit→Env→St→Prop} (n:Nat):∀ {listed:Array Bool} {e:Env} {s:St},AnyA P ops H (Q .normal) n listed e s→∀ {w0 w:World} {kb k:KW} {a:Act},KW.le m0 kb k→Sim w0 k w s→EnvRel k e a →
  wpAny P .any ops (APost m0 w0 kb Q) n listed a w:=by
 induction n with
 | zero=>exact fun h w0 w kb k a hk hs he=>⟨h.2.1,_,_,k,h.2.2,hk,hs,he⟩
 | succ n ih=>
  intro listed e s h w0 w kb k a hk hs he
  obtain⟨_,h0,h1⟩:=h
  refine⟨fun hr=>⟨_,_,k,h0 hr,hk,hs,he⟩,fun i hi=>?_⟩
  obtain⟨o,ho,hx⟩:=h1 i hi
  unfold wpOp
  rw[ho]
  simp only
  unfold xgo at hx
  split at hx
  ·rename_i g hg
   have hw:=xguard_sound hg he
   cases g with
   | true=>
    rw[if_pos hw]
    exact .inl (xstep_sound (hx.1 rfl) hk hs he fun e' s' k' a' w' q1 q2 q3 q4=>ih q1 q2 q3 q4)
   | false=>
    rw[if_neg (by rw[hw];simp)]
    obtain⟨hd,hx⟩:=hx.2 rfl
    exact ih hx hk hs (he.put hd (.v _))
  ·exact hx.elim
theorem AnyA.take {ops:Array Oper} {H:St→Prop} {K:Env→St→Prop} {i:Nat} {oi:Oper} {z:AV} (hi:ops[i]?=some oi) (n:Nat):∀ (listed:Array Bool) (e:Env) (s:St),
  (∀ (j:Nat) (oj:Oper),ops[j]?=some oj→j≠i→listed.getD j true=false→(∀ x∈oj.after,Region.binds .any x=true→x.on≠i)→oi.apart ops oj=true) →
  i∈Region.ready .any ops listed→(∀ s,H s→Takes P ops oi e s z)→dstOk oi.dst e.n=true →
  AnyA P ops H K n (listed.setIfInBounds i true) (e.put oi.dst z) s→AnyA P ops H K (n+1) listed e s:=by
 induction n with
 | zero=>
  intro listed e s hap hr ht hd h
  refine⟨h.1,fun h0=>(by rw[h0] at hr;cases hr),fun j hj=>?_⟩
  by_cases hji:j=i
  ·subst hji
   exact⟨oi,hi,(ht s h.1).go hd h⟩
  ·have:=ready_mono (md:=.any) (ops:=ops) hj hji
   rw[h.2.1] at this
   cases this
 | succ n ih=>
  intro listed e s hap hr ht hd h
  refine⟨h.held,fun h0=>(by rw[h0] at hr;cases hr),fun j hj=>?_⟩
  by_cases hji:j=i
  ·subst hji
   exact⟨oi,hi,(ht s h.held).go hd h⟩
  ·have hj':=ready_mono (md:=.any) (ops:=ops) hj hji
   obtain⟨oj,hoj,hx⟩:=h.2.2 j hj'
   refine⟨oj,hoj,?_⟩
   have hjr:=mem_ready.1 hj
   have hir:=mem_ready.1 hr
   obtain⟨hj0,oj2,hoj2,hjall⟩:=hjr
   rw[hoj] at hoj2
   injection hoj2 with hoj2
   subst hoj2
   have hapj:=hap j oj hoj hji hj0 (fun x hx hb he=>by
    have:=hjall x hx hb
    rw[he] at this
    have h1:listed.getD i true=false:=hir.1
    by_cases hl:i<listed.size
    ·simp [hl] at this h1
     rw[h1] at this
     cases this
    ·simp [Nat.le_of_not_lt hl] at h1)
   refine xgo_mono (xgo_put hapj hx) fun e' s' ⟨hn,y,hy⟩=>?_
   subst hy
   obtain⟨_,_,h3⟩:=Oper.apart_spec hapj
   refine ih _ _ _ ?_ (ready_mono hr (Ne.symm hji)) (fun s hs=>(ht s hs).put h3) (by rw[Env.put_n];exact hd) ?_
   ·intro q oq hoq hqi hq0 hqn
    exact hap q oq hoq hqi (by
     by_cases hqj:j=q
     ·subst hqj
      by_cases hl:j<listed.size
      ·simp [hl] at hq0
      ·simp [Nat.le_of_not_lt hl] at hq0
     ·rwa [getD_set_ne true hqj] at hq0) hqn
   ·rw[Array.setIfInBounds_comm _ _ hji]
    exact hn
inductive Plan where
 | done
 | take (i:Nat) (p:Plan)
 | one (i:Nat) (p:Plan)
 | two (i:Nat) (p:Plan) (j:Nat) (q:Plan)
def planOk (ops:Array Oper):Plan→Nat→Array Bool→Bool
 | .done,_,listed=>Region.ready .any ops listed==[]
 | .take i p,n+1,listed=>(Region.ready .any ops listed).contains i&&Region.free .any ops listed i&&planOk ops p n (listed.setIfInBounds i true)
 | .one i p,n+1,listed=>Region.ready .any ops listed==[i]&&planOk ops p n (listed.setIfInBounds i true)
 | .two i p j q,n+1,listed=>Region.ready .any ops listed==[i,j]&&planOk ops p n (listed.setIfInBounds i true)&&planOk ops q n (listed.setIfInBounds j true)
 | _,0,_=>false
def heldEq (s:St):List Nat→St→Prop
 | [],_=>True
 | i::r,s'=>s'.get i=s.get i∧heldEq s r s'
theorem heldEq_refl (s:St) (l:List Nat):heldEq s l s:=by
 induction l with
 | nil=>trivial
 | cons i l ih=>exact⟨rfl,ih⟩
def tval (P:Program) (ops:Array Oper) (o:Oper) (e:Env) (s:St):AV:=
 match xguard ops o e with
 | some true=>match xop P e s o.op with
  | some (z,_)=>z
  | none=>.no
 | _=>.v undef
def xplan (P:Program) (ops:Array Oper) (s0:St) (held:List Nat) (K:Env→St→Prop):Plan→Env→St→Prop
 | .done,e,s=>K e s
 | .take i p,e,s=>match ops[i]? with
  | none=>False
  | some o=>(∀ s',heldEq s0 held s'→Takes P ops o e s' (tval P ops o e s))∧dstOk o.dst e.n=true∧xplan P ops s0 held K p (e.put o.dst (tval P ops o e s)) s
 | .one i p,e,s=>match ops[i]? with
  | none=>False
  | some o=>xgo P ops o e s fun e' s'=>heldEq s0 held s'∧xplan P ops s0 held K p e' s'
 | .two i p j q,e,s=>match ops[i]?,ops[j]? with
  | some o,some o'=>(xgo P ops o e s fun e' s'=>heldEq s0 held s'∧xplan P ops s0 held K p e' s')∧xgo P ops o' e s fun e' s'=>heldEq s0 held s'∧xplan P ops s0 held K q e' s'
  | _,_=>False
theorem xplan_any {ops:Array Oper} {s0:St} {held:List Nat} {K:Env→St→Prop} (p:Plan):∀ (n:Nat) (listed:Array Bool) (e:Env) (s:St),planOk ops p n listed=true→heldEq s0 held s→xplan P ops s0 held K p e s→AnyA P ops (heldEq s0 held) K n listed e s:=by
 induction p with
 | done=>
  intro n listed e s hp hh h
  have hr:Region.ready .any ops listed=[]:=by
   cases n <;> simpa [planOk] using hp
  cases n with
  | zero=>exact⟨hh,hr,h⟩
  | succ n=>exact⟨hh,fun _=>h,by rw[hr];simp⟩
 | take i p ih=>
  intro n listed e s hp hh h
  cases n with
  | zero=>cases hp
  | succ n=>
   simp only[planOk,Bool.and_eq_true] at hp
   obtain⟨⟨hr,hf⟩,hp⟩:=hp
   unfold xplan at h
   split at h
   ·exact h.elim
   ·rename_i o ho
    obtain⟨ht,hd,h⟩:=h
    exact AnyA.take ho n listed e s (Region.free_spec ho hf) (by simpa using hr) ht hd (ih n _ _ _ hp hh h)
 | one i p ih=>
  intro n listed e s hp hh h
  cases n with
  | zero=>cases hp
  | succ n=>
   simp only[planOk,Bool.and_eq_true,beq_iff_eq] at hp
   obtain⟨hr,hp⟩:=hp
   unfold xplan at h
   split at h
   ·exact h.elim
   ·rename_i o ho
    refine⟨hh,fun h0=>(by rw[hr] at h0;cases h0),fun j hj=>?_⟩
    rw[hr] at hj
    obtain rfl:j=i:=by simpa using hj
    exact⟨o,ho,xgo_mono h fun e' s' ⟨q1,q2⟩=>ih n _ _ _ hp q1 q2⟩
 | two i p j q ihp ihq=>
  intro n listed e s hp hh h
  cases n with
  | zero=>cases hp
  | succ n=>
   simp only[planOk,Bool.and_eq_true,beq_iff_eq] at hp
   obtain⟨⟨hr,hp⟩,hq⟩:=hp
   unfold xplan at h
   split at h
   ·rename_i o o' ho ho'
    refine⟨hh,fun h0=>(by rw[hr] at h0;cases h0),fun l hl=>?_⟩
    rw[hr] at hl
    rcases List.mem_cons.1 hl with rfl | hl
    ·exact⟨o,ho,xgo_mono h.1 fun e' s' ⟨q1,q2⟩=>ihp n _ _ _ hp q1 q2⟩
    ·obtain rfl:l=j:=by simpa using hl
     exact⟨o',ho',xgo_mono h.2 fun e' s' ⟨q1,q2⟩=>ihq n _ _ _ hq q1 q2⟩
   ·exact h.elim
theorem aw_draw {id:Nat} {ops:Array Oper} {m0:Nat} {e:Env} {s:St} {Q:Exit→Env→St→Prop} (p:Plan) (held:List Nat) (hm:P.follows .mixedOrders=true) (hp:planOk ops p ops.size (Array.replicate ops.size false)=true)
  (h:xplan P ops s held (Q .normal) p e s):AW P (.region id ops true) m0 e s Q:=by
 intro w0 kb k w a hk hs he
 exact wp_region_any hm (AnyA.sound _ (xplan_any p _ _ e s hp (heldEq_refl s held) h) hk (hs.drew _) he)
def idf:AV→Bool
 | .own .. | .ptr .. | .bp .. | .bq .. | .ob .. => false
 | .sl _ c | .slc _ _ _ c | .rf c | .ag c | .tp c | .fn _ c=>idfL c
 | .v _ | .no=>true
where idfL:List AV→Bool
 | []=>true
 | z::r=>idf z&&idfL r
theorem idfL_iff (l:List AV):idf.idfL l=true↔∀ z∈l,idf z=true:=by
 induction l with
 | nil=>simp [idf.idfL]
 | cons z l ih=>simp [idf.idfL,ih]
theorem rel_free {k k':KW} {z:AV} {u:Value} (h:Rel k z u) (hS:∀ a u,k.S a=some u→k'.S a=some u):idf z=true→Rel k' z u:=by
 induction h with
 | v x=>exact fun _=>.v x
 | sl n cap c a us hn h1 h2 ih=>exact fun hf=>.sl n cap c a us hn (fun j hj=>hS _ _ (h1 j hj)) (fun j z hz=>ih j z hz ((idfL_iff c).1 hf z (List.mem_of_getElem? hz)))
 | sl0 a cap=>exact fun _=>.sl0 a cap
 | slc n m sz cap c a us hn hm hl h1 h2 ih=>exact fun hf=>.slc n m sz cap c a us hn hm hl (fun j hj=>hS _ _ (h1 j hj)) (fun j z hz=>ih j z hz ((idfL_iff c).1 hf z (List.mem_of_getElem? hz)))
 | rf c a us h1 h2 ih=>exact fun hf=>.rf c a us (fun j hj=>hS _ _ (h1 j hj)) (fun j z hz=>ih j z hz ((idfL_iff c).1 hf z (List.mem_of_getElem? hz)))
 | own=>exact nofun
 | own0=>exact nofun
 | ptr=>exact nofun
 | bp0=>exact nofun
 | bp=>exact nofun
 | bq0=>exact nofun
 | bq=>exact nofun
 | ob0=>exact nofun
 | ob=>exact nofun
 | ag c us hl h ih=>exact fun hf=>.ag c us hl (fun j z u hz hu=>ih j z u hz hu ((idfL_iff c).1 hf z (List.mem_of_getElem? hz)))
 | fn f c us hl h ih=>exact fun hf=>.fn f c us hl (fun j z u hz hu=>ih j z u hz hu ((idfL_iff c).1 hf z (List.mem_of_getElem? hz)))
 | tp c us hl h ih=>exact fun hf=>.tp c us hl (fun j z u hz hu=>ih j z u hz hu ((idfL_iff c).1 hf z (List.mem_of_getElem? hz)))
 | no u=>exact fun _=>.no u
theorem rel_cut {k:KW} {z:AV} {u:Value} (h:Rel k z u):∀ {k':KW} {u':Value},Rel k' z u'→Rel ⟨k'.φ,k.m,k'.S,k'.tab⟩ z u':=by
 induction h with
 | v x=>intro k' u' g;cases g;exact .v _
 | sl n cap c a us hn h1 h2 ih=>
  intro k' u' g
  cases g with
  | sl _ cap' _ a' us' hn' g1 g2=>exact .sl _ _ _ _ us' hn' g1 (fun j z hz=>ih j z hz (g2 j z hz))
  | sl0 a cap=>exact .sl0 a cap
 | sl0 a cap=>
  intro k' u' g
  cases g with
  | sl _ cap' _ a' us' hn' g1 g2=>exact .sl _ _ _ _ us' hn' g1 (fun j z hz=>by simp at hz)
  | sl0 a cap=>exact .sl0 a cap
 | slc n m sz cap c a us hn hm hl h1 h2 ih=>
  intro k' u' g
  cases g with
  | slc _ _ _ cap' _ a' us' hn' hm' hl' g1 g2=>exact .slc _ _ _ _ _ _ us' hn' hm' hl' g1 (fun j z hz=>ih j z hz (g2 j z hz))
 | rf c a us h1 h2 ih=>
  intro k' u' g
  cases g with
  | rf _ a' us' g1 g2=>exact .rf _ _ us' g1 (fun j z hz=>ih j z hz (g2 j z hz))
 | own id off n sz cap hi hn hc=>
  intro k' u' g
  cases g with
  | own _ _ _ _ cap' hi' hn' hc'=>exact .own (k:=⟨k'.φ,k.m,k'.S,k'.tab⟩) id off _ sz cap' hi hn' hc'
  | own0 _ _ _ a hi' hc'=>exact .own0 (k:=⟨k'.φ,k.m,k'.S,k'.tab⟩) id off sz a hi hc'
 | own0 id off sz a hi hc=>
  intro k' u' g
  cases g with
  | own _ _ _ _ cap' hi' hn' hc'=>exact .own (k:=⟨k'.φ,k.m,k'.S,k'.tab⟩) id off _ sz cap' hi hn' hc'
  | own0 _ _ _ a hi' hc'=>exact .own0 (k:=⟨k'.φ,k.m,k'.S,k'.tab⟩) id off sz a hi hc'
 | ptr id off hi=>
  intro k' u' g
  cases g with
  | ptr _ _ hi'=>exact .ptr (k:=⟨k'.φ,k.m,k'.S,k'.tab⟩) id off hi
 | ag c us hl h ih=>
  intro k' u' g
  cases g with
  | ag _ us' hl' g=>exact .ag _ _ hl' (fun j z u hz hu=>by
    have hj:=(List.getElem?_eq_some_iff.1 hz).1
    exact ih j z _ hz (List.getElem?_eq_getElem (by omega)) (g j z u hz hu))
 | fn f c us hl h ih=>
  intro k' u' g
  cases g with
  | fn _ _ us' hl' g=>exact .fn _ _ _ hl' (fun j z u hz hu=>by
    have hj:=(List.getElem?_eq_some_iff.1 hz).1
    exact ih j z _ hz (List.getElem?_eq_getElem (by omega)) (g j z u hz hu))
 | tp c us hl h ih=>
  intro k' u' g
  cases g with
  | tp _ us' hl' g=>exact .tp _ _ hl' (fun j z u hz hu=>by
    have hj:=(List.getElem?_eq_some_iff.1 hz).1
    exact ih j z _ hz (List.getElem?_eq_getElem (by omega)) (g j z u hz hu))
 | bp0 id T hi ht hc=>
  intro k' u' g
  cases g with
  | bp0 _ _ hi' ht' hc'=>exact .bp0 (k:=⟨k'.φ,k.m,k'.S,k'.tab⟩) id T hi ht' hc'
  | bp _ _ hi' ht' hc'=>exact .bp (k:=⟨k'.φ,k.m,k'.S,k'.tab⟩) id T hi ht' hc'
 | bp id T hi ht hc=>
  intro k' u' g
  cases g with
  | bp0 _ _ hi' ht' hc'=>exact .bp0 (k:=⟨k'.φ,k.m,k'.S,k'.tab⟩) id T hi ht' hc'
  | bp _ _ hi' ht' hc'=>exact .bp (k:=⟨k'.φ,k.m,k'.S,k'.tab⟩) id T hi ht' hc'
 | bq0 id T hi hc=>
  intro k' u' g
  cases g with
  | bq0 _ _ hi' hc'=>exact .bq0 (k:=⟨k'.φ,k.m,k'.S,k'.tab⟩) id T hi hc'
  | bq _ _ hi' ht' h0'=>exact .bq (k:=⟨k'.φ,k.m,k'.S,k'.tab⟩) id T hi ht' h0'
 | bq id T hi ht h0=>
  intro k' u' g
  cases g with
  | bq0 _ _ hi' hc'=>exact .bq0 (k:=⟨k'.φ,k.m,k'.S,k'.tab⟩) id T hi hc'
  | bq _ _ hi' ht' h0'=>exact .bq (k:=⟨k'.φ,k.m,k'.S,k'.tab⟩) id T hi ht' h0'
 | ob0 id T hi hc=>
  intro k' u' g
  cases g with
  | ob0 _ _ hi' hc'=>exact .ob0 (k:=⟨k'.φ,k.m,k'.S,k'.tab⟩) id T hi hc'
  | ob _ _ _ cap' hi' ht' hn' hc' h0'=>exact .ob (k:=⟨k'.φ,k.m,k'.S,k'.tab⟩) id 0 T cap' hi ht' hn' hc' h0'
 | ob id n T cap hi ht hn hc h0=>
  intro k' u' g
  cases g with
  | ob0 _ _ hi' hc'=>exact .ob0 (k:=⟨k'.φ,k.m,k'.S,k'.tab⟩) id T hi hc'
  | ob _ _ _ cap' hi' ht' hn' hc' h0'=>exact .ob (k:=⟨k'.φ,k.m,k'.S,k'.tab⟩) id n T cap' hi ht' hn' hc' h0'
 | no u=>intro k' u' g;exact .no u'
def PCall (P:Program) (f:FuncId) (zs:List AV) (r:AV):Prop:=∀ s,ACall P f zs s fun r' s'=>r'=r∧s'=s
theorem acall_drop {f:FuncId} {zs:List AV} {s:St} {R:AV→Prop} (h:ACall P f zs s fun r s'=>R r∧idf r=true∧∀ i,i<s.nx→s'.get i=s.get i):ACall P f zs s fun r s'=>R r∧s'=s:=by
 refine⟨h.1,fun w0 k w vs hs hv=>(h.2 w0 k w vs hs hv).mono ?_⟩
 rintro en w' ⟨v,r,s',k',rfl,⟨hR,hf,hg⟩,hs',hr,hk⟩
 refine⟨v,r,s,⟨k'.φ,s.nx,k'.S,k'.tab⟩,rfl,⟨hR,rfl⟩,⟨rfl,hs'.fz,hs.lt,?_,?_,hs'.shp,hs.tz,?_,hs'.cov⟩,rel_free hr (fun _ _ h=>h) hf,⟨Nat.le_refl _,hk.2.1,hk.2.2⟩⟩
 ·intro i c hi
  have hlt:=hs.lt i c hi
  obtain⟨h1,h2⟩:=hs'.box i c ((hg i hlt).trans hi)
  obtain⟨o1,o2⟩:=hs.box i c hi
  refine⟨h1,fun j hj=>?_⟩
  obtain⟨u,q1,q2,q3,q4⟩:=h2 j hj
  refine⟨u,q1,q2,q3,fun z hz=>?_⟩
  obtain⟨u0,_,_,_,p4⟩:=o2 j (by
   have:=(List.getElem?_eq_some_iff.1 hz).1
   omega)
  have:=rel_cut (p4 z hz) (q4 z hz)
  rwa [hs.m] at this
 ·intro i j c d hi hj
  exact hs'.sep i j c d ((hg i (hs.lt i c hi)).trans hi) ((hg j (hs.lt j d hj)).trans hj)
 ·intro i c T hi hT
  exact hs'.ty i c T ((hg i (hs.lt i c hi)).trans hi) hT
def Le (z z':AV):Prop:=∀ k u,Rel k z u→Rel k z' u
theorem Le.refl (z:AV):Le z z:=fun _ _ h=>h
theorem Le.nil (n m:Nat) (h:n=0):Le (.v (.slice none n m)) (.sl 0 []):=fun k u hr=>by
 subst h
 rw[hr.v_eq]
 exact .sl0 _ _
theorem Le.ag {c d:List AV} (hl:d.length=c.length) (h:∀ (j:Nat) (x y:AV),c[j]?=some x→d[j]?=some y→Le x y):Le (.ag c) (.ag d):=fun k u hr=>by
 cases hr with
 | ag _ us hl' hr=>exact .ag _ us (by omega) (fun j z u hz hu=>by
   have hj:=(List.getElem?_eq_some_iff.1 hz).1
   have hc:c[j]?=some (c[j]'(by omega)):=List.getElem?_eq_getElem _
   exact h j _ z hc hz k u (hr j _ u hc hu))
theorem Le.tp {c d:List AV} (hl:d.length=c.length) (h:∀ (j:Nat) (x y:AV),c[j]?=some x→d[j]?=some y→Le x y):Le (.tp c) (.tp d):=fun k u hr=>by
 cases hr with
 | tp _ us hl' hr=>exact .tp _ us (by omega) (fun j z u hz hu=>by
   have hj:=(List.getElem?_eq_some_iff.1 hz).1
   have hc:c[j]?=some (c[j]'(by omega)):=List.getElem?_eq_getElem _
   exact h j _ z hc hz k u (hr j _ u hc hu))
theorem Le.two {a b a' b':AV} (ha:Le a a') (hb:Le b b'):Le (.ag [a,b]) (.ag [a',b']):=Le.ag rfl fun j x y hx hy=>by
 match j with
 | 0=>simp at hx hy;subst hx hy;exact ha
 | 1=>simp at hx hy;subst hx hy;exact hb
 | j+2=>simp at hx
theorem Le.twoT {a b a' b':AV} (ha:Le a a') (hb:Le b b'):Le (.tp [a,b]) (.tp [a',b']):=Le.tp rfl fun j x y hx hy=>by
 match j with
 | 0=>simp at hx hy;subst hx hy;exact ha
 | 1=>simp at hx hy;subst hx hy;exact hb
 | j+2=>simp at hx
theorem acall_le {f:FuncId} {zs:List AV} {s:St} {r:AV} {T:St→Prop} (h:ACall P f zs s fun r' s'=>Le r' r∧T s'):ACall P f zs s fun r' s'=>r'=r∧T s':=
 ⟨h.1,fun w0 k w vs hs hv=>(h.2 w0 k w vs hs hv).mono fun en w' ⟨v,r',s',k',h1,h2,h3,h4,h5⟩=>⟨v,r,s',k',h1,⟨rfl,h2.2⟩,h3,h2.1 _ _ h4,h5⟩⟩
theorem pcall_le {f:FuncId} {zs:List AV} {r:AV} (h:∀ s,ACall P f zs s fun r' s'=>Le r' r∧idf r=true∧∀ i,i<s.nx→s'.get i=s.get i):PCall P f zs r:=fun s=>by
 have:=acall_drop (P:=P) (f:=f) (zs:=zs) (s:=s) (R:=fun r'=>r'=r) ((acall_le (h s)).mono fun r' s' ⟨h1,h2,h3⟩=>⟨h1,by rw[h1];exact h2,h3⟩)
 exact this
theorem aw_nil {code:Code} {m0:Nat} {e:Env} {s:St} {Q:Exit→Env→St→Prop} (t sz:Nat) (hn:e.m t=.v (.slice none 0 0)) (ht:dstOk (some t) e.n=true) (h:AW P code m0 (e.put (some t) (.own s.nx 0 0 sz)) (s.push []) Q):AW P code m0 e s Q:=by
 intro w0 kb k w a hk hs he
 have hle:=k.push_le ⟨0,0,0,none⟩
 have hg:=hs.ghost
 refine h w0 kb _ w a (KW.le_trans hk (KW.le_mono hle hk.1)) hg ⟨he.d,he.n,fun t'=>?_⟩
 show Rel _ (if t=t' then AV.own s.nx 0 0 sz else e.m t') _
 by_cases e':t=t'
 ·subst e'
  rw[if_pos rfl]
  have hr:=he.r t
  rw[hn] at hr
  rw[hr.v_eq,←hs.m]
  exact .own0 _ _ _ _ (Nat.lt_succ_self _) (by rw[KW.push_same])
 ·rw[if_neg e']
  exact(he.r t').mono hle
theorem aw_nil_box {code:Code} {m0:Nat} {e:Env} {s:St} {Q:Exit→Env→St→Prop} (i j sz:Nat) (c:List AV) (hi:s.get i=some c) (hj:c[j]?=some (.v (.slice none 0 0))) (h:AW P code m0 e ((s.push []).set i (c.set j (.own s.nx 0 0 sz))) Q):AW P code m0 e s Q:=by
 intro w0 kb k w a hk hs he
 have hle:=k.push_le ⟨0,0,0,none⟩
 have hg:=hs.ghost
 have hlt:=hs.lt i c hi
 have hni:i≠s.nx:=Nat.ne_of_lt hlt
 refine h w0 kb _ w a (KW.le_trans hk (KW.le_mono hle hk.1)) ⟨hg.m,hg.fz,?_,?_,?_,hg.shp,hg.tz,?_,hg.cov⟩ (he.mono hle)
 ·intro q d hq
  by_cases e':q=i
  ·subst e';exact hg.lt q c (by rw[St.push_ne _ _ _ hni];exact hi)
  ·rw[St.set_ne _ _ _ _ e'] at hq;exact hg.lt q d hq
 ·intro q d hq
  by_cases e':q=i
  ·subst e'
   rw[St.set_same] at hq
   injection hq with hq
   subst hq
   obtain⟨h1,h2⟩:=hg.box q c (by rw[St.push_ne _ _ _ hni];exact hi)
   refine⟨by simpa using h1,fun x hx=>?_⟩
   obtain⟨u,q1,q2,q3,q4⟩:=h2 x hx
   refine⟨u,q1,q2,q3,fun z hz=>?_⟩
   rw[List.getElem?_set] at hz
   split at hz
   ·rename_i e2
    subst e2
    have hr:=q4 _ hj
    split at hz
    ·injection hz with hz
     subst hz
     rw[hr.v_eq,←hs.m]
     exact .own0 _ _ _ _ (Nat.lt_succ_self _) (by rw[KW.push_same])
    ·cases hz
   ·exact q4 z hz
  ·rw[St.set_ne _ _ _ _ e'] at hq;exact hg.box q d hq
 ·intro a b ca cb ha hb
  have alive:∀ q cq,((s.push []).set i (c.set j (.own s.nx 0 0 sz))).get q=some cq→∃ c',(s.push []).get q=some c':=fun q cq hq=>by
   by_cases e':q=i
   ·subst e';exact⟨c,by rw[St.push_ne _ _ _ hni];exact hi⟩
   ·rw[St.set_ne _ _ _ _ e'] at hq;exact⟨cq,hq⟩
  obtain⟨c1,h1⟩:=alive a ca ha
  obtain⟨c2,h2⟩:=alive b cb hb
  exact hg.sep a b c1 c2 h1 h2
 ·intro q d T hq hT
  by_cases e':q=i
  ·subst e';exact hg.ty q c T (by rw[St.push_ne _ _ _ hni];exact hi) hT
  ·rw[St.set_ne _ _ _ _ e'] at hq;exact hg.ty q d T hq hT
theorem pcall_of {f:FuncId} {zs:List AV} {r:AV} (h:∀ s,ACall P f zs s fun r' s'=>r'=r∧idf r=true∧∀ i,i<s.nx→s'.get i=s.get i):PCall P f zs r:=
 fun s=>acall_drop ((h s).mono fun r' s' ⟨h1,h2,h3⟩=>⟨h1,by rw[h1];exact h2,h3⟩)
theorem PCall.then {f:FuncId} {zs:List AV} {r:AV} (h:PCall P f zs r) {s:St} {R:AV→St→Prop} (hR:R r s):ACall P f zs s R:=(h s).mono fun r' s' ⟨h1,h2⟩=>by rw[h1,h2];exact hR
theorem pcall_lift {f:FuncId} {us:List Value} {v:Value} {r:AV} (hen:Enters P f) (hr:∀ k,Rel k r v) (h:∀ w,Calls P f us.toArray w fun en w'=>en=.returned v∧Below w.heap.size w w'):PCall P f (us.map .v) r:=by
 refine fun s=>⟨hen,fun w0 k w vs hs hv=>?_⟩
 have:vs=us:=by
  apply List.ext_getElem
  ·simpa using hv.1
  ·intro j h1 h2
   have:=hv.2 j (.v us[j]) vs[j] (by simp [h2]) (by simp [h1])
   exact this.v_eq
 subst this
 refine (h w).mono ?_
 rintro en w' ⟨rfl,hb⟩
 exact⟨v,r,s,k,rfl,⟨rfl,rfl⟩,hs.below hb,hr k,KW.le_refl (by rw[hs.m];exact Nat.le_refl _)⟩
theorem pcall_lift_tab {f:FuncId} {us:List Value} {v:Value} {r:AV} (hen:Enters P f) (hr:∀ k,Rel k r v) (h:∀ w,Tabs w.cell?→TabSize w→Calls P f us.toArray w fun en w'=>en=.returned v∧Below w.heap.size w w'):PCall P f (us.map .v) r:=by
 refine fun s=>⟨hen,fun w0 k w vs hs hv=>?_⟩
 have:vs=us:=by
  apply List.ext_getElem
  ·simpa using hv.1
  ·intro j h1 h2
   have:=hv.2 j (.v us[j]) vs[j] (by simp [h2]) (by simp [h1])
   exact this.v_eq
 subst this
 refine (h w (k.tab.mono hs.fz) (hs.shp.tz hs.tz)).mono ?_
 rintro en w' ⟨rfl,hb⟩
 exact⟨v,r,s,k,rfl,⟨rfl,rfl⟩,hs.below hb,hr k,KW.le_refl (by rw[hs.m];exact Nat.le_refl _)⟩
theorem calls_of_pcall {f:FuncId} {zs:List AV} {r:AV} (h:PCall P f zs r) (w:World) (ht:Tabs w.cell?) (hz:TabSize w) (vs:List Value) (hv:RelL ⟨fun _=>⟨0,0,0,none⟩,0,w.cell?,ht⟩ zs vs) :
  Calls P f vs.toArray w fun en w'=>∃ v k',en=.returned v∧Below w.heap.size w w'∧Rel k' r v:=by
 have hs:Sim w ⟨fun _=>⟨0,0,0,none⟩,0,w.cell?,ht⟩ w ⟨fun _=>none,0⟩:=⟨rfl,fun _ _ h=>h,fun i c hi=>(by cases hi),fun i c hi=>(by cases hi),fun i j c d hi=>(by cases hi),Shp.refl w,hz,fun i c T hi=>(by cases hi),fun _ _ h=>h⟩
 refine ((h _).2 w _ w vs hs hv).mono ?_
 rintro en w' ⟨v,r',s',k',rfl,⟨rfl,_⟩,hs',hr,hk⟩
 exact⟨v,k',rfl,hs'.shp.below fun a u ha=>hs'.fz a u (hk.2.2 a u ha),hr⟩
end Ax
namespace Ax
open Go Go.RowKit
def onO {α:Type} (o:Option α) (K:α→Prop):Prop:=match o with | some z=>K z | none=>False
theorem onO_some {α:Type} (z:α) (K:α→Prop):onO (some z) K=K z:=rfl
theorem onO_none {α:Type} (K:α→Prop):onO none K=False:=rfl
def onV (z:AV) (K:AV→Prop):Prop:=K z
theorem onV_eq (z:AV) (K:AV→Prop):onV z K=K z:=rfl
def Rest (P:Program) (ops:Array Oper) (r:List Oper) (K:Env→St→Prop) (e:Env) (s:St):Prop:=xops P ops r e s K
def K1 (K:Env→St→Prop) (e:Env) (d:Option Nat) (s:St) (z:AV):Prop:=K (e.put d z) s
def K2 (K:Env→St→Prop) (e:Env) (d:Option Nat) (z:AV × St):Prop:=K (e.put d z.1) z.2
def K3 (K:Env→St→Prop) (e:Env) (d:Option Nat) (s:St):Prop:=K (e.put d .no) s
def K4 (K:Env→St→Prop) (e:Env) (d:Option Nat) (s:St) (v:Value):Prop:=K (e.put d (.v v)) s
def KG (P:Program) (o:Oper) (e:Env) (s:St) (K:Env→St→Prop) (g:Bool):Prop:=if g then xstep P o e s K else dstOk o.dst e.n=true∧K (e.put o.dst (.v undef)) s
def KP (K:Env→St→Prop) (e:Env) (d:Option Nat) (s:St) (x y:Operand) (z:AV):Prop:=match z with | .v (.bool t)=>if t then onV (e.ev x) (K1 K e d s) else onV (e.ev y) (K1 K e d s) | _=>False
def KA (K:Env→St→Prop) (e:Env) (d:Option Nat) (s:St) (ti:TI):Prop:=K (e.put d (.ptr s.nx 0)) (s.push (ti.zero.map .v))
def KB (K:Env→St→Prop) (e:Env) (d:Option Nat) (s:St) (z:AV):Prop:=z.boxable=true∧K (e.put d (.ptr s.nx 0)) (s.push z.cells)
def KF (P:Program) (t:TypeId) (f:Nat) (K:Env→St→Prop) (e:Env) (d:Option Nat) (s:St) (z:AV):Prop:=match z with | .ag _=>False | z=>onO (xfield P t z f) (K1 K e d s)
def KD (P:Program) (t:TypeId) (f:Nat) (K:Env→St→Prop) (e:Env) (d:Option Nat) (s:St) (z:AV):Prop:=match z with | .ag c=>onO (xfield P t (.ag c) f) (K1 K e d s) | _=>False
def KN (K:Env→St→Prop) (e:Env) (d:Option Nat) (s:St) (z:AV):Prop:=match z with | .ptr id off=>K (e.put d (.ptr id off)) s | .rf c=>K (e.put d (.rf c)) s | _=>False
def KE (i:Nat) (K:Env→St→Prop) (e:Env) (d:Option Nat) (s:St) (z:AV):Prop:=match z with | .tp c=>onO (c[i]?) (K1 K e d s) | _=>False
def KI (P:Program) (t:TypeId) (K:Env→St→Prop) (e:Env) (d:Option Nat) (s:St) (z:AV):Prop:=match tiOf P t,z with | some ti,.v u=>(match ti.k with | .ifc=>False | _=>K (e.put d (.v (.iface t u))) s) | _,_=>False
def ContS (K:Env→St→Prop) (e:Env) (d:Option Nat) (r:AV) (s:St):Prop:=K (e.put d r) s
def gval (o:Option Tmp) (e:Env) (want:Bool):Option Bool:=match o with | some t=>(match e.m t with | .v (.bool b)=>some (b==want) | .v (.tuple _)=>some false | _=>none) | none=>none
def xbuild (P:Program) (t:TypeId) (qs:List (Nat × AV)):Option AV:=
 match tiOf P t with
 | some ti=>match ti.k with
  | .st fs=>match fs.mapM (fun f=>(tiOf P f.2).map fun fi=>(f.1,fi.size)) with
   | some places=>(fillA (places[·]?) (ti.zero.map .v) qs).map .ag
   | none=>none
  | .ar _ el=>match tiOf P el with
   | some ei=>(fillA (fun i=>some (i*ei.size,ei.size)) (ti.zero.map .v) qs).map .ag
   | none=>none
  | _=>none
 | none=>none
@[congr] theorem onO_congr {α:Type} {o o':Option α} {K:α→Prop} (h:o=o'):onO o K=onO o' K:=by rw[h]
@[congr] theorem onV_congr {z z':AV} {K:AV→Prop} (h:z=z'):onV z K=onV z' K:=by rw[h]
def noM (t:Nat):AV:=.no
theorem num0:num []=noM:=by funext t;rfl
theorem num1 (a:AV):num [a]=upd noM 0 a:=by
 funext t
 match t with
 | 0=>rfl
 | t+1=>rfl
theorem num2 (a b:AV):num [a,b]=upd (upd noM 0 a) 1 b:=by
 funext t
 match t with
 | 0=>rfl
 | 1=>rfl
 | t+2=>rfl
theorem num3 (a b c:AV):num [a,b,c]=upd (upd (upd noM 0 a) 1 b) 2 c:=by
 funext t
 match t with
 | 0=>rfl
 | 1=>rfl
 | 2=>rfl
 | t+3=>rfl
theorem num4 (a b c d:AV):num [a,b,c,d]=upd (upd (upd (upd noM 0 a) 1 b) 2 c) 3 d:=by
 funext t
 match t with
 | 0=>rfl
 | 1=>rfl
 | 2=>rfl
 | 3=>rfl
 | t+4=>rfl
theorem wrap_in_i64 (x:Int) (h : -9223372036854775808≤x) (h':x≤9223372036854775807):IntKind.i64.wrap x=x:=by
 rw[IntKind.wrap_i64];omega
theorem wrap_u64 (x:Int):IntKind.u64.wrap x=x % 18446744073709551616:=by
 simp [IntKind.wrap,IntKind.signed,IntKind.bits]
theorem wrap_u32 (x:Int):IntKind.u32.wrap x=x % 4294967296:=by
 simp [IntKind.wrap,IntKind.signed,IntKind.bits]
theorem wrap_u16 (x:Int):IntKind.u16.wrap x=x % 65536:=by
 simp [IntKind.wrap,IntKind.signed,IntKind.bits]
theorem wrap_u8 (x:Int):IntKind.u8.wrap x=x % 256:=by
 simp [IntKind.wrap,IntKind.signed,IntKind.bits]
theorem wrap_in_u64 (x:Int) (h:0≤x) (h':x≤18446744073709551615):IntKind.u64.wrap x=x:=by rw[wrap_u64];omega
theorem wrap_in_u32 (x:Int) (h:0≤x) (h':x≤4294967295):IntKind.u32.wrap x=x:=by rw[wrap_u32];omega
theorem wrap_in_u16 (x:Int) (h:0≤x) (h':x≤65535):IntKind.u16.wrap x=x:=by rw[wrap_u16];omega
theorem wrap_in_u8 (x:Int) (h:0≤x) (h':x≤255):IntKind.u8.wrap x=x:=by rw[wrap_u8];omega
theorem tdiv_in (x y:Int) (h:0≤x):x.tdiv y=x / y:=Int.tdiv_eq_ediv_of_nonneg h
theorem tmod_in (x y:Int) (h:0≤x):x.tmod y=x % y:=Int.tmod_eq_emod_of_nonneg h
theorem beq_pos (x y:Int) (h:x=y):(x==y)=true:=beq_iff_eq.2 h
theorem beq_neg (x y:Int) (h:¬x=y):(x==y)=false:=beq_eq_false_iff_ne.2 h
theorem bne_pos (x y:Int) (h:¬x=y):(x != y)=true:=bne_iff_ne.2 h
theorem bne_neg (x y:Int) (h:x=y):(x != y)=false:=by rw[h];simp
theorem dec_pos (p:Prop) [Decidable p] (h:p):decide p=true:=decide_eq_true h
theorem dec_neg (p:Prop) [Decidable p] (h:¬p):decide p=false:=decide_eq_false h
section
variable {P:Program} {d:Option Nat} {ty:TypeId} {pos:String} {af:Array Edge} {g:Option (Nat × Bool)} {e:Env} {s:St} {K:Env→St→Prop}
theorem st_alloc (t:TypeId):xstep P ⟨d,.alloc t,ty,pos,af,g⟩ e s K=(dstOk d e.n=true∧onO (tiOf P t) (KA K e d s)):=by
 unfold xstep xop
 simp only[calleeOf]
 congr 1
 cases tiOf P t <;> rfl
theorem st_load (t:TypeId) (x:Operand):xstep P ⟨d,.load t x,ty,pos,af,g⟩ e s K=(dstOk d e.n=true∧onO (xload P s t (e.ev x)) (K1 K e d s)):=by
 unfold xstep xop
 simp only[calleeOf]
 congr 1
 cases xload P s t (e.ev x) <;> rfl
theorem st_store (t:TypeId) (p x:Operand):xstep P ⟨d,.store t p x,ty,pos,af,g⟩ e s K=(dstOk d e.n=true∧onO (xstore P s t (e.ev p) (e.ev x)) (K3 K e d)):=by
 unfold xstep xop
 simp only[calleeOf]
 congr 1
 cases xstore P s t (e.ev p) (e.ev x) <;> rfl
theorem st_bin (op:BinOp) (t u:TypeId) (x y:Operand):xstep P ⟨d,.binOp op t x y u,ty,pos,af,g⟩ e s K=(dstOk d e.n=true∧onO (xbin P op t (isK x) (isK y) (e.ev x) (e.ev y)) (K4 K e d s)):=by
 unfold xstep xop
 simp only[calleeOf]
 congr 1
 cases xbin P op t (isK x) (isK y) (e.ev x) (e.ev y) <;> rfl
theorem st_un (op:UnOp) (t:TypeId) (x:Operand):xstep P ⟨d,.unOp op t x,ty,pos,af,g⟩ e s K=(dstOk d e.n=true∧onO (xun op (e.ev x)) (K1 K e d s)):=by
 unfold xstep xop
 simp only[calleeOf]
 congr 1
 cases xun op (e.ev x) <;> rfl
theorem st_conv (t u:TypeId) (x:Operand):xstep P ⟨d,.convert t u x,ty,pos,af,g⟩ e s K=(dstOk d e.n=true∧onO (xconv P s t u (e.ev x)) (K1 K e d s)):=by
 unfold xstep xop
 simp only[calleeOf]
 congr 1
 cases xconv P s t u (e.ev x) <;> rfl
theorem st_slice (t:TypeId) (x:Operand) (lo hi:Option Operand):xstep P ⟨d,.slice t x lo hi none,ty,pos,af,g⟩ e s K=(dstOk d e.n=true∧onO (xslice P t (e.ev x) (lo.map e.ev) (hi.map e.ev)) (K1 K e d s)):=by
 unfold xstep xop
 simp only[calleeOf]
 congr 1
 cases xslice P t (e.ev x) (lo.map e.ev) (hi.map e.ev) <;> rfl
theorem st_indexAddr (t:TypeId) (x i:Operand):xstep P ⟨d,.indexAddr t x i,ty,pos,af,g⟩ e s K=(dstOk d e.n=true∧onO (xindexAddr P t (e.ev x) (e.ev i)) (K1 K e d s)):=by
 unfold xstep xop
 simp only[calleeOf]
 congr 1
 cases xindexAddr P t (e.ev x) (e.ev i) <;> rfl
theorem st_index (t:TypeId) (x i:Operand):xstep P ⟨d,.index t x i,ty,pos,af,g⟩ e s K=(dstOk d e.n=true∧onO (xindex P t (e.ev x) (e.ev i)) (K1 K e d s)):=by
 unfold xstep xop
 simp only[calleeOf]
 congr 1
 cases xindex P t (e.ev x) (e.ev i) <;> rfl
theorem st_make (t:TypeId) (l c:Operand):xstep P ⟨d,.makeSlice t l c,ty,pos,af,g⟩ e s K=(dstOk d e.n=true∧onO (xmake P s t (e.ev l) (e.ev c)) (K2 K e d)):=by
 unfold xstep xop
 simp only[calleeOf]
 congr 1
 cases xmake P s t (e.ev l) (e.ev c) <;> rfl
theorem st_buildSlice (t:TypeId) (n:Nat) (ps:Array (Nat × Operand)):xstep P ⟨d,.buildSlice t n ps,ty,pos,af,g⟩ e s K=(dstOk d e.n=true∧onO (xbuildSlice P s t n (ps.toList.map fun p=>(p.1,e.ev p.2))) (K2 K e d)):=by
 unfold xstep xop
 simp only[calleeOf]
 congr 1
 cases xbuildSlice P s t n (ps.toList.map fun p=>(p.1,e.ev p.2)) <;> rfl
theorem st_builtin (b:Builtin) (xs:Array Operand) (ts:Array TypeId):xstep P ⟨d,.call ⟨.builtin b,xs,ts⟩,ty,pos,af,g⟩ e s K=(dstOk d e.n=true∧onO (xbuiltin P s b (xs.toList.map e.ev) ts.toList) (K2 K e d)):=by
 unfold xstep xop
 simp only[calleeOf]
 congr 1
 cases xbuiltin P s b (xs.toList.map e.ev) ts.toList <;> rfl
theorem st_move (x:Operand):xstep P ⟨d,.move x,ty,pos,af,g⟩ e s K=(dstOk d e.n=true∧onV (e.ev x) (K1 K e d s)):=rfl
theorem st_assign (x:Operand):xstep P ⟨d,.assign x,ty,pos,af,g⟩ e s K=(dstOk d e.n=true∧onV (e.ev x) (K1 K e d s)):=rfl
theorem st_pick (c x y:Operand):xstep P ⟨d,.pick c x y,ty,pos,af,g⟩ e s K=(dstOk d e.n=true∧onV (e.ev c) (KP K e d s x y)):=by
 unfold xstep xop
 simp only[calleeOf]
 congr 1
 unfold onV
 generalize e.ev c=z
 cases z with
 | v u=>
  cases u with
  | bool t=>cases t <;> rfl
  | _=>rfl
 | _=>rfl
theorem st_box (t:TypeId) (x:Operand):xstep P ⟨d,.box t x,ty,pos,af,g⟩ e s K=(dstOk d e.n=true∧onV (e.ev x) (KB K e d s)):=by
 unfold xstep xop
 simp only[calleeOf]
 congr 1
 unfold onV
 generalize e.ev x=z
 unfold KB
 by_cases h:z.boxable=true <;> simp [h]
theorem st_fieldAddr (t:TypeId) (x:Operand) (f:Nat):xstep P ⟨d,.fieldAddr t x f,ty,pos,af,g⟩ e s K=(dstOk d e.n=true∧onV (e.ev x) (KF P t f K e d s)):=by
 unfold xstep xop
 simp only[calleeOf]
 congr 1
 unfold onV
 generalize e.ev x=z
 unfold KF
 cases z <;> simp only <;> first | rfl | (generalize xfield P t _ f=o;cases o <;> rfl)
theorem st_field (t:TypeId) (x:Operand) (f:Nat):xstep P ⟨d,.field t x f,ty,pos,af,g⟩ e s K=(dstOk d e.n=true∧onV (e.ev x) (KD P t f K e d s)):=by
 unfold xstep xop
 simp only[calleeOf]
 congr 1
 unfold onV
 generalize e.ev x=z
 unfold KD
 cases z <;> simp only <;> first | rfl | (generalize xfield P t _ f=o;cases o <;> rfl)
theorem st_nilCheck (x:Operand):xstep P ⟨d,.nilCheck x,ty,pos,af,g⟩ e s K=(dstOk d e.n=true∧onV (e.ev x) (KN K e d s)):=by
 unfold xstep xop
 simp only[calleeOf]
 congr 1
 unfold onV
 generalize e.ev x=z
 cases z <;> rfl
theorem st_extract (x:Operand) (i:Nat):xstep P ⟨d,.extract x i,ty,pos,af,g⟩ e s K=(dstOk d e.n=true∧onV (e.ev x) (KE i K e d s)):=by
 unfold xstep xop
 simp only[calleeOf]
 congr 1
 unfold onV
 generalize e.ev x=z
 unfold KE
 cases z with
 | tp c=>simp only;generalize c[i]?=o;cases o <;> rfl
 | _=>rfl
theorem st_iface (t:TypeId) (x:Operand):xstep P ⟨d,.makeInterface t x,ty,pos,af,g⟩ e s K=(dstOk d e.n=true∧onV (e.ev x) (KI P t K e d s)):=by
 unfold xstep xop
 simp only[calleeOf]
 congr 1
 unfold onV
 generalize e.ev x=z
 unfold KI
 generalize tiOf P t=o
 cases o with
 | none=>rfl
 | some ti=>
  cases z with
  | v u=>simp only;generalize ti.k=q;cases q <;> rfl
  | _=>rfl
theorem st_build (t:TypeId) (ps:Array (Nat × Operand)):xstep P ⟨d,.build t ps,ty,pos,af,g⟩ e s K=(dstOk d e.n=true∧onO (xbuild P t (ps.toList.map fun p=>(p.1,e.ev p.2))) (K1 K e d s)):=by
 unfold xstep xop xbuild
 simp only[calleeOf]
 congr 1
 cases tiOf P t with
 | none=>rfl
 | some ti=>
  simp only
  cases ti.k with
  | st fs=>
   simp only
   cases fs.mapM (fun f=>(tiOf P f.2).map fun fi=>(f.1,fi.size)) with
   | none=>rfl
   | some places=>
    simp only
    cases fillA (places[·]?) (ti.zero.map .v) (ps.toList.map fun p=>(p.1,e.ev p.2)) <;> rfl
  | ar n el=>
   simp only
   cases tiOf P el with
   | none=>rfl
   | some ei=>
    simp only
    cases fillA (fun i=>some (i*ei.size,ei.size)) (ti.zero.map .v) (ps.toList.map fun p=>(p.1,e.ev p.2)) <;> rfl
  | _=>rfl
theorem st_call (f:FuncId) (xs:Array Operand) (ts:Array TypeId):xstep P ⟨d,.call ⟨.value (.func f),xs,ts⟩,ty,pos,af,g⟩ e s K=(dstOk d e.n=true∧ACall P f (xs.toList.map e.ev) s (ContS K e d)):=by
 unfold xstep ContS
 simp [calleeOf,Env.ev]
theorem st_func (f:FuncId) (cap:Array Operand):xstep P ⟨d,.makeFunc (.func f) #[] cap,ty,pos,af,g⟩ e s K=(dstOk d e.n=true∧K (e.put d (.fn f (cap.toList.map e.ev))) s):=by
 unfold xstep xop
 simp [calleeOf]
def KC (P:Program) (xs:Array Operand) (K:Env→St→Prop) (e:Env) (d:Option Nat) (s:St) (z:AV):Prop:=match z with
 | .fn f c=>ACall P f (xs.toList.map e.ev++c) s (ContS K e d)
 | .v (.func (.func f) fst cap)=>ACall P f (fst.toList.map .v++xs.toList.map e.ev++cap.toList.map .v) s (ContS K e d)
 | _=>False
theorem st_dyn (t:Nat) (xs:Array Operand) (ts:Array TypeId):xstep P ⟨d,.call ⟨.value (.tmp t),xs,ts⟩,ty,pos,af,g⟩ e s K=(dstOk d e.n=true∧onV (e.ev (.tmp t)) (KC P xs K e d s)):=by
 unfold xstep onV KC ContS
 simp only[calleeOf,xop]
 congr 1
 generalize e.ev (.tmp t)=z
 cases z with
 | v x=>
  cases x with
  | func fn a b=>cases fn <;> rfl
  | _=>rfl
 | _=>rfl
theorem kc_fn (f:FuncId) (c:List AV) (xs:Array Operand):KC P xs K e d s (.fn f c)=ACall P f (xs.toList.map e.ev++c) s (ContS K e d):=rfl
theorem kc_v (f:FuncId) (xs:Array Operand):KC P xs K e d s (.v (.func (.func f) #[] #[]))=ACall P f (xs.toList.map e.ev) s (ContS K e d):=by simp [KC]
theorem go_plain {ops:Array Oper} (op:Op):xgo P ops ⟨d,op,ty,pos,af,none⟩ e s K=xstep P ⟨d,op,ty,pos,af,none⟩ e s K:=by
 unfold xgo xguard
 simp
theorem go_guard {ops:Array Oper} (op:Op) (j:Nat) (want:Bool):xgo P ops ⟨d,op,ty,pos,af,some (j,want)⟩ e s K=onO (gval ((ops[j]?).bind (·.dst)) e want) (KG P ⟨d,op,ty,pos,af,some (j,want)⟩ e s K):=by
 unfold xgo onO KG
 have:xguard ops ⟨d,op,ty,pos,af,some (j,want)⟩ e=gval ((ops[j]?).bind (·.dst)) e want:=rfl
 rw[this]
 generalize gval ((ops[j]?).bind (·.dst)) e want=q
 cases q with
 | none=>rfl
 | some b=>cases b <;> simp
theorem ops_nil {ops:Array Oper} (d':Option Nat) (z:AV):xops P ops [] (e.put d' z) s K=K (e.put d' z) s:=rfl
theorem ops_cons {ops:Array Oper} (o:Oper) (r:List Oper) (d':Option Nat) (z:AV):xops P ops (o::r) (e.put d' z) s K=xgo P ops o (e.put d' z) s (Rest P ops r K):=rfl
theorem rest_go {ops:Array Oper} (r:List Oper) (d':Option Nat) (z:AV):Rest P ops r K (e.put d' z) s=xops P ops r (e.put d' z) s K:=rfl
theorem k1_go (z:AV):K1 K e d s z=K (e.put d z) s:=rfl
theorem k2_go (z:AV):K2 K e d (z,s)=K (e.put d z) s:=rfl
theorem k3_go  : K3 K e d s=K (e.put d .no) s:=rfl
theorem k4_go (v:Value):K4 K e d s v=K (e.put d (.v v)) s:=rfl
theorem kg_true (o:Oper):KG P o e s K true=xstep P o e s K:=rfl
theorem kg_false (op:Op):KG P ⟨d,op,ty,pos,af,g⟩ e s K false=(dstOk d e.n=true∧K (e.put d (.v undef)) s):=by unfold KG;simp
theorem kp_true (x y:Operand):KP K e d s x y (.v (.bool true))=onV (e.ev x) (K1 K e d s):=rfl
theorem kp_false (x y:Operand):KP K e d s x y (.v (.bool false))=onV (e.ev y) (K1 K e d s):=rfl
theorem ka_go (q:Go.Proofs.YtdaeancgockacaaGreatDoor.Ax.K) (n m:Nat) (l:List Value):KA K e d s ⟨q,n,m,l⟩=K (e.put d (.ptr s.nx 0)) (s.push (l.map .v)):=rfl
theorem kb_go (z:AV):KB K e d s z=(z.boxable=true∧K (e.put d (.ptr s.nx 0)) (s.push z.cells)):=rfl
theorem kf_rf (t:TypeId) (f:Nat) (c:List AV):KF P t f K e d s (.rf c)=onO (xfield P t (.rf c) f) (K1 K e d s):=rfl
theorem kf_ptr (t:TypeId) (f:Nat) (id off:Nat):KF P t f K e d s (.ptr id off)=onO (xfield P t (.ptr id off) f) (K1 K e d s):=rfl
theorem kd_ag (t:TypeId) (f:Nat) (c:List AV):KD P t f K e d s (.ag c)=onO (xfield P t (.ag c) f) (K1 K e d s):=rfl
theorem kn_rf (c:List AV):KN K e d s (.rf c)=K (e.put d (.rf c)) s:=rfl
theorem kn_ptr (id off:Nat):KN K e d s (.ptr id off)=K (e.put d (.ptr id off)) s:=rfl
theorem ke_tp (i:Nat) (c:List AV):KE i K e d s (.tp c)=onO (c[i]?) (K1 K e d s):=rfl
end
theorem hd_int (f:Int→AV) (xs:List Int) (i:Nat) (h:i<xs.length):((xs.map f).drop i).head?=some (f (xs.getD i 0)):=by
 rw[List.head?_drop,List.getElem?_map,List.getElem?_eq_getElem h,List.getD_eq_getElem?_getD,List.getElem?_eq_getElem h];rfl
theorem hd_nat (f:Nat→AV) (xs:List Nat) (i:Nat) (h:i<xs.length):((xs.map f).drop i).head?=some (f (xs.getD i 0)):=by
 rw[List.head?_drop,List.getElem?_map,List.getElem?_eq_getElem h,List.getD_eq_getElem?_getD,List.getElem?_eq_getElem h];rfl
theorem toNat_pred (n:Nat):((n:Int)-1).toNat=n-1:=by omega
theorem toNat_succ (n:Nat):((n:Int)+1).toNat=n+1:=by omega
theorem toNat_nat (n:Nat):(n:Int).toNat=n:=by omega
theorem bb_true (b:Bool):(b==true)=b:=by cases b <;> rfl
theorem bb_false (b:Bool):(b==false)=!b:=by cases b <;> rfl
theorem nx_push (s:St) (c:List AV):(s.push c).nx=s.nx+1:=rfl
theorem nx_set (s:St) (i:Nat) (c:List AV):(s.set i c).nx=s.nx:=rfl
theorem nx_kill (s:St) (i:Nat):(s.kill i).nx=s.nx:=rfl
theorem acall_frz {P:Program} {f:FuncId} {zs:List AV} {s:St} {R:AV→St→Prop} (i:Nat) (c:List AV) (hi:s.get i=some c) (g:Nat→Bool) (h:ACall P f (zs.map (frz i c)) (s.frz i c g) R):ACall P f zs s R:=by
 refine⟨h.1,fun w0 k w vs hs hv=>?_⟩
 obtain⟨k',h1,h2,h3,h4,h5,_⟩:=sim_frz hs hi g
 refine (h.2 w0 k' w vs h4 ⟨by rw[List.length_map];exact hv.1,fun j z u hz hu=>?_⟩).mono ?_
 ·rw[List.getElem?_map] at hz
  cases hj:zs[j]? with
  | none=>rw[hj] at hz;cases hz
  | some y=>
   rw[hj] at hz
   injection hz with hz
   subst hz
   exact h5 _ _ (hv.2 j y u hj hu)
 ·rintro en w' ⟨v,r,s',k'',q1,q2,q3,q4,q5⟩
  exact⟨v,r,s',k'',q1,q2,q3,q4,q5.1,fun j hj=>by rw[q5.2.1 j hj,h1],fun a u ha=>q5.2.2 a u (h3 a u ha)⟩
theorem idf_v (x:Value):idf (.v x)=true:=rfl
theorem idf_sl (n:Nat) (c:List AV):idf (.sl n c)=idf.idfL c:=rfl
theorem idf_rf (c:List AV):idf (.rf c)=idf.idfL c:=rfl
theorem idf_ag (c:List AV):idf (.ag c)=idf.idfL c:=rfl
theorem idf_tp (c:List AV):idf (.tp c)=idf.idfL c:=rfl
theorem idfL_nil:idf.idfL []=true:=rfl
theorem idfL_cons (z:AV) (l:List AV):idf.idfL (z::l)=(idf z&&idf.idfL l):=rfl
theorem idfL_mapv {α:Type} (f:α→Value) (l:List α):idf.idfL (l.map fun x=>.v (f x))=true:=by
 rw[idfL_iff]
 intro z hz
 obtain⟨x,_,rfl⟩:=List.mem_map.1 hz
 rfl
theorem one_mapi {α:Type} (k:IntKind) (f:α→Int) (l:List α):(l.map fun x=>AV.v (.int k (f x))).all AV.one=true:=by
 rw[List.all_eq_true]
 intro z hz
 obtain⟨x,_,rfl⟩:=List.mem_map.1 hz
 rfl
theorem len_map {α β:Type} (f:α→β) (l:List α):(l.map f).length=l.length:=List.length_map _
theorem frz_own (i:Nat) (c:List AV) (off n sz:Nat):frz i c (.own i off n sz)=.sl n ((c.drop off).take (n*sz)):=by rw[frz,if_pos rfl]
theorem frz_ptr (i:Nat) (c:List AV) (off:Nat):frz i c (.ptr i off)=.rf (c.drop off):=by rw[frz,if_pos rfl]
theorem frz_own_ne (i j:Nat) (c:List AV) (off n sz:Nat) (h:¬j=i):frz i c (.own j off n sz)=.own j off n sz:=by rw[frz,if_neg h]
theorem frz_ptr_ne (i j:Nat) (c:List AV) (off:Nat) (h:¬j=i):frz i c (.ptr j off)=.ptr j off:=by rw[frz,if_neg h]
theorem frz_v (i:Nat) (c:List AV) (x:Value):frz i c (.v x)=.v x:=rfl
theorem frz_no (i:Nat) (c:List AV):frz i c .no=.no:=rfl
theorem frzL_nil (i:Nat) (c:List AV):frz.frzL i c []=[]:=rfl
theorem frzL_cons (i:Nat) (c:List AV) (z:AV) (l:List AV):frz.frzL i c (z::l)=frz i c z::frz.frzL i c l:=rfl
theorem frz_idf (i:Nat) (c:List AV):∀ (z:AV),idf z=true→frz i c z=z
 | .v _,_=>rfl
 | .no,_=>rfl
 | .own ..,h=>by cases h
 | .ptr ..,h=>by cases h
 | .sl n l,h=>by rw[frz,frzL_idf i c l h]
 | .slc n m sz l,h=>by rw[frz,frzL_idf i c l h]
 | .rf l,h=>by rw[frz,frzL_idf i c l h]
 | .ag l,h=>by rw[frz,frzL_idf i c l h]
 | .tp l,h=>by rw[frz,frzL_idf i c l h]
 | .fn f l,h=>by rw[frz,frzL_idf i c l h]
where frzL_idf (i:Nat) (c:List AV):∀ (l:List AV),idf.idfL l=true→frz.frzL i c l=l
 | [],_=>rfl
 | z::l,h=>by
  rw[idfL_cons,Bool.and_eq_true] at h
  rw[frz.frzL,frz_idf i c z h.1,frzL_idf i c l h.2]
theorem frz_e (e:Env) (i:Nat) (c:List AV) (t:Nat):(e.frz i c).m t=frz i c (e.m t):=rfl
theorem frz_n (e:Env) (i:Nat) (c:List AV):(e.frz i c).n=e.n:=rfl
theorem frz_get (s:St) (i:Nat) (c:List AV) (g:Nat→Bool) (j:Nat):(s.frz i c g).get j=if j=i then none else if g j then (s.get j).map (frz.frzL i c) else s.get j:=rfl
theorem frz_nx (s:St) (i:Nat) (c:List AV) (g:Nat→Bool):(s.frz i c g).nx=s.nx:=rfl
theorem take_map_len {α:Type} (f:α→AV) (l:List α) (n:Nat) (h:l.length=n):(l.map f).take n=l.map f:=List.take_of_length_le (by rw[List.length_map];omega)
theorem upd_at (m:Nat→AV) (i:Nat) (z:AV) (t:Nat):upd m i z t=if i=t then z else m t:=rfl
theorem noM_at (t:Nat):noM t=.no:=rfl
theorem ev_tmp (e:Env) (t:Nat):e.ev (.tmp t)=e.m t:=rfl
theorem ev_const (e:Env) (v:Value):e.ev (.const v)=.v v:=rfl
theorem ev_func (e:Env) (f:FuncId):e.ev (.func f)=.v (.func (.func f) #[] #[]):=rfl
theorem ev_global (e:Env) (g:Nat):e.ev (.global g)=.v (.pointer (some ⟨g,0,none⟩)):=rfl
theorem dst_none (n:Nat):dstOk none n=true:=rfl
theorem dst_some (t n:Nat):dstOk (some t) n=decide (t<n):=rfl
theorem then_normal (P:Program) (y:Code) (m0:Nat) (Q:Exit→Env→St→Prop) (e:Env) (s:St):andThen P y m0 Q .normal e s=AW P y m0 e s Q:=rfl
theorem then_exit (P:Program) (y:Code) (m0:Nat) (Q:Exit→Env→St→Prop) (i:Nat) (e:Env) (s:St):andThen P y m0 Q (.exit i) e s=Q (.exit i) e s:=rfl
theorem then_ret (P:Program) (y:Code) (m0:Nat) (Q:Exit→Env→St→Prop) (e:Env) (s:St):andThen P y m0 Q .ret e s=Q .ret e s:=rfl
theorem block_normal (id:Nat) (Q:Exit→Env→St→Prop) (e:Env) (s:St):inBlock id Q .normal e s=Q .normal e s:=rfl
theorem block_ret (id:Nat) (Q:Exit→Env→St→Prop) (e:Env) (s:St):inBlock id Q .ret e s=Q .ret e s:=rfl
theorem block_exit (id i:Nat) (Q:Exit→Env→St→Prop) (e:Env) (s:St):inBlock id Q (.exit i) e s=if i=id then Q .normal e s else Q (.exit i) e s:=rfl
theorem loop_normal (I:Nat→Env→St→Prop) (n:Nat) (Q:Exit→Env→St→Prop) (e:Env) (s:St):inLoop I n Q .normal e s=∃ n',n'<n∧I n' e s:=rfl
theorem loop_ret (I:Nat→Env→St→Prop) (n:Nat) (Q:Exit→Env→St→Prop) (e:Env) (s:St):inLoop I n Q .ret e s=Q .ret e s:=rfl
theorem loop_exit (I:Nat→Env→St→Prop) (n:Nat) (Q:Exit→Env→St→Prop) (i:Nat) (e:Env) (s:St):inLoop I n Q (.exit i) e s=Q (.exit i) e s:=rfl
theorem post_normal (P:Program) (rs:List ResultVar) (R:AV→St→Prop) (e:Env) (s:St):fpost P rs R .normal e s=onO (resA P e s rs) fun l=>R (retA l) s:=by unfold fpost onO;simp only;cases resA P e s rs <;> rfl
theorem post_ret (P:Program) (rs:List ResultVar) (R:AV→St→Prop) (e:Env) (s:St):fpost P rs R .ret e s=onO (resA P e s rs) fun l=>R (retA l) s:=by unfold fpost onO;simp only;cases resA P e s rs <;> rfl
theorem push_get (s:St) (c:List AV) (j:Nat):(s.push c).get j=if j=s.nx then some c else s.get j:=rfl
theorem set_get (s:St) (i:Nat) (c:List AV) (j:Nat):(s.set i c).get j=if j=i then some c else s.get j:=rfl
theorem kill_get (s:St) (i:Nat) (j:Nat):(s.kill i).get j=if j=i then none else s.get j:=rfl
theorem put_m (e:Env) (t:Nat) (z:AV) (t':Nat):(e.put (some t) z).m t'=if t=t' then z else e.m t':=rfl
theorem put_m0 (e:Env) (z:AV) (t':Nat):(e.put none z).m t'=e.m t':=rfl
theorem put_n (e:Env) (d:Option Nat) (z:AV):(e.put d z).n=e.n:=Env.put_n e d z
theorem aw_reg {P:Program} {m0:Nat} {e:Env} {s:St} {Q:Exit→Env→St→Prop} {id:Nat} {l:List Oper} (h:∀ K:Env→St→Prop,(∀ e s,Q .normal e s→K e s)→xops P l.toArray l (e.put none .no) s K):AW P (.region id l.toArray false) m0 e s Q:=
 aw_region (h _ fun _ _ h=>h)
theorem cont_go {P:Program} {f:FuncId} {zs:List AV} {s:St} {K:Env→St→Prop} {e:Env} {d:Option Nat} {R:AV→St→Prop} (hc:ACall P f zs s R) (h:∀ r s',R r s'→K (e.put d r) s'):ACall P f zs s (ContS K e d):=hc.mono h
theorem cont_pure {P:Program} {f:FuncId} {zs:List AV} {r:AV} {s:St} {K:Env→St→Prop} {e:Env} {d:Option Nat} (hc:PCall P f zs r) (h:K (e.put d r) s):ACall P f zs s (ContS K e d):=hc.then h
theorem core :
  (∀ (P:Program) (d:Option Nat) (ty:TypeId) (pos:String) (af:Array Edge) (g:Option (Nat × Bool)) (e:Env) (s:St) (K:Env→St→Prop) (f:FuncId) (cap:Array Operand),xstep P ⟨d,.makeFunc (.func f) #[] cap,ty,pos,af,g⟩ e s K=(dstOk d e.n=true∧K (e.put d (.fn f (cap.toList.map e.ev))) s)) ∧
  (∀ (P:Program) (d:Option Nat) (ty:TypeId) (pos:String) (af:Array Edge) (g:Option (Nat × Bool)) (e:Env) (s:St) (K:Env→St→Prop) (t:Nat) (xs:Array Operand) (ts:Array TypeId),xstep P ⟨d,.call ⟨.value (.tmp t),xs,ts⟩,ty,pos,af,g⟩ e s K=(dstOk d e.n=true∧onV (e.ev (.tmp t)) (KC P xs K e d s))) ∧
  (∀ (P:Program) (d:Option Nat) (e:Env) (s:St) (K:Env→St→Prop) (f:FuncId) (c:List AV) (xs:Array Operand),KC P xs K e d s (.fn f c)=ACall P f (xs.toList.map e.ev++c) s (ContS K e d)) ∧
  (∀ (P:Program) (d:Option Nat) (e:Env) (s:St) (K:Env→St→Prop) (f:FuncId) (xs:Array Operand),KC P xs K e d s (.v (.func (.func f) #[] #[]))=ACall P f (xs.toList.map e.ev) s (ContS K e d)) ∧
  (∀ (P:Program) (d:Option Nat) (ty:TypeId) (pos:String) (af:Array Edge) (g:Option (Nat × Bool)) (e:Env) (s:St) (K:Env→St→Prop) (t:TypeId),xstep P ⟨d,.alloc t,ty,pos,af,g⟩ e s K=(dstOk d e.n=true∧onO (tiOf P t) (KA K e d s))) ∧
  (∀ (P:Program) (d:Option Nat) (ty:TypeId) (pos:String) (af:Array Edge) (g:Option (Nat × Bool)) (e:Env) (s:St) (K:Env→St→Prop) (t:TypeId) (x:Operand),xstep P ⟨d,.load t x,ty,pos,af,g⟩ e s K=(dstOk d e.n=true∧onO (xload P s t (e.ev x)) (K1 K e d s))) ∧
  (∀ (P:Program) (d:Option Nat) (ty:TypeId) (pos:String) (af:Array Edge) (g:Option (Nat × Bool)) (e:Env) (s:St) (K:Env→St→Prop) (t:TypeId) (p x:Operand),xstep P ⟨d,.store t p x,ty,pos,af,g⟩ e s K=(dstOk d e.n=true∧onO (xstore P s t (e.ev p) (e.ev x)) (K3 K e d))) ∧
  (∀ (P:Program) (d:Option Nat) (ty:TypeId) (pos:String) (af:Array Edge) (g:Option (Nat × Bool)) (e:Env) (s:St) (K:Env→St→Prop) (op:BinOp) (t u:TypeId) (x y:Operand),xstep P ⟨d,.binOp op t x y u,ty,pos,af,g⟩ e s K=(dstOk d e.n=true∧onO (xbin P op t (isK x) (isK y) (e.ev x) (e.ev y)) (K4 K e d s))) ∧
  (∀ (P:Program) (d:Option Nat) (ty:TypeId) (pos:String) (af:Array Edge) (g:Option (Nat × Bool)) (e:Env) (s:St) (K:Env→St→Prop) (op:UnOp) (t:TypeId) (x:Operand),xstep P ⟨d,.unOp op t x,ty,pos,af,g⟩ e s K=(dstOk d e.n=true∧onO (xun op (e.ev x)) (K1 K e d s))) ∧
  (∀ (P:Program) (d:Option Nat) (ty:TypeId) (pos:String) (af:Array Edge) (g:Option (Nat × Bool)) (e:Env) (s:St) (K:Env→St→Prop) (t u:TypeId) (x:Operand),xstep P ⟨d,.convert t u x,ty,pos,af,g⟩ e s K=(dstOk d e.n=true∧onO (xconv P s t u (e.ev x)) (K1 K e d s))) ∧
  (∀ (P:Program) (d:Option Nat) (ty:TypeId) (pos:String) (af:Array Edge) (g:Option (Nat × Bool)) (e:Env) (s:St) (K:Env→St→Prop) (t:TypeId) (x:Operand) (lo hi:Option Operand),xstep P ⟨d,.slice t x lo hi none,ty,pos,af,g⟩ e s K=(dstOk d e.n=true∧onO (xslice P t (e.ev x) (lo.map e.ev) (hi.map e.ev)) (K1 K e d s))) ∧
  (∀ (P:Program) (d:Option Nat) (ty:TypeId) (pos:String) (af:Array Edge) (g:Option (Nat × Bool)) (e:Env) (s:St) (K:Env→St→Prop) (t:TypeId) (x i:Operand),xstep P ⟨d,.indexAddr t x i,ty,pos,af,g⟩ e s K=(dstOk d e.n=true∧onO (xindexAddr P t (e.ev x) (e.ev i)) (K1 K e d s))) ∧
  (∀ (P:Program) (d:Option Nat) (ty:TypeId) (pos:String) (af:Array Edge) (g:Option (Nat × Bool)) (e:Env) (s:St) (K:Env→St→Prop) (t:TypeId) (x i:Operand),xstep P ⟨d,.index t x i,ty,pos,af,g⟩ e s K=(dstOk d e.n=true∧onO (xindex P t (e.ev x) (e.ev i)) (K1 K e d s))) ∧
  (∀ (P:Program) (d:Option Nat) (ty:TypeId) (pos:String) (af:Array Edge) (g:Option (Nat × Bool)) (e:Env) (s:St) (K:Env→St→Prop) (t:TypeId) (l c:Operand),xstep P ⟨d,.makeSlice t l c,ty,pos,af,g⟩ e s K=(dstOk d e.n=true∧onO (xmake P s t (e.ev l) (e.ev c)) (K2 K e d))) ∧
  (∀ (P:Program) (d:Option Nat) (ty:TypeId) (pos:String) (af:Array Edge) (g:Option (Nat × Bool)) (e:Env) (s:St) (K:Env→St→Prop) (t:TypeId) (n:Nat) (ps:Array (Nat × Operand)),xstep P ⟨d,.buildSlice t n ps,ty,pos,af,g⟩ e s K=(dstOk d e.n=true∧onO (xbuildSlice P s t n (ps.toList.map fun p=>(p.1,e.ev p.2))) (K2 K e d))) ∧
  (∀ (P:Program) (d:Option Nat) (ty:TypeId) (pos:String) (af:Array Edge) (g:Option (Nat × Bool)) (e:Env) (s:St) (K:Env→St→Prop) (b:Builtin) (xs:Array Operand) (ts:Array TypeId),xstep P ⟨d,.call ⟨.builtin b,xs,ts⟩,ty,pos,af,g⟩ e s K=(dstOk d e.n=true∧onO (xbuiltin P s b (xs.toList.map e.ev) ts.toList) (K2 K e d))) ∧
  (∀ (P:Program) (d:Option Nat) (ty:TypeId) (pos:String) (af:Array Edge) (g:Option (Nat × Bool)) (e:Env) (s:St) (K:Env→St→Prop) (x:Operand),xstep P ⟨d,.move x,ty,pos,af,g⟩ e s K=(dstOk d e.n=true∧onV (e.ev x) (K1 K e d s))) ∧
  (∀ (P:Program) (d:Option Nat) (ty:TypeId) (pos:String) (af:Array Edge) (g:Option (Nat × Bool)) (e:Env) (s:St) (K:Env→St→Prop) (x:Operand),xstep P ⟨d,.assign x,ty,pos,af,g⟩ e s K=(dstOk d e.n=true∧onV (e.ev x) (K1 K e d s))) ∧
  (∀ (P:Program) (d:Option Nat) (ty:TypeId) (pos:String) (af:Array Edge) (g:Option (Nat × Bool)) (e:Env) (s:St) (K:Env→St→Prop) (c x y:Operand),xstep P ⟨d,.pick c x y,ty,pos,af,g⟩ e s K=(dstOk d e.n=true∧onV (e.ev c) (KP K e d s x y))) ∧
  (∀ (P:Program) (d:Option Nat) (ty:TypeId) (pos:String) (af:Array Edge) (g:Option (Nat × Bool)) (e:Env) (s:St) (K:Env→St→Prop) (t:TypeId) (x:Operand),xstep P ⟨d,.box t x,ty,pos,af,g⟩ e s K=(dstOk d e.n=true∧onV (e.ev x) (KB K e d s))) ∧
  (∀ (P:Program) (d:Option Nat) (ty:TypeId) (pos:String) (af:Array Edge) (g:Option (Nat × Bool)) (e:Env) (s:St) (K:Env→St→Prop) (t:TypeId) (x:Operand) (f:Nat),xstep P ⟨d,.fieldAddr t x f,ty,pos,af,g⟩ e s K=(dstOk d e.n=true∧onV (e.ev x) (KF P t f K e d s))) ∧
  (∀ (P:Program) (d:Option Nat) (ty:TypeId) (pos:String) (af:Array Edge) (g:Option (Nat × Bool)) (e:Env) (s:St) (K:Env→St→Prop) (t:TypeId) (x:Operand) (f:Nat),xstep P ⟨d,.field t x f,ty,pos,af,g⟩ e s K=(dstOk d e.n=true∧onV (e.ev x) (KD P t f K e d s))) ∧
  (∀ (P:Program) (d:Option Nat) (ty:TypeId) (pos:String) (af:Array Edge) (g:Option (Nat × Bool)) (e:Env) (s:St) (K:Env→St→Prop) (x:Operand),xstep P ⟨d,.nilCheck x,ty,pos,af,g⟩ e s K=(dstOk d e.n=true∧onV (e.ev x) (KN K e d s))) ∧
  (∀ (P:Program) (d:Option Nat) (ty:TypeId) (pos:String) (af:Array Edge) (g:Option (Nat × Bool)) (e:Env) (s:St) (K:Env→St→Prop) (x:Operand) (i:Nat),xstep P ⟨d,.extract x i,ty,pos,af,g⟩ e s K=(dstOk d e.n=true∧onV (e.ev x) (KE i K e d s))) ∧
  (∀ (P:Program) (d:Option Nat) (ty:TypeId) (pos:String) (af:Array Edge) (g:Option (Nat × Bool)) (e:Env) (s:St) (K:Env→St→Prop) (t:TypeId) (x:Operand),xstep P ⟨d,.makeInterface t x,ty,pos,af,g⟩ e s K=(dstOk d e.n=true∧onV (e.ev x) (KI P t K e d s))) ∧
  (∀ (P:Program) (d:Option Nat) (ty:TypeId) (pos:String) (af:Array Edge) (g:Option (Nat × Bool)) (e:Env) (s:St) (K:Env→St→Prop) (t:TypeId) (ps:Array (Nat × Operand)),xstep P ⟨d,.build t ps,ty,pos,af,g⟩ e s K=(dstOk d e.n=true∧onO (xbuild P t (ps.toList.map fun p=>(p.1,e.ev p.2))) (K1 K e d s))) ∧
  (∀ (P:Program) (d:Option Nat) (ty:TypeId) (pos:String) (af:Array Edge) (g:Option (Nat × Bool)) (e:Env) (s:St) (K:Env→St→Prop) (f:FuncId) (xs:Array Operand) (ts:Array TypeId),xstep P ⟨d,.call ⟨.value (.func f),xs,ts⟩,ty,pos,af,g⟩ e s K=(dstOk d e.n=true∧ACall P f (xs.toList.map e.ev) s (ContS K e d))) ∧
  (∀ (P:Program) (d:Option Nat) (ty:TypeId) (pos:String) (af:Array Edge) (e:Env) (s:St) (K:Env→St→Prop) (ops:Array Oper) (op:Op),xgo P ops ⟨d,op,ty,pos,af,none⟩ e s K=xstep P ⟨d,op,ty,pos,af,none⟩ e s K) ∧
  (∀ (P:Program) (d:Option Nat) (ty:TypeId) (pos:String) (af:Array Edge) (e:Env) (s:St) (K:Env→St→Prop) (ops:Array Oper) (op:Op) (j:Nat) (want:Bool),xgo P ops ⟨d,op,ty,pos,af,some (j,want)⟩ e s K=onO (gval ((ops[j]?).bind (·.dst)) e want) (KG P ⟨d,op,ty,pos,af,some (j,want)⟩ e s K)) ∧
  (∀ (P:Program) (e:Env) (s:St) (K:Env→St→Prop) (ops:Array Oper) (d':Option Nat) (z:AV),xops P ops [] (e.put d' z) s K=K (e.put d' z) s) ∧
  (∀ (P:Program) (e:Env) (s:St) (K:Env→St→Prop) (ops:Array Oper) (o:Oper) (r:List Oper) (d':Option Nat) (z:AV),xops P ops (o::r) (e.put d' z) s K=xgo P ops o (e.put d' z) s (Rest P ops r K)) ∧
  (∀ (P:Program) (e:Env) (s:St) (K:Env→St→Prop) (ops:Array Oper) (r:List Oper) (d':Option Nat) (z:AV),Rest P ops r K (e.put d' z) s=xops P ops r (e.put d' z) s K) ∧
  (∀ (d:Option Nat) (e:Env) (s:St) (K:Env→St→Prop) (z:AV),K1 K e d s z=K (e.put d z) s) ∧
  (∀ (d:Option Nat) (e:Env) (s:St) (K:Env→St→Prop) (z:AV),K2 K e d (z,s)=K (e.put d z) s) ∧
  (∀ (d:Option Nat) (e:Env) (s:St) (K:Env→St→Prop),K3 K e d s=K (e.put d .no) s) ∧
  (∀ (d:Option Nat) (e:Env) (s:St) (K:Env→St→Prop) (v:Value),K4 K e d s v=K (e.put d (.v v)) s) ∧
  (∀ (P:Program) (e:Env) (s:St) (K:Env→St→Prop) (o:Oper),KG P o e s K true=xstep P o e s K) ∧
  (∀ (P:Program) (d:Option Nat) (ty:TypeId) (pos:String) (af:Array Edge) (g:Option (Nat × Bool)) (e:Env) (s:St) (K:Env→St→Prop) (op:Op),KG P ⟨d,op,ty,pos,af,g⟩ e s K false=(dstOk d e.n=true∧K (e.put d (.v undef)) s)) ∧
  (∀ (d:Option Nat) (e:Env) (s:St) (K:Env→St→Prop) (x y:Operand),KP K e d s x y (.v (.bool true))=onV (e.ev x) (K1 K e d s)) ∧
  (∀ (d:Option Nat) (e:Env) (s:St) (K:Env→St→Prop) (x y:Operand),KP K e d s x y (.v (.bool false))=onV (e.ev y) (K1 K e d s)) ∧
  (∀ (d:Option Nat) (e:Env) (s:St) (K:Env→St→Prop) (q:Go.Proofs.YtdaeancgockacaaGreatDoor.Ax.K) (n m:Nat) (l:List Value),KA K e d s ⟨q,n,m,l⟩=K (e.put d (.ptr s.nx 0)) (s.push (l.map .v))) ∧
  (∀ (d:Option Nat) (e:Env) (s:St) (K:Env→St→Prop) (z:AV),KB K e d s z=(z.boxable=true∧K (e.put d (.ptr s.nx 0)) (s.push z.cells))) ∧
  (∀ (P:Program) (d:Option Nat) (e:Env) (s:St) (K:Env→St→Prop) (t:TypeId) (f:Nat) (c:List AV),KF P t f K e d s (.rf c)=onO (xfield P t (.rf c) f) (K1 K e d s)) ∧
  (∀ (P:Program) (d:Option Nat) (e:Env) (s:St) (K:Env→St→Prop) (t:TypeId) (f:Nat) (id off:Nat),KF P t f K e d s (.ptr id off)=onO (xfield P t (.ptr id off) f) (K1 K e d s)) ∧
  (∀ (P:Program) (d:Option Nat) (e:Env) (s:St) (K:Env→St→Prop) (t:TypeId) (f:Nat) (c:List AV),KD P t f K e d s (.ag c)=onO (xfield P t (.ag c) f) (K1 K e d s)) ∧
  (∀ (d:Option Nat) (e:Env) (s:St) (K:Env→St→Prop) (c:List AV),KN K e d s (.rf c)=K (e.put d (.rf c)) s) ∧
  (∀ (d:Option Nat) (e:Env) (s:St) (K:Env→St→Prop) (id off:Nat),KN K e d s (.ptr id off)=K (e.put d (.ptr id off)) s) ∧
  (∀ (d:Option Nat) (e:Env) (s:St) (K:Env→St→Prop) (i:Nat) (c:List AV),KE i K e d s (.tp c)=onO (c[i]?) (K1 K e d s)):=
 ⟨(by intros;apply st_func),(by intros;apply st_dyn),(by intros;apply kc_fn),(by intros;apply kc_v),(by intros;apply st_alloc),(by intros;apply st_load),(by intros;apply st_store),(by intros;apply st_bin),(by intros;apply st_un),(by intros;apply st_conv),(by intros;apply st_slice),(by intros;apply st_indexAddr),(by intros;apply st_index),(by intros;apply st_make),(by intros;apply st_buildSlice),(by intros;apply st_builtin),(by intros;apply st_move),(by intros;apply st_assign),(by intros;apply st_pick),(by intros;apply st_box),(by intros;apply st_fieldAddr),(by intros;apply st_field),(by intros;apply st_nilCheck),(by intros;apply st_extract),(by intros;apply st_iface),(by intros;apply st_build),(by intros;apply st_call),(by intros;apply go_plain),(by intros;apply go_guard),(by intros;apply ops_nil),(by intros;apply ops_cons),(by intros;apply rest_go),(by intros;apply k1_go),(by intros;apply k2_go),(by intros;apply k3_go),(by intros;apply k4_go),(by intros;apply kg_true),(by intros;apply kg_false),(by intros;apply kp_true),(by intros;apply kp_false),(by intros;apply ka_go),(by intros;apply kb_go),(by intros;apply kf_rf),(by intros;apply kf_ptr),(by intros;apply kd_ag),(by intros;apply kn_rf),(by intros;apply kn_ptr),(by intros;apply ke_tp)⟩
theorem more :
  (∀ (m:Nat→AV) (i:Nat) (z:AV) (t:Nat),upd m i z t=if i=t then z else m t) ∧
  (∀ (t:Nat),noM t=.no) ∧
  (∀ (e:Env) (t:Nat),e.ev (.tmp t)=e.m t) ∧
  (∀ (e:Env) (v:Value),e.ev (.const v)=.v v) ∧
  (∀ (e:Env) (f:FuncId),e.ev (.func f)=.v (.func (.func f) #[] #[])) ∧
  (∀ (e:Env) (g:Nat),e.ev (.global g)=.v (.pointer (some ⟨g,0,none⟩))) ∧
  (∀ (n:Nat),dstOk none n=true) ∧
  (∀ (t n:Nat),dstOk (some t) n=decide (t<n)) ∧
  (∀ (P:Program) (y:Code) (m0:Nat) (Q:Exit→Env→St→Prop) (e:Env) (s:St),andThen P y m0 Q .normal e s=AW P y m0 e s Q) ∧
  (∀ (P:Program) (y:Code) (m0:Nat) (Q:Exit→Env→St→Prop) (i:Nat) (e:Env) (s:St),andThen P y m0 Q (.exit i) e s=Q (.exit i) e s) ∧
  (∀ (P:Program) (y:Code) (m0:Nat) (Q:Exit→Env→St→Prop) (e:Env) (s:St),andThen P y m0 Q .ret e s=Q .ret e s) ∧
  (∀ (id:Nat) (Q:Exit→Env→St→Prop) (e:Env) (s:St),inBlock id Q .normal e s=Q .normal e s) ∧
  (∀ (id:Nat) (Q:Exit→Env→St→Prop) (e:Env) (s:St),inBlock id Q .ret e s=Q .ret e s) ∧
  (∀ (id i:Nat) (Q:Exit→Env→St→Prop) (e:Env) (s:St),inBlock id Q (.exit i) e s=if i=id then Q .normal e s else Q (.exit i) e s) ∧
  (∀ (I:Nat→Env→St→Prop) (n:Nat) (Q:Exit→Env→St→Prop) (e:Env) (s:St),inLoop I n Q .normal e s=∃ n',n'<n∧I n' e s) ∧
  (∀ (I:Nat→Env→St→Prop) (n:Nat) (Q:Exit→Env→St→Prop) (e:Env) (s:St),inLoop I n Q .ret e s=Q .ret e s) ∧
  (∀ (I:Nat→Env→St→Prop) (n:Nat) (Q:Exit→Env→St→Prop) (i:Nat) (e:Env) (s:St),inLoop I n Q (.exit i) e s=Q (.exit i) e s) ∧
  (∀ (P:Program) (rs:List ResultVar) (R:AV→St→Prop) (e:Env) (s:St),fpost P rs R .normal e s=onO (resA P e s rs) fun l=>R (retA l) s) ∧
  (∀ (P:Program) (rs:List ResultVar) (R:AV→St→Prop) (e:Env) (s:St),fpost P rs R .ret e s=onO (resA P e s rs) fun l=>R (retA l) s) ∧
  (∀ (s:St) (c:List AV) (j:Nat),(s.push c).get j=if j=s.nx then some c else s.get j) ∧
  (∀ (s:St) (i:Nat) (c:List AV) (j:Nat),(s.set i c).get j=if j=i then some c else s.get j) ∧
  (∀ (s:St) (i:Nat) (j:Nat),(s.kill i).get j=if j=i then none else s.get j) ∧
  (num []=noM) ∧
  (∀ (a:AV),num [a]=upd noM 0 a) ∧
  (∀ (a b:AV),num [a,b]=upd (upd noM 0 a) 1 b) ∧
  (∀ (a b c:AV),num [a,b,c]=upd (upd (upd noM 0 a) 1 b) 2 c) ∧
  (∀ (a b c d:AV),num [a,b,c,d]=upd (upd (upd (upd noM 0 a) 1 b) 2 c) 3 d) ∧
  (∀ (x:Int) (h : -9223372036854775808≤x) (h':x≤9223372036854775807),IntKind.i64.wrap x=x) ∧
  (∀ (x:Int) (h:0≤x) (h':x≤18446744073709551615),IntKind.u64.wrap x=x) ∧
  (∀ (x:Int) (h:0≤x) (h':x≤4294967295),IntKind.u32.wrap x=x) ∧
  (∀ (x:Int) (h:0≤x) (h':x≤65535),IntKind.u16.wrap x=x) ∧
  (∀ (x:Int) (h:0≤x) (h':x≤255),IntKind.u8.wrap x=x) ∧
  (∀ (x y:Int) (h:0≤x),x.tdiv y=x / y) ∧
  (∀ (x y:Int) (h:0≤x),x.tmod y=x % y) ∧
  (∀ (x y:Int) (h:x=y),(x==y)=true) ∧
  (∀ (x y:Int) (h:¬x=y),(x==y)=false) ∧
  (∀ (x y:Int) (h:¬x=y),(x != y)=true) ∧
  (∀ (x y:Int) (h:x=y),(x != y)=false) ∧
  (∀ (p:Prop) [Decidable p] (h:p),decide p=true) ∧
  (∀ (p:Prop) [Decidable p] (h:¬p),decide p=false) ∧
  (∀ (e:Env) (t:Nat) (z:AV) (t':Nat),(e.put (some t) z).m t'=if t=t' then z else e.m t') ∧
  (∀ (e:Env) (z:AV) (t':Nat),(e.put none z).m t'=e.m t') ∧
  (∀ (e:Env) (d:Option Nat) (z:AV),(e.put d z).n=e.n) ∧
  (∀ (f:Int→AV) (xs:List Int) (i:Nat) (h:i<xs.length),((xs.map f).drop i).head?=some (f (xs.getD i 0))) ∧
  (∀ (f:Nat→AV) (xs:List Nat) (i:Nat) (h:i<xs.length),((xs.map f).drop i).head?=some (f (xs.getD i 0))) ∧
  (∀ (n:Nat),((n:Int)-1).toNat=n-1) ∧
  (∀ (n:Nat),((n:Int)+1).toNat=n+1) ∧
  (∀ (n:Nat),(n:Int).toNat=n) ∧
  (∀ (x:Value),idf (.v x)=true) ∧
  (∀ (n:Nat) (c:List AV),idf (.sl n c)=idf.idfL c) ∧
  (∀ (c:List AV),idf (.rf c)=idf.idfL c) ∧
  (∀ (c:List AV),idf (.ag c)=idf.idfL c) ∧
  (∀ (c:List AV),idf (.tp c)=idf.idfL c) ∧
  (idf.idfL []=true) ∧
  (∀ (z:AV) (l:List AV),idf.idfL (z::l)=(idf z&&idf.idfL l)) ∧
  (∀ (α:Type) (f:α→Value) (l:List α),idf.idfL (l.map fun x=>.v (f x))=true) ∧
  (∀ (α:Type) (k:IntKind) (f:α→Int) (l:List α),(l.map fun x=>AV.v (.int k (f x))).all AV.one=true) ∧
  (∀ (α β:Type) (f:α→β) (l:List α),(l.map f).length=l.length) ∧
  (∀ (i:Nat) (c:List AV) (off n sz:Nat),frz i c (.own i off n sz)=.sl n ((c.drop off).take (n*sz))) ∧
  (∀ (i:Nat) (c:List AV) (off:Nat),frz i c (.ptr i off)=.rf (c.drop off)) ∧
  (∀ (i j:Nat) (c:List AV) (off n sz:Nat) (h:¬j=i),frz i c (.own j off n sz)=.own j off n sz) ∧
  (∀ (i j:Nat) (c:List AV) (off:Nat) (h:¬j=i),frz i c (.ptr j off)=.ptr j off) ∧
  (∀ (i:Nat) (c:List AV) (x:Value),frz i c (.v x)=.v x) ∧
  (∀ (i:Nat) (c:List AV),frz i c .no=.no) ∧
  (∀ (i:Nat) (c:List AV),frz.frzL i c []=[]) ∧
  (∀ (i:Nat) (c:List AV) (z:AV) (l:List AV),frz.frzL i c (z::l)=frz i c z::frz.frzL i c l) ∧
  (∀ (e:Env) (i:Nat) (c:List AV) (t:Nat),(e.frz i c).m t=frz i c (e.m t)) ∧
  (∀ (e:Env) (i:Nat) (c:List AV),(e.frz i c).n=e.n) ∧
  (∀ (s:St) (i:Nat) (c:List AV) (g:Nat→Bool) (j:Nat),(s.frz i c g).get j=if j=i then none else if g j then (s.get j).map (frz.frzL i c) else s.get j) ∧
  (∀ (s:St) (i:Nat) (c:List AV) (g:Nat→Bool),(s.frz i c g).nx=s.nx) ∧
  (∀ (s:St) (c:List AV),(s.push c).nx=s.nx+1) ∧
  (∀ (s:St) (i:Nat) (c:List AV),(s.set i c).nx=s.nx) ∧
  (∀ (s:St) (i:Nat),(s.kill i).nx=s.nx) ∧
  (∀ (b:Bool),(b==true)=b) ∧
  (∀ (b:Bool),(b==false)=!b) ∧
  (∀ (α:Type) (f:α→AV) (l:List α) (n:Nat) (h:l.length=n),(l.map f).take n=l.map f):=
 ⟨(by intros;apply upd_at <;> assumption),(by intros;apply noM_at <;> assumption),(by intros;apply ev_tmp <;> assumption),(by intros;apply ev_const <;> assumption),(by intros;apply ev_func <;> assumption),(by intros;apply ev_global <;> assumption),(by intros;apply dst_none <;> assumption),(by intros;apply dst_some <;> assumption),(by intros;apply then_normal <;> assumption),(by intros;apply then_exit <;> assumption),(by intros;apply then_ret <;> assumption),(by intros;apply block_normal <;> assumption),(by intros;apply block_ret <;> assumption),(by intros;apply block_exit <;> assumption),(by intros;apply loop_normal <;> assumption),(by intros;apply loop_ret <;> assumption),(by intros;apply loop_exit <;> assumption),(by intros;apply post_normal <;> assumption),(by intros;apply post_ret <;> assumption),(by intros;apply push_get <;> assumption),(by intros;apply set_get <;> assumption),(by intros;apply kill_get <;> assumption),(by intros;apply num0 <;> assumption),(by intros;apply num1 <;> assumption),(by intros;apply num2 <;> assumption),(by intros;apply num3 <;> assumption),(by intros;apply num4 <;> assumption),(by intros;apply wrap_in_i64 <;> assumption),(by intros;apply wrap_in_u64 <;> assumption),(by intros;apply wrap_in_u32 <;> assumption),(by intros;apply wrap_in_u16 <;> assumption),(by intros;apply wrap_in_u8 <;> assumption),(by intros;apply tdiv_in <;> assumption),(by intros;apply tmod_in <;> assumption),(by intros;apply beq_pos <;> assumption),(by intros;apply beq_neg <;> assumption),(by intros;apply bne_pos <;> assumption),(by intros;apply bne_neg <;> assumption),(by intros;apply dec_pos <;> assumption),(by intros;apply dec_neg <;> assumption),(by intros;apply put_m <;> assumption),(by intros;apply put_m0 <;> assumption),(by intros;apply put_n <;> assumption),(by intros;apply hd_int <;> assumption),(by intros;apply hd_nat <;> assumption),(by intros;apply toNat_pred <;> assumption),(by intros;apply toNat_succ <;> assumption),(by intros;apply toNat_nat <;> assumption),(by intros;apply idf_v <;> assumption),(by intros;apply idf_sl <;> assumption),(by intros;apply idf_rf <;> assumption),(by intros;apply idf_ag <;> assumption),(by intros;apply idf_tp <;> assumption),(by intros;apply idfL_nil <;> assumption),(by intros;apply idfL_cons <;> assumption),(by intros;apply idfL_mapv <;> assumption),(by intros;apply one_mapi <;> assumption),(by intros;apply len_map <;> assumption),(by intros;apply frz_own <;> assumption),(by intros;apply frz_ptr <;> assumption),(by intros;apply frz_own_ne <;> assumption),(by intros;apply frz_ptr_ne <;> assumption),(by intros;apply frz_v <;> assumption),(by intros;apply frz_no <;> assumption),(by intros;apply frzL_nil <;> assumption),(by intros;apply frzL_cons <;> assumption),(by intros;apply frz_e <;> assumption),(by intros;apply frz_n <;> assumption),(by intros;apply frz_get <;> assumption),(by intros;apply frz_nx <;> assumption),(by intros;apply nx_push <;> assumption),(by intros;apply nx_set <;> assumption),(by intros;apply nx_kill <;> assumption),(by intros;apply bb_true <;> assumption),(by intros;apply bb_false <;> assumption),(by intros;apply take_map_len <;> assumption)⟩
end Ax
namespace Ax
open Go Go.RowKit
variable {P:Program}
def tk (held:List Nat) (e:Env):Op→Prop
 | .load _ x=>match e.ev x with | .ptr id _=>id∈held | _=>True
 | .convert _ _ x=>match e.ev x with | .own .. => False | _=>True
 | .move _ | .assign _ | .pick .. | .build .. | .nilCheck _ | .binOp .. | .unOp .. | .slice .. | .fieldAddr .. | .field .. | .indexAddr .. | .index .. | .extract .. | .makeInterface .. => True
 | .call c=>match c.callee with | .builtin .len | .builtin .min | .builtin .max=>True | _=>False
 | _=>False
theorem map_st {x:Option AV} {s s1:St} {z:AV} (h:x.map (·,s)=some (z,s1)):s1=s∧∀ s':St,x.map (·,s')=some (z,s'):=by
 cases x with
 | none=>cases h
 | some y=>
  injection h with h
  injection h with h1 h2
  subst h1 h2
  exact⟨rfl,fun s'=>rfl⟩
theorem conv_st {s s':St} {a b:TypeId} {x:AV} (h:∀ id off n sz,x≠.own id off n sz):xconv P s' a b x=xconv P s a b x:=by
 unfold xconv
 cases tiOf P b with
 | none=>rfl
 | some td=>
  cases tiOf P a with
  | none=>rfl
  | some ts=>
   simp only
   generalize td.k=u
   generalize ts.k=v
   cases x with
   | own id off n sz=>exact absurd rfl (h _ _ _ _)
   | v y=>cases u <;> cases v <;> first | rfl | (cases y <;> rfl)
   | _=>cases u <;> cases v <;> rfl
theorem tk_op {held:List Nat} {e:Env} {s s1:St} {op:Op} {z:AV} (ht:tk held e op) (h:xop P e s op=some (z,s1)):s1=s∧∀ s',heldEq s held s'→xop P e s' op=some (z,s'):=by
 have mem:∀ (l:List Nat) (s':St) (id:Nat),heldEq s l s'→id∈l→s'.get id=s.get id:=by
  intro l
  induction l with
  | nil=>intro s' id _ hm;cases hm
  | cons i l ih=>
   intro s' id hh hm
   rcases List.mem_cons.1 hm with rfl | hm
   ·exact hh.1
   ·exact ih s' id hh.2 hm
 cases op <;> simp only[tk] at ht <;> simp only[xop] at h ⊢
 case move x=>injection h with h;injection h with h1 h2;subst h1 h2;exact⟨rfl,fun s' _=>rfl⟩
 case assign x=>injection h with h;injection h with h1 h2;subst h1 h2;exact⟨rfl,fun s' _=>rfl⟩
 case pick c x y=>
  split at h
  ·injection h with h;injection h with h1 h2;subst h1 h2;exact⟨rfl,fun s' _=>by simp⟩
  ·cases h
 case build t ps=>
  split at h
  ·split at h
   ·split at h
    ·split at h
     ·injection h with h;injection h with h1 h2;subst h1 h2
      refine⟨rfl,fun s' _=>?_⟩
      simp_all
     ·cases h
    ·cases h
   ·split at h
    ·split at h
     ·injection h with h;injection h with h1 h2;subst h1 h2
      refine⟨rfl,fun s' _=>?_⟩
      simp_all
     ·cases h
    ·cases h
   ·cases h
  ·cases h
 case load t x=>
  refine⟨(map_st h).1,fun s' hh=>?_⟩
  have:xload P s' t (e.ev x)=xload P s t (e.ev x):=by
   unfold xload
   cases tiOf P t with
   | none=>rfl
   | some ti=>
    simp only
    split
    ·rfl
    ·rename_i id off he
     rw[he] at ht
     simp only[mem held s' id hh ht]
    ·rfl
  rw[this]
  exact(map_st h).2 s'
 case nilCheck x=>
  split at h
  ·injection h with h;injection h with h1 h2;subst h1 h2;exact⟨rfl,fun s' _=>by simp⟩
  ·injection h with h;injection h with h1 h2;subst h1 h2;exact⟨rfl,fun s' _=>by simp⟩
  ·cases h
 case binOp op t x y u=>
  cases hx:xbin P op t (isK x) (isK y) (e.ev x) (e.ev y) with
  | none=>rw[hx] at h;cases h
  | some v=>rw[hx] at h;injection h with h;injection h with h1 h2;subst h1 h2;exact⟨rfl,fun s' _=>rfl⟩
 case unOp op t x=>exact⟨(map_st h).1,fun s' _=>(map_st h).2 s'⟩
 case convert a b x=>
  refine⟨(map_st h).1,fun s' _=>?_⟩
  rw[conv_st (s:=s) (s':=s') (fun id off n sz he=>by rw[he] at ht;exact ht)]
  exact(map_st h).2 s'
 case slice t x lo hi mx=>
  cases mx with
  | none=>exact⟨(map_st h).1,fun s' _=>(map_st h).2 s'⟩
  | some m=>cases h
 case fieldAddr t x f=>
  split at h
  ·cases h
  ·exact⟨(map_st h).1,fun s' _=>(map_st h).2 s'⟩
 case field t x f=>
  split at h
  ·rename_i c hc
   exact⟨(map_st h).1,fun s' _=>(map_st h).2 s'⟩
  ·cases h
 case indexAddr t x i=>exact⟨(map_st h).1,fun s' _=>(map_st h).2 s'⟩
 case index t x i=>exact⟨(map_st h).1,fun s' _=>(map_st h).2 s'⟩
 case extract x i=>
  split at h
  ·exact⟨(map_st h).1,fun s' _=>(map_st h).2 s'⟩
  ·cases h
 case makeInterface t x=>
  split at h
  ·split at h
   ·cases h
   ·injection h with h;injection h with h1 h2;subst h1 h2
    refine⟨rfl,fun s' _=>?_⟩
    simp_all
  ·cases h
 case call c=>
  split at ht
  all_goals first | exact ht.elim | skip
  all_goals
   rename_i hc
   rw[hc] at h ⊢
   simp only at h ⊢
   unfold xbuiltin at h ⊢
   split at h
   all_goals first
    | exact⟨(map_st h).1,fun s' _=>(map_st h).2 s'⟩
    | (rename_i e1 _ _;cases e1;done)
    | (rename_i e1 _;cases e1;done)
    | cases h
theorem tk_callee {held:List Nat} {e:Env} {op:Op} (ht:tk held e op):calleeOf e op=none:=by
 cases op <;> simp only[tk] at ht <;> simp only[calleeOf]
 case call c=>
  split at ht
  all_goals first | exact ht.elim | skip
  all_goals
   rename_i hc
   rw[hc]
def xpl (P:Program) (ops:Array Oper) (held:List Nat) (K:Env→St→Prop):Plan→Env→St→Prop
 | .done,e,s=>K e s
 | .take i p,e,s=>match ops[i]? with
  | none=>False
  | some o=>(∀ g,xguard ops o e=some g→g=true→tk held e o.op)∧xgo P ops o e s (xpl P ops held K p)
 | .one i p,e,s=>match ops[i]? with
  | none=>False
  | some o=>xgo P ops o e s fun e' s'=>heldEq s held s'∧xpl P ops held K p e' s'
 | .two i p j q,e,s=>match ops[i]?,ops[j]? with
  | some o,some o'=>(xgo P ops o e s fun e' s'=>heldEq s held s'∧xpl P ops held K p e' s')∧xgo P ops o' e s fun e' s'=>heldEq s held s'∧xpl P ops held K q e' s'
  | _,_=>False
theorem heldEq_trans {a b c:St} {l:List Nat} (h:heldEq a l b) (g:heldEq b l c):heldEq a l c:=by
 induction l with
 | nil=>trivial
 | cons i l ih=>exact⟨g.1.trans h.1,ih h.2 g.2⟩
theorem heldEq_symm {a b:St} {l:List Nat} (h:heldEq a l b):heldEq b l a:=by
 induction l with
 | nil=>trivial
 | cons i l ih=>exact⟨h.1.symm,ih h.2⟩
theorem xpl_plan {ops:Array Oper} {s0:St} {held:List Nat} {K:Env→St→Prop} (p:Plan):∀ (e:Env) (s:St),heldEq s0 held s→xpl P ops held K p e s→xplan P ops s0 held K p e s:=by
 induction p with
 | done=>exact fun e s hh h=>h
 | take i p ih=>
  intro e s hh h
  unfold xpl at h
  unfold xplan
  split at h
  ·exact h.elim
  ·rename_i o ho
   try rw[ho]
   obtain⟨ht,h⟩:=h
   unfold xgo at h
   try simp only
   cases hg:xguard ops o e with
   | none=>rw[hg] at h;exact h.elim
   | some g=>
    rw[hg] at h
    cases g with
    | true=>
     have htk:=ht true hg rfl
     obtain⟨hd,h2⟩:=h.1 rfl
     clear h
     rw[tk_callee htk] at h2
     simp only at h2
     split at h2
     ·rename_i z s1 hx
      obtain⟨rfl,hall⟩:=tk_op htk hx
      have hv:tval P ops o e s1=z:=by unfold tval;rw[hg];simp only[hx]
      rw[hv]
      refine⟨fun s' hs'=>.inl ⟨hg,tk_callee htk,hall s' (heldEq_trans (heldEq_symm hh) hs')⟩,hd,ih _ _ hh h2⟩
     ·exact h2.elim
    | false=>
     obtain⟨hd,h⟩:=h.2 rfl
     have hv:tval P ops o e s=.v undef:=by unfold tval;rw[hg]
     rw[hv]
     exact⟨fun s' _=>.inr ⟨hg,rfl⟩,hd,ih _ _ hh h⟩
 | one i p ih=>
  intro e s hh h
  unfold xpl at h
  unfold xplan
  split at h
  ·exact h.elim
  ·rename_i o ho
   try rw[ho]
   exact xgo_mono h fun e' s' ⟨q1,q2⟩=>⟨heldEq_trans hh q1,ih _ _ (heldEq_trans hh q1) q2⟩
 | two i p j q ihp ihq=>
  intro e s hh h
  unfold xpl at h
  unfold xplan
  split at h
  ·rename_i o o' ho ho'
   try rw[ho,ho']
   exact⟨xgo_mono h.1 fun e' s' ⟨q1,q2⟩=>⟨heldEq_trans hh q1,ihp _ _ (heldEq_trans hh q1) q2⟩,xgo_mono h.2 fun e' s' ⟨q1,q2⟩=>⟨heldEq_trans hh q1,ihq _ _ (heldEq_trans hh q1) q2⟩⟩
  ·exact h.elim
theorem aw_drw {id:Nat} {l:List Oper} {m0:Nat} {e:Env} {s:St} {Q:Exit→Env→St→Prop} (p:Plan) (held:List Nat) (hm:P.follows .mixedOrders=true) (hp:planOk l.toArray p l.toArray.size (Array.replicate l.toArray.size false)=true)
  (h:∀ K:Env→St→Prop,(∀ e s,Q .normal e s→K e s)→xpl P l.toArray held K p (e.put none .no) s):AW P (.region id l.toArray true) m0 e s Q:=
 aw_draw p held hm hp (xpl_plan p _ s (heldEq_refl s held) (h _ fun _ _ h=>h))
def PK (P:Program) (ops:Array Oper) (held:List Nat) (K:Env→St→Prop) (p:Plan) (e:Env) (s:St):Prop:=xpl P ops held K p e s
def PH (P:Program) (ops:Array Oper) (held:List Nat) (K:Env→St→Prop) (p:Plan) (s:St) (e':Env) (s':St):Prop:=heldEq s held s'∧xpl P ops held K p e' s'
def PT (P:Program) (ops:Array Oper) (held:List Nat) (K:Env→St→Prop) (p:Plan) (e:Env) (s:St) (o:Oper):Prop:=(∀ g,xguard ops o e=some g→g=true→tk held e o.op)∧xgo P ops o e s (PK P ops held K p)
def PO (P:Program) (ops:Array Oper) (held:List Nat) (K:Env→St→Prop) (p:Plan) (e:Env) (s:St) (o:Oper):Prop:=xgo P ops o e s (PH P ops held K p s)
def GT (ops:Array Oper) (o:Oper) (e:Env) (held:List Nat) (b:Bool):Prop:=b=true→tk held e o.op
section
variable (ops:Array Oper) (held:List Nat) (K:Env→St→Prop) (p q:Plan) (d:Option Nat) (z:AV) (e:Env) (s:St) (i j:Nat) (op:Op) (ty:TypeId) (pos:String) (af:Array Edge) (g:Option (Nat × Bool))
theorem pl_done:xpl P ops held K .done (e.put d z) s=K (e.put d z) s:=rfl
theorem pl_take:xpl P ops held K (.take i p) (e.put d z) s=onO (ops[i]?) (PT P ops held K p (e.put d z) s):=by
 unfold onO
 rw[xpl]
 cases ops[i]? <;> rfl
theorem pl_one:xpl P ops held K (.one i p) (e.put d z) s=onO (ops[i]?) (PO P ops held K p (e.put d z) s):=by
 unfold onO
 rw[xpl]
 cases ops[i]? <;> rfl
theorem pl_two:xpl P ops held K (.two i p j q) (e.put d z) s=(onO (ops[i]?) (PO P ops held K p (e.put d z) s)∧onO (ops[j]?) (PO P ops held K q (e.put d z) s)):=by
 unfold onO
 rw[xpl]
 cases ops[i]? <;> cases ops[j]? <;> first | rfl | simp
theorem pk_go:PK P ops held K p (e.put d z) s=xpl P ops held K p (e.put d z) s:=rfl
theorem ph_go (s':St):PH P ops held K p s (e.put d z) s'=(heldEq s held s'∧xpl P ops held K p (e.put d z) s'):=rfl
theorem po_go:PO P ops held K p e s ⟨d,op,ty,pos,af,g⟩=xgo P ops ⟨d,op,ty,pos,af,g⟩ e s (PH P ops held K p s):=rfl
theorem pt_plain:PT P ops held K p e s ⟨d,op,ty,pos,af,none⟩=(tk held e op∧xgo P ops ⟨d,op,ty,pos,af,none⟩ e s (PK P ops held K p)):=by
 unfold PT xguard
 simp
theorem pt_guard (w:Bool):PT P ops held K p e s ⟨d,op,ty,pos,af,some (j,w)⟩=(onO (gval ((ops[j]?).bind (·.dst)) e w) (GT ops ⟨d,op,ty,pos,af,some (j,w)⟩ e held)∧xgo P ops ⟨d,op,ty,pos,af,some (j,w)⟩ e s (PK P ops held K p)):=by
 unfold PT onO GT
 have hx:xguard ops ⟨d,op,ty,pos,af,some (j,w)⟩ e=gval ((ops[j]?).bind (·.dst)) e w:=rfl
 rw[hx]
 generalize hq:gval ((ops[j]?).bind (·.dst)) e w=r
 cases r with
 | none=>
  have:xgo P ops ⟨d,op,ty,pos,af,some (j,w)⟩ e s (PK P ops held K p)=False:=by
   unfold xgo
   rw[hx,hq]
  rw[this]
  simp
 | some b=>simp
theorem gt_true:GT ops ⟨d,op,ty,pos,af,g⟩ e held true=tk held e op:=by unfold GT;simp
theorem gt_false (o:Oper):GT ops o e held false=True:=by unfold GT;simp
end
theorem held_nil (s s':St):heldEq s [] s'=True:=rfl
theorem held_cons (s s':St) (i:Nat) (l:List Nat):heldEq s (i::l) s'=(s'.get i=s.get i∧heldEq s l s'):=rfl
theorem drows (P:Program) :
  (∀ ops held K d z e s,xpl P ops held K .done (Env.put e d z) s=K (e.put d z) s) ∧
  (∀ ops held K p d z e s i,xpl P ops held K (.take i p) (Env.put e d z) s=onO (ops[i]?) (PT P ops held K p (e.put d z) s)) ∧
  (∀ ops held K p d z e s i,xpl P ops held K (.one i p) (Env.put e d z) s=onO (ops[i]?) (PO P ops held K p (e.put d z) s)) ∧
  (∀ ops held K p q d z e s i j,xpl P ops held K (.two i p j q) (Env.put e d z) s=(onO (ops[i]?) (PO P ops held K p (e.put d z) s)∧onO (ops[j]?) (PO P ops held K q (e.put d z) s))) ∧
  (∀ ops held K p d z e s,PK P ops held K p (Env.put e d z) s=xpl P ops held K p (e.put d z) s) ∧
  (∀ ops held K p d z e s s',PH P ops held K p s (Env.put e d z) s'=(heldEq s held s'∧xpl P ops held K p (e.put d z) s')) ∧
  (∀ ops held K p d e s op ty pos af g,PO P ops held K p e s ⟨d,op,ty,pos,af,g⟩=xgo P ops ⟨d,op,ty,pos,af,g⟩ e s (PH P ops held K p s)) ∧
  (∀ ops held K p d e s op ty pos af,PT P ops held K p e s ⟨d,op,ty,pos,af,none⟩=(tk held e op∧xgo P ops ⟨d,op,ty,pos,af,none⟩ e s (PK P ops held K p))) ∧
  (∀ ops held K p d e s j op ty pos af w,PT P ops held K p e s ⟨d,op,ty,pos,af,some (j,w)⟩=(onO (gval ((ops[j]?).bind (·.dst)) e w) (GT ops ⟨d,op,ty,pos,af,some (j,w)⟩ e held)∧xgo P ops ⟨d,op,ty,pos,af,some (j,w)⟩ e s (PK P ops held K p))) ∧
  (∀ ops held d e op ty pos af g,GT ops ⟨d,op,ty,pos,af,g⟩ e held true=tk held e op) ∧
  (∀ ops held e o,GT ops o e held false=True):=
 ⟨by intros;apply pl_done,by intros;apply pl_take,by intros;apply pl_one,by intros;apply pl_two,by intros;apply pk_go,by intros;apply ph_go,by intros;apply po_go,by intros;apply pt_plain,by intros;apply pt_guard,by intros;apply gt_true,by intros;apply gt_false⟩
theorem mapM_nil_o {α β:Type} (f:α→Option β):List.mapM f []=some []:=rfl
theorem mapM_cons_o {α β:Type} (f:α→Option β) (a:α) (l:List α):List.mapM f (a::l)=(f a).bind fun b=>Option.map (fun c=>b::c) (List.mapM f l):=by
 rw[List.mapM_cons]
 cases f a <;> cases List.mapM f l <;> rfl
theorem aw_freeze2 {P:Program} {code:Code} {m0:Nat} {e:Env} {s:St} {Q:Exit→Env→St→Prop} (i:Nat) (c:List AV) (hi:s.get i=some c) (g:Nat→Bool)
  (h:∀ e' s',e'.n=e.n→(∀ t,e'.m t=frz i c (e.m t))→s'.nx=s.nx→(∀ j,s'.get j=if j=i then none else if g j=true then (s.get j).map (frz.frzL i c) else s.get j)→AW P code m0 e' s' Q):AW P code m0 e s Q:=
 aw_freeze i c hi g (h _ _ rfl (fun _=>rfl) rfl fun _=>rfl)
end Ax
namespace Ax
open Go Go.RowKit
variable {P:Program}
theorem aw_mid {x y:Code} {m0:Nat} {e:Env} {s:St} {Q:Exit→Env→St→Prop} (I:Env→St→Prop) (h1:AW P x m0 e s fun ex e' s'=>ex=.normal∧I e' s') (h2:∀ e' s',I e' s'→AW P y m0 e' s' Q):AW P (.seq x y) m0 e s Q:=
 aw_seq (aw_mono h1 fun ex e' s' ⟨hn,hI⟩=>by subst hn;exact h2 e' s' hI)
theorem aw_only {x:Code} {m0:Nat} {e:Env} {s:St} {Q:Exit→Env→St→Prop} (I:Env→St→Prop) (h1:AW P x m0 e s fun ex e' s'=>ex=.normal∧I e' s') (h2:∀ e' s',I e' s'→Q .normal e' s'):AW P x m0 e s Q:=
 aw_mono h1 fun ex e' s' ⟨hn,hI⟩=>by subst hn;exact h2 e' s' hI
theorem aw_at {x:Code} {m0:Nat} {e:Env} {s:St} {Q:Exit→Env→St→Prop} (ex0:Exit) (I:Env→St→Prop) (h1:AW P x m0 e s fun ex e' s'=>ex=ex0∧I e' s') (h2:∀ e' s',I e' s'→Q ex0 e' s'):AW P x m0 e s Q:=
 aw_mono h1 fun ex e' s' ⟨hn,hI⟩=>by subst hn;exact h2 e' s' hI
theorem acall_lay {f:FuncId} {zs:List AV} {s:St} {R:AV→St→Prop} (h:ACall P f zs s fun r s'=>∃ i c g,s'.get i=some c∧R (frz i c r) (s'.frz i c g)):ACall P f zs s R:=
 ⟨h.1,fun w0 k w vs hs hv=>(h.2 w0 k w vs hs hv).mono fun en w' ⟨v,r,s',k',h1,⟨i,c,g,hi,hR⟩,h3,h4,h5⟩=>by
  obtain⟨k'',q1,q2,q3,q4,q5,_⟩:=sim_frz h3 hi g
  exact⟨v,_,_,k'',h1,hR,q4,q5 _ _ h4,⟨by rw[q2];exact h5.1,fun j hj=>by rw[q1];exact h5.2.1 j hj,fun a u ha=>q3 a u (h5.2.2 a u ha)⟩⟩⟩
theorem frz_false (s:St) (i:Nat) (c:List AV) (j:Nat) (h:j≠i):(s.frz i c fun _=>false).get j=s.get j:=by
 show (if j=i then none else if false=true then _ else s.get j)=_
 rw[if_neg h]
 rfl
theorem pcall_own {f:FuncId} {zs:List AV} {r:AV} (hf:idf r=true) (h:∀ s,ACall P f zs s fun r' s'=>∃ i c,s.nx≤i∧s'.get i=some c∧frz i c r'=r∧∀ j,j<s.nx→s'.get j=s.get j):PCall P f zs r:=
 pcall_of fun s=>acall_lay ((h s).mono fun r' s' ⟨i,c,h1,h2,h3,h4⟩=>⟨i,c,fun _=>false,h2,h3,hf,fun j hj=>by rw[frz_false _ _ _ _ (by omega)];exact h4 j hj⟩)
theorem pcall_own2 {f:FuncId} {zs:List AV} {r:AV} (hf:idf r=true) (h:∀ s,ACall P f zs s fun r' s'=>∃ i c j d,s.nx≤i∧s.nx≤j∧j≠i∧s'.get i=some c∧s'.get j=some d∧frz j d (frz i c r')=r∧∀ k,k<s.nx→s'.get k=s.get k):PCall P f zs r:=
 pcall_of fun s=>acall_lay (acall_lay ((h s).mono fun r' s' ⟨i,c,j,d,h1,h2,h3,h4,h5,h6,h7⟩=>⟨i,c,fun _=>false,h4,j,d,fun _=>false,by rw[frz_false _ _ _ _ h3];exact h5,h6,hf,fun k hk=>by
  rw[frz_false _ _ _ _ (by omega),frz_false _ _ _ _ (by omega)]
  exact h7 k hk⟩))
end Ax
namespace Ax
open Go Go.RowKit
variable {P:Program}
def Closed (ops:Array Oper) (listed:Array Bool):Prop:=∀ j o,ops[j]?=some o→listed.getD j false=true→∀ x∈o.after,Region.binds .any x=true→listed.getD x.on false=true
theorem closed_none (ops:Array Oper) (n:Nat):Closed ops (Array.replicate n false):=fun j o _ h=>by
 exfalso
 rw[Array.getD_eq_getD_getElem?,Array.getElem?_replicate] at h
 split at h <;> cases h
theorem closed_set {ops:Array Oper} {listed:Array Bool} {i:Nat} (h:Closed ops listed) (hi:i∈Region.ready .any ops listed):Closed ops (listed.setIfInBounds i true):=by
 intro j o ho hj x hx hb
 by_cases hij:i=j
 ·subst hij
  obtain⟨_,o',ho',hall⟩:=mem_ready.1 hi
  rw[ho] at ho'
  injection ho' with ho'
  subst ho'
  exact getD_set_true (hall x hx hb)
 ·rw[getD_set_ne false hij] at hj
  exact getD_set_true (h j o ho hj x hx hb)
def preB (ops:Array Oper):Nat→Nat→Nat→Bool
 | 0,_,_=>false
 | n+1,r,i=>match ops[r]? with
  | some o=>o.after.any fun x=>Region.binds .any x&&(x.on==i||preB ops n x.on i)
  | none=>false
theorem pre_spec {ops:Array Oper} {listed:Array Bool} {i:Nat} (hc:Closed ops listed) (n:Nat):∀ r,preB ops n r i=true→listed.getD r false=true→listed.getD i false=true:=by
 induction n with
 | zero=>intro r h;cases h
 | succ n ih=>
  intro r h hr
  unfold preB at h
  cases ho:ops[r]? with
  | none=>rw[ho] at h;cases h
  | some o=>
   rw[ho] at h
   obtain⟨x,hx,hb⟩:=Array.any_eq_true'.1 h
   simp only[Bool.and_eq_true,Bool.or_eq_true,beq_iff_eq] at hb
   have hl:=hc r o ho hr x hx hb.1
   rcases hb.2 with hb | hb
   ·rw[←hb];exact hl
   ·exact ih x.on hb hl
def HeldR (s0:St) (held:List Nat) (r:Nat) (listed:Array Bool) (s:St):Prop:=listed.getD r false=false→heldEq s0 held s
def AnyR (P:Program) (ops:Array Oper) (s0:St) (held:List Nat) (r:Nat) (K:Env→St→Prop):Nat→Array Bool→Env→St→Prop
 | 0,listed,e,s=>HeldR s0 held r listed s∧Region.ready .any ops listed=[]∧K e s
 | n+1,listed,e,s=>HeldR s0 held r listed s∧(Region.ready .any ops listed=[]→K e s)∧∀ i∈Region.ready .any ops listed,∃ o,ops[i]?=some o∧xgo P ops o e s (AnyR P ops s0 held r K n (listed.setIfInBounds i true))
section
variable {ops:Array Oper} {s0:St} {held:List Nat} {r:Nat} {K:Env→St→Prop}
theorem AnyR.heldR {n:Nat} {listed:Array Bool} {e:Env} {s:St} (h:AnyR P ops s0 held r K n listed e s):HeldR s0 held r listed s:=by cases n <;> exact h.1
theorem AnyR.sound {m0:Nat} {Q:Exit→Env→St→Prop} (n:Nat):∀ {listed:Array Bool} {e:Env} {s:St},AnyR P ops s0 held r (Q .normal) n listed e s→∀ {w0 w:World} {kb k:KW} {a:Act},KW.le m0 kb k→Sim w0 k w s→EnvRel k e a →
  wpAny P .any ops (APost m0 w0 kb Q) n listed a w:=by
 induction n with
 | zero=>exact fun h w0 w kb k a hk hs he=>⟨h.2.1,_,_,k,h.2.2,hk,hs,he⟩
 | succ n ih=>
  intro listed e s h w0 w kb k a hk hs he
  obtain⟨_,h0,h1⟩:=h
  refine⟨fun hr=>⟨_,_,k,h0 hr,hk,hs,he⟩,fun i hi=>?_⟩
  obtain⟨o,ho,hx⟩:=h1 i hi
  unfold wpOp
  try rw[ho]
  simp only
  unfold xgo at hx
  split at hx
  ·rename_i g hg
   have hw:=xguard_sound hg he
   cases g with
   | true=>
    rw[if_pos hw]
    exact .inl (xstep_sound (hx.1 rfl) hk hs he fun e' s' k' a' w' q1 q2 q3 q4=>ih q1 q2 q3 q4)
   | false=>
    rw[if_neg (by rw[hw];simp)]
    obtain⟨hd,hx⟩:=hx.2 rfl
    exact ih hx hk hs (he.put hd (.v _))
  ·exact hx.elim
theorem AnyR.take {i:Nat} {oi:Oper} {z:AV} (hi:ops[i]?=some oi) (hir:i≠r) (hpre:preB ops ops.size r i=true) (n:Nat):∀ (listed:Array Bool) (e:Env) (s:St),Closed ops listed →
  (∀ (j:Nat) (oj:Oper),ops[j]?=some oj→j≠i→listed.getD j true=false→(∀ x∈oj.after,Region.binds .any x=true→x.on≠i)→oi.apart ops oj=true) →
  i∈Region.ready .any ops listed→(∀ s,heldEq s0 held s→Takes P ops oi e s z)→dstOk oi.dst e.n=true →
  AnyR P ops s0 held r K n (listed.setIfInBounds i true) (e.put oi.dst z) s→AnyR P ops s0 held r K (n+1) listed e s:=by
 have hlt:i<ops.size:=(Array.getElem?_eq_some_iff.1 hi).1
 have key:∀ (listed:Array Bool) (s:St),Closed ops listed→i∈Region.ready .any ops listed→HeldR s0 held r (listed.setIfInBounds i true) s→heldEq s0 held s∧HeldR s0 held r listed s:=by
  intro listed s hc hr hh
  have hi0:listed.getD i false≠true:=fun h=>by
   have:=(mem_ready.1 hr).1
   by_cases hl:i<listed.size
   ·simp [hl] at this h
    rw[this] at h
    cases h
   ·simp [Nat.le_of_not_lt hl] at this
  have hr0:listed.getD r false=false:=by
   cases hq:listed.getD r false with
   | false=>rfl
   | true=>exact absurd (pre_spec hc _ r hpre hq) hi0
  have h1:heldEq s0 held s:=hh (by rw[getD_set_ne false hir];exact hr0)
  exact⟨h1,fun _=>h1⟩
 induction n with
 | zero=>
  intro listed e s hc hap hr ht hd h
  obtain⟨q1,q2⟩:=key listed s hc hr h.heldR
  refine⟨q2,fun h0=>(by rw[h0] at hr;cases hr),fun j hj=>?_⟩
  by_cases hji:j=i
  ·subst hji
   exact⟨oi,hi,(ht s q1).go hd h⟩
  ·have:=ready_mono (md:=.any) (ops:=ops) hj hji
   rw[h.2.1] at this
   cases this
 | succ n ih=>
  intro listed e s hc hap hr ht hd h
  obtain⟨q1,q2⟩:=key listed s hc hr h.heldR
  refine⟨q2,fun h0=>(by rw[h0] at hr;cases hr),fun j hj=>?_⟩
  by_cases hji:j=i
  ·subst hji
   exact⟨oi,hi,(ht s q1).go hd h⟩
  ·have hj':=ready_mono (md:=.any) (ops:=ops) hj hji
   obtain⟨oj,hoj,hx⟩:=h.2.2 j hj'
   refine⟨oj,hoj,?_⟩
   have hjr:=mem_ready.1 hj
   have hir:=mem_ready.1 hr
   obtain⟨hj0,oj2,hoj2,hjall⟩:=hjr
   rw[hoj] at hoj2
   injection hoj2 with hoj2
   subst hoj2
   have hapj:=hap j oj hoj hji hj0 (fun x hx hb he=>by
    have:=hjall x hx hb
    rw[he] at this
    have h1:listed.getD i true=false:=hir.1
    by_cases hl:i<listed.size
    ·simp [hl] at this h1
     rw[h1] at this
     cases this
    ·simp [Nat.le_of_not_lt hl] at h1)
   refine xgo_mono (xgo_put hapj hx) fun e' s' ⟨hn,y,hy⟩=>?_
   subst hy
   obtain⟨_,_,h3⟩:=Oper.apart_spec hapj
   refine ih _ _ _ (closed_set hc hj) ?_ (ready_mono hr (Ne.symm hji)) (fun s hs=>(ht s hs).put h3) (by rw[Env.put_n];exact hd) ?_
   ·intro q oq hoq hqi hq0 hqn
    exact hap q oq hoq hqi (by
     by_cases hqj:j=q
     ·subst hqj
      by_cases hl:j<listed.size
      ·simp [hl] at hq0
      ·simp [Nat.le_of_not_lt hl] at hq0
     ·rwa [getD_set_ne true hqj] at hq0) hqn
   ·rw[Array.setIfInBounds_comm _ _ hji]
    exact hn
end
def tailOk (ops:Array Oper):List Nat→Nat→Array Bool→Bool
 | [],_,listed=>Region.ready .any ops listed==[]
 | j::tl,n+1,listed=>Region.ready .any ops listed==[j]&&decide (j<listed.size)&&tailOk ops tl n (listed.setIfInBounds j true)
 | _::_,0,_=>false
def planOkR (ops:Array Oper) (r:Nat) (tl:List Nat):Plan→Nat→Array Bool→Bool
 | .done,n,listed=>tailOk ops (r::tl) n listed
 | .take i p,n+1,listed=>(Region.ready .any ops listed).contains i&&Region.free .any ops listed i&&preB ops ops.size r i&&i != r&&planOkR ops r tl p n (listed.setIfInBounds i true)
 | .one i p,n+1,listed=>Region.ready .any ops listed==[i]&&i != r&&planOkR ops r tl p n (listed.setIfInBounds i true)
 | _,_,_=>false
def TailK (P:Program) (ops:Array Oper) (K:Env→St→Prop):List Nat→Env→St→Prop
 | [],e,s=>K e s
 | j::tl,e,s=>match ops[j]? with
  | some o=>xgo P ops o e s (TailK P ops K tl)
  | none=>False
def TG (P:Program) (ops:Array Oper) (K:Env→St→Prop) (tl:List Nat) (e:Env) (s:St) (o:Oper):Prop:=xgo P ops o e s (TailK P ops K tl)
theorem tl_nil (ops:Array Oper) (K:Env→St→Prop) (e:Env) (d:Option Nat) (z:AV) (s:St):TailK P ops K [] (e.put d z) s=K (e.put d z) s:=rfl
theorem tl_cons (ops:Array Oper) (K:Env→St→Prop) (j:Nat) (tl:List Nat) (e:Env) (d:Option Nat) (z:AV) (s:St):TailK P ops K (j::tl) (e.put d z) s=onO (ops[j]?) (TG P ops K tl (e.put d z) s):=by
 unfold onO
 rw[TailK]
 cases ops[j]? <;> rfl
theorem tg_go (ops:Array Oper) (K:Env→St→Prop) (tl:List Nat) (e:Env) (s:St) (d:Option Nat) (op:Op) (ty:TypeId) (pos:String) (af:Array Edge) (g:Option (Nat × Bool)):TG P ops K tl e s ⟨d,op,ty,pos,af,g⟩=xgo P ops ⟨d,op,ty,pos,af,g⟩ e s (TailK P ops K tl):=rfl
theorem tail_any {ops:Array Oper} {s0:St} {held:List Nat} {r:Nat} {K:Env→St→Prop} (tl:List Nat):∀ (n:Nat) (listed:Array Bool) (e:Env) (s:St),tailOk ops tl n listed=true→listed.getD r false=true→TailK P ops K tl e s→AnyR P ops s0 held r K n listed e s:=by
 induction tl with
 | nil=>
  intro n listed e s hp hr h
  simp only[tailOk,beq_iff_eq] at hp
  have hh:HeldR s0 held r listed s:=fun q=>by rw[hr] at q;cases q
  cases n with
  | zero=>exact⟨hh,hp,h⟩
  | succ n=>exact⟨hh,fun _=>h,by rw[hp];simp⟩
 | cons j tl ih=>
  intro n listed e s hp hr h
  cases n with
  | zero=>cases hp
  | succ n=>
   simp only[tailOk,Bool.and_eq_true,beq_iff_eq] at hp
   unfold TailK at h
   split at h
   ·rename_i o ho
    refine⟨fun q=>(by rw[hr] at q;cases q),fun h0=>(by rw[hp.1.1] at h0;cases h0),fun i hi=>?_⟩
    rw[hp.1.1] at hi
    obtain rfl:i=j:=by simpa using hi
    exact⟨o,ho,xgo_mono h fun e' s' q=>ih n _ _ _ hp.2 (getD_set_true hr) q⟩
   ·exact h.elim
theorem xplanR_any {ops:Array Oper} {s0:St} {held:List Nat} {r:Nat} {tl:List Nat} {K:Env→St→Prop} (p:Plan):∀ (n:Nat) (listed:Array Bool) (e:Env) (s:St),planOkR ops r tl p n listed=true→Closed ops listed→heldEq s0 held s→xplan P ops s0 held (TailK P ops K (r::tl)) p e s→AnyR P ops s0 held r K n listed e s:=by
 induction p with
 | done=>
  intro n listed e s hp hc hh h
  cases n with
  | zero=>cases hp
  | succ n=>
   simp only[planOkR,tailOk,Bool.and_eq_true,beq_iff_eq,decide_eq_true_eq] at hp
   unfold xplan TailK at h
   split at h
   ·rename_i o ho
    refine⟨fun _=>hh,fun h0=>(by rw[hp.1.1] at h0;cases h0),fun i hi=>?_⟩
    rw[hp.1.1] at hi
    obtain rfl:i=r:=by simpa using hi
    exact⟨o,ho,xgo_mono h fun e' s' q=>tail_any tl n _ _ _ hp.2 (by simp [hp.1.2]) q⟩
   ·exact h.elim
 | take i p ih=>
  intro n listed e s hp hc hh h
  cases n with
  | zero=>cases hp
  | succ n=>
   simp only[planOkR,Bool.and_eq_true,bne_iff_ne] at hp
   obtain⟨⟨⟨⟨hr,hf⟩,hpre⟩,hir⟩,hp⟩:=hp
   have hr':i∈Region.ready .any ops listed:=by simpa using hr
   unfold xplan at h
   split at h
   ·exact h.elim
   ·rename_i o ho
    obtain⟨ht,hd,h⟩:=h
    exact AnyR.take ho hir hpre n listed e s hc (Region.free_spec ho hf) hr' ht hd (ih n _ _ _ hp (closed_set hc hr') hh h)
 | one i p ih=>
  intro n listed e s hp hc hh h
  cases n with
  | zero=>cases hp
  | succ n=>
   simp only[planOkR,Bool.and_eq_true,beq_iff_eq,bne_iff_ne] at hp
   obtain⟨⟨hr,hir⟩,hp⟩:=hp
   unfold xplan at h
   split at h
   ·exact h.elim
   ·rename_i o ho
    refine⟨fun _=>hh,fun h0=>(by rw[hr] at h0;cases h0),fun j hj=>?_⟩
    have hj':=hj
    rw[hr] at hj
    obtain rfl:j=i:=by simpa using hj
    exact⟨o,ho,xgo_mono h fun e' s' ⟨q1,q2⟩=>ih n _ _ _ hp (closed_set hc hj') q1 q2⟩
 | two i p j q ihp ihq=>
  intro n listed e s hp
  cases n <;> cases hp
theorem aw_drwR {id:Nat} {l:List Oper} {m0:Nat} {e:Env} {s:St} {Q:Exit→Env→St→Prop} (p:Plan) (r:Nat) (tl:List Nat) (held:List Nat) (hm:P.follows .mixedOrders=true) (hp:planOkR l.toArray r tl p l.toArray.size (Array.replicate l.toArray.size false)=true)
  (h:∀ K:Env→St→Prop,(∀ e s,Q .normal e s→K e s)→xpl P l.toArray held (TailK P l.toArray K (r::tl)) p (e.put none .no) s):AW P (.region id l.toArray true) m0 e s Q:=by
 intro w0 kb k w a hk hs he
 exact wp_region_any hm (AnyR.sound _ (xplanR_any p _ _ _ _ hp (closed_none _ _) (heldEq_refl s held) (xpl_plan p _ s (heldEq_refl s held) (h _ fun _ _ h=>h))) hk (hs.drew _) he)
theorem trows (P:Program) :
  (∀ (ops:Array Oper) (K:Env→St→Prop) (e:Env) (d:Option Nat) (z:AV) (s:St),TailK P ops K [] (e.put d z) s=K (e.put d z) s) ∧
  (∀ (ops:Array Oper) (K:Env→St→Prop) (j:Nat) (tl:List Nat) (e:Env) (d:Option Nat) (z:AV) (s:St),TailK P ops K (j::tl) (e.put d z) s=onO (ops[j]?) (TG P ops K tl (e.put d z) s)) ∧
  (∀ (ops:Array Oper) (K:Env→St→Prop) (tl:List Nat) (e:Env) (s:St) (d:Option Nat) (op:Op) (ty:TypeId) (pos:String) (af:Array Edge) (g:Option (Nat × Bool)),TG P ops K tl e s ⟨d,op,ty,pos,af,g⟩=xgo P ops ⟨d,op,ty,pos,af,g⟩ e s (TailK P ops K tl)):=
 ⟨fun ops K e d z s=>tl_nil ops K e d z s,fun ops K j tl e d z s=>tl_cons ops K j tl e d z s,fun ops K tl e s d op ty pos af g=>tg_go ops K tl e s d op ty pos af g⟩
theorem aw_way {x:Code} {m0:Nat} {e:Env} {s:St} {Q:Exit→Env→St→Prop} (I:Env→St→Prop) (h1:AW P x m0 e s fun ex e' s'=>(ex=.normal∧I e' s')∨(ex=.ret∧Q .ret e' s')) (h2:∀ e' s',I e' s'→Q .normal e' s'):AW P x m0 e s Q:=
 aw_mono h1 fun ex e' s' h=>by
  rcases h with ⟨hn,hI⟩ | ⟨hn,hQ⟩
  ·subst hn;exact h2 e' s' hI
  ·subst hn;exact hQ
end Ax
end Go.Proofs.YtdaeancgockacaaGreatDoor
