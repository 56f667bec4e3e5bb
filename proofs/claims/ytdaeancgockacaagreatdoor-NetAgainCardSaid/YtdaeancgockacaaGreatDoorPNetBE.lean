/- A part of the proof. -/
import Derived.Test.YtdaeancgockacaaGreatDoorPNetBD
import Derived.KernelRfl
import Derived.Lib.UnsafeStr
import Derived.Test.YtdaeancgockacaaGreatDoorProg
import Derived.Below
import Derived.Deep.Draws
import Derived.OwnWalk
import Derived.Tactics
import Derived.WalkKit
import Derived.RowKit3
import Derived.Deep.QuietTactic
import Derived.BigQuiet
import Derived.Lib.SlBytesConst
import Derived.Lib.ConvBytes
import Derived.Laws.OwnMore
import Derived.Laws.MakeOwn
import Derived.Laws.Rows
import Derived.Maps.AppendAt
import Derived.WalkSpells
import Derived.WalkLawsBesides
import Derived.Deep.DeepFit
import Derived.Outline
import Derived.Lib.IndexLaws
import Derived.Lib.FieldsP
import Derived.Lib.TrimUEq
import Derived.Lib.Case
set_option linter.unusedVariables false
set_option linter.unusedSimpArgs false
set_option maxHeartbeats 4000000
set_option maxRecDepth 4000
namespace Go.Proofs.YtdaeancgockacaaGreatDoor
namespace NetG
open CardS CardP NetS NetP NumS
def subsB (p:Par) (b:Int × Int):Int × Int:=(List.range p.c.subs.length).foldl (fun b k=>lookP p.c.models (p.c.subs.take k) ((p.c.subs.map Sub.cards).getD k []) (((p.c.subs.map Sub.cards).getD k []).zip (p.subPl.getD k [])) b) b
theorem refsP_eq (p:Par):refsP p=lookP p.c.models p.c.subs p.c.cards (p.c.cards.zip p.places) (subsB p (1073741824,0)):=rfl
theorem readC_right (w:List Str) (h:(readC w).2=0):rightC (readC w).1=true:=by
 cases w with
 | nil=>exact absurd h (by decide)
 | cons w0 ws=>exact(read_right w0 ws (readC (w0::ws)).1 (Prod.ext rfl h)).1
theorem linesN_append:∀ (L M:List Line) (p:Par),linesN p (L++M)=if (linesN p L).2.2≠0 then linesN p L else linesN (linesN p L).1 M
 | [],M,p=>by rw[List.nil_append,linesN,if_neg (by simp)]
 | l::L,M,p=>by
  have e1:∀ X,linesN p (l::X)=if (lineN p l).2≠0 then ((lineN p l).1,l.1,(lineN p l).2) else linesN (lineN p l).1 X:=fun X=>rfl
  rw[List.cons_append]
  by_cases h:(lineN p l).2=0
  ·have e2:∀ X,linesN p (l::X)=linesN (lineN p l).1 X:=fun X=>(e1 X).trans (if_neg (by simpa using h))
   rw[e2,e2]
   exact linesN_append L M _
  ·have e2:∀ X,linesN p (l::X)=((lineN p l).1,l.1,(lineN p l).2):=fun X=>(e1 X).trans (if_pos h)
   rw[e2,e2,if_pos h]
theorem parseL_bad (L:List Line) (h:(linesN par0 L).2.2≠0):parseL L=(cir0,(linesN par0 L).2.1,(linesN par0 L).2.2):=if_pos h
theorem parseL_in (L:List Line) (h:(linesN par0 L).2.2=0) (hi:(linesN par0 L).1.inside=true):parseL L=(cir0,(linesN par0 L).1.begun,80):=(if_neg (by simpa using h)).trans (if_pos hi)
theorem parseL_out (L:List Line) (h:(linesN par0 L).2.2=0) (hi:(linesN par0 L).1.inside=false) :
  parseL L=if (refsP (linesN par0 L).1).2≠0 then (cir0,(refsP (linesN par0 L).1).1,(refsP (linesN par0 L).1).2) else ((linesN par0 L).1.c,0,0):=(if_neg (by simpa using h)).trans (if_neg (by rw[hi];simp))
end NetG
namespace NetR
open CardS CardP CardQ NetS NetP NetG NumS
theorem lookP_zero (models:List Mdl) (subs:List Sub) (cards:List Crd):∀ (r:List (Crd × Int)) (b:Int × Int),(∀ x∈r,x.2<1073741824)→(lookP models subs cards r b).2=0 →
  lookP models subs cards r b=b∧(b.1=1073741824→∀ x∈r,refE x.1 cards models subs=0)
 | [],b,_,_=>⟨rfl,fun _ x hx=>by cases hx⟩
 | (x,a)::r,b,h,hz=>by
  rw[lookP] at hz ⊢
  obtain⟨h1,h2⟩:=lookP_zero models subs cards r _ (fun y hy=>h y (List.mem_cons_of_mem _ hy)) hz
  rw[h1] at hz ⊢
  by_cases hc:refE x cards models subs≠0∧a<b.1
  ·rw[if_pos hc] at hz
   exact absurd hz hc.1
  ·rw[if_neg hc] at h2 ⊢
   refine⟨rfl,fun hb y hy=>?_⟩
   rcases List.mem_cons.1 hy with rfl | hy
   ·have ha:=h (x,a) (List.mem_cons_self ..)
    by_cases g:refE x cards models subs=0
    ·exact g
    ·exact absurd ⟨g,by rw[hb];exact ha⟩ hc
   ·exact h2 hb y hy
theorem lookP_none (models:List Mdl) (subs:List Sub) (cards:List Crd):∀ (r:List (Crd × Int)) (b:Int × Int),(∀ x∈r,refE x.1 cards models subs=0)→lookP models subs cards r b=b
 | [],b,_=>rfl
 | (x,a)::r,b,h=>by
  rw[lookP,if_neg (fun g=>g.1 (h (x,a) (List.mem_cons_self ..)))]
  exact lookP_none models subs cards r b fun y hy=>h y (List.mem_cons_of_mem _ hy)
theorem lookE_zero (models:List Mdl) (subs:List Sub) (cards:List Crd):∀ (r:List Crd) (w:Int),(r.foldl (fun w x=>worse w (refE x cards models subs)) w=0↔w=0∧∀ x∈r,refE x cards models subs=0)
 | [],w=>⟨fun h=>⟨h,fun x hx=>by cases hx⟩,fun h=>h.1⟩
 | x::r,w=>by
  rw[List.foldl_cons,lookE_zero models subs cards r]
  constructor
  ·rintro ⟨h1,h2⟩
   unfold worse at h1
   split at h1
   ·rename_i g
    exact absurd h1 g.1
   ·rename_i g
    refine⟨h1,fun y hy=>?_⟩
    rcases List.mem_cons.1 hy with rfl | hy
    ·by_cases q:refE y cards models subs=0
     ·exact q
     ·exact absurd ⟨q,by omega⟩ g
    ·exact h2 y hy
  ·rintro ⟨h1,h2⟩
   refine⟨?_,fun y hy=>h2 y (List.mem_cons_of_mem _ hy)⟩
   unfold worse
   rw[if_neg (fun g=>g.1 (h2 x (List.mem_cons_self ..)))]
   exact h1
theorem mem_zip_of {α β:Type}:∀ (l:List α) (m:List β),m.length=l.length→∀ x∈l,∃ a,(x,a)∈l.zip m
 | [],m,_,x,hx=>by cases hx
 | y::l,[],h,x,hx=>by cases h
 | y::l,b::m,h,x,hx=>by
  rcases List.mem_cons.1 hx with rfl | hx
  ·exact⟨b,by simp⟩
  ·obtain⟨a,ha⟩:=mem_zip_of l m (by simpa using h) x hx
   exact⟨a,by rw[List.zip_cons_cons];exact List.mem_cons_of_mem _ ha⟩
def allRefs (c:Cir):Prop:=(∀ x∈c.cards,refE x c.cards c.models c.subs=0)∧∀ k,k<c.subs.length→∀ x∈(c.subs.map Sub.cards).getD k [],refE x ((c.subs.map Sub.cards).getD k []) c.models (c.subs.take k)=0
theorem refsE_zero (c:Cir):refsE c=0↔allRefs c:=by
 unfold refsE lookE
 rw[lookE_zero]
 have:∀ (ks:List Nat) (w:Int),(ks.foldl (fun w k=>((c.subs.map Sub.cards).getD k []).foldl (fun w x=>worse w (refE x ((c.subs.map Sub.cards).getD k []) c.models (c.subs.take k))) w) w=0 ↔
   w=0∧∀ k∈ks,∀ x∈(c.subs.map Sub.cards).getD k [],refE x ((c.subs.map Sub.cards).getD k []) c.models (c.subs.take k)=0):=by
  intro ks
  induction ks with
  | nil=>exact fun w=>⟨fun h=>⟨h,fun k hk=>by cases hk⟩,fun h=>h.1⟩
  | cons k ks ih=>
   intro w
   rw[List.foldl_cons,ih,lookE_zero]
   constructor
   ·rintro ⟨⟨h1,h2⟩,h3⟩
    refine⟨h1,fun j hj=>?_⟩
    rcases List.mem_cons.1 hj with rfl | hj
    ·exact h2
    ·exact h3 j hj
   ·rintro ⟨h1,h2⟩
    exact⟨⟨h1,h2 k (List.mem_cons_self ..)⟩,fun j hj=>h2 j (List.mem_cons_of_mem _ hj)⟩
 rw[this]
 unfold allRefs
 simp only[List.mem_range,true_and]
 exact And.comm
theorem refsP_zero (p:Par) (hl:p.places.length=p.c.cards.length) (hs:∀ k,k<p.c.subs.length→(p.subPl.getD k []).length=((p.c.subs.map Sub.cards).getD k []).length) (hp:Pl (fun a=>a<1073741824) p):(refsP p).2=0↔allRefs p.c:=by
 rw[refsP_eq]
 have hsub:∀ k,k<p.c.subs.length→∀ x∈((p.c.subs.map Sub.cards).getD k []).zip (p.subPl.getD k []),x.2<1073741824:=by
  intro k hk x hx
  have hm:=(List.of_mem_zip hx).2
  rw[List.getD_eq_getElem?_getD] at hm
  cases hq:p.subPl[k]? with
  | none=>rw[hq] at hm;cases hm
  | some l=>
   rw[hq] at hm
   exact hp.s l (List.mem_of_getElem? hq) _ hm
 have hB:∀ (ks:List Nat) (b:Int × Int),(∀ k∈ks,k<p.c.subs.length)→(ks.foldl (fun b k=>lookP p.c.models (p.c.subs.take k) ((p.c.subs.map Sub.cards).getD k []) (((p.c.subs.map Sub.cards).getD k []).zip (p.subPl.getD k [])) b) b).2=0 →
   ks.foldl (fun b k=>lookP p.c.models (p.c.subs.take k) ((p.c.subs.map Sub.cards).getD k []) (((p.c.subs.map Sub.cards).getD k []).zip (p.subPl.getD k [])) b) b=b ∧
   (b.1=1073741824→∀ k∈ks,∀ x∈(p.c.subs.map Sub.cards).getD k [],refE x ((p.c.subs.map Sub.cards).getD k []) p.c.models (p.c.subs.take k)=0):=by
  intro ks
  induction ks with
  | nil=>exact fun b _ _=>⟨rfl,fun _ k hk=>by cases hk⟩
  | cons k ks ih=>
   intro b hk hz
   rw[List.foldl_cons] at hz ⊢
   obtain⟨h1,h2⟩:=ih _ (fun j hj=>hk j (List.mem_cons_of_mem _ hj)) hz
   rw[h1] at hz ⊢
   have hkl:=hk k (List.mem_cons_self ..)
   obtain⟨g1,g2⟩:=lookP_zero _ _ _ _ b (hsub k hkl) hz
   rw[g1] at h2
   refine⟨g1,fun hb j hj=>?_⟩
   rcases List.mem_cons.1 hj with rfl | hj
   ·intro x hx
    obtain⟨a,ha⟩:=mem_zip_of _ _ (hs j hkl) x hx
    exact g2 hb _ ha
   ·exact h2 hb j hj
 constructor
 ·intro hz
  obtain⟨h1,h2⟩:=lookP_zero _ _ _ _ _ (fun x hx=>hp.c _ (List.of_mem_zip hx).2) hz
  rw[h1] at hz
  obtain⟨g1,g2⟩:=hB (List.range p.c.subs.length) (1073741824,0) (fun k hk=>List.mem_range.1 hk) hz
  have e:subsB p (1073741824,0)=(1073741824,0):=g1
  rw[e] at h2
  refine⟨fun x hx=>?_,fun k hk=>g2 rfl k (List.mem_range.2 hk)⟩
  obtain⟨a,ha⟩:=mem_zip_of _ _ hl x hx
  exact h2 rfl _ ha
 ·rintro ⟨h1,h2⟩
  have hN:∀ (ks:List Nat) (b:Int × Int),(∀ k∈ks,k<p.c.subs.length)→ks.foldl (fun b k=>lookP p.c.models (p.c.subs.take k) ((p.c.subs.map Sub.cards).getD k []) (((p.c.subs.map Sub.cards).getD k []).zip (p.subPl.getD k [])) b) b=b:=by
   intro ks
   induction ks with
   | nil=>exact fun b _=>rfl
   | cons k ks ih=>
    intro b hk
    rw[List.foldl_cons,lookP_none _ _ _ _ b fun x hx=>h2 k (hk k (List.mem_cons_self ..)) _ (List.of_mem_zip hx).1]
    exact ih b fun j hj=>hk j (List.mem_cons_of_mem _ hj)
  have e:subsB p (1073741824,0)=(1073741824,0):=hN _ _ fun k hk=>List.mem_range.1 hk
  rw[e,lookP_none _ _ _ _ _ fun x hx=>h1 _ (List.of_mem_zip hx).1]
end NetR
namespace NetT
open CardS CardP CardQ NetS NetP NetG NetR NumS
def okSub (s:Sub):Prop:=subOk s=true∧s.ports.Nodup∧(∀ x∈s.cards,rightC x=true)∧(names s.cards).Nodup∧s.cards.length≤64
structure Rt (p:Par):Prop where
 st:valid p.c.step=true∧0<p.c.step.1
 me:p.c.method=1∨p.c.method=2
 mo:∀ m∈p.c.models,modelOk m=true
 mn:(p.c.models.map Mdl.name).Nodup
 ml:p.c.models.length≤16
 so:∀ s∈p.c.subs,okSub s
 sn:(p.c.subs.map Sub.name).Nodup
 sl:p.c.subs.length≤8
 co:∀ x∈p.c.cards,rightC x=true
 cn:(names p.c.cards).Nodup
 cl:p.c.cards.length≤64
 pl:p.places.length=p.c.cards.length
 ps:p.subPl.map List.length=p.c.subs.map fun s=>s.cards.length
theorem lastMap_snoc {α:Type} (f:α→α):∀ (l:List α) (a:α),lastMap f (l++[a])=l++[f a]
 | [],a=>rfl
 | [b],a=>rfl
 | b::c::l,a=>by
  have:=lastMap_snoc f (c::l) a
  rw[List.cons_append] at this
  rw[List.cons_append,List.cons_append,lastMap,this]
  rfl
theorem lastMap_map {α β:Type} (f:α→α) (g:α→β) (h:β→β) (e:∀ x,g (f x)=h (g x)):∀ l:List α,(lastMap f l).map g=lastMap h (l.map g)
 | []=>rfl
 | [a]=>by simp [lastMap,e]
 | a::b::l=>by
  have:=lastMap_map f g h e (b::l)
  rw[lastMap,List.map_cons,this]
  rfl
theorem snoc_nodup {l:List Str} (h:l.Nodup) (x:Str) (hx:¬x∈l):(l++[x]).Nodup:=by
 rw[List.nodup_append]
 refine⟨h,by simp,fun a ha b hb=>?_⟩
 rw[List.mem_singleton] at hb
 subst hb
 exact fun e=>hx (e ▸ ha)
theorem not_any {α:Type} (l:List α) (g:α→Str) (x:Str) (h:¬l.any (fun o=>decide (g o=x))=true):¬x∈l.map g:=by
 intro hx
 obtain⟨o,ho,e⟩:=List.mem_map.1 hx
 exact h (List.any_eq_true.2 ⟨o,ho,decide_eq_true e⟩)
theorem step_ok (s:Str) (h:(parseS s).2.2=0):valid (numV s)=true:=by
 rcases parse_right s with ⟨_,q⟩ | q | q
 ·exact(NumH.ok_valid _ _).2 q
 ·rw[q] at h;exact absurd (show (30:Int)=0 from h) (by decide)
 ·rw[q] at h;exact absurd (show (3:Int)=0 from h) (by decide)
theorem card_rt (cards:List Crd) (x:Crd) (h1:∀ x∈cards,rightC x=true) (h2:(names cards).Nodup) (h3:cards.length≤64) (hx:rightC x=true) (hn:¬cards.any (fun o=>decide (o.name=x.name))=true) (hl:¬cards.length=64) :
  (∀ y∈cards++[x],rightC y=true)∧(names (cards++[x])).Nodup∧(cards++[x]).length≤64:=by
 refine⟨fun y hy=>?_,?_,by rw[List.length_append,List.length_singleton];omega⟩
 ·rcases List.mem_append.1 hy with k | k
  ·exact h1 y k
  ·rw[List.mem_singleton] at k
   rw[k]
   exact hx
 ·unfold names at h2 ⊢
  rw[List.map_append]
  exact snoc_nodup h2 _ (not_any _ _ _ hn)
theorem addSub_rt {p:Par} (h:Rt p) (l:Line) (hc:3≤l.2.length∧l.2.length≤10):Rt (addSub p l).1:=by
 unfold addSub
 simp only
 split
 ·exact h
 rename_i h1
 split
 ·exact h
 rename_i h2
 split
 ·exact h
 rename_i h3
 split
 ·exact h
 rename_i h4
 split
 ·exact h
 rename_i h5
 refine⟨h.st,h.me,h.mo,h.mn,h.ml,fun s hs=>?_,?_,?_,h.co,h.cn,h.cl,h.pl,?_⟩
 ·rcases List.mem_append.1 hs with k | k
  ·exact h.so s k
  ·rw[List.mem_singleton] at k
   subst k
   obtain⟨at_,w⟩:=l
   match w,hc with
   | a::b::c::r,hc=>
    simp only[List.drop_succ_cons,List.drop_zero] at h1 h2 h3
    refine⟨?_,?_,fun x hx=>(by cases hx),by simp [names],by simp⟩
    ·unfold subOk
     simp only[List.getD_cons_succ,List.getD_cons_zero,List.drop_succ_cons,List.drop_zero]
     rw[Bool.not_eq_false] at h1 h2
     rw[List.all_cons,Bool.and_eq_true] at h1
     simp only[List.length_cons] at hc ⊢
     rw[h1.1,Bool.true_and,Bool.and_eq_true,decide_eq_true_iff]
     refine⟨by omega,?_⟩
     rw[List.all_eq_true] at h2 ⊢
     have h1':=List.all_eq_true.1 h1.2
     intro x hx
     unfold portOk
     rw[h1' x hx,h2 x hx]
     rfl
    ·simp only[List.drop_succ_cons,List.drop_zero]
     unfold twice at h3
     simpa using h3
   | [],hc=>simp at hc
   | [_],hc=>simp at hc
   | [_,_],hc=>simp at hc
 ·rw[List.map_append]
  exact snoc_nodup h.sn _ (not_any _ _ _ h4)
 ·have:=h.sl
  rw[List.length_append,List.length_singleton]
  omega
 ·rw[List.map_append,List.map_append,h.ps]
  rfl
theorem addCard_rt {p:Par} (h:Rt p) (l:Line):Rt (addCard p l).1:=by
 unfold addCard
 split
 ·exact h
 rename_i h1
 split
 ·exact h
 rename_i h2
 split
 ·exact h
 rename_i h3
 have hx:rightC (readC l.2).1=true:=readC_right _ (by simpa using h1)
 split
 ·rename_i hi
  unfold openL at h2 h3
  rw[if_pos hi] at h2 h3
  refine⟨h.st,h.me,h.mo,h.mn,h.ml,fun s hs=>?_,?_,?_,h.co,h.cn,h.cl,h.pl,?_⟩
  ·rcases List.eq_nil_or_concat p.c.subs with e | ⟨I,a,e⟩ <;> (try rw[List.concat_eq_append] at e)
   ·rw[e] at hs
    cases hs
   ·simp only[e,lastMap_snoc] at hs
    have ha:=h.so a (by rw[e];simp)
    rcases List.mem_append.1 hs with k | k
    ·exact h.so s (by rw[e];exact List.mem_append_left _ k)
    ·rw[List.mem_singleton] at k
     subst k
     rw[e] at h2 h3
     simp only[List.getLast?_concat,List.getLast?_append,List.getLast?_singleton,Option.some_or,Option.map_some,Option.getD_some] at h2 h3
     obtain⟨q1,q2,q3⟩:=card_rt a.cards _ ha.2.2.1 ha.2.2.2.1 ha.2.2.2.2 hx h2 h3
     exact⟨ha.1,ha.2.1,q1,q2,q3⟩
  ·have:(lastMap (fun s:Sub=>{ s with cards:=s.cards++[(readC l.2).1] }) p.c.subs).map Sub.name=lastMap id (p.c.subs.map Sub.name):=lastMap_map (fun s:Sub=>{ s with cards:=s.cards++[(readC l.2).1] }) Sub.name id (fun x=>rfl) _
   have e:∀ l:List Str,lastMap id l=l:=by
    intro l
    induction l with
    | nil=>rfl
    | cons a r ih=>cases r with
     | nil=>rfl
     | cons b r=>rw[lastMap,ih]
   show (List.map Sub.name (lastMap _ p.c.subs)).Nodup
   rw[this,e]
   exact h.sn
  ·have:((lastMap (fun s:Sub=>{ s with cards:=s.cards++[(readC l.2).1] }) p.c.subs).map fun _=>()).length=_:=congrArg List.length (lastMap_map (fun s:Sub=>{ s with cards:=s.cards++[(readC l.2).1] }) (fun _=>()) id (fun x=>rfl) _)
   have e:∀ l:List Unit,(lastMap id l).length=l.length:=by
    intro l
    induction l with
    | nil=>rfl
    | cons a r ih=>cases r with
     | nil=>rfl
     | cons b r=>rw[lastMap,List.length_cons,ih];rfl
   rw[List.length_map,e,List.length_map] at this
   show (lastMap _ p.c.subs).length≤8
   rw[this]
   exact h.sl
  ·show (lastMap _ p.subPl).map List.length=(lastMap _ p.c.subs).map fun s=>s.cards.length
   rw[lastMap_map _ List.length (· + 1) (fun x=>by simp),lastMap_map _ (fun s:Sub=>s.cards.length) (· + 1) (fun x=>by simp),h.ps]
 ·rename_i hi
  unfold openL at h2 h3
  rw[if_neg hi] at h2 h3
  obtain⟨q1,q2,q3⟩:=card_rt p.c.cards _ h.co h.cn h.cl hx h2 h3
  exact⟨h.st,h.me,h.mo,h.mn,h.ml,h.so,h.sn,h.sl,q1,q2,q3,by simp only[List.length_append,List.length_singleton];rw[h.pl],h.ps⟩
theorem lineN_rt {p:Par} (h:Rt p) (l:Line):Rt (lineN p l).1:=by
 unfold lineN
 simp only
 split
 ·exact h
 split
 ·exact h
 rename_i hcnt
 split
 ·unfold setStep
  split
  ·exact h
  rename_i h1
  split
  ·exact h
  rename_i h2
  split
  ·exact h
  ·exact⟨⟨step_ok _ (by simpa using h1),by unfold numV;simp only;omega⟩,h.me,h.mo,h.mn,h.ml,h.so,h.sn,h.sl,h.co,h.cn,h.cl,h.pl,h.ps⟩
 split
 ·unfold setMethod
  split
  ·exact h
  ·refine⟨h.st,?_,h.mo,h.mn,h.ml,h.so,h.sn,h.sl,h.co,h.cn,h.cl,h.pl,h.ps⟩
   simp only
   split
   ·exact .inr rfl
   ·exact h.me
 split
 ·unfold addModel
  split
  ·exact h
  rename_i h1
  split
  ·exact h
  rename_i h2
  split
  ·exact h
  rename_i h3
  refine⟨h.st,h.me,fun m hm=>?_,?_,?_,h.so,h.sn,h.sl,h.co,h.cn,h.cl,h.pl,h.ps⟩
  ·rcases List.mem_append.1 hm with k | k
   ·exact h.mo m k
   ·rw[List.mem_singleton] at k
    rw[k]
    exact readM_right l.2 _ (Prod.ext rfl (by simpa using h1))
  ·show (List.map Mdl.name (_++_)).Nodup
   rw[List.map_append]
   exact snoc_nodup h.mn _ (not_any _ _ _ h2)
  ·have:=h.ml
   rw[List.length_append,List.length_singleton]
   omega
 rename_i n1 n2 n3
 split
 ·rename_i n4
  refine addSub_rt h l ?_
  unfold countOk at hcnt
  simp only at hcnt
  rw[if_neg n1,if_neg n2,if_neg n3,if_pos n4] at hcnt
  simpa using hcnt
 split
 ·exact⟨h.st,h.me,h.mo,h.mn,h.ml,h.so,h.sn,h.sl,h.co,h.cn,h.cl,h.pl,h.ps⟩
 split
 ·exact⟨h.st,h.me,h.mo,h.mn,h.ml,h.so,h.sn,h.sl,h.co,h.cn,h.cl,h.pl,h.ps⟩
 exact addCard_rt h l
theorem linesN_rt:∀ (L:List Line) (p:Par),Rt p→Rt (linesN p L).1
 | [],p,h=>h
 | l::r,p,h=>by
  rw[linesN]
  split
  ·exact lineN_rt h l
  ·exact linesN_rt r _ (lineN_rt h l)
theorem par0_rt:Rt par0:=⟨⟨by decide,by decide⟩,.inl rfl,fun m hm=>(by cases hm),by decide,by decide,fun m hm=>(by cases hm),by decide,by decide,fun m hm=>(by cases hm),by decide,by decide,rfl,rfl⟩
theorem rt_check {p:Par} (h:Rt p) (hr:allRefs p.c):checkN p.c=0:=by
 have hw:∀ x,rightC x=true→cardOk x=true:=fun x hx=>by
  unfold cardOk
  rw[write_right,if_pos hx]
  rfl
 have h1:¬(valid p.c.step=false∨p.c.step.1≤0∨(p.c.method≠1∧p.c.method≠2)):=by
  have:=h.st
  have:=h.me
  rintro (g | g | g)
  ·rw[h.st.1] at g;cases g
  ·omega
  ·omega
 have h2:p.c.models.all modelOk=true:=List.all_eq_true.2 h.mo
 have h3:cardsR p.c=true:=by
  unfold cardsR
  rw[Bool.and_eq_true,Bool.and_eq_true,List.all_eq_true,List.all_eq_true,List.all_eq_true]
  exact⟨fun s hs=>(h.so s hs).1,fun x hx=>hw x (h.co x hx),fun s hs=>List.all_eq_true.2 fun x hx=>hw x ((h.so s hs).2.2.1 x hx)⟩
 have h4:many p.c=false:=by
  unfold many
  have e1:=h.ml
  have e2:=h.sl
  have e3:=h.cl
  rw[decide_eq_false (by omega),decide_eq_false (by omega),decide_eq_false (by omega),Bool.false_or,Bool.false_or,Bool.false_or,List.any_eq_false]
  intro s hs
  have:=(h.so s hs).2.2.2.2
  rw[decide_eq_true_iff]
  omega
 have ht:∀ l:List Str,l.Nodup→twice l=false:=fun l hl=>decide_eq_false (fun g=>g hl)
 have h5:anyTwice p.c=false:=by
  unfold anyTwice
  rw[ht _ h.mn,ht _ h.sn,ht _ h.cn,Bool.or_false,Bool.or_false,Bool.or_false,List.any_eq_false]
  intro s hs
  obtain⟨_,q1,_,q2,_⟩:=h.so s hs
  rw[ht _ q1,ht _ q2]
  simp
 unfold checkN
 rw[if_neg h1,if_neg (by rw[h2];simp),if_neg (by rw[h3];simp),if_neg (by rw[h4];simp),if_neg (by rw[h5];simp)]
 exact(refsE_zero _).2 hr
theorem rt_places {p:Par} (h:Rt p):∀ k,k<p.c.subs.length→(p.subPl.getD k []).length=((p.c.subs.map Sub.cards).getD k []).length:=by
 intro k hk
 have e1:(p.subPl.map List.length).getD k 0=(p.subPl.getD k []).length:=by
  simp only[List.getD_eq_getElem?_getD,List.getElem?_map]
  cases p.subPl[k]? <;> rfl
 have e2:(p.c.subs.map fun s=>s.cards.length).getD k 0=((p.c.subs.map Sub.cards).getD k []).length:=by
  simp only[List.getD_eq_getElem?_getD,List.getElem?_map]
  cases p.c.subs[k]? <;> rfl
 rw[←e1,←e2,h.ps]
theorem parse_check (L:List Line) (hL:∀ l∈L,l.1<1073741824) (h:(parseL L).2.2=0):checkN (parseL L).1=0:=by
 by_cases h0:(linesN par0 L).2.2=0
 ·cases hi:(linesN par0 L).1.inside with
  | true=>rw[parseL_in L h0 hi] at h;exact absurd (show (80:Int)=0 from h) (by decide)
  | false=>
   rw[parseL_out L h0 hi] at h ⊢
   by_cases hq:(refsP (linesN par0 L).1).2=0
   ·rw[if_neg (by simpa using hq)]
    have hr:=linesN_rt L par0 par0_rt
    have hp:=(linesN_pl L par0 (S:=fun a=>a<1073741824) ⟨fun g=>Bool.noConfusion g,fun a ha=>(by cases ha),fun a ha=>(by cases ha)⟩ hL).1
    exact rt_check hr ((refsP_zero _ hr.pl (rt_places hr) hp).1 hq)
   ·rw[if_pos hq] at h
    exact absurd h hq
 ·rw[parseL_bad L h0] at h
  exact absurd h h0
end NetT
namespace NetAA
open Go Go.RowKit Ax Ti NumS NumT CardS CardP CardA CardB CardE CardG CardI CardJ CardK CardL CardN CardX NetS NetA NetE NetM NetN NetQ NetT
theorem gs_same (s:St) (i j:Nat) (c:List AV) (h:j=i):(s.set i c).get j=some c:=if_pos h
theorem gp_same (s:St) (j:Nat) (c:List AV) (h:j=s.nx):(s.push c).get j=some c:=if_pos h
theorem nx_s (s:St) (i:Nat) (c:List AV):(s.set i c).nx=s.nx:=Eq.trans rfl rfl
theorem nx_p (s:St) (c:List AV):(s.push c).nx=s.nx+1:=Eq.trans rfl rfl
theorem nx_k (s:St) (i:Nat):(s.kill i).nx=s.nx:=Eq.trans rfl rfl
theorem stz {A:Prop} (h:A:=by (try intro i hi);first | (show (_:Option (List AV))=_;simp (disch:=first | omega | (simp only[nx_s,nx_p,nx_k];first | done | fail) | (simp only[nx_s,nx_p,nx_k];omega)) only [↓gs_same,↓gp_same,↓St.set_ne,↓St.push_ne,↓St.kill_ne,List.nil_append,Int.reduceToNat];first | done | fail) | omega | (simp only[nx_s,nx_p,nx_k];omega)):A:=h
structure Bx (k n0 nx:Nat) (b:Nat→Nat):Prop where
 lo:∀ i,i<k→n0≤b i
 hi:∀ i,i<k→b i<nx
 ne:∀ i j,i<k→j<k→i≠j→b i≠b j
def bu (b:Nat→Nat) (i x:Nat):Nat→Nat:=fun j=>if j=i then x else b j
theorem Bx.upd {k n0 nx nx':Nat} {b:Nat→Nat} (h:Bx k n0 nx b) (i x:Nat) (h1:nx≤x) (h2:x<nx') (h3:n0≤nx):Bx k n0 nx' (bu b i x):=by
 refine⟨fun j hj=>?_,fun j hj=>?_,fun j l hj hl hne=>?_⟩
 ·unfold bu;split
  ·omega
  ·exact h.lo j hj
 ·unfold bu;split
  ·exact h2
  ·have:=h.hi j hj;omega
 ·have a:=h.hi j hj
  have c:=h.hi l hl
  have d:=h.ne j l hj hl hne
  unfold bu
  split <;> split <;> omega
theorem Bx.add {k n0 nx nx':Nat} {b:Nat→Nat} (h:Bx k n0 nx b) (x:Nat) (h1:nx≤x) (h2:x<nx') (h3:n0≤nx):Bx (k+1) n0 nx' (bu b k x):=by
 refine⟨fun j hj=>?_,fun j hj=>?_,fun j l hj hl hne=>?_⟩
 ·unfold bu;split
  ·omega
  ·exact h.lo j (by omega)
 ·unfold bu;split
  ·exact h2
  ·have:=h.hi j (by omega);omega
 ·unfold bu
  by_cases q1:j=k <;> by_cases q2:l=k
  ·omega
  ·rw[if_pos q1,if_neg q2];have:=h.hi l (by omega);omega
  ·rw[if_neg q1,if_pos q2];have:=h.hi j (by omega);omega
  ·rw[if_neg q1,if_neg q2];exact h.ne j l (by omega) (by omega) hne
theorem Bx.mono {k n0 nx nx':Nat} {b:Nat→Nat} (h:Bx k n0 nx b) (hn:nx≤nx'):Bx k n0 nx' b:=⟨h.lo,fun i hi=>Nat.lt_of_lt_of_le (h.hi i hi) hn,h.ne⟩
theorem Bx.less {k k' n0 nx:Nat} {b:Nat→Nat} (h:Bx k n0 nx b) (hk:k'≤k):Bx k' n0 nx b:=⟨fun i hi=>h.lo i (by omega),fun i hi=>h.hi i (by omega),fun i j hi hj=>h.ne i j (by omega) (by omega)⟩
def lastC (p:Par):List Crd:=(p.c.subs.getLast?.map Sub.cards).getD []
def lastP (p:Par):List Int:=p.subPl.getLast?.getD []
def subsL (p:Par) (x:AV):List AV:=if p.inside=true then (UL p.c.subs).set ((p.c.subs.length-1)*3+2) x else UL p.c.subs
def plsL (p:Par) (x:AV):List AV:=if p.inside=true then (p.subPl.map IV).set (p.subPl.length-1) x else p.subPl.map IV
def nb (p:Par):Nat:=if p.inside=true then 8 else 6
structure PS (n0:Nat) (s:St) (b:Nat→Nat) (p:Par):Prop where
 bx:Bx (nb p) n0 s.nx b
 h0:s.get (b 0)=some (PC p (.own (b 1) 0 p.c.models.length 4) (.own (b 2) 0 p.c.subs.length 3) (.own (b 3) 0 p.c.cards.length 8) (.own (b 4) 0 p.places.length 1) (.own (b 5) 0 p.subPl.length 1))
 h1:s.get (b 1)=some (ML p.c.models)
 h2:s.get (b 2)=some (subsL p (.own (b 6) 0 (lastC p).length 8))
 h3:s.get (b 3)=some (KL p.c.cards)
 h4:s.get (b 4)=some (IL p.places)
 h5:s.get (b 5)=some (plsL p (.own (b 7) 0 (lastP p).length 1))
 h6:p.inside=true→s.get (b 6)=some (KL (lastC p))
 h7:p.inside=true→s.get (b 7)=some (IL (lastP p))
theorem nb_six (p:Par):6≤nb p:=by unfold nb;split <;> omega
theorem PS.n {n0:Nat} {s:St} {b:Nat→Nat} {p:Par} (h:PS n0 s b p):n0≤s.nx:=by
 have h6:=nb_six p
 have h1:=h.bx.lo 0 (by omega)
 have h2:=h.bx.hi 0 (by omega)
 omega
def PR (n0:Nat) (s s':St) (b:Nat→Nat) (p:Par) (q:Par × Int):Prop:=s.nx≤s'.nx∧(∀ i,i<s.nx→(∀ j,j<nb p→i≠b j)→s'.get i=s.get i)∧(q.2=0→∃ b',b' 0=b 0∧PS n0 s' b' q.1)
theorem PR.no {n0:Nat} {s s':St} {b:Nat→Nat} {p q:Par} {e:Int} (h:PS n0 s b p) (he:e≠0) (hn:s.nx≤s'.nx) (hf:∀ i,i<s.nx→s'.get i=s.get i):PR n0 s s' b p (q,e):=
 ⟨hn,fun i hi _=>hf i hi,fun g=>absurd g he⟩
def LA (l:Line):AV:=.ag [.v (.int .i64 l.1),TV l.2]
theorem by_name {x:Str} (h:isName x=true):By x:=by
 unfold isName at h
 simp only[Bool.and_eq_true,decide_eq_true_iff,List.all_eq_true] at h
 intro c hc
 have:=h.2 c hc
 unfold nameC at this
 simp only[Bool.or_eq_true,Bool.and_eq_true,decide_eq_true_iff] at this
 omega
end NetAA
namespace NetAM
open Go Go.RowKit Ax Ti NumS NumT CardS CardP CardA CardB CardE CardG CardI CardJ CardK CardL CardR CardX NetS NetA NetE NetF NetX NetAA
theorem rTI:type_of% (J24 @ti3 @ti2 @ti4 @ti9 @ti5 @ti43 @ti45 @ti44 @ti23 @ti47 @ti49 @ti26 @ti68 @ti24 @ti51 @ti25 @ti28 @ti31 @Nat.zero_add @tz0 @tz1 @tz3 @Nat.mul_one @Int.toNat_natCast):=cj @ti3 (J23 @ti2 @ti4 @ti9 @ti5 @ti43 @ti45 @ti44 @ti23 @ti47 @ti49 @ti26 @ti68 @ti24 @ti51 @ti25 @ti28 @ti31 @Nat.zero_add @tz0 @tz1 @tz3 @Nat.mul_one @Int.toNat_natCast)
theorem same_c (x:Crd):sameC x x=true:=by unfold sameC sameV;simp
theorem same_l (l:List Crd):sameL l l=true:=by
 unfold sameL
 rw[decide_eq_true rfl,Bool.true_and,List.all_eq_true]
 intro q hq
 have:q.1=q.2:=by
  obtain⟨k,hk,rfl⟩:=List.mem_iff_getElem.1 hq
  rw[List.getElem_zip]
 rw[this]
 exact same_c _
theorem same_m (x:Mdl):sameM x x=true:=by unfold sameM;simp
theorem same_ax (c:Cir) (hB:CirB c) (hC:∀ x∈c.cards,CB x) (hS:∀ s∈c.subs,∀ x∈s.cards,CB x) (hl:c.cards.length≤1000000) (hsl:∀ s∈c.subs,s.cards.length≤1000000) (hml:c.models.length≤1000000):PCall Tryz.prog 15 [CirV c,CirV c] (.v (.bool true)):=by
 refine pcall_of fun s=>?_
 have hsz:=hB.sl
 have pL:=sameL_ax c.cards c.cards hC hC (by omega) (by omega)
 rw[same_l] at pL
 unfold CirV cirL UV KV MV at *
 have b1:((c.models.length:Int) != c.models.length)=false:=by simp
 have b2:((c.subs.length:Int) != c.subs.length)=false:=by simp
 have b3:(c.method != c.method)=false:=by simp
 have b4:eqOk Tryz.prog 23=true:=by kernel_rfl
 refine acall_of Tryz.func15 rfl rfl (by simp [Tryz.ntmps15]) ?_;rw[Tryz.ntmps15,Tryz.results15]
 refine go rTI ?_
 generalize hst:(s.push _).push _=st
 have g0:st.get s.nx=some [.v (.int .i64 c.step.1),.v (.int .i64 c.step.2),.v (.int .i64 c.method),.sl c.models.length (ML c.models),.sl c.subs.length (UL c.subs),.sl c.cards.length (KL c.cards)]:=by rw[←hst];exact stz
 have g1:st.get (s.nx+1)=some [.v (.int .i64 c.step.1),.v (.int .i64 c.step.2),.v (.int .i64 c.method),.sl c.models.length (ML c.models),.sl c.subs.length (UL c.subs),.sl c.cards.length (KL c.cards)]:=by rw[←hst];exact St.push_same _ _
 have hf:∀ i,i<s.nx→st.get i=s.get i:=fun i hi=>by rw[←hst];exact stz
 clear hst
 refine aw_reg fun K hK=>?_;refine rn (J7 rTI @g0 @g1 @b1 @b2 @b3 @b4) ?_;refine cont_pure pL ?_;refine rn (J7 rTI @g0 @g1 @b1 @b2 @b3 @b4) ?_;refine hK _ _ ?_;clear hK K
 refine ifs ?_ ?_ <;> first | exact nope | intro hb
 refine go rTI ?_
 clear pL
 refine aw_loop (fun m e s'=>∃ j:Nat,m=c.models.length-j∧j≤c.models.length∧e.n=116∧e.m 2=.ptr s.nx 0∧e.m 3=.ptr (s.nx+1) 0∧e.m 5=.v (.int .i64 (j:Nat))∧s'=st) c.models.length ?_ ?_
 ·refine⟨0,by omega,by omega,?_⟩
  (repeat' refine And.intro ?_ ?_) <;> first | exact rfl | exact fnz rTI | skip
 ·rintro m e s' ⟨j,rfl,hj,h1,k2,k3,k5,rfl⟩
  by_cases hj2:j<c.models.length
  ·have f1:=ml_at c.models j hj2
   have f3:4≤((ML c.models).drop (j*4)).length:=by rw[List.length_drop,ml_len];omega
   have hY:=hB.mo _ (getD_mem c.models mdl0 j hj2)
   generalize c.models.getD j mdl0=y at f1 hY
   have pm:=sameM_ax y y hY.1.1 hY.1.1 hY.2.1 hY.2.1 hY.2.2 hY.2.2
   rw[same_m] at pm
   unfold MA SV NV at pm
   unfold mdlL SV NV at f1
   refine go (J5 rTI @h1 @k2 @k5 @g0) ?_
   refine ifs ?_ ?_ <;> first | exact nope | intro hb
   refine aw_skip ?_
   rw[then_normal]
   refine aw_seq ?_
   refine aw_block ?_
   refine aw_seq ?_
   refine aw_drw (.take 0 (.take 1 (.take 2 (.take 3 (.take 4 (.take 5 (.take 6 (.take 7 (.take 8 (.take 9 (.one 10 (.take 11 (.done))))))))))))) [s.nx,s.nx+1] (by kernel_rfl) (by kernel_rfl) fun K hK=>?_;refine dr (J9 rTI @h1 @k2 @k3 @k5 @g0 @g1 @f1 @f3) ?_;refine cont_pure pm ?_;refine dr (J9 rTI @h1 @k2 @k3 @k5 @g0 @g1 @f1 @f3) ?_;refine hK _ _ ?_;clear hK K
   refine ifs ?_ ?_ <;> first | exact nope | intro hb
   refine go (J3 rTI @h1 @k5) ?_
   simp only[block_normal,loop_normal]
   refine⟨c.models.length-(j+1),by omega,j+1,rfl,by omega,?_⟩
   (repeat' refine And.intro ?_ ?_) <;> first | exact rfl | exact fnz (J4 @h1 @k2 @k3 @k5) | skip
  ·obtain rfl:j=c.models.length:=by omega
   refine go (J5 rTI @h1 @k2 @k5 @g0) ?_
   refine ifs ?_ ?_ <;> first | exact nope | intro hb
   refine go (cj rTI @h1) ?_
   refine aw_loop (fun m e s2=>∃ j:Nat,m=c.subs.length-j∧j≤c.subs.length∧e.n=116∧e.m 2=.ptr s.nx 0∧e.m 3=.ptr (s.nx+1) 0∧e.m 6=.v (.int .i64 (j:Nat))∧s2=s') c.subs.length ?_ ?_
   ·refine⟨0,by omega,by omega,?_⟩
    (repeat' refine And.intro ?_ ?_) <;> first | exact rfl | exact fnz (J4 rTI @h1 @k2 @k3) | skip
   ·clear h1 k2 k3 k5 e
    rintro m e s2 ⟨j,rfl,hj,h1,k2,k3,k6,rfl⟩
    by_cases hj2:j<c.subs.length
    ·have f1:=ul_at c.subs j hj2
     have f3:3≤((UL c.subs).drop (j*3)).length:=by rw[List.length_drop,ul_len];omega
     have hY:=hB.so _ (getD_mem c.subs sub0 j hj2)
     have hYC:=hS _ (getD_mem c.subs sub0 j hj2)
     have hYl:=hsl _ (getD_mem c.subs sub0 j hj2)
     generalize c.subs.getD j sub0=y at f1 hY hYC hYl
     have pT:=texts_ax y.ports y.ports hY.2.1.1 hY.2.1.1 hY.2.1.2.2 hY.2.1.2.2
     rw[decide_eq_true rfl] at pT
     have pK:=sameL_ax y.cards y.cards hYC hYC (by omega) (by omega)
     rw[same_l] at pK
     have b5:((bs y.name).toList==(bs y.name).toList)=true:=beq_self_eq_true _
     unfold TV at pT
     unfold KV at pK
     unfold subL SV TV KV at f1
     have f2:=List.take_append_drop 3 ((UL c.subs).drop (j*3))
     rw[f1] at f2
     generalize ((UL c.subs).drop (j*3)).drop 3=R at f2
     replace f2:=f2.symm
     simp only[List.cons_append,List.nil_append] at f2
     clear f1
     refine go (J5 rTI @h1 @k2 @k6 @g0) ?_
     refine ifs ?_ ?_ <;> first | exact nope | intro hb
     refine aw_skip ?_
     rw[then_normal]
     refine aw_seq ?_
     refine aw_block ?_
     refine aw_seq ?_
     refine aw_drw (.take 0 (.take 1 (.take 2 (.take 3 (.take 4 (.take 5 (.take 6 (.take 7 (.take 8 (.take 9 (.take 10 (.take 11 (.take 12 (.take 13 (.take 14 (.take 15 (.take 16 (.take 17 (.take 18 (.take 19 (.take 20 (.take 21 (.take 22 (.take 23 (.take 24 (.take 25 (.one 26 (.take 27 (.take 28 (.take 29 (.take 30 (.take 31 (.take 32 (.take 33 (.take 34 (.take 35 (.take 36 (.take 37 (.take 38 (.take 39 (.take 40 (.take 41 (.one 42 (.take 43 (.take 44 (.done)))))))))))))))))))))))))))))))))))))))))))))) [s.nx,s.nx+1] (by kernel_rfl) (by kernel_rfl) fun K hK=>?_;refine dr (J10 rTI @h1 @k2 @k3 @k6 @g0 @g1 @f2 @f3 @b5) ?_;refine cont_pure pT ?_;refine dr (J10 rTI @h1 @k2 @k3 @k6 @g0 @g1 @f2 @f3 @b5) ?_;refine cont_pure pK ?_;refine dr (J10 rTI @h1 @k2 @k3 @k6 @g0 @g1 @f2 @f3 @b5) ?_;refine hK _ _ ?_;clear hK K
     refine ifs ?_ ?_ <;> first | exact nope | intro hb
     refine go (J3 rTI @h1 @k6) ?_
     simp only[block_normal,loop_normal]
     refine⟨c.subs.length-(j+1),by omega,j+1,rfl,by omega,?_⟩
     (repeat' refine And.intro ?_ ?_) <;> first | exact rfl | exact fnz (J4 @h1 @k2 @k3 @k6) | skip
    ·obtain rfl:j=c.subs.length:=by omega
     refine go (J5 rTI @h1 @k2 @k6 @g0) ?_
     refine ifs ?_ ?_ <;> first | exact nope | intro hb
     refine go (cj rTI @h1) ?_
     exact hf
end NetAM
namespace NetAH
open Go Go.RowKit Ax Ti NumS NumT CardS CardP CardA CardB CardE CardG CardI CardJ CardK CardL CardX NetS NetA NetE
theorem rTI:type_of% (J14 @ti3 @ti9 @ti5 @ti52 @ti55 @ti53 @ti111 @ti57 @Nat.zero_add @tz0 @tz1 @tz3 @Nat.mul_one @Int.toNat_natCast):=cj @ti3 (J13 @ti9 @ti5 @ti52 @ti55 @ti53 @ti111 @ti57 @Nat.zero_add @tz0 @tz1 @tz3 @Nat.mul_one @Int.toNat_natCast)
def BB (s:St) (ib ig:Nat) (l:List Nat):Prop:=s.get ib=some [.bp ib 55,.ob ig l.length 5]∧s.get ig=some (byteAV (bs l))
theorem recont {w0 w:World} {k:KW} {s:St} (hs:Sim w0 k w s) {i:Nat} {c c':List AV} (hi:s.get i=some c) (hl:c'.length=c.length) (hr:∀ (j:Nat) (z:AV) (u:Value),c'[j]?=some z→w.cell? ((k.φ i).at j)=some u→Rel k z u):Sim w0 k w (s.set i c'):=by
 have alive:∀ q cq,(s.set i c').get q=some cq→∃ d,s.get q=some d:=fun q cq hq=>by
  by_cases e:q=i
  ·subst e;exact⟨c,hi⟩
  ·rw[St.set_ne _ _ _ _ e] at hq;exact⟨cq,hq⟩
 refine⟨hs.m,hs.fz,fun q cq hq=>?_,fun q cq hq=>?_,fun a b ca cb ha hb hab=>?_,hs.shp,hs.tz,fun q cq T hq hT=>?_,hs.cov⟩
 ·obtain⟨d,hd⟩:=alive q cq hq
  exact hs.lt q d hd
 ·by_cases e:q=i
  ·subst e
   rw[St.set_same] at hq
   injection hq with hq
   subst hq
   obtain⟨h1,h2⟩:=hs.box q c hi
   refine⟨by omega,fun j hj=>?_⟩
   obtain⟨u,q1,q2,q3,_⟩:=h2 j hj
   exact⟨u,q1,q2,q3,fun z hz=>hr j z u hz q1⟩
  ·rw[St.set_ne _ _ _ _ e] at hq
   exact hs.box q cq hq
 ·obtain⟨d1,h1⟩:=alive a ca ha
  obtain⟨d2,h2⟩:=alive b cb hb
  exact hs.sep a b d1 d2 h1 h2 hab
 ·obtain⟨d,hd⟩:=alive q cq hq
  exact hs.ty q d T hd hT
theorem aw_build {m0:Nat} {e:Env} {s:St} {Q:Exit→Env→St→Prop} {id d ty:Nat} {pos:String} {af:Array Edge} (hd:dstOk (some d) e.n=true)
  (h:∀ s',s'.nx=s.nx+1+1→BB s' s.nx (s.nx+1) []→(∀ i,i<s.nx→s'.get i=s.get i)→Q .normal (e.put (some d) (.ptr s.nx 0)) s'):AW Tryz.prog (.region id #[⟨some d,.alloc 55,ty,pos,af,none⟩] false) m0 e s Q:=by
 intro w0 kb k w a hk hs he
 refine wp_region_list ?_
 have hT:tiOf Tryz.prog 55=some _:=ti55
 obtain⟨d',i,z,hd',hi,hz,hsz,hby,hc,hk2⟩:=ti_info hT
 have hg:=xguard_sound (ops:=#[⟨some d,.alloc 55,ty,pos,af,none⟩]) (o:=⟨some d,.alloc 55,ty,pos,af,none⟩) (e:=e) (g:=true) rfl he
 have hm:=hs.m
 show wpList _ _ _ [_] a w
 unfold wpList
 rw[if_pos hg]
 refine .inl ?_
 unfold Oper.wp
 have hrun:(execOp a.eval ⟨some d,.alloc 55,ty,pos,af,none⟩).run Tryz.prog w=.ok (.value (.pointer (some ⟨w.heap.size,0,none⟩))) (w.alloc (.cells [.pointer none,.slice none 0 0].toArray 55)):=by
  have e1:z.cells=[.pointer none,.slice none 0 0].toArray:=Array.ext' hc
  simp [execOp,Instr.alloc,zeroValue,typeInfo,program,Sem.run_bind,Sem.run,hi,hz,Result.andThen,newVar,newRow,newObj,e1]
 rw[hrun]
 have p1:=hs.pushT (some 55) [.pointer none,.slice none 0 0] 55 (fun T h=>(by injection h with h;exact h.symm)) [.no,.no] (Nat.le_refl _) (fun j z u hz hu=>by
  match j with
  | 0=>simp at hz;subst hz;exact .no u
  | 1=>simp at hz;subst hz;exact .no u
  | j+2=>simp at hz)
 have p2:=p1.ghost
 have e1:(k.push ⟨w.heap.size,0,[Value.pointer none,.slice none 0 0].length,some 55⟩).m=s.nx+1:=by show k.m+1=_;omega
 generalize hw1:w.alloc _=w1 at *
 generalize hk1:k.push ⟨w.heap.size,0,[Value.pointer none,.slice none 0 0].length,some 55⟩=k1 at *
 have f1:k1.φ s.nx=⟨w.heap.size,0,2,some 55⟩:=by rw[←hk1,←hm];exact KW.push_same _ _
 have f2:(k1.push ⟨0,0,0,none⟩).φ (s.nx+1)=⟨0,0,0,none⟩:=by rw[←e1];exact KW.push_same _ _
 have f3:(k1.push ⟨0,0,0,none⟩).φ s.nx=k1.φ s.nx:=KW.push_ne _ _ _ (by omega)
 have g1:((s.push [.no,.no]).push []).get s.nx=some [.no,.no]:=(St.push_ne (s.push [.no,.no]) s.nx [] (by show s.nx≠s.nx+1;omega)).trans (St.push_same _ _)
 have p3:=recont p2 g1 (c':=[.bp s.nx 55,.ob (s.nx+1) 0 5]) rfl (fun j z u hz hu=>by
  rw[f3,f1] at hu
  match j with
  | 0=>
   simp at hz
   subst hz
   have:u=.pointer none:=by
    rw[←hw1] at hu
    simp [Rng.at] at hu
    exact hu.symm
   subst this
   exact .bp0 _ _ (by show s.nx<k1.m+1;omega) (by rw[f3,f1]) (by rw[f3,f1])
  | 1=>
   simp at hz
   subst hz
   have:u=.slice none 0 0:=by
    rw[←hw1] at hu
    simp [Rng.at] at hu
    exact hu.symm
   subst this
   exact .ob0 _ _ (by show s.nx+1<k1.m+1;omega) (by rw[f2])
  | j+2=>simp at hz)
 have hle:KW.le k.m k (k1.push ⟨0,0,0,none⟩):=by
  rw[←hk1]
  exact KW.le_trans (k.push_le _) (KW.le_mono ((k.push _).push_le _) (Nat.le_succ _))
 show APost m0 w0 kb Q .normal _ _
 refine⟨_,_,_,h _ ?_ ⟨St.set_same _ _ _,?_⟩ ?_,KW.le_trans hk (KW.le_mono hle hk.1),p3,(he.mono hle).put hd ?_⟩
 ·rfl
 ·exact(St.set_ne _ _ _ _ (by omega)).trans (St.push_same (s.push [.no,.no]) [])
 ·intro i hi
  exact(St.set_ne _ _ _ _ (by omega)).trans ((St.push_ne (s.push [.no,.no]) i [] (by show i≠s.nx+1;omega)).trans (St.push_ne s i _ (by omega)))
 ·have:=Rel.ptr (k:=k1.push ⟨0,0,0,none⟩) s.nx 0 (by show s.nx<k1.m+1;omega)
  rw[f3,f1] at this
  exact this
theorem copy_ax (s:St) (ib:Nat) (z1:AV) (hi:s.get ib=some [.bp ib 55,z1]):ACall Tryz.prog 52 [.ptr ib 0] s fun r s'=>r=.tp []∧s'=s:=by
 refine⟨enters_of Tryz.func52 (by kernel_rfl) rfl,fun w0 k w vs hs hv=>?_⟩
 obtain⟨u,rfl⟩:∃ u,vs=[u]:=by
  match vs,hv.1 with
  | [u],_=>exact⟨u,rfl⟩
 have hu:=hv.2 0 _ _ rfl rfl
 obtain⟨a,rfl,ha,_⟩:=reads_ptr hs hi hu
 obtain⟨hl,hb⟩:=hs.box ib _ hi
 obtain⟨u0,q1,q2,q3,q4⟩:=hb 0 (by simp at hl;omega)
 have h0:=q4 _ rfl
 have hT:tiOf Tryz.prog 55=some _:=ti55
 obtain⟨d',i,z,hd',hi',hz,hsz,hby,hc,hk2⟩:=ti_info hT
 obtain⟨T0,hty,hcap⟩:∃ T,(k.φ ib).ty=some T∧(k.φ ib).cap=2:=by cases h0 <;> exact⟨_,by assumption,by assumption⟩
 have hty':(k.φ ib).ty=some 55:=by cases h0 <;> assumption
 obtain⟨ho,cs,hcs,hsz2⟩:=hs.ty ib _ _ hi hty'
 have e1:(k.φ ib).at 0=⟨(k.φ ib).b,0,none⟩:=by unfold Rng.at;rw[ho]
 have hu70:=under_pt (P:=Tryz.prog) ti52 rfl
 rw[e1] at ha q1 q2
 subst ha
 have hsh:w.shape? (k.φ ib).b=some (55,2):=by simp [World.shape?,hcs,hsz2,hcap]
 have key:∀ w',(Calls Tryz.prog 52 #[.pointer (some ⟨(k.φ ib).b,0,none⟩)] w fun e w2=>e=.returned (.tuple #[])∧w2=w')→Sim w0 k w' s→Calls Tryz.prog 52 [Value.pointer (some ⟨(k.φ ib).b,0,none⟩)].toArray w fun en w'=>
   ∃ v r s' k',en=.returned v∧(fun r s'=>r=AV.tp []∧s'=s) r s'∧Sim w0 k' w' s'∧Rel k' r v∧KW.le s.nx k k':=fun w' h hs'=>h.mono fun en w2 ⟨h1,h2⟩=>by
  subst h1 h2
  exact⟨_,.tp [],s,k,rfl,⟨rfl,rfl⟩,hs',.tp [] [] rfl (fun j z u h=>by simp at h),KW.le_refl (by rw[hs.m];exact Nat.le_refl _)⟩
 generalize (k.φ ib).b=b at *
 cases h0 with
 | bp _ _ hid ht hc2=>
  rw[e1] at q1
  refine key w ?_ hs
  go_enter Tryz.func52,Tryz.ntmps52
  go_wp2
  rw[Lib.run_neq_ptr_same w _ hu70 hi']
  go_wp2
  go_end0
  exact⟨rfl,rfl⟩
 | bp0 _ _ hid ht hc2=>
  have hw:=hs.write hi (j:=0) (by simp) (Rel.bp ib 55 hid ht hc2)
  have e2:s.set ib ([AV.bp ib 55,z1].set 0 (.bp ib 55))=s:=St.set_get _ _ _ hi
  rw[e2,e1] at hw
  refine key _ ?_ hw
  have hun:Tryz.prog.underlying 137=some .unsafePointer:=by kernel_rfl
  have hlies:liesAt Tryz.prog Tryz.prog.depth 55 (2 / Tryz.prog.cellsOf 55) 0 55 1=true:=by kernel_rfl
  go_enter Tryz.func52,Tryz.ntmps52
  go_wp2
  rw[Lib.run_to_unsafe w ⟨b,0,none⟩ hu70 hun hi' (by rw[hsz];decide) hsh (Nat.zero_lt_succ 1)]
  simp only[Result.andThen]
  rw[Oper.upon_value]
  go_wp2
  rw[run_callFunc_extern (P:=Tryz.prog) (f:=91) rfl (by kernel_rfl) (by kernel_rfl) (by kernel_rfl) (e:=Extern.AbiNoEscape.same) (by kernel_rfl)]
  rw[Lib.run_noEscape]
  simp only[Result.andThen]
  rw[Oper.upon_value]
  go_wp2
  rw[Lib.run_from_unsafe w ⟨b,0,none⟩ hun hu70 hi' hsh hlies]
  simp only[Result.andThen]
  rw[Oper.upon_value]
  go_wp2
  go_end0
  exact⟨rfl,rfl⟩
theorem byteAV_len (l:List Nat):(byteAV (bs l)).length=l.length:=by
 unfold byteAV
 rw[List.length_map]
 exact bs_size l
theorem byteAV_one (b:ByteArray):(byteAV b).all AV.one=true:=by
 unfold byteAV
 induction b.data.toList with
 | nil=>rfl
 | cons a l ih=>rw[List.map_cons,List.all_cons,ih];rfl
theorem byteAV_app (l x:List Nat):byteAV (bs l)++byteAV (bs x)=byteAV (bs (l++x)):=by
 rw[←bs_append]
 unfold byteAV
 rw[ByteArray.data_append,Array.toList_append,List.map_append]
theorem write_ax (s:St) (ib ig:Nat) (l x:List Nat) (hB:BB s ib ig l) (h1:ib<s.nx∧ig<s.nx∧ig≠ib) (hl:(l++x).length≤140737488355328) :
  ACall Tryz.prog 18 [.ptr ib 0,.v (.string (bs x))] s fun r s'=>∃ ig',r=.tp [.v (.int .i64 x.length),.v .nilIface]∧BB s' ib ig' (l++x)∧s.nx≤s'.nx∧ig'<s'.nx∧ig'≠ib∧(ig'=ig∨s.nx≤ig')∧∀ i,i<s.nx→i≠ib→i≠ig→s'.get i=s.get i:=by
 have hc:=copy_ax s ib _ hB.1
 obtain⟨hb,hg⟩:=hB
 obtain⟨n1,n2,n3⟩:=h1
 have f1:=byteAV_len l
 have f2:(bs x).size=x.length:=bs_size x
 have f3:=byteAV_len x
 have f4:=byteAV_one (bs x)
 rw[List.length_append] at hl
 refine acall_of Tryz.func18 rfl rfl (by simp [Tryz.ntmps18]) ?_;rw[Tryz.ntmps18,Tryz.results18]
 refine go rTI ?_
 refine aw_reg fun K hK=>?_;refine rn rTI ?_;refine cont_go hc ?_;rintro _ s2 ⟨rfl,hs2⟩;subst s2;refine rn rTI ?_;refine hK _ _ ?_;clear hK K
 refine go (J7 rTI @hb @hg @f1 @f2 @f3 @f4) ?_
 refine⟨s.nx,⟨?_,?_⟩,Nat.le_succ _,Nat.lt_succ_self _,by omega,.inr (Nat.le_refl _),fun i hi h h'=>(if_neg h).trans ((if_neg (by omega)).trans (if_neg h'))⟩
 ·rw[List.length_append]
  exact St.set_same _ _ _
 ·rw[←byteAV_app]
  exact(St.set_ne _ _ _ _ (by omega)).trans (St.push_same (s.kill ig) _)
theorem len_ax (s:St) (ib ig:Nat) (l:List Nat) (hB:BB s ib ig l):ACall Tryz.prog 24 [.ptr ib 0] s fun r s'=>r=.v (.int .i64 l.length)∧s'=s:=by
 obtain⟨hb,hg⟩:=hB
 refine acall_of Tryz.func24 rfl rfl (by simp [Tryz.ntmps24]) ?_;rw[Tryz.ntmps24,Tryz.results24]
 exact go0 (cj rTI @hb)
theorem byteAV_is (l:List Nat):(byteAV (bs l)).all isByte=true:=by
 unfold byteAV
 induction (bs l).data.toList with
 | nil=>rfl
 | cons a l ih=>
  rw[List.map_cons,List.all_cons,ih]
  have:=a.toNat_lt
  simp [isByte]
  omega
theorem byteAV_un (l:List Nat):(⟨((byteAV (bs l)).map unbyte).toArray⟩:ByteArray)=bs l:=by
 apply ByteArray.ext
 apply Array.ext'
 unfold byteAV
 rw[List.toList_toArray,List.map_map]
 conv=>rhs;rw[←List.map_id (bs l).data.toList]
 refine List.map_congr_left fun a _=>?_
 have:=a.toNat_lt
 simp [unbyte]
theorem string_ax (s:St) (ib ig:Nat) (l:List Nat) (hB:BB s ib ig l) (hne:ig≠ib) (hl:l.length≤140737488355328):ACall Tryz.prog 25 [.ptr ib 0] s fun r s'=>r=.v (.string (bs l))∧s.nx≤s'.nx∧∀ i,i<s.nx→i≠ib→i≠ig→s'.get i=s.get i:=by
 obtain⟨hb,hg⟩:=hB
 have f1:=byteAV_len l
 have f2:=byteAV_is l
 have f3:=byteAV_un l
 refine acall_of Tryz.func25 rfl rfl (by simp [Tryz.ntmps25]) ?_;rw[Tryz.ntmps25,Tryz.results25]
 refine go rTI ?_
 refine aw_drw (.take 0 (.take 1 (.take 2 (.take 3 (.take 5 (.take 6 (.take 7 (.take 8 (.take 9 (.one 4 (.one 10 (.take 11 (.done))))))))))))) [ib] (by kernel_rfl) (by kernel_rfl) fun K hK=>?_;refine dr (J6 rTI @hb @hg @f1 @f2 @f3) ?_;refine hK _ _ ?_;clear hK K
 rw[then_normal]
 refine go rTI ?_
 exact⟨Nat.le_refl _,fun i hi h h'=>if_neg h'⟩
end NetAH
namespace NetAI
open Go Go.RowKit Ax Ti NumS NumT CardS CardA CardB NetS
theorem joinS_lib:∀ l:List Str,Lib.join (l.map fun x=>(bs x).data.toList) [32]=(joinS l).map UInt8.ofNat
 | []=>rfl
 | [a]=>by
  show ([(bs a).data.toList].intersperse [32]).flatten=a.map UInt8.ofNat
  rw[List.intersperse_singleton,List.flatten_singleton]
  exact NumL.data_bs a
 | a::b::r=>by
  have h:=joinS_lib (b::r)
  have e:Lib.join ((a::b::r).map fun x=>(bs x).data.toList) [32]=(bs a).data.toList++([32]++Lib.join ((b::r).map fun x=>(bs x).data.toList) [32]):=rfl
  rw[e,h,NumL.data_bs]
  show _=(a++32::joinS (b::r)).map UInt8.ofNat
  rw[List.map_append,List.map_cons]
  rfl
theorem join_ax (ws:List Str) (hl:ws.length≤140737488355328) (hj:(joinS ws).length≤140737488355328):PCall Tryz.prog 19 [TV ws,.v (.string (bs [32]))] (SV (joinS ws)):=by
 refine fun s=>⟨enters_of Tryz.func19 (by kernel_rfl) rfl,fun w0 k w vs hs hv=>?_⟩
 obtain⟨u,t,rfl⟩:∃ u t,vs=[u,t]:=by
  match vs,hv.1 with
  | [u,t],_=>exact⟨u,t,rfl⟩
 have hu:=hv.2 0 _ _ rfl rfl
 have ht:=(hv.2 1 _ _ rfl rfl).v_eq
 subst ht
 have key:∀ {v:Value} {w':World},v=.string (bs (joinS ws))→Below w.heap.size w w'→∃ v' r s' k',Ending.returned v=.returned v'∧(fun r' s'=>r'=SV (joinS ws)∧s'=s) r s'∧Sim w0 k' w' s'∧Rel k' r v'∧KW.le s.nx k k':=fun hv hb=>by
  subst hv
  exact⟨_,_,s,k,rfl,⟨rfl,rfl⟩,hs.below hb,.v _,KW.le_refl (by rw[hs.m];exact Nat.le_refl _)⟩
 by_cases h0:ws=[]
 ·subst h0
  obtain⟨a,cap,rfl,_⟩:=hu.sl_form
  refine (Tryz.strings_Join_none a cap (bs [32]) w).mono fun en w' ⟨h1,h2⟩=>?_
  subst h1 h2
  exact key rfl (Below.refl _ _)
 ·unfold TV at hu
  have hpos:0<ws.length:=List.length_pos_iff.2 h0
  obtain⟨n,hn0⟩:∃ n,n=ws.length:=⟨_,rfl⟩
  obtain⟨c,hc0⟩:∃ c,c=SL ws:=⟨_,rfl⟩
  rw[←hn0,←hc0] at hu
  cases hu with
  | sl0 a cap=>omega
  | sl _ cap _ a us hn h1 h2=>
   subst hc0
   have sl:(SL ws).length=ws.length:=by unfold SL;rw[List.length_map]
   have hcell:∀ (j:Nat) x,(ws.map bs)[j]?=some x→w.cell? (a.add j)=some (.string x):=fun j x hx=>by
    rw[List.getElem?_map] at hx
    cases hj:ws[j]? with
    | none=>rw[hj] at hx;cases hx
    | some y=>
     rw[hj] at hx
     injection hx with hx
     subst hx
     have hlt:=(List.getElem?_eq_some_iff.1 hj).1
     have hr:=h2 j (SV y) (by unfold SL;rw[List.getElem?_map,hj];rfl)
     have:=hs.fz _ _ (h1 j (by omega))
     rw[hr.v_eq] at this
     exact this
   obtain⟨bk,o,sp⟩:=a
   have c0:=hcell 0 (bs (ws.getD 0 [])) (by rw[List.getElem?_map,List.getD_eq_getElem?_getD,List.getElem?_eq_getElem hpos];rfl)
   have hsp:sp=none:=by
    cases sp with
    | none=>rfl
    | some q=>
     exfalso
     revert c0
     unfold World.cell?
     split <;> simp [Addr.add]
   subst hsp
   have hJ:=Tryz.strings_Join bk o cap (ws.map bs) (bs [32]) w (fun j x hx=>by rw[←Addr.add_lit];exact hcell j x hx) (cell_block_lt c0) (by rw[List.length_map];exact hl) (by rw[List.length_map,←hn0];exact hn) (by
    rw[List.map_map]
    show (Lib.join (ws.map fun x=>(bs x).data.toList) [32]).length≤_
    rw[joinS_lib,List.length_map]
    exact hj)
   rw[List.length_map,←hn0] at hJ
   refine hJ.mono fun en w' ⟨h1,h2⟩=>?_
   subst h1
   refine key ?_ h2
   rw[List.map_map]
   show Value.string ⟨(Lib.join (ws.map fun x=>(bs x).data.toList) [32]).toArray⟩=_
   rw[joinS_lib]
   rfl
end NetAI
namespace NetI
open Go Go.RowKit Ax Ti NumS NumT CardS CardP CardA CardB CardE CardG CardI CardJ CardK CardL CardX NetS NetA NetE NetF
theorem rTI:type_of% (J24 @ti3 @ti4 @ti9 @ti5 @ti43 @ti45 @ti44 @ti23 @ti47 @ti49 @ti68 @ti51 @ti28 @ti26 @ti24 @ti25 @ti120 @ti31 @Nat.zero_add @tz0 @tz1 @tz3 @Nat.mul_one @Int.toNat_natCast):=cj @ti3 (J23 @ti4 @ti9 @ti5 @ti43 @ti45 @ti44 @ti23 @ti47 @ti49 @ti68 @ti51 @ti28 @ti26 @ti24 @ti25 @ti120 @ti31 @Nat.zero_add @tz0 @tz1 @tz3 @Nat.mul_one @Int.toNat_natCast)
structure TwB (c:Cir):Prop where
 mo:∀ m∈c.models,By m.name
 ml:c.models.length≤100000
 so:∀ s∈c.subs,By s.name∧(BL s.ports∧s.ports.length≤9223372036854775807)∧(∀ x∈s.cards,By x.name)∧s.cards.length≤100000
 sl:c.subs.length≤100000
 co:∀ x∈c.cards,By x.name
 cl:c.cards.length≤100000
theorem sl_map {α:Type} (g:α→Str) (d:α) (l:List α) (k:Nat) (h:k<l.length):SL ((l.take (k+1)).map g)=SL ((l.take k).map g)++[SV (g (l.getD k d))]:=by
 rw[map_take g l d k h]
 exact List.map_append
theorem sl_map_len {α:Type} (g:α→Str) (l:List α) (k:Nat) (h:k≤l.length):(SL ((l.take k).map g)).length=k:=by
 unfold SL
 rw[List.length_map,List.length_map,List.length_take]
 omega
theorem lend_twice (l:List Str) (h:BL l) (hl:l.length≤9223372036854775807) {s:St} {id n:Nat} (hi:s.get id=some (SL l)) (hn:n=l.length) :
  ACall Tryz.prog 72 [.own id 0 n 1] s fun r' s'=>r'=.v (.bool (twice l))∧s'=s:=by
 subst hn
 exact acall_lend (twice_ax l h hl) rfl (LiesL.cons (Lies.whole hi (by unfold SL;simp) (LiesL.same s _ (sl_idf l))) (LiesL.nil s))
theorem bl_map {α:Type} (g:α→Str) (l:List α) (h:∀ x∈l,By (g x)):BL (l.map g):=fun s hs=>by
 obtain⟨x,hx,rfl⟩:=List.mem_map.1 hs
 exact h x hx
theorem loop_keep {s':St} {id:Nat} (c d w e:List AV) (h2:id<s'.nx) :
  s'.nx+1+1<(((((s'.push c).set s'.nx d).push w).kill id).push e).nx∧(((((s'.push c).set s'.nx d).push w).kill id).push e).get (s'.nx+1+1)=some e ∧
  ∀ i,i<s'.nx→i≠id→(((((s'.push c).set s'.nx d).push w).kill id).push e).get i=s'.get i:=by
 refine⟨Nat.lt_succ_self _,St.push_same ((((s'.push c).set s'.nx d).push w).kill id) _,fun i hi hn=>?_⟩
 rw[St.push_ne ((((s'.push c).set s'.nx d).push w).kill id) i _ (show i≠s'.nx+1+1 by omega),St.kill_ne _ _ _ hn,St.push_ne ((s'.push c).set s'.nx d) i _ (show i≠s'.nx+1 by omega),St.set_ne _ _ _ _ (by omega),St.push_ne s' i _ (by omega)]
def subT (s:Sub):Bool:=twice s.ports||twice (names s.cards)
theorem anyTwice_ax (c:Cir) (hB:TwB c):PCall Tryz.prog 33 [CirV c] (.v (.bool (anyTwice c))):=by
 refine pcall_of fun s=>?_
 have hml:=hB.ml
 have hsl:=hB.sl
 have hcl:=hB.cl
 have pN:PCall Tryz.prog 71 [KV c.cards] (TV (names c.cards)):=names_ax c.cards hcl
 have pM:PCall Tryz.prog 72 [TV (names c.cards)] (.v (.bool (twice (names c.cards)))):=twice_ax _ (bl_map _ _ hB.co) (by unfold names;rw[List.length_map];omega)
 have hE:anyTwice c=(c.subs.any subT||(twice (c.models.map Mdl.name)||(twice (c.subs.map Sub.name)||twice (names c.cards)))):=rfl
 rw[hE]
 unfold CirV
 generalize hC:cirL c=C
 have hC':=hC
 unfold cirL UV KV MV at hC
 subst hC
 unfold KV at pN
 refine acall_of Tryz.func33 rfl rfl (by simp [Tryz.ntmps33]) ?_;rw[Tryz.ntmps33,Tryz.results33]
 refine aw_seq ?_
 refine aw_reg fun K hK=>?_;refine rn rTI ?_;refine hK _ _ ?_;clear hK K
 refine aw_seq ?_
 refine aw_reg fun K hK=>?_;refine rn rTI ?_;refine hK _ _ ?_;clear hK K
 refine aw_seq ?_
 refine aw_reg fun K hK=>?_;refine rn rTI ?_;refine hK _ _ ?_;clear hK K
 refine aw_nil 4 1 rfl rfl ?_
 refine aw_nil 5 1 rfl rfl ?_
 refine go rTI ?_
 refine aw_loop (fun m e s'=>∃ j id,m=c.models.length-j∧j≤c.models.length∧e.n=59∧e.m 1=.ptr s.nx 0∧e.m 3=.v (.func (.func 71) #[] #[])∧e.m 4=.own id 0 j 1∧e.m 5=.own (s.nx+1+1) 0 0 1 ∧
  e.m 11=.sl c.models.length (ML c.models)∧e.m 12=.v (.int .i64 c.models.length)∧e.m 13=.v (.int .i64 (j:Nat)) ∧
  s'.get s.nx=some [.v (.int .i64 c.step.1),.v (.int .i64 c.step.2),.v (.int .i64 c.method),.sl c.models.length (ML c.models),.sl c.subs.length (UL c.subs),.sl c.cards.length (KL c.cards)] ∧
  s'.get id=some (SL ((c.models.take j).map Mdl.name))∧s'.get (s.nx+1+1)=some []∧(s.nx<id∧id≠s.nx+1+1∧id<s'.nx∧s.nx+1+1<s'.nx)∧∀ i,i<s.nx→s'.get i=s.get i) c.models.length ?_ ?_
 ·refine⟨0,s.nx+1,by omega,by omega,?_⟩
  (repeat' refine And.intro ?_ ?_) <;> first | exact rfl | exact fnz rTI | skip
  ·exact(St.push_ne ((s.push _).push []) (s.nx+1) _ (show s.nx+1≠s.nx+1+1 by omega)).trans (St.push_same (s.push _) _)
  all_goals first | omega | (simp only[St.nx_push];omega)
 ·rintro m e s' ⟨j,id,rfl,hj,h1,k1,k3,k4,k5,k11,k12,k13,gc,g4,g5,ho,hf⟩
  by_cases hj2:j<c.models.length
  ·have f1:=ml_at c.models j hj2
   have f3:4≤((ML c.models).drop (j*4)).length:=by rw[List.length_drop,ml_len];omega
   have f4:=sl_map Mdl.name mdl0 c.models j hj2
   have f5:=sl_map_len Mdl.name c.models j (by omega)
   generalize c.models.getD j mdl0=y at f1 f4
   unfold mdlL SV at f1
   unfold SV at f4
   refine go (J4 rTI @h1 @k12 @k13) ?_
   refine ifs ?_ ?_ <;> first | exact nope | intro hb
   refine aw_skip ?_
   refine go (J9 rTI @h1 @k4 @k11 @k13 @f1 @f3 @f5 @g4) ?_
   simp only[block_normal,loop_normal]
   refine⟨c.models.length-(j+1),by omega,j+1,s'.nx+1+1,rfl,by omega,?_⟩
   obtain⟨o1,o2,o3,o4⟩:=ho
   (repeat' refine And.intro ?_ ?_) <;> first | exact rfl | exact fnz (J8 @h1 @k1 @k3 @k5 @k11 @k12 @k13 @f4) | skip
   ·exact((loop_keep _ _ _ _ o3).2.2 _ (by omega) (by omega)).trans gc
   ·exact((loop_keep _ _ _ _ o3).2.2 _ o4 (Ne.symm o2)).trans g5
   ·omega
   ·omega
   ·exact Nat.lt_succ_self _
   ·have:=(loop_keep [.v (.string ByteArray.empty),.v (.int .u8 0),.v (.slice none 0 0),.v (.slice none 0 0)] [.v (.string (bs y.name)),.v (.int .u8 y.kind),NV y.g,NV y.v] [.v (.string (bs y.name))] (SL ((c.models.take j).map Mdl.name)++[.v (.string (bs y.name))]) o3).1
    exact Nat.lt_trans (by omega) this
   ·exact fun i hi=>((loop_keep _ _ _ _ o3).2.2 _ (by omega) (by omega)).trans (hf i hi)
  ·obtain rfl:j=c.models.length:=by omega
   rw[List.take_length] at g4
   obtain⟨o1,o2,o3,o4⟩:=ho
   have bM:BL (c.models.map Mdl.name):=bl_map _ _ hB.mo
   have bS:BL (c.subs.map Sub.name):=bl_map _ _ fun x hx=>(hB.so x hx).1
   refine go (J4 rTI @h1 @k12 @k13) ?_
   refine ifs ?_ ?_ <;> first | exact nope | intro hb
   refine go (J4 rTI @h1 @k1 @gc) ?_
   refine aw_loop (fun m e' s''=>∃ j id2,m=c.subs.length-j∧j≤c.subs.length∧e'.n=59∧e'.m 1=.ptr s.nx 0∧e'.m 3=.v (.func (.func 71) #[] #[])∧e'.m 4=.own id 0 c.models.length 1∧e'.m 5=.own id2 0 j 1 ∧
    e'.m 24=.sl c.subs.length (UL c.subs)∧e'.m 25=.v (.int .i64 c.subs.length)∧e'.m 26=.v (.int .i64 (j:Nat)) ∧
    s''.get s.nx=some [.v (.int .i64 c.step.1),.v (.int .i64 c.step.2),.v (.int .i64 c.method),.sl c.models.length (ML c.models),.sl c.subs.length (UL c.subs),.sl c.cards.length (KL c.cards)] ∧
    s''.get id=some (SL (c.models.map Mdl.name))∧s''.get id2=some (SL ((c.subs.take j).map Sub.name))∧(s.nx<id2∧id≠id2∧id2<s''.nx∧id<s''.nx)∧(c.subs.take j).any subT=false∧∀ i,i<s.nx→s''.get i=s.get i) c.subs.length ?_ ?_
   ·refine⟨0,s.nx+1+1,by omega,by omega,?_⟩
    (repeat' refine And.intro ?_ ?_) <;> first | exact rfl | exact fnz (J6 rTI @h1 @k1 @k3 @k4 @k5) | skip
    all_goals first | omega | exact gc | exact g4 | exact g5 | exact hf
   ·clear h1 k1 k3 k4 k5 k11 k12 k13 gc g4 g5 o3 o4 hf e
    rintro m e s2 ⟨j,id2,rfl,hj,h1,k1,k3,k4,k5,k24,k25,k26,gc,g4,g5,⟨o2,o3,o4,o5⟩,ha,hf⟩
    by_cases hj2:j<c.subs.length
    ·have f1:=ul_at c.subs j hj2
     have f3:3≤((UL c.subs).drop (j*3)).length:=by rw[List.length_drop,ul_len];omega
     have f4:=sl_map Sub.name sub0 c.subs j hj2
     have f5:=sl_map_len Sub.name c.subs j (by omega)
     have f6:=any_take subT c.subs sub0 j hj2 ha
     have f7:=any_get subT c.subs sub0 j hj2
     have hb:=hB.so _ (getD_mem c.subs sub0 j hj2)
     generalize c.subs.getD j sub0=y at f1 f4 f6 f7 hb
     have pP:=twice_ax y.ports hb.2.1.1 hb.2.1.2
     have pN2:=names_ax y.cards hb.2.2.2
     have pC:=twice_ax (names y.cards) (bl_map _ _ hb.2.2.1) (by unfold names;rw[List.length_map];have:=hb.2.2.2;omega)
     unfold subL SV KV at f1
     unfold KV at pN2
     unfold SV at f4
     refine go (J4 rTI @h1 @k25 @k26) ?_
     refine ifs ?_ ?_ <;> first | exact nope | intro hb
     refine aw_skip ?_
     refine go (J9 rTI @h1 @k5 @k24 @k26 @f1 @f3 @f5 @g5) ?_
     have hT:subT y=(twice y.ports||twice (names y.cards)):=rfl
     obtain⟨l1,l2,l3⟩:=loop_keep (s':=s2) (id:=id2) [.v (.string ByteArray.empty),.v (.slice none 0 0),.v (.slice none 0 0)] [.v (.string (bs y.name)),TV y.ports,.sl y.cards.length (KL y.cards)] [.v (.string (bs y.name))] (SL ((c.subs.take j).map Sub.name)++[.v (.string (bs y.name))]) o4
     cases hq1:twice y.ports with
     | true=>
      rw[hq1] at pP
      rw[hq1,Bool.true_or] at hT
      rw[f7 hT,Bool.true_or]
      refine aw_reg fun K hK=>?_;refine rn (J3 rTI @h1 @k3) ?_;refine cont_pure pP ?_;refine rn (J3 rTI @h1 @k3) ?_;refine hK _ _ ?_;clear hK K
      refine ifs ?_ ?_ <;> first | exact nope | intro hb
      refine go (cj rTI @h1) ?_
      exact fun i hi=>by
       (repeat rw[if_neg (by omega)])
       exact hf i hi
     | false=>
      rw[hq1] at pP
      rw[hq1,Bool.false_or] at hT
      rw[hT] at f6 f7
      cases hq2:twice (names y.cards) with
      | true=>
       rw[hq2] at pC
       rw[f7 hq2,Bool.true_or]
       refine aw_reg fun K hK=>?_;refine rn (J3 rTI @h1 @k3) ?_;refine cont_pure pP ?_;refine rn (J3 rTI @h1 @k3) ?_;refine cont_pure pN2 ?_;refine rn (J3 rTI @h1 @k3) ?_;refine cont_pure pC ?_;refine rn (J3 rTI @h1 @k3) ?_;refine hK _ _ ?_;clear hK K
       refine ifs ?_ ?_ <;> first | exact nope | intro hb
       refine go (cj rTI @h1) ?_
       exact fun i hi=>by
        (repeat rw[if_neg (by omega)])
        exact hf i hi
      | false=>
       rw[hq2] at pC f6
       refine aw_reg fun K hK=>?_;refine rn (J3 rTI @h1 @k3) ?_;refine cont_pure pP ?_;refine rn (J3 rTI @h1 @k3) ?_;refine cont_pure pN2 ?_;refine rn (J3 rTI @h1 @k3) ?_;refine cont_pure pC ?_;refine rn (J3 rTI @h1 @k3) ?_;refine hK _ _ ?_;clear hK K
       refine ifs ?_ ?_ <;> first | exact nope | intro hb
       refine go (J3 rTI @h1 @k26) ?_
       simp only[block_normal,loop_normal]
       refine⟨c.subs.length-(j+1),by omega,j+1,s2.nx+1+1,rfl,by omega,?_⟩
       (repeat' refine And.intro ?_ ?_) <;> first | exact rfl | exact fnz (J8 @h1 @k1 @k3 @k4 @k24 @k25 @k26 @f4) | skip
       all_goals first | omega | exact(l3 _ (by omega) (by omega)).trans gc | exact(l3 _ o5 o3).trans g4 | exact l2 | exact l1 | exact f6 | exact fun i hi=>(l3 i (by omega) (by omega)).trans (hf i hi) | exact Nat.lt_trans (by omega) l1
    ·obtain rfl:j=c.subs.length:=by omega
     rw[List.take_length] at g5 ha
     have qM:=lend_twice _ bM (by rw[List.length_map];omega) g4 (by rw[List.length_map])
     have qS:=lend_twice _ bS (by rw[List.length_map];omega) g5 (by rw[List.length_map])
     rw[ha,Bool.false_or]
     refine go (J4 rTI @h1 @k25 @k26) ?_
     refine ifs ?_ ?_ <;> first | exact nope | intro hb
     refine go (cj rTI @h1) ?_
     cases hM:twice (c.models.map Mdl.name) with
     | true=>
      rw[hM] at qM
      rw[Bool.true_or]
      refine aw_reg fun K hK=>?_;refine rn (J3 rTI @h1 @k4) ?_;refine cont_go qM ?_;rintro _ _ ⟨rfl,rfl⟩;refine rn (J3 rTI @h1 @k4) ?_;refine hK _ _ ?_;clear hK K
      refine go (cj rTI @h1) ?_
      exact hf
     | false=>
      rw[hM] at qM
      rw[Bool.false_or]
      cases hS:twice (c.subs.map Sub.name) with
      | true=>
       rw[hS] at qS
       rw[Bool.true_or]
       refine aw_reg fun K hK=>?_;refine rn (J4 rTI @h1 @k4 @k5) ?_;refine cont_go qM ?_;rintro _ _ ⟨rfl,rfl⟩;refine rn (J4 rTI @h1 @k4 @k5) ?_;refine cont_go qS ?_;rintro _ _ ⟨rfl,rfl⟩;refine rn (J4 rTI @h1 @k4 @k5) ?_;refine hK _ _ ?_;clear hK K
       refine go (cj rTI @h1) ?_
       exact hf
      | false=>
       rw[hS] at qS
       rw[Bool.false_or]
       refine aw_reg fun K hK=>?_;refine rn (J7 rTI @h1 @k1 @k3 @k4 @k5 @gc) ?_;refine cont_go qM ?_;rintro _ _ ⟨rfl,rfl⟩;refine rn (J7 rTI @h1 @k1 @k3 @k4 @k5 @gc) ?_;refine cont_go qS ?_;rintro _ _ ⟨rfl,rfl⟩;refine rn (J7 rTI @h1 @k1 @k3 @k4 @k5 @gc) ?_;refine cont_pure pN ?_;refine rn (J7 rTI @h1 @k1 @k3 @k4 @k5 @gc) ?_;refine cont_pure pM ?_;refine rn (J7 rTI @h1 @k1 @k3 @k4 @k5 @gc) ?_;refine hK _ _ ?_;clear hK K
       refine go (cj rTI @h1) ?_
       exact hf
end NetI
namespace NetJ
open Go Go.RowKit Ax Ti NumS NumT CardS CardP CardA CardB CardE CardG CardI CardJ CardK CardL CardX NetS NetA NetE NetF NetI
theorem rTI:type_of% (J24 @ti3 @ti4 @ti9 @ti5 @ti43 @ti45 @ti44 @ti23 @ti47 @ti49 @ti68 @ti51 @ti28 @ti26 @ti24 @ti25 @ti120 @ti31 @Nat.zero_add @tz0 @tz1 @tz3 @Nat.mul_one @Int.toNat_natCast):=cj @ti3 (J23 @ti4 @ti9 @ti5 @ti43 @ti45 @ti44 @ti23 @ti47 @ti49 @ti68 @ti51 @ti28 @ti26 @ti24 @ti25 @ti120 @ti31 @Nat.zero_add @tz0 @tz1 @tz3 @Nat.mul_one @Int.toNat_natCast)
def lists (c:Cir) (j:Nat):List (List Crd):=c.cards::(c.subs.take j).map Sub.cards
theorem lists_succ (c:Cir) (j:Nat) (h:j<c.subs.length):(lists c (j+1)).map KV=(lists c j).map KV++[KV (c.subs.getD j sub0).cards]:=by
 unfold lists
 rw[List.take_succ_eq_append_getElem h,List.map_append,List.getD_eq_getElem?_getD,List.getElem?_eq_getElem h]
 simp
theorem lists_len (c:Cir) (j:Nat) (h:j≤c.subs.length):((lists c j).map KV).length=j+1:=by
 unfold lists
 rw[List.length_map,List.length_cons,List.length_map,List.length_take]
 omega
theorem all_take {α:Type} (g:α→Bool) (l:List α) (d:α) (k:Nat) (h:k<l.length) (hn:(l.take k).all g=true):(l.take (k+1)).all g=g (l.getD k d):=by
 rw[List.take_succ_eq_append_getElem h,List.all_append,hn,List.getD_eq_getElem?_getD,List.getElem?_eq_getElem h]
 simp
theorem all_no {α:Type} (g:α→Bool) (l:List α) (d:α) (k:Nat) (h:k<l.length) (hg:g (l.getD k d)=false):l.all g=false:=by
 rw[List.getD_eq_getElem?_getD,List.getElem?_eq_getElem h] at hg
 rw[List.all_eq_false]
 exact⟨_,List.getElem_mem h,by simpa using hg⟩
theorem cardsR_lists (c:Cir):cardsR c=(c.subs.all subOk&&(lists c c.subs.length).all fun l=>l.all cardOk):=by
 unfold cardsR lists
 rw[List.take_length,List.all_cons,List.all_map]
 rfl
theorem cardsRight_ax (c:Cir) (hB:CirB c):PCall Tryz.prog 32 [CirV c] (.v (.bool (cardsR c))):=by
 refine pcall_of fun s=>?_
 have hsl:=hB.sl
 have hcl:=hB.cl
 rw[cardsR_lists]
 unfold CirV
 generalize hC:cirL c=C
 have hC':=hC
 unfold cirL UV at hC
 subst hC
 have h00:SL ([]:List Str)=[]:=rfl
 have e00:(lists c 0).map KV=[KV c.cards]:=rfl
 have e01:KV c.cards=.sl c.cards.length (KL c.cards):=rfl
 rw[e01] at e00
 have z3:=fun x:Str=>str_eq x zero1
 refine acall_of Tryz.func32 rfl rfl (by simp [Tryz.ntmps32]) ?_;rw[Tryz.ntmps32,Tryz.results32]
 unfold KV
 refine go rTI ?_
 refine aw_loop (fun m e s'=>∃ j id,m=c.subs.length-j∧j≤c.subs.length∧e.n=82∧e.m 3=.own id 0 (j+1) 1∧e.m 18=.sl c.subs.length (UL c.subs)∧e.m 19=.v (.int .i64 c.subs.length)∧e.m 20=.v (.int .i64 (j:Nat)) ∧
  s'.get id=some ((lists c j).map KV)∧(s.nx≤id∧id<s'.nx)∧(c.subs.take j).all subOk=true∧∀ i,i<s.nx→s'.get i=s.get i) c.subs.length ?_ ?_
 ·refine⟨0,s.nx+1,by omega,by omega,?_⟩
  (repeat' refine And.intro ?_ ?_) <;> first | exact rfl | exact fnz (cj rTI @e00) | skip
  all_goals first | omega | (simp only[St.nx_push];omega) | rfl
 ·rintro m e s' ⟨j,id,rfl,hj,h1,k3,k18,k19,k20,g3,⟨o1,o2⟩,ha,hf⟩
  by_cases hj2:j<c.subs.length
  ·have f1:=ul_at c.subs j hj2
   have f3:3≤((UL c.subs).drop (j*3)).length:=by rw[List.length_drop,ul_len];omega
   have f4:=lists_succ c j hj2
   have f5:=lists_len c j (by omega)
   have f6:=all_take subOk c.subs sub0 j hj2 ha
   have f7:=all_no subOk c.subs sub0 j hj2
   have hY:=hB.so _ (getD_mem c.subs sub0 j hj2)
   generalize c.subs.getD j sub0=y at f1 f4 f6 f7 hY
   have pN:=NetA.name_ax y.name hY.1.1 hY.1.2
   have hlp:=hY.2.1.2.2
   have hT:subOk y=(isName y.name&&decide (1≤y.ports.length∧y.ports.length≤8)&&y.ports.all portOk):=rfl
   unfold SV at pN
   unfold subL SV TV KV at f1
   have f8:KV y.cards=.sl y.cards.length (KL y.cards):=rfl
   rw[f8] at f4
   refine go (J4 rTI @h1 @k19 @k20) ?_
   refine ifs ?_ ?_ <;> first | exact nope | intro hb
   refine aw_skip ?_
   refine go (J6 rTI @h1 @k18 @k20 @f1 @f3) ?_
   cases hq1:isName y.name with
   | false=>
    rw[hq1] at pN hT
    rw[f7 (by rw[hT];rfl),Bool.false_and]
    refine aw_reg fun K hK=>?_;refine rn (cj rTI @h1) ?_;refine cont_pure pN ?_;refine rn (cj rTI @h1) ?_;refine hK _ _ ?_;clear hK K
    refine ifs ?_ ?_ <;> first | exact nope | intro hb
    refine go (cj rTI @h1) ?_
    exact fun i hi=>(if_neg (by omega)).trans (hf i hi)
   | true=>
    rw[hq1,Bool.true_and] at hT
    rw[hq1] at pN
    by_cases hq2:1≤y.ports.length∧y.ports.length≤8
    ·rw[decide_eq_true hq2,Bool.true_and] at hT
     have b1:decide ((y.ports.length:Int)<1)=false:=decide_eq_false (by omega)
     have b2:decide ((8:Int)<y.ports.length)=false:=decide_eq_false (by omega)
     obtain⟨s1,hs1⟩:∃ s1,s1=((s'.push [.v (.string ⟨#[]⟩),.v (.slice none 0 0),.v (.slice none 0 0)]).set s'.nx [.v (.string (bs y.name)),.sl y.ports.length (SL y.ports),.sl y.cards.length (KL y.cards)]):=⟨_,rfl⟩
     have n1:s1.nx=s'.nx+1:=by rw[hs1];rfl
     have g1:s1.get id=some ((lists c j).map KV):=by rw[hs1];exact(push_set_ne s' _ _ _ o2).trans g3
     have g2:s1.get s'.nx=some [.v (.string (bs y.name)),.sl y.ports.length (SL y.ports),.sl y.cards.length (KL y.cards)]:=by rw[hs1];exact push_set_get s' _ _
     have hf1:∀ i,i<s.nx→s1.get i=s.get i:=fun i hi=>by rw[hs1];exact(push_set_ne s' _ _ _ (by omega)).trans (hf i hi)
     refine aw_reg fun K hK=>?_;refine rn (J4 rTI @h1 @b1 @b2) ?_;refine cont_pure pN ?_;refine rn (J4 rTI @h1 @b1 @b2) ?_;refine hK _ _ ?_;clear hK K
     refine ifs ?_ ?_ <;> first | exact nope | intro hb
     rw[←hs1]
     clear hs1
     refine go (J3 rTI @h1 @g2) ?_
     refine aw_loop (fun m e s''=>∃ k,m=y.ports.length-k∧k≤y.ports.length∧e.n=82∧e.m 3=.own id 0 (j+1) 1∧e.m 5=.ptr s'.nx 0∧e.m 18=.sl c.subs.length (UL c.subs)∧e.m 19=.v (.int .i64 c.subs.length)∧e.m 20=.v (.int .i64 (j:Nat)) ∧
      e.m 41=.sl y.ports.length (SL y.ports)∧e.m 42=.v (.int .i64 y.ports.length)∧e.m 43=.v (.int .i64 (k:Nat))∧(y.ports.take k).all portOk=true∧s''=s1) y.ports.length ?_ ?_
     ·refine⟨0,by omega,by omega,?_⟩
      (repeat' refine And.intro ?_ ?_) <;> first | exact rfl | exact fnz (J6 rTI @h1 @k3 @k18 @k19 @k20) | skip
     ·clear h1 k3 k18 k19 k20 pN e
      rintro m e s'' ⟨k,rfl,hk,h1,k3,k5,k18,k19,k20,k41,k42,k43,hp,rfl⟩
      by_cases hk2:k<y.ports.length
      ·have p1:=hd_SL y.ports k hk2
       have p6:=all_take portOk y.ports [] k hk2 hp
       have p7:=all_no portOk y.ports [] k hk2
       have pb:=hY.2.1.1 _ (getD_mem y.ports [] k hk2)
       have pl:=hY.2.1.2.1 _ (getD_mem y.ports [] k hk2)
       generalize y.ports.getD k []=w at p1 p6 p7 pb pl
       have pN:=NetA.name_ax w pb pl
       have pZ:((bs w).toList==(ByteArray.mk #[48]).toList)=decide (w=zero1):=str_eq w zero1 pb (by intro c hc;rw[List.mem_singleton.1 hc];decide)
       have hW:portOk w=(isName w&&decide (w≠zero1)):=rfl
       unfold SV at pN p1
       refine go (J4 rTI @h1 @k42 @k43) ?_
       refine ifs ?_ ?_ <;> first | exact nope | intro hb
       refine aw_skip ?_
       refine go (J5 rTI @h1 @k41 @k43 @p1) ?_
       cases hw1:isName w with
       | false=>
        rw[hw1] at pN hW
        rw[f7 (by rw[hT];exact p7 (by rw[hW];rfl)),Bool.false_and]
        refine aw_reg fun K hK=>?_;refine rn (cj rTI @h1) ?_;refine cont_pure pN ?_;refine rn (cj rTI @h1) ?_;refine hK _ _ ?_;clear hK K
        refine ifs ?_ ?_ <;> first | exact nope | intro hb
        refine go (cj rTI @h1) ?_
        exact hf1
       | true=>
        rw[hw1] at pN hW
        rw[Bool.true_and] at hW
        by_cases hw2:w=zero1
        ·rw[decide_eq_true hw2] at pZ
         rw[f7 (by rw[hT];exact p7 (by rw[hW];simpa using hw2)),Bool.false_and]
         refine aw_reg fun K hK=>?_;refine rn (J3 rTI @h1 @pZ) ?_;refine cont_pure pN ?_;refine rn (J3 rTI @h1 @pZ) ?_;refine hK _ _ ?_;clear hK K
         refine ifs ?_ ?_ <;> first | exact nope | intro hb
         refine go (cj rTI @h1) ?_
         exact hf1
        ·rw[decide_eq_false hw2] at pZ
         refine aw_reg fun K hK=>?_;refine rn (J3 rTI @h1 @pZ) ?_;refine cont_pure pN ?_;refine rn (J3 rTI @h1 @pZ) ?_;refine hK _ _ ?_;clear hK K
         refine ifs ?_ ?_ <;> first | exact nope | intro hb
         refine go (J3 rTI @h1 @k43) ?_
         simp only[block_normal,loop_normal]
         refine⟨y.ports.length-(k+1),by omega,k+1,rfl,by omega,?_⟩
         (repeat' refine And.intro ?_ ?_) <;> first | exact rfl | exact fnz (J9 @h1 @k3 @k5 @k18 @k19 @k20 @k41 @k42 @k43) | skip
         ·rw[p6,hW]
          exact decide_eq_true hw2
      ·obtain rfl:k=y.ports.length:=by omega
       rw[List.take_length] at hp
       rw[hp] at hT
       refine go (J4 rTI @h1 @k42 @k43) ?_
       refine ifs ?_ ?_ <;> first | exact nope | intro hb
       refine go (J8 rTI @h1 @k3 @k5 @k20 @g1 @g2 @f5) ?_
       simp only[block_normal,loop_normal]
       refine⟨c.subs.length-(j+1),by omega,j+1,s''.nx+1,rfl,by omega,?_⟩
       (repeat' refine And.intro ?_ ?_) <;> first | exact rfl | exact fnz (J6 @h1 @k3 @k18 @k19 @k20 @f4) | skip
       ·omega
       ·exact Nat.lt_succ_self _
       ·rw[f6]
        exact hT
       ·intro i hi
        rw[St.push_ne ((s''.push [.sl y.cards.length (KL y.cards)]).kill id) i _ (show i≠s''.nx+1 by omega),St.kill_ne _ _ _ (by omega),St.push_ne s'' i _ (by omega)]
        exact hf1 i hi
    ·rw[decide_eq_false hq2,Bool.false_and] at hT
     rw[f7 hT,Bool.false_and]
     by_cases hq3:y.ports.length<1
     ·have b1:decide ((y.ports.length:Int)<1)=true:=decide_eq_true (by omega)
      refine aw_reg fun K hK=>?_;refine rn (J3 rTI @h1 @b1) ?_;refine cont_pure pN ?_;refine rn (J3 rTI @h1 @b1) ?_;refine hK _ _ ?_;clear hK K
      refine ifs ?_ ?_ <;> first | exact nope | intro hb
      refine go (cj rTI @h1) ?_
      exact fun i hi=>(if_neg (by omega)).trans (hf i hi)
     ·have b1:decide ((y.ports.length:Int)<1)=false:=decide_eq_false (by omega)
      have b2:decide ((8:Int)<y.ports.length)=true:=decide_eq_true (by omega)
      refine aw_reg fun K hK=>?_;refine rn (J4 rTI @h1 @b1 @b2) ?_;refine cont_pure pN ?_;refine rn (J4 rTI @h1 @b1 @b2) ?_;refine hK _ _ ?_;clear hK K
      refine ifs ?_ ?_ <;> first | exact nope | intro hb
      refine go (cj rTI @h1) ?_
      exact fun i hi=>(if_neg (by omega)).trans (hf i hi)
  ·obtain rfl:j=c.subs.length:=by omega
   rw[List.take_length] at ha
   rw[ha,Bool.true_and]
   refine go (J4 rTI @h1 @k19 @k20) ?_
   refine ifs ?_ ?_ <;> first | exact nope | intro hb
   refine go (J3 rTI @h1 @k3) ?_
   have hLS:∀ l∈lists c c.subs.length,(∀ x∈l,CW x)∧l.length≤9223372036854775807:=by
    intro l hl
    unfold lists at hl
    rw[List.take_length] at hl
    rcases List.mem_cons.1 hl with rfl | hl
    ·exact⟨hB.co,hB.cl⟩
    ·obtain⟨y,hy,rfl⟩:=List.mem_map.1 hl
     exact⟨(hB.so y hy).2.2.1,(hB.so y hy).2.2.2⟩
   have hLn:(lists c c.subs.length).length=c.subs.length+1:=by
    unfold lists
    rw[List.length_cons,List.length_map,List.take_length]
   generalize lists c c.subs.length=LS at *
   clear e00 z3 h00 e01
   refine aw_loop (fun m e s''=>∃ k,m=c.subs.length+1-k∧k≤c.subs.length+1∧e.n=82∧e.m 61=.own id 0 (c.subs.length+1) 1∧e.m 62=.v (.int .i64 (c.subs.length+1:Nat))∧e.m 63=.v (.int .i64 (k:Nat)) ∧
    s''.get id=some (LS.map KV)∧id<s''.nx∧(LS.take k).all (fun l=>l.all cardOk)=true∧∀ i,i<s.nx→s''.get i=s.get i) (c.subs.length+1) ?_ ?_
   ·refine⟨0,by omega,by omega,?_⟩
    (repeat' refine And.intro ?_ ?_) <;> first | exact rfl | exact fnz (cj rTI @h1) | skip
    all_goals first | exact g3 | exact o2 | exact hf
   ·clear h1 k3 k18 k19 k20 g3 ha hf e
    rintro m e s2 ⟨k,rfl,hk,h1,k61,k62,k63,g3,o3,ha,hf⟩
    by_cases hk2:k<c.subs.length+1
    ·have f6:=all_take (fun l:List Crd=>l.all cardOk) LS [] k (by omega) ha
     have f7:=all_no (fun l:List Crd=>l.all cardOk) LS [] k (by omega)
     have hl:=hLS _ (getD_mem LS [] k (by omega))
     have f1:((LS.map KV).drop k).head?=some (.sl (LS.getD k []).length (KL (LS.getD k []))):=by
      rw[List.head?_drop,List.getElem?_map,List.getD_eq_getElem?_getD,List.getElem?_eq_getElem (by omega)]
      rfl
     have f2:(LS.map KV).length=c.subs.length+1:=by rw[List.length_map,hLn]
     generalize LS.getD k []=l at f1 f6 f7 hl
     refine go (J4 rTI @h1 @k62 @k63) ?_
     refine ifs ?_ ?_ <;> first | exact nope | intro hb
     refine aw_skip ?_
     refine go (J7 rTI @h1 @k61 @k63 @g3 @f1 @f2) ?_
     refine aw_loop (fun m e s''=>∃ j,m=l.length-j∧j≤l.length∧e.n=82∧e.m 61=.own id 0 (c.subs.length+1) 1∧e.m 62=.v (.int .i64 (c.subs.length+1:Nat))∧e.m 63=.v (.int .i64 (k:Nat)) ∧
      e.m 67=.sl l.length (KL l)∧e.m 68=.v (.int .i64 l.length)∧e.m 69=.v (.int .i64 (j:Nat))∧s''.get id=some (LS.map KV)∧id<s''.nx∧(l.take j).all cardOk=true∧∀ i,i<s.nx→s''.get i=s.get i) l.length ?_ ?_
     ·refine⟨0,by omega,by omega,?_⟩
      (repeat' refine And.intro ?_ ?_) <;> first | exact rfl | exact fnz (J5 rTI @h1 @k61 @k62 @k63) | skip
      all_goals first | exact g3 | exact o3 | exact hf
     ·clear h1 k61 k62 k63 g3 o3 hf f1 e
      rintro m e s3 ⟨j,rfl,hj,h1,k61,k62,k63,k67,k68,k69,g3,o3,hq,hf⟩
      by_cases hj2:j<l.length
      ·have p1:=kl_at l j hj2
       have p3:8≤((KL l).drop (j*8)).length:=by rw[List.length_drop,kl_len];omega
       have p6:=all_take cardOk l crd0 j hj2 hq
       have p7:=all_no cardOk l crd0 j hj2
       have pw:=write_ax _ (hl.1 _ (getD_mem l crd0 j hj2))
       generalize l.getD j crd0=y at p1 p6 p7 pw
       rw[show CA y=.ag (crdL y) from rfl] at pw
       have hT:cardOk y=decide ((writeC y).2=0):=rfl
       unfold PA at pw
       generalize writeC y=wr at *
       unfold crdL SV at p1 pw
       unfold iv at pw
       refine go (J4 rTI @h1 @k68 @k69) ?_
       refine ifs ?_ ?_ <;> first | exact nope | intro hb
       refine aw_skip ?_
       refine go (J6 rTI @h1 @k67 @k69 @p1 @p3) ?_
       refine aw_reg fun K hK=>?_;refine rn (cj rTI @h1) ?_;refine cont_pure pw ?_;refine rn (cj rTI @h1) ?_;refine hK _ _ ?_;clear hK K
       by_cases hz:wr.2=0
       ·have b1:(wr.2 != 0)=false:=by rw[hz];rfl
        rw[decide_eq_true hz] at hT
        refine go (J3 rTI @h1 @b1) ?_
        refine ifs ?_ ?_ <;> first | exact nope | intro hb
        refine go (J3 rTI @h1 @k69) ?_
        simp only[block_normal,loop_normal]
        refine⟨l.length-(j+1),by omega,j+1,rfl,by omega,?_⟩
        (repeat' refine And.intro ?_ ?_) <;> first | exact rfl | exact fnz (J7 @h1 @k61 @k62 @k63 @k67 @k68 @k69) | skip
        ·exact(push_set_ne s3 _ _ _ o3).trans g3
        ·exact Nat.lt_succ_of_lt o3
        ·rw[p6,hT]
        ·exact fun i hi=>(push_set_ne s3 _ _ _ (by omega)).trans (hf i hi)
       ·have b1:(wr.2 != 0)=true:=by simpa using hz
        rw[decide_eq_false hz] at hT
        rw[f7 (p7 hT)]
        refine go (J3 rTI @h1 @b1) ?_
        refine ifs ?_ ?_ <;> first | exact nope | intro hb
        refine go (cj rTI @h1) ?_
        exact fun i hi=>(if_neg (by omega)).trans (hf i hi)
      ·obtain rfl:j=l.length:=by omega
       rw[List.take_length] at hq
       refine go (J4 rTI @h1 @k68 @k69) ?_
       refine ifs ?_ ?_ <;> first | exact nope | intro hb
       refine go (J3 rTI @h1 @k63) ?_
       simp only[block_normal,loop_normal]
       refine⟨c.subs.length+1-(k+1),by omega,k+1,rfl,by omega,?_⟩
       (repeat' refine And.intro ?_ ?_) <;> first | exact rfl | exact fnz (J4 @h1 @k61 @k62 @k63) | skip
       all_goals first | exact g3 | exact o3 | exact hf | (rw[f6];exact hq)
    ·obtain rfl:k=c.subs.length+1:=by omega
     rw[←hLn,List.take_length] at ha
     rw[ha]
     refine go (J4 rTI @h1 @k62 @k63) ?_
     refine ifs ?_ ?_ <;> first | exact nope | intro hb
     refine go (cj rTI @h1) ?_
     exact hf
end NetJ
namespace NetK
open Go Go.RowKit Ax Ti NumS NumT CardS CardP CardA CardB CardE CardG CardI CardJ CardK CardL CardX NetS NetA NetE NetF NetI NetJ
open NumA (NM)
theorem rTI:type_of% (J24 @ti3 @ti4 @ti9 @ti5 @ti2 @ti43 @ti45 @ti44 @ti23 @ti47 @ti49 @ti68 @ti51 @ti28 @ti26 @ti24 @ti25 @ti120 @ti31 @Nat.zero_add @tz0 @tz1 @tz3 (cj @Nat.mul_one @Int.toNat_natCast)):=cj @ti3 (J24 @ti4 @ti9 @ti5 @ti2 @ti43 @ti45 @ti44 @ti23 @ti47 @ti49 @ti68 @ti51 @ti28 @ti26 @ti24 @ti25 @ti120 @ti31 @Nat.zero_add @tz0 @tz1 @tz3 @Nat.mul_one @Int.toNat_natCast)
theorem name_pos (x:Crd) (h:cardOk x=true):0<x.name.length:=by
 unfold cardOk at h
 rw[write_right] at h
 by_cases g:rightC x=true
 ·have:=(nodes_le x g).1
  unfold isDev isName at this
  simp only[Bool.and_eq_true,decide_eq_true_iff] at this
  omega
 ·rw[if_neg g] at h
  exact absurd h (by decide)
theorem refB_of (c:Cir) (hB:CirB c) (hR:cardsR c=true):RefB c:=by
 unfold cardsR at hR
 rw[Bool.and_eq_true,Bool.and_eq_true,List.all_eq_true,List.all_eq_true,List.all_eq_true] at hR
 have hsl:=hB.sl
 exact⟨fun m hm=>(hB.mo m hm).1.1,hB.ml,fun s hs=>⟨(hB.so s hs).1.1,fun x hx=>⟨((hB.so s hs).2.2.1 x hx).n.1,((hB.so s hs).2.2.1 x hx).r.1,name_pos x (List.all_eq_true.1 (hR.2.2 s hs) x hx)⟩,(hB.so s hs).2.2.2⟩,by omega,
  fun x hx=>⟨(hB.co x hx).n.1,(hB.co x hx).r.1,name_pos x (hR.2.1 x hx)⟩,hB.cl⟩
theorem twB_of (c:Cir) (hB:CirB c) (hM:many c=false):TwB c:=by
 unfold many at hM
 simp only[Bool.or_eq_false_iff,decide_eq_false_iff_not,List.any_eq_false,decide_eq_true_iff] at hM
 have hsl:=hB.sl
 exact⟨fun m hm=>(hB.mo m hm).1.1,by omega,fun s hs=>⟨(hB.so s hs).1.1,⟨(hB.so s hs).2.1.1,(hB.so s hs).2.1.2.2⟩,fun x hx=>((hB.so s hs).2.2.1 x hx).n.1,by have:=hM.2 s hs;omega⟩,hsl,fun x hx=>(hB.co x hx).n.1,by omega⟩
theorem check_ax (c:Cir) (hB:CirB c):PCall Tryz.prog 12 [CirV c] (.v (.int .i64 (checkN c))):=by
 refine pcall_of fun s=>?_
 have hsl:=hB.sl
 have hcl:=hB.cl
 have hml:=hB.ml
 have pv:PCall Tryz.prog 30 [NM c.step.1 c.step.2] (.v (.bool (valid c.step))):=NumA.valid_ax _ _
 have pR:=cardsRight_ax c hB
 unfold checkN
 unfold NM at pv
 unfold CirV at *
 generalize hC:cirL c=C at *
 have hC':=hC
 unfold cirL UV KV MV at hC
 subst hC
 by_cases c1:valid c.step=false∨c.step.1≤0∨(c.method≠1∧c.method≠2)
 ·rw[if_pos c1]
  refine acall_of Tryz.func12 rfl rfl (by simp [Tryz.ntmps12]) ?_;rw[Tryz.ntmps12,Tryz.results12]
  refine go rTI ?_
  cases hv:valid c.step with
  | false=>
   rw[hv] at pv
   refine aw_reg fun K hK=>?_;refine rn rTI ?_;refine cont_pure pv ?_;refine rn rTI ?_;refine hK _ _ ?_;clear hK K
   refine ifs ?_ ?_ <;> first | exact nope | intro hb
   refine go rTI ?_
   exact fun i hi=>if_neg (by omega)
  | true=>
   rw[hv] at pv
   by_cases h0:c.step.1≤0
   ·have b1:decide (c.step.1≤0)=true:=decide_eq_true h0
    refine aw_reg fun K hK=>?_;refine rn (cj rTI @b1) ?_;refine cont_pure pv ?_;refine rn (cj rTI @b1) ?_;refine hK _ _ ?_;clear hK K
    refine ifs ?_ ?_ <;> first | exact nope | intro hb
    refine go rTI ?_
    exact fun i hi=>if_neg (by omega)
   ·have b1:decide (c.step.1≤0)=false:=decide_eq_false h0
    have hm:c.method≠1∧c.method≠2:=by
     rcases c1 with g | g | g
     ·rw[hv] at g;cases g
     ·exact absurd g h0
     ·exact g
    have b2:(c.method != 1)=true:=by simpa using hm.1
    have b3:(c.method != 2)=true:=by simpa using hm.2
    refine aw_reg fun K hK=>?_;refine rn (J4 rTI @b1 @b2 @b3) ?_;refine cont_pure pv ?_;refine rn (J4 rTI @b1 @b2 @b3) ?_;refine hK _ _ ?_;clear hK K
    refine ifs ?_ ?_ <;> first | exact nope | intro hb
    refine go rTI ?_
    exact fun i hi=>if_neg (by omega)
 ·rw[if_neg c1]
  have v1:valid c.step=true:=by
   cases e:valid c.step with
   | true=>rfl
   | false=>exact absurd (.inl e) c1
  rw[v1] at pv
  have b1:decide (c.step.1≤0)=false:=decide_eq_false (by omega)
  refine acall_of Tryz.func12 rfl rfl (by simp [Tryz.ntmps12]) ?_;rw[Tryz.ntmps12,Tryz.results12]
  refine go rTI ?_
  have hm:c.method=1∨c.method=2:=by omega
  rcases hm with m1 | m1
  case' inl=>
   have b2:(c.method != 1)=false:=by rw[m1];rfl
   refine aw_reg fun K hK=>?_;refine rn (J3 rTI @b1 @b2) ?_;refine cont_pure pv ?_;refine rn (J3 rTI @b1 @b2) ?_;refine hK _ _ ?_;clear hK K
   refine ifs ?_ ?_ <;> first | exact nope | intro hb
   refine go rTI ?_
  case' inr=>
   have b2:(c.method != 1)=true:=by rw[m1];rfl
   have b3:(c.method != 2)=false:=by rw[m1];rfl
   refine aw_reg fun K hK=>?_;refine rn (J4 rTI @b1 @b2 @b3) ?_;refine cont_pure pv ?_;refine rn (J4 rTI @b1 @b2 @b3) ?_;refine hK _ _ ?_;clear hK K
   refine ifs ?_ ?_ <;> first | exact nope | intro hb
   refine go rTI ?_
  all_goals
   refine aw_loop (fun m e s'=>∃ j,m=c.models.length-j∧j≤c.models.length∧e.n=78∧e.m 1=.ptr s.nx 0∧e.m 29=.sl c.models.length (ML c.models)∧e.m 30=.v (.int .i64 c.models.length)∧e.m 31=.v (.int .i64 (j:Nat)) ∧
    s'.get s.nx=some [.v (.int .i64 c.step.1),.v (.int .i64 c.step.2),.v (.int .i64 c.method),.sl c.models.length (ML c.models),.sl c.subs.length (UL c.subs),.sl c.cards.length (KL c.cards)]∧s.nx<s'.nx ∧
    (c.models.take j).all modelOk=true∧∀ i,i<s.nx→s'.get i=s.get i) c.models.length ?_ ?_
   ·refine⟨0,by omega,by omega,?_⟩
    (repeat' refine And.intro ?_ ?_) <;> first | exact rfl | exact fnz rTI | skip
    all_goals first | exact Nat.lt_succ_self _ | exact fun i hi=>St.push_ne s i _ (by omega)
   ·rintro m e s' ⟨j,rfl,hj,h1,k1,k29,k30,k31,gc,o1,ha,hf⟩
    by_cases hj2:j<c.models.length
    ·have f1:=ml_at c.models j hj2
     have f3:4≤((ML c.models).drop (j*4)).length:=by rw[List.length_drop,ml_len];omega
     have f6:=all_take modelOk c.models mdl0 j hj2 ha
     have f7:=all_no modelOk c.models mdl0 j hj2
     have hY:=hB.mo _ (getD_mem c.models mdl0 j hj2)
     generalize c.models.getD j mdl0=y at f1 f6 f7 hY
     have pm:=mvalid_ax y hY.1 hY.2.1 hY.2.2
     unfold MA SV at pm
     unfold mdlL SV at f1
     refine go (J4 rTI @h1 @k30 @k31) ?_
     refine ifs ?_ ?_ <;> first | exact nope | intro hb
     refine aw_skip ?_
     refine go (J6 rTI @h1 @k29 @k31 @f1 @f3) ?_
     cases hq:modelOk y with
     | false=>
      rw[hq] at pm
      rw[if_pos (f7 hq)]
      refine aw_reg fun K hK=>?_;refine rn (cj rTI @h1) ?_;refine cont_pure pm ?_;refine rn (cj rTI @h1) ?_;refine hK _ _ ?_;clear hK K
      refine ifs ?_ ?_ <;> first | exact nope | intro hb
      refine go (cj rTI @h1) ?_
      exact fun i hi=>(if_neg (by omega)).trans (hf i hi)
     | true=>
      rw[hq] at pm f6
      refine aw_reg fun K hK=>?_;refine rn (cj rTI @h1) ?_;refine cont_pure pm ?_;refine rn (cj rTI @h1) ?_;refine hK _ _ ?_;clear hK K
      refine ifs ?_ ?_ <;> first | exact nope | intro hb
      refine go (J3 rTI @h1 @k31) ?_
      simp only[block_normal,loop_normal]
      refine⟨c.models.length-(j+1),by omega,j+1,rfl,by omega,?_⟩
      (repeat' refine And.intro ?_ ?_) <;> first | exact rfl | exact fnz (J5 @h1 @k1 @k29 @k30 @k31) | skip
      ·exact(push_set_ne s' _ _ _ o1).trans gc
      ·exact Nat.lt_succ_of_lt o1
      ·exact f6
      ·exact fun i hi=>(push_set_ne s' _ _ _ (by omega)).trans (hf i hi)
    ·obtain rfl:j=c.models.length:=by omega
     rw[List.take_length] at ha
     rw[if_neg (by rw[ha];simp)]
     refine go (J4 rTI @h1 @k30 @k31) ?_
     refine ifs ?_ ?_ <;> first | exact nope | intro hb
     refine go (cj rTI @h1) ?_
     cases hR:cardsR c with
     | false=>
      rw[hR] at pR
      rw[if_pos rfl]
      refine aw_reg fun K hK=>?_;refine rn (J4 rTI @h1 @k1 @gc) ?_;refine cont_pure pR ?_;refine rn (J4 rTI @h1 @k1 @gc) ?_;refine hK _ _ ?_;clear hK K
      refine ifs ?_ ?_ <;> first | exact nope | intro hb
      refine go (cj rTI @h1) ?_
      exact hf
     | true=>
      rw[hR] at pR
      rw[if_neg (by simp)]
      have pC:=checkRefs_ax c (refB_of c hB hR)
      have pT:=fun h=>anyTwice_ax c (twB_of c hB h)
      unfold CirV at pC pT
      rw[hC'] at pC pT
      refine aw_reg fun K hK=>?_;refine rn (J4 rTI @h1 @k1 @gc) ?_;refine cont_pure pR ?_;refine rn (J4 rTI @h1 @k1 @gc) ?_;refine hK _ _ ?_;clear hK K
      refine ifs ?_ ?_ <;> first | exact nope | intro hb
      have hA:many c=((decide (16<c.models.length)||decide (8<c.subs.length)||decide (64<c.cards.length))||c.subs.any fun s=>decide (64<s.cards.length)):=rfl
      have h4:16<c.models.length∨(¬16<c.models.length∧8<c.subs.length)∨(¬16<c.models.length∧¬8<c.subs.length∧64<c.cards.length)∨(¬16<c.models.length∧¬8<c.subs.length∧¬64<c.cards.length):=by omega
      generalize hA0:(decide (16<c.models.length)||decide (8<c.subs.length)||decide (64<c.cards.length))=A at hA
      refine aw_skip ?_
      rw[then_normal]
      refine aw_mid (fun e' s''=>e'.n=78∧e'.m 1=.ptr s.nx 0∧e'.m 5=.v (.bool A)∧s''=s') ?_ ?_
      ·rcases h4 with q1 | ⟨q1,q2⟩ | ⟨q1,q2,q3⟩ | ⟨q1,q2,q3⟩
       ·rw[decide_eq_true q1,Bool.true_or,Bool.true_or] at hA0
        subst hA0
        have b1:decide ((16:Int)<c.models.length)=true:=decide_eq_true (by omega)
        refine go (J5 rTI @h1 @k1 @gc @b1) ?_
        (repeat' refine And.intro ?_ ?_) <;> first | exact rfl | exact fnz (cj @h1 @k1) | skip
       ·rw[decide_eq_true q2,Bool.or_true,Bool.true_or] at hA0
        subst hA0
        have b1:decide ((16:Int)<c.models.length)=false:=decide_eq_false (by omega)
        have b2:decide ((8:Int)<c.subs.length)=true:=decide_eq_true (by omega)
        refine go (J6 rTI @h1 @k1 @gc @b1 @b2) ?_
        (repeat' refine And.intro ?_ ?_) <;> first | exact rfl | exact fnz (cj @h1 @k1) | skip
       ·rw[decide_eq_true q3,Bool.or_true] at hA0
        subst hA0
        have b1:decide ((16:Int)<c.models.length)=false:=decide_eq_false (by omega)
        have b2:decide ((8:Int)<c.subs.length)=false:=decide_eq_false (by omega)
        have b3:decide ((64:Int)<c.cards.length)=true:=decide_eq_true (by omega)
        refine go (J7 rTI @h1 @k1 @gc @b1 @b2 @b3) ?_
        (repeat' refine And.intro ?_ ?_) <;> first | exact rfl | exact fnz (cj @h1 @k1) | skip
       ·rw[decide_eq_false q1,decide_eq_false q2,decide_eq_false q3] at hA0
        subst hA0
        have b1:decide ((16:Int)<c.models.length)=false:=decide_eq_false (by omega)
        have b2:decide ((8:Int)<c.subs.length)=false:=decide_eq_false (by omega)
        have b3:decide ((64:Int)<c.cards.length)=false:=decide_eq_false (by omega)
        refine go (J7 rTI @h1 @k1 @gc @b1 @b2 @b3) ?_
        (repeat' refine And.intro ?_ ?_) <;> first | exact rfl | exact fnz (cj @h1 @k1) | skip
      ·clear h1 k1 k29 k30 k31 e
       rintro e s'' ⟨h1,k1,k5,rfl⟩
       refine go (J4 rTI @h1 @k1 @gc) ?_
       refine aw_loop (fun m e s2=>∃ j,m=c.subs.length-j∧j≤c.subs.length∧e.n=78∧e.m 1=.ptr s.nx 0∧e.m 5=.v (.bool (A||(c.subs.take j).any fun s=>decide (64<s.cards.length)))∧e.m 59=.sl c.subs.length (UL c.subs)∧e.m 60=.v (.int .i64 c.subs.length)∧e.m 61=.v (.int .i64 (j:Nat)) ∧
        s2.get s.nx=some [.v (.int .i64 c.step.1),.v (.int .i64 c.step.2),.v (.int .i64 c.method),.sl c.models.length (ML c.models),.sl c.subs.length (UL c.subs),.sl c.cards.length (KL c.cards)]∧s.nx<s2.nx∧∀ i,i<s.nx→s2.get i=s.get i) c.subs.length ?_ ?_
       ·refine⟨0,by omega,by omega,?_⟩
        rw[List.take_zero,List.any_nil,Bool.or_false]
        (repeat' refine And.intro ?_ ?_) <;> first | exact rfl | exact fnz (J4 rTI @h1 @k1 @k5) | skip
        all_goals first | exact gc | exact o1 | exact hf
       ·clear h1 k1 k5 e
        rintro m e s2 ⟨j,rfl,hj,h1,k1,k5,k59,k60,k61,g2,o2,hf2⟩
        by_cases hj2:j<c.subs.length
        ·have f1:=ul_at c.subs j hj2
         have f3:3≤((UL c.subs).drop (j*3)).length:=by rw[List.length_drop,ul_len];omega
         have f6:(c.subs.take (j+1)).any (fun s=>decide (64<s.cards.length))=((c.subs.take j).any (fun s=>decide (64<s.cards.length))||decide (64<(c.subs.getD j sub0).cards.length)):=by
          rw[List.take_succ_eq_append_getElem hj2,List.any_append,List.getD_eq_getElem?_getD,List.getElem?_eq_getElem hj2]
          simp
         have hyl:=(hB.so _ (getD_mem c.subs sub0 j hj2)).2.2.2
         generalize c.subs.getD j sub0=y at f1 f6 hyl
         unfold subL SV TV KV at f1
         generalize hX:(A||(c.subs.take j).any fun s=>decide (64<s.cards.length))=X at k5
         have f7:(A||(c.subs.take (j+1)).any fun s=>decide (64<s.cards.length))=(X||decide (64<y.cards.length)):=by rw[f6,←Bool.or_assoc,hX]
         have b4:decide ((64:Int)<y.cards.length)=decide (64<y.cards.length):=by rw[Bool.eq_iff_iff];simp;omega
         refine go (J4 rTI @h1 @k60 @k61) ?_
         refine ifs ?_ ?_ <;> first | exact nope | intro hb
         refine aw_skip ?_
         cases X with
         | true=>
          rw[Bool.true_or] at f7
          refine go (J7 rTI @h1 @k5 @k59 @k61 @f1 @f3) ?_
          simp only[block_normal,loop_normal]
          refine⟨c.subs.length-(j+1),by omega,j+1,rfl,by omega,?_⟩
          (repeat' refine And.intro ?_ ?_) <;> first | exact rfl | exact fnz (J6 @h1 @k1 @k59 @k60 @k61 @f7) | skip
          all_goals first | exact(push_set_ne s2 _ _ _ o2).trans g2 | exact Nat.lt_succ_of_lt o2 | exact fun i hi=>(push_set_ne s2 _ _ _ (by omega)).trans (hf2 i hi)
         | false=>
          rw[Bool.false_or] at f7
          rw[←f7] at b4
          refine go (J8 rTI @h1 @k5 @k59 @k61 @f1 @f3 @b4) ?_
          simp only[block_normal,loop_normal]
          refine⟨c.subs.length-(j+1),by omega,j+1,rfl,by omega,?_⟩
          (repeat' refine And.intro ?_ ?_) <;> first | exact rfl | exact fnz (J5 @h1 @k1 @k59 @k60 @k61) | skip
          all_goals first | exact(push_set_ne s2 _ _ _ o2).trans g2 | exact Nat.lt_succ_of_lt o2 | exact fun i hi=>(push_set_ne s2 _ _ _ (by omega)).trans (hf2 i hi)
        ·obtain rfl:j=c.subs.length:=by omega
         rw[List.take_length,←hA] at k5
         refine go (J4 rTI @h1 @k60 @k61) ?_
         refine ifs ?_ ?_ <;> first | exact nope | intro hb
         cases hM:many c with
         | true=>
          rw[hM] at k5
          rw[if_pos rfl]
          refine go (J3 rTI @h1 @k5) ?_
          refine ifs ?_ ?_ <;> first | exact nope | intro hb
          refine go (cj rTI @h1) ?_
          exact hf2
         | false=>
          rw[hM] at k5
          rw[if_neg (by simp)]
          have pT:=pT hM
          refine go (J3 rTI @h1 @k5) ?_
          refine ifs ?_ ?_ <;> first | exact nope | intro hb
          refine aw_skip ?_
          rw[then_normal]
          refine aw_seq ?_
          cases hT:anyTwice c with
          | true=>
           rw[hT] at pT
           rw[if_pos rfl]
           refine aw_seq ?_
           refine aw_reg fun K hK=>?_;refine rn (J4 rTI @h1 @k1 @g2) ?_;refine cont_pure pT ?_;refine rn (J4 rTI @h1 @k1 @g2) ?_;refine hK _ _ ?_;clear hK K
           refine ifs ?_ ?_ <;> first | exact nope | intro hb
           refine go (cj rTI @h1) ?_
           exact hf2
          | false=>
           rw[hT] at pT
           rw[if_neg (by simp)]
           refine aw_seq ?_
           refine aw_reg fun K hK=>?_;refine rn (J4 rTI @h1 @k1 @g2) ?_;refine cont_pure pT ?_;refine rn (J4 rTI @h1 @k1 @g2) ?_;refine hK _ _ ?_;clear hK K
           refine ifs ?_ ?_ <;> first | exact nope | intro hb
           refine aw_skip ?_
           rw[then_normal]
           refine aw_seq ?_
           refine aw_reg fun K hK=>?_;refine rn (J4 rTI @h1 @k1 @g2) ?_;refine cont_pure pC ?_;refine rn (J4 rTI @h1 @k1 @g2) ?_;refine hK _ _ ?_;clear hK K
           refine go (cj rTI @h1) ?_
           exact hf2
end NetK
namespace NetAJ
open Go Go.RowKit Ax Ti NumS NumT CardS CardP CardA CardB CardE CardG CardI CardJ CardK CardL CardX NetS NetA NetE NetF NetJ NetK NetAA NetAH NetAI
theorem rTI:type_of% (J22 @ti3 @ti2 @ti4 @ti9 @ti5 @ti43 @ti45 @ti44 @ti23 @ti47 @ti49 @ti26 @ti31 @ti61 @ti52 @ti55 @Nat.zero_add @tz0 @tz1 @tz3 @Nat.mul_one @Int.toNat_natCast):=cj @ti3 (J21 @ti2 @ti4 @ti9 @ti5 @ti43 @ti45 @ti44 @ti23 @ti47 @ti49 @ti26 @ti31 @ti61 @ti52 @ti55 @Nat.zero_add @tz0 @tz1 @tz3 @Nat.mul_one @Int.toNat_natCast)
structure WR (s s':St) (ib ig ig':Nat) (l:List Nat):Prop where
 b:BB s' ib ig' l
 n:s.nx≤s'.nx
 o:ig'<s'.nx∧ig'≠ib∧(ig'=ig∨s.nx≤ig')
 f:∀ i,i<s.nx→i≠ib→i≠ig→s'.get i=s.get i
theorem cards_cut (C:List Crd) (j:Nat):cardsS C=cardsS (C.take j)++cardsS (C.drop j):=by
 unfold cardsS
 rw[←List.flatMap_append,List.take_append_drop]
theorem line_long:∀ ws:List Str,ws.length≤(lineS ws).length
 | []=>Nat.zero_le _
 | [a]=>by unfold lineS;rw[List.length_append];exact Nat.le_add_left _ _
 | a::b::r=>by
  have:=line_long (b::r)
  unfold lineS at *
  rw[List.length_append] at *
  show r.length+1+1≤(a++32::joinS (b::r)).length+_
  rw[List.length_append,List.length_cons]
  simp only[List.length_cons,List.length_nil] at this ⊢
  omega
theorem put_ax (s:St) (ib ig:Nat) (l:List Nat) (ws:List Str) (hB:BB s ib ig l) (h1:ib<s.nx∧ig<s.nx∧ig≠ib) (hw:ws.length≤140737488355328) (hl:(l++lineS ws).length≤140737488355328) :
  ACall Tryz.prog 17 [TV ws,.ptr ib 0] s fun r s'=>∃ ig',r=.tp []∧WR s s' ib ig ig' (l++lineS ws):=by
 have lj:(lineS ws).length=(joinS ws).length+1:=by unfold lineS;rw[List.length_append];rfl
 rw[List.length_append] at hl
 have pj:=join_ax ws hw (by omega)
 have hw2:=write_ax s ib ig l (lineS ws) hB h1 (by rw[List.length_append];exact hl)
 have c1:bs (joinS ws)++ByteArray.mk #[10]=bs (lineS ws):=bs_append (joinS ws) [10]
 have c2:=bs_size (joinS ws)
 have c3:(ByteArray.mk #[10]).size=1:=rfl
 unfold SV at pj
 refine acall_of Tryz.func17 rfl rfl (by simp [Tryz.ntmps17]) ?_;rw[Tryz.ntmps17,Tryz.results17]
 refine aw_reg fun K hK=>?_;refine rn (J4 rTI @c1 @c2 @c3) ?_;refine cont_pure pj ?_;refine rn (J4 rTI @c1 @c2 @c3) ?_;refine cont_go hw2 ?_;rintro _ s2 ⟨ig',rfl,w1,w2,w3,w4,w5,w6⟩;refine rn (J4 rTI @c1 @c2 @c3) ?_;refine hK _ _ ?_;clear hK K
 exact⟨ig',rfl,w1,w2,⟨w3,w4,w5⟩,w6⟩
theorem puts_ax (s:St) (ib ig it:Nat) (l:List Nat) (C:List Crd) (hB:BB s ib ig l) (h1:ib<s.nx∧ig<s.nx∧ig≠ib) (h2:s.get it=some [.fn 17 [.ptr ib 0]]) (h3:it<s.nx∧it≠ib∧it≠ig)
  (hC:∀ x∈C,CW x∧rightC x=true) (hcl:C.length≤9223372036854775807) (hl:(l++cardsS C).length≤140737488355328) :
  ACall Tryz.prog 20 [KV C,.ptr it 0] s fun r s'=>∃ ig',r=.tp []∧WR s s' ib ig ig' (l++cardsS C):=by
 unfold KV
 obtain⟨n1,n2,n3⟩:=h1
 obtain⟨m1,m2,m3⟩:=h3
 refine acall_of Tryz.func20 rfl rfl (by simp [Tryz.ntmps20]) ?_;rw[Tryz.ntmps20,Tryz.results20]
 refine go rTI ?_
 refine aw_loop (fun m e s'=>∃ j ig',m=C.length-j∧j≤C.length∧e.n=22∧e.m 1=.ptr it 0∧e.m 7=.sl C.length (KL C)∧e.m 8=.v (.int .i64 C.length)∧e.m 9=.v (.int .i64 (j:Nat))∧WR s s' ib ig ig' (l++cardsS (C.take j))) C.length ?_ ?_
 ·refine⟨0,ig,by omega,by omega,?_⟩
  (repeat' refine And.intro ?_ ?_) <;> first | exact rfl | exact fnz rTI | skip
  exact⟨by rw[List.take_zero];simpa [cardsS] using hB,Nat.le_refl _,⟨n2,n3,.inl rfl⟩,fun i _ _ _=>rfl⟩
 ·rintro m e s' ⟨j,ig',rfl,hj,h1,k1,k7,k8,k9,hw⟩
  have gt:=(hw.f it m1 m2 m3).trans h2
  have hnx:=hw.n
  have ho:=hw.o
  by_cases hj2:j<C.length
  ·have f1:=kl_at C j hj2
   have f3:8≤((KL C).drop (j*8)).length:=by rw[List.length_drop,kl_len];omega
   have f4:cardsS (C.take (j+1))=cardsS (C.take j)++lineS (wordsC (C.getD j crd0)):=by
    unfold cardsS
    rw[List.take_succ_eq_append_getElem hj2,List.flatMap_append,List.getD_eq_getElem?_getD,List.getElem?_eq_getElem hj2]
    simp
   have f5:(l++cardsS (C.take (j+1))).length≤140737488355328:=by
    refine Nat.le_trans ?_ hl
    rw[List.length_append,List.length_append]
    refine Nat.add_le_add_left ?_ _
    rw[cards_cut C (j+1),List.length_append]
    exact Nat.le_add_right _ _
   obtain⟨hc,hr⟩:=hC _ (getD_mem C crd0 j hj2)
   generalize C.getD j crd0=y at f1 f4 hc hr
   have pw:=CardK.write_ax y hc
   rw[write_right,if_pos hr] at pw
   unfold PA CA SV TV NV IV iv at pw
   unfold crdL SV TV NV IV iv at f1
   refine go (J4 rTI @h1 @k8 @k9) ?_
   refine ifs ?_ ?_ <;> first | exact nope | intro hb
   refine aw_skip ?_
   refine go (J6 rTI @h1 @k7 @k9 @f1 @f3) ?_
   generalize hs1:(s'.push _).set s'.nx _=s1
   have x1:s1.nx=s'.nx+1:=by rw[←hs1];rfl
   have xf:∀ i,i<s'.nx→s1.get i=s'.get i:=fun i hi=>by rw[←hs1];exact stz
   have xy:s1.get s'.nx=some [.v (.string (bs y.name)),.sl y.nodes.length (SL y.nodes),.v (.string (bs y.ref)),.v (.int .i64 y.value.1),.v (.int .i64 y.value.2),.v (.int .i64 y.wave.kind),.sl y.wave.vals.length (NC y.wave.vals),.sl y.wave.steps.length (IL y.wave.steps)]:=by rw[←hs1];exact St.set_same _ _ _
   have xt:=(xf it (by omega)).trans gt
   have xB:BB s1 ib ig' (l++cardsS (C.take j)):=⟨(xf ib (by omega)).trans hw.b.1,(xf ig' (by omega)).trans hw.b.2⟩
   clear hs1
   rw[f4,←List.append_assoc] at f5
   have f6:=line_long (wordsC y)
   have hput:=put_ax s1 ib ig' (l++cardsS (C.take j)) (wordsC y) xB ⟨by omega,by omega,ho.2.1⟩ (by have:=f5;rw[List.length_append] at this;omega) f5
   unfold TV at hput
   refine aw_reg fun K hK=>?_;refine rn (J3 rTI @h1 @xy) ?_;refine cont_pure pw ?_;refine rn (J3 rTI @h1 @xy) ?_;refine hK _ _ ?_;clear hK K
   refine aw_reg fun K hK=>?_;refine rn (J4 rTI @h1 @k1 @xt) ?_;refine cont_go hput ?_;rintro _ s2 ⟨ig2,rfl,hw2⟩;refine rn (J4 rTI @h1 @k1 @xt) ?_;refine hK _ _ ?_;clear hK K
   refine go (J3 rTI @h1 @k9) ?_
   simp only[block_normal,loop_normal]
   refine⟨C.length-(j+1),by omega,j+1,ig2,rfl,by omega,?_⟩
   (repeat' refine And.intro ?_ ?_) <;> first | exact rfl | exact fnz (J5 @h1 @k1 @k7 @k8 @k9) | skip
   have b1:=hw2.n
   have b2:=hw2.o
   refine⟨by rw[f4,←List.append_assoc];exact hw2.b,by omega,⟨by omega,b2.2.1,by omega⟩,fun i a1 a2 a3=>(hw2.f i (by omega) a2 (by omega)).trans ((xf i (by omega)).trans (hw.f i a1 a2 a3))⟩
  ·obtain rfl:j=C.length:=by omega
   rw[List.take_length] at hw
   refine go (J4 rTI @h1 @k8 @k9) ?_
   refine ifs ?_ ?_ <;> first | exact nope | intro hb
   refine go (cj rTI @h1) ?_
   exact⟨ig',hw⟩
end NetAJ
namespace NetB
open CardS CardP CardQ NetS NetP NetG NetR NetT NumS
structure Ok (c:Cir):Prop where
 st:valid c.step=true∧0<c.step.1
 me:c.method=1∨c.method=2
 mo:∀ m∈c.models,modelOk m=true
 mn:(c.models.map Mdl.name).Nodup
 ml:c.models.length≤16
 so:∀ s∈c.subs,okSub s
 sn:(c.subs.map Sub.name).Nodup
 sl:c.subs.length≤8
 co:∀ x∈c.cards,rightC x=true
 cn:(names c.cards).Nodup
 cl:c.cards.length≤64
 rf:allRefs c
theorem ok_of (c:Cir) (h:checkN c=0):Ok c:=by
 have hw:∀ x,cardOk x=true→rightC x=true:=fun x hx=>by
  unfold cardOk at hx
  rw[write_right] at hx
  by_cases g:rightC x=true
  ·exact g
  ·rw[if_neg g] at hx
   exact absurd hx (by decide)
 unfold checkN at h
 by_cases h1:valid c.step=false∨c.step.1≤0∨(c.method≠1∧c.method≠2)
 ·rw[if_pos h1] at h;exact absurd h (by decide)
 rw[if_neg h1] at h
 by_cases h2:c.models.all modelOk=false
 ·rw[if_pos h2] at h;exact absurd h (by decide)
 rw[if_neg h2] at h
 by_cases h3:cardsR c=false
 ·rw[if_pos h3] at h;exact absurd h (by decide)
 rw[if_neg h3] at h
 by_cases h4:many c=true
 ·rw[if_pos h4] at h;exact absurd h (by decide)
 rw[if_neg h4] at h
 by_cases h5:anyTwice c=true
 ·rw[if_pos h5] at h;exact absurd h (by decide)
 rw[if_neg h5] at h
 rw[Bool.not_eq_false] at h2 h3
 rw[Bool.not_eq_true] at h4 h5
 unfold cardsR at h3
 rw[Bool.and_eq_true,Bool.and_eq_true,List.all_eq_true,List.all_eq_true,List.all_eq_true] at h3
 unfold many at h4
 simp only[Bool.or_eq_false_iff,decide_eq_false_iff_not,List.any_eq_false,decide_eq_true_iff] at h4
 unfold anyTwice twice at h5
 simp only[Bool.or_eq_false_iff,decide_eq_false_iff_not,Classical.not_not,List.any_eq_false,Bool.or_eq_true,decide_eq_true_iff,not_or] at h5
 have hv:valid c.step=true:=by
  cases e:valid c.step with
  | true=>rfl
  | false=>exact absurd (.inl e) h1
 refine⟨⟨hv,by omega⟩,by omega,List.all_eq_true.1 h2,h5.2.1,by omega,fun s hs=>⟨h3.1 s hs,(h5.1 s hs).1,fun x hx=>hw x (List.all_eq_true.1 (h3.2.2 s hs) x hx),(h5.1 s hs).2,by have:=h4.2 s hs;omega⟩,h5.2.2.1,by omega,fun x hx=>hw x (h3.2.1 x hx),h5.2.2.2,by omega,(refsE_zero c).1 h⟩
def linesS (s:Sub):List (List Str):=(sSub::s.name::s.ports)::(s.cards.map wordsC++[[sEnds]])
def linesC (c:Cir):List (List Str):=
 [sStep,textN c.step]::[sMethod,if c.method=2 then sTrap else sEuler]::(c.models.map modelT++(c.subs.flatMap linesS++(c.cards.map wordsC++[[sEnd]])))
def Runs (p:Par) (L:List Line) (q:Par):Prop:=linesN p L=(q,0,0)
theorem Runs.nil (p:Par):Runs p [] p:=rfl
theorem Runs.cons {p q r:Par} {l:Line} {L:List Line} (h:lineN p l=(q,0)) (g:Runs q L r):Runs p (l::L) r:=by
 have e1:linesN p (l::L)=if (lineN p l).2≠0 then ((lineN p l).1,l.1,(lineN p l).2) else linesN (lineN p l).1 L:=rfl
 unfold Runs at g ⊢
 rw[e1,h,if_neg (by simp)]
 exact g
theorem Runs.app {p q r:Par} {L M:List Line} (h:Runs p L q) (g:Runs q M r):Runs p (L++M) r:=by
 unfold Runs at *
 rw[linesN_append,h,if_neg (by simp)]
 exact g
theorem any_no {α:Type} (l:List α) (g:α→Str) (x:Str) (h:¬x∈l.map g):¬l.any (fun o=>decide (g o=x))=true:=by
 intro hx
 obtain⟨o,ho,e⟩:=List.any_eq_true.1 hx
 exact h (List.mem_map.2 ⟨o,ho,of_decide_eq_true e⟩)
theorem nodup_mid {l r:List Str} {x:Str} (h:(l++x::r).Nodup):¬x∈l:=fun hx=>by
 rw[List.nodup_append] at h
 exact h.2.2 x hx x (List.mem_cons_self ..) rfl
theorem text_num (s:Num) (h:valid s=true):parseS (textN s)=(s.1,s.2,0):=by
 unfold textN
 rw[if_pos h]
 exact parse_text _ _ ((NumH.ok_valid _ _).1 h)
theorem step_line (a:Int) (s:Num) (h:valid s=true) (h0:0<s.1):lineN par0 (a,[sStep,textN s])=({ par0 with step:=true,c:={ par0.c with step:=s } },0):=by
 have e:lineN par0 (a,[sStep,textN s])=setStep par0 (textN s):=rfl
 rw[e]
 unfold setStep numV
 rw[text_num s h,if_neg (by simp),if_neg (by simp only;omega),if_neg (by simp [par0])]
theorem method_line (a:Int) (p:Par) (m:Int) (hm:m=1∨m=2) (h1:p.method=false) (h2:p.ended=false) (h3:p.inside=false) (h4:p.c.method=1) :
  lineN p (a,[sMethod,if m=2 then sTrap else sEuler])=({ p with method:=true,c:={ p.c with method:=m } },0):=by
 have e:lineN p (a,[sMethod,if m=2 then sTrap else sEuler])=setMethod p (if m=2 then sTrap else sEuler):=by
  have ho:orderOk p sMethod=true:=by
   unfold orderOk
   rw[if_neg (by rw[h2];simp),if_pos (by decide),h3]
   rfl
  have hc:countOk [sMethod,if m=2 then sTrap else sEuler]=true:=by
   rcases hm with rfl | rfl <;> decide
  show (if orderOk p sMethod=false then _ else if countOk [sMethod,if m=2 then sTrap else sEuler]=false then _ else if sMethod=sStep then _ else if sMethod=sMethod then _ else _)=_
  rw[if_neg (by rw[ho];simp),if_neg (by rw[hc];simp),if_neg (by decide),if_pos rfl]
  rfl
 rw[e]
 unfold setMethod
 rw[if_neg (by rw[h1];simp)]
 rcases hm with rfl | rfl
 ·rw[if_neg (show ¬(1:Int)=2 by decide),if_neg (by decide),h4]
 ·rw[if_pos (rfl:(2:Int)=2),if_pos rfl]
theorem model_line (a:Int) (p:Par) (m:Mdl) (hm:modelOk m=true) (h2:p.ended=false) (h3:p.inside=false) (hn:¬m.name∈p.c.models.map Mdl.name) (hl:p.c.models.length<16) :
  lineN p (a,modelT m)=({ p with c:={ p.c with models:=p.c.models++[m] } },0):=by
 have e:lineN p (a,modelT m)=addModel p (modelT m):=by
  have ho:orderOk p sModel=true:=by
   unfold orderOk
   rw[if_neg (by rw[h2];simp),if_pos (by decide),h3]
   rfl
  have hk:(modelT m).headD []=sModel:=rfl
  have hc:countOk (modelT m)=true:=by
   unfold countOk
   simp only[hk]
   rw[if_neg (by decide),if_neg (by decide),if_pos trivial]
  unfold lineN
  simp only[hk]
  rw[if_neg (by rw[ho];simp),if_neg (by rw[hc];simp),if_neg (by decide),if_neg (by decide),if_pos trivial]
 rw[e]
 unfold addModel
 rw[model_back m hm,if_neg (by simp),if_neg (any_no _ _ _ hn),if_neg (by omega)]
theorem model_lines:∀ (ms:List Mdl) (p:Par) (L:List Line),p.ended=false→p.inside=false→L.map Prod.snd=ms.map modelT→(∀ m∈ms,modelOk m=true)→((p.c.models++ms).map Mdl.name).Nodup→(p.c.models++ms).length≤16 →
  Runs p L { p with c:={ p.c with models:=p.c.models++ms } }
 | [],p,L,h1,h2,hL,_,_,_=>by
  have:L=[]:=List.map_eq_nil_iff.1 hL
  subst this
  rw[List.append_nil]
  exact Runs.nil p
 | m::ms,p,L,h1,h2,hL,hm,hn,hl=>by
  rw[List.map_cons] at hL
  obtain⟨l,M,rfl,e1,e2⟩:=List.map_eq_cons_iff.1 hL
  obtain⟨a,w⟩:=l
  simp only at e1
  subst e1
  have hn2:=hn
  rw[List.map_append,List.map_cons] at hn
  rw[List.length_append,List.length_cons] at hl
  refine Runs.cons (model_line a p m (hm m (List.mem_cons_self ..)) h1 h2 (nodup_mid hn) (by omega)) ?_
  have:=model_lines ms { p with c:={ p.c with models:=p.c.models++[m] } } M h1 h2 e2 (fun x hx=>hm x (List.mem_cons_of_mem _ hx)) (by simpa using hn2) (by simp only[List.length_append,List.length_cons,List.length_nil];omega)
  simpa using this
theorem dot_no (nm:Str) (h:isDev nm=true):nm.getD 0 0≠46:=fun e=>by
 unfold isDev at h
 rw[e,show kinds.contains 46=false by decide] at h
 simp at h
theorem card_line (a:Int) (p:Par) (x:Crd) (hx:rightC x=true) (h2:p.ended=false):lineN p (a,wordsC x)=addCard p (a,wordsC x):=by
 have hd:=dot_no x.name (nodes_le x hx).1
 have hne:∀ k:Str,k.getD 0 0=46→¬x.name=k:=fun k hk e=>hd (by rw[e];exact hk)
 have n1:=hne sStep rfl
 have n2:=hne sMethod rfl
 have n3:=hne sModel rfl
 have n4:=hne sSub rfl
 have n5:=hne sEnds rfl
 have n6:=hne sEnd rfl
 have hk:(wordsC x).headD []=x.name:=rfl
 have ho:orderOk p x.name=true:=by
  unfold orderOk
  rw[if_neg (by rw[h2];simp),if_neg (by rintro (g | g | g | g | g);exact n1 g;exact n2 g;exact n3 g;exact n4 g;exact n6 g),if_neg n5]
 have hc:countOk (wordsC x)=true:=by
  unfold countOk
  simp only[hk]
  rw[if_neg n1,if_neg n2,if_neg n3,if_neg n4,if_neg (by rintro (g | g);exact n5 g;exact n6 g)]
  exact decide_eq_true hd
 unfold lineN
 simp only[hk]
 rw[if_neg (by rw[ho];simp),if_neg (by rw[hc];simp),if_neg n1,if_neg n2,if_neg n3,if_neg n4,if_neg n5,if_neg n6]
theorem cards_out:∀ (xs:List Crd) (p:Par) (L:List Line),p.ended=false→p.inside=false→L.map Prod.snd=xs.map wordsC→(∀ x∈xs,rightC x=true)→(names (p.c.cards++xs)).Nodup→(p.c.cards++xs).length≤64 →
  ∃ q,Runs p L q∧q.c={ p.c with cards:=p.c.cards++xs }∧q.inside=false∧q.ended=false
 | [],p,L,h1,h2,hL,_,_,_=>by
  have:L=[]:=List.map_eq_nil_iff.1 hL
  subst this
  rw[List.append_nil]
  exact⟨p,Runs.nil p,rfl,h2,h1⟩
 | x::xs,p,L,h1,h2,hL,hm,hn,hl=>by
  rw[List.map_cons] at hL
  obtain⟨l,M,rfl,e1,e2⟩:=List.map_eq_cons_iff.1 hL
  obtain⟨a,w⟩:=l
  simp only at e1
  subst e1
  have hx:=hm x (List.mem_cons_self ..)
  have hn2:=hn
  unfold names at hn
  rw[List.map_append,List.map_cons] at hn
  rw[List.length_append,List.length_cons] at hl
  have e:lineN p (a,wordsC x)=({ p with c:={ p.c with cards:=p.c.cards++[x] },places:=p.places++[a] },0):=by
   rw[card_line a p x hx h1]
   unfold addCard openL
   simp only[right_read x hx]
   rw[if_neg (by simp),if_neg (show ¬p.inside=true by rw[h2];simp),if_neg (any_no _ _ _ (nodup_mid hn)),if_neg (by omega),if_neg (show ¬p.inside=true by rw[h2];simp)]
  obtain⟨q,q1,q2,q3⟩:=cards_out xs { p with c:={ p.c with cards:=p.c.cards++[x] },places:=p.places++[a] } M h1 h2 e2 (fun x hx=>hm x (List.mem_cons_of_mem _ hx)) (by simpa using hn2) (by simp only[List.length_append,List.length_cons,List.length_nil];omega)
  exact⟨q,Runs.cons e q1,by rw[q2];simp,q3⟩
theorem cards_in:∀ (xs:List Crd) (I:List Sub) (s:Sub) (p:Par) (L:List Line),p.ended=false→p.inside=true→p.c.subs=I++[s]→L.map Prod.snd=xs.map wordsC→(∀ x∈xs,rightC x=true)→(names (s.cards++xs)).Nodup→(s.cards++xs).length≤64 →
  ∃ q,Runs p L q∧q.c={ p.c with subs:=I++[{ s with cards:=s.cards++xs }] }∧q.inside=true∧q.ended=false
 | [],I,s,p,L,h1,h2,hs,hL,_,_,_=>by
  have:L=[]:=List.map_eq_nil_iff.1 hL
  subst this
  rw[List.append_nil]
  refine⟨p,Runs.nil p,?_,h2,h1⟩
  obtain⟨⟨a,b,c,d,e⟩,_⟩:=p
  simp only at hs
  subst hs
  rfl
 | x::xs,I,s,p,L,h1,h2,hs,hL,hm,hn,hl=>by
  rw[List.map_cons] at hL
  obtain⟨l,M,rfl,e1,e2⟩:=List.map_eq_cons_iff.1 hL
  obtain⟨a,w⟩:=l
  simp only at e1
  subst e1
  have hx:=hm x (List.mem_cons_self ..)
  have hn2:=hn
  unfold names at hn
  rw[List.map_append,List.map_cons] at hn
  rw[List.length_append,List.length_cons] at hl
  have ho:openL p=s.cards:=by
   unfold openL
   rw[if_pos h2,hs]
   simp
  have e:lineN p (a,wordsC x)=({ p with c:={ p.c with subs:=I++[{ s with cards:=s.cards++[x] }] },subPl:=lastMap (fun b=>b++[a]) p.subPl },0):=by
   rw[card_line a p x hx h1]
   unfold addCard
   simp only[right_read x hx,ho]
   rw[if_neg (by simp),if_neg (any_no _ _ _ (nodup_mid hn)),if_neg (by omega),if_pos h2,hs,lastMap_snoc]
  obtain⟨q,q1,q2,q3⟩:=cards_in xs I { s with cards:=s.cards++[x] } { p with c:={ p.c with subs:=I++[{ s with cards:=s.cards++[x] }] },subPl:=lastMap (fun b=>b++[a]) p.subPl } M h1 h2 rfl e2 (fun x hx=>hm x (List.mem_cons_of_mem _ hx)) (by simpa using hn2) (by simp only[List.length_append,List.length_cons,List.length_nil];omega)
  exact⟨q,Runs.cons e q1,by rw[q2];simp,q3⟩
theorem sub_line (a:Int) (p:Par) (s:Sub) (hs:okSub s) (h2:p.ended=false) (h3:p.inside=false) (hn:¬s.name∈p.c.subs.map Sub.name) (hl:p.c.subs.length<8) :
  lineN p (a,sSub::s.name::s.ports)=({ p with c:={ p.c with subs:=p.c.subs++[⟨s.name,s.ports,[]⟩] },subPl:=p.subPl++[[]],inside:=true,begun:=a },0):=by
 obtain⟨q1,q2,_⟩:=hs
 unfold subOk at q1
 rw[Bool.and_eq_true,Bool.and_eq_true,decide_eq_true_iff,List.all_eq_true] at q1
 obtain⟨⟨p1,p2⟩,p3⟩:=q1
 have hp:∀ x∈s.ports,isName x=true∧x≠zero1:=fun x hx=>by
  have:=p3 x hx
  unfold portOk at this
  simpa using this
 have e:lineN p (a,sSub::s.name::s.ports)=addSub p (a,sSub::s.name::s.ports):=by
  have ho:orderOk p sSub=true:=by
   unfold orderOk
   rw[if_neg (by rw[h2];simp),if_pos (by decide),h3]
   rfl
  have hc:countOk (sSub::s.name::s.ports)=true:=by
   unfold countOk
   simp only[List.headD_cons]
   rw[if_neg (by decide),if_neg (by decide),if_neg (by decide),if_pos trivial,decide_eq_true_iff]
   simp only[List.length_cons]
   omega
  unfold lineN
  simp only[List.headD_cons]
  rw[if_neg (by rw[ho];simp),if_neg (by rw[hc];simp),if_neg (by decide),if_neg (by decide),if_neg (by decide),if_pos trivial]
 rw[e]
 unfold addSub
 simp only[List.drop_succ_cons,List.drop_zero,List.getD_cons_succ,List.getD_cons_zero]
 have a1:(s.name::s.ports).all isName=true:=by
  rw[List.all_eq_true]
  intro x hx
  rcases List.mem_cons.1 hx with rfl | hx
  ·exact p1
  ·exact(hp x hx).1
 have a2:s.ports.all (fun n=>decide (n≠zero1))=true:=List.all_eq_true.2 fun x hx=>decide_eq_true (hp x hx).2
 have a3:twice s.ports=false:=decide_eq_false (fun g=>g q2)
 rw[if_neg (by rw[a1];simp),if_neg (by rw[a2];simp),if_neg (by rw[a3];simp),if_neg (any_no _ _ _ hn),if_neg (by omega)]
theorem ends_line (a:Int) (p:Par) (h2:p.ended=false) (h3:p.inside=true):lineN p (a,[sEnds])=({ p with inside:=false },0):=by
 have ho:orderOk p sEnds=true:=by
  unfold orderOk
  rw[if_neg (by rw[h2];simp),if_neg (by decide),if_pos rfl,h3]
 unfold lineN
 simp only[List.headD_cons]
 rw[if_neg (by rw[ho];simp),if_neg (show ¬countOk [sEnds]=false by decide),if_neg (by decide),if_neg (by decide),if_neg (by decide),if_neg (by decide),if_pos trivial]
theorem end_line (a:Int) (p:Par) (h2:p.ended=false) (h3:p.inside=false):lineN p (a,[sEnd])=({ p with ended:=true },0):=by
 have ho:orderOk p sEnd=true:=by
  unfold orderOk
  rw[if_neg (by rw[h2];simp),if_pos (by decide),h3]
  rfl
 unfold lineN
 simp only[List.headD_cons]
 rw[if_neg (by rw[ho];simp),if_neg (show ¬countOk [sEnd]=false by decide),if_neg (by decide),if_neg (by decide),if_neg (by decide),if_neg (by decide),if_neg (by decide),if_pos trivial]
theorem subs_lines:∀ (ss:List Sub) (p:Par) (L:List Line),p.ended=false→p.inside=false→L.map Prod.snd=ss.flatMap linesS→(∀ s∈ss,okSub s)→((p.c.subs++ss).map Sub.name).Nodup→(p.c.subs++ss).length≤8 →
  ∃ q,Runs p L q∧q.c={ p.c with subs:=p.c.subs++ss }∧q.inside=false∧q.ended=false
 | [],p,L,h1,h2,hL,_,_,_=>by
  have:L=[]:=List.map_eq_nil_iff.1 hL
  subst this
  rw[List.append_nil]
  exact⟨p,Runs.nil p,rfl,h2,h1⟩
 | s::ss,p,L,h1,h2,hL,hm,hn,hl=>by
  rw[List.flatMap_cons] at hL
  obtain⟨L1,L2,rfl,e1,e2⟩:=List.map_eq_append_iff.1 hL
  unfold linesS at e1
  obtain⟨l,M,rfl,f1,f2⟩:=List.map_eq_cons_iff.1 e1
  obtain⟨M1,M2,rfl,g1,g2⟩:=List.map_eq_append_iff.1 f2
  obtain⟨l2,M3,rfl,k1,k2⟩:=List.map_eq_cons_iff.1 g2
  have:M3=[]:=List.map_eq_nil_iff.1 k2
  subst this
  obtain⟨a,w⟩:=l
  obtain⟨b,v⟩:=l2
  simp only at f1 k1
  subst f1 k1
  have hs:=hm s (List.mem_cons_self ..)
  have hn2:=hn
  rw[List.map_append,List.map_cons] at hn
  rw[List.length_append,List.length_cons] at hl
  have r1:=sub_line a p s hs h1 h2 (nodup_mid hn) (by omega)
  obtain⟨q,q1,q2,q3,q4⟩:=cards_in s.cards p.c.subs ⟨s.name,s.ports,[]⟩ { p with c:={ p.c with subs:=p.c.subs++[⟨s.name,s.ports,[]⟩] },subPl:=p.subPl++[[]],inside:=true,begun:=a } M1 h1 rfl rfl g1 hs.2.2.1 (by simpa using hs.2.2.2.1) (by simpa using hs.2.2.2.2)
  have r2:=ends_line b q q4 q3
  have hqc:q.c={ p.c with subs:=p.c.subs++[s] }:=by rw[q2];simp
  obtain⟨r,t1,t2,t3,t4⟩:=subs_lines ss { q with inside:=false } L2 q4 rfl e2 (fun x hx=>hm x (List.mem_cons_of_mem _ hx)) (by simp only[hqc];simpa using hn2) (by simp only[hqc,List.length_append,List.length_cons,List.length_nil];omega)
  refine⟨r,?_,by rw[t2];simp only[hqc];simp,t3,t4⟩
  exact Runs.app (Runs.cons r1 (Runs.app q1 (Runs.cons r2 (Runs.nil _)))) t1
theorem back_lines (c:Cir) (h:checkN c=0) (L:List Line) (hL:L.map Prod.snd=linesC c) (ha:∀ l∈L,l.1<1073741824):parseL L=(c,0,0):=by
 have hc:=ok_of c h
 unfold linesC at hL
 obtain⟨l1,M1,rfl,e1,hL⟩:=List.map_eq_cons_iff.1 hL
 obtain⟨l2,M2,rfl,e2,hL⟩:=List.map_eq_cons_iff.1 hL
 obtain⟨A,M3,rfl,e3,hL⟩:=List.map_eq_append_iff.1 hL
 obtain⟨B,M4,rfl,e4,hL⟩:=List.map_eq_append_iff.1 hL
 obtain⟨C,M5,rfl,e5,hL⟩:=List.map_eq_append_iff.1 hL
 obtain⟨l3,M6,rfl,e6,hL⟩:=List.map_eq_cons_iff.1 hL
 have:M6=[]:=List.map_eq_nil_iff.1 hL
 subst this
 obtain⟨a1,w1⟩:=l1
 obtain⟨a2,w2⟩:=l2
 obtain⟨a3,w3⟩:=l3
 simp only at e1 e2 e6
 subst e1 e2 e6
 have r1:=step_line a1 c.step hc.st.1 hc.st.2
 have r2:=method_line a2 { par0 with step:=true,c:={ par0.c with step:=c.step } } c.method hc.me rfl rfl rfl rfl
 have r3:=model_lines c.models { par0 with step:=true,method:=true,c:={ par0.c with step:=c.step,method:=c.method } } A rfl rfl e3 hc.mo (by simpa [par0] using hc.mn) (by simpa [par0] using hc.ml)
 obtain⟨q,r4,s1,s2,s3⟩:=subs_lines c.subs { par0 with step:=true,method:=true,c:={ par0.c with step:=c.step,method:=c.method,models:=c.models } } B rfl rfl e4 hc.so (by simpa [par0] using hc.sn) (by simpa [par0] using hc.sl)
 obtain⟨r,r5,t1,t2,t3⟩:=cards_out c.cards q C s3 s2 e5 hc.co (by rw[s1];simpa [par0] using hc.cn) (by rw[s1];simpa [par0] using hc.cl)
 have r6:=end_line a3 r t3 t2
 have hR:Runs par0 ((a1,[sStep,textN c.step])::(a2,[sMethod,if c.method=2 then sTrap else sEuler])::(A++(B++(C++[(a3,[sEnd])])))) { r with ended:=true }:=
  Runs.cons r1 (Runs.cons r2 (Runs.app (by simpa [par0] using r3) (Runs.app r4 (Runs.app r5 (Runs.cons r6 (Runs.nil _))))))
 have hq:r.c=c:=by
  rw[t1,s1]
  simp [par0]
 unfold Runs at hR
 have hrt:=linesN_rt ((a1,[sStep,textN c.step])::(a2,[sMethod,if c.method=2 then sTrap else sEuler])::(A++(B++(C++[(a3,[sEnd])])))) par0 par0_rt
 have hpl:=(linesN_pl _ par0 (S:=fun a=>a<1073741824) ⟨fun g=>Bool.noConfusion g,fun a ha=>(by cases ha),fun a ha=>(by cases ha)⟩ ha).1
 rw[parseL_out _ (by rw[hR]) (by rw[hR];exact t2)]
 rw[hR] at hrt hpl ⊢
 have hz:=(refsP_zero _ hrt.pl (rt_places hrt) hpl).2 (by show allRefs r.c;rw[hq];exact hc.rf)
 rw[if_neg (by simpa using hz)]
 show (r.c,_,_)=_
 rw[hq]
end NetB
namespace NetC
open CardS CardP CardQ NetS NetT NetB NumS
def okC (c:Nat):Bool:=decide (33≤c∧c≤126∧c≠59∧¬(65≤c∧c≤90))
def WordOk (x:Str):Prop:=x≠[]∧(∀ c∈x,okC c=true)∧x.length≤65536
def LineOk (w:List Str):Prop:=(∃ h r,w=h::r∧h.getD 0 0≠42∧h.getD 0 0≠43)∧(∀ x∈w,WordOk x)∧w.length≤64
theorem okC_digit (c:Nat) (h:isD c=true):okC c=true:=by
 have:=(isD_iff c).1 h
 unfold okC
 rw[decide_eq_true_iff]
 omega
theorem decN_ok (n:Nat):∀ c∈decN n,okC c=true:=fun c hc=>okC_digit c (decN_isD n c hc)
theorem decS_ok (z:Int):decS z≠[]∧∀ c∈decS z,okC c=true:=by
 unfold decS
 split
 ·exact⟨by simp,fun c hc=>by rw[List.mem_singleton] at hc;subst hc;rfl⟩
 ·rename_i h
  refine⟨fun e=>decN_nil z.natAbs (by omega) (List.append_eq_nil_iff.1 e).2,fun c hc=>?_⟩
  rcases List.mem_append.1 hc with k | k
  ·split at k
   ·rw[List.mem_singleton] at k;subst k;rfl
   ·cases k
  ·exact decN_ok _ c k
theorem letter_ok (k:Nat):∀ c∈letterS k,okC c=true:=by
 unfold letterS
 intro c hc
 match k with
 | 0 | 1 | 2 | 3 | 4 | 5 | 6 | 7 | 8 | 9=>revert c;decide
 | n+10=>simp at hc
theorem textN_ok (n:Num):WordOk (textN n):=by
 unfold textN
 split
 ·rename_i h
  have hl:=text_len n.1 n.2 ((NumH.ok_valid _ _).1 h)
  have hd:=decS_ok n.1
  refine⟨?_,?_,by omega⟩
  ·unfold textS
   split <;> exact fun e=>hd.1 (List.append_eq_nil_iff.1 (List.append_eq_nil_iff.1 e).1).1
  ·unfold textS
   intro c hc
   split at hc
   ·rcases List.mem_append.1 hc with k | k
    ·rcases List.mem_append.1 k with k | k
     ·exact hd.2 c k
     ·exact(by decide:∀ c∈([101,45]:List Nat),okC c=true) c k
    ·exact decN_ok _ c k
   ·rcases List.mem_append.1 hc with k | k
    ·rcases List.mem_append.1 k with k | k
     ·exact hd.2 c k
     ·rw[List.eq_of_mem_replicate k];rfl
    ·exact letter_ok _ c k
 ·exact⟨by simp,by decide,by simp⟩
theorem name_ok (x:Str) (h:isName x=true):WordOk x:=by
 unfold isName at h
 rw[Bool.and_eq_true,decide_eq_true_iff,List.all_eq_true] at h
 refine⟨fun e=>?_,fun c hc=>?_,by omega⟩
 ·rw[e] at h
  simp at h
 ·have:=h.2 c hc
  unfold nameC at this
  unfold okC
  rw[decide_eq_true_iff]
  simp only[Bool.or_eq_true,decide_eq_true_iff] at this
  omega
theorem step_word (z:Int) (h:0≤z∧z≤1000000000):WordOk (decS z):=by
 have hd:=decS_ok z
 refine⟨hd.1,hd.2,?_⟩
 unfold decS
 split
 ·simp
 ·have:=decN_len z.natAbs 10 (by omega)
  rw[List.length_append]
  split <;> simp <;> omega
theorem zipW_ok:∀ (ss:List Int) (vs:List Num),(∀ s∈ss,0≤s∧s≤1000000000)→(∀ x∈zipW ss vs,WordOk x)∧(zipW ss vs).length≤2*vs.length
 | [],vs,_=>⟨fun x hx=>by simp [zipW] at hx,by simp [zipW]⟩
 | s::ss,[],_=>⟨fun x hx=>by simp [zipW] at hx,by simp [zipW]⟩
 | s::ss,v::vs,h=>by
  obtain⟨h1,h2⟩:=zipW_ok ss vs fun x hx=>h x (List.mem_cons_of_mem _ hx)
  rw[zipW]
  refine⟨fun x hx=>?_,by simp only[List.length_cons];omega⟩
  rcases List.mem_cons.1 hx with rfl | hx
  ·exact step_word s (h s (List.mem_cons_self ..))
  ·rcases List.mem_cons.1 hx with rfl | hx
   ·exact textN_ok v
   ·exact h1 x hx
theorem waveT_ok (w:Wv) (hv:w.vals.length≤16) (hs:w.steps.length≤16) (h:∀ s∈w.steps,0≤s∧s≤1000000000):(∀ x∈waveT w,WordOk x)∧(waveT w).length≤33:=by
 have k1:WordOk sDc:=⟨by decide,by decide,by decide⟩
 have k2:WordOk sPulse:=⟨by decide,by decide,by decide⟩
 have k3:WordOk sPwl:=⟨by decide,by decide,by decide⟩
 have k4:WordOk sTable:=⟨by decide,by decide,by decide⟩
 unfold waveT
 split
 ·obtain⟨h1,h2⟩:=zipW_ok w.steps w.vals h
  refine⟨fun x hx=>?_,by rw[List.length_cons];omega⟩
  rcases List.mem_cons.1 hx with rfl | hx
  ·exact k3
  ·exact h1 x hx
 ·refine⟨fun x hx=>?_,?_⟩
  ·rcases List.mem_append.1 hx with hx | hx
   ·rcases List.mem_append.1 hx with hx | hx
    ·(repeat' split at hx) <;> first | (cases hx;done) | (rw[List.mem_singleton] at hx;subst hx;assumption)
    ·obtain⟨v,_,rfl⟩:=List.mem_map.1 hx
     exact textN_ok v
   ·obtain⟨s,hs,rfl⟩:=List.mem_map.1 hx
    exact step_word s (h s hs)
  ·rw[List.length_append,List.length_append,List.length_map,List.length_map]
   have:(if w.kind=1 then [sDc] else if w.kind=2 then [sPulse] else if w.kind=4 then [sTable] else []).length≤1:=by
    (repeat' split) <;> simp
   omega
theorem kind_char (s:Str) (h:isDev s=true):s.getD 0 0≠42∧s.getD 0 0≠43:=by
 unfold isDev at h
 rw[Bool.and_eq_true] at h
 exact⟨fun e=>by rw[e] at h;exact absurd h.2 (by decide),fun e=>by rw[e] at h;exact absurd h.2 (by decide)⟩
theorem card_ok (c:Crd) (h:rightC c=true):LineOk (wordsC c):=by
 obtain⟨hd,hn,hv,hs⟩:=nodes_le c h
 unfold rightC rightF at h
 simp only[Bool.and_eq_true] at h
 obtain⟨_,⟨⟨⟨⟨⟨⟨h1,h2⟩,h3⟩,h4⟩,h5⟩,h6⟩,h7⟩,h8⟩:=h
 have hname:isName c.name=true:=by
  unfold isDev at hd
  rw[Bool.and_eq_true] at hd
  exact hd.1
 have href:((shapeK (c.name.getD 0 0)).2.1=true∨c.name.getD 0 0=120)→WordOk c.ref:=fun hk=>by
  by_cases kx:c.name.getD 0 0=120
  ·rw[if_pos kx,if_pos rfl] at h6
   exact name_ok _ h6
  ·rw[if_neg kx,if_pos (hk.resolve_right kx)] at h6
   exact name_ok _ h6
 have hw:(c.name.getD 0 0=118∨c.name.getD 0 0=105)→∀ s∈c.wave.steps,0≤s∧s≤1000000000:=fun hk s hs=>by
  rw[if_pos (show srcC (c.name.getD 0 0)=true from decide_eq_true hk)] at h8
  unfold waveOk at h8
  rw[Bool.and_eq_true,Bool.and_eq_true,List.all_eq_true,List.all_eq_true] at h8
  simpa using h8.1.2 s hs
 refine⟨⟨c.name,_,rfl,kind_char _ hd⟩,?_,?_⟩
 ·unfold wordsC
  simp only
  intro x hx
  rcases List.mem_append.1 hx with hx | hx
  ·rcases List.mem_append.1 hx with hx | hx
   ·rcases List.mem_append.1 hx with hx | hx
    ·rcases List.mem_cons.1 hx with rfl | hx
     ·exact name_ok _ hname
     ·exact name_ok _ (List.all_eq_true.1 h5 x hx)
    ·split at hx
     ·rename_i hk
      rw[List.mem_singleton] at hx
      rw[hx]
      exact href hk
     ·cases hx
   ·split at hx
    ·rw[List.mem_singleton] at hx
     rw[hx]
     exact textN_ok _
    ·cases hx
  ·split at hx
   ·rename_i hk
    exact(waveT_ok c.wave hv hs (hw hk)).1 x hx
   ·cases hx
 ·unfold wordsC
  simp only[List.length_append,List.length_cons]
  have a1:(if (shapeK (c.name.getD 0 0)).2.1=true∨c.name.getD 0 0=120 then [c.ref] else []).length≤1:=by split <;> simp
  have a2:(if (shapeK (c.name.getD 0 0)).2.2=true∧c.name.getD 0 0≠120 then [textN c.value] else []).length≤1:=by split <;> simp
  have a3:(if c.name.getD 0 0=118∨c.name.getD 0 0=105 then waveT c.wave else []).length≤33:=by
   split
   ·rename_i hk
    exact(waveT_ok c.wave hv hs (hw hk)).2
   ·simp
  omega
theorem zipM_ok:∀ (vs gs:List Num),(∀ x∈zipM vs gs,WordOk x)∧(zipM vs gs).length≤2*vs.length
 | [],gs=>⟨fun x hx=>by simp [zipM] at hx,by simp [zipM]⟩
 | v::vs,[]=>⟨fun x hx=>by simp [zipM] at hx,by simp [zipM]⟩
 | v::vs,g::gs=>by
  obtain⟨h1,h2⟩:=zipM_ok vs gs
  rw[zipM]
  refine⟨fun x hx=>?_,by simp only[List.length_cons];omega⟩
  rcases List.mem_cons.1 hx with rfl | hx
  ·exact textN_ok v
  ·rcases List.mem_cons.1 hx with rfl | hx
   ·exact textN_ok g
   ·exact h1 x hx
theorem model_ok (m:Mdl) (h:modelOk m=true):LineOk (modelT m):=by
 unfold modelOk at h
 simp only[Bool.and_eq_true] at h
 obtain⟨⟨⟨h1,h2⟩,h3⟩,h4⟩:=h
 have hk:m.kind=115∨m.kind=100:=by
  by_cases k1:m.kind=115
  ·exact .inl k1
  ·by_cases k2:m.kind=100
   ·exact .inr k2
   ·rw[if_neg k1,if_neg k2] at h4
    cases h4
 have hl:m.v.length≤3:=by
  rcases hk with k | k
  ·rw[if_pos k,decide_eq_true_iff] at h4
   omega
  ·rw[if_neg (by omega),if_pos k,Bool.and_eq_true,decide_eq_true_iff] at h4
   omega
 obtain⟨z1,z2⟩:=zipM_ok m.v (m.g.drop 1)
 refine⟨⟨sModel,_,rfl,by decide,by decide⟩,?_,?_⟩
 ·unfold modelT
  intro x hx
  rcases List.mem_cons.1 hx with rfl | hx
  ·exact⟨by decide,by decide,by decide⟩
  rcases List.mem_cons.1 hx with rfl | hx
  ·exact name_ok _ h1
  rcases List.mem_cons.1 hx with rfl | hx
  ·rcases hk with k | k <;> rw[k] <;> exact⟨by decide,by decide,by decide⟩
  rcases List.mem_cons.1 hx with rfl | hx
  ·exact textN_ok _
  ·exact z1 x hx
 ·unfold modelT
  simp only[List.length_cons]
  omega
theorem line_one (h:Str) (h1:WordOk h) (h2:h.getD 0 0≠42∧h.getD 0 0≠43) (r:List Str) (hr:∀ x∈r,WordOk x) (hl:r.length≤63):LineOk (h::r):=
 ⟨⟨h,r,rfl,h2⟩,fun x hx=>by
  rcases List.mem_cons.1 hx with rfl | hx
  ·exact h1
  ·exact hr x hx,by rw[List.length_cons];omega⟩
theorem sub_ok (s:Sub) (h:okSub s):∀ w∈linesS s,LineOk w:=by
 obtain⟨q1,_,q3,_⟩:=h
 unfold subOk at q1
 rw[Bool.and_eq_true,Bool.and_eq_true,decide_eq_true_iff,List.all_eq_true] at q1
 obtain⟨⟨p1,p2⟩,p3⟩:=q1
 intro w hw
 rcases List.mem_cons.1 hw with rfl | hw
 ·refine line_one _ ⟨by decide,by decide,by decide⟩ ⟨by decide,by decide⟩ _ (fun x hx=>?_) (by simp only[List.length_cons];omega)
  rcases List.mem_cons.1 hx with rfl | hx
  ·exact name_ok _ p1
  ·have:=p3 x hx
   unfold portOk at this
   rw[Bool.and_eq_true] at this
   exact name_ok _ this.1
 ·rcases List.mem_append.1 hw with hw | hw
  ·obtain⟨x,hx,rfl⟩:=List.mem_map.1 hw
   exact card_ok x (q3 x hx)
  ·rw[List.mem_singleton] at hw
   subst hw
   exact line_one _ ⟨by decide,by decide,by decide⟩ ⟨by decide,by decide⟩ [] (fun x hx=>by cases hx) (by simp)
theorem lines_ok (c:Cir) (h:Ok c):∀ w∈linesC c,LineOk w:=by
 intro w hw
 unfold linesC at hw
 rcases List.mem_cons.1 hw with rfl | hw
 ·refine line_one _ ⟨by decide,by decide,by decide⟩ ⟨by decide,by decide⟩ _ (fun x hx=>?_) (by simp)
  rw[List.mem_singleton] at hx
  rw[hx]
  exact textN_ok _
 rcases List.mem_cons.1 hw with rfl | hw
 ·refine line_one _ ⟨by decide,by decide,by decide⟩ ⟨by decide,by decide⟩ _ (fun x hx=>?_) (by simp)
  rw[List.mem_singleton] at hx
  rw[hx]
  split <;> exact⟨by decide,by decide,by decide⟩
 rcases List.mem_append.1 hw with hw | hw
 ·obtain⟨m,hm,rfl⟩:=List.mem_map.1 hw
  exact model_ok m (h.mo m hm)
 rcases List.mem_append.1 hw with hw | hw
 ·obtain⟨s,hs,hw⟩:=List.mem_flatMap.1 hw
  exact sub_ok s (h.so s hs) w hw
 rcases List.mem_append.1 hw with hw | hw
 ·obtain⟨x,hx,rfl⟩:=List.mem_map.1 hw
  exact card_ok x (h.co x hx)
 ·rw[List.mem_singleton] at hw
  subst hw
  exact line_one _ ⟨by decide,by decide,by decide⟩ ⟨by decide,by decide⟩ [] (fun x hx=>by cases hx) (by simp)
theorem body_lines (c:Cir):bodyN c=(linesC c).flatMap lineS:=by
 have hs:∀ s:Sub,subS s=(linesS s).flatMap lineS:=fun s=>by
  unfold subS linesS cardsS
  rw[List.flatMap_cons,List.flatMap_append,List.flatMap_map]
  simp
 have hss:∀ l:List Sub,l.flatMap subS=(l.flatMap linesS).flatMap lineS:=fun l=>by
  induction l with
  | nil=>rfl
  | cons s l ih=>rw[List.flatMap_cons,List.flatMap_cons,List.flatMap_append,ih,hs]
 unfold bodyN linesC
 rw[List.flatMap_cons,List.flatMap_cons,List.flatMap_append,List.flatMap_append,List.flatMap_append,List.flatMap_map,List.flatMap_map,hss]
 unfold cardsS
 simp
end NetC
namespace NetAK
open Go Go.RowKit Ax Ti NumS NumT CardS CardP CardA CardB CardE CardG CardI CardJ CardK CardL CardX NetS NetA NetE NetF NetJ NetK NetAA NetAH NetAI NetAJ
theorem rTI:type_of% (J24 @ti3 @ti2 @ti4 @ti9 @ti5 @ti43 @ti45 @ti44 @ti23 @ti47 @ti49 @ti26 @ti68 @ti24 @ti51 @ti25 @ti28 @ti31 @ti61 @ti66 @Nat.zero_add @tz0 @tz1 (J3 @tz3 @Nat.mul_one @Int.toNat_natCast)):=cj @ti3 (J24 @ti2 @ti4 @ti9 @ti5 @ti43 @ti45 @ti44 @ti23 @ti47 @ti49 @ti26 @ti68 @ti24 @ti51 @ti25 @ti28 @ti31 @ti61 @ti66 @Nat.zero_add @tz0 @tz1 @tz3 (cj @Nat.mul_one @Int.toNat_natCast))
theorem joinS_le (n:Nat):∀ ws:List Str,(∀ w∈ws,w.length≤n)→(joinS ws).length≤ws.length*(n+1)
 | [],_=>Nat.zero_le _
 | [a],h=>by
  have:=h a (List.mem_cons_self ..)
  show a.length≤1*(n+1)
  omega
 | a::b::r,h=>by
  have h1:=h a (List.mem_cons_self ..)
  have h2:=joinS_le n (b::r) fun w hw=>h w (List.mem_cons_of_mem _ hw)
  show (a++32::joinS (b::r)).length≤_
  rw[List.length_append,List.length_cons,List.length_cons,Nat.add_mul]
  omega
theorem flat_le {α β:Type} (f:α→List β) (n:Nat):∀ l:List α,(∀ x∈l,(f x).length≤n)→(l.flatMap f).length≤l.length*n
 | [],_=>Nat.zero_le _
 | a::l,h=>by
  have h1:=h a (List.mem_cons_self ..)
  have h2:=flat_le f n l fun w hw=>h w (List.mem_cons_of_mem _ hw)
  rw[List.flatMap_cons,List.length_append,List.length_cons,Nat.add_mul]
  omega
theorem linesC_len (c:Cir) (h:NetB.Ok c):(NetB.linesC c).length≤1000:=by
 have h1:=h.ml
 have h2:=h.cl
 have h3:=h.sl
 have h4:=flat_le NetB.linesS 66 c.subs fun s hs=>by
  have:=(h.so s hs).2.2.2.2
  unfold NetB.linesS
  rw[List.length_cons,List.length_append,List.length_map,List.length_singleton]
  omega
 unfold NetB.linesC
 rw[List.length_cons,List.length_cons,List.length_append,List.length_append,List.length_append,List.length_map,List.length_map,List.length_singleton]
 omega
theorem body_len (c:Cir) (h:checkN c=0):(bodyN c).length≤10000000000:=by
 have ho:=NetB.ok_of c h
 have h1:=NetC.lines_ok c ho
 have h2:=linesC_len c ho
 rw[NetC.body_lines]
 have:=flat_le lineS 4200000 (NetB.linesC c) fun w hw=>by
  have:=h1 w hw
  have h3:=joinS_le 65536 w fun x hx=>(this.2.1 x hx).2.2
  have h4:=this.2.2
  have h5:=Nat.mul_le_mul_right (65536+1) h4
  unfold lineS
  rw[List.length_append,List.length_singleton]
  omega
 have:=Nat.mul_le_mul_right 4200000 h2
 omega
theorem put_own (s:St) (ib ig id:Nat) (l:List Nat) (ws:List Str) (hB:BB s ib ig l) (h1:ib<s.nx∧ig<s.nx∧ig≠ib) (hid:s.get id=some (SL ws)) (hne:id≠ib∧id≠ig) (hl:(l++lineS ws).length≤140737488355328) :
  ACall Tryz.prog 17 [.own id 0 ws.length 1,.ptr ib 0] s fun r s'=>∃ ig',r=.tp []∧BB s' ib ig' (l++lineS ws)∧s.nx≤s'.nx∧(ig'<s'.nx∧ig'≠ib∧(ig'=ig∨s.nx≤ig'))∧∀ i,i<s.nx→i≠ib→i≠ig→i≠id→s'.get i=s.get i:=by
 have hw:=line_long ws
 rw[List.length_append] at hl
 refine acall_frz id (SL ws) hid (fun _=>false) ?_
 rw[List.map_cons,List.map_cons,List.map_nil,frz_SL,frz_ptr_ne _ _ _ _ (Ne.symm hne.1)]
 have kp:=fun j (h:j≠id)=>frz_false s id (SL ws) j h
 refine (put_ax (s.frz id (SL ws) fun _=>false) ib ig l ws ⟨(kp _ (Ne.symm hne.1)).trans hB.1,(kp _ (Ne.symm hne.2)).trans hB.2⟩ h1 (by omega) (by rw[List.length_append];exact hl)).mono ?_
 rintro r s' ⟨ig',rfl,hw⟩
 exact⟨ig',rfl,hw.b,hw.n,hw.o,fun i a1 a2 a3 a4=>(hw.f i a1 a2 a3).trans (kp i a4)⟩
def headS (c:Cir):Str:=lineS [sStep,textN c.step]++lineS [sMethod,if c.method=2 then sTrap else sEuler]
def modsS (l:List Mdl):Str:=l.flatMap fun m=>lineS (modelT m)
theorem body_eq (c:Cir):bodyN c=headS c++(modsS c.models++(c.subs.flatMap subS++(cardsS c.cards++lineS [sEnd]))):=by
 unfold bodyN headS modsS
 rw[List.append_assoc]
def PV (p:Str × Int):AV:=.tp [SV p.1,.v (.int .i64 p.2)]
structure PI (s s':St) (C:List AV) (ig:Nat) (l:List Nat):Prop where
 c:s'.get s.nx=some C
 t:s'.get (s.nx+1+1+1)=some [.fn 17 [.ptr (s.nx+1) 0]]
 b:BB s' (s.nx+1) ig l
 o:s.nx+1+1+1<s'.nx∧ig<s'.nx∧ig≠s.nx+1∧ig≠s.nx∧ig≠s.nx+1+1+1∧s.nx≤ig
 f:∀ i,i<s.nx→s'.get i=s.get i
theorem PI.grow {s s1 s2:St} {C:List AV} {ig:Nat} {l:List Nat} (h:PI s s1 C ig l) (hn:s1.nx≤s2.nx) (hf:∀ i,i<s1.nx→s2.get i=s1.get i):PI s s2 C ig l:=by
 have ho:=h.o
 exact⟨(hf _ (by omega)).trans h.c,(hf _ (by omega)).trans h.t,⟨(hf _ (by omega)).trans h.b.1,(hf _ (by omega)).trans h.b.2⟩,by omega,fun i hi=>(hf i (by omega)).trans (h.f i hi)⟩
theorem PI.put {s s1 s2:St} {C:List AV} {ig ig' id:Nat} {l l':List Nat} (h:PI s s1 C ig l) (hb:BB s2 (s.nx+1) ig' l') (hn:s1.nx≤s2.nx) (ho:ig'<s2.nx∧ig'≠s.nx+1∧(ig'=ig∨s1.nx≤ig')) (hid:s.nx+1+1+1<id)
  (hf:∀ i,i<s1.nx→i≠s.nx+1→i≠ig→i≠id→s2.get i=s1.get i):PI s s2 C ig' l':=by
 have o:=h.o
 exact⟨(hf _ (by omega) (by omega) (by omega) (by omega)).trans h.c,(hf _ (by omega) (by omega) (by omega) (by omega)).trans h.t,hb,by omega,fun i hi=>(hf i (by omega) (by omega) (by omega) (by omega)).trans (h.f i hi)⟩
theorem put_step {s s1:St} {C:List AV} {ig:Nat} {l:List Nat} (h:PI s s1 C ig l) (ws:List Str) (hl:(l++lineS ws).length≤140737488355328) :
  ACall Tryz.prog 17 [.own s1.nx 0 ws.length 1,.ptr (s.nx+1) 0] (s1.push (SL ws)) fun r s'=>r=.tp []∧∃ ig',PI s s' C ig' (l++lineS ws):=by
 have h1:=h.grow (s2:=s1.push (SL ws)) (Nat.le_succ _) (fun i hi=>St.push_ne s1 i _ (by omega))
 have ho:=h.o
 refine (put_own (s1.push (SL ws)) (s.nx+1) ig s1.nx l ws h1.b ⟨by have:=h1.o;omega,h1.o.2.1,ho.2.2.1⟩ (St.push_same _ _) (by omega) hl).mono ?_
 rintro r s' ⟨ig',rfl,b,n,o,f⟩
 exact⟨rfl,ig',h1.put b n o (by omega) f⟩
theorem put_laid {s s1:St} {C:List AV} {ig:Nat} {l:List Nat} (h:PI s s1 C ig l) (ws:List Str) (hl:(l++lineS ws).length≤140737488355328) :
  ACall Tryz.prog 17 [TV ws,.ptr (s.nx+1) 0] s1 fun r s'=>r=.tp []∧∃ ig',PI s s' C ig' (l++lineS ws):=by
 have ho:=h.o
 have hw:=line_long ws
 have hl':=hl
 rw[List.length_append] at hl'
 refine (put_ax s1 (s.nx+1) ig l ws h.b ⟨by omega,ho.2.1,ho.2.2.1⟩ (by omega) hl).mono ?_
 rintro r s' ⟨ig',rfl,hw⟩
 exact⟨rfl,ig',h.put (id:=s.nx+1+1+1+1) hw.b hw.n hw.o (by omega) fun i a1 a2 a3 _=>hw.f i a1 a2 a3⟩
theorem put_cards {s s1:St} {C:List AV} {ig:Nat} {l:List Nat} (h:PI s s1 C ig l) (K:List Crd) (hC:∀ x∈K,CW x∧rightC x=true) (hcl:K.length≤9223372036854775807) (hl:(l++cardsS K).length≤140737488355328) :
  ACall Tryz.prog 20 [KV K,.ptr (s.nx+1+1+1) 0] s1 fun r s'=>r=.tp []∧∃ ig',PI s s' C ig' (l++cardsS K):=by
 have ho:=h.o
 refine (puts_ax s1 (s.nx+1) ig (s.nx+1+1+1) l K h.b ⟨by omega,ho.2.1,ho.2.2.1⟩ h.t ⟨by omega,by omega,by omega⟩ hC hcl hl).mono ?_
 rintro r s' ⟨ig',rfl,hw⟩
 exact⟨rfl,ig',h.put (id:=s.nx+1+1+1+1) hw.b hw.n hw.o (by omega) fun i a1 a2 a3 _=>hw.f i a1 a2 a3⟩
theorem flat_snoc {α β:Type} (f:α→List β) (d:α) (l:List α) (j:Nat) (h:j<l.length):(l.take (j+1)).flatMap f=(l.take j).flatMap f++f (l.getD j d):=by
 rw[List.take_succ_eq_append_getElem h,List.flatMap_append,List.getD_eq_getElem?_getD,List.getElem?_eq_getElem h]
 simp
theorem flat_take {α β:Type} (f:α→List β) (l:List α) (j:Nat):((l.take j).flatMap f).length≤(l.flatMap f).length:=by
 have:l.flatMap f=(l.take j).flatMap f++(l.drop j).flatMap f:=by rw[←List.flatMap_append,List.take_append_drop]
 rw[this,List.length_append]
 exact Nat.le_add_right _ _
theorem put_grown {s s1 s2:St} {C:List AV} {ig:Nat} {l:List Nat} (h:PI s s1 C ig l) (hn:s1.nx≤s2.nx) (hf:∀ i,i<s1.nx→s2.get i=s1.get i) (id:Nat) (ws:List Str) (hid:s2.get id=some (SL ws)) (hi:s1.nx≤id) (hl:(l++lineS ws).length≤140737488355328) :
  ACall Tryz.prog 17 [.own id 0 ws.length 1,.ptr (s.nx+1) 0] s2 fun r s'=>r=.tp []∧∃ ig',PI s s' C ig' (l++lineS ws)∧∀ i,i<s2.nx→i≠s.nx+1→i≠ig→i≠id→s'.get i=s2.get i:=by
 have h1:=h.grow hn hf
 have ho:=h.o
 refine (put_own s2 (s.nx+1) ig id l ws h1.b ⟨by have:=h1.o;omega,h1.o.2.1,ho.2.2.1⟩ hid (by omega) hl).mono ?_
 rintro r s' ⟨ig',rfl,b,n,o,f⟩
 exact⟨rfl,ig',h1.put b n o (by omega) f,f⟩
theorem drop2 {α:Type} (a b:α) (l:List α):List.drop (Int.toNat 2) (a::b::l)=l:=rfl
theorem print_ax (c:Cir) (hB:CirB c):PCall Tryz.prog 10 [CirV c] (PV (printN c)):=by
 refine pcall_of fun s=>?_
 have pC:=check_ax c hB
 unfold printN PV SV
 unfold CirV at *
 generalize hC:cirL c=C at *
 have hC':=hC
 unfold cirL UV KV MV at hC
 subst hC
 by_cases h0:checkN c=0
 ·have b0:(checkN c != 0)=false:=by rw[h0];rfl
  rw[if_neg (by simpa using h0)]
  have hO:=NetB.ok_of c h0
  have hbl:=body_len c h0
  have pT:=NumG.text_all c.step.1 c.step.2
  have hT:NumX.textV c.step.1 c.step.2=.tp [.v (.string (bs (textN c.step))),.v (.int .i64 0)]:=by
   unfold NumX.textV textN
   rw[if_pos hO.st.1,if_pos (show NumA.validN c.step.1 c.step.2=true from hO.st.1)]
  rw[hT] at pT
  unfold NumA.NM at pT
  rw[body_eq] at *
  refine acall_of Tryz.func10 rfl rfl (by simp [Tryz.ntmps10]) ?_;rw[Tryz.ntmps10,Tryz.results10]
  refine go rTI ?_
  refine aw_reg fun K hK=>?_;refine rn rTI ?_;refine cont_pure pC ?_;refine rn rTI ?_;refine hK _ _ ?_;clear hK K
  refine go (cj rTI @b0) ?_
  refine ifs ?_ ?_ <;> first | exact nope | intro hb
  refine aw_skip ?_
  rw[then_normal]
  refine aw_seq ?_
  refine aw_build rfl fun s1 hn1 hb1 hf1=>?_
  rw[then_normal]
  have x1:s1.get s.nx=some _:=(hf1 s.nx (Nat.lt_succ_self _)).trans (St.push_same _ _)
  have xf:∀ i,i<s.nx→s1.get i=s.get i:=fun i hi=>(hf1 i (Nat.lt_succ_of_lt hi)).trans (St.push_ne s i _ (by omega))
  have hn1:s1.nx=s.nx+1+1+1:=hn1
  clear hf1
  refine go (cj rTI @hn1) ?_
  generalize hs2:(s1.push _).set (s.nx+1+1+1) _=s2
  have hP:PI s s2 [.v (.int .i64 c.step.1),.v (.int .i64 c.step.2),.v (.int .i64 c.method),.sl c.models.length (ML c.models),.sl c.subs.length (UL c.subs),.sl c.cards.length (KL c.cards)] (s.nx+1+1) []:=by
   have k1:=fun i (h:i<s1.nx)=>show s2.get i=s1.get i by rw[←hs2,←hn1];exact push_set_ne s1 _ _ i h
   have k2:s2.nx=s1.nx+1:=by rw[←hs2];rfl
   refine⟨(k1 _ (by omega)).trans x1,by rw[←hs2];exact St.set_same _ _ _,⟨(k1 _ (by omega)).trans hb1.1,(k1 _ (by omega)).trans hb1.2⟩,by omega,fun i hi=>(k1 i (by omega)).trans (xf i hi)⟩
  clear hs2 x1 xf hb1 hn1
  have hc:=hP.c
  refine aw_reg fun K hK=>?_;refine rn (cj rTI @hc) ?_;refine cont_pure pT ?_;refine rn (cj rTI @hc) ?_;refine hK _ _ ?_;clear hK K
  rw[then_normal]
  have ht:=hP.t
  have hs1:=put_step hP [sStep,textN c.step] (by
   refine Nat.le_trans (Nat.le_trans ?_ hbl) (by decide)
   unfold headS
   rw[List.nil_append,List.length_append,List.length_append]
   omega)
  refine aw_seq ?_
  refine aw_reg fun K hK=>?_;refine rn (cj rTI @ht) ?_;refine cont_go hs1 ?_;rintro _ s3 ⟨rfl,ig2,hP2⟩;refine rn (cj rTI @ht) ?_;refine hK _ _ ?_;clear hK K
  rw[then_normal]
  clear hP ht hs1 hc
  refine aw_seq ?_
  refine aw_only (fun e s'=>e.n=89∧e.m 1=.ptr s.nx 0∧e.m 5=.ptr (s.nx+1) 0∧e.m 6=.ptr (s.nx+1+1+1) 0∧e.m 7=.fn 20 [.ptr (s.nx+1+1+1) 0]∧∃ ig',PI s s' [.v (.int .i64 c.step.1),.v (.int .i64 c.step.2),.v (.int .i64 c.method),.sl c.models.length (ML c.models),.sl c.subs.length (UL c.subs),.sl c.cards.length (KL c.cards)] ig' (headS c)) ?_ ?_
  ·have ht:=hP2.t
   have hc:=hP2.c
   have ho2:=hP2.o
   have hb2:∀ x:Str,x.length≤5→(([]++lineS [sStep,textN c.step])++lineS [sMethod,x]).length≤140737488355328:=fun x hx=>by
    have:(lineS [sStep,textN c.step]).length≤10000000000:=by
     refine Nat.le_trans ?_ hbl
     unfold headS
     rw[List.length_append,List.length_append]
     omega
    rw[List.nil_append,List.length_append]
    generalize lineS [sStep,textN c.step]=Z at *
    unfold lineS joinS joinS
    simp only[List.length_append,List.length_cons,List.length_nil]
    have:sMethod.length=7:=rfl
    omega
   rcases hO.me with m1 | m1
   ·have hs2:=put_step hP2 [sMethod,sEuler] (hb2 _ (by decide))
    rw[m1] at hc
    refine aw_drw (.take 0 (.take 1 (.take 2 (.take 3 (.take 4 (.one 5 (.one 6 (.done)))))))) [s.nx+1+1+1,s.nx] (by kernel_rfl) (by kernel_rfl) fun K hK=>?_;refine dr (J3 rTI @ht @hc) ?_;refine cont_go hs2 ?_
    rintro _ s4 ⟨rfl,ig3,hP3⟩
    have o3:=hP3.o
    refine⟨⟨hP3.t.trans ((St.push_ne s3 _ _ (by omega)).trans ht).symm,(hP3.c.trans (by rw[m1])).trans ((St.push_ne s3 _ _ (by omega)).trans hc).symm,trivial⟩,hK _ _ ⟨rfl,?_⟩⟩
    clear hK K
    (repeat' refine And.intro ?_ ?_) <;> first | exact rfl | exact fnz rTI | skip
    refine⟨ig3,?_⟩
    unfold headS
    rw[if_neg (show ¬c.method=2 by omega)]
    exact hP3
   ·have hs2:=put_step hP2 [sMethod,sTrap] (hb2 _ (by decide))
    rw[m1] at hc
    refine aw_drw (.take 0 (.take 1 (.take 2 (.take 3 (.take 4 (.one 5 (.one 6 (.done)))))))) [s.nx+1+1+1,s.nx] (by kernel_rfl) (by kernel_rfl) fun K hK=>?_;refine dr (J4 rTI @ht @hc @drop2) ?_;refine cont_go hs2 ?_
    rintro _ s4 ⟨rfl,ig3,hP3⟩
    have o3:=hP3.o
    refine⟨⟨hP3.t.trans ((St.push_ne s3 _ _ (by omega)).trans ht).symm,(hP3.c.trans (by rw[m1])).trans ((St.push_ne s3 _ _ (by omega)).trans hc).symm,trivial⟩,hK _ _ ⟨rfl,?_⟩⟩
    clear hK K
    (repeat' refine And.intro ?_ ?_) <;> first | exact rfl | exact fnz rTI | skip
    refine⟨ig3,?_⟩
    unfold headS
    rw[if_pos m1]
    exact hP3
  ·clear hP2
   rintro e s1 ⟨h1,k1,k5,k6,k7,ig,hP⟩
   rw[then_normal]
   rw[←hC'] at hP
   have hc:=hP.c
   rw[hC'] at hc
   generalize hH:headS c=H at *
   rw[List.length_append,List.length_append,List.length_append,List.length_append] at hbl
   have hml:=hO.ml
   have hsl:=hO.sl
   refine go (J4 rTI @h1 @k1 @hc) ?_
   refine aw_loop (fun m e s'=>∃ j ig',m=c.models.length-j∧j≤c.models.length∧e.n=89∧e.m 1=.ptr s.nx 0∧e.m 5=.ptr (s.nx+1) 0∧e.m 6=.ptr (s.nx+1+1+1) 0∧e.m 7=.fn 20 [.ptr (s.nx+1+1+1) 0] ∧
    e.m 41=.sl c.models.length (ML c.models)∧e.m 42=.v (.int .i64 c.models.length)∧e.m 43=.v (.int .i64 (j:Nat))∧PI s s' (cirL c) ig' (H++modsS (c.models.take j))) c.models.length ?_ ?_
   ·refine⟨0,ig,by omega,by omega,?_⟩
    (repeat' refine And.intro ?_ ?_) <;> first | exact rfl | exact fnz (J6 rTI @h1 @k1 @k5 @k6 @k7) | skip
    rw[List.take_zero]
    simpa [modsS] using hP
   ·clear h1 k1 k5 k6 k7 hP hc e hn1
    rintro m e s1 ⟨j,ig,rfl,hj,h1,k1,k5,k6,k7,k41,k42,k43,hP⟩
    have ho:=hP.o
    by_cases hj2:j<c.models.length
    ·have f1:=ml_at c.models j hj2
     have f3:4≤((ML c.models).drop (j*4)).length:=by rw[List.length_drop,ml_len];omega
     have f4:modsS (c.models.take (j+1))=modsS (c.models.take j)++lineS (modelT (c.models.getD j mdl0)):=flat_snoc (fun m=>lineS (modelT m)) mdl0 c.models j hj2
     have f5:(modsS (c.models.take (j+1))).length≤(modsS c.models).length:=flat_take _ _ _
     have hY:=hB.mo _ (getD_mem c.models mdl0 j hj2)
     have hY2:=hO.mo _ (getD_mem c.models mdl0 j hj2)
     generalize c.models.getD j mdl0=y at f1 f4 hY hY2
     have pm:=CardM.writeM_ax y hY.1 hY.2.1 hY.2.2
     unfold writeM at pm
     rw[if_pos hY2] at pm
     unfold PA MA TV SV NV iv at pm
     unfold mdlL SV NV at f1
     refine go (J4 rTI @h1 @k42 @k43) ?_
     refine ifs ?_ ?_ <;> first | exact nope | intro hb
     refine aw_skip ?_
     refine go (J6 rTI @h1 @k41 @k43 @f1 @f3) ?_
     generalize hs2:(s1.push _).set s1.nx _=s2
     have hP2:PI s s2 (cirL c) ig (H++modsS (c.models.take j)):=hP.grow (by rw[←hs2];exact Nat.le_succ _) (fun i hi=>by rw[←hs2];exact push_set_ne s1 _ _ i hi)
     have xy:s2.get s1.nx=some [.v (.string (bs y.name)),.v (.int .u8 y.kind),.sl y.g.length (NC y.g),.sl y.v.length (NC y.v)]:=by rw[←hs2];exact St.set_same _ _ _
     have xt:=hP2.t
     clear hs2
     rw[f4,List.length_append] at f5
     have hput:=put_laid hP2 (modelT y) (by rw[List.length_append,List.length_append];omega)
     unfold TV at hput
     refine aw_reg fun K hK=>?_;refine rn (J3 rTI @h1 @xy) ?_;refine cont_pure pm ?_;refine rn (J3 rTI @h1 @xy) ?_;refine hK _ _ ?_;clear hK K
     refine aw_reg fun K hK=>?_;refine rn (J4 rTI @h1 @k6 @xt) ?_;refine cont_go hput ?_;rintro _ s3 ⟨rfl,ig2,hP3⟩;refine rn (J4 rTI @h1 @k6 @xt) ?_;refine hK _ _ ?_;clear hK K
     refine go (J3 rTI @h1 @k43) ?_
     simp only[block_normal,loop_normal]
     refine⟨c.models.length-(j+1),by omega,j+1,ig2,rfl,by omega,?_⟩
     (repeat' refine And.intro ?_ ?_) <;> first | exact rfl | exact fnz (J8 @h1 @k1 @k5 @k6 @k7 @k41 @k42 @k43) | skip
     rw[f4,←List.append_assoc]
     exact hP3
    ·obtain rfl:j=c.models.length:=by omega
     rw[List.take_length] at hP
     have hc:=hP.c
     rw[hC'] at hc
     refine go (J4 rTI @h1 @k42 @k43) ?_
     refine ifs ?_ ?_ <;> first | exact nope | intro hb
     refine go (J4 rTI @h1 @k1 @hc) ?_
     generalize hM:H++modsS c.models=M at hP
     have hMl:M.length=H.length+(modsS c.models).length:=by rw[←hM,List.length_append]
     refine aw_loop (fun m e s'=>∃ j ig',m=c.subs.length-j∧j≤c.subs.length∧e.n=89∧e.m 1=.ptr s.nx 0∧e.m 5=.ptr (s.nx+1) 0∧e.m 6=.ptr (s.nx+1+1+1) 0∧e.m 7=.fn 20 [.ptr (s.nx+1+1+1) 0] ∧
      e.m 57=.sl c.subs.length (UL c.subs)∧e.m 58=.v (.int .i64 c.subs.length)∧e.m 59=.v (.int .i64 (j:Nat))∧PI s s' (cirL c) ig' (M++(c.subs.take j).flatMap subS)) c.subs.length ?_ ?_
     ·refine⟨0,ig,by omega,by omega,?_⟩
      (repeat' refine And.intro ?_ ?_) <;> first | exact rfl | exact fnz (J6 rTI @h1 @k1 @k5 @k6 @k7) | skip
      rw[List.take_zero]
      simpa using hP
     ·clear h1 k1 k5 k6 k7 k41 k42 k43 hP hc e ho
      rintro m e s1 ⟨j,ig,rfl,hj,h1,k1,k5,k6,k7,k57,k58,k59,hP⟩
      have ho:=hP.o
      by_cases hj2:j<c.subs.length
      ·have f1:=ul_at c.subs j hj2
       have f3:3≤((UL c.subs).drop (j*3)).length:=by rw[List.length_drop,ul_len];omega
       have f4:=flat_snoc subS sub0 c.subs j hj2
       have f5:((c.subs.take (j+1)).flatMap subS).length≤(c.subs.flatMap subS).length:=flat_take _ _ _
       have hY:=hB.so _ (getD_mem c.subs sub0 j hj2)
       have hY2:=hO.so _ (getD_mem c.subs sub0 j hj2)
       generalize c.subs.getD j sub0=y at f1 f4 hY hY2
       rw[show subS y=lineS (sSub::y.name::y.ports)++(cardsS y.cards++lineS [sEnds]) from rfl] at f4
       rw[f4,List.length_append,List.length_append,List.length_append] at f5
       generalize (c.subs.take j).flatMap subS=Y at *
       unfold subL SV TV KV at f1
       refine go (J4 rTI @h1 @k58 @k59) ?_
       refine ifs ?_ ?_ <;> first | exact nope | intro hb
       refine aw_skip ?_
       refine go (J6 rTI @h1 @k57 @k59 @f1 @f3) ?_
       generalize hs2:(s1.push _).set s1.nx _=s2
       have x2:s2.nx=s1.nx+1:=by rw[←hs2];rfl
       have hP2:PI s s2 (cirL c) ig (M++Y):=hP.grow (by omega) (fun i hi=>by rw[←hs2];exact push_set_ne s1 _ _ i hi)
       have xy:s2.get s1.nx=some [.v (.string (bs y.name)),.sl y.ports.length (SL y.ports),.sl y.cards.length (KL y.cards)]:=by rw[←hs2];exact St.set_same _ _ _
       have xt:=hP2.t
       have g3:=sl_len y.ports
       have g4:=sl_one y.ports
       have hpl:=line_long (sSub::y.name::y.ports)
       rw[List.length_cons,List.length_cons] at hpl
       have hf2:∀ i,i<s2.nx→(((s2.push (SL [sSub,y.name])).kill s2.nx).push (SL [sSub,y.name]++SL y.ports)).get i=s2.get i:=fun i hi=>by
        rw[St.push_ne _ _ _ (show i≠s2.nx+1 by omega),St.kill_ne _ _ _ (show i≠s2.nx by omega),St.push_ne _ _ _ (show i≠s2.nx by omega)]
       have hput:=put_grown hP2 (s2:=((s2.push (SL [sSub,y.name])).kill s2.nx).push (SL [sSub,y.name]++SL y.ports)) (by show s2.nx≤s2.nx+1+1;omega) hf2 (s2.nx+1) (sSub::y.name::y.ports) (St.push_same _ _) (by omega) (by rw[List.length_append,List.length_append];omega)
       rw[show (sSub::y.name::y.ports).length=2+y.ports.length by rw[List.length_cons,List.length_cons];omega] at hput
       refine aw_drw (.take 0 (.take 1 (.take 2 (.take 4 (.take 5 (.one 3 (.one 6 (.one 7 (.done))))))))) [s.nx+1+1+1,s1.nx] (by kernel_rfl) (by kernel_rfl) fun K hK=>?_;refine dr (J7 rTI @xt @xy @g3 @g4 @h1 @k6) ?_;refine cont_go hput ?_
       rintro _ s3 ⟨rfl,ig2,hP3,f7⟩
       have fy:=(f7 s1.nx (by show s1.nx<s2.nx+1+1;omega) (by omega) (by omega) (by omega)).trans (hf2 s1.nx (by omega))
       refine⟨⟨hP3.t.trans (xt.symm.trans (hf2 _ (by omega)).symm),fy.trans (hf2 _ (by omega)).symm,trivial⟩,hK _ _ ?_⟩
       clear hK K hput
       replace fy:=fy.trans xy
       rw[then_normal]
       refine aw_seq ?_
       have hput:=put_cards hP3 y.cards (fun x hx=>⟨hY.2.2.1 x hx,hY2.2.2.1 x hx⟩) hY.2.2.2 (by rw[List.length_append,List.length_append,List.length_append];omega)
       unfold KV at hput
       refine aw_reg fun K hK=>?_;refine rn (J4 rTI @h1 @k7 @fy) ?_;refine cont_go hput ?_;rintro _ s4 ⟨rfl,ig3,hP4⟩;refine rn (J4 rTI @h1 @k7 @fy) ?_;refine hK _ _ ?_;clear hK K
       rw[then_normal]
       clear hput hP hP2 hP3 xt hf2 f7
       have xt:=hP4.t
       have hput:=put_step hP4 [sEnds] (by rw[List.length_append,List.length_append,List.length_append,List.length_append];omega)
       refine aw_reg fun K hK=>?_;refine rn (J4 rTI @h1 @k6 @xt) ?_;refine cont_go hput ?_;rintro _ s5 ⟨rfl,ig4,hP5⟩;refine rn (J4 rTI @h1 @k6 @xt) ?_;refine hK _ _ ?_;clear hK K
       refine go (J3 rTI @h1 @k59) ?_
       simp only[block_normal,loop_normal]
       refine⟨c.subs.length-(j+1),by omega,j+1,ig4,rfl,by omega,?_⟩
       (repeat' refine And.intro ?_ ?_) <;> first | exact rfl | exact fnz (J8 @h1 @k1 @k5 @k6 @k7 @k57 @k58 @k59) | skip
       rw[f4]
       simpa only [List.append_assoc] using hP5
      ·obtain rfl:j=c.subs.length:=by omega
       rw[List.take_length] at hP
       have hc:=hP.c
       rw[hC'] at hc
       have xt:=hP.t
       refine go (J4 rTI @h1 @k58 @k59) ?_
       refine ifs ?_ ?_ <;> first | exact nope | intro hb
       refine go (cj rTI @h1) ?_
       generalize c.subs.flatMap subS=Y at *
       have hput:=put_cards hP c.cards (fun x hx=>⟨hB.co x hx,hO.co x hx⟩) hB.cl (by rw[List.length_append,List.length_append];omega)
       unfold KV at hput
       refine aw_reg fun K hK=>?_;refine rn (J5 rTI @h1 @k1 @k7 @hc) ?_;refine cont_go hput ?_;rintro _ s2 ⟨rfl,ig2,hP2⟩;refine rn (J5 rTI @h1 @k1 @k7 @hc) ?_;refine hK _ _ ?_;clear hK K
       rw[then_normal]
       clear hput hP hc xt ho
       have xt:=hP2.t
       have hput:=put_step hP2 [sEnd] (by rw[List.length_append,List.length_append,List.length_append];omega)
       refine aw_seq ?_
       refine aw_reg fun K hK=>?_;refine rn (J4 rTI @h1 @k6 @xt) ?_;refine cont_go hput ?_;rintro _ s3 ⟨rfl,ig3,hP3⟩;refine rn (J4 rTI @h1 @k6 @xt) ?_;refine hK _ _ ?_;clear hK K
       rw[then_normal]
       clear hput hP2
       have hZ:H++(modsS c.models++(Y++(cardsS c.cards++lineS [sEnd])))=M++Y++cardsS c.cards++lineS [sEnd]:=by
        rw[←hM]
        simp only[List.append_assoc]
       have hZl:(M++Y++cardsS c.cards++lineS [sEnd]).length≤10000000000:=by rw[List.length_append,List.length_append,List.length_append];omega
       rw[hZ]
       generalize M++Y++cardsS c.cards++lineS [sEnd]=Z at *
       have hlen:=len_ax s3 _ _ _ hP3.b
       have hstr:=string_ax s3 _ _ _ hP3.b hP3.o.2.2.1 (by omega)
       have hf:=hP3.f
       have o3:=hP3.o
       refine aw_seq ?_
       refine aw_seq ?_
       by_cases hq:65536<Z.length
       ·rw[if_pos hq]
        have b1:decide ((65536:Int)<Z.length)=true:=decide_eq_true (by omega)
        refine aw_reg fun K hK=>?_;refine rn (J4 rTI @h1 @k5 @b1) ?_;refine cont_go hlen ?_;rintro _ s4 ⟨rfl,rfl⟩;refine rn (J4 rTI @h1 @k5 @b1) ?_;refine hK _ _ ?_;clear hK K
        refine ifs ?_ ?_ <;> first | exact nope | intro hb
        refine go rTI ?_
        exact⟨rfl,hf⟩
       ·rw[if_neg hq]
        have b1:decide ((65536:Int)<Z.length)=false:=decide_eq_false (by omega)
        refine aw_reg fun K hK=>?_;refine rn (J4 rTI @h1 @k5 @b1) ?_;refine cont_go hlen ?_;rintro _ s4 ⟨rfl,rfl⟩;refine rn (J4 rTI @h1 @k5 @b1) ?_;refine hK _ _ ?_;clear hK K
        refine ifs ?_ ?_ <;> first | exact nope | intro hb
        refine aw_skip ?_
        rw[then_normal]
        refine aw_seq ?_
        refine aw_reg fun K hK=>?_;refine rn (J3 rTI @h1 @k5) ?_;refine cont_go hstr ?_;rintro _ s5 ⟨rfl,n5,f5⟩;refine rn (J3 rTI @h1 @k5) ?_;refine hK _ _ ?_;clear hK K
        rw[then_normal]
        refine go rTI ?_
        exact fun i hi=>(f5 i (by omega) (by omega) (by omega)).trans (hf i hi)
 ·have b0:(checkN c != 0)=true:=by simpa using h0
  rw[if_pos h0]
  refine acall_of Tryz.func10 rfl rfl (by simp [Tryz.ntmps10]) ?_;rw[Tryz.ntmps10,Tryz.results10]
  refine go rTI ?_
  refine aw_reg fun K hK=>?_;refine rn rTI ?_;refine cont_pure pC ?_;refine rn rTI ?_;refine hK _ _ ?_;clear hK K
  refine go (cj rTI @b0) ?_
  refine ifs ?_ ?_ <;> first | exact nope | intro hb
  refine go rTI ?_
  exact⟨rfl,fun i hi=>if_neg (by omega)⟩
end NetAK
namespace NetAB
open Go Go.RowKit Ax Ti NumS NumT CardS CardP CardA CardB CardE CardG CardI CardJ CardK CardL CardN CardX NetS NetA NetE NetM NetN NetQ NetT NetAA NetF NetJ
theorem rTI:type_of% (J24 @ti3 @ti2 @ti4 @ti9 @ti5 @ti43 @ti45 @ti44 @ti23 @ti49 @ti68 @ti51 @ti28 @ti26 @ti24 @ti25 @ti90 @ti89 @ti92 @ti31 @ti94 @Nat.zero_add @tz0 (J4 @tz1 @tz3 @Nat.mul_one @Int.toNat_natCast)):=cj @ti3 (J24 @ti2 @ti4 @ti9 @ti5 @ti43 @ti45 @ti44 @ti23 @ti49 @ti68 @ti51 @ti28 @ti26 @ti24 @ti25 @ti90 @ti89 @ti92 @ti31 @ti94 @Nat.zero_add @tz0 @tz1 (J3 @tz3 @Nat.mul_one @Int.toNat_natCast))
theorem sl_one (l:List Str):(SL l).all AV.one=true:=by
 unfold SL SV
 induction l with
 | nil=>rfl
 | cons a l ih=>rw[List.map_cons,List.all_cons,ih];rfl
theorem zrow_thr (a b c:Value):zrow [a,b,c] 3=[.v a,.v b,.v c]:=rfl
theorem subs_app (l:List Sub) (N:Str) (B:List Str) (x:AV):(UL (l++[⟨N,B,[]⟩])).set (((l++[⟨N,B,[]⟩]:List Sub).length-1)*3+2) x=UL l++[SV N,TV B,x]:=by
 unfold UL
 rw[List.flatMap_append,List.length_append,List.length_singleton,Nat.add_sub_cancel]
 have h:(l.flatMap subL).length=l.length*3:=ul_len l
 rw[List.set_append,if_neg (by omega),h,Nat.add_sub_cancel_left]
 rfl
theorem pls_app (l:List (List Int)) (x:AV):((l++[[]]).map IV).set ((l++[[]]).length-1) x=l.map IV++[x]:=by
 rw[List.map_append,List.length_append,List.length_singleton,Nat.add_sub_cancel,List.set_append,if_neg (by rw[List.length_map];omega),List.length_map,Nat.sub_self]
 rfl
def begP (p:Par) (N:Str) (B:List Str) (a:Int):Par:={ p with c:={ p.c with subs:=p.c.subs++[⟨N,B,[]⟩] },subPl:=p.subPl++[[]],inside:=true,begun:=a }
theorem PS.begin {n0:Nat} {s s5:St} {b:Nat→Nat} {p:Par} (hp:PS n0 s b p) (hi:p.inside=false) (N:Str) (B:List Str) (a:Int) (i2 i6 i5 i7:Nat) (h1:s.nx≤i2) (h2:i2<i6) (h3:i6<i5) (h4:i5<i7) (h5:i7<s5.nx)
  (g0:s5.get (b 0)=some (PC (begP p N B a) (.own (b 1) 0 p.c.models.length 4) (.own i2 0 (p.c.subs.length+1) 3) (.own (b 3) 0 p.c.cards.length 8) (.own (b 4) 0 p.places.length 1) (.own i5 0 (p.subPl.length+1) 1)))
  (g2:s5.get i2=some (UL p.c.subs++[SV N,TV B,.own i6 0 0 8])) (g5:s5.get i5=some (p.subPl.map IV++[.own i7 0 0 1])) (g6:s5.get i6=some []) (g7:s5.get i7=some [])
  (fr:∀ i,i<s.nx→i≠b 0→i≠b 2→i≠b 5→s5.get i=s.get i):PS n0 s5 (bu (bu (bu (bu b 2 i2) 6 i6) 5 i5) 7 i7) (begP p N B a):=by
 have hn:=hp.n
 have bx:=hp.bx
 rw[show nb p=6 from if_neg (by rw[hi];simp)] at bx
 have l1:(begP p N B a).c.subs.length=p.c.subs.length+1:=by simp [begP]
 have l2:(begP p N B a).subPl.length=p.subPl.length+1:=by simp [begP]
 have l3:lastC (begP p N B a)=[]:=by simp [begP,lastC]
 have l4:lastP (begP p N B a)=[]:=by simp [begP,lastP]
 refine⟨?_,?_,?_,?_,?_,?_,?_,fun _=>?_,fun _=>?_⟩
 ·exact(((((bx.upd 2 i2 h1 (Nat.lt_succ_self _) hn).add i6 h2 (Nat.lt_succ_self _) (by omega)).upd 5 i5 h3 (Nat.lt_succ_self _) (by omega)).add i7 h4 h5 (by omega)))
 ·rw[l1,l2];exact g0
 ·exact(fr _ (bx.hi 1 (by omega)) (bx.ne 1 0 (by omega) (by omega) (by omega)) (bx.ne 1 2 (by omega) (by omega) (by omega)) (bx.ne 1 5 (by omega) (by omega) (by omega))).trans hp.h1
 ·rw[l3]
  unfold subsL
  rw[if_pos (show (begP p N B a).inside=true from rfl)]
  exact g2.trans (congrArg some (subs_app p.c.subs N B _).symm)
 ·exact(fr _ (bx.hi 3 (by omega)) (bx.ne 3 0 (by omega) (by omega) (by omega)) (bx.ne 3 2 (by omega) (by omega) (by omega)) (bx.ne 3 5 (by omega) (by omega) (by omega))).trans hp.h3
 ·exact(fr _ (bx.hi 4 (by omega)) (bx.ne 4 0 (by omega) (by omega) (by omega)) (bx.ne 4 2 (by omega) (by omega) (by omega)) (bx.ne 4 5 (by omega) (by omega) (by omega))).trans hp.h4
 ·rw[l4]
  unfold plsL
  rw[if_pos (show (begP p N B a).inside=true from rfl)]
  exact g5.trans (congrArg some (pls_app p.subPl _).symm)
 ·rw[l3];exact g6
 ·rw[l4];exact g7
theorem addSub_ax (s:St) (n0:Nat) (b:Nat→Nat) (p:Par) (l:Line) (hp:PS n0 s b p) (hr:Rt p) (hi:p.inside=false) (hw:BL l.2) (hwl:∀ x∈l.2,x.length≤281474976710656) (hc:3≤l.2.length∧l.2.length≤10) :
  ACall Tryz.prog 87 [.ptr (b 0) 0,LA l] s fun r' s'=>r'=.v (.int .i64 (addSub p l).2)∧PR n0 s s' b p (addSub p l):=by
 have hno:=fun (q:Par) (e:Int) (he:e≠0) s'=>PR.no (q:=q) (s':=s') hp he
 have hn0:=hp.n
 obtain⟨at',w⟩:=l
 unfold LA TV
 simp only at *
 obtain⟨n,hn⟩:∃ n,n=w.length:=⟨_,rfl⟩
 rw[←hn] at hc ⊢
 have g1:((SL w).drop 1).head?=some (SV (w.getD 1 [])):=hd_SL w 1 (by omega)
 have lw:(SL w).length=n:=by unfold SL;rw[List.length_map,hn]
 have lp:(w.drop 2).length=n-2:=by rw[List.length_drop,hn]
 have g2:List.take (n-Int.toNat 2) (List.drop (Int.toNat 2) (SL w))=SL (w.drop 2):=by
  rw[List.take_of_length_le (by rw[List.length_drop,lw];omega)]
  unfold SL
  exact List.map_drop.symm
 have g3:(SL (w.drop 2)).length=n-Int.toNat 2:=by unfold SL;rw[List.length_map,lp];rfl
 have g4:(SL (w.drop 2)).all AV.one=true:=sl_one _
 unfold SV at g1
 refine acall_of Tryz.func87 rfl rfl (by simp [Tryz.ntmps87]) ?_;rw[Tryz.ntmps87,Tryz.results87]
 refine go rTI ?_
 refine aw_only (fun e s'=>∃ i5 i8,e.n=99∧e.m 0=.ptr (b 0) 0∧e.m 3=.ptr s.nx 0∧e.m 5=.ptr i5 0∧s'.get s.nx=some [.v (.int .i64 at'),.sl n (SL w)]∧s'.get i5=some [.v (.string (bs (w.getD 1 []))),.own i8 0 (n-2) 1,.v (.slice none 0 0)]∧s'.get i8=some (SL (w.drop 2)) ∧
  s.nx<i5∧s.nx<i8∧i5<s'.nx∧i8<s'.nx∧i5≠i8∧∀ i,i<s.nx→s'.get i=s.get i) ?_ ?_
 ·refine aw_drw (.take 0 (.take 1 (.take 2 (.take 3 (.take 5 (.take 6 (.take 7 (.two 4 (.two 8 (.take 9 (.one 10 (.one 11 (.done)))) 10 (.one 8 (.take 9 (.one 11 (.done))))) 10 (.one 4 (.one 8 (.take 9 (.one 11 (.done))))))))))))) [s.nx] (by kernel_rfl) (by kernel_rfl) fun K hK=>?_;refine dr (J6 rTI @g1 @lw @g2 @g3 @g4) ?_;refine⟨⟨hK _ _ ⟨rfl,s.nx+1+1+1,s.nx+1+1,?_⟩,hK _ _ ⟨rfl,s.nx+1+1,s.nx+1+1+1,?_⟩⟩,hK _ _ ⟨rfl,s.nx+1,s.nx+1+1+1,?_⟩⟩
  all_goals clear hK K hno hp hr hw hwl hi g1 g2 g3 g4 lw lp hn
  all_goals (repeat' refine And.intro ?_ ?_) <;> first | exact rfl | exact fnz rTI | skip
  all_goals exact stz
 ·rintro e s' ⟨i5,i8,h1,k0,k3,k5,gl,g5,g8,o1,o2,o3,o4,o5,hf⟩
  rw[then_normal]
  have hb0:b 0<s.nx:=hp.bx.hi 0 (by have:=nb_six p;omega)
  refine aw_freeze2 i8 (SL (w.drop 2)) g8 (fun i=>i==i5) fun e1 s1 f1 f2 f3 f4=>?_
  have m1:e1.n=99:=f1.trans h1
  have m0:e1.m 0=.ptr (b 0) 0:=by rw[f2,k0,frz_ptr_ne _ _ _ _ (by omega)]
  have m3:e1.m 3=.ptr s.nx 0:=by rw[f2,k3,frz_ptr_ne _ _ _ _ (by omega)]
  have m5:e1.m 5=.ptr i5 0:=by rw[f2,k5,frz_ptr_ne _ _ _ _ o5]
  have xl:s1.get s.nx=some [.v (.int .i64 at'),.sl n (SL w)]:=by rw[f4,if_neg (by omega),if_neg (by simp;omega)];exact gl
  have x5:s1.get i5=some [.v (.string (bs (w.getD 1 []))),.sl (w.drop 2).length (SL (w.drop 2)),.v (.slice none 0 0)]:=by
   rw[f4,if_neg o5,if_pos (by simp),g5,Option.map_some,←lp]
   simp only[frz,frz.frzL,SV,if_true,List.drop_zero,sl_take]
  have xf:∀ i,i<s.nx→s1.get i=s.get i:=fun i hi=>by
   rw[f4,if_neg (by omega),if_neg (by simp;omega)]
   exact hf i hi
  have xn:s.nx<i5∧i5<s1.nx:=⟨o1,by omega⟩
  clear g8 g5 gl k0 k3 k5 h1 o1 o2 o3 o4 o5 hf f1 f2 f3 f4 i8 g2 g3 g4
  have hS:addSub p (at',w)=if (w.drop 1).all isName=false then (p,71)
   else if (w.drop 2).all (fun n=>decide (n≠zero1))=false then (p,71)
   else if twice (w.drop 2)=true then (p,8)
   else if p.c.subs.any (fun o=>decide (o.name=w.getD 1 []))=true then (p,8)
   else if p.c.subs.length=8 then (p,7)
   else ({ p with c:={ p.c with subs:=p.c.subs++[⟨w.getD 1 [],w.drop 2,[]⟩] },subPl:=p.subPl++[[]],inside:=true,begun:=at' },0):=rfl
  have d1:((SL w).drop 1)=SL (w.drop 1):=List.map_drop.symm
  have dl:(w.drop 1).length=n-1:=by rw[List.length_drop,hn]
  have bA:BL (w.drop 1):=fun x hx=>hw x (List.mem_of_mem_drop hx)
  have bB:BL (w.drop 2):=fun x hx=>hw x (List.mem_of_mem_drop hx)
  have lA:∀ x∈w.drop 1,x.length≤281474976710656:=fun x hx=>hwl x (List.mem_of_mem_drop hx)
  have bN:By (w.getD 1 []):=bl_at w hw 1
  generalize addSub p (at',w)=Z at *
  generalize w.drop 1=A at *
  generalize w.drop 2=B at *
  generalize w.getD 1 []=N at *
  have d2:List.take (n-1) (SL A)=SL A:=List.take_of_length_le (by unfold SL;rw[List.length_map];omega)
  generalize SL w=SW at *
  clear hw hwl hn g1 lw
  clear w
  subst hS
  refine go (J6 rTI @m1 @m3 @xl @d1 @d2) ?_
  refine aw_loop (fun m e s'=>∃ j,m=n-1-j∧j≤n-1∧e.n=99∧e.m 0=.ptr (b 0) 0∧e.m 3=.ptr s.nx 0∧e.m 5=.ptr i5 0∧e.m 24=.sl (n-1) (SL A)∧e.m 25=.v (.int .i64 (n-1:Nat))∧e.m 26=.v (.int .i64 (j:Nat))∧(A.take j).all isName=true∧s'=s1) (n-1) ?_ ?_
  ·refine⟨0,by omega,by omega,?_⟩
   (repeat' refine And.intro ?_ ?_) <;> first | exact rfl | exact fnz (J5 rTI @m0 @m1 @m3 @m5) | skip
  ·clear m0 m1 m3 m5 e1
   rintro m e s' ⟨j,rfl,hj,h1,k0,k3,k5,k24,k25,k26,ha,rfl⟩
   by_cases hj2:j<A.length
   ·have f1:=hd_SL A j hj2
    have f6:=all_take isName A [] j hj2 ha
    have f7:=all_no isName A [] j hj2
    have pn:=NetA.name_ax (A.getD j []) (bl_at A bA j) (lA _ (getD_mem A [] j hj2))
    generalize A.getD j []=y at f1 f6 f7 pn
    unfold SV at f1 pn
    refine go (J4 rTI @h1 @k25 @k26) ?_
    refine ifs ?_ ?_ <;> first | exact nope | intro hb
    refine aw_skip ?_
    refine go (J5 rTI @h1 @k24 @k26 @f1) ?_
    cases hq:isName y with
    | false=>
     rw[hq] at pn
     rw[if_pos (f7 hq)]
     refine aw_reg fun K hK=>?_;refine rn (cj rTI @h1) ?_;refine cont_pure pn ?_;refine rn (cj rTI @h1) ?_;refine hK _ _ ?_;clear hK K
     refine ifs ?_ ?_ <;> first | exact nope | intro hb
     refine go (cj rTI @h1) ?_
     exact hno _ _ (by decide) _ (by omega) xf
    | true=>
     rw[hq] at pn f6
     refine aw_reg fun K hK=>?_;refine rn (cj rTI @h1) ?_;refine cont_pure pn ?_;refine rn (cj rTI @h1) ?_;refine hK _ _ ?_;clear hK K
     refine ifs ?_ ?_ <;> first | exact nope | intro hb
     refine go (J3 rTI @h1 @k26) ?_
     simp only[block_normal,loop_normal]
     refine⟨n-1-(j+1),by omega,j+1,rfl,by omega,?_⟩
     (repeat' refine And.intro ?_ ?_) <;> first | exact rfl | exact fnz (J7 @h1 @k0 @k3 @k5 @k24 @k25 @k26) | skip
     exact f6
   ·obtain rfl:j=A.length:=by omega
    rw[List.take_length] at ha
    rw[if_neg (by rw[ha];simp)]
    refine go (J4 rTI @h1 @k25 @k26) ?_
    refine ifs ?_ ?_ <;> first | exact nope | intro hb
    refine go (J4 rTI @h1 @k5 @x5) ?_
    clear ha dl d2 d1 lA bA k24 k25 k26
    refine aw_loop (fun m e s2=>∃ j,m=B.length-j∧j≤B.length∧e.n=99∧e.m 0=.ptr (b 0) 0∧e.m 3=.ptr s.nx 0∧e.m 5=.ptr i5 0∧e.m 35=.sl B.length (SL B)∧e.m 36=.v (.int .i64 B.length)∧e.m 37=.v (.int .i64 (j:Nat))∧(B.take j).all (fun n=>decide (n≠zero1))=true∧s2=s') B.length ?_ ?_
    ·refine⟨0,by omega,by omega,?_⟩
     (repeat' refine And.intro ?_ ?_) <;> first | exact rfl | exact fnz (J4 @h1 @k0 @k3 @k5) | skip
    ·clear h1 k0 k3 k5 e
     rintro m e s2 ⟨j,rfl,hj,h1,k0,k3,k5,k35,k36,k37,ha,rfl⟩
     by_cases hj2:j<B.length
     ·have f1:=hd_SL B j hj2
      have f6:=all_take (fun n:Str=>decide (n≠zero1)) B [] j hj2 ha
      have f7:=all_no (fun n:Str=>decide (n≠zero1)) B [] j hj2
      have g3:((bs (B.getD j [])).toList==(ByteArray.mk #[48]).toList)=decide (B.getD j []=zero1):=str_eq (B.getD j []) zero1 (bl_at B bB j) (by_lit _ rfl)
      generalize B.getD j []=y at f1 f6 f7 g3
      unfold SV at f1
      refine go (J4 rTI @h1 @k36 @k37) ?_
      refine ifs ?_ ?_ <;> first | exact nope | intro hb
      refine aw_skip ?_
      by_cases q1:y=zero1
      ·rw[decide_eq_true q1] at g3
       rw[if_pos (f7 (by simp [q1]))]
       refine go (J6 rTI @h1 @k35 @k37 @f1 @g3) ?_
       refine ifs ?_ ?_ <;> first | exact nope | intro hb
       refine go (cj rTI @h1) ?_
       exact hno _ _ (by decide) _ (by omega) xf
      ·rw[decide_eq_false q1] at g3
       refine go (J6 rTI @h1 @k35 @k37 @f1 @g3) ?_
       refine ifs ?_ ?_ <;> first | exact nope | intro hb
       refine go (J3 rTI @h1 @k37) ?_
       simp only[block_normal,loop_normal]
       refine⟨B.length-(j+1),by omega,j+1,rfl,by omega,?_⟩
       (repeat' refine And.intro ?_ ?_) <;> first | exact rfl | exact fnz (J7 @h1 @k0 @k3 @k5 @k35 @k36 @k37) | skip
       rw[f6];simp [q1]
     ·obtain rfl:j=B.length:=by omega
      rw[List.take_length] at ha
      rw[if_neg (by rw[ha];simp)]
      have pt:=twice_ax B bB (by omega)
      unfold TV at pt
      refine go (J4 rTI @h1 @k36 @k37) ?_
      refine ifs ?_ ?_ <;> first | exact nope | intro hb
      refine go (J4 rTI @h1 @k5 @x5) ?_
      cases hq:twice B with
      | true=>
       rw[hq] at pt
       rw[if_pos rfl]
       refine aw_reg fun K hK=>?_;refine rn (J4 rTI @h1 @k5 @x5) ?_;refine cont_pure pt ?_;refine rn (J4 rTI @h1 @k5 @x5) ?_;refine hK _ _ ?_;clear hK K
       refine ifs ?_ ?_ <;> first | exact nope | intro hb
       refine go (cj rTI @h1) ?_
       exact hno _ _ (by decide) _ (by omega) xf
      | false=>
       rw[hq] at pt
       rw[if_neg (by simp)]
       refine aw_reg fun K hK=>?_;refine rn (J4 rTI @h1 @k5 @x5) ?_;refine cont_pure pt ?_;refine rn (J4 rTI @h1 @k5 @x5) ?_;refine hK _ _ ?_;clear hK K
       refine ifs ?_ ?_ <;> first | exact nope | intro hb
       refine aw_skip ?_
       rw[then_normal]
       clear ha k35 k36 k37 pt
       have n6:=nb_six p
       have b0:=hp.bx.hi 0 (by omega)
       have b2:=hp.bx.hi 2 (by omega)
       have b5:=hp.bx.hi 5 (by omega)
       have c02:=hp.bx.ne 0 2 (by omega) (by omega) (by omega)
       have c05:=hp.bx.ne 0 5 (by omega) (by omega) (by omega)
       have c25:=hp.bx.ne 2 5 (by omega) (by omega) (by omega)
       have e0:=(xf _ b0).trans hp.h0
       have e2:=(xf _ b2).trans hp.h2
       have e5:=(xf _ b5).trans hp.h5
       unfold subsL at e2
       unfold plsL at e5
       rw[if_neg (by rw[hi];simp)] at e2 e5
       have hsn:∀ o∈p.c.subs,By o.name:=fun o ho=>by_name (by
        have:=(hr.so o ho).1
        unfold subOk at this
        simp only[Bool.and_eq_true] at this
        exact this.1.1)
       have hsl:=hr.sl
       have hpl:p.subPl.length=p.c.subs.length:=by
        have:=congrArg List.length hr.ps
        rwa [List.length_map,List.length_map] at this
       unfold PC at e0
       generalize hP:(fun o:Sub=>decide (o.name=N))=P at *
       refine go (J4 rTI @h1 @k0 @e0) ?_
       refine aw_loop (fun m e s'=>∃ j,m=p.c.subs.length-j∧j≤p.c.subs.length∧e.n=99∧e.m 0=.ptr (b 0) 0∧e.m 3=.ptr s.nx 0∧e.m 5=.ptr i5 0∧e.m 51=.own (b 2) 0 p.c.subs.length 3∧e.m 52=.v (.int .i64 p.c.subs.length)∧e.m 53=.v (.int .i64 (j:Nat))∧(p.c.subs.take j).any P=false ∧
        s2.nx≤s'.nx∧∀ i,i<s2.nx→s'.get i=s2.get i) p.c.subs.length ?_ ?_
       ·refine⟨0,by omega,by omega,?_⟩
        (repeat' refine And.intro ?_ ?_) <;> first | exact rfl | exact fnz (J4 @h1 @k0 @k3 @k5) | skip
        exact Nat.le_refl _
       ·clear h1 k0 k3 k5 e
        rintro m e s' ⟨j,rfl,hj,h1,k0,k3,k5,k51,k52,k53,hn,hx',hf⟩
        have gi:=(hf _ (by omega)).trans e0
        have gm:=(hf _ (by omega)).trans e2
        have gy:=(hf _ xn.2).trans x5
        by_cases hj2:j<p.c.subs.length
        ·have f1:=ul_at p.c.subs j hj2
         have f3:3≤((UL p.c.subs).drop (j*3)).length:=by rw[List.length_drop,ul_len];omega
         have f3':=ul_len p.c.subs
         have f4:=any_take P p.c.subs sub0 j hj2 hn
         have f5:=any_get P p.c.subs sub0 j hj2
         have hmj:=hsn _ (getD_mem p.c.subs sub0 j hj2)
         generalize p.c.subs.getD j sub0=z at f1 f4 f5 hmj
         unfold subL SV TV KV at f1
         have g3:=str_eq z.name N hmj bN
         have hP':P z=decide (z.name=N):=by rw[←hP]
         refine go (J4 rTI @h1 @k52 @k53) ?_
         refine ifs ?_ ?_ <;> first | exact nope | intro hb
         refine aw_skip ?_
         refine go (J8 rTI @h1 @k51 @k53 @f1 @f3 @f3' @gm) ?_
         by_cases q1:z.name=N
         ·rw[decide_eq_true q1] at g3 hP'
          rw[if_pos (f5 hP')]
          refine go (J5 rTI @h1 @k5 @gy @g3) ?_
          refine ifs ?_ ?_ <;> first | exact nope | intro hb
          refine go (cj rTI @h1) ?_
          exact hno _ _ (by decide) _ (by simp only[nx_s,nx_p];omega) (fun i hi=>(push_set_ne s' _ _ _ (by omega)).trans ((hf i (by omega)).trans (xf i hi)))
         ·rw[decide_eq_false q1] at g3 hP'
          refine go (J5 rTI @h1 @k5 @gy @g3) ?_
          refine ifs ?_ ?_ <;> first | exact nope | intro hb
          refine go (J3 rTI @h1 @k53) ?_
          simp only[block_normal,loop_normal]
          refine⟨p.c.subs.length-(j+1),by omega,j+1,rfl,by omega,?_⟩
          (repeat' refine And.intro ?_ ?_) <;> first | exact rfl | exact fnz (J7 @h1 @k0 @k3 @k5 @k51 @k52 @k53) | skip
          ·rw[f4,hP']
          ·exact stz
          ·exact fun i hi=>(push_set_ne s' _ _ _ (by omega)).trans (hf i hi)
        ·obtain rfl:j=p.c.subs.length:=by omega
         rw[List.take_length] at hn
         rw[if_neg (by rw[hn];simp)]
         refine go (J4 rTI @h1 @k52 @k53) ?_
         refine ifs ?_ ?_ <;> first | exact nope | intro hb
         by_cases q1:p.c.subs.length=8
         ·have b2:((p.c.subs.length:Int)==8)=true:=by rw[q1];rfl
          rw[if_pos q1]
          refine go (J5 rTI @h1 @k0 @gi @b2) ?_
          refine ifs ?_ ?_ <;> first | exact nope | intro hb
          refine go (cj rTI @h1) ?_
          exact hno _ _ (by decide) _ (by omega) (fun i hi=>(hf i (by omega)).trans (xf i hi))
         ·have b2:((p.c.subs.length:Int)==8)=false:=by rw[Bool.eq_iff_iff];simp;omega
          rw[if_neg q1]
          have f3':=ul_len p.c.subs
          refine go (J5 rTI @h1 @k0 @gi @b2) ?_
          refine ifs ?_ ?_ <;> first | exact nope | intro hb
          refine aw_skip ?_
          rw[then_normal]
          refine aw_seq ?_
          refine aw_drwR (.take 0 (.take 1 (.take 2 (.take 3 (.take 4 (.take 5 (.take 6 (.one 7 (.one 8 (.done)))))))))) 9 [10,11,12] [b 0,i5] (by kernel_rfl) (by kernel_rfl) fun K hK=>?_;refine dt (J9 rTI @h1 @k0 @k5 @gi @gy @gm @f3' @zrow_thr) ?_;refine hK _ _ ?_;clear hK K
          rw[then_normal]
          generalize hs3:(((s'.push _).kill (b 2)).push _).set (b 0) _=s3
          have q0:s3.get (b 0)=some [.v (.int .i64 p.c.step.1),.v (.int .i64 p.c.step.2),.v (.int .i64 p.c.method),.own (b 1) 0 p.c.models.length 4,.own (s'.nx+1) 0 (p.c.subs.length+1) 3,.own (b 3) 0 p.c.cards.length 8,.v (.bool p.step),.v (.bool p.method),.v (.bool p.ended),.v (.bool p.inside),.v (.int .i64 p.begun),.own (b 4) 0 p.places.length 1,.own (b 5) 0 p.subPl.length 1]:=by rw[←hs3];exact St.set_same _ _ _
          have q2:s3.get (s'.nx+1)=some (UL p.c.subs++[.v (.string (bs N)),.sl B.length (SL B),.v (.slice none 0 0)]):=by rw[←hs3];exact stz
          have q5:s3.get (b 5)=some (p.subPl.map IV):=by
           refine Eq.trans ?_ ((hf _ (by omega)).trans e5)
           rw[←hs3];exact stz
          have ql:s3.get s.nx=some [.v (.int .i64 at'),.sl n SW]:=by
           refine Eq.trans ?_ ((hf _ (by omega)).trans xl)
           rw[←hs3];exact stz
          have qn:s3.nx=s'.nx+1+1:=by rw[←hs3];rfl
          have qf:∀ i,i<s.nx→i≠b 0→i≠b 2→s3.get i=s.get i:=fun i hi h h'=>by
           refine Eq.trans ?_ ((hf _ (by omega)).trans (xf i hi))
           rw[←hs3];exact stz
          clear hs3 gi gm gy hf e0 e2 e5 xf x5 xl
          refine aw_nil_box (s'.nx+1) (p.c.subs.length*3+2) 8 _ q2 (by rw[List.getElem?_append_right (by omega),f3',Nat.add_sub_cancel_left];rfl) ?_
          rw[List.set_append,if_neg (by omega),f3',Nat.add_sub_cancel_left]
          simp only[List.set_cons_succ,List.set_cons_zero]
          generalize hs4:(s3.push []).set (s'.nx+1) _=s4
          have r0:=(show s4.get (b 0)=s3.get (b 0) by rw[←hs4];exact stz).trans q0
          have r2:s4.get (s'.nx+1)=some (UL p.c.subs++[.v (.string (bs N)),.sl B.length (SL B),.own (s'.nx+1+1) 0 0 8]):=by rw[←hs4,←qn];exact St.set_same _ _ _
          have r6:s4.get (s'.nx+1+1)=some []:=by rw[←hs4,←qn];exact stz
          have r5:=(show s4.get (b 5)=s3.get (b 5) by rw[←hs4];exact stz).trans q5
          have rl:=(show s4.get s.nx=s3.get s.nx by rw[←hs4];exact stz).trans ql
          have rn:s4.nx=s'.nx+1+1+1:=by rw[←hs4,←qn];rfl
          have rf:∀ i,i<s.nx→i≠b 0→i≠b 2→s4.get i=s.get i:=fun i hi h h'=>by
           refine Eq.trans ?_ (qf i hi h h')
           rw[←hs4];exact stz
          clear hs4 q0 q2 q5 ql qn qf
          have f8:(p.subPl.map IV).length=p.subPl.length:=List.length_map ..
          refine go (J6 rTI @h1 @k0 @r0 @r5 @f8) ?_
          generalize hs5:(((s4.push _).kill (b 5)).push _).set (b 0) _=s5
          have t0:s5.get (b 0)=some [.v (.int .i64 p.c.step.1),.v (.int .i64 p.c.step.2),.v (.int .i64 p.c.method),.own (b 1) 0 p.c.models.length 4,.own (s'.nx+1) 0 (p.c.subs.length+1) 3,.own (b 3) 0 p.c.cards.length 8,.v (.bool p.step),.v (.bool p.method),.v (.bool p.ended),.v (.bool p.inside),.v (.int .i64 p.begun),.own (b 4) 0 p.places.length 1,.own (s4.nx+1) 0 (p.subPl.length+1) 1]:=by rw[←hs5];exact St.set_same _ _ _
          have t2:=(show s5.get (s'.nx+1)=s4.get (s'.nx+1) by rw[←hs5];exact stz).trans r2
          have t6:=(show s5.get (s'.nx+1+1)=s4.get (s'.nx+1+1) by rw[←hs5];exact stz).trans r6
          have tl:=(show s5.get s.nx=s4.get s.nx by rw[←hs5];exact stz).trans rl
          have t5:s5.get (s4.nx+1)=some (p.subPl.map IV++[.v (.slice none 0 0)]):=by rw[←hs5];exact stz
          have tn:s5.nx=s4.nx+1+1:=by rw[←hs5];rfl
          have tf:∀ i,i<s.nx→i≠b 0→i≠b 2→i≠b 5→s5.get i=s.get i:=fun i hi h h' h''=>by
           refine Eq.trans ?_ (rf i hi h h')
           rw[←hs5];exact stz
          clear hs5 r0 r2 r5 r6 rl rf
          refine aw_nil_box (s4.nx+1) p.subPl.length 1 _ t5 (by rw[List.getElem?_append_right (by omega),f8,Nat.sub_self];rfl) ?_
          rw[List.set_append,if_neg (by omega),f8,Nat.sub_self]
          simp only[List.set_cons_zero]
          generalize hs6:(s5.push []).set (s4.nx+1) _=s6
          have u0:=(show s6.get (b 0)=s5.get (b 0) by rw[←hs6];exact stz).trans t0
          have u2:=(show s6.get (s'.nx+1)=s5.get (s'.nx+1) by rw[←hs6];exact stz).trans t2
          have u6:=(show s6.get (s'.nx+1+1)=s5.get (s'.nx+1+1) by rw[←hs6];exact stz).trans t6
          have ul:=(show s6.get s.nx=s5.get s.nx by rw[←hs6];exact stz).trans tl
          have u5:s6.get (s4.nx+1)=some (p.subPl.map IV++[.own s5.nx 0 0 1]):=by rw[←hs6];exact St.set_same _ _ _
          have u7:s6.get s5.nx=some []:=by rw[←hs6];exact stz
          have un:s6.nx=s5.nx+1:=by rw[←hs6];rfl
          have uf:∀ i,i<s.nx→i≠b 0→i≠b 2→i≠b 5→s6.get i=s.get i:=fun i hi h h' h''=>by
           refine Eq.trans ?_ (tf i hi h h' h'')
           rw[←hs6];exact stz
          clear hs6 t0 t2 t5 t6 tl tf
          refine aw_drw (.take 0 (.take 1 (.take 2 (.take 3 (.take 4 (.take 5 (.one 6 (.take 7 (.take 8 (.one 9 (.done))))))))))) [s.nx] (by kernel_rfl) (by kernel_rfl) fun K hK=>?_;refine dr (J6 rTI @h1 @k0 @k3 @ul @u0) ?_;refine hK _ _ ?_;clear hK K
          refine go (cj rTI @h1) ?_
          refine⟨by simp only[nx_s];omega,fun i h hne=>?_,fun _=>⟨bu (bu (bu (bu b 2 (s'.nx+1)) 6 (s'.nx+1+1)) 5 (s4.nx+1)) 7 s5.nx,rfl,?_⟩⟩
          ·have a0:=hne 0 (by omega)
           have a2:=hne 2 (by omega)
           have a5:=hne 5 (by omega)
           refine Eq.trans ?_ (uf i (by omega) (by omega) (by omega) (by omega))
           exact stz
          ·refine PS.begin hp hi N B at' (s'.nx+1) (s'.nx+1+1) (s4.nx+1) s5.nx (by omega) (by omega) (by omega) (by omega) (by simp only[nx_s];omega) ?_ ?_ ?_ ?_ ?_ ?_
           ·exact(St.set_same _ _ _).trans rfl
           ·refine Eq.trans ?_ u2;exact stz
           ·refine Eq.trans ?_ u5;exact stz
           ·refine Eq.trans ?_ u6;exact stz
           ·refine Eq.trans ?_ u7;exact stz
           ·intro i hi h h' h''
            refine Eq.trans ?_ (uf i hi h h' h'');exact stz
end NetAB
namespace NetAC
open Go Go.RowKit Ax Ti NumS NumT CardS CardP CardA CardB CardE CardG CardI CardJ CardK CardL CardN CardX NetS NetA NetE NetM NetN NetQ NetT NetAA NetAB NetF NetJ
theorem rTI:type_of% (J24 @ti3 @ti2 @ti4 @ti9 @ti5 @ti43 @ti45 @ti44 @ti23 @ti47 @ti49 @ti68 @ti51 @ti28 @ti26 @ti24 @ti25 @ti90 @ti89 @ti92 @ti31 @ti94 @Nat.zero_add (J5 @tz0 @tz1 @tz3 @Nat.mul_one @Int.toNat_natCast)):=cj @ti3 (J24 @ti2 @ti4 @ti9 @ti5 @ti43 @ti45 @ti44 @ti23 @ti47 @ti49 @ti68 @ti51 @ti28 @ti26 @ti24 @ti25 @ti90 @ti89 @ti92 @ti31 @ti94 @Nat.zero_add @tz0 (J4 @tz1 @tz3 @Nat.mul_one @Int.toNat_natCast))
theorem set_at (l:List AV) (i:Nat) (x:AV) (h:i<l.length):((l.set i x).drop i).head?=some x:=by
 rw[List.head?_drop,List.getElem?_set_self (by simpa using h)]
theorem zrow_eig (a b c d e f g h:Value):zrow [a,b,c,d,e,f,g,h] 8=[.v a,.v b,.v c,.v d,.v e,.v f,.v g,.v h]:=rfl
structure OL (s:St) (b:Nat→Nat) (p:Par) (A oa B ob ic il:Nat) (LA LB:List AV) (C:List Crd) (Pl:List Int):Prop where
 ga:s.get A=some LA
 ha:(LA.drop oa).head?=some (.own ic 0 C.length 8)
 la:oa<LA.length
 gb:s.get B=some LB
 hb:(LB.drop ob).head?=some (.own il 0 Pl.length 1)
 lb:ob<LB.length
 gc:s.get ic=some (KL C)
 gl:s.get il=some (IL Pl)
 n1:ic≠A∧ic≠B∧ic≠il∧il≠A∧il≠B
 n2:A<s.nx∧B<s.nx∧ic<s.nx∧il<s.nx
 hC:C=openL p
 hi:p.inside=false→A=b 0∧oa=5∧B=b 0∧ob=11∧ic=b 3∧il=b 4∧Pl=p.places
 ho:p.inside=true→A=b 2∧oa=(p.c.subs.length-1)*3+2∧B=b 5∧ob=p.c.subs.length-1∧ic=b 6∧il=b 7∧Pl=lastP p
theorem OL.of {n0:Nat} {s:St} {b:Nat→Nat} {p:Par} (hp:PS n0 s b p) (hr:Rt p) (hin:p.inside=true→p.c.subs≠[]):∃ A oa B ob ic il LA LB C Pl,OL s b p A oa B ob ic il LA LB C Pl:=by
 have hx:=hp.bx
 cases hi:p.inside with
 | false=>
  rw[show nb p=6 from if_neg (by rw[hi];simp)] at hx
  refine⟨b 0,5,b 0,11,b 3,b 4,_,_,p.c.cards,p.places,hp.h0,rfl,show 5<13 by decide,hp.h0,rfl,show 11<13 by decide,hp.h3,hp.h4,?_,?_,?_,fun _=>⟨rfl,rfl,rfl,rfl,rfl,rfl,rfl⟩,fun h=>?_⟩
  ·have a1:=hx.ne 3 0 (by omega) (by omega) (by omega)
   have a2:=hx.ne 3 4 (by omega) (by omega) (by omega)
   have a3:=hx.ne 4 0 (by omega) (by omega) (by omega)
   exact⟨a1,a1,a2,a3,a3⟩
  ·have a1:=hx.hi 0 (by omega)
   have a2:=hx.hi 3 (by omega)
   have a3:=hx.hi 4 (by omega)
   exact⟨a1,a1,a2,a3⟩
  ·unfold openL;rw[if_neg (by rw[hi];simp)]
  ·rw[hi] at h;cases h
 | true=>
  rw[show nb p=8 from if_pos hi] at hx
  have h2:=hp.h2
  have h5:=hp.h5
  unfold subsL at h2
  unfold plsL at h5
  rw[if_pos hi] at h2 h5
  have hne:=hin hi
  have h0:0<p.c.subs.length:=List.length_pos_iff.2 hne
  have hpl:p.subPl.length=p.c.subs.length:=by
   have:=congrArg List.length hr.ps
   rwa [List.length_map,List.length_map] at this
  rw[hpl] at h5
  refine⟨b 2,(p.c.subs.length-1)*3+2,b 5,p.c.subs.length-1,b 6,b 7,_,_,lastC p,lastP p,h2,set_at _ _ _ ?_,?_,h5,set_at _ _ _ ?_,?_,hp.h6 hi,hp.h7 hi,?_,?_,?_,fun h=>?_,fun _=>⟨rfl,rfl,rfl,rfl,rfl,rfl,rfl⟩⟩
  ·rw[ul_len];omega
  ·rw[List.length_set,ul_len];omega
  ·rw[List.length_map];omega
  ·rw[List.length_set,List.length_map];omega
  ·exact⟨hx.ne 6 2 (by omega) (by omega) (by omega),hx.ne 6 5 (by omega) (by omega) (by omega),hx.ne 6 7 (by omega) (by omega) (by omega),hx.ne 7 2 (by omega) (by omega) (by omega),hx.ne 7 5 (by omega) (by omega) (by omega)⟩
  ·exact⟨hx.hi 2 (by omega),hx.hi 5 (by omega),hx.hi 6 (by omega),hx.hi 7 (by omega)⟩
  ·unfold openL;rw[if_pos hi];rfl
  ·rw[hi] at h;cases h
theorem by_right {x:Crd} (h:rightC x=true):By x.name:=by_name (by
 have:=(nodes_le x h).1
 unfold isDev at this
 simp only[Bool.and_eq_true] at this
 exact this.1)
theorem open_right {p:Par} (hr:Rt p):(∀ x∈openL p,rightC x=true)∧(openL p).length≤64:=by
 unfold openL
 split
 ·cases h:p.c.subs.getLast? with
  | none=>exact⟨fun x hx=>(by cases hx),Nat.zero_le _⟩
  | some z=>
   have hz:=hr.so z (List.mem_of_getLast? h)
   exact⟨hz.2.2.1,hz.2.2.2.2⟩
 ·exact⟨hr.co,hr.cl⟩
def outP (p:Par) (y:Crd) (a:Int):Par:={ p with c:={ p.c with cards:=p.c.cards++[y] },places:=p.places++[a] }
def innP (p:Par) (y:Crd) (a:Int):Par:={ p with c:={ p.c with subs:=lastMap (fun s=>{ s with cards:=s.cards++[y] }) p.c.subs },subPl:=lastMap (fun l=>l++[a]) p.subPl }
theorem PS.out {n0:Nat} {s s5:St} {b:Nat→Nat} {p:Par} (hp:PS n0 s b p) (hi:p.inside=false) (y:Crd) (a:Int) (i3 i4:Nat) (h1:s.nx≤i3) (h2:i3<i4) (h3:i4<s5.nx)
  (g0:s5.get (b 0)=some (PC (outP p y a) (.own (b 1) 0 p.c.models.length 4) (.own (b 2) 0 p.c.subs.length 3) (.own i3 0 (p.c.cards.length+1) 8) (.own i4 0 (p.places.length+1) 1) (.own (b 5) 0 p.subPl.length 1)))
  (g3:s5.get i3=some (KL (p.c.cards++[y]))) (g4:s5.get i4=some (IL (p.places++[a])))
  (fr:∀ i,i<s.nx→i≠b 0→i≠b 3→i≠b 4→s5.get i=s.get i):PS n0 s5 (bu (bu b 3 i3) 4 i4) (outP p y a):=by
 have hn:=hp.n
 have bx:=hp.bx
 rw[show nb p=6 from if_neg (by rw[hi];simp)] at bx
 have l1:(outP p y a).c.cards.length=p.c.cards.length+1:=by simp [outP]
 have l2:(outP p y a).places.length=p.places.length+1:=by simp [outP]
 have kp:=fun i (h:i<6) (h0:i≠0) (h3:i≠3) (h4:i≠4)=>fr _ (bx.hi i h) (bx.ne i 0 h (by omega) h0) (bx.ne i 3 h (by omega) h3) (bx.ne i 4 h (by omega) h4)
 refine⟨?_,?_,?_,?_,?_,?_,?_,fun h=>?_,fun h=>?_⟩
 ·rw[show nb (outP p y a)=6 from if_neg (by show ¬p.inside=true;rw[hi];simp)]
  exact(bx.upd 3 i3 h1 (Nat.lt_succ_self _) hn).upd 4 i4 h2 h3 (by omega)
 ·rw[l1,l2];exact g0
 ·exact(kp 1 (by omega) (by omega) (by omega) (by omega)).trans hp.h1
 ·have:=(kp 2 (by omega) (by omega) (by omega) (by omega)).trans hp.h2
  unfold subsL at *
  rw[if_neg (by show ¬p.inside=true;rw[hi];simp)] at *
  exact this
 ·exact g3
 ·exact g4
 ·have:=(kp 5 (by omega) (by omega) (by omega) (by omega)).trans hp.h5
  unfold plsL at *
  rw[if_neg (by show ¬p.inside=true;rw[hi];simp)] at *
  exact this
 ·exact absurd (hi.symm.trans h) (by decide)
 ·exact absurd (hi.symm.trans h) (by decide)
theorem lm_len {α:Type} (f:α→α):∀ l:List α,(lastMap f l).length=l.length
 | []=>rfl
 | [a]=>rfl
 | a::b::r=>by rw[lastMap,List.length_cons,lm_len f (b::r)];rfl
theorem subs_last (l:List Sub) (y:Crd) (x:AV) (h:l≠[]):(UL (lastMap (fun s=>{ s with cards:=s.cards++[y] }) l)).set ((l.length-1)*3+2) x=(UL l).set ((l.length-1)*3+2) x:=by
 rcases List.eq_nil_or_concat l with e | ⟨I,z,e⟩
 ·exact absurd e h
 ·rw[List.concat_eq_append] at e
  subst e
  rw[lastMap_snoc,List.length_append,List.length_singleton,Nat.add_sub_cancel]
  unfold UL
  rw[List.flatMap_append,List.flatMap_append]
  have hl:(I.flatMap subL).length=I.length*3:=ul_len I
  rw[List.set_append,if_neg (by omega),List.set_append,if_neg (by omega),hl,Nat.add_sub_cancel_left]
  rfl
theorem pls_last (l:List (List Int)) (a:Int) (x:AV) (h:l≠[]):((lastMap (fun q=>q++[a]) l).map IV).set (l.length-1) x=(l.map IV).set (l.length-1) x:=by
 rcases List.eq_nil_or_concat l with e | ⟨I,z,e⟩
 ·exact absurd e h
 ·rw[List.concat_eq_append] at e
  subst e
  rw[lastMap_snoc,List.length_append,List.length_singleton,Nat.add_sub_cancel,List.map_append,List.map_append]
  rw[List.set_append,if_neg (by rw[List.length_map];omega),List.set_append,if_neg (by rw[List.length_map];omega),List.length_map,Nat.sub_self]
  rfl
theorem PS.inn {n0:Nat} {s s5:St} {b:Nat→Nat} {p:Par} (hp:PS n0 s b p) (hi:p.inside=true) (hne:p.c.subs≠[]) (hpl:p.subPl.length=p.c.subs.length) (y:Crd) (a:Int) (i6 i7:Nat) (h1:s.nx≤i6) (h2:i6<i7) (h3:i7<s5.nx)
  (g2:s5.get (b 2)=some ((UL p.c.subs).set ((p.c.subs.length-1)*3+2) (.own i6 0 ((lastC p).length+1) 8))) (g5:s5.get (b 5)=some ((p.subPl.map IV).set (p.subPl.length-1) (.own i7 0 ((lastP p).length+1) 1)))
  (g6:s5.get i6=some (KL (lastC p++[y]))) (g7:s5.get i7=some (IL (lastP p++[a])))
  (fr:∀ i,i<s.nx→i≠b 2→i≠b 5→i≠b 6→i≠b 7→s5.get i=s.get i):PS n0 s5 (bu (bu b 6 i6) 7 i7) (innP p y a):=by
 have hn:=hp.n
 have bx:=hp.bx
 rw[show nb p=8 from if_pos hi] at bx
 have hne2:p.subPl≠[]:=fun h=>hne (List.length_eq_zero_iff.1 (by rw[←hpl,h];rfl))
 have l1:lastC (innP p y a)=lastC p++[y]:=by
  unfold lastC innP
  rcases List.eq_nil_or_concat p.c.subs with e | ⟨I,z,e⟩
  ·exact absurd e hne
  ·rw[List.concat_eq_append] at e
   rw[e]
   simp only[lastMap_snoc,List.getLast?_append,List.getLast?_singleton,Option.some_or,Option.map_some,Option.getD_some]
 have l2:lastP (innP p y a)=lastP p++[a]:=by
  unfold lastP innP
  rcases List.eq_nil_or_concat p.subPl with e | ⟨I,z,e⟩
  ·exact absurd e hne2
  ·rw[List.concat_eq_append] at e
   rw[e]
   simp only[lastMap_snoc,List.getLast?_append,List.getLast?_singleton,Option.some_or,Option.map_some,Option.getD_some]
 have l3:(innP p y a).c.subs.length=p.c.subs.length:=lm_len _ _
 have l4:(innP p y a).subPl.length=p.subPl.length:=lm_len _ _
 have kp:=fun i (h:i<8) (h2:i≠2) (h5:i≠5) (h6:i≠6) (h7:i≠7)=>fr _ (bx.hi i h) (bx.ne i 2 h (by omega) h2) (bx.ne i 5 h (by omega) h5) (bx.ne i 6 h (by omega) h6) (bx.ne i 7 h (by omega) h7)
 have hi':(innP p y a).inside=true:=hi
 refine⟨?_,?_,?_,?_,?_,?_,?_,fun h=>?_,fun h=>?_⟩
 ·rw[show nb (innP p y a)=8 from if_pos hi]
  exact(bx.upd 6 i6 h1 (Nat.lt_succ_self _) hn).upd 7 i7 h2 h3 (by omega)
 ·rw[l3,l4]
  exact(kp 0 (by omega) (by omega) (by omega) (by omega) (by omega)).trans hp.h0
 ·exact(kp 1 (by omega) (by omega) (by omega) (by omega) (by omega)).trans hp.h1
 ·unfold subsL
  rw[if_pos hi',l3,l1,List.length_append,List.length_singleton]
  exact g2.trans (congrArg some (subs_last p.c.subs y _ hne).symm)
 ·exact(kp 3 (by omega) (by omega) (by omega) (by omega) (by omega)).trans hp.h3
 ·exact(kp 4 (by omega) (by omega) (by omega) (by omega) (by omega)).trans hp.h4
 ·unfold plsL
  rw[if_pos hi',l4,l2,List.length_append,List.length_singleton]
  exact g5.trans (congrArg some (pls_last p.subPl a _ hne2).symm)
 ·rw[l1];exact g6
 ·rw[l2];exact g7
theorem last_len {p:Par} (hr:Rt p):(lastP p).length=(lastC p).length:=by
 have h:=congrArg List.getLast? hr.ps
 rw[List.getLast?_map,List.getLast?_map] at h
 unfold lastP lastC
 cases h1:p.subPl.getLast? <;> cases h2:p.c.subs.getLast? <;> rw[h1,h2] at h <;> simp at h ⊢
 exact h
theorem addCard_ax (s:St) (n0:Nat) (b:Nat→Nat) (p:Par) (l:Line) (hp:PS n0 s b p) (hr:Rt p) (hin:p.inside=true→p.c.subs≠[]) (hw:BL l.2) (hwl:∀ x∈l.2,x.length≤281474976710656) (hl:l.2.length≤10000) :
  ACall Tryz.prog 88 [.ptr (b 0) 0,LA l] s fun r' s'=>r'=.v (.int .i64 (addCard p l).2)∧PR n0 s s' b p (addCard p l):=by
 have hno:=fun (q:Par) (e:Int) (he:e≠0) s'=>PR.no (q:=q) (s':=s') hp he
 have hn0:=hp.n
 obtain⟨at',w⟩:=l
 have pr:=read_ax w hw hwl hl
 unfold LA TV
 unfold addCard
 simp only at *
 have hrr:=NetG.readC_right w
 generalize readC w=q at *
 obtain⟨y,ev⟩:=q
 simp only at *
 unfold RA CA SV TV NV IV iv at pr
 have n6:=nb_six p
 have b0:=hp.bx.hi 0 (by omega)
 have b2:=hp.bx.hi 2 (by omega)
 have b5:=hp.bx.hi 5 (by omega)
 have e0:=hp.h0
 unfold PC at e0
 by_cases hev:ev=0
 ·have c1:(ev != 0)=false:=by rw[hev];rfl
  rw[if_neg (by simpa using hev)]
  refine acall_of Tryz.func88 rfl rfl (by simp [Tryz.ntmps88]) ?_;rw[Tryz.ntmps88,Tryz.results88]
  refine go rTI ?_
  refine aw_reg fun K hK=>?_;refine rn rTI ?_;refine cont_pure pr ?_;refine rn rTI ?_;refine hK _ _ ?_;clear hK K
  refine go (cj rTI @c1) ?_
  refine ifs ?_ ?_ <;> first | exact nope | intro hb
  refine aw_skip ?_
  rw[then_normal]
  generalize hs1:((s.push _).push _).set (s.nx+1) _=s1
  have xl:s1.get s.nx=some [.v (.int .i64 at'),.sl w.length (SL w)]:=by rw[←hs1];exact stz
  have xy:s1.get (s.nx+1)=some [.v (.string (bs y.name)),.sl y.nodes.length (SL y.nodes),.v (.string (bs y.ref)),.v (.int .i64 y.value.1),.v (.int .i64 y.value.2),.v (.int .i64 y.wave.kind),.sl y.wave.vals.length (NC y.wave.vals),.sl y.wave.steps.length (IL y.wave.steps)]:=by rw[←hs1];exact St.set_same _ _ _
  have xn:s1.nx=s.nx+1+1:=by rw[←hs1];rfl
  have xf:∀ i,i<s.nx→s1.get i=s.get i:=fun i hi=>by rw[←hs1];exact stz
  clear hs1
  obtain⟨A,oa,B,ob,ic,il,LA,LB,C,Pl,hO⟩:=OL.of hp hr hin
  have u0:=(xf _ b0).trans e0
  refine aw_seq ?_
  refine aw_drw (.take 0 (.take 1 (.take 2 (.take 3 (.take 4 (.take 5 (.take 6 (.take 7 (.take 8 (.done)))))))))) [] (by kernel_rfl) (by kernel_rfl) fun K hK=>?_;refine dr rTI ?_;refine hK _ _ ?_;clear hK K
  rw[then_normal]
  refine aw_mid (fun e s'=>e.n=89∧e.m 0=.ptr (b 0) 0∧e.m 3=.ptr s.nx 0∧e.m 5=.ptr (s.nx+1) 0∧e.m 7=.ptr A oa∧e.m 8=.ptr B ob∧s'=s1) ?_ ?_
  ·cases hi:p.inside with
   | false=>
    obtain⟨rfl,rfl,rfl,rfl,rfl,rfl,rfl⟩:=hO.hi hi
    rw[hi] at u0
    refine go (cj rTI @u0) ?_
    refine ifs ?_ ?_ <;> first | exact nope | intro hb
    exact go0 rTI
   | true=>
    obtain⟨rfl,rfl,rfl,rfl,rfl,rfl,rfl⟩:=hO.ho hi
    rw[hi] at u0
    have hne:=hin hi
    have h0:0<p.c.subs.length:=List.length_pos_iff.2 hne
    have hpl:p.subPl.length=p.c.subs.length:=by
     have:=congrArg List.length hr.ps
     rwa [List.length_map,List.length_map] at this
    rw[hpl] at u0
    obtain⟨m,hm⟩:∃ m,p.c.subs.length=m+1:=⟨p.c.subs.length-1,by omega⟩
    rw[hm] at u0 ⊢
    have e1:((m+1:Nat):Int)-1=(m:Int):=by omega
    have hsl:=hr.sl
    refine go (J3 rTI @u0 @e1) ?_
    refine ifs ?_ ?_ <;> first | exact nope | intro hb
    refine go (J3 rTI @u0 @e1) ?_
    rw[then_normal]
    refine aw_drw (.take 0 (.take 1 (.take 2 (.take 3 (.take 4 (.take 5 (.take 6 (.take 7 (.take 8 (.take 9 (.take 10 (.take 11 (.take 12 (.take 13 (.take 14 (.take 15 (.done))))))))))))))))) [b 0] (by kernel_rfl) (by kernel_rfl) fun K hK=>?_;refine dr (J3 rTI @u0 @e1) ?_;refine hK _ _ ?_;clear hK K
    (repeat' refine And.intro ?_ ?_) <;> first | exact rfl | exact fnz rTI | skip
  ·rintro e s' ⟨h1,k0,k3,k5,k7,k8,rfl⟩
   have hcn:∀ o∈C,By o.name:=fun o ho=>by
    rw[hO.hC] at ho
    exact by_right ((open_right hr).1 o ho)
   have hcl:C.length≤64:=by rw[hO.hC];exact(open_right hr).2
   have gA:=(xf _ hO.n2.1).trans hO.ga
   have gB:=(xf _ hO.n2.2.1).trans hO.gb
   have gC:=(xf _ hO.n2.2.2.1).trans hO.gc
   have gL:=(xf _ hO.n2.2.2.2).trans hO.gl
   obtain⟨_,hLA,lLA,_,hLB,lLB,_,_,n1,n2,hC,hi,ho⟩:=hO
   rw[←hC]
   have hyn:By y.name:=by_right (hrr hev)
   generalize hP:(fun o:Crd=>decide (o.name=y.name))=P at *
   refine go (J5 rTI @h1 @k7 @gA @hLA) ?_
   refine aw_loop (fun m e s2=>∃ j,m=C.length-j∧j≤C.length∧e.n=89∧e.m 0=.ptr (b 0) 0∧e.m 3=.ptr s.nx 0∧e.m 5=.ptr (s.nx+1) 0∧e.m 7=.ptr A oa∧e.m 8=.ptr B ob∧e.m 55=.own ic 0 C.length 8∧e.m 56=.v (.int .i64 C.length)∧e.m 57=.v (.int .i64 (j:Nat))∧(C.take j).any P=false ∧
    s'.nx≤s2.nx∧∀ i,i<s'.nx→s2.get i=s'.get i) C.length ?_ ?_
   ·refine⟨0,by omega,by omega,?_⟩
    (repeat' refine And.intro ?_ ?_) <;> first | exact rfl | exact fnz (J6 @h1 @k0 @k3 @k5 @k7 @k8) | skip
    exact Nat.le_refl _
   ·clear h1 k0 k3 k5 k7 k8 e
    rintro m e s2 ⟨j,rfl,hj,h1,k0,k3,k5,k7,k8,k55,k56,k57,hn,hx',hf⟩
    have gc2:=(hf _ (by omega)).trans gC
    have gy:=(hf _ (by omega)).trans xy
    by_cases hj2:j<C.length
    ·have f1:=kl_at C j hj2
     have f3:8≤((KL C).drop (j*8)).length:=by rw[List.length_drop,kl_len];omega
     have f3':=kl_len C
     have f4:=any_take P C crd0 j hj2 hn
     have f5:=any_get P C crd0 j hj2
     have hmj:=hcn _ (getD_mem C crd0 j hj2)
     generalize C.getD j crd0=z at f1 f4 f5 hmj
     unfold crdL SV TV NV IV iv at f1
     have g3:=str_eq z.name y.name hmj hyn
     have hP':P z=decide (z.name=y.name):=by rw[←hP]
     refine go (J4 rTI @h1 @k56 @k57) ?_
     refine ifs ?_ ?_ <;> first | exact nope | intro hb
     refine aw_skip ?_
     refine go (J8 rTI @h1 @k55 @k57 @f1 @f3 @f3' @gc2) ?_
     by_cases q1:z.name=y.name
     ·rw[decide_eq_true q1] at g3 hP'
      rw[if_pos (f5 hP')]
      refine go (J5 rTI @h1 @k5 @gy @g3) ?_
      refine ifs ?_ ?_ <;> first | exact nope | intro hb
      refine go (cj rTI @h1) ?_
      exact hno _ _ (by decide) _ (by simp only[nx_s,nx_p];omega) (fun i hi=>(push_set_ne s2 _ _ _ (by omega)).trans ((hf i (by omega)).trans (xf i hi)))
     ·rw[decide_eq_false q1] at g3 hP'
      refine go (J5 rTI @h1 @k5 @gy @g3) ?_
      refine ifs ?_ ?_ <;> first | exact nope | intro hb
      refine go (J3 rTI @h1 @k57) ?_
      simp only[block_normal,loop_normal]
      refine⟨C.length-(j+1),by omega,j+1,rfl,by omega,?_⟩
      (repeat' refine And.intro ?_ ?_) <;> first | exact rfl | exact fnz (J9 @h1 @k0 @k3 @k5 @k7 @k8 @k55 @k56 @k57) | skip
      ·rw[f4,hP']
      ·exact stz
      ·exact fun i hi=>(push_set_ne s2 _ _ _ (by omega)).trans (hf i hi)
    ·obtain rfl:j=C.length:=by omega
     rw[List.take_length] at hn
     rw[if_neg (by rw[hn];simp)]
     have gA2:=(hf _ (by omega)).trans gA
     refine go (J4 rTI @h1 @k56 @k57) ?_
     refine ifs ?_ ?_ <;> first | exact nope | intro hb
     by_cases q1:C.length=64
     ·have b2:((C.length:Int)==64)=true:=by rw[q1];rfl
      rw[if_pos q1]
      refine go (J6 rTI @h1 @k7 @gA2 @hLA @b2) ?_
      refine ifs ?_ ?_ <;> first | exact nope | intro hb
      refine go (cj rTI @h1) ?_
      exact hno _ _ (by decide) _ (by omega) (fun i hi=>(hf i (by omega)).trans (xf i hi))
     ·have b2:((C.length:Int)==64)=false:=by rw[Bool.eq_iff_iff];simp;omega
      rw[if_neg q1]
      have f3':=kl_len C
      refine go (J6 rTI @h1 @k7 @gA2 @hLA @b2) ?_
      refine ifs ?_ ?_ <;> first | exact nope | intro hb
      refine aw_skip ?_
      rw[then_normal]
      have ly:(KL C).length=C.length*8:=kl_len C
      refine aw_seq ?_
      refine aw_drwR (.take 0 (.take 1 (.take 2 (.take 3 (.take 4 (.one 5 (.one 6 (.done)))))))) 7 [8] [A,s.nx+1] (by kernel_rfl) (by kernel_rfl) fun K hK=>?_;refine dt (J11 rTI @h1 @k5 @k7 @gA2 @hLA @lLA @gc2 @gy @f3' @zrow_eig) ?_;refine hK _ _ ?_;clear hK K
      rw[then_normal]
      generalize hs3:(((s2.push _).kill ic).push _).set A _=s3
      have v3:s3.get (s2.nx+1)=some (KL (C++[y])):=by
       have kc:KL (C++[y])=KL C++crdL y:=by unfold KL;rw[List.flatMap_append];simp
       rw[kc,←hs3]
       unfold crdL SV TV NV IV iv
       exact stz
      have vA:s3.get A=some (LA.set oa (.own (s2.nx+1) 0 (C.length+1) 8)):=by rw[←hs3];exact St.set_same _ _ _
      have vn:s3.nx=s2.nx+1+1:=by rw[←hs3];rfl
      have vf:∀ i,i<s'.nx→i≠A→i≠ic→s3.get i=s'.get i:=fun i hi h h'=>by
       refine Eq.trans ?_ (hf i hi)
       rw[←hs3];exact stz
      have vl:=(vf s.nx (by omega) (by omega) (by omega)).trans xl
      have vL:=(vf il (by omega) n1.2.2.2.1 (Ne.symm n1.2.2.1)).trans gL
      have hB':∃ LB',s3.get B=some LB'∧(LB'.drop ob).head?=some (.own il 0 Pl.length 1)∧ob<LB'.length∧(p.inside=false→LB'=LA.set oa (.own (s2.nx+1) 0 (C.length+1) 8))∧(p.inside=true→LB'=LB):=by
       cases hq:p.inside with
       | false=>
        obtain⟨rfl,rfl,rfl,rfl,rfl,rfl,rfl⟩:=hi hq
        refine⟨_,vA,?_,?_,fun _=>rfl,fun h=>(by cases h)⟩
        ·obtain rfl:LB=LA:=Option.some.inj (gB.symm.trans gA)
         rw[List.head?_drop] at hLB ⊢
         rw[List.getElem?_set_ne (by omega)]
         exact hLB
        ·obtain rfl:LB=LA:=Option.some.inj (gB.symm.trans gA)
         rw[List.length_set]
         exact lLB
       | true=>
        obtain⟨rfl,rfl,rfl,rfl,rfl,rfl,rfl⟩:=ho hq
        have hx:=hp.bx
        rw[show nb p=8 from if_pos hq] at hx
        refine⟨LB,(vf _ (by omega) (hx.ne 5 2 (by omega) (by omega) (by omega)) (hx.ne 5 6 (by omega) (by omega) (by omega))).trans gB,hLB,lLB,fun h=>(by cases h),fun _=>rfl⟩
      obtain⟨LB',wB,hLB',lLB',wi,wo⟩:=hB'
      have f9:(IL Pl).length=Pl.length:=by unfold IL;rw[List.length_map]
      have hpb:Pl.length≤64:=by
       cases hq:p.inside with
       | false => 
        obtain⟨rfl,rfl,rfl,rfl,rfl,rfl,rfl⟩:=hi hq
        rw[hr.pl];exact hr.cl
       | true=>
        obtain⟨rfl,rfl,rfl,rfl,rfl,rfl,rfl⟩:=ho hq
        rw[last_len hr,←show C=lastC p by rw[hC];unfold openL;rw[if_pos hq];rfl]
        exact hcl
      clear hs3 gc2 gy gA2 gL hf
      refine aw_seq ?_
      refine aw_drwR (.take 0 (.take 1 (.take 2 (.take 3 (.take 4 (.take 5 (.one 6 (.one 7 (.done))))))))) 8 [9] [B,s.nx] (by kernel_rfl) (by kernel_rfl) fun K hK=>?_;refine dt (J10 rTI @h1 @k3 @k8 @wB @hLB' @lLB' @vL @vl @f9) ?_;refine hK _ _ ?_;clear hK K
      rw[then_normal]
      refine go (cj rTI @h1) ?_
      generalize hs5:(((s3.push _).kill il).push _).set B _=s5
      have zB:s5.get B=some (LB'.set ob (.own (s3.nx+1) 0 (Pl.length+1) 1)):=by rw[←hs5];exact St.set_same _ _ _
      have zp:s5.get (s3.nx+1)=some (IL (Pl++[at'])):=by
       rw[show IL (Pl++[at'])=IL Pl++[.v (.int .i64 at')] from List.map_append,←hs5]
       exact stz
      have zc:=(show s5.get (s2.nx+1)=s3.get (s2.nx+1) by rw[←hs5];exact stz).trans v3
      have zf:∀ i,i<s.nx→i≠A→i≠ic→i≠B→i≠il→s5.get i=s.get i:=fun i hi h1 h2 h3 h4=>by
       refine Eq.trans ?_ ((vf i (by omega) h1 h2).trans (xf i hi))
       rw[←hs5];exact stz
      have zA:A≠B→s5.get A=some (LA.set oa (.own (s2.nx+1) 0 (C.length+1) 8)):=fun h=>by
       refine Eq.trans ?_ vA
       rw[←hs5];exact stz
      have zn:s5.nx=s3.nx+1+1:=by rw[←hs5];rfl
      clear hs5
      by_cases hq2:p.inside=false
      case pos=>
       have hq:=hq2
       obtain⟨rfl,rfl,rfl,rfl,rfl,rfl,rfl⟩:=hi hq
       have hCc:C=p.c.cards:=by rw[hC];unfold openL;rw[if_neg (by rw[hq];simp)]
       have hLAe:=Option.some.inj (gA.symm.trans u0)
       rw[wi hq,hLAe,hCc] at zB
       rw[hCc] at zc
       rw[if_neg (by rw[hq];simp)]
       refine⟨rfl,by omega,fun i h hne=>zf i h (hne 0 (by omega)) (hne 3 (by omega)) (hne 0 (by omega)) (hne 4 (by omega)),fun _=>⟨bu (bu b 3 (s2.nx+1)) 4 (s3.nx+1),rfl,PS.out hp hq y at' (s2.nx+1) (s3.nx+1) (by omega) (by omega) (by omega) ?_ zc zp (fun i h h1 h2 h3=>zf i h h1 h2 h1 h3)⟩⟩
       rw[zB];rfl
      case neg=>
       have hq:p.inside=true:=by simpa using hq2
       obtain⟨rfl,rfl,rfl,rfl,rfl,rfl,rfl⟩:=ho hq
       have hx:=hp.bx
       rw[show nb p=8 from if_pos hq] at hx
       have hCc:C=lastC p:=by rw[hC];unfold openL;rw[if_pos hq];rfl
       have zA':=zA (hx.ne 2 5 (by omega) (by omega) (by omega))
       have hpl:p.subPl.length=p.c.subs.length:=by
        have:=congrArg List.length hr.ps
        rwa [List.length_map,List.length_map] at this
       have h2:=(xf _ (hx.hi 2 (by omega))).trans hp.h2
       have h5:=(xf _ (hx.hi 5 (by omega))).trans hp.h5
       unfold subsL at h2
       unfold plsL at h5
       rw[if_pos hq] at h2 h5
       rw[Option.some.inj (gA.symm.trans h2),List.set_set,hCc] at zA'
       rw[wo hq,Option.some.inj (gB.symm.trans h5),hpl,List.set_set] at zB
       rw[hCc] at zc
       rw[if_pos hq]
       have n8:nb p=8:=if_pos hq
       refine⟨rfl,by omega,fun i h hne=>zf i h (hne 2 (by omega)) (hne 6 (by omega)) (hne 5 (by omega)) (hne 7 (by omega)),fun _=>⟨bu (bu b 6 (s2.nx+1)) 7 (s3.nx+1),rfl,PS.inn hp hq (hin hq) hpl y at' (s2.nx+1) (s3.nx+1) (by omega) (by omega) (by omega) zA' (by rw[hpl];exact zB) zc zp (fun i h h1 h2 h3 h4=>zf i h h1 h3 h2 h4)⟩⟩
 ·have c1:(ev != 0)=true:=by simpa using hev
  rw[if_pos hev]
  refine acall_of Tryz.func88 rfl rfl (by simp [Tryz.ntmps88]) ?_;rw[Tryz.ntmps88,Tryz.results88]
  refine go rTI ?_
  refine aw_reg fun K hK=>?_;refine rn rTI ?_;refine cont_pure pr ?_;refine rn rTI ?_;refine hK _ _ ?_;clear hK K
  refine go (cj rTI @c1) ?_
  refine ifs ?_ ?_ <;> first | exact nope | intro hb
  refine go rTI ?_
  exact hno _ _ hev _ (by simp only[nx_s,nx_p];omega) (fun i hi=>stz)
end NetAC
namespace NetW
open Go Go.RowKit Ax Ti NumS NumT CardS CardP CardA CardB CardE CardG CardI CardJ CardK CardL CardX NetS NetA NetE NetF
theorem nv_free (l:List Num):idf (NV l)=true:=(idfL_iff _).2 fun w hw=>by
 unfold NC at hw
 obtain⟨q,_,hw⟩:=List.mem_flatMap.1 hw
 simp only[List.mem_cons,List.not_mem_nil,or_false] at hw
 rcases hw with rfl | rfl <;> rfl
theorem iv_free (l:List Int):idf (IV l)=true:=(idfL_iff _).2 fun w hw=>by
 unfold IL at hw
 obtain⟨q,_,rfl⟩:=List.mem_map.1 hw
 rfl
theorem kv_idf (l:List Crd):idf (KV l)=true:=(idfL_iff _).2 fun z hz=>by
 unfold KL at hz
 obtain⟨x,_,hz⟩:=List.mem_flatMap.1 hz
 unfold crdL at hz
 simp only[List.mem_cons,List.not_mem_nil,or_false] at hz
 rcases hz with rfl | rfl | rfl | rfl | rfl | rfl | rfl | rfl
 ·rfl
 ·exact tv_idf _
 ·rfl
 ·rfl
 ·rfl
 ·rfl
 ·exact nv_free _
 ·exact iv_free _
end NetW
namespace NetAD
open Go Go.RowKit Ax Ti NumS NumT CardS CardP CardA CardB CardE CardG CardI CardJ CardK CardL CardN CardX NetS NetA NetE NetM NetN NetQ NetT NetAA NetAB NetAC NetF NetJ
theorem PS.mono {n0:Nat} {s s':St} {b:Nat→Nat} {p:Par} (h:PS n0 s b p) (hn:s.nx≤s'.nx) (hf:∀ i,i<s.nx→s'.get i=s.get i):PS n0 s' b p:=by
 have n6:=nb_six p
 have hx:=h.bx
 exact⟨hx.mono hn,(hf _ (hx.hi 0 (by omega))).trans h.h0,(hf _ (hx.hi 1 (by omega))).trans h.h1,(hf _ (hx.hi 2 (by omega))).trans h.h2,(hf _ (hx.hi 3 (by omega))).trans h.h3,(hf _ (hx.hi 4 (by omega))).trans h.h4,(hf _ (hx.hi 5 (by omega))).trans h.h5,
  fun hi=>(hf _ (hx.hi 6 (by rw[show nb p=8 from if_pos hi];omega))).trans (h.h6 hi),fun hi=>(hf _ (hx.hi 7 (by rw[show nb p=8 from if_pos hi];omega))).trans (h.h7 hi)⟩
theorem PR.from {n0:Nat} {s s1 s':St} {b:Nat→Nat} {p:Par} {q:Par × Int} (h:PR n0 s1 s' b p q) (hn:s.nx≤s1.nx) (hf:∀ i,i<s.nx→s1.get i=s.get i):PR n0 s s' b p q:=
 ⟨Nat.le_trans hn h.1,fun i hi hne=>(h.2.1 i (Nat.lt_of_lt_of_le hi hn) hne).trans (hf i hi),h.2.2⟩
structure Lists (p p':Par):Prop where
 m:p'.c.models=p.c.models
 u:p'.c.subs=p.c.subs
 c:p'.c.cards=p.c.cards
 i:p'.inside=p.inside
 pl:p'.places=p.places
 sp:p'.subPl=p.subPl
theorem PS.flag {n0:Nat} {s s':St} {b:Nat→Nat} {p p':Par} (h:PS n0 s b p) (hl:Lists p p') (hn:s.nx≤s'.nx)
  (g0:s'.get (b 0)=some (PC p' (.own (b 1) 0 p.c.models.length 4) (.own (b 2) 0 p.c.subs.length 3) (.own (b 3) 0 p.c.cards.length 8) (.own (b 4) 0 p.places.length 1) (.own (b 5) 0 p.subPl.length 1)))
  (hf:∀ i,i<s.nx→i≠b 0→s'.get i=s.get i):PS n0 s' b p':=by
 have n6:=nb_six p
 have hx:=h.bx
 have e1:nb p'=nb p:=by unfold nb;rw[hl.i]
 have e2:lastC p'=lastC p:=by unfold lastC;rw[hl.u]
 have e3:lastP p'=lastP p:=by unfold lastP;rw[hl.sp]
 have kp:=fun i (g:i<nb p) (g0:i≠0)=>hf _ (hx.hi i g) (hx.ne i 0 g (by omega) g0)
 refine⟨by rw[e1];exact hx.mono hn,?_,?_,?_,?_,?_,?_,fun hi=>?_,fun hi=>?_⟩
 ·rw[hl.m,hl.u,hl.c,hl.pl,hl.sp];exact g0
 ·rw[hl.m];exact(kp 1 (by omega) (by omega)).trans h.h1
 ·have:=(kp 2 (by omega) (by omega)).trans h.h2
  unfold subsL at *
  rw[hl.i,hl.u,e2];exact this
 ·rw[hl.c];exact(kp 3 (by omega) (by omega)).trans h.h3
 ·rw[hl.pl];exact(kp 4 (by omega) (by omega)).trans h.h4
 ·have:=(kp 5 (by omega) (by omega)).trans h.h5
  unfold plsL at *
  rw[hl.i,hl.sp,e3];exact this
 ·rw[hl.i] at hi
  rw[e2];exact(kp 6 (by rw[show nb p=8 from if_pos hi];omega) (by omega)).trans (h.h6 hi)
 ·rw[hl.i] at hi
  rw[e3];exact(kp 7 (by rw[show nb p=8 from if_pos hi];omega) (by omega)).trans (h.h7 hi)
theorem PS.model {n0:Nat} {s s':St} {b:Nat→Nat} {p p':Par} (h:PS n0 s b p) (im:Nat) (hu:p'.c.subs=p.c.subs∧p'.c.cards=p.c.cards∧p'.inside=p.inside∧p'.places=p.places∧p'.subPl=p.subPl)
  (g:MS s s' (b 0) (b 1) im p p' (.own (b 2) 0 p.c.subs.length 3) (.own (b 3) 0 p.c.cards.length 8) (.own (b 4) 0 p.places.length 1) (.own (b 5) 0 p.subPl.length 1)):∃ b',b' 0=b 0∧PS n0 s' b' p':=by
 have n6:=nb_six p
 have hx:=h.bx
 have hn:=h.n
 obtain⟨hu1,hu2,hu3,hu4,hu5⟩:=hu
 have e1:nb p'=nb p:=by unfold nb;rw[hu3]
 have e2:lastC p'=lastC p:=by unfold lastC;rw[hu1]
 have e3:lastP p'=lastP p:=by unfold lastP;rw[hu5]
 have kp:=fun i (q:i<nb p) (q0:i≠0) (q1:i≠1)=>g.f _ (hx.hi i q) (hx.ne i 0 q (by omega) q0) (hx.ne i 1 q (by omega) q1)
 have bx':Bx (nb p) n0 s'.nx (bu b 1 im):=by
  rcases g.o.1 with e | e
  ·have:bu b 1 im=b:=by
    funext j
    unfold bu
    split
    ·rename_i q;rw[q,e]
    ·rfl
   rw[this]
   exact hx.mono g.n
  ·exact hx.upd 1 im e g.o.2.1 hn
 refine⟨bu b 1 im,rfl,by rw[e1];exact bx',?_,?_,?_,?_,?_,?_,fun hi=>?_,fun hi=>?_⟩
 ·rw[hu1,hu2,hu4,hu5];exact g.hp
 ·exact g.hm
 ·have:=(kp 2 (by omega) (by omega) (by omega)).trans h.h2
  unfold subsL at *
  rw[hu3,hu1,e2];exact this
 ·rw[hu2];exact(kp 3 (by omega) (by omega) (by omega)).trans h.h3
 ·rw[hu4];exact(kp 4 (by omega) (by omega) (by omega)).trans h.h4
 ·have:=(kp 5 (by omega) (by omega) (by omega)).trans h.h5
  unfold plsL at *
  rw[hu3,hu5,e3];exact this
 ·rw[hu3] at hi
  rw[e2];exact(kp 6 (by rw[show nb p=8 from if_pos hi];omega) (by omega) (by omega)).trans (h.h6 hi)
 ·rw[hu3] at hi
  rw[e3];exact(kp 7 (by rw[show nb p=8 from if_pos hi];omega) (by omega) (by omega)).trans (h.h7 hi)
theorem frzL_map (i:Nat) (c:List AV):∀ l:List AV,frz.frzL i c l=l.map (frz i c)
 | []=>rfl
 | a::l=>by rw[List.map_cons,←frzL_map i c l];rfl
theorem map_idf (i:Nat) (c:List AV) (l:List AV) (h:idf.idfL l=true):l.map (frz i c)=l:=by
 conv=>rhs;rw[←List.map_id l]
 exact List.map_congr_left fun z hz=>frz_idf i c z ((idfL_iff l).1 h z hz)
theorem set_self {α:Type} (l:List α) (i:Nat) (x:α) (h:l[i]?=some x):l.set i x=l:=by
 apply List.ext_getElem?
 intro j
 by_cases e:i=j
 ·subst e
  obtain⟨hl,_⟩:=List.getElem?_eq_some_iff.1 h
  rw[List.getElem?_set_self hl,h]
 ·rw[List.getElem?_set_ne e]
theorem ul_idf (l:List Sub):idf.idfL (UL l)=true:=(idfL_iff _).2 fun z hz=>by
 unfold UL at hz
 obtain⟨x,_,hz⟩:=List.mem_flatMap.1 hz
 unfold subL at hz
 simp only[List.mem_cons,List.not_mem_nil,or_false] at hz
 rcases hz with rfl | rfl | rfl
 ·rfl
 ·exact tv_idf _
 ·exact NetW.kv_idf _
theorem subs_ends {p:Par} (hi:p.inside=true) (hne:p.c.subs≠[]) (i:Nat):frz.frzL i (KL (lastC p)) (subsL p (.own i 0 (lastC p).length 8))=UL p.c.subs:=by
 unfold subsL
 rw[if_pos hi,frzL_map,List.map_set,map_idf _ _ _ (ul_idf _),frz_own,List.drop_zero,List.take_of_length_le (by rw[kl_len];exact Nat.le_refl _)]
 refine set_self _ _ _ ?_
 unfold lastC
 rcases List.eq_nil_or_concat p.c.subs with e | ⟨I,z,e⟩
 ·exact absurd e hne
 ·rw[List.concat_eq_append] at e
  rw[e]
  have hl:(I.flatMap subL).length=I.length*3:=ul_len I
  simp only[List.getLast?_append,List.getLast?_singleton,Option.some_or,Option.map_some,Option.getD_some]
  unfold UL
  rw[List.flatMap_append,List.length_append,List.length_singleton,Nat.add_sub_cancel,List.getElem?_append_right (by omega),hl,Nat.add_sub_cancel_left]
  rfl
theorem pls_ends {p:Par} (hi:p.inside=true) (hne:p.subPl≠[]) (i:Nat):frz.frzL i (IL (lastP p)) (plsL p (.own i 0 (lastP p).length 1))=p.subPl.map IV:=by
 unfold plsL
 rw[if_pos hi,frzL_map,List.map_set,map_idf _ _ _ (by
  rw[idfL_iff]
  intro z hz
  obtain⟨l,_,rfl⟩:=List.mem_map.1 hz
  exact il_idf l),frz_own,List.drop_zero,List.take_of_length_le (by unfold IL;rw[List.length_map];omega)]
 refine set_self _ _ _ ?_
 unfold lastP
 rcases List.eq_nil_or_concat p.subPl with e | ⟨I,z,e⟩
 ·exact absurd e hne
 ·rw[List.concat_eq_append] at e
  rw[e]
  simp only[List.getLast?_append,List.getLast?_singleton,Option.some_or,Option.getD_some]
  rw[List.map_append,List.length_append,List.length_singleton,Nat.add_sub_cancel,List.getElem?_append_right (by rw[List.length_map];omega),List.length_map,Nat.sub_self]
  rfl
theorem PS.ends {n0:Nat} {s s':St} {b:Nat→Nat} {p:Par} (h:PS n0 s b p) (hi:p.inside=true) (hne:p.c.subs≠[]) (hpl:p.subPl.length=p.c.subs.length) (hn:s.nx≤s'.nx)
  (g0:s'.get (b 0)=some (PC { p with inside:=false } (.own (b 1) 0 p.c.models.length 4) (.own (b 2) 0 p.c.subs.length 3) (.own (b 3) 0 p.c.cards.length 8) (.own (b 4) 0 p.places.length 1) (.own (b 5) 0 p.subPl.length 1)))
  (g2:s'.get (b 2)=some (UL p.c.subs)) (g5:s'.get (b 5)=some (p.subPl.map IV))
  (hf:∀ i,i<s.nx→i≠b 0→i≠b 2→i≠b 5→i≠b 6→i≠b 7→s'.get i=s.get i):PS n0 s' b { p with inside:=false }:=by
 have hx:=h.bx
 rw[show nb p=8 from if_pos hi] at hx
 have kp:=fun i (q:i<6) (q0:i≠0) (q2:i≠2) (q5:i≠5)=>hf _ (hx.hi i (by omega)) (hx.ne i 0 (by omega) (by omega) q0) (hx.ne i 2 (by omega) (by omega) q2) (hx.ne i 5 (by omega) (by omega) q5) (hx.ne i 6 (by omega) (by omega) (by omega)) (hx.ne i 7 (by omega) (by omega) (by omega))
 exact⟨(hx.less (by omega:6≤8)).mono hn,g0,(kp 1 (by omega) (by omega) (by omega) (by omega)).trans h.h1,g2,(kp 3 (by omega) (by omega) (by omega) (by omega)).trans h.h3,(kp 4 (by omega) (by omega) (by omega) (by omega)).trans h.h4,g5,fun h=>(by cases h),fun h=>(by cases h)⟩
end NetAD
namespace NetAE
open Go Go.RowKit Ax Ti NumS NumT CardS CardP CardA CardB CardE CardG CardI CardJ CardK CardL CardN CardX NetS NetA NetE NetM NetN NetQ NetT NetAA NetAB NetAC NetAD NetF NetJ
theorem rTI:type_of% (J20 @ti3 @ti2 @ti4 @ti9 @ti5 @ti43 @ti45 @ti44 @ti23 @ti28 @ti89 @ti92 @ti31 @ti94 @Nat.zero_add @tz0 @tz1 @tz3 @Nat.mul_one @Int.toNat_natCast):=cj @ti3 (J19 @ti2 @ti4 @ti9 @ti5 @ti43 @ti45 @ti44 @ti23 @ti28 @ti89 @ti92 @ti31 @ti94 @Nat.zero_add @tz0 @tz1 @tz3 @Nat.mul_one @Int.toNat_natCast)
structure LnOk (l:Line):Prop where
 w:BL l.2
 wl:∀ x∈l.2,x.length≤65536
 n:l.2.length≤64
 h:∃ k r,l.2=k::r∧0<k.length
theorem step_lists (p:Par) (w:Str):Lists p (setStep p w).1:=by
 unfold setStep
 (repeat' split) <;> exact⟨rfl,rfl,rfl,rfl,rfl,rfl⟩
theorem model_lists (p:Par) (w:List Str):(addModel p w).1.c.subs=p.c.subs∧(addModel p w).1.c.cards=p.c.cards∧(addModel p w).1.inside=p.inside∧(addModel p w).1.places=p.places∧(addModel p w).1.subPl=p.subPl:=by
 unfold addModel
 (repeat' split) <;> exact⟨rfl,rfl,rfl,rfl,rfl⟩
theorem by_model {m:Mdl} (h:modelOk m=true):By m.name:=by
 obtain⟨nm,k,g,v⟩:=m
 rw[modelOk_eq] at h
 simp only[Bool.and_eq_true] at h
 exact by_name h.1.1.1
theorem by_readM (w:List Str) (hw:BL w):By (readM w).1.name:=by
 unfold readM
 simp only
 (repeat' split) <;> first | exact bl_at w hw 1 | exact fun c hc=>(by cases hc)
theorem line_ax (s:St) (n0:Nat) (b:Nat→Nat) (p:Par) (l:Line) (hp:PS n0 s b p) (hr:Rt p) (hin:p.inside=true→p.c.subs≠[]) (hl:LnOk l) :
  ACall Tryz.prog 46 [.ptr (b 0) 0,LA l] s fun r' s'=>r'=.v (.int .i64 (lineN p l).2)∧PR n0 s s' b p (lineN p l):=by
 have hno:=fun (q:Par) (e:Int) (he:e≠0) s'=>PR.no (q:=q) (s':=s') hp he
 obtain⟨hw,hwl,hn,k,r,hk0,hk⟩:=hl
 obtain⟨at',w⟩:=l
 simp only at hw hwl hn hk0
 subst hk0
 have n6:=nb_six p
 have b0:=hp.bx.hi 0 (by omega)
 have hn0:=hp.n
 have hsub:=fun (s1:St) (g:PS n0 s1 b p)=>addSub_ax s1 n0 b p (at',k::r) g hr
 have hcard:=fun (s1:St) (g:PS n0 s1 b p)=>addCard_ax s1 n0 b p (at',k::r) g hr hin hw (fun x hx=>Nat.le_trans (hwl x hx) (by decide)) (by simp only;omega)
 have hord:=fun (s1:St) (g:PS n0 s1 b p)=>order_ax s1 (b 0) p _ _ _ _ _ k r g.h0 (g.bx.hi 0 (by omega)) (hw k (List.mem_cons_self ..)) (by omega)
 have hcnt:=count_ax k r hw (by omega) hk
 have e1:=w_step k (hw k (List.mem_cons_self ..))
 have e2:=w_method k (hw k (List.mem_cons_self ..))
 have e3:=w_model k (hw k (List.mem_cons_self ..))
 have e4:=w_sub k (hw k (List.mem_cons_self ..))
 have e5:=w_ends k (hw k (List.mem_cons_self ..))
 have e6:=w_end k (hw k (List.mem_cons_self ..))
 have hd0:(SL (k::r)).head?=some (.v (.string (bs k))):=rfl
 have hd1:=hd_SL (k::r) 1
 have hS:lineN p (at',k::r)=if orderOk p k=false then (p,80)
   else if countOk (k::r)=false then (p,70)
   else if k=sStep then setStep p ((k::r).getD 1 [])
   else if k=sMethod then setMethod p ((k::r).getD 1 [])
   else if k=sModel then addModel p (k::r)
   else if k=sSub then addSub p (at',k::r)
   else if k=sEnds then ({ p with inside:=false },0)
   else if k=sEnd then ({ p with ended:=true },0)
   else addCard p (at',k::r):=rfl
 have hc0:=countOk_cons k r
 have hns:=addSub_ax
 unfold TV at hord hcnt
 unfold LA TV at *
 have hb1:=bl_at (k::r) hw 1
 generalize hW:k::r=w at *
 obtain⟨n,hn2⟩:∃ n,n=w.length:=⟨_,rfl⟩
 have hn1:1≤n:=by rw[hn2,←hW,List.length_cons];omega
 simp only at *
 rw[←hn2] at hn hd1 ⊢
 generalize lineN p (at',w)=Z at *
 clear hns
 refine acall_of Tryz.func46 rfl rfl (by simp [Tryz.ntmps46]) ?_;rw[Tryz.ntmps46,Tryz.results46]
 refine go rTI ?_
 generalize hs1:s.push _=s1
 have xl:s1.get s.nx=some [.v (.int .i64 at'),.sl n (SL w)]:=by rw[←hs1];exact St.push_same _ _
 have xn:s1.nx=s.nx+1:=by rw[←hs1];rfl
 have xf:∀ i,i<s.nx→s1.get i=s.get i:=fun i hi=>by rw[←hs1];exact stz
 have xp:=PS.mono hp (by omega:s.nx≤s1.nx) xf
 have ho:ACall Tryz.prog 83 [.ptr (b 0) 0,.sl n (SL w)] s1 fun r' s'=>r'=.v (.bool (orderOk p k))∧s'=s1:=by rw[hn2];exact hord s1 xp
 have hcnt:PCall Tryz.prog 84 [.sl n (SL w)] (.v (.bool (countOk w))):=by rw[hn2];exact hcnt
 clear hs1 hord
 cases hq:orderOk p k with
 | false=>
  rw[hq] at ho
  rw[if_pos hq] at hS
  subst hS
  refine aw_reg fun K hK=>?_;refine rn rTI ?_;refine cont_go ho ?_;rintro _ s2 ⟨rfl,hs2⟩;subst s2;refine rn rTI ?_;refine hK _ _ ?_;clear hK K
  refine ifs ?_ ?_ <;> first | exact nope | intro hb
  refine go rTI ?_
  exact hno _ _ (by decide) _ (by omega) xf
 | true=>
  rw[hq] at ho
  rw[if_neg (by rw[hq];simp)] at hS
  refine aw_reg fun K hK=>?_;refine rn rTI ?_;refine cont_go ho ?_;rintro _ s2 ⟨rfl,hs2⟩;subst s2;refine rn rTI ?_;refine hK _ _ ?_;clear hK K
  cases hc:countOk w with
  | false=>
   rw[hc] at hcnt
   rw[if_pos hc] at hS
   subst hS
   refine ifs ?_ ?_ <;> first | exact nope | intro hb
   refine go rTI ?_
   refine aw_reg fun K hK=>?_;refine rn rTI ?_;refine cont_pure hcnt ?_;refine rn rTI ?_;refine hK _ _ ?_;clear hK K
   refine ifs ?_ ?_ <;> first | exact nope | intro hb
   refine go rTI ?_
   exact hno _ _ (by decide) _ (by omega) xf
  | true=>
   rw[hc] at hcnt
   rw[if_neg (by rw[hc];simp)] at hS
   refine ifs ?_ ?_ <;> first | exact nope | intro hb
   refine go rTI ?_
   refine aw_reg fun K hK=>?_;refine rn rTI ?_;refine cont_pure hcnt ?_;refine rn rTI ?_;refine hK _ _ ?_;clear hK K
   refine ifs ?_ ?_ <;> first | exact nope | intro hb
   refine aw_skip ?_
   rw[then_normal]
   rw[hc] at hc0
   have f0:=xp.h0
   unfold PC at f0
   by_cases k0:k=sStep
   ·rw[decide_eq_true k0] at e1
    rw[if_pos k0] at hS hc0
    have q2:n=2:=by rw[hn2];simpa using hc0.symm
    have hd1:=hd1 (by omega)
    subst hS
    have hs:=setStep_ax s1 (b 0) p _ _ _ _ _ (w.getD 1 []) xp.h0 (xp.bx.hi 0 (by omega)) hb1
    unfold SV at hs hd1
    refine go (J3 rTI @hd0 @e1) ?_
    refine ifs ?_ ?_ <;> first | exact nope | intro hb
    refine go rTI ?_
    refine aw_reg fun K hK=>?_;refine rn (cj rTI @hd1) ?_;refine cont_go hs ?_;rintro _ s2 ⟨rfl,v1,v2,v3⟩;refine rn (cj rTI @hd1) ?_;refine hK _ _ ?_;clear hK K
    refine go rTI ?_
    refine⟨by omega,fun i hi hne=>(v3 i (by omega) (hne 0 (by omega))).trans (xf i hi),fun _=>⟨b,rfl,PS.flag xp (step_lists p _) v2 v1 v3⟩⟩
   rw[decide_eq_false k0] at e1
   rw[if_neg k0] at hS hc0
   by_cases k1:k=sMethod
   ·rw[decide_eq_true k1] at e2
    rw[if_pos k1] at hS hc0
    have q2:n=2:=by
     rw[hn2]
     have:=hc0.symm
     rw[Bool.and_eq_true,decide_eq_true_iff] at this
     exact this.1
    have hd1:=hd1 (by omega)
    have g1:=w_trap (w.getD 1 []) hb1
    unfold setMethod at hS
    unfold SV at hd1
    by_cases hm:p.method=true
    ·rw[if_pos hm] at hS
     subst hS
     rw[hm] at f0
     refine go (J3 rTI @hd0 @e1) ?_
     refine ifs ?_ ?_ <;> first | exact nope | intro hb
     refine go (cj rTI @e2) ?_
     refine ifs ?_ ?_ <;> first | exact nope | intro hb
     refine go (cj rTI @f0) ?_
     refine ifs ?_ ?_ <;> first | exact nope | intro hb
     refine go rTI ?_
     exact hno _ _ (by decide) _ (by omega) xf
    ·rw[if_neg hm] at hS
     have hm:p.method=false:=by simpa using hm
     rw[hm] at f0
     by_cases hq3:w.getD 1 []=sTrap
     ·rw[decide_eq_true hq3] at g1
      rw[if_pos hq3] at hS
      subst hS
      refine go (J3 rTI @hd0 @e1) ?_
      refine ifs ?_ ?_ <;> first | exact nope | intro hb
      refine go (cj rTI @e2) ?_
      refine ifs ?_ ?_ <;> first | exact nope | intro hb
      refine go (cj rTI @f0) ?_
      refine ifs ?_ ?_ <;> first | exact nope | intro hb
      refine go (J4 rTI @hd1 @g1 @f0) ?_
      refine ifs ?_ ?_ <;> first | exact nope | intro hb
      refine go (cj rTI @f0) ?_
      refine⟨by simp only[nx_s];omega,fun i hi hne=>(St.set_ne _ _ _ _ (hne 0 (by omega))).trans ((St.set_ne _ _ _ _ (hne 0 (by omega))).trans (xf i hi)),fun _=>⟨b,rfl,PS.flag xp ⟨rfl,rfl,rfl,rfl,rfl,rfl⟩ (by simp only[nx_s];omega) (St.set_same _ _ _) (fun i hi h=>stz)⟩⟩
     ·rw[decide_eq_false hq3] at g1
      rw[if_neg hq3] at hS
      subst hS
      refine go (J3 rTI @hd0 @e1) ?_
      refine ifs ?_ ?_ <;> first | exact nope | intro hb
      refine go (cj rTI @e2) ?_
      refine ifs ?_ ?_ <;> first | exact nope | intro hb
      refine go (cj rTI @f0) ?_
      refine ifs ?_ ?_ <;> first | exact nope | intro hb
      refine go (J4 rTI @hd1 @g1 @f0) ?_
      refine ifs ?_ ?_ <;> first | exact nope | intro hb
      refine go (cj rTI @f0) ?_
      refine⟨by simp only[nx_s];omega,fun i hi hne=>(St.set_ne _ _ _ _ (hne 0 (by omega))).trans (xf i hi),fun _=>⟨b,rfl,PS.flag xp ⟨rfl,rfl,rfl,rfl,rfl,rfl⟩ (by simp only[nx_s];omega) (St.set_same _ _ _) (fun i hi h=>stz)⟩⟩
   rw[decide_eq_false k1] at e2
   rw[if_neg k1] at hS hc0
   by_cases k2:k=sModel
   ·rw[decide_eq_true k2] at e3
    rw[if_pos k2] at hS hc0
    subst hS
    have hm:=addModel_ax s1 (b 0) (b 1) p _ _ _ _ w xp.h0 xp.h1 ⟨xp.bx.hi 0 (by omega),xp.bx.hi 1 (by omega),xp.bx.ne 1 0 (by omega) (by omega) (by omega)⟩ hw (fun x hx=>Nat.le_trans (hwl x hx) (by decide)) (by omega) (fun m hm=>by_model (hr.mo m hm)) (by_readM w hw) hr.ml
    unfold TV at hm
    rw[←hn2] at hm
    refine go (J3 rTI @hd0 @e1) ?_
    refine ifs ?_ ?_ <;> first | exact nope | intro hb
    refine go (cj rTI @e2) ?_
    refine ifs ?_ ?_ <;> first | exact nope | intro hb
    refine go (cj rTI @e3) ?_
    refine ifs ?_ ?_ <;> first | exact nope | intro hb
    refine go rTI ?_
    refine aw_reg fun K hK=>?_;refine rn rTI ?_;refine cont_go hm ?_;rintro _ s2 ⟨im,rfl,v1⟩;refine rn rTI ?_;refine hK _ _ ?_;clear hK K
    refine go rTI ?_
    refine⟨by have:=v1.n;omega,fun i hi hne=>(v1.f i (by omega) (hne 0 (by omega)) (hne 1 (by omega))).trans (xf i hi),fun _=>PS.model xp im (model_lists p w) v1⟩
   rw[decide_eq_false k2] at e3
   rw[if_neg k2] at hS hc0
   by_cases k3:k=sSub
   ·rw[decide_eq_true k3] at e4
    rw[if_pos k3] at hS hc0
    subst hS
    have hi:p.inside=false:=by
     unfold orderOk at hq
     split at hq
     ·cases hq
     ·rw[if_pos (.inr (.inr (.inr (.inl k3))))] at hq
      simpa using hq
    have ha:ACall Tryz.prog 87 [.ptr (b 0) 0,.ag [.v (.int .i64 at'),.sl n (SL w)]] s1 fun r' s'=>r'=.v (.int .i64 (addSub p (at',w)).2)∧PR n0 s1 s' b p (addSub p (at',w)):=by
     rw[hn2]
     exact addSub_ax s1 n0 b p (at',w) xp hr hi hw (fun x hx=>Nat.le_trans (hwl x hx) (by decide)) (of_decide_eq_true hc0.symm)
    refine go (J3 rTI @hd0 @e1) ?_
    refine ifs ?_ ?_ <;> first | exact nope | intro hb
    refine go (cj rTI @e2) ?_
    refine ifs ?_ ?_ <;> first | exact nope | intro hb
    refine go (cj rTI @e3) ?_
    refine ifs ?_ ?_ <;> first | exact nope | intro hb
    refine go (cj rTI @e4) ?_
    refine ifs ?_ ?_ <;> first | exact nope | intro hb
    refine go rTI ?_
    refine aw_reg fun K hK=>?_;refine rn (cj rTI @xl) ?_;refine cont_go ha ?_;rintro _ s2 ⟨rfl,v1⟩;refine rn (cj rTI @xl) ?_;refine hK _ _ ?_;clear hK K
    refine go rTI ?_
    exact PR.from v1 (by omega) xf
   rw[decide_eq_false k3] at e4
   rw[if_neg k3] at hS hc0
   by_cases k4:k=sEnds
   ·rw[decide_eq_true k4] at e5
    rw[if_pos k4] at hS
    have hi:p.inside=true:=by
     unfold orderOk at hq
     split at hq
     ·cases hq
     ·have h5:¬(k=sStep∨k=sMethod∨k=sModel∨k=sSub∨k=sEnd):=by rw[k4];decide
      rw[if_neg h5] at hq
      exact hq
    subst hS
    refine go (J3 rTI @hd0 @e1) ?_
    refine ifs ?_ ?_ <;> first | exact nope | intro hb
    refine go (cj rTI @e2) ?_
    refine ifs ?_ ?_ <;> first | exact nope | intro hb
    refine go (cj rTI @e3) ?_
    refine ifs ?_ ?_ <;> first | exact nope | intro hb
    refine go (cj rTI @e4) ?_
    refine ifs ?_ ?_ <;> first | exact nope | intro hb
    refine go (cj rTI @e5) ?_
    refine ifs ?_ ?_ <;> first | exact nope | intro hb
    have hx:=xp.bx
    rw[show nb p=8 from if_pos hi] at hx
    have hne:=hin hi
    have hpl:p.subPl.length=p.c.subs.length:=by
     have:=congrArg List.length hr.ps
     rwa [List.length_map,List.length_map] at this
    have hne2:p.subPl≠[]:=fun h=>hne (List.length_eq_zero_iff.1 (by rw[←hpl,h];rfl))
    have c06:=hx.ne 0 6 (by omega) (by omega) (by omega)
    have c07:=hx.ne 0 7 (by omega) (by omega) (by omega)
    have c02:=hx.ne 0 2 (by omega) (by omega) (by omega)
    have c05:=hx.ne 0 5 (by omega) (by omega) (by omega)
    have c26:=hx.ne 2 6 (by omega) (by omega) (by omega)
    have c27:=hx.ne 2 7 (by omega) (by omega) (by omega)
    have c25:=hx.ne 2 5 (by omega) (by omega) (by omega)
    have c56:=hx.ne 5 6 (by omega) (by omega) (by omega)
    have c57:=hx.ne 5 7 (by omega) (by omega) (by omega)
    have c67:=hx.ne 6 7 (by omega) (by omega) (by omega)
    refine aw_freeze2 (b 6) (KL (lastC p)) (xp.h6 hi) (fun i=>i==b 2) fun e1 s2 m1 m2 m3 m4=>?_
    have v1:e1.n=65:=m1
    have v0:e1.m 0=.ptr (b 0) 0:=(m2 0).trans (frz_ptr_ne _ _ _ _ c06)
    have w2:s2.get (b 2)=some (UL p.c.subs):=by rw[m4,if_neg c26,if_pos (by simp),xp.h2,Option.map_some,subs_ends hi hne]
    have wf:∀ i,i≠b 6→i≠b 2→s2.get i=s1.get i:=fun i h h'=>by rw[m4,if_neg h,if_neg (by simpa using h')]
    clear m1 m2 m4
    refine aw_freeze2 (b 7) (IL (lastP p)) ((wf _ (Ne.symm c67) (Ne.symm c27)).trans (xp.h7 hi)) (fun i=>i==b 5) fun e2 s3 m1 m2 m5 m4=>?_
    have v1:e2.n=65:=m1.trans v1
    have v0:e2.m 0=.ptr (b 0) 0:=(m2 0).trans (by rw[v0];exact frz_ptr_ne _ _ _ _ c07)
    have w5:s3.get (b 5)=some (p.subPl.map IV):=by rw[m4,if_neg c57,if_pos (by simp),wf _ c56 (Ne.symm c25),xp.h5,Option.map_some,pls_ends hi hne2]
    have wg:∀ i,i≠b 6→i≠b 2→i≠b 7→i≠b 5→s3.get i=s1.get i:=fun i h h' h2 h3=>by rw[m4,if_neg h2,if_neg (by simpa using h3)];exact wf i h h'
    have w2:s3.get (b 2)=some (UL p.c.subs):=by rw[m4,if_neg c27,if_neg (by simpa using c25)];exact w2
    have f0:=(wg _ c06 c02 c07 c05).trans f0
    clear m1 m2 m4
    refine go (J4 rTI @v1 @v0 @f0) ?_
    have n8:nb p=8:=if_pos hi
    refine⟨by simp only[nx_s];omega,fun i hi hne=>(St.set_ne _ _ _ _ (hne 0 (by omega))).trans ((wg i (hne 6 (by omega)) (hne 2 (by omega)) (hne 7 (by omega)) (hne 5 (by omega))).trans (xf i hi)),fun _=>⟨b,rfl,PS.ends xp hi hne hpl (by simp only[nx_s];omega) (St.set_same _ _ _) ((St.set_ne _ _ _ _ (Ne.symm c02)).trans w2) ((St.set_ne _ _ _ _ (Ne.symm c05)).trans w5) (fun i hi h0 h2 h5 h6 h7=>(St.set_ne _ _ _ _ h0).trans (wg i h6 h2 h7 h5))⟩⟩
   rw[decide_eq_false k4] at e5
   rw[if_neg k4] at hS
   by_cases k5:k=sEnd
   ·rw[decide_eq_true k5] at e6
    rw[if_pos k5] at hS
    subst hS
    refine go (J3 rTI @hd0 @e1) ?_
    refine ifs ?_ ?_ <;> first | exact nope | intro hb
    refine go (cj rTI @e2) ?_
    refine ifs ?_ ?_ <;> first | exact nope | intro hb
    refine go (cj rTI @e3) ?_
    refine ifs ?_ ?_ <;> first | exact nope | intro hb
    refine go (cj rTI @e4) ?_
    refine ifs ?_ ?_ <;> first | exact nope | intro hb
    refine go (cj rTI @e5) ?_
    refine ifs ?_ ?_ <;> first | exact nope | intro hb
    refine go (cj rTI @e6) ?_
    refine ifs ?_ ?_ <;> first | exact nope | intro hb
    refine go (cj rTI @f0) ?_
    refine⟨by simp only[nx_s];omega,fun i hi hne=>(St.set_ne _ _ _ _ (hne 0 (by omega))).trans (xf i hi),fun _=>⟨b,rfl,PS.flag xp ⟨rfl,rfl,rfl,rfl,rfl,rfl⟩ (by simp only[nx_s];omega) (St.set_same _ _ _) (fun i hi h=>stz)⟩⟩
   rw[decide_eq_false k5] at e6
   rw[if_neg k5] at hS
   subst hS
   have ha:ACall Tryz.prog 88 [.ptr (b 0) 0,.ag [.v (.int .i64 at'),.sl n (SL w)]] s1 fun r' s'=>r'=.v (.int .i64 (addCard p (at',w)).2)∧PR n0 s1 s' b p (addCard p (at',w)):=by
    rw[hn2]
    exact addCard_ax s1 n0 b p (at',w) xp hr hin hw (fun x hx=>Nat.le_trans (hwl x hx) (by decide)) (by simp only;omega)
   refine go (J3 rTI @hd0 @e1) ?_
   refine ifs ?_ ?_ <;> first | exact nope | intro hb
   refine go (cj rTI @e2) ?_
   refine ifs ?_ ?_ <;> first | exact nope | intro hb
   refine go (cj rTI @e3) ?_
   refine ifs ?_ ?_ <;> first | exact nope | intro hb
   refine go (cj rTI @e4) ?_
   refine ifs ?_ ?_ <;> first | exact nope | intro hb
   refine go (cj rTI @e5) ?_
   refine ifs ?_ ?_ <;> first | exact nope | intro hb
   refine go (cj rTI @e6) ?_
   refine ifs ?_ ?_ <;> first | exact nope | intro hb
   refine go rTI ?_
   refine aw_reg fun K hK=>?_;refine rn (cj rTI @xl) ?_;refine cont_go ha ?_;rintro _ s2 ⟨rfl,v1⟩;refine rn (cj rTI @xl) ?_;refine hK _ _ ?_;clear hK K
   refine go rTI ?_
   exact PR.from v1 (by omega) xf
end NetAE
namespace NetO
open Go Go.RowKit Ax Ti NumS NumT CardS CardP CardA CardB CardE CardG CardI CardJ CardK CardL CardX NetS NetA NetE NetF NetM NetN
theorem rTI:type_of% (J24 @ti3 @ti2 @ti4 @ti9 @ti5 @ti43 @ti45 @ti44 @ti23 @ti49 @ti68 @ti51 @ti28 @ti26 @ti24 @ti25 @ti90 @ti89 @ti92 @ti31 @Nat.zero_add @tz0 @tz1 (J3 @tz3 @Nat.mul_one @Int.toNat_natCast)):=cj @ti3 (J24 @ti2 @ti4 @ti9 @ti5 @ti43 @ti45 @ti44 @ti23 @ti49 @ti68 @ti51 @ti28 @ti26 @ti24 @ti25 @ti90 @ti89 @ti92 @ti31 @Nat.zero_add @tz0 @tz1 @tz3 (cj @Nat.mul_one @Int.toNat_natCast))
theorem num6 (a b c d e f:AV):num [a,b,c,d,e,f]=upd (upd (upd (upd (upd (upd noM 0 a) 1 b) 2 c) 3 d) 4 e) 5 f:=by
 funext t
 match t with
 | 0=>rfl
 | 1=>rfl
 | 2=>rfl
 | 3=>rfl
 | 4=>rfl
 | 5=>rfl
 | t+6=>rfl
def lookStep (models:List Mdl) (subs:List Sub) (cards:List Crd) (x:Crd) (a:Int) (b:Int × Int):Int × Int:=if refE x cards models subs≠0∧a<b.1 then (a,refE x cards models subs) else b
theorem lookP_snoc (models:List Mdl) (subs:List Sub) (cards:List Crd):∀ (r:List (Crd × Int)) (x:Crd) (a:Int) (b:Int × Int),lookP models subs cards (r++[(x,a)]) b=lookStep models subs cards x a (lookP models subs cards r b)
 | [],x,a,b=>rfl
 | (y,c)::r,x,a,b=>by
  rw[List.cons_append,lookP,lookP]
  exact lookP_snoc models subs cards r x a _
theorem lookP_take (models:List Mdl) (subs:List Sub) (cards:List Crd) (l:List Crd) (m:List Int) (b:Int × Int) (j:Nat) (hj:j<l.length) (hm:m.length=l.length) :
  lookP models subs cards ((l.zip m).take (j+1)) b=lookStep models subs cards (l.getD j crd0) (m.getD j 0) (lookP models subs cards ((l.zip m).take j) b):=by
 have hz:j<(l.zip m).length:=by rw[List.length_zip];omega
 rw[List.take_succ_eq_append_getElem hz,List.getElem_zip,lookP_snoc,List.getD_eq_getElem?_getD,List.getElem?_eq_getElem hj,List.getD_eq_getElem?_getD,List.getElem?_eq_getElem (by omega)]
 rfl
theorem look2_ax (s:St) (it ip ib ie:Nat) (p:Par) (u c pl sp:AV) (b:Int × Int) (cards:List Crd) (places:List Int) (subs:List Sub) (ht:s.get it=some [.ptr ip 0]) (hi:s.get ip=some (PC p (MV p.c.models) u c pl sp))
  (gb:s.get ib=some [.v (.int .i64 b.1)]) (ge:s.get ie=some [.v (.int .i64 b.2)]) (n1:it≠ib∧it≠ie∧ip≠ib∧ip≠ie∧ib≠ie) (l1:it<s.nx∧ip<s.nx∧ib<s.nx∧ie<s.nx) (hp:places.length=cards.length)
  (hm:∀ m∈p.c.models,By m.name) (hc:∀ o∈cards,By o.name∧By o.ref∧0<o.name.length) (hs:∀ o∈subs,By o.name) (lm:p.c.models.length≤9223372036854775807) (lc:cards.length≤9223372036854775807) (ls:subs.length≤9223372036854775807) :
  ACall Tryz.prog 89 [KV cards,IV places,UV subs,.ptr it 0,.ptr ib 0,.ptr ie 0] s fun r s'=>s'.get ib=some [.v (.int .i64 (lookP p.c.models subs cards (cards.zip places) b).1)]∧s'.get ie=some [.v (.int .i64 (lookP p.c.models subs cards (cards.zip places) b).2)] ∧
   s.nx≤s'.nx∧∀ i,i<s.nx→i≠ib→i≠ie→s'.get i=s.get i:=by
 have hCR:∀ o∈cards,PCall Tryz.prog 74 [CA o,KV cards,MV p.c.models,UV subs] (.v (.int .i64 (refE o cards p.c.models subs))):=fun o ho=>
  ref_ax o cards p.c.models subs (hc o ho).1 (hc o ho).2.2 (hc o ho).2.1 hm (fun o ho=>(hc o ho).1) hs lm lc ls
 obtain⟨n1,n2,n3,n4,n5⟩:=n1
 obtain⟨l1,l2,l3,l4⟩:=l1
 unfold PC at hi
 generalize hMV:MV p.c.models=mv at *
 generalize hUV:UV subs=uv at *
 unfold KV IV at *
 rw[hp]
 refine acall_of Tryz.func89 rfl rfl (by simp [Tryz.ntmps89]) ?_;rw[Tryz.ntmps89,Tryz.results89]
 rw[num6]
 refine go rTI ?_
 refine aw_loop (fun m e s'=>∃ j,m=cards.length-j∧j≤cards.length∧e.n=44∧e.m 0=.sl cards.length (KL cards)∧e.m 1=.sl cards.length (IL places)∧e.m 2=uv∧e.m 3=.ptr it 0∧e.m 4=.ptr ib 0∧e.m 5=.ptr ie 0∧e.m 12=.sl cards.length (KL cards)∧e.m 13=.v (.int .i64 cards.length)∧e.m 14=.v (.int .i64 (j:Nat)) ∧
  s'.get it=some [.ptr ip 0]∧s'.get ip=s.get ip∧s'.get ib=some [.v (.int .i64 (lookP p.c.models subs cards ((cards.zip places).take j) b).1)]∧s'.get ie=some [.v (.int .i64 (lookP p.c.models subs cards ((cards.zip places).take j) b).2)]∧s.nx≤s'.nx ∧
  ∀ i,i<s.nx→i≠ib→i≠ie→s'.get i=s.get i) cards.length ?_ ?_
 ·refine⟨0,by omega,by omega,?_⟩
  (repeat' refine And.intro ?_ ?_) <;> first | exact rfl | exact fnz rTI | skip
  all_goals first | exact ht | exact gb | exact ge | exact Nat.le_refl _ | exact fun i _ _ _=>rfl
 ·rintro m e s' ⟨j,rfl,hj,h1,k0,k1,k2,k3,k4,k5,k12,k13,k14,gt,gi,gb',ge',hx',hf⟩
  rw[hi] at gi
  by_cases hj2:j<cards.length
  ·have f1:=kl_at cards j hj2
   have f3:8≤((KL cards).drop (j*8)).length:=by rw[List.length_drop,kl_len];omega
   have f4:=lookP_take p.c.models subs cards cards places b j hj2 hp
   have f5:=hd_IL places j (by omega)
   have hmj:=hCR _ (getD_mem cards crd0 j hj2)
   generalize cards.getD j crd0=y at f1 f4 hmj
   generalize places.getD j 0=a at f4 f5
   rw[show CA y=.ag (crdL y) from rfl] at hmj
   unfold crdL SV at f1 hmj
   unfold iv at f5
   generalize lookP p.c.models subs cards ((cards.zip places).take j) b=v at *
   unfold lookStep at f4
   generalize refE y cards p.c.models subs=ev at *
   refine go (J4 rTI @h1 @k13 @k14) ?_
   refine ifs ?_ ?_ <;> first | exact nope | intro hb
   refine aw_skip ?_
   refine go (J6 rTI @h1 @k12 @k14 @f1 @f3) ?_
   refine aw_drw (.take 0 (.take 1 (.take 2 (.take 3 (.take 4 (.take 5 (.take 6 (.take 7 (.one 8 (.take 9 (.done))))))))))) [s'.nx,it,ip] (by kernel_rfl) (by kernel_rfl) fun K hK=>?_;refine dr (J7 rTI @h1 @k0 @k2 @k3 @gt @gi) ?_;refine cont_pure hmj ?_;refine dr (J7 rTI @h1 @k0 @k2 @k3 @gt @gi) ?_;refine hK _ _ ?_;clear hK K
   rw[then_normal]
   refine aw_seq ?_
   by_cases q1:ev=0
   ·have b1:(ev != 0)=false:=by rw[q1];rfl
    rw[if_neg (fun g=>g.1 q1)] at f4
    refine aw_drw (.take 0 (.take 1 (.take 2 (.take 3 (.take 4 (.take 5 (.take 6 (.take 7 (.take 8 (.take 9 (.done))))))))))) [ib] (by kernel_rfl) (by kernel_rfl) fun K hK=>?_;refine dr (J3 rTI @h1 @b1) ?_;refine hK _ _ ?_;clear hK K
    refine ifs ?_ ?_ <;> first | exact nope | intro hb
    refine go (J3 rTI @h1 @k14) ?_
    simp only[block_normal,loop_normal]
    refine⟨cards.length-(j+1),by omega,j+1,rfl,by omega,?_⟩
    (repeat' refine And.intro ?_ ?_) <;> first | exact rfl | exact fnz (J11 @h1 @k0 @k1 @k2 @k3 @k4 @k5 @k12 @k13 @k14 @f4) | skip
    ·exact(push_set_ne s' _ _ _ (by omega)).trans gt
    ·exact(push_set_ne s' _ _ _ (by omega)).trans (gi.trans hi.symm)
    ·exact(push_set_ne s' _ _ _ (by omega)).trans (by rw[gb',f4])
    ·exact(push_set_ne s' _ _ _ (by omega)).trans (by rw[ge',f4])
    ·exact Nat.le_succ_of_le hx'
    ·exact fun i hi h h'=>(push_set_ne s' _ _ _ (by omega)).trans (hf i hi h h')
   ·have b1:(ev != 0)=true:=by simpa using q1
    by_cases q2:a<v.1
    ·have b2:decide (a<v.1)=true:=decide_eq_true q2
     rw[if_pos ⟨q1,q2⟩] at f4
     refine aw_drw (.take 0 (.take 1 (.take 2 (.take 3 (.take 4 (.take 5 (.take 6 (.take 7 (.take 8 (.take 9 (.done))))))))))) [ib] (by kernel_rfl) (by kernel_rfl) fun K hK=>?_;refine dr (J8 rTI @h1 @k1 @k4 @gb' @b1 @b2 @f5) ?_;refine hK _ _ ?_;clear hK K
     refine ifs ?_ ?_ <;> first | exact nope | intro hb
     refine go (J9 rTI @h1 @k1 @k4 @k5 @k14 @gb' @ge' @f5) ?_
     simp only[block_normal,loop_normal]
     refine⟨cards.length-(j+1),by omega,j+1,rfl,by omega,?_⟩
     (repeat' refine And.intro ?_ ?_) <;> first | exact rfl | exact fnz (J11 @h1 @k0 @k1 @k2 @k3 @k4 @k5 @k12 @k13 @k14 @f4) | skip
     ·exact(St.set_ne _ _ _ _ n2).trans ((St.set_ne _ _ _ _ n1).trans ((push_set_ne s' _ _ _ (by omega)).trans gt))
     ·exact(St.set_ne _ _ _ _ n4).trans ((St.set_ne _ _ _ _ n3).trans ((push_set_ne s' _ _ _ (by omega)).trans (gi.trans hi.symm)))
     ·exact Nat.le_succ_of_le hx'
     ·exact fun i hi h h'=>(St.set_ne _ _ _ _ h').trans ((St.set_ne _ _ _ _ h).trans ((push_set_ne s' _ _ _ (by omega)).trans (hf i hi h h')))
    ·have b2:decide (a<v.1)=false:=decide_eq_false q2
     rw[if_neg (fun g=>q2 g.2)] at f4
     refine aw_drw (.take 0 (.take 1 (.take 2 (.take 3 (.take 4 (.take 5 (.take 6 (.take 7 (.take 8 (.take 9 (.done))))))))))) [ib] (by kernel_rfl) (by kernel_rfl) fun K hK=>?_;refine dr (J8 rTI @h1 @k1 @k4 @gb' @b1 @b2 @f5) ?_;refine hK _ _ ?_;clear hK K
     refine ifs ?_ ?_ <;> first | exact nope | intro hb
     refine go (J3 rTI @h1 @k14) ?_
     simp only[block_normal,loop_normal]
     refine⟨cards.length-(j+1),by omega,j+1,rfl,by omega,?_⟩
     (repeat' refine And.intro ?_ ?_) <;> first | exact rfl | exact fnz (J11 @h1 @k0 @k1 @k2 @k3 @k4 @k5 @k12 @k13 @k14 @f4) | skip
     ·exact(push_set_ne s' _ _ _ (by omega)).trans gt
     ·exact(push_set_ne s' _ _ _ (by omega)).trans (gi.trans hi.symm)
     ·exact(push_set_ne s' _ _ _ (by omega)).trans (by rw[gb',f4])
     ·exact(push_set_ne s' _ _ _ (by omega)).trans (by rw[ge',f4])
     ·exact Nat.le_succ_of_le hx'
     ·exact fun i hi h h'=>(push_set_ne s' _ _ _ (by omega)).trans (hf i hi h h')
  ·obtain rfl:j=cards.length:=by omega
   have hz:(cards.zip places).take cards.length=cards.zip places:=List.take_of_length_le (by rw[List.length_zip];omega)
   rw[hz] at gb' ge'
   refine go (J4 rTI @h1 @k13 @k14) ?_
   refine ifs ?_ ?_ <;> first | exact nope | intro hb
   refine go (cj rTI @h1) ?_
   exact⟨gb',ge',hx',hf⟩
def PL (l:List (List Int)):AV:=.sl l.length (l.map IV)
def subsP (p:Par) (n:Nat):Int × Int:=
 (List.range n).foldl (fun b k=>lookP p.c.models (p.c.subs.take k) ((p.c.subs.map Sub.cards).getD k []) (((p.c.subs.map Sub.cards).getD k []).zip (p.subPl.getD k [])) b) (1073741824,0)
theorem subsP_succ (p:Par) (n:Nat) (h:n<p.c.subs.length):subsP p (n+1)=lookP p.c.models (p.c.subs.take n) (p.c.subs.getD n sub0).cards ((p.c.subs.getD n sub0).cards.zip (p.subPl.getD n [])) (subsP p n):=by
 unfold subsP
 rw[List.range_succ,List.foldl_append]
 simp only[List.foldl_cons,List.foldl_nil]
 simp [List.getD_eq_getElem?_getD,List.getElem?_eq_getElem h]
theorem refs_ax (s:St) (ip:Nat) (p:Par) (hi:s.get ip=some (PC p (MV p.c.models) (UV p.c.subs) (KV p.c.cards) (IV p.places) (PL p.subPl))) (hid:ip<s.nx) (hB:RefB p.c) (hpl:p.places.length=p.c.cards.length) (hsp:p.subPl.length=p.c.subs.length)
  (hps:∀ k,k<p.c.subs.length→(p.subPl.getD k []).length=(p.c.subs.getD k sub0).cards.length) :
  ACall Tryz.prog 47 [.ptr ip 0] s fun r s'=>r=.tp [.v (.int .i64 (refsP p).1),.v (.int .i64 (refsP p).2)]∧s.nx≤s'.nx∧∀ i,i<s.nx→s'.get i=s.get i:=by
 have hE:refsP p=lookP p.c.models p.c.subs p.c.cards (p.c.cards.zip p.places) (subsP p p.c.subs.length):=rfl
 have hsl:=hB.sl
 rw[hE]
 have hi0:=hi
 unfold PC UV KV PL at hi
 rw[hsp] at hi
 refine acall_of Tryz.func47 rfl rfl (by simp [Tryz.ntmps47]) ?_;rw[Tryz.ntmps47,Tryz.results47]
 refine go (cj rTI @hi) ?_
 refine aw_loop (fun m e s'=>∃ j,m=p.c.subs.length-j∧j≤p.c.subs.length∧e.n=58∧e.m 1=.ptr s.nx 0∧e.m 4=.ptr (s.nx+1) 0∧e.m 5=.ptr (s.nx+1+1) 0∧e.m 6=.fn 89 [.ptr s.nx 0,.ptr (s.nx+1) 0,.ptr (s.nx+1+1) 0] ∧
  e.m 14=.sl p.c.subs.length (UL p.c.subs)∧e.m 15=.v (.int .i64 p.c.subs.length)∧e.m 16=.v (.int .i64 (j:Nat)) ∧
  s'.get s.nx=some [.ptr ip 0]∧s'.get ip=s.get ip∧s'.get (s.nx+1)=some [.v (.int .i64 (subsP p j).1)]∧s'.get (s.nx+1+1)=some [.v (.int .i64 (subsP p j).2)]∧s.nx+1+1<s'.nx∧∀ i,i<s.nx→s'.get i=s.get i) p.c.subs.length ?_ ?_
 ·refine⟨0,by omega,by omega,?_⟩
  (repeat' refine And.intro ?_ ?_) <;> first | exact rfl | exact fnz rTI | skip
  ·exact(St.set_ne _ _ _ _ (by omega)).trans (St.set_same _ _ _)
  ·exact St.set_same _ _ _
  ·exact Nat.lt_succ_self _
 ·rintro m e s' ⟨j,rfl,hj,h1,k1,k4,k5,k6,k14,k15,k16,gt,gi,gb,ge,hx',hf⟩
  have gi0:=gi.trans hi0
  rw[hi] at gi
  by_cases hj2:j<p.c.subs.length
  ·have f1:=ul_at p.c.subs j hj2
   have f3:3≤((UL p.c.subs).drop (j*3)).length:=by rw[List.length_drop,ul_len];omega
   have f4:=subsP_succ p j hj2
   have f6:=ul_take p.c.subs j
   have f7:((p.subPl.map IV).drop j).head?=some (IV (p.subPl.getD j [])):=by
    rw[List.head?_drop,List.getElem?_map,List.getD_eq_getElem?_getD,List.getElem?_eq_getElem (by omega)]
    rfl
   have hY:=hB.so _ (getD_mem p.c.subs sub0 j hj2)
   have hlk:=fun (s1:St) (g0:s1.get s.nx=some [.ptr ip 0]) (g1:s1.get ip=some (PC p (MV p.c.models) (UV p.c.subs) (KV p.c.cards) (IV p.places) (PL p.subPl))) (g2:s1.get (s.nx+1)=some [.v (.int .i64 (subsP p j).1)]) (g3:s1.get (s.nx+1+1)=some [.v (.int .i64 (subsP p j).2)]) (g4:s.nx+1+1<s1.nx)=>
    look2_ax s1 s.nx ip (s.nx+1) (s.nx+1+1) p (UV p.c.subs) (KV p.c.cards) (IV p.places) (PL p.subPl) (subsP p j) (p.c.subs.getD j sub0).cards (p.subPl.getD j []) (p.c.subs.take j) g0 g1 g2 g3 (by omega) (by omega) (hps j hj2) hB.mo hY.2.1 (fun o ho=>(hB.so o (List.mem_of_mem_take ho)).1) hB.ml hY.2.2 (by rw[List.length_take];omega)
   generalize p.c.subs.getD j sub0=y at f1 f4 hY hlk
   generalize p.subPl.getD j []=pl at f4 f7 hlk
   unfold subL SV TV KV at f1
   have hut:UV (p.c.subs.take j)=.sl j ((UL p.c.subs).take (j*3)):=by
    unfold UV
    rw[List.length_take,f6]
    congr 1
    omega
   rw[hut] at hlk
   have hky:KV y.cards=.sl y.cards.length (KL y.cards):=rfl
   rw[hky] at hlk
   have f8:(p.subPl.map IV).length=p.c.subs.length:=by rw[List.length_map,hsp]
   refine go (J4 rTI @h1 @k15 @k16) ?_
   refine ifs ?_ ?_ <;> first | exact nope | intro hb
   refine aw_skip ?_
   refine aw_seq ?_
   refine aw_block ?_
   refine aw_seq ?_
   refine aw_reg fun K hK=>?_;refine rn (J6 rTI @h1 @k14 @k16 @f1 @f3) ?_;refine hK _ _ ?_;clear hK K
   refine aw_drw (.take 0 (.take 1 (.take 2 (.take 3 (.take 4 (.take 5 (.take 6 (.take 7 (.take 8 (.take 9 (.take 10 (.take 11 (.take 12 (.take 13 (.take 14 (.take 15 (.take 16 (.one 17 (.done))))))))))))))))))) [s.nx,ip,s'.nx] (by kernel_rfl) (by kernel_rfl) fun K hK=>?_;refine dr (J9 rTI @h1 @k1 @k6 @gt @gi @f7 @f8 @Nat.sub_zero) ?_;refine cont_go (hlk _ ((push_set_ne s' _ _ _ (by omega)).trans gt) ((push_set_ne s' _ _ _ (by omega)).trans gi0) ((push_set_ne s' _ _ _ (by omega)).trans gb) ((push_set_ne s' _ _ _ (by omega)).trans ge) (Nat.lt_succ_of_lt hx')) ?_
   rintro r s2 ⟨q1,q2,q3,q4⟩
   have q3':s'.nx+1≤s2.nx:=q3
   have r1:=q4 s.nx (show s.nx<s'.nx+1 by omega) (by omega) (by omega)
   have r2:=q4 ip (show ip<s'.nx+1 by omega) (by omega) (by omega)
   have r3:=q4 s'.nx (show s'.nx<s'.nx+1 by omega) (by omega) (by omega)
   refine⟨⟨r1,r2,r3,trivial⟩,hK _ _ ?_⟩
   clear hK K
   refine go (J3 rTI @h1 @k16) ?_
   simp only[block_normal,loop_normal]
   refine⟨p.c.subs.length-(j+1),by omega,j+1,rfl,by omega,?_⟩
   (repeat' refine And.intro ?_ ?_) <;> first | exact rfl | exact fnz (J9 @h1 @k1 @k4 @k5 @k6 @k14 @k15 @k16 @f4) | skip
   ·exact r1.trans ((push_set_ne s' _ _ _ (by omega)).trans gt)
   ·exact r2.trans ((push_set_ne s' _ _ _ (by omega)).trans (gi.trans hi.symm))
   ·rw[q1,f4]
   ·rw[q2,f4]
   ·omega
   ·exact fun i hi=>(q4 i (show i<s'.nx+1 by omega) (by omega) (by omega)).trans ((push_set_ne s' _ _ _ (by omega)).trans (hf i hi))
  ·obtain rfl:j=p.c.subs.length:=by omega
   have hlk:=look2_ax s' s.nx ip (s.nx+1) (s.nx+1+1) p (UV p.c.subs) (KV p.c.cards) (IV p.places) (PL p.subPl) (subsP p p.c.subs.length) p.c.cards p.places p.c.subs gt gi0 gb ge (by omega) (by omega) hpl hB.mo hB.co (fun o ho=>(hB.so o ho).1) hB.ml hB.cl hsl
   have hky:KV p.c.cards=.sl p.c.cards.length (KL p.c.cards):=rfl
   have huy:UV p.c.subs=.sl p.c.subs.length (UL p.c.subs):=rfl
   rw[hky,huy] at hlk
   refine go (J4 rTI @h1 @k15 @k16) ?_
   refine ifs ?_ ?_ <;> first | exact nope | intro hb
   refine go (cj rTI @h1) ?_
   refine aw_drw (.take 0 (.take 1 (.take 2 (.take 3 (.take 4 (.take 5 (.take 6 (.take 7 (.take 8 (.take 9 (.take 10 (.take 11 (.take 12 (.take 13 (.take 14 (.one 15 (.done))))))))))))))))) [s.nx,ip] (by kernel_rfl) (by kernel_rfl) fun K hK=>?_;refine dr (J6 rTI @h1 @k1 @k6 @gt @gi) ?_;refine cont_go hlk ?_
   rintro r s2 ⟨q1,q2,q3,q4⟩
   have r1:=q4 s.nx (by omega) (by omega) (by omega)
   have r2:=q4 ip (by omega) (by omega) (by omega)
   refine⟨⟨r1,r2,trivial⟩,hK _ _ ?_⟩
   clear hK K
   rw[then_normal]
   refine aw_seq ?_
   refine aw_drw (.take 0 (.take 1 (.take 2 (.take 3 (.done))))) [s.nx+1,s.nx+1+1] (by kernel_rfl) (by kernel_rfl) fun K hK=>?_;refine dr (J6 rTI @h1 @k4 @k5 @q1 @q2) ?_;refine hK _ _ ?_;clear hK K
   refine go (cj rTI @h1) ?_
   exact⟨by omega,fun i hi=>(q4 i (by omega) (by omega) (by omega)).trans (hf i hi)⟩
end NetO
namespace Base
open Go.RowKit
structure As (p:Prop):Prop where mk::(out:p)
theorem aside {p:Prop} (h:p):As p:=⟨h⟩
theorem ret_bool {a b:Bool} (h:a=b):Ending.returned (.bool a)=.returned (.bool b):=by rw[h]
theorem own_lower {w:World} {base base':Nat} {e:TypeId} {size n:Nat} {v:Value} {xs:List Value} (h:w.ownsRow base e size v n xs) (hb:base'≤base):w.ownsRow base' e size v n xs:=by
 obtain⟨h1,h2⟩:=h
 refine⟨h1,h2.imp_right ?_⟩
 rintro ⟨g,cap,cur,hv,hg,r⟩
 exact⟨g,cap,cur,hv,by omega,r⟩
theorem below_drewN {B:Nat} {a w:World} (h:Below B a w) (q:Nat):Below B a (w.drewN q):=⟨h.os,h.tape,h.output,h.size,h.block⟩
theorem below_then {w w1 w2:World} (h:Below w.heap.size w w1) (k:Below w1.heap.size w1 w2):Below w.heap.size w w2:=h.trans (k.mono h.size)
theorem below_of_drewN {w w1:World} {q:Nat} (h:Below (w.drewN q).heap.size (w.drewN q) w1):Below w.heap.size w w1:=(below_drewN (Below.refl _ w) q).trans h
end Base
namespace LexA
open Go.RowKit Base
def blankI (r:Int):Bool:=r==9||r==13||r==32
theorem blank_any (r:Int) (w:World) :
  Calls Tryz.prog 118 #[.int .i32 r] w fun e w'=>e=.returned (.bool (blankI r))∧w'=w:=by
 unfold blankI
 by_cases h1:r=9
 ·have c1:(r==9)=true:=beq_iff_eq.mpr h1
  clear h1
  go_enter Tryz.func118,Tryz.ntmps118
  go_wp2
  go_ret
  simp [c1]
 ·have c1:(r==9)=false:=beq_eq_false_iff_ne.mpr h1
  by_cases h2:r=13
  ·have c2:(r==13)=true:=beq_iff_eq.mpr h2
   clear h1 h2
   go_enter Tryz.func118,Tryz.ntmps118
   go_wp2
   go_ret
   simp [c1,c2]
  ·have c2:(r==13)=false:=beq_eq_false_iff_ne.mpr h2
   clear h1 h2
   go_enter Tryz.func118,Tryz.ntmps118
   go_wp2
   go_ret
   simp [c1,c2]
def okB (b:UInt8):Bool:=b==9||b==13||(32≤b&&b≤126)
def cleanL (l:List UInt8):Bool:=l.all okB
theorem cleanL_take (l:List UInt8) (k:Nat) (h:k<l.length) (h1:cleanL (l.take k)=true):cleanL (l.take (k+1))=okB (l.getD k 0):=by
 unfold cleanL at *
 rw[List.take_succ_eq_append_getElem h,List.all_append,h1]
 simp [List.getD,h]
theorem cleanL_false (l:List UInt8) (k:Nat) (h:k<l.length) (h1:okB (l.getD k 0)=false):cleanL l=false:=by
 unfold cleanL
 rw[List.all_eq_false]
 refine⟨l[k],List.getElem_mem h,?_⟩
 simpa [List.getD,h] using h1
theorem okB_iff (b:UInt8):okB b=true↔((b.toNat:Int)=9∨(b.toNat:Int)=13∨(32≤(b.toNat:Int)∧(b.toNat:Int)≤126)):=by
 unfold okB
 simp [UInt8.le_iff_toNat_le,←UInt8.toNat_inj]
 omega
set_option maxHeartbeats 1000000 in
theorem clean_any (s:ByteArray) (w:World) (hs:s.size≤65536) :
  Calls Tryz.prog 81 #[.string s] w fun e w'=>e=.returned (.bool (cleanL s.data.toList))∧Below w.heap.size w w':=by
 have hconv:=fun w:World=>Lib.run_convert_string_bytes (P:=Tryz.prog) w 9 53 5 s Tryz.underlying9 Tryz.underlying53 Tryz.underlying5
 have hB:Below w.heap.size w (Lib.bytesWorld w 5 s):=⟨rfl,rfl,rfl,by rw[Lib.bytesWorld_size];omega,fun k hk=>Lib.bytesWorld_at_old w _ s k hk⟩
 have hcell:=Lib.bytesWorld_cell w 5 s
 have HB:=aside hB
 have HC:=aside hcell
 clear hB hcell
 go_enter Tryz.func81,Tryz.ntmps81
 go_wp2
 generalize Lib.bytesWorld w 5 s=W at *
 go_loop [8] (fun i=>∃ k:Nat,k≤s.size∧i=.int .i64 k∧As (cleanL (s.data.toList.take k)=true)) (fun i=>s.size-(intOf i).toNat)
 case atStart=>exact⟨0,Nat.zero_le _,rfl,⟨rfl⟩⟩
 case round=>
  obtain⟨k,hk,rfl,hcl⟩:=hrel
  by_cases hlt:k<s.size
  ·have hlt':k<s.data.toList.length:=by simpa using hlt
   have hc:=HC.out k hlt
   by_cases hok:okB (s.data.toList.getD k 0)=true
   ·have hn:=cleanL_take _ k hlt' hcl.out
    rw[hok] at hn
    have HN:=aside hn
    clear hn
    rw[okB_iff] at hok
    generalize hb:((s.data.toList.getD k 0).toNat:Int)=c at *
    clear hb
    rcases hok with h | h | h
    ·have c1:(c==9)=true:=beq_iff_eq.2 h
     have c2:(c != 9)=false:=by simp [h]
     clear h
     go_wp2
     go_round
     case rel=>exact⟨k+1,by omega,by go_num,HN⟩
     case measure=>simp [intOf];omega
    ·have c1:(c==13)=true:=beq_iff_eq.2 h
     have c2:(c != 13)=false:=by simp [h]
     have c3:(c != 9)=true:=by simp [h]
     clear h
     go_wp2
     go_round
     case rel=>exact⟨k+1,by omega,by go_num,HN⟩
     case measure=>simp [intOf];omega
    ·have c4:decide (c<32)=false:=by simp;omega
     have c5:decide (126<c)=false:=by simp;omega
     have c3:(c != 9)=true:=by simp;omega
     have c2:(c != 13)=true:=by simp;omega
     clear h
     go_wp2
     go_round
     case rel=>exact⟨k+1,by omega,by go_num,HN⟩
     case measure=>simp [intOf];omega
   ·have hn:=cleanL_false _ k hlt' (by simpa using hok)
    have HN:=aside hn
    clear hn
    rw[okB_iff] at hok
    generalize hb:((s.data.toList.getD k 0).toNat:Int)=c at *
    clear hb
    have c3:(c != 9)=true:=by simp;omega
    have c2:(c != 13)=true:=by simp;omega
    by_cases h:c<32
    ·have c4:decide (c<32)=true:=by simp;omega
     clear hok h
     go_wp2
     go_ret
     exact⟨ret_bool HN.out.symm,HB.out⟩
    ·have c4:decide (c<32)=false:=by simp;omega
     have c5:decide (126<c)=true:=by simp;omega
     clear hok h
     go_wp2
     go_ret
     exact⟨ret_bool HN.out.symm,HB.out⟩
  ·obtain rfl:k=s.size:=by omega
   have h:=hcl.out
   rw[List.take_of_length_le (by simp)] at h
   have HN:=aside h
   clear h hcl
   go_wp2
   go_ret
   exact⟨ret_bool HN.out.symm,HB.out⟩
end LexA
namespace LexB
open Go.RowKit Base
def bs (l:List UInt8):ByteArray:=⟨l.toArray⟩
def pre (l:List UInt8) (c:UInt8):List UInt8:=l.takeWhile (· != c)
def has (l:List UInt8) (c:UInt8):Bool:=l.contains c
def post (l:List UInt8) (c:UInt8):List UInt8:=(l.dropWhile (· != c)).drop 1
theorem idx_split (c:UInt8):∀ l:List UInt8,(Lib.indexByte l c = -1∧pre l c=l∧post l c=[]∧has l c=false) ∨
  ∃ k:Nat,k<l.length∧Lib.indexByte l c=(k:Int)∧pre l c=l.take k∧post l c=l.drop (k+1)∧has l c=true
 | []=>.inl ⟨rfl,rfl,rfl,rfl⟩
 | b::l=>by
  unfold Lib.indexByte pre post has
  by_cases h:b=c
  ·subst h
   exact .inr ⟨0,by simp,by simp,by simp,by simp,by simp⟩
  ·have h1:(b==c)=false:=by simpa using h
   have h2:(b != c)=true:=by simpa using h
   have h3:(c==b)=false:=by simpa using fun e=>h e.symm
   rcases idx_split c l with ⟨e,p,q,m⟩ | ⟨k,hk,e,p,q,m⟩
   ·refine .inl ⟨by simp [h1,e],?_,?_,?_⟩
    ·simp only[List.takeWhile_cons,h2];unfold pre at p;simp [p]
    ·simp only[List.dropWhile_cons,h2];unfold post at q;simpa using q
    ·unfold has at m;simp only[List.contains_cons,h3,Bool.false_or];exact m
   ·refine .inr ⟨k+1,by simp;omega,?_,?_,?_,?_⟩
    ·have hne:((k:Int) == -1)=false:=by simp <;> omega
     simp [h1,e,hne]
    ·simp only[List.takeWhile_cons,h2];unfold pre at p;simp [p]
    ·simp only[List.dropWhile_cons,h2];unfold post at q;simpa using q
    ·unfold has at m;simp only[List.contains_cons,h3,Bool.false_or];exact m
theorem ret_cut {a b a' b':ByteArray} {x y:Bool} (h1:a=a') (h2:b=b') (h3:x=y):Ending.returned (.tuple #[.string a,.string b,.bool x])=.returned (.tuple #[.string a',.string b',.bool y]):=by subst h1;subst h2;subst h3;rfl
theorem extract_take (s:ByteArray) (k:Nat):s.extract 0 k=bs (s.data.toList.take k):=by
 unfold bs
 apply ByteArray.ext
 rw[ByteArray.data_extract]
 apply Array.ext'
 simp
theorem extract_drop (s:ByteArray) (k:Nat):s.extract k s.size=bs (s.data.toList.drop k):=by
 unfold bs
 apply ByteArray.ext
 rw[ByteArray.data_extract]
 apply Array.ext'
 have e:s.size=s.data.toList.length:=rfl
 rw[Array.toList_extract,List.extract,e,List.take_of_length_le (by simp)]
theorem bs_self (s:ByteArray):bs s.data.toList=s:=rfl
theorem cut_lite_one (s:ByteArray) (c:UInt8) (w:World) (hs:s.size≤9223372036854775806) :
  Calls Tryz.prog 115 #[.string s,.string ⟨#[c]⟩] w fun e w'=>e=.returned (.tuple #[.string (bs (pre s.data.toList c)),.string (bs (post s.data.toList c)),.bool (has s.data.toList c)])∧∃ n,w'=w.drewN n:=by
 rcases idx_split c s.data.toList with ⟨e,p,q,m⟩ | ⟨k,hk,e,p,q,m⟩
 ·have HI:=fun w:World=>Tryz.stringslite_Index_one s c w
  rw[e] at HI
  rw[p,q,m]
  clear p q m e
  go_enter Tryz.func115,Tryz.ntmps115
  go_wp2_with (go_at_call 139;refine (HI _).mono ?_;rintro e w' ⟨rfl,rfl⟩)
  go_ret3
  exact⟨ret_cut (bs_self s).symm rfl rfl,0,rfl⟩
 ·have HI:=fun w:World=>Tryz.stringslite_Index_one s c w
  rw[e] at HI
  rw[p,q,m,←extract_take,←extract_drop]
  clear p q m e
  have hk1:k<s.size:=by simpa using hk
  clear hk
  have h1:decide ((k:Int)≤(s.size:Int))=true:=by simp <;> omega
  go_enter Tryz.func115,Tryz.ntmps115
  go_wp2_with (go_at_call 139;refine (HI _).mono ?_;rintro e w' ⟨rfl,rfl⟩)
  go_quiet (fail)
  go_wp2
  go_ret3
  exact⟨ret_cut rfl rfl rfl,_,rfl⟩
theorem cut_one (s:ByteArray) (c:UInt8) (w:World) (hs:s.size≤9223372036854775806) :
  Calls Tryz.prog 80 #[.string s,.string ⟨#[c]⟩] w fun e w'=>e=.returned (.tuple #[.string (bs (pre s.data.toList c)),.string (bs (post s.data.toList c)),.bool (has s.data.toList c)])∧∃ n,w'=w.drewN n:=by
 have HI:=fun w:World=>cut_lite_one s c w hs
 go_enter Tryz.func80,Tryz.ntmps80
 go_wp2_with (go_at_call 115;refine (HI _).mono ?_;rintro e w' ⟨rfl,n,rfl⟩)
 go_ret3
 exact⟨rfl,_,rfl⟩
end LexB
namespace LexM
open Go.RowKit Base LexB
def blankB (b:UInt8):Bool:=b==9||b==13||b==32
def fieldsGo:List UInt8→List UInt8→List (List UInt8)
 | cur,[]=>if cur.isEmpty then [] else [cur]
 | cur,b::l=>if blankB b then (if cur.isEmpty then fieldsGo [] l else cur::fieldsGo [] l) else fieldsGo (cur++[b]) l
def fieldsB (l:List UInt8):List (List UInt8):=fieldsGo [] l
def lexWords (l:List UInt8):List (List UInt8):=
 match fieldsB ((pre l 59).map Lib.lowerB) with
 | (42::_)::_=>[]
 | w=>w
def strs (L:List (List UInt8)):List Value:=L.map fun l=>.string (bs l)
theorem strs_length (L:List (List UInt8)):(strs L).length=L.length:=by simp [strs]
theorem strs_one (L:List (List UInt8)):∀ u∈strs L,u.oneCell'=true:=by
 intro u hu
 obtain⟨l,_,rfl⟩:=List.mem_map.1 hu
 rfl
theorem fieldsGo_ne:∀ (l cur:List UInt8) (x:List UInt8),x∈fieldsGo cur l→x≠[]
 | [],cur,x,h=>by
  unfold fieldsGo at h
  split at h
  ·simp at h
  ·rename_i hc;simp at h hc;subst h;exact hc
 | b::l,cur,x,h=>by
  unfold fieldsGo at h
  split at h
  ·split at h
   ·exact fieldsGo_ne l _ x h
   ·rename_i hc;rcases List.mem_cons.1 h with rfl | h
    ·simpa using hc
    ·exact fieldsGo_ne l _ x h
  ·exact fieldsGo_ne l _ x h
theorem fieldsB_ne (l:List UInt8) (x:List UInt8) (h:x∈fieldsB l):x≠[]:=fieldsGo_ne l [] x h
theorem fieldsGo_blank0 {b:UInt8} (h:blankB b=true) (l:List UInt8):fieldsGo [] (b::l)=fieldsGo [] l:=by rw[fieldsGo,if_pos h];rfl
theorem fieldsGo_blank {b:UInt8} (h:blankB b=true) {cur:List UInt8} (hc:cur≠[]) (l:List UInt8):fieldsGo cur (b::l)=cur::fieldsGo [] l:=by
 rw[fieldsGo,if_pos h,if_neg (by simpa using hc)]
theorem fieldsGo_more {b:UInt8} (h:¬blankB b=true) (cur:List UInt8) (l:List UInt8):fieldsGo cur (b::l)=fieldsGo (cur++[b]) l:=by rw[fieldsGo,if_neg h]
theorem getD_at (l:List UInt8) (k:Nat) (h:k<l.length):l.getD k 0=l[k]:=by simp [List.getD,List.getElem?_eq_getElem h]
def pB (x:Nat):Bool:=x==9||x==13||x==32
theorem pB_byte (b:UInt8):pB b.toNat=blankB b:=by
 unfold pB blankB
 rw[Bool.eq_iff_iff]
 simp [←UInt8.toNat_inj]
theorem decode_ascii (s:ByteArray) (pos:Nat) (hp:pos<s.size) (ha:(s.data.toList.getD pos 0).toNat<128):Utf8.decode s pos=((s.data.toList.getD pos 0).toNat,1):=by
 have e:(s.get! pos).toNat=(s.data.toList.getD pos 0).toNat:=by
  rw[ByteArray.get!,List.getD,getElem!_def]
  rw[Array.getElem?_toList]
  have:s.data[pos]?=some (s.data[pos]'hp):=Array.getElem?_eq_getElem hp
  rw[this]
  rfl
 rw[Lib.decode_at,Lib.decodeN_ascii _ _ _ _ _ (by rw[e];exact ha),e]
def seg (s:ByteArray) (a b:Nat):List UInt8:=(s.data.toList.take b).drop a
theorem seg_bs (s:ByteArray) (a b:Nat):s.extract a b=bs (seg s a b):=by
 unfold bs seg
 apply ByteArray.ext
 rw[ByteArray.data_extract]
 apply Array.ext'
 rw[Array.toList_extract,List.extract_eq_take_drop,List.drop_take]
theorem seg_self (s:ByteArray) (a:Nat) (h:a≤s.size):seg s a a=[]:=by
 unfold seg
 apply List.drop_eq_nil_of_le
 simp
 omega
theorem seg_snoc (s:ByteArray) (a k:Nat) (h:a≤k) (hk:k<s.size):seg s a (k+1)=seg s a k++[s.data.toList.getD k 0]:=by
 unfold seg
 have hk':k<s.data.toList.length:=by simpa using hk
 rw[List.take_succ_eq_append_getElem hk',List.drop_append_of_le_length (by simp;omega)]
 rw[getD_at _ _ hk']
theorem seg_ne (s:ByteArray) (a k:Nat) (h:a<k) (hk:k≤s.size):seg s a k≠[]:=by
 intro e
 have:=congrArg List.length e
 unfold seg at this
 simp at this
 have hs:s.data.size=s.size:=rfl
 omega
def open_ (s:ByteArray) (pos:Nat):Option Nat→List UInt8
 | some a=>seg s a pos
 | none=>[]
theorem spans_fields (s:ByteArray) (ha:∀ j,j<s.size→(s.data.toList.getD j 0).toNat<128):∀ (f pos:Nat) (st:Option Nat) (acc:List (Nat × Nat)),s.size-pos≤f→pos≤s.size→(∀ a,st=some a→a<pos) →
  (Lib.closeSpans s (Lib.spansFromP pB s f pos st acc)).map (fun x=>seg s x.1 x.2)=acc.map (fun x=>seg s x.1 x.2)++fieldsGo (open_ s pos st) (s.data.toList.drop pos)
 | 0,pos,st,acc,hf,hp,hs=>by
  have e:pos=s.size:=by omega
  subst e
  have hd:s.data.toList.drop s.size=[]:=List.drop_eq_nil_of_le (Nat.le_of_eq rfl)
  rw[hd]
  cases st with
  | none=>simp [Lib.spansFromP,Lib.closeSpans,fieldsGo,open_]
  | some a=>simp [Lib.spansFromP,Lib.closeSpans,fieldsGo,open_,seg_ne s a _ (hs a rfl) (Nat.le_refl _)]
 | f+1,pos,st,acc,hf,hp,hs=>by
  by_cases hlt:pos<s.size
  ·have hd:s.data.toList.drop pos=s.data.toList.getD pos 0::s.data.toList.drop (pos+1):=by
    have hk':pos<s.data.toList.length:=by simpa using hlt
    rw[List.drop_eq_getElem_cons hk']
    rw[getD_at _ _ hk']
   have hdec:=decode_ascii s pos hlt (ha pos hlt)
   unfold Lib.spansFromP
   rw[if_pos hlt,hdec,hd]
   simp only[pB_byte]
   by_cases hb:blankB (s.data.toList.getD pos 0)=true
   ·rw[if_pos hb]
    cases st with
    | none=>
     have ih:=spans_fields s ha f (pos+1) none acc (by omega) (by omega) (by simp)
     show _=_++fieldsGo [] _
     rw[fieldsGo_blank0 hb]
     exact ih
    | some a=>
     have ih:=spans_fields s ha f (pos+1) none (acc++[(a,pos)]) (by omega) (by omega) (by simp)
     show _=_++fieldsGo (seg s a pos) _
     rw[fieldsGo_blank hb (seg_ne s a pos (hs a rfl) hp)]
     refine ih.trans ?_
     show _++fieldsGo [] _=_
     simp
   ·rw[if_neg hb,fieldsGo_more hb]
    cases st with
    | none=>
     have ih:=spans_fields s ha f (pos+1) (some pos) acc (by omega) (by omega) (by simp)
     refine ih.trans ?_
     show _++fieldsGo (seg s pos (pos+1)) _=_++fieldsGo ([]++_) _
     rw[seg_snoc s pos pos (Nat.le_refl _) hlt,seg_self s pos hp]
    | some a=>
     have h1:=hs a rfl
     have ih:=spans_fields s ha f (pos+1) (some a) acc (by omega) (by omega) (by intro b hb;cases hb;omega)
     refine ih.trans ?_
     show _++fieldsGo (seg s a (pos+1)) _=_++fieldsGo (seg s a pos++_) _
     rw[seg_snoc s a pos (by omega) hlt]
  ·have e:pos=s.size:=by omega
   subst e
   have hd:s.data.toList.drop s.size=[]:=List.drop_eq_nil_of_le (Nat.le_of_eq rfl)
   rw[hd]
   cases st with
   | none=>simp [Lib.spansFromP,Lib.closeSpans,fieldsGo,open_]
   | some a=>simp [Lib.spansFromP,Lib.closeSpans,fieldsGo,open_,seg_ne s a _ (hs a rfl) (Nat.le_refl _)]
theorem goFields_ascii (s:ByteArray) (ha:∀ j,j<s.size→(s.data.toList.getD j 0).toNat<128):Lib.goFieldsP pB s=(fieldsB s.data.toList).map bs:=by
 have h:=spans_fields s ha s.size 0 none [] (by omega) (by omega) (by simp)
 unfold Lib.goFieldsP Lib.spansOfP
 have e:(fun x:Nat × Nat=>s.extract x.1 x.2)=fun x=>bs (seg s x.1 x.2):=by funext x;exact seg_bs s _ _
 rw[e]
 have h2:=congrArg (List.map bs) h
 rw[List.map_map] at h2
 refine Eq.trans ?_ (h2.trans ?_)
 ·rfl
 ·rfl
end LexM
namespace LexE
open Go.RowKit Base LexA LexB LexM
abbrev W:=List (List UInt8)
abbrev LL:=List (Nat × W)
def addLast:LL→W→LL
 | [],_=>[]
 | [(a,x)],y=>[(a,x++y)]
 | p::q::L,y=>p::addLast (q::L) y
theorem addLast_snoc:∀ (L:LL) (a:Nat) (x y:W),addLast (L++[(a,x)]) y=L++[(a,x++y)]
 | [],_,_,_=>rfl
 | [p],_,_,_=>rfl
 | p::q::L,a,x,y=>by
  have:=addLast_snoc (q::L) a x y
  simp only[List.cons_append] at this ⊢
  rw[addLast,this]
def lastLen:LL→Nat
 | []=>0
 | [(_,x)]=>x.length
 | _::q::L=>lastLen (q::L)
theorem lastLen_snoc:∀ (L:LL) (a:Nat) (x:W),lastLen (L++[(a,x)])=x.length
 | [],_,_=>rfl
 | [p],_,_=>rfl
 | p::q::L,a,x=>by
  have:=lastLen_snoc (q::L) a x
  simp only[List.cons_append] at this ⊢
  rw[lastLen,this]
def plusWords:W→W
 | (_::t)::ws=>if t.isEmpty then ws else t::ws
 | w=>w
def stepWords (n:Nat) (L:LL):W→Int × LL
 | []=>(0,L)
 | (43::t)::ws=>if L.isEmpty then (61,[]) else if 64<lastLen (addLast L (plusWords ((43::t)::ws))) then (7,[]) else (0,addLast L (plusWords ((43::t)::ws)))
 | w=>if 64<w.length then (7,[]) else (0,L++[(n,w)])
theorem stepWords_new (n:Nat) (L:LL) (c:UInt8) (t:List UInt8) (ws:W) (h:¬c=43):stepWords n L ((c::t)::ws)=if 64<((c::t)::ws).length then (7,[]) else (0,L++[(n,(c::t)::ws)]):=by
 unfold stepWords
 split
 ·rename_i e;cases e
 ·rename_i e;injection e with e1 e2;injection e1 with e1 e3;exact absurd e1 h
 ·rfl
theorem stepWords_plus (n:Nat) (L:LL) (t:List UInt8) (ws:W):stepWords n L ((43::t)::ws)=if L.isEmpty then (61,[]) else if 64<lastLen (addLast L (plusWords ((43::t)::ws))) then (7,[]) else (0,addLast L (plusWords ((43::t)::ws))):=rfl
def lexStep (n:Nat) (L:LL) (line:List UInt8):Int × LL:=if cleanL line then stepWords n L (lexWords line) else (60,[])
def lexFold:Nat→LL→List (List UInt8)→LL × Int × Int
 | _,L,[]=>(L,0,0)
 | n,L,x::xs=>if (lexStep n L x).1=0 then lexFold (n+1) (lexStep n L x).2 xs else ([],n,(lexStep n L x).1)
def linesGo:List UInt8→List UInt8→List (List UInt8)
 | cur,[]=>if cur.isEmpty then [] else [cur]
 | cur,b::t=>if b==10 then cur::linesGo [] t else linesGo (cur++[b]) t
def linesOf (t:List UInt8):List (List UInt8):=linesGo [] t
def lexAll (t:List UInt8):LL × Int × Int:=if 65536<t.length then ([],0,2) else lexFold 1 [] (linesOf t)
theorem linesGo_pre:∀ (t cur:List UInt8),cur++t≠[]→linesGo cur t=(cur++pre t 10)::linesOf (post t 10)
 | [],cur,h=>by
  have hc:cur.isEmpty=false:=by simpa using h
  rw[linesGo,hc]
  simp [pre,post,linesOf,linesGo]
 | b::t,cur,h=>by
  by_cases hb:b=10
  ·subst hb
   rw[linesGo]
   simp [pre,post,linesOf]
  ·have h1:(b==10)=false:=by simpa using hb
   have h2:(b != 10)=true:=by simpa using hb
   rw[linesGo,h1]
   have:=linesGo_pre t (cur++[b]) (by simp)
   simp only[Bool.false_eq_true,if_false]
   rw[this]
   simp [pre,post,h2]
theorem linesOf_cons (t:List UInt8) (h:t≠[]):linesOf t=pre t 10::linesOf (post t 10):=by
 have:=linesGo_pre t [] (by simpa using h)
 simpa [linesOf] using this
theorem linesOf_nil:linesOf []=[]:=rfl
theorem post_length (t:List UInt8) (c:UInt8) (h:t≠[]):(post t c).length<t.length:=by
 unfold post
 rw[List.length_drop]
 have:=(List.dropWhile_suffix (· != c) (l:=t)).length_le
 have:=List.length_pos_iff.2 h
 omega
theorem pre_length (t:List UInt8) (c:UInt8):(pre t c).length≤t.length:=(List.takeWhile_prefix _).length_le
theorem fieldsGo_length:∀ (l cur:List UInt8),(fieldsGo cur l).length≤l.length+1
 | [],cur=>by
  rw[fieldsGo]
  split <;> simp
 | b::l,cur=>by
  rw[fieldsGo]
  have h1:=fieldsGo_length l []
  have h2:=fieldsGo_length l (cur++[b])
  split
  ·split
   ·simp;omega
   ·simp;omega
  ·simp;omega
theorem lexWords_length (l:List UInt8):(lexWords l).length≤l.length+1:=by
 have h1:=fieldsGo_length ((pre l 59).map Lib.lowerB) []
 rw[List.length_map] at h1
 have h2:=pre_length l 59
 have h3:(fieldsB ((pre l 59).map Lib.lowerB)).length≤l.length+1:=by unfold fieldsB;omega
 unfold lexWords
 split
 ·simp
 ·exact h3
theorem lexWords_ne (l:List UInt8):∀ x∈lexWords l,x≠[]:=by
 unfold lexWords
 split
 ·simp
 ·exact fieldsB_ne _
theorem clean_ascii (l:List UInt8) (h:cleanL l=true):∀ b∈l,b.toNat<128:=by
 intro b hb
 have:=List.all_eq_true.1 h b hb
 rw[okB_iff] at this
 omega
/-! Bounds: places and numbers of lines. -/
theorem addLast_at (m:Nat):∀ (L:LL) (y:W),(∀ p∈L,p.1≤m)→∀ p∈addLast L y,p.1≤m
 | [],_,_,p,hp=>by simp [addLast] at hp
 | [(a,x)],y,h,p,hp=>by
  simp only[addLast,List.mem_singleton] at hp
  subst hp
  exact h (a,x) (by simp)
 | q::r::L,y,h,p,hp=>by
  rw[addLast] at hp
  rcases List.mem_cons.1 hp with rfl | hp
  ·exact h _ (by simp)
  ·exact addLast_at m (r::L) y (fun p hp=>h p (List.mem_cons_of_mem _ hp)) p hp
theorem stepWords_at (n m:Nat) (L:LL) (w:W) (hn:n≤m) (h:∀ p∈L,p.1≤m):∀ p∈(stepWords n L w).2,p.1≤m:=by
 unfold stepWords
 split
 ·exact h
 ·split
  ·simp
  ·split
   ·simp
   ·exact addLast_at m L _ h
 ·split
  ·simp
  ·intro p hp
   rcases List.mem_append.1 hp with hp | hp
   ·exact h p hp
   ·rw[List.mem_singleton] at hp
    subst hp
    exact hn
theorem lexStep_at (n m:Nat) (L:LL) (x:List UInt8) (hn:n≤m) (h:∀ p∈L,p.1≤m):∀ p∈(lexStep n L x).2,p.1≤m:=by
 unfold lexStep
 split
 ·exact stepWords_at n m L _ hn h
 ·simp
theorem lexFold_at:∀ (xs:List (List UInt8)) (n:Nat) (L:LL),(∀ p∈L,p.1≤n)→∀ p∈(lexFold n L xs).1,p.1≤n+xs.length
 | [],n,L,h,p,hp=>h p hp
 | x::xs,n,L,h,p,hp=>by
  rw[lexFold] at hp
  split at hp
  ·have:=lexFold_at xs (n+1) (lexStep n L x).2 (fun p hp=>Nat.le_succ_of_le (lexStep_at n n L x (Nat.le_refl _) h p hp)) p hp
   rw[List.length_cons]
   omega
  ·simp at hp
theorem linesGo_length:∀ (t cur:List UInt8),(linesGo cur t).length≤t.length+1
 | [],cur=>by
  rw[linesGo]
  split <;> simp
 | b::t,cur=>by
  rw[linesGo]
  have h1:=linesGo_length t []
  have h2:=linesGo_length t (cur++[b])
  split
  ·simp;omega
  ·simp;omega
theorem addLast_length:∀ (L:LL) (y:W),(addLast L y).length=L.length
 | [],_=>rfl
 | [(a,x)],y=>rfl
 | p::q::L,y=>by
  have:=addLast_length (q::L) y
  rw[addLast,List.length_cons,this]
  rfl
theorem lexStep_count (n:Nat) (L:LL) (x:List UInt8):(lexStep n L x).2.length≤L.length+1:=by
 unfold lexStep
 split
 ·unfold stepWords
  split
  ·simp
  ·split
   ·simp
   ·split
    ·simp
    ·rw[addLast_length];omega
  ·split
   ·simp
   ·simp
 ·simp
theorem lexFold_count:∀ (xs:List (List UInt8)) (n:Nat) (L:LL),(lexFold n L xs).1.length≤L.length+xs.length
 | [],n,L=>by simp [lexFold]
 | x::xs,n,L=>by
  rw[lexFold]
  have h1:=lexFold_count xs (n+1) (lexStep n L x).2
  have h2:=lexStep_count n L x
  split
  ·rw[List.length_cons];omega
  ·simp
theorem lexAll_count (t:List UInt8):(lexAll t).1.length≤65537:=by
 unfold lexAll
 split
 ·simp
 ·have h1:=lexFold_count (linesOf t) 1 []
  have h2:=linesGo_length t []
  unfold linesOf at *
  simp at h1
  omega
end LexE
namespace NetL
open CardS NetS NetP LexE NumS
theorem addLast_fst:∀ (L:LL) (y:W),(addLast L y).map Prod.fst=L.map Prod.fst
 | [],_=>rfl
 | [(a,x)],y=>rfl
 | p::q::L,y=>by
  have:=addLast_fst (q::L) y
  rw[addLast,List.map_cons,this]
  rfl
theorem stepWords_at (n:Nat) (L:LL) (w:W):∀ p∈(stepWords n L w).2,p.1=n∨p.1∈L.map Prod.fst:=by
 intro p hp
 unfold stepWords at hp
 split at hp
 ·exact .inr (List.mem_map_of_mem hp)
 ·split at hp
  ·exact absurd hp (by simp)
  ·split at hp
   ·exact absurd hp (by simp)
   ·rw[←addLast_fst]
    exact .inr (List.mem_map_of_mem hp)
 ·split at hp
  ·exact absurd hp (by simp)
  ·rcases List.mem_append.1 hp with h | h
   ·exact .inr (List.mem_map_of_mem h)
   ·rw[List.mem_singleton] at h
    subst h
    exact .inl rfl
theorem lexStep_at (n:Nat) (L:LL) (x:List UInt8):∀ p∈(lexStep n L x).2,p.1=n∨p.1∈L.map Prod.fst:=by
 intro p hp
 unfold lexStep at hp
 split at hp
 ·exact stepWords_at n L _ p hp
 ·exact absurd hp (by simp)
theorem lexFold_at:∀ (xs:List (List UInt8)) (n:Nat) (L:LL),1≤n→(∀ p∈L,1≤p.1∧p.1<n) →
  (∀ p∈(lexFold n L xs).1,1≤p.1∧p.1<n+xs.length)∧((lexFold n L xs).2.2≠0→1≤(lexFold n L xs).2.1∧(lexFold n L xs).2.1<(n+xs.length:Nat))∧((lexFold n L xs).2.2=0→(lexFold n L xs).2.1=0)
 | [],n,L,hn,hL=>⟨fun p hp=>by simpa [lexFold] using hL p (by simpa [lexFold] using hp),fun h=>absurd rfl h,fun _=>rfl⟩
 | x::xs,n,L,hn,hL=>by
  rw[lexFold]
  split
  ·rename_i h0
   have ih:=lexFold_at xs (n+1) (lexStep n L x).2 (by omega) (fun p hp=>by
    rcases lexStep_at n L x p hp with h | h
    ·omega
    ·obtain⟨q,hq,e⟩:=List.mem_map.1 h
     have:=hL q hq
     omega)
   have hl:n+1+xs.length=n+(x::xs).length:=by rw[List.length_cons];omega
   rw[hl] at ih
   exact ih
  ·rename_i h0
   refine⟨fun p hp=>absurd hp (by simp),fun _=>?_,fun h=>absurd h h0⟩
   rw[List.length_cons]
   constructor <;> simp only <;> omega
def endN (t:List UInt8):Nat:=if t.getLast?=none∨t.getLast?=some 10 then 0 else 1
theorem linesGo_len:∀ (t cur:List UInt8),cur.getLast?≠some 10→(linesGo cur t).length=t.count 10+endN (cur++t)
 | [],cur,h=>by
  rw[linesGo,List.append_nil,List.count_nil,Nat.zero_add,endN]
  cases hc:cur with
  | nil=>rfl
  | cons a l=>
   have h2:(a::l).getLast?≠none:=by simp
   rw[hc] at h
   rw[if_neg (by simp),if_neg (by rintro (g | g);exact h2 g;exact h g)]
   rfl
 | b::t,cur,h=>by
  rw[linesGo]
  by_cases hb:b=10
  ·subst hb
   have ih:=linesGo_len t [] (by simp)
   rw[if_pos (by rfl),List.length_cons,ih,List.count_cons_self,List.nil_append]
   have:endN (cur++10::t)=endN t:=by
    unfold endN
    cases t with
    | nil=>simp
    | cons a l=>
     have e:(cur++10::a::l).getLast?=(a::l).getLast?:=by
      rw[List.getLast?_append,List.getLast?_cons_cons,List.getLast?_cons,Option.some_or]
     rw[e]
   omega
  ·have ih:=linesGo_len t (cur++[b]) (by simpa using hb)
   rw[if_neg (by simpa using hb),ih,List.append_assoc,List.count_cons_of_ne (by simpa using hb)]
   rfl
def nLines (t:List UInt8):Nat:=t.count 10+endN t
theorem linesOf_len (t:List UInt8):(linesOf t).length=nLines t:=by
 have:=linesGo_len t [] (by simp)
 simpa [linesOf,nLines] using this
def wordsN (w:W):List Str:=w.map fun x=>x.map UInt8.toNat
def linesW (L:LL):List Line:=L.map fun p=>((p.1:Int),wordsN p.2)
def parseN (t:List UInt8):Cir × Int × Int:=
 if (lexAll t).2.2≠0 then (cir0,(lexAll t).2.1,(lexAll t).2.2) else parseL (linesW (lexAll t).1)
theorem places_in (t:List UInt8):if (parseN t).2.2=0∨65536<t.length then (parseN t).2.1=0∧((parseN t).2.2=0∨(parseN t).2.2=2) else 1≤(parseN t).2.1∧(parseN t).2.1≤nLines t:=by
 by_cases hl:65536<t.length
 ·have e:lexAll t=([],0,2):=by unfold lexAll;rw[if_pos hl]
  have e2:parseN t=(cir0,0,2):=by unfold parseN;rw[e];rfl
  rw[if_pos (.inr hl),e2]
  exact⟨rfl,.inr rfl⟩
 ·have e:lexAll t=lexFold 1 [] (linesOf t):=by unfold lexAll;rw[if_neg hl]
  obtain⟨f1,f2,f3⟩:=lexFold_at (linesOf t) 1 [] (Nat.le_refl _) (fun p hp=>by cases hp)
  rw[←e] at f1 f2 f3
  rw[linesOf_len] at f1 f2
  by_cases h0:(parseN t).2.2=0
  ·rw[if_pos (.inl h0)]
   refine⟨?_,.inl h0⟩
   unfold parseN at h0 ⊢
   split
   ·rename_i g
    rw[if_pos g] at h0
    exact absurd h0 g
   ·rename_i g
    rw[if_neg g] at h0
    exact parseL_ok _ h0
  ·rw[if_neg (by rintro (g | g);exact h0 g;exact hl g)]
   unfold parseN at h0 ⊢
   split
   ·rename_i g
    have:=f2 g
    simp only
    omega
   ·rename_i g
    rw[if_neg g] at h0
    exact parseL_pl (S:=fun a=>1≤a∧a≤nLines t) _ (fun l hl=>by
     obtain⟨p,hp,rfl⟩:=List.mem_map.1 hl
     have:=f1 p hp
     simp only
     omega) h0
end NetL
end Go.Proofs.YtdaeancgockacaaGreatDoor
