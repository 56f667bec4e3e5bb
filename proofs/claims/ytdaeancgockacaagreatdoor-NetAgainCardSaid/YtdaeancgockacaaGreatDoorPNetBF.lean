/- A part of the proof. -/
import Derived.Test.YtdaeancgockacaaGreatDoorPNetBE
import Derived.Maps.AppendAt
set_option linter.unusedVariables false
set_option linter.unusedSimpArgs false
set_option maxHeartbeats 4000000
set_option maxRecDepth 8000
namespace Go.Proofs.YtdaeancgockacaaGreatDoor
namespace LexC
open Go.RowKit Base LexA LexB LexM
theorem blankI_nat (x:Nat):blankI (x:Int)=pB x:=by
 unfold blankI pB
 rw[Bool.eq_iff_iff]
 simp
 omega
theorem enters_blank:∀ args w,(callFunc 118 args).run Tryz.prog w=.ok (.enter 118 args) w:=enters_of Tryz.func118 (by kernel_rfl) rfl
theorem blank_pays (w:World):PredAtRunes Tryz.prog 118 #[] pB w:=fun W x _ _=>
 (blank_any (x:Int) W).mono fun e w' ⟨he,hw⟩=>⟨by rw[he,blankI_nat],0,hw⟩
theorem fields_any (l:List UInt8) (hl:l.length≤4294967296) (ha:∀ b∈l,b.toNat<128) (w:World) :
  Calls Tryz.prog 116 #[.string (bs l),.func (.func 118) #[] #[]] w fun e w'=>∃ v,e=.returned v∧(∃ A,v=.slice (some ⟨A,0,none⟩) (fieldsB l).length (fieldsB l).length)∧w'.ownsRow w.heap.size 9 1 v (fieldsB l).length (strs (fieldsB l))∧Below w.heap.size w w':=by
 have hg:=goFields_ascii (bs l) (by
  intro j hj
  have hj':j<l.length:=hj
  show (l.getD j 0).toNat<128
  rw[getD_at l j hj']
  exact ha _ (List.getElem_mem hj'))
 have e1:(bs l).data.toList=l:=rfl
 rw[e1] at hg
 have H:=Tryz.strings_FieldsFunc_runes 118 #[] enters_blank pB (bs l) w hl (blank_pays w)
 rw[hg] at H
 refine H.mono fun e w' ⟨A,he,hA,ho,hb⟩=>?_
 rw[List.length_map,List.map_map] at ho
 rw[List.length_map] at he
 exact⟨_,he,⟨A,rfl⟩,ho,hb⟩
theorem lower_any (l:List UInt8) (hl:l.length≤140737488355328) (ha:∀ b∈l,b.toNat<128) (w:World) :
  Calls Tryz.prog 117 #[.string (bs l)] w fun e w'=>e=.returned (.string (bs (l.map Lib.lowerB)))∧Below w.heap.size w w':=by
 refine (Tryz.strings_ToLower_ascii (bs l) w hl (fun j b h=>ha b (List.mem_of_getElem? h))).mono fun e w' h=>h
theorem lower_ascii (c:UInt8) (h:c.toNat<128):(Lib.lowerB c).toNat<128:=by
 unfold Lib.lowerB
 split
 ·rename_i hu
  unfold Lib.isUpperB at hu
  simp [UInt8.le_iff_toNat_le] at hu
  rw[UInt8.toNat_add]
  simp
  omega
 ·exact h
theorem words_any (l:List UInt8) (hl:l.length≤65536) (ha:∀ b∈l,b.toNat<128) (w:World) :
  Calls Tryz.prog 82 #[.string (bs l)] w fun e w'=>∃ v,e=.returned v∧w'.ownsRow w.heap.size 9 1 v (lexWords l).length (strs (lexWords l))∧Below w.heap.size w w':=by
 have hp:∀ b∈pre l 59,b.toNat<128:=fun b hb=>ha b (List.takeWhile_subset _ hb)
 have hpl:(pre l 59).length≤65536:=Nat.le_trans (List.takeWhile_prefix _).length_le hl
 have hL:∀ b∈(pre l 59).map Lib.lowerB,b.toNat<128:=by
  intro b hb
  obtain⟨c,hc,rfl⟩:=List.mem_map.1 hb
  exact lower_ascii c (hp c hc)
 have hLl:((pre l 59).map Lib.lowerB).length≤4294967296:=by rw[List.length_map];omega
 have e1:(bs l).data.toList=l:=rfl
 have hC:=cut_one (bs l) 59
 rw[e1] at hC
 have HT:=fun w=>lower_any (pre l 59) (by omega) hp w
 have HF:=fun w=>fields_any ((pre l 59).map Lib.lowerB) hLl hL w
 have HW:lexWords l=match fieldsB ((pre l 59).map Lib.lowerB) with | (42::_)::_=>[] | w=>w:=rfl
 have HN:∀ x∈fieldsB ((pre l 59).map Lib.lowerB),x≠[]:=fieldsB_ne _
 generalize fieldsB ((pre l 59).map Lib.lowerB)=F at *
 generalize (pre l 59).map Lib.lowerB=L at *
 clear hp hpl hL hLl e1 ha
 have hl1:(bs l).size≤9223372036854775806:=by show l.length≤_;omega
 have HC:=aside hC
 have HT':=aside HT
 have HF':=aside HF
 have HW':=aside HW
 have HN':=aside HN
 clear hC HT HF HW HN
 go_enter Tryz.func82,Tryz.ntmps82
 go_wp2_with fail
 refine (HC.out _ hl1).mono ?_
 rintro e w1 ⟨rfl,n,rfl⟩
 go_wp2_with fail
 refine (HT'.out _).mono ?_
 rintro e w1 ⟨rfl,hb1⟩
 have HB1:=aside hb1
 clear hb1
 go_wp2_with fail
 refine (HF'.out _).mono ?_
 rintro e w2 ⟨v,rfl,⟨A,rfl⟩,ho,hb2⟩
 have HB2:=aside hb2
 clear hb2
 cases F with
 | nil=>
  have HO:=aside ho
  clear ho
  go_wp2
  go_ret
  rw[HW'.out]
  exact⟨_,rfl,own_lower HO.out (below_of_drewN HB1.out).size,below_then (below_of_drewN HB1.out) HB2.out⟩
 | cons f0 fs=>
  have hc0:w2.cell? ⟨A,0,none⟩=some (.string (bs f0)):=by
   have:=ho.cellAt 0 (by simp)
   simpa [strs] using this
  have HO:=aside ho
  clear ho
  have hne:=HN'.out f0 (by simp)
  obtain⟨b0,t0,rfl⟩:=List.exists_cons_of_ne_nil hne
  clear hne
  have hn:(0:Int)<((((b0::t0)::fs).length:Nat):Int):=by simp
  generalize hN:((b0::t0)::fs).length=N at hn HO HF'
  have HLN:=aside hN
  clear hN
  have hn':0<N:=by omega
  have hs0:0<(bs (b0::t0)).size:=Nat.succ_pos _
  by_cases hb:b0=42
  ·have hx:(((bs (b0::t0))[0]'hs0).toNat:Int)=42:=by subst hb;rfl
   have hx':((((bs (b0::t0))[0]'hs0).toNat:Int)==42)=true:=beq_iff_eq.2 hx
   have HW2:=aside (show lexWords l=[] by rw[HW'.out];subst hb;rfl)
   clear hb hx
   go_wp2
   go_ret
   rw[HW2.out]
   exact⟨_,rfl,World.ownsRow_nil _ _ _ _,below_then (below_of_drewN HB1.out) HB2.out⟩
  ·have hx:¬(((bs (b0::t0))[0]'hs0).toNat:Int)=42:=by
    intro h
    apply hb
    rw[←UInt8.toNat_inj]
    have h2:(b0.toNat:Int)=42:=h
    show b0.toNat=42
    omega
   have hx':((((bs (b0::t0))[0]'hs0).toNat:Int)==42)=false:=beq_eq_false_iff_ne.2 hx
   have HW2:=aside (show lexWords l=(b0::t0)::fs by
    rw[HW'.out]
    split
    ·rename_i h
     injection h with h1 h2
     injection h1 with h1 h3
     exact absurd h1 hb
    ·rfl)
   clear hb hx
   go_wp2
   go_ret
   rw[HW2.out,HLN.out]
   exact⟨_,rfl,own_lower HO.out (below_of_drewN HB1.out).size,below_then (below_of_drewN HB1.out) HB2.out⟩
end LexC
namespace LexD
open Go.RowKit Base LexA LexB LexM LexC
abbrev W:=List (List UInt8)
abbrev Piece:=Nat × W × Value
def cellsOf (P:List Piece):List Value:=P.flatMap fun p=>[.int .i64 p.1,p.2.2]
theorem cellsOf_length (P:List Piece):(cellsOf P).length=P.length*2:=by
 induction P with
 | nil=>rfl
 | cons p P ih=>simp [cellsOf,List.flatMap_cons] at ih ⊢;omega
theorem cellsOf_snoc (P:List Piece) (p:Piece):cellsOf (P++[p])=cellsOf P++[.int .i64 p.1,p.2.2]:=by simp [cellsOf]
theorem own_ne {w:World} {B B' e e' s s' n n':Nat} {v v':Value} {xs xs':List Value} (h:w.ownsRow B e s v n xs) (h':w.ownsRow B' e' s' v' n' xs') (he:e≠e'):v.ownBlock=none∨v.ownBlock≠v'.ownBlock:=by
 rcases h.2 with ⟨rfl,_⟩ | ⟨g,cap,cur,rfl,_,hg,_⟩
 ·exact .inl rfl
 ·right
  rcases h'.2 with ⟨rfl,_⟩ | ⟨g',cap',cur',rfl,_,hg',_⟩
  ·simp [Value.ownBlock]
  ·simp only[Value.ownBlock,ne_eq,Option.some.injEq]
   rintro rfl
   rw[hg] at hg'
   simp at hg'
   exact he hg'.2
structure LOwn (w:World) (B:Nat) (v:Value) (P:List Piece):Prop where
 row:w.ownsRow B 94 2 v P.length (cellsOf P)
 inner:∀ p∈P,w.ownsRow B 9 1 p.2.2 p.2.1.length (strs p.2.1)
 apart:P.Pairwise fun p q=>∀ k,p.2.2.ownBlock=some k→q.2.2.ownBlock≠some k
theorem LOwn.nil (w:World) (B:Nat):LOwn w B (.slice none 0 0) []:=⟨World.ownsRow_nil _ _ _ _,by simp,List.Pairwise.nil⟩
theorem own_lt {w:World} {B e s n:Nat} {v:Value} {xs:List Value} (h:w.ownsRow B e s v n xs) {k:Nat} (hk:v.ownBlock=some k):B≤k∧k<w.heap.size:=h.lt k hk
theorem own_grown {w w':World} {B e s n:Nat} {v:Value} {xs:List Value} {row:Option Nat} (h:w.ownsRow B e s v n xs) (hg:w.grownBy w' row) (hne:v.ownBlock=none∨v.ownBlock≠row):w'.ownsRow B e s v n xs:=h.kept hg hne
theorem own_below {w w':World} {B e s n:Nat} {v:Value} {xs:List Value} (h:w.ownsRow B e s v n xs) (hb:Below w.heap.size w w'):w'.ownsRow B e s v n xs:=by
 refine h.kept (row:=none) ⟨hb.os,hb.tape,hb.output,hb.size,fun k hk _=>hb.block k hk⟩ ?_
 rcases h.2 with ⟨rfl,_⟩ | ⟨g,cap,cur,rfl,_⟩ <;> simp [Value.ownBlock]
theorem LOwn.below {w w':World} {B:Nat} {v:Value} {P:List Piece} (h:LOwn w B v P) (hb:Below w.heap.size w w'):LOwn w' B v P:=
 ⟨own_below h.row hb,fun p hp=>own_below (h.inner p hp) hb,h.apart⟩
theorem LOwn.alloc {w:World} {B:Nat} {v:Value} {P:List Piece} (h:LOwn w B v P) (o:Obj):LOwn (w.alloc o) B v P:=
 ⟨h.row.alloc o,fun p hp=>(h.inner p hp).alloc o,h.apart⟩
theorem LOwn.last {w:World} {B g c a:Nat} {u:Value} {x:W} {P:List Piece} (h:LOwn w B (.slice (some ⟨g,0,none⟩) (P.length+1) c) (P++[(a,x,u)])):w.cell? ⟨g,P.length*2+1,none⟩=some u∧w.frozen? ⟨g,P.length*2+1,none⟩=false∧w.ownsRow B 9 1 u x.length (strs x):=by
 have h1:w.ownsRow B 94 2 (.slice (some ⟨g,0,none⟩) (P.length+1) c) (P.length+1) (cellsOf (P++[(a,x,u)])):=by
  have:=h.row
  rwa [List.length_append] at this
 refine⟨?_,h1.frozenAt _,h.inner (a,x,u) (by simp)⟩
 rw[h1.cellAt (P.length*2+1) (by omega)]
 rw[cellsOf_snoc,List.getElem?_append_right (by rw[cellsOf_length];omega),cellsOf_length]
 rw[show P.length*2+1-P.length*2=1 by omega]
 rfl
theorem LOwn.push {w w':World} {B:Nat} {v v':Value} {P:List Piece} (h:LOwn w B v P) (n:Nat)
  (hr:w'.ownsRow B 94 2 v' (P.length+1) (cellsOf P++[.int .i64 n,.slice none 0 0])) (hg:w.grownBy w' v.ownBlock):LOwn w' B v' (P++[(n,[],.slice none 0 0)]):=by
 refine⟨?_,?_,?_⟩
 ·rw[cellsOf_snoc,List.length_append]
  exact hr
 ·intro p hp
  rcases List.mem_append.1 hp with hp | hp
  ·exact own_grown (h.inner p hp) hg (own_ne (h.inner p hp) h.row (by decide))
  ·rw[List.mem_singleton] at hp
   subst hp
   exact World.ownsRow_nil _ _ _ _
 ·rw[List.pairwise_append]
  refine⟨h.apart,List.pairwise_singleton _ _,fun p hp q hq k hk=>?_⟩
  rw[List.mem_singleton] at hq
  subst hq
  simp [Value.ownBlock]
theorem own_form {w:World} {B e s n:Nat} {v:Value} {xs:List Value} (h:w.ownsRow B e s v n xs) (hn:0<n):∃ g cap,v=.slice (some ⟨g,0,none⟩) n cap∧B≤g∧g<w.heap.size∧n≤cap∧cap≤maxLen:=by
 rcases h.2 with ⟨_,h0⟩ | ⟨g,cap,cur,rfl,hb,hg,hc,hm,_⟩
 ·omega
 ·exact⟨g,cap,rfl,hb,(Array.getElem?_eq_some_iff.1 hg).1,hc,hm⟩
theorem LOwn.kept {w w':World} {B g c a:Nat} {u:Value} {x:W} {P:List Piece} (h:LOwn w B (.slice (some ⟨g,0,none⟩) (P.length+1) c) (P++[(a,x,u)])) (hg:w.grownBy w' u.ownBlock):w'.cell? ⟨g,P.length*2+1,none⟩=some u∧w'.frozen? ⟨g,P.length*2+1,none⟩=false:=by
 have h0:=h.last
 have hi:=own_ne h.row h0.2.2 (by decide)
 have hlt:=(own_lt h.row (k:=g) rfl).2
 have hne:some g≠u.ownBlock:=by simpa [Value.ownBlock] using hi
 have hk:=hg.block g hlt hne
 exact⟨(World.cell?_of_block (w:=w) hk).trans h0.1,(World.frozen?_of_block (w:=w) hk).trans h0.2.1⟩
theorem cellsOf_set (P:List Piece) (p:Piece) (u:Value):(cellsOf (P++[p])).set (P.length*2+1) u=cellsOf (P++[(p.1,p.2.1,u)]):=by
 rw[cellsOf_snoc,cellsOf_snoc,List.set_append_right _ _ (by rw[cellsOf_length];omega),cellsOf_length]
 rw[show P.length*2+1-P.length*2=1 by omega]
 rfl
theorem cellsOf_words (P:List Piece) (a:Nat) (x y:W) (u:Value):cellsOf (P++[(a,x,u)])=cellsOf (P++[(a,y,u)]):=by rw[cellsOf_snoc,cellsOf_snoc]
theorem LOwn.grow {w w':World} {B g c a:Nat} {u u':Value} {x y:W} {P:List Piece} (h:LOwn w B (.slice (some ⟨g,0,none⟩) (P.length+1) c) (P++[(a,x,u)]))
  (hr:w'.ownsRow B 9 1 u' (x.length+y.length) (strs x++strs y)) (hg:w.grownBy w' u.ownBlock) (hat:u'.ownBlock=u.ownBlock∨u'.ownBlock=some w.heap.size) :
  LOwn (w'.setCell ⟨g,P.length*2+1,none⟩ u') B (.slice (some ⟨g,0,none⟩) (P.length+1) c) (P++[(a,x++y,u')]):=by
 have hi:=h.inner (a,x,u) (by simp)
 have hne:some g≠u.ownBlock:=by
  have:=own_ne h.row hi (by decide)
  simpa [Value.ownBlock] using this
 have hrow:w'.ownsRow B 94 2 (.slice (some ⟨g,0,none⟩) (P.length+1) c) (P.length+1) (cellsOf (P++[(a,x,u)])):=by
  have:=own_grown h.row hg (.inr hne)
  rwa [List.length_append] at this
 have hst:=hrow.stored (P.length*2+1) u'
 rw[cellsOf_set,cellsOf_words P a x (x++y)] at hst
 have hfar:∀ {v:Value} {n:Nat} {xs:List Value},w'.ownsRow B 9 1 v n xs→(w'.setCell ⟨g,P.length*2+1,none⟩ u').ownsRow B 9 1 v n xs:=by
  intro v n xs ho
  have hv:=own_ne ho hrow (by decide)
  obtain⟨h1,h2⟩:=ho
  refine⟨h1,?_⟩
  rcases h2 with h2 | ⟨g',cap,cur,rfl,hb,hh,r⟩
  ·exact .inl h2
  ·refine .inr ⟨g',cap,cur,rfl,hb,?_,r⟩
   rw[Below.heap_setCell _ _ _ _ (by
    rcases hv with hv | hv
    ·simp [Value.ownBlock] at hv
    ·simpa [Value.ownBlock] using hv)]
   exact hh
 have hap:=List.pairwise_append.1 h.apart
 refine⟨?_,?_,?_⟩
 ·rw[List.length_append]
  exact hst.1
 ·intro p hp
  rcases List.mem_append.1 hp with hp | hp
  ·have hpi:=h.inner p (List.mem_append_left _ hp)
   refine hfar (own_grown hpi hg ?_)
   cases hk:p.2.2.ownBlock with
   | none=>exact .inl rfl
   | some k=>exact .inr fun e=>hap.2.2 p hp _ (List.mem_singleton.2 rfl) k hk e.symm
  ·rw[List.mem_singleton] at hp
   subst hp
   have e:(x++y).length=x.length+y.length:=List.length_append
   have e2:strs (x++y)=strs x++strs y:=List.map_append
   show World.ownsRow _ B _ 1 u' (x++y).length (strs (x++y))
   rw[e,e2]
   exact hfar hr
 ·rw[List.pairwise_append]
  refine⟨hap.1,List.pairwise_singleton _ _,fun p hp q hq k hk=>?_⟩
  rw[List.mem_singleton] at hq
  subst hq
  show u'.ownBlock≠some k
  rcases hat with hat | hat
  ·rw[hat]
   exact hap.2.2 p hp _ (List.mem_singleton.2 rfl) k hk
  ·rw[hat]
   have:=(own_lt (h.inner p (List.mem_append_left _ hp)) hk).2
   intro e
   injection e with e
   omega
end LexD
namespace LexF
open Go.RowKit Base LexA LexB LexM LexC LexD
open LexE hiding W
theorem infoLine:(Tryz.prog.info? 94).map (fun i=>(i.zero,i.size,i.bytes))=some (some (.agg #[.int .i64 0,.slice none 0 0]),2,32):=by kernel_rfl
theorem infoStr:(Tryz.prog.info? 9).map (fun i=>(i.zero,i.size,i.bytes))=some (some (.string ⟨#[]⟩),1,16):=by kernel_rfl
def said (P:List Piece):LL:=P.map fun p=>(p.1,p.2.1)
def LinesPost (w:World) (R:LL × Int × Int) (e:Ending) (w':World):Prop:=
 ∃ v P,e=.returned (.tuple #[v,.int .i64 R.2.1,.int .i64 R.2.2])∧LOwn w' w.heap.size v P∧said P=R.1∧Below w.heap.size w w'
structure Head (w:World) (R:LL × Int × Int) (t:List UInt8) (n:Nat) (P:List Piece) (vl:Value) (wr:World):Prop where
 own:LOwn wr w.heap.size vl P
 below:Below w.heap.size w wr
 rest:lexFold n (said P) (linesOf t)=R
 len:n+t.length≤65537
 pos:1≤n
 count:P.length≤n
 few:∀ p∈P,0<p.2.1.length∧p.2.1.length≤64
theorem cell_two (w:World) (x y:Value) (t:TypeId):∀ j u,[x,y][j]?=some u→(w.alloc (.cells #[x,y] t)).cell? ((⟨w.heap.size,0,none⟩:Addr).add j)=some u:=by
 intro j u hj
 match j,hj with
 | 0,hj=>
  simp at hj
  subst hj
  simp [Addr.add]
 | 1,hj=>
  simp at hj
  subst hj
  simp [Addr.add]
theorem said_snoc (P:List Piece) (a:Nat) (x:W) (u:Value):said (P++[(a,x,u)])=said P++[(a,x)]:=by simp [said]
set_option maxRecDepth 100000 in
theorem lines_any (s:List UInt8) (w:World) :
  Calls Tryz.prog 45 #[.string (bs s)] w (LinesPost w (lexAll s)):=by
 obtain⟨iL,hiL,hL⟩:=Option.map_eq_some_iff.1 infoLine
 simp only[Prod.mk.injEq] at hL
 obtain⟨hL0,hL1,hL2⟩:=hL
 obtain⟨iS,hiS,hS⟩:=Option.map_eq_some_iff.1 infoStr
 simp only[Prod.mk.injEq] at hS
 obtain⟨hS0,hS1,hS2⟩:=hS
 have hsz:(bs s).size=s.length:=rfl
 by_cases hl:65536<s.length
 ·have hR:=aside (show lexAll s=([],0,2) by rw[lexAll,if_pos hl])
  have hl':(65536:Int)<(s.length:Int):=by omega
  have hl2:(65536:Int)<((bs s).size:Int):=hl'
  clear hsz
  go_enter Tryz.func45,Tryz.ntmps45
  go_wp2
  go_ret3
  rw[hR.out]
  exact⟨_,[],rfl,LOwn.nil _ _,rfl,Below.refl _ _⟩
 ·have hR:=aside (show lexAll s=lexFold 1 [] (linesOf s) by rw[lexAll,if_neg hl])
  have hl':=aside (show s.length≤65536 by omega)
  have hl2:¬(65536:Int)<((bs s).size:Int):=by rw[hsz];omega
  generalize lexAll s=R at *
  clear hl hsz
  go_enter Tryz.func45,Tryz.ntmps45
  go_wp2
  go_loopw [0,5,6] (fun x0 x5 x6 wr=>∃ t n P,x0=.string (bs t)∧x6=.int .i64 (n:Nat)∧Head w R t n P x5 wr) (fun x0 _ _ _=>match x0 with | .string b=>b.size | _=>0)
  case atStart=>exact⟨s,1,[],rfl,rfl,⟨LOwn.nil _ _,Below.refl _ _,hR.out.symm,by have:=hl'.out;omega,by omega,Nat.zero_le _,by simp⟩⟩
  case round=>
   obtain⟨t,n,P,rfl,rfl,H⟩:=hrel
   by_cases ht:t=[]
   ·subst ht
    have hf:=H.rest
    have H':=aside H
    clear H
    have e0:bs []=⟨#[]⟩:=rfl
    simp only[e0]
    go_wp2
    go_ret3
    have hh:=H'.out
    have h0:=hh.rest
    rw[linesOf_nil] at h0
    rw[←h0]
    exact⟨_,P,rfl,hh.own,rfl,hh.below⟩
   ·have ht0:0<t.length:=List.length_pos_iff.2 ht
    have hrest:=H.rest
    rw[linesOf_cons t ht,lexFold] at hrest
    have hlen:=H.len
    have hpos:=H.pos
    have hpl:=pre_length t 10
    have hpo:=post_length t 10 ht
    have htl:(bs t).size≤9223372036854775806:=by show t.length≤_;omega
    have e1:(bs t).data.toList=t:=rfl
    have hcut:=fun w=>cut_one (bs t) 10 w htl
    rw[e1] at hcut
    have hcl:=fun w=>clean_any (bs (pre t 10)) w (by show (pre t 10).length≤_;omega)
    have e2:(bs (pre t 10)).data.toList=pre t 10:=rfl
    rw[e2] at hcl
    have hne:(bs t).toList.isEmpty=false:=by
     rw[ByteArray.toList_eq]
     exact List.isEmpty_eq_false_iff.2 ht
    have hne2:(!(bs t).toList.isEmpty)=true:=by rw[hne];rfl
    have HR:=aside hrest
    have H':=aside H
    have HC:=aside hcut
    have HL:=aside hcl
    clear H hrest hcut hcl e1 e2
    go_wp2_with fail
    refine (HC.out _).mono ?_
    rintro e w1 ⟨rfl,k1,rfl⟩
    by_cases hc:cleanL (pre t 10)=true
    ·have HA:=aside (clean_ascii _ hc)
     have HW:=fun w=>words_any (pre t 10) (by omega) HA.out w
     have HW':=aside HW
     rw[hc] at HL
     have hst:lexStep n (said P) (pre t 10)=stepWords n (said P) (lexWords (pre t 10)):=by rw[lexStep,if_pos hc]
     have HS:=aside hst
     have HN:=aside (lexWords_ne (pre t 10))
     have hwl:=lexWords_length (pre t 10)
     generalize lexWords (pre t 10)=X at *
     clear HW hc hst
     go_wp2_with fail
     refine (HL.out _).mono ?_
     rintro e w2 ⟨rfl,hb2⟩
     have HB2:=aside (below_of_drewN hb2)
     clear hb2
     go_wp2_with fail
     refine (HW'.out _).mono ?_
     rintro e w3 ⟨vw,rfl,how,hb3⟩
     have HB3:=aside (below_then HB2.out hb3)
     clear hb3
     cases X with
     | nil=>
      obtain⟨aw,cw,rfl⟩:∃ aw cw,vw=.slice aw 0 cw:=by
       rcases how.2 with ⟨rfl,_⟩ | ⟨g,cap,cur,rfl,_⟩
       ·exact⟨_,_,rfl⟩
       ·exact⟨_,_,rfl⟩
      have HX:=aside (HS.out.trans (show stepWords n (said P) []=(0,said P) from rfl))
      clear how
      go_wp2
      go_roundw
      case rel=>
       have hh:=H'.out
       have hr:=HR.out
       rw[HX.out] at hr
       refine⟨post t 10,n+1,P,rfl,by go_num,⟨hh.own.below HB3.out,hh.below.trans (HB3.out.mono hh.below.size),?_,by omega,by omega,by have:=hh.count;omega,hh.few⟩⟩
       simpa using hr
      case measure=>exact hpo
     | cons x0 xs=>
      obtain⟨c0,t0,rfl⟩:=List.exists_cons_of_ne_nil (HN.out x0 (by simp))
      obtain⟨gw,cw,rfl,hgw,hgw2,hcw,hcm⟩:=own_form how (by simp)
      have hn:(0:Int)<((((c0::t0)::xs).length:Nat):Int):=by simp
      have hcell0:w3.cell? ⟨gw,0,none⟩=some (.string (bs (c0::t0))):=by
       have:=how.cellAt 0 (by simp)
       simpa [strs] using this
      have hs0:0<(bs (c0::t0)).size:=Nat.succ_pos _
      generalize hNN:((c0::t0)::xs).length=N at hn how hwl hcw
      have HNN:=aside hNN
      clear hNN
      have HO:=aside how
      clear how
      have hz:((N:Int)==0)=false:=beq_eq_false_iff_ne.2 (by omega)
      have hN0:0<N:=by omega
      by_cases hb:c0=43
      ·subst hb
       have hx':((((bs (43::t0))[0]'hs0).toNat:Int) != 43)=false:=rfl
       have hx2:((((bs (43::t0))[0]'hs0).toNat:Int)==43)=true:=rfl
       have hbs:=HB3.out.size
       have hbs2:=H'.out.below.size
       have hbs3:=HB2.out.size
       rcases List.eq_nil_or_concat P with rfl | ⟨Q,⟨a,x,vl⟩,rfl⟩
       ·have HRR:=aside (show R=([],(n:Int),61) by
         have hr:=HR.out
         rw[HS.out] at hr
         rw[←hr]
         rfl)
        obtain⟨aw,cq,rfl⟩:∃ aw cq,u5=.slice aw 0 cq:=by
         rcases H'.out.own.row.2 with ⟨rfl,_⟩ | ⟨g,cap,cur,rfl,_⟩
         ·exact⟨_,_,rfl⟩
         ·exact⟨_,_,rfl⟩
        go_wp2
        go_ret3
        rw[HRR.out]
        exact⟨_,[],rfl,LOwn.nil _ _,rfl,H'.out.below.trans (HB3.out.mono hbs2)⟩
       ·have hrow:=H'.out.own.row
        rw[List.concat_eq_append,List.length_append] at hrow
        obtain⟨g,cap,rfl,hg1,hg2,hcap,hcapm⟩:=own_form hrow (by simp)
        clear hrow
        have hQn:=H'.out.count
        rw[List.concat_eq_append,List.length_append] at hQn
        have hff:=(H'.out.few (a,x,vl) (by simp))
        have hx0:0<x.length:=hff.1
        have hxx:x.length≤64:=hff.2
        clear hff
        have hfrw:=HO.out.frozenAt 0
        have hext:(bs (43::t0)).extract 1 (bs (43::t0)).size=bs t0:=extract_drop (bs (43::t0)) 1
        have hgw3:wr.heap.size≤gw:=by omega
        have HB4:=aside ((H'.out.below.trans ((HB3.out.setCell (p:=⟨gw,0,none⟩) hgw3 (.string (bs t0))).mono hbs2)))
        have HP4:=aside (show LOwn (w3.setCell ⟨gw,0,none⟩ (.string (bs t0))) w.heap.size (.slice (some ⟨g,0,none⟩) (Q.length+1) cap) (Q++[(a,x,vl)]) by
         have:=H'.out.own.below (HB3.out.setCell (p:=⟨gw,0,none⟩) hgw3 (.string (bs t0)))
         rwa [List.concat_eq_append] at this)
        have hfew:=aside (show ∀ p∈Q,0<p.2.1.length∧p.2.1.length≤64 from fun p hp=>H'.out.few p (by simp [hp]))
        have hQc:Q.length+1≤n+1:=by have:[(a,x,vl)].length=1:=rfl;omega
        have HSS:=aside (show lexStep n (said (Q.concat (a,x,vl))) (pre t 10)=if 64<(x++plusWords ((43::t0)::xs)).length then (7,[]) else (0,said Q++[(a,x++plusWords ((43::t0)::xs))]) by
         rw[HS.out,stepWords_plus,List.concat_eq_append,said_snoc,addLast_snoc,lastLen_snoc,if_neg (by simp)])
        simp only[maxLen] at hcapm
        by_cases ht0':t0=[]
        ·subst ht0'
         have hne3:(bs []).toList.isEmpty=true:=by
          rw[ByteArray.toList_eq]
          rfl
         have hN1:xs.length+1=N:=HNN.out
         have hst0:=(HO.out.stored 0 (.string (bs []))).1.cells (g:=gw) rfl
         by_cases hcw1:cw=1
         ·have hxs:xs=[]:=List.length_eq_zero_iff.1 (by omega)
          obtain rfl:N=1:=by omega
          subst hcw1
          have HYY:=aside (show List.length ([]:List (List UInt8))=0 from rfl)
          have HSX:=aside (show lexStep n (said (Q.concat (a,x,vl))) (pre t 10)=if 64<List.length x+0 then (7,[]) else (0,said Q++[(a,x++([]:List (List UInt8)))]) by
           rw[HSS.out,hxs]
           show (if 64<(x++([]:List (List UInt8))).length then _ else _)=_
           rw[List.length_append]
           rfl)
          have HNW:=aside (show ∀ (j:Nat) (u:Value),(strs [])[j]?=some u→(w3.setCell ⟨gw,0,none⟩ (.string (bs []))).cell? ((⟨gw,0,none⟩:Addr).add j)=some u from fun j u h=>by simp [strs] at h)
          clear hst0 hxs
          have hlast:=HP4.out.last
          have hcl:=hlast.1
          have HLA:=aside hlast.2.2
          clear hlast
          go_wp2_with (at_builtin;refine wpList_append_own_at _ rfl (.tmp 67) (.tmp 68) 43 rfl w.heap.size 9 iS _ 1 16 Tryz.underlying43 hiS hS0 hS1 hS2 rfl (by decide) vl (List.length x) (strs x) rfl HLA.out ⟨gw,0,none⟩ 0 0 (strs ([]:List (List UInt8))) rfl ?d1 ?d2 ?d3 ?d4 ?d5 ?d6 ?_)
          case d1=>first | (rw[strs_length,HYY.out];omega) | (rw[strs_length,HYY.out])
          case d2=>exact HNW.out
          case d3=>exact strs_one _
          case d4=>simp only[maxLen];omega
          case d5=>omega
          case d6=>exact HB4.out.size
          intro v5 w5 ho5 hg5 hn5 hat5
          clear hext hfrw hcell0 hne3 hx2 hx' hQn;generalize hLL0:List.length x=M at ho5 hn5 hat5 ⊢
          have hLL:List.length x+0=M:=hLL0
          have hpp:0<M:=by omega
          obtain⟨g5,c5,rfl,hg51,hg52,hc5,hm5⟩:=own_form ho5 hpp
          have ho5':w5.ownsRow w.heap.size 9 1 (.slice (some ⟨g5,0,none⟩) M c5) (List.length x+List.length ([]:List (List UInt8))) (strs x++strs ([]:List (List UInt8))):=by rw[HYY.out,hLL];exact ho5
          have HQ:=aside (HP4.out.grow ho5' hg5 (hat5.imp id fun e=>e.trans (by first | rfl | simp)))
          obtain⟨hcell5,hfr5⟩:=HP4.out.kept hg5
          have HB5:=aside ((HB4.out.grown hg5 HB4.out.size (fun k hk=>(own_lt HLA.out hk).1)).setCell (p:=⟨g,List.length Q*2+1,none⟩) hg1 (.slice (some ⟨g5,0,none⟩) M c5))
          clear ho5 ho5' hg5 hn5 hat5 hcl
          simp only[maxLen] at hm5
          have h64:¬64<M:=by omega
          have h64':¬(64:Int)<((M:Nat):Int):=by omega
          have HRR:=aside (show lexFold (n+1) (said Q++[(a,x++([]:List (List UInt8)))]) (linesOf (post t 10))=R by
           have hr:=HR.out
           rw[HSX.out,hLL,if_neg h64] at hr
           simpa using hr)
          have HXY:=aside (show (x++([]:List (List UInt8))).length≤64 by rw[List.length_append,HYY.out];omega)
          clear h64
          go_wp2
          go_roundw
          case rel=>
           refine⟨post t 10,n+1,Q++[(a,x++([]:List (List UInt8)),.slice (some ⟨g5,0,none⟩) M c5)],rfl,by go_num,⟨HQ.out,HB5.out,by rw[said_snoc];exact HRR.out,by omega,by omega,by rw[List.length_append];exact hQc,?_⟩⟩
           intro p hp
           rcases List.mem_append.1 hp with hp | hp
           ·exact hfew.out p hp
           ·rw[List.mem_singleton] at hp
            subst hp
            exact⟨by rw[List.length_append,HYY.out,hLL];exact hpp,HXY.out⟩
          case measure=>exact hpo
         ·have HYY:=aside (show xs.length=N-1 by omega)
          have HSX:=aside (show lexStep n (said (Q.concat (a,x,vl))) (pre t 10)=if 64<List.length x+(N-1) then (7,[]) else (0,said Q++[(a,x++xs)]) by
           rw[HSS.out]
           show (if 64<(x++xs).length then _ else _)=_
           rw[List.length_append,HYY.out]
           rfl)
          have hcw2:1<cw:=by omega
          have HNW:=aside (show ∀ (j:Nat) (u:Value),(strs xs)[j]?=some u→(w3.setCell ⟨gw,0,none⟩ (.string (bs []))).cell? ((⟨gw,1,none⟩:Addr).add j)=some u by
           intro j u h
           have:=hst0 (j+1) u (by simpa [strs] using h)
           cases j <;> simpa [Addr.add,Nat.add_comm] using this)
          clear hst0
          have hlast:=HP4.out.last
          have hcl:=hlast.1
          have HLA:=aside hlast.2.2
          clear hlast
          go_wp2_with (at_builtin;refine wpList_append_own_at _ rfl (.tmp 67) (.tmp 68) 43 rfl w.heap.size 9 iS _ 1 16 Tryz.underlying43 hiS hS0 hS1 hS2 rfl (by decide) vl (List.length x) (strs x) rfl HLA.out ⟨gw,1,none⟩ (N-1) (cw-1) (strs xs) rfl ?d1 ?d2 ?d3 ?d4 ?d5 ?d6 ?_)
          case d1=>first | (rw[strs_length,HYY.out];omega) | (rw[strs_length,HYY.out])
          case d2=>exact HNW.out
          case d3=>exact strs_one _
          case d4=>simp only[maxLen];omega
          case d5=>omega
          case d6=>exact HB4.out.size
          intro v5 w5 ho5 hg5 hn5 hat5
          clear hext hfrw hcell0 hne3 hx2 hx' hQn;generalize hLL0:List.length x+(N-1)=M at ho5 hn5 hat5 ⊢
          have hLL:List.length x+(N-1)=M:=hLL0
          have hpp:0<M:=by omega
          obtain⟨g5,c5,rfl,hg51,hg52,hc5,hm5⟩:=own_form ho5 hpp
          have ho5':w5.ownsRow w.heap.size 9 1 (.slice (some ⟨g5,0,none⟩) M c5) (List.length x+List.length xs) (strs x++strs xs):=by rw[HYY.out,hLL];exact ho5
          have HQ:=aside (HP4.out.grow ho5' hg5 (hat5.imp id fun e=>e.trans (by first | rfl | simp)))
          obtain⟨hcell5,hfr5⟩:=HP4.out.kept hg5
          have HB5:=aside ((HB4.out.grown hg5 HB4.out.size (fun k hk=>(own_lt HLA.out hk).1)).setCell (p:=⟨g,List.length Q*2+1,none⟩) hg1 (.slice (some ⟨g5,0,none⟩) M c5))
          clear ho5 ho5' hg5 hn5 hat5 hcl
          simp only[maxLen] at hm5
          by_cases h64:64<M
          ·have h64':(64:Int)<((M:Nat):Int):=by omega
           have HRR:=aside (show R=([],(n:Int),7) by
            have hr:=HR.out
            rw[HSX.out,hLL,if_pos h64] at hr
            rw[←hr]
            rfl)
           clear h64
           go_wp2
           go_ret3
           rw[HRR.out]
           exact⟨_,[],rfl,LOwn.nil _ _,rfl,HB5.out⟩
          ·have h64':¬(64:Int)<((M:Nat):Int):=by omega
           have HRR:=aside (show lexFold (n+1) (said Q++[(a,x++xs)]) (linesOf (post t 10))=R by
            have hr:=HR.out
            rw[HSX.out,hLL,if_neg h64] at hr
            simpa using hr)
           have HXY:=aside (show (x++xs).length≤64 by rw[List.length_append,HYY.out];omega)
           clear h64
           go_wp2
           go_roundw
           case rel=>
            refine⟨post t 10,n+1,Q++[(a,x++xs,.slice (some ⟨g5,0,none⟩) M c5)],rfl,by go_num,⟨HQ.out,HB5.out,by rw[said_snoc];exact HRR.out,by omega,by omega,by rw[List.length_append];exact hQc,?_⟩⟩
            intro p hp
            rcases List.mem_append.1 hp with hp | hp
            ·exact hfew.out p hp
            ·rw[List.mem_singleton] at hp
             subst hp
             exact⟨by rw[List.length_append,HYY.out,hLL];exact hpp,HXY.out⟩
           case measure=>exact hpo
        ·have hne3:(bs t0).toList.isEmpty=false:=by
          rw[ByteArray.toList_eq]
          exact List.isEmpty_eq_false_iff.2 ht0'
         have hpw:plusWords ((43::t0)::xs)=t0::xs:=by
          show (if t0.isEmpty then xs else t0::xs)=_
          rw[List.isEmpty_eq_false_iff.2 ht0']
          rfl
         have HYY:=aside (show (t0::xs).length=N from HNN.out)
         have HSX:=aside (show lexStep n (said (Q.concat (a,x,vl))) (pre t 10)=if 64<List.length x+N then (7,[]) else (0,said Q++[(a,x++(t0::xs))]) by
          rw[HSS.out,hpw,List.length_append,HYY.out])
         have HNW:=aside ((HO.out.stored 0 (.string (bs t0))).1.cells (g:=gw) rfl)
         clear ht0' hpw
         have hlast:=HP4.out.last
         have hcl:=hlast.1
         have HLA:=aside hlast.2.2
         clear hlast
         go_wp2_with (at_builtin;refine wpList_append_own_at _ rfl (.tmp 67) (.tmp 68) 43 rfl w.heap.size 9 iS _ 1 16 Tryz.underlying43 hiS hS0 hS1 hS2 rfl (by decide) vl (List.length x) (strs x) rfl HLA.out ⟨gw,0,none⟩ N cw (strs (t0::xs)) rfl ?d1 ?d2 ?d3 ?d4 ?d5 ?d6 ?_)
         case d1=>first | (rw[strs_length,HYY.out];omega) | (rw[strs_length,HYY.out])
         case d2=>exact HNW.out
         case d3=>exact strs_one _
         case d4=>simp only[maxLen];omega
         case d5=>omega
         case d6=>exact HB4.out.size
         intro v5 w5 ho5 hg5 hn5 hat5
         clear hext hfrw hcell0 hne3 hx2 hx' hQn;generalize hLL0:List.length x+N=M at ho5 hn5 hat5 ⊢
         have hLL:List.length x+N=M:=hLL0
         have hpp:0<M:=by omega
         obtain⟨g5,c5,rfl,hg51,hg52,hc5,hm5⟩:=own_form ho5 hpp
         have ho5':w5.ownsRow w.heap.size 9 1 (.slice (some ⟨g5,0,none⟩) M c5) (List.length x+List.length (t0::xs)) (strs x++strs (t0::xs)):=by rw[HYY.out,hLL];exact ho5
         have HQ:=aside (HP4.out.grow ho5' hg5 (hat5.imp id fun e=>e.trans (by first | rfl | simp)))
         obtain⟨hcell5,hfr5⟩:=HP4.out.kept hg5
         have HB5:=aside ((HB4.out.grown hg5 HB4.out.size (fun k hk=>(own_lt HLA.out hk).1)).setCell (p:=⟨g,List.length Q*2+1,none⟩) hg1 (.slice (some ⟨g5,0,none⟩) M c5))
         clear ho5 ho5' hg5 hn5 hat5 hcl
         simp only[maxLen] at hm5
         by_cases h64:64<M
         ·have h64':(64:Int)<((M:Nat):Int):=by omega
          have HRR:=aside (show R=([],(n:Int),7) by
           have hr:=HR.out
           rw[HSX.out,hLL,if_pos h64] at hr
           rw[←hr]
           rfl)
          clear h64
          go_wp2
          go_ret3
          rw[HRR.out]
          exact⟨_,[],rfl,LOwn.nil _ _,rfl,HB5.out⟩
         ·have h64':¬(64:Int)<((M:Nat):Int):=by omega
          have HRR:=aside (show lexFold (n+1) (said Q++[(a,x++(t0::xs))]) (linesOf (post t 10))=R by
           have hr:=HR.out
           rw[HSX.out,hLL,if_neg h64] at hr
           simpa using hr)
          have HXY:=aside (show (x++(t0::xs)).length≤64 by rw[List.length_append,HYY.out];omega)
          clear h64
          go_wp2
          go_roundw
          case rel=>
           refine⟨post t 10,n+1,Q++[(a,x++(t0::xs),.slice (some ⟨g5,0,none⟩) M c5)],rfl,by go_num,⟨HQ.out,HB5.out,by rw[said_snoc];exact HRR.out,by omega,by omega,by rw[List.length_append];exact hQc,?_⟩⟩
           intro p hp
           rcases List.mem_append.1 hp with hp | hp
           ·exact hfew.out p hp
           ·rw[List.mem_singleton] at hp
            subst hp
            exact⟨by rw[List.length_append,HYY.out,hLL];exact hpp,HXY.out⟩
          case measure=>exact hpo
      ·have hx:¬(((bs (c0::t0))[0]'hs0).toNat:Int)=43:=by
        intro h
        apply hb
        rw[←UInt8.toNat_inj]
        have h2:(c0.toNat:Int)=43:=h
        show c0.toNat=43
        omega
       have hx':((((bs (c0::t0))[0]'hs0).toNat:Int) != 43)=true:=bne_iff_ne.2 hx
       have hx2:((((bs (c0::t0))[0]'hs0).toNat:Int)==43)=false:=beq_eq_false_iff_ne.2 hx
       clear hx
       have HS2:=aside (HS.out.trans (stepWords_new _ _ _ _ _ hb))
       have HO1:=aside (H'.out.own.below HB3.out).row
       have hcnt:=H'.out.count
       have hbs:=HB3.out.size
       have hbs2:=H'.out.below.size
       go_wp2_with (at_builtin;refine wpList_append_own_at _ rfl (.tmp 37) (.tmp 40) 86 rfl w.heap.size 94 iL _ 2 32 Tryz.underlying86 hiL hL0 hL1 hL2 rfl (by decide) u5 P.length (cellsOf P) rfl (HO1.out.alloc _) ⟨w3.heap.size,0,none⟩ 1 1 [.int .i64 n,.slice none 0 0] rfl rfl ?c1 ?c2 ?c3 ?c4 ?c5 ?_)
       case c1=>exact cell_two _ _ _ _
       case c2=>
        intro u hu
        simp only[List.mem_cons,List.mem_nil_iff,or_false] at hu
        rcases hu with rfl | rfl <;> rfl
       case c3=>simp only[maxLen];omega
       case c4=>omega
       case c5=>simp;omega
       intro v1 w4 ho4 hg4 hn4 hat4
       obtain⟨g,cap,rfl,hg1,hg2,hcap,hcapm⟩:=own_form ho4 (by omega)
       have HP4:=aside (LOwn.push ((H'.out.own.below HB3.out).alloc (.cells #[.int .i64 n,.slice none 0 0] 94)) n ho4 hg4)
       have HOW:=aside (own_grown (HO.out.alloc (.cells #[.int .i64 n,.slice none 0 0] 94)) hg4 (by
        have:=own_ne HO.out HO1.out (by decide)
        simpa [Value.ownBlock] using this))
       have HNW:=aside (HOW.out.cells (g:=gw) rfl)
       have HB4:=aside ((((H'.out.below.trans (HB3.out.mono hbs2)).alloc (by omega) (.cells #[.int .i64 n,.slice none 0 0] 94))).grown hg4 (by simp;omega) (fun k hk=>(own_lt HO1.out hk).1))
       clear hg4 ho4 hat4 hn4
       simp only[maxLen] at hcapm
       have HSX:=aside (show lexStep n (said P) (pre t 10)=if 64<List.length ([]:List (List UInt8))+N then (7,[]) else (0,said P++[(n,[]++((c0::t0)::xs))]) by rw[HS2.out,HNN.out];simp)
       have HYY:=aside HNN.out
       have hxx:List.length ([]:List (List UInt8))≤64:=Nat.zero_le _
       have hfew:=aside (show ∀ p∈P,0<p.2.1.length∧p.2.1.length≤64 from H'.out.few)
       have hQc:P.length+1≤n+1:=by omega
       have hlast:=HP4.out.last
       have hcl:=hlast.1
       have HLA:=aside hlast.2.2
       clear hlast
       go_wp2_with (at_builtin;refine wpList_append_own_at _ rfl (.tmp 67) (.tmp 68) 43 rfl w.heap.size 9 iS _ 1 16 Tryz.underlying43 hiS hS0 hS1 hS2 rfl (by decide) (.slice none 0 0) (List.length ([]:List (List UInt8))) (strs ([]:List (List UInt8))) rfl HLA.out ⟨gw,0,none⟩ N cw (strs ((c0::t0)::xs)) rfl ?d1 ?d2 ?d3 ?d4 ?d5 ?d6 ?_)
       case d1=>first | (rw[strs_length,HYY.out];omega) | (rw[strs_length,HYY.out])
       case d2=>exact HNW.out
       case d3=>exact strs_one _
       case d4=>simp only[maxLen];omega
       case d5=>omega
       case d6=>exact HB4.out.size
       intro v5 w5 ho5 hg5 hn5 hat5
       skip
       have hLL:List.length ([]:List (List UInt8))+N=N:=by simp
       have hpp:0<N:=by omega
       obtain⟨g5,c5,rfl,hg51,hg52,hc5,hm5⟩:=own_form ho5 hpp
       have ho5':w5.ownsRow w.heap.size 9 1 (.slice (some ⟨g5,0,none⟩) N c5) (List.length ([]:List (List UInt8))+List.length ((c0::t0)::xs)) (strs ([]:List (List UInt8))++strs ((c0::t0)::xs)):=by rw[HYY.out,hLL];exact ho5
       have HQ:=aside (HP4.out.grow ho5' hg5 (hat5.imp id fun e=>e.trans (by first | rfl | simp)))
       obtain⟨hcell5,hfr5⟩:=HP4.out.kept hg5
       have HB5:=aside ((HB4.out.grown hg5 HB4.out.size (fun k hk=>(own_lt HLA.out hk).1)).setCell (p:=⟨g,List.length P*2+1,none⟩) hg1 (.slice (some ⟨g5,0,none⟩) N c5))
       clear ho5 ho5' hg5 hn5 hat5 hcl
       simp only[maxLen] at hm5
       by_cases h64:64<N
       ·have h64':(64:Int)<((N:Nat):Int):=by omega
        have HRR:=aside (show R=([],(n:Int),7) by
         have hr:=HR.out
         rw[HSX.out,hLL,if_pos h64] at hr
         rw[←hr]
         rfl)
        clear h64
        go_wp2
        go_ret3
        rw[HRR.out]
        exact⟨_,[],rfl,LOwn.nil _ _,rfl,HB5.out⟩
       ·have h64':¬(64:Int)<((N:Nat):Int):=by omega
        have HRR:=aside (show lexFold (n+1) (said P++[(n,([]:List (List UInt8))++((c0::t0)::xs))]) (linesOf (post t 10))=R by
         have hr:=HR.out
         rw[HSX.out,hLL,if_neg h64] at hr
         simpa using hr)
        have HXY:=aside (show (([]:List (List UInt8))++((c0::t0)::xs)).length≤64 by rw[List.length_append,HYY.out];omega)
        clear h64
        go_wp2
        go_roundw
        case rel=>
         refine⟨post t 10,n+1,P++[(n,([]:List (List UInt8))++((c0::t0)::xs),.slice (some ⟨g5,0,none⟩) N c5)],rfl,by go_num,⟨HQ.out,HB5.out,by rw[said_snoc];exact HRR.out,by omega,by omega,by rw[List.length_append];exact hQc,?_⟩⟩
         intro p hp
         rcases List.mem_append.1 hp with hp | hp
         ·exact hfew.out p hp
         ·rw[List.mem_singleton] at hp
          subst hp
          exact⟨by rw[List.length_append,HYY.out,hLL];exact hpp,HXY.out⟩
        case measure=>exact hpo
    ·have hc':cleanL (pre t 10)=false:=by simpa using hc
     have HRR:=aside (show R=([],(n:Int),60) by
      have hr:=HR.out
      rw[lexStep,if_neg hc] at hr
      rw[←hr]
      rfl)
     rw[hc'] at HL
     clear hc hc'
     go_wp2_with fail
     refine (HL.out _).mono ?_
     rintro e w2 ⟨rfl,hb2⟩
     have HB2:=aside (below_of_drewN hb2)
     clear hb2
     go_wp2
     go_ret3
     rw[HRR.out]
     exact⟨_,[],rfl,LOwn.nil _ _,rfl,H'.out.below.trans (HB2.out.mono H'.out.below.size)⟩
end LexF
namespace LexN
open Go Go.RowKit Ax Base LexB LexM LexD LexF
open LexE hiding W
variable {P:Program}
theorem row_rel {k:KW} {w:World} {B e sz n:Nat} {v:Value} {xs:List Value} {c:List AV} (h:w.ownsRow B e sz v n xs) (hc:RelL k c xs) (hS:∀ a u,B≤a.block→w.cell? a=some u→k.S a=some u):Rel k (.sl n c) v:=by
 have h0:=h
 rcases h.2 with ⟨rfl,rfl⟩ | ⟨g,cap,cur,rfl,hb,hg,hc',hm,hz,ht⟩
 ·have h1:=h.1
  have h2:=hc.1
  have:c=[]:=List.eq_nil_of_length_eq_zero (by omega)
  subst this
  exact .sl0 none 0
 ·refine .sl n cap c _ (fun j=>xs.getD j undef) hc' (fun j hj=>hS _ _ (by rw[Addr.add_lit];exact hb) ?_) (fun j z hz=>?_)
  ·have hj':j<xs.length:=by rw[hc.1];exact hj
   rw[Addr.add_lit,Nat.zero_add,h0.cellAt j (by rw[←h0.1];exact hj')]
   simp [List.getD,List.getElem?_eq_getElem hj']
  ·have hj':j<xs.length:=by rw[hc.1];exact(List.getElem?_eq_some_iff.1 hz).1
   refine hc.2 j z _ hz ?_
   simp [List.getD,List.getElem?_eq_getElem hj']
def SC (ws:W):List AV:=ws.map fun x=>.v (.string (bs x))
def WV (ws:W):AV:=.sl ws.length (SC ws)
def LC (L:LL):List AV:=L.flatMap fun p=>[.v (.int .i64 p.1),WV p.2]
def LV (L:LL):AV:=.sl L.length (LC L)
theorem idfL_strs (ws:W):idf.idfL (SC ws)=true:=by
 rw[idfL_iff]
 intro z hz
 obtain⟨x,_,rfl⟩:=List.mem_map.1 hz
 rfl
theorem wv_idf (ws:W):idf (WV ws)=true:=idfL_strs ws
theorem lv_idf (L:LL):idf (LV L)=true:=by
 show idf.idfL (LC L)=true
 rw[idfL_iff]
 intro z hz
 obtain⟨p,_,hz⟩:=List.mem_flatMap.1 hz
 rcases List.mem_cons.1 hz with rfl | hz
 ·rfl
 ·rcases List.mem_cons.1 hz with rfl | hz
  ·exact wv_idf _
  ·cases hz
theorem relL_strs (k:KW) (ws:W):RelL k (SC ws) (strs ws):=by
 refine⟨by simp [SC,strs],fun j z u hz hu=>?_⟩
 simp only[SC,strs,List.getElem?_map,Option.map_eq_some_iff] at hz hu
 obtain⟨x,hx,rfl⟩:=hz
 obtain⟨y,hy,rfl⟩:=hu
 rw[hx] at hy
 injection hy with hy
 subst hy
 exact .v _
theorem relL_two {k:KW} {a b:AV} {x y:Value} (h:Rel k a x) (g:Rel k b y):RelL k [a,b] [x,y]:=⟨rfl,fun j z u hz hu=>by
 match j with
 | 0=>simp at hz hu;subst hz hu;exact h
 | 1=>simp at hz hu;subst hz hu;exact g
 | j+2=>simp at hz⟩
theorem lines_rel {k:KW} {w:World} {B:Nat} {v:Value} {P:List Piece} (h:LOwn w B v P) (hS:∀ a u,B≤a.block→w.cell? a=some u→k.S a=some u):Rel k (LV (said P)) v:=by
 have hl:(said P).length=P.length:=by simp [said]
 have key:∀ Q:List Piece,(∀ p∈Q,w.ownsRow B 9 1 p.2.2 p.2.1.length (strs p.2.1))→RelL k (LC (said Q)) (cellsOf Q):=by
  intro Q
  induction Q with
  | nil=>exact fun _=>⟨rfl,fun j z u hz=>by cases hz⟩
  | cons p Q ih=>
   intro hq
   have e1:cellsOf (p::Q)=[.int .i64 p.1,p.2.2]++cellsOf Q:=by simp [cellsOf]
   have e2:LC (said (p::Q))=[.v (.int .i64 p.1),WV p.2.1]++LC (said Q):=by simp [LC,said]
   rw[e1,e2]
   exact(relL_two (.v _) (row_rel (hq p (by simp)) (relL_strs k _) hS)).append (ih fun q hq'=>hq q (by simp [hq']))
 unfold LV
 rw[hl]
 exact row_rel h.row (key P h.inner) hS
theorem relL_three {k:KW} {a b c:AV} {x y z:Value} (h:Rel k a x) (g:Rel k b y) (f:Rel k c z):RelL k [a,b,c] [x,y,z]:=⟨rfl,fun j p u hz hu=>by
 match j with
 | 0=>simp at hz hu;subst hz hu;exact h
 | 1=>simp at hz hu;subst hz hu;exact g
 | 2=>simp at hz hu;subst hz hu;exact f
 | j+3=>simp at hz⟩
def RV (R:LL × Int × Int):AV:=.tp [LV R.1,.v (.int .i64 R.2.1),.v (.int .i64 R.2.2)]
theorem lines_pc (t:List UInt8):PCall Tryz.prog 45 [.v (.string (bs t))] (RV (lexAll t)):=by
 refine pcall_mem (us:=[.string (bs t)]) ?_ (enters_of Tryz.func45 (by kernel_rfl) rfl) fun w=>(lines_any t w).mono ?_
 ·show (idf (LV _)&&true)=true
  rw[lv_idf]
  rfl
 ·rintro en w' ⟨v,P,rfl,ho,hsd,hb⟩
  refine⟨_,rfl,hb,fun k hS=>?_⟩
  obtain⟨h1,h2⟩:=relL_three (lines_rel ho hS) (.v (.int .i64 (lexAll t).2.1)) (.v (.int .i64 (lexAll t).2.2))
  rw[hsd] at h2 h1
  exact .tp _ _ h1 h2
end LexN
namespace LexR
open Go.RowKit Base LexA LexB LexM LexE
theorem linesGo_run:∀ (x cur t:List UInt8),(∀ b∈x,(b==10)=false)→linesGo cur (x++t)=linesGo (cur++x) t
 | [],cur,t,_=>by simp
 | b::x,cur,t,h=>by
  rw[List.cons_append,linesGo,h b (by simp)]
  simp only[Bool.false_eq_true,if_false]
  rw[linesGo_run x (cur++[b]) t (fun b hb=>h b (by simp [hb]))]
  simp
theorem linesGo_ten (cur t:List UInt8):linesGo cur (10::t)=cur::linesGo [] t:=by
 rw[linesGo]
 rfl
theorem pre_none:∀ (c:List UInt8),¬(59:UInt8)∈c→pre c 59=c
 | [],_=>rfl
 | b::c,h=>by
  have h2:(b != 59)=true:=by
   have:b≠59:=fun e=>h (by simp [e])
   simpa using this
  have ih:=pre_none c (fun e=>h (by simp [e]))
  unfold pre at ih ⊢
  rw[List.takeWhile_cons,if_pos h2,ih]
theorem lexFold_cons (n:Nat) (L:LL) (x:List UInt8) (xs:List (List UInt8)):lexFold n L (x::xs)=if (lexStep n L x).1=0 then lexFold (n+1) (lexStep n L x).2 xs else ([],n,(lexStep n L x).1):=rfl
end LexR
namespace LexT
open Go.RowKit Base LexA LexB LexM LexE LexR
theorem lexAll_short (t:List UInt8) (h:t.length≤65536):lexAll t=lexFold 1 [] (linesGo [] t):=by
 unfold lexAll
 rw[if_neg (by omega)]
 rfl
end LexT
namespace LexP
open Go.RowKit Base LexA LexB LexM LexE
theorem all_bytes (p:UInt8→Bool) (h:((List.range 256).all fun n=>p (UInt8.ofNat n))=true) (b:UInt8):p b=true:=by
 have h1:=List.all_eq_true.1 h b.toNat (List.mem_range.2 b.toNat_lt)
 rwa [UInt8.ofNat_toNat] at h1
end LexP
namespace LexX
open Go.RowKit Base LexA LexB LexM LexE LexR LexT
open LexP (all_bytes)
def okW (b:UInt8):Bool:=33≤b&&b≤126&&!(b==59)&&!(65≤b&&b≤90)
def goodWord (x:List UInt8):Prop:=x≠[]∧(∀ b∈x,okW b=true)∧x.length≤65536
def goodLine (ws:W):Prop:=(∃ c t r,ws=(c::t)::r∧¬c=42∧¬c=43)∧(∀ x∈ws,goodWord x)∧ws.length≤64
def goodAll (n:Nat) (L:LL):Prop:=(∀ p∈L,goodLine p.2∧1≤p.1∧p.1<n)∧L.Pairwise fun p q=>p.1<q.1
theorem okW_of (b:UInt8) (h1:okB b=true) (h2:¬b=59) (h3:blankB (Lib.lowerB b)=false):okW (Lib.lowerB b)=true:=by
 have:=all_bytes (fun b=>!(okB b)||b==59||blankB (Lib.lowerB b)||okW (Lib.lowerB b)) (by decide +kernel) b
 simp only[h1,h3,Bool.not_true,Bool.false_or,Bool.or_false,Bool.or_eq_true,beq_iff_eq] at this
 rcases this with this | this
 ·exact absurd this h2
 ·exact this
theorem okW_facts (b:UInt8) (h:okW b=true):okB b=true∧¬b=59∧blankB b=false∧Lib.lowerB b=b∧¬b=10:=by
 have:=all_bytes (fun b=>!(okW b)||(okB b&&!(b==59)&&!(blankB b)&&Lib.lowerB b==b&&!(b==10))) (by decide +kernel) b
 simp only[h,Bool.not_true,Bool.false_or,Bool.and_eq_true,Bool.not_eq_true',beq_iff_eq,beq_eq_false_iff_ne,ne_eq] at this
 exact⟨this.1.1.1.1,this.1.1.1.2,this.1.1.2,this.1.2,this.2⟩
theorem fieldsGo_mem:∀ (l cur:List UInt8),∀ x∈fieldsGo cur l,∀ b∈x,(b∈cur∨(b∈l∧blankB b=false))
 | [],cur,x,hx,b,hb=>by
  rw[fieldsGo] at hx
  split at hx
  ·simp at hx
  ·rw[List.mem_singleton] at hx
   subst hx
   exact .inl hb
 | a::l,cur,x,hx,b,hb=>by
  rw[fieldsGo] at hx
  split at hx
  ·split at hx
   ·rcases fieldsGo_mem l [] x hx b hb with h | ⟨h,h2⟩
    ·simp at h
    ·exact .inr ⟨List.mem_cons_of_mem _ h,h2⟩
   ·rcases List.mem_cons.1 hx with rfl | hx
    ·exact .inl hb
    ·rcases fieldsGo_mem l [] x hx b hb with h | ⟨h,h2⟩
     ·simp at h
     ·exact .inr ⟨List.mem_cons_of_mem _ h,h2⟩
  ·rename_i hbl
   rcases fieldsGo_mem l (cur++[a]) x hx b hb with h | ⟨h,h2⟩
   ·rcases List.mem_append.1 h with h | h
    ·exact .inl h
    ·rw[List.mem_singleton] at h
     subst h
     exact .inr ⟨List.mem_cons_self,by simpa using hbl⟩
   ·exact .inr ⟨List.mem_cons_of_mem _ h,h2⟩
theorem fieldsGo_len:∀ (l cur:List UInt8),∀ x∈fieldsGo cur l,x.length≤cur.length+l.length
 | [],cur,x,hx=>by
  rw[fieldsGo] at hx
  split at hx
  ·simp at hx
  ·rw[List.mem_singleton] at hx
   subst hx
   simp
 | a::l,cur,x,hx=>by
  rw[fieldsGo] at hx
  split at hx
  ·split at hx
   ·have:=fieldsGo_len l [] x hx
    simp at this ⊢
    omega
   ·rcases List.mem_cons.1 hx with rfl | hx
    ·simp
    ·have:=fieldsGo_len l [] x hx
     simp at this ⊢
     omega
  ·have:=fieldsGo_len l (cur++[a]) x hx
   simp at this ⊢
   omega
theorem linesGo_len:∀ (l cur:List UInt8),∀ x∈linesGo cur l,x.length≤cur.length+l.length
 | [],cur,x,hx=>by
  rw[linesGo] at hx
  split at hx
  ·simp at hx
  ·rw[List.mem_singleton] at hx
   subst hx
   simp
 | a::l,cur,x,hx=>by
  rw[linesGo] at hx
  split at hx
  ·rcases List.mem_cons.1 hx with rfl | hx
   ·simp
   ·have:=linesGo_len l [] x hx
    simp at this ⊢
    omega
  ·have:=linesGo_len l (cur++[a]) x hx
   simp at this ⊢
   omega
theorem pre_mem:∀ (l:List UInt8),∀ b∈pre l 59,b∈l∧¬b=59
 | [],b,hb=>by simp [pre] at hb
 | a::l,b,hb=>by
  unfold pre at hb
  rw[List.takeWhile_cons] at hb
  split at hb
  ·rename_i h
   rcases List.mem_cons.1 hb with rfl | hb
   ·exact⟨List.mem_cons_self,by simpa using h⟩
   ·have:=pre_mem l b hb
    exact⟨List.mem_cons_of_mem _ this.1,this.2⟩
  ·simp at hb
theorem lexWords_good (l:List UInt8) (hc:cleanL l=true) (hl:l.length≤65536):∀ x∈lexWords l,goodWord x:=by
 intro x hx
 have hx2:x∈fieldsB ((pre l 59).map Lib.lowerB):=by
  unfold lexWords at hx
  split at hx
  ·simp at hx
  ·exact hx
 refine⟨lexWords_ne l x hx,?_,?_⟩
 case refine_2=>
  have h1:=fieldsGo_len _ [] x hx2
  rw[List.length_map] at h1
  have h2:=pre_length l 59
  simp only[List.length_nil] at h1
  omega
 intro b hb
 rcases fieldsGo_mem _ [] x hx2 b hb with h | ⟨h,h2⟩
 ·simp at h
 ·obtain⟨a,ha,rfl⟩:=List.mem_map.1 h
  obtain⟨h3,h4⟩:=pre_mem l a ha
  exact okW_of a (List.all_eq_true.1 hc a h3) h4 h2
theorem lexWords_star (l:List UInt8) (c:UInt8) (t:List UInt8) (r:W) (h:lexWords l=(c::t)::r):¬c=42:=by
 rintro rfl
 unfold lexWords at h
 split at h
 ·cases h
 ·rename_i h2
  exact h2 t r h
theorem goodLine_add (x y:W) (hx:goodLine x) (hy:∀ w∈y,goodWord w) (hl:(x++y).length≤64):goodLine (x++y):=by
 obtain⟨⟨c,t,r,rfl,h1,h2⟩,h3,_⟩:=hx
 refine⟨⟨c,t,r++y,rfl,h1,h2⟩,?_,hl⟩
 intro w hw
 rcases List.mem_append.1 hw with hw | hw
 ·exact h3 w hw
 ·exact hy w hw
theorem plusWords_good (w:W) (hw:∀ x∈w,goodWord x):∀ x∈plusWords w,goodWord x:=by
 intro x hx
 unfold plusWords at hx
 split at hx
 ·rename_i b t ws
  split at hx
  ·exact hw x (List.mem_cons_of_mem _ hx)
  ·rename_i ht
   rcases List.mem_cons.1 hx with rfl | hx
   ·refine⟨by simpa using ht,fun c hc=>?_,by have:=(hw (b::x) List.mem_cons_self).2.2;rw[List.length_cons] at this;omega⟩
    exact(hw (b::x) List.mem_cons_self).2.1 c (List.mem_cons_of_mem _ hc)
   ·exact hw x (List.mem_cons_of_mem _ hx)
 ·exact hw x hx
theorem goodAll_succ (n:Nat) (L:LL) (h:goodAll n L):goodAll (n+1) L:=⟨fun p hp=>⟨(h.1 p hp).1,(h.1 p hp).2.1,by have:=(h.1 p hp).2.2;omega⟩,h.2⟩
theorem lexStep_good (n:Nat) (L:LL) (x:List UInt8) (hxl:x.length≤65536) (hn:1≤n) (h:goodAll n L) (h0:(lexStep n L x).1=0):goodAll (n+1) (lexStep n L x).2:=by
 unfold lexStep at h0 ⊢
 by_cases hc:cleanL x=true
 ·rw[if_pos hc] at h0 ⊢
  have hw:=lexWords_good x hc hxl
  have hs:=lexWords_star x
  generalize lexWords x=w at *
  cases w with
  | nil=>exact goodAll_succ n L h
  | cons x0 xs=>
   obtain⟨c0,t0,rfl⟩:=List.exists_cons_of_ne_nil (hw x0 List.mem_cons_self).1
   by_cases h43:c0=43
   ·subst h43
    rw[stepWords_plus] at h0 ⊢
    rcases List.eq_nil_or_concat L with rfl | ⟨Q,⟨a,y⟩,rfl⟩
    ·simp at h0
    ·rw[List.concat_eq_append] at *
     have e:(Q++[(a,y)]).isEmpty=false:=by simp
     rw[e,addLast_snoc,lastLen_snoc] at h0 ⊢
     simp only[Bool.false_eq_true,if_false] at h0 ⊢
     by_cases h64:64<(y++plusWords ((43::t0)::xs)).length
     ·rw[if_pos h64] at h0
      simp at h0
     ·rw[if_neg h64]
      refine⟨?_,?_⟩
      ·intro p hp
       rcases List.mem_append.1 hp with hp | hp
       ·have:=h.1 p (List.mem_append_left _ hp)
        exact⟨this.1,this.2.1,by omega⟩
       ·rw[List.mem_singleton] at hp
        subst hp
        have:=h.1 (a,y) (by simp)
        exact⟨goodLine_add y _ this.1 (plusWords_good _ hw) (by omega),this.2.1,by have:=this.2.2;simp only[] at *;omega⟩
      ·have hp:=List.pairwise_append.1 h.2
       rw[List.pairwise_append]
       refine⟨hp.1,List.pairwise_singleton _ _,fun p hp1 q hq=>?_⟩
       rw[List.mem_singleton] at hq
       subst hq
       exact hp.2.2 p hp1 (a,y) (by simp)
   ·rw[stepWords_new _ _ _ _ _ h43] at h0 ⊢
    by_cases h64:64<((c0::t0)::xs).length
    ·rw[if_pos h64] at h0
     simp at h0
    ·rw[if_neg h64]
     refine⟨?_,?_⟩
     ·intro p hp
      rcases List.mem_append.1 hp with hp | hp
      ·have:=h.1 p hp
       exact⟨this.1,this.2.1,by omega⟩
      ·rw[List.mem_singleton] at hp
       subst hp
       exact⟨⟨⟨c0,t0,xs,rfl,hs c0 t0 xs rfl,h43⟩,hw,Nat.le_of_not_lt h64⟩,hn,by simp⟩
     ·rw[List.pairwise_append]
      refine⟨h.2,List.pairwise_singleton _ _,fun p hp1 q hq=>?_⟩
      rw[List.mem_singleton] at hq
      subst hq
      exact(h.1 p hp1).2.2
 ·rw[if_neg hc] at h0
  simp at h0
theorem lexFold_good:∀ (xs:List (List UInt8)) (n:Nat) (L:LL),(∀ x∈xs,x.length≤65536)→1≤n→goodAll n L→(lexFold n L xs).2.2=0→goodAll (n+xs.length) (lexFold n L xs).1
 | [],n,L,_,_,h,_=>h
 | x::xs,n,L,hl,hn,h,h0=>by
  rw[lexFold_cons] at h0 ⊢
  by_cases h1:(lexStep n L x).1=0
  ·rw[if_pos h1] at h0 ⊢
   have:=lexFold_good xs (n+1) _ (fun y hy=>hl y (List.mem_cons_of_mem _ hy)) (by omega) (lexStep_good n L x (hl x List.mem_cons_self) hn h h1) h0
   rw[List.length_cons,show n+(xs.length+1)=n+1+xs.length by omega]
   exact this
  ·rw[if_neg h1] at h0
   exact absurd h0 h1
theorem lexAll_good (t:List UInt8) (h:(lexAll t).2.2=0):goodAll 65539 (lexAll t).1:=by
 unfold lexAll at h ⊢
 split
 ·rename_i hl
  rw[if_pos hl] at h
  simp at h
 ·rename_i hl
  rw[if_neg hl] at h
  have h1:=lexFold_good (linesOf t) 1 [] (fun x hx=>by have:=linesGo_len t [] x hx;simp at this;omega) (Nat.le_refl _) ⟨by simp,List.Pairwise.nil⟩ h
  have h2:=linesGo_length t []
  unfold linesOf at *
  exact⟨fun p hp=>⟨(h1.1 p hp).1,(h1.1 p hp).2.1,by have:=(h1.1 p hp).2.2;omega⟩,h1.2⟩
/-! Written out again. -/
def joinW:W→List UInt8
 | []=>[]
 | [x]=>x
 | x::y::ws=>x++32::joinW (y::ws)
def outW (L:LL):List UInt8:=L.flatMap fun p=>joinW p.2++[10]
theorem joinW_bytes:∀ (ws:W),(∀ x∈ws,goodWord x)→∀ b∈joinW ws,okW b=true∨b=32
 | [],_,b,hb=>by simp [joinW] at hb
 | [x],h,b,hb=>.inl ((h x (by simp)).2.1 b hb)
 | x::y::ws,h,b,hb=>by
  rw[joinW] at hb
  rcases List.mem_append.1 hb with hb | hb
  ·exact .inl ((h x (by simp)).2.1 b hb)
  ·rcases List.mem_cons.1 hb with hb | hb
   ·exact .inr hb
   ·exact joinW_bytes (y::ws) (fun x hx=>h x (List.mem_cons_of_mem _ hx)) b hb
theorem fieldsGo_run:∀ (x cur r:List UInt8),(∀ b∈x,blankB b=false)→fieldsGo cur (x++r)=fieldsGo (cur++x) r
 | [],cur,r,_=>by simp
 | b::x,cur,r,h=>by
  rw[List.cons_append,fieldsGo_more (by rw[h b (by simp)];decide),fieldsGo_run x _ r (fun b hb=>h b (by simp [hb]))]
  simp
theorem fields_join:∀ (ws:W),(∀ x∈ws,goodWord x)→fieldsGo [] (joinW ws)=ws
 | [],_=>rfl
 | [x],h=>by
  have hx:=h x (by simp)
  have:=fieldsGo_run x [] [] (fun b hb=>(okW_facts b (hx.2.1 b hb)).2.2.1)
  rw[List.append_nil,List.nil_append] at this
  rw[joinW,this,fieldsGo]
  have:x.isEmpty=false:=by simpa using hx.1
  rw[this]
  rfl
 | x::y::ws,h=>by
  have hx:=h x (by simp)
  rw[joinW,fieldsGo_run x [] _ (fun b hb=>(okW_facts b (hx.2.1 b hb)).2.2.1),List.nil_append,fieldsGo_blank (by decide) hx.1]
  rw[fields_join (y::ws) (fun x hx=>h x (List.mem_cons_of_mem _ hx))]
theorem lexWords_join (ws:W) (h:goodLine ws):lexWords (joinW ws)=ws:=by
 have hb:=joinW_bytes ws h.2.1
 have hp:pre (joinW ws) 59=joinW ws:=pre_none _ (fun hm=>by
  rcases hb 59 hm with h | h
  ·exact(okW_facts 59 h).2.1 rfl
  ·exact absurd h (by decide))
 have hl:(joinW ws).map Lib.lowerB=joinW ws:=by
  have:(joinW ws).map Lib.lowerB=(joinW ws).map id:=List.map_congr_left (fun b hm=>by
   rcases hb b hm with h | h
   ·exact(okW_facts b h).2.2.2.1
   ·subst h;decide)
  rw[this,List.map_id]
 unfold lexWords fieldsB
 rw[hp,hl,fields_join ws h.2.1]
 obtain⟨⟨c,t,r,rfl,h1,h2⟩,_,_⟩:=h
 split
 ·rename_i e
  injection e with e1 e2
  injection e1 with e1 e3
  exact absurd e1 h1
 ·rfl
theorem cleanL_join (ws:W) (h:∀ x∈ws,goodWord x):cleanL (joinW ws)=true:=by
 unfold cleanL
 rw[List.all_eq_true]
 intro b hb
 rcases joinW_bytes ws h b hb with h | h
 ·exact(okW_facts b h).1
 ·subst h;decide
theorem lexStep_join (n:Nat) (L:LL) (ws:W) (h:goodLine ws):lexStep n L (joinW ws)=(0,L++[(n,ws)]):=by
 unfold lexStep
 rw[if_pos (cleanL_join ws h.2.1),lexWords_join ws h]
 have h2:=h
 obtain⟨⟨c,t,r,rfl,h1,h3⟩,_,hl⟩:=h
 rw[stepWords_new _ _ _ _ _ h3,if_neg (by omega)]
def numbered:Nat→LL→LL
 | _,[]=>[]
 | n,p::L=>(n,p.2)::numbered (n+1) L
theorem lexFold_join:∀ (L:LL) (n:Nat) (M:LL),(∀ p∈L,goodLine p.2)→lexFold n M (L.map fun p=>joinW p.2)=(M++numbered n L,0,0)
 | [],n,M,_=>by simp [lexFold,numbered]
 | p::L,n,M,h=>by
  rw[List.map_cons,lexFold_cons,lexStep_join n M p.2 (h p (by simp)),if_pos rfl,lexFold_join L (n+1) _ (fun q hq=>h q (List.mem_cons_of_mem _ hq))]
  simp [numbered]
theorem lines_out:∀ (L:LL),(∀ p∈L,goodLine p.2)→linesGo [] (outW L)=L.map fun p=>joinW p.2
 | [],_=>rfl
 | p::L,h=>by
  have e:outW (p::L)=joinW p.2++10::outW L:=by simp [outW]
  have hb:=joinW_bytes p.2 (h p (by simp)).2.1
  rw[e,linesGo_run _ _ _ (fun b hm=>by
   rcases hb b hm with h | h
   ·simpa using (okW_facts b h).2.2.2.2
   ·subst h;decide),linesGo_ten,lines_out L (fun q hq=>h q (List.mem_cons_of_mem _ hq))]
  rfl
theorem lexAll_out (L:LL) (n:Nat) (h:goodAll n L) (hl:(outW L).length≤65536):lexAll (outW L)=(numbered 1 L,0,0):=by
 rw[lexAll_short _ hl,lines_out L (fun p hp=>(h.1 p hp).1),lexFold_join L 1 [] (fun p hp=>(h.1 p hp).1)]
 rfl
theorem numbered_length:∀ (L:LL) (n:Nat),(numbered n L).length=L.length
 | [],_=>rfl
 | p::L,n=>by rw[numbered,List.length_cons,numbered_length L,List.length_cons]
end LexX
namespace NetAF
open Go Go.RowKit Ax Ti NumS NumT CardS CardP CardA CardB CardE CardG CardI CardJ CardK CardL CardN CardX NetS NetA NetE NetM NetN NetO NetQ NetT NetAA NetAB NetAC NetAD NetAE NetF NetJ NetL
open LexE (W LL lexAll lexAll_count)
theorem rTI:type_of% (J21 @ti3 @ti2 @ti4 @ti9 @ti5 @ti43 @ti45 @ti44 @ti23 @ti28 @ti86 @ti89 @ti92 @ti31 @ti94 @Nat.zero_add @tz0 @tz1 @tz3 @Nat.mul_one @Int.toNat_natCast):=cj @ti3 (J20 @ti2 @ti4 @ti9 @ti5 @ti43 @ti45 @ti44 @ti23 @ti28 @ti86 @ti89 @ti92 @ti31 @ti94 @Nat.zero_add @tz0 @tz1 @tz3 @Nat.mul_one @Int.toNat_natCast)
theorem bs_eight (x:List UInt8):bs (x.map UInt8.toNat)=LexB.bs x:=by
 show (⟨((x.map UInt8.toNat).map UInt8.ofNat).toArray⟩:ByteArray)=⟨x.toArray⟩
 congr 2
 rw[List.map_map]
 conv=>rhs;rw[←List.map_id x]
 exact List.map_congr_left fun c _=>UInt8.ofNat_toNat
def lnL (l:Line):List AV:=[.v (.int .i64 l.1),TV l.2]
def LNL (L:List Line):List AV:=L.flatMap lnL
def LNV (L:List Line):AV:=.sl L.length (LNL L)
theorem lnl_len (L:List Line):(LNL L).length=L.length*2:=fl_len lnL 2 (fun _=>rfl) L
theorem lnl_at (L:List Line) (k:Nat) (h:k<L.length):((LNL L).drop (k*2)).take 2=lnL (L.getD k (0,[])):=fl_at lnL (0,[]) 2 (fun _=>rfl) L k h
theorem lines_eq (L:LL):LexN.LV L=LNV (linesW L):=by
 have h:LexN.LC L=LNL (linesW L):=by
  unfold LexN.LC LNL linesW
  rw[List.flatMap_map]
  congr 1
  funext p
  unfold lnL TV SL SV LexN.WV LexN.SC wordsN
  rw[List.length_map,List.map_map]
  congr 3
  exact List.map_congr_left fun x _=>by
   show AV.v (.string (LexB.bs x))=AV.v (.string (bs (x.map UInt8.toNat)))
   rw[bs_eight]
 unfold LexN.LV LNV
 rw[h]
 congr 1
 unfold linesW
 rw[List.length_map]
theorem lines_ax (t:List UInt8):PCall Tryz.prog 45 [.v (.string (LexB.bs t))] (.tp [LNV (linesW (lexAll t).1),.v (.int .i64 (lexAll t).2.1),.v (.int .i64 (lexAll t).2.2)]):=by
 have:=LexN.lines_pc t
 unfold LexN.RV at this
 rw[lines_eq] at this
 exact this
theorem lines_ok (t:List UInt8) (h:(lexAll t).2.2=0):∀ l∈linesW (lexAll t).1,LnOk l:=by
 intro l hl
 obtain⟨p,hp,rfl⟩:=List.mem_map.1 hl
 obtain⟨⟨⟨c,r,q,e,_⟩,h2,h3⟩,_⟩:=(LexX.lexAll_good t h).1 p hp
 refine⟨fun x hx=>?_,fun x hx=>?_,by simpa [wordsN] using h3,⟨_,wordsN q,by rw[e];rfl,by simp⟩⟩
 ·obtain⟨y,hy,rfl⟩:=List.mem_map.1 hx
  intro z hz
  obtain⟨u,_,rfl⟩:=List.mem_map.1 hz
  exact u.toNat_lt
 ·obtain⟨y,hy,rfl⟩:=List.mem_map.1 hx
  rw[List.length_map]
  exact(h2 y hy).2.2
def InOk (p:Par):Prop:=p.inside=true→p.c.subs≠[]
theorem inOk_line (p:Par) (l:Line) (h:InOk p):InOk (lineN p l).1:=by
 have hl:∀ q:Par,q.inside=p.inside→q.c.subs=p.c.subs→InOk q:=fun q h1 h2 hi=>by rw[h2];exact h (h1 ▸ hi)
 unfold lineN
 simp only
 (repeat' split) <;> (try exact h)
 ·have:=step_lists p (l.2.getD 1 [])
  exact hl _ this.i this.u
 ·unfold setMethod
  split
  ·exact h
  ·exact hl _ rfl rfl
 ·have:=model_lists p l.2
  exact hl _ this.2.2.1 this.1
 ·unfold addSub
  simp only
  (repeat' split) <;> (try exact h)
  intro _
  simp
 ·intro hi;cases hi
 ·unfold addCard
  (repeat' split) <;> (try exact h)
  ·intro hi
   have:=h hi
   intro e
   have e2:=congrArg List.length e
   rw[lm_len] at e2
   exact this (List.length_eq_zero_iff.1 e2)
theorem mv_idf (l:List Mdl):idf (MV l)=true:=(idfL_iff _).2 fun z hz=>by
 unfold ML at hz
 obtain⟨x,_,hz⟩:=List.mem_flatMap.1 hz
 unfold mdlL at hz
 simp only[List.mem_cons,List.not_mem_nil,or_false] at hz
 rcases hz with rfl | rfl | rfl | rfl
 ·rfl
 ·rfl
 ·exact NetW.nv_free _
 ·exact NetW.nv_free _
theorem cir_idf (c:Cir):idf (CirV c)=true:=(idfL_iff _).2 fun z hz=>by
 unfold cirL at hz
 simp only[List.mem_cons,List.not_mem_nil,or_false] at hz
 rcases hz with rfl | rfl | rfl | rfl | rfl | rfl
 ·rfl
 ·rfl
 ·rfl
 ·exact mv_idf _
 ·exact ul_idf _
 ·exact NetW.kv_idf _
theorem frz_pc (i:Nat) (c:List AV) (p:Par) (m u d pl sp:AV):frz.frzL i c (PC p m u d pl sp)=PC p (frz i c m) (frz i c u) (frz i c d) (frz i c pl) (frz i c sp):=rfl
theorem aw_lay1 {code:Code} {m0:Nat} {e:Env} {s:St} {Q:Exit→Env→St→Prop} (i0 i:Nat) (c x:List AV) (g0:s.get i0=some x) (gi:s.get i=some c) (hne:i0≠i)
  (h:∀ e' s',e'.n=e.n→(∀ t,e'.m t=frz i c (e.m t))→s'.nx=s.nx→s'.get i0=some (frz.frzL i c x)→(∀ j,j≠i0→j≠i→s'.get j=s.get j)→AW Tryz.prog code m0 e' s' Q):AW Tryz.prog code m0 e s Q:=by
 refine aw_freeze2 i c gi (fun j=>j==i0) fun e1 s1 f1 f2 f3 f4=>h e1 s1 f1 f2 f3 ?_ fun j h1 h2=>?_
 ·rw[f4,if_neg hne,if_pos (by simp),g0,Option.map_some]
 ·rw[f4,if_neg h2,if_neg (by simpa using h1)]
theorem aw_laid {code:Code} {m0 n0:Nat} {e:Env} {s:St} {b:Nat→Nat} {p:Par} {Q:Exit→Env→St→Prop} (hp:PS n0 s b p) (hi:p.inside=false)
  (h:∀ e' s',e'.n=e.n→(∀ t z,e.m t=z→idf z=true→e'.m t=z)→(∀ t id off,e.m t=.ptr id off→(∀ j,1≤j→j<6→id≠b j)→e'.m t=.ptr id off)→s'.nx=s.nx →
   s'.get (b 0)=some (PC p (MV p.c.models) (UV p.c.subs) (KV p.c.cards) (IV p.places) (PL p.subPl))→(∀ i,(∀ j,j<6→i≠b j)→s'.get i=s.get i)→AW Tryz.prog code m0 e' s' Q):AW Tryz.prog code m0 e s Q:=by
 have hx:=hp.bx
 rw[show nb p=6 from if_neg (by rw[hi];simp)] at hx
 have h2:=hp.h2
 have h5:=hp.h5
 unfold subsL at h2
 unfold plsL at h5
 rw[if_neg (by rw[hi];simp)] at h2 h5
 have nn:=fun i j (q1:i<6) (q2:j<6) (q:i≠j)=>hx.ne i j q1 q2 q
 have hk:=fun (i:Nat) (c:List AV) (z:AV) (h:idf z=true)=>frz_idf i c z h
 refine aw_lay1 (b 0) (b 1) _ _ hp.h0 hp.h1 (nn 0 1 (by omega) (by omega) (by omega)) fun e1 s1 f1 f2 f3 f4 f5=>?_
 refine aw_lay1 (b 0) (b 2) _ _ f4 ((f5 _ (nn 2 0 (by omega) (by omega) (by omega)) (nn 2 1 (by omega) (by omega) (by omega))).trans h2) (nn 0 2 (by omega) (by omega) (by omega)) fun e2 s2 g1 g2 g3 g4 g5=>?_
 refine aw_lay1 (b 0) (b 3) _ _ g4 ((g5 _ (nn 3 0 (by omega) (by omega) (by omega)) (nn 3 2 (by omega) (by omega) (by omega))).trans ((f5 _ (nn 3 0 (by omega) (by omega) (by omega)) (nn 3 1 (by omega) (by omega) (by omega))).trans hp.h3)) (nn 0 3 (by omega) (by omega) (by omega)) fun e3 s3 k1 k2 k3 k4 k5=>?_
 refine aw_lay1 (b 0) (b 4) _ _ k4 ((k5 _ (nn 4 0 (by omega) (by omega) (by omega)) (nn 4 3 (by omega) (by omega) (by omega))).trans ((g5 _ (nn 4 0 (by omega) (by omega) (by omega)) (nn 4 2 (by omega) (by omega) (by omega))).trans ((f5 _ (nn 4 0 (by omega) (by omega) (by omega)) (nn 4 1 (by omega) (by omega) (by omega))).trans hp.h4))) (nn 0 4 (by omega) (by omega) (by omega)) fun e4 s4 l1 l2 l3 l4 l5=>?_
 refine aw_lay1 (b 0) (b 5) _ _ l4 ((l5 _ (nn 5 0 (by omega) (by omega) (by omega)) (nn 5 4 (by omega) (by omega) (by omega))).trans ((k5 _ (nn 5 0 (by omega) (by omega) (by omega)) (nn 5 3 (by omega) (by omega) (by omega))).trans ((g5 _ (nn 5 0 (by omega) (by omega) (by omega)) (nn 5 2 (by omega) (by omega) (by omega))).trans ((f5 _ (nn 5 0 (by omega) (by omega) (by omega)) (nn 5 1 (by omega) (by omega) (by omega))).trans h5)))) (nn 0 5 (by omega) (by omega) (by omega)) fun e5 s5 m1 m2 m3 m4 m5=>?_
 refine h e5 s5 (by rw[m1,l1,k1,g1,f1]) (fun t z hz hf=>?_) (fun t id off hz hf=>?_) (by rw[m3,l3,k3,g3,f3]) ?_ fun i hne=>?_
 ·rw[m2,l2,k2,g2,f2,hz,hk _ _ _ hf,hk _ _ _ hf,hk _ _ _ hf,hk _ _ _ hf,hk _ _ _ hf]
 ·rw[m2,l2,k2,g2,f2,hz,frz_ptr_ne _ _ _ _ (hf 1 (by omega) (by omega)),frz_ptr_ne _ _ _ _ (hf 2 (by omega) (by omega)),frz_ptr_ne _ _ _ _ (hf 3 (by omega) (by omega)),frz_ptr_ne _ _ _ _ (hf 4 (by omega) (by omega)),frz_ptr_ne _ _ _ _ (hf 5 (by omega) (by omega))]
 ·have w1:∀ (n:Nat) (c:List AV) (sz:Nat),c.length=n*sz→(c.drop 0).take (n*sz)=c:=fun n c sz h=>by rw[List.drop_zero,←h,List.take_length]
  have i1:idf (MV p.c.models)=true:=mv_idf _
  have i2:idf (UV p.c.subs)=true:=ul_idf _
  have i3:idf (KV p.c.cards)=true:=NetW.kv_idf _
  have i4:idf (IV p.places)=true:=il_idf _
  rw[m4]
  simp only[frz_pc,frz_own_ne _ _ _ _ _ _ (nn 2 1 (by omega) (by omega) (by omega)),frz_own_ne _ _ _ _ _ _ (nn 3 1 (by omega) (by omega) (by omega)),frz_own_ne _ _ _ _ _ _ (nn 4 1 (by omega) (by omega) (by omega)),frz_own_ne _ _ _ _ _ _ (nn 5 1 (by omega) (by omega) (by omega)),frz_own_ne _ _ _ _ _ _ (nn 3 2 (by omega) (by omega) (by omega)),frz_own_ne _ _ _ _ _ _ (nn 4 2 (by omega) (by omega) (by omega)),frz_own_ne _ _ _ _ _ _ (nn 5 2 (by omega) (by omega) (by omega)),frz_own_ne _ _ _ _ _ _ (nn 4 3 (by omega) (by omega) (by omega)),frz_own_ne _ _ _ _ _ _ (nn 5 3 (by omega) (by omega) (by omega)),frz_own_ne _ _ _ _ _ _ (nn 5 4 (by omega) (by omega) (by omega)),frz_own,
   w1 _ _ _ (ml_len _),w1 _ _ _ (ul_len _),w1 _ _ _ (kl_len _),w1 p.places.length (IL p.places) 1 (by unfold IL;rw[List.length_map];omega),w1 p.subPl.length (p.subPl.map IV) 1 (by rw[List.length_map];omega)]
  unfold MV at i1 ⊢
  unfold UV at i2 ⊢
  unfold KV at i3 ⊢
  unfold IV at i4 ⊢
  rw[hk _ _ _ i1,hk _ _ _ i1,hk _ _ _ i1,hk _ _ _ i1,hk _ _ _ i2,hk _ _ _ i2,hk _ _ _ i2,hk _ _ _ i3,hk _ _ _ i3,hk _ _ _ i4]
  rfl
 ·exact(m5 i (hne 0 (by omega)) (hne 5 (by omega))).trans ((l5 i (hne 0 (by omega)) (hne 4 (by omega))).trans ((k5 i (hne 0 (by omega)) (hne 3 (by omega))).trans ((g5 i (hne 0 (by omega)) (hne 2 (by omega))).trans (f5 i (hne 0 (by omega)) (hne 1 (by omega))))))
end NetAF
namespace NetAG
open Go Go.RowKit Ax Ti NumS NumT CardS CardP CardA CardB CardE CardG CardI CardJ CardK CardL CardN CardX NetS NetA NetE NetM NetN NetO NetQ NetT NetAA NetAB NetAC NetAD NetAE NetF NetJ NetL NetAF
open LexE (W LL lexAll lexAll_count)
theorem rTI:type_of% (J24 @ti3 @ti2 @ti4 @ti9 @ti5 @ti43 @ti45 @ti44 @ti23 @ti28 @ti24 @ti25 @ti26 @ti90 @ti86 @ti89 @ti92 @ti31 @ti94 @Nat.zero_add @tz0 @tz1 @tz3 (cj @Nat.mul_one @Int.toNat_natCast)):=cj @ti3 (J24 @ti2 @ti4 @ti9 @ti5 @ti43 @ti45 @ti44 @ti23 @ti28 @ti24 @ti25 @ti26 @ti90 @ti86 @ti89 @ti92 @ti31 @ti94 @Nat.zero_add @tz0 @tz1 @tz3 @Nat.mul_one @Int.toNat_natCast)
theorem name_len {x:Str} (h:isName x=true):1≤x.length∧x.length≤16:=by
 unfold isName at h
 simp only[Bool.and_eq_true,decide_eq_true_iff] at h
 exact h.1
theorem right_cw {x:Crd} (h:rightC x=true):CW x∧0<x.name.length:=by
 have hn:isName x.name=true:=by
  have:=(nodes_le x h).1
  unfold isDev at this
  simp only[Bool.and_eq_true] at this
  exact this.1
 obtain⟨_,l1,l2,l3⟩:=nodes_le x h
 unfold rightC rightF at h
 simp only[Bool.and_eq_true] at h
 obtain⟨hd,⟨⟨⟨⟨⟨⟨h1,h2⟩,h3⟩,h4⟩,h5⟩,h6⟩,h7⟩,h8⟩:=h
 have hnl:=name_len hn
 have hnd:=List.all_eq_true.1 h5
 have hrf:isName x.ref=true∨x.ref=[]:=by
  generalize (if List.getD x.name 0 0=120 then (x.nodes.length,true,false) else shapeK (List.getD x.name 0 0))=f at h6
  split at h6
  ·exact .inl h6
  ·exact .inr (of_decide_eq_true h6)
 refine⟨⟨⟨by_name hn,by omega⟩,⟨fun w hw=>by_name (hnd w hw),fun w hw=>by have:=name_len (hnd w hw);omega,by omega⟩,?_,by omega,by omega,?_⟩,by omega⟩
 ·rcases hrf with g | g
  ·have:=name_len g
   exact⟨by_name g,by omega⟩
  ·rw[g]
   exact⟨fun c hc=>(by cases hc),by decide⟩
 ·intro z hz
  split at h8
  ·unfold waveOk at h8
   simp only[Bool.and_eq_true,List.all_eq_true,decide_eq_true_iff] at h8
   have:=h8.1.2 z hz
   omega
  ·have:=of_decide_eq_true h8
   rw[this.2.2] at hz
   cases hz
theorem cirB_rt {p:Par} (h:Rt p):CirB p.c:=by
 have hs:=fun s hs=>(h.so s hs)
 have so:=fun s (q:s∈p.c.subs)=>by
  have:=(h.so s q).1
  unfold subOk at this
  simp only[Bool.and_eq_true,decide_eq_true_iff,List.all_eq_true] at this
  exact this
 refine⟨fun m hm=>?_,by have:=h.ml;omega,fun s q=>⟨⟨by_name (so s q).1.1,by have:=name_len (so s q).1.1;omega⟩,⟨fun w hw=>?_,fun w hw=>?_,by have:=(so s q).1.2;omega⟩,fun x hx=>(right_cw ((hs s q).2.2.1 x hx)).1,by have:=(hs s q).2.2.2.2;omega⟩,by have:=h.sl;omega,fun x hx=>(right_cw (h.co x hx)).1,by have:=h.cl;omega⟩
 ·have hm:=h.mo m hm
  have hf:=CardM.ok_form m hm
  obtain⟨nm,k,g,v⟩:=m
  rw[modelOk_eq] at hm
  simp only[Bool.and_eq_true] at hm
  have:=name_len hm.1.1.1
  exact⟨⟨by_name hm.1.1.1,by simp only;omega⟩,by omega,by omega⟩
 ·have:=(so s q).2 w hw
  unfold portOk at this
  simp only[Bool.and_eq_true] at this
  exact by_name this.1
 ·have:=(so s q).2 w hw
  unfold portOk at this
  simp only[Bool.and_eq_true] at this
  have:=name_len this.1
  omega
theorem refB_rt {p:Par} (h:Rt p):RefB p.c:=by
 have hB:=cirB_rt h
 have hsl:=hB.sl
 exact⟨fun m hm=>(hB.mo m hm).1.1,hB.ml,fun s hs=>⟨(hB.so s hs).1.1,fun x hx=>⟨((hB.so s hs).2.2.1 x hx).n.1,((hB.so s hs).2.2.1 x hx).r.1,(right_cw ((h.so s hs).2.2.1 x hx)).2⟩,(hB.so s hs).2.2.2⟩,by omega,fun x hx=>⟨(hB.co x hx).n.1,(hB.co x hx).r.1,(right_cw (h.co x hx)).2⟩,hB.cl⟩
theorem linesN_step (p:Par) (l:Line) (r:List Line):linesN p (l::r)=if (lineN p l).2≠0 then ((lineN p l).1,l.1,(lineN p l).2) else linesN (lineN p l).1 r:=rfl
theorem drop_step (L:List Line) (j:Nat) (h:j<L.length):L.drop j=L.getD j (0,[])::L.drop (j+1):=by
 rw[List.drop_eq_getElem_cons h,List.getD_eq_getElem?_getD,List.getElem?_eq_getElem h]
 rfl
def czero:List AV:=[.v (.int .i64 0),.v (.int .i64 0),.v (.int .i64 0),.v (.slice none 0 0),.v (.slice none 0 0),.v (.slice none 0 0)]
theorem le_zero:Le (.ag czero) (CirV cir0):=Le.ag rfl fun j x y hx hy=>by
 match j with
 | 0=>simp [czero] at hx;simp [cirL] at hy;subst hx hy;exact Le.refl _
 | 1=>simp [czero] at hx;simp [cirL] at hy;subst hx hy;exact Le.refl _
 | 2=>simp [czero] at hx;simp [cirL] at hy;subst hx hy;exact Le.refl _
 | 3=>simp [czero] at hx;simp [cirL] at hy;subst hx hy;exact Le.nil 0 0 rfl
 | 4=>simp [czero] at hx;simp [cirL] at hy;subst hx hy;exact Le.nil 0 0 rfl
 | 5=>simp [czero] at hx;simp [cirL] at hy;subst hx hy;exact Le.nil 0 0 rfl
 | j+6=>simp [czero] at hx
theorem le_tp {a b c d:AV} (h:Le a b):Le (.tp [a,c,d]) (.tp [b,c,d]):=Le.tp rfl fun j x y hx hy=>by
 match j with
 | 0=>simp at hx hy;subst hx hy;exact h
 | 1=>simp at hx hy;subst hx hy;exact Le.refl _
 | 2=>simp at hx hy;subst hx hy;exact Le.refl _
 | j+3=>simp at hx
def pc0:List AV:=[.v (.int .i64 1),.v (.int .i64 (-6)),.v (.int .i64 1),.v (.slice none 0 0),.v (.slice none 0 0),.v (.slice none 0 0),.v (.bool false),.v (.bool false),.v (.bool false),.v (.bool false),.v (.int .i64 0),.v (.slice none 0 0),.v (.slice none 0 0)]
theorem aw_begin {code:Code} {m0 n0 ip:Nat} {e:Env} {s:St} {Q:Exit→Env→St→Prop} (hi:s.get ip=some pc0) (hn:s.nx=ip+1) (h0:n0≤ip)
  (h:∀ s',PS n0 s' (fun i=>ip+i) par0→s'.nx=ip+6→(∀ i,i<ip→s'.get i=s.get i)→AW Tryz.prog code m0 e s' Q):AW Tryz.prog code m0 e s Q:=by
 refine aw_nil_box ip 3 4 _ hi rfl ?_
 refine aw_nil_box ip 4 3 _ (St.set_same _ _ _) rfl ?_
 refine aw_nil_box ip 5 8 _ (St.set_same _ _ _) rfl ?_
 refine aw_nil_box ip 11 1 _ (St.set_same _ _ _) rfl ?_
 refine aw_nil_box ip 12 1 _ (St.set_same _ _ _) rfl ?_
 refine h _ ⟨⟨fun i hi=>(by omega),fun i hi=>?_,fun i j hi hj hne=>(by omega)⟩,?_,?_,?_,?_,?_,?_,fun h=>(by cases h),fun h=>(by cases h)⟩ ?_ ?_
 ·have:nb par0=6:=rfl
  simp only[nx_s,nx_p]
  omega
 ·refine (St.set_same _ _ _).trans ?_
  simp only[nx_s,nx_p,hn]
  rfl
 ·show St.get _ (ip+1)=some []
  exact stz
 ·show St.get _ (ip+2)=some []
  exact stz
 ·show St.get _ (ip+3)=some []
  exact stz
 ·show St.get _ (ip+4)=some []
  exact stz
 ·show St.get _ (ip+5)=some []
  exact stz
 ·simp only[nx_s,nx_p];omega
 ·exact fun i hi=>stz
theorem parse_ax (t:List UInt8):PCall Tryz.prog 14 [.v (.string (LexB.bs t))] (.tp [CirV (parseN t).1,.v (.int .i64 (parseN t).2.1),.v (.int .i64 (parseN t).2.2)]):=by
 refine pcall_le fun s=>?_
 have pl:=lines_ax t
 have hLn:=lexAll_count t
 have hLo:=lines_ok t
 have hci:=cir_idf (parseN t).1
 have hP:parseN t=if (lexAll t).2.2≠0 then (cir0,(lexAll t).2.1,(lexAll t).2.2) else parseL (linesW (lexAll t).1):=rfl
 generalize lexAll t=q at *
 obtain⟨LL0,a,e⟩:=q
 simp only at *
 generalize parseN t=Z at *
 unfold LNV at pl
 have hl:(linesW LL0).length≤65537:=by unfold linesW;rw[List.length_map];exact hLn
 generalize linesW LL0=L at *
 by_cases h1:e=0
 ·have c1:(e != 0)=false:=by rw[h1];rfl
  rw[if_neg (by simpa using h1)] at hP
  have hLo:=hLo h1
  refine acall_of Tryz.func14 rfl rfl (by simp [Tryz.ntmps14]) ?_;rw[Tryz.ntmps14,Tryz.results14]
  refine go rTI ?_
  refine aw_reg fun K hK=>?_;refine rn rTI ?_;refine cont_pure pl ?_;refine rn rTI ?_;refine hK _ _ ?_;clear hK K
  refine go (cj rTI @c1) ?_
  refine ifs ?_ ?_ <;> first | exact nope | intro hb
  refine go rTI ?_
  refine aw_begin (n0:=s.nx+1) (ip:=s.nx+1) (St.push_same _ _) rfl (Nat.le_refl _) fun s1 hp1 hn1 hf1=>?_
  have gz:s1.get s.nx=some czero:=(hf1 _ (by omega)).trans ((St.push_ne _ _ _ (Nat.ne_of_lt (Nat.lt_succ_self _))).trans (St.push_same _ _))
  have hf:∀ i,i<s.nx→s1.get i=s.get i:=fun i hi=>(hf1 i (by omega)).trans stz
  clear hf1 hn1
  refine aw_loop (fun m e s'=>∃ j b p,m=L.length-j∧j≤L.length∧e.n=68∧e.m 2=.ptr s.nx 0∧e.m 3=.v (.int .i64 0)∧e.m 4=.v (.int .i64 0)∧e.m 8=.ptr (b 0) 0∧e.m 29=.sl L.length (LNL L)∧e.m 30=.v (.int .i64 L.length)∧e.m 31=.v (.int .i64 (j:Nat)) ∧
   PS (s.nx+1) s' b p∧Rt p∧InOk p∧linesN p (L.drop j)=linesN par0 L∧s'.get s.nx=some czero∧∀ i,i<s.nx→s'.get i=s.get i) L.length ?_ ?_
  ·refine⟨0,fun i=>s.nx+1+i,par0,by omega,by omega,?_⟩
   (repeat' refine And.intro ?_ ?_) <;> first | exact rfl | exact fnz rTI | skip
   ·exact hp1
   ·exact par0_rt
   ·exact fun h=>(by cases h)
   ·exact gz
   ·exact hf
  ·clear hp1 gz hf s1
   rintro m e s' ⟨j,b,p,rfl,hj,h1,k2,k3,k4,k8,k29,k30,k31,hp,hr,hin,hln,gz,hf⟩
   have n6:=nb_six p
   have b0:=hp.bx.hi 0 (by omega)
   have hbl:=fun j (h:j<nb p)=>hp.bx.lo j h
   have hnx:=hp.n
   unfold czero at gz
   have c0:=hbl 0 (by omega)
   by_cases hj2:j<L.length
   ·have f1:=lnl_at L j hj2
    have f3:2≤((LNL L).drop (j*2)).length:=by rw[List.length_drop,lnl_len];omega
    have hok:=hLo _ (getD_mem L (0,[]) j hj2)
    rw[drop_step L j hj2,linesN_step] at hln
    generalize L.getD j (0,[])=l at f1 hok hln
    have hlA:=fun (s1:St) (h:s'.nx≤s1.nx) (hf:∀ i,i<s'.nx→s1.get i=s'.get i)=>line_ax s1 (s.nx+1) b p l (PS.mono hp h hf) hr hin hok
    have hrt:=lineN_rt hr l
    have hin2:=inOk_line p l hin
    unfold lnL TV at f1
    unfold LA TV at hlA
    refine go (J4 rTI @h1 @k30 @k31) ?_
    refine ifs ?_ ?_ <;> first | exact nope | intro hb
    refine aw_skip ?_
    refine go (J6 rTI @h1 @k29 @k31 @f1 @f3) ?_
    generalize hs1:(s'.push _).set s'.nx _=s1
    have x1:s1.nx=s'.nx+1:=by rw[←hs1];rfl
    have xf:∀ i,i<s'.nx→s1.get i=s'.get i:=fun i hi=>by rw[←hs1];exact stz
    have xl:s1.get s'.nx=some [.v (.int .i64 l.1),.sl l.2.length (SL l.2)]:=by rw[←hs1];exact St.set_same _ _ _
    have hl1:=hlA s1 (by omega) xf
    clear hs1 hlA
    refine aw_reg fun K hK=>?_;refine rn (J4 rTI @h1 @k8 @xl) ?_;refine cont_go hl1 ?_;rintro _ s2 ⟨rfl,v1,v2,v3⟩;refine rn (J4 rTI @h1 @k8 @xl) ?_;refine hK _ _ ?_;clear hK K
    have w0:=(v2 _ (by omega) (fun j h=>by have:=hbl j h;omega)).trans ((xf _ (by omega)).trans gz)
    have wl:=(v2 s'.nx (by omega) (fun j h=>by have:=hp.bx.hi j h;omega)).trans xl
    have wf:∀ i,i<s.nx→s2.get i=s.get i:=fun i hi=>(v2 i (by omega) (fun j h=>by have:=hbl j h;omega)).trans ((xf i (by omega)).trans (hf i hi))
    generalize lineN p l=Q at *
    obtain⟨p2,e2⟩:=Q
    simp only at *
    by_cases q1:e2=0
    ·have c2:(e2 != 0)=false:=by rw[q1];rfl
     rw[if_neg (by simpa using q1)] at hln
     obtain⟨b2,vb,vp⟩:=v3 q1
     refine go (J3 rTI @h1 @c2) ?_
     refine ifs ?_ ?_ <;> first | exact nope | intro hb
     refine go (J3 rTI @h1 @k31) ?_
     simp only[block_normal,loop_normal]
     refine⟨L.length-(j+1),by omega,j+1,b2,p2,rfl,by omega,?_⟩
     (repeat' refine And.intro ?_ ?_) <;> first | exact rfl | exact fnz (J9 @h1 @k2 @k3 @k4 @k8 @k29 @k30 @k31 @vb) | skip
     all_goals first | exact vp | exact hrt | exact hin2 | exact hln | exact w0 | exact wf | skip
    ·have c2:(e2 != 0)=true:=by simpa using q1
     rw[if_pos q1] at hln
     refine go (J3 rTI @h1 @c2) ?_
     refine ifs ?_ ?_ <;> first | exact nope | intro hb
     have hZ:Z=(cir0,l.1,e2):=by
      rw[hP]
      unfold parseL
      simp only[←hln]
      rw[if_pos q1]
     subst hZ
     refine aw_seq ?_
     refine aw_drw (.take 0 (.take 1 (.take 2 (.take 3 (.one 4 (.take 5 (.take 6 (.done)))))))) [s'.nx] (by kernel_rfl) (by kernel_rfl) fun K hK=>?_;refine dr (J5 rTI @h1 @k2 @wl @w0) ?_;refine hK _ _ ?_;clear hK K
     refine go (J5 rTI @h1 @k2 @k3 @k4) ?_
     exact⟨le_tp le_zero,hci,fun i hi=>(if_neg (by omega)).trans (wf i hi)⟩
   ·obtain rfl:j=L.length:=by omega
    rw[List.drop_length] at hln
    have hln:(p,0,0)=linesN par0 L:=hln
    have e0:=hp.h0
    unfold PC at e0
    refine go (J4 rTI @h1 @k30 @k31) ?_
    refine ifs ?_ ?_ <;> first | exact nope | intro hb
    cases hi:p.inside with
    | true=>
     have hZ:Z=(cir0,p.begun,80):=by
      rw[hP]
      unfold parseL
      simp only[←hln]
      rw[if_neg (by simp),if_pos hi]
     subst hZ
     rw[hi] at e0
     refine go (J4 rTI @h1 @k8 @e0) ?_
     refine ifs ?_ ?_ <;> first | exact nope | intro hb
     refine aw_seq ?_
     refine aw_drw (.take 0 (.take 1 (.take 2 (.take 3 (.take 4 (.one 5 (.take 6 (.take 7 (.done))))))))) [b 0] (by kernel_rfl) (by kernel_rfl) fun K hK=>?_;refine dr (J6 rTI @h1 @k2 @k8 @e0 @gz) ?_;refine hK _ _ ?_;clear hK K
     refine go (J5 rTI @h1 @k2 @k3 @k4) ?_
     exact⟨le_tp le_zero,hci,fun i hi=>(if_neg (by omega)).trans (hf i hi)⟩
    | false=>
     rw[hi] at e0
     refine go (J4 rTI @h1 @k8 @e0) ?_
     refine ifs ?_ ?_ <;> first | exact nope | intro hb
     refine aw_skip ?_
     rw[then_normal]
     refine aw_laid hp hi fun e' s2 f1 f2 f3 f4 f5 f6=>?_
     have m1:e'.n=68:=f1.trans h1
     have m2:e'.m 2=.ptr s.nx 0:=f3 2 s.nx 0 k2 (fun j _ h=>by have:=hbl j (by omega);omega)
     have m3:=f2 3 (.v (.int .i64 0)) k3 rfl
     have m4:=f2 4 (.v (.int .i64 0)) k4 rfl
     have m8:e'.m 8=.ptr (b 0) 0:=f3 8 (b 0) 0 k8 (fun j h1 h=>hp.bx.ne 0 j (by omega) (by omega) (by omega))
     have gz:=(f6 s.nx (fun j h=>by have:=hbl j (by omega);omega)).trans gz
     have hf:∀ i,i<s.nx→s2.get i=s.get i:=fun i hi=>(f6 i (fun j h=>by have:=hbl j (by omega);omega)).trans (hf i hi)
     have hpl:p.subPl.length=p.c.subs.length:=by
      have:=congrArg List.length hr.ps
      rwa [List.length_map,List.length_map] at this
     have hrf:=refs_ax s2 (b 0) p f5 (by omega) (refB_rt hr) hr.pl hpl (fun k hk=>(rt_places hr k hk).trans (by
      rw[List.getD_eq_getElem?_getD,List.getD_eq_getElem?_getD,List.getElem?_map,List.getElem?_eq_getElem hk]
      rfl))
     have hZ:Z=if (refsP p).2≠0 then (cir0,(refsP p).1,(refsP p).2) else (p.c,0,0):=by
      rw[hP]
      unfold parseL
      simp only[←hln]
      rw[if_neg (by simp),if_neg (by rw[hi];simp)]
     clear hln hP f1 f2 f3 f6 h1 k2 k3 k4 k8 k29 k30 k31 e hp
     refine go (J3 rTI @m1 @m8) ?_
     refine aw_reg fun K hK=>?_;refine rn (J3 rTI @m1 @m8) ?_;refine cont_go hrf ?_;rintro _ s3 ⟨rfl,v1,v2⟩;refine rn (J3 rTI @m1 @m8) ?_;refine hK _ _ ?_;clear hK K
     have gz:=(v2 s.nx (by omega)).trans gz
     have f5:=(v2 (b 0) (by omega)).trans f5
     have hf:∀ i,i<s.nx→s3.get i=s.get i:=fun i hi=>(v2 i (by omega)).trans (hf i hi)
     by_cases q1:(refsP p).2=0
     ·have c2:((refsP p).2 != 0)=false:=by rw[q1];rfl
      rw[if_neg (by simpa using q1)] at hZ
      subst hZ
      unfold PC MV UV KV at f5
      refine go (J3 rTI @m1 @c2) ?_
      refine ifs ?_ ?_ <;> first | exact nope | intro hb
      refine go (J6 rTI @m1 @m2 @m8 @f5 @gz) ?_
      exact⟨Le.refl _,hci,fun i hi=>(if_neg (by omega)).trans (hf i hi)⟩
     ·have c2:((refsP p).2 != 0)=true:=by simpa using q1
      rw[if_pos q1] at hZ
      subst hZ
      refine go (J3 rTI @m1 @c2) ?_
      refine ifs ?_ ?_ <;> first | exact nope | intro hb
      refine go (J4 rTI @m1 @m2 @gz) ?_
      exact⟨le_tp le_zero,hci,fun i hi=>(if_neg (by omega)).trans (hf i hi)⟩
 ·have c1:(e != 0)=true:=by simpa using h1
  rw[if_pos h1] at hP
  subst hP
  refine acall_of Tryz.func14 rfl rfl (by simp [Tryz.ntmps14]) ?_;rw[Tryz.ntmps14,Tryz.results14]
  refine go rTI ?_
  refine aw_reg fun K hK=>?_;refine rn rTI ?_;refine cont_pure pl ?_;refine rn rTI ?_;refine hK _ _ ?_;clear hK K
  refine go (cj rTI @c1) ?_
  refine ifs ?_ ?_ <;> first | exact nope | intro hb
  refine go rTI ?_
  exact⟨le_tp le_zero,hci,fun i hi=>if_neg (by omega)⟩
end NetAG
namespace NetAL
open Go Go.RowKit Ax Ti NumS NumT CardS CardP CardA CardB CardE CardG CardX NetS NetA NetE NetF NetJ NetK NetL NetT NetAG NetAK
open LexE (lexAll)
theorem rTI:type_of% (J23 @ti3 @ti2 @ti4 @ti9 @ti5 @ti43 @ti45 @ti44 @ti23 @ti49 @ti26 @ti68 @ti24 @ti51 @ti25 @ti28 @ti31 @Nat.zero_add @tz0 @tz1 @tz3 @Nat.mul_one @Int.toNat_natCast):=cj @ti3 (J22 @ti2 @ti4 @ti9 @ti5 @ti43 @ti45 @ti44 @ti23 @ti49 @ti26 @ti68 @ti24 @ti51 @ti25 @ti28 @ti31 @Nat.zero_add @tz0 @tz1 @tz3 @Nat.mul_one @Int.toNat_natCast)
theorem cirB_zero:CirB cir0:=⟨fun m hm=>(by cases hm),by decide,fun m hm=>(by cases hm),by decide,fun m hm=>(by cases hm),by decide⟩
theorem cirB_parse (t:List UInt8):CirB (parseN t).1:=by
 unfold parseN
 split
 ·exact cirB_zero
 ·unfold parseL
  have h:=linesN_rt (linesW (lexAll t).1) par0 par0_rt
  generalize linesN par0 (linesW (lexAll t).1)=q at *
  dsimp only
  split
  ·exact cirB_zero
  ·split
   ·exact cirB_zero
   ·split
    ·exact cirB_zero
    ·exact cirB_rt h
def awT:List UInt8:=[114,49,32,97,32,48,32,49,107,10,46,115,117,98,99,107,116,32,115,32,112,10,118,49,32,112,32,48,32,53,10,46,101,110,100,115,10,120,49,32,97,32,115]
def awU:List UInt8:=[114,49,32,97,32,48,32,49,10,114,49,32,98,32,48,32,49]
def awP:Str:=[46,115,116,101,112,32,49,117,10,46,109,101,116,104,111,100,32,101,117,108,101,114,10,46,115,117,98,99,107,116,32,115,32,112,10,118,49,32,112,32,48,32,100,99,32,53,10,46,101,110,100,115,10,114,49,32,97,32,48,32,49,107,10,120,49,32,97,32,115,10,46,101,110,100,10]
theorem aw_t:(parseN awT).2=(0,0)∧printN (parseN awT).1=(awP,0)∧((parseN awT).1.cards.length:Int)=2∧((parseN awT).1.subs.length:Int)=1∧(parseN awU).2=(2,8):=⟨by kernel_rfl,by kernel_rfl,by kernel_rfl,by kernel_rfl,by kernel_rfl⟩
theorem awake_ax:PCall Tryz.prog 8 [] (.v (.bool true)):=by
 refine pcall_of fun s=>?_
 have p1:=parse_ax awT
 have p2:=print_ax (parseN awT).1 (cirB_parse awT)
 have p3:=parse_ax awU
 obtain⟨h1,h2,h3,h4,h5⟩:=aw_t
 rw[h1] at p1
 rw[h2] at p2
 rw[h5] at p3
 unfold PV SV at p2
 generalize (parseN awT).1=c at *
 generalize (parseN awU).1=d at *
 unfold CirV cirL MV UV KV at p1 p2 p3
 refine acall_of Tryz.func8 rfl rfl (by simp [Tryz.ntmps8]) ?_;rw[Tryz.ntmps8,Tryz.results8]
 refine go rTI ?_
 refine aw_reg fun K hK=>?_;refine rn rTI ?_;refine cont_pure p1 ?_;refine rn rTI ?_;refine hK _ _ ?_;clear hK K
 refine go rTI ?_
 refine aw_reg fun K hK=>?_;refine rn rTI ?_;refine cont_pure p2 ?_;refine rn rTI ?_;refine hK _ _ ?_;clear hK K
 refine go rTI ?_
 refine aw_reg fun K hK=>?_;refine rn rTI ?_;refine cont_pure p3 ?_;refine rn rTI ?_;refine hK _ _ ?_;clear hK K
 refine go (J3 rTI @h3 @h4) ?_
 exact⟨congrArg (fun b=>AV.v (.bool b)) (by kernel_rfl),fun i hi=>by rw[if_neg (by omega),if_neg (by omega)]⟩
end NetAL
namespace NetD
open CardS CardP NetS NetP NetT NetB NetC NetL LexE LexX
def toB (x:Str):List UInt8:=x.map Nat.toUInt8
def toW (w:List Str):W:=w.map toB
theorem toB_back (x:Str) (h:∀ c∈x,okC c=true):(toB x).map UInt8.toNat=x:=by
 unfold toB
 rw[List.map_map]
 conv=>rhs;rw[←List.map_id x]
 refine List.map_congr_left fun c hc=>?_
 have:=h c hc
 unfold okC at this
 rw[decide_eq_true_iff] at this
 show (Nat.toUInt8 c).toNat=c
 exact UInt8.toNat_ofNat_of_lt' (show c<256 by omega)
theorem words_back (w:List Str) (h:∀ x∈w,WordOk x):wordsN (toW w)=w:=by
 unfold wordsN toW
 rw[List.map_map]
 conv=>rhs;rw[←List.map_id w]
 exact List.map_congr_left fun x hx=>toB_back x (h x hx).2.1
theorem okW_all (c:Nat) (h:okC c=true):okW c.toUInt8=true:=by
 have:∀ k,k<256→(!(okC k)||okW k.toUInt8)=true:=by decide +kernel
 have h2:=h
 unfold okC at h2
 rw[decide_eq_true_iff] at h2
 have:=this c (by omega)
 rw[h] at this
 exact this
theorem goodWord_of (x:Str) (h:WordOk x):goodWord (toB x):=by
 refine⟨fun e=>h.1 (List.map_eq_nil_iff.1 e),fun b hb=>?_,by unfold toB;rw[List.length_map];exact h.2.2⟩
 obtain⟨c,hc,rfl⟩:=List.mem_map.1 hb
 exact okW_all c (h.2.1 c hc)
theorem goodLine_of (w:List Str) (h:LineOk w):goodLine (toW w):=by
 obtain⟨⟨k,r,rfl,h1⟩,h2,h3⟩:=h
 refine⟨?_,fun x hx=>?_,by unfold toW;rw[List.length_map];exact h3⟩
 ·have hk:=h2 k (List.mem_cons_self ..)
  match k,hk,h1 with
  | [],hk,_=>exact absurd rfl hk.1
  | c::t,hk,h1=>
   refine⟨c.toUInt8,toB t,toW r,rfl,?_⟩
   have hc:=hk.2.1 c (List.mem_cons_self ..)
   unfold okC at hc
   rw[decide_eq_true_iff] at hc
   have e:c.toUInt8.toNat=c:=UInt8.toNat_ofNat_of_lt' (show c<256 by omega)
   simp only[List.getD_cons_zero] at h1
   exact⟨fun g=>h1.1 (by rw[←e,g];rfl),fun g=>h1.2 (by rw[←e,g];rfl)⟩
 ·obtain⟨y,hy,rfl⟩:=List.mem_map.1 hx
  exact goodWord_of y (h2 y hy)
theorem joinW_toW:∀ w:List Str,joinW (toW w)=toB (joinS w)
 | []=>rfl
 | [x]=>rfl
 | x::y::r=>by
  have:=joinW_toW (y::r)
  show toB x++32::joinW (toW (y::r))=toB (x++32::joinS (y::r))
  rw[this]
  unfold toB
  rw[List.map_append,List.map_cons]
  rfl
def rows (ws:List (List Str)):LL:=ws.map fun w=>(0,toW w)
theorem outW_numbered:∀ (L:LL) (n:Nat),outW (numbered n L)=outW L
 | [],_=>rfl
 | p::L,n=>by
  have:=outW_numbered L (n+1)
  unfold outW at this ⊢
  rw[numbered,List.flatMap_cons,List.flatMap_cons,this]
theorem outW_rows:∀ ws:List (List Str),outW (rows ws)=toB (ws.flatMap lineS)
 | []=>rfl
 | w::ws=>by
  have:=outW_rows ws
  unfold outW rows at this ⊢
  rw[List.map_cons,List.flatMap_cons,this,List.flatMap_cons]
  unfold toB lineS
  rw[List.map_append,List.map_append,joinW_toW]
  rfl
theorem numbered_good:∀ (L:LL) (n:Nat),1≤n→(∀ p∈L,goodLine p.2)→goodAll (n+L.length) (numbered n L)∧∀ p∈numbered n L,n≤p.1
 | [],n,_,_=>⟨⟨fun p hp=>(by cases hp),List.Pairwise.nil⟩,fun p hp=>(by cases hp)⟩
 | q::L,n,hn,h=>by
  obtain⟨⟨h1,h2⟩,h3⟩:=numbered_good L (n+1) (by omega) fun p hp=>h p (List.mem_cons_of_mem _ hp)
  rw[numbered,List.length_cons]
  refine⟨⟨fun p hp=>?_,List.Pairwise.cons (fun p hp=>by have:=h3 p hp;show n<p.1;omega) h2⟩,fun p hp=>?_⟩
  ·rcases List.mem_cons.1 hp with rfl | hp
   ·exact⟨h q (List.mem_cons_self ..),by show 1≤n;omega,by show n<_;omega⟩
   ·have:=h1 p hp
    exact⟨this.1,this.2.1,by omega⟩
  ·rcases List.mem_cons.1 hp with rfl | hp
   ·exact Nat.le_refl _
   ·have:=h3 p hp
    omega
theorem numbered_snd:∀ (L:LL) (n:Nat),(numbered n L).map Prod.snd=L.map Prod.snd
 | [],_=>rfl
 | p::L,n=>by rw[numbered,List.map_cons,List.map_cons,numbered_snd L]
theorem back_in (c:Cir) (h:checkN c=0) (hl:(bodyN c).length≤65536):parseN (toB (bodyN c))=(c,0,0):=by
 have hok:=lines_ok c (ok_of c h)
 have hg:=numbered_good (rows (linesC c)) 1 (Nat.le_refl _) (fun p hp=>by
  obtain⟨w,hw,rfl⟩:=List.mem_map.1 hp
  exact goodLine_of w (hok w hw))
 have ho:outW (numbered 1 (rows (linesC c)))=toB (bodyN c):=by rw[outW_numbered,outW_rows,body_lines]
 have hx:=lexAll_out _ _ hg.1 (by rw[ho];unfold toB;rw[List.length_map];exact hl)
 rw[ho] at hx
 unfold parseN
 rw[hx,if_neg (by simp)]
 have hs:(numbered 1 (numbered 1 (rows (linesC c)))).map Prod.snd=(linesC c).map toW:=by
  rw[numbered_snd,numbered_snd]
  unfold rows
  rw[List.map_map]
  rfl
 have hn:∀ p∈numbered 1 (numbered 1 (rows (linesC c))),p.1<1073741824:=by
  intro p hp
  have hlen:(linesC c).length≤(bodyN c).length:=by
   rw[body_lines]
   generalize linesC c=ws
   induction ws with
   | nil=>simp
   | cons w ws ih=>
    rw[List.flatMap_cons,List.length_append,List.length_cons]
    unfold lineS at ih ⊢
    rw[List.length_append]
    simp only[List.length_cons,List.length_nil]
    omega
  have h2:=numbered_good (numbered 1 (rows (linesC c))) 1 (Nat.le_refl _) (fun p hp=>(hg.1.1 p hp).1)
  have:=(h2.1.1 p hp).2.2
  rw[numbered_length] at this
  unfold rows at this
  rw[List.length_map] at this
  omega
 refine back_lines c h _ ?_ ?_
 ·unfold linesW
  rw[List.map_map]
  have:(Prod.snd ∘ fun p:Nat × W=>((p.1:Int),wordsN p.2))=wordsN ∘ Prod.snd:=rfl
  rw[this,←List.map_map,hs,List.map_map]
  conv=>rhs;rw[←List.map_id (linesC c)]
  exact List.map_congr_left fun w hw=>words_back w (hok w hw).2.1
 ·intro l hl
  obtain⟨p,hp,rfl⟩:=List.mem_map.1 hl
  have:=hn p hp
  show (p.1:Int)<_
  omega
theorem right_in (t:List UInt8) (h:(parseN t).2.2=0):checkN (parseN t).1=0:=by
 unfold parseN at h ⊢
 by_cases h0:(lexAll t).2.2=0
 ·rw[if_neg (by simpa using h0)] at h ⊢
  refine parse_check _ (fun l hl=>?_) h
  obtain⟨p,hp,rfl⟩:=List.mem_map.1 hl
  have:=((lexAll_good t h0).1 p hp).2.2
  show (p.1:Int)<_
  omega
 ·rw[if_pos h0] at h
  exact absurd h h0
end NetD
namespace NumI
open Go Go.RowKit Ax Ti BigM NumS NumA NumB NumT NumU NumL NumW NumX NumY NumE NumG
theorem acall_args {P:Program} {f:FuncId} {zs zs':List AV} {s:St} {R:AV→St→Prop} (hl:zs'.length=zs.length) (hz:∀ (j:Nat) (x y:AV),zs[j]?=some x→zs'[j]?=some y→Le x y) (h:ACall P f zs' s R):ACall P f zs s R:=
 ⟨h.1,fun w0 k w vs hs hv=>h.2 w0 k w vs hs ⟨hv.1.trans hl.symm,fun j z u hz' hu=>by
  have hj:j<zs.length:=by rw[←hl];exact(List.getElem?_eq_some_iff.1 hz').1
  exact hz j _ z (List.getElem?_eq_getElem hj) hz' k u (hv.2 j _ u (List.getElem?_eq_getElem hj) hu)⟩⟩
end NumI
namespace NetAN
open Go Go.RowKit Ax Ti NumS NumT CardS CardP CardA CardB CardE CardG CardK CardR CardX NetS NetA NetE NetF NetJ NetK NetL NetT NetAA NetAG NetAK NetAL NetAM
open LexE (lexAll)
theorem rTI:type_of% (J23 @ti3 @ti2 @ti4 @ti9 @ti5 @ti43 @ti45 @ti44 @ti23 @ti49 @ti26 @ti68 @ti24 @ti51 @ti25 @ti28 @ti31 @Nat.zero_add @tz0 @tz1 @tz3 @Nat.mul_one @Int.toNat_natCast):=cj @ti3 (J22 @ti2 @ti4 @ti9 @ti5 @ti43 @ti45 @ti44 @ti23 @ti49 @ti26 @ti68 @ti24 @ti51 @ti25 @ti28 @ti31 @Nat.zero_add @tz0 @tz1 @tz3 @Nat.mul_one @Int.toNat_natCast)
theorem cb_of {x:Crd} (h:CW x):CB x:=⟨h.n.1,⟨h.d.1,h.d.2.2⟩,h.r.1,h.v,h.t⟩
theorem parse_rt (t:List UInt8):((parseN t).2.2≠0→(parseN t).1=cir0)∧((parseN t).1=cir0∨∃ p,Rt p∧(parseN t).1=p.c):=by
 unfold parseN
 split
 ·exact⟨fun _=>rfl,.inl rfl⟩
 ·unfold parseL
  have h:=linesN_rt (linesW (lexAll t).1) par0 par0_rt
  generalize linesN par0 (linesW (lexAll t).1)=q at *
  dsimp only
  split
  ·exact⟨fun _=>rfl,.inl rfl⟩
  ·split
   ·exact⟨fun _=>rfl,.inl rfl⟩
   ·split
    ·exact⟨fun _=>rfl,.inl rfl⟩
    ·exact⟨fun g=>absurd rfl g,.inr ⟨_,h,rfl⟩⟩
theorem same_parse (t:List UInt8):PCall Tryz.prog 15 [CirV (parseN t).1,CirV (parseN t).1] (.v (.bool true)):=by
 have hB:=cirB_parse t
 rcases (parse_rt t).2 with h | ⟨p,h,e⟩
 ·rw[h] at hB ⊢
  exact same_ax cir0 hB (fun x hx=>(by cases hx)) (fun x hx=>(by cases hx)) (by decide) (fun x hx=>(by cases hx)) (by decide)
 ·rw[e] at hB ⊢
  have hcl:=h.cl
  have hml:=h.ml
  exact same_ax p.c hB (fun x hx=>cb_of (hB.co x hx)) (fun s hs x hx=>cb_of ((hB.so s hs).2.2.1 x hx)) (by omega) (fun s hs=>by have:=(h.so s hs).2.2.2.2;omega) (by omega)
theorem again_ax (t:List UInt8) (ht:t.length≤140737488351232):PCall Tryz.prog 5 [.v (.string (LexB.bs t))] (.v (.bool true)):=by
 refine pcall_of fun s=>?_
 have p1:=parse_ax t
 have p2:=print_ax (parseN t).1 (cirB_parse t)
 have p3:=check_ax (parseN t).1 (cirB_parse t)
 have p4:=same_parse t
 have hp:=places_in t
 have hr:=NetD.right_in t
 have h0:=(parse_rt t).1
 have hbk:=NetD.back_in (parseN t).1
 have p5:=parse_ax (NetD.toB (bodyN (parseN t).1))
 generalize parseN t=z at *
 obtain⟨c,a,e⟩:=z
 simp only at hp p1 p2 p3 p4 hr h0 hbk p5
 by_cases he:e=0
 ·subst he
  have hr:=hr rfl
  rw[if_pos (.inl rfl)] at hp
  obtain rfl:=hp.1
  rw[hr] at p3
  have hbk:=hbk hr
  unfold printN PV SV at p2
  rw[if_neg (by rw[hr];simp)] at p2
  by_cases hb0:65536<(bodyN c).length
  ·rw[if_pos hb0] at p2
   clear hbk p5 hp h0
   unfold CirV cirL MV UV KV at p1 p2 p3
   refine acall_of Tryz.func5 rfl rfl (by simp [Tryz.ntmps5]) ?_;rw[Tryz.ntmps5,Tryz.results5]
   refine go rTI ?_
   refine aw_reg fun K hK=>?_;refine rn rTI ?_;refine cont_pure awake_ax ?_;refine rn rTI ?_;refine hK _ _ ?_;clear hK K
   refine ifs ?_ ?_ <;> first | exact nope | intro hb
   refine go rTI ?_
   refine aw_reg fun K hK=>?_;refine rn rTI ?_;refine cont_pure p1 ?_;refine rn rTI ?_;refine hK _ _ ?_;clear hK K
   refine go rTI ?_
   refine ifs ?_ ?_ <;> first | exact nope | intro hb
   refine aw_skip ?_
   rw[then_normal]
   refine aw_seq ?_
   refine aw_seq ?_
   refine aw_reg fun K hK=>?_;refine rn rTI ?_;refine cont_pure p3 ?_;refine rn rTI ?_;refine hK _ _ ?_;clear hK K
   refine ifs ?_ ?_ <;> first | exact nope | intro hb
   refine aw_skip ?_
   rw[then_normal]
   refine aw_seq ?_
   refine aw_reg fun K hK=>?_;refine rn rTI ?_;refine cont_pure p2 ?_;refine rn rTI ?_;refine hK _ _ ?_;clear hK K
   refine go rTI ?_
   refine ifs ?_ ?_ <;> first | exact nope | intro hb
   refine go rTI ?_
   exact fun i hi=>if_neg (by omega)
  ·rw[if_neg hb0] at p2
   have hbk:=hbk (by omega)
   rw[hbk] at p5
   clear hbk hp h0
   rw[show LexB.bs (NetD.toB (bodyN c))=bs (bodyN c) from rfl] at p5
   generalize bodyN c=b at *
   unfold CirV cirL MV UV KV at p1 p2 p3 p4 p5
   refine acall_of Tryz.func5 rfl rfl (by simp [Tryz.ntmps5]) ?_;rw[Tryz.ntmps5,Tryz.results5]
   refine go rTI ?_
   refine aw_reg fun K hK=>?_;refine rn rTI ?_;refine cont_pure awake_ax ?_;refine rn rTI ?_;refine hK _ _ ?_;clear hK K
   refine ifs ?_ ?_ <;> first | exact nope | intro hb
   refine go rTI ?_
   refine aw_reg fun K hK=>?_;refine rn rTI ?_;refine cont_pure p1 ?_;refine rn rTI ?_;refine hK _ _ ?_;clear hK K
   refine go rTI ?_
   refine ifs ?_ ?_ <;> first | exact nope | intro hb
   refine aw_skip ?_
   rw[then_normal]
   refine aw_seq ?_
   refine aw_seq ?_
   refine aw_reg fun K hK=>?_;refine rn rTI ?_;refine cont_pure p3 ?_;refine rn rTI ?_;refine hK _ _ ?_;clear hK K
   refine ifs ?_ ?_ <;> first | exact nope | intro hb
   refine aw_skip ?_
   rw[then_normal]
   refine aw_seq ?_
   refine aw_reg fun K hK=>?_;refine rn rTI ?_;refine cont_pure p2 ?_;refine rn rTI ?_;refine hK _ _ ?_;clear hK K
   refine go rTI ?_
   refine ifs ?_ ?_ <;> first | exact nope | intro hb
   refine aw_skip ?_
   rw[then_normal]
   refine aw_seq ?_
   refine aw_reg fun K hK=>?_;refine rn rTI ?_;refine cont_pure p5 ?_;refine rn rTI ?_;refine hK _ _ ?_;clear hK K
   rw[then_normal]
   refine aw_seq ?_
   refine aw_reg fun K hK=>?_;refine rn rTI ?_;refine cont_pure p4 ?_;refine rn rTI ?_;refine hK _ _ ?_;clear hK K
   refine go rTI ?_
   exact fun i hi=>(if_neg (by omega)).trans (if_neg (by omega))
 ·obtain rfl:=h0 he
  have c0:(e==0)=false:=by simpa using he
  have c1:(e != 0)=true:=by simpa using he
  have hq:(0≤a)∧((0<a)∨e=2):=by
   split at hp
   ·exact⟨by omega,.inr (hp.2.resolve_left he)⟩
   ·exact⟨by omega,.inl (by omega)⟩
  clear hp hbk p5 h0 p2 p3 hr
  have b1:decide ((0:Int)≤a)=true:=decide_eq_true hq.1
  have hle:∀ (j:Nat) (x y:AV),[CirV cir0,.ag czero][j]?=some x→[CirV cir0,CirV cir0][j]?=some y→Le x y:=fun j x y hx hy=>by
   match j with
   | 0=>cases hx;cases hy;exact Le.refl _
   | 1=>cases hx;cases hy;exact le_zero
   | j+2=>cases hx
  unfold czero at hle
  unfold CirV cirL MV UV KV at p1 p4 hle
  by_cases ha:0<a
  ·have b2:decide ((0:Int)<a)=true:=decide_eq_true ha
   refine acall_of Tryz.func5 rfl rfl (by simp [Tryz.ntmps5]) ?_;rw[Tryz.ntmps5,Tryz.results5]
   refine go rTI ?_
   refine aw_reg fun K hK=>?_;refine rn rTI ?_;refine cont_pure awake_ax ?_;refine rn rTI ?_;refine hK _ _ ?_;clear hK K
   refine ifs ?_ ?_ <;> first | exact nope | intro hb
   refine go rTI ?_
   refine aw_reg fun K hK=>?_;refine rn rTI ?_;refine cont_pure p1 ?_;refine rn rTI ?_;refine hK _ _ ?_;clear hK K
   refine go (cj rTI @c1) ?_
   refine ifs ?_ ?_ <;> first | exact nope | intro hb
   refine aw_seq ?_
   refine aw_reg fun K hK=>?_;refine rn (J3 rTI @b1 @b2) ?_;refine NumI.acall_args (zs':=[CirV cir0,CirV cir0]) rfl hle (cont_pure p4 ?_);refine rn (J3 rTI @b1 @b2) ?_;refine hK _ _ ?_;clear hK K
   refine go rTI ?_
   exact fun i hi=>if_neg (by omega)
  ·have b2:decide ((0:Int)<a)=false:=decide_eq_false ha
   obtain rfl:=hq.2.resolve_left ha
   refine acall_of Tryz.func5 rfl rfl (by simp [Tryz.ntmps5]) ?_;rw[Tryz.ntmps5,Tryz.results5]
   refine go rTI ?_
   refine aw_reg fun K hK=>?_;refine rn rTI ?_;refine cont_pure awake_ax ?_;refine rn rTI ?_;refine hK _ _ ?_;clear hK K
   refine ifs ?_ ?_ <;> first | exact nope | intro hb
   refine go rTI ?_
   refine aw_reg fun K hK=>?_;refine rn rTI ?_;refine cont_pure p1 ?_;refine rn rTI ?_;refine hK _ _ ?_;clear hK K
   refine go (cj rTI @c1) ?_
   refine ifs ?_ ?_ <;> first | exact nope | intro hb
   refine aw_seq ?_
   refine aw_reg fun K hK=>?_;refine rn (J3 rTI @b1 @b2) ?_;refine NumI.acall_args (zs':=[CirV cir0,CirV cir0]) rfl hle (cont_pure p4 ?_);refine rn (J3 rTI @b1 @b2) ?_;refine hK _ _ ?_;clear hK K
   refine go rTI ?_
   exact fun i hi=>if_neg (by omega)
end NetAN
end Go.Proofs.YtdaeancgockacaaGreatDoor
