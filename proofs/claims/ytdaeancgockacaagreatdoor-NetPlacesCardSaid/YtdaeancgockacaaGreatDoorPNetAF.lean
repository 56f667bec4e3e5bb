/- A part of the proof. -/
import Derived.Test.YtdaeancgockacaaGreatDoorPNetAE
set_option linter.unusedVariables false
set_option linter.unusedSimpArgs false
set_option maxHeartbeats 4000000
set_option maxRecDepth 8000
namespace Go.Proofs.YtdaeancgockacaaGreatDoor
namespace LexF
open Go.RowKit Base LexA LexB LexM LexC LexD
open LexE hiding W
theorem infoLine:(Tryz.prog.info? 94).map (fun i=>(i.zero,i.size,i.bytes))=some (some (.agg #[.int .i64 0,.slice none 0 0]),2,32):=by kernel_rfl
theorem infoStr:(Tryz.prog.info? 9).map (fun i=>(i.zero,i.size,i.bytes))=some (some (.string ⟨#[]⟩),1,16):=by kernel_rfl
def said (P:List Piece):LL:=P.map fun p=>(p.1,p.2.1)
def LinesPost (w:World) (R:LL × Int × Int) (e:Ending) (w':World):Prop:=
 ∃ v P,e=.returned (.tuple #[v,.int .i64 R.2.1,.int .i64 R.2.2])∧LOwn w' w.heap.size v P∧said P=R.1∧Below w.heap.size w w'
structure Head (w:World) (R:LL × Int × Int) (t:List UInt8) (n:Nat) (P:List Piece) (vl:Value) (wr:World):Prop where
 own:LOwn wr w.heap.size vl P
 below:Below w.heap.size w wr
 rest:lexFold n (said P) (linesOf t)=R
 len:n+t.length≤65537
 pos:1≤n
 count:P.length≤n
 few:∀ p∈P,0<p.2.1.length∧p.2.1.length≤64
theorem cell_two (w:World) (x y:Value) (t:TypeId):∀ j u,[x,y][j]?=some u→(w.alloc (.cells #[x,y] t)).cell? ((⟨w.heap.size,0,none⟩:Addr).add j)=some u:=by
 intro j u hj
 match j,hj with
 | 0,hj=>
  simp at hj
  subst hj
  simp [Addr.add]
 | 1,hj=>
  simp at hj
  subst hj
  simp [Addr.add]
theorem said_snoc (P:List Piece) (a:Nat) (x:W) (u:Value):said (P++[(a,x,u)])=said P++[(a,x)]:=by simp [said]
set_option maxRecDepth 100000 in
theorem lines_any (s:List UInt8) (w:World) :
  Calls Tryz.prog 45 #[.string (bs s)] w (LinesPost w (lexAll s)):=by
 obtain⟨iL,hiL,hL⟩:=Option.map_eq_some_iff.1 infoLine
 simp only[Prod.mk.injEq] at hL
 obtain⟨hL0,hL1,hL2⟩:=hL
 obtain⟨iS,hiS,hS⟩:=Option.map_eq_some_iff.1 infoStr
 simp only[Prod.mk.injEq] at hS
 obtain⟨hS0,hS1,hS2⟩:=hS
 have hsz:(bs s).size=s.length:=rfl
 by_cases hl:65536<s.length
 ·have hR:=aside (show lexAll s=([],0,2) by rw[lexAll,if_pos hl])
  have hl':(65536:Int)<(s.length:Int):=by omega
  have hl2:(65536:Int)<((bs s).size:Int):=hl'
  clear hsz
  go_enter Tryz.func45,Tryz.ntmps45
  go_wp2
  go_ret3
  rw[hR.out]
  exact⟨_,[],rfl,LOwn.nil _ _,rfl,Below.refl _ _⟩
 ·have hR:=aside (show lexAll s=lexFold 1 [] (linesOf s) by rw[lexAll,if_neg hl])
  have hl':=aside (show s.length≤65536 by omega)
  have hl2:¬(65536:Int)<((bs s).size:Int):=by rw[hsz];omega
  generalize lexAll s=R at *
  clear hl hsz
  go_enter Tryz.func45,Tryz.ntmps45
  go_wp2
  go_loopw [0,5,6] (fun x0 x5 x6 wr=>∃ t n P,x0=.string (bs t)∧x6=.int .i64 (n:Nat)∧Head w R t n P x5 wr) (fun x0 _ _ _=>match x0 with | .string b=>b.size | _=>0)
  case atStart=>exact⟨s,1,[],rfl,rfl,⟨LOwn.nil _ _,Below.refl _ _,hR.out.symm,by have:=hl'.out;omega,by omega,Nat.zero_le _,by simp⟩⟩
  case round=>
   obtain⟨t,n,P,rfl,rfl,H⟩:=hrel
   by_cases ht:t=[]
   ·subst ht
    have hf:=H.rest
    have H':=aside H
    clear H
    have e0:bs []=⟨#[]⟩:=rfl
    simp only[e0]
    go_wp2
    go_ret3
    have hh:=H'.out
    have h0:=hh.rest
    rw[linesOf_nil] at h0
    rw[←h0]
    exact⟨_,P,rfl,hh.own,rfl,hh.below⟩
   ·have ht0:0<t.length:=List.length_pos_iff.2 ht
    have hrest:=H.rest
    rw[linesOf_cons t ht,lexFold] at hrest
    have hlen:=H.len
    have hpos:=H.pos
    have hpl:=pre_length t 10
    have hpo:=post_length t 10 ht
    have htl:(bs t).size≤9223372036854775806:=by show t.length≤_;omega
    have e1:(bs t).data.toList=t:=rfl
    have hcut:=fun w=>cut_one (bs t) 10 w htl
    rw[e1] at hcut
    have hcl:=fun w=>clean_any (bs (pre t 10)) w (by show (pre t 10).length≤_;omega)
    have e2:(bs (pre t 10)).data.toList=pre t 10:=rfl
    rw[e2] at hcl
    have hne:(bs t).toList.isEmpty=false:=by
     rw[ByteArray.toList_eq]
     exact List.isEmpty_eq_false_iff.2 ht
    have hne2:(!(bs t).toList.isEmpty)=true:=by rw[hne];rfl
    have HR:=aside hrest
    have H':=aside H
    have HC:=aside hcut
    have HL:=aside hcl
    clear H hrest hcut hcl e1 e2
    go_wp2_with fail
    refine (HC.out _).mono ?_
    rintro e w1 ⟨rfl,k1,rfl⟩
    by_cases hc:cleanL (pre t 10)=true
    ·have HA:=aside (clean_ascii _ hc)
     have HW:=fun w=>words_any (pre t 10) (by omega) HA.out w
     have HW':=aside HW
     rw[hc] at HL
     have hst:lexStep n (said P) (pre t 10)=stepWords n (said P) (lexWords (pre t 10)):=by rw[lexStep,if_pos hc]
     have HS:=aside hst
     have HN:=aside (lexWords_ne (pre t 10))
     have hwl:=lexWords_length (pre t 10)
     generalize lexWords (pre t 10)=X at *
     clear HW hc hst
     go_wp2_with fail
     refine (HL.out _).mono ?_
     rintro e w2 ⟨rfl,hb2⟩
     have HB2:=aside (below_of_drewN hb2)
     clear hb2
     go_wp2_with fail
     refine (HW'.out _).mono ?_
     rintro e w3 ⟨vw,rfl,how,hb3⟩
     have HB3:=aside (below_then HB2.out hb3)
     clear hb3
     cases X with
     | nil=>
      obtain⟨aw,cw,rfl⟩:∃ aw cw,vw=.slice aw 0 cw:=by
       rcases how.2 with ⟨rfl,_⟩ | ⟨g,cap,cur,rfl,_⟩
       ·exact⟨_,_,rfl⟩
       ·exact⟨_,_,rfl⟩
      have HX:=aside (HS.out.trans (show stepWords n (said P) []=(0,said P) from rfl))
      clear how
      go_wp2
      go_roundw
      case rel=>
       have hh:=H'.out
       have hr:=HR.out
       rw[HX.out] at hr
       refine⟨post t 10,n+1,P,rfl,by go_num,⟨hh.own.below HB3.out,hh.below.trans (HB3.out.mono hh.below.size),?_,by omega,by omega,by have:=hh.count;omega,hh.few⟩⟩
       simpa using hr
      case measure=>exact hpo
     | cons x0 xs=>
      obtain⟨c0,t0,rfl⟩:=List.exists_cons_of_ne_nil (HN.out x0 (by simp))
      obtain⟨gw,cw,rfl,hgw,hgw2,hcw,hcm⟩:=own_form how (by simp)
      have hn:(0:Int)<((((c0::t0)::xs).length:Nat):Int):=by simp
      have hcell0:w3.cell? ⟨gw,0,none⟩=some (.string (bs (c0::t0))):=by
       have:=how.cellAt 0 (by simp)
       simpa [strs] using this
      have hs0:0<(bs (c0::t0)).size:=Nat.succ_pos _
      generalize hNN:((c0::t0)::xs).length=N at hn how hwl hcw
      have HNN:=aside hNN
      clear hNN
      have HO:=aside how
      clear how
      have hz:((N:Int)==0)=false:=beq_eq_false_iff_ne.2 (by omega)
      have hN0:0<N:=by omega
      by_cases hb:c0=43
      ·subst hb
       have hx':((((bs (43::t0))[0]'hs0).toNat:Int) != 43)=false:=rfl
       have hx2:((((bs (43::t0))[0]'hs0).toNat:Int)==43)=true:=rfl
       have hbs:=HB3.out.size
       have hbs2:=H'.out.below.size
       have hbs3:=HB2.out.size
       rcases List.eq_nil_or_concat P with rfl | ⟨Q,⟨a,x,vl⟩,rfl⟩
       ·have HRR:=aside (show R=([],(n:Int),61) by
         have hr:=HR.out
         rw[HS.out] at hr
         rw[←hr]
         rfl)
        obtain⟨aw,cq,rfl⟩:∃ aw cq,u5=.slice aw 0 cq:=by
         rcases H'.out.own.row.2 with ⟨rfl,_⟩ | ⟨g,cap,cur,rfl,_⟩
         ·exact⟨_,_,rfl⟩
         ·exact⟨_,_,rfl⟩
        go_wp2
        go_ret3
        rw[HRR.out]
        exact⟨_,[],rfl,LOwn.nil _ _,rfl,H'.out.below.trans (HB3.out.mono hbs2)⟩
       ·have hrow:=H'.out.own.row
        rw[List.concat_eq_append,List.length_append] at hrow
        obtain⟨g,cap,rfl,hg1,hg2,hcap,hcapm⟩:=own_form hrow (by simp)
        clear hrow
        have hQn:=H'.out.count
        rw[List.concat_eq_append,List.length_append] at hQn
        have hff:=(H'.out.few (a,x,vl) (by simp))
        have hx0:0<x.length:=hff.1
        have hxx:x.length≤64:=hff.2
        clear hff
        have hfrw:=HO.out.frozenAt 0
        have hext:(bs (43::t0)).extract 1 (bs (43::t0)).size=bs t0:=extract_drop (bs (43::t0)) 1
        have hgw3:wr.heap.size≤gw:=by omega
        have HB4:=aside ((H'.out.below.trans ((HB3.out.setCell (p:=⟨gw,0,none⟩) hgw3 (.string (bs t0))).mono hbs2)))
        have HP4:=aside (show LOwn (w3.setCell ⟨gw,0,none⟩ (.string (bs t0))) w.heap.size (.slice (some ⟨g,0,none⟩) (Q.length+1) cap) (Q++[(a,x,vl)]) by
         have:=H'.out.own.below (HB3.out.setCell (p:=⟨gw,0,none⟩) hgw3 (.string (bs t0)))
         rwa [List.concat_eq_append] at this)
        have hfew:=aside (show ∀ p∈Q,0<p.2.1.length∧p.2.1.length≤64 from fun p hp=>H'.out.few p (by simp [hp]))
        have hQc:Q.length+1≤n+1:=by have:[(a,x,vl)].length=1:=rfl;omega
        have HSS:=aside (show lexStep n (said (Q.concat (a,x,vl))) (pre t 10)=if 64<(x++plusWords ((43::t0)::xs)).length then (7,[]) else (0,said Q++[(a,x++plusWords ((43::t0)::xs))]) by
         rw[HS.out,stepWords_plus,List.concat_eq_append,said_snoc,addLast_snoc,lastLen_snoc,if_neg (by simp)])
        simp only[maxLen] at hcapm
        by_cases ht0':t0=[]
        ·subst ht0'
         have hne3:(bs []).toList.isEmpty=true:=by
          rw[ByteArray.toList_eq]
          rfl
         have hN1:xs.length+1=N:=HNN.out
         have hst0:=(HO.out.stored 0 (.string (bs []))).1.cells (g:=gw) rfl
         by_cases hcw1:cw=1
         ·have hxs:xs=[]:=List.length_eq_zero_iff.1 (by omega)
          obtain rfl:N=1:=by omega
          subst hcw1
          have HYY:=aside (show List.length ([]:List (List UInt8))=0 from rfl)
          have HSX:=aside (show lexStep n (said (Q.concat (a,x,vl))) (pre t 10)=if 64<List.length x+0 then (7,[]) else (0,said Q++[(a,x++([]:List (List UInt8)))]) by
           rw[HSS.out,hxs]
           show (if 64<(x++([]:List (List UInt8))).length then _ else _)=_
           rw[List.length_append]
           rfl)
          have HNW:=aside (show ∀ (j:Nat) (u:Value),(strs [])[j]?=some u→(w3.setCell ⟨gw,0,none⟩ (.string (bs []))).cell? ((⟨gw,0,none⟩:Addr).add j)=some u from fun j u h=>by simp [strs] at h)
          clear hst0 hxs
          have hlast:=HP4.out.last
          have hcl:=hlast.1
          have HLA:=aside hlast.2.2
          clear hlast
          go_wp2_with (at_builtin;refine wpList_append_own_at _ rfl (.tmp 67) (.tmp 68) 43 rfl w.heap.size 9 iS _ 1 16 Tryz.underlying43 hiS hS0 hS1 hS2 rfl (by decide) vl (List.length x) (strs x) rfl HLA.out ⟨gw,0,none⟩ 0 0 (strs ([]:List (List UInt8))) rfl ?d1 ?d2 ?d3 ?d4 ?d5 ?d6 ?_)
          case d1=>first | (rw[strs_length,HYY.out];omega) | (rw[strs_length,HYY.out])
          case d2=>exact HNW.out
          case d3=>exact strs_one _
          case d4=>simp only[maxLen];omega
          case d5=>omega
          case d6=>exact HB4.out.size
          intro v5 w5 ho5 hg5 hn5 hat5
          clear hext hfrw hcell0 hne3 hx2 hx' hQn;generalize hLL0:List.length x=M at ho5 hn5 hat5 ⊢
          have hLL:List.length x+0=M:=hLL0
          have hpp:0<M:=by omega
          obtain⟨g5,c5,rfl,hg51,hg52,hc5,hm5⟩:=own_form ho5 hpp
          have ho5':w5.ownsRow w.heap.size 9 1 (.slice (some ⟨g5,0,none⟩) M c5) (List.length x+List.length ([]:List (List UInt8))) (strs x++strs ([]:List (List UInt8))):=by rw[HYY.out,hLL];exact ho5
          have HQ:=aside (HP4.out.grow ho5' hg5 (hat5.imp id fun e=>e.trans (by first | rfl | simp)))
          obtain⟨hcell5,hfr5⟩:=HP4.out.kept hg5
          have HB5:=aside ((HB4.out.grown hg5 HB4.out.size (fun k hk=>(own_lt HLA.out hk).1)).setCell (p:=⟨g,List.length Q*2+1,none⟩) hg1 (.slice (some ⟨g5,0,none⟩) M c5))
          clear ho5 ho5' hg5 hn5 hat5 hcl
          simp only[maxLen] at hm5
          have h64:¬64<M:=by omega
          have h64':¬(64:Int)<((M:Nat):Int):=by omega
          have HRR:=aside (show lexFold (n+1) (said Q++[(a,x++([]:List (List UInt8)))]) (linesOf (post t 10))=R by
           have hr:=HR.out
           rw[HSX.out,hLL,if_neg h64] at hr
           simpa using hr)
          have HXY:=aside (show (x++([]:List (List UInt8))).length≤64 by rw[List.length_append,HYY.out];omega)
          clear h64
          go_wp2
          go_roundw
          case rel=>
           refine⟨post t 10,n+1,Q++[(a,x++([]:List (List UInt8)),.slice (some ⟨g5,0,none⟩) M c5)],rfl,by go_num,⟨HQ.out,HB5.out,by rw[said_snoc];exact HRR.out,by omega,by omega,by rw[List.length_append];exact hQc,?_⟩⟩
           intro p hp
           rcases List.mem_append.1 hp with hp | hp
           ·exact hfew.out p hp
           ·rw[List.mem_singleton] at hp
            subst hp
            exact⟨by rw[List.length_append,HYY.out,hLL];exact hpp,HXY.out⟩
          case measure=>exact hpo
         ·have HYY:=aside (show xs.length=N-1 by omega)
          have HSX:=aside (show lexStep n (said (Q.concat (a,x,vl))) (pre t 10)=if 64<List.length x+(N-1) then (7,[]) else (0,said Q++[(a,x++xs)]) by
           rw[HSS.out]
           show (if 64<(x++xs).length then _ else _)=_
           rw[List.length_append,HYY.out]
           rfl)
          have hcw2:1<cw:=by omega
          have HNW:=aside (show ∀ (j:Nat) (u:Value),(strs xs)[j]?=some u→(w3.setCell ⟨gw,0,none⟩ (.string (bs []))).cell? ((⟨gw,1,none⟩:Addr).add j)=some u by
           intro j u h
           have:=hst0 (j+1) u (by simpa [strs] using h)
           cases j <;> simpa [Addr.add,Nat.add_comm] using this)
          clear hst0
          have hlast:=HP4.out.last
          have hcl:=hlast.1
          have HLA:=aside hlast.2.2
          clear hlast
          go_wp2_with (at_builtin;refine wpList_append_own_at _ rfl (.tmp 67) (.tmp 68) 43 rfl w.heap.size 9 iS _ 1 16 Tryz.underlying43 hiS hS0 hS1 hS2 rfl (by decide) vl (List.length x) (strs x) rfl HLA.out ⟨gw,1,none⟩ (N-1) (cw-1) (strs xs) rfl ?d1 ?d2 ?d3 ?d4 ?d5 ?d6 ?_)
          case d1=>first | (rw[strs_length,HYY.out];omega) | (rw[strs_length,HYY.out])
          case d2=>exact HNW.out
          case d3=>exact strs_one _
          case d4=>simp only[maxLen];omega
          case d5=>omega
          case d6=>exact HB4.out.size
          intro v5 w5 ho5 hg5 hn5 hat5
          clear hext hfrw hcell0 hne3 hx2 hx' hQn;generalize hLL0:List.length x+(N-1)=M at ho5 hn5 hat5 ⊢
          have hLL:List.length x+(N-1)=M:=hLL0
          have hpp:0<M:=by omega
          obtain⟨g5,c5,rfl,hg51,hg52,hc5,hm5⟩:=own_form ho5 hpp
          have ho5':w5.ownsRow w.heap.size 9 1 (.slice (some ⟨g5,0,none⟩) M c5) (List.length x+List.length xs) (strs x++strs xs):=by rw[HYY.out,hLL];exact ho5
          have HQ:=aside (HP4.out.grow ho5' hg5 (hat5.imp id fun e=>e.trans (by first | rfl | simp)))
          obtain⟨hcell5,hfr5⟩:=HP4.out.kept hg5
          have HB5:=aside ((HB4.out.grown hg5 HB4.out.size (fun k hk=>(own_lt HLA.out hk).1)).setCell (p:=⟨g,List.length Q*2+1,none⟩) hg1 (.slice (some ⟨g5,0,none⟩) M c5))
          clear ho5 ho5' hg5 hn5 hat5 hcl
          simp only[maxLen] at hm5
          by_cases h64:64<M
          ·have h64':(64:Int)<((M:Nat):Int):=by omega
           have HRR:=aside (show R=([],(n:Int),7) by
            have hr:=HR.out
            rw[HSX.out,hLL,if_pos h64] at hr
            rw[←hr]
            rfl)
           clear h64
           go_wp2
           go_ret3
           rw[HRR.out]
           exact⟨_,[],rfl,LOwn.nil _ _,rfl,HB5.out⟩
          ·have h64':¬(64:Int)<((M:Nat):Int):=by omega
           have HRR:=aside (show lexFold (n+1) (said Q++[(a,x++xs)]) (linesOf (post t 10))=R by
            have hr:=HR.out
            rw[HSX.out,hLL,if_neg h64] at hr
            simpa using hr)
           have HXY:=aside (show (x++xs).length≤64 by rw[List.length_append,HYY.out];omega)
           clear h64
           go_wp2
           go_roundw
           case rel=>
            refine⟨post t 10,n+1,Q++[(a,x++xs,.slice (some ⟨g5,0,none⟩) M c5)],rfl,by go_num,⟨HQ.out,HB5.out,by rw[said_snoc];exact HRR.out,by omega,by omega,by rw[List.length_append];exact hQc,?_⟩⟩
            intro p hp
            rcases List.mem_append.1 hp with hp | hp
            ·exact hfew.out p hp
            ·rw[List.mem_singleton] at hp
             subst hp
             exact⟨by rw[List.length_append,HYY.out,hLL];exact hpp,HXY.out⟩
           case measure=>exact hpo
        ·have hne3:(bs t0).toList.isEmpty=false:=by
          rw[ByteArray.toList_eq]
          exact List.isEmpty_eq_false_iff.2 ht0'
         have hpw:plusWords ((43::t0)::xs)=t0::xs:=by
          show (if t0.isEmpty then xs else t0::xs)=_
          rw[List.isEmpty_eq_false_iff.2 ht0']
          rfl
         have HYY:=aside (show (t0::xs).length=N from HNN.out)
         have HSX:=aside (show lexStep n (said (Q.concat (a,x,vl))) (pre t 10)=if 64<List.length x+N then (7,[]) else (0,said Q++[(a,x++(t0::xs))]) by
          rw[HSS.out,hpw,List.length_append,HYY.out])
         have HNW:=aside ((HO.out.stored 0 (.string (bs t0))).1.cells (g:=gw) rfl)
         clear ht0' hpw
         have hlast:=HP4.out.last
         have hcl:=hlast.1
         have HLA:=aside hlast.2.2
         clear hlast
         go_wp2_with (at_builtin;refine wpList_append_own_at _ rfl (.tmp 67) (.tmp 68) 43 rfl w.heap.size 9 iS _ 1 16 Tryz.underlying43 hiS hS0 hS1 hS2 rfl (by decide) vl (List.length x) (strs x) rfl HLA.out ⟨gw,0,none⟩ N cw (strs (t0::xs)) rfl ?d1 ?d2 ?d3 ?d4 ?d5 ?d6 ?_)
         case d1=>first | (rw[strs_length,HYY.out];omega) | (rw[strs_length,HYY.out])
         case d2=>exact HNW.out
         case d3=>exact strs_one _
         case d4=>simp only[maxLen];omega
         case d5=>omega
         case d6=>exact HB4.out.size
         intro v5 w5 ho5 hg5 hn5 hat5
         clear hext hfrw hcell0 hne3 hx2 hx' hQn;generalize hLL0:List.length x+N=M at ho5 hn5 hat5 ⊢
         have hLL:List.length x+N=M:=hLL0
         have hpp:0<M:=by omega
         obtain⟨g5,c5,rfl,hg51,hg52,hc5,hm5⟩:=own_form ho5 hpp
         have ho5':w5.ownsRow w.heap.size 9 1 (.slice (some ⟨g5,0,none⟩) M c5) (List.length x+List.length (t0::xs)) (strs x++strs (t0::xs)):=by rw[HYY.out,hLL];exact ho5
         have HQ:=aside (HP4.out.grow ho5' hg5 (hat5.imp id fun e=>e.trans (by first | rfl | simp)))
         obtain⟨hcell5,hfr5⟩:=HP4.out.kept hg5
         have HB5:=aside ((HB4.out.grown hg5 HB4.out.size (fun k hk=>(own_lt HLA.out hk).1)).setCell (p:=⟨g,List.length Q*2+1,none⟩) hg1 (.slice (some ⟨g5,0,none⟩) M c5))
         clear ho5 ho5' hg5 hn5 hat5 hcl
         simp only[maxLen] at hm5
         by_cases h64:64<M
         ·have h64':(64:Int)<((M:Nat):Int):=by omega
          have HRR:=aside (show R=([],(n:Int),7) by
           have hr:=HR.out
           rw[HSX.out,hLL,if_pos h64] at hr
           rw[←hr]
           rfl)
          clear h64
          go_wp2
          go_ret3
          rw[HRR.out]
          exact⟨_,[],rfl,LOwn.nil _ _,rfl,HB5.out⟩
         ·have h64':¬(64:Int)<((M:Nat):Int):=by omega
          have HRR:=aside (show lexFold (n+1) (said Q++[(a,x++(t0::xs))]) (linesOf (post t 10))=R by
           have hr:=HR.out
           rw[HSX.out,hLL,if_neg h64] at hr
           simpa using hr)
          have HXY:=aside (show (x++(t0::xs)).length≤64 by rw[List.length_append,HYY.out];omega)
          clear h64
          go_wp2
          go_roundw
          case rel=>
           refine⟨post t 10,n+1,Q++[(a,x++(t0::xs),.slice (some ⟨g5,0,none⟩) M c5)],rfl,by go_num,⟨HQ.out,HB5.out,by rw[said_snoc];exact HRR.out,by omega,by omega,by rw[List.length_append];exact hQc,?_⟩⟩
           intro p hp
           rcases List.mem_append.1 hp with hp | hp
           ·exact hfew.out p hp
           ·rw[List.mem_singleton] at hp
            subst hp
            exact⟨by rw[List.length_append,HYY.out,hLL];exact hpp,HXY.out⟩
          case measure=>exact hpo
      ·have hx:¬(((bs (c0::t0))[0]'hs0).toNat:Int)=43:=by
        intro h
        apply hb
        rw[←UInt8.toNat_inj]
        have h2:(c0.toNat:Int)=43:=h
        show c0.toNat=43
        omega
       have hx':((((bs (c0::t0))[0]'hs0).toNat:Int) != 43)=true:=bne_iff_ne.2 hx
       have hx2:((((bs (c0::t0))[0]'hs0).toNat:Int)==43)=false:=beq_eq_false_iff_ne.2 hx
       clear hx
       have HS2:=aside (HS.out.trans (stepWords_new _ _ _ _ _ hb))
       have HO1:=aside (H'.out.own.below HB3.out).row
       have hcnt:=H'.out.count
       have hbs:=HB3.out.size
       have hbs2:=H'.out.below.size
       go_wp2_with (at_builtin;refine wpList_append_own_at _ rfl (.tmp 37) (.tmp 40) 86 rfl w.heap.size 94 iL _ 2 32 Tryz.underlying86 hiL hL0 hL1 hL2 rfl (by decide) u5 P.length (cellsOf P) rfl (HO1.out.alloc _) ⟨w3.heap.size,0,none⟩ 1 1 [.int .i64 n,.slice none 0 0] rfl rfl ?c1 ?c2 ?c3 ?c4 ?c5 ?_)
       case c1=>exact cell_two _ _ _ _
       case c2=>
        intro u hu
        simp only[List.mem_cons,List.mem_nil_iff,or_false] at hu
        rcases hu with rfl | rfl <;> rfl
       case c3=>simp only[maxLen];omega
       case c4=>omega
       case c5=>simp;omega
       intro v1 w4 ho4 hg4 hn4 hat4
       obtain⟨g,cap,rfl,hg1,hg2,hcap,hcapm⟩:=own_form ho4 (by omega)
       have HP4:=aside (LOwn.push ((H'.out.own.below HB3.out).alloc (.cells #[.int .i64 n,.slice none 0 0] 94)) n ho4 hg4)
       have HOW:=aside (own_grown (HO.out.alloc (.cells #[.int .i64 n,.slice none 0 0] 94)) hg4 (by
        have:=own_ne HO.out HO1.out (by decide)
        simpa [Value.ownBlock] using this))
       have HNW:=aside (HOW.out.cells (g:=gw) rfl)
       have HB4:=aside ((((H'.out.below.trans (HB3.out.mono hbs2)).alloc (by omega) (.cells #[.int .i64 n,.slice none 0 0] 94))).grown hg4 (by simp;omega) (fun k hk=>(own_lt HO1.out hk).1))
       clear hg4 ho4 hat4 hn4
       simp only[maxLen] at hcapm
       have HSX:=aside (show lexStep n (said P) (pre t 10)=if 64<List.length ([]:List (List UInt8))+N then (7,[]) else (0,said P++[(n,[]++((c0::t0)::xs))]) by rw[HS2.out,HNN.out];simp)
       have HYY:=aside HNN.out
       have hxx:List.length ([]:List (List UInt8))≤64:=Nat.zero_le _
       have hfew:=aside (show ∀ p∈P,0<p.2.1.length∧p.2.1.length≤64 from H'.out.few)
       have hQc:P.length+1≤n+1:=by omega
       have hlast:=HP4.out.last
       have hcl:=hlast.1
       have HLA:=aside hlast.2.2
       clear hlast
       go_wp2_with (at_builtin;refine wpList_append_own_at _ rfl (.tmp 67) (.tmp 68) 43 rfl w.heap.size 9 iS _ 1 16 Tryz.underlying43 hiS hS0 hS1 hS2 rfl (by decide) (.slice none 0 0) (List.length ([]:List (List UInt8))) (strs ([]:List (List UInt8))) rfl HLA.out ⟨gw,0,none⟩ N cw (strs ((c0::t0)::xs)) rfl ?d1 ?d2 ?d3 ?d4 ?d5 ?d6 ?_)
       case d1=>first | (rw[strs_length,HYY.out];omega) | (rw[strs_length,HYY.out])
       case d2=>exact HNW.out
       case d3=>exact strs_one _
       case d4=>simp only[maxLen];omega
       case d5=>omega
       case d6=>exact HB4.out.size
       intro v5 w5 ho5 hg5 hn5 hat5
       skip
       have hLL:List.length ([]:List (List UInt8))+N=N:=by simp
       have hpp:0<N:=by omega
       obtain⟨g5,c5,rfl,hg51,hg52,hc5,hm5⟩:=own_form ho5 hpp
       have ho5':w5.ownsRow w.heap.size 9 1 (.slice (some ⟨g5,0,none⟩) N c5) (List.length ([]:List (List UInt8))+List.length ((c0::t0)::xs)) (strs ([]:List (List UInt8))++strs ((c0::t0)::xs)):=by rw[HYY.out,hLL];exact ho5
       have HQ:=aside (HP4.out.grow ho5' hg5 (hat5.imp id fun e=>e.trans (by first | rfl | simp)))
       obtain⟨hcell5,hfr5⟩:=HP4.out.kept hg5
       have HB5:=aside ((HB4.out.grown hg5 HB4.out.size (fun k hk=>(own_lt HLA.out hk).1)).setCell (p:=⟨g,List.length P*2+1,none⟩) hg1 (.slice (some ⟨g5,0,none⟩) N c5))
       clear ho5 ho5' hg5 hn5 hat5 hcl
       simp only[maxLen] at hm5
       by_cases h64:64<N
       ·have h64':(64:Int)<((N:Nat):Int):=by omega
        have HRR:=aside (show R=([],(n:Int),7) by
         have hr:=HR.out
         rw[HSX.out,hLL,if_pos h64] at hr
         rw[←hr]
         rfl)
        clear h64
        go_wp2
        go_ret3
        rw[HRR.out]
        exact⟨_,[],rfl,LOwn.nil _ _,rfl,HB5.out⟩
       ·have h64':¬(64:Int)<((N:Nat):Int):=by omega
        have HRR:=aside (show lexFold (n+1) (said P++[(n,([]:List (List UInt8))++((c0::t0)::xs))]) (linesOf (post t 10))=R by
         have hr:=HR.out
         rw[HSX.out,hLL,if_neg h64] at hr
         simpa using hr)
        have HXY:=aside (show (([]:List (List UInt8))++((c0::t0)::xs)).length≤64 by rw[List.length_append,HYY.out];omega)
        clear h64
        go_wp2
        go_roundw
        case rel=>
         refine⟨post t 10,n+1,P++[(n,([]:List (List UInt8))++((c0::t0)::xs),.slice (some ⟨g5,0,none⟩) N c5)],rfl,by go_num,⟨HQ.out,HB5.out,by rw[said_snoc];exact HRR.out,by omega,by omega,by rw[List.length_append];exact hQc,?_⟩⟩
         intro p hp
         rcases List.mem_append.1 hp with hp | hp
         ·exact hfew.out p hp
         ·rw[List.mem_singleton] at hp
          subst hp
          exact⟨by rw[List.length_append,HYY.out,hLL];exact hpp,HXY.out⟩
        case measure=>exact hpo
    ·have hc':cleanL (pre t 10)=false:=by simpa using hc
     have HRR:=aside (show R=([],(n:Int),60) by
      have hr:=HR.out
      rw[lexStep,if_neg hc] at hr
      rw[←hr]
      rfl)
     rw[hc'] at HL
     clear hc hc'
     go_wp2_with fail
     refine (HL.out _).mono ?_
     rintro e w2 ⟨rfl,hb2⟩
     have HB2:=aside (below_of_drewN hb2)
     clear hb2
     go_wp2
     go_ret3
     rw[HRR.out]
     exact⟨_,[],rfl,LOwn.nil _ _,rfl,H'.out.below.trans (HB2.out.mono H'.out.below.size)⟩
end LexF
namespace LexN
open Go Go.RowKit Ax Base LexB LexM LexD LexF
open LexE hiding W
variable {P:Program}
theorem row_rel {k:KW} {w:World} {B e sz n:Nat} {v:Value} {xs:List Value} {c:List AV} (h:w.ownsRow B e sz v n xs) (hc:RelL k c xs) (hS:∀ a u,B≤a.block→w.cell? a=some u→k.S a=some u):Rel k (.sl n c) v:=by
 have h0:=h
 rcases h.2 with ⟨rfl,rfl⟩ | ⟨g,cap,cur,rfl,hb,hg,hc',hm,hz,ht⟩
 ·have h1:=h.1
  have h2:=hc.1
  have:c=[]:=List.eq_nil_of_length_eq_zero (by omega)
  subst this
  exact .sl0 none 0
 ·refine .sl n cap c _ (fun j=>xs.getD j undef) hc' (fun j hj=>hS _ _ (by rw[Addr.add_lit];exact hb) ?_) (fun j z hz=>?_)
  ·have hj':j<xs.length:=by rw[hc.1];exact hj
   rw[Addr.add_lit,Nat.zero_add,h0.cellAt j (by rw[←h0.1];exact hj')]
   simp [List.getD,List.getElem?_eq_getElem hj']
  ·have hj':j<xs.length:=by rw[hc.1];exact(List.getElem?_eq_some_iff.1 hz).1
   refine hc.2 j z _ hz ?_
   simp [List.getD,List.getElem?_eq_getElem hj']
def SC (ws:W):List AV:=ws.map fun x=>.v (.string (bs x))
def WV (ws:W):AV:=.sl ws.length (SC ws)
def LC (L:LL):List AV:=L.flatMap fun p=>[.v (.int .i64 p.1),WV p.2]
def LV (L:LL):AV:=.sl L.length (LC L)
theorem idfL_strs (ws:W):idf.idfL (SC ws)=true:=by
 rw[idfL_iff]
 intro z hz
 obtain⟨x,_,rfl⟩:=List.mem_map.1 hz
 rfl
theorem wv_idf (ws:W):idf (WV ws)=true:=idfL_strs ws
theorem lv_idf (L:LL):idf (LV L)=true:=by
 show idf.idfL (LC L)=true
 rw[idfL_iff]
 intro z hz
 obtain⟨p,_,hz⟩:=List.mem_flatMap.1 hz
 rcases List.mem_cons.1 hz with rfl | hz
 ·rfl
 ·rcases List.mem_cons.1 hz with rfl | hz
  ·exact wv_idf _
  ·cases hz
theorem relL_strs (k:KW) (ws:W):RelL k (SC ws) (strs ws):=by
 refine⟨by simp [SC,strs],fun j z u hz hu=>?_⟩
 simp only[SC,strs,List.getElem?_map,Option.map_eq_some_iff] at hz hu
 obtain⟨x,hx,rfl⟩:=hz
 obtain⟨y,hy,rfl⟩:=hu
 rw[hx] at hy
 injection hy with hy
 subst hy
 exact .v _
theorem relL_two {k:KW} {a b:AV} {x y:Value} (h:Rel k a x) (g:Rel k b y):RelL k [a,b] [x,y]:=⟨rfl,fun j z u hz hu=>by
 match j with
 | 0=>simp at hz hu;subst hz hu;exact h
 | 1=>simp at hz hu;subst hz hu;exact g
 | j+2=>simp at hz⟩
theorem lines_rel {k:KW} {w:World} {B:Nat} {v:Value} {P:List Piece} (h:LOwn w B v P) (hS:∀ a u,B≤a.block→w.cell? a=some u→k.S a=some u):Rel k (LV (said P)) v:=by
 have hl:(said P).length=P.length:=by simp [said]
 have key:∀ Q:List Piece,(∀ p∈Q,w.ownsRow B 9 1 p.2.2 p.2.1.length (strs p.2.1))→RelL k (LC (said Q)) (cellsOf Q):=by
  intro Q
  induction Q with
  | nil=>exact fun _=>⟨rfl,fun j z u hz=>by cases hz⟩
  | cons p Q ih=>
   intro hq
   have e1:cellsOf (p::Q)=[.int .i64 p.1,p.2.2]++cellsOf Q:=by simp [cellsOf]
   have e2:LC (said (p::Q))=[.v (.int .i64 p.1),WV p.2.1]++LC (said Q):=by simp [LC,said]
   rw[e1,e2]
   exact(relL_two (.v _) (row_rel (hq p (by simp)) (relL_strs k _) hS)).append (ih fun q hq'=>hq q (by simp [hq']))
 unfold LV
 rw[hl]
 exact row_rel h.row (key P h.inner) hS
theorem relL_three {k:KW} {a b c:AV} {x y z:Value} (h:Rel k a x) (g:Rel k b y) (f:Rel k c z):RelL k [a,b,c] [x,y,z]:=⟨rfl,fun j p u hz hu=>by
 match j with
 | 0=>simp at hz hu;subst hz hu;exact h
 | 1=>simp at hz hu;subst hz hu;exact g
 | 2=>simp at hz hu;subst hz hu;exact f
 | j+3=>simp at hz⟩
def RV (R:LL × Int × Int):AV:=.tp [LV R.1,.v (.int .i64 R.2.1),.v (.int .i64 R.2.2)]
theorem lines_pc (t:List UInt8):PCall Tryz.prog 45 [.v (.string (bs t))] (RV (lexAll t)):=by
 refine pcall_mem (us:=[.string (bs t)]) ?_ (enters_of Tryz.func45 (by kernel_rfl) rfl) fun w=>(lines_any t w).mono ?_
 ·show (idf (LV _)&&true)=true
  rw[lv_idf]
  rfl
 ·rintro en w' ⟨v,P,rfl,ho,hsd,hb⟩
  refine⟨_,rfl,hb,fun k hS=>?_⟩
  obtain⟨h1,h2⟩:=relL_three (lines_rel ho hS) (.v (.int .i64 (lexAll t).2.1)) (.v (.int .i64 (lexAll t).2.2))
  rw[hsd] at h2 h1
  exact .tp _ _ h1 h2
end LexN
namespace LexR
open Go.RowKit Base LexA LexB LexM LexE
theorem linesGo_ten (cur t:List UInt8):linesGo cur (10::t)=cur::linesGo [] t:=by
 rw[linesGo]
 rfl
theorem lexStep_none (n:Nat) (L:LL) (c:List UInt8) (h:cleanL c=true) (hw:lexWords c=[]):lexStep n L c=(0,L):=by
 unfold lexStep
 rw[if_pos h,hw]
 rfl
theorem lexFold_cons (n:Nat) (L:LL) (x:List UInt8) (xs:List (List UInt8)):lexFold n L (x::xs)=if (lexStep n L x).1=0 then lexFold (n+1) (lexStep n L x).2 xs else ([],n,(lexStep n L x).1):=rfl
end LexR
namespace LexT
open Go.RowKit Base LexA LexB LexM LexE LexR
def piecesGo:List UInt8→List UInt8→List (List UInt8)
 | cur,[]=>[cur]
 | cur,b::t=>if b==10 then cur::piecesGo [] t else piecesGo (cur++[b]) t
def tens (t:List UInt8):Nat:=t.countP (· == 10)
theorem pieces_length:∀ (t cur:List UInt8),(piecesGo cur t).length=1+tens t
 | [],_=>rfl
 | b::t,cur=>by
  rw[piecesGo]
  have h1:=pieces_length t []
  have h2:=pieces_length t (cur++[b])
  by_cases h:(b==10)=true
  ·have e:tens (b::t)=tens t+1:=List.countP_cons_of_pos h
   rw[if_pos h,List.length_cons,h1,e]
   omega
  ·have e:tens (b::t)=tens t:=List.countP_cons_of_neg h
   rw[if_neg h,h2,e]
theorem pieces_lines:∀ (t cur:List UInt8),piecesGo cur t=linesGo cur t∨piecesGo cur t=linesGo cur t++[[]]
 | [],cur=>by
  rw[piecesGo,linesGo]
  cases cur with
  | nil=>exact .inr rfl
  | cons c cs=>exact .inl rfl
 | b::t,cur=>by
  rw[piecesGo,linesGo]
  by_cases h:(b==10)=true
  ·rw[if_pos h,if_pos h]
   rcases pieces_lines t [] with e | e
   ·exact .inl (by rw[e])
   ·exact .inr (by rw[e];rfl)
  ·rw[if_neg h,if_neg h]
   exact pieces_lines t (cur++[b])
theorem lines_joined:∀ (a cur b:List UInt8),linesGo cur (a++10::b)=piecesGo cur a++linesGo [] b
 | [],cur,b=>by
  rw[List.nil_append,linesGo_ten]
  rfl
 | x::a,cur,b=>by
  rw[List.cons_append,linesGo,piecesGo]
  by_cases h:(x==10)=true
  ·rw[if_pos h,if_pos h,lines_joined a [] b]
   rfl
  ·rw[if_neg h,if_neg h,lines_joined a _ b]
theorem fold_append:∀ (xs ys:List (List UInt8)) (n:Nat) (L:LL),lexFold n L (xs++ys)=if (lexFold n L xs).2.2=0 then lexFold (n+xs.length) (lexFold n L xs).1 ys else lexFold n L xs
 | [],ys,n,L=>rfl
 | x::xs,ys,n,L=>by
  rw[List.cons_append,lexFold_cons,lexFold_cons]
  by_cases h:(lexStep n L x).1=0
  ·rw[if_pos h,if_pos h,fold_append xs ys (n+1)]
   have e:n+1+xs.length=n+(x::xs).length:=by rw[List.length_cons];omega
   rw[e]
  ·rw[if_neg h,if_neg h,if_neg h]
theorem fold_empty (n:Nat) (L:LL) (xs:List (List UInt8)):lexFold n L (xs++[[]])=lexFold n L xs:=by
 rw[fold_append]
 by_cases h:(lexFold n L xs).2.2=0
 ·rw[if_pos h,lexFold_cons,lexStep_none _ _ [] (by decide) (by decide),if_pos rfl]
  show ((lexFold n L xs).1,(0:Int),(0:Int))=_
  have h2:=fold_zero xs n L h
  exact Prod.ext rfl (Prod.ext h2.symm h.symm)
 ·rw[if_neg h]
where
 fold_zero:∀ (xs:List (List UInt8)) (n:Nat) (L:LL),(lexFold n L xs).2.2=0→(lexFold n L xs).2.1=0
  | [],_,_,_=>rfl
  | x::xs,n,L,h=>by
   rw[lexFold_cons] at h ⊢
   by_cases h1:(lexStep n L x).1=0
   ·rw[if_pos h1] at h ⊢
    exact fold_zero xs _ _ h
   ·rw[if_neg h1] at h
    exact absurd h h1
def shift (m:Nat) (L:LL):LL:=L.map fun p=>(m+p.1,p.2)
theorem add_shift (m:Nat) (X:LL):∀ (L:LL) (y:W),¬L=[]→addLast (X++shift m L) y=X++shift m (addLast L y):=by
 intro L y h
 rcases List.eq_nil_or_concat L with rfl | ⟨Q,⟨a,x⟩,rfl⟩
 ·exact absurd rfl h
 ·rw[List.concat_eq_append,addLast_snoc]
  unfold shift
  rw[List.map_append,List.map_append,←List.append_assoc,←List.append_assoc]
  exact addLast_snoc _ _ _ _
theorem last_shift (m:Nat) (X:LL) (L:LL) (h:¬L=[]):lastLen (X++shift m L)=lastLen L:=by
 rcases List.eq_nil_or_concat L with rfl | ⟨Q,⟨a,x⟩,rfl⟩
 ·exact absurd rfl h
 ·rw[List.concat_eq_append,lastLen_snoc]
  unfold shift
  rw[List.map_append,←List.append_assoc]
  exact lastLen_snoc _ _ _
theorem addLast_ne (L:LL) (y:W) (h:¬L=[]):¬addLast L y=[]:=by
 rcases List.eq_nil_or_concat L with rfl | ⟨Q,⟨a,x⟩,rfl⟩
 ·exact absurd rfl h
 ·rw[List.concat_eq_append,addLast_snoc]
  simp
theorem step_shift (m k:Nat) (X L:LL) (w:W) (h:¬(stepWords k L w).1=61):(stepWords (m+k) (X++shift m L) w).1=(stepWords k L w).1∧((stepWords k L w).1=0→(stepWords (m+k) (X++shift m L) w).2=X++shift m (stepWords k L w).2):=by
 unfold stepWords at h ⊢
 split at h
 ·exact⟨rfl,fun _=>rfl⟩
 ·rename_i t ws
  by_cases hL:L=[]
  ·subst hL
   exact absurd rfl h
  ·have e1:L.isEmpty=false:=by simpa using hL
   have e2:(X++shift m L).isEmpty=false:=by
    cases L with
    | nil=>exact absurd rfl hL
    | cons p L=>simp [shift]
   rw[e1,e2,add_shift m X L _ hL,last_shift m X _ (addLast_ne L _ hL)]
   simp only[Bool.false_eq_true,if_false]
   split
   ·exact⟨rfl,fun h=>by simp at h⟩
   ·exact⟨rfl,fun _=>rfl⟩
 ·split
  ·exact⟨rfl,fun h=>by simp at h⟩
  ·refine⟨rfl,fun _=>?_⟩
   simp [shift]
theorem lexStep_shift (m k:Nat) (X L:LL) (x:List UInt8) (h:¬(lexStep k L x).1=61):(lexStep (m+k) (X++shift m L) x).1=(lexStep k L x).1∧((lexStep k L x).1=0→(lexStep (m+k) (X++shift m L) x).2=X++shift m (lexStep k L x).2):=by
 unfold lexStep at h ⊢
 split
 ·rename_i hc
  rw[if_pos hc] at h
  exact step_shift m k X L _ h
 ·exact⟨rfl,fun h=>by simp at h⟩
theorem fold_shift (m:Nat) (X:LL):∀ (xs:List (List UInt8)) (k:Nat) (L:LL),¬(lexFold k L xs).2.2=61 →
  lexFold (m+k) (X++shift m L) xs=if (lexFold k L xs).2.2=0 then (X++shift m (lexFold k L xs).1,0,0) else ([],m+(lexFold k L xs).2.1,(lexFold k L xs).2.2)
 | [],k,L,_=>rfl
 | x::xs,k,L,h=>by
  rw[lexFold_cons] at h ⊢
  rw[lexFold_cons k]
  by_cases h1:(lexStep k L x).1=0
  ·have hs:=lexStep_shift m k X L x (by rw[h1];decide)
   rw[if_pos h1] at h
   rw[if_pos (hs.1.trans h1),if_pos h1,hs.2 h1]
   exact fold_shift m X xs (k+1) _ h
  ·rw[if_neg h1] at h
   have hs:=lexStep_shift m k X L x h
   rw[if_neg (by rw[hs.1];exact h1),if_neg h1]
   show _=if (lexStep k L x).1=0 then _ else _
   rw[if_neg h1,hs.1]
   simp
theorem lexAll_short (t:List UInt8) (h:t.length≤65536):lexAll t=lexFold 1 [] (linesGo [] t):=by
 unfold lexAll
 rw[if_neg (by omega)]
 rfl
theorem fold_pieces (a:List UInt8):lexFold 1 [] (piecesGo [] a)=lexFold 1 [] (linesGo [] a):=by
 rcases pieces_lines a [] with e | e
 ·rw[e]
 ·rw[e,fold_empty]
theorem joined_bad (a b:List UInt8) (ha:a.length+b.length≤60000) (h:¬(lexAll a).2.2=0):lexAll (a++10::b)=lexAll a:=by
 rw[lexAll_short a (by omega)] at h ⊢
 rw[lexAll_short (a++10::b) (by rw[List.length_append,List.length_cons];omega),lines_joined,fold_append,fold_pieces,if_neg h]
theorem joined_good (a b:List UInt8) (ha:a.length+b.length≤60000) (h:(lexAll a).2.2=0) (h2:¬(lexAll b).2.2=61) :
  lexAll (a++10::b)=if (lexAll b).2.2=0 then ((lexAll a).1++shift (1+tens a) (lexAll b).1,0,0) else ([],((1+tens a:Nat):Int)+(lexAll b).2.1,(lexAll b).2.2):=by
 rw[lexAll_short a (by omega)] at h ⊢
 rw[lexAll_short b (by omega)] at h2 ⊢
 rw[lexAll_short (a++10::b) (by rw[List.length_append,List.length_cons];omega),lines_joined,fold_append,fold_pieces,if_pos h,pieces_length]
 have:=fold_shift (1+tens a) (lexFold 1 [] (linesGo [] a)).1 (linesGo [] b) 1 [] h2
 rw[show (lexFold 1 [] (linesGo [] a)).1++shift (1+tens a) []=(lexFold 1 [] (linesGo [] a)).1 by simp [shift]] at this
 rw[show 1+(1+tens a)=1+tens a+1 by omega]
 exact this
end LexT
namespace LexP
open Go.RowKit Base LexA LexB LexM LexE
theorem all_bytes (p:UInt8→Bool) (h:((List.range 256).all fun n=>p (UInt8.ofNat n))=true) (b:UInt8):p b=true:=by
 have h1:=List.all_eq_true.1 h b.toNat (List.mem_range.2 b.toNat_lt)
 rwa [UInt8.ofNat_toNat] at h1
end LexP
namespace LexX
open Go.RowKit Base LexA LexB LexM LexE LexR LexT
open LexP (all_bytes)
def okW (b:UInt8):Bool:=33≤b&&b≤126&&!(b==59)&&!(65≤b&&b≤90)
def goodWord (x:List UInt8):Prop:=x≠[]∧(∀ b∈x,okW b=true)∧x.length≤65536
def goodLine (ws:W):Prop:=(∃ c t r,ws=(c::t)::r∧¬c=42∧¬c=43)∧(∀ x∈ws,goodWord x)∧ws.length≤64
def goodAll (n:Nat) (L:LL):Prop:=(∀ p∈L,goodLine p.2∧1≤p.1∧p.1<n)∧L.Pairwise fun p q=>p.1<q.1
theorem okW_of (b:UInt8) (h1:okB b=true) (h2:¬b=59) (h3:blankB (Lib.lowerB b)=false):okW (Lib.lowerB b)=true:=by
 have:=all_bytes (fun b=>!(okB b)||b==59||blankB (Lib.lowerB b)||okW (Lib.lowerB b)) (by decide +kernel) b
 simp only[h1,h3,Bool.not_true,Bool.false_or,Bool.or_false,Bool.or_eq_true,beq_iff_eq] at this
 rcases this with this | this
 ·exact absurd this h2
 ·exact this
theorem fieldsGo_mem:∀ (l cur:List UInt8),∀ x∈fieldsGo cur l,∀ b∈x,(b∈cur∨(b∈l∧blankB b=false))
 | [],cur,x,hx,b,hb=>by
  rw[fieldsGo] at hx
  split at hx
  ·simp at hx
  ·rw[List.mem_singleton] at hx
   subst hx
   exact .inl hb
 | a::l,cur,x,hx,b,hb=>by
  rw[fieldsGo] at hx
  split at hx
  ·split at hx
   ·rcases fieldsGo_mem l [] x hx b hb with h | ⟨h,h2⟩
    ·simp at h
    ·exact .inr ⟨List.mem_cons_of_mem _ h,h2⟩
   ·rcases List.mem_cons.1 hx with rfl | hx
    ·exact .inl hb
    ·rcases fieldsGo_mem l [] x hx b hb with h | ⟨h,h2⟩
     ·simp at h
     ·exact .inr ⟨List.mem_cons_of_mem _ h,h2⟩
  ·rename_i hbl
   rcases fieldsGo_mem l (cur++[a]) x hx b hb with h | ⟨h,h2⟩
   ·rcases List.mem_append.1 h with h | h
    ·exact .inl h
    ·rw[List.mem_singleton] at h
     subst h
     exact .inr ⟨List.mem_cons_self,by simpa using hbl⟩
   ·exact .inr ⟨List.mem_cons_of_mem _ h,h2⟩
theorem fieldsGo_len:∀ (l cur:List UInt8),∀ x∈fieldsGo cur l,x.length≤cur.length+l.length
 | [],cur,x,hx=>by
  rw[fieldsGo] at hx
  split at hx
  ·simp at hx
  ·rw[List.mem_singleton] at hx
   subst hx
   simp
 | a::l,cur,x,hx=>by
  rw[fieldsGo] at hx
  split at hx
  ·split at hx
   ·have:=fieldsGo_len l [] x hx
    simp at this ⊢
    omega
   ·rcases List.mem_cons.1 hx with rfl | hx
    ·simp
    ·have:=fieldsGo_len l [] x hx
     simp at this ⊢
     omega
  ·have:=fieldsGo_len l (cur++[a]) x hx
   simp at this ⊢
   omega
theorem linesGo_len:∀ (l cur:List UInt8),∀ x∈linesGo cur l,x.length≤cur.length+l.length
 | [],cur,x,hx=>by
  rw[linesGo] at hx
  split at hx
  ·simp at hx
  ·rw[List.mem_singleton] at hx
   subst hx
   simp
 | a::l,cur,x,hx=>by
  rw[linesGo] at hx
  split at hx
  ·rcases List.mem_cons.1 hx with rfl | hx
   ·simp
   ·have:=linesGo_len l [] x hx
    simp at this ⊢
    omega
  ·have:=linesGo_len l (cur++[a]) x hx
   simp at this ⊢
   omega
theorem pre_mem:∀ (l:List UInt8),∀ b∈pre l 59,b∈l∧¬b=59
 | [],b,hb=>by simp [pre] at hb
 | a::l,b,hb=>by
  unfold pre at hb
  rw[List.takeWhile_cons] at hb
  split at hb
  ·rename_i h
   rcases List.mem_cons.1 hb with rfl | hb
   ·exact⟨List.mem_cons_self,by simpa using h⟩
   ·have:=pre_mem l b hb
    exact⟨List.mem_cons_of_mem _ this.1,this.2⟩
  ·simp at hb
theorem lexWords_good (l:List UInt8) (hc:cleanL l=true) (hl:l.length≤65536):∀ x∈lexWords l,goodWord x:=by
 intro x hx
 have hx2:x∈fieldsB ((pre l 59).map Lib.lowerB):=by
  unfold lexWords at hx
  split at hx
  ·simp at hx
  ·exact hx
 refine⟨lexWords_ne l x hx,?_,?_⟩
 case refine_2=>
  have h1:=fieldsGo_len _ [] x hx2
  rw[List.length_map] at h1
  have h2:=pre_length l 59
  simp only[List.length_nil] at h1
  omega
 intro b hb
 rcases fieldsGo_mem _ [] x hx2 b hb with h | ⟨h,h2⟩
 ·simp at h
 ·obtain⟨a,ha,rfl⟩:=List.mem_map.1 h
  obtain⟨h3,h4⟩:=pre_mem l a ha
  exact okW_of a (List.all_eq_true.1 hc a h3) h4 h2
theorem lexWords_star (l:List UInt8) (c:UInt8) (t:List UInt8) (r:W) (h:lexWords l=(c::t)::r):¬c=42:=by
 rintro rfl
 unfold lexWords at h
 split at h
 ·cases h
 ·rename_i h2
  exact h2 t r h
theorem goodLine_add (x y:W) (hx:goodLine x) (hy:∀ w∈y,goodWord w) (hl:(x++y).length≤64):goodLine (x++y):=by
 obtain⟨⟨c,t,r,rfl,h1,h2⟩,h3,_⟩:=hx
 refine⟨⟨c,t,r++y,rfl,h1,h2⟩,?_,hl⟩
 intro w hw
 rcases List.mem_append.1 hw with hw | hw
 ·exact h3 w hw
 ·exact hy w hw
theorem plusWords_good (w:W) (hw:∀ x∈w,goodWord x):∀ x∈plusWords w,goodWord x:=by
 intro x hx
 unfold plusWords at hx
 split at hx
 ·rename_i b t ws
  split at hx
  ·exact hw x (List.mem_cons_of_mem _ hx)
  ·rename_i ht
   rcases List.mem_cons.1 hx with rfl | hx
   ·refine⟨by simpa using ht,fun c hc=>?_,by have:=(hw (b::x) List.mem_cons_self).2.2;rw[List.length_cons] at this;omega⟩
    exact(hw (b::x) List.mem_cons_self).2.1 c (List.mem_cons_of_mem _ hc)
   ·exact hw x (List.mem_cons_of_mem _ hx)
 ·exact hw x hx
theorem goodAll_succ (n:Nat) (L:LL) (h:goodAll n L):goodAll (n+1) L:=⟨fun p hp=>⟨(h.1 p hp).1,(h.1 p hp).2.1,by have:=(h.1 p hp).2.2;omega⟩,h.2⟩
theorem lexStep_good (n:Nat) (L:LL) (x:List UInt8) (hxl:x.length≤65536) (hn:1≤n) (h:goodAll n L) (h0:(lexStep n L x).1=0):goodAll (n+1) (lexStep n L x).2:=by
 unfold lexStep at h0 ⊢
 by_cases hc:cleanL x=true
 ·rw[if_pos hc] at h0 ⊢
  have hw:=lexWords_good x hc hxl
  have hs:=lexWords_star x
  generalize lexWords x=w at *
  cases w with
  | nil=>exact goodAll_succ n L h
  | cons x0 xs=>
   obtain⟨c0,t0,rfl⟩:=List.exists_cons_of_ne_nil (hw x0 List.mem_cons_self).1
   by_cases h43:c0=43
   ·subst h43
    rw[stepWords_plus] at h0 ⊢
    rcases List.eq_nil_or_concat L with rfl | ⟨Q,⟨a,y⟩,rfl⟩
    ·simp at h0
    ·rw[List.concat_eq_append] at *
     have e:(Q++[(a,y)]).isEmpty=false:=by simp
     rw[e,addLast_snoc,lastLen_snoc] at h0 ⊢
     simp only[Bool.false_eq_true,if_false] at h0 ⊢
     by_cases h64:64<(y++plusWords ((43::t0)::xs)).length
     ·rw[if_pos h64] at h0
      simp at h0
     ·rw[if_neg h64]
      refine⟨?_,?_⟩
      ·intro p hp
       rcases List.mem_append.1 hp with hp | hp
       ·have:=h.1 p (List.mem_append_left _ hp)
        exact⟨this.1,this.2.1,by omega⟩
       ·rw[List.mem_singleton] at hp
        subst hp
        have:=h.1 (a,y) (by simp)
        exact⟨goodLine_add y _ this.1 (plusWords_good _ hw) (by omega),this.2.1,by have:=this.2.2;simp only[] at *;omega⟩
      ·have hp:=List.pairwise_append.1 h.2
       rw[List.pairwise_append]
       refine⟨hp.1,List.pairwise_singleton _ _,fun p hp1 q hq=>?_⟩
       rw[List.mem_singleton] at hq
       subst hq
       exact hp.2.2 p hp1 (a,y) (by simp)
   ·rw[stepWords_new _ _ _ _ _ h43] at h0 ⊢
    by_cases h64:64<((c0::t0)::xs).length
    ·rw[if_pos h64] at h0
     simp at h0
    ·rw[if_neg h64]
     refine⟨?_,?_⟩
     ·intro p hp
      rcases List.mem_append.1 hp with hp | hp
      ·have:=h.1 p hp
       exact⟨this.1,this.2.1,by omega⟩
      ·rw[List.mem_singleton] at hp
       subst hp
       exact⟨⟨⟨c0,t0,xs,rfl,hs c0 t0 xs rfl,h43⟩,hw,Nat.le_of_not_lt h64⟩,hn,by simp⟩
     ·rw[List.pairwise_append]
      refine⟨h.2,List.pairwise_singleton _ _,fun p hp1 q hq=>?_⟩
      rw[List.mem_singleton] at hq
      subst hq
      exact(h.1 p hp1).2.2
 ·rw[if_neg hc] at h0
  simp at h0
theorem lexFold_good:∀ (xs:List (List UInt8)) (n:Nat) (L:LL),(∀ x∈xs,x.length≤65536)→1≤n→goodAll n L→(lexFold n L xs).2.2=0→goodAll (n+xs.length) (lexFold n L xs).1
 | [],n,L,_,_,h,_=>h
 | x::xs,n,L,hl,hn,h,h0=>by
  rw[lexFold_cons] at h0 ⊢
  by_cases h1:(lexStep n L x).1=0
  ·rw[if_pos h1] at h0 ⊢
   have:=lexFold_good xs (n+1) _ (fun y hy=>hl y (List.mem_cons_of_mem _ hy)) (by omega) (lexStep_good n L x (hl x List.mem_cons_self) hn h h1) h0
   rw[List.length_cons,show n+(xs.length+1)=n+1+xs.length by omega]
   exact this
  ·rw[if_neg h1] at h0
   exact absurd h0 h1
theorem lexAll_good (t:List UInt8) (h:(lexAll t).2.2=0):goodAll 65539 (lexAll t).1:=by
 unfold lexAll at h ⊢
 split
 ·rename_i hl
  rw[if_pos hl] at h
  simp at h
 ·rename_i hl
  rw[if_neg hl] at h
  have h1:=lexFold_good (linesOf t) 1 [] (fun x hx=>by have:=linesGo_len t [] x hx;simp at this;omega) (Nat.le_refl _) ⟨by simp,List.Pairwise.nil⟩ h
  have h2:=linesGo_length t []
  unfold linesOf at *
  exact⟨fun p hp=>⟨(h1.1 p hp).1,(h1.1 p hp).2.1,by have:=(h1.1 p hp).2.2;omega⟩,h1.2⟩
end LexX
namespace NetAF
open Go Go.RowKit Ax Ti NumS NumT CardS CardP CardA CardB CardE CardG CardI CardJ CardK CardL CardN CardX NetS NetA NetE NetM NetN NetO NetQ NetT NetAA NetAB NetAC NetAD NetAE NetF NetJ NetL
open LexE (W LL lexAll lexAll_count)
theorem rTI:type_of% (J21 @ti3 @ti2 @ti4 @ti9 @ti5 @ti43 @ti45 @ti44 @ti23 @ti28 @ti86 @ti89 @ti92 @ti31 @ti94 @Nat.zero_add @tz0 @tz1 @tz3 @Nat.mul_one @Int.toNat_natCast):=cj @ti3 (J20 @ti2 @ti4 @ti9 @ti5 @ti43 @ti45 @ti44 @ti23 @ti28 @ti86 @ti89 @ti92 @ti31 @ti94 @Nat.zero_add @tz0 @tz1 @tz3 @Nat.mul_one @Int.toNat_natCast)
theorem bs_eight (x:List UInt8):bs (x.map UInt8.toNat)=LexB.bs x:=by
 show (⟨((x.map UInt8.toNat).map UInt8.ofNat).toArray⟩:ByteArray)=⟨x.toArray⟩
 congr 2
 rw[List.map_map]
 conv=>rhs;rw[←List.map_id x]
 exact List.map_congr_left fun c _=>UInt8.ofNat_toNat
def lnL (l:Line):List AV:=[.v (.int .i64 l.1),TV l.2]
def LNL (L:List Line):List AV:=L.flatMap lnL
def LNV (L:List Line):AV:=.sl L.length (LNL L)
theorem lnl_len (L:List Line):(LNL L).length=L.length*2:=fl_len lnL 2 (fun _=>rfl) L
theorem lnl_at (L:List Line) (k:Nat) (h:k<L.length):((LNL L).drop (k*2)).take 2=lnL (L.getD k (0,[])):=fl_at lnL (0,[]) 2 (fun _=>rfl) L k h
theorem lines_eq (L:LL):LexN.LV L=LNV (linesW L):=by
 have h:LexN.LC L=LNL (linesW L):=by
  unfold LexN.LC LNL linesW
  rw[List.flatMap_map]
  congr 1
  funext p
  unfold lnL TV SL SV LexN.WV LexN.SC wordsN
  rw[List.length_map,List.map_map]
  congr 3
  exact List.map_congr_left fun x _=>by
   show AV.v (.string (LexB.bs x))=AV.v (.string (bs (x.map UInt8.toNat)))
   rw[bs_eight]
 unfold LexN.LV LNV
 rw[h]
 congr 1
 unfold linesW
 rw[List.length_map]
theorem lines_ax (t:List UInt8):PCall Tryz.prog 45 [.v (.string (LexB.bs t))] (.tp [LNV (linesW (lexAll t).1),.v (.int .i64 (lexAll t).2.1),.v (.int .i64 (lexAll t).2.2)]):=by
 have:=LexN.lines_pc t
 unfold LexN.RV at this
 rw[lines_eq] at this
 exact this
theorem lines_ok (t:List UInt8) (h:(lexAll t).2.2=0):∀ l∈linesW (lexAll t).1,LnOk l:=by
 intro l hl
 obtain⟨p,hp,rfl⟩:=List.mem_map.1 hl
 obtain⟨⟨⟨c,r,q,e,_⟩,h2,h3⟩,_⟩:=(LexX.lexAll_good t h).1 p hp
 refine⟨fun x hx=>?_,fun x hx=>?_,by simpa [wordsN] using h3,⟨_,wordsN q,by rw[e];rfl,by simp⟩⟩
 ·obtain⟨y,hy,rfl⟩:=List.mem_map.1 hx
  intro z hz
  obtain⟨u,_,rfl⟩:=List.mem_map.1 hz
  exact u.toNat_lt
 ·obtain⟨y,hy,rfl⟩:=List.mem_map.1 hx
  rw[List.length_map]
  exact(h2 y hy).2.2
def InOk (p:Par):Prop:=p.inside=true→p.c.subs≠[]
theorem inOk_line (p:Par) (l:Line) (h:InOk p):InOk (lineN p l).1:=by
 have hl:∀ q:Par,q.inside=p.inside→q.c.subs=p.c.subs→InOk q:=fun q h1 h2 hi=>by rw[h2];exact h (h1 ▸ hi)
 unfold lineN
 simp only
 (repeat' split) <;> (try exact h)
 ·have:=step_lists p (l.2.getD 1 [])
  exact hl _ this.i this.u
 ·unfold setMethod
  split
  ·exact h
  ·exact hl _ rfl rfl
 ·have:=model_lists p l.2
  exact hl _ this.2.2.1 this.1
 ·unfold addSub
  simp only
  (repeat' split) <;> (try exact h)
  intro _
  simp
 ·intro hi;cases hi
 ·unfold addCard
  (repeat' split) <;> (try exact h)
  ·intro hi
   have:=h hi
   intro e
   have e2:=congrArg List.length e
   rw[lm_len] at e2
   exact this (List.length_eq_zero_iff.1 e2)
theorem mv_idf (l:List Mdl):idf (MV l)=true:=(idfL_iff _).2 fun z hz=>by
 unfold ML at hz
 obtain⟨x,_,hz⟩:=List.mem_flatMap.1 hz
 unfold mdlL at hz
 simp only[List.mem_cons,List.not_mem_nil,or_false] at hz
 rcases hz with rfl | rfl | rfl | rfl
 ·rfl
 ·rfl
 ·exact NetW.nv_free _
 ·exact NetW.nv_free _
theorem cir_idf (c:Cir):idf (CirV c)=true:=(idfL_iff _).2 fun z hz=>by
 unfold cirL at hz
 simp only[List.mem_cons,List.not_mem_nil,or_false] at hz
 rcases hz with rfl | rfl | rfl | rfl | rfl | rfl
 ·rfl
 ·rfl
 ·rfl
 ·exact mv_idf _
 ·exact ul_idf _
 ·exact NetW.kv_idf _
theorem frz_pc (i:Nat) (c:List AV) (p:Par) (m u d pl sp:AV):frz.frzL i c (PC p m u d pl sp)=PC p (frz i c m) (frz i c u) (frz i c d) (frz i c pl) (frz i c sp):=rfl
theorem aw_lay1 {code:Code} {m0:Nat} {e:Env} {s:St} {Q:Exit→Env→St→Prop} (i0 i:Nat) (c x:List AV) (g0:s.get i0=some x) (gi:s.get i=some c) (hne:i0≠i)
  (h:∀ e' s',e'.n=e.n→(∀ t,e'.m t=frz i c (e.m t))→s'.nx=s.nx→s'.get i0=some (frz.frzL i c x)→(∀ j,j≠i0→j≠i→s'.get j=s.get j)→AW Tryz.prog code m0 e' s' Q):AW Tryz.prog code m0 e s Q:=by
 refine aw_freeze2 i c gi (fun j=>j==i0) fun e1 s1 f1 f2 f3 f4=>h e1 s1 f1 f2 f3 ?_ fun j h1 h2=>?_
 ·rw[f4,if_neg hne,if_pos (by simp),g0,Option.map_some]
 ·rw[f4,if_neg h2,if_neg (by simpa using h1)]
theorem aw_laid {code:Code} {m0 n0:Nat} {e:Env} {s:St} {b:Nat→Nat} {p:Par} {Q:Exit→Env→St→Prop} (hp:PS n0 s b p) (hi:p.inside=false)
  (h:∀ e' s',e'.n=e.n→(∀ t z,e.m t=z→idf z=true→e'.m t=z)→(∀ t id off,e.m t=.ptr id off→(∀ j,1≤j→j<6→id≠b j)→e'.m t=.ptr id off)→s'.nx=s.nx →
   s'.get (b 0)=some (PC p (MV p.c.models) (UV p.c.subs) (KV p.c.cards) (IV p.places) (PL p.subPl))→(∀ i,(∀ j,j<6→i≠b j)→s'.get i=s.get i)→AW Tryz.prog code m0 e' s' Q):AW Tryz.prog code m0 e s Q:=by
 have hx:=hp.bx
 rw[show nb p=6 from if_neg (by rw[hi];simp)] at hx
 have h2:=hp.h2
 have h5:=hp.h5
 unfold subsL at h2
 unfold plsL at h5
 rw[if_neg (by rw[hi];simp)] at h2 h5
 have nn:=fun i j (q1:i<6) (q2:j<6) (q:i≠j)=>hx.ne i j q1 q2 q
 have hk:=fun (i:Nat) (c:List AV) (z:AV) (h:idf z=true)=>frz_idf i c z h
 refine aw_lay1 (b 0) (b 1) _ _ hp.h0 hp.h1 (nn 0 1 (by omega) (by omega) (by omega)) fun e1 s1 f1 f2 f3 f4 f5=>?_
 refine aw_lay1 (b 0) (b 2) _ _ f4 ((f5 _ (nn 2 0 (by omega) (by omega) (by omega)) (nn 2 1 (by omega) (by omega) (by omega))).trans h2) (nn 0 2 (by omega) (by omega) (by omega)) fun e2 s2 g1 g2 g3 g4 g5=>?_
 refine aw_lay1 (b 0) (b 3) _ _ g4 ((g5 _ (nn 3 0 (by omega) (by omega) (by omega)) (nn 3 2 (by omega) (by omega) (by omega))).trans ((f5 _ (nn 3 0 (by omega) (by omega) (by omega)) (nn 3 1 (by omega) (by omega) (by omega))).trans hp.h3)) (nn 0 3 (by omega) (by omega) (by omega)) fun e3 s3 k1 k2 k3 k4 k5=>?_
 refine aw_lay1 (b 0) (b 4) _ _ k4 ((k5 _ (nn 4 0 (by omega) (by omega) (by omega)) (nn 4 3 (by omega) (by omega) (by omega))).trans ((g5 _ (nn 4 0 (by omega) (by omega) (by omega)) (nn 4 2 (by omega) (by omega) (by omega))).trans ((f5 _ (nn 4 0 (by omega) (by omega) (by omega)) (nn 4 1 (by omega) (by omega) (by omega))).trans hp.h4))) (nn 0 4 (by omega) (by omega) (by omega)) fun e4 s4 l1 l2 l3 l4 l5=>?_
 refine aw_lay1 (b 0) (b 5) _ _ l4 ((l5 _ (nn 5 0 (by omega) (by omega) (by omega)) (nn 5 4 (by omega) (by omega) (by omega))).trans ((k5 _ (nn 5 0 (by omega) (by omega) (by omega)) (nn 5 3 (by omega) (by omega) (by omega))).trans ((g5 _ (nn 5 0 (by omega) (by omega) (by omega)) (nn 5 2 (by omega) (by omega) (by omega))).trans ((f5 _ (nn 5 0 (by omega) (by omega) (by omega)) (nn 5 1 (by omega) (by omega) (by omega))).trans h5)))) (nn 0 5 (by omega) (by omega) (by omega)) fun e5 s5 m1 m2 m3 m4 m5=>?_
 refine h e5 s5 (by rw[m1,l1,k1,g1,f1]) (fun t z hz hf=>?_) (fun t id off hz hf=>?_) (by rw[m3,l3,k3,g3,f3]) ?_ fun i hne=>?_
 ·rw[m2,l2,k2,g2,f2,hz,hk _ _ _ hf,hk _ _ _ hf,hk _ _ _ hf,hk _ _ _ hf,hk _ _ _ hf]
 ·rw[m2,l2,k2,g2,f2,hz,frz_ptr_ne _ _ _ _ (hf 1 (by omega) (by omega)),frz_ptr_ne _ _ _ _ (hf 2 (by omega) (by omega)),frz_ptr_ne _ _ _ _ (hf 3 (by omega) (by omega)),frz_ptr_ne _ _ _ _ (hf 4 (by omega) (by omega)),frz_ptr_ne _ _ _ _ (hf 5 (by omega) (by omega))]
 ·have w1:∀ (n:Nat) (c:List AV) (sz:Nat),c.length=n*sz→(c.drop 0).take (n*sz)=c:=fun n c sz h=>by rw[List.drop_zero,←h,List.take_length]
  have i1:idf (MV p.c.models)=true:=mv_idf _
  have i2:idf (UV p.c.subs)=true:=ul_idf _
  have i3:idf (KV p.c.cards)=true:=NetW.kv_idf _
  have i4:idf (IV p.places)=true:=il_idf _
  rw[m4]
  simp only[frz_pc,frz_own_ne _ _ _ _ _ _ (nn 2 1 (by omega) (by omega) (by omega)),frz_own_ne _ _ _ _ _ _ (nn 3 1 (by omega) (by omega) (by omega)),frz_own_ne _ _ _ _ _ _ (nn 4 1 (by omega) (by omega) (by omega)),frz_own_ne _ _ _ _ _ _ (nn 5 1 (by omega) (by omega) (by omega)),frz_own_ne _ _ _ _ _ _ (nn 3 2 (by omega) (by omega) (by omega)),frz_own_ne _ _ _ _ _ _ (nn 4 2 (by omega) (by omega) (by omega)),frz_own_ne _ _ _ _ _ _ (nn 5 2 (by omega) (by omega) (by omega)),frz_own_ne _ _ _ _ _ _ (nn 4 3 (by omega) (by omega) (by omega)),frz_own_ne _ _ _ _ _ _ (nn 5 3 (by omega) (by omega) (by omega)),frz_own_ne _ _ _ _ _ _ (nn 5 4 (by omega) (by omega) (by omega)),frz_own,
   w1 _ _ _ (ml_len _),w1 _ _ _ (ul_len _),w1 _ _ _ (kl_len _),w1 p.places.length (IL p.places) 1 (by unfold IL;rw[List.length_map];omega),w1 p.subPl.length (p.subPl.map IV) 1 (by rw[List.length_map];omega)]
  unfold MV at i1 ⊢
  unfold UV at i2 ⊢
  unfold KV at i3 ⊢
  unfold IV at i4 ⊢
  rw[hk _ _ _ i1,hk _ _ _ i1,hk _ _ _ i1,hk _ _ _ i1,hk _ _ _ i2,hk _ _ _ i2,hk _ _ _ i2,hk _ _ _ i3,hk _ _ _ i3,hk _ _ _ i4]
  rfl
 ·exact(m5 i (hne 0 (by omega)) (hne 5 (by omega))).trans ((l5 i (hne 0 (by omega)) (hne 4 (by omega))).trans ((k5 i (hne 0 (by omega)) (hne 3 (by omega))).trans ((g5 i (hne 0 (by omega)) (hne 2 (by omega))).trans (f5 i (hne 0 (by omega)) (hne 1 (by omega))))))
end NetAF
namespace NetAG
open Go Go.RowKit Ax Ti NumS NumT CardS CardP CardA CardB CardE CardG CardI CardJ CardK CardL CardN CardX NetS NetA NetE NetM NetN NetO NetQ NetT NetAA NetAB NetAC NetAD NetAE NetF NetJ NetL NetAF
open LexE (W LL lexAll lexAll_count)
theorem rTI:type_of% (J24 @ti3 @ti2 @ti4 @ti9 @ti5 @ti43 @ti45 @ti44 @ti23 @ti28 @ti24 @ti25 @ti26 @ti90 @ti86 @ti89 @ti92 @ti31 @ti94 @Nat.zero_add @tz0 @tz1 @tz3 (cj @Nat.mul_one @Int.toNat_natCast)):=cj @ti3 (J24 @ti2 @ti4 @ti9 @ti5 @ti43 @ti45 @ti44 @ti23 @ti28 @ti24 @ti25 @ti26 @ti90 @ti86 @ti89 @ti92 @ti31 @ti94 @Nat.zero_add @tz0 @tz1 @tz3 @Nat.mul_one @Int.toNat_natCast)
theorem name_len {x:Str} (h:isName x=true):1≤x.length∧x.length≤16:=by
 unfold isName at h
 simp only[Bool.and_eq_true,decide_eq_true_iff] at h
 exact h.1
theorem right_cw {x:Crd} (h:rightC x=true):CW x∧0<x.name.length:=by
 have hn:isName x.name=true:=by
  have:=(nodes_le x h).1
  unfold isDev at this
  simp only[Bool.and_eq_true] at this
  exact this.1
 obtain⟨_,l1,l2,l3⟩:=nodes_le x h
 unfold rightC rightF at h
 simp only[Bool.and_eq_true] at h
 obtain⟨hd,⟨⟨⟨⟨⟨⟨h1,h2⟩,h3⟩,h4⟩,h5⟩,h6⟩,h7⟩,h8⟩:=h
 have hnl:=name_len hn
 have hnd:=List.all_eq_true.1 h5
 have hrf:isName x.ref=true∨x.ref=[]:=by
  generalize (if List.getD x.name 0 0=120 then (x.nodes.length,true,false) else shapeK (List.getD x.name 0 0))=f at h6
  split at h6
  ·exact .inl h6
  ·exact .inr (of_decide_eq_true h6)
 refine⟨⟨⟨by_name hn,by omega⟩,⟨fun w hw=>by_name (hnd w hw),fun w hw=>by have:=name_len (hnd w hw);omega,by omega⟩,?_,by omega,by omega,?_⟩,by omega⟩
 ·rcases hrf with g | g
  ·have:=name_len g
   exact⟨by_name g,by omega⟩
  ·rw[g]
   exact⟨fun c hc=>(by cases hc),by decide⟩
 ·intro z hz
  split at h8
  ·unfold waveOk at h8
   simp only[Bool.and_eq_true,List.all_eq_true,decide_eq_true_iff] at h8
   have:=h8.1.2 z hz
   omega
  ·have:=of_decide_eq_true h8
   rw[this.2.2] at hz
   cases hz
theorem cirB_rt {p:Par} (h:Rt p):CirB p.c:=by
 have hs:=fun s hs=>(h.so s hs)
 have so:=fun s (q:s∈p.c.subs)=>by
  have:=(h.so s q).1
  unfold subOk at this
  simp only[Bool.and_eq_true,decide_eq_true_iff,List.all_eq_true] at this
  exact this
 refine⟨fun m hm=>?_,by have:=h.ml;omega,fun s q=>⟨⟨by_name (so s q).1.1,by have:=name_len (so s q).1.1;omega⟩,⟨fun w hw=>?_,fun w hw=>?_,by have:=(so s q).1.2;omega⟩,fun x hx=>(right_cw ((hs s q).2.2.1 x hx)).1,by have:=(hs s q).2.2.2.2;omega⟩,by have:=h.sl;omega,fun x hx=>(right_cw (h.co x hx)).1,by have:=h.cl;omega⟩
 ·have hm:=h.mo m hm
  have hf:=CardM.ok_form m hm
  obtain⟨nm,k,g,v⟩:=m
  rw[modelOk_eq] at hm
  simp only[Bool.and_eq_true] at hm
  have:=name_len hm.1.1.1
  exact⟨⟨by_name hm.1.1.1,by simp only;omega⟩,by omega,by omega⟩
 ·have:=(so s q).2 w hw
  unfold portOk at this
  simp only[Bool.and_eq_true] at this
  exact by_name this.1
 ·have:=(so s q).2 w hw
  unfold portOk at this
  simp only[Bool.and_eq_true] at this
  have:=name_len this.1
  omega
theorem refB_rt {p:Par} (h:Rt p):RefB p.c:=by
 have hB:=cirB_rt h
 have hsl:=hB.sl
 exact⟨fun m hm=>(hB.mo m hm).1.1,hB.ml,fun s hs=>⟨(hB.so s hs).1.1,fun x hx=>⟨((hB.so s hs).2.2.1 x hx).n.1,((hB.so s hs).2.2.1 x hx).r.1,(right_cw ((h.so s hs).2.2.1 x hx)).2⟩,(hB.so s hs).2.2.2⟩,by omega,fun x hx=>⟨(hB.co x hx).n.1,(hB.co x hx).r.1,(right_cw (h.co x hx)).2⟩,hB.cl⟩
theorem linesN_step (p:Par) (l:Line) (r:List Line):linesN p (l::r)=if (lineN p l).2≠0 then ((lineN p l).1,l.1,(lineN p l).2) else linesN (lineN p l).1 r:=rfl
theorem drop_step (L:List Line) (j:Nat) (h:j<L.length):L.drop j=L.getD j (0,[])::L.drop (j+1):=by
 rw[List.drop_eq_getElem_cons h,List.getD_eq_getElem?_getD,List.getElem?_eq_getElem h]
 rfl
def czero:List AV:=[.v (.int .i64 0),.v (.int .i64 0),.v (.int .i64 0),.v (.slice none 0 0),.v (.slice none 0 0),.v (.slice none 0 0)]
theorem le_zero:Le (.ag czero) (CirV cir0):=Le.ag rfl fun j x y hx hy=>by
 match j with
 | 0=>simp [czero] at hx;simp [cirL] at hy;subst hx hy;exact Le.refl _
 | 1=>simp [czero] at hx;simp [cirL] at hy;subst hx hy;exact Le.refl _
 | 2=>simp [czero] at hx;simp [cirL] at hy;subst hx hy;exact Le.refl _
 | 3=>simp [czero] at hx;simp [cirL] at hy;subst hx hy;exact Le.nil 0 0 rfl
 | 4=>simp [czero] at hx;simp [cirL] at hy;subst hx hy;exact Le.nil 0 0 rfl
 | 5=>simp [czero] at hx;simp [cirL] at hy;subst hx hy;exact Le.nil 0 0 rfl
 | j+6=>simp [czero] at hx
theorem le_tp {a b c d:AV} (h:Le a b):Le (.tp [a,c,d]) (.tp [b,c,d]):=Le.tp rfl fun j x y hx hy=>by
 match j with
 | 0=>simp at hx hy;subst hx hy;exact h
 | 1=>simp at hx hy;subst hx hy;exact Le.refl _
 | 2=>simp at hx hy;subst hx hy;exact Le.refl _
 | j+3=>simp at hx
def pc0:List AV:=[.v (.int .i64 1),.v (.int .i64 (-6)),.v (.int .i64 1),.v (.slice none 0 0),.v (.slice none 0 0),.v (.slice none 0 0),.v (.bool false),.v (.bool false),.v (.bool false),.v (.bool false),.v (.int .i64 0),.v (.slice none 0 0),.v (.slice none 0 0)]
theorem aw_begin {code:Code} {m0 n0 ip:Nat} {e:Env} {s:St} {Q:Exit→Env→St→Prop} (hi:s.get ip=some pc0) (hn:s.nx=ip+1) (h0:n0≤ip)
  (h:∀ s',PS n0 s' (fun i=>ip+i) par0→s'.nx=ip+6→(∀ i,i<ip→s'.get i=s.get i)→AW Tryz.prog code m0 e s' Q):AW Tryz.prog code m0 e s Q:=by
 refine aw_nil_box ip 3 4 _ hi rfl ?_
 refine aw_nil_box ip 4 3 _ (St.set_same _ _ _) rfl ?_
 refine aw_nil_box ip 5 8 _ (St.set_same _ _ _) rfl ?_
 refine aw_nil_box ip 11 1 _ (St.set_same _ _ _) rfl ?_
 refine aw_nil_box ip 12 1 _ (St.set_same _ _ _) rfl ?_
 refine h _ ⟨⟨fun i hi=>(by omega),fun i hi=>?_,fun i j hi hj hne=>(by omega)⟩,?_,?_,?_,?_,?_,?_,fun h=>(by cases h),fun h=>(by cases h)⟩ ?_ ?_
 ·have:nb par0=6:=rfl
  simp only[nx_s,nx_p]
  omega
 ·refine (St.set_same _ _ _).trans ?_
  simp only[nx_s,nx_p,hn]
  rfl
 ·show St.get _ (ip+1)=some []
  exact stz
 ·show St.get _ (ip+2)=some []
  exact stz
 ·show St.get _ (ip+3)=some []
  exact stz
 ·show St.get _ (ip+4)=some []
  exact stz
 ·show St.get _ (ip+5)=some []
  exact stz
 ·simp only[nx_s,nx_p];omega
 ·exact fun i hi=>stz
theorem parse_ax (t:List UInt8):PCall Tryz.prog 14 [.v (.string (LexB.bs t))] (.tp [CirV (parseN t).1,.v (.int .i64 (parseN t).2.1),.v (.int .i64 (parseN t).2.2)]):=by
 refine pcall_le fun s=>?_
 have pl:=lines_ax t
 have hLn:=lexAll_count t
 have hLo:=lines_ok t
 have hci:=cir_idf (parseN t).1
 have hP:parseN t=if (lexAll t).2.2≠0 then (cir0,(lexAll t).2.1,(lexAll t).2.2) else parseL (linesW (lexAll t).1):=rfl
 generalize lexAll t=q at *
 obtain⟨LL0,a,e⟩:=q
 simp only at *
 generalize parseN t=Z at *
 unfold LNV at pl
 have hl:(linesW LL0).length≤65537:=by unfold linesW;rw[List.length_map];exact hLn
 generalize linesW LL0=L at *
 by_cases h1:e=0
 ·have c1:(e != 0)=false:=by rw[h1];rfl
  rw[if_neg (by simpa using h1)] at hP
  have hLo:=hLo h1
  refine acall_of Tryz.func14 rfl rfl (by simp [Tryz.ntmps14]) ?_;rw[Tryz.ntmps14,Tryz.results14]
  refine go rTI ?_
  refine aw_reg fun K hK=>?_;refine rn rTI ?_;refine cont_pure pl ?_;refine rn rTI ?_;refine hK _ _ ?_;clear hK K
  refine go (cj rTI @c1) ?_
  refine ifs ?_ ?_ <;> first | exact nope | intro hb
  refine go rTI ?_
  refine aw_begin (n0:=s.nx+1) (ip:=s.nx+1) (St.push_same _ _) rfl (Nat.le_refl _) fun s1 hp1 hn1 hf1=>?_
  have gz:s1.get s.nx=some czero:=(hf1 _ (by omega)).trans ((St.push_ne _ _ _ (Nat.ne_of_lt (Nat.lt_succ_self _))).trans (St.push_same _ _))
  have hf:∀ i,i<s.nx→s1.get i=s.get i:=fun i hi=>(hf1 i (by omega)).trans stz
  clear hf1 hn1
  refine aw_loop (fun m e s'=>∃ j b p,m=L.length-j∧j≤L.length∧e.n=68∧e.m 2=.ptr s.nx 0∧e.m 3=.v (.int .i64 0)∧e.m 4=.v (.int .i64 0)∧e.m 8=.ptr (b 0) 0∧e.m 29=.sl L.length (LNL L)∧e.m 30=.v (.int .i64 L.length)∧e.m 31=.v (.int .i64 (j:Nat)) ∧
   PS (s.nx+1) s' b p∧Rt p∧InOk p∧linesN p (L.drop j)=linesN par0 L∧s'.get s.nx=some czero∧∀ i,i<s.nx→s'.get i=s.get i) L.length ?_ ?_
  ·refine⟨0,fun i=>s.nx+1+i,par0,by omega,by omega,?_⟩
   (repeat' refine And.intro ?_ ?_) <;> first | exact rfl | exact fnz rTI | skip
   ·exact hp1
   ·exact par0_rt
   ·exact fun h=>(by cases h)
   ·exact gz
   ·exact hf
  ·clear hp1 gz hf s1
   rintro m e s' ⟨j,b,p,rfl,hj,h1,k2,k3,k4,k8,k29,k30,k31,hp,hr,hin,hln,gz,hf⟩
   have n6:=nb_six p
   have b0:=hp.bx.hi 0 (by omega)
   have hbl:=fun j (h:j<nb p)=>hp.bx.lo j h
   have hnx:=hp.n
   unfold czero at gz
   have c0:=hbl 0 (by omega)
   by_cases hj2:j<L.length
   ·have f1:=lnl_at L j hj2
    have f3:2≤((LNL L).drop (j*2)).length:=by rw[List.length_drop,lnl_len];omega
    have hok:=hLo _ (getD_mem L (0,[]) j hj2)
    rw[drop_step L j hj2,linesN_step] at hln
    generalize L.getD j (0,[])=l at f1 hok hln
    have hlA:=fun (s1:St) (h:s'.nx≤s1.nx) (hf:∀ i,i<s'.nx→s1.get i=s'.get i)=>line_ax s1 (s.nx+1) b p l (PS.mono hp h hf) hr hin hok
    have hrt:=lineN_rt hr l
    have hin2:=inOk_line p l hin
    unfold lnL TV at f1
    unfold LA TV at hlA
    refine go (J4 rTI @h1 @k30 @k31) ?_
    refine ifs ?_ ?_ <;> first | exact nope | intro hb
    refine aw_skip ?_
    refine go (J6 rTI @h1 @k29 @k31 @f1 @f3) ?_
    generalize hs1:(s'.push _).set s'.nx _=s1
    have x1:s1.nx=s'.nx+1:=by rw[←hs1];rfl
    have xf:∀ i,i<s'.nx→s1.get i=s'.get i:=fun i hi=>by rw[←hs1];exact stz
    have xl:s1.get s'.nx=some [.v (.int .i64 l.1),.sl l.2.length (SL l.2)]:=by rw[←hs1];exact St.set_same _ _ _
    have hl1:=hlA s1 (by omega) xf
    clear hs1 hlA
    refine aw_reg fun K hK=>?_;refine rn (J4 rTI @h1 @k8 @xl) ?_;refine cont_go hl1 ?_;rintro _ s2 ⟨rfl,v1,v2,v3⟩;refine rn (J4 rTI @h1 @k8 @xl) ?_;refine hK _ _ ?_;clear hK K
    have w0:=(v2 _ (by omega) (fun j h=>by have:=hbl j h;omega)).trans ((xf _ (by omega)).trans gz)
    have wl:=(v2 s'.nx (by omega) (fun j h=>by have:=hp.bx.hi j h;omega)).trans xl
    have wf:∀ i,i<s.nx→s2.get i=s.get i:=fun i hi=>(v2 i (by omega) (fun j h=>by have:=hbl j h;omega)).trans ((xf i (by omega)).trans (hf i hi))
    generalize lineN p l=Q at *
    obtain⟨p2,e2⟩:=Q
    simp only at *
    by_cases q1:e2=0
    ·have c2:(e2 != 0)=false:=by rw[q1];rfl
     rw[if_neg (by simpa using q1)] at hln
     obtain⟨b2,vb,vp⟩:=v3 q1
     refine go (J3 rTI @h1 @c2) ?_
     refine ifs ?_ ?_ <;> first | exact nope | intro hb
     refine go (J3 rTI @h1 @k31) ?_
     simp only[block_normal,loop_normal]
     refine⟨L.length-(j+1),by omega,j+1,b2,p2,rfl,by omega,?_⟩
     (repeat' refine And.intro ?_ ?_) <;> first | exact rfl | exact fnz (J9 @h1 @k2 @k3 @k4 @k8 @k29 @k30 @k31 @vb) | skip
     all_goals first | exact vp | exact hrt | exact hin2 | exact hln | exact w0 | exact wf | skip
    ·have c2:(e2 != 0)=true:=by simpa using q1
     rw[if_pos q1] at hln
     refine go (J3 rTI @h1 @c2) ?_
     refine ifs ?_ ?_ <;> first | exact nope | intro hb
     have hZ:Z=(cir0,l.1,e2):=by
      rw[hP]
      unfold parseL
      simp only[←hln]
      rw[if_pos q1]
     subst hZ
     refine aw_seq ?_
     refine aw_drw (.take 0 (.take 1 (.take 2 (.take 3 (.one 4 (.take 5 (.take 6 (.done)))))))) [s'.nx] (by kernel_rfl) (by kernel_rfl) fun K hK=>?_;refine dr (J5 rTI @h1 @k2 @wl @w0) ?_;refine hK _ _ ?_;clear hK K
     refine go (J5 rTI @h1 @k2 @k3 @k4) ?_
     exact⟨le_tp le_zero,hci,fun i hi=>(if_neg (by omega)).trans (wf i hi)⟩
   ·obtain rfl:j=L.length:=by omega
    rw[List.drop_length] at hln
    have hln:(p,0,0)=linesN par0 L:=hln
    have e0:=hp.h0
    unfold PC at e0
    refine go (J4 rTI @h1 @k30 @k31) ?_
    refine ifs ?_ ?_ <;> first | exact nope | intro hb
    cases hi:p.inside with
    | true=>
     have hZ:Z=(cir0,p.begun,80):=by
      rw[hP]
      unfold parseL
      simp only[←hln]
      rw[if_neg (by simp),if_pos hi]
     subst hZ
     rw[hi] at e0
     refine go (J4 rTI @h1 @k8 @e0) ?_
     refine ifs ?_ ?_ <;> first | exact nope | intro hb
     refine aw_seq ?_
     refine aw_drw (.take 0 (.take 1 (.take 2 (.take 3 (.take 4 (.one 5 (.take 6 (.take 7 (.done))))))))) [b 0] (by kernel_rfl) (by kernel_rfl) fun K hK=>?_;refine dr (J6 rTI @h1 @k2 @k8 @e0 @gz) ?_;refine hK _ _ ?_;clear hK K
     refine go (J5 rTI @h1 @k2 @k3 @k4) ?_
     exact⟨le_tp le_zero,hci,fun i hi=>(if_neg (by omega)).trans (hf i hi)⟩
    | false=>
     rw[hi] at e0
     refine go (J4 rTI @h1 @k8 @e0) ?_
     refine ifs ?_ ?_ <;> first | exact nope | intro hb
     refine aw_skip ?_
     rw[then_normal]
     refine aw_laid hp hi fun e' s2 f1 f2 f3 f4 f5 f6=>?_
     have m1:e'.n=68:=f1.trans h1
     have m2:e'.m 2=.ptr s.nx 0:=f3 2 s.nx 0 k2 (fun j _ h=>by have:=hbl j (by omega);omega)
     have m3:=f2 3 (.v (.int .i64 0)) k3 rfl
     have m4:=f2 4 (.v (.int .i64 0)) k4 rfl
     have m8:e'.m 8=.ptr (b 0) 0:=f3 8 (b 0) 0 k8 (fun j h1 h=>hp.bx.ne 0 j (by omega) (by omega) (by omega))
     have gz:=(f6 s.nx (fun j h=>by have:=hbl j (by omega);omega)).trans gz
     have hf:∀ i,i<s.nx→s2.get i=s.get i:=fun i hi=>(f6 i (fun j h=>by have:=hbl j (by omega);omega)).trans (hf i hi)
     have hpl:p.subPl.length=p.c.subs.length:=by
      have:=congrArg List.length hr.ps
      rwa [List.length_map,List.length_map] at this
     have hrf:=refs_ax s2 (b 0) p f5 (by omega) (refB_rt hr) hr.pl hpl (fun k hk=>(rt_places hr k hk).trans (by
      rw[List.getD_eq_getElem?_getD,List.getD_eq_getElem?_getD,List.getElem?_map,List.getElem?_eq_getElem hk]
      rfl))
     have hZ:Z=if (refsP p).2≠0 then (cir0,(refsP p).1,(refsP p).2) else (p.c,0,0):=by
      rw[hP]
      unfold parseL
      simp only[←hln]
      rw[if_neg (by simp),if_neg (by rw[hi];simp)]
     clear hln hP f1 f2 f3 f6 h1 k2 k3 k4 k8 k29 k30 k31 e hp
     refine go (J3 rTI @m1 @m8) ?_
     refine aw_reg fun K hK=>?_;refine rn (J3 rTI @m1 @m8) ?_;refine cont_go hrf ?_;rintro _ s3 ⟨rfl,v1,v2⟩;refine rn (J3 rTI @m1 @m8) ?_;refine hK _ _ ?_;clear hK K
     have gz:=(v2 s.nx (by omega)).trans gz
     have f5:=(v2 (b 0) (by omega)).trans f5
     have hf:∀ i,i<s.nx→s3.get i=s.get i:=fun i hi=>(v2 i (by omega)).trans (hf i hi)
     by_cases q1:(refsP p).2=0
     ·have c2:((refsP p).2 != 0)=false:=by rw[q1];rfl
      rw[if_neg (by simpa using q1)] at hZ
      subst hZ
      unfold PC MV UV KV at f5
      refine go (J3 rTI @m1 @c2) ?_
      refine ifs ?_ ?_ <;> first | exact nope | intro hb
      refine go (J6 rTI @m1 @m2 @m8 @f5 @gz) ?_
      exact⟨Le.refl _,hci,fun i hi=>(if_neg (by omega)).trans (hf i hi)⟩
     ·have c2:((refsP p).2 != 0)=true:=by simpa using q1
      rw[if_pos q1] at hZ
      subst hZ
      refine go (J3 rTI @m1 @c2) ?_
      refine ifs ?_ ?_ <;> first | exact nope | intro hb
      refine go (J4 rTI @m1 @m2 @gz) ?_
      exact⟨le_tp le_zero,hci,fun i hi=>(if_neg (by omega)).trans (hf i hi)⟩
 ·have c1:(e != 0)=true:=by simpa using h1
  rw[if_pos h1] at hP
  subst hP
  refine acall_of Tryz.func14 rfl rfl (by simp [Tryz.ntmps14]) ?_;rw[Tryz.ntmps14,Tryz.results14]
  refine go rTI ?_
  refine aw_reg fun K hK=>?_;refine rn rTI ?_;refine cont_pure pl ?_;refine rn rTI ?_;refine hK _ _ ?_;clear hK K
  refine go (cj rTI @c1) ?_
  refine ifs ?_ ?_ <;> first | exact nope | intro hb
  refine go rTI ?_
  exact⟨le_tp le_zero,hci,fun i hi=>if_neg (by omega)⟩
end NetAG
namespace NetAL
open Go Go.RowKit Ax Ti NumS NumT CardS CardP CardA CardB CardE CardG CardX NetS NetA NetE NetF NetJ NetK NetL NetT NetAG NetAK
open LexE (lexAll)
theorem rTI:type_of% (J23 @ti3 @ti2 @ti4 @ti9 @ti5 @ti43 @ti45 @ti44 @ti23 @ti49 @ti26 @ti68 @ti24 @ti51 @ti25 @ti28 @ti31 @Nat.zero_add @tz0 @tz1 @tz3 @Nat.mul_one @Int.toNat_natCast):=cj @ti3 (J22 @ti2 @ti4 @ti9 @ti5 @ti43 @ti45 @ti44 @ti23 @ti49 @ti26 @ti68 @ti24 @ti51 @ti25 @ti28 @ti31 @Nat.zero_add @tz0 @tz1 @tz3 @Nat.mul_one @Int.toNat_natCast)
theorem cirB_zero:CirB cir0:=⟨fun m hm=>(by cases hm),by decide,fun m hm=>(by cases hm),by decide,fun m hm=>(by cases hm),by decide⟩
theorem cirB_parse (t:List UInt8):CirB (parseN t).1:=by
 unfold parseN
 split
 ·exact cirB_zero
 ·unfold parseL
  have h:=linesN_rt (linesW (lexAll t).1) par0 par0_rt
  generalize linesN par0 (linesW (lexAll t).1)=q at *
  dsimp only
  split
  ·exact cirB_zero
  ·split
   ·exact cirB_zero
   ·split
    ·exact cirB_zero
    ·exact cirB_rt h
def awT:List UInt8:=[114,49,32,97,32,48,32,49,107,10,46,115,117,98,99,107,116,32,115,32,112,10,118,49,32,112,32,48,32,53,10,46,101,110,100,115,10,120,49,32,97,32,115]
def awU:List UInt8:=[114,49,32,97,32,48,32,49,10,114,49,32,98,32,48,32,49]
def awP:Str:=[46,115,116,101,112,32,49,117,10,46,109,101,116,104,111,100,32,101,117,108,101,114,10,46,115,117,98,99,107,116,32,115,32,112,10,118,49,32,112,32,48,32,100,99,32,53,10,46,101,110,100,115,10,114,49,32,97,32,48,32,49,107,10,120,49,32,97,32,115,10,46,101,110,100,10]
theorem aw_t:(parseN awT).2=(0,0)∧printN (parseN awT).1=(awP,0)∧((parseN awT).1.cards.length:Int)=2∧((parseN awT).1.subs.length:Int)=1∧(parseN awU).2=(2,8):=⟨by kernel_rfl,by kernel_rfl,by kernel_rfl,by kernel_rfl,by kernel_rfl⟩
theorem awake_ax:PCall Tryz.prog 8 [] (.v (.bool true)):=by
 refine pcall_of fun s=>?_
 have p1:=parse_ax awT
 have p2:=print_ax (parseN awT).1 (cirB_parse awT)
 have p3:=parse_ax awU
 obtain⟨h1,h2,h3,h4,h5⟩:=aw_t
 rw[h1] at p1
 rw[h2] at p2
 rw[h5] at p3
 unfold PV SV at p2
 generalize (parseN awT).1=c at *
 generalize (parseN awU).1=d at *
 unfold CirV cirL MV UV KV at p1 p2 p3
 refine acall_of Tryz.func8 rfl rfl (by simp [Tryz.ntmps8]) ?_;rw[Tryz.ntmps8,Tryz.results8]
 refine go rTI ?_
 refine aw_reg fun K hK=>?_;refine rn rTI ?_;refine cont_pure p1 ?_;refine rn rTI ?_;refine hK _ _ ?_;clear hK K
 refine go rTI ?_
 refine aw_reg fun K hK=>?_;refine rn rTI ?_;refine cont_pure p2 ?_;refine rn rTI ?_;refine hK _ _ ?_;clear hK K
 refine go rTI ?_
 refine aw_reg fun K hK=>?_;refine rn rTI ?_;refine cont_pure p3 ?_;refine rn rTI ?_;refine hK _ _ ?_;clear hK K
 refine go (J3 rTI @h3 @h4) ?_
 exact⟨congrArg (fun b=>AV.v (.bool b)) (by kernel_rfl),fun i hi=>by rw[if_neg (by omega),if_neg (by omega)]⟩
theorem count_take (t:List UInt8) (j:Nat) (h:j<t.length):(t.take (j+1)).count 10=(t.take j).count 10+if t.getD j 0=10 then 1 else 0:=by
 rw[List.take_succ_eq_append_getElem h,List.count_append,List.getD_eq_getElem?_getD,List.getElem?_eq_getElem h,List.count_singleton]
 simp
theorem places_ax (t:List UInt8) (ht:t.length≤140737488351232):PCall Tryz.prog 7 [.v (.string (LexB.bs t))] (.v (.bool true)):=by
 refine pcall_of fun s=>?_
 have p1:=parse_ax t
 have hp:=places_in t
 generalize parseN t=z at *
 obtain⟨c,a,e⟩:=z
 simp only at hp p1
 unfold CirV cirL MV UV KV at p1
 refine acall_of Tryz.func7 rfl rfl (by simp [Tryz.ntmps7]) ?_;rw[Tryz.ntmps7,Tryz.results7]
 refine go rTI ?_
 refine aw_reg fun K hK=>?_;refine rn rTI ?_;refine cont_pure awake_ax ?_;refine rn rTI ?_;refine hK _ _ ?_;clear hK K
 refine ifs ?_ ?_ <;> first | exact nope | intro hb
 refine go rTI ?_
 refine aw_reg fun K hK=>?_;refine rn rTI ?_;refine cont_pure p1 ?_;refine rn rTI ?_;refine hK _ _ ?_;clear hK K
 refine go rTI ?_
 have hz:(LexB.bs t).size=t.length:=rfl
 refine aw_loop (fun m e2 s'=>∃ j:Nat,m=t.length-j∧j≤t.length∧e2.n=65∧e2.m 0=.v (.string (LexB.bs t))∧e2.m 4=.v (.int .i64 a)∧e2.m 5=.v (.int .i64 e)∧e2.m 6=.v (.int .i64 ((t.take j).count 10:Nat))∧e2.m 7=.v (.int .i64 (j:Nat))∧∀ i,i<s.nx→s'.get i=s.get i) t.length ?_ ?_
 ·refine⟨0,by omega,by omega,?_⟩
  (repeat' refine And.intro ?_ ?_) <;> first | exact rfl | exact fnz rTI | skip
 ·rintro m e2 s' ⟨j,rfl,hj,h1,k0,k4,k5,k6,k7,hf⟩
  by_cases hj2:j<t.length
  ·have f1:=count_take t j hj2
   have f2:((LexB.bs t).data.toList.getD j 0)=t.getD j 0:=rfl
   have f3:=List.count_le_length (a:=(10:UInt8)) (l:=t.take j)
   rw[List.length_take] at f3
   generalize (t.take j).count 10=q at *
   generalize t.getD j 0=x at *
   refine go (J5 rTI @h1 @k0 @k7 @hz) ?_
   refine ifs ?_ ?_ <;> first | exact nope | intro hb
   refine aw_skip ?_
   by_cases hx:x=10
   ·have c1:((x.toNat:Int)==10)=true:=by rw[hx];rfl
    rw[if_pos hx] at f1
    refine go (J7 rTI @h1 @k0 @k7 @hz @f2 @c1) ?_
    refine ifs ?_ ?_ <;> first | exact nope | intro hb
    refine go (J4 rTI @h1 @k6 @k7) ?_
    simp only[block_normal,loop_normal]
    refine⟨t.length-(j+1),by omega,j+1,rfl,by omega,?_⟩
    have f4:(((t.take (j+1)).count 10:Nat):Int)=q+1:=by omega
    (repeat' refine And.intro ?_ ?_) <;> first | exact rfl | exact fnz (J5 @h1 @k0 @k4 @k5 @f4) | skip
    exact hf
   ·have c1:((x.toNat:Int)==10)=false:=by
     rw[beq_eq_false_iff_ne]
     intro h
     exact hx (UInt8.toNat_inj.1 (show x.toNat=(10:UInt8).toNat by show x.toNat=10;omega))
    rw[if_neg hx] at f1
    refine go (J7 rTI @h1 @k0 @k7 @hz @f2 @c1) ?_
    refine ifs ?_ ?_ <;> first | exact nope | intro hb
    refine go (J4 rTI @h1 @k6 @k7) ?_
    simp only[block_normal,loop_normal]
    refine⟨t.length-(j+1),by omega,j+1,rfl,by omega,?_⟩
    have f4:(((t.take (j+1)).count 10:Nat):Int)=q:=by omega
    (repeat' refine And.intro ?_ ?_) <;> first | exact rfl | exact fnz (J6 @h1 @k0 @k4 @k5 @k6 @f4) | skip
    exact hf
  ·obtain rfl:j=t.length:=by omega
   rw[List.take_length] at k6
   refine go (J5 rTI @h1 @k0 @k7 @hz) ?_
   refine ifs ?_ ?_ <;> first | exact nope | intro hb
   refine aw_exit ?_
   show AW _ (Code.seq _ _) _ _ _ _
   refine aw_seq ?_
   refine aw_only (fun e2 s'=>e2.n=65∧e2.m 0=.v (.string (LexB.bs t))∧e2.m 4=.v (.int .i64 a)∧e2.m 5=.v (.int .i64 e)∧e2.m 6=.v (.int .i64 (nLines t:Nat))∧∀ i,i<s.nx→s'.get i=s.get i) ?_ ?_
   ·have hc:=List.count_le_length (a:=(10:UInt8)) (l:=t)
    by_cases h0:t.length=0
    ·have hn:nLines t=t.count 10:=by rw[List.length_eq_zero_iff.1 h0];rfl
     have b1:decide ((0:Int)<t.length)=false:=decide_eq_false (by omega)
     rw[←hn] at k6
     refine go (J5 rTI @h1 @k0 @hz @b1) ?_
     refine ifs ?_ ?_ <;> first | exact nope | intro hb
     refine go rTI ?_
     (repeat' refine And.intro ?_ ?_) <;> first | exact rfl | exact fnz (J5 @h1 @k0 @k4 @k5 @k6) | skip
     exact hf
    ·have b1:decide ((0:Int)<t.length)=true:=decide_eq_true (by omega)
     have b2:(((t.length:Int)-1).toNat)=t.length-1:=by omega
     have f2:((LexB.bs t).data.toList.getD (t.length-1) 0)=t.getD (t.length-1) 0:=rfl
     have hl:t.getLast?=some (t.getD (t.length-1) 0):=by rw[List.getLast?_eq_getElem?,List.getD_eq_getElem?_getD,List.getElem?_eq_getElem (by omega)];rfl
     generalize t.getD (t.length-1) 0=x at *
     by_cases hx:x=10
     ·have hn:nLines t=t.count 10:=by unfold nLines endN;rw[if_pos (.inr (hl.trans (by rw[hx]))),Nat.add_zero]
      have c1:((x.toNat:Int) != 10)=false:=by rw[hx];rfl
      rw[←hn] at k6
      refine go (J8 rTI @h1 @k0 @hz @b1 @b2 @f2 @c1) ?_
      refine ifs ?_ ?_ <;> first | exact nope | intro hb
      refine go rTI ?_
      (repeat' refine And.intro ?_ ?_) <;> first | exact rfl | exact fnz (J5 @h1 @k0 @k4 @k5 @k6) | skip
      exact hf
     ·have hn:nLines t=t.count 10+1:=by unfold nLines endN;rw[hl,if_neg (by rintro (h | h);cases h;exact hx (Option.some.inj h))]
      have c1:((x.toNat:Int) != 10)=true:=by
       rw[bne_iff_ne]
       intro h
       exact hx (UInt8.toNat_inj.1 (show x.toNat=(10:UInt8).toNat by show x.toNat=10;omega))
      have f4:((nLines t:Nat):Int)=t.count 10+1:=by omega
      refine go (J8 rTI @h1 @k0 @hz @b1 @b2 @f2 @c1) ?_
      refine ifs ?_ ?_ <;> first | exact nope | intro hb
      refine go (cj rTI @k6) ?_
      (repeat' refine And.intro ?_ ?_) <;> first | exact rfl | exact fnz (J5 @h1 @k0 @k4 @k5 @f4) | skip
      exact hf
   ·clear h1 k0 k4 k5 k6 k7 hf
    rintro e2 s' ⟨h1,k0,k4,k5,k6,hf⟩
    rw[then_normal]
    generalize nLines t=q at *
    by_cases h0:e=0
    ·rw[if_pos (.inl h0)] at hp
     have a0:=hp.1
     subst h0 a0
     refine go (J3 rTI @h1 @k5) ?_
     refine ifs ?_ ?_ <;> first | exact nope | intro hb
     refine go (J4 rTI @h1 @k4 @k5) ?_
     exact hf
    ·have c0:(e==0)=false:=by simpa using h0
     by_cases h2:65536<t.length
     ·rw[if_pos (.inr h2)] at hp
      obtain rfl:=hp.1
      obtain rfl:=hp.2.resolve_left h0
      have b1:decide ((65536:Int)<t.length)=true:=decide_eq_true (by omega)
      refine go (J6 rTI @h1 @k0 @k5 @hz @b1) ?_
      refine ifs ?_ ?_ <;> first | exact nope | intro hb
      refine go (J4 rTI @h1 @k4 @k5) ?_
      exact hf
     ·rw[if_neg (by rintro (h | h);exact h0 h;exact h2 h)] at hp
      have b1:decide ((65536:Int)<t.length)=false:=decide_eq_false (by omega)
      have b2:decide ((1:Int)≤a)=true:=decide_eq_true hp.1
      have b3:decide (a≤(q:Int))=true:=decide_eq_true hp.2
      refine go (J7 rTI @h1 @k0 @k5 @hz @c0 @b1) ?_
      refine ifs ?_ ?_ <;> first | exact nope | intro hb
      refine go (J6 rTI @h1 @k4 @k6 @b2 @b3) ?_
      exact hf
end NetAL
namespace NetX
open Go Go.RowKit Ax Ti NumS NumT CardS CardP CardA CardB CardE CardG CardI CardJ CardK CardL CardR CardX NetS NetA NetE
theorem rTI:type_of% (J18 @ti3 @ti4 @ti9 @ti5 @ti43 @ti45 @ti44 @ti23 @ti47 @ti49 @ti26 @ti31 @Nat.zero_add @tz0 @tz1 @tz3 @Nat.mul_one @Int.toNat_natCast):=cj @ti3 (J17 @ti4 @ti9 @ti5 @ti43 @ti45 @ti44 @ti23 @ti47 @ti49 @ti26 @ti31 @Nat.zero_add @tz0 @tz1 @tz3 @Nat.mul_one @Int.toNat_natCast)
def sameL (a b:List Crd):Bool:=decide (a.length=b.length)&&(a.zip b).all fun q=>sameC q.1 q.2
theorem zip_all_take (a b:List Crd) (k:Nat) (hl:a.length=b.length) (hk:k<a.length) (h:((a.zip b).take k).all (fun q=>sameC q.1 q.2)=true) :
  ((a.zip b).take (k+1)).all (fun q=>sameC q.1 q.2)=sameC (a.getD k crd0) (b.getD k crd0):=by
 have hz:k<(a.zip b).length:=by rw[List.length_zip];omega
 rw[List.take_succ_eq_append_getElem hz,List.all_append,h,Bool.true_and,List.getElem_zip,List.getD_eq_getElem?_getD,List.getElem?_eq_getElem hk,List.getD_eq_getElem?_getD,List.getElem?_eq_getElem (by omega)]
 simp
theorem zip_all_no (a b:List Crd) (k:Nat) (hl:a.length=b.length) (hk:k<a.length) (h:sameC (a.getD k crd0) (b.getD k crd0)=false):(a.zip b).all (fun q=>sameC q.1 q.2)=false:=by
 have hz:k<(a.zip b).length:=by rw[List.length_zip];omega
 rw[List.all_eq_false]
 refine⟨(a.zip b)[k],List.getElem_mem hz,?_⟩
 rw[List.getElem_zip]
 rw[List.getD_eq_getElem?_getD,List.getElem?_eq_getElem hk,List.getD_eq_getElem?_getD,List.getElem?_eq_getElem (by omega)] at h
 simpa using h
theorem sameL_ax (a b:List Crd) (ha:∀ x∈a,CB x) (hb':∀ x∈b,CB x) (la:a.length≤9223372036854775806) (lb:b.length≤9223372036854775806):PCall Tryz.prog 48 [KV a,KV b] (.v (.bool (sameL a b))):=by
 refine pcall_of fun s=>?_
 unfold KV sameL
 by_cases hl:a.length=b.length
 ·have b0:((a.length:Int) != (b.length:Int))=false:=by rw[hl];simp
  rw[decide_eq_true hl,Bool.true_and]
  refine acall_of Tryz.func48 rfl rfl (by simp [Tryz.ntmps48]) ?_;rw[Tryz.ntmps48,Tryz.results48]
  refine go (cj rTI @b0) ?_
  refine ifs ?_ ?_ <;> first | exact nope | intro hb
  refine go rTI ?_
  refine aw_loop (fun m e s'=>∃ k,m=a.length-k∧k≤a.length∧e.n=27∧e.m 0=.sl a.length (KL a)∧e.m 1=.sl b.length (KL b)∧e.m 5=.v (.int .i64 (k:Nat))∧((a.zip b).take k).all (fun q=>sameC q.1 q.2)=true∧s'=s) a.length ?_ ?_
  ·refine⟨0,by omega,by omega,?_⟩
   (repeat' refine And.intro ?_ ?_) <;> first | exact rfl | exact fnz rTI | skip
  ·rintro m e s' ⟨k,rfl,hk,h1,k0,k1,k5,hq,rfl⟩
   by_cases hk2:k<a.length
   ·have f1:=kl_at a k hk2
    have f2:=kl_at b k (by omega)
    have f3:8≤((KL a).drop (k*8)).length:=by rw[List.length_drop,kl_len];omega
    have f4:8≤((KL b).drop (k*8)).length:=by rw[List.length_drop,kl_len];omega
    have f5:=zip_all_take a b k hl hk2 hq
    have f6:=zip_all_no a b k hl hk2
    have pS:=sameC_ax _ _ (ha _ (getD_mem a crd0 k hk2)) (hb' _ (getD_mem b crd0 k (by omega)))
    generalize a.getD k crd0=x at f1 f5 f6 pS
    generalize b.getD k crd0=y at f2 f5 f6 pS
    rw[show CA x=.ag (crdL x) from rfl,show CA y=.ag (crdL y) from rfl] at pS
    unfold crdL at f1 f2 pS
    refine go (J4 rTI @h1 @k0 @k5) ?_
    refine ifs ?_ ?_ <;> first | exact nope | intro hb
    refine aw_skip ?_
    refine aw_seq ?_
    refine aw_block ?_
    refine aw_seq ?_
    cases hs:sameC x y with
    | true=>
     rw[hs] at pS f5
     refine aw_drw (.take 0 (.take 1 (.take 2 (.take 3 (.take 4 (.take 5 (.take 6 (.take 7 (.one 8 (.take 9 (.done))))))))))) [] (by kernel_rfl) (by kernel_rfl) fun K hK=>?_;refine dr (J9 rTI @h1 @k0 @k1 @k5 @f1 @f2 @f3 @f4) ?_;refine cont_pure pS ?_;refine dr (J9 rTI @h1 @k0 @k1 @k5 @f1 @f2 @f3 @f4) ?_;refine hK _ _ ?_;clear hK K
     refine ifs ?_ ?_ <;> first | exact nope | intro hb
     refine go (J3 rTI @h1 @k5) ?_
     simp only[block_normal,loop_normal]
     refine⟨a.length-(k+1),by omega,k+1,rfl,by omega,?_⟩
     (repeat' refine And.intro ?_ ?_) <;> first | exact rfl | exact fnz (J4 @h1 @k0 @k1 @k5) | skip
     exact f5
    | false=>
     rw[hs] at pS
     rw[f6 hs]
     refine aw_drw (.take 0 (.take 1 (.take 2 (.take 3 (.take 4 (.take 5 (.take 6 (.take 7 (.one 8 (.take 9 (.done))))))))))) [] (by kernel_rfl) (by kernel_rfl) fun K hK=>?_;refine dr (J9 rTI @h1 @k0 @k1 @k5 @f1 @f2 @f3 @f4) ?_;refine cont_pure pS ?_;refine dr (J9 rTI @h1 @k0 @k1 @k5 @f1 @f2 @f3 @f4) ?_;refine hK _ _ ?_;clear hK K
     refine ifs ?_ ?_ <;> first | exact nope | intro hb
     exact go0 (cj rTI @h1)
   ·obtain rfl:k=a.length:=by omega
    rw[List.take_of_length_le (by rw[List.length_zip];omega)] at hq
    rw[hq]
    refine go (J4 rTI @h1 @k0 @k5) ?_
    refine ifs ?_ ?_ <;> first | exact nope | intro hb
    exact go0 (cj rTI @h1)
 ·have b0:((a.length:Int) != (b.length:Int))=true:=by simp;omega
  rw[decide_eq_false hl,Bool.false_and]
  refine acall_of Tryz.func48 rfl rfl (by simp [Tryz.ntmps48]) ?_;rw[Tryz.ntmps48,Tryz.results48]
  refine go (cj rTI @b0) ?_
  refine ifs ?_ ?_ <;> first | exact nope | intro hb
  exact go0 rTI
end NetX
namespace NetAM
open Go Go.RowKit Ax Ti NumS NumT CardS CardP CardA CardB CardE CardG CardI CardJ CardK CardL CardR CardX NetS NetA NetE NetF NetX NetAA
theorem rTI:type_of% (J24 @ti3 @ti2 @ti4 @ti9 @ti5 @ti43 @ti45 @ti44 @ti23 @ti47 @ti49 @ti26 @ti68 @ti24 @ti51 @ti25 @ti28 @ti31 @Nat.zero_add @tz0 @tz1 @tz3 @Nat.mul_one @Int.toNat_natCast):=cj @ti3 (J23 @ti2 @ti4 @ti9 @ti5 @ti43 @ti45 @ti44 @ti23 @ti47 @ti49 @ti26 @ti68 @ti24 @ti51 @ti25 @ti28 @ti31 @Nat.zero_add @tz0 @tz1 @tz3 @Nat.mul_one @Int.toNat_natCast)
theorem same_c (x:Crd):sameC x x=true:=by unfold sameC sameV;simp
theorem same_l (l:List Crd):sameL l l=true:=by
 unfold sameL
 rw[decide_eq_true rfl,Bool.true_and,List.all_eq_true]
 intro q hq
 have:q.1=q.2:=by
  obtain⟨k,hk,rfl⟩:=List.mem_iff_getElem.1 hq
  rw[List.getElem_zip]
 rw[this]
 exact same_c _
theorem same_m (x:Mdl):sameM x x=true:=by unfold sameM;simp
theorem same_ax (c:Cir) (hB:CirB c) (hC:∀ x∈c.cards,CB x) (hS:∀ s∈c.subs,∀ x∈s.cards,CB x) (hl:c.cards.length≤1000000) (hsl:∀ s∈c.subs,s.cards.length≤1000000) (hml:c.models.length≤1000000):PCall Tryz.prog 15 [CirV c,CirV c] (.v (.bool true)):=by
 refine pcall_of fun s=>?_
 have hsz:=hB.sl
 have pL:=sameL_ax c.cards c.cards hC hC (by omega) (by omega)
 rw[same_l] at pL
 unfold CirV cirL UV KV MV at *
 have b1:((c.models.length:Int) != c.models.length)=false:=by simp
 have b2:((c.subs.length:Int) != c.subs.length)=false:=by simp
 have b3:(c.method != c.method)=false:=by simp
 have b4:eqOk Tryz.prog 23=true:=by kernel_rfl
 refine acall_of Tryz.func15 rfl rfl (by simp [Tryz.ntmps15]) ?_;rw[Tryz.ntmps15,Tryz.results15]
 refine go rTI ?_
 generalize hst:(s.push _).push _=st
 have g0:st.get s.nx=some [.v (.int .i64 c.step.1),.v (.int .i64 c.step.2),.v (.int .i64 c.method),.sl c.models.length (ML c.models),.sl c.subs.length (UL c.subs),.sl c.cards.length (KL c.cards)]:=by rw[←hst];exact stz
 have g1:st.get (s.nx+1)=some [.v (.int .i64 c.step.1),.v (.int .i64 c.step.2),.v (.int .i64 c.method),.sl c.models.length (ML c.models),.sl c.subs.length (UL c.subs),.sl c.cards.length (KL c.cards)]:=by rw[←hst];exact St.push_same _ _
 have hf:∀ i,i<s.nx→st.get i=s.get i:=fun i hi=>by rw[←hst];exact stz
 clear hst
 refine aw_reg fun K hK=>?_;refine rn (J7 rTI @g0 @g1 @b1 @b2 @b3 @b4) ?_;refine cont_pure pL ?_;refine rn (J7 rTI @g0 @g1 @b1 @b2 @b3 @b4) ?_;refine hK _ _ ?_;clear hK K
 refine ifs ?_ ?_ <;> first | exact nope | intro hb
 refine go rTI ?_
 clear pL
 refine aw_loop (fun m e s'=>∃ j:Nat,m=c.models.length-j∧j≤c.models.length∧e.n=116∧e.m 2=.ptr s.nx 0∧e.m 3=.ptr (s.nx+1) 0∧e.m 5=.v (.int .i64 (j:Nat))∧s'=st) c.models.length ?_ ?_
 ·refine⟨0,by omega,by omega,?_⟩
  (repeat' refine And.intro ?_ ?_) <;> first | exact rfl | exact fnz rTI | skip
 ·rintro m e s' ⟨j,rfl,hj,h1,k2,k3,k5,rfl⟩
  by_cases hj2:j<c.models.length
  ·have f1:=ml_at c.models j hj2
   have f3:4≤((ML c.models).drop (j*4)).length:=by rw[List.length_drop,ml_len];omega
   have hY:=hB.mo _ (getD_mem c.models mdl0 j hj2)
   generalize c.models.getD j mdl0=y at f1 hY
   have pm:=sameM_ax y y hY.1.1 hY.1.1 hY.2.1 hY.2.1 hY.2.2 hY.2.2
   rw[same_m] at pm
   unfold MA SV NV at pm
   unfold mdlL SV NV at f1
   refine go (J5 rTI @h1 @k2 @k5 @g0) ?_
   refine ifs ?_ ?_ <;> first | exact nope | intro hb
   refine aw_skip ?_
   rw[then_normal]
   refine aw_seq ?_
   refine aw_block ?_
   refine aw_seq ?_
   refine aw_drw (.take 0 (.take 1 (.take 2 (.take 3 (.take 4 (.take 5 (.take 6 (.take 7 (.take 8 (.take 9 (.one 10 (.take 11 (.done))))))))))))) [s.nx,s.nx+1] (by kernel_rfl) (by kernel_rfl) fun K hK=>?_;refine dr (J9 rTI @h1 @k2 @k3 @k5 @g0 @g1 @f1 @f3) ?_;refine cont_pure pm ?_;refine dr (J9 rTI @h1 @k2 @k3 @k5 @g0 @g1 @f1 @f3) ?_;refine hK _ _ ?_;clear hK K
   refine ifs ?_ ?_ <;> first | exact nope | intro hb
   refine go (J3 rTI @h1 @k5) ?_
   simp only[block_normal,loop_normal]
   refine⟨c.models.length-(j+1),by omega,j+1,rfl,by omega,?_⟩
   (repeat' refine And.intro ?_ ?_) <;> first | exact rfl | exact fnz (J4 @h1 @k2 @k3 @k5) | skip
  ·obtain rfl:j=c.models.length:=by omega
   refine go (J5 rTI @h1 @k2 @k5 @g0) ?_
   refine ifs ?_ ?_ <;> first | exact nope | intro hb
   refine go (cj rTI @h1) ?_
   refine aw_loop (fun m e s2=>∃ j:Nat,m=c.subs.length-j∧j≤c.subs.length∧e.n=116∧e.m 2=.ptr s.nx 0∧e.m 3=.ptr (s.nx+1) 0∧e.m 6=.v (.int .i64 (j:Nat))∧s2=s') c.subs.length ?_ ?_
   ·refine⟨0,by omega,by omega,?_⟩
    (repeat' refine And.intro ?_ ?_) <;> first | exact rfl | exact fnz (J4 rTI @h1 @k2 @k3) | skip
   ·clear h1 k2 k3 k5 e
    rintro m e s2 ⟨j,rfl,hj,h1,k2,k3,k6,rfl⟩
    by_cases hj2:j<c.subs.length
    ·have f1:=ul_at c.subs j hj2
     have f3:3≤((UL c.subs).drop (j*3)).length:=by rw[List.length_drop,ul_len];omega
     have hY:=hB.so _ (getD_mem c.subs sub0 j hj2)
     have hYC:=hS _ (getD_mem c.subs sub0 j hj2)
     have hYl:=hsl _ (getD_mem c.subs sub0 j hj2)
     generalize c.subs.getD j sub0=y at f1 hY hYC hYl
     have pT:=texts_ax y.ports y.ports hY.2.1.1 hY.2.1.1 hY.2.1.2.2 hY.2.1.2.2
     rw[decide_eq_true rfl] at pT
     have pK:=sameL_ax y.cards y.cards hYC hYC (by omega) (by omega)
     rw[same_l] at pK
     have b5:((bs y.name).toList==(bs y.name).toList)=true:=beq_self_eq_true _
     unfold TV at pT
     unfold KV at pK
     unfold subL SV TV KV at f1
     have f2:=List.take_append_drop 3 ((UL c.subs).drop (j*3))
     rw[f1] at f2
     generalize ((UL c.subs).drop (j*3)).drop 3=R at f2
     replace f2:=f2.symm
     simp only[List.cons_append,List.nil_append] at f2
     clear f1
     refine go (J5 rTI @h1 @k2 @k6 @g0) ?_
     refine ifs ?_ ?_ <;> first | exact nope | intro hb
     refine aw_skip ?_
     rw[then_normal]
     refine aw_seq ?_
     refine aw_block ?_
     refine aw_seq ?_
     refine aw_drw (.take 0 (.take 1 (.take 2 (.take 3 (.take 4 (.take 5 (.take 6 (.take 7 (.take 8 (.take 9 (.take 10 (.take 11 (.take 12 (.take 13 (.take 14 (.take 15 (.take 16 (.take 17 (.take 18 (.take 19 (.take 20 (.take 21 (.take 22 (.take 23 (.take 24 (.take 25 (.one 26 (.take 27 (.take 28 (.take 29 (.take 30 (.take 31 (.take 32 (.take 33 (.take 34 (.take 35 (.take 36 (.take 37 (.take 38 (.take 39 (.take 40 (.take 41 (.one 42 (.take 43 (.take 44 (.done)))))))))))))))))))))))))))))))))))))))))))))) [s.nx,s.nx+1] (by kernel_rfl) (by kernel_rfl) fun K hK=>?_;refine dr (J10 rTI @h1 @k2 @k3 @k6 @g0 @g1 @f2 @f3 @b5) ?_;refine cont_pure pT ?_;refine dr (J10 rTI @h1 @k2 @k3 @k6 @g0 @g1 @f2 @f3 @b5) ?_;refine cont_pure pK ?_;refine dr (J10 rTI @h1 @k2 @k3 @k6 @g0 @g1 @f2 @f3 @b5) ?_;refine hK _ _ ?_;clear hK K
     refine ifs ?_ ?_ <;> first | exact nope | intro hb
     refine go (J3 rTI @h1 @k6) ?_
     simp only[block_normal,loop_normal]
     refine⟨c.subs.length-(j+1),by omega,j+1,rfl,by omega,?_⟩
     (repeat' refine And.intro ?_ ?_) <;> first | exact rfl | exact fnz (J4 @h1 @k2 @k3 @k6) | skip
    ·obtain rfl:j=c.subs.length:=by omega
     refine go (J5 rTI @h1 @k2 @k6 @g0) ?_
     refine ifs ?_ ?_ <;> first | exact nope | intro hb
     refine go (cj rTI @h1) ?_
     exact hf
end NetAM
namespace NumI
open Go Go.RowKit Ax Ti BigM NumS NumA NumB NumT NumU NumL NumW NumX NumY NumE NumG
theorem acall_args {P:Program} {f:FuncId} {zs zs':List AV} {s:St} {R:AV→St→Prop} (hl:zs'.length=zs.length) (hz:∀ (j:Nat) (x y:AV),zs[j]?=some x→zs'[j]?=some y→Le x y) (h:ACall P f zs' s R):ACall P f zs s R:=
 ⟨h.1,fun w0 k w vs hs hv=>h.2 w0 k w vs hs ⟨hv.1.trans hl.symm,fun j z u hz' hu=>by
  have hj:j<zs.length:=by rw[←hl];exact(List.getElem?_eq_some_iff.1 hz').1
  exact hz j _ z (List.getElem?_eq_getElem hj) hz' k u (hv.2 j _ u (List.getElem?_eq_getElem hj) hu)⟩⟩
end NumI
namespace NetAN
open Go Go.RowKit Ax Ti NumS NumT CardS CardP CardA CardB CardE CardG CardK CardR CardX NetS NetA NetE NetF NetJ NetK NetL NetT NetAA NetAG NetAK NetAL NetAM
open LexE (lexAll)
theorem rTI:type_of% (J23 @ti3 @ti2 @ti4 @ti9 @ti5 @ti43 @ti45 @ti44 @ti23 @ti49 @ti26 @ti68 @ti24 @ti51 @ti25 @ti28 @ti31 @Nat.zero_add @tz0 @tz1 @tz3 @Nat.mul_one @Int.toNat_natCast):=cj @ti3 (J22 @ti2 @ti4 @ti9 @ti5 @ti43 @ti45 @ti44 @ti23 @ti49 @ti26 @ti68 @ti24 @ti51 @ti25 @ti28 @ti31 @Nat.zero_add @tz0 @tz1 @tz3 @Nat.mul_one @Int.toNat_natCast)
theorem cb_of {x:Crd} (h:CW x):CB x:=⟨h.n.1,⟨h.d.1,h.d.2.2⟩,h.r.1,h.v,h.t⟩
theorem parse_rt (t:List UInt8):((parseN t).2.2≠0→(parseN t).1=cir0)∧((parseN t).1=cir0∨∃ p,Rt p∧(parseN t).1=p.c):=by
 unfold parseN
 split
 ·exact⟨fun _=>rfl,.inl rfl⟩
 ·unfold parseL
  have h:=linesN_rt (linesW (lexAll t).1) par0 par0_rt
  generalize linesN par0 (linesW (lexAll t).1)=q at *
  dsimp only
  split
  ·exact⟨fun _=>rfl,.inl rfl⟩
  ·split
   ·exact⟨fun _=>rfl,.inl rfl⟩
   ·split
    ·exact⟨fun _=>rfl,.inl rfl⟩
    ·exact⟨fun g=>absurd rfl g,.inr ⟨_,h,rfl⟩⟩
theorem same_parse (t:List UInt8):PCall Tryz.prog 15 [CirV (parseN t).1,CirV (parseN t).1] (.v (.bool true)):=by
 have hB:=cirB_parse t
 rcases (parse_rt t).2 with h | ⟨p,h,e⟩
 ·rw[h] at hB ⊢
  exact same_ax cir0 hB (fun x hx=>(by cases hx)) (fun x hx=>(by cases hx)) (by decide) (fun x hx=>(by cases hx)) (by decide)
 ·rw[e] at hB ⊢
  have hcl:=h.cl
  have hml:=h.ml
  exact same_ax p.c hB (fun x hx=>cb_of (hB.co x hx)) (fun s hs x hx=>cb_of ((hB.so s hs).2.2.1 x hx)) (by omega) (fun s hs=>by have:=(h.so s hs).2.2.2.2;omega) (by omega)
end NetAN
namespace NetH
open CardS NetS NetP NetG NetL LexE LexT NumS
def moreT:List UInt8:=[114,95,110,101,119,95,111,110,101,95,109,111,114,101,32,97,32,48,32,50]
theorem grows_in (t:List UInt8) (ht:t.length≤30000):growsP (parseN t) (parseN (t++10::moreT)):=by
 have hm:lexAll moreT=([(1,[[114,95,110,101,119,95,111,110,101,95,109,111,114,101],[97],[48],[50]])],0,0):=by decide
 by_cases h0:(lexAll t).2.2=0
 ·have hj:=joined_good t moreT (by have:moreT.length=20:=rfl;omega) h0 (by rw[hm];decide)
  rw[hm,if_pos (by rfl)] at hj
  unfold parseN
  rw[if_neg (by simpa using h0),hj,if_neg (by simp)]
  unfold linesW shift
  rw[List.map_append]
  exact grows_lines _ _
 ·have hj:=joined_bad t moreT (by have:moreT.length=20:=rfl;omega) h0
  have e:parseN (t++10::moreT)=parseN t:=by unfold parseN;rw[hj]
  rw[e]
  refine grows_same _ ?_ _ rfl
  unfold parseN
  rw[if_pos h0]
  exact h0
end NetH
namespace NetAO
open Go Go.RowKit Ax Ti NumS NumT CardS CardP CardA CardB CardE CardG CardI CardJ CardK CardR CardX NetS NetA NetE NetF NetG NetH NetJ NetK NetL NetT NetAA NetAG NetAK NetAL NetAM NetAN
open LexE (lexAll)
theorem rTI:type_of% (J24 @ti3 @ti2 @ti4 @ti9 @ti5 @ti43 @ti45 @ti44 @ti23 @ti47 @ti49 @ti26 @ti68 @ti24 @ti51 @ti25 @ti28 @ti31 @Nat.zero_add @tz0 @tz1 @tz3 @Nat.mul_one @Int.toNat_natCast):=cj @ti3 (J23 @ti2 @ti4 @ti9 @ti5 @ti43 @ti45 @ti44 @ti23 @ti47 @ti49 @ti26 @ti68 @ti24 @ti51 @ti25 @ti28 @ti31 @Nat.zero_add @tz0 @tz1 @tz3 @Nat.mul_one @Int.toNat_natCast)
theorem cont_new {s:St} {K:Env→St→Prop} {e:Env} {d:Option Nat} (id:Nat) (hi:s.get id=some [.v (.string (bs [97])),.v (.string (bs [48]))]) (h:∀ s',s'.nx=s.nx→(∀ j,j≠id→s'.get j=s.get j)→K (e.put d (.v (.bool true))) s') :
  ACall Tryz.prog 16 [.ag (crdL newC),.ag [.v (.string (bs rname)),.own id 0 2 1,.v (.string (bs [])),.v (.int .i64 2),.v (.int .i64 0),.v (.int .i64 0),.v (.slice none 0 0),.v (.slice none 0 0)]] s (ContS K e d):=by
 have hc:CB newC:=⟨by_lit _ rfl,⟨fun w hw=>by
  simp only[newC,List.mem_cons,List.not_mem_nil,or_false] at hw
  rcases hw with rfl | rfl <;> exact by_lit _ rfl,by decide⟩,by_lit _ rfl,by decide,by decide⟩
 have p:=sameC_ax newC newC hc hc
 rw[same_c] at p
 refine acall_frz id _ hi (fun _=>false) ?_
 refine NumI.acall_args (zs':=[CA newC,CA newC]) rfl (fun j x y hx hy=>?_) (cont_pure p (h _ rfl fun j hj=>frz_false _ _ _ _ hj))
 match j with
 | 0=>cases hx;cases hy;exact Le.refl _
 | 1=>
  cases hx;cases hy
  rw[show frz id [.v (.string (bs [97])),.v (.string (bs [48]))] (.ag [.v (.string (bs rname)),.own id 0 2 1,.v (.string (bs [])),.v (.int .i64 2),.v (.int .i64 0),.v (.int .i64 0),.v (.slice none 0 0),.v (.slice none 0 0)])=.ag [.v (.string (bs rname)),frz id [.v (.string (bs [97])),.v (.string (bs [48]))] (.own id 0 2 1),.v (.string (bs [])),.v (.int .i64 2),.v (.int .i64 0),.v (.int .i64 0),.v (.slice none 0 0),.v (.slice none 0 0)] from rfl,frz_own]
  refine Le.ag rfl fun j x y hx hy=>?_
  match j with
  | 0=>cases hx;cases hy;exact Le.refl _
  | 1=>cases hx;cases hy;exact Le.refl _
  | 2=>cases hx;cases hy;exact Le.refl _
  | 3=>cases hx;cases hy;exact Le.refl _
  | 4=>cases hx;cases hy;exact Le.refl _
  | 5=>cases hx;cases hy;exact Le.refl _
  | 6=>cases hx;cases hy;exact Le.nil 0 0 rfl
  | 7=>cases hx;cases hy;exact Le.nil 0 0 rfl
  | j+8=>cases hx
 | j+2=>cases hx
theorem kl_snoc (l:List Crd) (x:Crd):(KL (l++[x])).take (l.length*8)=KL l:=by
 have:=kl_len l
 unfold KL at *
 rw[List.flatMap_append,List.take_append_of_le_length (by omega),List.take_of_length_le (by omega)]
theorem grows_ax (t:List UInt8) (ht:t.length≤140737488351232):PCall Tryz.prog 6 [.v (.string (LexB.bs t))] (.v (.bool true)):=by
 refine pcall_of fun s=>?_
 have hz:(LexB.bs t).size=t.length:=rfl
 by_cases hl:30000<t.length
 ·have b0:decide ((30000:Int)<t.length)=true:=decide_eq_true (by omega)
  refine acall_of Tryz.func6 rfl rfl (by simp [Tryz.ntmps6]) ?_;rw[Tryz.ntmps6,Tryz.results6]
  refine go rTI ?_
  refine aw_reg fun K hK=>?_;refine rn rTI ?_;refine cont_pure awake_ax ?_;refine rn rTI ?_;refine hK _ _ ?_;clear hK K
  refine ifs ?_ ?_ <;> first | exact nope | intro hb
  refine go (J3 rTI @hz @b0) ?_
  refine ifs ?_ ?_ <;> first | exact nope | intro hb
  exact go0 rTI
 have b0:decide ((30000:Int)<t.length)=false:=decide_eq_false (by omega)
 have p1:=parse_ax t
 have p2:=parse_ax (t++10::moreT)
 have hg:=grows_in t (by omega)
 have p3:=same_parse t
 have hrt:=(parse_rt t).2
 have hcc:LexB.bs t++ByteArray.mk #[10,114,95,110,101,119,95,111,110,101,95,109,111,114,101,32,97,32,48,32,50]=LexB.bs (t++10::moreT):=(LexB.bs_append t (10::moreT)).symm
 have hsz:(ByteArray.mk #[10,114,95,110,101,119,95,111,110,101,95,109,111,114,101,32,97,32,48,32,50]).size=21:=rfl
 generalize LexB.bs (t++10::moreT)=tt at *
 generalize parseN (t++10::moreT)=y at *
 generalize parseN t=z at *
 obtain⟨c,a,e⟩:=z
 obtain⟨f,a2,d⟩:=y
 unfold growsP at hg
 simp only at hg p1 p2 p3 hrt
 unfold CirV cirL MV UV KV at p1 p2 p3
 refine acall_of Tryz.func6 rfl rfl (by simp [Tryz.ntmps6]) ?_;rw[Tryz.ntmps6,Tryz.results6]
 refine go rTI ?_
 refine aw_reg fun K hK=>?_;refine rn rTI ?_;refine cont_pure awake_ax ?_;refine rn rTI ?_;refine hK _ _ ?_;clear hK K
 refine ifs ?_ ?_ <;> first | exact nope | intro hb
 refine go (J3 rTI @hz @b0) ?_
 refine ifs ?_ ?_ <;> first | exact nope | intro hb
 refine aw_skip ?_
 rw[then_normal]
 refine aw_seq ?_
 refine aw_reg fun K hK=>?_;refine rn rTI ?_;refine cont_pure p1 ?_;refine rn rTI ?_;refine hK _ _ ?_;clear hK K
 rw[then_normal]
 refine aw_seq ?_
 refine aw_reg fun K hK=>?_;refine rn (J4 rTI @hz @hcc @hsz) ?_;refine cont_pure p2 ?_;refine rn (J4 rTI @hz @hcc @hsz) ?_;refine hK _ _ ?_;clear hK K
 rw[then_normal]
 have gc:((((s.push czero).set s.nx [.v (.int .i64 c.step.1),.v (.int .i64 c.step.2),.v (.int .i64 c.method),.sl c.models.length (ML c.models),.sl c.subs.length (UL c.subs),.sl c.cards.length (KL c.cards)]).push czero).set (s.nx+1) [.v (.int .i64 f.step.1),.v (.int .i64 f.step.2),.v (.int .i64 f.method),.sl f.models.length (ML f.models),.sl f.subs.length (UL f.subs),.sl f.cards.length (KL f.cards)]).get s.nx=some [.v (.int .i64 c.step.1),.v (.int .i64 c.step.2),.v (.int .i64 c.method),.sl c.models.length (ML c.models),.sl c.subs.length (UL c.subs),.sl c.cards.length (KL c.cards)]:=stz
 unfold czero at gc
 by_cases hq:e≠0∨d≠0
 ·rw[if_pos hq] at hg
  obtain⟨hd,hg⟩:=hg
  refine aw_seq ?_
  refine aw_seq ?_
  refine aw_only (fun E s'=>E.n=106∧E.m 5=.v (.int .i64 e)∧E.m 8=.v (.int .i64 d)∧E.m 3=.ptr s.nx 0∧E.m 34=.v (.bool true)∧s'.get s.nx=some [.v (.int .i64 c.step.1),.v (.int .i64 c.step.2),.v (.int .i64 c.method),.sl c.models.length (ML c.models),.sl c.subs.length (UL c.subs),.sl c.cards.length (KL c.cards)]∧∀ i,i<s.nx→s'.get i=s.get i) ?_ ?_
  ·have c2:(d != 0)=true:=by simpa using hd
   by_cases he:e=0
   ·have c1:(e != 0)=false:=by simpa using he
    refine go (J3 rTI @c1 @c2) ?_
    (repeat' refine And.intro ?_ ?_) <;> first | exact rfl | exact fnz rTI | skip
    all_goals first | exact gc | exact fun i hi=>stz
   ·have c1:(e != 0)=true:=by simpa using he
    refine go (J3 rTI @c1 @c2) ?_
    (repeat' refine And.intro ?_ ?_) <;> first | exact rfl | exact fnz rTI | skip
    all_goals first | exact gc | exact fun i hi=>stz
  ·clear gc p1 p2 p3 hcc hsz b0 hz hq
   rintro E s' ⟨h1,k5,k8,k3,k34,gc,hf⟩
   rw[then_normal]
   refine aw_cond k34 (fun _=>?_) (fun h=>by cases h)
   refine aw_seq ?_
   refine aw_only (fun E s'=>E.n=106∧E.m 5=.v (.int .i64 e)∧E.m 8=.v (.int .i64 d)∧E.m 3=.ptr s.nx 0∧E.m 9=.v (.bool (decide (d=80∨d=7∨d=8)))∧s'.get s.nx=some [.v (.int .i64 c.step.1),.v (.int .i64 c.step.2),.v (.int .i64 c.method),.sl c.models.length (ML c.models),.sl c.subs.length (UL c.subs),.sl c.cards.length (KL c.cards)]∧∀ i,i<s.nx→s'.get i=s.get i) ?_ ?_
   ·by_cases d1:d=80
    ·rw[decide_eq_true (.inl d1)]
     have q1:(d==80)=true:=by simpa using d1
     refine go (J3 @h1 @k8 @q1) ?_
     (repeat' refine And.intro ?_ ?_) <;> first | exact rfl | exact fnz (J4 @h1 @k5 @k8 @k3) | skip
     all_goals first | exact gc | exact hf
    ·have q1:(d==80)=false:=by simpa using d1
     by_cases d2:d=7
     ·rw[decide_eq_true (.inr (.inl d2))]
      have q2:(d==7)=true:=by simpa using d2
      refine go (J4 @h1 @k8 @q1 @q2) ?_
      (repeat' refine And.intro ?_ ?_) <;> first | exact rfl | exact fnz (J4 @h1 @k5 @k8 @k3) | skip
      all_goals first | exact gc | exact hf
     ·have q2:(d==7)=false:=by simpa using d2
      have q3:(d==8)=decide (d=80∨d=7∨d=8):=by
       rw[Bool.eq_iff_iff,beq_iff_eq,decide_eq_true_iff]
       omega
      generalize decide (d=80∨d=7∨d=8)=L at *
      refine go (J5 @h1 @k8 @q1 @q2 @q3) ?_
      (repeat' refine And.intro ?_ ?_) <;> first | exact rfl | exact fnz (J4 @h1 @k5 @k8 @k3) | skip
      all_goals first | exact gc | exact hf
   ·clear h1 k5 k8 k3 k34 gc hf E s'
    rintro E s' ⟨h1,k5,k8,k3,k9,gc,hf⟩
    have c2:(d != 0)=true:=by simpa using hd
    rw[then_normal]
    rcases hg with hg | ⟨hL,hg⟩
    ·have q1:(d==e)=true:=by simpa using hg
     refine go (J6 rTI @h1 @k5 @k8 @c2 @q1) ?_
     exact hf
    ·rw[decide_eq_true hL] at k9
     by_cases hde:d=e
     ·have q1:(d==e)=true:=by simpa using hde
      refine go (J6 rTI @h1 @k5 @k8 @c2 @q1) ?_
      exact hf
     have q1:(d==e)=false:=by simpa using hde
     rcases hg with ⟨he,hg⟩ | ⟨hg1,hg2⟩
     ·subst he
      by_cases d2:d=7
      ·have q2:(d != 7)=false:=by simpa using d2
       have q3:((c.cards.length:Int)==64)=true:=by
        have:=hg.resolve_left (by omega)
        rw[this]
        rfl
       refine go (J11 rTI @h1 @k3 @k5 @k8 @k9 @gc @c2 @q1 @q2 @q3) ?_
       exact hf
      ·have q2:(d != 7)=true:=by simpa using d2
       refine go (J10 rTI @h1 @k3 @k5 @k8 @k9 @gc @c2 @q1 @q2) ?_
       exact hf
     ·have q2:(e==0)=false:=by rw[beq_eq_false_iff_ne];omega
      have q3:decide ((80:Int)≤e)=true:=decide_eq_true hg1
      have q4:decide (e≤(82:Int))=true:=decide_eq_true hg2
      refine go (J12 rTI @h1 @k3 @k5 @k8 @k9 @gc @c2 @q1 @q2 @q3 @q4) ?_
      exact hf
 ·obtain⟨he,hd⟩:e=0∧d=0:=by omega
  subst he hd
  rw[if_neg hq] at hg
  subst hg
  clear hcc hsz b0 hz hq hl
  refine aw_seq ?_
  refine aw_seq ?_
  refine go rTI ?_
  refine ifs ?_ ?_ <;> first | exact nope | intro hb
  refine aw_skip ?_
  rw[then_normal]
  refine aw_seq ?_
  have hcl:c.cards.length≤64:=by
   rcases hrt with h | ⟨p,h,e⟩
   ·rw[h];decide
   ·rw[e];exact h.cl
  have e1:((c.cards++[newC]).length:Int)=c.cards.length+1:=by simp
  have e2:((c.cards.length:Int)+1-1)=c.cards.length:=by omega
  have e3:(c.cards++[newC]).length=c.cards.length+1:=by simp
  have f1:=kl_at (c.cards++[newC]) c.cards.length (by omega)
  have f3:8≤((KL (c.cards++[newC])).drop (c.cards.length*8)).length:=by rw[List.length_drop,kl_len];omega
  have f4:=kl_snoc c.cards newC
  have f5:=kl_len (c.cards++[newC])
  rw[show (c.cards++[newC]).getD c.cards.length crd0=newC by rw[List.getD_eq_getElem?_getD,List.getElem?_append_right (Nat.le_refl _)];simp] at f1
  have b1:((c.cards.length:Int) != c.cards.length)=false:=by simp
  generalize (c.cards++[newC]).length=n at *
  generalize KL (c.cards++[newC])=R at *
  refine go (J3 rTI @e1 @e2) ?_
  refine aw_reg fun K hK=>?_
  refine rn (J4 rTI @b1 @f1 @f3) ?_
  refine cont_new (s.nx+1+1) (St.push_same _ _) fun s2 n2 g2=>?_
  have x0:s2.get s.nx=some [.v (.int .i64 c.step.1),.v (.int .i64 c.step.2),.v (.int .i64 c.method),.sl c.models.length (ML c.models),.sl c.subs.length (UL c.subs),.sl c.cards.length (KL c.cards)]:=(g2 _ (by omega)).trans stz
  have x1:s2.get (s.nx+1)=some [.v (.int .i64 c.step.1),.v (.int .i64 c.step.2),.v (.int .i64 c.method),.sl c.models.length (ML c.models),.sl c.subs.length (UL c.subs),.sl n R]:=(g2 _ (by omega)).trans stz
  have hf:∀ i,i<s.nx→s2.get i=s.get i:=fun i hi=>(g2 i (by omega)).trans stz
  clear g2 n2
  refine rn rTI ?_
  refine hK _ _ ?_
  clear hK K f1 f3
  refine ifs ?_ ?_ <;> first | exact nope | intro hb
  refine aw_skip ?_
  rw[then_normal]
  refine go (J5 rTI @x1 @e1 @f4 @f5) ?_
  rw[Nat.sub_zero,f4]
  refine aw_reg fun K hK=>?_;refine rn (cj rTI @x0) ?_;refine cont_pure p3 ?_;refine rn (cj rTI @x0) ?_;refine hK _ _ ?_;clear hK K
  refine go rTI ?_
  exact fun i hi=>(St.set_ne s2 (s.nx+1) i _ (by omega)).trans (hf i hi)
end NetAO
end Go.Proofs.YtdaeancgockacaaGreatDoor
