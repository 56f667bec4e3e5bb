/- A part of the proof. -/
import Derived.Test.YtdaeancgockacaaGreatDoorPNetBC
import Derived.WalkKit
import Derived.ProofKit
import Derived.WideShapes
import Derived.KernelRfl
import Derived.Stop.FmtTextKit
import Derived.Lib.LaidTab
import Derived.DataReads
import Derived.SizedLaws
set_option linter.unusedVariables false
set_option linter.unusedSimpArgs false
set_option maxHeartbeats 4000000
set_option maxRecDepth 100000
namespace Go.Proofs.YtdaeancgockacaaGreatDoor
namespace CardH
open Go Go.RowKit Ax Ti NumS NumT CardS CardP CardA CardB CardC CardD CardE CardF CardG
open NumA (NM valid_ax)
open RefM (validN)
theorem rTI:type_of% (J15 @ti3 @ti4 @ti9 @ti5 @ti43 @ti45 @ti44 @ti23 @ti47 @Nat.zero_add @tz0 @tz1 @tz3 @Nat.mul_one @Int.toNat_natCast):=cj @ti3 (J14 @ti4 @ti9 @ti5 @ti43 @ti45 @ti44 @ti23 @ti47 @Nat.zero_add @tz0 @tz1 @tz3 @Nat.mul_one @Int.toNat_natCast)
def okS (s:Int):Bool:=decide (0≤s∧s≤1000000000)
def kindOk (kd:Int) (V:List Num) (S:List Int):Bool:=
 if kd=1 then decide (V.length=1∧S.length=0)
 else if kd=2 then decide (V.length=2∧S.length=5∧1≤S.getD 4 0∧S.getD 1 0+S.getD 2 0+S.getD 3 0≤S.getD 4 0)
 else if kd=3 then rising S&&decide (V.length=S.length∧1≤V.length∧V.length≤16)
 else if kd=4 then decide (1≤V.length∧V.length≤16∧S.length=0) else false
theorem waveOk_eq (kd:Int) (V:List Num) (S:List Int):waveOk ⟨kd,V,S⟩=(V.all valid&&S.all okS&&kindOk kd V S):=rfl
theorem rising_of:∀ (S:List Int),(∀ i,i+1<S.length→S.getD i 0<S.getD (i+1) 0)→rising S=true
 | [],_=>rfl
 | [_],_=>rfl
 | a::b::r,h=>by
  have h0:=h 0 (by simp)
  have h1:=rising_of (b::r) fun i hi=>by
   have:=h (i+1) (by simp at hi ⊢;omega)
   simpa using this
  show (decide (a<b)&&rising (b::r))=true
  rw[h1,decide_eq_true (by simpa using h0)]
  rfl
theorem rising_not:∀ (S:List Int) (i:Nat),i+1<S.length→¬S.getD i 0<S.getD (i+1) 0→rising S=false
 | [],i,h,_=>by simp at h
 | [_],i,h,_=>by simp at h
 | a::b::r,0,h,hn=>by
  show (decide (a<b)&&rising (b::r))=false
  rw[decide_eq_false (by simpa using hn)]
  rfl
 | a::b::r,i+1,h,hn=>by
  show (decide (a<b)&&rising (b::r))=false
  rw[rising_not (b::r) i (by simp at h ⊢;omega) (by simpa using hn),Bool.and_false]
theorem wvalid_ax (w:Wv) (hv:w.vals.length≤9223372036854775807) (hs:w.steps.length≤9223372036854775807):PCall Tryz.prog 100 [WA w] (.v (.bool (waveOk w))):=by
 refine pcall_of fun s=>?_
 obtain⟨kd,V,S⟩:=w
 rw[waveOk_eq]
 simp only at hv hs
 unfold WA NV IV iv
 simp only
 refine acall_of Tryz.func100 rfl rfl (by simp [Tryz.ntmps100]) ?_;rw[Tryz.ntmps100,Tryz.results100]
 refine go rTI ?_
 refine aw_loop (fun m e s'=>∃ k,m=V.length-k∧k≤V.length∧e.n=145∧e.m 1=.ptr s.nx 0∧e.m 9=.sl V.length (NC V)∧e.m 10=.v (.int .i64 V.length)∧e.m 11=.v (.int .i64 (k:Nat))∧(V.take k).all valid=true∧s.nx<s'.nx∧s'.get s.nx=some [.v (.int .i64 kd),.sl V.length (NC V),.sl S.length (IL S)]∧∀ i,i<s.nx→s'.get i=s.get i) V.length ?_ ?_
 ·refine⟨0,by omega,by omega,?_⟩
  (repeat' refine And.intro ?_ ?_) <;> first | exact rfl | exact fnz rTI | skip
  exact Nat.lt_succ_self _
 ·rintro m e s' ⟨k,rfl,hk,h1,k1,k9,k10,k11,ha,hn,gb,fr⟩
  by_cases hk2:k<V.length
  ·have f1:=nc_at V k hk2
   have f2:2≤((NC V).drop (k*2)).length:=by rw[List.length_drop,nc_len];omega
   have hp:PCall Tryz.prog 30 [NM (V.getD k (0,0)).1 (V.getD k (0,0)).2] (.v (.bool (valid (V.getD k (0,0))))):=valid_ax _ _
   have ht:=take_all valid V (0,0) k hk2 ha
   have hf:=all_not valid V (0,0) k hk2
   unfold iv at f1
   unfold NM at hp
   generalize V.getD k (0,0)=n at *
   refine go (J4 rTI @h1 @k10 @k11) ?_
   refine ifs ?_ ?_ <;> first | exact nope | intro hb
   refine aw_skip ?_
   refine go (J6 rTI @h1 @k9 @k11 @f1 @f2) ?_
   refine aw_reg fun K hK=>?_;refine rn rTI ?_;refine cont_pure hp ?_;refine rn rTI ?_;refine hK _ _ ?_;clear hK K
   cases hc:valid n with
   | false=>
    rw[hf hc]
    rw[Bool.false_and,Bool.false_and]
    refine ifs ?_ ?_ <;> first | exact nope | intro hb
    refine go (cj rTI @h1) ?_
    exact fun i hi=>by rw[if_neg (by omega)];exact fr i hi
   | true=>
    rw[hc] at ht
    refine ifs ?_ ?_ <;> first | exact nope | intro hb
    refine go (J3 rTI @h1 @k11) ?_
    simp only[block_normal,loop_normal]
    refine⟨V.length-(k+1),by omega,k+1,rfl,by omega,?_,?_,?_,?_,?_,ht,?_,?_,?_⟩
    all_goals ((first | refine rn (J6 rTI @h1 @k1 @k9 @k10 @k11) ?_ | exact rn0 (J6 rTI @h1 @k1 @k9 @k10 @k11)))
    all_goals (first | rfl | trivial | (rw[St.nx_push];omega) | omega | (intro i hi;rw[if_neg (by omega)];exact fr i hi))
  ·obtain rfl:k=V.length:=by omega
   rw[List.take_length] at ha
   rw[ha,Bool.true_and]
   refine go (J6 rTI @h1 @k1 @k10 @k11 @gb) ?_
   refine ifs ?_ ?_ <;> first | exact nope | intro hb
   refine go (J6 rTI @h1 @k1 @k10 @k11 @gb) ?_
   clear ha hk hk2 k9 k10 k11
   refine aw_loop (fun m e' s''=>∃ k,m=S.length-k∧k≤S.length∧e'.n=145∧e'.m 1=.ptr s.nx 0∧e'.m 20=.sl S.length (IL S)∧e'.m 21=.v (.int .i64 S.length)∧e'.m 22=.v (.int .i64 (k:Nat))∧(S.take k).all okS=true∧s''=s') S.length ?_ ?_
   ·refine⟨0,by omega,by omega,?_⟩
    (repeat' refine And.intro ?_ ?_) <;> first | exact rfl | exact fnz (J3 rTI @h1 @k1) | skip
   ·clear h1 k1
    rintro m e' s'' ⟨k,rfl,hk,h1,k1,k20,k21,k22,ha,rfl⟩
    by_cases hk2:k<S.length
    ·have f1:=hd_IL S k hk2
     have ht:=take_all okS S 0 k hk2 ha
     have hf:=all_not okS S 0 k hk2
     unfold iv at f1
     generalize S.getD k 0=n at *
     have hn2:okS n=(decide (0≤n)&&decide (n≤1000000000)):=by unfold okS;rw[Bool.decide_and]
     refine go (J4 rTI @h1 @k21 @k22) ?_
     refine ifs ?_ ?_ <;> first | exact nope | intro hb
     refine aw_skip ?_
     by_cases c1:0≤n
     ·by_cases c2:n≤1000000000
      ·refine go (J5 rTI @h1 @k20 @k22 @f1) ?_
       refine ifs ?_ ?_ <;> first | exact nope | intro hb
       rw[hn2,decide_eq_true c1,decide_eq_true c2] at ht
       refine go (J3 rTI @h1 @k22) ?_
       simp only[block_normal,loop_normal]
       refine⟨S.length-(k+1),by omega,k+1,rfl,by omega,?_,?_,?_,?_,?_,ht,trivial⟩
       all_goals ((first | refine rn (J6 rTI @h1 @k1 @k20 @k21 @k22) ?_ | exact rn0 (J6 rTI @h1 @k1 @k20 @k21 @k22)))
       all_goals rfl
      ·rw[hf (by rw[hn2,decide_eq_false c2,Bool.and_false]),Bool.false_and]
       refine go (J5 rTI @h1 @k20 @k22 @f1) ?_
       refine ifs ?_ ?_ <;> first | exact nope | intro hb
       refine go (cj rTI @h1) ?_
       exact fr
     ·rw[hf (by rw[hn2,decide_eq_false c1,Bool.false_and]),Bool.false_and]
      refine go (J5 rTI @h1 @k20 @k22 @f1) ?_
      refine ifs ?_ ?_ <;> first | exact nope | intro hb
      refine go (cj rTI @h1) ?_
      exact fr
    ·obtain rfl:k=S.length:=by omega
     rw[List.take_length] at ha
     rw[ha,Bool.true_and]
     clear hk hk2
     unfold kindOk
     by_cases q1:kd=1
     ·rw[if_pos q1]
      subst q1
      by_cases c1:V.length=1
      ·by_cases c2:S.length=0
       ·rw[decide_eq_true (by exact⟨c1,c2⟩)]
        refine go (J6 rTI @h1 @k1 @k21 @k22 @gb) ?_
        refine ifs ?_ ?_ <;> first | exact nope | intro hb
        refine go (J6 rTI @h1 @k1 @k21 @k22 @gb) ?_
        refine ifs ?_ ?_ <;> first | exact nope | intro hb
        refine go (J4 rTI @h1 @k1 @gb) ?_
        exact fr
       ·rw[decide_eq_false (fun x=>c2 x.2)]
        refine go (J6 rTI @h1 @k1 @k21 @k22 @gb) ?_
        refine ifs ?_ ?_ <;> first | exact nope | intro hb
        refine go (J6 rTI @h1 @k1 @k21 @k22 @gb) ?_
        refine ifs ?_ ?_ <;> first | exact nope | intro hb
        refine go (J4 rTI @h1 @k1 @gb) ?_
        exact fr
      ·rw[decide_eq_false (fun x=>c1 x.1)]
       refine go (J6 rTI @h1 @k1 @k21 @k22 @gb) ?_
       refine ifs ?_ ?_ <;> first | exact nope | intro hb
       refine go (J6 rTI @h1 @k1 @k21 @k22 @gb) ?_
       refine ifs ?_ ?_ <;> first | exact nope | intro hb
       refine go (J4 rTI @h1 @k1 @gb) ?_
       exact fr
     rw[if_neg q1]
     by_cases q2:kd=2
     ·rw[if_pos q2]
      subst q2
      refine go (J6 rTI @h1 @k1 @k21 @k22 @gb) ?_
      refine ifs ?_ ?_ <;> first | exact nope | intro hb
      refine go (J6 rTI @h1 @k1 @k21 @k22 @gb) ?_
      refine ifs ?_ ?_ <;> first | exact nope | intro hb
      refine go (cj rTI @h1) ?_
      refine ifs ?_ ?_ <;> first | exact nope | intro hb
      by_cases c1:V.length=2
      ·by_cases c2:S.length=5
       ·match S,c2 with
        | [a,b,c,d,f],_=>
         have hb5:∀ x∈[a,b,c,d,f],0≤x∧x≤1000000000:=fun x hx=>by
          have:=List.all_eq_true.1 ha x hx
          unfold okS at this
          exact of_decide_eq_true this
         have bb:=hb5 b (by simp)
         have bc:=hb5 c (by simp)
         have bd:=hb5 d (by simp)
         have bf:=hb5 f (by simp)
         have e5:([a,b,c,d,f].length:Int)=5:=rfl
         have n5:[a,b,c,d,f].length=5:=rfl
         have t1:Int.toNat 4=4:=rfl
         have t2:Int.toNat 2=2:=rfl
         have i4:((IL [a,b,c,d,f]).drop 4).head?=some (.v (.int .i64 f)):=rfl
         have i1:((IL [a,b,c,d,f]).drop 1).head?=some (.v (.int .i64 b)):=rfl
         have i2:((IL [a,b,c,d,f]).drop 2).head?=some (.v (.int .i64 c)):=rfl
         have i3:((IL [a,b,c,d,f]).drop 3).head?=some (.v (.int .i64 d)):=rfl
         have hd5:decide (V.length=2∧[a,b,c,d,f].length=5∧1≤[a,b,c,d,f].getD 4 0∧[a,b,c,d,f].getD 1 0+[a,b,c,d,f].getD 2 0+[a,b,c,d,f].getD 3 0≤[a,b,c,d,f].getD 4 0)=(decide (1≤f)&&decide (b+c+d≤f)):=by
          rw[Bool.eq_iff_iff]
          simp [c1]
         rw[hd5]
         clear hb5 hd5 ha
         generalize [a,b,c,d,f]=S' at *
         refine aw_seq ?_
         by_cases c3:1≤f
         ·rw[decide_eq_true c3,Bool.true_and]
          by_cases c4:b+c+d≤f
          ·rw[decide_eq_true c4]
           refine aw_drw (.take 0 (.take 1 (.take 2 (.take 3 (.take 4 (.take 5 (.take 6 (.take 7 (.take 8 (.take 9 (.take 10 (.take 11 (.take 12 (.take 13 (.take 14 (.take 15 (.take 16 (.take 17 (.take 18 (.take 19 (.take 20 (.take 21 (.take 22 (.take 23 (.take 24 (.take 25 (.take 26 (.take 27 (.take 28 (.take 29 (.take 30 (.take 31 (.take 32 (.take 33 (.take 34 (.take 35 (.take 36 (.take 37 (.take 38 (.done)))))))))))))))))))))))))))))))))))))))) [s.nx] (by kernel_rfl) (by kernel_rfl) fun K hK=>?_;refine dr (J13 rTI @h1 @k1 @gb @c1 @e5 @n5 @t1 @t2 @i1 @i2 @i3 @i4) ?_;refine hK _ _ ?_;clear hK K
           refine go (cj rTI @h1) ?_
           exact fr
          ·rw[decide_eq_false c4]
           refine aw_drw (.take 0 (.take 1 (.take 2 (.take 3 (.take 4 (.take 5 (.take 6 (.take 7 (.take 8 (.take 9 (.take 10 (.take 11 (.take 12 (.take 13 (.take 14 (.take 15 (.take 16 (.take 17 (.take 18 (.take 19 (.take 20 (.take 21 (.take 22 (.take 23 (.take 24 (.take 25 (.take 26 (.take 27 (.take 28 (.take 29 (.take 30 (.take 31 (.take 32 (.take 33 (.take 34 (.take 35 (.take 36 (.take 37 (.take 38 (.done)))))))))))))))))))))))))))))))))))))))) [s.nx] (by kernel_rfl) (by kernel_rfl) fun K hK=>?_;refine dr (J13 rTI @h1 @k1 @gb @c1 @e5 @n5 @t1 @t2 @i1 @i2 @i3 @i4) ?_;refine hK _ _ ?_;clear hK K
           refine go (cj rTI @h1) ?_
           exact fr
         ·rw[decide_eq_false c3,Bool.false_and]
          refine aw_drw (.take 0 (.take 1 (.take 2 (.take 3 (.take 4 (.take 5 (.take 6 (.take 7 (.take 8 (.take 9 (.take 10 (.take 11 (.take 12 (.take 13 (.take 14 (.take 15 (.take 16 (.take 17 (.take 18 (.take 19 (.take 20 (.take 21 (.take 22 (.take 23 (.take 24 (.take 25 (.take 26 (.take 27 (.take 28 (.take 29 (.take 30 (.take 31 (.take 32 (.take 33 (.take 34 (.take 35 (.take 36 (.take 37 (.take 38 (.done)))))))))))))))))))))))))))))))))))))))) [s.nx] (by kernel_rfl) (by kernel_rfl) fun K hK=>?_;refine dr (J13 rTI @h1 @k1 @gb @c1 @e5 @n5 @t1 @t2 @i1 @i2 @i3 @i4) ?_;refine hK _ _ ?_;clear hK K
          refine go (cj rTI @h1) ?_
          exact fr
       ·rw[decide_eq_false (fun x=>c2 x.2.1)]
        refine aw_seq ?_
        refine aw_drw (.take 0 (.take 1 (.take 2 (.take 3 (.take 4 (.take 5 (.take 6 (.take 7 (.take 8 (.take 9 (.take 10 (.take 11 (.take 12 (.take 13 (.take 14 (.take 15 (.take 16 (.take 17 (.take 18 (.take 19 (.take 20 (.take 21 (.take 22 (.take 23 (.take 24 (.take 25 (.take 26 (.take 27 (.take 28 (.take 29 (.take 30 (.take 31 (.take 32 (.take 33 (.take 34 (.take 35 (.take 36 (.take 37 (.take 38 (.done)))))))))))))))))))))))))))))))))))))))) [s.nx] (by kernel_rfl) (by kernel_rfl) fun K hK=>?_;refine dr (J5 rTI @h1 @k1 @gb @c1) ?_;refine hK _ _ ?_;clear hK K
        refine go (cj rTI @h1) ?_
        exact fr
      ·rw[decide_eq_false (fun x=>c1 x.1)]
       refine aw_seq ?_
       refine aw_drw (.take 0 (.take 1 (.take 2 (.take 3 (.take 4 (.take 5 (.take 6 (.take 7 (.take 8 (.take 9 (.take 10 (.take 11 (.take 12 (.take 13 (.take 14 (.take 15 (.take 16 (.take 17 (.take 18 (.take 19 (.take 20 (.take 21 (.take 22 (.take 23 (.take 24 (.take 25 (.take 26 (.take 27 (.take 28 (.take 29 (.take 30 (.take 31 (.take 32 (.take 33 (.take 34 (.take 35 (.take 36 (.take 37 (.take 38 (.done)))))))))))))))))))))))))))))))))))))))) [s.nx] (by kernel_rfl) (by kernel_rfl) fun K hK=>?_;refine dr (J4 rTI @h1 @k1 @gb) ?_;refine hK _ _ ?_;clear hK K
       refine go (cj rTI @h1) ?_
       exact fr
     rw[if_neg q2]
     by_cases q3:kd=3
     ·rw[if_pos q3]
      subst q3
      refine go (J6 rTI @h1 @k1 @k21 @k22 @gb) ?_
      refine ifs ?_ ?_ <;> first | exact nope | intro hb
      refine go (J6 rTI @h1 @k1 @k21 @k22 @gb) ?_
      refine ifs ?_ ?_ <;> first | exact nope | intro hb
      refine go (cj rTI @h1) ?_
      refine ifs ?_ ?_ <;> first | exact nope | intro hb
      refine go (cj rTI @h1) ?_
      refine ifs ?_ ?_ <;> first | exact nope | intro hb
      refine go (cj rTI @h1) ?_
      refine aw_loop (fun m e2 s2=>∃ j,m=S.length-j∧j≤S.length∧e2.n=145∧e2.m 1=.ptr s.nx 0∧e2.m 7=.v (.int .i64 ((j:Int)+1))∧(∀ i,i<j→i+1<S.length→S.getD i 0<S.getD (i+1) 0)∧s2=s'') S.length ?_ ?_
      ·refine⟨0,by omega,by omega,?_,?_,?_,fun i hi=>by omega,?_⟩
       all_goals ((first | refine rn (J3 rTI @h1 @k1) ?_ | exact rn0 (J3 rTI @h1 @k1)))
       all_goals (first | rfl | trivial)
      ·clear h1 k1 k20 k21 k22
       rintro m e2 s2 ⟨j,rfl,hj,h1,k1,k7,hr,rfl⟩
       by_cases hj2:j+1<S.length
       ·have f1:=hd_IL S (j+1) hj2
        have f2:=hd_IL S j (by omega)
        have hnr:=rising_not S j hj2
        have hpr:S.getD j 0<S.getD (j+1) 0→∀ i,i<j+1→i+1<S.length→S.getD i 0<S.getD (i+1) 0:=fun h i hi hi2=>by
         by_cases q:i=j
         ·subst q;exact h
         ·exact hr i (by omega) hi2
        clear hr
        unfold iv at f1 f2
        generalize S.getD (j+1) 0=x1 at *
        generalize S.getD j 0=x0 at *
        have hj3:(j:Int)+1-1=(j:Int):=by omega
        have hj4:((j:Int)+1).toNat=j+1:=by omega
        refine go (J5 rTI @h1 @k1 @k7 @gb) ?_
        refine ifs ?_ ?_ <;> first | exact nope | intro hb
        refine aw_skip ?_
        refine go rTI ?_
        refine aw_drw (.take 0 (.take 1 (.take 2 (.take 3 (.take 4 (.take 5 (.take 6 (.take 7 (.take 8 (.take 9 (.take 10 (.take 11 (.done))))))))))))) [s.nx] (by kernel_rfl) (by kernel_rfl) fun K hK=>?_;refine dr (J9 rTI @h1 @k1 @k7 @gb @f1 @f2 @hj3 @hj4) ?_;refine hK _ _ ?_;clear hK K
        by_cases c:x1≤x0
        ·refine ifs ?_ ?_ <;> first | exact nope | intro hb
         rw[hnr (by omega),Bool.false_and]
         refine go (cj rTI @h1) ?_
         exact fr
        ·refine ifs ?_ ?_ <;> first | exact nope | intro hb
         have hp2:=hpr (by omega)
         refine go (J3 rTI @h1 @k7) ?_
         try simp only[block_normal,loop_normal]
         refine⟨S.length-(j+1),by omega,j+1,rfl,by omega,?_,?_,?_,hp2,?_⟩
         all_goals ((first | refine rn (J4 rTI @h1 @k1 @k7) ?_ | exact rn0 (J4 rTI @h1 @k1 @k7)))
         all_goals (first | rfl | trivial)
       ·have hR:rising S=true:=rising_of S fun i hi=>hr i (by omega) hi
        rw[hR,Bool.true_and]
        refine go (J5 rTI @h1 @k1 @k7 @gb) ?_
        refine ifs ?_ ?_ <;> first | exact nope | intro hb
        have hb4:decide (V.length=S.length∧1≤V.length∧V.length≤16)=(decide (V.length=S.length)&&(decide (1≤V.length)&&decide (V.length≤16))):=by rw[Bool.decide_and,Bool.decide_and]
        rw[hb4]
        rcases (by omega:¬V.length=S.length∨(V.length=S.length∧V.length<1)∨(V.length=S.length∧16<V.length)∨(V.length=S.length∧1≤V.length∧V.length≤16)) with c | ⟨c1,c2⟩ | ⟨c1,c2⟩ | ⟨c1,c2,c3⟩
        ·rw[decide_eq_false c,Bool.false_and]
         refine go (J4 rTI @h1 @k1 @gb) ?_
         exact fr
        ·rw[decide_eq_true c1,decide_eq_false (by omega:¬1≤V.length),Bool.false_and,Bool.and_false]
         refine go (J4 rTI @h1 @k1 @gb) ?_
         exact fr
        ·rw[decide_eq_true c1,decide_eq_false (by omega:¬V.length≤16),Bool.and_false,Bool.and_false]
         refine go (J4 rTI @h1 @k1 @gb) ?_
         exact fr
        ·rw[decide_eq_true c1,decide_eq_true c2,decide_eq_true c3]
         refine go (J4 rTI @h1 @k1 @gb) ?_
         exact fr
     rw[if_neg q3]
     by_cases q4:kd=4
     ·rw[if_pos q4]
      subst q4
      have hb4:decide (1≤V.length∧V.length≤16∧S.length=0)=(decide (1≤V.length)&&(decide (V.length≤16)&&decide (S.length=0))):=by rw[Bool.decide_and,Bool.decide_and]
      rw[hb4]
      rcases (by omega:V.length<1∨16<V.length∨(1≤V.length∧V.length≤16∧S.length=0)∨(1≤V.length∧V.length≤16∧¬S.length=0)) with c | c | ⟨c1,c2,c3⟩ | ⟨c1,c2,c3⟩
      ·rw[decide_eq_false (by omega:¬1≤V.length),Bool.false_and]
       refine go (J6 rTI @h1 @k1 @k21 @k22 @gb) ?_
       refine ifs ?_ ?_ <;> first | exact nope | intro hb
       refine go (J6 rTI @h1 @k1 @k21 @k22 @gb) ?_
       refine ifs ?_ ?_ <;> first | exact nope | intro hb
       refine go (cj rTI @h1) ?_
       refine ifs ?_ ?_ <;> first | exact nope | intro hb
       refine go (cj rTI @h1) ?_
       refine ifs ?_ ?_ <;> first | exact nope | intro hb
       refine go (cj rTI @h1) ?_
       refine ifs ?_ ?_ <;> first | exact nope | intro hb
       refine go (J4 rTI @h1 @k1 @gb) ?_
       exact fr
      ·rw[decide_eq_false (by omega:¬V.length≤16),Bool.false_and,Bool.and_false]
       refine go (J6 rTI @h1 @k1 @k21 @k22 @gb) ?_
       refine ifs ?_ ?_ <;> first | exact nope | intro hb
       refine go (J6 rTI @h1 @k1 @k21 @k22 @gb) ?_
       refine ifs ?_ ?_ <;> first | exact nope | intro hb
       refine go (cj rTI @h1) ?_
       refine ifs ?_ ?_ <;> first | exact nope | intro hb
       refine go (cj rTI @h1) ?_
       refine ifs ?_ ?_ <;> first | exact nope | intro hb
       refine go (cj rTI @h1) ?_
       refine ifs ?_ ?_ <;> first | exact nope | intro hb
       refine go (J4 rTI @h1 @k1 @gb) ?_
       exact fr
      ·rw[decide_eq_true c1,decide_eq_true c2,decide_eq_true c3]
       refine go (J6 rTI @h1 @k1 @k21 @k22 @gb) ?_
       refine ifs ?_ ?_ <;> first | exact nope | intro hb
       refine go (J6 rTI @h1 @k1 @k21 @k22 @gb) ?_
       refine ifs ?_ ?_ <;> first | exact nope | intro hb
       refine go (cj rTI @h1) ?_
       refine ifs ?_ ?_ <;> first | exact nope | intro hb
       refine go (cj rTI @h1) ?_
       refine ifs ?_ ?_ <;> first | exact nope | intro hb
       refine go (cj rTI @h1) ?_
       refine ifs ?_ ?_ <;> first | exact nope | intro hb
       refine go (J4 rTI @h1 @k1 @gb) ?_
       exact fr
      ·rw[decide_eq_true c1,decide_eq_true c2,decide_eq_false c3]
       refine go (J6 rTI @h1 @k1 @k21 @k22 @gb) ?_
       refine ifs ?_ ?_ <;> first | exact nope | intro hb
       refine go (J6 rTI @h1 @k1 @k21 @k22 @gb) ?_
       refine ifs ?_ ?_ <;> first | exact nope | intro hb
       refine go (cj rTI @h1) ?_
       refine ifs ?_ ?_ <;> first | exact nope | intro hb
       refine go (cj rTI @h1) ?_
       refine ifs ?_ ?_ <;> first | exact nope | intro hb
       refine go (cj rTI @h1) ?_
       refine ifs ?_ ?_ <;> first | exact nope | intro hb
       refine go (J4 rTI @h1 @k1 @gb) ?_
       exact fr
     rw[if_neg q4]
     refine go (J6 rTI @h1 @k1 @k21 @k22 @gb) ?_
     refine ifs ?_ ?_ <;> first | exact nope | intro hb
     refine go (J6 rTI @h1 @k1 @k21 @k22 @gb) ?_
     refine ifs ?_ ?_ <;> first | exact nope | intro hb
     refine go (cj rTI @h1) ?_
     refine ifs ?_ ?_ <;> first | exact nope | intro hb
     refine go (cj rTI @h1) ?_
     refine ifs ?_ ?_ <;> first | exact nope | intro hb
     refine go (cj rTI @h1) ?_
     refine ifs ?_ ?_ <;> first | exact nope | intro hb
     refine go (cj rTI @h1) ?_
     exact fr
end CardH
namespace CardQ
open NumS RefM CardS NumH CardP
theorem zipM_parts:∀ (x:Str) (vs gs:List Num),vs.length=gs.length→evens (x::zipM vs gs)=x::gs.map textN∧odds (x::zipM vs gs)=vs.map textN∧(zipM vs gs).length=2*vs.length
 | x,[],[],_=>⟨rfl,rfl,rfl⟩
 | x,v::vs,g::gs,h=>by
  obtain⟨q1,q2,q3⟩:=zipM_parts (textN g) vs gs (by simpa using h)
  refine⟨?_,?_,?_⟩
  ·show x::evens (textN g::zipM vs gs)=_
   rw[q1]
   rfl
  ·show textN v::odds (textN g::zipM vs gs)=_
   rw[q2]
   rfl
  ·show (zipM vs gs).length+1+1=_
   rw[q3,List.length_cons]
   omega
 | _,[],_::_,h=>by simp at h
 | _,_::_,[],h=>by simp at h
theorem zipM_err:∀ (vs gs:List Num) (e:Int),vs.all valid=true→gs.all valid=true→numsE (zipM vs gs) e=e
 | [],_,_,_,_=>rfl
 | _::_,[],_,_,_=>rfl
 | v::vs,g::gs,e,hv,hg=>by
  rw[List.all_cons,Bool.and_eq_true] at hv hg
  show numsE (zipM vs gs) (numE (textN g) (numE (textN v) e))=e
  rw[(text_read v hv.1).2,(text_read g hg.1).2]
  exact zipM_err vs gs e hv.2 hg.2
theorem all_text (l:List Num) (h:l.all valid=true):(l.map textN).map numV=l:=(nums_text l 0 h).2
theorem model_back (m:Mdl) (h:modelOk m=true):readM (modelT m)=(m,0):=by
 have h0:=h
 unfold modelOk at h
 simp only[Bool.and_eq_true] at h
 obtain⟨⟨⟨h1,h2⟩,h3⟩,h4⟩:=h
 obtain⟨nm,k,g,v⟩:=m
 simp only at h1 h2 h3 h4
 have hk:(k=115∧g.length=2∧v.length=1)∨(k=100∧1≤g.length∧g.length≤4∧v.length+1=g.length):=by
  by_cases k1:k=115
  ·rw[if_pos k1,decide_eq_true_iff] at h4
   exact .inl ⟨k1,h4⟩
  ·rw[if_neg k1] at h4
   by_cases k2:k=100
   ·rw[if_pos k2,Bool.and_eq_true,decide_eq_true_iff] at h4
    exact .inr ⟨k2,h4.1⟩
   ·rw[if_neg k2] at h4
    cases h4
 match g,h2 with
 | [],_=>simp at hk
 | g0::gs,h2=>
  rw[List.all_cons,Bool.and_eq_true] at h2
  have hl:v.length=gs.length:=by simp only[List.length_cons] at hk;omega
  obtain⟨q1,q2,q3⟩:=zipM_parts (textN g0) v gs hl
  obtain⟨q4,q5⟩:=text_read g0 h2.1
  have hm:modelT ⟨nm,k,g0::gs,v⟩=sModel::nm::[k.toNat]::textN g0::zipM v gs:=rfl
  have he:numsE (textN g0::zipM v gs) 0=0:=by
   show numsE (zipM v gs) (numE (textN g0) 0)=0
   rw[q5]
   exact zipM_err v gs 0 h3 h2.2
  unfold readM
  rw[hm]
  simp only[List.getD_cons_zero,List.getD_cons_succ,List.drop_succ_cons,List.drop_zero,List.length_cons]
  have hkk:([k.toNat]:Str)=[100]∨([k.toNat]:Str)=[115]:=by
   rcases hk with ⟨rfl,_⟩ | ⟨rfl,_⟩
   ·exact .inr rfl
   ·exact .inl rfl
  have hkn:((k.toNat:Nat):Int)=k:=by
   rcases hk with ⟨rfl,_⟩ | ⟨rfl,_⟩ <;> rfl
  rw[if_pos (by
   refine⟨by omega,trivial,hkk,?_,?_,fun q=>?_⟩
   ·rw[q3];omega
   ·rw[q3]
    simp only[List.length_cons] at hk
    omega
   ·rw[q3]
    injection q with q _
    simp only[List.length_cons] at hk
    omega),if_pos h1]
  rw[q1,q2,he]
  rw[if_neg (by decide),List.map_cons,all_text _ h2.2,all_text _ h3,q4,hkn,if_pos h0]
theorem readM_right (l:List Str) (m:Mdl) (h:readM l=(m,0)):modelOk m=true:=by
 unfold readM at h
 simp only at h
 split at h
 ·split at h
  ·split at h
   ·rename_i q
    exact absurd (congrArg Prod.snd h) q
   ·split at h
    ·rename_i q
     have e:=congrArg Prod.fst h
     simp only at e
     rw[←e]
     exact q
    ·exact absurd (congrArg Prod.snd h) (show ¬(50:Int)=0 by decide)
  ·exact absurd (congrArg Prod.snd h) (show ¬(71:Int)=0 by decide)
 ·exact absurd (congrArg Prod.snd h) (show ¬(70:Int)=0 by decide)
end CardQ
namespace CardI
open Go Go.RowKit Ax Ti NumS NumT CardS CardP CardA CardB CardC CardD CardE CardF CardG CardH
open NumA (NM)
theorem rTI:type_of% (J20 @ti3 @ti4 @ti9 @ti5 @ti2 @ti43 @ti45 @ti44 @ti23 @ti47 @ti49 @ti31 @ti142 @ti144 @Nat.zero_add @tz0 @tz1 @tz3 @Nat.mul_one @Int.toNat_natCast):=cj @ti3 (J19 @ti4 @ti9 @ti5 @ti2 @ti43 @ti45 @ti44 @ti23 @ti47 @ti49 @ti31 @ti142 @ti144 @Nat.zero_add @tz0 @tz1 @tz3 @Nat.mul_one @Int.toNat_natCast)
def CA (c:Crd):AV:=.ag [SV c.name,TV c.nodes,SV c.ref,iv c.value.1,iv c.value.2,iv c.wave.kind,NV c.wave.vals,IV c.wave.steps]
def RA (p:Crd × Int):AV:=.tp [CA p.1,iv p.2]
theorem ca_idf (c:Crd):idf (CA c)=true:=by
 show (true&&(idf (TV c.nodes)&&(true&&(true&&(true&&(true&&(idf.idfL (NC c.wave.vals)&&(idf.idfL (IL c.wave.steps)&&true))))))))=true
 rw[nc_idf,il_idf,tv_idf]
 rfl
theorem ra_idf (p:Crd × Int):idf (RA p)=true:=by
 show (idf (CA p.1)&&(true&&true))=true
 rw[ca_idf]
 rfl
def cz:List AV:=[.v (.string ByteArray.empty),nilS,.v (.string ByteArray.empty),.v (.int .i64 0),.v (.int .i64 0),.v (.int .i64 0),nilS,nilS]
theorem ra_err (e:Int):Le (.tp [.ag cz,.v (.int .i64 e)]) (RA (crd0,e)):=by
 refine Le.tp rfl fun j x y hx hy=>?_
 match j with
 | 0=>
  simp at hx hy;subst hx hy
  refine Le.ag rfl fun j x y hx hy=>?_
  match j with
  | 0=>simp [cz] at hx hy;subst hx hy;exact Le.refl _
  | 1=>simp [cz,nilS] at hx hy;subst hx hy;exact Le.nil 0 0 rfl
  | 2=>simp [cz] at hx hy;subst hx hy;exact Le.refl _
  | 3=>simp [cz] at hx hy;subst hx hy;exact Le.refl _
  | 4=>simp [cz] at hx hy;subst hx hy;exact Le.refl _
  | 5=>simp [cz] at hx hy;subst hx hy;exact Le.refl _
  | 6=>simp [cz,nilS] at hx hy;subst hx hy;exact Le.nil 0 0 rfl
  | 7=>simp [cz,nilS] at hx hy;subst hx hy;exact Le.nil 0 0 rfl
  | j+8=>simp [cz] at hx
 | 1=>simp at hx hy;subst hx hy;exact Le.refl _
 | j+2=>simp at hx
theorem ra_le (c:Crd) (X Y:AV) (hX:Le X (NV c.wave.vals)) (hY:Le Y (IV c.wave.steps)) :
  Le (.tp [.ag [SV c.name,TV c.nodes,SV c.ref,.v (.int .i64 c.value.1),.v (.int .i64 c.value.2),.v (.int .i64 c.wave.kind),X,Y],.v (.int .i64 0)]) (RA (c,0)):=by
 refine Le.tp rfl fun j x y hx hy=>?_
 match j with
 | 0=>
  simp at hx hy;subst hx hy
  refine Le.ag rfl fun j x y hx hy=>?_
  match j with
  | 0=>simp at hx hy;subst hx hy;exact Le.refl _
  | 1=>simp at hx hy;subst hx hy;exact Le.refl _
  | 2=>simp at hx hy;subst hx hy;exact Le.refl _
  | 3=>simp at hx hy;subst hx hy;exact Le.refl _
  | 4=>simp at hx hy;subst hx hy;exact Le.refl _
  | 5=>simp at hx hy;subst hx hy;exact Le.refl _
  | 6=>simp at hx hy;subst hx hy;exact hX
  | 7=>simp at hx hy;subst hx hy;exact hY
  | j+8=>simp at hx
 | 1=>simp at hx hy;subst hx hy;exact Le.refl _
 | j+2=>simp at hx
theorem odds_len:∀ (l:List Str),(odds l).length≤l.length
 | []=>Nat.le_refl _
 | [_]=>Nat.zero_le _
 | _::b::r=>by
  show (b::odds r).length≤_
  have:=odds_len r
  rw[List.length_cons,List.length_cons,List.length_cons]
  omega
theorem evens_len:∀ (l:List Str),(evens l).length≤l.length
 | []=>Nat.le_refl _
 | [_]=>Nat.le_refl _
 | a::_::r=>by
  show (a::evens r).length≤_
  have:=evens_len r
  rw[List.length_cons,List.length_cons,List.length_cons]
  omega
theorem wave_len (ws:List Str) (e:Int):(waveR ws e).1.vals.length≤ws.length+1∧(waveR ws e).1.steps.length≤ws.length:=by
 cases ws with
 | nil=>exact⟨Nat.zero_le _,Nat.le_refl _⟩
 | cons k r=>
  have h1:=odds_len r
  have h2:=evens_len r
  unfold waveR
  simp only
  (repeat' split) <;> simp only[List.length_map,List.length_take,List.length_drop,List.length_cons,List.length_nil] <;> omega
structure CI (s s':St) (c:List AV):Prop where
 z:s'.get s.nx=some cz
 c:s'.get (s.nx+1)=some c
 n:s.nx+2≤s'.nx
 fr:∀ i,i<s.nx→s'.get i=s.get i
theorem ci_new (s:St) (z c:List AV):CI s (((s.push cz).push z).set (s.nx+1) c) c:=by
 refine⟨?_,St.set_same _ _ _,Nat.le_refl _,fun i hi=>?_⟩
 ·rw[St.set_ne _ _ _ _ (by omega),St.push_ne (s.push cz) _ _ (by rw[St.nx_push];omega)]
  exact St.push_same s cz
 ·rw[St.set_ne _ _ _ _ (by omega),St.push_ne (s.push cz) _ _ (by rw[St.nx_push];omega),St.push_ne s _ _ (by omega)]
structure CR (s s':St) (b:Nat) (c:List AV) (ws:List Str) (e:Int):Prop where
 z:s'.get s.nx=some cz
 c:s'.get (s.nx+1)=some c
 r:s'.get b=some (rdr ws e)
 o:s.nx+2≤b∧b<s'.nx
 fr:∀ i,i<s.nx→s'.get i=s.get i
theorem CR.of {s s':St} {c:List AV} (h:CI s s' c) (ws:List Str) (e:Int):CR s (s'.push (rdr ws e)) s'.nx c ws e:=by
 have:=h.n
 refine⟨?_,?_,St.push_same _ _,⟨h.n,Nat.lt_succ_self _⟩,fun i hi=>?_⟩
 ·rw[St.push_ne _ _ _ (by omega)];exact h.z
 ·rw[St.push_ne _ _ _ (by omega)];exact h.c
 ·rw[St.push_ne _ _ _ (by omega)];exact h.fr i hi
theorem CR.upd {s s':St} {b:Nat} {c:List AV} {ws:List Str} {e:Int} (h:CR s s' b c ws e) (ws2:List Str) (e2:Int):CR s (s'.set b (rdr ws2 e2)) b c ws2 e2:=by
 have:=h.o
 refine⟨?_,?_,St.set_same _ _ _,⟨h.o.1,h.o.2⟩,fun i hi=>?_⟩
 ·rw[St.set_ne _ _ _ _ (by omega)];exact h.z
 ·rw[St.set_ne _ _ _ _ (by omega)];exact h.c
 ·rw[St.set_ne _ _ _ _ (by omega)];exact h.fr i hi
theorem CR.put {s s':St} {b:Nat} {c:List AV} {ws:List Str} {e:Int} (h:CR s s' b c ws e) (c2:List AV):CR s (s'.set (s.nx+1) c2) b c2 ws e:=by
 have:=h.o
 refine⟨?_,St.set_same _ _ _,?_,⟨h.o.1,h.o.2⟩,fun i hi=>?_⟩
 ·rw[St.set_ne _ _ _ _ (by omega)];exact h.z
 ·rw[St.set_ne _ _ _ _ (by omega)];exact h.r
 ·rw[St.set_ne _ _ _ _ (by omega)];exact h.fr i hi
theorem shape_few (k:Nat):(shapeK k).1≤4:=by unfold shapeK;(repeat' split) <;> decide
theorem counted_form (k:Nat) (w0:Str) (r:List Str) (h:counted k (w0::r)=true) :
  (formOf k (r.length+1)).1+(if (formOf k (r.length+1)).2.1=true then 1 else 0)+(if (formOf k (r.length+1)).2.2=true then 1 else 0)≤r.length∧(formOf k (r.length+1)).1≤8 ∧
  (srcC k=true→formOf k (r.length+1)=(2,false,false)∧waveWords (r.drop 2)=true):=by
 unfold counted at h
 unfold formOf
 by_cases h1:k=120
 ·rw[if_pos h1,decide_eq_true_eq,List.length_cons] at h
  rw[if_pos h1]
  refine⟨by simp;omega,by simp;omega,fun hs=>?_⟩
  subst h1
  cases hs
 ·rw[if_neg h1] at h
  rw[if_neg h1]
  by_cases h2:k=118∨k=105
  ·rw[if_pos h2,Bool.and_eq_true,decide_eq_true_eq,List.length_cons] at h
   have hs:shapeK k=(2,false,false):=by rcases h2 with rfl | rfl <;> rfl
   rw[hs]
   exact⟨by simp;omega,by decide,fun _=>⟨rfl,h.2⟩⟩
  ·rw[if_neg h2,decide_eq_true_eq,List.length_cons] at h
   have:=shape_few k
   unfold want at h
   refine⟨by omega,by omega,fun hs=>?_⟩
   unfold srcC at hs
   exact absurd (of_decide_eq_true hs) h2
theorem read_ax (ws:List Str) (hw:BL ws) (hwl:∀ w∈ws,w.length≤281474976710656) (hl:ws.length≤10000):PCall Tryz.prog 58 [TV ws] (RA (readC ws)):=by
 refine pcall_le fun s=>?_
 cases ws with
 | nil=>
  rw[show readC []=(crd0,70) from rfl]
  unfold TV
  refine acall_of Tryz.func58 rfl rfl (by simp [Tryz.ntmps58]) ?_;rw[Tryz.ntmps58,Tryz.results58]
  refine go rTI ?_
  refine ifs ?_ ?_ <;> first | exact nope | intro hb
  refine go rTI ?_
  exact⟨ra_err 70,ra_idf _,fun i hi=>if_neg (by omega)⟩
 | cons w0 r=>
  rw[show readC (w0::r)=readB w0 r (w0.getD 0 0) (formOf (w0.getD 0 0) (r.length+1)) from rfl]
  have b0:By w0:=hw w0 (List.mem_cons_self ..)
  have hd:=dev_ax w0 b0 (by have:=hwl w0 (List.mem_cons_self ..);omega)
  have hd0:(SL (w0::r)).head?=some (.v (.string (bs w0))):=rfl
  have lS:=bs_size w0
  have hg:=bs_get w0 b0 0
  have hct:=counted_ax (w0.getD 0 0) (w0::r) hw (by omega)
  have hz:(((r.length+1:Nat):Int)==0)=false:=by simp;omega
  unfold TV SV at *
  rw[List.length_cons] at hct ⊢
  unfold readB
  cases hv:isDev w0 with
  | false=>
   rw[hv] at hd
   rw[Bool.false_and,if_neg Bool.false_ne_true]
   refine acall_of Tryz.func58 rfl rfl (by simp [Tryz.ntmps58]) ?_;rw[Tryz.ntmps58,Tryz.results58]
   refine go rTI ?_
   refine aw_reg fun K hK=>?_;refine rn (J3 rTI @hz @hd0) ?_;refine cont_pure hd ?_;refine rn (J3 rTI @hz @hd0) ?_;refine hK _ _ ?_;clear hK K
   refine ifs ?_ ?_ <;> first | exact nope | intro hb
   refine go rTI ?_
   exact⟨ra_err 70,ra_idf _,fun i hi=>if_neg (by omega)⟩
  | true=>
   rw[hv] at hd
   have hp:0<w0.length:=name_pos w0 (by unfold isDev at hv;rw[Bool.and_eq_true] at hv;exact hv.1)
   cases hv2:counted (w0.getD 0 0) (w0::r) with
   | false=>
    rw[hv2] at hct
    rw[Bool.and_false,if_neg Bool.false_ne_true]
    generalize w0.getD 0 0=k at *
    refine acall_of Tryz.func58 rfl rfl (by simp [Tryz.ntmps58]) ?_;rw[Tryz.ntmps58,Tryz.results58]
    refine go rTI ?_
    refine aw_reg fun K hK=>?_;refine rn (J5 rTI @hz @hd0 @lS @hg) ?_;refine cont_pure hd ?_;refine rn (J5 rTI @hz @hd0 @lS @hg) ?_;refine cont_pure hct ?_;refine rn (J5 rTI @hz @hd0 @lS @hg) ?_;refine hK _ _ ?_;clear hK K
    refine ifs ?_ ?_ <;> first | exact nope | intro hb
    refine go rTI ?_
    exact⟨ra_err 70,ra_idf _,fun i hi=>if_neg (by omega)⟩
   | true=>
    rw[hv2] at hct
    rw[Bool.and_true,if_pos rfl]
    refine acall_of Tryz.func58 rfl rfl (by simp [Tryz.ntmps58]) ?_;rw[Tryz.ntmps58,Tryz.results58]
    refine go rTI ?_
    refine aw_reg fun K hK=>?_;refine rn (J5 rTI @hz @hd0 @lS @hg) ?_;refine cont_pure hd ?_;refine rn (J5 rTI @hz @hd0 @lS @hg) ?_;refine cont_pure hct ?_;refine rn (J5 rTI @hz @hd0 @lS @hg) ?_;refine hK _ _ ?_;clear hK K
    refine ifs ?_ ?_ <;> first | exact nope | intro hb
    refine go (J4 rTI @hd0 @lS @hg) ?_
    have hsh:=shape_ax (w0.getD 0 0)
    unfold shapeV at hsh
    generalize w0.getD 0 0=k at *
    refine aw_reg fun K hK=>?_;refine rn rTI ?_;refine cont_pure hsh ?_;refine rn rTI ?_;refine hK _ _ ?_;clear hK K
    refine go rTI ?_
    have hf:formOf k (r.length+1)=if k=120 then (r.length+1-2,true,false) else shapeK k:=rfl
    have h3:k=120→3≤r.length+1:=fun h=>by
     unfold counted at hv2
     rw[if_pos h,decide_eq_true_eq] at hv2
     exact hv2.1
    have hcf:=counted_form k w0 r hv2
    generalize formOf k (r.length+1)=f at *
    obtain⟨fa,fb,fc⟩:=f
    simp only at hcf
    refine aw_only (fun e' s'=>e'.n=151∧e'.m 0=.sl (r.length+1) (SL (w0::r))∧e'.m 2=.ptr s.nx 0∧e'.m 4=.v (.int .u8 (k:Nat))∧e'.m 5=.v (.int .i64 (fa:Nat))∧e'.m 6=.v (.bool fb)∧e'.m 7=.v (.bool fc)∧s'=s.push cz) ?_ ?_
    ·by_cases hk:k=120
     ·rw[if_pos hk] at hf
      simp only[Prod.mk.injEq] at hf
      obtain⟨rfl,rfl,rfl⟩:=hf
      subst hk
      have h4:=h3 rfl
      have e2:((r.length+1:Nat):Int)-2=((r.length+1-2:Nat):Int):=by omega
      refine ifs ?_ ?_ <;> first | exact nope | intro hb
      refine go (cj rTI @e2) ?_
      (repeat' refine And.intro ?_ ?_) <;> first | exact rfl | exact fnz (cj rTI @e2) | skip
      all_goals (first | rfl | skip)
     ·rw[if_neg hk] at hf
      rw[←hf] at hsh
      have hk2:¬(k:Int)=120:=by omega
      refine ifs ?_ ?_ <;> first | exact nope | intro hb
      refine go rTI ?_
      rw[←hf]
      exact⟨rfl,rfl,rfl,rfl⟩
    ·rintro e' s' ⟨h1,k0,k2,k4,k5,k6,k7,rfl⟩
     rw[then_normal]
     clear hsh hf h3 hd hct
     obtain⟨c1,c2,c3⟩:=hcf
     have hcl3:=c1
     have hfa:fa≤r.length:=by omega
     have hcl0:=clone_ax (r.take fa) (by rw[List.length_take];omega)
     have htk:AV.sl fa ((SL r).take fa)=TV (r.take fa):=by
      unfold TV SL
      rw[←List.map_take,List.length_take,Nat.min_eq_left hfa]
     have hcl:PCall Tryz.prog 96 [AV.sl (fa+1-1) ((SL r).take (fa+1-1))] (.sl fa ((SL r).take fa)):=by
      rw[Nat.add_sub_cancel,htk]
      exact hcl0
     have hi1:((1:Int)+(fa:Int))=((fa+1:Nat):Int):=by omega
     have hdr:(SL (w0::r)).drop 1=SL r:=rfl
     refine aw_seq ?_
     refine aw_only (fun e2 s2=>e2.n=151∧e2.m 0=.sl (r.length+1) (SL (w0::r))∧e2.m 2=.ptr s.nx 0∧e2.m 4=.v (.int .u8 (k:Nat))∧e2.m 5=.v (.int .i64 (fa:Nat))∧e2.m 6=.v (.bool fb)∧e2.m 7=.v (.bool fc)∧e2.m 8=.ptr (s.nx+1) 0∧CI s s2 [.v (.string (bs w0)),.sl fa ((SL r).take fa),.v (.string ByteArray.empty),.v (.int .i64 0),.v (.int .i64 0),.v (.int .i64 0),nilS,nilS]) ?_ ?_
     ·refine aw_drw (.take 0 (.take 1 (.take 2 (.take 3 (.take 4 (.take 5 (.take 6 (.two 7 (.take 8 (.one 9 (.one 10 (.done)))) 9 (.one 7 (.take 8 (.one 10 (.done)))))))))))) [] (by kernel_rfl) (by kernel_rfl) fun K hK=>?_;refine dr (J7 rTI @h1 @k0 @k5 @hd0 @hi1 @hdr) ?_;refine⟨cont_pure hcl ?_,cont_pure hcl ?_⟩;all_goals (refine dr (J7 rTI @h1 @k0 @k5 @hd0 @hi1 @hdr) ?_;refine hK _ _ ⟨rfl,?_,?_,?_,?_,?_,?_,?_,?_,?_⟩);all_goals (first | exact ci_new s _ _ | skip)
      all_goals (exact rn0 (J7 @h1 @k0 @k2 @k4 @k5 @k6 @k7))
      all_goals trivial
     clear h1 k0 k2 k4 k5 k6 k7 hcl hcl0 hi1 hdr hd0 hg lS
     rintro e2 s2 ⟨h1,k0,k2,k4,k5,k6,k7,k8,hC⟩
     rw[then_normal]
     have gc:=hC.c
     have gz:s2.get s.nx=some [.v (.string ByteArray.empty),.v (.slice none 0 0),.v (.string ByteArray.empty),.v (.int .i64 0),.v (.int .i64 0),.v (.int .i64 0),.v (.slice none 0 0),.v (.slice none 0 0)]:=hC.z
     refine go (J4 rTI @h1 @k8 @gc) ?_
     refine aw_loop (fun m e3 s3=>∃ j,m=fa-j∧j≤fa∧e3.n=151∧e3.m 0=.sl (r.length+1) (SL (w0::r))∧e3.m 2=.ptr s.nx 0∧e3.m 4=.v (.int .u8 (k:Nat))∧e3.m 5=.v (.int .i64 (fa:Nat))∧e3.m 6=.v (.bool fb)∧e3.m 7=.v (.bool fc)∧e3.m 8=.ptr (s.nx+1) 0∧e3.m 58=.sl fa ((SL r).take fa)∧e3.m 59=.v (.int .i64 (fa:Nat))∧e3.m 60=.v (.int .i64 (j:Nat))∧((r.take fa).take j).all isName=true∧s3=s2) fa ?_ ?_
     ·refine⟨0,by omega,by omega,?_⟩
      (repeat' refine And.intro ?_ ?_) <;> first | exact rfl | exact fnz (J9 rTI @h1 @k0 @k2 @k4 @k5 @k6 @k7 @k8) | skip
     ·clear h1 k0 k2 k4 k5 k6 k7 k8
      rintro m e3 s3 ⟨j,rfl,hj,h1,k0,k2,k4,k5,k6,k7,k8,k58,k59,k60,ha,rfl⟩
      have hlt:(r.take fa).length=fa:=by rw[List.length_take];omega
      by_cases hj2:j<fa
      ·have f1:=hd_SL (r.take fa) j (by omega)
       rw[show SL (r.take fa)=(SL r).take fa from by unfold SL;rw[List.map_take]] at f1
       have hx:(r.take fa).getD j []∈r:=by
        rw[List.getD_eq_getElem?_getD,List.getElem?_eq_getElem (by omega)]
        exact List.mem_of_mem_take (List.getElem_mem _)
       have hnm:=cname_ax ((r.take fa).getD j []) (hw _ (List.mem_cons_of_mem _ hx)) (by have:=hwl _ (List.mem_cons_of_mem _ hx);omega)
       have ht:=take_all isName (r.take fa) [] j (by omega) ha
       have hf:=all_not isName (r.take fa) [] j (by omega)
       unfold SV at f1 hnm
       generalize (r.take fa).getD j []=x at *
       refine go (J4 rTI @h1 @k59 @k60) ?_
       refine ifs ?_ ?_ <;> first | exact nope | intro hb
       refine aw_skip ?_
       refine go (J5 rTI @h1 @k58 @k60 @f1) ?_
       refine aw_reg fun K hK=>?_;refine rn rTI ?_;refine cont_pure hnm ?_;refine rn rTI ?_;refine hK _ _ ?_;clear hK K
       cases hc:isName x with
       | false=>
        rw[if_neg (by rw[hf hc];exact Bool.false_ne_true)]
        refine ifs ?_ ?_ <;> first | exact nope | intro hb
        refine go (J4 rTI @h1 @k2 @gz) ?_
        exact⟨ra_err 71,ra_idf _,fun i hi=>by rw[if_neg (by omega)];exact hC.fr i hi⟩
       | true=>
        rw[hc] at ht
        refine ifs ?_ ?_ <;> first | exact nope | intro hb
        refine go (J3 rTI @h1 @k60) ?_
        simp only[block_normal,loop_normal]
        refine⟨fa-(j+1),by omega,j+1,rfl,by omega,?_,?_,?_,?_,?_,?_,?_,?_,?_,?_,?_,ht,trivial⟩
        all_goals ((first | refine rn (J12 rTI @h1 @k0 @k2 @k4 @k5 @k6 @k7 @k8 @k58 @k59 @k60) ?_ | exact rn0 (J12 rTI @h1 @k0 @k2 @k4 @k5 @k6 @k7 @k8 @k58 @k59 @k60)))
        all_goals (first | rfl | trivial)
      ·obtain rfl:fa=j:=by omega
       rw[List.take_of_length_le (by omega)] at ha
       rw[if_pos ha]
       refine go (J4 rTI @h1 @k59 @k60) ?_
       refine ifs ?_ ?_ <;> first | exact nope | intro hb
       clear hj hj2 k58 k59 k60 gc gz c1
       have htd:AV.sl (r.length+1-(1+(fa:Int)).toNat) (((SL (w0::r)).drop (1+(fa:Int)).toNat).take (r.length+1-(1+(fa:Int)).toNat))=TV (r.drop fa):=by
        have:=TV_drop (w0::r) (fa+1)
        rw[List.drop_succ_cons] at this
        rw[show (1+(fa:Int)).toNat=fa+1 by omega]
        exact this
       have hsrc:srcC k=true→fb=false∧fc=false∧waveWords (r.drop fa)=true:=fun h=>by
        obtain⟨q1,q2⟩:=c3 h
        simp only[Prod.mk.injEq] at q1
        obtain⟨rfl,rfl,rfl⟩:=q1
        exact⟨rfl,rfl,q2⟩
       have hN:(SL r).take fa=SL (r.take fa):=by unfold SL;rw[List.map_take]
       have hNl:(r.take fa).length=fa:=by rw[List.length_take];omega
       have hbd:BL (r.drop fa):=fun w h=>hw w (List.mem_cons_of_mem _ (List.mem_of_mem_drop h))
       have hbl:∀ w∈r.drop fa,w.length≤281474976710656:=fun w h=>hwl w (List.mem_cons_of_mem _ (List.mem_of_mem_drop h))
       have hDl:(r.drop fa).length=r.length-fa:=List.length_drop
       have hDn:(if fb=true then 1 else 0)+(if fc=true then 1 else 0)≤(r.drop fa).length:=by rw[hDl];omega
       have hDm:(r.drop fa).length≤10000:=by rw[hDl];rw[List.length_cons] at hl;omega
       have hR:=CR.of hC (r.drop fa) 0
       unfold badRef errC wvC errV valC refC restC
       simp only
       rw[hN] at hR
       unfold rdr iv TV at hR
       unfold TV at htd
       refine go (J6 rTI @h1 @k0 @k5 @k6 @htd) ?_
       clear htd hC
       generalize r.drop fa=D at *
       generalize r.take fa=N at *
       rw[then_normal]
       have hNN:AV.sl fa (SL N)=TV N:=by unfold TV;rw[hNl]
       clear htk hlt hN hNl hDl
       generalize s3.push [AV.sl D.length (SL D),AV.v (.int .i64 0)]=s4 at *
       generalize s3.nx=b at *
       obtain⟨ob1,ob2⟩:=hR.o
       have ob3:s.nx+1≠b:=by omega
       have ob4:s.nx≠b:=by omega
       generalize hrf:(if fb=true then D.headD [] else [])=rf
       generalize hD2:(if fb=true then D.drop 1 else D)=D2
       generalize hbad:(fb&&(!isName rf||decide (k=102∨k=104)&&decide (rf.getD 0 0≠118)))=bad
       refine aw_way (fun e4 s5=>e4.n=151∧e4.m 2=.ptr s.nx 0∧e4.m 4=.v (.int .u8 (k:Nat))∧e4.m 7=.v (.bool fc)∧e4.m 8=.ptr (s.nx+1) 0∧e4.m 11=.ptr b 0∧bad=false∧CR s s5 b [.v (.string (bs w0)),.sl fa (SL N),.v (.string (bs rf)),.v (.int .i64 0),.v (.int .i64 0),.v (.int .i64 0),nilS,nilS] D2 0) ?_ ?_
       ·cases fb with
        | false=>
         rw[if_neg Bool.false_ne_true] at hrf hD2
         subst hrf hD2
         refine ifs ?_ ?_ <;> first | exact nope | intro hb
         refine aw_skip ?_
         refine .inl ⟨rfl,?_,?_,?_,?_,?_,?_,hbad.symm,hR⟩
         all_goals (exact rn0 (J6 rTI @h1 @k2 @k4 @k7 @k8))
         all_goals trivial
        | true=>
         rw[if_pos rfl] at hrf hD2
         rw[if_pos rfl] at hDn
         match D,hDn with
         | [],q=>simp at q
         | w::D',hDn=>
          have hwB:By w:=hbd w (List.mem_cons_self ..)
          have hnx:=next_ax s4 b w D' 0 hR.r ob2 (by rw[List.length_cons] at hDm;omega)
          have hnm:=cname_ax w hwB (by have:=hbl w (List.mem_cons_self ..);omega)
          have gc:=hR.c
          have lS:=bs_size w
          have hg:=bs_get w hwB 0
          rw[show (w::D').headD []=w from rfl] at hrf
          rw[show (w::D').drop 1=D' from rfl] at hD2
          subst hrf hD2
          have hR2:=(hR.upd D' 0).put [.v (.string (bs w0)),.sl fa (SL N),.v (.string (bs w)),.v (.int .i64 0),.v (.int .i64 0),.v (.int .i64 0),nilS,nilS]
          have gz:=hR.z
          unfold cz at gz
          unfold rdr iv TV at hnx hR2
          unfold SV at hnx hnm
          unfold nilS at *
          rw[Bool.true_and] at hbad
          cases hn:isName w with
          | false=>
           rw[hn,Bool.not_false,Bool.true_or] at hbad
           rw[hn] at hnm
           subst hbad
           rw[if_pos rfl]
           refine ifs ?_ ?_ <;> first | exact nope | intro hb
           refine aw_seq ?_
           refine aw_reg fun K hK=>?_;refine rn (J3 rTI @k8 @gc) ?_;refine cont_go hnx ?_;rintro _ s5 ⟨rfl,rfl⟩;refine rn (J3 rTI @k8 @gc) ?_;refine hK _ _ ?_;clear hK K
           refine go (J3 rTI @k8 @gc) ?_
           refine aw_reg fun K hK=>?_;refine rn (J6 rTI @k4 @k8 @ob3 @ob4 @gc) ?_;refine cont_pure hnm ?_;refine rn (J6 rTI @k4 @k8 @ob3 @ob4 @gc) ?_;refine hK _ _ ?_;clear hK K
           refine ifs ?_ ?_ <;> first | exact nope | intro hb
           refine go (J8 rTI @h1 @k2 @k8 @ob3 @ob4 @gc @gz) ?_
           exact .inr ⟨ra_err 71,ra_idf _,fun i hi=>by rw[if_neg (by omega),if_neg (by omega),if_neg (by omega)];exact hR.fr i hi⟩
          | true=>
           rw[hn,Bool.not_true,Bool.false_or] at hbad
           rw[hn] at hnm
           have hp2:=name_pos w hn
           have hw1:w.getD 0 0<256:=by_at w hwB 0 hp2
           by_cases q1:k=102∨k=104
           ·rw[decide_eq_true q1,Bool.true_and] at hbad
            by_cases q2:w.getD 0 0=118
            ·have q3:((w.getD 0 0:Nat):Int)=118:=by omega
             rw[q2] at hbad
             rcases q1 with rfl | rfl
             ·refine ifs ?_ ?_ <;> first | exact nope | intro hb
              refine aw_seq ?_
              refine aw_reg fun K hK=>?_;refine rn (J3 rTI @k8 @gc) ?_;refine cont_go hnx ?_;rintro _ s5 ⟨rfl,rfl⟩;refine rn (J3 rTI @k8 @gc) ?_;refine hK _ _ ?_;clear hK K
              refine go (J3 rTI @k8 @gc) ?_
              refine aw_reg fun K hK=>?_;refine rn (J9 rTI @k4 @k8 @ob3 @ob4 @gc @lS @hg @q3) ?_;refine cont_pure hnm ?_;refine rn (J9 rTI @k4 @k8 @ob3 @ob4 @gc @lS @hg @q3) ?_;refine hK _ _ ?_;clear hK K
              refine ifs ?_ ?_ <;> first | exact nope | intro hb
              refine aw_skip ?_
              refine .inl ⟨rfl,?_,?_,?_,?_,?_,?_,hbad.symm,hR2⟩
              all_goals (exact rn0 (J6 rTI @h1 @k2 @k4 @k7 @k8))
              all_goals trivial
             ·refine ifs ?_ ?_ <;> first | exact nope | intro hb
              refine aw_seq ?_
              refine aw_reg fun K hK=>?_;refine rn (J3 rTI @k8 @gc) ?_;refine cont_go hnx ?_;rintro _ s5 ⟨rfl,rfl⟩;refine rn (J3 rTI @k8 @gc) ?_;refine hK _ _ ?_;clear hK K
              refine go (J3 rTI @k8 @gc) ?_
              refine aw_reg fun K hK=>?_;refine rn (J9 rTI @k4 @k8 @ob3 @ob4 @gc @lS @hg @q3) ?_;refine cont_pure hnm ?_;refine rn (J9 rTI @k4 @k8 @ob3 @ob4 @gc @lS @hg @q3) ?_;refine hK _ _ ?_;clear hK K
              refine ifs ?_ ?_ <;> first | exact nope | intro hb
              refine aw_skip ?_
              refine .inl ⟨rfl,?_,?_,?_,?_,?_,?_,hbad.symm,hR2⟩
              all_goals (exact rn0 (J6 rTI @h1 @k2 @k4 @k7 @k8))
              all_goals trivial
            ·have q3:¬((w.getD 0 0:Nat):Int)=118:=by omega
             rw[decide_eq_true q2] at hbad
             subst hbad
             rw[if_pos rfl]
             rcases q1 with rfl | rfl
             ·refine ifs ?_ ?_ <;> first | exact nope | intro hb
              refine aw_seq ?_
              refine aw_reg fun K hK=>?_;refine rn (J3 rTI @k8 @gc) ?_;refine cont_go hnx ?_;rintro _ s5 ⟨rfl,rfl⟩;refine rn (J3 rTI @k8 @gc) ?_;refine hK _ _ ?_;clear hK K
              refine go (J3 rTI @k8 @gc) ?_
              refine aw_reg fun K hK=>?_;refine rn (J9 rTI @k4 @k8 @ob3 @ob4 @gc @lS @hg @q3) ?_;refine cont_pure hnm ?_;refine rn (J9 rTI @k4 @k8 @ob3 @ob4 @gc @lS @hg @q3) ?_;refine hK _ _ ?_;clear hK K
              refine ifs ?_ ?_ <;> first | exact nope | intro hb
              refine go (J8 rTI @h1 @k2 @k8 @ob3 @ob4 @gc @gz) ?_
              exact .inr ⟨ra_err 71,ra_idf _,fun i hi=>by rw[if_neg (by omega),if_neg (by omega),if_neg (by omega)];exact hR.fr i hi⟩
             ·refine ifs ?_ ?_ <;> first | exact nope | intro hb
              refine aw_seq ?_
              refine aw_reg fun K hK=>?_;refine rn (J3 rTI @k8 @gc) ?_;refine cont_go hnx ?_;rintro _ s5 ⟨rfl,rfl⟩;refine rn (J3 rTI @k8 @gc) ?_;refine hK _ _ ?_;clear hK K
              refine go (J3 rTI @k8 @gc) ?_
              refine aw_reg fun K hK=>?_;refine rn (J9 rTI @k4 @k8 @ob3 @ob4 @gc @lS @hg @q3) ?_;refine cont_pure hnm ?_;refine rn (J9 rTI @k4 @k8 @ob3 @ob4 @gc @lS @hg @q3) ?_;refine hK _ _ ?_;clear hK K
              refine ifs ?_ ?_ <;> first | exact nope | intro hb
              refine go (J8 rTI @h1 @k2 @k8 @ob3 @ob4 @gc @gz) ?_
              exact .inr ⟨ra_err 71,ra_idf _,fun i hi=>by rw[if_neg (by omega),if_neg (by omega),if_neg (by omega)];exact hR.fr i hi⟩
           ·rw[decide_eq_false q1,Bool.false_and] at hbad
            have q3:¬(k:Int)=102:=by omega
            have q4:¬(k:Int)=104:=by omega
            refine ifs ?_ ?_ <;> first | exact nope | intro hb
            refine aw_seq ?_
            refine aw_reg fun K hK=>?_;refine rn (J3 rTI @k8 @gc) ?_;refine cont_go hnx ?_;rintro _ s5 ⟨rfl,rfl⟩;refine rn (J3 rTI @k8 @gc) ?_;refine hK _ _ ?_;clear hK K
            refine go (J3 rTI @k8 @gc) ?_
            refine aw_reg fun K hK=>?_;refine rn (J8 rTI @k4 @k8 @ob3 @ob4 @gc @q3 @q4) ?_;refine cont_pure hnm ?_;refine rn (J8 rTI @k4 @k8 @ob3 @ob4 @gc @q3 @q4) ?_;refine hK _ _ ?_;clear hK K
            refine ifs ?_ ?_ <;> first | exact nope | intro hb
            refine aw_skip ?_
            refine .inl ⟨rfl,?_,?_,?_,?_,?_,?_,hbad.symm,hR2⟩
            all_goals (exact rn0 (J6 rTI @h1 @k2 @k4 @k7 @k8))
            all_goals trivial
       ·have hB2:BL D2:=fun w h=>by
         rw[←hD2] at h
         cases fb with
         | false=>exact hbd w h
         | true=>exact hbd w (List.mem_of_mem_drop h)
        have hbl2:∀ w∈D2,w.length≤281474976710656:=fun w h=>by
         rw[←hD2] at h
         cases fb with
         | false=>exact hbl w h
         | true=>exact hbl w (List.mem_of_mem_drop h)
        have hDl2:(if fc=true then 1 else 0)≤D2.length∧D2.length≤10000:=by
         rw[←hD2]
         cases fb with
         | false=>rw[if_neg Bool.false_ne_true] at hDn ⊢;omega
         | true=>rw[if_pos rfl] at hDn ⊢;rw[List.length_drop];omega
        have hsrc2:srcC k=true→fc=false∧waveWords D2=true:=fun h=>by
         obtain⟨rfl,q1,q2⟩:=hsrc h
         rw[if_neg Bool.false_ne_true] at hD2
         rw[←hD2]
         exact⟨q1,q2⟩
        clear hsrc hbd hbl hDn hDm hrf hD2 h1 k2 k4 k5 k6 k7 k8 hR ob3 ob4
        rintro e4 s5 ⟨h1,k2,k4,k7,k8,k11,hb0,hR⟩
        rw[hb0,if_neg Bool.false_ne_true]
        clear hbad hb0
        rw[then_normal]
        refine aw_seq ?_
        refine go (J3 rTI @h1 @k7) ?_
        generalize hval:(if fc=true then numV (D2.headD []) else (0,0))=val
        generalize hev:(if fc=true then numE (D2.headD []) 0 else 0)=ev
        refine aw_only (fun e5 s6=>e5.n=151∧e5.m 2=.ptr s.nx 0∧e5.m 4=.v (.int .u8 (k:Nat))∧e5.m 8=.ptr (s.nx+1) 0∧e5.m 11=.ptr b 0∧∃ ws2,(srcC k=true→ws2=D2)∧CR s s6 b [.v (.string (bs w0)),.sl fa (SL N),.v (.string (bs rf)),.v (.int .i64 val.1),.v (.int .i64 val.2),.v (.int .i64 0),nilS,nilS] ws2 ev) ?_ ?_
        ·obtain⟨ob1,ob2⟩:=hR.o
         have ob3:s.nx+1≠b:=by omega
         cases fc with
         | false=>
          rw[if_neg Bool.false_ne_true] at hval hev
          subst hval hev
          refine ifs ?_ ?_ <;> first | exact nope | intro hb
          refine aw_skip ?_
          refine⟨rfl,?_,?_,?_,?_,?_,D2,fun _=>rfl,hR⟩
          all_goals (exact rn0 (J6 rTI @h1 @k2 @k4 @k8 @k11))
          all_goals trivial
         | true=>
          rw[if_pos rfl] at hval hev hDl2
          match D2,hDl2 with
          | [],q=>simp at q
          | w::D',hDl2=>
           rw[show (w::D').headD []=w from rfl] at hval hev
           have hnu:=num_ax s5 b w D' 0 (hB2 w (List.mem_cons_self ..)) hR.r ob2 (by rw[List.length_cons] at hDl2;omega)
           subst hval hev
           have gc:=hR.c
           have hR2:=(hR.upd D' (numE w 0)).put [.v (.string (bs w0)),.sl fa (SL N),.v (.string (bs rf)),.v (.int .i64 (numV w).1),.v (.int .i64 (numV w).2),.v (.int .i64 0),nilS,nilS]
           unfold rdr iv TV at hnu hR2
           unfold NM at hnu
           unfold nilS at *
           refine ifs ?_ ?_ <;> first | exact nope | intro hb
           refine aw_reg fun K hK=>?_;refine rn (J6 rTI @h1 @k8 @k11 @gc @ob3) ?_;refine cont_go hnu ?_;rintro _ s6 ⟨rfl,rfl⟩;refine rn (J6 rTI @h1 @k8 @k11 @gc @ob3) ?_;refine hK _ _ ?_;clear hK K
           refine go (J5 rTI @h1 @k8 @gc @ob3) ?_
           refine⟨rfl,?_,?_,?_,?_,?_,D',fun h=>absurd (hsrc2 h).1 (by decide),hR2⟩
           all_goals (exact rn0 (J6 rTI @h1 @k2 @k4 @k8 @k11))
           all_goals trivial
        ·clear h1 k2 k4 k7 k8 k11 hR
         rintro e5 s6 ⟨h1,k2,k4,k8,k11,ws2,hws,hR⟩
         rw[then_normal]
         generalize hec:(if srcC k=true then (waveR D2 ev).2 else ev)=ec
         generalize hwv:(if srcC k=true then (waveR D2 ev).1 else wv0)=wv
         refine aw_seq ?_
         refine aw_only (fun e6 s7=>e6.n=151∧e6.m 2=.ptr s.nx 0∧e6.m 4=.v (.int .u8 (k:Nat))∧e6.m 8=.ptr (s.nx+1) 0∧e6.m 11=.ptr b 0∧e6.m 12=.v (.bool (srcC k))∧s7=s6) ?_ ?_
         ·have hsk:srcC k=decide (k=118∨k=105):=rfl
          by_cases q1:k=118
          ·have q2:(k:Int)=118:=by omega
           rw[hsk,decide_eq_true (.inl q1)]
           refine go (J4 rTI @h1 @k4 @q2) ?_
           (repeat' refine And.intro ?_ ?_) <;> first | exact rfl | exact fnz (J6 rTI @h1 @k2 @k4 @k8 @k11) | skip
          ·have q2:¬(k:Int)=118:=by omega
           by_cases q3:k=105
           ·have q4:(k:Int)=105:=by omega
            rw[hsk,decide_eq_true (.inr q3)]
            refine go (J4 rTI @h1 @k4 @q4) ?_
            (repeat' refine And.intro ?_ ?_) <;> first | exact rfl | exact fnz (J6 rTI @h1 @k2 @k4 @k8 @k11) | skip
           ·have q4:¬(k:Int)=105:=by omega
            rw[hsk,decide_eq_false (by omega)]
            refine go (J5 rTI @h1 @k4 @q2 @q4) ?_
            (repeat' refine And.intro ?_ ?_) <;> first | exact rfl | exact fnz (J6 rTI @h1 @k2 @k4 @k8 @k11) | skip
         clear h1 k2 k4 k8 k11
         rintro e6 s7 ⟨h1,k2,k4,k8,k11,k12,rfl⟩
         rw[then_normal]
         refine aw_seq ?_
         refine aw_only (fun e7 s8=>e7.n=151∧e7.m 2=.ptr s.nx 0∧e7.m 4=.v (.int .u8 (k:Nat))∧e7.m 8=.ptr (s.nx+1) 0∧e7.m 11=.ptr b 0∧e7.m 12=.v (.bool (srcC k))∧∃ kd X Y ws3,CR s s8 b [.v (.string (bs w0)),.sl fa (SL N),.v (.string (bs rf)),.v (.int .i64 val.1),.v (.int .i64 val.2),.v (.int .i64 kd),X,Y] ws3 ec∧((srcC k=true∧∃ W,(ec=0→W=wv)∧kd=W.kind∧X=NV W.vals∧Y=IV W.steps)∨(srcC k=false∧kd=0∧X=nilS∧Y=nilS))) ?_ ?_
         ·have gc:=hR.c
          obtain⟨ob1,ob2⟩:=hR.o
          have ob3:s.nx+1≠b:=by omega
          cases hs:srcC k with
          | false=>
           rw[hs,if_neg Bool.false_ne_true] at hec
           subst hec
           rw[hs] at k12
           refine go (J3 rTI @h1 @k12) ?_
           refine ifs ?_ ?_ <;> first | exact nope | intro hb
           refine aw_skip ?_
           refine⟨rfl,?_,?_,?_,?_,?_,?_,0,nilS,nilS,ws2,hR,.inr ⟨rfl,rfl,rfl,rfl⟩⟩
           all_goals (exact rn0 (J7 rTI @h1 @k2 @k4 @k8 @k11 @k12))
           all_goals trivial
          | true=>
           obtain⟨rfl,hww⟩:=hsrc2 hs
           obtain rfl:=hws hs
           rw[hs,if_pos rfl] at hec hwv
           rw[if_neg Bool.false_ne_true] at hev
           subst hev
           have hwx:=wave_ax s7 b ws2 0 hB2 hbl2 hR.r ob2 hDl2.2 hww
           rw[hec,hwv] at hwx
           rw[hs] at k12
           unfold WA NV IV iv at hwx
           unfold rdr TV iv at hwx
           unfold nilS at *
           refine go (J3 rTI @h1 @k12) ?_
           refine ifs ?_ ?_ <;> first | exact nope | intro hb
           refine aw_reg fun K hK=>?_;refine rn (J6 rTI @h1 @k8 @k11 @gc @ob3) ?_;refine cont_go hwx ?_;rintro _ s8 ⟨⟨W,hW,rfl⟩,rfl⟩;refine rn (J6 rTI @h1 @k8 @k11 @gc @ob3) ?_;refine hK _ _ ?_;clear hK K
           refine go (J5 rTI @h1 @k8 @gc @ob3) ?_
           have hR2:=(hR.upd [] ec).put [.v (.string (bs w0)),.sl fa (SL N),.v (.string (bs rf)),.v (.int .i64 val.1),.v (.int .i64 val.2),.v (.int .i64 W.kind),NV W.vals,IV W.steps]
           refine⟨rfl,?_,?_,?_,?_,?_,?_,W.kind,NV W.vals,IV W.steps,[],hR2,.inl ⟨rfl,W,hW,rfl,rfl,rfl⟩⟩
           all_goals (exact rn0 (J7 rTI @h1 @k2 @k4 @k8 @k11 @k12))
           all_goals trivial
         clear h1 k2 k4 k8 k11 k12 hR hws
         rintro e7 s8 ⟨h1,k2,k4,k8,k11,k12,kd,X,Y,ws3,hR,hXY⟩
         rw[then_normal]
         have gr:=hR.r
         have gc:=hR.c
         have gz:=hR.z
         obtain⟨ob1,ob2⟩:=hR.o
         have ob3:s.nx+1≠b:=by omega
         have ob4:s.nx≠b:=by omega
         unfold rdr iv at gr
         unfold cz at gz
         by_cases he0:ec=0
         ·rw[if_neg (fun h=>h he0)]
          refine go (J5 rTI @h1 @k11 @gr @he0) ?_
          refine ifs ?_ ?_ <;> first | exact nope | intro hb
          refine aw_seq ?_
          refine aw_only (fun e9 s9=>e9.n=151∧e9.m 2=.ptr s.nx 0∧e9.m 4=.v (.int .u8 (k:Nat))∧e9.m 8=.ptr (s.nx+1) 0∧e9.m 12=.v (.bool (srcC k))∧e9.m 123=.v (.bool (decide (val.1=0∧zeroK k=true)))∧s9=s8) ?_ ?_
          ·by_cases hv0:val.1=0
           ·by_cases q1:k=114
            ·have q2:(k:Int)=114:=by omega
             rw[decide_eq_true (show val.1=0∧zeroK k=true from ⟨hv0,decide_eq_true (.inl q1)⟩)]
             refine go (J7 rTI @h1 @k4 @k8 @gc @hv0 @q2) ?_
             (repeat' refine And.intro ?_ ?_) <;> first | exact rfl | exact fnz (J6 rTI @h1 @k2 @k4 @k8 @k12) | skip
            ·have q2:¬(k:Int)=114:=by omega
             by_cases q3:k=99
             ·have q4:(k:Int)=99:=by omega
              rw[decide_eq_true (show val.1=0∧zeroK k=true from ⟨hv0,decide_eq_true (.inr (.inl q3))⟩)]
              refine go (J7 rTI @h1 @k4 @k8 @gc @hv0 @q4) ?_
              (repeat' refine And.intro ?_ ?_) <;> first | exact rfl | exact fnz (J6 rTI @h1 @k2 @k4 @k8 @k12) | skip
             ·have q4:¬(k:Int)=99:=by omega
              by_cases q5:k=108
              ·have q6:(k:Int)=108:=by omega
               rw[decide_eq_true (show val.1=0∧zeroK k=true from ⟨hv0,decide_eq_true (.inr (.inr q5))⟩)]
               refine go (J7 rTI @h1 @k4 @k8 @gc @hv0 @q6) ?_
               (repeat' refine And.intro ?_ ?_) <;> first | exact rfl | exact fnz (J6 rTI @h1 @k2 @k4 @k8 @k12) | skip
              ·have q6:¬(k:Int)=108:=by omega
               rw[decide_eq_false (show ¬(val.1=0∧zeroK k=true) from fun h=>by have:=of_decide_eq_true h.2;omega)]
               refine go (J9 rTI @h1 @k4 @k8 @gc @hv0 @q2 @q4 @q6) ?_
               (repeat' refine And.intro ?_ ?_) <;> first | exact rfl | exact fnz (J6 rTI @h1 @k2 @k4 @k8 @k12) | skip
           ·rw[decide_eq_false (show ¬(val.1=0∧zeroK k=true) from fun h=>hv0 h.1)]
            refine go (J6 rTI @h1 @k4 @k8 @gc @hv0) ?_
            (repeat' refine And.intro ?_ ?_) <;> first | exact rfl | exact fnz (J6 rTI @h1 @k2 @k4 @k8 @k12) | skip
          clear h1 k2 k4 k8 k11 k12
          rintro e9 s9 ⟨h1,k2,k4,k8,k12,k123,rfl⟩
          rw[then_normal]
          by_cases hz0:val.1=0∧zeroK k=true
          ·rw[decide_eq_true hz0] at k123
           rw[if_pos hz0]
           refine aw_cond (b:=true) k123 (fun _=>?_) (fun h=>by cases h)
           refine go (J4 rTI @h1 @k2 @gz) ?_
           exact⟨ra_err 11,ra_idf _,fun i hi=>by rw[if_neg (by omega)];exact hR.fr i hi⟩
          ·rw[decide_eq_false hz0] at k123
           rw[if_neg hz0]
           rcases hXY with ⟨hs,W,hW,rfl,rfl,rfl⟩ | ⟨hs,rfl,rfl,rfl⟩
           ·obtain rfl:=hW he0
            have hvl:W.vals.length≤D2.length+1∧W.steps.length≤D2.length:=by
             rw[hs,if_pos rfl] at hwv
             rw[←hwv]
             exact wave_len D2 ev
            have hwx:=wvalid_ax W (by omega) (by omega)
            rw[hs] at k12
            unfold WA at hwx
            unfold NV IV iv at *
            cases hok:waveOk W with
            | false=>
             rw[hok] at hwx
             rw[if_pos ⟨hs,rfl⟩]
             refine aw_cond (b:=false) k123 (fun h=>by cases h) (fun _=>?_)
             refine aw_seq ?_
             refine aw_reg fun K hK=>?_;refine rn (J5 rTI @h1 @k8 @k12 @gc) ?_;refine cont_pure hwx ?_;refine rn (J5 rTI @h1 @k8 @k12 @gc) ?_;refine hK _ _ ?_;clear hK K
             refine ifs ?_ ?_ <;> first | exact nope | intro hb
             refine go (J4 rTI @h1 @k2 @gz) ?_
             exact⟨ra_err 40,ra_idf _,fun i hi=>by rw[if_neg (by omega)];exact hR.fr i hi⟩
            | true=>
             rw[hok] at hwx
             rw[if_neg (fun h=>by cases h.2)]
             refine aw_cond (b:=false) k123 (fun h=>by cases h) (fun _=>?_)
             refine aw_seq ?_
             refine aw_reg fun K hK=>?_;refine rn (J5 rTI @h1 @k8 @k12 @gc) ?_;refine cont_pure hwx ?_;refine rn (J5 rTI @h1 @k8 @k12 @gc) ?_;refine hK _ _ ?_;clear hK K
             refine ifs ?_ ?_ <;> first | exact nope | intro hb
             refine go (J6 rTI @h1 @k2 @k8 @gc @gz) ?_
             refine⟨?_,ra_idf _,fun i hi=>by rw[if_neg (by omega)];exact hR.fr i hi⟩
             rw[hNN]
             exact ra_le ⟨w0,N,rf,val,W⟩ _ _ (Le.refl _) (Le.refl _)
           ·rw[hs] at k12
            rw[if_neg (fun h=>by rw[hs] at h;cases h.1)]
            unfold nilS at *
            refine aw_cond (b:=false) k123 (fun h=>by cases h) (fun _=>?_)
            refine go (J3 rTI @h1 @k12) ?_
            refine ifs ?_ ?_ <;> first | exact nope | intro hb
            refine go (J6 rTI @h1 @k2 @k8 @gc @gz) ?_
            refine⟨?_,ra_idf _,fun i hi=>by rw[if_neg (by omega)];exact hR.fr i hi⟩
            rw[hs,if_neg Bool.false_ne_true] at hwv
            subst hwv
            rw[hNN]
            exact ra_le ⟨w0,N,rf,val,wv0⟩ _ _ (Le.nil 0 0 rfl) (Le.nil 0 0 rfl)
         ·rw[if_pos he0]
          refine go (J5 rTI @h1 @k11 @gr @he0) ?_
          refine ifs ?_ ?_ <;> first | exact nope | intro hb
          refine aw_seq ?_
          refine aw_drw (.take 0 (.take 1 (.take 2 (.take 3 (.take 4 (.one 5 (.take 6 (.done)))))))) [b] (by kernel_rfl) (by kernel_rfl) fun K hK=>?_;refine dr (J7 rTI @h1 @k2 @k11 @gr @gz @ob4) ?_;refine hK _ _ ?_;clear hK K
          rw[then_normal]
          refine go (J4 rTI @h1 @k2 @gz) ?_
          exact⟨ra_err ec,ra_idf _,fun i hi=>by rw[if_neg (by omega)];exact hR.fr i hi⟩
end CardI
namespace CardJ
open Go Go.RowKit Ax Ti NumS NumT CardS CardP CardA CardB CardC CardD CardE CardF CardG CardH
open NumA (NM)
theorem rTI:type_of% (J18 @ti3 @ti4 @ti9 @ti5 @ti2 @ti43 @ti45 @ti44 @ti23 @ti47 @ti49 @ti31 @Nat.zero_add @tz0 @tz1 @tz3 @Nat.mul_one @Int.toNat_natCast):=cj @ti3 (J17 @ti4 @ti9 @ti5 @ti2 @ti43 @ti45 @ti44 @ti23 @ti47 @ti49 @ti31 @Nat.zero_add @tz0 @tz1 @tz3 @Nat.mul_one @Int.toNat_natCast)
theorem ctext_ax (n:Num):PCall Tryz.prog 56 [NM n.1 n.2] (SV (textN n)):=by
 refine pcall_of fun s=>?_
 have ht:=NumG.text_all n.1 n.2
 unfold NumX.textV NumA.validN at ht
 unfold NM at ht ⊢
 unfold SV textN valid
 generalize RefM.validN n.1 n.2=b at *
 cases b with
 | true=>
  rw[if_pos rfl] at ht
  rw[if_pos rfl]
  refine acall_of Tryz.func56 rfl rfl (by simp [Tryz.ntmps56]) ?_;rw[Tryz.ntmps56,Tryz.results56]
  refine go rTI ?_
  refine aw_reg fun K hK=>?_;refine rn rTI ?_;refine cont_pure ht ?_;refine rn rTI ?_;refine hK _ _ ?_;clear hK K
  refine go rTI ?_
  refine ifs ?_ ?_ <;> first | exact nope | intro hb
  refine go rTI ?_
  exact fun i hi=>by rw[if_neg (by omega)]
 | false=>
  rw[if_neg Bool.false_ne_true] at ht
  rw[if_neg Bool.false_ne_true]
  refine acall_of Tryz.func56 rfl rfl (by simp [Tryz.ntmps56]) ?_;rw[Tryz.ntmps56,Tryz.results56]
  refine go rTI ?_
  refine aw_reg fun K hK=>?_;refine rn rTI ?_;refine cont_pure ht ?_;refine rn rTI ?_;refine hK _ _ ?_;clear hK K
  refine go rTI ?_
  refine ifs ?_ ?_ <;> first | exact nope | intro hb
  refine go rTI ?_
  exact⟨rfl,fun i hi=>by rw[if_neg (by omega)]⟩
theorem sameW_ax (a b:Wv) (h1:a.vals.length≤9223372036854775807) (h2:a.steps.length≤9223372036854775807) (h3:b.vals.length≤9223372036854775807) (h4:b.steps.length≤9223372036854775807) :
  PCall Tryz.prog 60 [WA a,WA b] (.v (.bool (sameW a b))):=by
 refine pcall_of fun s=>?_
 have hv:=equalN_ax a.vals b.vals h1 h3
 have hs:=equalI_ax a.steps b.steps h2 h4
 have hW:sameW a b=(decide (a.kind=b.kind)&&(decide (a.vals=b.vals)&&decide (a.steps=b.steps))):=by unfold sameW;rw[Bool.decide_and,Bool.decide_and]
 rw[hW]
 unfold WA NV IV iv at *
 by_cases hk:a.kind=b.kind
 ·rw[decide_eq_true hk,Bool.true_and]
  generalize decide (a.vals=b.vals)=c1 at *
  generalize decide (a.steps=b.steps)=c2 at *
  cases c1 with
  | false=>
   rw[Bool.false_and]
   refine acall_of Tryz.func60 rfl rfl (by simp [Tryz.ntmps60]) ?_;rw[Tryz.ntmps60,Tryz.results60]
   refine go rTI ?_
   refine aw_reg fun K hK=>?_;refine rn (cj rTI @hk) ?_;refine cont_pure hv ?_;refine rn (cj rTI @hk) ?_;refine hK _ _ ?_;clear hK K
   refine go rTI ?_
   exact fun i hi=>by rw[if_neg (by omega),if_neg (by omega)]
  | true=>
   rw[Bool.true_and]
   refine acall_of Tryz.func60 rfl rfl (by simp [Tryz.ntmps60]) ?_;rw[Tryz.ntmps60,Tryz.results60]
   refine go rTI ?_
   refine aw_reg fun K hK=>?_;refine rn (cj rTI @hk) ?_;refine cont_pure hv ?_;refine rn (cj rTI @hk) ?_;refine cont_pure hs ?_;refine rn (cj rTI @hk) ?_;refine hK _ _ ?_;clear hK K
   refine go rTI ?_
   exact fun i hi=>by rw[if_neg (by omega),if_neg (by omega)]
 ·rw[decide_eq_false hk,Bool.false_and]
  refine acall_of Tryz.func60 rfl rfl (by simp [Tryz.ntmps60]) ?_;rw[Tryz.ntmps60,Tryz.results60]
  refine go (cj rTI @hk) ?_
  exact fun i hi=>by rw[if_neg (by omega),if_neg (by omega)]
structure LI (s s':St) (c:List AV) (id:Nat) (L:List Str):Prop where
 b:s'.get s.nx=some c
 l:s'.get id=some (SL L)
 o:s.nx<id∧id<s'.nx
 fr:∀ k,k<s.nx→s'.get k=s.get k
theorem LI.app {s s':St} {c:List AV} {id:Nat} {L:List Str} (h:LI s s' c id L) (s1:St) (hn:s'.nx≤s1.nx) (hg:∀ k,k<s'.nx→s1.get k=s'.get k) (ws:List Str) :
  LI s ((s1.kill id).push (SL L++SL ws)) c s1.nx (L++ws):=by
 obtain⟨o1,o2⟩:=h.o
 refine⟨?_,?_,⟨by omega,Nat.lt_succ_self _⟩,fun k hk=>?_⟩
 ·rw[St.push_ne (s1.kill id) _ _ (show s.nx≠s1.nx by omega),St.kill_ne _ _ _ (by omega),hg _ (by omega)]
  exact h.b
 ·rw[show SL (L++ws)=SL L++SL ws from List.map_append]
  exact St.push_same (s1.kill id) _
 ·rw[St.push_ne (s1.kill id) _ _ (show k≠s1.nx by omega),St.kill_ne _ _ _ (by omega),hg _ (by omega)]
  exact h.fr k hk
theorem zip_take:∀ (S:List Int) (V:List Num) (j:Nat),j<S.length→j<V.length→zipW (S.take (j+1)) (V.take (j+1))=zipW (S.take j) (V.take j)++[decS (S.getD j 0),textN (V.getD j (0,0))]
 | [],_,_,h,_=>absurd h (Nat.not_lt_zero _)
 | _::_,[],_,_,h=>absurd h (Nat.not_lt_zero _)
 | a::S,b::V,0,_,_=>by
  simp [zipW]
 | a::S,b::V,j+1,h1,h2=>by
  have:=zip_take S V j (Nat.lt_of_succ_lt_succ h1) (Nat.lt_of_succ_lt_succ h2)
  rw[List.take_succ_cons,List.take_succ_cons,List.take_succ_cons,List.take_succ_cons,List.getD_cons_succ,List.getD_cons_succ]
  show decS a::textN b::zipW _ _=decS a::textN b::zipW _ _++_
  rw[this]
  rfl
theorem zip_all:∀ (S:List Int) (V:List Num) (j:Nat),(j=S.length∨j=V.length)→zipW (S.take j) (V.take j)=zipW S V
 | [],_,_,_=>by simp [zipW]
 | _::_,[],_,_=>by simp [zipW]
 | a::S,b::V,0,h=>by simp at h
 | a::S,b::V,j+1,h=>by
  rw[List.take_succ_cons,List.take_succ_cons]
  show decS a::textN b::zipW _ _=decS a::textN b::zipW _ _
  rw[zip_all S V j (by simpa using h)]
theorem map_take {α:Type} (f:α→Str) (l:List α) (d:α) (k:Nat) (h:k<l.length):(l.take (k+1)).map f=(l.take k).map f++[f (l.getD k d)]:=by
 rw[List.take_succ_eq_append_getElem h,List.map_append,List.getD_eq_getElem?_getD,List.getElem?_eq_getElem h]
 rfl
theorem frz_SL (id:Nat) (L:List Str):frz id (SL L) (.own id 0 L.length 1)=TV L:=by
 have e2:=sl_take L
 rw[frz_own,List.drop_zero,e2]
 rfl
theorem zip_len:∀ (S:List Int) (V:List Num),S.length=V.length→(zipW S V).length=2*S.length
 | [],[],_=>rfl
 | a::S,b::V,h=>by
  show (zipW S V).length+1+1=_
  rw[zip_len S V (by simpa using h),List.length_cons]
  omega
 | [],_::_,h=>by simp at h
 | _::_,[],h=>by simp at h
def preW (k:Int):List Str:=if k=1 then [sDc] else if k=2 then [sPulse] else if k=4 then [sTable] else []
theorem writeW_ax (w:Wv) (h1:w.vals.length≤10000) (h2:w.steps.length≤10000) (h3:∀ z∈w.steps,-9223372036854775808≤z∧z≤9223372036854775807) :
  PCall Tryz.prog 57 [WA w] (TV (waveT w)):=by
 refine pcall_own (tv_idf _) fun s=>?_
 obtain⟨kd,V,S⟩:=w
 simp only at h1 h2 h3
 unfold WA NV IV iv
 simp only
 refine acall_of Tryz.func57 rfl rfl (by simp [Tryz.ntmps57]) ?_;rw[Tryz.ntmps57,Tryz.results57]
 refine aw_seq ?_
 refine aw_reg fun K hK=>?_;refine rn rTI ?_;refine hK _ _ ?_;clear hK K
 refine aw_seq ?_
 refine aw_reg fun K hK=>?_;refine rn rTI ?_;refine hK _ _ ?_;clear hK K
 refine aw_nil 3 1 rfl rfl ?_
 have hL:LI s ((s.push [.v (.int .i64 kd),.sl V.length (NC V),.sl S.length (IL S)]).push []) [.v (.int .i64 kd),.sl V.length (NC V),.sl S.length (IL S)] (s.nx+1) []:=by
  refine⟨?_,St.push_same _ _,⟨Nat.lt_succ_self _,Nat.lt_succ_self _⟩,fun k hk=>?_⟩
  ·rw[St.push_ne (s.push _) _ _ (show s.nx≠s.nx+1 by omega)]
   exact St.push_same _ _
  ·rw[St.push_ne (s.push _) _ _ (show k≠s.nx+1 by omega),St.push_ne s _ _ (by omega)]
 generalize hs1:(s.push [.v (.int .i64 kd),.sl V.length (NC V),.sl S.length (IL S)]).push []=s1 at *
 by_cases k3:kd=3
 ·subst k3
  rw[show waveT ⟨3,V,S⟩=sPwl::zipW S V from rfl]
  have gb:=hL.b
  have gl:=hL.l
  have hA:=hL.app (s1.push [SV sPwl]) (Nat.le_succ _) (fun k hk=>St.push_ne s1 _ _ (by omega)) [sPwl]
  obtain⟨o1,o2⟩:=hL.o
  rw[show SL ([]:List Str)=[] from rfl] at gl
  refine go (cj rTI @gb) ?_
  refine ifs ?_ ?_ <;> first | exact nope | intro hb
  refine go (cj rTI @gb) ?_
  refine ifs ?_ ?_ <;> first | exact nope | intro hb
  refine go (cj rTI @gb) ?_
  refine ifs ?_ ?_ <;> first | exact nope | intro hb
  refine go (J3 rTI @gb @gl) ?_
  clear hL hs1
  refine aw_loop (fun m e2 s2=>∃ k id,m=V.length-k∧k≤V.length∧k≤S.length∧e2.n=85∧e2.m 1=.ptr s.nx 0∧e2.m 3=.own id 0 (sPwl::zipW (S.take k) (V.take k)).length 1∧e2.m 4=.v (.int .i64 (k:Nat))∧LI s s2 [.v (.int .i64 3),.sl V.length (NC V),.sl S.length (IL S)] id (sPwl::zipW (S.take k) (V.take k))) V.length ?_ ?_
  ·refine⟨0,s1.nx+1,by omega,by omega,by omega,?_,?_,?_,?_,hA⟩
   all_goals ((first | refine rn rTI ?_ | exact rn0 rTI))
   all_goals (first | trivial | rfl)
  ·clear hA gb gl
   rintro m e2 s2 ⟨k,id,rfl,hk,hk1,h1,q1,q3,q4,hL⟩
   have gb:=hL.b
   obtain⟨o1,o2⟩:=hL.o
   by_cases hk2:k<V.length∧k<S.length
   ·obtain⟨hk3,hk4⟩:=hk2
    have f1:=nc_at V k hk3
    have f2:2≤((NC V).drop (k*2)).length:=by rw[List.length_drop,nc_len];omega
    have f3:=hd_IL S k hk4
    have hp:=ctext_ax (V.getD k (0,0))
    have ht:=zip_take S V k hk4 hk3
    have hz : -9223372036854775808≤S.getD k 0∧S.getD k 0≤9223372036854775807:=h3 _ (by rw[List.getD_eq_getElem?_getD,List.getElem?_eq_getElem hk4];exact List.getElem_mem _)
    generalize S.getD k 0=z at *
    have hp2:=itoa_ax z hz.1 hz.2
    generalize V.getD k (0,0)=n at *
    have gl:=hL.l
    have ll:=sl_len (sPwl::zipW (S.take k) (V.take k))
    have hA:=hL.app (s2.push [SV (decS z),SV (textN n)]) (Nat.le_succ _) (fun k hk=>St.push_ne s2 _ _ (by omega)) [decS z,textN n]
    have hb0:(sPwl::zipW (S.take k) (V.take k)).length≤20001:=by rw[List.length_cons,zip_len _ _ (by rw[List.length_take,List.length_take];omega),List.length_take];omega
    rw[List.cons_append,←ht] at hA
    have hln:(sPwl::zipW (S.take (k+1)) (V.take (k+1))).length=(sPwl::zipW (S.take k) (V.take k)).length+2:=by rw[ht,List.length_cons,List.length_append,List.length_cons];rfl
    generalize hL0:sPwl::zipW (S.take k) (V.take k)=L0 at *
    unfold iv at f1 f3
    unfold NM SV at hp
    unfold SV at hp2 hA
    refine go (J5 rTI @h1 @q1 @q4 @gb) ?_
    refine ifs ?_ ?_ <;> first | exact nope | intro hb
    refine aw_skip ?_
    refine go (cj rTI @h1) ?_
    refine aw_drw (.take 0 (.take 1 (.take 2 (.take 3 (.take 4 (.take 5 (.take 7 (.take 8 (.take 9 (.take 10 (.take 11 (.one 6 (.one 12 (.one 13 (.one 14 (.take 15 (.done))))))))))))))))) [s.nx] (by kernel_rfl) (by kernel_rfl) fun K hK=>?_;refine dr (J11 rTI @h1 @q1 @q3 @q4 @gb @gl @ll @f1 @f2 @f3) ?_;refine cont_pure hp2 ?_;refine dr (J11 rTI @h1 @q1 @q3 @q4 @gb @gl @ll @f1 @f2 @f3) ?_;refine cont_pure hp ?_;refine dr (J11 rTI @h1 @q1 @q3 @q4 @gb @gl @ll @f1 @f2 @f3) ?_;refine hK _ _ ?_;clear hK K
    refine go (J3 rTI @h1 @q4) ?_
    simp only[block_normal,loop_normal]
    refine⟨V.length-(k+1),by omega,k+1,s2.nx+1,rfl,by omega,by omega,?_,?_,?_,?_,hA⟩
    all_goals ((first | refine rn (J5 rTI @h1 @q1 @q3 @q4) ?_ | exact rn0 (J5 rTI @h1 @q1 @q3 @q4)))
    all_goals (first | rfl | trivial | (rw[←hln];rfl))
   ·have hk5:k=S.length∨k=V.length:=by omega
    rw[zip_all S V k hk5] at hL q3
    by_cases hm:V.length<S.length
    ·refine go (J5 rTI @h1 @q1 @q4 @gb) ?_
     refine ifs ?_ ?_ <;> first | exact nope | intro hb
     refine go (J3 rTI @h1 @q3) ?_
     exact⟨id,_,by omega,hL.l,frz_SL _ _,hL.fr⟩
    ·refine go (J5 rTI @h1 @q1 @q4 @gb) ?_
     refine ifs ?_ ?_ <;> first | exact nope | intro hb
     refine go (J3 rTI @h1 @q3) ?_
     exact⟨id,_,by omega,hL.l,frz_SL _ _,hL.fr⟩
 ·rw[show waveT ⟨kd,V,S⟩=preW kd++V.map textN++S.map decS from if_neg k3]
  refine aw_seq ?_
  refine aw_only (fun e' s'=>e'.n=85∧e'.m 1=.ptr s.nx 0∧∃ id,e'.m 3=.own id 0 (preW kd).length 1∧LI s s' [.v (.int .i64 kd),.sl V.length (NC V),.sl S.length (IL S)] id (preW kd)) ?_ ?_
  ·have gb:=hL.b
   have gl:=hL.l
   obtain⟨o1,o2⟩:=hL.o
   rw[show SL ([]:List Str)=[] from rfl] at gl
   have hA:=fun x=>hL.app (s1.push [SV x]) (Nat.le_succ _) (fun k hk=>St.push_ne s1 _ _ (by omega)) [x]
   by_cases k1:kd=1
   ·subst k1
    refine go (cj rTI @gb) ?_
    refine ifs ?_ ?_ <;> first | exact nope | intro hb
    refine go (J3 rTI @gb @gl) ?_
    exact⟨rfl,rfl,rfl,s1.nx+1,rfl,hA sDc⟩
   ·by_cases k2:kd=2
    ·subst k2
     refine go (cj rTI @gb) ?_
     refine ifs ?_ ?_ <;> first | exact nope | intro hb
     refine go (J3 rTI @gb @gl) ?_
     refine ifs ?_ ?_ <;> first | exact nope | intro hb
     refine go (J3 rTI @gb @gl) ?_
     exact⟨rfl,rfl,rfl,s1.nx+1,rfl,hA sPulse⟩
    ·by_cases k4:kd=4
     ·subst k4
      refine go (cj rTI @gb) ?_
      refine ifs ?_ ?_ <;> first | exact nope | intro hb
      refine go (J3 rTI @gb @gl) ?_
      refine ifs ?_ ?_ <;> first | exact nope | intro hb
      refine go (J3 rTI @gb @gl) ?_
      refine ifs ?_ ?_ <;> first | exact nope | intro hb
      refine go (J3 rTI @gb @gl) ?_
      refine ifs ?_ ?_ <;> first | exact nope | intro hb
      refine go (J3 rTI @gb @gl) ?_
      exact⟨rfl,rfl,rfl,s1.nx+1,rfl,hA sTable⟩
     ·have hp:preW kd=[]:=by unfold preW;rw[if_neg k1,if_neg k2,if_neg k4]
      rw[hp]
      refine go (J3 rTI @gb @k1) ?_
      refine ifs ?_ ?_ <;> first | exact nope | intro hb
      refine go (J3 rTI @gb @k2) ?_
      refine ifs ?_ ?_ <;> first | exact nope | intro hb
      refine go (J3 rTI @gb @k3) ?_
      refine ifs ?_ ?_ <;> first | exact nope | intro hb
      refine go (J3 rTI @gb @k4) ?_
      refine ifs ?_ ?_ <;> first | exact nope | intro hb
      refine go rTI ?_
      exact⟨s.nx+1,rfl,hL⟩
  ·clear hL hs1
   have hpl:(preW kd).length≤1:=by unfold preW;(repeat' split) <;> decide
   generalize preW kd=pre at *
   rintro e' s' ⟨h1,q1,id,q3,hL⟩
   have gb:=hL.b
   rw[then_normal]
   refine go (J4 rTI @h1 @q1 @gb) ?_
   refine aw_loop (fun m e2 s2=>∃ k id,m=V.length-k∧k≤V.length∧e2.n=85∧e2.m 1=.ptr s.nx 0∧e2.m 3=.own id 0 (pre++(V.take k).map textN).length 1∧e2.m 59=.sl V.length (NC V)∧e2.m 60=.v (.int .i64 V.length)∧e2.m 61=.v (.int .i64 (k:Nat))∧LI s s2 [.v (.int .i64 kd),.sl V.length (NC V),.sl S.length (IL S)] id (pre++(V.take k).map textN)) V.length ?_ ?_
   ·refine⟨0,id,by omega,by omega,?_,?_,?_,?_,?_,?_,?_⟩
    all_goals ((first | refine rn (J4 rTI @h1 @q1 @q3) ?_ | exact rn0 (J4 rTI @h1 @q1 @q3)))
    all_goals (first | trivial | (simp;done) | (simp;exact hL))
   ·clear h1 q1 q3 hL gb
    rintro m e2 s2 ⟨k,id,rfl,hk,h1,q1,q3,q59,q60,q61,hL⟩
    have gb:=hL.b
    obtain⟨o1,o2⟩:=hL.o
    by_cases hk2:k<V.length
    ·have f1:=nc_at V k hk2
     have f2:2≤((NC V).drop (k*2)).length:=by rw[List.length_drop,nc_len];omega
     have hp:=ctext_ax (V.getD k (0,0))
     have ht:=map_take textN V (0,0) k hk2
     generalize V.getD k (0,0)=n at *
     have gl:=hL.l
     have ll:=sl_len (pre++(V.take k).map textN)
     have hA:=hL.app (((s2.push [.v (.int .i64 0),.v (.int .i64 0)]).set s2.nx [.v (.int .i64 n.1),.v (.int .i64 n.2)]).push [SV (textN n)]) (by show _≤s2.nx+1+1;omega) (fun k hk=>by rw[St.push_ne ((s2.push _).set _ _) _ _ (show k≠s2.nx+1 by omega),St.set_ne _ _ _ _ (by omega),St.push_ne s2 _ _ (by omega)]) [textN n]
     have hb0:(pre++(V.take k).map textN).length≤10001:=by rw[List.length_append,List.length_map,List.length_take];omega
     rw[List.append_assoc,←ht] at hA
     have hln:(pre++(V.take (k+1)).map textN).length=(pre++(V.take k).map textN).length+1:=by rw[ht,←List.append_assoc,List.length_append];rfl
     generalize hL0:pre++(V.take k).map textN=L0 at *
     unfold iv at f1
     unfold NM SV at hp
     unfold SV at hA
     refine go (J4 rTI @h1 @q60 @q61) ?_
     refine ifs ?_ ?_ <;> first | exact nope | intro hb
     refine aw_skip ?_
     refine go (J6 rTI @h1 @q59 @q61 @f1 @f2) ?_
     refine aw_reg fun K hK=>?_;refine rn (J5 rTI @h1 @q3 @gl @ll) ?_;refine cont_pure hp ?_;refine rn (J5 rTI @h1 @q3 @gl @ll) ?_;refine hK _ _ ?_;clear hK K
     refine go (J3 rTI @h1 @q61) ?_
     simp only[block_normal,loop_normal]
     refine⟨V.length-(k+1),by omega,k+1,s2.nx+1+1,rfl,by omega,?_,?_,?_,?_,?_,?_,hA⟩
     all_goals ((first | refine rn (J7 rTI @h1 @q1 @q3 @q59 @q60 @q61) ?_ | exact rn0 (J7 rTI @h1 @q1 @q3 @q59 @q60 @q61)))
     all_goals (first | rfl | trivial | rw[hln])
    ·obtain rfl:k=V.length:=by omega
     rw[List.take_length] at hL q3
     clear hk hk2 q59
     refine go (J6 rTI @h1 @q1 @q60 @q61 @gb) ?_
     refine ifs ?_ ?_ <;> first | exact nope | intro hb
     refine go (J6 rTI @h1 @q1 @q60 @q61 @gb) ?_
     have hpl2:(pre++V.map textN).length≤10001:=by rw[List.length_append,List.length_map];omega
     generalize pre++V.map textN=pr2 at *
     clear hpl gb o1 o2 q60 q61
     refine aw_loop (fun m e3 s3=>∃ k id,m=S.length-k∧k≤S.length∧e3.n=85∧e3.m 3=.own id 0 (pr2++(S.take k).map decS).length 1∧e3.m 72=.sl S.length (IL S)∧e3.m 73=.v (.int .i64 S.length)∧e3.m 74=.v (.int .i64 (k:Nat))∧LI s s3 [.v (.int .i64 kd),.sl V.length (NC V),.sl S.length (IL S)] id (pr2++(S.take k).map decS)) S.length ?_ ?_
     ·refine⟨0,id,by omega,by omega,?_,?_,?_,?_,?_,?_⟩
      all_goals ((first | refine rn (J4 rTI @h1 @q1 @q3) ?_ | exact rn0 (J4 rTI @h1 @q1 @q3)))
      all_goals (first | trivial | (simp;done) | (simp;exact hL))
     ·clear h1 q1 q3 hL
      rintro m e3 s3 ⟨k,id,rfl,hk,h1,q3,q72,q73,q74,hL⟩
      obtain⟨o1,o2⟩:=hL.o
      by_cases hk2:k<S.length
      ·have f1:=hd_IL S k hk2
       have ht:=map_take decS S 0 k hk2
       have hz : -9223372036854775808≤S.getD k 0∧S.getD k 0≤9223372036854775807:=h3 _ (by rw[List.getD_eq_getElem?_getD,List.getElem?_eq_getElem hk2];exact List.getElem_mem _)
       generalize S.getD k 0=n at *
       have hp:=itoa_ax n hz.1 hz.2
       have gl:=hL.l
       have ll:=sl_len (pr2++(S.take k).map decS)
       have hA:=hL.app (s3.push [SV (decS n)]) (Nat.le_succ _) (fun k hk=>St.push_ne s3 _ _ (by omega)) [decS n]
       have hb0:(pr2++(S.take k).map decS).length≤20001:=by rw[List.length_append,List.length_map,List.length_take];omega
       rw[List.append_assoc,←ht] at hA
       have hln:(pr2++(S.take (k+1)).map decS).length=(pr2++(S.take k).map decS).length+1:=by rw[ht,←List.append_assoc,List.length_append];rfl
       generalize hL0:pr2++(S.take k).map decS=L0 at *
       unfold iv at f1
       unfold SV at hp hA
       refine go (J4 rTI @h1 @q73 @q74) ?_
       refine ifs ?_ ?_ <;> first | exact nope | intro hb
       refine aw_skip ?_
       refine go (J5 rTI @h1 @q72 @q74 @f1) ?_
       refine aw_reg fun K hK=>?_;refine rn (J5 rTI @h1 @q3 @gl @ll) ?_;refine cont_pure hp ?_;refine rn (J5 rTI @h1 @q3 @gl @ll) ?_;refine hK _ _ ?_;clear hK K
       refine go (J3 rTI @h1 @q74) ?_
       simp only[block_normal,loop_normal]
       refine⟨S.length-(k+1),by omega,k+1,s3.nx+1,rfl,by omega,?_,?_,?_,?_,?_,hA⟩
       all_goals ((first | refine rn (J6 rTI @h1 @q3 @q72 @q73 @q74) ?_ | exact rn0 (J6 rTI @h1 @q3 @q72 @q73 @q74)))
       all_goals (first | rfl | trivial | rw[hln])
      ·obtain rfl:k=S.length:=by omega
       rw[List.take_length] at hL q3
       clear hk hk2 q72
       refine go (J4 rTI @h1 @q73 @q74) ?_
       refine ifs ?_ ?_ <;> first | exact nope | intro hb
       refine go (J3 rTI @h1 @q3) ?_
       exact⟨id,_,by omega,hL.l,frz_SL _ _,hL.fr⟩
end CardJ
namespace CardK
open Go Go.RowKit Ax Ti NumS NumT CardS CardP CardA CardB CardC CardD CardE CardF CardG CardH CardI CardJ
open NumA (NM)
theorem rTI:type_of% (J18 @ti3 @ti4 @ti9 @ti5 @ti2 @ti43 @ti45 @ti44 @ti23 @ti47 @ti49 @ti31 @Nat.zero_add @tz0 @tz1 @tz3 @Nat.mul_one @Int.toNat_natCast):=cj @ti3 (J17 @ti4 @ti9 @ti5 @ti2 @ti43 @ti45 @ti44 @ti23 @ti47 @ti49 @ti31 @Nat.zero_add @tz0 @tz1 @tz3 @Nat.mul_one @Int.toNat_natCast)
def PA (p:List Str × Int):AV:=.tp [TV p.1,iv p.2]
theorem pa_idf (p:List Str × Int):idf (PA p)=true:=by
 show (idf (TV p.1)&&(true&&true))=true
 rw[tv_idf]
 rfl
theorem pa_err (e:Int):Le (.tp [.v (.slice none 0 0),.v (.int .i64 e)]) (PA ([],e)):=by
 refine Le.tp rfl fun j x y hx hy=>?_
 match j with
 | 0=>simp at hx hy;subst hx hy;exact Le.nil 0 0 rfl
 | 1=>simp at hx hy;subst hx hy;exact Le.refl _
 | j+2=>simp at hx
theorem read_by (ws:List Str) (h:BL ws):By (readC ws).1.ref∧BL (readC ws).1.nodes∧(readC ws).1.nodes.length≤ws.length∧(readC ws).1.wave.vals.length≤ws.length+1∧(readC ws).1.wave.steps.length≤ws.length:=by
 have h0:By crd0.ref∧BL crd0.nodes∧crd0.nodes.length≤ws.length∧crd0.wave.vals.length≤ws.length+1∧crd0.wave.steps.length≤ws.length:=
  ⟨fun c hc=>(by cases hc),fun c hc=>(by cases hc),Nat.zero_le _,Nat.zero_le _,Nat.zero_le _⟩
 cases ws with
 | nil=>exact h0
 | cons w0 r=>
  have hr:BL r:=fun w hw=>h w (List.mem_cons_of_mem _ hw)
  have hh:∀ l:List Str,BL l→By (l.headD []):=fun l hl=>by
   cases l with
   | nil=>exact fun c hc=>by cases hc
   | cons a l=>exact hl a (List.mem_cons_self ..)
  rw[read_eq]
  generalize w0.getD 0 0=k
  generalize formOf k (r.length+1)=f
  unfold readB
  split
  ·split
   ·split
    ·exact h0
    ·split
     ·exact h0
     ·split
      ·exact h0
      ·split
       ·exact h0
       ·obtain⟨fa,fb,fc⟩:=f
        refine⟨?_,fun w hw=>hr w (List.mem_of_mem_take hw),?_,?_⟩
        ·show By (refC (fa,fb,fc) r)
         unfold refC
         simp only
         split
         ·exact hh _ fun w hw=>hr w (List.mem_of_mem_drop hw)
         ·exact fun c hc=>by cases hc
        ·show (r.take fa).length≤_
         rw[List.length_take,List.length_cons]
         omega
        ·show (wvC k (fa,fb,fc) r).vals.length≤_∧(wvC k (fa,fb,fc) r).steps.length≤_
         unfold wvC
         split
         ·have h1:=wave_len (restC (fa,fb,fc) r) (errV (fa,fb,fc) r)
          have h2:(restC (fa,fb,fc) r).length≤r.length:=by
           unfold restC
           simp only
           split <;> simp only[List.length_drop] <;> omega
          rw[List.length_cons]
          omega
         ·exact⟨Nat.zero_le _,Nat.zero_le _⟩
   ·exact h0
  ·exact h0
def refW (c:Crd) (k:Nat) (f:Nat × Bool × Bool):List Str:=if f.2.1=true∨k=120 then [c.ref] else []
def valW (c:Crd) (k:Nat) (f:Nat × Bool × Bool):List Str:=if f.2.2=true∧k≠120 then [textN c.value] else []
def wavW (c:Crd) (k:Nat):List Str:=if k=118∨k=105 then waveT c.wave else []
theorem wordsC_eq (c:Crd):wordsC c=c.name::c.nodes++refW c (c.name.getD 0 0) (shapeK (c.name.getD 0 0))++valW c (c.name.getD 0 0) (shapeK (c.name.getD 0 0))++wavW c (c.name.getD 0 0):=rfl
structure CW (c:Crd):Prop where
 n:By c.name∧c.name.length≤281474976710656
 d:BL c.nodes∧(∀ w∈c.nodes,w.length≤281474976710656)∧c.nodes.length≤9223372036854775807
 r:By c.ref∧c.ref.length≤281474976710656
 v:c.wave.vals.length≤9223372036854775807
 t:c.wave.steps.length≤9223372036854775807
 z:∀ z∈c.wave.steps,-9223372036854775808≤z∧z≤9223372036854775807
theorem textN_by (n:Num):By (textN n)∧(textN n).length≤20:=by
 unfold textN
 split
 ·rename_i h
  exact⟨NumH.textS_by _ _,Nat.le_trans (text_len _ _ ((NumH.ok_valid _ _).1 h)) (by decide)⟩
 ·exact⟨by_lit _ rfl,by decide⟩
theorem decS_le (z:Int) (h0 : -9223372036854775808≤z) (h1:z≤9223372036854775807):(decS z).length≤20:=by
 unfold decS
 split
 ·decide
 ·have:=decN_len z.natAbs 19 (by omega)
  rw[List.length_append]
  split
  ·rw[List.length_cons,List.length_nil];omega
  ·rw[List.length_nil];omega
theorem zip_mem:∀ (S:List Int) (V:List Num) (x:Str),x∈zipW S V→(∃ z∈S,x=decS z)∨∃ v∈V,x=textN v
 | [],_,x,h=>by simp [zipW] at h
 | _::_,[],x,h=>by simp [zipW] at h
 | a::S,b::V,x,h=>by
  have h':x∈decS a::textN b::zipW S V:=h
  rcases List.mem_cons.1 h' with rfl | h'
  ·exact .inl ⟨a,List.mem_cons_self ..,rfl⟩
  ·rcases List.mem_cons.1 h' with rfl | h'
   ·exact .inr ⟨b,List.mem_cons_self ..,rfl⟩
   ·rcases zip_mem S V x h' with ⟨z,hz,e⟩ | ⟨v,hv,e⟩
    ·exact .inl ⟨z,List.mem_cons_of_mem _ hz,e⟩
    ·exact .inr ⟨v,List.mem_cons_of_mem _ hv,e⟩
theorem zip_le:∀ (S:List Int) (V:List Num),(zipW S V).length≤2*V.length
 | [],_=>Nat.zero_le _
 | _::_,[]=>Nat.zero_le _
 | a::S,b::V=>by
  show (zipW S V).length+1+1≤_
  have:=zip_le S V
  rw[List.length_cons]
  omega
theorem waveT_by (w:Wv) (hz:∀ z∈w.steps,-9223372036854775808≤z∧z≤9223372036854775807):(waveT w).length≤1+2*(w.vals.length+w.steps.length)∧∀ x∈waveT w,By x∧x.length≤20:=by
 have hd:∀ z∈w.steps,By (decS z)∧(decS z).length≤20:=fun z h=>⟨decS_by z,decS_le z (hz z h).1 (hz z h).2⟩
 unfold waveT
 split
 ·refine⟨?_,fun x hx=>?_⟩
  ·have:=zip_le w.steps w.vals
   rw[List.length_cons]
   omega
  ·rcases List.mem_cons.1 hx with rfl | hx
   ·exact⟨by_lit _ rfl,by decide⟩
   ·rcases zip_mem _ _ _ hx with ⟨z,h,rfl⟩ | ⟨v,_,rfl⟩
    ·exact hd z h
    ·exact textN_by v
 ·refine⟨?_,fun x hx=>?_⟩
  ·have:(if w.kind=1 then [sDc] else if w.kind=2 then [sPulse] else if w.kind=4 then [sTable] else []).length≤1:=by (repeat' split) <;> decide
   rw[List.length_append,List.length_append,List.length_map,List.length_map]
   omega
  ·rcases List.mem_append.1 hx with hx | hx
   ·rcases List.mem_append.1 hx with hx | hx
    ·have:x=sDc∨x=sPulse∨x=sTable:=by
      split at hx
      ·exact .inl (List.mem_singleton.1 hx)
      ·split at hx
       ·exact .inr (.inl (List.mem_singleton.1 hx))
       ·split at hx
        ·exact .inr (.inr (List.mem_singleton.1 hx))
        ·cases hx
     rcases this with rfl | rfl | rfl
     ·exact⟨by_lit _ rfl,by decide⟩
     ·exact⟨by_lit _ rfl,by decide⟩
     ·exact⟨by_lit _ rfl,by decide⟩
    ·obtain⟨v,_,rfl⟩:=List.mem_map.1 hx
     exact textN_by v
   ·obtain⟨z,h,rfl⟩:=List.mem_map.1 hx
    exact hd z h
theorem words_by (c:Crd) (hc:CW c):∀ x∈wordsC c,By x∧x.length≤281474976710656:=by
 intro x hx
 rw[wordsC_eq] at hx
 rcases List.mem_append.1 hx with hx | hx
 ·rcases List.mem_append.1 hx with hx | hx
  ·rcases List.mem_append.1 hx with hx | hx
   ·rcases List.mem_cons.1 hx with rfl | hx
    ·exact hc.n
    ·exact⟨hc.d.1 x hx,hc.d.2.1 x hx⟩
   ·unfold refW at hx
    split at hx
    ·rw[List.mem_singleton.1 hx];exact hc.r
    ·cases hx
  ·unfold valW at hx
   split at hx
   ·rw[List.mem_singleton.1 hx];exact⟨(textN_by _).1,Nat.le_trans (textN_by _).2 (by decide)⟩
   ·cases hx
 ·unfold wavW at hx
  split at hx
  ·have:=(waveT_by c.wave hc.z).2 x hx
   exact⟨this.1,Nat.le_trans this.2 (by decide)⟩
  ·cases hx
theorem write_ax (c : Crd) (hc : CW c) : PCall Tryz.prog 21 [CA c] (PA (writeC c)) := by
  refine pcall_le fun s => ?_
  have hd := dev_ax c.name hc.n.1 (by have := hc.n.2; omega)
  have hno : ∀ q : ¬ (isDev c.name = true ∧ c.nodes.length ≤ 8 ∧ c.wave.vals.length ≤ 16 ∧ c.wave.steps.length ≤ 16), writeC c = ([], 70) := fun q => if_neg q
  obtain ⟨h1, h2, h3, h4, h5, h6⟩ := hc
  unfold CA TV NV IV iv
  unfold SV at hd ⊢
  by_cases q1 : isDev c.name = true
  · rw [q1] at hd
    by_cases q2 : c.nodes.length ≤ 8
    · by_cases q3 : c.wave.vals.length ≤ 16
      · by_cases q4 : c.wave.steps.length ≤ 16
        · refine acall_of Tryz.func21 rfl rfl (by simp [Tryz.ntmps21]) ?_; rw [Tryz.ntmps21, Tryz.results21]
          refine go rTI ?_
          refine aw_reg fun K hK => ?_; refine rn rTI ?_; refine cont_pure hd ?_; refine rn rTI ?_; refine hK _ _ ?_; clear hK K
          refine ifs ?_ ?_ <;> first | exact nope | intro hb
          have e1 := sl_len c.nodes
          have e2 := sl_take c.nodes
          have e3 := sl_one c.nodes
          refine go (J4 rTI @e1 @e2 @e3) ?_
          have hL : LI s ((((s.push [.v (.string (bs c.name)), .sl c.nodes.length (SL c.nodes), .v (.string (bs c.ref)), .v (.int .i64 c.value.1), .v (.int .i64 c.value.2), .v (.int .i64 c.wave.kind), .sl c.wave.vals.length (NC c.wave.vals), .sl c.wave.steps.length (IL c.wave.steps)]).push [.v (.string (bs c.name))]).kill (s.nx + 1)).push ([.v (.string (bs c.name))] ++ SL c.nodes)) [.v (.string (bs c.name)), .sl c.nodes.length (SL c.nodes), .v (.string (bs c.ref)), .v (.int .i64 c.value.1), .v (.int .i64 c.value.2), .v (.int .i64 c.wave.kind), .sl c.wave.vals.length (NC c.wave.vals), .sl c.wave.steps.length (IL c.wave.steps)] (s.nx + 1 + 1) (c.name :: c.nodes) := by
            refine ⟨?_, St.push_same _ _, ⟨by omega, Nat.lt_succ_self _⟩, fun k hk => ?_⟩
            · rw [St.push_ne (((s.push _).push _).kill _) _ _ (show s.nx ≠ s.nx + 1 + 1 by omega), St.kill_ne _ _ _ (by omega), St.push_ne (s.push _) _ _ (show s.nx ≠ s.nx + 1 by omega)]
              exact St.push_same _ _
            · rw [St.push_ne (((s.push _).push _).kill _) _ _ (show k ≠ s.nx + 1 + 1 by omega), St.kill_ne _ _ _ (by omega), St.push_ne (s.push _) _ _ (show k ≠ s.nx + 1 by omega), St.push_ne s _ _ (by omega)]
          generalize (((s.push [.v (.string (bs c.name)), .sl c.nodes.length (SL c.nodes), .v (.string (bs c.ref)), .v (.int .i64 c.value.1), .v (.int .i64 c.value.2), .v (.int .i64 c.wave.kind), .sl c.wave.vals.length (NC c.wave.vals), .sl c.wave.steps.length (IL c.wave.steps)]).push [.v (.string (bs c.name))]).kill (s.nx + 1)).push ([.v (.string (bs c.name))] ++ SL c.nodes) = s1 at *
          have hp : 0 < c.name.length := name_pos c.name (by unfold isDev at q1; rw [Bool.and_eq_true] at q1; exact q1.1)
          have lS := bs_size c.name
          have hg := bs_get c.name h1.1 0
          have gb := hL.b
          have hln : (c.name :: c.nodes).length = 1 + c.nodes.length := by rw [List.length_cons]; omega
          have hww := wordsC_eq c
          have hsh := shape_ax (c.name.getD 0 0)
          unfold shapeV at hsh
          refine go (J4 rTI @gb @lS @hg) ?_
          rw [← hln]
          have hl0 : (c.name :: c.nodes).length ≤ 9 := by omega
          generalize hL0 : c.name :: c.nodes = L0 at *
          generalize shapeK (c.name.getD 0 0) = f at *
          generalize hk0 : c.name.getD 0 0 = k at *
          obtain ⟨fa, fb, fc⟩ := f
          refine aw_reg fun K hK => ?_; refine rn rTI ?_; refine cont_pure hsh ?_; refine rn rTI ?_; refine hK _ _ ?_; clear hK K
          refine aw_seq ?_
          refine aw_only (fun e' s' => e'.n = 120 ∧ e'.m 1 = .ptr s.nx 0 ∧ e'.m 5 = .v (.int .u8 (k : Nat)) ∧ e'.m 8 = .v (.bool fc) ∧ ∃ id, e'.m 4 = .own id 0 (L0 ++ refW c k (fa, fb, fc)).length 1 ∧ LI s s' [.v (.string (bs c.name)), .sl c.nodes.length (SL c.nodes), .v (.string (bs c.ref)), .v (.int .i64 c.value.1), .v (.int .i64 c.value.2), .v (.int .i64 c.wave.kind), .sl c.wave.vals.length (NC c.wave.vals), .sl c.wave.steps.length (IL c.wave.steps)] id (L0 ++ refW c k (fa, fb, fc))) ?_ ?_
          · have gl := hL.l
            obtain ⟨o1, o2⟩ := hL.o
            have ll := sl_len L0
            have hA := hL.app (s1.push [SV c.ref]) (Nat.le_succ _) (fun k hk => St.push_ne s1 _ _ (by omega)) [c.ref]
            have hA2 : L0.length + 1 = (L0 ++ [c.ref]).length := by rw [List.length_append]; rfl
            unfold SV at hA
            cases fb with
            | true =>
              rw [show refW c k (fa, true, fc) = [c.ref] from if_pos (.inl rfl)]
              refine go rTI ?_
              refine ifs ?_ ?_ <;> first | exact nope | intro hb
              refine go (J4 rTI @gb @gl @ll) ?_
              refine ⟨rfl, ?_, ?_, ?_, ?_, s1.nx + 1, ?_, hA⟩
              all_goals ((first | refine rn rTI ?_ | exact rn0 rTI))
              all_goals (first | trivial | rfl | rw [hA2] | rw [hk2])
            | false =>
              by_cases hk : k = 120
              · have hk2 : (k : Int) = 120 := by omega
                rw [show refW c k (fa, false, fc) = [c.ref] from if_pos (.inr hk)]
                refine go (cj rTI @hk2) ?_
                refine ifs ?_ ?_ <;> first | exact nope | intro hb
                refine go (J4 rTI @gb @gl @ll) ?_
                refine ⟨rfl, ?_, ?_, ?_, ?_, s1.nx + 1, ?_, hA⟩
                all_goals ((first | refine rn rTI ?_ | exact rn0 rTI))
                all_goals (first | trivial | rfl | rw [hA2] | rw [hk2])
              · have hk2 : ¬ (k : Int) = 120 := by omega
                rw [show refW c k (fa, false, fc) = [] from if_neg (fun h => by rcases h with h | h; · cases h
                                                                                · exact hk h), List.append_nil]
                refine go (cj rTI @hk2) ?_
                refine ifs ?_ ?_ <;> first | exact nope | intro hb
                refine go rTI ?_
                exact ⟨s.nx + 1 + 1, rfl, hL⟩
          · clear hL gb e1 e2 e3 lS hg hsh
            have hl1 : (L0 ++ refW c k (fa, fb, fc)).length ≤ 10 := by
              rw [List.length_append]
              have : (refW c k (fa, fb, fc)).length ≤ 1 := by unfold refW; split <;> simp
              omega
            generalize L0 ++ refW c k (fa, fb, fc) = L1 at *
            rintro e2 s2 ⟨n1, p1, p5, p8, id, p4, hL⟩
            rw [then_normal]
            refine aw_seq ?_
            refine aw_only (fun e' s' => e'.n = 120 ∧ e'.m 1 = .ptr s.nx 0 ∧ e'.m 5 = .v (.int .u8 (k : Nat)) ∧ ∃ id, e'.m 4 = .own id 0 (L1 ++ valW c k (fa, fb, fc)).length 1 ∧ LI s s' [.v (.string (bs c.name)), .sl c.nodes.length (SL c.nodes), .v (.string (bs c.ref)), .v (.int .i64 c.value.1), .v (.int .i64 c.value.2), .v (.int .i64 c.wave.kind), .sl c.wave.vals.length (NC c.wave.vals), .sl c.wave.steps.length (IL c.wave.steps)] id (L1 ++ valW c k (fa, fb, fc))) ?_ ?_
            · have gb := hL.b
              have gl := hL.l
              obtain ⟨o1, o2⟩ := hL.o
              have ll := sl_len L1
              have hA := hL.app (s2.push [SV (textN c.value)]) (Nat.le_succ _) (fun k hk => St.push_ne s2 _ _ (by omega)) [textN c.value]
              have hA2 : L1.length + 1 = (L1 ++ [textN c.value]).length := by rw [List.length_append]; rfl
              have hp := ctext_ax c.value
              unfold NM SV at hp
              unfold SV at hA
              by_cases hk : fc = true ∧ k ≠ 120
              · obtain ⟨rfl, hk⟩ := hk
                have hk2 : ¬ (k : Int) = 120 := by omega
                rw [show valW c k (fa, fb, true) = [textN c.value] from if_pos ⟨rfl, hk⟩]
                refine go (J5 rTI @n1 @p5 @p8 @hk2) ?_
                refine ifs ?_ ?_ <;> first | exact nope | intro hb
                refine aw_reg fun K hK => ?_; refine rn (J6 rTI @p1 @p4 @gb @gl @ll) ?_; refine cont_pure hp ?_; refine rn (J6 rTI @p1 @p4 @gb @gl @ll) ?_; refine hK _ _ ?_; clear hK K
                refine go (J4 rTI @n1 @p1 @p5) ?_
                refine ⟨rfl, ?_, ?_, ?_, s2.nx + 1, ?_, hA⟩
                all_goals ((first | refine rn (J4 @n1 @p1 @p4 @p5) ?_ | exact rn0 (J4 @n1 @p1 @p4 @p5)))
                all_goals (first | trivial | rfl | rw [hA2] | rw [hk2])
              · rw [show valW c k (fa, fb, fc) = [] from if_neg hk, List.append_nil]
                cases fc with
                | false =>
                  refine go (J4 rTI @n1 @p5 @p8) ?_
                  refine ifs ?_ ?_ <;> first | exact nope | intro hb
                  refine go (J5 rTI @n1 @p1 @p5 @p4) ?_
                  exact ⟨id, rfl, hL⟩
                | true =>
                  have hk2 : (k : Int) = 120 := by
                    have : ¬ k ≠ 120 := fun h => hk ⟨rfl, h⟩
                    omega
                  refine go (J5 rTI @n1 @p5 @p8 @hk2) ?_
                  refine ifs ?_ ?_ <;> first | exact nope | intro hb
                  refine go (J5 rTI @n1 @p1 @p5 @p4) ?_
                  exact ⟨id, rfl, hL⟩
            · clear hL n1 p1 p4 p5 p8
              have hl2 : (L1 ++ valW c k (fa, fb, fc)).length ≤ 11 := by
                rw [List.length_append]
                have : (valW c k (fa, fb, fc)).length ≤ 1 := by unfold valW; split <;> simp
                omega
              generalize L1 ++ valW c k (fa, fb, fc) = L2 at *
              rintro e3 s3 ⟨n1, p1, p5, id2, p4, hL⟩
              rw [then_normal]
              refine aw_seq ?_
              refine aw_only (fun e' s' => e'.n = 120 ∧ e'.m 1 = .ptr s.nx 0 ∧ ∃ id, e'.m 4 = .own id 0 (L2 ++ wavW c k).length 1 ∧ LI s s' [.v (.string (bs c.name)), .sl c.nodes.length (SL c.nodes), .v (.string (bs c.ref)), .v (.int .i64 c.value.1), .v (.int .i64 c.value.2), .v (.int .i64 c.wave.kind), .sl c.wave.vals.length (NC c.wave.vals), .sl c.wave.steps.length (IL c.wave.steps)] id (L2 ++ wavW c k)) ?_ ?_
              · have gb := hL.b
                have gl := hL.l
                obtain ⟨o1, o2⟩ := hL.o
                have ll := sl_len L2
                have hA := hL.app s3 (Nat.le_refl _) (fun _ _ => rfl) (waveT c.wave)
                have hA2 : L2.length + (waveT c.wave).length = (L2 ++ waveT c.wave).length := by rw [List.length_append]
                have hp := writeW_ax c.wave (by omega) (by omega) h6
                have hwl := (waveT_by c.wave h6).1
                have e1 := sl_len (waveT c.wave)
                have e2 := sl_take (waveT c.wave)
                have e3 := sl_one (waveT c.wave)
                unfold WA NV IV iv TV at hp
                generalize hT : waveT c.wave = T at *
                by_cases hk : k = 118
                · have hk2 : (k : Int) = 118 := by omega
                  rw [show wavW c k = T from (if_pos (.inl hk)).trans hT]
                  refine go (J4 rTI @n1 @p5 @hk2) ?_
                  refine ifs ?_ ?_ <;> first | exact nope | intro hb
                  refine aw_reg fun K hK => ?_; refine rn (J9 rTI @p1 @p4 @gb @gl @ll @e1 @e2 @e3) ?_; refine cont_pure hp ?_; refine rn (J9 rTI @p1 @p4 @gb @gl @ll @e1 @e2 @e3) ?_; refine hK _ _ ?_; clear hK K
                  refine go (J3 rTI @n1 @p1) ?_
                  refine ⟨rfl, ?_, ?_, s3.nx, ?_, hA⟩
                  all_goals ((first | refine rn (J4 @n1 @p1 @p4 @p5) ?_ | exact rn0 (J4 @n1 @p1 @p4 @p5)))
                  all_goals (first | trivial | rfl | rw [hA2])
                · have hk2 : ¬ (k : Int) = 118 := by omega
                  by_cases hk3 : k = 105
                  · have hk4 : (k : Int) = 105 := by omega
                    rw [show wavW c k = T from (if_pos (.inr hk3)).trans hT]
                    refine go (J4 rTI @n1 @p5 @hk4) ?_
                    refine ifs ?_ ?_ <;> first | exact nope | intro hb
                    refine aw_reg fun K hK => ?_; refine rn (J9 rTI @p1 @p4 @gb @gl @ll @e1 @e2 @e3) ?_; refine cont_pure hp ?_; refine rn (J9 rTI @p1 @p4 @gb @gl @ll @e1 @e2 @e3) ?_; refine hK _ _ ?_; clear hK K
                    refine go (J3 rTI @n1 @p1) ?_
                    refine ⟨rfl, ?_, ?_, s3.nx, ?_, hA⟩
                    all_goals ((first | refine rn (J4 @n1 @p1 @p4 @p5) ?_ | exact rn0 (J4 @n1 @p1 @p4 @p5)))
                    all_goals (first | trivial | rfl | rw [hA2])
                  · have hk4 : ¬ (k : Int) = 105 := by omega
                    rw [show wavW c k = [] from if_neg (fun h => h.elim hk hk3), List.append_nil]
                    refine go (J5 rTI @n1 @p5 @hk2 @hk4) ?_
                    refine ifs ?_ ?_ <;> first | exact nope | intro hb
                    refine go (J4 rTI @n1 @p1 @p4) ?_
                    exact ⟨id2, rfl, hL⟩
              · clear hL n1 p1 p4 p5
                rintro e4 s4 ⟨n1, p1, id3, p4, hL⟩
                rw [then_normal]
                rw [← hww] at hL p4
                obtain ⟨o1, o2⟩ := hL.o
                have hwl : (wordsC c).length ≤ 100 := by
                  rw [hww, List.length_append]
                  have : (wavW c k).length ≤ 65 := by
                    unfold wavW
                    split
                    · have := (waveT_by c.wave h6).1
                      omega
                    · exact Nat.zero_le _
                  omega
                have hwb := words_by c ⟨h1, h2, h3, h4, h5, h6⟩
                have hrd := read_ax (wordsC c) (fun x hx => (hwb x hx).1) (fun x hx => (hwb x hx).2) (by omega)
                have hrb := read_by (wordsC c) (fun x hx => (hwb x hx).1)
                have hwr : writeC c = if (readC (wordsC c)).2 = 0 ∧ (readC (wordsC c)).1.ref = c.ref ∧ (readC (wordsC c)).1.value = c.value ∧ (readC (wordsC c)).1.nodes = c.nodes ∧ sameW (readC (wordsC c)).1.wave c.wave = true then (wordsC c, 0) else ([], 70) := if_pos ⟨q1, q2, q3, q4⟩
                rw [hwr]
                clear hwr hww hwb hno hln hl0 hl1 hl2 hL0
                generalize readC (wordsC c) = d at *
                generalize wordsC c = W at *
                obtain ⟨d, er⟩ := d
                simp only at hrb ⊢
                refine aw_freeze2 id3 _ hL.l (fun _ => false) fun e5 s5 f1 f2 f3 f4 => ?_
                have m1 : e5.n = 120 := f1.trans n1
                have m2 : e5.m 1 = .ptr s.nx 0 := by rw [f2, p1, frz_ptr_ne _ _ _ _ (by omega)]
                have m4 : e5.m 4 = .sl W.length (SL W) := by rw [f2, p4, frz_SL]; rfl
                have gb : s5.get s.nx = some [.v (.string (bs c.name)), .sl c.nodes.length (SL c.nodes), .v (.string (bs c.ref)), .v (.int .i64 c.value.1), .v (.int .i64 c.value.2), .v (.int .i64 c.wave.kind), .sl c.wave.vals.length (NC c.wave.vals), .sl c.wave.steps.length (IL c.wave.steps)] := by
                  rw [f4, if_neg (by omega), if_neg Bool.false_ne_true]
                  exact hL.b
                have fr : ∀ i, i < s.nx → s5.get i = s.get i := fun i hi => by
                  rw [f4, if_neg (by omega), if_neg Bool.false_ne_true]
                  exact hL.fr i hi
                have hnx : s.nx < s5.nx := by rw [f3]; omega
                clear f1 f2 f3 f4 n1 p1 p4 hL
                unfold RA CA SV TV NV IV iv at hrd
                simp only at hrd
                refine go (J3 rTI @m1 @m4) ?_
                refine aw_reg fun K hK => ?_; refine rn (J3 rTI @m1 @m4) ?_; refine cont_pure hrd ?_; refine rn (J3 rTI @m1 @m4) ?_; refine hK _ _ ?_; clear hK K
                have hrr := str_ne d.ref c.ref hrb.1 h3.1
                have hf5 : eqOk Tryz.prog 23 = true := by kernel_rfl
                have hf6 : (d.value.1 == c.value.1 && d.value.2 == c.value.2) = decide (d.value = c.value) := by rw [Bool.eq_iff_iff, decide_eq_true_eq, Prod.ext_iff]; simp
                have hnd := equalS_ax d.nodes c.nodes hrb.2.1 h2.1 (by omega) h2.2.2
                have hsw := sameW_ax d.wave c.wave (by omega) (by omega) h4 h5
                unfold TV at hnd
                unfold WA NV IV iv at hsw
                by_cases x1 : er = 0
                · by_cases x2 : d.ref = c.ref
                  · rw [decide_eq_true x2] at hrr
                    by_cases x3 : d.value = c.value
                    · rw [decide_eq_true x3] at hf6
                      by_cases x4 : d.nodes = c.nodes
                      · rw [decide_eq_true x4] at hnd
                        generalize sameW d.wave c.wave = x5 at *
                        cases x5 with
                        | true =>
                          rw [if_pos ⟨x1, x2, x3, x4, rfl⟩]
                          rw [then_normal]
                          refine aw_seq ?_
                          refine aw_seq ?_
                          refine aw_reg fun K hK => ?_; refine rn (J9 rTI @m1 @m2 @gb @hnx @x1 @hrr @hf5 @hf6) ?_; refine cont_pure hnd ?_; refine rn (J9 rTI @m1 @m2 @gb @hnx @x1 @hrr @hf5 @hf6) ?_; refine cont_pure hsw ?_; refine rn (J9 rTI @m1 @m2 @gb @hnx @x1 @hrr @hf5 @hf6) ?_; refine hK _ _ ?_; clear hK K
                          refine ifs ?_ ?_ <;> first | exact nope | intro hb
                          refine go (J3 rTI @m1 @m4) ?_
                          exact ⟨Le.refl _, pa_idf _, fun i hi => by rw [if_neg (by omega)]; exact fr i hi⟩
                        | false =>
                          rw [if_neg fun h => by cases h.2.2.2.2]
                          rw [then_normal]
                          refine aw_seq ?_
                          refine aw_seq ?_
                          refine aw_reg fun K hK => ?_; refine rn (J9 rTI @m1 @m2 @gb @hnx @x1 @hrr @hf5 @hf6) ?_; refine cont_pure hnd ?_; refine rn (J9 rTI @m1 @m2 @gb @hnx @x1 @hrr @hf5 @hf6) ?_; refine cont_pure hsw ?_; refine rn (J9 rTI @m1 @m2 @gb @hnx @x1 @hrr @hf5 @hf6) ?_; refine hK _ _ ?_; clear hK K
                          refine ifs ?_ ?_ <;> first | exact nope | intro hb
                          refine go (cj rTI @m1) ?_
                          exact ⟨pa_err 70, pa_idf _, fun i hi => by rw [if_neg (by omega)]; exact fr i hi⟩
                      · rw [decide_eq_false x4] at hnd
                        rw [if_neg fun h => x4 h.2.2.2.1]
                        rw [then_normal]
                        refine aw_seq ?_
                        refine aw_seq ?_
                        refine aw_reg fun K hK => ?_; refine rn (J9 rTI @m1 @m2 @gb @hnx @x1 @hrr @hf5 @hf6) ?_; refine cont_pure hnd ?_; refine rn (J9 rTI @m1 @m2 @gb @hnx @x1 @hrr @hf5 @hf6) ?_; refine hK _ _ ?_; clear hK K
                        refine ifs ?_ ?_ <;> first | exact nope | intro hb
                        refine go (cj rTI @m1) ?_
                        exact ⟨pa_err 70, pa_idf _, fun i hi => by rw [if_neg (by omega)]; exact fr i hi⟩
                    · rw [decide_eq_false x3] at hf6
                      rw [if_neg fun h => x3 h.2.2.1]
                      rw [then_normal]
                      refine aw_seq ?_
                      refine aw_seq ?_
                      refine go (J9 rTI @m1 @m2 @gb @hnx @x1 @hrr @hf5 @hf6) ?_
                      refine ifs ?_ ?_ <;> first | exact nope | intro hb
                      refine go (cj rTI @m1) ?_
                      exact ⟨pa_err 70, pa_idf _, fun i hi => by rw [if_neg (by omega)]; exact fr i hi⟩
                  · rw [decide_eq_false x2] at hrr
                    rw [if_neg fun h => x2 h.2.1]
                    rw [then_normal]
                    refine aw_seq ?_
                    refine aw_seq ?_
                    refine go (J7 rTI @m1 @m2 @gb @hnx @x1 @hrr) ?_
                    refine ifs ?_ ?_ <;> first | exact nope | intro hb
                    refine go (cj rTI @m1) ?_
                    exact ⟨pa_err 70, pa_idf _, fun i hi => by rw [if_neg (by omega)]; exact fr i hi⟩
                · rw [if_neg fun h => x1 h.1]
                  rw [then_normal]
                  refine aw_seq ?_
                  refine aw_seq ?_
                  refine go (J6 rTI @m1 @m2 @gb @hnx @x1) ?_
                  refine ifs ?_ ?_ <;> first | exact nope | intro hb
                  refine go (cj rTI @m1) ?_
                  exact ⟨pa_err 70, pa_idf _, fun i hi => by rw [if_neg (by omega)]; exact fr i hi⟩
        · rw [hno fun h => q4 h.2.2.2]
          refine acall_of Tryz.func21 rfl rfl (by simp [Tryz.ntmps21]) ?_; rw [Tryz.ntmps21, Tryz.results21]
          refine go rTI ?_
          refine aw_reg fun K hK => ?_; refine rn rTI ?_; refine cont_pure hd ?_; refine rn rTI ?_; refine hK _ _ ?_; clear hK K
          refine ifs ?_ ?_ <;> first | exact nope | intro hb
          refine go rTI ?_
          exact ⟨pa_err 70, pa_idf _, fun i hi => if_neg (by omega)⟩
      · rw [hno fun h => q3 h.2.2.1]
        refine acall_of Tryz.func21 rfl rfl (by simp [Tryz.ntmps21]) ?_; rw [Tryz.ntmps21, Tryz.results21]
        refine go rTI ?_
        refine aw_reg fun K hK => ?_; refine rn rTI ?_; refine cont_pure hd ?_; refine rn rTI ?_; refine hK _ _ ?_; clear hK K
        refine ifs ?_ ?_ <;> first | exact nope | intro hb
        refine go rTI ?_
        exact ⟨pa_err 70, pa_idf _, fun i hi => if_neg (by omega)⟩
    · rw [hno fun h => q2 h.2.1]
      refine acall_of Tryz.func21 rfl rfl (by simp [Tryz.ntmps21]) ?_; rw [Tryz.ntmps21, Tryz.results21]
      refine go rTI ?_
      refine aw_reg fun K hK => ?_; refine rn rTI ?_; refine cont_pure hd ?_; refine rn rTI ?_; refine hK _ _ ?_; clear hK K
      refine ifs ?_ ?_ <;> first | exact nope | intro hb
      refine go rTI ?_
      exact ⟨pa_err 70, pa_idf _, fun i hi => if_neg (by omega)⟩
  · rw [hno fun h => q1 h.1]
    rw [Bool.eq_false_iff.2 q1] at hd
    refine acall_of Tryz.func21 rfl rfl (by simp [Tryz.ntmps21]) ?_; rw [Tryz.ntmps21, Tryz.results21]
    refine go rTI ?_
    refine aw_reg fun K hK => ?_; refine rn rTI ?_; refine cont_pure hd ?_; refine rn rTI ?_; refine hK _ _ ?_; clear hK K
    refine ifs ?_ ?_ <;> first | exact nope | intro hb
    refine go rTI ?_
    exact ⟨pa_err 70, pa_idf _, fun i hi => if_neg (by omega)⟩
end CardK
namespace CardL
open Go Go.RowKit Ax Ti NumS NumT CardS CardP CardA CardB CardC CardD CardE CardF CardG CardH CardI CardJ CardK
open NumA (NM)
theorem rTI:type_of% (J18 @ti3 @ti4 @ti9 @ti5 @ti2 @ti43 @ti45 @ti44 @ti118 @ti23 @ti68 @ti31 @Nat.zero_add @tz0 @tz1 @tz3 @Nat.mul_one @Int.toNat_natCast):=cj @ti3 (J17 @ti4 @ti9 @ti5 @ti2 @ti43 @ti45 @ti44 @ti118 @ti23 @ti68 @ti31 @Nat.zero_add @tz0 @tz1 @tz3 @Nat.mul_one @Int.toNat_natCast)
def MA (m:Mdl):AV:=.ag [SV m.name,.v (.int .u8 m.kind),NV m.g,NV m.v]
theorem risingN_of:∀ (S:List Num),(∀ i,i+1<S.length→sLess (S.getD i (0,0)) (S.getD (i+1) (0,0))=true)→risingN S=true
 | [],_=>rfl
 | [_],_=>rfl
 | a::b::r,h=>by
  show (sLess a b&&risingN (b::r))=true
  rw[Bool.and_eq_true]
  refine⟨h 0 (by simp),risingN_of (b::r) fun i hi=>?_⟩
  have:=h (i+1) (by simpa using hi)
  simpa using this
theorem risingN_not:∀ (S:List Num) (i:Nat),i+1<S.length→sLess (S.getD i (0,0)) (S.getD (i+1) (0,0))=false→risingN S=false
 | [],_,h,_=>by simp at h
 | [_],_,h,_=>by simp at h
 | a::b::r,0,h,q=>by
  show (sLess a b&&risingN (b::r))=false
  have:sLess a b=false:=q
  rw[this,Bool.false_and]
 | a::b::r,i+1,h,q=>by
  show (sLess a b&&risingN (b::r))=false
  rw[risingN_not (b::r) i (by simpa using h) (by simpa using q),Bool.and_false]
def kindM (k:Int) (g v:List Num):Bool:=if k=115 then decide (g.length=2∧v.length=1) else if k=100 then decide (1≤g.length∧g.length≤4∧v.length+1=g.length)&&risingN v else false
theorem modelOk_eq (n:Str) (k:Int) (g v:List Num):modelOk ⟨n,k,g,v⟩=(isName n&&g.all valid&&v.all valid&&kindM k g v):=rfl
theorem mvalid_ax (m:Mdl) (hn:By m.name∧m.name.length≤281474976710656) (hg:m.g.length≤9223372036854775807) (hv:m.v.length≤9223372036854775807):PCall Tryz.prog 31 [MA m] (.v (.bool (modelOk m))):=by
 refine pcall_of fun s=>?_
 obtain⟨nm,kd,G,V⟩:=m
 rw[modelOk_eq]
 simp only at hn hg hv
 have hnm:=name_ax nm hn.1 (by have:=hn.2;omega)
 unfold MA NV
 unfold SV at hnm ⊢
 simp only
 cases hc:isName nm with
 | false=>
  rw[hc] at hnm
  rw[Bool.false_and,Bool.false_and,Bool.false_and]
  refine acall_of Tryz.func31 rfl rfl (by simp [Tryz.ntmps31]) ?_;rw[Tryz.ntmps31,Tryz.results31]
  refine go rTI ?_
  refine aw_reg fun K hK=>?_;refine rn rTI ?_;refine cont_pure hnm ?_;refine rn rTI ?_;refine hK _ _ ?_;clear hK K
  refine ifs ?_ ?_ <;> first | exact nope | intro hb
  refine go rTI ?_
  exact fun i hi=>if_neg (by omega)
 | true=>
  rw[hc] at hnm
  rw[Bool.true_and]
  refine acall_of Tryz.func31 rfl rfl (by simp [Tryz.ntmps31]) ?_;rw[Tryz.ntmps31,Tryz.results31]
  refine go rTI ?_
  refine aw_reg fun K hK=>?_;refine rn rTI ?_;refine cont_pure hnm ?_;refine rn rTI ?_;refine hK _ _ ?_;clear hK K
  refine ifs ?_ ?_ <;> first | exact nope | intro hb
  refine go rTI ?_
  refine aw_loop (fun m e s'=>∃ j,m=2-j∧j≤2∧e.n=93∧e.m 1=.ptr s.nx 0∧e.m 18=.ag [.sl G.length (NC G),.sl V.length (NC V)]∧e.m 19=.v (.int .i64 (j:Nat))∧(1≤j→G.all valid=true)∧(2≤j→V.all valid=true)∧s.nx<s'.nx∧s'.get s.nx=some [.v (.string (bs nm)),.v (.int .u8 kd),.sl G.length (NC G),.sl V.length (NC V)]∧∀ i,i<s.nx→s'.get i=s.get i) 2 ?_ ?_
  ·refine⟨0,by omega,by omega,?_,?_,?_,?_,fun h=>by omega,fun h=>by omega,Nat.lt_succ_self _,St.push_same _ _,fun i hi=>St.push_ne s _ _ (by omega)⟩
   all_goals ((first | refine rn rTI ?_ | exact rn0 rTI))
   all_goals (first | rfl | trivial)
  ·rintro m e s' ⟨j,rfl,hj,h1,k1,k18,k19,hG,hV,hn2,gb,fr⟩
   by_cases hj2:j<2
   ·obtain⟨L,hh,hbad,hok,hL⟩:∃ L:List Num,([AV.sl G.length (NC G),AV.sl V.length (NC V)].drop j).head?=some (.sl L.length (NC L))∧(L.all valid=false→(G.all valid&&V.all valid&&kindM kd G V)=false)∧(L.all valid=true→(1≤j+1→G.all valid=true)∧(2≤j+1→V.all valid=true))∧L.length≤9223372036854775807:=by
     match j,hj2 with
     | 0,_=>exact⟨G,rfl,fun h=>by rw[h,Bool.false_and,Bool.false_and],fun h=>⟨fun _=>h,fun q=>by omega⟩,hg⟩
     | 1,_=>exact⟨V,rfl,fun h=>by rw[h,Bool.and_false,Bool.false_and],fun h=>⟨fun _=>hG (by omega),fun _=>h⟩,hv⟩
    refine go (J3 rTI @h1 @k19) ?_
    refine ifs ?_ ?_ <;> first | exact nope | intro hb
    refine aw_skip ?_
    refine go (J5 rTI @h1 @k18 @k19 @hh) ?_
    clear hG hV hh
    refine aw_loop (fun m e2 s2=>∃ k,m=L.length-k∧k≤L.length∧e2.n=93∧e2.m 1=.ptr s.nx 0∧e2.m 18=.ag [.sl G.length (NC G),.sl V.length (NC V)]∧e2.m 19=.v (.int .i64 (j:Nat))∧e2.m 22=.sl L.length (NC L)∧e2.m 23=.v (.int .i64 L.length)∧e2.m 24=.v (.int .i64 (k:Nat))∧(L.take k).all valid=true∧s.nx<s2.nx∧s2.get s.nx=some [.v (.string (bs nm)),.v (.int .u8 kd),.sl G.length (NC G),.sl V.length (NC V)]∧∀ i,i<s.nx→s2.get i=s.get i) L.length ?_ ?_
    ·refine⟨0,by omega,by omega,?_,?_,?_,?_,?_,?_,?_,rfl,hn2,gb,fr⟩
     all_goals ((first | refine rn (J5 rTI @h1 @k1 @k18 @k19) ?_ | exact rn0 (J5 rTI @h1 @k1 @k18 @k19)))
     all_goals (first | rfl | trivial)
    ·clear h1 k1 k18 k19 hn2 gb fr
     rintro m e2 s2 ⟨k,rfl,hk,h1,k1,k18,k19,k22,k23,k24,ha,hn2,gb,fr⟩
     by_cases hk2:k<L.length
     ·have f1:=nc_at L k hk2
      have f2:2≤((NC L).drop (k*2)).length:=by rw[List.length_drop,nc_len];omega
      have hp:PCall Tryz.prog 30 [NM (L.getD k (0,0)).1 (L.getD k (0,0)).2] (.v (.bool (valid (L.getD k (0,0))))):=NumA.valid_ax _ _
      have ht:=take_all valid L (0,0) k hk2 ha
      have hf:=all_not valid L (0,0) k hk2
      unfold iv at f1
      unfold NM at hp
      generalize L.getD k (0,0)=n at *
      refine go (J4 rTI @h1 @k23 @k24) ?_
      refine ifs ?_ ?_ <;> first | exact nope | intro hb
      refine aw_skip ?_
      refine go (J6 rTI @h1 @k22 @k24 @f1 @f2) ?_
      refine aw_reg fun K hK=>?_;refine rn rTI ?_;refine cont_pure hp ?_;refine rn rTI ?_;refine hK _ _ ?_;clear hK K
      cases hc:valid n with
      | false=>
       rw[hbad (hf hc)]
       refine ifs ?_ ?_ <;> first | exact nope | intro hb
       refine go (cj rTI @h1) ?_
       exact fun i hi=>by rw[if_neg (by omega)];exact fr i hi
      | true=>
       rw[hc] at ht
       refine ifs ?_ ?_ <;> first | exact nope | intro hb
       refine go (J3 rTI @h1 @k24) ?_
       simp only[block_normal,loop_normal]
       refine⟨L.length-(k+1),by omega,k+1,rfl,by omega,?_,?_,?_,?_,?_,?_,?_,ht,?_,?_,?_⟩
       all_goals ((first | refine rn (J8 rTI @h1 @k1 @k18 @k19 @k22 @k23 @k24) ?_ | exact rn0 (J8 rTI @h1 @k1 @k18 @k19 @k22 @k23 @k24)))
       all_goals (first | rfl | trivial | (rw[St.nx_push];omega) | omega | (intro i hi;rw[if_neg (by omega)];exact fr i hi) | skip)
     ·obtain rfl:k=L.length:=by omega
      rw[List.take_length] at ha
      obtain⟨hG,hV⟩:=hok ha
      refine go (J5 rTI @h1 @k19 @k23 @k24) ?_
      refine ifs ?_ ?_ <;> first | exact nope | intro hb
      refine go (J3 rTI @h1 @k19) ?_
      simp only[block_normal,loop_normal]
      refine⟨2-(j+1),by omega,j+1,rfl,by omega,?_,?_,?_,?_,hG,hV,hn2,gb,fr⟩
      all_goals ((first | refine rn (J5 rTI @h1 @k1 @k18 @k19) ?_ | exact rn0 (J5 rTI @h1 @k1 @k18 @k19)))
      all_goals (first | rfl | trivial)
   ·obtain rfl:j=2:=by omega
    have hVa:∀ i,i<V.length→valid (V.getD i (0,0))=true:=fun i hi=>by
     rw[List.getD_eq_getElem?_getD,List.getElem?_eq_getElem hi]
     exact List.all_eq_true.1 (hV (by omega)) _ (List.getElem_mem _)
    rw[hG (by omega),hV (by omega),Bool.true_and,Bool.true_and]
    clear hG hV hj hj2
    unfold kindM
    by_cases q1:kd=115
    ·rw[if_pos q1]
     subst q1
     have hd2:decide (G.length=2∧V.length=1)=(decide (G.length=2)&&decide (V.length=1)):=by rw[Bool.decide_and]
     rw[hd2]
     refine go (J5 rTI @h1 @k1 @k19 @gb) ?_
     refine ifs ?_ ?_ <;> first | exact nope | intro hb
     refine go (J4 rTI @h1 @k1 @gb) ?_
     refine ifs ?_ ?_ <;> first | exact nope | intro hb
     by_cases c1:G.length=2
     ·by_cases c2:V.length=1
      ·rw[decide_eq_true c1,decide_eq_true c2]
       refine go (J4 rTI @h1 @k1 @gb) ?_
       exact fr
      ·rw[decide_eq_true c1,decide_eq_false c2]
       refine go (J4 rTI @h1 @k1 @gb) ?_
       exact fr
     ·rw[decide_eq_false c1,Bool.false_and]
      refine go (J4 rTI @h1 @k1 @gb) ?_
      exact fr
    rw[if_neg q1]
    by_cases q2:kd=100
    ·rw[if_pos q2]
     subst q2
     refine go (J5 rTI @h1 @k1 @k19 @gb) ?_
     refine ifs ?_ ?_ <;> first | exact nope | intro hb
     refine go (J4 rTI @h1 @k1 @gb) ?_
     refine ifs ?_ ?_ <;> first | exact nope | intro hb
     refine go (J4 rTI @h1 @k1 @gb) ?_
     refine ifs ?_ ?_ <;> first | exact nope | intro hb
     rcases (by omega:G.length<1∨(1≤G.length∧4<G.length)∨(1≤G.length∧G.length≤4∧¬V.length+1=G.length)∨(1≤G.length∧G.length≤4∧V.length+1=G.length)) with c | ⟨c1,c2⟩ | ⟨c1,c2,c3⟩ | ⟨c1,c2,c3⟩
     ·rw[decide_eq_false (fun h=>by omega),Bool.false_and]
      refine go (J4 rTI @h1 @k1 @gb) ?_
      refine ifs ?_ ?_ <;> first | exact nope | intro hb
      refine go (cj rTI @h1) ?_
      exact fr
     ·rw[decide_eq_false (fun h=>by omega),Bool.false_and]
      refine go (J4 rTI @h1 @k1 @gb) ?_
      refine ifs ?_ ?_ <;> first | exact nope | intro hb
      refine go (cj rTI @h1) ?_
      exact fr
     ·rw[decide_eq_false (fun h=>by omega),Bool.false_and]
      refine go (J4 rTI @h1 @k1 @gb) ?_
      refine ifs ?_ ?_ <;> first | exact nope | intro hb
      refine go (cj rTI @h1) ?_
      exact fr
     ·rw[decide_eq_true ⟨c1,c2,c3⟩,Bool.true_and]
      refine go (J4 rTI @h1 @k1 @gb) ?_
      refine ifs ?_ ?_ <;> first | exact nope | intro hb
      refine go (cj rTI @h1) ?_
      refine aw_loop (fun m e2 s2=>∃ j,m=V.length-j∧j≤V.length∧e2.n=93∧e2.m 1=.ptr s.nx 0∧e2.m 7=.v (.int .i64 ((j:Int)+1))∧(∀ i,i<j→i+1<V.length→sLess (V.getD i (0,0)) (V.getD (i+1) (0,0))=true)∧s2=s') V.length ?_ ?_
      ·refine⟨0,by omega,by omega,?_,?_,?_,fun i hi=>by omega,?_⟩
       all_goals ((first | refine rn (J3 rTI @h1 @k1) ?_ | exact rn0 (J3 rTI @h1 @k1)))
       all_goals (first | rfl | trivial)
      ·clear h1 k1 k18 k19
       rintro m e2 s2 ⟨j,rfl,hj,h1,k1,k7,hr,rfl⟩
       by_cases hj2:j+1<V.length
       ·have f1:=nc_at V j (by omega)
        have f2:2≤((NC V).drop (j*2)).length:=by rw[List.length_drop,nc_len];omega
        have f3:=nc_at V (j+1) hj2
        have f4:2≤((NC V).drop ((j+1)*2)).length:=by rw[List.length_drop,nc_len];omega
        have hcm:=NumB.cmp_ax (V.getD j (0,0)).1 (V.getD j (0,0)).2 (V.getD (j+1) (0,0)).1 (V.getD (j+1) (0,0)).2
        rw[NumB.cmpNN_eq,if_pos ⟨hVa j (by omega),hVa (j+1) hj2⟩,show @BigI.sgn=@RefC.sgn from rfl] at hcm
        have hnr:=risingN_not V j hj2
        have hpr:sLess (V.getD j (0,0)) (V.getD (j+1) (0,0))=true→∀ i,i<j+1→i+1<V.length→sLess (V.getD i (0,0)) (V.getD (i+1) (0,0))=true:=fun h i hi hi2=>by
         by_cases q:i=j
         ·subst q;exact h
         ·exact hr i (by omega) hi2
        have hsl:sLess (V.getD j (0,0)) (V.getD (j+1) (0,0))=decide (RefC.sgn ((RefM.ofN (V.getD j (0,0)).1 (V.getD j (0,0)).2).1*(RefM.ofN (V.getD (j+1) (0,0)).1 (V.getD (j+1) (0,0)).2).2-(RefM.ofN (V.getD (j+1) (0,0)).1 (V.getD (j+1) (0,0)).2).1*(RefM.ofN (V.getD j (0,0)).1 (V.getD j (0,0)).2).2)<0):=rfl
        rw[hsl] at hnr hpr
        clear hr hsl
        generalize hz:RefC.sgn ((RefM.ofN (V.getD j (0,0)).1 (V.getD j (0,0)).2).1*(RefM.ofN (V.getD (j+1) (0,0)).1 (V.getD (j+1) (0,0)).2).2-(RefM.ofN (V.getD (j+1) (0,0)).1 (V.getD (j+1) (0,0)).2).1*(RefM.ofN (V.getD j (0,0)).1 (V.getD j (0,0)).2).2)=z at hcm hnr hpr
        clear hz
        unfold iv at f1 f3
        unfold NM at hcm
        generalize V.getD (j+1) (0,0)=x1 at *
        generalize V.getD j (0,0)=x0 at *
        have hj3:(j:Int)+1-1=(j:Int):=by omega
        have hj4:((j:Int)+1).toNat=j+1:=by omega
        refine go (J5 rTI @h1 @k1 @k7 @gb) ?_
        refine ifs ?_ ?_ <;> first | exact nope | intro hb
        refine aw_skip ?_
        refine go rTI ?_
        refine aw_drw (.take 0 (.take 1 (.take 2 (.take 3 (.take 4 (.take 5 (.take 6 (.take 7 (.take 8 (.take 9 (.take 10 (.one 11 (.take 12 (.take 13 (.take 14 (.take 15 (.take 16 (.done)))))))))))))))))) [s.nx] (by kernel_rfl) (by kernel_rfl) fun K hK=>?_;refine dr (J11 rTI @h1 @k1 @k7 @gb @f1 @f2 @f3 @f4 @hj3 @hj4) ?_;refine cont_pure hcm ?_;refine dr (J11 rTI @h1 @k1 @k7 @gb @f1 @f2 @f3 @f4 @hj3 @hj4) ?_;refine hK _ _ ?_;clear hK K
        by_cases c:z<0
        ·refine go (cj rTI @h1) ?_
         refine ifs ?_ ?_ <;> first | exact nope | intro hb
         have hp2:=hpr (decide_eq_true c)
         refine go (J3 rTI @h1 @k7) ?_
         try simp only[block_normal,loop_normal]
         refine⟨V.length-(j+1),by omega,j+1,rfl,by omega,?_,?_,?_,hp2,?_⟩
         all_goals ((first | refine rn (J4 rTI @h1 @k1 @k7) ?_ | exact rn0 (J4 rTI @h1 @k1 @k7)))
         all_goals (first | rfl | trivial)
        ·refine go (cj rTI @h1) ?_
         refine ifs ?_ ?_ <;> first | exact nope | intro hb
         rw[hnr (decide_eq_false c)]
         refine go (cj rTI @h1) ?_
         exact fr
       ·have hR:risingN V=true:=risingN_of V fun i hi=>hr i (by omega) hi
        rw[hR]
        refine go (J5 rTI @h1 @k1 @k7 @gb) ?_
        refine ifs ?_ ?_ <;> first | exact nope | intro hb
        refine go (cj rTI @h1) ?_
        exact fr
    ·rw[if_neg q2]
     refine go (J5 rTI @h1 @k1 @k19 @gb) ?_
     refine ifs ?_ ?_ <;> first | exact nope | intro hb
     refine go (J4 rTI @h1 @k1 @gb) ?_
     refine ifs ?_ ?_ <;> first | exact nope | intro hb
     refine go (J4 rTI @h1 @k1 @gb) ?_
     refine ifs ?_ ?_ <;> first | exact nope | intro hb
     refine go (cj rTI @h1) ?_
     exact fr
end CardL
namespace CardR
open Go Go.RowKit Ax Ti NumS NumT CardS CardP CardA CardB CardC CardD CardE CardG CardH CardI CardL
open NumA (NM)
theorem rTI:type_of% (J18 @ti3 @ti4 @ti9 @ti5 @ti2 @ti43 @ti45 @ti44 @ti23 @ti47 @ti68 @ti49 @Nat.zero_add @tz0 @tz1 @tz3 @Nat.mul_one @Int.toNat_natCast):=cj @ti3 (J17 @ti4 @ti9 @ti5 @ti2 @ti43 @ti45 @ti44 @ti23 @ti47 @ti68 @ti49 @Nat.zero_add @tz0 @tz1 @tz3 @Nat.mul_one @Int.toNat_natCast)
theorem texts_ax (a b:List Str) (ga:BL a) (gb:BL b) (ha:a.length≤9223372036854775807) (hb':b.length≤9223372036854775807):PCall Tryz.prog 50 [TV a,TV b] (.v (.bool (decide (a=b)))):=by
 refine pcall_of fun s=>?_
 unfold TV
 by_cases hl:a.length=b.length
 ·refine acall_of Tryz.func50 rfl rfl (by simp [Tryz.ntmps50]) ?_;rw[Tryz.ntmps50,Tryz.results50]
  refine go (cj rTI @hl) ?_
  refine ifs ?_ ?_ <;> first | exact nope | intro hb
  refine go (cj rTI @hl) ?_
  refine aw_loop (fun m e s'=>∃ k,m=b.length-k∧k≤b.length∧e.n=26∧e.m 0=.sl b.length (SL a)∧e.m 1=.sl b.length (SL b)∧e.m 5=.v (.int .i64 (k:Nat))∧a.take k=b.take k∧s'=s) b.length ?_ ?_
  ·refine⟨0,by omega,by omega,?_⟩
   (repeat' refine And.intro ?_ ?_) <;> first | exact rfl | exact fnz (cj rTI @hl) | skip
  ·rintro m e s' ⟨k,rfl,hk,h1,k0,k1,k5,ht,rfl⟩
   by_cases hk2:k<b.length
   ·have ha2:k<a.length:=by omega
    have f1:=hd_SL a k ha2
    have f2:=hd_SL b k hk2
    have f3:=str_ne (a.getD k []) (b.getD k []) (bl_at a ga k) (bl_at b gb k)
    unfold SV at f1 f2
    refine go (J4 rTI @h1 @k0 @k5) ?_
    refine ifs ?_ ?_ <;> first | exact nope | intro hb
    refine aw_skip ?_
    refine go rTI ?_
    refine aw_drw (.take 0 (.take 1 (.take 2 (.take 3 (.take 4 (.take 5 (.take 6 (.take 7 (.take 8 (.done)))))))))) [] (by kernel_rfl) (by kernel_rfl) fun K hK=>?_;refine dr (J8 rTI @h1 @k0 @k1 @k5 @f1 @f2 @f3) ?_;refine hK _ _ ?_;clear hK K
    by_cases q:a.getD k []=b.getD k []
    ·have ht2:=take_eq hl ha2 ht q
     rw[decide_eq_true q]
     refine ifs ?_ ?_ <;> first | exact nope | intro hb
     refine go (J3 rTI @h1 @k5) ?_
     simp only[block_normal,loop_normal]
     refine⟨b.length-(k+1),by omega,k+1,rfl,by omega,?_,?_,?_,?_,ht2,trivial⟩
     all_goals ((first | refine rn (J4 @h1 @k0 @k1 @k5) ?_ | exact rn0 (J4 @h1 @k0 @k1 @k5)))
     all_goals rfl
    ·rw[decide_eq_false (ne_at q)]
     rw[decide_eq_false q]
     refine ifs ?_ ?_ <;> first | exact nope | intro hb
     exact go0 (cj rTI @h1)
   ·obtain rfl:k=b.length:=by omega
    rw[List.take_length,←hl,List.take_length] at ht
    rw[decide_eq_true ht]
    refine go (J4 rTI @h1 @k0 @k5) ?_
    refine ifs ?_ ?_ <;> first | exact nope | intro hb
    exact go0 (cj rTI @h1)
 ·rw[decide_eq_false fun h=>hl (by rw[h])]
  have hl2:¬((a.length:Int)=(b.length:Int)):=by omega
  refine acall_of Tryz.func50 rfl rfl (by simp [Tryz.ntmps50]) ?_;rw[Tryz.ntmps50,Tryz.results50]
  refine go rTI ?_
  refine ifs ?_ ?_ <;> first | exact nope | intro hb
  exact go0 rTI
theorem sameN_ax (a b:List Num) (ha:a.length≤9223372036854775807) (hb':b.length≤9223372036854775807):PCall Tryz.prog 90 [NV a,NV b] (.v (.bool (decide (a=b)))):=by
 refine pcall_of fun s=>?_
 unfold NV
 by_cases hl:a.length=b.length
 ·refine acall_of Tryz.func90 rfl rfl (by simp [Tryz.ntmps90]) ?_;rw[Tryz.ntmps90,Tryz.results90]
  refine go (cj rTI @hl) ?_
  refine ifs ?_ ?_ <;> first | exact nope | intro hb
  refine go (cj rTI @hl) ?_
  refine aw_loop (fun m e s'=>∃ k,m=b.length-k∧k≤b.length∧e.n=26∧e.m 0=.sl b.length (NC a)∧e.m 1=.sl b.length (NC b)∧e.m 5=.v (.int .i64 (k:Nat))∧a.take k=b.take k∧s'=s) b.length ?_ ?_
  ·refine⟨0,by omega,by omega,?_⟩
   (repeat' refine And.intro ?_ ?_) <;> first | exact rfl | exact fnz (cj rTI @hl) | skip
  ·rintro m e s' ⟨k,rfl,hk,h1,k0,k1,k5,ht,rfl⟩
   by_cases hk2:k<b.length
   ·have ha2:k<a.length:=by omega
    have f1:=nc_at a k ha2
    have f2:=nc_at b k hk2
    have f3:2≤((NC a).drop (k*2)).length:=by rw[List.length_drop,nc_len];omega
    have f4:2≤((NC b).drop (k*2)).length:=by rw[List.length_drop,nc_len];omega
    unfold iv at f1 f2
    have f5:eqOk Tryz.prog 23=true:=by kernel_rfl
    have f6:((a.getD k (0,0)).1==(b.getD k (0,0)).1&&(a.getD k (0,0)).2==(b.getD k (0,0)).2)=decide (a.getD k (0,0)=b.getD k (0,0)):=by rw[Bool.eq_iff_iff,decide_eq_true_eq,Prod.ext_iff];simp
    refine go (J4 rTI @h1 @k0 @k5) ?_
    refine ifs ?_ ?_ <;> first | exact nope | intro hb
    refine aw_skip ?_
    refine go rTI ?_
    refine aw_drw (.take 0 (.take 1 (.take 2 (.take 3 (.take 4 (.take 5 (.take 6 (.take 7 (.take 8 (.done)))))))))) [] (by kernel_rfl) (by kernel_rfl) fun K hK=>?_;refine dr (J11 rTI @h1 @k0 @k1 @k5 @f1 @f2 @f3 @f4 @f5 @f6) ?_;refine hK _ _ ?_;clear hK K
    by_cases q:a.getD k (0,0)=b.getD k (0,0)
    ·have ht2:=take_eq hl ha2 ht q
     rw[decide_eq_true q]
     refine ifs ?_ ?_ <;> first | exact nope | intro hb
     refine go (J3 rTI @h1 @k5) ?_
     simp only[block_normal,loop_normal]
     refine⟨b.length-(k+1),by omega,k+1,rfl,by omega,?_,?_,?_,?_,ht2,trivial⟩
     all_goals ((first | refine rn (J4 @h1 @k0 @k1 @k5) ?_ | exact rn0 (J4 @h1 @k0 @k1 @k5)))
     all_goals rfl
    ·rw[decide_eq_false (ne_at q)]
     rw[decide_eq_false q]
     refine ifs ?_ ?_ <;> first | exact nope | intro hb
     exact go0 (cj rTI @h1)
   ·obtain rfl:k=b.length:=by omega
    rw[List.take_length,←hl,List.take_length] at ht
    rw[decide_eq_true ht]
    refine go (J4 rTI @h1 @k0 @k5) ?_
    refine ifs ?_ ?_ <;> first | exact nope | intro hb
    exact go0 (cj rTI @h1)
 ·rw[decide_eq_false fun h=>hl (by rw[h])]
  have hl2:¬((a.length:Int)=(b.length:Int)):=by omega
  refine acall_of Tryz.func90 rfl rfl (by simp [Tryz.ntmps90]) ?_;rw[Tryz.ntmps90,Tryz.results90]
  refine go rTI ?_
  refine ifs ?_ ?_ <;> first | exact nope | intro hb
  exact go0 rTI
def sameM (a b:Mdl):Bool:=decide (a.name=b.name)&&(decide (a.kind=b.kind)&&(decide (a.g=b.g)&&decide (a.v=b.v)))
theorem sameM_ax (a b:Mdl) (ga:By a.name) (gb:By b.name) (h1:a.g.length≤9223372036854775807) (h2:b.g.length≤9223372036854775807) (h3:a.v.length≤9223372036854775807) (h4:b.v.length≤9223372036854775807) :
  PCall Tryz.prog 49 [MA a,MA b] (.v (.bool (sameM a b))):=by
 refine pcall_of fun s=>?_
 have e1:=str_eq a.name b.name ga gb
 have hg:=sameN_ax a.g b.g h1 h2
 have hv:=sameN_ax a.v b.v h3 h4
 unfold sameM
 unfold MA SV NV at *
 by_cases q1:a.name=b.name
 ·rw[decide_eq_true q1] at e1
  rw[decide_eq_true q1,Bool.true_and]
  by_cases q2:a.kind=b.kind
  ·rw[decide_eq_true q2,Bool.true_and]
   generalize decide (a.g=b.g)=c1 at *
   generalize decide (a.v=b.v)=c2 at *
   cases c1 with
   | false=>
    rw[Bool.false_and]
    refine acall_of Tryz.func49 rfl rfl (by simp [Tryz.ntmps49]) ?_;rw[Tryz.ntmps49,Tryz.results49]
    refine go rTI ?_
    refine aw_reg fun K hK=>?_;refine rn (J3 rTI @e1 @q2) ?_;refine cont_pure hg ?_;refine rn (J3 rTI @e1 @q2) ?_;refine hK _ _ ?_;clear hK K
    refine go rTI ?_
    exact fun i hi=>by rw[if_neg (by omega),if_neg (by omega)]
   | true=>
    rw[Bool.true_and]
    refine acall_of Tryz.func49 rfl rfl (by simp [Tryz.ntmps49]) ?_;rw[Tryz.ntmps49,Tryz.results49]
    refine go rTI ?_
    refine aw_reg fun K hK=>?_;refine rn (J3 rTI @e1 @q2) ?_;refine cont_pure hg ?_;refine rn (J3 rTI @e1 @q2) ?_;refine cont_pure hv ?_;refine rn (J3 rTI @e1 @q2) ?_;refine hK _ _ ?_;clear hK K
    refine go rTI ?_
    exact fun i hi=>by rw[if_neg (by omega),if_neg (by omega)]
  ·rw[decide_eq_false q2,Bool.false_and]
   refine acall_of Tryz.func49 rfl rfl (by simp [Tryz.ntmps49]) ?_;rw[Tryz.ntmps49,Tryz.results49]
   refine go (J3 rTI @e1 @q2) ?_
   exact fun i hi=>by rw[if_neg (by omega),if_neg (by omega)]
 ·rw[decide_eq_false q1] at e1
  rw[decide_eq_false q1,Bool.false_and]
  refine acall_of Tryz.func49 rfl rfl (by simp [Tryz.ntmps49]) ?_;rw[Tryz.ntmps49,Tryz.results49]
  refine go (cj rTI @e1) ?_
  exact fun i hi=>by rw[if_neg (by omega),if_neg (by omega)]
def sameV (a b:Wv):Bool:=decide (a.kind=b.kind)&&(decide (a.steps=b.steps)&&decide (a.vals=b.vals))
theorem sameV_ax (a b:Wv) (h1:a.vals.length≤9223372036854775807) (h2:a.steps.length≤9223372036854775807) (h3:b.vals.length≤9223372036854775807) (h4:b.steps.length≤9223372036854775807) :
  PCall Tryz.prog 51 [WA a,WA b] (.v (.bool (sameV a b))):=by
 refine pcall_of fun s=>?_
 have hv:=sameN_ax a.vals b.vals h1 h3
 unfold sameV
 obtain⟨ka,va,sa⟩:=a
 obtain⟨kb,vb,sb⟩:=b
 simp only at h1 h2 h3 h4 hv ⊢
 unfold WA NV IV iv at *
 simp only
 by_cases q1:ka=kb
 ·rw[decide_eq_true q1,Bool.true_and]
  by_cases q2:sa.length=sb.length
  ·refine acall_of Tryz.func51 rfl rfl (by simp [Tryz.ntmps51]) ?_;rw[Tryz.ntmps51,Tryz.results51]
   refine go (J3 rTI @q1 @q2) ?_
   refine ifs ?_ ?_ <;> first | exact nope | intro hb
   refine go (cj rTI @q2) ?_
   have g1:((s.push [.v (.int .i64 kb),.sl va.length (NC va),.sl sb.length (IL sa)]).push [.v (.int .i64 kb),.sl vb.length (NC vb),.sl sb.length (IL sb)]).get s.nx=some [.v (.int .i64 kb),.sl va.length (NC va),.sl sb.length (IL sa)]:=by
    rw[St.push_ne (s.push _) _ _ (show s.nx≠s.nx+1 by omega)]
    exact St.push_same _ _
   have g2:((s.push [.v (.int .i64 kb),.sl va.length (NC va),.sl sb.length (IL sa)]).push [.v (.int .i64 kb),.sl vb.length (NC vb),.sl sb.length (IL sb)]).get (s.nx+1)=some [.v (.int .i64 kb),.sl vb.length (NC vb),.sl sb.length (IL sb)]:=St.push_same (s.push _) _
   have fr:∀ i,i<s.nx→((s.push [.v (.int .i64 kb),.sl va.length (NC va),.sl sb.length (IL sa)]).push [.v (.int .i64 kb),.sl vb.length (NC vb),.sl sb.length (IL sb)]).get i=s.get i:=fun i hi=>by
    rw[St.push_ne (s.push _) _ _ (show i≠s.nx+1 by omega),St.push_ne s _ _ (by omega)]
   generalize (s.push [.v (.int .i64 kb),.sl va.length (NC va),.sl sb.length (IL sa)]).push [.v (.int .i64 kb),.sl vb.length (NC vb),.sl sb.length (IL sb)]=s1 at *
   refine aw_loop (fun m e s'=>∃ k,m=sb.length-k∧k≤sb.length∧e.n=43∧e.m 2=.ptr s.nx 0∧e.m 3=.ptr (s.nx+1) 0∧e.m 5=.v (.int .i64 (k:Nat))∧sa.take k=sb.take k∧s'=s1) sb.length ?_ ?_
   ·refine⟨0,by omega,by omega,?_,?_,?_,?_,rfl,rfl⟩
    all_goals ((first | refine rn rTI ?_ | exact rn0 rTI))
    all_goals (first | rfl | trivial)
   ·rintro m e s' ⟨k,rfl,hk,h1,k2,k3,k5,ht,rfl⟩
    by_cases hk2:k<sb.length
    ·have ha2:k<sa.length:=by omega
     have f1:=hd_IL sa k ha2
     have f2:=hd_IL sb k hk2
     unfold iv at f1 f2
     refine go (J5 rTI @h1 @k2 @k5 @g1) ?_
     refine ifs ?_ ?_ <;> first | exact nope | intro hb
     refine aw_skip ?_
     refine go rTI ?_
     refine aw_drw (.take 0 (.take 1 (.take 2 (.take 3 (.take 4 (.take 5 (.take 6 (.take 7 (.take 8 (.take 9 (.take 10 (.done)))))))))))) [s.nx,s.nx+1] (by kernel_rfl) (by kernel_rfl) fun K hK=>?_;refine dr (J9 rTI @h1 @k2 @k3 @k5 @g1 @g2 @f1 @f2) ?_;refine hK _ _ ?_;clear hK K
     by_cases q:sa.getD k 0=sb.getD k 0
     ·have ht2:=take_eq q2 ha2 ht q
      refine ifs ?_ ?_ <;> first | exact nope | intro hb
      refine go (J3 rTI @h1 @k5) ?_
      simp only[block_normal,loop_normal]
      refine⟨sb.length-(k+1),by omega,k+1,rfl,by omega,?_,?_,?_,?_,ht2,trivial⟩
      all_goals ((first | refine rn (J4 @h1 @k2 @k3 @k5) ?_ | exact rn0 (J4 @h1 @k2 @k3 @k5)))
      all_goals rfl
     ·rw[decide_eq_false (ne_at q),Bool.false_and]
      refine ifs ?_ ?_ <;> first | exact nope | intro hb
      refine go (cj rTI @h1) ?_
      exact fr
    ·obtain rfl:k=sb.length:=by omega
     rw[List.take_length,←q2,List.take_length] at ht
     rw[decide_eq_true ht,Bool.true_and]
     refine go (J5 rTI @h1 @k2 @k5 @g1) ?_
     refine ifs ?_ ?_ <;> first | exact nope | intro hb
     refine go (J6 rTI @h1 @k2 @k3 @g1 @g2) ?_
     refine aw_reg fun K hK=>?_;refine rn (J6 rTI @h1 @k2 @k3 @g1 @g2) ?_;refine cont_pure hv ?_;refine rn (J6 rTI @h1 @k2 @k3 @g1 @g2) ?_;refine hK _ _ ?_;clear hK K
     refine go (cj rTI @h1) ?_
     exact fr
  ·have q3:¬(sa.length:Int)=(sb.length:Int):=by omega
   rw[decide_eq_false (show ¬sa=sb from fun h=>q2 (by rw[h])),Bool.false_and]
   refine acall_of Tryz.func51 rfl rfl (by simp [Tryz.ntmps51]) ?_;rw[Tryz.ntmps51,Tryz.results51]
   refine go (J3 rTI @q1 @q3) ?_
   refine ifs ?_ ?_ <;> first | exact nope | intro hb
   refine go rTI ?_
   exact fun i hi=>by rw[if_neg (by omega),if_neg (by omega)]
 ·rw[decide_eq_false q1,Bool.false_and]
  refine acall_of Tryz.func51 rfl rfl (by simp [Tryz.ntmps51]) ?_;rw[Tryz.ntmps51,Tryz.results51]
  refine go (cj rTI @q1) ?_
  refine ifs ?_ ?_ <;> first | exact nope | intro hb
  refine go rTI ?_
  exact fun i hi=>by rw[if_neg (by omega),if_neg (by omega)]
def sameC (a b:Crd):Bool:=decide (a.name=b.name)&&(decide (a.nodes=b.nodes)&&(decide (a.ref=b.ref)&&(decide (a.value=b.value)&&sameV a.wave b.wave)))
structure CB (c:Crd):Prop where
 n:By c.name
 d:BL c.nodes∧c.nodes.length≤9223372036854775807
 r:By c.ref
 v:c.wave.vals.length≤9223372036854775807
 t:c.wave.steps.length≤9223372036854775807
theorem sameC_ax (a b:Crd) (ha:CB a) (hb:CB b):PCall Tryz.prog 16 [CA a,CA b] (.v (.bool (sameC a b))):=by
 refine pcall_of fun s=>?_
 have e1:=str_eq a.name b.name ha.n hb.n
 have e2:=texts_ax a.nodes b.nodes ha.d.1 hb.d.1 ha.d.2 hb.d.2
 have e3:=str_eq a.ref b.ref ha.r hb.r
 have e5:=sameV_ax a.wave b.wave ha.v ha.t hb.v hb.t
 have f5:eqOk Tryz.prog 23=true:=by kernel_rfl
 have f6:(a.value.1==b.value.1&&a.value.2==b.value.2)=decide (a.value=b.value):=by rw[Bool.eq_iff_iff,decide_eq_true_eq,Prod.ext_iff];simp
 unfold sameC
 unfold CA WA SV TV NV IV iv at *
 generalize sameV a.wave b.wave=x5 at *
 by_cases q1:a.name=b.name
 ·rw[decide_eq_true q1] at e1
  rw[decide_eq_true q1,Bool.true_and]
  by_cases q2:a.nodes=b.nodes
  ·rw[decide_eq_true q2] at e2
   rw[decide_eq_true q2,Bool.true_and]
   by_cases q3:a.ref=b.ref
   ·rw[decide_eq_true q3] at e3
    rw[decide_eq_true q3,Bool.true_and]
    by_cases q4:a.value=b.value
    ·rw[decide_eq_true q4] at f6
     rw[decide_eq_true q4,Bool.true_and]
     refine acall_of Tryz.func16 rfl rfl (by simp [Tryz.ntmps16]) ?_;rw[Tryz.ntmps16,Tryz.results16]
     refine go rTI ?_
     refine aw_reg fun K hK=>?_;refine rn (cj rTI @e1) ?_;refine cont_pure e2 ?_;refine rn (J5 rTI @e1 @e3 @f5 @f6) ?_;refine cont_pure e5 ?_;refine rn (cj rTI @e1) ?_;refine hK _ _ ?_;clear hK K
     refine go rTI ?_
     exact fun i hi=>by rw[if_neg (by omega),if_neg (by omega)]
    ·rw[decide_eq_false q4] at f6
     rw[decide_eq_false q4,Bool.false_and]
     refine acall_of Tryz.func16 rfl rfl (by simp [Tryz.ntmps16]) ?_;rw[Tryz.ntmps16,Tryz.results16]
     refine go rTI ?_
     refine aw_reg fun K hK=>?_;refine rn (J5 rTI @e1 @e3 @f5 @f6) ?_;refine cont_pure e2 ?_;refine rn (J5 rTI @e1 @e3 @f5 @f6) ?_;refine hK _ _ ?_;clear hK K
     refine go rTI ?_
     exact fun i hi=>by rw[if_neg (by omega),if_neg (by omega)]
   ·rw[decide_eq_false q3] at e3
    rw[decide_eq_false q3,Bool.false_and]
    refine acall_of Tryz.func16 rfl rfl (by simp [Tryz.ntmps16]) ?_;rw[Tryz.ntmps16,Tryz.results16]
    refine go rTI ?_
    refine aw_reg fun K hK=>?_;refine rn (J3 rTI @e1 @e3) ?_;refine cont_pure e2 ?_;refine rn (J3 rTI @e1 @e3) ?_;refine hK _ _ ?_;clear hK K
    refine go rTI ?_
    exact fun i hi=>by rw[if_neg (by omega),if_neg (by omega)]
  ·rw[decide_eq_false q2] at e2
   rw[decide_eq_false q2,Bool.false_and]
   refine acall_of Tryz.func16 rfl rfl (by simp [Tryz.ntmps16]) ?_;rw[Tryz.ntmps16,Tryz.results16]
   refine go rTI ?_
   refine aw_reg fun K hK=>?_;refine rn (cj rTI @e1) ?_;refine cont_pure e2 ?_;refine rn (cj rTI @e1) ?_;refine hK _ _ ?_;clear hK K
   refine go rTI ?_
   exact fun i hi=>by rw[if_neg (by omega),if_neg (by omega)]
 ·rw[decide_eq_false q1] at e1
  rw[decide_eq_false q1,Bool.false_and]
  refine acall_of Tryz.func16 rfl rfl (by simp [Tryz.ntmps16]) ?_;rw[Tryz.ntmps16,Tryz.results16]
  refine go (cj rTI @e1) ?_
  exact fun i hi=>by rw[if_neg (by omega),if_neg (by omega)]
end CardR
namespace CardM
open Go Go.RowKit Ax Ti NumS NumT CardS CardP CardA CardB CardC CardD CardE CardF CardG CardH CardI CardJ CardK CardL
open NumA (NM)
theorem rTI:type_of% (J18 @ti3 @ti4 @ti9 @ti5 @ti2 @ti53 @ti43 @ti45 @ti44 @ti23 @ti68 @ti31 @Nat.zero_add @tz0 @tz1 @tz3 @Nat.mul_one @Int.toNat_natCast):=cj @ti3 (J17 @ti4 @ti9 @ti5 @ti2 @ti53 @ti43 @ti45 @ti44 @ti23 @ti68 @ti31 @Nat.zero_add @tz0 @tz1 @tz3 @Nat.mul_one @Int.toNat_natCast)
theorem zipM_take:∀ (vs gs:List Num) (j:Nat),j<vs.length→j<gs.length→zipM (vs.take (j+1)) (gs.take (j+1))=zipM (vs.take j) (gs.take j)++[textN (vs.getD j (0,0)),textN (gs.getD j (0,0))]
 | [],_,_,h,_=>absurd h (Nat.not_lt_zero _)
 | _::_,[],_,_,h=>absurd h (Nat.not_lt_zero _)
 | a::S,b::V,0,_,_=>by
  simp [zipM]
 | a::S,b::V,j+1,h1,h2=>by
  have:=zipM_take S V j (Nat.lt_of_succ_lt_succ h1) (Nat.lt_of_succ_lt_succ h2)
  rw[List.take_succ_cons,List.take_succ_cons,List.take_succ_cons,List.take_succ_cons,List.getD_cons_succ,List.getD_cons_succ]
  show textN a::textN b::zipM _ _=textN a::textN b::zipM _ _++_
  rw[this]
  rfl
theorem zipM_le:∀ (S V:List Num),(zipM S V).length≤2*S.length
 | [],_=>Nat.zero_le _
 | _::_,[]=>Nat.zero_le _
 | a::S,b::V=>by
  show (zipM S V).length+1+1≤_
  have:=zipM_le S V
  rw[List.length_cons]
  omega
theorem ok_form (m:Mdl) (h:modelOk m=true):(m.kind=115∨m.kind=100)∧m.v.length+1=m.g.length∧m.g.length≤4:=by
 obtain⟨nm,k,G,V⟩:=m
 rw[modelOk_eq,Bool.and_eq_true] at h
 have h2:=h.2
 unfold kindM at h2
 by_cases q1:k=115
 ·rw[if_pos q1,decide_eq_true_eq] at h2
  exact⟨.inl q1,by show V.length+1=G.length;omega,by show G.length≤4;omega⟩
 ·rw[if_neg q1] at h2
  by_cases q2:k=100
  ·rw[if_pos q2,Bool.and_eq_true,decide_eq_true_eq] at h2
   exact⟨.inr q2,h2.1.2.2,h2.1.2.1⟩
  ·rw[if_neg q2] at h2
   cases h2
theorem writeM_ax (m:Mdl) (hn:By m.name∧m.name.length≤281474976710656) (hg:m.g.length≤9223372036854775807) (hv:m.v.length≤9223372036854775807):PCall Tryz.prog 23 [MA m] (PA (writeM m)):=by
 have hva:=mvalid_ax m hn hg hv
 unfold writeM
 cases hok:modelOk m with
 | false=>
  rw[hok] at hva
  rw[if_neg Bool.false_ne_true]
  refine pcall_le fun s=>?_
  unfold MA SV NV at *
  refine acall_of Tryz.func23 rfl rfl (by simp [Tryz.ntmps23]) ?_;rw[Tryz.ntmps23,Tryz.results23]
  refine go rTI ?_
  refine aw_reg fun K hK=>?_;refine rn rTI ?_;refine cont_pure hva ?_;refine rn rTI ?_;refine hK _ _ ?_;clear hK K
  refine ifs ?_ ?_ <;> first | exact nope | intro hb
  refine go rTI ?_
  exact⟨pa_err 50,pa_idf _,fun i hi=>if_neg (by omega)⟩
 | true=>
  rw[hok] at hva
  rw[if_pos rfl]
  obtain⟨hk,hl1,hl2⟩:=ok_form m hok
  obtain⟨nm,kd,G,V⟩:=m
  simp only at hn hg hv hk hl1 hl2
  match G,hl1 with
  | g0::gs,hl1=>
  rw[List.length_cons] at hl1 hl2
  have hT:modelT ⟨nm,kd,g0::gs,V⟩=sModel::nm::[kd.toNat]::textN g0::zipM V gs:=rfl
  rw[hT]
  have hp0:=ctext_ax g0
  have f1:(NC (g0::gs)).take 2=[iv g0.1,iv g0.2]:=rfl
  have f2:2≤(NC (g0::gs)).length:=by rw[nc_len,List.length_cons];omega
  have ht2:(kd.toNat=115∨kd.toNat=100)∧isByte (.v (.int .u8 kd))=true∧bs [kd.toNat]=ByteArray.mk #[unbyte (.v (.int .u8 kd))]:=by
   rcases hk with rfl | rfl
   ·exact⟨.inl rfl,rfl,rfl⟩
   ·exact⟨.inr rfl,rfl,rfl⟩
  obtain⟨hk2,ib,ub⟩:=ht2
  refine pcall_own (pa_idf _) fun s=>?_
  unfold MA SV NV NM at *
  unfold iv at f1
  refine acall_of Tryz.func23 rfl rfl (by simp [Tryz.ntmps23]) ?_;rw[Tryz.ntmps23,Tryz.results23]
  refine go rTI ?_
  refine aw_reg fun K hK=>?_;refine rn rTI ?_;refine cont_pure hva ?_;refine rn rTI ?_;refine hK _ _ ?_;clear hK K
  refine ifs ?_ ?_ <;> first | exact nope | intro hb
  refine go rTI ?_
  refine aw_only (fun e' s'=>e'.n=44∧e'.m 1=.ptr s.nx 0∧∃ id,e'.m 4=.own id 0 4 1∧LI s s' [.v (.string (bs nm)),.v (.int .u8 kd),.sl (gs.length+1) (NC (g0::gs)),.sl V.length (NC V)] id [sModel,nm,[kd.toNat],textN g0]) ?_ ?_
  ·have hL:LI s (((s.push [.v (.string (bs nm)),.v (.int .u8 kd),.sl (gs.length+1) (NC (g0::gs)),.sl V.length (NC V)]).push [.v (.int .u8 kd)]).push [SV sModel,SV nm,SV [kd.toNat],SV (textN g0)]) [.v (.string (bs nm)),.v (.int .u8 kd),.sl (gs.length+1) (NC (g0::gs)),.sl V.length (NC V)] (s.nx+1+1) [sModel,nm,[kd.toNat],textN g0]:=by
    refine⟨?_,St.push_same _ _,⟨by omega,Nat.lt_succ_self _⟩,fun k hk=>?_⟩
    ·rw[St.push_ne ((s.push _).push _) _ _ (show s.nx≠s.nx+1+1 by omega),St.push_ne (s.push _) _ _ (show s.nx≠s.nx+1 by omega)]
     exact St.push_same _ _
    ·rw[St.push_ne ((s.push _).push _) _ _ (show k≠s.nx+1+1 by omega),St.push_ne (s.push _) _ _ (show k≠s.nx+1 by omega),St.push_ne s _ _ (by omega)]
   unfold SV at hL
   rw[ub] at hL
   refine aw_drw (.take 0 (.take 1 (.take 2 (.take 3 (.take 6 (.take 7 (.take 8 (.take 9 (.two 4 (.two 5 (.one 10 (.one 11 (.take 12 (.done)))) 10 (.one 5 (.one 11 (.take 12 (.done))))) 10 (.one 4 (.one 5 (.one 11 (.take 12 (.done)))))))))))))) [s.nx] (by kernel_rfl) (by kernel_rfl) fun K hK=>?_;refine dr (J4 rTI @f1 @f2 @ib) ?_;refine⟨⟨cont_pure hp0 ?_,cont_pure hp0 ?_⟩,cont_pure hp0 ?_⟩;all_goals (refine dr (J4 rTI @f1 @f2 @ib) ?_);all_goals (refine hK _ _ ⟨rfl,?_,?_,s.nx+1+1,?_,hL⟩)
   all_goals (exact rn0 rTI)
   all_goals (first | trivial | rfl)
  ·clear hva hp0 f1 f2 hok hT ib ub
   generalize [kd.toNat]=kw at *
   rintro e' s' ⟨h1,q1,id,q4,hL⟩
   have gb:=hL.b
   refine go (J4 rTI @h1 @q1 @gb) ?_
   refine aw_loop (fun m e2 s2=>∃ k id,m=V.length-k∧k≤V.length∧e2.n=44∧e2.m 1=.ptr s.nx 0∧e2.m 4=.own id 0 ([sModel,nm,kw,textN g0]++zipM (V.take k) (gs.take k)).length 1∧e2.m 23=.sl V.length (NC V)∧e2.m 24=.v (.int .i64 V.length)∧e2.m 25=.v (.int .i64 (k:Nat))∧LI s s2 [.v (.string (bs nm)),.v (.int .u8 kd),.sl (gs.length+1) (NC (g0::gs)),.sl V.length (NC V)] id ([sModel,nm,kw,textN g0]++zipM (V.take k) (gs.take k))) V.length ?_ ?_
   ·refine⟨0,id,by omega,by omega,?_,?_,?_,?_,?_,?_,hL⟩
    all_goals ((first | refine rn (J4 rTI @h1 @q1 @q4) ?_ | exact rn0 (J4 rTI @h1 @q1 @q4)))
    all_goals (first | trivial | rfl)
   ·clear h1 q1 q4 hL gb
    rintro m e2 s2 ⟨k,id,rfl,hkk,h1,q1,q4,q23,q24,q25,hL⟩
    have gb:=hL.b
    obtain⟨o1,o2⟩:=hL.o
    by_cases hk2:k<V.length
    ·have f1:=nc_at V k hk2
     have f2:2≤((NC V).drop (k*2)).length:=by rw[List.length_drop,nc_len];omega
     have f3:=nc_at (g0::gs) (k+1) (by rw[List.length_cons];omega)
     have f4:2≤((NC (g0::gs)).drop ((k+1)*2)).length:=by rw[List.length_drop,nc_len,List.length_cons];omega
     rw[List.getD_cons_succ] at f3
     have ht:=zipM_take V gs k hk2 (by omega)
     have hp:=ctext_ax (V.getD k (0,0))
     have hp2:=ctext_ax (gs.getD k (0,0))
     have gl:=hL.l
     have ll:=sl_len ([sModel,nm,kw,textN g0]++zipM (V.take k) (gs.take k))
     have hb0:([sModel,nm,kw,textN g0]++zipM (V.take k) (gs.take k)).length≤100:=by
      have:=zipM_le (V.take k) (gs.take k)
      rw[List.length_take] at this
      rw[List.length_append]
      show 4+_≤_
      omega
     generalize V.getD k (0,0)=n1 at *
     generalize gs.getD k (0,0)=n2 at *
     have hA:=hL.app (((s2.push [.v (.int .i64 0),.v (.int .i64 0)]).set s2.nx [.v (.int .i64 n1.1),.v (.int .i64 n1.2)]).push [SV (textN n1),SV (textN n2)]) (by show _≤s2.nx+1+1;omega) (fun k hk=>by rw[St.push_ne ((s2.push _).set _ _) _ _ (show k≠s2.nx+1 by omega),St.set_ne _ _ _ _ (by omega),St.push_ne s2 _ _ (by omega)]) [textN n1,textN n2]
     rw[List.append_assoc,←ht] at hA
     have hln:([sModel,nm,kw,textN g0]++zipM (V.take (k+1)) (gs.take (k+1))).length=([sModel,nm,kw,textN g0]++zipM (V.take k) (gs.take k)).length+2:=by rw[ht,←List.append_assoc,List.length_append];rfl
     generalize hL0:[sModel,nm,kw,textN g0]++zipM (V.take k) (gs.take k)=L0 at *
     unfold iv at f1 f3
     unfold NM SV at hp hp2
     unfold SV at hA
     have hk3:((k:Int)+1).toNat=k+1:=by omega
     refine go (J4 rTI @h1 @q24 @q25) ?_
     refine ifs ?_ ?_ <;> first | exact nope | intro hb
     refine aw_skip ?_
     refine go (J6 rTI @h1 @q23 @q25 @f1 @f2) ?_
     refine aw_drw (.take 0 (.take 1 (.take 3 (.take 4 (.take 5 (.take 6 (.take 7 (.take 8 (.one 2 (.one 9 (.one 10 (.one 11 (.take 12 (.done)))))))))))))) [s.nx,s2.nx] (by kernel_rfl) (by kernel_rfl) fun K hK=>?_;refine dr (J10 rTI @h1 @q1 @q4 @gb @gl @ll @f3 @f4 @hk3) ?_;refine cont_pure hp ?_;refine dr (J10 rTI @h1 @q1 @q4 @gb @gl @ll @f3 @f4 @hk3) ?_;refine cont_pure hp2 ?_;refine dr (J10 rTI @h1 @q1 @q4 @gb @gl @ll @f3 @f4 @hk3) ?_;refine hK _ _ ?_;clear hK K
     refine go (J3 rTI @h1 @q25) ?_
     simp only[block_normal,loop_normal]
     refine⟨V.length-(k+1),by omega,k+1,s2.nx+1+1,rfl,by omega,?_,?_,?_,?_,?_,?_,hA⟩
     all_goals ((first | refine rn (J7 rTI @h1 @q1 @q4 @q23 @q24 @q25) ?_ | exact rn0 (J7 rTI @h1 @q1 @q4 @q23 @q24 @q25)))
     all_goals (first | rfl | trivial | rw[hln])
    ·obtain rfl:k=V.length:=by omega
     have hgl:gs.length=V.length:=by omega
     rw[List.take_length,←hgl,List.take_length] at hL q4
     clear hkk hk2 q23
     refine go (J4 rTI @h1 @q24 @q25) ?_
     refine ifs ?_ ?_ <;> first | exact nope | intro hb
     refine go (J3 rTI @h1 @q4) ?_
     refine⟨id,_,by omega,hL.l,?_,hL.fr⟩
     show AV.tp [frz id _ (AV.own id 0 _ 1),AV.v (.int .i64 0)]=_
     rw[frz_SL]
     rfl
end CardM
namespace CardN
open Go Go.RowKit Ax Ti NumS NumT CardS CardP CardA CardB CardC CardD CardE CardF CardG CardH CardI CardJ CardK CardL
open NumA (NM)
theorem rTI:type_of% (J19 @ti3 @ti4 @ti9 @ti5 @ti2 @ti43 @ti45 @ti44 @ti23 @ti68 @ti31 @ti142 @ti144 @Nat.zero_add @tz0 @tz1 @tz3 @Nat.mul_one @Int.toNat_natCast):=cj @ti3 (J18 @ti4 @ti9 @ti5 @ti2 @ti43 @ti45 @ti44 @ti23 @ti68 @ti31 @ti142 @ti144 @Nat.zero_add @tz0 @tz1 @tz3 @Nat.mul_one @Int.toNat_natCast)
def RB (p:Mdl × Int):AV:=.tp [MA p.1,iv p.2]
theorem ma_idf (m:Mdl):idf (MA m)=true:=by
 show (true&&(true&&(idf.idfL (NC m.g)&&(idf.idfL (NC m.v)&&true))))=true
 rw[nc_idf,nc_idf]
 rfl
theorem rb_idf (p:Mdl × Int):idf (RB p)=true:=by
 show (idf (MA p.1)&&(true&&true))=true
 rw[ma_idf]
 rfl
def mz:List AV:=[.v (.string ByteArray.empty),.v (.int .u8 0),nilS,nilS]
theorem rb_err (e:Int):Le (.tp [.ag mz,.v (.int .i64 e)]) (RB (mdl0,e)):=by
 refine Le.tp rfl fun j x y hx hy=>?_
 match j with
 | 0=>
  simp at hx hy;subst hx hy
  refine Le.ag rfl fun j x y hx hy=>?_
  match j with
  | 0=>simp [mz] at hx hy;subst hx hy;exact Le.refl _
  | 1=>simp [mz] at hx hy;subst hx hy;exact Le.refl _
  | 2=>simp [mz,nilS] at hx hy;subst hx hy;exact Le.nil 0 0 rfl
  | 3=>simp [mz,nilS] at hx hy;subst hx hy;exact Le.nil 0 0 rfl
  | j+4=>simp [mz] at hx
 | 1=>simp at hx hy;subst hx hy;exact Le.refl _
 | j+2=>simp at hx
theorem odds_cons:∀ (x:Str) (q:List Str),q.length % 2=0→evens (x::q)=x::odds q∧odds (x::q)=evens q
 | x,[],_=>⟨rfl,rfl⟩
 | x,[_],h=>by simp at h
 | x,v::g::t,h=>by
  obtain⟨h1,h2⟩:=odds_cons g t (by simp only[List.length_cons] at h;omega)
  constructor
  ·show x::evens (g::t)=x::g::odds t
   rw[h1]
  ·show v::odds (g::t)=v::evens t
   rw[h2]
structure MI (s s':St) (id bm iG iV:Nat) (nm:Str) (kd:Int) (G V:List Num) (ws:List Str) (e:Int):Prop where
 r:s'.get id=some (rdr ws e)
 b:s'.get bm=some [SV nm,.v (.int .u8 kd),.own iG 0 G.length 2,.own iV 0 V.length 2]
 g:s'.get iG=some (NC G)
 v:s'.get iV=some (NC V)
 z:s'.get s.nx=some mz
 o:s.nx<bm∧s.nx<id∧s.nx<iG∧s.nx<iV∧bm<s'.nx∧id<s'.nx∧iG<s'.nx∧iV<s'.nx∧bm≠id∧bm≠iG∧bm≠iV∧id≠iG∧id≠iV∧iG≠iV
 fr:∀ k,k<s.nx→s'.get k=s.get k
theorem nc_app (V:List Num) (n:Num):NC (V++[n])=NC V++[iv n.1,iv n.2]:=by simp [NC]
theorem MI.gg {s s':St} {id bm iG iV:Nat} {nm:Str} {kd:Int} {G V:List Num} {ws:List Str} {e:Int} (h:MI s s' id bm iG iV nm kd G V ws e) (n:Num) (ws2:List Str) (e2:Int) :
  MI s (((((s'.set id (rdr ws2 e2)).push [iv n.1,iv n.2]).kill iG).push (NC G++[iv n.1,iv n.2])).set bm [SV nm,.v (.int .u8 kd),.own (s'.nx+1) 0 (G.length+1) 2,.own iV 0 V.length 2]) id bm (s'.nx+1) iV nm kd (G++[n]) V ws2 e2:=by
 obtain⟨o1,o2,o3,o4,o5,o6,o7,o8,o9,o10,o11,o12,o13,o14⟩:=h.o
 have hn:(((((s'.set id (rdr ws2 e2)).push [iv n.1,iv n.2]).kill iG).push (NC G++[iv n.1,iv n.2])).set bm [SV nm,.v (.int .u8 kd),.own (s'.nx+1) 0 (G.length+1) 2,.own iV 0 V.length 2]).nx=s'.nx+2:=rfl
 have hg:∀ k c,k≠bm→k≠s'.nx+1→k≠iG→k≠s'.nx→k≠id→s'.get k=c→(((((s'.set id (rdr ws2 e2)).push [iv n.1,iv n.2]).kill iG).push (NC G++[iv n.1,iv n.2])).set bm [SV nm,.v (.int .u8 kd),.own (s'.nx+1) 0 (G.length+1) 2,.own iV 0 V.length 2]).get k=c:=fun k c h1 h2 h3 h4 h5 h6=>by
  rw[St.set_ne _ _ _ _ h1,St.push_ne _ _ _ h2,St.kill_ne _ _ _ h3,St.push_ne (s'.set id _) _ _ h4,St.set_ne _ _ _ _ h5]
  exact h6
 refine⟨?_,?_,?_,hg _ _ (by omega) (by omega) (by omega) (by omega) (by omega) h.v,hg _ _ (by omega) (by omega) (by omega) (by omega) (by omega) h.z,⟨o1,o2,by omega,o4,by omega,by omega,by omega,by omega,o9,by omega,o11,by omega,o13,by omega⟩,fun k h1=>hg _ _ (by omega) (by omega) (by omega) (by omega) (by omega) (h.fr k h1)⟩
 ·rw[St.set_ne _ _ _ _ (by omega),St.push_ne _ _ _ (show id≠s'.nx+1 by omega),St.kill_ne _ _ _ (by omega),St.push_ne (s'.set id _) _ _ (show id≠s'.nx by omega)]
  exact St.set_same _ _ _
 ·rw[St.set_same,List.length_append]
  rfl
 ·rw[St.set_ne _ _ _ _ (by omega),nc_app]
  exact St.push_same _ _
theorem MI.vv {s s':St} {id bm iG iV:Nat} {nm:Str} {kd:Int} {G V:List Num} {ws:List Str} {e:Int} (h:MI s s' id bm iG iV nm kd G V ws e) (n:Num) (ws2:List Str) (e2:Int) :
  MI s (((((s'.set id (rdr ws2 e2)).push [iv n.1,iv n.2]).kill iV).push (NC V++[iv n.1,iv n.2])).set bm [SV nm,.v (.int .u8 kd),.own iG 0 G.length 2,.own (s'.nx+1) 0 (V.length+1) 2]) id bm iG (s'.nx+1) nm kd G (V++[n]) ws2 e2:=by
 obtain⟨o1,o2,o3,o4,o5,o6,o7,o8,o9,o10,o11,o12,o13,o14⟩:=h.o
 have hn:(((((s'.set id (rdr ws2 e2)).push [iv n.1,iv n.2]).kill iV).push (NC V++[iv n.1,iv n.2])).set bm [SV nm,.v (.int .u8 kd),.own iG 0 G.length 2,.own (s'.nx+1) 0 (V.length+1) 2]).nx=s'.nx+2:=rfl
 have hg:∀ k c,k≠bm→k≠s'.nx+1→k≠iV→k≠s'.nx→k≠id→s'.get k=c→(((((s'.set id (rdr ws2 e2)).push [iv n.1,iv n.2]).kill iV).push (NC V++[iv n.1,iv n.2])).set bm [SV nm,.v (.int .u8 kd),.own iG 0 G.length 2,.own (s'.nx+1) 0 (V.length+1) 2]).get k=c:=fun k c h1 h2 h3 h4 h5 h6=>by
  rw[St.set_ne _ _ _ _ h1,St.push_ne _ _ _ h2,St.kill_ne _ _ _ h3,St.push_ne (s'.set id _) _ _ h4,St.set_ne _ _ _ _ h5]
  exact h6
 refine⟨?_,?_,hg _ _ (by omega) (by omega) (by omega) (by omega) (by omega) h.g,?_,hg _ _ (by omega) (by omega) (by omega) (by omega) (by omega) h.z,⟨o1,o2,o3,by omega,by omega,by omega,by omega,by omega,o9,o10,by omega,o12,by omega,by omega⟩,fun k h1=>hg _ _ (by omega) (by omega) (by omega) (by omega) (by omega) (h.fr k h1)⟩
 ·rw[St.set_ne _ _ _ _ (by omega),St.push_ne _ _ _ (show id≠s'.nx+1 by omega),St.kill_ne _ _ _ (by omega),St.push_ne (s'.set id _) _ _ (show id≠s'.nx by omega)]
  exact St.set_same _ _ _
 ·rw[St.set_same,List.length_append]
  rfl
 ·rw[St.set_ne _ _ _ _ (by omega),nc_app]
  exact St.push_same _ _
theorem MI.init (s:St) (nm:Str) (kd:Int) (D:List Str) (s1 s2 s3:St) (h1:s1=(((s.push mz).push mz).set (s.nx+1) [SV nm,.v (.int .u8 kd),nilS,nilS]).push (rdr D 0))
  (h2:s2=(s1.push []).set (s.nx+1) ([SV nm,.v (.int .u8 kd),nilS,nilS].set 2 (.own s1.nx 0 0 2))) (h3:s3=(s2.push []).set (s.nx+1) (([SV nm,.v (.int .u8 kd),nilS,nilS].set 2 (.own s1.nx 0 0 2)).set 3 (.own s2.nx 0 0 2))) :
  MI s s3 (s.nx+2) (s.nx+1) (s.nx+3) (s.nx+4) nm kd [] [] D 0:=by
 have n1:s1.nx=s.nx+3:=by rw[h1];rfl
 have n2:s2.nx=s.nx+4:=by rw[h2];show s1.nx+1=_;omega
 have n3:s3.nx=s.nx+5:=by rw[h3];show s2.nx+1=_;omega
 have hg:∀ k c,k≠s.nx+1→k≠s.nx+3→k≠s.nx+4→s1.get k=c→s3.get k=c:=fun k c q1 q2 q3 q4=>by
  rw[h3,St.set_ne _ _ _ _ q1,St.push_ne s2 _ _ (by omega),h2,St.set_ne _ _ _ _ q1,St.push_ne s1 _ _ (by omega)]
  exact q4
 have hg1:∀ k c,k≠s.nx+1→k≠s.nx+2→(s.push mz).get k=c→s1.get k=c:=fun k c q1 q2 q3=>by
  rw[h1,St.push_ne (((s.push mz).push mz).set _ _) _ _ (show k≠s.nx+2 from q2),St.set_ne _ _ _ _ q1,St.push_ne (s.push mz) _ _ (show k≠s.nx+1 from q1)]
  exact q3
 refine⟨hg _ _ (by omega) (by omega) (by omega) ?_,?_,?_,?_,hg _ _ (by omega) (by omega) (by omega) (hg1 _ _ (by omega) (by omega) (St.push_same s mz)),⟨by omega,by omega,by omega,by omega,by omega,by omega,by omega,by omega,by omega,by omega,by omega,by omega,by omega,by omega⟩,fun k hk=>hg _ _ (by omega) (by omega) (by omega) (hg1 _ _ (by omega) (by omega) (St.push_ne s _ _ (by omega)))⟩
 ·rw[h1]
  exact St.push_same (((s.push mz).push mz).set _ _) _
 ·rw[h3,St.set_same,n1,n2]
  rfl
 ·rw[h3,St.set_ne _ _ _ _ (by omega),St.push_ne s2 _ _ (by omega),h2,St.set_ne _ _ _ _ (by omega)]
  have:=St.push_same s1 []
  rw[n1] at this
  exact this
 ·rw[h3,St.set_ne _ _ _ _ (by omega)]
  have:=St.push_same s2 []
  rw[n2] at this
  exact this
theorem MI.lay {P:Program} {code:Code} {m0:Nat} {e:Env} {Q:Exit→Env→St→Prop} {s s':St} {id bm iG iV:Nat} {nm:Str} {kd:Int} {G V:List Num} {ws:List Str} {er:Int} (h:MI s s' id bm iG iV nm kd G V ws er)
  (k:∀ e' s'',e'.n=e.n→(∀ t,e'.m t=frz iV (NC V) (frz iG (NC G) (e.m t)))→s''.get bm=some [SV nm,.v (.int .u8 kd),.sl G.length (NC G),.sl V.length (NC V)]→s''.get s.nx=some mz→(∀ k,k<s.nx→s''.get k=s.get k)→AW P code m0 e' s'' Q):AW P code m0 e s' Q:=by
 obtain⟨o1,o2,o3,o4,o5,o6,o7,o8,o9,o10,o11,o12,o13,o14⟩:=h.o
 have e1:(NC G).take (G.length*2)=NC G:=by rw[←nc_len,List.take_length]
 have e2:(NC V).take (V.length*2)=NC V:=by rw[←nc_len,List.take_length]
 have e3:frz.frzL iV (NC V) (NC G)=NC G:=by
  apply List.ext_getElem?
  intro q
  rw[frzL_get]
  cases h:(NC G)[q]? with
  | none=>rfl
  | some z=>
   rw[Option.map_some,frz_idf]
   exact(idfL_iff _).1 (nc_idf G) z (List.mem_of_getElem? h)
 refine aw_freeze2 iG (NC G) h.g (fun i=>i==bm) fun e7 s7 f1 f2 f3 f4=>?_
 have g7:∀ k c,k≠iG→k≠bm→s'.get k=c→s7.get k=c:=fun k c q1 q2 q3=>by
  rw[f4,if_neg q1,if_neg (by simpa using q2)]
  exact q3
 have b7:s7.get bm=some [SV nm,.v (.int .u8 kd),.sl G.length (NC G),.own iV 0 V.length 2]:=by
  rw[f4,if_neg o10,if_pos (by simp),h.b,Option.map_some]
  have e4:¬iV=iG:=fun q=>o14 q.symm
  simp only[frz,frz.frzL,SV,if_true,if_neg e4,List.drop_zero,e1]
 refine aw_freeze2 iV (NC V) (g7 _ _ (fun q=>o14 q.symm) (fun q=>o11 q.symm) h.v) (fun i=>i==bm) fun e8 s8 f5 f6 f7 f8=>?_
 have g8:∀ k c,k≠iV→k≠bm→s7.get k=c→s8.get k=c:=fun k c q1 q2 q3=>by
  rw[f8,if_neg q1,if_neg (by simpa using q2)]
  exact q3
 refine k e8 s8 (f5.trans f1) (fun t=>by rw[f6,f2]) ?_ (g8 _ _ (by omega) (by omega) (g7 _ _ (by omega) (by omega) h.z)) fun k hk=>g8 _ _ (by omega) (by omega) (g7 _ _ (by omega) (by omega) (h.fr k hk))
 rw[f8,if_neg o11,if_pos (by simp),b7,Option.map_some]
 simp only[frz,frz.frzL,SV,if_true,List.drop_zero,e2,e3]
theorem aw_gen {P:Program} {code:Code} {m0:Nat} {e:Env} {s:St} {Q:Exit→Env→St→Prop} (I:St→Prop) (h:I s) (k:∀ s',I s'→AW P code m0 e s' Q):AW P code m0 e s Q:=k s h
theorem readM_ax (ws:List Str) (hw:BL ws) (hwl:∀ w∈ws,w.length≤281474976710656) (hl:ws.length≤9223372036854775807):PCall Tryz.prog 120 [TV ws] (RB (readM ws)):=by
 refine pcall_le fun s=>?_
 have hno:¬(4≤ws.length∧ws.getD 0 []=sModel∧(ws.getD 2 []=[100]∨ws.getD 2 []=[115])∧ws.length % 2=0∧ws.length≤10∧(ws.getD 2 []=[115]→ws.length=6))→readM ws=(mdl0,70):=fun q=>by
  unfold readM
  simp only
  rw[if_neg q]
 unfold TV
 by_cases q0:ws.length<4
 ·rw[hno (fun h=>by omega)]
  refine acall_of Tryz.func120 rfl rfl (by simp [Tryz.ntmps120]) ?_;rw[Tryz.ntmps120,Tryz.results120]
  refine go rTI ?_
  refine ifs ?_ ?_ <;> first | exact nope | intro hb
  refine go rTI ?_
  exact⟨rb_err 70,rb_idf _,fun i hi=>if_neg (by omega)⟩
 ·have i0:=hd_SL ws 0 (by omega)
  have i1:=hd_SL ws 1 (by omega)
  have i2:=hd_SL ws 2 (by omega)
  rw[List.drop_zero] at i0
  have b0:=bl_at ws hw 0
  have b1:=bl_at ws hw 1
  have b2:=bl_at ws hw 2
  have e1:=str_ne (ws.getD 0 []) sModel b0 (by_lit _ rfl)
  have e2:=str_ne (ws.getD 2 []) [100] b2 (by_lit _ rfl)
  have e3:=str_ne (ws.getD 2 []) [115] b2 (by_lit _ rfl)
  have e4:=str_eq (ws.getD 2 []) [115] b2 (by_lit _ rfl)
  rw[show bs sModel=ByteArray.mk #[46,109,111,100,101,108] from rfl] at e1
  rw[show bs [100]=ByteArray.mk #[100] from rfl] at e2
  rw[show bs [115]=ByteArray.mk #[115] from rfl] at e3 e4
  have t2:Int.toNat 2=2:=rfl
  unfold SV at i0 i1 i2
  by_cases hc:(4≤ws.length∧ws.getD 0 []=sModel∧(ws.getD 2 []=[100]∨ws.getD 2 []=[115])∧ws.length % 2=0∧ws.length≤10∧(ws.getD 2 []=[115]→ws.length=6))
  ·have hrd:readM ws=if isName (ws.getD 1 [])=true then (if numsE (ws.drop 3) 0≠0 then (mdl0,numsE (ws.drop 3) 0) else if modelOk ⟨ws.getD 1 [],((ws.getD 2 []).getD 0 0:Nat),(evens (ws.drop 3)).map numV,(odds (ws.drop 3)).map numV⟩=true then (⟨ws.getD 1 [],((ws.getD 2 []).getD 0 0:Nat),(evens (ws.drop 3)).map numV,(odds (ws.drop 3)).map numV⟩,0) else (mdl0,50)) else (mdl0,71):=by
    unfold readM
    simp only
    rw[if_pos hc]
   rw[hrd]
   clear hrd hno
   obtain⟨c0,c1,c2,c3,c4,c5⟩:=hc
   refine acall_of Tryz.func120 rfl rfl (by simp [Tryz.ntmps120]) ?_;rw[Tryz.ntmps120,Tryz.results120]
   refine go rTI ?_
   refine aw_only (fun e' s'=>e'.n=108∧e'.m 0=.sl ws.length (SL ws)∧e'.m 2=.ptr s.nx 0∧e'.m 47=.v (.bool false)∧s'=s.push mz) ?_ ?_
   ·have c6:((ws.length:Int) % 2)=0:=by omega
    rw[decide_eq_true c1] at e1
    rcases c2 with c2 | c2
    ·rw[c2,decide_eq_true rfl] at e2
     rw[c2,decide_eq_false (by decide)] at e4
     rw[c2] at i2
     refine go (J8 rTI @i0 @i2 @t2 @e1 @e2 @e4 @c6) ?_
     (repeat' refine And.intro ?_ ?_) <;> first | exact rfl | exact fnz rTI | skip
     all_goals (first | rfl | trivial)
    ·have c7:(ws.length:Int)=6:=by have:=c5 c2;omega
     have c8:ws.length=6:=by omega
     rw[c2,decide_eq_true rfl] at e3 e4
     rw[c2,decide_eq_false (by decide)] at e2
     rw[c2] at i2
     refine go (J9 rTI @i0 @i2 @t2 @e1 @e2 @e3 @e4 @c6) ?_
     (repeat' refine And.intro ?_ ?_) <;> first | exact rfl | exact fnz rTI | skip
     all_goals (first | rfl | trivial)
   ·obtain⟨kd,hkd,hkb⟩:∃ kd,ws.getD 2 []=[kd]∧kd<256:=by
     rcases c2 with c2 | c2
     ·exact⟨100,c2,by decide⟩
     ·exact⟨115,c2,by decide⟩
    rw[hkd] at i2 b2 ⊢
    have lS:=bs_size [kd]
    have hg:=bs_get [kd] b2 0
    rw[show ([kd]:Str).getD 0 0=kd from rfl] at hg ⊢
    rw[show ([kd]:Str).length=1 from rfl] at lS
    have htd:=TV_drop ws 3
    have hbd:BL (ws.drop 3):=fun w h=>hw w (List.mem_of_mem_drop h)
    have hDl:(ws.drop 3).length % 2=1∧(ws.drop 3).length≤10:=by rw[List.length_drop];omega
    have hnm:=cname_ax (ws.getD 1 []) b1 (by
     rw[List.getD_eq_getElem?_getD,List.getElem?_eq_getElem (show 1<ws.length by omega)]
     exact Nat.le_trans (hwl _ (List.getElem_mem _)) (by decide))
    have hnl:(ws.getD 1 []).length≤281474976710656:=by
     rw[List.getD_eq_getElem?_getD,List.getElem?_eq_getElem (show 1<ws.length by omega)]
     exact hwl _ (List.getElem_mem _)
    unfold TV at htd
    clear e1 e2 e3 e4 c1 c2 c3 c5 hw hwl i0
    rintro e' s' ⟨h1,k0,k2,k47,rfl⟩
    rw[then_normal]
    refine aw_cond (b:=false) k47 (fun h=>by cases h) (fun _=>?_)
    refine aw_skip ?_
    rw[then_normal]
    generalize ws.getD 1 []=nm at *
    generalize ws.drop 3=D at *
    have t3:Int.toNat 3=3:=rfl
    have t1:Int.toNat 1=1:=rfl
    unfold SV at hnm
    refine aw_seq ?_
    refine aw_drw (.take 0 (.take 1 (.take 2 (.take 3 (.take 4 (.take 5 (.take 6 (.take 7 (.one 8 (.one 9 (.done))))))))))) [] (by kernel_rfl) (by kernel_rfl) fun K hK=>?_;refine dr (J9 rTI @h1 @k0 @i1 @i2 @t1 @t2 @lS @hg) ?_;refine hK _ _ ?_;clear hK K
    rw[then_normal]
    refine aw_seq ?_
    refine aw_seq ?_
    cases hn:isName nm with
    | false=>
     rw[hn] at hnm
     rw[if_neg Bool.false_ne_true]
     refine aw_reg fun K hK=>?_;refine rn (cj rTI @h1) ?_;refine cont_pure hnm ?_;refine rn (cj rTI @h1) ?_;refine hK _ _ ?_;clear hK K
     refine ifs ?_ ?_ <;> first | exact nope | intro hb
     unfold mz nilS
     refine go (J3 rTI @h1 @k2) ?_
     exact⟨rb_err 71,rb_idf _,fun i hi=>by rw[if_neg (by omega),if_neg (by omega)]⟩
    | true=>
     rw[hn] at hnm
     rw[if_pos rfl]
     refine aw_reg fun K hK=>?_;refine rn (cj rTI @h1) ?_;refine cont_pure hnm ?_;refine rn (cj rTI @h1) ?_;refine hK _ _ ?_;clear hK K
     refine ifs ?_ ?_ <;> first | exact nope | intro hb
     refine go (J5 rTI @h1 @k0 @t3 @htd) ?_
     match D,hDl with
     | [],q=>simp at q
     | g0::q0,hDl=>
     rw[List.length_cons] at hDl
     obtain⟨hev,hod⟩:=odds_cons g0 q0 (by omega)
     rw[hev,hod]
     refine aw_nil_box (s.nx+1) 2 2 [.v (.string (bs nm)),.v (.int .u8 (kd:Nat)),.v (.slice none 0 0),.v (.slice none 0 0)] (by rw[St.push_ne _ _ _ (by show s.nx+1≠s.nx+1+1;omega)];exact St.set_same _ _ _) rfl ?_
     refine aw_nil_box (s.nx+1) 3 2 _ (St.set_same _ _ _) rfl ?_
     have hM:=MI.init s nm kd (g0::q0) _ _ _ rfl rfl rfl
     refine aw_gen (fun x=>MI s x (s.nx+2) (s.nx+1) (s.nx+3) (s.nx+4) nm kd [] [] (g0::q0) 0) hM fun s4 hM=>?_
     clear htd i1 i2 hnm lS hg t1 t2 t3
     refine aw_only (fun e5 s5=>e5.n=108∧e5.m 2=.ptr s.nx 0∧e5.m 5=.ptr (s.nx+1) 0∧e5.m 6=.ptr (s.nx+2) 0∧∃ iG,MI s s5 (s.nx+2) (s.nx+1) iG (s.nx+4) nm kd [numV g0] [] q0 (numE g0 0)) ?_ ?_
     ·have hnu:=num_ax s4 (s.nx+2) g0 q0 0 (hbd g0 (List.mem_cons_self ..)) hM.r hM.o.2.2.2.2.2.1 (by omega)
      have gb:=hM.b
      have gg:=hM.g
      have hG:=hM.gg (numV g0) q0 (numE g0 0)
      obtain⟨o1,o2,o3,o4,o5,o6,o7,o8,o9,o10,o11,o12,o13,o14⟩:=hM.o
      rw[show NC ([]:List Num)=[] from rfl,show ([]:List Num).length=0 from rfl] at *
      unfold NM at hnu
      unfold SV iv at *
      refine aw_drwR (.take 0 (.take 1 (.take 2 (.one 3 (.one 4 (.one 5 (.done))))))) 6 [7] [s.nx+1] (by kernel_rfl) (by kernel_rfl) fun K hK=>?_;refine dt (J5 rTI @h1 @gb @gg @zr2) ?_;refine cont_go hnu ?_;rintro _ s5 ⟨rfl,rfl⟩;refine dt (J5 rTI @h1 @gb @gg @zr2) ?_;refine hK _ _ ?_;clear hK K
      refine⟨rfl,?_,?_,?_,?_,s4.nx+1,hG⟩
      all_goals (exact rn0 (J3 rTI @h1 @k2))
      all_goals (first | trivial | rfl)
     ·clear h1 k0 k2 k47 hM hod hev
      clear hM
      have hbq:BL q0:=fun w h=>hbd w (List.mem_cons_of_mem _ h)
      have hE0:numsE (g0::q0) 0=numsE q0 (numE g0 0):=rfl
      rw[hE0,List.map_cons]
      generalize numE g0 0=e0
      generalize numV g0=v0
      generalize s.nx+4=iV
      rintro e5 s5 ⟨h1,k2,k5,k6,iG,hM⟩
      rw[then_normal]
      refine aw_seq ?_
      refine aw_block ?_
      refine aw_loop (fun m e6 s6=>∃ q er G V iG iV,m=q.length∧e6.n=108∧e6.m 2=.ptr s.nx 0∧e6.m 5=.ptr (s.nx+1) 0∧e6.m 6=.ptr (s.nx+2) 0∧MI s s6 (s.nx+2) (s.nx+1) iG iV nm kd G V q er∧numsE q0 e0=numsE q er∧v0::(odds q0).map numV=G++(odds q).map numV∧(evens q0).map numV=V++(evens q).map numV∧q.length % 2=0∧q.length≤10∧G.length+q.length≤20∧V.length+q.length≤20∧∀ w∈q,w∈q0) q0.length ?_ ?_
      ·refine⟨q0,e0,[v0],[],iG,iV,rfl,?_,?_,?_,?_,hM,rfl,rfl,rfl,by omega,by omega,by rw[List.length_cons,List.length_nil];omega,by rw[List.length_nil];omega,fun _ h=>h⟩
       all_goals (exact rn0 (J5 rTI @h1 @k2 @k5 @k6))
      ·clear h1 k2 k5 k6 hM
       rintro m e6 s6 ⟨q,er,G,V,iG,iV,rfl,h1,k2,k5,k6,hM,hE,hG,hV,hq1,hq2,hq3,hq4,hm⟩
       have gr:=hM.r
       match q with
       | []=>
        unfold rdr TV iv at gr
        have z0:(([]:List Str).length:Int)=0:=rfl
        refine go (J5 rTI @h1 @k6 @gr @z0) ?_
        refine ifs ?_ ?_ <;> first | exact nope | intro hb
        refine go (cj rTI @h1) ?_
        have hE2:numsE q0 e0=er:=hE
        have hG2:v0::(odds q0).map numV=G:=by rw[hG];exact List.append_nil _
        have hV2:(evens q0).map numV=V:=by rw[hV];exact List.append_nil _
        rw[hE2,hG2,hV2]
        rw[List.length_nil] at hq3 hq4
        have fr:=hM.fr
        have gz:=hM.z
        obtain⟨o1,o2,o3,o4,o5,o6,o7,o8,o9,o10,o11,o12,o13,o14⟩:=hM.o
        by_cases he0:er=0
        ·rw[if_neg (fun h=>h he0)]
         refine go (J5 rTI @h1 @k6 @gr @he0) ?_
         refine ifs ?_ ?_ <;> first | exact nope | intro hb
         refine aw_skip ?_
         rw[then_normal]
         refine hM.lay fun e8 s8 f1 f2 gb gz fr=>?_
         have m1:e8.n=108:=f1.trans h1
         have m2:e8.m 2=.ptr s.nx 0:=by
          rw[f2]
          exact rn0 @k2
         have m5:e8.m 5=.ptr (s.nx+1) 0:=by
          rw[f2]
          exact rn0 @k5
         have hva:=mvalid_ax ⟨nm,kd,G,V⟩ ⟨b1,hnl⟩ (by show G.length≤_;omega) (by show V.length≤_;omega)
         unfold MA SV NV at hva
         unfold SV at gb
         unfold mz nilS at gz
         simp only at hva
         clear f1 f2 h1 k2 k5 k6 hM gr
         refine aw_seq ?_
         refine aw_seq ?_
         cases hok:modelOk ⟨nm,kd,G,V⟩ with
         | false=>
          rw[hok] at hva
          rw[if_neg Bool.false_ne_true]
          refine aw_reg fun K hK=>?_;refine rn (J4 rTI @m1 @m5 @gb) ?_;refine cont_pure hva ?_;refine rn (J4 rTI @m1 @m5 @gb) ?_;refine hK _ _ ?_;clear hK K
          refine ifs ?_ ?_ <;> first | exact nope | intro hb
          refine go (J4 rTI @m1 @m2 @gz) ?_
          exact⟨rb_err 50,rb_idf _,fun i hi=>by rw[if_neg (by omega)];exact fr i hi⟩
         | true=>
          rw[hok] at hva
          rw[if_pos rfl]
          refine aw_reg fun K hK=>?_;refine rn (J4 rTI @m1 @m5 @gb) ?_;refine cont_pure hva ?_;refine rn (J4 rTI @m1 @m5 @gb) ?_;refine hK _ _ ?_;clear hK K
          refine ifs ?_ ?_ <;> first | exact nope | intro hb
          refine go (J6 rTI @m1 @m2 @m5 @gb @gz) ?_
          exact⟨Le.refl _,rb_idf _,fun i hi=>by rw[if_neg (by omega)];exact fr i hi⟩
        ·rw[if_pos he0]
         unfold mz nilS at gz
         refine go (J5 rTI @h1 @k6 @gr @he0) ?_
         refine ifs ?_ ?_ <;> first | exact nope | intro hb
         refine aw_seq ?_
         refine aw_drw (.take 0 (.take 1 (.take 2 (.take 3 (.take 4 (.one 5 (.take 6 (.done)))))))) [s.nx+2] (by kernel_rfl) (by kernel_rfl) fun K hK=>?_;refine dr (J6 rTI @h1 @k2 @k6 @gr @gz) ?_;refine hK _ _ ?_;clear hK K
         rw[then_normal]
         refine go (J4 rTI @h1 @k2 @gz) ?_
         exact⟨rb_err er,rb_idf _,fun i hi=>by rw[if_neg (by omega)];exact fr i hi⟩
       | [x]=>simp at hq1
       | a::b::q'=>
        rw[List.length_cons,List.length_cons] at hq1 hq2 hq3 hq4
        have hE3:numsE (a::b::q') er=numsE q' (numE b (numE a er)):=rfl
        have hG3:G++(odds (a::b::q')).map numV=(G++[numV b])++(odds q').map numV:=by
         show G++(numV b::(odds q').map numV)=_
         simp
        have hV3:V++(evens (a::b::q')).map numV=(V++[numV a])++(evens q').map numV:=by
         show V++(numV a::(evens q').map numV)=_
         simp
        rw[hE3] at hE
        rw[hG3] at hG
        rw[hV3] at hV
        clear hE3 hG3 hV3
        obtain⟨o1,o2,o3,o4,o5,o6,o7,o8,o9,o10,o11,o12,o13,o14⟩:=hM.o
        have hna:=num_ax s6 (s.nx+2) a (b::q') er (hbq a (hm a (List.mem_cons_self ..))) hM.r o6 (by rw[List.length_cons];omega)
        have gb:=hM.b
        have gv:=hM.v
        have nl:=nc_len V
        have hM2:=hM.vv (numV a) (b::q') (numE a er)
        have z1:((a::b::q').length:Int)=((q'.length+2:Nat):Int):=rfl
        generalize numE a er=ea at *
        generalize numV a=na at *
        unfold rdr TV iv at gr
        unfold NM at hna
        unfold SV at gb
        refine go (J5 rTI @h1 @k6 @gr @z1) ?_
        refine ifs ?_ ?_ <;> first | exact nope | intro hb
        refine aw_skip ?_
        rw[then_normal]
        refine aw_block ?_
        refine aw_seq ?_
        refine aw_only (fun e7 s7=>e7.n=108∧e7.m 2=.ptr s.nx 0∧e7.m 5=.ptr (s.nx+1) 0∧e7.m 6=.ptr (s.nx+2) 0∧∃ iV,MI s s7 (s.nx+2) (s.nx+1) iG iV nm kd G (V++[na]) (b::q') ea) ?_ ?_
        ·unfold iv at *
         refine aw_drwR (.take 0 (.take 1 (.take 2 (.one 3 (.one 4 (.one 5 (.done))))))) 6 [7] [s.nx+1] (by kernel_rfl) (by kernel_rfl) fun K hK=>?_;refine dt (J8 rTI @h1 @k5 @k6 @gb @gv @nl @zr2) ?_;refine cont_go hna ?_;rintro _ s7 ⟨rfl,rfl⟩;refine dt (J8 rTI @h1 @k5 @k6 @gb @gv @nl @zr2) ?_;refine hK _ _ ?_;clear hK K
         refine⟨rfl,?_,?_,?_,?_,s6.nx+1,hM2⟩
         all_goals (exact rn0 (J5 rTI @h1 @k2 @k5 @k6))
         all_goals (first | trivial | rfl)
        ·clear h1 k2 k5 k6 hM hM2 hna gb gv nl z1 gr o1 o2 o3 o4 o5 o6 o7 o8 o9 o10 o11 o12 o13 o14
         rintro e7 s7 ⟨h1,k2,k5,k6,iV,hM⟩
         rw[then_normal]
         obtain⟨o1,o2,o3,o4,o5,o6,o7,o8,o9,o10,o11,o12,o13,o14⟩:=hM.o
         have hnb:=num_ax s7 (s.nx+2) b q' ea (hbq b (hm b (by simp))) hM.r o6 (by omega)
         have gb:=hM.b
         have gg:=hM.g
         have nl:=nc_len G
         have hM2:=hM.gg (numV b) q' (numE b ea)
         generalize numE b ea=eb at *
         generalize numV b=nb at *
         unfold NM at hnb
         unfold SV at gb
         have hMM:=hM2
         unfold iv at *
         refine aw_drwR (.take 0 (.take 1 (.take 2 (.one 3 (.one 4 (.one 5 (.done))))))) 6 [7] [s.nx+1] (by kernel_rfl) (by kernel_rfl) fun K hK=>?_;refine dt (J8 rTI @h1 @k5 @k6 @gb @gg @nl @zr2) ?_;refine cont_go hnb ?_;rintro _ s8 ⟨rfl,rfl⟩;refine dt (J8 rTI @h1 @k5 @k6 @gb @gg @nl @zr2) ?_;refine hK _ _ ?_;clear hK K
         try simp only[block_normal,loop_normal]
         refine⟨q'.length,by rw[List.length_cons,List.length_cons];omega,q',eb,G++[nb],V++[na],s7.nx+1,iV,rfl,?_,?_,?_,?_,hMM,hE,hG,hV,by omega,by omega,by rw[List.length_append,List.length_cons,List.length_nil];omega,by rw[List.length_append,List.length_cons,List.length_nil];omega,fun w hw=>hm w (by simp [hw])⟩
         all_goals (exact rn0 (J5 rTI @h1 @k2 @k5 @k6))
         all_goals (first | trivial | rfl)
  ·rw[hno hc]
   by_cases q1:ws.getD 0 []=sModel
   ·rw[decide_eq_true q1] at e1
    by_cases q2:ws.getD 2 []=[100]∨ws.getD 2 []=[115]
    ·have hx:(!decide (ws.getD 2 []=[100])&&!decide (ws.getD 2 []=[115]))=false:=by
      rcases q2 with q2 | q2
      ·rw[decide_eq_true q2];rfl
      ·rw[decide_eq_true q2,Bool.and_comm];rfl
     by_cases q3:ws.length % 2=0
     ·have q4:((ws.length:Int) % 2)=0:=by omega
      by_cases q5:ws.length≤10
      ·have q6:ws.getD 2 []=[115]∧¬ws.length=6:=by
        refine⟨Classical.byContradiction fun h=>hc ⟨by omega,q1,q2,q3,q5,fun x=>absurd x h⟩,fun h=>hc ⟨by omega,q1,q2,q3,q5,fun _=>h⟩⟩
       have q7:¬(ws.length:Int)=6:=by omega
       rw[q6.1,decide_eq_false (by decide)] at e2
       rw[q6.1,decide_eq_true rfl] at e3 e4
       rw[q6.1] at i2
       refine acall_of Tryz.func120 rfl rfl (by simp [Tryz.ntmps120]) ?_;rw[Tryz.ntmps120,Tryz.results120]
       refine go rTI ?_
       refine go (J10 rTI @i0 @i2 @t2 @e1 @e2 @e3 @e4 @q4 @q7) ?_
       refine ifs ?_ ?_ <;> first | exact nope | intro hb
       refine go rTI ?_
       exact⟨rb_err 70,rb_idf _,fun i hi=>if_neg (by omega)⟩
      ·rcases q2 with q2 | q2
       ·rw[q2,decide_eq_true rfl] at e2
        rw[q2] at i2
        refine acall_of Tryz.func120 rfl rfl (by simp [Tryz.ntmps120]) ?_;rw[Tryz.ntmps120,Tryz.results120]
        refine go rTI ?_
        refine go (J9 rTI @i0 @i2 @t2 @e1 @e2 @e3 @e4 @q4) ?_
        refine ifs ?_ ?_ <;> first | exact nope | intro hb
        refine go rTI ?_
        exact⟨rb_err 70,rb_idf _,fun i hi=>if_neg (by omega)⟩
       ·rw[q2,decide_eq_false (by decide)] at e2
        rw[q2,decide_eq_true rfl] at e3
        rw[q2] at i2
        refine acall_of Tryz.func120 rfl rfl (by simp [Tryz.ntmps120]) ?_;rw[Tryz.ntmps120,Tryz.results120]
        refine go rTI ?_
        refine go (J9 rTI @i0 @i2 @t2 @e1 @e2 @e3 @e4 @q4) ?_
        refine ifs ?_ ?_ <;> first | exact nope | intro hb
        refine go rTI ?_
        exact⟨rb_err 70,rb_idf _,fun i hi=>if_neg (by omega)⟩
     ·have q4:((ws.length:Int) % 2)=1:=by omega
      rcases q2 with q2 | q2
      ·rw[q2,decide_eq_true rfl] at e2
       rw[q2] at i2
       refine acall_of Tryz.func120 rfl rfl (by simp [Tryz.ntmps120]) ?_;rw[Tryz.ntmps120,Tryz.results120]
       refine go rTI ?_
       refine go (J9 rTI @i0 @i2 @t2 @e1 @e2 @e3 @e4 @q4) ?_
       refine ifs ?_ ?_ <;> first | exact nope | intro hb
       refine go rTI ?_
       exact⟨rb_err 70,rb_idf _,fun i hi=>if_neg (by omega)⟩
      ·rw[q2,decide_eq_false (by decide)] at e2
       rw[q2,decide_eq_true rfl] at e3
       rw[q2] at i2
       refine acall_of Tryz.func120 rfl rfl (by simp [Tryz.ntmps120]) ?_;rw[Tryz.ntmps120,Tryz.results120]
       refine go rTI ?_
       refine go (J9 rTI @i0 @i2 @t2 @e1 @e2 @e3 @e4 @q4) ?_
       refine ifs ?_ ?_ <;> first | exact nope | intro hb
       refine go rTI ?_
       exact⟨rb_err 70,rb_idf _,fun i hi=>if_neg (by omega)⟩
    ·rw[decide_eq_false (fun h=>q2 (.inl h))] at e2
     rw[decide_eq_false (fun h=>q2 (.inr h))] at e3
     refine acall_of Tryz.func120 rfl rfl (by simp [Tryz.ntmps120]) ?_;rw[Tryz.ntmps120,Tryz.results120]
     refine go rTI ?_
     refine go (J7 rTI @i0 @i2 @t2 @e1 @e2 @e3) ?_
     refine ifs ?_ ?_ <;> first | exact nope | intro hb
     refine go rTI ?_
     exact⟨rb_err 70,rb_idf _,fun i hi=>if_neg (by omega)⟩
   ·rw[decide_eq_false q1] at e1
    refine acall_of Tryz.func120 rfl rfl (by simp [Tryz.ntmps120]) ?_;rw[Tryz.ntmps120,Tryz.results120]
    refine go rTI ?_
    refine go (J8 rTI @i0 @i2 @t2 @e1 @e2 @e3 @e4) ?_
    refine ifs ?_ ?_ <;> first | exact nope | intro hb
    refine go rTI ?_
    exact⟨rb_err 70,rb_idf _,fun i hi=>if_neg (by omega)⟩
end CardN
namespace Ax
open Go Go.RowKit
variable {P:Program}
inductive Lies (s:St):AV→AV→Prop
 | same (z:AV) (h:idf z=true):Lies s z z
 | nil (cap:Nat):Lies s (.v (.slice none 0 cap)) (.sl 0 [])
 | own (id off n sz:Nat) (c c':List AV) (hi:s.get id=some c) (hl:c'.length=n*sz) (hc:off+n*sz≤c.length) (h:∀ (j:Nat) (z z':AV),(c.drop off)[j]?=some z→c'[j]?=some z'→Lies s z z'):Lies s (.own id off n sz) (.sl n c')
 | ptr (id off:Nat) (c c':List AV) (hi:s.get id=some c) (hl:c'.length=(c.drop off).length) (h:∀ (j:Nat) (z z':AV),(c.drop off)[j]?=some z→c'[j]?=some z'→Lies s z z'):Lies s (.ptr id off) (.rf c')
 | sl (n:Nat) (c c':List AV) (hl:c'.length=c.length) (h:∀ (j:Nat) (z z':AV),c[j]?=some z→c'[j]?=some z'→Lies s z z'):Lies s (.sl n c) (.sl n c')
 | rf (c c':List AV) (hl:c'.length=c.length) (h:∀ (j:Nat) (z z':AV),c[j]?=some z→c'[j]?=some z'→Lies s z z'):Lies s (.rf c) (.rf c')
 | ag (c c':List AV) (hl:c'.length=c.length) (h:∀ (j:Nat) (z z':AV),c[j]?=some z→c'[j]?=some z'→Lies s z z'):Lies s (.ag c) (.ag c')
def LiesL (s:St) (c c':List AV):Prop:=c'.length=c.length∧∀ (j:Nat) (z z':AV),c[j]?=some z→c'[j]?=some z'→Lies s z z'
theorem LiesL.nil (s:St):LiesL s [] []:=⟨rfl,fun j z z' h=>by cases h⟩
theorem LiesL.cons {s:St} {z z':AV} {c c':List AV} (h:Lies s z z') (g:LiesL s c c'):LiesL s (z::c) (z'::c'):=⟨by rw[List.length_cons,List.length_cons,g.1],fun j x y hx hy=>by
 cases j with
 | zero=>simp at hx hy;subst hx hy;exact h
 | succ j=>exact g.2 j x y (by simpa using hx) (by simpa using hy)⟩
theorem LiesL.app {s:St} {a b a' b':List AV} (h:LiesL s a a') (g:LiesL s b b'):LiesL s (a++b) (a'++b'):=⟨by rw[List.length_append,List.length_append,h.1,g.1],fun j x y hx hy=>by
 by_cases hj:j<a.length
 ·rw[List.getElem?_append_left hj] at hx
  rw[List.getElem?_append_left (by rw[h.1];exact hj)] at hy
  exact h.2 j x y hx hy
 ·rw[List.getElem?_append_right (by omega)] at hx
  rw[List.getElem?_append_right (by rw[h.1];omega),h.1] at hy
  exact g.2 _ x y hx hy⟩
theorem LiesL.same (s:St) (c:List AV) (h:idf.idfL c=true):LiesL s c c:=⟨rfl,fun j z z' hz hz'=>by
 rw[hz] at hz'
 injection hz' with e
 subst e
 exact .same _ ((idfL_iff c).1 h _ (List.mem_of_getElem? hz))⟩
theorem Lies.whole {s:St} {id n sz:Nat} {c c':List AV} (hi:s.get id=some c) (hl:c.length=n*sz) (h:LiesL s c c'):Lies s (.own id 0 n sz) (.sl n c'):=
 .own id 0 n sz c c' hi (h.1.trans hl) (by omega) fun j z z' hz hz'=>h.2 j z z' (by simpa using hz) hz'
theorem Lies.box {s:St} {id:Nat} {c c':List AV} (hi:s.get id=some c) (h:LiesL s c c'):Lies s (.ptr id 0) (.rf c'):=
 .ptr id 0 c c' hi h.1 fun j z z' hz hz'=>h.2 j z z' (by simpa using hz) hz'
theorem Lies.agg {s:St} {c c':List AV} (h:LiesL s c c'):Lies s (.ag c) (.ag c'):=.ag c c' h.1 h.2
def still (w:World) (h:Tabs w.cell?):KW:=⟨fun _=>⟨0,0,0,none⟩,0,w.cell?,h⟩
theorem lies_rel {w0 w:World} {k:KW} {s:St} (hs:Sim w0 k w s) (ht:Tabs w.cell?) {z z':AV} (h:Lies s z z'):∀ u,Rel k z u→Rel (still w ht) z' u:=by
 have hbox:∀ id c,s.get id=some c→∀ j,j<c.length→∃ u,w.cell? ((k.φ id).at j)=some u∧∀ z,c[j]?=some z→Rel k z u:=fun id c hi j hj=>by
  obtain⟨hc,hb⟩:=hs.box id c hi
  obtain⟨u,h1,_,_,h4⟩:=hb j (Nat.lt_of_lt_of_le hj hc)
  exact⟨u,h1,h4⟩
 induction h with
 | same z h=>exact fun u hr=>rel_free hr (fun a u hu=>hs.fz a u hu) h
 | nil cap=>intro u hr;obtain rfl:=hr.v_eq;exact .sl0 none cap
 | own id off n sz c c' hi hl hc h ih=>
  intro u hr
  cases hr with
  | own _ _ _ _ cap h1 h2 h3=>
   have key:∀ j,j<c'.length→∃ u,w.cell? ((k.φ id).at (off+j))=some u∧∀ z,c[off+j]?=some z→Rel k z u:=fun j hj=>hbox id c hi (off+j) (by omega)
   refine .sl n cap c' _ (fun j=>(w.cell? ((k.φ id).at (off+j))).getD undef) h2 (fun j hj=>?_) (fun j z' hz'=>?_)
   ·obtain⟨u,q1,q2⟩:=key j hj
    rw[Rng.at_add]
    show w.cell? _=_
    rw[q1]
    rfl
   ·have hj:=(List.getElem?_eq_some_iff.1 hz').1
    obtain⟨u,q1,q2⟩:=key j hj
    have hj2:off+j<c.length:=by omega
    have hz:(c.drop off)[j]?=some c[off+j]:=by rw[List.getElem?_drop,List.getElem?_eq_getElem hj2]
    refine ih j _ z' hz hz' _ ?_
    rw[q1]
    exact q2 _ (List.getElem?_eq_getElem hj2)
  | own0 _ _ _ a h1 h2=>
   have:c'=[]:=List.eq_nil_of_length_eq_zero (by omega)
   subst this
   exact .sl0 a 0
 | ptr id off c c' hi hl h ih=>
  intro u hr
  cases hr with
  | ptr _ _ h1=>
   rw[List.length_drop] at hl
   have key:∀ j,j<c'.length→∃ u,w.cell? ((k.φ id).at (off+j))=some u∧∀ z,c[off+j]?=some z→Rel k z u:=fun j hj=>hbox id c hi (off+j) (by omega)
   refine .rf c' _ (fun j=>(w.cell? ((k.φ id).at (off+j))).getD undef) (fun j hj=>?_) (fun j z' hz'=>?_)
   ·obtain⟨u,q1,q2⟩:=key j hj
    rw[Rng.at_add]
    show w.cell? _=_
    rw[q1]
    rfl
   ·have hj:=(List.getElem?_eq_some_iff.1 hz').1
    obtain⟨u,q1,q2⟩:=key j hj
    have hj2:off+j<c.length:=by omega
    have hz:(c.drop off)[j]?=some c[off+j]:=by rw[List.getElem?_drop,List.getElem?_eq_getElem hj2]
    refine ih j _ z' hz hz' _ ?_
    rw[q1]
    exact q2 _ (List.getElem?_eq_getElem hj2)
 | sl n c c' hl h ih=>
  intro u hr
  cases hr with
  | sl _ cap _ a us hn h1 h2=>
   refine .sl n cap c' a us hn (fun j hj=>hs.fz _ _ (h1 j (by omega))) (fun j z' hz'=>?_)
   have hj:=(List.getElem?_eq_some_iff.1 hz').1
   have hj2:j<c.length:=by omega
   exact ih j _ z' (List.getElem?_eq_getElem hj2) hz' _ (h2 j _ (List.getElem?_eq_getElem hj2))
  | sl0 a cap=>
   have:c'=[]:=List.eq_nil_of_length_eq_zero (by simpa using hl)
   subst this
   exact .sl0 a cap
 | rf c c' hl h ih=>
  intro u hr
  cases hr with
  | rf _ a us h1 h2=>
   refine .rf c' a us (fun j hj=>hs.fz _ _ (h1 j (by omega))) (fun j z' hz'=>?_)
   have hj:=(List.getElem?_eq_some_iff.1 hz').1
   have hj2:j<c.length:=by omega
   exact ih j _ z' (List.getElem?_eq_getElem hj2) hz' _ (h2 j _ (List.getElem?_eq_getElem hj2))
 | ag c c' hl h ih=>
  intro u hr
  cases hr with
  | ag _ us hl' h'=>
   refine .ag c' us (hl'.trans hl.symm) fun j z' u hz' hu=>?_
   have hj:=(List.getElem?_eq_some_iff.1 hz').1
   have hj2:j<c.length:=by omega
   exact ih j _ z' (List.getElem?_eq_getElem hj2) hz' _ (h' j _ u (List.getElem?_eq_getElem hj2) hu)
def pln:AV→Bool
 | .v _=>true
 | .tp c | .ag c=>plnL c
 | _=>false
where plnL:List AV→Bool
 | []=>true
 | z::r=>pln z&&plnL r
theorem plnL_iff (l:List AV):pln.plnL l=true↔∀ z∈l,pln z=true:=by
 induction l with
 | nil=>simp [pln.plnL]
 | cons a l ih=>simp [pln.plnL,ih]
theorem pln_rel {k k':KW} {z:AV} {u:Value} (h:Rel k z u):pln z=true→Rel k' z u:=by
 induction h with
 | v x=>exact fun _=>.v x
 | sl | slc | rf | own | own0 | ptr | sl0=>intro h;cases h
 | no u=>exact fun _=>.no u
 | ag c us hl h ih=>exact fun hp=>.ag c us hl fun j z u hz hu=>ih j z u hz hu ((plnL_iff c).1 hp z (List.mem_of_getElem? hz))
 | fn=>intro h;cases h
 | bp0 | bp | bq0 | bq | ob0 | ob=>intro h;cases h
 | tp c us hl h ih=>exact fun hp=>.tp c us hl fun j z u hz hu=>ih j z u hz hu ((plnL_iff c).1 hp z (List.mem_of_getElem? hz))
theorem acall_lend {f:FuncId} {zs zs':List AV} {s:St} {r:AV} (h:PCall P f zs' r) (hp:pln r=true) (hz:LiesL s zs zs'):ACall P f zs s fun r' s'=>r'=r∧s'=s:=by
 refine⟨(h s).1,fun w0 k w vs hs hv=>?_⟩
 have ht:Tabs w.cell?:=k.tab.mono hs.fz
 have hv':RelL (still w ht) zs' vs:=⟨hv.1.trans hz.1.symm,fun j z' u hz' hu=>by
  have hj:j<zs.length:=by rw[←hz.1];exact(List.getElem?_eq_some_iff.1 hz').1
  exact lies_rel hs ht (hz.2 j _ z' (List.getElem?_eq_getElem hj) hz') u (hv.2 j _ u (List.getElem?_eq_getElem hj) hu)⟩
 refine (calls_of_pcall h w ht (hs.shp.tz hs.tz) vs hv').mono ?_
 rintro en w' ⟨v,k',rfl,hb,hr⟩
 exact⟨v,r,s,k,rfl,⟨rfl,rfl⟩,hs.below hb,pln_rel hr hp,KW.le_refl (by rw[hs.m];exact Nat.le_refl _)⟩
theorem pcall_mem {f:FuncId} {us:List Value} {r:AV} (hf:idf r=true) (hen:Enters P f)
  (h:∀ w,Calls P f us.toArray w fun en w'=>∃ v,en=.returned v∧Below w.heap.size w w'∧∀ k:KW,(∀ a u,w.heap.size≤a.block→w'.cell? a=some u→k.S a=some u)→Rel k r v):PCall P f (us.map .v) r:=by
 refine fun s=>⟨hen,fun w0 k w vs hs hv=>?_⟩
 have:vs=us:=by
  apply List.ext_getElem
  ·simpa using hv.1
  ·intro j h1 h2
   have:=hv.2 j (.v us[j]) vs[j] (by simp [h2]) (by simp [h1])
   exact this.v_eq
 subst this
 refine (h w).mono ?_
 rintro en w' ⟨v,rfl,hb,hr⟩
 have hs':=hs.below hb
 obtain⟨k',e1,e2,e3,e4,hs2⟩:=sim_more hs' w.heap.size fun i c hi j hj=>by
  obtain⟨u,q,_⟩:=(hs.box i c hi).2 j hj
  exact cell_block_lt q
 exact⟨v,r,s,k',rfl,⟨rfl,rfl⟩,hs2,hr k' e4,by rw[←hs.m];exact⟨by rw[e2];exact Nat.le_refl _,fun i hi=>by rw[e1],e3⟩⟩
end Ax
namespace Open
open Go Go.RowKit Ax
variable {H:Type} {enc:TypeId × Value→H} {P:Program} {w:World} {base:Nat} {spare:Nat→Bool} {held:Bool}
def Op (enc:TypeId × Value→H) (P:Program) (w:World) (base:Nat) (spare:Nat→Bool) (held:Bool) (t:TypeId) (D:Type) (cell:D→List AV):Prop:=
 ∀ (ht:Tabs w.cell?) fuel cs x,DataW.trod enc P w base spare held fuel t cs=some x→(∀ n∈x.1.weights P t,n≤reachBytes)→∃ d,RelL (still w ht) (cell d) cs
theorem Op.map {t:TypeId} {D E:Type} {cell:D→List AV} {cell':E→List AV} (h:Op enc P w base spare held t D cell) (f:D→E) (hf:∀ d,cell' (f d)=cell d):Op enc P w base spare held t E cell':=by
 intro hT fuel cs x hx hw
 obtain⟨d,hd⟩:=h hT fuel cs x hx hw
 exact⟨f d,by rw[hf];exact hd⟩
end Open
namespace CardX
open Go Go.RowKit Ax Open NumT CardS CardA CardB CardE CardG CardI CardK CardL
variable {H:Type} {enc:TypeId × Value→H} {w:World} {base:Nat} {spare:Nat→Bool} {held:Bool}
def mdlL (m:Mdl):List AV:=[SV m.name,.v (.int .u8 m.kind),NV m.g,NV m.v]
def crdL (c:Crd):List AV:=[SV c.name,TV c.nodes,SV c.ref,iv c.value.1,iv c.value.2,iv c.wave.kind,NV c.wave.vals,IV c.wave.steps]
end CardX
namespace NetS
open CardS NumS
structure Sub where
 name:Str
 ports:List Str
 cards:List Crd
structure Cir where
 step:Num
 method:Int
 models:List Mdl
 subs:List Sub
 cards:List Crd
def cir0:Cir:=⟨(0,0),0,[],[],[]⟩
def zero1:Str:=[48]
def twice (l:List Str):Bool:=decide (¬l.Nodup)
def names (l:List Crd):List Str:=l.map Crd.name
def portOk (n:Str):Bool:=isName n&&decide (n≠zero1)
def subOk (s:Sub):Bool:=isName s.name&&decide (1≤s.ports.length∧s.ports.length≤8)&&s.ports.all portOk
def cardOk (c:Crd):Bool:=decide ((writeC c).2=0)
def cardsR (c:Cir):Bool:=c.subs.all subOk&&(c.cards.all cardOk&&c.subs.all fun s=>s.cards.all cardOk)
def many (c:Cir):Bool:=decide (16<c.models.length)||decide (8<c.subs.length)||decide (64<c.cards.length)||c.subs.any fun s=>decide (64<s.cards.length)
def anyTwice (c:Cir):Bool:=(c.subs.any fun s=>twice s.ports||twice (names s.cards))||(twice (c.models.map Mdl.name)||(twice (c.subs.map Sub.name)||twice (names c.cards)))
def refE (x:Crd) (cards:List Crd) (models:List Mdl) (subs:List Sub):Int:=
 let k:=x.name.getD 0 0
 if k=100∨k=115 then (if models.any (fun m=>decide (m.name=x.ref)&&decide (m.kind=(k:Nat))) then 0 else 81)
 else if k=102∨k=104 then (if cards.any (fun o=>decide (o.name=x.ref)) then 0 else 81)
 else if k=120 then (match subs.find? (fun s=>decide (s.name=x.ref)) with
  | none=>81
  | some s=>if s.ports.length≠x.nodes.length then 82 else 0)
 else 0
def worse (w e:Int):Int:=if e≠0∧w≠81 then e else w
def lookE (models:List Mdl) (subs:List Sub) (cards:List Crd) (w:Int):Int:=cards.foldl (fun w x=>worse w (refE x cards models subs)) w
def refsE (c:Cir):Int:=
 lookE c.models c.subs c.cards ((List.range c.subs.length).foldl (fun w k=>lookE c.models (c.subs.take k) ((c.subs.map Sub.cards).getD k []) w) 0)
def checkN (c:Cir):Int:=
 if valid c.step=false∨c.step.1≤0∨(c.method≠1∧c.method≠2) then 1
 else if c.models.all modelOk=false then 50
 else if cardsR c=false then 70
 else if many c=true then 7
 else if anyTwice c=true then 8
 else refsE c
def joinS:List Str→Str
 | []=>[]
 | [w]=>w
 | w::r=>w++32::joinS r
def lineS (l:List Str):Str:=joinS l++[10]
def sStep:Str:=[46,115,116,101,112]
def sMethod:Str:=[46,109,101,116,104,111,100]
def sEuler:Str:=[101,117,108,101,114]
def sTrap:Str:=[116,114,97,112]
def sSub:Str:=[46,115,117,98,99,107,116]
def sEnds:Str:=[46,101,110,100,115]
def sEnd:Str:=[46,101,110,100]
def cardsS (l:List Crd):Str:=l.flatMap fun x=>lineS (wordsC x)
def subS (s:Sub):Str:=lineS (sSub::s.name::s.ports)++(cardsS s.cards++lineS [sEnds])
def bodyN (c:Cir):Str:=
 lineS [sStep,textN c.step]++(lineS [sMethod,if c.method=2 then sTrap else sEuler]++(c.models.flatMap (fun m=>lineS (modelT m))++(c.subs.flatMap subS++(cardsS c.cards++lineS [sEnd]))))
def printN (c:Cir):Str × Int:=if checkN c≠0 then ([],checkN c) else if 65536<(bodyN c).length then ([],2) else (bodyN c,0)
structure Par where
 c:Cir
 step:Bool
 method:Bool
 ended:Bool
 inside:Bool
 begun:Int
 places:List Int
 subPl:List (List Int)
def par0:Par:=⟨⟨(1,-6),1,[],[],[]⟩,false,false,false,false,0,[],[]⟩
abbrev Line:=Int × List Str
def orderOk (p:Par) (k:Str):Bool:=
 if p.ended=true then false
 else if k=sStep∨k=sMethod∨k=sModel∨k=sSub∨k=sEnd then !p.inside
 else if k=sEnds then p.inside
 else true
def countOk (w:List Str):Bool:=
 let k:=w.headD []
 if k=sStep then decide (w.length=2)
 else if k=sMethod then decide (w.length=2)&&(decide (w.getD 1 []=sEuler)||decide (w.getD 1 []=sTrap))
 else if k=sModel then true
 else if k=sSub then decide (3≤w.length∧w.length≤10)
 else if k=sEnds∨k=sEnd then decide (w.length=1)
 else decide (k.getD 0 0≠46)
def setStep (p:Par) (s:Str):Par × Int:=
 if (parseS s).2.2≠0 then (p,(parseS s).2.2)
 else if (parseS s).1≤0 then (p,1)
 else if p.step=true then (p,8)
 else ({ p with step:=true,c:={ p.c with step:=numV s } },0)
def setMethod (p:Par) (s:Str):Par × Int:=
 if p.method=true then (p,8) else ({ p with method:=true,c:={ p.c with method:=if s=sTrap then 2 else p.c.method } },0)
def addModel (p:Par) (w:List Str):Par × Int:=
 if (readM w).2≠0 then (p,(readM w).2)
 else if p.c.models.any (fun o=>decide (o.name=(readM w).1.name))=true then (p,8)
 else if p.c.models.length=16 then (p,7)
 else ({ p with c:={ p.c with models:=p.c.models++[(readM w).1] } },0)
def addSub (p:Par) (l:Line):Par × Int:=
 let w:=l.2
 if (w.drop 1).all isName=false then (p,71)
 else if (w.drop 2).all (fun n=>decide (n≠zero1))=false then (p,71)
 else if twice (w.drop 2)=true then (p,8)
 else if p.c.subs.any (fun o=>decide (o.name=w.getD 1 []))=true then (p,8)
 else if p.c.subs.length=8 then (p,7)
 else ({ p with c:={ p.c with subs:=p.c.subs++[⟨w.getD 1 [],w.drop 2,[]⟩] },subPl:=p.subPl++[[]],inside:=true,begun:=l.1 },0)
def openL (p:Par):List Crd:=if p.inside=true then (p.c.subs.getLast?.map Sub.cards).getD [] else p.c.cards
def lastMap {α:Type} (f:α→α):List α→List α
 | []=>[]
 | [a]=>[f a]
 | a::b::r=>a::lastMap f (b::r)
def addCard (p:Par) (l:Line):Par × Int:=
 if (readC l.2).2≠0 then (p,(readC l.2).2)
 else if (openL p).any (fun o=>decide (o.name=(readC l.2).1.name))=true then (p,8)
 else if (openL p).length=64 then (p,7)
 else if p.inside=true then ({ p with c:={ p.c with subs:=lastMap (fun s=>{ s with cards:=s.cards++[(readC l.2).1] }) p.c.subs },subPl:=lastMap (fun a=>a++[l.1]) p.subPl },0)
 else ({ p with c:={ p.c with cards:=p.c.cards++[(readC l.2).1] },places:=p.places++[l.1] },0)
def lineN (p:Par) (l:Line):Par × Int:=
 let k:=l.2.headD []
 if orderOk p k=false then (p,80)
 else if countOk l.2=false then (p,70)
 else if k=sStep then setStep p (l.2.getD 1 [])
 else if k=sMethod then setMethod p (l.2.getD 1 [])
 else if k=sModel then addModel p l.2
 else if k=sSub then addSub p l
 else if k=sEnds then ({ p with inside:=false },0)
 else if k=sEnd then ({ p with ended:=true },0)
 else addCard p l
def linesN:Par→List Line→Par × Int × Int
 | p,[]=>(p,0,0)
 | p,l::r=>if (lineN p l).2≠0 then ((lineN p l).1,l.1,(lineN p l).2) else linesN (lineN p l).1 r
def lookP (models:List Mdl) (subs:List Sub) (cards:List Crd):List (Crd × Int)→Int × Int→Int × Int
 | [],b=>b
 | (x,a)::r,b=>lookP models subs cards r (if refE x cards models subs≠0∧a<b.1 then (a,refE x cards models subs) else b)
def refsP (p:Par):Int × Int:=
 lookP p.c.models p.c.subs p.c.cards (p.c.cards.zip p.places)
  ((List.range p.c.subs.length).foldl (fun b k=>lookP p.c.models (p.c.subs.take k) ((p.c.subs.map Sub.cards).getD k []) (((p.c.subs.map Sub.cards).getD k []).zip (p.subPl.getD k [])) b) (1073741824,0))
def parseL (L:List Line):Cir × Int × Int:=
 let r:=linesN par0 L
 if r.2.2≠0 then (cir0,r.2.1,r.2.2)
 else if r.1.inside=true then (cir0,r.1.begun,80)
 else if (refsP r.1).2≠0 then (cir0,(refsP r.1).1,(refsP r.1).2)
 else (r.1.c,0,0)
end NetS
namespace NetA
open Go Go.RowKit Ax Ti NumS NumT CardS CardP CardA CardB CardE CardG CardI CardJ CardK CardL CardX NetS
theorem rTI:type_of% (J23 @ti3 @ti4 @ti9 @ti5 @ti43 @ti45 @ti44 @ti23 @ti47 @ti49 @ti68 @ti51 @ti28 @ti26 @ti24 @ti25 @ti31 @Nat.zero_add @tz0 @tz1 @tz3 @Nat.mul_one @Int.toNat_natCast):=cj @ti3 (J22 @ti4 @ti9 @ti5 @ti43 @ti45 @ti44 @ti23 @ti47 @ti49 @ti68 @ti51 @ti28 @ti26 @ti24 @ti25 @ti31 @Nat.zero_add @tz0 @tz1 @tz3 @Nat.mul_one @Int.toNat_natCast)
theorem fl_len {α:Type} (f:α→List AV) (n:Nat) (hf:∀ x,(f x).length=n):∀ l:List α,(l.flatMap f).length=l.length*n
 | []=>by simp
 | a::l=>by
  rw[List.flatMap_cons,List.length_append,hf,fl_len f n hf l,List.length_cons,Nat.add_mul]
  omega
theorem fl_at {α:Type} (f:α→List AV) (d:α) (n:Nat) (hf:∀ x,(f x).length=n):∀ (l:List α) (k:Nat),k<l.length→((l.flatMap f).drop (k*n)).take n=f (l.getD k d)
 | [],k,h=>absurd h (Nat.not_lt_zero _)
 | a::l,0,h=>by
  rw[Nat.zero_mul,List.drop_zero,List.flatMap_cons,List.take_append_of_le_length (by rw[hf];exact Nat.le_refl _),List.take_of_length_le (by rw[hf];exact Nat.le_refl _)]
  rfl
 | a::l,k+1,h=>by
  have:=fl_at f d n hf l k (Nat.lt_of_succ_lt_succ h)
  rw[List.getD_cons_succ,←this,List.flatMap_cons,List.drop_append,hf,Nat.add_mul,Nat.one_mul,Nat.add_sub_cancel,List.drop_of_length_le (by rw[hf];omega),List.nil_append]
def KL (l:List Crd):List AV:=l.flatMap crdL
def KV (l:List Crd):AV:=.sl l.length (KL l)
def ML (l:List Mdl):List AV:=l.flatMap mdlL
def MV (l:List Mdl):AV:=.sl l.length (ML l)
def subL (s:Sub):List AV:=[SV s.name,TV s.ports,KV s.cards]
def UL (l:List Sub):List AV:=l.flatMap subL
def UV (l:List Sub):AV:=.sl l.length (UL l)
def cirL (c:Cir):List AV:=[.v (.int .i64 c.step.1),.v (.int .i64 c.step.2),.v (.int .i64 c.method),MV c.models,UV c.subs,KV c.cards]
def CirV (c:Cir):AV:=.ag (cirL c)
def sub0:Sub:=⟨[],[],[]⟩
theorem kl_len (l:List Crd):(KL l).length=l.length*8:=fl_len crdL 8 (fun _=>rfl) l
theorem ml_len (l:List Mdl):(ML l).length=l.length*4:=fl_len mdlL 4 (fun _=>rfl) l
theorem ul_len (l:List Sub):(UL l).length=l.length*3:=fl_len subL 3 (fun _=>rfl) l
theorem kl_at (l:List Crd) (k:Nat) (h:k<l.length):((KL l).drop (k*8)).take 8=crdL (l.getD k crd0):=fl_at crdL crd0 8 (fun _=>rfl) l k h
theorem ml_at (l:List Mdl) (k:Nat) (h:k<l.length):((ML l).drop (k*4)).take 4=mdlL (l.getD k mdl0):=fl_at mdlL mdl0 4 (fun _=>rfl) l k h
theorem ul_at (l:List Sub) (k:Nat) (h:k<l.length):((UL l).drop (k*3)).take 3=subL (l.getD k sub0):=fl_at subL sub0 3 (fun _=>rfl) l k h
theorem nodup_take (l:List Str) (k:Nat) (h:k<l.length):(l.take (k+1)).Nodup↔(l.take k).Nodup∧∀ j,j<k→l.getD j []≠l.getD k []:=by
 rw[List.take_succ_eq_append_getElem h,List.nodup_append,List.getD_eq_getElem?_getD,List.getElem?_eq_getElem h]
 constructor
 ·rintro ⟨h1,_,h2⟩
  refine⟨h1,fun j hj=>?_⟩
  rw[List.getD_eq_getElem?_getD,List.getElem?_eq_getElem (by omega)]
  exact h2 _ (by rw[List.mem_take_iff_getElem];exact⟨j,by omega,rfl⟩) _ (List.mem_singleton_self _)
 ·rintro ⟨h1,h2⟩
  refine⟨h1,by simp,fun a ha b hb=>?_⟩
  rw[List.mem_take_iff_getElem] at ha
  obtain⟨j,hj,rfl⟩:=ha
  rw[List.mem_singleton] at hb
  subst hb
  have:=h2 j (by omega)
  rw[List.getD_eq_getElem?_getD,List.getElem?_eq_getElem (by omega)] at this
  exact this
theorem twice_ax (l:List Str) (h:BL l) (hl:l.length≤9223372036854775807):PCall Tryz.prog 72 [TV l] (.v (.bool (twice l))):=by
 refine pcall_of fun s=>?_
 unfold TV
 refine acall_of Tryz.func72 rfl rfl (by simp [Tryz.ntmps72]) ?_;rw[Tryz.ntmps72,Tryz.results72]
 refine go rTI ?_
 refine aw_loop (fun m e s'=>∃ k,m=l.length-k∧k≤l.length∧e.n=27∧e.m 0=.sl l.length (SL l)∧e.m 7=.sl l.length (SL l)∧e.m 8=.v (.int .i64 l.length)∧e.m 9=.v (.int .i64 (k:Nat))∧(l.take k).Nodup∧s'=s) l.length ?_ ?_
 ·refine⟨0,by omega,by omega,?_⟩
  (repeat' refine And.intro ?_ ?_) <;> first | exact rfl | exact fnz rTI | skip
  exact List.nodup_nil
 ·rintro m e s' ⟨k,rfl,hk,h1,k0,k7,k8,k9,hn,rfl⟩
  by_cases hk2:k<l.length
  ·have f1:=hd_SL l k hk2
   unfold SV at f1
   refine go (J4 rTI @h1 @k8 @k9) ?_
   refine ifs ?_ ?_ <;> first | exact nope | intro hb
   refine aw_skip ?_
   refine go (J7 rTI @h1 @k0 @k7 @k8 @k9 @f1) ?_
   simp only[Nat.sub_zero]
   refine aw_loop (fun m e' s''=>∃ j,m=k-j∧j≤k∧e'.n=27∧e'.m 0=.sl l.length (SL l)∧e'.m 7=.sl l.length (SL l)∧e'.m 8=.v (.int .i64 l.length)∧e'.m 9=.v (.int .i64 (k:Nat)) ∧
    e'.m 4=.v (.string (bs (l.getD k [])))∧e'.m 16=.sl k ((SL l).take k)∧e'.m 17=.v (.int .i64 (k:Nat))∧e'.m 18=.v (.int .i64 (j:Nat))∧(∀ i,i<j→l.getD i []≠l.getD k [])∧s''=s') k ?_ ?_
   ·refine⟨0,by omega,by omega,?_⟩
    (repeat' refine And.intro ?_ ?_) <;> first | exact rfl | exact fnz (J6 rTI @h1 @k0 @k7 @k8 @k9) | skip
    exact fun i hi=>absurd hi (Nat.not_lt_zero _)
   ·clear h1 k0 k7 k8 k9 e
    rintro m e s'' ⟨j,rfl,hj,h1,k0,k7,k8,k9,k4,k16,k17,k18,hd,rfl⟩
    by_cases hj2:j<k
    ·have g1:(((SL l).take k).drop j).head?=some (.v (.string (bs (l.getD j [])))):=by
      rw[List.head?_drop,List.getElem?_take_of_lt hj2,←List.head?_drop]
      exact hd_SL l j (by omega)
     have g3:=str_eq (l.getD k []) (l.getD j []) (bl_at l h k) (bl_at l h j)
     refine go (J4 rTI @h1 @k17 @k18) ?_
     refine ifs ?_ ?_ <;> first | exact nope | intro hb
     refine aw_skip ?_
     by_cases q:l.getD k []=l.getD j []
     ·rw[decide_eq_true q] at g3
      refine go (J8 rTI @h1 @k4 @k16 @k17 @k18 @g1 @g3) ?_
      refine ifs ?_ ?_ <;> first | exact nope | intro hb
      rw[show twice l=true from decide_eq_true fun g=>((nodup_take l k hk2).1 (g.sublist (List.take_sublist _ _))).2 j hj2 q.symm]
      exact go0 (cj rTI @h1)
     ·rw[decide_eq_false q] at g3
      refine go (J8 rTI @h1 @k4 @k16 @k17 @k18 @g1 @g3) ?_
      refine ifs ?_ ?_ <;> first | exact nope | intro hb
      refine go (J3 rTI @h1 @k18) ?_
      simp only[block_normal,loop_normal]
      refine⟨k-(j+1),by omega,j+1,rfl,by omega,?_⟩
      (repeat' refine And.intro ?_ ?_) <;> first | exact rfl | exact fnz (J9 @h1 @k0 @k7 @k8 @k9 @k4 @k16 @k17 @k18) | skip
      ·intro i hi
       rcases Nat.lt_or_ge i j with g | g
       ·exact hd i g
       ·obtain rfl:i=j:=by omega
        exact fun e=>q e.symm
    ·obtain rfl:j=k:=by omega
     refine go (J4 rTI @h1 @k17 @k18) ?_
     refine ifs ?_ ?_ <;> first | exact nope | intro hb
     refine go (J3 rTI @h1 @k9) ?_
     simp only[block_normal,loop_normal]
     refine⟨l.length-(j+1),by omega,j+1,rfl,by omega,?_⟩
     (repeat' refine And.intro ?_ ?_) <;> first | exact rfl | exact fnz (J5 @h1 @k0 @k7 @k8 @k9) | skip
     exact(nodup_take l j hk2).2 ⟨hn,hd⟩
  ·obtain rfl:k=l.length:=by omega
   rw[List.take_length] at hn
   rw[show twice l=false from decide_eq_false fun g=>g hn]
   refine go (J4 rTI @h1 @k8 @k9) ?_
   refine ifs ?_ ?_ <;> first | exact nope | intro hb
   exact go0 (cj rTI @h1)
theorem name_ax (x:Str) (h:By x) (hl:x.length≤281474976710656):PCall Tryz.prog 70 [SV x] (.v (.bool (isName x))):=by
 refine pcall_of fun s=>?_
 have p0:=CardA.cname_ax x h (by omega)
 refine acall_of Tryz.func70 rfl rfl (by simp [Tryz.ntmps70]) ?_;rw[Tryz.ntmps70,Tryz.results70]
 refine go rTI ?_
 refine aw_reg fun K hK=>?_;refine rn rTI ?_;refine cont_pure p0 ?_;refine rn rTI ?_;refine hK _ _ ?_;clear hK K
 exact go0 rTI
theorem sl_names (l:List Crd) (k:Nat) (h:k<l.length):SL (names (l.take (k+1)))=SL (names (l.take k))++[SV (l.getD k crd0).name]:=by
 unfold names
 rw[map_take Crd.name l crd0 k h]
 exact List.map_append
theorem loop_app {s s':St} {id:Nat} (c d w e:List AV) (h1:s.nx≤id) (h2:id<s'.nx) (hf:∀ i,i<s.nx→s'.get i=s.get i) :
  s.nx≤s'.nx+1+1∧s'.nx+1+1<(((((s'.push c).set s'.nx d).push w).kill id).push e).nx∧∀ i,i<s.nx→(((((s'.push c).set s'.nx d).push w).kill id).push e).get i=s.get i:=by
 refine⟨by omega,Nat.lt_succ_self _,fun i hi=>?_⟩
 rw[St.push_ne ((((s'.push c).set s'.nx d).push w).kill id) i _ (show i≠s'.nx+1+1 by omega),St.kill_ne _ _ _ (by omega),St.push_ne ((s'.push c).set s'.nx d) i _ (show i≠s'.nx+1 by omega),St.set_ne _ _ _ _ (by omega),St.push_ne s' i _ (by omega)]
 exact hf i hi
theorem names_ax (l:List Crd) (hl:l.length≤100000):PCall Tryz.prog 71 [KV l] (TV (names l)):=by
 refine pcall_own (tv_idf _) fun s=>?_
 unfold KV
 refine acall_of Tryz.func71 rfl rfl (by simp [Tryz.ntmps71]) ?_;rw[Tryz.ntmps71,Tryz.results71]
 refine aw_seq ?_
 refine aw_reg fun K hK=>?_;refine rn rTI ?_;refine hK _ _ ?_;clear hK K
 refine aw_seq ?_
 refine aw_reg fun K hK=>?_;refine rn rTI ?_;refine hK _ _ ?_;clear hK K
 refine aw_nil 3 1 rfl rfl ?_
 refine go rTI ?_
 refine aw_loop (fun m e s'=>∃ k id,m=l.length-k∧k≤l.length∧e.n=19∧e.m 3=.own id 0 k 1∧e.m 6=.sl l.length (KL l)∧e.m 7=.v (.int .i64 l.length)∧e.m 8=.v (.int .i64 (k:Nat))∧s'.get id=some (SL (names (l.take k)))∧s.nx≤id∧id<s'.nx ∧
  ∀ i,i<s.nx→s'.get i=s.get i) l.length ?_ ?_
 ·refine⟨0,s.nx,by omega,by omega,?_⟩
  (repeat' refine And.intro ?_ ?_) <;> first | exact rfl | exact fnz rTI | skip
  ·exact St.push_same s _
  ·exact Nat.le_refl _
  ·exact Nat.lt_succ_self _
 ·rintro m e s' ⟨k,id,rfl,hk,h1,k3,k6,k7,k8,hg,hi1,hi2,hf⟩
  by_cases hk2:k<l.length
  ·have f1:=kl_at l k hk2
   have f3:8≤((KL l).drop (k*8)).length:=by rw[List.length_drop,kl_len];omega
   have f4:=sl_names l k hk2
   generalize hx:l.getD k crd0=x at f1 f4
   unfold crdL SV at f1
   unfold SV at f4
   refine go (J4 rTI @h1 @k7 @k8) ?_
   refine ifs ?_ ?_ <;> first | exact nope | intro hb
   refine aw_skip ?_
   have f5:(SL (names (l.take k))).length=k:=by
    unfold SL names
    rw[List.length_map,List.length_map,List.length_take]
    omega
   refine go (J10 rTI @h1 @k3 @k6 @k7 @k8 @f1 @f3 @f5 @hg) ?_
   simp only[block_normal,loop_normal]
   refine⟨l.length-(k+1),by omega,k+1,s'.nx+1+1,rfl,by omega,?_⟩
   (repeat' refine And.intro ?_ ?_) <;> first | exact rfl | exact fnz (J6 @h1 @k3 @k6 @k7 @k8 @f4) | skip
   ·omega
   ·exact(loop_app _ _ _ _ hi1 hi2 hf).2.1
   ·exact(loop_app _ _ _ _ hi1 hi2 hf).2.2
  ·obtain rfl:k=l.length:=by omega
   refine go (J4 rTI @h1 @k7 @k8) ?_
   refine ifs ?_ ?_ <;> first | exact nope | intro hb
   refine go (J3 rTI @h1 @k3) ?_
   rw[List.take_length] at hg
   have e2:(names l).length=l.length:=List.length_map _
   refine⟨id,_,hi1,hg,?_,hf⟩
   rw[←e2]
   exact frz_SL id _
end NetA
namespace NetE
open Go Go.RowKit Ax Ti NumS NumT CardS CardP CardA CardB CardE CardG CardI CardJ CardK CardL CardX NetS NetA
theorem rTI:type_of% (J23 @ti3 @ti4 @ti9 @ti5 @ti43 @ti45 @ti44 @ti23 @ti47 @ti49 @ti68 @ti51 @ti28 @ti26 @ti24 @ti25 @ti31 @Nat.zero_add @tz0 @tz1 @tz3 @Nat.mul_one @Int.toNat_natCast):=cj @ti3 (J22 @ti4 @ti9 @ti5 @ti43 @ti45 @ti44 @ti23 @ti47 @ti49 @ti68 @ti51 @ti28 @ti26 @ti24 @ti25 @ti31 @Nat.zero_add @tz0 @tz1 @tz3 @Nat.mul_one @Int.toNat_natCast)
theorem any_take {α:Type} (g:α→Bool) (l:List α) (d:α) (k:Nat) (h:k<l.length) (hn:(l.take k).any g=false):(l.take (k+1)).any g=g (l.getD k d):=by
 rw[List.take_succ_eq_append_getElem h,List.any_append,hn,List.getD_eq_getElem?_getD,List.getElem?_eq_getElem h]
 simp
theorem any_get {α:Type} (g:α→Bool) (l:List α) (d:α) (k:Nat) (h:k<l.length) (hg:g (l.getD k d)=true):l.any g=true:=by
 rw[List.getD_eq_getElem?_getD,List.getElem?_eq_getElem h] at hg
 exact List.any_eq_true.2 ⟨_,List.getElem_mem h,hg⟩
theorem getD_mem {α:Type} (l:List α) (d:α) (k:Nat) (h:k<l.length):l.getD k d∈l:=by
 rw[List.getD_eq_getElem?_getD,List.getElem?_eq_getElem h]
 exact List.getElem_mem h
theorem push_set_get (s:St) (c d:List AV):((s.push c).set s.nx d).get s.nx=some d:=St.set_same _ _ _
theorem push_set_ne (s:St) (c d:List AV) (i:Nat) (h:i<s.nx):((s.push c).set s.nx d).get i=s.get i:=by
 rw[St.set_ne _ _ _ _ (by omega),St.push_ne s i _ (by omega)]
theorem ref_models (x:Crd) (cards:List Crd) (models:List Mdl) (subs:List Sub) (k:Nat) (hk:x.name.getD 0 0=k) (kd:k=100∨k=115) (hx:By x.name) (h0:0<x.name.length) (hr:By x.ref) (hm:∀ m∈models,By m.name) (lm:models.length≤9223372036854775807) :
  PCall Tryz.prog 74 [CA x,KV cards,MV models,UV subs] (.v (.int .i64 (if models.any (fun m=>decide (m.name=x.ref)&&decide (m.kind=(k:Nat))) then 0 else 81))):=by
 refine pcall_of fun s=>?_
 have hg:=bs_get x.name hx 0
 have lS:=bs_size x.name
 rw[hk] at hg
 rw[show CA x=.ag (crdL x) from rfl]
 generalize hC:crdL x=C at *
 unfold crdL SV iv at hC
 generalize hP:(fun m:Mdl=>decide (m.name=x.ref)&&decide (m.kind=(k:Nat)))=P at *
 have hc0:C.take 1=[.v (.string (bs x.name))]:=by rw[←hC];rfl
 have hc2:(C.drop 2).take 1=[.v (.string (bs x.ref))]:=by rw[←hC];rfl
 unfold MV
 have hb1:((k:Int)==100)=decide (k=100):=by rw[Bool.eq_iff_iff];simp;omega
 have hb2:((k:Int)==115)=decide (k=115):=by rw[Bool.eq_iff_iff];simp;omega
 subst hC
 rcases kd with kd | kd
 case' inl=>
  rw[decide_eq_true kd] at hb1
  refine acall_of Tryz.func74 rfl rfl (by simp [Tryz.ntmps74]) ?_;rw[Tryz.ntmps74,Tryz.results74]
  refine go (J4 rTI @lS @hg @hb1) ?_
  refine ifs ?_ ?_ <;> first | exact nope | intro hb
  refine aw_skip ?_
  refine ifs ?_ ?_ <;> first | exact nope | intro hb
  refine go rTI ?_
 case' inr=>
  rw[decide_eq_true kd] at hb2
  rw[decide_eq_false (by omega)] at hb1
  refine acall_of Tryz.func74 rfl rfl (by simp [Tryz.ntmps74]) ?_;rw[Tryz.ntmps74,Tryz.results74]
  refine go (J4 rTI @lS @hg @hb1) ?_
  refine ifs ?_ ?_ <;> first | exact nope | intro hb
  refine go (cj rTI @hb2) ?_
  refine ifs ?_ ?_ <;> first | exact nope | intro hb
  refine go rTI ?_
 all_goals
  refine aw_loop (fun m e s'=>∃ j,m=models.length-j∧j≤models.length∧e.n=77∧e.m 4=.ptr s.nx 0∧e.m 21=.sl models.length (ML models)∧e.m 22=.v (.int .i64 models.length)∧e.m 23=.v (.int .i64 (j:Nat))∧(models.take j).any P=false ∧
   s'.get s.nx=some [.v (.string (bs x.name)),TV x.nodes,.v (.string (bs x.ref)),.v (.int .i64 x.value.1),.v (.int .i64 x.value.2),.v (.int .i64 x.wave.kind),NV x.wave.vals,IV x.wave.steps]∧s.nx<s'.nx∧∀ i,i<s.nx→s'.get i=s.get i) models.length ?_ ?_
  ·refine⟨0,by omega,by omega,?_⟩
   (repeat' refine And.intro ?_ ?_) <;> first | exact rfl | exact fnz rTI | skip
   all_goals first | exact Nat.lt_succ_self _ | exact St.push_same s _ | exact fun i hi=>St.push_ne s i _ (by omega)
  ·rintro m e s' ⟨j,rfl,hj,h1,k4,k21,k22,k23,hn,hb',hx',hf⟩
   by_cases hj2:j<models.length
   ·have f1:=ml_at models j hj2
    have f3:4≤((ML models).drop (j*4)).length:=by rw[List.length_drop,ml_len];omega
    have f4:=any_take P models mdl0 j hj2 hn
    have f5:=any_get P models mdl0 j hj2
    have hmj:=hm _ (getD_mem models mdl0 j hj2)
    generalize models.getD j mdl0=y at f1 f4 f5 hmj
    unfold mdlL SV at f1
    have g3:=str_eq y.name x.ref hmj hr
    have g4:(y.kind==(k:Int))=decide (y.kind=(k:Nat)):=by rw[Bool.eq_iff_iff];simp
    have hP':P y=(decide (y.name=x.ref)&&decide (y.kind=(k:Nat))):=by rw[←hP]
    refine go (J4 rTI @h1 @k22 @k23) ?_
    refine ifs ?_ ?_ <;> first | exact nope | intro hb
    refine aw_skip ?_
    refine aw_seq ?_
    refine aw_block ?_
    refine aw_seq ?_
    refine aw_reg fun K hK=>?_;refine rn (J6 rTI @h1 @k21 @k23 @f1 @f3) ?_;refine hK _ _ ?_;clear hK K
    refine aw_seq ?_
    by_cases q1:y.name=x.ref
    ·rw[decide_eq_true q1] at g3
     rw[decide_eq_true q1,Bool.true_and] at hP'
     by_cases q2:y.kind=(k:Nat)
     ·rw[decide_eq_true q2] at g4 hP'
      refine aw_drw (.take 0 (.take 1 (.take 2 (.take 3 (.take 4 (.take 5 (.take 6 (.take 7 (.take 8 (.take 9 (.take 10 (.take 11 (.take 12 (.done)))))))))))))) [s.nx,s'.nx] (by kernel_rfl) (by kernel_rfl) fun K hK=>?_;refine dr (J9 rTI @h1 @k4 @k23 @hb' @g3 @g4 @hg @lS) ?_;refine hK _ _ ?_;clear hK K
      refine ifs ?_ ?_ <;> first | exact nope | intro hb
      rw[if_pos (f5 hP')]
      refine go (cj rTI @h1) ?_
      exact fun i hi=>(if_neg (by omega)).trans (hf i hi)
     ·rw[decide_eq_false q2] at g4 hP'
      refine aw_drw (.take 0 (.take 1 (.take 2 (.take 3 (.take 4 (.take 5 (.take 6 (.take 7 (.take 8 (.take 9 (.take 10 (.take 11 (.take 12 (.done)))))))))))))) [s.nx,s'.nx] (by kernel_rfl) (by kernel_rfl) fun K hK=>?_;refine dr (J9 rTI @h1 @k4 @k23 @hb' @g3 @g4 @hg @lS) ?_;refine hK _ _ ?_;clear hK K
      refine ifs ?_ ?_ <;> first | exact nope | intro hb
      refine go (J3 rTI @h1 @k23) ?_
      simp only[block_normal,loop_normal]
      refine⟨models.length-(j+1),by omega,j+1,rfl,by omega,?_⟩
      (repeat' refine And.intro ?_ ?_) <;> first | exact rfl | exact fnz (J5 @h1 @k4 @k21 @k22 @k23) | skip
      ·exact f4.trans hP'
      ·exact(push_set_ne s' _ _ _ hx').trans hb'
      ·exact Nat.lt_succ_of_lt hx'
      ·exact fun i hi=>(push_set_ne s' _ _ _ (by omega)).trans (hf i hi)
    ·rw[decide_eq_false q1] at g3
     rw[decide_eq_false q1,Bool.false_and] at hP'
     refine aw_drw (.take 0 (.take 1 (.take 2 (.take 3 (.take 4 (.take 5 (.take 6 (.take 7 (.take 8 (.take 9 (.take 10 (.take 11 (.take 12 (.done)))))))))))))) [s.nx,s'.nx] (by kernel_rfl) (by kernel_rfl) fun K hK=>?_;refine dr (J8 rTI @h1 @k4 @k23 @hb' @g3 @hg @lS) ?_;refine hK _ _ ?_;clear hK K
     refine ifs ?_ ?_ <;> first | exact nope | intro hb
     refine go (J3 rTI @h1 @k23) ?_
     simp only[block_normal,loop_normal]
     refine⟨models.length-(j+1),by omega,j+1,rfl,by omega,?_⟩
     (repeat' refine And.intro ?_ ?_) <;> first | exact rfl | exact fnz (J5 @h1 @k4 @k21 @k22 @k23) | skip
     ·exact f4.trans hP'
     ·exact(push_set_ne s' _ _ _ hx').trans hb'
     ·exact Nat.lt_succ_of_lt hx'
     ·exact fun i hi=>(push_set_ne s' _ _ _ (by omega)).trans (hf i hi)
   ·obtain rfl:j=models.length:=by omega
    rw[List.take_length] at hn
    refine go (J4 rTI @h1 @k22 @k23) ?_
    refine ifs ?_ ?_ <;> first | exact nope | intro hb
    rw[hn,if_neg (by simp)]
    refine go (cj rTI @h1) ?_
    exact hf
theorem ref_cards (x:Crd) (cards:List Crd) (models:List Mdl) (subs:List Sub) (k:Nat) (hk:x.name.getD 0 0=k) (kd:k=102∨k=104) (hx:By x.name) (h0:0<x.name.length) (hr:By x.ref) (hm:∀ o∈cards,By o.name) (lm:cards.length≤9223372036854775807) :
  PCall Tryz.prog 74 [CA x,KV cards,MV models,UV subs] (.v (.int .i64 (if cards.any (fun o=>decide (o.name=x.ref)) then 0 else 81))):=by
 refine pcall_of fun s=>?_
 have hg:=bs_get x.name hx 0
 have lS:=bs_size x.name
 rw[hk] at hg
 rw[show CA x=.ag (crdL x) from rfl]
 generalize hC:crdL x=C at *
 unfold crdL SV iv at hC
 generalize hP:(fun o:Crd=>decide (o.name=x.ref))=P at *
 unfold KV
 have hb1:((k:Int)==100)=false:=by rw[Bool.eq_iff_iff];simp;omega
 have hb2:((k:Int)==115)=false:=by rw[Bool.eq_iff_iff];simp;omega
 have hb3:((k:Int)==102)=decide (k=102):=by rw[Bool.eq_iff_iff];simp;omega
 have hb4:((k:Int)==104)=decide (k=104):=by rw[Bool.eq_iff_iff];simp;omega
 subst hC
 refine acall_of Tryz.func74 rfl rfl (by simp [Tryz.ntmps74]) ?_;rw[Tryz.ntmps74,Tryz.results74]
 refine go (J4 rTI @lS @hg @hb1) ?_
 refine ifs ?_ ?_ <;> first | exact nope | intro hb
 refine go (cj rTI @hb2) ?_
 refine ifs ?_ ?_ <;> first | exact nope | intro hb
 rcases kd with kd | kd
 case' inl=>
  rw[decide_eq_true kd] at hb3
  refine go (cj rTI @hb3) ?_
  refine ifs ?_ ?_ <;> first | exact nope | intro hb
  refine aw_skip ?_
  refine ifs ?_ ?_ <;> first | exact nope | intro hb
  refine go rTI ?_
 case' inr=>
  rw[decide_eq_true kd] at hb4
  rw[decide_eq_false (by omega)] at hb3
  refine go (cj rTI @hb3) ?_
  refine ifs ?_ ?_ <;> first | exact nope | intro hb
  refine go (cj rTI @hb4) ?_
  refine ifs ?_ ?_ <;> first | exact nope | intro hb
  refine go rTI ?_
 all_goals
  refine aw_loop (fun m e s'=>∃ j,m=cards.length-j∧j≤cards.length∧e.n=77∧e.m 4=.ptr s.nx 0∧e.m 44=.sl cards.length (KL cards)∧e.m 45=.v (.int .i64 cards.length)∧e.m 46=.v (.int .i64 (j:Nat))∧(cards.take j).any P=false ∧
   s'.get s.nx=some [.v (.string (bs x.name)),TV x.nodes,.v (.string (bs x.ref)),.v (.int .i64 x.value.1),.v (.int .i64 x.value.2),.v (.int .i64 x.wave.kind),NV x.wave.vals,IV x.wave.steps]∧s.nx<s'.nx∧∀ i,i<s.nx→s'.get i=s.get i) cards.length ?_ ?_
  ·refine⟨0,by omega,by omega,?_⟩
   (repeat' refine And.intro ?_ ?_) <;> first | exact rfl | exact fnz rTI | skip
   all_goals first | exact Nat.lt_succ_self _ | exact St.push_same s _ | exact fun i hi=>St.push_ne s i _ (by omega)
  ·rintro m e s' ⟨j,rfl,hj,h1,k4,k21,k22,k23,hn,hb',hx',hf⟩
   by_cases hj2:j<cards.length
   ·have f1:=kl_at cards j hj2
    have f3:8≤((KL cards).drop (j*8)).length:=by rw[List.length_drop,kl_len];omega
    have f4:=any_take P cards crd0 j hj2 hn
    have f5:=any_get P cards crd0 j hj2
    have hmj:=hm _ (getD_mem cards crd0 j hj2)
    generalize cards.getD j crd0=y at f1 f4 f5 hmj
    unfold crdL SV at f1
    have g3:=str_eq y.name x.ref hmj hr
    have hP':P y=decide (y.name=x.ref):=by rw[←hP]
    refine go (J4 rTI @h1 @k22 @k23) ?_
    refine ifs ?_ ?_ <;> first | exact nope | intro hb
    refine aw_skip ?_
    by_cases q1:y.name=x.ref
    ·rw[decide_eq_true q1] at g3 hP'
     refine go (J9 rTI @h1 @k21 @k23 @f1 @f3 @k4 @hb' @g3) ?_
     refine ifs ?_ ?_ <;> first | exact nope | intro hb
     rw[if_pos (f5 hP')]
     refine go (cj rTI @h1) ?_
     exact fun i hi=>(if_neg (by omega)).trans (hf i hi)
    ·rw[decide_eq_false q1] at g3 hP'
     refine go (J9 rTI @h1 @k21 @k23 @f1 @f3 @k4 @hb' @g3) ?_
     refine ifs ?_ ?_ <;> first | exact nope | intro hb
     refine go (J3 rTI @h1 @k23) ?_
     simp only[block_normal,loop_normal]
     refine⟨cards.length-(j+1),by omega,j+1,rfl,by omega,?_⟩
     (repeat' refine And.intro ?_ ?_) <;> first | exact rfl | exact fnz (J5 @h1 @k4 @k21 @k22 @k23) | skip
     ·exact f4.trans hP'
     ·exact(push_set_ne s' _ _ _ hx').trans hb'
     ·exact Nat.lt_succ_of_lt hx'
     ·exact fun i hi=>(push_set_ne s' _ _ _ (by omega)).trans (hf i hi)
   ·obtain rfl:j=cards.length:=by omega
    rw[List.take_length] at hn
    refine go (J4 rTI @h1 @k22 @k23) ?_
    refine ifs ?_ ?_ <;> first | exact nope | intro hb
    rw[hn,if_neg (by simp)]
    refine go (cj rTI @h1) ?_
    exact hf
theorem find_take {α:Type} (g:α→Bool) (l:List α) (d:α) (k:Nat) (h:k<l.length) (hn:(l.take k).find? g=none):(l.take (k+1)).find? g=if g (l.getD k d) then some (l.getD k d) else none:=by
 rw[List.take_succ_eq_append_getElem h,List.find?_append,hn,List.getD_eq_getElem?_getD,List.getElem?_eq_getElem h]
 simp only[Option.none_or,Option.getD_some]
 rw[List.find?_singleton]
theorem find_get {α:Type} (g:α→Bool) (l:List α) (d:α) (k:Nat) (h:k<l.length) (hn:(l.take k).find? g=none) (hg:g (l.getD k d)=true):l.find? g=some (l.getD k d):=by
 have h1:=find_take g l d k h hn
 rw[if_pos hg] at h1
 rw[←List.take_append_drop (k+1) l,List.find?_append,h1,Option.some_or,List.take_append_drop]
def xE (x:Crd) (subs:List Sub):Int:=match subs.find? (fun s=>decide (s.name=x.ref)) with
 | none=>81
 | some s=>if s.ports.length≠x.nodes.length then 82 else 0
theorem ref_subs (x:Crd) (cards:List Crd) (models:List Mdl) (subs:List Sub) (hk:x.name.getD 0 0=120) (hx:By x.name) (h0:0<x.name.length) (hr:By x.ref) (hm:∀ o∈subs,By o.name) (lm:subs.length≤9223372036854775807) :
  PCall Tryz.prog 74 [CA x,KV cards,MV models,UV subs] (.v (.int .i64 (xE x subs))):=by
 refine pcall_of fun s=>?_
 have hg:=bs_get x.name hx 0
 have lS:=bs_size x.name
 rw[hk] at hg
 rw[show CA x=.ag (crdL x) from rfl]
 generalize hC:crdL x=C at *
 unfold crdL SV iv at hC
 unfold xE
 generalize hP:(fun o:Sub=>decide (o.name=x.ref))=P at *
 unfold UV
 subst hC
 refine acall_of Tryz.func74 rfl rfl (by simp [Tryz.ntmps74]) ?_;rw[Tryz.ntmps74,Tryz.results74]
 refine go (J3 rTI @lS @hg) ?_
 refine ifs ?_ ?_ <;> first | exact nope | intro hb
 refine go rTI ?_
 refine ifs ?_ ?_ <;> first | exact nope | intro hb
 refine go rTI ?_
 refine ifs ?_ ?_ <;> first | exact nope | intro hb
 refine go rTI ?_
 refine ifs ?_ ?_ <;> first | exact nope | intro hb
 refine go rTI ?_
 refine ifs ?_ ?_ <;> first | exact nope | intro hb
 refine go rTI ?_
 refine aw_loop (fun m e s'=>∃ j,m=subs.length-j∧j≤subs.length∧e.n=77∧e.m 4=.ptr s.nx 0∧e.m 58=.sl subs.length (UL subs)∧e.m 59=.v (.int .i64 subs.length)∧e.m 60=.v (.int .i64 (j:Nat))∧(subs.take j).find? P=none ∧
  s'.get s.nx=some [.v (.string (bs x.name)),TV x.nodes,.v (.string (bs x.ref)),.v (.int .i64 x.value.1),.v (.int .i64 x.value.2),.v (.int .i64 x.wave.kind),NV x.wave.vals,IV x.wave.steps]∧s.nx<s'.nx∧∀ i,i<s.nx→s'.get i=s.get i) subs.length ?_ ?_
 ·refine⟨0,by omega,by omega,?_⟩
  (repeat' refine And.intro ?_ ?_) <;> first | exact rfl | exact fnz rTI | skip
  all_goals first | exact Nat.lt_succ_self _ | exact St.push_same s _ | exact fun i hi=>St.push_ne s i _ (by omega)
 ·rintro m e s' ⟨j,rfl,hj,h1,k4,k21,k22,k23,hn,hb',hx',hf⟩
  by_cases hj2:j<subs.length
  ·have f1:=ul_at subs j hj2
   have f3:3≤((UL subs).drop (j*3)).length:=by rw[List.length_drop,ul_len];omega
   have f4:=find_take P subs sub0 j hj2 hn
   have f5:=find_get P subs sub0 j hj2 hn
   have hmj:=hm _ (getD_mem subs sub0 j hj2)
   generalize subs.getD j sub0=y at f1 f4 f5 hmj
   unfold subL SV TV at f1
   unfold TV at hb'
   have g3:=str_eq y.name x.ref hmj hr
   have hP':P y=decide (y.name=x.ref):=by rw[←hP]
   refine go (J4 rTI @h1 @k22 @k23) ?_
   refine ifs ?_ ?_ <;> first | exact nope | intro hb
   refine aw_skip ?_
   by_cases q1:y.name=x.ref
   ·rw[decide_eq_true q1] at g3 hP'
    rw[f5 hP']
    simp only
    refine go (J9 rTI @h1 @k21 @k23 @f1 @f3 @k4 @hb' @g3) ?_
    refine ifs ?_ ?_ <;> first | exact nope | intro hb
    by_cases q2:y.ports.length=x.nodes.length
    ·have g4:((y.ports.length:Int) != (x.nodes.length:Int))=false:=by rw[q2];simp
     rw[if_neg (by simpa using q2)]
     refine go (J5 rTI @h1 @k4 @hb' @g4) ?_
     refine ifs ?_ ?_ <;> first | exact nope | intro hb
     refine go (cj rTI @h1) ?_
     exact fun i hi=>(if_neg (by omega)).trans (hf i hi)
    ·have g4:((y.ports.length:Int) != (x.nodes.length:Int))=true:=by simp;omega
     rw[if_pos q2]
     refine go (J5 rTI @h1 @k4 @hb' @g4) ?_
     refine ifs ?_ ?_ <;> first | exact nope | intro hb
     refine go (cj rTI @h1) ?_
     exact fun i hi=>(if_neg (by omega)).trans (hf i hi)
   ·rw[decide_eq_false q1] at g3 hP'
    rw[hP',if_neg (by simp)] at f4
    refine go (J9 rTI @h1 @k21 @k23 @f1 @f3 @k4 @hb' @g3) ?_
    refine ifs ?_ ?_ <;> first | exact nope | intro hb
    refine go (J3 rTI @h1 @k23) ?_
    simp only[block_normal,loop_normal]
    refine⟨subs.length-(j+1),by omega,j+1,rfl,by omega,?_⟩
    (repeat' refine And.intro ?_ ?_) <;> first | exact rfl | exact fnz (J5 @h1 @k4 @k21 @k22 @k23) | skip
    ·exact f4
    ·exact(push_set_ne s' _ _ _ hx').trans hb'
    ·exact Nat.lt_succ_of_lt hx'
    ·exact fun i hi=>(push_set_ne s' _ _ _ (by omega)).trans (hf i hi)
  ·obtain rfl:j=subs.length:=by omega
   rw[List.take_length] at hn
   rw[hn]
   refine go (J4 rTI @h1 @k22 @k23) ?_
   refine ifs ?_ ?_ <;> first | exact nope | intro hb
   refine go (cj rTI @h1) ?_
   exact hf
theorem ref_none (x:Crd) (cards:List Crd) (models:List Mdl) (subs:List Sub) (k:Nat) (hk:x.name.getD 0 0=k) (k1:¬k=100) (k2:¬k=115) (k3:¬k=102) (k4:¬k=104) (k5:¬k=120) (hx:By x.name) (h0:0<x.name.length) :
  PCall Tryz.prog 74 [CA x,KV cards,MV models,UV subs] (.v (.int .i64 0)):=by
 refine pcall_of fun s=>?_
 have hg:=bs_get x.name hx 0
 have lS:=bs_size x.name
 rw[hk] at hg
 rw[show CA x=.ag (crdL x) from rfl]
 unfold crdL SV iv
 have hb1:((k:Int)==100)=false:=by rw[Bool.eq_iff_iff];simp;omega
 have hb2:((k:Int)==115)=false:=by rw[Bool.eq_iff_iff];simp;omega
 have hb3:((k:Int)==102)=false:=by rw[Bool.eq_iff_iff];simp;omega
 have hb4:((k:Int)==104)=false:=by rw[Bool.eq_iff_iff];simp;omega
 have hb5:((k:Int)==120)=false:=by rw[Bool.eq_iff_iff];simp;omega
 refine acall_of Tryz.func74 rfl rfl (by simp [Tryz.ntmps74]) ?_;rw[Tryz.ntmps74,Tryz.results74]
 refine go (J4 rTI @lS @hg @hb1) ?_
 refine ifs ?_ ?_ <;> first | exact nope | intro hb
 refine go (cj rTI @hb2) ?_
 refine ifs ?_ ?_ <;> first | exact nope | intro hb
 refine go (cj rTI @hb3) ?_
 refine ifs ?_ ?_ <;> first | exact nope | intro hb
 refine go (cj rTI @hb4) ?_
 refine ifs ?_ ?_ <;> first | exact nope | intro hb
 refine go (cj rTI @hb5) ?_
 refine ifs ?_ ?_ <;> first | exact nope | intro hb
 refine go rTI ?_
 exact fun i hi=>St.push_ne s i _ (by omega)
theorem ref_ax (x:Crd) (cards:List Crd) (models:List Mdl) (subs:List Sub) (hx:By x.name) (h0:0<x.name.length) (hr:By x.ref) (hm:∀ m∈models,By m.name) (hc:∀ o∈cards,By o.name) (hs:∀ o∈subs,By o.name)
  (lm:models.length≤9223372036854775807) (lc:cards.length≤9223372036854775807) (ls:subs.length≤9223372036854775807) :
  PCall Tryz.prog 74 [CA x,KV cards,MV models,UV subs] (.v (.int .i64 (refE x cards models subs))):=by
 unfold refE
 simp only
 by_cases k1:x.name.getD 0 0=100∨x.name.getD 0 0=115
 ·rw[if_pos k1]
  exact ref_models x cards models subs _ rfl k1 hx h0 hr hm lm
 rw[if_neg k1]
 by_cases k2:x.name.getD 0 0=102∨x.name.getD 0 0=104
 ·rw[if_pos k2]
  exact ref_cards x cards models subs _ rfl k2 hx h0 hr hc lc
 rw[if_neg k2]
 by_cases k3:x.name.getD 0 0=120
 ·rw[if_pos k3]
  exact ref_subs x cards models subs k3 hx h0 hr hs ls
 rw[if_neg k3]
 exact ref_none x cards models subs _ rfl (fun e=>k1 (.inl e)) (fun e=>k1 (.inr e)) (fun e=>k2 (.inl e)) (fun e=>k2 (.inr e)) k3 hx h0
end NetE
namespace NetX
open Go Go.RowKit Ax Ti NumS NumT CardS CardP CardA CardB CardE CardG CardI CardJ CardK CardL CardR CardX NetS NetA NetE
theorem rTI:type_of% (J18 @ti3 @ti4 @ti9 @ti5 @ti43 @ti45 @ti44 @ti23 @ti47 @ti49 @ti26 @ti31 @Nat.zero_add @tz0 @tz1 @tz3 @Nat.mul_one @Int.toNat_natCast):=cj @ti3 (J17 @ti4 @ti9 @ti5 @ti43 @ti45 @ti44 @ti23 @ti47 @ti49 @ti26 @ti31 @Nat.zero_add @tz0 @tz1 @tz3 @Nat.mul_one @Int.toNat_natCast)
def sameL (a b:List Crd):Bool:=decide (a.length=b.length)&&(a.zip b).all fun q=>sameC q.1 q.2
theorem zip_all_take (a b:List Crd) (k:Nat) (hl:a.length=b.length) (hk:k<a.length) (h:((a.zip b).take k).all (fun q=>sameC q.1 q.2)=true) :
  ((a.zip b).take (k+1)).all (fun q=>sameC q.1 q.2)=sameC (a.getD k crd0) (b.getD k crd0):=by
 have hz:k<(a.zip b).length:=by rw[List.length_zip];omega
 rw[List.take_succ_eq_append_getElem hz,List.all_append,h,Bool.true_and,List.getElem_zip,List.getD_eq_getElem?_getD,List.getElem?_eq_getElem hk,List.getD_eq_getElem?_getD,List.getElem?_eq_getElem (by omega)]
 simp
theorem zip_all_no (a b:List Crd) (k:Nat) (hl:a.length=b.length) (hk:k<a.length) (h:sameC (a.getD k crd0) (b.getD k crd0)=false):(a.zip b).all (fun q=>sameC q.1 q.2)=false:=by
 have hz:k<(a.zip b).length:=by rw[List.length_zip];omega
 rw[List.all_eq_false]
 refine⟨(a.zip b)[k],List.getElem_mem hz,?_⟩
 rw[List.getElem_zip]
 rw[List.getD_eq_getElem?_getD,List.getElem?_eq_getElem hk,List.getD_eq_getElem?_getD,List.getElem?_eq_getElem (by omega)] at h
 simpa using h
theorem sameL_ax (a b:List Crd) (ha:∀ x∈a,CB x) (hb':∀ x∈b,CB x) (la:a.length≤9223372036854775806) (lb:b.length≤9223372036854775806):PCall Tryz.prog 48 [KV a,KV b] (.v (.bool (sameL a b))):=by
 refine pcall_of fun s=>?_
 unfold KV sameL
 by_cases hl:a.length=b.length
 ·have b0:((a.length:Int) != (b.length:Int))=false:=by rw[hl];simp
  rw[decide_eq_true hl,Bool.true_and]
  refine acall_of Tryz.func48 rfl rfl (by simp [Tryz.ntmps48]) ?_;rw[Tryz.ntmps48,Tryz.results48]
  refine go (cj rTI @b0) ?_
  refine ifs ?_ ?_ <;> first | exact nope | intro hb
  refine go rTI ?_
  refine aw_loop (fun m e s'=>∃ k,m=a.length-k∧k≤a.length∧e.n=27∧e.m 0=.sl a.length (KL a)∧e.m 1=.sl b.length (KL b)∧e.m 5=.v (.int .i64 (k:Nat))∧((a.zip b).take k).all (fun q=>sameC q.1 q.2)=true∧s'=s) a.length ?_ ?_
  ·refine⟨0,by omega,by omega,?_⟩
   (repeat' refine And.intro ?_ ?_) <;> first | exact rfl | exact fnz rTI | skip
  ·rintro m e s' ⟨k,rfl,hk,h1,k0,k1,k5,hq,rfl⟩
   by_cases hk2:k<a.length
   ·have f1:=kl_at a k hk2
    have f2:=kl_at b k (by omega)
    have f3:8≤((KL a).drop (k*8)).length:=by rw[List.length_drop,kl_len];omega
    have f4:8≤((KL b).drop (k*8)).length:=by rw[List.length_drop,kl_len];omega
    have f5:=zip_all_take a b k hl hk2 hq
    have f6:=zip_all_no a b k hl hk2
    have pS:=sameC_ax _ _ (ha _ (getD_mem a crd0 k hk2)) (hb' _ (getD_mem b crd0 k (by omega)))
    generalize a.getD k crd0=x at f1 f5 f6 pS
    generalize b.getD k crd0=y at f2 f5 f6 pS
    rw[show CA x=.ag (crdL x) from rfl,show CA y=.ag (crdL y) from rfl] at pS
    unfold crdL at f1 f2 pS
    refine go (J4 rTI @h1 @k0 @k5) ?_
    refine ifs ?_ ?_ <;> first | exact nope | intro hb
    refine aw_skip ?_
    refine aw_seq ?_
    refine aw_block ?_
    refine aw_seq ?_
    cases hs:sameC x y with
    | true=>
     rw[hs] at pS f5
     refine aw_drw (.take 0 (.take 1 (.take 2 (.take 3 (.take 4 (.take 5 (.take 6 (.take 7 (.one 8 (.take 9 (.done))))))))))) [] (by kernel_rfl) (by kernel_rfl) fun K hK=>?_;refine dr (J9 rTI @h1 @k0 @k1 @k5 @f1 @f2 @f3 @f4) ?_;refine cont_pure pS ?_;refine dr (J9 rTI @h1 @k0 @k1 @k5 @f1 @f2 @f3 @f4) ?_;refine hK _ _ ?_;clear hK K
     refine ifs ?_ ?_ <;> first | exact nope | intro hb
     refine go (J3 rTI @h1 @k5) ?_
     simp only[block_normal,loop_normal]
     refine⟨a.length-(k+1),by omega,k+1,rfl,by omega,?_⟩
     (repeat' refine And.intro ?_ ?_) <;> first | exact rfl | exact fnz (J4 @h1 @k0 @k1 @k5) | skip
     exact f5
    | false=>
     rw[hs] at pS
     rw[f6 hs]
     refine aw_drw (.take 0 (.take 1 (.take 2 (.take 3 (.take 4 (.take 5 (.take 6 (.take 7 (.one 8 (.take 9 (.done))))))))))) [] (by kernel_rfl) (by kernel_rfl) fun K hK=>?_;refine dr (J9 rTI @h1 @k0 @k1 @k5 @f1 @f2 @f3 @f4) ?_;refine cont_pure pS ?_;refine dr (J9 rTI @h1 @k0 @k1 @k5 @f1 @f2 @f3 @f4) ?_;refine hK _ _ ?_;clear hK K
     refine ifs ?_ ?_ <;> first | exact nope | intro hb
     exact go0 (cj rTI @h1)
   ·obtain rfl:k=a.length:=by omega
    rw[List.take_of_length_le (by rw[List.length_zip];omega)] at hq
    rw[hq]
    refine go (J4 rTI @h1 @k0 @k5) ?_
    refine ifs ?_ ?_ <;> first | exact nope | intro hb
    exact go0 (cj rTI @h1)
 ·have b0:((a.length:Int) != (b.length:Int))=true:=by simp;omega
  rw[decide_eq_false hl,Bool.false_and]
  refine acall_of Tryz.func48 rfl rfl (by simp [Tryz.ntmps48]) ?_;rw[Tryz.ntmps48,Tryz.results48]
  refine go (cj rTI @b0) ?_
  refine ifs ?_ ?_ <;> first | exact nope | intro hb
  exact go0 rTI
end NetX
namespace NetF
open Go Go.RowKit Ax Ti NumS NumT CardS CardP CardA CardB CardE CardG CardI CardJ CardK CardL CardX NetS NetA NetE
theorem rTI:type_of% (J24 @ti3 @ti4 @ti9 @ti5 @ti43 @ti45 @ti44 @ti23 @ti47 @ti49 @ti68 @ti51 @ti28 @ti26 @ti24 @ti25 @ti120 @ti31 @Nat.zero_add @tz0 @tz1 @tz3 @Nat.mul_one @Int.toNat_natCast):=cj @ti3 (J23 @ti4 @ti9 @ti5 @ti43 @ti45 @ti44 @ti23 @ti47 @ti49 @ti68 @ti51 @ti28 @ti26 @ti24 @ti25 @ti120 @ti31 @Nat.zero_add @tz0 @tz1 @tz3 @Nat.mul_one @Int.toNat_natCast)
structure CirB (c:Cir):Prop where
 mo:∀ m∈c.models,(By m.name∧m.name.length≤281474976710656)∧m.g.length≤9223372036854775807∧m.v.length≤9223372036854775807
 ml:c.models.length≤9223372036854775807
 so:∀ s∈c.subs,(By s.name∧s.name.length≤281474976710656)∧(BL s.ports∧(∀ w∈s.ports,w.length≤281474976710656)∧s.ports.length≤9223372036854775807)∧(∀ x∈s.cards,CW x)∧s.cards.length≤9223372036854775807
 sl:c.subs.length≤100000
 co:∀ x∈c.cards,CW x
 cl:c.cards.length≤9223372036854775807
theorem fold_take (l:List Crd) (g:Int→Crd→Int) (k:Nat) (h:k<l.length) (w:Int):(l.take (k+1)).foldl g w=g ((l.take k).foldl g w) (l.getD k crd0):=by
 rw[List.take_succ_eq_append_getElem h,List.foldl_append,List.getD_eq_getElem?_getD,List.getElem?_eq_getElem h]
 rfl
theorem look_ax (s:St) (ib iw:Nat) (c:Cir) (w:Int) (cards:List Crd) (subs:List Sub) (hi:s.get ib=some (cirL c)) (hw:s.get iw=some [.v (.int .i64 w)]) (hne:ib≠iw) (lb:ib<s.nx) (lw:iw<s.nx)
  (hm:∀ m∈c.models,By m.name) (hc:∀ o∈cards,By o.name∧By o.ref∧0<o.name.length) (hs:∀ o∈subs,By o.name) (lm:c.models.length≤9223372036854775807) (lc:cards.length≤9223372036854775807) (ls:subs.length≤9223372036854775807) :
  ACall Tryz.prog 73 [KV cards,UV subs,.ptr ib 0,.ptr iw 0] s fun r s'=>s'.get iw=some [.v (.int .i64 (lookE c.models subs cards w))]∧s.nx≤s'.nx∧∀ i,i<s.nx→i≠iw→s'.get i=s.get i:=by
 have hCR:∀ o∈cards,PCall Tryz.prog 74 [CA o,KV cards,MV c.models,UV subs] (.v (.int .i64 (refE o cards c.models subs))):=fun o ho=>
  ref_ax o cards c.models subs (hc o ho).1 (hc o ho).2.2 (hc o ho).2.1 hm (fun o ho=>(hc o ho).1) hs lm lc ls
 unfold lookE
 generalize hG:(fun w x=>worse w (refE x cards c.models subs))=G at *
 unfold cirL at hi
 generalize hMV:MV c.models=mv at *
 generalize hUV:UV subs=uv at *
 unfold KV at *
 refine acall_of Tryz.func73 rfl rfl (by simp [Tryz.ntmps73]) ?_;rw[Tryz.ntmps73,Tryz.results73]
 refine go rTI ?_
 refine aw_loop (fun m e s'=>∃ j,m=cards.length-j∧j≤cards.length∧e.n=29∧e.m 0=.sl cards.length (KL cards)∧e.m 1=uv∧e.m 2=.ptr ib 0∧e.m 3=.ptr iw 0∧e.m 9=.sl cards.length (KL cards)∧e.m 10=.v (.int .i64 cards.length)∧e.m 11=.v (.int .i64 (j:Nat)) ∧
  s'.get ib=some [.v (.int .i64 c.step.1),.v (.int .i64 c.step.2),.v (.int .i64 c.method),mv,UV c.subs,KV c.cards]∧s'.get iw=some [.v (.int .i64 ((cards.take j).foldl G w))]∧s.nx≤s'.nx∧∀ i,i<s.nx→i≠iw→s'.get i=s.get i) cards.length ?_ ?_
 ·refine⟨0,by omega,by omega,?_⟩
  (repeat' refine And.intro ?_ ?_) <;> first | exact rfl | (intro i hi;exact rn0 (J3 rTI @hi @hw)) | skip
  all_goals first | exact hi | exact hw | exact Nat.le_refl _ | exact fun i _ _=>rfl
 ·rintro m e s' ⟨j,rfl,hj,h1,k0,k1,k2,k3,k9,k10,k11,gb,gw,hx',hf⟩
  by_cases hj2:j<cards.length
  ·have f1:=kl_at cards j hj2
   have f3:8≤((KL cards).drop (j*8)).length:=by rw[List.length_drop,kl_len];omega
   have f4:=fold_take cards G j hj2 w
   have hmj:=hCR _ (getD_mem cards crd0 j hj2)
   generalize cards.getD j crd0=y at f1 f4 hmj
   rw[show CA y=.ag (crdL y) from rfl] at hmj
   unfold crdL SV at f1 hmj
   generalize (cards.take j).foldl G w=v at *
   have hG':G v y=worse v (refE y cards c.models subs):=by rw[←hG]
   rw[hG'] at f4
   unfold worse at f4
   generalize refE y cards c.models subs=ev at *
   refine go (J4 rTI @h1 @k10 @k11) ?_
   refine ifs ?_ ?_ <;> first | exact nope | intro hb
   refine aw_skip ?_
   refine go (J6 rTI @h1 @k9 @k11 @f1 @f3) ?_
   refine aw_reg fun K hK=>?_;refine rn (J6 rTI @h1 @k0 @k1 @k2 @gb) ?_;refine cont_pure hmj ?_;refine rn (J6 rTI @h1 @k0 @k1 @k2 @gb) ?_;refine hK _ _ ?_;clear hK K
   by_cases q1:ev=0
   ·have g1:(ev != 0)=false:=by rw[q1];rfl
    rw[if_neg (fun g=>g.1 q1)] at f4
    refine go (J3 rTI @h1 @g1) ?_
    refine ifs ?_ ?_ <;> first | exact nope | intro hb
    refine go (J3 rTI @h1 @k11) ?_
    simp only[block_normal,loop_normal]
    refine⟨cards.length-(j+1),by omega,j+1,rfl,by omega,?_⟩
    (repeat' refine And.intro ?_ ?_) <;> first | exact rfl | exact fnz (J9 @h1 @k0 @k1 @k2 @k3 @k9 @k10 @k11 @f4) | skip
    ·exact(push_set_ne s' _ _ _ (by omega)).trans gb
    ·exact(push_set_ne s' _ _ _ (by omega)).trans (by rw[gw,f4])
    ·exact Nat.le_succ_of_le hx'
    ·exact fun i hi hw=>(push_set_ne s' _ _ _ (by omega)).trans (hf i hi hw)
   ·have g1:(ev != 0)=true:=by simpa using q1
    by_cases q2:v=81
    ·have g2:(v != 81)=false:=by rw[q2];rfl
     rw[if_neg (fun g=>g.2 q2)] at f4
     refine go (J6 rTI @h1 @k3 @gw @g1 @g2) ?_
     refine ifs ?_ ?_ <;> first | exact nope | intro hb
     refine go (J3 rTI @h1 @k11) ?_
     simp only[block_normal,loop_normal]
     refine⟨cards.length-(j+1),by omega,j+1,rfl,by omega,?_⟩
     (repeat' refine And.intro ?_ ?_) <;> first | exact rfl | exact fnz (J9 @h1 @k0 @k1 @k2 @k3 @k9 @k10 @k11 @f4) | skip
     ·exact(push_set_ne s' _ _ _ (by omega)).trans gb
     ·exact(push_set_ne s' _ _ _ (by omega)).trans (by rw[gw,f4])
     ·exact Nat.le_succ_of_le hx'
     ·exact fun i hi hw=>(push_set_ne s' _ _ _ (by omega)).trans (hf i hi hw)
    ·have g2:(v != 81)=true:=by simpa using q2
     rw[if_pos ⟨q1,q2⟩] at f4
     refine go (J6 rTI @h1 @k3 @gw @g1 @g2) ?_
     refine ifs ?_ ?_ <;> first | exact nope | intro hb
     refine go (J5 rTI @h1 @k3 @k11 @gw) ?_
     simp only[block_normal,loop_normal]
     refine⟨cards.length-(j+1),by omega,j+1,rfl,by omega,?_⟩
     (repeat' refine And.intro ?_ ?_) <;> first | exact rfl | exact fnz (J9 @h1 @k0 @k1 @k2 @k3 @k9 @k10 @k11 @f4) | skip
     ·exact(St.set_ne _ _ _ _ hne).trans ((push_set_ne s' _ _ _ (by omega)).trans gb)
     ·exact Nat.le_succ_of_le hx'
     ·exact fun i hi hw=>(St.set_ne _ _ _ _ hw).trans ((push_set_ne s' _ _ _ (by omega)).trans (hf i hi hw))
  ·obtain rfl:j=cards.length:=by omega
   rw[List.take_length] at gw
   refine go (J4 rTI @h1 @k10 @k11) ?_
   refine ifs ?_ ?_ <;> first | exact nope | intro hb
   refine go (cj rTI @h1) ?_
   exact⟨gw,hx',hf⟩
theorem ul_take:∀ (l:List Sub) (k:Nat),(UL l).take (k*3)=UL (l.take k)
 | [],k=>by simp [UL]
 | a::l,0=>by simp [UL]
 | a::l,k+1=>by
  have:=ul_take l k
  unfold UL at this ⊢
  rw[List.take_succ_cons,List.flatMap_cons,List.flatMap_cons,←this,show (k+1)*3=(subL a).length+k*3 by show _=3+_;omega,List.take_length_add_append]
def lookAll (c:Cir) (n:Nat):Int:=(List.range n).foldl (fun w k=>lookE c.models (c.subs.take k) ((c.subs.map Sub.cards).getD k []) w) 0
theorem lookAll_succ (c:Cir) (n:Nat) (h:n<c.subs.length):lookAll c (n+1)=lookE c.models (c.subs.take n) (c.subs.getD n sub0).cards (lookAll c n):=by
 unfold lookAll
 rw[List.range_succ,List.foldl_append]
 simp only[List.foldl_cons,List.foldl_nil]
 congr 1
 simp [List.getD_eq_getElem?_getD,List.getElem?_eq_getElem h]
structure RefB (c:Cir):Prop where
 mo:∀ m∈c.models,By m.name
 ml:c.models.length≤9223372036854775807
 so:∀ s∈c.subs,By s.name∧(∀ x∈s.cards,By x.name∧By x.ref∧0<x.name.length)∧s.cards.length≤9223372036854775807
 sl:c.subs.length≤9223372036854775807
 co:∀ x∈c.cards,By x.name∧By x.ref∧0<x.name.length
 cl:c.cards.length≤9223372036854775807
theorem checkRefs_ax (c:Cir) (hB:RefB c):PCall Tryz.prog 34 [CirV c] (.v (.int .i64 (refsE c))):=by
 refine pcall_of fun s=>?_
 have hE:refsE c=lookE c.models c.subs c.cards (lookAll c c.subs.length):=rfl
 have hsl:=hB.sl
 rw[hE]
 unfold CirV
 generalize hC:cirL c=C
 have hC':=hC
 unfold cirL UV KV at hC
 subst hC
 refine acall_of Tryz.func34 rfl rfl (by simp [Tryz.ntmps34]) ?_;rw[Tryz.ntmps34,Tryz.results34]
 refine go rTI ?_
 refine aw_loop (fun m e s'=>∃ j,m=c.subs.length-j∧j≤c.subs.length∧e.n=32∧e.m 1=.ptr s.nx 0∧e.m 3=.ptr (s.nx+1) 0∧e.m 4=.fn 73 [.ptr s.nx 0,.ptr (s.nx+1) 0]∧e.m 9=.sl c.subs.length (UL c.subs)∧e.m 10=.v (.int .i64 c.subs.length)∧e.m 11=.v (.int .i64 (j:Nat)) ∧
  s'.get s.nx=some [.v (.int .i64 c.step.1),.v (.int .i64 c.step.2),.v (.int .i64 c.method),MV c.models,.sl c.subs.length (UL c.subs),.sl c.cards.length (KL c.cards)]∧s'.get (s.nx+1)=some [.v (.int .i64 (lookAll c j))]∧s.nx+1<s'.nx∧∀ i,i<s.nx→s'.get i=s.get i) c.subs.length ?_ ?_
 ·refine⟨0,by omega,by omega,?_⟩
  (repeat' refine And.intro ?_ ?_) <;> first | exact rfl | exact fnz rTI | skip
  all_goals first | exact St.set_same _ _ _ | exact Nat.lt_succ_self _ | exact fun i hi=>(St.set_ne _ _ _ _ (Nat.ne_of_lt (Nat.lt_succ_of_lt hi))).trans ((St.push_ne (s.push _) i _ (show i≠s.nx+1 by omega)).trans (St.push_ne s i _ (Nat.ne_of_lt hi)))
 ·rintro m e s' ⟨j,rfl,hj,h1,k1,k3,k4,k9,k10,k11,gb,gw,hx',hf⟩
  by_cases hj2:j<c.subs.length
  ·have f1:=ul_at c.subs j hj2
   have f3:3≤((UL c.subs).drop (j*3)).length:=by rw[List.length_drop,ul_len];omega
   have f4:=lookAll_succ c j hj2
   have f6:=ul_take c.subs j
   have hmj:=hB.so _ (getD_mem c.subs sub0 j hj2)
   have hlk:=fun (s1:St) (h1:s1.get s.nx=some (cirL c)) (h2:s1.get (s.nx+1)=some [.v (.int .i64 (lookAll c j))]) (h3:s.nx+1<s1.nx)=>
    look_ax s1 s.nx (s.nx+1) c (lookAll c j) (c.subs.getD j sub0).cards (c.subs.take j) h1 h2 (by omega) (by omega) h3 hB.mo hmj.2.1 (fun o ho=>(hB.so o (List.mem_of_mem_take ho)).1) hB.ml hmj.2.2 (by rw[List.length_take];have:=hB.sl;omega)
   generalize c.subs.getD j sub0=y at f1 f4 hmj hlk
   unfold subL SV TV KV at f1
   have hut:UV (c.subs.take j)=.sl j ((UL c.subs).take (j*3)):=by
    unfold UV
    rw[List.length_take,f6]
    congr 1
    omega
   rw[hut] at hlk
   unfold KV cirL at hlk
   refine go (J4 rTI @h1 @k10 @k11) ?_
   refine ifs ?_ ?_ <;> first | exact nope | intro hb
   refine aw_skip ?_
   refine aw_seq ?_
   refine aw_block ?_
   refine aw_seq ?_
   refine aw_reg fun K hK=>?_;refine rn (J6 rTI @h1 @k9 @k11 @f1 @f3) ?_;refine hK _ _ ?_;clear hK K
   refine aw_drw (.take 0 (.take 1 (.take 2 (.take 3 (.take 4 (.take 5 (.take 6 (.one 7 (.done))))))))) [s.nx,s'.nx] (by kernel_rfl) (by kernel_rfl) fun K hK=>?_;refine dr (J7 rTI @h1 @k1 @k4 @gb @gw @Nat.sub_zero) ?_;refine cont_go (hlk _ ((push_set_ne s' _ _ _ (by omega)).trans gb) ((push_set_ne s' _ _ _ (by omega)).trans gw) (Nat.lt_succ_of_lt hx')) ?_
   rintro r s2 ⟨q1,q2,q3⟩
   have q2':s'.nx+1≤s2.nx:=q2
   have r1:s2.get s.nx=((s'.push [.v (.string ByteArray.empty),.v (.slice none 0 0),.v (.slice none 0 0)]).set s'.nx [.v (.string (bs y.name)),.sl y.ports.length (SL y.ports),.sl y.cards.length (KL y.cards)]).get s.nx:=q3 _ (show _<s'.nx+1 by omega) (by omega)
   have r2:s2.get s'.nx=((s'.push [.v (.string ByteArray.empty),.v (.slice none 0 0),.v (.slice none 0 0)]).set s'.nx [.v (.string (bs y.name)),.sl y.ports.length (SL y.ports),.sl y.cards.length (KL y.cards)]).get s'.nx:=q3 _ (show _<s'.nx+1 by omega) (by omega)
   refine⟨⟨r1,r2,trivial⟩,hK _ _ ?_⟩
   clear hK K
   rw[push_set_ne s' _ _ _ (by omega),gb] at r1
   refine go (J3 rTI @h1 @k11) ?_
   simp only[block_normal,loop_normal]
   refine⟨c.subs.length-(j+1),by omega,j+1,rfl,by omega,?_⟩
   (repeat' refine And.intro ?_ ?_) <;> first | exact rfl | exact fnz (J8 @h1 @k1 @k3 @k4 @k9 @k10 @k11 @f4) | skip
   ·exact r1
   ·rw[q1,f4]
   ·omega
   ·exact fun i hi=>(q3 i (show i<s'.nx+1 by omega) (by omega)).trans ((push_set_ne s' _ _ _ (by omega)).trans (hf i hi))
  ·obtain rfl:j=c.subs.length:=by omega
   have hlk:=look_ax s' s.nx (s.nx+1) c (lookAll c c.subs.length) c.cards c.subs gb gw (by omega) (by omega) hx' hB.mo hB.co (fun o ho=>(hB.so o ho).1) hB.ml hB.cl hB.sl
   unfold KV UV at hlk
   refine go (J4 rTI @h1 @k10 @k11) ?_
   refine ifs ?_ ?_ <;> first | exact nope | intro hb
   refine go (cj rTI @h1) ?_
   refine aw_reg fun K hK=>?_;refine rn (J5 rTI @h1 @k1 @k4 @gb) ?_;refine cont_go hlk ?_;rintro r s2 ⟨q1,q2,q3⟩;refine rn (J5 rTI @h1 @k1 @k4 @gb) ?_;refine hK _ _ ?_;clear hK K
   refine go (J4 rTI @h1 @k3 @q1) ?_
   exact fun i hi=>(q3 i (by omega) (by omega)).trans (hf i hi)
end NetF
namespace NetM
open Go Go.RowKit Ax Ti NumS NumT CardS CardP CardA CardB CardE CardG CardI CardJ CardK CardL CardX NetS NetA
theorem rTI:type_of% (J16 @ti3 @ti4 @ti9 @ti5 @ti43 @ti45 @ti44 @ti23 @ti28 @ti31 @Nat.zero_add @tz0 @tz1 @tz3 @Nat.mul_one @Int.toNat_natCast):=cj @ti3 (J15 @ti4 @ti9 @ti5 @ti43 @ti45 @ti44 @ti23 @ti28 @ti31 @Nat.zero_add @tz0 @tz1 @tz3 @Nat.mul_one @Int.toNat_natCast)
theorem w_step (k:Str) (h:By k):((bs k).toList==(ByteArray.mk #[46,115,116,101,112]).toList)=decide (k=sStep):=str_eq k sStep h (by_lit _ rfl)
theorem w_method (k:Str) (h:By k):((bs k).toList==(ByteArray.mk #[46,109,101,116,104,111,100]).toList)=decide (k=sMethod):=str_eq k sMethod h (by_lit _ rfl)
theorem w_model (k:Str) (h:By k):((bs k).toList==(ByteArray.mk #[46,109,111,100,101,108]).toList)=decide (k=sModel):=str_eq k sModel h (by_lit _ rfl)
theorem w_sub (k:Str) (h:By k):((bs k).toList==(ByteArray.mk #[46,115,117,98,99,107,116]).toList)=decide (k=sSub):=str_eq k sSub h (by_lit _ rfl)
theorem w_ends (k:Str) (h:By k):((bs k).toList==(ByteArray.mk #[46,101,110,100,115]).toList)=decide (k=sEnds):=str_eq k sEnds h (by_lit _ rfl)
theorem w_end (k:Str) (h:By k):((bs k).toList==(ByteArray.mk #[46,101,110,100]).toList)=decide (k=sEnd):=str_eq k sEnd h (by_lit _ rfl)
theorem w_euler (k:Str) (h:By k):((bs k).toList==(ByteArray.mk #[101,117,108,101,114]).toList)=decide (k=sEuler):=str_eq k sEuler h (by_lit _ rfl)
theorem w_trap (k:Str) (h:By k):((bs k).toList==(ByteArray.mk #[116,114,97,112]).toList)=decide (k=sTrap):=str_eq k sTrap h (by_lit _ rfl)
theorem countOk_cons (k:Str) (r:List Str):countOk (k::r) =
  if k=sStep then decide ((k::r).length=2)
  else if k=sMethod then decide ((k::r).length=2)&&(decide ((k::r).getD 1 []=sEuler)||decide ((k::r).getD 1 []=sTrap))
  else if k=sModel then true
  else if k=sSub then decide (3≤(k::r).length∧(k::r).length≤10)
  else if k=sEnds∨k=sEnd then decide ((k::r).length=1)
  else decide (k.getD 0 0≠46):=rfl
theorem count_ax (k:Str) (r:List Str) (hw:BL (k::r)) (hl:(k::r).length≤9223372036854775807) (h0:0<k.length):PCall Tryz.prog 84 [TV (k::r)] (.v (.bool (countOk (k::r)))):=by
 refine pcall_of fun s=>?_
 have hk:By k:=hw k (List.mem_cons_self ..)
 have e1:=w_step k hk
 have e2:=w_method k hk
 have e3:=w_model k hk
 have e4:=w_sub k hk
 have e5:=w_ends k hk
 have e6:=w_end k hk
 have hd0:(SL (k::r)).head?=some (.v (.string (bs k))):=rfl
 have hg:=bs_get k hk 0
 have lS:=bs_size k
 rw[countOk_cons]
 unfold TV
 obtain⟨n,hn⟩:∃ n,n=(k::r).length:=⟨_,rfl⟩
 have hn1:1≤n:=by rw[hn,List.length_cons];omega
 rw[←hn] at hl ⊢
 by_cases k1:k=sStep
 ·rw[decide_eq_true k1] at e1
  rw[if_pos k1]
  have b:((n:Int)==2)=decide (n=2):=by rw[Bool.eq_iff_iff];simp;omega
  refine acall_of Tryz.func84 rfl rfl (by simp [Tryz.ntmps84]) ?_;rw[Tryz.ntmps84,Tryz.results84]
  refine go (J3 rTI @hd0 @e1) ?_
  refine ifs ?_ ?_ <;> first | exact nope | intro hb
  exact go0 (cj rTI @b)
 rw[decide_eq_false k1] at e1
 rw[if_neg k1]
 by_cases k2:k=sMethod
 ·rw[decide_eq_true k2] at e2
  rw[if_pos k2]
  refine acall_of Tryz.func84 rfl rfl (by simp [Tryz.ntmps84]) ?_;rw[Tryz.ntmps84,Tryz.results84]
  refine go (J3 rTI @hd0 @e1) ?_
  refine ifs ?_ ?_ <;> first | exact nope | intro hb
  refine go (cj rTI @e2) ?_
  refine ifs ?_ ?_ <;> first | exact nope | intro hb
  by_cases q:n=2
  ·match r,hn,hw,hd0 with
   | [],hn,_,_=>simp at hn;omega
   | _::_::_,hn,_,_=>simp at hn;omega
   | [x],hn,hw,hd0=>
    have hx:By x:=hw x (by simp)
    have e7:=w_euler x hx
    have e8:=w_trap x hx
    have hd1:((SL [k,x]).drop 1).head?=some (.v (.string (bs x))):=rfl
    have b:((n:Int)==2)=true:=by rw[q];rfl
    rw[decide_eq_true q,Bool.true_and]
    simp only[List.getD_cons_succ,List.getD_cons_zero]
    by_cases x1:x=sEuler
    ·rw[decide_eq_true x1] at e7
     rw[decide_eq_true x1,Bool.true_or]
     exact go0 (J4 rTI @b @hd1 @e7)
    ·rw[decide_eq_false x1] at e7
     rw[decide_eq_false x1,Bool.false_or]
     exact go0 (J5 rTI @b @hd1 @e7 @e8)
  ·have b:((n:Int)==2)=false:=by rw[Bool.eq_iff_iff];simp;omega
   rw[decide_eq_false q,Bool.false_and]
   exact go0 (cj rTI @b)
 rw[decide_eq_false k2] at e2
 rw[if_neg k2]
 by_cases k3:k=sModel
 ·rw[decide_eq_true k3] at e3
  rw[if_pos k3]
  refine acall_of Tryz.func84 rfl rfl (by simp [Tryz.ntmps84]) ?_;rw[Tryz.ntmps84,Tryz.results84]
  refine go (J3 rTI @hd0 @e1) ?_
  refine ifs ?_ ?_ <;> first | exact nope | intro hb
  refine go (cj rTI @e2) ?_
  refine ifs ?_ ?_ <;> first | exact nope | intro hb
  refine go (cj rTI @e3) ?_
  refine ifs ?_ ?_ <;> first | exact nope | intro hb
  exact go0 rTI
 rw[decide_eq_false k3] at e3
 rw[if_neg k3]
 by_cases k4:k=sSub
 ·rw[decide_eq_true k4] at e4
  rw[if_pos k4]
  have b1:decide (3≤(n:Int))=decide (3≤n):=by rw[Bool.eq_iff_iff];simp;omega
  have b2:decide ((n:Int)≤10)=decide (n≤10):=by rw[Bool.eq_iff_iff];simp;omega
  refine acall_of Tryz.func84 rfl rfl (by simp [Tryz.ntmps84]) ?_;rw[Tryz.ntmps84,Tryz.results84]
  refine go (J3 rTI @hd0 @e1) ?_
  refine ifs ?_ ?_ <;> first | exact nope | intro hb
  refine go (cj rTI @e2) ?_
  refine ifs ?_ ?_ <;> first | exact nope | intro hb
  refine go (cj rTI @e3) ?_
  refine ifs ?_ ?_ <;> first | exact nope | intro hb
  refine go (cj rTI @e4) ?_
  refine ifs ?_ ?_ <;> first | exact nope | intro hb
  by_cases q1:3≤n
  ·rw[decide_eq_true q1] at b1
   by_cases q2:n≤10
   ·rw[decide_eq_true q2] at b2
    rw[decide_eq_true ⟨q1,q2⟩]
    exact go0 (J3 rTI @b1 @b2)
   ·rw[decide_eq_false q2] at b2
    rw[decide_eq_false (fun g=>q2 g.2)]
    exact go0 (J3 rTI @b1 @b2)
  ·rw[decide_eq_false q1] at b1
   rw[decide_eq_false (fun g=>q1 g.1)]
   exact go0 (cj rTI @b1)
 rw[decide_eq_false k4] at e4
 rw[if_neg k4]
 by_cases k5:k=sEnds∨k=sEnd
 ·rw[if_pos k5]
  have b:((n:Int)==1)=decide (n=1):=by rw[Bool.eq_iff_iff];simp;omega
  refine acall_of Tryz.func84 rfl rfl (by simp [Tryz.ntmps84]) ?_;rw[Tryz.ntmps84,Tryz.results84]
  refine go (J3 rTI @hd0 @e1) ?_
  refine ifs ?_ ?_ <;> first | exact nope | intro hb
  refine go (cj rTI @e2) ?_
  refine ifs ?_ ?_ <;> first | exact nope | intro hb
  refine go (cj rTI @e3) ?_
  refine ifs ?_ ?_ <;> first | exact nope | intro hb
  refine go (cj rTI @e4) ?_
  refine ifs ?_ ?_ <;> first | exact nope | intro hb
  by_cases k6:k=sEnds
  ·rw[decide_eq_true k6] at e5
   refine go (cj rTI @e5) ?_
   refine ifs ?_ ?_ <;> first | exact nope | intro hb
   refine aw_skip ?_
   refine ifs ?_ ?_ <;> first | exact nope | intro hb
   exact go0 (cj rTI @b)
  ·rw[decide_eq_false k6] at e5
   rw[decide_eq_true (k5.resolve_left k6)] at e6
   refine go (cj rTI @e5) ?_
   refine ifs ?_ ?_ <;> first | exact nope | intro hb
   refine go (cj rTI @e6) ?_
   refine ifs ?_ ?_ <;> first | exact nope | intro hb
   exact go0 (cj rTI @b)
 rw[if_neg k5]
 rw[decide_eq_false (fun g=>k5 (.inl g))] at e5
 rw[decide_eq_false (fun g=>k5 (.inr g))] at e6
 have b:(((k.getD 0 0:Nat):Int) != 46)=decide (k.getD 0 0≠46):=by rw[Bool.eq_iff_iff];simp;omega
 refine acall_of Tryz.func84 rfl rfl (by simp [Tryz.ntmps84]) ?_;rw[Tryz.ntmps84,Tryz.results84]
 refine go (J3 rTI @hd0 @e1) ?_
 refine ifs ?_ ?_ <;> first | exact nope | intro hb
 refine go (cj rTI @e2) ?_
 refine ifs ?_ ?_ <;> first | exact nope | intro hb
 refine go (cj rTI @e3) ?_
 refine ifs ?_ ?_ <;> first | exact nope | intro hb
 refine go (cj rTI @e4) ?_
 refine ifs ?_ ?_ <;> first | exact nope | intro hb
 refine go (cj rTI @e5) ?_
 refine ifs ?_ ?_ <;> first | exact nope | intro hb
 refine go (cj rTI @e6) ?_
 refine ifs ?_ ?_ <;> first | exact nope | intro hb
 exact go0 (J5 rTI @hd0 @hg @lS @b)
end NetM
namespace NetN
open Go Go.RowKit Ax Ti NumS NumT CardS CardP CardA CardB CardE CardG CardI CardJ CardK CardL CardX NetS NetA NetE NetM
open NumA (NM)
open NumW (parseV)
theorem rTI:type_of% (J18 @ti3 @ti2 @ti4 @ti9 @ti5 @ti43 @ti45 @ti44 @ti23 @ti28 @ti92 @ti31 @Nat.zero_add @tz0 @tz1 @tz3 @Nat.mul_one @Int.toNat_natCast):=cj @ti3 (J17 @ti2 @ti4 @ti9 @ti5 @ti43 @ti45 @ti44 @ti23 @ti28 @ti92 @ti31 @Nat.zero_add @tz0 @tz1 @tz3 @Nat.mul_one @Int.toNat_natCast)
def PC (p:Par) (m u c pl sp:AV):List AV:=[.v (.int .i64 p.c.step.1),.v (.int .i64 p.c.step.2),.v (.int .i64 p.c.method),m,u,c,.v (.bool p.step),.v (.bool p.method),.v (.bool p.ended),.v (.bool p.inside),.v (.int .i64 p.begun),pl,sp]
theorem order_ax (s:St) (ip:Nat) (p:Par) (m u c pl sp:AV) (k:Str) (r:List Str) (hi:s.get ip=some (PC p m u c pl sp)) (hid:ip<s.nx) (hk:By k) (hl:(k::r).length≤9223372036854775807) :
  ACall Tryz.prog 83 [.ptr ip 0,TV (k::r)] s fun r' s'=>r'=.v (.bool (orderOk p k))∧s'=s:=by
 have e1:=w_step k hk
 have e2:=w_method k hk
 have e3:=w_model k hk
 have e4:=w_sub k hk
 have e5:=w_ends k hk
 have e6:=w_end k hk
 have hd0:(SL (k::r)).head?=some (.v (.string (bs k))):=rfl
 obtain⟨n,hn⟩:∃ n,n=(k::r).length:=⟨_,rfl⟩
 have hn1:1≤n:=by rw[hn,List.length_cons];omega
 unfold PC at hi
 unfold TV
 rw[←hn] at hl ⊢
 unfold orderOk
 refine acall_of Tryz.func83 rfl rfl (by simp [Tryz.ntmps83]) ?_;rw[Tryz.ntmps83,Tryz.results83]
 cases he:p.ended with
 | true=>
  rw[he] at hi
  refine go (cj rTI @hi) ?_
  refine ifs ?_ ?_ <;> first | exact nope | intro hb
  exact go0 rTI
 | false=>
  rw[he] at hi
  rw[if_neg (by simp)]
  refine go (cj rTI @hi) ?_
  refine ifs ?_ ?_ <;> first | exact nope | intro hb
  refine aw_skip ?_
  rw[then_normal]
  by_cases k0:k=sStep
  ·rw[decide_eq_true k0] at e1
   rw[if_pos (.inl k0)]
   refine go (J3 rTI @hd0 @e1) ?_
   refine ifs ?_ ?_ <;> first | exact nope | intro hb
   refine aw_skip ?_
   refine ifs ?_ ?_ <;> first | exact nope | intro hb
   exact go0 (cj rTI @hi)
  rw[decide_eq_false k0] at e1
  by_cases k1:k=sMethod
  ·rw[decide_eq_true k1] at e2
   rw[if_pos (.inr (.inl k1))]
   refine go (J3 rTI @hd0 @e1) ?_
   refine ifs ?_ ?_ <;> first | exact nope | intro hb
   refine go (cj rTI @e2) ?_
   refine ifs ?_ ?_ <;> first | exact nope | intro hb
   refine aw_skip ?_
   refine ifs ?_ ?_ <;> first | exact nope | intro hb
   exact go0 (cj rTI @hi)
  rw[decide_eq_false k1] at e2
  by_cases k2:k=sModel
  ·rw[decide_eq_true k2] at e3
   rw[if_pos (.inr (.inr (.inl k2)))]
   refine go (J3 rTI @hd0 @e1) ?_
   refine ifs ?_ ?_ <;> first | exact nope | intro hb
   refine go (cj rTI @e2) ?_
   refine ifs ?_ ?_ <;> first | exact nope | intro hb
   refine go (cj rTI @e3) ?_
   refine ifs ?_ ?_ <;> first | exact nope | intro hb
   refine aw_skip ?_
   refine ifs ?_ ?_ <;> first | exact nope | intro hb
   exact go0 (cj rTI @hi)
  rw[decide_eq_false k2] at e3
  by_cases k3:k=sSub
  ·rw[decide_eq_true k3] at e4
   rw[if_pos (.inr (.inr (.inr (.inl k3))))]
   refine go (J3 rTI @hd0 @e1) ?_
   refine ifs ?_ ?_ <;> first | exact nope | intro hb
   refine go (cj rTI @e2) ?_
   refine ifs ?_ ?_ <;> first | exact nope | intro hb
   refine go (cj rTI @e3) ?_
   refine ifs ?_ ?_ <;> first | exact nope | intro hb
   refine go (cj rTI @e4) ?_
   refine ifs ?_ ?_ <;> first | exact nope | intro hb
   refine aw_skip ?_
   refine ifs ?_ ?_ <;> first | exact nope | intro hb
   exact go0 (cj rTI @hi)
  rw[decide_eq_false k3] at e4
  by_cases k4:k=sEnd
  ·rw[decide_eq_true k4] at e6
   rw[if_pos (.inr (.inr (.inr (.inr (k4)))))]
   refine go (J3 rTI @hd0 @e1) ?_
   refine ifs ?_ ?_ <;> first | exact nope | intro hb
   refine go (cj rTI @e2) ?_
   refine ifs ?_ ?_ <;> first | exact nope | intro hb
   refine go (cj rTI @e3) ?_
   refine ifs ?_ ?_ <;> first | exact nope | intro hb
   refine go (cj rTI @e4) ?_
   refine ifs ?_ ?_ <;> first | exact nope | intro hb
   refine go (cj rTI @e6) ?_
   refine ifs ?_ ?_ <;> first | exact nope | intro hb
   exact go0 (cj rTI @hi)
  rw[decide_eq_false k4] at e6
  rw[if_neg (by rintro (g | g | g | g | g);exact k0 g;exact k1 g;exact k2 g;exact k3 g;exact k4 g)]
  refine go (J3 rTI @hd0 @e1) ?_
  refine ifs ?_ ?_ <;> first | exact nope | intro hb
  refine go (cj rTI @e2) ?_
  refine ifs ?_ ?_ <;> first | exact nope | intro hb
  refine go (cj rTI @e3) ?_
  refine ifs ?_ ?_ <;> first | exact nope | intro hb
  refine go (cj rTI @e4) ?_
  refine ifs ?_ ?_ <;> first | exact nope | intro hb
  refine go (cj rTI @e6) ?_
  refine ifs ?_ ?_ <;> first | exact nope | intro hb
  by_cases k5:k=sEnds
  ·rw[decide_eq_true k5] at e5
   rw[if_pos k5]
   refine go (cj rTI @e5) ?_
   refine ifs ?_ ?_ <;> first | exact nope | intro hb
   exact go0 (cj rTI @hi)
  ·rw[decide_eq_false k5] at e5
   rw[if_neg k5]
   refine go (cj rTI @e5) ?_
   refine ifs ?_ ?_ <;> first | exact nope | intro hb
   exact go0 rTI
theorem setStep_ax (s:St) (ip:Nat) (p:Par) (m u c pl sp:AV) (w:Str) (hi:s.get ip=some (PC p m u c pl sp)) (hid:ip<s.nx) (hw:By w) :
  ACall Tryz.prog 85 [.ptr ip 0,SV w] s fun r' s'=>r'=.v (.int .i64 (setStep p w).2)∧s'.get ip=some (PC (setStep p w).1 m u c pl sp)∧s.nx≤s'.nx∧∀ i,i<s.nx→i≠ip→s'.get i=s.get i:=by
 have pp:=NumE.parse_any w hw
 unfold SV
 have hN:numV w=((parseS w).1,(parseS w).2.1):=rfl
 unfold setStep
 generalize parseS w=q at *
 obtain⟨a,b,e⟩:=q
 unfold parseV NM at pp
 simp only at *
 by_cases h1:e=0
 ·have b1:(e != 0)=false:=by rw[h1];rfl
  rw[if_neg (by simpa using h1)]
  by_cases h2:a≤0
  ·have b2:decide (a≤0)=true:=decide_eq_true h2
   rw[if_pos h2]
   unfold PC at *
   refine acall_of Tryz.func85 rfl rfl (by simp [Tryz.ntmps85]) ?_;rw[Tryz.ntmps85,Tryz.results85]
   refine go rTI ?_
   refine aw_reg fun K hK=>?_;refine rn rTI ?_;refine cont_pure pp ?_;refine rn rTI ?_;refine hK _ _ ?_;clear hK K
   refine go (cj rTI @b1) ?_
   refine ifs ?_ ?_ <;> first | exact nope | intro hb
   refine go (cj rTI @b2) ?_
   refine ifs ?_ ?_ <;> first | exact nope | intro hb
   refine go rTI ?_
   exact⟨hi,Nat.le_succ _,fun i h _=>if_neg (by omega)⟩
  ·have b2:decide (a≤0)=false:=decide_eq_false h2
   rw[if_neg h2]
   cases h3:p.step with
   | true=>
    rw[if_pos rfl]
    unfold PC at *
    rw[h3] at hi ⊢
    refine acall_of Tryz.func85 rfl rfl (by simp [Tryz.ntmps85]) ?_;rw[Tryz.ntmps85,Tryz.results85]
    refine go rTI ?_
    refine aw_reg fun K hK=>?_;refine rn rTI ?_;refine cont_pure pp ?_;refine rn rTI ?_;refine hK _ _ ?_;clear hK K
    refine go (cj rTI @b1) ?_
    refine ifs ?_ ?_ <;> first | exact nope | intro hb
    refine go (cj rTI @b2) ?_
    refine ifs ?_ ?_ <;> first | exact nope | intro hb
    refine go (cj rTI @hi) ?_
    refine ifs ?_ ?_ <;> first | exact nope | intro hb
    refine go rTI ?_
    exact⟨hi,Nat.le_succ _,fun i h _=>if_neg (by omega)⟩
   | false=>
    rw[if_neg (by simp)]
    unfold PC at *
    rw[h3] at hi
    refine acall_of Tryz.func85 rfl rfl (by simp [Tryz.ntmps85]) ?_;rw[Tryz.ntmps85,Tryz.results85]
    refine go rTI ?_
    refine aw_reg fun K hK=>?_;refine rn rTI ?_;refine cont_pure pp ?_;refine rn rTI ?_;refine hK _ _ ?_;clear hK K
    refine go (cj rTI @b1) ?_
    refine ifs ?_ ?_ <;> first | exact nope | intro hb
    refine go (cj rTI @b2) ?_
    refine ifs ?_ ?_ <;> first | exact nope | intro hb
    refine go (cj rTI @hi) ?_
    refine ifs ?_ ?_ <;> first | exact nope | intro hb
    refine go (cj rTI @hi) ?_
    exact⟨by rw[hN],Nat.le_succ _,fun i h g=>(if_neg g).trans (if_neg (by omega))⟩
 ·have b1:(e != 0)=true:=by simpa using h1
  rw[if_pos h1]
  unfold PC at *
  refine acall_of Tryz.func85 rfl rfl (by simp [Tryz.ntmps85]) ?_;rw[Tryz.ntmps85,Tryz.results85]
  refine go rTI ?_
  refine aw_reg fun K hK=>?_;refine rn rTI ?_;refine cont_pure pp ?_;refine rn rTI ?_;refine hK _ _ ?_;clear hK K
  refine go (cj rTI @b1) ?_
  refine ifs ?_ ?_ <;> first | exact nope | intro hb
  refine go rTI ?_
  exact⟨hi,Nat.le_succ _,fun i h _=>if_neg (by omega)⟩
end NetN
namespace NetQ
open Go Go.RowKit Ax Ti NumS NumT CardS CardP CardA CardB CardE CardG CardI CardJ CardK CardL CardN CardX NetS NetA NetE NetM NetN
theorem rTI:type_of% (J24 @ti3 @ti2 @ti4 @ti9 @ti5 @ti43 @ti45 @ti44 @ti23 @ti49 @ti68 @ti51 @ti28 @ti26 @ti24 @ti25 @ti90 @ti89 @ti92 @ti31 @Nat.zero_add @tz0 @tz1 (J3 @tz3 @Nat.mul_one @Int.toNat_natCast)):=cj @ti3 (J24 @ti2 @ti4 @ti9 @ti5 @ti43 @ti45 @ti44 @ti23 @ti49 @ti68 @ti51 @ti28 @ti26 @ti24 @ti25 @ti90 @ti89 @ti92 @ti31 @Nat.zero_add @tz0 @tz1 @tz3 (cj @Nat.mul_one @Int.toNat_natCast))
structure MS (s s':St) (ip im im':Nat) (p p':Par) (u c pl sp:AV):Prop where
 hp:s'.get ip=some (PC p' (.own im' 0 p'.c.models.length 4) u c pl sp)
 hm:s'.get im'=some (ML p'.c.models)
 o:(im'=im∨s.nx≤im')∧im'<s'.nx∧im'≠ip
 n:s.nx≤s'.nx
 f:∀ i,i<s.nx→i≠ip→i≠im→s'.get i=s.get i
theorem zrow_four (a b c d:Value):zrow [a,b,c,d] 4=[.v a,.v b,.v c,.v d]:=rfl
theorem MS.same {s s':St} {ip im:Nat} {p:Par} {u c pl sp:AV} (hi:s.get ip=some (PC p (.own im 0 p.c.models.length 4) u c pl sp)) (hm:s.get im=some (ML p.c.models)) (l1:ip<s.nx∧im<s.nx∧im≠ip) (hn:s.nx≤s'.nx) (hf:∀ i,i<s.nx→s'.get i=s.get i) :
  MS s s' ip im im p p u c pl sp:=
 ⟨(hf ip l1.1).trans hi,(hf im l1.2.1).trans hm,⟨.inl rfl,by omega,l1.2.2⟩,hn,fun i h _ _=>hf i h⟩
theorem addModel_ax (s:St) (ip im:Nat) (p:Par) (u c pl sp:AV) (w:List Str) (hi:s.get ip=some (PC p (.own im 0 p.c.models.length 4) u c pl sp)) (hm:s.get im=some (ML p.c.models)) (l1:ip<s.nx∧im<s.nx∧im≠ip)
  (hw:BL w) (hwl:∀ x∈w,x.length≤281474976710656) (hl:w.length≤9223372036854775807) (hb1:∀ m∈p.c.models,By m.name) (hb2:By (readM w).1.name) (ml:p.c.models.length≤16) :
  ACall Tryz.prog 86 [.ptr ip 0,TV w] s fun r' s'=>∃ im',r'=.v (.int .i64 (addModel p w).2)∧MS s s' ip im im' p (addModel p w).1 u c pl sp:=by
 have pr:=readM_ax w hw hwl hl
 have hS:=fun s'=>MS.same (s':=s') hi hm l1
 obtain⟨l1,l2,l3⟩:=l1
 unfold addModel
 generalize readM w=q at *
 obtain⟨y,ev⟩:=q
 simp only at *
 unfold RB MA SV NV iv at pr
 unfold PC at hi
 by_cases h1:ev=0
 ·have b1:(ev != 0)=false:=by rw[h1];rfl
  rw[if_neg (by simpa using h1)]
  generalize hP:(fun o:Mdl=>decide (o.name=y.name))=P at *
  refine acall_of Tryz.func86 rfl rfl (by simp [Tryz.ntmps86]) ?_;rw[Tryz.ntmps86,Tryz.results86]
  refine go rTI ?_
  refine aw_reg fun K hK=>?_;refine rn rTI ?_;refine cont_pure pr ?_;refine rn rTI ?_;refine hK _ _ ?_;clear hK K
  refine go (cj rTI @b1) ?_
  refine ifs ?_ ?_ <;> first | exact nope | intro hb
  refine go (cj rTI @hi) ?_
  refine aw_loop (fun m e s'=>∃ j,m=p.c.models.length-j∧j≤p.c.models.length∧e.n=52∧e.m 0=.ptr ip 0∧e.m 5=.ptr s.nx 0∧e.m 21=.own im 0 p.c.models.length 4∧e.m 22=.v (.int .i64 p.c.models.length)∧e.m 23=.v (.int .i64 (j:Nat))∧(p.c.models.take j).any P=false ∧
   s'.get s.nx=some [.v (.string (bs y.name)),.v (.int .u8 y.kind),.sl y.g.length (NC y.g),.sl y.v.length (NC y.v)]∧s.nx<s'.nx∧∀ i,i<s.nx→s'.get i=s.get i) p.c.models.length ?_ ?_
  ·refine⟨0,by omega,by omega,?_⟩
   (repeat' refine And.intro ?_ ?_) <;> first | exact rfl | exact fnz rTI | skip
   all_goals first | exact Nat.lt_succ_self _ | exact fun i hi=>push_set_ne s _ _ _ hi
  ·rintro m e s' ⟨j,rfl,hj,h1,k0,k5,k21,k22,k23,hn,gy,hx',hf⟩
   have gi:=(hf ip l1).trans hi
   have gm:=(hf im l2).trans hm
   by_cases hj2:j<p.c.models.length
   ·have f1:=ml_at p.c.models j hj2
    have f3:4≤((ML p.c.models).drop (j*4)).length:=by rw[List.length_drop,ml_len];omega
    have f3':=ml_len p.c.models
    have f4:=any_take P p.c.models mdl0 j hj2 hn
    have f5:=any_get P p.c.models mdl0 j hj2
    have hmj:=hb1 _ (getD_mem p.c.models mdl0 j hj2)
    generalize p.c.models.getD j mdl0=z at f1 f4 f5 hmj
    unfold mdlL SV NV at f1
    have g3:=str_eq z.name y.name hmj hb2
    have hP':P z=decide (z.name=y.name):=by rw[←hP]
    refine go (J4 rTI @h1 @k22 @k23) ?_
    refine ifs ?_ ?_ <;> first | exact nope | intro hb
    refine aw_skip ?_
    refine go (J8 rTI @h1 @k21 @k23 @f1 @f3 @f3' @gm) ?_
    by_cases q1:z.name=y.name
    ·rw[decide_eq_true q1] at g3 hP'
     rw[if_pos (f5 hP')]
     refine go (J5 rTI @h1 @k5 @gy @g3) ?_
     refine ifs ?_ ?_ <;> first | exact nope | intro hb
     refine go (cj rTI @h1) ?_
     exact⟨im,hS _ (by have:=hx';simp only[St.nx_set,St.nx_push];omega) (fun i hi=>(push_set_ne s' _ _ _ (by omega)).trans (hf i hi))⟩
    ·rw[decide_eq_false q1] at g3 hP'
     refine go (J5 rTI @h1 @k5 @gy @g3) ?_
     refine ifs ?_ ?_ <;> first | exact nope | intro hb
     refine go (J3 rTI @h1 @k23) ?_
     simp only[block_normal,loop_normal]
     refine⟨p.c.models.length-(j+1),by omega,j+1,rfl,by omega,?_⟩
     (repeat' refine And.intro ?_ ?_) <;> first | exact rfl | exact fnz (J6 @h1 @k0 @k5 @k21 @k22 @k23) | skip
     ·rw[f4,hP']
     ·exact(push_set_ne s' _ _ _ hx').trans gy
     ·exact Nat.lt_succ_of_lt hx'
     ·exact fun i hi=>(push_set_ne s' _ _ _ (by omega)).trans (hf i hi)
   ·obtain rfl:j=p.c.models.length:=by omega
    rw[List.take_length] at hn
    rw[if_neg (by rw[hn];simp)]
    refine go (J4 rTI @h1 @k22 @k23) ?_
    refine ifs ?_ ?_ <;> first | exact nope | intro hb
    by_cases q1:p.c.models.length=16
    ·have b2:((p.c.models.length:Int)==16)=true:=by rw[q1];rfl
     rw[if_pos q1]
     refine go (J5 rTI @h1 @k0 @gi @b2) ?_
     refine ifs ?_ ?_ <;> first | exact nope | intro hb
     refine go (cj rTI @h1) ?_
     exact⟨im,hS _ (by omega) hf⟩
    ·have b2:((p.c.models.length:Int)==16)=false:=by rw[Bool.eq_iff_iff];simp;omega
     rw[if_neg q1]
     have f3':=ml_len p.c.models
     refine go (J5 rTI @h1 @k0 @gi @b2) ?_
     refine ifs ?_ ?_ <;> first | exact nope | intro hb
     refine aw_skip ?_
     rw[then_normal]
     refine aw_seq ?_
     refine aw_drwR (.take 0 (.take 1 (.take 2 (.take 3 (.take 4 (.take 5 (.take 6 (.one 7 (.one 8 (.done)))))))))) 9 [10,11,12] [ip,s.nx] (by kernel_rfl) (by kernel_rfl) fun K hK=>?_;refine dt (J9 rTI @h1 @k0 @k5 @gi @gy @gm @f3' @zrow_four) ?_;refine hK _ _ ?_;clear hK K
     refine go (cj rTI @h1) ?_
     have e1:(s'.push [.v (.string (bs y.name)),.v (.int .u8 y.kind),.sl y.g.length (NC y.g),.sl y.v.length (NC y.v)]).nx=s'.nx+1:=rfl
     refine⟨s'.nx+1,⟨?_,?_,⟨.inr (by omega),?_,by omega⟩,?_,fun i hi h h'=>?_⟩⟩
     ·refine (St.set_same _ _ _).trans ?_
      unfold PC
      simp only[List.length_append,List.length_cons,List.length_nil]
     ·refine (St.set_ne _ _ _ _ (by omega)).trans ((St.push_same ((s'.push _).kill im) _).trans ?_)
      unfold ML
      rw[List.flatMap_append]
      rfl
     ·exact Nat.lt_succ_self _
     ·exact Nat.le_trans (Nat.le_of_lt (Nat.lt_trans (by omega:s.nx<s'.nx+1) (Nat.lt_succ_self _))) (Nat.le_refl _)
     ·rw[St.set_ne _ _ _ _ h,St.push_ne ((s'.push _).kill im) i _ (show i≠s'.nx+1 by omega),St.kill_ne _ _ _ h',St.push_ne s' i _ (by omega)]
      exact hf i hi
 ·have b1:(ev != 0)=true:=by simpa using h1
  rw[if_pos h1]
  refine acall_of Tryz.func86 rfl rfl (by simp [Tryz.ntmps86]) ?_;rw[Tryz.ntmps86,Tryz.results86]
  refine go rTI ?_
  refine aw_reg fun K hK=>?_;refine rn rTI ?_;refine cont_pure pr ?_;refine rn rTI ?_;refine hK _ _ ?_;clear hK K
  refine go (cj rTI @b1) ?_
  refine ifs ?_ ?_ <;> first | exact nope | intro hb
  refine go rTI ?_
  exact⟨im,hS _ (Nat.le_succ _) (fun i hi=>push_set_ne s _ _ _ hi)⟩
end NetQ
namespace NetP
open CardS NetS NumS
structure Pl (S:Int→Prop) (p:Par):Prop where
 b:p.inside=true→S p.begun
 c:∀ a∈p.places,S a
 s:∀ l∈p.subPl,∀ a∈l,S a
theorem lastMap_mem {α:Type} (f:α→α):∀ (l:List α) (x:α),x∈lastMap f l→x∈l∨∃ y∈l,x=f y
 | [],x,h=>absurd h (by simp [lastMap])
 | [a],x,h=>by
  rw[lastMap,List.mem_singleton] at h
  exact .inr ⟨a,by simp,h⟩
 | a::b::r,x,h=>by
  rw[lastMap,List.mem_cons] at h
  rcases h with h | h
  ·exact .inl (by rw[h];exact List.mem_cons_self ..)
  ·rcases lastMap_mem f (b::r) x h with g | ⟨y,g,e⟩
   ·exact .inl (List.mem_cons_of_mem _ g)
   ·exact .inr ⟨y,List.mem_cons_of_mem _ g,e⟩
theorem lineN_pl {S:Int→Prop} {p:Par} (h:Pl S p) (l:Line) (hl:S l.1):Pl S (lineN p l).1:=by
 have hI:∀ q:Par,q.inside=p.inside→q.begun=p.begun→q.places=p.places→q.subPl=p.subPl→Pl S q:=fun q h1 h2 h3 h4=>⟨fun g=>by rw[h2];exact h.b (h1 ▸ g),by rw[h3];exact h.c,by rw[h4];exact h.s⟩
 unfold lineN
 simp only
 split
 ·exact h
 split
 ·exact h
 split
 ·unfold setStep
  (repeat' split) <;> exact hI _ rfl rfl rfl rfl
 split
 ·unfold setMethod
  (repeat' split) <;> exact hI _ rfl rfl rfl rfl
 split
 ·unfold addModel
  (repeat' split) <;> exact hI _ rfl rfl rfl rfl
 split
 ·unfold addSub
  simp only
  (repeat' split) <;> first | exact hI _ rfl rfl rfl rfl | skip
  refine⟨fun _=>hl,h.c,fun a ha=>?_⟩
  rcases List.mem_append.1 ha with g | g
  ·exact h.s a g
  ·rw[List.mem_singleton] at g
   subst g
   intro x hx
   cases hx
 split
 ·exact⟨fun g=>Bool.noConfusion g,h.c,h.s⟩
 split
 ·exact hI _ rfl rfl rfl rfl
 unfold addCard
 (repeat' split) <;> first | exact hI _ rfl rfl rfl rfl | skip
 ·refine⟨h.b,h.c,fun a ha=>?_⟩
  rcases lastMap_mem _ _ _ ha with g | ⟨y,g,e⟩
  ·exact h.s a g
  ·subst e
   intro x hx
   rcases List.mem_append.1 hx with k | k
   ·exact h.s y g x k
   ·rw[List.mem_singleton] at k
    rw[k]
    exact hl
 ·refine⟨h.b,fun a ha=>?_,h.s⟩
  rcases List.mem_append.1 ha with k | k
  ·exact h.c a k
  ·rw[List.mem_singleton] at k
   rw[k]
   exact hl
theorem linesN_pl {S:Int→Prop}:∀ (L:List Line) (p:Par),Pl S p→(∀ l∈L,S l.1)→Pl S (linesN p L).1∧((linesN p L).2.2≠0→S (linesN p L).2.1)
 | [],p,h,_=>⟨h,fun g=>absurd rfl g⟩
 | l::r,p,h,hL=>by
  have h1:=lineN_pl h l (hL l (List.mem_cons_self ..))
  rw[linesN]
  split
  ·exact⟨h1,fun _=>hL l (List.mem_cons_self ..)⟩
  ·exact linesN_pl r _ h1 fun x hx=>hL x (List.mem_cons_of_mem _ hx)
theorem lookP_pl {S:Int→Prop} (models:List Mdl) (subs:List Sub) (cards:List Crd):∀ (r:List (Crd × Int)) (b:Int × Int),(∀ x∈r,S x.2)→(b.2≠0→S b.1)→(lookP models subs cards r b).2≠0→S (lookP models subs cards r b).1
 | [],b,_,hb=>hb
 | (x,a)::r,b,h,hb=>by
  rw[lookP]
  refine lookP_pl models subs cards r _ (fun y hy=>h y (List.mem_cons_of_mem _ hy)) ?_
  split
  ·exact fun _=>h (x,a) (List.mem_cons_self ..)
  ·exact hb
theorem refsP_pl {S:Int→Prop} {p:Par} (h:Pl S p):(refsP p).2≠0→S (refsP p).1:=by
 unfold refsP
 refine lookP_pl _ _ _ _ _ (fun x hx=>h.c _ (List.of_mem_zip hx).2) ?_
 have:∀ (ks:List Nat) (b:Int × Int),(b.2≠0→S b.1)→(ks.foldl (fun b k=>lookP p.c.models (p.c.subs.take k) ((p.c.subs.map Sub.cards).getD k []) (((p.c.subs.map Sub.cards).getD k []).zip (p.subPl.getD k [])) b) b).2≠0 →
   S (ks.foldl (fun b k=>lookP p.c.models (p.c.subs.take k) ((p.c.subs.map Sub.cards).getD k []) (((p.c.subs.map Sub.cards).getD k []).zip (p.subPl.getD k [])) b) b).1:=by
  intro ks
  induction ks with
  | nil=>exact fun b hb=>hb
  | cons k ks ih=>
   intro b hb
   rw[List.foldl_cons]
   refine ih _ (lookP_pl _ _ _ _ _ (fun x hx=>?_) hb)
   have hm:=(List.of_mem_zip hx).2
   rw[List.getD_eq_getElem?_getD] at hm
   cases hk:p.subPl[k]? with
   | none=>rw[hk] at hm;cases hm
   | some l=>
    rw[hk] at hm
    exact h.s l (List.mem_of_getElem? hk) _ hm
 exact this _ _ fun g=>absurd rfl g
theorem parseL_pl {S:Int→Prop} (L:List Line) (hL:∀ l∈L,S l.1):(parseL L).2.2≠0→S (parseL L).2.1:=by
 have h0:Pl S par0:=⟨fun g=>Bool.noConfusion g,fun a ha=>(by cases ha),fun a ha=>(by cases ha)⟩
 obtain⟨h1,h2⟩:=linesN_pl L par0 h0 hL
 unfold parseL
 simp only
 split
 ·exact fun _=>h2 ‹_›
 split
 ·exact fun _=>h1.b ‹_›
 split
 ·exact fun _=>refsP_pl h1 ‹_›
 ·exact fun g=>absurd rfl g
theorem parseL_ok (L:List Line):(parseL L).2.2=0→(parseL L).2.1=0:=by
 unfold parseL
 simp only
 split
 ·exact fun g=>absurd g ‹_›
 split
 ·exact fun g=>absurd (show (80:Int)=0 from g) (by decide)
 split
 ·exact fun g=>absurd g ‹_›
 ·exact fun _=>rfl
end NetP
end Go.Proofs.YtdaeancgockacaaGreatDoor
