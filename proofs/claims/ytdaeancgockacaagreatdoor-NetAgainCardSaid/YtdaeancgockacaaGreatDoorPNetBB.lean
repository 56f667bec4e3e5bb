/- A part of the proof. -/
import Derived.Test.YtdaeancgockacaaGreatDoorPNetBA
import Derived.Test.YtdaeancgockacaaGreatDoorProg
set_option linter.unusedVariables false
set_option linter.unusedSimpArgs false
set_option maxHeartbeats 2000000
set_option maxRecDepth 4000
namespace Go.Proofs.YtdaeancgockacaaGreatDoor
namespace Ax
theorem cj {a b:Prop} (h:a) (g:b):a∧b:=⟨h,g⟩
theorem J3 {p0 p1 p2 : Prop} (a0 : p0) (a1 : p1) (a2 : p2) : p0 ∧ p1 ∧ p2 := ⟨a0, a1, a2⟩
theorem J4 {p0 p1 p2 p3 : Prop} (a0 : p0) (a1 : p1) (a2 : p2) (a3 : p3) : p0 ∧ p1 ∧ p2 ∧ p3 := ⟨a0, a1, a2, a3⟩
theorem J5 {p0 p1 p2 p3 p4 : Prop} (a0 : p0) (a1 : p1) (a2 : p2) (a3 : p3) (a4 : p4) : p0 ∧ p1 ∧ p2 ∧ p3 ∧ p4 := ⟨a0, a1, a2, a3, a4⟩
theorem J6 {p0 p1 p2 p3 p4 p5 : Prop} (a0 : p0) (a1 : p1) (a2 : p2) (a3 : p3) (a4 : p4) (a5 : p5) : p0 ∧ p1 ∧ p2 ∧ p3 ∧ p4 ∧ p5 := ⟨a0, a1, a2, a3, a4, a5⟩
theorem J7 {p0 p1 p2 p3 p4 p5 p6 : Prop} (a0 : p0) (a1 : p1) (a2 : p2) (a3 : p3) (a4 : p4) (a5 : p5) (a6 : p6) : p0 ∧ p1 ∧ p2 ∧ p3 ∧ p4 ∧ p5 ∧ p6 := ⟨a0, a1, a2, a3, a4, a5, a6⟩
theorem J8 {p0 p1 p2 p3 p4 p5 p6 p7 : Prop} (a0 : p0) (a1 : p1) (a2 : p2) (a3 : p3) (a4 : p4) (a5 : p5) (a6 : p6) (a7 : p7) : p0 ∧ p1 ∧ p2 ∧ p3 ∧ p4 ∧ p5 ∧ p6 ∧ p7 := ⟨a0, a1, a2, a3, a4, a5, a6, a7⟩
theorem J9 {p0 p1 p2 p3 p4 p5 p6 p7 p8 : Prop} (a0 : p0) (a1 : p1) (a2 : p2) (a3 : p3) (a4 : p4) (a5 : p5) (a6 : p6) (a7 : p7) (a8 : p8) : p0 ∧ p1 ∧ p2 ∧ p3 ∧ p4 ∧ p5 ∧ p6 ∧ p7 ∧ p8 := ⟨a0, a1, a2, a3, a4, a5, a6, a7, a8⟩
theorem J10 {p0 p1 p2 p3 p4 p5 p6 p7 p8 p9 : Prop} (a0 : p0) (a1 : p1) (a2 : p2) (a3 : p3) (a4 : p4) (a5 : p5) (a6 : p6) (a7 : p7) (a8 : p8) (a9 : p9) : p0 ∧ p1 ∧ p2 ∧ p3 ∧ p4 ∧ p5 ∧ p6 ∧ p7 ∧ p8 ∧ p9 := ⟨a0, a1, a2, a3, a4, a5, a6, a7, a8, a9⟩
theorem J11 {p0 p1 p2 p3 p4 p5 p6 p7 p8 p9 p10 : Prop} (a0 : p0) (a1 : p1) (a2 : p2) (a3 : p3) (a4 : p4) (a5 : p5) (a6 : p6) (a7 : p7) (a8 : p8) (a9 : p9) (a10 : p10) : p0 ∧ p1 ∧ p2 ∧ p3 ∧ p4 ∧ p5 ∧ p6 ∧ p7 ∧ p8 ∧ p9 ∧ p10 := ⟨a0, a1, a2, a3, a4, a5, a6, a7, a8, a9, a10⟩
theorem J12 {p0 p1 p2 p3 p4 p5 p6 p7 p8 p9 p10 p11 : Prop} (a0 : p0) (a1 : p1) (a2 : p2) (a3 : p3) (a4 : p4) (a5 : p5) (a6 : p6) (a7 : p7) (a8 : p8) (a9 : p9) (a10 : p10) (a11 : p11) : p0 ∧ p1 ∧ p2 ∧ p3 ∧ p4 ∧ p5 ∧ p6 ∧ p7 ∧ p8 ∧ p9 ∧ p10 ∧ p11 := ⟨a0, a1, a2, a3, a4, a5, a6, a7, a8, a9, a10, a11⟩
theorem J13 {p0 p1 p2 p3 p4 p5 p6 p7 p8 p9 p10 p11 p12 : Prop} (a0 : p0) (a1 : p1) (a2 : p2) (a3 : p3) (a4 : p4) (a5 : p5) (a6 : p6) (a7 : p7) (a8 : p8) (a9 : p9) (a10 : p10) (a11 : p11) (a12 : p12) : p0 ∧ p1 ∧ p2 ∧ p3 ∧ p4 ∧ p5 ∧ p6 ∧ p7 ∧ p8 ∧ p9 ∧ p10 ∧ p11 ∧ p12 := ⟨a0, a1, a2, a3, a4, a5, a6, a7, a8, a9, a10, a11, a12⟩
theorem J14 {p0 p1 p2 p3 p4 p5 p6 p7 p8 p9 p10 p11 p12 p13 : Prop} (a0 : p0) (a1 : p1) (a2 : p2) (a3 : p3) (a4 : p4) (a5 : p5) (a6 : p6) (a7 : p7) (a8 : p8) (a9 : p9) (a10 : p10) (a11 : p11) (a12 : p12) (a13 : p13) : p0 ∧ p1 ∧ p2 ∧ p3 ∧ p4 ∧ p5 ∧ p6 ∧ p7 ∧ p8 ∧ p9 ∧ p10 ∧ p11 ∧ p12 ∧ p13 := ⟨a0, a1, a2, a3, a4, a5, a6, a7, a8, a9, a10, a11, a12, a13⟩
theorem J15 {p0 p1 p2 p3 p4 p5 p6 p7 p8 p9 p10 p11 p12 p13 p14 : Prop} (a0 : p0) (a1 : p1) (a2 : p2) (a3 : p3) (a4 : p4) (a5 : p5) (a6 : p6) (a7 : p7) (a8 : p8) (a9 : p9) (a10 : p10) (a11 : p11) (a12 : p12) (a13 : p13) (a14 : p14) : p0 ∧ p1 ∧ p2 ∧ p3 ∧ p4 ∧ p5 ∧ p6 ∧ p7 ∧ p8 ∧ p9 ∧ p10 ∧ p11 ∧ p12 ∧ p13 ∧ p14 := ⟨a0, a1, a2, a3, a4, a5, a6, a7, a8, a9, a10, a11, a12, a13, a14⟩
theorem J16 {p0 p1 p2 p3 p4 p5 p6 p7 p8 p9 p10 p11 p12 p13 p14 p15 : Prop} (a0 : p0) (a1 : p1) (a2 : p2) (a3 : p3) (a4 : p4) (a5 : p5) (a6 : p6) (a7 : p7) (a8 : p8) (a9 : p9) (a10 : p10) (a11 : p11) (a12 : p12) (a13 : p13) (a14 : p14) (a15 : p15) : p0 ∧ p1 ∧ p2 ∧ p3 ∧ p4 ∧ p5 ∧ p6 ∧ p7 ∧ p8 ∧ p9 ∧ p10 ∧ p11 ∧ p12 ∧ p13 ∧ p14 ∧ p15 := ⟨a0, a1, a2, a3, a4, a5, a6, a7, a8, a9, a10, a11, a12, a13, a14, a15⟩
theorem J17 {p0 p1 p2 p3 p4 p5 p6 p7 p8 p9 p10 p11 p12 p13 p14 p15 p16 : Prop} (a0 : p0) (a1 : p1) (a2 : p2) (a3 : p3) (a4 : p4) (a5 : p5) (a6 : p6) (a7 : p7) (a8 : p8) (a9 : p9) (a10 : p10) (a11 : p11) (a12 : p12) (a13 : p13) (a14 : p14) (a15 : p15) (a16 : p16) : p0 ∧ p1 ∧ p2 ∧ p3 ∧ p4 ∧ p5 ∧ p6 ∧ p7 ∧ p8 ∧ p9 ∧ p10 ∧ p11 ∧ p12 ∧ p13 ∧ p14 ∧ p15 ∧ p16 := ⟨a0, a1, a2, a3, a4, a5, a6, a7, a8, a9, a10, a11, a12, a13, a14, a15, a16⟩
theorem J18 {p0 p1 p2 p3 p4 p5 p6 p7 p8 p9 p10 p11 p12 p13 p14 p15 p16 p17 : Prop} (a0 : p0) (a1 : p1) (a2 : p2) (a3 : p3) (a4 : p4) (a5 : p5) (a6 : p6) (a7 : p7) (a8 : p8) (a9 : p9) (a10 : p10) (a11 : p11) (a12 : p12) (a13 : p13) (a14 : p14) (a15 : p15) (a16 : p16) (a17 : p17) : p0 ∧ p1 ∧ p2 ∧ p3 ∧ p4 ∧ p5 ∧ p6 ∧ p7 ∧ p8 ∧ p9 ∧ p10 ∧ p11 ∧ p12 ∧ p13 ∧ p14 ∧ p15 ∧ p16 ∧ p17 := ⟨a0, a1, a2, a3, a4, a5, a6, a7, a8, a9, a10, a11, a12, a13, a14, a15, a16, a17⟩
theorem J19 {p0 p1 p2 p3 p4 p5 p6 p7 p8 p9 p10 p11 p12 p13 p14 p15 p16 p17 p18 : Prop} (a0 : p0) (a1 : p1) (a2 : p2) (a3 : p3) (a4 : p4) (a5 : p5) (a6 : p6) (a7 : p7) (a8 : p8) (a9 : p9) (a10 : p10) (a11 : p11) (a12 : p12) (a13 : p13) (a14 : p14) (a15 : p15) (a16 : p16) (a17 : p17) (a18 : p18) : p0 ∧ p1 ∧ p2 ∧ p3 ∧ p4 ∧ p5 ∧ p6 ∧ p7 ∧ p8 ∧ p9 ∧ p10 ∧ p11 ∧ p12 ∧ p13 ∧ p14 ∧ p15 ∧ p16 ∧ p17 ∧ p18 := ⟨a0, a1, a2, a3, a4, a5, a6, a7, a8, a9, a10, a11, a12, a13, a14, a15, a16, a17, a18⟩
theorem J20 {p0 p1 p2 p3 p4 p5 p6 p7 p8 p9 p10 p11 p12 p13 p14 p15 p16 p17 p18 p19 : Prop} (a0 : p0) (a1 : p1) (a2 : p2) (a3 : p3) (a4 : p4) (a5 : p5) (a6 : p6) (a7 : p7) (a8 : p8) (a9 : p9) (a10 : p10) (a11 : p11) (a12 : p12) (a13 : p13) (a14 : p14) (a15 : p15) (a16 : p16) (a17 : p17) (a18 : p18) (a19 : p19) : p0 ∧ p1 ∧ p2 ∧ p3 ∧ p4 ∧ p5 ∧ p6 ∧ p7 ∧ p8 ∧ p9 ∧ p10 ∧ p11 ∧ p12 ∧ p13 ∧ p14 ∧ p15 ∧ p16 ∧ p17 ∧ p18 ∧ p19 := ⟨a0, a1, a2, a3, a4, a5, a6, a7, a8, a9, a10, a11, a12, a13, a14, a15, a16, a17, a18, a19⟩
theorem J21 {p0 p1 p2 p3 p4 p5 p6 p7 p8 p9 p10 p11 p12 p13 p14 p15 p16 p17 p18 p19 p20 : Prop} (a0 : p0) (a1 : p1) (a2 : p2) (a3 : p3) (a4 : p4) (a5 : p5) (a6 : p6) (a7 : p7) (a8 : p8) (a9 : p9) (a10 : p10) (a11 : p11) (a12 : p12) (a13 : p13) (a14 : p14) (a15 : p15) (a16 : p16) (a17 : p17) (a18 : p18) (a19 : p19) (a20 : p20) : p0 ∧ p1 ∧ p2 ∧ p3 ∧ p4 ∧ p5 ∧ p6 ∧ p7 ∧ p8 ∧ p9 ∧ p10 ∧ p11 ∧ p12 ∧ p13 ∧ p14 ∧ p15 ∧ p16 ∧ p17 ∧ p18 ∧ p19 ∧ p20 := ⟨a0, a1, a2, a3, a4, a5, a6, a7, a8, a9, a10, a11, a12, a13, a14, a15, a16, a17, a18, a19, a20⟩
theorem J22 {p0 p1 p2 p3 p4 p5 p6 p7 p8 p9 p10 p11 p12 p13 p14 p15 p16 p17 p18 p19 p20 p21 : Prop} (a0 : p0) (a1 : p1) (a2 : p2) (a3 : p3) (a4 : p4) (a5 : p5) (a6 : p6) (a7 : p7) (a8 : p8) (a9 : p9) (a10 : p10) (a11 : p11) (a12 : p12) (a13 : p13) (a14 : p14) (a15 : p15) (a16 : p16) (a17 : p17) (a18 : p18) (a19 : p19) (a20 : p20) (a21 : p21) : p0 ∧ p1 ∧ p2 ∧ p3 ∧ p4 ∧ p5 ∧ p6 ∧ p7 ∧ p8 ∧ p9 ∧ p10 ∧ p11 ∧ p12 ∧ p13 ∧ p14 ∧ p15 ∧ p16 ∧ p17 ∧ p18 ∧ p19 ∧ p20 ∧ p21 := ⟨a0, a1, a2, a3, a4, a5, a6, a7, a8, a9, a10, a11, a12, a13, a14, a15, a16, a17, a18, a19, a20, a21⟩
theorem J23 {p0 p1 p2 p3 p4 p5 p6 p7 p8 p9 p10 p11 p12 p13 p14 p15 p16 p17 p18 p19 p20 p21 p22 : Prop} (a0 : p0) (a1 : p1) (a2 : p2) (a3 : p3) (a4 : p4) (a5 : p5) (a6 : p6) (a7 : p7) (a8 : p8) (a9 : p9) (a10 : p10) (a11 : p11) (a12 : p12) (a13 : p13) (a14 : p14) (a15 : p15) (a16 : p16) (a17 : p17) (a18 : p18) (a19 : p19) (a20 : p20) (a21 : p21) (a22 : p22) : p0 ∧ p1 ∧ p2 ∧ p3 ∧ p4 ∧ p5 ∧ p6 ∧ p7 ∧ p8 ∧ p9 ∧ p10 ∧ p11 ∧ p12 ∧ p13 ∧ p14 ∧ p15 ∧ p16 ∧ p17 ∧ p18 ∧ p19 ∧ p20 ∧ p21 ∧ p22 := ⟨a0, a1, a2, a3, a4, a5, a6, a7, a8, a9, a10, a11, a12, a13, a14, a15, a16, a17, a18, a19, a20, a21, a22⟩
theorem J24 {p0 p1 p2 p3 p4 p5 p6 p7 p8 p9 p10 p11 p12 p13 p14 p15 p16 p17 p18 p19 p20 p21 p22 p23 : Prop} (a0 : p0) (a1 : p1) (a2 : p2) (a3 : p3) (a4 : p4) (a5 : p5) (a6 : p6) (a7 : p7) (a8 : p8) (a9 : p9) (a10 : p10) (a11 : p11) (a12 : p12) (a13 : p13) (a14 : p14) (a15 : p15) (a16 : p16) (a17 : p17) (a18 : p18) (a19 : p19) (a20 : p20) (a21 : p21) (a22 : p22) (a23 : p23) : p0 ∧ p1 ∧ p2 ∧ p3 ∧ p4 ∧ p5 ∧ p6 ∧ p7 ∧ p8 ∧ p9 ∧ p10 ∧ p11 ∧ p12 ∧ p13 ∧ p14 ∧ p15 ∧ p16 ∧ p17 ∧ p18 ∧ p19 ∧ p20 ∧ p21 ∧ p22 ∧ p23 := ⟨a0, a1, a2, a3, a4, a5, a6, a7, a8, a9, a10, a11, a12, a13, a14, a15, a16, a17, a18, a19, a20, a21, a22, a23⟩
theorem bq:(∀ (p:Prop) [Decidable p],(decide p=true)=p)∧(∀ (p:Prop) [Decidable p],(decide p=false)=¬p) ∧
  (∀ (a b:Int),((a==b)=true)=(a=b))∧(∀ (a b:Int),((a==b)=false)=¬(a=b))∧(∀ (a b:Int),((a != b)=true)=¬(a=b))∧(∀ (a b:Int),((a != b)=false)=(a=b)) ∧
  (∀ (a b:Bool),((a==b)=true)=(a=b))∧(∀ (a b:Bool),((a==b)=false)=¬(a=b))∧(∀ (a b:Bool),((a != b)=true)=¬(a=b))∧(∀ (a b:Bool),((a != b)=false)=(a=b))∧(∀ (α:Type) (a b:α),(a≠b)=¬(a=b)):=by
 refine⟨fun p _=>by simp,fun p _=>by simp,fun a b=>by simp,fun a b=>by simp,fun a b=>by simp,fun a b=>by simp,fun a b=>by simp,fun a b=>by simp,fun a b=>by simp,fun a b=>by simp,fun α a b=>rfl⟩
theorem rlt:(∀ a:List AV,a.take a.length=a)∧∀ a:List Nat,a.take a.length=a:=⟨fun _=>List.take_length,fun _=>List.take_length⟩
theorem rld:(∀ a:List AV,a.drop a.length=[])∧∀ a:List Nat,a.drop a.length=[]:=⟨fun _=>List.drop_length,fun _=>List.drop_length⟩
theorem frw:(∀ (i:Nat) (c:List AV) (id off n sz:Nat),frz i c (.own id off n sz)=if id=i then .sl n ((c.drop off).take (n*sz)) else .own id off n sz) ∧
  (∀ (i:Nat) (c:List AV) (id off:Nat),frz i c (.ptr id off)=if id=i then .rf (c.drop off) else .ptr id off) ∧
  (∀ (i:Nat) (c l:List AV),frz i c (.ag l)=.ag (frz.frzL i c l))∧(∀ (i:Nat) (c l:List AV),frz i c (.tp l)=.tp (frz.frzL i c l)) ∧
  (∀ (i:Nat) (c:List AV) (n:Nat) (l:List AV),frz i c (.sl n l)=.sl n (frz.frzL i c l))∧(∀ (i:Nat) (c l:List AV),frz i c (.rf l)=.rf (frz.frzL i c l)) ∧
  (∀ (i:Nat) (c:List AV) (x:Value),frz i c (.v x)=.v x)∧(∀ (i:Nat) (c:List AV),frz i c .no=.no) ∧
  (∀ (i:Nat) (c:List AV),frz.frzL i c []=[])∧∀ (i:Nat) (c:List AV) (z:AV) (r:List AV),frz.frzL i c (z::r)=frz i c z::frz.frzL i c r:=
 ⟨fun _ _ _ _ _ _=>rfl,fun _ _ _ _=>rfl,fun _ _ _=>rfl,fun _ _ _=>rfl,fun _ _ _ _=>rfl,fun _ _ _=>rfl,fun _ _ _=>rfl,fun _ _=>rfl,fun _ _=>rfl,fun _ _ _ _=>rfl⟩
theorem rn {X A B:Prop} (x:X) (hB:B) (h:X→B→A:=by intro x hB;simp (disch:=omega) only [↓core,↓List.getElem?_toArray,↓List.getElem?_cons_succ,↓List.getElem?_cons_zero,↓onO_some,more,xbuild,if_pos,if_neg,onO_some,onO_none,onV_eq,xbuiltin,xlen,xload,loadA,xstore,spl,xfield,xindexAddr,xindex,xslice,bnd,xbin,xint,xshift,xstr,xeq,xun,xconv,xmake,xappend,xsrc,xbuildSlice,fillA,xminmax,gval,isK,mapM_nil_o,mapM_cons_o,AV.cells,AV.boxable,AV.one,TI.agg,resA,retA,zrow_one,eq_self,List.map,List.map_cons,List.map_nil,Option.map_some,Option.map_none,Option.bind_some,Option.bind_none,↓reduceIte,Nat.reduceLT,Nat.reduceEqDiff,Nat.reduceAdd,Nat.reduceMul,Nat.mul_one,Nat.reduceLeDiff,decide_true,decide_false,true_and,and_true,if_true,if_false,List.toList_toArray,List.size_toArray,beq_self_eq_true,Bool.true_eq_false,Bool.false_eq_true,forall_const,false_implies,implies_true,undef,IntKind.bits,List.drop_zero,List.drop_succ_cons,List.take_succ_cons,List.take_zero,List.length_cons,List.length_nil,List.set_cons_zero,List.set_cons_succ,List.head?_cons,List.all_cons,List.all_nil,List.replicate_succ,List.replicate_zero,Bool.and_true,Bool.and_self,Value.oneCell',Bool.true_and,Bool.or_true,Bool.or_false,Bool.not_true,Bool.not_false,x];exact hB):A:=h x hB
theorem rn0 {X A:Prop} (x:X) (h:X→A:=by intro x;simp (disch:=omega) only [↓core,↓List.getElem?_toArray,↓List.getElem?_cons_succ,↓List.getElem?_cons_zero,↓onO_some,more,xbuild,if_pos,if_neg,onO_some,onO_none,onV_eq,xbuiltin,xlen,xload,loadA,xstore,spl,xfield,xindexAddr,xindex,xslice,bnd,xbin,xint,xshift,xstr,xeq,xun,xconv,xmake,xappend,xsrc,xbuildSlice,fillA,xminmax,gval,isK,mapM_nil_o,mapM_cons_o,AV.cells,AV.boxable,AV.one,TI.agg,resA,retA,zrow_one,eq_self,List.map,List.map_cons,List.map_nil,Option.map_some,Option.map_none,Option.bind_some,Option.bind_none,↓reduceIte,Nat.reduceLT,Nat.reduceEqDiff,Nat.reduceAdd,Nat.reduceMul,Nat.mul_one,Nat.reduceLeDiff,decide_true,decide_false,true_and,and_true,if_true,if_false,List.toList_toArray,List.size_toArray,beq_self_eq_true,Bool.true_eq_false,Bool.false_eq_true,forall_const,false_implies,implies_true,undef,IntKind.bits,List.drop_zero,List.drop_succ_cons,List.take_succ_cons,List.take_zero,List.length_cons,List.length_nil,List.set_cons_zero,List.set_cons_succ,List.head?_cons,List.all_cons,List.all_nil,List.replicate_succ,List.replicate_zero,Bool.and_true,Bool.and_self,Value.oneCell',Bool.true_and,Bool.or_true,Bool.or_false,Bool.not_true,Bool.not_false,x];first | done | fail):A:=h x
theorem dr {X A B:Prop} (x:X) (hB:B) (h:X→B→A:=by intro x hB;simp (disch:=omega) only [↓drows,gt_true,gt_false,tk,held_nil,held_cons,List.mem_cons,List.not_mem_nil,or_false,or_true,true_or,false_or,eq_self,and_self,↓core,↓List.getElem?_toArray,↓List.getElem?_cons_succ,↓List.getElem?_cons_zero,↓onO_some,more,xbuild,if_pos,if_neg,onO_some,onO_none,onV_eq,xbuiltin,xlen,xload,loadA,xstore,spl,xfield,xindexAddr,xindex,xslice,bnd,xbin,xint,xshift,xstr,xeq,xun,xconv,xmake,xappend,xsrc,xbuildSlice,fillA,xminmax,gval,isK,mapM_nil_o,mapM_cons_o,AV.cells,AV.boxable,AV.one,TI.agg,resA,retA,zrow_one,eq_self,List.map,List.map_cons,List.map_nil,Option.map_some,Option.map_none,Option.bind_some,Option.bind_none,↓reduceIte,Nat.reduceLT,Nat.reduceEqDiff,Nat.reduceAdd,Nat.reduceMul,Nat.mul_one,Nat.reduceLeDiff,decide_true,decide_false,true_and,and_true,if_true,if_false,List.toList_toArray,List.size_toArray,beq_self_eq_true,Bool.true_eq_false,Bool.false_eq_true,forall_const,false_implies,implies_true,undef,IntKind.bits,List.drop_zero,List.drop_succ_cons,List.take_succ_cons,List.take_zero,List.length_cons,List.length_nil,List.set_cons_zero,List.set_cons_succ,List.head?_cons,List.all_cons,List.all_nil,List.replicate_succ,List.replicate_zero,Bool.and_true,Bool.and_self,Value.oneCell',Bool.true_and,Bool.or_true,Bool.or_false,Bool.not_true,Bool.not_false,x];exact hB):A:=h x hB
theorem dt {X A B:Prop} (x:X) (hB:B) (h:X→B→A:=by intro x hB;simp (disch:=omega) only [↓drows,↓trows,gt_true,gt_false,tk,held_nil,held_cons,List.mem_cons,List.not_mem_nil,or_false,or_true,true_or,false_or,eq_self,and_self,↓core,↓List.getElem?_toArray,↓List.getElem?_cons_succ,↓List.getElem?_cons_zero,↓onO_some,more,xbuild,if_pos,if_neg,onO_some,onO_none,onV_eq,xbuiltin,xlen,xload,loadA,xstore,spl,xfield,xindexAddr,xindex,xslice,bnd,xbin,xint,xshift,xstr,xeq,xun,xconv,xmake,xappend,xsrc,xbuildSlice,fillA,xminmax,gval,isK,mapM_nil_o,mapM_cons_o,AV.cells,AV.boxable,AV.one,TI.agg,resA,retA,zrow_one,eq_self,List.map,List.map_cons,List.map_nil,Option.map_some,Option.map_none,Option.bind_some,Option.bind_none,↓reduceIte,Nat.reduceLT,Nat.reduceEqDiff,Nat.reduceAdd,Nat.reduceMul,Nat.mul_one,Nat.reduceLeDiff,decide_true,decide_false,true_and,and_true,if_true,if_false,List.toList_toArray,List.size_toArray,beq_self_eq_true,Bool.true_eq_false,Bool.false_eq_true,forall_const,false_implies,implies_true,undef,IntKind.bits,List.drop_zero,List.drop_succ_cons,List.take_succ_cons,List.take_zero,List.length_cons,List.length_nil,List.set_cons_zero,List.set_cons_succ,List.head?_cons,List.all_cons,List.all_nil,List.replicate_succ,List.replicate_zero,Bool.and_true,Bool.and_self,Value.oneCell',Bool.true_and,Bool.or_true,Bool.or_false,Bool.not_true,Bool.not_false,x];exact hB):A:=h x hB
theorem go {X A B:Prop} (x:X) (hB:B) (h:X→B→A:=by
  intro x hB
  repeat (first
   | refine aw_seq ?_
   | refine aw_block ?_
   | (refine aw_reg fun K hK=>?_;simp (disch:=omega) only [↓core,↓List.getElem?_toArray,↓List.getElem?_cons_succ,↓List.getElem?_cons_zero,↓onO_some,more,xbuild,if_pos,if_neg,onO_some,onO_none,onV_eq,xbuiltin,xlen,xload,loadA,xstore,spl,xfield,xindexAddr,xindex,xslice,bnd,xbin,xint,xshift,xstr,xeq,xun,xconv,xmake,xappend,xsrc,xbuildSlice,fillA,xminmax,gval,isK,mapM_nil_o,mapM_cons_o,AV.cells,AV.boxable,AV.one,TI.agg,resA,retA,zrow_one,eq_self,List.map,List.map_cons,List.map_nil,Option.map_some,Option.map_none,Option.bind_some,Option.bind_none,↓reduceIte,Nat.reduceLT,Nat.reduceEqDiff,Nat.reduceAdd,Nat.reduceMul,Nat.mul_one,Nat.reduceLeDiff,decide_true,decide_false,true_and,and_true,if_true,if_false,List.toList_toArray,List.size_toArray,beq_self_eq_true,Bool.true_eq_false,Bool.false_eq_true,forall_const,false_implies,implies_true,undef,IntKind.bits,List.drop_zero,List.drop_succ_cons,List.take_succ_cons,List.take_zero,List.length_cons,List.length_nil,List.set_cons_zero,List.set_cons_succ,List.head?_cons,List.all_cons,List.all_nil,List.replicate_succ,List.replicate_zero,Bool.and_true,Bool.and_self,Value.oneCell',Bool.true_and,Bool.or_true,Bool.or_false,Bool.not_true,Bool.not_false,x];refine hK _ _ ?_;clear hK K)
   | (refine aw_skip ?_;try simp (disch:=omega) only [↓core,↓List.getElem?_toArray,↓List.getElem?_cons_succ,↓List.getElem?_cons_zero,↓onO_some,more,xbuild,if_pos,if_neg,onO_some,onO_none,onV_eq,xbuiltin,xlen,xload,loadA,xstore,spl,xfield,xindexAddr,xindex,xslice,bnd,xbin,xint,xshift,xstr,xeq,xun,xconv,xmake,xappend,xsrc,xbuildSlice,fillA,xminmax,gval,isK,mapM_nil_o,mapM_cons_o,AV.cells,AV.boxable,AV.one,TI.agg,resA,retA,zrow_one,eq_self,List.map,List.map_cons,List.map_nil,Option.map_some,Option.map_none,Option.bind_some,Option.bind_none,↓reduceIte,Nat.reduceLT,Nat.reduceEqDiff,Nat.reduceAdd,Nat.reduceMul,Nat.mul_one,Nat.reduceLeDiff,decide_true,decide_false,true_and,and_true,if_true,if_false,List.toList_toArray,List.size_toArray,beq_self_eq_true,Bool.true_eq_false,Bool.false_eq_true,forall_const,false_implies,implies_true,undef,IntKind.bits,List.drop_zero,List.drop_succ_cons,List.take_succ_cons,List.take_zero,List.length_cons,List.length_nil,List.set_cons_zero,List.set_cons_succ,List.head?_cons,List.all_cons,List.all_nil,List.replicate_succ,List.replicate_zero,Bool.and_true,Bool.and_self,Value.oneCell',Bool.true_and,Bool.or_true,Bool.or_false,Bool.not_true,Bool.not_false,x])
   | (refine aw_exit ?_;try simp (disch:=omega) only [↓core,↓List.getElem?_toArray,↓List.getElem?_cons_succ,↓List.getElem?_cons_zero,↓onO_some,more,xbuild,if_pos,if_neg,onO_some,onO_none,onV_eq,xbuiltin,xlen,xload,loadA,xstore,spl,xfield,xindexAddr,xindex,xslice,bnd,xbin,xint,xshift,xstr,xeq,xun,xconv,xmake,xappend,xsrc,xbuildSlice,fillA,xminmax,gval,isK,mapM_nil_o,mapM_cons_o,AV.cells,AV.boxable,AV.one,TI.agg,resA,retA,zrow_one,eq_self,List.map,List.map_cons,List.map_nil,Option.map_some,Option.map_none,Option.bind_some,Option.bind_none,↓reduceIte,Nat.reduceLT,Nat.reduceEqDiff,Nat.reduceAdd,Nat.reduceMul,Nat.mul_one,Nat.reduceLeDiff,decide_true,decide_false,true_and,and_true,if_true,if_false,List.toList_toArray,List.size_toArray,beq_self_eq_true,Bool.true_eq_false,Bool.false_eq_true,forall_const,false_implies,implies_true,undef,IntKind.bits,List.drop_zero,List.drop_succ_cons,List.take_succ_cons,List.take_zero,List.length_cons,List.length_nil,List.set_cons_zero,List.set_cons_succ,List.head?_cons,List.all_cons,List.all_nil,List.replicate_succ,List.replicate_zero,Bool.and_true,Bool.and_self,Value.oneCell',Bool.true_and,Bool.or_true,Bool.or_false,Bool.not_true,Bool.not_false,x])
   | (refine aw_ret ?_;try simp (disch:=omega) only [↓core,↓List.getElem?_toArray,↓List.getElem?_cons_succ,↓List.getElem?_cons_zero,↓onO_some,more,xbuild,if_pos,if_neg,onO_some,onO_none,onV_eq,xbuiltin,xlen,xload,loadA,xstore,spl,xfield,xindexAddr,xindex,xslice,bnd,xbin,xint,xshift,xstr,xeq,xun,xconv,xmake,xappend,xsrc,xbuildSlice,fillA,xminmax,gval,isK,mapM_nil_o,mapM_cons_o,AV.cells,AV.boxable,AV.one,TI.agg,resA,retA,zrow_one,eq_self,List.map,List.map_cons,List.map_nil,Option.map_some,Option.map_none,Option.bind_some,Option.bind_none,↓reduceIte,Nat.reduceLT,Nat.reduceEqDiff,Nat.reduceAdd,Nat.reduceMul,Nat.mul_one,Nat.reduceLeDiff,decide_true,decide_false,true_and,and_true,if_true,if_false,List.toList_toArray,List.size_toArray,beq_self_eq_true,Bool.true_eq_false,Bool.false_eq_true,forall_const,false_implies,implies_true,undef,IntKind.bits,List.drop_zero,List.drop_succ_cons,List.take_succ_cons,List.take_zero,List.length_cons,List.length_nil,List.set_cons_zero,List.set_cons_succ,List.head?_cons,List.all_cons,List.all_nil,List.replicate_succ,List.replicate_zero,Bool.and_true,Bool.and_self,Value.oneCell',Bool.true_and,Bool.or_true,Bool.or_false,Bool.not_true,Bool.not_false,x]))
  exact hB):A:=h x hB
theorem go0 {X A:Prop} (x:X) (h:X→A:=by
  intro x
  repeat (first
   | refine aw_seq ?_
   | refine aw_block ?_
   | (refine aw_reg fun K hK=>?_;simp (disch:=omega) only [↓core,↓List.getElem?_toArray,↓List.getElem?_cons_succ,↓List.getElem?_cons_zero,↓onO_some,more,xbuild,if_pos,if_neg,onO_some,onO_none,onV_eq,xbuiltin,xlen,xload,loadA,xstore,spl,xfield,xindexAddr,xindex,xslice,bnd,xbin,xint,xshift,xstr,xeq,xun,xconv,xmake,xappend,xsrc,xbuildSlice,fillA,xminmax,gval,isK,mapM_nil_o,mapM_cons_o,AV.cells,AV.boxable,AV.one,TI.agg,resA,retA,zrow_one,eq_self,List.map,List.map_cons,List.map_nil,Option.map_some,Option.map_none,Option.bind_some,Option.bind_none,↓reduceIte,Nat.reduceLT,Nat.reduceEqDiff,Nat.reduceAdd,Nat.reduceMul,Nat.mul_one,Nat.reduceLeDiff,decide_true,decide_false,true_and,and_true,if_true,if_false,List.toList_toArray,List.size_toArray,beq_self_eq_true,Bool.true_eq_false,Bool.false_eq_true,forall_const,false_implies,implies_true,undef,IntKind.bits,List.drop_zero,List.drop_succ_cons,List.take_succ_cons,List.take_zero,List.length_cons,List.length_nil,List.set_cons_zero,List.set_cons_succ,List.head?_cons,List.all_cons,List.all_nil,List.replicate_succ,List.replicate_zero,Bool.and_true,Bool.and_self,Value.oneCell',Bool.true_and,Bool.or_true,Bool.or_false,Bool.not_true,Bool.not_false,x];refine hK _ _ ?_;clear hK K)
   | (refine aw_skip ?_;try simp (disch:=omega) only [↓core,↓List.getElem?_toArray,↓List.getElem?_cons_succ,↓List.getElem?_cons_zero,↓onO_some,more,xbuild,if_pos,if_neg,onO_some,onO_none,onV_eq,xbuiltin,xlen,xload,loadA,xstore,spl,xfield,xindexAddr,xindex,xslice,bnd,xbin,xint,xshift,xstr,xeq,xun,xconv,xmake,xappend,xsrc,xbuildSlice,fillA,xminmax,gval,isK,mapM_nil_o,mapM_cons_o,AV.cells,AV.boxable,AV.one,TI.agg,resA,retA,zrow_one,eq_self,List.map,List.map_cons,List.map_nil,Option.map_some,Option.map_none,Option.bind_some,Option.bind_none,↓reduceIte,Nat.reduceLT,Nat.reduceEqDiff,Nat.reduceAdd,Nat.reduceMul,Nat.mul_one,Nat.reduceLeDiff,decide_true,decide_false,true_and,and_true,if_true,if_false,List.toList_toArray,List.size_toArray,beq_self_eq_true,Bool.true_eq_false,Bool.false_eq_true,forall_const,false_implies,implies_true,undef,IntKind.bits,List.drop_zero,List.drop_succ_cons,List.take_succ_cons,List.take_zero,List.length_cons,List.length_nil,List.set_cons_zero,List.set_cons_succ,List.head?_cons,List.all_cons,List.all_nil,List.replicate_succ,List.replicate_zero,Bool.and_true,Bool.and_self,Value.oneCell',Bool.true_and,Bool.or_true,Bool.or_false,Bool.not_true,Bool.not_false,x])
   | (refine aw_exit ?_;try simp (disch:=omega) only [↓core,↓List.getElem?_toArray,↓List.getElem?_cons_succ,↓List.getElem?_cons_zero,↓onO_some,more,xbuild,if_pos,if_neg,onO_some,onO_none,onV_eq,xbuiltin,xlen,xload,loadA,xstore,spl,xfield,xindexAddr,xindex,xslice,bnd,xbin,xint,xshift,xstr,xeq,xun,xconv,xmake,xappend,xsrc,xbuildSlice,fillA,xminmax,gval,isK,mapM_nil_o,mapM_cons_o,AV.cells,AV.boxable,AV.one,TI.agg,resA,retA,zrow_one,eq_self,List.map,List.map_cons,List.map_nil,Option.map_some,Option.map_none,Option.bind_some,Option.bind_none,↓reduceIte,Nat.reduceLT,Nat.reduceEqDiff,Nat.reduceAdd,Nat.reduceMul,Nat.mul_one,Nat.reduceLeDiff,decide_true,decide_false,true_and,and_true,if_true,if_false,List.toList_toArray,List.size_toArray,beq_self_eq_true,Bool.true_eq_false,Bool.false_eq_true,forall_const,false_implies,implies_true,undef,IntKind.bits,List.drop_zero,List.drop_succ_cons,List.take_succ_cons,List.take_zero,List.length_cons,List.length_nil,List.set_cons_zero,List.set_cons_succ,List.head?_cons,List.all_cons,List.all_nil,List.replicate_succ,List.replicate_zero,Bool.and_true,Bool.and_self,Value.oneCell',Bool.true_and,Bool.or_true,Bool.or_false,Bool.not_true,Bool.not_false,x])
   | (refine aw_ret ?_;try simp (disch:=omega) only [↓core,↓List.getElem?_toArray,↓List.getElem?_cons_succ,↓List.getElem?_cons_zero,↓onO_some,more,xbuild,if_pos,if_neg,onO_some,onO_none,onV_eq,xbuiltin,xlen,xload,loadA,xstore,spl,xfield,xindexAddr,xindex,xslice,bnd,xbin,xint,xshift,xstr,xeq,xun,xconv,xmake,xappend,xsrc,xbuildSlice,fillA,xminmax,gval,isK,mapM_nil_o,mapM_cons_o,AV.cells,AV.boxable,AV.one,TI.agg,resA,retA,zrow_one,eq_self,List.map,List.map_cons,List.map_nil,Option.map_some,Option.map_none,Option.bind_some,Option.bind_none,↓reduceIte,Nat.reduceLT,Nat.reduceEqDiff,Nat.reduceAdd,Nat.reduceMul,Nat.mul_one,Nat.reduceLeDiff,decide_true,decide_false,true_and,and_true,if_true,if_false,List.toList_toArray,List.size_toArray,beq_self_eq_true,Bool.true_eq_false,Bool.false_eq_true,forall_const,false_implies,implies_true,undef,IntKind.bits,List.drop_zero,List.drop_succ_cons,List.take_succ_cons,List.take_zero,List.length_cons,List.length_nil,List.set_cons_zero,List.set_cons_succ,List.head?_cons,List.all_cons,List.all_nil,List.replicate_succ,List.replicate_zero,Bool.and_true,Bool.and_self,Value.oneCell',Bool.true_and,Bool.or_true,Bool.or_false,Bool.not_true,Bool.not_false,x]))
  first | done | fail):A:=h x
theorem ifs {A p q B C:Prop} (h1:p→B) (h2:q→C) (h:(p→B)→(q→C)→A:=by
  intro h1 h2
  (try rw[then_normal])
  (try refine aw_seq ?_)
  refine aw_cond rfl (fun hb=>?_) (fun hb=>?_)
  ·first | (simp only[bq] at hb;exact h1 hb) | exact h1 hb
  ·first | (simp only[bq] at hb;exact h2 hb) | exact h2 hb):A:=h h1 h2
theorem nope {p A:Prop} (h:p→A:=by
  intro hb
  first | (cases hb;done) | (simp only[bq] at hb;done) | (exfalso;omega) | exact absurd rfl hb | exact absurd hb (by decide) | fail):p→A:=h
theorem fi {A B : Prop} (hB : B) (h : B → A := by
  intro hB
  refine ifs ?_ ?_ <;> first | exact nope | (intro hb; exact hB)) : A := h hB
theorem shz {A:Prop} (h:A:=by first | omega | (refine congrArg some ?_;rfl) | rfl | (refine congrArg (fun z:Int=>AV.v (.int .i64 z)) ?_;omega)):A:=h
theorem fnz {X A:Prop} (x:X) (h:X→A:=by
  intro x
  first
   | (intro i hi;simp (disch:=omega) only [↓core,↓List.getElem?_toArray,↓List.getElem?_cons_succ,↓List.getElem?_cons_zero,↓onO_some,more,xbuild,if_pos,if_neg,onO_some,onO_none,onV_eq,xbuiltin,xlen,xload,loadA,xstore,spl,xfield,xindexAddr,xindex,xslice,bnd,xbin,xint,xshift,xstr,xeq,xun,xconv,xmake,xappend,xsrc,xbuildSlice,fillA,xminmax,gval,isK,mapM_nil_o,mapM_cons_o,AV.cells,AV.boxable,AV.one,TI.agg,resA,retA,zrow_one,eq_self,List.map,List.map_cons,List.map_nil,Option.map_some,Option.map_none,Option.bind_some,Option.bind_none,↓reduceIte,Nat.reduceLT,Nat.reduceEqDiff,Nat.reduceAdd,Nat.reduceMul,Nat.mul_one,Nat.reduceLeDiff,decide_true,decide_false,true_and,and_true,if_true,if_false,List.toList_toArray,List.size_toArray,beq_self_eq_true,Bool.true_eq_false,Bool.false_eq_true,forall_const,false_implies,implies_true,undef,IntKind.bits,List.drop_zero,List.drop_succ_cons,List.take_succ_cons,List.take_zero,List.length_cons,List.length_nil,List.set_cons_zero,List.set_cons_succ,List.head?_cons,List.all_cons,List.all_nil,List.replicate_succ,List.replicate_zero,Bool.and_true,Bool.and_self,Value.oneCell',Bool.true_and,Bool.or_true,Bool.or_false,Bool.not_true,Bool.not_false,x];first | done | fail)
   | (simp (disch:=omega) only [↓core,↓List.getElem?_toArray,↓List.getElem?_cons_succ,↓List.getElem?_cons_zero,↓onO_some,more,xbuild,if_pos,if_neg,onO_some,onO_none,onV_eq,xbuiltin,xlen,xload,loadA,xstore,spl,xfield,xindexAddr,xindex,xslice,bnd,xbin,xint,xshift,xstr,xeq,xun,xconv,xmake,xappend,xsrc,xbuildSlice,fillA,xminmax,gval,isK,mapM_nil_o,mapM_cons_o,AV.cells,AV.boxable,AV.one,TI.agg,resA,retA,zrow_one,eq_self,List.map,List.map_cons,List.map_nil,Option.map_some,Option.map_none,Option.bind_some,Option.bind_none,↓reduceIte,Nat.reduceLT,Nat.reduceEqDiff,Nat.reduceAdd,Nat.reduceMul,Nat.mul_one,Nat.reduceLeDiff,decide_true,decide_false,true_and,and_true,if_true,if_false,List.toList_toArray,List.size_toArray,beq_self_eq_true,Bool.true_eq_false,Bool.false_eq_true,forall_const,false_implies,implies_true,undef,IntKind.bits,List.drop_zero,List.drop_succ_cons,List.take_succ_cons,List.take_zero,List.length_cons,List.length_nil,List.set_cons_zero,List.set_cons_succ,List.head?_cons,List.all_cons,List.all_nil,List.replicate_succ,List.replicate_zero,Bool.and_true,Bool.and_self,Value.oneCell',Bool.true_and,Bool.or_true,Bool.or_false,Bool.not_true,Bool.not_false,x];first | done | fail)):A:=h x
end Ax
namespace Ti
open Go Ax
theorem ti2:tiOf Go.Proofs.Tryz.prog 2=some ⟨.int .i64,1,8,[.int .i64 0]⟩:=by kernel_rfl
theorem ti3:tiOf Go.Proofs.Tryz.prog 3=some ⟨.int .i64,1,8,[.int .i64 0]⟩:=by kernel_rfl
theorem ti4:tiOf Go.Proofs.Tryz.prog 4=some ⟨.bool,1,1,[.bool false]⟩:=by kernel_rfl
theorem ti5:tiOf Go.Proofs.Tryz.prog 5=some ⟨.int .u8,1,1,[.int .u8 0]⟩:=by kernel_rfl
theorem ti9:tiOf Go.Proofs.Tryz.prog 9=some ⟨.str,1,16,[.string ⟨#[]⟩]⟩:=by kernel_rfl
theorem ti23:tiOf Go.Proofs.Tryz.prog 23=some ⟨.st [(0,2),(1,3)],2,16,[.int .i64 0,.int .i64 0]⟩:=by kernel_rfl
theorem ti24:tiOf Go.Proofs.Tryz.prog 24=some ⟨.sl 68,1,24,[.slice none 0 0]⟩:=by kernel_rfl
theorem ti25:tiOf Go.Proofs.Tryz.prog 25=some ⟨.sl 51,1,24,[.slice none 0 0]⟩:=by kernel_rfl
theorem ti26:tiOf Go.Proofs.Tryz.prog 26=some ⟨.sl 49,1,24,[.slice none 0 0]⟩:=by kernel_rfl
theorem ti28:tiOf Go.Proofs.Tryz.prog 28=some ⟨.st [(0,23),(2,3),(3,24),(4,25),(5,26)],6,96,[.int .i64 0,.int .i64 0,.int .i64 0,.slice none 0 0,.slice none 0 0,.slice none 0 0]⟩:=by kernel_rfl
theorem ti31:tiOf Go.Proofs.Tryz.prog 31=some ⟨.int .i64,1,8,[.int .i64 0]⟩:=by kernel_rfl
theorem ti43:tiOf Go.Proofs.Tryz.prog 43=some ⟨.sl 9,1,24,[.slice none 0 0]⟩:=by kernel_rfl
theorem ti44:tiOf Go.Proofs.Tryz.prog 44=some ⟨.sl 23,1,24,[.slice none 0 0]⟩:=by kernel_rfl
theorem ti45:tiOf Go.Proofs.Tryz.prog 45=some ⟨.sl 3,1,24,[.slice none 0 0]⟩:=by kernel_rfl
theorem ti47:tiOf Go.Proofs.Tryz.prog 47=some ⟨.st [(0,3),(1,44),(2,45)],3,56,[.int .i64 0,.slice none 0 0,.slice none 0 0]⟩:=by kernel_rfl
theorem ti49:tiOf Go.Proofs.Tryz.prog 49=some ⟨.st [(0,9),(1,43),(2,9),(3,23),(5,47)],8,128,[.string ⟨#[]⟩,.slice none 0 0,.string ⟨#[]⟩,.int .i64 0,.int .i64 0,.int .i64 0,.slice none 0 0,.slice none 0 0]⟩:=by kernel_rfl
theorem ti51:tiOf Go.Proofs.Tryz.prog 51=some ⟨.st [(0,9),(1,43),(2,26)],3,64,[.string ⟨#[]⟩,.slice none 0 0,.slice none 0 0]⟩:=by kernel_rfl
theorem ti52:tiOf Go.Proofs.Tryz.prog 52=some ⟨.pt 55,1,8,[.pointer none]⟩:=by kernel_rfl
theorem ti53:tiOf Go.Proofs.Tryz.prog 53=some ⟨.sl 5,1,24,[.slice none 0 0]⟩:=by kernel_rfl
theorem ti55:tiOf Go.Proofs.Tryz.prog 55=some ⟨.st [(0,52),(1,53)],2,32,[.pointer none,.slice none 0 0]⟩:=by kernel_rfl
theorem ti57:tiOf Go.Proofs.Tryz.prog 57=some ⟨.ifc,1,16,[.nilIface]⟩:=by kernel_rfl
theorem ti61:tiOf Go.Proofs.Tryz.prog 61=some ⟨.fn,1,8,[.nilFunc]⟩:=by kernel_rfl
theorem ti66:tiOf Go.Proofs.Tryz.prog 66=some ⟨.ar 3 9,3,48,[.string ⟨#[]⟩,.string ⟨#[]⟩,.string ⟨#[]⟩]⟩:=by kernel_rfl
theorem ti68:tiOf Go.Proofs.Tryz.prog 68=some ⟨.st [(0,9),(1,5),(2,44),(3,44)],4,72,[.string ⟨#[]⟩,.int .u8 0,.slice none 0 0,.slice none 0 0]⟩:=by kernel_rfl
theorem ti86:tiOf Go.Proofs.Tryz.prog 86=some ⟨.sl 94,1,24,[.slice none 0 0]⟩:=by kernel_rfl
theorem ti89:tiOf Go.Proofs.Tryz.prog 89=some ⟨.pt 92,1,8,[.pointer none]⟩:=by kernel_rfl
theorem ti90:tiOf Go.Proofs.Tryz.prog 90=some ⟨.sl 45,1,24,[.slice none 0 0]⟩:=by kernel_rfl
theorem ti92:tiOf Go.Proofs.Tryz.prog 92=some ⟨.st [(0,28),(6,4),(7,4),(8,4),(9,4),(10,3),(11,45),(12,90)],13,160,[.int .i64 0,.int .i64 0,.int .i64 0,.slice none 0 0,.slice none 0 0,.slice none 0 0,.bool false,.bool false,.bool false,.bool false,.int .i64 0,.slice none 0 0,.slice none 0 0]⟩:=by kernel_rfl
theorem ti94:tiOf Go.Proofs.Tryz.prog 94=some ⟨.st [(0,3),(1,43)],2,32,[.int .i64 0,.slice none 0 0]⟩:=by kernel_rfl
theorem ti111:tiOf Go.Proofs.Tryz.prog 111=some ⟨.pt 5,1,8,[.pointer none]⟩:=by kernel_rfl
theorem ti114:tiOf Go.Proofs.Tryz.prog 114=some ⟨.st [(0,4),(1,45)],2,32,[.bool false,.slice none 0 0]⟩:=by kernel_rfl
theorem ti118:tiOf Go.Proofs.Tryz.prog 118=some ⟨.ar 2 44,2,48,[.slice none 0 0,.slice none 0 0]⟩:=by kernel_rfl
theorem ti120:tiOf Go.Proofs.Tryz.prog 120=some ⟨.sl 26,1,24,[.slice none 0 0]⟩:=by kernel_rfl
theorem ti125:tiOf Go.Proofs.Tryz.prog 125=some ⟨.st [(0,114),(2,114)],4,64,[.bool false,.slice none 0 0,.bool false,.slice none 0 0]⟩:=by kernel_rfl
theorem ti142:tiOf Go.Proofs.Tryz.prog 142=some ⟨.pt 144,1,8,[.pointer none]⟩:=by kernel_rfl
theorem ti144:tiOf Go.Proofs.Tryz.prog 144=some ⟨.st [(0,43),(1,31)],2,32,[.slice none 0 0,.int .i64 0]⟩:=by kernel_rfl
theorem ti150:tiOf Go.Proofs.Tryz.prog 150=some ⟨.int .u64,1,8,[.int .u64 0]⟩:=by kernel_rfl
theorem ti178:tiOf Go.Proofs.Tryz.prog 178=some ⟨.sl 207,1,24,[.slice none 0 0]⟩:=by kernel_rfl
theorem ti180:tiOf Go.Proofs.Tryz.prog 180=some ⟨.st [(0,4),(1,178)],2,32,[.bool false,.slice none 0 0]⟩:=by kernel_rfl
theorem ti182:tiOf Go.Proofs.Tryz.prog 182=some ⟨.st [(0,180),(2,180)],4,64,[.bool false,.slice none 0 0,.bool false,.slice none 0 0]⟩:=by kernel_rfl
theorem ti207:tiOf Go.Proofs.Tryz.prog 207=some ⟨.int .u32,1,4,[.int .u32 0]⟩:=by kernel_rfl
theorem ti210:tiOf Go.Proofs.Tryz.prog 210=some ⟨.int .u64,1,8,[.int .u64 0]⟩:=by kernel_rfl
end Ti
namespace BigM
def val (B:Nat):List Nat→Nat
 | []=>0
 | d::l=>d+B*val B l
def digs (B n:Nat):List Nat:=if h:n=0∨B≤1 then [] else n % B::digs B (n / B)
termination_by n
decreasing_by
 have h1:n≠0:=fun e=>h (.inl e)
 have h2:1<B:=Nat.lt_of_not_le fun e=>h (.inr e)
 exact Nat.div_lt_self (Nat.pos_of_ne_zero h1) h2
theorem digs_zero (B:Nat):digs B 0=[]:=by rw[digs];simp
theorem digs_pos (B n:Nat) (hB:1<B) (hn:0<n):digs B n=n % B::digs B (n / B):=by
 rw[digs]
 rw[dif_neg (by omega)]
theorem val_digs (B:Nat) (hB:1<B) (n:Nat):val B (digs B n)=n:=by
 induction n using Nat.strongRecOn with
 | _ n ih=>
  by_cases h:n=0
  ·subst h
   rw[digs_zero]
   rfl
  ·rw[digs_pos B n hB (by omega),val,ih _ (Nat.div_lt_self (by omega) hB)]
   exact Nat.mod_add_div n B
theorem digs_lt (B:Nat) (hB:1<B) (n:Nat):∀ d∈digs B n,d<B:=by
 induction n using Nat.strongRecOn with
 | _ n ih=>
  intro d hd
  by_cases h:n=0
  ·subst h
   rw[digs_zero] at hd
   simp at hd
  ·rw[digs_pos B n hB (by omega)] at hd
   rcases List.mem_cons.1 hd with rfl | hd
   ·exact Nat.mod_lt _ (by omega)
   ·exact ih _ (Nat.div_lt_self (by omega) hB) d hd
theorem val_append (B:Nat):∀ (a b:List Nat),val B (a++b)=val B a+B ^ a.length*val B b
 | [],b=>by simp [val]
 | d::a,b=>by
  rw[List.cons_append,val,val_append B a b,val,List.length_cons,Nat.pow_succ,Nat.mul_add]
  have:B*(B ^ a.length*val B b)=B ^ a.length*B*val B b:=by rw[←Nat.mul_assoc,Nat.mul_comm B]
  omega
theorem val_snoc (B:Nat) (a:List Nat) (d:Nat):val B (a++[d])=val B a+B ^ a.length*d:=by
 rw[val_append]
 simp [val]
theorem val_lt (B:Nat) (hB:0<B):∀ (l:List Nat),(∀ d∈l,d<B)→val B l<B ^ l.length
 | [],_=>by simp [val]
 | d::l,h=>by
  have h1:=h d (by simp)
  have h2:=val_lt B hB l (fun e he=>h e (List.mem_cons_of_mem _ he))
  rw[val,List.length_cons,Nat.pow_succ]
  have h3:B*(val B l+1)≤B*B ^ l.length:=Nat.mul_le_mul_left _ h2
  rw[Nat.mul_add] at h3
  rw[Nat.mul_comm (B ^ l.length)]
  omega
def trimZ:List Nat→List Nat
 | []=>[]
 | d::l=>if trimZ l=[]∧d=0 then [] else d::trimZ l
theorem val_trimZ (B:Nat):∀ l,val B (trimZ l)=val B l
 | []=>rfl
 | d::l=>by
  have ih:=val_trimZ B l
  rw[trimZ]
  split
  ·rename_i h
   have e:val B (d::l)=d+B*val B l:=rfl
   rw[h.1] at ih
   rw[e,←ih,h.2]
   simp [val]
  ·rw[val,val,ih]
theorem trimZ_nil_val (B:Nat) (hB:0<B):∀ l,val B l=0→trimZ l=[]
 | [],_=>rfl
 | d::l,h=>by
  rw[val] at h
  have h1:d=0:=by omega
  have h2:B*val B l=0:=by omega
  have h3:val B l=0:=by
   rcases Nat.mul_eq_zero.1 h2 with h | h
   ·omega
   ·exact h
  rw[trimZ,if_pos ⟨trimZ_nil_val B hB l h3,h1⟩]
theorem digs_val (B:Nat) (hB:1<B):∀ l,(∀ d∈l,d<B)→digs B (val B l)=trimZ l
 | [],_=>by rw[val,digs_zero];rfl
 | d::l,h=>by
  have h1:=h d (by simp)
  have ih:=digs_val B hB l (fun e he=>h e (List.mem_cons_of_mem _ he))
  by_cases h0:val B (d::l)=0
  ·rw[h0,digs_zero,trimZ_nil_val B (by omega) _ h0]
  ·rw[digs_pos B _ hB (by omega),val]
   have e1:(d+B*val B l) % B=d:=by rw[Nat.add_mul_mod_self_left];exact Nat.mod_eq_of_lt h1
   have e2:(d+B*val B l) / B=val B l:=by rw[Nat.add_mul_div_left _ _ (by omega),Nat.div_eq_of_lt h1,Nat.zero_add]
   rw[e1,e2,ih,trimZ,if_neg]
   rintro ⟨h2,rfl⟩
   apply h0
   have h5:val B l=0:=by
    have h6:=val_trimZ B l
    rw[h2] at h6
    exact h6.symm
   rw[val,h5,Nat.mul_zero]
theorem digs_trim (B:Nat) (hB:1<B) (n:Nat):trimZ (digs B n)=digs B n:=by
 have:=digs_val B hB (digs B n) (digs_lt B hB n)
 rw[val_digs B hB] at this
 exact this.symm
theorem digs_nil (B:Nat) (hB:1<B) (n:Nat):digs B n=[]↔n=0:=by
 constructor
 ·intro h
  have:=val_digs B hB n
  rw[h] at this
  exact this.symm
 ·rintro rfl
  exact digs_zero B
theorem digs_length_le (B:Nat) (hB:1<B) (k:Nat):∀ n,(digs B n).length≤k↔n<B ^ k:=by
 induction k with
 | zero=>
  intro n
  rw[Nat.pow_zero,Nat.le_zero,List.length_eq_zero_iff,digs_nil B hB]
  omega
 | succ k ih=>
  intro n
  by_cases h:n=0
  ·subst h
   rw[digs_zero]
   have:0<B ^ (k+1):=Nat.pow_pos (by omega)
   simp
   exact this
  ·rw[digs_pos B n hB (by omega),List.length_cons,Nat.add_le_add_iff_right,ih,Nat.div_lt_iff_lt_mul (by omega),Nat.pow_succ]
theorem digs_pow_le (B:Nat) (hB:1<B) (n:Nat) (hn:0<n):B ^ ((digs B n).length-1)≤n:=by
 apply Nat.le_of_not_lt
 intro h
 have h1:=(digs_length_le B hB _ n).2 h
 have h2:(digs B n).length≠0:=by
  rw[ne_eq,List.length_eq_zero_iff,digs_nil B hB]
  omega
 omega
theorem getD_lt (B:Nat) (hB:0<B) (l:List Nat) (h:∀ d∈l,d<B) (k:Nat):l.getD k 0<B:=by
 rcases Nat.lt_or_ge k l.length with hk | hk
 ·rw[show l.getD k 0=l[k] by simp [List.getD,List.getElem?_eq_getElem hk]]
  exact h _ (List.getElem_mem hk)
 ·rw[show l.getD k 0=0 by simp [List.getD,List.getElem?_eq_none hk]]
  exact hB
theorem val_take_snoc (B:Nat) (l:List Nat) (k:Nat) (h:k<l.length):val B (l.take (k+1))=val B (l.take k)+B ^ k*l.getD k 0:=by
 have e1:l.take (k+1)=l.take k++[l[k]]:=List.take_succ_eq_append_getElem h
 rw[e1,val_snoc,List.length_take,Nat.min_eq_left (by omega)]
 simp [List.getD,List.getElem?_eq_getElem h]
theorem val_replicate (B n:Nat):val B (List.replicate n 0)=0:=by
 induction n with
 | zero=>rfl
 | succ n ih=>rw[List.replicate_succ,val,ih];omega
end BigM
namespace BigN
open BigM
section
variable {b:Nat}
theorem len_lt (hb:1<b) {x y:Nat} (h:(digs b x).length<(digs b y).length):x<y:=by
 have h1:=(digs_length_le b hb (digs b x).length x).1 (Nat.le_refl _)
 have h2:¬y<b ^ (digs b x).length:=fun h3=>by
  have:=(digs_length_le b hb (digs b x).length y).2 h3
  omega
 omega
theorem val_split (l:List Nat) (n:Nat) (h:n≤l.length):val b l=val b (l.take n)+b ^ n*val b (l.drop n):=by
 have:=val_append b (l.take n) (l.drop n)
 rw[List.take_append_drop,List.length_take,Nat.min_eq_left h] at this
 exact this
theorem getD_out (l:List Nat) (k:Nat) (h:¬k<l.length):l.getD k 0=0:=by rw[List.getD_eq_getElem?_getD,List.getElem?_eq_none (by omega)];rfl
theorem drop_pred (xs:List Nat) (n:Nat) (hn:0<n) (h:n≤xs.length):xs.drop (n-1)=xs.getD (n-1) 0::xs.drop n:=by
 have h1:n-1<xs.length:=by omega
 rw[List.drop_eq_getElem_cons h1,List.getD_eq_getElem?_getD,List.getElem?_eq_getElem h1,show n-1+1=n by omega]
 rfl
theorem tk_snoc (l:List Nat) (k:Nat):val b (l.take (k+1))=val b (l.take k)+b ^ k*l.getD k 0:=by
 by_cases hk:k<l.length
 ·exact val_take_snoc b l k hk
 ·rw[List.take_of_length_le (by omega),List.take_of_length_le (by omega),List.getD_eq_getElem?_getD,List.getElem?_eq_none (by omega)]
  simp
theorem digit_lt (hb:1<b) (xs ys:List Nat) (n:Nat) (hn:0<n) (hx:n≤xs.length) (hy:n≤ys.length) (hd:∀ d∈xs,d<b) (h:xs.drop n=ys.drop n) (hlt:xs.getD (n-1) 0<ys.getD (n-1) 0):val b xs<val b ys:=by
 rw[val_split xs n hx,val_split ys n hy,h]
 have t1:=val_lt b (by omega) (xs.take (n-1)) (fun d hm=>hd d (List.mem_of_mem_take hm))
 have e1:=val_take_snoc b xs (n-1) (by omega)
 have e2:=val_take_snoc b ys (n-1) (by omega)
 rw[show n-1+1=n by omega] at e1 e2
 rw[List.length_take,Nat.min_eq_left (by omega)] at t1
 rw[e1,e2]
 have:b ^ (n-1)*(xs.getD (n-1) 0+1)≤b ^ (n-1)*ys.getD (n-1) 0:=Nat.mul_le_mul_left _ hlt
 rw[Nat.mul_add,Nat.mul_one] at this
 omega
theorem val_set:∀ (ds:List Nat) (k v:Nat),k<ds.length→val b (ds.set k v)+b ^ k*ds.getD k 0=val b ds+b ^ k*v
 | [],_,_,h=>by simp at h
 | d::l,0,v,_=>by
  rw[List.set_cons_zero,val,val,Nat.pow_zero,List.getD_cons_zero]
  omega
 | d::l,k+1,v,h=>by
  have ih:=val_set l k v (by simpa using h)
  rw[List.set_cons_succ,val,val,List.getD_cons_succ,Nat.pow_succ]
  have e1:b*(val b (l.set k v)+b ^ k*l.getD k 0)=b*(val b l+b ^ k*v):=by rw[ih]
  rw[Nat.mul_add,Nat.mul_add,←Nat.mul_assoc,←Nat.mul_assoc,Nat.mul_comm b (b ^ k)] at e1
  omega
theorem getD_set (ds:List Nat) (k v j:Nat) (h:k<ds.length):(ds.set k v).getD j 0=if j=k then v else ds.getD j 0:=by
 rw[List.getD_eq_getElem?_getD,List.getD_eq_getElem?_getD,List.getElem?_set]
 by_cases e:j=k
 ·subst e;simp [h]
 ·rw[if_neg (fun q=>e q.symm),if_neg e]
theorem set_lt (ds:List Nat) (k v:Nat) (h:∀ d∈ds,d<b) (hv:v<b):∀ d∈ds.set k v,d<b:=by
 intro d hd
 rcases List.mem_or_eq_of_mem_set hd with q | q
 ·exact h d q
 ·rw[q];exact hv
theorem getD_take (l:List Nat) (k i:Nat) (h:i<k):(l.take k).getD i 0=l.getD i 0:=by
 rw[List.getD_eq_getElem?_getD,List.getD_eq_getElem?_getD,List.getElem?_take_of_lt h]
def padd (b:Nat):Nat→Nat→List Nat
 | 0,_=>[]
 | n+1,v=>v % b::padd b n (v / b)
theorem padd_len (n:Nat):∀ v,(padd b n v).length=n:=by
 induction n with
 | zero=>intro v;rfl
 | succ n ih=>intro v;rw[padd,List.length_cons,ih]
theorem padd_lt (hb:0<b) (n:Nat):∀ v,∀ d∈padd b n v,d<b:=by
 induction n with
 | zero=>intro v d hd;simp [padd] at hd
 | succ n ih=>
  intro v d hd
  rw[padd] at hd
  rcases List.mem_cons.1 hd with h | h
  ·rw[h];exact Nat.mod_lt _ hb
  ·exact ih _ d h
theorem padd_val (hb:0<b):∀ (l:List Nat),(∀ d∈l,d<b)→padd b l.length (val b l)=l
 | [],_=>rfl
 | d::l,h=>by
  have h1:=h d (by simp)
  rw[List.length_cons,padd,val,Nat.add_mul_mod_self_left,Nat.mod_eq_of_lt h1,Nat.add_mul_div_left _ _ hb,Nat.div_eq_of_lt h1,Nat.zero_add,padd_val hb l (fun e he=>h e (List.mem_cons_of_mem _ he))]
theorem val_padd (hb:0<b) (n:Nat):∀ v,v<b ^ n→val b (padd b n v)=v:=by
 induction n with
 | zero=>intro v hv;rw[Nat.pow_zero] at hv;rw[padd,val];omega
 | succ n ih=>
  intro v hv
  rw[padd,val,ih _ (by rw[Nat.div_lt_iff_lt_mul hb,←Nat.pow_succ];exact hv)]
  exact Nat.mod_add_div v b
theorem padd_eq (hb:0<b) (l:List Nat) (h:∀ d∈l,d<b) (n v:Nat) (hn:l.length=n) (hv:val b l=v):l=padd b n v:=by
 rw[←hn,←hv,padd_val hb l h]
theorem padd_trim (hb:1<b) (n v:Nat) (h:v<b ^ n):trimZ (padd b n v)=digs b v:=by
 rw[←digs_val b hb _ (padd_lt (by omega) n v),val_padd (by omega) n v h]
theorem plus_step (xs ys:List Nat) (s k cr:Nat) (h:s+b ^ k*cr=val b (xs.take k)+val b (ys.take k)) (z:Nat) (hz:z=cr+xs.getD k 0+ys.getD k 0) :
  s+b ^ k*(z % b)+b ^ (k+1)*(z / b)=val b (xs.take (k+1))+val b (ys.take (k+1)):=by
 rw[tk_snoc,tk_snoc,Nat.pow_succ]
 have e1:z=z % b+b*(z / b):=(Nat.mod_add_div z b).symm
 have e2:b ^ k*z=b ^ k*(z % b)+b ^ k*b*(z / b):=by
  conv=>lhs;rw[e1]
  rw[Nat.mul_add,←Nat.mul_assoc]
 have e3:b ^ k*z=b ^ k*cr+b ^ k*xs.getD k 0+b ^ k*ys.getD k 0:=by
  rw[hz,Nat.mul_add,Nat.mul_add]
 omega
theorem divide_step (x y V:Nat) (hy:0<y):(x+b*V) / y=(x+b*(V % y)) / y+b*(V / y)∧(x+b*V) % y=(x+b*(V % y)) % y:=by
 have e:x+b*V=x+b*(V % y)+y*(b*(V / y)):=by
  conv=>lhs;rw[←Nat.mod_add_div V y]
  rw[Nat.mul_add,←Nat.mul_assoc,←Nat.mul_assoc,Nat.mul_comm b y,Nat.add_assoc]
 rw[e,Nat.add_mul_div_left _ _ hy,Nat.add_mul_mod_self_left]
 exact⟨rfl,rfl⟩
theorem divide_lt (x y r:Nat) (hx:x<b) (hr:r<y):x+b*r<y*b:=by
 have:b*(r+1)≤b*y:=Nat.mul_le_mul_left _ hr
 rw[Nat.mul_add] at this
 rw[Nat.mul_comm y]
 omega
end
end BigN
namespace BigA
open Go Go.RowKit Ax Ti BigM BigN
theorem rTI:type_of% (J5 @ti178 @ti207 @ti150 @ti3 @ti4):=cj @ti178 (J4 @ti207 @ti150 @ti3 @ti4)
def W:Nat:=4294967296
theorem hW:1<W:=by decide
def WL (l:List Nat):List AV:=l.map fun x:Nat=>.v (.int .u32 (x:Int))
def WN (l:List Nat):AV:=.sl l.length (WL l)
theorem WL_len (l:List Nat):(WL l).length=l.length:=List.length_map _
theorem WL_take (ds:List Nat) (k:Nat) (h:ds.length=k):(WL ds).take k=WL ds:=List.take_of_length_le (by rw[WL_len];omega)
theorem WL_tk (ds:List Nat) (k:Nat):(WL ds).take k=WL (ds.take k):=by unfold WL;rw[List.map_take]
theorem wl_idf (l:List Nat):idf.idfL (WL l)=true:=by
 rw[idfL_iff]
 intro z hz
 obtain⟨x,_,rfl⟩:=List.mem_map.1 hz
 rfl
theorem wl_one (l:List Nat):(WL l).all AV.one=true:=by
 rw[List.all_eq_true]
 intro z hz
 obtain⟨x,_,rfl⟩:=List.mem_map.1 hz
 rfl
theorem hd_WL (ds:List Nat) (k:Nat) (h:k<ds.length):((WL ds).drop k).head?=some (.v (.int .u32 (ds.getD k 0:Nat))):=hd_nat (fun x:Nat=>AV.v (.int .u32 (x:Int))) ds k h
theorem WL_set (ds:List Nat) (k v:Nat):(WL ds).set k (.v (.int .u32 (v:Int)))=WL (ds.set k v):=by unfold WL;rw[List.map_set]
theorem WL_zero (n:Nat):List.replicate n (AV.v (.int .u32 0))=WL (List.replicate n 0):=by unfold WL;rw[List.map_replicate];rfl
theorem rep_lt (n:Nat):∀ d∈List.replicate n 0,d<W:=fun d hd=>by rw[List.eq_of_mem_replicate hd];decide
theorem trimZ_snoc0:∀ (l:List Nat),trimZ (l++[0])=trimZ l
 | []=>rfl
 | d::l=>by rw[List.cons_append,trimZ,trimZ,trimZ_snoc0 l]
theorem trimZ_snoc (x:Nat) (hx:x≠0):∀ (l:List Nat),trimZ (l++[x])=l++[x]
 | []=>by simp [trimZ,hx]
 | d::l=>by
  rw[List.cons_append,trimZ,trimZ_snoc x hx l]
  simp
theorem take_pred (xs:List Nat) (n:Nat) (hn:0<n) (h:n≤xs.length):xs.take n=xs.take (n-1)++[xs.getD (n-1) 0]:=by
 have h1:n-1<xs.length:=by omega
 have:=List.take_succ_eq_append_getElem h1
 rw[show n-1+1=n by omega] at this
 rw[this,List.getD_eq_getElem?_getD,List.getElem?_eq_getElem h1]
 rfl
theorem trimZ_last (xs:List Nat) (n:Nat) (hn:0<n) (h:n≤xs.length) (h0:xs.getD (n-1) 0=0):trimZ (xs.take (n-1))=trimZ (xs.take n):=by
 rw[take_pred xs n hn h,h0,trimZ_snoc0]
theorem trimZ_stop (xs:List Nat) (n:Nat) (h:n≤xs.length) (h0:n=0∨xs.getD (n-1) 0≠0):trimZ (xs.take n)=xs.take n:=by
 by_cases hn:n=0
 ·subst hn;rfl
 ·rw[take_pred xs n (by omega) h,trimZ_snoc _ (h0.resolve_left hn)]
theorem trim_ax (xs:List Nat) (hl:xs.length≤140737488355328) (dx:∀ d∈xs,d<W):PCall Tryz.prog 158 [WN xs] (WN (trimZ xs)):=by
 refine pcall_of fun s=>?_
 refine acall_of Tryz.func158 rfl rfl (by simp [Tryz.ntmps158]) ?_;rw[Tryz.ntmps158,Tryz.results158]
 unfold WN
 refine go (J3 rTI @wl_idf @wl_one) ?_
 refine aw_loop (fun n e s'=>n≤xs.length∧e.n=21∧e.m 0=WN xs∧e.m 3=.v (.int .i64 n)∧s'=s∧trimZ (xs.take n)=trimZ xs) xs.length ?_ ?_
 ·exact rn0 (J3 @WN.eq_1 @Nat.le_refl rlt)
 ·rintro n e s' ⟨hn,h1,h2,h3,rfl,h4⟩
  unfold WN at h2
  have l1:=WL_len xs
  by_cases hk:0<n
  ·have bx:xs.getD (n-1) 0<4294967296:=getD_lt W (by decide) xs dx _
   by_cases hz:xs.getD (n-1) 0=0
   ·refine go (J8 rTI @wl_idf @wl_one @h1 @h2 @h3 @hd_WL @l1) ?_
    refine ifs ?_ ?_ <;> first | exact nope | intro hb
    refine go (J6 rTI @wl_idf @wl_one @h1 @h2 @h3) ?_
    have h5:=trimZ_last xs n hk hn hz
    simp only[block_normal,loop_normal];refine⟨n-1,by omega,?_⟩;(first | refine rn (J3 @WN.eq_1 @h1 @h2) ?_ | exact rn0 (J3 @WN.eq_1 @h1 @h2))
    exact⟨by omega,by congr 2;omega,by rw[h5,h4]⟩
   ·refine go (J8 rTI @wl_idf @wl_one @h1 @h2 @h3 @hd_WL @l1) ?_
    refine ifs ?_ ?_ <;> first | exact nope | intro hb
    have h5:=trimZ_stop xs n hn (.inr hz)
    rw[h4] at h5
    refine go (J7 rTI @wl_idf @wl_one @h1 @h2 @h3 @l1) ?_
    rw[h5];simp [WL_tk,Nat.min_eq_left hn]
  ·have h5:=trimZ_stop xs n hn (.inl (by omega))
   rw[h4] at h5
   refine go (J7 rTI @wl_idf @wl_one @h1 @h2 @h3 @l1) ?_
   refine ifs ?_ ?_ <;> first | exact nope | intro hb
   refine go (J7 rTI @wl_idf @wl_one @h1 @h2 @h3 @l1) ?_
   rw[h5];simp [WL_tk,Nat.min_eq_left hn]
def cmpN (x y:Nat):Int:=if x<y then -1 else if x=y then 0 else 1
theorem cmpN_lt {x y:Nat} (h:x<y):cmpN x y = -1:=if_pos h
theorem cmpN_gt {x y:Nat} (h:y<x):cmpN x y=1:=by unfold cmpN;rw[if_neg (by omega),if_neg (by omega)]
theorem cmpN_eq {x y:Nat} (h:x=y):cmpN x y=0:=by unfold cmpN;rw[if_neg (by omega),if_pos h]
theorem cmp_ax (x y:Nat) (hx:(digs W x).length≤140737488355328) (hy:(digs W y).length≤140737488355328):PCall Tryz.prog 161 [WN (digs W x),WN (digs W y)] (.v (.int .i64 (cmpN x y))):=by
 refine pcall_of fun s=>?_
 have vx:=val_digs W hW x
 have vy:=val_digs W hW y
 have dx:=digs_lt W hW x
 have dy:=digs_lt W hW y
 have l1:=@len_lt W hW x y
 have l2:=@len_lt W hW y x
 generalize digs W x=xs at *
 generalize digs W y=ys at *
 refine acall_of Tryz.func161 rfl rfl (by simp [Tryz.ntmps161]) ?_;rw[Tryz.ntmps161,Tryz.results161]
 unfold WN
 refine go (J3 rTI @wl_idf @wl_one) ?_
 by_cases hl:xs.length=ys.length
 ·refine rn @hl ?_
  refine ifs ?_ ?_ <;> first | exact nope | intro hb
  refine go (J3 rTI @wl_idf @wl_one) ?_
  refine aw_loop (fun n e s'=>n≤xs.length∧e.n=41∧e.m 0=WN xs∧e.m 1=WN ys∧e.m 5=.v (.int .i64 ((n:Int)-1))∧s'=s∧xs.drop n=ys.drop n) xs.length ?_ ?_
  ·refine rn (cj @WN.eq_1 @Nat.le_refl) ?_
   simp [hl]
  ·rintro n e s' ⟨hn,h1,h2,h3,h4,rfl,h5⟩
   unfold WN at h2 h3
   by_cases hk:0<n
   ·refine go (cj @h1 @h4) ?_
    refine ifs ?_ ?_ <;> first | exact nope | intro hb
    refine go (cj @h1 @h4) ?_
    have r1:xs.getD (n-1) 0<W:=getD_lt W (by decide) xs dx _
    have o1:=hd_WL xs (n-1) (by omega)
    have o2:=hd_WL ys (n-1) (by omega)
    by_cases q1:xs.getD (n-1) 0<ys.getD (n-1) 0
    ·have hv:=digit_lt hW xs ys n hk hn (by omega) dx h5 q1
     rw[vx,vy] at hv
     refine aw_drw (.take 0 (.take 1 (.take 2 (.take 3 (.take 4 (.take 5 (.take 6 (.take 7 (.take 8 (.done)))))))))) [] (by kernel_rfl) (by kernel_rfl) fun K hK=>?_;refine dr (J9 rTI @wl_idf @wl_one @h1 @h2 @h3 @h4 @o1 @o2) ?_;refine hK _ _ ?_;clear hK K
     refine ifs ?_ ?_ <;> first | exact nope | intro hb
     refine go @h1 ?_
     refine aw_drw (.take 0 (.take 1 (.take 2 (.take 3 (.take 4 (.take 5 (.take 6 (.take 7 (.take 8 (.done)))))))))) [] (by kernel_rfl) (by kernel_rfl) fun K hK=>?_;refine dr (J9 rTI @wl_idf @wl_one @h1 @h2 @h3 @h4 @o1 @o2) ?_;refine hK _ _ ?_;clear hK K
     refine ifs ?_ ?_ <;> first | exact nope | intro hb
     refine go @h1 ?_
     rw[cmpN_lt hv]
    ·by_cases q2:ys.getD (n-1) 0<xs.getD (n-1) 0
     ·have hv:=digit_lt hW ys xs n hk (by omega) hn dy h5.symm q2
      rw[vx,vy] at hv
      refine aw_drw (.take 0 (.take 1 (.take 2 (.take 3 (.take 4 (.take 5 (.take 6 (.take 7 (.take 8 (.done)))))))))) [] (by kernel_rfl) (by kernel_rfl) fun K hK=>?_;refine dr (J9 rTI @wl_idf @wl_one @h1 @h2 @h3 @h4 @o1 @o2) ?_;refine hK _ _ ?_;clear hK K
      refine ifs ?_ ?_ <;> first | exact nope | intro hb
      refine go @h1 ?_
      refine aw_drw (.take 0 (.take 1 (.take 2 (.take 3 (.take 4 (.take 5 (.take 6 (.take 7 (.take 8 (.done)))))))))) [] (by kernel_rfl) (by kernel_rfl) fun K hK=>?_;refine dr (J9 rTI @wl_idf @wl_one @h1 @h2 @h3 @h4 @o1 @o2) ?_;refine hK _ _ ?_;clear hK K
      refine ifs ?_ ?_ <;> first | exact nope | intro hb
      refine go @h1 ?_
      rw[cmpN_gt hv]
     ·refine aw_drw (.take 0 (.take 1 (.take 2 (.take 3 (.take 4 (.take 5 (.take 6 (.take 7 (.take 8 (.done)))))))))) [] (by kernel_rfl) (by kernel_rfl) fun K hK=>?_;refine dr (J9 rTI @wl_idf @wl_one @h1 @h2 @h3 @h4 @o1 @o2) ?_;refine hK _ _ ?_;clear hK K
      refine ifs ?_ ?_ <;> first | exact nope | intro hb
      refine go (cj @h1 @h4) ?_
      simp only[block_normal,loop_normal];refine⟨n-1,by omega,?_⟩;(first | refine rn (J4 @WN.eq_1 @h1 @h2 @h3) ?_ | exact rn0 (J4 @WN.eq_1 @h1 @h2 @h3))
      refine⟨by omega,by congr 2;omega,?_⟩
      rw[drop_pred xs n hk hn,drop_pred ys n hk (by omega),h5,show xs.getD (n-1) 0=ys.getD (n-1) 0 by omega]
   ·obtain rfl:n=0:=by omega
    rw[List.drop_zero,List.drop_zero] at h5
    have:x=y:=by rw[←vx,←vy,h5]
    refine go (cj @h1 @h4) ?_
    refine ifs ?_ ?_ <;> first | exact nope | intro hb
    refine go (cj @h1 @h4) ?_
    rw[cmpN_eq this]
 ·refine rn @hl ?_
  refine ifs ?_ ?_ <;> first | exact nope | intro hb
  refine go (J3 rTI @wl_idf @wl_one) ?_
  by_cases q:xs.length<ys.length
  ·refine rn trivial ?_
   refine ifs ?_ ?_ <;> first | exact nope | intro hb
   refine go trivial ?_
   rw[cmpN_lt (l1 q)]
  ·refine rn trivial ?_
   refine ifs ?_ ?_ <;> first | exact nope | intro hb
   refine go trivial ?_
   rw[cmpN_gt (l2 (by omega))]
end BigA
namespace BigK
open BigM BigN
section
variable {b:Nat}
structure Kn (b E top u2 ul v1 v2 vl U V:Nat):Prop where
 hb:1<b
 hU:U=(top*b+u2)*E+ul
 hV:V=(v1*b+v2)*E+vl
 hE:0<E
 hu2:u2<b
 hv2:v2<b
 hul:ul<E
 hvl:vl<E
 hn:b≤2*v1
 hlt:U<b*V
variable {E top u2 ul v1 v2 vl U V:Nat}
theorem Kn.v1pos (h:Kn b E top u2 ul v1 v2 vl U V):0<v1:=by have:=h.hb;have:=h.hn;omega
theorem Kn.vpos (h:Kn b E top u2 ul v1 v2 vl U V):0<V:=by
 have:=h.hlt
 refine Nat.pos_of_ne_zero fun e=>?_
 rw[e] at this
 omega
theorem Kn.ultop (h:Kn b E top u2 ul v1 v2 vl U V):U<(top+1)*b*E:=by
 rw[h.hU]
 have h1:(top*b+u2+1)*E≤(top+1)*b*E:=Nat.mul_le_mul_right _ (by rw[Nat.add_mul];have:=h.hu2;omega)
 rw[Nat.add_mul _ 1] at h1
 have:=h.hul
 omega
theorem Kn.vltop (h:Kn b E top u2 ul v1 v2 vl U V):V<(v1+1)*b*E:=by
 rw[h.hV]
 have h1:(v1*b+v2+1)*E≤(v1+1)*b*E:=Nat.mul_le_mul_right _ (by rw[Nat.add_mul];have:=h.hv2;omega)
 rw[Nat.add_mul _ 1] at h1
 have:=h.hvl
 omega
theorem Kn.top_lt (h:Kn b E top u2 ul v1 v2 vl U V):top<b*(v1+1):=by
 have h1:=h.hlt
 have h2:b*V<b*((v1+1)*b*E):=Nat.mul_lt_mul_of_pos_left h.vltop (by have:=h.hb;omega)
 have h3:top*(b*E)≤U:=by
  rw[h.hU,Nat.add_mul,Nat.mul_assoc]
  omega
 have h4:top*(b*E)<b*(v1+1)*(b*E):=by
  rw[show b*(v1+1)*(b*E)=b*((v1+1)*b*E) by simp only[Nat.mul_assoc]]
  omega
 exact Nat.lt_of_mul_lt_mul_right h4
theorem Kn.q_lt (h:Kn b E top u2 ul v1 v2 vl U V):U / V<b:=by
 rw[Nat.div_lt_iff_lt_mul h.vpos]
 exact h.hlt
theorem Kn.start (h:Kn b E top u2 ul v1 v2 vl U V):U / V≤top / v1∧top / v1≤b+1:=by
 constructor
 ·rw[Nat.le_div_iff_mul_le h.v1pos]
  apply Nat.le_of_lt_succ
  have h1:U / V*V≤U:=Nat.div_mul_le_self U V
  have h2:U / V*(v1*(b*E))≤U / V*V:=Nat.mul_le_mul_left _ (by
   rw[h.hV,Nat.add_mul,Nat.mul_assoc]
   omega)
  have h3:=h.ultop
  have h4:U / V*v1*(b*E)<(top+1)*(b*E):=by
   rw[Nat.mul_assoc,←Nat.mul_assoc (top+1)]
   omega
  exact Nat.lt_of_mul_lt_mul_right h4
 ·apply Nat.le_of_lt_succ
  rw[Nat.div_lt_iff_lt_mul h.v1pos]
  have h1:=h.top_lt
  have h2:=h.hn
  have e1:b*(v1+1)=b*v1+b:=by rw[Nat.mul_add,Nat.mul_one]
  have e2:(b+1+1)*v1=b*v1+2*v1:=by rw[←Nat.add_mul]
  show top<(b+1+1)*v1
  omega
theorem Kn.down (h:Kn b E top u2 ul v1 v2 vl U V) {d rest:Nat} (hd:d*v1+rest=top) (hq:U / V≤d) (ht:b≤d∨rest*b+u2<d*v2):0<d∧U / V≤d-1:=by
 have:U / V<d:=by
  rcases ht with ht | ht
  ·have:=h.q_lt
   omega
  ·rw[Nat.div_lt_iff_lt_mul h.vpos]
   have h1:top*b+u2+1≤d*(v1*b+v2):=by
    rw[←hd,Nat.add_mul,Nat.mul_add,←Nat.mul_assoc]
    omega
   have h2:(top*b+u2+1)*E≤d*(v1*b+v2)*E:=Nat.mul_le_mul_right _ h1
   have h3:d*(v1*b+v2)*E≤d*V:=by
    rw[h.hV,Nat.mul_assoc]
    exact Nat.mul_le_mul_left _ (Nat.le_add_right _ _)
   rw[Nat.add_mul _ 1] at h2
   have:=h.hul
   rw[h.hU]
   omega
 exact⟨Nat.zero_lt_of_lt this,Nat.le_sub_one_of_lt this⟩
theorem Kn.stop (h:Kn b E top u2 ul v1 v2 vl U V) {d rest:Nat} (hd:d*v1+rest=top) (hb:d<b) (ht:d*v2≤rest*b+u2):d≤U / V+1:=by
 by_cases h0:d=0
 ·rw[h0];exact Nat.zero_le _
 ·have:d-1≤U / V:=by
   rw[Nat.le_div_iff_mul_le h.vpos]
   have h1:d*(v1*b+v2)≤top*b+u2:=by
    rw[←hd,Nat.add_mul,Nat.mul_add,←Nat.mul_assoc]
    omega
   have h2:d*(v1*b+v2)*E≤(top*b+u2)*E:=Nat.mul_le_mul_right _ h1
   have h3:d*vl≤b*E:=Nat.mul_le_mul (by omega) (Nat.le_of_lt h.hvl)
   have h4:b*E≤V:=by
    rw[h.hV]
    have:b*E≤(v1*b+v2)*E:=Nat.mul_le_mul_right _ (by
     have:1*b≤v1*b:=Nat.mul_le_mul_right _ h.v1pos
     omega)
    omega
   have h5:d*V=d*(v1*b+v2)*E+d*vl:=by rw[h.hV,Nat.mul_add,←Nat.mul_assoc]
   have h6:(d-1)*V+V=d*V:=by
    have:(d-1+1)*V=d*V:=by rw[Nat.sub_add_cancel (by omega)]
    rw[Nat.add_mul,Nat.one_mul] at this
    exact this
   have h7:=h.hU
   omega
  exact Nat.le_add_of_sub_le this
theorem Kn.over (h:Kn b E top u2 ul v1 v2 vl U V) {d rest:Nat} (hd:d*v1+rest=top) (hr:b≤rest):d<b∧d*v2≤rest*b+u2:=by
 have h1:d<b:=by
  have:=h.top_lt
  rw[Nat.mul_add,Nat.mul_one] at this
  have h2:d*v1<b*v1:=by omega
  exact Nat.lt_of_mul_lt_mul_right h2
 refine⟨h1,?_⟩
 have h2:d*v2≤rest*b:=Nat.mul_le_mul (by omega) (by have:=h.hv2;omega)
 omega
theorem take_step (us vs:List Nat) (s k d c br w y br':Nat) (h:s+d*val b (vs.take k)=val b (us.take k)+b ^ k*(c+br))
  (hy:y=(c+d*vs.getD k 0) % b+br) (hw:w+y=us.getD k 0+b*br') :
  s+b ^ k*w+d*val b (vs.take (k+1))=val b (us.take (k+1))+b ^ (k+1)*((c+d*vs.getD k 0) / b+br'):=by
 rw[tk_snoc,tk_snoc,Nat.pow_succ]
 have e1:=Nat.mod_add_div (c+d*vs.getD k 0) b
 have e2:w+(c+d*vs.getD k 0)+br=us.getD k 0+b*((c+d*vs.getD k 0) / b+br'):=by
  rw[Nat.mul_add]
  omega
 have e3:b ^ k*w+b ^ k*(d*vs.getD k 0)+b ^ k*(c+br)=b ^ k*us.getD k 0+b ^ k*b*((c+d*vs.getD k 0) / b+br'):=by
  rw[Nat.mul_assoc,←Nat.mul_add,←Nat.mul_add,←Nat.mul_add,←e2]
  congr 1
  omega
 have e4:d*(val b (vs.take k)+b ^ k*vs.getD k 0)=d*val b (vs.take k)+b ^ k*(d*vs.getD k 0):=by
  rw[Nat.mul_add,Nat.mul_left_comm]
 omega
theorem take_end {U V X d n:Nat} (hV:0<V) (hX:X<b ^ n) (hU:U<b ^ n) (hq:U / V≤d) (hd:d≤U / V+1) {br:Nat} (hb1:br≤1) (h:X+d*V=U+b ^ n*br) :
  (br=0→d=U / V∧X=U % V)∧(br=1→0<d∧d-1=U / V∧X+V=U % V+b ^ n):=by
 have e1:=Nat.mod_add_div U V
 have e2:=Nat.mod_lt U hV
 have e3:d≤U / V↔d*V≤U:=Nat.le_div_iff_mul_le hV
 generalize U / V=q at *
 generalize U % V=r at *
 constructor
 ·rintro rfl
  rw[Nat.mul_zero] at h
  have h1:d≤q:=e3.2 (by omega)
  obtain rfl:d=q:=by omega
  refine⟨rfl,?_⟩
  rw[Nat.mul_comm V] at e1
  omega
 ·rintro rfl
  rw[Nat.mul_one] at h
  have h1:¬d≤q:=fun q1=>by
   have:=e3.1 q1
   omega
  obtain rfl:d=q+1:=by omega
  refine⟨by omega,by omega,?_⟩
  rw[Nat.add_mul,Nat.one_mul,Nat.mul_comm q] at h
  omega
theorem give_end {V X Y c n r:Nat} (hX:X<b ^ n) (hY:Y<b ^ n) (hr:r<V) (hVn:V≤b ^ n) (h1:X+V=r+b ^ n) (h2:Y+b ^ n*c=X+V):Y=r:=by
 have hc:c=1:=by
  have a1:¬c=0:=by
   rintro rfl
   omega
  have a2:¬2≤c:=fun h=>by
   have:b ^ n*2≤b ^ n*c:=Nat.mul_le_mul_left _ h
   omega
  omega
 subst hc
 omega
theorem shl_step (xs:List Nat) (s k p o:Nat) (h:s+b ^ k*o=val b (xs.take k)*p) :
  s+b ^ k*(o+xs.getD k 0*p % b)+b ^ (k+1)*(xs.getD k 0*p / b)=val b (xs.take (k+1))*p:=by
 rw[tk_snoc,Nat.pow_succ,Nat.add_mul,←h]
 have e1:=Nat.mod_add_div (xs.getD k 0*p) b
 have e2:b ^ k*(xs.getD k 0*p % b)+b ^ k*b*(xs.getD k 0*p / b)=b ^ k*xs.getD k 0*p:=by
  rw[Nat.mul_assoc,←Nat.mul_add,e1,Nat.mul_assoc]
 rw[Nat.mul_add]
 omega
theorem shr_step (xs:List Nat) (s k p pc u0:Nat) (hp:0<p) (hpc:p*pc=b) (h:s*p+u0=val b (xs.take k)+b ^ k*(xs.getD k 0 % p)) :
  (s+b ^ k*(xs.getD k 0 / p+xs.getD (k+1) 0 % p*pc))*p+u0=val b (xs.take (k+1))+b ^ (k+1)*(xs.getD (k+1) 0 % p):=by
 rw[tk_snoc,Nat.pow_succ]
 have e1:=Nat.mod_add_div (xs.getD k 0) p
 have e2:(xs.getD k 0 / p+xs.getD (k+1) 0 % p*pc)*p+xs.getD k 0 % p=xs.getD k 0+b*(xs.getD (k+1) 0 % p):=by
  rw[Nat.add_mul,Nat.mul_assoc,Nat.mul_comm pc,hpc,Nat.mul_comm _ b,Nat.mul_comm _ p]
  omega
 have e3:b ^ k*((xs.getD k 0 / p+xs.getD (k+1) 0 % p*pc)*p)+b ^ k*(xs.getD k 0 % p)=b ^ k*xs.getD k 0+b ^ k*b*(xs.getD (k+1) 0 % p):=by
  rw[←Nat.mul_add,e2,Nat.mul_add,Nat.mul_assoc]
 rw[Nat.add_mul,Nat.mul_assoc]
 omega
theorem or_add (w s x m:Nat) (hx:x<2 ^ s) (hy:m*2 ^ s<2 ^ w) (hsw:s≤w):(BitVec.ofInt w (x:Int) ||| BitVec.ofInt w ((m*2 ^ s:Nat):Int)).toNat=x+m*2 ^ s:=by
 have h1:x<2 ^ w:=Nat.lt_of_lt_of_le hx (Nat.pow_le_pow_right (by decide) hsw)
 rw[BitVec.toNat_or,BitVec.toNat_ofInt,BitVec.toNat_ofInt]
 have e1:((x:Int) % ((2 ^ w:Nat):Int)).toNat=x:=by
  rw[←Int.natCast_emod,Int.toNat_natCast,Nat.mod_eq_of_lt h1]
 have e2:(((m*2 ^ s:Nat):Int) % ((2 ^ w:Nat):Int)).toNat=m*2 ^ s:=by
  rw[←Int.natCast_emod,Int.toNat_natCast,Nat.mod_eq_of_lt hy]
 rw[e1,e2,Nat.or_comm,←Nat.shiftLeft_eq,←Nat.shiftLeft_add_eq_or_of_lt hx,Nat.add_comm]
theorem or_add' (w s x m:Nat) (hx:x<2 ^ s) (hy:m*2 ^ s<2 ^ w) (hsw:s≤w):(BitVec.ofInt w ((m*2 ^ s:Nat):Int) ||| BitVec.ofInt w (x:Int)).toNat=m*2 ^ s+x:=by
 rw[BitVec.or_comm,or_add w s x m hx hy hsw,Nat.add_comm]
theorem or64 (x y:Int) (h1:0≤x) (h2:x % 4294967296=0) (h3:x<18446744073709551616) (h4:0≤y) (h5:y<4294967296):((BitVec.ofInt 64 x ||| BitVec.ofInt 64 y).toNat:Int)=x+y:=by
 obtain⟨n,rfl⟩:=Int.eq_ofNat_of_zero_le h4
 obtain⟨m,hm⟩:=Int.eq_ofNat_of_zero_le (show 0≤x / 4294967296 by omega)
 have e:x=((m*2 ^ 32:Nat):Int):=by omega
 rw[e,or_add' 64 32 n m (by omega) (by omega) (by decide)]
 omega
end
end BigK
namespace BigB
open Go Go.RowKit Ax Ti BigM BigN BigA BigK
theorem rTI:type_of% (J5 @ti178 @ti207 @ti150 @ti3 @ti4):=cj @ti178 (J4 @ti207 @ti150 @ti3 @ti4)
structure Out (s:St) (n:Nat) (ds:List Nat) (s':St):Prop where
 g:s'.get s.nx=some (WL ds)
 len:ds.length=n
 lt:∀ d∈ds,d<W
 nx:s'.nx=s.nx+1
 fr:∀ i,i<s.nx→s'.get i=s.get i
theorem Out.push (s:St) (n:Nat):Out s n (List.replicate n 0) (s.push (List.replicate n (AV.v (.int .u32 0)))):=by
 refine⟨?_,List.length_replicate,rep_lt n,rfl,fun i hi=>St.push_ne _ _ _ (by omega)⟩
 rw[St.push_same,WL_zero]
theorem Out.set {s s':St} {n:Nat} {ds:List Nat} (h:Out s n ds s') (k v:Nat) (hv:v<W):Out s n (ds.set k v) (s'.set s.nx (WL (ds.set k v))):=by
 refine⟨St.set_same _ _ _,by rw[List.length_set];exact h.len,set_lt _ _ _ h.lt hv,h.nx,fun i hi=>?_⟩
 rw[St.set_ne _ _ _ _ (by omega)]
 exact h.fr i hi
theorem set_tk (ds:List Nat) (k v:Nat) (h:k<ds.length):val W ((ds.set k v).take (k+1))=val W (ds.take k)+W ^ k*v:=by
 rw[tk_snoc,getD_set _ _ _ _ h,if_pos rfl,List.take_set_of_le (Nat.le_refl _)]
theorem Out.put {s s':St} {n:Nat} {ds:List Nat} (h:Out s n ds s') (k v:Nat) (hv:v<W) {j:Nat} (hj:j=k) {z:Int} (hz:z=(v:Nat)):Out s n (ds.set k v) (s'.set s.nx ((WL ds).set j (.v (.int .u32 z)))):=by
 subst hj hz
 rw[WL_set]
 exact h.set j v hv
theorem Out.sl {s s':St} {n:Nat} {ds:List Nat} (h:Out s n ds s') (l:List Nat) (hl:ds=l) {c:List AV} (hc:c=WL ds):AV.sl n (c.take n)=.sl l.length (WL l):=by
 subst hl hc
 rw[WL_take _ _ h.len,h.len]
theorem w32 (z:Nat):∀ x:Int,x=z→IntKind.u32.wrap x=((z % W:Nat):Int):=fun x hx=>by
 rw[wrap_u32]
 unfold W
 omega
theorem sh32 (z:Nat):∀ x:Int,x=z→x.fdiv (2 ^ min (Int.toNat 32) 64)=((z / W:Nat):Int):=fun x hx=>by
 have e:(2:Int) ^ min (Int.toNat 32) 64=4294967296:=rfl
 rw[e,Int.fdiv_eq_ediv_of_nonneg _ (by decide)]
 unfold W
 omega
end BigB
namespace BigC
open Go Go.RowKit Ax Ti BigM BigN BigA BigK BigB
theorem rTI:type_of% (J6 @ti178 @ti207 @ti150 @ti210 @ti3 @ti4):=cj @ti178 (J5 @ti207 @ti150 @ti210 @ti3 @ti4)
theorem set_dr (ds:List Nat) (k v:Nat) (h:k<ds.length):(ds.set k v).drop k=v::ds.drop (k+1):=by
 rw[List.drop_eq_getElem_cons (by rw[List.length_set];exact h),List.getElem_set_self,List.drop_set_of_lt (Nat.lt_succ_self k)]
theorem xor64 (x y:Int) (h1:0≤x) (h2:x % 4294967296=0) (h3:x<18446744073709551616) (h4:0≤y) (h5:y<4294967296):xint .or .u64 x y=some (.int .u64 (x+y)):=by
 show some (Value.int IntKind.u64 (IntKind.u64.wrap ((BitVec.ofInt 64 x ||| BitVec.ofInt 64 y).toNat:Int)))=_
 rw[or64 x y h1 h2 h3 h4 h5,wrap_u64,Int.emod_eq_of_lt (by omega) (by omega)]
structure ShortI (xs:List Nat) (d:Nat) (s:St) (k:Nat) (ds:List Nat) (e:Env) (s':St):Prop where
 o:Out s xs.length ds s'
 en:e.n=42
 e0:e.m 0=WN xs
 e1:e.m 1=.v (.int .u32 d)
 e6:e.m 6=.own s.nx 0 xs.length 1
 e7:e.m 7=.v (.int .u64 (val W (xs.drop k) % d:Nat))
 e8:e.m 8=.v (.int .i64 ((k:Int)-1))
 hk:k≤xs.length
 hv:val W (ds.drop k)=val W (xs.drop k) / d
theorem short_ax (xs:List Nat) (d:Nat) (hx:xs.length≤1099511627776) (dx:∀ d∈xs,d<W) (h0:0<d) (hd:d<W) :
  PCall Tryz.prog 215 [WN xs,.v (.int .u32 d)] (.tp [WN (padd W xs.length (val W xs / d)),.v (.int .u32 (val W xs % d:Nat))]):=by
 refine pcall_own (by exact rn0 (cj @WN.eq_1 @wl_idf)) fun s=>?_
 refine acall_of Tryz.func215 rfl rfl (by simp [Tryz.ntmps215]) ?_;rw[Tryz.ntmps215,Tryz.results215]
 unfold WN
 refine go (J3 rTI @wl_idf @wl_one) ?_
 refine aw_loop (fun n e s2=>∃ (ds:List Nat),ShortI xs d s n ds e s2) xs.length ?_ ?_
 ·refine⟨List.replicate xs.length 0,?_⟩
  constructor
  ·exact Out.push s xs.length
  all_goals (try (first | refine rn (cj @WN.eq_1 rld) ?_ | exact rn0 (cj @WN.eq_1 rld)))
  all_goals (first | exact shz | (intro i hi;(first | refine rn @WN.eq_1 ?_ | exact rn0 @WN.eq_1)) | skip)
  all_goals simp [val]
 ·rintro k e s2 ⟨ds,hI⟩
  have h1:=hI.en
  have h2:=hI.e0
  have h3:=hI.e1
  have h4:=hI.e6
  have h5:=hI.e7
  have h6:=hI.e8
  have g1:=hI.o.g
  have g2:=hI.o.nx
  have l1:=WL_len xs
  have l3:=WL_len ds
  have l4:=hI.o.len
  have b1:=hI.hk
  unfold WN at h2
  have hd':d<4294967296:=hd
  by_cases hk:0<k
  ·have p1:xs.getD (k-1) 0<4294967296:=getD_lt W (by decide) xs dx _
   have o1:=hd_WL xs (k-1) (by omega)
   have hr:val W (xs.drop k) % d<d:=Nat.mod_lt _ h0
   have hv:=hI.hv
   have hst:=divide_step (b:=W) (xs.getD (k-1) 0) d (val W (xs.drop k)) h0
   have hlt:=divide_lt (b:=W) (xs.getD (k-1) 0) d _ p1 hr
   have hdr:val W (xs.drop (k-1))=xs.getD (k-1) 0+W*val W (xs.drop k):=by rw[drop_pred xs k hk b1,val]
   rw[←hdr] at hst
   have hnn:=Nat.mod_lt (xs.getD (k-1) 0+W*(val W (xs.drop k) % d)) h0
   generalize val W (xs.drop k) % d=r at *
   obtain⟨z,hz⟩:∃ z,z=xs.getD (k-1) 0+W*r:=⟨_,rfl⟩
   rw[←hz] at hst hlt hnn
   have hz':z=xs.getD (k-1) 0+4294967296*r:=hz
   have hq:z / d<4294967296:=Nat.div_lt_of_lt_mul hlt
   obtain⟨q,hq1⟩:∃ q,q=z / d:=⟨_,rfl⟩
   obtain⟨m,hm1⟩:∃ m,m=z % d:=⟨_,rfl⟩
   rw[←hq1,←hm1] at hst
   rw[←hq1] at hq
   have e1:∀ x:Int,x=(z:Int)→x / (d:Int)=(q:Int):=fun x hx=>by rw[hx,hq1,Int.natCast_ediv]
   have e2:∀ x:Int,x=(z:Int)→x % (d:Int)=(m:Int):=fun x hx=>by rw[hx,hm1,Int.natCast_emod]
   have e0:(2:Int) ^ min (Int.toNat 32) 64=4294967296:=rfl
   have hput:=hI.o.put (k-1) q hq rfl rfl
   have hvv:val W ((ds.set (k-1) q).drop (k-1))=val W (xs.drop (k-1)) / d:=by
    rw[set_dr _ _ _ (by omega),val,show k-1+1=k by omega,hv,hst.1]
   repeat (first | refine aw_seq ?_ | refine aw_block ?_ | (refine aw_reg fun K hK=>?_;simp (disch:=omega) only [↓core,↓List.getElem?_toArray,↓List.getElem?_cons_succ,↓List.getElem?_cons_zero,↓onO_some,more,xbuild,if_pos,if_neg,onO_some,onO_none,onV_eq,xbuiltin,xlen,xload,loadA,xstore,spl,xfield,xindexAddr,xindex,xslice,bnd,xbin,xint,xshift,xstr,xeq,xun,xconv,xmake,xappend,xsrc,xbuildSlice,fillA,xminmax,gval,isK,mapM_nil_o,mapM_cons_o,AV.cells,AV.boxable,AV.one,TI.agg,resA,retA,zrow_one,eq_self,List.map,List.map_cons,List.map_nil,Option.map_some,Option.map_none,Option.bind_some,Option.bind_none,↓reduceIte,Nat.reduceLT,Nat.reduceEqDiff,Nat.reduceAdd,Nat.reduceMul,Nat.mul_one,Nat.reduceLeDiff,decide_true,decide_false,true_and,and_true,if_true,if_false,List.toList_toArray,List.size_toArray,beq_self_eq_true,Bool.true_eq_false,Bool.false_eq_true,forall_const,false_implies,implies_true,undef,IntKind.bits,List.drop_zero,List.drop_succ_cons,List.take_succ_cons,List.take_zero,List.length_cons,List.length_nil,List.set_cons_zero,List.set_cons_succ,List.head?_cons,List.all_cons,List.all_nil,List.replicate_succ,List.replicate_zero,Bool.and_true,Bool.and_self,Value.oneCell',Bool.true_and,Bool.or_true,Bool.or_false,Bool.not_true,Bool.not_false,ti178,ti207,ti150,ti210,ti3,ti4,wl_idf,wl_one,h1,h2,h3,h4,h5,h6,o1,l1,e0,↓xor64];refine hK _ _ ?_;clear hK K) | (refine aw_skip ?_;try simp (disch:=omega) only [↓core,↓List.getElem?_toArray,↓List.getElem?_cons_succ,↓List.getElem?_cons_zero,↓onO_some,more,xbuild,if_pos,if_neg,onO_some,onO_none,onV_eq,xbuiltin,xlen,xload,loadA,xstore,spl,xfield,xindexAddr,xindex,xslice,bnd,xbin,xint,xshift,xstr,xeq,xun,xconv,xmake,xappend,xsrc,xbuildSlice,fillA,xminmax,gval,isK,mapM_nil_o,mapM_cons_o,AV.cells,AV.boxable,AV.one,TI.agg,resA,retA,zrow_one,eq_self,List.map,List.map_cons,List.map_nil,Option.map_some,Option.map_none,Option.bind_some,Option.bind_none,↓reduceIte,Nat.reduceLT,Nat.reduceEqDiff,Nat.reduceAdd,Nat.reduceMul,Nat.mul_one,Nat.reduceLeDiff,decide_true,decide_false,true_and,and_true,if_true,if_false,List.toList_toArray,List.size_toArray,beq_self_eq_true,Bool.true_eq_false,Bool.false_eq_true,forall_const,false_implies,implies_true,undef,IntKind.bits,List.drop_zero,List.drop_succ_cons,List.take_succ_cons,List.take_zero,List.length_cons,List.length_nil,List.set_cons_zero,List.set_cons_succ,List.head?_cons,List.all_cons,List.all_nil,List.replicate_succ,List.replicate_zero,Bool.and_true,Bool.and_self,Value.oneCell',Bool.true_and,Bool.or_true,Bool.or_false,Bool.not_true,Bool.not_false,ti178,ti207,ti150,ti210,ti3,ti4,wl_idf,wl_one,h1,h2,h3,h4,h5,h6,o1,l1,e0,↓xor64]) | (refine aw_exit ?_;try simp (disch:=omega) only [↓core,↓List.getElem?_toArray,↓List.getElem?_cons_succ,↓List.getElem?_cons_zero,↓onO_some,more,xbuild,if_pos,if_neg,onO_some,onO_none,onV_eq,xbuiltin,xlen,xload,loadA,xstore,spl,xfield,xindexAddr,xindex,xslice,bnd,xbin,xint,xshift,xstr,xeq,xun,xconv,xmake,xappend,xsrc,xbuildSlice,fillA,xminmax,gval,isK,mapM_nil_o,mapM_cons_o,AV.cells,AV.boxable,AV.one,TI.agg,resA,retA,zrow_one,eq_self,List.map,List.map_cons,List.map_nil,Option.map_some,Option.map_none,Option.bind_some,Option.bind_none,↓reduceIte,Nat.reduceLT,Nat.reduceEqDiff,Nat.reduceAdd,Nat.reduceMul,Nat.mul_one,Nat.reduceLeDiff,decide_true,decide_false,true_and,and_true,if_true,if_false,List.toList_toArray,List.size_toArray,beq_self_eq_true,Bool.true_eq_false,Bool.false_eq_true,forall_const,false_implies,implies_true,undef,IntKind.bits,List.drop_zero,List.drop_succ_cons,List.take_succ_cons,List.take_zero,List.length_cons,List.length_nil,List.set_cons_zero,List.set_cons_succ,List.head?_cons,List.all_cons,List.all_nil,List.replicate_succ,List.replicate_zero,Bool.and_true,Bool.and_self,Value.oneCell',Bool.true_and,Bool.or_true,Bool.or_false,Bool.not_true,Bool.not_false,ti178,ti207,ti150,ti210,ti3,ti4,wl_idf,wl_one,h1,h2,h3,h4,h5,h6,o1,l1,e0,↓xor64]) | (refine aw_ret ?_;try simp (disch:=omega) only [↓core,↓List.getElem?_toArray,↓List.getElem?_cons_succ,↓List.getElem?_cons_zero,↓onO_some,more,xbuild,if_pos,if_neg,onO_some,onO_none,onV_eq,xbuiltin,xlen,xload,loadA,xstore,spl,xfield,xindexAddr,xindex,xslice,bnd,xbin,xint,xshift,xstr,xeq,xun,xconv,xmake,xappend,xsrc,xbuildSlice,fillA,xminmax,gval,isK,mapM_nil_o,mapM_cons_o,AV.cells,AV.boxable,AV.one,TI.agg,resA,retA,zrow_one,eq_self,List.map,List.map_cons,List.map_nil,Option.map_some,Option.map_none,Option.bind_some,Option.bind_none,↓reduceIte,Nat.reduceLT,Nat.reduceEqDiff,Nat.reduceAdd,Nat.reduceMul,Nat.mul_one,Nat.reduceLeDiff,decide_true,decide_false,true_and,and_true,if_true,if_false,List.toList_toArray,List.size_toArray,beq_self_eq_true,Bool.true_eq_false,Bool.false_eq_true,forall_const,false_implies,implies_true,undef,IntKind.bits,List.drop_zero,List.drop_succ_cons,List.take_succ_cons,List.take_zero,List.length_cons,List.length_nil,List.set_cons_zero,List.set_cons_succ,List.head?_cons,List.all_cons,List.all_nil,List.replicate_succ,List.replicate_zero,Bool.and_true,Bool.and_self,Value.oneCell',Bool.true_and,Bool.or_true,Bool.or_false,Bool.not_true,Bool.not_false,ti178,ti207,ti150,ti210,ti3,ti4,wl_idf,wl_one,h1,h2,h3,h4,h5,h6,o1,l1,e0,↓xor64]))
   refine ifs ?_ ?_ <;> first | exact nope | intro hb
   repeat (first | refine aw_seq ?_ | refine aw_block ?_ | (refine aw_reg fun K hK=>?_;simp (disch:=omega) only [↓core,↓List.getElem?_toArray,↓List.getElem?_cons_succ,↓List.getElem?_cons_zero,↓onO_some,more,xbuild,if_pos,if_neg,onO_some,onO_none,onV_eq,xbuiltin,xlen,xload,loadA,xstore,spl,xfield,xindexAddr,xindex,xslice,bnd,xbin,xint,xshift,xstr,xeq,xun,xconv,xmake,xappend,xsrc,xbuildSlice,fillA,xminmax,gval,isK,mapM_nil_o,mapM_cons_o,AV.cells,AV.boxable,AV.one,TI.agg,resA,retA,zrow_one,eq_self,List.map,List.map_cons,List.map_nil,Option.map_some,Option.map_none,Option.bind_some,Option.bind_none,↓reduceIte,Nat.reduceLT,Nat.reduceEqDiff,Nat.reduceAdd,Nat.reduceMul,Nat.mul_one,Nat.reduceLeDiff,decide_true,decide_false,true_and,and_true,if_true,if_false,List.toList_toArray,List.size_toArray,beq_self_eq_true,Bool.true_eq_false,Bool.false_eq_true,forall_const,false_implies,implies_true,undef,IntKind.bits,List.drop_zero,List.drop_succ_cons,List.take_succ_cons,List.take_zero,List.length_cons,List.length_nil,List.set_cons_zero,List.set_cons_succ,List.head?_cons,List.all_cons,List.all_nil,List.replicate_succ,List.replicate_zero,Bool.and_true,Bool.and_self,Value.oneCell',Bool.true_and,Bool.or_true,Bool.or_false,Bool.not_true,Bool.not_false,ti178,ti207,ti150,ti210,ti3,ti4,wl_idf,wl_one,h1,h2,h3,h4,h5,h6,o1,l1,l3,l4,g1,e0,↓xor64,e1,e2];refine hK _ _ ?_;clear hK K) | (refine aw_skip ?_;try simp (disch:=omega) only [↓core,↓List.getElem?_toArray,↓List.getElem?_cons_succ,↓List.getElem?_cons_zero,↓onO_some,more,xbuild,if_pos,if_neg,onO_some,onO_none,onV_eq,xbuiltin,xlen,xload,loadA,xstore,spl,xfield,xindexAddr,xindex,xslice,bnd,xbin,xint,xshift,xstr,xeq,xun,xconv,xmake,xappend,xsrc,xbuildSlice,fillA,xminmax,gval,isK,mapM_nil_o,mapM_cons_o,AV.cells,AV.boxable,AV.one,TI.agg,resA,retA,zrow_one,eq_self,List.map,List.map_cons,List.map_nil,Option.map_some,Option.map_none,Option.bind_some,Option.bind_none,↓reduceIte,Nat.reduceLT,Nat.reduceEqDiff,Nat.reduceAdd,Nat.reduceMul,Nat.mul_one,Nat.reduceLeDiff,decide_true,decide_false,true_and,and_true,if_true,if_false,List.toList_toArray,List.size_toArray,beq_self_eq_true,Bool.true_eq_false,Bool.false_eq_true,forall_const,false_implies,implies_true,undef,IntKind.bits,List.drop_zero,List.drop_succ_cons,List.take_succ_cons,List.take_zero,List.length_cons,List.length_nil,List.set_cons_zero,List.set_cons_succ,List.head?_cons,List.all_cons,List.all_nil,List.replicate_succ,List.replicate_zero,Bool.and_true,Bool.and_self,Value.oneCell',Bool.true_and,Bool.or_true,Bool.or_false,Bool.not_true,Bool.not_false,ti178,ti207,ti150,ti210,ti3,ti4,wl_idf,wl_one,h1,h2,h3,h4,h5,h6,o1,l1,l3,l4,g1,e0,↓xor64,e1,e2]) | (refine aw_exit ?_;try simp (disch:=omega) only [↓core,↓List.getElem?_toArray,↓List.getElem?_cons_succ,↓List.getElem?_cons_zero,↓onO_some,more,xbuild,if_pos,if_neg,onO_some,onO_none,onV_eq,xbuiltin,xlen,xload,loadA,xstore,spl,xfield,xindexAddr,xindex,xslice,bnd,xbin,xint,xshift,xstr,xeq,xun,xconv,xmake,xappend,xsrc,xbuildSlice,fillA,xminmax,gval,isK,mapM_nil_o,mapM_cons_o,AV.cells,AV.boxable,AV.one,TI.agg,resA,retA,zrow_one,eq_self,List.map,List.map_cons,List.map_nil,Option.map_some,Option.map_none,Option.bind_some,Option.bind_none,↓reduceIte,Nat.reduceLT,Nat.reduceEqDiff,Nat.reduceAdd,Nat.reduceMul,Nat.mul_one,Nat.reduceLeDiff,decide_true,decide_false,true_and,and_true,if_true,if_false,List.toList_toArray,List.size_toArray,beq_self_eq_true,Bool.true_eq_false,Bool.false_eq_true,forall_const,false_implies,implies_true,undef,IntKind.bits,List.drop_zero,List.drop_succ_cons,List.take_succ_cons,List.take_zero,List.length_cons,List.length_nil,List.set_cons_zero,List.set_cons_succ,List.head?_cons,List.all_cons,List.all_nil,List.replicate_succ,List.replicate_zero,Bool.and_true,Bool.and_self,Value.oneCell',Bool.true_and,Bool.or_true,Bool.or_false,Bool.not_true,Bool.not_false,ti178,ti207,ti150,ti210,ti3,ti4,wl_idf,wl_one,h1,h2,h3,h4,h5,h6,o1,l1,l3,l4,g1,e0,↓xor64,e1,e2]) | (refine aw_ret ?_;try simp (disch:=omega) only [↓core,↓List.getElem?_toArray,↓List.getElem?_cons_succ,↓List.getElem?_cons_zero,↓onO_some,more,xbuild,if_pos,if_neg,onO_some,onO_none,onV_eq,xbuiltin,xlen,xload,loadA,xstore,spl,xfield,xindexAddr,xindex,xslice,bnd,xbin,xint,xshift,xstr,xeq,xun,xconv,xmake,xappend,xsrc,xbuildSlice,fillA,xminmax,gval,isK,mapM_nil_o,mapM_cons_o,AV.cells,AV.boxable,AV.one,TI.agg,resA,retA,zrow_one,eq_self,List.map,List.map_cons,List.map_nil,Option.map_some,Option.map_none,Option.bind_some,Option.bind_none,↓reduceIte,Nat.reduceLT,Nat.reduceEqDiff,Nat.reduceAdd,Nat.reduceMul,Nat.mul_one,Nat.reduceLeDiff,decide_true,decide_false,true_and,and_true,if_true,if_false,List.toList_toArray,List.size_toArray,beq_self_eq_true,Bool.true_eq_false,Bool.false_eq_true,forall_const,false_implies,implies_true,undef,IntKind.bits,List.drop_zero,List.drop_succ_cons,List.take_succ_cons,List.take_zero,List.length_cons,List.length_nil,List.set_cons_zero,List.set_cons_succ,List.head?_cons,List.all_cons,List.all_nil,List.replicate_succ,List.replicate_zero,Bool.and_true,Bool.and_self,Value.oneCell',Bool.true_and,Bool.or_true,Bool.or_false,Bool.not_true,Bool.not_false,ti178,ti207,ti150,ti210,ti3,ti4,wl_idf,wl_one,h1,h2,h3,h4,h5,h6,o1,l1,l3,l4,g1,e0,↓xor64,e1,e2]))
   simp only[block_normal,loop_normal]
   refine⟨k-1,by omega,ds.set (k-1) q,?_,?_,?_,?_,?_,?_,?_,by omega,hvv⟩
   all_goals (try (first | refine rn (J10 @WN.eq_1 @h1 @h2 @h3 @h4 @h5 @h6 @e1 @e2 @Nat.zero_add) ?_ | exact rn0 (J10 @WN.eq_1 @h1 @h2 @h3 @h4 @h5 @h6 @e1 @e2 @Nat.zero_add)))
   ·exact hput
   ·rw[hst.2]
   ·congr 2;omega
  ·refine go (J10 rTI @wl_idf @wl_one @h1 @h2 @h3 @h4 @h5 @h6 @l1) ?_
   refine ifs ?_ ?_ <;> first | exact nope | intro hb
   refine go (J13 rTI @wl_idf @wl_one @h1 @h2 @h3 @h4 @h5 @h6 @l1 @l3 @l4 @g1) ?_
   obtain rfl:k=0:=by omega
   have hv:=hI.hv
   rw[List.drop_zero,List.drop_zero] at hv
   have hd2:=padd_eq (by decide) ds hI.o.lt xs.length (val W xs / d) l4 hv
   refine⟨s.nx,_,Nat.le_refl _,g1,?_,fun j hj=>hI.o.fr j hj⟩
   have hm:val W xs % d<d:=Nat.mod_lt _ h0
   rw[List.drop_zero]
   generalize val W xs % d=r at *
   refine rn frw ?_
   rw[hI.o.sl _ hd2 rfl]
structure ShiftI (xs:List Nat) (bits:Nat) (s:St) (n k:Nat) (ds:List Nat) (e:Env) (s':St):Prop where
 o:Out s (xs.length+1) ds s'
 en:e.n=41
 e1:e.m 1=.v (.int .u64 bits)
 e5:e.m 5=.own s.nx 0 (xs.length+1) 1
 e13:e.m 13=WN xs
 e14:e.m 14=.v (.int .i64 xs.length)
 e15:e.m 15=.v (.int .i64 k)
 hn:n=xs.length-k
 hk:k≤xs.length
 ho:ds.getD k 0<2 ^ bits
 hz:∀ j,k<j→ds.getD j 0=0
 hv:val W (ds.take k)+W ^ k*ds.getD k 0=val W (xs.take k)*2 ^ bits
theorem shift_ax (xs:List Nat) (bits:Nat) (hx:xs.length≤1099511627776) (dx:∀ d∈xs,d<W) (hb:bits≤31) (s:St) :
  ACall Tryz.prog 218 [WN xs,.v (.int .u64 bits)] s fun r s'=>r=.own s.nx 0 (xs.length+1) 1∧Out s (xs.length+1) (padd W (xs.length+1) (val W xs*2 ^ bits)) s':=by
 refine acall_of Tryz.func218 rfl rfl (by simp [Tryz.ntmps218]) ?_;rw[Tryz.ntmps218,Tryz.results218]
 unfold WN
 refine go (J3 rTI @wl_idf @wl_one) ?_
 refine aw_loop (fun n e s2=>∃ (k:Nat) (ds:List Nat),ShiftI xs bits s n k ds e s2) xs.length ?_ ?_
 ·refine⟨0,List.replicate (xs.length+1) 0,?_⟩
  have hp:0<2 ^ bits:=Nat.pow_pos (by decide)
  constructor
  ·exact Out.push s (xs.length+1)
  all_goals (try (first | refine rn @WN.eq_1 ?_ | exact rn0 @WN.eq_1))
  all_goals (first | exact shz | (intro i hi;(first | refine rn @WN.eq_1 ?_ | exact rn0 @WN.eq_1)) | skip)
  ·exact hp
  ·intro j hj
   rw[show (0::List.replicate xs.length 0:List Nat)=List.replicate (xs.length+1) 0 from rfl]
   simp [List.getD_eq_getElem?_getD,List.getElem?_replicate]
   try (split <;> rfl)
  ·simp [val]
 ·rintro n e s2 ⟨k,ds,hI⟩
  have h1:=hI.en
  have h2:=hI.e1
  have h3:=hI.e5
  have h4:=hI.e13
  have h5:=hI.e14
  have h6:=hI.e15
  have g1:=hI.o.g
  have g2:=hI.o.nx
  have l1:=WL_len xs
  have l3:=WL_len ds
  have l4:=hI.o.len
  have b1:=hI.hk
  have b3:=hI.hn
  have b4:=hI.ho
  unfold WN at h4
  have hp:0<2 ^ bits:=Nat.pow_pos (by decide)
  have hp1:2 ^ bits≤2 ^ 31:=Nat.pow_le_pow_right (by decide) hb
  have hp2:2 ^ bits*2 ^ (32-bits)=W:=by rw[←Nat.pow_add,show bits+(32-bits)=32 by omega];rfl
  by_cases hk:k<xs.length
  ·have p1:xs.getD k 0<4294967296:=getD_lt W (by decide) xs dx _
   have o1:=hd_WL xs k hk
   have o2:=hd_WL ds k (by omega)
   have hst:=shl_step xs (val W (ds.take k)) k (2 ^ bits) (ds.getD k 0) hI.hv
   obtain⟨t,ht⟩:∃ t,t=xs.getD k 0*2 ^ bits:=⟨_,rfl⟩
   have hor:(t % W)=(xs.getD k 0 % 2 ^ (32-bits))*2 ^ bits:=by rw[ht,←hp2,Nat.mul_comm (2 ^ bits),Nat.mul_mod_mul_right]
   rw[←ht] at hst
   have e1:((xs.getD k 0:Nat):Int)*2 ^ bits=(t:Int):=by rw[ht,Int.natCast_mul,Int.natCast_pow];rfl
   have t1:t<18446744073709551616:=by
    have:xs.getD k 0*2 ^ bits≤4294967295*2 ^ 31:=Nat.mul_le_mul (by omega) hp1
    omega
   have e2:=w32 t
   have e3:=sh32 t
   have u1:t % W<W:=Nat.mod_lt _ (by decide)
   have v1:t / W<2 ^ bits:=by
    rw[Nat.div_lt_iff_lt_mul (by decide),ht,Nat.mul_comm]
    exact Nat.mul_lt_mul_of_pos_left p1 hp
   have hadd:=or_add 32 bits (ds.getD k 0) (xs.getD k 0 % 2 ^ (32-bits)) b4 (by rw[←hor];exact u1) (by omega)
   rw[←hor] at hadd
   have hor2:ds.getD k 0+t % W<W:=by
    have h9:(BitVec.ofInt 32 (ds.getD k 0:Int) ||| BitVec.ofInt 32 ((t % W:Nat):Int)).toNat<2 ^ 32:=BitVec.isLt _
    rw[hadd] at h9
    exact h9
   have hxor:xint .or .u32 ((ds.getD k 0:Nat):Int) ((t % W:Nat):Int)=some (.int .u32 ((ds.getD k 0+t % W:Nat):Int)):=by
    show some (Value.int IntKind.u32 (IntKind.u32.wrap ((BitVec.ofInt 32 ((ds.getD k 0:Nat):Int) ||| BitVec.ofInt 32 ((t % W:Nat):Int)).toNat:Int)))=_
    rw[hadd,wrap_u32]
    unfold W at hor2 ⊢
    congr 2
    omega
   have hput:=(hI.o.put k _ hor2 rfl rfl)
   have hput2:=hput.put (k+1) (t / W) (by unfold W;omega) rfl rfl
   generalize t % W=u at *
   generalize t / W=v at *
   have z1:min bits 64=bits:=by omega
   have z2:((k:Int)+1).toNat=k+1:=by omega
   have z3:(k:Int)+1=((k+1:Nat):Int):=rfl
   have l5:(ds.set k (ds.getD k 0+u)).length=xs.length+1:=by rw[List.length_set];exact l4
   refine go (J15 rTI @wl_idf @wl_one @h1 @h2 @h3 @h4 @h5 @h6 @o1 @l1 @e1 @e2 @e3 @z1) ?_
   refine ifs ?_ ?_ <;> first | exact nope | intro hb
   repeat (first | refine aw_seq ?_ | refine aw_block ?_ | (refine aw_reg fun K hK=>?_;simp (disch:=omega) only [↓core,↓List.getElem?_toArray,↓List.getElem?_cons_succ,↓List.getElem?_cons_zero,↓onO_some,more,xbuild,if_pos,if_neg,onO_some,onO_none,onV_eq,xbuiltin,xlen,xload,loadA,xstore,spl,xfield,xindexAddr,xindex,xslice,bnd,xbin,xint,xshift,xstr,xeq,xun,xconv,xmake,xappend,xsrc,xbuildSlice,fillA,xminmax,gval,isK,mapM_nil_o,mapM_cons_o,AV.cells,AV.boxable,AV.one,TI.agg,resA,retA,zrow_one,eq_self,List.map,List.map_cons,List.map_nil,Option.map_some,Option.map_none,Option.bind_some,Option.bind_none,↓reduceIte,Nat.reduceLT,Nat.reduceEqDiff,Nat.reduceAdd,Nat.reduceMul,Nat.mul_one,Nat.reduceLeDiff,decide_true,decide_false,true_and,and_true,if_true,if_false,List.toList_toArray,List.size_toArray,beq_self_eq_true,Bool.true_eq_false,Bool.false_eq_true,forall_const,false_implies,implies_true,undef,IntKind.bits,List.drop_zero,List.drop_succ_cons,List.take_succ_cons,List.take_zero,List.length_cons,List.length_nil,List.set_cons_zero,List.set_cons_succ,List.head?_cons,List.all_cons,List.all_nil,List.replicate_succ,List.replicate_zero,Bool.and_true,Bool.and_self,Value.oneCell',Bool.true_and,Bool.or_true,Bool.or_false,Bool.not_true,Bool.not_false,ti178,ti207,ti150,ti210,ti3,ti4,wl_idf,wl_one,h1,h2,h3,h4,h5,h6,o1,o2,l1,l3,l4,g1,e1,e2,e3,z1,↓hxor,WL_set,Nat.zero_add,WL_len,l5,z2];refine hK _ _ ?_;clear hK K) | (refine aw_skip ?_;try simp (disch:=omega) only [↓core,↓List.getElem?_toArray,↓List.getElem?_cons_succ,↓List.getElem?_cons_zero,↓onO_some,more,xbuild,if_pos,if_neg,onO_some,onO_none,onV_eq,xbuiltin,xlen,xload,loadA,xstore,spl,xfield,xindexAddr,xindex,xslice,bnd,xbin,xint,xshift,xstr,xeq,xun,xconv,xmake,xappend,xsrc,xbuildSlice,fillA,xminmax,gval,isK,mapM_nil_o,mapM_cons_o,AV.cells,AV.boxable,AV.one,TI.agg,resA,retA,zrow_one,eq_self,List.map,List.map_cons,List.map_nil,Option.map_some,Option.map_none,Option.bind_some,Option.bind_none,↓reduceIte,Nat.reduceLT,Nat.reduceEqDiff,Nat.reduceAdd,Nat.reduceMul,Nat.mul_one,Nat.reduceLeDiff,decide_true,decide_false,true_and,and_true,if_true,if_false,List.toList_toArray,List.size_toArray,beq_self_eq_true,Bool.true_eq_false,Bool.false_eq_true,forall_const,false_implies,implies_true,undef,IntKind.bits,List.drop_zero,List.drop_succ_cons,List.take_succ_cons,List.take_zero,List.length_cons,List.length_nil,List.set_cons_zero,List.set_cons_succ,List.head?_cons,List.all_cons,List.all_nil,List.replicate_succ,List.replicate_zero,Bool.and_true,Bool.and_self,Value.oneCell',Bool.true_and,Bool.or_true,Bool.or_false,Bool.not_true,Bool.not_false,ti178,ti207,ti150,ti210,ti3,ti4,wl_idf,wl_one,h1,h2,h3,h4,h5,h6,o1,o2,l1,l3,l4,g1,e1,e2,e3,z1,↓hxor,WL_set,Nat.zero_add,WL_len,l5,z2]) | (refine aw_exit ?_;try simp (disch:=omega) only [↓core,↓List.getElem?_toArray,↓List.getElem?_cons_succ,↓List.getElem?_cons_zero,↓onO_some,more,xbuild,if_pos,if_neg,onO_some,onO_none,onV_eq,xbuiltin,xlen,xload,loadA,xstore,spl,xfield,xindexAddr,xindex,xslice,bnd,xbin,xint,xshift,xstr,xeq,xun,xconv,xmake,xappend,xsrc,xbuildSlice,fillA,xminmax,gval,isK,mapM_nil_o,mapM_cons_o,AV.cells,AV.boxable,AV.one,TI.agg,resA,retA,zrow_one,eq_self,List.map,List.map_cons,List.map_nil,Option.map_some,Option.map_none,Option.bind_some,Option.bind_none,↓reduceIte,Nat.reduceLT,Nat.reduceEqDiff,Nat.reduceAdd,Nat.reduceMul,Nat.mul_one,Nat.reduceLeDiff,decide_true,decide_false,true_and,and_true,if_true,if_false,List.toList_toArray,List.size_toArray,beq_self_eq_true,Bool.true_eq_false,Bool.false_eq_true,forall_const,false_implies,implies_true,undef,IntKind.bits,List.drop_zero,List.drop_succ_cons,List.take_succ_cons,List.take_zero,List.length_cons,List.length_nil,List.set_cons_zero,List.set_cons_succ,List.head?_cons,List.all_cons,List.all_nil,List.replicate_succ,List.replicate_zero,Bool.and_true,Bool.and_self,Value.oneCell',Bool.true_and,Bool.or_true,Bool.or_false,Bool.not_true,Bool.not_false,ti178,ti207,ti150,ti210,ti3,ti4,wl_idf,wl_one,h1,h2,h3,h4,h5,h6,o1,o2,l1,l3,l4,g1,e1,e2,e3,z1,↓hxor,WL_set,Nat.zero_add,WL_len,l5,z2]) | (refine aw_ret ?_;try simp (disch:=omega) only [↓core,↓List.getElem?_toArray,↓List.getElem?_cons_succ,↓List.getElem?_cons_zero,↓onO_some,more,xbuild,if_pos,if_neg,onO_some,onO_none,onV_eq,xbuiltin,xlen,xload,loadA,xstore,spl,xfield,xindexAddr,xindex,xslice,bnd,xbin,xint,xshift,xstr,xeq,xun,xconv,xmake,xappend,xsrc,xbuildSlice,fillA,xminmax,gval,isK,mapM_nil_o,mapM_cons_o,AV.cells,AV.boxable,AV.one,TI.agg,resA,retA,zrow_one,eq_self,List.map,List.map_cons,List.map_nil,Option.map_some,Option.map_none,Option.bind_some,Option.bind_none,↓reduceIte,Nat.reduceLT,Nat.reduceEqDiff,Nat.reduceAdd,Nat.reduceMul,Nat.mul_one,Nat.reduceLeDiff,decide_true,decide_false,true_and,and_true,if_true,if_false,List.toList_toArray,List.size_toArray,beq_self_eq_true,Bool.true_eq_false,Bool.false_eq_true,forall_const,false_implies,implies_true,undef,IntKind.bits,List.drop_zero,List.drop_succ_cons,List.take_succ_cons,List.take_zero,List.length_cons,List.length_nil,List.set_cons_zero,List.set_cons_succ,List.head?_cons,List.all_cons,List.all_nil,List.replicate_succ,List.replicate_zero,Bool.and_true,Bool.and_self,Value.oneCell',Bool.true_and,Bool.or_true,Bool.or_false,Bool.not_true,Bool.not_false,ti178,ti207,ti150,ti210,ti3,ti4,wl_idf,wl_one,h1,h2,h3,h4,h5,h6,o1,o2,l1,l3,l4,g1,e1,e2,e3,z1,↓hxor,WL_set,Nat.zero_add,WL_len,l5,z2]))
   simp only[block_normal,loop_normal]
   refine⟨xs.length-(k+1),by omega,k+1,(ds.set k (ds.getD k 0+u)).set (k+1) v,?_,?_,?_,?_,?_,?_,?_,rfl,by omega,?_,?_,?_⟩
   all_goals (try (first | refine rn (J11 @WN.eq_1 @h1 @h2 @h3 @h4 @h5 @h6 @e1 @e2 @e3 @Nat.zero_add) ?_ | exact rn0 (J11 @WN.eq_1 @h1 @h2 @h3 @h4 @h5 @h6 @e1 @e2 @e3 @Nat.zero_add)))
   ·simp only[WL_set] at hput2
    exact hput2
   ·rfl
   ·rw[getD_set _ _ _ _ (by omega),if_pos rfl];exact v1
   ·intro j hj
    rw[getD_set _ _ _ _ (by omega),if_neg (by omega),getD_set _ _ _ _ (by omega),if_neg (by omega)]
    exact hI.hz j (by omega)
   ·rw[getD_set _ _ _ _ (by omega),if_pos rfl,List.take_set_of_le (Nat.le_refl _),set_tk _ _ _ (by omega)]
    exact hst
  ·refine go (J10 rTI @wl_idf @wl_one @h1 @h2 @h3 @h4 @h5 @h6 @l1) ?_
   refine ifs ?_ ?_ <;> first | exact nope | intro hb
   refine go (J13 rTI @wl_idf @wl_one @h1 @h2 @h3 @h4 @h5 @h6 @l1 @l3 @l4 @g1) ?_
   obtain rfl:k=xs.length:=by omega
   have hv:=hI.hv
   rw[←tk_snoc,List.take_of_length_le (by omega),List.take_length] at hv
   rw[←padd_eq (by decide) ds hI.o.lt _ _ l4 hv]
   exact hI.o
end BigC
namespace BigD
open Go Go.RowKit Ax Ti BigM BigN BigA BigK BigB BigC
theorem rTI:type_of% (J6 @ti178 @ti207 @ti150 @ti210 @ti3 @ti4):=cj @ti178 (J5 @ti207 @ti150 @ti210 @ti3 @ti4)
def plug (us:List Nat) (j:Nat) (ws:List Nat):List Nat:=us.take j++(ws++us.drop (j+ws.length))
theorem plug_len {us:List Nat} {j:Nat} {ws:List Nat} (h:j+ws.length≤us.length):(plug us j ws).length=us.length:=by
 unfold plug
 simp only[List.length_append,List.length_take,List.length_drop]
 omega
theorem plug_get {us:List Nat} {j:Nat} {ws:List Nat} {N:Nat} (hN:ws.length=N) (h:j+N≤us.length) (k:Nat) (hk:k<N):(plug us j ws).getD (j+k) 0=ws.getD k 0:=by
 subst hN
 have e:(us.take j).length=j:=by rw[List.length_take];omega
 unfold plug
 rw[List.getD_eq_getElem?_getD,List.getElem?_append_right (by omega),e,Nat.add_sub_cancel_left,List.getElem?_append_left hk,←List.getD_eq_getElem?_getD]
theorem plug_set {us:List Nat} {j:Nat} {ws:List Nat} {N:Nat} (hN:ws.length=N) (h:j+N≤us.length) (k v:Nat) (hk:k<N):(plug us j ws).set (j+k) v=plug us j (ws.set k v):=by
 subst hN
 have e:(us.take j).length=j:=by rw[List.length_take];omega
 unfold plug
 rw[List.set_append_right _ _ (by omega),e,Nat.add_sub_cancel_left,List.set_append_left _ _ hk,List.length_set]
theorem plug_self (us:List Nat) (j N:Nat) (h:j+N≤us.length):plug us j ((us.drop j).take N)=us:=by
 unfold plug
 rw[List.length_take,List.length_drop,Nat.min_eq_left (by omega),←List.drop_drop,List.take_append_drop,List.take_append_drop]
theorem xand32 (x:Int) (h1:0≤x) (h2:x<18446744073709551616):xint .and .u64 x 4294967295=some (.int .u64 (x % 4294967296)):=by
 obtain⟨n,rfl⟩:=Int.eq_ofNat_of_zero_le h1
 have e:(BitVec.ofInt 64 (n:Int) &&& BitVec.ofInt 64 4294967295).toNat=n % 4294967296:=by
  rw[BitVec.toNat_and,BitVec.toNat_ofInt,BitVec.toNat_ofInt]
  have e1:((n:Int) % ((2 ^ 64:Nat):Int)).toNat=n:=by omega
  have e2:((4294967295:Int) % ((2 ^ 64:Nat):Int)).toNat=2 ^ 32-1:=by decide
  rw[e1,e2,Nat.and_two_pow_sub_one_eq_mod]
 show some (Value.int IntKind.u64 (IntKind.u64.wrap ((BitVec.ofInt 64 (n:Int) &&& BitVec.ofInt 64 4294967295).toNat:Int)))=_
 rw[e,wrap_u64]
 congr 2
 omega
structure Win (us:List Nat) (id j N:Nat) (s:St) (ws:List Nat) (s':St):Prop where
 g:s'.get id=some (WL (plug us j ws))
 len:ws.length=N
 lt:∀ d∈ws,d<W
 nx:s'.nx=s.nx
 fr:∀ i,i≠id→s'.get i=s.get i
theorem Win.put {us:List Nat} {id j N:Nat} {s s':St} {ws:List Nat} (h:Win us id j N s ws s') (hj:j+N≤us.length) (k v:Nat) (hk:k<N) (hv:v<W) {z:Int} (hz:z=(v:Nat)):Win us id j N s (ws.set k v) (s'.set id ((WL (plug us j ws)).set (j+k) (.v (.int .u32 z)))):=by
 subst hz
 rw[WL_set,plug_set h.len hj _ _ hk]
 refine⟨St.set_same _ _ _,by rw[List.length_set];exact h.len,set_lt _ _ _ h.lt hv,h.nx,fun i hi=>?_⟩
 rw[St.set_ne _ _ _ _ hi]
 exact h.fr i hi
structure TakeI (us:List Nat) (id j N:Nat) (xs vs:List Nat) (d:Nat) (s:St) (n k c br:Nat) (ws:List Nat) (e:Env) (s':St):Prop where
 w:Win us id j N s ws s'
 en:e.n=94
 e0:e.m 0=.own id j N 1
 e1:e.m 1=WN vs
 e2:e.m 2=.v (.int .u64 d)
 e7:e.m 7=.v (.int .u64 c)
 e8:e.m 8=.v (.int .u64 br)
 e14:e.m 14=.v (.int .i64 N)
 e15:e.m 15=.v (.int .i64 k)
 hn:n=N-k
 hk:k≤N
 hc:c<W
 hb:br≤1
 hl:k=N→c=0
 hx:∀ i,k≤i→ws.getD i 0=xs.getD i 0
 hv:val W (ws.take k)+d*val W (vs.take k)=val W (xs.take k)+W ^ k*(c+br)
structure GiveI (us:List Nat) (id j N:Nat) (xs vs:List Nat) (d:Nat) (s:St) (n k c:Nat) (ws:List Nat) (e:Env) (s':St):Prop where
 w:Win us id j N s ws s'
 en:e.n=94
 e0:e.m 0=.own id j N 1
 e1:e.m 1=WN vs
 e2:e.m 2=.v (.int .u64 d)
 e7:e.m 7=.v (.int .u64 c)
 e61:e.m 61=.v (.int .i64 N)
 e62:e.m 62=.v (.int .i64 k)
 hn:n=N-k
 hk:k≤N
 hc:c≤1
 hx:∀ i,k≤i→ws.getD i 0=xs.getD i 0
 hv:val W (ws.take k)+W ^ k*c=val W (xs.take k)+val W (vs.take k)
theorem take_ax (us:List Nat) (id j N:Nat) (vs:List Nat) (d:Nat) (s:St) (hg:s.get id=some (WL us)) (hj:j+N≤us.length) (hus:us.length≤1099511627776) (du:∀ d∈us,d<W) (dv:∀ d∈vs,d<W) (hN:vs.length+1=N)
  (hV:0<val W vs) (hd:d<W) (hq:val W ((us.drop j).take N) / val W vs≤d) (hq2:d≤val W ((us.drop j).take N) / val W vs+1) :
  ACall Tryz.prog 219 [.own id j N 1,WN vs,.v (.int .u64 d)] s fun r s'=>
   r=.v (.int .u32 (val W ((us.drop j).take N) / val W vs:Nat))∧Win us id j N s (padd W N (val W ((us.drop j).take N) % val W vs)) s':=by
 obtain⟨xs,hxs⟩:∃ xs,xs=(us.drop j).take N:=⟨_,rfl⟩
 have hself:=plug_self us j N hj
 have lx:xs.length=N:=by rw[hxs,List.length_take,List.length_drop];omega
 have dx:∀ d∈xs,d<W:=fun d hm=>by rw[hxs] at hm;exact du d (List.mem_of_mem_drop (List.mem_of_mem_take hm))
 rw[←hxs] at hq hq2 hself ⊢
 have hU:=val_lt W (by decide) xs dx
 have hVlt:=val_lt W (by decide) vs dv
 rw[lx] at hU
 have hVN:val W vs≤W ^ N:=by
  rw[←hN,Nat.pow_succ]
  exact Nat.le_trans (Nat.le_of_lt hVlt) (Nat.le_mul_of_pos_right _ (by decide))
 refine acall_of Tryz.func219 rfl rfl (by simp [Tryz.ntmps219]) ?_;rw[Tryz.ntmps219,Tryz.results219]
 unfold WN
 refine go (J3 rTI @wl_idf @wl_one) ?_
 refine aw_loop (fun n e s2=>∃ (k c br:Nat) (ws:List Nat),TakeI us id j N xs vs d s n k c br ws e s2) N ?_ ?_
 ·refine⟨0,0,0,xs,?_⟩
  constructor
  ·exact⟨by rw[hself];exact hg,lx,dx,rfl,fun i hi=>rfl⟩
  all_goals (try (first | refine rn @WN.eq_1 ?_ | exact rn0 @WN.eq_1))
  all_goals (first | exact shz | (intro i hi;(first | refine rn @WN.eq_1 ?_ | exact rn0 @WN.eq_1)) | skip)
  all_goals simp [val]
 ·rintro n e s2 ⟨k,c,br,ws,hI⟩
  have h1:=hI.en
  have h2:=hI.e0
  have h3:=hI.e1
  have h4:=hI.e2
  have h5:=hI.e7
  have h6:=hI.e8
  have h7:=hI.e14
  have h8:=hI.e15
  have g1:=hI.w.g
  have l2:=WL_len vs
  have l3:=WL_len (plug us j ws)
  have l4:=hI.w.len
  have l5:(plug us j ws).length=us.length:=plug_len (by omega)
  have b1:=hI.hk
  have b2:=hI.hb
  have b3:=hI.hn
  have b4:c<4294967296:=hI.hc
  have hd':d<4294967296:=hd
  unfold WN at h3
  have z3:(k:Int)+1=((k+1:Nat):Int):=rfl
  by_cases hk:k<N
  ·have p1:xs.getD k 0<4294967296:=getD_lt W (by decide) xs dx _
   have p2:vs.getD k 0<4294967296:=getD_lt W (by decide) vs dv _
   have o1:=hd_WL (plug us j ws) (j+k) (by omega)
   rw[plug_get l4 hj k hk,hI.hx k (Nat.le_refl _)] at o1
   obtain⟨pr,hpr⟩:∃ pr,pr=d*vs.getD k 0:=⟨_,rfl⟩
   have pr1:pr≤4294967295*4294967295:=by rw[hpr];exact Nat.mul_le_mul (by omega) (by omega)
   have e1:(d:Int)*((vs.getD k 0:Nat):Int)=(pr:Int):=by rw[hpr,Int.natCast_mul]
   obtain⟨br',w,hb1,hb2,hb3,hb4,hb5⟩:∃ br' w:Nat,br'≤1∧w<W∧w+((c+pr) % W+br)=xs.getD k 0+W*br'∧(xs.getD k 0<(c+pr) % W+br→br'=1)∧(¬xs.getD k 0<(c+pr) % W+br→br'=0):=by
    unfold W
    by_cases q:xs.getD k 0<(c+pr) % 4294967296+br
    ·exact⟨1,xs.getD k 0+4294967296-((c+pr) % 4294967296+br),by omega,by omega,by omega,by omega,by omega⟩
    ·exact⟨0,xs.getD k 0-((c+pr) % 4294967296+br),by omega,by omega,by omega,by omega,by omega⟩
   have hst:=take_step (b:=W) xs vs (val W (ws.take k)) k d c br w ((c+pr) % W+br) br' hI.hv (by rw[hpr]) hb3
   rw[←set_tk _ _ _ (by omega),←hpr] at hst
   have e2:∀ x:Int,x=(xs.getD k 0:Int)-(((c+pr) % W:Nat)+(br:Nat))→IntKind.u32.wrap (IntKind.u64.wrap x)=(w:Int):=fun x hx=>by
    rw[wrap_u32,wrap_u64]
    unfold W at hb3 hb2 hx
    omega
   have e3:=sh32 (c+pr)
   have e4:∀ x:Int,x=((c+pr:Nat):Int)→x % 4294967296=(((c+pr) % W:Nat):Int):=fun x hx=>by unfold W;omega
   have hc2:(c+pr) / W<W:=by unfold W;omega
   have hl2:k+1=N→(c+pr) / W=0:=fun hN2=>by
    have:pr=0:=by rw[hpr,getD_out vs k (by omega),Nat.mul_zero]
    unfold W
    omega
   have hx2:∀ i,k+1≤i→(ws.set k w).getD i 0=xs.getD i 0:=fun i hi=>by
    rw[getD_set _ _ _ _ (by omega),if_neg (by omega)]
    exact hI.hx i (by omega)
   have m1:(c+pr) % W<4294967296:=Nat.mod_lt _ (by decide)
   have hs3:c+pr<18446744073709551616:=by omega
   have jk:((j:Int)+(k:Int)).toNat=j+k:=by omega
   refine go (J11 rTI @wl_idf @wl_one @h1 @h2 @h3 @h4 @h5 @h6 @h7 @h8) ?_
   refine ifs ?_ ?_ <;> first | exact nope | intro hb
   refine go (J11 rTI @wl_idf @wl_one @h1 @h2 @h3 @h4 @h5 @h6 @h7 @h8) ?_
   by_cases qk:k<vs.length
   ·have o2:=hd_WL vs k qk
    refine ifs ?_ ?_ <;> first | exact nope | intro hb
    repeat (first | refine aw_seq ?_ | refine aw_block ?_ | (refine aw_reg fun K hK=>?_;simp (disch:=omega) only [↓core,↓List.getElem?_toArray,↓List.getElem?_cons_succ,↓List.getElem?_cons_zero,↓onO_some,more,xbuild,if_pos,if_neg,onO_some,onO_none,onV_eq,xbuiltin,xlen,xload,loadA,xstore,spl,xfield,xindexAddr,xindex,xslice,bnd,xbin,xint,xshift,xstr,xeq,xun,xconv,xmake,xappend,xsrc,xbuildSlice,fillA,xminmax,gval,isK,mapM_nil_o,mapM_cons_o,AV.cells,AV.boxable,AV.one,TI.agg,resA,retA,zrow_one,eq_self,List.map,List.map_cons,List.map_nil,Option.map_some,Option.map_none,Option.bind_some,Option.bind_none,↓reduceIte,Nat.reduceLT,Nat.reduceEqDiff,Nat.reduceAdd,Nat.reduceMul,Nat.mul_one,Nat.reduceLeDiff,decide_true,decide_false,true_and,and_true,if_true,if_false,List.toList_toArray,List.size_toArray,beq_self_eq_true,Bool.true_eq_false,Bool.false_eq_true,forall_const,false_implies,implies_true,undef,IntKind.bits,List.drop_zero,List.drop_succ_cons,List.take_succ_cons,List.take_zero,List.length_cons,List.length_nil,List.set_cons_zero,List.set_cons_succ,List.head?_cons,List.all_cons,List.all_nil,List.replicate_succ,List.replicate_zero,Bool.and_true,Bool.and_self,Value.oneCell',Bool.true_and,Bool.or_true,Bool.or_false,Bool.not_true,Bool.not_false,ti178,ti207,ti150,ti210,ti3,ti4,wl_idf,wl_one,h1,h2,h3,h4,h5,h6,h7,h8,o1,o2,l2,g1,l3,l5,e1,e3,e4,↓xand32,jk];refine hK _ _ ?_;clear hK K) | (refine aw_skip ?_;try simp (disch:=omega) only [↓core,↓List.getElem?_toArray,↓List.getElem?_cons_succ,↓List.getElem?_cons_zero,↓onO_some,more,xbuild,if_pos,if_neg,onO_some,onO_none,onV_eq,xbuiltin,xlen,xload,loadA,xstore,spl,xfield,xindexAddr,xindex,xslice,bnd,xbin,xint,xshift,xstr,xeq,xun,xconv,xmake,xappend,xsrc,xbuildSlice,fillA,xminmax,gval,isK,mapM_nil_o,mapM_cons_o,AV.cells,AV.boxable,AV.one,TI.agg,resA,retA,zrow_one,eq_self,List.map,List.map_cons,List.map_nil,Option.map_some,Option.map_none,Option.bind_some,Option.bind_none,↓reduceIte,Nat.reduceLT,Nat.reduceEqDiff,Nat.reduceAdd,Nat.reduceMul,Nat.mul_one,Nat.reduceLeDiff,decide_true,decide_false,true_and,and_true,if_true,if_false,List.toList_toArray,List.size_toArray,beq_self_eq_true,Bool.true_eq_false,Bool.false_eq_true,forall_const,false_implies,implies_true,undef,IntKind.bits,List.drop_zero,List.drop_succ_cons,List.take_succ_cons,List.take_zero,List.length_cons,List.length_nil,List.set_cons_zero,List.set_cons_succ,List.head?_cons,List.all_cons,List.all_nil,List.replicate_succ,List.replicate_zero,Bool.and_true,Bool.and_self,Value.oneCell',Bool.true_and,Bool.or_true,Bool.or_false,Bool.not_true,Bool.not_false,ti178,ti207,ti150,ti210,ti3,ti4,wl_idf,wl_one,h1,h2,h3,h4,h5,h6,h7,h8,o1,o2,l2,g1,l3,l5,e1,e3,e4,↓xand32,jk]) | (refine aw_exit ?_;try simp (disch:=omega) only [↓core,↓List.getElem?_toArray,↓List.getElem?_cons_succ,↓List.getElem?_cons_zero,↓onO_some,more,xbuild,if_pos,if_neg,onO_some,onO_none,onV_eq,xbuiltin,xlen,xload,loadA,xstore,spl,xfield,xindexAddr,xindex,xslice,bnd,xbin,xint,xshift,xstr,xeq,xun,xconv,xmake,xappend,xsrc,xbuildSlice,fillA,xminmax,gval,isK,mapM_nil_o,mapM_cons_o,AV.cells,AV.boxable,AV.one,TI.agg,resA,retA,zrow_one,eq_self,List.map,List.map_cons,List.map_nil,Option.map_some,Option.map_none,Option.bind_some,Option.bind_none,↓reduceIte,Nat.reduceLT,Nat.reduceEqDiff,Nat.reduceAdd,Nat.reduceMul,Nat.mul_one,Nat.reduceLeDiff,decide_true,decide_false,true_and,and_true,if_true,if_false,List.toList_toArray,List.size_toArray,beq_self_eq_true,Bool.true_eq_false,Bool.false_eq_true,forall_const,false_implies,implies_true,undef,IntKind.bits,List.drop_zero,List.drop_succ_cons,List.take_succ_cons,List.take_zero,List.length_cons,List.length_nil,List.set_cons_zero,List.set_cons_succ,List.head?_cons,List.all_cons,List.all_nil,List.replicate_succ,List.replicate_zero,Bool.and_true,Bool.and_self,Value.oneCell',Bool.true_and,Bool.or_true,Bool.or_false,Bool.not_true,Bool.not_false,ti178,ti207,ti150,ti210,ti3,ti4,wl_idf,wl_one,h1,h2,h3,h4,h5,h6,h7,h8,o1,o2,l2,g1,l3,l5,e1,e3,e4,↓xand32,jk]) | (refine aw_ret ?_;try simp (disch:=omega) only [↓core,↓List.getElem?_toArray,↓List.getElem?_cons_succ,↓List.getElem?_cons_zero,↓onO_some,more,xbuild,if_pos,if_neg,onO_some,onO_none,onV_eq,xbuiltin,xlen,xload,loadA,xstore,spl,xfield,xindexAddr,xindex,xslice,bnd,xbin,xint,xshift,xstr,xeq,xun,xconv,xmake,xappend,xsrc,xbuildSlice,fillA,xminmax,gval,isK,mapM_nil_o,mapM_cons_o,AV.cells,AV.boxable,AV.one,TI.agg,resA,retA,zrow_one,eq_self,List.map,List.map_cons,List.map_nil,Option.map_some,Option.map_none,Option.bind_some,Option.bind_none,↓reduceIte,Nat.reduceLT,Nat.reduceEqDiff,Nat.reduceAdd,Nat.reduceMul,Nat.mul_one,Nat.reduceLeDiff,decide_true,decide_false,true_and,and_true,if_true,if_false,List.toList_toArray,List.size_toArray,beq_self_eq_true,Bool.true_eq_false,Bool.false_eq_true,forall_const,false_implies,implies_true,undef,IntKind.bits,List.drop_zero,List.drop_succ_cons,List.take_succ_cons,List.take_zero,List.length_cons,List.length_nil,List.set_cons_zero,List.set_cons_succ,List.head?_cons,List.all_cons,List.all_nil,List.replicate_succ,List.replicate_zero,Bool.and_true,Bool.and_self,Value.oneCell',Bool.true_and,Bool.or_true,Bool.or_false,Bool.not_true,Bool.not_false,ti178,ti207,ti150,ti210,ti3,ti4,wl_idf,wl_one,h1,h2,h3,h4,h5,h6,h7,h8,o1,o2,l2,g1,l3,l5,e1,e3,e4,↓xand32,jk]))
    generalize hgm:(c+pr) % W=md at *
    generalize hgd:(c+pr) / W=dv' at *
    by_cases q2:xs.getD k 0<md+br
    ·obtain rfl:=hb4 q2
     rw[then_normal]
     refine ifs ?_ ?_ <;> first | exact nope | intro hb
     refine go (J22 rTI @wl_idf @wl_one @h1 @h2 @h3 @h4 @h5 @h6 @h7 @h8 @o1 @o2 @l2 @g1 @l3 @l5 @e1 @e2 @e3 @e4 @jk) ?_
     simp only[block_normal,loop_normal]
     refine⟨N-(k+1),by omega,k+1,dv',1,ws.set k w,?_,?_,?_,?_,?_,?_,?_,?_,?_,rfl,by omega,hc2,by omega,hl2,hx2,hst⟩
     all_goals (try (first | refine rn (J14 @WN.eq_1 @h1 @h2 @h3 @h4 @h5 @h6 @h7 @h8 @e1 @e2 @e3 @e4 @z3) ?_ | exact rn0 (J14 @WN.eq_1 @h1 @h2 @h3 @h4 @h5 @h6 @h7 @h8 @e1 @e2 @e3 @e4 @z3)))
     all_goals (first | exact shz | (intro i hi;(first | refine rn @WN.eq_1 ?_ | exact rn0 @WN.eq_1)) | skip)
     exact hI.w.put hj k w hk hb2 (by omega)
    ·obtain rfl:=hb5 q2
     rw[then_normal]
     refine ifs ?_ ?_ <;> first | exact nope | intro hb
     refine go (J22 rTI @wl_idf @wl_one @h1 @h2 @h3 @h4 @h5 @h6 @h7 @h8 @o1 @o2 @l2 @g1 @l3 @l5 @e1 @e2 @e3 @e4 @jk) ?_
     simp only[block_normal,loop_normal]
     refine⟨N-(k+1),by omega,k+1,dv',0,ws.set k w,?_,?_,?_,?_,?_,?_,?_,?_,?_,rfl,by omega,hc2,by omega,hl2,hx2,hst⟩
     all_goals (try (first | refine rn (J14 @WN.eq_1 @h1 @h2 @h3 @h4 @h5 @h6 @h7 @h8 @e1 @e2 @e3 @e4 @z3) ?_ | exact rn0 (J14 @WN.eq_1 @h1 @h2 @h3 @h4 @h5 @h6 @h7 @h8 @e1 @e2 @e3 @e4 @z3)))
     all_goals (first | exact shz | (intro i hi;(first | refine rn @WN.eq_1 ?_ | exact rn0 @WN.eq_1)) | skip)
     exact hI.w.put hj k w hk hb2 (by omega)
   ·have o2:=getD_out vs k qk
    have pr0:pr=0:=by rw[hpr,o2,Nat.mul_zero]
    refine ifs ?_ ?_ <;> first | exact nope | intro hb
    repeat (first | refine aw_seq ?_ | refine aw_block ?_ | (refine aw_reg fun K hK=>?_;simp (disch:=omega) only [↓core,↓List.getElem?_toArray,↓List.getElem?_cons_succ,↓List.getElem?_cons_zero,↓onO_some,more,xbuild,if_pos,if_neg,onO_some,onO_none,onV_eq,xbuiltin,xlen,xload,loadA,xstore,spl,xfield,xindexAddr,xindex,xslice,bnd,xbin,xint,xshift,xstr,xeq,xun,xconv,xmake,xappend,xsrc,xbuildSlice,fillA,xminmax,gval,isK,mapM_nil_o,mapM_cons_o,AV.cells,AV.boxable,AV.one,TI.agg,resA,retA,zrow_one,eq_self,List.map,List.map_cons,List.map_nil,Option.map_some,Option.map_none,Option.bind_some,Option.bind_none,↓reduceIte,Nat.reduceLT,Nat.reduceEqDiff,Nat.reduceAdd,Nat.reduceMul,Nat.mul_one,Nat.reduceLeDiff,decide_true,decide_false,true_and,and_true,if_true,if_false,List.toList_toArray,List.size_toArray,beq_self_eq_true,Bool.true_eq_false,Bool.false_eq_true,forall_const,false_implies,implies_true,undef,IntKind.bits,List.drop_zero,List.drop_succ_cons,List.take_succ_cons,List.take_zero,List.length_cons,List.length_nil,List.set_cons_zero,List.set_cons_succ,List.head?_cons,List.all_cons,List.all_nil,List.replicate_succ,List.replicate_zero,Bool.and_true,Bool.and_self,Value.oneCell',Bool.true_and,Bool.or_true,Bool.or_false,Bool.not_true,Bool.not_false,ti178,ti207,ti150,ti210,ti3,ti4,wl_idf,wl_one,h1,h2,h3,h4,h5,h6,h7,h8,o1,o2,l2,g1,l3,l5,e1,e3,e4,↓xand32,jk];refine hK _ _ ?_;clear hK K) | (refine aw_skip ?_;try simp (disch:=omega) only [↓core,↓List.getElem?_toArray,↓List.getElem?_cons_succ,↓List.getElem?_cons_zero,↓onO_some,more,xbuild,if_pos,if_neg,onO_some,onO_none,onV_eq,xbuiltin,xlen,xload,loadA,xstore,spl,xfield,xindexAddr,xindex,xslice,bnd,xbin,xint,xshift,xstr,xeq,xun,xconv,xmake,xappend,xsrc,xbuildSlice,fillA,xminmax,gval,isK,mapM_nil_o,mapM_cons_o,AV.cells,AV.boxable,AV.one,TI.agg,resA,retA,zrow_one,eq_self,List.map,List.map_cons,List.map_nil,Option.map_some,Option.map_none,Option.bind_some,Option.bind_none,↓reduceIte,Nat.reduceLT,Nat.reduceEqDiff,Nat.reduceAdd,Nat.reduceMul,Nat.mul_one,Nat.reduceLeDiff,decide_true,decide_false,true_and,and_true,if_true,if_false,List.toList_toArray,List.size_toArray,beq_self_eq_true,Bool.true_eq_false,Bool.false_eq_true,forall_const,false_implies,implies_true,undef,IntKind.bits,List.drop_zero,List.drop_succ_cons,List.take_succ_cons,List.take_zero,List.length_cons,List.length_nil,List.set_cons_zero,List.set_cons_succ,List.head?_cons,List.all_cons,List.all_nil,List.replicate_succ,List.replicate_zero,Bool.and_true,Bool.and_self,Value.oneCell',Bool.true_and,Bool.or_true,Bool.or_false,Bool.not_true,Bool.not_false,ti178,ti207,ti150,ti210,ti3,ti4,wl_idf,wl_one,h1,h2,h3,h4,h5,h6,h7,h8,o1,o2,l2,g1,l3,l5,e1,e3,e4,↓xand32,jk]) | (refine aw_exit ?_;try simp (disch:=omega) only [↓core,↓List.getElem?_toArray,↓List.getElem?_cons_succ,↓List.getElem?_cons_zero,↓onO_some,more,xbuild,if_pos,if_neg,onO_some,onO_none,onV_eq,xbuiltin,xlen,xload,loadA,xstore,spl,xfield,xindexAddr,xindex,xslice,bnd,xbin,xint,xshift,xstr,xeq,xun,xconv,xmake,xappend,xsrc,xbuildSlice,fillA,xminmax,gval,isK,mapM_nil_o,mapM_cons_o,AV.cells,AV.boxable,AV.one,TI.agg,resA,retA,zrow_one,eq_self,List.map,List.map_cons,List.map_nil,Option.map_some,Option.map_none,Option.bind_some,Option.bind_none,↓reduceIte,Nat.reduceLT,Nat.reduceEqDiff,Nat.reduceAdd,Nat.reduceMul,Nat.mul_one,Nat.reduceLeDiff,decide_true,decide_false,true_and,and_true,if_true,if_false,List.toList_toArray,List.size_toArray,beq_self_eq_true,Bool.true_eq_false,Bool.false_eq_true,forall_const,false_implies,implies_true,undef,IntKind.bits,List.drop_zero,List.drop_succ_cons,List.take_succ_cons,List.take_zero,List.length_cons,List.length_nil,List.set_cons_zero,List.set_cons_succ,List.head?_cons,List.all_cons,List.all_nil,List.replicate_succ,List.replicate_zero,Bool.and_true,Bool.and_self,Value.oneCell',Bool.true_and,Bool.or_true,Bool.or_false,Bool.not_true,Bool.not_false,ti178,ti207,ti150,ti210,ti3,ti4,wl_idf,wl_one,h1,h2,h3,h4,h5,h6,h7,h8,o1,o2,l2,g1,l3,l5,e1,e3,e4,↓xand32,jk]) | (refine aw_ret ?_;try simp (disch:=omega) only [↓core,↓List.getElem?_toArray,↓List.getElem?_cons_succ,↓List.getElem?_cons_zero,↓onO_some,more,xbuild,if_pos,if_neg,onO_some,onO_none,onV_eq,xbuiltin,xlen,xload,loadA,xstore,spl,xfield,xindexAddr,xindex,xslice,bnd,xbin,xint,xshift,xstr,xeq,xun,xconv,xmake,xappend,xsrc,xbuildSlice,fillA,xminmax,gval,isK,mapM_nil_o,mapM_cons_o,AV.cells,AV.boxable,AV.one,TI.agg,resA,retA,zrow_one,eq_self,List.map,List.map_cons,List.map_nil,Option.map_some,Option.map_none,Option.bind_some,Option.bind_none,↓reduceIte,Nat.reduceLT,Nat.reduceEqDiff,Nat.reduceAdd,Nat.reduceMul,Nat.mul_one,Nat.reduceLeDiff,decide_true,decide_false,true_and,and_true,if_true,if_false,List.toList_toArray,List.size_toArray,beq_self_eq_true,Bool.true_eq_false,Bool.false_eq_true,forall_const,false_implies,implies_true,undef,IntKind.bits,List.drop_zero,List.drop_succ_cons,List.take_succ_cons,List.take_zero,List.length_cons,List.length_nil,List.set_cons_zero,List.set_cons_succ,List.head?_cons,List.all_cons,List.all_nil,List.replicate_succ,List.replicate_zero,Bool.and_true,Bool.and_self,Value.oneCell',Bool.true_and,Bool.or_true,Bool.or_false,Bool.not_true,Bool.not_false,ti178,ti207,ti150,ti210,ti3,ti4,wl_idf,wl_one,h1,h2,h3,h4,h5,h6,h7,h8,o1,o2,l2,g1,l3,l5,e1,e3,e4,↓xand32,jk]))
    generalize hgm:(c+pr) % W=md at *
    generalize hgd:(c+pr) / W=dv' at *
    by_cases q2:xs.getD k 0<md+br
    ·obtain rfl:=hb4 q2
     rw[then_normal]
     refine ifs ?_ ?_ <;> first | exact nope | intro hb
     refine go (J22 rTI @wl_idf @wl_one @h1 @h2 @h3 @h4 @h5 @h6 @h7 @h8 @o1 @o2 @l2 @g1 @l3 @l5 @e1 @e2 @e3 @e4 @jk) ?_
     simp only[block_normal,loop_normal]
     refine⟨N-(k+1),by omega,k+1,dv',1,ws.set k w,?_,?_,?_,?_,?_,?_,?_,?_,?_,rfl,by omega,hc2,by omega,hl2,hx2,hst⟩
     all_goals (try (first | refine rn (J14 @WN.eq_1 @h1 @h2 @h3 @h4 @h5 @h6 @h7 @h8 @e1 @e2 @e3 @e4 @z3) ?_ | exact rn0 (J14 @WN.eq_1 @h1 @h2 @h3 @h4 @h5 @h6 @h7 @h8 @e1 @e2 @e3 @e4 @z3)))
     all_goals (first | exact shz | (intro i hi;(first | refine rn @WN.eq_1 ?_ | exact rn0 @WN.eq_1)) | skip)
     exact hI.w.put hj k w hk hb2 (by omega)
    ·obtain rfl:=hb5 q2
     rw[then_normal]
     refine ifs ?_ ?_ <;> first | exact nope | intro hb
     refine go (J22 rTI @wl_idf @wl_one @h1 @h2 @h3 @h4 @h5 @h6 @h7 @h8 @o1 @o2 @l2 @g1 @l3 @l5 @e1 @e2 @e3 @e4 @jk) ?_
     simp only[block_normal,loop_normal]
     refine⟨N-(k+1),by omega,k+1,dv',0,ws.set k w,?_,?_,?_,?_,?_,?_,?_,?_,?_,rfl,by omega,hc2,by omega,hl2,hx2,hst⟩
     all_goals (try (first | refine rn (J14 @WN.eq_1 @h1 @h2 @h3 @h4 @h5 @h6 @h7 @h8 @e1 @e2 @e3 @e4 @z3) ?_ | exact rn0 (J14 @WN.eq_1 @h1 @h2 @h3 @h4 @h5 @h6 @h7 @h8 @e1 @e2 @e3 @e4 @z3)))
     all_goals (first | exact shz | (intro i hi;(first | refine rn @WN.eq_1 ?_ | exact rn0 @WN.eq_1)) | skip)
     exact hI.w.put hj k w hk hb2 (by omega)
  ·obtain rfl:k=N:=by omega
   obtain rfl:=hI.hl rfl
   have hv:=hI.hv
   rw[List.take_of_length_le (by omega),List.take_of_length_le (l:=vs) (by omega),List.take_of_length_le (l:=xs) (by omega),Nat.zero_add] at hv
   have hX:=val_lt W (by decide) ws hI.w.lt
   rw[l4] at hX
   obtain⟨t0,t1⟩:=take_end hV hX hU hq hq2 b2 hv
   by_cases q3:br=0
   ·obtain⟨t2,t3⟩:=t0 q3
    refine go (J11 rTI @wl_idf @wl_one @h1 @h2 @h3 @h4 @h5 @h6 @h7 @h8) ?_
    refine ifs ?_ ?_ <;> first | exact nope | intro hb
    refine go (J11 rTI @wl_idf @wl_one @h1 @h2 @h3 @h4 @h5 @h6 @h7 @h8) ?_
    rw[then_normal]
    refine ifs ?_ ?_ <;> first | exact nope | intro hb
    refine go (J11 rTI @wl_idf @wl_one @h1 @h2 @h3 @h4 @h5 @h6 @h7 @h8) ?_
    refine⟨by rw[←t2],?_⟩
    rw[←padd_eq (by decide) ws hI.w.lt _ _ l4 t3]
    exact hI.w
   ·obtain⟨t2,t3,t4⟩:=t1 (by omega)
    obtain⟨ys,hys⟩:∃ ys,ys=ws:=⟨_,rfl⟩
    have dy:∀ d∈ys,d<W:=by rw[hys];exact hI.w.lt
    refine go (J11 rTI @wl_idf @wl_one @h1 @h2 @h3 @h4 @h5 @h6 @h7 @h8) ?_
    refine ifs ?_ ?_ <;> first | exact nope | intro hb
    refine go (J11 rTI @wl_idf @wl_one @h1 @h2 @h3 @h4 @h5 @h6 @h7 @h8) ?_
    rw[then_normal]
    refine ifs ?_ ?_ <;> first | exact nope | intro hb
    refine go (J11 rTI @wl_idf @wl_one @h1 @h2 @h3 @h4 @h5 @h6 @h7 @h8) ?_
    refine aw_loop (fun n e s3=>∃ (k2 c:Nat) (zs:List Nat),GiveI us id j k ws vs d s n k2 c zs e s3) k ?_ ?_
    ·refine⟨0,0,ws,?_⟩
     constructor
     ·exact hI.w
     all_goals (try (first | refine rn (J9 @WN.eq_1 @h1 @h2 @h3 @h4 @h5 @h6 @h7 @h8) ?_ | exact rn0 (J9 @WN.eq_1 @h1 @h2 @h3 @h4 @h5 @h6 @h7 @h8)))
     all_goals (first | exact shz | (intro i hi;(first | refine rn @WN.eq_1 ?_ | exact rn0 @WN.eq_1)) | skip)
     all_goals simp [val]
    ·clear h1 h2 h3 h4 h5 h6 h7 h8 g1 l3 l5 b1 b3
     rintro n e s3 ⟨m,c,zs,hJ⟩
     have h1:=hJ.en
     have h2:=hJ.e0
     have h3:=hJ.e1
     have h4:=hJ.e2
     have h5:=hJ.e7
     have h7:=hJ.e61
     have h8:=hJ.e62
     have g1:=hJ.w.g
     have l3:=WL_len (plug us j zs)
     have l6:=hJ.w.len
     have l5:(plug us j zs).length=us.length:=plug_len (by omega)
     have b1:=hJ.hk
     have c1:=hJ.hc
     have b3:=hJ.hn
     unfold WN at h3
     have z3:(m:Int)+1=((m+1:Nat):Int):=rfl
     by_cases hm:m<k
     ·have p1:ws.getD m 0<4294967296:=getD_lt W (by decide) ws hI.w.lt _
      have p2:vs.getD m 0<4294967296:=getD_lt W (by decide) vs dv _
      have o1:=hd_WL (plug us j zs) (j+m) (by omega)
      rw[plug_get l6 hj m hm,hJ.hx m (Nat.le_refl _)] at o1
      have hst:=plus_step ws vs (val W (zs.take m)) m c hJ.hv _ rfl
      rw[←set_tk _ _ _ (by omega)] at hst
      obtain⟨z,hz⟩:∃ z,z=c+ws.getD m 0+vs.getD m 0:=⟨_,rfl⟩
      rw[←hz] at hst
      have e2:=w32 z
      have e3:=sh32 z
      have hx2:∀ i,m+1≤i→(zs.set m (z % W)).getD i 0=ws.getD i 0:=fun i hi=>by
       rw[getD_set _ _ _ _ (by omega),if_neg (by omega)]
       exact hJ.hx i (by omega)
      have jk:((j:Int)+(m:Int)).toNat=j+m:=by omega
      refine go (J10 rTI @wl_idf @wl_one @h1 @h2 @h3 @h4 @h5 @h7 @h8) ?_
      refine ifs ?_ ?_ <;> first | exact nope | intro hb
      refine go (J15 rTI @wl_idf @wl_one @h1 @h2 @h3 @h4 @h5 @h7 @h8 @o1 @l3 @l5 @g1 @jk) ?_
      by_cases qk:m<vs.length
      ·have o2:=hd_WL vs m qk
       refine ifs ?_ ?_ <;> first | exact nope | intro hb
       refine go (J19 rTI @wl_idf @wl_one @h1 @h2 @h3 @h4 @h5 @h7 @h8 @o1 @o2 @l2 @g1 @l3 @l5 @e2 @e3 @jk) ?_
       simp only[block_normal,loop_normal]
       refine⟨k-(m+1),by omega,m+1,z / W,zs.set m (z % W),?_,?_,?_,?_,?_,?_,?_,?_,rfl,by omega,by unfold W;omega,hx2,hst⟩
       all_goals (try exact rn0 (J11 @WN.eq_1 @h1 @h2 @h3 @h4 @h5 @h7 @h8 @e2 @e3 @z3))
       all_goals (first | exact shz | (intro i hi;(first | refine rn @WN.eq_1 ?_ | exact rn0 @WN.eq_1)) | skip)
       exact hJ.w.put hj m _ hm (Nat.mod_lt _ (by decide)) rfl
      ·have o2:=getD_out vs m qk
       refine ifs ?_ ?_ <;> first | exact nope | intro hb
       refine go (J19 rTI @wl_idf @wl_one @h1 @h2 @h3 @h4 @h5 @h7 @h8 @o1 @o2 @l2 @g1 @l3 @l5 @e2 @e3 @jk) ?_
       simp only[block_normal,loop_normal]
       refine⟨k-(m+1),by omega,m+1,z / W,zs.set m (z % W),?_,?_,?_,?_,?_,?_,?_,?_,rfl,by omega,by unfold W;omega,hx2,hst⟩
       all_goals (try exact rn0 (J11 @WN.eq_1 @h1 @h2 @h3 @h4 @h5 @h7 @h8 @e2 @e3 @z3))
       all_goals (first | exact shz | (intro i hi;(first | refine rn @WN.eq_1 ?_ | exact rn0 @WN.eq_1)) | skip)
       exact hJ.w.put hj m _ hm (Nat.mod_lt _ (by decide)) rfl
     ·obtain rfl:m=k:=by omega
      have hv2:=hJ.hv
      rw[List.take_of_length_le (by omega),List.take_of_length_le (l:=vs) (by omega),List.take_of_length_le (l:=ws) (by omega)] at hv2
      have hY:=val_lt W (by decide) zs hJ.w.lt
      rw[l6] at hY
      have hr:=give_end hX hY (Nat.mod_lt _ hV) hVN t4 hv2
      refine go (J10 rTI @wl_idf @wl_one @h1 @h2 @h3 @h4 @h5 @h7 @h8) ?_
      refine ifs ?_ ?_ <;> first | exact nope | intro hb
      refine go (J10 rTI @wl_idf @wl_one @h1 @h2 @h3 @h4 @h5 @h7 @h8) ?_
      refine⟨?_,?_⟩
      ·rw[←t3]
       exact congrArg (fun z:Int=>AV.v (.int .u32 z)) (by omega)
      ·rw[←padd_eq (by decide) zs hJ.w.lt _ _ l6 hr]
       exact hJ.w
end BigD
namespace BigL
open BigM BigN BigA BigK BigB BigC BigD
theorem hW0:0<W:=by decide
theorem zero_high (l:List Nat) (n:Nat) (h:val W l<W ^ n):val W (l.drop n)=0∧val W (l.take n)=val W l:=by
 by_cases hn:n≤l.length
 ·have h1:=val_split (b:=W) l n hn
  by_cases h0:val W (l.drop n)=0
  ·rw[h0,Nat.mul_zero] at h1
   exact⟨h0,by omega⟩
  ·have:W ^ n*1≤W ^ n*val W (l.drop n):=Nat.mul_le_mul_left _ (by omega)
   omega
 ·rw[List.drop_eq_nil_of_le (by omega),List.take_of_length_le (by omega)]
  exact⟨rfl,rfl⟩
theorem zero_digit:∀ (l:List Nat),val W l=0→∀ i,l.getD i 0=0
 | [],_,i=>by simp
 | d::l,h,i=>by
  rw[val] at h
  have h1:d=0:=by omega
  have h2:W*val W l=0:=by omega
  have h3:val W l=0:=(Nat.mul_eq_zero.1 h2).resolve_left (by decide)
  cases i with
  | zero=>simpa using h1
  | succ i=>rw[List.getD_cons_succ];exact zero_digit l h3 i
theorem getD_drop (l:List Nat) (n i:Nat):(l.drop n).getD i 0=l.getD (n+i) 0:=by
 rw[List.getD_eq_getElem?_getD,List.getElem?_drop,←List.getD_eq_getElem?_getD]
theorem norm_spec (bs:List Nat) (n bits:Nat) (hl:bs.length=n) (hn:0<n) (db:∀ d∈bs,d<W) (hb:bits≤31) (h1:2147483648≤bs.getD (n-1) 0*2 ^ bits) (h2:bs.getD (n-1) 0*2 ^ bits<W) :
  val W bs*2 ^ bits<W ^ n∧W ^ (n-1)*2147483648≤val W bs*2 ^ bits:=by
 have e1:=val_take_snoc W bs (n-1) (by omega)
 rw[show n-1+1=n by omega,List.take_of_length_le (by omega)] at e1
 have e2:=val_lt W hW0 (bs.take (n-1)) (fun d hm=>db d (List.mem_of_mem_take hm))
 rw[List.length_take,Nat.min_eq_left (by omega)] at e2
 have hp:0<2 ^ bits:=Nat.pow_pos (by decide)
 have hpp:2 ^ bits*2 ^ (32-bits)=W:=by rw[←Nat.pow_add,show bits+(32-bits)=32 by omega];rfl
 generalize bs.getD (n-1) 0=x at *
 constructor
 ·have h3:x<2 ^ (32-bits):=by
   rw[←hpp,Nat.mul_comm x] at h2
   exact Nat.lt_of_mul_lt_mul_left h2
  have h4:(x+1)*2 ^ bits≤W:=by
   rw[←hpp,Nat.mul_comm (2 ^ bits)]
   exact Nat.mul_le_mul_right _ h3
  have h5:val W bs<W ^ (n-1)*(x+1):=by rw[e1,Nat.mul_add,Nat.mul_one];omega
  have h6:val W bs*2 ^ bits<W ^ (n-1)*(x+1)*2 ^ bits:=Nat.mul_lt_mul_of_pos_right h5 hp
  have h7:W ^ (n-1)*(x+1)*2 ^ bits≤W ^ (n-1)*W:=by rw[Nat.mul_assoc];exact Nat.mul_le_mul_left _ h4
  have h8:W ^ (n-1)*W=W ^ n:=by rw[←Nat.pow_succ,show (n-1).succ=n by omega]
  omega
 ·have h3:W ^ (n-1)*2147483648≤W ^ (n-1)*(x*2 ^ bits):=Nat.mul_le_mul_left _ h1
  rw[←Nat.mul_assoc] at h3
  have h4:W ^ (n-1)*x*2 ^ bits≤val W bs*2 ^ bits:=Nat.mul_le_mul_right _ (by omega)
  omega
theorem top_digit (vs:List Nat) (n:Nat) (hl:vs.length=n) (hn:0<n) (dv:∀ d∈vs,d<W) (h:W ^ (n-1)*2147483648≤val W vs):2147483648≤vs.getD (n-1) 0:=by
 have e1:=val_take_snoc W vs (n-1) (by omega)
 rw[show n-1+1=n by omega,List.take_of_length_le (by omega)] at e1
 have e2:=val_lt W hW0 (vs.take (n-1)) (fun d hm=>dv d (List.mem_of_mem_take hm))
 rw[List.length_take,Nat.min_eq_left (by omega)] at e2
 have h3:W ^ (n-1)*2147483648<W ^ (n-1)*(vs.getD (n-1) 0+1):=by rw[Nat.mul_add,Nat.mul_one];omega
 have:=Nat.lt_of_mul_lt_mul_left h3
 omega
theorem kn_of (ws vs:List Nat) (n:Nat) (hw:ws.length=n+1) (hv:vs.length=n) (hn:2≤n) (dw:∀ d∈ws,d<W) (dv:∀ d∈vs,d<W) (h1:2147483648≤vs.getD (n-1) 0) (hlt:val W ws<W*val W vs) :
  Kn W (W ^ (n-2)) (ws.getD n 0*W+ws.getD (n-1) 0) (ws.getD (n-2) 0) (val W (ws.take (n-2))) (vs.getD (n-1) 0) (vs.getD (n-2) 0) (val W (vs.take (n-2))) (val W ws) (val W vs):=by
 have a1:=val_take_snoc W ws n (by omega)
 have a2:=val_take_snoc W ws (n-1) (by omega)
 have a3:=val_take_snoc W ws (n-2) (by omega)
 have b2:=val_take_snoc W vs (n-1) (by omega)
 have b3:=val_take_snoc W vs (n-2) (by omega)
 rw[List.take_of_length_le (by omega)] at a1
 rw[show n-1+1=n by omega] at a2 b2
 rw[show n-2+1=n-1 by omega] at a3 b3
 rw[List.take_of_length_le (by omega)] at b2
 have c1:W ^ (n-1)=W ^ (n-2)*W:=by rw[←Nat.pow_succ,show (n-2).succ=n-1 by omega]
 have c2:W ^ n=W ^ (n-2)*W*W:=by rw[←c1,←Nat.pow_succ,show (n-1).succ=n by omega]
 have t1:=val_lt W hW0 (ws.take (n-2)) (fun d hm=>dw d (List.mem_of_mem_take hm))
 have t2:=val_lt W hW0 (vs.take (n-2)) (fun d hm=>dv d (List.mem_of_mem_take hm))
 rw[List.length_take,Nat.min_eq_left (by omega)] at t1 t2
 refine⟨hW,?_,?_,Nat.pow_pos hW0,getD_lt W hW0 ws dw _,getD_lt W hW0 vs dv _,t1,t2,by unfold W;omega,hlt⟩
 ·rw[a1,a2,a3,c1,c2]
  generalize ws.getD n 0=p
  generalize ws.getD (n-1) 0=q
  generalize ws.getD (n-2) 0=r
  generalize W ^ (n-2)=E
  have e:((p*W+q)*W+r)*E=E*W*W*p+E*W*q+E*r:=by
   rw[Nat.add_mul,Nat.add_mul,Nat.add_mul]
   have e1:p*W*W*E=E*W*W*p:=by
    rw[Nat.mul_comm (p*W*W),Nat.mul_assoc,Nat.mul_assoc,Nat.mul_assoc,Nat.mul_comm p,Nat.mul_assoc]
   have e2:q*W*E=E*W*q:=by rw[Nat.mul_comm (q*W),Nat.mul_comm q,Nat.mul_assoc]
   rw[e1,e2,Nat.mul_comm r]
  omega
 ·rw[b2,b3,c1]
  generalize vs.getD (n-1) 0=p
  generalize vs.getD (n-2) 0=q
  generalize W ^ (n-2)=E
  have e:(p*W+q)*E=E*W*p+E*q:=by
   rw[Nat.add_mul]
   have e1:p*W*E=E*W*p:=by rw[Nat.mul_comm (p*W),Nat.mul_comm p,Nat.mul_assoc]
   rw[e1,Nat.mul_comm q]
  omega
structure Div (u0 vs:List Nat) (n M:Nat) (us qs:List Nat):Prop where
 lu:us.length=u0.length
 du:∀ d∈us,d<W
 lo:∀ i,i<M→us.getD i 0=u0.getD i 0
 hr:val W (us.drop M)=val W (u0.drop M) % val W vs
 lq:qs.length+n=u0.length
 dq:∀ d∈qs,d<W
 hq:val W (qs.drop M)=val W (u0.drop M) / val W vs
theorem Div.win {u0 vs us qs:List Nat} {n M:Nat} (h:Div u0 vs n M us qs) (hM:0<M) (hMq:M≤qs.length) (hv:vs.length=n) (dv:∀ d∈vs,d<W) (hV:0<val W vs) :
  ((us.drop (M-1)).take (n+1)).length=n+1∧val W ((us.drop (M-1)).take (n+1))=u0.getD (M-1) 0+W*(val W (u0.drop M) % val W vs)∧val W (us.drop (M+n))=0∧val W ((us.drop (M-1)).take (n+1))<W*val W vs:=by
 have h1:=h.lu
 have h2:=h.lq
 have hR:val W (us.drop M)<W ^ n:=by
  rw[h.hr]
  have:=val_lt W hW0 vs dv
  rw[hv] at this
  exact Nat.lt_trans (Nat.mod_lt _ hV) this
 obtain⟨z1,z2⟩:=zero_high _ n hR
 rw[List.drop_drop] at z1
 have e:us.drop (M-1)=us.getD (M-1) 0::us.drop M:=drop_pred us M hM (by omega)
 have hval:val W ((us.drop (M-1)).take (n+1))=u0.getD (M-1) 0+W*(val W (u0.drop M) % val W vs):=by
  rw[e,List.take_succ_cons,val,z2,h.hr,h.lo _ (by omega)]
 refine⟨by rw[List.length_take,List.length_drop];omega,hval,z1,?_⟩
 rw[hval,Nat.mul_comm W (val W vs)]
 have hlt:u0.getD (M-1) 0<W:=by rw[←h.lo _ (by omega)];exact getD_lt W hW0 us h.du _
 exact divide_lt _ _ _ hlt (Nat.mod_lt _ hV)
theorem plug_low {us:List Nat} {j:Nat} {ws:List Nat} (h:j≤us.length) (i:Nat) (hi:i<j):(plug us j ws).getD i 0=us.getD i 0:=by
 have e:(us.take j).length=j:=by rw[List.length_take];omega
 unfold plug
 rw[List.getD_eq_getElem?_getD,List.getElem?_append_left (by omega),List.getElem?_take_of_lt hi,←List.getD_eq_getElem?_getD]
theorem plug_lt {us:List Nat} {j:Nat} {ws:List Nat} (du:∀ d∈us,d<W) (dw:∀ d∈ws,d<W):∀ d∈plug us j ws,d<W:=by
 intro d hd
 unfold plug at hd
 rcases List.mem_append.1 hd with hd | hd
 ·exact du d (List.mem_of_mem_take hd)
 ·rcases List.mem_append.1 hd with hd | hd
  ·exact dw d hd
  ·exact du d (List.mem_of_mem_drop hd)
theorem Div.next {u0 vs us qs:List Nat} {n M:Nat} (h:Div u0 vs n M us qs) (hM:0<M) (hMq:M≤qs.length) (hv:vs.length=n) (dv:∀ d∈vs,d<W) (hV:0<val W vs) {U:Nat} (hU:U=val W ((us.drop (M-1)).take (n+1))) :
  Div u0 vs n (M-1) (plug us (M-1) (padd W (n+1) (U % val W vs))) (qs.set (M-1) (U / val W vs)):=by
 obtain⟨w1,w2,w3,w4⟩:=h.win hM hMq hv dv hV
 rw[←hU] at w2 w4
 have h1:=h.lu
 have h2:=h.lq
 have lp:=padd_len (b:=W) (n+1) (U % val W vs)
 have lpl:(plug us (M-1) (padd W (n+1) (U % val W vs))).length=us.length:=plug_len (by omega)
 have hdr:val W (u0.drop (M-1))=u0.getD (M-1) 0+W*val W (u0.drop M):=by rw[drop_pred u0 M hM (by omega),val]
 have hst:=divide_step (b:=W) (u0.getD (M-1) 0) (val W vs) (val W (u0.drop M)) hV
 rw[←hdr,←w2] at hst
 have hq:U / val W vs<W:=Nat.div_lt_of_lt_mul (by rw[Nat.mul_comm];exact w4)
 refine⟨by rw[lpl,h1],plug_lt h.du (padd_lt hW0 _ _),fun i hi=>?_,?_,by rw[List.length_set];exact h2,set_lt _ _ _ h.dq hq,?_⟩
 ·rw[plug_low (by omega) i (by omega)]
  exact h.lo i (by omega)
 ·rw[hst.2]
  have e:(plug us (M-1) (padd W (n+1) (U % val W vs))).drop (M-1)=padd W (n+1) (U % val W vs)++us.drop (M+n):=by
   unfold plug
   rw[lp,List.drop_left' (by rw[List.length_take];omega),show M-1+(n+1)=M+n by omega]
  have hlt:U % val W vs<W ^ (n+1):=by
   have t1:=val_lt W hW0 vs dv
   rw[hv] at t1
   have t2:W ^ n≤W ^ (n+1):=Nat.pow_le_pow_right hW0 (Nat.le_succ n)
   exact Nat.lt_of_lt_of_le (Nat.mod_lt _ hV) (Nat.le_trans (Nat.le_of_lt t1) t2)
  rw[e,val_append,w3,Nat.mul_zero,Nat.add_zero,val_padd hW0 _ _ hlt]
 ·rw[set_dr _ _ _ (by omega),val,show M-1+1=M by omega,h.hq,hst.1]
end BigL
namespace BigE
open Go Go.RowKit Ax Ti BigM BigN BigA BigK BigB BigC BigD BigL
theorem rTI:type_of% (J6 @ti178 @ti207 @ti150 @ti210 @ti3 @ti4):=cj @ti178 (J5 @ti207 @ti150 @ti210 @ti3 @ti4)
theorem ix2 (J n:Nat):((J:Int)+(n:Int)).toNat=J+n:=by omega
theorem ix1 (J n:Nat) (h:2≤n):((J:Int)+(n:Int)-1).toNat=J+(n-1):=by omega
theorem ix0 (J n:Nat) (h:2≤n):((J:Int)+(n:Int)-2).toNat=J+(n-2):=by omega
theorem im1 (n:Nat) (h:2≤n):((n:Int)-1).toNat=n-1:=by omega
theorem im0 (n:Nat) (h:2≤n):((n:Int)-2).toNat=n-2:=by omega
theorem ij (J:Nat):(((J+1:Nat):Int)-1)=(J:Int):=by omega
theorem win_get (us:List Nat) (J N k:Nat) (h:k<N):((us.drop J).take N).getD k 0=us.getD (J+k) 0:=by rw[getD_take _ _ _ h,getD_drop]
theorem start_lt (u0:List Nat) (m n V:Nat) (hl:u0.length=m+n) (hn:0<n) (h:val W u0<W ^ (m+n-1)*2147483648) (hV:W ^ (n-1)*2147483648≤V):val W (u0.drop m)<V:=by
 refine Nat.lt_of_lt_of_le (Nat.lt_of_not_le fun h2=>?_) hV
 have h1:=val_split (b:=W) u0 m (by omega)
 have h3:W ^ m*(W ^ (n-1)*2147483648)≤W ^ m*val W (u0.drop m):=Nat.mul_le_mul_left _ h2
 rw[←Nat.mul_assoc,←Nat.pow_add,show m+(n-1)=m+n-1 by omega] at h3
 omega
theorem Div.start (u0 vs:List Nat) (m n:Nat) (hl:m+n=u0.length) (du:∀ d∈u0,d<W) (h:val W (u0.drop m)<val W vs):Div u0 vs n m u0 (List.replicate m 0):=by
 refine⟨rfl,du,fun i hi=>rfl,(Nat.mod_eq_of_lt h).symm,by rw[List.length_replicate];exact hl,rep_lt m,?_⟩
 rw[List.drop_of_length_le (by rw[List.length_replicate];omega),Nat.div_eq_of_lt h]
 rfl
structure LongI (s0:St) (L n m bits:Nat) (u0 vs:List Nat) (M:Nat) (us qs:List Nat) (e:Env) (s':St):Prop where
 dv:Div u0 vs n M us qs
 en:e.n=166
 k4:e.m 4=.own (s0.nx+2) 0 m 1
 k6:e.m 6=.v (.int .u64 bits)
 k7:e.m 7=.v (.int .i64 n)
 k8:e.m 8=.own s0.nx 0 (L+1) 1
 k9:e.m 9=.sl n (WL vs)
 k10:e.m 10=.v (.int .i64 ((M:Int)-1))
 gu:s'.get s0.nx=some (WL us)
 gq:s'.get (s0.nx+2)=some (WL qs)
 gn:s'.nx=s0.nx+3
 fr:∀ i,i<s0.nx→s'.get i=s0.get i
 hM:M≤m
structure RestI (t0:St) (sn n L m bits:Nat) (us:List Nat) (z k:Nat) (rs:List Nat) (e:Env) (s':St):Prop where
 o:Out t0 n rs s'
 en:e.n=166
 k4:e.m 4=.own (sn+2) 0 m 1
 k5:e.m 5=.own t0.nx 0 n 1
 k6:e.m 6=.v (.int .u64 bits)
 k8:e.m 8=.own sn 0 (L+1) 1
 k139:e.m 139=.v (.int .i64 n)
 k140:e.m 140=.v (.int .i64 k)
 hz:z=n-k
 hk:k≤n
 hv:val W (rs.take k)*2 ^ bits+us.getD 0 0 % 2 ^ bits=val W (us.take k)+W ^ k*(us.getD k 0 % 2 ^ bits)
theorem low_mod (us:List Nat) (bits:Nat) (h:2 ^ bits*2 ^ (32-bits)=W):us.getD 0 0 % 2 ^ bits=val W us % 2 ^ bits:=by
 cases us with
 | nil=>rfl
 | cons d l=>
  rw[List.getD_cons_zero,val,←h,Nat.mul_assoc,Nat.add_mul_mod_self_left]
theorem frzL_WL (i:Nat) (c:List AV):∀ l:List Nat,frz.frzL i c (WL l)=WL l
 | []=>rfl
 | x::l=>by
  show frz i c _::frz.frzL i c (WL l)=_
  rw[frzL_WL i c l]
  rfl
theorem xor_of (x y:Nat) (h:(BitVec.ofInt 32 (x:Int) ||| BitVec.ofInt 32 (y:Int)).toNat=x+y) (h2:x+y<W):xint .or .u32 (x:Int) (y:Int)=some (.int .u32 ((x+y:Nat):Int)):=by
 show some (Value.int IntKind.u32 (IntKind.u32.wrap ((BitVec.ofInt 32 (x:Int) ||| BitVec.ofInt 32 (y:Int)).toNat:Int)))=_
 rw[h,wrap_u32]
 unfold W at h2
 congr 2
 omega
theorem ix3 (k:Nat):((k:Int)+1).toNat=k+1:=by omega
theorem ix4 (b:Nat) (h:b≤31):((32:Int)-(b:Int)).toNat=32-b:=by omega
theorem long_ax (xs bs:List Nat) (n:Nat) (hn:bs.length=n) (h2:2≤n) (hl:n≤xs.length) (hla:xs.length≤1000000000000) (da:∀ d∈xs,d<W) (db:∀ d∈bs,d<W) (h0:bs.getD (n-1) 0≠0) :
  PCall Tryz.prog 216 [WN xs,WN bs] (.tp [WN (padd W (xs.length+1-n) (val W xs / val W bs)),WN (padd W n (val W xs % val W bs))]):=by
 refine pcall_own2 (by exact rn0 (cj @WN.eq_1 @wl_idf)) fun s=>?_
 refine acall_of Tryz.func216 rfl rfl (by simp [Tryz.ntmps216]) ?_;rw[Tryz.ntmps216,Tryz.results216]
 unfold WN
 refine go (J3 rTI @wl_idf @wl_one) ?_
 have l2:=WL_len bs
 obtain⟨x,hx⟩:∃ x,x=bs.getD (n-1) 0:=⟨_,rfl⟩
 have hxW:x<4294967296:=by rw[hx];exact getD_lt W hW0 bs db _
 refine aw_at (.exit 0) (fun e s'=>∃ bits:Nat,s'=s∧e.n=166∧e.m 0=WN xs∧e.m 1=WN bs∧e.m 6=.v (.int .u64 bits)∧bits≤31∧2147483648≤x*2 ^ bits∧x*2 ^ bits<W) ?_ ?_
 ·refine aw_loop (fun m e s'=>∃ bits:Nat,m=32-bits∧s'=s∧e.n=166∧e.m 0=WN xs∧e.m 1=WN bs∧e.m 6=.v (.int .u64 bits)∧bits≤31∧x*2 ^ bits<W) 32 ?_ ?_
  ·refine⟨0,?_⟩
   refine rn @WN.eq_1 ?_
   exact⟨rfl,by rw[Nat.pow_zero,Nat.mul_one];exact hxW⟩
  ·rintro m e s' ⟨bits,hm,rfl,h1,g0,g1,g6,hb,ht⟩
   unfold WN at g0 g1
   obtain⟨t,ht'⟩:∃ t,t=x*2 ^ bits:=⟨_,rfl⟩
   rw[←ht'] at ht
   have ht2:t<4294967296:=ht
   have e1:(x:Int)*2 ^ bits=(t:Int):=by rw[ht',Int.natCast_mul,Int.natCast_pow];rfl
   have z1:min bits 32=bits:=by omega
   have e2:(t:Int).fdiv (2 ^ min (Int.toNat 31) 32)=((t / 2147483648:Nat):Int):=by
    have e:(2:Int) ^ min (Int.toNat 31) 32=2147483648:=rfl
    rw[e,Int.fdiv_eq_ediv_of_nonneg _ (by decide)]
    omega
   have o1:=hd_WL bs (n-1) (by omega)
   rw[←hx] at o1
   have nn:((bs.length:Int)-1).toNat=n-1:=by omega
   by_cases q:t<2147483648
   ·refine go (J13 rTI @wl_idf @wl_one @h1 @g0 @g1 @g6 @o1 @l2 @nn @e1 @e2 @z1) ?_
    refine ifs ?_ ?_ <;> first | exact nope | intro hb
    refine go (J7 rTI @wl_idf @wl_one @h1 @g0 @g1 @g6) ?_
    have hx1:1≤x:=by omega
    have hbb:bits+1≤31:=by
     refine Nat.le_of_not_lt fun h=>?_
     have:1*2 ^ 31≤x*2 ^ bits:=Nat.mul_le_mul hx1 (Nat.pow_le_pow_right (by decide) (by omega))
     omega
    have ht3:x*2 ^ (bits+1)<W:=by
     rw[Nat.pow_succ,←Nat.mul_assoc,←ht']
     unfold W
     omega
    simp only[block_normal,loop_normal]
    refine⟨32-(bits+1),by omega,bits+1,?_⟩
    refine rn (J4 @WN.eq_1 @h1 @g0 @g1) ?_
    exact⟨rfl,by omega,ht3⟩
   ·refine go (J13 rTI @wl_idf @wl_one @h1 @g0 @g1 @g6 @o1 @l2 @nn @e1 @e2 @z1) ?_
    refine ifs ?_ ?_ <;> first | exact nope | intro hb
    refine go (J7 rTI @wl_idf @wl_one @h1 @g0 @g1 @g6) ?_
    exact⟨bits,rfl,rfl,rfl,by omega,by omega,by rw[←ht'];exact ht⟩
 ·rintro e s' ⟨bits,rfl,h1,g0,g1,g6,hbits,ht1,ht2⟩
  unfold WN at g0 g1
  refine go (J8 rTI @wl_idf @wl_one @h1 @g0 @g1 @g6 @l2) ?_
  refine aw_drw (.take 0 (.take 1 (.take 3 (.take 4 (.take 6 (.one 2 (.one 5 (.take 7 (.take 8 (.take 9 (.done))))))))))) [] (by kernel_rfl) (by kernel_rfl) fun K hK=>?_;refine dr (J8 rTI @wl_idf @wl_one @h1 @g0 @g1 @g6 @l2) ?_;refine cont_go (shift_ax xs bits (by omega) da hbits s') ?_;rintro _ s1 ⟨rfl,hs1⟩;refine dr (J8 rTI @wl_idf @wl_one @h1 @g0 @g1 @g6 @l2) ?_;refine cont_go (shift_ax bs bits (by omega) db hbits s1) ?_;rintro _ s2 ⟨rfl,hs2⟩;refine dr (J8 rTI @wl_idf @wl_one @h1 @g0 @g1 @g6 @l2) ?_;refine hK _ _ ?_;clear hK K
  rw[then_normal]
  refine aw_freeze2 s1.nx _ hs2.g (fun _=>false) fun e' s3 f1 f2 f3 f4=>?_
  have n1:=hs1.nx
  have n2:=hs2.nx
  have k7:e'.m 7=.v (.int .i64 n):=by rw[f2];exact rn0 (J6 @h1 @g0 @g1 @g6 @hn frw)
  have k6:e'.m 6=.v (.int .u64 bits):=by rw[f2];exact rn0 (J6 @h1 @g0 @g1 @g6 @hn frw)
  have k8:e'.m 8=.own s'.nx 0 (xs.length+1) 1:=by rw[f2];exact rn0 (J6 @h1 @g0 @g1 @g6 @hn frw)
  have k9:e'.m 9=.sl n (WL ((padd W (n+1) (val W bs*2 ^ bits)).take n)):=by rw[f2];refine rn (J6 @h1 @g0 @g1 @g6 @hn frw) ?_;rw[←WL_tk];rfl
  have kn:e'.n=166:=by rw[f1];exact rn0 @h1
  have gu:s3.get s'.nx=some (WL (padd W (xs.length+1) (val W xs*2 ^ bits))):=by
   rw[f4,if_neg (by omega),hs2.fr _ (by omega)]
   exact hs1.g
  have gn:s3.nx=s'.nx+2:=by omega
  have fr:∀ i,i<s'.nx→s3.get i=s'.get i:=fun i hi=>by
   rw[f4,if_neg (by omega),hs2.fr _ (by omega)]
   exact hs1.fr i hi
  clear f1 f2 f3 f4 hs1 hs2 h1 g0 g1 g6
  have hp:0<2 ^ bits:=Nat.pow_pos (by decide)
  have hp1:2 ^ bits≤2147483648:=Nat.pow_le_pow_right (by decide) hbits
  have hpp:2 ^ bits*2 ^ (32-bits)=W:=by rw[←Nat.pow_add,show bits+(32-bits)=32 by omega];rfl
  obtain⟨v1,v2⟩:=norm_spec bs n bits hn (by omega) db hbits (by rw[←hx];exact ht1) (by rw[←hx];exact ht2)
  obtain⟨u0,hu0⟩:∃ u0,u0=padd W (xs.length+1) (val W xs*2 ^ bits):=⟨_,rfl⟩
  obtain⟨vs,hvs⟩:∃ vs,vs=(padd W (n+1) (val W bs*2 ^ bits)).take n:=⟨_,rfl⟩
  rw[←hu0] at gu
  rw[←hvs] at k9
  have lu0:u0.length=xs.length+1:=by rw[hu0,padd_len]
  have lvs:vs.length=n:=by rw[hvs,List.length_take,padd_len];omega
  have du0:∀ d∈u0,d<W:=by rw[hu0];exact padd_lt hW0 _ _
  have dvs:∀ d∈vs,d<W:=by rw[hvs];exact fun d hd=>padd_lt hW0 _ _ d (List.mem_of_mem_take hd)
  have vvs:val W vs=val W bs*2 ^ bits:=by
   have e1:val W (padd W (n+1) (val W bs*2 ^ bits))=val W bs*2 ^ bits:=val_padd hW0 _ _ (Nat.lt_of_lt_of_le v1 (Nat.pow_le_pow_right hW0 (Nat.le_succ n)))
   rw[hvs,(zero_high _ n (by rw[e1];exact v1)).2,e1]
  have hA:val W xs*2 ^ bits<W ^ xs.length*2147483648:=by
   have e1:=val_lt W hW0 xs da
   have e2:val W xs*2 ^ bits<W ^ xs.length*2 ^ bits:=Nat.mul_lt_mul_of_pos_right e1 hp
   exact Nat.lt_of_lt_of_le e2 (Nat.mul_le_mul_left _ hp1)
  have vu0:val W u0=val W xs*2 ^ bits:=by
   rw[hu0]
   refine val_padd hW0 _ _ (Nat.lt_of_lt_of_le hA ?_)
   rw[Nat.pow_succ]
   exact Nat.mul_le_mul_left _ (by decide)
  rw[←vvs] at v1 v2
  have hV:0<val W vs:=Nat.lt_of_lt_of_le (Nat.mul_pos (Nat.pow_pos hW0) (by decide)) v2
  have vtop:=top_digit vs n lvs (by omega) dvs v2
  obtain⟨m,hm⟩:∃ m,m+n=xs.length+1:=⟨xs.length+1-n,by omega⟩
  have hst:=start_lt u0 m n (val W vs) (by omega) (by omega) (by rw[vu0,show m+n-1=xs.length by omega];exact hA) v2
  have hm1:((xs.length:Int)+1-(n:Int))=(m:Int):=by omega
  have hm2:(((xs.length+1:Nat):Int)-(n:Int))=(m:Int):=by omega
  refine go (J8 rTI @wl_idf @wl_one @k7 @k8 @kn @hm1 @hm2) ?_
  refine aw_loop (fun M e s2=>∃ (us qs:List Nat),LongI s' xs.length n m bits u0 vs M us qs e s2) m ?_ ?_
  ·refine⟨u0,List.replicate m 0,?_⟩
   constructor
   ·exact Div.start u0 vs m n (by omega) du0 hst
   all_goals (try (first | refine rn (J8 @k6 @k7 @k8 @k9 @kn @gu @gn @WL_zero) ?_ | exact rn0 (J8 @k6 @k7 @k8 @k9 @kn @gu @gn @WL_zero)))
   all_goals (first | exact shz | (intro i hi;(first | refine rn (fr i hi) ?_ | exact rn0 (fr i hi))) | skip)
  ·clear k6 k7 k8 k9 kn gu gn
   rintro M ee s2 ⟨us,qs,hI⟩
   have kn:=hI.en
   have k4:=hI.k4
   have k6:=hI.k6
   have k7:=hI.k7
   have k8:=hI.k8
   have k9:=hI.k9
   have gu:=hI.gu
   have gq:=hI.gq
   have gn:=hI.gn
   have b1:=hI.hM
   have hD:=hI.dv
   have lu:=hD.lu
   have lq:=hD.lq
   have l5:=WL_len us
   have l6:=WL_len qs
   have l7:=WL_len vs
   by_cases hM0:0<M
   ·obtain⟨J,rfl⟩:∃ J,M=J+1:=⟨M-1,(Nat.sub_add_cancel hM0).symm⟩
    have k10:ee.m 10=.v (.int .i64 (J:Int)):=by rw[hI.k10,ij]
    have hMq:J+1≤qs.length:=by omega
    have hJ1:J+n<us.length:=by omega
    obtain⟨w1,w2,w3,w4⟩:=hD.win hM0 hMq lvs dvs hV
    have hnext:=hD.next hM0 hMq lvs dvs hV rfl
    rw[Nat.add_sub_cancel] at w1 w2 w4 hnext
    clear w2 w3 hst hA vu0 v1 v2 vvs hm1 hm2 ht1 ht2 hp hp1 hpp hxW hx h0 hn l2
    have x2:=win_get us J (n+1) n (by omega)
    have x1:=win_get us J (n+1) (n-1) (by omega)
    have x0:=win_get us J (n+1) (n-2) (by omega)
    have o2:=hd_WL us (J+n) (by omega)
    have o1:=hd_WL us (J+(n-1)) (by omega)
    have o0:=hd_WL us (J+(n-2)) (by omega)
    rw[←x2] at o2
    rw[←x1] at o1
    rw[←x0] at o0
    clear x2 x1 x0
    have dws:∀ d∈(us.drop J).take (n+1),d<W:=fun d hd=>hD.du d (List.mem_of_mem_drop (List.mem_of_mem_take hd))
    obtain⟨ws,hws⟩:∃ ws,ws=(us.drop J).take (n+1):=⟨_,rfl⟩
    rw[←hws] at w1 w4 hnext o2 o1 o0 dws
    have hK2:=kn_of ws vs n w1 lvs h2 dws dvs vtop w4
    clear w4
    have c1:=hd_WL vs (n-1) (by omega)
    have c2:=hd_WL vs (n-2) (by omega)
    have d2:ws.getD n 0<4294967296:=getD_lt W hW0 ws dws _
    have d1:ws.getD (n-1) 0<4294967296:=getD_lt W hW0 ws dws _
    have d0:ws.getD (n-2) 0<4294967296:=getD_lt W hW0 ws dws _
    have d3:vs.getD (n-1) 0<4294967296:=getD_lt W hW0 vs dvs _
    have d4:vs.getD (n-2) 0<4294967296:=getD_lt W hW0 vs dvs _
    generalize ws.getD n 0=y2 at *
    generalize ws.getD (n-1) 0=y1 at *
    generalize ws.getD (n-2) 0=y0 at *
    generalize vs.getD (n-1) 0=z1 at *
    generalize vs.getD (n-2) 0=z0 at *
    obtain⟨tp,htp⟩:∃ tp,tp=y2*W+y1:=⟨_,rfl⟩
    rw[←htp] at hK2
    have htp':tp=y2*4294967296+y1:=htp
    clear htp
    have e0:(2:Int) ^ min (Int.toNat 32) 64=4294967296:=rfl
    have i2:=ix2 J n
    have i1:=ix1 J n h2
    have i0:=ix0 J n h2
    have m1:=im1 n h2
    have m0:=im0 n h2
    refine go (J5 rTI @wl_idf @wl_one @kn @k10) ?_
    refine ifs ?_ ?_ <;> first | exact nope | intro hb
    refine go (J5 rTI @wl_idf @wl_one @kn @k10) ?_
    refine aw_drw (.take 0 (.take 1 (.take 2 (.take 3 (.take 4 (.take 5 (.take 6 (.take 7 (.take 8 (.take 9 (.take 10 (.take 11 (.take 12 (.take 13 (.take 14 (.take 15 (.take 16 (.take 17 (.done))))))))))))))))))) [s'.nx] (by kernel_rfl) (by kernel_rfl) fun K hK=>?_;simp (disch:=omega) only [↓core,↓List.getElem?_toArray,↓List.getElem?_cons_succ,↓List.getElem?_cons_zero,↓onO_some,more,xbuild,if_pos,if_neg,onO_some,onO_none,onV_eq,xbuiltin,xlen,xload,loadA,xstore,spl,xfield,xindexAddr,xindex,xslice,bnd,xbin,xint,xshift,xstr,xeq,xun,xconv,xmake,xappend,xsrc,xbuildSlice,fillA,xminmax,gval,isK,mapM_nil_o,mapM_cons_o,AV.cells,AV.boxable,AV.one,TI.agg,resA,retA,zrow_one,eq_self,List.map,List.map_cons,List.map_nil,Option.map_some,Option.map_none,Option.bind_some,Option.bind_none,↓reduceIte,Nat.reduceLT,Nat.reduceEqDiff,Nat.reduceAdd,Nat.reduceMul,Nat.mul_one,Nat.reduceLeDiff,decide_true,decide_false,true_and,and_true,if_true,if_false,List.toList_toArray,List.size_toArray,beq_self_eq_true,Bool.true_eq_false,Bool.false_eq_true,forall_const,false_implies,implies_true,undef,IntKind.bits,List.drop_zero,List.drop_succ_cons,List.take_succ_cons,List.take_zero,List.length_cons,List.length_nil,List.set_cons_zero,List.set_cons_succ,List.head?_cons,List.all_cons,List.all_nil,List.replicate_succ,List.replicate_zero,Bool.and_true,Bool.and_self,Value.oneCell',Bool.true_and,Bool.or_true,Bool.or_false,Bool.not_true,Bool.not_false,↓drows,gt_true,gt_false,tk,held_nil,held_cons,List.mem_cons,List.not_mem_nil,or_false,or_true,true_or,false_or,eq_self,and_self,ti178,ti207,ti150,ti210,ti3,ti4,wl_idf,wl_one,kn,k7,k8,k10,gu,l5,lu,lu0,o1,o2,i1,i2,e0,↓xor64,Nat.zero_add];refine hK _ _ ?_;clear hK K
    obtain⟨q,hq⟩:∃ q,q=val W ws / val W vs:=⟨_,rfl⟩
    have gstart:=hK2.start
    have z1p:=hK2.v1pos
    have gdown:∀ d rest,d*z1+rest=tp→q≤d→(W≤d∨rest*W+y0<d*z0)→0<d∧q≤d-1:=fun d rest=>by rw[hq];exact hK2.down
    have gstop:∀ d rest,d*z1+rest=tp→d<W→d*z0≤rest*W+y0→d≤q+1:=fun d rest=>by rw[hq];exact hK2.stop
    have gover:∀ d rest,d*z1+rest=tp→W≤rest→d<W∧d*z0≤rest*W+y0:=fun d rest=>hK2.over
    rw[←hq] at gstart hnext
    clear hK2
    rw[then_normal]
    have tdm:=Nat.div_add_mod tp z1
    have tml:=Nat.mod_lt tp z1p
    obtain⟨dd,hdd⟩:∃ dd,dd=tp / z1:=⟨_,rfl⟩
    obtain⟨rr,hrr⟩:∃ rr,rr=tp % z1:=⟨_,rfl⟩
    rw[←hdd,←hrr,Nat.mul_comm] at tdm
    rw[←hrr] at tml
    rw[←hdd] at gstart
    obtain⟨gs1,gs2⟩:=gstart
    have gs3:dd≤4294967297:=gs2
    have e1:∀ x:Int,x=(tp:Int)→x / (z1:Int)=(dd:Int):=fun x hx=>by rw[hx,hdd,Int.natCast_ediv]
    have e2:∀ x:Int,x=(tp:Int)→x % (z1:Int)=(rr:Int):=fun x hx=>by rw[hx,hrr,Int.natCast_emod]
    clear hdd hrr gs2
    refine aw_seq ?_
    refine aw_drw (.take 0 (.take 1 (.take 2 (.take 3 (.take 4 (.take 5 (.take 6 (.take 7 (.take 8 (.take 9 (.take 10 (.take 11 (.take 12 (.take 13 (.take 14 (.take 15 (.take 16 (.take 17 (.done))))))))))))))))))) [] (by kernel_rfl) (by kernel_rfl) fun K hK=>?_;refine dr (J15 rTI @wl_idf @wl_one @kn @k7 @k8 @k9 @k10 @c1 @m1 @e1 @e2 @lvs @l7 @Nat.zero_add) ?_;refine hK _ _ ?_;clear hK K
    rw[then_normal]
    refine aw_seq ?_
    refine aw_block ?_
    refine aw_at (.exit 4) (fun e4 s4=>∃ d:Nat,s4=s2∧e4.n=166∧e4.m 4=.own (s'.nx+2) 0 m 1∧e4.m 6=.v (.int .u64 bits)∧e4.m 7=.v (.int .i64 n)∧e4.m 8=.own s'.nx 0 (xs.length+1) 1∧e4.m 9=.sl n (WL vs)∧e4.m 10=.v (.int .i64 (J:Int)) ∧
     e4.m 12=.v (.int .u64 d)∧d<W∧q≤d∧d≤q+1) ?_ ?_
    ·refine aw_loop (fun d e4 s4=>∃ rest:Nat,s4=s2∧e4.n=166∧e4.m 4=.own (s'.nx+2) 0 m 1∧e4.m 6=.v (.int .u64 bits)∧e4.m 7=.v (.int .i64 n)∧e4.m 8=.own s'.nx 0 (xs.length+1) 1∧e4.m 9=.sl n (WL vs)∧e4.m 10=.v (.int .i64 (J:Int)) ∧
      e4.m 12=.v (.int .u64 d)∧e4.m 13=.v (.int .u64 rest)∧d*z1+rest=tp∧q≤d∧d≤4294967297∧rest<4294967296) dd ?_ ?_
     ·refine⟨rr,?_⟩
      refine rn (J7 @kn @k4 @k6 @k7 @k8 @k9 @k10) ?_
      exact⟨tdm,gs1,gs3,by omega⟩
     ·clear kn k4 k6 k7 k8 k9 k10 e1 e2 gs1 gs3 tdm
      rintro d e4 s4 ⟨rest,rfl,kn,k4,k6,k7,k8,k9,k10,k12,k13,r1,r2,r3,r4⟩
      have z1':((z1:Nat):Int)≤4294967295:=by omega
      refine aw_seq ?_
      refine aw_seq ?_
      by_cases qa:4294967295<d
      ·obtain⟨g1,g2⟩:=gdown d rest r1 r2 (.inl qa)
       obtain⟨d',rfl⟩:∃ d',d=d'+1:=⟨d-1,(Nat.sub_add_cancel g1).symm⟩
       rw[Nat.add_sub_cancel] at g2
       have r5:d'*z1+(rest+z1)=tp:=by rw[Nat.add_mul,Nat.one_mul] at r1;omega
       have e6:((d'+1:Nat):Int)-1=(d':Int):=by omega
       have e7:(rest:Int)+(z1:Int)=((rest+z1:Nat):Int):=rfl
       have r6:rest+z1<8589934592:=by omega
       have over:=gover d' (rest+z1) r5
       refine aw_drw (.take 0 (.take 1 (.take 2 (.take 3 (.take 4 (.take 5 (.take 6 (.take 7 (.take 8 (.take 9 (.take 10 (.take 11 (.take 12 (.take 13 (.take 14 (.take 15 (.take 16 (.take 17 (.take 18 (.take 19 (.take 20 (.take 21 (.take 22 (.take 23 (.take 24 (.take 25 (.take 26 (.take 27 (.done))))))))))))))))))))))))))))) [s'.nx] (by kernel_rfl) (by kernel_rfl) fun K hK=>?_;refine dr (J10 rTI @wl_idf @wl_one @kn @k7 @k8 @k9 @k10 @k12 @k13) ?_;refine hK _ _ ?_;clear hK K
       rw[then_normal]
       refine ifs ?_ ?_ <;> first | exact nope | intro hb
       generalize rest+z1=rest2 at *
       refine go (J19 rTI @wl_idf @wl_one @kn @k4 @k6 @k7 @k8 @k9 @k10 @k12 @k13 @c1 @m1 @lvs @l7 @e6 @e7 @Nat.zero_add) ?_
       by_cases qc:4294967295<rest2
       ·obtain⟨o5,o6⟩:=over qc
        rw[then_normal]
        refine ifs ?_ ?_ <;> first | exact nope | intro hb
        refine go (J10 rTI @wl_idf @wl_one @kn @k4 @k6 @k7 @k8 @k9 @k10) ?_
        exact⟨d',rfl,o5,g2,gstop d' rest2 r5 o5 o6⟩
       ·rw[then_normal]
        refine ifs ?_ ?_ <;> first | exact nope | intro hb
        refine go (J10 rTI @wl_idf @wl_one @kn @k4 @k6 @k7 @k8 @k9 @k10) ?_
        refine⟨d',by omega,rest2,?_⟩
        refine rn (J7 @kn @k4 @k6 @k7 @k8 @k9 @k10) ?_
        exact⟨r5,g2,by omega,by omega⟩
      ·obtain⟨pr,hpr⟩:∃ pr,pr=d*z0:=⟨_,rfl⟩
       have pr1:pr≤4294967295*4294967295:=by rw[hpr];exact Nat.mul_le_mul (by omega) (by omega)
       have e5:(d:Int)*(z0:Int)=(pr:Int):=by rw[hpr,Int.natCast_mul]
       by_cases qb:rest*4294967296+y0<pr
       ·refine aw_drw (.take 0 (.take 1 (.take 2 (.take 3 (.take 4 (.take 5 (.take 6 (.take 7 (.take 8 (.take 9 (.take 10 (.take 11 (.take 12 (.take 13 (.take 14 (.take 15 (.take 16 (.take 17 (.take 18 (.take 19 (.take 20 (.take 21 (.take 22 (.take 23 (.take 24 (.take 25 (.take 26 (.take 27 (.done))))))))))))))))))))))))))))) [s'.nx] (by kernel_rfl) (by kernel_rfl) fun K hK=>?_;simp (disch:=omega) only [↓core,↓List.getElem?_toArray,↓List.getElem?_cons_succ,↓List.getElem?_cons_zero,↓onO_some,more,xbuild,if_pos,if_neg,onO_some,onO_none,onV_eq,xbuiltin,xlen,xload,loadA,xstore,spl,xfield,xindexAddr,xindex,xslice,bnd,xbin,xint,xshift,xstr,xeq,xun,xconv,xmake,xappend,xsrc,xbuildSlice,fillA,xminmax,gval,isK,mapM_nil_o,mapM_cons_o,AV.cells,AV.boxable,AV.one,TI.agg,resA,retA,zrow_one,eq_self,List.map,List.map_cons,List.map_nil,Option.map_some,Option.map_none,Option.bind_some,Option.bind_none,↓reduceIte,Nat.reduceLT,Nat.reduceEqDiff,Nat.reduceAdd,Nat.reduceMul,Nat.mul_one,Nat.reduceLeDiff,decide_true,decide_false,true_and,and_true,if_true,if_false,List.toList_toArray,List.size_toArray,beq_self_eq_true,Bool.true_eq_false,Bool.false_eq_true,forall_const,false_implies,implies_true,undef,IntKind.bits,List.drop_zero,List.drop_succ_cons,List.take_succ_cons,List.take_zero,List.length_cons,List.length_nil,List.set_cons_zero,List.set_cons_succ,List.head?_cons,List.all_cons,List.all_nil,List.replicate_succ,List.replicate_zero,Bool.and_true,Bool.and_self,Value.oneCell',Bool.true_and,Bool.or_true,Bool.or_false,Bool.not_true,Bool.not_false,↓drows,gt_true,gt_false,tk,held_nil,held_cons,List.mem_cons,List.not_mem_nil,or_false,or_true,true_or,false_or,eq_self,and_self,ti178,ti207,ti150,ti210,ti3,ti4,wl_idf,wl_one,kn,k7,k8,k9,k10,k12,k13,gu,l5,lu,lu0,l7,lvs,c2,o0,i0,m0,e0,e5,↓xor64,Nat.zero_add];refine hK _ _ ?_;clear hK K
        obtain⟨g1,g2⟩:=gdown d rest r1 r2 (.inr (by rw[←hpr];exact qb))
        obtain⟨d',rfl⟩:∃ d',d=d'+1:=⟨d-1,(Nat.sub_add_cancel g1).symm⟩
        rw[Nat.add_sub_cancel] at g2
        have r5:d'*z1+(rest+z1)=tp:=by rw[Nat.add_mul,Nat.one_mul] at r1;omega
        have e6:((d'+1:Nat):Int)-1=(d':Int):=by omega
        have e7:(rest:Int)+(z1:Int)=((rest+z1:Nat):Int):=rfl
        have r6:rest+z1<8589934592:=by omega
        have over:=gover d' (rest+z1) r5
        rw[then_normal]
        refine ifs ?_ ?_ <;> first | exact nope | intro hb
        generalize rest+z1=rest2 at *
        refine go (J19 rTI @wl_idf @wl_one @kn @k4 @k6 @k7 @k8 @k9 @k10 @k12 @k13 @c1 @m1 @lvs @l7 @e6 @e7 @Nat.zero_add) ?_
        by_cases qc:4294967295<rest2
        ·obtain⟨o5,o6⟩:=over qc
         rw[then_normal]
         refine ifs ?_ ?_ <;> first | exact nope | intro hb
         refine go (J10 rTI @wl_idf @wl_one @kn @k4 @k6 @k7 @k8 @k9 @k10) ?_
         exact⟨d',rfl,o5,g2,gstop d' rest2 r5 o5 o6⟩
        ·rw[then_normal]
         refine ifs ?_ ?_ <;> first | exact nope | intro hb
         refine go (J10 rTI @wl_idf @wl_one @kn @k4 @k6 @k7 @k8 @k9 @k10) ?_
         refine⟨d',by omega,rest2,?_⟩
         refine rn (J7 @kn @k4 @k6 @k7 @k8 @k9 @k10) ?_
         exact⟨r5,g2,by omega,by omega⟩
       ·refine aw_drw (.take 0 (.take 1 (.take 2 (.take 3 (.take 4 (.take 5 (.take 6 (.take 7 (.take 8 (.take 9 (.take 10 (.take 11 (.take 12 (.take 13 (.take 14 (.take 15 (.take 16 (.take 17 (.take 18 (.take 19 (.take 20 (.take 21 (.take 22 (.take 23 (.take 24 (.take 25 (.take 26 (.take 27 (.done))))))))))))))))))))))))))))) [s'.nx] (by kernel_rfl) (by kernel_rfl) fun K hK=>?_;simp (disch:=omega) only [↓core,↓List.getElem?_toArray,↓List.getElem?_cons_succ,↓List.getElem?_cons_zero,↓onO_some,more,xbuild,if_pos,if_neg,onO_some,onO_none,onV_eq,xbuiltin,xlen,xload,loadA,xstore,spl,xfield,xindexAddr,xindex,xslice,bnd,xbin,xint,xshift,xstr,xeq,xun,xconv,xmake,xappend,xsrc,xbuildSlice,fillA,xminmax,gval,isK,mapM_nil_o,mapM_cons_o,AV.cells,AV.boxable,AV.one,TI.agg,resA,retA,zrow_one,eq_self,List.map,List.map_cons,List.map_nil,Option.map_some,Option.map_none,Option.bind_some,Option.bind_none,↓reduceIte,Nat.reduceLT,Nat.reduceEqDiff,Nat.reduceAdd,Nat.reduceMul,Nat.mul_one,Nat.reduceLeDiff,decide_true,decide_false,true_and,and_true,if_true,if_false,List.toList_toArray,List.size_toArray,beq_self_eq_true,Bool.true_eq_false,Bool.false_eq_true,forall_const,false_implies,implies_true,undef,IntKind.bits,List.drop_zero,List.drop_succ_cons,List.take_succ_cons,List.take_zero,List.length_cons,List.length_nil,List.set_cons_zero,List.set_cons_succ,List.head?_cons,List.all_cons,List.all_nil,List.replicate_succ,List.replicate_zero,Bool.and_true,Bool.and_self,Value.oneCell',Bool.true_and,Bool.or_true,Bool.or_false,Bool.not_true,Bool.not_false,↓drows,gt_true,gt_false,tk,held_nil,held_cons,List.mem_cons,List.not_mem_nil,or_false,or_true,true_or,false_or,eq_self,and_self,ti178,ti207,ti150,ti210,ti3,ti4,wl_idf,wl_one,kn,k7,k8,k9,k10,k12,k13,gu,l5,lu,lu0,l7,lvs,c2,o0,i0,m0,e0,e5,↓xor64,Nat.zero_add];refine hK _ _ ?_;clear hK K
        rw[then_normal]
        refine ifs ?_ ?_ <;> first | exact nope | intro hb
        refine go (J10 rTI @wl_idf @wl_one @kn @k4 @k6 @k7 @k8 @k9 @k10) ?_
        exact⟨d,k12,(by show d<4294967296;omega),r2,gstop d rest r1 (by show d<4294967296;omega) (by rw[←hpr];exact Nat.le_of_not_lt qb)⟩
    ·clear kn k4 k6 k7 k8 k9 k10 e1 e2 gs1 gs3 tdm tml gdown gstop gover z1p c1 c2 d0 d1 d2 d3 d4 htp' o0 o1 o2 i0 i1 i2 m0 m1
     rintro e4 s4 ⟨d,rfl,kn,k4,k6,k7,k8,k9,k10,k12,dW,q1,q2⟩
     refine rn trivial ?_
     have j0:((J:Int)+(n:Int)+1).toNat=J+n+1:=by omega
     have j1:J+n+1-J=n+1:=by omega
     rw[hws] at hq
     rw[hq] at q1 q2
     have htake:=take_ax us s'.nx J (n+1) vs d s4 gu (by omega) (by omega) hD.du dvs (by omega) hV dW q1 q2
     rw[←hws] at htake hq
     rw[←hq] at htake
     clear q1 q2
     refine aw_reg fun K hK=>?_
     refine rn (J14 rTI @wl_idf @wl_one @kn @k4 @k6 @k7 @k8 @k9 @k10 @k12 @j0 @j1 @Nat.zero_add) ?_
     rw[show AV.sl n (WL vs)=WN vs by rw[←lvs];rfl]
     refine cont_go htake ?_
     rintro _ s5 ⟨rfl,hw⟩
     have g4:=hw.fr (s'.nx+2) (by omega)
     rw[gq] at g4
     refine rn (J15 rTI @wl_idf @wl_one @kn @k4 @k6 @k7 @k8 @k9 @k10 @k12 @g4 @l6 @lq @Nat.zero_add) ?_
     refine hK _ _ ?_
     clear hK K
     have ij1:(J:Int)-1=(J:Int)-1:=rfl
     refine go (J10 rTI @wl_idf @wl_one @kn @k4 @k6 @k7 @k8 @k9 @k10) ?_
     refine⟨J,by omega,plug us J (padd W (n+1) (val W ws % val W vs)),qs.set J q,?_⟩
     have gw:=hw.g
     have gwn:=hw.nx
     have gwf:∀ i,i<s'.nx→s5.get i=s'.get i:=fun i hi=>by
      rw[hw.fr i (by omega)]
      exact hI.fr i hi
     constructor
     ·exact hnext
     all_goals (try (first | refine rn (J11 @kn @k4 @k6 @k7 @k8 @k9 @k10 @gw @gwn @gn @WL_set) ?_ | exact rn0 (J11 @kn @k4 @k6 @k7 @k8 @k9 @k10 @gw @gwn @gn @WL_set)))
     all_goals (first | exact shz | (intro i hi;(first | refine rn (gwf i hi) ?_ | exact rn0 (gwf i hi))) | skip)
   ·obtain rfl:M=0:=by omega
    have hr:=hD.hr
    have hq:=hD.hq
    rw[List.drop_zero,List.drop_zero,vu0,vvs] at hr hq
    rw[Nat.mul_mod_mul_right] at hr
    rw[Nat.mul_div_mul_right _ _ hp] at hq
    have hqs:=padd_eq hW0 qs hD.dq m _ (by omega) hq
    have husn:val W us<W ^ n:=by
     have:=hD.hr
     rw[List.drop_zero] at this
     rw[this]
     have h9:=val_lt W hW0 vs dvs
     rw[lvs] at h9
     exact Nat.lt_trans (Nat.mod_lt _ hV) h9
    obtain⟨z1,z2⟩:=zero_high us n husn
    have z3:us.getD n 0=0:=by
     have:=zero_digit _ z1 0
     rw[getD_drop,Nat.add_zero] at this
     exact this
    have z4:=low_mod us bits hpp
    rw[hr,Nat.mul_mod_left] at z4
    have dus:=hD.du
    have frI:=hI.fr
    have hmn:=hI.k10
    clear hst hA vu0 v1 v2 vvs hm1 hm2 ht1 ht2 hxW hx h0 hn l2 hI hD husn hq vtop hV
    refine go (J5 rTI @wl_idf @wl_one @kn @hmn) ?_
    refine ifs ?_ ?_ <;> first | exact nope | intro hb
    refine go (J5 rTI @wl_idf @wl_one @kn @k7) ?_
    refine aw_loop (fun z e s4=>∃ (k:Nat) (rs:List Nat),RestI s2 s'.nx n xs.length m bits us z k rs e s4) n ?_ ?_
    ·refine⟨0,List.replicate n 0,?_⟩
     constructor
     ·exact Out.push s2 n
     all_goals (try (first | refine rn (J5 @kn @k4 @k6 @k7 @k8) ?_ | exact rn0 (J5 @kn @k4 @k6 @k7 @k8)))
     all_goals (first | exact shz | (intro i hi;(first | refine rn (frI i hi) ?_ | exact rn0 (frI i hi))) | skip)
     all_goals simp [val]
    ·clear kn k4 k6 k7 k8 k9
     rintro z e4 s4 ⟨k,rs,hI⟩
     have kn:=hI.en
     have k4:=hI.k4
     have k5:=hI.k5
     have k6:=hI.k6
     have k8:=hI.k8
     have k139:=hI.k139
     have k140:=hI.k140
     have gr:=hI.o.g
     have hlr:=hI.o.len
     have l8:=WL_len rs
     have b3:=hI.hz
     have b4:=hI.hk
     have gu4:=hI.o.fr s'.nx (by omega)
     rw[gu] at gu4
     have gq4:=hI.o.fr (s'.nx+2) (by omega)
     rw[gq] at gq4
     by_cases hk:k<n
     ·have o1:=hd_WL us k (by omega)
      have o2:=hd_WL us (k+1) (by omega)
      have p1:us.getD k 0<W:=getD_lt W hW0 us dus _
      have p2:us.getD (k+1) 0<W:=getD_lt W hW0 us dus _
      have hst:=shr_step us (val W (rs.take k)) k (2 ^ bits) (2 ^ (32-bits)) (us.getD 0 0 % 2 ^ bits) hp hpp hI.hv
      rw[←set_tk _ _ _ (by omega)] at hst
      obtain⟨t,ht⟩:∃ t,t=us.getD (k+1) 0*2 ^ (32-bits):=⟨_,rfl⟩
      have hpc:2 ^ (32-bits)≤2 ^ 32:=Nat.pow_le_pow_right (by decide) (by omega)
      have t1:t<18446744073709551616:=by
       have:us.getD (k+1) 0*2 ^ (32-bits)≤4294967295*2 ^ 32:=Nat.mul_le_mul (Nat.le_of_lt_succ p2) hpc
       omega
      have htm:t % W=us.getD (k+1) 0 % 2 ^ bits*2 ^ (32-bits):=by rw[ht,←hpp,Nat.mul_mod_mul_right]
      have hx1:us.getD k 0 / 2 ^ bits<2 ^ (32-bits):=by
       rw[Nat.div_lt_iff_lt_mul hp,Nat.mul_comm,hpp]
       exact p1
      have hmW:t % W<W:=Nat.mod_lt _ hW0
      have hadd:=or_add 32 (32-bits) (us.getD k 0 / 2 ^ bits) (us.getD (k+1) 0 % 2 ^ bits) hx1 (by rw[←htm];exact hmW) (by omega)
      rw[←htm] at hadd hst
      have hor2:us.getD k 0 / 2 ^ bits+t % W<W:=by
       have h9:(BitVec.ofInt 32 ((us.getD k 0 / 2 ^ bits:Nat):Int) ||| BitVec.ofInt 32 ((t % W:Nat):Int)).toNat<2 ^ 32:=BitVec.isLt _
       rw[hadd] at h9
       exact h9
      have hxor:xint .or .u32 ((us.getD k 0 / 2 ^ bits:Nat):Int) ((t % W:Nat):Int)=some (.int .u32 ((us.getD k 0 / 2 ^ bits+t % W:Nat):Int)):=by
       exact xor_of _ _ hadd hor2
      have e1:((us.getD (k+1) 0:Nat):Int)*2 ^ (32-bits)=(t:Int):=by rw[ht,Int.natCast_mul,Int.natCast_pow];rfl
      have e2:((us.getD k 0:Nat):Int).fdiv (2 ^ min bits 32)=((us.getD k 0 / 2 ^ bits:Nat):Int):=by
       rw[Nat.min_eq_left (by omega),Int.fdiv_eq_ediv_of_nonneg _ (Int.le_of_lt (Int.pow_pos (by decide))),Int.natCast_ediv,Int.natCast_pow]
       rfl
      have e3:=w32 t
      have hput:=hI.o.put k _ hor2 rfl rfl
      have i3:=ix3 k
      have i4:=ix4 bits hbits
      have i5:min (32-bits) 64=32-bits:=by omega
      have z5:(k:Int)+1=((k+1:Nat):Int):=rfl
      generalize t % W=u at *
      generalize us.getD k 0 / 2 ^ bits=v at *
      generalize hww:us.getD (k+1) 0=w at *
      generalize us.getD k 0=w' at *
      clear ht htm hadd hpc hx1 hp1
      have p2':w<4294967296:=p2
      have p1':w'<4294967296:=p1
      refine go (J6 rTI @wl_idf @wl_one @kn @k139 @k140) ?_
      refine ifs ?_ ?_ <;> first | exact nope | intro hb
      refine go (J5 rTI @wl_idf @wl_one @kn @k140) ?_
      refine aw_drw (.take 0 (.take 1 (.take 2 (.take 3 (.take 4 (.take 5 (.take 6 (.take 7 (.take 8 (.take 9 (.take 10 (.take 11 (.take 12 (.take 13 (.take 14 (.take 15 (.take 16 (.take 17 (.take 18 (.take 19 (.one 20 (.done)))))))))))))))))))))) [s'.nx] (by kernel_rfl) (by kernel_rfl) fun K hK=>?_;simp (disch:=omega) only [↓core,↓List.getElem?_toArray,↓List.getElem?_cons_succ,↓List.getElem?_cons_zero,↓onO_some,more,xbuild,if_pos,if_neg,onO_some,onO_none,onV_eq,xbuiltin,xlen,xload,loadA,xstore,spl,xfield,xindexAddr,xindex,xslice,bnd,xbin,xint,xshift,xstr,xeq,xun,xconv,xmake,xappend,xsrc,xbuildSlice,fillA,xminmax,gval,isK,mapM_nil_o,mapM_cons_o,AV.cells,AV.boxable,AV.one,TI.agg,resA,retA,zrow_one,eq_self,List.map,List.map_cons,List.map_nil,Option.map_some,Option.map_none,Option.bind_some,Option.bind_none,↓reduceIte,Nat.reduceLT,Nat.reduceEqDiff,Nat.reduceAdd,Nat.reduceMul,Nat.mul_one,Nat.reduceLeDiff,decide_true,decide_false,true_and,and_true,if_true,if_false,List.toList_toArray,List.size_toArray,beq_self_eq_true,Bool.true_eq_false,Bool.false_eq_true,forall_const,false_implies,implies_true,undef,IntKind.bits,List.drop_zero,List.drop_succ_cons,List.take_succ_cons,List.take_zero,List.length_cons,List.length_nil,List.set_cons_zero,List.set_cons_succ,List.head?_cons,List.all_cons,List.all_nil,List.replicate_succ,List.replicate_zero,Bool.and_true,Bool.and_self,Value.oneCell',Bool.true_and,Bool.or_true,Bool.or_false,Bool.not_true,Bool.not_false,↓drows,gt_true,gt_false,tk,held_nil,held_cons,List.mem_cons,List.not_mem_nil,or_false,or_true,true_or,false_or,eq_self,and_self,ti178,ti207,ti150,ti210,ti3,ti4,wl_idf,wl_one,kn,k4,k5,k6,k8,k140,gu4,gr,l5,lu,lu0,l8,hlr,o1,o2,i3,i4,i5,e1,e2,e3,↓hxor,Nat.zero_add];refine hK _ _ ?_;clear hK K
      refine rn trivial ?_
      refine go (cj @kn @k140) ?_
      refine⟨n-(k+1),by omega,k+1,rs.set k (v+u),?_,?_,?_,?_,?_,?_,?_,?_,rfl,by omega,by rw[hww];exact hst⟩
      all_goals (try exact rn0 (J8 @kn @k4 @k5 @k6 @k8 @k139 @k140 @z5))
      all_goals (first | exact shz | (intro i hi;(first | refine rn @kn ?_ | exact rn0 @kn)) | skip)
     ·obtain rfl:k=n:=by omega
      have hv:=hI.hv
      rw[z3,Nat.zero_mod,Nat.mul_zero,Nat.add_zero,z4,Nat.add_zero,z2,hr,List.take_of_length_le (by omega)] at hv
      have hv2:=Nat.eq_of_mul_eq_mul_right hp hv
      have hrs:=padd_eq hW0 rs hI.o.lt k _ hlr hv2
      refine go (J6 rTI @wl_idf @wl_one @kn @k139 @k140) ?_
      refine ifs ?_ ?_ <;> first | exact nope | intro hb
      refine go (J6 rTI @wl_idf @wl_one @kn @k4 @k5) ?_
      refine⟨s'.nx+2,_,s2.nx,_,by omega,by omega,by omega,gq4,gr,?_,fun j hj=>?_⟩
      ·refine rn frw ?_
       rw[WL_tk,frzL_WL,List.take_of_length_le (l:=qs) (by omega),WL_take rs k hlr,show xs.length+1-k=m by omega,←hqs,←hrs,hlr,show qs.length=m by omega]
      ·rw[hI.o.fr j (by omega)]
       exact frI j hj
end BigE
namespace BigF
open Go Go.RowKit Ax Ti BigM BigN BigA BigK BigB BigC BigD BigL BigE
theorem rTI:type_of% (J6 @ti178 @ti207 @ti150 @ti210 @ti3 @ti4):=cj @ti178 (J5 @ti207 @ti150 @ti210 @ti3 @ti4)
def lw (n:Nat):Nat:=(digs W n).length
theorem lw_zero (n:Nat):lw n=0↔n=0:=by unfold lw;rw[List.length_eq_zero_iff,digs_nil W hW]
theorem lw_lt (n k:Nat):n<W ^ k↔lw n≤k:=(digs_length_le W hW k n).symm
theorem lw_mono {a b:Nat} (h:a≤b):lw a≤lw b:=(lw_lt _ _).1 (Nat.lt_of_le_of_lt h ((lw_lt b _).2 (Nat.le_refl _)))
theorem lw_mul (a b:Nat):lw (a*b)≤lw a+lw b:=by
 rw[←lw_lt,Nat.pow_add]
 exact Nat.mul_lt_mul'' ((lw_lt a _).2 (Nat.le_refl _)) ((lw_lt b _).2 (Nat.le_refl _))
def WD (n:Nat):AV:=WN (digs W n)
def divQ (x y:Nat):List Nat:=if x<y then [] else if lw y=1 then padd W (lw x) (x / y) else padd W (lw x+1-lw y) (x / y)
def divR (x y:Nat):List Nat:=if x<y then digs W x else if lw y=1 then [x % y] else padd W (lw y) (x % y)
theorem lw_pow (n:Nat):n<W ^ lw n:=(lw_lt n _).2 (Nat.le_refl _)
theorem lw_low (n:Nat) (h:0<n):W ^ (lw n-1)≤n:=digs_pow_le W hW n h
theorem div_lw (x y:Nat) (hy:0<y) (h:lw y≤lw x):x / y<W ^ (lw x+1-lw y):=by
 rw[Nat.div_lt_iff_lt_mul hy]
 have h1:=lw_low y hy
 have h2:=lw_pow x
 have h4:lw y≠0:=fun e=>by rw[lw_zero] at e;omega
 have h3:W ^ lw x=W ^ (lw x+1-lw y)*W ^ (lw y-1):=by
  rw[←Nat.pow_add,show lw x+1-lw y+(lw y-1)=lw x by omega]
 rw[h3] at h2
 exact Nat.lt_of_lt_of_le h2 (Nat.mul_le_mul_left _ h1)
theorem divQ_spec (x y:Nat) (hy:0<y):trimZ (divQ x y)=digs W (x / y)∧(∀ d∈divQ x y,d<W)∧(divQ x y).length≤lw x:=by
 unfold divQ
 by_cases h:x<y
 ·rw[if_pos h,Nat.div_eq_of_lt h,digs_zero]
  exact⟨rfl,fun d hd=>(by cases hd),Nat.zero_le _⟩
 ·have h1:lw y≤lw x:=lw_mono (by omega)
  rw[if_neg h]
  by_cases h2:lw y=1
  ·rw[if_pos h2]
   exact⟨padd_trim hW _ _ (Nat.lt_of_le_of_lt (Nat.div_le_self _ _) (lw_pow x)),padd_lt hW0 _ _,by rw[padd_len];exact Nat.le_refl _⟩
  ·rw[if_neg h2]
   have h4:lw y≠0:=fun e=>by rw[lw_zero] at e;omega
   exact⟨padd_trim hW _ _ (div_lw x y hy h1),padd_lt hW0 _ _,by rw[padd_len];omega⟩
theorem divR_spec (x y:Nat) (hy:0<y):trimZ (divR x y)=digs W (x % y)∧(∀ d∈divR x y,d<W)∧(divR x y).length≤lw x:=by
 unfold divR
 by_cases h:x<y
 ·rw[if_pos h,Nat.mod_eq_of_lt h,digs_trim W hW]
  exact⟨rfl,digs_lt W hW x,Nat.le_refl _⟩
 ·have h1:lw y≤lw x:=lw_mono (by omega)
  have hm:=Nat.mod_lt x hy
  rw[if_neg h]
  by_cases h2:lw y=1
  ·rw[if_pos h2]
   have h5:x % y<W:=by
    have:=lw_pow y
    rw[h2,Nat.pow_one] at this
    omega
   have e:[x % y]=padd W 1 (x % y):=by
    rw[padd,padd,Nat.mod_eq_of_lt h5]
   rw[e]
   exact⟨padd_trim hW _ _ (by rw[Nat.pow_one];exact h5),padd_lt hW0 _ _,by rw[padd_len];omega⟩
  ·rw[if_neg h2]
   exact⟨padd_trim hW _ _ (Nat.lt_trans hm (lw_pow y)),padd_lt hW0 _ _,by rw[padd_len];exact h1⟩
theorem digs_one (y:Nat) (h:lw y=1):digs W y=[y]:=by
 obtain⟨d,hd⟩:=List.length_eq_one_iff.1 h
 have:=val_digs W hW y
 rw[hd] at this ⊢
 simp only[val,Nat.mul_zero,Nat.add_zero] at this
 rw[this]
theorem digs_last (y:Nat) (h:0<lw y):(digs W y).getD (lw y-1) 0≠0:=fun e=>by
 have h1:=trimZ_last (digs W y) (lw y) h (Nat.le_refl _) e
 rw[show lw y=(digs W y).length from rfl,List.take_length,digs_trim W hW] at h1
 have h2:=congrArg (val W) h1
 rw[val_trimZ,val_digs W hW] at h2
 have h3:=val_lt W hW0 ((digs W y).take (lw y-1)) (fun d hd=>digs_lt W hW y d (List.mem_of_mem_take hd))
 rw[List.length_take,Nat.min_eq_left (by unfold lw;omega)] at h3
 rw[show (digs W y).length=lw y from rfl] at h2
 rw[h2] at h3
 have h4:y≠0:=fun e0=>by rw[←lw_zero] at e0;omega
 have:=lw_low y (by omega)
 omega
theorem divide_ax (x y:Nat) (hy:0<y) (hx:lw x≤1000000000000) (ly:lw y≤1000000000000):PCall Tryz.prog 204 [WD x,WD y] (.tp [WN (divQ x y),WN (divR x y)]):=by
 have hc:=cmp_ax x y (by unfold lw at hx;omega) (by unfold lw at ly;omega)
 have n1:(digs W x).length=lw x:=rfl
 have n2:(digs W y).length=lw y:=rfl
 by_cases h:x<y
 ·rw[cmpN_lt h] at hc
  refine pcall_le fun s=>?_
  refine acall_of Tryz.func204 rfl rfl (by simp [Tryz.ntmps204]) ?_;rw[Tryz.ntmps204,Tryz.results204]
  unfold WD at *
  unfold WN at *
  refine go (J3 rTI @wl_idf @wl_one) ?_
  refine aw_reg fun K hK=>?_;refine rn (J3 rTI @wl_idf @wl_one) ?_;refine cont_pure hc ?_;refine rn (J3 rTI @wl_idf @wl_one) ?_;refine hK _ _ ?_;clear hK K
  rw[then_normal]
  refine ifs ?_ ?_ <;> first | exact nope | intro hb
  refine go (J3 rTI @wl_idf @wl_one) ?_
  unfold divQ divR
  rw[if_pos h,if_pos h]
  exact Le.twoT (Le.nil 0 0 rfl) (Le.refl _)
 ·obtain⟨c,hcv,hcc⟩:∃ c:Int,cmpN x y=c∧0≤c∧c≤1:=⟨_,rfl,by unfold cmpN;split <;> (try split) <;> omega,by unfold cmpN;split <;> (try split) <;> omega⟩
  rw[hcv] at hc
  by_cases h2:lw y=1
  ·have e1:=digs_one y h2
   have hyW:y<4294967296:=by
    have:=lw_pow y
    rw[h2,Nat.pow_one] at this
    exact this
   have hs:=short_ax (digs W x) y (by omega) (digs_lt W hW x) hy hyW
   rw[val_digs W hW] at hs
   have hmy:=Nat.mod_lt x hy
   unfold divQ divR
   rw[if_neg h,if_neg h,if_pos h2,if_pos h2]
   generalize x % y=m at *
   refine pcall_own (by exact rn0 (cj @wl_idf @WN.eq_1)) fun s=>?_
   refine acall_of Tryz.func204 rfl rfl (by simp [Tryz.ntmps204]) ?_;rw[Tryz.ntmps204,Tryz.results204]
   unfold WD at *
   rw[e1] at hc ⊢
   unfold WN at *
   refine go (J3 rTI @wl_idf @wl_one) ?_
   refine aw_reg fun K hK=>?_;refine rn (J3 rTI @wl_idf @wl_one) ?_;refine cont_pure hc ?_;refine rn (J3 rTI @wl_idf @wl_one) ?_;refine hK _ _ ?_;clear hK K
   rw[then_normal]
   refine ifs ?_ ?_ <;> first | exact nope | intro hb
   refine go (J3 rTI @wl_idf @wl_one) ?_
   rw[then_normal]
   refine ifs ?_ ?_ <;> first | exact nope | intro hb
   have wl1:WL [y]=[AV.v (.int .u32 y)]:=rfl
   have tz:Int.toNat 0=0:=rfl
   refine aw_seq ?_
   refine aw_reg fun K hK=>?_;refine rn (J5 rTI @wl_idf @wl_one @wl1 @tz) ?_;refine cont_pure hs ?_;refine rn (J5 rTI @wl_idf @wl_one @wl1 @tz) ?_;refine hK _ _ ?_;clear hK K
   refine go (J3 rTI @wl_idf @wl_one) ?_
   refine⟨s.nx,_,Nat.le_refl _,if_pos rfl,?_,fun j hj=>if_neg (by omega)⟩
   refine rn frw ?_
   rw[frzL_WL]
   rfl
  ·have h4:lw y≠0:=fun e=>by rw[lw_zero] at e;omega
   have hl:=long_ax (digs W x) (digs W y) (lw y) rfl (by omega) (lw_mono (by omega)) hx (digs_lt W hW x) (digs_lt W hW y) (digs_last y (by omega))
   rw[val_digs W hW,val_digs W hW] at hl
   unfold divQ divR
   rw[if_neg h,if_neg h,if_neg h2,if_neg h2]
   refine pcall_of fun s=>?_
   refine acall_of Tryz.func204 rfl rfl (by simp [Tryz.ntmps204]) ?_;rw[Tryz.ntmps204,Tryz.results204]
   unfold WD at *
   unfold WN at *
   refine go (J3 rTI @wl_idf @wl_one) ?_
   refine aw_reg fun K hK=>?_;refine rn (J3 rTI @wl_idf @wl_one) ?_;refine cont_pure hc ?_;refine rn (J3 rTI @wl_idf @wl_one) ?_;refine hK _ _ ?_;clear hK K
   rw[then_normal]
   refine ifs ?_ ?_ <;> first | exact nope | intro hb
   refine go (J4 rTI @wl_idf @wl_one @n2) ?_
   rw[then_normal]
   refine ifs ?_ ?_ <;> first | exact nope | intro hb
   refine go (J3 rTI @wl_idf @wl_one) ?_
   refine aw_reg fun K hK=>?_;refine rn (J3 rTI @wl_idf @wl_one) ?_;refine cont_pure hl ?_;refine rn (J3 rTI @wl_idf @wl_one) ?_;refine hK _ _ ?_;clear hK K
   refine go (J3 rTI @wl_idf @wl_one) ?_
   rw[n1]
end BigF
namespace BigI
open Go Go.RowKit Ax Ti BigM BigN BigA BigB BigL BigF
theorem rTI:type_of% (J7 @ti178 @ti207 @ti150 @ti210 @ti3 @ti4 @ti180):=cj @ti178 (J6 @ti207 @ti150 @ti210 @ti3 @ti4 @ti180)
def ng (z:Int):Bool:=decide (z<0)
def IC (z:Int):List AV:=[.v (.bool (ng z)),WN (digs W z.natAbs)]
structure RdP (s:St) (id off:Nat) (X:Int):Prop where
 lt:id<s.nx
 rd:∃ c,s.get id=some c∧(c.drop off).head?=some (.v (.bool (ng X)))∧(c.drop (off+1)).head?=some (.sl (lw X.natAbs) (WL (digs W X.natAbs)))
theorem RdP.mono {s s':St} {id off:Nat} {X:Int} (h:RdP s id off X) (hn:s.nx≤s'.nx) (hg:s'.get id=s.get id):RdP s' id off X:=
 ⟨Nat.lt_of_lt_of_le h.lt hn,by rw[hg];exact h.rd⟩
structure Dst (s:St) (id:Nat):Prop where
 lt:id<s.nx
 rd:∃ a b,s.get id=some [a,b]
structure Upd (s s':St) (id:Nat) (Z:Int):Prop where
 nx:s.nx≤s'.nx
 lt:id<s'.nx
 g:s'.get id=some (IC Z)
 fr:∀ i,i<s.nx→i≠id→s'.get i=s.get i
theorem Upd.rdP {s s':St} {id:Nat} {Z:Int} (h:Upd s s' id Z):RdP s' id 0 Z:=⟨h.lt,_,h.g,rfl,rfl⟩
theorem Upd.dst {s s':St} {id:Nat} {Z:Int} (h:Upd s s' id Z):Dst s' id:=⟨h.lt,_,_,h.g⟩
def sg (b:Bool) (n:Nat):Int:=if b then -(n:Int) else n
theorem sg_abs (b:Bool) (n:Nat):(sg b n).natAbs=n:=by unfold sg;split <;> omega
theorem sg_ng (b:Bool) (n:Nat):ng (sg b n)=(b&&decide (0<n)):=by
 unfold sg ng
 cases b <;> simp <;> omega
theorem sg_self (x:Int):sg (ng x) x.natAbs=x:=by unfold sg ng;split <;> simp_all <;> omega
theorem lw_trim (ws:List Nat) (d:∀ d∈ws,d<W):(trimZ ws).length=lw (val W ws):=by unfold lw;rw[digs_val W hW ws d]
theorem lw_pos (n:Nat):0<lw n↔0<n:=by
 have:=lw_zero n
 omega
theorem upd2 {s:St} {zid:Nat} {c1 c2:List AV} {Z:Int} (lt:zid<s.nx) (h:c2=IC Z):Upd s ((s.set zid c1).set zid c2) zid Z:=by
 subst h
 exact⟨Nat.le_refl _,lt,St.set_same _ _ _,fun i hi hne=>by rw[St.set_ne _ _ _ _ hne,St.set_ne _ _ _ _ hne]⟩
theorem ic_sg (b:Bool) (n:Nat):IC (sg b n)=[.v (.bool (b&&decide (0<n))),.sl (lw n) (WL (digs W n))]:=by
 unfold IC
 rw[sg_ng,sg_abs]
 rfl
theorem set_ax (s:St) (zid:Nat) (b:Bool) (ws:List Nat) (hz:Dst s zid) (hl:ws.length≤140737488355328) (dw:∀ d∈ws,d<W) :
  ACall Tryz.prog 159 [.ptr zid 0,.v (.bool b),WN ws] s fun r s'=>r=.ptr zid 0∧Upd s s' zid (sg b (val W ws)):=by
 obtain⟨lt,a0,a1,hg⟩:=hz
 have ht:=trim_ax ws hl dw
 have hd:=digs_val W hW ws dw
 rw[←hd] at ht
 have hp:=lw_pos (val W ws)
 have hn1:(digs W (val W ws)).length=lw (val W ws):=rfl
 refine acall_of Tryz.func159 rfl rfl (by simp [Tryz.ntmps159]) ?_;rw[Tryz.ntmps159,Tryz.results159]
 unfold WN at *
 refine go (J3 rTI @wl_idf @wl_one) ?_
 refine aw_reg fun K hK=>?_;refine rn (J4 rTI @wl_idf @wl_one @hg) ?_;refine cont_pure ht ?_;refine rn (J4 rTI @wl_idf @wl_one @hg) ?_;refine hK _ _ ?_;clear hK K
 by_cases q:0<val W ws
 ·have q2:0<lw (val W ws):=hp.2 q
  cases b <;> refine go (J4 rTI @wl_idf @wl_one @hn1) ?_
  ·exact upd2 lt (by rw[ic_sg];rfl)
  ·exact upd2 lt (by rw[ic_sg,decide_eq_true q];rfl)
 ·have q2:¬0<lw (val W ws):=fun h=>q (hp.1 h)
  cases b <;> refine go (J4 rTI @wl_idf @wl_one @hn1) ?_
  ·exact upd2 lt (by rw[ic_sg];rfl)
  ·exact upd2 lt (by rw[ic_sg,decide_eq_false q];rfl)
def sgn (z:Int):Int:=if z<0 then -1 else if z=0 then 0 else 1
theorem cmp_sgn (X Y:Int) (h:ng X=ng Y):cmpN X.natAbs Y.natAbs=if X<0 then -sgn (X-Y) else sgn (X-Y):=by
 have h':decide (X<0)=decide (Y<0):=h
 have h2:X<0↔Y<0:=by simpa using h'
 unfold cmpN sgn
 by_cases q:X<0
 ·have q2:=h2.1 q
  rw[if_pos q]
  split <;> (try split) <;> (try split) <;> (try split) <;> omega
 ·have q2:¬Y<0:=fun e=>q (h2.2 e)
  rw[if_neg q]
  split <;> (try split) <;> (try split) <;> (try split) <;> omega
theorem cmpI_ax (s:St) (ix ox iy oy:Nat) (X Y:Int) (hx:RdP s ix ox X) (hy:RdP s iy oy Y) (hl:lw X.natAbs≤1000000000000) (hl2:lw Y.natAbs≤1000000000000):ACall Tryz.prog 134 [.ptr ix ox,.ptr iy oy] s fun r s'=>r=.v (.int .i64 (sgn (X-Y)))∧s'=s:=by
 obtain⟨lt,c,g,a0,a1⟩:=hx
 obtain⟨lt2,c2,g2,b0,b1⟩:=hy
 have hc:=cmp_ax X.natAbs Y.natAbs (by unfold lw at hl;omega) (by unfold lw at hl2;omega)
 have n1:(digs W X.natAbs).length=lw X.natAbs:=rfl
 have n2:(digs W Y.natAbs).length=lw Y.natAbs:=rfl
 unfold WN at hc
 rw[n1,n2] at hc
 have hs:=cmp_sgn X Y
 refine acall_of Tryz.func134 rfl rfl (by simp [Tryz.ntmps134]) ?_;rw[Tryz.ntmps134,Tryz.results134]
 refine go trivial ?_
 by_cases q:ng X=ng Y
 ·have hs:=hs q
  rw[←q] at b0
  by_cases q1:X<0
  ·have hn:ng X=true:=decide_eq_true q1
   rw[hn] at a0 b0
   rw[if_pos q1] at hs
   rw[hs] at hc
   have e1 : - - sgn (X-Y)=sgn (X-Y):=Int.neg_neg _
   have e2 : -1≤sgn (X-Y)∧sgn (X-Y)≤1:=by unfold sgn;split <;> (try split) <;> omega
   generalize sgn (X-Y)=w at *
   refine aw_drw (.take 0 (.take 1 (.take 2 (.take 3 (.take 4 (.take 5 (.take 6 (.take 7 (.take 8 (.done)))))))))) [ix,iy] (by kernel_rfl) (by kernel_rfl) fun K hK=>?_;refine dr (J8 rTI @wl_idf @wl_one @g @g2 @a0 @b0 @Nat.add_zero) ?_;refine hK _ _ ?_;clear hK K
   rw[then_normal]
   refine ifs ?_ ?_ <;> first | exact nope | intro hb
   refine go trivial ?_
   refine aw_drw (.take 0 (.take 1 (.take 2 (.take 3 (.take 4 (.take 5 (.take 6 (.take 7 (.one 8 (.take 9 (.done))))))))))) [ix,iy] (by kernel_rfl) (by kernel_rfl) fun K hK=>?_;refine dr (J9 rTI @wl_idf @wl_one @g @g2 @a1 @b1 @n1 @n2) ?_;refine cont_pure hc ?_;refine dr (J9 rTI @wl_idf @wl_one @g @g2 @a1 @b1 @n1 @n2) ?_;refine hK _ _ ?_;clear hK K
   refine go (J6 rTI @wl_idf @wl_one @g @a0 @Nat.add_zero) ?_
   rw[then_normal]
   refine ifs ?_ ?_ <;> first | exact nope | intro hb
   refine go (J3 rTI @wl_idf @wl_one) ?_
   congr 2
   omega
  ·have hn:ng X=false:=decide_eq_false q1
   rw[hn] at a0 b0
   rw[if_neg q1] at hs
   rw[hs] at hc
   generalize sgn (X-Y)=w at *
   refine aw_drw (.take 0 (.take 1 (.take 2 (.take 3 (.take 4 (.take 5 (.take 6 (.take 7 (.take 8 (.done)))))))))) [ix,iy] (by kernel_rfl) (by kernel_rfl) fun K hK=>?_;refine dr (J8 rTI @wl_idf @wl_one @g @g2 @a0 @b0 @Nat.add_zero) ?_;refine hK _ _ ?_;clear hK K
   rw[then_normal]
   refine ifs ?_ ?_ <;> first | exact nope | intro hb
   refine go trivial ?_
   refine aw_drw (.take 0 (.take 1 (.take 2 (.take 3 (.take 4 (.take 5 (.take 6 (.take 7 (.one 8 (.take 9 (.done))))))))))) [ix,iy] (by kernel_rfl) (by kernel_rfl) fun K hK=>?_;refine dr (J9 rTI @wl_idf @wl_one @g @g2 @a1 @b1 @n1 @n2) ?_;refine cont_pure hc ?_;refine dr (J9 rTI @wl_idf @wl_one @g @g2 @a1 @b1 @n1 @n2) ?_;refine hK _ _ ?_;clear hK K
   refine go (J6 rTI @wl_idf @wl_one @g @a0 @Nat.add_zero) ?_
   rw[then_normal]
   refine ifs ?_ ?_ <;> first | exact nope | intro hb
   exact go0 (J3 rTI @wl_idf @wl_one)
 ·by_cases q1:X<0
  ·have hn:ng X=true:=decide_eq_true q1
   have hn2:ng Y=false:=by
    cases h:ng Y with
    | false=>rfl
    | true=>exact absurd (hn.trans h.symm) q
   have q2:¬Y<0:=of_decide_eq_false hn2
   rw[hn] at a0
   rw[hn2] at b0
   have e:sgn (X-Y) = -1:=by unfold sgn;rw[if_pos (by omega)]
   rw[e]
   refine aw_drw (.take 0 (.take 1 (.take 2 (.take 3 (.take 4 (.take 5 (.take 6 (.take 7 (.take 8 (.done)))))))))) [ix,iy] (by kernel_rfl) (by kernel_rfl) fun K hK=>?_;refine dr (J8 rTI @wl_idf @wl_one @g @g2 @a0 @b0 @Nat.add_zero) ?_;refine hK _ _ ?_;clear hK K
   rw[then_normal]
   refine ifs ?_ ?_ <;> first | exact nope | intro hb
   refine go (J6 rTI @wl_idf @wl_one @g @a0 @Nat.add_zero) ?_
   refine ifs ?_ ?_ <;> first | exact nope | intro hb
   exact go0 trivial
  ·have hn:ng X=false:=decide_eq_false q1
   have hn2:ng Y=true:=by
    cases h:ng Y with
    | true=>rfl
    | false=>exact absurd (hn.trans h.symm) q
   have q2:Y<0:=of_decide_eq_true hn2
   rw[hn] at a0
   rw[hn2] at b0
   have e:sgn (X-Y)=1:=by unfold sgn;rw[if_neg (by omega),if_neg (by omega)]
   rw[e]
   refine aw_drw (.take 0 (.take 1 (.take 2 (.take 3 (.take 4 (.take 5 (.take 6 (.take 7 (.take 8 (.done)))))))))) [ix,iy] (by kernel_rfl) (by kernel_rfl) fun K hK=>?_;refine dr (J8 rTI @wl_idf @wl_one @g @g2 @a0 @b0 @Nat.add_zero) ?_;refine hK _ _ ?_;clear hK K
   rw[then_normal]
   refine ifs ?_ ?_ <;> first | exact nope | intro hb
   refine go (J6 rTI @wl_idf @wl_one @g @a0 @Nat.add_zero) ?_
   refine ifs ?_ ?_ <;> first | exact nope | intro hb
   exact go0 trivial
end BigI
namespace BigJ
open Go Go.RowKit Ax Ti BigM BigN BigA BigB BigL BigF BigI
theorem rTI:type_of% (J7 @ti178 @ti207 @ti150 @ti210 @ti3 @ti4 @ti180):=cj @ti178 (J6 @ti207 @ti150 @ti210 @ti3 @ti4 @ti180)
theorem WD_eq (n:Nat):AV.sl (lw n) (WL (digs W n))=WN (digs W n):=rfl
theorem sg_tdiv (a b:Bool) (m n:Nat):(sg a m).tdiv (sg b n)=sg (a != b) (m / n):=by
 cases a <;> cases b <;> simp [sg,Int.neg_tdiv,Int.tdiv_neg,Int.ofNat_tdiv]
theorem sg_tmod (a b:Bool) (m n:Nat):(sg a m).tmod (sg b n)=sg a (m % n):=by
 cases a <;> cases b <;> simp only[sg,if_true,if_false,Bool.false_eq_true,Int.neg_tmod,Int.tmod_neg,Int.ofNat_tmod]
theorem sg_quo (X Y:Int):sg (ng X != ng Y) (X.natAbs / Y.natAbs)=X.tdiv Y:=by rw[←sg_tdiv,sg_self,sg_self]
theorem sg_rem (X Y:Int):sg (ng X) (X.natAbs % Y.natAbs)=X.tmod Y:=by rw[←sg_tmod _ (ng Y),sg_self,sg_self]
theorem dst_mono {s s':St} {id:Nat} (h:Dst s id) (hn:s.nx≤s'.nx) (hg:s'.get id=s.get id):Dst s' id:=⟨Nat.lt_of_lt_of_le h.lt hn,by rw[hg];exact h.rd⟩
theorem quoRem_ax (s:St) (zid ix ox iy oy rid:Nat) (X Y:Int) (hz:Dst s zid) (hx:RdP s ix ox X) (hy:RdP s iy oy Y) (hr:Dst s rid) (hzr:zid≠rid) (h0:Y≠0) (hl:lw X.natAbs≤1000000000000) (hln:lw Y.natAbs≤1000000000000) :
  ACall Tryz.prog 205 [.ptr zid 0,.ptr ix ox,.ptr iy oy,.ptr rid 0] s fun r s'=>r=.tp [.ptr zid 0,.ptr rid 0]∧s.nx≤s'.nx∧s'.get zid=some (IC (X.tdiv Y))∧s'.get rid=some (IC (X.tmod Y))∧∀ i,i<s.nx→i≠zid→i≠rid→s'.get i=s.get i:=by
 obtain⟨lt,c,g,a0,a1⟩:=hx
 obtain⟨lt2,c2,g2,b0,b1⟩:=hy
 have hd:=divide_ax X.natAbs Y.natAbs (by omega) hl hln
 obtain⟨d1,d2,d3⟩:=divQ_spec X.natAbs Y.natAbs (by omega)
 obtain⟨d4,d5,d6⟩:=divR_spec X.natAbs Y.natAbs (by omega)
 have vq:val W (divQ X.natAbs Y.natAbs)=X.natAbs / Y.natAbs:=by rw[←val_trimZ,d1,val_digs W hW]
 have vr:val W (divR X.natAbs Y.natAbs)=X.natAbs % Y.natAbs:=by rw[←val_trimZ,d4,val_digs W hW]
 have hs1:=set_ax s rid (ng X) _ hr (by omega) d5
 rw[vr,sg_rem] at hs1
 have n1:(digs W X.natAbs).length=lw X.natAbs:=rfl
 have n2:(digs W Y.natAbs).length=lw Y.natAbs:=rfl
 unfold WD at hd
 have sq:=sg_quo X Y
 generalize divQ X.natAbs Y.natAbs=qs at *
 generalize divR X.natAbs Y.natAbs=rs at *
 generalize ng X=nX at *
 generalize ng Y=nY at *
 refine acall_of Tryz.func205 rfl rfl (by simp [Tryz.ntmps205]) ?_;rw[Tryz.ntmps205,Tryz.results205]
 refine go trivial ?_
 refine aw_drw (.take 0 (.take 1 (.take 2 (.take 3 (.take 4 (.take 5 (.take 6 (.take 7 (.one 8 (.take 9 (.take 10 (.take 11 (.take 12 (.take 13 (.done))))))))))))))) [ix,iy] (by kernel_rfl) (by kernel_rfl) fun K hK=>?_;refine dr (J8 rTI @wl_idf @wl_one @g @g2 @a1 @b1 @WD_eq) ?_;refine cont_pure hd ?_;refine dr (J8 rTI @wl_idf @wl_one @g @g2 @a1 @b1 @WD_eq) ?_;refine hK _ _ ?_;clear hK K
 rw[then_normal]
 refine aw_seq ?_
 refine aw_drw (.take 0 (.take 1 (.take 2 (.take 3 (.take 4 (.take 5 (.take 6 (.take 7 (.take 8 (.take 9 (.done))))))))))) [ix,iy] (by kernel_rfl) (by kernel_rfl) fun K hK=>?_;refine dr (J8 rTI @wl_idf @wl_one @g @g2 @a0 @b0 @Nat.add_zero) ?_;refine hK _ _ ?_;clear hK K
 rw[then_normal]
 refine aw_seq ?_
 refine aw_reg fun K hK=>?_;refine rn (J6 rTI @wl_idf @wl_one @g @a0 @Nat.add_zero) ?_;refine cont_go hs1 ?_;rintro _ s1 ⟨rfl,hu⟩;refine rn (J6 rTI @wl_idf @wl_one @g @a0 @Nat.add_zero) ?_;refine hK _ _ ?_;clear hK K
 have hs2:=set_ax s1 zid (nX != nY) qs (dst_mono hz hu.nx (hu.fr zid hz.lt hzr)) (by omega) d2
 rw[vq,sq] at hs2
 refine go trivial ?_
 refine aw_reg fun K hK=>?_;refine rn (J3 rTI @wl_idf @wl_one) ?_;refine cont_go hs2 ?_;rintro _ s2 ⟨rfl,hu2⟩;refine rn (J3 rTI @wl_idf @wl_one) ?_;refine hK _ _ ?_;clear hK K
 refine go (J3 rTI @wl_idf @wl_one) ?_
 have hn:=hu.nx
 have hn2:=hu2.nx
 exact⟨by omega,hu2.g,by rw[hu2.fr rid hu.lt (Ne.symm hzr)];exact hu.g,fun i hi h1 h2=>by rw[hu2.fr i (by omega) h1,hu.fr i hi h2]⟩
theorem quo_ax (s:St) (zid ix ox iy oy:Nat) (X Y:Int) (hz:Dst s zid) (hx:RdP s ix ox X) (hy:RdP s iy oy Y) (h0:Y≠0) (hl:lw X.natAbs≤1000000000000) (hln:lw Y.natAbs≤1000000000000) :
  ACall Tryz.prog 189 [.ptr zid 0,.ptr ix ox,.ptr iy oy] s fun r s'=>r=.ptr zid 0∧Upd s s' zid (X.tdiv Y):=by
 have push:∀ c:List AV,∀ i,i<s.nx→(s.push c).get i=s.get i:=fun c i hi=>St.push_ne _ _ _ (by omega)
 have lz:=hz.lt
 have hq:=quoRem_ax (s.push [.v (.bool false),.v (.slice none 0 0)]) zid ix ox iy oy s.nx X Y (dst_mono hz (Nat.le_succ _) (push _ _ hz.lt)) (hx.mono (Nat.le_succ _) (push _ _ hx.lt)) (hy.mono (Nat.le_succ _) (push _ _ hy.lt)) ⟨Nat.lt_succ_self _,_,_,St.push_same _ _⟩ (by omega) h0 hl hln
 refine acall_of Tryz.func189 rfl rfl (by simp [Tryz.ntmps189]) ?_;rw[Tryz.ntmps189,Tryz.results189]
 refine go trivial ?_
 refine aw_reg fun K hK=>?_;refine rn (J3 rTI @wl_idf @wl_one) ?_;refine cont_go hq ?_;rintro _ s1 ⟨rfl,q1,q2,q3,q4⟩;refine rn (J3 rTI @wl_idf @wl_one) ?_;refine hK _ _ ?_;clear hK K
 refine go (J3 rTI @wl_idf @wl_one) ?_
 have q1':s.nx+1≤s1.nx:=q1
 exact⟨by omega,by omega,q2,fun i hi hne=>by rw[q4 i (Nat.lt_succ_of_lt hi) hne (by omega),push _ i hi]⟩
structure New (s s':St) (id:Nat) (Z:Int):Prop where
 lo:s.nx≤id
 lt:id<s'.nx
 g:s'.get id=some (IC Z)
 fr:∀ i,i<s.nx→s'.get i=s.get i
theorem New.nx {s s':St} {id:Nat} {Z:Int} (h:New s s' id Z):s.nx≤s'.nx:=Nat.le_of_lt (Nat.lt_of_le_of_lt h.lo h.lt)
theorem New.rdP {s s':St} {id:Nat} {Z:Int} (h:New s s' id Z):RdP s' id 0 Z:=⟨h.lt,_,h.g,rfl,rfl⟩
theorem New.dst {s s':St} {id:Nat} {Z:Int} (h:New s s' id Z):Dst s' id:=⟨h.lt,_,_,h.g⟩
theorem New.otherD {s s':St} {id:Nat} {Z:Int} (h:New s s' id Z) {i:Nat} (hr:Dst s i):Dst s' i:=dst_mono hr h.nx (h.fr i hr.lt)
theorem gcd_ax (s:St) (ix ox iy oy:Nat) (X Y:Int) (hx:RdP s ix ox X) (hy:RdP s iy oy Y) (hl:lw X.natAbs≤1000000000000) (hln:lw Y.natAbs≤1000000000000) :
  ACall Tryz.prog 188 [.ptr ix ox,.ptr iy oy] s fun r s'=>∃ id,r=.ptr id 0∧New s s' id (Nat.gcd X.natAbs Y.natAbs:Nat):=by
 obtain⟨lt,c,g,a0,a1⟩:=hx
 obtain⟨lt2,c2,g2,b0,b1⟩:=hy
 refine acall_of Tryz.func188 rfl rfl (by simp [Tryz.ntmps188]) ?_;rw[Tryz.ntmps188,Tryz.results188]
 refine go trivial ?_
 refine aw_drw (.take 0 (.take 1 (.take 2 (.take 3 (.take 4 (.take 5 (.take 6 (.take 7 (.take 8 (.take 9 (.done))))))))))) [ix,iy] (by kernel_rfl) (by kernel_rfl) fun K hK=>?_;refine dr (J7 rTI @wl_idf @wl_one @g @g2 @a1 @b1) ?_;refine hK _ _ ?_;clear hK K
 rw[then_normal]
 refine go trivial ?_
 refine aw_loop (fun n e s'=>∃ a b:Nat,n=b∧e.n=34∧e.m 5=.sl (lw a) (WL (digs W a))∧e.m 6=.sl (lw b) (WL (digs W b))∧lw a≤1000000000000∧lw b≤1000000000000∧Nat.gcd a b=Nat.gcd X.natAbs Y.natAbs∧s.nx≤s'.nx∧∀ i,i<s.nx→s'.get i=s.get i) Y.natAbs ?_ ?_
 ·refine⟨X.natAbs,Y.natAbs,?_⟩
  refine rn trivial ?_
  exact⟨hl,hln,Nat.le_refl _⟩
 ·rintro n e s' ⟨a,b,rfl,h1,h2,h3,h4,h5,h6,h7,h8⟩
  have hb0:=lw_zero n
  by_cases hb:0<n
  ·have hd:=divide_ax a n hb h4 h5
   obtain⟨d4,d5,d6⟩:=divR_spec a n hb
   have ht:=trim_ax (divR a n) (by omega) d5
   rw[d4] at ht
   have hlb:lw n≠0:=by omega
   have lm:lw (a % n)≤lw n:=lw_mono (Nat.le_of_lt (Nat.mod_lt _ hb))
   have hm:=Nat.mod_lt a hb
   have hgc:Nat.gcd n (a % n)=Nat.gcd a n:=by rw[Nat.gcd_comm n,←Nat.gcd_rec,Nat.gcd_comm]
   unfold WD at hd
   have lr:=WL_len (divR a n)
   refine go (J5 rTI @wl_idf @wl_one @h1 @h3) ?_
   refine ifs ?_ ?_ <;> first | exact nope | intro hb
   refine go trivial ?_
   refine aw_reg fun K hK=>?_;refine rn (J7 rTI @wl_idf @wl_one @h1 @h2 @h3 @WD_eq) ?_;refine cont_pure hd ?_;refine rn (J7 rTI @wl_idf @wl_one @h1 @h2 @h3 @WD_eq) ?_;refine hK _ _ ?_;clear hK K
   rw[then_normal]
   refine go trivial ?_
   generalize divR a n=rs at *
   generalize divQ a n=qs at *
   generalize a % n=m at *
   refine aw_reg fun K hK=>?_
   refine rn (J8 rTI @wl_idf @wl_one @h1 @h2 @h3 @WN.eq_1 @lr) ?_
   have wt:(WL rs).take rs.length=WL rs:=WL_take rs _ rfl
   refine acall_frz (s'.nx+1) (WL rs) (St.push_same _ _) (fun _=>false) ?_
   refine rn (cj @Nat.zero_add @wt) ?_
   refine cont_pure ht ?_
   refine rn (J7 rTI @wl_idf @wl_one @h1 @h2 @h3 @WN.eq_1) ?_
   refine hK _ _ ?_
   clear hK K
   refine go (J4 rTI @wl_idf @wl_one @h1) ?_
   have n2:(digs W m).length=lw m:=rfl
   refine⟨m,hm,n,m,rfl,?_⟩
   refine rn (cj @h1 @n2) ?_
   exact⟨h5,by omega,by rw[hgc,h6],by omega,fun i hi=>by rw[if_neg (by omega),if_neg (by omega)];exact h8 i hi⟩
  ·have hn0:n=0:=by omega
   subst hn0
   rw[Nat.gcd_zero_right] at h6
   have n3:s'.nx<s'.nx+1:=Nat.lt_succ_self _
   have hs:=set_ax (s'.push [.v (.bool false),.v (.slice none 0 0)]) s'.nx false (digs W a) ⟨Nat.lt_succ_self _,_,_,St.push_same _ _⟩ (by unfold lw at h4;omega) (digs_lt W hW _)
   have e6:sg false a=((Nat.gcd X.natAbs Y.natAbs:Nat):Int):=by rw[←h6];rfl
   rw[val_digs W hW,e6] at hs
   have l0:lw 0=0:=(lw_zero 0).2 rfl
   refine go (J6 rTI @wl_idf @wl_one @h1 @h3 @l0) ?_
   refine ifs ?_ ?_ <;> first | exact nope | intro hb
   refine go (J5 rTI @wl_idf @wl_one @h1 @h2) ?_
   refine aw_reg fun K hK=>?_;refine rn (J6 rTI @wl_idf @wl_one @h1 @h2 @WD_eq) ?_;refine cont_go hs ?_;rintro _ s1 ⟨rfl,hu⟩;refine rn (J6 rTI @wl_idf @wl_one @h1 @h2 @WD_eq) ?_;refine hK _ _ ?_;clear hK K
   refine go (J4 rTI @wl_idf @wl_one @h1) ?_
   have q1:s'.nx+1≤s1.nx:=hu.nx
   exact⟨s'.nx,rfl,h7,hu.lt,hu.g,fun i hi=>by rw[hu.fr i (Nat.lt_of_lt_of_le hi (Nat.le_trans h7 (Nat.le_succ _))) (by omega),St.push_ne _ _ _ (by omega)];exact h8 i hi⟩
end BigJ
namespace BigP
open Go Go.RowKit Ax Ti BigM BigN BigA BigB BigC BigL BigF BigI BigJ
theorem rTI:type_of% (J8 @ti178 @ti207 @ti150 @ti210 @ti3 @ti2 @ti4 @ti180):=cj @ti178 (J7 @ti207 @ti150 @ti210 @ti3 @ti2 @ti4 @ti180)
theorem new_frz {s:St} {c c' d:List AV} {Z:Int} (h:d=IC Z):New s (((s.push c).frz s.nx c' fun _=>false).push d) (s.nx+1) Z:=by
 subst h
 refine⟨Nat.le_succ _,Nat.lt_succ_self _,St.push_same _ _,fun i hi=>?_⟩
 rw[St.push_ne _ _ _ (by show i≠s.nx+1;omega),frz_false _ _ _ _ (by omega),St.push_ne _ _ _ (by omega)]
theorem newInt_ax (s:St) (v:Int) (h1 : -9223372036854775808≤v) (h2:v≤9223372036854775807) :
  ACall Tryz.prog 131 [.v (.int .i64 v)] s fun r s'=>∃ id,r=.ptr id 0∧New s s' id v:=by
 obtain⟨u,hu⟩:∃ u,u=v.natAbs:=⟨_,rfl⟩
 have du:∀ d∈[u % W,u / W],d<W:=by
  intro d hd
  rcases List.mem_cons.1 hd with rfl | hd
  ·exact Nat.mod_lt _ hW0
  ·rw[List.mem_singleton.1 hd];unfold W;omega
 have ht:=trim_ax [u % W,u / W] (by simp) du
 have hv:val W [u % W,u / W]=u:=by
  simp only[val,Nat.mul_zero,Nat.add_zero]
  exact Nat.mod_add_div u W
 rw[←digs_val W hW _ du,hv] at ht
 have e1:=w32 u
 have e2:=sh32 u
 have hq:u / W<4294967296:=by unfold W;omega
 have hic:IC v=[.v (.bool (decide (v<0))),.sl (lw u) (WL (digs W u))]:=by rw[hu];rfl
 have wl:∀ a b:Nat,WL [a,b]=[.v (.int .u32 a),.v (.int .u32 b)]:=fun a b=>rfl
 have n1:(digs W u).length=lw u:=rfl
 generalize u % W=lo at *
 generalize u / W=hi at *
 refine acall_of Tryz.func131 rfl rfl (by simp [Tryz.ntmps131]) ?_;rw[Tryz.ntmps131,Tryz.results131]
 by_cases q:v<0
 ·rw[decide_eq_true q] at hic
  have e3:∀ x:Int,x=v→IntKind.u64.wrap x=v+18446744073709551616:=fun x hx=>by rw[wrap_u64];omega
  have e5:IntKind.u64.wrap (0-(v+18446744073709551616))=(u:Int):=by rw[wrap_u64];omega
  refine go (J5 rTI @wl_idf @wl_one @e3 @e5) ?_
  rw[then_normal]
  refine ifs ?_ ?_ <;> first | exact nope | intro hb
  refine go (J5 rTI @wl_idf @wl_one @e3 @e5) ?_
  refine aw_reg fun K hK=>?_
  refine rn (J7 rTI @wl_idf @wl_one @e1 @e2 @e3 @e5) ?_
  refine acall_frz s.nx (WL [lo,hi]) (St.push_same _ _) (fun _=>false) ?_
  refine rn (cj @Nat.zero_add @wl) ?_
  refine cont_pure ht ?_
  refine rn (J5 rTI @wl_idf @wl_one @WN.eq_1 @n1) ?_
  refine hK _ _ ?_
  clear hK K
  refine go (J3 rTI @wl_idf @wl_one) ?_
  exact⟨_,rfl,new_frz hic.symm⟩
 ·rw[decide_eq_false q] at hic
  have e4:v=(u:Int):=by omega
  refine go (J5 rTI @wl_idf @wl_one @e1 @e2) ?_
  refine ifs ?_ ?_ <;> first | exact nope | intro hb
  refine go (J3 rTI @wl_idf @wl_one) ?_
  refine aw_reg fun K hK=>?_
  refine rn (J5 rTI @wl_idf @wl_one @e1 @e2) ?_
  refine acall_frz s.nx (WL [lo,hi]) (St.push_same _ _) (fun _=>false) ?_
  refine rn (cj @Nat.zero_add @wl) ?_
  refine cont_pure ht ?_
  refine rn (J5 rTI @wl_idf @wl_one @WN.eq_1 @n1) ?_
  refine hK _ _ ?_
  clear hK K
  refine go (J3 rTI @wl_idf @wl_one) ?_
  exact⟨_,rfl,new_frz hic.symm⟩
theorem new_frz2 {s:St} {c c' d1 d2:List AV} {Z:Int} (h:d2=IC Z):New s ((((((s.push []).kill s.nx).push c).frz (s.nx+1) c' fun _=>false).push d1).set (s.nx+1+1) d2) (s.nx+1+1) Z:=by
 subst h
 refine⟨by omega,Nat.lt_succ_self _,St.set_same _ _ _,fun i hi=>?_⟩
 rw[St.set_ne _ _ _ _ (by omega),St.push_ne _ _ _ (by show i≠s.nx+1+1;omega),frz_false _ _ _ _ (by omega),St.push_ne _ _ _ (by show i≠s.nx+1;omega),St.kill_ne _ _ _ (by omega),St.push_ne _ _ _ (by omega)]
theorem of_ax (s:St) (b:Bool) (ws:List Nat) (hl:ws.length≤1000000000000) (dw:∀ d∈ws,d<W) :
  ACall Tryz.prog 160 [.v (.bool b),WN ws] s fun r s'=>∃ id,r=.ptr id 0∧New s s' id (sg b (val W ws)):=by
 have ht:=trim_ax ws (by omega) dw
 rw[←digs_val W hW ws dw] at ht
 have hic:=ic_sg b (val W ws)
 have hp:=lw_pos (val W ws)
 have n1:(digs W (val W ws)).length=lw (val W ws):=rfl
 have l1:=WL_len ws
 have wt:(WL ws).take ws.length=WL ws:=WL_take ws _ rfl
 have l2:=lw_trim ws dw
 have l3:lw (val W ws)≤1000000000000:=Nat.le_trans ((lw_lt _ _).1 (val_lt W hW0 ws dw)) hl
 generalize val W ws=n at *
 refine acall_of Tryz.func160 rfl rfl (by simp [Tryz.ntmps160]) ?_;rw[Tryz.ntmps160,Tryz.results160]
 unfold WN
 refine go (J3 rTI @wl_idf @wl_one) ?_
 refine aw_reg fun K hK=>?_
 refine rn (J4 rTI @wl_idf @wl_one @l1) ?_
 refine acall_frz (s.nx+1) (WL ws) (St.push_same _ _) (fun _=>false) ?_
 refine rn (cj @Nat.zero_add @wt) ?_
 refine cont_pure ht ?_
 refine rn (J5 rTI @wl_idf @wl_one @WN.eq_1 @n1) ?_
 refine hK _ _ ?_
 clear hK K
 cases b <;> by_cases q:0<n
 ·have q2:0<lw n:=hp.2 q
  refine go (J3 rTI @wl_idf @wl_one) ?_
  exact⟨_,rfl,new_frz2 (by rw[hic];rfl)⟩
 ·have q2:¬0<lw n:=fun h=>q (hp.1 h)
  refine go (J3 rTI @wl_idf @wl_one) ?_
  exact⟨_,rfl,new_frz2 (by rw[hic];rfl)⟩
 ·have q2:0<lw n:=hp.2 q
  refine go (J3 rTI @wl_idf @wl_one) ?_
  exact⟨_,rfl,new_frz2 (by rw[hic,decide_eq_true q];rfl)⟩
 ·have q2:¬0<lw n:=fun h=>q (hp.1 h)
  refine go (J3 rTI @wl_idf @wl_one) ?_
  exact⟨_,rfl,new_frz2 (by rw[hic,decide_eq_false q];rfl)⟩
theorem lw_two (n:Nat):lw n≤2↔n<18446744073709551616:=by
 rw[←lw_lt]
 exact Iff.rfl
end BigP
namespace BigQ
open Go Go.RowKit Ax Ti BigM BigN BigA BigB BigC BigL BigF BigI BigJ BigP
theorem rTI:type_of% (J8 @ti178 @ti207 @ti150 @ti210 @ti3 @ti2 @ti4 @ti180):=cj @ti178 (J7 @ti207 @ti150 @ti210 @ti3 @ti2 @ti4 @ti180)
theorem times_step (xs ys ds:List Nat) (i j cr:Nat) (h:val W ds+W ^ (i+j)*cr=val W (xs.take i)*val W ys+W ^ i*xs.getD i 0*val W (ys.take j)) (hk:i+j<ds.length) (z:Nat) (hz:z=xs.getD i 0*ys.getD j 0+ds.getD (i+j) 0+cr) :
  val W (ds.set (i+j) (z % W))+W ^ (i+(j+1))*(z / W)=val W (xs.take i)*val W ys+W ^ i*xs.getD i 0*val W (ys.take (j+1)):=by
 have h1:=val_set (b:=W) ds (i+j) (z % W) hk
 have h2:W ^ (i+j)*z=W ^ (i+j)*(z % W)+W ^ (i+(j+1))*(z / W):=by
  conv=>lhs;rw[←Nat.mod_add_div z W]
  rw[Nat.mul_add,←Nat.mul_assoc,←Nat.pow_succ]
  rfl
 have h3:W ^ (i+j)*z=W ^ i*xs.getD i 0*(W ^ j*ys.getD j 0)+W ^ (i+j)*ds.getD (i+j) 0+W ^ (i+j)*cr:=by
  rw[hz,Nat.mul_add,Nat.mul_add,Nat.pow_add]
  congr 2
  ac_rfl
 rw[tk_snoc,Nat.mul_add]
 omega
theorem times_row (xs ys ds:List Nat) (i cr:Nat) (h:val W ds+W ^ (i+ys.length)*cr=val W (xs.take i)*val W ys+W ^ i*xs.getD i 0*val W (ys.take ys.length)) (hk:i+ys.length<ds.length) (h0:ds.getD (i+ys.length) 0=0) :
  val W (ds.set (i+ys.length) cr)=val W (xs.take (i+1))*val W ys:=by
 have h1:=val_set (b:=W) ds (i+ys.length) cr hk
 rw[h0] at h1
 rw[tk_snoc,Nat.add_mul]
 rw[List.take_length] at h
 omega
structure MulM (s:St) (zid ix ox iy oy:Nat) (xs ys:List Nat) (i:Nat) (ds:List Nat) (e:Env) (s':St):Prop where
 o:Out s (xs.length+ys.length) ds s'
 en:e.n=95
 e0:e.m 0=.ptr zid 0
 e1:e.m 1=.ptr ix ox
 e2:e.m 2=.ptr iy oy
 e7:e.m 7=.own s.nx 0 (xs.length+ys.length) 1
 e29:e.m 29=.sl xs.length (WL xs)
 e30:e.m 30=.v (.int .i64 xs.length)
 e31:e.m 31=.v (.int .i64 i)
structure MulO (s:St) (zid ix ox iy oy:Nat) (xs ys:List Nat) (n i:Nat) (ds:List Nat) (e:Env) (s':St):Prop extends MulM s zid ix ox iy oy xs ys i ds e s' where
 on:n=xs.length-i
 oi:i≤xs.length
 oz:∀ k,i+ys.length≤k→ds.getD k 0=0
 ov:val W ds=val W (xs.take i)*val W ys
structure MulJ (s:St) (zid ix ox iy oy:Nat) (xs ys:List Nat) (i n j cr:Nat) (ds:List Nat) (e:Env) (s':St):Prop extends MulM s zid ix ox iy oy xs ys i ds e s' where
 e8:e.m 8=.v (.int .i64 i)
 e9:e.m 9=.v (.int .u32 (xs.getD i 0:Nat))
 e10:e.m 10=.v (.int .u64 cr)
 e39:e.m 39=.sl ys.length (WL ys)
 e40:e.m 40=.v (.int .i64 ys.length)
 e41:e.m 41=.v (.int .i64 j)
 jc:cr<W
 jn:n=ys.length-j
 ji:i<xs.length
 jj:j≤ys.length
 jz:∀ k,i+ys.length≤k→ds.getD k 0=0
 jv:val W ds+W ^ (i+j)*cr=val W (xs.take i)*val W ys+W ^ i*xs.getD i 0*val W (ys.take j)
theorem sg_mul (X Y:Int):sg (ng X != ng Y) (X.natAbs*Y.natAbs)=X*Y:=by
 have key:∀ (a b:Bool) (m n:Nat),sg a m*sg b n=sg (a != b) (m*n):=fun a b m n=>by
  cases a <;> cases b <;> simp [sg,Int.mul_neg,Int.neg_mul,Int.neg_neg]
 rw[←key,sg_self,sg_self]
theorem mul_ax (s:St) (zid ix ox iy oy:Nat) (X Y:Int) (hz:Dst s zid) (hx:RdP s ix ox X) (hy:RdP s iy oy Y) (hl:lw X.natAbs+lw Y.natAbs≤1000000000000) :
  ACall Tryz.prog 132 [.ptr zid 0,.ptr ix ox,.ptr iy oy] s fun r s'=>r=.ptr zid 0∧Upd s s' zid (X*Y):=by
 obtain⟨lt,c,g,a0,a1⟩:=hx
 obtain⟨lt2,c2,g2,b0,b1⟩:=hy
 have n1:(digs W X.natAbs).length=lw X.natAbs:=rfl
 have n2:(digs W Y.natAbs).length=lw Y.natAbs:=rfl
 have vx:=val_digs W hW X.natAbs
 have vy:=val_digs W hW Y.natAbs
 have dx:=digs_lt W hW X.natAbs
 have dy:=digs_lt W hW Y.natAbs
 have sgm:=sg_mul X Y
 rw[←vx,←vy] at sgm
 rw[←n1] at a1 hl
 rw[←n2] at b1 hl
 generalize digs W X.natAbs=xs at *
 generalize digs W Y.natAbs=ys at *
 generalize ng X=nX at *
 generalize ng Y=nY at *
 clear vx vy n1 n2
 have l2:=WL_len xs
 have l3:=WL_len ys
 refine acall_of Tryz.func132 rfl rfl (by simp [Tryz.ntmps132]) ?_;rw[Tryz.ntmps132,Tryz.results132]
 refine go trivial ?_
 refine aw_drwR (.take 0 (.take 1 (.take 2 (.take 3 (.take 4 (.take 5 (.take 6 (.take 7 (.take 8 (.take 9 (.take 10 (.done)))))))))))) 11 [12] [ix,iy] (by kernel_rfl) (by kernel_rfl) fun K hK=>?_;refine dt (J7 rTI @wl_idf @wl_one @g @g2 @a1 @b1) ?_;refine hK _ _ ?_;clear hK K
 rw[then_normal]
 refine go (J5 rTI @wl_idf @wl_one @g @a1) ?_
 refine aw_loop (fun n e s'=>∃ (i:Nat) (ds:List Nat),MulO s zid ix ox iy oy xs ys n i ds e s') xs.length ?_ ?_
 ·refine⟨0,List.replicate (xs.length+ys.length) 0,?_⟩
  constructor
  ·constructor
   ·exact Out.push s _
   all_goals (try (first | refine rn trivial ?_ | exact rn0 trivial))
   all_goals (first | exact shz | (intro i hi;(first | refine rn @lt ?_ | exact rn0 @lt)) | skip)
  ·omega
  ·omega
  ·intro k hk
   simp [List.getD_eq_getElem?_getD,List.getElem?_replicate]
   try (split <;> rfl)
  ·rw[val_replicate];simp [val]
 ·rintro n e s' ⟨i,ds,hO⟩
  have k0:=hO.en
  have k1:=hO.e0
  have k2:=hO.e1
  have k3:=hO.e2
  have k7:=hO.e7
  have k29:=hO.e29
  have k30:=hO.e30
  have k31:=hO.e31
  have gx:=hO.o.fr ix lt
  have gy:=hO.o.fr iy lt2
  rw[g] at gx
  rw[g2] at gy
  have b1':=hO.on
  have b2:=hO.oi
  by_cases hn:i<xs.length
  ·have o1:=hd_WL xs i hn
   refine go (J7 rTI @wl_idf @wl_one @k0 @k29 @k30 @k31) ?_
   refine ifs ?_ ?_ <;> first | exact nope | intro hb
   refine go (J16 rTI @wl_idf @wl_one @k0 @k1 @k2 @k3 @k7 @k29 @k30 @k31 @gy @b1 @o1 @l2 @l3) ?_
   refine aw_loop (fun n e s'=>∃ (j cr:Nat) (ds:List Nat),MulJ s zid ix ox iy oy xs ys i n j cr ds e s') ys.length ?_ ?_
   ·refine⟨0,0,ds,?_⟩
    constructor
    ·constructor
     ·exact hO.o
     all_goals (try exact rn0 (J8 @k0 @k1 @k2 @k3 @k7 @k29 @k30 @k31))
    all_goals (try (first | refine rn (J8 @k0 @k1 @k2 @k3 @k7 @k29 @k30 @k31) ?_ | exact rn0 (J8 @k0 @k1 @k2 @k3 @k7 @k29 @k30 @k31)))
    all_goals (first | exact shz | (intro i hi;(first | refine rn @lt ?_ | exact rn0 @lt)) | skip)
    ·exact hW0
    ·exact hO.oz
    ·rw[hO.ov];simp [val]
   ·clear k0 k1 k2 k3 k7 k29 k30 k31 gx gy b1' b2
    rintro n2 e2 s2 ⟨j,cr,ds,hJ⟩
    have k0:=hJ.en
    have k1:=hJ.e0
    have k2:=hJ.e1
    have k3:=hJ.e2
    have k7:=hJ.e7
    have k8:=hJ.e8
    have k9:=hJ.e9
    have k10:=hJ.e10
    have k29:=hJ.e29
    have k30:=hJ.e30
    have k31:=hJ.e31
    have k39:=hJ.e39
    have k40:=hJ.e40
    have k41:=hJ.e41
    have gd:=hJ.o.g
    have ld:=hJ.o.len
    have l4:=WL_len ds
    have c1:=hJ.jn
    have c2':=hJ.jj
    have gy:=hJ.o.fr iy lt2
    rw[g2] at gy
    by_cases hj:j<ys.length
    ·have p1:ds.getD (i+j) 0<4294967296:=getD_lt W hW0 ds hJ.o.lt _
     have p2:xs.getD i 0<4294967296:=getD_lt W hW0 xs dx _
     have p3:ys.getD j 0<4294967296:=getD_lt W hW0 ys dy _
     have p4:cr<4294967296:=hJ.jc
     have o2:=hd_WL ys j hj
     have o3:=hd_WL ds (i+j) (by omega)
     obtain⟨pr,hpr⟩:∃ pr,pr=xs.getD i 0*ys.getD j 0:=⟨_,rfl⟩
     have p5:pr≤4294967295*4294967295:=by rw[hpr];exact Nat.mul_le_mul (by omega) (by omega)
     have e1:((xs.getD i 0:Nat):Int)*((ys.getD j 0:Nat):Int)=(pr:Int):=by rw[hpr,Int.natCast_mul]
     have hst:=times_step xs ys ds i j cr hJ.jv (by omega) _ rfl
     rw[←hpr] at hst
     obtain⟨z,hz⟩:∃ z,z=pr+ds.getD (i+j) 0+cr:=⟨_,rfl⟩
     rw[←hz] at hst
     have e2':=w32 z
     have e3:=sh32 z
     have p8:((i:Int)+(j:Int)).toNat=i+j:=by omega
     have z3:(j:Int)+1=((j+1:Nat):Int):=rfl
     have hput:=hJ.o.put (i+j) (z % W) (Nat.mod_lt _ hW0) rfl rfl
     have q5:z / W<W:=by unfold W;omega
     have hz2:∀ k,i+ys.length≤k→(ds.set (i+j) (z % W)).getD k 0=0:=fun k hk=>by
      rw[getD_set _ _ _ _ (by omega),if_neg (by omega)]
      exact hJ.jz k hk
     clear hpr
     refine go (J7 rTI @wl_idf @wl_one @k0 @k39 @k40 @k41) ?_
     refine ifs ?_ ?_ <;> first | exact nope | intro hb
     refine go (J21 rTI @wl_idf @wl_one @k0 @k7 @k8 @k9 @k10 @k39 @k41 @gd @o2 @o3 @l3 @l4 @ld @p8 @e1 @e2' @e3 @Nat.zero_add) ?_
     simp only[block_normal,loop_normal]
     refine⟨ys.length-(j+1),by omega,j+1,z / W,ds.set (i+j) (z % W),?_⟩
     constructor
     ·constructor
      ·exact hput
      all_goals (try exact rn0 (J14 @k0 @k1 @k2 @k3 @k7 @k8 @k9 @k10 @k29 @k30 @k31 @k39 @k40 @k41))
     all_goals (try exact rn0 (J16 @k0 @k1 @k2 @k3 @k7 @k8 @k9 @k10 @k29 @k30 @k31 @k39 @k40 @k41 @z3 @e3))
     all_goals (first | exact shz | (intro i hi;(first | refine rn @lt ?_ | exact rn0 @lt)) | skip)
     all_goals first | exact q5 | exact hJ.ji | exact hz2 | exact hst
    ·obtain rfl:j=ys.length:=by omega
     have p8:((i:Int)+(ys.length:Int)).toNat=i+ys.length:=by omega
     have p9:=hJ.jz (i+ys.length) (Nat.le_refl _)
     have p4:cr<4294967296:=hJ.jc
     have hst:=times_row xs ys ds i cr hJ.jv (by omega) p9
     have hput:=hJ.o.put (i+ys.length) cr hJ.jc rfl rfl
     have b3:=hO.on
     have z3:(i:Int)+1=((i+1:Nat):Int):=rfl
     refine go (J7 rTI @wl_idf @wl_one @k0 @k39 @k40 @k41) ?_
     refine ifs ?_ ?_ <;> first | exact nope | intro hb
     refine go (J16 rTI @wl_idf @wl_one @k0 @k3 @k7 @k8 @k10 @k31 @gd @gy @b1 @l4 @ld @p8 @Nat.zero_add) ?_
     simp only[block_normal,loop_normal]
     refine⟨xs.length-(i+1),by omega,i+1,ds.set (i+ys.length) cr,?_⟩
     constructor
     ·constructor
      ·exact hput
      all_goals (try exact rn0 (J12 @k0 @k1 @k2 @k3 @k7 @k8 @k9 @k10 @k29 @k30 @k31 @z3))
     ·omega
     ·omega
     ·intro k hk
      rw[getD_set _ _ _ _ (by omega),if_neg (by omega)]
      exact hJ.jz k (by omega)
     ·exact hst
  ·have gd:=hO.o.g
   have hv:=hO.ov
   rw[List.take_of_length_le (by omega)] at hv
   have hnx:=hO.o.nx
   have hs:=set_ax (s'.frz s.nx (WL ds) fun _=>false) zid (nX != nY) ds (dst_mono hz (by show s.nx≤s'.nx;omega) (by rw[frz_false _ _ _ _ (Nat.ne_of_lt hz.lt)];exact hO.o.fr zid hz.lt)) (by rw[hO.o.len];omega) hO.o.lt
   rw[hv,sgm] at hs
   have ld:=hO.o.len
   have hzne:¬zid=s.nx:=Nat.ne_of_lt hz.lt
   have wt:=WL_take ds _ ld
   have wn:AV.sl (xs.length+ys.length) (WL ds)=WN ds:=by rw[←ld];rfl
   refine go (J7 rTI @wl_idf @wl_one @k0 @k29 @k30 @k31) ?_
   refine ifs ?_ ?_ <;> first | exact nope | intro hb
   refine go (J4 rTI @wl_idf @wl_one @k0) ?_
   refine aw_drwR (.take 0 (.take 1 (.take 2 (.take 3 (.take 4 (.take 5 (.take 6 (.take 7 (.take 8 (.take 9 (.take 10 (.done)))))))))))) 11 [12] [ix,iy] (by kernel_rfl) (by kernel_rfl) fun K hK=>?_;refine dt (J13 rTI @wl_idf @wl_one @k0 @k1 @k2 @k3 @k7 @gx @gy @a0 @b0 @Nat.add_zero) ?_;refine acall_frz s.nx (WL ds) gd (fun _=>false) ?_;refine rn (cj @wt @wn) ?_;refine cont_go hs ?_;rintro _ s2 ⟨rfl,hu⟩;refine dt (J13 rTI @wl_idf @wl_one @k0 @k1 @k2 @k3 @k7 @gx @gy @a0 @b0 @Nat.add_zero) ?_;refine hK _ _ ?_;clear hK K
   refine go (J4 rTI @wl_idf @wl_one @k0) ?_
   have hn2:s'.nx≤s2.nx:=hu.nx
   exact⟨by omega,hu.lt,hu.g,fun i hi hne=>by rw[hu.fr i (by show i<s'.nx;omega) hne,frz_false _ _ _ _ (by omega)];exact hO.o.fr i hi⟩
theorem lw_small (n k:Nat) (h:n<W ^ k):lw n≤k:=(lw_lt _ _).1 h
theorem ten_lw (k:Nat):lw (10 ^ k)≤k+1:=lw_small _ _ (by
 have h1:10 ^ k≤W ^ k:=Nat.pow_le_pow_left (by decide) k
 have h2:W ^ k<W ^ (k+1):=Nat.pow_lt_pow_right (by decide) (Nat.lt_succ_self k)
 exact Nat.lt_of_le_of_lt h1 h2)
theorem ten_ax (s:St) (k:Nat) (hk:k≤1000000):ACall Tryz.prog 129 [.v (.int .i64 k)] s fun r s'=>∃ id,r=.ptr id 0∧New s s' id ((10 ^ k:Nat):Int):=by
 refine acall_of Tryz.func129 rfl rfl (by simp [Tryz.ntmps129]) ?_;rw[Tryz.ntmps129,Tryz.results129]
 refine go trivial ?_
 refine aw_reg fun K hK=>?_;refine rn (J3 rTI @wl_idf @wl_one) ?_;refine cont_go (newInt_ax s 1 (by decide) (by decide)) ?_;rintro _ s1 ⟨i1,rfl,n1⟩;refine rn (J3 rTI @wl_idf @wl_one) ?_;refine cont_go (newInt_ax s1 10 (by decide) (by decide)) ?_;rintro _ s2 ⟨i2,rfl,n2⟩;refine rn (J3 rTI @wl_idf @wl_one) ?_;refine hK _ _ ?_;clear hK K
 rw[then_normal]
 refine go trivial ?_
 refine aw_loop (fun n e s'=>∃ i:Nat,n=k-i∧i≤k∧e.n=16∧e.m 3=.ptr i1 0∧e.m 4=.ptr i2 0∧e.m 7=.v (.int .i64 k)∧e.m 8=.v (.int .i64 i)∧s.nx≤s'.nx∧i1<s'.nx∧i2<s'.nx∧s'.get i1=some (IC ((10 ^ i:Nat):Int))∧s'.get i2=some (IC 10)∧∀ j,j<s.nx→s'.get j=s.get j) k ?_ ?_
 ·refine⟨0,?_⟩
  refine rn trivial ?_
  have a1:=n1.lo
  have a2:=n1.lt
  have a3:=n2.lo
  have a4:=n2.lt
  exact⟨by omega,by omega,rfl,by omega,by omega,by omega,by rw[n2.fr i1 a2];exact n1.g,n2.g,fun j hj=>by rw[n2.fr j (by omega)];exact n1.fr j hj⟩
 ·rintro n e s' ⟨i,rfl,hi,h1,k3,k4,k7,k8,m1,m2,m3,g1,g2,fr⟩
  have a1:=n1.lo
  have a2:=n1.lt
  have a3:=n2.lo
  by_cases hk2:i<k
  ·have hm:=mul_ax s' i1 i1 0 i2 0 ((10 ^ i:Nat):Int) 10 ⟨m2,_,_,g1⟩ ⟨m2,_,g1,rfl,rfl⟩ ⟨m3,_,g2,rfl,rfl⟩ (by
    have h3:=ten_lw i
    have h4:=ten_lw 1
    rw[Int.natAbs_natCast]
    have h5:lw (10:Int).natAbs≤2:=h4
    omega)
   have e1:((10 ^ i:Nat):Int)*10=((10 ^ (i+1):Nat):Int):=by rw[Nat.pow_succ,Int.natCast_mul];rfl
   have z3:(i:Int)+1=((i+1:Nat):Int):=rfl
   rw[e1] at hm
   refine go (J3 @h1 @k7 @k8) ?_
   refine ifs ?_ ?_ <;> first | exact nope | intro hb
   refine go trivial ?_
   refine aw_reg fun K hK=>?_;refine rn (J3 @h1 @k3 @k4) ?_;refine cont_go hm ?_;rintro _ s3 ⟨rfl,hu⟩;refine rn (J3 @h1 @k3 @k4) ?_;refine hK _ _ ?_;clear hK K
   refine rn trivial ?_
   refine go (J5 @h1 @k3 @k4 @k7 @k8) ?_
   refine⟨k-(i+1),by omega,i+1,rfl,by omega,?_⟩
   refine rn (J6 @h1 @k3 @k4 @k7 @k8 @z3) ?_
   have q1:=hu.nx
   exact⟨by omega,by omega,by omega,hu.g,by rw[hu.fr i2 m3 (by omega)];exact g2,fun j hj=>by rw[hu.fr j (by omega) (by omega)];exact fr j hj⟩
  ·obtain rfl:i=k:=by omega
   refine go (J3 @h1 @k7 @k8) ?_
   refine ifs ?_ ?_ <;> first | exact nope | intro hb
   refine go (cj @h1 @k3) ?_
   exact⟨i1,rfl,a1,m2,g1,fr⟩
end BigQ
namespace BigR
open Go Go.RowKit Ax Ti BigM BigN BigA BigB BigL BigF BigI BigJ BigP BigQ
theorem rTI:type_of% (J9 @ti178 @ti207 @ti150 @ti210 @ti3 @ti2 @ti4 @ti180 @ti182):=cj @ti178 (J8 @ti207 @ti150 @ti210 @ti3 @ti2 @ti4 @ti180 @ti182)
def RC (n d:Int):List AV:=[.v (.bool (ng n)),WN (digs W n.natAbs),.v (.bool (ng d)),WN (digs W d.natAbs)]
structure RatP (s:St) (id:Nat) (n d:Int):Prop where
 lt:id<s.nx
 g:s.get id=some (RC n d)
theorem RatP.num {s:St} {id:Nat} {n d:Int} (h:RatP s id n d):RdP s id 0 n:=⟨h.lt,_,h.g,rfl,rfl⟩
theorem RatP.mono {s s':St} {id:Nat} {n d:Int} (h:RatP s id n d) (hn:s.nx≤s'.nx) (hg:s'.get id=s.get id):RatP s' id n d:=⟨Nat.lt_of_lt_of_le h.lt hn,by rw[hg];exact h.g⟩
structure NewR (s s':St) (id:Nat) (n d:Int):Prop where
 lo:s.nx≤id
 lt:id<s'.nx
 g:s'.get id=some (RC n d)
 fr:∀ i,i<s.nx→s'.get i=s.get i
theorem NewR.nx {s s':St} {id:Nat} {n d:Int} (h:NewR s s' id n d):s.nx≤s'.nx:=Nat.le_of_lt (Nat.lt_of_le_of_lt h.lo h.lt)
theorem NewR.rat {s s':St} {id:Nat} {n d:Int} (h:NewR s s' id n d):RatP s' id n d:=⟨h.lt,h.g⟩
structure UpdR (s s':St) (id:Nat) (n d:Int):Prop where
 nx:s.nx≤s'.nx
 lt:id<s'.nx
 g:s'.get id=some (RC n d)
 fr:∀ i,i<s.nx→i≠id→s'.get i=s.get i
def low (n d:Int):Int × Int:=if d<0 then ((-n).tdiv (Nat.gcd n.natAbs d.natAbs),(-d).tdiv (Nat.gcd n.natAbs d.natAbs)) else (n.tdiv (Nat.gcd n.natAbs d.natAbs),d.tdiv (Nat.gcd n.natAbs d.natAbs))
theorem _root_.Go.Proofs.YtdaeancgockacaaGreatDoor.BigJ.New.otherR {s s':St} {id:Nat} {Z:Int} (h:New s s' id Z) {i off:Nat} {X:Int} (hr:RdP s i off X):RdP s' i off X:=hr.mono h.nx (h.fr i hr.lt)
theorem den_ax (s:St) (id:Nat) (n d:Int) (hr:RatP s id n d) (hd:0<d) (hl:lw d.natAbs≤1000000000000):ACall Tryz.prog 133 [.ptr id 0] s fun r s'=>∃ i,r=.ptr i 0∧New s s' i d:=by
 have ho:=of_ax s false (digs W d.natAbs) hl (digs_lt W hW _)
 rw[val_digs W hW,show sg false d.natAbs=d by unfold sg;simp;omega] at ho
 have g:=hr.g
 have hp:=lw_pos d.natAbs
 have q:0<lw d.natAbs:=hp.2 (by omega)
 have n1:(digs W d.natAbs).length=lw d.natAbs:=rfl
 unfold RC WN at g
 refine acall_of Tryz.func133 rfl rfl (by simp [Tryz.ntmps133]) ?_;rw[Tryz.ntmps133,Tryz.results133]
 refine go (J5 rTI @wl_idf @wl_one @g @n1) ?_
 rw[then_normal]
 refine ifs ?_ ?_ <;> first | exact nope | intro hb
 refine go trivial ?_
 refine aw_reg fun K hK=>?_;refine rn (J6 rTI @wl_idf @wl_one @g @n1 @WD_eq) ?_;refine cont_go ho ?_;rintro _ s1 ⟨i,rfl,hn⟩;refine rn (J6 rTI @wl_idf @wl_one @g @n1 @WD_eq) ?_;refine hK _ _ ?_;clear hK K
 refine go trivial ?_
 exact⟨i,rfl,hn⟩
theorem frac_ax (s:St) (zid ix ox iy oy:Nat) (n d:Int) (c0 c1 c2 c3:AV) (lz:zid<s.nx) (gz:s.get zid=some [c0,c1,c2,c3]) (hx:RdP s ix ox n) (hy:RdP s iy oy d) (h0:d≠0) (hl:lw n.natAbs≤1000000000000) (hl2:lw d.natAbs≤1000000000000) :
  ACall Tryz.prog 157 [.ptr zid 0,.ptr ix ox,.ptr iy oy] s fun r s'=>r=.ptr zid 0∧UpdR s s' zid (low n d).1 (low n d).2:=by
 have hg:=gcd_ax s ix ox iy oy n d hx hy hl hl2
 have hgp:0<Nat.gcd n.natAbs d.natAbs:=Nat.gcd_pos_of_pos_right _ (by omega)
 have hgl:lw (Nat.gcd n.natAbs d.natAbs)≤lw d.natAbs:=lw_mono (Nat.gcd_le_right _ (by omega))
 refine acall_of Tryz.func157 rfl rfl (by simp [Tryz.ntmps157]) ?_;rw[Tryz.ntmps157,Tryz.results157]
 refine go trivial ?_
 refine aw_reg fun K hK=>?_;refine rn (J3 rTI @wl_idf @wl_one) ?_;refine cont_go hg ?_;rintro _ s1 ⟨gi,rfl,hn⟩;refine rn (J3 rTI @wl_idf @wl_one) ?_;refine hK _ _ ?_;clear hK K
 rw[then_normal]
 refine aw_seq ?_
 have hgn:=hn.lo
 refine aw_only (fun e s2=>e.n=35∧e.m 0=.ptr zid 0∧e.m 1=.ptr ix ox∧e.m 2=.ptr iy oy∧e.m 7=.ptr gi 0∧∃ G:Int,G≠0∧lw G.natAbs≤1000000000000∧n.tdiv G=(low n d).1∧d.tdiv G=(low n d).2∧s2.nx=s1.nx∧s2.get gi=some (IC G)∧∀ i,i<s.nx→s2.get i=s.get i) ?_ ?_
 ·obtain⟨lt2,c2,g2,b0,b1⟩:=hn.otherR hy
  have gg:=hn.g
  unfold low
  generalize hG:Nat.gcd n.natAbs d.natAbs=gc at *
  have hic:IC ((gc:Nat):Int)=[.v (.bool false),.sl (lw gc) (WL (digs W gc))]:=by
   unfold IC ng
   rw[decide_eq_false (by omega)]
   rfl
  rw[hic] at gg
  have gne:gi≠iy:=by have:=hy.lt;omega
  by_cases q:d<0
  ·rw[show ng d=true from decide_eq_true q] at b0
   refine go (J6 rTI @wl_idf @wl_one @g2 @b0 @Nat.add_zero) ?_
   rw[then_normal]
   refine ifs ?_ ?_ <;> first | exact nope | intro hb
   refine go (J5 rTI @wl_idf @wl_one @gg @Nat.add_zero) ?_
   have hic2:IC (-(gc:Int))=[.v (.bool true),.sl (lw gc) (WL (digs W gc))]:=by
    unfold IC ng
    rw[decide_eq_true (by omega),Int.natAbs_neg]
    rfl
   rw[if_pos q]
   refine⟨rfl,by exact rn0 trivial,by exact rn0 trivial,by exact rn0 trivial,by exact rn0 trivial,by exact rn0 trivial,-(gc:Int),by omega,by rw[Int.natAbs_neg];exact Nat.le_trans hgl hl2,by rw[Int.tdiv_neg,Int.neg_tdiv],by show d.tdiv _=(-d).tdiv _;rw[Int.tdiv_neg,Int.neg_tdiv],rfl,by rw[hic2];exact St.set_same _ _ _,fun i hi=>?_⟩
   rw[St.set_ne _ _ _ _ (by omega)]
   exact hn.fr i hi
  ·rw[show ng d=false from decide_eq_false q] at b0
   rw[if_neg q]
   refine go (J6 rTI @wl_idf @wl_one @g2 @b0 @Nat.add_zero) ?_
   rw[then_normal]
   refine ifs ?_ ?_ <;> first | exact nope | intro hb
   refine go trivial ?_
   exact⟨(gc:Int),by omega,Nat.le_trans hgl hl2,rfl,rfl,by rw[hic];exact gg,fun i hi=>hn.fr i hi⟩
 ·rintro e s2 ⟨h1,k0,k1,k2,k7,G,G0,Gl,e1,e2,nx2,g7,fr2⟩
  rw[then_normal]
  have lx:=hx.lt
  have ly:=hy.lt
  have hnlt:=hn.lt
  have hnx:=hn.nx
  have ps:∀ (c c':List AV) i,i<s2.nx→((s2.push c).push c').get i=s2.get i:=fun c c' i hi=>by rw[St.push_ne _ _ _ (by show i≠s2.nx+1;omega),St.push_ne _ _ _ (by omega)]
  have p0:((s2.push [.v (.bool false),.v (.slice none 0 0)]).push [.v (.bool false),.v (.slice none 0 0)]).get s2.nx=some [.v (.bool false),.v (.slice none 0 0)]:=by rw[St.push_ne _ _ _ (by show s2.nx≠s2.nx+1;omega),St.push_same]
  have hx2:RdP s2 ix ox n:=hx.mono (by omega) (fr2 ix lx)
  have hy2:RdP s2 iy oy d:=hy.mono (by omega) (fr2 iy ly)
  have hq1:=quo_ax ((s2.push [.v (.bool false),.v (.slice none 0 0)]).push [.v (.bool false),.v (.slice none 0 0)]) s2.nx ix ox gi 0 n G ⟨by show s2.nx<s2.nx+1+1;omega,_,_,p0⟩ (hx2.mono (by show s2.nx≤s2.nx+1+1;omega) (ps _ _ _ hx2.lt)) ⟨by show gi<s2.nx+1+1;omega,_,by rw[ps _ _ _ (by omega)];exact g7,rfl,rfl⟩ G0 hl Gl
  refine go (J4 rTI @wl_idf @wl_one @h1) ?_
  refine aw_reg fun K hK=>?_;refine rn (J5 rTI @wl_idf @wl_one @k1 @k7) ?_;refine cont_go hq1 ?_;rintro _ s3 ⟨rfl,hu⟩;refine rn (J5 rTI @wl_idf @wl_one @k1 @k7) ?_;refine hK _ _ ?_;clear hK K
  rw[then_normal]
  have u1:=hu.nx
  have u1':s2.nx+2≤s3.nx:=u1
  have g3:s3.get gi=some (IC G):=by rw[hu.fr gi (by show gi<s2.nx+1+1;omega) (by omega),ps _ _ _ (by omega)];exact g7
  have fr3:∀ i,i<s2.nx→s3.get i=s2.get i:=fun i hi=>by rw[hu.fr i (by show i<s2.nx+1+1;omega) (by omega),ps _ _ _ hi]
  have p1:s3.get (s2.nx+1)=some [.v (.bool false),.v (.slice none 0 0)]:=by
   rw[hu.fr _ (by show s2.nx+1<s2.nx+1+1;omega) (by omega)]
   exact St.push_same _ _
  have hq2:=quo_ax s3 (s2.nx+1) iy oy gi 0 d G ⟨by omega,_,_,p1⟩ (hy2.mono (by omega) (fr3 iy hy2.lt)) ⟨by omega,_,g3,rfl,rfl⟩ G0 hl2 Gl
  refine go (J4 rTI @wl_idf @wl_one @h1) ?_
  refine aw_reg fun K hK=>?_;refine rn (J5 rTI @wl_idf @wl_one @k2 @k7) ?_;refine cont_go hq2 ?_;rintro _ s4 ⟨rfl,hv⟩;refine rn (J5 rTI @wl_idf @wl_one @k2 @k7) ?_;refine hK _ _ ?_;clear hK K
  rw[then_normal]
  rw[e1] at hu
  rw[e2] at hv
  have v1:=hv.nx
  have ga:s4.get s2.nx=some (IC (low n d).1):=by rw[hv.fr _ (by omega) (by omega)];exact hu.g
  have gb:=hv.g
  have gz4:s4.get zid=some [c0,c1,c2,c3]:=by rw[hv.fr _ (by omega) (by omega),fr3 _ (by omega),fr2 _ lz];exact gz
  unfold IC WN at ga gb
  generalize (low n d).1=l1 at *
  generalize (low n d).2=l2 at *
  refine go (J8 rTI @wl_idf @wl_one @h1 @k0 @ga @gb @gz4) ?_
  refine⟨by show s.nx≤s4.nx;omega,by show zid<s4.nx;omega,St.set_same _ _ _,fun i hi hne=>?_⟩
  rw[St.set_ne _ _ _ _ hne,St.set_ne _ _ _ _ hne,hv.fr _ (by omega) (by omega),fr3 _ (by omega),fr2 _ hi]
theorem newRat_frac (s:St) (ix ox iy oy:Nat) (n d:Int) (hx:RdP s ix ox n) (hy:RdP s iy oy d) (h0:d≠0) (hl:lw n.natAbs≤1000000000000) (hl2:lw d.natAbs≤1000000000000) :
  ACall Tryz.prog 130 [.ptr ix ox,.ptr iy oy] s fun r s'=>∃ id,r=.ptr id 0∧NewR s s' id (low n d).1 (low n d).2:=by
 have ps:∀ (c:List AV) i,i<s.nx→(s.push c).get i=s.get i:=fun c i hi=>St.push_ne _ _ _ (by omega)
 have hf:=frac_ax (s.push [.v (.bool false),.v (.slice none 0 0),.v (.bool false),.v (.slice none 0 0)]) s.nx ix ox iy oy n d _ _ _ _ (Nat.lt_succ_self _) (St.push_same _ _) (hx.mono (Nat.le_succ _) (ps _ _ hx.lt)) (hy.mono (Nat.le_succ _) (ps _ _ hy.lt)) h0 hl hl2
 refine acall_of Tryz.func130 rfl rfl (by simp [Tryz.ntmps130]) ?_;rw[Tryz.ntmps130,Tryz.results130]
 refine go trivial ?_
 refine aw_reg fun K hK=>?_;refine rn (J3 rTI @wl_idf @wl_one) ?_;refine cont_go hf ?_;rintro _ s1 ⟨rfl,hu⟩;refine rn (J3 rTI @wl_idf @wl_one) ?_;refine hK _ _ ?_;clear hK K
 refine go trivial ?_
 refine⟨s.nx,rfl,Nat.le_refl _,hu.lt,hu.g,fun i hi=>?_⟩
 rw[hu.fr i (Nat.lt_succ_of_lt hi) (by omega),ps _ _ hi]
theorem low_lw (n d:Int):lw (low n d).1.natAbs≤lw n.natAbs∧lw (low n d).2.natAbs≤lw d.natAbs:=by
 unfold low
 split
 ·exact⟨lw_mono (by rw[Int.natAbs_tdiv,Int.natAbs_neg];exact Nat.div_le_self _ _),lw_mono (by rw[Int.natAbs_tdiv,Int.natAbs_neg];exact Nat.div_le_self _ _)⟩
 ·exact⟨lw_mono (by rw[Int.natAbs_tdiv];exact Nat.div_le_self _ _),lw_mono (by rw[Int.natAbs_tdiv];exact Nat.div_le_self _ _)⟩
theorem two_old (s:St) (c c':List AV) (i:Nat) (hi:i<s.nx):((s.push c).push c').get i=s.get i:=by rw[St.push_ne _ _ _ (by show i≠s.nx+1;omega),St.push_ne _ _ _ (by omega)]
theorem two_g0 (s:St) (c c':List AV):((s.push c).push c').get s.nx=some c:=by rw[St.push_ne _ _ _ (by show s.nx≠s.nx+1;omega),St.push_same]
theorem two_g1 (s:St) (c c':List AV):((s.push c).push c').get (s.nx+1)=some c':=St.push_same _ _
theorem two_nx (s:St) (c c':List AV):((s.push c).push c').nx=s.nx+2:=rfl
theorem cmpR_ax (s:St) (ix iy:Nat) (a b c d:Int) (hx:RatP s ix a b) (hy:RatP s iy c d) (hb0:0<b) (hd0:0<d) (hl:lw a.natAbs+lw d.natAbs≤1000000000000) (hl2:lw c.natAbs+lw b.natAbs≤1000000000000) :
  ACall Tryz.prog 109 [.ptr ix 0,.ptr iy 0] s fun r s'=>r=.v (.int .i64 (sgn (a*d-c*b)))∧s'=s:=by
 refine acall_drop (R:=fun r=>r=.v (.int .i64 (sgn (a*d-c*b)))) ?_
 have lx:=hx.lt
 have ly:=hy.lt
 have l1:lw (a*d).natAbs≤1000000000000:=by rw[Int.natAbs_mul];exact Nat.le_trans (lw_mul _ _) hl
 have l2:lw (c*b).natAbs≤1000000000000:=by rw[Int.natAbs_mul];exact Nat.le_trans (lw_mul _ _) hl2
 obtain⟨t,ht⟩:∃ t,t=(s.push [.v (.bool false),.v (.slice none 0 0)]).push [.v (.bool false),.v (.slice none 0 0)]:=⟨_,rfl⟩
 have tn:t.nx=s.nx+2:=by rw[ht];rfl
 have tO:∀ i,i<s.nx→t.get i=s.get i:=fun i hi=>by rw[ht];exact two_old s _ _ i hi
 have t0:t.get s.nx=some [.v (.bool false),.v (.slice none 0 0)]:=by rw[ht];exact two_g0 s _ _
 have t1:t.get (s.nx+1)=some [.v (.bool false),.v (.slice none 0 0)]:=by rw[ht];exact two_g1 s _ _
 have x1:RatP t ix a b:=hx.mono (by omega) (tO _ lx)
 have y1:RatP t iy c d:=hy.mono (by omega) (tO _ ly)
 have q1:=den_ax t iy c d y1 hd0 (by omega)
 refine acall_of Tryz.func109 rfl rfl (by simp [Tryz.ntmps109]) ?_;rw[Tryz.ntmps109,Tryz.results109]
 refine go (J3 rTI @wl_idf @wl_one) ?_
 rw[←ht]
 refine aw_drw (.take 0 (.take 1 (.take 2 (.take 3 (.one 4 (.one 5 (.done))))))) [] (by kernel_rfl) (by kernel_rfl) fun K hK=>?_;refine dr (J3 rTI @wl_idf @wl_one) ?_;refine cont_go q1 ?_;rintro _ s1 ⟨i1,rfl,w1⟩;have n1:=w1.nx;have n1l:=w1.lo;have n1h:=w1.lt;have t01:s1.get s.nx=some [.v (.bool false),.v (.slice none 0 0)]:=(by rw[w1.fr _ (by omega)];exact t0);have x2:RatP s1 ix a b:=x1.mono n1 (w1.fr _ (by omega));have q2:=mul_ax s1 s.nx ix 0 i1 0 a d ⟨by omega,_,_,t01⟩ x2.num w1.rdP hl;refine dr (J3 rTI @wl_idf @wl_one) ?_;refine cont_go q2 ?_;rintro _ s2 ⟨rfl,u1⟩;refine dr (J3 rTI @wl_idf @wl_one) ?_;refine hK _ _ ?_;clear hK K
 rw[then_normal]
 have n2:=u1.nx
 have x3:RatP s2 ix a b:=x2.mono n2 (u1.fr _ (by omega) (by omega))
 have y3:RatP s2 iy c d:=y1.mono (by omega) (by rw[u1.fr _ (by omega) (by omega),w1.fr _ (by omega)])
 have q3:=den_ax s2 ix a b x3 hb0 (by omega)
 refine aw_seq ?_
 refine aw_drw (.take 0 (.take 1 (.take 2 (.take 3 (.one 4 (.one 5 (.done))))))) [] (by kernel_rfl) (by kernel_rfl) fun K hK=>?_;refine dr (J3 rTI @wl_idf @wl_one) ?_;refine cont_go q3 ?_;rintro _ s3 ⟨i2,rfl,w2⟩;have n3:=w2.nx;have n3l:=w2.lo;have n3h:=w2.lt;have t13:s3.get (s.nx+1)=some [.v (.bool false),.v (.slice none 0 0)]:=(by rw[w2.fr _ (by omega),u1.fr _ (by omega) (by omega),w1.fr _ (by omega)];exact t1);have y4:RatP s3 iy c d:=y3.mono n3 (w2.fr _ (by omega));have q4:=mul_ax s3 (s.nx+1) iy 0 i2 0 c b ⟨by omega,_,_,t13⟩ y4.num w2.rdP hl2;refine dr (J3 rTI @wl_idf @wl_one) ?_;refine cont_go q4 ?_;rintro _ s4 ⟨rfl,u2⟩;refine dr (J3 rTI @wl_idf @wl_one) ?_;refine hK _ _ ?_;clear hK K
 rw[then_normal]
 have n4:=u2.nx
 have g0:s4.get s.nx=some (IC (a*d)):=by rw[u2.fr _ (by omega) (by omega),w2.fr _ (by omega)];exact u1.g
 have fr4:∀ i,i<s.nx→s4.get i=s.get i:=fun i hi=>by rw[u2.fr i (by omega) (by omega),w2.fr i (by omega),u1.fr i (by omega) (by omega),w1.fr i (by omega),tO i hi]
 have q5:=cmpI_ax s4 s.nx 0 (s.nx+1) 0 (a*d) (c*b) ⟨by omega,_,g0,rfl,rfl⟩ u2.rdP l1 l2
 refine go (J3 rTI @wl_idf @wl_one) ?_
 refine aw_reg fun K hK=>?_;refine rn (J3 rTI @wl_idf @wl_one) ?_;refine cont_go q5 ?_;rintro _ s5 ⟨rfl,rfl⟩;refine rn (J3 rTI @wl_idf @wl_one) ?_;refine hK _ _ ?_;clear hK K
 refine go trivial ?_
 exact fr4
end BigR
namespace BigS
open Go Go.RowKit Ax Ti BigM BigN BigA BigB BigL BigF BigI BigJ BigP BigQ BigR
theorem rTI:type_of% (J10 @ti178 @ti207 @ti150 @ti210 @ti3 @ti2 @ti4 @ti180 @ti182 @ti31):=cj @ti178 (J9 @ti207 @ti150 @ti210 @ti3 @ti2 @ti4 @ti180 @ti182 @ti31)
end BigS
namespace BigT
open Go Go.RowKit Ax Ti BigM BigN BigA BigB BigL BigF BigI BigJ BigP BigQ BigR BigS
theorem rTI:type_of% (J10 @ti178 @ti207 @ti150 @ti210 @ti3 @ti2 @ti4 @ti180 @ti182 @ti31):=cj @ti178 (J9 @ti207 @ti150 @ti210 @ti3 @ti2 @ti4 @ti180 @ti182 @ti31)
end BigT
namespace BigU
open Go Go.RowKit Ax Ti BigM BigN BigA BigB BigL BigF BigI BigJ BigP BigQ BigR BigS BigT
theorem rTI:type_of% (J10 @ti178 @ti207 @ti150 @ti210 @ti3 @ti2 @ti4 @ti180 @ti182 @ti31):=cj @ti178 (J9 @ti207 @ti150 @ti210 @ti3 @ti2 @ti4 @ti180 @ti182 @ti31)
end BigU
namespace RefA
open Go Go.RowKit Ax Ti BigM
def DN (xs:List Nat):AV:=.sl xs.length (xs.map fun x:Nat=>.v (.int .i64 (x:Int)))
def B:Nat:=65536
theorem plus_step (xs ys ds:List Nat) (k cr:Nat) (hds:ds.length=k) (h:val B ds+B ^ k*cr=val B (xs.take k)+val B (ys.take k)) (z:Nat) (hz:z=cr+xs.getD k 0+ys.getD k 0) :
  val B (ds++[z % B])+B ^ (k+1)*(z / B)=val B (xs.take (k+1))+val B (ys.take (k+1)):=by
 have tk:∀ l:List Nat,val B (l.take (k+1))=val B (l.take k)+B ^ k*l.getD k 0:=by
  intro l
  by_cases hk:k<l.length
  ·exact val_take_snoc B l k hk
  ·rw[List.take_of_length_le (by omega),List.take_of_length_le (by omega),List.getD_eq_getElem?_getD,List.getElem?_eq_none (by omega)]
   simp
 rw[tk,tk,val_snoc,hds,Nat.pow_succ]
 have e1:z=z % B+B*(z / B):=(Nat.mod_add_div z B).symm
 have e2:B ^ k*z=B ^ k*(z % B)+B ^ k*B*(z / B):=by
  conv=>lhs;rw[e1]
  rw[Nat.mul_add,←Nat.mul_assoc]
 have e3:B ^ k*z=B ^ k*cr+B ^ k*xs.getD k 0+B ^ k*ys.getD k 0:=by
  rw[hz,Nat.mul_add,Nat.mul_add]
 omega
def DL (xs:List Nat):List AV:=xs.map fun x:Nat=>.v (.int .i64 (x:Int))
structure PlusI (xs ys:List Nat) (s:St) (n k cr id:Nat) (ds:List Nat) (e:Env) (s':St):Prop where
 imu:n=2*(max xs.length ys.length-k)+cr
 icr:cr≤1
 ik:k≤max xs.length ys.length+1
 ilast:k=max xs.length ys.length+1→cr=0
 en:e.n=55
 e0:e.m 0=DN xs
 e1:e.m 1=DN ys
 e5:e.m 5=.own id 0 k 1
 e6:e.m 6=.v (.int .i64 cr)
 e7:e.m 7=.v (.int .i64 k)
 iget:s'.get id=some (DL ds)
 ilo:s.nx≤id
 ihi:id<s'.nx
 ifr:∀ i,i<s.nx→s'.get i=s.get i
 ilen:ds.length=k
 ilt:∀ d∈ds,d<B
 ival:val B ds+B ^ k*cr=val B (xs.take k)+val B (ys.take k)
theorem getD_out (l:List Nat) (k:Nat) (h:¬k<l.length):l.getD k 0=0:=by rw[List.getD_eq_getElem?_getD,List.getElem?_eq_none (by omega)];rfl
theorem PlusI.step {xs ys:List Nat} {s:St} {n k cr id:Nat} {ds:List Nat} {e:Env} {s':St} (h:PlusI xs ys s n k cr id ds e s') (hgo:k<xs.length∨k<ys.length∨0<cr) (dx:∀ d∈xs,d<B) (dy:∀ d∈ys,d<B)
  {z q r:Nat} (hz:z=cr+xs.getD k 0+ys.getD k 0) (hq:q=z / 65536) (hr:r=z % 65536) {e':Env} {s2:St} {id':Nat} (q1:e'.n=55) (q2:e'.m 0=DN xs) (q3:e'.m 1=DN ys) (q4:e'.m 5=.own id' 0 (k+1) 1)
  (q5:e'.m 6=.v (.int .i64 (q:Int))) (q6:e'.m 7=.v (.int .i64 ((k:Int)+1))) (q7:s2.get id'=some (DL (ds++[r]))) (q8:s.nx≤id') (q9:id'<s2.nx) (q10:∀ i,i<s.nx→s2.get i=s.get i) :
  ∃ n',n'<n∧∃ (k cr id:Nat) (ds:List Nat),PlusI xs ys s n' k cr id ds e' s2:=by
 have bx:xs.getD k 0<65536:=getD_lt B (by decide) xs dx k
 have by':ys.getD k 0<65536:=getD_lt B (by decide) ys dy k
 have ox:=getD_out xs k
 have oy:=getD_out ys k
 have hs:=plus_step xs ys ds k cr h.ilen h.ival z hz
 rw[show z / B=q from hq.symm,show z % B=r from hr.symm] at hs
 have hn:=h.imu
 have hcr:=h.icr
 have hk:=h.ik
 have hlast:=h.ilast
 have hm:q≤1∧2*(max xs.length ys.length-(k+1))+q<n∧k+1≤max xs.length ys.length+1∧(k+1=max xs.length ys.length+1→q=0):=by
  by_cases hM:k<max xs.length ys.length
  ·omega
  ·have o1:=ox (by omega)
   have o2:=oy (by omega)
   omega
 refine⟨_,hm.2.1,k+1,q,id',ds++[r],rfl,hm.1,hm.2.2.1,hm.2.2.2,q1,q2,q3,q4,q5,by rw[q6];rfl,q7,q8,q9,q10,by simp [h.ilen],?_,hs⟩
 intro d hd
 rcases List.mem_append.1 hd with hd | hd
 ·exact h.ilt d hd
 ·rw[List.mem_singleton.1 hd,hr];exact Nat.mod_lt _ (by decide)
theorem DL_len (ds:List Nat):(DL ds).length=ds.length:=List.length_map _
end RefA
namespace RefB
open Go Go.RowKit Ax Ti BigM RefA
structure MinusI (xs ys:List Nat) (s:St) (n k cr id:Nat) (ds:List Nat) (e:Env) (s':St):Prop where
 imu:n=xs.length-k
 icr:cr≤1
 ik:k≤xs.length
 en:e.n=41
 e0:e.m 0=DN xs
 e1:e.m 1=DN ys
 e5:e.m 5=.own id 0 k 1
 e6:e.m 6=.v (.int .i64 cr)
 e7:e.m 7=.v (.int .i64 k)
 iget:s'.get id=some (DL ds)
 ilo:s.nx≤id
 ihi:id<s'.nx
 ifr:∀ i,i<s.nx→s'.get i=s.get i
 ilen:ds.length=k
 ilt:∀ d∈ds,d<B
 ival:val B ds+val B (ys.take k)=val B (xs.take k)+B ^ k*cr
theorem tk_snoc (l:List Nat) (k:Nat):val B (l.take (k+1))=val B (l.take k)+B ^ k*l.getD k 0:=by
 by_cases hk:k<l.length
 ·exact val_take_snoc B l k hk
 ·rw[List.take_of_length_le (by omega),List.take_of_length_le (by omega),List.getD_eq_getElem?_getD,List.getElem?_eq_none (by omega)]
  simp
theorem MinusI.step {xs ys:List Nat} {s:St} {n k cr id:Nat} {ds:List Nat} {e:Env} {s':St} (h:MinusI xs ys s n k cr id ds e s') (hgo:k<xs.length) (dx:∀ d∈xs,d<B) (dy:∀ d∈ys,d<B)
  {q r:Nat} (hq:q≤1) (hr:r<65536) (hz:(r:Int)=xs.getD k 0-cr-ys.getD k 0+65536*q) {e':Env} {s2:St} {id':Nat} (q1:e'.n=41) (q2:e'.m 0=DN xs) (q3:e'.m 1=DN ys) (q4:e'.m 5=.own id' 0 (k+1) 1)
  (q5:e'.m 6=.v (.int .i64 (q:Int))) (q6:e'.m 7=.v (.int .i64 ((k:Int)+1))) (q7:s2.get id'=some (DL (ds++[r]))) (q8:s.nx≤id') (q9:id'<s2.nx) (q10:∀ i,i<s.nx→s2.get i=s.get i) :
  ∃ n',n'<n∧∃ (k cr id:Nat) (ds:List Nat),MinusI xs ys s n' k cr id ds e' s2:=by
 have hn:=h.imu
 have hv:=h.ival
 refine⟨xs.length-(k+1),by omega,k+1,q,id',ds++[r],rfl,hq,by omega,q1,q2,q3,q4,q5,by rw[q6];rfl,q7,q8,q9,q10,by simp [h.ilen],?_,?_⟩
 ·intro d hd
  rcases List.mem_append.1 hd with hd | hd
  ·exact h.ilt d hd
  ·rw[List.mem_singleton.1 hd];exact hr
 ·rw[tk_snoc,tk_snoc,val_snoc,h.ilen,Nat.pow_succ]
  have e0:r+cr+ys.getD k 0=xs.getD k 0+65536*q:=by omega
  have e1:B ^ k*(r+cr+ys.getD k 0)=B ^ k*(xs.getD k 0+B*q):=by rw[e0];rfl
  rw[Nat.mul_add,Nat.mul_add,Nat.mul_add,←Nat.mul_assoc] at e1
  omega
end RefB
namespace RefC
open Go Go.RowKit Ax Ti BigM RefA RefB
theorem rTI:type_of% (J4 @ti114 @ti45 @ti3 @ti4):=cj @ti114 (J3 @ti45 @ti3 @ti4)
def ln (n:Nat):Nat:=(digs B n).length
theorem dl_idf (l:List Nat):idf.idfL (DL l)=true:=by
 rw[idfL_iff]
 intro z hz
 obtain⟨x,_,rfl⟩:=List.mem_map.1 hz
 rfl
def sgn (z:Int):Int:=if z<0 then -1 else if z=0 then 0 else 1
end RefC
namespace RefD
open Go Go.RowKit Ax Ti BigM RefA RefB RefC
theorem rTI:type_of% (J4 @ti114 @ti45 @ti3 @ti4):=cj @ti114 (J3 @ti45 @ti3 @ti4)
end RefD
namespace RefE
open Go Go.RowKit Ax Ti BigM RefA RefB RefC RefD
theorem rTI:type_of% (J4 @ti114 @ti45 @ti3 @ti4):=cj @ti114 (J3 @ti45 @ti3 @ti4)
end RefE
namespace RefF
open Go Go.RowKit Ax Ti BigM RefA RefB RefC RefD RefE
theorem rTI:type_of% (J4 @ti114 @ti45 @ti3 @ti4):=cj @ti114 (J3 @ti45 @ti3 @ti4)
theorem dl_ln (n:Nat):(DL (digs B n)).length=ln n:=DL_len _
theorem dl_one (l:List Nat):(DL l).all AV.one=true:=by
 rw[List.all_eq_true]
 intro z hz
 obtain⟨x,_,rfl⟩:=List.mem_map.1 hz
 rfl
end RefF
namespace RefG
open Go Go.RowKit Ax Ti BigM RefA RefB RefC RefD RefE RefF
theorem rTI:type_of% (J4 @ti114 @ti45 @ti3 @ti4):=cj @ti114 (J3 @ti45 @ti3 @ti4)
end RefG
namespace RefH
open Go Go.RowKit Ax Ti BigM RefA RefB RefC RefD RefE RefF RefG
theorem rTI:type_of% (J4 @ti114 @ti45 @ti3 @ti4):=cj @ti114 (J3 @ti45 @ti3 @ti4)
end RefH
namespace RefI
open Go Go.RowKit Ax Ti BigM RefA RefB RefC RefD RefE RefF RefG RefH
theorem rTI:type_of% (J4 @ti114 @ti45 @ti3 @ti4):=cj @ti114 (J3 @ti45 @ti3 @ti4)
end RefI
namespace RefJ
open Go Go.RowKit Ax Ti BigM RefA RefB RefC RefD RefE RefF RefG RefH RefI
theorem rTI:type_of% (J7 @ti114 @ti45 @ti3 @ti4 @ti9 @ti53 @ti5):=cj @ti114 (J6 @ti45 @ti3 @ti4 @ti9 @ti53 @ti5)
def bs (l:List Nat):ByteArray:=⟨(l.map UInt8.ofNat).toArray⟩
theorem bs_append (a b:List Nat):bs a++bs b=bs (a++b):=by
 apply ByteArray.ext
 rw[ByteArray.data_append]
 simp [bs]
theorem bs_size (l:List Nat):(bs l).size=l.length:=by simp [bs,ByteArray.size]
end RefJ
namespace RefK
open Go Go.RowKit Ax Ti BigM RefA RefB RefC RefD RefE RefF RefG RefH RefI RefJ
theorem rTI:type_of% (J5 @ti125 @ti114 @ti45 @ti3 @ti4):=cj @ti125 (J4 @ti114 @ti45 @ti3 @ti4)
def low (n d:Int):Int × Int:=if d<0 then ((-n).tdiv (Nat.gcd n.natAbs d.natAbs),(-d).tdiv (Nat.gcd n.natAbs d.natAbs)) else (n.tdiv (Nat.gcd n.natAbs d.natAbs),d.tdiv (Nat.gcd n.natAbs d.natAbs))
end RefK
namespace RefL
open Go Go.RowKit Ax Ti BigM RefA RefB RefC RefD RefE RefF RefG RefH RefI RefJ RefK
theorem rTI:type_of% (J5 @ti125 @ti114 @ti45 @ti3 @ti4):=cj @ti125 (J4 @ti114 @ti45 @ti3 @ti4)
end RefL
namespace RefM
open Go Go.RowKit Ax Ti BigM RefA RefB RefC RefD RefE RefF RefG RefH RefI RefJ RefK RefL
theorem rTI:type_of% (J5 @ti125 @ti114 @ti45 @ti3 @ti4):=cj @ti125 (J4 @ti114 @ti45 @ti3 @ti4)
theorem rTN:type_of% (J7 @ti23 @ti2 @ti125 @ti114 @ti45 @ti3 @ti4):=cj @ti23 (J6 @ti2 @ti125 @ti114 @ti45 @ti3 @ti4)
def NM (m k:Int):AV:=.ag [.v (.int .i64 m),.v (.int .i64 k)]
def validN (m k:Int):Bool:=if m.tmod 10=0 then decide (m=0)&&decide (k=0) else decide (m≤999999999)&&decide (-999999999≤m)&&decide (k≤9)&&decide (-18≤k)
theorem valid_ax (m k:Int):PCall Tryz.prog 35 [NM m k] (.v (.bool (validN m k))):=by
 refine pcall_of fun s=>?_
 refine acall_of Tryz.func35 rfl rfl (by simp [Tryz.ntmps35]) ?_;rw[Tryz.ntmps35,Tryz.results35]
 unfold NM validN
 by_cases h0:m=0
 ·subst h0
  by_cases hk:k=0
  ·refine go (J4 rTN @dl_idf @dl_ln @dl_one) ?_
   refine ifs ?_ ?_ <;> first | exact nope | intro hb
   refine go (J4 rTN @dl_idf @dl_ln @dl_one) ?_
   (repeat' refine And.intro ?_ ?_) <;> first | exact rfl | exact fnz trivial | skip
  ·refine go (J4 rTN @dl_idf @dl_ln @dl_one) ?_
   refine ifs ?_ ?_ <;> first | exact nope | intro hb
   refine go (J4 rTN @dl_idf @dl_ln @dl_one) ?_
   (repeat' refine And.intro ?_ ?_) <;> first | exact rfl | exact fnz trivial | skip
 ·by_cases h1:m.tmod 10=0
  ·rw[if_pos h1]
   refine go (J5 rTN @dl_idf @dl_ln @dl_one @h1) ?_
   refine ifs ?_ ?_ <;> first | exact nope | intro hb
   refine go (J4 rTN @dl_idf @dl_ln @dl_one) ?_
   (repeat' refine And.intro ?_ ?_) <;> first | exact rfl | exact fnz trivial | skip
  ·rw[if_neg h1]
   have h2:(m.tmod 10==0)=false:=beq_eq_false_iff_ne.2 h1
   refine go (J5 rTN @dl_idf @dl_ln @dl_one @h2) ?_
   refine ifs ?_ ?_ <;> first | exact nope | intro hb
   by_cases c1:m≤999999999
   ·by_cases c2 : -999999999≤m
    ·by_cases c3:k≤9
     ·refine go (J4 rTN @dl_idf @dl_ln @dl_one) ?_
      (repeat' refine And.intro ?_ ?_) <;> first | exact rfl | exact fnz trivial | skip
     ·refine go (J4 rTN @dl_idf @dl_ln @dl_one) ?_
      (repeat' refine And.intro ?_ ?_) <;> first | exact rfl | exact fnz trivial | skip
    ·refine go (J4 rTN @dl_idf @dl_ln @dl_one) ?_
     (repeat' refine And.intro ?_ ?_) <;> first | exact rfl | exact fnz trivial | skip
   ·refine go (J4 rTN @dl_idf @dl_ln @dl_one) ?_
    (repeat' refine And.intro ?_ ?_) <;> first | exact rfl | exact fnz trivial | skip
def ofN (m k:Int):Int × Int:=if k<0 then low m ((10 ^ (-k).toNat:Nat):Int) else (m*((10 ^ k.toNat:Nat):Int),1)
theorem validN_m (m k:Int) (h:validN m k=true) : -999999999≤m∧m≤999999999 ∧ -18≤k∧k≤9:=by
 unfold validN at h
 split at h
 ·simp only[Bool.and_eq_true,decide_eq_true_eq] at h;omega
 ·simp only[Bool.and_eq_true,decide_eq_true_eq] at h;omega
def cmpNN (m k m' k':Int):AV:=if validN m k=true∧validN m' k'=true then .tp [.v (.int .i64 (sgn ((ofN m k).1*(ofN m' k').2-(ofN m' k').1*(ofN m k).2))),.v (.int .i64 0)] else .tp [.v (.int .i64 0),.v (.int .i64 30)]
theorem low_pos (n d:Int) (hd:d≠0):0<(low n d).2:=by
 have hg:0<Nat.gcd n.natAbs d.natAbs:=Nat.gcd_pos_of_pos_right _ (by omega)
 have hdv:Nat.gcd n.natAbs d.natAbs ∣ d.natAbs:=Nat.gcd_dvd_right _ _
 have hq:0<d.natAbs / Nat.gcd n.natAbs d.natAbs:=Nat.div_pos (Nat.le_of_dvd (by omega) hdv) hg
 have key:∀ e:Int,0<e→e.natAbs=d.natAbs→0<e.tdiv (Nat.gcd n.natAbs d.natAbs:Nat):=by
  intro e he hea
  rw[show e=((d.natAbs:Nat):Int) by omega,←Int.ofNat_tdiv]
  omega
 unfold low
 split
 ·exact key (-d) (by omega) (by omega)
 ·exact key d (by omega) rfl
theorem ofN_pos (m k:Int):0<(ofN m k).2:=by
 unfold ofN
 split
 ·refine low_pos _ _ ?_
  have:0<10 ^ (-k).toNat:=Nat.pow_pos (by decide)
  omega
 ·simp only;omega
end RefM
namespace NumA
open Go Go.RowKit Ax Ti BigM BigN BigA BigB BigL BigF BigI BigJ BigP BigQ BigR BigS BigT BigU
theorem rTI:type_of% (J11 @ti178 @ti207 @ti150 @ti210 @ti3 @ti2 @ti4 @ti180 @ti182 @ti31 @ti23):=cj @ti178 (J10 @ti207 @ti150 @ti210 @ti3 @ti2 @ti4 @ti180 @ti182 @ti31 @ti23)
def NM (m k:Int):AV:=.ag [.v (.int .i64 m),.v (.int .i64 k)]
def validN (m k:Int):Bool:=RefM.validN m k
theorem validN_def (m k:Int):validN m k=if m.tmod 10=0 then decide (m=0)&&decide (k=0) else decide (m≤999999999)&&decide (-999999999≤m)&&decide (k≤9)&&decide (-18≤k):=rfl
theorem valid_ax (m k:Int):PCall Tryz.prog 30 [NM m k] (.v (.bool (validN m k))):=by
 refine pcall_of fun s=>?_
 have hv:=validN_def m k
 unfold NM
 refine acall_of Tryz.func30 rfl rfl (by simp [Tryz.ntmps30]) ?_;rw[Tryz.ntmps30,Tryz.results30]
 by_cases q0:m=0
 ·subst q0
  rw[if_pos (by decide)] at hv
  by_cases q1:k=0
  ·rw[show validN 0 k=true by rw[hv];simp [q1]]
   refine go (J3 rTI @wl_idf @wl_one) ?_
   refine ifs ?_ ?_ <;> first | exact nope | intro hb
   refine go (J3 rTI @wl_idf @wl_one) ?_
   exact fun i hi=>if_neg (by omega)
  ·rw[show validN 0 k=false by rw[hv];simp [q1]]
   refine go (J3 rTI @wl_idf @wl_one) ?_
   refine ifs ?_ ?_ <;> first | exact nope | intro hb
   refine go (J3 rTI @wl_idf @wl_one) ?_
   exact fun i hi=>if_neg (by omega)
 ·by_cases c1 : -999999999≤m
  ·by_cases c2:m≤999999999
   ·by_cases c3:m.tmod 10=0
    ·have h2:(m.tmod 10 != 0)=false:=by rw[c3];rfl
     rw[show validN m k=false by rw[hv,if_pos c3];simp [q0]]
     clear hv c3
     refine go (J3 rTI @wl_idf @wl_one) ?_
     refine ifs ?_ ?_ <;> first | exact nope | intro hb
     refine go (J4 rTI @wl_idf @wl_one @h2) ?_
     exact fun i hi=>if_neg (by omega)
    ·have h2:(m.tmod 10 != 0)=true:=bne_iff_ne.2 c3
     rw[if_neg c3] at hv
     clear c3
     by_cases c4 : -18≤k
     ·by_cases c5:k≤9
      ·rw[show validN m k=true by rw[hv];simp [c1,c2,c4,c5]]
       clear hv
       refine go (J3 rTI @wl_idf @wl_one) ?_
       refine ifs ?_ ?_ <;> first | exact nope | intro hb
       refine go (J4 rTI @wl_idf @wl_one @h2) ?_
       exact fun i hi=>if_neg (by omega)
      ·rw[show validN m k=false by rw[hv];simp [c5]]
       clear hv
       refine go (J3 rTI @wl_idf @wl_one) ?_
       refine ifs ?_ ?_ <;> first | exact nope | intro hb
       refine go (J4 rTI @wl_idf @wl_one @h2) ?_
       exact fun i hi=>if_neg (by omega)
     ·rw[show validN m k=false by rw[hv];simp [c4]]
      clear hv
      refine go (J3 rTI @wl_idf @wl_one) ?_
      refine ifs ?_ ?_ <;> first | exact nope | intro hb
      refine go (J4 rTI @wl_idf @wl_one @h2) ?_
      exact fun i hi=>if_neg (by omega)
   ·rw[show validN m k=false by rw[hv];simp [c2,q0]]
    clear hv
    refine go (J3 rTI @wl_idf @wl_one) ?_
    refine ifs ?_ ?_ <;> first | exact nope | intro hb
    refine go (J3 rTI @wl_idf @wl_one) ?_
    exact fun i hi=>if_neg (by omega)
  ·rw[show validN m k=false by rw[hv];simp [c1,q0]]
   clear hv
   refine go (J3 rTI @wl_idf @wl_one) ?_
   refine ifs ?_ ?_ <;> first | exact nope | intro hb
   refine go (J3 rTI @wl_idf @wl_one) ?_
   exact fun i hi=>if_neg (by omega)
theorem ofN_def (m k:Int):RefM.ofN m k=if k<0 then low m ((10 ^ (-k).toNat:Nat):Int) else (m*((10 ^ k.toNat:Nat):Int),1):=rfl
theorem low_one (x:Int):low x 1=(x,1):=by
 unfold low
 simp
theorem pow_lw (k:Nat) (hk:k≤100):lw ((10 ^ k:Nat):Int).natAbs≤101:=by
 rw[Int.natAbs_natCast]
 exact Nat.le_trans (ten_lw k) (by omega)
theorem frac_ax (s:St) (m k:Int) (m1 : -9223372036854775808≤m) (m2:m≤9223372036854775807) (k1 : -100≤k) (k2:k≤100) :
  ACall Tryz.prog 108 [NM m k] s fun r s'=>∃ id,r=.ptr id 0∧NewR s s' id (RefM.ofN m k).1 (RefM.ofN m k).2:=by
 have hdef:=ofN_def m k
 unfold NM
 have p0:(s.push [.v (.int .i64 m),.v (.int .i64 k)]).get s.nx=some [.v (.int .i64 m),.v (.int .i64 k)]:=St.push_same _ _
 have pn:(s.push [.v (.int .i64 m),.v (.int .i64 k)]).nx=s.nx+1:=rfl
 have po:∀ i,i<s.nx→(s.push [.v (.int .i64 m),.v (.int .i64 k)]).get i=s.get i:=fun i hi=>St.push_ne _ _ _ (by omega)
 have lm:lw m.natAbs≤2:=(lw_two _).2 (by omega)
 obtain⟨K0,hK0⟩:∃ K0:Nat,K0=k.natAbs:=⟨_,rfl⟩
 have hmax:(if -k > k then -k else k)=(K0:Int):=by split <;> omega
 have lp:=pow_lw K0 (by omega)
 refine acall_of Tryz.func108 rfl rfl (by simp [Tryz.ntmps108]) ?_;rw[Tryz.ntmps108,Tryz.results108]
 refine go (J3 rTI @wl_idf @wl_one) ?_
 generalize s.push [.v (.int .i64 m),.v (.int .i64 k)]=t at *
 have c1:=ten_ax t K0 (by omega)
 refine aw_reg fun K hK=>?_;refine rn (J6 rTI @wl_idf @wl_one @p0 @hmax @Int.zero_sub) ?_;refine cont_go c1 ?_;rintro _ s1 ⟨i1,rfl,w1⟩;refine rn (J6 rTI @wl_idf @wl_one @p0 @hmax @Int.zero_sub) ?_;refine hK _ _ ?_;clear hK K
 clear hmax
 rw[then_normal]
 have n1:=w1.nx
 have l1:=w1.lo
 have h1:=w1.lt
 have p1:s1.get s.nx=some [.v (.int .i64 m),.v (.int .i64 k)]:=by rw[w1.fr _ (by omega)];exact p0
 have c2:=newInt_ax s1 m m1 m2
 by_cases q:k<0
 ·rw[if_pos q,show (-k).toNat=K0 by omega] at hdef
  rw[hdef]
  refine go (J4 rTI @wl_idf @wl_one @p1) ?_
  refine ifs ?_ ?_ <;> first | exact nope | intro hb
  refine aw_seq ?_
  have hne:((10 ^ K0:Nat):Int)≠0:=by
   have:=Nat.pow_pos (n:=K0) (show 0<10 by decide)
   omega
  refine aw_reg fun K hK=>?_;refine rn (J4 rTI @wl_idf @wl_one @p1) ?_;refine cont_go c2 ?_;rintro _ s2 ⟨i2,rfl,w2⟩;have n2:=w2.nx;refine rn (J3 rTI @wl_idf @wl_one) ?_;refine cont_go (newRat_frac s2 i2 0 i1 0 m _ w2.rdP (w2.otherR w1.rdP) hne (by omega) (by omega)) ?_;rintro _ s3 ⟨i3,rfl,w3⟩;refine rn (J4 rTI @wl_idf @wl_one @p1) ?_;refine hK _ _ ?_;clear hK K
  refine go trivial ?_
  have l3:=w3.lo
  exact⟨i3,rfl,by omega,w3.lt,w3.g,fun i hi=>by rw[w3.fr i (by omega),w2.fr i (by omega),w1.fr i (by omega),po i hi]⟩
 ·rw[if_neg q,show k.toNat=K0 by omega] at hdef
  rw[hdef]
  refine go (J4 rTI @wl_idf @wl_one @p1) ?_
  refine ifs ?_ ?_ <;> first | exact nope | intro hb
  refine go trivial ?_
  refine aw_reg fun K hK=>?_
  refine rn (J4 rTI @wl_idf @wl_one @p1) ?_
  refine cont_go c2 ?_
  rintro _ s2 ⟨i2,rfl,w2⟩
  have n2:=w2.nx
  have l2:=w2.lo
  have lmul:lw (((10 ^ K0:Nat):Int)*m).natAbs≤1000000000000:=by
   rw[Int.natAbs_mul]
   exact Nat.le_trans (lw_mul _ _) (by omega)
  have c3:=mul_ax s2 i1 i1 0 i2 0 _ m (w2.otherD w1.dst) (w2.otherR w1.rdP) w2.rdP (by omega)
  refine rn (J3 rTI @wl_idf @wl_one) ?_
  refine cont_go c3 ?_
  rintro _ s3 ⟨rfl,w3⟩
  have n3:=w3.nx
  refine rn (J3 rTI @wl_idf @wl_one) ?_
  refine cont_go (newInt_ax s3 1 (by decide) (by decide)) ?_
  rintro _ s4 ⟨i4,rfl,w4⟩
  have n4:=w4.nx
  have c5:=newRat_frac s4 i1 0 i4 0 _ 1 (w4.otherR w3.rdP) w4.rdP (by decide) lmul (Nat.le_trans (pow_lw 0 (by decide)) (by decide))
  rw[low_one,Int.mul_comm _ m] at c5
  refine rn (J3 rTI @wl_idf @wl_one) ?_
  refine cont_go c5 ?_
  rintro _ s5 ⟨i5,rfl,w5⟩
  refine rn (J3 rTI @wl_idf @wl_one) ?_
  refine hK _ _ ?_
  clear hK K
  refine go trivial ?_
  have l5:=w5.lo
  exact⟨i5,rfl,by omega,w5.lt,w5.g,fun i hi=>by rw[w5.fr i (by omega),w4.fr i (by omega),w3.fr i (by omega) (by omega),w2.fr i (by omega),w1.fr i (by omega),po i hi]⟩
end NumA
namespace NumB
open Go Go.RowKit Ax Ti BigM BigN BigA BigB BigL BigF BigI BigJ BigP BigQ BigR BigS BigT BigU NumA
theorem rTI:type_of% (J11 @ti178 @ti207 @ti150 @ti210 @ti3 @ti2 @ti4 @ti180 @ti182 @ti31 @ti23):=cj @ti178 (J10 @ti207 @ti150 @ti210 @ti3 @ti2 @ti4 @ti180 @ti182 @ti31 @ti23)
theorem lw_abs_mul (a b:Int) (i j:Nat) (h1:lw a.natAbs≤i) (h2:lw b.natAbs≤j):lw (a*b).natAbs≤i+j:=by
 rw[Int.natAbs_mul]
 exact Nat.le_trans (lw_mul _ _) (by omega)
theorem ofN_lw (m k:Int) (m1 : -9223372036854775808≤m) (m2:m≤9223372036854775807) (k1 : -100≤k) (k2:k≤100):lw (RefM.ofN m k).1.natAbs≤103∧lw (RefM.ofN m k).2.natAbs≤103:=by
 have lm:lw m.natAbs≤2:=(lw_two _).2 (by omega)
 rw[ofN_def]
 by_cases q:k<0
 ·rw[if_pos q]
  have h:=low_lw m ((10 ^ (-k).toNat:Nat):Int)
  have h2:=pow_lw (-k).toNat (by omega)
  omega
 ·rw[if_neg q]
  have h2:=pow_lw k.toNat (by omega)
  refine⟨by have:=lw_abs_mul m _ 2 101 lm h2;omega,Nat.le_trans (pow_lw 0 (by decide)) (by decide)⟩
theorem validN_m (m k:Int) (h:validN m k=true) : -999999999≤m∧m≤999999999 ∧ -18≤k∧k≤9:=RefM.validN_m m k h
theorem cmpNN_eq (m k m' k':Int):RefM.cmpNN m k m' k'=if validN m k=true∧validN m' k'=true then .tp [.v (.int .i64 (sgn ((RefM.ofN m k).1*(RefM.ofN m' k').2-(RefM.ofN m' k').1*(RefM.ofN m k).2))),.v (.int .i64 0)] else .tp [.v (.int .i64 0),.v (.int .i64 30)]:=rfl
theorem cmp_ax (m k m' k':Int):PCall Tryz.prog 69 [NM m k,NM m' k'] (RefM.cmpNN m k m' k'):=by
 refine pcall_of fun s=>?_
 have hv:=valid_ax m k
 have hv2:=valid_ax m' k'
 have he:=cmpNN_eq m k m' k'
 have t0:=two_g0 s [.v (.int .i64 m),.v (.int .i64 k)] [.v (.int .i64 m'),.v (.int .i64 k')]
 have t1:=two_g1 s [.v (.int .i64 m),.v (.int .i64 k)] [.v (.int .i64 m'),.v (.int .i64 k')]
 have tO:=two_old s [.v (.int .i64 m),.v (.int .i64 k)] [.v (.int .i64 m'),.v (.int .i64 k')]
 have tn:=two_nx s [.v (.int .i64 m),.v (.int .i64 k)] [.v (.int .i64 m'),.v (.int .i64 k')]
 have hf:=fun s (h:validN m k=true)=>frac_ax s m k (by have:=validN_m m k h;omega) (by have:=validN_m m k h;omega) (by have:=validN_m m k h;omega) (by have:=validN_m m k h;omega)
 have hf2:=fun s (h:validN m' k'=true)=>frac_ax s m' k' (by have:=validN_m m' k' h;omega) (by have:=validN_m m' k' h;omega) (by have:=validN_m m' k' h;omega) (by have:=validN_m m' k' h;omega)
 have hl:=fun (h:validN m k=true)=>ofN_lw m k (by have:=validN_m m k h;omega) (by have:=validN_m m k h;omega) (by have:=validN_m m k h;omega) (by have:=validN_m m k h;omega)
 have hl2:=fun (h:validN m' k'=true)=>ofN_lw m' k' (by have:=validN_m m' k' h;omega) (by have:=validN_m m' k' h;omega) (by have:=validN_m m' k' h;omega) (by have:=validN_m m' k' h;omega)
 have hp:=RefM.ofN_pos m k
 have hp2:=RefM.ofN_pos m' k'
 unfold NM at *
 by_cases q:validN m k=true
 ·by_cases q2:validN m' k'=true
  ·rw[if_pos ⟨q,q2⟩] at he
   rw[q] at hv
   rw[q2] at hv2
   rw[he]
   have hf:=fun s=>hf s q
   have hf2:=fun s=>hf2 s q2
   have hl:=hl q
   have hl2:=hl2 q2
   clear he q q2
   generalize (RefM.ofN m k).1=a at *
   generalize (RefM.ofN m k).2=b at *
   generalize (RefM.ofN m' k').1=c at *
   generalize (RefM.ofN m' k').2=d at *
   refine acall_of Tryz.func69 rfl rfl (by simp [Tryz.ntmps69]) ?_;rw[Tryz.ntmps69,Tryz.results69]
   refine go (J3 rTI @wl_idf @wl_one) ?_
   generalize (s.push [.v (.int .i64 m),.v (.int .i64 k)]).push [.v (.int .i64 m'),.v (.int .i64 k')]=t at *
   refine aw_reg fun K hK=>?_;refine rn (J5 rTI @wl_idf @wl_one @t0 @t1) ?_;refine cont_pure hv ?_;refine rn (J5 rTI @wl_idf @wl_one @t0 @t1) ?_;refine cont_pure hv2 ?_;refine rn (J5 rTI @wl_idf @wl_one @t0 @t1) ?_;refine hK _ _ ?_;clear hK K
   rw[then_normal]
   refine ifs ?_ ?_ <;> first | exact nope | intro hb
   refine go trivial ?_
   refine aw_drw (.take 0 (.take 2 (.one 1 (.one 3 (.one 4 (.take 5 (.take 6 (.done)))))))) [s.nx,s.nx+1] (by kernel_rfl) (by kernel_rfl) fun K hK=>?_;refine dr (J5 rTI @wl_idf @wl_one @t0 @t1) ?_;refine cont_go (hf t) ?_;rintro _ s1 ⟨i1,rfl,m1⟩;have n1:=m1.nx;have k1:=m1.lt;have f0:=m1.fr s.nx (by omega);have f1:=m1.fr (s.nx+1) (by omega);refine dr (J5 rTI @wl_idf @wl_one @t0 @t1) ?_;refine⟨⟨by rw[f0,t0],by rw[f1,t1]⟩,?_⟩;refine cont_go (hf2 s1) ?_;rintro _ s2 ⟨i2,rfl,m2⟩;have n2:=m2.nx;have f2:=m2.fr s.nx (by omega);have f3:=m2.fr (s.nx+1) (by omega);have r3:=cmpR_ax s2 i1 i2 a b c d (m1.rat.mono n2 (m2.fr _ k1)) m2.rat hp hp2 (by omega) (by omega);refine dr (J5 rTI @wl_idf @wl_one @t0 @t1) ?_;refine⟨⟨f2,f3⟩,?_⟩;refine cont_go r3 ?_;rintro _ s3 ⟨rfl,rfl⟩;refine dr (J5 rTI @wl_idf @wl_one @t0 @t1) ?_;refine hK _ _ ?_;clear hK K
   refine go (J3 rTI @wl_idf @wl_one) ?_
   intro i hi
   rw[m2.fr i (by omega),m1.fr i (by omega),tO i hi]
  ·have q2':validN m' k'=false:=by simpa using q2
   rw[if_neg (fun h=>q2 h.2)] at he
   rw[q] at hv
   rw[q2'] at hv2
   rw[he]
   refine acall_of Tryz.func69 rfl rfl (by simp [Tryz.ntmps69]) ?_;rw[Tryz.ntmps69,Tryz.results69]
   refine go (J3 rTI @wl_idf @wl_one) ?_
   refine aw_reg fun K hK=>?_;refine rn (J3 rTI @wl_idf @wl_one) ?_;refine cont_pure hv ?_;refine rn (J3 rTI @wl_idf @wl_one) ?_;refine cont_pure hv2 ?_;refine rn (J3 rTI @wl_idf @wl_one) ?_;refine hK _ _ ?_;clear hK K
   rw[then_normal]
   refine ifs ?_ ?_ <;> first | exact nope | intro hb
   refine go trivial ?_
   exact tO
 ·have q':validN m k=false:=by simpa using q
  rw[if_neg (fun h=>q h.1)] at he
  rw[q'] at hv
  rw[he]
  refine acall_of Tryz.func69 rfl rfl (by simp [Tryz.ntmps69]) ?_;rw[Tryz.ntmps69,Tryz.results69]
  refine go (J3 rTI @wl_idf @wl_one) ?_
  refine aw_reg fun K hK=>?_;refine rn (J3 rTI @wl_idf @wl_one) ?_;refine cont_pure hv ?_;refine rn (J3 rTI @wl_idf @wl_one) ?_;refine hK _ _ ?_;clear hK K
  rw[then_normal]
  refine ifs ?_ ?_ <;> first | exact nope | intro hb
  refine go trivial ?_
  exact tO
end NumB
namespace NumS
open BigM
def isD (c:Nat):Bool:=decide (48≤c)&&decide (c≤57)
theorem isD_iff (c:Nat):isD c=true↔48≤c∧c≤57:=by unfold isD;simp
def fr:List Nat→List Nat
 | []=>[]
 | c::l=>if isD c then c::fr l else []
def bk:List Nat→List Nat
 | []=>[]
 | c::l=>if isD c then bk l else c::l
theorem fr_bk:∀ l,fr l++bk l=l
 | []=>rfl
 | c::l=>by
  rw[fr,bk]
  split
  ·rw[List.cons_append,fr_bk l]
  ·rfl
theorem fr_all:∀ l,∀ c∈fr l,isD c=true
 | [],c,h=>by cases h
 | a::l,c,h=>by
  rw[fr] at h
  split at h
  ·rcases List.mem_cons.1 h with rfl | h
   ·assumption
   ·exact fr_all l c h
  ·cases h
theorem fr_app:∀ (a b:List Nat),(∀ c∈a,isD c=true)→(∀ c,b.head?=some c→isD c=false)→fr (a++b)=a∧bk (a++b)=b
 | [],b,_,hb=>by
  cases b with
  | nil=>exact⟨rfl,rfl⟩
  | cons c l=>
   have:=hb c rfl
   rw[List.nil_append,fr,bk,if_neg (by rw[this];simp),if_neg (by rw[this];simp)]
   exact⟨rfl,rfl⟩
 | c::a,b,ha,hb=>by
  have h1:=ha c (by simp)
  obtain⟨e1,e2⟩:=fr_app a b (fun d hd=>ha d (List.mem_cons_of_mem _ hd)) hb
  rw[List.cons_append,fr,bk,if_pos h1,if_pos h1,e1,e2]
  exact⟨rfl,rfl⟩
def digV (l:List Nat):Nat:=l.foldl (fun a c=>10*a+(c-48)) 0
theorem digV_snoc (l:List Nat) (c:Nat):digV (l++[c])=10*digV l+(c-48):=by unfold digV;rw[List.foldl_append];rfl
theorem digV_zeros (l:List Nat) (n:Nat):digV (l++List.replicate n 48)=digV l*10 ^ n:=by
 induction n with
 | zero=>simp
 | succ n ih=>rw[List.replicate_succ',←List.append_assoc,digV_snoc,ih,Nat.pow_succ,Nat.mul_comm 10,Nat.mul_assoc];rfl
theorem digV_dec (n:Nat):digV (((digs 10 n).reverse).map fun d=>48+d)=n:=by
 have:∀ l:List Nat,digV ((l.reverse).map fun d=>48+d)=val 10 l:=by
  intro l
  induction l with
  | nil=>rfl
  | cons d l ih=>rw[List.reverse_cons,List.map_append,List.map_cons,List.map_nil,digV_snoc,ih,val];omega
 rw[this,val_digs 10 (by decide)]
def strip (m:Nat) (x:Int):Nat × Int:=if h:0<m∧m % 10=0 then strip (m / 10) (x+1) else (m,x)
termination_by m
decreasing_by exact Nat.div_lt_self h.1 (by decide)
theorem strip_stop (m:Nat) (x:Int) (h:¬(0<m∧m % 10=0)):strip m x=(m,x):=by rw[strip,dif_neg h]
theorem strip_go (m:Nat) (x:Int) (h:0<m):strip (m*10) x=strip m (x+1):=by
 rw[strip,dif_pos ⟨by omega,by omega⟩,Nat.mul_div_cancel _ (by decide)]
theorem strip_pow (m:Nat) (h:0<m) (n:Nat):∀ x,strip (m*10 ^ n) x=strip m (x+n):=by
 induction n with
 | zero=>intro x;simp
 | succ n ih=>
  intro x
  rw[Nat.pow_succ,←Nat.mul_assoc,strip_go _ _ (Nat.mul_pos h (Nat.pow_pos (by decide))),ih]
  congr 1
  omega
theorem strip_ne (m:Nat):∀ x,0<m→0<(strip m x).1∧(strip m x).1 % 10≠0:=by
 induction m using Nat.strongRecOn with
 | _ m ih=>
  intro x h
  rw[strip]
  by_cases hz:m % 10=0
  ·rw[dif_pos ⟨h,hz⟩]
   exact ih _ (Nat.div_lt_self h (by decide)) _ (by omega)
  ·rw[dif_neg (fun q=>hz q.2)]
   exact⟨h,hz⟩
def two:List Nat→Option Int
 | [a]=>if isD a then some ((a:Int)-48) else none
 | [a,b]=>if isD a&&isD b then some (10*((a:Int)-48)+((b:Int)-48)) else none
 | _=>none
def expS:List Nat→Option Int
 | 45::r=>(two r).map fun v=>-v
 | 43::r=>two r
 | r=>two r
def lettersS:List Nat→Option Int
 | []=>some 0
 | [102]=>some (-15)
 | [112]=>some (-12)
 | [110]=>some (-9)
 | [117]=>some (-6)
 | [109]=>some (-3)
 | [107]=>some 3
 | [109,101,103]=>some 6
 | [103]=>some 9
 | [116]=>some 12
 | 101::r=>expS r
 | _=>none
def finS (neg:Bool) (m:Nat) (x:Int):Int × Int × Int:=
 if m=0 then (0,0,0)
 else if (strip m x).1≤999999999 ∧ -18≤(strip m x).2∧(strip m x).2≤9 then (if neg then -((strip m x).1:Int) else (strip m x).1,(strip m x).2,0)
 else (0,0,30)
def bodyS (neg:Bool) (r:List Nat):Int × Int × Int:=
 if fr r=[] then (0,0,3)
 else match bk r with
 | 46::q=>if fr q=[] then (0,0,3) else match lettersS (bk q) with
  | none=>(0,0,3)
  | some e=>finS neg (digV (fr r++fr q)) (e-(fr q).length)
 | q=>match lettersS q with
  | none=>(0,0,3)
  | some e=>finS neg (digV (fr r)) e
def parseS (l:List Nat):Int × Int × Int:=
 if 32<l.length then (0,0,3)
 else match l with
 | 45::r=>bodyS true r
 | r=>bodyS false r
def decN (n:Nat):List Nat:=((digs 10 n).reverse).map fun d=>48+d
def decS (z:Int):List Nat:=if z=0 then [48] else (if z<0 then [45] else [])++decN z.natAbs
theorem decN_isD (n:Nat):∀ c∈decN n,isD c=true:=by
 intro c hc
 obtain⟨d,hd,rfl⟩:=List.mem_map.1 hc
 have:=digs_lt 10 (by decide) n d (List.mem_reverse.1 hd)
 rw[isD_iff]
 omega
theorem decN_nil (n:Nat) (h:0<n):decN n≠[]:=by
 unfold decN
 intro e
 have:=congrArg List.length e
 rw[List.length_map,List.length_reverse,List.length_nil,List.length_eq_zero_iff,digs_nil 10 (by decide)] at this
 omega
theorem decN_len (n k:Nat) (h:n<10 ^ k):(decN n).length≤k:=by
 unfold decN
 rw[List.length_map,List.length_reverse]
 exact(digs_length_le 10 (by decide) k n).2 h
def letterS (k:Nat):List Nat:=[[102],[112],[110],[117],[109],[],[107],[109,101,103],[103],[116]].getD k []
theorem letter_reads (k:Nat) (h:k<10):lettersS (letterS k)=some (3*(k:Int)-15)∧(∀ c,(letterS k).head?=some c→isD c=false∧c≠46)∧(letterS k).length≤3:=by
 have:k=0∨k=1∨k=2∨k=3∨k=4∨k=5∨k=6∨k=7∨k=8∨k=9:=by omega
 rcases this with rfl | rfl | rfl | rfl | rfl | rfl | rfl | rfl | rfl | rfl <;> refine⟨by simp [letterS,lettersS],?_,by simp [letterS]⟩ <;> intro c hc <;> simp [letterS] at hc <;> subst hc <;> decide
theorem body_plain (neg:Bool) (a q:List Nat) (e:Int) (ha:∀ c∈a,isD c=true) (h0:a≠[]) (hq:∀ c,q.head?=some c→isD c=false∧c≠46) (he:lettersS q=some e):bodyS neg (a++q)=finS neg (digV a) e:=by
 obtain⟨e1,e2⟩:=fr_app a q ha (fun c hc=>(hq c hc).1)
 unfold bodyS
 rw[e1,e2,if_neg h0]
 split
 ·exact absurd rfl (hq 46 rfl).2
 ·rw[he]
def textS (m x:Int):List Nat:=
 if x < -15 then decS m++[101,45]++decN x.natAbs
 else decS m++List.replicate ((x+15) % 3).toNat 48++letterS ((x+15) / 3).toNat
def okN (m x:Int):Prop:=if m.tmod 10=0 then m=0∧x=0 else m≤999999999 ∧ -999999999≤m∧x≤9 ∧ -18≤x
theorem fin_ok (neg:Bool) (m:Nat) (n:Nat) (x y:Int) (h0:0<m) (hm:m≤999999999) (hz:m % 10≠0) (hx:y=x+n) (h1 : -18≤y) (h2:y≤9):finS neg (m*10 ^ n) x=(if neg then -(m:Int) else m,y,0):=by
 have hp:0<m*10 ^ n:=Nat.mul_pos h0 (Nat.pow_pos (by decide))
 have e:strip (m*10 ^ n) x=(m,y):=by rw[strip_pow m h0,strip_stop _ _ (fun q=>hz q.2),hx]
 unfold finS
 rw[if_neg (by omega),e]
 simp only
 rw[if_pos ⟨hm,h1,h2⟩]
theorem dec_two (n:Nat) (h:n=16∨n=17∨n=18):lettersS (101::45::decN n)=some (-(n:Int)):=by
 rcases h with rfl | rfl | rfl <;> simp [decN,digs_pos,digs_zero,lettersS,expS,two,isD]
theorem neg_split (m:Int) (h:m≠0) (r:List Nat):(decS m++r)=(if m<0 then 45::(decN m.natAbs++r) else decN m.natAbs++r):=by
 unfold decS
 rw[if_neg h]
 split <;> simp
theorem parse_sign (neg:Bool) (a r:List Nat) (ha:∀ c∈a,isD c=true) (h0:a≠[]) (hl:(a++r).length≤31):parseS (if neg then 45::(a++r) else a++r)=bodyS neg (a++r):=by
 unfold parseS
 cases neg with
 | true=>
  rw[if_neg (by simp only[if_true,List.length_cons];omega)]
  rfl
 | false=>
  rw[if_neg (by simp only[Bool.false_eq_true,if_false];omega)]
  cases a with
  | nil=>exact absurd rfl h0
  | cons c a=>
   have:=(isD_iff c).1 (ha c (by simp))
   simp only[Bool.false_eq_true,if_false,List.cons_append]
   split
   ·rename_i h
    injection h with h
    omega
   ·rfl
theorem text_len (m x:Int) (h:okN m x):(textS m x).length≤15:=by
 unfold okN at h
 have hd:(decS m).length≤10:=by
  unfold decS
  split
  ·simp
  ·rw[List.length_append]
   have h1:m.natAbs<10 ^ 9:=by split at h <;> omega
   have:=decN_len m.natAbs 9 h1
   split <;> simp <;> omega
 have hx : -18≤x∧x≤9:=by split at h <;> omega
 unfold textS
 split
 ·have:(decN x.natAbs).length≤2:=decN_len _ 2 (by omega)
  simp only[List.length_append,List.length_cons,List.length_nil]
  omega
 ·have:=(letter_reads ((x+15) / 3).toNat (by omega)).2.2
  simp only[List.length_append,List.length_replicate]
  omega
theorem tmod10 (m:Int):m.tmod 10=0↔m.natAbs % 10=0:=by
 rw[←Int.dvd_iff_tmod_eq_zero,←Nat.dvd_iff_mod_eq_zero,←Int.natAbs_dvd_natAbs]
 rfl
theorem parse_text (m x:Int) (h:okN m x):parseS (textS m x)=(m,x,0):=by
 have hl:=text_len m x h
 unfold okN at h
 by_cases hm:m=0
 ·subst hm
  have h3:x=0:=by simpa using h
  subst h3
  decide
 ·have h2:m.tmod 10≠0:=fun e=>by rw[if_pos e] at h;exact hm h.1
  rw[if_neg h2] at h
  have hn:m.natAbs % 10≠0:=fun e=>h2 ((tmod10 m).2 e)
  have hp:0<m.natAbs:=by omega
  have hs:(if decide (m<0)=true then -(m.natAbs:Int) else m.natAbs)=m:=by
   by_cases hneg:m<0
   ·simp [hneg];omega
   ·simp [hneg];omega
  unfold textS at hl ⊢
  by_cases hx:x < -15
  ·rw[if_pos hx] at hl ⊢
   rw[List.append_assoc,neg_split m hm] at hl ⊢
   have e1:=parse_sign (decide (m<0)) (decN m.natAbs) ([101,45]++decN x.natAbs) (decN_isD _) (decN_nil _ hp) (by
    split at hl <;> simp only[List.length_append,List.length_cons] at hl ⊢ <;> omega)
   simp only[decide_eq_true_eq] at e1
   rw[e1,body_plain _ _ ([101,45]++decN x.natAbs) (-(x.natAbs:Int)) (decN_isD _) (decN_nil _ hp) (fun c hc=>by rw[List.cons_append,List.head?_cons] at hc;cases hc;exact⟨rfl,by decide⟩) (dec_two _ (by omega))]
   have e2:=fin_ok (decide (m<0)) m.natAbs 0 (-(x.natAbs:Int)) x hp (by omega) hn (by omega) (by omega) (by omega)
   rw[Nat.pow_zero,Nat.mul_one] at e2
   rw[show digV (decN m.natAbs)=m.natAbs from digV_dec _,e2,hs]
  ·rw[if_neg hx] at hl ⊢
   rw[List.append_assoc,neg_split m hm] at hl ⊢
   have e0:∀ r,decN m.natAbs++(List.replicate ((x+15) % 3).toNat 48++r)=(decN m.natAbs++List.replicate ((x+15) % 3).toNat 48)++r:=fun r=>(List.append_assoc _ _ _).symm
   rw[e0] at hl ⊢
   have ad:∀ c∈decN m.natAbs++List.replicate ((x+15) % 3).toNat 48,isD c=true:=by
    intro c hc
    rcases List.mem_append.1 hc with hc | hc
    ·exact decN_isD _ c hc
    ·rw[List.eq_of_mem_replicate hc];decide
   have an:decN m.natAbs++List.replicate ((x+15) % 3).toNat 48≠[]:=fun e=>decN_nil _ hp (List.append_eq_nil_iff.1 e).1
   obtain⟨l1,l2,l3⟩:=letter_reads ((x+15) / 3).toNat (by omega)
   have e1:=parse_sign (decide (m<0)) (decN m.natAbs++List.replicate ((x+15) % 3).toNat 48) (letterS ((x+15) / 3).toNat) ad an (by
    split at hl <;> simp only[List.length_append,List.length_cons] at hl ⊢ <;> omega)
   simp only[decide_eq_true_eq] at e1
   rw[e1,body_plain _ _ _ _ ad an l2 l1,digV_zeros,show digV (decN m.natAbs)=m.natAbs from digV_dec _]
   rw[fin_ok (decide (m<0)) m.natAbs _ _ x hp (by omega) hn (by omega) (by omega) (by omega),hs]
theorem fin_right (neg:Bool) (m:Nat) (x:Int):((finS neg m x).2.2=0∧okN (finS neg m x).1 (finS neg m x).2.1)∨finS neg m x=(0,0,30):=by
 unfold finS
 by_cases h0:m=0
 ·rw[if_pos h0]
  exact .inl ⟨rfl,by unfold okN;simp⟩
 ·rw[if_neg h0]
  by_cases h:(strip m x).1≤999999999 ∧ -18≤(strip m x).2∧(strip m x).2≤9
  ·rw[if_pos h]
   obtain⟨h1,h2⟩:=strip_ne m x (by omega)
   refine .inl ⟨rfl,?_⟩
   unfold okN
   cases neg with
   | true=>
    simp only[if_true]
    rw[if_neg (fun q=>h2 (by rw[tmod10] at q;omega))]
    omega
   | false=>
    simp only[Bool.false_eq_true,if_false]
    rw[if_neg (fun q=>h2 (by rw[tmod10] at q;omega))]
    omega
  ·rw[if_neg h]
   exact .inr rfl
theorem body_right (neg:Bool) (r:List Nat):((bodyS neg r).2.2=0∧okN (bodyS neg r).1 (bodyS neg r).2.1)∨bodyS neg r=(0,0,30)∨bodyS neg r=(0,0,3):=by
 unfold bodyS
 split
 ·exact .inr (.inr rfl)
 ·split
  ·split
   ·exact .inr (.inr rfl)
   ·split
    ·exact .inr (.inr rfl)
    ·rcases fin_right neg (digV (fr r++fr ‹_›)) (‹Int› - (fr ‹_›).length) with h | h
     ·exact .inl h
     ·exact .inr (.inl h)
  ·split
   ·exact .inr (.inr rfl)
   ·rcases fin_right neg (digV (fr r)) ‹Int› with h | h
    ·exact .inl h
    ·exact .inr (.inl h)
theorem parse_right (l:List Nat):((parseS l).2.2=0∧okN (parseS l).1 (parseS l).2.1)∨parseS l=(0,0,30)∨parseS l=(0,0,3):=by
 unfold parseS
 split
 ·exact .inr (.inr rfl)
 ·split
  ·exact body_right _ _
  ·exact body_right _ _
def decP (n:Nat):List Nat:=if n=0 then [48] else decN n
theorem decP_spec (n:Nat) (h:n<4294967296):(∀ c∈decP n,isD c=true)∧decP n≠[]∧digV (decP n)=n∧(decP n).length≤10:=by
 unfold decP
 split
 ·rename_i e
  subst e
  decide
 ·exact⟨decN_isD n,decN_nil n (by omega),digV_dec n,decN_len n 10 (by omega)⟩
end NumS
namespace NumT
open Go Go.RowKit Ax Ti BigM NumS NumA
theorem rTI:type_of% (J8 @ti3 @ti2 @ti4 @ti9 @ti5 @ti43 @ti23 @ti31):=cj @ti3 (J7 @ti2 @ti4 @ti9 @ti5 @ti43 @ti23 @ti31)
def bs (l:List Nat):ByteArray:=RefJ.bs l
theorem bs_size (l:List Nat):(bs l).size=l.length:=RefJ.bs_size l
theorem bs_append (a b:List Nat):bs a++bs b=bs (a++b):=RefJ.bs_append a b
def By (l:List Nat):Prop:=∀ c∈l,c<256
theorem bs_get (l:List Nat) (h:By l) (k:Nat):((bs l).data.toList.getD k 0).toNat=l.getD k 0:=by
 show (((l.map UInt8.ofNat).toArray).toList.getD k 0).toNat=_
 rw[List.toList_toArray,List.getD_eq_getElem?_getD,List.getElem?_map,List.getD_eq_getElem?_getD]
 cases hk:l[k]? with
 | none=>rfl
 | some c=>
  have:=h c (List.mem_of_getElem? hk)
  simp [Nat.mod_eq_of_lt this]
theorem bs_slice (l:List Nat) (i j:Nat):(bs l).extract i j=bs ((l.drop i).take (j-i)):=by
 have h:((bs l).extract i j).data=(bs ((l.drop i).take (j-i))).data:=by
  rw[ByteArray.data_extract]
  apply Array.ext'
  rw[Array.toList_extract]
  show List.extract ((l.map UInt8.ofNat).toArray).toList i j=(((l.drop i).take (j-i)).map UInt8.ofNat).toArray.toList
  rw[List.toList_toArray,List.toList_toArray,List.extract_eq_take_drop,List.map_take,List.map_drop]
 cases hx:(bs l).extract i j with
 | mk d=>
  rw[hx] at h
  cases hy:bs ((l.drop i).take (j-i)) with
  | mk e=>rw[hy] at h;rw[show d=e from h]
theorem run_step (l:List Nat) (k:Nat) (hk:k<(fr l).length):k<l.length∧isD (l.getD k 0)=true:=by
 induction l generalizing k with
 | nil=>simp [fr] at hk
 | cons c l ih=>
  rw[fr] at hk
  split at hk
  ·rename_i hc
   cases k with
   | zero=>exact⟨by simp,by simpa using hc⟩
   | succ k=>
    have:=ih k (by simpa using hk)
    exact⟨by simpa using this.1,by simpa using this.2⟩
  ·simp at hk
theorem run_stop (l:List Nat) (h:(fr l).length<l.length):isD (l.getD (fr l).length 0)=false:=by
 induction l with
 | nil=>simp at h
 | cons c l ih=>
  rw[fr] at h ⊢
  split
  ·rename_i hc
   rw[if_pos hc] at h
   simpa using ih (by simpa using h)
  ·rename_i hc
   simpa using hc
theorem fr_le (l:List Nat):(fr l).length≤l.length:=by
 have:=congrArg List.length (fr_bk l)
 rw[List.length_append] at this
 omega
theorem run_ax (l:List Nat) (h:By l) (hl:l.length≤1000000000):PCall Tryz.prog 144 [.v (.string (bs l))] (.v (.int .i64 (fr l).length)):=by
 refine pcall_of fun s=>?_
 have hle:=fr_le l
 have l1:=bs_size l
 refine acall_of Tryz.func144 rfl rfl (by simp [Tryz.ntmps144]) ?_;rw[Tryz.ntmps144,Tryz.results144]
 refine go trivial ?_
 refine aw_loop (fun n e s'=>∃ k:Nat,n=(fr l).length-k∧k≤(fr l).length∧e.n=23∧e.m 0=.v (.string (bs l))∧e.m 3=.v (.int .i64 k)∧s'=s) (fr l).length ?_ ?_
 ·refine⟨0,?_⟩
  refine rn trivial ?_
  exact⟨by omega,by omega,rfl⟩
 ·rintro n e s' ⟨k,rfl,hk,h1,k0,k3,rfl⟩
  have hg:=bs_get l h k
  have z3:(k:Int)+1=((k+1:Nat):Int):=rfl
  by_cases hk2:k<(fr l).length
  ·obtain⟨r1,r2⟩:=run_step l k hk2
   obtain⟨d1,d2⟩:=(isD_iff _).1 r2
   clear r2
   generalize l.getD k 0=c at *
   refine go (J6 rTI @h1 @k0 @k3 @l1 @hg) ?_
   rw[then_normal]
   refine ifs ?_ ?_ <;> first | exact nope | intro hb
   refine go (cj @h1 @k3) ?_
   simp only[block_normal,loop_normal]
   refine⟨(fr l).length-(k+1),by omega,k+1,rfl,by omega,?_⟩
   exact rn0 (J3 @h1 @k0 @z3)
  ·obtain rfl:k=(fr l).length:=by omega
   by_cases hk3:(fr l).length<l.length
   ·have r2:=run_stop l hk3
    have r3:¬(48≤l.getD (fr l).length 0∧l.getD (fr l).length 0≤57):=fun h=>by rw[(isD_iff _).2 h] at r2;cases r2
    clear r2
    generalize l.getD (fr l).length 0=c at *
    by_cases c1:48≤c
    ·have c2:¬c≤57:=fun h=>r3 ⟨c1,h⟩
     clear r3
     refine go (J6 rTI @h1 @k0 @k3 @l1 @hg) ?_
     rw[then_normal]
     refine ifs ?_ ?_ <;> first | exact nope | intro hb
     exact go0 (cj @h1 @k3)
    ·clear r3
     refine go (J6 rTI @h1 @k0 @k3 @l1 @hg) ?_
     rw[then_normal]
     refine ifs ?_ ?_ <;> first | exact nope | intro hb
     exact go0 (cj @h1 @k3)
   ·refine go (J5 rTI @h1 @k0 @k3 @l1) ?_
    rw[then_normal]
    refine ifs ?_ ?_ <;> first | exact nope | intro hb
    exact go0 (cj @h1 @k3)
end NumT
end Go.Proofs.YtdaeancgockacaaGreatDoor
