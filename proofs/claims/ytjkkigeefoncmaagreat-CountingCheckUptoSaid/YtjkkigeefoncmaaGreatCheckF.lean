import Derived.Test.YtjkkigeefoncmaaGreatCheckE
set_option linter.all false
set_option maxRecDepth 100000
set_option linter.defProp false
noncomputable section
set_option maxHeartbeats 4000000
namespace Go.S
open Go Go.Pm Go.Proofs
open Nat renaming reduceAdd→s1,reduceSub→s2,reduceMul→s3,reduceBEq→s4,reduceLeDiff→s5,reduceEqDiff→s6,reduceLT→s7
open Go.IntKind (i64)
open Go.Pm.PV renaming undef→u,lit→L,int→I
open Go.Pm.bq renaming box→X,arr→Y
open Option renaming bind→N,map→M
variable {C:Pm.Callee} {R:bI}
def f216 (c:Int):Option Bool:=
 (if (decide ((97:Int)≤c)) then
 (if (decide (c≤(122:Int))) then
 (some true)
 else (if (decide ((65:Int)≤c)) then
 (some (decide (c≤(90:Int))))
 else (some false)))
 else (if (decide ((65:Int)≤c)) then
 (some (decide (c≤(90:Int))))
 else (some false)))
theorem Io (h:Hy C R) (c:Int) :
  C.pureC 216 [I IntKind.u8 c]=M (fun r=>PV.bool r) (f216 c):=by
 rw [aH h.1 (fn:=Tryz.f216) rfl _ rfl rfl rfl]
 simp only [WA,s1,s2,s3,s4,s5,s6,s7,↓reduceIte,ako,arE,aif,Mx,Tryz.f216,f216]
def f219 (c:Int):Option Bool:=
 (if (decide ((48:Int)≤c)) then
 (some (decide (c≤(57:Int))))
 else (some false))
theorem tM (h:Hy C R) (c:Int) :
  C.pureC 219 [I IntKind.u8 c]=M (fun r=>PV.bool r) (f219 c):=by
 rw [aH h.1 (fn:=Tryz.f219) rfl _ rfl rfl rfl]
 simp only [WA,s1,s2,s3,s4,s5,s6,s7,↓reduceIte,akm,arC,aid,A1,Tryz.f219,f219]
def f218 (c:Int):Option Bool:=
 (N (f216 c) fun x0=>
 (if x0 then
 (some true)
 else (N (f219 c) fun x1=>
 (if x1 then
 (some true)
 else (some (c == (95:Int)))))))
theorem Im (h:Hy C R) (c:Int) :
  C.pureC 218 [I IntKind.u8 c]=M (fun r=>PV.bool r) (f218 c):=by
 rw [aH h.1 (fn:=Tryz.f218) rfl _ rfl rfl rfl]
 simp only [WA,s1,s2,s3,s4,s5,s6,s7,↓reduceIte,akn,arD,aie,Ge,Tryz.f218,YK,Mx,HU,A1,Io h,tM h,f218]
def ep (s:ByteArray):Nat→Int→Option Int
 | 0,_=>none
 | m0+1,n_0=>
 (if (decide (n_0<((ByteArray.size s):Int))) then
 (N (ea s n_0) fun x1=>
 (N (f218 x1) fun x2=>
 (if x2 then
 (ep s m0 (w64 (n_0+(1:Int))))
 else (some n_0))))
 else (some n_0))
def jK (s:ByteArray):Option Int:=
 (ep s ax (0:Int))
theorem r8 (h:Hy C R) {s:ByteArray} :
  ∀ (m0:Nat) (n_0:Int),lp (bw E 217 C) [(Fr.blk 0),(Fr.seq 0 [1,1,1])] 0 [0,0,0,1,1] m0 ⟨[PV.str (s),PV.fn 218 [],u,u,u,I i64 n_0,u,u,u,u,u,u,u,u,u,u,u,u,u,u],[],0⟩=M (fun r=>I i64 r) (ep s m0 n_0):=by
 intro m0
 induction m0 with
 | zero=>intros;rw [bk];rfl
 | succ m0 ih=>
  intro n_0
  rw [bm]
  simp only [WA,s1,s2,s3,s4,s5,s6,s7,↓reduceIte,xT,ym,xM,sF,Tryz.f217,oG,ON,Ge,Im h,ep,ih]
theorem xk (h:Hy C R) (s:ByteArray) :
  C.pureC 217 [PV.str s,PV.fn 218 []]=M (fun r=>I i64 r) (jK s):=by
 rw [aH h.1 (fn:=Tryz.f217) rfl _ rfl rfl rfl]
 simp only [WA,s1,s2,s3,s4,s5,s6,s7,↓reduceIte,xT,ym,xM,sF,Tryz.f217,oG,ON,Ge,Im h,jK,r8 h]
def eo (s:ByteArray):Nat→Int→Option Int
 | 0,_=>none
 | m0+1,n_0=>
 (if (decide (n_0<((ByteArray.size s):Int))) then
 (N (ea s n_0) fun x1=>
 (N (f219 x1) fun x2=>
 (if x2 then
 (eo s m0 (w64 (n_0+(1:Int))))
 else (some n_0))))
 else (some n_0))
def jJ (s:ByteArray):Option Int:=
 (eo s ax (0:Int))
theorem r7 (h:Hy C R) {s:ByteArray} :
  ∀ (m0:Nat) (n_0:Int),lp (bw E 217 C) [(Fr.blk 0),(Fr.seq 0 [1,1,1])] 0 [0,0,0,1,1] m0 ⟨[PV.str (s),PV.fn 219 [],u,u,u,I i64 n_0,u,u,u,u,u,u,u,u,u,u,u,u,u,u],[],0⟩=M (fun r=>I i64 r) (eo s m0 n_0):=by
 intro m0
 induction m0 with
 | zero=>intros;rw [bk];rfl
 | succ m0 ih=>
  intro n_0
  rw [bm]
  simp only [WA,s1,s2,s3,s4,s5,s6,s7,↓reduceIte,xT,ym,xM,sF,Tryz.f217,oG,HU,A1,tM h,eo,ih]
theorem xj (h:Hy C R) (s:ByteArray) :
  C.pureC 217 [PV.str s,PV.fn 219 []]=M (fun r=>I i64 r) (jJ s):=by
 rw [aH h.1 (fn:=Tryz.f217) rfl _ rfl rfl rfl]
 simp only [WA,s1,s2,s3,s4,s5,s6,s7,↓reduceIte,xT,ym,xM,sF,Tryz.f217,oG,HU,A1,tM h,jJ,r7 h]
def f236 (c:Int):Option Bool:=
 (if (decide ((32:Int)≤c)) then
 (if (decide (c≤(126:Int))) then
 (some (!(c == (34:Int))))
 else (some false))
 else (some false))
theorem Ii (h:Hy C R) (c:Int) :
  C.pureC 236 [I IntKind.u8 c]=M (fun r=>PV.bool r) (f236 c):=by
 rw [aH h.1 (fn:=Tryz.f236) rfl _ rfl rfl rfl]
 simp only [WA,s1,s2,s3,s4,s5,s6,s7,↓reduceIte,akb,arq,ah2,F7,Tryz.f236,f236]
def ej (s:ByteArray):Nat→Int→Option Int
 | 0,_=>none
 | m0+1,n_0=>
 (if (decide (n_0<((ByteArray.size s):Int))) then
 (N (ea s n_0) fun x1=>
 (N (f236 x1) fun x2=>
 (if x2 then
 (ej s m0 (w64 (n_0+(1:Int))))
 else (some n_0))))
 else (some n_0))
def jI (s:ByteArray):Option Int:=
 (ej s ax (0:Int))
theorem r6 (h:Hy C R) {s:ByteArray} :
  ∀ (m0:Nat) (n_0:Int),lp (bw E 217 C) [(Fr.blk 0),(Fr.seq 0 [1,1,1])] 0 [0,0,0,1,1] m0 ⟨[PV.str (s),PV.fn 236 [],u,u,u,I i64 n_0,u,u,u,u,u,u,u,u,u,u,u,u,u,u],[],0⟩=M (fun r=>I i64 r) (ej s m0 n_0):=by
 intro m0
 induction m0 with
 | zero=>intros;rw [bk];rfl
 | succ m0 ih=>
  intro n_0
  rw [bm]
  simp only [WA,s1,s2,s3,s4,s5,s6,s7,↓reduceIte,xT,ym,xM,sF,Tryz.f217,oG,OG,F7,Ii h,ej,ih]
theorem xi (h:Hy C R) (s:ByteArray) :
  C.pureC 217 [PV.str s,PV.fn 236 []]=M (fun r=>I i64 r) (jI s):=by
 rw [aH h.1 (fn:=Tryz.f217) rfl _ rfl rfl rfl]
 simp only [WA,s1,s2,s3,s4,s5,s6,s7,↓reduceIte,xT,ym,xM,sF,Tryz.f217,oG,OG,F7,Ii h,jI,r6 h]
def f220 (s:ByteArray):Option (Int × Int):=
 (if (decide (((0:Int)≤(1:Int))∧((1:Int)≤((ByteArray.size s):Int)))) then
 (N (jI (ByteArray.extract s (Int.toNat (1:Int)) (ByteArray.size s))) fun x0=>
 (if ((w64 ((1:Int)+x0)) == ((ByteArray.size s):Int)) then
 (some ((0:Int),(2:Int)))
 else (N (ea s (w64 ((1:Int)+x0))) fun x1=>
 (if (!(x1 == (34:Int))) then
 (some ((0:Int),(2:Int)))
 else (if (decide ((60:Int)<x0)) then
 (some ((0:Int),(3:Int)))
 else (some ((w64 (x0+(2:Int))),(0:Int))))))))
 else none)
theorem Uq (h:Hy C R) (s:ByteArray) :
  C.pureC 220 [PV.str s]=M (fun r=>PV.tup [I i64 r.1,I i64 r.2]) (f220 s):=by
 rw [aH h.1 (fn:=Tryz.f220) rfl _ rfl rfl rfl]
 simp only [WA,s1,s2,s3,s4,s5,s6,s7,↓reduceIte,akl,arB,aic,Wn,Tryz.f220,YJ,sF,OG,F7,xi h,f220]
def mh (s:List ByteArray) (v:ByteArray):Nat→Int→Option Int
 | 0,_=>none
 | m0+1,bA=>
 (if (decide (bA<(((List.length s):Nat):Int))) then
 (N (at? s bA) fun x1=>
 (if (decide (v=x1)) then
 (some bA)
 else (mh s v m0 (w64 (bA+(1:Int))))))
 else (some (-(1:Int))))
def f223 (s:List ByteArray) (v:ByteArray):Option Int:=
 (mh s v ax (0:Int))
theorem Ew (h:Hy C R) {s:List ByteArray} {v:ByteArray} :
  ∀ (m0:Nat) (bA:Int),lp (bw E 223 C) [(Fr.blk 0),(Fr.seq 0 [1,1])] 0 [0,0,1,0,1] m0 ⟨[L (rows (s)) fl0,PV.str (v),u,u,u,u,u,I i64 ((((List.length s):Nat):Int)),I i64 bA,u,u,u,u,u,u,u,u,u,u],[],0⟩=M (fun r=>I i64 r) (mh s v m0 bA):=by
 intro m0
 induction m0 with
 | zero=>intros;rw [bk];rfl
 | succ m0 ih=>
  intro bA
  rw [bm]
  simp only [WA,s1,s2,s3,s4,s5,s6,s7,↓reduceIte,XR,Zy,WW,Mw,Tryz.f223,Hf,mh,ih]
theorem Un (h:Hy C R) (s:List ByteArray) (v:ByteArray) :
  C.pureC 223 [L (rows s) fl0,PV.str v]=M (fun r=>I i64 r) (f223 s v):=by
 rw [aH h.1 (fn:=Tryz.f223) rfl _ rfl rfl rfl]
 simp only [WA,s1,s2,s3,s4,s5,s6,s7,↓reduceIte,XR,Zy,WW,Mw,Tryz.f223,Hf,f223,Ew h]
def f200 (s:List ByteArray) (v:ByteArray):Option Bool:=
 (N (f223 s v) fun x0=>
 (some (decide ((0:Int)≤x0))))
theorem Ac (h:Hy C R) (s:List ByteArray) (v:ByteArray) :
  C.pureC 200 [L (rows s) fl0,PV.str v]=M (fun r=>PV.bool r) (f200 s v):=by
 rw [aH h.1 (fn:=Tryz.f200) rfl _ rfl rfl rfl]
 simp only [WA,s1,s2,s3,s4,s5,s6,s7,↓reduceIte,akA,arQ,ais,Gl,Tryz.f200,amn,Mw,Un h,f200]
def f221 (s:ByteArray):Option Bool:=
 (if (decide ((2:Int)≤((ByteArray.size s):Int))) then
 (if (decide (((0:Int)≤(2:Int))∧((2:Int)≤((ByteArray.size s):Int)))) then
 (N (f200 [(ByteArray.mk (List.toArray [45,62])),(ByteArray.mk (List.toArray [60,61])),(ByteArray.mk (List.toArray [62,61])),(ByteArray.mk (List.toArray [61,61])),(ByteArray.mk (List.toArray [33,61]))] (ByteArray.extract s 0 (Int.toNat (2:Int)))) fun x0=>
 (some x0))
 else none)
 else (some false))
theorem Up (h:Hy C R) (s:ByteArray) :
  C.pureC 221 [PV.str s]=M (fun r=>PV.bool r) (f221 s):=by
 have c0:=fun (v:ByteArray)=>Ac (C:=C) (R:=R) h (((ByteArray.mk (List.toArray [45,62]))::((ByteArray.mk (List.toArray [60,61]))::((ByteArray.mk (List.toArray [62,61]))::((ByteArray.mk (List.toArray [61,61]))::((ByteArray.mk (List.toArray [33,61]))::([]:List ByteArray))))))) v
 simp only [cA,cf,cc,bV,cg,bU,WS,List.length_nil,List.length_cons,Nat.reduceAdd] at c0
 rw [aH h.1 (fn:=Tryz.f221) rfl _ rfl rfl rfl]
 simp only [WA,s1,s2,s3,s4,s5,s6,s7,↓reduceIte,akk,arA,aib,Wm,Tryz.f221,OT,Gl,c0,f221]
def f237 (s:ByteArray) (c:Int):Option Int:=some (Go.Lib.indexByte s.data.toList c.toNat.toUInt8)
theorem Ul (h:Hy C R) (s:ByteArray) (c:Int):C.pureC 237 [PV.str s,I IntKind.u8 c]=M (fun r=>I i64 r) (f237 s c):=by
 rw [h.1.p 237 rfl];rfl
def f222 (s:ByteArray) (c:Int):Option Int:=
 (N (f237 s c) fun x0=>
 (some x0))
theorem Uo (h:Hy C R) (s:ByteArray) (c:Int) :
  C.pureC 222 [PV.str s,I IntKind.u8 c]=M (fun r=>I i64 r) (f222 s c):=by
 rw [aH h.1 (fn:=Tryz.f222) rfl _ rfl rfl rfl]
 simp only [WA,s1,s2,s3,s4,s5,s6,s7,↓reduceIte,akj,arz,aia,Wl,Tryz.f222,aml,aht,Ul h,f222]
def f198 (s:ByteArray):Option (Int × Int × Int):=
 (N (ea s (0:Int)) fun x0=>
 (N (f216 x0) fun x1=>
 (if x1 then
 (N (jK s) fun x2=>
 (if (decide ((20:Int)<x2)) then
 (some ((0:Int),(0:Int),(3:Int)))
 else (some ((1:Int),x2,(0:Int)))))
 else (N (f219 x0) fun x3=>
 (if x3 then
 (N (jJ s) fun x4=>
 (if (decide ((9:Int)<x4)) then
 (some ((0:Int),(0:Int),(3:Int)))
 else (some ((2:Int),x4,(0:Int)))))
 else (if (x0 == (34:Int)) then
 (N (f220 s) fun x5=>
 (some ((3:Int),(x5).1,(x5).2)))
 else (N (f221 s) fun x6=>
 (if x6 then
 (some ((4:Int),(2:Int),(0:Int)))
 else (N (f222 (ByteArray.mk (List.toArray [123,125,40,41,91,93,44,59,58,61,43,45,42,60,62,33,38,124,46,63])) x0) fun x7=>
 (if (decide ((0:Int)≤x7)) then
 (some ((4:Int),(1:Int),(0:Int)))
 else (some ((0:Int),(0:Int),(2:Int)))))))))))))
theorem Uu (h:Hy C R) (s:ByteArray) :
  C.pureC 198 [PV.str s]=M (fun r=>PV.tup [I i64 r.1,I i64 r.2.1,I i64 r.2.2]) (f198 s):=by
 rw [aH h.1 (fn:=Tryz.f198) rfl _ rfl rfl rfl]
 simp only [WA,s1,s2,s3,s4,s5,s6,s7,↓reduceIte,akB,arR,ait,Wq,Tryz.f198,YK,Mx,YJ,sF,ON,Ge,HU,A1,amq,Wn,amp,Wm,amo,Wl,Io h,xk h,tM h,xj h,Uq h,Up h,Uo h,f198]
def f173 (t:Token):Option (ByteArray × Bool):=
 (if (t.Kind == (3:Int)) then
 none
 else (if (decide (t.Text=(ByteArray.mk (List.toArray [])))) then
 (some ((ByteArray.mk (List.toArray [])),false))
 else (N (f198 t.Text) fun x0=>
 (if (((x0).2).2 == (0:Int)) then
 (if ((x0).1 == t.Kind) then
 (some (t.Text,(((x0).2).1 == (((ByteArray.size t.Text):Nat):Int))))
 else (some (t.Text,false)))
 else (some (t.Text,false))))))
theorem UC (h:Hy C R) (np:Int) (nm:ByteArray) (nn:Int) :
  C.pureC 173 [PV.agg [I i64 np,PV.str nm,I i64 nn]]=M (fun r=>PV.tup [PV.str r.1,PV.bool r.2]) (f173 (Token.mk np nm nn)):=by
 rw [aH h.1 (fn:=Tryz.f173) rfl _ rfl rfl rfl]
 simp only [WA,s1,s2,s3,s4,s5,s6,s7,↓reduceIte,akM,ar2,aiE,Ww,Tryz.f173,amv,Wq,Uu h,f173]
def f145 (s:ByteArray):Option Bool:=
 (N (f173 (Token.mk (1:Int) s (0:Int))) fun x0=>
 (some (x0).2))
theorem mA (h:Hy C R) (s:ByteArray) :
  C.pureC 145 [PV.str s]=M (fun r=>PV.bool r) (f145 s):=by
 rw [aH h.1 (fn:=Tryz.f145) rfl _ rfl rfl rfl]
 simp only [WA,s1,s2,s3,s4,s5,s6,s7,↓reduceIte,ak3,asl,aiV,sG,Tryz.f145,amG,Ww,UC h,f145]
def iz (m:aE) (c4:ByteArray) (c5:Int) (c6:Bool) (c7:List Attr):Option Bool:=
 (some (decide (m.Name=c4)))
theorem oc (h:Hy C R) (N3:ByteArray) (BD:Int) (vy:Bool) (G0:List Attr) (c4:ByteArray) (c5:Int) (c6:Bool) (c7:List Attr) :
  C.pureC 147 [PV.agg [PV.str N3,I i64 BD,PV.bool vy,L (rows G0) fl0],PV.bL [[PV.str c4,I i64 c5,PV.bool c6,L (rows c7) (Fl.mk false false)]] 0 0]=M (fun r=>PV.bool r) (iz (aE.mk N3 BD vy G0) c4 c5 c6 c7):=by
 rw [aH h.1 (fn:=Tryz.f147) rfl _ rfl rfl rfl]
 simp only [WA,s1,s2,s3,s4,s5,s6,s7,↓reduceIte,ak1,asi,aiT,Ba,Tryz.f147,iz]
def cU (s:List aE) (c1:ByteArray) (c2:Int) (c3:Bool) (c4:List Attr):Nat→Int→Option Int
 | 0,_=>none
 | m0+1,bA=>
 (if (decide (bA<(((List.length s):Nat):Int))) then
 (N (at? s bA) fun x1=>
 (N (iz x1 c1 c2 c3 c4) fun x2=>
 (if x2 then
 (some bA)
 else (cU s c1 c2 c3 c4 m0 (w64 (bA+(1:Int)))))))
 else (some (-(1:Int))))
def fU (s:List aE) (c1:ByteArray) (c2:Int) (c3:Bool) (c4:List Attr):Option Int:=
 (cU s c1 c2 c3 c4 ax (0:Int))
theorem nh (h:Hy C R) {s:List aE} {c1:ByteArray} {c2:Int} {c3:Bool} {c4:List Attr} :
  ∀ (m0:Nat) (bA:Int),lp (bw E 174 C) [(Fr.blk 0),(Fr.seq 0 [1,1])] 0 [0,0,1,0,1] m0 ⟨[L (rows (s)) fl0,PV.fn 147 [(PV.bL [[(PV.str (c1)),(I i64 (c2)),(PV.bool (c3)),(L (rows (c4)) (Fl.mk false false))]] 0 0)],u,u,u,u,u,I i64 ((((List.length s):Nat):Int)),I i64 bA,u,u,u,u,u,u,u,u,u,u],[],0⟩=M (fun r=>I i64 r) (cU s c1 c2 c3 c4 m0 bA):=by
 intro m0
 induction m0 with
 | zero=>intros;rw [bk];rfl
 | succ m0 ih=>
  intro bA
  rw [bm]
  simp only [WA,s1,s2,s3,s4,s5,s6,s7,↓reduceIte,X7,ZO,Xm,MJ,Tryz.f174,Hv,H2,Ba,oc h,cU,ih]
theorem p9 (h:Hy C R) (s:List aE) (c1:ByteArray) (c2:Int) (c3:Bool) (c4:List Attr) :
  C.pureC 174 [L (rows s) fl0,PV.fn 147 [PV.bL [[PV.str c1,I i64 c2,PV.bool c3,L (rows c4) (Fl.mk false false)]] 0 0]]=M (fun r=>I i64 r) (fU s c1 c2 c3 c4):=by
 rw [aH h.1 (fn:=Tryz.f174) rfl _ rfl rfl rfl]
 simp only [WA,s1,s2,s3,s4,s5,s6,s7,↓reduceIte,X7,ZO,Xm,MJ,Tryz.f174,Hv,H2,Ba,oc h,fU,nh h]
def eW (s:List aE) (c1:ByteArray) (c2:Int) (c3:Bool) (c4:List Attr):Option Bool:=
 (N (fU s c1 c2 c3 c4) fun x0=>
 (some (decide ((0:Int)≤x0))))
theorem jM (h:Hy C R) (s:List aE) (c1:ByteArray) (c2:Int) (c3:Bool) (c4:List Attr) :
  C.pureC 146 [L (rows s) fl0,PV.fn 147 [PV.bL [[PV.str c1,I i64 c2,PV.bool c3,L (rows c4) (Fl.mk false false)]] 0 0]]=M (fun r=>PV.bool r) (eW s c1 c2 c3 c4):=by
 rw [aH h.1 (fn:=Tryz.f146) rfl _ rfl rfl rfl]
 simp only [WA,s1,s2,s3,s4,s5,s6,s7,↓reduceIte,ak2,asj,aiU,MU,Tryz.f146,amF,MJ,p9 h,eW]
def ix (y:Attr) (c4:ByteArray) (c5:Int) (c6:Int) (c7:List ByteArray):Option Bool:=
 (some (decide (y.Name=c4)))
theorem ob (h:Hy C R) (ua:ByteArray) (Wb:Int) (LD:Int) (FX:List ByteArray) (c4:ByteArray) (c5:Int) (c6:Int) (c7:List ByteArray) :
  C.pureC 176 [PV.agg [PV.str ua,I i64 Wb,I i64 LD,L (rows FX) fl0],PV.bL [[PV.str c4,I i64 c5,I i64 c6,L (rows c7) fl0]] 0 0]=M (fun r=>PV.bool r) (ix (Attr.mk ua Wb LD FX) c4 c5 c6 c7):=by
 rw [aH h.1 (fn:=Tryz.f176) rfl _ rfl rfl rfl]
 simp only [WA,s1,s2,s3,s4,s5,s6,s7,↓reduceIte,akK,ar0,aiC,Gu,Tryz.f176,ix]
def cT (s:List Attr) (c1:ByteArray) (c2:Int) (c3:Int) (c4:List ByteArray):Nat→Int→Option Int
 | 0,_=>none
 | m0+1,bA=>
 (if (decide (bA<(((List.length s):Nat):Int))) then
 (N (at? s bA) fun x1=>
 (N (ix x1 c1 c2 c3 c4) fun x2=>
 (if x2 then
 (some bA)
 else (cT s c1 c2 c3 c4 m0 (w64 (bA+(1:Int)))))))
 else (some (-(1:Int))))
def fS (s:List Attr) (c1:ByteArray) (c2:Int) (c3:Int) (c4:List ByteArray):Option Int:=
 (cT s c1 c2 c3 c4 ax (0:Int))
theorem nd (h:Hy C R) {s:List Attr} {c1:ByteArray} {c2:Int} {c3:Int} {c4:List ByteArray} :
  ∀ (m0:Nat) (bA:Int),lp (bw E 199 C) [(Fr.blk 0),(Fr.seq 0 [1,1])] 0 [0,0,1,0,1] m0 ⟨[L (rows (s)) fl0,PV.fn 176 [(PV.bL [[(PV.str (c1)),(I i64 (c2)),(I i64 (c3)),(L (rows (c4)) fl0)]] 0 0)],u,u,u,u,u,I i64 ((((List.length s):Nat):Int)),I i64 bA,u,u,u,u,u,u,u,u,u,u],[],0⟩=M (fun r=>I i64 r) (cT s c1 c2 c3 c4 m0 bA):=by
 intro m0
 induction m0 with
 | zero=>intros;rw [bk];rfl
 | succ m0 ih=>
  intro bA
  rw [bm]
  simp only [WA,s1,s2,s3,s4,s5,s6,s7,↓reduceIte,XU,ZB,WZ,MC,Tryz.f199,Hi,OU,Gu,ob h,cT,ih]
theorem p7 (h:Hy C R) (s:List Attr) (c1:ByteArray) (c2:Int) (c3:Int) (c4:List ByteArray) :
  C.pureC 199 [L (rows s) fl0,PV.fn 176 [PV.bL [[PV.str c1,I i64 c2,I i64 c3,L (rows c4) fl0]] 0 0]]=M (fun r=>I i64 r) (fS s c1 c2 c3 c4):=by
 rw [aH h.1 (fn:=Tryz.f199) rfl _ rfl rfl rfl]
 simp only [WA,s1,s2,s3,s4,s5,s6,s7,↓reduceIte,XU,ZB,WZ,MC,Tryz.f199,Hi,OU,Gu,ob h,fS,nd h]
def eV (s:List Attr) (c1:ByteArray) (c2:Int) (c3:Int) (c4:List ByteArray):Option Bool:=
 (N (fS s c1 c2 c3 c4) fun x0=>
 (some (decide ((0:Int)≤x0))))
theorem p8 (h:Hy C R) (s:List Attr) (c1:ByteArray) (c2:Int) (c3:Int) (c4:List ByteArray) :
  C.pureC 175 [L (rows s) fl0,PV.fn 176 [PV.bL [[PV.str c1,I i64 c2,I i64 c3,L (rows c4) fl0]] 0 0]]=M (fun r=>PV.bool r) (eV s c1 c2 c3 c4):=by
 rw [aH h.1 (fn:=Tryz.f175) rfl _ rfl rfl rfl]
 simp only [WA,s1,s2,s3,s4,s5,s6,s7,↓reduceIte,akL,ar1,aiD,Wv,Tryz.f175,amu,MC,p7 h,eV]
def kc (l:List ByteArray):Nat→Int→Option Int
 | 0,_=>none
 | m0+1,o7=>
 (if (decide (o7<(((List.length l):Nat):Int))) then
 (N (at? l o7) fun x1=>
 (N (f145 x1) fun x2=>
 (if (!x2) then
 (some (2:Int))
 else (if (decide (((0:Int)≤o7)∧(o7≤(((List.length l):Nat):Int)))) then
 (N (f200 (List.take (Int.toNat o7) l) x1) fun x3=>
 (if x3 then
 (some (5:Int))
 else (kc l m0 (w64 (o7+(1:Int))))))
 else none))))
 else (some (0:Int)))
def f177 (l:List ByteArray):Option Int:=
 (if (decide ((20:Int)<(((List.length l):Nat):Int))) then
 (some (3:Int))
 else (kc l ax (0:Int)))
theorem ES (h:Hy C R) {l:List ByteArray} :
  ∀ (m0:Nat) (o7:Int),lp (bw E 177 C) [(Fr.blk 0),(Fr.seq 0 [1,1,1])] 0 [0,0,1,0,1,1] m0 ⟨[L (rows (l)) fl0,u,u,u,u,u,u,u,L (rows (l)) fl0,I i64 ((((List.length l):Nat):Int)),I i64 o7,u,u,u,u,u,u,u,u,u,u,u,u,u,u,u],[],0⟩=M (fun r=>I i64 r) (kc l m0 o7):=by
 intro m0
 induction m0 with
 | zero=>intros;rw [bk];rfl
 | succ m0 ih=>
  intro o7
  rw [bm]
  simp only [WA,s1,s2,s3,s4,s5,s6,s7,↓reduceIte,X6,ZN,Xl,MI,Tryz.f177,Hu,vN,sG,OT,Gl,mA h,Ac h,kc,ih]
theorem UB (h:Hy C R) (l:List ByteArray) :
  C.pureC 177 [L (rows l) fl0]=M (fun r=>I i64 r) (f177 l):=by
 rw [aH h.1 (fn:=Tryz.f177) rfl _ rfl rfl rfl]
 simp only [WA,s1,s2,s3,s4,s5,s6,s7,↓reduceIte,X6,ZN,Xl,MI,Tryz.f177,Hu,vN,sG,OT,Gl,mA h,Ac h,f177,ES h]
def f149 (x:Attr) (before:List Attr):Option Int:=
 (N (f145 x.Name) fun x0=>
 (if (!x0) then
 (some (2:Int))
 else (N (eV before x.Name x.Low x.High x.Names) fun x1=>
 (if x1 then
 (some (5:Int))
 else (N (f177 x.Names) fun x2=>
 (if (!(x2 == (0:Int))) then
 (some x2)
 else (if (decide ((-(1000000:Int))≤x.Low)) then
 (if (decide (x.Low≤x.High)) then
 (if (decide ((0:Int)<(((List.length x.Names):Nat):Int))) then
 (if (x.Low == (0:Int)) then
 (if (!(x.High == (w64 ((((List.length x.Names):Nat):Int) - (1:Int))))) then
 (some (6:Int))
 else (some (0:Int)))
 else (some (6:Int)))
 else (if (!(decide (x.High≤(1000000:Int)))) then
 (some (6:Int))
 else (some (0:Int))))
 else (if (decide ((0:Int)<(((List.length x.Names):Nat):Int))) then
 (if (x.Low == (0:Int)) then
 (if (!(x.High == (w64 ((((List.length x.Names):Nat):Int) - (1:Int))))) then
 (some (6:Int))
 else (some (0:Int)))
 else (some (6:Int)))
 else (some (6:Int))))
 else (if (decide ((0:Int)<(((List.length x.Names):Nat):Int))) then
 (if (x.Low == (0:Int)) then
 (if (!(x.High == (w64 ((((List.length x.Names):Nat):Int) - (1:Int))))) then
 (some (6:Int))
 else (some (0:Int)))
 else (some (6:Int)))
 else (some (6:Int))))))))))
theorem II (h:Hy C R) (LJ:ByteArray) (We:Int) (LK:Int) (FZ:List ByteArray) (before:List Attr) :
  C.pureC 149 [PV.agg [PV.str LJ,I i64 We,I i64 LK,L (rows FZ) fl0],L (rows before) fl0]=M (fun r=>I i64 r) (f149 (Attr.mk LJ We LK FZ) before):=by
 rw [aH h.1 (fn:=Tryz.f149) rfl _ rfl rfl rfl]
 simp only [WA,s1,s2,s3,s4,s5,s6,s7,↓reduceIte,akZ,asg,aiR,MT,Tryz.f149,vN,sG,amE,Wv,OU,Gu,amD,MI,mA h,p8 h,UB h,f149]
def kr (x3:List Attr):Nat→Int→Option Int
 | 0,_=>none
 | m1+1,k_4=>
 (if (decide (k_4<(((List.length x3):Nat):Int))) then
 (if ((decide ((0:Int)≤k_4))&&(decide (k_4<(((List.length x3):Nat):Int)))) then
 (N (x3[(Int.toNat k_4)]?) fun x5=>
 (if (decide (((0:Int)≤k_4)∧(k_4≤(((List.length x3):Nat):Int)))) then
 (if (decide ((Int.toNat k_4)≤(List.length x3))) then
 (N (f149 x5 (List.take (Int.toNat k_4) x3)) fun x6=>
 (if (!(x6 == (0:Int))) then
 (some x6)
 else (kr x3 m1 (w64 (k_4+(1:Int))))))
 else none)
 else none))
 else none)
 else (some (0:Int)))
def f116 (R:bI) (t:Types) (i:Int):Option Int:=
 (N (at? t.Nodes i) fun x0=>
 (N (f145 x0.Name) fun x1=>
 (if (!x1) then
 (some (2:Int))
 else (if (decide (((0:Int)≤i)∧(i≤(((List.length t.Nodes):Nat):Int)))) then
 (N (eW (List.take (Int.toNat i) t.Nodes) x0.Name x0.Parent x0.Abstract x0.Attrs) fun x2=>
 (if x2 then
 (some (5:Int))
 else (if (decide (x0.Parent<(-(1:Int)))) then
 (some (6:Int))
 else (if (decide (i≤x0.Parent)) then
 (some (6:Int))
 else (if (decide ((4:Int)<(((List.length x0.Attrs):Nat):Int))) then
 (some (3:Int))
 else (N (bI.f148 R t i) fun x3=>
 (if (decide ((8:Int)<(((List.length x3):Nat):Int))) then
 (some (3:Int))
 else (kr x3 ax (w64 ((((List.length x3):Nat):Int) - (((List.length x0.Attrs):Nat):Int)))))))))))
 else none))))
theorem Fk (h:Hy C R) {x3:List Attr} :
  ∀ (m1:Nat) (k_4:Int),lp (bw E 116 C) [(Fr.blk 1),(Fr.seq 0 [1,1,1,1,1,1])] 1 [0,0,1,0,1,1,1,1,1] m1 ⟨[u,u,u,u,u,u,PV.own 0 4 0 (List.length x3),I i64 k_4,u,u,u,u,u,u,u,u,u,u,u,u,u,u,u,u,u,u,u,u,u,u,u,u,u,u,u,u,u,u,u,u,u,u,u,u,u,u,u,u,u,u,u,u,u,u,u,u,u,u,u,u,u,u,u,u,u,u,u,u,u,u],[(0,Y 4 (rows (x3)) false false)],1⟩=M (fun r=>I i64 r) (kr x3 m1 k_4):=by
 intro m1
 induction m1 with
 | zero=>intros;rw [bk];rfl
 | succ m1 ih=>
  intro k_4
  rw [bm]
  simp only [WA,s1,s2,s3,s4,s5,s6,s7,↓reduceIte,Yn,Z4,XC,Bg,Tryz.f116,HM,Bs,vN,sG,Y5,MU,H2,Ba,BM,A9,Y4,MT,h.2.f148,mA h,jM h,II h,kr,ih]
theorem An (h:Hy C R) (t_Nodes:List aE) (t_Edges:List aG) (i:Int) :
  C.pureC 116 [PV.agg [L (rows t_Nodes) fl0,L (rows t_Edges) fl0],I i64 i]=M (fun r=>I i64 r) (f116 R (Types.mk t_Nodes t_Edges) i):=by
 rw [aH h.1 (fn:=Tryz.f116) rfl _ rfl rfl rfl]
 simp only [WA,s1,s2,s3,s4,s5,s6,s7,↓reduceIte,Yn,Z4,XC,Bg,Tryz.f116,HM,Bs,vN,sG,Y5,MU,H2,Ba,BM,A9,Y4,MT,h.2.f148,mA h,jM h,II h,f116,Fk h]
def fi (y:aG) (c7:ByteArray) (c8:Int) (c9:Int) (c10:Int) (c11:Int) (c12:Int) (c13:Int):Option Bool:=
 (some (decide (y.Name=c7)))
theorem ki (h:Hy C R) (ua:ByteArray) (LF:Int) (afz:Int) (AH:Int) (xt:Int) (FY:Int) (AI:Int) (c7:ByteArray) (c8:Int) (c9:Int) (c10:Int) (c11:Int) (c12:Int) (c13:Int) :
  C.pureC 152 [PV.agg [PV.str ua,I i64 LF,I i64 afz,I i64 AH,I i64 xt,I i64 FY,I i64 AI],PV.bL [[PV.str c7,I i64 c8,I i64 c9,I i64 c10,I i64 c11,I i64 c12,I i64 c13]] 0 0]=M (fun r=>PV.bool r) (fi (aG.mk ua LF afz AH xt FY AI) c7 c8 c9 c10 c11 c12 c13):=by
 rw [aH h.1 (fn:=Tryz.f152) rfl _ rfl rfl rfl]
 simp only [WA,s1,s2,s3,s4,s5,s6,s7,↓reduceIte,akW,asd,aiO,Gz,Tryz.f152,fi]
def cw (s:List aG) (c1:ByteArray) (c2:Int) (c3:Int) (c4:Int) (c5:Int) (c6:Int) (c7:Int):Nat→Int→Option Int
 | 0,_=>none
 | m0+1,bA=>
 (if (decide (bA<(((List.length s):Nat):Int))) then
 (N (at? s bA) fun x1=>
 (N (fi x1 c1 c2 c3 c4 c5 c6 c7) fun x2=>
 (if x2 then
 (some bA)
 else (cw s c1 c2 c3 c4 c5 c6 c7 m0 (w64 (bA+(1:Int)))))))
 else (some (-(1:Int))))
def eM (s:List aG) (c1:ByteArray) (c2:Int) (c3:Int) (c4:Int) (c5:Int) (c6:Int) (c7:Int):Option Int:=
 (cw s c1 c2 c3 c4 c5 c6 c7 ax (0:Int))
theorem kJ (h:Hy C R) {s:List aG} {c1:ByteArray} {c2:Int} {c3:Int} {c4:Int} {c5:Int} {c6:Int} {c7:Int} :
  ∀ (m0:Nat) (bA:Int),lp (bw E 178 C) [(Fr.blk 0),(Fr.seq 0 [1,1])] 0 [0,0,1,0,1] m0 ⟨[L (rows (s)) fl0,PV.fn 152 [(PV.bL [[(PV.str (c1)),(I i64 (c2)),(I i64 (c3)),(I i64 (c4)),(I i64 (c5)),(I i64 (c6)),(I i64 (c7))]] 0 0)],u,u,u,u,u,I i64 ((((List.length s):Nat):Int)),I i64 bA,u,u,u,u,u,u,u,u,u,u],[],0⟩=M (fun r=>I i64 r) (cw s c1 c2 c3 c4 c5 c6 c7 m0 bA):=by
 intro m0
 induction m0 with
 | zero=>intros;rw [bk];rfl
 | succ m0 ih=>
  intro bA
  rw [bm]
  simp only [WA,s1,s2,s3,s4,s5,s6,s7,↓reduceIte,X5,ZM,Xk,MH,Tryz.f178,Ht,O2,Gz,ki h,cw,ih]
theorem ng (h:Hy C R) (s:List aG) (c1:ByteArray) (c2:Int) (c3:Int) (c4:Int) (c5:Int) (c6:Int) (c7:Int) :
  C.pureC 178 [L (rows s) fl0,PV.fn 152 [PV.bL [[PV.str c1,I i64 c2,I i64 c3,I i64 c4,I i64 c5,I i64 c6,I i64 c7]] 0 0]]=M (fun r=>I i64 r) (eM s c1 c2 c3 c4 c5 c6 c7):=by
 rw [aH h.1 (fn:=Tryz.f178) rfl _ rfl rfl rfl]
 simp only [WA,s1,s2,s3,s4,s5,s6,s7,↓reduceIte,X5,ZM,Xk,MH,Tryz.f178,Ht,O2,Gz,ki h,eM,kJ h]
def dR (s:List aG) (c1:ByteArray) (c2:Int) (c3:Int) (c4:Int) (c5:Int) (c6:Int) (c7:Int):Option Bool:=
 (N (eM s c1 c2 c3 c4 c5 c6 c7) fun x0=>
 (some (decide ((0:Int)≤x0))))
theorem ni (h:Hy C R) (s:List aG) (c1:ByteArray) (c2:Int) (c3:Int) (c4:Int) (c5:Int) (c6:Int) (c7:Int) :
  C.pureC 151 [L (rows s) fl0,PV.fn 152 [PV.bL [[PV.str c1,I i64 c2,I i64 c3,I i64 c4,I i64 c5,I i64 c6,I i64 c7]] 0 0]]=M (fun r=>PV.bool r) (dR s c1 c2 c3 c4 c5 c6 c7):=by
 rw [aH h.1 (fn:=Tryz.f151) rfl _ rfl rfl rfl]
 simp only [WA,s1,s2,s3,s4,s5,s6,s7,↓reduceIte,akX,ase,aiP,WB,Tryz.f151,amC,MH,ng h,dR]
def jd (n:Int) (c1:List aE) (c2:List aG):Option Bool:=
 (if (decide ((0:Int)≤n)) then
 (some (decide (n<(((List.length c1):Nat):Int))))
 else (some false))
theorem Ag (h:Hy C R) (n:Int) (c1:List aE) (c2:List aG) :
  C.pureC 150 [I i64 n,PV.bL [[L (rows c1) fl0,L (rows c2) fl0]] 0 0]=M (fun r=>PV.bool r) (jd n c1 c2):=by
 rw [aH h.1 (fn:=Tryz.f150) rfl _ rfl rfl rfl]
 simp only [WA,s1,s2,s3,s4,s5,s6,s7,↓reduceIte,akY,asf,aiQ,WC,Tryz.f150,jd]
def f153 (low:Int) (high:Int):Option Bool:=
 (if (decide ((0:Int)≤low)) then
 (if (decide (low≤(40:Int))) then
 (if (high == (-(1:Int))) then
 (some true)
 else (if (decide (low≤high)) then
 (some (decide (high≤(40:Int))))
 else (some false)))
 else (some false))
 else (some false))
theorem UI (h:Hy C R) (low:Int) (high:Int) :
  C.pureC 153 [I i64 low,I i64 high]=M (fun r=>PV.bool r) (f153 low high):=by
 rw [aH h.1 (fn:=Tryz.f153) rfl _ rfl rfl rfl]
 simp only [WA,s1,s2,s3,s4,s5,s6,s7,↓reduceIte,akV,asb,aiN,Wz,Tryz.f153,f153]
def f117 (t:Types) (i:Int):Option Int:=
 (N (at? t.Edges i) fun x0=>
 (N (f145 x0.Name) fun x1=>
 (if (!x1) then
 (some (2:Int))
 else (if (decide (((0:Int)≤i)∧(i≤(((List.length t.Edges):Nat):Int)))) then
 (N (dR (List.take (Int.toNat i) t.Edges) x0.Name x0.From x0.To x0.OutLow x0.OutHigh x0.InLow x0.InHigh) fun x2=>
 (if x2 then
 (some (5:Int))
 else (N (jd x0.From t.Nodes t.Edges) fun x3=>
 (if (!x3) then
 (some (6:Int))
 else (N (jd x0.To t.Nodes t.Edges) fun x4=>
 (if (!x4) then
 (if (!x4) then
 (some (6:Int))
 else (some (0:Int)))
 else (N (f153 x0.OutLow x0.OutHigh) fun x5=>
 (if (!x5) then
 (some (6:Int))
 else (N (f153 x0.InLow x0.InHigh) fun x6=>
 (if (!x6) then
 (some (6:Int))
 else (some (0:Int))))))))))))
 else none))))
theorem Am (h:Hy C R) (t_Nodes:List aE) (t_Edges:List aG) (i:Int) :
  C.pureC 117 [PV.agg [L (rows t_Nodes) fl0,L (rows t_Edges) fl0],I i64 i]=M (fun r=>I i64 r) (f117 (Types.mk t_Nodes t_Edges) i):=by
 rw [aH h.1 (fn:=Tryz.f117) rfl _ rfl rfl rfl]
 simp only [WA,s1,s2,s3,s4,s5,s6,s7,↓reduceIte,alh,asz,ai9,GK,Tryz.f117,vN,sG,amO,WC,amN,WB,O2,Gz,amM,Wz,mA h,ni h,Ag h,UI h,f117]
def nQ (t:Types):Nat→Int→Option (ByteArray × Int)
 | 0,_=>none
 | m3+1,sw=>
 (if (decide (sw<(((List.length t.Edges):Nat):Int))) then
 (N (at? t.Edges sw) fun x4=>
 (N (f117 t sw) fun x5=>
 (if (!(x5 == (0:Int))) then
 (some (x4.Name,x5))
 else (nQ t m3 (w64 (sw+(1:Int)))))))
 else (some ((ByteArray.mk (List.toArray [])),(0:Int))))
def pH (R:bI) (t:Types):Nat→Int→Option (ByteArray × Int)
 | 0,_=>none
 | m1+1,sA=>
 (if (decide (sA<(((List.length t.Nodes):Nat):Int))) then
 (N (at? t.Nodes sA) fun x1=>
 (N (f116 R t sA) fun x2=>
 (if (!(x2 == (0:Int))) then
 (some (x1.Name,x2))
 else (pH R t m1 (w64 (sA+(1:Int)))))))
 else (nQ t ax (0:Int)))
def f78 (R:bI) (t:Types):Option (ByteArray × Int):=
 (if ((((List.length t.Nodes):Nat):Int) == (0:Int)) then
 (some ((ByteArray.mk (List.toArray [])),(7:Int)))
 else (if (decide ((12:Int)<(((List.length t.Nodes):Nat):Int))) then
 (some ((ByteArray.mk (List.toArray [])),(3:Int)))
 else (if (decide ((20:Int)<(((List.length t.Edges):Nat):Int))) then
 (some ((ByteArray.mk (List.toArray [])),(3:Int)))
 else (pH R t ax (0:Int)))))
theorem Ku (h:Hy C R) {t_Nodes:List aE} {t_Edges:List aG} :
  ∀ (m3:Nat) (sw:Int),lp (bw E 78 C) [(Fr.blk 3),(Fr.seq 0 [1,1,1,1])] 3 [0,0,1,0,1,1,1] m3 ⟨[u,(PV.ptr 0 0),u,u,u,u,u,u,u,u,u,u,u,u,u,u,u,u,u,u,u,u,u,u,u,u,u,u,u,u,u,u,u,u,u,u,u,u,u,u,u,u,u,u,L (rows (t_Edges)) fl0,I i64 ((((List.length t_Edges):Nat):Int)),I i64 sw,u,u,u,u,u,u,u,u,u,u,u,u,u],[(0,X [L (rows (t_Nodes)) fl0,L (rows (t_Edges)) fl0])],1⟩=M (fun r=>PV.tup [PV.str r.1,I i64 r.2]) (nQ (Types.mk t_Nodes t_Edges) m3 sw):=by
 intro m3
 induction m3 with
 | zero=>intros;rw [bk];rfl
 | succ m3 ih=>
  intro sw
  rw [bm]
  simp only [WA,s1,s2,s3,s4,s5,s6,s7,↓reduceIte,acd,ae6,abI,uM,Tryz.f78,Dz,Dy,Pc,Bg,Pb,GK,An h,Am h,nQ,ih]
theorem Kv (h:Hy C R) {t_Nodes:List aE} {t_Edges:List aG} :
  ∀ (m1:Nat) (sA:Int),lp (bw E 78 C) [(Fr.blk 1),(Fr.seq 0 [1,1,1])] 1 [0,0,1,0,1,1] m1 ⟨[u,(PV.ptr 0 0),u,u,u,u,u,u,u,u,u,u,u,u,u,u,u,u,u,u,u,u,u,u,u,u,u,L (rows (t_Nodes)) fl0,I i64 ((((List.length t_Nodes):Nat):Int)),I i64 sA,u,u,u,u,u,u,u,u,u,u,u,u,u,u,u,u,u,u,u,u,u,u,u,u,u,u,u,u,u,u],[(0,X [L (rows (t_Nodes)) fl0,L (rows (t_Edges)) fl0])],1⟩=M (fun r=>PV.tup [PV.str r.1,I i64 r.2]) (pH R (Types.mk t_Nodes t_Edges) m1 sA):=by
 intro m1
 induction m1 with
 | zero=>intros;rw [bk];rfl
 | succ m1 ih=>
  intro sA
  rw [bm]
  simp only [WA,s1,s2,s3,s4,s5,s6,s7,↓reduceIte,acd,ae6,abI,uM,Tryz.f78,Dz,Dy,Pc,Bg,Pb,GK,An h,Am h,pH,ih,Ku h]
theorem nP (h:Hy C R) (t_Nodes:List aE) (t_Edges:List aG) :
  C.pureC 78 [PV.agg [L (rows t_Nodes) fl0,L (rows t_Edges) fl0]]=M (fun r=>PV.tup [PV.str r.1,I i64 r.2]) (f78 R (Types.mk t_Nodes t_Edges)):=by
 rw [aH h.1 (fn:=Tryz.f78) rfl _ rfl rfl rfl]
 simp only [WA,s1,s2,s3,s4,s5,s6,s7,↓reduceIte,acd,ae6,abI,uM,Tryz.f78,Dz,Dy,Pc,Bg,Pb,GK,An h,Am h,f78,Kv h]
def f122 (n:Int) (most:Int):Option Bool:=
 (if (decide ((0:Int)≤n)) then
 (some (decide (n≤most)))
 else (some false))
theorem IL (h:Hy C R) (n:Int) (most:Int) :
  C.pureC 122 [I i64 n,I i64 most]=M (fun r=>PV.bool r) (f122 n most):=by
 rw [aH h.1 (fn:=Tryz.f122) rfl _ rfl rfl rfl]
 simp only [WA,s1,s2,s3,s4,s5,s6,s7,↓reduceIte,ald,asv,ai5,MW,Tryz.f122,f122]
def f121 (t:Int):Option Bool:=
 (N (f122 t (99:Int)) fun x0=>
 (some (!x0)))
theorem IM (h:Hy C R) (t:Int) :
  C.pureC 121 [I i64 t]=M (fun r=>PV.bool r) (f121 t):=by
 rw [aH h.1 (fn:=Tryz.f121) rfl _ rfl rfl rfl]
 simp only [WA,s1,s2,s3,s4,s5,s6,s7,↓reduceIte,ale,asw,ai6,GJ,Tryz.f121,Y8,MW,IL h,f121]
def eJ (s:List Int):Nat→Int→Option Int
 | 0,_=>none
 | m0+1,bA=>
 (if (decide (bA<(((List.length s):Nat):Int))) then
 (N (at? s bA) fun x1=>
 (N (f121 x1) fun x2=>
 (if x2 then
 (some bA)
 else (eJ s m0 (w64 (bA+(1:Int)))))))
 else (some (-(1:Int))))
def oL (s:List Int):Option Int:=
 (eJ s ax (0:Int))
theorem tu (h:Hy C R) {s:List Int} :
  ∀ (m0:Nat) (bA:Int),lp (bw E 49 C) [(Fr.blk 0),(Fr.seq 0 [1,1])] 0 [0,0,1,0,1] m0 ⟨[L (rows (s)) fl0,PV.fn 121 [],u,u,u,u,u,I i64 ((((List.length s):Nat):Int)),I i64 bA,u,u,u,u,u,u,u,u,u,u],[],0⟩=M (fun r=>I i64 r) (eJ s m0 bA):=by
 intro m0
 induction m0 with
 | zero=>intros;rw [bk];rfl
 | succ m0 ih=>
  intro bA
  rw [bm]
  simp only [WA,s1,s2,s3,s4,s5,s6,s7,↓reduceIte,qB,rj,qo,kD,Tryz.f49,gD,Pa,GJ,IM h,eJ,ih]
theorem zX (h:Hy C R) (s:List Int) :
  C.pureC 49 [L (rows s) fl0,PV.fn 121 []]=M (fun r=>I i64 r) (oL s):=by
 rw [aH h.1 (fn:=Tryz.f49) rfl _ rfl rfl rfl]
 simp only [WA,s1,s2,s3,s4,s5,s6,s7,↓reduceIte,qB,rj,qo,kD,Tryz.f49,gD,Pa,GJ,IM h,oL,tu h]
def k8 (s:List Int):Option Bool:=
 (N (oL s) fun x0=>
 (some (decide ((0:Int)≤x0))))
theorem zZ (h:Hy C R) (s:List Int) :
  C.pureC 31 [L (rows s) fl0,PV.fn 121 []]=M (fun r=>PV.bool r) (k8 s):=by
 rw [aH h.1 (fn:=Tryz.f31) rfl _ rfl rfl rfl]
 simp only [WA,s1,s2,s3,s4,s5,s6,s7,↓reduceIte,Dq,FK,Dj,lH,Tryz.f31,DP,kD,zX h,k8]
def f125 (e:Edge) (nodes:Int):Option Bool:=
 (N (f122 e.Type_ (99:Int)) fun x0=>
 (if x0 then
 (N (f122 e.From (w64 (nodes - (1:Int)))) fun x1=>
 (if x1 then
 (N (f122 e.To (w64 (nodes - (1:Int)))) fun x2=>
 (some x2))
 else (some false)))
 else (some false)))
theorem UP (h:Hy C R) (kz:Int) (om:Int) (Cp:Int) (nodes:Int) :
  C.pureC 125 [PV.agg [I i64 kz,I i64 om,I i64 Cp],I i64 nodes]=M (fun r=>PV.bool r) (f125 (Edge.mk kz om Cp) nodes):=by
 rw [aH h.1 (fn:=Tryz.f125) rfl _ rfl rfl rfl]
 simp only [WA,s1,s2,s3,s4,s5,s6,s7,↓reduceIte,alb,ast,ai3,WH,Tryz.f125,Y8,MW,IL h,f125]
def jf (e:Edge) (c3:List Int) (c4:List Edge):Option Bool:=
 (N (f125 e (((List.length c3):Nat):Int)) fun x0=>
 (some (!x0)))
theorem q8 (h:Hy C R) (kz:Int) (om:Int) (Cp:Int) (c3:List Int) (c4:List Edge) :
  C.pureC 124 [PV.agg [I i64 kz,I i64 om,I i64 Cp],PV.bL [[L (rows c3) fl0,L (rows c4) fl0]] 0 0]=M (fun r=>PV.bool r) (jf (Edge.mk kz om Cp) c3 c4):=by
 rw [aH h.1 (fn:=Tryz.f124) rfl _ rfl rfl rfl]
 simp only [WA,s1,s2,s3,s4,s5,s6,s7,↓reduceIte,alc,asu,ai4,GI,Tryz.f124,amU,WH,UP h,jf]
def dt (s:List Edge) (c1:List Int) (c2:List Edge):Nat→Int→Option Int
 | 0,_=>none
 | m0+1,bA=>
 (if (decide (bA<(((List.length s):Nat):Int))) then
 (N (at? s bA) fun x1=>
 (N (jf x1 c1 c2) fun x2=>
 (if x2 then
 (some bA)
 else (dt s c1 c2 m0 (w64 (bA+(1:Int)))))))
 else (some (-(1:Int))))
def ia (s:List Edge) (c1:List Int) (c2:List Edge):Option Int:=
 (dt s c1 c2 ax (0:Int))
theorem oV (h:Hy C R) {s:List Edge} {c1:List Int} {c2:List Edge} :
  ∀ (m0:Nat) (bA:Int),lp (bw E 157 C) [(Fr.blk 0),(Fr.seq 0 [1,1])] 0 [0,0,1,0,1] m0 ⟨[L (rows (s)) fl0,PV.fn 124 [(PV.bL [[(L (rows (c1)) fl0),(L (rows (c2)) fl0)]] 0 0)],u,u,u,u,u,I i64 ((((List.length s):Nat):Int)),I i64 bA,u,u,u,u,u,u,u,u,u,u],[],0⟩=M (fun r=>I i64 r) (dt s c1 c2 m0 bA):=by
 intro m0
 induction m0 with
 | zero=>intros;rw [bk];rfl
 | succ m0 ih=>
  intro bA
  rw [bm]
  simp only [WA,s1,s2,s3,s4,s5,s6,s7,↓reduceIte,xU,yn,xN,qm,Tryz.f157,oH,O9,GI,q8 h,dt,ih]
theorem sd (h:Hy C R) (s:List Edge) (c1:List Int) (c2:List Edge) :
  C.pureC 157 [L (rows s) fl0,PV.fn 124 [PV.bL [[L (rows c1) fl0,L (rows c2) fl0]] 0 0]]=M (fun r=>I i64 r) (ia s c1 c2):=by
 rw [aH h.1 (fn:=Tryz.f157) rfl _ rfl rfl rfl]
 simp only [WA,s1,s2,s3,s4,s5,s6,s7,↓reduceIte,xU,yn,xN,qm,Tryz.f157,oH,O9,GI,q8 h,ia,oV h]
def fK (s:List Edge) (c1:List Int) (c2:List Edge):Option Bool:=
 (N (ia s c1 c2) fun x0=>
 (some (decide ((0:Int)≤x0))))
theorem sf (h:Hy C R) (s:List Edge) (c1:List Int) (c2:List Edge) :
  C.pureC 123 [L (rows s) fl0,PV.fn 124 [PV.bL [[L (rows c1) fl0,L (rows c2) fl0]] 0 0]]=M (fun r=>PV.bool r) (fK s c1 c2):=by
 rw [aH h.1 (fn:=Tryz.f123) rfl _ rfl rfl rfl]
 simp only [WA,s1,s2,s3,s4,s5,s6,s7,↓reduceIte,NK,QG,Nh,uP,Tryz.f123,O1,qm,sd h,fK]
def f81 (g:Graph):Option Int:=
 (if (decide ((40:Int)<(((List.length g.Nodes):Nat):Int))) then
 (some (3:Int))
 else (if (decide ((80:Int)<(((List.length g.Edges):Nat):Int))) then
 (some (3:Int))
 else (N (k8 g.Nodes) fun x0=>
 (if x0 then
 (some (6:Int))
 else (N (fK g.Edges g.Nodes g.Edges) fun x1=>
 (if x1 then
 (some (6:Int))
 else (some (0:Int))))))))
theorem nK (h:Hy C R) (g_Nodes:List Int) (g_Edges:List Edge) :
  C.pureC 81 [PV.agg [L (rows g_Nodes) fl0,L (rows g_Edges) fl0]]=M (fun r=>I i64 r) (f81 (Graph.mk g_Nodes g_Edges)):=by
 rw [aH h.1 (fn:=Tryz.f81) rfl _ rfl rfl rfl]
 simp only [WA,s1,s2,s3,s4,s5,s6,s7,↓reduceIte,nt81,co81,re81,yH,Tryz.f81,tn,lH,Pa,GJ,H5,uP,O9,GI,zZ h,sf h,f81]
def lh (n:Int) (c1:List aE) (c2:List aG):Option Bool:=
 (some (decide ((((List.length c1):Nat):Int)≤n)))
theorem qY (h:Hy C R) (n:Int) (c1:List aE) (c2:List aG) :
  C.pureC 201 [I i64 n,PV.bL [[L (rows c1) fl0,L (rows c2) fl0]] 0 0]=M (fun r=>PV.bool r) (lh n c1 c2):=by
 rw [aH h.1 (fn:=Tryz.f201) rfl _ rfl rfl rfl]
 simp only [WA,s1,s2,s3,s4,s5,s6,s7,↓reduceIte,akz,arP,air,A4,Tryz.f201,lh]
def dC (s:List Int) (c1:List aE) (c2:List aG):Nat→Int→Option Int
 | 0,_=>none
 | m0+1,bA=>
 (if (decide (bA<(((List.length s):Nat):Int))) then
 (N (at? s bA) fun x1=>
 (N (lh x1 c1 c2) fun x2=>
 (if x2 then
 (some bA)
 else (dC s c1 c2 m0 (w64 (bA+(1:Int)))))))
 else (some (-(1:Int))))
def iS (s:List Int) (c1:List aE) (c2:List aG):Option Int:=
 (dC s c1 c2 ax (0:Int))
theorem pP (h:Hy C R) {s:List Int} {c1:List aE} {c2:List aG} :
  ∀ (m0:Nat) (bA:Int),lp (bw E 49 C) [(Fr.blk 0),(Fr.seq 0 [1,1])] 0 [0,0,1,0,1] m0 ⟨[L (rows (s)) fl0,PV.fn 201 [(PV.bL [[(L (rows (c1)) fl0),(L (rows (c2)) fl0)]] 0 0)],u,u,u,u,u,I i64 ((((List.length s):Nat):Int)),I i64 bA,u,u,u,u,u,u,u,u,u,u],[],0⟩=M (fun r=>I i64 r) (dC s c1 c2 m0 bA):=by
 intro m0
 induction m0 with
 | zero=>intros;rw [bk];rfl
 | succ m0 ih=>
  intro bA
  rw [bm]
  simp only [WA,s1,s2,s3,s4,s5,s6,s7,↓reduceIte,qB,rj,qo,kD,Tryz.f49,gD,HX,A4,qY h,dC,ih]
theorem tq (h:Hy C R) (s:List Int) (c1:List aE) (c2:List aG) :
  C.pureC 49 [L (rows s) fl0,PV.fn 201 [PV.bL [[L (rows c1) fl0,L (rows c2) fl0]] 0 0]]=M (fun r=>I i64 r) (iS s c1 c2):=by
 rw [aH h.1 (fn:=Tryz.f49) rfl _ rfl rfl rfl]
 simp only [WA,s1,s2,s3,s4,s5,s6,s7,↓reduceIte,qB,rj,qo,kD,Tryz.f49,gD,HX,A4,qY h,iS,pP h]
def gI (s:List Int) (c1:List aE) (c2:List aG):Option Bool:=
 (N (iS s c1 c2) fun x0=>
 (some (decide ((0:Int)≤x0))))
theorem mX (h:Hy C R) (s:List Int) (c1:List aE) (c2:List aG) :
  C.pureC 31 [L (rows s) fl0,PV.fn 201 [PV.bL [[L (rows c1) fl0,L (rows c2) fl0]] 0 0]]=M (fun r=>PV.bool r) (gI s c1 c2):=by
 rw [aH h.1 (fn:=Tryz.f31) rfl _ rfl rfl rfl]
 simp only [WA,s1,s2,s3,s4,s5,s6,s7,↓reduceIte,Dq,FK,Dj,lH,Tryz.f31,DP,kD,tq h,gI]
def lg (x:Edge) (c3:List aE) (c4:List aG):Option Bool:=
 (some (decide ((((List.length c4):Nat):Int)≤x.Type_)))
theorem qX (h:Hy C R) (qi:Int) (uc:Int) (LI:Int) (c3:List aE) (c4:List aG) :
  C.pureC 202 [PV.agg [I i64 qi,I i64 uc,I i64 LI],PV.bL [[L (rows c3) fl0,L (rows c4) fl0]] 0 0]=M (fun r=>PV.bool r) (lg (Edge.mk qi uc LI) c3 c4):=by
 rw [aH h.1 (fn:=Tryz.f202) rfl _ rfl rfl rfl]
 simp only [WA,s1,s2,s3,s4,s5,s6,s7,↓reduceIte,aky,arO,aiq,A3,Tryz.f202,lg]
def dq (s:List Edge) (c1:List aE) (c2:List aG):Nat→Int→Option Int
 | 0,_=>none
 | m0+1,bA=>
 (if (decide (bA<(((List.length s):Nat):Int))) then
 (N (at? s bA) fun x1=>
 (N (lg x1 c1 c2) fun x2=>
 (if x2 then
 (some bA)
 else (dq s c1 c2 m0 (w64 (bA+(1:Int)))))))
 else (some (-(1:Int))))
def hZ (s:List Edge) (c1:List aE) (c2:List aG):Option Int:=
 (dq s c1 c2 ax (0:Int))
theorem oU (h:Hy C R) {s:List Edge} {c1:List aE} {c2:List aG} :
  ∀ (m0:Nat) (bA:Int),lp (bw E 157 C) [(Fr.blk 0),(Fr.seq 0 [1,1])] 0 [0,0,1,0,1] m0 ⟨[L (rows (s)) fl0,PV.fn 202 [(PV.bL [[(L (rows (c1)) fl0),(L (rows (c2)) fl0)]] 0 0)],u,u,u,u,u,I i64 ((((List.length s):Nat):Int)),I i64 bA,u,u,u,u,u,u,u,u,u,u],[],0⟩=M (fun r=>I i64 r) (dq s c1 c2 m0 bA):=by
 intro m0
 induction m0 with
 | zero=>intros;rw [bk];rfl
 | succ m0 ih=>
  intro bA
  rw [bm]
  simp only [WA,s1,s2,s3,s4,s5,s6,s7,↓reduceIte,xU,yn,xN,qm,Tryz.f157,oH,HW,A3,qX h,dq,ih]
theorem sa (h:Hy C R) (s:List Edge) (c1:List aE) (c2:List aG) :
  C.pureC 157 [L (rows s) fl0,PV.fn 202 [PV.bL [[L (rows c1) fl0,L (rows c2) fl0]] 0 0]]=M (fun r=>I i64 r) (hZ s c1 c2):=by
 rw [aH h.1 (fn:=Tryz.f157) rfl _ rfl rfl rfl]
 simp only [WA,s1,s2,s3,s4,s5,s6,s7,↓reduceIte,xU,yn,xN,qm,Tryz.f157,oH,HW,A3,qX h,hZ,oU h]
def fJ (s:List Edge) (c1:List aE) (c2:List aG):Option Bool:=
 (N (hZ s c1 c2) fun x0=>
 (some (decide ((0:Int)≤x0))))
theorem lj (h:Hy C R) (s:List Edge) (c1:List aE) (c2:List aG) :
  C.pureC 123 [L (rows s) fl0,PV.fn 202 [PV.bL [[L (rows c1) fl0,L (rows c2) fl0]] 0 0]]=M (fun r=>PV.bool r) (fJ s c1 c2):=by
 rw [aH h.1 (fn:=Tryz.f123) rfl _ rfl rfl rfl]
 simp only [WA,s1,s2,s3,s4,s5,s6,s7,↓reduceIte,NK,QG,Nh,uP,Tryz.f123,O1,qm,sa h,fJ]
def f203 (n:Int) (low:Int) (high:Int):Option Bool:=
 (if (decide (low≤n)) then
 (some (decide (n≤high)))
 else (some false))
theorem Ab (h:Hy C R) (n:Int) (low:Int) (high:Int) :
  C.pureC 203 [I i64 n,I i64 low,I i64 high]=M (fun r=>PV.bool r) (f203 n low high):=by
 rw [aH h.1 (fn:=Tryz.f203) rfl _ rfl rfl rfl]
 simp only [WA,s1,s2,s3,s4,s5,s6,s7,↓reduceIte,akx,arN,aip,Gk,Tryz.f203,f203]
def jc (a:Int) (c1:List aE) (c2:List aG):Option Bool:=
 (if (decide (a<(0:Int))) then
 (some true)
 else (some (decide ((((List.length c1):Nat):Int)≤a))))
theorem qZ (h:Hy C R) (a:Int) (c1:List aE) (c2:List aG) :
  C.pureC 158 [I i64 a,PV.bL [[L (rows c1) fl0,L (rows c2) fl0]] 0 0]=M (fun r=>PV.bool r) (jc a c1 c2):=by
 rw [aH h.1 (fn:=Tryz.f158) rfl _ rfl rfl rfl]
 simp only [WA,s1,s2,s3,s4,s5,s6,s7,↓reduceIte,akR,ar7,aiJ,Gy,Tryz.f158,jc]
def dD (s:List Int) (c1:List aE) (c2:List aG):Nat→Int→Option Int
 | 0,_=>none
 | m0+1,bA=>
 (if (decide (bA<(((List.length s):Nat):Int))) then
 (N (at? s bA) fun x1=>
 (N (jc x1 c1 c2) fun x2=>
 (if x2 then
 (some bA)
 else (dD s c1 c2 m0 (w64 (bA+(1:Int)))))))
 else (some (-(1:Int))))
def iT (s:List Int) (c1:List aE) (c2:List aG):Option Int:=
 (dD s c1 c2 ax (0:Int))
theorem pQ (h:Hy C R) {s:List Int} {c1:List aE} {c2:List aG} :
  ∀ (m0:Nat) (bA:Int),lp (bw E 49 C) [(Fr.blk 0),(Fr.seq 0 [1,1])] 0 [0,0,1,0,1] m0 ⟨[L (rows (s)) fl0,PV.fn 158 [(PV.bL [[(L (rows (c1)) fl0),(L (rows (c2)) fl0)]] 0 0)],u,u,u,u,u,I i64 ((((List.length s):Nat):Int)),I i64 bA,u,u,u,u,u,u,u,u,u,u],[],0⟩=M (fun r=>I i64 r) (dD s c1 c2 m0 bA):=by
 intro m0
 induction m0 with
 | zero=>intros;rw [bk];rfl
 | succ m0 ih=>
  intro bA
  rw [bm]
  simp only [WA,s1,s2,s3,s4,s5,s6,s7,↓reduceIte,qB,rj,qo,kD,Tryz.f49,gD,O0,Gy,qZ h,dD,ih]
theorem tt (h:Hy C R) (s:List Int) (c1:List aE) (c2:List aG) :
  C.pureC 49 [L (rows s) fl0,PV.fn 158 [PV.bL [[L (rows c1) fl0,L (rows c2) fl0]] 0 0]]=M (fun r=>I i64 r) (iT s c1 c2):=by
 rw [aH h.1 (fn:=Tryz.f49) rfl _ rfl rfl rfl]
 simp only [WA,s1,s2,s3,s4,s5,s6,s7,↓reduceIte,qB,rj,qo,kD,Tryz.f49,gD,O0,Gy,qZ h,iT,pQ h]
def gJ (s:List Int) (c1:List aE) (c2:List aG):Option Bool:=
 (N (iT s c1 c2) fun x0=>
 (some (decide ((0:Int)≤x0))))
theorem tw (h:Hy C R) (s:List Int) (c1:List aE) (c2:List aG) :
  C.pureC 31 [L (rows s) fl0,PV.fn 158 [PV.bL [[L (rows c1) fl0,L (rows c2) fl0]] 0 0]]=M (fun r=>PV.bool r) (gJ s c1 c2):=by
 rw [aH h.1 (fn:=Tryz.f31) rfl _ rfl rfl rfl]
 simp only [WA,s1,s2,s3,s4,s5,s6,s7,↓reduceIte,Dq,FK,Dj,lH,Tryz.f31,DP,kD,tt h,gJ]
def f126 (R:bI) (t:Types) (l:List Int):Option Int:=
 (N (f78 R t) fun x0=>
 (if (!((x0).2 == (0:Int))) then
 (some (x0).2)
 else (N (gJ l t.Nodes t.Edges) fun x1=>
 (if x1 then
 (some (6:Int))
 else (some (0:Int))))))
theorem kp (h:Hy C R) (t_Nodes:List aE) (t_Edges:List aG) (l:List Int) :
  C.pureC 126 [PV.agg [L (rows t_Nodes) fl0,L (rows t_Edges) fl0],L (rows l) fl0]=M (fun r=>I i64 r) (f126 R (Types.mk t_Nodes t_Edges) l):=by
 rw [aH h.1 (fn:=Tryz.f126) rfl _ rfl rfl rfl]
 simp only [WA,s1,s2,s3,s4,s5,s6,s7,↓reduceIte,ala,ass,ai2,xG,Tryz.f126,tn,lH,BJ,uM,O0,Gy,nP h,tw h,f126]
def f238 (s:List ByteArray):Option (List ByteArray):=oq s
theorem Ih (h:Hy C R) (s:List ByteArray):C.pureC 238 [L (rows s) fl0]=M (fun r=>L (rows r) ⟨true,false⟩) (f238 s):=
 clone_ok h.1 rfl rfl rfl s
def j6 (x1:List Attr):Nat→(List Attr)→Int→Option ((List Attr) × Int)
 | 0,_,_=>none
 | m0+1,dJ,kP=>
 (if (decide (kP<(((List.length x1):Nat):Int))) then
 (if ((decide ((0:Int)≤kP))&&(decide (kP<(((List.length dJ):Nat):Int)))) then
 (N (dJ[(Int.toNat kP)]?) fun x4=>
 (N (f238 x4.Names) fun x5=>
 (if ((decide ((0:Int)≤kP))&&(decide (kP<(((List.length dJ):Nat):Int)))) then
 (N (dJ[(Int.toNat kP)]?) fun x6=>
 (j6 x1 m0 (List.set dJ (Int.toNat kP) (Attr.mk x6.Name x6.Low x6.High x5)) (w64 (kP+(1:Int)))))
 else none)))
 else none)
 else (some (dJ,(0:Int))))
def f224 (R:bI) (t:Types) (a:Int):Option ((List Attr) × Int):=
 (N (f126 R t [a]) fun x0=>
 (if (!(x0 == (0:Int))) then
 (some (([]:List Attr),x0))
 else (N (bI.f148 R t a) fun x1=>
 (j6 x1 ax x1 (0:Int)))))
theorem Eu (h:Hy C R) {x1:List Attr} :
  ∀ (m0:Nat) (dJ:List Attr) (kP:Int) (jC:Nat),jC=List.length dJ→lp (bw E 224 C) [(Fr.blk 0),(Fr.seq 0 [1,1,1,1])] 0 [0,0,1,0,1,1,1] m0 ⟨[u,u,u,u,u,u,u,PV.own 0 4 0 jC,u,u,u,u,u,u,u,u,u,u,u,u,I i64 ((((List.length x1):Nat):Int)),I i64 kP,u,u,u,u,u,u,u,u,u,u,u,u,u,u],[(0,Y 4 (rows dJ) false false)],1⟩=M (fun r=>PV.tup [L (rows r.1) ⟨true,false⟩,I i64 r.2]) (j6 x1 m0 dJ kP):=by
 intro m0
 induction m0 with
 | zero=>intros;rw [bk];rfl
 | succ m0 ih=>
  intro dJ kP jC vS
  subst vS
  have c0:=fun (w0:Int) (t_Nodes:List aE) (t_Edges:List aG)=>kp (C:=C) (R:=R) h t_Nodes t_Edges ((w0::([]:List Int)))
  simp only [cA,cf,cc,bV,cg,bU,WS,List.length_nil,List.length_cons,Nat.reduceAdd] at c0
  rw [bm]
  simp only [WA,s1,s2,s3,s4,s5,s6,s7,↓reduceIte,XQ,Zx,WV,Gd,Tryz.f224,He,BO,xG,BM,A9,YE,Ms,h.2.f148,c0,Ih h,j6,ih]
theorem Il (h:Hy C R) (t_Nodes:List aE) (t_Edges:List aG) (a:Int) :
  C.pureC 224 [PV.agg [L (rows t_Nodes) fl0,L (rows t_Edges) fl0],I i64 a]=M (fun r=>PV.tup [L (rows r.1) ⟨true,false⟩,I i64 r.2]) (f224 R (Types.mk t_Nodes t_Edges) a):=by
 have c0:=fun (w0:Int) (t_Nodes:List aE) (t_Edges:List aG)=>kp (C:=C) (R:=R) h t_Nodes t_Edges ((w0::([]:List Int)))
 simp only [cA,cf,cc,bV,cg,bU,WS,List.length_nil,List.length_cons,Nat.reduceAdd] at c0
 rw [aH h.1 (fn:=Tryz.f224) rfl _ rfl rfl rfl]
 simp only [WA,s1,s2,s3,s4,s5,s6,s7,↓reduceIte,XQ,Zx,WV,Gd,Tryz.f224,He,BO,xG,BM,A9,YE,Ms,h.2.f148,c0,Ih h,f224,Eu h]
def f204 (R:bI) (t:Types) (p:Pattern) (s:Slot):Option (Attr × Bool):=
 (N (f203 s.Node (0:Int) (w64 ((((List.length p.Graph.Nodes):Nat):Int) - (1:Int)))) fun x0=>
 (if (!x0) then
 (some ((Attr.mk (ByteArray.mk (List.toArray [])) (0:Int) (0:Int) ([]:List ByteArray)),false))
 else (N (at? p.Graph.Nodes s.Node) fun x1=>
 (N (f224 R t x1) fun x2=>
 (N (f203 s.Attr (0:Int) (w64 ((((List.length (x2).1):Nat):Int) - (1:Int)))) fun x3=>
 (if (!x3) then
 (some ((Attr.mk (ByteArray.mk (List.toArray [])) (0:Int) (0:Int) ([]:List ByteArray)),false))
 else (if ((decide ((0:Int)≤s.Attr))&&(decide (s.Attr<(((List.length (x2).1):Nat):Int)))) then
 (N ((x2).1[(Int.toNat s.Attr)]?) fun x4=>
 (some (x4,true)))
 else none)))))))
theorem Is (h:Hy C R) (t_Nodes:List aE) (t_Edges:List aG) (bc:List Int) (bd:List Edge) (bC:List Slot) (bK:Int) (bF:List Test) (uG:Int) (uH:Int) (jl:Int) (jm:Int) :
  C.pureC 204 [PV.agg [L (rows t_Nodes) fl0,L (rows t_Edges) fl0],PV.agg [L (rows bc) fl0,L (rows bd) fl0,L (rows bC) fl0,I i64 bK,L (rows bF) fl0],PV.agg [I i64 uG,I i64 uH,I i64 jl,I i64 jm]]=M (fun r=>PV.tup [PV.agg [PV.str r.1.Name,I i64 r.1.Low,I i64 r.1.High,L (rows r.1.Names) ⟨false,false⟩],PV.bool r.2]) (f204 R (Types.mk t_Nodes t_Edges) (Pattern.mk (Graph.mk bc bd) bC bK bF) (Slot.mk uG uH (Term.mk jl jm))):=by
 rw [aH h.1 (fn:=Tryz.f204) rfl _ rfl rfl rfl]
 simp only [WA,s1,s2,s3,s4,s5,s6,s7,↓reduceIte,akw,arM,aio,MB,Tryz.f204,SM,OS,Gk,YI,Gd,Ab h,Il h,f204]
def f239 (n:Int) (t:Term):Option Bool:=
 (if (decide ((-(1:Int))≤t.Var)) then
 (if (decide (t.Var<n)) then
 (if (decide ((-(1000000:Int))≤t.Add)) then
 (some (decide (t.Add≤(1000000:Int))))
 else (some false))
 else (some false))
 else (some false))
theorem Uk (h:Hy C R) (n:Int) (AM:Int) (AN:Int) :
  C.pureC 239 [I i64 n,PV.agg [I i64 AM,I i64 AN]]=M (fun r=>PV.bool r) (f239 n (Term.mk AM AN)):=by
 rw [aH h.1 (fn:=Tryz.f239) rfl _ rfl rfl rfl]
 simp only [WA,s1,s2,s3,s4,s5,s6,s7,↓reduceIte,aj9,aro,ah0,Wj,Tryz.f239,f239]
def f225 (n:Int) (x:Test):Option Int:=
 (if (!(x.Kind == (1:Int))) then
 (if (!(x.Kind == (2:Int))) then
 (some (1:Int))
 else (N (f239 n x.Left) fun x0=>
 (if (!x0) then
 (some (6:Int))
 else (N (f239 n x.Right) fun x1=>
 (if (!x1) then
 (some (6:Int))
 else (some (0:Int)))))))
 else (N (f239 n x.Left) fun x2=>
 (if (!x2) then
 (some (6:Int))
 else (N (f239 n x.Right) fun x3=>
 (if (!x3) then
 (some (6:Int))
 else (some (0:Int)))))))
theorem Ik (h:Hy C R) (n:Int) (ub:Int) (jh:Int) (ji:Int) (ij:Int) (ik:Int) :
  C.pureC 225 [I i64 n,PV.agg [I i64 ub,I i64 jh,I i64 ji,I i64 ij,I i64 ik]]=M (fun r=>I i64 r) (f225 n (Test.mk ub (Term.mk jh ji) (Term.mk ij ik))):=by
 rw [aH h.1 (fn:=Tryz.f225) rfl _ rfl rfl rfl]
 simp only [WA,s1,s2,s3,s4,s5,s6,s7,↓reduceIte,aki,ary,ah9,Mv,Tryz.f225,amk,Wj,Uk h,f225]
def ml (n:Int) (l:List Test):Nat→Int→Option Int
 | 0,_=>none
 | m0+1,uo=>
 (if (decide (uo<(((List.length l):Nat):Int))) then
 (N (at? l uo) fun x1=>
 (N (f225 n x1) fun x2=>
 (if (!(x2 == (0:Int))) then
 (some x2)
 else (ml n l m0 (w64 (uo+(1:Int)))))))
 else (some (0:Int)))
def f205 (n:Int) (l:List Test):Option Int:=
 (if (decide (n<(0:Int))) then
 (some (6:Int))
 else (if (decide ((12:Int)<n)) then
 (some (6:Int))
 else (if (decide ((40:Int)<(((List.length l):Nat):Int))) then
 (some (3:Int))
 else (ml n l ax (0:Int)))))
theorem EE (h:Hy C R) {n:Int} {l:List Test} :
  ∀ (m0:Nat) (uo:Int),lp (bw E 205 C) [(Fr.blk 0),(Fr.seq 0 [1,1,1,1])] 0 [0,0,1,0,1,1,1] m0 ⟨[I i64 (n),u,u,u,u,u,u,u,u,u,u,u,u,u,u,u,u,L (rows (l)) fl0,I i64 ((((List.length l):Nat):Int)),I i64 uo,u,u,u,u,u,u,u,u,u,u],[],0⟩=M (fun r=>I i64 r) (ml n l m0 uo):=by
 intro m0
 induction m0 with
 | zero=>intros;rw [bk];rfl
 | succ m0 ih=>
  intro uo
  rw [bm]
  simp only [WA,s1,s2,s3,s4,s5,s6,s7,↓reduceIte,XT,ZA,WY,Gj,Tryz.f205,Hh,YH,Mv,Ik h,ml,ih]
theorem Ir (h:Hy C R) (n:Int) (l:List Test) :
  C.pureC 205 [I i64 n,L (rows l) fl0]=M (fun r=>I i64 r) (f205 n l):=by
 rw [aH h.1 (fn:=Tryz.f205) rfl _ rfl rfl rfl]
 simp only [WA,s1,s2,s3,s4,s5,s6,s7,↓reduceIte,XT,ZA,WY,Gj,Tryz.f205,Hh,YH,Mv,Ik h,f205,EE h]
def pL (s:List Bool) (v:Bool):Nat→Int→Option Int
 | 0,_=>none
 | m0+1,bA=>
 (if (decide (bA<(((List.length s):Nat):Int))) then
 (N (at? s bA) fun x1=>
 (if (v == x1) then
 (some bA)
 else (pL s v m0 (w64 (bA+(1:Int))))))
 else (some (-(1:Int))))
def f50 (s:List Bool) (v:Bool):Option Int:=
 (pL s v ax (0:Int))
theorem KJ (h:Hy C R) {s:List Bool} {v:Bool} :
  ∀ (m0:Nat) (bA:Int),lp (bw E 50 C) [(Fr.blk 0),(Fr.seq 0 [1,1])] 0 [0,0,1,0,1] m0 ⟨[L (rows (s)) fl0,PV.bool (v),u,u,u,u,u,I i64 ((((List.length s):Nat):Int)),I i64 bA,u,u,u,u,u,u,u,u,u,u],[],0⟩=M (fun r=>I i64 r) (pL s v m0 bA):=by
 intro m0
 induction m0 with
 | zero=>intros;rw [bk];rfl
 | succ m0 ih=>
  intro bA
  rw [bm]
  simp only [WA,s1,s2,s3,s4,s5,s6,s7,↓reduceIte,ajV,aq8,ahM,abA,Tryz.f50,Oi,pL,ih]
theorem ad8 (h:Hy C R) (s:List Bool) (v:Bool) :
  C.pureC 50 [L (rows s) fl0,PV.bool v]=M (fun r=>I i64 r) (f50 s v):=by
 rw [aH h.1 (fn:=Tryz.f50) rfl _ rfl rfl rfl]
 simp only [WA,s1,s2,s3,s4,s5,s6,s7,↓reduceIte,ajV,aq8,ahM,abA,Tryz.f50,Oi,f50,KJ h]
def f34 (s:List Bool) (v:Bool):Option Bool:=
 (N (f50 s v) fun x0=>
 (some (decide ((0:Int)≤x0))))
theorem nY (h:Hy C R) (s:List Bool) (v:Bool) :
  C.pureC 34 [L (rows s) fl0,PV.bool v]=M (fun r=>PV.bool r) (f34 s v):=by
 rw [aH h.1 (fn:=Tryz.f34) rfl _ rfl rfl rfl]
 simp only [WA,s1,s2,s3,s4,s5,s6,s7,↓reduceIte,nt34,co34,re34,yJ,Tryz.f34,ir50,abA,ad8 h,f34]
def kb (R:bI) (t:Types) (p:Pattern):Nat→(List Bool)→Int→Option Int
 | 0,_,_=>none
 | m0+1,kC,sv=>
 (if (decide (sv<(((List.length p.Slots):Nat):Int))) then
 (N (at? p.Slots sv) fun x7=>
 (N (f204 R t p x7) fun x8=>
 (if (!(x8).2) then
 (some (6:Int))
 else (N (f203 x7.Term.Var (-(1:Int)) (w64 (p.Vars - (1:Int)))) fun x9=>
 (if (!x9) then
 (some (6:Int))
 else (N (f203 x7.Term.Add (-(1000000:Int)) (1000000:Int)) fun x10=>
 (if (!x10) then
 (some (6:Int))
 else (if (decide ((0:Int)≤x7.Term.Var)) then
 (if ((decide ((0:Int)≤x7.Term.Var))&&(decide (x7.Term.Var<(((List.length kC):Nat):Int)))) then
 (N (kC[(Int.toNat x7.Term.Var)]?) fun x11=>
 (kb R t p m0 (List.set kC (Int.toNat x7.Term.Var) true) (w64 (sv+(1:Int)))))
 else none)
 else (kb R t p m0 kC (w64 (sv+(1:Int))))))))))))
 else (N (f205 p.Vars p.Tests) fun x12=>
 (if (!(x12 == (0:Int))) then
 (some x12)
 else (N (f34 kC false) fun x13=>
 (if x13 then
 (some (9:Int))
 else (some (0:Int)))))))
def f179 (R:bI) (t:Types) (p:Pattern):Option Int:=
 (N (f78 R t) fun x0=>
 (if (!((x0).2 == (0:Int))) then
 (some (x0).2)
 else (N (f81 p.Graph) fun x1=>
 (if (!(x1 == (0:Int))) then
 (some x1)
 else (N (gI p.Graph.Nodes t.Nodes t.Edges) fun x2=>
 (if x2 then
 (some (13:Int))
 else (N (fJ p.Graph.Edges t.Nodes t.Edges) fun x3=>
 (if x3 then
 (some (13:Int))
 else (N (f203 p.Vars (0:Int) (12:Int)) fun x4=>
 (if (!x4) then
 (some (6:Int))
 else (if (decide ((10:Int)<(((List.length p.Slots):Nat):Int))) then
 (some (3:Int))
 else (if (decide ((10:Int)<(((List.length p.Tests):Nat):Int))) then
 (some (3:Int))
 else (if (decide (((0:Int)≤p.Vars)∧(p.Vars≤((bound:Nat):Int)))) then
 (kb R t p ax (List.replicate (Int.toNat p.Vars) false) (0:Int))
 else none)))))))))))))
theorem ER (h:Hy C R) {t_Nodes:List aE} {t_Edges:List aG} {bc:List Int} {bd:List Edge} {bC:List Slot} {bK:Int} {bF:List Test} :
  ∀ (m0:Nat) (kC:List Bool) (sv:Int) (y2:Nat),y2=List.length kC→lp (bw E 179 C) [(Fr.blk 0),(Fr.seq 0 [1,1,1,1,1,1,1,1])] 0 [0,0,1,0,1,1,1,1,1,1,1] m0 ⟨[u,u,(PV.ptr 0 0),(PV.ptr 1 0),u,u,u,u,PV.own 2 1 0 y2,u,u,u,u,u,u,u,u,u,u,u,u,u,u,u,u,u,u,u,u,u,u,u,u,u,u,u,u,u,u,u,u,u,u,u,u,u,u,u,u,u,u,u,u,u,u,u,u,u,L (rows (bC)) fl0,I i64 ((((List.length bC):Nat):Int)),I i64 sv,u,u,u,u,u,u,u,u,u,u,u,u,u,u,u,u,u,u,u,u,u,u,u,u,u,u,u,u,u,u,u,u,u,u,u,u,u,u,u,u,u,u,u,u,u,u,u,u,u],[(0,X [L (rows (t_Nodes)) fl0,L (rows (t_Edges)) fl0]),(1,X [L (rows (bc)) fl0,L (rows (bd)) fl0,L (rows (bC)) fl0,I i64 (bK),L (rows (bF)) fl0]),(2,Y 1 (rows kC) false false)],3⟩=M (fun r=>I i64 r) (kb R (Types.mk t_Nodes t_Edges) (Pattern.mk (Graph.mk bc bd) bC bK bF) m0 kC sv):=by
 intro m0
 induction m0 with
 | zero=>intros;rw [bk];rfl
 | succ m0 ih=>
  intro kC sv y2 TS
  subst TS
  rw [bm]
  simp only [WA,s1,s2,s3,s4,s5,s6,s7,↓reduceIte,X4,ZL,Xj,xF,Tryz.f179,Hs,tn,lH,BK,yJ,BJ,uM,BI,yH,H5,uP,HX,A4,HW,A3,OS,Gk,YO,MB,YN,Gj,nP h,nK h,mX h,lj h,Ab h,Is h,Ir h,nY h,kb,ih]
theorem tQ (h:Hy C R) (t_Nodes:List aE) (t_Edges:List aG) (bc:List Int) (bd:List Edge) (bC:List Slot) (bK:Int) (bF:List Test) :
  C.pureC 179 [PV.agg [L (rows t_Nodes) fl0,L (rows t_Edges) fl0],PV.agg [L (rows bc) fl0,L (rows bd) fl0,L (rows bC) fl0,I i64 bK,L (rows bF) fl0]]=M (fun r=>I i64 r) (f179 R (Types.mk t_Nodes t_Edges) (Pattern.mk (Graph.mk bc bd) bC bK bF)):=by
 rw [aH h.1 (fn:=Tryz.f179) rfl _ rfl rfl rfl]
 simp only [WA,s1,s2,s3,s4,s5,s6,s7,↓reduceIte,X4,ZL,Xj,xF,Tryz.f179,Hs,tn,lH,BK,yJ,BJ,uM,BI,yH,H5,uP,HX,A4,HW,A3,OS,Gk,YO,MB,YN,Gj,nP h,nK h,mX h,lj h,Ab h,Is h,Ir h,nY h,f179,ER h]
def n9 (s:Slot) (c4:Int):Option Bool:=
 (some (s.Term.Var == c4))
theorem sV (h:Hy C R) (uG:Int) (uH:Int) (jl:Int) (jm:Int) (c4:Int) :
  C.pureC 249 [PV.agg [I i64 uG,I i64 uH,I i64 jl,I i64 jm],PV.bL [[I i64 c4]] 0 0]=M (fun r=>PV.bool r) (n9 (Slot.mk uG uH (Term.mk jl jm)) c4):=by
 rw [aH h.1 (fn:=Tryz.f249) rfl _ rfl rfl rfl]
 simp only [WA,s1,s2,s3,s4,s5,s6,s7,↓reduceIte,aj3,arh,ahU,AZ,Tryz.f249,n9]
def dE (s:List Slot) (c1:Int):Nat→Int→Option Int
 | 0,_=>none
 | m0+1,bA=>
 (if (decide (bA<(((List.length s):Nat):Int))) then
 (N (at? s bA) fun x1=>
 (N (n9 x1 c1) fun x2=>
 (if x2 then
 (some bA)
 else (dE s c1 m0 (w64 (bA+(1:Int)))))))
 else (some (-(1:Int))))
def iU (s:List Slot) (c1:Int):Option Int:=
 (dE s c1 ax (0:Int))
theorem pX (h:Hy C R) {s:List Slot} {c1:Int} :
  ∀ (m0:Nat) (bA:Int),lp (bw E 240 C) [(Fr.blk 0),(Fr.seq 0 [1,1])] 0 [0,0,1,0,1] m0 ⟨[L (rows (s)) fl0,PV.fn 249 [(PV.bL [[(I i64 (c1))]] 0 0)],u,u,u,u,u,I i64 ((((List.length s):Nat):Int)),I i64 bA,u,u,u,u,u,u,u,u,u,u],[],0⟩=M (fun r=>I i64 r) (dE s c1 m0 bA):=by
 intro m0
 induction m0 with
 | zero=>intros;rw [bk];rfl
 | succ m0 ih=>
  intro bA
  rw [bm]
  simp only [WA,s1,s2,s3,s4,s5,s6,s7,↓reduceIte,GZ,IU,GO,xD,Tryz.f240,tI,HS,AZ,sV h,dE,ih]
theorem tx (h:Hy C R) (s:List Slot) (c1:Int) :
  C.pureC 240 [L (rows s) fl0,PV.fn 249 [PV.bL [[I i64 c1]] 0 0]]=M (fun r=>I i64 r) (iU s c1):=by
 rw [aH h.1 (fn:=Tryz.f240) rfl _ rfl rfl rfl]
 simp only [WA,s1,s2,s3,s4,s5,s6,s7,↓reduceIte,GZ,IU,GO,xD,Tryz.f240,tI,HS,AZ,sV h,iU,pX h]
def gK (s:List Slot) (c1:Int):Option Bool:=
 (N (iU s c1) fun x0=>
 (some (decide ((0:Int)≤x0))))
theorem mY (h:Hy C R) (s:List Slot) (c1:Int) :
  C.pureC 228 [L (rows s) fl0,PV.fn 249 [PV.bL [[I i64 c1]] 0 0]]=M (fun r=>PV.bool r) (gK s c1):=by
 rw [aH h.1 (fn:=Tryz.f228) rfl _ rfl rfl rfl]
 simp only [WA,s1,s2,s3,s4,s5,s6,s7,↓reduceIte,XP,Zw,WU,A0,Tryz.f228,YD,xD,tx h,gK]
def mg (q:Pattern) (x0:Int):Nat→Int→Option Int
 | 0,_=>none
 | m0+1,v_1=>
 (if (decide (v_1<q.Vars)) then
 (N (gK q.Slots v_1) fun x2=>
 (if (!x2) then
 (some x0)
 else (mg q x0 m0 (w64 (v_1+(1:Int))))))
 else (some (0:Int)))
def f235 (R:bI) (t:Types) (q:Pattern) (outer:Int):Option Int:=
 (N (f179 R t q) fun x0=>
 (if (!(x0 == (9:Int))) then
 (some x0)
 else (mg q x0 ax outer)))
theorem Ep (h:Hy C R) {cK:List Int} {cL:List Edge} {gz:List Slot} {ju:Int} {gy:List Test} {x0:Int} :
  ∀ (m0:Nat) (v_1:Int),lp (bw E 235 C) [(Fr.blk 0),(Fr.seq 0 [1,1,1,1])] 0 [0,0,1,0,1,1,1] m0 ⟨[u,u,u,u,(PV.ptr 0 0),u,u,I i64 (x0),(PV.ptr 1 0),u,u,u,u,u,u,u,u,u,u,u,u,u,u,u,u,u,u,u,u],[(0,X [L (rows (cK)) fl0,L (rows (cL)) fl0,L (rows (gz)) fl0,I i64 (ju),L (rows (gy)) fl0]),(1,X [I i64 v_1])],2⟩=M (fun r=>I i64 r) (mg (Pattern.mk (Graph.mk cK cL) gz ju gy) x0 m0 v_1):=by
 intro m0
 induction m0 with
 | zero=>intros;rw [bk];rfl
 | succ m0 ih=>
  intro v_1
  rw [bm]
  simp only [WA,s1,s2,s3,s4,s5,s6,s7,↓reduceIte,XM,Zt,WO,F8,Tryz.f235,Hb,H0,xF,OK,A0,HS,AZ,tQ h,mY h,mg,ih]
theorem Ij (h:Hy C R) (t_Nodes:List aE) (t_Edges:List aG) (cK:List Int) (cL:List Edge) (gz:List Slot) (ju:Int) (gy:List Test) (outer:Int) :
  C.pureC 235 [PV.agg [L (rows t_Nodes) fl0,L (rows t_Edges) fl0],PV.agg [L (rows cK) fl0,L (rows cL) fl0,L (rows gz) fl0,I i64 ju,L (rows gy) fl0],I i64 outer]=M (fun r=>I i64 r) (f235 R (Types.mk t_Nodes t_Edges) (Pattern.mk (Graph.mk cK cL) gz ju gy) outer):=by
 rw [aH h.1 (fn:=Tryz.f235) rfl _ rfl rfl rfl]
 simp only [WA,s1,s2,s3,s4,s5,s6,s7,↓reduceIte,XM,Zt,WO,F8,Tryz.f235,Hb,H0,xF,OK,A0,HS,AZ,tQ h,mY h,f235,Ep h]
def j7 (a:Graph) (b:Graph) (m:aQ):Nat→Int→Option Int
 | 0,_=>none
 | m2+1,su=>
 (if (decide (su<(((List.length m.Edges):Nat):Int))) then
 (N (at? m.Edges su) fun x7=>
 (if (decide (x7<(0:Int))) then
 (some (6:Int))
 else (if (decide ((((List.length b.Edges):Nat):Int)≤x7)) then
 (some (6:Int))
 else (N (at? a.Edges su) fun x8=>
 (N (at? b.Edges x7) fun x9=>
 (if (!(x8.Type_ == x9.Type_)) then
 (some (13:Int))
 else (N (at? m.Nodes x8.From) fun x10=>
 (if (!(x10 == x9.From)) then
 (some (11:Int))
 else (N (at? m.Nodes x8.To) fun x11=>
 (if (!(x11 == x9.To)) then
 (some (11:Int))
 else (j7 a b m m2 (w64 (su+(1:Int))))))))))))))
 else (some (0:Int)))
def mi (a:Graph) (b:Graph) (m:aQ):Nat→Int→Option Int
 | 0,_=>none
 | m0+1,sy=>
 (if (decide (sy<(((List.length m.Nodes):Nat):Int))) then
 (N (at? m.Nodes sy) fun x3=>
 (if (decide (x3<(0:Int))) then
 (some (6:Int))
 else (if (decide ((((List.length b.Nodes):Nat):Int)≤x3)) then
 (some (6:Int))
 else (N (at? b.Nodes x3) fun x4=>
 (N (at? a.Nodes sy) fun x5=>
 (if (!(x4 == x5)) then
 (some (13:Int))
 else (mi a b m m0 (w64 (sy+(1:Int))))))))))
 else (j7 a b m ax (0:Int)))
def f209 (a:Graph) (b:Graph) (m:aQ):Option Int:=
 (N (f81 a) fun x0=>
 (if (!(x0 == (0:Int))) then
 (some x0)
 else (N (f81 b) fun x1=>
 (if (!(x1 == (0:Int))) then
 (some x1)
 else (if (!((((List.length m.Nodes):Nat):Int) == (((List.length a.Nodes):Nat):Int))) then
 (some (20:Int))
 else (if (!((((List.length m.Edges):Nat):Int) == (((List.length a.Edges):Nat):Int))) then
 (some (20:Int))
 else (mi a b m ax (0:Int))))))))
theorem Ez (h:Hy C R) {db:List Int} {dd:List Edge} {cZ:List Int} {da:List Edge} {cE:List Int} {cF:List Int} :
  ∀ (m2:Nat) (su:Int),lp (bw E 209 C) [(Fr.blk 2),(Fr.seq 0 [1,1,1,1,1,1])] 2 [0,0,1,0,1,1,1,1,1] m2 ⟨[u,u,u,(PV.ptr 0 0),(PV.ptr 1 0),(PV.ptr 2 0),u,u,u,u,u,u,u,u,u,u,u,u,u,u,u,u,u,u,u,u,u,u,u,u,u,u,u,u,u,u,u,u,u,u,u,u,u,u,u,u,u,u,u,u,u,u,u,u,u,u,u,u,u,u,u,u,u,u,u,u,u,u,u,u,u,L (rows (cF)) fl0,I i64 ((((List.length cF):Nat):Int)),I i64 su,u,u,u,u,u,u,u,u,u,u,u,u,u,u,u,u,u,u,u,u,u,u,u,u,u,u,u,u,u,u,u,u,u,u,u,u,u,u,u,u,u,u,u,u,u,u,u,u,u],[(0,X [L (rows (db)) fl0,L (rows (dd)) fl0]),(1,X [L (rows (cZ)) fl0,L (rows (da)) fl0]),(2,X [L (rows (cE)) fl0,L (rows (cF)) fl0])],3⟩=M (fun r=>I i64 r) (j7 (Graph.mk db dd) (Graph.mk cZ da) (aQ.mk cE cF) m2 su):=by
 intro m2
 induction m2 with
 | zero=>intros;rw [bk];rfl
 | succ m2 ih=>
  intro su
  rw [bm]
  simp only [WA,s1,s2,s3,s4,s5,s6,s7,↓reduceIte,NC,Qz,M9,uN,Tryz.f209,zm,zl,u9,u7,u6,BI,yH,nK h,j7,ih]
theorem EB (h:Hy C R) {db:List Int} {dd:List Edge} {cZ:List Int} {da:List Edge} {cE:List Int} {cF:List Int} :
  ∀ (m0:Nat) (sy:Int),lp (bw E 209 C) [(Fr.blk 0),(Fr.seq 0 [1,1,1,1,1])] 0 [0,0,1,0,1,1,1,1] m0 ⟨[u,u,u,(PV.ptr 0 0),(PV.ptr 1 0),(PV.ptr 2 0),u,u,u,u,u,u,u,u,u,u,u,u,u,u,u,u,u,u,u,u,u,u,u,u,u,u,u,u,u,u,u,u,u,u,u,u,L (rows (cE)) fl0,I i64 ((((List.length cE):Nat):Int)),I i64 sy,u,u,u,u,u,u,u,u,u,u,u,u,u,u,u,u,u,u,u,u,u,u,u,u,u,u,u,u,u,u,u,u,u,u,u,u,u,u,u,u,u,u,u,u,u,u,u,u,u,u,u,u,u,u,u,u,u,u,u,u,u,u,u,u,u,u,u,u,u,u,u,u,u,u,u,u,u,u],[(0,X [L (rows (db)) fl0,L (rows (dd)) fl0]),(1,X [L (rows (cZ)) fl0,L (rows (da)) fl0]),(2,X [L (rows (cE)) fl0,L (rows (cF)) fl0])],3⟩=M (fun r=>I i64 r) (mi (Graph.mk db dd) (Graph.mk cZ da) (aQ.mk cE cF) m0 sy):=by
 intro m0
 induction m0 with
 | zero=>intros;rw [bk];rfl
 | succ m0 ih=>
  intro sy
  rw [bm]
  simp only [WA,s1,s2,s3,s4,s5,s6,s7,↓reduceIte,NC,Qz,M9,uN,Tryz.f209,zm,zl,u9,u7,u6,BI,yH,nK h,mi,ih,Ez h]
theorem tN (h:Hy C R) (db:List Int) (dd:List Edge) (cZ:List Int) (da:List Edge) (cE:List Int) (cF:List Int) :
  C.pureC 209 [PV.agg [L (rows db) fl0,L (rows dd) fl0],PV.agg [L (rows cZ) fl0,L (rows da) fl0],PV.agg [L (rows cE) fl0,L (rows cF) fl0]]=M (fun r=>I i64 r) (f209 (Graph.mk db dd) (Graph.mk cZ da) (aQ.mk cE cF)):=by
 rw [aH h.1 (fn:=Tryz.f209) rfl _ rfl rfl rfl]
 simp only [WA,s1,s2,s3,s4,s5,s6,s7,↓reduceIte,NC,Qz,M9,uN,Tryz.f209,zm,zl,u9,u7,u6,BI,yH,nK h,f209,EB h]
def f95 (s:List Int):Option (List Int):=oq s
theorem zS (h:Hy C R) (s:List Int):C.pureC 95 [L (rows s) fl0]=M (fun r=>L (rows r) ⟨true,false⟩) (f95 s):=
 clone_ok h.1 rfl rfl rfl s
def z6 (CH:List Int):Option ((List Int)):=AP CH
theorem En (h:Hy C R) (CH:List Int) (n0:Nat) (h0:n0=List.length CH):refS C 244 1 ⟨[PV.own 0 1 0 n0],[(0,Y 1 (rows CH) false false)],1⟩=M (fun r=>((PV.tup []),[(0,Y 1 (rows (fit CH r)) false false)],1)) (z6 CH):=
 sort_ok h.1 rfl rfl CH n0 h0
def eL (ed:List Int) (k_0:Int):Nat→(List Int)→Int→Int→Option (Bool × (List Int) × Nat)
 | 0,_,_,_=>none
 | m2+1,s_3,k_4,oR=>
 (if (decide (oR<((((List.length ed) - (Int.toNat k_0)):Nat):Int))) then
 (if ((decide ((0:Int)≤oR))&&(decide (oR<((((List.length ed) - (Int.toNat k_0)):Nat):Int)))) then
 (N (s_3[((Int.toNat k_0)+(Int.toNat oR))]?) fun x6=>
 (if ((decide ((0:Int)≤(w64 (oR - (1:Int)))))&&(decide ((w64 (oR - (1:Int)))<((((List.length ed) - (Int.toNat k_0)):Nat):Int)))) then
 (N (s_3[((Int.toNat k_0)+(Int.toNat (w64 (oR - (1:Int)))))]?) fun x7=>
 (if (!(x6 == x7)) then
 (if ((decide ((0:Int)≤oR))&&(decide (oR<((((List.length ed) - (Int.toNat k_0)):Nat):Int)))) then
 (N (s_3[((Int.toNat k_0)+(Int.toNat oR))]?) fun x8=>
 (if ((decide ((0:Int)≤k_4))&&(decide (k_4<(((List.length s_3):Nat):Int)))) then
 (N (s_3[(Int.toNat k_4)]?) fun x9=>
 (eL ed k_0 m2 (List.set s_3 (Int.toNat k_4) x8) (w64 (k_4+(1:Int))) (w64 (oR+(1:Int)))))
 else none))
 else none)
 else (eL ed k_0 m2 s_3 k_4 (w64 (oR+(1:Int))))))
 else none))
 else none)
 else (if (decide (((0:Int)≤k_4)∧(k_4≤(((List.length s_3):Nat):Int)))) then
 (if (decide (((Int.toNat k_4)+((List.length s_3) - (Int.toNat k_4)))≤(List.length s_3))) then
 (if (decide (((0:Int)≤k_4)∧(k_4≤(((List.length s_3):Nat):Int)))) then
 (some (false,(((List.take (Int.toNat k_4) s_3) ++ (List.replicate ((List.length s_3) - (Int.toNat k_4)) (0:Int))) ++ (List.drop ((Int.toNat k_4)+((List.length s_3) - (Int.toNat k_4))) s_3)),(Int.toNat k_4)))
 else none)
 else none)
 else none))
def fY (ed:List Int):Nat→Int→Option (Bool × (List Int) × Nat)
 | 0,_=>none
 | m0+1,k_0=>
 (if (decide (k_0<(((List.length ed):Nat):Int))) then
 (if ((decide ((0:Int)≤k_0))&&(decide (k_0<(((List.length ed):Nat):Int)))) then
 (N (ed[(Int.toNat k_0)]?) fun x1=>
 (if ((decide ((0:Int)≤(w64 (k_0 - (1:Int)))))&&(decide ((w64 (k_0 - (1:Int)))<(((List.length ed):Nat):Int)))) then
 (N (ed[(Int.toNat (w64 (k_0 - (1:Int))))]?) fun x2=>
 (if (x1 == x2) then
 (if (decide (((0:Int)≤k_0)∧(k_0≤(((List.length ed):Nat):Int)))) then
 (eL ed k_0 ax ed k_0 (1:Int))
 else none)
 else (fY ed m0 (w64 (k_0+(1:Int))))))
 else none))
 else none)
 else (some (true,([]:List Int),0)))
def qU (ed:List Int):Option (Bool × (List Int) × Nat):=
 (if (decide ((((List.length ed):Nat):Int)<(2:Int))) then
 (some (true,([]:List Int),0))
 else (fY ed ax (1:Int)))
theorem xg (h:Hy C R) {ed:List Int} {k_0:Int} {m0:Nat} :
  ∀ (m2:Nat) (s_3:List Int) (k_4:Int) (oR:Int) (ack:Nat),ack=List.length s_3→lp (fw E 245 1 C) [(Fr.blk 2),(Fr.seq 1 [1,1,0,1,0,0,1,0,0,1,0,1,1]),(Fr.blk 1),(Fr.seq 0 [1,1,0,0,1,0,1,1]),(Fr.loop 0 [0,0,1,0,1,1] m0),(Fr.blk 0),(Fr.seq 0 [1,1,1])] 2 [0,0,1,0,1,0,1,0,0,1,0,0,1,0,1,1] m2 ⟨[PV.own 0 1 0 ack,u,u,I i64 k_4,PV.own 0 1 (Int.toNat k_0) (((List.length ed) - (Int.toNat k_0))),I i64 oR,u,u,u,u,u,u,u,u,u,u,u,u,u,u,u,u,u,u,u,u,u,u,u,u,u,u,u,u,u,u,u,u,u,u,u,u,u,u,u,u,u,u,u,u,u,u,u,u,u,u,u,u,u,u,u],[(0,Y 1 (rows s_3) false false)],1⟩=M (fun r=>if r.1=true then (PV.own 0 1 0 (List.length ed),[(0,Y 1 (rows ed) false false)],1) else (PV.own 0 1 0 r.2.2,[(0,Y 1 (rows r.2.1) false false)],1)) (eL ed k_0 m2 s_3 k_4 oR):=by
 intro m2
 induction m2 with
 | zero=>intros;rw [bk];rfl
 | succ m2 ih=>
  intro s_3 k_4 oR ack hs_3
  subst hs_3
  rw [bm]
  simp only [WA,s1,s2,s3,s4,s5,s6,s7,↓reduceIte,NB,Qy,M8,F6,Tryz.f245,zk,zj,yR,u5,eL,ih]
theorem xh (h:Hy C R) {ed:List Int} :
  ∀ (m0:Nat) (k_0:Int),lp (fw E 245 1 C) [(Fr.blk 0),(Fr.seq 0 [1,1,1])] 0 [0,0,1,0,1,1] m0 ⟨[PV.own 0 1 0 (List.length ed),u,u,I i64 k_0,u,u,u,u,u,u,u,u,u,u,u,u,u,u,u,u,u,u,u,u,u,u,u,u,u,u,u,u,u,u,u,u,u,u,u,u,u,u,u,u,u,u,u,u,u,u,u,u,u,u,u,u,u,u,u,u,u],[(0,Y 1 (rows (ed)) false false)],1⟩=M (fun r=>if r.1=true then (PV.own 0 1 0 (List.length ed),[(0,Y 1 (rows ed) false false)],1) else (PV.own 0 1 0 r.2.2,[(0,Y 1 (rows r.2.1) false false)],1)) (fY ed m0 k_0):=by
 intro m0
 induction m0 with
 | zero=>intros;rw [bk];rfl
 | succ m0 ih=>
  intro k_0
  rw [bm]
  simp only [WA,s1,s2,s3,s4,s5,s6,s7,↓reduceIte,NB,Qy,M8,F6,Tryz.f245,zk,zj,yR,u5,fY,ih,xg h]
theorem Em (h:Hy C R) (ed:List Int) (By:Nat) (Pj:By=List.length ed) :
  refS C 245 1 ⟨[PV.own 0 1 0 By],[(0,Y 1 (rows ed) false false)],1⟩=M (fun r=>if r.1=true then (PV.own 0 1 0 (List.length ed),[(0,Y 1 (rows ed) false false)],1) else (PV.own 0 1 0 r.2.2,[(0,Y 1 (rows r.2.1) false false)],1)) (qU ed):=by
 subst Pj
 rw [tK h.1 (fn:=Tryz.f245) rfl _ _ _ rfl rfl rfl rfl]
 simp only [WA,s1,s2,s3,s4,s5,s6,s7,↓reduceIte,NB,Qy,M8,F6,Tryz.f245,zk,zj,yR,u5,qU,xh h]
def f232 (l:List Int):Option Int:=
 (N (f95 l) fun x0=>
 (N (z6 x0) fun x1=>
 (N (qU (fit x0 x1)) fun x2=>
 (if (x2).1 then
 (some (((List.length x0):Nat):Int))
 else (some ((((x2).2).2:Nat):Int))))))
theorem Um (h:Hy C R) (l:List Int) :
  C.pureC 232 [L (rows l) fl0]=M (fun r=>I i64 r) (f232 l):=by
 rw [aH h.1 (fn:=Tryz.f232) rfl _ rfl rfl rfl]
 simp only [WA,s1,s2,s3,s4,s5,s6,s7,↓reduceIte,akd,art,ah4,Wk,Tryz.f232,Tv,Mf,ami,ahs,amh,F6,zS h,En h,Em h,f232]
def f210 (a:Graph) (b:Graph) (m:aQ):Option Bool:=
 (N (f209 a b m) fun x0=>
 (if (x0 == (0:Int)) then
 (N (f232 m.Nodes) fun x1=>
 (if (x1 == (((List.length m.Nodes):Nat):Int)) then
 (N (f232 m.Edges) fun x2=>
 (some (x2 == (((List.length m.Edges):Nat):Int))))
 else (some false)))
 else (some false)))
theorem Aa (h:Hy C R) (db:List Int) (dd:List Edge) (cZ:List Int) (da:List Edge) (cE:List Int) (cF:List Int) :
  C.pureC 210 [PV.agg [L (rows db) fl0,L (rows dd) fl0],PV.agg [L (rows cZ) fl0,L (rows da) fl0],PV.agg [L (rows cE) fl0,L (rows cF) fl0]]=M (fun r=>PV.bool r) (f210 (Graph.mk db dd) (Graph.mk cZ da) (aQ.mk cE cF)):=by
 rw [aH h.1 (fn:=Tryz.f210) rfl _ rfl rfl rfl]
 simp only [WA,s1,s2,s3,s4,s5,s6,s7,↓reduceIte,akt,arJ,ail,Gh,Tryz.f210,SK,HV,uN,amm,Wk,tN h,Um h,f210]
def gL (R:bI) (t:Types) (br:List Condition):Nat→Int→(List Int)→(List Edge)→(List Slot)→Int→(List Test)→Option Int
 | 0,_,_,_,_,_,_=>none
 | m0+1,il,p_4,p_5,p_6,p_7,p_8=>
 (if (decide (il<(((List.length br):Nat):Int))) then
 (N (at? br il) fun x9=>
 (N (bI.f214 R t (Pattern.mk (Graph.mk p_4 p_5) p_6 p_7 p_8) x9) fun x10=>
 (if (!(x10 == (0:Int))) then
 (some x10)
 else (gL R t br m0 (w64 (il+(1:Int))) p_4 p_5 p_6 p_7 p_8))))
 else (some (0:Int)))
def wo (R:bI) (t:Types) (p:Pattern) (c:Condition):Option Int:=
 (if (c.Kind == (5:Int)) then
 (if (decide (c.Pattern.Vars<p.Vars)) then
 (some (20:Int))
 else (N (f235 R t c.Pattern p.Vars) fun x0=>
 (if (!(x0 == (0:Int))) then
 (some x0)
 else (N (f209 p.Graph c.Pattern.Graph c.Map) fun x1=>
 (if (!(x1 == (0:Int))) then
 (some x1)
 else (N (f210 p.Graph c.Pattern.Graph c.Map) fun x2=>
 (if (!x2) then
 (some (1:Int))
 else (gL R t c.Kids ax (0:Int) c.Pattern.Graph.Nodes c.Pattern.Graph.Edges c.Pattern.Slots c.Pattern.Vars c.Pattern.Tests))))))))
 else (gL R t c.Kids ax (0:Int) p.Graph.Nodes p.Graph.Edges p.Slots p.Vars p.Tests))
theorem Ca (h:Hy C R) {t_Nodes:List aE} {t_Edges:List aG} {br:List Condition} :
  ∀ (m0:Nat) (il:Int) (p_4:List Int) (p_5:List Edge) (p_6:List Slot) (p_7:Int) (p_8:List Test),lp (bw E 214 C) [(Fr.blk 0),(Fr.seq 0 [1,1,1])] 0 [0,0,1,0,1,1] m0 ⟨[u,u,u,(PV.ptr 0 0),(PV.ptr 1 0),u,u,u,u,u,u,u,u,u,u,u,u,u,u,u,u,u,u,u,u,u,u,u,u,u,u,u,u,u,u,u,u,u,u,u,u,u,u,u,u,u,u,u,u,u,u,L (rows (br)) fl0,I i64 ((((List.length br):Nat):Int)),I i64 il,u,u,u,u,u,u,u,u,u,u,u],[(0,X [L (rows (t_Nodes)) fl0,L (rows (t_Edges)) fl0]),(1,X [L (rows p_4) fl0,L (rows p_5) fl0,L (rows p_6) fl0,I i64 p_7,L (rows p_8) fl0])],2⟩=M (fun r=>I i64 r) (gL R (Types.mk t_Nodes t_Edges) br m0 il p_4 p_5 p_6 p_7 p_8):=by
 intro m0
 induction m0 with
 | zero=>intros;rw [bk];rfl
 | succ m0 ih=>
  intro il p_4 p_5 p_6 p_7 p_8
  rw [bm]
  simp only [WA,s1,s2,s3,s4,s5,s6,s7,↓reduceIte,XS,Zz,WX,My,Tryz.f214,Hg,HV,uN,OR,Gh,YF,F8,OO,h.2.f214,Ij h,tN h,Aa h,gL,ih]
theorem PT (h:Hy C R) (t_Nodes:List aE) (t_Edges:List aG) (bc:List Int) (bd:List Edge) (bC:List Slot) (bK:Int) (bF:List Test) (bz:Int) (br:List Condition) (aM:List Int) (aN:List Int) (ah:List Int) (ai:List Edge) (aB:List Slot) (aF:Int) (aA:List Test) :
  (level E C).pureC 214 [PV.agg [L (rows t_Nodes) fl0,L (rows t_Edges) fl0],PV.agg [L (rows bc) fl0,L (rows bd) fl0,L (rows bC) fl0,I i64 bK,L (rows bF) fl0],PV.agg [I i64 bz,L (rows br) fl0,L (rows aM) fl0,L (rows aN) fl0,L (rows ah) fl0,L (rows ai) fl0,L (rows aB) fl0,I i64 aF,L (rows aA) fl0]]=M (fun r=>I i64 r) (wo R (Types.mk t_Nodes t_Edges) (Pattern.mk (Graph.mk bc bd) bC bK bF) (Condition.mk bz br (aQ.mk aM aN) (Pattern.mk (Graph.mk ah ai) aB aF aA))):=by
 rw [cP C (fn:=Tryz.f214) _ rfl rfl rfl]
 simp only [WA,s1,s2,s3,s4,s5,s6,s7,↓reduceIte,XS,Zz,WX,My,Tryz.f214,Hg,HV,uN,OR,Gh,YF,F8,OO,h.2.f214,Ij h,tN h,Aa h,wo,Ca h]
def jH (R:bI) (c:Condition):Nat→Int→Int→Int→Option (Int × Int)
 | 0,_,_,_=>none
 | m0+1,fV,dY,ur=>
 (if (decide (ur<(((List.length c.Kids):Nat):Int))) then
 (N (at? c.Kids ur) fun x3=>
 (N (bI.f234 R x3) fun x4=>
 (jH R c m0 (w64 (fV+(x4).1)) (if ((decide (dY<(x4).2))=true) then (x4).2 else dY) (w64 (ur+(1:Int))))))
 else (if (c.Kind == (5:Int)) then
 (some (fV,(w64 (dY+(1:Int)))))
 else (some (fV,dY))))
def wk (R:bI) (c:Condition):Option (Int × Int):=
 (jH R c ax (1:Int) (0:Int) (0:Int))
theorem B9 (h:Hy C R) {bz:Int} {br:List Condition} {aM:List Int} {aN:List Int} {ah:List Int} {ai:List Edge} {aB:List Slot} {aF:Int} {aA:List Test} :
  ∀ (m0:Nat) (fV:Int) (dY:Int) (ur:Int),lp (bw E 234 C) [(Fr.blk 0),(Fr.seq 0 [1,1,1])] 0 [0,0,1,0,1,1] m0 ⟨[u,(PV.ptr 0 0),u,u,I i64 fV,I i64 dY,u,u,u,u,u,L (rows (br)) fl0,I i64 ((((List.length br):Nat):Int)),I i64 ur,u,u,u,u,u,u,u,u,u,u,u,u,u,u,u,u,u,u,u,u,u,u],[(0,X [I i64 (bz),L (rows (br)) fl0,L (rows (aM)) fl0,L (rows (aN)) fl0,L (rows (ah)) fl0,L (rows (ai)) fl0,L (rows (aB)) fl0,I i64 (aF),L (rows (aA)) fl0])],1⟩=M (fun r=>PV.tup [I i64 r.1,I i64 r.2]) (jH R (Condition.mk bz br (aQ.mk aM aN) (Pattern.mk (Graph.mk ah ai) aB aF aA)) m0 fV dY ur):=by
 intro m0
 induction m0 with
 | zero=>intros;rw [bk];rfl
 | succ m0 ih=>
  intro fV dY ur
  rw [bm]
  simp only [WA,s1,s2,s3,s4,s5,s6,s7,↓reduceIte,XN,Zu,WQ,Mt,Tryz.f234,Hc,OH,h.2.f234,jH,ih]
theorem PN (h:Hy C R) (bz:Int) (br:List Condition) (aM:List Int) (aN:List Int) (ah:List Int) (ai:List Edge) (aB:List Slot) (aF:Int) (aA:List Test) :
  (level E C).pureC 234 [PV.agg [I i64 bz,L (rows br) fl0,L (rows aM) fl0,L (rows aN) fl0,L (rows ah) fl0,L (rows ai) fl0,L (rows aB) fl0,I i64 aF,L (rows aA) fl0]]=M (fun r=>PV.tup [I i64 r.1,I i64 r.2]) (wk R (Condition.mk bz br (aQ.mk aM aN) (Pattern.mk (Graph.mk ah ai) aB aF aA))):=by
 rw [cP C (fn:=Tryz.f234) _ rfl rfl rfl]
 simp only [WA,s1,s2,s3,s4,s5,s6,s7,↓reduceIte,XN,Zu,WQ,Mt,Tryz.f234,Hc,OH,h.2.f234,wk,B9 h]
def f246 (c:Condition):Option Bool:=
 (if ((w64 ((w64 ((w64 ((w64 ((w64 ((((List.length c.Map.Nodes):Nat):Int)+(((List.length c.Map.Edges):Nat):Int)))+(((List.length c.Pattern.Graph.Nodes):Nat):Int)))+(((List.length c.Pattern.Graph.Edges):Nat):Int)))+(((List.length c.Pattern.Slots):Nat):Int)))+(((List.length c.Pattern.Tests):Nat):Int))) == (0:Int)) then
 (some (c.Pattern.Vars == (0:Int)))
 else (some false))
theorem Ui (h:Hy C R) (bz:Int) (br:List Condition) (aM:List Int) (aN:List Int) (ah:List Int) (ai:List Edge) (aB:List Slot) (aF:Int) (aA:List Test) :
  C.pureC 246 [PV.agg [I i64 bz,L (rows br) fl0,L (rows aM) fl0,L (rows aN) fl0,L (rows ah) fl0,L (rows ai) fl0,L (rows aB) fl0,I i64 aF,L (rows aA) fl0]]=M (fun r=>PV.bool r) (f246 (Condition.mk bz br (aQ.mk aM aN) (Pattern.mk (Graph.mk ah ai) aB aF aA))):=by
 rw [aH h.1 (fn:=Tryz.f246) rfl _ rfl rfl rfl]
 simp only [WA,s1,s2,s3,s4,s5,s6,s7,↓reduceIte,aj6,ark,ahX,Wi,Tryz.f246,f246]
def f248 (R:bI) (k:Condition):Option Bool:=
 (N (bI.f233 R k) fun x0=>
 (some (!x0)))
theorem Ic (h:Hy C R) (Ox:Int) (Oy:List Condition) (sL:List Int) (sM:List Int) (gT:List Int) (gU:List Edge) (mW:List Slot) (nF:Int) (mV:List Test) :
  C.pureC 248 [PV.agg [I i64 Ox,L (rows Oy) fl0,L (rows sL) fl0,L (rows sM) fl0,L (rows gT) fl0,L (rows gU) fl0,L (rows mW) fl0,I i64 nF,L (rows mV) fl0]]=M (fun r=>PV.bool r) (f248 R (Condition.mk Ox Oy (aQ.mk sL sM) (Pattern.mk (Graph.mk gT gU) mW nF mV))):=by
 rw [aH h.1 (fn:=Tryz.f248) rfl _ rfl rfl rfl]
 simp only [WA,s1,s2,s3,s4,s5,s6,s7,↓reduceIte,aj4,ari,ahV,F5,Tryz.f248,YG,Mu,h.2.f233,f248]
def eh (R:bI) (s:List Condition):Nat→Int→Option Int
 | 0,_=>none
 | m0+1,bA=>
 (if (decide (bA<(((List.length s):Nat):Int))) then
 (N (at? s bA) fun x1=>
 (N (f248 R x1) fun x2=>
 (if x2 then
 (some bA)
 else (eh R s m0 (w64 (bA+(1:Int)))))))
 else (some (-(1:Int))))
def mc (R:bI) (s:List Condition):Option Int:=
 (eh R s ax (0:Int))
theorem rZ (h:Hy C R) {s:List Condition} :
  ∀ (m0:Nat) (bA:Int),lp (bw E 256 C) [(Fr.blk 0),(Fr.seq 0 [1,1])] 0 [0,0,1,0,1] m0 ⟨[L (rows (s)) fl0,PV.fn 248 [],u,u,u,u,u,I i64 ((((List.length s):Nat):Int)),I i64 bA,u,u,u,u,u,u,u,u,u,u],[],0⟩=M (fun r=>I i64 r) (eh R s m0 bA):=by
 intro m0
 induction m0 with
 | zero=>intros;rw [bk];rfl
 | succ m0 ih=>
  intro bA
  rw [bm]
  simp only [WA,s1,s2,s3,s4,s5,s6,s7,↓reduceIte,XJ,Zq,WL,Mn,Tryz.f256,G8,OF,F5,Ic h,eh,ih]
theorem xe (h:Hy C R) (s:List Condition) :
  C.pureC 256 [L (rows s) fl0,PV.fn 248 []]=M (fun r=>I i64 r) (mc R s):=by
 rw [aH h.1 (fn:=Tryz.f256) rfl _ rfl rfl rfl]
 simp only [WA,s1,s2,s3,s4,s5,s6,s7,↓reduceIte,XJ,Zq,WL,Mn,Tryz.f256,G8,OF,F5,Ic h,mc,rZ h]
def ei (R:bI) (s:List Condition):Option Bool:=
 (N (mc R s) fun x0=>
 (some (decide ((0:Int)≤x0))))
theorem xf (h:Hy C R) (s:List Condition) :
  C.pureC 247 [L (rows s) fl0,PV.fn 248 []]=M (fun r=>PV.bool r) (ei R s):=by
 rw [aH h.1 (fn:=Tryz.f247) rfl _ rfl rfl rfl]
 simp only [WA,s1,s2,s3,s4,s5,s6,s7,↓reduceIte,aj5,arj,ahW,Wh,Tryz.f247,amc,Mn,xe h,ei]
def wm (R:bI) (c:Condition):Option Bool:=
 (if (c.Kind == (1:Int)) then
 (if ((((List.length c.Kids):Nat):Int) == (0:Int)) then
 (N (f246 c) fun x0=>
 (if x0 then
 (N (ei R c.Kids) fun x1=>
 (some (!x1)))
 else (some false)))
 else (some false))
 else (if (c.Kind == (2:Int)) then
 (if ((((List.length c.Kids):Nat):Int) == (1:Int)) then
 (N (f246 c) fun x2=>
 (if x2 then
 (N (ei R c.Kids) fun x3=>
 (some (!x3)))
 else (some false)))
 else (some false))
 else (if (c.Kind == (3:Int)) then
 (if (c.Kind == (3:Int)) then
 (if (decide ((1:Int)≤(((List.length c.Kids):Nat):Int))) then
 (N (f246 c) fun x4=>
 (if x4 then
 (N (ei R c.Kids) fun x5=>
 (some (!x5)))
 else (some false)))
 else (some false))
 else (if (c.Kind == (5:Int)) then
 (if ((((List.length c.Kids):Nat):Int) == (1:Int)) then
 (N (ei R c.Kids) fun x6=>
 (some (!x6)))
 else (some false))
 else (some false)))
 else (if (c.Kind == (4:Int)) then
 (if (decide ((1:Int)≤(((List.length c.Kids):Nat):Int))) then
 (N (f246 c) fun x7=>
 (if x7 then
 (N (ei R c.Kids) fun x8=>
 (some (!x8)))
 else (some false)))
 else (some false))
 else (if (c.Kind == (5:Int)) then
 (if ((((List.length c.Kids):Nat):Int) == (1:Int)) then
 (N (ei R c.Kids) fun x9=>
 (some (!x9)))
 else (some false))
 else (some false))))))
theorem PO (h:Hy C R) (bz:Int) (br:List Condition) (aM:List Int) (aN:List Int) (ah:List Int) (ai:List Edge) (aB:List Slot) (aF:Int) (aA:List Test) :
  (level E C).pureC 233 [PV.agg [I i64 bz,L (rows br) fl0,L (rows aM) fl0,L (rows aN) fl0,L (rows ah) fl0,L (rows ai) fl0,L (rows aB) fl0,I i64 aF,L (rows aA) fl0]]=M (fun r=>PV.bool r) (wm R (Condition.mk bz br (aQ.mk aM aN) (Pattern.mk (Graph.mk ah ai) aB aF aA))):=by
 rw [cP C (fn:=Tryz.f233) _ rfl rfl rfl]
 simp only [WA,s1,s2,s3,s4,s5,s6,s7,↓reduceIte,akc,ars,ah3,Mu,Tryz.f233,amg,Wi,amf,Wh,OF,F5,Ui h,xf h,wm]
end Go.S
