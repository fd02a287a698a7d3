import Derived.Test.YtjkkigeefoncmaaGreatCheckD
set_option linter.all false
set_option maxRecDepth 100000
set_option linter.defProp false
noncomputable section
set_option maxHeartbeats 4000000
namespace Go.S
open Go Go.Pm Go.Proofs
open Nat renaming reduceAdd→s1,reduceSub→s2,reduceMul→s3,reduceBEq→s4,reduceLeDiff→s5,reduceEqDiff→s6,reduceLT→s7
open Go.IntKind (i64)
open Go.Pm.PV renaming undef→u,lit→L,int→I
open Go.Pm.bq renaming box→X,arr→Y
open Option renaming bind→N,map→M
structure bI where
 f148:Types→Int→Option (List Attr)
 f101:Types→Int→Option (List Attr)
 f93:Types→Int→Int→Option Bool
 f6:Option Bool
 f99:Condition→Int→Option Int
 f144:Types→Pattern→Condition→Option Int
 f169:Condition→Option Bool
 f170:Condition→Option (Int × Int)
 f214:Types→Pattern→Condition→Option Int
 f233:Condition→Option Bool
 f234:Condition→Option (Int × Int)
 f113_r0:(List Int)→(List Int)→(List Int)→(List (List Int))→Int→Int→Int→Option ((List Int) × (List Int) × Bool)
structure Rb (C:Pm.Callee) (R:bI):Prop where
 f148:∀ (t_Nodes:List aE) (t_Edges:List aG) (a:Int),C.pureC 148 [PV.agg [L (rows t_Nodes) fl0,L (rows t_Edges) fl0],I i64 a]=M (fun r=>L (rows r) ⟨true,false⟩) (R.f148 (Types.mk t_Nodes t_Edges) a)
 f101:∀ (t_Nodes:List aE) (t_Edges:List aG) (a:Int),C.pureC 101 [PV.agg [L (rows t_Nodes) fl0,L (rows t_Edges) fl0],I i64 a]=M (fun r=>L (rows r) ⟨true,false⟩) (R.f101 (Types.mk t_Nodes t_Edges) a)
 f93:∀ (t_Nodes:List aE) (t_Edges:List aG) (a:Int) (b:Int),C.pureC 93 [PV.agg [L (rows t_Nodes) fl0,L (rows t_Edges) fl0],I i64 a,I i64 b]=M (fun r=>PV.bool r) (R.f93 (Types.mk t_Nodes t_Edges) a b)
 f6:C.pureC 6 []=M (fun r=>PV.bool r) (R.f6)
 f99:∀ (bz:Int) (br:List Condition) (aM:List Int) (aN:List Int) (ah:List Int) (ai:List Edge) (aB:List Slot) (aF:Int) (aA:List Test) (most:Int),C.pureC 99 [PV.agg [I i64 bz,L (rows br) fl0,L (rows aM) fl0,L (rows aN) fl0,L (rows ah) fl0,L (rows ai) fl0,L (rows aB) fl0,I i64 aF,L (rows aA) fl0],I i64 most]=M (fun r=>I i64 r) (R.f99 (Condition.mk bz br (aQ.mk aM aN) (Pattern.mk (Graph.mk ah ai) aB aF aA)) most)
 f144:∀ (t_Nodes:List aE) (t_Edges:List aG) (bc:List Int) (bd:List Edge) (bC:List Slot) (bK:Int) (bF:List Test) (bz:Int) (br:List Condition) (aM:List Int) (aN:List Int) (ah:List Int) (ai:List Edge) (aB:List Slot) (aF:Int) (aA:List Test),C.pureC 144 [PV.agg [L (rows t_Nodes) fl0,L (rows t_Edges) fl0],PV.agg [L (rows bc) fl0,L (rows bd) fl0,L (rows bC) fl0,I i64 bK,L (rows bF) fl0],PV.agg [I i64 bz,L (rows br) fl0,L (rows aM) fl0,L (rows aN) fl0,L (rows ah) fl0,L (rows ai) fl0,L (rows aB) fl0,I i64 aF,L (rows aA) fl0]]=M (fun r=>I i64 r) (R.f144 (Types.mk t_Nodes t_Edges) (Pattern.mk (Graph.mk bc bd) bC bK bF) (Condition.mk bz br (aQ.mk aM aN) (Pattern.mk (Graph.mk ah ai) aB aF aA)))
 f169:∀ (bz:Int) (br:List Condition) (aM:List Int) (aN:List Int) (ah:List Int) (ai:List Edge) (aB:List Slot) (aF:Int) (aA:List Test),C.pureC 169 [PV.agg [I i64 bz,L (rows br) fl0,L (rows aM) fl0,L (rows aN) fl0,L (rows ah) fl0,L (rows ai) fl0,L (rows aB) fl0,I i64 aF,L (rows aA) fl0]]=M (fun r=>PV.bool r) (R.f169 (Condition.mk bz br (aQ.mk aM aN) (Pattern.mk (Graph.mk ah ai) aB aF aA)))
 f170:∀ (bz:Int) (br:List Condition) (aM:List Int) (aN:List Int) (ah:List Int) (ai:List Edge) (aB:List Slot) (aF:Int) (aA:List Test),C.pureC 170 [PV.agg [I i64 bz,L (rows br) fl0,L (rows aM) fl0,L (rows aN) fl0,L (rows ah) fl0,L (rows ai) fl0,L (rows aB) fl0,I i64 aF,L (rows aA) fl0]]=M (fun r=>PV.tup [I i64 r.1,I i64 r.2]) (R.f170 (Condition.mk bz br (aQ.mk aM aN) (Pattern.mk (Graph.mk ah ai) aB aF aA)))
 f214:∀ (t_Nodes:List aE) (t_Edges:List aG) (bc:List Int) (bd:List Edge) (bC:List Slot) (bK:Int) (bF:List Test) (bz:Int) (br:List Condition) (aM:List Int) (aN:List Int) (ah:List Int) (ai:List Edge) (aB:List Slot) (aF:Int) (aA:List Test),C.pureC 214 [PV.agg [L (rows t_Nodes) fl0,L (rows t_Edges) fl0],PV.agg [L (rows bc) fl0,L (rows bd) fl0,L (rows bC) fl0,I i64 bK,L (rows bF) fl0],PV.agg [I i64 bz,L (rows br) fl0,L (rows aM) fl0,L (rows aN) fl0,L (rows ah) fl0,L (rows ai) fl0,L (rows aB) fl0,I i64 aF,L (rows aA) fl0]]=M (fun r=>I i64 r) (R.f214 (Types.mk t_Nodes t_Edges) (Pattern.mk (Graph.mk bc bd) bC bK bF) (Condition.mk bz br (aQ.mk aM aN) (Pattern.mk (Graph.mk ah ai) aB aF aA)))
 f233:∀ (bz:Int) (br:List Condition) (aM:List Int) (aN:List Int) (ah:List Int) (ai:List Edge) (aB:List Slot) (aF:Int) (aA:List Test),C.pureC 233 [PV.agg [I i64 bz,L (rows br) fl0,L (rows aM) fl0,L (rows aN) fl0,L (rows ah) fl0,L (rows ai) fl0,L (rows aB) fl0,I i64 aF,L (rows aA) fl0]]=M (fun r=>PV.bool r) (R.f233 (Condition.mk bz br (aQ.mk aM aN) (Pattern.mk (Graph.mk ah ai) aB aF aA)))
 f234:∀ (bz:Int) (br:List Condition) (aM:List Int) (aN:List Int) (ah:List Int) (ai:List Edge) (aB:List Slot) (aF:Int) (aA:List Test),C.pureC 234 [PV.agg [I i64 bz,L (rows br) fl0,L (rows aM) fl0,L (rows aN) fl0,L (rows ah) fl0,L (rows ai) fl0,L (rows aB) fl0,I i64 aF,L (rows aA) fl0]]=M (fun r=>PV.tup [I i64 r.1,I i64 r.2]) (R.f234 (Condition.mk bz br (aQ.mk aM aN) (Pattern.mk (Graph.mk ah ai) aB aF aA)))
 f113_r0:∀ (iG:List Int) (eu:List Int) (jt:List Int) (dn:(List (List Int))) (fc:Int) (dj:Int) (fm:Int) (rK:Nat) (rJ:Nat) (rI:Nat) (oF:Nat) (zO:rK=List.length iG) (zN:rJ=List.length eu) (zM:rI=List.length jt) (tJ:oF=List.length dn),refS C 113 7 ⟨[I i64 fc,I i64 dj,(PV.ptr 0 0),(PV.ptr 1 0),(PV.ptr 2 0),(PV.ptr 3 0)],[(0,X [I i64 fm]),(1,X [PV.fn 76 [((PV.ptr 4 0)),((PV.ptr 5 0)),((PV.ptr 6 0))]]),(2,X [PV.own 7 1 0 rK]),(3,X [PV.fn 113 [((PV.ptr 0 0)),((PV.ptr 1 0)),((PV.ptr 2 0)),((PV.ptr 3 0))]]),(4,X [PV.own 8 1 0 rJ]),(5,X [PV.own 9 1 0 rI]),(6,X [PV.own 10 1 0 oF]),(7,Y 1 (rows iG) false false),(8,Y 1 (rows eu) false false),(9,Y 1 (rows jt) false false),(10,Y 1 (rows dn) false false)],11⟩=M (fun r=>(PV.bool r.2.2,[(0,X [I i64 fm]),(1,X [PV.fn 76 [((PV.ptr 4 0)),((PV.ptr 5 0)),((PV.ptr 6 0))]]),(2,X [PV.own 7 1 0 (List.length r.1)]),(3,X [PV.fn 113 [((PV.ptr 0 0)),((PV.ptr 1 0)),((PV.ptr 2 0)),((PV.ptr 3 0))]]),(4,X [PV.own 8 1 0 (List.length eu)]),(5,X [PV.own 9 1 0 (List.length r.2.1)]),(6,X [PV.own 10 1 0 (List.length dn)]),(7,Y 1 (rows r.1) false false),(8,Y 1 (rows eu) false false),(9,Y 1 (rows r.2.1) false false),(10,Y 1 (rows dn) false false)],11)) (R.f113_r0 iG eu jt dn fc dj fm)
def WA:=And.intro W0<|And.intro W1<|And.intro W2<|And.intro W3<|And.intro W4<|And.intro W5<|And.intro W6<|And.intro W7<|And.intro W8<|And.intro W9<|And.intro Wc<|And.intro WE<|And.intro WT WS
abbrev Hy (C:Pm.Callee) (R:bI):Prop:=Fix E isRec C∧Rb C R
variable {C:Pm.Callee} {R:bI}
def oS (R:bI) (t:Types) (a:Int) (b:Int):Option Bool:=
 (if (a == b) then
 (some true)
 else (if (decide ((0:Int)≤a)) then
 (N (at? t.Nodes a) fun x0=>
 (N (bI.f93 R t x0.Parent b) fun x1=>
 (some x1)))
 else (some false)))
theorem Ue (h:Hy C R) (t_Nodes:List aE) (t_Edges:List aG) (a:Int) (b:Int) :
  (level E C).pureC 93 [PV.agg [L (rows t_Nodes) fl0,L (rows t_Edges) fl0],I i64 a,I i64 b]=M (fun r=>PV.bool r) (oS R (Types.mk t_Nodes t_Edges) a b):=by
 rw [cP C (fn:=Tryz.f93) _ rfl rfl rfl]
 simp only [WA,s1,s2,s3,s4,s5,s6,s7,↓reduceIte,nt93,co93,re93,aho,Tryz.f93,ab4,al3,h.2.f93,oS]
def ky (R:bI) (t:Types) (a:Int):Option (List Attr):=
 (if (decide (a<(0:Int))) then
 (some ([]:List Attr))
 else (N (at? t.Nodes a) fun x0=>
 (N (bI.f101 R t x0.Parent) fun x1=>
 (if (decide ((List.length x1)≤bound)) then
 (N (at? t.Nodes a) fun x2=>
 (if (decide ((List.length (x1 ++ x2.Attrs))≤bound)) then
 (some (x1 ++ x2.Attrs))
 else none))
 else none))))
theorem P9 (h:Hy C R) (t_Nodes:List aE) (t_Edges:List aG) (a:Int) :
  (level E C).pureC 101 [PV.agg [L (rows t_Nodes) fl0,L (rows t_Edges) fl0],I i64 a]=M (fun r=>L (rows r) ⟨true,false⟩) (ky R (Types.mk t_Nodes t_Edges) a):=by
 rw [cP C (fn:=Tryz.f101) _ rfl rfl rfl]
 simp only [WA,s1,s2,s3,s4,s5,s6,s7,↓reduceIte,alr,asI,aji,uS,Tryz.f101,SS,vO,h.2.f101,ky]
def kj (R:bI) (t:Types) (a:Int):Option (List Attr):=
 (N (at? t.Nodes a) fun x0=>
 (if (decide ((0:Int)≤x0.Parent)) then
 (N (bI.f148 R t x0.Parent) fun x1=>
 (N (at? t.Nodes a) fun x2=>
 (if (decide ((List.length (x1 ++ x2.Attrs))≤bound)) then
 (some (x1 ++ x2.Attrs))
 else none)))
 else (N (at? t.Nodes a) fun x3=>
 (if (decide ((List.length x3.Attrs)≤bound)) then
 (some x3.Attrs)
 else none))))
theorem P3 (h:Hy C R) (t_Nodes:List aE) (t_Edges:List aG) (a:Int) :
  (level E C).pureC 148 [PV.agg [L (rows t_Nodes) fl0,L (rows t_Edges) fl0],I i64 a]=M (fun r=>L (rows r) ⟨true,false⟩) (kj R (Types.mk t_Nodes t_Edges) a):=by
 rw [cP C (fn:=Tryz.f148) _ rfl rfl rfl]
 simp only [WA,s1,s2,s3,s4,s5,s6,s7,↓reduceIte,ak0,ash,aiS,A9,Tryz.f148,BM,h.2.f148,kj]
def f98 (g:Graph):Option Bool:=
 (if (decide ((((List.length g.Nodes):Nat):Int)≤(45:Int))) then
 (some (decide ((((List.length g.Edges):Nat):Int)≤(90:Int))))
 else (some false))
theorem ad1 (h:Hy C R) (g_Nodes:List Int) (g_Edges:List Edge) :
  C.pureC 98 [PV.agg [L (rows g_Nodes) fl0,L (rows g_Edges) fl0]]=M (fun r=>PV.bool r) (f98 (Graph.mk g_Nodes g_Edges)):=by
 rw [aH h.1 (fn:=Tryz.f98) rfl _ rfl rfl rfl]
 simp only [WA,s1,s2,s3,s4,s5,s6,s7,↓reduceIte,nt98,co98,re98,ahn,Tryz.f98,f98]
def f64 (p:Pattern):Option Bool:=
 (N (f98 p.Graph) fun x0=>
 (if x0 then
 (if (decide ((((List.length p.Slots):Nat):Int)≤(15:Int))) then
 (some (decide ((((List.length p.Tests):Nat):Int)≤(15:Int))))
 else (some false))
 else (some false)))
theorem Eg (h:Hy C R) (bc:List Int) (bd:List Edge) (bC:List Slot) (bK:Int) (bF:List Test) :
  C.pureC 64 [PV.agg [L (rows bc) fl0,L (rows bd) fl0,L (rows bC) fl0,I i64 bK,L (rows bF) fl0]]=M (fun r=>PV.bool r) (f64 (Pattern.mk (Graph.mk bc bd) bC bK bF)):=by
 rw [aH h.1 (fn:=Tryz.f64) rfl _ rfl rfl rfl]
 simp only [WA,s1,s2,s3,s4,s5,s6,s7,↓reduceIte,nt64,co64,re64,Sl,Tryz.f64,ir98,ahn,ad1 h,f64]
def f66 (m:aQ) (n:Int):Option Bool:=
 (some (decide ((w64 ((((List.length m.Nodes):Nat):Int)+(((List.length m.Edges):Nat):Int)))≤n)))
theorem Ef (h:Hy C R) (cE:List Int) (cF:List Int) (n:Int) :
  C.pureC 66 [PV.agg [L (rows cE) fl0,L (rows cF) fl0],I i64 n]=M (fun r=>PV.bool r) (f66 (aQ.mk cE cF) n):=by
 rw [aH h.1 (fn:=Tryz.f66) rfl _ rfl rfl rfl]
 simp only [WA,s1,s2,s3,s4,s5,s6,s7,↓reduceIte,nt66,co66,re66,Sk,Tryz.f66,f66]
def lV (R:bI) (c:Condition):Nat→Int→Int→Option Int
 | 0,_,_=>none
 | m0+1,nD,i_3=>
 (if (decide (i_3<(((List.length c.Kids):Nat):Int))) then
 (if (decide ((0:Int)≤nD)) then
 (N (at? c.Kids i_3) fun x4=>
 (N (bI.f99 R x4 nD) fun x5=>
 (lV R c m0 x5 (w64 (i_3+(1:Int))))))
 else (some nD))
 else (some nD))
def Ea (R:bI) (c:Condition) (most:Int):Option Int:=
 (N (f64 c.Pattern) fun x0=>
 (if (!x0) then
 (some (-(1:Int)))
 else (N (f66 c.Map (140:Int)) fun x1=>
 (if (!x1) then
 (some (-(1:Int)))
 else (lV R c ax (w64 (most - (1:Int))) (0:Int))))))
theorem D9 (h:Hy C R) {bz:Int} {br:List Condition} {aM:List Int} {aN:List Int} {ah:List Int} {ai:List Edge} {aB:List Slot} {aF:Int} {aA:List Test} :
  ∀ (m0:Nat) (nD:Int) (i_3:Int),lp (bw E 99 C) [(Fr.blk 0),(Fr.seq 0 [1,1,1,1])] 0 [0,0,1,0,1,1,1] m0 ⟨[u,I i64 nD,(PV.ptr 0 0),u,u,I i64 i_3,u,u,u,u,u,u,u,u,u,u,u,u,u,u,u,u,u,u,u,u,u,u,u,u,u,u,u,u,u,u,u],[(0,X [I i64 (bz),L (rows (br)) fl0,L (rows (aM)) fl0,L (rows (aN)) fl0,L (rows (ah)) fl0,L (rows (ai)) fl0,L (rows (aB)) fl0,I i64 (aF),L (rows (aA)) fl0])],1⟩=M (fun r=>I i64 r) (lV R (Condition.mk bz br (aQ.mk aM aN) (Pattern.mk (Graph.mk ah ai) aB aF aA)) m0 nD i_3):=by
 intro m0
 induction m0 with
 | zero=>intros;rw [bk];rfl
 | succ m0 ih=>
  intro nD i_3
  rw [bm]
  simp only [WA,s1,s2,s3,s4,s5,s6,s7,↓reduceIte,ajM,aqZ,ahD,abx,Tryz.f99,Oa,adf,Sl,ade,Sk,ac6,h.2.f99,Eg h,Ef h,lV,ih]
theorem Ud (h:Hy C R) (bz:Int) (br:List Condition) (aM:List Int) (aN:List Int) (ah:List Int) (ai:List Edge) (aB:List Slot) (aF:Int) (aA:List Test) (most:Int) :
  (level E C).pureC 99 [PV.agg [I i64 bz,L (rows br) fl0,L (rows aM) fl0,L (rows aN) fl0,L (rows ah) fl0,L (rows ai) fl0,L (rows aB) fl0,I i64 aF,L (rows aA) fl0],I i64 most]=M (fun r=>I i64 r) (Ea R (Condition.mk bz br (aQ.mk aM aN) (Pattern.mk (Graph.mk ah ai) aB aF aA)) most):=by
 rw [cP C (fn:=Tryz.f99) _ rfl rfl rfl]
 simp only [WA,s1,s2,s3,s4,s5,s6,s7,↓reduceIte,ajM,aqZ,ahD,abx,Tryz.f99,Oa,adf,Sl,ade,Sk,ac6,h.2.f99,Eg h,Ef h,Ea,D9 h]
def f162 (t:Token):Option ByteArray:=
 (if (t.Kind == (3:Int)) then
 none
 else (some t.Text))
theorem UF (h:Hy C R) (np:Int) (nm:ByteArray) (nn:Int) :
  C.pureC 162 [PV.agg [I i64 np,PV.str nm,I i64 nn]]=M (fun r=>PV.str r) (f162 (Token.mk np nm nn)):=by
 rw [aH h.1 (fn:=Tryz.f162) rfl _ rfl rfl rfl]
 simp only [WA,s1,s2,s3,s4,s5,s6,s7,↓reduceIte,akP,ar5,aiH,Wx,Tryz.f162,f162]
def f188 (c:Int):Option Bool:=
 (if (decide ((97:Int)≤c)) then
 (if (decide (c≤(122:Int))) then
 (some true)
 else (if (decide ((65:Int)≤c)) then
 (some (decide (c≤(90:Int))))
 else (some false)))
 else (if (decide ((65:Int)≤c)) then
 (some (decide (c≤(90:Int))))
 else (some false)))
theorem tP (h:Hy C R) (c:Int) :
  C.pureC 188 [I IntKind.u8 c]=M (fun r=>PV.bool r) (f188 c):=by
 rw [aH h.1 (fn:=Tryz.f188) rfl _ rfl rfl rfl]
 simp only [WA,s1,s2,s3,s4,s5,s6,s7,↓reduceIte,akG,arW,aiy,A6,Tryz.f188,f188]
def f189 (c:Int):Option Bool:=
 (if (decide ((48:Int)≤c)) then
 (some (decide (c≤(57:Int))))
 else (some false))
theorem tO (h:Hy C R) (c:Int) :
  C.pureC 189 [I IntKind.u8 c]=M (fun r=>PV.bool r) (f189 c):=by
 rw [aH h.1 (fn:=Tryz.f189) rfl _ rfl rfl rfl]
 simp only [WA,s1,s2,s3,s4,s5,s6,s7,↓reduceIte,akF,arV,aix,A5,Tryz.f189,f189]
def fT (s:ByteArray) (at_:Int) (digits:Bool):Nat→Int→Option Int
 | 0,_=>none
 | m0+1,n_0=>
 (if (decide ((w64 (at_+n_0))<((ByteArray.size s):Int))) then
 (N (ea s (w64 (at_+n_0))) fun x1=>
 (N (f189 x1) fun x2=>
 (if x2 then
 (fT s at_ digits m0 (w64 (n_0+(1:Int))))
 else (if (!digits) then
 (N (ea s (w64 (at_+n_0))) fun x3=>
 (N (f188 x3) fun x4=>
 (if x4 then
 (fT s at_ digits m0 (w64 (n_0+(1:Int))))
 else (N (ea s (w64 (at_+n_0))) fun x5=>
 (if (x5 == (95:Int)) then
 (fT s at_ digits m0 (w64 (n_0+(1:Int))))
 else (some n_0))))))
 else (some n_0)))))
 else (some n_0))
def f190 (s:ByteArray) (at_:Int) (digits:Bool):Option Int:=
 (fT s at_ digits ax (0:Int))
theorem EK (h:Hy C R) {s:ByteArray} {at_:Int} {digits:Bool} :
  ∀ (m0:Nat) (n_0:Int),lp (bw E 190 C) [(Fr.blk 0),(Fr.seq 0 [1,1,1])] 0 [0,0,0,1,1] m0 ⟨[PV.str (s),I i64 (at_),PV.bool (digits),u,u,u,u,I i64 n_0,u,u,u,u,u,u,u,u,u,u,u,u,u,u,u,u,u,u,u,u,u,u,u,u,u,u,u,u,u,u,u,u,u,u,u,u,u],[],0⟩=M (fun r=>I i64 r) (fT s at_ digits m0 n_0):=by
 intro m0
 induction m0 with
 | zero=>intros;rw [bk];rfl
 | succ m0 ih=>
  intro n_0
  rw [bm]
  simp only [WA,s1,s2,s3,s4,s5,s6,s7,↓reduceIte,XZ,ZG,Xe,Gr,Tryz.f190,Hn,HZ,A6,HY,A5,tP h,tO h,fT,ih]
theorem IA (h:Hy C R) (s:ByteArray) (at_:Int) (digits:Bool) :
  C.pureC 190 [PV.str s,I i64 at_,PV.bool digits]=M (fun r=>I i64 r) (f190 s at_ digits):=by
 rw [aH h.1 (fn:=Tryz.f190) rfl _ rfl rfl rfl]
 simp only [WA,s1,s2,s3,s4,s5,s6,s7,↓reduceIte,XZ,ZG,Xe,Gr,Tryz.f190,Hn,HZ,A6,HY,A5,tP h,tO h,f190,EK h]
def mq (s:ByteArray) (at_:Int):Nat→Int→Option Int
 | 0,_=>none
 | m0+1,n_0=>
 (if (decide ((w64 (at_+n_0))<((ByteArray.size s):Int))) then
 (N (ea s (w64 (at_+n_0))) fun x1=>
 (if (x1 == (34:Int)) then
 (some (w64 (n_0+(1:Int))))
 else (if (decide (x1<(32:Int))) then
 (some (0:Int))
 else (if (decide ((126:Int)<x1)) then
 (some (0:Int))
 else (mq s at_ m0 (w64 (n_0+(1:Int))))))))
 else (some (0:Int)))
def f191 (s:ByteArray) (at_:Int):Option Int:=
 (mq s at_ ax (1:Int))
theorem EJ (h:Hy C R) {s:ByteArray} {at_:Int} :
  ∀ (m0:Nat) (n_0:Int),lp (bw E 191 C) [(Fr.blk 0),(Fr.seq 0 [1,1])] 0 [0,0,1,0,1] m0 ⟨[PV.str (s),I i64 (at_),u,u,u,I i64 n_0,u,u,u,u,u,u,u,u,u,u,u,u,u,u,u,u,u,u,u,u,u,u,u,u],[],0⟩=M (fun r=>I i64 r) (mq s at_ m0 n_0):=by
 intro m0
 induction m0 with
 | zero=>intros;rw [bk];rfl
 | succ m0 ih=>
  intro n_0
  rw [bm]
  simp only [WA,s1,s2,s3,s4,s5,s6,s7,↓reduceIte,XY,ZF,Xd,Gq,Tryz.f191,Hm,mq,ih]
theorem Iz (h:Hy C R) (s:ByteArray) (at_:Int) :
  C.pureC 191 [PV.str s,I i64 at_]=M (fun r=>I i64 r) (f191 s at_):=by
 rw [aH h.1 (fn:=Tryz.f191) rfl _ rfl rfl rfl]
 simp only [WA,s1,s2,s3,s4,s5,s6,s7,↓reduceIte,XY,ZF,Xd,Gq,Tryz.f191,Hm,f191,EJ h]
def f192:Option (List ByteArray):=
 (some ((ByteArray.mk (List.toArray [45,62]))::((ByteArray.mk (List.toArray [60,61]))::((ByteArray.mk (List.toArray [62,61]))::((ByteArray.mk (List.toArray [61,61]))::((ByteArray.mk (List.toArray [33,61]))::((ByteArray.mk (List.toArray [123]))::((ByteArray.mk (List.toArray [125]))::((ByteArray.mk (List.toArray [40]))::((ByteArray.mk (List.toArray [41]))::((ByteArray.mk (List.toArray [91]))::((ByteArray.mk (List.toArray [93]))::((ByteArray.mk (List.toArray [44]))::((ByteArray.mk (List.toArray [59]))::((ByteArray.mk (List.toArray [58]))::((ByteArray.mk (List.toArray [61]))::((ByteArray.mk (List.toArray [43]))::((ByteArray.mk (List.toArray [45]))::((ByteArray.mk (List.toArray [42]))::((ByteArray.mk (List.toArray [60]))::((ByteArray.mk (List.toArray [62]))::((ByteArray.mk (List.toArray [33]))::((ByteArray.mk (List.toArray [38]))::((ByteArray.mk (List.toArray [124]))::((ByteArray.mk (List.toArray [46]))::((ByteArray.mk (List.toArray [63]))::([]:List ByteArray)))))))))))))))))))))))))))
theorem Iy (h:Hy C R) :
  C.pureC 192 []=M (fun r=>L (rows r) ⟨true,false⟩) (f192):=by
 rw [aH h.1 (fn:=Tryz.f192) rfl _ rfl rfl rfl]
 simp only [WA,s1,s2,s3,s4,s5,s6,s7,↓reduceIte,akE,arU,aiw,ME,Tryz.f192,f192]
def iV (s:ByteArray) (at_:Int) (x10:List ByteArray):Nat→Int→Int→Int→Option (Token × Int × Int)
 | 0,_,_,_=>none
 | m0+1,fG,xy,xx=>
 (if (decide (fG<(((List.length x10):Nat):Int))) then
 (if ((decide ((0:Int)≤fG))&&(decide (fG<(((List.length x10):Nat):Int)))) then
 (N (x10[(Int.toNat fG)]?) fun x14=>
 (if (decide ((w64 (at_+((ByteArray.size x14):Int)))≤((ByteArray.size s):Int))) then
 (if ((decide ((0:Int)≤fG))&&(decide (fG<(((List.length x10):Nat):Int)))) then
 (N (x10[(Int.toNat fG)]?) fun x15=>
 (if (decide (((0:Int)≤at_)∧((at_≤(w64 (at_+((ByteArray.size x15):Int))))∧((w64 (at_+((ByteArray.size x15):Int)))≤((ByteArray.size s):Int))))) then
 (if ((decide ((0:Int)≤fG))&&(decide (fG<(((List.length x10):Nat):Int)))) then
 (N (x10[(Int.toNat fG)]?) fun x16=>
 (if (decide ((ByteArray.extract s (Int.toNat at_) (Int.toNat (w64 (at_+((ByteArray.size x15):Int)))))=x16)) then
 (if ((decide ((0:Int)≤fG))&&(decide (fG<(((List.length x10):Nat):Int)))) then
 (N (x10[(Int.toNat fG)]?) fun x17=>
 (if ((decide ((0:Int)≤fG))&&(decide (fG<(((List.length x10):Nat):Int)))) then
 (N (x10[(Int.toNat fG)]?) fun x18=>
 (some ((Token.mk (4:Int) x17 (0:Int)),((ByteArray.size x18):Int),(0:Int))))
 else none))
 else none)
 else (iV s at_ x10 m0 (w64 (fG+(1:Int))) xy xx)))
 else none)
 else none))
 else none)
 else (iV s at_ x10 m0 (w64 (fG+(1:Int))) xy xx)))
 else none)
 else (some ((Token.mk (0:Int) (ByteArray.mk (List.toArray [])) (0:Int)),(0:Int),(2:Int))))
def f163 (s:ByteArray) (at_:Int):Option (Token × Int × Int):=
 (N (ea s at_) fun x0=>
 (N (f188 x0) fun x1=>
 (if x1 then
 (N (f189 x0) fun x2=>
 (N (f190 s at_ x2) fun x3=>
 (N (f189 x0) fun x4=>
 (if x4 then
 (if (decide ((9:Int)<x3)) then
 (some ((Token.mk (0:Int) (ByteArray.mk (List.toArray [])) (0:Int)),(0:Int),(3:Int)))
 else (if (decide (((0:Int)≤at_)∧((at_≤(w64 (at_+x3)))∧((w64 (at_+x3))≤((ByteArray.size s):Int))))) then
 (some ((Token.mk (2:Int) (ByteArray.extract s (Int.toNat at_) (Int.toNat (w64 (at_+x3)))) (0:Int)),x3,(0:Int)))
 else none))
 else (if (decide ((20:Int)<x3)) then
 (some ((Token.mk (0:Int) (ByteArray.mk (List.toArray [])) (0:Int)),(0:Int),(3:Int)))
 else (if (decide (((0:Int)≤at_)∧((at_≤(w64 (at_+x3)))∧((w64 (at_+x3))≤((ByteArray.size s):Int))))) then
 (some ((Token.mk (1:Int) (ByteArray.extract s (Int.toNat at_) (Int.toNat (w64 (at_+x3)))) (0:Int)),x3,(0:Int)))
 else none))))))
 else (N (f189 x0) fun x5=>
 (if x5 then
 (N (f189 x0) fun x6=>
 (N (f190 s at_ x6) fun x7=>
 (N (f189 x0) fun x8=>
 (if x8 then
 (if (decide ((9:Int)<x7)) then
 (some ((Token.mk (0:Int) (ByteArray.mk (List.toArray [])) (0:Int)),(0:Int),(3:Int)))
 else (if (decide (((0:Int)≤at_)∧((at_≤(w64 (at_+x7)))∧((w64 (at_+x7))≤((ByteArray.size s):Int))))) then
 (some ((Token.mk (2:Int) (ByteArray.extract s (Int.toNat at_) (Int.toNat (w64 (at_+x7)))) (0:Int)),x7,(0:Int)))
 else none))
 else (if (decide ((20:Int)<x7)) then
 (some ((Token.mk (0:Int) (ByteArray.mk (List.toArray [])) (0:Int)),(0:Int),(3:Int)))
 else (if (decide (((0:Int)≤at_)∧((at_≤(w64 (at_+x7)))∧((w64 (at_+x7))≤((ByteArray.size s):Int))))) then
 (some ((Token.mk (1:Int) (ByteArray.extract s (Int.toNat at_) (Int.toNat (w64 (at_+x7)))) (0:Int)),x7,(0:Int)))
 else none))))))
 else (if (x0 == (34:Int)) then
 (N (f191 s at_) fun x9=>
 (if (x9 == (0:Int)) then
 (some ((Token.mk (0:Int) (ByteArray.mk (List.toArray [])) (0:Int)),(0:Int),(2:Int)))
 else (if (decide ((60:Int)<(w64 (x9 - (2:Int))))) then
 (some ((Token.mk (0:Int) (ByteArray.mk (List.toArray [])) (0:Int)),(0:Int),(3:Int)))
 else (if (decide (((0:Int)≤(w64 (at_+(1:Int))))∧(((w64 (at_+(1:Int)))≤(w64 ((w64 (at_+x9)) - (1:Int))))∧((w64 ((w64 (at_+x9)) - (1:Int)))≤((ByteArray.size s):Int))))) then
 (some ((Token.mk (3:Int) (ByteArray.extract s (Int.toNat (w64 (at_+(1:Int)))) (Int.toNat (w64 ((w64 (at_+x9)) - (1:Int))))) (0:Int)),x9,(0:Int)))
 else none))))
 else (N f192 fun x10=>
 (iV s at_ x10 ax (0:Int) (0:Int) (0:Int)))))))))
theorem EY (h:Hy C R) {s:ByteArray} {at_:Int} {x10:List ByteArray} :
  ∀ (m0:Nat) (fG:Int) (xy:Int) (xx:Int),lp (bw E 163 C) [(Fr.blk 0),(Fr.seq 0 [1,1,1,1,1,1])] 0 [0,0,1,0,1,1,1,1,1] m0 ⟨[PV.str (s),I i64 (at_),u,u,(PV.ptr 0 0),u,u,u,u,u,u,u,PV.own 1 1 0 (List.length x10),I i64 fG,u,u,u,u,u,u,u,u,u,u,u,u,u,u,u,u,u,u,u,u,u,u,u,u,u,u,u,u,u,u,u,u,u,u,u,u,u,u,u,u,u,u,u,u,u,u,u,u,u,u,u,u,u,u,u,u,u,u,u,u,u,u,u,u,u,u,u,u,u,u,u,u,u,u,u,u,u,u,u,u,u,u,u,u,u,u,u,u,u,u,u,u,u,u,u,u],[(0,X [I i64 xy,PV.str ((ByteArray.mk (List.toArray []))),I i64 xx]),(1,Y 1 (rows (x10)) false false)],2⟩=M (fun r=>PV.tup [PV.agg [I i64 r.1.Kind,PV.str r.1.Text,I i64 r.1.Line],I i64 r.2.1,I i64 r.2.2]) (iV s at_ x10 m0 fG xy xx):=by
 intro m0
 induction m0 with
 | zero=>intros;rw [bk];rfl
 | succ m0 ih=>
  intro fG xy xx
  rw [bm]
  simp only [WA,s1,s2,s3,s4,s5,s6,s7,↓reduceIte,Yf,ZW,Xu,MP,Tryz.f163,HE,Bp,Bo,HZ,A6,HY,A5,YV,Gr,YU,Gq,YT,ME,tP h,tO h,IA h,Iz h,Iy h,iV,ih]
theorem UE (h:Hy C R) (s:ByteArray) (at_:Int) :
  C.pureC 163 [PV.str s,I i64 at_]=M (fun r=>PV.tup [PV.agg [I i64 r.1.Kind,PV.str r.1.Text,I i64 r.1.Line],I i64 r.2.1,I i64 r.2.2]) (f163 s at_):=by
 rw [aH h.1 (fn:=Tryz.f163) rfl _ rfl rfl rfl]
 simp only [WA,s1,s2,s3,s4,s5,s6,s7,↓reduceIte,Yf,ZW,Xu,MP,Tryz.f163,HE,Bp,Bo,HZ,A6,HY,A5,YV,Gr,YU,Gq,YT,ME,tP h,tO h,IA h,Iz h,Iy h,f163,EY h]
def f131 (t:Token):Option Bool:=
 (N (f162 t) fun x0=>
 (if (decide (x0=(ByteArray.mk (List.toArray [])))) then
 (some false)
 else (N (f163 x0 (0:Int)) fun x1=>
 (if (((x1).2).2 == (0:Int)) then
 (if (((x1).2).1 == ((ByteArray.size x0):Int)) then
 (some ((x1).1.Kind == t.Kind))
 else (some false))
 else (some false)))))
theorem UO (h:Hy C R) (np:Int) (nm:ByteArray) (nn:Int) :
  C.pureC 131 [PV.agg [I i64 np,PV.str nm,I i64 nn]]=M (fun r=>PV.bool r) (f131 (Token.mk np nm nn)):=by
 rw [aH h.1 (fn:=Tryz.f131) rfl _ rfl rfl rfl]
 simp only [WA,s1,s2,s3,s4,s5,s6,s7,↓reduceIte,ak8,asq,ai0,WG,Tryz.f131,amJ,Wx,amI,MP,UF h,UE h,f131]
def f100 (s:ByteArray):Option Bool:=
 (N (f131 (Token.mk (1:Int) s (0:Int))) fun x0=>
 (some x0))
theorem ib (h:Hy C R) (s:ByteArray) :
  C.pureC 100 [PV.str s]=M (fun r=>PV.bool r) (f100 s):=by
 rw [aH h.1 (fn:=Tryz.f100) rfl _ rfl rfl rfl]
 simp only [WA,s1,s2,s3,s4,s5,s6,s7,↓reduceIte,als,asJ,ajj,nv,Tryz.f100,amS,WG,UO h,f100]
def f92 (n:Int) (low:Int) (high:Int):Option Bool:=
 (if (decide (low≤n)) then
 (some (decide (n≤high)))
 else (some false))
theorem kG (h:Hy C R) (n:Int) (low:Int) (high:Int) :
  C.pureC 92 [I i64 n,I i64 low,I i64 high]=M (fun r=>PV.bool r) (f92 n low high):=by
 rw [aH h.1 (fn:=Tryz.f92) rfl _ rfl rfl rfl]
 simp only [WA,s1,s2,s3,s4,s5,s6,s7,↓reduceIte,nt92,co92,re92,uL,Tryz.f92,f92]
def iY (l:List ByteArray) (i_0:Int) (k0:Int→Option Int):Nat→Int→Option Int
 | 0,_=>none
 | m2+1,k_3=>
 (if (decide (k_3<i_0)) then
 (N (at? l k_3) fun x4=>
 (N (at? l i_0) fun x5=>
 (if (decide (x4=x5)) then
 (some (5:Int))
 else (iY l i_0 k0 m2 (w64 (k_3+(1:Int)))))))
 else (k0 (w64 (i_0+(1:Int)))))
def iZ (l:List ByteArray):Nat→Int→Option Int
 | 0,_=>none
 | m0+1,i_0=>
 (if (decide (i_0<(((List.length l):Nat):Int))) then
 (N (at? l i_0) fun x1=>
 (N (f100 x1) fun x2=>
 (if (!x2) then
 (some (2:Int))
 else (iY l i_0 (iZ l m0) ax (0:Int)))))
 else (some (0:Int)))
def f132 (l:List ByteArray):Option Int:=
 (if (decide ((20:Int)<(((List.length l):Nat):Int))) then
 (some (3:Int))
 else (iZ l ax (0:Int)))
theorem Ff (h:Hy C R) {l:List ByteArray} {i_0:Int} {m0:Nat} {k0:Int→Option Int} (hk0:∀ (z1:Int),lp (bw E 132 C) [(Fr.blk 0),(Fr.seq 0 [1,1,1])] 0 [0,0,1,0,1,1] m0 ⟨[L (rows (l)) fl0,u,u,I i64 z1,u,u,u,u,u,u,u,u,u,u,u,u,u,u,u,u,u,u,u,u,u,u,u,u,u,u,u,u,u,u],[],0⟩=M (fun r=>I i64 r) (k0 z1)) :
  ∀ (m2:Nat) (k_3:Int),lp (bw E 132 C) [(Fr.blk 2),(Fr.blk 1),(Fr.seq 0 [1,1,0,0,1,0,1,1]),(Fr.loop 0 [0,0,1,0,1,1] m0),(Fr.blk 0),(Fr.seq 0 [1,1,1])] 2 [0,0,1,1,0,0,1,0,0,1,0,1,1] m2 ⟨[L (rows (l)) fl0,u,u,I i64 (i_0),I i64 k_3,u,u,u,u,u,u,u,u,u,u,u,u,u,u,u,u,u,u,u,u,u,u,u,u,u,u,u,u,u],[],0⟩=M (fun r=>I i64 r) (iY l i_0 k0 m2 k_3):=by
 intro m2
 induction m2 with
 | zero=>intros;rw [bk];rfl
 | succ m2 ih=>
  intro k_3
  rw [bm]
  simp only [WA,s1,s2,s3,s4,s5,s6,s7,↓reduceIte,NI,QE,Nf,GG,Tryz.f132,zx,zw,vm,pf,nv,ib h,iY,ih,hk0]
theorem Fg (h:Hy C R) {l:List ByteArray} :
  ∀ (m0:Nat) (i_0:Int),lp (bw E 132 C) [(Fr.blk 0),(Fr.seq 0 [1,1,1])] 0 [0,0,1,0,1,1] m0 ⟨[L (rows (l)) fl0,u,u,I i64 i_0,u,u,u,u,u,u,u,u,u,u,u,u,u,u,u,u,u,u,u,u,u,u,u,u,u,u,u,u,u,u],[],0⟩=M (fun r=>I i64 r) (iZ l m0 i_0):=by
 intro m0
 induction m0 with
 | zero=>intros;rw [bk];rfl
 | succ m0 ih=>
  intro i_0
  rw [bm]
  simp only [WA,s1,s2,s3,s4,s5,s6,s7,↓reduceIte,NI,QE,Nf,GG,Tryz.f132,zx,zw,vm,pf,nv,ib h,iZ,ih,Ff h ih]
theorem UM (h:Hy C R) (l:List ByteArray) :
  C.pureC 132 [L (rows l) fl0]=M (fun r=>I i64 r) (f132 l):=by
 rw [aH h.1 (fn:=Tryz.f132) rfl _ rfl rfl rfl]
 simp only [WA,s1,s2,s3,s4,s5,s6,s7,↓reduceIte,NI,QE,Nf,GG,Tryz.f132,zx,zw,vm,pf,nv,ib h,f132,Fg h]
def f102 (a:Attr):Option Int:=
 (if ((((List.length a.Names):Nat):Int) == (0:Int)) then
 (N (f92 a.Low (-(1000000:Int)) (1000000:Int)) fun x0=>
 (if (!x0) then
 (some (6:Int))
 else (N (f92 a.High a.Low (1000000:Int)) fun x1=>
 (if (!x1) then
 (some (6:Int))
 else (some (0:Int))))))
 else (N (f132 a.Names) fun x2=>
 (if (!(x2 == (0:Int))) then
 (some x2)
 else (if (!(a.Low == (0:Int))) then
 (some (6:Int))
 else (if (!(a.High == (w64 ((((List.length a.Names):Nat):Int) - (1:Int))))) then
 (some (6:Int))
 else (some (0:Int)))))))
theorem tU (h:Hy C R) (Q8:ByteArray) (Z9:Int) (Q9:Int) (IZ:List ByteArray) :
  C.pureC 102 [PV.agg [PV.str Q8,I i64 Z9,I i64 Q9,L (rows IZ) fl0]]=M (fun r=>I i64 r) (f102 (Attr.mk Q8 Z9 Q9 IZ)):=by
 rw [aH h.1 (fn:=Tryz.f102) rfl _ rfl rfl rfl]
 simp only [WA,s1,s2,s3,s4,s5,s6,s7,↓reduceIte,alq,asH,ajh,Bi,Tryz.f102,xa,uL,amR,GG,kG h,UM h,f102]
def lY (x5:List Attr) (k_6:Int) (k2:Int→Option Int):Nat→Int→Option Int
 | 0,_=>none
 | m4+1,j_9=>
 (if (decide (j_9<k_6)) then
 (if ((decide ((0:Int)≤j_9))&&(decide (j_9<(((List.length x5):Nat):Int)))) then
 (N (x5[(Int.toNat j_9)]?) fun x10=>
 (if ((decide ((0:Int)≤k_6))&&(decide (k_6<(((List.length x5):Nat):Int)))) then
 (N (x5[(Int.toNat k_6)]?) fun x11=>
 (if (decide (x10.Name=x11.Name)) then
 (some (5:Int))
 else (lY x5 k_6 k2 m4 (w64 (j_9+(1:Int))))))
 else none))
 else none)
 else (if ((decide ((0:Int)≤k_6))&&(decide (k_6<(((List.length x5):Nat):Int)))) then
 (N (x5[(Int.toNat k_6)]?) fun x12=>
 (N (f102 x12) fun x13=>
 (if (!(x13 == (0:Int))) then
 (some x13)
 else (k2 (w64 (k_6+(1:Int)))))))
 else none))
def kH (x5:List Attr):Nat→Int→Option Int
 | 0,_=>none
 | m2+1,k_6=>
 (if (decide (k_6<(((List.length x5):Nat):Int))) then
 (if ((decide ((0:Int)≤k_6))&&(decide (k_6<(((List.length x5):Nat):Int)))) then
 (N (x5[(Int.toNat k_6)]?) fun x7=>
 (N (f100 x7.Name) fun x8=>
 (if (!x8) then
 (some (2:Int))
 else (lY x5 k_6 (kH x5 m2) ax (0:Int)))))
 else none)
 else (some (0:Int)))
def lZ (R:bI) (t:Types) (i:Int) (x0:aE):Nat→Int→Option Int
 | 0,_=>none
 | m0+1,k_2=>
 (if (decide (k_2<i)) then
 (N (at? t.Nodes k_2) fun x3=>
 (if (decide (x3.Name=x0.Name)) then
 (some (5:Int))
 else (lZ R t i x0 m0 (w64 (k_2+(1:Int))))))
 else (N (f92 x0.Parent (-(1:Int)) (w64 (i - (1:Int)))) fun x4=>
 (if (!x4) then
 (some (6:Int))
 else (N (bI.f101 R t i) fun x5=>
 (if (decide ((4:Int)<(((List.length x0.Attrs):Nat):Int))) then
 (some (3:Int))
 else (if (decide ((8:Int)<(((List.length x5):Nat):Int))) then
 (some (3:Int))
 else (kH x5 ax (w64 ((((List.length x5):Nat):Int) - (((List.length x0.Attrs):Nat):Int))))))))))
def f68 (R:bI) (t:Types) (i:Int):Option Int:=
 (N (at? t.Nodes i) fun x0=>
 (N (f100 x0.Name) fun x1=>
 (if (!x1) then
 (some (2:Int))
 else (lZ R t i x0 ax (0:Int)))))
theorem KB (h:Hy C R) {x5:List Attr} {k_6:Int} {m2:Nat} {k2:Int→Option Int} (hk2:∀ (z1:Int),lp (bw E 68 C) [(Fr.blk 2),(Fr.seq 0 [1,1,1,1,1,1,1,1])] 2 [0,0,1,0,1,1,1,1,1,1,1] m2 ⟨[u,u,u,u,u,u,u,PV.own 0 4 0 (List.length x5),I i64 z1,u,u,u,u,u,u,u,u,u,u,u,u,u,u,u,u,u,u,u,u,u,u,u,u,u,u,u,u,u,u,u,u,u,u,u,u,u,u,u,u,u,u,u,u,u,u,u,u,u,u,u,u,u,u,u,u,u,u,u,u,u,u,u,u,u,u,u,u,u,u,u,u,u,u,u,u,u,u,u,u,u,u,u,u,u,u],[(0,Y 4 (rows (x5)) false false)],1⟩=M (fun r=>I i64 r) (k2 z1)) :
  ∀ (m4:Nat) (j_9:Int),lp (bw E 68 C) [(Fr.blk 4),(Fr.seq 3 [1,1,0,0,1,0,0,1,0,1,1,1,1,1,1,1]),(Fr.blk 3),(Fr.seq 2 [1,1,0,0,1,0,1,1,1,1,1,1,1]),(Fr.loop 2 [0,0,1,0,1,1,1,1,1,1,1] m2),(Fr.blk 2),(Fr.seq 0 [1,1,1,1,1,1,1,1])] 4 [0,0,1,0,1,0,0,1,0,0,1,0,1,1,1,1,1,1,1] m4 ⟨[u,u,u,u,u,u,u,PV.own 0 4 0 (List.length x5),I i64 (k_6),I i64 j_9,u,u,u,u,u,u,u,u,u,u,u,u,u,u,u,u,u,u,u,u,u,u,u,u,u,u,u,u,u,u,u,u,u,u,u,u,u,u,u,u,u,u,u,u,u,u,u,u,u,u,u,u,u,u,u,u,u,u,u,u,u,u,u,u,u,u,u,u,u,u,u,u,u,u,u,u,u,u,u,u,u,u,u,u,u],[(0,Y 4 (rows (x5)) false false)],1⟩=M (fun r=>I i64 r) (lY x5 k_6 k2 m4 j_9):=by
 intro m4
 induction m4 with
 | zero=>intros;rw [bk];rfl
 | succ m4 ih=>
  intro j_9
  rw [bm]
  simp only [WA,s1,s2,s3,s4,s5,s6,s7,↓reduceIte,SZ,Vm,Sy,C7,Tryz.f68,zi,zh,zg,yO,tD,xa,uL,pf,nv,vO,uS,H8,Bi,h.2.f101,ib h,kG h,tU h,lY,ih,hk2]
theorem KC (h:Hy C R) {x5:List Attr} :
  ∀ (m2:Nat) (k_6:Int),lp (bw E 68 C) [(Fr.blk 2),(Fr.seq 0 [1,1,1,1,1,1,1,1])] 2 [0,0,1,0,1,1,1,1,1,1,1] m2 ⟨[u,u,u,u,u,u,u,PV.own 0 4 0 (List.length x5),I i64 k_6,u,u,u,u,u,u,u,u,u,u,u,u,u,u,u,u,u,u,u,u,u,u,u,u,u,u,u,u,u,u,u,u,u,u,u,u,u,u,u,u,u,u,u,u,u,u,u,u,u,u,u,u,u,u,u,u,u,u,u,u,u,u,u,u,u,u,u,u,u,u,u,u,u,u,u,u,u,u,u,u,u,u,u,u,u,u],[(0,Y 4 (rows (x5)) false false)],1⟩=M (fun r=>I i64 r) (kH x5 m2 k_6):=by
 intro m2
 induction m2 with
 | zero=>intros;rw [bk];rfl
 | succ m2 ih=>
  intro k_6
  rw [bm]
  simp only [WA,s1,s2,s3,s4,s5,s6,s7,↓reduceIte,SZ,Vm,Sy,C7,Tryz.f68,zi,zh,zg,yO,tD,xa,uL,pf,nv,vO,uS,H8,Bi,h.2.f101,ib h,kG h,tU h,kH,ih,KB h ih]
theorem KD (h:Hy C R) {t_Nodes:List aE} {t_Edges:List aG} {i:Int} {x0:aE} :
  ∀ (m0:Nat) (k_2:Int),lp (bw E 68 C) [(Fr.blk 0),(Fr.seq 0 [1,1,1,1])] 0 [0,0,1,0,1,1,1] m0 ⟨[u,I i64 (i),(PV.ptr 0 0),u,u,(PV.ptr 1 0),I i64 k_2,u,u,u,u,u,u,u,u,u,u,u,u,u,u,u,u,u,u,u,u,u,u,u,u,u,u,u,u,u,u,u,u,u,u,u,u,u,u,u,u,u,u,u,u,u,u,u,u,u,u,u,u,u,u,u,u,u,u,u,u,u,u,u,u,u,u,u,u,u,u,u,u,u,u,u,u,u,u,u,u,u,u,u,u,u,u,u,u],[(0,X [L (rows (t_Nodes)) fl0,L (rows (t_Edges)) fl0]),(1,X [PV.str (x0.Name),I i64 (x0.Parent),PV.bool (x0.Abstract),L (rows (x0.Attrs)) (Fl.mk false false)])],2⟩=M (fun r=>I i64 r) (lZ R (Types.mk t_Nodes t_Edges) i x0 m0 k_2):=by
 intro m0
 induction m0 with
 | zero=>intros;rw [bk];rfl
 | succ m0 ih=>
  intro k_2
  rw [bm]
  simp only [WA,s1,s2,s3,s4,s5,s6,s7,↓reduceIte,SZ,Vm,Sy,C7,Tryz.f68,zi,zh,zg,yO,tD,xa,uL,pf,nv,vO,uS,H8,Bi,h.2.f101,ib h,kG h,tU h,lZ,ih,KC h]
theorem Ee (h:Hy C R) (t_Nodes:List aE) (t_Edges:List aG) (i:Int) :
  C.pureC 68 [PV.agg [L (rows t_Nodes) fl0,L (rows t_Edges) fl0],I i64 i]=M (fun r=>I i64 r) (f68 R (Types.mk t_Nodes t_Edges) i):=by
 rw [aH h.1 (fn:=Tryz.f68) rfl _ rfl rfl rfl]
 simp only [WA,s1,s2,s3,s4,s5,s6,s7,↓reduceIte,SZ,Vm,Sy,C7,Tryz.f68,zi,zh,zg,yO,tD,xa,uL,pf,nv,vO,uS,H8,Bi,h.2.f101,ib h,kG h,tU h,f68,KD h]
def f103 (low:Int) (high:Int):Option Bool:=
 (N (f92 low (0:Int) (40:Int)) fun x0=>
 (if x0 then
 (if (high == (-(1:Int))) then
 (some true)
 else (N (f92 high low (40:Int)) fun x1=>
 (some x1)))
 else (some false)))
theorem IQ (h:Hy C R) (low:Int) (high:Int) :
  C.pureC 103 [I i64 low,I i64 high]=M (fun r=>PV.bool r) (f103 low high):=by
 rw [aH h.1 (fn:=Tryz.f103) rfl _ rfl rfl rfl]
 simp only [WA,s1,s2,s3,s4,s5,s6,s7,↓reduceIte,alp,asG,ajg,M1,Tryz.f103,xa,uL,kG h,f103]
def lX (t:Types) (i:Int) (x0:aG):Nat→Int→Option Int
 | 0,_=>none
 | m0+1,k_2=>
 (if (decide (k_2<i)) then
 (N (at? t.Edges k_2) fun x3=>
 (if (decide (x3.Name=x0.Name)) then
 (some (5:Int))
 else (lX t i x0 m0 (w64 (k_2+(1:Int))))))
 else (N (f92 x0.From (0:Int) (w64 ((((List.length t.Nodes):Nat):Int) - (1:Int)))) fun x4=>
 (if (!x4) then
 (some (6:Int))
 else (N (f92 x0.To (0:Int) (w64 ((((List.length t.Nodes):Nat):Int) - (1:Int)))) fun x5=>
 (if (!x5) then
 (some (6:Int))
 else (N (f103 x0.OutLow x0.OutHigh) fun x6=>
 (if (!x6) then
 (some (6:Int))
 else (N (f103 x0.InLow x0.InHigh) fun x7=>
 (if (!x7) then
 (some (6:Int))
 else (some (0:Int)))))))))))
def f69 (t:Types) (i:Int):Option Int:=
 (N (at? t.Edges i) fun x0=>
 (N (f100 x0.Name) fun x1=>
 (if (!x1) then
 (some (2:Int))
 else (lX t i x0 ax (0:Int)))))
theorem KA (h:Hy C R) {t_Nodes:List aE} {t_Edges:List aG} {i:Int} {x0:aG} :
  ∀ (m0:Nat) (k_2:Int),lp (bw E 69 C) [(Fr.blk 0),(Fr.seq 0 [1,1,1,1])] 0 [0,0,1,0,1,1,1] m0 ⟨[u,I i64 (i),(PV.ptr 0 0),u,u,(PV.ptr 1 0),I i64 k_2,u,u,u,u,u,u,u,u,u,u,u,u,u,u,u,u,u,u,u,u,u,u,u,u,u,u,u,u,u,u,u,u,u,u,u,u,u,u,u,u,u,u,u,u,u,u,u,u,u,u,u,u,u,u,u,u],[(0,X [L (rows (t_Nodes)) fl0,L (rows (t_Edges)) fl0]),(1,X [PV.str (x0.Name),I i64 (x0.From),I i64 (x0.To),I i64 (x0.OutLow),I i64 (x0.OutHigh),I i64 (x0.InLow),I i64 (x0.InHigh)])],2⟩=M (fun r=>I i64 r) (lX (Types.mk t_Nodes t_Edges) i x0 m0 k_2):=by
 intro m0
 induction m0 with
 | zero=>intros;rw [bk];rfl
 | succ m0 ih=>
  intro k_2
  rw [bm]
  simp only [WA,s1,s2,s3,s4,s5,s6,s7,↓reduceIte,ajR,aq4,ahI,Mi,Tryz.f69,Of,Nw,xa,uL,pf,nv,Zb,M1,kG h,ib h,IQ h,lX,ih]
theorem Ed (h:Hy C R) (t_Nodes:List aE) (t_Edges:List aG) (i:Int) :
  C.pureC 69 [PV.agg [L (rows t_Nodes) fl0,L (rows t_Edges) fl0],I i64 i]=M (fun r=>I i64 r) (f69 (Types.mk t_Nodes t_Edges) i):=by
 rw [aH h.1 (fn:=Tryz.f69) rfl _ rfl rfl rfl]
 simp only [WA,s1,s2,s3,s4,s5,s6,s7,↓reduceIte,ajR,aq4,ahI,Mi,Tryz.f69,Of,Nw,xa,uL,pf,nv,Zb,M1,kG h,ib h,IQ h,f69,KA h]
def l9 (t:Types):Nat→Int→Option (ByteArray × Int)
 | 0,_=>none
 | m2+1,i_3=>
 (if (decide (i_3<(((List.length t.Edges):Nat):Int))) then
 (N (f69 t i_3) fun x4=>
 (if (!(x4 == (0:Int))) then
 (N (at? t.Edges i_3) fun x5=>
 (some (x5.Name,x4)))
 else (l9 t m2 (w64 (i_3+(1:Int))))))
 else (some ((ByteArray.mk (List.toArray [])),(0:Int))))
def nX (R:bI) (t:Types):Nat→Int→Option (ByteArray × Int)
 | 0,_=>none
 | m0+1,i_0=>
 (if (decide (i_0<(((List.length t.Nodes):Nat):Int))) then
 (N (f68 R t i_0) fun x1=>
 (if (!(x1 == (0:Int))) then
 (N (at? t.Nodes i_0) fun x2=>
 (some (x2.Name,x1)))
 else (nX R t m0 (w64 (i_0+(1:Int))))))
 else (l9 t ax (0:Int)))
def f44 (R:bI) (t:Types):Option (ByteArray × Int):=
 (if ((((List.length t.Nodes):Nat):Int) == (0:Int)) then
 (some ((ByteArray.mk (List.toArray [])),(7:Int)))
 else (if (decide ((12:Int)<(((List.length t.Nodes):Nat):Int))) then
 (some ((ByteArray.mk (List.toArray [])),(3:Int)))
 else (if (decide ((20:Int)<(((List.length t.Edges):Nat):Int))) then
 (some ((ByteArray.mk (List.toArray [])),(3:Int)))
 else (nX R t ax (0:Int)))))
theorem KQ (h:Hy C R) {t_Nodes:List aE} {t_Edges:List aG} :
  ∀ (m2:Nat) (i_3:Int),lp (bw E 44 C) [(Fr.blk 2),(Fr.seq 0 [1,1,1,1,1])] 2 [0,0,1,0,1,1,1,1] m2 ⟨[u,(PV.ptr 0 0),u,u,u,u,I i64 i_3,u,u,u,u,u,u,u,u,u,u,u,u,u,u,u,u,u,u,u,u,u,u,u,u,u,u,u,u,u,u,u,u,u,u,u,u,u,u,u,u,u,u,u,u,u,u,u,u,u,u,u,u,u],[(0,X [L (rows (t_Nodes)) fl0,L (rows (t_Edges)) fl0])],1⟩=M (fun r=>PV.tup [PV.str r.1,I i64 r.2]) (l9 (Types.mk t_Nodes t_Edges) m2 i_3):=by
 intro m2
 induction m2 with
 | zero=>intros;rw [bk];rfl
 | succ m2 ih=>
  intro i_3
  rw [bm]
  simp only [WA,s1,s2,s3,s4,s5,s6,s7,↓reduceIte,ach,afa,abM,pt,Tryz.f44,DH,DG,adb,C7,ada,Mi,Ee h,Ed h,l9,ih]
theorem KR (h:Hy C R) {t_Nodes:List aE} {t_Edges:List aG} :
  ∀ (m0:Nat) (i_0:Int),lp (bw E 44 C) [(Fr.blk 0),(Fr.seq 0 [1,1,1,1])] 0 [0,0,1,0,1,1,1] m0 ⟨[u,(PV.ptr 0 0),u,u,I i64 i_0,u,u,u,u,u,u,u,u,u,u,u,u,u,u,u,u,u,u,u,u,u,u,u,u,u,u,u,u,u,u,u,u,u,u,u,u,u,u,u,u,u,u,u,u,u,u,u,u,u,u,u,u,u,u,u],[(0,X [L (rows (t_Nodes)) fl0,L (rows (t_Edges)) fl0])],1⟩=M (fun r=>PV.tup [PV.str r.1,I i64 r.2]) (nX R (Types.mk t_Nodes t_Edges) m0 i_0):=by
 intro m0
 induction m0 with
 | zero=>intros;rw [bk];rfl
 | succ m0 ih=>
  intro i_0
  rw [bm]
  simp only [WA,s1,s2,s3,s4,s5,s6,s7,↓reduceIte,ach,afa,abM,pt,Tryz.f44,DH,DG,adb,C7,ada,Mi,Ee h,Ed h,nX,ih,KQ h]
theorem iD (h:Hy C R) (t_Nodes:List aE) (t_Edges:List aG) :
  C.pureC 44 [PV.agg [L (rows t_Nodes) fl0,L (rows t_Edges) fl0]]=M (fun r=>PV.tup [PV.str r.1,I i64 r.2]) (f44 R (Types.mk t_Nodes t_Edges)):=by
 rw [aH h.1 (fn:=Tryz.f44) rfl _ rfl rfl rfl]
 simp only [WA,s1,s2,s3,s4,s5,s6,s7,↓reduceIte,ach,afa,abM,pt,Tryz.f44,DH,DG,adb,C7,ada,Mi,Ee h,Ed h,f44,KR h]
def f89 (n:Int):Option Bool:=
 (if (decide ((0:Int)≤n)) then
 (some (decide (n≤(99:Int))))
 else (some false))
theorem zT (h:Hy C R) (n:Int) :
  C.pureC 89 [I i64 n]=M (fun r=>PV.bool r) (f89 n):=by
 rw [aH h.1 (fn:=Tryz.f89) rfl _ rfl rfl rfl]
 simp only [WA,s1,s2,s3,s4,s5,s6,s7,↓reduceIte,nt89,co89,re89,Mg,Tryz.f89,f89]
def f90 (e:Edge) (nodes:Int):Option Bool:=
 (N (f89 e.Type_) fun x0=>
 (if x0 then
 (if (decide ((0:Int)≤e.From)) then
 (if (decide (e.From<nodes)) then
 (if (decide ((0:Int)≤e.To)) then
 (some (decide (e.To<nodes)))
 else (some false))
 else (some false))
 else (some false))
 else (some false)))
theorem Ec (h:Hy C R) (kz:Int) (om:Int) (Cp:Int) (nodes:Int) :
  C.pureC 90 [PV.agg [I i64 kz,I i64 om,I i64 Cp],I i64 nodes]=M (fun r=>PV.bool r) (f90 (Edge.mk kz om Cp) nodes):=by
 rw [aH h.1 (fn:=Tryz.f90) rfl _ rfl rfl rfl]
 simp only [WA,s1,s2,s3,s4,s5,s6,s7,↓reduceIte,nt90,co90,re90,Sh,Tryz.f90,Tw,Mg,zT h,f90]
def kI (g:Graph):Nat→Int→Option Int
 | 0,_=>none
 | m2+1,i_3=>
 (if (decide (i_3<(((List.length g.Edges):Nat):Int))) then
 (N (at? g.Edges i_3) fun x4=>
 (N (f90 x4 (((List.length g.Nodes):Nat):Int)) fun x5=>
 (if (!x5) then
 (some (6:Int))
 else (kI g m2 (w64 (i_3+(1:Int)))))))
 else (some (0:Int)))
def nS (g:Graph):Nat→Int→Option Int
 | 0,_=>none
 | m0+1,i_0=>
 (if (decide (i_0<(((List.length g.Nodes):Nat):Int))) then
 (N (at? g.Nodes i_0) fun x1=>
 (N (f89 x1) fun x2=>
 (if (!x2) then
 (some (6:Int))
 else (nS g m0 (w64 (i_0+(1:Int)))))))
 else (kI g ax (0:Int)))
def f57 (g:Graph):Option Int:=
 (if (decide ((40:Int)<(((List.length g.Nodes):Nat):Int))) then
 (some (3:Int))
 else (if (decide ((80:Int)<(((List.length g.Edges):Nat):Int))) then
 (some (3:Int))
 else (nS g ax (0:Int))))
theorem KF (h:Hy C R) {g_Nodes:List Int} {g_Edges:List Edge} :
  ∀ (m2:Nat) (i_3:Int),lp (bw E 57 C) [(Fr.blk 2),(Fr.seq 0 [1,1,1,1])] 2 [0,0,1,0,1,1,1] m2 ⟨[u,(PV.ptr 0 0),u,u,I i64 i_3,u,u,u,u,u,u,u,u,u,u,u,u,u,u,u,u,u,u,u,u,u,u,u,u,u,u,u,u,u,u,u,u,u,u,u,u,u,u,u,u,u],[(0,X [L (rows (g_Nodes)) fl0,L (rows (g_Edges)) fl0])],1⟩=M (fun r=>I i64 r) (kI (Graph.mk g_Nodes g_Edges) m2 i_3):=by
 intro m2
 induction m2 with
 | zero=>intros;rw [bk];rfl
 | succ m2 ih=>
  intro i_3
  rw [bm]
  simp only [WA,s1,s2,s3,s4,s5,s6,s7,↓reduceIte,acf,ae8,abK,th,Tryz.f57,DD,DC,yP,Tw,Mg,ac8,Sh,zT h,Ec h,kI,ih]
theorem KG (h:Hy C R) {g_Nodes:List Int} {g_Edges:List Edge} :
  ∀ (m0:Nat) (i_0:Int),lp (bw E 57 C) [(Fr.blk 0),(Fr.seq 0 [1,1,1])] 0 [0,0,1,0,1,1] m0 ⟨[u,(PV.ptr 0 0),u,I i64 i_0,u,u,u,u,u,u,u,u,u,u,u,u,u,u,u,u,u,u,u,u,u,u,u,u,u,u,u,u,u,u,u,u,u,u,u,u,u,u,u,u,u,u],[(0,X [L (rows (g_Nodes)) fl0,L (rows (g_Edges)) fl0])],1⟩=M (fun r=>I i64 r) (nS (Graph.mk g_Nodes g_Edges) m0 i_0):=by
 intro m0
 induction m0 with
 | zero=>intros;rw [bk];rfl
 | succ m0 ih=>
  intro i_0
  rw [bm]
  simp only [WA,s1,s2,s3,s4,s5,s6,s7,↓reduceIte,acf,ae8,abK,th,Tryz.f57,DD,DC,yP,Tw,Mg,ac8,Sh,zT h,Ec h,nS,ih,KF h]
theorem l7 (h:Hy C R) (g_Nodes:List Int) (g_Edges:List Edge) :
  C.pureC 57 [PV.agg [L (rows g_Nodes) fl0,L (rows g_Edges) fl0]]=M (fun r=>I i64 r) (f57 (Graph.mk g_Nodes g_Edges)):=by
 rw [aH h.1 (fn:=Tryz.f57) rfl _ rfl rfl rfl]
 simp only [WA,s1,s2,s3,s4,s5,s6,s7,↓reduceIte,acf,ae8,abK,th,Tryz.f57,DD,DC,yP,Tw,Mg,ac8,Sh,zT h,Ec h,f57,KG h]
def iX (t:Types) (g:Graph):Nat→Int→Option Bool
 | 0,_=>none
 | m2+1,i_3=>
 (if (decide (i_3<(((List.length g.Edges):Nat):Int))) then
 (N (at? g.Edges i_3) fun x4=>
 (if (decide (x4.Type_<(0:Int))) then
 (some false)
 else (N (at? g.Edges i_3) fun x5=>
 (if (decide ((((List.length t.Edges):Nat):Int)≤x5.Type_)) then
 (some false)
 else (iX t g m2 (w64 (i_3+(1:Int))))))))
 else (some true))
def mF (t:Types) (g:Graph):Nat→Int→Option Bool
 | 0,_=>none
 | m0+1,i_0=>
 (if (decide (i_0<(((List.length g.Nodes):Nat):Int))) then
 (N (at? g.Nodes i_0) fun x1=>
 (if (decide (x1<(0:Int))) then
 (some false)
 else (N (at? g.Nodes i_0) fun x2=>
 (if (decide ((((List.length t.Nodes):Nat):Int)≤x2)) then
 (some false)
 else (mF t g m0 (w64 (i_0+(1:Int))))))))
 else (iX t g ax (0:Int)))
def f133 (t:Types) (g:Graph):Option Bool:=
 (mF t g ax (0:Int))
theorem Fc (h:Hy C R) {t_Nodes:List aE} {t_Edges:List aG} {g_Nodes:List Int} {g_Edges:List Edge} :
  ∀ (m2:Nat) (i_3:Int),lp (bw E 133 C) [(Fr.blk 2),(Fr.seq 0 [1,1,1])] 2 [0,0,1,0,1,1] m2 ⟨[u,u,(PV.ptr 0 0),(PV.ptr 1 0),u,u,I i64 i_3,u,u,u,u,u,u,u,u,u,u,u,u,u,u,u,u,u,u,u,u,u,u,u,u,u,u,u,u,u,u,u,u,u,u,u,u,u,u,u,u,u,u,u,u,u,u,u,u,u,u],[(0,X [L (rows (t_Nodes)) fl0,L (rows (t_Edges)) fl0]),(1,X [L (rows (g_Nodes)) fl0,L (rows (g_Edges)) fl0])],2⟩=M (fun r=>PV.bool r) (iX (Types.mk t_Nodes t_Edges) (Graph.mk g_Nodes g_Edges) m2 i_3):=by
 intro m2
 induction m2 with
 | zero=>intros;rw [bk];rfl
 | succ m2 ih=>
  intro i_3
  rw [bm]
  simp only [WA,s1,s2,s3,s4,s5,s6,s7,↓reduceIte,NH,QD,Nd,sH,Tryz.f133,zv,zu,yV,yU,iX,ih]
theorem Fe (h:Hy C R) {t_Nodes:List aE} {t_Edges:List aG} {g_Nodes:List Int} {g_Edges:List Edge} :
  ∀ (m0:Nat) (i_0:Int),lp (bw E 133 C) [(Fr.blk 0),(Fr.seq 0 [1,1])] 0 [0,0,1,0,1] m0 ⟨[u,u,(PV.ptr 0 0),(PV.ptr 1 0),u,I i64 i_0,u,u,u,u,u,u,u,u,u,u,u,u,u,u,u,u,u,u,u,u,u,u,u,u,u,u,u,u,u,u,u,u,u,u,u,u,u,u,u,u,u,u,u,u,u,u,u,u,u,u,u],[(0,X [L (rows (t_Nodes)) fl0,L (rows (t_Edges)) fl0]),(1,X [L (rows (g_Nodes)) fl0,L (rows (g_Edges)) fl0])],2⟩=M (fun r=>PV.bool r) (mF (Types.mk t_Nodes t_Edges) (Graph.mk g_Nodes g_Edges) m0 i_0):=by
 intro m0
 induction m0 with
 | zero=>intros;rw [bk];rfl
 | succ m0 ih=>
  intro i_0
  rw [bm]
  simp only [WA,s1,s2,s3,s4,s5,s6,s7,↓reduceIte,NH,QD,Nd,sH,Tryz.f133,zv,zu,yV,yU,mF,ih,Fc h]
theorem q7 (h:Hy C R) (t_Nodes:List aE) (t_Edges:List aG) (g_Nodes:List Int) (g_Edges:List Edge) :
  C.pureC 133 [PV.agg [L (rows t_Nodes) fl0,L (rows t_Edges) fl0],PV.agg [L (rows g_Nodes) fl0,L (rows g_Edges) fl0]]=M (fun r=>PV.bool r) (f133 (Types.mk t_Nodes t_Edges) (Graph.mk g_Nodes g_Edges)):=by
 rw [aH h.1 (fn:=Tryz.f133) rfl _ rfl rfl rfl]
 simp only [WA,s1,s2,s3,s4,s5,s6,s7,↓reduceIte,NH,QD,Nd,sH,Tryz.f133,zv,zu,yV,yU,f133,Fe h]
def f91 (R:bI) (t:Types) (a:Int) (b:Int):Option Int:=
 (N (f44 R t) fun x0=>
 (if (!((x0).2 == (0:Int))) then
 (some (x0).2)
 else (N (f92 a (0:Int) (w64 ((((List.length t.Nodes):Nat):Int) - (1:Int)))) fun x1=>
 (if (!x1) then
 (some (6:Int))
 else (N (f92 b (0:Int) (w64 ((((List.length t.Nodes):Nat):Int) - (1:Int)))) fun x2=>
 (if (!x2) then
 (some (6:Int))
 else (some (0:Int))))))))
theorem Eb (h:Hy C R) (t_Nodes:List aE) (t_Edges:List aG) (a:Int) (b:Int) :
  C.pureC 91 [PV.agg [L (rows t_Nodes) fl0,L (rows t_Edges) fl0],I i64 a,I i64 b]=M (fun r=>I i64 r) (f91 R (Types.mk t_Nodes t_Edges) a b):=by
 rw [aH h.1 (fn:=Tryz.f91) rfl _ rfl rfl rfl]
 simp only [WA,s1,s2,s3,s4,s5,s6,s7,↓reduceIte,nt91,co91,re91,Sg,Tryz.f91,tk,pt,xa,uL,iD h,kG h,f91]
def kf (x1:List Attr):Nat→(List Attr)→Int→Option ((List Attr) × Int)
 | 0,_,_=>none
 | m0+1,dJ,i_3=>
 (if (decide (i_3<(((List.length x1):Nat):Int))) then
 (if ((decide ((0:Int)≤i_3))&&(decide (i_3<(((List.length x1):Nat):Int)))) then
 (N (x1[(Int.toNat i_3)]?) fun x4=>
 (if (decide ((List.length x4.Names)≤bound)) then
 (if (decide ((List.length (dJ ++ [x4]))≤bound)) then
 (kf x1 m0 (dJ ++ [x4]) (w64 (i_3+(1:Int))))
 else none)
 else none))
 else none)
 else (some (dJ,(0:Int))))
def f164 (R:bI) (t:Types) (a:Int):Option ((List Attr) × Int):=
 (N (f91 R t a a) fun x0=>
 (if (!(x0 == (0:Int))) then
 (some (([]:List Attr),x0))
 else (N (bI.f101 R t a) fun x1=>
 (kf x1 ax ([]:List Attr) (0:Int)))))
theorem EX (h:Hy C R) {x1:List Attr} :
  ∀ (m0:Nat) (dJ:List Attr) (i_3:Int) (jC:Nat),jC=List.length dJ→lp (bw E 164 C) [(Fr.blk 0),(Fr.seq 0 [1,1,1,1,1])] 0 [0,0,1,0,1,1,1,1] m0 ⟨[u,u,u,u,u,u,u,PV.own 0 4 0 jC,PV.own 1 4 0 (List.length x1),I i64 i_3,u,u,u,u,u,u,u,u,u,u,u,u,u,u,u,u,u,u,u,u,u,u,u,u,u,u,u,u,u,u,u],[(0,Y 4 (rows dJ) false false),(1,Y 4 (rows (x1)) false false)],2⟩=M (fun r=>PV.tup [L (rows r.1) ⟨true,false⟩,I i64 r.2]) (kf x1 m0 dJ i_3):=by
 intro m0
 induction m0 with
 | zero=>intros;rw [bk];rfl
 | succ m0 ih=>
  intro dJ i_3 jC vS
  subst vS
  rw [bm]
  simp only [WA,s1,s2,s3,s4,s5,s6,s7,↓reduceIte,Ye,ZV,Xt,A8,Tryz.f164,HD,ac7,Sg,vO,uS,h.2.f101,Eb h,kf,ih]
theorem Ae (h:Hy C R) (t_Nodes:List aE) (t_Edges:List aG) (a:Int) :
  C.pureC 164 [PV.agg [L (rows t_Nodes) fl0,L (rows t_Edges) fl0],I i64 a]=M (fun r=>PV.tup [L (rows r.1) ⟨true,false⟩,I i64 r.2]) (f164 R (Types.mk t_Nodes t_Edges) a):=by
 have dg:=fun (x1:List Attr) (e2:Int)=>EX (C:=C) (R:=R) (x1:=x1) h ax (([]:List Attr)) e2 _ rfl
 simp only [cA,cf,cc,bV,cg,bU,WS,List.length_nil,List.length_cons,Nat.reduceAdd] at dg
 rw [aH h.1 (fn:=Tryz.f164) rfl _ rfl rfl rfl]
 simp only [WA,s1,s2,s3,s4,s5,s6,s7,↓reduceIte,Ye,ZV,Xt,A8,Tryz.f164,HD,ac7,Sg,vO,uS,h.2.f101,Eb h,f164,dg]
def f134 (R:bI) (t:Types) (p:Pattern) (node:Int) (index:Int):Option (Attr × Bool):=
 (if (decide (node<(0:Int))) then
 (some ((Attr.mk (ByteArray.mk (List.toArray [])) (0:Int) (0:Int) ([]:List ByteArray)),false))
 else (if (decide ((((List.length p.Graph.Nodes):Nat):Int)≤node)) then
 (some ((Attr.mk (ByteArray.mk (List.toArray [])) (0:Int) (0:Int) ([]:List ByteArray)),false))
 else (N (at? p.Graph.Nodes node) fun x0=>
 (N (f164 R t x0) fun x1=>
 (if (!((x1).2 == (0:Int))) then
 (some ((Attr.mk (ByteArray.mk (List.toArray [])) (0:Int) (0:Int) ([]:List ByteArray)),false))
 else (if (decide (index<(0:Int))) then
 (some ((Attr.mk (ByteArray.mk (List.toArray [])) (0:Int) (0:Int) ([]:List ByteArray)),false))
 else (if (decide ((((List.length (x1).1):Nat):Int)≤index)) then
 (some ((Attr.mk (ByteArray.mk (List.toArray [])) (0:Int) (0:Int) ([]:List ByteArray)),false))
 else (if ((decide ((0:Int)≤index))&&(decide (index<(((List.length (x1).1):Nat):Int)))) then
 (N ((x1).1[(Int.toNat index)]?) fun x2=>
 (some (x2,true)))
 else none))))))))
theorem Ak (h:Hy C R) (t_Nodes:List aE) (t_Edges:List aG) (bc:List Int) (bd:List Edge) (bC:List Slot) (bK:Int) (bF:List Test) (node:Int) (index:Int) :
  C.pureC 134 [PV.agg [L (rows t_Nodes) fl0,L (rows t_Edges) fl0],PV.agg [L (rows bc) fl0,L (rows bd) fl0,L (rows bC) fl0,I i64 bK,L (rows bF) fl0],I i64 node,I i64 index]=M (fun r=>PV.tup [PV.agg [PV.str r.1.Name,I i64 r.1.Low,I i64 r.1.High,L (rows r.1.Names) ⟨false,false⟩],PV.bool r.2]) (f134 R (Types.mk t_Nodes t_Edges) (Pattern.mk (Graph.mk bc bd) bC bK bF) node index):=by
 rw [aH h.1 (fn:=Tryz.f134) rfl _ rfl rfl rfl]
 simp only [WA,s1,s2,s3,s4,s5,s6,s7,↓reduceIte,ak7,asp,aiZ,GF,Tryz.f134,SP,OY,A8,Ae h,f134]
def f135 (n:Int):Option Bool:=
 (if (decide ((-(1000000:Int))≤n)) then
 (some (decide (n≤(1000000:Int))))
 else (some false))
theorem Aj (h:Hy C R) (n:Int) :
  C.pureC 135 [I i64 n]=M (fun r=>PV.bool r) (f135 n):=by
 rw [aH h.1 (fn:=Tryz.f135) rfl _ rfl rfl rfl]
 simp only [WA,s1,s2,s3,s4,s5,s6,s7,↓reduceIte,ak6,aso,aiY,GD,Tryz.f135,f135]
def f193 (n:Int) (t:Term):Option Int:=
 (if (decide (t.Var<(-(1:Int)))) then
 (some (6:Int))
 else (if (decide (n≤t.Var)) then
 (some (6:Int))
 else (if (decide (t.Add<(-(1000000:Int)))) then
 (some (6:Int))
 else (if (decide ((1000000:Int)<t.Add)) then
 (some (6:Int))
 else (some (0:Int))))))
theorem Uv (h:Hy C R) (n:Int) (AM:Int) (AN:Int) :
  C.pureC 193 [I i64 n,PV.agg [I i64 AM,I i64 AN]]=M (fun r=>I i64 r) (f193 n (Term.mk AM AN)):=by
 rw [aH h.1 (fn:=Tryz.f193) rfl _ rfl rfl rfl]
 simp only [WA,s1,s2,s3,s4,s5,s6,s7,↓reduceIte,akD,arT,aiv,Wr,Tryz.f193,f193]
def f165 (n:Int) (x:Test):Option Int:=
 (if (!(x.Kind == (1:Int))) then
 (if (!(x.Kind == (2:Int))) then
 (some (1:Int))
 else (N (f193 n x.Left) fun x0=>
 (if (!(x0 == (0:Int))) then
 (some x0)
 else (N (f193 n x.Right) fun x1=>
 (some x1)))))
 else (N (f193 n x.Left) fun x2=>
 (if (!(x2 == (0:Int))) then
 (some x2)
 else (N (f193 n x.Right) fun x3=>
 (some x3)))))
theorem IF (h:Hy C R) (n:Int) (ub:Int) (jh:Int) (ji:Int) (ij:Int) (ik:Int) :
  C.pureC 165 [I i64 n,PV.agg [I i64 ub,I i64 jh,I i64 ji,I i64 ij,I i64 ik]]=M (fun r=>I i64 r) (f165 n (Test.mk ub (Term.mk jh ji) (Term.mk ij ik))):=by
 rw [aH h.1 (fn:=Tryz.f165) rfl _ rfl rfl rfl]
 simp only [WA,s1,s2,s3,s4,s5,s6,s7,↓reduceIte,akO,ar4,aiG,MO,Tryz.f165,amw,Wr,Uv h,f165]
def mE (n:Int) (l:List Test):Nat→Int→Option Int
 | 0,_=>none
 | m0+1,i_0=>
 (if (decide (i_0<(((List.length l):Nat):Int))) then
 (N (at? l i_0) fun x1=>
 (N (f165 n x1) fun x2=>
 (if (!(x2 == (0:Int))) then
 (some x2)
 else (mE n l m0 (w64 (i_0+(1:Int)))))))
 else (some (0:Int)))
def f136 (n:Int) (l:List Test):Option Int:=
 (if (decide (n<(0:Int))) then
 (some (6:Int))
 else (if (decide ((12:Int)<n)) then
 (some (6:Int))
 else (if (decide ((40:Int)<(((List.length l):Nat):Int))) then
 (some (3:Int))
 else (mE n l ax (0:Int)))))
theorem Fb (h:Hy C R) {n:Int} {l:List Test} :
  ∀ (m0:Nat) (i_0:Int),lp (bw E 136 C) [(Fr.blk 0),(Fr.seq 0 [1,1,1,1])] 0 [0,0,1,0,1,1,1] m0 ⟨[I i64 (n),L (rows (l)) fl0,u,u,u,I i64 i_0,u,u,u,u,u,u,u,u,u,u,u,u,u,u,u,u,u,u,u,u,u,u,u,u,u],[],0⟩=M (fun r=>I i64 r) (mE n l m0 i_0):=by
 intro m0
 induction m0 with
 | zero=>intros;rw [bk];rfl
 | succ m0 ih=>
  intro i_0
  rw [bm]
  simp only [WA,s1,s2,s3,s4,s5,s6,s7,↓reduceIte,Yl,Z2,XA,Bf,Tryz.f136,HK,Y1,MO,IF h,mE,ih]
theorem Ai (h:Hy C R) (n:Int) (l:List Test) :
  C.pureC 136 [I i64 n,L (rows l) fl0]=M (fun r=>I i64 r) (f136 n l):=by
 rw [aH h.1 (fn:=Tryz.f136) rfl _ rfl rfl rfl]
 simp only [WA,s1,s2,s3,s4,s5,s6,s7,↓reduceIte,Yl,Z2,XA,Bf,Tryz.f136,HK,Y1,MO,IF h,f136,Fb h]
def mD (p:Pattern) (v:Int):Nat→Int→Option Bool
 | 0,_=>none
 | m0+1,i_0=>
 (if (decide (i_0<(((List.length p.Slots):Nat):Int))) then
 (N (at? p.Slots i_0) fun x1=>
 (if (x1.Term.Var == v) then
 (some true)
 else (mD p v m0 (w64 (i_0+(1:Int))))))
 else (some false))
def f137 (p:Pattern) (v:Int):Option Bool:=
 (mD p v ax (0:Int))
theorem Fa (h:Hy C R) {bc:List Int} {bd:List Edge} {bC:List Slot} {bK:Int} {bF:List Test} {v:Int} :
  ∀ (m0:Nat) (i_0:Int),lp (bw E 137 C) [(Fr.blk 0),(Fr.seq 0 [1,1])] 0 [0,0,1,0,1] m0 ⟨[u,I i64 (v),(PV.ptr 0 0),u,u,I i64 i_0,u,u,u,u,u,u,u,u,u,u,u,u,u,u,u,u],[(0,X [L (rows (bc)) fl0,L (rows (bd)) fl0,L (rows (bC)) fl0,I i64 (bK),L (rows (bF)) fl0])],1⟩=M (fun r=>PV.bool r) (mD (Pattern.mk (Graph.mk bc bd) bC bK bF) v m0 i_0):=by
 intro m0
 induction m0 with
 | zero=>intros;rw [bk];rfl
 | succ m0 ih=>
  intro i_0
  rw [bm]
  simp only [WA,s1,s2,s3,s4,s5,s6,s7,↓reduceIte,Yk,Z1,Xz,Be,Tryz.f137,HJ,mD,ih]
theorem Ah (h:Hy C R) (bc:List Int) (bd:List Edge) (bC:List Slot) (bK:Int) (bF:List Test) (v:Int) :
  C.pureC 137 [PV.agg [L (rows bc) fl0,L (rows bd) fl0,L (rows bC) fl0,I i64 bK,L (rows bF) fl0],I i64 v]=M (fun r=>PV.bool r) (f137 (Pattern.mk (Graph.mk bc bd) bC bK bF) v):=by
 rw [aH h.1 (fn:=Tryz.f137) rfl _ rfl rfl rfl]
 simp only [WA,s1,s2,s3,s4,s5,s6,s7,↓reduceIte,Yk,Z1,Xz,Be,Tryz.f137,HJ,f137,Fa h]
def kx (p:Pattern):Nat→Int→Option Int
 | 0,_=>none
 | m2+1,v_8=>
 (if (decide (v_8<p.Vars)) then
 (N (f137 p v_8) fun x9=>
 (if (!x9) then
 (some (9:Int))
 else (kx p m2 (w64 (v_8+(1:Int))))))
 else (some (0:Int)))
def mJ (R:bI) (t:Types) (p:Pattern):Nat→Int→Option Int
 | 0,_=>none
 | m0+1,i_3=>
 (if (decide (i_3<(((List.length p.Slots):Nat):Int))) then
 (N (at? p.Slots i_3) fun x4=>
 (N (f134 R t p x4.Node x4.Attr) fun x5=>
 (if (!(x5).2) then
 (some (6:Int))
 else (if (decide (x4.Term.Var<(-(1:Int)))) then
 (some (6:Int))
 else (if (decide (p.Vars≤x4.Term.Var)) then
 (some (6:Int))
 else (N (f135 x4.Term.Add) fun x6=>
 (if (!x6) then
 (some (6:Int))
 else (mJ R t p m0 (w64 (i_3+(1:Int)))))))))))
 else (N (f136 p.Vars p.Tests) fun x7=>
 (if (!(x7 == (0:Int))) then
 (some x7)
 else (kx p ax (0:Int)))))
def f104 (R:bI) (t:Types) (p:Pattern):Option Int:=
 (N (f44 R t) fun x0=>
 (if (!((x0).2 == (0:Int))) then
 (some (x0).2)
 else (N (f57 p.Graph) fun x1=>
 (if (!(x1 == (0:Int))) then
 (some x1)
 else (N (f133 t p.Graph) fun x2=>
 (if (!x2) then
 (some (13:Int))
 else (if (decide (p.Vars<(0:Int))) then
 (some (6:Int))
 else (if (decide ((12:Int)<p.Vars)) then
 (some (6:Int))
 else (if (decide ((10:Int)<(((List.length p.Slots):Nat):Int))) then
 (some (3:Int))
 else (if (decide ((10:Int)<(((List.length p.Tests):Nat):Int))) then
 (some (3:Int))
 else (mJ R t p ax (0:Int))))))))))))
theorem Fu (h:Hy C R) {bc:List Int} {bd:List Edge} {bC:List Slot} {bK:Int} {bF:List Test} :
  ∀ (m2:Nat) (v_8:Int),lp (bw E 104 C) [(Fr.blk 2),(Fr.seq 0 [1,1,1,1,1,1,1,1,1])] 2 [0,0,1,0,1,1,1,1,1,1,1,1] m2 ⟨[u,u,u,(PV.ptr 0 0),u,u,u,u,u,u,u,u,u,I i64 v_8,u,u,u,u,u,u,u,u,u,u,u,u,u,u,u,u,u,u,u,u,u,u,u,u,u,u,u,u,u,u,u,u,u,u,u,u,u,u,u,u,u,u,u,u,u,u,u,u,u,u,u,u,u,u,u,u,u,u,u,u,u,u,u,u,u,u,u,u,u,u,u,u,u,u,u,u,u,u,u,u,u,u,u,u,u,u,u,u,u,u,u,u,u,u,u,u,u,u,u,u],[(0,X [L (rows (bc)) fl0,L (rows (bd)) fl0,L (rows (bC)) fl0,I i64 (bK),L (rows (bF)) fl0])],1⟩=M (fun r=>I i64 r) (kx (Pattern.mk (Graph.mk bc bd) bC bK bF) m2 v_8):=by
 intro m2
 induction m2 with
 | zero=>intros;rw [bk];rfl
 | succ m2 ih=>
  intro v_8
  rw [bm]
  simp only [WA,s1,s2,s3,s4,s5,s6,s7,↓reduceIte,NN,QJ,Nk,uR,Tryz.f104,zG,zF,tk,pt,zI,th,BN,sH,O7,GF,O6,GD,O5,Bf,O4,Be,iD h,l7 h,q7 h,Ak h,Aj h,Ai h,Ah h,kx,ih]
theorem Fv (h:Hy C R) {t_Nodes:List aE} {t_Edges:List aG} {bc:List Int} {bd:List Edge} {bC:List Slot} {bK:Int} {bF:List Test} :
  ∀ (m0:Nat) (i_3:Int),lp (bw E 104 C) [(Fr.blk 0),(Fr.seq 0 [1,1,1,1,1,1,1])] 0 [0,0,1,0,1,1,1,1,1,1] m0 ⟨[u,u,(PV.ptr 0 0),(PV.ptr 1 0),u,u,u,u,I i64 i_3,u,u,u,u,u,u,u,u,u,u,u,u,u,u,u,u,u,u,u,u,u,u,u,u,u,u,u,u,u,u,u,u,u,u,u,u,u,u,u,u,u,u,u,u,u,u,u,u,u,u,u,u,u,u,u,u,u,u,u,u,u,u,u,u,u,u,u,u,u,u,u,u,u,u,u,u,u,u,u,u,u,u,u,u,u,u,u,u,u,u,u,u,u,u,u,u,u,u,u,u,u,u,u,u,u],[(0,X [L (rows (t_Nodes)) fl0,L (rows (t_Edges)) fl0]),(1,X [L (rows (bc)) fl0,L (rows (bd)) fl0,L (rows (bC)) fl0,I i64 (bK),L (rows (bF)) fl0])],2⟩=M (fun r=>I i64 r) (mJ R (Types.mk t_Nodes t_Edges) (Pattern.mk (Graph.mk bc bd) bC bK bF) m0 i_3):=by
 intro m0
 induction m0 with
 | zero=>intros;rw [bk];rfl
 | succ m0 ih=>
  intro i_3
  rw [bm]
  simp only [WA,s1,s2,s3,s4,s5,s6,s7,↓reduceIte,NN,QJ,Nk,uR,Tryz.f104,zG,zF,tk,pt,zI,th,BN,sH,O7,GF,O6,GD,O5,Bf,O4,Be,iD h,l7 h,q7 h,Ak h,Aj h,Ai h,Ah h,mJ,ih,Fu h]
theorem tT (h:Hy C R) (t_Nodes:List aE) (t_Edges:List aG) (bc:List Int) (bd:List Edge) (bC:List Slot) (bK:Int) (bF:List Test) :
  C.pureC 104 [PV.agg [L (rows t_Nodes) fl0,L (rows t_Edges) fl0],PV.agg [L (rows bc) fl0,L (rows bd) fl0,L (rows bC) fl0,I i64 bK,L (rows bF) fl0]]=M (fun r=>I i64 r) (f104 R (Types.mk t_Nodes t_Edges) (Pattern.mk (Graph.mk bc bd) bC bK bF)):=by
 rw [aH h.1 (fn:=Tryz.f104) rfl _ rfl rfl rfl]
 simp only [WA,s1,s2,s3,s4,s5,s6,s7,↓reduceIte,NN,QJ,Nk,uR,Tryz.f104,zG,zF,tk,pt,zI,th,BN,sH,O7,GF,O6,GD,O5,Bf,O4,Be,iD h,l7 h,q7 h,Ak h,Aj h,Ai h,Ah h,f104,Fv h]
def mm (p:Pattern) (v:Int):Nat→Int→Option Bool
 | 0,_=>none
 | m0+1,i_0=>
 (if (decide (i_0<(((List.length p.Slots):Nat):Int))) then
 (N (at? p.Slots i_0) fun x1=>
 (if (x1.Term.Var == v) then
 (some true)
 else (mm p v m0 (w64 (i_0+(1:Int))))))
 else (some false))
def f197 (p:Pattern) (v:Int):Option Bool:=
 (mm p v ax (0:Int))
theorem EG (h:Hy C R) {bc:List Int} {bd:List Edge} {bC:List Slot} {bK:Int} {bF:List Test} {v:Int} :
  ∀ (m0:Nat) (i_0:Int),lp (bw E 197 C) [(Fr.blk 0),(Fr.seq 0 [1,1])] 0 [0,0,1,0,1] m0 ⟨[u,I i64 (v),(PV.ptr 0 0),u,u,I i64 i_0,u,u,u,u,u,u,u,u,u,u,u,u,u,u,u,u],[(0,X [L (rows (bc)) fl0,L (rows (bd)) fl0,L (rows (bC)) fl0,I i64 (bK),L (rows (bF)) fl0])],1⟩=M (fun r=>PV.bool r) (mm (Pattern.mk (Graph.mk bc bd) bC bK bF) v m0 i_0):=by
 intro m0
 induction m0 with
 | zero=>intros;rw [bk];rfl
 | succ m0 ih=>
  intro i_0
  rw [bm]
  simp only [WA,s1,s2,s3,s4,s5,s6,s7,↓reduceIte,XV,ZC,Xa,Gm,Tryz.f197,Hj,mm,ih]
theorem It (h:Hy C R) (bc:List Int) (bd:List Edge) (bC:List Slot) (bK:Int) (bF:List Test) (v:Int) :
  C.pureC 197 [PV.agg [L (rows bc) fl0,L (rows bd) fl0,L (rows bC) fl0,I i64 bK,L (rows bF) fl0],I i64 v]=M (fun r=>PV.bool r) (f197 (Pattern.mk (Graph.mk bc bd) bC bK bF) v):=by
 rw [aH h.1 (fn:=Tryz.f197) rfl _ rfl rfl rfl]
 simp only [WA,s1,s2,s3,s4,s5,s6,s7,↓reduceIte,XV,ZC,Xa,Gm,Tryz.f197,Hj,f197,EG h]
def mv (q:Pattern) (x0:Int):Nat→Int→Option Int
 | 0,_=>none
 | m0+1,v_1=>
 (if (decide (v_1<q.Vars)) then
 (N (f197 q v_1) fun x2=>
 (if (!x2) then
 (some x0)
 else (mv q x0 m0 (w64 (v_1+(1:Int))))))
 else (some (0:Int)))
def f171 (R:bI) (t:Types) (vars:Int) (q:Pattern):Option Int:=
 (if (decide (q.Vars<vars)) then
 (some (20:Int))
 else (N (f104 R t q) fun x0=>
 (if (!(x0 == (9:Int))) then
 (some x0)
 else (mv q x0 ax vars))))
theorem ET (h:Hy C R) {cK:List Int} {cL:List Edge} {gz:List Slot} {ju:Int} {gy:List Test} {x0:Int} :
  ∀ (m0:Nat) (v_1:Int),lp (bw E 171 C) [(Fr.blk 0),(Fr.seq 0 [1,1,1,1,1])] 0 [0,0,1,0,1,1,1,1] m0 ⟨[u,u,u,u,u,(PV.ptr 0 0),u,I i64 (x0),I i64 v_1,u,u,u,u,u,u,u,u,u,u,u,u,u,u,u,u,u,u,u,u,u,u],[(0,X [L (rows (cK)) fl0,L (rows (cL)) fl0,L (rows (gz)) fl0,I i64 (ju),L (rows (gy)) fl0])],1⟩=M (fun r=>I i64 r) (mv (Pattern.mk (Graph.mk cK cL) gz ju gy) x0 m0 v_1):=by
 intro m0
 induction m0 with
 | zero=>intros;rw [bk];rfl
 | succ m0 ih=>
  intro v_1
  rw [bm]
  simp only [WA,s1,s2,s3,s4,s5,s6,s7,↓reduceIte,X8,ZP,Xn,Gv,Tryz.f171,Hw,H7,uR,YP,Gm,tT h,It h,mv,ih]
theorem ID (h:Hy C R) (t_Nodes:List aE) (t_Edges:List aG) (vars:Int) (cK:List Int) (cL:List Edge) (gz:List Slot) (ju:Int) (gy:List Test) :
  C.pureC 171 [PV.agg [L (rows t_Nodes) fl0,L (rows t_Edges) fl0],I i64 vars,PV.agg [L (rows cK) fl0,L (rows cL) fl0,L (rows gz) fl0,I i64 ju,L (rows gy) fl0]]=M (fun r=>I i64 r) (f171 R (Types.mk t_Nodes t_Edges) vars (Pattern.mk (Graph.mk cK cL) gz ju gy)):=by
 rw [aH h.1 (fn:=Tryz.f171) rfl _ rfl rfl rfl]
 simp only [WA,s1,s2,s3,s4,s5,s6,s7,↓reduceIte,X8,ZP,Xn,Gv,Tryz.f171,Hw,H7,uR,YP,Gm,tT h,It h,f171,ET h]
def km (a:Graph) (b:Graph) (m:aQ):Nat→Int→Option Int
 | 0,_=>none
 | m2+1,i_8=>
 (if (decide (i_8<(((List.length a.Edges):Nat):Int))) then
 (N (at? m.Edges i_8) fun x9=>
 (if (decide (x9<(0:Int))) then
 (some (6:Int))
 else (N (at? m.Edges i_8) fun x10=>
 (if (decide ((((List.length b.Edges):Nat):Int)≤x10)) then
 (some (6:Int))
 else (N (at? a.Edges i_8) fun x11=>
 (N (at? m.Edges i_8) fun x12=>
 (N (at? b.Edges x12) fun x13=>
 (if (!(x11.Type_ == x13.Type_)) then
 (some (13:Int))
 else (N (at? m.Nodes x11.From) fun x14=>
 (if (!(x14 == x13.From)) then
 (some (11:Int))
 else (N (at? m.Nodes x11.To) fun x15=>
 (if (!(x15 == x13.To)) then
 (some (11:Int))
 else (km a b m m2 (w64 (i_8+(1:Int))))))))))))))))
 else (some (0:Int)))
def mB (a:Graph) (b:Graph) (m:aQ):Nat→Int→Option Int
 | 0,_=>none
 | m0+1,i_2=>
 (if (decide (i_2<(((List.length a.Nodes):Nat):Int))) then
 (N (at? m.Nodes i_2) fun x3=>
 (if (decide (x3<(0:Int))) then
 (some (6:Int))
 else (N (at? m.Nodes i_2) fun x4=>
 (if (decide ((((List.length b.Nodes):Nat):Int)≤x4)) then
 (some (6:Int))
 else (N (at? m.Nodes i_2) fun x5=>
 (N (at? b.Nodes x5) fun x6=>
 (N (at? a.Nodes i_2) fun x7=>
 (if (!(x6 == x7)) then
 (some (13:Int))
 else (mB a b m m0 (w64 (i_2+(1:Int))))))))))))
 else (km a b m ax (0:Int)))
def f141 (a:Graph) (b:Graph) (m:aQ):Option Int:=
 (N (f57 a) fun x0=>
 (if (!(x0 == (0:Int))) then
 (some x0)
 else (N (f57 b) fun x1=>
 (if (!(x1 == (0:Int))) then
 (some x1)
 else (if (!((((List.length m.Nodes):Nat):Int) == (((List.length a.Nodes):Nat):Int))) then
 (some (20:Int))
 else (if (!((((List.length m.Edges):Nat):Int) == (((List.length a.Edges):Nat):Int))) then
 (some (20:Int))
 else (mB a b m ax (0:Int))))))))
theorem E5 (h:Hy C R) {db:List Int} {dd:List Edge} {cZ:List Int} {da:List Edge} {cE:List Int} {cF:List Int} :
  ∀ (m2:Nat) (i_8:Int),lp (bw E 141 C) [(Fr.blk 2),(Fr.seq 0 [1,1,1,1,1,1])] 2 [0,0,1,0,1,1,1,1,1] m2 ⟨[u,u,u,(PV.ptr 0 0),(PV.ptr 1 0),(PV.ptr 2 0),u,u,u,u,I i64 i_8,u,u,u,u,u,u,u,u,u,u,u,u,u,u,u,u,u,u,u,u,u,u,u,u,u,u,u,u,u,u,u,u,u,u,u,u,u,u,u,u,u,u,u,u,u,u,u,u,u,u,u,u,u,u,u,u,u,u,u,u,u,u,u,u,u,u,u,u,u,u,u,u,u,u,u,u,u,u,u,u,u,u,u,u,u,u,u,u,u,u,u,u,u,u,u,u,u,u,u,u,u,u,u,u,u,u,u,u,u,u,u,u,u,u,u,u,u,u,u,u,u,u,u,u,u,u,u,u,u,u],[(0,X [L (rows (db)) fl0,L (rows (dd)) fl0]),(1,X [L (rows (cZ)) fl0,L (rows (da)) fl0]),(2,X [L (rows (cE)) fl0,L (rows (cF)) fl0])],3⟩=M (fun r=>I i64 r) (km (Graph.mk db dd) (Graph.mk cZ da) (aQ.mk cE cF) m2 i_8):=by
 intro m2
 induction m2 with
 | zero=>intros;rw [bk];rfl
 | succ m2 ih=>
  intro i_8
  rw [bm]
  simp only [WA,s1,s2,s3,s4,s5,s6,s7,↓reduceIte,NF,QB,Nb,uO,Tryz.f141,zq,zp,vi,vh,vg,vf,ve,zI,th,l7 h,km,ih]
theorem E6 (h:Hy C R) {db:List Int} {dd:List Edge} {cZ:List Int} {da:List Edge} {cE:List Int} {cF:List Int} :
  ∀ (m0:Nat) (i_2:Int),lp (bw E 141 C) [(Fr.blk 0),(Fr.seq 0 [1,1,1,1,1])] 0 [0,0,1,0,1,1,1,1] m0 ⟨[u,u,u,(PV.ptr 0 0),(PV.ptr 1 0),(PV.ptr 2 0),u,u,u,I i64 i_2,u,u,u,u,u,u,u,u,u,u,u,u,u,u,u,u,u,u,u,u,u,u,u,u,u,u,u,u,u,u,u,u,u,u,u,u,u,u,u,u,u,u,u,u,u,u,u,u,u,u,u,u,u,u,u,u,u,u,u,u,u,u,u,u,u,u,u,u,u,u,u,u,u,u,u,u,u,u,u,u,u,u,u,u,u,u,u,u,u,u,u,u,u,u,u,u,u,u,u,u,u,u,u,u,u,u,u,u,u,u,u,u,u,u,u,u,u,u,u,u,u,u,u,u,u,u,u,u,u,u,u],[(0,X [L (rows (db)) fl0,L (rows (dd)) fl0]),(1,X [L (rows (cZ)) fl0,L (rows (da)) fl0]),(2,X [L (rows (cE)) fl0,L (rows (cF)) fl0])],3⟩=M (fun r=>I i64 r) (mB (Graph.mk db dd) (Graph.mk cZ da) (aQ.mk cE cF) m0 i_2):=by
 intro m0
 induction m0 with
 | zero=>intros;rw [bk];rfl
 | succ m0 ih=>
  intro i_2
  rw [bm]
  simp only [WA,s1,s2,s3,s4,s5,s6,s7,↓reduceIte,NF,QB,Nb,uO,Tryz.f141,zq,zp,vi,vh,vg,vf,ve,zI,th,l7 h,mB,ih,E5 h]
theorem tR (h:Hy C R) (db:List Int) (dd:List Edge) (cZ:List Int) (da:List Edge) (cE:List Int) (cF:List Int) :
  C.pureC 141 [PV.agg [L (rows db) fl0,L (rows dd) fl0],PV.agg [L (rows cZ) fl0,L (rows da) fl0],PV.agg [L (rows cE) fl0,L (rows cF) fl0]]=M (fun r=>I i64 r) (f141 (Graph.mk db dd) (Graph.mk cZ da) (aQ.mk cE cF)):=by
 rw [aH h.1 (fn:=Tryz.f141) rfl _ rfl rfl rfl]
 simp only [WA,s1,s2,s3,s4,s5,s6,s7,↓reduceIte,NF,QB,Nb,uO,Tryz.f141,zq,zp,vi,vh,vg,vf,ve,zI,th,l7 h,f141,E6 h]
def kv (l:List Int) (i_0:Int) (k0:Int→Option Bool):Nat→Int→Option Bool
 | 0,_=>none
 | m2+1,k_1=>
 (if (decide (k_1<i_0)) then
 (N (at? l i_0) fun x2=>
 (N (at? l k_1) fun x3=>
 (if (x2 == x3) then
 (some false)
 else (kv l i_0 k0 m2 (w64 (k_1+(1:Int)))))))
 else (k0 (w64 (i_0+(1:Int)))))
def mH (l:List Int):Nat→Int→Option Bool
 | 0,_=>none
 | m0+1,i_0=>
 (if (decide (i_0<(((List.length l):Nat):Int))) then
 (kv l i_0 (mH l m0) ax (0:Int))
 else (some true))
def f107 (l:List Int):Option Bool:=
 (mH l ax (0:Int))
theorem Fq (h:Hy C R) {l:List Int} {i_0:Int} {m0:Nat} {k0:Int→Option Bool} (hk0:∀ (z1:Int),lp (bw E 107 C) [(Fr.blk 0),(Fr.seq 0 [1,1])] 0 [0,0,1,0,1] m0 ⟨[L (rows (l)) fl0,u,u,I i64 z1,u,u,u,u,u,u,u,u,u,u,u,u,u,u,u,u,u,u,u,u,u],[],0⟩=M (fun r=>PV.bool r) (k0 z1)) :
  ∀ (m2:Nat) (k_1:Int),lp (bw E 107 C) [(Fr.blk 2),(Fr.blk 1),(Fr.seq 0 [1,1,0,0,1,0,1]),(Fr.loop 0 [0,0,1,0,1] m0),(Fr.blk 0),(Fr.seq 0 [1,1])] 2 [0,0,1,0,0,1,0,0,1,0,1] m2 ⟨[L (rows (l)) fl0,u,u,I i64 (i_0),I i64 k_1,u,u,u,u,u,u,u,u,u,u,u,u,u,u,u,u,u,u,u,u],[],0⟩=M (fun r=>PV.bool r) (kv l i_0 k0 m2 k_1):=by
 intro m2
 induction m2 with
 | zero=>intros;rw [bk];rfl
 | succ m2 ih=>
  intro k_1
  rw [bm]
  simp only [WA,s1,s2,s3,s4,s5,s6,s7,↓reduceIte,NM,QI,Nj,Bh,Tryz.f107,zE,zD,yY,kv,ih,hk0]
theorem Fs (h:Hy C R) {l:List Int} :
  ∀ (m0:Nat) (i_0:Int),lp (bw E 107 C) [(Fr.blk 0),(Fr.seq 0 [1,1])] 0 [0,0,1,0,1] m0 ⟨[L (rows (l)) fl0,u,u,I i64 i_0,u,u,u,u,u,u,u,u,u,u,u,u,u,u,u,u,u,u,u,u,u],[],0⟩=M (fun r=>PV.bool r) (mH l m0 i_0):=by
 intro m0
 induction m0 with
 | zero=>intros;rw [bk];rfl
 | succ m0 ih=>
  intro i_0
  rw [bm]
  simp only [WA,s1,s2,s3,s4,s5,s6,s7,↓reduceIte,NM,QI,Nj,Bh,Tryz.f107,zE,zD,yY,mH,ih,Fq h ih]
theorem IP (h:Hy C R) (l:List Int) :
  C.pureC 107 [L (rows l) fl0]=M (fun r=>PV.bool r) (f107 l):=by
 rw [aH h.1 (fn:=Tryz.f107) rfl _ rfl rfl rfl]
 simp only [WA,s1,s2,s3,s4,s5,s6,s7,↓reduceIte,NM,QI,Nj,Bh,Tryz.f107,zE,zD,yY,f107,Fs h]
def f172 (a:Graph) (b:Graph) (m:aQ):Option Bool:=
 (N (f141 a b m) fun x0=>
 (if (x0 == (0:Int)) then
 (N (f107 m.Nodes) fun x1=>
 (if x1 then
 (N (f107 m.Edges) fun x2=>
 (some x2))
 else (some false)))
 else (some false)))
theorem IC (h:Hy C R) (db:List Int) (dd:List Edge) (cZ:List Int) (da:List Edge) (cE:List Int) (cF:List Int) :
  C.pureC 172 [PV.agg [L (rows db) fl0,L (rows dd) fl0],PV.agg [L (rows cZ) fl0,L (rows da) fl0],PV.agg [L (rows cE) fl0,L (rows cF) fl0]]=M (fun r=>PV.bool r) (f172 (Graph.mk db dd) (Graph.mk cZ da) (aQ.mk cE cF)):=by
 rw [aH h.1 (fn:=Tryz.f172) rfl _ rfl rfl rfl]
 simp only [WA,s1,s2,s3,s4,s5,s6,s7,↓reduceIte,akN,ar3,aiF,MK,Tryz.f172,Za,Bh,H3,uO,tR h,IP h,f172]
def gM (R:bI) (t:Types) (c:Condition):Nat→Int→(List Int)→(List Edge)→(List Slot)→Int→(List Test)→Option Int
 | 0,_,_,_,_,_,_=>none
 | m0+1,i_3,lD,lC,lB,lA,lz=>
 (if (decide (i_3<(((List.length c.Kids):Nat):Int))) then
 (N (at? c.Kids i_3) fun x9=>
 (N (bI.f144 R t (Pattern.mk (Graph.mk lD lC) lB lA lz) x9) fun x10=>
 (if (!(x10 == (0:Int))) then
 (some x10)
 else (gM R t c m0 (w64 (i_3+(1:Int))) lD lC lB lA lz))))
 else (some (0:Int)))
def wy (R:bI) (t:Types) (p:Pattern) (c:Condition):Option Int:=
 (if (c.Kind == (5:Int)) then
 (N (f171 R t p.Vars c.Pattern) fun x0=>
 (if (!(x0 == (0:Int))) then
 (some x0)
 else (N (f141 p.Graph c.Pattern.Graph c.Map) fun x1=>
 (if (!(x1 == (0:Int))) then
 (some x1)
 else (N (f172 p.Graph c.Pattern.Graph c.Map) fun x2=>
 (if (!x2) then
 (some (1:Int))
 else (gM R t c ax (0:Int) c.Pattern.Graph.Nodes c.Pattern.Graph.Edges c.Pattern.Slots c.Pattern.Vars c.Pattern.Tests)))))))
 else (gM R t c ax (0:Int) p.Graph.Nodes p.Graph.Edges p.Slots p.Vars p.Tests))
theorem Cd (h:Hy C R) {t_Nodes:List aE} {t_Edges:List aG} {bz:Int} {br:List Condition} {aM:List Int} {aN:List Int} {ah:List Int} {ai:List Edge} {aB:List Slot} {aF:Int} {aA:List Test} :
  ∀ (m0:Nat) (i_3:Int) (lD:List Int) (lC:List Edge) (lB:List Slot) (lA:Int) (lz:List Test),lp (bw E 144 C) [(Fr.blk 0),(Fr.seq 0 [1,1,1,1])] 0 [0,0,1,0,1,1,1] m0 ⟨[u,u,u,(PV.ptr 0 0),u,(PV.ptr 1 0),u,(PV.ptr 2 0),u,u,I i64 i_3,u,u,u,u,u,u,u,u,u,u,u,u,u,u,u,u,u,u,u,u,u,u,u,u,u,u,u,u,u,u,u,u,u,u,u,u,u,u,u,u,u,u,u,u,u,u,u,u,u,u,u,u,u,u],[(0,X [L (rows (t_Nodes)) fl0,L (rows (t_Edges)) fl0]),(1,X [I i64 (bz),L (rows (br)) fl0,L (rows (aM)) fl0,L (rows (aN)) fl0,L (rows (ah)) fl0,L (rows (ai)) fl0,L (rows (aB)) fl0,I i64 (aF),L (rows (aA)) fl0]),(2,X [L (rows lD) fl0,L (rows lC) fl0,L (rows lB) fl0,I i64 lA,L (rows lz) fl0])],3⟩=M (fun r=>I i64 r) (gM R (Types.mk t_Nodes t_Edges) (Condition.mk bz br (aQ.mk aM aN) (Pattern.mk (Graph.mk ah ai) aB aF aA)) m0 i_3 lD lC lB lA lz):=by
 intro m0
 induction m0 with
 | zero=>intros;rw [bk];rfl
 | succ m0 ih=>
  intro i_3 lD lC lB lA lz
  rw [bm]
  simp only [WA,s1,s2,s3,s4,s5,s6,s7,↓reduceIte,Yh,ZY,Xw,MV,Tryz.f144,HG,Bq,H3,uO,YZ,Gv,YY,MK,O3,h.2.f144,ID h,tR h,IC h,gM,ih]
theorem P4 (h:Hy C R) (t_Nodes:List aE) (t_Edges:List aG) (bc:List Int) (bd:List Edge) (bC:List Slot) (bK:Int) (bF:List Test) (bz:Int) (br:List Condition) (aM:List Int) (aN:List Int) (ah:List Int) (ai:List Edge) (aB:List Slot) (aF:Int) (aA:List Test) :
  (level E C).pureC 144 [PV.agg [L (rows t_Nodes) fl0,L (rows t_Edges) fl0],PV.agg [L (rows bc) fl0,L (rows bd) fl0,L (rows bC) fl0,I i64 bK,L (rows bF) fl0],PV.agg [I i64 bz,L (rows br) fl0,L (rows aM) fl0,L (rows aN) fl0,L (rows ah) fl0,L (rows ai) fl0,L (rows aB) fl0,I i64 aF,L (rows aA) fl0]]=M (fun r=>I i64 r) (wy R (Types.mk t_Nodes t_Edges) (Pattern.mk (Graph.mk bc bd) bC bK bF) (Condition.mk bz br (aQ.mk aM aN) (Pattern.mk (Graph.mk ah ai) aB aF aA))):=by
 rw [cP C (fn:=Tryz.f144) _ rfl rfl rfl]
 simp only [WA,s1,s2,s3,s4,s5,s6,s7,↓reduceIte,Yh,ZY,Xw,MV,Tryz.f144,HG,Bq,H3,uO,YZ,Gv,YY,MK,O3,h.2.f144,ID h,tR h,IC h,wy,Cd h]
def f215 (c:Condition):Option Bool:=
 (if ((w64 ((w64 ((w64 ((((List.length c.Map.Nodes):Nat):Int)+(((List.length c.Map.Edges):Nat):Int)))+(((List.length c.Pattern.Graph.Nodes):Nat):Int)))+(((List.length c.Pattern.Graph.Edges):Nat):Int))) == (0:Int)) then
 (if ((w64 ((((List.length c.Pattern.Slots):Nat):Int)+(((List.length c.Pattern.Tests):Nat):Int))) == (0:Int)) then
 (some (c.Pattern.Vars == (0:Int)))
 else (some false))
 else (some false))
theorem Ur (h:Hy C R) (bz:Int) (br:List Condition) (aM:List Int) (aN:List Int) (ah:List Int) (ai:List Edge) (aB:List Slot) (aF:Int) (aA:List Test) :
  C.pureC 215 [PV.agg [I i64 bz,L (rows br) fl0,L (rows aM) fl0,L (rows aN) fl0,L (rows ah) fl0,L (rows ai) fl0,L (rows aB) fl0,I i64 aF,L (rows aA) fl0]]=M (fun r=>PV.bool r) (f215 (Condition.mk bz br (aQ.mk aM aN) (Pattern.mk (Graph.mk ah ai) aB aF aA))):=by
 rw [aH h.1 (fn:=Tryz.f215) rfl _ rfl rfl rfl]
 simp only [WA,s1,s2,s3,s4,s5,s6,s7,↓reduceIte,akp,arF,aih,Wo,Tryz.f215,f215]
def f196 (c:Condition):Option Bool:=
 (if (c.Kind == (1:Int)) then
 (if ((((List.length c.Kids):Nat):Int) == (0:Int)) then
 (N (f215 c) fun x0=>
 (some x0))
 else (some false))
 else (if (c.Kind == (2:Int)) then
 (if ((((List.length c.Kids):Nat):Int) == (1:Int)) then
 (N (f215 c) fun x1=>
 (some x1))
 else (some false))
 else (if (c.Kind == (3:Int)) then
 (if (c.Kind == (3:Int)) then
 (if (decide ((0:Int)<(((List.length c.Kids):Nat):Int))) then
 (N (f215 c) fun x2=>
 (some x2))
 else (some false))
 else (if (c.Kind == (5:Int)) then
 (some ((((List.length c.Kids):Nat):Int) == (1:Int)))
 else (some false)))
 else (if (c.Kind == (4:Int)) then
 (if (decide ((0:Int)<(((List.length c.Kids):Nat):Int))) then
 (N (f215 c) fun x3=>
 (some x3))
 else (some false))
 else (if (c.Kind == (5:Int)) then
 (some ((((List.length c.Kids):Nat):Int) == (1:Int)))
 else (some false))))))
theorem Iu (h:Hy C R) (bz:Int) (br:List Condition) (aM:List Int) (aN:List Int) (ah:List Int) (ai:List Edge) (aB:List Slot) (aF:Int) (aA:List Test) :
  C.pureC 196 [PV.agg [I i64 bz,L (rows br) fl0,L (rows aM) fl0,L (rows aN) fl0,L (rows ah) fl0,L (rows ai) fl0,L (rows aB) fl0,I i64 aF,L (rows aA) fl0]]=M (fun r=>PV.bool r) (f196 (Condition.mk bz br (aQ.mk aM aN) (Pattern.mk (Graph.mk ah ai) aB aF aA))):=by
 rw [aH h.1 (fn:=Tryz.f196) rfl _ rfl rfl rfl]
 simp only [WA,s1,s2,s3,s4,s5,s6,s7,↓reduceIte,akC,arS,aiu,MD,Tryz.f196,amr,Wo,Ur h,f196]
def iy (R:bI) (c:Condition):Nat→Int→Option Bool
 | 0,_=>none
 | m0+1,i_1=>
 (if (decide (i_1<(((List.length c.Kids):Nat):Int))) then
 (N (at? c.Kids i_1) fun x2=>
 (N (bI.f169 R x2) fun x3=>
 (if (!x3) then
 (some false)
 else (iy R c m0 (w64 (i_1+(1:Int)))))))
 else (some true))
def wv (R:bI) (c:Condition):Option Bool:=
 (N (f196 c) fun x0=>
 (if (!x0) then
 (some false)
 else (iy R c ax (0:Int))))
theorem Cc (h:Hy C R) {bz:Int} {br:List Condition} {aM:List Int} {aN:List Int} {ah:List Int} {ai:List Edge} {aB:List Slot} {aF:Int} {aA:List Test} :
  ∀ (m0:Nat) (i_1:Int),lp (bw E 169 C) [(Fr.blk 0),(Fr.seq 0 [1,1,1])] 0 [0,0,1,0,1,1] m0 ⟨[u,(PV.ptr 0 0),u,I i64 i_1,u,u,u,u,u,u,u,u,u,u,u,u,u,u,u,u,u],[(0,X [I i64 (bz),L (rows (br)) fl0,L (rows (aM)) fl0,L (rows (aN)) fl0,L (rows (ah)) fl0,L (rows (ai)) fl0,L (rows (aB)) fl0,I i64 (aF),L (rows (aA)) fl0])],1⟩=M (fun r=>PV.bool r) (iy R (Condition.mk bz br (aQ.mk aM aN) (Pattern.mk (Graph.mk ah ai) aB aF aA)) m0 i_1):=by
 intro m0
 induction m0 with
 | zero=>intros;rw [bk];rfl
 | succ m0 ih=>
  intro i_1
  rw [bm]
  simp only [WA,s1,s2,s3,s4,s5,s6,s7,↓reduceIte,Ya,ZR,Xp,MM,Tryz.f169,Hz,YQ,MD,OW,h.2.f169,Iu h,iy,ih]
theorem PZ (h:Hy C R) (bz:Int) (br:List Condition) (aM:List Int) (aN:List Int) (ah:List Int) (ai:List Edge) (aB:List Slot) (aF:Int) (aA:List Test) :
  (level E C).pureC 169 [PV.agg [I i64 bz,L (rows br) fl0,L (rows aM) fl0,L (rows aN) fl0,L (rows ah) fl0,L (rows ai) fl0,L (rows aB) fl0,I i64 aF,L (rows aA) fl0]]=M (fun r=>PV.bool r) (wv R (Condition.mk bz br (aQ.mk aM aN) (Pattern.mk (Graph.mk ah ai) aB aF aA))):=by
 rw [cP C (fn:=Tryz.f169) _ rfl rfl rfl]
 simp only [WA,s1,s2,s3,s4,s5,s6,s7,↓reduceIte,Ya,ZR,Xp,MM,Tryz.f169,Hz,YQ,MD,OW,h.2.f169,Iu h,wv,Cc h]
def jL (R:bI) (c:Condition):Nat→Int→Int→Int→Option (Int × Int)
 | 0,_,_,_=>none
 | m0+1,fV,dY,i_2=>
 (if (decide (i_2<(((List.length c.Kids):Nat):Int))) then
 (N (at? c.Kids i_2) fun x3=>
 (N (bI.f170 R x3) fun x4=>
 (jL R c m0 (w64 (fV+(x4).1)) (if ((decide (dY<(x4).2))=true) then (x4).2 else dY) (w64 (i_2+(1:Int))))))
 else (if (c.Kind == (5:Int)) then
 (some (fV,(w64 (dY+(1:Int)))))
 else (some (fV,dY))))
def wu (R:bI) (c:Condition):Option (Int × Int):=
 (jL R c ax (1:Int) (0:Int) (0:Int))
theorem Cb (h:Hy C R) {bz:Int} {br:List Condition} {aM:List Int} {aN:List Int} {ah:List Int} {ai:List Edge} {aB:List Slot} {aF:Int} {aA:List Test} :
  ∀ (m0:Nat) (fV:Int) (dY:Int) (i_2:Int),lp (bw E 170 C) [(Fr.blk 0),(Fr.seq 0 [1,1,1])] 0 [0,0,1,0,1,1] m0 ⟨[u,(PV.ptr 0 0),u,u,I i64 fV,I i64 dY,I i64 i_2,u,u,u,u,u,u,u,u,u,u,u,u,u,u,u,u,u,u,u,u,u,u,u,u,u,u,u,u,u,u,u],[(0,X [I i64 (bz),L (rows (br)) fl0,L (rows (aM)) fl0,L (rows (aN)) fl0,L (rows (ah)) fl0,L (rows (ai)) fl0,L (rows (aB)) fl0,I i64 (aF),L (rows (aA)) fl0])],1⟩=M (fun r=>PV.tup [I i64 r.1,I i64 r.2]) (jL R (Condition.mk bz br (aQ.mk aM aN) (Pattern.mk (Graph.mk ah ai) aB aF aA)) m0 fV dY i_2):=by
 intro m0
 induction m0 with
 | zero=>intros;rw [bk];rfl
 | succ m0 ih=>
  intro fV dY i_2
  rw [bm]
  simp only [WA,s1,s2,s3,s4,s5,s6,s7,↓reduceIte,X9,ZQ,Xo,ML,Tryz.f170,Hx,OV,h.2.f170,jL,ih]
theorem PY (h:Hy C R) (bz:Int) (br:List Condition) (aM:List Int) (aN:List Int) (ah:List Int) (ai:List Edge) (aB:List Slot) (aF:Int) (aA:List Test) :
  (level E C).pureC 170 [PV.agg [I i64 bz,L (rows br) fl0,L (rows aM) fl0,L (rows aN) fl0,L (rows ah) fl0,L (rows ai) fl0,L (rows aB) fl0,I i64 aF,L (rows aA) fl0]]=M (fun r=>PV.tup [I i64 r.1,I i64 r.2]) (wu R (Condition.mk bz br (aQ.mk aM aN) (Pattern.mk (Graph.mk ah ai) aB aF aA))):=by
 rw [cP C (fn:=Tryz.f170) _ rfl rfl rfl]
 simp only [WA,s1,s2,s3,s4,s5,s6,s7,↓reduceIte,X9,ZQ,Xo,ML,Tryz.f170,Hx,OV,h.2.f170,wu,Cb h]
end Go.S
