import Derived.Test.YtjkkigeefoncmaaGreatCheckF
set_option linter.all false
set_option maxRecDepth 100000
set_option linter.defProp false
noncomputable section
set_option maxHeartbeats 4000000
namespace Go.S
open Go Go.Pm Go.Proofs
open Nat renaming reduceAdd→s1,reduceSub→s2,reduceMul→s3,reduceBEq→s4,reduceLeDiff→s5,reduceEqDiff→s6,reduceLT→s7
open Go.IntKind (i64)
open Go.Pm.PV renaming undef→u,lit→L,int→I
open Go.Pm.bq renaming box→X,arr→Y
open Option renaming bind→N,map→M
variable {C:Pm.Callee} {R:bI}
def oe (k_4:Int) (x7:Attr) (k2:Int→Option Bool):Nat→Int→Option Bool
 | 0,_=>none
 | m4+1,j_8=>
 (if (decide (j_8<(((List.length x7.Names):Nat):Int))) then
 (N (at? x7.Names j_8) fun x9=>
 (if (decide ((40:Int)<((ByteArray.size x9):Int))) then
 (some false)
 else (oe k_4 x7 k2 m4 (w64 (j_8+(1:Int))))))
 else (k2 (w64 (k_4+(1:Int)))))
def qb (t:Types) (n_0:Int) (i_1:Int) (x2:aE) (k0:Int→Int→Option Bool):Nat→Int→Option Bool
 | 0,_=>none
 | m2+1,k_4=>
 (N (at? t.Nodes i_1) fun x5=>
 (if (decide (k_4<(((List.length x5.Attrs):Nat):Int))) then
 (N (at? t.Nodes i_1) fun x6=>
 (N (at? x6.Attrs k_4) fun x7=>
 (if (decide ((40:Int)<(((ByteArray.size x7.Name):Nat):Int))) then
 (some false)
 else (if (decide ((25:Int)<(((List.length x7.Names):Nat):Int))) then
 (some false)
 else (oe k_4 x7 (qb t n_0 i_1 x2 k0 m2) ax (0:Int))))))
 else (k0 (w64 (n_0+(((List.length x2.Attrs):Nat):Int))) (w64 (i_1+(1:Int))))))
def od (t:Types):Nat→Int→Option Bool
 | 0,_=>none
 | m6+1,DU=>
 (if (decide (DU<(((List.length t.Edges):Nat):Int))) then
 (N (at? t.Edges DU) fun x11=>
 (if (decide ((40:Int)<(((ByteArray.size x11.Name):Nat):Int))) then
 (some false)
 else (od t m6 (w64 (DU+(1:Int))))))
 else (some true))
def og (t:Types):Nat→Int→Int→Option Bool
 | 0,_,_=>none
 | m0+1,n_0,i_1=>
 (if (decide (i_1<(((List.length t.Nodes):Nat):Int))) then
 (N (at? t.Nodes i_1) fun x2=>
 (if (decide ((30:Int)<(w64 (n_0+(((List.length x2.Attrs):Nat):Int))))) then
 (some false)
 else (N (at? t.Nodes i_1) fun x3=>
 (if (decide ((40:Int)<(((ByteArray.size x3.Name):Nat):Int))) then
 (some false)
 else (qb t n_0 i_1 x2 (og t m0) ax (0:Int))))))
 else (od t ax (0:Int)))
def f13 (t:Types):Option Bool:=
 (if (decide ((20:Int)<(((List.length t.Nodes):Nat):Int))) then
 (some false)
 else (if (decide ((30:Int)<(((List.length t.Edges):Nat):Int))) then
 (some false)
 else (og t ax (0:Int) (0:Int))))
theorem K3 (h:Hy C R) {t_Nodes:List aE} {t_Edges:List aG} {n_0:Int} {i_1:Int} {x2:aE} {k_4:Int} {x7:Attr} {m2:Nat} {m0:Nat} {k2:Int→Option Bool} (hk2:∀ (z2:Int),lp (bw E 13 C) [(Fr.blk 2),(Fr.blk 1),(Fr.seq 0 [1,1,0,0,1,0,1,1,1]),(Fr.loop 0 [0,0,1,0,1,1,1] m0),(Fr.blk 0),(Fr.seq 0 [1,1,1,1])] 2 [0,0,1,1,1,0,0,1,0,0,1,0,1,1,1] m2 ⟨[u,(PV.ptr 0 0),u,I i64 ((w64 (n_0+(((List.length x2.Attrs):Nat):Int)))),I i64 (i_1),I i64 z2,u,u,u,u,u,u,u,u,u,u,u,u,u,u,u,u,u,u,u,u,u,u,u,u,u,u,u,u,u,u,u,u,u,u,u,u,u,u,u,u,u,u,u,u,u,u,u,u,u,u,u,u,u,u,u,u,u,u,u,u,u,u,u,u,u,u,u,u,u,u,u,u,u,u,u,u,u,u,u,u,u,u,u,u,u,u,u,u,u,u,u,u,u,u,u,u,u,u,u,u],[(0,X [L (rows (t_Nodes)) fl0,L (rows (t_Edges)) fl0])],1⟩=M (fun r=>PV.bool r) (k2 z2)) :
  ∀ (m4:Nat) (j_8:Int),lp (bw E 13 C) [(Fr.blk 4),(Fr.blk 3),(Fr.seq 2 [1,1,0,0,1,1,1,0,0,1,0,0,1,0,1,1,1]),(Fr.loop 2 [0,0,1,1,1,0,0,1,0,0,1,0,1,1,1] m2),(Fr.blk 2),(Fr.blk 1),(Fr.seq 0 [1,1,0,0,1,0,1,1,1]),(Fr.loop 0 [0,0,1,0,1,1,1] m0),(Fr.blk 0),(Fr.seq 0 [1,1,1,1])] 4 [0,0,1,1,1,0,0,1,0,0,1,1,1,0,0,1,0,0,1,0,1,1,1] m4 ⟨[u,(PV.ptr 0 0),u,I i64 ((w64 (n_0+(((List.length x2.Attrs):Nat):Int)))),I i64 (i_1),I i64 (k_4),(PV.ptr 1 0),I i64 j_8,u,u,u,u,u,u,u,u,u,u,u,u,u,u,u,u,u,u,u,u,u,u,u,u,u,u,u,u,u,u,u,u,u,u,u,u,u,u,u,u,u,u,u,u,u,u,u,u,u,u,u,u,u,u,u,u,u,u,u,u,u,u,u,u,u,u,u,u,u,u,u,u,u,u,u,u,u,u,u,u,u,u,u,u,u,u,u,u,u,u,u,u,u,u,u,u,u,u],[(0,X [L (rows (t_Nodes)) fl0,L (rows (t_Edges)) fl0]),(1,X [PV.str (x7.Name),I i64 (x7.Low),I i64 (x7.High),L (rows (x7.Names)) (Fl.mk false false)])],2⟩=M (fun r=>PV.bool r) (oe k_4 x7 k2 m4 j_8):=by
 intro m4
 induction m4 with
 | zero=>intros;rw [bk];rfl
 | succ m4 ih=>
  intro j_8
  rw [bm]
  simp only [WA,s1,s2,s3,s4,s5,s6,s7,↓reduceIte,NJ,QF,Ng,Db,Tryz.f13,vL,vK,vJ,vI,oe,ih,hk2]
theorem K4 (h:Hy C R) {t_Nodes:List aE} {t_Edges:List aG} {n_0:Int} {i_1:Int} {x2:aE} {m0:Nat} {k0:Int→Int→Option Bool} (hk0:∀ (z0:Int) (z1:Int),lp (bw E 13 C) [(Fr.blk 0),(Fr.seq 0 [1,1,1,1])] 0 [0,0,1,0,1,1,1] m0 ⟨[u,(PV.ptr 0 0),u,I i64 z0,I i64 z1,u,u,u,u,u,u,u,u,u,u,u,u,u,u,u,u,u,u,u,u,u,u,u,u,u,u,u,u,u,u,u,u,u,u,u,u,u,u,u,u,u,u,u,u,u,u,u,u,u,u,u,u,u,u,u,u,u,u,u,u,u,u,u,u,u,u,u,u,u,u,u,u,u,u,u,u,u,u,u,u,u,u,u,u,u,u,u,u,u,u,u,u,u,u,u,u,u,u,u,u,u],[(0,X [L (rows (t_Nodes)) fl0,L (rows (t_Edges)) fl0])],1⟩=M (fun r=>PV.bool r) (k0 z0 z1)) :
  ∀ (m2:Nat) (k_4:Int),lp (bw E 13 C) [(Fr.blk 2),(Fr.blk 1),(Fr.seq 0 [1,1,0,0,1,0,1,1,1]),(Fr.loop 0 [0,0,1,0,1,1,1] m0),(Fr.blk 0),(Fr.seq 0 [1,1,1,1])] 2 [0,0,1,1,1,0,0,1,0,0,1,0,1,1,1] m2 ⟨[u,(PV.ptr 0 0),u,I i64 ((w64 (n_0+(((List.length x2.Attrs):Nat):Int)))),I i64 (i_1),I i64 k_4,u,u,u,u,u,u,u,u,u,u,u,u,u,u,u,u,u,u,u,u,u,u,u,u,u,u,u,u,u,u,u,u,u,u,u,u,u,u,u,u,u,u,u,u,u,u,u,u,u,u,u,u,u,u,u,u,u,u,u,u,u,u,u,u,u,u,u,u,u,u,u,u,u,u,u,u,u,u,u,u,u,u,u,u,u,u,u,u,u,u,u,u,u,u,u,u,u,u,u,u],[(0,X [L (rows (t_Nodes)) fl0,L (rows (t_Edges)) fl0])],1⟩=M (fun r=>PV.bool r) (qb (Types.mk t_Nodes t_Edges) n_0 i_1 x2 k0 m2 k_4):=by
 intro m2
 induction m2 with
 | zero=>intros;rw [bk];rfl
 | succ m2 ih=>
  intro k_4
  rw [bm]
  simp only [WA,s1,s2,s3,s4,s5,s6,s7,↓reduceIte,NJ,QF,Ng,Db,Tryz.f13,vL,vK,vJ,vI,qb,ih,hk0,K3 h ih]
theorem K2 (h:Hy C R) {t_Nodes:List aE} {t_Edges:List aG} :
  ∀ (m6:Nat) (DU:Int),lp (bw E 13 C) [(Fr.blk 6),(Fr.seq 0 [1,1,1,1,1])] 6 [0,0,1,0,1,1,1,1] m6 ⟨[u,(PV.ptr 0 0),u,u,u,u,u,u,I i64 DU,u,u,u,u,u,u,u,u,u,u,u,u,u,u,u,u,u,u,u,u,u,u,u,u,u,u,u,u,u,u,u,u,u,u,u,u,u,u,u,u,u,u,u,u,u,u,u,u,u,u,u,u,u,u,u,u,u,u,u,u,u,u,u,u,u,u,u,u,u,u,u,u,u,u,u,u,u,u,u,u,u,u,u,u,u,u,u,u,u,u,u,u,u,u,u,u,u],[(0,X [L (rows (t_Nodes)) fl0,L (rows (t_Edges)) fl0])],1⟩=M (fun r=>PV.bool r) (od (Types.mk t_Nodes t_Edges) m6 DU):=by
 intro m6
 induction m6 with
 | zero=>intros;rw [bk];rfl
 | succ m6 ih=>
  intro DU
  rw [bm]
  simp only [WA,s1,s2,s3,s4,s5,s6,s7,↓reduceIte,NJ,QF,Ng,Db,Tryz.f13,vL,vK,vJ,vI,od,ih]
theorem K5 (h:Hy C R) {t_Nodes:List aE} {t_Edges:List aG} :
  ∀ (m0:Nat) (n_0:Int) (i_1:Int),lp (bw E 13 C) [(Fr.blk 0),(Fr.seq 0 [1,1,1,1])] 0 [0,0,1,0,1,1,1] m0 ⟨[u,(PV.ptr 0 0),u,I i64 n_0,I i64 i_1,u,u,u,u,u,u,u,u,u,u,u,u,u,u,u,u,u,u,u,u,u,u,u,u,u,u,u,u,u,u,u,u,u,u,u,u,u,u,u,u,u,u,u,u,u,u,u,u,u,u,u,u,u,u,u,u,u,u,u,u,u,u,u,u,u,u,u,u,u,u,u,u,u,u,u,u,u,u,u,u,u,u,u,u,u,u,u,u,u,u,u,u,u,u,u,u,u,u,u,u,u],[(0,X [L (rows (t_Nodes)) fl0,L (rows (t_Edges)) fl0])],1⟩=M (fun r=>PV.bool r) (og (Types.mk t_Nodes t_Edges) m0 n_0 i_1):=by
 intro m0
 induction m0 with
 | zero=>intros;rw [bk];rfl
 | succ m0 ih=>
  intro n_0 i_1
  rw [bm]
  simp only [WA,s1,s2,s3,s4,s5,s6,s7,↓reduceIte,NJ,QF,Ng,Db,Tryz.f13,vL,vK,vJ,vI,og,ih,K4 h ih,K2 h]
theorem P5 (h:Hy C R) (t_Nodes:List aE) (t_Edges:List aG) :
  C.pureC 13 [PV.agg [L (rows t_Nodes) fl0,L (rows t_Edges) fl0]]=M (fun r=>PV.bool r) (f13 (Types.mk t_Nodes t_Edges)):=by
 rw [aH h.1 (fn:=Tryz.f13) rfl _ rfl rfl rfl]
 simp only [WA,s1,s2,s3,s4,s5,s6,s7,↓reduceIte,NJ,QF,Ng,Db,Tryz.f13,vL,vK,vJ,vI,f13,K5 h]
def f65 (p:Part) (n:Int):Option Bool:=
 (some (decide ((w64 ((((List.length p.Nodes):Nat):Int)+(((List.length p.Edges):Nat):Int)))≤n)))
theorem ad7 (h:Hy C R) (p_Nodes:List Int) (p_Edges:List Int) (n:Int) :
  C.pureC 65 [PV.agg [L (rows p_Nodes) fl0,L (rows p_Edges) fl0],I i64 n]=M (fun r=>PV.bool r) (f65 (Part.mk p_Nodes p_Edges) n):=by
 rw [aH h.1 (fn:=Tryz.f65) rfl _ rfl rfl rfl]
 simp only [WA,s1,s2,s3,s4,s5,s6,s7,↓reduceIte,nt65,co65,re65,ahr,Tryz.f65,f65]
def f67 (R:bI) (c:Condition):Option Bool:=
 (N (bI.f99 R c (40:Int)) fun x0=>
 (some (decide ((0:Int)≤x0))))
theorem ad6 (h:Hy C R) (bz:Int) (br:List Condition) (aM:List Int) (aN:List Int) (ah:List Int) (ai:List Edge) (aB:List Slot) (aF:Int) (aA:List Test) :
  C.pureC 67 [PV.agg [I i64 bz,L (rows br) fl0,L (rows aM) fl0,L (rows aN) fl0,L (rows ah) fl0,L (rows ai) fl0,L (rows aB) fl0,I i64 aF,L (rows aA) fl0]]=M (fun r=>PV.bool r) (f67 R (Condition.mk bz br (aQ.mk aM aN) (Pattern.mk (Graph.mk ah ai) aB aF aA))):=by
 rw [aH h.1 (fn:=Tryz.f67) rfl _ rfl rfl rfl]
 simp only [WA,s1,s2,s3,s4,s5,s6,s7,↓reduceIte,nt67,co67,re67,ahq,Tryz.f67,ac6,abx,h.2.f99,f67]
def f43 (R:bI) (r:bJ):Option Bool:=
 (if (decide ((((ByteArray.size r.Name):Nat):Int)≤(60:Int))) then
 (N (f64 r.Left) fun x0=>
 (if x0 then
 (N (f64 r.Right) fun x1=>
 (if x1 then
 (N (f65 r.Keep (140:Int)) fun x2=>
 (if x2 then
 (N (f66 r.Into (140:Int)) fun x3=>
 (if x3 then
 (N (f67 R r.Condition) fun x4=>
 (some x4))
 else (some false)))
 else (some false)))
 else (some false)))
 else (some false)))
 else (some false))
theorem PI (h:Hy C R) (bD:ByteArray) (aC:List Int) (aD:List Edge) (aT:List Slot) (aZ:Int) (aS:List Test) (ay:List Int) (az:List Edge) (aO:List Slot) (aR:Int) (aP:List Test) (aU:List Int) (aV:List Int) (aW:List Int) (aX:List Int) (ba:Bool) (aI:Int) (aJ:List Condition) (aq:List Int) (ar:List Int) (ab:List Int) (ag:List Edge) (ak:List Slot) (al:Int) (aj:List Test) :
  C.pureC 43 [PV.agg [PV.str bD,L (rows aC) fl0,L (rows aD) fl0,L (rows aT) fl0,I i64 aZ,L (rows aS) fl0,L (rows ay) fl0,L (rows az) fl0,L (rows aO) fl0,I i64 aR,L (rows aP) fl0,L (rows aU) fl0,L (rows aV) fl0,L (rows aW) fl0,L (rows aX) fl0,PV.bool ba,I i64 aI,L (rows aJ) fl0,L (rows aq) fl0,L (rows ar) fl0,L (rows ab) fl0,L (rows ag) fl0,L (rows ak) fl0,I i64 al,L (rows aj) fl0]]=M (fun r=>PV.bool r) (f43 R (bJ.mk bD (Pattern.mk (Graph.mk aC aD) aT aZ aS) (Pattern.mk (Graph.mk ay az) aO aR aP) (Part.mk aU aV) (aQ.mk aW aX) ba (Condition.mk aI aJ (aQ.mk aq ar) (Pattern.mk (Graph.mk ab ag) ak al aj)))):=by
 rw [aH h.1 (fn:=Tryz.f43) rfl _ rfl rfl rfl]
 simp only [WA,s1,s2,s3,s4,s5,s6,s7,↓reduceIte,nt43,co43,re43,abD,Tryz.f43,adf,Sl,ir65,ahr,ade,Sk,ir67,ahq,Eg h,Ef h,ad7 h,ad6 h,f43]
def pW (R:bI) (rules:List bJ):Nat→Int→Option Bool
 | 0,_=>none
 | m0+1,i_0=>
 (if (decide (i_0<(((List.length rules):Nat):Int))) then
 (N (at? rules i_0) fun x1=>
 (N (f43 R x1) fun x2=>
 (if (!x2) then
 (some false)
 else (pW R rules m0 (w64 (i_0+(1:Int)))))))
 else (some true))
def f25 (R:bI) (rules:List bJ):Option Bool:=
 (if (decide ((8:Int)<(((List.length rules):Nat):Int))) then
 (some false)
 else (pW R rules ax (0:Int)))
theorem K1 (h:Hy C R) {rules:List bJ} :
  ∀ (m0:Nat) (i_0:Int),lp (bw E 25 C) [(Fr.blk 0),(Fr.seq 0 [1,1,1])] 0 [0,0,1,0,1,1] m0 ⟨[L (rows (rules)) fl0,u,u,I i64 i_0,u,u,u,u,u,u,u,u,u,u,u,u,u,u,u],[],0⟩=M (fun r=>PV.bool r) (pW R rules m0 i_0):=by
 intro m0
 induction m0 with
 | zero=>intros;rw [bk];rfl
 | succ m0 ih=>
  intro i_0
  rw [bm]
  simp only [WA,s1,s2,s3,s4,s5,s6,s7,↓reduceIte,aj2,arf,ahT,Sn,Tryz.f25,Oo,ama,abD,PI h,pW,ih]
theorem PM (h:Hy C R) (rules:List bJ) :
  C.pureC 25 [L (rows rules) fl0]=M (fun r=>PV.bool r) (f25 R rules):=by
 rw [aH h.1 (fn:=Tryz.f25) rfl _ rfl rfl rfl]
 simp only [WA,s1,s2,s3,s4,s5,s6,s7,↓reduceIte,aj2,arf,ahT,Sn,Tryz.f25,Oo,ama,abD,PI h,f25,K1 h]
def iW (p:Pattern) (i:Int) (x0:Slot):Nat→Int→Option Int
 | 0,_=>none
 | m0+1,k_3=>
 (if (decide (k_3<i)) then
 (N (at? p.Slots k_3) fun x4=>
 (if (x4.Node == x0.Node) then
 (N (at? p.Slots k_3) fun x5=>
 (if (x5.Attr == x0.Attr) then
 (some (5:Int))
 else (iW p i x0 m0 (w64 (k_3+(1:Int))))))
 else (iW p i x0 m0 (w64 (k_3+(1:Int))))))
 else (some (0:Int)))
def f138 (R:bI) (t:Types) (p:Pattern) (i:Int):Option Int:=
 (N (at? p.Slots i) fun x0=>
 (if (decide (x0.Node<(0:Int))) then
 (some (6:Int))
 else (if (decide ((((List.length p.Graph.Nodes):Nat):Int)≤x0.Node)) then
 (some (6:Int))
 else (N (at? p.Graph.Nodes x0.Node) fun x1=>
 (N (f164 R t x1) fun x2=>
 (if (decide (x0.Attr<(0:Int))) then
 (some (6:Int))
 else (if (decide ((((List.length (x2).1):Nat):Int)≤x0.Attr)) then
 (some (6:Int))
 else (if (decide (x0.Term.Var<(-(1:Int)))) then
 (some (6:Int))
 else (if (decide (p.Vars≤x0.Term.Var)) then
 (some (6:Int))
 else (if (decide (x0.Term.Add<(-(1000000:Int)))) then
 (some (6:Int))
 else (if (decide ((1000000:Int)<x0.Term.Add)) then
 (some (6:Int))
 else (iW p i x0 ax (0:Int)))))))))))))
theorem E9 (h:Hy C R) {bc:List Int} {bd:List Edge} {bC:List Slot} {bK:Int} {bF:List Test} {i:Int} {x0:Slot} :
  ∀ (m0:Nat) (k_3:Int),lp (bw E 138 C) [(Fr.blk 0),(Fr.seq 0 [1,1,1,1,1,1])] 0 [0,0,1,0,1,1,1,1,1] m0 ⟨[u,u,I i64 (i),u,(PV.ptr 0 0),u,u,(PV.ptr 1 0),u,u,I i64 k_3,u,u,u,u,u,u,u,u,u,u,u,u,u,u,u,u,u,u,u,u,u,u,u,u,u,u,u,u,u,u,u,u,u,u,u,u,u,u,u,u,u,u,u,u,u,u,u,u,u,u,u,u,u,u,u,u,u,u,u,u,u,u,u,u,u,u,u,u,u,u,u,u,u,u,u,u,u,u,u,u,u,u,u,u,u,u,u,u,u,u],[(0,X [L (rows (bc)) fl0,L (rows (bd)) fl0,L (rows (bC)) fl0,I i64 (bK),L (rows (bF)) fl0]),(1,X [I i64 (x0.Node),I i64 (x0.Attr),I i64 (x0.Term.Var),I i64 (x0.Term.Add)])],2⟩=M (fun r=>I i64 r) (iW (Pattern.mk (Graph.mk bc bd) bC bK bF) i x0 m0 k_3):=by
 intro m0
 induction m0 with
 | zero=>intros;rw [bk];rfl
 | succ m0 ih=>
  intro k_3
  rw [bm]
  simp only [WA,s1,s2,s3,s4,s5,s6,s7,↓reduceIte,Yj,Z0,Xy,GC,Tryz.f138,HI,GX,Br,OY,A8,Ae h,iW,ih]
theorem IK (h:Hy C R) (t_Nodes:List aE) (t_Edges:List aG) (bc:List Int) (bd:List Edge) (bC:List Slot) (bK:Int) (bF:List Test) (i:Int) :
  C.pureC 138 [PV.agg [L (rows t_Nodes) fl0,L (rows t_Edges) fl0],PV.agg [L (rows bc) fl0,L (rows bd) fl0,L (rows bC) fl0,I i64 bK,L (rows bF) fl0],I i64 i]=M (fun r=>I i64 r) (f138 R (Types.mk t_Nodes t_Edges) (Pattern.mk (Graph.mk bc bd) bC bK bF) i):=by
 rw [aH h.1 (fn:=Tryz.f138) rfl _ rfl rfl rfl]
 simp only [WA,s1,s2,s3,s4,s5,s6,s7,↓reduceIte,Yj,Z0,Xy,GC,Tryz.f138,HI,GX,Br,OY,A8,Ae h,f138,E9 h]
def mI (R:bI) (t:Types) (r:bJ):Nat→Int→Option Int
 | 0,_=>none
 | m0+1,i_2=>
 (if (decide (i_2<(((List.length r.Right.Slots):Nat):Int))) then
 (N (f138 R t r.Right i_2) fun x3=>
 (if (!(x3 == (0:Int))) then
 (some x3)
 else (mI R t r m0 (w64 (i_2+(1:Int))))))
 else (some (0:Int)))
def f105 (R:bI) (t:Types) (r:bJ):Option Int:=
 (N (f57 r.Right.Graph) fun x0=>
 (if (!(x0 == (0:Int))) then
 (some x0)
 else (N (f133 t r.Right.Graph) fun x1=>
 (if (!x1) then
 (some (13:Int))
 else (if (!(r.Right.Vars == r.Left.Vars)) then
 (some (1:Int))
 else (if (decide ((0:Int)<(((List.length r.Right.Tests):Nat):Int))) then
 (some (1:Int))
 else (if (decide ((10:Int)<(((List.length r.Right.Slots):Nat):Int))) then
 (some (3:Int))
 else (mI R t r ax (0:Int)))))))))
theorem Ft (h:Hy C R) {t_Nodes:List aE} {t_Edges:List aG} {bD:ByteArray} {aC:List Int} {aD:List Edge} {aT:List Slot} {aZ:Int} {aS:List Test} {ay:List Int} {az:List Edge} {aO:List Slot} {aR:Int} {aP:List Test} {aU:List Int} {aV:List Int} {aW:List Int} {aX:List Int} {ba:Bool} {aI:Int} {aJ:List Condition} {aq:List Int} {ar:List Int} {ab:List Int} {ag:List Edge} {ak:List Slot} {al:Int} {aj:List Test} :
  ∀ (m0:Nat) (i_2:Int),lp (bw E 105 C) [(Fr.blk 0),(Fr.seq 0 [1,1,1,1,1,1])] 0 [0,0,1,0,1,1,1,1,1] m0 ⟨[u,u,(PV.ptr 0 0),(PV.ptr 1 0),u,u,I i64 i_2,u,u,u,u,u,u,u,u,u,u,u,u,u,u,u,u,u,u,u,u,u,u,u,u,u,u,u,u,u,u,u,u,u,u,u,u,u,u,u,u,u,u,u,u,u,u,u,u,u],[(0,X [L (rows (t_Nodes)) fl0,L (rows (t_Edges)) fl0]),(1,X [PV.str (bD),L (rows (aC)) fl0,L (rows (aD)) fl0,L (rows (aT)) fl0,I i64 (aZ),L (rows (aS)) fl0,L (rows (ay)) fl0,L (rows (az)) fl0,L (rows (aO)) fl0,I i64 (aR),L (rows (aP)) fl0,L (rows (aU)) fl0,L (rows (aV)) fl0,L (rows (aW)) fl0,L (rows (aX)) fl0,PV.bool (ba),I i64 (aI),L (rows (aJ)) fl0,L (rows (aq)) fl0,L (rows (ar)) fl0,L (rows (ab)) fl0,L (rows (ag)) fl0,L (rows (ak)) fl0,I i64 (al),L (rows (aj)) fl0])],2⟩=M (fun r=>I i64 r) (mI R (Types.mk t_Nodes t_Edges) (bJ.mk bD (Pattern.mk (Graph.mk aC aD) aT aZ aS) (Pattern.mk (Graph.mk ay az) aO aR aP) (Part.mk aU aV) (aQ.mk aW aX) ba (Condition.mk aI aJ (aQ.mk aq ar) (Pattern.mk (Graph.mk ab ag) ak al aj))) m0 i_2):=by
 intro m0
 induction m0 with
 | zero=>intros;rw [bk];rfl
 | succ m0 ih=>
  intro i_2
  rw [bm]
  simp only [WA,s1,s2,s3,s4,s5,s6,s7,↓reduceIte,Yq,Z7,XF,M0,Tryz.f105,HP,zI,th,BN,sH,Y7,GC,l7 h,q7 h,IK h,mI,ih]
theorem UX (h:Hy C R) (t_Nodes:List aE) (t_Edges:List aG) (bD:ByteArray) (aC:List Int) (aD:List Edge) (aT:List Slot) (aZ:Int) (aS:List Test) (ay:List Int) (az:List Edge) (aO:List Slot) (aR:Int) (aP:List Test) (aU:List Int) (aV:List Int) (aW:List Int) (aX:List Int) (ba:Bool) (aI:Int) (aJ:List Condition) (aq:List Int) (ar:List Int) (ab:List Int) (ag:List Edge) (ak:List Slot) (al:Int) (aj:List Test) :
  C.pureC 105 [PV.agg [L (rows t_Nodes) fl0,L (rows t_Edges) fl0],PV.agg [PV.str bD,L (rows aC) fl0,L (rows aD) fl0,L (rows aT) fl0,I i64 aZ,L (rows aS) fl0,L (rows ay) fl0,L (rows az) fl0,L (rows aO) fl0,I i64 aR,L (rows aP) fl0,L (rows aU) fl0,L (rows aV) fl0,L (rows aW) fl0,L (rows aX) fl0,PV.bool ba,I i64 aI,L (rows aJ) fl0,L (rows aq) fl0,L (rows ar) fl0,L (rows ab) fl0,L (rows ag) fl0,L (rows ak) fl0,I i64 al,L (rows aj) fl0]]=M (fun r=>I i64 r) (f105 R (Types.mk t_Nodes t_Edges) (bJ.mk bD (Pattern.mk (Graph.mk aC aD) aT aZ aS) (Pattern.mk (Graph.mk ay az) aO aR aP) (Part.mk aU aV) (aQ.mk aW aX) ba (Condition.mk aI aJ (aQ.mk aq ar) (Pattern.mk (Graph.mk ab ag) ak al aj)))):=by
 rw [aH h.1 (fn:=Tryz.f105) rfl _ rfl rfl rfl]
 simp only [WA,s1,s2,s3,s4,s5,s6,s7,↓reduceIte,Yq,Z7,XF,M0,Tryz.f105,HP,zI,th,BN,sH,Y7,GC,l7 h,q7 h,IK h,f105,Ft h]
def j9 (l:List Int) (n:Int):Nat→Int→Option Int
 | 0,_=>none
 | m0+1,i_0=>
 (if (decide (i_0<(((List.length l):Nat):Int))) then
 (N (at? l i_0) fun x1=>
 (if (decide (x1<(0:Int))) then
 (some (6:Int))
 else (N (at? l i_0) fun x2=>
 (if (decide (n≤x2)) then
 (some (6:Int))
 else (if (decide ((0:Int)<i_0)) then
 (N (at? l i_0) fun x3=>
 (N (at? l (w64 (i_0 - (1:Int)))) fun x4=>
 (if (decide (x3≤x4)) then
 (some (12:Int))
 else (j9 l n m0 (w64 (i_0+(1:Int)))))))
 else (j9 l n m0 (w64 (i_0+(1:Int)))))))))
 else (some (0:Int)))
def f194 (l:List Int) (n:Int):Option Int:=
 (j9 l n ax (0:Int))
theorem EI (h:Hy C R) {l:List Int} {n:Int} :
  ∀ (m0:Nat) (i_0:Int),lp (bw E 194 C) [(Fr.blk 0),(Fr.seq 0 [1,1])] 0 [0,0,1,0,1] m0 ⟨[L (rows (l)) fl0,I i64 (n),u,u,u,I i64 i_0,u,u,u,u,u,u,u,u,u,u,u,u,u,u,u,u,u,u,u,u,u,u,u,u,u,u,u,u,u,u,u,u,u],[],0⟩=M (fun r=>I i64 r) (j9 l n m0 i_0):=by
 intro m0
 induction m0 with
 | zero=>intros;rw [bk];rfl
 | succ m0 ih=>
  intro i_0
  rw [bm]
  simp only [WA,s1,s2,s3,s4,s5,s6,s7,↓reduceIte,XX,ZE,Xc,Gp,Tryz.f194,Hl,GV,j9,ih]
theorem Iw (h:Hy C R) (l:List Int) (n:Int) :
  C.pureC 194 [L (rows l) fl0,I i64 n]=M (fun r=>I i64 r) (f194 l n):=by
 rw [aH h.1 (fn:=Tryz.f194) rfl _ rfl rfl rfl]
 simp only [WA,s1,s2,s3,s4,s5,s6,s7,↓reduceIte,XX,ZE,Xc,Gp,Tryz.f194,Hl,GV,f194,EI h]
def mo (l:List Int) (n:Int):Nat→Int→Option Bool
 | 0,_=>none
 | m0+1,i_0=>
 (if (decide (i_0<(((List.length l):Nat):Int))) then
 (N (at? l i_0) fun x1=>
 (if (x1 == n) then
 (some true)
 else (mo l n m0 (w64 (i_0+(1:Int))))))
 else (some false))
def f195 (l:List Int) (n:Int):Option Bool:=
 (mo l n ax (0:Int))
theorem EH (h:Hy C R) {l:List Int} {n:Int} :
  ∀ (m0:Nat) (i_0:Int),lp (bw E 195 C) [(Fr.blk 0),(Fr.seq 0 [1,1])] 0 [0,0,1,0,1] m0 ⟨[L (rows (l)) fl0,I i64 (n),u,u,u,I i64 i_0,u,u,u,u,u,u,u,u,u,u,u,u],[],0⟩=M (fun r=>PV.bool r) (mo l n m0 i_0):=by
 intro m0
 induction m0 with
 | zero=>intros;rw [bk];rfl
 | succ m0 ih=>
  intro i_0
  rw [bm]
  simp only [WA,s1,s2,s3,s4,s5,s6,s7,↓reduceIte,XW,ZD,Xb,Gn,Tryz.f195,Hk,mo,ih]
theorem Iv (h:Hy C R) (l:List Int) (n:Int) :
  C.pureC 195 [L (rows l) fl0,I i64 n]=M (fun r=>PV.bool r) (f195 l n):=by
 rw [aH h.1 (fn:=Tryz.f195) rfl _ rfl rfl rfl]
 simp only [WA,s1,s2,s3,s4,s5,s6,s7,↓reduceIte,XW,ZD,Xb,Gn,Tryz.f195,Hk,f195,EH h]
def mz (g:Graph) (p:Part):Nat→Int→Option Int
 | 0,_=>none
 | m0+1,i_2=>
 (if (decide (i_2<(((List.length p.Edges):Nat):Int))) then
 (N (at? p.Edges i_2) fun x3=>
 (N (at? g.Edges x3) fun x4=>
 (N (f195 p.Nodes x4.From) fun x5=>
 (if (!x5) then
 (some (14:Int))
 else (N (f195 p.Nodes x4.To) fun x6=>
 (if (!x6) then
 (some (14:Int))
 else (mz g p m0 (w64 (i_2+(1:Int))))))))))
 else (some (0:Int)))
def f166 (g:Graph) (p:Part):Option Int:=
 (N (f194 p.Nodes (((List.length g.Nodes):Nat):Int)) fun x0=>
 (if (!(x0 == (0:Int))) then
 (some x0)
 else (N (f194 p.Edges (((List.length g.Edges):Nat):Int)) fun x1=>
 (if (!(x1 == (0:Int))) then
 (some x1)
 else (mz g p ax (0:Int))))))
theorem EW (h:Hy C R) {g_Nodes:List Int} {g_Edges:List Edge} {p_Nodes:List Int} {p_Edges:List Int} :
  ∀ (m0:Nat) (i_2:Int),lp (bw E 166 C) [(Fr.blk 0),(Fr.seq 0 [1,1,1,1])] 0 [0,0,1,0,1,1,1] m0 ⟨[u,u,(PV.ptr 0 0),(PV.ptr 1 0),u,u,u,I i64 i_2,u,u,u,u,u,u,u,u,u,u,u,u,u,u,u,u,u,u,u,u,u,u,u,u,u,u,u,u,u,u,u,u,u,u,u,u,u,u,u,u,u,u,u,u,u,u,u,u,u],[(0,X [L (rows (g_Nodes)) fl0,L (rows (g_Edges)) fl0]),(1,X [L (rows (p_Nodes)) fl0,L (rows (p_Edges)) fl0])],2⟩=M (fun r=>I i64 r) (mz (Graph.mk g_Nodes g_Edges) (Part.mk p_Nodes p_Edges) m0 i_2):=by
 intro m0
 induction m0 with
 | zero=>intros;rw [bk];rfl
 | succ m0 ih=>
  intro i_2
  rw [bm]
  simp only [WA,s1,s2,s3,s4,s5,s6,s7,↓reduceIte,Yd,ZU,Xs,MN,Tryz.f166,HC,Bn,YS,Gp,YR,Gn,Iw h,Iv h,mz,ih]
theorem UD (h:Hy C R) (g_Nodes:List Int) (g_Edges:List Edge) (p_Nodes:List Int) (p_Edges:List Int) :
  C.pureC 166 [PV.agg [L (rows g_Nodes) fl0,L (rows g_Edges) fl0],PV.agg [L (rows p_Nodes) fl0,L (rows p_Edges) fl0]]=M (fun r=>I i64 r) (f166 (Graph.mk g_Nodes g_Edges) (Part.mk p_Nodes p_Edges)):=by
 rw [aH h.1 (fn:=Tryz.f166) rfl _ rfl rfl rfl]
 simp only [WA,s1,s2,s3,s4,s5,s6,s7,↓reduceIte,Yd,ZU,Xs,MN,Tryz.f166,HC,Bn,YS,Gp,YR,Gn,Iw h,Iv h,f166,EW h]
def f139 (g:Graph) (p:Part):Option Int:=
 (N (f57 g) fun x0=>
 (if (!(x0 == (0:Int))) then
 (some x0)
 else (N (f166 g p) fun x1=>
 (some x1))))
theorem tS (h:Hy C R) (g_Nodes:List Int) (g_Edges:List Edge) (p_Nodes:List Int) (p_Edges:List Int) :
  C.pureC 139 [PV.agg [L (rows g_Nodes) fl0,L (rows g_Edges) fl0],PV.agg [L (rows p_Nodes) fl0,L (rows p_Edges) fl0]]=M (fun r=>I i64 r) (f139 (Graph.mk g_Nodes g_Edges) (Part.mk p_Nodes p_Edges)):=by
 rw [aH h.1 (fn:=Tryz.f139) rfl _ rfl rfl rfl]
 simp only [WA,s1,s2,s3,s4,s5,s6,s7,↓reduceIte,ak5,asn,aiX,Bb,Tryz.f139,zI,th,amH,MN,l7 h,UD h,f139]
def my (l:List Int) (n:Int):Nat→Int→Option Int
 | 0,_=>none
 | m0+1,i_0=>
 (if (decide (i_0<(((List.length l):Nat):Int))) then
 (N (at? l i_0) fun x1=>
 (if (x1 == n) then
 (some i_0)
 else (my l n m0 (w64 (i_0+(1:Int))))))
 else (some (-(1:Int))))
def f167 (l:List Int) (n:Int):Option Int:=
 (my l n ax (0:Int))
theorem EV (h:Hy C R) {l:List Int} {n:Int} :
  ∀ (m0:Nat) (i_0:Int),lp (bw E 167 C) [(Fr.blk 0),(Fr.seq 0 [1,1])] 0 [0,0,1,0,1] m0 ⟨[L (rows (l)) fl0,I i64 (n),u,u,u,I i64 i_0,u,u,u,u,u,u,u,u,u,u,u,u,u],[],0⟩=M (fun r=>I i64 r) (my l n m0 i_0):=by
 intro m0
 induction m0 with
 | zero=>intros;rw [bk];rfl
 | succ m0 ih=>
  intro i_0
  rw [bm]
  simp only [WA,s1,s2,s3,s4,s5,s6,s7,↓reduceIte,Yc,ZT,Xr,A7,Tryz.f167,HB,my,ih]
theorem Ad (h:Hy C R) (l:List Int) (n:Int) :
  C.pureC 167 [L (rows l) fl0,I i64 n]=M (fun r=>I i64 r) (f167 l n):=by
 rw [aH h.1 (fn:=Tryz.f167) rfl _ rfl rfl rfl]
 simp only [WA,s1,s2,s3,s4,s5,s6,s7,↓reduceIte,Yc,ZT,Xr,A7,Tryz.f167,HB,f167,EV h]
def ko (g:Graph) (p:Part) (out_1:List Int):Nat→(List Edge)→Int→Option (Graph × aQ × Int)
 | 0,_,_=>none
 | m2+1,im,i_6=>
 (if (decide (i_6<(((List.length p.Edges):Nat):Int))) then
 (N (at? p.Edges i_6) fun x7=>
 (N (at? g.Edges x7) fun x8=>
 (N (f167 p.Nodes x8.From) fun x9=>
 (N (f167 p.Nodes x8.To) fun x10=>
 (if (decide ((List.length (im ++ [(Edge.mk x8.Type_ x9 x10)]))≤bound)) then
 (ko g p out_1 m2 (im ++ [(Edge.mk x8.Type_ x9 x10)]) (w64 (i_6+(1:Int))))
 else none)))))
 else (if (decide ((List.length p.Nodes)≤bound)) then
 (if (decide ((List.length p.Edges)≤bound)) then
 (some ((Graph.mk out_1 im),(aQ.mk p.Nodes p.Edges),(0:Int)))
 else none)
 else none))
def mC (g:Graph) (p:Part):Nat→(List Int)→Int→Option (Graph × aQ × Int)
 | 0,_,_=>none
 | m0+1,out_1,i_2=>
 (if (decide (i_2<(((List.length p.Nodes):Nat):Int))) then
 (N (at? p.Nodes i_2) fun x3=>
 (N (at? g.Nodes x3) fun x4=>
 (if (decide ((List.length (out_1 ++ [x4]))≤bound)) then
 (mC g p m0 (out_1 ++ [x4]) (w64 (i_2+(1:Int))))
 else none)))
 else (ko g p out_1 ax ([]:List Edge) (0:Int)))
def f140 (g:Graph) (p:Part):Option (Graph × aQ × Int):=
 (N (f139 g p) fun x0=>
 (if (!(x0 == (0:Int))) then
 (some ((Graph.mk ([]:List Int) ([]:List Edge)),(aQ.mk ([]:List Int) ([]:List Int)),x0))
 else (mC g p ax ([]:List Int) (0:Int))))
theorem E7 (h:Hy C R) {g_Nodes:List Int} {g_Edges:List Edge} {p_Nodes:List Int} {p_Edges:List Int} {out_1:List Int} :
  ∀ (m2:Nat) (im:List Edge) (i_6:Int) (px:Nat),px=List.length im→lp (bw E 140 C) [(Fr.blk 2),(Fr.seq 0 [1,1,1,1,1])] 2 [0,0,1,0,1,1,1,1] m2 ⟨[u,u,(PV.ptr 0 0),(PV.ptr 1 0),(PV.ptr 2 0),(PV.ptr 3 0),u,u,(PV.ptr 4 0),u,I i64 i_6,u,u,u,u,u,u,u,u,u,u,u,u,u,u,u,u,u,u,u,u,u,u,u,u,u,u,u,u,u,u,u,u,u,u,u,u,u,u,u,u,u,u,u,u,u,u,u,u,u,u,u,u,u,u,u,u,u,u,u,u,u,u,u,u,u,u,u,u,u,u,u,u,u,u],[(0,X [L (rows (g_Nodes)) fl0,L (rows (g_Edges)) fl0]),(1,X [L (rows (p_Nodes)) fl0,L (rows (p_Edges)) fl0]),(2,X [PV.bp,PV.bp]),(3,X [PV.bp,PV.bp]),(4,X [PV.own 5 1 0 (List.length out_1),PV.own 6 3 0 px]),(5,Y 1 (rows (out_1)) false false),(6,Y 3 (rows im) false false)],7⟩=M (fun r=>PV.tup [PV.agg [L (rows r.1.Nodes) ⟨true,false⟩,L (rows r.1.Edges) ⟨true,false⟩],PV.agg [L (rows r.2.1.Nodes) ⟨true,false⟩,L (rows r.2.1.Edges) ⟨true,false⟩],I i64 r.2.2]) (ko (Graph.mk g_Nodes g_Edges) (Part.mk p_Nodes p_Edges) out_1 m2 im i_6):=by
 intro m2
 induction m2 with
 | zero=>intros;rw [bk];rfl
 | succ m2 ih=>
  intro im i_6 px D4
  subst D4
  rw [bm]
  simp only [WA,s1,s2,s3,s4,s5,s6,s7,↓reduceIte,NG,QC,Nc,GB,Tryz.f140,zt,zr,yT,vl,vk,vj,H4,Bb,OX,A7,tS h,Ad h,ko,ih]
theorem E8 (h:Hy C R) {g_Nodes:List Int} {g_Edges:List Edge} {p_Nodes:List Int} {p_Edges:List Int} :
  ∀ (m0:Nat) (out_1:List Int) (i_2:Int) (dN:Nat),dN=List.length out_1→lp (bw E 140 C) [(Fr.blk 0),(Fr.seq 0 [1,1,1,1])] 0 [0,0,1,0,1,1,1] m0 ⟨[u,u,(PV.ptr 0 0),(PV.ptr 1 0),(PV.ptr 2 0),(PV.ptr 3 0),u,u,(PV.ptr 4 0),I i64 i_2,u,u,u,u,u,u,u,u,u,u,u,u,u,u,u,u,u,u,u,u,u,u,u,u,u,u,u,u,u,u,u,u,u,u,u,u,u,u,u,u,u,u,u,u,u,u,u,u,u,u,u,u,u,u,u,u,u,u,u,u,u,u,u,u,u,u,u,u,u,u,u,u,u,u,u],[(0,X [L (rows (g_Nodes)) fl0,L (rows (g_Edges)) fl0]),(1,X [L (rows (p_Nodes)) fl0,L (rows (p_Edges)) fl0]),(2,X [PV.bp,PV.bp]),(3,X [PV.bp,PV.bp]),(4,X [PV.own 5 1 0 dN,PV.bp]),(5,Y 1 (rows out_1) false false)],6⟩=M (fun r=>PV.tup [PV.agg [L (rows r.1.Nodes) ⟨true,false⟩,L (rows r.1.Edges) ⟨true,false⟩],PV.agg [L (rows r.2.1.Nodes) ⟨true,false⟩,L (rows r.2.1.Edges) ⟨true,false⟩],I i64 r.2.2]) (mC (Graph.mk g_Nodes g_Edges) (Part.mk p_Nodes p_Edges) m0 out_1 i_2):=by
 intro m0
 induction m0 with
 | zero=>intros;rw [bk];rfl
 | succ m0 ih=>
  intro out_1 i_2 dN jE
  subst jE
  have sZ:=fun (g_Nodes:List Int) (g_Edges:List Edge) (p_Nodes:List Int) (p_Edges:List Int) (out_1:List Int) (e2:Int)=>E7 (C:=C) (R:=R) (g_Nodes:=g_Nodes) (g_Edges:=g_Edges) (p_Nodes:=p_Nodes) (p_Edges:=p_Edges) (out_1:=out_1) h ax (([]:List Edge)) e2 _ rfl
  simp only [cA,cf,cc,bV,cg,bU,WS,List.length_nil,List.length_cons,Nat.reduceAdd] at sZ
  rw [bm]
  simp only [WA,s1,s2,s3,s4,s5,s6,s7,↓reduceIte,NG,QC,Nc,GB,Tryz.f140,zt,zr,yT,vl,vk,vj,H4,Bb,OX,A7,tS h,Ad h,mC,ih,sZ]
theorem UK (h:Hy C R) (g_Nodes:List Int) (g_Edges:List Edge) (p_Nodes:List Int) (p_Edges:List Int) :
  C.pureC 140 [PV.agg [L (rows g_Nodes) fl0,L (rows g_Edges) fl0],PV.agg [L (rows p_Nodes) fl0,L (rows p_Edges) fl0]]=M (fun r=>PV.tup [PV.agg [L (rows r.1.Nodes) ⟨true,false⟩,L (rows r.1.Edges) ⟨true,false⟩],PV.agg [L (rows r.2.1.Nodes) ⟨true,false⟩,L (rows r.2.1.Edges) ⟨true,false⟩],I i64 r.2.2]) (f140 (Graph.mk g_Nodes g_Edges) (Part.mk p_Nodes p_Edges)):=by
 have dg:=fun (g_Nodes:List Int) (g_Edges:List Edge) (p_Nodes:List Int) (p_Edges:List Int) (e1:Int)=>E8 (C:=C) (R:=R) (g_Nodes:=g_Nodes) (g_Edges:=g_Edges) (p_Nodes:=p_Nodes) (p_Edges:=p_Edges) h ax (([]:List Int)) e1 _ rfl
 simp only [cA,cf,cc,bV,cg,bU,WS,List.length_nil,List.length_cons,Nat.reduceAdd] at dg
 rw [aH h.1 (fn:=Tryz.f140) rfl _ rfl rfl rfl]
 simp only [WA,s1,s2,s3,s4,s5,s6,s7,↓reduceIte,NG,QC,Nc,GB,Tryz.f140,zt,zr,yT,vl,vk,vj,H4,Bb,OX,A7,tS h,Ad h,f140,dg]
def f106 (r:bJ):Option Int:=
 (N (f139 r.Left.Graph r.Keep) fun x0=>
 (if (!(x0 == (0:Int))) then
 (some x0)
 else (N (f140 r.Left.Graph r.Keep) fun x1=>
 (N (f141 (x1).1 r.Right.Graph r.Into) fun x2=>
 (some x2)))))
theorem UW (h:Hy C R) (bD:ByteArray) (aC:List Int) (aD:List Edge) (aT:List Slot) (aZ:Int) (aS:List Test) (ay:List Int) (az:List Edge) (aO:List Slot) (aR:Int) (aP:List Test) (aU:List Int) (aV:List Int) (aW:List Int) (aX:List Int) (ba:Bool) (aI:Int) (aJ:List Condition) (aq:List Int) (ar:List Int) (ab:List Int) (ag:List Edge) (ak:List Slot) (al:Int) (aj:List Test) :
  C.pureC 106 [PV.agg [PV.str bD,L (rows aC) fl0,L (rows aD) fl0,L (rows aT) fl0,I i64 aZ,L (rows aS) fl0,L (rows ay) fl0,L (rows az) fl0,L (rows aO) fl0,I i64 aR,L (rows aP) fl0,L (rows aU) fl0,L (rows aV) fl0,L (rows aW) fl0,L (rows aX) fl0,PV.bool ba,I i64 aI,L (rows aJ) fl0,L (rows aq) fl0,L (rows ar) fl0,L (rows ab) fl0,L (rows ag) fl0,L (rows ak) fl0,I i64 al,L (rows aj) fl0]]=M (fun r=>I i64 r) (f106 (bJ.mk bD (Pattern.mk (Graph.mk aC aD) aT aZ aS) (Pattern.mk (Graph.mk ay az) aO aR aP) (Part.mk aU aV) (aQ.mk aW aX) ba (Condition.mk aI aJ (aQ.mk aq ar) (Pattern.mk (Graph.mk ab ag) ak al aj)))):=by
 rw [aH h.1 (fn:=Tryz.f106) rfl _ rfl rfl rfl]
 simp only [WA,s1,s2,s3,s4,s5,s6,s7,↓reduceIte,alo,asF,ajf,WK,Tryz.f106,H4,Bb,amQ,GB,H3,uO,tR h,tS h,UK h,f106]
def mw (l:List Int) (n:Int):Nat→Int→Option Bool
 | 0,_=>none
 | m0+1,i_0=>
 (if (decide (i_0<(((List.length l):Nat):Int))) then
 (N (at? l i_0) fun x1=>
 (if (x1 == n) then
 (some true)
 else (mw l n m0 (w64 (i_0+(1:Int))))))
 else (some false))
def f168 (l:List Int) (n:Int):Option Bool:=
 (mw l n ax (0:Int))
theorem EU (h:Hy C R) {l:List Int} {n:Int} :
  ∀ (m0:Nat) (i_0:Int),lp (bw E 168 C) [(Fr.blk 0),(Fr.seq 0 [1,1])] 0 [0,0,1,0,1] m0 ⟨[L (rows (l)) fl0,I i64 (n),u,u,u,I i64 i_0,u,u,u,u,u,u,u,u,u,u,u,u],[],0⟩=M (fun r=>PV.bool r) (mw l n m0 i_0):=by
 intro m0
 induction m0 with
 | zero=>intros;rw [bk];rfl
 | succ m0 ih=>
  intro i_0
  rw [bm]
  simp only [WA,s1,s2,s3,s4,s5,s6,s7,↓reduceIte,Yb,ZS,Xq,Gw,Tryz.f168,HA,mw,ih]
theorem IE (h:Hy C R) (l:List Int) (n:Int) :
  C.pureC 168 [L (rows l) fl0,I i64 n]=M (fun r=>PV.bool r) (f168 l n):=by
 rw [aH h.1 (fn:=Tryz.f168) rfl _ rfl rfl rfl]
 simp only [WA,s1,s2,s3,s4,s5,s6,s7,↓reduceIte,Yb,ZS,Xq,Gw,Tryz.f168,HA,f168,EU h]
def kl (n:Int) (l:List Int):Nat→(List Int)→Int→Option (List Int)
 | 0,_,_=>none
 | m0+1,bP,i_1=>
 (if (decide (i_1<n)) then
 (N (f168 l i_1) fun x2=>
 (if (!x2) then
 (if (decide ((List.length (bP ++ [i_1]))≤bound)) then
 (kl n l m0 (bP ++ [i_1]) (w64 (i_1+(1:Int))))
 else none)
 else (kl n l m0 bP (w64 (i_1+(1:Int))))))
 else (some bP))
def f142 (n:Int) (l:List Int):Option (List Int):=
 (kl n l ax ([]:List Int) (0:Int))
theorem E4 (h:Hy C R) {n:Int} {l:List Int} :
  ∀ (m0:Nat) (bP:List Int) (i_1:Int) (dO:Nat),dO=List.length bP→lp (bw E 142 C) [(Fr.blk 0),(Fr.seq 0 [1,1,1])] 0 [0,0,1,0,1,1] m0 ⟨[I i64 (n),L (rows (l)) fl0,u,u,u,PV.own 0 1 0 dO,I i64 i_1,u,u,u,u,u,u,u,u,u,u,u,u,u,u],[(0,Y 1 (rows bP) false false)],1⟩=M (fun r=>L (rows r) ⟨true,false⟩) (kl n l m0 bP i_1):=by
 intro m0
 induction m0 with
 | zero=>intros;rw [bk];rfl
 | succ m0 ih=>
  intro bP i_1 dO jF
  subst jF
  rw [bm]
  simp only [WA,s1,s2,s3,s4,s5,s6,s7,↓reduceIte,Yi,ZZ,Xx,GA,Tryz.f142,HH,Y0,Gw,IE h,kl,ih]
theorem IJ (h:Hy C R) (n:Int) (l:List Int) :
  C.pureC 142 [I i64 n,L (rows l) fl0]=M (fun r=>L (rows r) ⟨true,false⟩) (f142 n l):=by
 have dg:=fun (n:Int) (l:List Int) (e3:Int)=>E4 (C:=C) (R:=R) (n:=n) (l:=l) h ax (([]:List Int)) e3 _ rfl
 simp only [cA,cf,cc,bV,cg,bU,WS,List.length_nil,List.length_cons,Nat.reduceAdd] at dg
 rw [aH h.1 (fn:=Tryz.f142) rfl _ rfl rfl rfl]
 simp only [WA,s1,s2,s3,s4,s5,s6,s7,↓reduceIte,Yi,ZZ,Xx,GA,Tryz.f142,HH,Y0,Gw,IE h,f142,dg]
def f108 (r:bJ):Option ((List Int) × (List Int)):=
 (N (f142 (((List.length r.Right.Graph.Nodes):Nat):Int) r.Into.Nodes) fun x0=>
 (N (f142 (((List.length r.Right.Graph.Edges):Nat):Int) r.Into.Edges) fun x1=>
 (some (x0,x1))))
theorem IN (h:Hy C R) (bD:ByteArray) (aC:List Int) (aD:List Edge) (aT:List Slot) (aZ:Int) (aS:List Test) (ay:List Int) (az:List Edge) (aO:List Slot) (aR:Int) (aP:List Test) (aU:List Int) (aV:List Int) (aW:List Int) (aX:List Int) (ba:Bool) (aI:Int) (aJ:List Condition) (aq:List Int) (ar:List Int) (ab:List Int) (ag:List Edge) (ak:List Slot) (al:Int) (aj:List Test) :
  C.pureC 108 [PV.agg [PV.str bD,L (rows aC) fl0,L (rows aD) fl0,L (rows aT) fl0,I i64 aZ,L (rows aS) fl0,L (rows ay) fl0,L (rows az) fl0,L (rows aO) fl0,I i64 aR,L (rows aP) fl0,L (rows aU) fl0,L (rows aV) fl0,L (rows aW) fl0,L (rows aX) fl0,PV.bool ba,I i64 aI,L (rows aJ) fl0,L (rows aq) fl0,L (rows ar) fl0,L (rows ab) fl0,L (rows ag) fl0,L (rows ak) fl0,I i64 al,L (rows aj) fl0]]=M (fun r=>PV.tup [L (rows r.1) ⟨true,false⟩,L (rows r.2) ⟨true,false⟩]) (f108 (bJ.mk bD (Pattern.mk (Graph.mk aC aD) aT aZ aS) (Pattern.mk (Graph.mk ay az) aO aR aP) (Part.mk aU aV) (aQ.mk aW aX) ba (Condition.mk aI aJ (aQ.mk aq ar) (Pattern.mk (Graph.mk ab ag) ak al aj)))):=by
 rw [aH h.1 (fn:=Tryz.f108) rfl _ rfl rfl rfl]
 simp only [WA,s1,s2,s3,s4,s5,s6,s7,↓reduceIte,aln,asE,aje,MZ,Tryz.f108,SR,Y6,GA,IJ h,f108]
def f58 (R:bI) (t:Types) (edge:Int) (from_:Int) (to:Int):Option Bool:=
 (N (f91 R t from_ to) fun x0=>
 (if (!(x0 == (0:Int))) then
 (some false)
 else (N (f92 edge (0:Int) (w64 ((((List.length t.Edges):Nat):Int) - (1:Int)))) fun x1=>
 (if (!x1) then
 (some false)
 else (N (at? t.Edges edge) fun x2=>
 (N (bI.f93 R t from_ x2.From) fun x3=>
 (if x3 then
 (N (at? t.Edges edge) fun x4=>
 (N (bI.f93 R t to x4.To) fun x5=>
 (some x5)))
 else (some false))))))))
theorem Eh (h:Hy C R) (t_Nodes:List aE) (t_Edges:List aG) (edge:Int) (from_:Int) (to:Int) :
  C.pureC 58 [PV.agg [L (rows t_Nodes) fl0,L (rows t_Edges) fl0],I i64 edge,I i64 from_,I i64 to]=M (fun r=>PV.bool r) (f58 R (Types.mk t_Nodes t_Edges) edge from_ to):=by
 rw [aH h.1 (fn:=Tryz.f58) rfl _ rfl rfl rfl]
 simp only [WA,s1,s2,s3,s4,s5,s6,s7,↓reduceIte,nt58,co58,re58,Sm,Tryz.f58,ab6,ac7,Sg,xa,uL,al3,aho,Eb h,kG h,h.2.f93,f58]
def kt (R:bI) (t:Types) (g:Graph) (edges:List Int):Nat→Int→Option Bool
 | 0,_=>none
 | m2+1,i_4=>
 (if (decide (i_4<(((List.length edges):Nat):Int))) then
 (N (at? edges i_4) fun x5=>
 (N (at? g.Edges x5) fun x6=>
 (N (at? g.Nodes x6.From) fun x7=>
 (N (at? g.Nodes x6.To) fun x8=>
 (N (f58 R t x6.Type_ x7 x8) fun x9=>
 (if (!x9) then
 (some false)
 else (kt R t g edges m2 (w64 (i_4+(1:Int))))))))))
 else (some true))
def ku (R:bI) (t:Types) (g:Graph) (nodes:List Int) (edges:List Int):Nat→Int→Option Bool
 | 0,_=>none
 | m0+1,i_0=>
 (if (decide (i_0<(((List.length nodes):Nat):Int))) then
 (N (at? nodes i_0) fun x1=>
 (N (at? g.Nodes x1) fun x2=>
 (N (at? t.Nodes x2) fun x3=>
 (if x3.Abstract then
 (some false)
 else (ku R t g nodes edges m0 (w64 (i_0+(1:Int))))))))
 else (kt R t g edges ax (0:Int)))
def f109 (R:bI) (t:Types) (g:Graph) (nodes:List Int) (edges:List Int):Option Bool:=
 (ku R t g nodes edges ax (0:Int))
theorem Fo (h:Hy C R) {t_Nodes:List aE} {t_Edges:List aG} {g_Nodes:List Int} {g_Edges:List Edge} {edges:List Int} :
  ∀ (m2:Nat) (i_4:Int),lp (bw E 109 C) [(Fr.blk 2),(Fr.seq 0 [1,1,1])] 2 [0,0,1,0,1,1] m2 ⟨[u,u,u,L (rows (edges)) fl0,(PV.ptr 0 0),(PV.ptr 1 0),u,u,u,u,I i64 i_4,u,u,u,u,u,u,u,u,u,u,u,u,u,u,u,u,u,u,u,u,u,u,u,u,u,u,u,u,u,u,u,u,u,u,u,u,u,u,u,u,u,u,u,u,u,u,u,u,u,u,u],[(0,X [L (rows (t_Nodes)) fl0,L (rows (t_Edges)) fl0]),(1,X [L (rows (g_Nodes)) fl0,L (rows (g_Edges)) fl0])],2⟩=M (fun r=>PV.bool r) (kt R (Types.mk t_Nodes t_Edges) (Graph.mk g_Nodes g_Edges) edges m2 i_4):=by
 intro m2
 induction m2 with
 | zero=>intros;rw [bk];rfl
 | succ m2 ih=>
  intro i_4
  rw [bm]
  simp only [WA,s1,s2,s3,s4,s5,s6,s7,↓reduceIte,NL,QH,Ni,GM,Tryz.f109,zC,zB,yX,yW,vn,adg,Sm,Eh h,kt,ih]
theorem Fp (h:Hy C R) {t_Nodes:List aE} {t_Edges:List aG} {g_Nodes:List Int} {g_Edges:List Edge} {nodes:List Int} {edges:List Int} :
  ∀ (m0:Nat) (i_0:Int),lp (bw E 109 C) [(Fr.blk 0),(Fr.seq 0 [1,1])] 0 [0,0,1,0,1] m0 ⟨[u,u,L (rows (nodes)) fl0,L (rows (edges)) fl0,(PV.ptr 0 0),(PV.ptr 1 0),u,u,u,I i64 i_0,u,u,u,u,u,u,u,u,u,u,u,u,u,u,u,u,u,u,u,u,u,u,u,u,u,u,u,u,u,u,u,u,u,u,u,u,u,u,u,u,u,u,u,u,u,u,u,u,u,u,u,u],[(0,X [L (rows (t_Nodes)) fl0,L (rows (t_Edges)) fl0]),(1,X [L (rows (g_Nodes)) fl0,L (rows (g_Edges)) fl0])],2⟩=M (fun r=>PV.bool r) (ku R (Types.mk t_Nodes t_Edges) (Graph.mk g_Nodes g_Edges) nodes edges m0 i_0):=by
 intro m0
 induction m0 with
 | zero=>intros;rw [bk];rfl
 | succ m0 ih=>
  intro i_0
  rw [bm]
  simp only [WA,s1,s2,s3,s4,s5,s6,s7,↓reduceIte,NL,QH,Ni,GM,Tryz.f109,zC,zB,yX,yW,vn,adg,Sm,Eh h,ku,ih,Fo h]
theorem UT (h:Hy C R) (t_Nodes:List aE) (t_Edges:List aG) (g_Nodes:List Int) (g_Edges:List Edge) (nodes:List Int) (edges:List Int) :
  C.pureC 109 [PV.agg [L (rows t_Nodes) fl0,L (rows t_Edges) fl0],PV.agg [L (rows g_Nodes) fl0,L (rows g_Edges) fl0],L (rows nodes) fl0,L (rows edges) fl0]=M (fun r=>PV.bool r) (f109 R (Types.mk t_Nodes t_Edges) (Graph.mk g_Nodes g_Edges) nodes edges):=by
 rw [aH h.1 (fn:=Tryz.f109) rfl _ rfl rfl rfl]
 simp only [WA,s1,s2,s3,s4,s5,s6,s7,↓reduceIte,NL,QH,Ni,GM,Tryz.f109,zC,zB,yX,yW,vn,adg,Sm,Eh h,f109,Fp h]
def f143 (R:bI) (c:Condition):Option Int:=
 (N (bI.f169 R c) fun x0=>
 (if (!x0) then
 (some (1:Int))
 else (N (bI.f170 R c) fun x1=>
 (if (decide ((12:Int)<(x1).1)) then
 (some (3:Int))
 else (if (decide ((3:Int)<(x1).2)) then
 (some (3:Int))
 else (some (0:Int)))))))
theorem UJ (h:Hy C R) (bz:Int) (br:List Condition) (aM:List Int) (aN:List Int) (ah:List Int) (ai:List Edge) (aB:List Slot) (aF:Int) (aA:List Test) :
  C.pureC 143 [PV.agg [I i64 bz,L (rows br) fl0,L (rows aM) fl0,L (rows aN) fl0,L (rows ah) fl0,L (rows ai) fl0,L (rows aB) fl0,I i64 aF,L (rows aA) fl0]]=M (fun r=>I i64 r) (f143 R (Condition.mk bz br (aQ.mk aM aN) (Pattern.mk (Graph.mk ah ai) aB aF aA))):=by
 rw [aH h.1 (fn:=Tryz.f143) rfl _ rfl rfl rfl]
 simp only [WA,s1,s2,s3,s4,s5,s6,s7,↓reduceIte,ak4,asm,aiW,WD,Tryz.f143,OW,MM,OV,ML,h.2.f169,h.2.f170,f143]
def f110 (R:bI) (t:Types) (p:Pattern) (c:Condition):Option Int:=
 (N (f104 R t p) fun x0=>
 (if (!(x0 == (0:Int))) then
 (some x0)
 else (N (f143 R c) fun x1=>
 (if (!(x1 == (0:Int))) then
 (some x1)
 else (N (bI.f144 R t p c) fun x2=>
 (some x2))))))
theorem US (h:Hy C R) (t_Nodes:List aE) (t_Edges:List aG) (bc:List Int) (bd:List Edge) (bC:List Slot) (bK:Int) (bF:List Test) (bz:Int) (br:List Condition) (aM:List Int) (aN:List Int) (ah:List Int) (ai:List Edge) (aB:List Slot) (aF:Int) (aA:List Test) :
  C.pureC 110 [PV.agg [L (rows t_Nodes) fl0,L (rows t_Edges) fl0],PV.agg [L (rows bc) fl0,L (rows bd) fl0,L (rows bC) fl0,I i64 bK,L (rows bF) fl0],PV.agg [I i64 bz,L (rows br) fl0,L (rows aM) fl0,L (rows aN) fl0,L (rows ah) fl0,L (rows ai) fl0,L (rows aB) fl0,I i64 aF,L (rows aA) fl0]]=M (fun r=>I i64 r) (f110 R (Types.mk t_Nodes t_Edges) (Pattern.mk (Graph.mk bc bd) bC bK bF) (Condition.mk bz br (aQ.mk aM aN) (Pattern.mk (Graph.mk ah ai) aB aF aA))):=by
 rw [aH h.1 (fn:=Tryz.f110) rfl _ rfl rfl rfl]
 simp only [WA,s1,s2,s3,s4,s5,s6,s7,↓reduceIte,alm,asD,ajd,WJ,Tryz.f110,H7,uR,amP,WD,O3,MV,tT h,h.2.f144,UJ h,f110]
def f70 (R:bI) (t:Types) (r:bJ):Option Int:=
 (N (f44 R t) fun x0=>
 (if (!((x0).2 == (0:Int))) then
 (some (x0).2)
 else (N (f100 r.Name) fun x1=>
 (if (!x1) then
 (some (2:Int))
 else (N (f104 R t r.Left) fun x2=>
 (if (!(x2 == (0:Int))) then
 (some x2)
 else (N (f105 R t r) fun x3=>
 (if (!(x3 == (0:Int))) then
 (some x3)
 else (N (f106 r) fun x4=>
 (if (!(x4 == (0:Int))) then
 (some x4)
 else (N (f107 r.Into.Nodes) fun x5=>
 (if (!x5) then
 (some (11:Int))
 else (N (f107 r.Into.Edges) fun x6=>
 (if (!x6) then
 (some (11:Int))
 else (N (f108 r) fun x7=>
 (N (f109 R t r.Right.Graph (x7).1 (x7).2) fun x8=>
 (if (!x8) then
 (some (13:Int))
 else (N (f110 R t r.Left r.Condition) fun x9=>
 (some x9)))))))))))))))))))
theorem pJ (h:Hy C R) (t_Nodes:List aE) (t_Edges:List aG) (bD:ByteArray) (aC:List Int) (aD:List Edge) (aT:List Slot) (aZ:Int) (aS:List Test) (ay:List Int) (az:List Edge) (aO:List Slot) (aR:Int) (aP:List Test) (aU:List Int) (aV:List Int) (aW:List Int) (aX:List Int) (ba:Bool) (aI:Int) (aJ:List Condition) (aq:List Int) (ar:List Int) (ab:List Int) (ag:List Edge) (ak:List Slot) (al:Int) (aj:List Test) :
  C.pureC 70 [PV.agg [L (rows t_Nodes) fl0,L (rows t_Edges) fl0],PV.agg [PV.str bD,L (rows aC) fl0,L (rows aD) fl0,L (rows aT) fl0,I i64 aZ,L (rows aS) fl0,L (rows ay) fl0,L (rows az) fl0,L (rows aO) fl0,I i64 aR,L (rows aP) fl0,L (rows aU) fl0,L (rows aV) fl0,L (rows aW) fl0,L (rows aX) fl0,PV.bool ba,I i64 aI,L (rows aJ) fl0,L (rows aq) fl0,L (rows ar) fl0,L (rows ab) fl0,L (rows ag) fl0,L (rows ak) fl0,I i64 al,L (rows aj) fl0]]=M (fun r=>I i64 r) (f70 R (Types.mk t_Nodes t_Edges) (bJ.mk bD (Pattern.mk (Graph.mk aC aD) aT aZ aS) (Pattern.mk (Graph.mk ay az) aO aR aP) (Part.mk aU aV) (aQ.mk aW aX) ba (Condition.mk aI aJ (aQ.mk aq ar) (Pattern.mk (Graph.mk ab ag) ak al aj)))):=by
 rw [aH h.1 (fn:=Tryz.f70) rfl _ rfl rfl rfl]
 simp only [WA,s1,s2,s3,s4,s5,s6,s7,↓reduceIte,nt70,co70,re70,AV,Tryz.f70,tk,pt,pf,nv,H7,uR,am0,M0,amZ,WK,Za,Bh,Y9,MZ,amY,GM,amX,WJ,iD h,ib h,tT h,IP h,UX h,UW h,IN h,UT h,US h,f70]
def f111 (r:bJ):Option ((List Int) × (List Int)):=
 (N (f142 (((List.length r.Left.Graph.Nodes):Nat):Int) r.Keep.Nodes) fun x0=>
 (N (f142 (((List.length r.Left.Graph.Edges):Nat):Int) r.Keep.Edges) fun x1=>
 (some (x0,x1))))
theorem UR (h:Hy C R) (bD:ByteArray) (aC:List Int) (aD:List Edge) (aT:List Slot) (aZ:Int) (aS:List Test) (ay:List Int) (az:List Edge) (aO:List Slot) (aR:Int) (aP:List Test) (aU:List Int) (aV:List Int) (aW:List Int) (aX:List Int) (ba:Bool) (aI:Int) (aJ:List Condition) (aq:List Int) (ar:List Int) (ab:List Int) (ag:List Edge) (ak:List Slot) (al:Int) (aj:List Test) :
  C.pureC 111 [PV.agg [PV.str bD,L (rows aC) fl0,L (rows aD) fl0,L (rows aT) fl0,I i64 aZ,L (rows aS) fl0,L (rows ay) fl0,L (rows az) fl0,L (rows aO) fl0,I i64 aR,L (rows aP) fl0,L (rows aU) fl0,L (rows aV) fl0,L (rows aW) fl0,L (rows aX) fl0,PV.bool ba,I i64 aI,L (rows aJ) fl0,L (rows aq) fl0,L (rows ar) fl0,L (rows ab) fl0,L (rows ag) fl0,L (rows ak) fl0,I i64 al,L (rows aj) fl0]]=M (fun r=>PV.tup [L (rows r.1) ⟨true,false⟩,L (rows r.2) ⟨true,false⟩]) (f111 (bJ.mk bD (Pattern.mk (Graph.mk aC aD) aT aZ aS) (Pattern.mk (Graph.mk ay az) aO aR aP) (Part.mk aU aV) (aQ.mk aW aX) ba (Condition.mk aI aJ (aQ.mk aq ar) (Pattern.mk (Graph.mk ab ag) ak al aj)))):=by
 rw [aH h.1 (fn:=Tryz.f111) rfl _ rfl rfl rfl]
 simp only [WA,s1,s2,s3,s4,s5,s6,s7,↓reduceIte,alk,asC,ajc,WI,Tryz.f111,SQ,Y6,GA,IJ h,f111]
def f71 (R:bI) (t:Types) (r:bJ):Option ((List Int) × (List Int) × Int):=
 (N (f70 R t r) fun x0=>
 (if (!(x0 == (0:Int))) then
 (some (([]:List Int),([]:List Int),x0))
 else (N (f111 r) fun x1=>
 (some ((x1).1,(x1).2,(0:Int))))))
theorem wh (h:Hy C R) (t_Nodes:List aE) (t_Edges:List aG) (bD:ByteArray) (aC:List Int) (aD:List Edge) (aT:List Slot) (aZ:Int) (aS:List Test) (ay:List Int) (az:List Edge) (aO:List Slot) (aR:Int) (aP:List Test) (aU:List Int) (aV:List Int) (aW:List Int) (aX:List Int) (ba:Bool) (aI:Int) (aJ:List Condition) (aq:List Int) (ar:List Int) (ab:List Int) (ag:List Edge) (ak:List Slot) (al:Int) (aj:List Test) :
  C.pureC 71 [PV.agg [L (rows t_Nodes) fl0,L (rows t_Edges) fl0],PV.agg [PV.str bD,L (rows aC) fl0,L (rows aD) fl0,L (rows aT) fl0,I i64 aZ,L (rows aS) fl0,L (rows ay) fl0,L (rows az) fl0,L (rows aO) fl0,I i64 aR,L (rows aP) fl0,L (rows aU) fl0,L (rows aV) fl0,L (rows aW) fl0,L (rows aX) fl0,PV.bool ba,I i64 aI,L (rows aJ) fl0,L (rows aq) fl0,L (rows ar) fl0,L (rows ab) fl0,L (rows ag) fl0,L (rows ak) fl0,I i64 al,L (rows aj) fl0]]=M (fun r=>PV.tup [L (rows r.1) ⟨true,false⟩,L (rows r.2.1) ⟨true,false⟩,I i64 r.2.2]) (f71 R (Types.mk t_Nodes t_Edges) (bJ.mk bD (Pattern.mk (Graph.mk aC aD) aT aZ aS) (Pattern.mk (Graph.mk ay az) aO aR aP) (Part.mk aU aV) (aQ.mk aW aX) ba (Condition.mk aI aJ (aQ.mk aq ar) (Pattern.mk (Graph.mk ab ag) ak al aj)))):=by
 rw [aH h.1 (fn:=Tryz.f71) rfl _ rfl rfl rfl]
 simp only [WA,s1,s2,s3,s4,s5,s6,s7,↓reduceIte,nt71,co71,re71,JF,Tryz.f71,DO,AV,amW,WI,pJ h,UR h,f71]
def pI (t:Types) (kind:Int):Nat→Int→Option Bool
 | 0,_=>none
 | m0+1,i_0=>
 (if (decide (i_0<(((List.length t.Nodes):Nat):Int))) then
 (N (at? t.Nodes i_0) fun x1=>
 (if (x1.Parent == kind) then
 (some false)
 else (pI t kind m0 (w64 (i_0+(1:Int))))))
 else (some true))
def f72 (t:Types) (kind:Int):Option Bool:=
 (pI t kind ax (0:Int))
theorem Kz (h:Hy C R) {t_Nodes:List aE} {t_Edges:List aG} {kind:Int} :
  ∀ (m0:Nat) (i_0:Int),lp (bw E 72 C) [(Fr.blk 0),(Fr.seq 0 [1,1])] 0 [0,0,1,0,1] m0 ⟨[u,I i64 (kind),(PV.ptr 0 0),u,u,I i64 i_0,u,u,u,u,u,u,u,u,u,u,u,u,u,u,u],[(0,X [L (rows (t_Nodes)) fl0,L (rows (t_Edges)) fl0])],1⟩=M (fun r=>PV.bool r) (pI (Types.mk t_Nodes t_Edges) kind m0 i_0):=by
 intro m0
 induction m0 with
 | zero=>intros;rw [bk];rfl
 | succ m0 ih=>
  intro i_0
  rw [bm]
  simp only [WA,s1,s2,s3,s4,s5,s6,s7,↓reduceIte,ajQ,aq3,ahH,C6,Tryz.f72,Oe,pI,ih]
theorem wg (h:Hy C R) (t_Nodes:List aE) (t_Edges:List aG) (kind:Int) :
  C.pureC 72 [PV.agg [L (rows t_Nodes) fl0,L (rows t_Edges) fl0],I i64 kind]=M (fun r=>PV.bool r) (f72 (Types.mk t_Nodes t_Edges) kind):=by
 rw [aH h.1 (fn:=Tryz.f72) rfl _ rfl rfl rfl]
 simp only [WA,s1,s2,s3,s4,s5,s6,s7,↓reduceIte,ajQ,aq3,ahH,C6,Tryz.f72,Oe,f72,Kz h]
def f73 (R:bI) (t:Types) (r:bJ):Option ((List Int) × (List Int) × Int):=
 (N (f70 R t r) fun x0=>
 (if (!(x0 == (0:Int))) then
 (some (([]:List Int),([]:List Int),x0))
 else (N (f108 r) fun x1=>
 (some ((x1).1,(x1).2,(0:Int))))))
theorem we (h:Hy C R) (t_Nodes:List aE) (t_Edges:List aG) (bD:ByteArray) (aC:List Int) (aD:List Edge) (aT:List Slot) (aZ:Int) (aS:List Test) (ay:List Int) (az:List Edge) (aO:List Slot) (aR:Int) (aP:List Test) (aU:List Int) (aV:List Int) (aW:List Int) (aX:List Int) (ba:Bool) (aI:Int) (aJ:List Condition) (aq:List Int) (ar:List Int) (ab:List Int) (ag:List Edge) (ak:List Slot) (al:Int) (aj:List Test) :
  C.pureC 73 [PV.agg [L (rows t_Nodes) fl0,L (rows t_Edges) fl0],PV.agg [PV.str bD,L (rows aC) fl0,L (rows aD) fl0,L (rows aT) fl0,I i64 aZ,L (rows aS) fl0,L (rows ay) fl0,L (rows az) fl0,L (rows aO) fl0,I i64 aR,L (rows aP) fl0,L (rows aU) fl0,L (rows aV) fl0,L (rows aW) fl0,L (rows aX) fl0,PV.bool ba,I i64 aI,L (rows aJ) fl0,L (rows aq) fl0,L (rows ar) fl0,L (rows ab) fl0,L (rows ag) fl0,L (rows ak) fl0,I i64 al,L (rows aj) fl0]]=M (fun r=>PV.tup [L (rows r.1) ⟨true,false⟩,L (rows r.2.1) ⟨true,false⟩,I i64 r.2.2]) (f73 R (Types.mk t_Nodes t_Edges) (bJ.mk bD (Pattern.mk (Graph.mk aC aD) aT aZ aS) (Pattern.mk (Graph.mk ay az) aO aR aP) (Part.mk aU aV) (aQ.mk aW aX) ba (Condition.mk aI aJ (aQ.mk aq ar) (Pattern.mk (Graph.mk ab ag) ak al aj)))):=by
 rw [aH h.1 (fn:=Tryz.f73) rfl _ rfl rfl rfl]
 simp only [WA,s1,s2,s3,s4,s5,s6,s7,↓reduceIte,nt73,co73,re73,JE,Tryz.f73,DO,AV,Y9,MZ,pJ h,IN h,f73]
def nT (t:Types) (r:bJ) (x16:(Prod (List Int) (Prod (List Int) Int))):Nat→(List Int)→Int→Option ((List Int) × Int)
 | 0,_,_=>none
 | m6+1,jw,zK=>
 (if (decide (zK<(((List.length ((x16).2).1):Nat):Int))) then
 (if ((decide ((0:Int)≤zK))&&(decide (zK<(((List.length ((x16).2).1):Nat):Int)))) then
 (N (((x16).2).1[(Int.toNat zK)]?) fun x25=>
 (N (at? r.Right.Graph.Edges x25) fun x26=>
 (if ((decide ((0:Int)≤(w64 ((((List.length t.Nodes):Nat):Int)+x26.Type_))))&&(decide ((w64 ((((List.length t.Nodes):Nat):Int)+x26.Type_))<(((List.length jw):Nat):Int)))) then
 (N (jw[(Int.toNat (w64 ((((List.length t.Nodes):Nat):Int)+x26.Type_)))]?) fun x27=>
 (if ((decide ((0:Int)≤(w64 ((((List.length t.Nodes):Nat):Int)+x26.Type_))))&&(decide ((w64 ((((List.length t.Nodes):Nat):Int)+x26.Type_))<(((List.length jw):Nat):Int)))) then
 (N (jw[(Int.toNat (w64 ((((List.length t.Nodes):Nat):Int)+x26.Type_)))]?) fun x28=>
 (nT t r x16 m6 (List.set jw (Int.toNat (w64 ((((List.length t.Nodes):Nat):Int)+x26.Type_))) (w64 (x27+(1:Int)))) (w64 (zK+(1:Int)))))
 else none))
 else none)))
 else none)
 else (some (jw,(0:Int))))
def nU (t:Types) (r:bJ) (x16:(Prod (List Int) (Prod (List Int) Int))):Nat→(List Int)→Int→Option ((List Int) × Int)
 | 0,_,_=>none
 | m4+1,jy,zL=>
 (if (decide (zL<(((List.length (x16).1):Nat):Int))) then
 (if ((decide ((0:Int)≤zL))&&(decide (zL<(((List.length (x16).1):Nat):Int)))) then
 (N ((x16).1[(Int.toNat zL)]?) fun x19=>
 (N (at? r.Right.Graph.Nodes x19) fun x20=>
 (if ((decide ((0:Int)≤x20))&&(decide (x20<(((List.length jy):Nat):Int)))) then
 (N (jy[(Int.toNat x20)]?) fun x21=>
 (if ((decide ((0:Int)≤x20))&&(decide (x20<(((List.length jy):Nat):Int)))) then
 (N (jy[(Int.toNat x20)]?) fun x22=>
 (nU t r x16 m4 (List.set jy (Int.toNat x20) (w64 (x21+(1:Int)))) (w64 (zL+(1:Int)))))
 else none))
 else none)))
 else none)
 else (nT t r x16 ax jy (0:Int)))
def nV (R:bI) (t:Types) (r:bJ) (x2:(Prod (List Int) (Prod (List Int) Int))):Nat→(List Int)→Int→Option ((List Int) × Int)
 | 0,_,_=>none
 | m2+1,jA,fG=>
 (if (decide (fG<(((List.length ((x2).2).1):Nat):Int))) then
 (if ((decide ((0:Int)≤fG))&&(decide (fG<(((List.length ((x2).2).1):Nat):Int)))) then
 (N (((x2).2).1[(Int.toNat fG)]?) fun x12=>
 (N (at? r.Left.Graph.Edges x12) fun x13=>
 (if ((decide ((0:Int)≤(w64 ((((List.length t.Nodes):Nat):Int)+x13.Type_))))&&(decide ((w64 ((((List.length t.Nodes):Nat):Int)+x13.Type_))<(((List.length jA):Nat):Int)))) then
 (N (jA[(Int.toNat (w64 ((((List.length t.Nodes):Nat):Int)+x13.Type_)))]?) fun x14=>
 (if ((decide ((0:Int)≤(w64 ((((List.length t.Nodes):Nat):Int)+x13.Type_))))&&(decide ((w64 ((((List.length t.Nodes):Nat):Int)+x13.Type_))<(((List.length jA):Nat):Int)))) then
 (N (jA[(Int.toNat (w64 ((((List.length t.Nodes):Nat):Int)+x13.Type_)))]?) fun x15=>
 (nV R t r x2 m2 (List.set jA (Int.toNat (w64 ((((List.length t.Nodes):Nat):Int)+x13.Type_))) (w64 (x14 - (1:Int)))) (w64 (fG+(1:Int)))))
 else none))
 else none)))
 else none)
 else (N (f73 R t r) fun x16=>
 (nU t r x16 ax jA (0:Int))))
def nW (R:bI) (t:Types) (r:bJ) (x2:(Prod (List Int) (Prod (List Int) Int))):Nat→(List Int)→Int→Option ((List Int) × Int)
 | 0,_,_=>none
 | m0+1,nC,i_4=>
 (if (decide (i_4<(((List.length (x2).1):Nat):Int))) then
 (if ((decide ((0:Int)≤i_4))&&(decide (i_4<(((List.length (x2).1):Nat):Int)))) then
 (N ((x2).1[(Int.toNat i_4)]?) fun x5=>
 (N (at? r.Left.Graph.Nodes x5) fun x6=>
 (N (f72 t x6) fun x7=>
 (if (!x7) then
 (some (([]:List Int),(13:Int)))
 else (if ((decide ((0:Int)≤x6))&&(decide (x6<(((List.length nC):Nat):Int)))) then
 (N (nC[(Int.toNat x6)]?) fun x8=>
 (if ((decide ((0:Int)≤x6))&&(decide (x6<(((List.length nC):Nat):Int)))) then
 (N (nC[(Int.toNat x6)]?) fun x9=>
 (nW R t r x2 m0 (List.set nC (Int.toNat x6) (w64 (x8 - (1:Int)))) (w64 (i_4+(1:Int)))))
 else none))
 else none)))))
 else none)
 else (nV R t r x2 ax nC (0:Int)))
def f45 (R:bI) (t:Types) (r:bJ):Option ((List Int) × Int):=
 (N (f44 R t) fun x0=>
 (if (!((x0).2 == (0:Int))) then
 (some (([]:List Int),(x0).2))
 else (N (f70 R t r) fun x1=>
 (if (!(x1 == (0:Int))) then
 (some (([]:List Int),x1))
 else (if (decide (((0:Int)≤(w64 ((((List.length t.Nodes):Nat):Int)+(((List.length t.Edges):Nat):Int))))∧((w64 ((((List.length t.Nodes):Nat):Int)+(((List.length t.Edges):Nat):Int)))≤((bound:Nat):Int)))) then
 (N (f71 R t r) fun x2=>
 (nW R t r x2 ax (List.replicate (Int.toNat (w64 ((((List.length t.Nodes):Nat):Int)+(((List.length t.Edges):Nat):Int)))) (0:Int)) (0:Int)))
 else none)))))
theorem KM (h:Hy C R) {t_Nodes:List aE} {t_Edges:List aG} {bD:ByteArray} {aC:List Int} {aD:List Edge} {aT:List Slot} {aZ:Int} {aS:List Test} {ay:List Int} {az:List Edge} {aO:List Slot} {aR:Int} {aP:List Test} {aU:List Int} {aV:List Int} {aW:List Int} {aX:List Int} {ba:Bool} {aI:Int} {aJ:List Condition} {aq:List Int} {ar:List Int} {ab:List Int} {ag:List Edge} {ak:List Slot} {al:Int} {aj:List Test} {x16:(Prod (List Int) (Prod (List Int) Int))} :
  ∀ (m6:Nat) (jw:List Int) (zK:Int) (y4:Nat),y4=List.length jw→lp (bw E 45 C) [(Fr.blk 6),(Fr.seq 0 [1,1,1,1,1,1,1,1,1,1])] 6 [0,0,1,0,1,1,1,1,1,1,1,1,1] m6 ⟨[u,u,(PV.ptr 0 0),(PV.ptr 1 0),u,u,u,u,u,PV.own 2 1 0 y4,u,PV.own 3 1 0 (List.length ((x16).2).1),u,u,u,u,u,I i64 zK,u,u,u,u,u,u,u,u,u,u,u,u,u,u,u,u,u,u,u,u,u,u,u,u,u,u,u,u,u,u,u,u,u,u,u,u,u,u,u,u,u,u,u,u,u,u,u,u,u,u,u,u,u,u,u,u,u,u,u,u,u,u,u,u,u,u,u,u,u,u,u,u,u,u,u,u,u,u,u,u,u,u,u,u,u,u,u,u,u,u,u,u,u,u,u,u,u,u,u,u,u,u,u,u,u,u,u,u,u,u,u,u,u,u,u,u,u,u,u,u,u,u,u,u,u,u,u,u,u,u,u,u,u,u,u,u],[(0,X [L (rows (t_Nodes)) fl0,L (rows (t_Edges)) fl0]),(1,X [PV.str (bD),L (rows (aC)) fl0,L (rows (aD)) fl0,L (rows (aT)) fl0,I i64 (aZ),L (rows (aS)) fl0,L (rows (ay)) fl0,L (rows (az)) fl0,L (rows (aO)) fl0,I i64 (aR),L (rows (aP)) fl0,L (rows (aU)) fl0,L (rows (aV)) fl0,L (rows (aW)) fl0,L (rows (aX)) fl0,PV.bool (ba),I i64 (aI),L (rows (aJ)) fl0,L (rows (aq)) fl0,L (rows (ar)) fl0,L (rows (ab)) fl0,L (rows (ag)) fl0,L (rows (ak)) fl0,I i64 (al),L (rows (aj)) fl0]),(2,Y 1 (rows jw) false false),(3,Y 1 (rows (((x16).2).1)) false false)],4⟩=M (fun r=>PV.tup [L (rows r.1) ⟨true,false⟩,I i64 r.2]) (nT (Types.mk t_Nodes t_Edges) (bJ.mk bD (Pattern.mk (Graph.mk aC aD) aT aZ aS) (Pattern.mk (Graph.mk ay az) aO aR aP) (Part.mk aU aV) (aQ.mk aW aX) ba (Condition.mk aI aJ (aQ.mk aq ar) (Pattern.mk (Graph.mk ab ag) ak al aj))) x16 m6 jw zK):=by
 intro m6
 induction m6 with
 | zero=>intros;rw [bk];rfl
 | succ m6 ih=>
  intro jw zK y4 TV
  subst TV
  rw [bm]
  simp only [WA,s1,s2,s3,s4,s5,s6,s7,↓reduceIte,NA,Qx,M7,C8,Tryz.f45,vH,vG,vF,vE,qw,qv,qu,qt,tk,pt,DO,AV,OE,JF,OD,C6,OC,JE,iD h,pJ h,wh h,wg h,we h,nT,ih]
theorem KN (h:Hy C R) {t_Nodes:List aE} {t_Edges:List aG} {bD:ByteArray} {aC:List Int} {aD:List Edge} {aT:List Slot} {aZ:Int} {aS:List Test} {ay:List Int} {az:List Edge} {aO:List Slot} {aR:Int} {aP:List Test} {aU:List Int} {aV:List Int} {aW:List Int} {aX:List Int} {ba:Bool} {aI:Int} {aJ:List Condition} {aq:List Int} {ar:List Int} {ab:List Int} {ag:List Edge} {ak:List Slot} {al:Int} {aj:List Test} {x16:(Prod (List Int) (Prod (List Int) Int))} :
  ∀ (m4:Nat) (jy:List Int) (zL:Int) (y6:Nat),y6=List.length jy→lp (bw E 45 C) [(Fr.blk 4),(Fr.seq 0 [1,1,1,1,1,1,1,1,1])] 4 [0,0,1,0,1,1,1,1,1,1,1,1] m4 ⟨[u,u,(PV.ptr 0 0),(PV.ptr 1 0),u,u,u,u,u,PV.own 2 1 0 y6,PV.own 3 1 0 (List.length (x16).1),PV.own 4 1 0 (List.length ((x16).2).1),u,u,u,u,I i64 zL,u,u,u,u,u,u,u,u,u,u,u,u,u,u,u,u,u,u,u,u,u,u,u,u,u,u,u,u,u,u,u,u,u,u,u,u,u,u,u,u,u,u,u,u,u,u,u,u,u,u,u,u,u,u,u,u,u,u,u,u,u,u,u,u,u,u,u,u,u,u,u,u,u,u,u,u,u,u,u,u,u,u,u,u,u,u,u,u,u,u,u,u,u,u,u,u,u,u,u,u,u,u,u,u,u,u,u,u,u,u,u,u,u,u,u,u,u,u,u,u,u,u,u,u,u,u,u,u,u,u,u,u,u,u,u,u,u],[(0,X [L (rows (t_Nodes)) fl0,L (rows (t_Edges)) fl0]),(1,X [PV.str (bD),L (rows (aC)) fl0,L (rows (aD)) fl0,L (rows (aT)) fl0,I i64 (aZ),L (rows (aS)) fl0,L (rows (ay)) fl0,L (rows (az)) fl0,L (rows (aO)) fl0,I i64 (aR),L (rows (aP)) fl0,L (rows (aU)) fl0,L (rows (aV)) fl0,L (rows (aW)) fl0,L (rows (aX)) fl0,PV.bool (ba),I i64 (aI),L (rows (aJ)) fl0,L (rows (aq)) fl0,L (rows (ar)) fl0,L (rows (ab)) fl0,L (rows (ag)) fl0,L (rows (ak)) fl0,I i64 (al),L (rows (aj)) fl0]),(2,Y 1 (rows jy) false false),(3,Y 1 (rows ((x16).1)) false false),(4,Y 1 (rows (((x16).2).1)) false false)],5⟩=M (fun r=>PV.tup [L (rows r.1) ⟨true,false⟩,I i64 r.2]) (nU (Types.mk t_Nodes t_Edges) (bJ.mk bD (Pattern.mk (Graph.mk aC aD) aT aZ aS) (Pattern.mk (Graph.mk ay az) aO aR aP) (Part.mk aU aV) (aQ.mk aW aX) ba (Condition.mk aI aJ (aQ.mk aq ar) (Pattern.mk (Graph.mk ab ag) ak al aj))) x16 m4 jy zL):=by
 intro m4
 induction m4 with
 | zero=>intros;rw [bk];rfl
 | succ m4 ih=>
  intro jy zL y6 TX
  subst TX
  rw [bm]
  simp only [WA,s1,s2,s3,s4,s5,s6,s7,↓reduceIte,NA,Qx,M7,C8,Tryz.f45,vH,vG,vF,vE,qw,qv,qu,qt,tk,pt,DO,AV,OE,JF,OD,C6,OC,JE,iD h,pJ h,wh h,wg h,we h,nU,ih,KM h]
theorem KO (h:Hy C R) {t_Nodes:List aE} {t_Edges:List aG} {bD:ByteArray} {aC:List Int} {aD:List Edge} {aT:List Slot} {aZ:Int} {aS:List Test} {ay:List Int} {az:List Edge} {aO:List Slot} {aR:Int} {aP:List Test} {aU:List Int} {aV:List Int} {aW:List Int} {aX:List Int} {ba:Bool} {aI:Int} {aJ:List Condition} {aq:List Int} {ar:List Int} {ab:List Int} {ag:List Edge} {ak:List Slot} {al:Int} {aj:List Test} {x2:(Prod (List Int) (Prod (List Int) Int))} :
  ∀ (m2:Nat) (jA:List Int) (fG:Int) (y8:Nat),y8=List.length jA→lp (bw E 45 C) [(Fr.blk 2),(Fr.seq 0 [1,1,1,1,1,1,1])] 2 [0,0,1,0,1,1,1,1,1,1] m2 ⟨[u,u,(PV.ptr 0 0),(PV.ptr 1 0),u,u,u,u,u,PV.own 2 1 0 y8,u,PV.own 3 1 0 (List.length ((x2).2).1),u,u,u,I i64 fG,u,u,u,u,u,u,u,u,u,u,u,u,u,u,u,u,u,u,u,u,u,u,u,u,u,u,u,u,u,u,u,u,u,u,u,u,u,u,u,u,u,u,u,u,u,u,u,u,u,u,u,u,u,u,u,u,u,u,u,u,u,u,u,u,u,u,u,u,u,u,u,u,u,u,u,u,u,u,u,u,u,u,u,u,u,u,u,u,u,u,u,u,u,u,u,u,u,u,u,u,u,u,u,u,u,u,u,u,u,u,u,u,u,u,u,u,u,u,u,u,u,u,u,u,u,u,u,u,u,u,u,u,u,u,u,u,u,u],[(0,X [L (rows (t_Nodes)) fl0,L (rows (t_Edges)) fl0]),(1,X [PV.str (bD),L (rows (aC)) fl0,L (rows (aD)) fl0,L (rows (aT)) fl0,I i64 (aZ),L (rows (aS)) fl0,L (rows (ay)) fl0,L (rows (az)) fl0,L (rows (aO)) fl0,I i64 (aR),L (rows (aP)) fl0,L (rows (aU)) fl0,L (rows (aV)) fl0,L (rows (aW)) fl0,L (rows (aX)) fl0,PV.bool (ba),I i64 (aI),L (rows (aJ)) fl0,L (rows (aq)) fl0,L (rows (ar)) fl0,L (rows (ab)) fl0,L (rows (ag)) fl0,L (rows (ak)) fl0,I i64 (al),L (rows (aj)) fl0]),(2,Y 1 (rows jA) false false),(3,Y 1 (rows (((x2).2).1)) false false)],4⟩=M (fun r=>PV.tup [L (rows r.1) ⟨true,false⟩,I i64 r.2]) (nV R (Types.mk t_Nodes t_Edges) (bJ.mk bD (Pattern.mk (Graph.mk aC aD) aT aZ aS) (Pattern.mk (Graph.mk ay az) aO aR aP) (Part.mk aU aV) (aQ.mk aW aX) ba (Condition.mk aI aJ (aQ.mk aq ar) (Pattern.mk (Graph.mk ab ag) ak al aj))) x2 m2 jA fG):=by
 intro m2
 induction m2 with
 | zero=>intros;rw [bk];rfl
 | succ m2 ih=>
  intro jA fG y8 TZ
  subst TZ
  rw [bm]
  simp only [WA,s1,s2,s3,s4,s5,s6,s7,↓reduceIte,NA,Qx,M7,C8,Tryz.f45,vH,vG,vF,vE,qw,qv,qu,qt,tk,pt,DO,AV,OE,JF,OD,C6,OC,JE,iD h,pJ h,wh h,wg h,we h,nV,ih,KN h]
theorem KP (h:Hy C R) {t_Nodes:List aE} {t_Edges:List aG} {bD:ByteArray} {aC:List Int} {aD:List Edge} {aT:List Slot} {aZ:Int} {aS:List Test} {ay:List Int} {az:List Edge} {aO:List Slot} {aR:Int} {aP:List Test} {aU:List Int} {aV:List Int} {aW:List Int} {aX:List Int} {ba:Bool} {aI:Int} {aJ:List Condition} {aq:List Int} {ar:List Int} {ab:List Int} {ag:List Edge} {ak:List Slot} {al:Int} {aj:List Test} {x2:(Prod (List Int) (Prod (List Int) Int))} :
  ∀ (m0:Nat) (nC:List Int) (i_4:Int) (Ds:Nat),Ds=List.length nC→lp (bw E 45 C) [(Fr.blk 0),(Fr.seq 0 [1,1,1,1,1,1])] 0 [0,0,1,0,1,1,1,1,1] m0 ⟨[u,u,(PV.ptr 0 0),(PV.ptr 1 0),u,u,u,u,u,PV.own 2 1 0 Ds,PV.own 3 1 0 (List.length (x2).1),PV.own 4 1 0 (List.length ((x2).2).1),u,I i64 i_4,u,u,u,u,u,u,u,u,u,u,u,u,u,u,u,u,u,u,u,u,u,u,u,u,u,u,u,u,u,u,u,u,u,u,u,u,u,u,u,u,u,u,u,u,u,u,u,u,u,u,u,u,u,u,u,u,u,u,u,u,u,u,u,u,u,u,u,u,u,u,u,u,u,u,u,u,u,u,u,u,u,u,u,u,u,u,u,u,u,u,u,u,u,u,u,u,u,u,u,u,u,u,u,u,u,u,u,u,u,u,u,u,u,u,u,u,u,u,u,u,u,u,u,u,u,u,u,u,u,u,u,u,u,u,u,u,u,u,u,u],[(0,X [L (rows (t_Nodes)) fl0,L (rows (t_Edges)) fl0]),(1,X [PV.str (bD),L (rows (aC)) fl0,L (rows (aD)) fl0,L (rows (aT)) fl0,I i64 (aZ),L (rows (aS)) fl0,L (rows (ay)) fl0,L (rows (az)) fl0,L (rows (aO)) fl0,I i64 (aR),L (rows (aP)) fl0,L (rows (aU)) fl0,L (rows (aV)) fl0,L (rows (aW)) fl0,L (rows (aX)) fl0,PV.bool (ba),I i64 (aI),L (rows (aJ)) fl0,L (rows (aq)) fl0,L (rows (ar)) fl0,L (rows (ab)) fl0,L (rows (ag)) fl0,L (rows (ak)) fl0,I i64 (al),L (rows (aj)) fl0]),(2,Y 1 (rows nC) false false),(3,Y 1 (rows ((x2).1)) false false),(4,Y 1 (rows (((x2).2).1)) false false)],5⟩=M (fun r=>PV.tup [L (rows r.1) ⟨true,false⟩,I i64 r.2]) (nW R (Types.mk t_Nodes t_Edges) (bJ.mk bD (Pattern.mk (Graph.mk aC aD) aT aZ aS) (Pattern.mk (Graph.mk ay az) aO aR aP) (Part.mk aU aV) (aQ.mk aW aX) ba (Condition.mk aI aJ (aQ.mk aq ar) (Pattern.mk (Graph.mk ab ag) ak al aj))) x2 m0 nC i_4):=by
 intro m0
 induction m0 with
 | zero=>intros;rw [bk];rfl
 | succ m0 ih=>
  intro nC i_4 Ds adH
  subst adH
  rw [bm]
  simp only [WA,s1,s2,s3,s4,s5,s6,s7,↓reduceIte,NA,Qx,M7,C8,Tryz.f45,vH,vG,vF,vE,qw,qv,qu,qt,tk,pt,DO,AV,OE,JF,OD,C6,OC,JE,iD h,pJ h,wh h,wg h,we h,nW,ih,KO h]
theorem PH (h:Hy C R) (t_Nodes:List aE) (t_Edges:List aG) (bD:ByteArray) (aC:List Int) (aD:List Edge) (aT:List Slot) (aZ:Int) (aS:List Test) (ay:List Int) (az:List Edge) (aO:List Slot) (aR:Int) (aP:List Test) (aU:List Int) (aV:List Int) (aW:List Int) (aX:List Int) (ba:Bool) (aI:Int) (aJ:List Condition) (aq:List Int) (ar:List Int) (ab:List Int) (ag:List Edge) (ak:List Slot) (al:Int) (aj:List Test) :
  C.pureC 45 [PV.agg [L (rows t_Nodes) fl0,L (rows t_Edges) fl0],PV.agg [PV.str bD,L (rows aC) fl0,L (rows aD) fl0,L (rows aT) fl0,I i64 aZ,L (rows aS) fl0,L (rows ay) fl0,L (rows az) fl0,L (rows aO) fl0,I i64 aR,L (rows aP) fl0,L (rows aU) fl0,L (rows aV) fl0,L (rows aW) fl0,L (rows aX) fl0,PV.bool ba,I i64 aI,L (rows aJ) fl0,L (rows aq) fl0,L (rows ar) fl0,L (rows ab) fl0,L (rows ag) fl0,L (rows ak) fl0,I i64 al,L (rows aj) fl0]]=M (fun r=>PV.tup [L (rows r.1) ⟨true,false⟩,I i64 r.2]) (f45 R (Types.mk t_Nodes t_Edges) (bJ.mk bD (Pattern.mk (Graph.mk aC aD) aT aZ aS) (Pattern.mk (Graph.mk ay az) aO aR aP) (Part.mk aU aV) (aQ.mk aW aX) ba (Condition.mk aI aJ (aQ.mk aq ar) (Pattern.mk (Graph.mk ab ag) ak al aj)))):=by
 rw [aH h.1 (fn:=Tryz.f45) rfl _ rfl rfl rfl]
 simp only [WA,s1,s2,s3,s4,s5,s6,s7,↓reduceIte,NA,Qx,M7,C8,Tryz.f45,vH,vG,vF,vE,qw,qv,qu,qt,tk,pt,DO,AV,OE,JF,OD,C6,OC,JE,iD h,pJ h,wh h,wg h,we h,f45,KP h]
def f46_l2 (l:(List (List Int))) (bP:List Int) (k_1:Int) (k0:(List Int)→Int→Option (List Int)):Nat→Bool→Int→Option (List Int)
 | 0,_,_=>none
 | m2+1,rQ,i_3=>
 (if (decide (i_3<(((List.length l):Nat):Int))) then
 (if rQ then
 (f46_l2 l bP k_1 k0 m2 true (w64 (i_3+(1:Int))))
 else (N (at? l i_3) fun x4=>
 (N (at? x4 k_1) fun x5=>
 (f46_l2 l bP k_1 k0 m2 (!(x5 == (0:Int))) (w64 (i_3+(1:Int)))))))
 else (if rQ then
 (if (decide ((List.length (bP ++ [k_1]))≤bound)) then
 (k0 (bP ++ [k_1]) (w64 (k_1+(1:Int))))
 else none)
 else (k0 bP (w64 (k_1+(1:Int))))))
def pR (n:Int) (l:(List (List Int))):Nat→(List Int)→Int→Option (List Int)
 | 0,_,_=>none
 | m0+1,bP,k_1=>
 (if (decide (k_1<n)) then
 (f46_l2 l bP k_1 (pR n l m0) ax false (0:Int))
 else (some bP))
def f46 (n:Int) (l:(List (List Int))):Option (List Int):=
 (pR n l ax ([]:List Int) (0:Int))
theorem KK (h:Hy C R) {n:Int} {l:(List (List Int))} {bP:List Int} {k_1:Int} {m0:Nat} {k0:(List Int)→Int→Option (List Int)} (hk0:∀ (z0:List Int) (z3:Int) (nz0:Nat),nz0=List.length z0→lp (bw E 46 C) [(Fr.blk 0),(Fr.seq 0 [1,1,1])] 0 [0,0,1,0,1,1] m0 ⟨[I i64 (n),L (rows (l)) fl0,u,u,u,PV.own 0 1 0 nz0,I i64 z3,u,u,u,u,u,u,u,u,u,u,u,u,u,u,u,u,u,u,u,u,u,u,u,u,u,u,u,u,u,u],[(0,Y 1 (rows z0) false false)],1⟩=M (fun r=>L (rows r) ⟨true,false⟩) (k0 z0 z3)) :
  ∀ (m2:Nat) (rQ:Bool) (i_3:Int),lp (bw E 46 C) [(Fr.blk 2),(Fr.seq 1 [1,1,0,0,1,0,0,1,0,1,1]),(Fr.blk 1),(Fr.seq 0 [1,1,0,0,1,0,1,1]),(Fr.loop 0 [0,0,1,0,1,1] m0),(Fr.blk 0),(Fr.seq 0 [1,1,1])] 2 [0,0,1,0,1,0,0,1,0,0,1,0,1,1] m2 ⟨[I i64 (n),L (rows (l)) fl0,u,u,u,PV.own 0 1 0 (List.length bP),I i64 (k_1),PV.bool rQ,I i64 i_3,u,u,u,u,u,u,u,u,u,u,u,u,u,u,u,u,u,u,u,u,u,u,u,u,u,u,u,u],[(0,Y 1 (rows (bP)) false false)],1⟩=M (fun r=>L (rows r) ⟨true,false⟩) (f46_l2 l bP k_1 k0 m2 rQ i_3):=by
 intro m2
 induction m2 with
 | zero=>intros;rw [bk];rfl
 | succ m2 ih=>
  intro rQ i_3
  rw [bm]
  simp only [WA,s1,s2,s3,s4,s5,s6,s7,↓reduceIte,acg,ae9,abL,Ml,Tryz.f46,DF,DE,f46_l2,ih,hk0]
theorem KL (h:Hy C R) {n:Int} {l:(List (List Int))} :
  ∀ (m0:Nat) (bP:List Int) (k_1:Int) (dO:Nat),dO=List.length bP→lp (bw E 46 C) [(Fr.blk 0),(Fr.seq 0 [1,1,1])] 0 [0,0,1,0,1,1] m0 ⟨[I i64 (n),L (rows (l)) fl0,u,u,u,PV.own 0 1 0 dO,I i64 k_1,u,u,u,u,u,u,u,u,u,u,u,u,u,u,u,u,u,u,u,u,u,u,u,u,u,u,u,u,u,u],[(0,Y 1 (rows bP) false false)],1⟩=M (fun r=>L (rows r) ⟨true,false⟩) (pR n l m0 bP k_1):=by
 intro m0
 induction m0 with
 | zero=>intros;rw [bk];rfl
 | succ m0 ih=>
  intro bP k_1 dO jF
  subst jF
  rw [bm]
  simp only [WA,s1,s2,s3,s4,s5,s6,s7,↓reduceIte,acg,ae9,abL,Ml,Tryz.f46,DF,DE,pR,ih,KK h ih]
theorem PG (h:Hy C R) (n:Int) (l:(List (List Int))) :
  C.pureC 46 [I i64 n,L (rows l) fl0]=M (fun r=>L (rows r) ⟨true,false⟩) (f46 n l):=by
 have dg:=fun (n:Int) (l:(List (List Int))) (e3:Int)=>KL (C:=C) (R:=R) (n:=n) (l:=l) h ax (([]:List Int)) e3 _ rfl
 simp only [cA,cf,cc,bV,cg,bU,WS,List.length_nil,List.length_cons,Nat.reduceAdd] at dg
 rw [aH h.1 (fn:=Tryz.f46) rfl _ rfl rfl rfl]
 simp only [WA,s1,s2,s3,s4,s5,s6,s7,↓reduceIte,acg,ae9,abL,Ml,Tryz.f46,DF,DE,f46,dg]
def n8 (R:bI) (t:Types) (rules:List bJ):Nat→(List (List Int))→Int→Option ((List (List Int)) × Int)
 | 0,_,_=>none
 | m0+1,out_1,i_2=>
 (if (decide (i_2<(((List.length rules):Nat):Int))) then
 (N (at? rules i_2) fun x3=>
 (N (f45 R t x3) fun x4=>
 (if (!((x4).2 == (0:Int))) then
 (some (([]:List (List Int)),(x4).2))
 else (if (decide ((List.length (out_1 ++ [(x4).1]))≤bound)) then
 (n8 R t rules m0 (out_1 ++ [(x4).1]) (w64 (i_2+(1:Int))))
 else none))))
 else (N (f46 (w64 ((((List.length t.Nodes):Nat):Int)+(((List.length t.Edges):Nat):Int))) out_1) fun x5=>
 (if (decide ((6:Int)<(((List.length x5):Nat):Int))) then
 (some (([]:List (List Int)),(3:Int)))
 else (some (out_1,(0:Int))))))
def f26 (R:bI) (t:Types) (rules:List bJ):Option ((List (List Int)) × Int):=
 (N (f44 R t) fun x0=>
 (if (!((x0).2 == (0:Int))) then
 (some (([]:List (List Int)),(x0).2))
 else (if (decide ((6:Int)<(((List.length rules):Nat):Int))) then
 (some (([]:List (List Int)),(3:Int)))
 else (n8 R t rules ax ([]:List (List Int)) (0:Int)))))
theorem K0 (h:Hy C R) {t_Nodes:List aE} {t_Edges:List aG} {rules:List bJ} :
  ∀ (m0:Nat) (out_1:(List (List Int))) (i_2:Int) (dN:Nat),dN=List.length out_1→lp (bw E 26 C) [(Fr.blk 0),(Fr.seq 0 [1,1,1,1,1])] 0 [0,0,1,0,1,1,1,1] m0 ⟨[u,L (rows (rules)) fl0,(PV.ptr 0 0),u,u,u,u,u,PV.own 1 1 0 dN,I i64 i_2,u,u,u,u,u,u,u,u,u,u,u,u,u,u,u,u,u,u,u,u,u,u,u,u,u,u,u,u,u,u,u,u,u,u,u,u,u,u,u,u,u,u,u,u,u,u,u],[(0,X [L (rows (t_Nodes)) fl0,L (rows (t_Edges)) fl0]),(1,Y 1 (rows out_1) false false)],2⟩=M (fun r=>PV.tup [L (rows r.1) ⟨true,false⟩,I i64 r.2]) (n8 R (Types.mk t_Nodes t_Edges) rules m0 out_1 i_2):=by
 intro m0
 induction m0 with
 | zero=>intros;rw [bk];rfl
 | succ m0 ih=>
  intro out_1 i_2 dN jE
  subst jE
  rw [bm]
  simp only [WA,s1,s2,s3,s4,s5,s6,s7,↓reduceIte,ajZ,arc,ahQ,AY,Tryz.f26,On,GU,tk,pt,al9,C8,al8,Ml,iD h,PH h,PG h,n8,ih]
theorem rY (h:Hy C R) (t_Nodes:List aE) (t_Edges:List aG) (rules:List bJ) :
  C.pureC 26 [PV.agg [L (rows t_Nodes) fl0,L (rows t_Edges) fl0],L (rows rules) fl0]=M (fun r=>PV.tup [L (rows r.1) ⟨true,false⟩,I i64 r.2]) (f26 R (Types.mk t_Nodes t_Edges) rules):=by
 have dg:=fun (t_Nodes:List aE) (t_Edges:List aG) (rules:List bJ) (e2:Int)=>K0 (C:=C) (R:=R) (t_Nodes:=t_Nodes) (t_Edges:=t_Edges) (rules:=rules) h ax (([]:List (List Int))) e2 _ rfl
 simp only [cA,cf,cc,bV,cg,bU,WS,List.length_nil,List.length_cons,Nat.reduceAdd] at dg
 rw [aH h.1 (fn:=Tryz.f26) rfl _ rfl rfl rfl]
 simp only [WA,s1,s2,s3,s4,s5,s6,s7,↓reduceIte,ajZ,arc,ahQ,AY,Tryz.f26,On,GU,tk,pt,al9,C8,al8,Ml,iD h,PH h,PG h,f26,dg]
def f28 (t:Types):Option Int:=
 (some (w64 ((((List.length t.Nodes):Nat):Int)+(((List.length t.Edges):Nat):Int))))
theorem rX (h:Hy C R) (t_Nodes:List aE) (t_Edges:List aG) :
  C.pureC 28 [PV.agg [L (rows t_Nodes) fl0,L (rows t_Edges) fl0]]=M (fun r=>I i64 r) (f28 (Types.mk t_Nodes t_Edges)):=by
 rw [aH h.1 (fn:=Tryz.f28) rfl _ rfl rfl rfl]
 simp only [WA,s1,s2,s3,s4,s5,s6,s7,↓reduceIte,nt28,co28,re28,Da,Tryz.f28,f28]
end Go.S
