import Derived.Test.YtjkkigeefoncmaaGreatCheckH
set_option linter.all false
set_option maxRecDepth 100000
set_option linter.defProp false
noncomputable section
set_option maxHeartbeats 4000000
namespace Go.S
open Go Go.Pm Go.Proofs
open Nat renaming reduceAdd→s1,reduceSub→s2,reduceMul→s3,reduceBEq→s4,reduceLeDiff→s5,reduceEqDiff→s6,reduceLT→s7
open Go.IntKind (i64)
open Go.Pm.PV renaming undef→u,lit→L,int→I
open Go.Pm.bq renaming box→X,arr→Y
open Option renaming bind→N,map→M
variable {C:Pm.Callee} {R:bI}
def nL (t:Types) (r:bJ) (x1:(Prod (List Int) (Prod (List Int) Int))):Nat→(List Int)→Int→Option ((List Int) × Int)
 | 0,_,_=>none
 | m6+1,jx,iJ=>
 (if (decide (iJ<(((List.length ((x1).2).1):Nat):Int))) then
 (if ((decide ((0:Int)≤iJ))&&(decide (iJ<(((List.length ((x1).2).1):Nat):Int)))) then
 (N (((x1).2).1[(Int.toNat iJ)]?) fun x23=>
 (N (at? r.Right.Graph.Edges x23) fun x24=>
 (if ((decide ((0:Int)≤(w64 ((((List.length t.Nodes):Nat):Int)+x24.Type_))))&&(decide ((w64 ((((List.length t.Nodes):Nat):Int)+x24.Type_))<(((List.length jx):Nat):Int)))) then
 (N (jx[(Int.toNat (w64 ((((List.length t.Nodes):Nat):Int)+x24.Type_)))]?) fun x25=>
 (if ((decide ((0:Int)≤(w64 ((((List.length t.Nodes):Nat):Int)+x24.Type_))))&&(decide ((w64 ((((List.length t.Nodes):Nat):Int)+x24.Type_))<(((List.length jx):Nat):Int)))) then
 (N (jx[(Int.toNat (w64 ((((List.length t.Nodes):Nat):Int)+x24.Type_)))]?) fun x26=>
 (nL t r x1 m6 (List.set jx (Int.toNat (w64 ((((List.length t.Nodes):Nat):Int)+x24.Type_))) (w64 (x25+(1:Int)))) (w64 (iJ+(1:Int)))))
 else none))
 else none)))
 else none)
 else (some (jx,(0:Int))))
def nM (t:Types) (r:bJ) (x1:(Prod (List Int) (Prod (List Int) Int))):Nat→(List Int)→Int→Option ((List Int) × Int)
 | 0,_,_=>none
 | m4+1,jz,iK=>
 (if (decide (iK<(((List.length (x1).1):Nat):Int))) then
 (if ((decide ((0:Int)≤iK))&&(decide (iK<(((List.length (x1).1):Nat):Int)))) then
 (N ((x1).1[(Int.toNat iK)]?) fun x17=>
 (N (at? r.Right.Graph.Nodes x17) fun x18=>
 (if ((decide ((0:Int)≤x18))&&(decide (x18<(((List.length jz):Nat):Int)))) then
 (N (jz[(Int.toNat x18)]?) fun x19=>
 (if ((decide ((0:Int)≤x18))&&(decide (x18<(((List.length jz):Nat):Int)))) then
 (N (jz[(Int.toNat x18)]?) fun x20=>
 (nM t r x1 m4 (List.set jz (Int.toNat x18) (w64 (x19+(1:Int)))) (w64 (iK+(1:Int)))))
 else none))
 else none)))
 else none)
 else (nL t r x1 ax jz (0:Int)))
def nN (t:Types) (r:bJ) (x0:(Prod (List Int) (Prod (List Int) Int))) (x1:(Prod (List Int) (Prod (List Int) Int))):Nat→(List Int)→Int→Option ((List Int) × Int)
 | 0,_,_=>none
 | m2+1,nB,lF=>
 (if (decide (lF<(((List.length ((x0).2).1):Nat):Int))) then
 (if ((decide ((0:Int)≤lF))&&(decide (lF<(((List.length ((x0).2).1):Nat):Int)))) then
 (N (((x0).2).1[(Int.toNat lF)]?) fun x11=>
 (N (at? r.Left.Graph.Edges x11) fun x12=>
 (if ((decide ((0:Int)≤(w64 ((((List.length t.Nodes):Nat):Int)+x12.Type_))))&&(decide ((w64 ((((List.length t.Nodes):Nat):Int)+x12.Type_))<(((List.length nB):Nat):Int)))) then
 (N (nB[(Int.toNat (w64 ((((List.length t.Nodes):Nat):Int)+x12.Type_)))]?) fun x13=>
 (if ((decide ((0:Int)≤(w64 ((((List.length t.Nodes):Nat):Int)+x12.Type_))))&&(decide ((w64 ((((List.length t.Nodes):Nat):Int)+x12.Type_))<(((List.length nB):Nat):Int)))) then
 (N (nB[(Int.toNat (w64 ((((List.length t.Nodes):Nat):Int)+x12.Type_)))]?) fun x14=>
 (nN t r x0 x1 m2 (List.set nB (Int.toNat (w64 ((((List.length t.Nodes):Nat):Int)+x12.Type_))) (w64 (x13 - (1:Int)))) (w64 (lF+(1:Int)))))
 else none))
 else none)))
 else none)
 else (nM t r x1 ax nB (0:Int)))
def nO (R:bI) (t:Types) (r:bJ) (x0:(Prod (List Int) (Prod (List Int) Int))) (x1:(Prod (List Int) (Prod (List Int) Int))):Nat→(List Int)→Int→Option ((List Int) × Int)
 | 0,_,_=>none
 | m0+1,dJ,il=>
 (if (decide (il<(((List.length (x0).1):Nat):Int))) then
 (if ((decide ((0:Int)≤il))&&(decide (il<(((List.length (x0).1):Nat):Int)))) then
 (N ((x0).1[(Int.toNat il)]?) fun x4=>
 (N (at? r.Left.Graph.Nodes x4) fun x5=>
 (N (f120 R t x5) fun x6=>
 (if (decide ((1:Int)<(((List.length (x6).1):Nat):Int))) then
 (some (([]:List Int),(13:Int)))
 else (if ((decide ((0:Int)≤x5))&&(decide (x5<(((List.length dJ):Nat):Int)))) then
 (N (dJ[(Int.toNat x5)]?) fun x7=>
 (if ((decide ((0:Int)≤x5))&&(decide (x5<(((List.length dJ):Nat):Int)))) then
 (N (dJ[(Int.toNat x5)]?) fun x8=>
 (nO R t r x0 x1 m0 (List.set dJ (Int.toNat x5) (w64 (x7 - (1:Int)))) (w64 (il+(1:Int)))))
 else none))
 else none)))))
 else none)
 else (nN t r x0 x1 ax dJ (0:Int)))
def f79 (R:bI) (t:Types) (r:bJ):Option ((List Int) × Int):=
 (N (f118 R t r) fun x0=>
 (if (!(((x0).2).2 == (0:Int))) then
 (some (([]:List Int),((x0).2).2))
 else (N (f119 R t r) fun x1=>
 (if (!(((x1).2).2 == (0:Int))) then
 (some (([]:List Int),((x1).2).2))
 else (if (decide (((0:Int)≤(w64 ((((List.length t.Nodes):Nat):Int)+(((List.length t.Edges):Nat):Int))))∧((w64 ((((List.length t.Nodes):Nat):Int)+(((List.length t.Edges):Nat):Int)))≤((bound:Nat):Int)))) then
 (nO R t r x0 x1 ax (List.replicate (Int.toNat (w64 ((((List.length t.Nodes):Nat):Int)+(((List.length t.Edges):Nat):Int)))) (0:Int)) (0:Int))
 else none)))))
theorem Ko (h:Hy C R) {t_Nodes:List aE} {t_Edges:List aG} {bD:ByteArray} {aC:List Int} {aD:List Edge} {aT:List Slot} {aZ:Int} {aS:List Test} {ay:List Int} {az:List Edge} {aO:List Slot} {aR:Int} {aP:List Test} {aU:List Int} {aV:List Int} {aW:List Int} {aX:List Int} {ba:Bool} {aI:Int} {aJ:List Condition} {aq:List Int} {ar:List Int} {ab:List Int} {ag:List Edge} {ak:List Slot} {al:Int} {aj:List Test} {x1:(Prod (List Int) (Prod (List Int) Int))} :
  ∀ (m6:Nat) (jx:List Int) (iJ:Int) (y5:Nat),y5=List.length jx→lp (bw E 79 C) [(Fr.blk 6),(Fr.seq 0 [1,1,1,1,1,1,1,1,1,1])] 6 [0,0,1,0,1,1,1,1,1,1,1,1,1] m6 ⟨[u,u,(PV.ptr 0 0),(PV.ptr 1 0),u,u,u,u,u,u,u,PV.own 2 1 0 y5,u,u,u,u,u,u,u,u,u,u,u,u,u,u,u,u,u,u,u,u,u,u,u,u,u,u,u,u,u,u,u,u,u,u,u,u,u,u,u,u,u,u,u,u,u,u,u,u,u,u,u,u,u,u,u,u,u,u,u,u,u,u,u,u,u,u,u,u,u,u,u,u,u,u,u,u,u,u,u,u,u,u,u,u,u,u,u,u,u,u,u,u,u,u,u,u,u,u,u,u,u,u,u,u,u,u,u,u,u,u,u,PV.own 3 1 0 (List.length ((x1).2).1),I i64 ((((List.length ((x1).2).1):Nat):Int)),I i64 iJ,u,u,u,u,u,u,u,u,u,u,u,u,u,u,u,u,u,u,u,u,u,u],[(0,X [L (rows (t_Nodes)) fl0,L (rows (t_Edges)) fl0]),(1,X [PV.str (bD),L (rows (aC)) fl0,L (rows (aD)) fl0,L (rows (aT)) fl0,I i64 (aZ),L (rows (aS)) fl0,L (rows (ay)) fl0,L (rows (az)) fl0,L (rows (aO)) fl0,I i64 (aR),L (rows (aP)) fl0,L (rows (aU)) fl0,L (rows (aV)) fl0,L (rows (aW)) fl0,L (rows (aX)) fl0,PV.bool (ba),I i64 (aI),L (rows (aJ)) fl0,L (rows (aq)) fl0,L (rows (ar)) fl0,L (rows (ab)) fl0,L (rows (ag)) fl0,L (rows (ak)) fl0,I i64 (al),L (rows (aj)) fl0]),(2,Y 1 (rows jx) false false),(3,Y 1 (rows (((x1).2).1)) false false)],4⟩=M (fun r=>PV.tup [L (rows r.1) ⟨true,false⟩,I i64 r.2]) (nL (Types.mk t_Nodes t_Edges) (bJ.mk bD (Pattern.mk (Graph.mk aC aD) aT aZ aS) (Pattern.mk (Graph.mk ay az) aO aR aP) (Part.mk aU aV) (aQ.mk aW aX) ba (Condition.mk aI aJ (aQ.mk aq ar) (Pattern.mk (Graph.mk ab ag) ak al aj))) x1 m6 jx iJ):=by
 intro m6
 induction m6 with
 | zero=>intros;rw [bk];rfl
 | succ m6 ih=>
  intro jx iJ y5 TW
  subst TW
  rw [bm]
  simp only [WA,s1,s2,s3,s4,s5,s6,s7,↓reduceIte,Nz,Qw,M6,yI,Tryz.f79,vD,vC,vB,vA,qq,qp,BR,xI,BQ,xH,BP,uQ,rb h,ra h,q9 h,nL,ih]
theorem Kq (h:Hy C R) {t_Nodes:List aE} {t_Edges:List aG} {bD:ByteArray} {aC:List Int} {aD:List Edge} {aT:List Slot} {aZ:Int} {aS:List Test} {ay:List Int} {az:List Edge} {aO:List Slot} {aR:Int} {aP:List Test} {aU:List Int} {aV:List Int} {aW:List Int} {aX:List Int} {ba:Bool} {aI:Int} {aJ:List Condition} {aq:List Int} {ar:List Int} {ab:List Int} {ag:List Edge} {ak:List Slot} {al:Int} {aj:List Test} {x1:(Prod (List Int) (Prod (List Int) Int))} :
  ∀ (m4:Nat) (jz:List Int) (iK:Int) (y7:Nat),y7=List.length jz→lp (bw E 79 C) [(Fr.blk 4),(Fr.seq 0 [1,1,1,1,1,1,1,1,1])] 4 [0,0,1,0,1,1,1,1,1,1,1,1] m4 ⟨[u,u,(PV.ptr 0 0),(PV.ptr 1 0),u,u,u,u,u,u,PV.own 2 1 0 (List.length ((x1).2).1),PV.own 3 1 0 y7,u,u,u,u,u,u,u,u,u,u,u,u,u,u,u,u,u,u,u,u,u,u,u,u,u,u,u,u,u,u,u,u,u,u,u,u,u,u,u,u,u,u,u,u,u,u,u,u,u,u,u,u,u,u,u,u,u,u,u,u,u,u,u,u,u,u,u,u,u,u,u,u,u,u,u,u,u,u,u,u,u,u,u,u,u,u,u,u,u,u,u,u,PV.own 4 1 0 (List.length (x1).1),I i64 ((((List.length (x1).1):Nat):Int)),I i64 iK,u,u,u,u,u,u,u,u,u,u,u,u,u,u,u,u,u,u,u,u,u,u,u,u,u,u,u,u,u,u,u,u,u,u,u,u,u,u,u,u,u],[(0,X [L (rows (t_Nodes)) fl0,L (rows (t_Edges)) fl0]),(1,X [PV.str (bD),L (rows (aC)) fl0,L (rows (aD)) fl0,L (rows (aT)) fl0,I i64 (aZ),L (rows (aS)) fl0,L (rows (ay)) fl0,L (rows (az)) fl0,L (rows (aO)) fl0,I i64 (aR),L (rows (aP)) fl0,L (rows (aU)) fl0,L (rows (aV)) fl0,L (rows (aW)) fl0,L (rows (aX)) fl0,PV.bool (ba),I i64 (aI),L (rows (aJ)) fl0,L (rows (aq)) fl0,L (rows (ar)) fl0,L (rows (ab)) fl0,L (rows (ag)) fl0,L (rows (ak)) fl0,I i64 (al),L (rows (aj)) fl0]),(2,Y 1 (rows (((x1).2).1)) false false),(3,Y 1 (rows jz) false false),(4,Y 1 (rows ((x1).1)) false false)],5⟩=M (fun r=>PV.tup [L (rows r.1) ⟨true,false⟩,I i64 r.2]) (nM (Types.mk t_Nodes t_Edges) (bJ.mk bD (Pattern.mk (Graph.mk aC aD) aT aZ aS) (Pattern.mk (Graph.mk ay az) aO aR aP) (Part.mk aU aV) (aQ.mk aW aX) ba (Condition.mk aI aJ (aQ.mk aq ar) (Pattern.mk (Graph.mk ab ag) ak al aj))) x1 m4 jz iK):=by
 intro m4
 induction m4 with
 | zero=>intros;rw [bk];rfl
 | succ m4 ih=>
  intro jz iK y7 TY
  subst TY
  rw [bm]
  simp only [WA,s1,s2,s3,s4,s5,s6,s7,↓reduceIte,Nz,Qw,M6,yI,Tryz.f79,vD,vC,vB,vA,qq,qp,BR,xI,BQ,xH,BP,uQ,rb h,ra h,q9 h,nM,ih,Ko h]
theorem Kr (h:Hy C R) {t_Nodes:List aE} {t_Edges:List aG} {bD:ByteArray} {aC:List Int} {aD:List Edge} {aT:List Slot} {aZ:Int} {aS:List Test} {ay:List Int} {az:List Edge} {aO:List Slot} {aR:Int} {aP:List Test} {aU:List Int} {aV:List Int} {aW:List Int} {aX:List Int} {ba:Bool} {aI:Int} {aJ:List Condition} {aq:List Int} {ar:List Int} {ab:List Int} {ag:List Edge} {ak:List Slot} {al:Int} {aj:List Test} {x0:(Prod (List Int) (Prod (List Int) Int))} {x1:(Prod (List Int) (Prod (List Int) Int))} :
  ∀ (m2:Nat) (nB:List Int) (lF:Int) (Dr:Nat),Dr=List.length nB→lp (bw E 79 C) [(Fr.blk 2),(Fr.seq 0 [1,1,1,1,1,1,1,1])] 2 [0,0,1,0,1,1,1,1,1,1,1] m2 ⟨[u,u,(PV.ptr 0 0),(PV.ptr 1 0),u,u,u,u,u,PV.own 2 1 0 (List.length (x1).1),PV.own 3 1 0 (List.length ((x1).2).1),PV.own 4 1 0 Dr,u,u,u,u,u,u,u,u,u,u,u,u,u,u,u,u,u,u,u,u,u,u,u,u,u,u,u,u,u,u,u,u,u,u,u,u,u,u,u,u,u,u,u,u,u,u,u,u,u,u,u,u,u,u,u,u,u,u,u,u,u,u,u,u,u,u,u,u,PV.own 5 1 0 (List.length ((x0).2).1),I i64 ((((List.length ((x0).2).1):Nat):Int)),I i64 lF,u,u,u,u,u,u,u,u,u,u,u,u,u,u,u,u,u,u,u,u,u,u,u,u,u,u,u,u,u,u,u,u,u,u,u,u,u,u,u,u,u,u,u,u,u,u,u,u,u,u,u,u,u,u,u,u,u,u,u,u,u,u,u,u,u],[(0,X [L (rows (t_Nodes)) fl0,L (rows (t_Edges)) fl0]),(1,X [PV.str (bD),L (rows (aC)) fl0,L (rows (aD)) fl0,L (rows (aT)) fl0,I i64 (aZ),L (rows (aS)) fl0,L (rows (ay)) fl0,L (rows (az)) fl0,L (rows (aO)) fl0,I i64 (aR),L (rows (aP)) fl0,L (rows (aU)) fl0,L (rows (aV)) fl0,L (rows (aW)) fl0,L (rows (aX)) fl0,PV.bool (ba),I i64 (aI),L (rows (aJ)) fl0,L (rows (aq)) fl0,L (rows (ar)) fl0,L (rows (ab)) fl0,L (rows (ag)) fl0,L (rows (ak)) fl0,I i64 (al),L (rows (aj)) fl0]),(2,Y 1 (rows ((x1).1)) false false),(3,Y 1 (rows (((x1).2).1)) false false),(4,Y 1 (rows nB) false false),(5,Y 1 (rows (((x0).2).1)) false false)],6⟩=M (fun r=>PV.tup [L (rows r.1) ⟨true,false⟩,I i64 r.2]) (nN (Types.mk t_Nodes t_Edges) (bJ.mk bD (Pattern.mk (Graph.mk aC aD) aT aZ aS) (Pattern.mk (Graph.mk ay az) aO aR aP) (Part.mk aU aV) (aQ.mk aW aX) ba (Condition.mk aI aJ (aQ.mk aq ar) (Pattern.mk (Graph.mk ab ag) ak al aj))) x0 x1 m2 nB lF):=by
 intro m2
 induction m2 with
 | zero=>intros;rw [bk];rfl
 | succ m2 ih=>
  intro nB lF Dr adG
  subst adG
  rw [bm]
  simp only [WA,s1,s2,s3,s4,s5,s6,s7,↓reduceIte,Nz,Qw,M6,yI,Tryz.f79,vD,vC,vB,vA,qq,qp,BR,xI,BQ,xH,BP,uQ,rb h,ra h,q9 h,nN,ih,Kq h]
theorem Kt (h:Hy C R) {t_Nodes:List aE} {t_Edges:List aG} {bD:ByteArray} {aC:List Int} {aD:List Edge} {aT:List Slot} {aZ:Int} {aS:List Test} {ay:List Int} {az:List Edge} {aO:List Slot} {aR:Int} {aP:List Test} {aU:List Int} {aV:List Int} {aW:List Int} {aX:List Int} {ba:Bool} {aI:Int} {aJ:List Condition} {aq:List Int} {ar:List Int} {ab:List Int} {ag:List Edge} {ak:List Slot} {al:Int} {aj:List Test} {x0:(Prod (List Int) (Prod (List Int) Int))} {x1:(Prod (List Int) (Prod (List Int) Int))} :
  ∀ (m0:Nat) (dJ:List Int) (il:Int) (jC:Nat),jC=List.length dJ→lp (bw E 79 C) [(Fr.blk 0),(Fr.seq 0 [1,1,1,1,1,1,1])] 0 [0,0,1,0,1,1,1,1,1,1] m0 ⟨[u,u,(PV.ptr 0 0),(PV.ptr 1 0),u,u,u,PV.own 2 1 0 (List.length ((x0).2).1),u,PV.own 3 1 0 (List.length (x1).1),PV.own 4 1 0 (List.length ((x1).2).1),PV.own 5 1 0 jC,u,u,u,u,u,u,u,u,u,u,u,u,u,u,u,u,u,u,u,u,u,u,u,u,u,u,u,u,u,u,u,u,u,u,u,u,u,u,u,PV.own 6 1 0 (List.length (x0).1),I i64 ((((List.length (x0).1):Nat):Int)),I i64 il,u,u,u,u,u,u,u,u,u,u,u,u,u,u,u,u,u,u,u,u,u,u,u,u,u,u,u,u,u,u,u,u,u,u,u,u,u,u,u,u,u,u,u,u,u,u,u,u,u,u,u,u,u,u,u,u,u,u,u,u,u,u,u,u,u,u,u,u,u,u,u,u,u,u,u,u,u,u,u,u,u,u,u,u,u,u,u,u,u,u,u,u,u,u],[(0,X [L (rows (t_Nodes)) fl0,L (rows (t_Edges)) fl0]),(1,X [PV.str (bD),L (rows (aC)) fl0,L (rows (aD)) fl0,L (rows (aT)) fl0,I i64 (aZ),L (rows (aS)) fl0,L (rows (ay)) fl0,L (rows (az)) fl0,L (rows (aO)) fl0,I i64 (aR),L (rows (aP)) fl0,L (rows (aU)) fl0,L (rows (aV)) fl0,L (rows (aW)) fl0,L (rows (aX)) fl0,PV.bool (ba),I i64 (aI),L (rows (aJ)) fl0,L (rows (aq)) fl0,L (rows (ar)) fl0,L (rows (ab)) fl0,L (rows (ag)) fl0,L (rows (ak)) fl0,I i64 (al),L (rows (aj)) fl0]),(2,Y 1 (rows (((x0).2).1)) false false),(3,Y 1 (rows ((x1).1)) false false),(4,Y 1 (rows (((x1).2).1)) false false),(5,Y 1 (rows dJ) false false),(6,Y 1 (rows ((x0).1)) false false)],7⟩=M (fun r=>PV.tup [L (rows r.1) ⟨true,false⟩,I i64 r.2]) (nO R (Types.mk t_Nodes t_Edges) (bJ.mk bD (Pattern.mk (Graph.mk aC aD) aT aZ aS) (Pattern.mk (Graph.mk ay az) aO aR aP) (Part.mk aU aV) (aQ.mk aW aX) ba (Condition.mk aI aJ (aQ.mk aq ar) (Pattern.mk (Graph.mk ab ag) ak al aj))) x0 x1 m0 dJ il):=by
 intro m0
 induction m0 with
 | zero=>intros;rw [bk];rfl
 | succ m0 ih=>
  intro dJ il jC vS
  subst vS
  rw [bm]
  simp only [WA,s1,s2,s3,s4,s5,s6,s7,↓reduceIte,Nz,Qw,M6,yI,Tryz.f79,vD,vC,vB,vA,qq,qp,BR,xI,BQ,xH,BP,uQ,rb h,ra h,q9 h,nO,ih,Kr h]
theorem zU (h:Hy C R) (t_Nodes:List aE) (t_Edges:List aG) (bD:ByteArray) (aC:List Int) (aD:List Edge) (aT:List Slot) (aZ:Int) (aS:List Test) (ay:List Int) (az:List Edge) (aO:List Slot) (aR:Int) (aP:List Test) (aU:List Int) (aV:List Int) (aW:List Int) (aX:List Int) (ba:Bool) (aI:Int) (aJ:List Condition) (aq:List Int) (ar:List Int) (ab:List Int) (ag:List Edge) (ak:List Slot) (al:Int) (aj:List Test) :
  C.pureC 79 [PV.agg [L (rows t_Nodes) fl0,L (rows t_Edges) fl0],PV.agg [PV.str bD,L (rows aC) fl0,L (rows aD) fl0,L (rows aT) fl0,I i64 aZ,L (rows aS) fl0,L (rows ay) fl0,L (rows az) fl0,L (rows aO) fl0,I i64 aR,L (rows aP) fl0,L (rows aU) fl0,L (rows aV) fl0,L (rows aW) fl0,L (rows aX) fl0,PV.bool ba,I i64 aI,L (rows aJ) fl0,L (rows aq) fl0,L (rows ar) fl0,L (rows ab) fl0,L (rows ag) fl0,L (rows ak) fl0,I i64 al,L (rows aj) fl0]]=M (fun r=>PV.tup [L (rows r.1) ⟨true,false⟩,I i64 r.2]) (f79 R (Types.mk t_Nodes t_Edges) (bJ.mk bD (Pattern.mk (Graph.mk aC aD) aT aZ aS) (Pattern.mk (Graph.mk ay az) aO aR aP) (Part.mk aU aV) (aQ.mk aW aX) ba (Condition.mk aI aJ (aQ.mk aq ar) (Pattern.mk (Graph.mk ab ag) ak al aj)))):=by
 rw [aH h.1 (fn:=Tryz.f79) rfl _ rfl rfl rfl]
 simp only [WA,s1,s2,s3,s4,s5,s6,s7,↓reduceIte,Nz,Qw,M6,yI,Tryz.f79,vD,vC,vB,vA,qq,qp,BR,xI,BQ,xH,BP,uQ,rb h,ra h,q9 h,f79,Kt h]
def jO (l:List Int) (c1:Int):Option Bool:=
 (N (at? l c1) fun x0=>
 (some (!(x0 == (0:Int)))))
theorem sX (h:Hy C R) (l:List Int) (c1:Int) :
  C.pureC 112 [L (rows l) fl0,PV.bL [[I i64 c1]] 0 0]=M (fun r=>PV.bool r) (jO l c1):=by
 rw [aH h.1 (fn:=Tryz.f112) rfl _ rfl rfl rfl]
 simp only [WA,s1,s2,s3,s4,s5,s6,s7,↓reduceIte,alj,asB,ajb,xK,Tryz.f112,jO]
def dQ (s:(List (List Int))) (c1:Int):Nat→Int→Option Int
 | 0,_=>none
 | m0+1,bA=>
 (if (decide (bA<(((List.length s):Nat):Int))) then
 (N (at? s bA) fun x1=>
 (N (jO x1 c1) fun x2=>
 (if x2 then
 (some bA)
 else (dQ s c1 m0 (w64 (bA+(1:Int)))))))
 else (some (-(1:Int))))
def jZ (s:(List (List Int))) (c1:Int):Option Int:=
 (dQ s c1 ax (0:Int))
theorem qR (h:Hy C R) {s:(List (List Int))} {c1:Int} :
  ∀ (m0:Nat) (bA:Int),lp (bw E 94 C) [(Fr.blk 0),(Fr.seq 0 [1,1])] 0 [0,0,1,0,1] m0 ⟨[L (rows (s)) fl0,PV.fn 112 [(PV.bL [[(I i64 (c1))]] 0 0)],u,u,u,u,u,I i64 ((((List.length s):Nat):Int)),I i64 bA,u,u,u,u,u,u,u,u,u,u],[],0⟩=M (fun r=>I i64 r) (dQ s c1 m0 bA):=by
 intro m0
 induction m0 with
 | zero=>intros;rw [bk];rfl
 | succ m0 ih=>
  intro bA
  rw [bm]
  simp only [WA,s1,s2,s3,s4,s5,s6,s7,↓reduceIte,SY,Vl,Sx,JD,Tryz.f94,zf,BS,xK,sX h,dQ,ih]
theorem vX (h:Hy C R) (s:(List (List Int))) (c1:Int) :
  C.pureC 94 [L (rows s) fl0,PV.fn 112 [PV.bL [[I i64 c1]] 0 0]]=M (fun r=>I i64 r) (jZ s c1):=by
 rw [aH h.1 (fn:=Tryz.f94) rfl _ rfl rfl rfl]
 simp only [WA,s1,s2,s3,s4,s5,s6,s7,↓reduceIte,SY,Vl,Sx,JD,Tryz.f94,zf,BS,xK,sX h,jZ,qR h]
def iw (s:(List (List Int))) (c1:Int):Option Bool:=
 (N (jZ s c1) fun x0=>
 (some (decide ((0:Int)≤x0))))
theorem jG (h:Hy C R) (s:(List (List Int))) (c1:Int) :
  C.pureC 60 [L (rows s) fl0,PV.fn 112 [PV.bL [[I i64 c1]] 0 0]]=M (fun r=>PV.bool r) (iw s c1):=by
 rw [aH h.1 (fn:=Tryz.f60) rfl _ rfl rfl rfl]
 simp only [WA,s1,s2,s3,s4,s5,s6,s7,↓reduceIte,ajS,aq5,ahJ,JG,Tryz.f60,al2,JD,vX h,iw]
def lW (t:Types) (out_1:(List (List Int))):Nat→(List Int)→Int→Option ((List (List Int)) × (List Int) × Int)
 | 0,_,_=>none
 | m2+1,e7,oX=>
 (if (decide (oX<(w64 ((((List.length t.Nodes):Nat):Int)+(((List.length t.Edges):Nat):Int))))) then
 (N (iw out_1 oX) fun x7=>
 (if x7 then
 (if (decide ((List.length (e7 ++ [oX]))≤bound)) then
 (lW t out_1 m2 (e7 ++ [oX]) (w64 (oX+(1:Int))))
 else none)
 else (lW t out_1 m2 e7 (w64 (oX+(1:Int))))))
 else (if (decide ((6:Int)<(((List.length e7):Nat):Int))) then
 (some (([]:List (List Int)),([]:List Int),(3:Int)))
 else (some (out_1,e7,(0:Int)))))
def nR (R:bI) (t:Types) (rules:List bJ):Nat→(List (List Int))→Int→Option ((List (List Int)) × (List Int) × Int)
 | 0,_,_=>none
 | m0+1,out_1,uj=>
 (if (decide (uj<(((List.length rules):Nat):Int))) then
 (N (at? rules uj) fun x3=>
 (N (f79 R t x3) fun x4=>
 (if (!((x4).2 == (0:Int))) then
 (some (([]:List (List Int)),([]:List Int),(x4).2))
 else (if (decide ((List.length (out_1 ++ [(x4).1]))≤bound)) then
 (nR R t rules m0 (out_1 ++ [(x4).1]) (w64 (uj+(1:Int))))
 else none))))
 else (lW t out_1 ax ([]:List Int) (0:Int)))
def f74 (R:bI) (t:Types) (rules:List bJ):Option ((List (List Int)) × (List Int) × Int):=
 (N (f78 R t) fun x0=>
 (if (!((x0).2 == (0:Int))) then
 (some (([]:List (List Int)),([]:List Int),(x0).2))
 else (if (decide ((6:Int)<(((List.length rules):Nat):Int))) then
 (some (([]:List (List Int)),([]:List Int),(3:Int)))
 else (nR R t rules ax ([]:List (List Int)) (0:Int)))))
theorem Kx (h:Hy C R) {t_Nodes:List aE} {t_Edges:List aG} {out_1:(List (List Int))} :
  ∀ (m2:Nat) (e7:List Int) (oX:Int) (pw:Nat),pw=List.length e7→lp (bw E 74 C) [(Fr.blk 2),(Fr.seq 0 [1,1,1,1,1,1,1])] 2 [0,0,1,0,1,1,1,1,1,1] m2 ⟨[u,u,u,u,u,u,u,u,u,PV.own 0 1 0 (List.length out_1),u,u,u,u,PV.own 1 1 0 pw,u,u,u,u,u,u,u,u,u,u,u,u,u,u,u,u,u,u,u,u,u,u,u,u,u,u,u,u,u,u,u,u,u,u,u,u,u,u,I i64 ((w64 ((((List.length t_Nodes):Nat):Int)+(((List.length t_Edges):Nat):Int)))),I i64 oX,u,u,u,u,u,u,u,u,u,u,u,u,u,u,u],[(0,Y 1 (rows (out_1)) false false),(1,Y 1 (rows e7) false false)],2⟩=M (fun r=>PV.tup [L (rows r.1) ⟨true,false⟩,L (rows r.2.1) ⟨true,false⟩,I i64 r.2.2]) (lW (Types.mk t_Nodes t_Edges) out_1 m2 e7 oX):=by
 intro m2
 induction m2 with
 | zero=>intros;rw [bk];rfl
 | succ m2 ih=>
  intro e7 oX pw DV
  subst DV
  rw [bm]
  simp only [WA,s1,s2,s3,s4,s5,s6,s7,↓reduceIte,ace,ae7,abJ,Sj,Tryz.f74,DB,DA,Ty,JG,BJ,uM,Tx,yI,BS,xK,nP h,zU h,jG h,lW,ih]
theorem Ky (h:Hy C R) {t_Nodes:List aE} {t_Edges:List aG} {rules:List bJ} :
  ∀ (m0:Nat) (out_1:(List (List Int))) (uj:Int) (dN:Nat),dN=List.length out_1→lp (bw E 74 C) [(Fr.blk 0),(Fr.seq 0 [1,1,1,1,1])] 0 [0,0,1,0,1,1,1,1] m0 ⟨[u,u,(PV.ptr 0 0),u,u,u,u,u,u,PV.own 1 1 0 dN,u,u,u,u,u,u,u,u,u,u,u,u,u,u,u,u,u,L (rows (rules)) fl0,I i64 ((((List.length rules):Nat):Int)),I i64 uj,u,u,u,u,u,u,u,u,u,u,u,u,u,u,u,u,u,u,u,u,u,u,u,u,u,u,u,u,u,u,u,u,u,u,u,u,u,u,u,u],[(0,X [L (rows (t_Nodes)) fl0,L (rows (t_Edges)) fl0]),(1,Y 1 (rows out_1) false false)],2⟩=M (fun r=>PV.tup [L (rows r.1) ⟨true,false⟩,L (rows r.2.1) ⟨true,false⟩,I i64 r.2.2]) (nR R (Types.mk t_Nodes t_Edges) rules m0 out_1 uj):=by
 intro m0
 induction m0 with
 | zero=>intros;rw [bk];rfl
 | succ m0 ih=>
  intro out_1 uj dN jE
  subst jE
  have sZ:=fun (t_Nodes:List aE) (t_Edges:List aG) (out_1:(List (List Int))) (e3:Int)=>Kx (C:=C) (R:=R) (t_Nodes:=t_Nodes) (t_Edges:=t_Edges) (out_1:=out_1) h ax (([]:List Int)) e3 _ rfl
  simp only [cA,cf,cc,bV,cg,bU,WS,List.length_nil,List.length_cons,Nat.reduceAdd] at sZ
  rw [bm]
  simp only [WA,s1,s2,s3,s4,s5,s6,s7,↓reduceIte,ace,ae7,abJ,Sj,Tryz.f74,DB,DA,Ty,JG,BJ,uM,Tx,yI,BS,xK,nP h,zU h,jG h,nR,ih,sZ]
theorem ad4 (h:Hy C R) (t_Nodes:List aE) (t_Edges:List aG) (rules:List bJ) :
  C.pureC 74 [PV.agg [L (rows t_Nodes) fl0,L (rows t_Edges) fl0],L (rows rules) fl0]=M (fun r=>PV.tup [L (rows r.1) ⟨true,false⟩,L (rows r.2.1) ⟨true,false⟩,I i64 r.2.2]) (f74 R (Types.mk t_Nodes t_Edges) rules):=by
 have dg:=fun (t_Nodes:List aE) (t_Edges:List aG) (rules:List bJ) (e3:Int)=>Ky (C:=C) (R:=R) (t_Nodes:=t_Nodes) (t_Edges:=t_Edges) (rules:=rules) h ax (([]:List (List Int))) e3 _ rfl
 simp only [cA,cf,cc,bV,cg,bU,WS,List.length_nil,List.length_cons,Nat.reduceAdd] at dg
 rw [aH h.1 (fn:=Tryz.f74) rfl _ rfl rfl rfl]
 simp only [WA,s1,s2,s3,s4,s5,s6,s7,↓reduceIte,ace,ae7,abJ,Sj,Tryz.f74,DB,DA,Ty,JG,BJ,uM,Tx,yI,BS,xK,nP h,zU h,jG h,f74,dg]
def mG (a:List Int) (b:List Int):Nat→Int→Int→Option Int
 | 0,_,_=>none
 | m0+1,xA,AJ=>
 (if (decide (AJ<(((List.length a):Nat):Int))) then
 (N (at? a AJ) fun x2=>
 (N (at? b AJ) fun x3=>
 (mG a b m0 (w64 (xA+(w64 (x2*x3)))) (w64 (AJ+(1:Int))))))
 else (some xA))
def f115 (a:List Int) (b:List Int):Option Int:=
 (mG a b ax (0:Int) (0:Int))
theorem Fm (h:Hy C R) {a:List Int} {b:List Int} :
  ∀ (m0:Nat) (xA:Int) (AJ:Int),lp (bw E 115 C) [(Fr.blk 0),(Fr.seq 0 [1,1,1])] 0 [0,0,1,0,1,1] m0 ⟨[L (rows (a)) fl0,L (rows (b)) fl0,u,u,u,I i64 xA,u,u,I i64 ((((List.length a):Nat):Int)),I i64 AJ,u,u,u,u,u,u,u,u,u,u,u,u,u,u,u],[],0⟩=M (fun r=>I i64 r) (mG a b m0 xA AJ):=by
 intro m0
 induction m0 with
 | zero=>intros;rw [bk];rfl
 | succ m0 ih=>
  intro xA AJ
  rw [bm]
  simp only [WA,s1,s2,s3,s4,s5,s6,s7,↓reduceIte,Yo,Z5,XD,MY,Tryz.f115,HN,GY,mG,ih]
theorem UQ (h:Hy C R) (a:List Int) (b:List Int) :
  C.pureC 115 [L (rows a) fl0,L (rows b) fl0]=M (fun r=>I i64 r) (f115 a b):=by
 rw [aH h.1 (fn:=Tryz.f115) rfl _ rfl rfl rfl]
 simp only [WA,s1,s2,s3,s4,s5,s6,s7,↓reduceIte,Yo,Z5,XD,MY,Tryz.f115,HN,GY,f115,Fm h]
def iA (l:List Int) (c1:List Int):Option Bool:=
 (N (f115 l c1) fun x0=>
 (some (decide ((-(1:Int))<x0))))
theorem sW (h:Hy C R) (l:List Int) (c1:List Int) :
  C.pureC 114 [L (rows l) fl0,PV.bL [[L (rows c1) fl0]] 0 0]=M (fun r=>PV.bool r) (iA l c1):=by
 rw [aH h.1 (fn:=Tryz.f114) rfl _ rfl rfl rfl]
 simp only [WA,s1,s2,s3,s4,s5,s6,s7,↓reduceIte,ali,asA,aja,GL,Tryz.f114,amV,MY,UQ h,iA]
def dP (s:(List (List Int))) (c1:List Int):Nat→Int→Option Int
 | 0,_=>none
 | m0+1,bA=>
 (if (decide (bA<(((List.length s):Nat):Int))) then
 (N (at? s bA) fun x1=>
 (N (iA x1 c1) fun x2=>
 (if x2 then
 (some bA)
 else (dP s c1 m0 (w64 (bA+(1:Int)))))))
 else (some (-(1:Int))))
def jY (s:(List (List Int))) (c1:List Int):Option Int:=
 (dP s c1 ax (0:Int))
theorem qQ (h:Hy C R) {s:(List (List Int))} {c1:List Int} :
  ∀ (m0:Nat) (bA:Int),lp (bw E 94 C) [(Fr.blk 0),(Fr.seq 0 [1,1])] 0 [0,0,1,0,1] m0 ⟨[L (rows (s)) fl0,PV.fn 114 [(PV.bL [[(L (rows (c1)) fl0)]] 0 0)],u,u,u,u,u,I i64 ((((List.length s):Nat):Int)),I i64 bA,u,u,u,u,u,u,u,u,u,u],[],0⟩=M (fun r=>I i64 r) (dP s c1 m0 bA):=by
 intro m0
 induction m0 with
 | zero=>intros;rw [bk];rfl
 | succ m0 ih=>
  intro bA
  rw [bm]
  simp only [WA,s1,s2,s3,s4,s5,s6,s7,↓reduceIte,SY,Vl,Sx,JD,Tryz.f94,zf,Pd,GL,sW h,dP,ih]
theorem vW (h:Hy C R) (s:(List (List Int))) (c1:List Int) :
  C.pureC 94 [L (rows s) fl0,PV.fn 114 [PV.bL [[L (rows c1) fl0]] 0 0]]=M (fun r=>I i64 r) (jY s c1):=by
 rw [aH h.1 (fn:=Tryz.f94) rfl _ rfl rfl rfl]
 simp only [WA,s1,s2,s3,s4,s5,s6,s7,↓reduceIte,SY,Vl,Sx,JD,Tryz.f94,zf,Pd,GL,sW h,jY,qQ h]
def j0 (s:(List (List Int))) (c1:List Int):Option Bool:=
 (N (jY s c1) fun x0=>
 (some (decide ((0:Int)≤x0))))
theorem wi (h:Hy C R) (s:(List (List Int))) (c1:List Int) :
  C.pureC 60 [L (rows s) fl0,PV.fn 114 [PV.bL [[L (rows c1) fl0]] 0 0]]=M (fun r=>PV.bool r) (j0 s c1):=by
 rw [aH h.1 (fn:=Tryz.f60) rfl _ rfl rfl rfl]
 simp only [WA,s1,s2,s3,s4,s5,s6,s7,↓reduceIte,ajS,aq5,ahJ,JG,Tryz.f60,al2,JD,vW h,j0]
def f77 (all:(List (List Int))) (w:List Int):Option Bool:=
 (N (j0 all w) fun x0=>
 (some (!x0)))
theorem PC (h:Hy C R) (all:(List (List Int))) (w:List Int) :
  C.pureC 77 [L (rows all) fl0,L (rows w) fl0]=M (fun r=>PV.bool r) (f77 all w):=by
 rw [aH h.1 (fn:=Tryz.f77) rfl _ rfl rfl rfl]
 simp only [WA,s1,s2,s3,s4,s5,s6,s7,↓reduceIte,nt77,co77,re77,aby,Tryz.f77,Ty,JG,Pd,GL,wi h,f77]
def gX (pC:List Int) (eA:List Int) (iH:(List (List Int))):Nat→(List Int)→Int→Option ((List Int) × Bool)
 | 0,_,_=>none
 | m0+1,w8,fB=>
 (if (decide (fB<(((List.length eA):Nat):Int))) then
 (if ((decide ((0:Int)≤fB))&&(decide (fB<(((List.length eA):Nat):Int)))) then
 (N (eA[(Int.toNat fB)]?) fun x2=>
 (if ((decide ((0:Int)≤fB))&&(decide (fB<(((List.length pC):Nat):Int)))) then
 (N (pC[(Int.toNat fB)]?) fun x3=>
 (if ((decide ((0:Int)≤x2))&&(decide (x2<(((List.length w8):Nat):Int)))) then
 (N (w8[(Int.toNat x2)]?) fun x4=>
 (gX pC eA iH m0 (List.set w8 (Int.toNat x2) x3) (w64 (fB+(1:Int)))))
 else none))
 else none))
 else none)
 else (N (f77 iH w8) fun x5=>
 (some (w8,x5))))
def wa (pC:List Int) (eA:List Int) (ez:List Int) (iH:(List (List Int))):Option ((List Int) × Bool):=
 (gX pC eA iH ax ez (0:Int))
theorem zV (h:Hy C R) {pC:List Int} {eA:List Int} {iH:(List (List Int))} :
  ∀ (m0:Nat) (w8:List Int) (fB:Int) (NR:Nat),NR=List.length w8→lp (fw E 76 4 C) [(Fr.blk 0),(Fr.seq 0 [1,1])] 0 [0,0,1,0,1] m0 ⟨[PV.own 0 1 0 (List.length pC),u,(PV.ptr 2 0),(PV.ptr 3 0),u,u,u,u,PV.own 4 1 0 (List.length eA),I i64 ((((List.length eA):Nat):Int)),I i64 fB,u,u,u,u,u,u,u,u,u,u,u,u,u,u,u],[(0,Y 1 (rows (pC)) false false),(1,X [PV.own 4 1 0 (List.length eA)]),(2,X [PV.own 5 1 0 NR]),(3,X [PV.own 6 1 0 (List.length iH)]),(4,Y 1 (rows (eA)) false false),(5,Y 1 (rows w8) false false),(6,Y 1 (rows (iH)) false false)],7⟩=M (fun r=>(PV.bool r.2,[(0,Y 1 (rows pC) false false),(1,X [PV.own 4 1 0 (List.length eA)]),(2,X [PV.own 5 1 0 (List.length r.1)]),(3,X [PV.own 6 1 0 (List.length iH)]),(4,Y 1 (rows eA) false false),(5,Y 1 (rows r.1) false false),(6,Y 1 (rows iH) false false)],7)) (gX pC eA iH m0 w8 fB):=by
 intro m0
 induction m0 with
 | zero=>intros;rw [bk];rfl
 | succ m0 ih=>
  intro w8 fB NR ank
  subst ank
  rw [bm]
  simp only [WA,s1,s2,s3,s4,s5,s6,s7,↓reduceIte,ajO,aq1,ahF,Mh,Tryz.f76,Oc,Nv,al5,aby,PC h,gX,ih]
theorem yf (h:Hy C R) (pC:List Int) (eA:List Int) (ez:List Int) (iH:(List (List Int))) (Yr:Nat) (vu:Nat) (vt:Nat) (NQ:Nat) (ano:Yr=List.length pC) (D0:vu=List.length eA) (DZ:vt=List.length ez) (adE:NQ=List.length iH) :
  refS C 76 4 ⟨[PV.own 0 1 0 Yr,(PV.ptr 1 0),(PV.ptr 2 0),(PV.ptr 3 0)],[(0,Y 1 (rows pC) false false),(1,X [PV.own 4 1 0 vu]),(2,X [PV.own 5 1 0 vt]),(3,X [PV.own 6 1 0 NQ]),(4,Y 1 (rows eA) false false),(5,Y 1 (rows ez) false false),(6,Y 1 (rows iH) false false)],7⟩=M (fun r=>(PV.bool r.2,[(0,Y 1 (rows pC) false false),(1,X [PV.own 4 1 0 (List.length eA)]),(2,X [PV.own 5 1 0 (List.length r.1)]),(3,X [PV.own 6 1 0 (List.length iH)]),(4,Y 1 (rows eA) false false),(5,Y 1 (rows r.1) false false),(6,Y 1 (rows iH) false false)],7)) (wa pC eA ez iH):=by
 subst ano
 subst D0
 subst DZ
 subst adE
 rw [tK h.1 (fn:=Tryz.f76) rfl _ _ _ rfl rfl rfl rfl]
 simp only [WA,s1,s2,s3,s4,s5,s6,s7,↓reduceIte,ajO,aq1,ahF,Mh,Tryz.f76,Oc,Nv,al5,aby,PC h,wa,zV h]
def eE (R:bI) (eu:List Int) (dn:(List (List Int))) (fc:Int) (dj:Int) (fm:Int):Nat→(List Int)→(List Int)→Int→Option ((List Int) × (List Int) × Bool)
 | 0,_,_,_=>none
 | m0+1,yN,Dk,v_3=>
 (if (decide (v_3≤(if ((decide ((6:Int)<dj))=true) then (6:Int) else dj))) then
 (if ((decide ((0:Int)≤fc))&&(decide (fc<(((List.length yN):Nat):Int)))) then
 (N (yN[(Int.toNat fc)]?) fun x4=>
 (N (bI.f113_r0 R (List.set yN (Int.toNat fc) v_3) eu Dk dn (w64 (fc+(1:Int))) (w64 (dj - v_3)) fm) fun x5=>
 (if ((x5).2).2 then
 (some ((x5).1,((x5).2).1,true))
 else (eE R eu dn fc dj fm m0 (x5).1 ((x5).2).1 (w64 (v_3+(1:Int)))))))
 else none)
 else (some (yN,Dk,false)))
def fL (R:bI) (iG:List Int) (eu:List Int) (jt:List Int) (dn:(List (List Int))) (fc:Int) (dj:Int) (fm:Int):Option ((List Int) × (List Int) × Bool):=
 (if (fc == fm) then
 (if (dj == (0:Int)) then
 (N (wa iG eu jt dn) fun x0=>
 (some (iG,(x0).1,(x0).2)))
 else (some (iG,jt,false)))
 else (eE R eu dn fc dj fm ax iG jt (if ((decide ((0:Int)<(w64 (dj - (w64 ((6:Int)*(w64 ((w64 (fm - fc)) - (1:Int)))))))))=true) then (w64 (dj - (w64 ((6:Int)*(w64 ((w64 (fm - fc)) - (1:Int))))))) else (0:Int))))
theorem wz (h:Hy C R) {eu:List Int} {dn:(List (List Int))} {fc:Int} {dj:Int} {fm:Int} :
  ∀ (m0:Nat) (yN:List Int) (Dk:List Int) (v_3:Int) (NP:Nat) (NO:Nat),NP=List.length yN→NO=List.length Dk→lp (fw E 113 7 C) [(Fr.blk 0),(Fr.seq 0 [1,1,1])] 0 [0,0,1,0,1,1] m0 ⟨[I i64 (fc),I i64 (dj),u,u,(PV.ptr 2 0),(PV.ptr 3 0),u,u,u,I i64 v_3,u,u,u,u,u,u,u,u,u,u,u,u,u,u,u,u,u,u,u,u,u,u,u,u,u,u,u,u,u,u,u,u,u,u,u],[(0,X [I i64 (fm)]),(1,X [PV.fn 76 [((PV.ptr 4 0)),((PV.ptr 5 0)),((PV.ptr 6 0))]]),(2,X [PV.own 7 1 0 NP]),(3,X [PV.fn 113 [((PV.ptr 0 0)),((PV.ptr 1 0)),((PV.ptr 2 0)),((PV.ptr 3 0))]]),(4,X [PV.own 8 1 0 (List.length eu)]),(5,X [PV.own 9 1 0 NO]),(6,X [PV.own 10 1 0 (List.length dn)]),(7,Y 1 (rows yN) false false),(8,Y 1 (rows (eu)) false false),(9,Y 1 (rows Dk) false false),(10,Y 1 (rows (dn)) false false)],11⟩=M (fun r=>(PV.bool r.2.2,[(0,X [I i64 fm]),(1,X [PV.fn 76 [((PV.ptr 4 0)),((PV.ptr 5 0)),((PV.ptr 6 0))]]),(2,X [PV.own 7 1 0 (List.length r.1)]),(3,X [PV.fn 113 [((PV.ptr 0 0)),((PV.ptr 1 0)),((PV.ptr 2 0)),((PV.ptr 3 0))]]),(4,X [PV.own 8 1 0 (List.length eu)]),(5,X [PV.own 9 1 0 (List.length r.2.1)]),(6,X [PV.own 10 1 0 (List.length dn)]),(7,Y 1 (rows r.1) false false),(8,Y 1 (rows eu) false false),(9,Y 1 (rows r.2.1) false false),(10,Y 1 (rows dn) false false)],11)) (eE R eu dn fc dj fm m0 yN Dk v_3):=by
 intro m0
 induction m0 with
 | zero=>intros;rw [bk];rfl
 | succ m0 ih=>
  intro yN Dk v_3 NP NO anj ani
  subst anj
  subst ani
  rw [bm]
  simp only [WA,s1,s2,s3,s4,s5,s6,s7,↓reduceIte,Yp,Z6,XE,xJ,Tryz.f113,HO,ac9,Mh,yf h,H6,xJ,h.2.f113_r0,eE,ih]
theorem Ce (h:Hy C R) (iG:List Int) (eu:List Int) (jt:List Int) (dn:(List (List Int))) (fc:Int) (dj:Int) (fm:Int) (rK:Nat) (rJ:Nat) (rI:Nat) (oF:Nat) (zO:rK=List.length iG) (zN:rJ=List.length eu) (zM:rI=List.length jt) (tJ:oF=List.length dn) :
  refS (level E C) 113 7 ⟨[I i64 fc,I i64 dj,(PV.ptr 0 0),(PV.ptr 1 0),(PV.ptr 2 0),(PV.ptr 3 0)],[(0,X [I i64 fm]),(1,X [PV.fn 76 [((PV.ptr 4 0)),((PV.ptr 5 0)),((PV.ptr 6 0))]]),(2,X [PV.own 7 1 0 rK]),(3,X [PV.fn 113 [((PV.ptr 0 0)),((PV.ptr 1 0)),((PV.ptr 2 0)),((PV.ptr 3 0))]]),(4,X [PV.own 8 1 0 rJ]),(5,X [PV.own 9 1 0 rI]),(6,X [PV.own 10 1 0 oF]),(7,Y 1 (rows iG) false false),(8,Y 1 (rows eu) false false),(9,Y 1 (rows jt) false false),(10,Y 1 (rows dn) false false)],11⟩=M (fun r=>(PV.bool r.2.2,[(0,X [I i64 fm]),(1,X [PV.fn 76 [((PV.ptr 4 0)),((PV.ptr 5 0)),((PV.ptr 6 0))]]),(2,X [PV.own 7 1 0 (List.length r.1)]),(3,X [PV.fn 113 [((PV.ptr 0 0)),((PV.ptr 1 0)),((PV.ptr 2 0)),((PV.ptr 3 0))]]),(4,X [PV.own 8 1 0 (List.length eu)]),(5,X [PV.own 9 1 0 (List.length r.2.1)]),(6,X [PV.own 10 1 0 (List.length dn)]),(7,Y 1 (rows r.1) false false),(8,Y 1 (rows eu) false false),(9,Y 1 (rows r.2.1) false false),(10,Y 1 (rows dn) false false)],11)) (fL R iG eu jt dn fc dj fm):=by
 subst zO
 subst zN
 subst zM
 subst tJ
 rw [Du C (fn:=Tryz.f113) _ _ _ rfl rfl rfl rfl]
 simp only [WA,s1,s2,s3,s4,s5,s6,s7,↓reduceIte,Yp,Z6,XE,xJ,Tryz.f113,HO,ac9,Mh,yf h,H6,xJ,h.2.f113_r0,fL,wz h]
def gY (R:bI) (gj:List Int) (ez:(List (List Int))) (py:Int):Nat→(List Int)→(List Int)→Int→Option (Bool × (List Int) × (List Int) × Bool × (List Int) × Bool)
 | 0,_,_,_=>none
 | m0+1,Dl,l_1,uq=>
 (if (decide (uq<(w64 ((w64 ((6:Int)*py))+(1:Int))))) then
 (N (bI.f113_r0 R l_1 gj Dl ez (0:Int) uq py) fun x3=>
 (if ((x3).2).2 then
 (some (true,((x3).2).1,(x3).1,true,([]:List Int),false))
 else (gY R gj ez py m0 ((x3).2).1 (x3).1 (w64 (uq+(1:Int))))))
 else (some (false,([]:List Int),([]:List Int),false,Dl,false)))
def wb (R:bI) (gj:List Int) (eA:List Int) (ez:(List (List Int))) (py:Int):Option (Bool × (List Int) × (List Int) × Bool × (List Int) × Bool):=
 (if (decide (((0:Int)≤py)∧(py≤((bound:Nat):Int)))) then
 (gY R gj ez py ax eA (List.replicate (Int.toNat py) (0:Int)) (0:Int))
 else none)
theorem zW (h:Hy C R) {gj:List Int} {ez:(List (List Int))} {py:Int} :
  ∀ (m0:Nat) (Dl:List Int) (l_1:List Int) (uq:Int) (NS:Nat) (acp:Nat),NS=List.length Dl→acp=List.length l_1→lp (fw E 75 3 C) [(Fr.blk 0),(Fr.seq 0 [1,1,1,1,1])] 0 [0,0,1,0,1,1,1,1] m0 ⟨[u,u,u,u,u,u,(PV.ptr 6 0),(PV.ptr 7 0),u,u,u,u,u,u,I i64 ((w64 ((w64 ((6:Int)*py))+(1:Int)))),I i64 uq,u,u,u,u,u,u,u],[(0,X [PV.own 3 1 0 (List.length gj)]),(1,X [PV.own 4 1 0 NS]),(2,X [PV.own 5 1 0 (List.length ez)]),(3,Y 1 (rows (gj)) false false),(4,Y 1 (rows Dl) false false),(5,Y 1 (rows (ez)) false false),(6,X [PV.own 8 1 0 acp]),(7,X [PV.fn 113 [((PV.ptr 9 0)),((PV.ptr 10 0)),((PV.ptr 6 0)),((PV.ptr 7 0))]]),(8,Y 1 (rows l_1) false false),(9,X [I i64 (py)]),(10,X [PV.fn 76 [((PV.ptr 0 0)),((PV.ptr 1 0)),((PV.ptr 2 0))]])],11⟩=M (fun r=>if r.1=true then ((PV.tup [(PV.own 6 1 0 (List.length r.2.2.1)),(PV.bool r.2.2.2.1)]),[(0,X [PV.own 3 1 0 (List.length gj)]),(1,X [PV.own 4 1 0 (List.length r.2.1)]),(2,X [PV.own 5 1 0 (List.length ez)]),(3,Y 1 (rows gj) false false),(4,Y 1 (rows r.2.1) false false),(5,Y 1 (rows ez) false false),(6,Y 1 (rows r.2.2.1) false false)],7) else ((PV.tup [(PV.bp),(PV.bool r.2.2.2.2.2)]),[(0,X [PV.own 3 1 0 (List.length gj)]),(1,X [PV.own 4 1 0 (List.length r.2.2.2.2.1)]),(2,X [PV.own 5 1 0 (List.length ez)]),(3,Y 1 (rows gj) false false),(4,Y 1 (rows r.2.2.2.2.1) false false),(5,Y 1 (rows ez) false false)],6)) (gY R gj ez py m0 Dl l_1 uq):=by
 intro m0
 induction m0 with
 | zero=>intros;rw [bk];rfl
 | succ m0 ih=>
  intro Dl l_1 uq NS acp anl hl_1
  subst anl
  subst hl_1
  rw [bm]
  simp only [WA,s1,s2,s3,s4,s5,s6,s7,↓reduceIte,ajP,aq2,ahG,abz,Tryz.f75,Od,H6,xJ,h.2.f113_r0,gY,ih]
theorem Kw (h:Hy C R) (gj:List Int) (eA:List Int) (ez:(List (List Int))) (py:Int) (NT:Nat) (vu:Nat) (vt:Nat) (adF:NT=List.length gj) (D0:vu=List.length eA) (DZ:vt=List.length ez) :
  refS C 75 3 ⟨[I i64 py,PV.fn 76 [((PV.ptr 0 0)),((PV.ptr 1 0)),((PV.ptr 2 0))]],[(0,X [PV.own 3 1 0 NT]),(1,X [PV.own 4 1 0 vu]),(2,X [PV.own 5 1 0 vt]),(3,Y 1 (rows gj) false false),(4,Y 1 (rows eA) false false),(5,Y 1 (rows ez) false false)],6⟩=M (fun r=>if r.1=true then ((PV.tup [(PV.own 6 1 0 (List.length r.2.2.1)),(PV.bool r.2.2.2.1)]),[(0,X [PV.own 3 1 0 (List.length gj)]),(1,X [PV.own 4 1 0 (List.length r.2.1)]),(2,X [PV.own 5 1 0 (List.length ez)]),(3,Y 1 (rows gj) false false),(4,Y 1 (rows r.2.1) false false),(5,Y 1 (rows ez) false false),(6,Y 1 (rows r.2.2.1) false false)],7) else ((PV.tup [(PV.bp),(PV.bool r.2.2.2.2.2)]),[(0,X [PV.own 3 1 0 (List.length gj)]),(1,X [PV.own 4 1 0 (List.length r.2.2.2.2.1)]),(2,X [PV.own 5 1 0 (List.length ez)]),(3,Y 1 (rows gj) false false),(4,Y 1 (rows r.2.2.2.2.1) false false),(5,Y 1 (rows ez) false false)],6)) (wb R gj eA ez py):=by
 subst adF
 subst D0
 subst DZ
 rw [tK h.1 (fn:=Tryz.f75) rfl _ _ _ rfl rfl rfl rfl]
 simp only [WA,s1,s2,s3,s4,s5,s6,s7,↓reduceIte,ajP,aq2,ahG,abz,Tryz.f75,Od,H6,xJ,h.2.f113_r0,wb,zW h]
def f47 (R:bI) (t:Types) (rules:List bJ):Option ((List Int) × Int):=
 (N (f74 R t rules) fun x0=>
 (if (!(((x0).2).2 == (0:Int))) then
 (some (([]:List Int),((x0).2).2))
 else (if (decide (((0:Int)≤(w64 ((((List.length t.Nodes):Nat):Int)+(((List.length t.Edges):Nat):Int))))∧((w64 ((((List.length t.Nodes):Nat):Int)+(((List.length t.Edges):Nat):Int)))≤((bound:Nat):Int)))) then
 (N (wb R ((x0).2).1 (List.replicate (Int.toNat (w64 ((((List.length t.Nodes):Nat):Int)+(((List.length t.Edges):Nat):Int)))) (0:Int)) (x0).1 (((List.length ((x0).2).1):Nat):Int)) fun x1=>
 (if (x1).1 then
 (if (!((((x1).2).2).2).1) then
 (some (([]:List Int),(10:Int)))
 else (some (((x1).2).1,(0:Int))))
 else (if (!(((((x1).2).2).2).2).2) then
 (some (([]:List Int),(10:Int)))
 else (some ((((((x1).2).2).2).2).1,(0:Int))))))
 else none)))
theorem PF (h:Hy C R) (t_Nodes:List aE) (t_Edges:List aG) (rules:List bJ) :
  C.pureC 47 [PV.agg [L (rows t_Nodes) fl0,L (rows t_Edges) fl0],L (rows rules) fl0]=M (fun r=>PV.tup [L (rows r.1) ⟨true,false⟩,I i64 r.2]) (f47 R (Types.mk t_Nodes t_Edges) rules):=by
 rw [aH h.1 (fn:=Tryz.f47) rfl _ rfl rfl rfl]
 simp only [WA,s1,s2,s3,s4,s5,s6,s7,↓reduceIte,nt47,co47,re47,abC,Tryz.f47,ir74,Sj,ir75,abz,ac9,Mh,ad4 h,Kw h,f47]
def f48 (R:bI) (t:Types) (r:bJ):Option ((List Int) × Int):=
 (N (f78 R t) fun x0=>
 (if (!((x0).2 == (0:Int))) then
 (some (([]:List Int),(x0).2))
 else (N (f79 R t r) fun x1=>
 (some ((x1).1,(x1).2)))))
theorem PE (h:Hy C R) (t_Nodes:List aE) (t_Edges:List aG) (bD:ByteArray) (aC:List Int) (aD:List Edge) (aT:List Slot) (aZ:Int) (aS:List Test) (ay:List Int) (az:List Edge) (aO:List Slot) (aR:Int) (aP:List Test) (aU:List Int) (aV:List Int) (aW:List Int) (aX:List Int) (ba:Bool) (aI:Int) (aJ:List Condition) (aq:List Int) (ar:List Int) (ab:List Int) (ag:List Edge) (ak:List Slot) (al:Int) (aj:List Test) :
  C.pureC 48 [PV.agg [L (rows t_Nodes) fl0,L (rows t_Edges) fl0],PV.agg [PV.str bD,L (rows aC) fl0,L (rows aD) fl0,L (rows aT) fl0,I i64 aZ,L (rows aS) fl0,L (rows ay) fl0,L (rows az) fl0,L (rows aO) fl0,I i64 aR,L (rows aP) fl0,L (rows aU) fl0,L (rows aV) fl0,L (rows aW) fl0,L (rows aX) fl0,PV.bool ba,I i64 aI,L (rows aJ) fl0,L (rows aq) fl0,L (rows ar) fl0,L (rows ab) fl0,L (rows ag) fl0,L (rows ak) fl0,I i64 al,L (rows aj) fl0]]=M (fun r=>PV.tup [L (rows r.1) ⟨true,false⟩,I i64 r.2]) (f48 R (Types.mk t_Nodes t_Edges) (bJ.mk bD (Pattern.mk (Graph.mk aC aD) aT aZ aS) (Pattern.mk (Graph.mk ay az) aO aR aP) (Part.mk aU aV) (aQ.mk aW aX) ba (Condition.mk aI aJ (aQ.mk aq ar) (Pattern.mk (Graph.mk ab ag) ak al aj)))):=by
 rw [aH h.1 (fn:=Tryz.f48) rfl _ rfl rfl rfl]
 simp only [WA,s1,s2,s3,s4,s5,s6,s7,↓reduceIte,nt48,co48,re48,abB,Tryz.f48,BJ,uM,Tx,yI,nP h,zU h,f48]
def ma (R:bI) (t:Types) (rules:List bJ):Nat→(List (List Int))→Int→Option ((List (List Int)) × Int)
 | 0,_,_=>none
 | m0+1,out_1,uk=>
 (if (decide (uk<(((List.length rules):Nat):Int))) then
 (N (at? rules uk) fun x3=>
 (N (f48 R t x3) fun x4=>
 (if (!((x4).2 == (0:Int))) then
 (some (([]:List (List Int)),(x4).2))
 else (if (decide ((List.length (out_1 ++ [(x4).1]))≤bound)) then
 (ma R t rules m0 (out_1 ++ [(x4).1]) (w64 (uk+(1:Int))))
 else none))))
 else (some (out_1,(0:Int))))
def f30 (R:bI) (t:Types) (rules:List bJ):Option ((List (List Int)) × Int):=
 (N (f47 R t rules) fun x0=>
 (if (!((x0).2 == (0:Int))) then
 (if (!((x0).2 == (10:Int))) then
 (some (([]:List (List Int)),(x0).2))
 else (ma R t rules ax ([]:List (List Int)) (0:Int)))
 else (ma R t rules ax ([]:List (List Int)) (0:Int))))
theorem yg (h:Hy C R) {t_Nodes:List aE} {t_Edges:List aG} {rules:List bJ} :
  ∀ (m0:Nat) (out_1:(List (List Int))) (uk:Int) (dN:Nat),dN=List.length out_1→lp (bw E 30 C) [(Fr.blk 0),(Fr.seq 0 [1,1,1,1])] 0 [0,0,1,0,1,1,1] m0 ⟨[u,u,(PV.ptr 0 0),u,u,u,u,u,PV.own 1 1 0 dN,u,u,u,u,u,u,u,u,u,u,u,u,u,u,u,u,u,L (rows (rules)) fl0,I i64 ((((List.length rules):Nat):Int)),I i64 uk,u,u,u,u,u,u,u,u,u,u,u,u,u,u,u,u,u,u],[(0,X [L (rows (t_Nodes)) fl0,L (rows (t_Edges)) fl0]),(1,Y 1 (rows out_1) false false)],2⟩=M (fun r=>PV.tup [L (rows r.1) ⟨true,false⟩,I i64 r.2]) (ma R (Types.mk t_Nodes t_Edges) rules m0 out_1 uk):=by
 intro m0
 induction m0 with
 | zero=>intros;rw [bk];rfl
 | succ m0 ih=>
  intro out_1 uk dN jE
  subst jE
  rw [bm]
  simp only [WA,s1,s2,s3,s4,s5,s6,s7,↓reduceIte,ajX,ara,ahO,AX,Tryz.f30,Ol,al7,abC,al6,abB,PF h,PE h,ma,ih]
theorem rW (h:Hy C R) (t_Nodes:List aE) (t_Edges:List aG) (rules:List bJ) :
  C.pureC 30 [PV.agg [L (rows t_Nodes) fl0,L (rows t_Edges) fl0],L (rows rules) fl0]=M (fun r=>PV.tup [L (rows r.1) ⟨true,false⟩,I i64 r.2]) (f30 R (Types.mk t_Nodes t_Edges) rules):=by
 have dg:=fun (t_Nodes:List aE) (t_Edges:List aG) (rules:List bJ) (e3:Int)=>yg (C:=C) (R:=R) (t_Nodes:=t_Nodes) (t_Edges:=t_Edges) (rules:=rules) h ax (([]:List (List Int))) e3 _ rfl
 simp only [cA,cf,cc,bV,cg,bU,WS,List.length_nil,List.length_cons,Nat.reduceAdd] at dg
 have Zp:=fun (t_Nodes:List aE) (t_Edges:List aG) (rules:List bJ) (e3:Int)=>yg (C:=C) (R:=R) (t_Nodes:=t_Nodes) (t_Edges:=t_Edges) (rules:=rules) h ax (([]:List (List Int))) e3 _ rfl
 simp only [cA,cf,cc,bV,cg,bU,WS,List.length_nil,List.length_cons,Nat.reduceAdd] at Zp
 rw [aH h.1 (fn:=Tryz.f30) rfl _ rfl rfl rfl]
 simp only [WA,s1,s2,s3,s4,s5,s6,s7,↓reduceIte,ajX,ara,ahO,AX,Tryz.f30,Ol,al7,abC,al6,abB,PF h,PE h,f30,dg,Zp]
def f32 (n:Int):Option Bool:=
 (if (decide (n<(0:Int))) then
 (some true)
 else (some (decide ((1000:Int)<n))))
theorem PJ (h:Hy C R) (n:Int) :
  C.pureC 32 [I i64 n]=M (fun r=>PV.bool r) (f32 n):=by
 rw [aH h.1 (fn:=Tryz.f32) rfl _ rfl rfl rfl]
 simp only [WA,s1,s2,s3,s4,s5,s6,s7,↓reduceIte,nt32,co32,re32,yK,Tryz.f32,f32]
def fg (s:List Int):Nat→Int→Option Int
 | 0,_=>none
 | m0+1,bA=>
 (if (decide (bA<(((List.length s):Nat):Int))) then
 (N (at? s bA) fun x1=>
 (N (f32 x1) fun x2=>
 (if x2 then
 (some bA)
 else (fg s m0 (w64 (bA+(1:Int)))))))
 else (some (-(1:Int))))
def qS (s:List Int):Option Int:=
 (fg s ax (0:Int))
theorem wj (h:Hy C R) {s:List Int} :
  ∀ (m0:Nat) (bA:Int),lp (bw E 49 C) [(Fr.blk 0),(Fr.seq 0 [1,1])] 0 [0,0,1,0,1] m0 ⟨[L (rows (s)) fl0,PV.fn 32 [],u,u,u,u,u,I i64 ((((List.length s):Nat):Int)),I i64 bA,u,u,u,u,u,u,u,u,u,u],[],0⟩=M (fun r=>I i64 r) (fg s m0 bA):=by
 intro m0
 induction m0 with
 | zero=>intros;rw [bk];rfl
 | succ m0 ih=>
  intro bA
  rw [bm]
  simp only [WA,s1,s2,s3,s4,s5,s6,s7,↓reduceIte,qB,rj,qo,kD,Tryz.f49,gD,BL,yK,PJ h,fg,ih]
theorem B8 (h:Hy C R) (s:List Int) :
  C.pureC 49 [L (rows s) fl0,PV.fn 32 []]=M (fun r=>I i64 r) (qS s):=by
 rw [aH h.1 (fn:=Tryz.f49) rfl _ rfl rfl rfl]
 simp only [WA,s1,s2,s3,s4,s5,s6,s7,↓reduceIte,qB,rj,qo,kD,Tryz.f49,gD,BL,yK,PJ h,qS,wj h]
def nZ (s:List Int):Option Bool:=
 (N (qS s) fun x0=>
 (some (decide ((0:Int)≤x0))))
theorem gu (h:Hy C R) (s:List Int) :
  C.pureC 31 [L (rows s) fl0,PV.fn 32 []]=M (fun r=>PV.bool r) (nZ s):=by
 rw [aH h.1 (fn:=Tryz.f31) rfl _ rfl rfl rfl]
 simp only [WA,s1,s2,s3,s4,s5,s6,s7,↓reduceIte,Dq,FK,Dj,lH,Tryz.f31,DP,kD,B8 h,nZ]
def pT (w:List Int) (effect:List Int):Nat→Int→Int→Option Int
 | 0,_,_=>none
 | m0+1,n_0,fB=>
 (if (decide (fB<(((List.length w):Nat):Int))) then
 (N (at? w fB) fun x2=>
 (N (at? effect fB) fun x3=>
 (pT w effect m0 (w64 (n_0+(w64 (x2*x3)))) (w64 (fB+(1:Int))))))
 else (some n_0))
def f33 (w:List Int) (effect:List Int):Option Int:=
 (pT w effect ax (0:Int) (0:Int))
theorem KU (h:Hy C R) {w:List Int} {effect:List Int} :
  ∀ (m0:Nat) (n_0:Int) (fB:Int),lp (bw E 33 C) [(Fr.blk 0),(Fr.seq 0 [1,1,1])] 0 [0,0,1,0,1,1] m0 ⟨[u,L (rows (effect)) fl0,u,u,u,I i64 n_0,u,u,L (rows (w)) fl0,I i64 ((((List.length w):Nat):Int)),I i64 fB,u,u,u,u,u,u,u,u,u,u,u,u,u,u],[],0⟩=M (fun r=>I i64 r) (pT w effect m0 n_0 fB):=by
 intro m0
 induction m0 with
 | zero=>intros;rw [bk];rfl
 | succ m0 ih=>
  intro n_0 fB
  rw [bm]
  simp only [WA,s1,s2,s3,s4,s5,s6,s7,↓reduceIte,ajW,aq9,ahN,AW,Tryz.f33,Oj,pT,ih]
theorem rU (h:Hy C R) (w:List Int) (effect:List Int) :
  C.pureC 33 [L (rows w) fl0,L (rows effect) fl0]=M (fun r=>I i64 r) (f33 w effect):=by
 rw [aH h.1 (fn:=Tryz.f33) rfl _ rfl rfl rfl]
 simp only [WA,s1,s2,s3,s4,s5,s6,s7,↓reduceIte,ajW,aq9,ahN,AW,Tryz.f33,Oj,f33,KU h]
def kK (et:Int) (x6:bW) (k2:(List Bool)→Int→Option Bool):Nat→(List Bool)→Int→Option Bool
 | 0,_,_=>none
 | m8+1,iO,lG=>
 (if (decide (lG<(((List.length x6.Removed):Nat):Int))) then
 (N (at? x6.Removed lG) fun x22=>
 (if ((decide ((0:Int)≤x22))&&(decide (x22<(((List.length iO):Nat):Int)))) then
 (N (iO[(Int.toNat x22)]?) fun x23=>
 (kK et x6 k2 m8 (List.set iO (Int.toNat x22) false) (w64 (lG+(1:Int)))))
 else none))
 else (k2 iO (w64 (et+(1:Int)))))
def f10_l6 (rules:List bJ) (x0:(Prod (List (List Int)) Int)) (cI:List Bool) (et:Int) (x6:bW) (k2:(List Bool)→Int→Option Bool):Nat→Int→Option Bool
 | 0,_=>none
 | m6+1,fq=>
 (if (decide (fq<(((List.length rules):Nat):Int))) then
 (if ((decide ((0:Int)≤fq))&&(decide (fq<(((List.length cI):Nat):Int)))) then
 (N (cI[(Int.toNat fq)]?) fun x17=>
 (if x17 then
 (if ((decide ((0:Int)≤fq))&&(decide (fq<(((List.length (x0).1):Nat):Int)))) then
 (N ((x0).1[(Int.toNat fq)]?) fun x18=>
 (N (f33 x6.Weights x18) fun x19=>
 (if (decide ((0:Int)<x19)) then
 (some false)
 else (f10_l6 rules x0 cI et x6 k2 m6 (w64 (fq+(1:Int)))))))
 else none)
 else (f10_l6 rules x0 cI et x6 k2 m6 (w64 (fq+(1:Int))))))
 else none)
 else (kK et x6 k2 ax cI (0:Int)))
def f10_l4 (rules:List bJ) (x0:(Prod (List (List Int)) Int)) (cI:List Bool) (et:Int) (x6:bW) (k2:(List Bool)→Int→Option Bool):Nat→Int→Option Bool
 | 0,_=>none
 | m4+1,oW=>
 (if (decide (oW<(((List.length x6.Removed):Nat):Int))) then
 (N (at? x6.Removed oW) fun x9=>
 (if (decide (x9<(0:Int))) then
 (some false)
 else (if (decide ((((List.length rules):Nat):Int)≤x9)) then
 (some false)
 else (if ((decide ((0:Int)≤x9))&&(decide (x9<(((List.length cI):Nat):Int)))) then
 (N (cI[(Int.toNat x9)]?) fun x10=>
 (if (!x10) then
 (some false)
 else (if (decide ((0:Int)<oW)) then
 (N (at? x6.Removed (w64 (oW - (1:Int)))) fun x11=>
 (if (decide (x9≤x11)) then
 (some false)
 else (if ((decide ((0:Int)≤x9))&&(decide (x9<(((List.length (x0).1):Nat):Int)))) then
 (N ((x0).1[(Int.toNat x9)]?) fun x12=>
 (N (f33 x6.Weights x12) fun x13=>
 (if (decide ((0:Int)≤x13)) then
 (some false)
 else (f10_l4 rules x0 cI et x6 k2 m4 (w64 (oW+(1:Int)))))))
 else none)))
 else (if ((decide ((0:Int)≤x9))&&(decide (x9<(((List.length (x0).1):Nat):Int)))) then
 (N ((x0).1[(Int.toNat x9)]?) fun x14=>
 (N (f33 x6.Weights x14) fun x15=>
 (if (decide ((0:Int)≤x15)) then
 (some false)
 else (f10_l4 rules x0 cI et x6 k2 m4 (w64 (oW+(1:Int)))))))
 else none))))
 else none))))
 else (f10_l6 rules x0 cI et x6 k2 ax (0:Int)))
def jP (t:Types) (rules:List bJ) (l:List bW) (x0:(Prod (List (List Int)) Int)):Nat→(List Bool)→Int→Option Bool
 | 0,_,_=>none
 | m2+1,cI,et=>
 (if (decide (et<(((List.length l):Nat):Int))) then
 (N (at? l et) fun x6=>
 (if (!((((List.length x6.Weights):Nat):Int) == (w64 ((((List.length t.Nodes):Nat):Int)+(((List.length t.Edges):Nat):Int))))) then
 (some false)
 else (if ((((List.length x6.Removed):Nat):Int) == (0:Int)) then
 (some false)
 else (N (nZ x6.Weights) fun x7=>
 (if x7 then
 (some false)
 else (f10_l4 rules x0 cI et x6 (jP t rules l x0 m2) ax (0:Int)))))))
 else (N (f34 cI true) fun x24=>
 (some (!x24))))
def f10_l0 (t:Types) (rules:List bJ) (l:List bW) (x0:(Prod (List (List Int)) Int)):Nat→(List Bool)→Int→Option Bool
 | 0,_,_=>none
 | m0+1,eI,oY=>
 (if (decide (oY<(((List.length (List.replicate (Int.toNat (((List.length rules):Nat):Int)) false)):Nat):Int))) then
 (if ((decide ((0:Int)≤oY))&&(decide (oY<(((List.length eI):Nat):Int)))) then
 (N (eI[(Int.toNat oY)]?) fun x3=>
 (f10_l0 t rules l x0 m0 (List.set eI (Int.toNat oY) true) (w64 (oY+(1:Int)))))
 else none)
 else (jP t rules l x0 ax eI (0:Int)))
def f10 (R:bI) (t:Types) (rules:List bJ) (l:List bW):Option Bool:=
 (N (f30 R t rules) fun x0=>
 (if (!((x0).2 == (0:Int))) then
 (some false)
 else (if (decide (((0:Int)≤(((List.length rules):Nat):Int))∧((((List.length rules):Nat):Int)≤((bound:Nat):Int)))) then
 (f10_l0 t rules l x0 ax (List.replicate (Int.toNat (((List.length rules):Nat):Int)) false) (0:Int))
 else none)))
theorem K9 (h:Hy C R) {t_Nodes:List aE} {t_Edges:List aG} {rules:List bJ} {l:List bW} {x0:(Prod (List (List Int)) Int)} {et:Int} {x6:bW} {m2:Nat} {k2:(List Bool)→Int→Option Bool} (hk2:∀ (z1:List Bool) (z5:Int) (nz1:Nat),nz1=List.length z1→lp (bw E 10 C) [(Fr.blk 2),(Fr.seq 0 [1,1,1,1,1,1])] 2 [0,0,1,0,1,1,1,1,1] m2 ⟨[u,L (rows (rules)) fl0,u,(PV.ptr 0 0),u,u,u,PV.own 1 1 0 (List.length (x0).1),u,PV.own 2 1 0 nz1,u,u,u,u,u,u,u,u,u,u,u,u,u,u,u,u,u,u,u,u,u,u,u,u,u,u,u,u,L (rows (l)) fl0,I i64 ((((List.length l):Nat):Int)),I i64 z5,u,u,u,u,u,u,u,u,u,u,u,u,u,u,u,u,u,u,u,u,u,u,u,u,u,u,u,u,u,u,u,u,u,u,u,u,u,u,u,u,u,u,u,u,u,u,u,u,u,u,u,u,u,u,u,u,u,u,u,u,u,u,u,u,u,u,u,u,u,u,u,u,u,u,u,u,u,u,u,u,u,u,u,u,u,u,u,u,u,u,u,u,u,u,u,u,u,u,u,u,u,u,u,u,u,u,u,u],[(0,X [L (rows (t_Nodes)) fl0,L (rows (t_Edges)) fl0]),(1,Y 1 (rows ((x0).1)) false false),(2,Y 1 (rows z1) false false)],3⟩=M (fun r=>PV.bool r) (k2 z1 z5)) :
  ∀ (m8:Nat) (iO:List Bool) (lG:Int) (vv:Nat),vv=List.length iO→lp (bw E 10 C) [(Fr.blk 8),(Fr.blk 3),(Fr.seq 2 [1,1,1,0,0,1,0,1,1,1,1,1]),(Fr.loop 2 [0,0,1,0,1,1,1,1,1] m2),(Fr.blk 2),(Fr.seq 0 [1,1,1,1,1,1])] 8 [0,0,1,1,1,1,1,0,0,1,1,0,0,1,0,1,1,1,1,1] m8 ⟨[u,L (rows (rules)) fl0,u,(PV.ptr 0 0),u,u,u,PV.own 1 1 0 (List.length (x0).1),u,PV.own 2 1 0 vv,u,u,u,u,u,u,u,u,u,u,u,u,u,u,u,u,u,u,u,u,u,u,u,u,u,u,u,u,L (rows (l)) fl0,I i64 ((((List.length l):Nat):Int)),I i64 (et),u,u,u,u,u,u,u,u,u,u,u,u,u,u,u,u,u,u,u,u,u,u,u,u,u,u,u,u,u,u,u,u,u,u,u,u,u,u,u,u,u,u,u,u,u,u,u,u,u,u,u,u,u,u,u,u,u,u,u,u,u,u,u,u,u,u,u,u,u,u,u,u,u,u,u,u,u,u,u,u,u,u,u,u,u,u,u,u,u,u,u,u,u,u,L (rows (x6.Removed)) (Fl.mk false false),I i64 ((((List.length x6.Removed):Nat):Int)),I i64 lG,u,u,u,u,u,u,u,u,u,u,u],[(0,X [L (rows (t_Nodes)) fl0,L (rows (t_Edges)) fl0]),(1,Y 1 (rows ((x0).1)) false false),(2,Y 1 (rows iO) false false)],3⟩=M (fun r=>PV.bool r) (kK et x6 k2 m8 iO lG):=by
 intro m8
 induction m8 with
 | zero=>intros;rw [bk];rfl
 | succ m8 ih=>
  intro iO lG vv Pk
  subst Pk
  rw [bm]
  simp only [WA,s1,s2,s3,s4,s5,s6,s7,↓reduceIte,JS,Lu,JQ,Dc,Tryz.f10,rP,rO,rN,rM,rL,oD,oC,Ka,AX,tn,lH,BL,yK,J9,AW,BK,yJ,nY h,rW h,gu h,rU h,kK,ih,hk2]
theorem La (h:Hy C R) {t_Nodes:List aE} {t_Edges:List aG} {rules:List bJ} {l:List bW} {x0:(Prod (List (List Int)) Int)} {cI:List Bool} {et:Int} {x6:bW} {m2:Nat} {k2:(List Bool)→Int→Option Bool} (hk2:∀ (z1:List Bool) (z5:Int) (nz1:Nat),nz1=List.length z1→lp (bw E 10 C) [(Fr.blk 2),(Fr.seq 0 [1,1,1,1,1,1])] 2 [0,0,1,0,1,1,1,1,1] m2 ⟨[u,L (rows (rules)) fl0,u,(PV.ptr 0 0),u,u,u,PV.own 1 1 0 (List.length (x0).1),u,PV.own 2 1 0 nz1,u,u,u,u,u,u,u,u,u,u,u,u,u,u,u,u,u,u,u,u,u,u,u,u,u,u,u,u,L (rows (l)) fl0,I i64 ((((List.length l):Nat):Int)),I i64 z5,u,u,u,u,u,u,u,u,u,u,u,u,u,u,u,u,u,u,u,u,u,u,u,u,u,u,u,u,u,u,u,u,u,u,u,u,u,u,u,u,u,u,u,u,u,u,u,u,u,u,u,u,u,u,u,u,u,u,u,u,u,u,u,u,u,u,u,u,u,u,u,u,u,u,u,u,u,u,u,u,u,u,u,u,u,u,u,u,u,u,u,u,u,u,u,u,u,u,u,u,u,u,u,u,u,u,u,u],[(0,X [L (rows (t_Nodes)) fl0,L (rows (t_Edges)) fl0]),(1,Y 1 (rows ((x0).1)) false false),(2,Y 1 (rows z1) false false)],3⟩=M (fun r=>PV.bool r) (k2 z1 z5)) :
  ∀ (m6:Nat) (fq:Int),lp (bw E 10 C) [(Fr.blk 6),(Fr.seq 3 [1,1,1,1,0,0,1,1,0,0,1,0,1,1,1,1,1]),(Fr.blk 3),(Fr.seq 2 [1,1,1,0,0,1,0,1,1,1,1,1]),(Fr.loop 2 [0,0,1,0,1,1,1,1,1] m2),(Fr.blk 2),(Fr.seq 0 [1,1,1,1,1,1])] 6 [0,0,1,0,1,1,1,0,0,1,1,0,0,1,0,1,1,1,1,1] m6 ⟨[u,L (rows (rules)) fl0,u,(PV.ptr 0 0),u,u,u,PV.own 1 1 0 (List.length (x0).1),u,PV.own 2 1 0 (List.length cI),u,u,(PV.ptr 3 0),u,u,u,u,u,u,u,u,u,u,u,u,u,u,u,u,u,u,u,u,u,u,u,u,u,L (rows (l)) fl0,I i64 ((((List.length l):Nat):Int)),I i64 (et),u,u,u,u,u,u,u,u,u,u,u,u,u,u,u,u,u,u,u,u,u,u,u,u,u,u,u,u,u,u,u,u,u,u,u,u,u,u,u,u,u,u,u,u,u,u,u,u,u,u,u,u,u,u,u,u,u,u,u,u,u,u,u,u,u,u,u,u,u,u,u,u,u,u,I i64 ((((List.length rules):Nat):Int)),I i64 fq,u,u,u,u,u,u,u,u,u,u,u,u,u,u,u,u,u,u,u,u,u,u,u,u,u,u,u,u,u,u,u,u],[(0,X [L (rows (t_Nodes)) fl0,L (rows (t_Edges)) fl0]),(1,Y 1 (rows ((x0).1)) false false),(2,Y 1 (rows (cI)) false false),(3,X [L (rows (x6.Weights)) (Fl.mk false false),L (rows (x6.Removed)) (Fl.mk false false)])],4⟩=M (fun r=>PV.bool r) (f10_l6 rules x0 cI et x6 k2 m6 fq):=by
 intro m6
 induction m6 with
 | zero=>intros;rw [bk];rfl
 | succ m6 ih=>
  intro fq
  rw [bm]
  simp only [WA,s1,s2,s3,s4,s5,s6,s7,↓reduceIte,JS,Lu,JQ,Dc,Tryz.f10,rP,rO,rN,rM,rL,oD,oC,Ka,AX,tn,lH,BL,yK,J9,AW,BK,yJ,nY h,rW h,gu h,rU h,f10_l6,ih,hk2,K9 h hk2]
theorem Lb (h:Hy C R) {t_Nodes:List aE} {t_Edges:List aG} {rules:List bJ} {l:List bW} {x0:(Prod (List (List Int)) Int)} {cI:List Bool} {et:Int} {x6:bW} {m2:Nat} {k2:(List Bool)→Int→Option Bool} (hk2:∀ (z1:List Bool) (z5:Int) (nz1:Nat),nz1=List.length z1→lp (bw E 10 C) [(Fr.blk 2),(Fr.seq 0 [1,1,1,1,1,1])] 2 [0,0,1,0,1,1,1,1,1] m2 ⟨[u,L (rows (rules)) fl0,u,(PV.ptr 0 0),u,u,u,PV.own 1 1 0 (List.length (x0).1),u,PV.own 2 1 0 nz1,u,u,u,u,u,u,u,u,u,u,u,u,u,u,u,u,u,u,u,u,u,u,u,u,u,u,u,u,L (rows (l)) fl0,I i64 ((((List.length l):Nat):Int)),I i64 z5,u,u,u,u,u,u,u,u,u,u,u,u,u,u,u,u,u,u,u,u,u,u,u,u,u,u,u,u,u,u,u,u,u,u,u,u,u,u,u,u,u,u,u,u,u,u,u,u,u,u,u,u,u,u,u,u,u,u,u,u,u,u,u,u,u,u,u,u,u,u,u,u,u,u,u,u,u,u,u,u,u,u,u,u,u,u,u,u,u,u,u,u,u,u,u,u,u,u,u,u,u,u,u,u,u,u,u,u],[(0,X [L (rows (t_Nodes)) fl0,L (rows (t_Edges)) fl0]),(1,Y 1 (rows ((x0).1)) false false),(2,Y 1 (rows z1) false false)],3⟩=M (fun r=>PV.bool r) (k2 z1 z5)) :
  ∀ (m4:Nat) (oW:Int),lp (bw E 10 C) [(Fr.blk 4),(Fr.seq 3 [1,1,1,0,0,1,1,0,0,1,0,1,1,1,1,1]),(Fr.blk 3),(Fr.seq 2 [1,1,1,0,0,1,0,1,1,1,1,1]),(Fr.loop 2 [0,0,1,0,1,1,1,1,1] m2),(Fr.blk 2),(Fr.seq 0 [1,1,1,1,1,1])] 4 [0,0,1,0,1,1,0,0,1,1,0,0,1,0,1,1,1,1,1] m4 ⟨[u,L (rows (rules)) fl0,u,(PV.ptr 0 0),u,u,u,PV.own 1 1 0 (List.length (x0).1),u,PV.own 2 1 0 (List.length cI),u,u,(PV.ptr 3 0),u,u,u,u,u,u,u,u,u,u,u,u,u,u,u,u,u,u,u,u,u,u,u,u,u,L (rows (l)) fl0,I i64 ((((List.length l):Nat):Int)),I i64 (et),u,u,u,u,u,u,u,u,u,u,u,u,u,u,u,u,u,u,u,u,u,u,u,u,u,u,L (rows (x6.Removed)) (Fl.mk false false),I i64 ((((List.length x6.Removed):Nat):Int)),I i64 oW,u,u,u,u,u,u,u,u,u,u,u,u,u,u,u,u,u,u,u,u,u,u,u,u,u,u,u,u,u,u,u,u,u,u,u,u,u,u,u,u,u,u,u,u,u,u,u,u,u,u,u,u,u,u,u,u,u,u,u,u,u,u,u,u,u,u,u,u,u,u,u,u,u,u,u,u,u,u,u],[(0,X [L (rows (t_Nodes)) fl0,L (rows (t_Edges)) fl0]),(1,Y 1 (rows ((x0).1)) false false),(2,Y 1 (rows (cI)) false false),(3,X [L (rows (x6.Weights)) (Fl.mk false false),L (rows (x6.Removed)) (Fl.mk false false)])],4⟩=M (fun r=>PV.bool r) (f10_l4 rules x0 cI et x6 k2 m4 oW):=by
 intro m4
 induction m4 with
 | zero=>intros;rw [bk];rfl
 | succ m4 ih=>
  intro oW
  rw [bm]
  simp only [WA,s1,s2,s3,s4,s5,s6,s7,↓reduceIte,JS,Lu,JQ,Dc,Tryz.f10,rP,rO,rN,rM,rL,oD,oC,Ka,AX,tn,lH,BL,yK,J9,AW,BK,yJ,nY h,rW h,gu h,rU h,f10_l4,ih,hk2,La h hk2]
theorem Lc (h:Hy C R) {t_Nodes:List aE} {t_Edges:List aG} {rules:List bJ} {l:List bW} {x0:(Prod (List (List Int)) Int)} :
  ∀ (m2:Nat) (cI:List Bool) (et:Int) (lN:Nat),lN=List.length cI→lp (bw E 10 C) [(Fr.blk 2),(Fr.seq 0 [1,1,1,1,1,1])] 2 [0,0,1,0,1,1,1,1,1] m2 ⟨[u,L (rows (rules)) fl0,u,(PV.ptr 0 0),u,u,u,PV.own 1 1 0 (List.length (x0).1),u,PV.own 2 1 0 lN,u,u,u,u,u,u,u,u,u,u,u,u,u,u,u,u,u,u,u,u,u,u,u,u,u,u,u,u,L (rows (l)) fl0,I i64 ((((List.length l):Nat):Int)),I i64 et,u,u,u,u,u,u,u,u,u,u,u,u,u,u,u,u,u,u,u,u,u,u,u,u,u,u,u,u,u,u,u,u,u,u,u,u,u,u,u,u,u,u,u,u,u,u,u,u,u,u,u,u,u,u,u,u,u,u,u,u,u,u,u,u,u,u,u,u,u,u,u,u,u,u,u,u,u,u,u,u,u,u,u,u,u,u,u,u,u,u,u,u,u,u,u,u,u,u,u,u,u,u,u,u,u,u,u,u],[(0,X [L (rows (t_Nodes)) fl0,L (rows (t_Edges)) fl0]),(1,Y 1 (rows ((x0).1)) false false),(2,Y 1 (rows cI) false false)],3⟩=M (fun r=>PV.bool r) (jP (Types.mk t_Nodes t_Edges) rules l x0 m2 cI et):=by
 intro m2
 induction m2 with
 | zero=>intros;rw [bk];rfl
 | succ m2 ih=>
  intro cI et lN zP
  subst zP
  rw [bm]
  simp only [WA,s1,s2,s3,s4,s5,s6,s7,↓reduceIte,JS,Lu,JQ,Dc,Tryz.f10,rP,rO,rN,rM,rL,oD,oC,Ka,AX,tn,lH,BL,yK,J9,AW,BK,yJ,nY h,rW h,gu h,rU h,jP,ih,Lb h ih]
theorem Ld (h:Hy C R) {t_Nodes:List aE} {t_Edges:List aG} {rules:List bJ} {l:List bW} {x0:(Prod (List (List Int)) Int)} :
  ∀ (m0:Nat) (eI:List Bool) (oY:Int) (lO:Nat),lO=List.length eI→lp (bw E 10 C) [(Fr.blk 0),(Fr.seq 0 [1,1,1,1,1])] 0 [0,0,1,0,1,1,1,1] m0 ⟨[u,L (rows (rules)) fl0,L (rows (l)) fl0,(PV.ptr 0 0),u,u,u,PV.own 1 1 0 (List.length (x0).1),u,PV.own 2 1 0 lO,u,u,u,u,u,u,u,u,u,u,u,u,u,u,u,u,u,u,u,u,I i64 ((((List.length (List.replicate (Int.toNat (((List.length rules):Nat):Int)) false)):Nat):Int)),I i64 oY,u,u,u,u,u,u,u,u,u,u,u,u,u,u,u,u,u,u,u,u,u,u,u,u,u,u,u,u,u,u,u,u,u,u,u,u,u,u,u,u,u,u,u,u,u,u,u,u,u,u,u,u,u,u,u,u,u,u,u,u,u,u,u,u,u,u,u,u,u,u,u,u,u,u,u,u,u,u,u,u,u,u,u,u,u,u,u,u,u,u,u,u,u,u,u,u,u,u,u,u,u,u,u,u,u,u,u,u,u,u,u,u,u,u,u,u,u],[(0,X [L (rows (t_Nodes)) fl0,L (rows (t_Edges)) fl0]),(1,Y 1 (rows ((x0).1)) false false),(2,Y 1 (rows eI) false false)],3⟩=M (fun r=>PV.bool r) (f10_l0 (Types.mk t_Nodes t_Edges) rules l x0 m0 eI oY):=by
 intro m0
 induction m0 with
 | zero=>intros;rw [bk];rfl
 | succ m0 ih=>
  intro eI oY lO zQ
  subst zQ
  rw [bm]
  simp only [WA,s1,s2,s3,s4,s5,s6,s7,↓reduceIte,JS,Lu,JQ,Dc,Tryz.f10,rP,rO,rN,rM,rL,oD,oC,Ka,AX,tn,lH,BL,yK,J9,AW,BK,yJ,nY h,rW h,gu h,rU h,f10_l0,ih,Lc h]
theorem aeR (h:Hy C R) (t_Nodes:List aE) (t_Edges:List aG) (rules:List bJ) (l:List bW) :
  C.pureC 10 [PV.agg [L (rows t_Nodes) fl0,L (rows t_Edges) fl0],L (rows rules) fl0,L (rows l) fl0]=M (fun r=>PV.bool r) (f10 R (Types.mk t_Nodes t_Edges) rules l):=by
 rw [aH h.1 (fn:=Tryz.f10) rfl _ rfl rfl rfl]
 simp only [WA,s1,s2,s3,s4,s5,s6,s7,↓reduceIte,JS,Lu,JQ,Dc,Tryz.f10,rP,rO,rN,rM,rL,oD,oC,Ka,AX,tn,lH,BL,yK,J9,AW,BK,yJ,nY h,rW h,gu h,rU h,f10,Ld h]
def pG (w:List Int) (effect:List Int):Nat→Int→Int→Option Int
 | 0,_,_=>none
 | m0+1,n_0,i_1=>
 (if (decide (i_1<(((List.length w):Nat):Int))) then
 (N (at? w i_1) fun x2=>
 (N (at? effect i_1) fun x3=>
 (pG w effect m0 (w64 (n_0+(w64 (x2*x3)))) (w64 (i_1+(1:Int))))))
 else (some n_0))
def f80 (w:List Int) (effect:List Int):Option Int:=
 (pG w effect ax (0:Int) (0:Int))
theorem Kn (h:Hy C R) {w:List Int} {effect:List Int} :
  ∀ (m0:Nat) (n_0:Int) (i_1:Int),lp (bw E 80 C) [(Fr.blk 0),(Fr.seq 0 [1,1,1])] 0 [0,0,1,0,1,1] m0 ⟨[L (rows (w)) fl0,L (rows (effect)) fl0,u,u,u,I i64 n_0,I i64 i_1,u,u,u,u,u,u,u,u,u,u,u,u,u,u,u,u,u,u],[],0⟩=M (fun r=>I i64 r) (pG w effect m0 n_0 i_1):=by
 intro m0
 induction m0 with
 | zero=>intros;rw [bk];rfl
 | succ m0 ih=>
  intro n_0 i_1
  rw [bm]
  simp only [WA,s1,s2,s3,s4,s5,s6,s7,↓reduceIte,ajN,aq0,ahE,Si,Tryz.f80,Ob,Nu,pG,ih]
theorem PA (h:Hy C R) (w:List Int) (effect:List Int) :
  C.pureC 80 [L (rows w) fl0,L (rows effect) fl0]=M (fun r=>I i64 r) (f80 w effect):=by
 rw [aH h.1 (fn:=Tryz.f80) rfl _ rfl rfl rfl]
 simp only [WA,s1,s2,s3,s4,s5,s6,s7,↓reduceIte,ajN,aq0,ahE,Si,Tryz.f80,Ob,Nu,f80,Kn h]
def l8 (effects:(List (List Int))) (left:List Bool) (w:List Int):Nat→(List Int)→Int→Option ((List Int) × Bool)
 | 0,_,_=>none
 | m0+1,bP,i_1=>
 (if (decide (i_1<(((List.length effects):Nat):Int))) then
 (N (at? left i_1) fun x2=>
 (if (!x2) then
 (l8 effects left w m0 bP (w64 (i_1+(1:Int))))
 else (N (at? effects i_1) fun x3=>
 (N (f80 w x3) fun x4=>
 (if (decide ((0:Int)<x4)) then
 (some (([]:List Int),false))
 else (if (decide (x4<(0:Int))) then
 (if (decide ((List.length (bP ++ [i_1]))≤bound)) then
 (l8 effects left w m0 (bP ++ [i_1]) (w64 (i_1+(1:Int))))
 else none)
 else (l8 effects left w m0 bP (w64 (i_1+(1:Int))))))))))
 else (some (bP,true)))
def f51 (effects:(List (List Int))) (left:List Bool) (w:List Int):Option ((List Int) × Bool):=
 (l8 effects left w ax ([]:List Int) (0:Int))
theorem KI (h:Hy C R) {effects:(List (List Int))} {left:List Bool} {w:List Int} :
  ∀ (m0:Nat) (bP:List Int) (i_1:Int) (dO:Nat),dO=List.length bP→lp (bw E 51 C) [(Fr.blk 0),(Fr.seq 0 [1,1,1])] 0 [0,0,1,0,1,1] m0 ⟨[L (rows (effects)) fl0,L (rows (left)) fl0,L (rows (w)) fl0,u,u,u,u,u,PV.own 0 1 0 dO,I i64 i_1,u,u,u,u,u,u,u,u,u,u,u,u,u,u,u,u,u,u,u,u,u,u,u,u,u,u,u],[(0,Y 1 (rows bP) false false)],1⟩=M (fun r=>PV.tup [L (rows r.1) ⟨true,false⟩,PV.bool r.2]) (l8 effects left w m0 bP i_1):=by
 intro m0
 induction m0 with
 | zero=>intros;rw [bk];rfl
 | succ m0 ih=>
  intro bP i_1 dO jF
  subst jF
  rw [bm]
  simp only [WA,s1,s2,s3,s4,s5,s6,s7,↓reduceIte,ajU,aq7,ahL,Mk,Tryz.f51,Oh,al4,Si,PA h,l8,ih]
theorem Ej (h:Hy C R) (effects:(List (List Int))) (left:List Bool) (w:List Int) :
  C.pureC 51 [L (rows effects) fl0,L (rows left) fl0,L (rows w) fl0]=M (fun r=>PV.tup [L (rows r.1) ⟨true,false⟩,PV.bool r.2]) (f51 effects left w):=by
 have dg:=fun (effects:(List (List Int))) (left:List Bool) (w:List Int) (e4:Int)=>KI (C:=C) (R:=R) (effects:=effects) (left:=left) (w:=w) h ax (([]:List Int)) e4 _ rfl
 simp only [cA,cf,cc,bV,cg,bU,WS,List.length_nil,List.length_cons,Nat.reduceAdd] at dg
 rw [aH h.1 (fn:=Tryz.f51) rfl _ rfl rfl rfl]
 simp only [WA,s1,s2,s3,s4,s5,s6,s7,↓reduceIte,ajU,aq7,ahL,Mk,Tryz.f51,Oh,al4,Si,PA h,f51,dg]
def pK (l:List Int) (n:Int):Nat→Int→Option Bool
 | 0,_=>none
 | m0+1,i_0=>
 (if (decide (i_0<(((List.length l):Nat):Int))) then
 (N (at? l i_0) fun x1=>
 (if (x1 == n) then
 (some true)
 else (pK l n m0 (w64 (i_0+(1:Int))))))
 else (some false))
def f52 (l:List Int) (n:Int):Option Bool:=
 (pK l n ax (0:Int))
theorem KH (h:Hy C R) {l:List Int} {n:Int} :
  ∀ (m0:Nat) (i_0:Int),lp (bw E 52 C) [(Fr.blk 0),(Fr.seq 0 [1,1])] 0 [0,0,1,0,1] m0 ⟨[L (rows (l)) fl0,I i64 (n),u,u,u,I i64 i_0,u,u,u,u,u,u,u,u,u,u,u,u],[],0⟩=M (fun r=>PV.bool r) (pK l n m0 i_0):=by
 intro m0
 induction m0 with
 | zero=>intros;rw [bk];rfl
 | succ m0 ih=>
  intro i_0
  rw [bm]
  simp only [WA,s1,s2,s3,s4,s5,s6,s7,↓reduceIte,ajT,aq6,ahK,Mj,Tryz.f52,Og,pK,ih]
theorem Ei (h:Hy C R) (l:List Int) (n:Int) :
  C.pureC 52 [L (rows l) fl0,I i64 n]=M (fun r=>PV.bool r) (f52 l n):=by
 rw [aH h.1 (fn:=Tryz.f52) rfl _ rfl rfl rfl]
 simp only [WA,s1,s2,s3,s4,s5,s6,s7,↓reduceIte,ajT,aq6,ahK,Mj,Tryz.f52,Og,f52,KH h]
def f35_l2 (s:bW) (x3:(Prod (List Int) Bool)):Nat→Int→Option Bool
 | 0,_=>none
 | m2+1,i_4=>
 (if (decide (i_4<(((List.length s.Removed):Nat):Int))) then
 (N (at? s.Removed i_4) fun x5=>
 (N (f52 (x3).1 x5) fun x6=>
 (if (!x6) then
 (some false)
 else (if (decide ((0:Int)<i_4)) then
 (N (at? s.Removed i_4) fun x7=>
 (N (at? s.Removed (w64 (i_4 - (1:Int)))) fun x8=>
 (if (decide (x7≤x8)) then
 (some false)
 else (f35_l2 s x3 m2 (w64 (i_4+(1:Int)))))))
 else (f35_l2 s x3 m2 (w64 (i_4+(1:Int))))))))
 else (some true))
def pS (effects:(List (List Int))) (left:List Bool) (s:bW) (n:Int):Nat→Int→Option Bool
 | 0,_=>none
 | m0+1,i_0=>
 (if (decide (i_0<n)) then
 (N (at? s.Weights i_0) fun x1=>
 (if (decide (x1<(0:Int))) then
 (some false)
 else (N (at? s.Weights i_0) fun x2=>
 (if (decide ((1000:Int)<x2)) then
 (some false)
 else (pS effects left s n m0 (w64 (i_0+(1:Int))))))))
 else (N (f51 effects left s.Weights) fun x3=>
 (if (!(x3).2) then
 (some false)
 else (f35_l2 s x3 ax (0:Int)))))
def f35 (effects:(List (List Int))) (left:List Bool) (s:bW) (n:Int):Option Bool:=
 (if (!((((List.length s.Weights):Nat):Int) == n)) then
 (some false)
 else (if ((((List.length s.Removed):Nat):Int) == (0:Int)) then
 (some false)
 else (pS effects left s n ax (0:Int))))
theorem KS (h:Hy C R) {gf:List Int} {gh:List Int} {x3:(Prod (List Int) Bool)} :
  ∀ (m2:Nat) (i_4:Int),lp (bw E 35 C) [(Fr.blk 2),(Fr.seq 0 [1,1,1,1,1,1])] 2 [0,0,1,0,1,1,1,1,1] m2 ⟨[u,u,u,u,u,u,(PV.ptr 0 0),u,u,u,PV.own 1 1 0 (List.length (x3).1),u,I i64 i_4,u,u,u,u,u,u,u,u,u,u,u,u,u,u,u,u,u,u,u,u,u,u,u,u,u,u,u,u,u,u,u,u,u,u,u,u,u,u,u,u,u,u,u,u,u,u,u,u,u,u,u,u,u,u,u,u,u,u,u,u,u,u,u,u,u,u,u,u,u,u,u,u,u],[(0,X [L (rows (gf)) fl0,L (rows (gh)) fl0]),(1,Y 1 (rows ((x3).1)) false false)],2⟩=M (fun r=>PV.bool r) (f35_l2 (bW.mk gf gh) x3 m2 i_4):=by
 intro m2
 induction m2 with
 | zero=>intros;rw [bk];rfl
 | succ m2 ih=>
  intro i_4
  rw [bm]
  simp only [WA,s1,s2,s3,s4,s5,s6,s7,↓reduceIte,aci,afb,abN,C9,Tryz.f35,DJ,DI,yQ,adi,Mk,adh,Mj,Ej h,Ei h,f35_l2,ih]
theorem KT (h:Hy C R) {effects:(List (List Int))} {left:List Bool} {gf:List Int} {gh:List Int} {n:Int} :
  ∀ (m0:Nat) (i_0:Int),lp (bw E 35 C) [(Fr.blk 0),(Fr.seq 0 [1,1,1])] 0 [0,0,1,0,1,1] m0 ⟨[L (rows (effects)) fl0,L (rows (left)) fl0,u,I i64 (n),u,u,(PV.ptr 0 0),u,u,I i64 i_0,u,u,u,u,u,u,u,u,u,u,u,u,u,u,u,u,u,u,u,u,u,u,u,u,u,u,u,u,u,u,u,u,u,u,u,u,u,u,u,u,u,u,u,u,u,u,u,u,u,u,u,u,u,u,u,u,u,u,u,u,u,u,u,u,u,u,u,u,u,u,u,u,u,u,u,u],[(0,X [L (rows (gf)) fl0,L (rows (gh)) fl0])],1⟩=M (fun r=>PV.bool r) (pS effects left (bW.mk gf gh) n m0 i_0):=by
 intro m0
 induction m0 with
 | zero=>intros;rw [bk];rfl
 | succ m0 ih=>
  intro i_0
  rw [bm]
  simp only [WA,s1,s2,s3,s4,s5,s6,s7,↓reduceIte,aci,afb,abN,C9,Tryz.f35,DJ,DI,yQ,adi,Mk,adh,Mj,Ej h,Ei h,pS,ih,KS h]
theorem zY (h:Hy C R) (effects:(List (List Int))) (left:List Bool) (gf:List Int) (gh:List Int) (n:Int) :
  C.pureC 35 [L (rows effects) fl0,L (rows left) fl0,PV.agg [L (rows gf) fl0,L (rows gh) fl0],I i64 n]=M (fun r=>PV.bool r) (f35 effects left (bW.mk gf gh) n):=by
 rw [aH h.1 (fn:=Tryz.f35) rfl _ rfl rfl rfl]
 simp only [WA,s1,s2,s3,s4,s5,s6,s7,↓reduceIte,aci,afb,abN,C9,Tryz.f35,DJ,DI,yQ,adi,Mk,adh,Mj,Ej h,Ei h,f35,KT h]
end Go.S
