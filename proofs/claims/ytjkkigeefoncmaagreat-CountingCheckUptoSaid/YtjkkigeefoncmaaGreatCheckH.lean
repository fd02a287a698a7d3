import Derived.Test.YtjkkigeefoncmaaGreatCheckG
set_option linter.all false
set_option maxRecDepth 100000
set_option linter.defProp false
noncomputable section
set_option maxHeartbeats 4000000
namespace Go.S
open Go Go.Pm Go.Proofs
open Nat renaming reduceAdd→s1,reduceSub→s2,reduceMul→s3,reduceBEq→s4,reduceLeDiff→s5,reduceEqDiff→s6,reduceLT→s7
open Go.IntKind (i64)
open Go.Pm.PV renaming undef→u,lit→L,int→I
open Go.Pm.bq renaming box→X,arr→Y
open Option renaming bind→N,map→M
variable {C:Pm.Callee} {R:bI}
def mb (effects:(List (List Int))) (left:List Bool) (bP:List Int) (k_1:Int) (k0:(List Int)→Int→Option (List Int)):Nat→Bool→Int→Option (List Int)
 | 0,_,_=>none
 | m2+1,rQ,i_3=>
 (if (decide (i_3<(((List.length effects):Nat):Int))) then
 (if rQ then
 (mb effects left bP k_1 k0 m2 true (w64 (i_3+(1:Int))))
 else (N (at? left i_3) fun x4=>
 (if x4 then
 (N (at? effects i_3) fun x5=>
 (N (at? x5 k_1) fun x6=>
 (mb effects left bP k_1 k0 m2 (!(x6 == (0:Int))) (w64 (i_3+(1:Int))))))
 else (mb effects left bP k_1 k0 m2 false (w64 (i_3+(1:Int)))))))
 else (if rQ then
 (if (decide ((List.length (bP ++ [k_1]))≤bound)) then
 (k0 (bP ++ [k_1]) (w64 (k_1+(1:Int))))
 else none)
 else (k0 bP (w64 (k_1+(1:Int))))))
def n7 (effects:(List (List Int))) (left:List Bool) (n:Int):Nat→(List Int)→Int→Option (List Int)
 | 0,_,_=>none
 | m0+1,bP,k_1=>
 (if (decide (k_1<n)) then
 (mb effects left bP k_1 (n7 effects left n m0) ax false (0:Int))
 else (some bP))
def f27 (effects:(List (List Int))) (left:List Bool) (n:Int):Option (List Int):=
 (n7 effects left n ax ([]:List Int) (0:Int))
theorem KY (h:Hy C R) {effects:(List (List Int))} {left:List Bool} {n:Int} {bP:List Int} {k_1:Int} {m0:Nat} {k0:(List Int)→Int→Option (List Int)} (hk0:∀ (z0:List Int) (z4:Int) (nz0:Nat),nz0=List.length z0→lp (bw E 27 C) [(Fr.blk 0),(Fr.seq 0 [1,1,1])] 0 [0,0,1,0,1,1] m0 ⟨[L (rows (effects)) fl0,L (rows (left)) fl0,I i64 (n),u,u,u,u,PV.own 0 1 0 nz0,I i64 z4,u,u,u,u,u,u,u,u,u,u,u,u,u,u,u,u,u,u,u,u,u,u,u,u,u,u,u,u,u,u,u,u,u,u,u,u],[(0,Y 1 (rows z0) false false)],1⟩=M (fun r=>L (rows r) ⟨true,false⟩) (k0 z0 z4)) :
  ∀ (m2:Nat) (rQ:Bool) (i_3:Int),lp (bw E 27 C) [(Fr.blk 2),(Fr.seq 1 [1,1,0,0,1,0,0,1,0,1,1]),(Fr.blk 1),(Fr.seq 0 [1,1,0,0,1,0,1,1]),(Fr.loop 0 [0,0,1,0,1,1] m0),(Fr.blk 0),(Fr.seq 0 [1,1,1])] 2 [0,0,1,0,1,0,0,1,0,0,1,0,1,1] m2 ⟨[L (rows (effects)) fl0,L (rows (left)) fl0,I i64 (n),u,u,u,u,PV.own 0 1 0 (List.length bP),I i64 (k_1),PV.bool rQ,I i64 i_3,u,u,u,u,u,u,u,u,u,u,u,u,u,u,u,u,u,u,u,u,u,u,u,u,u,u,u,u,u,u,u,u,u,u],[(0,Y 1 (rows (bP)) false false)],1⟩=M (fun r=>L (rows r) ⟨true,false⟩) (mb effects left bP k_1 k0 m2 rQ i_3):=by
 intro m2
 induction m2 with
 | zero=>intros;rw [bk];rfl
 | succ m2 ih=>
  intro rQ i_3
  rw [bm]
  simp only [WA,s1,s2,s3,s4,s5,s6,s7,↓reduceIte,acj,afc,abO,Mm,Tryz.f27,DL,DK,mb,ih,hk0]
theorem KZ (h:Hy C R) {effects:(List (List Int))} {left:List Bool} {n:Int} :
  ∀ (m0:Nat) (bP:List Int) (k_1:Int) (dO:Nat),dO=List.length bP→lp (bw E 27 C) [(Fr.blk 0),(Fr.seq 0 [1,1,1])] 0 [0,0,1,0,1,1] m0 ⟨[L (rows (effects)) fl0,L (rows (left)) fl0,I i64 (n),u,u,u,u,PV.own 0 1 0 dO,I i64 k_1,u,u,u,u,u,u,u,u,u,u,u,u,u,u,u,u,u,u,u,u,u,u,u,u,u,u,u,u,u,u,u,u,u,u,u,u],[(0,Y 1 (rows bP) false false)],1⟩=M (fun r=>L (rows r) ⟨true,false⟩) (n7 effects left n m0 bP k_1):=by
 intro m0
 induction m0 with
 | zero=>intros;rw [bk];rfl
 | succ m0 ih=>
  intro bP k_1 dO jF
  subst jF
  rw [bm]
  simp only [WA,s1,s2,s3,s4,s5,s6,s7,↓reduceIte,acj,afc,abO,Mm,Tryz.f27,DL,DK,n7,ih,KY h ih]
theorem PL (h:Hy C R) (effects:(List (List Int))) (left:List Bool) (n:Int) :
  C.pureC 27 [L (rows effects) fl0,L (rows left) fl0,I i64 n]=M (fun r=>L (rows r) ⟨true,false⟩) (f27 effects left n):=by
 have dg:=fun (effects:(List (List Int))) (left:List Bool) (n:Int) (e4:Int)=>KZ (C:=C) (R:=R) (effects:=effects) (left:=left) (n:=n) h ax (([]:List Int)) e4 _ rfl
 simp only [cA,cf,cc,bV,cg,bU,WS,List.length_nil,List.length_cons,Nat.reduceAdd] at dg
 rw [aH h.1 (fn:=Tryz.f27) rfl _ rfl rfl rfl]
 simp only [WA,s1,s2,s3,s4,s5,s6,s7,↓reduceIte,acj,afc,abO,Mm,Tryz.f27,DL,DK,f27,dg]
def vZ (t:Types) (x2:(Prod (List (List Int)) Int)):Nat→(List Bool)→Int→Option Bool
 | 0,_,_=>none
 | m0+1,kE,i_4=>
 (if (decide (i_4<(((List.length kE):Nat):Int))) then
 (if ((decide ((0:Int)≤i_4))&&(decide (i_4<(((List.length kE):Nat):Int)))) then
 (N (kE[(Int.toNat i_4)]?) fun x5=>
 (vZ t x2 m0 (List.set kE (Int.toNat i_4) true) (w64 (i_4+(1:Int)))))
 else none)
 else (N (f28 t) fun x6=>
 (N (f27 (x2).1 kE x6) fun x7=>
 (some (decide ((((List.length x7):Nat):Int)≤(4:Int)))))))
def f7 (R:bI) (t:Types) (rules:List bJ):Option Bool:=
 (N (f13 t) fun x0=>
 (if (!x0) then
 (some false)
 else (N (f25 R rules) fun x1=>
 (if (!x1) then
 (some false)
 else (N (f26 R t rules) fun x2=>
 (if (!((x2).2 == (0:Int))) then
 (some true)
 else (if (decide (((0:Int)≤(((List.length rules):Nat):Int))∧((((List.length rules):Nat):Int)≤((bound:Nat):Int)))) then
 (vZ t x2 ax (List.replicate (Int.toNat (((List.length rules):Nat):Int)) false) (0:Int))
 else none)))))))
theorem PB (h:Hy C R) {t_Nodes:List aE} {t_Edges:List aG} {x2:(Prod (List (List Int)) Int)} :
  ∀ (m0:Nat) (kE:List Bool) (i_4:Int) (y9:Nat),y9=List.length kE→lp (bw E 7 C) [(Fr.blk 0),(Fr.seq 0 [1,1,1,1,1,1])] 0 [0,0,1,0,1,1,1,1,1] m0 ⟨[u,u,(PV.ptr 0 0),u,u,PV.own 1 1 0 (List.length (x2).1),u,PV.own 2 1 0 y9,I i64 i_4,u,u,u,u,u,u,u,u,u,u,u,u,u,u,u,u,u,u,u,u,u,u,u,u,u,u,u,u,u,u,u,u,u,u,u],[(0,X [L (rows (t_Nodes)) fl0,L (rows (t_Edges)) fl0]),(1,Y 1 (rows ((x2).1)) false false),(2,Y 1 (rows kE) false false)],3⟩=M (fun r=>PV.bool r) (vZ (Types.mk t_Nodes t_Edges) x2 m0 kE i_4):=by
 intro m0
 induction m0 with
 | zero=>intros;rw [bk];rfl
 | succ m0 ih=>
  intro kE i_4 y9 T3
  subst T3
  rw [bm]
  simp only [WA,s1,s2,s3,s4,s5,s6,s7,↓reduceIte,nt7,co7,re7,rk7,Tryz.f7,Yy,amT,Db,ame,Sn,Kc,AY,amb,Mm,Kb,Da,P5 h,PM h,rY h,rX h,PL h,vZ,ih]
theorem aqy (h:Hy C R) (t_Nodes:List aE) (t_Edges:List aG) (rules:List bJ) :
  C.pureC 7 [PV.agg [L (rows t_Nodes) fl0,L (rows t_Edges) fl0],L (rows rules) fl0]=M (fun r=>PV.bool r) (f7 R (Types.mk t_Nodes t_Edges) rules):=by
 rw [aH h.1 (fn:=Tryz.f7) rfl _ rfl rfl rfl]
 simp only [WA,s1,s2,s3,s4,s5,s6,s7,↓reduceIte,nt7,co7,re7,rk7,Tryz.f7,Yy,amT,Db,ame,Sn,Kc,AY,amb,Mm,Kb,Da,P5 h,PM h,rY h,rX h,PL h,f7,PB h]
def f9 (x:bW):Option Bool:=
 (if (decide ((50:Int)<(((List.length x.Weights):Nat):Int))) then
 (some true)
 else (some (decide ((50:Int)<(((List.length x.Removed):Nat):Int)))))
theorem Zl (h:Hy C R) (xu:List Int) (xv:List Int) :
  C.pureC 9 [PV.agg [L (rows xu) fl0,L (rows xv) fl0]]=M (fun r=>PV.bool r) (f9 (bW.mk xu xv)):=by
 rw [aH h.1 (fn:=Tryz.f9) rfl _ rfl rfl rfl]
 simp only [WA,s1,s2,s3,s4,s5,s6,s7,↓reduceIte,nt9,co9,re9,rk9,Tryz.f9,f9]
def fX (s:List bW):Nat→Int→Option Int
 | 0,_=>none
 | m0+1,bA=>
 (if (decide (bA<(((List.length s):Nat):Int))) then
 (N (at? s bA) fun x1=>
 (N (f9 x1) fun x2=>
 (if x2 then
 (some bA)
 else (fX s m0 (w64 (bA+(1:Int)))))))
 else (some (-(1:Int))))
def qT (s:List bW):Option Int:=
 (fX s ax (0:Int))
theorem xd (h:Hy C R) {s:List bW} :
  ∀ (m0:Nat) (bA:Int),lp (bw E 29 C) [(Fr.blk 0),(Fr.seq 0 [1,1])] 0 [0,0,1,0,1] m0 ⟨[L (rows (s)) fl0,PV.fn 9 [],u,u,u,u,u,I i64 ((((List.length s):Nat):Int)),I i64 bA,u,u,u,u,u,u,u,u,u,u],[],0⟩=M (fun r=>I i64 r) (fX s m0 bA):=by
 intro m0
 induction m0 with
 | zero=>intros;rw [bk];rfl
 | succ m0 ih=>
  intro bA
  rw [bm]
  simp only [WA,s1,s2,s3,s4,s5,s6,s7,↓reduceIte,ajY,arb,ahP,abE,Tryz.f29,Om,ir9,rk9,Zl h,fX,ih]
theorem Ek (h:Hy C R) (s:List bW) :
  C.pureC 29 [L (rows s) fl0,PV.fn 9 []]=M (fun r=>I i64 r) (qT s):=by
 rw [aH h.1 (fn:=Tryz.f29) rfl _ rfl rfl rfl]
 simp only [WA,s1,s2,s3,s4,s5,s6,s7,↓reduceIte,ajY,arb,ahP,abE,Tryz.f29,Om,ir9,rk9,Zl h,qT,xd h]
def vY (s:List bW):Option Bool:=
 (N (qT s) fun x0=>
 (some (decide ((0:Int)≤x0))))
theorem Km (h:Hy C R) (s:List bW) :
  C.pureC 8 [L (rows s) fl0,PV.fn 9 []]=M (fun r=>PV.bool r) (vY s):=by
 rw [aH h.1 (fn:=Tryz.f8) rfl _ rfl rfl rfl]
 simp only [WA,s1,s2,s3,s4,s5,s6,s7,↓reduceIte,nt8,co8,re8,rk8,Tryz.f8,ir29,abE,Ek h,vY]
def f11 (s:List bW):Option (List bW):=oq s
theorem aeN (h:Hy C R) (s:List bW):C.pureC 11 [L (rows s) fl0]=M (fun r=>L (rows r) ⟨true,false⟩) (f11 s):=
 clone_ok h.1 rfl rfl rfl s
def la (n:Int) (c1:List aE) (c2:List aG):Option Bool:=
 (some (decide ((((List.length c1):Nat):Int)≤n)))
theorem qW (h:Hy C R) (n:Int) (c1:List aE) (c2:List aG) :
  C.pureC 226 [I i64 n,PV.bL [[L (rows c1) fl0,L (rows c2) fl0]] 0 0]=M (fun r=>PV.bool r) (la n c1 c2):=by
 rw [aH h.1 (fn:=Tryz.f226) rfl _ rfl rfl rfl]
 simp only [WA,s1,s2,s3,s4,s5,s6,s7,↓reduceIte,akh,arx,ah8,Gc,Tryz.f226,la]
def dB (s:List Int) (c1:List aE) (c2:List aG):Nat→Int→Option Int
 | 0,_=>none
 | m0+1,bA=>
 (if (decide (bA<(((List.length s):Nat):Int))) then
 (N (at? s bA) fun x1=>
 (N (la x1 c1 c2) fun x2=>
 (if x2 then
 (some bA)
 else (dB s c1 c2 m0 (w64 (bA+(1:Int)))))))
 else (some (-(1:Int))))
def iR (s:List Int) (c1:List aE) (c2:List aG):Option Int:=
 (dB s c1 c2 ax (0:Int))
theorem pM (h:Hy C R) {s:List Int} {c1:List aE} {c2:List aG} :
  ∀ (m0:Nat) (bA:Int),lp (bw E 49 C) [(Fr.blk 0),(Fr.seq 0 [1,1])] 0 [0,0,1,0,1] m0 ⟨[L (rows (s)) fl0,PV.fn 226 [(PV.bL [[(L (rows (c1)) fl0),(L (rows (c2)) fl0)]] 0 0)],u,u,u,u,u,I i64 ((((List.length s):Nat):Int)),I i64 bA,u,u,u,u,u,u,u,u,u,u],[],0⟩=M (fun r=>I i64 r) (dB s c1 c2 m0 bA):=by
 intro m0
 induction m0 with
 | zero=>intros;rw [bk];rfl
 | succ m0 ih=>
  intro bA
  rw [bm]
  simp only [WA,s1,s2,s3,s4,s5,s6,s7,↓reduceIte,qB,rj,qo,kD,Tryz.f49,gD,OM,Gc,qW h,dB,ih]
theorem tp (h:Hy C R) (s:List Int) (c1:List aE) (c2:List aG) :
  C.pureC 49 [L (rows s) fl0,PV.fn 226 [PV.bL [[L (rows c1) fl0,L (rows c2) fl0]] 0 0]]=M (fun r=>I i64 r) (iR s c1 c2):=by
 rw [aH h.1 (fn:=Tryz.f49) rfl _ rfl rfl rfl]
 simp only [WA,s1,s2,s3,s4,s5,s6,s7,↓reduceIte,qB,rj,qo,kD,Tryz.f49,gD,OM,Gc,qW h,iR,pM h]
def gH (s:List Int) (c1:List aE) (c2:List aG):Option Bool:=
 (N (iR s c1 c2) fun x0=>
 (some (decide ((0:Int)≤x0))))
theorem tv (h:Hy C R) (s:List Int) (c1:List aE) (c2:List aG) :
  C.pureC 31 [L (rows s) fl0,PV.fn 226 [PV.bL [[L (rows c1) fl0,L (rows c2) fl0]] 0 0]]=M (fun r=>PV.bool r) (gH s c1 c2):=by
 rw [aH h.1 (fn:=Tryz.f31) rfl _ rfl rfl rfl]
 simp only [WA,s1,s2,s3,s4,s5,s6,s7,↓reduceIte,Dq,FK,Dj,lH,Tryz.f31,DP,kD,tp h,gH]
def k9 (x:Edge) (c3:List aE) (c4:List aG):Option Bool:=
 (some (decide ((((List.length c4):Nat):Int)≤x.Type_)))
theorem qV (h:Hy C R) (qi:Int) (uc:Int) (LI:Int) (c3:List aE) (c4:List aG) :
  C.pureC 227 [PV.agg [I i64 qi,I i64 uc,I i64 LI],PV.bL [[L (rows c3) fl0,L (rows c4) fl0]] 0 0]=M (fun r=>PV.bool r) (k9 (Edge.mk qi uc LI) c3 c4):=by
 rw [aH h.1 (fn:=Tryz.f227) rfl _ rfl rfl rfl]
 simp only [WA,s1,s2,s3,s4,s5,s6,s7,↓reduceIte,akg,arw,ah7,Gb,Tryz.f227,k9]
def dp (s:List Edge) (c1:List aE) (c2:List aG):Nat→Int→Option Int
 | 0,_=>none
 | m0+1,bA=>
 (if (decide (bA<(((List.length s):Nat):Int))) then
 (N (at? s bA) fun x1=>
 (N (k9 x1 c1 c2) fun x2=>
 (if x2 then
 (some bA)
 else (dp s c1 c2 m0 (w64 (bA+(1:Int)))))))
 else (some (-(1:Int))))
def hU (s:List Edge) (c1:List aE) (c2:List aG):Option Int:=
 (dp s c1 c2 ax (0:Int))
theorem oT (h:Hy C R) {s:List Edge} {c1:List aE} {c2:List aG} :
  ∀ (m0:Nat) (bA:Int),lp (bw E 157 C) [(Fr.blk 0),(Fr.seq 0 [1,1])] 0 [0,0,1,0,1] m0 ⟨[L (rows (s)) fl0,PV.fn 227 [(PV.bL [[(L (rows (c1)) fl0),(L (rows (c2)) fl0)]] 0 0)],u,u,u,u,u,I i64 ((((List.length s):Nat):Int)),I i64 bA,u,u,u,u,u,u,u,u,u,u],[],0⟩=M (fun r=>I i64 r) (dp s c1 c2 m0 bA):=by
 intro m0
 induction m0 with
 | zero=>intros;rw [bk];rfl
 | succ m0 ih=>
  intro bA
  rw [bm]
  simp only [WA,s1,s2,s3,s4,s5,s6,s7,↓reduceIte,xU,yn,xN,qm,Tryz.f157,oH,OL,Gb,qV h,dp,ih]
theorem r9 (h:Hy C R) (s:List Edge) (c1:List aE) (c2:List aG) :
  C.pureC 157 [L (rows s) fl0,PV.fn 227 [PV.bL [[L (rows c1) fl0,L (rows c2) fl0]] 0 0]]=M (fun r=>I i64 r) (hU s c1 c2):=by
 rw [aH h.1 (fn:=Tryz.f157) rfl _ rfl rfl rfl]
 simp only [WA,s1,s2,s3,s4,s5,s6,s7,↓reduceIte,xU,yn,xN,qm,Tryz.f157,oH,OL,Gb,qV h,hU,oT h]
def fI (s:List Edge) (c1:List aE) (c2:List aG):Option Bool:=
 (N (hU s c1 c2) fun x0=>
 (some (decide ((0:Int)≤x0))))
theorem se (h:Hy C R) (s:List Edge) (c1:List aE) (c2:List aG) :
  C.pureC 123 [L (rows s) fl0,PV.fn 227 [PV.bL [[L (rows c1) fl0,L (rows c2) fl0]] 0 0]]=M (fun r=>PV.bool r) (fI s c1 c2):=by
 rw [aH h.1 (fn:=Tryz.f123) rfl _ rfl rfl rfl]
 simp only [WA,s1,s2,s3,s4,s5,s6,s7,↓reduceIte,NK,QG,Nh,uP,Tryz.f123,O1,qm,r9 h,fI]
def f206 (t:Types) (g:Graph):Option Bool:=
 (N (gH g.Nodes t.Nodes t.Edges) fun x0=>
 (if (!x0) then
 (N (fI g.Edges t.Nodes t.Edges) fun x1=>
 (some (!x1)))
 else (some false)))
theorem Iq (h:Hy C R) (t_Nodes:List aE) (t_Edges:List aG) (g_Nodes:List Int) (g_Edges:List Edge) :
  C.pureC 206 [PV.agg [L (rows t_Nodes) fl0,L (rows t_Edges) fl0],PV.agg [L (rows g_Nodes) fl0,L (rows g_Edges) fl0]]=M (fun r=>PV.bool r) (f206 (Types.mk t_Nodes t_Edges) (Graph.mk g_Nodes g_Edges)):=by
 rw [aH h.1 (fn:=Tryz.f206) rfl _ rfl rfl rfl]
 simp only [WA,s1,s2,s3,s4,s5,s6,s7,↓reduceIte,akv,arL,ain,MA,Tryz.f206,tn,lH,H5,uP,OM,Gc,OL,Gb,tv h,se h,f206]
def gv (y:Slot) (c4:Int) (c5:Int) (c6:Int) (c7:Int):Option Bool:=
 (if (y.Node == c4) then
 (some (y.Attr == c5))
 else (some false))
theorem oa (h:Hy C R) (LC:Int) (LG:Int) (tY:Int) (tZ:Int) (c4:Int) (c5:Int) (c6:Int) (c7:Int) :
  C.pureC 229 [PV.agg [I i64 LC,I i64 LG,I i64 tY,I i64 tZ],PV.bL [[I i64 c4,I i64 c5,I i64 c6,I i64 c7]] 0 0]=M (fun r=>PV.bool r) (gv (Slot.mk LC LG (Term.mk tY tZ)) c4 c5 c6 c7):=by
 rw [aH h.1 (fn:=Tryz.f229) rfl _ rfl rfl rfl]
 simp only [WA,s1,s2,s3,s4,s5,s6,s7,↓reduceIte,akf,arv,ah6,Ga,Tryz.f229,gv]
def cS (s:List Slot) (c1:Int) (c2:Int) (c3:Int) (c4:Int):Nat→Int→Option Int
 | 0,_=>none
 | m0+1,bA=>
 (if (decide (bA<(((List.length s):Nat):Int))) then
 (N (at? s bA) fun x1=>
 (N (gv x1 c1 c2 c3 c4) fun x2=>
 (if x2 then
 (some bA)
 else (cS s c1 c2 c3 c4 m0 (w64 (bA+(1:Int)))))))
 else (some (-(1:Int))))
def fR (s:List Slot) (c1:Int) (c2:Int) (c3:Int) (c4:Int):Option Int:=
 (cS s c1 c2 c3 c4 ax (0:Int))
theorem nc (h:Hy C R) {s:List Slot} {c1:Int} {c2:Int} {c3:Int} {c4:Int} :
  ∀ (m0:Nat) (bA:Int),lp (bw E 240 C) [(Fr.blk 0),(Fr.seq 0 [1,1])] 0 [0,0,1,0,1] m0 ⟨[L (rows (s)) fl0,PV.fn 229 [(PV.bL [[(I i64 (c1)),(I i64 (c2)),(I i64 (c3)),(I i64 (c4))]] 0 0)],u,u,u,u,u,I i64 ((((List.length s):Nat):Int)),I i64 bA,u,u,u,u,u,u,u,u,u,u],[],0⟩=M (fun r=>I i64 r) (cS s c1 c2 c3 c4 m0 bA):=by
 intro m0
 induction m0 with
 | zero=>intros;rw [bk];rfl
 | succ m0 ih=>
  intro bA
  rw [bm]
  simp only [WA,s1,s2,s3,s4,s5,s6,s7,↓reduceIte,GZ,IU,GO,xD,Tryz.f240,tI,OJ,Ga,oa h,cS,ih]
theorem pY (h:Hy C R) (s:List Slot) (c1:Int) (c2:Int) (c3:Int) (c4:Int) :
  C.pureC 240 [L (rows s) fl0,PV.fn 229 [PV.bL [[I i64 c1,I i64 c2,I i64 c3,I i64 c4]] 0 0]]=M (fun r=>I i64 r) (fR s c1 c2 c3 c4):=by
 rw [aH h.1 (fn:=Tryz.f240) rfl _ rfl rfl rfl]
 simp only [WA,s1,s2,s3,s4,s5,s6,s7,↓reduceIte,GZ,IU,GO,xD,Tryz.f240,tI,OJ,Ga,oa h,fR,nc h]
def eU (s:List Slot) (c1:Int) (c2:Int) (c3:Int) (c4:Int):Option Bool:=
 (N (fR s c1 c2 c3 c4) fun x0=>
 (some (decide ((0:Int)≤x0))))
theorem pZ (h:Hy C R) (s:List Slot) (c1:Int) (c2:Int) (c3:Int) (c4:Int) :
  C.pureC 228 [L (rows s) fl0,PV.fn 229 [PV.bL [[I i64 c1,I i64 c2,I i64 c3,I i64 c4]] 0 0]]=M (fun r=>PV.bool r) (eU s c1 c2 c3 c4):=by
 rw [aH h.1 (fn:=Tryz.f228) rfl _ rfl rfl rfl]
 simp only [WA,s1,s2,s3,s4,s5,s6,s7,↓reduceIte,XP,Zw,WU,A0,Tryz.f228,YD,xD,pY h,eU]
def f207 (R:bI) (t:Types) (r:bJ) (i:Int):Option Int:=
 (N (at? r.Right.Slots i) fun x0=>
 (if (decide (x0.Node<(0:Int))) then
 (some (6:Int))
 else (if (decide ((((List.length r.Right.Graph.Nodes):Nat):Int)≤x0.Node)) then
 (some (6:Int))
 else (N (at? r.Right.Graph.Nodes x0.Node) fun x1=>
 (N (f224 R t x1) fun x2=>
 (if (decide (x0.Attr<(0:Int))) then
 (some (6:Int))
 else (if (decide ((((List.length (x2).1):Nat):Int)≤x0.Attr)) then
 (some (6:Int))
 else (if (decide (x0.Term.Var<(-(1:Int)))) then
 (some (6:Int))
 else (if (decide (r.Right.Vars≤x0.Term.Var)) then
 (some (6:Int))
 else (if (decide (x0.Term.Add<(-(1000000:Int)))) then
 (some (6:Int))
 else (if (decide ((1000000:Int)<x0.Term.Add)) then
 (some (6:Int))
 else (if (decide (((0:Int)≤i)∧(i≤(((List.length r.Right.Slots):Nat):Int)))) then
 (N (eU (List.take (Int.toNat i) r.Right.Slots) x0.Node x0.Attr x0.Term.Var x0.Term.Add) fun x3=>
 (if x3 then
 (some (5:Int))
 else (some (0:Int))))
 else none))))))))))))
theorem Ip (h:Hy C R) (t_Nodes:List aE) (t_Edges:List aG) (bD:ByteArray) (aC:List Int) (aD:List Edge) (aT:List Slot) (aZ:Int) (aS:List Test) (ay:List Int) (az:List Edge) (aO:List Slot) (aR:Int) (aP:List Test) (aU:List Int) (aV:List Int) (aW:List Int) (aX:List Int) (ba:Bool) (aI:Int) (aJ:List Condition) (aq:List Int) (ar:List Int) (ab:List Int) (ag:List Edge) (ak:List Slot) (al:Int) (aj:List Test) (i:Int) :
  C.pureC 207 [PV.agg [L (rows t_Nodes) fl0,L (rows t_Edges) fl0],PV.agg [PV.str bD,L (rows aC) fl0,L (rows aD) fl0,L (rows aT) fl0,I i64 aZ,L (rows aS) fl0,L (rows ay) fl0,L (rows az) fl0,L (rows aO) fl0,I i64 aR,L (rows aP) fl0,L (rows aU) fl0,L (rows aV) fl0,L (rows aW) fl0,L (rows aX) fl0,PV.bool ba,I i64 aI,L (rows aJ) fl0,L (rows aq) fl0,L (rows ar) fl0,L (rows ab) fl0,L (rows ag) fl0,L (rows ak) fl0,I i64 al,L (rows aj) fl0],I i64 i]=M (fun r=>I i64 r) (f207 R (Types.mk t_Nodes t_Edges) (bJ.mk bD (Pattern.mk (Graph.mk aC aD) aT aZ aS) (Pattern.mk (Graph.mk ay az) aO aR aP) (Part.mk aU aV) (aQ.mk aW aX) ba (Condition.mk aI aJ (aQ.mk aq ar) (Pattern.mk (Graph.mk ab ag) ak al aj))) i):=by
 rw [aH h.1 (fn:=Tryz.f207) rfl _ rfl rfl rfl]
 simp only [WA,s1,s2,s3,s4,s5,s6,s7,↓reduceIte,aku,arK,aim,Mz,Tryz.f207,SL,YI,Gd,OK,A0,OJ,Ga,Il h,pZ h,f207]
def mu (R:bI) (t:Types) (r:bJ):Nat→Int→Option Int
 | 0,_=>none
 | m1+1,uf=>
 (if (decide (uf<(((List.length r.Right.Slots):Nat):Int))) then
 (N (f207 R t r uf) fun x3=>
 (if (!(x3 == (0:Int))) then
 (some x3)
 else (mu R t r m1 (w64 (uf+(1:Int))))))
 else (some (0:Int)))
def f180 (R:bI) (t:Types) (r:bJ):Option Int:=
 (N (f81 r.Right.Graph) fun x0=>
 (if (!(x0 == (0:Int))) then
 (some x0)
 else (N (f206 t r.Right.Graph) fun x1=>
 (if (!x1) then
 (some (13:Int))
 else (if (!(r.Right.Vars == r.Left.Vars)) then
 (some (1:Int))
 else (if (decide ((0:Int)<(((List.length r.Right.Tests):Nat):Int))) then
 (some (1:Int))
 else (if (decide ((10:Int)<(((List.length r.Right.Slots):Nat):Int))) then
 (some (3:Int))
 else (mu R t r ax (0:Int)))))))))
theorem EP (h:Hy C R) {t_Nodes:List aE} {t_Edges:List aG} {bD:ByteArray} {aC:List Int} {aD:List Edge} {aT:List Slot} {aZ:Int} {aS:List Test} {ay:List Int} {az:List Edge} {aO:List Slot} {aR:Int} {aP:List Test} {aU:List Int} {aV:List Int} {aW:List Int} {aX:List Int} {ba:Bool} {aI:Int} {aJ:List Condition} {aq:List Int} {ar:List Int} {ab:List Int} {ag:List Edge} {ak:List Slot} {al:Int} {aj:List Test} :
  ∀ (m1:Nat) (uf:Int),lp (bw E 180 C) [(Fr.blk 1),(Fr.seq 0 [1,1,1,1])] 1 [0,0,1,0,1,1,1] m1 ⟨[u,u,(PV.ptr 0 0),(PV.ptr 1 0),u,u,u,u,u,u,u,u,u,u,u,u,u,u,u,u,u,u,u,u,u,u,u,u,u,u,u,u,u,u,u,u,u,u,u,u,u,u,u,u,u,u,I i64 ((((List.length aO):Nat):Int)),I i64 uf,u,u,u,u,u,u,u,u,u,u],[(0,X [L (rows (t_Nodes)) fl0,L (rows (t_Edges)) fl0]),(1,X [PV.str (bD),L (rows (aC)) fl0,L (rows (aD)) fl0,L (rows (aT)) fl0,I i64 (aZ),L (rows (aS)) fl0,L (rows (ay)) fl0,L (rows (az)) fl0,L (rows (aO)) fl0,I i64 (aR),L (rows (aP)) fl0,L (rows (aU)) fl0,L (rows (aV)) fl0,L (rows (aW)) fl0,L (rows (aX)) fl0,PV.bool (ba),I i64 (aI),L (rows (aJ)) fl0,L (rows (aq)) fl0,L (rows (ar)) fl0,L (rows (ab)) fl0,L (rows (ag)) fl0,L (rows (ak)) fl0,I i64 (al),L (rows (aj)) fl0])],2⟩=M (fun r=>I i64 r) (mu R (Types.mk t_Nodes t_Edges) (bJ.mk bD (Pattern.mk (Graph.mk aC aD) aT aZ aS) (Pattern.mk (Graph.mk ay az) aO aR aP) (Part.mk aU aV) (aQ.mk aW aX) ba (Condition.mk aI aJ (aQ.mk aq ar) (Pattern.mk (Graph.mk ab ag) ak al aj))) m1 uf):=by
 intro m1
 induction m1 with
 | zero=>intros;rw [bk];rfl
 | succ m1 ih=>
  intro uf
  rw [bm]
  simp only [WA,s1,s2,s3,s4,s5,s6,s7,↓reduceIte,X3,ZK,Xi,MG,Tryz.f180,Hr,BI,yH,YM,MA,YL,Mz,nK h,Iq h,Ip h,mu,ih]
theorem UA (h:Hy C R) (t_Nodes:List aE) (t_Edges:List aG) (bD:ByteArray) (aC:List Int) (aD:List Edge) (aT:List Slot) (aZ:Int) (aS:List Test) (ay:List Int) (az:List Edge) (aO:List Slot) (aR:Int) (aP:List Test) (aU:List Int) (aV:List Int) (aW:List Int) (aX:List Int) (ba:Bool) (aI:Int) (aJ:List Condition) (aq:List Int) (ar:List Int) (ab:List Int) (ag:List Edge) (ak:List Slot) (al:Int) (aj:List Test) :
  C.pureC 180 [PV.agg [L (rows t_Nodes) fl0,L (rows t_Edges) fl0],PV.agg [PV.str bD,L (rows aC) fl0,L (rows aD) fl0,L (rows aT) fl0,I i64 aZ,L (rows aS) fl0,L (rows ay) fl0,L (rows az) fl0,L (rows aO) fl0,I i64 aR,L (rows aP) fl0,L (rows aU) fl0,L (rows aV) fl0,L (rows aW) fl0,L (rows aX) fl0,PV.bool ba,I i64 aI,L (rows aJ) fl0,L (rows aq) fl0,L (rows ar) fl0,L (rows ab) fl0,L (rows ag) fl0,L (rows ak) fl0,I i64 al,L (rows aj) fl0]]=M (fun r=>I i64 r) (f180 R (Types.mk t_Nodes t_Edges) (bJ.mk bD (Pattern.mk (Graph.mk aC aD) aT aZ aS) (Pattern.mk (Graph.mk ay az) aO aR aP) (Part.mk aU aV) (aQ.mk aW aX) ba (Condition.mk aI aJ (aQ.mk aq ar) (Pattern.mk (Graph.mk ab ag) ak al aj)))):=by
 rw [aH h.1 (fn:=Tryz.f180) rfl _ rfl rfl rfl]
 simp only [WA,s1,s2,s3,s4,s5,s6,s7,↓reduceIte,X3,ZK,Xi,MG,Tryz.f180,Hr,BI,yH,YM,MA,YL,Mz,nK h,Iq h,Ip h,f180,EP h]
def j4 (l:List Int) (n:Int):Nat→Int→Option Int
 | 0,_=>none
 | m0+1,wS=>
 (if (decide (wS<(((List.length l):Nat):Int))) then
 (N (at? l wS) fun x1=>
 (if (decide (x1<(0:Int))) then
 (some (6:Int))
 else (if (decide (n≤x1)) then
 (some (6:Int))
 else (if (decide ((0:Int)<wS)) then
 (N (at? l (w64 (wS - (1:Int)))) fun x2=>
 (if (decide (x1≤x2)) then
 (some (12:Int))
 else (j4 l n m0 (w64 (wS+(1:Int))))))
 else (j4 l n m0 (w64 (wS+(1:Int))))))))
 else (some (0:Int)))
def f251 (l:List Int) (n:Int):Option Int:=
 (j4 l n ax (0:Int))
theorem El (h:Hy C R) {l:List Int} {n:Int} :
  ∀ (m0:Nat) (wS:Int),lp (bw E 251 C) [(Fr.blk 0),(Fr.seq 0 [1,1])] 0 [0,0,1,0,1] m0 ⟨[L (rows (l)) fl0,I i64 (n),u,u,u,u,u,L (rows (l)) fl0,I i64 ((((List.length l):Nat):Int)),I i64 wS,u,u,u,u,u,u,u,u,u,u,u,u,u,u,u,u,u,u,u,u,u,u,u],[],0⟩=M (fun r=>I i64 r) (j4 l n m0 wS):=by
 intro m0
 induction m0 with
 | zero=>intros;rw [bk];rfl
 | succ m0 ih=>
  intro wS
  rw [bm]
  simp only [WA,s1,s2,s3,s4,s5,s6,s7,↓reduceIte,XK,Zr,WM,F4,Tryz.f251,G9,j4,ih]
theorem Ib (h:Hy C R) (l:List Int) (n:Int) :
  C.pureC 251 [L (rows l) fl0,I i64 n]=M (fun r=>I i64 r) (f251 l n):=by
 rw [aH h.1 (fn:=Tryz.f251) rfl _ rfl rfl rfl]
 simp only [WA,s1,s2,s3,s4,s5,s6,s7,↓reduceIte,XK,Zr,WM,F4,Tryz.f251,G9,f251,El h]
def f253 (x:Int):Option Bool:=
 (some false)
theorem Uh (h:Hy C R) (x:Int) :
  C.pureC 253 [I i64 x]=M (fun r=>PV.bool r) (f253 x):=by
 rw [aH h.1 (fn:=Tryz.f253) rfl _ rfl rfl rfl]
 simp only [WA,s1,s2,s3,s4,s5,s6,s7,↓reduceIte,aj0,ard,ahR,Wg,Tryz.f253,f253]
def f242 (x:Int) (y:Int):Option Bool:=
 (N (f253 x) fun x0=>
 (if x0 then
 (N (f253 y) fun x1=>
 (if (!x1) then
 (some true)
 else (some (decide (x<y)))))
 else (some (decide (x<y)))))
theorem Ig (h:Hy C R) (x:Int) (y:Int) :
  C.pureC 242 [I i64 x,I i64 y]=M (fun r=>PV.bool r) (f242 x y):=by
 rw [aH h.1 (fn:=Tryz.f242) rfl _ rfl rfl rfl]
 simp only [WA,s1,s2,s3,s4,s5,s6,s7,↓reduceIte,aj8,arn,ahZ,Mq,Tryz.f242,amd,Wg,Uh h,f242]
def f243 (x:Int):Option Bool:=
 (some false)
theorem Ie (h:Hy C R) (x:Int) :
  C.pureC 243 [I i64 x]=M (fun r=>PV.bool r) (f243 x):=by
 rw [aH h.1 (fn:=Tryz.f243) rfl _ rfl rfl rfl]
 simp only [WA,s1,s2,s3,s4,s5,s6,s7,↓reduceIte,aj7,arl,ahY,Mp,Tryz.f243,f243]
def j5 (x:List Int) (target:Int):Nat→Int→Int→Option (Int × Bool)
 | 0,_,_=>none
 | m0+1,i_0,j_1=>
 (if (decide (i_0<j_1)) then
 (if (decide ((0:Int)≤(1:Int))) then
 (N (at? x (w64 (Int.fdiv (IntKind.wrap IntKind.u64 (w64 (i_0+j_1))) ((2:Int) ^ (Min.min (Int.toNat (1:Int)) (IntKind.bits IntKind.u64)))))) fun x2=>
 (N (f242 x2 target) fun x3=>
 (if x3 then
 (j5 x target m0 (w64 ((w64 (Int.fdiv (IntKind.wrap IntKind.u64 (w64 (i_0+j_1))) ((2:Int) ^ (Min.min (Int.toNat (1:Int)) (IntKind.bits IntKind.u64)))))+(1:Int))) j_1)
 else (j5 x target m0 i_0 (w64 (Int.fdiv (IntKind.wrap IntKind.u64 (w64 (i_0+j_1))) ((2:Int) ^ (Min.min (Int.toNat (1:Int)) (IntKind.bits IntKind.u64)))))))))
 else none)
 else (if (decide (i_0<(((List.length x):Nat):Int))) then
 (N (at? x i_0) fun x4=>
 (if (x4 == target) then
 (some (i_0,true))
 else (N (at? x i_0) fun x5=>
 (N (f243 x5) fun x6=>
 (if x6 then
 (N (f243 target) fun x7=>
 (some (i_0,x7)))
 else (some (i_0,false)))))))
 else (some (i_0,false))))
def f231 (x:List Int) (target:Int):Option (Int × Bool):=
 (j5 x target ax (0:Int) (((List.length x):Nat):Int))
theorem Er (h:Hy C R) {x:List Int} {target:Int} :
  ∀ (m0:Nat) (i_0:Int) (j_1:Int),lp (bw E 231 C) [(Fr.blk 0),(Fr.seq 0 [1,1,1,1])] 0 [0,0,0,1,1,1] m0 ⟨[L (rows (x)) fl0,I i64 (target),u,u,u,u,I i64 ((((List.length x):Nat):Int)),I i64 i_0,I i64 j_1,u,u,u,u,u,u,u,u,u,u,u,u,u,u,u,u,u,u,u,u,u,u,u,u,u,u,u,u,u,u,u,u,u,u,u,u,u,u,u,u,u,u,u,u,u],[],0⟩=M (fun r=>PV.tup [I i64 r.1,PV.bool r.2]) (j5 x target m0 i_0 j_1):=by
 intro m0
 induction m0 with
 | zero=>intros;rw [bk];rfl
 | succ m0 ih=>
  intro i_0 j_1
  rw [bm]
  simp only [WA,s1,s2,s3,s4,s5,s6,s7,↓reduceIte,XO,Zv,WR,xE,Tryz.f231,Hd,YC,Mq,YB,Mp,Ig h,Ie h,j5,ih]
theorem tL (h:Hy C R) (x:List Int) (target:Int) :
  C.pureC 231 [L (rows x) fl0,I i64 target]=M (fun r=>PV.tup [I i64 r.1,PV.bool r.2]) (f231 x target):=by
 rw [aH h.1 (fn:=Tryz.f231) rfl _ rfl rfl rfl]
 simp only [WA,s1,s2,s3,s4,s5,s6,s7,↓reduceIte,XO,Zv,WR,xE,Tryz.f231,Hd,YC,Mq,YB,Mp,Ig h,Ie h,f231,Er h]
def f252 (l:List Int) (n:Int):Option Bool:=
 (N (f231 l n) fun x0=>
 (some (x0).2))
theorem Ia (h:Hy C R) (l:List Int) (n:Int) :
  C.pureC 252 [L (rows l) fl0,I i64 n]=M (fun r=>PV.bool r) (f252 l n):=by
 rw [aH h.1 (fn:=Tryz.f252) rfl _ rfl rfl rfl]
 simp only [WA,s1,s2,s3,s4,s5,s6,s7,↓reduceIte,aj1,are,ahS,Mo,Tryz.f252,HT,xE,tL h,f252]
def mf (g:Graph) (p:Part):Nat→Int→Option Int
 | 0,_=>none
 | m0+1,uh=>
 (if (decide (uh<(((List.length p.Edges):Nat):Int))) then
 (N (at? p.Edges uh) fun x3=>
 (N (at? g.Edges x3) fun x4=>
 (N (f252 p.Nodes x4.From) fun x5=>
 (if (!x5) then
 (some (14:Int))
 else (N (at? g.Edges x3) fun x6=>
 (N (f252 p.Nodes x6.To) fun x7=>
 (if (!x7) then
 (some (14:Int))
 else (mf g p m0 (w64 (uh+(1:Int)))))))))))
 else (some (0:Int)))
def f241 (g:Graph) (p:Part):Option Int:=
 (N (f251 p.Nodes (((List.length g.Nodes):Nat):Int)) fun x0=>
 (if (!(x0 == (0:Int))) then
 (some x0)
 else (N (f251 p.Edges (((List.length g.Edges):Nat):Int)) fun x1=>
 (if (!(x1 == (0:Int))) then
 (some x1)
 else (mf g p ax (0:Int))))))
theorem Eo (h:Hy C R) {g_Nodes:List Int} {g_Edges:List Edge} {p_Nodes:List Int} {p_Edges:List Int} :
  ∀ (m0:Nat) (uh:Int),lp (bw E 241 C) [(Fr.blk 0),(Fr.seq 0 [1,1,1,1])] 0 [0,0,1,0,1,1,1] m0 ⟨[u,u,(PV.ptr 0 0),(PV.ptr 1 0),u,u,u,u,u,u,u,u,u,u,u,u,u,u,u,u,u,u,u,u,u,u,u,u,L (rows (p_Edges)) fl0,I i64 ((((List.length p_Edges):Nat):Int)),I i64 uh,u,u,u,u,u,u,u,u,u,u,u,u,u,u,u,u,u,u,u,u,u,u,u,u,u,u],[(0,X [L (rows (g_Nodes)) fl0,L (rows (g_Edges)) fl0]),(1,X [L (rows (p_Nodes)) fl0,L (rows (p_Edges)) fl0])],2⟩=M (fun r=>I i64 r) (mf (Graph.mk g_Nodes g_Edges) (Part.mk p_Nodes p_Edges) m0 uh):=by
 intro m0
 induction m0 with
 | zero=>intros;rw [bk];rfl
 | succ m0 ih=>
  intro uh
  rw [bm]
  simp only [WA,s1,s2,s3,s4,s5,s6,s7,↓reduceIte,XL,Zs,WN,Mr,Tryz.f241,Ha,Bm,YA,F4,Yz,Mo,Ib h,Ia h,mf,ih]
theorem Uj (h:Hy C R) (g_Nodes:List Int) (g_Edges:List Edge) (p_Nodes:List Int) (p_Edges:List Int) :
  C.pureC 241 [PV.agg [L (rows g_Nodes) fl0,L (rows g_Edges) fl0],PV.agg [L (rows p_Nodes) fl0,L (rows p_Edges) fl0]]=M (fun r=>I i64 r) (f241 (Graph.mk g_Nodes g_Edges) (Part.mk p_Nodes p_Edges)):=by
 rw [aH h.1 (fn:=Tryz.f241) rfl _ rfl rfl rfl]
 simp only [WA,s1,s2,s3,s4,s5,s6,s7,↓reduceIte,XL,Zs,WN,Mr,Tryz.f241,Ha,Bm,YA,F4,Yz,Mo,Ib h,Ia h,f241,Eo h]
def f230 (g:Graph) (p:Part):Option Int:=
 (N (f81 g) fun x0=>
 (if (!(x0 == (0:Int))) then
 (some x0)
 else (N (f241 g p) fun x1=>
 (some x1))))
theorem z7 (h:Hy C R) (g_Nodes:List Int) (g_Edges:List Edge) (p_Nodes:List Int) (p_Edges:List Int) :
  C.pureC 230 [PV.agg [L (rows g_Nodes) fl0,L (rows g_Edges) fl0],PV.agg [L (rows p_Nodes) fl0,L (rows p_Edges) fl0]]=M (fun r=>I i64 r) (f230 (Graph.mk g_Nodes g_Edges) (Part.mk p_Nodes p_Edges)):=by
 rw [aH h.1 (fn:=Tryz.f230) rfl _ rfl rfl rfl]
 simp only [WA,s1,s2,s3,s4,s5,s6,s7,↓reduceIte,ake,aru,ah5,F9,Tryz.f230,BI,yH,amj,Mr,nK h,Uj h,f230]
def j8 (g:Graph) (p:Part) (out_1:List Int):Nat→(List Edge)→Int→Option (Graph × aQ × Int)
 | 0,_,_=>none
 | m2+1,im,ug=>
 (if (decide (ug<(((List.length p.Edges):Nat):Int))) then
 (N (at? p.Edges ug) fun x7=>
 (N (at? g.Edges x7) fun x8=>
 (N (f231 p.Nodes x8.From) fun x9=>
 (N (f231 p.Nodes x8.To) fun x10=>
 (if (decide ((List.length (im ++ [(Edge.mk x8.Type_ (x9).1 (x10).1)]))≤bound)) then
 (j8 g p out_1 m2 (im ++ [(Edge.mk x8.Type_ (x9).1 (x10).1)]) (w64 (ug+(1:Int))))
 else none)))))
 else (N (f95 p.Nodes) fun x11=>
 (N (f95 p.Edges) fun x12=>
 (some ((Graph.mk out_1 im),(aQ.mk x11 x12),(0:Int))))))
def mj (g:Graph) (p:Part):Nat→(List Int)→Int→Option (Graph × aQ × Int)
 | 0,_,_=>none
 | m0+1,out_1,um=>
 (if (decide (um<(((List.length p.Nodes):Nat):Int))) then
 (N (at? p.Nodes um) fun x3=>
 (N (at? g.Nodes x3) fun x4=>
 (if (decide ((List.length (out_1 ++ [x4]))≤bound)) then
 (mj g p m0 (out_1 ++ [x4]) (w64 (um+(1:Int))))
 else none)))
 else (j8 g p out_1 ax ([]:List Edge) (0:Int)))
def f208 (g:Graph) (p:Part):Option (Graph × aQ × Int):=
 (N (f230 g p) fun x0=>
 (if (!(x0 == (0:Int))) then
 (some ((Graph.mk ([]:List Int) ([]:List Edge)),(aQ.mk ([]:List Int) ([]:List Int)),x0))
 else (mj g p ax ([]:List Int) (0:Int))))
theorem EC (h:Hy C R) {g_Nodes:List Int} {g_Edges:List Edge} {p_Nodes:List Int} {p_Edges:List Int} {out_1:List Int} :
  ∀ (m2:Nat) (im:List Edge) (ug:Int) (px:Nat),px=List.length im→lp (bw E 208 C) [(Fr.blk 2),(Fr.seq 0 [1,1,1,1,1])] 2 [0,0,1,0,1,1,1,1] m2 ⟨[u,u,(PV.ptr 0 0),(PV.ptr 1 0),(PV.ptr 2 0),(PV.ptr 3 0),u,u,(PV.ptr 4 0),u,u,u,u,u,u,u,u,u,u,u,u,u,u,u,u,u,u,u,u,u,u,u,u,u,u,u,u,u,u,u,u,L (rows (p_Edges)) fl0,I i64 ((((List.length p_Edges):Nat):Int)),I i64 ug,u,u,u,u,u,u,u,u,u,u,u,u,u,u,u,u,u,u,u,u,u,u,u,u,u,u,u,u,u,u,u,u,u,u,u,u,u,u,u,u,u],[(0,X [L (rows (g_Nodes)) fl0,L (rows (g_Edges)) fl0]),(1,X [L (rows (p_Nodes)) fl0,L (rows (p_Edges)) fl0]),(2,X [PV.bp,PV.bp]),(3,X [PV.bp,PV.bp]),(4,X [PV.own 5 1 0 (List.length out_1),PV.own 6 3 0 px]),(5,Y 1 (rows (out_1)) false false),(6,Y 3 (rows im) false false)],7⟩=M (fun r=>PV.tup [PV.agg [L (rows r.1.Nodes) ⟨true,false⟩,L (rows r.1.Edges) ⟨true,false⟩],PV.agg [L (rows r.2.1.Nodes) ⟨true,false⟩,L (rows r.2.1.Edges) ⟨true,false⟩],I i64 r.2.2]) (j8 (Graph.mk g_Nodes g_Edges) (Part.mk p_Nodes p_Edges) out_1 m2 im ug):=by
 intro m2
 induction m2 with
 | zero=>intros;rw [bk];rfl
 | succ m2 ih=>
  intro im ug px D4
  subst D4
  rw [bm]
  simp only [WA,s1,s2,s3,s4,s5,s6,s7,↓reduceIte,ND,QA,Na,Gi,Tryz.f208,zo,zn,yS,vd,Tv,Mf,OI,F9,HT,xE,zS h,z7 h,tL h,j8,ih]
theorem ED (h:Hy C R) {g_Nodes:List Int} {g_Edges:List Edge} {p_Nodes:List Int} {p_Edges:List Int} :
  ∀ (m0:Nat) (out_1:List Int) (um:Int) (dN:Nat),dN=List.length out_1→lp (bw E 208 C) [(Fr.blk 0),(Fr.seq 0 [1,1,1,1])] 0 [0,0,1,0,1,1,1] m0 ⟨[u,u,(PV.ptr 0 0),(PV.ptr 1 0),(PV.ptr 2 0),(PV.ptr 3 0),u,u,(PV.ptr 4 0),u,u,u,u,u,u,u,u,u,u,u,u,u,u,L (rows (p_Nodes)) fl0,I i64 ((((List.length p_Nodes):Nat):Int)),I i64 um,u,u,u,u,u,u,u,u,u,u,u,u,u,u,u,u,u,u,u,u,u,u,u,u,u,u,u,u,u,u,u,u,u,u,u,u,u,u,u,u,u,u,u,u,u,u,u,u,u,u,u,u,u,u,u,u,u,u,u],[(0,X [L (rows (g_Nodes)) fl0,L (rows (g_Edges)) fl0]),(1,X [L (rows (p_Nodes)) fl0,L (rows (p_Edges)) fl0]),(2,X [PV.bp,PV.bp]),(3,X [PV.bp,PV.bp]),(4,X [PV.own 5 1 0 dN,PV.bp]),(5,Y 1 (rows out_1) false false)],6⟩=M (fun r=>PV.tup [PV.agg [L (rows r.1.Nodes) ⟨true,false⟩,L (rows r.1.Edges) ⟨true,false⟩],PV.agg [L (rows r.2.1.Nodes) ⟨true,false⟩,L (rows r.2.1.Edges) ⟨true,false⟩],I i64 r.2.2]) (mj (Graph.mk g_Nodes g_Edges) (Part.mk p_Nodes p_Edges) m0 out_1 um):=by
 intro m0
 induction m0 with
 | zero=>intros;rw [bk];rfl
 | succ m0 ih=>
  intro out_1 um dN jE
  subst jE
  have sZ:=fun (g_Nodes:List Int) (g_Edges:List Edge) (p_Nodes:List Int) (p_Edges:List Int) (out_1:List Int) (e4:Int)=>EC (C:=C) (R:=R) (g_Nodes:=g_Nodes) (g_Edges:=g_Edges) (p_Nodes:=p_Nodes) (p_Edges:=p_Edges) (out_1:=out_1) h ax (([]:List Edge)) e4 _ rfl
  simp only [cA,cf,cc,bV,cg,bU,WS,List.length_nil,List.length_cons,Nat.reduceAdd] at sZ
  rw [bm]
  simp only [WA,s1,s2,s3,s4,s5,s6,s7,↓reduceIte,ND,QA,Na,Gi,Tryz.f208,zo,zn,yS,vd,Tv,Mf,OI,F9,HT,xE,zS h,z7 h,tL h,mj,ih,sZ]
theorem Ut (h:Hy C R) (g_Nodes:List Int) (g_Edges:List Edge) (p_Nodes:List Int) (p_Edges:List Int) :
  C.pureC 208 [PV.agg [L (rows g_Nodes) fl0,L (rows g_Edges) fl0],PV.agg [L (rows p_Nodes) fl0,L (rows p_Edges) fl0]]=M (fun r=>PV.tup [PV.agg [L (rows r.1.Nodes) ⟨true,false⟩,L (rows r.1.Edges) ⟨true,false⟩],PV.agg [L (rows r.2.1.Nodes) ⟨true,false⟩,L (rows r.2.1.Edges) ⟨true,false⟩],I i64 r.2.2]) (f208 (Graph.mk g_Nodes g_Edges) (Part.mk p_Nodes p_Edges)):=by
 have dg:=fun (g_Nodes:List Int) (g_Edges:List Edge) (p_Nodes:List Int) (p_Edges:List Int) (e3:Int)=>ED (C:=C) (R:=R) (g_Nodes:=g_Nodes) (g_Edges:=g_Edges) (p_Nodes:=p_Nodes) (p_Edges:=p_Edges) h ax (([]:List Int)) e3 _ rfl
 simp only [cA,cf,cc,bV,cg,bU,WS,List.length_nil,List.length_cons,Nat.reduceAdd] at dg
 rw [aH h.1 (fn:=Tryz.f208) rfl _ rfl rfl rfl]
 simp only [WA,s1,s2,s3,s4,s5,s6,s7,↓reduceIte,ND,QA,Na,Gi,Tryz.f208,zo,zn,yS,vd,Tv,Mf,OI,F9,HT,xE,zS h,z7 h,tL h,f208,dg]
def f181 (r:bJ):Option Int:=
 (N (f208 r.Left.Graph r.Keep) fun x0=>
 (if (!(((x0).2).2 == (0:Int))) then
 (some ((x0).2).2)
 else (N (f209 (x0).1 r.Right.Graph r.Into) fun x1=>
 (if (!(x1 == (0:Int))) then
 (some x1)
 else (N (f210 (x0).1 r.Right.Graph r.Into) fun x2=>
 (if (!x2) then
 (some (11:Int))
 else (some (0:Int))))))))
theorem Uz (h:Hy C R) (bD:ByteArray) (aC:List Int) (aD:List Edge) (aT:List Slot) (aZ:Int) (aS:List Test) (ay:List Int) (az:List Edge) (aO:List Slot) (aR:Int) (aP:List Test) (aU:List Int) (aV:List Int) (aW:List Int) (aX:List Int) (ba:Bool) (aI:Int) (aJ:List Condition) (aq:List Int) (ar:List Int) (ab:List Int) (ag:List Edge) (ak:List Slot) (al:Int) (aj:List Test) :
  C.pureC 181 [PV.agg [PV.str bD,L (rows aC) fl0,L (rows aD) fl0,L (rows aT) fl0,I i64 aZ,L (rows aS) fl0,L (rows ay) fl0,L (rows az) fl0,L (rows aO) fl0,I i64 aR,L (rows aP) fl0,L (rows aU) fl0,L (rows aV) fl0,L (rows aW) fl0,L (rows aX) fl0,PV.bool ba,I i64 aI,L (rows aJ) fl0,L (rows aq) fl0,L (rows ar) fl0,L (rows ab) fl0,L (rows ag) fl0,L (rows ak) fl0,I i64 al,L (rows aj) fl0]]=M (fun r=>I i64 r) (f181 (bJ.mk bD (Pattern.mk (Graph.mk aC aD) aT aZ aS) (Pattern.mk (Graph.mk ay az) aO aR aP) (Part.mk aU aV) (aQ.mk aW aX) ba (Condition.mk aI aJ (aQ.mk aq ar) (Pattern.mk (Graph.mk ab ag) ak al aj)))):=by
 rw [aH h.1 (fn:=Tryz.f181) rfl _ rfl rfl rfl]
 simp only [WA,s1,s2,s3,s4,s5,s6,s7,↓reduceIte,akJ,arZ,aiB,Wu,Tryz.f181,amt,Gi,HV,uN,OR,Gh,tN h,Aa h,Ut h,f181]
def mr (s:List Int) (v:Int):Nat→Int→Option Int
 | 0,_=>none
 | m0+1,bA=>
 (if (decide (bA<(((List.length s):Nat):Int))) then
 (N (at? s bA) fun x1=>
 (if (v == x1) then
 (some bA)
 else (mr s v m0 (w64 (bA+(1:Int))))))
 else (some (-(1:Int))))
def f185 (s:List Int) (v:Int):Option Int:=
 (mr s v ax (0:Int))
theorem EN (h:Hy C R) {s:List Int} {v:Int} :
  ∀ (m0:Nat) (bA:Int),lp (bw E 185 C) [(Fr.blk 0),(Fr.seq 0 [1,1])] 0 [0,0,1,0,1] m0 ⟨[L (rows (s)) fl0,I i64 (v),u,u,u,u,u,I i64 ((((List.length s):Nat):Int)),I i64 bA,u,u,u,u,u,u,u,u,u,u],[],0⟩=M (fun r=>I i64 r) (mr s v m0 bA):=by
 intro m0
 induction m0 with
 | zero=>intros;rw [bk];rfl
 | succ m0 ih=>
  intro bA
  rw [bm]
  simp only [WA,s1,s2,s3,s4,s5,s6,s7,↓reduceIte,X1,ZI,Xg,MF,Tryz.f185,Hp,mr,ih]
theorem Uw (h:Hy C R) (s:List Int) (v:Int) :
  C.pureC 185 [L (rows s) fl0,I i64 v]=M (fun r=>I i64 r) (f185 s v):=by
 rw [aH h.1 (fn:=Tryz.f185) rfl _ rfl rfl rfl]
 simp only [WA,s1,s2,s3,s4,s5,s6,s7,↓reduceIte,X1,ZI,Xg,MF,Tryz.f185,Hp,f185,EN h]
def f159 (s:List Int) (v:Int):Option Bool:=
 (N (f185 s v) fun x0=>
 (some (decide ((0:Int)≤x0))))
theorem Af (h:Hy C R) (s:List Int) (v:Int) :
  C.pureC 159 [L (rows s) fl0,I i64 v]=M (fun r=>PV.bool r) (f159 s v):=by
 rw [aH h.1 (fn:=Tryz.f159) rfl _ rfl rfl rfl]
 simp only [WA,s1,s2,s3,s4,s5,s6,s7,↓reduceIte,akQ,ar6,aiI,Gx,Tryz.f159,amx,MF,Uw h,f159]
def ka (l:List Int) (n:Int):Nat→(List Int)→Int→Option (List Int)
 | 0,_,_=>none
 | m0+1,bP,wT=>
 (if (decide (wT<n)) then
 (N (f159 l wT) fun x2=>
 (if (!x2) then
 (if (decide ((List.length (bP ++ [wT]))≤bound)) then
 (ka l n m0 (bP ++ [wT]) (w64 (wT+(1:Int))))
 else none)
 else (ka l n m0 bP (w64 (wT+(1:Int))))))
 else (some bP))
def f184 (l:List Int) (n:Int):Option (List Int):=
 (ka l n ax ([]:List Int) (0:Int))
theorem EO (h:Hy C R) {l:List Int} {n:Int} :
  ∀ (m0:Nat) (bP:List Int) (wT:Int) (dO:Nat),dO=List.length bP→lp (bw E 184 C) [(Fr.blk 0),(Fr.seq 0 [1,1,1])] 0 [0,0,1,0,1,1] m0 ⟨[L (rows (l)) fl0,u,u,u,u,PV.own 0 1 0 dO,u,I i64 (n),I i64 wT,u,u,u,u,u,u,u,u,u,u,u,u],[(0,Y 1 (rows bP) false false)],1⟩=M (fun r=>L (rows r) ⟨true,false⟩) (ka l n m0 bP wT):=by
 intro m0
 induction m0 with
 | zero=>intros;rw [bk];rfl
 | succ m0 ih=>
  intro bP wT dO jF
  subst jF
  rw [bm]
  simp only [WA,s1,s2,s3,s4,s5,s6,s7,↓reduceIte,X2,ZJ,Xh,Gt,Tryz.f184,Hq,OZ,Gx,Af h,ka,ih]
theorem IB (h:Hy C R) (l:List Int) (n:Int) :
  C.pureC 184 [L (rows l) fl0,I i64 n]=M (fun r=>L (rows r) ⟨true,false⟩) (f184 l n):=by
 have dg:=fun (l:List Int) (n:Int) (e3:Int)=>EO (C:=C) (R:=R) (l:=l) (n:=n) h ax (([]:List Int)) e3 _ rfl
 simp only [cA,cf,cc,bV,cg,bU,WS,List.length_nil,List.length_cons,Nat.reduceAdd] at dg
 rw [aH h.1 (fn:=Tryz.f184) rfl _ rfl rfl rfl]
 simp only [WA,s1,s2,s3,s4,s5,s6,s7,↓reduceIte,X2,ZJ,Xh,Gt,Tryz.f184,Hq,OZ,Gx,Af h,f184,dg]
def f156 (r:bJ):Option ((List Int) × (List Int)):=
 (N (f184 r.Into.Nodes (((List.length r.Right.Graph.Nodes):Nat):Int)) fun x0=>
 (N (f184 r.Into.Edges (((List.length r.Right.Graph.Edges):Nat):Int)) fun x1=>
 (some (x0,x1))))
theorem IG (h:Hy C R) (bD:ByteArray) (aC:List Int) (aD:List Edge) (aT:List Slot) (aZ:Int) (aS:List Test) (ay:List Int) (az:List Edge) (aO:List Slot) (aR:Int) (aP:List Test) (aU:List Int) (aV:List Int) (aW:List Int) (aX:List Int) (ba:Bool) (aI:Int) (aJ:List Condition) (aq:List Int) (ar:List Int) (ab:List Int) (ag:List Edge) (ak:List Slot) (al:Int) (aj:List Test) :
  C.pureC 156 [PV.agg [PV.str bD,L (rows aC) fl0,L (rows aD) fl0,L (rows aT) fl0,I i64 aZ,L (rows aS) fl0,L (rows ay) fl0,L (rows az) fl0,L (rows aO) fl0,I i64 aR,L (rows aP) fl0,L (rows aU) fl0,L (rows aV) fl0,L (rows aW) fl0,L (rows aX) fl0,PV.bool ba,I i64 aI,L (rows aJ) fl0,L (rows aq) fl0,L (rows ar) fl0,L (rows ab) fl0,L (rows ag) fl0,L (rows ak) fl0,I i64 al,L (rows aj) fl0]]=M (fun r=>PV.tup [L (rows r.1) ⟨true,false⟩,L (rows r.2) ⟨true,false⟩]) (f156 (bJ.mk bD (Pattern.mk (Graph.mk aC aD) aT aZ aS) (Pattern.mk (Graph.mk ay az) aO aR aP) (Part.mk aU aV) (aQ.mk aW aX) ba (Condition.mk aI aJ (aQ.mk aq ar) (Pattern.mk (Graph.mk ab ag) ak al aj)))):=by
 rw [aH h.1 (fn:=Tryz.f156) rfl _ rfl rfl rfl]
 simp only [WA,s1,s2,s3,s4,s5,s6,s7,↓reduceIte,akS,ar8,aiK,MR,Tryz.f156,SN,YX,Gt,IB h,f156]
def dw (i:Int) (c1:List aE) (c2:List aG) (c3:List Int) (c4:List Edge):Option Bool:=
 (N (at? c3 i) fun x0=>
 (N (at? c1 x0) fun x1=>
 (some x1.Abstract)))
theorem lf (h:Hy C R) (i:Int) (c1:List aE) (c2:List aG) (c3:List Int) (c4:List Edge) :
  C.pureC 211 [I i64 i,PV.bL [[L (rows c1) fl0,L (rows c2) fl0]] 0 0,PV.bL [[L (rows c3) fl0,L (rows c4) fl0]] 0 0]=M (fun r=>PV.bool r) (dw i c1 c2 c3 c4):=by
 rw [aH h.1 (fn:=Tryz.f211) rfl _ rfl rfl rfl]
 simp only [WA,s1,s2,s3,s4,s5,s6,s7,↓reduceIte,aks,arI,aik,Gg,Tryz.f211,SJ,dw]
def cR (s:List Int) (c1:List aE) (c2:List aG) (c3:List Int) (c4:List Edge):Nat→Int→Option Int
 | 0,_=>none
 | m0+1,bA=>
 (if (decide (bA<(((List.length s):Nat):Int))) then
 (N (at? s bA) fun x1=>
 (N (dw x1 c1 c2 c3 c4) fun x2=>
 (if x2 then
 (some bA)
 else (cR s c1 c2 c3 c4 m0 (w64 (bA+(1:Int)))))))
 else (some (-(1:Int))))
def fQ (s:List Int) (c1:List aE) (c2:List aG) (c3:List Int) (c4:List Edge):Option Int:=
 (cR s c1 c2 c3 c4 ax (0:Int))
theorem nb (h:Hy C R) {s:List Int} {c1:List aE} {c2:List aG} {c3:List Int} {c4:List Edge} :
  ∀ (m0:Nat) (bA:Int),lp (bw E 49 C) [(Fr.blk 0),(Fr.seq 0 [1,1])] 0 [0,0,1,0,1] m0 ⟨[L (rows (s)) fl0,PV.fn 211 [(PV.bL [[(L (rows (c1)) fl0),(L (rows (c2)) fl0)]] 0 0),(PV.bL [[(L (rows (c3)) fl0),(L (rows (c4)) fl0)]] 0 0)],u,u,u,u,u,I i64 ((((List.length s):Nat):Int)),I i64 bA,u,u,u,u,u,u,u,u,u,u],[],0⟩=M (fun r=>I i64 r) (cR s c1 c2 c3 c4 m0 bA):=by
 intro m0
 induction m0 with
 | zero=>intros;rw [bk];rfl
 | succ m0 ih=>
  intro bA
  rw [bm]
  simp only [WA,s1,s2,s3,s4,s5,s6,s7,↓reduceIte,qB,rj,qo,kD,Tryz.f49,gD,OQ,Gg,lf h,cR,ih]
theorem pO (h:Hy C R) (s:List Int) (c1:List aE) (c2:List aG) (c3:List Int) (c4:List Edge) :
  C.pureC 49 [L (rows s) fl0,PV.fn 211 [PV.bL [[L (rows c1) fl0,L (rows c2) fl0]] 0 0,PV.bL [[L (rows c3) fl0,L (rows c4) fl0]] 0 0]]=M (fun r=>I i64 r) (fQ s c1 c2 c3 c4):=by
 rw [aH h.1 (fn:=Tryz.f49) rfl _ rfl rfl rfl]
 simp only [WA,s1,s2,s3,s4,s5,s6,s7,↓reduceIte,qB,rj,qo,kD,Tryz.f49,gD,OQ,Gg,lf h,fQ,nb h]
def eT (s:List Int) (c1:List aE) (c2:List aG) (c3:List Int) (c4:List Edge):Option Bool:=
 (N (fQ s c1 c2 c3 c4) fun x0=>
 (some (decide ((0:Int)≤x0))))
theorem pV (h:Hy C R) (s:List Int) (c1:List aE) (c2:List aG) (c3:List Int) (c4:List Edge) :
  C.pureC 31 [L (rows s) fl0,PV.fn 211 [PV.bL [[L (rows c1) fl0,L (rows c2) fl0]] 0 0,PV.bL [[L (rows c3) fl0,L (rows c4) fl0]] 0 0]]=M (fun r=>PV.bool r) (eT s c1 c2 c3 c4):=by
 rw [aH h.1 (fn:=Tryz.f31) rfl _ rfl rfl rfl]
 simp only [WA,s1,s2,s3,s4,s5,s6,s7,↓reduceIte,Dq,FK,Dj,lH,Tryz.f31,DP,kD,pO h,eT]
def fh:Nat→(List Int)→Int→Int→Option ((List Int))
 | 0,_,_,_=>none
 | m0+1,s_0,i_1,j_2=>
 (if (decide (i_1<j_2)) then
 (if ((decide ((0:Int)≤j_2))&&(decide (j_2<(((List.length s_0):Nat):Int)))) then
 (N (s_0[(Int.toNat j_2)]?) fun x3=>
 (if ((decide ((0:Int)≤i_1))&&(decide (i_1<(((List.length s_0):Nat):Int)))) then
 (N (s_0[(Int.toNat i_1)]?) fun x4=>
 (if ((decide ((0:Int)≤i_1))&&(decide (i_1<(((List.length s_0):Nat):Int)))) then
 (N (s_0[(Int.toNat i_1)]?) fun x5=>
 (if ((decide ((0:Int)≤j_2))&&(decide (j_2<(((List.length s_0):Nat):Int)))) then
 (N ((List.set s_0 (Int.toNat i_1) x3)[(Int.toNat j_2)]?) fun x6=>
 (fh m0 (List.set (List.set s_0 (Int.toNat i_1) x3) (Int.toNat j_2) x4) (w64 (i_1+(1:Int))) (w64 (j_2 - (1:Int)))))
 else none))
 else none))
 else none))
 else none)
 else (some (s_0)))
def oM (ed:List Int):Option ((List Int)):=
 (fh ax ed (0:Int) (w64 ((((List.length ed):Nat):Int) - (1:Int))))
theorem xl (h:Hy C R) :
  ∀ (m0:Nat) (s_0:List Int) (i_1:Int) (j_2:Int) (acm:Nat),acm=List.length s_0→lp (fw E 186 1 C) [(Fr.blk 0)] 0 [0,0,1] m0 ⟨[PV.own 0 1 0 acm,u,I i64 i_1,I i64 j_2,u,u,u,u,u,u,u,u,u,u,u,u,u,u,u,u,u,u,u,u,u,u,u,u],[(0,Y 1 (rows s_0) false false)],1⟩=M (fun r=>((PV.tup []),[(0,Y 1 (rows r) false false)],1)) (fh m0 s_0 i_1 j_2):=by
 intro m0
 induction m0 with
 | zero=>intros;rw [bk];rfl
 | succ m0 ih=>
  intro s_0 i_1 j_2 acm hs_0
  subst hs_0
  rw [bm]
  simp only [WA,s1,s2,s3,s4,s5,s6,s7,↓reduceIte,X0,ZH,Xf,Gs,Tryz.f186,Ho,GW,fh,ih]
theorem wq (h:Hy C R) (ed:List Int) (By:Nat) (Pj:By=List.length ed) :
  refS C 186 1 ⟨[PV.own 0 1 0 By],[(0,Y 1 (rows ed) false false)],1⟩=M (fun r=>((PV.tup []),[(0,Y 1 (rows r) false false)],1)) (oM ed):=by
 subst Pj
 rw [tK h.1 (fn:=Tryz.f186) rfl _ _ _ rfl rfl rfl rfl]
 simp only [WA,s1,s2,s3,s4,s5,s6,s7,↓reduceIte,X0,ZH,Xf,Gs,Tryz.f186,Ho,GW,oM,xl h]
def kh (t:Types):Nat→(List Int)→Int→Option (List Int)
 | 0,_,_=>none
 | m0+1,bP,a_1=>
 (if (decide ((0:Int)≤a_1)) then
 (if (decide ((List.length (bP ++ [a_1]))≤bound)) then
 (N (at? t.Nodes a_1) fun x2=>
 (kh t m0 (bP ++ [a_1]) x2.Parent))
 else none)
 else (N (oM bP) fun x3=>
 (if (decide ((List.length bP)≤(List.length x3))) then
 (some (List.take (List.length bP) x3))
 else none)))
def f160 (t:Types) (a:Int):Option (List Int):=
 (kh t ax ([]:List Int) a)
theorem EZ (h:Hy C R) {t_Nodes:List aE} {t_Edges:List aG} :
  ∀ (m0:Nat) (bP:List Int) (a_1:Int) (dO:Nat),dO=List.length bP→lp (bw E 160 C) [(Fr.blk 0),(Fr.seq 0 [1,1,1])] 0 [0,0,0,1,1] m0 ⟨[u,I i64 a_1,(PV.ptr 0 0),u,u,PV.own 1 1 0 dO,u,u,u,u,u,u,u,u,u,u,u,u,u,u,u],[(0,X [L (rows (t_Nodes)) fl0,L (rows (t_Edges)) fl0]),(1,Y 1 (rows bP) false false)],2⟩=M (fun r=>L (rows r) ⟨true,false⟩) (kh (Types.mk t_Nodes t_Edges) m0 bP a_1):=by
 intro m0
 induction m0 with
 | zero=>intros;rw [bk];rfl
 | succ m0 ih=>
  intro bP a_1 dO jF
  subst jF
  rw [bm]
  simp only [WA,s1,s2,s3,s4,s5,s6,s7,↓reduceIte,Yg,ZX,Xv,MQ,Tryz.f160,HF,YW,Gs,wq h,Wd,kh,ih]
theorem UG (h:Hy C R) (t_Nodes:List aE) (t_Edges:List aG) (a:Int) :
  C.pureC 160 [PV.agg [L (rows t_Nodes) fl0,L (rows t_Edges) fl0],I i64 a]=M (fun r=>L (rows r) ⟨true,false⟩) (f160 (Types.mk t_Nodes t_Edges) a):=by
 have dg:=fun (t_Nodes:List aE) (t_Edges:List aG) (e1:Int)=>EZ (C:=C) (R:=R) (t_Nodes:=t_Nodes) (t_Edges:=t_Edges) h ax (([]:List Int)) e1 _ rfl
 simp only [cA,cf,cc,bV,cg,bU,WS,List.length_nil,List.length_cons,Nat.reduceAdd] at dg
 rw [aH h.1 (fn:=Tryz.f160) rfl _ rfl rfl rfl]
 simp only [WA,s1,s2,s3,s4,s5,s6,s7,↓reduceIte,Yg,ZX,Xv,MQ,Tryz.f160,HF,YW,Gs,wq h,Wd,f160,dg]
def f127 (t:Types) (a:Int) (b:Int):Option Bool:=
 (N (f160 t a) fun x0=>
 (N (f159 x0 b) fun x1=>
 (some x1)))
theorem Al (h:Hy C R) (t_Nodes:List aE) (t_Edges:List aG) (a:Int) (b:Int) :
  C.pureC 127 [PV.agg [L (rows t_Nodes) fl0,L (rows t_Edges) fl0],I i64 a,I i64 b]=M (fun r=>PV.bool r) (f127 (Types.mk t_Nodes t_Edges) a b):=by
 rw [aH h.1 (fn:=Tryz.f127) rfl _ rfl rfl rfl]
 simp only [WA,s1,s2,s3,s4,s5,s6,s7,↓reduceIte,ak9,asr,ai1,GH,Tryz.f127,OZ,Gx,amK,MQ,Af h,UG h,f127]
def f82 (R:bI) (t:Types) (edge:Int) (from_:Int) (to:Int):Option Bool:=
 (N (f126 R t [from_,to]) fun x0=>
 (if (!(x0 == (0:Int))) then
 (some false)
 else (if (decide (edge<(0:Int))) then
 (some false)
 else (if (decide ((((List.length t.Edges):Nat):Int)≤edge)) then
 (some false)
 else (N (at? t.Edges edge) fun x1=>
 (N (f127 t from_ x1.From) fun x2=>
 (if x2 then
 (N (at? t.Edges edge) fun x3=>
 (N (f127 t to x3.To) fun x4=>
 (some x4)))
 else (some false))))))))
theorem ad3 (h:Hy C R) (t_Nodes:List aE) (t_Edges:List aG) (edge:Int) (from_:Int) (to:Int) :
  C.pureC 82 [PV.agg [L (rows t_Nodes) fl0,L (rows t_Edges) fl0],I i64 edge,I i64 from_,I i64 to]=M (fun r=>PV.bool r) (f82 R (Types.mk t_Nodes t_Edges) edge from_ to):=by
 have c0:=fun (w0:Int) (w1:Int) (t_Nodes:List aE) (t_Edges:List aG)=>kp (C:=C) (R:=R) h t_Nodes t_Edges ((w0::(w1::([]:List Int))))
 simp only [cA,cf,cc,bV,cg,bU,WS,List.length_nil,List.length_cons,Nat.reduceAdd] at c0
 rw [aH h.1 (fn:=Tryz.f82) rfl _ rfl rfl rfl]
 simp only [WA,s1,s2,s3,s4,s5,s6,s7,↓reduceIte,nt82,co82,re82,ahp,Tryz.f82,ab5,BO,xG,O8,GH,kp h,c0,Al h,f82]
def dv (R:bI) (i:Int) (c1:List Int) (c2:List Edge) (c3:List aE) (c4:List aG):Option Bool:=
 (N (at? c2 i) fun x0=>
 (N (at? c1 x0.From) fun x1=>
 (N (at? c1 x0.To) fun x2=>
 (N (f82 R (Types.mk c3 c4) x0.Type_ x1 x2) fun x3=>
 (some (!x3))))))
theorem ld (h:Hy C R) (i:Int) (c1:List Int) (c2:List Edge) (c3:List aE) (c4:List aG) :
  C.pureC 212 [I i64 i,PV.bL [[L (rows c1) fl0,L (rows c2) fl0]] 0 0,PV.bL [[L (rows c3) fl0,L (rows c4) fl0]] 0 0]=M (fun r=>PV.bool r) (dv R i c1 c2 c3 c4):=by
 rw [aH h.1 (fn:=Tryz.f212) rfl _ rfl rfl rfl]
 simp only [WA,s1,s2,s3,s4,s5,s6,s7,↓reduceIte,akr,arH,aij,Gf,Tryz.f212,SI,ir82,ahp,ad3 h,dv]
def cQ (R:bI) (s:List Int) (c1:List Int) (c2:List Edge) (c3:List aE) (c4:List aG):Nat→Int→Option Int
 | 0,_=>none
 | m0+1,bA=>
 (if (decide (bA<(((List.length s):Nat):Int))) then
 (N (at? s bA) fun x1=>
 (N (dv R x1 c1 c2 c3 c4) fun x2=>
 (if x2 then
 (some bA)
 else (cQ R s c1 c2 c3 c4 m0 (w64 (bA+(1:Int)))))))
 else (some (-(1:Int))))
def fP (R:bI) (s:List Int) (c1:List Int) (c2:List Edge) (c3:List aE) (c4:List aG):Option Int:=
 (cQ R s c1 c2 c3 c4 ax (0:Int))
theorem m9 (h:Hy C R) {s:List Int} {c1:List Int} {c2:List Edge} {c3:List aE} {c4:List aG} :
  ∀ (m0:Nat) (bA:Int),lp (bw E 49 C) [(Fr.blk 0),(Fr.seq 0 [1,1])] 0 [0,0,1,0,1] m0 ⟨[L (rows (s)) fl0,PV.fn 212 [(PV.bL [[(L (rows (c1)) fl0),(L (rows (c2)) fl0)]] 0 0),(PV.bL [[(L (rows (c3)) fl0),(L (rows (c4)) fl0)]] 0 0)],u,u,u,u,u,I i64 ((((List.length s):Nat):Int)),I i64 bA,u,u,u,u,u,u,u,u,u,u],[],0⟩=M (fun r=>I i64 r) (cQ R s c1 c2 c3 c4 m0 bA):=by
 intro m0
 induction m0 with
 | zero=>intros;rw [bk];rfl
 | succ m0 ih=>
  intro bA
  rw [bm]
  simp only [WA,s1,s2,s3,s4,s5,s6,s7,↓reduceIte,qB,rj,qo,kD,Tryz.f49,gD,OP,Gf,ld h,cQ,ih]
theorem pN (h:Hy C R) (s:List Int) (c1:List Int) (c2:List Edge) (c3:List aE) (c4:List aG) :
  C.pureC 49 [L (rows s) fl0,PV.fn 212 [PV.bL [[L (rows c1) fl0,L (rows c2) fl0]] 0 0,PV.bL [[L (rows c3) fl0,L (rows c4) fl0]] 0 0]]=M (fun r=>I i64 r) (fP R s c1 c2 c3 c4):=by
 rw [aH h.1 (fn:=Tryz.f49) rfl _ rfl rfl rfl]
 simp only [WA,s1,s2,s3,s4,s5,s6,s7,↓reduceIte,qB,rj,qo,kD,Tryz.f49,gD,OP,Gf,ld h,fP,m9 h]
def eS (R:bI) (s:List Int) (c1:List Int) (c2:List Edge) (c3:List aE) (c4:List aG):Option Bool:=
 (N (fP R s c1 c2 c3 c4) fun x0=>
 (some (decide ((0:Int)≤x0))))
theorem pU (h:Hy C R) (s:List Int) (c1:List Int) (c2:List Edge) (c3:List aE) (c4:List aG) :
  C.pureC 31 [L (rows s) fl0,PV.fn 212 [PV.bL [[L (rows c1) fl0,L (rows c2) fl0]] 0 0,PV.bL [[L (rows c3) fl0,L (rows c4) fl0]] 0 0]]=M (fun r=>PV.bool r) (eS R s c1 c2 c3 c4):=by
 rw [aH h.1 (fn:=Tryz.f31) rfl _ rfl rfl rfl]
 simp only [WA,s1,s2,s3,s4,s5,s6,s7,↓reduceIte,Dq,FK,Dj,lH,Tryz.f31,DP,kD,pN h,eS]
def f182 (R:bI) (t:Types) (g:Graph) (nodes:List Int) (edges:List Int):Option Bool:=
 (N (eT nodes t.Nodes t.Edges g.Nodes g.Edges) fun x0=>
 (if (!x0) then
 (N (eS R edges g.Nodes g.Edges t.Nodes t.Edges) fun x1=>
 (some (!x1)))
 else (some false)))
theorem Uy (h:Hy C R) (t_Nodes:List aE) (t_Edges:List aG) (g_Nodes:List Int) (g_Edges:List Edge) (nodes:List Int) (edges:List Int) :
  C.pureC 182 [PV.agg [L (rows t_Nodes) fl0,L (rows t_Edges) fl0],PV.agg [L (rows g_Nodes) fl0,L (rows g_Edges) fl0],L (rows nodes) fl0,L (rows edges) fl0]=M (fun r=>PV.bool r) (f182 R (Types.mk t_Nodes t_Edges) (Graph.mk g_Nodes g_Edges) nodes edges):=by
 rw [aH h.1 (fn:=Tryz.f182) rfl _ rfl rfl rfl]
 simp only [WA,s1,s2,s3,s4,s5,s6,s7,↓reduceIte,akI,arY,aiA,Wt,Tryz.f182,tn,lH,OQ,Gg,OP,Gf,pV h,pU h,f182]
def f213 (R:bI) (c:Condition):Option Int:=
 (N (bI.f233 R c) fun x0=>
 (if (!x0) then
 (some (1:Int))
 else (N (bI.f234 R c) fun x1=>
 (if (decide ((12:Int)<(x1).1)) then
 (some (3:Int))
 else (if (decide ((3:Int)<(x1).2)) then
 (some (3:Int))
 else (some (0:Int)))))))
theorem Us (h:Hy C R) (bz:Int) (br:List Condition) (aM:List Int) (aN:List Int) (ah:List Int) (ai:List Edge) (aB:List Slot) (aF:Int) (aA:List Test) :
  C.pureC 213 [PV.agg [I i64 bz,L (rows br) fl0,L (rows aM) fl0,L (rows aN) fl0,L (rows ah) fl0,L (rows ai) fl0,L (rows aB) fl0,I i64 aF,L (rows aA) fl0]]=M (fun r=>I i64 r) (f213 R (Condition.mk bz br (aQ.mk aM aN) (Pattern.mk (Graph.mk ah ai) aB aF aA))):=by
 rw [aH h.1 (fn:=Tryz.f213) rfl _ rfl rfl rfl]
 simp only [WA,s1,s2,s3,s4,s5,s6,s7,↓reduceIte,akq,arG,aii,Wp,Tryz.f213,YG,Mu,OH,Mt,h.2.f233,h.2.f234,f213]
def f183 (R:bI) (t:Types) (p:Pattern) (c:Condition):Option Int:=
 (N (f179 R t p) fun x0=>
 (if (!(x0 == (0:Int))) then
 (some x0)
 else (N (f213 R c) fun x1=>
 (if (!(x1 == (0:Int))) then
 (some x1)
 else (N (bI.f214 R t p c) fun x2=>
 (some x2))))))
theorem Ux (h:Hy C R) (t_Nodes:List aE) (t_Edges:List aG) (bc:List Int) (bd:List Edge) (bC:List Slot) (bK:Int) (bF:List Test) (bz:Int) (br:List Condition) (aM:List Int) (aN:List Int) (ah:List Int) (ai:List Edge) (aB:List Slot) (aF:Int) (aA:List Test) :
  C.pureC 183 [PV.agg [L (rows t_Nodes) fl0,L (rows t_Edges) fl0],PV.agg [L (rows bc) fl0,L (rows bd) fl0,L (rows bC) fl0,I i64 bK,L (rows bF) fl0],PV.agg [I i64 bz,L (rows br) fl0,L (rows aM) fl0,L (rows aN) fl0,L (rows ah) fl0,L (rows ai) fl0,L (rows aB) fl0,I i64 aF,L (rows aA) fl0]]=M (fun r=>I i64 r) (f183 R (Types.mk t_Nodes t_Edges) (Pattern.mk (Graph.mk bc bd) bC bK bF) (Condition.mk bz br (aQ.mk aM aN) (Pattern.mk (Graph.mk ah ai) aB aF aA))):=by
 rw [aH h.1 (fn:=Tryz.f183) rfl _ rfl rfl rfl]
 simp only [WA,s1,s2,s3,s4,s5,s6,s7,↓reduceIte,akH,arX,aiz,Ws,Tryz.f183,H0,xF,ams,Wp,OO,My,tQ h,h.2.f214,Us h,f183]
def f154 (R:bI) (t:Types) (r:bJ):Option Int:=
 (N (f78 R t) fun x0=>
 (if (!((x0).2 == (0:Int))) then
 (some (x0).2)
 else (N (f145 r.Name) fun x1=>
 (if (!x1) then
 (some (2:Int))
 else (N (f179 R t r.Left) fun x2=>
 (if (!(x2 == (0:Int))) then
 (some x2)
 else (N (f180 R t r) fun x3=>
 (if (!(x3 == (0:Int))) then
 (some x3)
 else (N (f181 r) fun x4=>
 (if (!(x4 == (0:Int))) then
 (some x4)
 else (N (f156 r) fun x5=>
 (N (f182 R t r.Right.Graph (x5).1 (x5).2) fun x6=>
 (if (!x6) then
 (some (13:Int))
 else (N (f183 R t r.Left r.Condition) fun x7=>
 (some x7)))))))))))))))
theorem IH (h:Hy C R) (t_Nodes:List aE) (t_Edges:List aG) (bD:ByteArray) (aC:List Int) (aD:List Edge) (aT:List Slot) (aZ:Int) (aS:List Test) (ay:List Int) (az:List Edge) (aO:List Slot) (aR:Int) (aP:List Test) (aU:List Int) (aV:List Int) (aW:List Int) (aX:List Int) (ba:Bool) (aI:Int) (aJ:List Condition) (aq:List Int) (ar:List Int) (ab:List Int) (ag:List Edge) (ak:List Slot) (al:Int) (aj:List Test) :
  C.pureC 154 [PV.agg [L (rows t_Nodes) fl0,L (rows t_Edges) fl0],PV.agg [PV.str bD,L (rows aC) fl0,L (rows aD) fl0,L (rows aT) fl0,I i64 aZ,L (rows aS) fl0,L (rows ay) fl0,L (rows az) fl0,L (rows aO) fl0,I i64 aR,L (rows aP) fl0,L (rows aU) fl0,L (rows aV) fl0,L (rows aW) fl0,L (rows aX) fl0,PV.bool ba,I i64 aI,L (rows aJ) fl0,L (rows aq) fl0,L (rows ar) fl0,L (rows ab) fl0,L (rows ag) fl0,L (rows ak) fl0,I i64 al,L (rows aj) fl0]]=M (fun r=>I i64 r) (f154 R (Types.mk t_Nodes t_Edges) (bJ.mk bD (Pattern.mk (Graph.mk aC aD) aT aZ aS) (Pattern.mk (Graph.mk ay az) aO aR aP) (Part.mk aU aV) (aQ.mk aW aX) ba (Condition.mk aI aJ (aQ.mk aq ar) (Pattern.mk (Graph.mk ab ag) ak al aj)))):=by
 rw [aH h.1 (fn:=Tryz.f154) rfl _ rfl rfl rfl]
 simp only [WA,s1,s2,s3,s4,s5,s6,s7,↓reduceIte,akU,asa,aiM,MS,Tryz.f154,BJ,uM,vN,sG,Y2,MR,H0,xF,amB,MG,amA,Wu,amz,Wt,amy,Ws,nP h,mA h,tQ h,UA h,Uz h,IG h,Uy h,Ux h,f154]
def f155 (r:bJ):Option ((List Int) × (List Int)):=
 (N (f184 r.Keep.Nodes (((List.length r.Left.Graph.Nodes):Nat):Int)) fun x0=>
 (N (f184 r.Keep.Edges (((List.length r.Left.Graph.Edges):Nat):Int)) fun x1=>
 (some (x0,x1))))
theorem UH (h:Hy C R) (bD:ByteArray) (aC:List Int) (aD:List Edge) (aT:List Slot) (aZ:Int) (aS:List Test) (ay:List Int) (az:List Edge) (aO:List Slot) (aR:Int) (aP:List Test) (aU:List Int) (aV:List Int) (aW:List Int) (aX:List Int) (ba:Bool) (aI:Int) (aJ:List Condition) (aq:List Int) (ar:List Int) (ab:List Int) (ag:List Edge) (ak:List Slot) (al:Int) (aj:List Test) :
  C.pureC 155 [PV.agg [PV.str bD,L (rows aC) fl0,L (rows aD) fl0,L (rows aT) fl0,I i64 aZ,L (rows aS) fl0,L (rows ay) fl0,L (rows az) fl0,L (rows aO) fl0,I i64 aR,L (rows aP) fl0,L (rows aU) fl0,L (rows aV) fl0,L (rows aW) fl0,L (rows aX) fl0,PV.bool ba,I i64 aI,L (rows aJ) fl0,L (rows aq) fl0,L (rows ar) fl0,L (rows ab) fl0,L (rows ag) fl0,L (rows ak) fl0,I i64 al,L (rows aj) fl0]]=M (fun r=>PV.tup [L (rows r.1) ⟨true,false⟩,L (rows r.2) ⟨true,false⟩]) (f155 (bJ.mk bD (Pattern.mk (Graph.mk aC aD) aT aZ aS) (Pattern.mk (Graph.mk ay az) aO aR aP) (Part.mk aU aV) (aQ.mk aW aX) ba (Condition.mk aI aJ (aQ.mk aq ar) (Pattern.mk (Graph.mk ab ag) ak al aj)))):=by
 rw [aH h.1 (fn:=Tryz.f155) rfl _ rfl rfl rfl]
 simp only [WA,s1,s2,s3,s4,s5,s6,s7,↓reduceIte,akT,ar9,aiL,Wy,Tryz.f155,SO,YX,Gt,IB h,f155]
def f118 (R:bI) (t:Types) (r:bJ):Option ((List Int) × (List Int) × Int):=
 (N (f154 R t r) fun x0=>
 (if (!(x0 == (0:Int))) then
 (some (([]:List Int),([]:List Int),x0))
 else (N (f155 r) fun x1=>
 (some ((x1).1,(x1).2,(0:Int))))))
theorem rb (h:Hy C R) (t_Nodes:List aE) (t_Edges:List aG) (bD:ByteArray) (aC:List Int) (aD:List Edge) (aT:List Slot) (aZ:Int) (aS:List Test) (ay:List Int) (az:List Edge) (aO:List Slot) (aR:Int) (aP:List Test) (aU:List Int) (aV:List Int) (aW:List Int) (aX:List Int) (ba:Bool) (aI:Int) (aJ:List Condition) (aq:List Int) (ar:List Int) (ab:List Int) (ag:List Edge) (ak:List Slot) (al:Int) (aj:List Test) :
  C.pureC 118 [PV.agg [L (rows t_Nodes) fl0,L (rows t_Edges) fl0],PV.agg [PV.str bD,L (rows aC) fl0,L (rows aD) fl0,L (rows aT) fl0,I i64 aZ,L (rows aS) fl0,L (rows ay) fl0,L (rows az) fl0,L (rows aO) fl0,I i64 aR,L (rows aP) fl0,L (rows aU) fl0,L (rows aV) fl0,L (rows aW) fl0,L (rows aX) fl0,PV.bool ba,I i64 aI,L (rows aJ) fl0,L (rows aq) fl0,L (rows ar) fl0,L (rows ab) fl0,L (rows ag) fl0,L (rows ak) fl0,I i64 al,L (rows aj) fl0]]=M (fun r=>PV.tup [L (rows r.1) ⟨true,false⟩,L (rows r.2.1) ⟨true,false⟩,I i64 r.2.2]) (f118 R (Types.mk t_Nodes t_Edges) (bJ.mk bD (Pattern.mk (Graph.mk aC aD) aT aZ aS) (Pattern.mk (Graph.mk ay az) aO aR aP) (Part.mk aU aV) (aQ.mk aW aX) ba (Condition.mk aI aJ (aQ.mk aq ar) (Pattern.mk (Graph.mk ab ag) ak al aj)))):=by
 rw [aH h.1 (fn:=Tryz.f118) rfl _ rfl rfl rfl]
 simp only [WA,s1,s2,s3,s4,s5,s6,s7,↓reduceIte,alg,asy,ai8,xI,Tryz.f118,Y3,MS,amL,Wy,IH h,UH h,f118]
def f119 (R:bI) (t:Types) (r:bJ):Option ((List Int) × (List Int) × Int):=
 (N (f154 R t r) fun x0=>
 (if (!(x0 == (0:Int))) then
 (some (([]:List Int),([]:List Int),x0))
 else (N (f156 r) fun x1=>
 (some ((x1).1,(x1).2,(0:Int))))))
theorem ra (h:Hy C R) (t_Nodes:List aE) (t_Edges:List aG) (bD:ByteArray) (aC:List Int) (aD:List Edge) (aT:List Slot) (aZ:Int) (aS:List Test) (ay:List Int) (az:List Edge) (aO:List Slot) (aR:Int) (aP:List Test) (aU:List Int) (aV:List Int) (aW:List Int) (aX:List Int) (ba:Bool) (aI:Int) (aJ:List Condition) (aq:List Int) (ar:List Int) (ab:List Int) (ag:List Edge) (ak:List Slot) (al:Int) (aj:List Test) :
  C.pureC 119 [PV.agg [L (rows t_Nodes) fl0,L (rows t_Edges) fl0],PV.agg [PV.str bD,L (rows aC) fl0,L (rows aD) fl0,L (rows aT) fl0,I i64 aZ,L (rows aS) fl0,L (rows ay) fl0,L (rows az) fl0,L (rows aO) fl0,I i64 aR,L (rows aP) fl0,L (rows aU) fl0,L (rows aV) fl0,L (rows aW) fl0,L (rows aX) fl0,PV.bool ba,I i64 aI,L (rows aJ) fl0,L (rows aq) fl0,L (rows ar) fl0,L (rows ab) fl0,L (rows ag) fl0,L (rows ak) fl0,I i64 al,L (rows aj) fl0]]=M (fun r=>PV.tup [L (rows r.1) ⟨true,false⟩,L (rows r.2.1) ⟨true,false⟩,I i64 r.2.2]) (f119 R (Types.mk t_Nodes t_Edges) (bJ.mk bD (Pattern.mk (Graph.mk aC aD) aT aZ aS) (Pattern.mk (Graph.mk ay az) aO aR aP) (Part.mk aU aV) (aQ.mk aW aX) ba (Condition.mk aI aJ (aQ.mk aq ar) (Pattern.mk (Graph.mk ab ag) ak al aj)))):=by
 rw [aH h.1 (fn:=Tryz.f119) rfl _ rfl rfl rfl]
 simp only [WA,s1,s2,s3,s4,s5,s6,s7,↓reduceIte,alf,asx,ai7,xH,Tryz.f119,Y3,MS,Y2,MR,IH h,IG h,f119]
def kq (t:Types) (a:Int):Nat→(List Int)→Int→Option ((List Int) × Int)
 | 0,_,_=>none
 | m0+1,out_1,oZ=>
 (if (decide (oZ<(((List.length t.Nodes):Nat):Int))) then
 (N (f127 t oZ a) fun x3=>
 (if x3 then
 (if (decide ((List.length (out_1 ++ [oZ]))≤bound)) then
 (kq t a m0 (out_1 ++ [oZ]) (w64 (oZ+(1:Int))))
 else none)
 else (kq t a m0 out_1 (w64 (oZ+(1:Int))))))
 else (some (out_1,(0:Int))))
def f120 (R:bI) (t:Types) (a:Int):Option ((List Int) × Int):=
 (N (f126 R t [a]) fun x0=>
 (if (!(x0 == (0:Int))) then
 (some (([]:List Int),x0))
 else (kq t a ax ([]:List Int) (0:Int))))
theorem Fj (h:Hy C R) {t_Nodes:List aE} {t_Edges:List aG} {a:Int} :
  ∀ (m0:Nat) (out_1:List Int) (oZ:Int) (dN:Nat),dN=List.length out_1→lp (bw E 120 C) [(Fr.blk 0),(Fr.seq 0 [1,1,1,1])] 0 [0,0,1,0,1,1,1] m0 ⟨[u,I i64 (a),(PV.ptr 0 0),u,u,u,u,PV.own 1 1 0 dN,u,u,u,u,u,u,u,u,u,u,I i64 ((((List.length t_Nodes):Nat):Int)),I i64 oZ,u,u,u,u,u,u,u,u,u,u,u,u],[(0,X [L (rows (t_Nodes)) fl0,L (rows (t_Edges)) fl0]),(1,Y 1 (rows out_1) false false)],2⟩=M (fun r=>PV.tup [L (rows r.1) ⟨true,false⟩,I i64 r.2]) (kq (Types.mk t_Nodes t_Edges) a m0 out_1 oZ):=by
 intro m0
 induction m0 with
 | zero=>intros;rw [bk];rfl
 | succ m0 ih=>
  intro out_1 oZ dN jE
  subst jE
  have c0:=fun (w0:Int) (t_Nodes:List aE) (t_Edges:List aG)=>kp (C:=C) (R:=R) h t_Nodes t_Edges ((w0::([]:List Int)))
  simp only [cA,cf,cc,bV,cg,bU,WS,List.length_nil,List.length_cons,Nat.reduceAdd] at c0
  rw [bm]
  simp only [WA,s1,s2,s3,s4,s5,s6,s7,↓reduceIte,Ym,Z3,XB,uQ,Tryz.f120,HL,BO,xG,O8,GH,kp h,Al h,c0,kq,ih]
theorem q9 (h:Hy C R) (t_Nodes:List aE) (t_Edges:List aG) (a:Int) :
  C.pureC 120 [PV.agg [L (rows t_Nodes) fl0,L (rows t_Edges) fl0],I i64 a]=M (fun r=>PV.tup [L (rows r.1) ⟨true,false⟩,I i64 r.2]) (f120 R (Types.mk t_Nodes t_Edges) a):=by
 have c0:=fun (w0:Int) (t_Nodes:List aE) (t_Edges:List aG)=>kp (C:=C) (R:=R) h t_Nodes t_Edges ((w0::([]:List Int)))
 simp only [cA,cf,cc,bV,cg,bU,WS,List.length_nil,List.length_cons,Nat.reduceAdd] at c0
 have dg:=fun (t_Nodes:List aE) (t_Edges:List aG) (a:Int) (e3:Int)=>Fj (C:=C) (R:=R) (t_Nodes:=t_Nodes) (t_Edges:=t_Edges) (a:=a) h ax (([]:List Int)) e3 _ rfl
 simp only [cA,cf,cc,bV,cg,bU,WS,List.length_nil,List.length_cons,Nat.reduceAdd] at dg
 rw [aH h.1 (fn:=Tryz.f120) rfl _ rfl rfl rfl]
 simp only [WA,s1,s2,s3,s4,s5,s6,s7,↓reduceIte,Ym,Z3,XB,uQ,Tryz.f120,HL,BO,xG,O8,GH,kp h,Al h,c0,f120,dg]
end Go.S
