import Derived.Test.YtjkkigeefoncmaaGreatCheckI
set_option linter.all false
set_option maxRecDepth 100000
set_option linter.defProp false
noncomputable section
set_option maxHeartbeats 4000000
namespace Go.S
open Go Go.Pm Go.Proofs
open Nat renaming reduceAdd→s1,reduceSub→s2,reduceMul→s3,reduceBEq→s4,reduceLeDiff→s5,reduceEqDiff→s6,reduceLT→s7
open Go.IntKind (i64)
open Go.Pm.PV renaming undef→u,lit→L,int→I
open Go.Pm.bq renaming box→X,arr→Y
open Option renaming bind→N,map→M
variable {C:Pm.Callee} {R:bI}
def oh (l:List bW) (k_6:Int) (k2:(List Bool)→Int→Int→Option Bool):Nat→(List Bool)→Int→Int→Option Bool
 | 0,_,_,_=>none
 | m4+1,iP,lq,DT=>
 (N (at? l k_6) fun x13=>
 (if (decide (DT<(((List.length x13.Removed):Nat):Int))) then
 (N (at? l k_6) fun x14=>
 (N (at? x14.Removed DT) fun x15=>
 (if ((decide ((0:Int)≤x15))&&(decide (x15<(((List.length iP):Nat):Int)))) then
 (N (iP[(Int.toNat x15)]?) fun x16=>
 (oh l k_6 k2 m4 (List.set iP (Int.toNat x15) false) (w64 (lq - (1:Int))) (w64 (DT+(1:Int)))))
 else none)))
 else (k2 iP lq (w64 (k_6+(1:Int))))))
def jN (t:Types) (l:List bW) (x0:(Prod (List (List Int)) Int)):Nat→(List Bool)→Int→Int→Option Bool
 | 0,_,_,_=>none
 | m2+1,cI,oN,k_6=>
 (if (decide (k_6<(((List.length l):Nat):Int))) then
 (N (at? l k_6) fun x7=>
 (N (f28 t) fun x8=>
 (N (f35 (x0).1 cI x7 x8) fun x9=>
 (if (!x9) then
 (some false)
 else (oh l k_6 (jN t l x0 m2) ax cI oN (0:Int))))))
 else (some (oN == (0:Int))))
def oi (t:Types) (rules:List bJ) (l:List bW) (x0:(Prod (List (List Int)) Int)):Nat→(List Bool)→Int→Option Bool
 | 0,_,_=>none
 | m0+1,eI,i_2=>
 (if (decide (i_2<(((List.length rules):Nat):Int))) then
 (if ((decide ((0:Int)≤i_2))&&(decide (i_2<(((List.length eI):Nat):Int)))) then
 (N (eI[(Int.toNat i_2)]?) fun x3=>
 (oi t rules l x0 m0 (List.set eI (Int.toNat i_2) true) (w64 (i_2+(1:Int)))))
 else none)
 else (jN t l x0 ax eI (((List.length rules):Nat):Int) (0:Int)))
def f12 (R:bI) (t:Types) (rules:List bJ) (l:List bW):Option Bool:=
 (N (f26 R t rules) fun x0=>
 (if (!((x0).2 == (0:Int))) then
 (some false)
 else (if (decide (((0:Int)≤(((List.length rules):Nat):Int))∧((((List.length rules):Nat):Int)≤((bound:Nat):Int)))) then
 (oi t rules l x0 ax (List.replicate (Int.toNat (((List.length rules):Nat):Int)) false) (0:Int))
 else none)))
theorem K6 (h:Hy C R) {t_Nodes:List aE} {t_Edges:List aG} {l:List bW} {x0:(Prod (List (List Int)) Int)} {k_6:Int} {m2:Nat} {k2:(List Bool)→Int→Int→Option Bool} (hk2:∀ (z1:List Bool) (z3:Int) (z4:Int) (nz1:Nat),nz1=List.length z1→lp (bw E 12 C) [(Fr.blk 2),(Fr.seq 0 [1,1,1,1,1,1,1])] 2 [0,0,1,0,1,1,1,1,1,1] m2 ⟨[u,u,L (rows (l)) fl0,(PV.ptr 0 0),u,u,u,PV.own 1 1 0 (List.length (x0).1),u,PV.own 2 1 0 nz1,I i64 z3,u,I i64 z4,u,u,u,u,u,u,u,u,u,u,u,u,u,u,u,u,u,u,u,u,u,u,u,u,u,u,u,u,u,u,u,u,u,u,u,u,u,u,u,u,u,u,u,u,u,u,u,u,u,u,u,u,u,u,u,u,u,u,u,u,u,u],[(0,X [L (rows (t_Nodes)) fl0,L (rows (t_Edges)) fl0]),(1,Y 1 (rows ((x0).1)) false false),(2,Y 1 (rows z1) false false)],3⟩=M (fun r=>PV.bool r) (k2 z1 z3 z4)) :
  ∀ (m4:Nat) (iP:List Bool) (lq:Int) (DT:Int) (vw:Nat),vw=List.length iP→lp (bw E 12 C) [(Fr.blk 4),(Fr.blk 3),(Fr.seq 2 [1,1,0,0,1,0,1,1,1,1,1,1]),(Fr.loop 2 [0,0,1,0,1,1,1,1,1,1] m2),(Fr.blk 2),(Fr.seq 0 [1,1,1,1,1,1,1])] 4 [0,0,1,1,0,0,1,0,0,1,0,1,1,1,1,1,1] m4 ⟨[u,u,L (rows (l)) fl0,(PV.ptr 0 0),u,u,u,PV.own 1 1 0 (List.length (x0).1),u,PV.own 2 1 0 vw,I i64 lq,u,I i64 (k_6),I i64 DT,u,u,u,u,u,u,u,u,u,u,u,u,u,u,u,u,u,u,u,u,u,u,u,u,u,u,u,u,u,u,u,u,u,u,u,u,u,u,u,u,u,u,u,u,u,u,u,u,u,u,u,u,u,u,u,u,u,u,u,u,u],[(0,X [L (rows (t_Nodes)) fl0,L (rows (t_Edges)) fl0]),(1,Y 1 (rows ((x0).1)) false false),(2,Y 1 (rows iP) false false)],3⟩=M (fun r=>PV.bool r) (oh l k_6 k2 m4 iP lq DT):=by
 intro m4
 induction m4 with
 | zero=>intros;rw [bk];rfl
 | succ m4 ih=>
  intro iP lq DT vw Pn
  subst Pn
  rw [bm]
  simp only [WA,s1,s2,s3,s4,s5,s6,s7,↓reduceIte,S0,Vn,Sz,MX,Tryz.f12,zA,zz,zy,tE,Kc,AY,Kb,Da,Tz,C9,rY h,rX h,zY h,oh,ih,hk2]
theorem K7 (h:Hy C R) {t_Nodes:List aE} {t_Edges:List aG} {l:List bW} {x0:(Prod (List (List Int)) Int)} :
  ∀ (m2:Nat) (cI:List Bool) (oN:Int) (k_6:Int) (lN:Nat),lN=List.length cI→lp (bw E 12 C) [(Fr.blk 2),(Fr.seq 0 [1,1,1,1,1,1,1])] 2 [0,0,1,0,1,1,1,1,1,1] m2 ⟨[u,u,L (rows (l)) fl0,(PV.ptr 0 0),u,u,u,PV.own 1 1 0 (List.length (x0).1),u,PV.own 2 1 0 lN,I i64 oN,u,I i64 k_6,u,u,u,u,u,u,u,u,u,u,u,u,u,u,u,u,u,u,u,u,u,u,u,u,u,u,u,u,u,u,u,u,u,u,u,u,u,u,u,u,u,u,u,u,u,u,u,u,u,u,u,u,u,u,u,u,u,u,u,u,u,u],[(0,X [L (rows (t_Nodes)) fl0,L (rows (t_Edges)) fl0]),(1,Y 1 (rows ((x0).1)) false false),(2,Y 1 (rows cI) false false)],3⟩=M (fun r=>PV.bool r) (jN (Types.mk t_Nodes t_Edges) l x0 m2 cI oN k_6):=by
 intro m2
 induction m2 with
 | zero=>intros;rw [bk];rfl
 | succ m2 ih=>
  intro cI oN k_6 lN zP
  subst zP
  rw [bm]
  simp only [WA,s1,s2,s3,s4,s5,s6,s7,↓reduceIte,S0,Vn,Sz,MX,Tryz.f12,zA,zz,zy,tE,Kc,AY,Kb,Da,Tz,C9,rY h,rX h,zY h,jN,ih,K6 h ih]
theorem K8 (h:Hy C R) {t_Nodes:List aE} {t_Edges:List aG} {rules:List bJ} {l:List bW} {x0:(Prod (List (List Int)) Int)} :
  ∀ (m0:Nat) (eI:List Bool) (i_2:Int) (lO:Nat),lO=List.length eI→lp (bw E 12 C) [(Fr.blk 0),(Fr.seq 0 [1,1,1,1,1,1])] 0 [0,0,1,0,1,1,1,1,1] m0 ⟨[u,u,L (rows (l)) fl0,(PV.ptr 0 0),u,u,u,PV.own 1 1 0 (List.length (x0).1),u,PV.own 2 1 0 lO,I i64 ((((List.length rules):Nat):Int)),I i64 i_2,u,u,u,u,u,u,u,u,u,u,u,u,u,u,u,u,u,u,u,u,u,u,u,u,u,u,u,u,u,u,u,u,u,u,u,u,u,u,u,u,u,u,u,u,u,u,u,u,u,u,u,u,u,u,u,u,u,u,u,u,u,u,u],[(0,X [L (rows (t_Nodes)) fl0,L (rows (t_Edges)) fl0]),(1,Y 1 (rows ((x0).1)) false false),(2,Y 1 (rows eI) false false)],3⟩=M (fun r=>PV.bool r) (oi (Types.mk t_Nodes t_Edges) rules l x0 m0 eI i_2):=by
 intro m0
 induction m0 with
 | zero=>intros;rw [bk];rfl
 | succ m0 ih=>
  intro eI i_2 lO zQ
  subst zQ
  rw [bm]
  simp only [WA,s1,s2,s3,s4,s5,s6,s7,↓reduceIte,S0,Vn,Sz,MX,Tryz.f12,zA,zz,zy,tE,Kc,AY,Kb,Da,Tz,C9,rY h,rX h,zY h,oi,ih,K7 h]
theorem aeJ (h:Hy C R) (t_Nodes:List aE) (t_Edges:List aG) (rules:List bJ) (l:List bW) :
  C.pureC 12 [PV.agg [L (rows t_Nodes) fl0,L (rows t_Edges) fl0],L (rows rules) fl0,L (rows l) fl0]=M (fun r=>PV.bool r) (f12 R (Types.mk t_Nodes t_Edges) rules l):=by
 rw [aH h.1 (fn:=Tryz.f12) rfl _ rfl rfl rfl]
 simp only [WA,s1,s2,s3,s4,s5,s6,s7,↓reduceIte,S0,Vn,Sz,MX,Tryz.f12,zA,zz,zy,tE,Kc,AY,Kb,Da,Tz,C9,rY h,rX h,zY h,f12,K8 h]
def f3 (R:bI) (t:Types) (l:List bJ) (s:List bW):Option Bool:=
 (N R.f6 fun x0=>
 (if (!x0) then
 (N R.f6 fun x1=>
 (some x1))
 else (N (f7 R t l) fun x2=>
 (if (!x2) then
 (N R.f6 fun x3=>
 (some x3))
 else (if (decide ((10:Int)<(((List.length s):Nat):Int))) then
 (N R.f6 fun x4=>
 (some x4))
 else (N (vY s) fun x5=>
 (if x5 then
 (N R.f6 fun x6=>
 (some x6))
 else (N (f11 s) fun x7=>
 (N (f10 R t l x7) fun x8=>
 (N (f12 R t l s) fun x9=>
 (some (x8 == x9))))))))))))
theorem aqF (h:Hy C R) (t_Nodes:List aE) (t_Edges:List aG) (l:List bJ) (s:List bW) :
  C.pureC 3 [PV.agg [L (rows t_Nodes) fl0,L (rows t_Edges) fl0],L (rows l) fl0,L (rows s) fl0]=M (fun r=>PV.bool r) (f3 R (Types.mk t_Nodes t_Edges) l s):=by
 rw [aH h.1 (fn:=Tryz.f3) rfl _ rfl rfl rfl]
 simp only [WA,s1,s2,s3,s4,s5,s6,s7,↓reduceIte,nt3,co3,re3,rk3,Tryz.f3,ajy,ir6,rk6,ir7,rk7,ir8,rk8,ir9,rk9,ir10,Dc,ir11,ahu,ir12,MX,h.2.f6,aqy h,Km h,aeN h,aeR h,aeJ h,f3]
end Go.S
