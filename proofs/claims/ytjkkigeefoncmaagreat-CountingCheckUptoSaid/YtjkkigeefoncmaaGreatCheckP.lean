import Derived.Test.YtjkkigeefoncmaaGreatCheckD
import Derived.Test.YtjkkigeefoncmaaGreatCheckN
import Derived.Test.YtjkkigeefoncmaaGreatCheckO
import Derived.Deep.LoopGhost
import Derived.Lib.Bytealg
import Derived.Lib.SliceRun
import Derived.Lib.Walk
import Derived.Shelf.RegionOpenPlain
import Derived.WalkKit
set_option linter.all false
namespace Go.S
open Go Go.Pm Go.Proofs Go.RowKit Go.Lib
noncomputable def E0:Env:=bare E
theorem B_E (f:Nat) (C:Pm.Callee):(bw E0 f C).E=E0:=rfl
theorem B_C (f:Nat) (C:Pm.Callee):(bw E0 f C).C=C:=rfl
theorem B_f (f:Nat) (C:Pm.Callee):(bw E0 f C).f=f:=rfl
theorem V4 (f:Nat) (C:Pm.Callee):(bw E0 f C).nr=0:=rfl
theorem B_c (f:Nat) (C:Pm.Callee):(bw E0 f C).c=bh E0 f:=rfl
theorem B_D (f:Nat) (C:Pm.Callee):(bw E0 f C).D=Co E0 f:=rfl
theorem CG:E0.tab=tab:=rfl
theorem wQ:E0.keep=keep:=rfl
theorem rv (f b:Nat):E0.keepR f b=none:=rfl
theorem ig (f:Nat):E0.keepE f=none:=rfl
theorem ru:E0.pairs=pairs:=rfl
theorem wP:E0.resK=resK:=rfl
theorem lE (f:Nat):E0.keepNil f=false:=rfl
theorem ry:E0.isRef=isRef:=rfl
theorem Rh (f:Nat):bh E0 f=bh E f:=rfl
theorem Rg (f:Nat):bo E0 f=bo E f:=rfl
theorem Rf (f:Nat):bg E0 f=bg E f:=rfl
theorem tV (e s b:Nat) (z:List PV) (q:Bool) (xs:List (List PV)) (h:xs≠[]) (fl:Fl):eQ (some ⟨.slice e,s,b,z,q⟩) .eql (some (.lit xs fl)) (some .bp)=some ⟨.bool false,[],[]⟩:=by
 cases xs with
 | nil=>exact absurd rfl h
 | cons x r=>rfl
theorem yA (k:Nat) (xs:List (List PV)) (fl:Bool) (h:(xs.all (fun x=>x.length == k))=true):LU k xs fl=some (xs,fl,[]):=by simp only [LU,h,↓reduceIte]
set_option maxRecDepth 100000
set_option maxHeartbeats 2000000
theorem CF:rr Tryz.prog E0:=VU CL tW
theorem alw (n c:Nat) (w:World) :
  Calls Tryz.prog 11 #[.slice none n c] w fun e w'=>e=.returned (.slice none 0 0)∧w'=w:=by
 have q24:∀ (w:World) (a:Option Addr) (n c n' c':Nat),(binOp .eql 27 (.slice a n c) (.slice none n' c')).run Tryz.prog w=.ok (.bool a.isNone) w:=fun w a n c n' c'=>Lib.run_eql_slice_nil w _ _ a n c n' c' Tryz.underlying27
 go_enter Tryz.func11,Tryz.ntmps11
 go_wp2
 go_ret
 exact ⟨rfl,rfl⟩
theorem aad (a:Addr) (c:Nat) (w:World) :
  Calls Tryz.prog 11 #[.slice (some a) 0 c] w fun e w'=>∃ v',e=.returned v'∧w'.ownsRow w.heap.size 33 2 v' 0 []∧Below w.heap.size w w':=by
 have q24:∀ (w:World) (a:Option Addr) (n c n' c':Nat),(binOp .eql 27 (.slice a n c) (.slice none n' c')).run Tryz.prog w=.ok (.bool a.isNone) w:=fun w a n c n' c'=>Lib.run_eql_slice_nil w _ _ a n c n' c' Tryz.underlying27
 have u24:∀ w,Sem.run Tryz.prog (underlying 27) w=.ok (TypeDesc.slice 33) w:=run_underlying Tryz.underlying27
 go_enter Tryz.func11,Tryz.ntmps11
 go_wp2_with (at_builtin;refine wpList_append_own _ rfl _ _ 27 rfl w.heap.size 33 _ _ 2 48 Tryz.underlying27 Tryz.type33 rfl rfl rfl rfl (by decide) _ _ _ rfl (World.ownsRow_made w #[] 0 (Nat.le_refl _) (Nat.zero_le _) rfl) a 0 c [] rfl rfl (by intro j u hj;simp at hj) (by intro u hu;cases hu) (by unfold maxLen;omega) (by omega) (by simp) ?_)
 intro v' w1 hown hgrow hnil
 go_wp2
 go_ret
 refine ⟨v',rfl,by simpa using hown,?_⟩
 exact ((Below.refl _ w).alloc (Nat.le_refl _) _).grown hgrow (by simp) (by intro k hk;simp [Value.ownBlock] at hk;omega)
theorem ne11 (xs:List (List PV)) (fl:Fl) (h0:xs≠[]) (h:(xs.all (fun x=>x.length == 2))=true) (hb:xs.length≤bound) :
  (level E0 (run E0 0)).pureC 11 [.lit xs fl]=some (.lit xs ⟨true,false⟩):=by
 rw [cP (fn:=Tryz.f11) _ _ rfl rfl rfl]
 simp only [Go.Pm.W0,Go.Pm.W1,Go.Pm.W2,Go.Pm.W3,Go.Pm.W4,Go.Pm.W5,Go.Pm.W6,Go.Pm.W7,Go.Pm.W8,Go.Pm.W9,Go.Pm.Wc,B_E,B_C,B_f,V4,B_c,B_D,CG,wQ,rv,ig,ru,wP,lE,ry,Rh,Rg,Rf,WT,Nat.reduceAdd,Nat.reduceSub,Nat.reduceMul,Nat.reduceBEq,Nat.reduceLeDiff,Nat.reduceEqDiff,Nat.reduceLT,↓reduceIte,nt11,co11,re11,ahu,Tryz.f11,tV _ _ _ _ _ xs h0,yA 2 xs _ h,hb,decide_true,Cm _ _ _ _ (ig _)]
theorem abW:iC Tryz.prog resK 11 (iE 2):=mL (E:=E) CF ⟨_,Tryz.func11,aqh.2.1,rfl⟩ rfl ne11 alw aad
theorem alv (n c:Nat) (w:World) :
  Calls Tryz.prog 83 #[.slice none n c] w fun e w'=>e=.returned (.slice none 0 0)∧w'=w:=by
 have q24:∀ (w:World) (a:Option Addr) (n c n' c':Nat),(binOp .eql 73 (.slice a n c) (.slice none n' c')).run Tryz.prog w=.ok (.bool a.isNone) w:=fun w a n c n' c'=>Lib.run_eql_slice_nil w _ _ a n c n' c' Tryz.underlying73
 go_enter Tryz.func83,Tryz.ntmps83
 go_wp2
 go_ret
 exact ⟨rfl,rfl⟩
theorem aac (a:Addr) (c:Nat) (w:World) :
  Calls Tryz.prog 83 #[.slice (some a) 0 c] w fun e w'=>∃ v',e=.returned v'∧w'.ownsRow w.heap.size 109 4 v' 0 []∧Below w.heap.size w w':=by
 have q24:∀ (w:World) (a:Option Addr) (n c n' c':Nat),(binOp .eql 73 (.slice a n c) (.slice none n' c')).run Tryz.prog w=.ok (.bool a.isNone) w:=fun w a n c n' c'=>Lib.run_eql_slice_nil w _ _ a n c n' c' Tryz.underlying73
 have u24:∀ w,Sem.run Tryz.prog (underlying 73) w=.ok (TypeDesc.slice 109) w:=run_underlying Tryz.underlying73
 go_enter Tryz.func83,Tryz.ntmps83
 go_wp2_with (at_builtin;refine wpList_append_own _ rfl _ _ 73 rfl w.heap.size 109 _ _ 4 32 Tryz.underlying73 Tryz.type109 rfl rfl rfl rfl (by decide) _ _ _ rfl (World.ownsRow_made w #[] 0 (Nat.le_refl _) (Nat.zero_le _) rfl) a 0 c [] rfl rfl (by intro j u hj;simp at hj) (by intro u hu;cases hu) (by unfold maxLen;omega) (by omega) (by simp) ?_)
 intro v' w1 hown hgrow hnil
 go_wp2
 go_ret
 refine ⟨v',rfl,by simpa using hown,?_⟩
 exact ((Below.refl _ w).alloc (Nat.le_refl _) _).grown hgrow (by simp) (by intro k hk;simp [Value.ownBlock] at hk;omega)
theorem ne83 (xs:List (List PV)) (fl:Fl) (h0:xs≠[]) (h:(xs.all (fun x=>x.length == 4))=true) (hb:xs.length≤bound) :
  (level E0 (run E0 0)).pureC 83 [.lit xs fl]=some (.lit xs ⟨true,false⟩):=by
 rw [cP (fn:=Tryz.f83) _ _ rfl rfl rfl]
 simp only [Go.Pm.W0,Go.Pm.W1,Go.Pm.W2,Go.Pm.W3,Go.Pm.W4,Go.Pm.W5,Go.Pm.W6,Go.Pm.W7,Go.Pm.W8,Go.Pm.W9,Go.Pm.Wc,B_E,B_C,B_f,V4,B_c,B_D,CG,wQ,rv,ig,ru,wP,lE,ry,Rh,Rg,Rf,WT,Nat.reduceAdd,Nat.reduceSub,Nat.reduceMul,Nat.reduceBEq,Nat.reduceLeDiff,Nat.reduceEqDiff,Nat.reduceLT,↓reduceIte,nt83,co83,re83,rk83,Tryz.f83,tV _ _ _ _ _ xs h0,yA 4 xs _ h,hb,decide_true,Cm _ _ _ _ (ig _)]
theorem abV:iC Tryz.prog resK 83 (iE 4):=mL (E:=E) CF ⟨_,Tryz.func83,anC.2.1,rfl⟩ rfl ne83 alv aac
theorem abT:iC Tryz.prog resK 87 Bz:=JT
theorem alu (n c:Nat) (w:World) :
  Calls Tryz.prog 95 #[.slice none n c] w fun e w'=>e=.returned (.slice none 0 0)∧w'=w:=by
 have q24:∀ (w:World) (a:Option Addr) (n c n' c':Nat),(binOp .eql 31 (.slice a n c) (.slice none n' c')).run Tryz.prog w=.ok (.bool a.isNone) w:=fun w a n c n' c'=>Lib.run_eql_slice_nil w _ _ a n c n' c' Tryz.underlying31
 go_enter Tryz.func95,Tryz.ntmps95
 go_wp2
 go_ret
 exact ⟨rfl,rfl⟩
theorem aab (a:Addr) (c:Nat) (w:World) :
  Calls Tryz.prog 95 #[.slice (some a) 0 c] w fun e w'=>∃ v',e=.returned v'∧w'.ownsRow w.heap.size 3 1 v' 0 []∧Below w.heap.size w w':=by
 have q24:∀ (w:World) (a:Option Addr) (n c n' c':Nat),(binOp .eql 31 (.slice a n c) (.slice none n' c')).run Tryz.prog w=.ok (.bool a.isNone) w:=fun w a n c n' c'=>Lib.run_eql_slice_nil w _ _ a n c n' c' Tryz.underlying31
 have u24:∀ w,Sem.run Tryz.prog (underlying 31) w=.ok (TypeDesc.slice 3) w:=run_underlying Tryz.underlying31
 go_enter Tryz.func95,Tryz.ntmps95
 go_wp2_with (at_builtin;refine wpList_append_own _ rfl _ _ 31 rfl w.heap.size 3 _ _ 1 8 Tryz.underlying31 Tryz.type3 rfl rfl rfl rfl (by decide) _ _ _ rfl (World.ownsRow_made w #[] 0 (Nat.le_refl _) (Nat.zero_le _) rfl) a 0 c [] rfl rfl (by intro j u hj;simp at hj) (by intro u hu;cases hu) (by unfold maxLen;omega) (by omega) (by simp) ?_)
 intro v' w1 hown hgrow hnil
 go_wp2
 go_ret
 refine ⟨v',rfl,by simpa using hown,?_⟩
 exact ((Below.refl _ w).alloc (Nat.le_refl _) _).grown hgrow (by simp) (by intro k hk;simp [Value.ownBlock] at hk;omega)
theorem ne95 (xs:List (List PV)) (fl:Fl) (h0:xs≠[]) (h:(xs.all (fun x=>x.length == 1))=true) (hb:xs.length≤bound) :
  (level E0 (run E0 0)).pureC 95 [.lit xs fl]=some (.lit xs ⟨true,false⟩):=by
 rw [cP (fn:=Tryz.f95) _ _ rfl rfl rfl]
 simp only [Go.Pm.W0,Go.Pm.W1,Go.Pm.W2,Go.Pm.W3,Go.Pm.W4,Go.Pm.W5,Go.Pm.W6,Go.Pm.W7,Go.Pm.W8,Go.Pm.W9,Go.Pm.Wc,B_E,B_C,B_f,V4,B_c,B_D,CG,wQ,rv,ig,ru,wP,lE,ry,Rh,Rg,Rf,WT,Nat.reduceAdd,Nat.reduceSub,Nat.reduceMul,Nat.reduceBEq,Nat.reduceLeDiff,Nat.reduceEqDiff,Nat.reduceLT,↓reduceIte,nt95,co95,re95,Mf,Tryz.f95,tV _ _ _ _ _ xs h0,yA 1 xs _ h,hb,decide_true,Cm _ _ _ _ (ig _)]
theorem abS:iC Tryz.prog resK 95 (iE 1):=mL (E:=E) CF ⟨_,Tryz.func95,anA.2.1,rfl⟩ rfl ne95 alu aab
theorem am9 (s:ByteArray) (c:Int) (w:World) :
  Calls Tryz.prog 237 #[.string s,.int .u8 c] w fun e w'=>e=.returned (.int .i64 (Lib.indexByte s.data.toList c.toNat.toUInt8))∧w'=w:=by
 go_enter Tryz.func237,Tryz.ntmps237
 go_wp2
 rw [run_callFunc_extern Tryz.func250 (by kernel_rfl) (by kernel_rfl) (by kernel_rfl) (e:=Extern.BytealgIndexByte.indexByte) (by kernel_rfl),Lib.run_indexByteString]
 simp only [Result.andThen]
 rw [Oper.upon_value]
 go_wp2
 go_ret
 exact ⟨rfl,rfl⟩
theorem SF:iC Tryz.prog resK 237 lS:=DR ⟨_,Tryz.func237,Zk.2.1,rfl⟩ am9
theorem acr (n c:Nat) (w:World) :
  Calls Tryz.prog 238 #[.slice none n c] w fun e w'=>e=.returned (.slice none 0 0)∧w'=w:=by
 have q24:∀ (w:World) (a:Option Addr) (n c n' c':Nat),(binOp .eql 68 (.slice a n c) (.slice none n' c')).run Tryz.prog w=.ok (.bool a.isNone) w:=fun w a n c n' c'=>Lib.run_eql_slice_nil w _ _ a n c n' c' Tryz.underlying68
 go_enter Tryz.func238,Tryz.ntmps238
 go_wp2
 go_ret
 exact ⟨rfl,rfl⟩
theorem Rj (a:Addr) (c:Nat) (w:World) :
  Calls Tryz.prog 238 #[.slice (some a) 0 c] w fun e w'=>∃ v',e=.returned v'∧w'.ownsRow w.heap.size 9 1 v' 0 []∧Below w.heap.size w w':=by
 have q24:∀ (w:World) (a:Option Addr) (n c n' c':Nat),(binOp .eql 68 (.slice a n c) (.slice none n' c')).run Tryz.prog w=.ok (.bool a.isNone) w:=fun w a n c n' c'=>Lib.run_eql_slice_nil w _ _ a n c n' c' Tryz.underlying68
 have u24:∀ w,Sem.run Tryz.prog (underlying 68) w=.ok (TypeDesc.slice 9) w:=run_underlying Tryz.underlying68
 go_enter Tryz.func238,Tryz.ntmps238
 go_wp2_with (at_builtin;refine wpList_append_own _ rfl _ _ 68 rfl w.heap.size 9 _ _ 1 16 Tryz.underlying68 Tryz.type9 rfl rfl rfl rfl (by decide) _ _ _ rfl (World.ownsRow_made w #[] 0 (Nat.le_refl _) (Nat.zero_le _) rfl) a 0 c [] rfl rfl (by intro j u hj;simp at hj) (by intro u hu;cases hu) (by unfold maxLen;omega) (by omega) (by simp) ?_)
 intro v' w1 hown hgrow hnil
 go_wp2
 go_ret
 refine ⟨v',rfl,by simpa using hown,?_⟩
 exact ((Below.refl _ w).alloc (Nat.le_refl _) _).grown hgrow (by simp) (by intro k hk;simp [Value.ownBlock] at hk;omega)
theorem alz (xs:List (List PV)) (fl:Fl) (h0:xs≠[]) (h:(xs.all (fun x=>x.length == 1))=true) (hb:xs.length≤bound) :
  (level E0 (run E0 0)).pureC 238 [.lit xs fl]=some (.lit xs ⟨true,false⟩):=by
 rw [cP (fn:=Tryz.f238) _ _ rfl rfl rfl]
 simp only [Go.Pm.W0,Go.Pm.W1,Go.Pm.W2,Go.Pm.W3,Go.Pm.W4,Go.Pm.W5,Go.Pm.W6,Go.Pm.W7,Go.Pm.W8,Go.Pm.W9,Go.Pm.Wc,B_E,B_C,B_f,V4,B_c,B_D,CG,wQ,rv,ig,ru,wP,lE,ry,Rh,Rg,Rf,WT,Nat.reduceAdd,Nat.reduceSub,Nat.reduceMul,Nat.reduceBEq,Nat.reduceLeDiff,Nat.reduceEqDiff,Nat.reduceLT,↓reduceIte,aka,arp,ah1,Ms,Tryz.f238,tV _ _ _ _ _ xs h0,yA 1 xs _ h,hb,decide_true,Cm _ _ _ _ (ig _)]
theorem SE:iC Tryz.prog resK 238 (iE 1):=mL (E:=E) CF ⟨_,Tryz.func238,Zj.2.1,rfl⟩ rfl alz acr Rj
theorem Ns:∀ f p,primP f=some p→iC Tryz.prog resK f p:=fun f p h=>
 (aw (aw (ao (Q:=fun f p=>iC Tryz.prog resK f p) abW) (aw (ao (Q:=fun f p=>iC Tryz.prog resK f p) abV) (ao (Q:=fun f p=>iC Tryz.prog resK f p) abT))) (aw (ao (Q:=fun f p=>iC Tryz.prog resK f p) abS) (aw (ao (Q:=fun f p=>iC Tryz.prog resK f p) SF) (ao (Q:=fun f p=>iC Tryz.prog resK f p) SE)))) p h
end Go.S
