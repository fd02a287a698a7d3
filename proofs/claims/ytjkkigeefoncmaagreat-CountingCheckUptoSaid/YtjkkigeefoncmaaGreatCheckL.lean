import Derived.Test.YtjkkigeefoncmaaGreatCheckB
import Derived.Test.YtjkkigeefoncmaaGreatCheckC
import Derived.Test.YtjkkigeefoncmaaGreatCheckD
import Derived.Test.YtjkkigeefoncmaaGreatCheckJ
import Derived.Test.YtjkkigeefoncmaaGreatCheckK
set_option linter.all false
section
set_option linter.unusedVariables false
set_option linter.unusedSimpArgs false
namespace Go.Pm
open Go
inductive Qry where
 | p (f:Nat) (a5:List PV)
 | r (f k:Nat) (a5:List PV) (h:List (Nat × bq)) (nx:Nat)
def Qry.fn:Qry→Nat
 | .p f _=>f
 | .r f _ _ _ _=>f
abbrev Ans:=PV × List (Nat × bq) × Nat
def ask (C:Callee):Qry→Option Ans
 | .p f a5=>(C.pureC f a5).map fun v=>(v,[],0)
 | .r f k a5 h nx=>C.refC f k a5 h nx
theorem LE.ask {C D:Callee} (h:LE C D) {q:Qry} {x:Ans} (hc:ask C q=some x):ask D q=some x:=by
 cases q with
 | p f a5=>
  simp only [Go.Pm.ask,Option.map_eq_some_iff] at hc ⊢
  obtain ⟨v,h1,h2⟩:=hc
  exact ⟨v,h.p h1,h2⟩
 | r f k a5 hp nx=>exact h.r hc
def patch (X:Nat→Bool) (B C:Callee):Callee where
 pureC f a5:=bif X f then B.pureC f a5 else C.pureC f a5
 refC f k a5 h nx:=bif X f then B.refC f k a5 h nx else C.refC f k a5 h nx
def itT (E:Env) (X:Nat→Bool) (B:Callee):Nat→Callee
 | 0=>⟨fun _ _=>none,fun _ _ _ _ _=>none⟩
 | n+1=>patch X B (level E (itT E X B n))
theorem rG {X:Nat→Bool} {B L:Callee} {C:Nat→Callee} (h:App L C):App (patch X B L) fun m=>patch X B (C m) where
 p:=fun f a5 r hr=>by
  simp only [patch] at hr ⊢
  cases hx:X f with
  | true=>rw [hx] at hr;exact .of fun m=>hr
  | false=>rw [hx] at hr;exact h.p f a5 r hr
 r:=fun f k a5 hp nx x hr=>by
  simp only [patch] at hr ⊢
  cases hx:X f with
  | true=>rw [hx] at hr;exact .of fun m=>hr
  | false=>rw [hx] at hr;exact h.r f k a5 hp nx x hr
section
variable (E:Env) (X:Nat→Bool) (B:Callee)
theorem LE.patch {C D:Callee} (h:LE C D):LE (Go.Pm.patch X B C) (Go.Pm.patch X B D):=rG h
theorem BH:∀ n,LE (itT E X B n) (itT E X B (n+1))
 | 0=>.of (fun f a5 r h=>by simp [itT] at h) fun f n a5 hp nx x h=>by simp [itT] at h
 | n+1=>(BH n).level.patch X B
theorem ir {n m:Nat} (h:n≤m):LE (itT E X B n) (itT E X B m):=by
 induction m with
 | zero=>rw [Nat.le_zero.1 h];exact .refl _
 | succ m ih=>
  rcases Nat.lt_or_ge n (m+1) with h1 | h1
  ·exact (ih (by omega)).trans (BH E X B m)
  ·rw [show n=m+1 by omega];exact .refl _
open Classical in
noncomputable def lR:Callee where
 pureC f a5:=if h:∃ n r,(itT E X B n).pureC f a5=some r then some (Classical.choose (Classical.choose_spec h)) else none
 refC f k a5 hp nx:=if h:∃ n x,(itT E X B n).refC f k a5 hp nx=some x then some (Classical.choose (Classical.choose_spec h)) else none
variable {E X B}
theorem zc {f a5 r}:(lR E X B).pureC f a5=some r↔∃ n,(itT E X B n).pureC f a5=some r:=by
 unfold lR
 constructor
 ·intro h
  simp only at h
  split at h
  ·rename_i hx
   simp at h
   exact ⟨_,by rw [← h];exact Classical.choose_spec (Classical.choose_spec hx)⟩
  ·simp at h
 ·rintro ⟨n,h⟩
  have hx:∃ n r,(itT E X B n).pureC f a5=some r:=⟨n,r,h⟩
  simp only [hx,↓reduceDIte]
  have h1:=Classical.choose_spec (Classical.choose_spec hx)
  rcases Nat.le_total n (Classical.choose hx) with hl | hl
  ·have:=(ir E X B hl).p h;rw [h1] at this;exact this
  ·have:=(ir E X B hl).p h1;rw [h] at this;simp only [Option.some.injEq] at this ⊢;exact this.symm
theorem zb {f k a5 hp nx x}:(lR E X B).refC f k a5 hp nx=some x↔∃ n,(itT E X B n).refC f k a5 hp nx=some x:=by
 unfold lR
 constructor
 ·intro h
  simp only at h
  split at h
  ·rename_i hx
   have h1:=Classical.choose_spec (Classical.choose_spec hx)
   exact ⟨_,h1.trans (by rw [Option.some.inj h])⟩
  ·simp at h
 ·rintro ⟨n,h⟩
  have hx:∃ n x,(itT E X B n).refC f k a5 hp nx=some x:=⟨n,x,h⟩
  simp only [hx,↓reduceDIte]
  have h1:=Classical.choose_spec (Classical.choose_spec hx)
  rcases Nat.le_total n (Classical.choose hx) with hl | hl
  ·have:=(ir E X B hl).r h;rw [h1] at this;exact this
  ·have:=(ir E X B hl).r h1;rw [h] at this;simp only [Option.some.injEq] at this ⊢;exact this.symm
theorem HQ (n:Nat):LE (itT E X B n) (lR E X B):=.of (fun f a5 r h=>zc.2 ⟨n,h⟩) fun f k a5 hp nx x h=>zb.2 ⟨n,h⟩
theorem BE:App (lR E X B) (itT E X B):=
 ⟨fun f a5 r h=>by obtain ⟨n,hn⟩:=zc.1 h;exact ⟨n,fun m hm=>(ir E X B hm).p hn⟩,
  fun f k a5 hp nx x h=>by obtain ⟨n,hn⟩:=zb.1 h;exact ⟨n,fun m hm=>(ir E X B hm).r hn⟩⟩
theorem G7:LE (patch X B (level E (lR E X B))) (lR E X B):=
 .of (fun f a5 r h=>by obtain ⟨n,hn⟩:=(rG (X:=X) (B:=B) (kZ (E:=E) BE)).p f a5 r h;exact zc.2 ⟨n+1,hn n (Nat.le_refl _)⟩)
  fun f k a5 hp nx x h=>by obtain ⟨n,hn⟩:=(rG (X:=X) (B:=B) (kZ (E:=E) BE)).r f k a5 hp nx x h;exact zb.2 ⟨n+1,hn n (Nat.le_refl _)⟩
theorem G6:LE (lR E X B) (patch X B (level E (lR E X B))):=
 .of (fun f a5 r h=>by
   obtain ⟨n,hn⟩:=zc.1 h
   have:=(ir E X B (Nat.le_add_right n 1)).p hn
   exact ((HQ n).level.patch X B).p this)
  fun f k a5 hp nx x h=>by
   obtain ⟨n,hn⟩:=zb.1 h
   have:=(ir E X B (Nat.le_add_right n 1)).r hn
   exact ((HQ n).level.patch X B).r this
theorem pB (f:Nat) (a5:List PV):(lR E X B).pureC f a5=(patch X B (level E (lR E X B))).pureC f a5:=
 opt_ext (fun _ h=>G6.p h) fun _ h=>G7.p h
theorem pz (f k:Nat) (a5:List PV) (hp:List (Nat × bq)) (nx:Nat):(lR E X B).refC f k a5 hp nx=(patch X B (level E (lR E X B))).refC f k a5 hp nx:=
 opt_ext (fun _ h=>G6.r h) fun _ h=>G7.r h
theorem N5:Fix E X (lR E X B):=
 ⟨fun f hf a5=>by rw [pB];simp [patch,hf],fun f hf k a5 hp nx=>by rw [pz];simp [patch,hf]⟩
theorem S6 {q:Qry} (h:X q.fn=true):ask (lR E X B) q=ask B q:=by
 cases q with
 | p f a5=>
  have h':X f=true:=h
  simp only [ask];rw [pB];simp [patch,h']
 | r f k a5 hp nx=>
  have h':X f=true:=h
  simp only [ask];rw [pz];simp [patch,h']
theorem AS (n:Nat):∀ m,m≤n→LE (run E m) (lR E X (run E n))
 | 0,_=>.of (fun f a5 r h=>by simp [run] at h) fun f k a5 hp nx x h=>by simp [run] at h
 | m+1,hm=>by
  have ih:=AS n m (by omega)
  refine .of (fun f a5 r h=>?_) fun f k a5 hp nx x h=>?_
  ·rw [pB]
   simp only [patch]
   cases hx:X f with
   | true=>exact (fC E hm).p h
   | false=>exact ih.level.p h
  ·rw [pz]
   simp only [patch]
   cases hx:X f with
   | true=>exact (fC E hm).r h
   | false=>exact ih.level.r h
end
theorem VV {E:Env} {q:Qry} {x:Ans} (h:ask (lim E) q=some x):∃ n,ask (run E n) q=some x:=by
 cases q with
 | p f a5=>
  simp only [ask,Option.map_eq_some_iff] at h ⊢
  obtain ⟨v,h1,h2⟩:=h
  obtain ⟨n,hn⟩:=qE.1 h1
  exact ⟨n,v,hn,h2⟩
 | r f k a5 hp nx=>exact xY.1 h
theorem xq (E:Env) (q:Qry):ask (level E (lim E)) q=ask (lim E) q:=by
 cases q with
 | p f a5=>simp only [ask];rw [← ya]
 | r f k a5 hp nx=>simp only [ask];rw [← xZ]
open Classical in
theorem ad0 {ι:Type} {A R:ι→Type} {E:Env} {X:Nat→Bool} (tA:∀ i,A i→Qry) (encR:∀ i,A i→R i→Ans) (Body:(∀ i,A i→Option (R i))→∀ i,A i→Option (R i))
  (hX:∀ i a,X (tA i a).fn=true) (hR:∀ i a x y,encR i a x=encR i a y→x=y)
  (walk:∀ (C:Callee) (g:∀ i,A i→Option (R i)),Fix E X C→(∀ i a,ask C (tA i a)=(g i a).map (encR i a))→∀ i a,ask (level E C) (tA i a)=(Body g i a).map (encR i a)) :
  ∃ g:∀ i,A i→Option (R i),(∀ i a,ask (lim E) (tA i a)=(g i a).map (encR i a))∧∀ i a,g i a=Body g i a:=by
 let dec:Callee→∀ i,A i→Option (R i):=fun C i a=>if h:∃ r,ask C (tA i a)=some (encR i a r) then some (Classical.choose h) else none
 have Qt:∀ C,(∀ i a x,ask C (tA i a)=some x→∃ r,x=encR i a r)→∀ i a,ask C (tA i a)=(dec C i a).map (encR i a):=fun C hC i a=>by
  by_cases hx:∃ r,ask C (tA i a)=some (encR i a r)
  ·have h1:=Classical.choose_spec hx
   have:dec C i a=some (Classical.choose hx):=by simp only [dec,hx,↓reduceDIte]
   rw [this];exact h1
  ·have:dec C i a=none:=by simp only [dec,hx,↓reduceDIte]
   rw [this]
   cases ha:ask C (tA i a) with
   | none=>rfl
   | some x=>
    obtain ⟨r,rfl⟩:=hC i a x ha
    exact absurd ⟨r,ha⟩ hx
 have image:∀ n i a x,ask (run E n) (tA i a)=some x→∃ r,x=encR i a r:=fun n=>by
  induction n with
  | zero=>
   intro i a x h
   cases hq:tA i a <;> rw [hq] at h <;> simp [ask,run] at h
  | succ n ih=>
   intro i a x h
   have w:=walk (lR E X (run E n)) (dec (run E n)) N5 (fun i a=>by rw [S6 (hX i a)];exact Qt _ ih i a) i a
   have h1:ask (level E (lR E X (run E n))) (tA i a)=some x:=(AS n n (Nat.le_refl _)).level.ask h
   rw [w] at h1
   cases hb:Body (dec (run E n)) i a with
   | none=>rw [hb] at h1;simp at h1
   | some y=>rw [hb] at h1;simp at h1;exact ⟨y,h1.symm⟩
 have main:=Qt (lim E) fun i a x h=>by
  obtain ⟨n,hn⟩:=VV h
  exact image n i a x hn
 refine ⟨dec (lim E),main,fun i a=>?_⟩
 have w:=walk (lim E) (dec (lim E)) (G4 E X) main i a
 rw [xq,main] at w
 cases hg:dec (lim E) i a with
 | none=>rw [hg] at w;cases hb:Body (dec (lim E)) i a with
  | none=>rfl
  | some y=>rw [hb] at w;simp at w
 | some x=>rw [hg] at w;cases hb:Body (dec (lim E)) i a with
  | none=>rw [hb] at w;simp at w
  | some y=>rw [hb] at w;simp at w;rw [hR i a _ _ w]
end Go.Pm
end
section
set_option linter.all false
noncomputable section
namespace Go.S
open Go Go.Pm Go.Proofs
inductive Ix where | f148 | f101 | f93 | f6 | f99 | f144 | f169 | f170 | f214 | f233 | f234 | f113_r0
def FA:Ix→Type
 | .f148=>Types × Int
 | .f101=>Types × Int
 | .f93=>Types × Int × Int
 | .f6=>Unit
 | .f99=>Condition × Int
 | .f144=>Types × Pattern × Condition
 | .f169=>Condition
 | .f170=>Condition
 | .f214=>Types × Pattern × Condition
 | .f233=>Condition
 | .f234=>Condition
 | .f113_r0=>(List Int) × (List Int) × (List Int) × (List (List Int)) × Int × Int × Int
def FR:Ix→Type
 | .f148=>(List Attr)
 | .f101=>(List Attr)
 | .f93=>Bool
 | .f6=>Bool
 | .f99=>Int
 | .f144=>Int
 | .f169=>Bool
 | .f170=>(Int × Int)
 | .f214=>Int
 | .f233=>Bool
 | .f234=>(Int × Int)
 | .f113_r0=>((List Int) × (List Int) × Bool)
def mkR (g:∀ i,FA i→Option (FR i)):bI:=⟨fun a0 a1=>g .f148 (a0,a1),fun a0 a1=>g .f101 (a0,a1),fun a0 a1 a2=>g .f93 (a0,a1,a2),g .f6 (),fun a0 a1=>g .f99 (a0,a1),fun a0 a1 a2=>g .f144 (a0,a1,a2),fun a0=>g .f169 (a0),fun a0=>g .f170 (a0),fun a0 a1 a2=>g .f214 (a0,a1,a2),fun a0=>g .f233 (a0),fun a0=>g .f234 (a0),fun a0 a1 a2 a3 a4 a5 a6=>g .f113_r0 (a0,a1,a2,a3,a4,a5,a6)⟩
def eP:∀ i,FA i→Qry
 | .f148,x=>.p 148 [PV.agg [PV.lit (rows x.1.Nodes) fl0,PV.lit (rows x.1.Edges) fl0],PV.int IntKind.i64 x.2]
 | .f101,x=>.p 101 [PV.agg [PV.lit (rows x.1.Nodes) fl0,PV.lit (rows x.1.Edges) fl0],PV.int IntKind.i64 x.2]
 | .f93,x=>.p 93 [PV.agg [PV.lit (rows x.1.Nodes) fl0,PV.lit (rows x.1.Edges) fl0],PV.int IntKind.i64 x.2.1,PV.int IntKind.i64 x.2.2]
 | .f6,_=>.p 6 []
 | .f99,x=>.p 99 [PV.agg [PV.int IntKind.i64 x.1.Kind,PV.lit (rows x.1.Kids) fl0,PV.lit (rows x.1.Map.Nodes) fl0,PV.lit (rows x.1.Map.Edges) fl0,PV.lit (rows x.1.Pattern.Graph.Nodes) fl0,PV.lit (rows x.1.Pattern.Graph.Edges) fl0,PV.lit (rows x.1.Pattern.Slots) fl0,PV.int IntKind.i64 x.1.Pattern.Vars,PV.lit (rows x.1.Pattern.Tests) fl0],PV.int IntKind.i64 x.2]
 | .f144,x=>.p 144 [PV.agg [PV.lit (rows x.1.Nodes) fl0,PV.lit (rows x.1.Edges) fl0],PV.agg [PV.lit (rows x.2.1.Graph.Nodes) fl0,PV.lit (rows x.2.1.Graph.Edges) fl0,PV.lit (rows x.2.1.Slots) fl0,PV.int IntKind.i64 x.2.1.Vars,PV.lit (rows x.2.1.Tests) fl0],PV.agg [PV.int IntKind.i64 x.2.2.Kind,PV.lit (rows x.2.2.Kids) fl0,PV.lit (rows x.2.2.Map.Nodes) fl0,PV.lit (rows x.2.2.Map.Edges) fl0,PV.lit (rows x.2.2.Pattern.Graph.Nodes) fl0,PV.lit (rows x.2.2.Pattern.Graph.Edges) fl0,PV.lit (rows x.2.2.Pattern.Slots) fl0,PV.int IntKind.i64 x.2.2.Pattern.Vars,PV.lit (rows x.2.2.Pattern.Tests) fl0]]
 | .f169,x=>.p 169 [PV.agg [PV.int IntKind.i64 x.Kind,PV.lit (rows x.Kids) fl0,PV.lit (rows x.Map.Nodes) fl0,PV.lit (rows x.Map.Edges) fl0,PV.lit (rows x.Pattern.Graph.Nodes) fl0,PV.lit (rows x.Pattern.Graph.Edges) fl0,PV.lit (rows x.Pattern.Slots) fl0,PV.int IntKind.i64 x.Pattern.Vars,PV.lit (rows x.Pattern.Tests) fl0]]
 | .f170,x=>.p 170 [PV.agg [PV.int IntKind.i64 x.Kind,PV.lit (rows x.Kids) fl0,PV.lit (rows x.Map.Nodes) fl0,PV.lit (rows x.Map.Edges) fl0,PV.lit (rows x.Pattern.Graph.Nodes) fl0,PV.lit (rows x.Pattern.Graph.Edges) fl0,PV.lit (rows x.Pattern.Slots) fl0,PV.int IntKind.i64 x.Pattern.Vars,PV.lit (rows x.Pattern.Tests) fl0]]
 | .f214,x=>.p 214 [PV.agg [PV.lit (rows x.1.Nodes) fl0,PV.lit (rows x.1.Edges) fl0],PV.agg [PV.lit (rows x.2.1.Graph.Nodes) fl0,PV.lit (rows x.2.1.Graph.Edges) fl0,PV.lit (rows x.2.1.Slots) fl0,PV.int IntKind.i64 x.2.1.Vars,PV.lit (rows x.2.1.Tests) fl0],PV.agg [PV.int IntKind.i64 x.2.2.Kind,PV.lit (rows x.2.2.Kids) fl0,PV.lit (rows x.2.2.Map.Nodes) fl0,PV.lit (rows x.2.2.Map.Edges) fl0,PV.lit (rows x.2.2.Pattern.Graph.Nodes) fl0,PV.lit (rows x.2.2.Pattern.Graph.Edges) fl0,PV.lit (rows x.2.2.Pattern.Slots) fl0,PV.int IntKind.i64 x.2.2.Pattern.Vars,PV.lit (rows x.2.2.Pattern.Tests) fl0]]
 | .f233,x=>.p 233 [PV.agg [PV.int IntKind.i64 x.Kind,PV.lit (rows x.Kids) fl0,PV.lit (rows x.Map.Nodes) fl0,PV.lit (rows x.Map.Edges) fl0,PV.lit (rows x.Pattern.Graph.Nodes) fl0,PV.lit (rows x.Pattern.Graph.Edges) fl0,PV.lit (rows x.Pattern.Slots) fl0,PV.int IntKind.i64 x.Pattern.Vars,PV.lit (rows x.Pattern.Tests) fl0]]
 | .f234,x=>.p 234 [PV.agg [PV.int IntKind.i64 x.Kind,PV.lit (rows x.Kids) fl0,PV.lit (rows x.Map.Nodes) fl0,PV.lit (rows x.Map.Edges) fl0,PV.lit (rows x.Pattern.Graph.Nodes) fl0,PV.lit (rows x.Pattern.Graph.Edges) fl0,PV.lit (rows x.Pattern.Slots) fl0,PV.int IntKind.i64 x.Pattern.Vars,PV.lit (rows x.Pattern.Tests) fl0]]
 | .f113_r0,x=>.r 113 7 [PV.int IntKind.i64 x.2.2.2.2.1,PV.int IntKind.i64 x.2.2.2.2.2.1,(PV.ptr 0 0),(PV.ptr 1 0),(PV.ptr 2 0),(PV.ptr 3 0)] [(0,Go.Pm.bq.box [PV.int IntKind.i64 x.2.2.2.2.2.2]),(1,Go.Pm.bq.box [PV.fn 76 [((PV.ptr 4 0)),((PV.ptr 5 0)),((PV.ptr 6 0))]]),(2,Go.Pm.bq.box [PV.own 7 1 0 (List.length x.1)]),(3,Go.Pm.bq.box [PV.fn 113 [((PV.ptr 0 0)),((PV.ptr 1 0)),((PV.ptr 2 0)),((PV.ptr 3 0))]]),(4,Go.Pm.bq.box [PV.own 8 1 0 (List.length x.2.1)]),(5,Go.Pm.bq.box [PV.own 9 1 0 (List.length x.2.2.1)]),(6,Go.Pm.bq.box [PV.own 10 1 0 (List.length x.2.2.2.1)]),(7,Go.Pm.bq.arr 1 (rows x.1) Bool.false Bool.false),(8,Go.Pm.bq.arr 1 (rows x.2.1) Bool.false Bool.false),(9,Go.Pm.bq.arr 1 (rows x.2.2.1) Bool.false Bool.false),(10,Go.Pm.bq.arr 1 (rows x.2.2.2.1) Bool.false Bool.false)] 11
def dA:∀ i,FA i→FR i→Ans
 | .f148,_,r=>((fun r=>PV.lit (rows r) ⟨true,false⟩) r,[],0)
 | .f101,_,r=>((fun r=>PV.lit (rows r) ⟨true,false⟩) r,[],0)
 | .f93,_,r=>((fun r=>PV.bool r) r,[],0)
 | .f6,_,r=>((fun r=>PV.bool r) r,[],0)
 | .f99,_,r=>((fun r=>PV.int IntKind.i64 r) r,[],0)
 | .f144,_,r=>((fun r=>PV.int IntKind.i64 r) r,[],0)
 | .f169,_,r=>((fun r=>PV.bool r) r,[],0)
 | .f170,_,r=>((fun r=>PV.tup [PV.int IntKind.i64 r.1,PV.int IntKind.i64 r.2]) r,[],0)
 | .f214,_,r=>((fun r=>PV.int IntKind.i64 r) r,[],0)
 | .f233,_,r=>((fun r=>PV.bool r) r,[],0)
 | .f234,_,r=>((fun r=>PV.tup [PV.int IntKind.i64 r.1,PV.int IntKind.i64 r.2]) r,[],0)
 | .f113_r0,x,r=>(fun r=>(PV.bool r.2.2,[(0,Go.Pm.bq.box [PV.int IntKind.i64 x.2.2.2.2.2.2]),(1,Go.Pm.bq.box [PV.fn 76 [((PV.ptr 4 0)),((PV.ptr 5 0)),((PV.ptr 6 0))]]),(2,Go.Pm.bq.box [PV.own 7 1 0 (List.length r.1)]),(3,Go.Pm.bq.box [PV.fn 113 [((PV.ptr 0 0)),((PV.ptr 1 0)),((PV.ptr 2 0)),((PV.ptr 3 0))]]),(4,Go.Pm.bq.box [PV.own 8 1 0 (List.length x.2.1)]),(5,Go.Pm.bq.box [PV.own 9 1 0 (List.length r.2.1)]),(6,Go.Pm.bq.box [PV.own 10 1 0 (List.length x.2.2.2.1)]),(7,Go.Pm.bq.arr 1 (rows r.1) Bool.false Bool.false),(8,Go.Pm.bq.arr 1 (rows x.2.1) Bool.false Bool.false),(9,Go.Pm.bq.arr 1 (rows r.2.1) Bool.false Bool.false),(10,Go.Pm.bq.arr 1 (rows x.2.2.2.1) Bool.false Bool.false)],11)) r
def Bd (g:∀ i,FA i→Option (FR i)):∀ i,FA i→Option (FR i)
 | .f148,x=>kj (mkR g) (x.1) (x.2)
 | .f101,x=>ky (mkR g) (x.1) (x.2)
 | .f93,x=>oS (mkR g) (x.1) (x.2.1) (x.2.2)
 | .f6,x=>some true
 | .f99,x=>Ea (mkR g) (x.1) (x.2)
 | .f144,x=>wy (mkR g) (x.1) (x.2.1) (x.2.2)
 | .f169,x=>wv (mkR g) x
 | .f170,x=>wu (mkR g) x
 | .f214,x=>wo (mkR g) (x.1) (x.2.1) (x.2.2)
 | .f233,x=>wm (mkR g) x
 | .f234,x=>wk (mkR g) x
 | .f113_r0,x=>fL (mkR g) (x.1) (x.2.1) (x.2.2.1) (x.2.2.2.1) (x.2.2.2.2.1) (x.2.2.2.2.2.1) (x.2.2.2.2.2.2)
theorem ox {α:Type} {o:Option PV} {p:Option α} {enc:α→PV} (h:(o.map fun v=>((v,[],0):Ans))=p.map fun r=>(enc r,[],0)):o=p.map enc:=by
 cases o with
 | none=>cases p with
  | none=>rfl
  | some y=>simp at h
 | some x=>cases p with
  | none=>simp at h
  | some y=>simp at h;simp [h]
theorem ow {α:Type} {o:Option PV} {p:Option α} {enc:α→PV} (h:o=p.map enc):(o.map fun v=>((v,[],0):Ans))=p.map fun r=>(enc r,[],0):=by
 subst h;cases p <;> rfl
theorem hX:∀ i a,isRec (eP i a).fn=true:=fun i a=>by cases i <;> rfl
theorem anv:∀ i x a b,dA i x a=dA i x b→a=b:=fun i x a b h=>by
 cases i
 ·change (List Attr) at a b
  simp only [dA,Prod.mk.injEq,PV.int.injEq,PV.bool.injEq,PV.str.injEq,PV.lit.injEq,PV.tup.injEq,PV.agg.injEq,bq.arr.injEq,bq.box.injEq,PV.own.injEq,List.cons.injEq,bY,and_true,true_and] at h
  first | exact h | exact Prod.ext h.1 h.2 | (obtain ⟨h1,_,_,h2,h3⟩:=h;exact Prod.ext h2 (Prod.ext h3 h1)) | (obtain ⟨_,_⟩:=a;obtain ⟨_,_⟩:=b;simp_all) | (ext <;> simp_all) | simp_all
 ·change (List Attr) at a b
  simp only [dA,Prod.mk.injEq,PV.int.injEq,PV.bool.injEq,PV.str.injEq,PV.lit.injEq,PV.tup.injEq,PV.agg.injEq,bq.arr.injEq,bq.box.injEq,PV.own.injEq,List.cons.injEq,bY,and_true,true_and] at h
  first | exact h | exact Prod.ext h.1 h.2 | (obtain ⟨h1,_,_,h2,h3⟩:=h;exact Prod.ext h2 (Prod.ext h3 h1)) | (obtain ⟨_,_⟩:=a;obtain ⟨_,_⟩:=b;simp_all) | (ext <;> simp_all) | simp_all
 ·change Bool at a b
  simp only [dA,Prod.mk.injEq,PV.int.injEq,PV.bool.injEq,PV.str.injEq,PV.lit.injEq,PV.tup.injEq,PV.agg.injEq,bq.arr.injEq,bq.box.injEq,PV.own.injEq,List.cons.injEq,bY,and_true,true_and] at h
  first | exact h | exact Prod.ext h.1 h.2 | (obtain ⟨h1,_,_,h2,h3⟩:=h;exact Prod.ext h2 (Prod.ext h3 h1)) | (obtain ⟨_,_⟩:=a;obtain ⟨_,_⟩:=b;simp_all) | (ext <;> simp_all) | simp_all
 ·change Bool at a b
  simp only [dA,Prod.mk.injEq,PV.int.injEq,PV.bool.injEq,PV.str.injEq,PV.lit.injEq,PV.tup.injEq,PV.agg.injEq,bq.arr.injEq,bq.box.injEq,PV.own.injEq,List.cons.injEq,bY,and_true,true_and] at h
  first | exact h | exact Prod.ext h.1 h.2 | (obtain ⟨h1,_,_,h2,h3⟩:=h;exact Prod.ext h2 (Prod.ext h3 h1)) | (obtain ⟨_,_⟩:=a;obtain ⟨_,_⟩:=b;simp_all) | (ext <;> simp_all) | simp_all
 ·change Int at a b
  simp only [dA,Prod.mk.injEq,PV.int.injEq,PV.bool.injEq,PV.str.injEq,PV.lit.injEq,PV.tup.injEq,PV.agg.injEq,bq.arr.injEq,bq.box.injEq,PV.own.injEq,List.cons.injEq,bY,and_true,true_and] at h
  first | exact h | exact Prod.ext h.1 h.2 | (obtain ⟨h1,_,_,h2,h3⟩:=h;exact Prod.ext h2 (Prod.ext h3 h1)) | (obtain ⟨_,_⟩:=a;obtain ⟨_,_⟩:=b;simp_all) | (ext <;> simp_all) | simp_all
 ·change Int at a b
  simp only [dA,Prod.mk.injEq,PV.int.injEq,PV.bool.injEq,PV.str.injEq,PV.lit.injEq,PV.tup.injEq,PV.agg.injEq,bq.arr.injEq,bq.box.injEq,PV.own.injEq,List.cons.injEq,bY,and_true,true_and] at h
  first | exact h | exact Prod.ext h.1 h.2 | (obtain ⟨h1,_,_,h2,h3⟩:=h;exact Prod.ext h2 (Prod.ext h3 h1)) | (obtain ⟨_,_⟩:=a;obtain ⟨_,_⟩:=b;simp_all) | (ext <;> simp_all) | simp_all
 ·change Bool at a b
  simp only [dA,Prod.mk.injEq,PV.int.injEq,PV.bool.injEq,PV.str.injEq,PV.lit.injEq,PV.tup.injEq,PV.agg.injEq,bq.arr.injEq,bq.box.injEq,PV.own.injEq,List.cons.injEq,bY,and_true,true_and] at h
  first | exact h | exact Prod.ext h.1 h.2 | (obtain ⟨h1,_,_,h2,h3⟩:=h;exact Prod.ext h2 (Prod.ext h3 h1)) | (obtain ⟨_,_⟩:=a;obtain ⟨_,_⟩:=b;simp_all) | (ext <;> simp_all) | simp_all
 ·change (Int × Int) at a b
  simp only [dA,Prod.mk.injEq,PV.int.injEq,PV.bool.injEq,PV.str.injEq,PV.lit.injEq,PV.tup.injEq,PV.agg.injEq,bq.arr.injEq,bq.box.injEq,PV.own.injEq,List.cons.injEq,bY,and_true,true_and] at h
  first | exact h | exact Prod.ext h.1 h.2 | (obtain ⟨h1,_,_,h2,h3⟩:=h;exact Prod.ext h2 (Prod.ext h3 h1)) | (obtain ⟨_,_⟩:=a;obtain ⟨_,_⟩:=b;simp_all) | (ext <;> simp_all) | simp_all
 ·change Int at a b
  simp only [dA,Prod.mk.injEq,PV.int.injEq,PV.bool.injEq,PV.str.injEq,PV.lit.injEq,PV.tup.injEq,PV.agg.injEq,bq.arr.injEq,bq.box.injEq,PV.own.injEq,List.cons.injEq,bY,and_true,true_and] at h
  first | exact h | exact Prod.ext h.1 h.2 | (obtain ⟨h1,_,_,h2,h3⟩:=h;exact Prod.ext h2 (Prod.ext h3 h1)) | (obtain ⟨_,_⟩:=a;obtain ⟨_,_⟩:=b;simp_all) | (ext <;> simp_all) | simp_all
 ·change Bool at a b
  simp only [dA,Prod.mk.injEq,PV.int.injEq,PV.bool.injEq,PV.str.injEq,PV.lit.injEq,PV.tup.injEq,PV.agg.injEq,bq.arr.injEq,bq.box.injEq,PV.own.injEq,List.cons.injEq,bY,and_true,true_and] at h
  first | exact h | exact Prod.ext h.1 h.2 | (obtain ⟨h1,_,_,h2,h3⟩:=h;exact Prod.ext h2 (Prod.ext h3 h1)) | (obtain ⟨_,_⟩:=a;obtain ⟨_,_⟩:=b;simp_all) | (ext <;> simp_all) | simp_all
 ·change (Int × Int) at a b
  simp only [dA,Prod.mk.injEq,PV.int.injEq,PV.bool.injEq,PV.str.injEq,PV.lit.injEq,PV.tup.injEq,PV.agg.injEq,bq.arr.injEq,bq.box.injEq,PV.own.injEq,List.cons.injEq,bY,and_true,true_and] at h
  first | exact h | exact Prod.ext h.1 h.2 | (obtain ⟨h1,_,_,h2,h3⟩:=h;exact Prod.ext h2 (Prod.ext h3 h1)) | (obtain ⟨_,_⟩:=a;obtain ⟨_,_⟩:=b;simp_all) | (ext <;> simp_all) | simp_all
 ·change ((List Int) × (List Int) × Bool) at a b
  simp only [dA,Prod.mk.injEq,PV.int.injEq,PV.bool.injEq,PV.str.injEq,PV.lit.injEq,PV.tup.injEq,PV.agg.injEq,bq.arr.injEq,bq.box.injEq,PV.own.injEq,List.cons.injEq,bY,and_true,true_and] at h
  first | exact h | exact Prod.ext h.1 h.2 | (obtain ⟨h1,_,_,h2,h3⟩:=h;exact Prod.ext h2 (Prod.ext h3 h1)) | (obtain ⟨_,_⟩:=a;obtain ⟨_,_⟩:=b;simp_all) | (ext <;> simp_all) | simp_all
theorem key (C:Pm.Callee) (g:∀ i,FA i→Option (FR i)) (h:∀ i a,Go.Pm.ask C (eP i a)=(g i a).map (dA i a)):Rb C (mkR g):=
 ⟨(fun t_Nodes t_Edges a=>ox (h .f148 ((Types.mk t_Nodes t_Edges),a))),
  (fun t_Nodes t_Edges a=>ox (h .f101 ((Types.mk t_Nodes t_Edges),a))),
  (fun t_Nodes t_Edges a b=>ox (h .f93 ((Types.mk t_Nodes t_Edges),a,b))),
  (ox (h .f6 ())),
  (fun bz br aM aN ah ai aB aF aA most=>ox (h .f99 ((Condition.mk bz br (aQ.mk aM aN) (Pattern.mk (Graph.mk ah ai) aB aF aA)),most))),
  (fun t_Nodes t_Edges bc bd bC bK bF bz br aM aN ah ai aB aF aA=>ox (h .f144 ((Types.mk t_Nodes t_Edges),(Pattern.mk (Graph.mk bc bd) bC bK bF),(Condition.mk bz br (aQ.mk aM aN) (Pattern.mk (Graph.mk ah ai) aB aF aA))))),
  (fun bz br aM aN ah ai aB aF aA=>ox (h .f169 ((Condition.mk bz br (aQ.mk aM aN) (Pattern.mk (Graph.mk ah ai) aB aF aA))))),
  (fun bz br aM aN ah ai aB aF aA=>ox (h .f170 ((Condition.mk bz br (aQ.mk aM aN) (Pattern.mk (Graph.mk ah ai) aB aF aA))))),
  (fun t_Nodes t_Edges bc bd bC bK bF bz br aM aN ah ai aB aF aA=>ox (h .f214 ((Types.mk t_Nodes t_Edges),(Pattern.mk (Graph.mk bc bd) bC bK bF),(Condition.mk bz br (aQ.mk aM aN) (Pattern.mk (Graph.mk ah ai) aB aF aA))))),
  (fun bz br aM aN ah ai aB aF aA=>ox (h .f233 ((Condition.mk bz br (aQ.mk aM aN) (Pattern.mk (Graph.mk ah ai) aB aF aA))))),
  (fun bz br aM aN ah ai aB aF aA=>ox (h .f234 ((Condition.mk bz br (aQ.mk aM aN) (Pattern.mk (Graph.mk ah ai) aB aF aA))))),
  (fun iG eu jt dn fc dj fm rK rJ rI oF zO zN zM tJ=>by subst zO;subst zN;subst zM;subst tJ;exact h .f113_r0 (iG,eu,jt,dn,fc,dj,fm))⟩
def pA:List PV→Option PV:=fun ls=>match ls with | []=>some (.bool true) | _=>none
def EA:Env:=cY E 6 pA
theorem leA:Pm.LE (lim EA) (lim E):=withP_le fun ls r h=>by
 unfold pA at h;split at h
 ·simp at h;subst h;exact FP
 ·simp at h
theorem pE (C:Pm.Callee) {f:Nat} (hf:f≠6) (ls:List PV):(level EA C).pureC f ls=(level E C).pureC f ls:=nk (E:=E) (F:=6) (p:=pA) hf ls
theorem rE (C:Pm.Callee) (f k:Nat) (ls:List PV) (hp:List (Nat × bq)) (nx:Nat):(level EA C).refC f k ls hp nx=(level E C).refC f k ls hp nx:=kB (E:=E) (F:=6) (p:=pA) f k ls hp nx
theorem aay (C:Pm.Callee) (g:∀ i,FA i→Option (FR i)) (hC:Fix EA isRec C) (h:∀ i a,Go.Pm.ask C (eP i a)=(g i a).map (dA i a)) (a:FA .f148):Go.Pm.ask (level EA C) (eP .f148 a)=(Bd g .f148 a).map (dA .f148 a):=by
 obtain ⟨⟨t_Nodes,t_Edges⟩,a⟩:=a
 simp only [eP,dA,Bd]
 exact ow (α:=(List Attr)) (enc:=(fun r=>PV.lit (rows r) ⟨true,false⟩)) ((pE C (by decide) _).trans (P3 ⟨hC.cY rfl,key C g h⟩ t_Nodes t_Edges a))
theorem aaA (C:Pm.Callee) (g:∀ i,FA i→Option (FR i)) (hC:Fix EA isRec C) (h:∀ i a,Go.Pm.ask C (eP i a)=(g i a).map (dA i a)) (a:FA .f101):Go.Pm.ask (level EA C) (eP .f101 a)=(Bd g .f101 a).map (dA .f101 a):=by
 obtain ⟨⟨t_Nodes,t_Edges⟩,a⟩:=a
 simp only [eP,dA,Bd]
 exact ow (α:=(List Attr)) (enc:=(fun r=>PV.lit (rows r) ⟨true,false⟩)) ((pE C (by decide) _).trans (P9 ⟨hC.cY rfl,key C g h⟩ t_Nodes t_Edges a))
theorem afR (C:Pm.Callee) (g:∀ i,FA i→Option (FR i)) (hC:Fix EA isRec C) (h:∀ i a,Go.Pm.ask C (eP i a)=(g i a).map (dA i a)) (a:FA .f93):Go.Pm.ask (level EA C) (eP .f93 a)=(Bd g .f93 a).map (dA .f93 a):=by
 obtain ⟨⟨t_Nodes,t_Edges⟩,a,b⟩:=a
 simp only [eP,dA,Bd]
 exact ow (α:=Bool) (enc:=(fun r=>PV.bool r)) ((pE C (by decide) _).trans (Ue ⟨hC.cY rfl,key C g h⟩ t_Nodes t_Edges a b))
theorem w_f6 (C:Pm.Callee) (g:∀ i,FA i→Option (FR i)) (hC:Fix EA isRec C) (h:∀ i a,Go.Pm.ask C (eP i a)=(g i a).map (dA i a)) (a:FA .f6):Go.Pm.ask (level EA C) (eP .f6 a)=(Bd g .f6 a).map (dA .f6 a):=ow (α:=Bool) (p:=some true) (enc:=fun r=>.bool r) ((ud (E:=E) (F:=6) (p:=pA) (C:=C) []).trans rfl)
theorem afQ (C:Pm.Callee) (g:∀ i,FA i→Option (FR i)) (hC:Fix EA isRec C) (h:∀ i a,Go.Pm.ask C (eP i a)=(g i a).map (dA i a)) (a:FA .f99):Go.Pm.ask (level EA C) (eP .f99 a)=(Bd g .f99 a).map (dA .f99 a):=by
 obtain ⟨⟨bz,br,⟨aM,aN⟩,⟨⟨ah,ai⟩,aB,aF,aA⟩⟩,most⟩:=a
 simp only [eP,dA,Bd]
 exact ow (α:=Int) (enc:=(fun r=>PV.int IntKind.i64 r)) ((pE C (by decide) _).trans (Ud ⟨hC.cY rfl,key C g h⟩ bz br aM aN ah ai aB aF aA most))
theorem aaz (C:Pm.Callee) (g:∀ i,FA i→Option (FR i)) (hC:Fix EA isRec C) (h:∀ i a,Go.Pm.ask C (eP i a)=(g i a).map (dA i a)) (a:FA .f144):Go.Pm.ask (level EA C) (eP .f144 a)=(Bd g .f144 a).map (dA .f144 a):=by
 obtain ⟨⟨t_Nodes,t_Edges⟩,⟨⟨bc,bd⟩,bC,bK,bF⟩,⟨bz,br,⟨aM,aN⟩,⟨⟨ah,ai⟩,aB,aF,aA⟩⟩⟩:=a
 simp only [eP,dA,Bd]
 exact ow (α:=Int) (enc:=(fun r=>PV.int IntKind.i64 r)) ((pE C (by decide) _).trans (P4 ⟨hC.cY rfl,key C g h⟩ t_Nodes t_Edges bc bd bC bK bF bz br aM aN ah ai aB aF aA))
theorem aax (C:Pm.Callee) (g:∀ i,FA i→Option (FR i)) (hC:Fix EA isRec C) (h:∀ i a,Go.Pm.ask C (eP i a)=(g i a).map (dA i a)) (a:FA .f169):Go.Pm.ask (level EA C) (eP .f169 a)=(Bd g .f169 a).map (dA .f169 a):=by
 obtain ⟨bz,br,⟨aM,aN⟩,⟨⟨ah,ai⟩,aB,aF,aA⟩⟩:=a
 simp only [eP,dA,Bd]
 exact ow (α:=Bool) (enc:=(fun r=>PV.bool r)) ((pE C (by decide) _).trans (PZ ⟨hC.cY rfl,key C g h⟩ bz br aM aN ah ai aB aF aA))
theorem aaw (C:Pm.Callee) (g:∀ i,FA i→Option (FR i)) (hC:Fix EA isRec C) (h:∀ i a,Go.Pm.ask C (eP i a)=(g i a).map (dA i a)) (a:FA .f170):Go.Pm.ask (level EA C) (eP .f170 a)=(Bd g .f170 a).map (dA .f170 a):=by
 obtain ⟨bz,br,⟨aM,aN⟩,⟨⟨ah,ai⟩,aB,aF,aA⟩⟩:=a
 simp only [eP,dA,Bd]
 exact ow (α:=(Int × Int)) (enc:=(fun r=>PV.tup [PV.int IntKind.i64 r.1,PV.int IntKind.i64 r.2])) ((pE C (by decide) _).trans (PY ⟨hC.cY rfl,key C g h⟩ bz br aM aN ah ai aB aF aA))
theorem aav (C:Pm.Callee) (g:∀ i,FA i→Option (FR i)) (hC:Fix EA isRec C) (h:∀ i a,Go.Pm.ask C (eP i a)=(g i a).map (dA i a)) (a:FA .f214):Go.Pm.ask (level EA C) (eP .f214 a)=(Bd g .f214 a).map (dA .f214 a):=by
 obtain ⟨⟨t_Nodes,t_Edges⟩,⟨⟨bc,bd⟩,bC,bK,bF⟩,⟨bz,br,⟨aM,aN⟩,⟨⟨ah,ai⟩,aB,aF,aA⟩⟩⟩:=a
 simp only [eP,dA,Bd]
 exact ow (α:=Int) (enc:=(fun r=>PV.int IntKind.i64 r)) ((pE C (by decide) _).trans (PT ⟨hC.cY rfl,key C g h⟩ t_Nodes t_Edges bc bd bC bK bF bz br aM aN ah ai aB aF aA))
theorem aau (C:Pm.Callee) (g:∀ i,FA i→Option (FR i)) (hC:Fix EA isRec C) (h:∀ i a,Go.Pm.ask C (eP i a)=(g i a).map (dA i a)) (a:FA .f233):Go.Pm.ask (level EA C) (eP .f233 a)=(Bd g .f233 a).map (dA .f233 a):=by
 obtain ⟨bz,br,⟨aM,aN⟩,⟨⟨ah,ai⟩,aB,aF,aA⟩⟩:=a
 simp only [eP,dA,Bd]
 exact ow (α:=Bool) (enc:=(fun r=>PV.bool r)) ((pE C (by decide) _).trans (PO ⟨hC.cY rfl,key C g h⟩ bz br aM aN ah ai aB aF aA))
theorem aat (C:Pm.Callee) (g:∀ i,FA i→Option (FR i)) (hC:Fix EA isRec C) (h:∀ i a,Go.Pm.ask C (eP i a)=(g i a).map (dA i a)) (a:FA .f234):Go.Pm.ask (level EA C) (eP .f234 a)=(Bd g .f234 a).map (dA .f234 a):=by
 obtain ⟨bz,br,⟨aM,aN⟩,⟨⟨ah,ai⟩,aB,aF,aA⟩⟩:=a
 simp only [eP,dA,Bd]
 exact ow (α:=(Int × Int)) (enc:=(fun r=>PV.tup [PV.int IntKind.i64 r.1,PV.int IntKind.i64 r.2])) ((pE C (by decide) _).trans (PN ⟨hC.cY rfl,key C g h⟩ bz br aM aN ah ai aB aF aA))
theorem I4 (C:Pm.Callee) (g:∀ i,FA i→Option (FR i)) (hC:Fix EA isRec C) (h:∀ i a,Go.Pm.ask C (eP i a)=(g i a).map (dA i a)) (a:FA .f113_r0):Go.Pm.ask (level EA C) (eP .f113_r0 a)=(Bd g .f113_r0 a).map (dA .f113_r0 a):=by
 obtain ⟨iG,eu,jt,dn,fc,dj,fm⟩:=a
 exact (rE C _ _ _ _ _).trans (Ce ⟨hC.cY rfl,key C g h⟩ iG eu jt dn fc dj fm _ _ _ _ rfl rfl rfl rfl)
theorem afP (C:Pm.Callee) (g:∀ i,FA i→Option (FR i)) (hC:Fix EA isRec C) (h:∀ i a,Go.Pm.ask C (eP i a)=(g i a).map (dA i a)):∀ i a,Go.Pm.ask (level EA C) (eP i a)=(Bd g i a).map (dA i a)
 | .f148,a=>aay C g hC h a
 | .f101,a=>aaA C g hC h a
 | .f93,a=>afR C g hC h a
 | .f6,a=>w_f6 C g hC h a
 | .f99,a=>afQ C g hC h a
 | .f144,a=>aaz C g hC h a
 | .f169,a=>aax C g hC h a
 | .f170,a=>aaw C g hC h a
 | .f214,a=>aav C g hC h a
 | .f233,a=>aau C g hC h a
 | .f234,a=>aat C g hC h a
 | .f113_r0,a=>I4 C g hC h a
theorem Sw:∃ (R:bI) (C:Pm.Callee),Fix E isRec C∧Rb C R∧Pm.LE C (lim E)∧(∀ a0 a1,R.f148 a0 a1=kj R a0 a1)∧(∀ a0 a1,R.f101 a0 a1=ky R a0 a1)∧(∀ a0 a1 a2,R.f93 a0 a1 a2=oS R a0 a1 a2)∧R.f6=some true∧(∀ a0 a1,R.f99 a0 a1=Ea R a0 a1)∧(∀ a0 a1 a2,R.f144 a0 a1 a2=wy R a0 a1 a2)∧(∀ a0,R.f169 a0=wv R a0)∧(∀ a0,R.f170 a0=wu R a0)∧(∀ a0 a1 a2,R.f214 a0 a1 a2=wo R a0 a1 a2)∧(∀ a0,R.f233 a0=wm R a0)∧(∀ a0,R.f234 a0=wk R a0)∧(∀ a0 a1 a2 a3 a4 a5 a6,R.f113_r0 a0 a1 a2 a3 a4 a5 a6=fL R a0 a1 a2 a3 a4 a5 a6):=by
 obtain ⟨g,h,hb⟩:=ad0 (E:=EA) (X:=isRec) eP dA Bd hX anv afP
 exact ⟨mkR g,lim EA,(G4 EA isRec).cY rfl,key _ g h,leA,fun a0 a1=>hb .f148 (a0,a1),fun a0 a1=>hb .f101 (a0,a1),fun a0 a1 a2=>hb .f93 (a0,a1,a2),hb .f6 (),fun a0 a1=>hb .f99 (a0,a1),fun a0 a1 a2=>hb .f144 (a0,a1,a2),fun a0=>hb .f169 (a0),fun a0=>hb .f170 (a0),fun a0 a1 a2=>hb .f214 (a0,a1,a2),fun a0=>hb .f233 (a0),fun a0=>hb .f234 (a0),fun a0 a1 a2 a3 a4 a5 a6=>hb .f113_r0 (a0,a1,a2,a3,a4,a5,a6)⟩
end Go.S
end
