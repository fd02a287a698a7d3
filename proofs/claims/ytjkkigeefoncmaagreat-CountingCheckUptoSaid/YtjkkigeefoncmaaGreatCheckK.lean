import Derived.Test.YtjkkigeefoncmaaGreatCheckC
import Derived.Test.YtjkkigeefoncmaaGreatCheckD
import Derived.KernelRfl
set_option linter.all false
section
set_option linter.unusedVariables false
set_option linter.unusedSimpArgs false
namespace Go.Pm
open Go
mutual
def pvB:PV→PV→Bool
 | .bool a,.bool b=>a == b
 | .int k a,.int k' b=>decide (k=k')&&a == b
 | .str a,.str b=>a.data.toList == b.data.toList
 | .bp,.bp=>true
 | .eH,.eH=>true
 | .cX,.cX=>true
 | .lit xs ⟨u,f⟩,.lit ys ⟨u',f'⟩=>(u == u')&&((f == f')&&uK xs ys)
 | .agg xs,.agg ys=>pb xs ys
 | .tup xs,.tup ys=>pb xs ys
 | .fn f cs,.fn g ds=>(f == g)&&pb cs ds
 | .bL xs i o,.bL ys j p=>(i == j)&&((o == p)&&uK xs ys)
 | _,_=>false
def pb:List PV→List PV→Bool
 | [],[]=>true
 | x::xs,y::ys=>pvB x y&&pb xs ys
 | _,_=>false
def uK:List (List PV)→List (List PV)→Bool
 | [],[]=>true
 | x::xs,y::ys=>pb x y&&uK xs ys
 | _,_=>false
end
mutual
theorem Np:∀ a b:PV,pvB a b=true→a=b
 | .bool a,b,h=>by cases b <;> simp [pvB] at h;rw [h]
 | .int k a,b,h=>by cases b <;> simp [pvB] at h;rw [h.1,h.2]
 | .str a,b,h=>by
  cases b <;> simp only [pvB,Bool.false_eq_true] at h
  have:=Array.toList_inj.1 (beq_iff_eq.1 h)
  rw [ByteArray.ext this]
 | .bp,b,h=>by cases b <;> simp [pvB] at h;rfl
 | .eH,b,h=>by cases b <;> simp [pvB] at h;rfl
 | .cX,b,h=>by cases b <;> simp [pvB] at h;rfl
 | .lit xs fl,b,h=>by
  obtain ⟨u,f⟩:=fl
  cases b with
  | lit ys fl'=>
   obtain ⟨u',f'⟩:=fl'
   simp only [pvB,Bool.and_eq_true,beq_iff_eq] at h
   rw [h.1,h.2.1,uJ xs ys h.2.2]
  | _=>simp [pvB] at h
 | .agg xs,b,h=>by
  cases b with
  | agg ys=>simp only [pvB] at h;rw [kY xs ys h]
  | _=>simp [pvB] at h
 | .tup xs,b,h=>by
  cases b with
  | tup ys=>simp only [pvB] at h;rw [kY xs ys h]
  | _=>simp [pvB] at h
 | .fn f cs,b,h=>by
  cases b with
  | fn g ds=>simp only [pvB,Bool.and_eq_true,beq_iff_eq] at h;rw [h.1,kY cs ds h.2]
  | _=>simp [pvB] at h
 | .bL xs i o,b,h=>by
  cases b with
  | bL ys j p=>simp only [pvB,Bool.and_eq_true,beq_iff_eq] at h;rw [h.1,h.2.1,uJ xs ys h.2.2]
  | _=>simp [pvB] at h
 | .undef,b,h=>by cases b <;> simp [pvB] at h
 | .void,b,h=>by cases b <;> simp [pvB] at h
 | .ptr a o,b,h=>by cases b <;> simp [pvB] at h
 | .dL a i o,b,h=>by cases b <;> simp [pvB] at h
 | .own a k o n,b,h=>by cases b <;> simp [pvB] at h
theorem kY:∀ a b:List PV,pb a b=true→a=b
 | [],[],_=>rfl
 | x::xs,y::ys,h=>by simp only [pb,Bool.and_eq_true] at h;rw [Np x y h.1,kY xs ys h.2]
 | [],_::_,h=>by simp [pb] at h
 | _::_,[],h=>by simp [pb] at h
theorem uJ:∀ a b:List (List PV),uK a b=true→a=b
 | [],[],_=>rfl
 | x::xs,y::ys,h=>by simp only [uK,Bool.and_eq_true] at h;rw [kY x y h.1,uJ xs ys h.2]
 | [],_::_,h=>by simp [uK] at h
 | _::_,[],h=>by simp [uK] at h
end
def iq:List (List PV × PV)→List PV→Option PV
 | [],_=>none
 | (a,r)::l,a5=>if pb a a5 then some r else iq l a5
theorem BB {Q:List PV→PV→Prop}:∀ {l:List (List PV × PV)},(∀ x∈l,Q x.1 x.2)→∀ {a5 r},iq l a5=some r→Q a5 r
 | [],_,a5,r,h=>by simp [iq] at h
 | (a,b)::l,hq,a5,r,h=>by
  simp only [iq] at h
  split at h
  ·rename_i hb
   simp at h;subst h
   rw [← kY a a5 hb];exact hq (a,b) (List.mem_cons_self ..)
  ·exact BB (fun x hx=>hq x (List.mem_cons_of_mem _ hx)) h
theorem withP_le {E:Env} {F:Nat} {p:List PV→Option PV} (hp:∀ a5 r,p a5=some r→(lim E).pureC F a5=some r):LE (lim (cY E F p)) (lim E):=by
 have up:∀ n,LE (run (cY E F p) n) (lim E):=fun n=>by
  induction n with
  | zero=>exact .of (fun f a5 r h=>by simp [run] at h) fun f k a5 hp nx x h=>by simp [run] at h
  | succ n ih=>
   refine .of (fun f a5 r h=>?_) fun f k a5 hp' nx x h=>?_
   ·simp only [run] at h
    by_cases hf:f=F
    ·subst hf
     rw [ud] at h
     exact hp a5 r h
    ·rw [nk hf] at h
     exact (iN E).p (ih.level.p h)
   ·simp only [run] at h
    rw [kB] at h
    exact (iN E).r (ih.level.r h)
 exact .of (fun f a5 r h=>by obtain ⟨n,hn⟩:=qE.1 h;exact (up n).p hn) fun f k a5 hp' nx x h=>by obtain ⟨n,hn⟩:=xY.1 h;exact (up n).r hn
theorem fN {E:Env} {F:Nat} {l:List (List PV × PV)} (n:Nat) (h:∀ x∈l,(run E n).pureC F x.1=some x.2):LE (lim (cY E F (iq l))) (lim E):=
 withP_le fun a5 r hr=>qE.2 ⟨n,BB (Q:=fun a b=>(run E n).pureC F a=some b) h hr⟩
end Go.Pm
end
section
set_option linter.all false
set_option maxRecDepth 100000
namespace Go.S
open Go Go.Pm Go.Proofs
def acB:List (List PV × PV):=[([.str ⟨#[65]⟩],.bool true),
 ([.str ⟨#[66]⟩],.bool true),
 ([.str ⟨#[115,112,108,105,116]⟩],.bool true),
 ([.str ⟨#[100,114,111,112]⟩],.bool true)]
theorem k145:acB.map (fun x=>(run E 60).pureC 145 x.1)=acB.map (fun x=>some x.2):=by kernel_rfl
noncomputable def V7:Env:=cY E 145 (iq acB)
theorem alF:LE (lim V7) (lim E):=fN 60 fun x hx=>List.map_inj_left.1 k145 x hx
def m78:List (List PV × PV):=[([.agg [.lit [[.str ⟨#[65]⟩,.int .i64 (-1),.bool false,.lit [] ⟨false,false⟩],[.str ⟨#[66]⟩,.int .i64 (-1),.bool false,.lit [] ⟨false,false⟩]] ⟨false,false⟩,.lit [] ⟨false,false⟩]],.tup [.str ⟨#[]⟩,.int .i64 (0)])]
theorem k78:m78.map (fun x=>(run V7 60).pureC 78 x.1)=m78.map (fun x=>some x.2):=by kernel_rfl
noncomputable def A78:Env:=cY V7 78 (iq m78)
theorem le78:LE (lim A78) (lim V7):=fN 60 fun x hx=>List.map_inj_left.1 k78 x hx
def acC:List (List PV × PV):=[([.agg [.lit [[.str ⟨#[65]⟩,.int .i64 (-1),.bool false,.lit [] ⟨false,false⟩],[.str ⟨#[66]⟩,.int .i64 (-1),.bool false,.lit [] ⟨false,false⟩]] ⟨false,false⟩,.lit [] ⟨false,false⟩],.int .i64 (0)],.tup [.lit [[.int .i64 (0)]] ⟨true,false⟩,.int .i64 (0)]),
 ([.agg [.lit [[.str ⟨#[65]⟩,.int .i64 (-1),.bool false,.lit [] ⟨false,false⟩],[.str ⟨#[66]⟩,.int .i64 (-1),.bool false,.lit [] ⟨false,false⟩]] ⟨false,false⟩,.lit [] ⟨false,false⟩],.int .i64 (1)],.tup [.lit [[.int .i64 (1)]] ⟨true,false⟩,.int .i64 (0)])]
theorem k120:acC.map (fun x=>(run A78 60).pureC 120 x.1)=acC.map (fun x=>some x.2):=by kernel_rfl
noncomputable def V8:Env:=cY A78 120 (iq acC)
theorem alG:LE (lim V8) (lim A78):=fN 60 fun x hx=>List.map_inj_left.1 k120 x hx
def acz:List (List PV × PV):=[([.agg [.lit [[.str ⟨#[65]⟩,.int .i64 (-1),.bool false,.lit [] ⟨false,false⟩],[.str ⟨#[66]⟩,.int .i64 (-1),.bool false,.lit [] ⟨false,false⟩]] ⟨false,false⟩,.lit [] ⟨false,false⟩],.agg [.lit [[.int .i64 (0)]] ⟨false,false⟩,.lit [] ⟨false,false⟩,.lit [] ⟨false,false⟩,.int .i64 (0),.lit [] ⟨false,false⟩]],.int .i64 (0)),
 ([.agg [.lit [[.str ⟨#[65]⟩,.int .i64 (-1),.bool false,.lit [] ⟨false,false⟩],[.str ⟨#[66]⟩,.int .i64 (-1),.bool false,.lit [] ⟨false,false⟩]] ⟨false,false⟩,.lit [] ⟨false,false⟩],.agg [.lit [[.int .i64 (1)]] ⟨false,false⟩,.lit [] ⟨false,false⟩,.lit [] ⟨false,false⟩,.int .i64 (0),.lit [] ⟨false,false⟩]],.int .i64 (0))]
theorem k179:acz.map (fun x=>(run V8 60).pureC 179 x.1)=acz.map (fun x=>some x.2):=by kernel_rfl
noncomputable def V5:Env:=cY V8 179 (iq acz)
theorem alD:LE (lim V5) (lim V8):=fN 60 fun x hx=>List.map_inj_left.1 k179 x hx
def acA:List (List PV × PV):=[([.agg [.lit [[.str ⟨#[65]⟩,.int .i64 (-1),.bool false,.lit [] ⟨false,false⟩],[.str ⟨#[66]⟩,.int .i64 (-1),.bool false,.lit [] ⟨false,false⟩]] ⟨false,false⟩,.lit [] ⟨false,false⟩],.agg [.str ⟨#[115,112,108,105,116]⟩,.lit [[.int .i64 (0)]] ⟨false,false⟩,.lit [] ⟨false,false⟩,.lit [] ⟨false,false⟩,.int .i64 (0),.lit [] ⟨false,false⟩,.lit [[.int .i64 (1)],[.int .i64 (1)]] ⟨false,false⟩,.lit [] ⟨false,false⟩,.lit [] ⟨false,false⟩,.int .i64 (0),.lit [] ⟨false,false⟩,.lit [] ⟨false,false⟩,.lit [] ⟨false,false⟩,.lit [] ⟨false,false⟩,.lit [] ⟨false,false⟩,.bool false,.int .i64 (1),.lit [] ⟨false,false⟩,.lit [] ⟨false,false⟩,.lit [] ⟨false,false⟩,.lit [] ⟨false,false⟩,.lit [] ⟨false,false⟩,.lit [] ⟨false,false⟩,.int .i64 (0),.lit [] ⟨false,false⟩]],.int .i64 (0)),
 ([.agg [.lit [[.str ⟨#[65]⟩,.int .i64 (-1),.bool false,.lit [] ⟨false,false⟩],[.str ⟨#[66]⟩,.int .i64 (-1),.bool false,.lit [] ⟨false,false⟩]] ⟨false,false⟩,.lit [] ⟨false,false⟩],.agg [.str ⟨#[100,114,111,112]⟩,.lit [[.int .i64 (1)]] ⟨false,false⟩,.lit [] ⟨false,false⟩,.lit [] ⟨false,false⟩,.int .i64 (0),.lit [] ⟨false,false⟩,.lit [] ⟨false,false⟩,.lit [] ⟨false,false⟩,.lit [] ⟨false,false⟩,.int .i64 (0),.lit [] ⟨false,false⟩,.lit [] ⟨false,false⟩,.lit [] ⟨false,false⟩,.lit [] ⟨false,false⟩,.lit [] ⟨false,false⟩,.bool false,.int .i64 (1),.lit [] ⟨false,false⟩,.lit [] ⟨false,false⟩,.lit [] ⟨false,false⟩,.lit [] ⟨false,false⟩,.lit [] ⟨false,false⟩,.lit [] ⟨false,false⟩,.int .i64 (0),.lit [] ⟨false,false⟩]],.int .i64 (0))]
theorem k154:acA.map (fun x=>(run V5 60).pureC 154 x.1)=acA.map (fun x=>some x.2):=by kernel_rfl
noncomputable def V6:Env:=cY V5 154 (iq acA)
theorem alE:LE (lim V6) (lim V5):=fN 60 fun x hx=>List.map_inj_left.1 k154 x hx
def acE:List (List PV × PV):=[([.agg [.lit [[.str ⟨#[65]⟩,.int .i64 (-1),.bool false,.lit [] ⟨false,false⟩],[.str ⟨#[66]⟩,.int .i64 (-1),.bool false,.lit [] ⟨false,false⟩]] ⟨false,false⟩,.lit [] ⟨false,false⟩],.agg [.str ⟨#[115,112,108,105,116]⟩,.lit [[.int .i64 (0)]] ⟨false,false⟩,.lit [] ⟨false,false⟩,.lit [] ⟨false,false⟩,.int .i64 (0),.lit [] ⟨false,false⟩,.lit [[.int .i64 (1)],[.int .i64 (1)]] ⟨false,false⟩,.lit [] ⟨false,false⟩,.lit [] ⟨false,false⟩,.int .i64 (0),.lit [] ⟨false,false⟩,.lit [] ⟨false,false⟩,.lit [] ⟨false,false⟩,.lit [] ⟨false,false⟩,.lit [] ⟨false,false⟩,.bool false,.int .i64 (1),.lit [] ⟨false,false⟩,.lit [] ⟨false,false⟩,.lit [] ⟨false,false⟩,.lit [] ⟨false,false⟩,.lit [] ⟨false,false⟩,.lit [] ⟨false,false⟩,.int .i64 (0),.lit [] ⟨false,false⟩]],.tup [.lit [[.int .i64 (0)]] ⟨true,false⟩,.lit [] ⟨true,false⟩,.int .i64 (0)]),
 ([.agg [.lit [[.str ⟨#[65]⟩,.int .i64 (-1),.bool false,.lit [] ⟨false,false⟩],[.str ⟨#[66]⟩,.int .i64 (-1),.bool false,.lit [] ⟨false,false⟩]] ⟨false,false⟩,.lit [] ⟨false,false⟩],.agg [.str ⟨#[100,114,111,112]⟩,.lit [[.int .i64 (1)]] ⟨false,false⟩,.lit [] ⟨false,false⟩,.lit [] ⟨false,false⟩,.int .i64 (0),.lit [] ⟨false,false⟩,.lit [] ⟨false,false⟩,.lit [] ⟨false,false⟩,.lit [] ⟨false,false⟩,.int .i64 (0),.lit [] ⟨false,false⟩,.lit [] ⟨false,false⟩,.lit [] ⟨false,false⟩,.lit [] ⟨false,false⟩,.lit [] ⟨false,false⟩,.bool false,.int .i64 (1),.lit [] ⟨false,false⟩,.lit [] ⟨false,false⟩,.lit [] ⟨false,false⟩,.lit [] ⟨false,false⟩,.lit [] ⟨false,false⟩,.lit [] ⟨false,false⟩,.int .i64 (0),.lit [] ⟨false,false⟩]],.tup [.lit [[.int .i64 (0)]] ⟨true,false⟩,.lit [] ⟨true,false⟩,.int .i64 (0)])]
theorem k118:acE.map (fun x=>(run V6 60).pureC 118 x.1)=acE.map (fun x=>some x.2):=by kernel_rfl
noncomputable def Wa:Env:=cY V6 118 (iq acE)
theorem alI:LE (lim Wa) (lim V6):=fN 60 fun x hx=>List.map_inj_left.1 k118 x hx
def acD:List (List PV × PV):=[([.agg [.lit [[.str ⟨#[65]⟩,.int .i64 (-1),.bool false,.lit [] ⟨false,false⟩],[.str ⟨#[66]⟩,.int .i64 (-1),.bool false,.lit [] ⟨false,false⟩]] ⟨false,false⟩,.lit [] ⟨false,false⟩],.agg [.str ⟨#[115,112,108,105,116]⟩,.lit [[.int .i64 (0)]] ⟨false,false⟩,.lit [] ⟨false,false⟩,.lit [] ⟨false,false⟩,.int .i64 (0),.lit [] ⟨false,false⟩,.lit [[.int .i64 (1)],[.int .i64 (1)]] ⟨false,false⟩,.lit [] ⟨false,false⟩,.lit [] ⟨false,false⟩,.int .i64 (0),.lit [] ⟨false,false⟩,.lit [] ⟨false,false⟩,.lit [] ⟨false,false⟩,.lit [] ⟨false,false⟩,.lit [] ⟨false,false⟩,.bool false,.int .i64 (1),.lit [] ⟨false,false⟩,.lit [] ⟨false,false⟩,.lit [] ⟨false,false⟩,.lit [] ⟨false,false⟩,.lit [] ⟨false,false⟩,.lit [] ⟨false,false⟩,.int .i64 (0),.lit [] ⟨false,false⟩]],.tup [.lit [[.int .i64 (0)],[.int .i64 (1)]] ⟨true,false⟩,.lit [] ⟨true,false⟩,.int .i64 (0)]),
 ([.agg [.lit [[.str ⟨#[65]⟩,.int .i64 (-1),.bool false,.lit [] ⟨false,false⟩],[.str ⟨#[66]⟩,.int .i64 (-1),.bool false,.lit [] ⟨false,false⟩]] ⟨false,false⟩,.lit [] ⟨false,false⟩],.agg [.str ⟨#[100,114,111,112]⟩,.lit [[.int .i64 (1)]] ⟨false,false⟩,.lit [] ⟨false,false⟩,.lit [] ⟨false,false⟩,.int .i64 (0),.lit [] ⟨false,false⟩,.lit [] ⟨false,false⟩,.lit [] ⟨false,false⟩,.lit [] ⟨false,false⟩,.int .i64 (0),.lit [] ⟨false,false⟩,.lit [] ⟨false,false⟩,.lit [] ⟨false,false⟩,.lit [] ⟨false,false⟩,.lit [] ⟨false,false⟩,.bool false,.int .i64 (1),.lit [] ⟨false,false⟩,.lit [] ⟨false,false⟩,.lit [] ⟨false,false⟩,.lit [] ⟨false,false⟩,.lit [] ⟨false,false⟩,.lit [] ⟨false,false⟩,.int .i64 (0),.lit [] ⟨false,false⟩]],.tup [.lit [] ⟨true,false⟩,.lit [] ⟨true,false⟩,.int .i64 (0)])]
theorem k119:acD.map (fun x=>(run Wa 60).pureC 119 x.1)=acD.map (fun x=>some x.2):=by kernel_rfl
noncomputable def V9:Env:=cY Wa 119 (iq acD)
theorem alH:LE (lim V9) (lim Wa):=fN 60 fun x hx=>List.map_inj_left.1 k119 x hx
def m79:List (List PV × PV):=[([.agg [.lit [[.str ⟨#[65]⟩,.int .i64 (-1),.bool false,.lit [] ⟨false,false⟩],[.str ⟨#[66]⟩,.int .i64 (-1),.bool false,.lit [] ⟨false,false⟩]] ⟨false,false⟩,.lit [] ⟨false,false⟩],.agg [.str ⟨#[115,112,108,105,116]⟩,.lit [[.int .i64 (0)]] ⟨false,false⟩,.lit [] ⟨false,false⟩,.lit [] ⟨false,false⟩,.int .i64 (0),.lit [] ⟨false,false⟩,.lit [[.int .i64 (1)],[.int .i64 (1)]] ⟨false,false⟩,.lit [] ⟨false,false⟩,.lit [] ⟨false,false⟩,.int .i64 (0),.lit [] ⟨false,false⟩,.lit [] ⟨false,false⟩,.lit [] ⟨false,false⟩,.lit [] ⟨false,false⟩,.lit [] ⟨false,false⟩,.bool false,.int .i64 (1),.lit [] ⟨false,false⟩,.lit [] ⟨false,false⟩,.lit [] ⟨false,false⟩,.lit [] ⟨false,false⟩,.lit [] ⟨false,false⟩,.lit [] ⟨false,false⟩,.int .i64 (0),.lit [] ⟨false,false⟩]],.tup [.lit [[.int .i64 (-1)],[.int .i64 (2)]] ⟨true,false⟩,.int .i64 (0)]),
 ([.agg [.lit [[.str ⟨#[65]⟩,.int .i64 (-1),.bool false,.lit [] ⟨false,false⟩],[.str ⟨#[66]⟩,.int .i64 (-1),.bool false,.lit [] ⟨false,false⟩]] ⟨false,false⟩,.lit [] ⟨false,false⟩],.agg [.str ⟨#[100,114,111,112]⟩,.lit [[.int .i64 (1)]] ⟨false,false⟩,.lit [] ⟨false,false⟩,.lit [] ⟨false,false⟩,.int .i64 (0),.lit [] ⟨false,false⟩,.lit [] ⟨false,false⟩,.lit [] ⟨false,false⟩,.lit [] ⟨false,false⟩,.int .i64 (0),.lit [] ⟨false,false⟩,.lit [] ⟨false,false⟩,.lit [] ⟨false,false⟩,.lit [] ⟨false,false⟩,.lit [] ⟨false,false⟩,.bool false,.int .i64 (1),.lit [] ⟨false,false⟩,.lit [] ⟨false,false⟩,.lit [] ⟨false,false⟩,.lit [] ⟨false,false⟩,.lit [] ⟨false,false⟩,.lit [] ⟨false,false⟩,.int .i64 (0),.lit [] ⟨false,false⟩]],.tup [.lit [[.int .i64 (0)],[.int .i64 (-1)]] ⟨true,false⟩,.int .i64 (0)])]
theorem k79:m79.map (fun x=>(run V9 60).pureC 79 x.1)=m79.map (fun x=>some x.2):=by kernel_rfl
noncomputable def A79:Env:=cY V9 79 (iq m79)
theorem le79:LE (lim A79) (lim V9):=fN 60 fun x hx=>List.map_inj_left.1 k79 x hx
def m47:List (List PV × PV):=[([.agg [.lit [[.str ⟨#[65]⟩,.int .i64 (-1),.bool false,.lit [] ⟨false,false⟩],[.str ⟨#[66]⟩,.int .i64 (-1),.bool false,.lit [] ⟨false,false⟩]] ⟨false,false⟩,.lit [] ⟨false,false⟩],.lit [[.str ⟨#[115,112,108,105,116]⟩,.lit [[.int .i64 (0)]] ⟨false,false⟩,.lit [] ⟨false,false⟩,.lit [] ⟨false,false⟩,.int .i64 (0),.lit [] ⟨false,false⟩,.lit [[.int .i64 (1)],[.int .i64 (1)]] ⟨false,false⟩,.lit [] ⟨false,false⟩,.lit [] ⟨false,false⟩,.int .i64 (0),.lit [] ⟨false,false⟩,.lit [] ⟨false,false⟩,.lit [] ⟨false,false⟩,.lit [] ⟨false,false⟩,.lit [] ⟨false,false⟩,.bool false,.int .i64 (1),.lit [] ⟨false,false⟩,.lit [] ⟨false,false⟩,.lit [] ⟨false,false⟩,.lit [] ⟨false,false⟩,.lit [] ⟨false,false⟩,.lit [] ⟨false,false⟩,.int .i64 (0),.lit [] ⟨false,false⟩],[.str ⟨#[100,114,111,112]⟩,.lit [[.int .i64 (1)]] ⟨false,false⟩,.lit [] ⟨false,false⟩,.lit [] ⟨false,false⟩,.int .i64 (0),.lit [] ⟨false,false⟩,.lit [] ⟨false,false⟩,.lit [] ⟨false,false⟩,.lit [] ⟨false,false⟩,.int .i64 (0),.lit [] ⟨false,false⟩,.lit [] ⟨false,false⟩,.lit [] ⟨false,false⟩,.lit [] ⟨false,false⟩,.lit [] ⟨false,false⟩,.bool false,.int .i64 (1),.lit [] ⟨false,false⟩,.lit [] ⟨false,false⟩,.lit [] ⟨false,false⟩,.lit [] ⟨false,false⟩,.lit [] ⟨false,false⟩,.lit [] ⟨false,false⟩,.int .i64 (0),.lit [] ⟨false,false⟩]] ⟨false,false⟩],.tup [.lit [[.int .i64 (3)],[.int .i64 (1)]] ⟨true,false⟩,.int .i64 (0)])]
theorem k47:m47.map (fun x=>(run A79 60).pureC 47 x.1)=m47.map (fun x=>some x.2):=by kernel_rfl
noncomputable def A47:Env:=cY A79 47 (iq m47)
theorem le47:LE (lim A47) (lim A79):=fN 60 fun x hx=>List.map_inj_left.1 k47 x hx
def m48:List (List PV × PV):=[([.agg [.lit [[.str ⟨#[65]⟩,.int .i64 (-1),.bool false,.lit [] ⟨false,false⟩],[.str ⟨#[66]⟩,.int .i64 (-1),.bool false,.lit [] ⟨false,false⟩]] ⟨false,false⟩,.lit [] ⟨false,false⟩],.agg [.str ⟨#[115,112,108,105,116]⟩,.lit [[.int .i64 (0)]] ⟨false,false⟩,.lit [] ⟨false,false⟩,.lit [] ⟨false,false⟩,.int .i64 (0),.lit [] ⟨false,false⟩,.lit [[.int .i64 (1)],[.int .i64 (1)]] ⟨false,false⟩,.lit [] ⟨false,false⟩,.lit [] ⟨false,false⟩,.int .i64 (0),.lit [] ⟨false,false⟩,.lit [] ⟨false,false⟩,.lit [] ⟨false,false⟩,.lit [] ⟨false,false⟩,.lit [] ⟨false,false⟩,.bool false,.int .i64 (1),.lit [] ⟨false,false⟩,.lit [] ⟨false,false⟩,.lit [] ⟨false,false⟩,.lit [] ⟨false,false⟩,.lit [] ⟨false,false⟩,.lit [] ⟨false,false⟩,.int .i64 (0),.lit [] ⟨false,false⟩]],.tup [.lit [[.int .i64 (-1)],[.int .i64 (2)]] ⟨true,false⟩,.int .i64 (0)]),
 ([.agg [.lit [[.str ⟨#[65]⟩,.int .i64 (-1),.bool false,.lit [] ⟨false,false⟩],[.str ⟨#[66]⟩,.int .i64 (-1),.bool false,.lit [] ⟨false,false⟩]] ⟨false,false⟩,.lit [] ⟨false,false⟩],.agg [.str ⟨#[100,114,111,112]⟩,.lit [[.int .i64 (1)]] ⟨false,false⟩,.lit [] ⟨false,false⟩,.lit [] ⟨false,false⟩,.int .i64 (0),.lit [] ⟨false,false⟩,.lit [] ⟨false,false⟩,.lit [] ⟨false,false⟩,.lit [] ⟨false,false⟩,.int .i64 (0),.lit [] ⟨false,false⟩,.lit [] ⟨false,false⟩,.lit [] ⟨false,false⟩,.lit [] ⟨false,false⟩,.lit [] ⟨false,false⟩,.bool false,.int .i64 (1),.lit [] ⟨false,false⟩,.lit [] ⟨false,false⟩,.lit [] ⟨false,false⟩,.lit [] ⟨false,false⟩,.lit [] ⟨false,false⟩,.lit [] ⟨false,false⟩,.int .i64 (0),.lit [] ⟨false,false⟩]],.tup [.lit [[.int .i64 (0)],[.int .i64 (-1)]] ⟨true,false⟩,.int .i64 (0)])]
theorem k48:m48.map (fun x=>(run A47 60).pureC 48 x.1)=m48.map (fun x=>some x.2):=by kernel_rfl
noncomputable def A48:Env:=cY A47 48 (iq m48)
theorem le48:LE (lim A48) (lim A47):=fN 60 fun x hx=>List.map_inj_left.1 k48 x hx
def m30:List (List PV × PV):=[([.agg [.lit [[.str ⟨#[65]⟩,.int .i64 (-1),.bool false,.lit [] ⟨false,false⟩],[.str ⟨#[66]⟩,.int .i64 (-1),.bool false,.lit [] ⟨false,false⟩]] ⟨false,false⟩,.lit [] ⟨false,false⟩],.lit [[.str ⟨#[115,112,108,105,116]⟩,.lit [[.int .i64 (0)]] ⟨false,false⟩,.lit [] ⟨false,false⟩,.lit [] ⟨false,false⟩,.int .i64 (0),.lit [] ⟨false,false⟩,.lit [[.int .i64 (1)],[.int .i64 (1)]] ⟨false,false⟩,.lit [] ⟨false,false⟩,.lit [] ⟨false,false⟩,.int .i64 (0),.lit [] ⟨false,false⟩,.lit [] ⟨false,false⟩,.lit [] ⟨false,false⟩,.lit [] ⟨false,false⟩,.lit [] ⟨false,false⟩,.bool false,.int .i64 (1),.lit [] ⟨false,false⟩,.lit [] ⟨false,false⟩,.lit [] ⟨false,false⟩,.lit [] ⟨false,false⟩,.lit [] ⟨false,false⟩,.lit [] ⟨false,false⟩,.int .i64 (0),.lit [] ⟨false,false⟩],[.str ⟨#[100,114,111,112]⟩,.lit [[.int .i64 (1)]] ⟨false,false⟩,.lit [] ⟨false,false⟩,.lit [] ⟨false,false⟩,.int .i64 (0),.lit [] ⟨false,false⟩,.lit [] ⟨false,false⟩,.lit [] ⟨false,false⟩,.lit [] ⟨false,false⟩,.int .i64 (0),.lit [] ⟨false,false⟩,.lit [] ⟨false,false⟩,.lit [] ⟨false,false⟩,.lit [] ⟨false,false⟩,.lit [] ⟨false,false⟩,.bool false,.int .i64 (1),.lit [] ⟨false,false⟩,.lit [] ⟨false,false⟩,.lit [] ⟨false,false⟩,.lit [] ⟨false,false⟩,.lit [] ⟨false,false⟩,.lit [] ⟨false,false⟩,.int .i64 (0),.lit [] ⟨false,false⟩]] ⟨false,false⟩],.tup [.lit [[.lit [[.int .i64 (-1)],[.int .i64 (2)]] ⟨false,false⟩],[.lit [[.int .i64 (0)],[.int .i64 (-1)]] ⟨false,false⟩]] ⟨true,false⟩,.int .i64 (0)])]
theorem k30:m30.map (fun x=>(run A48 60).pureC 30 x.1)=m30.map (fun x=>some x.2):=by kernel_rfl
noncomputable def A30:Env:=cY A48 30 (iq m30)
theorem le30:LE (lim A30) (lim A48):=fN 60 fun x hx=>List.map_inj_left.1 k30 x hx
def m40:List (List PV × PV):=[([.agg [.lit [[.str ⟨#[65]⟩,.int .i64 (-1),.bool false,.lit [] ⟨false,false⟩],[.str ⟨#[66]⟩,.int .i64 (-1),.bool false,.lit [] ⟨false,false⟩]] ⟨false,false⟩,.lit [] ⟨false,false⟩],.lit [[.str ⟨#[115,112,108,105,116]⟩,.lit [[.int .i64 (0)]] ⟨false,false⟩,.lit [] ⟨false,false⟩,.lit [] ⟨false,false⟩,.int .i64 (0),.lit [] ⟨false,false⟩,.lit [[.int .i64 (1)],[.int .i64 (1)]] ⟨false,false⟩,.lit [] ⟨false,false⟩,.lit [] ⟨false,false⟩,.int .i64 (0),.lit [] ⟨false,false⟩,.lit [] ⟨false,false⟩,.lit [] ⟨false,false⟩,.lit [] ⟨false,false⟩,.lit [] ⟨false,false⟩,.bool false,.int .i64 (1),.lit [] ⟨false,false⟩,.lit [] ⟨false,false⟩,.lit [] ⟨false,false⟩,.lit [] ⟨false,false⟩,.lit [] ⟨false,false⟩,.lit [] ⟨false,false⟩,.int .i64 (0),.lit [] ⟨false,false⟩],[.str ⟨#[100,114,111,112]⟩,.lit [[.int .i64 (1)]] ⟨false,false⟩,.lit [] ⟨false,false⟩,.lit [] ⟨false,false⟩,.int .i64 (0),.lit [] ⟨false,false⟩,.lit [] ⟨false,false⟩,.lit [] ⟨false,false⟩,.lit [] ⟨false,false⟩,.int .i64 (0),.lit [] ⟨false,false⟩,.lit [] ⟨false,false⟩,.lit [] ⟨false,false⟩,.lit [] ⟨false,false⟩,.lit [] ⟨false,false⟩,.bool false,.int .i64 (1),.lit [] ⟨false,false⟩,.lit [] ⟨false,false⟩,.lit [] ⟨false,false⟩,.lit [] ⟨false,false⟩,.lit [] ⟨false,false⟩,.lit [] ⟨false,false⟩,.int .i64 (0),.lit [] ⟨false,false⟩]] ⟨false,false⟩],.tup [.lit [[.lit [[.int .i64 (3)],[.int .i64 (1)]] ⟨false,false⟩,.lit [[.int .i64 (0)],[.int .i64 (1)]] ⟨false,false⟩]] ⟨true,false⟩,.lit [] ⟨true,false⟩,.int .i64 (0)])]
theorem k40:m40.map (fun x=>(run A30 60).pureC 40 x.1)=m40.map (fun x=>some x.2):=by kernel_rfl
noncomputable def A40:Env:=cY A30 40 (iq m40)
theorem le40:LE (lim A40) (lim A30):=fN 60 fun x hx=>List.map_inj_left.1 k40 x hx
theorem FQ:(run A40 60).pureC 6 []=some (.bool true):=by kernel_rfl
theorem FP:(lim E).pureC 6 []=some (.bool true):=LE.p (le40.trans (le30.trans (le48.trans (le47.trans (le79.trans (alH.trans (alI.trans (alE.trans (alD.trans (alG.trans (le78.trans (alF)))))))))))) (qE.2 ⟨60,FQ⟩)
end Go.S
end
