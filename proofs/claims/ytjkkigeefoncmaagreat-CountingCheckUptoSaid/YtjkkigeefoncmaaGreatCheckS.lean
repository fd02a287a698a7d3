import Derived.Test.YtjkkigeefoncmaaGreatCheckM
import Derived.Test.YtjkkigeefoncmaaGreatCheckQ
import Derived.Test.YtjkkigeefoncmaaGreatCheckR
set_option linter.all false
section
set_option linter.all false
set_option maxRecDepth 10000
namespace Go.S
open Go Go.Pm
def N10 (o:Option Int):Prop:=∀ v,o=some v→v≠10
def P10 (o:Option (ByteArray × Int)):Prop:=∀ v,o=some v→v.2≠10
theorem fE:N10 none:=fun v h=>by cases h
theorem cm {c:Int} (h:c≠10):N10 (some c):=fun v e=>by obtain rfl:=Option.some.inj e;exact h
theorem n10_ite {c:Prop} [Decidable c] {a b:Option Int} (ha:N10 a) (hb:N10 b):N10 (if c then a else b):=by split <;> assumption
theorem cH {α:Type} {o:Option α} {f:α→Option Int} (h:∀ x,N10 (f x)):N10 (o.bind f):=fun v e=>by
 cases o with
 | none=>simp at e
 | some x=>exact h x v e
theorem xW {o:Option Int} {f:Int→Option Int} (ho:N10 o) (h:∀ x,x≠10→N10 (f x)):N10 (o.bind f):=fun v e=>by
 cases o with
 | none=>simp at e
 | some x=>exact h x (ho x rfl) v e
theorem Bt:P10 none:=fun v h=>by cases h
theorem kT {s:ByteArray} {c:Int} (h:c≠10):P10 (some (s,c)):=fun v e=>by obtain rfl:=Option.some.inj e;exact h
theorem lI {c:Prop} [Decidable c] {a b:Option (ByteArray × Int)} (ha:P10 a) (hb:P10 b):P10 (if c then a else b):=by split <;> assumption
theorem Bu {α:Type} {o:Option α} {f:α→Option (ByteArray × Int)} (h:∀ x,P10 (f x)):P10 (o.bind f):=fun v e=>by
 cases o with
 | none=>simp at e
 | some x=>exact h x v e
theorem xS {o:Option Int} {f:Int→Option (ByteArray × Int)} (ho:N10 o) (h:∀ x,x≠10→P10 (f x)):P10 (o.bind f):=fun v e=>by
 cases o with
 | none=>simp at e
 | some x=>exact h x (ho x rfl) v e
theorem NY (l:List ByteArray) (i:Int) (k0:Int→Option Int) (hk:∀ x,N10 (k0 x)):∀ m k,N10 (iY l i k0 m k)
 | 0,k=>fE
 | m+1,k=>n10_ite (cH fun _=>cH fun _=>n10_ite (cm (by decide)) (NY l i k0 hk m _)) (hk _)
theorem NZ (l:List ByteArray):∀ m k,N10 (iZ l m k)
 | 0,k=>fE
 | m+1,k=>n10_ite (cH fun _=>cH fun _=>n10_ite (cm (by decide)) (NY l k _ (fun x=>NZ l m x) _ _)) (cm (by decide))
theorem n132 (l:List ByteArray):N10 (f132 l):=n10_ite (cm (by decide)) (NZ l _ _)
theorem n102 (a:Attr):N10 (f102 a):=
 n10_ite (cH fun _=>n10_ite (cm (by decide)) (cH fun _=>n10_ite (cm (by decide)) (cm (by decide))))
  (xW (n132 _) fun x hx=>n10_ite (cm hx) (n10_ite (cm (by decide)) (n10_ite (cm (by decide)) (cm (by decide)))))
theorem Yt (l:List Attr) (i:Int) (k0:Int→Option Int) (hk:∀ x,N10 (k0 x)):∀ m k,N10 (lY l i k0 m k)
 | 0,k=>fE
 | m+1,k=>n10_ite (n10_ite (cH fun _=>n10_ite (cH fun _=>n10_ite (cm (by decide)) (Yt l i k0 hk m _)) fE) fE)
   (n10_ite (cH fun _=>xW (n102 _) fun x hx=>n10_ite (cm hx) (hk _)) fE)
theorem Yu (l:List Attr):∀ m k,N10 (kH l m k)
 | 0,k=>fE
 | m+1,k=>n10_ite (n10_ite (cH fun _=>cH fun _=>n10_ite (cm (by decide)) (Yt l k _ (fun x=>Yu l m x) _ _)) fE) (cm (by decide))
theorem Yv (R:bI) (t:Types) (i:Int) (x:aE):∀ m k,N10 (lZ R t i x m k)
 | 0,k=>fE
 | m+1,k=>n10_ite (cH fun _=>n10_ite (cm (by decide)) (Yv R t i x m _))
   (cH fun _=>n10_ite (cm (by decide)) (cH fun _=>n10_ite (cm (by decide)) (n10_ite (cm (by decide)) (Yu _ _ _))))
theorem n68 (R:bI) (t:Types) (i:Int):N10 (f68 R t i):=cH fun _=>cH fun _=>n10_ite (cm (by decide)) (Yv R t i _ _ _)
theorem Ys (t:Types) (i:Int) (x:aG):∀ m k,N10 (lX t i x m k)
 | 0,k=>fE
 | m+1,k=>n10_ite (cH fun _=>n10_ite (cm (by decide)) (Ys t i x m _))
   (cH fun _=>n10_ite (cm (by decide)) (cH fun _=>n10_ite (cm (by decide)) (cH fun _=>n10_ite (cm (by decide)) (cH fun _=>n10_ite (cm (by decide)) (cm (by decide))))))
theorem n69 (t:Types) (i:Int):N10 (f69 t i):=cH fun _=>cH fun _=>n10_ite (cm (by decide)) (Ys t i _ _ _)
theorem Yw (t:Types):∀ m k,P10 (l9 t m k)
 | 0,k=>Bt
 | m+1,k=>lI (xS (n69 t _) fun x hx=>lI (Bu fun _=>kT hx) (Yw t m _)) (kT (by decide))
theorem Yx (R:bI) (t:Types):∀ m k,P10 (nX R t m k)
 | 0,k=>Bt
 | m+1,k=>lI (xS (n68 R t _) fun x hx=>lI (Bu fun _=>kT hx) (Yx R t m _)) (Yw t _ _)
theorem n44 (R:bI) (t:Types):P10 (f44 R t):=lI (kT (by decide)) (lI (kT (by decide)) (lI (kT (by decide)) (Yx R t _ _)))
def isT (l:List (List Int)) (k:Nat):Bool:=l.any fun e=>!(e.getD k 0 == 0)
theorem IX {l:List Int} {N k:Nat} (hl:l.length=N) (hk:k<N):at? l (k:Int)=some (l.getD k 0):=by
 rw [bB,List.getD_eq_getElem?_getD,List.getElem?_eq_getElem (by omega)];rfl
theorem ad9 (l:List (List Int)) (N:Nat) (hN:∀ e∈l,e.length=N) (hl:l.length≤1000) (out:List Int) (k:Nat) (hk:k<N) (k0:List Int→Int→Option (List Int)) :
  f46_l2 l out k k0 ax false 0=if isT l k=true then (if decide ((out ++ [(k:Int)]).length≤bound)=true then k0 (out ++ [(k:Int)]) (w64 ((k:Int)+1)) else none) else k0 out (w64 ((k:Int)+1)):=by
 have D:=cp l.length (by omega) (fun i m kk=>∀ b:Bool,f46_l2 l out k k0 m b kk=if (b||isT (l.drop i) k)=true then (if decide ((out ++ [(k:Int)]).length≤bound)=true then k0 (out ++ [(k:Int)]) (w64 ((k:Int)+1)) else none) else k0 out (w64 ((k:Int)+1))) (fun m b=>by
   have e1:¬ ((l.length:Int)<l.length):=by omega
   have e2:isT (l.drop l.length) k=false:=by simp [isT]
   simp only [f46_l2,e1,e2,decide_false,Bool.false_eq_true,↓reduceIte,Bool.or_false]) (fun m i hi ih b=>by
   have e1:(i:Int)<l.length:=by omega
   have e2:isT (l.drop i) k=(!(l[i].getD k 0 == 0)||isT (l.drop (i+1)) k):=by rw [List.drop_eq_getElem_cons hi];rfl
   cases b with
   | true=>
    simp only [f46_l2,e1,decide_true,↓reduceIte]
    rw [ih true];simp only [Bool.true_or]
   | false=>
    simp only [f46_l2,e1,decide_true,↓reduceIte,Bool.false_eq_true,bB,List.getElem?_eq_getElem hi,Option.bind_some]
    rw [← bB,IX (hN _ (List.getElem_mem hi)) hk,Option.bind_some,ih,e2,Bool.false_or]) 0 (Nat.zero_le _) ax (by rw [aL];omega) false
 rw [Bool.false_or,List.drop_zero] at D
 exact D
theorem aeQ {l:List Int} {N k:Nat} (hl:l.length=N) (hk:k<N):jO l k=some (!(l.getD k 0 == 0)):=by
 unfold jO;rw [IX hl hk];rfl
theorem KE (s:List (List Int)) (N:Nat) (hN:∀ e∈s,e.length=N) (k:Nat) (hk:k<N) (h:s.length≤1000):iw s k=some (isT s k):=by
 unfold iw jZ
 rw [bX s (by omega) (fun m i=>dQ s k m i) (fun i x r=>(jO x k).bind fun b=>if b then some (i:Int) else r) (some (-1)) (fun m=>by simp [dQ]) (fun m i x hx=>by
  have hi:(i:Int)<s.length:=by have:=(List.getElem?_eq_some_iff.1 hx).1;omega
  simp only [dQ,bB,hx,Option.bind_some,hi,decide_true,↓reduceIte]) (by rw [aL];omega)]
 obtain ⟨r,h1,h2,_⟩:=cu (fun x=>jO x k) (fun e:List Int=>!(e.getD k 0 == 0)) s (fun e he=>aeQ (hN e he) hk) 0
 rw [h1,Option.bind_some,contains_of h2];rfl
theorem I5 {t:Types} (hn:t.Nodes.length≤12) (he:t.Edges.length≤20) (l:List (List Int)) (hN:∀ e∈l,e.length=cD t) (hl:l.length≤1000) :
  ∃ T:List Int,f46 (cD t) l=some T∧lW t l ax [] 0=some (if (6:Int)<T.length then ([],[],3) else (l,T,0))∧∀ x∈T,0≤x∧x<(cD t:Int):=by
 have w:w64 ((t.Nodes.length:Int)+(t.Edges.length:Int))=(cD t:Int):=by rw [bS (by omega) (by omega)];unfold cD;omega
 have hNe:cD t≤32:=by unfold cD;omega
 have D:=cp (cD t) (by omega) (fun i m k=>∀ m',cD t - i<m'→∀ o:List Int,o.length≤i→(∀ x∈o,0≤x∧x<(cD t:Int))→∃ T:List Int,pR (cD t) l m o k=some T∧lW t l m' o k=some (if (6:Int)<T.length then ([],[],3) else (l,T,0))∧∀ x∈T,0≤x∧x<(cD t:Int)) (fun m m' hm' o ho hx=>by
   obtain ⟨m',rfl⟩:∃ k,m'=k+1:=⟨m' - 1,by omega⟩
   have e1:¬ ((cD t:Int)<(cD t:Int)):=by omega
   simp only [pR,lW,w,e1,decide_false,Bool.false_eq_true,↓reduceIte]
   refine ⟨o,rfl,?_,hx⟩
   by_cases c:(6:Int)<o.length
   ·simp only [c,decide_true,↓reduceIte]
   ·simp only [c,decide_false,Bool.false_eq_true,↓reduceIte]) (fun m i hi ih m' hm' o ho hx=>by
   obtain ⟨m',rfl⟩:∃ k,m'=k+1:=⟨m' - 1,by omega⟩
   have e1:(i:Int)<(cD t:Int):=by omega
   have hb:(o ++ [(i:Int)]).length≤bound:=by unfold bound;simp;omega
   simp only [pR,lW,w,e1,decide_true,↓reduceIte,ad9 l (cD t) hN hl o i hi,KE l (cD t) hN i hi hl,Option.bind_some,hb]
   cases isT l i with
   | true=>
    simp only [↓reduceIte]
    exact ih m' (by omega) _ (by simp;omega) fun x hx'=>by
     rw [List.mem_append,List.mem_singleton] at hx'
     rcases hx' with h | rfl
     ·exact hx x h
     ·omega
   | false=>
    simp only [Bool.false_eq_true,↓reduceIte]
    exact ih m' (by omega) o (by omega) hx) 0 (Nat.zero_le _) ax (by rw [aL];omega) ax (by rw [aL];omega) [] (by simp) (by simp)
 exact D
section
variable {R:bI} (hq:Eqs R)
include hq
theorem aeW {t:Types} (hT:TR R t) (l:List bJ) (hl:∀ r∈l,kN r) (hl6:l.length≤6) :
  ∃ (v w:List (List Int) × Int) (T:List Int),n8 R t l ax [] 0=some v∧nR R t l ax [] 0=some (v.1,T,v.2)∧ma R t l ax [] 0=some w∧
   (v.2=0→w=v∧v.1.length=l.length∧(∀ e∈v.1,e.length=cD t)∧T.length≤6∧∀ x∈T,0≤x∧x<(cD t:Int))∧(v.2=10→w.2≠0):=by
 have hn:=hT.inn.n
 have he:=hT.inn.e
 obtain ⟨p,v1,v2,hp⟩:=hT.val
 have w:w64 ((t.Nodes.length:Int)+(t.Edges.length:Int))=(cD t:Int):=by rw [bS (by omega) (by omega)];unfold cD;omega
 exact cp l.length (by omega) (fun i m k=>∀ m' m'',l.length - i<m'→l.length - i<m''→∀ o:List (List Int),o.length=i→(∀ e∈o,e.length=cD t)→
   ∃ (v w:List (List Int) × Int) (T:List Int),n8 R t l m o k=some v∧nR R t l m' o k=some (v.1,T,v.2)∧ma R t l m'' o k=some w∧
   (v.2=0→w=v∧v.1.length=l.length∧(∀ e∈v.1,e.length=cD t)∧T.length≤6∧∀ x∈T,0≤x∧x<(cD t:Int))∧(v.2=10→w.2≠0)) (fun m m' m'' hm' rS o ho hoN=>by
   obtain ⟨m',rfl⟩:∃ k,m'=k+1:=⟨m' - 1,by omega⟩
   obtain ⟨m'',rfl⟩:∃ k,m''=k+1:=⟨m'' - 1,by omega⟩
   have e1:¬ ((l.length:Int)<l.length):=by omega
   obtain ⟨T,t1,t2,t3⟩:=I5 hn he o hoN (by omega)
   simp only [n8,nR,ma,e1,decide_false,Bool.false_eq_true,↓reduceIte,w,t1,t2,Option.bind_some]
   by_cases c:(6:Int)<T.length
   ·simp only [c,decide_true,↓reduceIte]
    exact ⟨_,_,[],rfl,rfl,rfl,fun h=>by simp at h,fun h=>by simp at h⟩
   ·simp only [c,decide_false,Bool.false_eq_true,↓reduceIte]
    exact ⟨_,_,T,rfl,rfl,rfl,fun _=>⟨rfl,ho,hoN,by omega,t3⟩,fun h=>by simp at h⟩) (fun m i hi ih m' m'' hm' rS o ho hoN=>by
   obtain ⟨m',rfl⟩:∃ k,m'=k+1:=⟨m' - 1,by omega⟩
   obtain ⟨m'',rfl⟩:∃ k,m''=k+1:=⟨m'' - 1,by omega⟩
   have e1:(i:Int)<l.length:=by omega
   obtain ⟨u,u1,u2,u3⟩:=Qs hq hT.ok l[i] (hl _ (List.getElem_mem hi))
   have u4:f48 R t l[i]=some u:=by
    unfold f48
    simp only [v1,hp,u1,Option.bind_some,show (!((0:Int) == 0))=false from rfl,Bool.false_eq_true,↓reduceIte]
   have hb:(o ++ [u.1]).length≤bound:=by unfold bound;simp;omega
   simp only [n8,nR,ma,e1,decide_true,↓reduceIte,bB,List.getElem?_eq_getElem hi,Option.bind_some,u1,u2,u4,hb]
   by_cases c:u.2=0
   ·have d:(!(u.2 == 0))=false:=by simp [c]
    simp only [d,Bool.false_eq_true,↓reduceIte]
    exact ih m' m'' (by omega) (by omega) _ (by simp [ho]) fun e he'=>by
     rw [List.mem_append,List.mem_singleton] at he'
     rcases he' with h | rfl
     ·exact hoN e h
     ·exact u3 c
   ·have d:(!(u.2 == 0))=true:=by simp [c]
    simp only [d,↓reduceIte]
    exact ⟨_,_,[],rfl,rfl,rfl,fun h=>absurd h c,fun h=>c⟩) 0 (Nat.zero_le _) ax (by rw [aL];omega) ax ax (by rw [aL];omega) (by rw [aL];omega) [] rfl (by simp)
end
end Go.S
end
section
set_option linter.all false
set_option maxRecDepth 10000
namespace Go.S
open Go Go.Pm
theorem aeP (a b:List Int) (h:a.length=b.length) (hl:a.length≤1000):∃ v,f115 a b=some v:=by
 unfold f115
 exact cp a.length (by omega) (fun i m k=>∀ s,∃ v,mG a b m s k=some v) (fun m s=>⟨s,by simp [mG]⟩) (fun m i hi ih s=>by
  have e1:(i:Int)<a.length:=by omega
  simp only [mG,e1,decide_true,↓reduceIte,bB,List.getElem?_eq_getElem hi,List.getElem?_eq_getElem (show i<b.length by omega),Option.bind_some]
  exact ih _) 0 (Nat.zero_le _) ax (by rw [aL];omega) 0
theorem aqz (all:List (List Int)) (w:List Int) (N:Nat) (hN:N≤1000) (ha:∀ e∈all,e.length=N) (hw:w.length=N) (hl:all.length≤1000):∃ b,f77 all w=some b:=by
 unfold f77 j0 jY
 rw [bX all (by omega) (fun m i=>dP all w m i) (fun i x r=>(iA x w).bind fun b=>if b then some (i:Int) else r) (some (-1)) (fun m=>by simp [dP]) (fun m i x hx=>by
  have hi:(i:Int)<all.length:=by have:=(List.getElem?_eq_some_iff.1 hx).1;omega
  simp only [dP,bB,hx,Option.bind_some,hi,decide_true,↓reduceIte]) (by rw [aL];omega)]
 obtain ⟨r,h1,_,_⟩:=cu (fun x=>iA x w) (fun e=>(iA e w).getD false) all (fun e he=>by
  obtain ⟨v,hv⟩:=aeP e w ((ha e he).trans hw.symm) (by rw [ha e he];exact hN)
  have:iA e w=some (decide (-1<v)):=by unfold iA;rw [hv];rfl
  rw [this];rfl) 0
 rw [h1];exact ⟨_,rfl⟩
structure Sc (all:List (List Int)) (T:List Int) (N:Nat):Prop where
 hN:N≤1000
 len:all.length≤1000
 all:∀ e∈all,e.length=N
 tl:T.length≤6
 t:∀ x∈T,0≤x∧x<(N:Int)
theorem aqA {all:List (List Int)} {T:List Int} {N:Nat} (h:Sc all T N) (l out:List Int) (hl:l.length=T.length) (ho:out.length=N):∃ o b,wa l T out all=some (o,b)∧o.length=N:=by
 have htl:=h.tl
 unfold wa
 exact cp T.length (by omega) (fun i m k=>∀ out:List Int,out.length=N→∃ o b,gX l T all m out k=some (o,b)∧o.length=N) (fun m out ho=>by
   have e1:¬ ((T.length:Int)<T.length):=by omega
   obtain ⟨b,hb⟩:=aqz all out N h.hN h.all ho h.len
   simp only [gX,e1,decide_false,Bool.false_eq_true,↓reduceIte,hb,Option.bind_some]
   exact ⟨out,b,rfl,ho⟩) (fun m i hi ih out ho=>by
   have e1:(i:Int)<T.length:=by omega
   have e2:(0:Int)≤i:=by omega
   have e3:(i:Int)<l.length:=by omega
   have hx:T[i]?=some T[i]:=List.getElem?_eq_getElem hi
   obtain ⟨q1,q2⟩:=h.t _ (List.getElem_mem hi)
   generalize T[i]=x at hx q1 q2
   have e4:x<(out.length:Int):=by omega
   have e5:x.toNat<out.length:=by omega
   simp only [gX,e1,e2,e3,q1,e4,decide_true,Bool.and_self,↓reduceIte,Int.toNat_natCast,hx,List.getElem?_eq_getElem (show i<l.length by omega),List.getElem?_eq_getElem e5,Option.bind_some]
   exact ih _ (by simp [ho])) 0 (Nat.zero_le _) ax (by rw [aL];omega) out ho
section
variable {R:bI} (m7:∀ a b c d e f g,R.f113_r0 a b c d e f g=fL R a b c d e f g)
include m7
theorem adZ {all:List (List Int)} {T:List Int} {N:Nat} (h:Sc all T N):∀ (d at':Nat),at'+d=T.length→∀ (rest:Int),0≤rest→rest≤36→∀ l out:List Int,l.length=T.length→out.length=N→
  ∃ l2 o2 b,R.f113_r0 l T out all at' rest (T.length:Int)=some (l2,o2,b)∧l2.length=T.length∧o2.length=N:=by
 have htl:=h.tl
 intro d
 induction d with
 | zero=>
  intro at' hat rest r0 r1 l out hl ho
  have e:((at':Int) == (T.length:Int))=true:=by rw [beq_iff_eq];omega
  rw [m7];unfold fL
  simp only [e,↓reduceIte]
  obtain ⟨o,b,q1,q2⟩:=aqA h l out hl ho
  by_cases c:(rest == 0)=true
  ·simp only [c,↓reduceIte,q1,Option.bind_some];exact ⟨l,o,b,rfl,hl,q2⟩
  ·simp only [c,Bool.false_eq_true,↓reduceIte];exact ⟨l,out,false,rfl,hl,ho⟩
 | succ d ih=>
  intro at' hat rest r0 r1 l out hl ho
  have e:((at':Int) == (T.length:Int))=false:=by rw [beq_eq_false_iff_ne];omega
  rw [m7];unfold fL
  simp only [e,Bool.false_eq_true,↓reduceIte]
  have w1:w64 ((T.length:Int) - (at':Int))=(T.length:Int) - at':=bS (by omega) (by omega)
  have w2:w64 ((T.length:Int) - (at':Int) - 1)=(T.length:Int) - at' - 1:=bS (by omega) (by omega)
  have w3:w64 ((6:Int)*((T.length:Int) - (at':Int) - 1))=(6:Int)*((T.length:Int) - (at':Int) - 1):=bS (by omega) (by omega)
  have w4:w64 (rest - (6:Int)*((T.length:Int) - (at':Int) - 1))=rest - (6:Int)*((T.length:Int) - (at':Int) - 1):=bS (by omega) (by omega)
  rw [w1,w2,w3,w4]
  generalize hs:(if (decide ((0:Int)<rest - (6:Int)*((T.length:Int) - (at':Int) - 1)))=true then (rest - (6:Int)*((T.length:Int) - (at':Int) - 1)) else (0:Int))=s
  have hs0:0≤s:=by
   rw [← hs];split
   ·rename_i hh;simp at hh;omega
   ·omega
  clear hs w1 w2 w3 w4
  have hw:w64 ((at':Int)+1)=((at'+1:Nat):Int):=fA (by omega)
  have L:∀ (c:Nat) (s:Int),0≤s→7 - s≤c→∀ m,c<m→∀ l out:List Int,l.length=T.length→out.length=N→
    ∃ l2 o2 b,eE R T all at' rest (T.length:Int) m l out s=some (l2,o2,b)∧l2.length=T.length∧o2.length=N:=by
   intro c
   induction c with
   | zero=>
    intro s s0 s1 m hm l out hl ho
    obtain ⟨m,rfl⟩:∃ k,m=k+1:=⟨m - 1,by omega⟩
    have e1:¬ (s≤(if (decide ((6:Int)<rest))=true then (6:Int) else rest)):=by
     split
     ·omega
     ·rename_i hh;simp at hh;omega
    simp only [eE,e1,decide_false,Bool.false_eq_true,↓reduceIte]
    exact ⟨l,out,false,rfl,hl,ho⟩
   | succ c ihc=>
    intro s s0 s1 m hm l out hl ho
    obtain ⟨m,rfl⟩:∃ k,m=k+1:=⟨m - 1,by omega⟩
    by_cases e1:s≤(if (decide ((6:Int)<rest))=true then (6:Int) else rest)
    ·have hsr:s≤rest∧s≤6:=by
      split at e1
      ·rename_i hh;simp at hh;omega
      ·rename_i hh;simp at hh;omega
     have e2:(0:Int)≤(at':Int):=by omega
     have e3:(at':Int)<(l.length:Int):=by omega
     have e4:at'<l.length:=by omega
     have wr:w64 (rest - s)=rest - s:=bS (by omega) (by omega)
     obtain ⟨l2,o2,b,q1,q2,q3⟩:=ih (at'+1) (by omega) (rest - s) (by omega) (by omega) (l.set at' s) out (by simp [hl]) ho
     unfold eE
     simp only [e1,e2,e3,decide_true,Bool.and_self,↓reduceIte,Int.toNat_natCast,List.getElem?_eq_getElem e4,Option.bind_some,hw,wr,q1]
     cases b with
     | true=>exact ⟨l2,o2,true,rfl,q2,q3⟩
     | false=>
      have ws:w64 (s+1)=s+1:=bS (by omega) (by omega)
      simp only [Bool.false_eq_true,↓reduceIte,ws]
      exact ihc (s+1) (by omega) (by omega) m (by omega) l2 o2 q2 q3
    ·unfold eE
     simp only [e1,decide_false,Bool.false_eq_true,↓reduceIte]
     exact ⟨l,out,false,rfl,hl,ho⟩
  exact L (7 - s).toNat s hs0 (by omega) ax (by rw [aL];omega) l out hl ho
theorem Td {all:List (List Int)} {T:List Int} {N:Nat} (h:Sc all T N) (out:List Int) (ho:out.length=N):∃ r,wb R T out all (T.length:Int)=some r:=by
 have htl:=h.tl
 unfold wb
 have b1:(0:Int)≤(T.length:Int):=by omega
 have b2:(T.length:Int)≤(bound:Int):=by unfold bound;omega
 simp only [b1,b2,and_self,decide_true,↓reduceIte,Int.toNat_natCast]
 have w1:w64 ((6:Int)*(T.length:Int))=(6:Int)*(T.length:Int):=bS (by omega) (by omega)
 have w2:w64 ((6:Int)*(T.length:Int)+1)=((6*T.length+1:Nat):Int):=by rw [bS (by omega) (by omega)];omega
 exact cp (6*T.length+1) (by omega) (fun i m k=>∀ l out:List Int,l.length=T.length→out.length=N→∃ r,gY R T all (T.length:Int) m out l k=some r) (fun m l out hl ho=>by
   have e1:¬ (((6*T.length+1:Nat):Int)<((6*T.length+1:Nat):Int)):=by omega
   simp only [gY,w1,w2,e1,decide_false,Bool.false_eq_true,↓reduceIte]
   exact ⟨_,rfl⟩) (fun m i hi ih l out hl ho=>by
   have e1:(i:Int)<((6*T.length+1:Nat):Int):=by omega
   obtain ⟨l2,o2,b,q1,q2,q3⟩:=adZ m7 h T.length 0 (by omega) (i:Int) (by omega) (by omega) l out hl ho
   rw [show ((0:Nat):Int)=0 from rfl] at q1
   simp only [gY,w1,w2,e1,decide_true,↓reduceIte,q1,Option.bind_some]
   cases b with
   | true=>exact ⟨_,rfl⟩
   | false=>
    simp only [Bool.false_eq_true,↓reduceIte]
    exact ih l2 o2 q2 q3) 0 (Nat.zero_le _) ax (by rw [aL];omega) (List.replicate T.length 0) out (by simp) ho
end
section
variable {R:bI} (hq:Eqs R) (m7:∀ a b c d e f g,R.f113_r0 a b c d e f g=fL R a b c d e f g)
include hq m7
theorem lk {t:Types} (ht:kA t) (l:List bJ) (hl:∀ r∈l,kN r) (hll:l.length≤1048576) :
  ∃ v w:List (List Int) × Int,f26 R t l=some v∧f30 R t l=some w∧(v.2=0→w=v∧TR R t∧v.1.length=l.length∧l.length≤6∧∀ e∈v.1,e.length=cD t)∧(v.2≠0→w.2≠0):=by
 obtain ⟨p,v1,v2,v3⟩:=yw hq.h148 hq.h101 ht
 by_cases c0:p.2=0
 ·have hT:TR R t:=⟨ht,v3 c0,p,v1,v2,c0⟩
  have d0:(!(p.2 == 0))=false:=by simp [c0]
  by_cases c1:(6:Int)<l.length
  ·refine ⟨([],3),([],3),?_,?_,fun h=>by simp at h,fun _=>by simp⟩
   ·unfold f26;simp only [v2,Option.bind_some,d0,c1,decide_true,Bool.false_eq_true,↓reduceIte]
   ·unfold f30 f47 f74;simp only [v1,Option.bind_some,d0,c1,decide_true,Bool.false_eq_true,↓reduceIte,show (!((3:Int) == 0))=true from rfl,show (!((3:Int) == 10))=true from rfl]
  ·obtain ⟨v,w,T,g1,g2,g3,g4,g5⟩:=aeW hq hT l hl (by omega)
   have hn:=hT.inn.n
   have he:=hT.inn.e
   have V:f26 R t l=some v:=by unfold f26;simp only [v2,Option.bind_some,d0,c1,decide_false,Bool.false_eq_true,↓reduceIte,g1]
   have W:f74 R t l=some (v.1,T,v.2):=by unfold f74;simp only [v1,Option.bind_some,d0,c1,decide_false,Bool.false_eq_true,↓reduceIte,g2]
   by_cases c2:v.2=0
   ·obtain ⟨k1,k2,k3,k4,k5⟩:=g4 c2
    have d2:(!(v.2 == 0))=false:=by simp [c2]
    have w1:w64 ((t.Nodes.length:Int)+(t.Edges.length:Int))=(cD t:Int):=by rw [bS (by omega) (by omega)];unfold cD;omega
    have hNe:cD t≤32:=by unfold cD;omega
    have b1:(0:Int)≤(cD t:Int):=by omega
    have b2:(cD t:Int)≤(bound:Int):=by unfold bound;omega
    obtain ⟨r,hr⟩:=Td m7 (all:=v.1) (T:=T) (N:=cD t) ⟨by omega,by omega,k3,k4,k5⟩ (List.replicate (cD t) 0) (by simp)
    have F:∃ u:List Int,f47 R t l=some (u,10)∨f47 R t l=some (u,0):=by
     unfold f47
     simp only [W,Option.bind_some,d2,Bool.false_eq_true,↓reduceIte,w1,b1,b2,and_self,decide_true,Int.toNat_natCast,hr]
     split
     ·split
      ·exact ⟨_,.inl rfl⟩
      ·exact ⟨_,.inr rfl⟩
     ·split
      ·exact ⟨_,.inl rfl⟩
      ·exact ⟨_,.inr rfl⟩
    refine ⟨v,w,V,?_,fun _=>⟨k1,hT,k2,by omega,k3⟩,fun h=>absurd c2 h⟩
    obtain ⟨u,hu | hu⟩:=F
    ·unfold f30;simp only [hu,Option.bind_some,show (!((10:Int) == 0))=true from rfl,show (!((10:Int) == 10))=false from rfl,Bool.false_eq_true,↓reduceIte,g3]
    ·unfold f30;simp only [hu,Option.bind_some,show (!((0:Int) == 0))=false from rfl,Bool.false_eq_true,↓reduceIte,g3]
   ·have d2:(!(v.2 == 0))=true:=by simp [c2]
    have F:f47 R t l=some ([],v.2):=by unfold f47;simp only [W,Option.bind_some,d2,↓reduceIte]
    by_cases c3:v.2=10
    ·have d3:(!(v.2 == 10))=false:=by simp [c3]
     refine ⟨v,w,V,?_,fun h=>absurd h c2,fun _=>g5 c3⟩
     unfold f30;simp only [F,Option.bind_some,d2,d3,Bool.false_eq_true,↓reduceIte,g3]
    ·have d3:(!(v.2 == 10))=true:=by simp [c3]
     refine ⟨v,([],v.2),V,?_,fun h=>absurd h c2,fun _=>c2⟩
     unfold f30;simp only [F,Option.bind_some,d2,d3,↓reduceIte]
 ·have d0:(!(p.2 == 0))=true:=by simp [c0]
  have d1:(!(p.2 == 10))=true:=by
   have:=n44 R t p v2
   simp [this]
  refine ⟨([],p.2),([],p.2),?_,?_,fun h=>absurd h c0,fun _=>c0⟩
  ·unfold f26;simp only [v2,Option.bind_some,d0,↓reduceIte]
  ·unfold f30 f47 f74;simp only [v1,Option.bind_some,d0,d1,↓reduceIte]
end
end Go.S
end
section
set_option linter.all false
set_option maxRecDepth 10000
namespace Go.S
open Go Go.Pm
theorem abR (w e:List Int) (h:w.length=e.length) (hl:w.length≤1000):∃ v,f33 w e=some v∧f80 w e=some v:=by
 unfold f33 f80
 exact cp w.length (by omega) (fun i m k=>∀ m',w.length - i<m'→∀ s,∃ v,pT w e m s k=some v∧pG w e m' s k=some v) (fun m m' hm' s=>by
  obtain ⟨m',rfl⟩:∃ k,m'=k+1:=⟨m' - 1,by omega⟩
  exact ⟨s,by simp [pT],by simp [pG]⟩) (fun m i hi ih m' hm' s=>by
  obtain ⟨m',rfl⟩:∃ k,m'=k+1:=⟨m' - 1,by omega⟩
  have e1:(i:Int)<w.length:=by omega
  simp only [pT,pG,e1,decide_true,↓reduceIte,bB,List.getElem?_eq_getElem hi,List.getElem?_eq_getElem (show i<e.length by omega),Option.bind_some]
  exact ih m' (by omega) _) 0 (Nat.zero_le _) ax (by rw [aL];omega) ax (by rw [aL];omega) 0
theorem aqD (l:List Int) (n:Int) (h:l.length≤1048576):f52 l n=some (decide (n∈l)):=by
 unfold f52
 rw [bX l (by omega) (fun m i=>pK l n m i) (fun i x k=>if (x == n)=true then some true else k) (some false) (fun m=>by simp [pK]) (fun m i x hx=>by
  have hi:(i:Int)<l.length:=by have:=(List.getElem?_eq_some_iff.1 hx).1;omega
  simp only [pK,bB,hx,Option.bind_some,hi,decide_true,↓reduceIte]) (by rw [aL];omega),walk_stop (fun x:Int=>x == n)]
 have:(l.any fun x=>x == n)=decide (n∈l):=by rw [Bool.eq_iff_iff];simp
 rw [this];split <;> simp_all
theorem PK (s:List Int) (h:s.length≤4000000000):nZ s=some (s.any fun n=>decide (n<0)||decide (1000<n)):=by
 unfold nZ qS
 rw [bX s (by omega) (fun m i=>fg s m i) (fun i x k=>(f32 x).bind fun b=>if b then some (i:Int) else k) (some (-1)) (fun m=>by simp [fg]) (fun m i x hx=>by
  have hi:(i:Int)<s.length:=by have:=(List.getElem?_eq_some_iff.1 hx).1;omega
  simp only [fg,bB,hx,Option.bind_some,hi,decide_true,↓reduceIte]) (by rw [aL];omega)]
 obtain ⟨r,h1,h2,_⟩:=cu f32 (fun n=>decide (n<0)||decide ((1000:Int)<n)) s (fun a _=>by unfold f32;by_cases h:a<0 <;> simp [h]) 0
 rw [h1,Option.bind_some,contains_of h2]
structure Sc2 (di:List (List Int)) (w:List Int) (P:Nat→Int):Prop where
 len:di.length≤6
 p:∀ i,∀ h:i<di.length,f33 w di[i]=some (P i)∧f80 w di[i]=some (P i)
def okB (left:List Bool) (P:Nat→Int) (n:Nat):Bool:=(List.range n).all fun i=>!(left.getD i false)||decide (P i≤0)
def okK (left:List Bool) (P:Nat→Int) (n:Nat) (k:Int):Bool:=decide (0≤k∧k<(n:Int))&&(left.getD k.toNat false&&decide (P k.toNat<0))
open Classical in
noncomputable def okA (left:List Bool) (P:Nat→Int) (n:Nat) (rm:List Int):Bool:=(rm.all fun k=>okK left P n k)&&decide (∀ j,∀ h:j+1<rm.length,rm[j]<rm[j+1])
theorem getD_some {left:List Bool} {n i:Nat} (hl:left.length=n) (hi:i<n):left[i]?=some (left.getD i false):=by
 rw [List.getD_eq_getElem?_getD,List.getElem?_eq_getElem (by omega)];rfl
theorem alJ {di:List (List Int)} {w:List Int} {P:Nat→Int} (h:Sc2 di w P) {left:List Bool} (hl:left.length=di.length) :
  ∃ v:List Int × Bool,f51 di left w=some v∧v.2=okB left P di.length∧(v.2=true→∀ k:Int,k∈v.1↔okK left P di.length k=true)∧v.1.length≤6:=by
 have h6:=h.len
 unfold f51
 have D:=cp di.length (by omega) (fun i m k=>∀ o:List Int,o.length≤i→(∀ k:Int,k∈o↔okK left P di.length k=true∧k<(i:Int))→((List.range i).all fun i=>!(left.getD i false)||decide (P i≤0))=true→
   ∃ v:List Int × Bool,l8 di left w m o k=some v∧v.2=okB left P di.length∧(v.2=true→∀ k:Int,k∈v.1↔okK left P di.length k=true)∧v.1.length≤6) (fun m o ho hk hp=>by
   have e1:¬ ((di.length:Int)<di.length):=by omega
   simp only [l8,e1,decide_false,Bool.false_eq_true,↓reduceIte]
   refine ⟨(o,true),rfl,hp.symm,fun _ k=>?_,by show o.length≤6;omega⟩
   rw [hk k]
   constructor
   ·exact fun h=>h.1
   ·intro hh
    refine ⟨hh,?_⟩
    unfold okK at hh
    simp only [Bool.and_eq_true,decide_eq_true_eq] at hh
    exact hh.1.2) (fun m i hi ih o ho hk hp=>by
   have e1:(i:Int)<di.length:=by omega
   obtain ⟨p1,p2⟩:=h.p i hi
   have hrange:(List.range (i+1)).all (fun i=>!(left.getD i false)||decide (P i≤0))=((List.range i).all (fun i=>!(left.getD i false)||decide (P i≤0))&&(!(left.getD i false)||decide (P i≤0))):=by
    rw [List.range_succ,List.all_append];simp
   have hkk:∀ k:Int,okK left P di.length k=true∧k<((i+1:Nat):Int)↔(okK left P di.length k=true∧k<(i:Int))∨(okK left P di.length (i:Int)=true∧k=i):=fun k=>by
    constructor
    ·rintro ⟨a,b⟩
     by_cases c:k<(i:Int)
     ·exact .inl ⟨a,c⟩
     ·have:k=i:=by omega
      subst this;exact .inr ⟨a,rfl⟩
    ·rintro (⟨a,b⟩ | ⟨a,rfl⟩)
     ·exact ⟨a,by omega⟩
     ·exact ⟨a,by omega⟩
   have hok:okK left P di.length (i:Int)=(left.getD i false&&decide (P i<0)):=by
    unfold okK;simp only [Int.toNat_natCast]
    have:(0:Int)≤i∧(i:Int)<(di.length:Int):=by omega
    simp [this]
   simp only [l8,e1,decide_true,↓reduceIte,bB,getD_some hl hi,List.getElem?_eq_getElem hi,Option.bind_some,p2]
   cases hb:left.getD i false with
   | false=>
    simp only [Bool.not_false,↓reduceIte]
    refine ih o (by omega) (fun k=>?_) (by rw [hrange,hp,hb];rfl)
    rw [hk k,hkk k,hok,hb];simp
   | true=>
    simp only [Bool.not_true,Bool.false_eq_true,↓reduceIte]
    by_cases c1:(0:Int)<P i
    ·simp only [c1,decide_true,↓reduceIte]
     refine ⟨([],false),rfl,?_,fun h=>(by cases h),by simp⟩
     symm
     unfold okB
     rw [List.all_eq_false]
     refine ⟨i,List.mem_range.2 hi,?_⟩
     have:¬ (P i≤0):=by omega
     show ¬ ((!(left.getD i false)||decide (P i≤0))=true)
     rw [hb];simp [this]
    ·have c1':P i≤0:=by omega
     simp only [c1,decide_false,Bool.false_eq_true,↓reduceIte]
     by_cases c2:P i<0
     ·have hbd:(o ++ [(i:Int)]).length≤bound:=by unfold bound;simp;omega
      simp only [c2,decide_true,↓reduceIte,hbd]
      refine ih (o ++ [(i:Int)]) (by simp;omega) (fun k=>?_) (by rw [hrange,hp,hb];simp [c1'])
      rw [List.mem_append,hk k,hkk k,hok,hb,List.mem_singleton];simp [c2]
     ·simp only [c2,decide_false,Bool.false_eq_true,↓reduceIte]
      refine ih o (by omega) (fun k=>?_) (by rw [hrange,hp,hb];simp [c1'])
      rw [hk k,hkk k,hok,hb];simp [c2]) 0 (Nat.zero_le _) ax (by rw [aL];omega) [] (Nat.zero_le _) (fun k=>?_) rfl
 ·exact D
 ·constructor
  ·intro h;cases h
  ·rintro ⟨h1,h2⟩
   unfold okK at h1
   simp only [Bool.and_eq_true,decide_eq_true_eq] at h1
   exact absurd h1.1.1 (by simp at h2;omega)
theorem CB {rm:List Int} {i:Nat} (hi:i<rm.length):(∀ j,∀ h:j+1<rm.length,j+1<i+1→rm[j]<rm[j+1])↔(∀ j,∀ h:j+1<rm.length,j+1<i→rm[j]<rm[j+1])∧(∀ h:0<i,rm[i - 1]'(by omega)<rm[i]):=by
 constructor
 ·intro h
  refine ⟨fun j hj h2=>h j hj (by omega),fun h0=>?_⟩
  have:=h (i - 1) (by omega) (by omega)
  simpa [show i - 1+1=i by omega] using this
 ·rintro ⟨h1,h2⟩ j hj hji
  rcases Nat.lt_or_eq_of_le (Nat.le_of_lt_succ hji) with q | q
  ·exact h1 j hj q
  ·subst q;exact h2 (by omega)
theorem lL {left:List Bool} {P:Nat→Int} {n:Nat} {rm:List Int}:okA left P n rm=true↔(∀ j,∀ h:j<rm.length,okK left P n rm[j]=true)∧∀ j,∀ h:j+1<rm.length,rm[j]<rm[j+1]:=by
 unfold okA
 rw [Bool.and_eq_true,List.all_eq_true,@decide_eq_true_eq _ (Classical.propDecidable _)]
 constructor
 ·rintro ⟨h1,h2⟩;exact ⟨fun j hj=>h1 _ (List.getElem_mem hj),h2⟩
 ·rintro ⟨h1,h2⟩
  refine ⟨fun x hx=>?_,h2⟩
  obtain ⟨j,hj,rfl⟩:=List.mem_iff_getElem.1 hx
  exact h1 j hj
theorem alL {rules:List bJ} {x0:List (List Int) × Int} {st:bW} {P:Nat→Int} (h:Sc2 x0.1 st.Weights P) {left:List Bool} (hl:left.length=x0.1.length) (hr:rules.length=x0.1.length) (hrm:st.Removed.length≤1048576) (v:Int) (k2:List Bool→Int→Option Bool) :
  f10_l4 rules x0 left v st k2 ax 0=if okA left P x0.1.length st.Removed=true then f10_l6 rules x0 left v st k2 ax 0 else some false:=by
 have h6:=h.len
 have D:=cp st.Removed.length (by omega) (fun i m k=>(∀ j,∀ h:j<st.Removed.length,j<i→okK left P x0.1.length st.Removed[j]=true)→(∀ j,∀ h:j+1<st.Removed.length,j+1<i→st.Removed[j]<st.Removed[j+1])→
   f10_l4 rules x0 left v st k2 m k=if okA left P x0.1.length st.Removed=true then f10_l6 rules x0 left v st k2 ax 0 else some false) (fun m h1 h2=>by
   have e1:¬ ((st.Removed.length:Int)<st.Removed.length):=by omega
   have hA:okA left P x0.1.length st.Removed=true:=lL.2 ⟨fun j hj=>h1 j hj hj,fun j hj=>h2 j hj hj⟩
   simp only [f10_l4,e1,hA,decide_false,Bool.false_eq_true,↓reduceIte]) (fun m i hi ih h1 h2=>by
   have e1:(i:Int)<st.Removed.length:=by omega
   have hx:st.Removed[i]?=some st.Removed[i]:=List.getElem?_eq_getElem hi
   obtain ⟨k,hk⟩:∃ k,k=st.Removed[i]:=⟨_,rfl⟩
   have bad:okK left P x0.1.length k=false→okA left P x0.1.length st.Removed=false:=fun hh=>by
    cases ha:okA left P x0.1.length st.Removed with
    | false=>rfl
    | true=>
     have:=(lL.1 ha).1 i hi
     rw [← hk,hh] at this;cases this
   have bad2:∀ h0:0<i,¬ (st.Removed[i - 1]'(by omega)<k)→okA left P x0.1.length st.Removed=false:=fun h0 hh=>by
    cases ha:okA left P x0.1.length st.Removed with
    | false=>rfl
    | true=>
     have:=(lL.1 ha).2 (i - 1) (by omega)
     simp only [show i - 1+1=i by omega] at this
     rw [hk] at hh;exact absurd this hh
   rw [← hk] at hx
   simp only [f10_l4,e1,decide_true,↓reduceIte,bB,hx,Option.bind_some,hr]
   by_cases c1:k<0
   ·have:okK left P x0.1.length k=false:=by
     unfold okK;have:¬ (0≤k∧k<(x0.1.length:Int)):=by omega
     simp [this]
    simp only [c1,bad this,decide_true,Bool.false_eq_true,↓reduceIte]
   ·by_cases c2:(x0.1.length:Int)≤k
    ·have:okK left P x0.1.length k=false:=by
      unfold okK;have:¬ (0≤k∧k<(x0.1.length:Int)):=by omega
      simp [this]
     simp only [c1,c2,bad this,decide_true,decide_false,Bool.false_eq_true,↓reduceIte]
    ·obtain ⟨q,hq⟩:∃ q:Nat,k=q:=⟨k.toNat,by omega⟩
     have hqn:q<x0.1.length:=by omega
     have d1:(0:Int)≤k:=by omega
     have d2:k<(left.length:Int):=by omega
     have d3:k<(x0.1.length:Int):=by omega
     obtain ⟨p1,p2⟩:=h.p q hqn
     have hok:okK left P x0.1.length k=(left.getD q false&&decide (P q<0)):=by
      unfold okK;have:0≤k∧k<(x0.1.length:Int):=by omega
      have e:k.toNat=q:=by omega
      simp [this,e]
     have e:k.toNat=q:=by omega
     simp only [c1,c2,d1,d2,d3,decide_true,decide_false,Bool.and_self,Bool.false_eq_true,↓reduceIte,e,getD_some hl hqn,List.getElem?_eq_getElem hqn,Option.bind_some,p1]
     cases hb:left.getD q false with
     | false=>
      have:=bad (by rw [hok,hb];rfl)
      simp only [this,Bool.not_false,Bool.false_eq_true,↓reduceIte]
     | true=>
      simp only [Bool.not_true,Bool.false_eq_true,↓reduceIte]
      have fin:okK left P x0.1.length k=true→(∀ h0:0<i,st.Removed[i - 1]'(by omega)<k)→f10_l4 rules x0 left v st k2 m (w64 ((i:Int)+1))=if okA left P x0.1.length st.Removed=true then f10_l6 rules x0 left v st k2 ax 0 else some false:=fun hh hh2=>
       ih (fun j hj hji=>by
        rcases Nat.lt_or_eq_of_le (Nat.le_of_lt_succ hji) with a | a
        ·exact h1 j hj a
        ·subst a;rw [← hk];exact hh) ((CB hi).2 ⟨h2,fun h0=>by rw [← hk];exact hh2 h0⟩)
      have T:(∀ h0:0<i,st.Removed[i - 1]'(by omega)<k)→(if decide ((0:Int)≤P q)=true then some false else f10_l4 rules x0 left v st k2 m (w64 ((i:Int)+1)))=if okA left P x0.1.length st.Removed=true then f10_l6 rules x0 left v st k2 ax 0 else some false:=fun hh2=>by
       by_cases c4:(0:Int)≤P q
       ·have:=bad (by
                rw [hok,hb];have:¬ (P q<0):=by omega
                simp [this])
        simp only [c4,this,decide_true,Bool.false_eq_true,↓reduceIte]
       ·simp only [c4,decide_false,Bool.false_eq_true,↓reduceIte]
        refine fin ?_ hh2
        rw [hok,hb];have:P q<0:=by omega
        simp [this]
      by_cases c3:(0:Int)<i
      ·have w:w64 ((i:Int) - 1)=((i - 1:Nat):Int):=by rw [bS (by omega) (by omega)];omega
       have hi1:i - 1<st.Removed.length:=by omega
       simp only [c3,decide_true,↓reduceIte,w,bB,List.getElem?_eq_getElem hi1,Option.bind_some]
       by_cases c5:k≤st.Removed[i - 1]
       ·have:=bad2 (by omega) (by omega)
        simp only [c5,this,decide_true,Bool.false_eq_true,↓reduceIte]
       ·simp only [c5,decide_false,Bool.false_eq_true,↓reduceIte]
        exact T fun _=>by omega
      ·simp only [c3,decide_false,Bool.false_eq_true,↓reduceIte]
       exact T fun h0=>by omega) 0 (Nat.zero_le _) ax (by rw [aL];omega)
 exact D (fun j hj h=>by omega) (fun j hj h=>by omega)
theorem alK {rules:List bJ} {x0:List (List Int) × Int} {st:bW} {P:Nat→Int} (h:Sc2 x0.1 st.Weights P) {left:List Bool} (hl:left.length=x0.1.length) (hr:rules.length=x0.1.length) (v:Int) (k2:List Bool→Int→Option Bool) :
  f10_l6 rules x0 left v st k2 ax 0=if okB left P x0.1.length=true then kK v st k2 ax left 0 else some false:=by
 have h6:=h.len
 have D:=cp x0.1.length (by omega) (fun i m k=>((List.range i).all fun i=>!(left.getD i false)||decide (P i≤0))=true→f10_l6 rules x0 left v st k2 m k=if okB left P x0.1.length=true then kK v st k2 ax left 0 else some false) (fun m hp=>by
   have e1:¬ ((x0.1.length:Int)<x0.1.length):=by omega
   have hB:okB left P x0.1.length=true:=hp
   simp only [f10_l6,hr,e1,hB,decide_false,Bool.false_eq_true,↓reduceIte]) (fun m i hi ih hp=>by
   have e1:(i:Int)<x0.1.length:=by omega
   have e2:(0:Int)≤i:=by omega
   have e3:(i:Int)<left.length:=by omega
   obtain ⟨p1,p2⟩:=h.p i hi
   have hrange:(List.range (i+1)).all (fun i=>!(left.getD i false)||decide (P i≤0))=((List.range i).all (fun i=>!(left.getD i false)||decide (P i≤0))&&(!(left.getD i false)||decide (P i≤0))):=by
    rw [List.range_succ,List.all_append];simp
   simp only [f10_l6,hr,e1,e2,e3,decide_true,Bool.and_self,↓reduceIte,Int.toNat_natCast,getD_some hl hi,List.getElem?_eq_getElem hi,Option.bind_some,p1]
   cases hb:left.getD i false with
   | false=>
    simp only [Bool.false_eq_true,↓reduceIte]
    exact ih (by rw [hrange,hp,hb];rfl)
   | true=>
    simp only [↓reduceIte]
    by_cases c1:(0:Int)<P i
    ·have:okB left P x0.1.length=false:=by
      unfold okB
      rw [List.all_eq_false]
      refine ⟨i,List.mem_range.2 hi,?_⟩
      have:¬ (P i≤0):=by omega
      show ¬ ((!(left.getD i false)||decide (P i≤0))=true)
      rw [hb];simp [this]
     simp only [c1,this,decide_true,Bool.false_eq_true,↓reduceIte]
    ·have c1':P i≤0:=by omega
     simp only [c1,decide_false,Bool.false_eq_true,↓reduceIte]
     exact ih (by rw [hrange,hp,hb];simp [c1'])) 0 (Nat.zero_le _) ax (by rw [aL];omega)
 exact D rfl
theorem M5 {st:bW} {P:Nat→Int} {n:Nat} (hn:n≤6) {left:List Bool} (hl:left.length=n) (hA:okA left P n st.Removed=true) (v:Int) (k2:List Bool→Int→Option Bool) (l:List bW) (kk:Int) (hkk:at? l kk=some st) (k3:List Bool→Int→Int→Option Bool) (hrm:st.Removed.length≤1048576) :
  ∃ left':List Bool,left'.length=n∧kK v st k2 ax left 0=k2 left' (w64 (v+1))∧oh l kk k3 ax left ((left.count true:Nat):Int) 0=k3 left' ((left'.count true:Nat):Int) (w64 (kk+1)):=by
 obtain ⟨hA1,hA2⟩:=lL.1 hA
 have hmono:∀ i j,∀ hi:i<st.Removed.length,∀ hj:j<st.Removed.length,i<j→st.Removed[i]<st.Removed[j]:=by
  intro i j hi hj hij
  induction j with
  | zero=>omega
  | succ j ih=>
   have h1:=hA2 j hj
   rcases Nat.lt_or_eq_of_le (Nat.le_of_lt_succ hij) with q | q
   ·have:=ih (by omega) q;omega
   ·subst q;exact h1
 exact cp st.Removed.length (by omega) (fun i m k=>∀ m',st.Removed.length - i<m'→∀ left:List Bool,left.length=n→(∀ j,∀ h:j<st.Removed.length,i≤j→left.getD st.Removed[j].toNat false=true)→
   ∃ left':List Bool,left'.length=n∧kK v st k2 m left k=k2 left' (w64 (v+1))∧oh l kk k3 m' left ((left.count true:Nat):Int) k=k3 left' ((left'.count true:Nat):Int) (w64 (kk+1))) (fun m m' hm' left hl hlt=>by
   obtain ⟨m',rfl⟩:∃ k,m'=k+1:=⟨m' - 1,by omega⟩
   have e1:¬ ((st.Removed.length:Int)<st.Removed.length):=by omega
   refine ⟨left,hl,?_,?_⟩
   ·simp only [kK,e1,decide_false,Bool.false_eq_true,↓reduceIte]
   ·simp only [oh,hkk,Option.bind_some,e1,decide_false,Bool.false_eq_true,↓reduceIte]) (fun m i hi ih m' hm' left hl hlt=>by
   obtain ⟨m',rfl⟩:∃ k,m'=k+1:=⟨m' - 1,by omega⟩
   have e1:(i:Int)<st.Removed.length:=by omega
   have hok:=hA1 i hi
   unfold okK at hok
   simp only [Bool.and_eq_true,decide_eq_true_eq] at hok
   obtain ⟨⟨r1,r2⟩,_,_⟩:=hok
   have hx:st.Removed[i]?=some st.Removed[i]:=List.getElem?_eq_getElem hi
   have Zd:=hlt i hi (Nat.le_refl _)
   have r3:st.Removed[i]<(left.length:Int):=by omega
   have r4:st.Removed[i].toNat<left.length:=by omega
   have hgt:left[st.Removed[i].toNat]=true:=by
    rw [List.getD_eq_getElem?_getD,List.getElem?_eq_getElem r4] at Zd;exact Zd
   have hcnt:(left.set st.Removed[i].toNat false).count true=left.count true - 1:=by
    rw [List.count_set r4,hgt];simp
   have hpos:0<left.count true:=List.count_pos_iff.2 (hgt▸List.getElem_mem r4)
   have hle:left.count true≤n:=hl▸List.count_le_length
   have wc:w64 (((left.count true:Nat):Int) - 1)=(((left.set st.Removed[i].toNat false).count true:Nat):Int):=by rw [bS (by omega) (by omega),hcnt];omega
   have I:=ih m' (by omega) (left.set st.Removed[i].toNat false) (by simp [hl]) fun j hj hij=>by
    have hlt2:=hmono i j hi hj (by omega)
    have hok2:=hA1 j hj
    unfold okK at hok2
    simp only [Bool.and_eq_true,decide_eq_true_eq] at hok2
    have:=hlt j hj (by omega)
    rw [List.getD_eq_getElem?_getD,List.getElem?_set,if_neg (by omega),← List.getD_eq_getElem?_getD]
    exact this
   obtain ⟨left',q1,q2,q3⟩:=I
   refine ⟨left',q1,?_,?_⟩
   ·simp only [kK,e1,decide_true,↓reduceIte,bB,hx,Option.bind_some,r1,r3,Bool.and_self,List.getElem?_eq_getElem r4]
    exact q2
   ·simp only [oh,hkk,Option.bind_some,e1,decide_true,↓reduceIte,bB,hx,r1,r3,Bool.and_self,List.getElem?_eq_getElem r4,wc]
    exact q3) 0 (Nat.zero_le _) ax (by rw [aL];omega) ax (by rw [aL];omega) left hl fun j hj _=>by
   have:=hA1 j hj
   unfold okK at this
   simp only [Bool.and_eq_true] at this
   exact this.2.1
theorem JH {di:List (List Int)} {st:bW} {P:Nat→Int} (h:Sc2 di st.Weights P) {left:List Bool} (hl:left.length=di.length) (N:Nat) (hN:N≤1000) (hrm:st.Removed.length≤1048576) (hw:st.Weights.length=N) (h0:st.Removed.length≠0) :
  f35 di left st N=some (!(st.Weights.any fun n=>decide (n<0)||decide (1000<n))&&(okB left P di.length&&okA left P di.length st.Removed)):=by
 obtain ⟨x,x1,x2,x3,x4⟩:=alJ h hl
 have c1:(!((st.Weights.length:Int) == (N:Int)))=false:=by simp [hw]
 have c2:((st.Removed.length:Int) == 0)=false:=by rw [beq_eq_false_iff_ne];omega
 have A:x.2=true→f35_l2 st x ax 0=some (okA left P di.length st.Removed):=fun hx2=>by
  have D:=cp st.Removed.length (by omega) (fun i m k=>(∀ j,∀ h:j<st.Removed.length,j<i→okK left P di.length st.Removed[j]=true)→(∀ j,∀ h:j+1<st.Removed.length,j+1<i→st.Removed[j]<st.Removed[j+1])→
    f35_l2 st x m k=some (okA left P di.length st.Removed)) (fun m h1 h2=>by
    have e1:¬ ((st.Removed.length:Int)<st.Removed.length):=by omega
    have hA:okA left P di.length st.Removed=true:=lL.2 ⟨fun j hj=>h1 j hj hj,fun j hj=>h2 j hj hj⟩
    simp only [f35_l2,e1,hA,decide_false,Bool.false_eq_true,↓reduceIte]) (fun m i hi ih h1 h2=>by
    have e1:(i:Int)<st.Removed.length:=by omega
    have hx:st.Removed[i]?=some st.Removed[i]:=List.getElem?_eq_getElem hi
    have hmem:=x3 hx2 st.Removed[i]
    simp only [f35_l2,e1,decide_true,↓reduceIte,bB,hx,Option.bind_some,aqD x.1 _ (by omega)]
    by_cases c:st.Removed[i]∈x.1
    ·have hk:=hmem.1 c
     simp only [c,decide_true,Bool.not_true,Bool.false_eq_true,↓reduceIte]
     have fin:(∀ h0:0<i,st.Removed[i - 1]'(by omega)<st.Removed[i])→f35_l2 st x m (w64 ((i:Int)+1))=some (okA left P di.length st.Removed):=fun hh2=>
      ih (fun j hj hji=>by
       rcases Nat.lt_or_eq_of_le (Nat.le_of_lt_succ hji) with a | a
       ·exact h1 j hj a
       ·subst a;exact hk) ((CB hi).2 ⟨h2,hh2⟩)
     by_cases c3:(0:Int)<i
     ·have w:w64 ((i:Int) - 1)=((i - 1:Nat):Int):=by rw [bS (by omega) (by omega)];omega
      have hi1:i - 1<st.Removed.length:=by omega
      simp only [c3,decide_true,↓reduceIte,w,bB,List.getElem?_eq_getElem hi1,Option.bind_some]
      by_cases c5:st.Removed[i]≤st.Removed[i - 1]
      ·have:okA left P di.length st.Removed=false:=by
        cases ha:okA left P di.length st.Removed with
        | false=>rfl
        | true=>
         have:=(lL.1 ha).2 (i - 1) (by omega)
         simp only [show i - 1+1=i by omega] at this
         omega
       simp only [c5,this,decide_true,↓reduceIte]
      ·simp only [c5,decide_false,Bool.false_eq_true,↓reduceIte]
       exact fin fun _=>by omega
     ·simp only [c3,decide_false,Bool.false_eq_true,↓reduceIte]
      exact fin fun h0=>by omega
    ·have:okA left P di.length st.Removed=false:=by
      cases ha:okA left P di.length st.Removed with
      | false=>rfl
      | true=>exact absurd (hmem.2 ((lL.1 ha).1 i hi)) c
     simp only [c,this,decide_false,Bool.not_false,↓reduceIte]) 0 (Nat.zero_le _) ax (by rw [aL];omega)
  exact D (fun j hj h=>by omega) (fun j hj h=>by omega)
 have B:(f51 di left st.Weights).bind (fun x3=>if (!x3.2)=true then some false else f35_l2 st x3 ax 0)=some (okB left P di.length&&okA left P di.length st.Removed):=by
  rw [x1,Option.bind_some,← x2]
  cases hx2:x.2 with
  | false=>simp only [Bool.not_false,↓reduceIte,Bool.false_and]
  | true=>simp only [Bool.not_true,Bool.false_eq_true,↓reduceIte,Bool.true_and,A hx2]
 unfold f35
 simp only [c1,c2,Bool.false_eq_true,↓reduceIte]
 have W:=loop_up (fun m i=>pS di left st N m i) N (by omega) (fun i r=>r=some (!((st.Weights.drop i).any fun n=>decide (n<0)||decide (1000<n))&&(okB left P di.length&&okA left P di.length st.Removed))) (fun m=>by
   have e1:¬ ((N:Int)<(N:Int)):=by omega
   have e2:st.Weights.drop N=[]:=by rw [← hw];simp
   simp only [pS,e1,e2,decide_false,Bool.false_eq_true,↓reduceIte,List.any_nil,Bool.not_false,Bool.true_and]
   exact B) (fun m i hi ih=>by
   have e1:(i:Int)<(N:Int):=by omega
   have hiw:i<st.Weights.length:=by omega
   rw [List.drop_eq_getElem_cons hiw]
   simp only [pS,e1,decide_true,↓reduceIte,bB,List.getElem?_eq_getElem hiw,Option.bind_some,List.any_cons]
   by_cases a:st.Weights[i]<0
   ·simp only [a,decide_true,↓reduceIte,Bool.true_or,Bool.not_true,Bool.false_and]
   ·by_cases b:(1000:Int)<st.Weights[i]
    ·simp only [a,b,decide_true,decide_false,Bool.false_eq_true,↓reduceIte,Bool.or_true,Bool.true_or,Bool.not_true,Bool.false_and]
    ·simp only [a,b,decide_false,Bool.false_eq_true,↓reduceIte,Bool.false_or]
     exact ih) 0 (Nat.zero_le _) ax (by rw [aL];omega)
 rw [List.drop_zero] at W
 exact W
end Go.S
end
section
set_option linter.all false
set_option maxRecDepth 10000
namespace Go.S
open Go Go.Pm
structure I0 (x:bW):Prop where
 w:x.Weights.length≤1048576
 r:x.Removed.length≤1048576
section
variable {t:Types} {rules:List bJ} {l:List bW} {x0:List (List Int) × Int}
theorem RB (h:rules.length=x0.1.length) (h6:rules.length≤6):∃ left:List Bool,left.length=rules.length∧left.count true=rules.length∧
  f10_l0 t rules l x0 ax (List.replicate rules.length false) 0=jP t rules l x0 ax left 0∧oi t rules l x0 ax (List.replicate rules.length false) 0=jN t l x0 ax left (rules.length:Int) 0:=by
 exact cp rules.length (by omega) (fun i m k=>∀ m',rules.length - i<m'→∀ left:List Bool,left.length=rules.length→(∀ j,j<i→left[j]?=some true)→∃ left':List Bool,left'.length=rules.length∧left'.count true=rules.length∧
   f10_l0 t rules l x0 m left k=jP t rules l x0 ax left' 0∧oi t rules l x0 m' left k=jN t l x0 ax left' (rules.length:Int) 0) (fun m m' hm' left hl ht=>by
   obtain ⟨m',rfl⟩:∃ k,m'=k+1:=⟨m' - 1,by omega⟩
   have e1:¬ ((rules.length:Int)<rules.length):=by omega
   refine ⟨left,hl,?_,?_,?_⟩
   ·rw [← hl,List.count_eq_length]
    intro b hb
    obtain ⟨j,hj⟩:=List.mem_iff_getElem?.1 hb
    have:=ht j (by have:=(List.getElem?_eq_some_iff.1 hj).1;omega)
    rw [hj] at this;exact (Option.some.inj this).symm
   ·simp only [f10_l0,Int.toNat_natCast,List.length_replicate,e1,decide_false,Bool.false_eq_true,↓reduceIte]
   ·simp only [oi,e1,decide_false,Bool.false_eq_true,↓reduceIte]) (fun m i hi ih m' hm' left hl ht=>by
   obtain ⟨m',rfl⟩:∃ k,m'=k+1:=⟨m' - 1,by omega⟩
   have e1:(i:Int)<rules.length:=by omega
   have e2:(0:Int)≤i:=by omega
   have e3:(i:Int)<left.length:=by omega
   have e4:i<left.length:=by omega
   simp only [f10_l0,oi,Int.toNat_natCast,List.length_replicate,e1,e2,e3,decide_true,Bool.and_self,↓reduceIte,List.getElem?_eq_getElem e4,Option.bind_some]
   exact ih m' (by omega) _ (by simp [hl]) fun j hj=>by
    rw [List.getElem?_set]
    by_cases c:i=j
    ·subst c;simp [e4]
    ·rw [if_neg c];exact ht j (by omega)) 0 (Nat.zero_le _) ax (by rw [aL];omega) ax (by rw [aL];omega) (List.replicate rules.length false) (by simp) (fun j hj=>by omega)
theorem LQ (hn:t.Nodes.length≤12) (he:t.Edges.length≤20) (h:rules.length=x0.1.length) (h6:rules.length≤6) (hN:∀ e∈x0.1,e.length=cD t) (hl:l.length≤1048576) (hst:∀ x∈l,I0 x) (left:List Bool) (hlf:left.length=rules.length) :
  ∃ b,jP t rules l x0 ax left 0=some b∧jN t l x0 ax left ((left.count true:Nat):Int) 0=some b:=by
 have wN:w64 ((t.Nodes.length:Int)+(t.Edges.length:Int))=(cD t:Int):=by rw [bS (by omega) (by omega)];unfold cD;omega
 have hNe:cD t≤32:=by unfold cD;omega
 exact cp l.length (by omega) (fun i m k=>∀ m',l.length - i<m'→∀ left:List Bool,left.length=rules.length→∃ b,jP t rules l x0 m left k=some b∧jN t l x0 m' left ((left.count true:Nat):Int) k=some b) (fun m m' hm' left hlf=>by
   obtain ⟨m',rfl⟩:∃ k,m'=k+1:=⟨m' - 1,by omega⟩
   have e1:¬ ((l.length:Int)<l.length):=by omega
   simp only [jP,jN,e1,decide_false,Bool.false_eq_true,↓reduceIte,Zn left true (by omega),Option.bind_some]
   refine ⟨_,rfl,?_⟩
   congr 1
   rw [Bool.eq_iff_iff,beq_iff_eq,Bool.not_eq_true',List.any_eq_false]
   constructor
   ·intro h0 x hx e
    have:0<left.count true:=List.count_pos_iff.2 (by simp at e;subst e;exact hx)
    omega
   ·intro h0
    have:left.count true=0:=List.count_eq_zero.2 fun hx=>h0 true hx (by rfl)
    omega) (fun m i hi ih m' hm' left hlf=>by
   obtain ⟨m',rfl⟩:∃ k,m'=k+1:=⟨m' - 1,by omega⟩
   have e1:(i:Int)<l.length:=by omega
   have hx:l[i]?=some l[i]:=List.getElem?_eq_getElem hi
   have hs:=hst _ (List.getElem_mem hi)
   have hat:at? l (i:Int)=some l[i]:=by rw [bB,hx]
   generalize l[i]=x at hx hs hat
   have hlw:=hs.w
   have hlr:=hs.r
   have aea:f28 t=some (cD t:Int):=by unfold f28;rw [wN]
   simp only [jP,jN,e1,decide_true,↓reduceIte,hat,Option.bind_some,wN,aea]
   by_cases c1:x.Weights.length=cD t
   ·by_cases c2:x.Removed.length=0
    ·have d1:(!((x.Weights.length:Int) == (cD t:Int)))=false:=by simp [c1]
     have d2:((x.Removed.length:Int) == 0)=true:=by rw [beq_iff_eq];omega
     refine ⟨false,by simp only [d1,d2,Bool.false_eq_true,↓reduceIte],?_⟩
     unfold f35
     simp only [d1,d2,Bool.false_eq_true,↓reduceIte,Option.bind_some,Bool.not_false]
    ·have d1:(!((x.Weights.length:Int) == (cD t:Int)))=false:=by simp [c1]
     have d2:((x.Removed.length:Int) == 0)=false:=by rw [beq_eq_false_iff_ne];omega
     have hSc:Sc2 x0.1 x.Weights (fun j=>(f33 x.Weights (x0.1.getD j [])).getD 0):=⟨by omega,fun j hj=>by
      obtain ⟨v,q1,q2⟩:=abR x.Weights x0.1[j] (by rw [hN _ (List.getElem_mem hj)];exact c1) (by omega)
      have:x0.1.getD j []=x0.1[j]:=by rw [List.getD_eq_getElem?_getD,List.getElem?_eq_getElem hj];rfl
      rw [this,q1,q2];exact ⟨rfl,rfl⟩⟩
     have T2:left.length=x0.1.length:=hlf.trans h
     simp only [d1,d2,Bool.false_eq_true,↓reduceIte,PK x.Weights (by omega),Option.bind_some,alL hSc T2 h hlr,alK hSc T2 h,JH hSc T2 (cD t) (by omega) hlr c1 c2]
     cases ha:(x.Weights.any fun n=>decide (n<0)||decide ((1000:Int)<n)) with
     | true=>exact ⟨false,by simp only [↓reduceIte],by simp only [Bool.not_true,Bool.false_and,Bool.not_false,↓reduceIte]⟩
     | false=>
      simp only [Bool.false_eq_true,↓reduceIte,Bool.not_false,Bool.true_and]
      cases hA:okA left (fun j=>(f33 x.Weights (x0.1.getD j [])).getD 0) x0.1.length x.Removed with
      | false=>exact ⟨false,by simp only [Bool.false_eq_true,↓reduceIte],by simp only [Bool.and_false,Bool.not_false,↓reduceIte]⟩
      | true=>
       cases hB:okB left (fun j=>(f33 x.Weights (x0.1.getD j [])).getD 0) x0.1.length with
       | false=>exact ⟨false,by simp only [Bool.false_eq_true,↓reduceIte],by simp only [Bool.false_and,Bool.not_false,↓reduceIte]⟩
       | true=>
        obtain ⟨left',q1,q2,q3⟩:=M5 (n:=x0.1.length) (by omega) T2 hA (i:Int) (jP t rules l x0 m) l (i:Int) hat (jN t l x0 m') hlr
        simp only [↓reduceIte,Bool.and_self,Bool.not_true,Bool.false_eq_true,q2,q3]
        exact ih m' (by omega) left' (q1.trans h.symm)
   ·have d1:(!((x.Weights.length:Int) == (cD t:Int)))=true:=by
     have:((x.Weights.length:Int) == (cD t:Int))=false:=by rw [beq_eq_false_iff_ne];omega
     rw [this];rfl
    refine ⟨false,by simp only [d1,↓reduceIte],?_⟩
    unfold f35
    simp only [d1,↓reduceIte,Option.bind_some,Bool.not_false]) 0 (Nat.zero_le _) ax (by rw [aL];omega) ax (by rw [aL];omega) left hlf
end
section
variable {R:bI} (hq:Eqs R) (m7:∀ a b c d e f g,R.f113_r0 a b c d e f g=fL R a b c d e f g)
include hq m7
theorem Vt {t:Types} (ht:kA t) (l:List bJ) (hl:∀ r∈l,kN r) (hll:l.length≤1048576) (s:List bW) (hs:s.length≤1048576) (hst:∀ x∈s,I0 x):∃ b,f10 R t l s=some b∧f12 R t l s=some b:=by
 obtain ⟨v,w,g1,g2,g3,g4⟩:=lk hq m7 ht l hl hll
 unfold f10 f12
 simp only [g1,g2,Option.bind_some]
 by_cases c:v.2=0
 ·obtain ⟨rfl,hT,k1,k2,k3⟩:=g3 c
  have d:(!(w.2 == 0))=false:=by simp [c]
  have b1:(0:Int)≤(l.length:Int):=by omega
  have b2:(l.length:Int)≤(bound:Int):=by unfold bound;omega
  obtain ⟨left,q1,q2,q3,q4⟩:=RB (t:=t) (l:=s) k1.symm k2
  obtain ⟨b,r1,r2⟩:=LQ hT.inn.n hT.inn.e k1.symm k2 k3 hs hst left q1
  rw [q2] at r2
  simp only [d,b1,b2,and_self,decide_true,Bool.false_eq_true,↓reduceIte,Int.toNat_natCast,q3,q4]
  exact ⟨b,r1,r2⟩
 ·have d:(!(v.2 == 0))=true:=by simp [c]
  have d2:(!(w.2 == 0))=true:=by have:=g4 c;simp [this]
  simp only [d,d2,↓reduceIte]
  exact ⟨false,rfl,rfl⟩
end
end Go.S
end
section
set_option linter.all false
set_option maxRecDepth 10000
namespace Go.S
open Go Go.Pm
theorem P6 (t:Types) (ht:kA t):∃ b,od t ax 0=some b:=by
 have he:=ht.elen
 exact cp t.Edges.length (by omega) (fun i m k=>∃ b,od t m k=some b) (fun m=>⟨true,by simp [od]⟩) (fun m i hi ih=>by
  have h1:(i:Int)<t.Edges.length:=by omega
  simp only [od,h1,decide_true,↓reduceIte,bB,List.getElem?_eq_getElem hi,Option.bind_some]
  split
  ·exact ⟨_,rfl⟩
  ·exact ih) 0 (Nat.zero_le _) ax (by rw [aL];omega)
theorem P7 (k:Int) (x:Attr) (hx:x.Names.length≤1048576) (k2:Int→Option Bool) (hk:∃ b,k2 (w64 (k+1))=some b):∃ b,oe k x k2 ax 0=some b:=by
 exact cp x.Names.length (by omega) (fun i m j=>∃ b,oe k x k2 m j=some b) (fun m=>by
  have h1:¬ ((x.Names.length:Int)<x.Names.length):=by omega
  simp only [oe,h1,decide_false,Bool.false_eq_true,↓reduceIte];exact hk) (fun m i hi ih=>by
  have h1:(i:Int)<x.Names.length:=by omega
  simp only [oe,h1,decide_true,↓reduceIte,bB,List.getElem?_eq_getElem hi,Option.bind_some]
  split
  ·exact ⟨_,rfl⟩
  ·exact ih) 0 (Nat.zero_le _) ax (by rw [aL];omega)
theorem aqI (t:Types) (ht:kA t):∃ b,f13 t=some b:=by
 have hn:=ht.nlen
 have L0:=cp t.Nodes.length (by omega) (fun i m k=>∀ n,∃ b,og t m n k=some b) (fun m n=>by
  have h1:¬ ((t.Nodes.length:Int)<t.Nodes.length):=by omega
  simp only [og,h1,decide_false,Bool.false_eq_true,↓reduceIte];exact P6 t ht) (fun m i hi ih n=>by
  have h1:(i:Int)<t.Nodes.length:=by omega
  have hx:t.Nodes[i]?=some t.Nodes[i]:=List.getElem?_eq_getElem hi
  have ho:=ht.nodes _ (List.getElem_mem hi)
  generalize t.Nodes[i]=x at hx ho
  simp only [og,h1,decide_true,↓reduceIte,bB,hx,Option.bind_some]
  split
  ·exact ⟨_,rfl⟩
  ·split
   ·exact ⟨_,rfl⟩
   ·have hl:=ho.len
    exact cp x.Attrs.length (by omega) (fun k m2 kk=>∃ b,qb t n i x (og t m) m2 kk=some b) (fun m2=>by
     have h2:¬ ((x.Attrs.length:Int)<x.Attrs.length):=by omega
     simp only [qb,bB,hx,Option.bind_some,h2,decide_false,Bool.false_eq_true,↓reduceIte];exact ih _) (fun m2 k hk ih2=>by
     have h2:(k:Int)<x.Attrs.length:=by omega
     have hy:x.Attrs[k]?=some x.Attrs[k]:=List.getElem?_eq_getElem hk
     have hyo:=ho.attrs _ (List.getElem_mem hk)
     generalize x.Attrs[k]=y at hy hyo
     simp only [qb,bB,hx,hy,Option.bind_some,h2,decide_true,↓reduceIte]
     split
     ·exact ⟨_,rfl⟩
     ·split
      ·exact ⟨_,rfl⟩
      ·exact P7 k y hyo.2.1 _ ih2) 0 (Nat.zero_le _) ax (by rw [aL];omega)) 0 (Nat.zero_le _) ax (by rw [aL];omega) 0
 unfold f13
 split
 ·exact ⟨_,rfl⟩
 ·split
  ·exact ⟨_,rfl⟩
  ·exact L0
theorem PD (p:Pattern):∃ b,f64 p=some b:=by
 have:∃ b,f98 p.Graph=some b:=by unfold f98;split <;> exact ⟨_,rfl⟩
 obtain ⟨b,hb⟩:=this
 unfold f64;rw [hb,Option.bind_some]
 repeat' split
 all_goals exact ⟨_,rfl⟩
section
variable {R:bI} (h99:∀ a b,R.f99 a b=Ea R a b)
include h99
theorem acM:∀ c:Condition,bG.ok 1048576 c→∀ m:Int,∃ v,R.f99 c m=some v:=by
 apply rh
 intro c ih hc m
 obtain ⟨h1,hk⟩:=ri hc
 have hl:=h1.kids
 obtain ⟨b,hb⟩:=PD c.Pattern
 rw [h99];unfold Ea f66
 simp only [hb,Option.bind_some]
 have D:=cp c.Kids.length (by omega) (fun i m k=>∀ z,∃ v,lV R c m z k=some v) (fun m z=>by
   have e1:¬ ((c.Kids.length:Int)<c.Kids.length):=by omega
   simp only [lV,e1,decide_false,Bool.false_eq_true,↓reduceIte];exact ⟨_,rfl⟩) (fun m i hi ih2 z=>by
   have e1:(i:Int)<c.Kids.length:=by omega
   have hmem:=List.getElem_mem hi
   obtain ⟨v,hv⟩:=ih _ hmem (hk _ hmem) z
   simp only [lV,e1,decide_true,↓reduceIte,bB,List.getElem?_eq_getElem hi,Option.bind_some,hv]
   split
   ·exact ih2 v
   ·exact ⟨_,rfl⟩) 0 (Nat.zero_le _) ax (by rw [aL];omega) (w64 (m - 1))
 repeat' split
 all_goals first | exact ⟨_,rfl⟩ | exact D
theorem aqE (r:bJ) (h:kN r):∃ b,f43 R r=some b:=by
 obtain ⟨a,ha⟩:=PD r.Left
 obtain ⟨b,hb⟩:=PD r.Right
 obtain ⟨c,hc⟩:=acM h99 r.Condition h.cond 40
 unfold f43 f65 f66 f67
 simp only [ha,hb,hc,Option.bind_some]
 repeat' split
 all_goals exact ⟨_,rfl⟩
theorem aqH (l:List bJ) (hl:∀ r∈l,kN r) (hll:l.length≤1048576):∃ b,f25 R l=some b:=by
 have D:=cp l.length (by omega) (fun i m k=>∃ b,pW R l m k=some b) (fun m=>⟨true,by simp [pW]⟩) (fun m i hi ih=>by
  have h1:(i:Int)<l.length:=by omega
  obtain ⟨b,hb⟩:=aqE h99 l[i] (hl _ (List.getElem_mem hi))
  simp only [pW,h1,decide_true,↓reduceIte,bB,List.getElem?_eq_getElem hi,Option.bind_some,hb]
  split
  ·exact ⟨_,rfl⟩
  ·exact ih) 0 (Nat.zero_le _) ax (by rw [aL];omega)
 unfold f25
 split
 ·exact ⟨_,rfl⟩
 ·exact D
end
theorem aqG (di:List (List Int)) (left:List Bool) (N:Nat) (hN:N≤1000) (he:∀ e∈di,e.length=N) (hl:left.length=di.length) (h6:di.length≤6):∃ T,f27 di left N=some T:=by
 unfold f27
 exact cp N (by omega) (fun i m k=>∀ o:List Int,o.length≤i→∃ T,n7 di left N m o k=some T) (fun m o ho=>⟨o,by simp [n7]⟩) (fun m i hi ih o ho=>by
  have h1:(i:Int)<N:=by omega
  have hb:(o ++ [(i:Int)]).length≤bound:=by unfold bound;simp;omega
  simp only [n7,h1,decide_true,↓reduceIte]
  exact cp di.length (by omega) (fun j m2 k=>∀ b,∃ T,mb di left o i (n7 di left N m) m2 b k=some T) (fun m2 b=>by
   have h2:¬ ((di.length:Int)<di.length):=by omega
   simp only [mb,h2,decide_false,Bool.false_eq_true,↓reduceIte,hb,decide_true]
   split
   ·exact ih _ (by simp;omega)
   ·exact ih _ (by omega)) (fun m2 j hj ih2 b=>by
   have h2:(j:Int)<di.length:=by omega
   have hej:=he _ (List.getElem_mem hj)
   simp only [mb,h2,decide_true,↓reduceIte,bB,getD_some hl hj,List.getElem?_eq_getElem hj,List.getElem?_eq_getElem (show i<di[j].length by omega),Option.bind_some]
   repeat' split
   all_goals exact ih2 _) 0 (Nat.zero_le _) ax (by rw [aL];omega) false) 0 (Nat.zero_le _) ax (by rw [aL];omega) [] (Nat.le_refl _)
section
variable {R:bI} (hq:Eqs R) (m7:∀ a b c d e f g,R.f113_r0 a b c d e f g=fL R a b c d e f g) (h99:∀ a b,R.f99 a b=Ea R a b)
include hq m7 h99
theorem S7 {t:Types} (ht:kA t) (l:List bJ) (hl:∀ r∈l,kN r) (hll:l.length≤1048576):∃ b,f7 R t l=some b:=by
 obtain ⟨a,ha⟩:=aqI t ht
 obtain ⟨b,hb⟩:=aqH h99 l hl hll
 obtain ⟨v,w,g1,g2,g3,g4⟩:=lk hq m7 ht l hl hll
 have b1:(0:Int)≤(l.length:Int):=by omega
 have b2:(l.length:Int)≤(bound:Int):=by unfold bound;omega
 unfold f7
 simp only [ha,hb,g1,Option.bind_some,b1,b2,and_self,decide_true,↓reduceIte,Int.toNat_natCast]
 by_cases c:v.2=0
 ·obtain ⟨_,hT,k1,k2,k3⟩:=g3 c
  have hn:=hT.inn.n
  have he:=hT.inn.e
  have wN:w64 ((t.Nodes.length:Int)+(t.Edges.length:Int))=(cD t:Int):=by rw [bS (by omega) (by omega)];unfold cD;omega
  have aea:f28 t=some (cD t:Int):=by unfold f28;rw [wN]
  have D:=cp l.length (by omega) (fun i m k=>∀ left:List Bool,left.length=l.length→∃ b,vZ t v m left k=some b) (fun m left hlf=>by
    have h1:¬ ((l.length:Int)<left.length):=by omega
    obtain ⟨T,hT'⟩:=aqG v.1 left (cD t) (by unfold cD;omega) k3 (hlf.trans k1.symm) (by omega)
    simp only [vZ,h1,decide_false,Bool.false_eq_true,↓reduceIte,aea,hT',Option.bind_some]
    exact ⟨_,rfl⟩) (fun m i hi ih left hlf=>by
    have h1:(i:Int)<left.length:=by omega
    have h2:(0:Int)≤i:=by omega
    simp only [vZ,h1,h2,decide_true,Bool.and_self,↓reduceIte,Int.toNat_natCast,List.getElem?_eq_getElem (show i<left.length by omega),Option.bind_some]
    exact ih _ (by simp [hlf])) 0 (Nat.zero_le _) ax (by rw [aL];omega) (List.replicate l.length false) (by simp)
  repeat' split
  all_goals first | exact ⟨_,rfl⟩ | exact D
 ·have d:(!(v.2 == 0))=true:=by simp [c]
  simp only [d,↓reduceIte]
  repeat' split
  all_goals exact ⟨_,rfl⟩
theorem ad2 (s:List bW) (h:s.length≤1048576):∃ b,vY s=some b:=by
 have:∃ r,qT s=some r:=by
  unfold qT
  exact cp s.length (by omega) (fun i m k=>∃ r,fX s m k=some r) (fun m=>⟨-1,by simp [fX]⟩) (fun m i hi ih=>by
   have h1:(i:Int)<s.length:=by omega
   have:∃ b,f9 s[i]=some b:=by unfold f9;split <;> exact ⟨_,rfl⟩
   obtain ⟨b,hb⟩:=this
   simp only [fX,h1,decide_true,↓reduceIte,bB,List.getElem?_eq_getElem hi,Option.bind_some,hb]
   split
   ·exact ⟨_,rfl⟩
   ·exact ih) 0 (Nat.zero_le _) ax (by rw [aL];omega)
 obtain ⟨r,hr⟩:=this
 exact ⟨_,by unfold vY;rw [hr];rfl⟩
theorem law3 (h6:R.f6=some true) (t:Types) (l:List bJ) (s:List bW) (ht:bG.ok 1048576 t) (hl:bG.ok 1048576 l) (hs:bG.ok 1048576 s):f3 R t l s=some true:=by
 have hT:=LM ht
 obtain ⟨ll,lx⟩:=hl
 obtain ⟨sl,sx⟩:=hs
 have hR:∀ r∈l,kN r:=fun r hr=>JC (lx r hr)
 obtain ⟨b1,hb1⟩:=S7 hq m7 h99 hT l hR ll
 obtain ⟨b2,hb2⟩:=ad2 hq m7 h99 s sl
 obtain ⟨b,c1,c2⟩:=Vt hq m7 hT l hR ll s sl fun x hx=>⟨(sx x hx).1.1,(sx x hx).2.1⟩
 have hc:f11 s=some s:=by
  unfold f11 oq
  have:s.length≤bound:=by unfold bound;omega
  simp only [this,↓reduceIte]
 unfold f3
 simp only [h6,Option.bind_some,Bool.not_true,Bool.false_eq_true,↓reduceIte,hb1,hb2,hc,c1,c2,beq_self_eq_true]
 repeat' split
 all_goals rfl
end
end Go.S
end
section
set_option linter.unusedVariables false
set_option linter.unusedSimpArgs false
namespace Go.Pm
open Go Go.ChangeShapes Go.WideShapes Go.ChangeAt Go.RowKit
variable {P:Program} {H:Type} {enc:TypeId × Value→H}
theorem J4 {E:Env} (hE:rr P E) {F:Nat} {pvs:List PV} (h:(lim E).pureC F pvs=some (.bool true)) {W:World} {args:Array Value} (hv:Vs W (fun b=>b<W.heap.size) (fun _=>none) pvs args.toList) :
  Calls P F args W fun e W'=>e=.returned (.bool true)∧Below W.heap.size W W':=by
 obtain ⟨n,hn⟩:=qE.1 h
 refine Calls.mono ((yF hE n).pur.calls F pvs _ hn W _ args (fun b hb=>hb) hv) ?_
 rintro en w' ⟨v,rfl,hx,Bc,bs,_,_,_,_,hr⟩
 refine ⟨?_,hx.os,hx.tape,hx.output,hx.size,fun k hk=>hx.block k hk (fun h=>h)⟩
 congr 1
 cases hr with
 | one _ _ _ _ _ _ h=>
  cases h with
  | one _ _ _ _ _ h=>
   cases h with
   | data _ _ _ h _=>cases h;rfl
theorem VW {bE:DataW H→Nat} {w:World} {t:Nat} {α:Type} [Enc α] [bG α] (hr:ch P enc bE w t α) {fs:Array Field} (ht:P.underlying t=some (.struct fs)) {base N:Nat} {v:Value} (hok:Value.okWide P w .any base t v)
  {d:DataW H} {p:List MemPlace} (h:DataW.Trod enc P w 0 (fun _=>true) true t v d p) (hb:bE d≤N):∃ a:α,bG.ok N a∧V w (fun b=>b<w.heap.size) (fun _=>none) (.agg (Enc.cells a)) v:=by
 simp only [Value.okWide,ht] at hok
 obtain ⟨cs,rfl,_,_⟩:=hok
 obtain ⟨fuel,hf⟩:=h
 obtain ⟨a,h1,h2,h3,h4⟩:=hr.read N fuel _ d p hf hb
 refine ⟨a,h1,?_⟩
 have:=Vs.agg h4 h3
 rw [show (Value.agg cs).cells=cs from rfl,Array.toArray_toList] at this
 exact this
theorem yt {bE:DataW H→Nat} {w:World} {t e:Nat} {α:Type} [Enc α] [bG α] (hr:ch P enc bE w t (List α)) (ht:P.underlying t=some (.slice e)) {base N:Nat} {v:Value} (hok:Value.okWide P w .any base t v)
  {d:DataW H} {p:List MemPlace} (h:DataW.Trod enc P w 0 (fun _=>true) true t v d p) (hb:bE d≤N):∃ a:List α,bG.ok N a∧V w (fun b=>b<w.heap.size) (fun _=>none) (.lit (rows a) fl0) v:=by
 simp only [Value.okWide,ht,Cell.okWide] at hok
 obtain ⟨fuel,hf⟩:=h
 have hc:v.cells.toList=[v]:=by
  cases v <;> first | rfl | (simp [Cell.ok,ht] at hok)
 rw [hc] at hf
 obtain ⟨a,h1,h2,h3,h4⟩:=hr.read N fuel _ d p hf hb
 exact ⟨a,h1,h4.head⟩
theorem o8 (hl:laidOutB P=true) {W W':World} (hb:Below W.heap.size W W'):∀ {ts:List TypeId} {vs:List Value} {ds:List (DataW H)} {p:List MemPlace},(∀ t∈ts,P.readableRec t=true∧t<P.types.size)→
  DataW.TrodAll enc P W 0 (fun _=>true) true ts vs ds p→(∀ x∈p,x.block<W.heap.size)→DataW.TrodAll enc P W' 0 (fun b=>decide (b<W.heap.size)) true ts vs ds p
 | [],_,_,_,_,h,_=>by
  obtain ⟨rfl,rfl,rfl⟩:=trodAll_nil h
  exact trodAll_mk0
 | t::ts,_,_,_,ht,h,hp=>by
  obtain ⟨v,vs1,d,ds1,a,b,rfl,rfl,rfl,h1,h2⟩:=trodAll_cons h
  obtain ⟨t1,t2⟩:=ht t (List.mem_cons_self ..)
  exact ⟨a,b,Below.trod hl t1 t2 h1 hb fun x hx=>hp x (List.mem_append_left _ hx),o8 hl hb (fun x hx=>ht x (List.mem_cons_of_mem _ hx)) h2 fun x hx=>hp x (List.mem_append_right _ hx),rfl⟩
theorem N9 {f:Func} {s:ChangeSpec} {W W':World} {args:Array Value} {ds gs:List (DataW H)} {before:List MemPlace} {bt:TypeId} (hl:laidOutB P=true) (hrt:f.resultTypes=#[bt]) (hbt:P.underlying bt=some .bool)
  (hr:∀ t∈f.params.toList,P.readableRec t=true∧t<P.types.size) (hvars:s.vars=[]) (hW:DataW.Whole enc P f.params.toList s.vars false W args.toList ds gs before)
  (hfn:s.fn H (ds ++ gs)={results:=[.lit (.bool true)],args:=ds}) (hb:Below W.heap.size W W'):s.post enc P f false true false false W args (.bool true) W':=by
 have hlt:=hW.lt
 have hW':=hW
 obtain ⟨p,q,hA,hV,rfl,hfz,hnd⟩:=hW
 rw [hvars] at hV
 obtain ⟨rfl,rfl⟩:=trodVars_none hV
 refine ⟨ds,[],p ++ [],[],p,[],hW',?_,?_,?_,World.keptBut_mono (fun _ h=>h.elim) (hb.frame fun _=>False),fun h=>by cases h⟩
 ·rw [hrt,hfn]
  exact trodAll_cons_mk (shut_bool hbt _) trodAll_mk0
 ·rw [hfn]
  exact o8 hl hb hr hA fun x hx=>hlt x (by simpa using hx)
 ·rw [hfn,hvars];rfl
end Go.Pm
end
