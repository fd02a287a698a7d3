import Derived.Test.YtjkkigeefoncmaaGreatCheckB
import Derived.Test.YtjkkigeefoncmaaGreatCheckC
import Derived.Test.YtjkkigeefoncmaaGreatCheckD
import Derived.Test.YtjkkigeefoncmaaGreatCheckO
import Derived.Test.YtjkkigeefoncmaaGreatCheckP
import Derived.Deep.Slices
import Derived.JoinedCond
import Derived.Laws.CopyRow
import Derived.Laws.Externs
import Derived.Laws.NewBlocks
import Derived.Lib.AppendZerosOnto
import Derived.Lib.Overlaps
import Derived.Lib.SliceRun
import Derived.Lib.Walk
import Derived.OpenShut
import Derived.ProofKit
import Derived.Shelf.RegionOpenPlain
import Derived.Shelf.Slices.In.SortNone
import Derived.Shelf.Sort.Plain
import Derived.Sort.Grow
import Derived.WalkKit
set_option linter.all false
section
set_option linter.unusedVariables false
set_option linter.unusedSimpArgs false
namespace Go.Pm
open Go Go.Lib Go.RowKit
variable {P:Program}
theorem run_copy_splc (w:World) (dT sT ty elem:TypeId) (g o dLen dCap:Nat) (a:Addr) (sLen sCap:Nat) (cur:Array Value) (t:TypeId) (cs:List Value) (sz:Nat)
  (hu:P.underlying dT=some (.slice elem)) (hs:(P.info? elem).map (·.size)=some sz)
  (hg:w.heap[g]?=some (.cells cur t (0,0))) (hn:cs.length=Nat.min sLen dLen*sz)
  (hsrc:∀ j v,cs[j]?=some v→w.cell? (a.add j)=some v) (hfit:o+cs.length≤cur.size) (h1:∀ v∈cs,v.oneCell'=true) :
  (Builtin.copy_ #[dT,sT] ty #[.slice (some ⟨g,o,none⟩) dLen dCap,.slice (some a) sLen sCap]).run P w =
   .ok (goInt (Nat.min sLen dLen)) (w.setRow g (dh cur o cs)):=by
 have hl:=run_loadCells_list (P:=P) w a cs hsrc
 have hst:=jo (P:=P) hg hfit h1
 cases hq:P.info? elem with
 | none=>simp [hq] at hs
 | some i=>
  have hi:i.size=sz:=by simpa [hq] using hs
  simp [Builtin.copy_,run_underlying hu,Builtin.lenOf,Builtin.firstCells,sizeOf,typeInfo,hq,hi,← hn,hl,hst]
theorem wp_copy_run (w:World) {o:Oper} {a:Act} {K:Act→World→Prop} {Q:Exit→Act→World→Prop} (d s:Operand) (t t':TypeId)
  (ho:o.op=.call {callee:=.builtin .copy,args:=#[d,s],argTypes:=#[t,t']}) (v u:Value) (hd:a.eval d=v) (hs:a.eval s=u) {v':Value} {w':World}
  (hr:(Builtin.copy_ #[t,t'] o.type #[v,u]).run P w=.ok v' w') (h:K (a.put o.dst v') w'):o.wp P a w K Q:=by
 unfold Oper.wp execOp
 simp only [ho,resolve,invoke,builtin,Sem.run_bind,Sem.run_pure,Result.andThen_ok,List.map_toArray,List.map_cons,List.map_nil,hd,hs,hr]
 exact h
theorem wpList_copy_run (w:World) {ops:Array Oper} {rest:List Oper} {o:Oper} {a:Act} {Q:Exit→Act→World→Prop} (hgd:o.guard=none) (d s:Operand) (t t':TypeId)
  (ho:o.op=.call {callee:=.builtin .copy,args:=#[d,s],argTypes:=#[t,t']}) (v u:Value) (hd:a.eval d=v) (hs:a.eval s=u) {v':Value} {w':World}
  (hr:(Builtin.copy_ #[t,t'] o.type #[v,u]).run P w=.ok v' w') (h:wpList P ops Q rest (a.put o.dst v') w'):wpList P ops Q (o::rest) a w:=
 wpList_plain hgd fun _ hK=>wp_copy_run w d s t t' ho v u hd hs hr (hK _ _ h)
theorem o9 {ops:Array Oper} {o:Oper} {a:Act} {w:World} {K:Act→World→Prop} {Q:Exit→Act→World→Prop} {E:Prop}
  (hg:o.guard=none) (d x:Operand) (dT sT:TypeId) (hop:o.op=Op.call {callee:=Callee.builtin Builtin.copy,args:=#[d,x],argTypes:=#[dT,sT]})
  (v u:Value) (hd:a.eval d=v) (hx:a.eval x=u) {v':Value} {w':World} (hr:(Builtin.copy_ #[dT,sT] o.type #[v,u]).run P w=.ok v' w') (hK:K (a.put o.dst v') w') :
  if Region.wanted o (yielded ops a.tmps)=true then Oper.wp P o a w K Q else E:=by
 have hw:Region.wanted o (yielded ops a.tmps)=true:=by simp [Region.wanted,hg]
 rw [if_pos hw]
 unfold Oper.wp
 simp [execOp,hop,resolve,invoke,builtin,hd,hx,hr,Result.andThen]
 exact hK
theorem qk {w w':World} (h:w.heap=w'.heap) (g:Nat) (cs:Array Value):(w.setRow g cs).heap=(w'.setRow g cs).heap:=by
 simp only [World.setRow,h]
theorem yu (w:World) (R R':Array Value) (e:TypeId):((w.alloc (.cells R e)).setRow w.heap.size R').heap=(w.alloc (.cells R' e)).heap:=by
 apply Array.ext_getElem?
 intro j
 rcases Nat.lt_or_ge j w.heap.size with h | h
 ·rw [Below.heap_alloc w _ j h]
  simp only [World.setRow,Array.getElem?_modify]
  rw [if_neg (by omega),Below.heap_alloc w _ j h]
 ·rcases Nat.eq_or_lt_of_le h with h | h
  ·subst h
   rw [heap_alloc_new w (.cells R' e)]
   exact setRow_heap _ _ _ _ _ _ (heap_alloc_new w (.cells R e))
  ·simp only [World.setRow,Array.getElem?_modify]
   rw [if_neg (by omega)]
   simp only [World.alloc]
   rw [Array.getElem?_eq_none (by simp;omega),Array.getElem?_eq_none (by simp;omega)]
section
variable {w:World} {B:Nat→Prop} {β:Map} {rd:Rd}
theorem Flat.drop {sz:Nat} {new:List (List PV)} {cells:List Value} (h:Flat w B β sz new cells) (n:Nat) (hn:n≤new.length):Flat w B β sz (new.drop n) (cells.drop (n*sz)) where
 len:=by
  rw [List.length_drop,List.length_drop,h.len,Nat.sub_mul]
 one:=fun v hv=>h.one v (List.mem_of_mem_drop hv)
 row:=fun x hx=>h.row x (List.mem_of_mem_drop hx)
 get:=fun i x j p h1 h2=>by
  rw [List.getElem?_drop] at h1
  obtain ⟨v,g1,g2⟩:=h.get (n+i) x j p h1 h2
  refine ⟨v,?_,g2⟩
  rw [List.getElem?_drop,← g1]
  congr 1
  rw [Nat.add_mul];omega
theorem Flat.obj {K:Nat} {xs:List (List PV)} {X:List Value} (h:Flat w B (fun _=>none) K xs X) {l:Loc} (hk:l.k=K) {c:Array Value} (hc:∀ q v,X[q]?=some v→c[l.off+q]?=some v):ObjOK w B β (.arr K xs false false) l c:=
 ⟨fun h=>by simp at h,h.row,hk,fun t x j p h1 h2=>by
  obtain ⟨v,g1,g2⟩:=h.get t x j p h1 h2
  refine ⟨v,?_,h.one v (List.mem_of_getElem? g1),g2⟩
  rw [hk,Nat.add_assoc];exact hc _ v g1⟩
theorem C5 {C:Array Value} {os cs vs:List Value} {o a b:Nat} (ha:os.length=a) (hb:vs.length=b) (hsz:o+a+b+cs.length≤C.size) (ho:∀ q v,os[q]?=some v→C[o+q]?=some v) :
  ∀ q v,(os ++ vs ++ cs)[q]?=some v→(dh (dh C (o+(a+b)) cs) (o+a) vs)[o+q]?=some v:=fun q v hq=>by
 have h1:o+(a+b)+cs.length≤C.size:=by omega
 have h2:o+a+vs.length≤(dh C (o+(a+b)) cs).size:=by rw [cV h1];omega
 rw [gx h2,gx h1]
 by_cases g1:q<a
 ·rw [List.append_assoc,List.getElem?_append_left (by omega)] at hq
  rw [if_neg (by omega),if_neg (by omega)]
  exact ho q v hq
 ·by_cases g2:q<a+b
  ·rw [List.append_assoc,List.getElem?_append_right (by omega),List.getElem?_append_left (by omega)] at hq
   rw [if_pos (by omega),← hq]
   congr 1;omega
  ·rw [List.getElem?_append_right (by simp;omega)] at hq
   have hlt:=bZ hq
   rw [if_neg (by omega),if_pos (by simp at hlt;omega),← hq]
   congr 1;simp;omega
structure I2 (P:Program) (f K:Nat) (e:TypeId):Prop where
 room:∀ (g o n c i vb vo m vc:Nat) (C D:Array Value) (e0 e1:Nat) (cs vs:List Value) (w:World),i<n→0<m→n+m≤c→vb≠g→
  w.heap[g]?=some (.cells C e0 (0,0))→o+(n+m)*K≤C.size→cs.length=(n - i)*K→(∀ j v,cs[j]?=some v→C[o+i*K+j]?=some v)→
  w.heap[vb]?=some (.cells D e1 (0,0))→vs.length=m*K→(∀ j v,vs[j]?=some v→D[vo+j]?=some v)→(∀ v∈cs,v.oneCell'=true)→(∀ v∈vs,v.oneCell'=true)→n+m≤1073741824→
  Calls P f #[.slice (some ⟨g,o,none⟩) n c,.int .i64 i,.slice (some ⟨vb,vo,none⟩) m vc] w fun en w'=>
   en=.returned (.slice (some ⟨g,o,none⟩) (n+m) c)∧w'=(w.drew.setRow g (dh C (o+(i+m)*K) cs)).setRow g (dh (dh C (o+(i+m)*K) cs) (o+i*K) vs)
 grow:∀ (g o n c i vb vo m vc:Nat) (C D:Array Value) (e0 e1:Nat) (os cs vs:List Value) (w:World),i<n→0<m→n≤c→c<n+m→
  w.heap[g]?=some (.cells C e0 (0,0))→os.length=i*K→(∀ j v,os[j]?=some v→C[o+j]?=some v)→cs.length=(n - i)*K→(∀ j v,cs[j]?=some v→C[o+i*K+j]?=some v)→
  w.heap[vb]?=some (.cells D e1 (0,0))→vs.length=m*K→(∀ j v,vs[j]?=some v→D[vo+j]?=some v)→(∀ v∈cs,v.oneCell'=true)→(∀ v∈vs,v.oneCell'=true)→n+m≤1073741824→
  Calls P f #[.slice (some ⟨g,o,none⟩) n c,.int .i64 i,.slice (some ⟨vb,vo,none⟩) m vc] w fun en w'=>∃ (R:Array Value) (G:Nat),en=.returned (.slice (some ⟨w.heap.size,0,none⟩) (n+m) G)∧n+m≤G∧R.size=G*K∧(∀ j,j<i*K→R[j]?=os[j]?)∧w'.os=w.os∧w'.tape=w.tape∧w'.output=w.output∧
   w'.heap=((w.alloc (.cells (dh (dh R (i*K) vs) ((i+m)*K) cs) e))).heap
theorem StepR.less {r r':Nat} {w':World} {B':Nat→Prop} {β':Map} {rd':Rd} (h:StepR r w B β rd w' B' β' rd') (hr:r'≤r):StepR r' w B β rd w' B' β' rd':=
 ⟨h.sim,h.ext,h.bsub,h.bnew,h.muts,h.ins,fun a l ha=>h.map a l (by omega)⟩
theorem Step.heap {w' w'':World} {B':Nat→Prop} {β':Map} {rd':Rd} (h:Step w B β rd w' B' β' rd') (h1:w''.heap=w'.heap) (h2:w''.os=w'.os) (h3:w''.tape=w'.tape) (h4:w''.output=w'.output):Step w B β rd w'' B' β' rd':=
 h.trans ⟨h.sim.heap h1,⟨h2,h3,h4,by rw [h1];exact Nat.le_refl _,fun k _ _=>by rw [h1],fun b n hr=>by obtain ⟨c,e,g1,g2⟩:=hr;exact ⟨c,e,by rw [h1];exact g1,g2⟩⟩,fun _ h=>h,fun _ h=>.inl h,fun _ h=>.inl h,fun _ h=>.inl h,fun _ _ h=>h⟩
end
theorem V.y1 {w:World} {B:Nat→Prop} {β:Map} {a k off len:Nat} {u:Value} (h:V w B β (.own a k off len) u) (h0:0<len) :
  ∃ l cap,β a=some l∧l.k=k∧len≤cap∧Room w l.block (l.off+(off+cap)*l.k)∧u=.slice (some ⟨l.block,l.off+off*l.k,none⟩) len cap:=by
 cases h with
 | kU=>omega
 | own _ _ _ cap l hl hcap hroom=>exact ⟨l,cap,hl,rfl,hcap,hroom,rfl⟩
theorem BV {E:Env} {f K:Nat} {e:TypeId} (hE:rr P (bare E)) (hK:I2 P f K e)
  (hend:∀ xs ys,0<ys.length→xs.length+ys.length≤bound→(level (bare E) (run (bare E) 0)).refC f 2 [.own 0 K 0 xs.length,.int .i64 xs.length,.own 1 K 0 ys.length] [(0,.arr K xs false false),(1,.arr K ys false false)] 2 =
   some (.own 2 K 0 (xs.length+ys.length),[(1,.arr K ys false false),(2,.arr K (xs ++ ys) false false)],3))
  (xs ys:List (List PV)) (i:Int) (h0i:0≤i) (hin:i≤xs.length) (h0m:0<ys.length) (hbd:xs.length+ys.length≤bound) {w:World} {B:Nat→Prop} {β:Map} {va:Array Value}
  (m5:Sim w B β (look [(0,.arr K xs false false),(1,.arr K ys false false)])) (hvs:Vs w B β [.own 0 K 0 xs.length,.int .i64 i,.own 1 K 0 ys.length] va.toList)
  (hfree:∀ b,2≤b→β b=none∧look [(0,.arr K xs false false),(1,.arr K ys false false)] b=none) {r:Nat} (hr:r≤2) :
  Calls P f va w (fun en w'=>∃ u B' β',en=.returned u∧StepR r w B β (look [(0,.arr K xs false false),(1,.arr K ys false false)]) w' B' β' (look [(1,.arr K ys false false),(2,.arr K (xs.take i.toNat ++ ys ++ xs.drop i.toNat) false false)])∧V w' B' β' (.own 2 K 0 (xs.length+ys.length)) u∧
   ∀ b,3≤b→β' b=none∧look [(1,.arr K ys false false),(2,.arr K (xs.take i.toNat ++ ys ++ xs.drop i.toNat) false false)] b=none):=by
 by_cases hend':i=xs.length
 ·subst hend'
  have h1:=hend xs ys h0m hbd
  refine Calls.mono ((yF hE 1).ref.calls f 2 _ _ _ _ _ _ (show (run (bare E) 1).refC f 2 _ _ _=_ from h1) w B β va m5 hvs hfree (Nat.le_refl _)) ?_
  rintro en w' ⟨u,B',β',rfl,h2,h3,h4⟩
  have e:xs.take (xs.length:Int).toNat ++ ys ++ xs.drop (xs.length:Int).toNat=xs ++ ys:=by simp
  rw [e]
  exact ⟨u,B',β',rfl,h2.less hr,h3,h4⟩
 ·obtain ⟨j,rfl⟩:∃ j:Nat,i=j:=⟨i.toNat,by omega⟩
  have hj:j<xs.length:=by omega
  simp only [Int.toNat_natCast]
  obtain ⟨v0,vs1,e0,h1,g1⟩:=hvs.cN
  obtain ⟨v1,vs2,rfl,h2,g2⟩:=g1.cN
  obtain ⟨v2,vs3,rfl,h3,g3⟩:=g2.cN
  have:=g3.of_nil;subst this
  have hva:va=#[v0,v1,v2]:=by rw [← Array.toList_inj];exact e0
  subst hva
  cases h2
  have hr0:look [(0,bq.arr K xs false false),(1,.arr K ys false false)] 0=some (.arr K xs false false):=rfl
  have hr1:look [(0,bq.arr K xs false false),(1,.arr K ys false false)] 1=some (.arr K ys false false):=rfl
  obtain ⟨c0,hx0⟩:∃ c,c=xs.length:=⟨_,rfl⟩
  obtain ⟨c1,hx1⟩:∃ c,c=ys.length:=⟨_,rfl⟩
  rw [← hx0] at h1;rw [← hx1] at h3
  obtain ⟨bx,capx,X,q1,q2,q3,q4,q5⟩:=src_ok (x:=.own 0 K 0 xs.length) (sz:=K) (new:=xs) (nf:=false) (foot:=[0]) m5 (by simp [gS,hr0]) (by rw [← hx0];exact h1)
  obtain ⟨by',capy,Y,p1,p2,p3,p4,p5⟩:=src_ok (x:=.own 1 K 0 ys.length) (sz:=K) (new:=ys) (nf:=false) (foot:=[1]) m5 (by simp [gS,hr1]) (by rw [← hx1];exact h3)
  obtain ⟨l,cap,hl,hlk,hcap,hroom,rfl⟩:=h1.y1 (by omega)
  obtain ⟨l2,cap2,hl2,hlk2,hcap2,hroom2,rfl⟩:=h3.y1 (by omega)
  simp at q1 p1
  obtain ⟨rfl,q1,rfl⟩:=q1
  obtain ⟨rfl,p1,rfl⟩:=p1
  subst hx0;subst hx1
  rw [hlk] at hroom
  have hx0':xs≠[]:=fun h=>by rw [h] at hj;simp at hj
  have hy0':ys≠[]:=fun h=>by rw [h] at h0m;simp at h0m
  obtain ⟨C,eC,hC,hCo⟩:=m5.obj hr0 hl
  obtain ⟨D,eD,hD,hDo⟩:=m5.obj hr1 hl2
  have hne:l2.block≠l.block:=m5.inj 1 0 _ _ _ _ hr1 hr0 (by decide) hl2 hl
  have hX:∀ q v,X[q]?=some v→C[l.off+q]?=some v:=fun q v hq=>by
   rcases q4 with h | ⟨b,o,h,h'⟩
   ·exact absurd h hx0'
   ·simp at h;obtain ⟨rfl,rfl⟩:=h
    have:=h' q v hq
    simp only [World.cell?,hC] at this
    simpa using this
  have hY:∀ q v,Y[q]?=some v→D[l2.off+q]?=some v:=fun q v hq=>by
   rcases p4 with h | ⟨b,o,h,h'⟩
   ·exact absurd h hy0'
   ·simp at h;obtain ⟨rfl,rfl⟩:=h
    have:=h' q v hq
    simp only [World.cell?,hD] at this
    simpa using this
  have hCs:l.off+cap*K≤C.size:=by
   obtain ⟨c2,e2,hc2,hsize⟩:=hroom
   rw [hC] at hc2;simp at hc2;obtain ⟨rfl,rfl⟩:=hc2
   simpa using hsize
  have hXl:X.length=xs.length*K:=q3.len
  have hYl:Y.length=ys.length*K:=p3.len
  have hjK:j*K≤xs.length*K:=Nat.mul_le_mul_right K (Nat.le_of_lt hj)
  have htl:(X.take (j*K)).length=j*K:=by rw [List.length_take,hXl];omega
  have hdl:(X.drop (j*K)).length=(xs.length - j)*K:=by rw [List.length_drop,hXl,Nat.sub_mul]
  have hF:Flat w B (fun _=>none) K (xs.take j ++ ys ++ xs.drop j) (X.take (j*K) ++ Y ++ X.drop (j*K)):=((q3.take j).append p3).append (Flat.drop q3 j (Nat.le_of_lt hj))
  have hcs:∀ q v,(X.drop (j*K))[q]?=some v→C[l.off+j*K+q]?=some v:=fun q v hq=>by
   rw [List.getElem?_drop] at hq
   rw [Nat.add_assoc];exact hX _ v hq
  have hos:∀ q v,(X.take (j*K))[q]?=some v→C[l.off+q]?=some v:=fun q v hq=>by
   rw [List.getElem?_take] at hq
   split at hq
   ·exact hX _ v hq
   ·simp at hq
  have h1c:∀ v∈X.drop (j*K),v.oneCell'=true:=fun v hv=>q3.one v (List.mem_of_mem_drop hv)
  have H9:look [(1,bq.arr K ys false false),(2,.arr K (xs.take j ++ ys ++ xs.drop j) false false)]=cd (cd (look [(0,bq.arr K xs false false),(1,.arr K ys false false)]) 0 none) 2 (some (.arr K (xs.take j ++ ys ++ xs.drop j) false false)):=by
   funext b
   simp only [look,cd]
   by_cases h2:b=2
   ·subst h2;simp
   ·by_cases h1:b=1
    ·subst h1;simp
    ·by_cases h0:b=0
     ·subst h0;simp
     ·simp [h2,h1,h0,Ne.symm h2,Ne.symm h1,Ne.symm h0,beq_eq_false_iff_ne.2 (Ne.symm h2),beq_eq_false_iff_ne.2 (Ne.symm h1),beq_eq_false_iff_ne.2 (Ne.symm h0)]
  obtain ⟨hβ2,hr2⟩:=hfree 2 (Nat.le_refl _)
  have hsplit:(xs.length+ys.length)*K=j*K+ys.length*K+(xs.length - j)*K:=by rw [Nat.add_mul,Nat.sub_mul];omega
  have anr:xs.length+ys.length≤1073741824:=hbd
  by_cases hrm:xs.length+ys.length≤cap
  ·have hle:=Nat.mul_le_mul_right K hrm
   refine Calls.mono (by simpa using hK.room l.block l.off xs.length cap j l2.block l2.off ys.length cap2 C D eC eD (X.drop (j*K)) Y w hj h0m hrm hne hC (by omega) hdl hcs hD hYl hY h1c p3.one anr) ?_
   rintro en w' ⟨rfl,rfl⟩
   have hc1:l.off+(j+ys.length)*K+(X.drop (j*K)).length≤C.size:=by rw [hdl,Nat.add_mul];omega
   have hc2:l.off+j*K+Y.length≤(dh C (l.off+(j+ys.length)*K) (X.drop (j*K))).size:=by rw [cV hc1,hYl];omega
   have hd:w.drew.heap[l.block]?=some (.cells C eC (0,0)):=hC
   have hw1:=gi (c':=dh C (l.off+(j+ys.length)*K) (X.drop (j*K))) hd
   have hw2:=gi (c':=dh (dh C (l.off+(j+ys.length)*K) (X.drop (j*K))) (l.off+j*K) Y) hw1.here
   have hw:Ra w ((w.drew.setRow l.block (dh C (l.off+(j+ys.length)*K) (X.drop (j*K)))).setRow l.block (dh (dh C (l.off+(j+ys.length)*K) (X.drop (j*K))) (l.off+j*K) Y)) l.block (dh (dh C (l.off+(j+ys.length)*K) (X.drop (j*K))) (l.off+j*K) Y) eC:=
    ⟨hw2.os.trans hw1.os,hw2.tape.trans hw1.tape,hw2.output.trans hw1.output,hw2.size.trans hw1.size,hw2.here,fun d hd=>(hw2.there d hd).trans (hw1.there d hd)⟩
   have hob:=Flat.obj (β:=β) hF (l:=l) hlk (c:=dh (dh C (l.off+(j+ys.length)*K) (X.drop (j*K))) (l.off+j*K) Y) (fun q v hq=>by
    rw [Nat.add_mul]
    exact C5 htl hYl (by rw [hdl];omega) hos q v hq)
   have hst:=Step.move m5 hr0 (by simp) hl hβ2 hr2 hC ((cV hc2).trans (cV hc1)) hw _ l rfl (by simp) hob
   rw [← H9] at hst
   refine ⟨_,B,_,rfl,hst.toR r,?_,fun b hb=>⟨?_,?_⟩⟩
   ·have:=V.own (w:=(w.drew.setRow l.block (dh C (l.off+(j+ys.length)*K) (X.drop (j*K)))).setRow l.block (dh (dh C (l.off+(j+ys.length)*K) (X.drop (j*K))) (l.off+j*K) Y)) (B:=B) (β:=cz β 2 l) 2 0 (xs.length+ys.length) cap l (by simp [cz]) hrm ⟨_,eC,hw.here,by rw [cV hc2,cV hc1,hlk];simpa using hCs⟩
    rw [hlk] at this
    simpa using this
   ·simp only [cz];rw [if_neg (by omega)];exact (hfree b (by omega)).1
   ·simp only [look];rw [if_neg (by simp;omega),if_neg (by simp;omega)]
  ·refine Calls.mono (by simpa using hK.grow l.block l.off xs.length cap j l2.block l2.off ys.length cap2 C D eC eD (X.take (j*K)) (X.drop (j*K)) Y w hj h0m hcap (by omega) hC htl hos hdl hcs hD hYl hY h1c p3.one anr) ?_
   rintro en w' ⟨R,G,rfl,hG,hRs,hRo,e1,e2,e3,e4⟩
   have hle:=Nat.mul_le_mul_right K hG
   have hc1:j*K+Y.length≤R.size:=by rw [hYl,hRs];omega
   have hc2:(j+ys.length)*K+(X.drop (j*K)).length≤(dh R (j*K) Y).size:=by rw [cV hc1,hdl,hRs,Nat.add_mul];omega
   have hob:=Flat.obj (β:=β) hF (l:=⟨w.heap.size,0,K⟩) rfl (c:=dh (dh R (j*K) Y) ((j+ys.length)*K) (X.drop (j*K))) (fun q v hq=>by
    simp only [Nat.zero_add]
    rw [gx hc2,gx hc1]
    by_cases g1:q<j*K
    ·rw [List.append_assoc,List.getElem?_append_left (by omega)] at hq
     rw [if_neg (by rw [Nat.add_mul];omega),if_neg (by omega),hRo q g1]
     exact hq
    ·by_cases g2:q<j*K+ys.length*K
     ·rw [List.append_assoc,List.getElem?_append_right (by omega),List.getElem?_append_left (by omega)] at hq
      rw [if_neg (by rw [Nat.add_mul];omega),if_pos (by omega),← hq]
      congr 1;omega
     ·rw [List.getElem?_append_right (by rw [List.length_append];omega)] at hq
      have hlt:=bZ hq
      rw [List.length_append] at hlt hq
      rw [if_pos (by rw [Nat.add_mul];omega),← hq]
      congr 1;rw [Nat.add_mul];omega)
   have hst:=Step.new (Step.kill m5 0).sim (a:=2) hβ2 (by simp only [cd];rw [if_neg (by decide)];exact hr2) (dh (dh R (j*K) Y) ((j+ys.length)*K) (X.drop (j*K))) e K _ hob (by simp)
   rw [← H9] at hst
   have TT:=Step.heap ((Step.kill m5 0).trans hst) (w'':=w') e4 e1 e2 e3
   refine ⟨_,B,_,rfl,TT.toR r,?_,fun b hb=>⟨?_,?_⟩⟩
   ·have:=V.own (w:=w') (B:=B) (β:=cz β 2 ⟨w.heap.size,0,K⟩) 2 0 (xs.length+ys.length) G ⟨w.heap.size,0,K⟩ (by simp [cz]) hG ⟨_,e,by rw [e4];exact heap_alloc_new w _,by rw [cV hc2,cV hc1,hRs];simp⟩
    simpa using this
   ·simp only [cz];rw [if_neg (by omega)];exact (hfree b (by omega)).1
   ·simp only [look];rw [if_neg (by simp;omega),if_neg (by simp;omega)]
theorem BU {E:Env} {f K:Nat} {e:TypeId} (hE:rr P (bare E)) (hcall:Callable P f) (hK:I2 P f K e)
  (hend:∀ xs ys,0<ys.length→xs.length+ys.length≤bound→(level (bare E) (run (bare E) 0)).refC f 2 [.own 0 K 0 xs.length,.int .i64 xs.length,.own 1 K 0 ys.length] [(0,.arr K xs false false),(1,.arr K ys false false)] 2 =
   some (.own 2 K 0 (xs.length+ys.length),[(1,.arr K ys false false),(2,.arr K (xs ++ ys) false false)],3)):yv P f (oI K):=by
 refine ⟨fun _ _ _ _ _ _ _=>hcall,fun r args h next v h' nx hp w B β va m5 hvs hfree hr=>?_,fun args h next v h' nx hp=>?_⟩
 case refine_2=>
  unfold oI at hp
  split at hp
  ·split at hp
   ·simp at hp;obtain ⟨_,rfl,rfl⟩:=hp
    simp
   ·simp at hp
  ·simp at hp
 unfold oI at hp
 split at hp
 case h_2=>simp at hp
 rename_i a k off n i b k' off' m a0 k1 xs fl fz b0 k2 ys fl' fz' nx'
 split at hp
 case isFalse=>simp at hp
 rename_i hc
 simp only [Bool.and_eq_true,beq_iff_eq,decide_eq_true_eq,Bool.not_eq_true'] at hc
 obtain ⟨⟨⟨⟨⟨⟨⟨⟨⟨⟨⟨⟨⟨⟨⟨⟨⟨⟨⟨⟨rfl,rfl⟩,rfl⟩,rfl⟩,rfl⟩,rfl⟩,rfl⟩,rfl⟩,rfl⟩,rfl⟩,rfl⟩,rfl⟩,rfl⟩,rfl⟩,rfl⟩,rfl⟩,rfl⟩,h0i⟩,hin⟩,h0m⟩,hbd⟩:=hc
 simp only [Option.some.injEq,Prod.mk.injEq] at hp
 obtain ⟨rfl,rfl,rfl⟩:=hp
 exact BV hE hK hend _ _ _ h0i hin h0m hbd m5 hvs hfree hr
end Go.Pm
end
section
set_option linter.all false
namespace Go.S
open Go Go.Pm Go.Proofs Go.RowKit Go.Lib
set_option maxHeartbeats 4000000
set_option maxRecDepth 100000
theorem TC (g o n c i vb vo m vc:Nat) (C D:Array Value) (e0 e1:Nat) (cs vs:List Value) (w:World) (hi:i<n) (hm:0<m) (hroom:n+m≤c) (hvb:vb≠g)
  (hg:w.heap[g]?=some (.cells C e0 (0,0))) (hsz:o+(n+m)*4≤C.size) (hcl:cs.length=(n - i)*4) (hcs:∀ j v,cs[j]?=some v→C[o+i*4+j]?=some v)
  (hd:w.heap[vb]?=some (.cells D e1 (0,0))) (hvl:vs.length=m*4) (hvs:∀ j v,vs[j]?=some v→D[vo+j]?=some v) (h1c:∀ v∈cs,v.oneCell'=true) (h1v:∀ v∈vs,v.oneCell'=true) (hbig:n+m≤1073741824) :
  Calls Tryz.prog 86 #[.slice (some ⟨g,o,none⟩) n c,.int .i64 i,.slice (some ⟨vb,vo,none⟩) m vc] w fun en w'=>
   en=.returned (.slice (some ⟨g,o,none⟩) (n+m) c)∧w'=(w.drew.setRow g (dh C (o+(i+m)*4) cs)).setRow g (dh (dh C (o+(i+m)*4) cs) (o+i*4) vs):=by
 have mixed:Tryz.prog.follows Departure.mixedOrders=true:=rfl
 have t73:=Tryz.underlying73
 have u73:=run_underlying Tryz.underlying73
 have hz1:¬ ((m:Int)=0):=by omega
 have hz2:¬ ((i:Int)=(n:Int)):=by omega
 have Ph:(Tryz.prog.info? 109).map (·.size)=some 4:=rfl
 have hov:∀ lb cb q,(callFunc 129 #[.slice (some ⟨vb,vo,none⟩) m vc,.slice (some ⟨g,q,none⟩) lb cb]).run Tryz.prog w=.ok (.value (.bool false)) w:=fun lb cb q=>by
  rw [run_callFunc_extern Tryz.func129 (by kernel_rfl) (by kernel_rfl) (by kernel_rfl) (e:=Extern.SlicesOverlaps.overlaps #[73,73] #[4]) (by kernel_rfl),
   Lib.run_overlaps_apart w 73 4 109 Tryz.underlying73 4 Tryz.sizeOf109 ⟨vb,vo,none⟩ ⟨g,q,none⟩ m vc lb cb hvb e1 e0 D.size C.size (by simp [World.shape?,hd]) (by simp [World.shape?,hg]) (by omega) (by simp [World.frozen?,hd]) (by simp [World.frozen?,hd])]
  rfl
 have hw1:IntKind.i64.wrap ((i:Int)+(m:Int))=(i:Int)+(m:Int):=by rw [IntKind.wrap_i64];omega
 have hb1:(0:Int)≤(i:Int)+(m:Int):=by omega
 have hin:i≤n:=by omega
 have htn:((i:Int)+(m:Int)).toNat=i+m:=by omega
 have hb2:¬ (c=i+m):=by omega
 have hb3:(i:Int)≤(n:Int)+(m:Int):=by omega
 have hb4:¬ (c=i):=by omega
 have hcp1:∀ ty dc sc,(Builtin.copy_ #[73,73] ty #[.slice (some ⟨g,o+(i+m)*4,none⟩) (n+m - (i+m)) dc,.slice (some ⟨g,o+i*4,none⟩) (n+m - i) sc]).run Tryz.prog w.drew=.ok (goInt (Nat.min (n+m - i) (n+m - (i+m)))) (w.drew.setRow g (dh C (o+(i+m)*4) cs)):=fun ty dc sc=>
  run_copy_splc w.drew _ _ ty 109 g (o+(i+m)*4) (n+m - (i+m)) dc ⟨g,o+i*4,none⟩ (n+m - i) sc C e0 cs 4 t73 Ph hg (by rw [hcl];congr 1;simp only [Nat.min_def];split <;> omega)
   (fun j v hj=>by rw [Addr.add_lit];simp only [World.cell?];rw [show w.drew.heap=w.heap from rfl,hg];exact hcs j v hj)
   (by rw [hcl];omega) h1c
 obtain ⟨C1,hC1⟩:∃ C1,C1=dh C (o+(i+m)*4) cs:=⟨_,rfl⟩
 obtain ⟨W1,hW1⟩:∃ W1,W1=w.drew.setRow g C1:=⟨_,rfl⟩
 have hC1s:C1.size=C.size:=by rw [hC1];exact cV (by rw [hcl];omega)
 have adQ:W1.heap[g]?=some (.cells C1 e0 (0,0)):=by rw [hW1];exact setRow_heap _ _ _ _ _ _ hg
 have hW1d:W1.heap[vb]?=some (.cells D e1 (0,0)):=by
  rw [hW1];simp only [World.setRow,Array.getElem?_modify]
  rw [if_neg (fun h=>hvb h.symm)];exact hd
 have hcp2:∀ (W:World),W.heap=W1.heap→∀ ty dc,(Builtin.copy_ #[73,73] ty #[.slice (some ⟨g,o+i*4,none⟩) (n+m - i) dc,.slice (some ⟨vb,vo,none⟩) m vc]).run Tryz.prog W=.ok (goInt (Nat.min m (n+m - i))) (W.setRow g (dh C1 (o+i*4) vs)):=fun W hW ty dc=>
  run_copy_splc W _ _ ty 109 g (o+i*4) (n+m - i) dc ⟨vb,vo,none⟩ m vc C1 e0 vs 4 t73 Ph (by rw [hW];exact adQ) (by rw [hvl];congr 1;simp only [Nat.min_def];split <;> omega)
   (fun j v hj=>by rw [Addr.add_lit];simp only [World.cell?];rw [hW,hW1d];exact hvs j v hj)
   (by rw [hvl,hC1s];omega) h1v
 rw [← hC1] at hcp1 ⊢
 rw [← hW1] at hcp1
 go_enter Tryz.func86,Tryz.ntmps86
 go_wp2_with (simp only [hov])
 go_region_law_o (refine o9 rfl _ _ 73 73 rfl _ _ (by simp [Act.eval,Act.put]) (by simp [Act.eval,Act.put]) (hcp1 _ _ _) ?_)
 go_wp2_with (at_builtin;refine wpList_copy_run _ rfl _ _ 73 73 rfl _ _ rfl rfl (hcp2 _ rfl _ _) ?_)
 go_ret
 exact ⟨rfl,by subst hC1;rfl⟩
theorem TD (g o n c i vb vo m vc:Nat) (C D:Array Value) (e0 e1:Nat) (os cs vs:List Value) (w:World) (hi:i<n) (hm:0<m) (hnc:n≤c) (hroom:c<n+m)
  (hg:w.heap[g]?=some (.cells C e0 (0,0))) (hol:os.length=i*4) (hos:∀ j v,os[j]?=some v→C[o+j]?=some v) (hcl:cs.length=(n - i)*4) (hcs:∀ j v,cs[j]?=some v→C[o+i*4+j]?=some v)
  (hd:w.heap[vb]?=some (.cells D e1 (0,0))) (hvl:vs.length=m*4) (hvs:∀ j v,vs[j]?=some v→D[vo+j]?=some v) (h1c:∀ v∈cs,v.oneCell'=true) (h1v:∀ v∈vs,v.oneCell'=true) (hbig:n+m≤1073741824) :
  Calls Tryz.prog 86 #[.slice (some ⟨g,o,none⟩) n c,.int .i64 i,.slice (some ⟨vb,vo,none⟩) m vc] w fun en w'=>∃ (R:Array Value) (G:Nat),en=.returned (.slice (some ⟨w.heap.size,0,none⟩) (n+m) G)∧n+m≤G∧R.size=G*4∧(∀ j,j<i*4→R[j]?=os[j]?)∧w'.os=w.os∧w'.tape=w.tape∧w'.output=w.output∧
   w'.heap=((w.alloc (.cells (dh (dh R (i*4) vs) ((i+m)*4) cs) 109))).heap:=by
 have mixed:Tryz.prog.follows Departure.mixedOrders=true:=rfl
 have t73:=Tryz.underlying73
 have u73:=run_underlying Tryz.underlying73
 have hz1:¬ ((m:Int)=0):=by omega
 have hz2:¬ ((i:Int)=(n:Int)):=by omega
 have hz3:(c:Int)<(n:Int)+(m:Int):=by omega
 have Ph:(Tryz.prog.info? 109).map (·.size)=some 4:=rfl
 have hbw:g<w.heap.size:=by rcases Nat.lt_or_ge g w.heap.size with h | h;exact h;simp [Array.getElem?_eq_none h] at hg
 have hvw:vb<w.heap.size:=by rcases Nat.lt_or_ge vb w.heap.size with h | h;exact h;simp [Array.getElem?_eq_none h] at hd
 have hkk:(n:Int)+(m:Int) - (i:Int)=((n+m - i:Nat):Int):=by omega
 have hik:i+(n+m - i)=n+m:=by omega
 have hold:(Builtin.firstCells 4 i (.slice (some ⟨g,o,none⟩) i c)).run Tryz.prog w.drew=.ok os.toArray w.drew:=
  run_firstCells_some w.drew 4 i ⟨g,o,none⟩ i c os hol (fun j v hj=>by
   rw [Addr.add_lit];simp only [World.cell?];rw [show w.drew.heap=w.heap from rfl,hg];exact hos j v hj)
 obtain ⟨z,hz,hzs⟩:∃ z,Tryz.t109.zero=some z∧z.cells.size=4:=⟨_,rfl,rfl⟩
 obtain ⟨G,hG⟩:∃ G,G=grownCap w (n+m) c 109:=⟨_,rfl⟩
 obtain ⟨R,hR⟩:∃ R,R=os.toArray ++ Builtin.zeroCells z.cells (n+m - i) ++ Builtin.zeroCells z.cells (G - (n+m)):=⟨_,rfl⟩
 have hrz:∀ ty,(Builtin.append_ #[73,3] ty #[.slice (some ⟨g,o,none⟩) i c,.int .i64 ((n:Int)+(m:Int) - (i:Int))]).run Tryz.prog w =
   .ok (.slice (some ⟨w.heap.size,0,none⟩) (n+m) G) (w.drew.alloc (.cells R 109)):=fun ty=>by
  have h:=Lib.run_append_grow_zeros w 73 3 ty 109 Tryz.t109 z .i64 .i64 Tryz.underlying73 Tryz.underlying3 Tryz.type109 hz (some ⟨g,o,none⟩) i c os hold (n+m - i) (by omega) (by decide) (by omega) (by omega) (by show (n+m - i)*32≤_;omega) (by rw [hik];exact growslice_fits (bytes:=32) hroom (by omega))
  rw [hik,← hG,← hR] at h
  rw [hkk]
  exact h
 have hGn:n+m≤G:=by rw [hG];exact grownCap_ge w _ _ _
 have hRs:R.size=G*4:=by rw [hR];simp [Builtin.zeroCells,hol,hzs];omega
 have hRo:∀ j,j<i*4→R[j]?=os[j]?:=fun j hj=>by
  have hl:j<os.toArray.size:=by simp [hol,hj]
  rw [hR,Array.append_assoc,Array.getElem?_append_left hl];simp
 clear hR
 obtain ⟨W1,hW1⟩:∃ W1,W1=w.drew.alloc (.cells R 109):=⟨_,rfl⟩
 have anu:W1.heap[w.heap.size]?=some (.cells R 109 (0,0)):=by rw [hW1];exact heap_alloc_new w.drew _
 have hW1v:W1.heap[vb]?=some (.cells D e1 (0,0)):=by rw [hW1];rw [Below.heap_alloc w.drew _ vb hvw];exact hd
 have adQ:W1.heap[g]?=some (.cells C e0 (0,0)):=by rw [hW1];rw [Below.heap_alloc w.drew _ g hbw];exact hg
 rw [← hW1] at hrz
 have hcpA:∀ (W:World),W.heap=W1.heap→∀ ty dc,(Builtin.copy_ #[73,73] ty #[.slice (some ⟨w.heap.size,i*4,none⟩) (n+m - i) dc,.slice (some ⟨vb,vo,none⟩) m vc]).run Tryz.prog W=.ok (goInt (Nat.min m (n+m - i))) (W.setRow w.heap.size (dh R (i*4) vs)):=fun W hW ty dc=>
  run_copy_splc W _ _ ty 109 w.heap.size (i*4) (n+m - i) dc ⟨vb,vo,none⟩ m vc R 109 vs 4 t73 Ph (by rw [hW];exact anu) (by rw [hvl];congr 1;simp only [Nat.min_def];split <;> omega)
   (fun j v hj=>by rw [Addr.add_lit];simp only [World.cell?];rw [hW,hW1v];exact hvs j v hj)
   (by rw [hvl,hRs];omega) h1v
 obtain ⟨R1,hR1⟩:∃ R1,R1=dh R (i*4) vs:=⟨_,rfl⟩
 have hR1s:R1.size=R.size:=by rw [hR1];exact cV (by rw [hvl,hRs];omega)
 rw [← hR1] at hcpA
 obtain ⟨W2,hW2⟩:∃ W2,W2=W1.setRow w.heap.size R1:=⟨_,rfl⟩
 have hW2N:W2.heap[w.heap.size]?=some (.cells R1 109 (0,0)):=by rw [hW2];exact setRow_heap _ _ _ _ _ _ anu
 have hW2g:W2.heap[g]?=some (.cells C e0 (0,0)):=by
  rw [hW2];simp only [World.setRow,Array.getElem?_modify]
  rw [if_neg (fun h=>by omega)];exact adQ
 have hGi:¬ (G=i):=by omega
 have hGim:¬ (G=i+m):=by omega
 have hci:¬ (c=i):=by omega
 have hcpB:∀ (W:World),W.heap=W2.heap→∀ ty dc sc,(Builtin.copy_ #[73,73] ty #[.slice (some ⟨w.heap.size,(i+m)*4,none⟩) (n+m - (i+m)) dc,.slice (some ⟨g,o+i*4,none⟩) (n - i) sc]).run Tryz.prog W=.ok (goInt (Nat.min (n - i) (n+m - (i+m)))) (W.setRow w.heap.size (dh R1 ((i+m)*4) cs)):=fun W hW ty dc sc=>
  run_copy_splc W _ _ ty 109 w.heap.size ((i+m)*4) (n+m - (i+m)) dc ⟨g,o+i*4,none⟩ (n - i) sc R1 109 cs 4 t73 Ph (by rw [hW];exact hW2N) (by rw [hcl];congr 1;simp only [Nat.min_def];split <;> omega)
   (fun j v hj=>by rw [Addr.add_lit];simp only [World.cell?];rw [hW,hW2g];exact hcs j v hj)
   (by rw [hcl,hR1s,hRs];omega) h1c
 have hw1:IntKind.i64.wrap ((i:Int)+(m:Int))=(i:Int)+(m:Int):=by rw [IntKind.wrap_i64];omega
 have hb1:(0:Int)≤(i:Int)+(m:Int):=by omega
 have hin:i≤n:=by omega
 have htn:((i:Int)+(m:Int)).toNat=i+m:=by omega
 have hb3:(i:Int)≤(n:Int):=by omega
 clear hkk hik hold hG
 go_enter Tryz.func86,Tryz.ntmps86
 go_wp2_with (first
  | (at_builtin;refine Lib.wpList_append_run _ rfl _ _ _ _ rfl _ _ rfl rfl _ _ (hrz _) ?_)
  | (at_builtin;refine wpList_copy_run _ rfl _ _ 73 73 rfl _ _ rfl rfl (hcpA _ rfl _ _) ?_))
 go_region_law_o (refine o9 rfl _ _ 73 73 rfl (.slice (some ⟨w.heap.size,(i+m)*4,none⟩) (n+m - (i+m)) (G - (i+m))) (.slice (some ⟨g,o+i*4,none⟩) (n - i) (c - i)) (by simp [Act.eval,Act.put]) (by simp [Act.eval,Act.put]) (hcpB _ (by rw [hW2,hW1,hR1];rfl) _ _ _) ?_)
 go_wp2
 go_ret
 refine ⟨R,G,rfl,hGn,hRs,hRo,rfl,rfl,rfl,?_⟩
 exact (qk (w':=(w.alloc (.cells (dh R (i*4) vs) 109))) (yu w R _ 109) _ _).trans (yu w _ _ 109)
theorem BR_E (f r:Nat) (C:Pm.Callee):(fw E0 f r C).E=E0:=rfl
theorem BR_C (f r:Nat) (C:Pm.Callee):(fw E0 f r C).C=C:=rfl
theorem BR_f (f r:Nat) (C:Pm.Callee):(fw E0 f r C).f=f:=rfl
theorem as0 (f r:Nat) (C:Pm.Callee):(fw E0 f r C).nr=r:=rfl
theorem BR_c (f r:Nat) (C:Pm.Callee):(fw E0 f r C).c=bh E0 f:=rfl
theorem BR_D (f r:Nat) (C:Pm.Callee):(fw E0 f r C).D=Cn E0 f r:=rfl
theorem adp (xs ys:List (List PV)) (hy:0<ys.length) (hb:xs.length+ys.length≤bound):(level E0 (run E0 0)).refC 86 2 [.own 0 4 0 xs.length,.int .i64 xs.length,.own 1 4 0 ys.length] [(0,.arr 4 xs false false),(1,.arr 4 ys false false)] 2 =
   some (.own 2 4 0 (xs.length+ys.length),[(1,.arr 4 ys false false),(2,.arr 4 (xs ++ ys) false false)],3):=by
 have hy0:((ys.length:Int) == 0)=false:=by simp;intro h;rw [h] at hy;simp at hy
 have hxx:((xs.length:Int) == xs.length)=true:=by simp
 have h1:decide ((0:Int)≤(xs.length:Int)∧(xs.length:Int)≤xs.length)=true:=by simp
 have h2:(xs ++ ys).length≤bound:=by simpa using hb
 rw [level_ref (fn:=Tryz.f86) _ _ _ _ rfl rfl rfl rfl]
 simp only [Go.Pm.W0,Go.Pm.W1,Go.Pm.W2,Go.Pm.W3,Go.Pm.W4,Go.Pm.W5,Go.Pm.W6,Go.Pm.W7,Go.Pm.W8,Go.Pm.W9,Go.Pm.Wc,BR_E,BR_C,BR_f,as0,BR_c,BR_D,CG,wQ,rv,ig,ru,wP,lE,ry,Rh,Rg,Rf,WT,Nat.reduceAdd,Nat.reduceSub,Nat.reduceMul,Nat.reduceBEq,Nat.reduceLeDiff,Nat.reduceEqDiff,Nat.reduceLT,↓reduceIte,nt86,co86,re86,rk86,Tryz.f86,hy0,hxx,h1,h2,hb,decide_true,Qr _ _ _ _ _ (ig _),List.length_append]
theorem abU:yv Tryz.prog 86 (oI 4):=BU (E:=E) CF ⟨_,Tryz.func86,anB.2.1,rfl⟩ ⟨TC,TD⟩ adp
end Go.S
end
section
set_option linter.unusedVariables false
set_option linter.unusedSimpArgs false
namespace Go.Pm
open Go Go.Sort
section
variable {w w':World} {B:Nat→Prop} {β:Map} {rd:Rd}
theorem yG {b n:Nat} (h:Room w b n):b<w.heap.size:=by
 obtain ⟨c,e,h1,_⟩:=h
 rcases Nat.lt_or_ge b w.heap.size with h | h
 ·exact h
 ·simp [Array.getElem?_eq_none h] at h1
theorem Step.more (hs:Sim w B β rd) (h1:w'.os=w.os) (h2:w'.tape=w.tape) (h3:w'.output=w.output) (hsz:w.heap.size≤w'.heap.size) (hh:∀ k,k<w.heap.size→w'.heap[k]?=w.heap[k]?):Step w B β rd w' B β rd:=by
 have hroom:∀ b n,Room w b n→Room w' b n:=fun b n hr=>by
  have hl:=yG hr
  obtain ⟨c,e,g1,g2⟩:=hr
  exact ⟨c,e,by rw [hh b hl];exact g1,g2⟩
 have hB:∀ b,B b→w'.heap[b]?=w.heap[b]?:=fun b hb=>hh b (hs.lt b hb)
 refine ⟨⟨fun a cs ha=>?_,fun a k xs fl fz ha=>?_,hs.excl,hs.inj,fun b hb=>Nat.lt_of_lt_of_le (hs.lt b hb) hsz,hs.frz⟩,⟨h1,h2,h3,hsz,fun k hk _=>hh k hk,hroom⟩,fun _ h=>h,fun _ h=>.inl h,fun _ h=>.inl h,fun _ h=>.inl h,fun _ _ h=>h⟩
 ·obtain ⟨l,c,e,g1,g2,g3,g4,g5⟩:=hs.box a cs ha
  exact ⟨l,c,e,g1,g2,by rw [hh _ (yG ⟨c,e,g3,Nat.le_refl _⟩)];exact g3,g4.keep (fun _ h=>h) hB (fun _ _ h=>h) hroom,g5⟩
 ·obtain ⟨g1,g2,g3⟩:=hs.arr a k xs fl fz ha
  refine ⟨g1,g2,?_⟩
  rcases g3 with g3 | ⟨l,c,e,g3,g4,g5,g6⟩
  ·exact .inl g3
  ·refine .inr ⟨l,c,e,g3,g4,by rw [hh _ (yG ⟨c,e,g5,Nat.le_refl _⟩)];exact g5,fun i x j p q1 q2=>?_⟩
   obtain ⟨v,r1,r2,r3⟩:=g6 i x j p q1 q2
   exact ⟨v,r1,r2,r3.keep (fun _ h=>h) hB (fun _ _ h=>h) hroom⟩
end
theorem F3 (l:List Int) (i:Nat):(rows l)[i]?=l[i]?.map fun z=>[.int .i64 z]:=by
 simp only [rows,List.getElem?_map];cases l[i]? <;> rfl
variable {P:Program}
theorem Jb {f:Nat}
  (hs:∀ (blk off cap:Nat) (zs:List Int) (w:World),Holds (Value.int .i64) w blk off zs.toArray→blk<w.heap.size→zs.length<4611686018427387904→
   Calls P f #[.slice (some ⟨blk,off,none⟩) zs.length cap] w fun e w'=>e=.returned (.tuple #[])∧∃ n os,w'=grow (putRow (Value.int .i64) (Sort.ahead w n) blk off (zs.mergeSort fun x y=>decide (x≤y)).toArray) os)
  (h0:∀ (p:Option Addr) (cap:Nat) (w:World),Calls P f #[.slice p 0 cap] w fun e w'=>e=.returned (.tuple #[])∧w'=w)
  (zs:List Int) (hb:zs.length≤bound) {w:World} {B:Nat→Prop} {β:Map} {va:Array Value}
  (m5:Sim w B β (look [(0,.arr 1 (rows zs) false false)])) (hvs:Vs w B β [.own 0 1 0 zs.length] va.toList) (hfree:∀ b,1≤b→β b=none∧look [(0,.arr 1 (rows zs) false false)] b=none) (r:Nat) :
  Calls P f va w (fun en w'=>∃ u B' β',en=.returned u∧StepR r w B β (look [(0,.arr 1 (rows zs) false false)]) w' B' β' (look [(0,.arr 1 (rows (zs.mergeSort fun x y=>decide (x≤y))) false false)])∧V w' B' β' (.tup []) u∧
   ∀ b,1≤b→β' b=none∧look [(0,.arr 1 (rows (zs.mergeSort fun x y=>decide (x≤y))) false false)] b=none):=by
 obtain ⟨v0,vs1,e0,h1,g1⟩:=hvs.cN
 have:=g1.of_nil;subst this
 have hva:va=#[v0]:=by rw [← Array.toList_inj];exact e0
 subst hva
 have anc:∀ w' B' β',V w' B' β' (.tup []) (.tuple #[]):=fun w' B' β'=>.tup [] #[] rfl fun i c v h=>by simp at h
 by_cases hz:zs=[]
 ·subst hz
  have hz0:([]:List Int).mergeSort (fun x y=>decide (x≤y))=[]:=by simp
  obtain ⟨p,cap,rfl⟩:∃ p cap,v0=.slice p 0 cap:=by
   obtain ⟨k1,hk1⟩:∃ k:Nat,k=1:=⟨_,rfl⟩
   obtain ⟨n1,hn1⟩:∃ k:Nat,k=([]:List Int).length:=⟨_,rfl⟩
   rw [← hk1,← hn1] at h1
   cases h1 with
   | kU=>exact ⟨_,_,rfl⟩
   | own=>subst hn1;exact ⟨_,_,rfl⟩
  refine Calls.mono (h0 p cap w) ?_
  rintro en w' ⟨rfl,rfl⟩
  rw [hz0]
  exact ⟨_,B,β,rfl,(Step.refl m5).toR r,anc _ _ _,hfree⟩
 ·have hlen:0<zs.length:=List.length_pos_iff.2 hz
  obtain ⟨l,cap,hl,hlk,hcap,hroom,rfl⟩:=h1.y1 hlen
  have hr0:look [(0,bq.arr 1 (rows zs) false false)] 0=some (.arr 1 (rows zs) false false):=rfl
  obtain ⟨C,eC,hC,hCo⟩:=m5.obj hr0 hl
  obtain ⟨_,_,_,hat⟩:=hCo
  have hlt:l.block<w.heap.size:=m5.block_lt hr0 hl
  have hcell:∀ i z,zs[i]?=some z→C[l.off+i]?=some (.int .i64 z):=fun i z hi=>by
   obtain ⟨v,q1,q2,q3⟩:=hat i [.int .i64 z] 0 (.int .i64 z) (by rw [F3,hi];rfl) rfl
   cases q3
   rw [hlk] at q1;simpa using q1
  have hH:Holds (Value.int .i64) w l.block l.off zs.toArray:=fun j hj=>by
   have hj':j<zs.length:=by simpa using hj
   have:=hcell j zs[j] (List.getElem?_eq_getElem hj')
   refine ⟨?_,by simp [World.frozen?,hC]⟩
   simp only [World.cell?,hC]
   simp [this,hj']
  have hbd:zs.length≤1073741824:=hb
  refine Calls.mono (by simpa using hs l.block l.off cap zs w hH hlt (by omega)) ?_
  rintro en w' ⟨rfl,n,os,rfl⟩
  generalize hss:(zs.mergeSort fun x y=>decide (x≤y))=ss
  have hsl:ss.length=zs.length:=by rw [← hss];exact List.length_mergeSort _
  have hfit:l.off+ss.length≤C.size:=by
   obtain ⟨c2,e2,hc2,hsize⟩:=hroom
   rw [hC] at hc2;simp at hc2;obtain ⟨rfl,rfl⟩:=hc2
   rw [hlk] at hsize;simp at hsize;omega
  have hget:∀ i z,ss[i]?=some z→(putCells (Value.int .i64) l.off ss.toArray C)[l.off+i]?=some (.int .i64 z):=fun i z hi=>by
   have hi':=(List.getElem?_eq_some_iff.1 hi).1
   have hz':=(List.getElem?_eq_some_iff.1 hi).2
   simp only [putCells,Array.getElem?_mapIdx]
   rw [Array.getElem?_eq_getElem (show l.off+i<C.size by omega)]
   simp [hi',hz']
  have hrew:Ra w (putRow (Value.int .i64) (Sort.ahead w n) l.block l.off ss.toArray) l.block (putCells (Value.int .i64) l.off ss.toArray C) eC:=
   ⟨rfl,rfl,rfl,by simp [putRow,mapBlock,Sort.ahead],by simp [putRow,mapBlock,Sort.ahead,Array.getElem?_modify,hC,onCells],fun d hd=>by
    simp only [putRow,mapBlock,Sort.ahead,Array.getElem?_modify];rw [if_neg (Ne.symm hd)]⟩
  have hst:=Step.write m5 hr0 (by simp) hl hC (by simp [putCells]) hrew (.arr 1 (rows ss) false false) (by simp) ⟨by simp,fun x hx=>by
    simp only [rows,List.mem_map] at hx;obtain ⟨a,_,rfl⟩:=hx;rfl,hlk,fun i x j p q1 q2=>by
    rw [F3] at q1
    cases hz2:ss[i]? with
    | none=>rw [hz2] at q1;simp at q1
    | some z=>
     rw [hz2] at q1;simp at q1;subst q1
     cases j with
     | zero=>simp at q2;subst q2;exact ⟨.int .i64 z,by rw [hlk];simpa using hget i z hz2,rfl,.int _ _⟩
     | succ j=>simp at q2⟩
  have TT:=Step.more hst.sim (w':=grow (putRow (Value.int .i64) (Sort.ahead w n) l.block l.off ss.toArray) os) rfl rfl rfl (by simp) (fun k hk=>heap_grow_old _ _ hk)
  have H9:cd (look [(0,bq.arr 1 (rows zs) false false)]) 0 (some (.arr 1 (rows ss) false false))=look [(0,.arr 1 (rows ss) false false)]:=by
   funext b
   simp only [look,cd]
   by_cases hb0:b=0
   ·subst hb0;simp
   ·simp [hb0,Ne.symm hb0,beq_eq_false_iff_ne.2 (Ne.symm hb0)]
  rw [H9] at TT hst
  refine ⟨_,B,β,rfl,(hst.trans TT).toR r,anc _ _ _,fun b hb1=>⟨(hfree b hb1).1,?_⟩⟩
  have:=(hfree b hb1).2
  simp only [look] at this ⊢
  split at this
  ·simp at this
  ·rename_i hne;rw [if_neg hne]
theorem Ja {f:Nat} (hcall:Callable P f)
  (hs:∀ (blk off cap:Nat) (zs:List Int) (w:World),Holds (Value.int .i64) w blk off zs.toArray→blk<w.heap.size→zs.length<4611686018427387904→
   Calls P f #[.slice (some ⟨blk,off,none⟩) zs.length cap] w fun e w'=>e=.returned (.tuple #[])∧∃ n os,w'=grow (putRow (Value.int .i64) (Sort.ahead w n) blk off (zs.mergeSort fun x y=>decide (x≤y)).toArray) os)
  (h0:∀ (p:Option Addr) (cap:Nat) (w:World),Calls P f #[.slice p 0 cap] w fun e w'=>e=.returned (.tuple #[])∧w'=w):yv P f sD:=by
 have key:∀ {args h next v h' nx},sD args h next=some (v,h',nx)→∃ zs:List Int,zs.length≤bound∧args=[.own 0 1 0 zs.length]∧h=[(0,.arr 1 (rows zs) false false)]∧next=1∧v=.tup []∧h'=[(0,.arr 1 (rows (zs.mergeSort fun x y=>decide (x≤y))) false false)]∧nx=1:=fun {args h next v h' nx} hp=>by
  unfold sD at hp
  split at hp
  ·split at hp
   ·rename_i hc
    obtain ⟨rfl,rfl,rfl,rfl,rfl,rfl,rfl,rfl,rfl⟩:=hc
    simp only [Option.bind_eq_some_iff,Option.map_eq_some_iff] at hp
    obtain ⟨zs,e1,r,e2,e3⟩:=hp
    obtain rfl:=DQ _ e1
    rw [AO] at e2
    split at e2
    ·rename_i hb
     simp only [Option.some.injEq] at e2;subst e2
     simp only [Prod.mk.injEq] at e3
     obtain ⟨rfl,rfl,rfl⟩:=e3
     exact ⟨zs,hb,by rw [df],rfl,rfl,rfl,rfl,rfl⟩
    ·simp at e2
   ·simp at hp
  ·simp at hp
 refine ⟨fun _ _ _ _ _ _ _=>hcall,fun r args h next v h' nx hp w B β va m5 hvs hfree hr=>?_,fun args h next v h' nx hp=>?_⟩
 ·obtain ⟨zs,hb,rfl,rfl,rfl,rfl,rfl,rfl⟩:=key hp
  exact Jb hs h0 zs hb m5 hvs hfree r
 ·obtain ⟨zs,hb,rfl,rfl,rfl,rfl,rfl,rfl⟩:=key hp
  simp
end Go.Pm
end
section
set_option linter.all false
namespace Go.Proofs
open Go.Shelf
def Tryz.ze:Go.Shelf.Ren:=⟨fun | 189=>244 | 125=>255 | 257=>254 | 128=>265 | 129=>266 | 294=>257 | 295=>258 | 296=>259 | 297=>260 | 298=>261 | 299=>262 | 216=>242 | 300=>263 | 301=>264 | 328=>267 | 329=>268 | 330=>269 | 331=>270 | 332=>271 | 215=>253 | 343=>272 | n=>n,fun | 28=>31 | 3=>3 | 46=>163 | 0=>0 | 51=>250 | 53=>252 | 4=>4 | 183=>244 | 182=>243 | 131=>135 | 5=>5 | 9=>9 | 218=>253 | 222=>257 | 228=>259 | 229=>203 | n=>n,fun | n=>n⟩
theorem Tryz.BF:Go.Proofs.Lays.n189 Tryz.prog Tryz.ze:={
 mixed:=by kernel_rfl
 f125:=Tryz.func255.trans (congrArg some (by kernel_rfl))
 f128:=Tryz.func265.trans (congrArg some (by kernel_rfl))
 f129:=Tryz.func266.trans (congrArg some (by kernel_rfl))
 f189:=Tryz.func244.trans (congrArg some (by kernel_rfl))
 f215:=Tryz.func253.trans (congrArg some (by kernel_rfl))
 f216:=Tryz.func242.trans (congrArg some (by kernel_rfl))
 f257:=Tryz.func254.trans (congrArg some (by kernel_rfl))
 f294:=Tryz.func257.trans (congrArg some (by kernel_rfl))
 f295:=Tryz.func258.trans (congrArg some (by kernel_rfl))
 f296:=Tryz.func259.trans (congrArg some (by kernel_rfl))
 f297:=Tryz.func260.trans (congrArg some (by kernel_rfl))
 f298:=Tryz.func261.trans (congrArg some (by kernel_rfl))
 f299:=Tryz.func262.trans (congrArg some (by kernel_rfl))
 f300:=Tryz.func263.trans (congrArg some (by kernel_rfl))
 f301:=Tryz.func264.trans (congrArg some (by kernel_rfl))
 f328:=Tryz.func267.trans (congrArg some (by kernel_rfl))
 f329:=Tryz.func268.trans (congrArg some (by kernel_rfl))
 f330:=Tryz.func269.trans (congrArg some (by kernel_rfl))
 f331:=Tryz.func270.trans (congrArg some (by kernel_rfl))
 f332:=Tryz.func271.trans (congrArg some (by kernel_rfl))
 f343:=Tryz.func272.trans (congrArg some (by kernel_rfl))
 t0:=Tryz.underlying0
 a0:=Tryz.isAgg0
 z0:=Tryz.sizeOf0
 v0:=Tryz.zeroValue0
 t3:=Tryz.underlying3
 a3:=Tryz.isAgg3
 z3:=Tryz.sizeOf3
 v3:=Tryz.zeroValue3
 t4:=Tryz.underlying4
 a4:=Tryz.isAgg4
 z4:=Tryz.sizeOf4
 v4:=Tryz.zeroValue4
 t5:=Tryz.underlying5
 a5:=Tryz.isAgg5
 z5:=Tryz.sizeOf5
 v5:=Tryz.zeroValue5
 t9:=Tryz.underlying9
 a9:=Tryz.isAgg9
 z9:=Tryz.sizeOf9
 v9:=Tryz.zeroValue9
 t28:=Tryz.underlying31
 a28:=Tryz.isAgg31
 z28:=Tryz.sizeOf31
 v28:=Tryz.zeroValue31
 t46:=Tryz.underlying163
 a46:=Tryz.isAgg163
 z46:=Tryz.sizeOf163
 v46:=Tryz.zeroValue163
 t51:=Tryz.underlying250
 a51:=Tryz.isAgg250
 z51:=Tryz.sizeOf250
 v51:=Tryz.zeroValue250
 t53:=Tryz.underlying252
 a53:=Tryz.isAgg252
 z53:=Tryz.sizeOf252
 v53:=Tryz.zeroValue252
 t131:=Tryz.underlying135
 a131:=Tryz.isAgg135
 z131:=Tryz.sizeOf135
 v131:=Tryz.zeroValue135
 t182:=Tryz.underlying243
 a182:=Tryz.isAgg243
 z182:=Tryz.sizeOf243
 v182:=Tryz.zeroValue243
 t183:=Tryz.underlying244
 a183:=Tryz.isAgg244
 z183:=Tryz.sizeOf244
 v183:=Tryz.zeroValue244
 t218:=Tryz.underlying253
 a218:=Tryz.isAgg253
 z218:=Tryz.sizeOf253
 v218:=Tryz.zeroValue253
 t222:=Tryz.underlying257
 a222:=Tryz.isAgg257
 z222:=Tryz.sizeOf257
 v222:=Tryz.zeroValue257
 t228:=Tryz.underlying259
 a228:=Tryz.isAgg259
 z228:=Tryz.sizeOf259
 v228:=Tryz.zeroValue259
 t229:=Tryz.underlying203
 a229:=Tryz.isAgg203
 z229:=Tryz.sizeOf203
 v229:=Tryz.zeroValue203}
end Go.Proofs
namespace Go.S
open Go Go.Pm Go.Proofs
theorem SD:yv Tryz.prog 244 sD:=Ja ⟨_,Tryz.func244,Zi.2.1,rfl⟩
 (fun blk off cap zs w h1 h2 h3=>Any.slices_Sort_int Tryz.BF blk off cap zs w h1 h2 h3) (fun p cap w=>Any.slices_Sort_int_none Tryz.BF p cap w)
theorem Nr:∀ f p,E.primR f=some p→yv Tryz.prog f p:=fun f p h=>by
 have h':(bif Nat.beq f 86 then some (oI 4) else bif Nat.beq f 244 then some sD else none)=some p:=h
 cases h1:Nat.beq f 86 with
 | true=>
  rw [h1] at h'
  obtain rfl:=Option.some.inj h'
  have:=Nat.eq_of_beq_eq_true h1
  subst this;exact abU
 | false=>
  rw [h1] at h'
  cases h2:Nat.beq f 244 with
  | true=>
   rw [h2] at h'
   obtain rfl:=Option.some.inj h'
   have:=Nat.eq_of_beq_eq_true h2
   subst this;exact SD
  | false=>rw [h2] at h';cases h'
theorem E_ok:rr Tryz.prog E:=⟨CL,tW,Ns,Nr⟩
end Go.S
end
section
set_option linter.unusedVariables false
set_option linter.unusedSimpArgs false
namespace Go.Pm
open Go
class bG (α:Type) where
 ok:Nat→α→Prop
instance:bG Int:=⟨fun _ n=>-9223372036854775808≤n∧n≤9223372036854775807⟩
instance:bG Bool:=⟨fun _ _=>True⟩
instance:bG ByteArray:=⟨fun N s=>s.size≤N⟩
instance {α:Type} [bG α]:bG (List α):=⟨fun N l=>l.length≤N∧∀ x∈l,bG.ok N x⟩
theorem Jn {N:Nat} {n:ByteArray}:bG.ok N n↔n.size≤N:=Iff.rfl
structure fp {H:Type} (bE:DataW H→Nat):Prop where
 str:∀ bytes,bytes.length≤bE (.lit (.string bytes))
 elems:∀ es sp d,d∈es→bE d≤bE (.slice es sp)
 len:∀ es sp,es.length≤bE (.slice es sp)
 parts:∀ ps d,d∈ps→bE d≤bE (.agg ps)
structure ch (P:Program) {H:Type} (enc:TypeId × Value→H) (bE:DataW H→Nat) (w:World) (t:Nat) (α:Type) [Enc α] [bG α]:Prop where
 size:P.cellsOf t=Enc.size α
 read:∀ N fuel cs d ps,DataW.trod enc P w 0 (fun _=>true) true fuel t cs=some (d,ps)→bE d≤N→
  ∃ a:α,bG.ok N a∧cs.length=Enc.size α∧(∀ v∈cs,v.oneCell'=true)∧Vs w (fun b=>b<w.heap.size) (fun _=>none) (Enc.cells a) cs
section
variable {P:Program} {H:Type} {enc:TypeId × Value→H} {bE:DataW H→Nat} {w:World}
theorem ue {w:World} {B:Nat→Prop} {β:Map} {p:PV} {v:Value} (h:V w B β p v):Vs w B β [p] [v]:=Vs.cons h Vs.nil
theorem JP {t:Nat} (ht:P.underlying t=some (.int .i64)) (hs:P.cellsOf t=1):ch P enc bE w t Int:=by
 refine ⟨hs,fun N fuel cs d ps h hb=>?_⟩
 obtain ⟨n,rfl,hx,hw⟩:=DataW.trod_int ht h
 simp only [Lit.wf,Bool.and_eq_true,decide_eq_true_eq] at hw
 refine ⟨n,⟨?_,?_⟩,rfl,by simp;rfl,ue (.int _ _)⟩
 ·exact hw.1
 ·exact hw.2
theorem Di {t:Nat} (ht:P.underlying t=some .bool) (hs:P.cellsOf t=1):ch P enc bE w t Bool:=by
 refine ⟨hs,fun N fuel cs d ps h hb=>?_⟩
 obtain ⟨n,rfl,hx⟩:=DataW.trod_bool ht h
 exact ⟨n,trivial,rfl,by simp;rfl,ue (.bool _)⟩
theorem JO (hbk:fp bE) {t:Nat} (ht:P.underlying t=some .string) (hs:P.cellsOf t=1):ch P enc bE w t ByteArray:=by
 refine ⟨hs,fun N fuel cs d ps h hb=>?_⟩
 obtain ⟨s,rfl,hx,_⟩:=DataW.trod_string ht h
 simp at hx;obtain ⟨rfl,rfl⟩:=hx
 refine ⟨s,?_,rfl,by simp;rfl,ue (.str _)⟩
 have h1:=hbk.str s.data.toList
 have h2:s.data.toList.length=s.size:=by rw [Array.length_toList];rfl
 rw [Jn];omega
theorem V.acH {w:World} {B:Nat→Prop} {α:Type} [Enc α] (l:List α) (b o cap:Nat) (f:Nat→List Value) (hB:l≠[]→B b) (hcap:l.length≤cap)
  (hl:∀ i,i<l.length→(f i).length=Enc.size α) (h1:∀ i,i<l.length→∀ v∈f i,v.oneCell'=true) (hv:∀ i a,l[i]?=some a→Vs w B (fun _=>none) (Enc.cells a) (f i))
  (hc:∀ i,i<l.length→∀ j v,(f i)[j]?=some v→w.cell? ⟨b,o+i*Enc.size α+j,none⟩=some v):V w B (fun _=>none) (.lit (rows l) fl0) (.slice (some ⟨b,o,none⟩) l.length cap):=by
 cases l with
 | nil=>exact .lQ _ _ _
 | cons a l=>
  have e:(rows (a::l)).length=(a::l).length:=df _
  rw [← e]
  have key:∀ i x j c,(rows (a::l))[i]?=some x→x[j]?=some c→∃ q,(a::l)[i]?=some q∧x=Enc.cells q∧i<(a::l).length∧∃ v,(f i)[j]?=some v∧V w B (fun _=>none) c v:=fun i x j c h2 h3=>by
   rw [uI] at h2
   obtain ⟨q,hq,rfl⟩:=Option.map_eq_some_iff.1 h2
   obtain ⟨v,g1,g2⟩:=(hv i q hq).get h3
   exact ⟨q,hq,rfl,bZ hq,v,g1,g2⟩
  refine .lit (rows (a::l)) fl0 b o (Enc.size α) cap (fun i j=>((f i)[j]?).getD Go.undef) (hB (by simp)) (by rw [e];exact hcap) (fun h=>by simp at h) (fun x hx=>?_) (fun i x j c h2 h3=>?_) (fun i x j c h2 h3=>?_) (fun i x j c h2 h3=>?_)
  ·obtain ⟨q,_,rfl⟩:=List.mem_map.1 hx;exact Enc.len q
  ·obtain ⟨q,hq,_,hi,v,g1,g2⟩:=key i x j c h2 h3
   rw [g1];exact hc i hi j v g1
  ·obtain ⟨q,hq,_,hi,v,g1,g2⟩:=key i x j c h2 h3
   rw [g1];exact h1 i hi v (List.mem_of_getElem? g1)
  ·obtain ⟨q,hq,_,hi,v,g1,g2⟩:=key i x j c h2 h3
   rw [g1];exact g2
theorem Cs {α:Type} {n:Nat} {p:Nat→α→Prop} (h:∀ i,i<n→∃ a,p i a):∃ l:List α,l.length=n∧∀ i a,l[i]?=some a→p i a:=by
 induction n with
 | zero=>exact ⟨[],rfl,fun i a h=>by simp at h⟩
 | succ n ih=>
  obtain ⟨l,h1,h2⟩:=ih fun i hi=>h i (by omega)
  obtain ⟨a,ha⟩:=h n (by omega)
  refine ⟨l ++ [a],by simp [h1],fun i b hb=>?_⟩
  by_cases hi:i<n
  ·rw [List.getElem?_append_left (by omega)] at hb;exact h2 i b hb
  ·have hin:i=n:=by
    have:=bZ hb
    simp at this;omega
   subst hin
   rw [List.getElem?_append_right (by omega)] at hb
   simp [h1] at hb;subst hb;exact ha
theorem G3 (hbk:fp bE) {t e:Nat} {α:Type} [Enc α] [bG α] (ht:P.underlying t=some (.slice e)) (hpos:0<Enc.size α) (hsz:P.cellsOf e=Enc.size α)
  {N fuel:Nat} {cs:List Value} {d:DataW H} {ps:List MemPlace} (h:DataW.trod enc P w 0 (fun _=>true) true fuel t cs=some (d,ps)) (hb:bE d≤N)
  (he:∀ (n:Nat) cs' d' ps',SizeOf.sizeOf d'<SizeOf.sizeOf d→DataW.trod enc P w 0 (fun _=>true) true n e cs'=some (d',ps')→bE d'≤N→
   ∃ a:α,bG.ok N a∧cs'.length=Enc.size α∧(∀ v∈cs',v.oneCell'=true)∧Vs w (fun b=>b<w.heap.size) (fun _=>none) (Enc.cells a) cs') :
  ∃ a:List α,bG.ok N a∧cs.length=Enc.size (List α)∧(∀ v∈cs,v.oneCell'=true)∧Vs w (fun b=>b<w.heap.size) (fun _=>none) (Enc.cells a) cs:=by
 rcases Deep.open_slice ht h with ⟨rfl,hx⟩ | ⟨a,len,cap,m,n,D,Pl,rfl,hbase,hl,hm,hmm,hx,hel⟩
 ·exact ⟨[],⟨Nat.zero_le _,fun x hx=>by cases hx⟩,rfl,by simp;rfl,ue (.lQ _ _ _)⟩
 ·simp at hx
  obtain ⟨rfl,rfl⟩:=hx
  have hm2:m=cap:=by simpa using hmm
  subst hm2
  have hlen:len≤N:=by
   have:=hbk.len ((List.range len).map D) ((List.range (m - len)).map ((D)∘(fun j=>len+j)))
   simp only [List.length_map,List.length_range] at this
   have h3:((List.range (m - len)).map ((D)∘(fun j=>len+j)))=(List.range (m - len)).map fun j=>D (len+j):=rfl
   rw [h3] at this
   omega
  have hall:∀ i,i<len→∃ x:α × List Value,bG.ok N x.1∧x.2.length=Enc.size α∧(∀ v∈x.2,v.oneCell'=true)∧Vs w (fun b=>b<w.heap.size) (fun _=>none) (Enc.cells x.1) x.2∧∀ j v,x.2[j]?=some v→w.cell? ((a.add (i*Enc.size α)).add j)=some v:=fun i hi=>by
   obtain ⟨cs',h1,h2⟩:=hel i (by omega)
   have hbd:bE (D i)≤N:=Nat.le_trans (hbk.elems _ _ (D i) (List.mem_map.2 ⟨i,List.mem_range.2 hi,rfl⟩)) hb
   obtain ⟨q,g1,g2,g3,g4⟩:=he n cs' (D i) (Pl i) (by
    have:=List.sizeOf_lt_of_mem (List.mem_map.2 ⟨i,List.mem_range.2 hi,rfl⟩:D i∈(List.range len).map D)
    simp only [DataW.slice.sizeOf_spec];omega) h2 hbd
   obtain ⟨_,c1,c2⟩:=World.cells?_some h1
   rw [hsz] at c1 c2
   refine ⟨(q,cs'),g1,g2,g3,g4,fun j v hj=>?_⟩
   have hj':j<Enc.size α:=by rw [← g2];exact bZ hj
   rw [c2 j hj'];exact hj
  obtain ⟨l,hll,hlp⟩:=Cs hall
  have hlf:(l.map Prod.fst).length=len:=by simp [hll]
  refine ⟨l.map Prod.fst,⟨by rw [hlf];exact hlen,fun x hx=>?_⟩,rfl,by simp;rfl,ue ?_⟩
  ·obtain ⟨y,hy,rfl⟩:=List.mem_map.1 hx
   obtain ⟨i,hi⟩:=List.mem_iff_getElem?.1 hy
   exact (hlp i y hi).1
  ·rcases Nat.eq_zero_or_pos len with h0 | h0
   ·subst h0
    have:l=[]:=List.length_eq_zero_iff.1 hll
    subst this
    exact .lQ _ _ _
   ·have hx0:=hlp 0 l[0] (List.getElem?_eq_getElem (by omega))
    have hpos':0<(l[0]).2.length:=by rw [hx0.2.1];exact hpos
    have hcell:=hx0.2.2.2.2 0 _ (List.getElem?_eq_getElem hpos')
    have hspot:a.spot=none:=by
     cases hsp:a.spot with
     | none=>rfl
     | some q=>
      simp only [Nat.zero_mul,Addr.add,↓reduceIte,World.cell?,hsp,Option.isSome_some] at hcell
      split at hcell <;> simp at hcell
    obtain ⟨b,o,sp⟩:=a
    simp only at hspot;subst hspot
    have hblk:b<w.heap.size:=by
     simp only [Nat.zero_mul,Addr.add,↓reduceIte,World.cell?] at hcell
     rcases Nat.lt_or_ge b w.heap.size with h' | h'
     ·exact h'
     ·simp [Array.getElem?_eq_none h'] at hcell
    have:=V.acH (w:=w) (B:=fun b=>b<w.heap.size) (l.map Prod.fst) b o m (fun i=>((l[i]?).map Prod.snd).getD []) (fun _=>hblk) (by rw [hlf];exact hl)
     (fun i hi=>by
             have hi':i<l.length:=by simpa using hi
             rw [List.getElem?_eq_getElem hi'];exact (hlp i _ (List.getElem?_eq_getElem hi')).2.1)
     (fun i hi=>by
             have hi':i<l.length:=by simpa using hi
             rw [List.getElem?_eq_getElem hi'];exact (hlp i _ (List.getElem?_eq_getElem hi')).2.2.1)
     (fun i q hq=>by
      rw [List.getElem?_map] at hq
      obtain ⟨y,hy,rfl⟩:=Option.map_eq_some_iff.1 hq
      rw [hy];exact (hlp i y hy).2.2.2.1)
     (fun i hi j v hj=>by
      have hi':i<l.length:=by simpa using hi
      rw [List.getElem?_eq_getElem hi'] at hj
      have:=(hlp i _ (List.getElem?_eq_getElem hi')).2.2.2.2 j v hj
      rw [Addr.add_lit,Addr.add_lit] at this
      exact this)
    rw [hlf] at this
    exact this
theorem ef (hbk:fp bE) {t e:Nat} {α:Type} [Enc α] [bG α] (ht:P.underlying t=some (.slice e)) (hs:P.cellsOf t=1) (hpos:0<Enc.size α) (he:ch P enc bE w e α):ch P enc bE w t (List α):=
 ⟨hs,fun N fuel cs d ps h hb=>G3 hbk ht hpos he.size h hb fun n cs' d' ps' _ h2 hb2=>he.read N n cs' d' ps' h2 hb2⟩
end
end Go.Pm
namespace Go.Pm
open Go
section
variable {P:Program} {H:Type} {enc:TypeId × Value→H} {bE:DataW H→Nat} {w:World}
theorem cy (hbk:fp bE) {t:Nat} {fs:Array Field} (ht:P.underlying t=some (.struct fs)) {N fuel:Nat} {cs:List Value} {d:DataW H} {ps:List MemPlace} (h:DataW.trod enc P w 0 (fun _=>true) true fuel t cs=some (d,ps)) (hb:bE d≤N) :
  cs.length=P.cellsOf t∧∀ (i:Nat) (f:Field),fs[i]?=some f→∃ n d' ps',DataW.trod enc P w 0 (fun _=>true) true n f.type ((cs.drop f.offset).take (P.cellsOf f.type))=some (d',ps')∧bE d'≤N:=by
 obtain ⟨xs,n,_,hx,hl,hlen,hf⟩:=DataW.trod_struct ht h
 simp at hx;obtain ⟨rfl,rfl⟩:=hx
 refine ⟨hl,fun i f hi=>?_⟩
 have hif:i<fs.size:=by
  rcases Nat.lt_or_ge i fs.size with h' | h'
  ·exact h'
  ·simp [Array.getElem?_eq_none h'] at hi
 have hi':i<xs.length:=by omega
 refine ⟨n,(xs[i]).1,(xs[i]).2,?_,Nat.le_trans (hbk.parts _ _ (List.mem_map.2 ⟨xs[i],List.getElem_mem hi',rfl⟩)) hb⟩
 have:=hf i f hi
 simpa [List.getElem?_eq_getElem hi'] using this
theorem wU (hbk:fp bE) {t:Nat} {fs:Array Field} (ht:P.underlying t=some (.struct fs)) {N fuel:Nat} {cs:List Value} {d:DataW H} {ps:List MemPlace} (h:DataW.trod enc P w 0 (fun _=>true) true fuel t cs=some (d,ps)) (hb:bE d≤N) :
  cs.length=P.cellsOf t∧∀ (i:Nat) (f:Field),fs[i]?=some f→∃ n d' ps',DataW.trod enc P w 0 (fun _=>true) true n f.type ((cs.drop f.offset).take (P.cellsOf f.type))=some (d',ps')∧bE d'≤N∧SizeOf.sizeOf d'<SizeOf.sizeOf d:=by
 obtain ⟨xs,n,_,hx,hl,hlen,hf⟩:=DataW.trod_struct ht h
 simp at hx;obtain ⟨rfl,rfl⟩:=hx
 refine ⟨hl,fun i f hi=>?_⟩
 have hif:i<fs.size:=by
  rcases Nat.lt_or_ge i fs.size with h' | h'
  ·exact h'
  ·simp [Array.getElem?_eq_none h'] at hi
 have hi':i<xs.length:=by omega
 have hmem:(xs[i]).1∈xs.map Prod.fst:=List.mem_map.2 ⟨xs[i],List.getElem_mem hi',rfl⟩
 refine ⟨n,(xs[i]).1,(xs[i]).2,?_,Nat.le_trans (hbk.parts _ _ hmem) hb,?_⟩
 ·have:=hf i f hi
  simpa [List.getElem?_eq_getElem hi'] using this
 ·refine Nat.lt_of_lt_of_le (List.sizeOf_lt_of_mem hmem) ?_
  show SizeOf.sizeOf (xs.map Prod.fst)≤SizeOf.sizeOf (DataW.agg (xs.map Prod.fst))
  simp only [DataW.agg.sizeOf_spec];omega
theorem seg {α:Type} (cs:List α) (o s e:Nat) (h:e=o+s):cs.drop o=(cs.drop o).take s ++ cs.drop e:=by
 subst h;rw [← List.drop_drop,List.take_append_drop]
theorem bH {cs:List Value} {o s e:Nat} (h:e=o+s) (h1:∀ v∈(cs.drop o).take s,v.oneCell'=true) (h2:∀ v∈cs.drop e,v.oneCell'=true):∀ v∈cs.drop o,v.oneCell'=true:=by
 rw [seg cs o s e h];intro v hv
 exact (List.mem_append.1 hv).elim (h1 v) (h2 v)
theorem bT {w:World} {B:Nat→Prop} {β:Map} {cs:List Value} {o s e:Nat} {ps qs:List PV} (h:e=o+s) (h1:Vs w B β ps ((cs.drop o).take s)) (h2:Vs w B β qs (cs.drop e)):Vs w B β (ps ++ qs) (cs.drop o):=by
 rw [seg cs o s e h];exact h1.append h2
theorem eG {w:World} {B:Nat→Prop} {β:Map} {cs:List Value} {n:Nat} (h:cs.length=n):Vs w B β [] (cs.drop n):=by
 subst h;simp only [List.drop_length];exact Vs.nil
theorem dM {cs:List Value} {n:Nat} (h:cs.length=n):∀ v∈cs.drop n,v.oneCell'=true:=by
 subst h;simp only [List.drop_length];exact fun v hv=>by cases hv
end
end Go.Pm
end
