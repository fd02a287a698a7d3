import Derived.Test.YtjkkigeefoncmaaGreatCheckA
set_option linter.all false
section
set_option linter.unusedVariables false
set_option linter.unusedSimpArgs false
namespace Go.Pm
open Go
section
variable {w w' w'':World} {B B' B'':Nat→Prop} {β β' β'':Map} {rd rd' Bk rd1 rd2:Rd} {g:Nat→Option Nat}
structure StepR (r:Nat) (w:World) (B:Nat→Prop) (β:Map) (rd:Rd) (w':World) (B':Nat→Prop) (β':Map) (rd':Rd):Prop where
 sim:Sim w' B' β' rd'
 ext:Ext (Mut β rd) w w'
 bsub:∀ b,B b→B' b
 bnew:∀ b,B' b→B b∨Mut β rd b∨w.heap.size≤b
 muts:∀ b,Mut β' rd' b→Mut β rd b∨w.heap.size≤b
 ins:∀ b,In β' rd' b→In β rd b∨w.heap.size≤b
 map:∀ a l,a<r→β a=some l→β' a=some l
theorem Step.toR (h:Step w B β rd w' B' β' rd') (r:Nat):StepR r w B β rd w' B' β' rd':=
 ⟨h.sim,h.ext,h.bsub,h.bnew,h.muts,h.ins,fun a l _=>h.map a l⟩
theorem StepR.refl {r:Nat} (hs:Sim w B β rd):StepR r w B β rd w B β rd:=(Step.refl hs).toR r
theorem StepR.trans {r:Nat} (h:StepR r w B β rd w' B' β' rd') (k:StepR r w' B' β' rd' w'' B'' β'' Bk):StepR r w B β rd w'' B'' β'' Bk where
 sim:=k.sim
 ext:=h.ext.trans k.ext h.muts
 bsub:=fun b hb=>k.bsub b (h.bsub b hb)
 bnew:=fun b hb=>by
  rcases k.bnew b hb with h1 | h1 | h1
  ·exact h.bnew b h1
  ·exact .inr (h.muts b h1)
  ·exact .inr (.inr (Nat.le_trans h.ext.size h1))
 muts:=fun b hb=>by
  rcases k.muts b hb with h1 | h1
  ·exact h.muts b h1
  ·exact .inr (Nat.le_trans h.ext.size h1)
 ins:=fun b hb=>by
  rcases k.ins b hb with h1 | h1
  ·exact h.ins b h1
  ·exact .inr (Nat.le_trans h.ext.size h1)
 map:=fun a l hr hl=>k.map a l hr (h.map a l hr hl)
theorem V.mT (hm:∀ a l,β a=some l→β' a=some l) {p:PV} {v:Value} (h:V w B β p v):V w B β' p v:=h.keep (fun _ h=>h) (fun _ _=>rfl) hm (fun _ _ h=>h)
theorem Vs.mT (hm:∀ a l,β a=some l→β' a=some l) {p:List PV} {v:List Value} (h:Vs w B β p v):Vs w B β' p v:=h.keep (fun _ h=>h) (fun _ _=>rfl) hm (fun _ _ h=>h)
theorem Sim.mT (h:Sim w B β rd) (hm:∀ a l,β a=some l→β' a=some l) (hd:∀ a o,rd a=some o→β' a=β a):Sim w B β' rd:=by
 refine Sim.of (fun a o ha=>?_) (fun a o l ha hn hl=>h.excl a o l ha hn ((hd a o ha).symm.trans hl))
  (fun a b o p l m ha hb hne hl hm'=>h.inj a b o p l m ha hb hne ((hd a o ha).symm.trans hl) ((hd b p hb).symm.trans hm')) h.lt
  (fun a k xs fl l ha hl=>h.frz a k xs fl l ha ((hd _ _ ha).symm.trans hl))
 rcases h.cases ha with ⟨l,h1,c,e,h2,h3⟩ | ⟨h1,h2⟩
 ·exact .inl ⟨l,hm a l h1,c,e,h2,h3.keep (fun _ h=>h) (fun _ _=>rfl) hm (fun _ _ h=>h)⟩
 ·exact .inr ⟨(hd a o ha).trans h1,h2⟩
theorem Sim.less (h:Sim w B β rd) (hr:∀ a o,rd' a=some o→rd a=some o):Sim w B β rd':=
 Sim.of (fun a o ha=>h.cases (hr a o ha)) (fun a o l ha=>h.excl a o l (hr a o ha)) (fun a b o p l m ha hb=>h.inj a b o p l m (hr a o ha) (hr b p hb)) h.lt (fun a k xs fl l ha=>h.frz a k xs fl l (hr _ _ ha))
theorem Sim.union (h:Sim w B β rd) (k:Sim w B β rd1) (hr:∀ a o,rd2 a=some o→rd a=some o∨rd1 a=some o)
  (hb:∀ a b o p l m,rd a=some o→rd1 b=some p→β a=some l→β b=some m→l.block≠m.block):Sim w B β rd2:=
 Sim.of (fun a o ha=>(hr a o ha).elim h.cases k.cases) (fun a o l ha=>(hr a o ha).elim (h.excl a o l) (k.excl a o l))
  (fun a b o p l m ha hb' hne hl hm=>by
   rcases hr a o ha with h1 | h1 <;> rcases hr b p hb' with h2 | h2
   ·exact h.inj a b o p l m h1 h2 hne hl hm
   ·exact hb a b o p l m h1 h2 hl hm
   ·exact (hb b a p o m l h2 h1 hm hl).symm
   ·exact k.inj a b o p l m h1 h2 hne hl hm)
  h.lt (fun a k' xs fl l ha hl=>(hr _ _ ha).elim (fun q=>h.frz a k' xs fl l q hl) (fun q=>k.frz a k' xs fl l q hl))
theorem Sim.grow (hs:Sim w B β rd) (hB:∀ b,B b→B' b) (hw:∀ b,B b∨In β rd b→w'.heap[b]?=w.heap[b]?) (hr:∀ b n,Room w b n→Room w' b n)
  (hB':∀ b,B' b→b<w'.heap.size) (hnew:∀ b,B' b→B b∨¬ In β rd b):Sim w' B' β rd:=by
 refine Sim.of (fun a o ha=>?_) (fun a o l ha hn hl hb=>?_) hs.inj hB' (fun a k xs fl l ha hl=>hB _ (hs.frz a k xs fl l ha hl))
 ·rcases hs.cases ha with ⟨l,h1,c,e,h2,h3⟩ | h1
  ·exact .inl ⟨l,h1,c,e,by rw [hw _ (.inr ⟨a,o,l,ha,h1,rfl⟩)];exact h2,h3.keep hB (fun b hb=>hw b (.inl hb)) (fun _ _ h=>h) hr⟩
  ·exact .inr h1
 ·rcases hnew _ hb with h1 | h1
  ·exact hs.excl a o l ha hn hl h1
  ·exact h1 ⟨a,o,l,ha,hl,rfl⟩
theorem qn (g:Nat→Option Nat):∀ cs:List PV,fD g cs=cs.map (ren g)
 | []=>rfl
 | c::cs=>by simp [fD,qn g cs]
theorem V.ren (hg:∀ a j l,g a=some j→β a=some l→β' j=some l) {p:PV} {v:Value} (h:V w B β p v):V w B β' (ren g p) v:=by
 induction h with
 | undef v=>exact .undef v
 | void=>exact .void
 | bool b=>exact .bool b
 | int k n=>exact .int k n
 | str s=>exact .str s
 | eH=>exact .eH
 | bp=>exact .bp
 | cX=>exact .cX
 | ptr a o l h=>
  simp only [Pm.ren]
  split
  ·rename_i j hj;exact .ptr j o l (hg a j l hj h)
  ·exact .undef _
 | dL a i o l h=>
  simp only [Pm.ren]
  split
  ·rename_i j hj;exact .dL j i o l (hg a j l hj h)
  ·exact .undef _
 | kU a k off b=>
  simp only [Pm.ren]
  split
  ·exact .kU _ _ _ _
  ·exact .undef _
 | own a off len cap l h hc hr=>
  simp only [Pm.ren]
  split
  ·rename_i j hj;exact .own j off len cap l (hg a j l hj h) hc hr
  ·exact .undef _
 | lQ fl b cap=>exact .lQ fl b cap
 | lit xs fl b o k cap val hb hn hf hk hcell ho hv ih=>exact .lit xs fl b o k cap val hb hn hf hk hcell ho hv
 | bL xs i o b off k val hb hk hcell ho hv ih=>exact .bL xs i o b off k val hb hk hcell ho hv
 | agg cs vs hl ho hv ih=>
  simp only [Pm.ren,qn]
  refine .agg _ vs (by simpa using hl) ho fun i c v h1 h2=>?_
  simp only [List.getElem?_map,Option.map_eq_some_iff] at h1
  obtain ⟨c',h1,rfl⟩:=h1
  exact ih i c' v h1 h2 hg
 | tup cs vs hl hv ih=>
  simp only [Pm.ren,qn]
  refine .tup _ vs (by simpa using hl) fun i c v h1 h2=>?_
  simp only [List.getElem?_map,Option.map_eq_some_iff] at h1
  obtain ⟨c',h1,rfl⟩:=h1
  exact ih i c' v h1 h2 hg
 | fn f cs vs hl hv ih=>
  simp only [Pm.ren,qn]
  refine .fn f _ vs (by simpa using hl) fun i c v h1 h2=>?_
  simp only [List.getElem?_map,Option.map_eq_some_iff] at h1
  obtain ⟨c',h1,rfl⟩:=h1
  exact ih i c' v h1 h2 hg
theorem Vs.ren (hg:∀ a j l,g a=some j→β a=some l→β' j=some l) {p:List PV} {v:List Value} (h:Vs w B β p v):Vs w B β' (fD g p) v:=by
 rw [qn]
 refine ⟨by simpa using h.1,fun i c v h1 h2=>?_⟩
 simp only [List.getElem?_map,Option.map_eq_some_iff] at h1
 obtain ⟨c',h1,rfl⟩:=h1
 exact (h.2 i c' v h1 h2).ren hg
theorem Sim.ren (hs:Sim w B β rd) (hg:∀ a j l,g a=some j→β a=some l→β' j=some l)
  (hr:∀ j o',rd' j=some o'→∃ a o,rd a=some o∧g a=some j∧o'=e9 g o∧β' j=β a):Sim w B β' rd':=by
 have hmut:∀ o:bq,(∀ k xs fl,e9 g o≠.arr k xs fl true)→∀ k xs fl,o≠.arr k xs fl true:=fun o h k xs fl he=>h k xs fl (by rw [he];rfl)
 refine Sim.of (fun j o' hj=>?_) (fun j o' l hj hn hl=>?_) (fun j j' o' p' l m hj hj' hne hl hm=>?_) hs.lt (fun j k xs fl l hj hl=>?_)
 ·obtain ⟨a,o,ha,hga,rfl,hβ⟩:=hr j o' hj
  rcases hs.cases ha with ⟨l,h1,c,e,h2,h3⟩ | ⟨h1,k,fl,fz,rfl⟩
  ·refine .inl ⟨l,hβ.trans h1,c,e,h2,?_⟩
   cases o with
   | box cs=>exact ⟨h3.1,h3.2.1.ren hg,h3.2.2⟩
   | arr k xs fl fz=>exact h3
  ·exact .inr ⟨hβ.trans h1,k,fl,fz,rfl⟩
 ·obtain ⟨a,o,ha,hga,rfl,hβ⟩:=hr j o' hj
  exact hs.excl a o l ha (hmut o hn) (hβ.symm.trans hl)
 ·obtain ⟨a,o,ha,hga,rfl,hβ⟩:=hr j o' hj
  obtain ⟨b,p,hb,hgb,rfl,hβ'⟩:=hr j' p' hj'
  exact hs.inj a b o p l m ha hb (fun h=>hne (by subst h;rw [hga] at hgb;exact Option.some.inj hgb)) (hβ.symm.trans hl) (hβ'.symm.trans hm)
 ·obtain ⟨a,o,ha,hga,he,hβ⟩:=hr j _ hj
  cases o with
  | box cs=>simp [e9] at he
  | arr k' xs' fl' fz=>simp [e9] at he;obtain ⟨rfl,rfl,rfl,rfl⟩:=he;exact hs.frz a _ _ _ l ha (hβ.symm.trans hl)
theorem Mut.ren (hr:∀ j o',rd' j=some o'→∃ a o,rd a=some o∧g a=some j∧o'=e9 g o∧β' j=β a) {b:Nat} (h:Mut β' rd' b):Mut β rd b:=by
 obtain ⟨j,o',l,h1,h2,h3,h4⟩:=h
 obtain ⟨a,o,ha,hga,rfl,hβ⟩:=hr j o' h1
 exact ⟨a,o,l,ha,fun k xs fl he=>h2 k xs fl (by rw [he];rfl),hβ.symm.trans h3,h4⟩
theorem nz:∀ {L:List Nat} {a i j:Nat},pos L a i=some j→i≤j∧L[j - i]?=some a
 | [],a,i,j,h=>by simp [pos] at h
 | b::r,a,i,j,h=>by
  unfold pos at h
  split at h
  ·rename_i hab
   simp at h hab;subst h;subst hab
   simp
  ·have:=nz h
   refine ⟨by omega,?_⟩
   have e:j - i=(j - (i+1))+1:=by omega
   rw [e,List.getElem?_cons_succ];exact this.2
theorem uW:∀ {L:List Nat} {a i n:Nat},L.Nodup→L[n]?=some a→pos L a i=some (i+n)
 | [],a,i,n,_,h=>by simp at h
 | b::r,a,i,n,hn,h=>by
  unfold pos
  cases n with
  | zero=>simp at h;subst h;simp
  | succ n=>
   simp at h
   have hne:(a == b)=false:=by
    simp only [beq_eq_false_iff_ne]
    rintro rfl
    exact (List.nodup_cons.1 hn).1 (List.mem_of_getElem? h)
   rw [hne]
   simp only [Bool.false_eq_true,↓reduceIte]
   rw [uW (List.nodup_cons.1 hn).2 h]
   congr 1;omega
theorem kS (rd:Rd):∀ (n:Nat) (q seen:List Nat),seen.Nodup→(reach rd n q seen).Nodup∧∃ t,reach rd n q seen=seen ++ t
 | 0,q,seen,h=>⟨h,[],by simp [reach]⟩
 | n+1,[],seen,h=>⟨h,[],by simp [reach]⟩
 | n+1,a::r,seen,h=>by
  unfold reach
  split
  ·exact kS rd n r seen h
  ·rename_i hs
   have hna:a ∉ seen:=fun hm=>hs (gF.2 hm)
   have hnd:(seen ++ [a]).Nodup:=by
    rw [List.nodup_append]
    refine ⟨h,by simp,fun x hx y hy=>?_⟩
    simp at hy;subst hy
    rintro rfl;exact hna hx
   split
   ·obtain ⟨h1,t,h2⟩:=kS rd n (r ++ dz _) (seen ++ [a]) hnd
    exact ⟨h1,a::t,by rw [h2];simp⟩
   ·obtain ⟨h1,t,h2⟩:=kS rd n r (seen ++ [a]) hnd
    exact ⟨h1,a::t,by rw [h2];simp⟩
   ·obtain ⟨h1,t,h2⟩:=kS rd n r (seen ++ [a]) hnd
    exact ⟨h1,a::t,by rw [h2];simp⟩
theorem qx (rd:Rd) {roots:List Nat} (vals:List PV) (h:roots.Nodup):(order rd roots vals).Nodup∧∀ (i a:Nat),roots[i]?=some a→(order rd roots vals)[i]?=some a:=by
 obtain ⟨h1,t,h2⟩:=kS rd cq (kids rd roots ++ dz vals) roots h
 refine ⟨h1,fun i a hi=>?_⟩
 unfold order
 rw [h2,List.getElem?_append_left]
 ·exact hi
 ·rcases Nat.lt_or_ge i roots.length with h' | h'
  ·exact h'
  ·simp [List.getElem?_eq_none h'] at hi
theorem yx:∀ n,upto n=List.range n
 | 0=>rfl
 | n+1=>by simp [upto,yx n,List.range_succ]
theorem CI (n:Nat):(upto n).Nodup:=by rw [yx];exact List.nodup_range
theorem LL {n i:Nat} (h:i<n):(upto n)[i]?=some i:=by rw [yx];simp [h]
theorem lP (rd:Rd) (g:Nat→Option Nat):∀ (L:List Nat) (i j:Nat),look (picks rd g L i) j=if i≤j then ((L[j - i]?).bind rd).map (e9 g) else none
 | [],i,j=>by simp [picks,look]
 | a::r,i,j=>by
  unfold picks
  split
  ·rename_i o ho
   unfold look
   by_cases hj:j=i
   ·subst hj;simp [ho]
   ·have:(j == i)=false:=by simpa using hj
    rw [this,lP rd g r (i+1) j]
    simp only [Bool.false_eq_true,↓reduceIte]
    by_cases hle:i+1≤j
    ·have e:j - i=(j - (i+1))+1:=by omega
     rw [if_pos hle,if_pos (by omega),e,List.getElem?_cons_succ]
    ·rw [if_neg hle,if_neg (by omega)]
  ·rename_i ho
   rw [lP rd g r (i+1) j]
   by_cases hj:j=i
   ·subst hj;rw [if_neg (by omega),if_pos (Nat.le_refl _)];simp [ho]
   ·by_cases hle:i+1≤j
    ·have e:j - i=(j - (i+1))+1:=by omega
     rw [if_pos hle,if_pos (by omega),e,List.getElem?_cons_succ]
    ·rw [if_neg hle,if_neg (by omega)]
def oQ (L:List Nat) (β:Map):Map:=fun j=>(L[j]?).bind β
theorem tC (L:List Nat) (β:Map):∀ a j l,pos L a 0=some j→β a=some l→oQ L β j=some l:=fun a j l h hl=>by
 have:=(nz h).2
 simp at this
 simp [oQ,this,hl]
theorem nA {L:List Nat} (hL:L.Nodup) (rd:Rd) (β:Map):∀ j o',look (picks rd (fun a=>pos L a 0) L 0) j=some o'→∃ a o,rd a=some o∧pos L a 0=some j∧o'=e9 (fun a=>pos L a 0) o∧oQ L β j=β a:=fun j o' h=>by
 rw [lP] at h
 simp only [Nat.zero_le,↓reduceIte,Nat.sub_zero,Option.map_eq_some_iff,Option.bind_eq_some_iff] at h
 obtain ⟨o,⟨a,ha,ho⟩,rfl⟩:=h
 exact ⟨a,o,ho,by rw [uW hL ha];simp,rfl,by simp [oQ,ha]⟩
theorem Sim.picks (hs:Sim w B β rd) {L:List Nat} (hL:L.Nodup):Sim w B (oQ L β) (look (picks rd (fun a=>pos L a 0) L 0)):=
 hs.ren (tC L β) (nA hL rd β)
theorem uY (rd:Rd) (g:Nat→Option Nat) (L:List Nat) (β:Map) (j:Nat) (h:L.length≤j):oQ L β j=none∧look (Pm.picks rd g L 0) j=none:=by
 rw [lP]
 simp [oQ,List.getElem?_eq_none h]
end
end Go.Pm
end
section
set_option linter.unusedVariables false
set_option linter.unusedSimpArgs false
namespace Go.Pm
open Go
section
variable {w w' w'':World} {B B' B'':Nat→Prop} {β β' β'':Map} {rd rd' Bk rd1 rd2:Rd}
theorem F1 (hs:Sim w B β rd) (kn:Bool):∀ n:Nat,
  (∀ (p q:PV) (l:List Nat) (v:Value),snap rd kn n p=some (q,l)→V w B β p v→
   (∀ a∈l,∃ o,rd a=some o)∧∀ B':Nat→Prop,(∀ b,B b→B' b)→(∀ a∈l,∀ m,β a=some m→B' m.block)→V w B' (fun _=>none) q v)∧
  (∀ (ps qs:List PV) (l:List Nat) (vs:List Value),dV rd kn n ps=some (qs,l)→Vs w B β ps vs→
   (∀ a∈l,∃ o,rd a=some o)∧∀ B':Nat→Prop,(∀ b,B b→B' b)→(∀ a∈l,∀ m,β a=some m→B' m.block)→Vs w B' (fun _=>none) qs vs)
 | 0=>⟨fun p q l v h _=>by simp [snap] at h,fun ps qs l vs h _=>by simp [dV] at h⟩
 | n+1=>by
  obtain ⟨ih1,ih2⟩:=F1 hs kn n
  refine ⟨fun p q l v h hv=>?_,fun ps qs l vs h hv=>?_⟩
  ·have simple:(∀ (B':Nat→Prop),(∀ b,B b→B' b)→V w B' (fun _=>none) q v)→l=[]→(∀ a∈l,∃ o,rd a=some o)∧∀ B':Nat→Prop,(∀ b,B b→B' b)→(∀ a∈l,∀ m,β a=some m→B' m.block)→V w B' (fun _=>none) q v:=by
    rintro h1 rfl
    exact ⟨by simp,fun B' hB _=>h1 B' hB⟩
   cases p with
   | own a k off len=>
    simp only [snap] at h
    split at h
    ·rename_i k' xs fl fz ha
     split at h <;> simp at h
     rename_i hc
     simp only [Bool.and_eq_true,beq_iff_eq,decide_eq_true_eq] at hc
     obtain ⟨rfl,hle⟩:=hc
     obtain ⟨rfl,rfl⟩:=h
     exact ⟨fun b hb=>by simp at hb;subst hb;exact ⟨_,ha⟩,fun B' hB hm=>yZ hs ha hle hv hB (fun m hm'=>hm a (by simp) m hm') false⟩
    ·simp at h
   | ptr a o=>
    simp only [snap] at h
    split at h
    ·rename_i cs ha
     split at h
     ·rename_i cs' l' hcs
      simp at h;obtain ⟨rfl,rfl⟩:=h
      obtain ⟨m,c,e,h1,h2,h3,h4,h5⟩:=hs.box a cs ha
      obtain ⟨g1,g2⟩:=ih2 cs cs' l' c.toList hcs h4
      refine ⟨fun b hb=>?_,fun B' hB hm=>?_⟩
      ·rcases List.mem_cons.1 hb with rfl | hb
       ·exact ⟨_,ha⟩
       ·exact g1 b hb
      ·have g3:=g2 B' hB fun b hb=>hm b (by simp [hb])
       cases hv with
       | ptr a o l hl=>
        rw [h1] at hl;obtain rfl:=Option.some.inj hl
        have one:∀ (i:Nat) (x:List PV),[cs'][i]?=some x→i=0∧x=cs':=fun i x hx=>by
         cases i with
         | zero=>simp at hx;exact ⟨rfl,hx.symm⟩
         | succ i=>simp at hx
        have hget:∀ (j:Nat) (p:PV),cs'[j]?=some p→∃ v,c[j]?=some v∧V w B' (fun _=>none) p v:=fun j p hj=>by
         obtain ⟨v,q1,q2⟩:=g3.get hj
         exact ⟨v,by simpa using q1,q2⟩
        have:=V.bL (w:=w) (B:=B') (β:=fun _=>none) [cs'] 0 o m.block m.off cs'.length (fun i j=>(c[j]?).getD default) (hm a (by simp) m h1) (fun x hx=>by simp at hx;rw [hx])
         (fun i x j p q1 q2=>by
          obtain ⟨rfl,rfl⟩:=one i x q1
          obtain ⟨v,q3,q4⟩:=hget j p q2
          simp [World.cell?,h3,h2,q3])
         (fun i x j p q1 q2=>by
          obtain ⟨rfl,rfl⟩:=one i x q1
          obtain ⟨v,q3,q4⟩:=hget j p q2
          simp only [q3,Option.getD_some]
          exact h5 v (List.mem_of_getElem? (by simpa using q3)))
         (fun i x j p q1 q2=>by
          obtain ⟨rfl,rfl⟩:=one i x q1
          obtain ⟨v,q3,q4⟩:=hget j p q2
          simpa [q3] using q4)
        simpa using this
     ·simp at h
    ·simp at h
   | fn f iF=>
    simp only [snap] at h
    split at h
    ·rename_i cs l' hcs
     simp at h;obtain ⟨rfl,rfl⟩:=h
     obtain ⟨vs,rfl,h1⟩:=Vs.XH hv
     obtain ⟨g1,g2⟩:=ih2 iF cs l' vs.toList hcs h1
     refine ⟨g1,fun B' hB hm=>?_⟩
     have g3:=g2 B' hB hm
     exact .fn f cs vs (by simpa using g3.1) fun i c v q1 q2=>g3.2 i c v q1 (by simpa using q2)
    ·simp at h
   | agg cs=>
    simp only [snap] at h
    split at h
    ·rename_i cs' l' hcs
     simp at h;obtain ⟨rfl,rfl⟩:=h
     obtain ⟨vs,rfl,h1,ho⟩:=Vs.pv hv
     obtain ⟨g1,g2⟩:=ih2 cs cs' l' vs.toList hcs h1
     refine ⟨g1,fun B' hB hm=>?_⟩
     have g3:=g2 B' hB hm
     exact .agg cs' vs (by simpa using g3.1) ho fun i c v q1 q2=>g3.2 i c v q1 (by simpa using q2)
    ·simp at h
   | bp=>
    simp [snap] at h;obtain ⟨rfl,rfl⟩:=h
    cases hv
    exact simple (fun B' hB=>by split;exact .bp;exact .lQ _ _ _) rfl
   | lit xs fl=>
    simp [snap] at h;obtain ⟨rfl,rfl⟩:=h
    exact simple (fun B' hB=>(hv.Dt fl.u).more hB) rfl
   | bL xs i o=>
    simp [snap] at h;obtain ⟨rfl,rfl⟩:=h
    refine simple (fun B' hB=>?_) rfl
    cases hv with
    | bL xs i o b off k val hb hk hcell ho hv=>exact .bL xs i o b off k val (hB b hb) hk hcell ho fun i x j c h1 h2=>(hv i x j c h1 h2).more hB
   | bool b=>simp [snap] at h;obtain ⟨rfl,rfl⟩:=h;exact simple (fun B' hB=>hv.plain rfl) rfl
   | int k x=>simp [snap] at h;obtain ⟨rfl,rfl⟩:=h;exact simple (fun B' hB=>hv.plain rfl) rfl
   | str s=>simp [snap] at h;obtain ⟨rfl,rfl⟩:=h;exact simple (fun B' hB=>hv.plain rfl) rfl
   | eH=>simp [snap] at h;obtain ⟨rfl,rfl⟩:=h;cases hv;exact simple (fun B' hB=>.eH) rfl
   | cX=>simp [snap] at h;obtain ⟨rfl,rfl⟩:=h;cases hv;exact simple (fun B' hB=>.cX) rfl
   | undef=>simp [snap] at h;obtain ⟨rfl,rfl⟩:=h;exact simple (fun B' hB=>.undef _) rfl
   | void=>simp [snap] at h;obtain ⟨rfl,rfl⟩:=h;cases hv;exact simple (fun B' hB=>.void) rfl
   | dL a i o=>simp [snap] at h
   | tup vs=>simp [snap] at h
  ·cases ps with
   | nil=>
    simp [dV] at h;obtain ⟨rfl,rfl⟩:=h
    rw [hv.of_nil];exact ⟨by simp,fun _ _ _=>.nil⟩
   | cons p r=>
    obtain ⟨u,us,rfl,h1,h2⟩:=hv.cN
    simp only [dV] at h
    split at h
    ·rename_i q l1 hq
     split at h
     ·rename_i r' l2 hr
      simp at h;obtain ⟨rfl,rfl⟩:=h
      obtain ⟨a1,a2⟩:=ih1 p q l1 u hq h1
      obtain ⟨b1,b2⟩:=ih2 r r' l2 us hr h2
      exact ⟨fun b hb=>(List.mem_append.1 hb).elim (a1 b) (b1 b),fun B' hB hm=>.cons (a2 B' hB fun b hb=>hm b (List.mem_append_left _ hb)) (b2 B' hB fun b hb=>hm b (List.mem_append_right _ hb))⟩
     ·simp at h
    ·simp at h
inductive RC (w:World) (B:Nat→Prop) (n0:Nat):PV→Option (Option Nat)→Value→List Nat→Prop
 | uniq (k:Nat) (xs:List (List PV)) (flat:Bool) (b off cap:Nat) (c:Array Value) (e:Nat) (hc:w.heap[b]?=some (.cells c e (0,0))) (ho:oy w B ⟨b,off,k⟩ xs c)
   (hf:flat=true→dU xs) (hk:∀ x∈xs,x.length=k) (hn:xs.length≤cap) (hr:Room w b (off+cap*k)) (h0:n0≤b) :
   RC w B n0 (.lit xs ⟨true,flat⟩) (some (some k)) (.slice (some ⟨b,off,none⟩) xs.length cap) [b]
 | sB (k:Nat) (flat:Bool) (b:Option Addr):RC w B n0 (.lit [] ⟨true,flat⟩) (some (some k)) (.slice b 0 0) []
 | data (c:PV) (key:Option (Option Nat)) (v:Value) (h:V w B (fun _=>none) c v) (hu:∀ xs fl,c=.lit xs fl→fl.u=false):RC w B n0 c key v []
inductive RCs (w:World) (B:Nat→Prop) (n0:Nat):List PV→List (Option Nat)→List Value→List Nat→Prop
 | nil (ks:List (Option Nat)):RCs w B n0 [] ks [] []
 | cons (p:PV) (r:List PV) (ks:List (Option Nat)) (v:Value) (vs:List Value) (bs bs':List Nat) (h:RC w B n0 p ks.head? v bs) (hr:RCs w B n0 r ks.tail vs bs')
   (hd:∀ b∈bs,b ∉ bs'):RCs w B n0 (p::r) ks (v::vs) (bs ++ bs')
inductive RV (w:World) (B:Nat→Prop) (n0:Nat):PV→List (Option Nat)→Value→List (Option Nat)→List Nat→Prop
 | agg (cs:List PV) (ks:List (Option Nat)) (vs:Array Value) (bs:List Nat) (h:RCs w B n0 cs (ks.take cs.length) vs.toList bs) (ho:∀ v∈vs.toList,v.oneCell'=true) :
   RV w B n0 (.agg cs) ks (.agg vs) (ks.drop cs.length) bs
 | one (p:PV) (ks:List (Option Nat)) (v:Value) (bs:List Nat) (hp:∀ cs,p≠.agg cs) (h:RC w B n0 p (ks.take 1).head? v bs):RV w B n0 p ks v (ks.drop 1) bs
inductive RVs (w:World) (B:Nat→Prop) (n0:Nat):List PV→List (Option Nat)→List Value→List Nat→Prop
 | nil (ks:List (Option Nat)):RVs w B n0 [] ks [] []
 | cons (p:PV) (r:List PV) (ks ks':List (Option Nat)) (v:Value) (vs:List Value) (bs bs':List Nat) (h:RV w B n0 p ks v ks' bs) (hr:RVs w B n0 r ks' vs bs')
   (hd:∀ b∈bs,b ∉ bs'):RVs w B n0 (p::r) ks (v::vs) (bs ++ bs')
inductive RR (w:World) (B:Nat→Prop) (n0:Nat):PV→List (Option Nat)→Value→List Nat→Prop
 | tup (cs:List PV) (ks:List (Option Nat)) (vs:Array Value) (bs:List Nat) (h:RVs w B n0 cs ks vs.toList bs):RR w B n0 (.tup cs) ks (.tuple vs) bs
 | one (p:PV) (ks ks':List (Option Nat)) (v:Value) (bs:List Nat) (hp:∀ cs,p≠.tup cs) (h:RV w B n0 p ks v ks' bs):RR w B n0 p ks v bs
structure Isle (w:World) (B:Nat→Prop) (β:Map) (rd:Rd) (bs:List Nat) (lo hi:Nat):Prop where
 sim:Sim w B β rd
 dom:∀ a l,β a=some l→lo≤a∧a<hi∧l.block∈bs
 ids:∀ a o,rd a=some o→lo≤a∧a<hi
 le:lo≤hi
theorem Isle.nil (lo:Nat) (hB:∀ b,B b→b<w.heap.size):Isle w B (fun _=>none) (fun _=>none) [] lo lo:=
 ⟨Sim.of (fun a o h=>by cases h) (fun a o l h=>by cases h) (fun a b o p l m h=>by cases h) hB (fun a k xs fl l h=>by cases h),(fun a l h=>by cases h),(fun a o h=>by cases h),Nat.le_refl _⟩
def fb (β β':Map):Map:=fun a=>match β a with | some l=>some l | none=>β' a
def gV (rd rd':Rd):Rd:=fun a=>match rd a with | some o=>some o | none=>rd' a
theorem Isle.join {bs bs':List Nat} {lo mid hi:Nat} (h:Isle w B β rd bs lo mid) (k:Isle w B β' rd' bs' mid hi) (hd:∀ b∈bs,b ∉ bs') :
  Isle w B (fb β β') (gV rd rd') (bs ++ bs') lo hi∧(∀ a l,β a=some l→fb β β' a=some l)∧(∀ a l,β' a=some l→fb β β' a=some l):=by
 have m1:∀ a l,β a=some l→fb β β' a=some l:=fun a l hl=>by simp [fb,hl]
 have m2:∀ a l,β' a=some l→fb β β' a=some l:=fun a l hl=>by
  have h2:=(k.dom a l hl).1
  have:β a=none:=by
   cases hb:β a with
   | none=>rfl
   | some m=>have:=(h.dom a m hb).2.1;omega
  simp [fb,this,hl]
 refine ⟨⟨?_,fun a l hl=>?_,fun a o ho=>?_,Nat.le_trans h.le k.le⟩,m1,m2⟩
 ·refine Sim.union (h.sim.mT m1 fun a o ha=>?_) (k.sim.mT m2 fun a o ha=>?_) (fun a o ha=>?_) (fun a b o p l m ha hb hl hm=>?_)
  ·have h2:=(h.ids a o ha).2
   unfold fb
   cases hb:β a with
   | some m=>rfl
   | none=>
    cases hb':β' a with
    | none=>rfl
    | some m=>have:=(k.dom a m hb').1;omega
  ·have h2:=(k.ids a o ha).1
   unfold fb
   cases hb:β a with
   | none=>rfl
   | some m=>have:=(h.dom a m hb).2.1;omega
  ·unfold gV at ha
   split at ha
   ·rename_i q hq;simp at ha;subst ha;exact .inl hq
   ·exact .inr ha
  ·have h2:=h.ids a o ha
   have h3:=k.ids b p hb
   have e1:l.block∈bs:=by
    unfold fb at hl
    split at hl
    ·rename_i q hq;simp at hl;subst hl;exact (h.dom a q hq).2.2
    ·have:=(k.dom a l hl).1;omega
   have e2:m.block∈bs':=by
    unfold fb at hm
    split at hm
    ·rename_i q hq;have:=(h.dom b q hq).2.1;omega
    ·exact (k.dom b m hm).2.2
   intro he;exact hd _ e1 (he▸e2)
 ·unfold fb at hl
  split at hl
  ·rename_i q hq;simp at hl;subst hl
   have h1:=h.dom a q hq;have:=k.le
   exact ⟨by omega,by omega,List.mem_append_left _ h1.2.2⟩
  ·have h1:=k.dom a l hl;have:=h.le
   exact ⟨by omega,by omega,List.mem_append_right _ h1.2.2⟩
 ·unfold gV at ho
  split at ho
  ·rename_i q hq;have:=h.ids a q hq;have:=k.le;exact ⟨by omega,by omega⟩
  ·have:=k.ids a o ho;have:=h.le;exact ⟨by omega,by omega⟩
def Ri (u:Upd):Prop:=∀ x∈u,∃ o,x.2=some o
theorem ny:∀ {u:Upd} {rd:Rd},Ri u→(∀ x∈u,rd x.1=none)→(u.map (·.1)).Nodup→∀ a,rdU rd u a=gV (rdU (fun _=>none) u) rd a
 | [],rd,_,_,_,a=>rfl
 | (b,o)::u,rd,h,hn,hd,a=>by
  obtain ⟨o',ho⟩:=h _ List.mem_cons_self
  simp at ho;subst ho
  have hd':b ∉ u.map (·.1)∧(u.map (·.1)).Nodup:=List.nodup_cons.1 hd
  have hnb:∀ x∈u,x.1≠b:=fun x hx he=>hd'.1 (he▸List.mem_map_of_mem hx)
  have e1:∀ rd:Rd,(∀ x∈u,rd x.1=none)→∀ x∈u,cd rd b (some o') x.1=none:=fun rd hr x hx=>by
   simp [cd,hnb x hx,hr x hx]
  have h':Ri u:=fun x hx=>h x (List.mem_cons_of_mem _ hx)
  simp only [rdU]
  rw [ny h' (e1 rd fun x hx=>hn x (List.mem_cons_of_mem _ hx)) hd'.2 a]
  unfold gV
  rw [ny h' (e1 (fun _=>none) fun x _=>rfl) hd'.2 a]
  unfold gV
  cases hq:rdU (fun _=>none) u a with
  | some q=>simp
  | none=>
   simp only [cd]
   split <;> simp_all
end
end Go.Pm
end
section
set_option linter.unusedVariables false
set_option linter.unusedSimpArgs false
namespace Go.Pm
open Go
section
variable {w w' w'':World} {B B' B'' Bc:Nat→Prop} {β β' β'':Map} {rd rd' Bk rd1 rd2:Rd}
structure Imp (w:World) (B:Nat→Prop) (bs:List Nat) (nid j j':Nat) (u:Upd) (R:Map→Prop):Prop where
 isle:∃ β,Isle w B β (rdU (fun _=>none) u) bs (nid+j) (nid+j')∧R β
 adds:Ri u
 rng:∀ x∈u,nid+j≤x.1∧x.1<nid+j'
 nodup:(u.map (·.1)).Nodup
theorem Imp.nil {nid j:Nat} {R:Map→Prop} (hB:∀ b,B b→b<w.heap.size) (hR:R fun _=>none):Imp w B [] nid j j [] R:=
 ⟨⟨_,Isle.nil _ hB,hR⟩,fun x h=>by simp at h,fun x h=>by simp at h,by simp⟩
theorem Imp.mono {bs:List Nat} {nid j j':Nat} {u:Upd} {R R':Map→Prop} (h:Imp w B bs nid j j' u R) (hR:∀ β,R β→R' β):Imp w B bs nid j j' u R':=by
 obtain ⟨⟨β,h1,h2⟩,h3,h4,h5⟩:=h
 exact ⟨⟨β,h1,hR β h2⟩,h3,h4,h5⟩
theorem Imp.join {bs bs':List Nat} {nid j m j':Nat} {u u':Upd} {R R':Map→Prop} (h:Imp w B bs nid j m u R) (k:Imp w B bs' nid m j' u' R') (hd:∀ b∈bs,b ∉ bs')
  (hR:∀ β β',(∀ a l,β a=some l→β' a=some l)→R β→R β') (hR':∀ β β',(∀ a l,β a=some l→β' a=some l)→R' β→R' β') :
  Imp w B (bs ++ bs') nid j j' (u ++ u') (fun β=>R β∧R' β):=by
 obtain ⟨⟨β,h1,h2⟩,h3,h4,h5⟩:=h
 obtain ⟨⟨β',k1,k2⟩,k3,k4,k5⟩:=k
 have hle:=h1.le
 have kle:=k1.le
 obtain ⟨q1,q2,q3⟩:=h1.join k1 hd
 have he:rdU (fun _=>none) (u ++ u')=gV (rdU (fun _=>none) u) (rdU (fun _=>none) u'):=by
  funext a
  rw [js,ny k3 (fun x hx=>?_) k5 a]
  ·unfold gV
   cases e1:rdU (fun _=>none) u' a with
   | none=>cases e2:rdU (fun _=>none) u a <;> simp
   | some o=>
    have g1:=k1.ids a o e1
    cases e2:rdU (fun _=>none) u a with
    | none=>simp
    | some p=>have:=(h1.ids a p e2).2;omega
  ·cases e:rdU (fun _=>none) u x.1 with
   | none=>rfl
   | some o=>have:=(h1.ids x.1 o e).2;have:=(k4 x hx).1;omega
 refine ⟨⟨_,by rw [he];exact q1,hR _ _ q2 h2,hR' _ _ q3 k2⟩,fun x hx=>(List.mem_append.1 hx).elim (h3 x) (k3 x),fun x hx=>?_,?_⟩
 ·rcases List.mem_append.1 hx with hx | hx
  ·have:=h4 x hx;omega
  ·have:=k4 x hx;omega
 ·rw [List.map_append,List.nodup_append]
  refine ⟨h5,k5,fun a ha b hb hab=>?_⟩
  simp only [List.mem_map] at ha hb
  obtain ⟨x,hx,rfl⟩:=ha
  obtain ⟨y,hy,rfl⟩:=hb
  have:=(h4 x hx).2;have:=(k4 y hy).1;omega
theorem Imp.row {nid j k b off:Nat} {xs:List (List PV)} {flat:Bool} {c:Array Value} {e cap:Nat} (hB:∀ b,B b→b<w.heap.size) (hb:¬ B b) (hc:w.heap[b]?=some (.cells c e (0,0)))
  (ho:oy w B ⟨b,off,k⟩ xs c) (hf:flat=true→dU xs) (hk:∀ x∈xs,x.length=k) (hn:xs.length≤cap) (hr:Room w b (off+cap*k)) :
  Imp w B [b] nid j (j+1) [(nid+j,some (.arr k xs flat false))] (fun β=>V w B β (.own (nid+j) k 0 xs.length) (.slice (some ⟨b,off,none⟩) xs.length cap)):=by
 refine ⟨⟨cz (fun _=>none) (nid+j) ⟨b,off,k⟩,⟨?_,fun a l hl=>?_,fun a o ha=>?_,by omega⟩,?_⟩,fun x hx=>by simp at hx;subst hx;exact ⟨_,rfl⟩,fun x hx=>by simp at hx;subst hx;simp,by simp⟩
 ·have hrd:∀ a o,rdU (fun _=>none) [(nid+j,some (.arr k xs flat false))] a=some o→a=nid+j∧o=.arr k xs flat false:=fun a o h=>by
   simp only [rdU,cd] at h
   split at h
   ·rename_i ha;simp at h;exact ⟨ha,h.symm⟩
   ·simp at h
  refine Sim.of (fun a o ha=>?_) (fun a o l ha _ hl=>?_) (fun a a' o o' l l' ha ha' hne=>?_) hB (fun a k' xs' fl' l ha=>?_)
  ·obtain ⟨rfl,rfl⟩:=hrd a o ha
   exact .inl ⟨⟨b,off,k⟩,by simp [cz],c,e,hc,hf,hk,rfl,ho⟩
  ·obtain ⟨rfl,rfl⟩:=hrd a o ha
   simp [cz] at hl;subst hl;exact hb
  ·exact absurd ((hrd a o ha).1.trans (hrd a' o' ha').1.symm) hne
  ·have:=(hrd _ _ ha).2;simp at this
 ·unfold cz at hl
  split at hl
  ·rename_i ha;simp at hl;subst ha;subst hl;simp
  ·simp at hl
 ·simp only [rdU,cd] at ha
  split at ha
  ·rename_i he;subst he;omega
  ·simp at ha
 ·have:=V.own (w:=w) (B:=B) (β:=cz (fun _=>none) (nid+j) ⟨b,off,k⟩) (nid+j) 0 xs.length cap ⟨b,off,k⟩ (by simp [cz]) hn (by simpa using hr)
  simpa using this
theorem Imp.row0 {nid j k:Nat} {flat:Bool} {b:Option Addr} (hB:∀ b,B b→b<w.heap.size) :
  Imp w B [] nid j (j+1) [(nid+j,some (.arr k [] flat false))] (fun β=>V w B β (.own (nid+j) k 0 0) (.slice b 0 0)):=by
 refine ⟨⟨fun _=>none,⟨?_,(fun a l hl=>by cases hl),fun a o ha=>?_,by omega⟩,.kU _ _ _ _⟩,fun x hx=>by simp at hx;subst hx;exact ⟨_,rfl⟩,fun x hx=>by simp at hx;subst hx;simp,by simp⟩
 ·exact Sim.of (fun a o ha=>.inr ⟨rfl,by
    simp only [rdU,cd] at ha
    split at ha
    ·simp at ha;exact ⟨_,_,_,ha.symm⟩
    ·simp at ha⟩) (fun a o l ha _ hl=>by cases hl) (fun a a' o o' l l' ha ha' hne hl=>by cases hl) hB (fun a k' xs' fl' l ha hl=>by cases hl)
 ·simp only [rdU,cd] at ha
  split at ha
  ·rename_i he;subst he;omega
  ·simp at ha
theorem oy.more {l:Loc} {xs:List (List PV)} {c:Array Value} (h:oy w B l xs c) (hB:∀ b,B b→B' b):oy w B' l xs c:=fun i x j p h1 h2=>by
 obtain ⟨v,q1,q2,q3⟩:=h i x j p h1 h2
 exact ⟨v,q1,q2,q3.more hB⟩
theorem oy.plain {l:Loc} {xs:List (List PV)} {c:Array Value} (h:oy w B l xs c) (hp:dU xs):oy w B' l xs c:=fun i x j p h1 h2=>by
 obtain ⟨v,q1,q2,q3⟩:=h i x j p h1 h2
 exact ⟨v,q1,q2,q3.plain (hp x (List.mem_of_getElem? h1) p (List.mem_of_getElem? h2))⟩
def lJ:PV→Bool
 | .undef | .bp | .eH=>true
 | _=>false
theorem qK {nid j j':Nat} {p:PV} {r ps:List PV} {ks:List (Option Nat)} {u:Upd} {sh:Bool} (h:imports nid (p::r) ks j=some (ps,u,sh,j')) :
  (∃ xs flat k vs u' sh',p=.lit xs ⟨true,flat⟩∧ks.head?=some (some k)∧imports nid r ks.tail (j+1)=some (vs,u',sh',j')∧ps=.own (nid+j) k 0 xs.length::vs∧u=(nid+j,some (.arr k xs false false))::u'∧sh=(sh'||!(xs.all cJ)))∨
  (∃ xs fl vs sh',p=.lit xs fl∧fl.u=false∧imports nid r ks.tail j=some (vs,u,sh',j')∧ps=.lit xs fl::vs∧sh=true)∨
  (∃ vs,(plainCell p=true∨lJ p=true)∧imports nid r ks.tail j=some (vs,u,sh,j')∧ps=p::vs):=by
 have other:∀ (vs:List PV),(plainCell p=true∨lJ p=true)→(match imports nid r ks.tail j with | some (vs,u,sh,j')=>some (p::vs,u,sh,j') | none=>none)=some (ps,u,sh,j')→
   (∃ vs,(plainCell p=true∨lJ p=true)∧imports nid r ks.tail j=some (vs,u,sh,j')∧ps=p::vs):=by
  intro vs hp h
  split at h
  ·rename_i vs' u' sh' j'' hr
   simp at h;obtain ⟨rfl,rfl,rfl,rfl⟩:=h
   exact ⟨vs',hp,hr,rfl⟩
  ·simp at h
 cases p with
 | lit xs fl=>
  obtain ⟨fu,flat⟩:=fl
  cases fu with
  | true=>
   simp only [imports] at h
   split at h
   ·rename_i k hk
    split at h
    ·rename_i vs u' sh' j'' hr
     simp at h;obtain ⟨rfl,rfl,rfl,rfl⟩:=h
     exact .inl ⟨xs,flat,k,vs,u',sh',rfl,hk,hr,rfl,rfl,rfl⟩
    ·simp at h
   ·simp at h
  | false=>
   simp only [imports] at h
   split at h
   ·rename_i vs u' sh' j'' hr
    simp at h;obtain ⟨rfl,rfl,rfl,rfl⟩:=h
    exact .inr (.inl ⟨xs,⟨false,flat⟩,vs,sh',rfl,rfl,hr,rfl,rfl⟩)
   ·simp at h
 | bool b=>simp [imports,plainCell] at h;exact .inr (.inr (other [] (.inl rfl) h))
 | int k n=>simp [imports,plainCell] at h;exact .inr (.inr (other [] (.inl rfl) h))
 | str s=>simp [imports,plainCell] at h;exact .inr (.inr (other [] (.inl rfl) h))
 | undef=>simp [imports,plainCell] at h;exact .inr (.inr (other [] (.inr rfl) h))
 | bp=>simp [imports,plainCell] at h;exact .inr (.inr (other [] (.inr rfl) h))
 | eH=>simp [imports,plainCell] at h;exact .inr (.inr (other [] (.inr rfl) h))
 | _=>simp [imports,plainCell] at h
theorem Bw {p:PV} {v:Value} (h:V w B β p v) (hp:lJ p=true):V w' B' β' p v:=by
 cases h <;> simp [lJ] at hp <;> constructor
theorem jD {n0 nid:Nat}:∀ {cs ps:List PV} {ks:List (Option Nat)} {vs:List Value} {bs:List Nat} {j j':Nat} {u:Upd} {sh:Bool},RCs w Bc n0 cs ks vs bs→imports nid cs ks j=some (ps,u,sh,j')→
  ∀ B:Nat→Prop,(sh=true→∀ b,Bc b→B b)→(∀ b∈bs,¬ B b)→(∀ b,B b→b<w.heap.size)→Imp w B bs nid j j' u (fun β=>Vs w B β ps vs)
 | [],ps,ks,vs,bs,j,j',u,sh,hc,h,B,h1,h2,h3=>by
  simp [imports] at h;obtain ⟨rfl,rfl,rfl,rfl⟩:=h
  cases hc
  exact .nil h3 .nil
 | p::r,ps,ks,vs,bs,j,j',u,sh,hc,h,B,h1,h2,h3=>by
  cases hc with
  | cons _ _ _ v vs bs bs' hp hr hd=>
  have hm:∀ (p:PV) (v:Value) (β β':Map),(∀ a l,β a=some l→β' a=some l)→V w B β p v→V w B β' p v:=fun p v β β' hm h=>h.mT hm
  have hms:∀ (ps:List PV) (vs:List Value) (β β':Map),(∀ a l,β a=some l→β' a=some l)→Vs w B β ps vs→Vs w B β' ps vs:=fun p v β β' hm h=>h.mT hm
  rcases qK h with ⟨xs,flat,k,vs',u',sh',rfl,hk,hi,rfl,rfl,rfl⟩ | ⟨xs,fl,vs',sh',rfl,hu,hi,rfl,rfl⟩ | ⟨vs',hpl,hi,rfl⟩
  ·have ih:=jD hr hi B (fun hs=>h1 (by simp [hs])) (fun b hb=>h2 b (List.mem_append_right _ hb)) h3
   generalize hkey:ks.head?=key at hp
   generalize vT:PV.lit xs ⟨true,flat⟩=pl at hp
   cases hp with
   | uniq k' xs' flat' b off cap c e hc ho hf hk' hn hroom h0=>
    simp at vT;obtain ⟨rfl,rfl⟩:=vT
    rw [hk] at hkey;simp at hkey;subst hkey
    have ho':oy w B ⟨b,off,k⟩ xs c:=by
     cases hfl:xs.all cJ with
     | true=>exact ho.plain fun x hx=>mQ.1 (List.all_eq_true.1 hfl x hx)
     | false=>exact ho.more (h1 (by simp [hfl]))
    have:=(Imp.row (w:=w) (B:=B) (nid:=nid) (j:=j) h3 (h2 b (by simp)) hc ho' (flat:=false) (by simp) hk' hn hroom).join ih hd (hm _ _) (hms _ _)
    exact this.mono fun β hβ=>.cons hβ.1 hβ.2
   | sB k' flat' b=>
    simp at vT;obtain ⟨rfl,rfl⟩:=vT
    rw [hk] at hkey;simp at hkey;subst hkey
    have:=(Imp.row0 (w:=w) (B:=B) (nid:=nid) (j:=j) (k:=k) (flat:=false) (b:=b) h3).join ih hd (hm _ _) (hms _ _)
    exact this.mono fun β hβ=>.cons hβ.1 hβ.2
   | data c key v hv hu=>
    subst vT
    have:=hu xs _ rfl;simp at this
  ·have ih:=jD hr hi B (fun _=>h1 rfl) (fun b hb=>h2 b (List.mem_append_right _ hb)) h3
   generalize vT:PV.lit xs fl=pl at hp
   generalize hkey:ks.head?=key at hp
   cases hp with
   | uniq k' xs' flat' b off cap c e hc ho hf hk' hn hroom h0=>simp at vT;obtain ⟨rfl,rfl⟩:=vT;simp at hu
   | sB k' flat' b=>simp at vT;obtain ⟨rfl,rfl⟩:=vT;simp at hu
   | data c key v hv hu'=>
    subst vT
    exact ih.mono fun β hβ=>.cons ((hv.more (h1 rfl)).lift) hβ
  ·have ih:=jD hr hi B h1 (fun b hb=>h2 b (List.mem_append_right _ hb)) h3
   generalize hkey:ks.head?=key at hp
   cases hp with
   | uniq k' xs' flat' b off cap c e hc ho hf hk' hn hroom h0=>simp [plainCell,lJ] at hpl
   | sB k' flat' b=>simp [plainCell,lJ] at hpl
   | data c key v hv hu'=>exact ih.mono fun β hβ=>.cons (hpl.elim hv.plain (Bw hv)) hβ
theorem vQ {n0 nid:Nat} {r p:PV} {ks ks' ks2:List (Option Nat)} {v:Value} {bs:List Nat} {j j':Nat} {u:Upd} {sh:Bool} (hc:RV w Bc n0 r ks v ks2 bs) (h:cB nid r ks j=some (p,u,sh,j',ks'))
  (B:Nat→Prop) (h1:sh=true→∀ b,Bc b→B b) (h2:∀ b∈bs,¬ B b) (h3:∀ b,B b→b<w.heap.size):Imp w B bs nid j j' u (fun β=>V w B β p v)∧ks'=ks2:=by
 cases hc with
 | agg cs ks vs bs hc ho=>
  simp only [cB] at h
  split at h
  ·rename_i cs' u' sh' j'' hi
   simp at h;obtain ⟨rfl,rfl,rfl,rfl,rfl⟩:=h
   exact ⟨(jD hc hi B h1 h2 h3).mono fun β hβ=>.agg _ vs (by simpa using hβ.1) ho fun i c v q1 q2=>hβ.2 i c v q1 (by simpa using q2),rfl⟩
  ·simp at h
 | one p' ks v bs hp hc=>
  have hh:cB nid r ks j=(match imports nid [r] (ks.take 1) j with | some ([v'],u,sh,j')=>some (v',u,sh,j',ks.drop 1) | _=>none):=by
   cases r <;> first | rfl | exact absurd rfl (hp _)
  rw [hh] at h
  split at h
  ·rename_i v' u' sh' j'' hi
   simp at h;obtain ⟨rfl,rfl,rfl,rfl,rfl⟩:=h
   have hcs:=RCs.cons (w:=w) (B:=Bc) (n0:=n0) r [] (ks.take 1) v [] bs [] hc (.nil _) (by simp)
   have:=jD hcs hi B h1 (by simpa using h2) h3
   rw [List.append_nil] at this
   exact ⟨this.mono fun β hβ=>hβ.head,by simp⟩
  ·simp at h
theorem sP {n0 nid:Nat}:∀ {cs ps:List PV} {ks:List (Option Nat)} {vs:List Value} {bs:List Nat} {j j':Nat} {u:Upd} {sh:Bool},RVs w Bc n0 cs ks vs bs→dG nid cs ks j=some (ps,u,sh,j')→
  ∀ B:Nat→Prop,(sh=true→∀ b,Bc b→B b)→(∀ b∈bs,¬ B b)→(∀ b,B b→b<w.heap.size)→Imp w B bs nid j j' u (fun β=>Vs w B β ps vs)
 | [],ps,ks,vs,bs,j,j',u,sh,hc,h,B,h1,h2,h3=>by
  simp [dG] at h;obtain ⟨rfl,rfl,rfl,rfl⟩:=h
  cases hc
  exact .nil h3 .nil
 | p::r,ps,ks,vs,bs,j,j',u,sh,hc,h,B,h1,h2,h3=>by
  cases hc with
  | cons _ _ _ ks' v vs bs bs' hp hr hd=>
  simp only [dG] at h
  split at h
  ·rename_i v' u1 sh1 j1 ks1 hi
   split at h
   ·rename_i vs' u2 sh2 j2 hi2
    simp at h;obtain ⟨rfl,rfl,rfl,rfl⟩:=h
    obtain ⟨g1,rfl⟩:=vQ hp hi B (fun hs=>h1 (by simp [hs])) (fun b hb=>h2 b (List.mem_append_left _ hb)) h3
    have g2:=sP hr hi2 B (fun hs=>h1 (by simp [hs])) (fun b hb=>h2 b (List.mem_append_right _ hb)) h3
    exact (g1.join g2 hd (fun _ _ hm h=>h.mT hm) (fun _ _ hm h=>h.mT hm)).mono fun β hβ=>.cons hβ.1 hβ.2
   ·simp at h
  ·simp at h
theorem DS {n0 nid:Nat} {r p:PV} {ks:List (Option Nat)} {v:Value} {bs:List Nat} {j:Nat} {u:Upd} {sh:Bool} (hc:RR w Bc n0 r ks v bs) (h:dk nid r ks=some (p,u,sh,j))
  (B:Nat→Prop) (h1:sh=true→∀ b,Bc b→B b) (h2:∀ b∈bs,¬ B b) (h3:∀ b,B b→b<w.heap.size):Imp w B bs nid 0 j u (fun β=>V w B β p v):=by
 cases hc with
 | tup cs ks vs bs hc=>
  simp only [dk] at h
  split at h
  ·rename_i vs' u' sh' j' hi
   simp at h;obtain ⟨rfl,rfl,rfl,rfl⟩:=h
   exact (sP hc hi B h1 h2 h3).mono fun β hβ=>.tup _ vs (by simpa using hβ.1) fun i c v q1 q2=>hβ.2 i c v q1 (by simpa using q2)
  ·simp at h
 | one p' ks ks' v bs hp hc=>
  have hh:dk nid r ks=(match cB nid r ks 0 with | some (v',u,sh,j,_)=>some (v',u,sh,j) | none=>none):=by
   cases r <;> first | rfl | exact absurd rfl (hp _)
  rw [hh] at h
  split at h
  ·rename_i v' u' sh' j' ks2 hi
   simp at h;obtain ⟨rfl,rfl,rfl,rfl⟩:=h
   exact (vQ hc hi B h1 h2 h3).1
  ·simp at h
end
end Go.Pm
end
section
set_option linter.unusedVariables false
set_option linter.unusedSimpArgs false
namespace Go.Pm
open Go
section
variable {w w' w'':World} {B B' B'' Bc:Nat→Prop} {β β' β'':Map} {rd rd' Bk rd1 rd2:Rd}
def Given (B:Nat→Prop) (β:Map) (rd:Rd) (all:List Nat) (b:Nat):Prop:=
 B b∨∃ a k xs fl fz l,rd a=some (.arr k xs fl fz)∧(fz=true∨times a all≠1)∧β a=some l∧l.block=b
theorem eF (a:Nat):∀ xs ys:List Nat,times a (xs ++ ys)=times a xs+times a ys
 | [],ys=>by simp [times]
 | x::xs,ys=>by simp [times,eF a xs ys];omega
theorem rA {a:Nat}:∀ {xs:List Nat},a∈xs→1≤times a xs
 | [],h=>by simp at h
 | x::xs,h=>by
  rcases List.mem_cons.1 h with rfl | h
  ·simp [times]
  ·have:=rA h;simp [times];omega
def sn (β:Map) (rd:Rd) (all:List Nat) (here:List Nat) (b:Nat):Prop:=
 ∃ a k xs fl l,rd a=some (.arr k xs fl false)∧times a all=1∧a∈here∧β a=some l∧l.block=b
theorem sn.xV (hs:Sim w B β rd) {all here:List Nat} {b:Nat} (h:sn β rd all here b):¬ Given B β rd all b:=by
 obtain ⟨a,k,xs,fl,l,h1,h2,h3,h4,h5⟩:=h
 rintro (h6 | ⟨a',k',xs',fl',fz',l',g1,g2,g3,g4⟩)
 ·exact hs.excl a _ l h1 (by simp) h4 (h5▸h6)
 ·by_cases he:a=a'
  ·subst he
   rw [h1] at g1;simp at g1
   rcases g2 with g2 | g2
   ·simp_all
   ·exact g2 h2
  ·exact hs.inj a a' _ _ l l' h1 g1 he h4 g3 (h5.trans g4.symm)
theorem sn.apart (hs:Sim w B β rd) {all here there:List Nat} {b:Nat} (h:sn β rd all here b) (k:sn β rd all there b) (hle:∀ a,times a (here ++ there)≤times a all):False:=by
 obtain ⟨a,k1,xs,fl,l,h1,h2,h3,h4,h5⟩:=h
 obtain ⟨a',k2,xs',fl',l',g1,g2,g3,g4,g5⟩:=k
 have he:a=a':=by
  rcases Nat.decEq a a' with he | he
  ·exact absurd (h5.trans g5.symm) (hs.inj a a' _ _ l l' h1 g1 he h4 g4)
  ·exact he
 subst he
 have:=hle a
 rw [eF] at this
 have:=rA h3;have:=rA g3
 omega
theorem sn.mono {all here there:List Nat} {b:Nat} (h:sn β rd all here b) (hm:∀ a∈here,a∈there):sn β rd all there b:=by
 obtain ⟨a,k1,xs,fl,l,h1,h2,h3,h4,h5⟩:=h
 exact ⟨a,k1,xs,fl,l,h1,h2,hm a h3,h4,h5⟩
theorem qc (hs:Sim w B β rd) {n0:Nat} (hm:∀ b,Mut β rd b→n0≤b) {all:List Nat}:∀ {ps qs:List PV} {ks:List (Option Nat)} {vs:List Value},exports rd all ps ks=some qs→Vs w B β ps vs→
  (∀ a,times a (dz ps)≤times a all)→∃ bs,RCs w (Given B β rd all) n0 qs ks vs bs∧∀ b∈bs,sn β rd all (dz ps) b
 | [],qs,ks,vs,h,hv,hle=>by
  simp [exports] at h;subst h
  rw [hv.of_nil]
  exact ⟨[],.nil _,by simp⟩
 | p::r,qs,ks,vs,h,hv,hle=>by
  obtain ⟨v,vs',rfl,h1,h2⟩:=hv.cN
  have hB:∀ b,B b→Given B β rd all b:=fun b hb=>.inl hb
  have hle2:∀ a,times a (dz r)≤times a all:=fun a=>by have:=hle a;simp only [dz] at this;rw [eF] at this;omega
  cases hr:exports rd all r ks.tail with
  | none=>simp only [exports] at h;rw [hr] at h;simp at h
  | some r'=>
   obtain ⟨bs,g1,g2⟩:=qc hs hm hr h2 hle2
   have data:∀ q,qs=q::r'→V w (Given B β rd all) (fun _=>none) q v→(∀ xs fl,q=.lit xs fl→fl.u=false)→∃ bs,RCs w (Given B β rd all) n0 qs ks (v::vs') bs∧∀ b∈bs,sn β rd all (dz (p::r)) b:=by
    rintro q rfl hq hu
    exact ⟨[] ++ bs,.cons _ _ _ _ _ _ _ (.data _ _ _ hq hu) g1 (by simp),fun b hb=>(g2 b (by simpa using hb)).mono fun a ha=>by simp only [dz];exact List.mem_append_right _ ha⟩
   cases p with
   | own a k off len=>
    simp only [exports,hr] at h
    split at h
    ·rename_i k' xs flat fz ha
     split at h
     case isFalse=>simp at h
     rename_i hc
     simp only [Bool.and_eq_true,beq_iff_eq,decide_eq_true_eq] at hc
     obtain ⟨rfl,hle1⟩:=hc
     split at h
     ·rename_i k2 hkey
      split at h
      case isFalse=>simp at h
      rename_i huq
      simp at h;subst h
      simp only [Bool.and_eq_true,Bool.not_eq_true',beq_iff_eq] at huq
      obtain ⟨rfl,rfl,ht⟩:=huq
      obtain ⟨q1,q2,q3⟩:=hs.arr a _ xs flat _ ha
      have hmem:∀ x∈(xs.drop off).take len,x∈xs:=fun x hx=>List.mem_of_mem_drop (List.mem_of_mem_take hx)
      have hlen:((xs.drop off).take len).length=len:=by simp;omega
      cases h1 with
      | kU a k off b=>
       have he:(xs.drop off).take 0=[]:=by simp
       rw [he]
       have hc:RC w (Given B β rd all) n0 (.lit [] ⟨true,flat⟩) ks.head? (.slice b 0 0) []:=by rw [hkey];exact .sB _ flat b
       exact ⟨[] ++ bs,.cons _ _ _ _ _ _ _ hc g1 (by simp),fun b hb=>(g2 b (by simpa using hb)).mono fun a ha=>by simp only [dz];exact List.mem_append_right _ ha⟩
      | own a off len cap l hl hcap hroom=>
       rcases q3 with ⟨rfl,hn⟩ | ⟨m,c,e,e1,e2,e3,e4⟩
       ·rw [hl] at hn;simp at hn
       ·rw [hl] at e1;obtain rfl:=Option.some.inj e1
        have Ze:sn β rd all [a] l.block:=⟨a,l.k,xs,flat,l,ha,ht,by simp,hl,rfl⟩
        have hc:=RC.uniq (w:=w) (B:=Given B β rd all) (n0:=n0) l.k ((xs.drop off).take len) flat l.block (l.off+off*l.k) cap c e e3
         (fun i x j p w1 w2=>by
          have w1':xs[off+i]?=some x:=by
           rw [List.getElem?_take] at w1
           split at w1
           ·simpa using w1
           ·simp at w1
          obtain ⟨v,r1,r2,r3⟩:=e4 (off+i) x j p w1' w2
          rw [Nat.add_mul,← Nat.add_assoc] at r1
          exact ⟨v,r1,r2,r3.more hB⟩)
         (fun hf x hx=>q1 hf x (hmem x hx)) (fun x hx=>q2 x (hmem x hx)) (by rw [hlen];exact hcap)
         (by rw [Nat.add_mul,← Nat.add_assoc] at hroom;exact hroom) (hm _ ⟨a,_,l,ha,by simp,hl,rfl⟩)
        rw [← hkey,hlen] at hc
        refine ⟨[l.block] ++ bs,.cons _ _ _ _ _ _ _ hc g1 (fun b hb hb'=>?_),fun b hb=>?_⟩
        ·simp at hb;subst hb
         exact Ze.apart hs (g2 _ hb') (by simpa [dz,ids] using hle)
        ·rcases List.mem_append.1 hb with hb | hb
         ·simp at hb;subst hb;exact Ze.mono fun a ha=>by simp only [dz,ids];exact List.mem_append_left _ ha
         ·exact (g2 b hb).mono fun a ha=>by simp only [dz];exact List.mem_append_right _ ha
     ·split at h
      case isTrue=>simp at h
      rename_i huq
      simp at h;subst h
      have huq':(!fz&&times a all == 1)=false:=by simpa using huq
      refine data _ rfl ?_ (by rintro xs fl ⟨⟩;rfl)
      refine yZ hs ha hle1 h1 hB (fun l hl=>.inr ⟨a,_,_,_,_,l,ha,?_,hl,rfl⟩) false
      cases fz with
      | true=>exact .inl rfl
      | false=>exact .inr (by simpa using huq')
    ·simp at h
   | bp=>
    simp only [exports,hr] at h
    split at h
    ·rename_i k hkey
     simp at h;subst h
     cases h1
     have hc:=RC.sB (w:=w) (B:=Given B β rd all) (n0:=n0) k false none
     rw [← hkey] at hc
     exact ⟨[] ++ bs,.cons _ _ _ _ _ _ _ hc g1 (by simp),fun b hb=>(g2 b (by simpa using hb)).mono fun a ha=>by simp only [dz];exact List.mem_append_right _ ha⟩
    ·simp at h;subst h
     cases h1
     exact data _ rfl (.lQ _ _ _) (by rintro xs fl ⟨⟩;rfl)
   | lit xs fl=>
    simp only [exports,hr] at h
    split at h
    ·simp at h
    ·simp at h;subst h
     exact data _ rfl ((h1.Dt false).more hB) (by rintro xs fl ⟨⟩;rfl)
   | bool b=>simp [exports,hr,plainCell] at h;subst h;exact data _ rfl (h1.plain rfl) (by simp)
   | int k n=>simp [exports,hr,plainCell] at h;subst h;exact data _ rfl (h1.plain rfl) (by simp)
   | str s=>simp [exports,hr,plainCell] at h;subst h;exact data _ rfl (h1.plain rfl) (by simp)
   | _=>simp [exports,hr,plainCell] at h
theorem wB (hs:Sim w B β rd) {n0:Nat} (hm:∀ b,Mut β rd b→n0≤b) {all:List Nat} {p q:PV} {ks ks':List (Option Nat)} {v:Value} (h:cM rd all p ks=some (q,ks')) (hv:V w B β p v)
  (hle:∀ a,times a (ids p)≤times a all):∃ bs,RV w (Given B β rd all) n0 q ks v ks' bs∧∀ b∈bs,sn β rd all (ids p) b:=by
 have single:(∀ cs,p≠.agg cs)→cM rd all p ks=(match exports rd all [p] (ks.take 1) with | some [v']=>some (v',ks.drop 1) | _=>none):=by
  intro hp
  cases p <;> first | rfl | exact absurd rfl (hp _)
 by_cases hp:∃ cs,p=.agg cs
 ·obtain ⟨cs,rfl⟩:=hp
  simp only [cM] at h
  split at h
  ·rename_i cs' hcs
   simp at h;obtain ⟨rfl,rfl⟩:=h
   obtain ⟨vs,rfl,h1,ho⟩:=Vs.pv hv
   obtain ⟨bs,g1,g2⟩:=qc hs hm hcs h1 (by simpa [ids] using hle)
   have hl:cs'.length=cs.length:=by
    have:∀ {ps qs:List PV} {ks:List (Option Nat)},exports rd all ps ks=some qs→qs.length=ps.length:=by
     intro ps
     induction ps with
     | nil=>intro qs ks h;simp [exports] at h;subst h;rfl
     | cons p r ih=>
      intro qs ks h
      simp only [exports] at h
      split at h
      ·simp at h
      ·rename_i r' hr
       have:=ih hr
       repeat' split at h
       all_goals (try (simp at h;done))
       all_goals (simp at h;subst h;simp [this])
    exact this hcs
   rw [← hl] at g1 ⊢
   exact ⟨bs,.agg cs' ks vs bs g1 ho,by simpa [ids] using g2⟩
  ·simp at h
 ·have hp':∀ cs,p≠.agg cs:=fun cs he=>hp ⟨cs,he⟩
  rw [single hp'] at h
  split at h
  ·rename_i q' hq
   simp at h;obtain ⟨rfl,rfl⟩:=h
   obtain ⟨bs,g1,g2⟩:=qc hs hm hq (.cons hv .nil) (by simpa [dz] using hle)
   cases g1 with
   | cons _ _ _ v vs bs bs' hc hr hd=>
    cases hr
    have hq':∀ cs,q'≠.agg cs:=by
     rintro cs rfl
     cases p <;> simp [exports,plainCell] at hq
     all_goals (repeat' split at hq)
     all_goals simp at hq
    have e:List.drop 1 ks=ks.tail:=by simp
    rw [← e]
    refine ⟨bs,.one q' ks v bs hq' hc,fun b hb=>by have:=g2 b (by simpa using hb);simpa [dz] using this⟩
  ·simp at h
theorem ye (p:PV) (r:List PV):dz (p::r)=ids p ++ dz r:=rfl
theorem sY (hs:Sim w B β rd) {n0:Nat} (hm:∀ b,Mut β rd b→n0≤b) {all:List Nat}:∀ {ps qs:List PV} {ks:List (Option Nat)} {vs:List Value},eX rd all ps ks=some qs→Vs w B β ps vs→
  (∀ a,times a (dz ps)≤times a all)→∃ bs,RVs w (Given B β rd all) n0 qs ks vs bs∧∀ b∈bs,sn β rd all (dz ps) b
 | [],qs,ks,vs,h,hv,hle=>by
  simp [eX] at h;subst h
  rw [hv.of_nil]
  exact ⟨[],.nil _,by simp⟩
 | p::r,qs,ks,vs,h,hv,hle=>by
  obtain ⟨v,vs',rfl,h1,h2⟩:=hv.cN
  simp only [eX] at h
  split at h
  ·rename_i v' ks' hp
   split at h
   ·rename_i vs2 hr
    simp at h;subst h
    have rT:∀ a,times a (ids p)+times a (dz r)≤times a all:=fun a=>by have:=hle a;rw [ye,eF] at this;exact this
    obtain ⟨bs,g1,g2⟩:=wB hs hm hp h1 fun a=>by have:=rT a;omega
    obtain ⟨bs',g3,g4⟩:=sY hs hm hr h2 fun a=>by have:=rT a;omega
    refine ⟨bs ++ bs',.cons _ _ _ _ _ _ _ _ g1 g3 (fun b hb hb'=>(g2 b hb).apart hs (g4 b hb') fun a=>by rw [eF];exact rT a),fun b hb=>?_⟩
    rw [ye]
    rcases List.mem_append.1 hb with hb | hb
    ·exact (g2 b hb).mono fun a ha=>List.mem_append_left _ ha
    ·exact (g4 b hb).mono fun a ha=>List.mem_append_right _ ha
   ·simp at h
  ·simp at h
theorem Fx (hs:Sim w B β rd) {n0:Nat} (hm:∀ b,Mut β rd b→n0≤b) {p q:PV} {ks:List (Option Nat)} {v:Value} (h:eN rd p ks=some q) (hv:V w B β p v) :
  ∃ Bc bs,(∀ b,B b→Bc b)∧(∀ b,Bc b→B b∨Mut β rd b)∧(∀ b∈bs,¬ Bc b)∧RR w Bc n0 q ks v bs:=by
 have hnew:∀ all b,Given B β rd all b→B b∨Mut β rd b:=by
  rintro all b (hb | ⟨a,k,xs,fl,fz,l,h1,h2,h3,h4⟩)
  ·exact .inl hb
  ·cases fz with
   | true=>exact .inl (h4▸hs.frz a k xs fl l h1 h3)
   | false=>exact .inr ⟨a,_,l,h1,by simp,h3,h4⟩
 by_cases hp:∃ cs,p=.tup cs
 ·obtain ⟨cs,rfl⟩:=hp
  simp only [eN,Option.map_eq_some_iff] at h
  obtain ⟨qs,hq,rfl⟩:=h
  obtain ⟨vs,rfl,h1⟩:=Vs.Ny hv
  obtain ⟨bs,g1,g2⟩:=sY hs hm hq h1 fun a=>by rw [eF];omega
  exact ⟨Given B β rd (dz cs ++ C0 cs ks),bs,fun b hb=>.inl hb,hnew _,fun b hb=>(g2 b hb).xV hs,.tup qs ks vs bs g1⟩
 ·have hp':∀ cs,p≠.tup cs:=fun cs he=>hp ⟨cs,he⟩
  have hh:eN rd p ks=(cM rd (ids p ++ (shV p ks).1) p ks).map (·.1):=by cases p <;> first | rfl | exact absurd rfl (hp' _)
  rw [hh] at h
  simp only [Option.map_eq_some_iff] at h
  obtain ⟨⟨q',ks'⟩,hq,rfl⟩:=h
  obtain ⟨bs,g1,g2⟩:=wB hs hm hq hv fun a=>by rw [eF];omega
  refine ⟨Given B β rd (ids p ++ (shV p ks).1),bs,fun b hb=>.inl hb,hnew _,fun b hb=>(g2 b hb).xV hs,.one q' ks ks' v bs ?_ g1⟩
  rintro cs rfl
  generalize hz:PV.tup cs=z at g1
  cases g1 with
  | agg=>simp at hz
  | one p' ks v bs hpa hc=>
   subst hz
   generalize hk2:(List.take 1 ks).head?=key at hc
   generalize hz2:PV.tup cs=z2 at hc
   cases hc with
   | uniq=>simp at hz2
   | sB=>simp at hz2
   | data c key v hv' hu=>
    subst hz2
    cases hv' with
    | tup cs' vs' hl hv2=>
     cases hv with
     | tup cs2 vs2 hl2 hv3=>exact hp' _ rfl
     | undef=>simp [cM,exports,plainCell] at hq
     | void=>simp [cM,exports,plainCell] at hq
end
end Go.Pm
end
section
set_option linter.unusedVariables false
set_option linter.unusedSimpArgs false
namespace Go.Pm
open Go
section
variable {w:World} {rd rd':Rd} {tm tm':List PV} {tab:Nat→Option TI}
def Same (rd rd':Rd) (l:List Nat):Prop:=∀ a∈l,rd' a=rd a
theorem Same.left {xs ys:List Nat} (h:Same rd rd' (xs ++ ys)):Same rd rd' xs:=fun a ha=>h a (List.mem_append_left _ ha)
theorem Same.right {xs ys:List Nat} (h:Same rd rd' (xs ++ ys)):Same rd rd' ys:=fun a ha=>h a (List.mem_append_right _ ha)
theorem Same.head {x:Nat} {ys:List Nat} (h:Same rd rd' (x::ys)):rd' x=rd x:=h x (by simp)
theorem Same.tail {x:Nat} {ys:List Nat} (h:Same rd rd' (x::ys)):Same rd rd' ys:=fun a ha=>h a (by simp [ha])
def jT (tm tm':List PV) (x:Operand):Prop:=∀ t,x=.tmp t→nth tm' t=nth tm t
theorem bQ {x:Operand} (h:jT tm tm' x):cj tm' x=cj tm x:=by
 cases x with
 | tmp t=>simp [cj,h t rfl]
 | _=>rfl
theorem lK:∀ {xs:List Operand},(∀ x∈xs,jT tm tm' x)→gB tm' xs=gB tm xs
 | [],_=>rfl
 | x::r,h=>by simp only [gB];rw [bQ (h x (by simp)),lK fun y hy=>h y (by simp [hy])]
theorem vq:∀ {xs:List (Nat × Operand)},(∀ x∈xs,jT tm tm' x.2)→mU tm' xs=mU tm xs
 | [],_=>rfl
 | (i,x)::r,h=>by simp only [mU];rw [bQ (h (i,x) (by simp)),vq fun y hy=>h y (by simp [hy])]
theorem vr:∀ {xs:List (Nat × Operand)},(∀ x∈xs,jT tm tm' x.2)→kV tm' xs=kV tm xs
 | [],_=>rfl
 | (i,x)::r,h=>by simp only [kV];rw [bQ (h (i,x) (by simp)),vr fun y hy=>h y (by simp [hy])]
theorem Q0 {nid:Nat} {o:Oper} (h:∀ x∈o.op.operands,jT tm tm' x):bM tab rd nid tm' o=bM tab rd nid tm o:=by
 unfold bM
 cases hop:o.op <;> rw [hop] at h <;> simp only [Op.operands] at h <;> try rfl
 case move x=>simp only;rw [bQ (h x (by simp))]
 case assign x=>simp only;rw [bQ (h x (by simp))]
 case pick c a b=>simp only;rw [bQ (h c (by simp)),bQ (h a (by simp)),bQ (h b (by simp))]
 case box t x=>simp only;rw [bQ (h x (by simp))]
 case build t ps=>simp only;rw [vr fun y hy=>h y.2 (by simp;exact ⟨y.1,by simpa using hy⟩)]
 case buildSlice t n ps=>simp only;rw [vq fun y hy=>h y.2 (by simp;exact ⟨y.1,by simpa using hy⟩)]
 case load t x=>simp only;rw [bQ (h x (by simp))]
 case store t a v=>simp only;rw [bQ (h a (by simp)),bQ (h v (by simp))]
 case nilCheck x=>simp only;rw [bQ (h x (by simp))]
 case binOp op t x y q=>simp only;rw [bQ (h x (by simp)),bQ (h y (by simp))]
 case unOp op t x=>simp only;rw [bQ (h x (by simp))]
 case convert s d x=>simp only;rw [bQ (h x (by simp))]
 case makeFunc fn first iF=>cases fn <;> simp only;rw [lK fun y hy=>h y (by simp;exact .inr (by simpa using hy))]
 case makeSlice t l c=>simp only;rw [bQ (h l (by simp)),bQ (h c (by simp))]
 case slice t x lo hi mx=>
  cases mx with
  | some m=>rfl
  | none=>
   simp only
   rw [bQ (h x (by simp))]
   cases lo <;> cases hi <;> simp only
   ·rename_i y;rw [bQ (h y (by simp))]
   ·rename_i y;rw [bQ (h y (by simp))]
   ·rename_i y z;rw [bQ (h y (by simp)),bQ (h z (by simp))]
 case fieldAddr s x f=>simp only;rw [bQ (h x (by simp))]
 case field s x f=>simp only;rw [bQ (h x (by simp))]
 case indexAddr t x i=>simp only;rw [bQ (h x (by simp)),bQ (h i (by simp))]
 case index t x i=>simp only;rw [bQ (h x (by simp)),bQ (h i (by simp))]
 case extract x i=>simp only;rw [bQ (h x (by simp))]
 case call c=>
  obtain ⟨callee,args,ats⟩:=c
  cases callee with
  | builtin b=>simp only;rw [lK fun y hy=>h y (by simp [Call.operands];simpa using hy)]
  | _=>rfl
theorem gd:∀ {ps qs:List PV} {l:List Nat},settle rd ps=some (qs,l)→Same rd rd' l→settle rd' ps=some (qs,l)
 | [],qs,l,h,_=>by simpa [settle] using h
 | p::r,qs,l,h,hl=>by
  cases p with
  | own a k off len=>
   simp only [settle] at h ⊢
   split at h
   ·rename_i k' xs flat z r' l' ha hr
    split at h <;> simp at h
    rename_i hc
    obtain ⟨rfl,rfl⟩:=h
    rw [hl.head,ha,gd hr hl.tail]
    simp [hc]
   ·simp at h
  | bp=>
   simp only [settle] at h ⊢
   split at h
   ·rename_i r' l' hr
    simp at h;obtain ⟨rfl,rfl⟩:=h
    rw [gd hr hl]
   ·simp at h
  | lit xs fl=>
   simp only [settle] at h ⊢
   split at h
   ·rename_i r' l' hr
    simp at h;obtain ⟨rfl,rfl⟩:=h
    rw [gd hr hl]
   ·simp at h
  | _=>
   simp only [settle] at h ⊢
   split at h
   ·rename_i r' l' hr
    split at h <;> simp at h
    rename_i hp
    obtain ⟨rfl,rfl⟩:=h
    rw [gd hr hl]
    simp [hp]
   ·simp at h
theorem iQ:∀ {l:List Nat},Same rd rd' l→freezes rd' l=freezes rd l
 | [],_=>rfl
 | a::r,h=>by simp only [freezes];rw [h.head,iQ h.tail]
theorem fW:∀ {l:List Nat} {x:Nat × Option bq},x∈freezes rd l→x.1∈l∧(∃ o,rd x.1=some o)∧∃ o,x.2=some o
 | [],x,h=>by simp [freezes] at h
 | a::r,x,h=>by
  simp only [freezes] at h
  split at h
  ·rename_i k xs fl z ha
   rcases List.mem_cons.1 h with rfl | h
   ·exact ⟨by simp,⟨_,ha⟩,_,rfl⟩
   ·have:=fW h;exact ⟨by simp [this.1],this.2⟩
  ·have:=fW h;exact ⟨by simp [this.1],this.2⟩
theorem nt {size:Nat}:∀ {ps:List PV} {rows:List (List PV)} {l:List Nat} {fl:Bool},cW rd size ps=some (rows,l,fl)→Same rd rd' l→cW rd' size ps=some (rows,l,fl)
 | [],rows,l,fl,h,_=>by simpa [cW] using h
 | p::r,rows,l,fl,h,hl=>by
  simp only [cW] at h ⊢
  split at h
  ·rename_i cs l1 r' l2 fl2 hc hr
   split at h <;> simp at h
   rename_i hs
   obtain ⟨rfl,rfl,rfl⟩:=h
   cases hcc:cellsOf p with
   | none=>rw [hcc] at hc;simp at hc
   | some q=>
    rw [hcc] at hc
    simp only [Option.bind_some] at hc ⊢
    rw [gd hc hl.left,nt hr hl.right]
    simp [hs]
  ·simp at h
theorem nq {size:Nat} {x:PV} {new:List (List PV)} {nf:Bool} {l:List Nat} (h:gS rd size x=some (new,nf,l)) (hl:Same rd rd' l):gS rd' size x=some (new,nf,l):=by
 cases x with
 | own a k off len=>
  simp only [gS] at h ⊢
  split at h
  ·rename_i k' xs fl z ha
   split at h <;> simp at h
   rename_i hc
   obtain ⟨rfl,rfl,rfl⟩:=h
   rw [hl.head,ha];simp [hc]
  ·simp at h
 | _=>exact h
def UpdOK (rd:Rd) (nid:Nat) (e:Eff):Prop:=∀ x∈e.upd,(nid≤x.1∧x.1<nid+64)∨(x.1∈e.foot∧(rd x.1=none→x.2=none))
theorem UpdOK.none {nid:Nat} {e:Eff} (h:e.upd=[]):UpdOK rd nid e:=fun x hx=>by rw [h] at hx;simp at hx
theorem UpdOK.new {nid:Nat} {v:PV} {o:bq} {l:List Nat}:UpdOK rd nid ⟨v,[(nid,some o)],l⟩:=fun x hx=>by simp at hx;subst hx;exact .inl ⟨Nat.le_refl _,by simp⟩
theorem xX {ti:TI} {p:PV} {e:Eff} (h:loadAt rd ti p=some e):e.upd=[]∧(Same rd rd' e.foot→loadAt rd' ti p=some e):=by
 cases p with
 | ptr a o=>
  simp only [loadAt] at h ⊢
  split at h
  ·rename_i cs ha
   have h0:=h
   simp only [Option.map_eq_some_iff] at h0
   obtain ⟨v,hv,rfl⟩:=h0
   exact ⟨rfl,fun hs=>by rw [hs.head,ha];exact h⟩
  ·simp at h
 | dL a i o=>
  simp only [loadAt] at h ⊢
  split at h
  ·rename_i k xs fl z ha
   split at h
   ·rename_i cs hx
    have h0:=h
    simp only [Option.map_eq_some_iff] at h0
    obtain ⟨v,hv,rfl⟩:=h0
    exact ⟨rfl,fun hs=>by rw [hs.head,ha];simp only [hx];exact h⟩
   ·simp at h
  ·simp at h
 | bL xs i o=>
  simp only [loadAt] at h ⊢
  split at h
  ·have h0:=h
   simp only [Option.map_eq_some_iff] at h0
   obtain ⟨v,hv,rfl⟩:=h0
   exact ⟨rfl,fun _=>h⟩
  ·simp at h
 | _=>simp [loadAt] at h
theorem CM {ti:TI} {p v:PV} {nid:Nat} {e:Eff} (h:storeAt rd ti p v=some e):UpdOK rd nid e∧(Same rd rd' e.foot→storeAt rd' ti p v=some e):=by
 unfold storeAt at h ⊢
 split at h
 ·simp at h
 ·rename_i vs hvs
  split at h
  ·rename_i hsz
   cases p with
   | ptr a o=>
    simp only at h ⊢
    split at h
    ·rename_i cs ha
     split at h <;> simp at h
     rename_i hle
     subst h
     exact ⟨fun x hx=>by simp at hx;subst hx;exact .inr ⟨by simp,fun hn=>by rw [ha] at hn;simp at hn⟩,fun hs=>by rw [hs.head,ha];simp [hle,hsz]⟩
    ·simp at h
   | dL a i o=>
    simp only at h ⊢
    split at h
    ·rename_i k xs fl ha
     split at h
     ·rename_i cs ws fz hx hst
      split at h <;> simp at h
      rename_i hc
      subst h
      refine ⟨fun x hx=>?_,fun hs=>?_⟩
      ·rcases List.mem_append.1 hx with hx | hx
       ·have:=fW hx;exact .inr ⟨by simp [this.1],fun hn=>by obtain ⟨⟨o,ho⟩,_⟩:=this.2;rw [hn] at ho;simp at ho⟩
       ·simp at hx;subst hx;exact .inr ⟨by simp,fun hn=>by rw [ha] at hn;simp at hn⟩
      ·rw [hs.head,ha,gd hst hs.tail]
       simp only [hx]
       rw [if_pos hsz,if_pos hc,iQ hs.tail]
     ·simp at h
    ·simp at h
   | _=>simp at h
  ·simp at h
theorem Cx {t:Nat} {s x:PV} {nid:Nat} {e:Eff} (h:jS tab rd nid t s x=some e):UpdOK rd nid e∧(Same rd rd' e.foot→jS tab rd' nid t s x=some e):=by
 unfold jS at h ⊢
 split at h
 ·rename_i el _ _ _ _ ht
  split at h
  ·simp at h
  ·rename_i ti hti
   split at h
   ·simp at h
   ·rename_i new nf foot hsrc
    split at h
    ·rename_i hby
     cases s with
     | bp=>
      simp only at h ⊢
      cases new with
      | nil=>
       simp at h;subst h
       exact ⟨.new,fun hs=>by rw [nq hsrc hs];simp [hti,hby]⟩
      | cons y ys=>
       simp only at h
       split at h <;> simp at h
       rename_i hb
       subst h
       refine ⟨.new,fun hs=>?_⟩
       rw [nq hsrc hs]
       simp only [hby,↓reduceIte]
       rw [if_pos hb];simp
     | own a k off len=>
      simp only at h ⊢
      split at h
      ·rename_i k' xs flat ha
       split at h <;> simp at h
       rename_i hc
       subst h
       refine ⟨fun x hx=>?_,fun hs=>?_⟩
       ·simp at hx
        rcases hx with rfl | rfl
        ·exact .inr ⟨by simp,fun _=>rfl⟩
        ·exact .inl ⟨Nat.le_refl _,by simp⟩
       ·rw [nq hsrc hs.tail]
        simp only [hby,↓reduceIte]
        rw [hs.head,ha]
        simp only
        rw [if_pos hc]
      ·simp at h
     | _=>simp at h
    ·simp at h
 ·simp at h
theorem Lr {t:Nat} {d x:PV} {nid:Nat} {e:Eff} (h:si tab rd t d x=some e):UpdOK rd nid e∧(Same rd rd' e.foot→si tab rd' t d x=some e):=by
 unfold si at h ⊢
 split at h
 ·rename_i el _ _ _ _ ht
  split at h
  ·simp at h
  ·rename_i ti hti
   split at h
   ·simp at h
   ·rename_i new nf foot hsrc
    cases d with
    | bp=>
     simp at h;subst h
     exact ⟨.none rfl,fun hs=>by rw [nq hsrc hs]⟩
    | own a k off len=>
     simp only at h ⊢
     split at h
     ·rename_i k' xs flat ha
      split at h <;> simp at h
      rename_i hc
      subst h
      refine ⟨fun x hx=>?_,fun hs=>?_⟩
      ·simp at hx;subst hx;exact .inr ⟨by simp,fun hn=>by rw [ha] at hn;simp at hn⟩
      ·rw [nq hsrc hs.tail,hs.head,ha]
       simp only
       rw [if_pos hc]
       simp
     ·simp at h
    | _=>simp at h
 ·simp at h
theorem FL {t:Nat} {d:PV} {nid:Nat} {e:Eff} (h:mM tab rd t d=some e):UpdOK rd nid e∧(Same rd rd' e.foot→mM tab rd' t d=some e):=by
 unfold mM at h ⊢
 split at h
 ·rename_i el _ _ _ _ ht
  split at h
  ·rename_i ti hti
   cases d with
   | bp=>have:=jB h;subst this;exact ⟨.none rfl,fun hs=>by simp [hti,ok]⟩
   | own a k off len=>
    simp only at h ⊢
    split at h
    ·rename_i k' xs flat ha
     split at h <;> simp at h
     rename_i hc
     subst h
     refine ⟨fun x hx=>?_,fun hs=>?_⟩
     ·simp at hx;subst hx;exact .inr ⟨by simp,fun hn=>by rw [ha] at hn;simp at hn⟩
     ·rw [hs.head,ha]
      simp only
      rw [if_pos hc]
      simp
    ·simp at h
   | _=>simp at h
  ·simp at h
 ·simp at h
theorem AB {nid:Nat} {b:Builtin} {ts:List Nat} {vs:List PV} {e:Eff} (h:de tab rd nid b ts vs=some e):UpdOK rd nid e∧(Same rd rd' e.foot→de tab rd' nid b ts vs=some e):=by
 have pure:e.upd=[]→de tab rd' nid b ts vs=some e→UpdOK rd nid e∧(Same rd rd' e.foot→de tab rd' nid b ts vs=some e):=fun h1 h2=>⟨.none h1,fun _=>h2⟩
 unfold de at h
 split at h
 ·have hu:e.upd=[]:=by
   split at h
   ·split at h
    ·simp at h
    ·simp only [Option.map_eq_some_iff] at h;obtain ⟨n,_,rfl⟩:=h;rfl
   ·have:=jB h;subst this;rfl
   ·have:=jB h;subst this;rfl
   ·simp at h
  exact pure hu h
 ·rename_i t t' s x
  split at h
  ·rename_i ht'
   obtain ⟨h1,h2⟩:=Cx (rd':=rd') h
   refine ⟨h1,fun hs=>?_⟩
   simp only [de,ht']
   exact h2 hs
  ·simp at h
 ·exact Lr h
 ·exact FL h
 ·have hu:e.upd=[]:=by simp only [Option.map_eq_some_iff] at h;obtain ⟨n,_,rfl⟩:=h;rfl
  exact pure hu h
 ·have hu:e.upd=[]:=by simp only [Option.map_eq_some_iff] at h;obtain ⟨n,_,rfl⟩:=h;rfl
  exact pure hu h
 ·simp at h
theorem FO {nid:Nat} {o:Oper} {e:Eff} (h:bM tab rd nid tm o=some e):UpdOK rd nid e∧(Same rd rd' e.foot→bM tab rd' nid tm o=some e):=by
 have pure:e.upd=[]→bM tab rd' nid tm o=some e→UpdOK rd nid e∧(Same rd rd' e.foot→bM tab rd' nid tm o=some e):=fun h1 h2=>⟨.none h1,fun _=>h2⟩
 have val:∀ (x:Option PV),x.map (fun v=>(⟨v,[],[]⟩:Eff))=some e→e.upd=[]:=fun x hx=>by
  simp only [Option.map_eq_some_iff] at hx;obtain ⟨v,_,rfl⟩:=hx;rfl
 have okv:∀ p:PV,ok p=some e→e.upd=[]:=fun p hp=>by have:=jB hp;subst this;rfl
 unfold bM at h
 split at h
 ·exact pure (val _ h) (by unfold bM;simp only [*])
 ·exact pure (val _ h) (by unfold bM;simp only [*])
 ·rename_i ho
  refine pure ?_ (by unfold bM;rw [ho];exact h)
  split at h
  ·exact okv _ h
  ·simp at h
 ·rename_i t ho
  have h':bM tab rd' nid tm o=some e:=by unfold bM;rw [ho];exact h
  split at h
  ·simp at h;subst h;exact ⟨.new,fun _=>h'⟩
  ·simp at h
 ·rename_i t x ho
  have h':bM tab rd' nid tm o=some e:=by unfold bM;rw [ho];exact h
  split at h
  ·simp at h;subst h;exact ⟨.new,fun _=>h'⟩
  ·simp at h
 ·rename_i t parts ho
  refine pure ?_ (by unfold bM;rw [ho];exact h)
  split at h
  ·simp only [Option.map_eq_some_iff] at h;obtain ⟨v,_,rfl⟩:=h;rfl
  ·split at h
   ·simp only [Option.map_eq_some_iff] at h;obtain ⟨v,_,rfl⟩:=h;rfl
   ·simp at h
  ·simp at h
 ·rename_i t n parts ho
  split at h
  ·rename_i el _ _ _ _ vs ht hvs
   split at h
   ·rename_i ti hti
    split at h
    ·rename_i hc
     split at h
     ·rename_i rows fz flat hset
      simp at h;subst h
      refine ⟨fun x hx=>?_,fun hs=>?_⟩
      ·rcases List.mem_append.1 hx with hx | hx
       ·have:=fW hx;exact .inr ⟨this.1,fun hn=>by obtain ⟨⟨o,ho⟩,_⟩:=this.2;rw [hn] at ho;simp at ho⟩
       ·simp at hx;subst hx;exact .inl ⟨Nat.le_refl _,by simp⟩
      ·unfold bM
       rw [ho]
       simp only [ht,hvs,hti,hc,↓reduceIte]
       have hs':Same rd rd' fz:=hs
       rw [nt hset hs']
       simp only [iQ hs']
     ·simp at h
    ·simp at h
   ·simp at h
  ·simp at h
 ·rename_i t x ho
  split at h
  ·rename_i ti p ht hp
   obtain ⟨h1,h2⟩:=xX (rd':=rd') h
   exact ⟨.none h1,fun hs=>by unfold bM;rw [ho];simp only [ht,hp];exact h2 hs⟩
  ·simp at h
 ·rename_i t x y ho
  split at h
  ·rename_i ti p q ht hp hq
   obtain ⟨h1,h2⟩:=CM (rd':=rd') (nid:=nid) h
   exact ⟨h1,fun hs=>by unfold bM;rw [ho];simp only [ht,hp,hq];exact h2 hs⟩
  ·simp at h
 ·rename_i x ho
  refine pure ?_ (by unfold bM;rw [ho];exact h)
  split at h
  ·exact okv _ h
  ·exact okv _ h
  ·exact okv _ h
  ·exact okv _ h
  ·simp at h
 ·rename_i op t x y _ ho
  refine pure ?_ (by unfold bM;rw [ho];exact h)
  split at h
  ·exact val _ h
  ·simp at h
 ·rename_i op t x ho
  refine pure ?_ (by unfold bM;rw [ho];exact h)
  split at h
  ·exact val _ h
  ·simp at h
 ·rename_i ho
  refine pure ?_ (by unfold bM;rw [ho];exact h)
  split at h
  ·exact okv _ h
  ·simp at h
 ·rename_i f first iF ho
  refine pure ?_ (by unfold bM;rw [ho];exact h)
  split at h
  ·simp only [Option.map_eq_some_iff] at h;obtain ⟨v,_,rfl⟩:=h;rfl
  ·simp at h
 ·rename_i t l c ho
  have h':bM tab rd' nid tm o=some e:=by unfold bM;rw [ho];exact h
  split at h
  ·split at h
   ·split at h
    ·simp at h;subst h;exact ⟨.new,fun _=>h'⟩
    ·simp at h
   ·simp at h
  ·simp at h
 ·rename_i t x lo hi ho
  refine pure ?_ (by unfold bM;rw [ho];exact h)
  split at h
  ·unfold cutAt at h
   split at h
   ·split at h
    ·split at h
     ·split at h
      ·split at h
       ·split at h
        ·exact okv _ h
        ·simp at h
       ·simp at h
      ·split at h
       ·split at h
        ·exact okv _ h
        ·simp at h
       ·simp at h
      ·split at h
       ·exact okv _ h
       ·simp at h
      ·exact okv _ h
      ·simp at h
     ·simp at h
    ·simp at h
   ·simp at h
  ·simp at h
 ·rename_i st x f ho
  refine pure ?_ (by unfold bM;rw [ho];exact h)
  split at h
  ·unfold gq at h
   split at h
   ·split at h
    ·split at h
     ·simp at h
     ·split at h
      ·exact okv _ h
      ·exact okv _ h
      ·exact okv _ h
      ·simp at h
    ·simp at h
   ·simp at h
  ·simp at h
 ·rename_i st x f ho
  refine pure ?_ (by unfold bM;rw [ho];exact h)
  split at h
  ·unfold fieldAt at h
   split at h
   ·split at h
    ·exact val _ h
    ·simp at h
   ·simp at h
  ·simp at h
 ·rename_i t x i ho
  refine pure ?_ (by unfold bM;rw [ho];exact h)
  split at h
  ·unfold gp at h
   split at h
   ·split at h
    ·split at h
     ·split at h
      ·exact okv _ h
      ·simp at h
     ·split at h
      ·split at h
       ·split at h
        ·exact okv _ h
        ·simp at h
       ·simp at h
      ·simp at h
     ·simp at h
    ·simp at h
   ·split at h
    ·split at h
     ·split at h
      ·exact okv _ h
      ·exact okv _ h
      ·exact okv _ h
      ·simp at h
     ·simp at h
    ·simp at h
   ·simp at h
  ·simp at h
 ·rename_i t x i ho
  refine pure ?_ (by unfold bM;rw [ho];exact h)
  split at h
  ·unfold indexAt at h
   split at h
   ·split at h
    ·split at h
     ·exact okv _ h
     ·simp at h
    ·simp at h
   ·split at h
    ·split at h
     ·exact val _ h
     ·simp at h
    ·simp at h
   ·simp at h
  ·simp at h
 ·rename_i x i ho
  refine pure ?_ (by unfold bM;rw [ho];exact h)
  split at h
  ·split at h
   ·exact okv _ h
   ·simp at h
  ·simp at h
 ·rename_i bi args ats ho
  split at h
  ·rename_i vs hvs
   obtain ⟨h1,h2⟩:=AB (rd':=rd') h
   exact ⟨h1,fun hs=>by unfold bM;rw [ho];simp only [hvs];exact h2 hs⟩
  ·simp at h
 ·simp at h
theorem NU {nid:Nat} {o:Oper} {e:Eff} (h:bM tab rd nid tm o=some e) (hq:jV o.op=true):e.upd=[]∧e.foot=[]:=by
 have val:∀ (x:Option PV),x.map (fun v=>(⟨v,[],[]⟩:Eff))=some e→e.upd=[]∧e.foot=[]:=fun x hx=>by
  simp only [Option.map_eq_some_iff] at hx;obtain ⟨v,_,rfl⟩:=hx;exact ⟨rfl,rfl⟩
 have okv:∀ p:PV,ok p=some e→e.upd=[]∧e.foot=[]:=fun p hp=>by have:=jB hp;subst this;exact ⟨rfl,rfl⟩
 unfold bM at h
 split at h <;> rename_i ho <;> (try rw [ho] at hq)
 ·exact val _ h
 ·exact val _ h
 ·split at h
  ·exact okv _ h
  ·simp at h
 ·simp [jV] at hq
 ·simp [jV] at hq
 ·split at h
  ·simp only [Option.map_eq_some_iff] at h;obtain ⟨v,_,rfl⟩:=h;exact ⟨rfl,rfl⟩
  ·split at h
   ·simp only [Option.map_eq_some_iff] at h;obtain ⟨v,_,rfl⟩:=h;exact ⟨rfl,rfl⟩
   ·simp at h
  ·simp at h
 ·simp [jV] at hq
 ·simp [jV] at hq
 ·simp [jV] at hq
 ·split at h
  ·exact okv _ h
  ·exact okv _ h
  ·exact okv _ h
  ·exact okv _ h
  ·simp at h
 ·split at h
  ·exact val _ h
  ·simp at h
 ·split at h
  ·exact val _ h
  ·simp at h
 ·split at h
  ·exact okv _ h
  ·simp at h
 ·split at h
  ·simp only [Option.map_eq_some_iff] at h;obtain ⟨v,_,rfl⟩:=h;exact ⟨rfl,rfl⟩
  ·simp at h
 ·simp [jV] at hq
 ·split at h
  ·unfold cutAt at h
   repeat' split at h
   all_goals first | exact okv _ h | simp at h
  ·simp at h
 ·split at h
  ·unfold gq at h
   repeat' split at h
   all_goals first | exact okv _ h | simp at h
  ·simp at h
 ·split at h
  ·unfold fieldAt at h
   split at h
   ·split at h
    ·exact val _ h
    ·simp at h
   ·simp at h
  ·simp at h
 ·split at h
  ·unfold gp at h
   repeat' split at h
   all_goals first | exact okv _ h | simp at h
  ·simp at h
 ·split at h
  ·unfold indexAt at h
   repeat' split at h
   all_goals first | exact okv _ h | exact val _ h | simp at h
  ·simp at h
 ·split at h
  ·split at h
   ·exact okv _ h
   ·simp at h
  ·simp at h
 ·split at h
  ·unfold de at h
   split at h
   ·split at h
    ·split at h
     ·simp at h
     ·simp only [Option.map_eq_some_iff] at h;obtain ⟨n,_,rfl⟩:=h;exact ⟨rfl,rfl⟩
    ·exact okv _ h
    ·exact okv _ h
    ·simp at h
   ·simp [jV] at hq
   ·simp [jV] at hq
   ·simp [jV] at hq
   ·simp only [Option.map_eq_some_iff] at h;obtain ⟨n,_,rfl⟩:=h;exact ⟨rfl,rfl⟩
   ·simp only [Option.map_eq_some_iff] at h;obtain ⟨n,_,rfl⟩:=h;exact ⟨rfl,rfl⟩
   ·simp at h
  ·simp at h
 ·simp at h
theorem J8 {nid:Nat} {o:Oper} {e:Eff} (h:bM tab rd nid tm o=some e) (hq:isLoad o.op=true):e.upd=[]:=by
 cases ho:o.op <;> rw [ho] at hq <;> simp [isLoad] at hq
 unfold bM at h
 rw [ho] at h
 simp only at h
 split at h
 ·exact (xX (rd':=rd) h).1
 ·simp at h
end
end Go.Pm
end
section
set_option linter.unusedVariables false
set_option linter.unusedSimpArgs false
namespace Go.Pm
open Go
section
variable {w:World} {rd rd':Rd} {tm tm':List PV} {tab:Nat→Option TI}
theorem jr:∀ (n:Nat) (q seen:List Nat),seen.Nodup→Same rd rd' (reach rd n q seen)→reach rd' n q seen=reach rd n q seen
 | 0,q,seen,_,h=>by simp [reach]
 | n+1,[],seen,_,h=>by simp [reach]
 | n+1,a::r,seen,hn,h=>by
  unfold reach at h ⊢
  by_cases hs:has seen a=true
  ·simp only [hs,↓reduceIte] at h ⊢
   exact jr n r seen hn h
  ·simp only [hs,Bool.false_eq_true,↓reduceIte] at h ⊢
   have hna:a ∉ seen:=fun hm=>hs (gF.2 hm)
   have hnd:(seen ++ [a]).Nodup:=by
    rw [List.nodup_append]
    refine ⟨hn,by simp,fun x hx y hy=>?_⟩
    simp at hy;subst hy
    rintro rfl;exact hna hx
   have hmem:∀ q,a∈reach rd n q (seen ++ [a]):=fun q=>by
    obtain ⟨_,t,ht⟩:=kS rd n q (seen ++ [a]) hnd
    rw [ht];simp
   cases hra:rd a with
   | none=>
    rw [hra] at h;simp only at h
    rw [h a (hmem _),hra]
    exact jr n r _ hnd h
   | some o=>
    rw [hra] at h
    cases o with
    | box cs=>
     simp only at h
     rw [h a (hmem _),hra]
     exact jr n _ _ hnd h
    | arr k xs fl fz=>
     simp only at h
     rw [h a (hmem _),hra]
     exact jr n _ _ hnd h
theorem yb:∀ {l:List Nat},Same rd rd' l→kids rd' l=kids rd l
 | [],_=>rfl
 | a::r,h=>by simp only [kids];rw [h.head,yb h.tail]
theorem wL:∀ {l:List Nat},Same rd rd' l→boxes rd' l=boxes rd l
 | [],_=>rfl
 | a::r,h=>by simp only [boxes];rw [h.head,wL h.tail]
theorem uX (g:Nat→Option Nat):∀ {l:List Nat} {i:Nat},Same rd rd' l→Pm.picks rd' g l i=Pm.picks rd g l i
 | [],i,_=>rfl
 | a::r,i,h=>by simp only [Pm.picks];rw [h.head];simp only [uX g h.tail]
theorem vp {roots:List Nat} {vals:List PV} (hn:roots.Nodup) (h:Same rd rd' (order rd roots vals)):order rd' roots vals=order rd roots vals:=by
 have hk:kids rd' roots=kids rd roots:=yb fun a ha=>by
  obtain ⟨i,hi,hia⟩:=List.mem_iff_getElem.1 ha
  exact h a (List.mem_of_getElem? ((qx rd vals hn).2 i a (by rw [← hia];exact List.getElem?_eq_getElem hi)))
 unfold order at h ⊢
 rw [hk]
 exact jr _ _ _ hn h
theorem xB (kn:Bool):∀ n:Nat,
  (∀ (p q:PV) (l:List Nat),snap rd kn n p=some (q,l)→Same rd rd' l→snap rd' kn n p=some (q,l))∧
  (∀ (ps qs:List PV) (l:List Nat),dV rd kn n ps=some (qs,l)→Same rd rd' l→dV rd' kn n ps=some (qs,l))
 | 0=>⟨fun p q l h _=>by simp [snap] at h,fun ps qs l h _=>by simp [dV] at h⟩
 | n+1=>by
  obtain ⟨ih1,ih2⟩:=xB kn n
  refine ⟨fun p q l h hs=>?_,fun ps qs l h hs=>?_⟩
  ·cases p with
   | own a k off len=>
    simp only [snap] at h ⊢
    split at h
    ·rename_i k' xs fl fz ha
     split at h <;> simp at h
     rename_i hc
     obtain ⟨rfl,rfl⟩:=h
     rw [hs.head,ha];simp [hc]
    ·simp at h
   | ptr a o=>
    simp only [snap] at h ⊢
    split at h
    ·rename_i cs ha
     split at h
     ·rename_i cs' l' hcs
      simp at h;obtain ⟨rfl,rfl⟩:=h
      rw [hs.head,ha];simp only [ih2 _ _ _ hcs hs.tail]
     ·simp at h
    ·simp at h
   | fn f iF=>
    simp only [snap] at h ⊢
    split at h
    ·rename_i cs l' hcs
     simp at h;obtain ⟨rfl,rfl⟩:=h
     simp only [ih2 _ _ _ hcs hs]
    ·simp at h
   | agg cs=>
    simp only [snap] at h ⊢
    split at h
    ·rename_i cs l' hcs
     simp at h;obtain ⟨rfl,rfl⟩:=h
     simp only [ih2 _ _ _ hcs hs]
    ·simp at h
   | _=>first | exact h | (simp only [snap] at h ⊢;exact h)
  ·cases ps with
   | nil=>simpa [dV] using h
   | cons p r=>
    simp only [dV] at h ⊢
    split at h
    ·rename_i q l1 hq
     split at h
     ·rename_i r' l2 hr
      simp at h;obtain ⟨rfl,rfl⟩:=h
      simp only [ih1 _ _ _ hq hs.left,ih2 _ _ _ hr hs.right]
     ·simp at h
    ·simp at h
theorem gO:∀ {l acc:List Nat},acc.Nodup→(dedup l acc).Nodup∧(∀ a,a∈dedup l acc↔a∈acc∨a∈l)∧∃ t,dedup l acc=acc ++ t
 | [],acc,h=>⟨h,by simp [dedup],[],by simp [dedup]⟩
 | a::r,acc,h=>by
  unfold dedup
  split
  ·rename_i hs
   obtain ⟨h1,h2,h3⟩:=gO (l:=r) h
   refine ⟨h1,fun b=>?_,h3⟩
   rw [h2 b]
   have:=gF.1 hs
   constructor
   ·rintro (hb | hb) <;> simp_all
   ·rintro (hb | hb)
    ·exact .inl hb
    ·rcases List.mem_cons.1 hb with rfl | hb
     ·exact .inl this
     ·exact .inr hb
  ·rename_i hs
   have hna:a ∉ acc:=fun hm=>hs (gF.2 hm)
   have hnd:(acc ++ [a]).Nodup:=by
    rw [List.nodup_append]
    refine ⟨h,by simp,fun x hx y hy=>?_⟩
    simp at hy;subst hy
    rintro rfl;exact hna hx
   obtain ⟨h1,h2,t,h3⟩:=gO (l:=r) hnd
   refine ⟨h1,fun b=>?_,a::t,by rw [h3];simp⟩
   rw [h2 b]
   simp only [List.mem_append,List.mem_cons,List.not_mem_nil,or_false]
   constructor
   ·rintro ((hb | hb) | hb)
    ·exact .inl hb
    ·exact .inr (.inl hb)
    ·exact .inr (.inr hb)
   ·rintro (hb | hb | hb)
    ·exact .inl (.inl hb)
    ·exact .inl (.inr hb)
    ·exact .inr hb
theorem s8 (l:List Nat):(dedup l []).Nodup:=(gO (by simp)).1
theorem iu {nid:Nat}:∀ {cs ps:List PV} {ks:List (Option Nat)} {j j':Nat} {u:Upd} {sh:Bool},imports nid cs ks j=some (ps,u,sh,j')→j≤j'∧∀ x∈u,nid+j≤x.1∧x.1<nid+j'
 | [],ps,ks,j,j',u,sh,h=>by simp [imports] at h;obtain ⟨rfl,rfl,rfl,rfl⟩:=h;simp
 | p::r,ps,ks,j,j',u,sh,h=>by
  rcases qK h with ⟨xs,flat,k,vs',u',sh',rfl,hk,hi,rfl,rfl,rfl⟩ | ⟨xs,fl,vs',sh',rfl,hu,hi,rfl,rfl⟩ | ⟨vs',hpl,hi,rfl⟩
  ·obtain ⟨h1,h2⟩:=iu hi
   refine ⟨by omega,fun x hx=>?_⟩
   rcases List.mem_cons.1 hx with rfl | hx
   ·simp;omega
   ·have:=h2 x hx;omega
  ·exact iu hi
  ·exact iu hi
theorem sQ {nid:Nat} {p q:PV} {ks ks':List (Option Nat)} {j j':Nat} {u:Upd} {sh:Bool} (h:cB nid p ks j=some (q,u,sh,j',ks')):j≤j'∧∀ x∈u,nid+j≤x.1∧x.1<nid+j':=by
 unfold cB at h
 split at h
 ·split at h
  ·rename_i hi;simp at h;obtain ⟨rfl,rfl,rfl,rfl,rfl⟩:=h;exact iu hi
  ·simp at h
 ·split at h
  ·rename_i hi;simp at h;obtain ⟨rfl,rfl,rfl,rfl,rfl⟩:=h;exact iu hi
  ·simp at h
theorem qL {nid:Nat}:∀ {cs ps:List PV} {ks:List (Option Nat)} {j j':Nat} {u:Upd} {sh:Bool},dG nid cs ks j=some (ps,u,sh,j')→j≤j'∧∀ x∈u,nid+j≤x.1∧x.1<nid+j'
 | [],ps,ks,j,j',u,sh,h=>by simp [dG] at h;obtain ⟨rfl,rfl,rfl,rfl⟩:=h;simp
 | p::r,ps,ks,j,j',u,sh,h=>by
  simp only [dG] at h
  split at h
  ·rename_i v' u1 sh1 j1 ks1 hi
   split at h
   ·rename_i vs' u2 sh2 j2 hi2
    simp at h;obtain ⟨rfl,rfl,rfl,rfl⟩:=h
    obtain ⟨a1,a2⟩:=sQ hi
    obtain ⟨b1,b2⟩:=qL hi2
    refine ⟨by omega,fun x hx=>?_⟩
    rcases List.mem_append.1 hx with hx | hx
    ·have:=a2 x hx;omega
    ·have:=b2 x hx;omega
   ·simp at h
  ·simp at h
theorem BW {nid:Nat} {p q:PV} {ks:List (Option Nat)} {j:Nat} {u:Upd} {sh:Bool} (h:dk nid p ks=some (q,u,sh,j)):∀ x∈u,nid≤x.1∧x.1<nid+j:=by
 unfold dk at h
 split at h
 ·split at h
  ·rename_i hi;simp at h;obtain ⟨rfl,rfl,rfl,rfl⟩:=h;simpa using (qL hi).2
  ·simp at h
 ·split at h
  ·rename_i hi;simp at h;obtain ⟨rfl,rfl,rfl,rfl⟩:=h;simpa using (sQ hi).2
  ·simp at h
def CE (C:Callee):Prop:=∀ f r args h next v h' nx,C.refC f r args h next=some (v,h',nx)→(∀ x∈h',x.1<nx)∧(h'.map (·.1)).Nodup
theorem jR {b:Nat→Option Nat}:∀ {h:List (Nat × bq)} {x:Nat × Option bq},x∈gQ b h→∃ y∈h,b y.1=some x.1∧x.2=some (e9 b y.2)
 | [],x,hx=>by simp [gQ] at hx
 | (j,o)::r,x,hx=>by
  unfold gQ at hx
  split at hx
  ·rename_i a ha
   rcases List.mem_cons.1 hx with rfl | hx
   ·exact ⟨(j,o),by simp,ha,rfl⟩
   ·obtain ⟨y,hy,q⟩:=jR hx;exact ⟨y,by simp [hy],q⟩
  ·obtain ⟨y,hy,q⟩:=jR hx;exact ⟨y,by simp [hy],q⟩
theorem IT:∀ {l:List Nat} {x:Nat × Option bq},x∈kL l→x.1∈l∧x.2=none
 | [],x,h=>by simp [kL] at h
 | a::r,x,h=>by
  rcases List.mem_cons.1 h with rfl | h
  ·exact ⟨by simp,rfl⟩
  ·have:=IT h;exact ⟨by simp [this.1],this.2⟩
theorem Lw {E:Env} {C:Callee} (hC:CE C) {nid f:Nat} {args:List PV} {e:Eff} (h:eO E C rd nid f args=some e) :
  UpdOK rd nid e∧(Same rd rd' e.foot→eO E C rd' nid f args=some e):=by
 unfold eO at h ⊢
 by_cases hf:E.isRef f=true
 ·simp only [hf,↓reduceIte] at h ⊢
  have hd:=s8 (dz args)
  generalize hd0:dedup (dz args) []=d at *
  have pF:=gO (l:=boxes rd (order rd d [])) hd
  generalize hr0:dedup (boxes rd (order rd d [])) d=roots at *
  have hL:=qx rd [] pF.1
  split at h
  ·rename_i v h' nx hc
   split at h
   ·rename_i hcond
    simp at h;subst h
    simp only [Bool.and_eq_true,decide_eq_true_eq,List.all_eq_true] at hcond
    refine ⟨fun x hx=>?_,fun hs=>?_⟩
    ·rcases List.mem_append.1 hx with hx | hx
     ·obtain ⟨h1,h2⟩:=IT hx
      exact .inr ⟨List.mem_append_right _ h1,fun _=>h2⟩
     ·obtain ⟨y,hy,hb,ho⟩:=jR hx
      have hlt:=(hC _ _ _ _ _ _ _ _ hc).1 y hy
      unfold mP at hb
      split at hb
      ·rename_i hj
       have hm:=List.mem_of_getElem? hb
       have hob:=hcond.2 _ hm
       refine .inr ⟨List.mem_append_right _ (List.mem_of_getElem? (hL.2 _ _ hb)),fun hn=>?_⟩
       simp [isObj,hn] at hob
      ·simp at hb
       exact .inl (by omega)
    ·have hs1:=hs.left
     have hs2:=hs.right
     have e1:order rd' d []=order rd d []:=vp hd hs1
     have e2:boxes rd' (order rd d [])=boxes rd (order rd d []):=wL hs1
     rw [e1,e2,hr0]
     have e3:order rd' roots []=order rd roots []:=vp pF.1 hs2
     rw [e3,uX _ hs2]
     simp only [hc]
     have e4:roots.all (isObj rd')=true:=by
      rw [List.all_eq_true]
      intro a ha
      have hm:a∈order rd roots []:=by
       obtain ⟨i,hi,hia⟩:=List.mem_iff_getElem.1 ha
       exact List.mem_of_getElem? (hL.2 i a (by rw [← hia];exact List.getElem?_eq_getElem hi))
      have:=hcond.2 a ha
      unfold isObj at this ⊢
      rw [hs2 a hm];exact this
     simp [e4,hcond.1]
   ·simp at h
  ·simp at h
 ·simp only [hf,Bool.false_eq_true,↓reduceIte] at h ⊢
  split at h
  ·rename_i a5 foot hsn
   split at h
   ·rename_i r hr
    split at h
    ·rename_i v u sh j hi
     split at h
     ·rename_i hcond
      simp at h;subst h
      simp only [Bool.and_eq_true,decide_eq_true_eq] at hcond
      refine ⟨fun x hx=>?_,fun hs=>?_⟩
      ·rcases List.mem_append.1 hx with hx | hx
       ·cases sh with
        | false=>simp at hx
        | true=>
         simp at hx
         have:=fW hx
         exact .inr ⟨by simpa using ((gO (l:=foot) (acc:=[]) (by simp)).2.1 x.1).1 this.1,fun hn=>by obtain ⟨⟨o,ho⟩,_⟩:=this.2;rw [hn] at ho;simp at ho⟩
       ·have:=BW hi x hx
        exact .inl (by omega)
      ·have hs':Same rd rd' foot:=hs
       rw [(xB (E.keepNil f) jk).2 _ _ _ hsn hs']
       simp only [hr,hi]
       have e1:foot.all (pd rd')=foot.all (pd rd):=by
        rw [Bool.eq_iff_iff,List.all_eq_true,List.all_eq_true]
        constructor <;> intro h a ha <;> have:=h a ha <;> unfold pd at this ⊢
        ·rw [← hs' a ha];exact this
        ·rw [hs' a ha];exact this
       have e2:freezes rd' (dedup foot [])=freezes rd (dedup foot []):=iQ fun a ha=>hs' a (by simpa using ((gO (l:=foot) (acc:=[]) (by simp)).2.1 a).1 ha)
       rw [e1,e2]
       simp [hcond.1,hcond.2]
     ·simp at h
    ·simp at h
   ·simp at h
  ·simp at h
theorem SV {E:Env} {C:Callee} (hC:CE C) {nid:Nat} {o:Oper} {e:Eff} (h:dK E C rd nid tm o=some e) :
  UpdOK rd nid e∧(Same rd rd' e.foot→(∀ x∈o.op.operands,jT tm tm' x)→dK E C rd' nid tm' o=some e):=by
 unfold dK at h ⊢
 split at h
 ·rename_i f args ats ho
  split at h
  ·rename_i g iF vs hf ha
   obtain ⟨h1,h2⟩:=Lw (rd':=rd') hC h
   refine ⟨h1,fun hs ht=>?_⟩
   rw [ho] at ht
   have e1:cj tm' f=cj tm f:=bQ (ht f (by simp [Op.operands,Call.operands]))
   have e2:gB tm' args.toList=gB tm args.toList:=lK fun y hy=>ht y (by simp [Op.operands,Call.operands];exact .inr (by simpa using hy))
   rw [e1,e2,hf,ha]
   exact h2 hs
  ·simp at h
 ·rename_i hne
  obtain ⟨h1,h2⟩:=FO (rd':=rd') h
  refine ⟨h1,fun hs ht=>?_⟩
  have h3:=h2 hs
  rw [← Q0 (tm':=tm') ht] at h3
  exact h3
end
end Go.Pm
end
section
set_option linter.unusedVariables false
set_option linter.unusedSimpArgs false
namespace Go.Pm
open Go
section
variable {P:Program} {w w':World} {B B':Nat→Prop} {β β':Map} {rd rd':Rd} {tm:List PV} {a:Act}
structure Did (w:World) (B:Nat→Prop) (β:Map) (rd:Rd) (nid:Nat) (e:Eff) (w':World) (B':Nat→Prop) (β':Map) (v:Value):Prop where
 step:Step w B β rd w' B' β' (rdU rd e.upd)
 val:V w' B' β' e.val v
 frame:∀ b,rd b=none→(b<nid∨nid+64≤b)→β' b=β b
def wO (β:Map) (rd:Rd) (nid:Nat):Prop:=∀ b,nid≤b→b<nid+64→β b=none∧rd b=none
def Callable (P:Program) (f:Nat):Prop:=∃ fn,P.funcs[f]?=some fn∧(fn.name == "runtime.NumGoroutine")=false∧fn.body.isNone=false
structure afu (P:Program) (resK:Nat→List (Option Nat)) (C:Callee):Prop where
 callable:∀ f a5 r,C.pureC f a5=some r→Callable P f
 calls:∀ f a5 r,C.pureC f a5=some r→∀ (w:World) (B:Nat→Prop) (vs:Array Value),(∀ b,B b→b<w.heap.size)→Vs w B (fun _=>none) a5 vs.toList→
  Calls P f vs w (fun en w'=>∃ v,en=.returned v∧Ext (fun _=>False) w w'∧∃ Bc bs,(∀ b,B b→Bc b)∧(∀ b,Bc b→B b∨w.heap.size≤b)∧(∀ b,Bc b→b<w'.heap.size)∧(∀ b∈bs,¬ Bc b)∧RR w' Bc w.heap.size r (resK f) v bs)
structure asX (P:Program) (C:Callee):Prop where
 callable:∀ f r args h next v h' nx,C.refC f r args h next=some (v,h',nx)→Callable P f
 calls:∀ f r args h next v h' nx,C.refC f r args h next=some (v,h',nx)→∀ (w:World) (B:Nat→Prop) (β:Map) (vs:Array Value),Sim w B β (look h)→Vs w B β args vs.toList→
  (∀ b,next≤b→β b=none∧look h b=none)→r≤next→
  Calls P f vs w (fun en w'=>∃ u B' β',en=.returned u∧StepR r w B β (look h) w' B' β' (look h')∧V w' B' β' v u∧∀ b,nx≤b→β' b=none∧look h' b=none)
structure eZ (P:Program) (resK:Nat→List (Option Nat)) (C:Callee):Prop where
 pur:afu P resK C
 ref:asX P C
 ids:CE C
theorem DN {a:Nat} (h:pd rd a=true):∃ k xs fl z,rd a=some (.arr k xs fl z):=by
 unfold pd at h
 split at h
 ·rename_i k xs fl z ha;exact ⟨k,xs,fl,z,ha⟩
 ·simp at h
theorem uU:∀ {u:Upd} {rd:Rd} {a:Nat},a ∉ u.map (·.1)→rdU rd u a=rd a
 | [],rd,a,_=>rfl
 | (b,o)::u,rd,a,h=>by
  simp only [List.map_cons,List.mem_cons,not_or] at h
  simp only [rdU]
  rw [uU h.2]
  simp [cd,h.1]
theorem B6 {l:List Nat} {a:Nat}:(rdU rd (freezes rd l) a=none)↔rd a=none:=by
 by_cases h:a∈(freezes rd l).map (·.1)
 ·have h1:∃ o,rd a=some o:=by
   simp only [List.mem_map] at h
   obtain ⟨x,hx,rfl⟩:=h
   exact (fW hx).2.1
  obtain ⟨o,ho⟩:=h1
  refine ⟨fun hn=>?_,fun hn=>by rw [hn] at ho;simp at ho⟩
  have:∀ {u:Upd} {rd:Rd},Ri u→(∃ o,rd a=some o)→∃ o,rdU rd u a=some o:=by
   intro u
   induction u with
   | nil=>intro rd _ h;exact h
   | cons x u ih=>
    intro rd hu hr
    obtain ⟨b,q⟩:=x
    obtain ⟨o',ho'⟩:=hu _ List.mem_cons_self
    simp at ho';subst ho'
    simp only [rdU]
    refine ih (fun x hx=>hu x (List.mem_cons_of_mem _ hx)) ?_
    unfold cd
    split
    ·exact ⟨_,rfl⟩
    ·exact hr
  obtain ⟨o',ho'⟩:=this (u:=freezes rd l) (rd:=rd) (fun x hx=>(fW hx).2.2) ⟨o,ho⟩
  rw [hn] at ho';simp at ho'
 ·rw [uU h]
theorem pure_ok {E:Env} {C:Callee} (hC:eZ P E.resK C) (hs:Sim w B β rd) {nid f:Nat} {args:List PV} {vs:Array Value} (hv:Vs w B β args vs.toList) (hn:wO β rd nid)
  (hf:E.isRef f=false) {e:Eff} (h:eO E C rd nid f args=some e) :
  Callable P f∧Calls P f vs w (fun en w'=>∃ v B' β',en=.returned v∧Did w B β rd nid e w' B' β' v):=by
 unfold eO at h
 simp only [hf,Bool.false_eq_true,↓reduceIte] at h
 split at h
 ·rename_i a5 foot hsn
  split at h
  ·rename_i r hr
   split at h
   ·rename_i q u sh j hi
    split at h
    ·rename_i hcond
     simp at h;subst h
     simp only [Bool.and_eq_true,decide_eq_true_eq,Bool.or_eq_true,Bool.not_eq_true',List.all_eq_true] at hcond
     obtain ⟨hj,ang⟩:=hcond
     obtain ⟨s1,s2⟩:=(F1 hs (E.keepNil f) jk).2 args a5 foot vs.toList hsn hv
     refine ⟨hC.pur.callable f a5 r hr,?_⟩
     let B2:Nat→Prop:=fun b=>B b∨∃ a∈foot,∃ m,β a=some m∧m.block=b
     have hB2:∀ b,B2 b→b<w.heap.size:=by
      rintro b (hb | ⟨a,ha,m,hm,rfl⟩)
      ·exact hs.lt b hb
      ·obtain ⟨o,ho⟩:=s1 a ha
       exact hs.block_lt ho hm
     refine Calls.mono (hC.pur.calls f a5 r hr w B2 vs hB2 (s2 B2 (fun b hb=>.inl hb) fun a ha m hm=>.inr ⟨a,ha,m,hm,rfl⟩)) ?_
     rintro en w' ⟨v,rfl,ext,Bc,bs,b1,b2,b3,b4,hrr⟩
     obtain ⟨B1,st1,hsh1⟩:∃ B1,Step w B β rd w B1 β (rdU rd (if sh then freezes rd (dedup foot []) else []))∧(sh=true→∀ b,B2 b→B1 b):=by
      cases sh with
      | false=>exact ⟨B,.refl hs,fun h=>by cases h⟩
      | true=>
       simp at ang
       obtain ⟨B1,st,hB1⟩:=lU (dedup foot []) hs fun b hb=>DN (ang b (by simpa using ((gO (l:=foot) (acc:=[]) (by simp)).2.1 b).1 hb))
       refine ⟨B1,by simpa using st,fun _ b hb=>?_⟩
       rcases hb with hb | ⟨a,ha,m,hm,rfl⟩
       ·exact st.bsub b hb
       ·exact hB1 a (by simpa using ((gO (l:=foot) (acc:=[]) (by simp)).2.1 a).2 (.inr ha)) m hm
     generalize Kg:rdU rd (if sh then freezes rd (dedup foot []) else [])=rd1 at st1
     let B':Nat→Prop:=fun b=>B1 b∨(sh=true∧Bc b)
     have hrow:∀ b∈bs,w.heap.size≤b:=by
      have hRC:∀ {p key v bs},RC w' Bc w.heap.size p key v bs→∀ b∈bs,w.heap.size≤b:=fun h b hb=>by
       cases h <;> simp at hb
       subst hb;assumption
      have hRCs:∀ {ps ks vs bs},RCs w' Bc w.heap.size ps ks vs bs→∀ b∈bs,w.heap.size≤b:=fun h=>by
       induction h with
       | nil=>simp
       | cons p r ks v vs bs bs' h hr hd ih=>intro b hb;exact (List.mem_append.1 hb).elim (hRC h b) (ih b)
      have hRV:∀ {p ks v ks' bs},RV w' Bc w.heap.size p ks v ks' bs→∀ b∈bs,w.heap.size≤b:=fun h=>by
       cases h with
       | agg cs ks vs bs h ho=>exact hRCs h
       | one p ks v bs hp h=>exact hRC h
      have hRVs:∀ {ps ks vs bs},RVs w' Bc w.heap.size ps ks vs bs→∀ b∈bs,w.heap.size≤b:=fun h=>by
       induction h with
       | nil=>simp
       | cons p r ks ks' v vs bs bs' h hr hd ih=>intro b hb;exact (List.mem_append.1 hb).elim (hRV h b) (ih b)
      cases hrr with
      | tup cs ks vs bs h=>exact hRVs h
      | one p ks ks' v bs hp h=>exact hRV h
     have Pq:∀ b,B1 b→b<w.heap.size:=st1.sim.lt
     have Zh:∀ b,B' b→b<w'.heap.size:=by
      rintro b (hb | ⟨_,hb⟩)
      ·exact Nat.lt_of_lt_of_le (Pq b hb) ext.size
      ·exact b3 b hb
     have Pr:∀ b,B' b→B1 b∨w.heap.size≤b:=by
      rintro b (hb | ⟨h1,hb⟩)
      ·exact .inl hb
      ·rcases b2 b hb with h2 | h2
       ·exact .inl (hsh1 h1 b h2)
       ·exact .inr h2
     have imp:=DS hrr hi B' (fun h1 b hb=>.inr ⟨h1,hb⟩) (fun b hb=>by
      rintro (h1 | ⟨_,h1⟩)
      ·have:=Pq b h1;have:=hrow b hb;omega
      ·exact b4 b hb h1) Zh
     obtain ⟨⟨β1,isle,hval⟩,Pp,adC,adI⟩:=imp
     simp only [Nat.add_zero] at isle adC
     have hin:∀ b,In β rd1 b→b<w.heap.size:=by
      rintro b ⟨a,o,l,h1,h2,rfl⟩;exact st1.sim.block_lt h1 h2
     have abk:Sim w' B' β rd1:=st1.sim.grow (fun b hb=>.inl hb) (fun b hb=>ext.block b (hb.elim (Pq b) (hin b)) (fun h=>h)) ext.room Zh (fun b hb=>by
      rcases Pr b hb with h1 | h1
      ·exact .inl h1
      ·exact .inr fun h2=>by have:=hin b h2;omega)
     have hdom:∀ a,rd1 a=none↔rd a=none:=fun a=>by
      rw [← Kg]
      cases sh with
      | false=>simp [rdU]
      | true=>simpa using B6
     let βn:Map:=fb β β1
     have hβ0:∀ b l,β1 b=some l→β b=none∧rd1 b=none:=fun b l hl=>by
      have:=isle.dom b l hl
      have hf:=hn b this.1 (by omega)
      exact ⟨hf.1,(hdom b).2 hf.2⟩
     have m1:∀ b l,β b=some l→βn b=some l:=fun b l hl=>by simp [βn,fb,hl]
     have m2:∀ b l,β1 b=some l→βn b=some l:=fun b l hl=>by simp [βn,fb,(hβ0 b l hl).1,hl]
     have hrd:rdU rd ((if sh then freezes rd (dedup foot []) else []) ++ u)=gV (rdU (fun _=>none) u) rd1:=by
      funext b
      rw [js,Kg]
      exact ny Pp (fun x hx=>(hdom _).2 (hn x.1 (adC x hx).1 (by have:=(adC x hx).2;omega)).2) adI b
     have abj:Sim w' B' βn (gV (rdU (fun _=>none) u) rd1):=by
      refine Sim.union (abk.mT m1 fun b o hb=>?_) (isle.sim.mT m2 fun b o hb=>?_) (fun b o hb=>?_) (fun b c o p l m hb hc hl hm=>?_)
      ·show βn b=β b
       unfold βn fb
       cases hx:β b with
       | some l=>rfl
       | none=>
        cases hy:β1 b with
        | none=>rfl
        | some l=>have:=(hβ0 b l hy).2;rw [hb] at this;simp at this
      ·show βn b=β1 b
       have:=isle.ids b o hb
       have hf:=hn b this.1 (by omega)
       simp [βn,fb,hf.1]
      ·unfold gV at hb
       split at hb
       ·rename_i q hq;simp at hb;subst hb;exact .inr hq
       ·exact .inl hb
      ·have h1:l.block<w.heap.size:=by
        have hb':β b=some l:=by
         cases hx:β b with
         | some l'=>have:=m1 b l' hx;rw [hl] at this;simp at this;rw [this]
         | none=>
          have hl':β1 b=some l:=by simpa [βn,fb,hx] using hl
          have:=(hβ0 b l hl').2;rw [hb] at this;simp at this
        exact hin _ ⟨b,o,l,hb,hb',rfl⟩
       have h2:w.heap.size≤m.block:=by
        have:=isle.ids c p hc
        have hf:=hn c this.1 (by omega)
        have hc':β1 c=some m:=by simpa [βn,fb,hf.1] using hm
        exact hrow _ (isle.dom c m hc').2.2
       omega
     refine ⟨v,B',βn,rfl,⟨?_,hval.mT m2,fun b hb hr=>?_⟩⟩
     ·refine ⟨by rw [hrd];exact abj,ext.mono (fun b hb=>hb.elim),fun b hb=>.inl (st1.bsub b hb),fun b hb=>?_,fun b hb=>?_,fun b hb=>?_,m1⟩
      ·rcases Pr b hb with h1 | h1
       ·exact st1.bnew b h1
       ·exact .inr (.inr h1)
      ·rw [hrd] at hb
       obtain ⟨c,o,l,h1,h2,h3,h4⟩:=hb
       unfold gV at h1
       split at h1
       ·rename_i q hq
        simp at h1;subst h1
        have:=isle.ids c q hq
        have hf:=hn c this.1 (by omega)
        have hc':β1 c=some l:=by simpa [βn,fb,hf.1] using h3
        exact .inr (h4▸hrow _ (isle.dom c l hc').2.2)
       ·have hc':β c=some l:=by
         cases hx:β c with
         | some l'=>have:=m1 c l' hx;rw [h3] at this;simp at this;rw [this]
         | none=>
          have hl':β1 c=some l:=by simpa [βn,fb,hx] using h3
          have:=(hβ0 c l hl').2;rw [h1] at this;simp at this
        rcases st1.muts b ⟨c,o,l,h1,h2,hc',h4⟩ with h5 | h5
        ·exact .inl h5
        ·exact .inr h5
      ·rw [hrd] at hb
       obtain ⟨c,o,l,h1,h3,h4⟩:=hb
       unfold gV at h1
       split at h1
       ·rename_i q hq
        simp at h1;subst h1
        have:=isle.ids c q hq
        have hf:=hn c this.1 (by omega)
        have hc':β1 c=some l:=by simpa [βn,fb,hf.1] using h3
        exact .inr (h4▸hrow _ (isle.dom c l hc').2.2)
       ·have hc':β c=some l:=by
         cases hx:β c with
         | some l'=>have:=m1 c l' hx;rw [h3] at this;simp at this;rw [this]
         | none=>
          have hl':β1 c=some l:=by simpa [βn,fb,hx] using h3
          have:=(hβ0 c l hl').2;rw [h1] at this;simp at this
        rcases st1.ins b ⟨c,o,l,h1,hc',h4⟩ with h5 | h5
        ·exact .inl h5
        ·exact .inr h5
     ·show βn b=β b
      unfold βn fb
      cases hx:β b with
      | some l=>rfl
      | none=>
       cases hy:β1 b with
       | none=>rfl
       | some l=>have:=isle.dom b l hy;omega
    ·simp at h
   ·simp at h
  ·simp at h
 ·simp at h
theorem G1:∀ {h:List (Nat × bq)} {j:Nat} {o:bq},(h.map (·.1)).Nodup→(j,o)∈h→look h j=some o
 | [],j,o,_,h=>by simp at h
 | (b,p)::r,j,o,hn,h=>by
  have hn':b ∉ r.map (·.1)∧(r.map (·.1)).Nodup:=List.nodup_cons.1 hn
  unfold look
  rcases List.mem_cons.1 h with h1 | h1
  ·simp at h1;obtain ⟨rfl,rfl⟩:=h1;simp
  ·have:(j == b)=false:=by
    simp only [beq_eq_false_iff_ne]
    rintro rfl;exact hn'.1 (List.mem_map_of_mem (f:=fun x:Nat × bq=>x.1) h1)
   rw [this];exact G1 hn'.2 h1
theorem te {b:Nat→Option Nat}:∀ {h:List (Nat × bq)},(∀ x∈h,∀ y∈h,∀ c,b x.1=some c→b y.1=some c→x.1=y.1)→(h.map (·.1)).Nodup→((gQ b h).map (·.1)).Nodup
 | [],_,_=>by simp [gQ]
 | (j,o)::r,hb,hn=>by
  have hn':j ∉ r.map (·.1)∧(r.map (·.1)).Nodup:=List.nodup_cons.1 hn
  have ih:=te (b:=b) (h:=r) (fun x hx y hy=>hb x (List.mem_cons_of_mem _ hx) y (List.mem_cons_of_mem _ hy)) hn'.2
  unfold gQ
  split
  ·rename_i a ha
   simp only [List.map_cons,List.nodup_cons]
   refine ⟨fun hm=>?_,ih⟩
   simp only [List.mem_map] at hm
   obtain ⟨x,hx,hxa⟩:=hm
   obtain ⟨y,hy,hby,_⟩:=jR hx
   have:=hb (j,o) (by simp) y (List.mem_cons_of_mem _ hy) a ha (by rw [hby,hxa])
   simp at this
   exact hn'.1 (this▸List.mem_map_of_mem hy)
  ·exact ih
theorem GP:∀ {u:Upd} {rd:Rd} {a:Nat} {o:bq},rdU rd u a=some o→(a,some o)∈u∨rd a=some o
 | [],rd,a,o,h=>.inr h
 | (b,q)::u,rd,a,o,h=>by
  simp only [rdU] at h
  rcases GP h with h1 | h1
  ·exact .inl (List.mem_cons_of_mem _ h1)
  ·unfold cd at h1
   split at h1
   ·rename_i hab;subst hab;subst h1;exact .inl (by simp)
   ·exact .inr h1
theorem uV:∀ {l:List Nat} {rd:Rd} {a:Nat},rdU rd (kL l) a=if a∈l then none else rd a
 | [],rd,a=>by simp [kL,rdU]
 | b::r,rd,a=>by
  simp only [kL,rdU]
  rw [uV]
  by_cases h:a∈r
  ·simp [h]
  ·by_cases hab:a=b
   ·subst hab;simp [cd]
   ·simp [h,hab,cd]
theorem abH {E:Env} {C:Callee} (hC:eZ P E.resK C) (hs:Sim w B β rd) {nid f:Nat} {args:List PV} {vs:Array Value} (hv:Vs w B β args vs.toList) (hn:wO β rd nid)
  (hf:E.isRef f=true) {e:Eff} (h:eO E C rd nid f args=some e) :
  Callable P f∧Calls P f vs w (fun en w'=>∃ v B' β',en=.returned v∧Did w B β rd nid e w' B' β' v):=by
 unfold eO at h
 simp only [hf,↓reduceIte] at h
 have hd:=s8 (dz args)
 generalize dedup (dz args) []=d at *
 have pF:=(gO (l:=boxes rd (order rd d [])) hd).1
 generalize dedup (boxes rd (order rd d [])) d=roots at *
 obtain ⟨hLn,hLp⟩:=qx rd [] pF
 generalize order rd roots []=L at *
 generalize order rd d []=L0 at *
 split at h
 ·rename_i v h' nx hc
  split at h
  ·rename_i hcond
   simp at h;subst h
   simp only [Bool.and_eq_true,decide_eq_true_eq,List.all_eq_true] at hcond
   obtain ⟨hnx,T0⟩:=hcond
   have hrd:∀ a∈roots,∃ o,rd a=some o:=fun a ha=>by
    have:=T0 a ha
    unfold isObj at this
    split at this
    ·rename_i o ho;exact ⟨o,ho⟩
    ·simp at this
   refine ⟨hC.ref.callable _ _ _ _ _ _ _ _ hc,?_⟩
   have hsc:=hs.picks hLn
   have Kj:=hC.ids _ _ _ _ _ _ _ _ hc
   have hle:roots.length≤L.length:=by
    rcases Nat.lt_or_ge L.length roots.length with h1 | h1
    ·have:=hLp L.length roots[L.length] (List.getElem?_eq_getElem h1)
     simp at this
    ·exact h1
   refine Calls.mono (hC.ref.calls _ _ _ _ _ _ _ _ hc w B (oQ L β) vs hsc (hv.ren (tC L β)) (fun b hb=>uY rd _ L β b hb) hle) ?_
   rintro en w' ⟨u,B',β',rfl,st,hval,hfree⟩
   let βn:Map:=fun a=>if nid≤a∧a<nid+64 then β' (roots.length+(a - nid)) else match pos roots a 0 with | some i=>β' i | none=>β a
   have BZ:∀ b,Mut (oQ L β) (look (Pm.picks rd (fun a=>pos L a 0) L 0)) b→∃ x∈L,∃ o l,rd x=some o∧(∀ k xs fl,o≠.arr k xs fl true)∧β x=some l∧l.block=b:=by
    rintro b ⟨j,o',l,h1,h2,h3,h4⟩
    obtain ⟨x,o,hx,hp,rfl,hβ⟩:=nA hLn rd β j o' h1
    have:=(nz hp).2
    exact ⟨x,List.mem_of_getElem? this,o,l,hx,fun k xs fl he=>h2 k xs fl (by rw [he];rfl),hβ.symm.trans h3,h4⟩
   have anq:∀ b,In (oQ L β) (look (Pm.picks rd (fun a=>pos L a 0) L 0)) b→∃ x∈L,∃ o l,rd x=some o∧β x=some l∧l.block=b:=by
    rintro b ⟨j,o',l,h1,h3,h4⟩
    obtain ⟨x,o,hx,hp,rfl,hβ⟩:=nA hLn rd β j o' h1
    have:=(nz hp).2
    exact ⟨x,List.mem_of_getElem? this,o,l,hx,hβ.symm.trans h3,h4⟩
   have BY:∀ a o,rd a=some o→¬ (nid≤a∧a<nid+64):=fun a o ho ⟨h1,h2⟩=>by
    have:=(hn a h1 h2).2;rw [ho] at this;simp at this
   have hroot:∀ i a,roots[i]?=some a→βn a=β' i:=fun i a hi=>by
    obtain ⟨o,ho⟩:=hrd a (List.mem_of_getElem? hi)
    have h1:=BY a o ho
    have h2:=uW pF hi (i:=0)
    simp only [Nat.zero_add] at h2
    simp only [βn,h1,↓reduceIte,h2]
   have hout:∀ a,a ∉ roots→¬ (nid≤a∧a<nid+64)→βn a=β a:=fun a ha h1=>by
    have h2:pos roots a 0=none:=by
     cases hp:pos roots a 0 with
     | none=>rfl
     | some i=>have:=(nz hp).2;exact absurd (List.mem_of_getElem? this) ha
    simp only [βn,h1,↓reduceIte,h2]
   have m1:∀ a l,β a=some l→βn a=some l:=fun a l hl=>by
    have h1:¬ (nid≤a∧a<nid+64):=fun ⟨q1,q2⟩=>by have:=(hn a q1 q2).1;rw [hl] at this;simp at this
    by_cases ha:a∈roots
    ·obtain ⟨i,hi,hia⟩:=List.mem_iff_getElem.1 ha
     have hi':roots[i]?=some a:=by rw [← hia];exact List.getElem?_eq_getElem hi
     rw [hroot i a hi']
     exact st.map i l hi (by simp [oQ,hLp i a hi',hl])
    ·rw [hout a ha h1];exact hl
   let rd0:Rd:=rdU rd (kL L)
   have DY:∀ a o,rd0 a=some o→a ∉ L∧rd a=some o:=fun a o h=>by
    simp only [rd0,uV] at h
    split at h
    ·simp at h
    ·rename_i hL;exact ⟨hL,h⟩
   have DX:∀ a∈roots,a∈L:=fun a ha=>by
    obtain ⟨i,hi,hia⟩:=List.mem_iff_getElem.1 ha
    exact List.mem_of_getElem? (hLp i a (by rw [← hia];exact List.getElem?_eq_getElem hi))
   have hapart:∀ x∈L,∀ o l,rd x=some o→β x=some l→¬ In β rd0 l.block:=by
    rintro x hx o l h1 h2 ⟨y,p,m,g1,g2,g3⟩
    obtain ⟨q1,q2⟩:=DY y p g1
    exact hs.inj x y o p l m h1 q2 (fun he=>q1 (he▸hx)) h2 g2 g3.symm
   have sim0:Sim w' B' βn rd0:=by
    have s0:Sim w B β rd0:=hs.less fun a o h=>(DY a o h).2
    refine (s0.grow st.bsub (fun b hb=>?_) st.ext.room st.sim.lt (fun b hb=>?_)).mT m1 fun a o ha=>?_
    ·have hlt:b<w.heap.size:=by
      rcases hb with hb | ⟨a,o,l,h1,h2,rfl⟩
      ·exact hs.lt b hb
      ·exact s0.block_lt h1 h2
     refine st.ext.block b hlt fun hm=>?_
     obtain ⟨x,hx,o,l,h1,h2,h3,rfl⟩:=BZ b hm
     rcases hb with hb | hb
     ·exact hs.excl x o l h1 h2 h3 hb
     ·exact hapart x hx o l h1 h3 hb
    ·rcases st.bnew b hb with h1 | h1 | h1
     ·exact .inl h1
     ·obtain ⟨x,hx,o,l,k1,k2,k3,k4⟩:=BZ b h1
      exact .inr (k4▸hapart x hx o l k1 k3)
     ·refine .inr ?_
      rintro ⟨a,o,l,g1,g2,rfl⟩
      have:=s0.block_lt g1 g2;omega
    ·obtain ⟨q1,q2⟩:=DY a o ha
     exact hout a (fun h=>q1 (DX a h)) (BY a o q2)
   let b:=mP roots nid
   have T4:∀ j x,b j=some x→j<nx→(∃ i,j=i∧roots[i]?=some x)∨(roots.length≤j∧x=nid+(j - roots.length)∧x<nid+64):=fun j x hj hlt=>by
    simp only [b,mP] at hj
    split at hj
    ·exact .inl ⟨j,rfl,hj⟩
    ·simp at hj;exact .inr ⟨by omega,hj.symm,by omega⟩
   have hβb:∀ j x,b j=some x→j<nx→βn x=β' j:=fun j x hj hlt=>by
    rcases T4 j x hj hlt with ⟨i,rfl,hi⟩ | ⟨h1,h2,h3⟩
    ·exact hroot j x hi
    ·have h4:nid≤x∧x<nid+64:=by omega
     simp only [βn,h4,and_self,↓reduceIte]
     congr 1;omega
   have hinj:∀ x∈h',∀ y∈h',∀ c,b x.1=some c→b y.1=some c→x.1=y.1:=fun x hx y hy c hxc hyc=>by
    rcases T4 x.1 c hxc (Kj.1 x hx) with ⟨i,hi,hi2⟩ | ⟨h1,h2,h3⟩ <;> rcases T4 y.1 c hyc (Kj.1 y hy) with ⟨k,hk,hk2⟩ | ⟨g1,g2,g3⟩
    ·have e1:=uW pF hi2 (i:=0)
     have e2:=uW pF hk2 (i:=0)
     rw [e1] at e2;simp at e2;omega
    ·obtain ⟨o,ho⟩:=hrd c (List.mem_of_getElem? hi2)
     exact absurd (by omega) (BY c o ho)
    ·obtain ⟨o,ho⟩:=hrd c (List.mem_of_getElem? hk2)
     exact absurd (by omega) (BY c o ho)
    ·omega
   have Pp:Ri (gQ b h'):=fun x hx=>by
    obtain ⟨y,hy,_,he⟩:=jR hx;exact ⟨_,he⟩
   have adI:=te hinj Kj.2
   have hkeys:∀ x∈gQ b h',rd0 x.1=none:=fun x hx=>by
    obtain ⟨y,hy,hby,_⟩:=jR hx
    simp only [rd0,uV]
    rcases T4 y.1 x.1 hby (Kj.1 y hy) with ⟨i,hi,hi2⟩ | ⟨h1,h2,h3⟩
    ·rw [if_pos (DX _ (List.mem_of_getElem? hi2))]
    ·split
     ·rfl
     ·exact (hn x.1 (by omega) h3).2
   let rd1:Rd:=rdU (fun _=>none) (gQ b h')
   have Kg:∀ x o',rd1 x=some o'→∃ j o,look h' j=some o∧b j=some x∧o'=e9 b o∧βn x=β' j:=fun x o' hx=>by
    rcases GP hx with h1 | h1
    ·obtain ⟨y,hy,hby,he⟩:=jR h1
     simp at hby he
     exact ⟨y.1,y.2,G1 Kj.2 hy,hby,he,hβb _ _ hby (Kj.1 y hy)⟩
    ·simp at h1
   have hgb:∀ j x l,b j=some x→β' j=some l→βn x=some l:=fun j x l hj hl=>by
    have hlt:j<nx:=by
     rcases Nat.lt_or_ge j nx with h1 | h1
     ·exact h1
     ·have:=(hfree j h1).1;rw [hl] at this;simp at this
    rw [hβb j x hj hlt];exact hl
   have abk:Sim w' B' βn rd1:=st.sim.ren hgb Kg
   have adD:rdU rd (kL L ++ gQ b h')=gV rd1 rd0:=by
    funext a
    rw [js]
    exact ny Pp hkeys adI a
   have hin1:∀ bl,In βn rd1 bl→In β' (look h') bl:=by
    rintro bl ⟨x,o',l,h1,h2,h3⟩
    obtain ⟨j,o,g1,g2,g3,g4⟩:=Kg x o' h1
    exact ⟨j,o,l,g1,g4.symm.trans h2,h3⟩
   have hsz0:∀ bl,In β rd0 bl→bl<w.heap.size:=by
    rintro bl ⟨a,o,l,h1,h2,rfl⟩;exact hs.block_lt (DY a o h1).2 h2
   have adK:∀ a o l,rd0 a=some o→βn a=some l→β a=some l:=fun a o l h1 h2=>by
    obtain ⟨q1,q2⟩:=DY a o h1
    rw [← hout a (fun h=>q1 (DX a h)) (BY a o q2)];exact h2
   have abj:Sim w' B' βn (gV rd1 rd0):=by
    refine Sim.union sim0 abk (fun a o ha=>?_) (fun a c o p l m ha hc hl hm=>?_)
    ·unfold gV at ha
     split at ha
     ·rename_i q hq;simp at ha;subst ha;exact .inr hq
     ·exact .inl ha
    ·have i0:In β rd0 l.block:=⟨a,o,l,ha,adK a o l ha hl,rfl⟩
     intro he
     rcases st.ins _ (hin1 m.block ⟨c,p,m,hc,hm,rfl⟩) with h1 | h1
     ·obtain ⟨x,hx,q,l2,g1,g2,g3⟩:=anq _ h1
      exact hapart x hx q l2 g1 g2 (by rw [g3,← he];exact i0)
     ·have:=hsz0 _ i0;omega
   refine ⟨u,B',βn,rfl,⟨⟨by rw [adD];exact abj,st.ext.mono (fun bl hb=>?_),st.bsub,fun bl hb=>?_,fun bl hb=>?_,fun bl hb=>?_,m1⟩,hval.ren hgb,fun a ha hr=>?_⟩⟩
   ·obtain ⟨x,hx,o,l,h1,h2,h3,h4⟩:=BZ bl hb
    exact ⟨x,o,l,h1,h2,h3,h4⟩
   ·rcases st.bnew bl hb with h1 | h1 | h1
    ·exact .inl h1
    ·obtain ⟨x,hx,o,l,h1,h2,h3,h4⟩:=BZ bl h1
     exact .inr (.inl ⟨x,o,l,h1,h2,h3,h4⟩)
    ·exact .inr (.inr h1)
   ·rw [adD] at hb
    obtain ⟨a,o,l,h1,h2,h3,h4⟩:=hb
    unfold gV at h1
    split at h1
    ·rename_i q hq
     simp at h1;subst h1
     obtain ⟨j,o2,g1,g2,rfl,g4⟩:=Kg a q hq
     rcases st.muts bl ⟨j,o2,l,g1,fun k xs fl he=>h2 k xs fl (by rw [he];rfl),g4.symm.trans h3,h4⟩ with h5 | h5
     ·obtain ⟨x,hx,o3,l3,k1,k2,k3,k4⟩:=BZ bl h5
      exact .inl ⟨x,o3,l3,k1,k2,k3,k4⟩
     ·exact .inr h5
    ·exact .inl ⟨a,o,l,(DY a o h1).2,h2,adK a o l h1 h3,h4⟩
   ·rw [adD] at hb
    obtain ⟨a,o,l,h1,h3,h4⟩:=hb
    unfold gV at h1
    split at h1
    ·rename_i q hq
     simp at h1;subst h1
     rcases st.ins bl (hin1 bl ⟨a,q,l,hq,h3,h4⟩) with h5 | h5
     ·obtain ⟨x,hx,o3,l3,k1,k3,k4⟩:=anq bl h5
      exact .inl ⟨x,o3,l3,k1,k3,k4⟩
     ·exact .inr h5
    ·exact .inl ⟨a,o,l,(DY a o h1).2,adK a o l h1 h3,h4⟩
   ·refine hout a (fun hm=>?_) (by omega)
    obtain ⟨o,ho⟩:=hrd a hm
    rw [ha] at ho;simp at ho
  ·simp at h
 ·simp at h
theorem Vx {E:Env} {C:Callee} (hC:eZ P E.resK C) (hs:Sim w B β rd) {nid f:Nat} {args:List PV} {vs:Array Value} (hv:Vs w B β args vs.toList) (hn:wO β rd nid)
  {e:Eff} (h:eO E C rd nid f args=some e) :
  Callable P f∧Calls P f vs w (fun en w'=>∃ v B' β',en=.returned v∧Did w B β rd nid e w' B' β' v):=by
 cases hf:E.isRef f with
 | true=>exact abH hC hs hv hn hf h
 | false=>exact pure_ok hC hs hv hn hf h
theorem ajG {E:Env} {C:Callee} (hT:du P E.tab) (hC:eZ P E.resK C) (hs:Sim w B β rd) (ha:eb w B β tm a) {nid:Nat} (hn:wO β rd nid) {o:Oper} {e:Eff} (h:dK E C rd nid tm o=some e)
  {K:Act→World→Prop} {Q:Exit→Act→World→Prop} (hK:∀ v w' B' β',Did w B β rd nid e w' B' β' v→K (a.put o.dst v) w'):o.wp P a w K Q:=by
 unfold dK at h
 split at h
 ·rename_i f args ats ho
  split at h
  ·rename_i g iF vs hf hvs
   have h1:=ck ha hf
   generalize hfe:a.eval f=fv at h1
   obtain ⟨us,rfl,h2⟩:=Vs.XH h1
   have h3:=qy ha hvs
   have h4:Vs w B β (vs ++ iF) (args.map a.eval ++ us).toList:=by
    have:=h3.append h2
    simpa using this
   obtain ⟨⟨fn,c1,c2,c3⟩,adP⟩:=Vx hC hs h4 hn h
   have hrun:(execOp a.eval o).run P w=.ok (.enter g (args.map a.eval ++ us)) w:=by
    have c2':fn.name≠ "runtime.NumGoroutine":=by simpa using c2
    have c3':fn.body≠none:=fun hb=>by rw [hb] at c3;simp at c3
    simp [execOp,ho,resolve,hfe,Deferred.ofValue,invoke,callFunc,c1,c2',c3']
   unfold Oper.wp
   rw [hrun,Oper.upon_enter]
   refine Calls.mono adP ?_
   rintro en w' ⟨v,B',β',rfl,hd⟩
   exact hK v w' B' β' hd
  ·simp at h
 ·obtain ⟨nx,v,w',B',β',h1,h2,h3,h4,h5⟩:=Q1 hT hs ha h (hn nid (Nat.le_refl _) (by omega)).1 (hn nid (Nat.le_refl _) (by omega)).2
  have hd:Did w B β rd nid e w' B' β' v:=⟨h3,h4,fun b _ hb=>h5 b (by omega)⟩
  unfold Oper.wp
  rw [h1]
  rcases h2 with rfl | ⟨rfl,rfl⟩
  ·rw [Oper.upon_value];exact hK v w' B' β' hd
  ·rw [Oper.upon_skip];exact hK _ w' B' β' hd
end
end Go.Pm
end
section
set_option linter.unusedVariables false
set_option linter.unusedSimpArgs false
namespace Go.Pm
open Go
section
variable {P:Program} {w w':World} {B B':Nat→Prop} {β β':Map} {rd rd':Rd} {tm tm':List PV} {a:Act}
theorem tF:∀ {l:List PV} {i j:Nat} {v:PV},nth (put l i v) j=if j=i∧i<l.length then v else nth l j
 | [],i,j,v=>by simp [put,nth]
 | x::r,0,0,v=>by simp [put,nth]
 | x::r,0,j+1,v=>by simp [put,nth]
 | x::r,i+1,0,v=>by simp [put,nth]
 | x::r,i+1,j+1,v=>by simp only [put,nth];rw [tF];simp
theorem jv:∀ {l:List PV} {i:Nat} {v:PV},(put l i v).length=l.length
 | [],i,v=>rfl
 | x::r,0,v=>rfl
 | x::r,i+1,v=>by simp [put,jv]
theorem qz:∀ {l:List PV} {i:Nat},l.length≤i→nth l i=.undef
 | [],i,_=>rfl
 | x::r,0,h=>by simp at h
 | x::r,i+1,h=>by simp [nth];exact qz (by simpa using h)
theorem acb {l:List PV} {i:Nat}:nth l i=(l[i]?).getD .undef:=by
 rcases Nat.lt_or_ge i l.length with h | h
 ·rw [List.getElem?_eq_getElem h];exact hJ (List.getElem?_eq_getElem h)
 ·rw [qz h,List.getElem?_eq_none h];rfl
theorem eb.step (hs:Sim w B β rd) (ha:eb w B β tm a) (h:Step w B β rd w' B' β' rd'):eb w' B' β' tm a:=
 ⟨ha.len,fun t=>h.keep hs (ha.val t),ha.def0⟩
theorem eb.put (ha:eb w B β tm a) {d:Option Nat} {p:PV} {v:Value} (h:V w B β p v):eb w B β (putD tm d p) (a.put d v):=by
 cases d with
 | none=>exact ha
 | some d=>
  refine ⟨by simp [putD,jv,Act.put,ha.len],fun t=>?_,ha.def0⟩
  simp only [putD,tF,Act.put]
  split
  ·rename_i hc
   obtain ⟨rfl,hlt⟩:=hc
   have:t<a.tmps.size:=ha.len▸hlt
   simp [this];exact h
  ·rename_i hc
   by_cases htd:t=d
   ·subst htd
    have h1:¬ t<a.tmps.size:=fun h'=>hc ⟨rfl,ha.len▸h'⟩
    have:=ha.val t
    simp [Array.getElem?_setIfInBounds,h1] at this ⊢
    simpa [h1] using this
   ·have:=ha.val t
    simpa [Array.getElem?_setIfInBounds_ne (Ne.symm htd)] using this
theorem B5 {ops:Array Oper} (ha:eb w B β tm a) {o:Oper} {g:Bool} (h:guardOf ops.toList tm o=some g):Region.wanted o (yielded ops a.tmps)=g:=by
 unfold guardOf at h
 unfold Region.wanted
 split at h
 ·rename_i hg;simp at h;subst h;simp [hg]
 ·rename_i j want hg
  simp only [hg]
  split at h
  ·rename_i d hd
   have hd':(ops[j]?).bind (·.dst)=some d:=by simpa using hd
   have hv:=ha.val d
   unfold yielded
   rw [hd']
   simp only [Option.bind_some]
   split at h
   ·rename_i b hb
    simp at h;subst h
    rw [hb] at hv
    have:=hv.wM
    have hx:a.tmps[d]?=some (.bool b):=by
     rcases Nat.lt_or_ge d a.tmps.size with h1 | h1
     ·simpa [h1] using this
     ·simp [h1,Go.undef] at this
    rw [hx]
    cases b <;> cases want <;> rfl
   ·rename_i hb
    simp at h;subst h
    rw [hb] at hv
    generalize hz:a.tmps.getD d Go.undef=z at hv
    cases hv
    have hx:∀ b,a.tmps[d]?≠some (.bool b):=fun b hb'=>by
     simp [hb',Go.undef] at hz
    split
    ·rename_i b hb';exact absurd hb' (hx b)
    ·rfl
   ·simp at h
  ·simp at h
theorem vU {os:List Oper} {o:Oper} (h:∀ g w d,o.guard=some (g,w)→(os[g]?).bind (·.dst)=some d→nth tm' d=nth tm d):guardOf os tm' o=guardOf os tm o:=by
 unfold guardOf
 split
 ·rfl
 ·rename_i j want hg
  split
  ·rename_i d hd;rw [h j want d hg hd]
  ·rfl
theorem rC {E:Env} {C:Callee} (hC:CE C) {os:List Oper} {nid:Nat} {o:Oper} {e:Eff} (h:stepOp E C os rd nid tm o=some e) :
  UpdOK rd nid e∧(Same rd rd' e.foot→(∀ x∈o.op.operands,jT tm tm' x)→(∀ g w d,o.guard=some (g,w)→(os[g]?).bind (·.dst)=some d→nth tm' d=nth tm d)→stepOp E C os rd' nid tm' o=some e):=by
 unfold stepOp at h ⊢
 split at h
 ·rename_i hg
  obtain ⟨h1,h2⟩:=SV (rd':=rd') (tm':=tm') hC h
  exact ⟨h1,fun hs ht hgd=>by rw [vU hgd,hg];exact h2 hs ht⟩
 ·rename_i hg
  simp at h;subst h
  exact ⟨.none rfl,fun hs ht hgd=>by rw [vU hgd,hg]⟩
 ·simp at h
theorem step_ok {E:Env} {C:Callee} (hT:du P E.tab) (hC:eZ P E.resK C) (hs:Sim w B β rd) (ha:eb w B β tm a) {nid:Nat} (hn:wO β rd nid) {ops:Array Oper} {i:Nat} {o:Oper} (ho:ops[i]?=some o) {e:Eff}
  (h:stepOp E C ops.toList rd nid tm o=some e)
  {K:Act→World→Prop} {Q:Exit→Act→World→Prop} (hK:∀ v w' B' β',Did w B β rd nid e w' B' β' v→K (a.put o.dst v) w'):wpOp P ops Q i K a w:=by
 unfold wpOp
 simp only [ho]
 unfold stepOp at h
 split at h
 ·rename_i hg
  rw [B5 ha hg]
  simp only [↓reduceIte]
  exact .inl (ajG hT hC hs ha hn h hK)
 ·rename_i hg
  rw [B5 ha hg]
  simp at h;subst h
  simp only [Bool.false_eq_true,↓reduceIte]
  exact hK _ w B β ⟨.refl hs,.void,fun _ _ _=>rfl⟩
 ·simp at h
theorem rz {nid:Nat} {e:Eff} (h:UpdOK rd nid e) {b:Nat} (hb:rd b=none) (hr:b<nid∨nid+64≤b):rdU rd e.upd b=none:=by
 have:∀ (u:Upd) (rd0:Rd),(∀ x∈u,(nid≤x.1∧x.1<nid+64)∨(x.1∈e.foot∧(rd x.1=none→x.2=none)))→rd0 b=none→rdU rd0 u b=none:=by
  intro u
  induction u with
  | nil=>intro rd0 _ h;exact h
  | cons x u ih=>
   intro rd0 hu h0
   obtain ⟨c,q⟩:=x
   simp only [rdU]
   refine ih _ (fun x hx=>hu x (List.mem_cons_of_mem _ hx)) ?_
   unfold cd
   split
   ·rename_i hbc
    subst hbc
    rcases hu _ List.mem_cons_self with h1 | h1
    ·simp at h1;omega
    ·exact h1.2 hb
   ·exact h0
 exact this e.upd rd h hb
theorem ff:∀ (h:List (Nat × bq)) (a:Nat) (o:bq),look (setObj h a o)=cd (look h) a (some o)
 | [],a,o=>by
  funext x
  simp only [setObj,look,cd]
  by_cases hx:x=a
  ·simp [hx]
  ·simp [hx]
 | (b,p)::r,a,o=>by
  funext x
  simp only [setObj]
  by_cases hab:a=b
  ·subst hab
   simp only [beq_self_eq_true,↓reduceIte,look,cd]
   by_cases hx:x=a
   ·simp [hx]
   ·simp [hx]
  ·have hab':(a == b)=false:=by simpa using hab
   simp only [hab',Bool.false_eq_true,↓reduceIte,look]
   rw [ff r a o]
   simp only [cd]
   by_cases hx:x=b
   ·subst hx
    have:x≠a:=fun h=>hab h.symm
    simp [this]
   ·simp [hx]
theorem nE:∀ (h:List (Nat × bq)) (a:Nat),look (jQ h a)=cd (look h) a none
 | [],a=>by funext x;simp [jQ,look,cd]
 | (b,p)::r,a=>by
  funext x
  simp only [jQ]
  by_cases hab:a=b
  ·subst hab
   simp only [beq_self_eq_true,↓reduceIte]
   rw [nE r a]
   simp only [cd,look]
   by_cases hx:x=a
   ·simp [hx]
   ·simp [hx]
  ·have hab':(a == b)=false:=by simpa using hab
   simp only [hab',Bool.false_eq_true,↓reduceIte,look]
   rw [nE r a]
   simp only [cd]
   by_cases hx:x=b
   ·subst hx
    have:x≠a:=fun h=>hab h.symm
    simp [this]
   ·simp [hx]
theorem hO:∀ (u:Upd) (h:List (Nat × bq)),look (dH h u)=rdU (look h) u
 | [],h=>rfl
 | (a,some o)::r,h=>by simp only [dH,rdU];rw [hO r,ff]
 | (a,none)::r,h=>by simp only [dH,rdU];rw [hO r,nE]
structure Stand (w0:World) (B0:Nat→Prop) (β0:Map) (rd0:Rd) (w:World) (B:Nat→Prop) (β:Map) (rd:Rd) (tm:List PV) (a:Act) (nx:Nat):Prop where
 step:Step w0 B0 β0 rd0 w B β rd
 tms:eb w B β tm a
 free:∀ b,nx≤b→β b=none∧rd b=none
theorem Stand.next {w0:World} {B0:Nat→Prop} {β0:Map} {rd0:Rd} {nx:Nat} (h:Stand w0 B0 β0 rd0 w B β rd tm a nx) {e:Eff} {d:Option Nat} {v:Value} (hd:Did w B β rd nx e w' B' β' v) (hu:UpdOK rd nx e) :
  Stand w0 B0 β0 rd0 w' B' β' (rdU rd e.upd) (putD tm d e.val) (a.put d v) (nx+64):=
 ⟨h.step.trans hd.step,((h.tms.step h.step.sim hd.step)).put hd.val,fun b hb=>⟨by rw [hd.frame b (h.free b (by omega)).2 (.inr hb)];exact (h.free b (by omega)).1,rz hu (h.free b (by omega)).2 (.inr hb)⟩⟩
theorem seq_ok {E:Env} {C:Callee} (hT:du P E.tab) (hC:eZ P E.resK C) {ops:Array Oper} {Q:Exit→Act→World→Prop} {w0:World} {B0:Nat→Prop} {β0:Map} {rd0:Rd} {tm1:List PV} {h1:List (Nat × bq)} :
  ∀ (rest:List Oper) (k nx:Nat) (tm:List PV) (h:List (Nat × bq)) (es:List Eff) (w:World) (B:Nat→Prop) (β:Map) (a:Act),(∀ i o,rest[i]?=some o→ops[k+i]?=some o)→fM E C ops.toList rest nx tm h=some (tm1,h1,es)→
   Stand w0 B0 β0 rd0 w B β (look h) tm a nx→(∀ w' B' β' a',Stand w0 B0 β0 rd0 w' B' β' (look h1) tm1 a' (nx+64*rest.length)→Q .normal a' w')→wpOps P ops Q (List.range' k rest.length) a w
 | [],k,nx,tm,h,es,w,B,β,a,_,he,hst,hQ=>by
  simp [fM] at he;obtain ⟨rfl,rfl,rfl⟩:=he
  simp only [List.length_nil,List.range'_zero,wpOps]
  exact hQ w B β a (by simpa using hst)
 | o::r,k,nx,tm,h,es,w,B,β,a,hops,he,hst,hQ=>by
  simp only [fM] at he
  split at he
  ·rename_i e heq
   split at he
   ·rename_i tm' h' es' hr
    simp at he;obtain ⟨rfl,rfl,rfl⟩:=he
    have ho:ops[k]?=some o:=by have:=hops 0 o rfl;simpa using this
    rw [List.length_cons,List.range'_succ,wpOps_cons]
    have hfr:wO β (look h) nx:=fun b h1 _=>hst.free b h1
    refine step_ok hT hC hst.step.sim hst.tms hfr ho heq fun v w' B' β' hd=>?_
    have hu:=(rC (rd':=look h) (tm':=tm) hC.ids heq).1
    have hst':=hst.next (d:=o.dst) hd hu
    rw [← hO] at hst'
    refine seq_ok hT hC r (k+1) (nx+64) _ _ _ w' B' β' _ (fun i o' hi=>?_) hr hst' fun w'' B'' β'' a'' hs=>hQ w'' B'' β'' a'' ?_
    ·have:=hops (i+1) o' (by simpa using hi);rw [← this];congr 1;omega
    ·have:nx+64+64*r.length=nx+64*(o::r).length:=by simp;omega
     rw [← this];exact hs
   ·simp at he
  ·simp at he
end
end Go.Pm
end
section
set_option linter.unusedVariables false
set_option linter.unusedSimpArgs false
namespace Go.Pm
open Go
def pc (p:Nat→Bool):Nat→Option Nat
 | 0=>none
 | n+1=>if p n then some n else pc p n
theorem eB {p q:Nat→Bool}:∀ {n:Nat},(∀ i,i<n→p i=q i)→pc p n=pc q n
 | 0,_=>rfl
 | n+1,h=>by simp only [pc];rw [h n (by omega),eB fun i hi=>h i (by omega)]
theorem vz {p:Nat→Bool}:∀ {n j:Nat},j<n→p j=true→(∀ i,j<i→i<n→p i=false)→pc p n=some j
 | 0,j,h,_,_=>by omega
 | n+1,j,h,hp,hl=>by
  simp only [pc]
  by_cases hj:j=n
  ·subst hj;simp [hp]
  ·rw [hl n (by omega) (by omega)]
   simp only [Bool.false_eq_true,↓reduceIte]
   exact vz (by omega) hp fun i h1 h2=>hl i h1 (by omega)
def wrote:Upd→Nat→Option (Option bq)
 | [],_=>none
 | (b,o)::r,a=>match wrote r a with
  | some q=>some q
  | none=>if a=b then some o else none
theorem xP:∀ (u:Upd) (rd:Rd) (a:Nat),rdU rd u a=(wrote u a).getD (rd a)
 | [],rd,a=>rfl
 | (b,o)::r,rd,a=>by
  simp only [rdU,wrote]
  rw [xP r]
  cases wrote r a with
  | some q=>rfl
  | none=>
   simp only [cd,Option.getD_none]
   split <;> rfl
theorem oA:∀ {u:Upd} {a:Nat},(wrote u a).isSome=true→a∈dy u
 | [],a,h=>by simp [wrote] at h
 | (b,o)::r,a,h=>by
  simp only [wrote] at h
  simp only [dy,List.mem_cons]
  split at h
  ·rename_i q hq;exact .inr (oA (by rw [hq];rfl))
  ·split at h
   ·rename_i hab;exact .inl hab
   ·simp at h
theorem tG {l m:List PV} (hl:l.length=m.length) (h:∀ t,nth l t=nth m t):l=m:=by
 apply List.ext_getElem hl
 intro t h1 h2
 have:=h t
 rw [hJ (List.getElem?_eq_getElem h1),hJ (List.getElem?_eq_getElem h2)] at this
 exact this
section
variable {P:Program} {w w':World} {B B':Nat→Prop} {β β':Map} {rd rd':Rd} {tm tm':List PV} {a:Act}
variable (os:List Oper) (es:List Eff) (tm0:List PV) (rd0:Rd)
def gN (i:Nat):Option Nat:=(os[i]?).bind (·.dst)
def dS (i:Nat):Eff:=(es[i]?).getD ⟨.void,[],[]⟩
def tmV (S:Nat→Bool) (t:Nat):PV:=
 match pc (fun i=>S i&&gN os i == some t) os.length with
 | none=>nth tm0 t
 | some i=>(dS es i).val
def tmL (S:Nat→Bool):List PV:=(List.range tm0.length).map (tmV os es tm0 S)
def rdV (S:Nat→Bool):Rd:=fun a=>
 match pc (fun i=>S i&&(wrote (dS es i).upd a).isSome) os.length with
 | none=>rd0 a
 | some i=>(wrote (dS es i).upd a).getD none
def nj (S:Nat→Bool) (j:Nat):Nat→Bool:=fun i=>S i||i == j
theorem jj (S:Nat→Bool):(tmL os es tm0 S).length=tm0.length:=by simp [tmL]
theorem iM (S:Nat→Bool) (t:Nat):nth (tmL os es tm0 S) t=if t<tm0.length then tmV os es tm0 S t else .undef:=by
 rw [acb]
 unfold tmL
 by_cases h:t<tm0.length
 ·simp [h]
 ·simp [h]
theorem xz {S T:Nat→Bool} (h:∀ i,i<os.length→S i=T i):tmL os es tm0 S=tmL os es tm0 T:=by
 refine tG (by simp [jj]) fun t=>?_
 rw [iM,iM]
 unfold tmV
 rw [eB fun i hi=>by rw [h i hi]]
theorem xO {S T:Nat→Bool} (h:∀ i,i<os.length→S i=T i):rdV os es rd0 S=rdV os es rd0 T:=by
 funext a
 unfold rdV
 rw [eB fun i hi=>by rw [h i hi]]
theorem Cz {S:Nat→Bool} {j:Nat} (hj:j<os.length) (hlast:∀ i,j<i→i<os.length→S i=true→∀ d,gN os j=some d→gN os i≠some d) :
  putD (tmL os es tm0 S) (gN os j) (dS es j).val=tmL os es tm0 (nj S j):=by
 cases hd:gN os j with
 | none=>
  simp only [putD]
  refine tG (by simp [jj]) fun t=>?_
  rw [iM,iM]
  unfold tmV
  rw [eB (q:=fun i=>nj S j i&&gN os i == some t) fun i hi=>?_]
  simp only [nj]
  by_cases hij:i=j
  ·subst hij;simp [hd]
  ·have:(i == j)=false:=by simpa using hij
   simp [this]
 | some d=>
  simp only [putD]
  refine tG (by simp [jj,jv]) fun t=>?_
  rw [tF,iM,iM,jj]
  by_cases ht:t=d
  ·subst ht
   by_cases hlt:t<tm0.length
   ·simp only [hlt,and_self,↓reduceIte]
    unfold tmV
    rw [vz hj (by simp [nj,hd]) fun i h1 h2=>?_]
    simp only [nj]
    have:(i == j)=false:=by simpa using (by omega:i≠j)
    cases hS:S i with
    | false=>simp [this]
    | true=>simpa [this] using hlast i h1 h2 hS t hd
   ·simp [hlt]
  ·simp only [ht,false_and,↓reduceIte]
   split
   ·unfold tmV
    rw [eB (q:=fun i=>nj S j i&&gN os i == some t) fun i hi=>?_]
    simp only [nj]
    by_cases hij:i=j
    ·subst hij
     have:(some d == some t)=false:=by simpa using Ne.symm ht
     simp [hd,this,Ne.symm ht]
    ·have:(i == j)=false:=by simpa using hij
     simp [this]
   ·rfl
theorem CA {S:Nat→Bool} {j:Nat} (hj:j<os.length) (hlast:∀ i,j<i→i<os.length→S i=true→∀ a,(wrote (dS es j).upd a).isSome=true→wrote (dS es i).upd a=none) :
  rdU (rdV os es rd0 S) (dS es j).upd=rdV os es rd0 (nj S j):=by
 funext a
 rw [xP]
 cases hw:wrote (dS es j).upd a with
 | some q=>
  simp only [Option.getD_some]
  unfold rdV
  rw [vz hj (by simp [nj,hw]) fun i h1 h2=>?_]
  ·simp [hw]
  ·simp only [nj]
   have:(i == j)=false:=by simpa using (by omega:i≠j)
   cases hS:S i with
   | false=>simp [this]
   | true=>simp [this,hlast i h1 h2 hS a (by rw [hw];rfl)]
 | none=>
  simp only [Option.getD_none]
  unfold rdV
  rw [eB (q:=fun i=>nj S j i&&(wrote (dS es i).upd a).isSome) fun i hi=>?_]
  simp only [nj]
  by_cases hij:i=j
  ·subst hij;simp [hw]
  ·have:(i == j)=false:=by simpa using hij
   simp [this]
def cr (k:Nat):Nat→Bool:=fun i=>decide (i<k)
theorem tf (k:Nat):nj (cr k) k=cr (k+1):=by
 funext i
 simp only [nj,cr]
 by_cases h:i<k
 ·have:i<k+1:=by omega
  simp [h,this]
 ·by_cases h2:i=k
  ·subst h2;simp
  ·have:¬ i<k+1:=by omega
   have h3:(i == k)=false:=by simpa using h2
   simp [h,this,h3]
structure Rec (E:Env) (C:Callee) (nid0:Nat):Prop where
 len:es.length=os.length
 step:∀ j o,os[j]?=some o→stepOp E C os (rdV os es rd0 (cr j)) (nid0+64*j) (tmL os es tm0 (cr j)) o=some (dS es j)
theorem yh {E:Env} {C:Callee} {nid0:Nat} {tm1:List PV} {h1:List (Nat × bq)}:∀ (rest:List Oper) (pre ers:List Eff) (k:Nat) (tm:List PV) (h:List (Nat × bq)),es=pre ++ ers→pre.length=k→os.drop k=rest→
  tm=tmL os es tm0 (cr k)→look h=rdV os es rd0 (cr k)→fM E C os rest (nid0+64*k) tm h=some (tm1,h1,ers)→
  ers.length=rest.length∧(∀ j o,k≤j→os[j]?=some o→stepOp E C os (rdV os es rd0 (cr j)) (nid0+64*j) (tmL os es tm0 (cr j)) o=some (dS es j))∧
  tm1=tmL os es tm0 (cr os.length)∧look h1=rdV os es rd0 (cr os.length)
 | [],pre,ers,k,tm,h,he,hp,hr,ht,hh,hev=>by
  simp [fM] at hev;obtain ⟨rfl,rfl,rfl⟩:=hev
  have hk:os.length≤k:=by simpa using hr
  refine ⟨rfl,fun j o hj ho=>?_,?_,?_⟩
  ·rw [List.getElem?_eq_none (by omega)] at ho;simp at ho
  ·rw [ht];exact xz os es tm0 fun i hi=>by simp [cr,hi];omega
  ·rw [hh];exact xO os es rd0 fun i hi=>by simp [cr,hi];omega
 | o::r,pre,ers,k,tm,h,he,hp,hr,ht,hh,hev=>by
  simp only [fM] at hev
  split at hev
  ·rename_i e hst
   split at hev
   ·rename_i tm' h' es' hrest
    simp at hev;obtain ⟨rfl,rfl,rfl⟩:=hev
    have hk:k<os.length:=by
     rcases Nat.lt_or_ge k os.length with h1 | h1
     ·exact h1
     ·rw [List.drop_eq_nil_of_le h1] at hr;simp at hr
    have hok:os[k]?=some o:=by
     have:(os.drop k)[0]?=some o:=by rw [hr];rfl
     simpa using this
    have hek:dS es k=e:=by
     unfold dS
     rw [he,List.getElem?_append_right (by omega),hp]
     simp
    have hd:gN os k=o.dst:=by simp [gN,hok]
    have hno:∀ i,k<i→i<os.length→cr k i=true→False:=fun i h1 h2 h3=>by simp [cr] at h3;omega
    have e1:putD tm o.dst e.val=tmL os es tm0 (cr (k+1)):=by
     rw [ht,← hd,← hek,Cz os es tm0 hk fun i h1 h2 h3=>(hno i h1 h2 h3).elim,tf]
    have e2:look (dH h e.upd)=rdV os es rd0 (cr (k+1)):=by
     rw [hO,hh,← hek,CA os es rd0 hk fun i h1 h2 h3=>(hno i h1 h2 h3).elim,tf]
    have hn:nid0+64*k+64=nid0+64*(k+1):=by omega
    rw [hn] at hrest
    obtain ⟨g1,g2,g3,g4⟩:=yh (nid0:=nid0) r (pre ++ [e]) es' (k+1) _ _ (by rw [he];simp) (by simp [hp]) (by rw [← List.drop_drop,hr];rfl) e1 e2 hrest
    refine ⟨by simp [g1],fun j o' hj ho'=>?_,g3,g4⟩
    by_cases hjk:j=k
    ·subst hjk
     rw [hok] at ho';simp at ho';subst ho'
     rw [hek,← ht,← hh];exact hst
    ·exact g2 j o' (by omega) ho'
   ·simp at hev
  ·simp at hev
structure Ind (ops:Array Oper) (i j:Nat):Prop where
 dst:∀ d y,gN os i=some d→os[j]?=some y→d ∉ y.looksAt ops∧y.dst≠some d
 upd:∀ a,(wrote (dS es i).upd a).isSome=true→a ∉ (dS es j).foot∧wrote (dS es j).upd a=none
theorem UY {E:Env} {C:Callee} (hC:CE C) {ops:Array Oper} (hos:ops.toList=os) {nid0:Nat} (hr:Rec os es tm0 rd0 E C nid0) {S:Nat→Bool} {j:Nat} {o:Oper} (ho:os[j]?=some o) (hSj:S j=false)
  (Ki:∀ i,i<os.length→i≠j→(S i=true∧j<i)∨(S i=false∧i<j)→Ind os es ops i j) :
  stepOp E C os (rdV os es rd0 S) (nid0+64*j) (tmL os es tm0 S) o=some (dS es j):=by
 have hj:j<os.length:=by
  rcases Nat.lt_or_ge j os.length with h | h
  ·exact h
  ·rw [List.getElem?_eq_none h] at ho;simp at ho
 have htm:∀ t,t∈o.looksAt ops→nth (tmL os es tm0 S) t=nth (tmL os es tm0 (cr j)) t:=fun t ht=>by
  rw [iM,iM]
  unfold tmV
  rw [eB (q:=fun i=>cr j i&&gN os i == some t) fun i hi=>?_]
  by_cases hd:gN os i=some t
  ·by_cases hij:i=j
   ·subst hij;simp [hSj,cr]
   ·cases hS:S i with
    | true=>
     by_cases hlt:i<j
     ·simp [cr,hlt]
     ·exact absurd ht ((Ki i hi hij (.inl ⟨hS,by omega⟩)).dst t o hd ho).1
    | false=>
     by_cases hlt:i<j
     ·exact absurd ht ((Ki i hi hij (.inr ⟨hS,hlt⟩)).dst t o hd ho).1
     ·simp [cr,hlt]
  ·have:(gN os i == some t)=false:=by simpa using hd
   simp [this]
 have hrd:Same (rdV os es rd0 (cr j)) (rdV os es rd0 S) (dS es j).foot:=fun a ha=>by
  unfold rdV
  rw [eB (q:=fun i=>cr j i&&(wrote (dS es i).upd a).isSome) fun i hi=>?_]
  cases hw:(wrote (dS es i).upd a).isSome with
  | false=>simp
  | true=>
   by_cases hij:i=j
   ·subst hij;simp [hSj,cr]
   ·cases hS:S i with
    | true=>
     by_cases hlt:i<j
     ·simp [cr,hlt]
     ·exact absurd ha ((Ki i hi hij (.inl ⟨hS,by omega⟩)).upd a hw).1
    | false=>
     by_cases hlt:i<j
     ·exact absurd ha ((Ki i hi hij (.inr ⟨hS,hlt⟩)).upd a hw).1
     ·simp [cr,hlt]
 refine (rC hC (hr.step j o ho)).2 hrd (fun x hx t hxt=>htm t ?_) (fun g want d hg hd=>htm d ?_)
 ·subst hxt
  exact List.mem_append_left _ (List.mem_filterMap.2 ⟨.tmp t,by simpa using hx,rfl⟩)
 ·refine List.mem_append_right _ ?_
  subst hos
  simp only [hg]
  have:(ops[g]?).bind (·.dst)=some d:=by simpa using hd
  rw [this];simp
def cnt (p:Nat→Bool):Nat→Nat
 | 0=>0
 | n+1=>cnt p n+if p n then 1 else 0
theorem QK (p:Nat→Bool):∀ n,cnt p n≤n
 | 0=>Nat.le_refl _
 | n+1=>by have:=QK p n;simp only [cnt];split <;> omega
theorem cnt_mono {p q:Nat→Bool} (h:∀ i,q i=true→p i=true):∀ n,cnt q n≤cnt p n
 | 0=>Nat.le_refl _
 | n+1=>by
  have:=cnt_mono h n
  simp only [cnt]
  cases hq:q n with
  | false=>simp;omega
  | true=>rw [h n hq];simp;omega
theorem cnt_lt {p q:Nat→Bool} (h:∀ i,q i=true→p i=true) {j:Nat} (hp:p j=true) (hq:q j=false):∀ n,j<n→cnt q n<cnt p n
 | 0,hj=>by omega
 | n+1,hj=>by
  simp only [cnt]
  by_cases hjn:j=n
  ·subst hjn
   have:=cnt_mono h j
   simp [hp,hq];omega
  ·have:=cnt_lt h hp hq n (by omega)
   cases hqn:q n with
   | false=>simp;omega
   | true=>rw [h n hqn];simp;omega
theorem Cq {p:Nat→Bool}:∀ {n:Nat},cnt p n=0→∀ i,i<n→p i=false
 | 0,_,i,hi=>by omega
 | n+1,h,i,hi=>by
  simp only [cnt] at h
  by_cases hin:i=n
  ·subst hin
   cases hp:p i with
   | false=>rfl
   | true=>rw [hp] at h;simp at h
  ·exact Cq (Nat.eq_zero_of_add_eq_zero_right h) i (by omega)
theorem Lx {md:Region.Mode} {e:Edge} (h:Region.binds .any e=true):Region.binds md e=true:=by
 unfold Region.binds at h ⊢
 split at h
 ·simp at h
 ·simp at h
 ·rfl
theorem uT {md:Region.Mode} {ops:Array Oper} {listed:Array Bool} (hsz:listed.size=ops.size):∀ (l done:List Nat),iL md ops.toList done l=true→(∀ i∈done,listed.getD i false=true)→
  Region.ready md ops listed=[]→∀ i,i<ops.size→listed.getD i false=true
 | [],done,h,hd,_,i,hi=>by
  simp only [iL,List.all_eq_true,List.mem_range,Array.length_toList] at h
  exact hd i (gF.1 (h i hi))
 | j::l,done,h,hd,hr,i,hi=>by
  simp only [iL,Bool.and_eq_true] at h
  cases ho:ops[j]? with
  | none=>
   have:ops.toList[j]?=none:=by simpa using ho
   rw [this] at h;simp at h
  | some o=>
   have ho':ops.toList[j]?=some o:=by simpa using ho
   rw [ho'] at h
   have anh:=h.1
   simp only [yM,List.all_eq_true,Bool.or_eq_true,Bool.not_eq_true'] at anh
   have hjs:j<listed.size:=by rw [hsz];exact (Array.getElem?_eq_some_iff.1 ho).1
   refine uT hsz l (j::done) h.2 (fun k hk=>?_) hr i hi
   rcases List.mem_cons.1 hk with rfl | hk
   ·cases hl:listed.getD k false with
    | true=>rfl
    | false=>
     have:k∈Region.ready md ops listed:=mem_ready.2 ⟨by simpa [hjs] using hl,o,ho,fun e he hb=>by
      rcases anh e (by simpa using he) with h1 | h1
      ·rw [hb] at h1;simp at h1
      ·exact hd e.on (gF.1 h1)⟩
     rw [hr] at this;simp at this
   ·exact hd k hk
theorem Vf {E:Env} {C:Callee} (hT:du P E.tab) (hC:eZ P E.resK C) {ops:Array Oper} (hos:ops.toList=os) {Q:Exit→Act→World→Prop} {w0:World} {B0:Nat→Prop} {β0:Map} {rdi:Rd} {nid0:Nat}
  (hrec:Rec os es tm0 rd0 E C nid0) (bf:Nat→List Nat) (Kh:∀ i j,i<j→j<os.length→i∈bf j∨(Ind os es ops i j∧Ind os es ops j i))
  (hbef:∀ j o i,os[j]?=some o→i∈bf j→∃ e∈o.after.toList,Region.binds .any e=true∧(i=e.on∨i∈bf e.on))
  {md:Region.Mode} {order:List Nat} (hmd:iL md os [] order=true)
  (hQ:∀ w' B' β' a',Stand w0 B0 β0 rdi w' B' β' (rdV os es rd0 (cr os.length)) (tmL os es tm0 (cr os.length)) a' (nid0+64*os.length)→Q .normal a' w') :
  ∀ (fuel:Nat) (listed:Array Bool) (w:World) (B:Nat→Prop) (β:Map) (a:Act),listed.size=ops.size→cnt (fun i=>!listed.getD i false) os.length≤fuel→
   (∀ j,listed.getD j false=true→∀ i∈bf j,listed.getD i false=true)→
   Step w0 B0 β0 rdi w B β (rdV os es rd0 fun i=>listed.getD i false)→eb w B β (tmL os es tm0 fun i=>listed.getD i false) a→
   (∀ i,i<os.length→listed.getD i false=false→wO β (rdV os es rd0 fun i=>listed.getD i false) (nid0+64*i))→
   (∀ b,nid0+64*os.length≤b→β b=none∧rdV os es rd0 (fun i=>listed.getD i false) b=none)→wpAny P md ops Q fuel listed a w:=by
 have hsz:ops.size=os.length:=by rw [← hos];simp
 have fin:∀ (listed:Array Bool) (w:World) (B:Nat→Prop) (β:Map) (a:Act),(∀ i,i<os.length→listed.getD i false=true)→
   Step w0 B0 β0 rdi w B β (rdV os es rd0 fun i=>listed.getD i false)→eb w B β (tmL os es tm0 fun i=>listed.getD i false) a→
   (∀ b,nid0+64*os.length≤b→β b=none∧rdV os es rd0 (fun i=>listed.getD i false) b=none)→Q .normal a w:=by
  intro listed w B β a hall hst htm hfr
  have hc:∀ i,i<os.length→listed.getD i false=cr os.length i:=fun i hi=>by rw [hall i hi];simp [cr,hi]
  rw [xO os es rd0 hc] at hst hfr
  rw [xz os es tm0 hc] at htm
  exact hQ w B β a ⟨hst,htm,hfr⟩
 intro fuel
 induction fuel with
 | zero=>
  intro listed w B β a hls hcnt hcl hst htm hfr hfr2
  have hall:∀ i,i<os.length→listed.getD i false=true:=fun i hi=>by
   have:=Cq (Nat.le_zero.1 hcnt) i hi
   simpa using this
  refine ⟨?_,fin listed w B β a hall hst htm hfr2⟩
  cases hr:Region.ready md ops listed with
  | nil=>rfl
  | cons j r=>
   have hj:j∈Region.ready md ops listed:=by rw [hr];simp
   obtain ⟨h1,o,ho,_⟩:=mem_ready.1 hj
   have hlt:j<os.length:=by rw [← hsz];exact (Array.getElem?_eq_some_iff.1 ho).1
   have:=hall j hlt
   have hjs:j<listed.size:=by rw [hls,hsz];exact hlt
   simp [hjs] at h1 this
   rw [h1] at this;simp at this
 | succ fuel ih=>
  intro listed w B β a hls hcnt hcl hst htm hfr hfr2
  refine ⟨fun hr=>fin listed w B β a (fun i hi=>uT hls order [] (by rw [hos];exact hmd) (by simp) hr i (by rw [hsz];exact hi)) hst htm hfr2,fun j hj=>?_⟩
  obtain ⟨h1,o,ho,adN⟩:=mem_ready.1 hj
  have hlt:j<os.length:=by rw [← hsz];exact (Array.getElem?_eq_some_iff.1 ho).1
  have hjs:j<listed.size:=by rw [hls,hsz];exact hlt
  have hSj:listed.getD j false=false:=by simpa [hjs] using h1
  have ho':os[j]?=some o:=by rw [← hos];simpa using ho
  have hbj:∀ i∈bf j,listed.getD i false=true:=fun i hi=>by
   obtain ⟨e,he,hb,h2⟩:=hbef j o i ho' hi
   have hon:=adN e (by simpa using he) (Lx hb)
   rcases h2 with rfl | h2
   ·exact hon
   ·exact hcl e.on hon i h2
  have hex:=UY os es tm0 rd0 hC.ids hos hrec (S:=fun i=>listed.getD i false) ho' hSj fun i hi hij hc=>by
   rcases hc with ⟨hS,hlt2⟩ | ⟨hS,hlt2⟩
   ·rcases Kh j i hlt2 hi with h2 | h2
    ·have:=hcl i hS j h2;rw [hSj] at this;simp at this
    ·exact h2.2
   ·rcases Kh i j hlt2 hlt with h2 | h2
    ·have:=hbj i h2;rw [hS] at this;simp at this
    ·exact h2.1
  have hex:stepOp E C ops.toList (rdV os es rd0 fun i=>listed.getD i false) (nid0+64*j) (tmL os es tm0 fun i=>listed.getD i false) o=some (dS es j):=by rw [hos];exact hex
  have hu:=(rC (rd':=rdV os es rd0 fun i=>listed.getD i false) (tm':=tmL os es tm0 fun i=>listed.getD i false) hC.ids hex).1
  refine step_ok hT hC hst.sim htm (hfr j hlt hSj) ho hex fun v w' B' β' hd=>?_
  have hS':(fun i=>(listed.setIfInBounds j true).getD i false)=nj (fun i=>listed.getD i false) j:=by
   funext i
   simp only [nj]
   by_cases hij:i=j
   ·subst hij;simp [hjs]
   ·have h2:(i == j)=false:=by simpa using hij
    rw [h2,Bool.or_false]
    simp [Array.getElem?_setIfInBounds_ne (Ne.symm hij)]
  have T5:∀ i,(listed.setIfInBounds j true).getD i false=(listed.getD i false||i == j):=fun i=>congrFun hS' i
  have hdst:o.dst=gN os j:=by simp [gN,ho']
  have e1:putD (tmL os es tm0 fun i=>listed.getD i false) o.dst (dS es j).val=tmL os es tm0 (nj (fun i=>listed.getD i false) j):=by
   rw [hdst]
   refine Cz os es tm0 hlt fun i hji hi hS d hd1 hd2=>?_
   rcases Kh j i hji hi with h2 | h2
   ·have:=hcl i hS j h2;rw [hSj] at this;simp at this
   ·cases hoi:os[i]? with
    | none=>simp [gN,hoi] at hd2
    | some y=>
     have h3:=(h2.1.dst d y hd1 hoi).2
     simp [gN,hoi] at hd2
     exact h3 hd2
  have e2:rdU (rdV os es rd0 fun i=>listed.getD i false) (dS es j).upd=rdV os es rd0 (nj (fun i=>listed.getD i false) j):=by
   refine CA os es rd0 hlt fun i hji hi hS a' ha'=>?_
   rcases Kh j i hji hi with h2 | h2
   ·have:=hcl i hS j h2;rw [hSj] at this;simp at this
   ·exact (h2.1.upd a' ha').2
  have ane:=((htm.step hst.sim hd.step)).put (d:=o.dst) hd.val
  have hst':=hst.trans hd.step
  rw [e1] at ane
  rw [e2] at hst'
  refine ih (listed.setIfInBounds j true) w' B' β' (a.put o.dst v) (by simpa using hls) ?_ (fun k hk i hi=>?_) (by rw [hS'];exact hst') (by rw [hS'];exact ane) (fun i hi hS b hb1 hb2=>?_) (fun b hb=>?_)
  ·have:=cnt_lt (p:=fun i=>!listed.getD i false) (q:=fun i=>!(listed.setIfInBounds j true).getD i false) (fun i hi=>by
    rw [T5] at hi
    simp only [Bool.not_or,Bool.and_eq_true] at hi
    exact hi.1) (j:=j) (by simp only [hSj,Bool.not_false]) (by rw [T5];simp) os.length hlt
   omega
  ·rw [T5] at hk ⊢
   simp only [Bool.or_eq_true,beq_iff_eq] at hk ⊢
   rcases hk with hk | rfl
   ·exact .inl (hcl k hk i hi)
   ·exact .inl (hbj i hi)
  ·rw [T5] at hS
   simp only [Bool.or_eq_false_iff,beq_eq_false_iff_ne] at hS
   have hf:=hfr i hi hS.1 b hb1 hb2
   have hout:b<nid0+64*j∨nid0+64*j+64≤b:=by
    rcases Nat.lt_or_gt_of_ne hS.2 with h2 | h2 <;> omega
   refine ⟨by rw [hd.frame b hf.2 hout];exact hf.1,?_⟩
   rw [hS',← e2];exact rz hu hf.2 hout
  ·have hf:=hfr2 b hb
   have hout:b<nid0+64*j∨nid0+64*j+64≤b:=by omega
   refine ⟨by rw [hd.frame b hf.2 hout];exact hf.1,?_⟩
   rw [hS',← e2];exact rz hu hf.2 hout
end
end Go.Pm
end
section
set_option linter.unusedVariables false
set_option linter.unusedSimpArgs false
namespace Go.Pm
open Go
theorem tH:∀ (l:List (List Nat)) (k:Nat),qA l k=(l[k]?).getD []
 | [],k=>by simp [qA]
 | x::r,0=>by simp [qA]
 | x::r,k+1=>by simp [qA,tH r k]
theorem qf {acc:List (List Nat)}:∀ {es:List Edge} {i:Nat},i∈lv acc es→∃ e∈es,Region.binds .any e=true∧(i=e.on∨i∈qA acc e.on)
 | [],i,h=>by simp [lv] at h
 | e::r,i,h=>by
  unfold lv at h
  split at h
  ·rename_i hb
   rcases List.mem_cons.1 h with rfl | h
   ·exact ⟨e,by simp,hb,.inl rfl⟩
   ·rcases List.mem_append.1 h with h | h
    ·exact ⟨e,by simp,hb,.inr h⟩
    ·obtain ⟨e',h1,h2⟩:=qf h;exact ⟨e',by simp [h1],h2⟩
  ·obtain ⟨e',h1,h2⟩:=qf h;exact ⟨e',by simp [h1],h2⟩
theorem ov:∀ (os:List Oper) (acc:List (List Nat)),∃ t,rl os acc=acc ++ t∧t.length=os.length
 | [],acc=>⟨[],by simp [rl],rfl⟩
 | o::r,acc=>by
  obtain ⟨t,h1,h2⟩:=ov r (acc ++ [lv acc o.after.toList])
  exact ⟨lv acc o.after.toList::t,by simp [rl,h1],by simp [h2]⟩
theorem yr:∀ (os:List Oper) (acc:List (List Nat)) (m:Nat) (o:Oper) (i:Nat),os[m]?=some o→i∈qA (rl os acc) (acc.length+m)→∃ e∈o.after.toList,Region.binds .any e=true∧(i=e.on∨i∈qA (rl os acc) e.on)
 | [],acc,m,o,i,ho,_=>by simp at ho
 | x::r,acc,0,o,i,ho,hi=>by
  simp at ho;subst ho
  obtain ⟨t,h1,h2⟩:=ov r (acc ++ [lv acc x.after.toList])
  simp only [rl] at hi ⊢
  rw [h1] at hi ⊢
  have e1:qA (acc ++ [lv acc x.after.toList] ++ t) (acc.length+0)=lv acc x.after.toList:=by
   rw [tH];simp
  rw [e1] at hi
  obtain ⟨e,g1,g2,g3⟩:=qf hi
  refine ⟨e,g1,g2,g3.imp id fun h=>?_⟩
  rw [tH] at h ⊢
  rcases Nat.lt_or_ge e.on acc.length with h' | h'
  ·rw [List.append_assoc,List.getElem?_append_left h'];exact h
  ·rw [List.getElem?_eq_none h'] at h;simp at h
 | x::r,acc,m+1,o,i,ho,hi=>by
  simp only [rl] at hi ⊢
  have:=yr r (acc ++ [lv acc x.after.toList]) m o i (by simpa using ho) (by
   have:(acc ++ [lv acc x.after.toList]).length+m=acc.length+(m+1):=by simp;omega
   rw [this];exact hi)
  exact this
theorem pj {ops:Array Oper} {ps:List (Nat × Nat)} {y:Oper} {bj:List Nat}:∀ {xs:List Oper} {i j:Nat},indepRow ops ps y bj i xs j=true→∀ (m:Nat) (x:Oper),xs[m]?=some x→i+m<j→
  i+m∈bj∨Dn ops ps (i+m) j x y=true
 | [],i,j,_,m,x,hx,_=>by simp at hx
 | x0::xs,i,j,h,m,x,hx,hm=>by
  have hji:¬ j≤i:=by omega
  simp only [indepRow,hji,decide_false,Bool.false_or,Bool.and_eq_true,Bool.or_eq_true] at h
  cases m with
  | zero=>
   simp at hx;subst hx
   exact h.1.imp (fun q=>gF.1 q) id
  | succ m=>
   have:=pj h.2 m x (by simpa using hx) (by omega)
   have e:i+1+m=i+(m+1):=by omega
   rw [e] at this;exact this
theorem pk {ops:Array Oper} {ps:List (Nat × Nat)} {xs:List Oper}:∀ {ys:List Oper} {rs:List (List Nat)} {j:Nat},indepAll ops ps xs j ys rs=true→∀ (m:Nat) (y:Oper) (bj:List Nat),ys[m]?=some y→rs[m]?=some bj→
  indepRow ops ps y bj 0 xs (j+m)=true
 | [],rs,j,_,m,y,bj,hy,_=>by simp at hy
 | y0::ys,[],j,_,m,y,bj,_,hr=>by simp at hr
 | y0::ys,r0::rs,j,h,m,y,bj,hy,hr=>by
  simp only [indepAll,Bool.and_eq_true] at h
  cases m with
  | zero=>simp at hy hr;subst hy;subst hr;exact h.1
  | succ m=>
   have:=pk h.2 m y bj (by simpa using hy) (by simpa using hr)
   have e:j+1+m=j+(m+1):=by omega
   rw [e] at this;exact this
theorem y3:∀ (es:List Eff) (i:Nat),lM es i=dS es i
 | [],i=>by simp [lM,dS]
 | e::r,0=>by simp [lM,dS]
 | e::r,i+1=>by have:=y3 r i;simp [lM,dS] at this ⊢;exact this
theorem u0 {es:List Eff}:∀ {ps:List (Nat × Nat)} {i j:Nat},cO es ps=true→Po ps i j=true→kM (dS es i) (dS es j)=true
 | [],i,j,_,h=>by simp [Po] at h
 | (a,b)::r,i,j,h,hp=>by
  simp only [cO,Bool.and_eq_true] at h
  simp only [Po,Bool.or_eq_true,Bool.and_eq_true,beq_iff_eq] at hp
  rcases hp with ⟨rfl,rfl⟩ | hp
  ·rw [y3,y3] at h;exact h.1
  ·exact u0 h.2 hp
theorem uw {E:Env} {C:Callee} {os:List Oper} {rd:Rd} {tm:List PV} {nid:Nat} {o:Oper} {e:Eff} (h:stepOp E C os rd nid tm o=some e) (hq:jV o.op=true):e.upd=[]∧e.foot=[]:=by
 unfold stepOp at h
 split at h
 ·unfold dK at h
  split at h
  ·rename_i f args ats ho;rw [ho] at hq;simp [jV] at hq
  ·exact NU h hq
 ·simp at h;subst h;exact ⟨rfl,rfl⟩
 ·simp at h
theorem sC {E:Env} {C:Callee} {os:List Oper} {rd:Rd} {tm:List PV} {nid:Nat} {o:Oper} {e:Eff} (h:stepOp E C os rd nid tm o=some e) (hq:isLoad o.op=true):e.upd=[]:=by
 unfold stepOp at h
 split at h
 ·unfold dK at h
  split at h
  ·rename_i f args ats ho;rw [ho] at hq;simp [isLoad] at hq
  ·exact J8 h hq
 ·simp at h;subst h;rfl
 ·simp at h
theorem yk {xs ys:List Nat} (h:Ay xs ys=true) {a:Nat} (ha:a∈xs):a ∉ ys:=fun hm=>by
 simp only [Ay,List.all_eq_true,Bool.not_eq_true'] at h
 have:=h a ha
 rw [gF.2 hm] at this;simp at this
theorem sk {a b:Eff} (h:(a.upd=[]∧a.foot=[])∨(b.upd=[]∧b.foot=[])∨(a.upd=[]∧b.upd=[])):kM a b=true:=by
 obtain ⟨av,au,af⟩:=a
 obtain ⟨bv,bu,bf⟩:=b
 have d:∀ l:List Nat,Ay l []=true:=fun l=>by simp [Ay,has]
 rcases h with ⟨h1,h2⟩ | ⟨h1,h2⟩ | ⟨h1,h2⟩
 ·simp only at h1 h2;subst h1;subst h2;simp only [kM,dy,List.append_nil,d,Bool.and_true];rfl
 ·simp only at h1 h2;subst h1;subst h2;simp only [kM,dy,List.append_nil,d,Bool.true_and];rfl
 ·simp only at h1 h2;subst h1;subst h2;rfl
theorem Kf {ops:Array Oper} {os:List Oper} {es:List Eff} {i j:Nat} {x y:Oper} (hx:os[i]?=some x) (hy:os[j]?=some y) (h1:x.apart ops y=true) (h:kM (dS es i) (dS es j)=true) :
  Ind os es ops i j∧Ind os es ops j i:=by
 simp only [kM,Bool.and_eq_true] at h
 obtain ⟨h2,h3⟩:=h
 obtain ⟨a1,a2,a3⟩:=Oper.apart_spec h1
 have nw:∀ {u:Upd} {c:Nat},c ∉ dy u→wrote u c=none:=fun {u c} hc=>by
  cases hw:wrote u c with
  | none=>rfl
  | some q=>exact absurd (oA (by rw [hw];rfl)) hc
 refine ⟨⟨fun d z hd hz=>?_,fun c hc=>?_⟩,⟨fun d z hd hz=>?_,fun c hc=>?_⟩⟩
 ·rw [hy] at hz;simp at hz;subst hz
  simp [gN,hx] at hd
  exact ⟨a1 d hd,a2 d hd⟩
 ·have:=yk h2 (oA hc)
  simp only [List.mem_append,not_or] at this
  exact ⟨this.1,nw this.2⟩
 ·rw [hx] at hz;simp at hz;subst hz
  simp [gN,hy] at hd
  exact ⟨a3 d hd,fun hxd=>a2 d hxd hd⟩
 ·have:=yk h3 (oA hc)
  simp only [List.mem_append,not_or] at this
  exact ⟨this.1,nw this.2⟩
section
variable {P:Program} {w w':World} {B B':Nat→Prop} {β β':Map} {rd rd':Rd} {tm tm':List PV} {a:Act}
theorem B7 (os:List Oper) (es:List Eff) (tm0:List PV) (rd0:Rd):tmL os es tm0 (cr 0)=tm0∧rdV os es rd0 (cr 0)=rd0:=by
 have hl:∀ (p:Nat→Bool) n,(∀ i,p i=false)→pc p n=none:=fun p n h=>by
  induction n with
  | zero=>rfl
  | succ n ih=>simp [pc,h n,ih]
 refine ⟨tG (by simp [jj]) fun t=>?_,?_⟩
 ·rw [iM]
  unfold tmV
  rw [hl _ _ fun i=>by simp [cr]]
  split
  ·rfl
  ·rename_i h;rw [qz (by omega)]
 ·funext b
  unfold rdV
  rw [hl _ _ fun i=>by simp [cr]]
theorem region_ok {E:Env} {C:Callee} (hT:du P E.tab) (hC:eZ P E.resK C) {pairs:Nat→List (Nat × Nat)} {id:Nat} {ops:Array Oper} {draw:Bool} (hok:fZ pairs (.region id ops draw)=true) {st st':St} (h:fj E C ops draw (pairs id) st=some st')
  (hs:Sim w B β (look st.heap)) (ha:eb w B β st.tmps a) (hf:∀ b,st.next≤b→β b=none∧look st.heap b=none) {Q:Exit→Act→World→Prop}
  (hQ:∀ w' B' β' a',Stand w B β (look st.heap) w' B' β' (look st'.heap) st'.tmps a' st'.next→Q .normal a' w'):(Code.region id ops draw).wp P Q a w:=by
 unfold fj at h
 split at h
 ·rename_i tm1 h1 es hev
  cases draw with
  | false=>
   simp at h;subst h
   refine wp_region ?_
   rw [List.range_eq_range']
   have:=seq_ok hT hC (P:=P) (Q:=Q) (w0:=w) (B0:=B) (β0:=β) (rd0:=look st.heap) ops.toList 0 st.next st.tmps st.heap es w B β a (fun i o hi=>by simpa using hi) hev ⟨.refl hs,ha,hf⟩ (fun w' B' β' a' hst=>hQ w' B' β' a' (by simpa using hst))
   simpa using this
  | true=>
   simp only [Bool.not_true,Bool.false_or] at h
   split at h
   ·rename_i Ki
    simp at h;subst h
    simp only [fZ,Bj,Bool.and_eq_true] at hok
    obtain ⟨⟨⟨⟨hdown,hany⟩,htext⟩,hgc⟩,hall⟩:=hok
    have hz:=B7 ops.toList es st.tmps (look st.heap)
    obtain ⟨r1,r2,r3,r4⟩:=yh ops.toList es st.tmps (look st.heap) (nid0:=st.next) ops.toList [] es 0 st.tmps st.heap rfl rfl rfl hz.1.symm hz.2.symm hev
    have hrec:Rec ops.toList es st.tmps (look st.heap) E C st.next:=⟨r1,fun j o ho=>r2 j o (Nat.zero_le _) ho⟩
    obtain ⟨t,hbt,hbl⟩:=ov ops.toList []
    simp only [List.nil_append] at hbt
    have Kh:∀ i j,i<j→j<ops.toList.length→i∈qA (rl ops.toList []) j∨(Ind ops.toList es ops i j∧Ind ops.toList es ops j i):=fun i j hij hj=>by
     have hjb:j<(rl ops.toList []).length:=by rw [hbt,hbl];exact hj
     have hi:i<ops.toList.length:=by omega
     have hrow:=pk hall j _ _ (List.getElem?_eq_getElem hj) (List.getElem?_eq_getElem hjb)
     rw [Nat.zero_add] at hrow
     rcases pj hrow i _ (List.getElem?_eq_getElem hi) (by omega) with h2 | h2
     ·rw [Nat.zero_add] at h2
      refine .inl ?_
      rw [tH,List.getElem?_eq_getElem hjb];exact h2
     ·rw [Nat.zero_add] at h2
      simp only [Dn,Bool.and_eq_true,Bool.or_eq_true] at h2
      have hsi:=hrec.step i _ (List.getElem?_eq_getElem hi)
      have hsj:=hrec.step j _ (List.getElem?_eq_getElem hj)
      refine .inr (Kf (List.getElem?_eq_getElem hi) (List.getElem?_eq_getElem hj) h2.1 ?_)
      rcases h2.2 with ((h3 | h3) | h3) | h3
      ·exact sk (.inl (uw hsi h3))
      ·exact sk (.inr (.inl (uw hsj h3)))
      ·exact sk (.inr (.inr ⟨sC hsi h3.1,sC hsj h3.2⟩))
      ·exact u0 Ki h3
    have hbef:∀ j o i,ops.toList[j]?=some o→i∈qA (rl ops.toList []) j→∃ e∈o.after.toList,Region.binds .any e=true∧(i=e.on∨i∈qA (rl ops.toList []) e.on):=fun j o i ho hi=>yr ops.toList [] j o i ho (by simpa using hi)
    have any:∀ (md:Region.Mode) (order:List Nat) (t:Nat),iL md ops.toList [] order=true→wpOps P ops Q (Region.linearise md ops t) a {w with drawn:=w.drawn+1}:=fun md order t hmd=>by
     have hS:(fun i=>(Array.replicate ops.size false).getD i false)=cr 0:=by
      funext i
      simp [cr,Array.getElem?_replicate]
      split <;> rfl
     have hsd:=Step.draw hs (w.drawn+1)
     refine wpAny_sound ops.size t _ a _ (Vf ops.toList es st.tmps (look st.heap) hT hC rfl hrec (qA (rl ops.toList [])) Kh hbef hmd (fun w' B' β' a' hst=>hQ w' B' β' a' ?_) ops.size (Array.replicate ops.size false) {w with drawn:=w.drawn+1} B β a (by simp) ?_ (fun j hj=>?_) (by rw [hS,hz.2];exact hsd) (by rw [hS,hz.1];exact ha.step hs hsd) (fun i hi _ b hb1 hb2=>by rw [hS,hz.2];exact hf b (by omega)) (fun b hb=>by rw [hS,hz.2];exact hf b (by omega)))
     ·rw [← r3,← r4] at hst;simpa using hst
     ·have:=QK (fun i=>!(Array.replicate ops.size false).getD i false) ops.toList.length
      simpa using this
     ·have:=congrFun hS j
      simp only [cr] at this
      rw [this] at hj;simp at hj
    refine wp_region_draw fun t=>?_
    unfold Region.schedule
    split
    ·exact any .any _ t hany
    ·split
     ·exact any .text _ _ htext
     ·exact any .gc _ _ hgc
   ·simp at h
 ·simp at h
end
end Go.Pm
end
section
set_option linter.unusedVariables false
set_option linter.unusedSimpArgs false
namespace Go.Pm
open Go
section
variable {P:Program} {w w' w0:World} {B B' B0:Nat→Prop} {β β' β0:Map} {rd rd' rd0:Rd} {tm tm':List PV} {a:Act}
theorem Step.ahC (hs:Sim w B β rd) {b:Nat} {cs cs':List PV} (hb:rd b=some (.box cs)) (hc:∀ vs,Vs w B β cs vs→Vs w B β cs' vs):Step w B β rd w B β (cd rd b (some (.box cs'))):=by
 have hcase:∀ d p,cd rd b (some (.box cs')) d=some p→(d=b∧p=.box cs')∨(d≠b∧rd d=some p):=fun d p h=>by
  unfold cd at h
  split at h
  ·rename_i hd;simp at h;exact .inl ⟨hd,h.symm⟩
  ·rename_i hd;exact .inr ⟨hd,h⟩
 have hsome:∀ d p,cd rd b (some (.box cs')) d=some p→∃ q,rd d=some q:=fun d p h=>by
  rcases hcase d p h with ⟨rfl,_⟩ | ⟨_,h⟩
  ·exact ⟨_,hb⟩
  ·exact ⟨_,h⟩
 refine ⟨Sim.of (fun d p hd=>?_) (fun d p l hd hp hl=>?_) (fun d d' p q l m hd hd' hne hl hm=>?_) hs.lt (fun d k xs fl l hd hl=>?_),.refl _ _,fun _ h=>h,fun _ h=>.inl h,?_,?_,fun _ _ h=>h⟩
 ·rcases hcase d p hd with ⟨rfl,rfl⟩ | ⟨_,h⟩
  ·obtain ⟨l,c,e,h1,h2,h3,h4,h5⟩:=hs.box d cs hb
   exact .inl ⟨l,h1,c,e,h3,h2,hc _ h4,h5⟩
  ·exact hs.cases h
 ·rcases hcase d p hd with ⟨rfl,rfl⟩ | ⟨_,h⟩
  ·exact hs.excl d _ l hb (by simp) hl
  ·exact hs.excl d p l h hp hl
 ·obtain ⟨p',h1⟩:=hsome d p hd
  obtain ⟨q',h2⟩:=hsome d' q hd'
  exact hs.inj d d' p' q' l m h1 h2 hne hl hm
 ·rcases hcase d _ hd with ⟨rfl,h⟩ | ⟨_,h⟩
  ·simp at h
  ·exact hs.frz d k xs fl l h hl
 ·rintro bl ⟨d,p,l,h1,h2,h3,rfl⟩
  rcases hcase d p h1 with ⟨rfl,rfl⟩ | ⟨_,h⟩
  ·exact .inl ⟨d,_,l,hb,by simp,h3,rfl⟩
  ·exact .inl ⟨d,p,l,h,h2,h3,rfl⟩
 ·rintro bl ⟨d,p,l,h1,h3,rfl⟩
  rcases hcase d p h1 with ⟨rfl,rfl⟩ | ⟨_,h⟩
  ·exact .inl ⟨d,_,l,hb,h3,rfl⟩
  ·exact .inl ⟨d,p,l,h,h3,rfl⟩
def rq (β:Map) (rd:Rd) (nx:Nat):Prop:=∀ b,nx≤b→β b=none∧rd b=none
theorem sI {v:PV} {h:List (Nat × bq)} {nx k:Nat} {flat:Bool} (hs:Sim w B β (look h)) (hf:rq β (look h) nx) {v':PV} {h':List (Nat × bq)} {nx':Nat} (he:gC v h nx k flat=(v',h',nx')) :
  Step w B β (look h) w B β (look h')∧rq β (look h') nx'∧(∀ u,V w B β v u→V w B β v' u)∧(∀ a cs,look h a=some (.box cs)→look h' a=some (.box cs)):=by
 unfold gC at he
 split at he
 ·simp at he;obtain ⟨rfl,rfl,rfl⟩:=he
  have h0:=hf nx (Nat.le_refl _)
  refine ⟨?_,fun b hb=>?_,fun u hu=>?_,fun a cs ha=>?_⟩
  ·rw [ff];exact Step.acw hs h0.1 h0.2 k flat
  ·rw [ff]
   have:=hf b (by omega)
   refine ⟨this.1,?_⟩
   unfold cd
   rw [if_neg (by omega)];exact this.2
  ·cases hu;exact .kU _ _ _ _
  ·rw [ff]
   unfold cd
   split
   ·rename_i hx;subst hx;rw [h0.2] at ha;simp at ha
   ·exact ha
 ·simp at he;obtain ⟨rfl,rfl,rfl⟩:=he
  exact ⟨.refl hs,hf,fun u hu=>hu,fun a cs h=>h⟩
theorem kW:∀ {ks:List (Nat × Nat × Bool)} {v:PV} {h:List (Nat × bq)} {nx:Nat},Sim w B β (look h)→rq β (look h) nx→∀ {v':PV} {h':List (Nat × bq)} {nx':Nat},dI v h nx ks=(v',h',nx')→
  Step w B β (look h) w B β (look h')∧rq β (look h') nx'∧(∀ u,V w B β v u→V w B β v' u)
 | [],v,h,nx,hs,hf,v',h',nx',he=>by
  simp [dI] at he;obtain ⟨rfl,rfl,rfl⟩:=he
  exact ⟨.refl hs,hf,fun u hu=>hu⟩
 | (c,k,flat)::r,v,h,nx,hs,hf,v',h',nx',he=>by
  unfold dI at he
  split at he
  ·rename_i a
   split at he
   ·rename_i cs ha
    split at he
    rename_i x h1 nx1 hc
    obtain ⟨g1,g2,g3,g4⟩:=sI hs hf hc
    have hb:=g4 a cs ha
    have st:=Step.ahC g1.sim hb (cs':=put cs c x) fun vs hv=>by
     refine ⟨by rw [jv];exact hv.1,fun i p u h1 h2=>?_⟩
     have hi:i<cs.length:=by
      rcases Nat.lt_or_ge i cs.length with h' | h'
      ·exact h'
      ·rw [List.getElem?_eq_none (by rw [jv];exact h')] at h1;simp at h1
     have hp:nth (put cs c x) i=p:=hJ h1
     rw [tF] at hp
     have ho:=hv.2 i _ u (List.getElem?_eq_getElem hi) h2
     rw [← hJ (List.getElem?_eq_getElem hi)] at ho
     split at hp
     ·rename_i hic
      rw [hic.1] at ho
      rw [← hp]
      exact g3 u ho
     ·rw [← hp];exact ho
    rw [← ff] at st
    have hf':rq β (look (setObj h1 a (.box (put cs c x)))) nx1:=fun b hb'=>by
     have:=g2 b hb'
     rw [ff]
     unfold cd
     split
     ·rename_i hx;subst hx;rw [this.2] at hb;simp at hb
     ·exact this
    obtain ⟨q1,q2,q3⟩:=kW st.sim hf' he
    exact ⟨(g1.trans st).trans q1,q2,q3⟩
   ·exact kW hs hf he
  ·split at he
   rename_i x h1 nx1 hc
   obtain ⟨g1,g2,g3,g4⟩:=sI hs hf hc
   obtain ⟨q1,q2,q3⟩:=kW g1.sim g2 he
   exact ⟨g1.trans q1,q2,fun u hu=>q3 u (g3 u hu)⟩
theorem qG:∀ {tm:List PV} {n:Nat} {ks:List (Nat × List (Nat × Nat × Bool))} {h:List (Nat × bq)} {nx:Nat},Sim w B β (look h)→rq β (look h) nx→∀ {tm':List PV} {h':List (Nat × bq)} {nx':Nat},keepT h nx tm n ks=(tm',h',nx')→
  Step w B β (look h) w B β (look h')∧rq β (look h') nx'∧(∀ us,Vs w B β tm us→Vs w B β tm' us)
 | [],n,ks,h,nx,hs,hf,tm',h',nx',he=>by
  cases ks <;> simp [keepT] at he <;> obtain ⟨rfl,rfl,rfl⟩:=he <;> exact ⟨.refl hs,hf,fun u hu=>hu⟩
 | v::r,n,[],h,nx,hs,hf,tm',h',nx',he=>by
  simp only [keepT] at he
  rcases hk:keepT h nx r (n+1) [] with ⟨r',h1,nx1⟩
  rw [hk] at he
  simp at he;obtain ⟨rfl,rfl,rfl⟩:=he
  obtain ⟨g1,g2,g3⟩:=qG hs hf hk
  refine ⟨g1,g2,fun us hu=>?_⟩
  obtain ⟨u,us',rfl,h2,h3⟩:=hu.cN
  exact .cons (.undef u) (g3 us' h3)
 | v::r,n,(t,cs)::ks,h,nx,hs,hf,tm',h',nx',he=>by
  simp only [keepT] at he
  split at he
  ·rcases hn:dI v h nx cs with ⟨v',h1,nx1⟩
   rw [hn] at he
   rcases hk:keepT h1 nx1 r (n+1) ks with ⟨r',h2,nx2⟩
   simp only [hk] at he
   simp at he;obtain ⟨rfl,rfl,rfl⟩:=he
   obtain ⟨g1,g2,g3⟩:=kW hs hf hn
   obtain ⟨q1,q2,q3⟩:=qG g1.sim g2 hk
   refine ⟨g1.trans q1,q2,fun us hu=>?_⟩
   obtain ⟨u,us',rfl,h3,h4⟩:=hu.cN
   exact .cons (g3 u h3) (q3 us' h4)
  ·rcases hk:keepT h nx r (n+1) ((t,cs)::ks) with ⟨r',h1,nx1⟩
   rw [hk] at he
   simp at he;obtain ⟨rfl,rfl,rfl⟩:=he
   obtain ⟨g1,g2,g3⟩:=qG hs hf hk
   refine ⟨g1,g2,fun us hu=>?_⟩
   obtain ⟨u,us',rfl,h2,h3⟩:=hu.cN
   exact .cons (.undef u) (g3 us' h3)
theorem In.ren {g:Nat→Option Nat} (hr:∀ j o',rd' j=some o'→∃ a o,rd a=some o∧g a=some j∧o'=e9 g o∧β' j=β a) {b:Nat} (h:In β' rd' b):In β rd b:=by
 obtain ⟨j,o',l,h1,h3,h4⟩:=h
 obtain ⟨a,o,ha,hga,rfl,hβ⟩:=hr j o' h1
 exact ⟨a,o,l,ha,hβ.symm.trans h3,h4⟩
theorem StepR.order (hs:Sim w B β rd) (r:Nat) (vals:List PV) :
  let L:=order rd (upto r) vals
  StepR r w B β rd w B (oQ L β) (look (Pm.picks rd (fun a=>pos L a 0) L 0))∧rq (oQ L β) (look (Pm.picks rd (fun a=>pos L a 0) L 0)) L.length∧r≤L.length∧
   (∀ p u,V w B β p u→V w B (oQ L β) (Pm.ren (fun a=>pos L a 0) p) u)∧∀ ps us,Vs w B β ps us→Vs w B (oQ L β) (Pm.fD (fun a=>pos L a 0) ps) us:=by
 intro L
 obtain ⟨hn,hp⟩:=qx rd vals (CI r)
 have hget:∀ i,i<r→L[i]?=some i:=fun i hi=>hp i i (LL hi)
 refine ⟨⟨hs.picks hn,.refl _ _,fun _ h=>h,fun _ h=>.inl h,fun b hb=>.inl (Mut.ren (nA hn rd β) hb),fun b hb=>.inl (In.ren (nA hn rd β) hb),fun b l hb hl=>by simp [oQ,hget b hb,hl]⟩,
  fun b hb=>uY rd _ L β b hb,?_,fun p u hv=>hv.ren (tC L β),fun ps us hv=>hv.ren (tC L β)⟩
 rcases Nat.eq_zero_or_pos r with h0 | h0
 ·omega
 ·have:=hget (r - 1) (by omega)
  rcases Nat.lt_or_ge (r - 1) L.length with h1 | h1
  ·omega
  ·rw [List.getElem?_eq_none h1] at this;simp at this
structure Now (r:Nat) (w0:World) (B0:Nat→Prop) (β0:Map) (rd0:Rd) (w:World) (B:Nat→Prop) (β:Map) (st:St) (a:Act):Prop where
 step:StepR r w0 B0 β0 rd0 w B β (look st.heap)
 tms:eb w B β st.tmps a
 free:rq β (look st.heap) st.next
theorem eb.vs (h:eb w B β tm a):Vs w B β tm a.tmps.toList:=
 ⟨by simpa using h.len,fun i c v h1 h2=>by
  have:=h.val i
  rw [hJ h1] at this
  have h3:a.tmps[i]?=some v:=by simpa using h2
  simpa [h3] using this⟩
theorem eb.XG (h:Vs w B β tm a.tmps.toList) (hd:a.defers=[]):eb w B β tm a:=
 ⟨by simpa using h.1,fun t=>by
  rcases Nat.lt_or_ge t tm.length with h1 | h1
  ·obtain ⟨v,h2,h3⟩:=h.get (List.getElem?_eq_getElem h1)
   rw [hJ (List.getElem?_eq_getElem h1)]
   have h4:a.tmps[t]?=some v:=by simpa using h2
   simpa [h4] using h3
  ·rw [qz h1];exact .undef _,hd⟩
theorem Cr {r:Nat} {ks:List (Nat × List (Nat × Nat × Bool))} {st:St} (h:Now r w0 B0 β0 rd0 w B β st a):∃ β',Now r w0 B0 β0 rd0 w B β' (clean r ks st) a:=by
 unfold clean
 split
 rename_i tm h1 nx hk
 obtain ⟨g1,g2,g3⟩:=qG h.step.sim h.free hk
 have hv:=g3 _ h.tms.vs
 unfold canon
 obtain ⟨q1,q2,q3,q4,q5⟩:=StepR.order g1.sim r tm
 exact ⟨_,(h.step.trans (g1.toR r)).trans q1,eb.XG (q5 _ _ hv) h.tms.def0,q2⟩
theorem wD {r:Nat} {ks:Option (List (Nat × List (Nat × Nat × Bool)))} {st:St} (h:Now r w0 B0 β0 rd0 w B β st a):∃ β',Now r w0 B0 β0 rd0 w B β' (dx r ks st) a:=by
 cases ks with
 | none=>exact ⟨β,h⟩
 | some ks=>exact Cr h
def Qa:Ex→Exit
 | .normal=>.normal
 | .exit id=>.exit id
 | .ret=>.ret
theorem least (J:Nat→Prop):∀ n,J n→∃ m,J m∧∀ k,J k→m≤k:=by
 intro n
 induction n using Nat.strongRecOn with
 | _ n ih=>
  intro h
  by_cases hk:∃ k,k<n∧J k
  ·obtain ⟨k,h1,h2⟩:=hk;exact ih k h1 h2
  ·exact ⟨n,h,fun k hj=>by
    rcases Nat.lt_or_ge k n with h1 | h1
    ·exact absurd ⟨k,h1,hj⟩ hk
    ·exact h1⟩
open Classical in
theorem I3 {c:Code} {Q:Exit→Act→World→Prop} (J:Nat→Act→World→Prop) {n:Nat} (h0:J n a w)
  (round:∀ n a w,J n a w→c.wp P (Exit.then (fun a' w'=>∃ m,m<n∧J m a' w') Q) a w):(Code.loop c).wp P Q a w:=by
 have hmin:∀ a w,(∃ n,J n a w)→∃ m,J m a w∧∀ k,J k a w→m≤k:=fun a w ⟨n,h⟩=>least (fun k=>J k a w) n h
 let μ:Act→World→Nat:=fun a w=>if h:∃ n,J n a w then Classical.choose (hmin a w h) else 0
 have hμ:∀ a w,(∃ n,J n a w)→J (μ a w) a w∧∀ k,J k a w→μ a w≤k:=fun a w h=>by
  simp only [μ,h,↓reduceDIte]
  exact Classical.choose_spec (hmin a w h)
 refine wp_loop (fun a w=>∃ n,J n a w) μ ⟨n,h0⟩ fun a w hI=>?_
 refine wp_mono (round (μ a w) a w (hμ a w hI).1) fun e a' w' hq=>?_
 cases e with
 | normal=>
  obtain ⟨m,hm,hj⟩:=hq
  exact ⟨⟨m,hj⟩,Nat.lt_of_le_of_lt ((hμ a' w' ⟨m,hj⟩).2 m hj) hm⟩
 | _=>exact hq
theorem Now.region {E:Env} {C:Callee} (hT:du P E.tab) (hC:eZ P E.resK C) {pairs:Nat→List (Nat × Nat)} {r id:Nat} {ops:Array Oper} {draw:Bool} (hok:fZ pairs (.region id ops draw)=true) {st st':St} (h:fj E C ops draw (pairs id) st=some st')
  (hn:Now r w0 B0 β0 rd0 w B β st a) {Q:Exit→Act→World→Prop} (hQ:∀ w' B' β' a',Now r w0 B0 β0 rd0 w' B' β' st' a'→Q .normal a' w'):(Code.region id ops draw).wp P Q a w:=
 region_ok hT hC hok h hn.step.sim hn.tms hn.free fun w' B' β' a' hs=>hQ w' B' β' a' ⟨hn.step.trans (hs.step.toR r),hs.tms,hs.free⟩
theorem tW {E:Env} {C:Callee} (hT:du P E.tab) (hC:eZ P E.resK C) {r n f:Nat}:∀ (c:Code) (blk:Nat) (st:St) (ex:Ex) (st':St),fZ (E.pairs f) c=true→ca E C n f r blk c st=some (ex,st')→
  ∀ (w:World) (B:Nat→Prop) (β:Map) (a:Act) (Q:Exit→Act→World→Prop),Now r w0 B0 β0 rd0 w B β st a→(∀ w' B' β' a',Now r w0 B0 β0 rd0 w' B' β' st' a'→Q (Qa ex) a' w')→c.wp P Q a w:=by
 intro c
 induction c with
 | skip=>
  intro blk st ex st' hok h w B β a Q hn hQ
  simp [ca] at h;obtain ⟨rfl,rfl⟩:=h
  exact wp_skip (hQ w B β a hn)
 | region id ops draw=>
  intro blk st ex st' hok h w B β a Q hn hQ
  simp only [ca,Option.map_eq_some_iff] at h
  obtain ⟨st1,h1,h2⟩:=h
  simp at h2;obtain ⟨rfl,rfl⟩:=h2
  obtain ⟨β1,hn1⟩:=wD (ks:=E.keepR f id) hn
  exact hn1.region hT hC hok h1 hQ
 | seq x y ihx ihy=>
  intro blk st ex st' hok h w B β a Q hn hQ
  simp only [fZ,Bool.and_eq_true] at hok
  simp only [ca] at h
  refine wp_seq ?_
  split at h
  ·rename_i st1 h1
   exact ihx blk st .normal st1 hok.1 h1 w B β a _ hn fun w' B' β' a' hn'=>ihy blk st1 ex st' hok.2 h w' B' β' a' Q hn' hQ
  ·rename_i hne
   refine ihx blk st ex st' hok.1 h w B β a _ hn fun w' B' β' a' hn'=>?_
   cases ex with
   | normal=>exact absurd h (hne st')
   | exit i=>exact hQ w' B' β' a' hn'
   | ret=>exact hQ w' B' β' a' hn'
 | cond c x y ihx ihy=>
  intro blk st ex st' hok h w B β a Q hn hQ
  simp only [fZ,Bool.and_eq_true] at hok
  simp only [ca] at h
  split at h
  ·rename_i t ht
   have hv:=(ck hn.tms ht).wM
   refine wp_cond hv ?_
   cases t with
   | true=>exact ihx blk st ex st' hok.1 (by simpa using h) w B β a Q hn hQ
   | false=>exact ihy blk st ex st' hok.2 (by simpa using h) w B β a Q hn hQ
  ·simp at h
 | block id x ih=>
  intro blk st ex st' hok h w B β a Q hn hQ
  simp only [fZ] at hok
  simp only [ca] at h
  refine wp_block ?_
  split at h
  ·rename_i i st1 h1
   refine ih id st (.exit i) st1 hok h1 w B β a _ hn fun w' B' β' a' hn'=>?_
   simp only [Qa,Exit.inBlock]
   split at h
   ·rename_i hi
    simp at h;obtain ⟨rfl,rfl⟩:=h
    rw [if_pos hi];exact hQ w' B' β' a' hn'
   ·rename_i hi
    simp at h;obtain ⟨rfl,rfl⟩:=h
    rw [if_neg hi];exact hQ w' B' β' a' hn'
  ·rename_i hne
   refine ih id st ex st' hok h w B β a _ hn fun w' B' β' a' hn'=>?_
   cases ex with
   | normal=>exact hQ w' B' β' a' hn'
   | exit i=>exact absurd h (hne i st')
   | ret=>exact hQ w' B' β' a' hn'
 | loop x ih=>
  intro blk st ex st' hok h w B β a Q hn hQ
  simp only [fZ] at hok
  simp only [ca] at h
  refine I3 (n:=n) (fun m a w=>∃ st B β,iter (clean r (E.keep f blk)) (ca E C n f r blk x) m st=some (ex,st')∧Now r w0 B0 β0 rd0 w B β st a) ⟨st,B,β,h,hn⟩ ?_
  rintro m a w ⟨st,B,β,hit,hn⟩
  cases m with
  | zero=>simp [iter] at hit
  | succ m=>
   simp only [iter] at hit
   obtain ⟨β',hn'⟩:=Cr (ks:=E.keep f blk) hn
   split at hit
   ·rename_i st1 h1
    exact ih blk _ .normal st1 hok h1 w B β' a _ hn' fun w' B' β'' a' T1=>⟨m,by omega,st1,B',β'',hit,T1⟩
   ·rename_i hne
    refine ih blk _ ex st' hok hit w B β' a _ hn' fun w' B' β'' a' T1=>?_
    cases ex with
    | normal=>exact absurd hit (hne st')
    | exit i=>exact hQ w' B' β'' a' T1
    | ret=>exact hQ w' B' β'' a' T1
 | exit id=>
  intro blk st ex st' hok h w B β a Q hn hQ
  simp [ca] at h;obtain ⟨rfl,rfl⟩:=h
  exact wp_exit (hQ w B β a hn)
 | ret=>
  intro blk st ex st' hok h w B β a Q hn hQ
  simp [ca] at h;obtain ⟨rfl,rfl⟩:=h
  exact wp_ret (hQ w B β a hn)
 | _=>
  intros
  rename_i h _ _ _ _ _ _ _
  simp [ca] at h
def rD (a:Act):ResultVar→Sem Value
 | .tmp t=>pure (a.tmps.getD t Go.undef)
 | .cell c t=>do loadVar t (← asAddr (a.tmps.getD c Go.undef))
theorem xL {E:Env} (hT:du P E.tab) {st:St} (hs:Sim w B β (look st.heap)) (ha:eb w B β st.tmps a):∀ {rs:List ResultVar} {vs:List PV},cv E.tab st rs=some vs→
  ∃ us:List Value,(rs.mapM (rD a)).run P w=.ok us w∧Vs w B β vs us
 | [],vs,h=>by simp [cv] at h;subst h;exact ⟨[],by simp,.nil⟩
 | r::rs,vs,h=>by
  simp only [cv] at h
  split at h
  ·rename_i v vs' hv hvs
   simp at h;subst h
   obtain ⟨us,h1,h2⟩:=xL hT hs ha hvs
   cases r with
   | tmp t=>
    simp [jq] at hv;subst hv
    exact ⟨a.tmps.getD t Go.undef::us,by simp [List.mapM_cons,h1,rD],.cons (ha.val t) h2⟩
   | cell c t=>
    simp only [jq] at hv
    split at hv
    ·rename_i ti ht
     simp only [Option.map_eq_some_iff] at hv
     obtain ⟨e,he,rfl⟩:=hv
     have hvc:=ha.val c
     obtain ⟨g1,u,g2,g3⟩:=G2 hs (hT t ti ht) he hvc
     have hptr:∃ ad,a.tmps.getD c Go.undef=.pointer (some ad):=by
      generalize nth st.tmps c=p at he hvc
      generalize a.tmps.getD c Go.undef=q at hvc
      unfold loadAt at he
      cases hvc <;> first | exact ⟨_,rfl⟩ | simp at he
     obtain ⟨ad,had⟩:=hptr
     refine ⟨u::us,?_,.cons g3 h2⟩
     rw [had] at g2
     have g2':(loadVar t ad).run P w=.ok u w:=by simpa [Instr.loadAt,Instr.sureAddr] using g2
     simp only [List.mapM_cons,rD,Sem.run_bind,had,asAddr,Sem.run_pure,Result.andThen_ok,g2',h1]
    ·simp at hv
  ·simp at h
theorem Dg {E:Env} (hT:du P E.tab) {fn:Func} {st:St} (hs:Sim w B β (look st.heap)) (ha:eb w B β st.tmps a) {vs:List PV} (h:cv E.tab st fn.results.toList=some vs) :
  ∃ u,(results fn a.tmps).run P w=.ok u w∧V w B β (pack vs) u:=by
 obtain ⟨us,h1,h2⟩:=xL hT hs ha h
 have hfun:(results fn a.tmps)=(do let vs ← fn.results.mapM (rD a);pure (if h:vs.size=1 then vs[0] else .tuple vs)):=by
  unfold results
  have:∀ f:ResultVar→Sem Value,f=rD a→(do let vs ← fn.results.mapM f;pure (if h:vs.size=1 then vs[0] else .tuple vs):Sem Value)=(do let vs ← fn.results.mapM (rD a);pure (if h:vs.size=1 then vs[0] else .tuple vs)):=fun f hf=>by rw [hf]
  exact this _ (funext fun r=>by cases r <;> rfl)
 refine ⟨if h:us.toArray.size=1 then us.toArray[0] else .tuple us.toArray,?_,?_⟩
 ·rw [hfun,Array.mapM_eq_mapM_toList]
  simp [h1]
 ·cases vs with
  | nil=>
   rw [h2.of_nil]
   exact .tup [] #[] rfl fun i c v h=>by simp at h
  | cons v r=>
   cases r with
   | nil=>
    obtain ⟨u,us',rfl,h3,h4⟩:=h2.cN
    rw [h4.of_nil]
    simpa [pack] using h3
   | cons v' r'=>
    obtain ⟨u,us',rfl,h3,h4⟩:=h2.cN
    obtain ⟨u',afS,rfl,h5,h6⟩:=h4.cN
    simp only [pack]
    rw [dif_neg (by simp)]
    exact .tup _ _ (by simpa using h2.1) fun i c v h7 h8=>h2.2 i c v h7 (by simpa using h8)
end
end Go.Pm
end
section
set_option linter.unusedVariables false
set_option linter.unusedSimpArgs false
namespace Go.Pm
open Go
section
variable {P:Program} {w w' w0:World} {B B' B0:Nat→Prop} {β β' β0:Map} {rd rd' rd0:Rd} {tm tm':List PV} {a:Act}
structure iC (P:Program) (resK:Nat→List (Option Nat)) (f:Nat) (p:List PV→Option PV):Prop where
 callable:∀ a5 r,p a5=some r→Callable P f
 calls:∀ a5 r,p a5=some r→∀ (w:World) (B:Nat→Prop) (vs:Array Value),(∀ b,B b→b<w.heap.size)→Vs w B (fun _=>none) a5 vs.toList→
  Calls P f vs w (fun en w'=>∃ v,en=.returned v∧Ext (fun _=>False) w w'∧∃ Bc bs,(∀ b,B b→Bc b)∧(∀ b,Bc b→B b∨w.heap.size≤b)∧(∀ b,Bc b→b<w'.heap.size)∧(∀ b∈bs,¬ Bc b)∧RR w' Bc w.heap.size r (resK f) v bs)
structure yv (P:Program) (f:Nat) (p:List PV→List (Nat × bq)→Nat→Option (PV × List (Nat × bq) × Nat)):Prop where
 callable:∀ args h next v h' nx,p args h next=some (v,h',nx)→Callable P f
 calls:∀ r args h next v h' nx,p args h next=some (v,h',nx)→∀ (w:World) (B:Nat→Prop) (β:Map) (vs:Array Value),Sim w B β (look h)→Vs w B β args vs.toList→
  (∀ b,next≤b→β b=none∧look h b=none)→r≤next→
  Calls P f vs w (fun en w'=>∃ u B' β',en=.returned u∧StepR r w B β (look h) w' B' β' (look h')∧V w' B' β' v u∧∀ b,nx≤b→β' b=none∧look h' b=none)
 ids:∀ args h next v h' nx,p args h next=some (v,h',nx)→(∀ x∈h',x.1<nx)∧(h'.map (·.1)).Nodup
structure rr (P:Program) (E:Env):Prop where
 tab:du P E.tab
 code:∀ f fn,E.code f=some fn→P.funcs[f]?=some fn∧(fn.name == "runtime.NumGoroutine")=false∧∀ c,fn.body=some c→fZ (E.pairs f) c=true
 primP:∀ f p,E.primP f=some p→iC P E.resK f p
 primR:∀ f p,E.primR f=some p→yv P f p
theorem RQ (hB:∀ b,B b→b<w.heap.size):Sim w B (fun _=>none) (look []):=
 (Isle.nil 0 hB).sim
theorem IV {E:Env} {C:Callee} (hE:rr P E) (hC:eZ P E.resK C) {n f nr:Nat} {args:List PV} {h:List (Nat × bq)} {next:Nat} {v:PV} {h':List (Nat × bq)} {nx:Nat}
  (hr:fa E C n f nr args h next=some (v,h',nx)) :
  Callable P f∧∀ (w0:World) (B0:Nat→Prop) (β0:Map) (rd0:Rd) (w:World) (B:Nat→Prop) (β:Map) (vs:Array Value),StepR nr w0 B0 β0 rd0 w B β (look h)→rq β (look h) next→Vs w B β args vs.toList→
   Calls P f vs w (fun en w'=>∃ u B' β',en=.returned u∧StepR nr w0 B0 β0 rd0 w' B' β' (look h')∧rq β' (look h') nx∧V w' B' β' v u):=by
 unfold fa at hr
 split at hr
 ·rename_i fn hfn
  split at hr
  ·rename_i c hc
   split at hr
   ·rename_i ex st1 hev
    split at hr
    ·rename_i hex
     simp only at hr
     generalize hcl:dx nr (E.keepE f) st1=st at hr
     split at hr
     ·rename_i rs hrs
      simp at hr;obtain ⟨rfl,rfl,rfl⟩:=hr
      obtain ⟨h1,h2,h3⟩:=hE.code f fn hfn
      refine ⟨⟨fn,h1,h2,by rw [hc];rfl⟩,fun w0 B0 β0 rd0 w B β vs hst hf hv=>?_⟩
      refine calls_of_wp h1 hc ?_
      refine tW hE.tab hC c 0 _ ex st1 (h3 c hc) hev w B β _ _ ⟨hst,?_,hf⟩ fun w' B' β1 a' hn1=>?_
      ·have hl:args.length=vs.size:=by have:=hv.1;simpa using this
       refine eb.XG ?_ rfl
       simp only [Array.toList_append,Array.toList_replicate]
       rw [hl]
       refine hv.append ⟨by simp,fun i c v h1 h2=>?_⟩
       rw [List.getElem?_replicate] at h1
       split at h1
       ·simp at h1;subst h1;exact .undef _
       ·simp at h1
      ·obtain ⟨β',hn⟩:=wD (ks:=E.keepE f) hn1
       rw [hcl] at hn
       obtain ⟨u,g1,g2⟩:=Dg hE.tab hn.step.sim hn.tms hrs
       have:bodyPost P fn (fun en w'=>∃ u B' β',en=.returned u∧StepR nr w0 B0 β0 rd0 w' B' β' (look st.heap)∧rq β' (look st.heap) st.next∧V w' B' β' (pack rs) u) .normal a' w':=
        ⟨hn.tms.def0,u,g1,u,B',β',rfl,hn.step,hn.free,g2⟩
       rcases hex with rfl | rfl
       ·exact this
       ·exact this
     ·simp at hr
    ·simp at hr
   ·simp at hr
  ·simp at hr
 ·simp at hr
theorem sJ:∀ {ks:List (Nat × List (Nat × Nat × Bool))} {h:List (Nat × bq)} {nx:Nat} {args:List PV},Sim w B β (look h)→rq β (look h) nx→∀ {h':List (Nat × bq)} {nx':Nat},normArgs h nx args ks=(h',nx')→
  Step w B β (look h) w B β (look h')∧rq β (look h') nx'
 | [],h,nx,args,hs,hf,h',nx',he=>by
  simp [normArgs] at he;obtain ⟨rfl,rfl⟩:=he
  exact ⟨.refl hs,hf⟩
 | (i,cs)::r,h,nx,args,hs,hf,h',nx',he=>by
  simp only [normArgs] at he
  rcases hk:dI (nth args i) h nx cs with ⟨v1,h1,nx1⟩
  rw [hk] at he
  obtain ⟨g1,g2,_⟩:=kW hs hf hk
  obtain ⟨q1,q2⟩:=sJ g1.sim g2 he
  exact ⟨g1.trans q1,q2⟩
theorem rF {rd:Rd} {g:Nat→Option Nat}:∀ {L:List Nat} {i:Nat},(∀ x∈Pm.picks rd g L i,i≤x.1∧x.1<i+L.length)∧((Pm.picks rd g L i).map (·.1)).Nodup
 | [],i=>by simp [Pm.picks]
 | a::r,i=>by
  obtain ⟨h1,h2⟩:=rF (rd:=rd) (g:=g) (L:=r) (i:=i+1)
  unfold Pm.picks
  split
  ·refine ⟨fun x hx=>?_,?_⟩
   ·rcases List.mem_cons.1 hx with rfl | hx
    ·simp
    ·have:=h1 x hx;simp;omega
   ·simp only [List.map_cons,List.nodup_cons]
    refine ⟨fun hm=>?_,h2⟩
    simp only [List.mem_map] at hm
    obtain ⟨x,hx,hxi⟩:=hm
    have:=h1 x hx;omega
  ·refine ⟨fun x hx=>?_,h2⟩
   have:=h1 x hx;simp;omega
theorem yF {E:Env} (hE:rr P E):∀ n,eZ P E.resK (run E n)
 | 0=>⟨⟨fun f a5 r h=>by simp [run] at h,fun f a5 r h=>by simp [run] at h⟩,⟨fun f r args h next v h' nx hc=>by simp [run] at hc,fun f r args h next v h' nx hc=>by simp [run] at hc⟩,fun f r args h next v h' nx hc=>by simp [run] at hc⟩
 | n+1=>by
  have ih:=yF hE n
  have pur:∀ f a5 r,(run E (n+1)).pureC f a5=some r→Callable P f∧∀ (w:World) (B:Nat→Prop) (vs:Array Value),(∀ b,B b→b<w.heap.size)→Vs w B (fun _=>none) a5 vs.toList→
    Calls P f vs w (fun en w'=>∃ v,en=.returned v∧Ext (fun _=>False) w w'∧∃ Bc bs,(∀ b,B b→Bc b)∧(∀ b,Bc b→B b∨w.heap.size≤b)∧(∀ b,Bc b→b<w'.heap.size)∧(∀ b∈bs,¬ Bc b)∧RR w' Bc w.heap.size r (E.resK f) v bs):=by
   intro f a5 r h
   simp only [run,level] at h
   split at h
   ·rename_i p hp
    exact ⟨(hE.primP f p hp).callable a5 r h,(hE.primP f p hp).calls a5 r h⟩
   ·split at h
    ·rename_i v h' nx hb
     obtain ⟨h1,h2⟩:=IV hE ih hb
     refine ⟨h1,fun w B vs hB hv=>?_⟩
     have hs:=RQ hB
     refine Calls.mono (h2 w B (fun _=>none) (look []) w B (fun _=>none) vs (.refl hs) (fun b _=>⟨rfl,rfl⟩) hv) ?_
     rintro en w' ⟨u,B',β',rfl,st,_,hval⟩
     have hm0:∀ b,¬ Mut (fun _=>none) (look []) b:=by rintro b ⟨a,o,l,h,_⟩;simp [look] at h
     have hm:∀ b,Mut β' (look h') b→w.heap.size≤b:=fun b hb=>(st.muts b hb).resolve_left (hm0 b)
     obtain ⟨Bc,bs,b1,b2,b3,hrr⟩:=Fx st.sim hm h hval
     refine ⟨u,rfl,st.ext.mono fun b hb=>hm0 b hb,Bc,bs,fun b hb=>b1 b (st.bsub b hb),fun b hb=>?_,fun b hb=>?_,b3,hrr⟩
     ·rcases b2 b hb with h3 | h3
      ·rcases st.bnew b h3 with h4 | h4 | h4
       ·exact .inl h4
       ·exact absurd h4 (hm0 b)
       ·exact .inr h4
      ·exact .inr (hm b h3)
     ·rcases b2 b hb with h3 | ⟨c,o,l,h4,_,h5,rfl⟩
      ·exact st.sim.lt b h3
      ·exact st.sim.block_lt h4 h5
    ·simp at h
  have ref:∀ f r args h next v h' nx,(run E (n+1)).refC f r args h next=some (v,h',nx)→(Callable P f∧∀ (w:World) (B:Nat→Prop) (β:Map) (vs:Array Value),Sim w B β (look h)→Vs w B β args vs.toList→
    (∀ b,next≤b→β b=none∧look h b=none)→r≤next→
    Calls P f vs w (fun en w'=>∃ u B' β',en=.returned u∧StepR r w B β (look h) w' B' β' (look h')∧V w' B' β' v u∧∀ b,nx≤b→β' b=none∧look h' b=none))∧(∀ x∈h',x.1<nx)∧(h'.map (·.1)).Nodup:=by
   intro f r args h next v h' nx hc
   simp only [run,level] at hc
   split at hc
   ·rename_i p hp
    have hP:=hE.primR f p hp
    exact ⟨⟨hP.callable _ _ _ _ _ _ hc,hP.calls r _ _ _ _ _ _ hc⟩,hP.ids _ _ _ _ _ _ hc⟩
   ·rcases hna:normArgs h next args (E.norm f) with ⟨h1,nx1⟩
    rw [hna] at hc
    simp only at hc
    split at hc
    ·rename_i v1 h2 nx2 hb
     split at hc
     ·rename_i v' h3 nx3 adO
      simp at hc;obtain ⟨rfl,rfl,rfl⟩:=hc
      obtain ⟨g1,g2⟩:=IV hE ih hb
      unfold canon at adO
      simp only [Pm.fD,Prod.mk.injEq,List.cons.injEq,and_true] at adO
      obtain ⟨rfl,rfl,rfl⟩:=adO
      refine ⟨⟨g1,fun w B β vs hs hv hf hr=>?_⟩,fun x hx=>?_,rF.2⟩
      ·obtain ⟨q1,q2⟩:=sJ hs hf hna
       obtain ⟨o1,o2,o3,o4,o5⟩:=StepR.order q1.sim r []
       refine Calls.mono (g2 w B β (look h) w B _ vs ((q1.toR r).trans o1) o2 (o5 _ _ hv)) ?_
       rintro en w' ⟨u,B',β',rfl,st,_,hval⟩
       obtain ⟨p1,p2,p3,p4,p5⟩:=StepR.order st.sim r [v1]
       exact ⟨u,B',_,rfl,st.trans p1,p4 _ _ hval,p2⟩
      ·have:=rF.1 x hx;omega
     ·simp at hc
    ·simp at hc
  exact ⟨⟨fun f a5 r h=>(pur f a5 r h).1,fun f a5 r h=>(pur f a5 r h).2⟩,⟨fun f r args h next v h' nx hc=>(ref f r args h next v h' nx hc).1.1,fun f r args h next v h' nx hc=>(ref f r args h next v h' nx hc).1.2⟩,
   fun f r args h next v h' nx hc=>(ref f r args h next v h' nx hc).2⟩
end
end Go.Pm
end
section
set_option linter.unusedVariables false
set_option linter.unusedSimpArgs false
namespace Go.Pm
open Go
def Ev (P:Nat→Prop):Prop:=∃ n,∀ m,n≤m→P m
theorem Ev.of {P:Nat→Prop} (h:∀ m,P m):Ev P:=⟨0,fun m _=>h m⟩
theorem Ev.mono {P Q:Nat→Prop} (h:Ev P) (hq:∀ m,P m→Q m):Ev Q:=h.elim fun n hn=>⟨n,fun m hm=>hq m (hn m hm)⟩
theorem Ev.both {P Q R:Nat→Prop} (h:Ev P) (k:Ev Q) (hr:∀ m,P m→Q m→R m):Ev R:=by
 obtain ⟨n,hn⟩:=h;obtain ⟨n',hn'⟩:=k
 exact ⟨max n n',fun m hm=>hr m (hn m (by omega)) (hn' m (by omega))⟩
structure App (L:Callee) (C:Nat→Callee):Prop where
 p:∀ f a5 r,L.pureC f a5=some r→Ev fun m=>(C m).pureC f a5=some r
 r:∀ f n a5 h nx x,L.refC f n a5 h nx=some x→Ev fun m=>(C m).refC f n a5 h nx=some x
section
variable {L:Callee} {C:Nat→Callee} {E:Env} (hA:App L C)
include hA
theorem FD {rd:Rd} {nid f:Nat} {args:List PV} {e:Eff} (h:eO E L rd nid f args=some e):Ev fun m=>eO E (C m) rd nid f args=some e:=by
 by_cases hr:E.isRef f=true
 ·simp only [eO,hr,↓reduceIte] at h ⊢
  generalize dedup (boxes rd (order rd (dedup (dz args) []) [])) (dedup (dz args) [])=roots at h ⊢
  cases hc:L.refC f roots.length (fD (fun a=>pos (order rd roots []) a 0) args) (picks rd (fun a=>pos (order rd roots []) a 0) (order rd roots []) 0) (order rd roots []).length with
  | none=>rw [hc] at h;simp at h
  | some x=>rw [hc] at h;exact (hA.r _ _ _ _ _ _ hc).mono fun m hm=>by rw [hm];exact h
 ·simp only [eO,hr] at h ⊢
  cases hs:dV rd (E.keepNil f) jk args with
  | none=>rw [hs] at h;simp at h
  | some p=>
   rw [hs] at h
   obtain ⟨a5,foot⟩:=p
   simp only [Bool.false_eq_true,↓reduceIte] at h ⊢
   cases hc:L.pureC f a5 with
   | none=>rw [hc] at h;simp at h
   | some x=>rw [hc] at h;exact (hA.p _ _ _ hc).mono fun m hm=>by rw [hm];exact h
theorem Qg {rd:Rd} {nid:Nat} {tm:List PV} {o:Oper} {e:Eff} (h:dK E L rd nid tm o=some e):Ev fun m=>dK E (C m) rd nid tm o=some e:=by
 unfold dK at h ⊢
 split at h
 ·split at h
  ·exact FD hA h
  ·simp at h
 ·exact .of fun m=>h
theorem CO {ops:List Oper} {rd:Rd} {nid:Nat} {tm:List PV} {o:Oper} {e:Eff} (h:stepOp E L ops rd nid tm o=some e):Ev fun m=>stepOp E (C m) ops rd nid tm o=some e:=by
 unfold stepOp at h ⊢
 split at h
 ·exact Qg hA h
 ·exact .of fun m=>h
 ·simp at h
theorem yi {ops:List Oper}:∀ {r:List Oper} {nid:Nat} {tm:List PV} {hp:List (Nat × bq)} {x},fM E L ops r nid tm hp=some x→Ev fun m=>fM E (C m) ops r nid tm hp=some x
 | [],nid,tm,hp,x,h=>.of fun m=>h
 | o::r,nid,tm,hp,x,h=>by
  simp only [fM] at h ⊢
  cases hs:stepOp E L ops (look hp) nid tm o with
  | none=>rw [hs] at h;simp at h
  | some e=>
   rw [hs] at h
   simp only at h
   cases hr:fM E L ops r (nid+64) (putD tm o.dst e.val) (dH hp e.upd) with
   | none=>rw [hr] at h;simp at h
   | some y=>
    rw [hr] at h
    exact (CO hA hs).both (yi hr) fun m h1 h2=>by rw [h1];simp only;rw [h2];exact h
theorem As {ops:Array Oper} {draw:Bool} {ps:List (Nat × Nat)} {st st':St} (h:fj E L ops draw ps st=some st'):Ev fun m=>fj E (C m) ops draw ps st=some st':=by
 unfold fj at h ⊢
 cases hr:fM E L ops.toList ops.toList st.next st.tmps st.heap with
 | none=>rw [hr] at h;simp at h
 | some y=>rw [hr] at h;exact (yi hA hr).mono fun m h1=>by rw [h1];exact h
end
theorem BG {cl:St→St} {g:St→Option (Ex × St)} {gm:Nat→St→Option (Ex × St)} (hg:∀ st x,g st=some x→Ev fun m=>gm m st=some x):∀ {k:Nat} {st:St} {x},iter cl g k st=some x→Ev fun m=>iter cl (gm m) k st=some x
 | 0,st,x,h=>by simp [iter] at h
 | k+1,st,x,h=>by
  simp only [iter] at h ⊢
  cases hc:g (cl st) with
  | none=>rw [hc] at h;simp at h
  | some y=>
   rw [hc] at h
   obtain ⟨ex,s⟩:=y
   cases ex with
   | normal=>exact (hg _ _ hc).both (BG hg h) fun m h1 h2=>by rw [h1];exact h2
   | exit i=>exact (hg _ _ hc).mono fun m h1=>by rw [h1];exact h
   | ret=>exact (hg _ _ hc).mono fun m h1=>by rw [h1];exact h
section
variable {L:Callee} {C:Nat→Callee} {E:Env} (hA:App L C)
include hA
theorem FC {n f nr:Nat}:∀ {c:Code} {b:Nat} {st:St} {x},ca E L n f nr b c st=some x→Ev fun m=>ca E (C m) n f nr b c st=some x:=by
 intro c
 induction c with
 | seq x y ihx ihy=>
  intro b st r h
  simp only [ca] at h ⊢
  cases hc:ca E L n f nr b x st with
  | none=>rw [hc] at h;simp at h
  | some z=>
   rw [hc] at h
   obtain ⟨ex,s⟩:=z
   cases ex with
   | normal=>exact (ihx hc).both (ihy h) fun m h1 h2=>by rw [h1];exact h2
   | exit i=>exact (ihx hc).mono fun m h1=>by rw [h1];exact h
   | ret=>exact (ihx hc).mono fun m h1=>by rw [h1];exact h
 | cond c x y ihx ihy=>
  intro b st r h
  simp only [ca] at h ⊢
  split at h
  ·split at h
   ·rename_i ht;simp only [ht,↓reduceIte];exact ihx h
   ·rename_i ht;simp only [ht];exact ihy h
  ·simp at h
 | block id x ih=>
  intro b st r h
  simp only [ca] at h ⊢
  cases hc:ca E L n f nr id x st with
  | none=>rw [hc] at h;simp at h
  | some z=>rw [hc] at h;exact (ih hc).mono fun m h1=>by rw [h1];exact h
 | loop x ih=>
  intro b st r h
  simp only [ca] at h ⊢
  exact BG (fun st x hx=>ih hx) h
 | region id ops draw=>
  intro b st r h
  simp only [ca,Option.map_eq_some_iff] at h ⊢
  obtain ⟨s,h1,h2⟩:=h
  exact (As hA h1).mono fun m hm=>⟨s,hm,h2⟩
 | _=>
  intro b st r h
  exact .of fun m=>h
theorem sE {n f nr:Nat} {args:List PV} {hp:List (Nat × bq)} {nx:Nat} {x} (h:fa E L n f nr args hp nx=some x):Ev fun m=>fa E (C m) n f nr args hp nx=some x:=by
 unfold fa at h ⊢
 split at h
 ·rename_i fn hfn
  split at h
  ·rename_i c hc
   cases he:ca E L n f nr 0 c ⟨args ++ List.replicate (fn.ntmps - args.length) .undef,hp,nx⟩ with
   | none=>rw [he] at h;simp at h
   | some z=>rw [he] at h;exact (FC hA he).mono fun m h1=>by rw [h1];exact h
  ·simp at h
 ·simp at h
theorem kZ:App (level E L) fun m=>level E (C m) where
 p:=fun f a5 r h=>by
  simp only [level] at h ⊢
  split at h
  ·exact .of fun m=>h
  ·rename_i hp
   cases hb:fa E L ax f 0 a5 [] 0 with
   | none=>rw [hb] at h;simp at h
   | some z=>rw [hb] at h;exact (sE hA hb).mono fun m h1=>by rw [h1];exact h
 r:=fun f n a5 hp nx x h=>by
  simp only [level] at h ⊢
  split at h
  ·exact .of fun m=>h
  ·generalize normArgs hp nx a5 (E.norm f)=na at h ⊢
   obtain ⟨h1,nx1⟩:=na
   simp only at h ⊢
   cases hb:fa E L ax f n (fD (fun a=>pos (order (look h1) (upto n) []) a 0) a5) (picks (look h1) (fun a=>pos (order (look h1) (upto n) []) a 0) (order (look h1) (upto n) []) 0) (order (look h1) (upto n) []).length with
   | none=>rw [hb] at h;simp at h
   | some z=>rw [hb] at h;exact (sE hA hb).mono fun m h1=>by rw [h1];exact h
end
def LE (C D:Callee):Prop:=App C fun _=>D
theorem LE.p {C D:Callee} (h:LE C D) {f a5 r} (hc:C.pureC f a5=some r):D.pureC f a5=some r:=(App.p h f a5 r hc).elim fun n hn=>hn n (Nat.le_refl _)
theorem LE.r {C D:Callee} (h:LE C D) {f n a5 hp nx x} (hc:C.refC f n a5 hp nx=some x):D.refC f n a5 hp nx=some x:=(App.r h f n a5 hp nx x hc).elim fun n hn=>hn n (Nat.le_refl _)
theorem LE.of {C D:Callee} (h1:∀ f a5 r,C.pureC f a5=some r→D.pureC f a5=some r) (h2:∀ f n a5 hp nx x,C.refC f n a5 hp nx=some x→D.refC f n a5 hp nx=some x):LE C D:=
 ⟨fun f a5 r h=>.of fun _=>h1 f a5 r h,fun f n a5 hp nx x h=>.of fun _=>h2 f n a5 hp nx x h⟩
theorem LE.level {C D:Callee} {E:Env} (h:LE C D):LE (level E C) (level E D):=kZ h
theorem LE.refl (C:Callee):LE C C:=.of (fun _ _ _ h=>h) fun _ _ _ _ _ _ h=>h
theorem LE.trans {C D F:Callee} (h:LE C D) (k:LE D F):LE C F:=.of (fun _ _ _ hc=>k.p (h.p hc)) fun _ _ _ _ _ _ hc=>k.r (h.r hc)
theorem AR (E:Env):∀ n,LE (run E n) (run E (n+1))
 | 0=>.of (fun f a5 r h=>by simp [run] at h) fun f n a5 hp nx x h=>by simp [run] at h
 | n+1=>(AR E n).level
theorem fC (E:Env) {n m:Nat} (h:n≤m):LE (run E n) (run E m):=by
 induction m with
 | zero=>rw [Nat.le_zero.1 h];exact .refl _
 | succ m ih=>
  rcases Nat.lt_or_ge n (m+1) with h1 | h1
  ·exact (ih (by omega)).trans (AR E m)
  ·rw [show n=m+1 by omega];exact .refl _
open Classical in
noncomputable def lim (E:Env):Callee where
 pureC f a5:=if h:∃ n r,(run E n).pureC f a5=some r then some (Classical.choose (Classical.choose_spec h)) else none
 refC f k a5 hp nx:=if h:∃ n x,(run E n).refC f k a5 hp nx=some x then some (Classical.choose (Classical.choose_spec h)) else none
theorem qE {E:Env} {f a5 r}:(lim E).pureC f a5=some r↔∃ n,(run E n).pureC f a5=some r:=by
 unfold lim
 constructor
 ·intro h
  simp only at h
  split at h
  ·rename_i hx
   simp at h
   exact ⟨_,by rw [← h];exact Classical.choose_spec (Classical.choose_spec hx)⟩
  ·simp at h
 ·rintro ⟨n,h⟩
  have hx:∃ n r,(run E n).pureC f a5=some r:=⟨n,r,h⟩
  simp only [hx,↓reduceDIte]
  have h1:=Classical.choose_spec (Classical.choose_spec hx)
  rcases Nat.le_total n (Classical.choose hx) with hl | hl
  ·have:=(fC E hl).p h;rw [h1] at this;exact this
  ·have:=(fC E hl).p h1;rw [h] at this;simp only [Option.some.injEq] at this ⊢;exact this.symm
theorem xY {E:Env} {f k a5 hp nx x}:(lim E).refC f k a5 hp nx=some x↔∃ n,(run E n).refC f k a5 hp nx=some x:=by
 unfold lim
 constructor
 ·intro h
  simp only at h
  split at h
  ·rename_i hx
   have h1:=Classical.choose_spec (Classical.choose_spec hx)
   exact ⟨_,h1.trans (by rw [Option.some.inj h])⟩
  ·simp at h
 ·rintro ⟨n,h⟩
  have hx:∃ n x,(run E n).refC f k a5 hp nx=some x:=⟨n,x,h⟩
  simp only [hx,↓reduceDIte]
  have h1:=Classical.choose_spec (Classical.choose_spec hx)
  rcases Nat.le_total n (Classical.choose hx) with hl | hl
  ·have:=(fC E hl).r h;rw [h1] at this;exact this
  ·have:=(fC E hl).r h1;rw [h] at this;simp only [Option.some.injEq] at this ⊢;exact this.symm
theorem F2 (E:Env) (n:Nat):LE (run E n) (lim E):=.of (fun f a5 r h=>qE.2 ⟨n,h⟩) fun f k a5 hp nx x h=>xY.2 ⟨n,h⟩
theorem G5 (E:Env):App (lim E) (run E):=
 ⟨fun f a5 r h=>by obtain ⟨n,hn⟩:=qE.1 h;exact ⟨n,fun m hm=>(fC E hm).p hn⟩,
  fun f k a5 hp nx x h=>by obtain ⟨n,hn⟩:=xY.1 h;exact ⟨n,fun m hm=>(fC E hm).r hn⟩⟩
theorem iN (E:Env):LE (level E (lim E)) (lim E):=
 .of (fun f a5 r h=>by obtain ⟨n,hn⟩:=(kZ (E:=E) (G5 E)).p f a5 r h;exact qE.2 ⟨n+1,hn n (Nat.le_refl _)⟩)
  fun f k a5 hp nx x h=>by obtain ⟨n,hn⟩:=(kZ (E:=E) (G5 E)).r f k a5 hp nx x h;exact xY.2 ⟨n+1,hn n (Nat.le_refl _)⟩
theorem qF (E:Env):LE (lim E) (level E (lim E)):=
 .of (fun f a5 r h=>by
   obtain ⟨n,hn⟩:=qE.1 h
   have:=(fC E (Nat.le_add_right n 1)).p hn
   exact (F2 E n).level.p this)
  fun f k a5 hp nx x h=>by
   obtain ⟨n,hn⟩:=xY.1 h
   have:=(fC E (Nat.le_add_right n 1)).r hn
   exact (F2 E n).level.r this
theorem opt_ext {α:Type} {a b:Option α} (h:∀ x,a=some x→b=some x) (k:∀ x,b=some x→a=some x):a=b:=by
 cases a with
 | none=>cases b with
  | none=>rfl
  | some y=>exact absurd (k y rfl) (by simp)
 | some x=>exact (h x rfl).symm
theorem ya (E:Env) (f:Nat) (a5:List PV):(lim E).pureC f a5=(level E (lim E)).pureC f a5:=
 opt_ext (fun _ h=>(qF E).p h) fun _ h=>(iN E).p h
theorem xZ (E:Env) (f k:Nat) (a5:List PV) (hp:List (Nat × bq)) (nx:Nat):(lim E).refC f k a5 hp nx=(level E (lim E)).refC f k a5 hp nx:=
 opt_ext (fun _ h=>(qF E).r h) fun _ h=>(iN E).r h
structure Fix (E:Env) (X:Nat→Bool) (C:Callee):Prop where
 p:∀ f,X f=false→∀ a5,C.pureC f a5=(level E C).pureC f a5
 r:∀ f,X f=false→∀ k a5 hp nx,C.refC f k a5 hp nx=(level E C).refC f k a5 hp nx
theorem G4 (E:Env) (X:Nat→Bool):Fix E X (lim E):=⟨fun f _ a5=>ya E f a5,fun f _ k a5 hp nx=>xZ E f k a5 hp nx⟩
def cY (E:Env) (F:Nat) (p:List PV→Option PV):Env:={E with primP:=fun f=>if f=F then some p else E.primP f}
section
variable {E:Env} {F:Nat} {p:List PV→Option PV} {C:Callee}
theorem IS {ops:List Oper}:∀ (r:List Oper) (nid:Nat) (tm:List PV) (h:List (Nat × bq)),fM (cY E F p) C ops r nid tm h=fM E C ops r nid tm h
 | [],_,_,_=>rfl
 | o::r,nid,tm,h=>by
  have h1:stepOp (cY E F p) C ops (look h) nid tm o=stepOp E C ops (look h) nid tm o:=rfl
  simp only [fM,h1,IS r]
theorem FB (ops:Array Oper) (draw:Bool) (ps:List (Nat × Nat)) (st:St):fj (cY E F p) C ops draw ps st=fj E C ops draw ps st:=by
 simp only [fj,IS]
theorem Qh (n f nr:Nat):∀ (c:Code) (b:Nat),ca (cY E F p) C n f nr b c=ca E C n f nr b c:=by
 intro c
 induction c with
 | seq x y ihx ihy=>intro b;funext st;simp only [ca,ihx,ihy]
 | cond o x y ihx ihy=>intro b;funext st;simp only [ca,ihx,ihy]
 | block id x ih=>intro b;funext st;simp only [ca,ih]
 | loop x ih=>intro b;funext st;simp only [ca,ih];rfl
 | region id ops draw=>intro b;funext st;simp only [ca,FB];rfl
 | _=>intro b;rfl
theorem xC (n f nr:Nat) (args:List PV) (h:List (Nat × bq)) (nx:Nat):fa (cY E F p) C n f nr args h nx=fa E C n f nr args h nx:=by
 simp only [fa,Qh];rfl
end
theorem nk {E:Env} {F:Nat} {p:List PV→Option PV} {C:Callee} {f:Nat} (hf:f≠F) (a5:List PV):(level (cY E F p) C).pureC f a5=(level E C).pureC f a5:=by
 simp only [level,xC]
 simp only [cY,if_neg hf]
theorem kB {E:Env} {F:Nat} {p:List PV→Option PV} {C:Callee} (f k:Nat) (a5:List PV) (hp:List (Nat × bq)) (nx:Nat):(level (cY E F p) C).refC f k a5 hp nx=(level E C).refC f k a5 hp nx:=by
 simp only [level,xC];rfl
theorem ud {E:Env} {F:Nat} {p:List PV→Option PV} {C:Callee} (a5:List PV):(level (cY E F p) C).pureC F a5=p a5:=by
 simp only [level,cY,↓reduceIte]
end Go.Pm
end
