import Derived.Test.YtjkkigeefoncmaaGreatCheckK
set_option linter.all false
set_option linter.unusedVariables false
set_option linter.unusedSimpArgs false
namespace Go.Pm
open Go
def sj:List Value→List PV→Bool
 | [],[]=>true
 | v::vs,p::ps=>(match dZ v with | some q=>pvB q p | none=>false)&&sj vs ps
 | _,_=>false
theorem yp:∀ {vs:List Value} {ps:List PV},sj vs ps=true→vs.map dZ=ps.map some
 | [],[],_=>rfl
 | v::vs,p::ps,h=>by
  simp only [sj,Bool.and_eq_true] at h
  simp only [List.map_cons,yp h.2]
  cases hc:dZ v with
  | none=>rw [hc] at h;simp at h
  | some q=>rw [hc] at h;rw [Np q p h.1]
 | [],_::_,h=>by simp [sj] at h
 | _::_,[],h=>by simp [sj] at h
def rH:List (Nat × Nat)→List (Nat × Nat)→Bool
 | [],[]=>true
 | (a,b)::r,(c,d)::s=>Nat.beq a c&&(Nat.beq b d&&rH r s)
 | _,_=>false
theorem xR:∀ {a b:List (Nat × Nat)},rH a b=true→a=b
 | [],[],_=>rfl
 | (a,b)::r,(c,d)::s,h=>by
  simp only [rH,Bool.and_eq_true] at h
  rw [Nat.eq_of_beq_eq_true h.1,Nat.eq_of_beq_eq_true h.2.1,xR h.2.2]
 | [],_::_,h=>by simp [rH] at h
 | _::_,[],h=>by simp [rH] at h
def gE (P:Program) (k:TK) (u:Option TypeDesc):Bool:=
 match k,u with
 | .bool,some .bool=>true
 | .int k,some (.int k')=>decide (k=k')
 | .str,some .string=>true
 | .slice e,some (.slice e')=>Nat.beq e e'
 | .struct fs,some (.struct fields)=>rH (fields.toList.map fun f=>(f.offset,f.type)) fs&&fields.toList.all fun f=>(P.info? f.type).isSome
 | .array n e,some (.array n' e')=>Nat.beq n n'&&Nat.beq e e'
 | .ptr,some (.pointer _)=>true
 | .func,some (.func ..)=>true
 | _,_=>false
def tiB (P:Program) (t:Nat) (ti:TI):Bool:=
 (match P.info? t with
  | some i=>match i.zero with
   | some z=>Nat.beq i.size ti.size&&(Nat.beq i.bytes ti.bytes&&(sj z.cells.toList ti.zero&&Nat.beq ti.zero.length ti.size))
   | none=>false
  | none=>false)&&(gE P ti.kind (P.underlying t)&&!ti.eqok)
theorem bO {P:Program} {t:Nat} {ti:TI} (h:tiB P t ti=true):bN P t ti:=by
 simp only [tiB,Bool.and_eq_true,Bool.not_eq_true'] at h
 obtain ⟨h1,h2,h3⟩:=h
 have hinfo:∃ (i:TypeInfo) (z:Value),P.info? t=some i∧i.size=ti.size∧i.bytes=ti.bytes∧i.zero=some z∧z.cells.toList.map dZ=ti.zero.map some∧ti.zero.length=ti.size:=by
  cases hi:P.info? t with
  | none=>rw [hi] at h1;simp at h1
  | some i=>
   rw [hi] at h1
   simp only at h1
   cases hz:i.zero with
   | none=>rw [hz] at h1;simp at h1
   | some z=>
    rw [hz] at h1
    simp only [Bool.and_eq_true] at h1
    exact ⟨i,z,rfl,Nat.eq_of_beq_eq_true h1.1,Nat.eq_of_beq_eq_true h1.2.1,hz,yp h1.2.2.1,Nat.eq_of_beq_eq_true h1.2.2.2⟩
 obtain ⟨kd,s,b,z,q⟩:=ti
 simp only at h2 h3 hinfo
 have hagg:∀ (d:TypeDesc) (x:Bool),P.underlying t=some d→(match d with | .struct _=>true | .array _ _=>true | _=>false)=x→∀ w,(isAgg t).run P w=.ok x w:=fun d x hd hx w=>by
  cases d <;> simp at hx <;> subst hx <;> simp [isAgg,underlying,hd]
 cases kd with
 | bool=>cases hu:P.underlying t with
  | none=>rw [hu] at h2;simp [gE] at h2
  | some d=>rw [hu] at h2;cases d <;> simp [gE] at h2;exact ⟨hinfo,hagg _ _ hu rfl,hu,fun h=>by simp [h3] at h,fun fs h=>by simp [hu] at h⟩
 | int k=>cases hu:P.underlying t with
  | none=>rw [hu] at h2;simp [gE] at h2
  | some d=>rw [hu] at h2;cases d <;> simp [gE] at h2;subst h2;exact ⟨hinfo,hagg _ _ hu rfl,hu,fun h=>by simp [h3] at h,fun fs h=>by simp [hu] at h⟩
 | str=>cases hu:P.underlying t with
  | none=>rw [hu] at h2;simp [gE] at h2
  | some d=>rw [hu] at h2;cases d <;> simp [gE] at h2;exact ⟨hinfo,hagg _ _ hu rfl,hu,fun h=>by simp [h3] at h,fun fs h=>by simp [hu] at h⟩
 | slice e=>cases hu:P.underlying t with
  | none=>rw [hu] at h2;simp [gE] at h2
  | some d=>rw [hu] at h2;cases d <;> simp [gE] at h2;subst h2;exact ⟨hinfo,hagg _ _ hu rfl,hu,fun h=>by simp [h3] at h,fun fs h=>by simp [hu] at h⟩
 | struct fs=>cases hu:P.underlying t with
  | none=>rw [hu] at h2;simp [gE] at h2
  | some d=>
   rw [hu] at h2
   cases d with
   | struct fields=>
    simp only [gE,Bool.and_eq_true] at h2
    refine ⟨hinfo,hagg _ _ hu rfl,⟨fields,hu,xR h2.1⟩,fun h=>by simp [h3] at h,fun fs' h f hf=>?_⟩
    rw [hu] at h;simp at h;subst h
    exact List.all_eq_true.1 h2.2 f hf
   | _=>simp [gE] at h2
 | array n e=>cases hu:P.underlying t with
  | none=>rw [hu] at h2;simp [gE] at h2
  | some d=>rw [hu] at h2;cases d <;> simp [gE] at h2;obtain ⟨rfl,rfl⟩:=h2;exact ⟨hinfo,hagg _ _ hu rfl,hu,fun h=>by simp [h3] at h,fun fs h=>by simp [hu] at h⟩
 | ptr=>cases hu:P.underlying t with
  | none=>rw [hu] at h2;simp [gE] at h2
  | some d=>rw [hu] at h2;cases d <;> simp [gE] at h2;exact ⟨hinfo,hagg _ _ hu rfl,⟨_,hu⟩,fun h=>by simp [h3] at h,fun fs h=>by simp [hu] at h⟩
 | func=>cases hu:P.underlying t with
  | none=>rw [hu] at h2;simp [gE] at h2
  | some d=>rw [hu] at h2;cases d <;> simp [gE] at h2;exact ⟨hinfo,hagg _ _ hu rfl,⟨_,_,_,hu⟩,fun h=>by simp [h3] at h,fun fs h=>by simp [hu] at h⟩
 | other=>simp [gE] at h2
theorem CL {P:Program} {tab tr:Nat→Option TI} (n:Nat) (ht:∀ t,tab t=bif Nat.blt t n then tr t else none)
  (h:((List.range n).all fun t=>match tr t with | some ti=>tiB P t ti | none=>true)=true):du P tab:=fun t ti hti=>by
 rw [ht] at hti
 cases hb:Nat.blt t n with
 | false=>rw [hb] at hti;simp at hti
 | true=>
  rw [hb] at hti;simp only [cond_true] at hti
  have:=List.all_eq_true.1 h t (List.mem_range.2 (by simpa [Nat.blt_eq] using hb))
  rw [hti] at this
  exact bO this
def chk (pairs:Nat→List (Nat × Nat)) (fn:Func):Bool:=!(fn.name == "runtime.NumGoroutine")&&(match fn.body with | some c=>fZ pairs c | none=>true)
def aK (P:Program) (pairs:Nat→Nat→List (Nat × Nat)) (f:Nat) (fn:Func):Prop:=P.funcs[f]?=some fn∧(fn.name == "runtime.NumGoroutine")=false∧∀ c,fn.body=some c→fZ (pairs f) c=true
theorem aY {P:Program} {pairs:Nat→Nat→List (Nat × Nat)} {f:Nat} {fn:Func} (h:P.funcs[f]?=some fn) (hc:chk (pairs f) fn=true):aK P pairs f fn:=by
 simp only [chk,Bool.and_eq_true,Bool.not_eq_true'] at hc
 exact ⟨h,hc.1,fun c hb=>by have:=hc.2;rw [hb] at this;exact this⟩
theorem aw {α:Type} {Q:α→Prop} {c:Bool} {a b:Option α} (ha:∀ x,a=some x→Q x) (hb:∀ x,b=some x→Q x):∀ x,(bif c then a else b)=some x→Q x:=by
 cases c <;> simpa
theorem ao {α:Type} {Q:Nat→α→Prop} {f k:Nat} {v:α} (h:Q k v):∀ x,(bif Nat.beq f k then some v else none)=some x→Q f x:=by
 intro x hx
 cases hb:Nat.beq f k with
 | false=>rw [hb] at hx;simp at hx
 | true=>rw [hb] at hx;simp only [cond_true,Option.some.injEq] at hx;subst hx;rw [Nat.eq_of_beq_eq_true hb];exact h
end Go.Pm
