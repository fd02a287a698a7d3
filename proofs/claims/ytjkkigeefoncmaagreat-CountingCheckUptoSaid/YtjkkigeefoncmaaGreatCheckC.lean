import Derived.Test.YtjkkigeefoncmaaGreatCheckB
import Derived.Laws.Strings
import Derived.Lib.Bytealg
set_option linter.all false
section
set_option linter.unusedVariables false
set_option linter.unusedSimpArgs false
namespace Go.Pm
open Go
inductive Fr where
 | seq (b:Nat) (q:List Nat)
 | blk (id:Nat)
 | loop (b:Nat) (q:List Nat) (m:Nat)
def child:Nat→Code→Code
 | 0,.seq x _=>x
 | 1,.seq _ y=>y
 | 0,.cond _ x _=>x
 | 1,.cond _ _ y=>y
 | 0,.block _ x=>x
 | 0,.loop x=>x
 | _,_=>.skip
theorem Vv (x y:Code):child 0 (.seq x y)=x:=rfl
theorem Vu (x y:Code):child 1 (.seq x y)=y:=rfl
theorem QO (o:Operand) (x y:Code):child 0 (.cond o x y)=x:=rfl
theorem QN (o:Operand) (x y:Code):child 1 (.cond o x y)=y:=rfl
theorem QP (i:Nat) (x:Code):child 0 (.block i x)=x:=rfl
theorem Vw (x:Code):child 0 (.loop x)=x:=rfl
def cAt (c:Code):List Nat→Code
 | []=>c
 | n::q=>child n (cAt c q)
theorem Az (c:Code):cAt c []=c:=rfl
theorem lr (c:Code) (n:Nat) (q:List Nat):cAt c (n::q)=child n (cAt c q):=rfl
inductive Kd where
 | skip | seq | loop | ret | bad
 | region (id:Nat) (ops:Array Oper) (draw:Bool)
 | cond (o:Operand)
 | block (id:Nat)
 | exit (id:Nat)
def kd:Code→Kd
 | .skip=>.skip
 | .seq _ _=>.seq
 | .loop _=>.loop
 | .ret=>.ret
 | .region id ops draw=>.region id ops draw
 | .cond o _ _=>.cond o
 | .block id _=>.block id
 | .exit id=>.exit id
 | _=>.bad
theorem Tj:kd .skip=.skip:=rfl
theorem acR (x y:Code):kd (.seq x y)=.seq:=rfl
theorem Tk (x:Code):kd (.loop x)=.loop:=rfl
theorem acS:kd .ret=.ret:=rfl
theorem J5 (id:Nat) (ops:Array Oper) (dr:Bool):kd (.region id ops dr)=.region id ops dr:=rfl
theorem Tm (o:Operand) (x y:Code):kd (.cond o x y)=.cond o:=rfl
theorem Ow (id:Nat) (x:Code):kd (.block id x)=.block id:=rfl
theorem Tl (id:Nat):kd (.exit id)=.exit id:=rfl
def andThen (r:Option (Ex × St)) (k:St→Option (Ex × St)):Option (Ex × St):=
 match r with
 | some (.normal,st)=>k st
 | r=>r
def asQ (id:Nat) (r:Option (Ex × St)):Option (Ex × St):=
 match r with
 | some (.exit i,st')=>if i=id then some (.normal,st') else some (.exit i,st')
 | r=>r
structure afw (R:Type) where
 E:Env
 C:Callee
 f:Nat
 nr:Nat
 c:Code
 D:Ex→St→Option R
section
variable {R:Type} (M:afw R)
def ec (b:Nat) (q:List Nat) (st:St):Option (Ex × St):=ca M.E M.C ax M.f M.nr b (cAt M.c q) st
def yc (b:Nat) (q:List Nat):Nat→St→Option (Ex × St)
 | 0,_=>none
 | m+1,st=>match ec M b q st with
  | some (.normal,st')=>yc b q m (clean M.nr (M.E.keep M.f b) st')
  | r=>r
theorem iter_eq (b:Nat) (q:List Nat) (m:Nat) (st:St):iter (clean M.nr (M.E.keep M.f b)) (ca M.E M.C ax M.f M.nr b (cAt M.c q)) m st=yc M b q m (clean M.nr (M.E.keep M.f b) st):=by
 induction m generalizing st with
 | zero=>rfl
 | succ m ih=>
  simp only [iter,yc,ec]
  cases ca M.E M.C ax M.f M.nr b (cAt M.c q) (clean M.nr (M.E.keep M.f b) st) with
  | none=>rfl
  | some p=>obtain ⟨ex,s⟩:=p;cases ex <;> simp [ih]
def fin:List Fr→Option (Ex × St)→Option R
 | [],r=>r.bind fun p=>M.D p.1 p.2
 | .seq b y::k,r=>fin k (andThen r (ec M b y))
 | .blk id::k,r=>fin k (asQ id r)
 | .loop b x m::k,r=>fin k (andThen r fun st=>yc M b x m (clean M.nr (M.E.keep M.f b) st))
theorem gG:∀ k,fin M k none=none
 | []=>rfl
 | .seq b y::k=>gG k
 | .blk id::k=>gG k
 | .loop b x m::k=>gG k
def go (k:List Fr) (b:Nat) (q:List Nat) (st:St):Option R:=fin M k (ec M b q st)
def ret (k:List Fr) (ex:Ex) (st:St):Option R:=fin M k (some (ex,st))
def lp (k:List Fr) (b:Nat) (q:List Nat) (m:Nat) (st:St):Option R:=fin M k (yc M b q m st)
def cnd (k:List Fr) (b:Nat) (q:List Nat) (st:St) (p:Option PV):Option R:=
 match p with
 | some (.bool t)=>if t=true then go M k b (0::q) st else go M k b (1::q) st
 | _=>none
abbrev Acc:=Option (List (Nat × Nat) × List Eff)
def vx (draw:Bool) (ps:List (Nat × Nat)):Acc:=match draw,ps with
 | true,p::r=>some (p::r,[])
 | _,_=>none
def sm (a:Acc) (e:Eff):Acc:=match a with
 | none=>none
 | some (ps,l)=>some (ps,l ++ [⟨.void,kL (dy e.upd),e.foot⟩])
def Ax (a:Acc):Bool:=match a with
 | none=>true
 | some (ps,l)=>cO l ps
def vM (a:Acc) (es:List Eff):Bool:=match a with
 | none=>true
 | some (ps,l)=>cO (l ++ es) ps
def rg (k:List Fr) (acc:Acc) (nx:Nat) (ops:List Oper) (r:List Oper) (nid:Nat) (tm:List PV) (h:List (Nat × bq)):Option R:=
 match fM M.E M.C ops r nid tm h with
 | some (tm',h',es)=>if vM acc es then ret M k .normal ⟨tm',h',nx⟩ else none
 | none=>none
def rk (k:List Fr) (acc:Acc) (nx:Nat) (ops:List Oper) (d:Option Nat) (r:List Oper) (nid:Nat) (tm:List PV) (h:List (Nat × bq)) (e:Option Eff):Option R:=
 match e with
 | some e=>rg M k (sm acc e) nx ops r (nid+64) (putD tm d e.val) (dH h e.upd)
 | none=>none
def gk (k:List Fr) (acc:Acc) (nx:Nat) (ops:List Oper) (o:Oper) (g:Nat) (want:Bool) (r:List Oper) (nid:Nat) (tm:List PV) (h:List (Nat × bq)) (p:PV):Option R:=
 match p with
 | .bool b=>if b=true then rk M k acc nx ops o.dst r nid (put tm g (.bool true)) h (if want=true then dK M.E M.C (look h) nid (put tm g (.bool true)) o else some ⟨.void,[],[]⟩)
   else rk M k acc nx ops o.dst r nid (put tm g (.bool false)) h (if want=true then some ⟨.void,[],[]⟩ else dK M.E M.C (look h) nid (put tm g (.bool false)) o)
 | .void=>rk M k acc nx ops o.dst r nid tm h (some ⟨.void,[],[]⟩)
 | _=>none
theorem GQ:∀ (tm:List PV) (t:Nat),t<tm.length→put tm t (nth tm t)=tm
 | v::r,0,_=>rfl
 | v::r,t+1,h=>by simp only [put,nth];rw [GQ r t (by simpa using h)]
theorem Bl:∀ (tm:List PV) (t:Nat) (v:PV),tm.length≤t→put tm t v=tm
 | [],t,_,_=>rfl
 | v::r,0,_,h=>by simp at h
 | v::r,t+1,x,h=>by simp only [put];rw [Bl r t x (by simpa using h)]
theorem Nq (tm:List PV) (t:Nat):put tm t (nth tm t)=tm:=by
 rcases Nat.lt_or_ge t tm.length with h | h
 ·exact GQ tm t h
 ·exact Bl tm t _ h
theorem AK (l:List Nat):dy (kL l)=l:=by induction l with | nil=>rfl | cons a l ih=>simp [kL,dy,ih]
theorem oE (l es:List Eff) (e:Eff) (i:Nat):dy (lM (l ++ e::es) i).upd=dy (lM (l ++ ⟨.void,kL (dy e.upd),e.foot⟩::es) i).upd∧(lM (l ++ e::es) i).foot=(lM (l ++ ⟨.void,kL (dy e.upd),e.foot⟩::es) i).foot:=by
 induction l generalizing i with
 | nil=>cases i <;> simp [lM,AK]
 | cons a l ih=>cases i with
  | zero=>simp [lM]
  | succ i=>simpa [lM] using ih i
theorem tj (l es:List Eff) (e:Eff) (ps:List (Nat × Nat)):cO (l ++ e::es) ps=cO (l ++ ⟨.void,kL (dy e.upd),e.foot⟩::es) ps:=by
 induction ps with
 | nil=>rfl
 | cons p ps ih=>
  obtain ⟨i,j⟩:=p
  simp only [cO,kM,ih,(oE l es e i).1,(oE l es e i).2,(oE l es e j).1,(oE l es e j).2]
theorem J6 (acc:Acc) (e:Eff) (es:List Eff):vM (sm acc e) es=vM acc (e::es):=by
 cases acc with
 | none=>rfl
 | some p=>obtain ⟨ps,l⟩:=p;simp only [vM,sm,List.append_assoc,List.singleton_append];exact (tj l es e ps).symm
theorem abF (k:List Fr) (acc:Acc) (nx:Nat) (ops:List Oper) (nid:Nat) (tm:List PV) (h:List (Nat × bq)) :
  rg M k acc nx ops [] nid tm h=if Ax acc=true then ret M k .normal ⟨tm,h,nx⟩ else none:=by
 cases acc with
 | none=>rfl
 | some p=>obtain ⟨ps,l⟩:=p;simp only [rg,fM,vM,Ax,List.append_nil];rfl
theorem GN (k:List Fr) (acc:Acc) (nx:Nat) (ops:List Oper) (o:Oper) (r:List Oper) (nid:Nat) (tm:List PV) (h:List (Nat × bq)) :
  rg M k acc nx ops (o::r) nid tm h=rk M k acc nx ops o.dst r nid tm h (stepOp M.E M.C ops (look h) nid tm o):=by
 simp only [rg,fM,rk]
 cases stepOp M.E M.C ops (look h) nid tm o with
 | none=>rfl
 | some e=>
  simp only
  cases fM M.E M.C ops r (nid+64) (putD tm o.dst e.val) (dH h e.upd) with
  | none=>rfl
  | some p=>obtain ⟨tm',h',es⟩:=p;simp only [J6]
theorem Sq (k:List Fr) (acc:Acc) (nx:Nat) (ops:List Oper) (d:Option Nat) (op:Op) (ty:Nat) (ps:String) (af:Array Edge) (r:List Oper) (nid:Nat) (tm:List PV) (h:List (Nat × bq)) :
  rg M k acc nx ops (⟨d,op,ty,ps,af,none⟩::r) nid tm h=rk M k acc nx ops d r nid tm h (dK M.E M.C (look h) nid tm ⟨d,op,ty,ps,af,none⟩):=by
 rw [GN];rfl
def nI (ops:List Oper) (j:Nat):Nat:=match ops with
 | []=>0
 | o::r=>match j with
  | 0=>o.dst.getD 0
  | j+1=>nI r j
def lT (ops:List Oper) (j:Nat):Bool:=match ops with
 | []=>false
 | o::r=>match j with
  | 0=>o.dst.isSome
  | j+1=>lT r j
theorem adU (ops:List Oper) (j:Nat):(ops[j]?).bind (·.dst)=if lT ops j=true then some (nI ops j) else none:=by
 induction ops generalizing j with
 | nil=>rfl
 | cons o r ih=>
  cases j with
  | zero=>simp only [List.getElem?_cons_zero,Option.bind_some,lT,nI];rcases o with ⟨d,_,_,_,_,_⟩;cases d <;> rfl
  | succ j=>simp only [List.getElem?_cons_succ,lT,nI];exact ih j
theorem M3 (k:List Fr) (acc:Acc) (nx:Nat) (ops:List Oper) (d:Option Nat) (op:Op) (ty:Nat) (ps:String) (af:Array Edge) (j:Nat) (want:Bool) (r:List Oper) (nid:Nat) (tm:List PV) (h:List (Nat × bq)) :
  rg M k acc nx ops (⟨d,op,ty,ps,af,some (j,want)⟩::r) nid tm h =
   if lT ops j=true then gk M k acc nx ops ⟨d,op,ty,ps,af,some (j,want)⟩ (nI ops j) want r nid tm h (nth tm (nI ops j)) else none:=by
 rw [GN]
 simp only [stepOp,guardOf,adU]
 by_cases hg:lT ops j=true
 ·simp only [hg,↓reduceIte,gk]
  have hp:=Nq tm (nI ops j)
  cases hv:nth tm (nI ops j) with
  | bool b=>rw [hv] at hp;cases b <;> cases want <;> simp [hp]
  | void=>rfl
  | _=>rfl
 ·simp only [hg];rfl
theorem Ub (k:List Fr) (acc:Acc) (nx:Nat) (ops:List Oper) (o:Oper) (g:Nat) (want:Bool) (r:List Oper) (nid:Nat) (tm:List PV) (h:List (Nat × bq)) (b:Bool) :
  gk M k acc nx ops o g want r nid tm h (.bool b) =
   if b=true then rk M k acc nx ops o.dst r nid (put tm g (.bool true)) h (if want=true then dK M.E M.C (look h) nid (put tm g (.bool true)) o else some ⟨.void,[],[]⟩)
   else rk M k acc nx ops o.dst r nid (put tm g (.bool false)) h (if want=true then some ⟨.void,[],[]⟩ else dK M.E M.C (look h) nid (put tm g (.bool false)) o):=rfl
theorem T6 (k:List Fr) (acc:Acc) (nx:Nat) (ops:List Oper) (o:Oper) (g:Nat) (want:Bool) (r:List Oper) (nid:Nat) (tm:List PV) (h:List (Nat × bq)) :
  gk M k acc nx ops o g want r nid tm h .void=rk M k acc nx ops o.dst r nid tm h (some ⟨.void,[],[]⟩):=rfl
theorem Sd (k:List Fr) (acc:Acc) (nx:Nat) (ops:List Oper) (d:Option Nat) (r:List Oper) (nid:Nat) (tm:List PV) (h:List (Nat × bq)) (v:PV) (u:Upd) (ft:List Nat) :
  rk M k acc nx ops d r nid tm h (some ⟨v,u,ft⟩)=rg M k (sm acc ⟨v,u,ft⟩) nx ops r (nid+64) (putD tm d v) (dH h u):=rfl
theorem Se (k:List Fr) (acc:Acc) (nx:Nat) (ops:List Oper) (d:Option Nat) (r:List Oper) (nid:Nat) (tm:List PV) (h:List (Nat × bq)) :
  rk M k acc nx ops d r nid tm h none=none:=rfl
theorem abw (k:List Fr) (acc:Acc) (nx:Nat) (ops:List Oper) (d:Option Nat) (r:List Oper) (nid:Nat) (tm:List PV) (h:List (Nat × bq)) (c:Prop) [Decidable c] (x y:Option Eff) :
  rk M k acc nx ops d r nid tm h (if c then x else y)=if c then rk M k acc nx ops d r nid tm h x else rk M k acc nx ops d r nid tm h y:=by split <;> rfl
theorem Sf {α:Type} (k:List Fr) (acc:Acc) (nx:Nat) (ops:List Oper) (d:Option Nat) (r:List Oper) (nid:Nat) (tm:List PV) (h:List (Nat × bq)) (o:Option α) (g:α→Option Eff) :
  rk M k acc nx ops d r nid tm h (o.bind g)=o.bind fun x=>rk M k acc nx ops d r nid tm h (g x):=by cases o <;> rfl
def reg (k:List Fr) (ops:Array Oper) (draw:Bool) (ps:List (Nat × Nat)) (st:St):Option R:=
 rg M k (vx draw ps) (st.next+64*ops.size) ops.toList ops.toList st.next st.tmps st.heap
theorem adR (k:List Fr) (b id:Nat) (ops:Array Oper) (draw:Bool) (st:St) :
  fin M k (ca M.E M.C ax M.f M.nr b (.region id ops draw) st)=reg M k ops draw (M.E.pairs M.f id) (dx M.nr (M.E.keepR M.f id) st):=by
 simp only [ca,fj,reg,rg]
 cases fM M.E M.C ops.toList ops.toList (dx M.nr (M.E.keepR M.f id) st).next (dx M.nr (M.E.keepR M.f id) st).tmps (dx M.nr (M.E.keepR M.f id) st).heap with
 | none=>exact gG M k
 | some p=>
  obtain ⟨tm,h,es⟩:=p
  simp only
  have:(!draw||cO es (M.E.pairs M.f id))=vM (vx draw (M.E.pairs M.f id)) es:=by
   cases draw with
   | false=>cases M.E.pairs M.f id <;> rfl
   | true=>cases M.E.pairs M.f id <;> simp [vx,vM,cO]
  rw [this]
  split
  ·rfl
  ·exact gG M k
theorem abG (k:List Fr) (ops:List Oper) (draw:Bool) (ps:List (Nat × Nat)) (tm:List PV) (h:List (Nat × bq)) (nx:Nat) :
  reg M k ops.toArray draw ps ⟨tm,h,nx⟩=rg M k (vx draw ps) (nx+64*ops.length) ops ops nx tm h:=by simp [reg]
def goK (k:List Fr) (b:Nat) (q:List Nat) (st:St):Kd→Option R
 | .skip=>ret M k .normal st
 | .seq=>go M (.seq b (1::q)::k) b (0::q) st
 | .loop=>lp M k b (0::q) ax (clean M.nr (M.E.keep M.f b) st)
 | .ret=>ret M k .ret st
 | .region id ops draw=>reg M k ops draw (M.E.pairs M.f id) (dx M.nr (M.E.keepR M.f id) st)
 | .cond o=>cnd M k b q st (cj st.tmps o)
 | .block id=>go M (.blk id::k) id (0::q) st
 | .exit i=>ret M k (.exit i) st
 | .bad=>none
theorem anw (k:List Fr) (b:Nat) (q:List Nat) (st:St):go M k b q st=goK M k b q st (kd (cAt M.c q)):=by
 simp only [go,ec]
 cases hc:cAt M.c q with
 | skip=>rfl
 | ret=>rfl
 | exit i=>rfl
 | seq x y=>
  have h:ec M b (1::q)=ca M.E M.C ax M.f M.nr b y:=by funext st;simp only [ec,lr,hc,child]
  simp only [kd,goK,go,fin,h]
  simp only [ca,andThen,ec,lr,hc,child]
  cases ca M.E M.C ax M.f M.nr b x st with
  | none=>rfl
  | some p=>obtain ⟨ex,s⟩:=p;cases ex <;> rfl
 | loop x=>
  simp only [kd,goK,lp,ca]
  rw [← iter_eq,lr,hc];rfl
 | region id ops draw=>exact adR M k b id ops draw st
 | cond o x y=>
  simp only [kd,goK,cnd,ca,go,ec,lr,hc,child]
  cases cj st.tmps o with
  | none=>exact gG M k
  | some p=>cases p <;> first | exact gG M k | (dsimp only;split <;> rfl)
 | block id x=>
  simp only [kd,goK,go,fin,ec,lr,hc,child]
  congr 1
 | _=>exact gG M k
theorem T7 (k:List Fr) (b:Nat) (q:List Nat) (st:St):goK M k b q st .skip=ret M k .normal st:=rfl
theorem adS (k:List Fr) (b:Nat) (q:List Nat) (st:St):goK M k b q st .seq=go M (.seq b (1::q)::k) b (0::q) st:=rfl
theorem T8 (k:List Fr) (b:Nat) (q:List Nat) (st:St):goK M k b q st .loop=lp M k b (0::q) ax (clean M.nr (M.E.keep M.f b) st):=rfl
theorem adT (k:List Fr) (b:Nat) (q:List Nat) (st:St):goK M k b q st .ret=ret M k .ret st:=rfl
theorem Kk (k:List Fr) (b:Nat) (q:List Nat) (st:St) (id:Nat) (ops:Array Oper) (draw:Bool):goK M k b q st (.region id ops draw)=reg M k ops draw (M.E.pairs M.f id) (dx M.nr (M.E.keepR M.f id) st):=rfl
theorem Ua (k:List Fr) (b:Nat) (q:List Nat) (st:St) (o:Operand):goK M k b q st (.cond o)=cnd M k b q st (cj st.tmps o):=rfl
theorem Pt (k:List Fr) (b:Nat) (q:List Nat) (st:St) (id:Nat):goK M k b q st (.block id)=go M (.blk id::k) id (0::q) st:=rfl
theorem T9 (k:List Fr) (b:Nat) (q:List Nat) (st:St) (i:Nat):goK M k b q st (.exit i)=ret M k (.exit i) st:=rfl
theorem QL (k:List Fr) (b:Nat) (q:List Nat) (st:St) (t:Bool):cnd M k b q st (some (.bool t))=if t=true then go M k b (0::q) st else go M k b (1::q) st:=rfl
theorem bk (k:List Fr) (b:Nat) (q:List Nat) (st:St):lp M k b q 0 st=none:=gG M k
theorem bm (k:List Fr) (b:Nat) (q:List Nat) (m:Nat) (st:St):lp M k b q (m+1) st=go M (.loop b q m::k) b q st:=by
 simp only [lp,go,fin,yc,andThen]
theorem Su (ex:Ex) (st:St):ret M [] ex st=M.D ex st:=rfl
theorem JJ (b:Nat) (q:List Nat) (k:List Fr) (st:St):ret M (.seq b q::k) .normal st=go M k b q st:=rfl
theorem JK (b:Nat) (q:List Nat) (k:List Fr) (i:Nat) (st:St):ret M (.seq b q::k) (.exit i) st=ret M k (.exit i) st:=rfl
theorem JI (b:Nat) (q:List Nat) (k:List Fr) (st:St):ret M (.seq b q::k) .ret st=ret M k .ret st:=rfl
theorem JM (id:Nat) (k:List Fr) (st:St):ret M (.blk id::k) .normal st=ret M k .normal st:=rfl
theorem JN (id:Nat) (k:List Fr) (i:Nat) (st:St):ret M (.blk id::k) (.exit i) st=if i=id then ret M k .normal st else ret M k (.exit i) st:=by
 simp only [ret,fin,asQ];split <;> rfl
theorem JL (id:Nat) (k:List Fr) (st:St):ret M (.blk id::k) .ret st=ret M k .ret st:=rfl
theorem De (b:Nat) (q:List Nat) (m:Nat) (k:List Fr) (st:St):ret M (.loop b q m::k) .normal st=lp M k b q m (clean M.nr (M.E.keep M.f b) st):=rfl
theorem Df (b:Nat) (q:List Nat) (m:Nat) (k:List Fr) (i:Nat) (st:St):ret M (.loop b q m::k) (.exit i) st=ret M k (.exit i) st:=rfl
theorem Dd (b:Nat) (q:List Nat) (m:Nat) (k:List Fr) (st:St):ret M (.loop b q m::k) .ret st=ret M k .ret st:=rfl
end
def bg (E:Env) (f:Nat):List ResultVar:=match E.code f with
 | some fn=>fn.results.toList
 | none=>[]
def bh (E:Env) (f:Nat):Code:=match E.code f with
 | some fn=>fn.body.getD .skip
 | none=>.skip
def bo (E:Env) (f:Nat):Nat:=match E.code f with
 | some fn=>fn.ntmps
 | none=>0
def Co (E:Env) (f:Nat) (ex:Ex) (st:St):Option PV:=
 if ex=.normal∨ex=.ret then
  match cv E.tab (dx 0 (E.keepE f) st) (bg E f) with
  | some vs=>eN (look (dx 0 (E.keepE f) st).heap) (pack vs) (E.resK f)
  | none=>none
 else none
def bw (E:Env) (f:Nat) (C:Callee):afw PV:=⟨E,C,f,0,bh E f,Co E f⟩
theorem cP {E:Env} {f:Nat} {fn:Func} (C:Callee) (args:List PV) (hp:E.primP f=none) (hf:E.code f=some fn) (hc:fn.body.isSome=true) :
  (level E C).pureC f args=go (bw E f C) [] 0 [] ⟨args ++ List.replicate (bo E f - args.length) .undef,[],0⟩:=by
 obtain ⟨c,hc⟩:=Option.isSome_iff_exists.1 hc
 have h1:bh E f=c:=by simp [bh,hf,hc]
 have h2:bo E f=fn.ntmps:=by simp [bo,hf]
 have h3:bg E f=fn.results.toList:=by simp [bg,hf]
 simp only [level,hp,fa,hf,hc,go,fin,bw,ec,Az,h1,h2]
 cases ca E C ax f 0 0 c ⟨args ++ List.replicate (fn.ntmps - args.length) .undef,[],0⟩ with
 | none=>rfl
 | some p=>
  obtain ⟨ex,st⟩:=p
  simp only [Option.bind_some,Co,h3]
  by_cases hx:ex=.normal∨ex=.ret
  ·simp only [hx,↓reduceIte]
   cases cv E.tab (dx 0 (E.keepE f) st) fn.results.toList <;> rfl
  ·simp only [hx,↓reduceIte]
theorem aH {E:Env} {X:Nat→Bool} {C:Callee} (hC:Fix E X C) {f:Nat} {fn:Func} (hx:X f=false) (args:List PV) (hp:E.primP f=none) (hf:E.code f=some fn) (hc:fn.body.isSome=true) :
  C.pureC f args=go (bw E f C) [] 0 [] ⟨args ++ List.replicate (bo E f - args.length) .undef,[],0⟩:=by
 rw [hC.p f hx];exact cP C args hp hf hc
end Go.Pm
end
section
set_option linter.unusedVariables false
set_option linter.unusedSimpArgs false
namespace Go.Pm
open Go
section
variable (E:Env) (C:Callee) (rd:Rd) (nid:Nat) (tm:List PV) (d:Option Nat) (ty:Nat) (ps:String) (af:Array Edge) (g:Option (Nat × Bool))
theorem aca (t:Nat):cj tm (.tmp t)=some (nth tm t):=rfl
theorem Nx (v:Value):cj tm (.const v)=dZ v:=rfl
theorem SU (f:Nat):cj tm (.func f)=some (.fn f []):=rfl
theorem acW (b:Bool):dZ (.bool b)=some (.bool b):=rfl
theorem alS (k:IntKind) (n:Int):dZ (.int k n)=some (.int k n):=rfl
theorem alR (s:ByteArray):dZ (.string s)=some (.str s):=rfl
theorem acU:dZ (.pointer none)=some .eH:=rfl
theorem acT:dZ (.slice none 0 0)=some .bp:=rfl
theorem acV:dZ .nilFunc=some .cX:=rfl
theorem U4 (x:Operand):dK E C rd nid tm ⟨d,.move x,ty,ps,af,g⟩=(cj tm x).map fun v=>⟨v,[],[]⟩:=rfl
theorem Lh (x:Operand):dK E C rd nid tm ⟨d,.assign x,ty,ps,af,g⟩=(cj tm x).map fun v=>⟨v,[],[]⟩:=rfl
def GR (c a b:Option PV):Option Eff:=match c,a,b with
 | some (.bool c),some a,some b=>ok (if c then a else b)
 | _,_,_=>none
theorem U3 (x a b:Operand):dK E C rd nid tm ⟨d,.pick x a b,ty,ps,af,g⟩=GR (cj tm x) (cj tm a) (cj tm b):=rfl
theorem ab0 (a b:PV):GR (some (.bool true)) (some a) (some b)=some ⟨a,[],[]⟩:=rfl
theorem ab1 (a b:PV):GR (some (.bool false)) (some a) (some b)=some ⟨b,[],[]⟩:=rfl
theorem ab2 (c a b:Bool):GR (some (.bool c)) (some (.bool a)) (some (.bool b))=some ⟨.bool (if c=true then a else b),[],[]⟩:=by cases c <;> rfl
def Q7 (nid:Nat) (t:Option TI):Option Eff:=match t with
 | some ti=>some ⟨.ptr nid 0,[(nid,some (.box ti.zero))],[]⟩
 | none=>none
theorem Qf (t:Nat):dK E C rd nid tm ⟨d,.alloc t,ty,ps,af,g⟩=Q7 nid (E.tab t):=rfl
theorem FV (kd:TK) (s b:Nat) (z:List PV) (q:Bool):Q7 nid (some ⟨kd,s,b,z,q⟩)=some ⟨.ptr nid 0,[(nid,some (.box z))],[]⟩:=rfl
def asP (nid:Nat) (cs:Option (List PV)):Option Eff:=match cs with
 | some cs=>some ⟨.ptr nid 0,[(nid,some (.box cs))],[]⟩
 | none=>none
theorem aeT (t:Nat) (x:Operand):dK E C rd nid tm ⟨d,.box t x,ty,ps,af,g⟩=asP nid ((cj tm x).bind cellsOf):=rfl
theorem QY (cs:List PV):asP nid (some cs)=some ⟨.ptr nid 0,[(nid,some (.box cs))],[]⟩:=rfl
theorem afj (cs:List PV):cellsOf (.agg cs)=some cs:=rfl
theorem afi (k:IntKind) (n:Int):cellsOf (.int k n)=some [.int k n]:=rfl
theorem Vr (b:Bool):cellsOf (.bool b)=some [.bool b]:=rfl
theorem afe (s:ByteArray):cellsOf (.str s)=some [.str s]:=rfl
theorem afh (xs:List (List PV)) (fl:Fl):cellsOf (.lit xs fl)=some [.lit xs fl]:=rfl
theorem afg (a k o n:Nat):cellsOf (.own a k o n)=some [.own a k o n]:=rfl
theorem Vo:cellsOf .bp=some [.bp]:=rfl
theorem aff (a o:Nat):cellsOf (.ptr a o)=some [.ptr a o]:=rfl
theorem asM (f:Nat) (cs:List PV):cellsOf (.fn f cs)=some [.fn f cs]:=rfl
theorem Vp:cellsOf .eH=some [.eH]:=rfl
def buildK (tab:Nat→Option TI) (t:Option TI) (ps:Option (List (Nat × PV))):Option Eff:=match t,ps with
 | some {kind:=.struct fs,zero:=z,..},some ps=>(fillParts tab fs z ps).map fun cs=>⟨.agg cs,[],[]⟩
 | some {kind:=.array n e,zero:=z,..},some ps=>
  match e8 tab e with
  | some sz=>(fillParts tab ((List.range n).map fun i=>(i*sz,e)) z ps).map fun cs=>⟨.agg cs,[],[]⟩
  | none=>none
 | _,_=>none
theorem Qe (t:Nat) (parts:Array (Nat × Operand)):dK E C rd nid tm ⟨d,.build t parts,ty,ps,af,g⟩=buildK E.tab (E.tab t) (kV tm parts.toList):=rfl
theorem AD (tab:Nat→Option TI) (fs:List (Nat × Nat)) (s b:Nat) (z:List PV) (q:Bool) (ps:List (Nat × PV)) :
  buildK tab (some ⟨.struct fs,s,b,z,q⟩) (some ps)=(fillParts tab fs z ps).map fun cs=>⟨.agg cs,[],[]⟩:=rfl
theorem Cu (tab:Nat→Option TI) (n e s b:Nat) (z:List PV) (q:Bool) (ps:List (Nat × PV)) :
  buildK tab (some ⟨.array n e,s,b,z,q⟩) (some ps)=match e8 tab e with
  | some sz=>(fillParts tab ((List.range n).map fun i=>(i*sz,e)) z ps).map fun cs=>⟨.agg cs,[],[]⟩
  | none=>none:=rfl
def fillK (tab:Nat→Option TI) (fs:List (Nat × Nat)) (cells:List PV) (o:Option (Nat × Nat)) (v:PV) (r:List (Nat × PV)):Option (List PV):=
 match o with
 | some (off,ft)=>match tab ft,cellsOf v with
  | some ti,some cs=>if cs.length == ti.size&&decide (off+cs.length≤cells.length) then fillParts tab fs (splice cells off cs) r else none
  | _,_=>none
 | none=>none
theorem Pv (tab:Nat→Option TI) (fs:List (Nat × Nat)) (cells:List PV):fillParts tab fs cells []=some cells:=rfl
theorem Kl (tab:Nat→Option TI) (fs:List (Nat × Nat)) (cells:List PV) (i:Nat) (v:PV) (r:List (Nat × PV)) :
  fillParts tab fs cells ((i,v)::r)=fillK tab fs cells fs[i]? v r:=rfl
def fillJ (tab:Nat→Option TI) (fs:List (Nat × Nat)) (cells:List PV) (off:Nat) (t:Option TI) (cs:Option (List PV)) (r:List (Nat × PV)):Option (List PV):=
 match t,cs with
 | some ti,some cs=>if cs.length == ti.size&&decide (off+cs.length≤cells.length) then fillParts tab fs (splice cells off cs) r else none
 | _,_=>none
theorem D7 (tab:Nat→Option TI) (fs:List (Nat × Nat)) (cells:List PV) (off ft:Nat) (v:PV) (r:List (Nat × PV)) :
  fillK tab fs cells (some (off,ft)) v r=fillJ tab fs cells off (tab ft) (cellsOf v) r:=by
 simp only [fillK,fillJ]
theorem D8 (tab:Nat→Option TI) (fs:List (Nat × Nat)) (cells:List PV) (off:Nat) (kd:TK) (s b:Nat) (z:List PV) (q:Bool) (cs:List PV) (r:List (Nat × PV)) :
  fillJ tab fs cells off (some ⟨kd,s,b,z,q⟩) (some cs) r=if (cs.length == s&&decide (off+cs.length≤cells.length))=true then fillParts tab fs (splice cells off cs) r else none:=rfl
def bsliceK (tab:Nat→Option TI) (rd:Rd) (nid n:Nat) (inO:Bool) (t:Option TI) (vs:Option (List PV)):Option Eff:=
 match t,vs with
 | some {kind:=.slice e,..},some vs=>
  match tab e with
  | some ti=>if inO&&vs.length == n&&decide (n*ti.size≤4096)&&decide (0<ti.size) then
    match cW rd ti.size vs with
    | some (rows,fz,flat)=>some ⟨.own nid ti.size 0 n,freezes rd fz ++ [(nid,some (.arr ti.size rows flat false))],fz⟩
    | none=>none
   else none
  | none=>none
 | _,_=>none
theorem Lg (t n:Nat) (parts:Array (Nat × Operand)):dK E C rd nid tm ⟨d,.buildSlice t n parts,ty,ps,af,g⟩=bsliceK E.tab rd nid n (jW 0 parts.toList) (E.tab t) (mU tm parts.toList):=rfl
def bsliceJ (rd:Rd) (nid n:Nat) (inO:Bool) (t:Option TI) (vs:List PV):Option Eff:=
 match t with
 | some ti=>if inO&&vs.length == n&&decide (n*ti.size≤4096)&&decide (0<ti.size) then
   match cW rd ti.size vs with
   | some (rows,fz,flat)=>some ⟨.own nid ti.size 0 n,freezes rd fz ++ [(nid,some (.arr ti.size rows flat false))],fz⟩
   | none=>none
  else none
 | none=>none
theorem QU (tab:Nat→Option TI) (n:Nat) (i:Bool) (e s b:Nat) (z:List PV) (q:Bool) (vs:List PV) :
  bsliceK tab rd nid n i (some ⟨.slice e,s,b,z,q⟩) (some vs)=bsliceJ rd nid n i (tab e) vs:=rfl
def AE (rd:Rd) (nid n sz:Nat) (x:Option (List (List PV) × List Nat × Bool)):Option Eff:=
 match x with
 | some (rows,fz,flat)=>some ⟨.own nid sz 0 n,freezes rd fz ++ [(nid,some (.arr sz rows flat false))],fz⟩
 | none=>none
theorem QW (n:Nat) (i:Bool) (kd:TK) (s b:Nat) (z:List PV) (q:Bool) (vs:List PV) :
  bsliceJ rd nid n i (some ⟨kd,s,b,z,q⟩) vs=if (i&&vs.length == n&&decide (n*s≤4096)&&decide (0<s))=true then AE rd nid n s (cW rd s vs) else none:=by
 simp only [bsliceJ,AE]
theorem QV (n s:Nat) (rows:List (List PV)) (fz:List Nat) (fl:Bool):AE rd nid n s (some (rows,fz,fl))=some ⟨.own nid s 0 n,freezes rd fz ++ [(nid,some (.arr s rows fl false))],fz⟩:=rfl
def sK (rd:Rd) (t:Option TI) (p:Option PV):Option Eff:=match t,p with
 | some ti,some p=>loadAt rd ti p
 | _,_=>none
theorem U5 (t:Nat) (p:Operand):dK E C rd nid tm ⟨d,.load t p,ty,ps,af,g⟩=sK rd (E.tab t) (cj tm p):=rfl
def ldC (t:TI) (cs:List PV) (ft:List Nat):Option Eff:=(er t cs).map fun v=>⟨v,[],ft⟩
theorem Dx (fs:List (Nat × Nat)) (s b:Nat) (z:List PV) (q:Bool) (cs:List PV) (ft:List Nat) :
  ldC ⟨.struct fs,s,b,z,q⟩ cs ft=if cs.length=s then some ⟨.agg cs,[],ft⟩ else none:=by
 simp only [ldC,er,zH]
 by_cases h:cs.length=s <;> simp [h]
theorem J3 (n e:Nat) (s b:Nat) (z:List PV) (q:Bool) (cs:List PV) (ft:List Nat) :
  ldC ⟨.array n e,s,b,z,q⟩ cs ft=if cs.length=s then some ⟨.agg cs,[],ft⟩ else none:=by
 simp only [ldC,er,zH]
 by_cases h:cs.length=s <;> simp [h]
theorem Tg (k:IntKind) (s b:Nat) (z:List PV) (q:Bool) (v:PV) (ft:List Nat):ldC ⟨.int k,s,b,z,q⟩ [v] ft=some ⟨v,[],ft⟩:=rfl
theorem N8 (s b:Nat) (z:List PV) (q:Bool) (v:PV) (ft:List Nat):ldC ⟨.bool,s,b,z,q⟩ [v] ft=some ⟨v,[],ft⟩:=rfl
theorem Te (s b:Nat) (z:List PV) (q:Bool) (v:PV) (ft:List Nat):ldC ⟨.str,s,b,z,q⟩ [v] ft=some ⟨v,[],ft⟩:=rfl
theorem J2 (e s b:Nat) (z:List PV) (q:Bool) (v:PV) (ft:List Nat):ldC ⟨.slice e,s,b,z,q⟩ [v] ft=some ⟨v,[],ft⟩:=rfl
theorem Tf (s b:Nat) (z:List PV) (q:Bool) (v:PV) (ft:List Nat):ldC ⟨.ptr,s,b,z,q⟩ [v] ft=some ⟨v,[],ft⟩:=rfl
theorem N7 (s b:Nat) (z:List PV) (q:Bool) (v:PV) (ft:List Nat):ldC ⟨.func,s,b,z,q⟩ [v] ft=some ⟨v,[],ft⟩:=rfl
def ldB (ti:TI) (a o:Nat) (b:Option bq):Option Eff:=match b with
 | some (.box cs)=>ldC ti (fx cs o ti.size) [a]
 | _=>none
theorem N4 (ti:TI) (a o:Nat):sK rd (some ti) (some (.ptr a o))=ldB ti a o (rd a):=by
 simp only [sK,loadAt,ldB,ldC]
 cases rd a with
 | none=>rfl
 | some p=>cases p <;> rfl
theorem Th (kd:TK) (s b:Nat) (z:List PV) (q:Bool) (a o:Nat) (cs:List PV):ldB ⟨kd,s,b,z,q⟩ a o (some (.box cs))=ldC ⟨kd,s,b,z,q⟩ (fx cs o s) [a]:=rfl
theorem JY (kd:TK) (s b:Nat) (z:List PV) (q:Bool) (cs:List PV) (o:Nat):sK rd (some ⟨kd,s,b,z,q⟩) (some (.bL [cs] 0 o))=ldC ⟨kd,s,b,z,q⟩ (fx cs o s) []:=rfl
def ldA (ti:TI) (a i o:Nat) (b:Option bq):Option Eff:=match b with
 | some (.arr _ xs _ _)=>(xs[i]?).bind fun cs=>ldC ti (fx cs o ti.size) [a]
 | _=>none
theorem JZ (ti:TI) (a i o:Nat):sK rd (some ti) (some (.dL a i o))=ldA ti a i o (rd a):=by
 simp only [sK,loadAt,ldA,ldC]
 cases rd a with
 | none=>rfl
 | some p=>cases p with
  | box cs=>rfl
  | arr k xs fl fz=>simp only;cases xs[i]? <;> rfl
theorem Ti (kd:TK) (s b:Nat) (z:List PV) (q:Bool) (a i o k:Nat) (xs:List (List PV)) (fl fz:Bool) :
  ldA ⟨kd,s,b,z,q⟩ a i o (some (.arr k xs fl fz))=(xs[i]?).bind fun cs=>ldC ⟨kd,s,b,z,q⟩ (fx cs o s) [a]:=rfl
def uu (rd:Rd) (t:Option TI) (p v:Option PV):Option Eff:=match t,p,v with
 | some ti,some p,some v=>storeAt rd ti p v
 | _,_,_=>none
theorem Qb (t:Nat) (p v:Operand):dK E C rd nid tm ⟨d,.store t p v,ty,ps,af,g⟩=uu rd (E.tab t) (cj tm p) (cj tm v):=rfl
def stB (a o s:Nat) (b:Option bq) (vs:Option (List PV)):Option Eff:=match b,vs with
 | some (.box cs),some vs=>if vs.length=s∧o+vs.length≤cs.length then some ⟨.void,[(a,some (.box (splice cs o vs)))],[a]⟩ else none
 | _,_=>none
theorem I7 (kd:TK) (s b:Nat) (z:List PV) (q:Bool) (a o:Nat) (v:PV):uu rd (some ⟨kd,s,b,z,q⟩) (some (.ptr a o)) (some v)=stB a o s (rd a) (cellsOf v):=by
 simp only [uu,storeAt,stB]
 cases cellsOf v with
 | none=>cases rd a with
  | none=>rfl
  | some p=>cases p <;> rfl
 | some vs=>
  cases rd a with
  | none=>by_cases h:vs.length=s <;> simp [h]
  | some p=>cases p <;> by_cases h:vs.length=s <;> simp [h]
theorem RD (a o s:Nat) (cs vs:List PV):stB a o s (some (.box cs)) (some vs)=if vs.length=s∧o+vs.length≤cs.length then some ⟨.void,[(a,some (.box (splice cs o vs)))],[a]⟩ else none:=rfl
def stA (rd:Rd) (a i o s:Nat) (b:Option bq) (vs:Option (List PV)):Option Eff:=match b,vs with
 | some (.arr k xs flat false),some vs=>if vs.length=s then
   (xs[i]?).bind fun cs=>match settle rd vs with
   | some (ws,fz)=>if (decide (o+ws.length≤cs.length)&&!has fz a&&!ws.isEmpty)=true then some ⟨.void,freezes rd fz ++ [(a,some (.arr k (cC xs i (splice cs o ws)) (flat&&cJ ws) false))],a::fz⟩ else none
   | none=>none
  else none
 | _,_=>none
theorem CN (kd:TK) (s b:Nat) (z:List PV) (q:Bool) (a i o:Nat) (v:PV):uu rd (some ⟨kd,s,b,z,q⟩) (some (.dL a i o)) (some v)=stA rd a i o s (rd a) (cellsOf v):=by
 simp only [uu,storeAt,stA]
 cases cellsOf v with
 | none=>cases rd a with
  | none=>rfl
  | some p=>cases p with
   | box=>rfl
   | arr k xs fl fz=>cases fz <;> rfl
 | some vs=>
  cases rd a with
  | none=>by_cases h:vs.length=s <;> simp [h]
  | some p=>cases p with
   | box=>by_cases h:vs.length=s <;> simp [h]
   | arr k xs fl fz=>cases fz with
    | true=>by_cases h:vs.length=s <;> simp [h]
    | false=>
     by_cases h:vs.length=s
     ·simp only [h,beq_self_eq_true,↓reduceIte]
      cases xs[i]? with
      | none=>rfl
      | some cs=>cases hs:settle rd vs <;> rfl
     ·simp [h]
def stC (rd:Rd) (a i o k:Nat) (xs:List (List PV)) (flat:Bool) (cs:List PV) (x:Option (List PV × List Nat)):Option Eff:=match x with
 | some (ws,fz)=>if (decide (o+ws.length≤cs.length)&&!has fz a&&!ws.isEmpty)=true then some ⟨.void,freezes rd fz ++ [(a,some (.arr k (cC xs i (splice cs o ws)) (flat&&cJ ws) false))],a::fz⟩ else none
 | none=>none
theorem RE (a i o s k:Nat) (xs:List (List PV)) (flat:Bool) (vs:List PV) :
  stA rd a i o s (some (.arr k xs flat false)) (some vs)=if vs.length=s then (xs[i]?).bind fun cs=>stC rd a i o k xs flat cs (settle rd vs) else none:=rfl
theorem LR (a i o k:Nat) (xs:List (List PV)) (flat:Bool) (cs ws:List PV) (fz:List Nat) :
  stC rd a i o k xs flat cs (some (ws,fz))=if (decide (o+ws.length≤cs.length)&&!has fz a&&!ws.isEmpty)=true then some ⟨.void,freezes rd fz ++ [(a,some (.arr k (cC xs i (splice cs o ws)) (flat&&cJ ws) false))],a::fz⟩ else none:=rfl
def JU (p:Option PV):Option Eff:=match p with
 | some (.ptr a o)=>ok (.ptr a o)
 | some (.dL a i o)=>ok (.dL a i o)
 | some (.bL xs i o)=>ok (.bL xs i o)
 | some (.fn f cs)=>ok (.fn f cs)
 | _=>none
theorem Cj (x:Operand):dK E C rd nid tm ⟨d,.nilCheck x,ty,ps,af,g⟩=JU (cj tm x):=by
 simp only [dK,bM,JU]
 cases cj tm x with
 | none=>rfl
 | some p=>cases p <;> rfl
theorem S1 (a o:Nat):JU (some (.ptr a o))=some ⟨.ptr a o,[],[]⟩:=rfl
theorem NW (a i o:Nat):JU (some (.dL a i o))=some ⟨.dL a i o,[],[]⟩:=rfl
theorem NV (xs:List (List PV)) (i o:Nat):JU (some (.bL xs i o))=some ⟨.bL xs i o,[],[]⟩:=rfl
theorem acq (f:Nat) (cs:List PV):JU (some (.fn f cs))=some ⟨.fn f cs,[],[]⟩:=rfl
def eQ (t:Option TI) (o:BinOp) (x y:Option PV):Option Eff:=match x,y with
 | some x,some y=>(fk t o x y).map fun v=>⟨v,[],[]⟩
 | _,_=>none
theorem aeU (o:BinOp) (t t':Nat) (x y:Operand):dK E C rd nid tm ⟨d,.binOp o t x y t',ty,ps,af,g⟩=eQ (E.tab t) o (cj tm x) (cj tm y):=rfl
section
variable (t:Option TI) (k:IntKind) (a b:Int)
theorem VO:eQ t .eql (some (.int k a)) (some (.int k b))=some ⟨.bool (a == b),[],[]⟩:=by simp [eQ,fk,re]
theorem VF:eQ t .neq (some (.int k a)) (some (.int k b))=some ⟨.bool (!(a == b)),[],[]⟩:=by simp [eQ,fk,re]
theorem VR:eQ t .add (some (.int k a)) (some (.int k b))=some ⟨.int k (k.wrap (a+b)),[],[]⟩:=by simp [eQ,fk]
theorem Vz:eQ t .sub (some (.int k a)) (some (.int k b))=some ⟨.int k (k.wrap (a - b)),[],[]⟩:=by simp [eQ,fk]
theorem VI:eQ t .mul (some (.int k a)) (some (.int k b))=some ⟨.int k (k.wrap (a*b)),[],[]⟩:=by simp [eQ,fk]
theorem VD:eQ t .quo (some (.int k a)) (some (.int k b))=if (b == 0)=true then none else some ⟨.int k (k.wrap (a.tdiv b)),[],[]⟩:=by
 simp only [eQ,fk,↓reduceIte];by_cases h:b=0 <;> simp [h]
theorem VC:eQ t .rem (some (.int k a)) (some (.int k b))=if (b == 0)=true then none else some ⟨.int k (a.tmod b),[],[]⟩:=by
 simp only [eQ,fk,↓reduceIte];by_cases h:b=0 <;> simp [h]
theorem VJ:eQ t .lss (some (.int k a)) (some (.int k b))=some ⟨.bool (decide (a<b)),[],[]⟩:=by simp [eQ,fk]
theorem VK:eQ t .leq (some (.int k a)) (some (.int k b))=some ⟨.bool (decide (a≤b)),[],[]⟩:=by simp [eQ,fk]
theorem VL:eQ t .gtr (some (.int k a)) (some (.int k b))=some ⟨.bool (decide (b<a)),[],[]⟩:=by simp [eQ,fk]
theorem VM:eQ t .geq (some (.int k a)) (some (.int k b))=some ⟨.bool (decide (b≤a)),[],[]⟩:=by simp [eQ,fk]
theorem VA (k':IntKind):eQ t .shr (some (.int k a)) (some (.int k' b))=if decide (0≤b)=true then some ⟨.int k (a.fdiv (2 ^ min b.toNat k.bits)),[],[]⟩ else none:=by
 simp only [eQ,fk];by_cases h:0≤b <;> simp [h]
theorem VB (k':IntKind):eQ t .shl (some (.int k a)) (some (.int k' b))=if decide (0≤b)=true then some ⟨.int k (k.wrap (a*2 ^ min b.toNat k.bits)),[],[]⟩ else none:=by
 simp only [eQ,fk];by_cases h:0≤b <;> simp [h]
theorem F0 (a b:ByteArray):(a.toList == b.toList)=decide (a=b):=by
 have h:a.toList=b.toList↔a=b:=by
  constructor
  ·intro h
   have h1:a.data.toList=b.data.toList:=by
    rw [← ByteArray.toList_eq,← ByteArray.toList_eq];exact h
   exact ByteArray.ext (Array.toList_inj.1 h1)
  ·rintro rfl;rfl
 by_cases hc:a=b
 ·simp [hc]
 ·simp [hc,h]
theorem VN (a b:ByteArray):eQ t .eql (some (.str a)) (some (.str b))=some ⟨.bool (decide (a=b)),[],[]⟩:=by simp only [eQ,fk,re,Option.map_some,F0]
theorem VE (a b:ByteArray):eQ t .neq (some (.str a)) (some (.str b))=some ⟨.bool (!decide (a=b)),[],[]⟩:=by simp only [eQ,fk,re,Option.map_some,F0]
theorem FN (a b:ByteArray):eQ t .add (some (.str a)) (some (.str b))=none:=rfl
theorem VP (s b':Nat) (z:List PV) (q:Bool) (a b:Bool):eQ (some ⟨.bool,s,b',z,q⟩) .eql (some (.bool a)) (some (.bool b))=some ⟨.bool (a == b),[],[]⟩:=rfl
theorem VG (s b':Nat) (z:List PV) (q:Bool) (a b:Bool):eQ (some ⟨.bool,s,b',z,q⟩) .neq (some (.bool a)) (some (.bool b))=some ⟨.bool (!(a == b)),[],[]⟩:=rfl
theorem VQ (fs:List (Nat × Nat)) (s b':Nat) (z:List PV) (xs ys:List PV):eQ (some ⟨.struct fs,s,b',z,true⟩) .eql (some (.agg xs)) (some (.agg ys))=(dm xs ys).map fun b=>⟨.bool b,[],[]⟩:=by
 simp only [eQ,fk,re,↓reduceIte,Option.map_map];rfl
theorem VH (fs:List (Nat × Nat)) (s b':Nat) (z:List PV) (xs ys:List PV):eQ (some ⟨.struct fs,s,b',z,true⟩) .neq (some (.agg xs)) (some (.agg ys))=(dm xs ys).map fun b=>⟨.bool (!b),[],[]⟩:=by
 simp only [eQ,fk,re,↓reduceIte,Option.map_map];rfl
theorem Va:dm [] []=some true:=rfl
theorem Vb (xs ys:List PV):dm (.int k a::xs) (.int k b::ys)=(dm xs ys).map fun r=>(a == b)&&r:=by
 simp only [dm,sg,↓reduceIte];cases dm xs ys <;> rfl
theorem Qp (a b:Bool) (xs ys:List PV):dm (.bool a::xs) (.bool b::ys)=(dm xs ys).map fun r=>(a == b)&&r:=by
 simp only [dm,sg];cases dm xs ys <;> rfl
theorem U9 (a b:ByteArray) (xs ys:List PV):dm (.str a::xs) (.str b::ys)=(dm xs ys).map fun r=>decide (a=b)&&r:=by
 simp only [dm,sg]
 have:(a == b)=decide (a=b):=by
  have h0:(a == b)=(a.data == b.data):=rfl
  rw [h0]
  by_cases h:a=b
  ·simp [h]
  ·have:a.data≠b.data:=fun h'=>h (ByteArray.ext h')
   simp [h,this]
 rw [this]
 cases dm xs ys <;> rfl
end
def unK (o:UnOp) (x:Option PV):Option Eff:=match x with
 | some x=>(Rt o x).map fun v=>⟨v,[],[]⟩
 | none=>none
theorem aqK (o:UnOp) (t:Nat) (x:Operand):dK E C rd nid tm ⟨d,.unOp o t x,ty,ps,af,g⟩=unK o (cj tm x):=rfl
theorem aaB (b:Bool):unK .not (some (.bool b))=some ⟨.bool (!b),[],[]⟩:=rfl
theorem aaC (k:IntKind) (n:Int):unK .neg (some (.int k n))=some ⟨.int k (k.wrap (0 - n)),[],[]⟩:=rfl
def convK (s t:Option TI) (x:Option PV):Option Eff:=match s,t,x with
 | some {kind:=.int _,..},some {kind:=.int k,..},some (.int _ n)=>ok (.int k (k.wrap n))
 | _,_,_=>none
theorem U6 (s t:Nat) (x:Operand):dK E C rd nid tm ⟨d,.convert s t x,ty,ps,af,g⟩=convK (E.tab s) (E.tab t) (cj tm x):=rfl
theorem Qv (k k' k'':IntKind) (s b:Nat) (z:List PV) (q:Bool) (s' b':Nat) (z':List PV) (q':Bool) (n:Int) :
  convK (some ⟨.int k,s,b,z,q⟩) (some ⟨.int k',s',b',z',q'⟩) (some (.int k'' n))=some ⟨.int k' (k'.wrap n),[],[]⟩:=rfl
def mfK (f:Nat) (cs:Option (List PV)):Option Eff:=cs.map fun cs=>⟨.fn f cs,[],[]⟩
theorem Ck (f:Nat) (iF:Array Operand):dK E C rd nid tm ⟨d,.makeFunc (.func f) #[] iF,ty,ps,af,g⟩=mfK f (gB tm iF.toList):=rfl
theorem S4 (f:Nat) (cs:List PV):mfK f (some cs)=some ⟨.fn f cs,[],[]⟩:=rfl
def mkK (tab:Nat→Option TI) (nid:Nat) (t:Option TI) (l c:Option PV):Option Eff:=match t,l,c with
 | some {kind:=.slice e,..},some (.int .i64 l),some (.int .i64 c)=>
  match tab e with
  | some ti=>if 0≤l∧l≤c∧c≤bound∧ti.bytes≤4096 then
    some ⟨.own nid ti.size 0 l.toNat,[(nid,some (.arr ti.size (oz ti l.toNat) false false))],[]⟩
   else none
  | none=>none
 | _,_,_=>none
theorem Ap (t:Nat) (l c:Operand):dK E C rd nid tm ⟨d,.makeSlice t l c,ty,ps,af,g⟩=mkK E.tab nid (E.tab t) (cj tm l) (cj tm c):=rfl
def mkJ (nid:Nat) (t:Option TI) (l c:Int):Option Eff:=match t with
 | some ti=>if 0≤l∧l≤c∧c≤bound∧ti.bytes≤4096 then
   some ⟨.own nid ti.size 0 l.toNat,[(nid,some (.arr ti.size (oz ti l.toNat) false false))],[]⟩
  else none
 | none=>none
theorem alA (tab:Nat→Option TI) (e s b:Nat) (z:List PV) (q:Bool) (l c:Int):mkK tab nid (some ⟨.slice e,s,b,z,q⟩) (some (.int .i64 l)) (some (.int .i64 c))=mkJ nid (tab e) l c:=rfl
theorem alB (kd:TK) (s b:Nat) (z:List PV) (q:Bool) (l:Int):mkJ nid (some ⟨kd,s,b,z,q⟩) l l =
  if decide (0≤l∧l≤bound)=true then (if b≤4096 then some ⟨.own nid s 0 (List.replicate l.toNat z).length,[(nid,some (.arr s (List.replicate l.toNat z) false false))],[]⟩ else none) else none:=by
 simp only [mkJ,oz,List.length_replicate,Int.le_refl,true_and,decide_eq_true_eq]
 by_cases h1:0≤l <;> by_cases h2:l≤bound <;> by_cases h3:b≤4096 <;> simp [h1,h2,h3]
def uC (tab:Nat→Option TI) (t:Nat) (x:Option PV) (lo hi:Option (Option PV)):Option Eff:=match x,lo,hi with
 | some x,some lo,some hi=>cutAt tab t x lo hi
 | _,_,_=>none
theorem Cf (t:Nat) (x:Operand):dK E C rd nid tm ⟨d,.slice t x none none none,ty,ps,af,g⟩=uC E.tab t (cj tm x) (some none) (some none):=rfl
theorem Ch (t:Nat) (x l:Operand):dK E C rd nid tm ⟨d,.slice t x (some l) none none,ty,ps,af,g⟩=uC E.tab t (cj tm x) ((cj tm l).map some) (some none):=rfl
theorem Cg (t:Nat) (x h:Operand):dK E C rd nid tm ⟨d,.slice t x none (some h) none,ty,ps,af,g⟩=uC E.tab t (cj tm x) (some none) ((cj tm h).map some):=rfl
theorem Ci (t:Nat) (x l h:Operand):dK E C rd nid tm ⟨d,.slice t x (some l) (some h) none,ty,ps,af,g⟩=uC E.tab t (cj tm x) ((cj tm l).map some) ((cj tm h).map some):=rfl
theorem CU (tab:Nat→Option TI) (t:Nat) (x:PV) (lo hi:Option PV):uC tab t (some x) (some lo) (some hi)=cutAt tab t x lo hi:=rfl
def faK (tab:Nat→Option TI) (f:Nat) (s:Option TI) (p:Option PV):Option Eff:=match s,p with
 | some {kind:=.struct fs,..},some p=>match fs[f]? with
  | some (off,ft)=>match tab ft with
   | some ti=>if ti.size == 0 then none else
    match p with
    | .ptr a o=>ok (.ptr a (o+off))
    | .dL a i o=>ok (.dL a i (o+off))
    | .bL xs i o=>ok (.bL xs i (o+off))
    | _=>none
   | none=>none
  | none=>none
 | _,_=>none
theorem Ar (s:Nat) (x:Operand) (f:Nat):dK E C rd nid tm ⟨d,.fieldAddr s x f,ty,ps,af,g⟩=faK E.tab f (E.tab s) (cj tm x):=by
 simp only [dK,bM,gq,k7,faK]
 cases cj tm x with
 | none=>simp only;cases E.tab s with
  | none=>rfl
  | some ti=>obtain ⟨kd,s,b,z,q⟩:=ti;cases kd <;> rfl
 | some p=>
  cases E.tab s with
  | none=>rfl
  | some ti=>obtain ⟨kd,s,b,z,q⟩:=ti;cases kd <;> rfl
def faJ (off:Nat) (t:Option TI) (p:PV):Option Eff:=match t with
 | some ti=>if ti.size == 0 then none else
  match p with
  | .ptr a o=>ok (.ptr a (o+off))
  | .dL a i o=>ok (.dL a i (o+off))
  | .bL xs i o=>ok (.bL xs i (o+off))
  | _=>none
 | none=>none
def faI (tab:Nat→Option TI) (o:Option (Nat × Nat)) (p:PV):Option Eff:=match o with
 | some (off,ft)=>faJ off (tab ft) p
 | none=>none
theorem aqv (tab:Nat→Option TI) (f:Nat) (fs:List (Nat × Nat)) (s b:Nat) (z:List PV) (q:Bool) (p:PV):faK tab f (some ⟨.struct fs,s,b,z,q⟩) (some p)=faI tab fs[f]? p:=rfl
theorem aqw (tab:Nat→Option TI) (off ft:Nat) (p:PV):faI tab (some (off,ft)) p=faJ off (tab ft) p:=rfl
theorem Uc (off:Nat) (kd:TK) (s b:Nat) (z:List PV) (q:Bool) (a o:Nat):faJ off (some ⟨kd,s+1,b,z,q⟩) (.ptr a o)=some ⟨.ptr a (o+off),[],[]⟩:=rfl
theorem Py (off:Nat) (kd:TK) (s b:Nat) (z:List PV) (q:Bool) (a i o:Nat):faJ off (some ⟨kd,s+1,b,z,q⟩) (.dL a i o)=some ⟨.dL a i (o+off),[],[]⟩:=rfl
theorem Px (off:Nat) (kd:TK) (s b:Nat) (z:List PV) (q:Bool) (xs:List (List PV)) (i o:Nat):faJ off (some ⟨kd,s+1,b,z,q⟩) (.bL xs i o)=some ⟨.bL xs i (o+off),[],[]⟩:=rfl
def fdK (tab:Nat→Option TI) (f:Nat) (s:Option TI) (v:Option PV):Option Eff:=match s,v with
 | some {kind:=.struct fs,..},some (.agg cs)=>match fs[f]? with
  | some (off,ft)=>match tab ft with
   | some ti=>ldC ti (fx cs off ti.size) []
   | none=>none
  | none=>none
 | _,_=>none
theorem Qd (s:Nat) (x:Operand) (f:Nat):dK E C rd nid tm ⟨d,.field s x f,ty,ps,af,g⟩=fdK E.tab f (E.tab s) (cj tm x):=by
 simp only [dK,bM,fieldAt,k7,fdK,ldC]
 cases cj tm x with
 | none=>simp only;cases E.tab s with
  | none=>rfl
  | some ti=>obtain ⟨kd,s,b,z,q⟩:=ti;cases kd <;> rfl
 | some p=>
  cases E.tab s with
  | none=>rfl
  | some ti=>
   obtain ⟨kd,s,b,z,q⟩:=ti
   cases kd with
   | struct fs=>
    cases p <;> simp only
    all_goals (cases fs[f]? with
    | none=>rfl
    | some o=>obtain ⟨off,ft⟩:=o;rfl)
   | _=>rfl
def fdI (tab:Nat→Option TI) (o:Option (Nat × Nat)) (cs:List PV):Option Eff:=match o with
 | some (off,ft)=>match tab ft with
  | some ti=>ldC ti (fx cs off ti.size) []
  | none=>none
 | none=>none
def fdJ (off:Nat) (t:Option TI) (cs:List PV):Option Eff:=match t with
 | some ti=>ldC ti (fx cs off ti.size) []
 | none=>none
theorem aqs (tab:Nat→Option TI) (f:Nat) (fs:List (Nat × Nat)) (s b:Nat) (z:List PV) (q:Bool) (cs:List PV):fdK tab f (some ⟨.struct fs,s,b,z,q⟩) (some (.agg cs))=fdI tab fs[f]? cs:=rfl
theorem aqu (tab:Nat→Option TI) (off ft:Nat) (cs:List PV):fdI tab (some (off,ft)) cs=fdJ off (tab ft) cs:=rfl
theorem aqt (off:Nat) (kd:TK) (s b:Nat) (z:List PV) (q:Bool) (cs:List PV):fdJ off (some ⟨kd,s,b,z,q⟩) cs=ldC ⟨kd,s,b,z,q⟩ (fx cs off s) []:=rfl
def ixK (tab:Nat→Option TI) (t:Option TI) (x i:Option PV):Option Eff:=match t,x,i with
 | some {kind:=.slice e,..},some x,some (.int _ i)=>
  match tab e with
  | some ti=>
   match x with
   | .own a k off len=>if k == ti.size&&decide (0≤i)&&decide (i<len) then ok (.dL a (off+i.toNat) 0) else none
   | .lit xs _=>if 0≤i then match xs[i.toNat]? with
     | some cs=>if cs.length == ti.size then ok (.bL [cs] 0 0) else none
     | none=>none
    else none
   | _=>none
  | none=>none
 | some {kind:=.array n e,..},some x,some (.int _ i)=>
  match tab e with
  | some ti=>if decide (0≤i)&&decide (i<n) then
    match x with
    | .ptr a o=>ok (.ptr a (o+i.toNat*ti.size))
    | .dL a j o=>ok (.dL a j (o+i.toNat*ti.size))
    | .bL xs j o=>ok (.bL xs j (o+i.toNat*ti.size))
    | _=>none
   else none
  | none=>none
 | _,_,_=>none
theorem Aq (t:Nat) (x i:Operand):dK E C rd nid tm ⟨d,.indexAddr t x i,ty,ps,af,g⟩=ixK E.tab (E.tab t) (cj tm x) (cj tm i):=by
 simp only [dK,bM,ixK]
 cases cj tm x with
 | none=>cases E.tab t with
  | none=>rfl
  | some ti=>obtain ⟨kd,s,b,z,q⟩:=ti;cases kd <;> rfl
 | some p=>
  cases cj tm i with
  | none=>cases E.tab t with
   | none=>rfl
   | some ti=>obtain ⟨kd,s,b,z,q⟩:=ti;cases kd <;> rfl
  | some w=>
   simp only [gp]
   cases E.tab t with
   | none=>rfl
   | some ti=>
    obtain ⟨kd,s,b,z,q⟩:=ti
    cases kd with
    | slice e=>
     cases w <;> try rfl
     simp only [intOf,e8]
     cases E.tab e <;> rfl
    | array n e=>
     cases w <;> try rfl
     simp only [intOf,e8]
     cases E.tab e <;> rfl
    | _=>cases w <;> rfl
def ixS (t:Option TI) (x:PV) (i:Int):Option Eff:=match t with
 | some ti=>
  match x with
  | .own a k off len=>if k == ti.size&&decide (0≤i)&&decide (i<len) then ok (.dL a (off+i.toNat) 0) else none
  | .lit xs _=>if 0≤i then match xs[i.toNat]? with
    | some cs=>if cs.length == ti.size then ok (.bL [cs] 0 0) else none
    | none=>none
   else none
  | _=>none
 | none=>none
theorem alT (tab:Nat→Option TI) (e s b:Nat) (z:List PV) (q:Bool) (x:PV) (k:IntKind) (i:Int):ixK tab (some ⟨.slice e,s,b,z,q⟩) (some x) (some (.int k i))=ixS (tab e) x i:=rfl
theorem Tn (kd:TK) (s b:Nat) (z:List PV) (q:Bool) (a k off len:Nat) (i:Int):ixS (some ⟨kd,s,b,z,q⟩) (.own a k off len) i=if (k == s&&decide (0≤i)&&decide (i<len))=true then some ⟨.dL a (off+i.toNat) 0,[],[]⟩ else none:=rfl
def ixA (n:Nat) (t:Option TI) (x:PV) (i:Int):Option Eff:=match t with
 | some ti=>if decide (0≤i)&&decide (i<n) then
   match x with
   | .ptr a o=>ok (.ptr a (o+i.toNat*ti.size))
   | .dL a j o=>ok (.dL a j (o+i.toNat*ti.size))
   | .bL xs j o=>ok (.bL xs j (o+i.toNat*ti.size))
   | _=>none
  else none
 | none=>none
theorem alU (tab:Nat→Option TI) (n e s b:Nat) (z:List PV) (q:Bool) (x:PV) (k:IntKind) (i:Int):ixK tab (some ⟨.array n e,s,b,z,q⟩) (some x) (some (.int k i))=ixA n (tab e) x i:=rfl
theorem Tq (n:Nat) (kd:TK) (s b:Nat) (z:List PV) (q:Bool) (a o:Nat) (i:Int):ixA n (some ⟨kd,s,b,z,q⟩) (.ptr a o) i=if (decide (0≤i)&&decide (i<n))=true then some ⟨.ptr a (o+i.toNat*s),[],[]⟩ else none:=rfl
theorem Oz (n:Nat) (kd:TK) (s b:Nat) (z:List PV) (q:Bool) (xs:List (List PV)) (j o:Nat) (i:Int):ixA n (some ⟨kd,s,b,z,q⟩) (.bL xs j o) i=if (decide (0≤i)&&decide (i<n))=true then some ⟨.bL xs j (o+i.toNat*s),[],[]⟩ else none:=rfl
def ea (s:ByteArray) (i:Int):Option Int:=if 0≤i then (s[i.toNat]?).map fun b=>(b.toNat:Int) else none
def inK (tab:Nat→Option TI) (t:Nat) (x i:Option PV):Option Eff:=match x,i with
 | some x,some i=>indexAt tab t x i
 | _,_=>none
theorem Qc (t:Nat) (x i:Operand):dK E C rd nid tm ⟨d,.index t x i,ty,ps,af,g⟩=inK E.tab t (cj tm x) (cj tm i):=rfl
def inJ (tab:Nat→Option TI) (t:Option TI) (x:PV) (i:Int):Option Eff:=match t,x with
 | some {kind:=.str,..},.str s=>(ea s i).bind fun b=>some ⟨.int .u8 b,[],[]⟩
 | some {kind:=.array n e,..},.agg cs=>
  match tab e with
  | some ti=>if decide (0≤i)&&decide (i<n) then ldC ti (fx cs (i.toNat*ti.size) ti.size) [] else none
  | none=>none
 | _,_=>none
theorem am3 (tab:Nat→Option TI) (t:Nat) (x:PV) (k:IntKind) (i:Int):inK tab t (some x) (some (.int k i))=inJ tab (tab t) x i:=by
 simp only [inK,indexAt,intOf,inJ]
 cases tab t with
 | none=>rfl
 | some ti=>
  obtain ⟨kd,s,b,z,q⟩:=ti
  cases kd with
  | str=>
   cases x <;> try rfl
   simp only [ea]
   split
   ·rename_i s _
    cases s[i.toNat]? <;> rfl
   ·rfl
  | array n e=>
   cases x <;> try rfl
  | _=>cases x <;> rfl
theorem TF (tab:Nat→Option TI) (s b:Nat) (z:List PV) (q:Bool) (x:ByteArray) (i:Int):inJ tab (some ⟨.str,s,b,z,q⟩) (.str x) i=(ea x i).bind fun b=>some ⟨.int .u8 b,[],[]⟩:=rfl
theorem TG (tab:Nat→Option TI) (n e s b:Nat) (z:List PV) (q:Bool) (cs:List PV) (i:Int):inJ tab (some ⟨.array n e,s,b,z,q⟩) (.agg cs) i=match tab e with
  | some ti=>if decide (0≤i)&&decide (i<n) then ldC ti (fx cs (i.toNat*ti.size) ti.size) [] else none
  | none=>none:=rfl
def exK (x:Option PV) (i:Nat):Option Eff:=match x with
 | some (.tup vs)=>match vs[i]? with
  | some v=>ok v
  | none=>none
 | _=>none
theorem Fy (x:Operand) (i:Nat):dK E C rd nid tm ⟨d,.extract x i,ty,ps,af,g⟩=exK (cj tm x) i:=by
 simp only [dK,bM,exK]
 cases cj tm x with
 | none=>rfl
 | some p=>cases p <;> rfl
theorem U2 (v:PV) (r:List PV):exK (some (.tup (v::r))) 0=some ⟨v,[],[]⟩:=rfl
theorem U1 (v w:PV) (r:List PV):exK (some (.tup (v::w::r))) 1=some ⟨w,[],[]⟩:=rfl
theorem U0 (v w x:PV) (r:List PV):exK (some (.tup (v::w::x::r))) 2=some ⟨x,[],[]⟩:=rfl
theorem UZ (v w x y:PV) (r:List PV):exK (some (.tup (v::w::x::y::r))) 3=some ⟨y,[],[]⟩:=rfl
def biK (tab:Nat→Option TI) (rd:Rd) (nid:Nat) (b:Builtin) (ts:List Nat) (vs:Option (List PV)):Option Eff:=match vs with
 | some vs=>de tab rd nid b ts vs
 | none=>none
theorem Fz (b:Builtin) (args:Array Operand) (ts:Array Nat):dK E C rd nid tm ⟨d,.call ⟨.builtin b,args,ts⟩,ty,ps,af,g⟩=biK E.tab rd nid b ts.toList (gB tm args.toList):=by
 simp only [dK,bM,biK]
 cases gB tm args.toList <;> rfl
def Dw (t:Option TI) (v:PV):Option Eff:=match t,v with
 | some {kind:=.slice _,..},v=>match v with
  | .str _=>none
  | v=>(eR v).map fun (n:Nat)=>⟨.int .i64 (n:Int),[],[]⟩
 | some {kind:=.str,..},.str s=>ok (.int .i64 s.size)
 | some {kind:=.array n _,..},_=>ok (.int .i64 n)
 | _,_=>none
theorem afs (tab:Nat→Option TI) (t:Nat) (ts:List Nat) (v:PV):biK tab rd nid .len (t::ts) (some [v])=Dw (tab t) v:=by
 simp only [biK,de,Dw]
 cases tab t with
 | none=>rfl
 | some ti=>obtain ⟨kd,s,b,z,q⟩:=ti;cases kd <;> cases v <;> rfl
theorem Tb (e s b:Nat) (z:List PV) (q:Bool) (xs:List (List PV)) (fl:Fl):Dw (some ⟨.slice e,s,b,z,q⟩) (.lit xs fl)=some ⟨.int .i64 (xs.length:Int),[],[]⟩:=rfl
theorem Ta (e s b:Nat) (z:List PV) (q:Bool) (a k o n:Nat):Dw (some ⟨.slice e,s,b,z,q⟩) (.own a k o n)=some ⟨.int .i64 (n:Int),[],[]⟩:=rfl
theorem N6 (e s b:Nat) (z:List PV) (q:Bool):Dw (some ⟨.slice e,s,b,z,q⟩) .bp=some ⟨.int .i64 0,[],[]⟩:=rfl
theorem S9 (s b:Nat) (z:List PV) (q:Bool) (x:ByteArray):Dw (some ⟨.str,s,b,z,q⟩) (.str x)=some ⟨.int .i64 (x.size:Int),[],[]⟩:=rfl
theorem Tc (n e s b:Nat) (z:List PV) (q:Bool) (x:PV):Dw (some ⟨.array n e,s,b,z,q⟩) x=some ⟨.int .i64 (n:Int),[],[]⟩:=by cases x <;> rfl
theorem VS (tab:Nat→Option TI) (ts:List Nat) (k k':IntKind) (a b:Int):biK tab rd nid .min ts (some [.int k a,.int k' b])=some ⟨.int k (if decide (b<a)=true then b else a),[],[]⟩:=by
 simp only [biK,de,oJ,Option.map_some,decide_eq_true_eq]
theorem VT (tab:Nat→Option TI) (ts:List Nat) (k k':IntKind) (a b:Int):biK tab rd nid .max ts (some [.int k a,.int k' b])=some ⟨.int k (if decide (a<b)=true then b else a),[],[]⟩:=by
 simp only [biK,de,oK,Option.map_some,decide_eq_true_eq]
def apK (tab:Nat→Option TI) (rd:Rd) (nid:Nat) (t t':Option TI) (s x:PV):Option Eff:=match t,t' with
 | some {kind:=.slice e,..},some {kind:=.slice _,..}=>match tab e with
  | none=>none
  | some ti=>match gS rd ti.size x with
   | none=>none
   | some (new,nf,foot)=>
   if ti.bytes≤4096 then
    match s with
    | .bp=>match new with
     | []=>some ⟨.own nid ti.size 0 0,[(nid,some (.arr ti.size [] nf false))],foot⟩
     | _::_=>if new.length≤bound then some ⟨.own nid ti.size 0 new.length,[(nid,some (.arr ti.size new nf false))],foot⟩ else none
    | .own a k off len=>match rd a with
     | some (.arr k' xs flat false)=>
      if k == ti.size&&k' == k&&decide (off+len≤xs.length)&&decide (len+new.length≤bound)&&!has foot a then
       some ⟨.own nid k 0 (len+new.length),[(a,none),(nid,some (.arr k ((xs.drop off).take len ++ new) (flat&&nf) false))],a::foot⟩
      else none
     | _=>none
    | _=>none
   else none
 | _,_=>none
theorem Ly (tab:Nat→Option TI) (t t':Nat) (s x:PV):biK tab rd nid .append [t,t'] (some [s,x])=apK tab rd nid (tab t) (tab t') s x:=by
 simp only [biK,de,jS,apK]
 cases tab t' with
 | none=>cases tab t with
  | none=>rfl
  | some ti=>obtain ⟨kd,s,b,z,q⟩:=ti;cases kd <;> rfl
 | some ti'=>
  obtain ⟨kd',s',b',z',q'⟩:=ti'
  cases tab t with
  | none=>cases kd' <;> rfl
  | some ti=>
   obtain ⟨kd,s,b,z,q⟩:=ti
   cases kd <;> cases kd' <;> rfl
def apJ (rd:Rd) (nid:Nat) (sz by':Nat) (s:PV) (src:Option (List (List PV) × Bool × List Nat)):Option Eff:=match src with
 | none=>none
 | some (new,nf,foot)=>
  if by'≤4096 then
   match s with
   | .bp=>match new with
    | []=>some ⟨.own nid sz 0 0,[(nid,some (.arr sz [] nf false))],foot⟩
    | _::_=>if new.length≤bound then some ⟨.own nid sz 0 new.length,[(nid,some (.arr sz new nf false))],foot⟩ else none
   | .own a k off len=>match rd a with
    | some (.arr k' xs flat false)=>
     if k == sz&&k' == k&&decide (off+len≤xs.length)&&decide (len+new.length≤bound)&&!has foot a then
      some ⟨.own nid k 0 (len+new.length),[(a,none),(nid,some (.arr k ((xs.drop off).take len ++ new) (flat&&nf) false))],a::foot⟩
     else none
    | _=>none
   | _=>none
  else none
def apI (rd:Rd) (nid:Nat) (t:Option TI) (s x:PV):Option Eff:=match t with
 | none=>none
 | some ti=>apJ rd nid ti.size ti.bytes s (gS rd ti.size x)
theorem asT (tab:Nat→Option TI) (e s b:Nat) (z:List PV) (q:Bool) (e' s' b':Nat) (z':List PV) (q':Bool) (u x:PV) :
  apK tab rd nid (some ⟨.slice e,s,b,z,q⟩) (some ⟨.slice e',s',b',z',q'⟩) u x=apI rd nid (tab e) u x:=by
 simp only [apK,apI,apJ]
theorem asU (kd:TK) (s b:Nat) (z:List PV) (q:Bool) (u x:PV):apI rd nid (some ⟨kd,s,b,z,q⟩) u x=apJ rd nid s b u (gS rd s x):=rfl
def apO (nid sz a k off len:Nat) (new:List (List PV)) (nf:Bool) (foot:List Nat) (o:Option bq):Option Eff:=match o with
 | some (.arr k' xs flat false)=>
  if k == sz&&k' == k&&decide (off+len≤xs.length)&&decide (len+new.length≤bound)&&!has foot a then
   some ⟨.own nid k 0 (len+new.length),[(a,none),(nid,some (.arr k ((xs.drop off).take len ++ new) (flat&&nf) false))],a::foot⟩
  else none
 | _=>none
theorem VY (sz by' a k off len:Nat) (new:List (List PV)) (nf:Bool) (foot:List Nat) :
  apJ rd nid sz by' (.own a k off len) (some (new,nf,foot))=if by'≤4096 then apO nid sz a k off len new nf foot (rd a) else none:=by
 simp only [apJ,apO]
theorem VX (sz a k k' len:Nat) (xs new:List (List PV)) (nf flat:Bool) (foot:List Nat) (hl:len=xs.length) :
  apO nid sz a k 0 len new nf foot (some (.arr k' xs flat false)) =
   if (k == sz&&k' == k&&!has foot a)=true then
    if decide ((xs ++ new).length≤bound)=true then some ⟨.own nid k 0 (xs ++ new).length,[(a,none),(nid,some (.arr k (xs ++ new) (flat&&nf) false))],a::foot⟩ else none
   else none:=by
 subst hl
 simp only [apO,Nat.zero_add,Nat.le_refl,decide_true,Bool.and_true,List.drop_zero,List.take_length,List.length_append]
 by_cases h1:(k == sz&&k' == k)=true
 ·by_cases h2:xs.length+new.length≤bound
  ·simp [h1,h2]
  ·simp [h1,h2]
 ·simp [h1]
theorem Q4 (sz by':Nat) (new:List (List PV)) (nf:Bool) (foot:List Nat) :
  apJ rd nid sz by' .bp (some (new,nf,foot))=if by'≤4096 then (if decide (new.length≤bound)=true then some ⟨.own nid sz 0 new.length,[(nid,some (.arr sz new nf false))],foot⟩ else none) else none:=by
 cases new with
 | nil=>simp [apJ]
 | cons x r=>simp only [apJ,decide_eq_true_eq]
theorem LS (sz:Nat):gS rd sz .bp=some ([],true,[]):=rfl
def LU (sz:Nat) (xs:List (List PV)) (fl:Bool):Option (List (List PV) × Bool × List Nat):=if xs.all (fun x=>x.length == sz)=true then some (xs,fl,[]) else none
theorem RG (sz:Nat) (xs:List (List PV)) (fl:Fl):gS rd sz (.lit xs fl)=LU sz xs fl.flat:=rfl
def RH (sz a k off len:Nat) (o:Option bq):Option (List (List PV) × Bool × List Nat):=match o with
 | some (.arr k' xs flat _)=>if k == sz&&k' == k&&decide (off+len≤xs.length) then some ((xs.drop off).take len,flat,[a]) else none
 | _=>none
theorem RF (sz a k off len:Nat):gS rd sz (.own a k off len)=RH sz a k off len (rd a):=by
 simp only [gS,RH]
 cases rd a with
 | none=>rfl
 | some p=>cases p <;> rfl
theorem I8 (sz a k k' len:Nat) (xs:List (List PV)) (fl fz:Bool) (hl:len=xs.length):RH sz a k 0 len (some (.arr k' xs fl fz))=if (k == sz&&k' == k)=true then some (xs,fl,[a]) else none:=by
 subst hl;simp [RH]
def crO (tz:Nat) (z:List PV) (a k off len:Nat) (o:Option bq):Option Eff:=match o with
 | some (.arr k' xs flat false)=>
  if (k == tz&&k' == k&&decide (off+len≤xs.length))=true then
   some ⟨.void,[(a,some (.arr k (xs.take off ++ List.replicate len z ++ xs.drop (off+len)) (flat&&cJ z) false))],[a]⟩
  else none
 | _=>none
def crI (rd:Rd) (t:Option TI) (d:PV):Option Eff:=match t with
 | some ti=>match d with
  | .bp=>ok .void
  | .own a k off len=>crO ti.size ti.zero a k off len (rd a)
  | _=>none
 | none=>none
def crK (tab:Nat→Option TI) (rd:Rd) (t:Option TI) (d:PV):Option Eff:=match t with
 | some {kind:=.slice e,..}=>crI rd (tab e) d
 | _=>none
theorem QZ (tab:Nat→Option TI) (t:Nat) (ts:List Nat) (d:PV):biK tab rd nid .clear (t::ts) (some [d])=crK tab rd (tab t) d:=by
 simp only [biK,de,mM,crK,crI,crO]
 cases tab t with
 | none=>rfl
 | some ti=>
  obtain ⟨kd,a,b,z,q⟩:=ti
  cases kd <;> try rfl
theorem aqX (tab:Nat→Option TI) (e a b:Nat) (z:List PV) (q:Bool) (d:PV):crK tab rd (some ⟨.slice e,a,b,z,q⟩) d=crI rd (tab e) d:=rfl
theorem aqY (kd:TK) (sz b:Nat) (z:List PV) (q:Bool) (a k off len:Nat):crI rd (some ⟨kd,sz,b,z,q⟩) (.own a k off len)=crO sz z a k off len (rd a):=rfl
theorem aqW (tz:Nat) (z:List PV) (a k off len k':Nat) (xs:List (List PV)) (flat:Bool):crO tz z a k off len (some (.arr k' xs flat false)) =
  if (k == tz&&k' == k&&decide (off+len≤xs.length))=true then some ⟨.void,[(a,some (.arr k (xs.take off ++ List.replicate len z ++ xs.drop (off+len)) (flat&&cJ z) false))],[a]⟩ else none:=rfl
def clK (E:Env) (C:Callee) (rd:Rd) (nid:Nat) (f:Option PV) (vs:Option (List PV)):Option Eff:=match f,vs with
 | some (.fn g iF),some vs=>eO E C rd nid g (vs ++ iF)
 | _,_=>none
theorem U7 (fo:Operand) (args:Array Operand) (ts:Array Nat):dK E C rd nid tm ⟨d,.call ⟨.value fo,args,ts⟩,ty,ps,af,g⟩=clK E C rd nid (cj tm fo) (gB tm args.toList):=rfl
theorem Vq (f:Nat) (iF vs:List PV):clK E C rd nid (some (.fn f iF)) (some vs)=eO E C rd nid f (vs ++ iF):=rfl
def imK (rd:Rd) (foot:List Nat) (x:Option (PV × Upd × Bool × Nat)):Option Eff:=match x with
 | some (v,u,sh,j)=>if decide (j≤64)&&(!sh||foot.all (pd rd)) then some ⟨v,(if sh then freezes rd (dedup foot []) else []) ++ u,foot⟩ else none
 | none=>none
def prK (rk:List (Option Nat)) (rd:Rd) (nid:Nat) (foot:List Nat) (x:Option PV):Option Eff:=match x with
 | some r=>imK rd foot (dk nid r rk)
 | none=>none
def puK (C:Callee) (f:Nat) (rk:List (Option Nat)) (rd:Rd) (nid:Nat) (x:Option (List PV × List Nat)):Option Eff:=match x with
 | some (a5,foot)=>prK rk rd nid foot (C.pureC f a5)
 | none=>none
theorem Lv (f:Nat) (args:List PV) (h:E.isRef f=false):eO E C rd nid f args=puK C f (E.resK f) rd nid (dV rd (E.keepNil f) jk args):=by
 simp only [eO,h,puK,prK,imK]
 cases dV rd (E.keepNil f) jk args with
 | none=>rfl
 | some p=>
  obtain ⟨a5,foot⟩:=p
  simp only [Bool.false_eq_true,↓reduceIte]
  cases C.pureC f a5 with
  | none=>rfl
  | some r=>simp only;cases dk nid r (E.resK f) <;> rfl
theorem SB (f:Nat) (rk:List (Option Nat)) (a5:List PV) (foot:List Nat):puK C f rk rd nid (some (a5,foot))=prK rk rd nid foot (C.pureC f a5):=rfl
theorem SG (rk:List (Option Nat)) (foot:List Nat) (r:PV):prK rk rd nid foot (some r)=imK rd foot (dk nid r rk):=rfl
theorem abX {α:Type} (rk:List (Option Nat)) (foot:List Nat) (o:Option α) (enc:α→PV):prK rk rd nid foot (o.map enc)=o.bind fun a=>imK rd foot (dk nid (enc a) rk):=by cases o <;> rfl
theorem TH (foot:List Nat) (v:PV) (u:Upd) (j:Nat):imK rd foot (some (v,u,false,j))=if decide (j≤64)=true then some ⟨v,u,foot⟩ else none:=by
 simp only [imK,Bool.not_false,Bool.true_or,Bool.and_true];rfl
theorem adq (v:PV) (u:Upd) (sh:Bool) (j:Nat):imK rd [] (some (v,u,sh,j))=if decide (j≤64)=true then some ⟨v,u,[]⟩ else none:=by
 cases sh <;> simp [imK,dedup,freezes]
theorem am4 (foot:List Nat) (v:PV) (u:Upd) (j:Nat):imK rd foot (some (v,u,true,j))=if (decide (j≤64)&&foot.all (pd rd))=true then some ⟨v,freezes rd (dedup foot []) ++ u,foot⟩ else none:=by
 simp only [imK,Bool.not_true,Bool.false_or];rfl
end
end Go.Pm
end
section
set_option linter.unusedVariables false
set_option linter.unusedSimpArgs false
namespace Go.Pm
open Go
class Enc (α:Type) where
 cells:α→List PV
 size:Nat
 len:∀ a,(cells a).length=size
def rows {α:Type} [Enc α] (l:List α):List (List PV):=l.map Enc.cells
abbrev fl0:Fl:=⟨false,false⟩
abbrev lst {α:Type} [Enc α] (l:List α):PV:=.lit (rows l) fl0
class Plain (α:Type) [Enc α]:Prop where
 plain:∀ a:α,cJ (Enc.cells a)=true
structure U8 where
 v:Int
instance:Enc Int:=⟨fun n=>[.int .i64 n],1,fun _=>rfl⟩
instance:Enc Bool:=⟨fun n=>[.bool n],1,fun _=>rfl⟩
instance:Enc ByteArray:=⟨fun n=>[.str n],1,fun _=>rfl⟩
instance:Enc U8:=⟨fun n=>[.int .u8 n.v],1,fun _=>rfl⟩
instance {α:Type} [Enc α]:Enc (List α):=⟨fun l=>[lst l],1,fun _=>rfl⟩
instance:Plain Int:=⟨fun _=>rfl⟩
instance:Plain Bool:=⟨fun _=>rfl⟩
instance:Plain ByteArray:=⟨fun _=>rfl⟩
instance:Plain U8:=⟨fun _=>rfl⟩
theorem cc (n:Int):Enc.cells n=[.int .i64 n]:=rfl
theorem bV (n:Bool):Enc.cells n=[.bool n]:=rfl
theorem cg (n:ByteArray):Enc.cells n=[.str n]:=rfl
theorem Ct (n:U8):Enc.cells n=[.int .u8 n.v]:=rfl
theorem bU {α:Type} [Enc α] (l:List α):Enc.cells l=[lst l]:=rfl
theorem L1:Enc.size Int=1:=rfl
theorem Jp:Enc.size Bool=1:=rfl
theorem LZ:Enc.size ByteArray=1:=rfl
theorem RP:Enc.size U8=1:=rfl
theorem Jo {α:Type} [Enc α]:Enc.size (List α)=1:=rfl
def at? {α:Type} (l:List α) (i:Int):Option α:=if 0≤i then l[i.toNat]? else none
section
variable {α:Type} [Enc α]
theorem cA:rows ([]:List α)=[]:=rfl
theorem cf (a:α) (l:List α):rows (a::l)=Enc.cells a::rows l:=rfl
theorem df (l:List α):(rows l).length=l.length:=by simp [rows]
theorem uI (l:List α) (i:Nat):(rows l)[i]?=(l[i]?).map Enc.cells:=by simp [rows]
theorem bR (l m:List α):rows l ++ rows m=rows (l ++ m):=by simp [rows]
theorem jb (l:List α) (i:Nat):(rows l).take i=rows (l.take i):=by simp [rows]
theorem oB (l:List α) (i:Nat):(rows l).drop i=rows (l.drop i):=by simp [rows]
theorem AU (l:List α) (n:Nat) (h:n=Enc.size α):(rows l).all (fun x=>x.length == n)=true:=by
 subst h;simp [rows,Enc.len]
theorem C4 [Plain α] (l:List α):(rows l).all cJ=true:=by simp [rows,Plain.plain]
theorem nu (n:Nat) (a:α):List.replicate n (Enc.cells a)=rows (List.replicate n a):=by simp [rows]
theorem cG (l:List α) (i:Nat) (a:α):cC (rows l) i (Enc.cells a)=rows (l.set i a):=by
 induction l generalizing i with
 | nil=>rfl
 | cons x l ih=>cases i with
  | zero=>rfl
  | succ i=>simp [cf,cC,ih]
end
theorem LW (l:List Int) (a:Int):rows l ++ [[.int .i64 a]]=rows (l ++ [a]):=bR l [a]
theorem Jf (l:List Bool) (a:Bool):rows l ++ [[.bool a]]=rows (l ++ [a]):=bR l [a]
theorem LV (l:List ByteArray) (a:ByteArray):rows l ++ [[.str a]]=rows (l ++ [a]):=bR l [a]
theorem Je {α:Type} [Enc α] (l:List (List α)) (a:List α):rows l ++ [[.lit (rows a) ⟨false,false⟩]]=rows (l ++ [a]):=bR l [a]
theorem Sv (n:Nat) (a:Int):List.replicate n [PV.int .i64 a]=rows (List.replicate n a):=nu n a
theorem M4 (n:Nat) (a:Bool):List.replicate n [PV.bool a]=rows (List.replicate n a):=nu n a
theorem R2 (l:List Int) (i:Nat) (a:Int):cC (rows l) i [.int .i64 a]=rows (l.set i a):=cG l i a
theorem L5 (l:List Bool) (i:Nat) (a:Bool):cC (rows l) i [.bool a]=rows (l.set i a):=cG l i a
theorem R0 (l:List ByteArray) (i:Nat) (a:ByteArray):cC (rows l) i [.str a]=rows (l.set i a):=cG l i a
theorem L4 {α:Type} [Enc α] (l:List (List α)) (i:Nat) (a:List α):cC (rows l) i [.lit (rows a) ⟨false,false⟩]=rows (l.set i a):=cG l i a
theorem CK {α:Type} [Enc α] (l:List α):(rows l).take l.length=rows l:=by rw [← df];exact List.take_length
section
variable {α:Type} [Enc α]
theorem Tp (kd:TK) (s b:Nat) (z:List PV) (q:Bool) (l:List α) (fl:Fl) (i:Int) (hs:s=Enc.size α) :
  ixS (some ⟨kd,s,b,z,q⟩) (.lit (rows l) fl) i=(at? l i).bind fun x=>some ⟨.bL [Enc.cells x] 0 0,[],[]⟩:=by
 subst hs
 simp only [ixS,at?,uI]
 by_cases h:0≤i
 ·simp only [h,↓reduceIte]
  cases l[i.toNat]? with
  | none=>rfl
  | some x=>simp [Enc.len,ok]
 ·simp [h]
theorem I9 (sz:Nat) (l:List α) (fl:Bool) (h:sz=Enc.size α):LU sz (rows l) fl=some (rows l,fl,[]):=by
 simp only [LU,AU l sz h,↓reduceIte]
theorem I6 {β:Type} (l:List β) (n:Nat) (h:n=l.length):(l.drop 0).take n=l:=by subst h;simp
theorem take_len {β:Type} (l:List β) (n:Nat) (h:n=l.length):l.take n=l:=by subst h;simp
def cutK (tab:Nat→Option TI) (ti:Option TI) (x:PV) (lo hi:Option PV):Option Eff:=match ti with
 | some {kind:=.slice e,..}=>match eR x with
  | some n=>match (match lo with | none=>some 0 | some v=>gl v),(match hi with | none=>some n | some v=>gl v) with
   | some l,some h=>if l≤h&&h≤n then
     match x with
     | .own a k off _=>match e8 tab e with
      | some sz=>if k == sz then ok (.own a k (off+l) (h - l)) else none
      | none=>none
     | .lit xs fl=>match e8 tab e with
      | some sz=>if l == 0||kF sz xs then ok (.lit ((xs.drop l).take (h - l)) ⟨false,fl.flat⟩) else none
      | none=>none
     | .bp=>match e8 tab e with
      | some _=>ok .bp
      | none=>none
     | _=>none
    else none
   | _,_=>none
  | none=>none
 | some {kind:=.str,..}=>match x with
  | .str s=>match (match lo with | none=>some 0 | some v=>gl v),(match hi with | none=>some s.size | some v=>gl v) with
   | some l,some h=>if l≤h&&h≤s.size then ok (.str (s.extract l h)) else none
   | _,_=>none
  | _=>none
 | _=>none
theorem aqV (tab:Nat→Option TI) (t:Nat) (x:PV) (lo hi:Option PV):cutAt tab t x lo hi=cutK tab (tab t) x lo hi:=by
 have gen:∀ (A B:Option Nat) (c:Nat→Nat→Bool) (f g:Nat→Nat→Option Eff),(∀ l h,f l h=g l h)→
   (match A,B with | some l,some h=>if c l h=true then f l h else none | _,_=>none)=(match A,B with | some l,some h=>if c l h=true then g l h else none | _,_=>none):=by
  intro A B c f g hfg
  have:f=g:=by funext l h;exact hfg l h
  rw [this]
 cases ht:tab t with
 | none=>simp only [cutAt,cutK,ht]
 | some ti=>
  obtain ⟨kd,s,b,z,q⟩:=ti
  cases kd with
  | slice e=>
   cases hl:eR x with
   | none=>simp only [cutAt,cutK,ht,hl]
   | some n=>
    simp only [cutAt,cutK,ht,hl]
    refine gen _ _ (fun l h=>decide (l≤h)&&decide (h≤n)) _ _ fun l h=>?_
    cases x <;> rfl
  | str=>
   cases hl:eR x with
   | none=>cases x <;> simp only [cutAt,cutK,ht,hl] <;> simp [eR] at hl
   | some n=>
    cases x with
    | str s=>
     simp [eR] at hl;subst hl
     simp only [cutAt,cutK,ht,eR]
     exact gen _ _ (fun l h=>decide (l≤h)&&decide (h≤s.size)) _ _ fun l h=>rfl
    | bp=>
     simp only [cutAt,cutK,ht,hl]
     exact (gen _ _ (fun l h=>decide (l≤h)&&decide (h≤n)) _ (fun _ _=>none) fun l h=>rfl).trans (by split <;> simp)
    | own a k off m=>
     simp only [cutAt,cutK,ht,hl]
     exact (gen _ _ (fun l h=>decide (l≤h)&&decide (h≤n)) _ (fun _ _=>none) fun l h=>rfl).trans (by split <;> simp)
    | lit xs fl=>
     simp only [cutAt,cutK,ht,hl]
     exact (gen _ _ (fun l h=>decide (l≤h)&&decide (h≤n)) _ (fun _ _=>none) fun l h=>rfl).trans (by split <;> simp)
    | _=>simp [eR] at hl
  | _=>
   cases hl:eR x with
   | none=>simp only [cutAt,cutK,ht,hl]
   | some n=>
    simp only [cutAt,cutK,ht,hl]
    exact (gen _ _ (fun l h=>decide (l≤h)&&decide (h≤n)) _ (fun _ _=>none) fun l h=>by cases x <;> rfl).trans (by split <;> simp)
theorem Lo (tab:Nat→Option TI) (s b:Nat) (z:List PV) (q:Bool) (x:ByteArray) (k:IntKind) (lo:Int) :
  cutK tab (some ⟨.str,s,b,z,q⟩) (.str x) (some (.int k lo)) none=if decide (0≤lo∧lo≤x.size)=true then some ⟨.str (x.extract lo.toNat x.size),[],[]⟩ else none:=by
 simp only [cutK,gl]
 by_cases h:0≤lo <;> by_cases h2:lo≤x.size
 ·simp [h,h2,show lo.toNat≤x.size by omega,ok]
 ·simp [h,h2,show ¬ lo.toNat≤x.size by omega]
 ·simp [h]
 ·simp [h]
theorem Lp (tab:Nat→Option TI) (s b:Nat) (z:List PV) (q:Bool) (x:ByteArray) (k:IntKind) (hi:Int) :
  cutK tab (some ⟨.str,s,b,z,q⟩) (.str x) none (some (.int k hi))=if decide (0≤hi∧hi≤x.size)=true then some ⟨.str (x.extract 0 hi.toNat),[],[]⟩ else none:=by
 simp only [cutK,gl]
 by_cases h:0≤hi <;> by_cases h2:hi≤x.size
 ·simp [h,h2,show hi.toNat≤x.size by omega,ok]
 ·simp [h,h2,show ¬ hi.toNat≤x.size by omega]
 ·simp [h]
 ·simp [h]
theorem FG (tab:Nat→Option TI) (s b:Nat) (z:List PV) (q:Bool) (x:ByteArray) (k k':IntKind) (lo hi:Int) :
  cutK tab (some ⟨.str,s,b,z,q⟩) (.str x) (some (.int k lo)) (some (.int k' hi))=if decide (0≤lo∧lo≤hi∧hi≤x.size)=true then some ⟨.str (x.extract lo.toNat hi.toNat),[],[]⟩ else none:=by
 simp only [cutK,gl]
 by_cases h:0≤lo
 ·by_cases h1:0≤hi
  ·by_cases h2:lo≤hi <;> by_cases h3:hi≤x.size
   ·simp [h,h1,h2,h3,show lo.toNat≤hi.toNat by omega,show hi.toNat≤x.size by omega,ok]
   ·simp [h,h1,h2,h3,show ¬ hi.toNat≤x.size by omega]
   ·simp [h,h1,h2,show ¬ lo.toNat≤hi.toNat by omega]
   ·simp [h,h1,h2,show ¬ lo.toNat≤hi.toNat by omega]
  ·simp [h,h1,show ¬ lo≤hi by omega]
 ·simp [h]
def cutS (ti:Option TI) (x:PV) (lo hi:Option PV):Option Eff:=match ti with
 | some ti=>match eR x with
  | some n=>match (match lo with | none=>some 0 | some v=>gl v),(match hi with | none=>some n | some v=>gl v) with
   | some l,some h=>if l≤h&&h≤n then
     match x with
     | .own a k off _=>if k == ti.size then ok (.own a k (off+l) (h - l)) else none
     | .lit xs fl=>if l == 0||kF ti.size xs then ok (.lit ((xs.drop l).take (h - l)) ⟨false,fl.flat⟩) else none
     | .bp=>ok .bp
     | _=>none
    else none
   | _,_=>none
  | none=>none
 | none=>none
theorem Lq (tab:Nat→Option TI) (e s b:Nat) (z:List PV) (q:Bool) (x:PV) (lo hi:Option PV):cutK tab (some ⟨.slice e,s,b,z,q⟩) x lo hi=cutS (tab e) x lo hi:=by
 have gen:∀ (A B:Option Nat) (c:Nat→Nat→Bool) (f g:Nat→Nat→Option Eff),(∀ l h,f l h=g l h)→
   (match A,B with | some l,some h=>if c l h=true then f l h else none | _,_=>none)=(match A,B with | some l,some h=>if c l h=true then g l h else none | _,_=>none):=by
  intro A B c f g hfg
  have:f=g:=by funext l h;exact hfg l h
  rw [this]
 cases hl:eR x with
 | none=>cases he:tab e <;> simp only [cutK,cutS,hl,he]
 | some n=>
  cases he:tab e with
  | none=>
   simp only [cutK,cutS,e8,hl,he,Option.map_none]
   exact (gen _ _ (fun l h=>decide (l≤h)&&decide (h≤n)) _ (fun _ _=>none) fun l h=>by cases x <;> rfl).trans (by split <;> simp)
  | some ti=>
   simp only [cutK,cutS,e8,hl,he,Option.map_some]
theorem Vh (kd:TK) (s b:Nat) (z:List PV) (q:Bool) (l:List α) (fl:Fl) (k k':IntKind) (lo hi:Int) (hs:s=Enc.size α) :
  cutS (some ⟨kd,s,b,z,q⟩) (.lit (rows l) fl) (some (.int k lo)) (some (.int k' hi))=if decide (0≤lo∧lo≤hi∧hi≤l.length)=true then some ⟨.lit (rows ((l.drop lo.toNat).take (hi.toNat - lo.toNat))) ⟨false,fl.flat⟩,[],[]⟩ else none:=by
 subst hs
 have hh:kF (Enc.size α) (rows l)=true:=by cases l <;> simp [rows,kF,Enc.len]
 simp only [cutS,eR,gl,df,hh,Bool.or_true,↓reduceIte,jb,oB,ok]
 by_cases h1:0≤lo
 ·by_cases h2:0≤hi
  ·simp only [h1,h2,↓reduceIte,true_and,decide_eq_true_eq]
   by_cases h3:lo≤hi <;> by_cases h4:hi≤l.length
   ·simp [h3,h4,show lo.toNat≤hi.toNat by omega,show hi.toNat≤l.length by omega]
   ·simp [h3,h4,show ¬ hi.toNat≤l.length by omega]
   ·simp [h3,show ¬ lo.toNat≤hi.toNat by omega]
   ·simp [h3,show ¬ lo.toNat≤hi.toNat by omega]
  ·have:¬ (lo≤hi):=by omega
   simp [h1,h2,this]
 ·simp [h1]
theorem ae3 (kd:TK) (s b:Nat) (z:List PV) (q:Bool) (l:List α) (fl:Fl) (k:IntKind) (lo:Int) (hs:s=Enc.size α) :
  cutS (some ⟨kd,s,b,z,q⟩) (.lit (rows l) fl) (some (.int k lo)) none=if decide (0≤lo∧lo≤l.length)=true then some ⟨.lit (rows (l.drop lo.toNat)) ⟨false,fl.flat⟩,[],[]⟩ else none:=by
 subst hs
 have hh:kF (Enc.size α) (rows l)=true:=by cases l <;> simp [rows,kF,Enc.len]
 simp only [cutS,eR,gl,df,hh,Bool.or_true,↓reduceIte,jb,oB,ok]
 by_cases h1:0≤lo
 ·by_cases h4:lo≤l.length
  ·have:(l.drop lo.toNat).take (l.length - lo.toNat)=l.drop lo.toNat:=List.take_of_length_le (by simp)
   simp [h1,h4,show lo.toNat≤l.length by omega,this]
  ·simp [h1,h4,show ¬ lo.toNat≤l.length by omega]
 ·simp [h1]
theorem ae4 (kd:TK) (s b:Nat) (z:List PV) (q:Bool) (l:List α) (fl:Fl) (k:IntKind) (hi:Int) (hs:s=Enc.size α) :
  cutS (some ⟨kd,s,b,z,q⟩) (.lit (rows l) fl) none (some (.int k hi))=if decide (0≤hi∧hi≤l.length)=true then some ⟨.lit (rows (l.take hi.toNat)) ⟨false,fl.flat⟩,[],[]⟩ else none:=by
 subst hs
 have hh:kF (Enc.size α) (rows l)=true:=by cases l <;> simp [rows,kF,Enc.len]
 simp only [cutS,eR,gl,df,hh,Bool.or_true,↓reduceIte,jb,oB,ok]
 by_cases h1:0≤hi
 ·by_cases h4:hi≤l.length
  ·simp [h1,h4,show hi.toNat≤l.length by omega]
  ·simp [h1,h4,show ¬ hi.toNat≤l.length by omega]
 ·simp [h1]
theorem FI (kd:TK) (s b:Nat) (z:List PV) (q:Bool) (a k n:Nat) (kk:IntKind) (hi:Int) :
  cutS (some ⟨kd,s,b,z,q⟩) (.own a k 0 n) none (some (.int kk hi))=if decide (0≤hi∧hi≤n)=true then (if (k == s)=true then some ⟨.own a k 0 hi.toNat,[],[]⟩ else none) else none:=by
 simp only [cutS,eR,gl]
 by_cases h1:0≤hi
 ·by_cases h4:hi≤n
  ·simp [h1,h4,show hi.toNat≤n by omega,ok]
  ·simp [h1,h4,show ¬ hi.toNat≤n by omega]
 ·simp [h1]
theorem FH (kd:TK) (s b:Nat) (z:List PV) (q:Bool) (a k n:Nat) (kk:IntKind) (lo:Int) :
  cutS (some ⟨kd,s,b,z,q⟩) (.own a k 0 n) (some (.int kk lo)) none=if decide (0≤lo∧lo≤n)=true then (if (k == s)=true then some ⟨.own a k lo.toNat (n - lo.toNat),[],[]⟩ else none) else none:=by
 simp only [cutS,eR,gl]
 by_cases h1:0≤lo
 ·by_cases h4:lo≤n
  ·simp [h1,h4,show lo.toNat≤n by omega,ok]
  ·simp [h1,h4,show ¬ lo.toNat≤n by omega]
 ·simp [h1]
theorem ae2 (kd:TK) (s b:Nat) (z:List PV) (q:Bool) (l:List α) (fl:Fl):cutS (some ⟨kd,s,b,z,q⟩) (.lit (rows l) fl) none none=some ⟨.lit (rows l) ⟨false,fl.flat⟩,[],[]⟩:=by
 simp [cutS,eR,ok,df,CK]
end
abbrev w64 (n:Int):Int:=IntKind.wrap .i64 n
theorem Wf (n:Int):w64 n=IntKind.wrap .i64 n:=rfl
theorem map_bind {α β γ:Type} (o:Option α) (f:α→Option β) (g:β→γ):(o.bind f).map g=o.bind fun a=>(f a).map g:=by cases o <;> rfl
theorem bind_map {α β γ:Type} (o:Option α) (f:α→β) (g:β→Option γ):(o.map f).bind g=o.bind fun a=>g (f a):=by cases o <;> rfl
theorem S5 {α β:Type} (c:Prop) [Decidable c] (a b:Option α) (g:α→β):(if c then a else b).map g=if c then a.map g else b.map g:=by split <;> rfl
theorem abf (o:Oper) (r:List Oper):nI (o::r) 0=o.dst.getD 0:=rfl
theorem abd (o:Oper) (r:List Oper) (j:Nat):nI (o::r) (j+1)=nI r j:=rfl
theorem Rv (o:Oper) (r:List Oper):lT (o::r) 0=o.dst.isSome:=rfl
theorem Ru (o:Oper) (r:List Oper) (j:Nat):lT (o::r) (j+1)=lT r j:=rfl
theorem ajJ (v:PV) (r:List PV):nth (v::r) 0=v:=rfl
theorem ajH (v:PV) (r:List PV) (n:Nat):nth (v::r) (n+1)=nth r n:=rfl
theorem ajI (a b c d e f g h:PV) (r:List PV) (n:Nat):nth (a::b::c::d::e::f::g::h::r) (n+8)=nth r n:=rfl
theorem ajq (v x:PV) (r:List PV):put (x::r) 0 v=v::r:=rfl
theorem ajp (v x:PV) (r:List PV) (n:Nat):put (x::r) (n+1) v=x::put r n v:=rfl
theorem abP (tm:List PV) (d:Nat) (v:PV):putD tm (some d) v=put tm d v:=rfl
theorem abQ (tm:List PV) (v:PV):putD tm none v=tm:=rfl
theorem afW (h:List (Nat × bq)):dH h []=h:=rfl
theorem afV (h:List (Nat × bq)) (a:Nat) (o:bq) (r:Upd):dH h ((a,some o)::r)=dH (setObj h a o) r:=rfl
theorem afX (h:List (Nat × bq)) (a:Nat) (r:Upd):dH h ((a,none)::r)=dH (jQ h a) r:=rfl
theorem acF (a:Nat):look [] a=none:=rfl
theorem acG (b:Nat) (o:bq) (r:List (Nat × bq)) (a:Nat):look ((b,o)::r) a=if (a == b)=true then some o else look r a:=rfl
theorem ahf (a:Nat) (o:bq):setObj [] a o=[(a,o)]:=rfl
theorem ahg (b:Nat) (p:bq) (r:List (Nat × bq)) (a:Nat) (o:bq):setObj ((b,p)::r) a o=if (a == b)=true then (a,o)::r else (b,p)::setObj r a o:=rfl
theorem aqQ (a:Nat):jQ [] a=[]:=rfl
theorem aqR (b:Nat) (p:bq) (r:List (Nat × bq)) (a:Nat):jQ ((b,p)::r) a=if (a == b)=true then jQ r a else (b,p)::jQ r a:=rfl
theorem asW (e:Eff):sm none e=none:=rfl
theorem asV (ps:List (Nat × Nat)) (l:List Eff) (e:Eff):sm (some (ps,l)) e=some (ps,l ++ [⟨.void,kL (dy e.upd),e.foot⟩]):=rfl
theorem aqP:Ax none=true:=rfl
theorem aqO (ps:List (Nat × Nat)) (l:List Eff):Ax (some (ps,l))=cO l ps:=rfl
theorem mk_f (ps:List (Nat × Nat)):vx false ps=none:=rfl
theorem mk_t:vx true []=none:=rfl
theorem mk_c (p:Nat × Nat) (r:List (Nat × Nat)):vx true (p::r)=some (p::r,[]):=rfl
theorem cl_n (n:Nat) (st:St):dx n none st=st:=rfl
theorem ajE (tm:List PV):gB tm []=some []:=rfl
def ab9 (v:Option PV) (vs:Option (List PV)):Option (List PV):=match v,vs with
 | some v,some vs=>some (v::vs)
 | _,_=>none
theorem ajF (tm:List PV) (x:Operand) (r:List Operand):gB tm (x::r)=ab9 (cj tm x) (gB tm r):=rfl
theorem ab8 (v:PV) (vs:List PV):ab9 (some v) (some vs)=some (v::vs):=rfl
theorem ajz (tm:List PV):mU tm []=some []:=rfl
theorem ajA (tm:List PV) (i:Nat) (x:Operand) (r:List (Nat × Operand)):mU tm ((i,x)::r)=ab9 (cj tm x) (mU tm r):=rfl
theorem ajB (tm:List PV):kV tm []=some []:=rfl
def ajD (i:Nat) (v:Option PV) (vs:Option (List (Nat × PV))):Option (List (Nat × PV)):=match v,vs with
 | some v,some vs=>some ((i,v)::vs)
 | _,_=>none
theorem ajC (tm:List PV) (i:Nat) (x:Operand) (r:List (Nat × Operand)):kV tm ((i,x)::r)=ajD i (cj tm x) (kV tm r):=rfl
theorem ab7 (i:Nat) (v:PV) (vs:List (Nat × PV)):ajD i (some v) (some vs)=some ((i,v)::vs):=rfl
theorem am1 (i:Nat):jW i []=true:=rfl
theorem am2 (i j:Nat) (x:Operand) (r:List (Nat × Operand)):jW i ((j,x)::r)=(i == j&&jW (i+1) r):=rfl
theorem abi (cs:List PV) (o:Nat):fx cs o 0=[]:=by simp [fx]
theorem abh (v:PV) (cs:List PV) (n:Nat):fx (v::cs) 0 (n+1)=v::fx cs 0 n:=by simp [fx]
theorem abg (v:PV) (cs:List PV) (o n:Nat):fx (v::cs) (o+1) n=fx cs o n:=by simp [fx]
theorem ag0 (cs:List PV) (o:Nat):splice cs o []=cs:=by simp [splice]
theorem ag1 (v w:PV) (cs vs:List PV):splice (v::cs) 0 (w::vs)=w::splice cs 0 vs:=by simp [splice]
theorem agZ (v w:PV) (cs vs:List PV) (o:Nat):splice (v::cs) (o+1) (w::vs)=v::splice cs o (w::vs):=by
 have:o+1+(w::vs).length=(o+(w::vs).length)+1:=by omega
 simp only [splice,this,List.take_succ_cons,List.drop_succ_cons,List.cons_append]
theorem acJ:([]:List PV).length=0:=rfl
theorem acK (v:PV) (l:List PV):(v::l).length=l.length+1:=rfl
def setK (rd:Rd) (k:Nat) (off len a:Nat) (o:Option bq) (r:Option (List PV × List Nat)):Option (List PV × List Nat):=match o,r with
 | some (.arr k' xs flat _),some (r',l)=>if (k' == k&&decide (off+len≤xs.length))=true then some (.lit ((xs.drop off).take len) ⟨false,flat⟩::r',a::l) else none
 | _,_=>none
theorem agW (rd:Rd):settle rd []=some ([],[]):=rfl
def uv (v:PV) (x:Option (List PV × List Nat)):Option (List PV × List Nat):=match x with
 | some (r,l)=>some (v::r,l)
 | none=>none
theorem aa3 (v:PV) (r:List PV) (l:List Nat):uv v (some (r,l))=some (v::r,l):=rfl
theorem RA (rd:Rd) (k:IntKind) (n:Int) (r:List PV):settle rd (.int k n::r)=uv (.int k n) (settle rd r):=by
 simp only [settle,uv];cases settle rd r with | none=>rfl | some p=>obtain ⟨a,b⟩:=p;rfl
theorem LP (rd:Rd) (b:Bool) (r:List PV):settle rd (.bool b::r)=uv (.bool b) (settle rd r):=by
 simp only [settle,uv];cases settle rd r with | none=>rfl | some p=>obtain ⟨a,b⟩:=p;rfl
theorem Rx (rd:Rd) (b:ByteArray) (r:List PV):settle rd (.str b::r)=uv (.str b) (settle rd r):=by
 simp only [settle,uv];cases settle rd r with | none=>rfl | some p=>obtain ⟨a,b⟩:=p;rfl
theorem LO (rd:Rd) (r:List PV):settle rd (.bp::r)=uv (.lit [] ⟨false,false⟩) (settle rd r):=by
 simp only [settle,uv];cases settle rd r with | none=>rfl | some p=>obtain ⟨a,b⟩:=p;rfl
theorem Rz (rd:Rd) (xs:List (List PV)) (u fl:Bool) (r:List PV):settle rd (.lit xs ⟨u,fl⟩::r)=uv (.lit xs ⟨false,fl⟩) (settle rd r):=by
 simp only [settle,uv];cases settle rd r with | none=>rfl | some p=>obtain ⟨a,b⟩:=p;rfl
theorem Ry (rd:Rd) (a k off len:Nat) (r:List PV):settle rd (.own a k off len::r)=setK rd k off len a (rd a) (settle rd r):=by
 simp only [settle,setK]
 cases rd a with
 | none=>cases settle rd r <;> rfl
 | some p=>cases p <;> cases settle rd r <;> rfl
theorem abl (rd:Rd) (k k' len a:Nat) (xs:List (List PV)) (flat fz:Bool) (r:List PV) (l:List Nat) (hl:len=xs.length) :
  setK rd k 0 len a (some (.arr k' xs flat fz)) (some (r,l))=if (k' == k)=true then some (.lit xs ⟨false,flat⟩::r,a::l) else none:=by
 subst hl;simp [setK]
theorem agX (rd:Rd) (s:Nat):cW rd s []=some ([],[],false):=rfl
def aa5 (s:Nat) (x:Option (List PV × List Nat)) (y:Option (List (List PV) × List Nat × Bool)):Option (List (List PV) × List Nat × Bool):=match x,y with
 | some (cs,l),some (r',l',_)=>if (cs.length == s)=true then some (cs::r',l ++ l',false) else none
 | _,_=>none
theorem agY (rd:Rd) (s:Nat) (v:PV) (r:List PV):cW rd s (v::r)=aa5 s ((cellsOf v).bind (settle rd)) (cW rd s r):=by
 simp only [cW,aa5]
 cases (cellsOf v).bind (settle rd) <;> cases cW rd s r <;> rfl
theorem aa4 (s:Nat) (cs:List PV) (l l':List Nat) (r:List (List PV)) (b:Bool):aa5 s (some (cs,l)) (some (r,l',b))=if (cs.length == s)=true then some (cs::r,l ++ l',false) else none:=rfl
theorem anx (rd:Rd):freezes rd []=[]:=rfl
def adX (a:Nat) (o:Option bq) (r:Upd):Upd:=match o with
 | some (.arr k xs flat _)=>(a,some (.arr k xs flat true))::r
 | _=>r
theorem anz (rd:Rd) (a:Nat) (r:List Nat):freezes rd (a::r)=adX a (rd a) (freezes rd r):=by
 simp only [freezes,adX]
 cases rd a with
 | none=>rfl
 | some p=>cases p <;> rfl
theorem adW (a k:Nat) (xs:List (List PV)) (fl fz:Bool) (r:Upd):adX a (some (.arr k xs fl fz)) r=(a,some (.arr k xs fl true))::r:=rfl
def fit {α:Type} (s r:List α):List α:=if r.length=s.length then r else s
theorem Dv {α:Type} (s r:List α):(fit s r).length=s.length:=by unfold fit;split <;> simp_all
theorem Pu {α:Type} {s r:List α} (h:r.length=s.length):fit s r=r:=if_pos h
end Go.Pm
end
section
set_option linter.unusedVariables false
set_option linter.unusedSimpArgs false
namespace Go.Pm
open Go
def uz (x:Option (PV × List Nat)) (y:Option (List PV × List Nat)):Option (List PV × List Nat):=match x,y with
 | some (v',l),some (r',l')=>some (v'::r',l ++ l')
 | _,_=>none
section
variable (rd:Rd) (kn:Bool) (n:Nat)
theorem ag2:dV rd kn (n+1) []=some ([],[]):=by simp only [dV]
theorem ag3 (v:PV) (r:List PV):dV rd kn (n+1) (v::r)=uz (snap rd kn n v) (dV rd kn n r):=by
 simp only [dV,uz]
 cases snap rd kn n v with
 | none=>rfl
 | some p=>cases dV rd kn n r <;> rfl
theorem aa6 (v:PV) (l:List Nat) (r:List PV) (l':List Nat):uz (some (v,l)) (some (r,l'))=some (v::r,l ++ l'):=rfl
theorem abb (k:IntKind) (i:Int):snap rd kn (n+1) (.int k i)=some (.int k i,[]):=by simp only [snap]
theorem RO (b:Bool):snap rd kn (n+1) (.bool b)=some (.bool b,[]):=by simp only [snap]
theorem aa7 (b:ByteArray):snap rd kn (n+1) (.str b)=some (.str b,[]):=by simp only [snap]
theorem aba (xs:List (List PV)) (fl:Fl):snap rd kn (n+1) (.lit xs fl)=some (.lit xs fl,[]):=by simp only [snap]
theorem RN (xs:List (List PV)) (i o:Nat):snap rd kn (n+1) (.bL xs i o)=some (.bL xs i o,[]):=by simp only [snap]
theorem RL:snap rd kn (n+1) .eH=some (.eH,[]):=by simp only [snap]
theorem RM:snap rd kn (n+1) .cX=some (.cX,[]):=by simp only [snap]
theorem LX:snap rd kn (n+1) .undef=some (.undef,[]):=by simp only [snap]
theorem RK:snap rd false (n+1) .bp=some (.lit [] ⟨false,false⟩,[]):=by simp only [snap];rfl
theorem LY:snap rd true (n+1) .bp=some (.bp,[]):=by simp only [snap];rfl
def snO (k off len a:Nat) (o:Option bq):Option (PV × List Nat):=match o with
 | some (.arr k' xs flat _)=>if (k' == k&&decide (off+len≤xs.length))=true then some (.lit ((xs.drop off).take len) ⟨false,flat⟩,[a]) else none
 | _=>none
theorem aa9 (a k off len:Nat):snap rd kn (n+1) (.own a k off len)=snO k off len a (rd a):=by
 simp only [snap,snO]
 cases rd a with
 | none=>rfl
 | some p=>cases p <;> rfl
theorem ag6 (k k' len a:Nat) (xs:List (List PV)) (flat fz:Bool) (hl:len=xs.length) :
  snO k 0 len a (some (.arr k' xs flat fz))=if (k' == k)=true then some (.lit xs ⟨false,flat⟩,[a]) else none:=by
 subst hl;simp [snO]
theorem ag7 {α:Type} [Enc α] (k k' a:Nat) (i:Int) (l:List α) (flat fz:Bool) :
  snO k 0 (Int.toNat i) a (some (.arr k' (rows l) flat fz))=if (k' == k)=true then (if decide (Int.toNat i≤l.length)=true then some (.lit (rows (l.take i.toNat)) ⟨false,flat⟩,[a]) else none) else none:=by
 simp only [snO,Nat.zero_add,List.drop_zero,jb,df]
 by_cases h1:k'=k <;> by_cases h2:i.toNat≤l.length <;> simp [h1,h2]
theorem Jd (c:Prop) [Decidable c] (x x':Option (PV × List Nat)) (y:Option (List PV × List Nat)):uz (if c then x else x') y=if c then uz x y else uz x' y:=by split <;> rfl
theorem Jc (c:Prop) [Decidable c] (x:Option (PV × List Nat)) (y y':Option (List PV × List Nat)):uz x (if c then y else y')=if c then uz x y else uz x y':=by split <;> rfl
theorem RJ (y:Option (List PV × List Nat)):uz none y=none:=rfl
theorem RI (x:Option (PV × List Nat)):uz x none=none:=by cases x <;> rfl
theorem SC (C:Callee) (f:Nat) (rk:List (Option Nat)) (nid:Nat) (c:Prop) [Decidable c] (x y:Option (List PV × List Nat)):puK C f rk rd nid (if c then x else y)=if c then puK C f rk rd nid x else puK C f rk rd nid y:=by split <;> rfl
theorem ajr (C:Callee) (f:Nat) (rk:List (Option Nat)) (nid:Nat):puK C f rk rd nid none=none:=rfl
def snB (a o:Nat) (x:Option (List PV × List Nat)):Option (PV × List Nat):=match x with
 | some (cs',l)=>some (.bL [cs'] 0 o,a::l)
 | none=>none
def snP (rd:Rd) (kn:Bool) (n a o:Nat) (x:Option bq):Option (PV × List Nat):=match x with
 | some (.box cs)=>snB a o (dV rd kn n cs)
 | _=>none
theorem aa8 (a o:Nat):snap rd kn (n+1) (.ptr a o)=snP rd kn n a o (rd a):=by
 simp only [snap,snP,snB]
 cases rd a with
 | none=>rfl
 | some p=>cases p with
  | box cs=>simp only;cases dV rd kn n cs <;> rfl
  | arr=>rfl
theorem ag5 (a o:Nat) (cs:List PV):snP rd kn n a o (some (.box cs))=snB a o (dV rd kn n cs):=rfl
theorem ag9 (a o:Nat) (cs:List PV) (l:List Nat):snB a o (some (cs,l))=some (.bL [cs] 0 o,a::l):=rfl
def snF (f:Nat) (x:Option (List PV × List Nat)):Option (PV × List Nat):=match x with
 | some (cs,l)=>some (.fn f cs,l)
 | none=>none
theorem ag4 (f:Nat) (cs:List PV):snap rd kn (n+1) (.fn f cs)=snF f (dV rd kn n cs):=by
 simp only [snap,snF];cases dV rd kn n cs <;> rfl
theorem ag8 (f:Nat) (cs:List PV) (l:List Nat):snF f (some (cs,l))=some (.fn f cs,l):=rfl
def snA (x:Option (List PV × List Nat)):Option (PV × List Nat):=match x with
 | some (cs,l)=>some (.agg cs,l)
 | none=>none
theorem abc (cs:List PV):snap rd kn (n+1) (.agg cs)=snA (dV rd kn n cs):=by
 simp only [snap,snA];cases dV rd kn n cs <;> rfl
theorem aha (cs:List PV) (l:List Nat):snA (some (cs,l))=some (.agg cs,l):=rfl
end
section
variable (tab:Nat→Option TI) (rd:Rd)
theorem rs_n (st:St):cv tab st []=some []:=rfl
def rsK (v:Option PV) (vs:Option (List PV)):Option (List PV):=match v,vs with
 | some v,some vs=>some (v::vs)
 | _,_=>none
theorem rs_c (st:St) (r:ResultVar) (l:List ResultVar):cv tab st (r::l)=rsK (jq tab st r) (cv tab st l):=rfl
theorem ahh (v:PV) (vs:List PV):rsK (some v) (some vs)=some (v::vs):=rfl
theorem abn (tm:List PV) (h:List (Nat × bq)) (nx t:Nat):jq tab ⟨tm,h,nx⟩ (.tmp t)=some (nth tm t):=rfl
theorem R3 (tm:List PV) (h:List (Nat × bq)) (nx a t:Nat):jq tab ⟨tm,h,nx⟩ (.cell a t)=(sK (look h) (tab t) (some (nth tm a))).map (·.val):=by
 simp only [jq,sK];cases tab t <;> rfl
theorem pk_1 (v:PV):pack [v]=v:=rfl
theorem pk_0:pack []=.tup []:=rfl
theorem pk_2 (v w:PV) (r:List PV):pack (v::w::r)=.tup (v::w::r):=rfl
def eK (rk:List (Option Nat)) (h:List (Nat × bq)) (vs:Option (List PV)):Option PV:=match vs with
 | some vs=>eN (look h) (pack vs) rk
 | none=>none
theorem Cm {E:Env} (f:Nat) (tm:List PV) (h:List (Nat × bq)) (nx:Nat) (hE:E.keepE f=none):Co E f .ret ⟨tm,h,nx⟩=eK (E.resK f) h (cv E.tab ⟨tm,h,nx⟩ (bg E f)):=by
 simp only [Co,hE,dx,eK];simp only [or_true,↓reduceIte] <;> (cases cv E.tab ⟨tm,h,nx⟩ (bg E f) <;> rfl)
theorem Qq {E:Env} (f:Nat) (tm:List PV) (h:List (Nat × bq)) (nx:Nat) (hE:E.keepE f=none):Co E f .normal ⟨tm,h,nx⟩=eK (E.resK f) h (cv E.tab ⟨tm,h,nx⟩ (bg E f)):=by
 simp only [Co,hE,dx,eK];simp only [true_or,↓reduceIte] <;> (cases cv E.tab ⟨tm,h,nx⟩ (bg E f) <;> rfl)
theorem eK_s (rk:List (Option Nat)) (h:List (Nat × bq)) (vs:List PV):eK rk h (some vs)=eN (look h) (pack vs) rk:=rfl
def xpC (v:PV) (x:Option (List PV)):Option (List PV):=match x with
 | some r=>some (v::r)
 | none=>none
theorem afM (v:PV) (r:List PV):xpC v (some r)=some (v::r):=rfl
variable (all:List Nat)
theorem xp_n (ks:List (Option Nat)):exports rd all [] ks=some []:=rfl
theorem aas (k:IntKind) (i:Int) (r:List PV) (ks:List (Option Nat)):exports rd all (.int k i::r) ks=xpC (.int k i) (exports rd all r ks.tail):=by
 simp only [exports,xpC];cases exports rd all r ks.tail <;> rfl
theorem Rq (b:Bool) (r:List PV) (ks:List (Option Nat)):exports rd all (.bool b::r) ks=xpC (.bool b) (exports rd all r ks.tail):=by
 simp only [exports,xpC];cases exports rd all r ks.tail <;> rfl
theorem aap (b:ByteArray) (r:List PV) (ks:List (Option Nat)):exports rd all (.str b::r) ks=xpC (.str b) (exports rd all r ks.tail):=by
 simp only [exports,xpC];cases exports rd all r ks.tail <;> rfl
theorem aar (xs:List (List PV)) (u fl:Bool) (r:List PV) (ks:List (Option Nat)):exports rd all (.lit xs ⟨u,fl⟩::r) (none::ks)=xpC (.lit xs ⟨false,fl⟩) (exports rd all r ks):=by
 simp only [exports,xpC,List.tail_cons];cases exports rd all r ks <;> rfl
theorem Rp (xs:List (List PV)) (u fl:Bool) (r:List PV) (k:Nat) (ks:List (Option Nat)):exports rd all (.lit xs ⟨u,fl⟩::r) (some k::ks)=none:=by
 simp only [exports];cases exports rd all r (some k::ks).tail <;> rfl
theorem Ro (r:List PV) (ks:List (Option Nat)):exports rd all (.bp::r) (none::ks)=xpC (.lit [] ⟨false,false⟩) (exports rd all r ks):=by
 simp only [exports,xpC,List.tail_cons];cases exports rd all r ks <;> rfl
theorem LH (r:List PV) (k:Nat) (ks:List (Option Nat)):exports rd all (.bp::r) (some k::ks)=xpC (.lit [] ⟨true,false⟩) (exports rd all r ks):=by
 simp only [exports,xpC,List.tail_cons];cases exports rd all r ks <;> rfl
def xpO (k off len t:Nat) (hd:Option Nat) (o:Option bq) (x:Option (List PV)):Option (List PV):=match o,x with
 | some (.arr k' xs flat fz),some r'=>
  if (k' == k&&decide (off+len≤xs.length))=true then
   match hd with
   | some k2=>if (k2 == k&&(!fz&&t == 1))=true then some (.lit ((xs.drop off).take len) ⟨true,flat⟩::r') else none
   | none=>if (!fz&&t == 1)=true then none else some (.lit ((xs.drop off).take len) ⟨false,flat⟩::r')
  else none
 | _,_=>none
theorem aaq (a k off len:Nat) (r:List PV) (hd:Option Nat) (ks:List (Option Nat)):exports rd all (.own a k off len::r) (hd::ks)=xpO k off len (times a all) hd (rd a) (exports rd all r ks):=by
 simp only [exports,xpO,List.tail_cons,List.head?_cons]
 cases exports rd all r ks with
 | none=>cases rd a with
  | none=>rfl
  | some p=>cases p <;> rfl
 | some r'=>cases rd a with
  | none=>rfl
  | some p=>cases p with
   | box=>rfl
   | arr k' xs fl fz=>cases hd <;> rfl
theorem Rs (k len k' k2:Nat) (xs:List (List PV)) (flat:Bool) (r:List PV) (hl:len=xs.length) :
  xpO k 0 len 1 (some k2) (some (.arr k' xs flat false)) (some r)=if (k' == k&&k2 == k)=true then some (.lit xs ⟨true,flat⟩::r) else none:=by
 subst hl
 simp only [xpO,Nat.zero_add,Nat.le_refl,decide_true,Bool.and_true,List.drop_zero,List.take_length,Bool.not_false,beq_self_eq_true]
 by_cases h1:k'=k <;> by_cases h2:k2=k <;> simp [h1,h2]
theorem Rr (k len k' t:Nat) (xs:List (List PV)) (flat:Bool) (r:List PV) (hl:len=xs.length) :
  xpO k 0 len t none (some (.arr k' xs flat true)) (some r)=if (k' == k)=true then some (.lit xs ⟨false,flat⟩::r) else none:=by
 subst hl
 simp [xpO]
theorem Wd {α:Type} [Enc α] (k len k' k2:Nat) (l:List α) (flat:Bool) (r:List PV) :
  xpO k 0 len 1 (some k2) (some (.arr k' (rows l) flat false)) (some r)=if (k' == k&&k2 == k)=true then (if decide (len≤l.length)=true then some (.lit (rows (l.take len)) ⟨true,flat⟩::r) else none) else none:=by
 simp only [xpO,Nat.zero_add,List.drop_zero,jb,df,Bool.not_false,beq_self_eq_true,Bool.and_true]
 by_cases h1:k'=k <;> by_cases h2:k2=k <;> by_cases h3:len≤l.length <;> simp [h1,h2,h3]
theorem afO (v:PV) (c:Prop) [Decidable c] (x y:Option (List PV)):xpC v (if c then x else y)=if c then xpC v x else xpC v y:=by split <;> rfl
theorem afN (v:PV):xpC v none=none:=rfl
def xvK (x:Option (List PV)) (ks:List (Option Nat)):Option (PV × List (Option Nat)):=match x with
 | some [v']=>some (v',ks)
 | _=>none
def xvA (x:Option (List PV)) (ks:List (Option Nat)):Option (PV × List (Option Nat)):=match x with
 | some cs'=>some (.agg cs',ks)
 | none=>none
theorem afG (v:PV) (ks:List (Option Nat)):xvK (some [v]) ks=some (v,ks):=rfl
theorem afJ (cs:List PV) (ks:List (Option Nat)):xvA (some cs) ks=some (.agg cs,ks):=rfl
theorem afI (ks:List (Option Nat)) (c:Prop) [Decidable c] (x y:Option (List PV)):xvK (if c then x else y) ks=if c then xvK x ks else xvK y ks:=by split <;> rfl
theorem afH (ks:List (Option Nat)):xvK none ks=none:=rfl
theorem afL (ks:List (Option Nat)) (c:Prop) [Decidable c] (x y:Option (List PV)):xvA (if c then x else y) ks=if c then xvA x ks else xvA y ks:=by split <;> rfl
theorem afK (ks:List (Option Nat)):xvA none ks=none:=rfl
theorem aai (cs:List PV) (ks:List (Option Nat)):cM rd all (.agg cs) ks=xvA (exports rd all cs (ks.take cs.length)) (ks.drop cs.length):=by
 simp only [cM,xvA];cases exports rd all cs (ks.take cs.length) <;> rfl
theorem aah (kk:IntKind) (i:Int) (k:Option Nat) (ks:List (Option Nat)):cM rd all (.int kk i) (k::ks)=some (.int kk i,ks):=rfl
theorem Rl (b:Bool) (k:Option Nat) (ks:List (Option Nat)):cM rd all (.bool b) (k::ks)=some (.bool b,ks):=rfl
theorem aae (b:ByteArray) (k:Option Nat) (ks:List (Option Nat)):cM rd all (.str b) (k::ks)=some (.str b,ks):=rfl
theorem aag (xs:List (List PV)) (fl:Fl) (k:Option Nat) (ks:List (Option Nat)):cM rd all (.lit xs fl) (k::ks)=xvK (exports rd all [.lit xs fl] [k]) ks:=rfl
theorem Rk (k:Option Nat) (ks:List (Option Nat)):cM rd all .bp (k::ks)=xvK (exports rd all [.bp] [k]) ks:=rfl
theorem aaf (a kk off len:Nat) (k:Option Nat) (ks:List (Option Nat)):cM rd all (.own a kk off len) (k::ks)=xvK (exports rd all [.own a kk off len] [k]) ks:=rfl
def xwC (v:PV) (x:Option (List PV)):Option (List PV):=match x with
 | some vs=>some (v::vs)
 | none=>none
def xwK (rd:Rd) (all:List Nat) (r:List PV) (x:Option (PV × List (Option Nat))):Option (List PV):=match x with
 | some (v',ks')=>xwC v' (eX rd all r ks')
 | none=>none
theorem xw_n (ks:List (Option Nat)):eX rd all [] ks=some []:=rfl
theorem xw_c (v:PV) (r:List PV) (ks:List (Option Nat)):eX rd all (v::r) ks=xwK rd all r (cM rd all v ks):=by
 simp only [eX,xwK,xwC]
 cases cM rd all v ks with
 | none=>rfl
 | some p=>simp only;cases eX rd all r p.2 <;> rfl
theorem afA (r:List PV) (v:PV) (ks:List (Option Nat)):xwK rd all r (some (v,ks))=xwC v (eX rd all r ks):=rfl
theorem afD (v:PV) (vs:List PV):xwC v (some vs)=some (v::vs):=rfl
theorem afC (r:List PV) (c:Prop) [Decidable c] (x y:Option (PV × List (Option Nat))):xwK rd all r (if c then x else y)=if c then xwK rd all r x else xwK rd all r y:=by split <;> rfl
theorem afB (r:List PV):xwK rd all r none=none:=rfl
theorem afF (v:PV) (c:Prop) [Decidable c] (x y:Option (List PV)):xwC v (if c then x else y)=if c then xwC v x else xwC v y:=by split <;> rfl
theorem afE (v:PV):xwC v none=none:=rfl
theorem aaj (vs:List PV) (ks:List (Option Nat)):eN rd (.tup vs) ks=(eX rd (dz vs ++ C0 vs ks) vs ks).map .tup:=rfl
theorem aan (kk:IntKind) (i:Int) (ks:List (Option Nat)):eN rd (.int kk i) ks=(cM rd [] (.int kk i) ks).map (·.1):=by
 cases ks with
 | nil=>rfl
 | cons k r=>cases k <;> rfl
theorem Rn (b:Bool) (ks:List (Option Nat)):eN rd (.bool b) ks=(cM rd [] (.bool b) ks).map (·.1):=by
 cases ks with
 | nil=>rfl
 | cons k r=>cases k <;> rfl
theorem aak (b:ByteArray) (ks:List (Option Nat)):eN rd (.str b) ks=(cM rd [] (.str b) ks).map (·.1):=by
 cases ks with
 | nil=>rfl
 | cons k r=>cases k <;> rfl
theorem aam (xs:List (List PV)) (fl:Fl) (ks:List (Option Nat)):eN rd (.lit xs fl) ks=(cM rd (ids (.lit xs fl) ++ (shV (.lit xs fl) ks).1) (.lit xs fl) ks).map (·.1):=rfl
theorem Rm (ks:List (Option Nat)):eN rd .bp ks=(cM rd (ids .bp ++ (shV .bp ks).1) .bp ks).map (·.1):=rfl
theorem aal (a k off len:Nat) (ks:List (Option Nat)):eN rd (.own a k off len) ks=(cM rd (ids (.own a k off len) ++ (shV (.own a k off len) ks).1) (.own a k off len) ks).map (·.1):=rfl
theorem aao (cs:List PV) (ks:List (Option Nat)):eN rd (.agg cs) ks=(cM rd (ids (.agg cs) ++ (shV (.agg cs) ks).1) (.agg cs) ks).map (·.1):=rfl
end
section
variable (nid:Nat)
abbrev CD:=Option (List PV × Upd × Bool × Nat)
def imC (v:PV) (u:Upd) (s:Bool) (x:CD):CD:=match x with
 | some (vs,u',sh,j)=>some (v::vs,u ++ u',sh||s,j)
 | none=>none
theorem am5 (v:PV) (u:Upd) (s:Bool) (vs:List PV) (u':Upd) (sh:Bool) (j:Nat):imC v u s (some (vs,u',sh,j))=some (v::vs,u ++ u',sh||s,j):=rfl
theorem ip_n (ks:List (Option Nat)) (j:Nat):imports nid [] ks j=some ([],[],false,j):=rfl
theorem adm (k:IntKind) (i:Int) (r:List PV) (ks:List (Option Nat)) (j:Nat):imports nid (.int k i::r) ks j=imC (.int k i) [] false (imports nid r ks.tail j):=by
 simp only [imports,imC,plainCell,Bool.true_or,↓reduceIte];cases imports nid r ks.tail j with | none=>rfl | some p=>obtain ⟨a,b,c,d⟩:=p;simp
theorem TA (b:Bool) (r:List PV) (ks:List (Option Nat)) (j:Nat):imports nid (.bool b::r) ks j=imC (.bool b) [] false (imports nid r ks.tail j):=by
 simp only [imports,imC,plainCell,Bool.true_or,↓reduceIte];cases imports nid r ks.tail j with | none=>rfl | some p=>obtain ⟨a,b,c,d⟩:=p;simp
theorem adj (b:ByteArray) (r:List PV) (ks:List (Option Nat)) (j:Nat):imports nid (.str b::r) ks j=imC (.str b) [] false (imports nid r ks.tail j):=by
 simp only [imports,imC,plainCell,Bool.true_or,↓reduceIte];cases imports nid r ks.tail j with | none=>rfl | some p=>obtain ⟨a,b,c,d⟩:=p;simp
theorem adl (xs:List (List PV)) (fl:Bool) (r:List PV) (k:Nat) (ks:List (Option Nat)) (j:Nat) :
  imports nid (.lit xs ⟨true,fl⟩::r) (some k::ks) j=imC (.own (nid+j) k 0 xs.length) [(nid+j,some (.arr k xs false false))] (!(xs.all cJ)) (imports nid r ks (j+1)):=by
 simp only [imports,imC,List.head?_cons,List.tail_cons];cases imports nid r ks (j+1) with | none=>rfl | some p=>obtain ⟨a,b,c,d⟩:=p;rfl
theorem adk (xs:List (List PV)) (fl:Bool) (r:List PV) (k:Option Nat) (ks:List (Option Nat)) (j:Nat) :
  imports nid (.lit xs ⟨false,fl⟩::r) (k::ks) j=imC (.lit xs ⟨false,fl⟩) [] true (imports nid r ks j):=by
 simp only [imports,imC,List.tail_cons];cases imports nid r ks j with | none=>rfl | some p=>obtain ⟨a,b,c,d⟩:=p;simp
abbrev VZ:=Option (PV × Upd × Bool × Nat × List (Option Nat))
def ivK (ks:List (Option Nat)) (x:CD):VZ:=match x with
 | some ([v'],u,sh,j')=>some (v',u,sh,j',ks)
 | _=>none
def ivA (ks:List (Option Nat)) (x:CD):VZ:=match x with
 | some (cs',u,sh,j')=>some (.agg cs',u,sh,j',ks)
 | none=>none
theorem alX (ks:List (Option Nat)) (v:PV) (u:Upd) (sh:Bool) (j:Nat):ivK ks (some ([v],u,sh,j))=some (v,u,sh,j,ks):=rfl
theorem alY (ks:List (Option Nat)) (cs:List PV) (u:Upd) (sh:Bool) (j:Nat):ivA ks (some (cs,u,sh,j))=some (.agg cs,u,sh,j,ks):=rfl
theorem ac0 (cs:List PV) (ks:List (Option Nat)) (j:Nat):cB nid (.agg cs) ks j=ivA (ks.drop cs.length) (imports nid cs (ks.take cs.length) j):=by
 simp only [cB,ivA];cases imports nid cs (ks.take cs.length) j <;> rfl
theorem acZ (k:IntKind) (i:Int) (kk:Option Nat) (ks:List (Option Nat)) (j:Nat):cB nid (.int k i) (kk::ks) j=some (.int k i,[],false,j,ks):=rfl
theorem Tt (b:Bool) (kk:Option Nat) (ks:List (Option Nat)) (j:Nat):cB nid (.bool b) (kk::ks) j=some (.bool b,[],false,j,ks):=rfl
theorem acX (b:ByteArray) (kk:Option Nat) (ks:List (Option Nat)) (j:Nat):cB nid (.str b) (kk::ks) j=some (.str b,[],false,j,ks):=rfl
theorem Ts (k:IntKind) (i:Int) (j:Nat):cB nid (.int k i) [] j=some (.int k i,[],false,j,[]):=rfl
theorem OA (b:Bool) (j:Nat):cB nid (.bool b) [] j=some (.bool b,[],false,j,[]):=rfl
theorem Tr (b:ByteArray) (j:Nat):cB nid (.str b) [] j=some (.str b,[],false,j,[]):=rfl
theorem acY (xs:List (List PV)) (fl:Fl) (kk:Option Nat) (ks:List (Option Nat)) (j:Nat):cB nid (.lit xs fl) (kk::ks) j=ivK ks (imports nid [.lit xs fl] [kk] j):=rfl
def iwC (v:PV) (u:Upd) (sh:Bool) (x:CD):CD:=match x with
 | some (vs,u',sh',j'')=>some (v::vs,u ++ u',sh||sh',j'')
 | none=>none
theorem alW (v:PV) (u:Upd) (sh:Bool) (vs:List PV) (u':Upd) (sh':Bool) (j:Nat):iwC v u sh (some (vs,u',sh',j))=some (v::vs,u ++ u',sh||sh',j):=rfl
def iwK (nid:Nat) (r:List PV) (x:VZ):CD:=match x with
 | some (v',u,sh,j',ks')=>iwC v' u sh (dG nid r ks' j')
 | none=>none
theorem iw_n (ks:List (Option Nat)) (j:Nat):dG nid [] ks j=some ([],[],false,j):=rfl
theorem iw_c (v:PV) (r:List PV) (ks:List (Option Nat)) (j:Nat):dG nid (v::r) ks j=iwK nid r (cB nid v ks j):=by
 simp only [dG,iwK,iwC]
 cases cB nid v ks j with
 | none=>rfl
 | some p=>obtain ⟨a,b,c,d,e⟩:=p;simp only;cases dG nid r e d <;> rfl
theorem alV (r:List PV) (v:PV) (u:Upd) (sh:Bool) (j:Nat) (ks:List (Option Nat)):iwK nid r (some (v,u,sh,j,ks))=iwC v u sh (dG nid r ks j):=rfl
def irT (x:CD):Option (PV × Upd × Bool × Nat):=match x with
 | some (vs',u,sh,j)=>some (.tup vs',u,sh,j)
 | none=>none
def irV (x:VZ):Option (PV × Upd × Bool × Nat):=match x with
 | some (v',u,sh,j,_)=>some (v',u,sh,j)
 | none=>none
theorem al1 (vs:List PV) (u:Upd) (sh:Bool) (j:Nat):irT (some (vs,u,sh,j))=some (.tup vs,u,sh,j):=rfl
theorem al0 (v:PV) (u:Upd) (sh:Bool) (j:Nat) (ks:List (Option Nat)):irV (some (v,u,sh,j,ks))=some (v,u,sh,j):=rfl
theorem ac1 (vs:List PV) (ks:List (Option Nat)):dk nid (.tup vs) ks=irT (dG nid vs ks 0):=by simp only [dk,irT];cases dG nid vs ks 0 <;> rfl
theorem ac4 (k:IntKind) (i:Int) (ks:List (Option Nat)):dk nid (.int k i) ks=irV (cB nid (.int k i) ks 0):=by simp only [dk,irV];cases cB nid (.int k i) ks 0 <;> rfl
theorem Tu (b:Bool) (ks:List (Option Nat)):dk nid (.bool b) ks=irV (cB nid (.bool b) ks 0):=by simp only [dk,irV];cases cB nid (.bool b) ks 0 <;> rfl
theorem ac2 (b:ByteArray) (ks:List (Option Nat)):dk nid (.str b) ks=irV (cB nid (.str b) ks 0):=by simp only [dk,irV];cases cB nid (.str b) ks 0 <;> rfl
theorem ac3 (xs:List (List PV)) (fl:Fl) (ks:List (Option Nat)):dk nid (.lit xs fl) ks=irV (cB nid (.lit xs fl) ks 0):=by simp only [dk,irV];cases cB nid (.lit xs fl) ks 0 <;> rfl
theorem ac5 (cs:List PV) (ks:List (Option Nat)):dk nid (.agg cs) ks=irV (cB nid (.agg cs) ks 0):=by simp only [dk,irV];cases cB nid (.agg cs) ks 0 <;> rfl
end
abbrev Kp:=List PV × List (Nat × bq) × Nat
def kpU (x:Kp):Kp:=(.undef::x.1,x.2.1,x.2.2)
def kpV (v:PV) (x:Kp):Kp:=(v::x.1,x.2.1,x.2.2)
theorem alN (tm:List PV) (h:List (Nat × bq)) (n:Nat):kpU (tm,h,n)=(.undef::tm,h,n):=rfl
theorem alM (v:PV) (tm:List PV) (h:List (Nat × bq)) (n:Nat):kpV v (tm,h,n)=(v::tm,h,n):=rfl
abbrev Ks:=List (Nat × List (Nat × Nat × Bool))
def kpN (r:List PV) (n:Nat) (ks:Ks) (x:PV × List (Nat × bq) × Nat):Kp:=kpV x.1 (keepT x.2.1 x.2.2 r (n+1) ks)
theorem acO (h:List (Nat × bq)) (nx n:Nat) (ks:Ks):keepT h nx [] n ks=([],h,nx):=by cases ks <;> rfl
theorem kt_u (h:List (Nat × bq)) (nx:Nat) (v:PV) (r:List PV) (n:Nat):keepT h nx (v::r) n []=kpU (keepT h nx r (n+1) []):=rfl
theorem kt_c (h:List (Nat × bq)) (nx:Nat) (v:PV) (r:List PV) (n t:Nat) (cs:List (Nat × Nat × Bool)) (ks:Ks) :
  keepT h nx (v::r) n ((t,cs)::ks)=if (t == n)=true then kpN r n ks (dI v h nx cs) else kpU (keepT h nx r (n+1) ((t,cs)::ks)):=rfl
theorem alO (r:List PV) (n:Nat) (ks:Ks) (v:PV) (h:List (Nat × bq)) (nx:Nat):kpN r n ks (v,h,nx)=kpV v (keepT h nx r (n+1) ks):=rfl
theorem ni_n (v:PV) (h:List (Nat × bq)) (nx:Nat):dI v h nx []=(v,h,nx):=rfl
def niB (a c k:Nat) (flat:Bool) (r:List (Nat × Nat × Bool)) (h:List (Nat × bq)) (nx:Nat) (o:Option bq):PV × List (Nat × bq) × Nat:=match o with
 | some (.box cs)=>match gC (nth cs c) h nx k flat with
  | (x,h',n')=>dI (.ptr a 0) (setObj h' a (.box (put cs c x))) n' r
 | _=>dI (.ptr a 0) h nx r
theorem acs (a c k:Nat) (flat:Bool) (r:List (Nat × Nat × Bool)) (h:List (Nat × bq)) (nx:Nat):dI (.ptr a 0) h nx ((c,k,flat)::r)=niB a c k flat r h nx (look h a):=by
 simp only [dI,niB]
 cases look h a with
 | none=>rfl
 | some p=>cases p <;> rfl
def niC (a c:Nat) (cs:List PV) (r:List (Nat × Nat × Bool)) (x:PV × List (Nat × bq) × Nat):PV × List (Nat × bq) × Nat:=dI (.ptr a 0) (setObj x.2.1 a (.box (put cs c x.1))) x.2.2 r
theorem aly (a c k:Nat) (flat:Bool) (r:List (Nat × Nat × Bool)) (h:List (Nat × bq)) (nx:Nat) (cs:List PV):niB a c k flat r h nx (some (.box cs))=niC a c cs r (gC (nth cs c) h nx k flat):=rfl
theorem alx (a c:Nat) (cs:List PV) (r:List (Nat × Nat × Bool)) (x:PV) (h:List (Nat × bq)) (nx:Nat):niC a c cs r (x,h,nx)=dI (.ptr a 0) (setObj h a (.box (put cs c x))) nx r:=rfl
theorem acu (a kk off len c k:Nat) (flat:Bool) (r:List (Nat × Nat × Bool)) (h:List (Nat × bq)) (nx:Nat):dI (.own a kk off len) h nx ((c,k,flat)::r)=dI (.own a kk off len) h nx r:=rfl
theorem acv (xs:List (List PV)) (fl:Fl) (c k:Nat) (flat:Bool) (r:List (Nat × Nat × Bool)) (h:List (Nat × bq)) (nx:Nat):dI (.lit xs fl) h nx ((c,k,flat)::r)=dI (.lit xs fl) h nx r:=rfl
theorem S2 (c k:Nat) (flat:Bool) (r:List (Nat × Nat × Bool)) (h:List (Nat × bq)) (nx:Nat):dI .bp h nx ((c,k,flat)::r)=dI (.own nx k 0 0) (setObj h nx (.arr k [] flat false)) (nx+1) r:=rfl
theorem S3 (h:List (Nat × bq)) (nx k:Nat) (flat:Bool):gC .bp h nx k flat=(.own nx k 0 0,setObj h nx (.arr k [] flat false),nx+1):=rfl
theorem acx (a kk off len:Nat) (h:List (Nat × bq)) (nx k:Nat) (flat:Bool):gC (.own a kk off len) h nx k flat=(.own a kk off len,h,nx):=rfl
theorem acy (xs:List (List PV)) (fl:Fl) (h:List (Nat × bq)) (nx k:Nat) (flat:Bool):gC (.lit xs fl) h nx k flat=(.lit xs fl,h,nx):=rfl
def cnK (x:Kp):St:=⟨x.1,x.2.1,x.2.2⟩
def asL (nr:Nat) (x:Kp):St:=cnK (canon (upto nr) x.1 x.2.1)
theorem cln (nr:Nat) (ks:Ks) (tm:List PV) (h:List (Nat × bq)) (nx:Nat):clean nr ks ⟨tm,h,nx⟩=asL nr (keepT h nx tm 0 ks):=rfl
def canK (vals:List PV) (h:List (Nat × bq)) (L:List Nat):Kp:=(fD (fun a=>pos L a 0) vals,picks (look h) (fun a=>pos L a 0) L 0,L.length)
theorem afd (nr:Nat) (tm:List PV) (h:List (Nat × bq)) (nx:Nat):asL nr (tm,h,nx)=cnK (canK tm h (reach (look h) cq (kids (look h) (upto nr) ++ dz tm) (upto nr))):=rfl
theorem afk (vals:List PV) (h:List (Nat × bq)) (L:List Nat):canK vals h L=(fD (fun a=>pos L a 0) vals,picks (look h) (fun a=>pos L a 0) L 0,L.length):=rfl
theorem asK (tm:List PV) (h:List (Nat × bq)) (nx:Nat):cnK (tm,h,nx)=⟨tm,h,nx⟩:=rfl
theorem adu (a k off len:Nat):ids (.own a k off len)=[a]:=rfl
theorem adt (a o:Nat):ids (.ptr a o)=[a]:=rfl
theorem adw (k:IntKind) (n:Int):ids (.int k n)=[]:=rfl
theorem TP (b:Bool):ids (.bool b)=[]:=rfl
theorem ads (b:ByteArray):ids (.str b)=[]:=rfl
theorem adv (xs:List (List PV)) (fl:Fl):ids (.lit xs fl)=[]:=rfl
theorem TO (xs:List (List PV)) (i o:Nat):ids (.bL xs i o)=[]:=rfl
theorem Pg:ids .undef=[]:=rfl
theorem TJ:ids .void=[]:=rfl
theorem TL:ids .bp=[]:=rfl
theorem TM:ids .eH=[]:=rfl
theorem TN:ids .cX=[]:=rfl
theorem adx (cs:List PV):ids (.agg cs)=dz cs:=by simp only [ids]
theorem adr (cs:List PV):ids (.tup cs)=dz cs:=by simp only [ids]
theorem am8 (f:Nat) (cs:List PV):ids (.fn f cs)=dz cs:=by simp only [ids]
theorem am6:dz []=[]:=rfl
theorem am7 (v:PV) (r:List PV):dz (v::r)=ids v ++ dz r:=rfl
theorem abu (g:Nat→Option Nat) (k:IntKind) (n:Int):ren g (.int k n)=.int k n:=rfl
theorem Sb (g:Nat→Option Nat) (b:Bool):ren g (.bool b)=.bool b:=rfl
theorem abp (g:Nat→Option Nat) (b:ByteArray):ren g (.str b)=.str b:=rfl
theorem abt (g:Nat→Option Nat) (xs:List (List PV)) (fl:Fl):ren g (.lit xs fl)=.lit xs fl:=rfl
theorem Sa (g:Nat→Option Nat) (xs:List (List PV)) (i o:Nat):ren g (.bL xs i o)=.bL xs i o:=rfl
theorem Me (g:Nat→Option Nat):ren g .undef=.undef:=rfl
theorem R6 (g:Nat→Option Nat):ren g .void=.void:=rfl
theorem R7 (g:Nat→Option Nat):ren g .bp=.bp:=rfl
theorem R8 (g:Nat→Option Nat):ren g .eH=.eH:=rfl
theorem R9 (g:Nat→Option Nat):ren g .cX=.cX:=rfl
theorem abv (g:Nat→Option Nat) (cs:List PV):ren g (.agg cs)=.agg (fD g cs):=by simp only [ren]
theorem abo (g:Nat→Option Nat) (cs:List PV):ren g (.tup cs)=.tup (fD g cs):=by simp only [ren]
theorem ahk (g:Nat→Option Nat) (f:Nat) (cs:List PV):ren g (.fn f cs)=.fn f (fD g cs):=by simp only [ren]
def rnO (k off len:Nat) (x:Option Nat):PV:=match x with | some j=>.own j k off len | none=>.undef
def rnP (o:Nat) (x:Option Nat):PV:=match x with | some j=>.ptr j o | none=>.undef
theorem abr (g:Nat→Option Nat) (a k off len:Nat):ren g (.own a k off len)=rnO k off len (g a):=rfl
theorem abq (g:Nat→Option Nat) (a o:Nat):ren g (.ptr a o)=rnP o (g a):=rfl
theorem ahm (k off len j:Nat):rnO k off len (some j)=.own j k off len:=rfl
theorem ahl (o j:Nat):rnP o (some j)=.ptr j o:=rfl
theorem ahi (g:Nat→Option Nat):fD g []=[]:=rfl
theorem ahj (g:Nat→Option Nat) (v:PV) (r:List PV):fD g (v::r)=ren g v::fD g r:=rfl
theorem ajs (a i:Nat):pos [] a i=none:=rfl
theorem ajt (b:Nat) (r:List Nat) (a i:Nat):pos (b::r) a i=if (a == b)=true then some i else pos r a (i+1):=rfl
theorem ans (a:Nat):has [] a=false:=rfl
theorem ant (b:Nat) (r:List Nat) (a:Nat):has (b::r) a=(a == b||has r a):=rfl
theorem aju (rd:Rd) (g:Nat→Option Nat) (j:Nat):picks rd g [] j=[]:=rfl
def SH (g:Nat→Option Nat) (j:Nat) (x:Option bq) (r:List (Nat × bq)):List (Nat × bq):=match x with
 | some o=>(j,e9 g o)::r
 | none=>r
theorem ajv (rd:Rd) (g:Nat→Option Nat) (a:Nat) (r:List Nat) (j:Nat):picks rd g (a::r) j=SH g j (rd a) (picks rd g r (j+1)):=by
 simp only [picks,SH]
 cases rd a <;> rfl
theorem abY (g:Nat→Option Nat) (j:Nat) (o:bq) (r:List (Nat × bq)):SH g j (some o) r=(j,e9 g o)::r:=rfl
theorem abZ (g:Nat→Option Nat) (j:Nat) (r:List (Nat × bq)):SH g j none r=r:=rfl
theorem R4 (g:Nat→Option Nat) (cs:List PV):e9 g (.box cs)=.box (fD g cs):=rfl
theorem R5 (g:Nat→Option Nat) (k:Nat) (xs:List (List PV)) (fl fz:Bool):e9 g (.arr k xs fl fz)=.arr k xs fl fz:=rfl
theorem afU:upto 0=[]:=rfl
theorem afT (n:Nat):upto (n+1)=upto n ++ [n]:=rfl
theorem alP (rd:Rd):kids rd []=[]:=rfl
def Ov (x:Option bq) (r:List Nat):List Nat:=match x with
 | some (.box cs)=>dz cs ++ r
 | _=>r
theorem alQ (rd:Rd) (a:Nat) (r:List Nat):kids rd (a::r)=Ov (rd a) (kids rd r):=by
 simp only [kids,Ov]
 cases rd a with
 | none=>rfl
 | some p=>cases p <;> rfl
theorem Ot (cs:List PV) (r:List Nat):Ov (some (.box cs)) r=dz cs ++ r:=rfl
theorem Ou (k:Nat) (xs:List (List PV)) (fl fz:Bool) (r:List Nat):Ov (some (.arr k xs fl fz)) r=r:=rfl
theorem acP (r:List Nat):Ov none r=r:=rfl
theorem ajk (rd:Rd) (n:Nat) (seen:List Nat):reach rd n [] seen=seen:=by cases n <;> rfl
def SA (rd:Rd) (n a:Nat) (r seen:List Nat) (x:Option bq):List Nat:=match x with
 | some (.box cs)=>reach rd n (r ++ dz cs) (seen ++ [a])
 | _=>reach rd n r (seen ++ [a])
theorem ajl (rd:Rd) (n a:Nat) (r seen:List Nat):reach rd (n+1) (a::r) seen=if has seen a=true then reach rd n r seen else SA rd n a r seen (rd a):=by
 simp only [reach,SA]
 cases rd a with
 | none=>rfl
 | some p=>cases p <;> rfl
theorem Nl (rd:Rd) (n a:Nat) (r seen:List Nat) (cs:List PV):SA rd n a r seen (some (.box cs))=reach rd n (r ++ dz cs) (seen ++ [a]):=rfl
theorem Nn (rd:Rd) (n a:Nat) (r seen:List Nat) (k:Nat) (xs:List (List PV)) (fl fz:Bool):SA rd n a r seen (some (.arr k xs fl fz))=reach rd n r (seen ++ [a]):=rfl
theorem adV:cq=400:=rfl
theorem RZ:jk=400:=rfl
theorem agr (a:Nat):times a []=0:=rfl
theorem ags (a b:Nat) (r:List Nat):times a (b::r)=(if (a == b)=true then 1 else 0)+times a r:=rfl
theorem sh_n (ks:List (Option Nat)):C0 [] ks=[]:=rfl
theorem sh_c (v:PV) (r:List PV) (ks:List (Option Nat)):C0 (v::r) ks=(shV v ks).1 ++ C0 r (shV v ks).2:=rfl
theorem RX (cs:List PV) (ks:List (Option Nat)):shV (.agg cs) ks=(shIds cs (ks.take cs.length),ks.drop cs.length):=rfl
theorem RW (k:IntKind) (n:Int) (ks:List (Option Nat)):shV (.int k n) ks=(shIds [.int k n] (ks.take 1),ks.drop 1):=rfl
theorem L3 (b:Bool) (ks:List (Option Nat)):shV (.bool b) ks=(shIds [.bool b] (ks.take 1),ks.drop 1):=rfl
theorem RS (b:ByteArray) (ks:List (Option Nat)):shV (.str b) ks=(shIds [.str b] (ks.take 1),ks.drop 1):=rfl
theorem RU (xs:List (List PV)) (fl:Fl) (ks:List (Option Nat)):shV (.lit xs fl) ks=(shIds [.lit xs fl] (ks.take 1),ks.drop 1):=rfl
theorem L2 (ks:List (Option Nat)):shV .bp ks=(shIds [.bp] (ks.take 1),ks.drop 1):=rfl
theorem RT (a k off len:Nat) (ks:List (Option Nat)):shV (.own a k off len) ks=(shIds [.own a k off len] (ks.take 1),ks.drop 1):=rfl
theorem ahd (ks:List (Option Nat)):shIds [] ks=[]:=rfl
theorem ahb (v:PV) (r:List PV) (k:Nat) (ks:List (Option Nat)):shIds (v::r) (some k::ks)=shIds r ks:=by simp only [shIds,List.head?_cons,List.nil_append,List.tail_cons]
theorem ahc (v:PV) (r:List PV) (ks:List (Option Nat)):shIds (v::r) (none::ks)=ids v ++ shIds r ks:=by simp only [shIds,List.head?_cons,List.tail_cons]
theorem ahe (v:PV) (r:List PV):shIds (v::r) []=ids v ++ shIds r []:=by simp only [shIds,List.head?_nil,List.tail_nil]
theorem afZ:dy []=[]:=rfl
theorem af0 (a:Nat) (o:Option bq) (r:Upd):dy ((a,o)::r)=a::dy r:=rfl
theorem aeY:kL []=[]:=rfl
theorem aeZ (a:Nat) (r:List Nat):kL (a::r)=(a,none)::kL r:=rfl
end Go.Pm
end
section
set_option linter.unusedVariables false
set_option linter.unusedSimpArgs false
namespace Go.Pm
open Go
def iE (k:Nat):List PV→Option PV
 | [.lit xs fl]=>if (xs.all (fun x=>x.length == k)&&decide (xs.length≤bound))=true then some (.lit xs ⟨true,false⟩) else none
 | _=>none
def oq {α:Type} (l:List α):Option (List α):=if l.length≤bound then some l else none
def Bz:List PV→Option PV:=fun _=>none
def lS:List PV→Option PV
 | [.str s,.int .u8 c]=>some (.int .i64 (Lib.indexByte s.data.toList c.toNat.toUInt8))
 | _=>none
def oI (K:Nat):List PV→List (Nat × bq)→Nat→Option (PV × List (Nat × bq) × Nat)
 | [.own a k off n,.int .i64 i,.own b k' off' m],[(a0,.arr k1 xs fl fz),(b0,.arr k2 ys fl' fz')],nx=>
  if a == 0&&b == 1&&a0 == 0&&b0 == 1&&nx == 2&&k == K&&k' == K&&k1 == K&&k2 == K&&off == 0&&off' == 0&&!fl&&!fz&&!fl'&&!fz'&&n == xs.length&&m == ys.length&&
    decide (0≤i)&&decide (i≤n)&&decide (0<m)&&decide (n+m≤bound) then
   some (.own 2 K 0 (n+m),[(1,.arr K ys false false),(2,.arr K (xs.take i.toNat ++ ys ++ xs.drop i.toNat) false false)],3)
  else none
 | _,_,_=>none
def refS (C:Callee) (f k:Nat) (st:St):Option (PV × List (Nat × bq) × Nat):=C.refC f k st.tmps st.heap st.next
def rfK (rd:Rd) (nid:Nat) (roots L L0:List Nat) (x:Option (PV × List (Nat × bq) × Nat)):Option Eff:=match x with
 | some (v,h,nx)=>if (decide (nx≤roots.length+64)&&roots.all (isObj rd))=true then some ⟨ren (mP roots nid) v,kL L ++ gQ (mP roots nid) h,L0 ++ L⟩ else none
 | none=>none
def rfJ (C:Callee) (rd:Rd) (nid f:Nat) (args:List PV) (L0 roots L:List Nat):Option Eff:=
 rfK rd nid roots L L0 (refS C f roots.length ⟨fD (fun a=>pos L a 0) args,picks rd (fun a=>pos L a 0) L 0,L.length⟩)
def rfI (C:Callee) (rd:Rd) (nid f:Nat) (args:List PV) (L0 roots:List Nat):Option Eff:=
 rfJ C rd nid f args L0 roots (reach rd cq (kids rd roots ++ []) roots)
def rfH (C:Callee) (rd:Rd) (nid f:Nat) (args:List PV) (i0 L0:List Nat):Option Eff:=rfI C rd nid f args L0 (dedup (boxes rd L0) i0)
def rfG (C:Callee) (rd:Rd) (nid f:Nat) (args:List PV) (i0:List Nat):Option Eff:=rfH C rd nid f args i0 (reach rd cq (kids rd i0 ++ []) i0)
theorem QQ (E:Env) (C:Callee) (rd:Rd) (nid f:Nat) (args:List PV) (h:E.isRef f=true):eO E C rd nid f args=rfG C rd nid f args (dedup (dz args) []):=by
 simp only [eO,h,↓reduceIte,rfG,rfH,rfI,rfJ,rfK,refS,order,dz]
 cases C.refC f _ _ _ _ with
 | none=>rfl
 | some p=>obtain ⟨a,b,c⟩:=p;rfl
theorem ahA (C:Callee) (rd:Rd) (nid f:Nat) (args:List PV) (i0:List Nat):rfG C rd nid f args i0=rfH C rd nid f args i0 (reach rd cq (kids rd i0) i0):=by simp [rfG]
theorem ahz (C:Callee) (rd:Rd) (nid f:Nat) (args:List PV) (i0 L0:List Nat):rfH C rd nid f args i0 L0=rfI C rd nid f args L0 (dedup (boxes rd L0) i0):=rfl
theorem ahy (C:Callee) (rd:Rd) (nid f:Nat) (args:List PV) (L0 roots:List Nat):rfI C rd nid f args L0 roots=rfJ C rd nid f args L0 roots (reach rd cq (kids rd roots) roots):=by simp [rfI]
theorem ahx (C:Callee) (rd:Rd) (nid f:Nat) (args:List PV) (L0 roots L:List Nat) :
  rfJ C rd nid f args L0 roots L=rfK rd nid roots L L0 (refS C f roots.length ⟨fD (fun a=>pos L a 0) args,picks rd (fun a=>pos L a 0) L 0,L.length⟩):=rfl
theorem ahv (rd:Rd) (nid:Nat) (roots L L0:List Nat) (v:PV) (h:List (Nat × bq)) (nx:Nat) :
  rfK rd nid roots L L0 (some (v,h,nx))=if (decide (nx≤roots.length+64)&&roots.all (isObj rd))=true then some ⟨ren (mP roots nid) v,kL L ++ gQ (mP roots nid) h,L0 ++ L⟩ else none:=rfl
theorem Sr {α:Type} (rd:Rd) (nid:Nat) (roots L L0:List Nat) (o:Option α) (enc:α→PV × List (Nat × bq) × Nat):rfK rd nid roots L L0 (o.map enc)=o.bind fun a=>rfK rd nid roots L L0 (some (enc a)):=by cases o <;> rfl
theorem Ss (rd:Rd) (nid:Nat) (roots L L0:List Nat) (c:Prop) [Decidable c] (x y:PV × List (Nat × bq) × Nat):rfK rd nid roots L L0 (some (if c then x else y))=if c then rfK rd nid roots L L0 (some x) else rfK rd nid roots L L0 (some y):=by split <;> rfl
theorem ahw (rd:Rd) (nid:Nat) (roots L L0:List Nat):rfK rd nid roots L L0 none=none:=rfl
theorem aqS (acc:List Nat):dedup [] acc=acc:=rfl
theorem aqT (a:Nat) (r acc:List Nat):dedup (a::r) acc=if has acc a=true then dedup r acc else dedup r (acc ++ [a]):=rfl
theorem asN (rd:Rd):boxes rd []=[]:=rfl
def Vy (a:Nat) (o:Option bq) (r:List Nat):List Nat:=match o with
 | some (.box _)=>a::r
 | _=>r
theorem asO (rd:Rd) (a:Nat) (r:List Nat):boxes rd (a::r)=Vy a (rd a) (boxes rd r):=by
 simp only [boxes,Vy]
 cases rd a with
 | none=>rfl
 | some p=>cases p <;> rfl
theorem afl (a:Nat) (cs:List PV) (r:List Nat):Vy a (some (.box cs)) r=a::r:=rfl
theorem afm (a k:Nat) (xs:List (List PV)) (fl fz:Bool) (r:List Nat):Vy a (some (.arr k xs fl fz)) r=r:=rfl
theorem bid (roots:List Nat) (nid j:Nat):mP roots nid j=if j<roots.length then roots[j]? else some (nid+(j - roots.length)):=rfl
theorem asR (g:Nat→Option Nat):gQ g []=[]:=rfl
def afq (g:Nat→Option Nat) (o:bq) (x:Option Nat) (r:Upd):Upd:=match x with
 | some a=>(a,some (e9 g o))::r
 | none=>r
theorem asS (g:Nat→Option Nat) (j:Nat) (o:bq) (r:List (Nat × bq)):gQ g ((j,o)::r)=afq g o (g j) (gQ g r):=by
 simp only [gQ,afq];cases g j <;> rfl
theorem afp (g:Nat→Option Nat) (o:bq) (a:Nat) (r:Upd):afq g o (some a) r=(a,some (e9 g o))::r:=rfl
def ado (o:Option bq):Bool:=match o with | some _=>true | none=>false
theorem iob (rd:Rd) (a:Nat):isObj rd a=ado (rd a):=by simp only [isObj,ado];cases rd a <;> rfl
theorem adn (o:bq):ado (some o)=true:=rfl
def TQ (o:Option bq):Bool:=match o with | some (.arr ..)=>true | _=>false
theorem iar (rd:Rd) (a:Nat):pd rd a=TQ (rd a):=by
 simp only [pd,TQ]
 cases rd a with
 | none=>rfl
 | some p=>cases p <;> rfl
theorem adz (k:Nat) (xs:List (List PV)) (fl fz:Bool):TQ (some (.arr k xs fl fz))=true:=rfl
theorem ady (cs:List PV):TQ (some (.box cs))=false:=rfl
def Cn (E:Env) (f r:Nat) (ex:Ex) (st:St):Option (PV × List (Nat × bq) × Nat):=
 if ex=.normal∨ex=.ret then
  match cv E.tab (dx r (E.keepE f) st) (bg E f) with
  | some vs=>match canon (upto r) [pack vs] (dx r (E.keepE f) st).heap with
   | ([v'],h3,nx3)=>some (v',h3,nx3)
   | _=>none
  | none=>none
 else none
def fw (E:Env) (f r:Nat) (C:Callee):afw (PV × List (Nat × bq) × Nat):=⟨E,C,f,r,bh E f,Cn E f r⟩
theorem level_ref {E:Env} {f r:Nat} {fn:Func} (C:Callee) (args:List PV) (h:List (Nat × bq)) (nx:Nat) (hp:E.primR f=none) (hn:E.norm f=[]) (hf:E.code f=some fn) (hc:fn.body.isSome=true) :
  (level E C).refC f r args h nx=go (fw E f r C) [] 0 [] ⟨fD (fun a=>pos (reach (look h) cq (kids (look h) (upto r)) (upto r)) a 0) args ++ List.replicate (bo E f - args.length) .undef,
   picks (look h) (fun a=>pos (reach (look h) cq (kids (look h) (upto r)) (upto r)) a 0) (reach (look h) cq (kids (look h) (upto r)) (upto r)) 0,(reach (look h) cq (kids (look h) (upto r)) (upto r)).length⟩:=by
 obtain ⟨c,hc⟩:=Option.isSome_iff_exists.1 hc
 have h1:bh E f=c:=by simp [bh,hf,hc]
 have h2:bo E f=fn.ntmps:=by simp [bo,hf]
 have h3:bg E f=fn.results.toList:=by simp [bg,hf]
 have hrl:∀ g:Nat→Option Nat,(fD g args).length=args.length:=fun g=>by induction args with | nil=>rfl | cons a l ih=>simp [fD,ih]
 simp only [level,hp,hn,normArgs,order,dz,List.append_nil,fa,hf,hc,go,fin,fw,ec,Az,h1,h2,hrl]
 generalize reach (look h) cq (kids (look h) (upto r)) (upto r)=L
 cases ca E C ax f r 0 c ⟨fD (fun a=>pos L a 0) args ++ List.replicate (fn.ntmps - args.length) .undef,picks (look h) (fun a=>pos L a 0) L 0,L.length⟩ with
 | none=>rfl
 | some p=>
  obtain ⟨ex,st⟩:=p
  simp only [Option.bind_some,Cn,h3]
  by_cases hx:ex=.normal∨ex=.ret
  ·simp only [hx,↓reduceIte]
   cases cv E.tab (dx r (E.keepE f) st) fn.results.toList <;> rfl
  ·simp only [hx,↓reduceIte]
theorem Du {E:Env} {f r:Nat} {fn:Func} (C:Callee) (args:List PV) (h:List (Nat × bq)) (nx:Nat) (hp:E.primR f=none) (hn:E.norm f=[]) (hf:E.code f=some fn) (hc:fn.body.isSome=true) :
  refS (level E C) f r ⟨args,h,nx⟩=go (fw E f r C) [] 0 [] ⟨fD (fun a=>pos (reach (look h) cq (kids (look h) (upto r)) (upto r)) a 0) args ++ List.replicate (bo E f - args.length) .undef,
   picks (look h) (fun a=>pos (reach (look h) cq (kids (look h) (upto r)) (upto r)) a 0) (reach (look h) cq (kids (look h) (upto r)) (upto r)) 0,(reach (look h) cq (kids (look h) (upto r)) (upto r)).length⟩:=
 level_ref C args h nx hp hn hf hc
theorem tK {E:Env} {X:Nat→Bool} {C:Callee} (hC:Fix E X C) {f r:Nat} {fn:Func} (hx:X f=false) (args:List PV) (h:List (Nat × bq)) (nx:Nat) (hp:E.primR f=none) (hn:E.norm f=[]) (hf:E.code f=some fn) (hc:fn.body.isSome=true) :
  refS C f r ⟨args,h,nx⟩=go (fw E f r C) [] 0 [] ⟨fD (fun a=>pos (reach (look h) cq (kids (look h) (upto r)) (upto r)) a 0) args ++ List.replicate (bo E f - args.length) .undef,
   picks (look h) (fun a=>pos (reach (look h) cq (kids (look h) (upto r)) (upto r)) a 0) (reach (look h) cq (kids (look h) (upto r)) (upto r)) 0,(reach (look h) cq (kids (look h) (upto r)) (upto r)).length⟩:=by
 simp only [refS];rw [hC.r f hx];exact level_ref C args h nx hp hn hf hc
theorem clone_ok {E:Env} {X:Nat→Bool} {C:Callee} (hC:Fix E X C) {f k:Nat} (hx:X f=false) (hp:E.primP f=some (iE k)) {α:Type} [Enc α] (hk:k=Enc.size α) (l:List α) :
  C.pureC f [.lit (rows l) fl0]=Option.map (fun r=>.lit (rows r) ⟨true,false⟩) (oq l):=by
 rw [hC.p f hx]
 simp only [level,hp,iE,AU l k hk,df,Bool.true_and,decide_eq_true_eq,oq]
 split <;> rfl
def erC (x:Kp):Option (PV × List (Nat × bq) × Nat):=match x with
 | ([v'],h3,nx3)=>some (v',h3,nx3)
 | _=>none
def erK (r:Nat) (h:List (Nat × bq)) (vs:Option (List PV)):Option (PV × List (Nat × bq) × Nat):=match vs with
 | some vs=>erC (canon (upto r) [pack vs] h)
 | none=>none
theorem Qr {E:Env} (f r:Nat) (tm:List PV) (h:List (Nat × bq)) (nx:Nat) (hE:E.keepE f=none):Cn E f r .ret ⟨tm,h,nx⟩=erK r h (cv E.tab ⟨tm,h,nx⟩ (bg E f)):=by
 simp only [Cn,hE,dx,erK,erC];simp only [or_true,↓reduceIte];cases cv E.tab ⟨tm,h,nx⟩ (bg E f) <;> rfl
theorem aeV {E:Env} (f r:Nat) (tm:List PV) (h:List (Nat × bq)) (nx:Nat) (hE:E.keepE f=none):Cn E f r .normal ⟨tm,h,nx⟩=erK r h (cv E.tab ⟨tm,h,nx⟩ (bg E f)):=by
 simp only [Cn,hE,dx,erK,erC];simp only [true_or,↓reduceIte];cases cv E.tab ⟨tm,h,nx⟩ (bg E f) <;> rfl
theorem aqL (r:Nat) (h:List (Nat × bq)) (vs:List PV):erK r h (some vs)=erC (canK [pack vs] h (reach (look h) cq (kids (look h) (upto r) ++ dz [pack vs]) (upto r))):=rfl
theorem aqM (v:PV) (h:List (Nat × bq)) (nx:Nat):erC ([v],h,nx)=some (v,h,nx):=rfl
theorem ajw (es:List Eff):cO es []=true:=rfl
theorem ajx (es:List Eff) (i j:Nat) (r:List (Nat × Nat)):cO es ((i,j)::r)=(kM (lM es i) (lM es j)&&cO es r):=rfl
theorem apt (v w:PV) (u u':Upd) (f f':List Nat):kM ⟨v,u,f⟩ ⟨w,u',f'⟩=(Ay (dy u) (f' ++ dy u')&&Ay (dy u') (f ++ dy u)):=rfl
theorem dsj (xs ys:List Nat):Ay xs ys=xs.all fun a=>!has ys a:=rfl
theorem ajL (e:Eff) (r:List Eff):lM (e::r) 0=e:=rfl
theorem ajK (e:Eff) (r:List Eff) (n:Nat):lM (e::r) (n+1)=lM r n:=rfl
end Go.Pm
end
section
set_option linter.unusedVariables false
set_option linter.unusedSimpArgs false
namespace Go.Pm
open Go
def nG:List (List PV)→Option (List Int)
 | []=>some []
 | [.int .i64 z]::r=>(nG r).map fun l=>z::l
 | _=>none
def Ke (a:Int):List Int→List Int
 | []=>[a]
 | b::l=>bif decide (a≤b) then a::b::l else b::Ke a l
def yd:List Int→List Int
 | []=>[]
 | a::l=>Ke a (yd l)
theorem rR (a:Int):∀ l,(Ke a l).Perm (a::l)
 | []=>.refl _
 | b::l=>by
  simp only [Ke]
  cases decide (a≤b) with
  | true=>exact .refl _
  | false=>exact ((rR a l).cons b).trans (.swap a b l)
theorem sN (a:Int):∀ l:List Int,l.Pairwise (·≤·)→(Ke a l).Pairwise (·≤·)
 | [],_=>List.pairwise_singleton _ _
 | b::l,h=>by
  rw [List.pairwise_cons] at h
  simp only [Ke]
  by_cases c:a≤b
  ·simp only [c,decide_true,cond_true]
   rw [List.pairwise_cons,List.pairwise_cons]
   exact ⟨fun x hx=>by
    rcases List.mem_cons.1 hx with rfl | hx
    ·exact c
    ·exact Int.le_trans c (h.1 x hx),h⟩
  ·simp only [c,decide_false,cond_false]
   rw [List.pairwise_cons]
   refine ⟨fun x hx=>?_,sN a l h.2⟩
   rcases List.mem_cons.1 ((rR a l).mem_iff.1 hx) with rfl | hx
   ·omega
   ·exact h.1 x hx
theorem pD:∀ l,(yd l).Perm l
 | []=>.refl _
 | a::l=>(rR a (yd l)).trans ((pD l).cons a)
theorem qH:∀ l,(yd l).Pairwise (·≤·)
 | []=>List.Pairwise.nil
 | a::l=>sN a _ (qH l)
theorem uy:∀ {l m:List Int},l.Perm m→l.Pairwise (·≤·)→m.Pairwise (·≤·)→l=m
 | [],m,h,_,_=>(List.nil_perm.1 h).symm
 | a::l,[],h,_,_=>absurd h.length_eq (by simp)
 | a::l,b::m,h,h1,h2=>by
  rw [List.pairwise_cons] at h1 h2
  have e:a=b:=by
   have ha:a∈b::m:=h.mem_iff.1 (List.mem_cons_self ..)
   have hb:b∈a::l:=h.mem_iff.2 (List.mem_cons_self ..)
   rcases List.mem_cons.1 ha with e | ha
   ·exact e
   ·rcases List.mem_cons.1 hb with e | hb
    ·exact e.symm
    ·exact Int.le_antisymm (h1.1 b hb) (h2.1 a ha)
  subst e
  rw [uy (List.perm_cons a |>.1 h) h1.2 h2.2]
theorem OB (l:List Int):yd l=l.mergeSort fun x y=>decide (x≤y):=by
 refine uy ((pD l).trans (List.mergeSort_perm l _).symm) (qH l) ?_
 have:=List.pairwise_mergeSort (le:=fun x y:Int=>decide (x≤y)) (fun a b c h1 h2=>by simp at *;omega) (fun a b=>by simp;omega) l
 exact this.imp fun h=>by simpa using h
def AP (l:List Int):Option (List Int):=if l.length≤bound then some (yd l) else none
theorem AO (l:List Int):AP l=if l.length≤bound then some (l.mergeSort fun x y=>decide (x≤y)) else none:=by rw [← OB];rfl
def sD:List PV→List (Nat × bq)→Nat→Option (PV × List (Nat × bq) × Nat)
 | [.own a k off n],[(a0,.arr k1 xs fl fz)],nx=>
  if a=0∧k=1∧off=0∧a0=0∧k1=1∧fl=false∧fz=false∧nx=1∧n=xs.length then
   (nG xs).bind fun zs=>(AP zs).map fun r=>(.tup [],[(0,.arr 1 (rows r) false false)],1)
  else none
 | _,_,_=>none
theorem BT (l:List Int):nG (rows l)=some l:=by
 induction l with
 | nil=>rfl
 | cons a l ih=>
  show nG (Enc.cells a::rows l)=_
  rw [cc]
  simp only [nG,ih,Option.map_some]
theorem DQ:∀ (xs:List (List PV)) {l:List Int},nG xs=some l→xs=rows l:=by
 intro xs
 induction xs with
 | nil=>intro l h;simp [nG] at h;subst h;rfl
 | cons x r ih=>
  intro l h
  unfold nG at h
  split at h
  ·simp at *
  ·rename_i z r' e
   simp only [List.cons.injEq] at e
   obtain ⟨rfl,rfl⟩:=e
   simp only [Option.map_eq_some_iff] at h
   obtain ⟨m,h1,rfl⟩:=h
   rw [ih h1];rfl
  ·simp at h
theorem sort_ok {E:Env} {X:Nat→Bool} {C:Callee} (hC:Fix E X C) {f:Nat} (hx:X f=false) (hp:E.primR f=some sD) (l:List Int) (n:Nat) (hn:n=l.length) :
  refS C f 1 ⟨[.own 0 1 0 n],[(0,.arr 1 (rows l) false false)],1⟩=Option.map (fun r=>(.tup [],[(0,.arr 1 (rows (fit l r)) false false)],1)) (AP l):=by
 subst hn
 simp only [refS]
 rw [hC.r f hx]
 simp only [level,hp,sD,df,and_self,↓reduceIte,BT,Option.bind_some]
 unfold AP
 split
 ·simp only [Option.map_some]
  rw [Pu (pD l).length_eq]
 ·rfl
end Go.Pm
end
