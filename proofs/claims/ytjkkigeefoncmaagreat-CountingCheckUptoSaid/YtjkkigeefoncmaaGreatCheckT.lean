/-
  CountingCheck: for every input of bulk at most 1048576 the call returns true, and each argument reads afterwards as it read before: counting.Check gives what the document's Check gives, for whatever types, rules and stages.
-/
import Derived.Test.YtjkkigeefoncmaaGreatCheckL
import Derived.Test.YtjkkigeefoncmaaGreatCheckQ
import Derived.Test.YtjkkigeefoncmaaGreatCheckR
import Derived.Test.YtjkkigeefoncmaaGreatCheckS
import Derived.Test.YtjkkigeefoncmaaGreatRows
set_option linter.all false
namespace Go.S
open Go Go.Pm Go.Proofs Go.ChangeShapes Go.WideShapes Go.ChangeAt Go.RowKit
open Go.Proofs.YtjkkigeefoncmaaGreat
theorem QR {H:Type} (d:DataW H):1≤Rows.uptoBulk d:=by
 cases d with
 | lit l=>cases l <;> simp [Rows.uptoBulk]
 | _=>simp [Rows.uptoBulk]
theorem lu {H:Type} {d:DataW H} {l:List (DataW H)} (h:d∈l):Rows.uptoBulk d≤Rows.uptoBulkAll l:=by
 induction l with
 | nil=>cases h
 | cons x r ih=>
  simp only [Rows.uptoBulkAll]
  cases List.mem_cons.1 h with
  | inl e=>subst e;omega
  | inr e=>have:=ih e;omega
theorem QS {H:Type} (l:List (DataW H)):l.length≤Rows.uptoBulkAll l:=by
 induction l with
 | nil=>simp [Rows.uptoBulkAll]
 | cons x r ih=>have:=QR x;simp only [Rows.uptoBulkAll,List.length_cons];omega
theorem AA {H:Type}:fp (Rows.uptoBulk (H:=H)) where
 str:=fun b=>by simp [Rows.uptoBulk]
 elems:=fun es sp d h=>by have:=lu h;simp only [Rows.uptoBulk];omega
 len:=fun es sp=>by have:=QS es;simp only [Rows.uptoBulk];omega
 parts:=fun ps d h=>by have:=lu h;simp only [Rows.uptoBulk];omega
theorem own:ownKnob Tryz.prog.godebug=none:=by kernel_rfl
theorem laidOut:laidOutB Tryz.prog=true:=by kernel_rfl
theorem aqJ (t:Types) (l:List bJ) (s:List bW) (ht:bG.ok 1048576 t) (hl:bG.ok 1048576 l) (hs:bG.ok 1048576 s) :
  (lim E).pureC 3 [.agg (Enc.cells t),.lit (rows l) fl0,.lit (rows s) fl0]=some (.bool true):=by
 obtain ⟨R,C,hC,hR,hle,h148,h101,h93,h6,h99,h144,h169,h170,h214,h233,h234,m7⟩:=Sw
 refine hle.p ?_
 have:=aqF ⟨hC,hR⟩ t.Nodes t.Edges l s
 rw [law3 ⟨h148,h101,h93,h233,h169,h234,h170,h214,h144⟩ m7 h99 h6 _ _ _ ht hl hs] at this
 exact this
theorem Dm:∀ t∈Tryz.f3.params.toList,Tryz.prog.readableRec t=true∧t<Tryz.prog.types.size:=by
 rw [Tryz.params3]
 exact List.forall_mem_cons.2 ⟨⟨by kernel_rfl,of_decide_eq_true (by kernel_rfl)⟩,List.forall_mem_cons.2 ⟨⟨by kernel_rfl,of_decide_eq_true (by kernel_rfl)⟩,List.forall_mem_cons.2 ⟨⟨by kernel_rfl,of_decide_eq_true (by kernel_rfl)⟩,fun _ h=>by cases h⟩⟩⟩
set_option maxRecDepth 100000 in
theorem Ls (H:Type) (enc:TypeId × Value→H) (W:World) (base:Nat) (args:Array Value) (ds gs:List (DataW H)) (before:List MemPlace)
  (hval:∀ (j:Nat) t v,Tryz.f3.params[j]?=some t→args[j]?=some v→Value.okWide Tryz.prog W .any base t v)
  (hW:DataW.Whole enc Tryz.prog Tryz.f3.params.toList Rows.countingCheckSpec.vars false W args.toList ds gs before) (hk:Rows.uptoSmall H (ds ++ gs)=true) :
  Calls Tryz.prog 3 args W fun e W'=>∃ v,e=.returned v∧Rows.countingCheckSpec.post enc Tryz.prog Tryz.f3 false true false false W args v W':=by
 have hW':=hW
 obtain ⟨p,q,hA0,hV,rfl,hfz,hnd⟩:=hW
 have hA:DataW.TrodAll enc Tryz.prog W 0 (fun _=>true) true Tryz.f3.params.toList args.toList ds p:=hA0
 rw [Tryz.params3] at hA hval
 obtain ⟨v0,vs0,d0,ds0,p0,q0,e0,rfl,rfl,h0,r0⟩:=trodAll_cons hA
 obtain ⟨v1,vs1,d1,ds1,p1,q1,rfl,rfl,rfl,h1,r1⟩:=trodAll_cons r0
 obtain ⟨v2,vs2,d2,ds2,p2,q2,rfl,rfl,rfl,h2,r2⟩:=trodAll_cons r1
 obtain ⟨rfl,rfl,rfl⟩:=trodAll_nil r2
 obtain rfl:args=#[v0,v1,v2]:=by rw [← Array.toList_inj];exact e0
 have hbd:Rows.uptoBulkAll ([d0,d1,d2] ++ gs)≤1048576:=of_decide_eq_true hk
 have b0:Rows.uptoBulk d0≤1048576:=Nat.le_trans (lu (by simp)) hbd
 have b1:Rows.uptoBulk d1≤1048576:=Nat.le_trans (lu (by simp)) hbd
 have b2:Rows.uptoBulk d2≤1048576:=Nat.le_trans (lu (by simp)) hbd
 obtain ⟨t,k0,w0⟩:=VW (ra25 AA) Tryz.underlying25 (hval 0 _ v0 rfl rfl) h0 b0
 obtain ⟨s,k1,w1⟩:=yt (ra26 AA) Tryz.underlying26 (hval 1 _ v1 rfl rfl) h1 b1
 obtain ⟨g,k2,w2⟩:=yt (ra27 AA) Tryz.underlying27 (hval 2 _ v2 rfl rfl) h2 b2
 refine (J4 E_ok (aqJ t s g k0 k1 k2) (args:=#[v0,v1,v2]) (Vs.cons w0 (Vs.cons w1 (Vs.cons w2 Vs.nil)))).mono fun e W' ⟨he,hb⟩=>?_
 obtain ⟨rfl,rfl⟩:=trodVars_none hV
 exact ⟨_,he,N9 laidOut (by kernel_rfl) Tryz.underlying4 Dm rfl hW' rfl hb⟩
set_option maxRecDepth 100000 in
theorem S8 (os:Os) (started:os.Started) (H:Type) (enc:TypeId × Value→H) (F:Stop.Interp) :
  ReturnsInHanded {} Tryz.checked os 3 .any ((Rows.OpenSpec.upto Rows.countingCheckSpec).pre6 enc Tryz.prog Tryz.f3 Rows.countingCheckUptoRow.domain false) (((Rows.OpenSpec.upto Rows.countingCheckSpec).at F).post enc Tryz.prog Tryz.f3 false true false false):=by
 refine returnsInHanded_of_cond (C:=Tryz.checked) (s:=Rows.OpenSpec.upto Rows.countingCheckSpec) (k:=Rows.uptoSmall) rfl own started (by kernel_rfl) Tryz.func3
  (OpenSpec.witness (enc:=enc) (C:=Tryz.checked) (s:=Rows.OpenSpec.upto Rows.countingCheckSpec) (k:=Rows.uptoSmall) rfl false ⟨#[],#[.agg #[.slice none 0 0,.slice none 0 0],.slice none 0 0,.slice none 0 0],[]⟩ 8 (by kernel_rfl) (by kernel_rfl) (by kernel_rfl)
   (x:=([.agg [.nil,.nil],.nil,.nil],[],[])) (by kernel_rfl) rfl (by kernel_rfl)) ?_
 intro W base args ds gs before hval hW _ hk _
 exact Ls H enc W base args ds gs before hval hW hk
end Go.S
namespace Go.Proofs.YtjkkigeefoncmaaGreat
open Go Go.S Go.ChangeShapes Go.WideShapes Go.ChangeAt Go.RowKit
theorem countingCheckUpto_holds:Rows.CountingCheckUptoSaid:=
 OpenClaim.holds_of_cond 3 Tryz.f3 rfl rfl rfl rfl rfl rfl rfl ⟨rfl,rfl,rfl,rfl,rfl⟩ rfl rfl rfl rfl rfl (by kernel_rfl) Tryz.func3 (by kernel_rfl)
  (of_decide_eq_true (by kernel_rfl)) (by unfold Func.isWrapper;first | (rw [if_pos (by decide +kernel)];kernel_rfl) | (rw [if_neg (by decide +kernel)];exact ⟨rfl,rfl⟩))
  (fun os started H enc _ F=>S8 os started H enc F)
end Go.Proofs.YtjkkigeefoncmaaGreat
