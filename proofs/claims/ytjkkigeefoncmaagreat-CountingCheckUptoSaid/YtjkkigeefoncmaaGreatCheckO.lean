import Derived.Test.YtjkkigeefoncmaaGreatCheckM
import Derived.Laws.AppendOwn
set_option linter.all false
set_option linter.unusedVariables false
set_option linter.unusedSimpArgs false
namespace Go.Pm
open Go Go.Lib Go.RowKit
section
variable {P:Program}
def bare (E:Env):Env:={E with primP:=fun _=>none,primR:=fun _=>none}
theorem VU {E:Env} (ht:du P E.tab) (hc:∀ f fn,E.code f=some fn→P.funcs[f]?=some fn∧(fn.name == "runtime.NumGoroutine")=false∧∀ c,fn.body=some c→fZ (E.pairs f) c=true):rr P (bare E):=
 ⟨ht,hc,fun f p h=>by simp [bare] at h,fun f p h=>by simp [bare] at h⟩
theorem yq {w w':World} (h:Below w.heap.size w w'):Ext (fun _=>False) w w':=
 ⟨h.os,h.tape,h.output,h.size,fun k hk _=>h.block k hk,fun b n hr=>by
  obtain ⟨c,e,h1,h2⟩:=hr
  have hb:b<w.heap.size:=by
   rcases Nat.lt_or_ge b w.heap.size with h' | h'
   ·exact h'
   ·simp [Array.getElem?_eq_none h'] at h1
  exact ⟨c,e,by rw [h.block b hb];exact h1,h2⟩⟩
theorem mL {E:Env} {f k:Nat} {e:TypeId} (hE:rr P (bare E)) (hcall:Callable P f) (hres:E.resK f=[some k])
  (hne:∀ xs fl,xs≠[]→(xs.all (fun x=>x.length == k))=true→xs.length≤bound→(level (bare E) (run (bare E) 0)).pureC f [.lit xs fl]=some (.lit xs ⟨true,false⟩))
  (hnil:∀ n c w,Calls P f #[.slice none n c] w fun e w'=>e=.returned (.slice none 0 0)∧w'=w)
  (hzero:∀ a c w,Calls P f #[.slice (some a) 0 c] w fun en w'=>∃ v',en=.returned v'∧w'.ownsRow w.heap.size e k v' 0 []∧Below w.heap.size w w'):iC P E.resK f (iE k):=by
 refine ⟨fun _ _ _=>hcall,fun a5 r h w B vs hB hv=>?_⟩
 unfold iE at h
 split at h
 ·rename_i xs fl
  split at h
  ·rename_i hg
   simp only [Bool.and_eq_true,decide_eq_true_eq] at hg
   simp at h;subst h
   cases xs with
   | cons x r=>
    have hr:=hne (x::r) fl (by simp) hg.1 hg.2
    have:=(yF hE 1).pur.calls f _ _ (show (run (bare E) 1).pureC f _=_ from hr) w B vs hB hv
    refine Calls.mono this ?_
    rintro en w' ⟨v,rfl,h1,Bc,bs,h2,h3,h4,h5,h6⟩
    refine ⟨v,rfl,h1,Bc,bs,h2,h3,h4,h5,?_⟩
    have hres':(bare E).resK f=[some k]:=hres
    rw [hres'] at h6
    rw [hres];exact h6
   | nil=>
    obtain ⟨v,vs',hvs,h1,h2⟩:=hv.cN
    have adB:=h2.of_nil
    subst adB
    have adA:vs=#[v]:=by rw [← Array.toList_inj];exact hvs
    subst adA
    obtain ⟨b,cap,rfl⟩:∃ b cap,v=.slice b 0 cap:=by
     cases h1 with
     | lQ _ b cap=>exact ⟨b,cap,rfl⟩
     | lit=>exact ⟨_,_,rfl⟩
    cases b with
    | none=>
     refine Calls.mono (hnil 0 cap w) ?_
     rintro en w' ⟨rfl,rfl⟩
     refine ⟨_,rfl,.refl _ _,B,[],fun b h=>h,fun b h=>.inl h,hB,(fun b h=>by cases h),?_⟩
     rw [hres]
     exact .one _ _ _ _ _ (fun cs h=>by cases h) (.one _ _ _ _ (fun cs h=>by cases h) (.sB k false none))
    | some a=>
     refine Calls.mono (hzero a cap w) ?_
     rintro en w' ⟨v',rfl,h3,h4⟩
     rcases h3.2 with ⟨rfl,_⟩ | ⟨g,cap',cur,rfl,hg1,hg2,hg3,hg4,hg5,hg6⟩
     ·refine ⟨_,rfl,yq h4,B,[],fun b h=>h,fun b h=>.inl h,fun b h=>Nat.lt_of_lt_of_le (hB b h) h4.size,(fun b h=>by cases h),?_⟩
      rw [hres]
      exact .one _ _ _ _ _ (fun cs h=>by cases h) (.one _ _ _ _ (fun cs h=>by cases h) (.sB k false none))
     ·refine ⟨_,rfl,yq h4,B,[g],fun b h=>h,fun b h=>.inl h,fun b h=>Nat.lt_of_lt_of_le (hB b h) h4.size,(fun b h hb=>?_),?_⟩
      ·simp at h;subst h
       exact absurd (hB b hb) (Nat.not_lt.2 hg1)
      ·rw [hres]
       refine .one _ _ _ _ _ (fun cs h=>by cases h) (.one _ _ _ _ (fun cs h=>by cases h) ?_)
       exact .uniq k [] false g 0 cap' cur e hg2 (fun i x j c h=>by simp at h) (fun h=>by cases h) (fun x h=>by cases h) (Nat.zero_le _) ⟨cur,e,hg2,by omega⟩ hg1
  ·simp at h
 ·simp at h
end
end Go.Pm
namespace Go.Pm
open Go
theorem JT {P:Program} {resK:Nat→List (Option Nat)} {f:Nat}:iC P resK f Bz:=⟨fun _ _ h=>by simp [Bz] at h,fun _ _ h=>by simp [Bz] at h⟩
theorem DR {P:Program} {resK:Nat→List (Option Nat)} {f:Nat} (hcall:Callable P f)
  (h:∀ (s:ByteArray) (c:Int) (w:World),Calls P f #[.string s,.int .u8 c] w fun e w'=>e=.returned (.int .i64 (Lib.indexByte s.data.toList c.toNat.toUInt8))∧w'=w):iC P resK f lS:=by
 refine ⟨fun _ _ _=>hcall,fun a5 r hr w B vs hB hv=>?_⟩
 unfold lS at hr
 split at hr
 ·rename_i s c
  simp at hr;subst hr
  obtain ⟨v,vs',hvs,h1,h2⟩:=hv.cN
  obtain ⟨u,vs2,rfl,h3,h4⟩:=h2.cN
  have:=h4.of_nil;subst this
  have adA:vs=#[v,u]:=by rw [← Array.toList_inj];exact hvs
  subst adA
  cases h1;cases h3
  refine Calls.mono (h s c w) ?_
  rintro en w' ⟨rfl,rfl⟩
  refine ⟨_,rfl,.refl _ _,B,[],fun b h=>h,fun b h=>.inl h,hB,(fun b h=>by cases h),?_⟩
  exact .one _ _ _ _ _ (fun cs h=>by cases h) (.one _ _ _ _ (fun cs h=>by cases h) (.data _ _ _ (.int _ _) fun xs fl h=>by cases h))
 ·simp at hr
end Go.Pm
