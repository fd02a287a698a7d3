import Derived.Test.YtjkkigeefoncmaaGreatCheckC
import Derived.Test.YtjkkigeefoncmaaGreatCheckD
import Derived.Test.YtjkkigeefoncmaaGreatCheckJ
import Derived.Test.YtjkkigeefoncmaaGreatCheckQ
import Derived.KernelRfl
set_option linter.all false
section
set_option linter.all false
namespace Go.S
open Go Go.Pm Go.Proofs
theorem cz9:Tryz.prog.cellsOf 9=1:=by kernel_rfl
theorem cz3:Tryz.prog.cellsOf 3=1:=by kernel_rfl
theorem cz4:Tryz.prog.cellsOf 4=1:=by kernel_rfl
theorem cz68:Tryz.prog.cellsOf 68=1:=by kernel_rfl
theorem cz65:Tryz.prog.cellsOf 65=1:=by kernel_rfl
theorem cz22:Tryz.prog.cellsOf 22=1:=by kernel_rfl
theorem cz23:Tryz.prog.cellsOf 23=1:=by kernel_rfl
theorem FF:Tryz.prog.cellsOf 31=1:=by kernel_rfl
theorem cz37:Tryz.prog.cellsOf 37=1:=by kernel_rfl
theorem cz39:Tryz.prog.cellsOf 39=2:=by kernel_rfl
theorem Qu:Tryz.prog.cellsOf 173=2:=by kernel_rfl
theorem cz88:Tryz.prog.cellsOf 88=1:=by kernel_rfl
theorem cz89:Tryz.prog.cellsOf 89=1:=by kernel_rfl
theorem ae0:Tryz.prog.cellsOf 91=5:=by kernel_rfl
theorem cz94:Tryz.prog.cellsOf 94=2:=by kernel_rfl
theorem aqU:Tryz.prog.cellsOf 87=2:=by kernel_rfl
theorem Vg:Tryz.prog.cellsOf 93=9:=by kernel_rfl
theorem cz85:Tryz.prog.cellsOf 85=1:=by kernel_rfl
theorem ra9 {H:Type} {enc:TypeId × Value→H} {bE:DataW H→Nat} {w:World} (hbk:fp bE):ch Tryz.prog enc bE w 9 ByteArray:=JO hbk Tryz.underlying9 (by kernel_rfl)
theorem ra3 {H:Type} {enc:TypeId × Value→H} {bE:DataW H→Nat} {w:World} (hbk:fp bE):ch Tryz.prog enc bE w 3 Int:=JP Tryz.underlying3 (by kernel_rfl)
theorem ra4 {H:Type} {enc:TypeId × Value→H} {bE:DataW H→Nat} {w:World} (hbk:fp bE):ch Tryz.prog enc bE w 4 Bool:=Di Tryz.underlying4 (by kernel_rfl)
theorem ra68 {H:Type} {enc:TypeId × Value→H} {bE:DataW H→Nat} {w:World} (hbk:fp bE):ch Tryz.prog enc bE w 68 (List ByteArray):=ef hbk Tryz.underlying68 (by kernel_rfl) (by decide) (ra9 hbk)
instance:bG Attr:=⟨fun N x=>bG.ok N x.Name∧bG.ok N x.Low∧bG.ok N x.High∧bG.ok N x.Names⟩
theorem ra70 {H:Type} {enc:TypeId × Value→H} {bE:DataW H→Nat} {w:World} (hbk:fp bE):ch Tryz.prog enc bE w 70 Attr:=by
 refine ⟨by kernel_rfl,fun N fuel cs d ps h hb=>?_⟩
 obtain ⟨hl,hp⟩:=cy hbk Tryz.underlying70 h hb
 obtain ⟨n0,d0,p0,h0,b0⟩:∃ n d q,DataW.trod enc Tryz.prog w 0 (fun _=>true) true n 9 ((cs.drop 0).take (Tryz.prog.cellsOf 9))=some (d,q)∧bE d≤N:=hp 0 _ rfl
 rw [cz9] at h0
 obtain ⟨a0,k0,l0,o0,v0⟩:=(ra9 hbk).read N n0 _ d0 p0 h0 b0
 obtain ⟨n1,d1,p1,h1,b1⟩:∃ n d q,DataW.trod enc Tryz.prog w 0 (fun _=>true) true n 3 ((cs.drop 1).take (Tryz.prog.cellsOf 3))=some (d,q)∧bE d≤N:=hp 1 _ rfl
 rw [cz3] at h1
 obtain ⟨a1,k1,l1,o1,v1⟩:=(ra3 hbk).read N n1 _ d1 p1 h1 b1
 obtain ⟨n2,d2,p2,h2,b2⟩:∃ n d q,DataW.trod enc Tryz.prog w 0 (fun _=>true) true n 3 ((cs.drop 2).take (Tryz.prog.cellsOf 3))=some (d,q)∧bE d≤N:=hp 2 _ rfl
 rw [cz3] at h2
 obtain ⟨a2,k2,l2,o2,v2⟩:=(ra3 hbk).read N n2 _ d2 p2 h2 b2
 obtain ⟨n3,d3,p3,h3,b3⟩:∃ n d q,DataW.trod enc Tryz.prog w 0 (fun _=>true) true n 68 ((cs.drop 3).take (Tryz.prog.cellsOf 68))=some (d,q)∧bE d≤N:=hp 3 _ rfl
 rw [cz68] at h3
 obtain ⟨a3,k3,l3,o3,v3⟩:=(ra68 hbk).read N n3 _ d3 p3 h3 b3
 have e:cs.length=4:=hl.trans (by kernel_rfl)
 exact ⟨⟨a0,a1,a2,a3⟩,⟨k0,k1,k2,k3⟩,e,(bH (o:=0) (s:=1) (e:=1) rfl o0 (bH (o:=1) (s:=1) (e:=2) rfl o1 (bH (o:=2) (s:=1) (e:=3) rfl o2 (bH (o:=3) (s:=1) (e:=4) rfl o3 (dM e))))),(bT (o:=0) (s:=1) (e:=1) rfl v0 (bT (o:=1) (s:=1) (e:=2) rfl v1 (bT (o:=2) (s:=1) (e:=3) rfl v2 (bT (o:=3) (s:=1) (e:=4) rfl v3 (eG e)))))⟩
theorem ra65 {H:Type} {enc:TypeId × Value→H} {bE:DataW H→Nat} {w:World} (hbk:fp bE):ch Tryz.prog enc bE w 65 (List Attr):=ef hbk Tryz.underlying65 (by kernel_rfl) (by decide) (ra70 hbk)
instance:bG aE:=⟨fun N x=>bG.ok N x.Name∧bG.ok N x.Parent∧bG.ok N x.Abstract∧bG.ok N x.Attrs⟩
theorem ra67 {H:Type} {enc:TypeId × Value→H} {bE:DataW H→Nat} {w:World} (hbk:fp bE):ch Tryz.prog enc bE w 67 aE:=by
 refine ⟨by kernel_rfl,fun N fuel cs d ps h hb=>?_⟩
 obtain ⟨hl,hp⟩:=cy hbk Tryz.underlying67 h hb
 obtain ⟨n0,d0,p0,h0,b0⟩:∃ n d q,DataW.trod enc Tryz.prog w 0 (fun _=>true) true n 9 ((cs.drop 0).take (Tryz.prog.cellsOf 9))=some (d,q)∧bE d≤N:=hp 0 _ rfl
 rw [cz9] at h0
 obtain ⟨a0,k0,l0,o0,v0⟩:=(ra9 hbk).read N n0 _ d0 p0 h0 b0
 obtain ⟨n1,d1,p1,h1,b1⟩:∃ n d q,DataW.trod enc Tryz.prog w 0 (fun _=>true) true n 3 ((cs.drop 1).take (Tryz.prog.cellsOf 3))=some (d,q)∧bE d≤N:=hp 1 _ rfl
 rw [cz3] at h1
 obtain ⟨a1,k1,l1,o1,v1⟩:=(ra3 hbk).read N n1 _ d1 p1 h1 b1
 obtain ⟨n2,d2,p2,h2,b2⟩:∃ n d q,DataW.trod enc Tryz.prog w 0 (fun _=>true) true n 4 ((cs.drop 2).take (Tryz.prog.cellsOf 4))=some (d,q)∧bE d≤N:=hp 2 _ rfl
 rw [cz4] at h2
 obtain ⟨a2,k2,l2,o2,v2⟩:=(ra4 hbk).read N n2 _ d2 p2 h2 b2
 obtain ⟨n3,d3,p3,h3,b3⟩:∃ n d q,DataW.trod enc Tryz.prog w 0 (fun _=>true) true n 65 ((cs.drop 3).take (Tryz.prog.cellsOf 65))=some (d,q)∧bE d≤N:=hp 3 _ rfl
 rw [cz65] at h3
 obtain ⟨a3,k3,l3,o3,v3⟩:=(ra65 hbk).read N n3 _ d3 p3 h3 b3
 have e:cs.length=4:=hl.trans (by kernel_rfl)
 exact ⟨⟨a0,a1,a2,a3⟩,⟨k0,k1,k2,k3⟩,e,(bH (o:=0) (s:=1) (e:=1) rfl o0 (bH (o:=1) (s:=1) (e:=2) rfl o1 (bH (o:=2) (s:=1) (e:=3) rfl o2 (bH (o:=3) (s:=1) (e:=4) rfl o3 (dM e))))),(bT (o:=0) (s:=1) (e:=1) rfl v0 (bT (o:=1) (s:=1) (e:=2) rfl v1 (bT (o:=2) (s:=1) (e:=3) rfl v2 (bT (o:=3) (s:=1) (e:=4) rfl v3 (eG e)))))⟩
theorem ra22 {H:Type} {enc:TypeId × Value→H} {bE:DataW H→Nat} {w:World} (hbk:fp bE):ch Tryz.prog enc bE w 22 (List aE):=ef hbk Tryz.underlying22 (by kernel_rfl) (by decide) (ra67 hbk)
instance:bG aG:=⟨fun N x=>bG.ok N x.Name∧bG.ok N x.From∧bG.ok N x.To∧bG.ok N x.OutLow∧bG.ok N x.OutHigh∧bG.ok N x.InLow∧bG.ok N x.InHigh⟩
theorem ra72 {H:Type} {enc:TypeId × Value→H} {bE:DataW H→Nat} {w:World} (hbk:fp bE):ch Tryz.prog enc bE w 72 aG:=by
 refine ⟨by kernel_rfl,fun N fuel cs d ps h hb=>?_⟩
 obtain ⟨hl,hp⟩:=cy hbk Tryz.underlying72 h hb
 obtain ⟨n0,d0,p0,h0,b0⟩:∃ n d q,DataW.trod enc Tryz.prog w 0 (fun _=>true) true n 9 ((cs.drop 0).take (Tryz.prog.cellsOf 9))=some (d,q)∧bE d≤N:=hp 0 _ rfl
 rw [cz9] at h0
 obtain ⟨a0,k0,l0,o0,v0⟩:=(ra9 hbk).read N n0 _ d0 p0 h0 b0
 obtain ⟨n1,d1,p1,h1,b1⟩:∃ n d q,DataW.trod enc Tryz.prog w 0 (fun _=>true) true n 3 ((cs.drop 1).take (Tryz.prog.cellsOf 3))=some (d,q)∧bE d≤N:=hp 1 _ rfl
 rw [cz3] at h1
 obtain ⟨a1,k1,l1,o1,v1⟩:=(ra3 hbk).read N n1 _ d1 p1 h1 b1
 obtain ⟨n2,d2,p2,h2,b2⟩:∃ n d q,DataW.trod enc Tryz.prog w 0 (fun _=>true) true n 3 ((cs.drop 2).take (Tryz.prog.cellsOf 3))=some (d,q)∧bE d≤N:=hp 2 _ rfl
 rw [cz3] at h2
 obtain ⟨a2,k2,l2,o2,v2⟩:=(ra3 hbk).read N n2 _ d2 p2 h2 b2
 obtain ⟨n3,d3,p3,h3,b3⟩:∃ n d q,DataW.trod enc Tryz.prog w 0 (fun _=>true) true n 3 ((cs.drop 3).take (Tryz.prog.cellsOf 3))=some (d,q)∧bE d≤N:=hp 3 _ rfl
 rw [cz3] at h3
 obtain ⟨a3,k3,l3,o3,v3⟩:=(ra3 hbk).read N n3 _ d3 p3 h3 b3
 obtain ⟨n4,d4,p4,h4,b4⟩:∃ n d q,DataW.trod enc Tryz.prog w 0 (fun _=>true) true n 3 ((cs.drop 4).take (Tryz.prog.cellsOf 3))=some (d,q)∧bE d≤N:=hp 4 _ rfl
 rw [cz3] at h4
 obtain ⟨a4,k4,l4,o4,v4⟩:=(ra3 hbk).read N n4 _ d4 p4 h4 b4
 obtain ⟨n5,d5,p5,h5,b5⟩:∃ n d q,DataW.trod enc Tryz.prog w 0 (fun _=>true) true n 3 ((cs.drop 5).take (Tryz.prog.cellsOf 3))=some (d,q)∧bE d≤N:=hp 5 _ rfl
 rw [cz3] at h5
 obtain ⟨a5,k5,l5,o5,v5⟩:=(ra3 hbk).read N n5 _ d5 p5 h5 b5
 obtain ⟨n6,d6,p6,h6,b6⟩:∃ n d q,DataW.trod enc Tryz.prog w 0 (fun _=>true) true n 3 ((cs.drop 6).take (Tryz.prog.cellsOf 3))=some (d,q)∧bE d≤N:=hp 6 _ rfl
 rw [cz3] at h6
 obtain ⟨a6,k6,l6,o6,v6⟩:=(ra3 hbk).read N n6 _ d6 p6 h6 b6
 have e:cs.length=7:=hl.trans (by kernel_rfl)
 exact ⟨⟨a0,a1,a2,a3,a4,a5,a6⟩,⟨k0,k1,k2,k3,k4,k5,k6⟩,e,(bH (o:=0) (s:=1) (e:=1) rfl o0 (bH (o:=1) (s:=1) (e:=2) rfl o1 (bH (o:=2) (s:=1) (e:=3) rfl o2 (bH (o:=3) (s:=1) (e:=4) rfl o3 (bH (o:=4) (s:=1) (e:=5) rfl o4 (bH (o:=5) (s:=1) (e:=6) rfl o5 (bH (o:=6) (s:=1) (e:=7) rfl o6 (dM e)))))))),(bT (o:=0) (s:=1) (e:=1) rfl v0 (bT (o:=1) (s:=1) (e:=2) rfl v1 (bT (o:=2) (s:=1) (e:=3) rfl v2 (bT (o:=3) (s:=1) (e:=4) rfl v3 (bT (o:=4) (s:=1) (e:=5) rfl v4 (bT (o:=5) (s:=1) (e:=6) rfl v5 (bT (o:=6) (s:=1) (e:=7) rfl v6 (eG e))))))))⟩
theorem ra23 {H:Type} {enc:TypeId × Value→H} {bE:DataW H→Nat} {w:World} (hbk:fp bE):ch Tryz.prog enc bE w 23 (List aG):=ef hbk Tryz.underlying23 (by kernel_rfl) (by decide) (ra72 hbk)
instance:bG Types:=⟨fun N x=>bG.ok N x.Nodes∧bG.ok N x.Edges⟩
theorem ra25 {H:Type} {enc:TypeId × Value→H} {bE:DataW H→Nat} {w:World} (hbk:fp bE):ch Tryz.prog enc bE w 25 Types:=by
 refine ⟨by kernel_rfl,fun N fuel cs d ps h hb=>?_⟩
 obtain ⟨hl,hp⟩:=cy hbk Tryz.underlying25 h hb
 obtain ⟨n0,d0,p0,h0,b0⟩:∃ n d q,DataW.trod enc Tryz.prog w 0 (fun _=>true) true n 22 ((cs.drop 0).take (Tryz.prog.cellsOf 22))=some (d,q)∧bE d≤N:=hp 0 _ rfl
 rw [cz22] at h0
 obtain ⟨a0,k0,l0,o0,v0⟩:=(ra22 hbk).read N n0 _ d0 p0 h0 b0
 obtain ⟨n1,d1,p1,h1,b1⟩:∃ n d q,DataW.trod enc Tryz.prog w 0 (fun _=>true) true n 23 ((cs.drop 1).take (Tryz.prog.cellsOf 23))=some (d,q)∧bE d≤N:=hp 1 _ rfl
 rw [cz23] at h1
 obtain ⟨a1,k1,l1,o1,v1⟩:=(ra23 hbk).read N n1 _ d1 p1 h1 b1
 have e:cs.length=2:=hl.trans (by kernel_rfl)
 exact ⟨⟨a0,a1⟩,⟨k0,k1⟩,e,(bH (o:=0) (s:=1) (e:=1) rfl o0 (bH (o:=1) (s:=1) (e:=2) rfl o1 (dM e))),(bT (o:=0) (s:=1) (e:=1) rfl v0 (bT (o:=1) (s:=1) (e:=2) rfl v1 (eG e)))⟩
theorem ra31 {H:Type} {enc:TypeId × Value→H} {bE:DataW H→Nat} {w:World} (hbk:fp bE):ch Tryz.prog enc bE w 31 (List Int):=ef hbk Tryz.underlying31 (by kernel_rfl) (by decide) (ra3 hbk)
instance:bG Edge:=⟨fun N x=>bG.ok N x.Type_∧bG.ok N x.From∧bG.ok N x.To⟩
theorem ra111 {H:Type} {enc:TypeId × Value→H} {bE:DataW H→Nat} {w:World} (hbk:fp bE):ch Tryz.prog enc bE w 111 Edge:=by
 refine ⟨by kernel_rfl,fun N fuel cs d ps h hb=>?_⟩
 obtain ⟨hl,hp⟩:=cy hbk Tryz.underlying111 h hb
 obtain ⟨n0,d0,p0,h0,b0⟩:∃ n d q,DataW.trod enc Tryz.prog w 0 (fun _=>true) true n 3 ((cs.drop 0).take (Tryz.prog.cellsOf 3))=some (d,q)∧bE d≤N:=hp 0 _ rfl
 rw [cz3] at h0
 obtain ⟨a0,k0,l0,o0,v0⟩:=(ra3 hbk).read N n0 _ d0 p0 h0 b0
 obtain ⟨n1,d1,p1,h1,b1⟩:∃ n d q,DataW.trod enc Tryz.prog w 0 (fun _=>true) true n 3 ((cs.drop 1).take (Tryz.prog.cellsOf 3))=some (d,q)∧bE d≤N:=hp 1 _ rfl
 rw [cz3] at h1
 obtain ⟨a1,k1,l1,o1,v1⟩:=(ra3 hbk).read N n1 _ d1 p1 h1 b1
 obtain ⟨n2,d2,p2,h2,b2⟩:∃ n d q,DataW.trod enc Tryz.prog w 0 (fun _=>true) true n 3 ((cs.drop 2).take (Tryz.prog.cellsOf 3))=some (d,q)∧bE d≤N:=hp 2 _ rfl
 rw [cz3] at h2
 obtain ⟨a2,k2,l2,o2,v2⟩:=(ra3 hbk).read N n2 _ d2 p2 h2 b2
 have e:cs.length=3:=hl.trans (by kernel_rfl)
 exact ⟨⟨a0,a1,a2⟩,⟨k0,k1,k2⟩,e,(bH (o:=0) (s:=1) (e:=1) rfl o0 (bH (o:=1) (s:=1) (e:=2) rfl o1 (bH (o:=2) (s:=1) (e:=3) rfl o2 (dM e)))),(bT (o:=0) (s:=1) (e:=1) rfl v0 (bT (o:=1) (s:=1) (e:=2) rfl v1 (bT (o:=2) (s:=1) (e:=3) rfl v2 (eG e))))⟩
theorem ra37 {H:Type} {enc:TypeId × Value→H} {bE:DataW H→Nat} {w:World} (hbk:fp bE):ch Tryz.prog enc bE w 37 (List Edge):=ef hbk Tryz.underlying37 (by kernel_rfl) (by decide) (ra111 hbk)
instance:bG Graph:=⟨fun N x=>bG.ok N x.Nodes∧bG.ok N x.Edges⟩
theorem ra39 {H:Type} {enc:TypeId × Value→H} {bE:DataW H→Nat} {w:World} (hbk:fp bE):ch Tryz.prog enc bE w 39 Graph:=by
 refine ⟨by kernel_rfl,fun N fuel cs d ps h hb=>?_⟩
 obtain ⟨hl,hp⟩:=cy hbk Tryz.underlying39 h hb
 obtain ⟨n0,d0,p0,h0,b0⟩:∃ n d q,DataW.trod enc Tryz.prog w 0 (fun _=>true) true n 31 ((cs.drop 0).take (Tryz.prog.cellsOf 31))=some (d,q)∧bE d≤N:=hp 0 _ rfl
 rw [FF] at h0
 obtain ⟨a0,k0,l0,o0,v0⟩:=(ra31 hbk).read N n0 _ d0 p0 h0 b0
 obtain ⟨n1,d1,p1,h1,b1⟩:∃ n d q,DataW.trod enc Tryz.prog w 0 (fun _=>true) true n 37 ((cs.drop 1).take (Tryz.prog.cellsOf 37))=some (d,q)∧bE d≤N:=hp 1 _ rfl
 rw [cz37] at h1
 obtain ⟨a1,k1,l1,o1,v1⟩:=(ra37 hbk).read N n1 _ d1 p1 h1 b1
 have e:cs.length=2:=hl.trans (by kernel_rfl)
 exact ⟨⟨a0,a1⟩,⟨k0,k1⟩,e,(bH (o:=0) (s:=1) (e:=1) rfl o0 (bH (o:=1) (s:=1) (e:=2) rfl o1 (dM e))),(bT (o:=0) (s:=1) (e:=1) rfl v0 (bT (o:=1) (s:=1) (e:=2) rfl v1 (eG e)))⟩
instance:bG Term:=⟨fun N x=>bG.ok N x.Var∧bG.ok N x.Add⟩
theorem No {H:Type} {enc:TypeId × Value→H} {bE:DataW H→Nat} {w:World} (hbk:fp bE):ch Tryz.prog enc bE w 173 Term:=by
 refine ⟨by kernel_rfl,fun N fuel cs d ps h hb=>?_⟩
 obtain ⟨hl,hp⟩:=cy hbk Tryz.underlying173 h hb
 obtain ⟨n0,d0,p0,h0,b0⟩:∃ n d q,DataW.trod enc Tryz.prog w 0 (fun _=>true) true n 3 ((cs.drop 0).take (Tryz.prog.cellsOf 3))=some (d,q)∧bE d≤N:=hp 0 _ rfl
 rw [cz3] at h0
 obtain ⟨a0,k0,l0,o0,v0⟩:=(ra3 hbk).read N n0 _ d0 p0 h0 b0
 obtain ⟨n1,d1,p1,h1,b1⟩:∃ n d q,DataW.trod enc Tryz.prog w 0 (fun _=>true) true n 3 ((cs.drop 1).take (Tryz.prog.cellsOf 3))=some (d,q)∧bE d≤N:=hp 1 _ rfl
 rw [cz3] at h1
 obtain ⟨a1,k1,l1,o1,v1⟩:=(ra3 hbk).read N n1 _ d1 p1 h1 b1
 have e:cs.length=2:=hl.trans (by kernel_rfl)
 exact ⟨⟨a0,a1⟩,⟨k0,k1⟩,e,(bH (o:=0) (s:=1) (e:=1) rfl o0 (bH (o:=1) (s:=1) (e:=2) rfl o1 (dM e))),(bT (o:=0) (s:=1) (e:=1) rfl v0 (bT (o:=1) (s:=1) (e:=2) rfl v1 (eG e)))⟩
instance:bG Slot:=⟨fun N x=>bG.ok N x.Node∧bG.ok N x.Attr∧bG.ok N x.Term⟩
theorem ajo {H:Type} {enc:TypeId × Value→H} {bE:DataW H→Nat} {w:World} (hbk:fp bE):ch Tryz.prog enc bE w 175 Slot:=by
 refine ⟨by kernel_rfl,fun N fuel cs d ps h hb=>?_⟩
 obtain ⟨hl,hp⟩:=cy hbk Tryz.underlying175 h hb
 obtain ⟨n0,d0,p0,h0,b0⟩:∃ n d q,DataW.trod enc Tryz.prog w 0 (fun _=>true) true n 3 ((cs.drop 0).take (Tryz.prog.cellsOf 3))=some (d,q)∧bE d≤N:=hp 0 _ rfl
 rw [cz3] at h0
 obtain ⟨a0,k0,l0,o0,v0⟩:=(ra3 hbk).read N n0 _ d0 p0 h0 b0
 obtain ⟨n1,d1,p1,h1,b1⟩:∃ n d q,DataW.trod enc Tryz.prog w 0 (fun _=>true) true n 3 ((cs.drop 1).take (Tryz.prog.cellsOf 3))=some (d,q)∧bE d≤N:=hp 1 _ rfl
 rw [cz3] at h1
 obtain ⟨a1,k1,l1,o1,v1⟩:=(ra3 hbk).read N n1 _ d1 p1 h1 b1
 obtain ⟨n2,d2,p2,h2,b2⟩:∃ n d q,DataW.trod enc Tryz.prog w 0 (fun _=>true) true n 173 ((cs.drop 2).take (Tryz.prog.cellsOf 173))=some (d,q)∧bE d≤N:=hp 2 _ rfl
 rw [Qu] at h2
 obtain ⟨a2,k2,l2,o2,v2⟩:=(No hbk).read N n2 _ d2 p2 h2 b2
 have e:cs.length=4:=hl.trans (by kernel_rfl)
 exact ⟨⟨a0,a1,a2⟩,⟨k0,k1,k2⟩,e,(bH (o:=0) (s:=1) (e:=1) rfl o0 (bH (o:=1) (s:=1) (e:=2) rfl o1 (bH (o:=2) (s:=2) (e:=4) rfl o2 (dM e)))),(bT (o:=0) (s:=1) (e:=1) rfl v0 (bT (o:=1) (s:=1) (e:=2) rfl v1 (bT (o:=2) (s:=2) (e:=4) rfl v2 (eG e))))⟩
theorem ra88 {H:Type} {enc:TypeId × Value→H} {bE:DataW H→Nat} {w:World} (hbk:fp bE):ch Tryz.prog enc bE w 88 (List Slot):=ef hbk Tryz.underlying88 (by kernel_rfl) (by decide) (ajo hbk)
instance:bG Test:=⟨fun N x=>bG.ok N x.Kind∧bG.ok N x.Left∧bG.ok N x.Right⟩
theorem ajn {H:Type} {enc:TypeId × Value→H} {bE:DataW H→Nat} {w:World} (hbk:fp bE):ch Tryz.prog enc bE w 201 Test:=by
 refine ⟨by kernel_rfl,fun N fuel cs d ps h hb=>?_⟩
 obtain ⟨hl,hp⟩:=cy hbk Tryz.underlying201 h hb
 obtain ⟨n0,d0,p0,h0,b0⟩:∃ n d q,DataW.trod enc Tryz.prog w 0 (fun _=>true) true n 3 ((cs.drop 0).take (Tryz.prog.cellsOf 3))=some (d,q)∧bE d≤N:=hp 0 _ rfl
 rw [cz3] at h0
 obtain ⟨a0,k0,l0,o0,v0⟩:=(ra3 hbk).read N n0 _ d0 p0 h0 b0
 obtain ⟨n1,d1,p1,h1,b1⟩:∃ n d q,DataW.trod enc Tryz.prog w 0 (fun _=>true) true n 173 ((cs.drop 1).take (Tryz.prog.cellsOf 173))=some (d,q)∧bE d≤N:=hp 1 _ rfl
 rw [Qu] at h1
 obtain ⟨a1,k1,l1,o1,v1⟩:=(No hbk).read N n1 _ d1 p1 h1 b1
 obtain ⟨n2,d2,p2,h2,b2⟩:∃ n d q,DataW.trod enc Tryz.prog w 0 (fun _=>true) true n 173 ((cs.drop 3).take (Tryz.prog.cellsOf 173))=some (d,q)∧bE d≤N:=hp 2 _ rfl
 rw [Qu] at h2
 obtain ⟨a2,k2,l2,o2,v2⟩:=(No hbk).read N n2 _ d2 p2 h2 b2
 have e:cs.length=5:=hl.trans (by kernel_rfl)
 exact ⟨⟨a0,a1,a2⟩,⟨k0,k1,k2⟩,e,(bH (o:=0) (s:=1) (e:=1) rfl o0 (bH (o:=1) (s:=2) (e:=3) rfl o1 (bH (o:=3) (s:=2) (e:=5) rfl o2 (dM e)))),(bT (o:=0) (s:=1) (e:=1) rfl v0 (bT (o:=1) (s:=2) (e:=3) rfl v1 (bT (o:=3) (s:=2) (e:=5) rfl v2 (eG e))))⟩
theorem ra89 {H:Type} {enc:TypeId × Value→H} {bE:DataW H→Nat} {w:World} (hbk:fp bE):ch Tryz.prog enc bE w 89 (List Test):=ef hbk Tryz.underlying89 (by kernel_rfl) (by decide) (ajn hbk)
instance:bG Pattern:=⟨fun N x=>bG.ok N x.Graph∧bG.ok N x.Slots∧bG.ok N x.Vars∧bG.ok N x.Tests⟩
theorem ra91 {H:Type} {enc:TypeId × Value→H} {bE:DataW H→Nat} {w:World} (hbk:fp bE):ch Tryz.prog enc bE w 91 Pattern:=by
 refine ⟨by kernel_rfl,fun N fuel cs d ps h hb=>?_⟩
 obtain ⟨hl,hp⟩:=cy hbk Tryz.underlying91 h hb
 obtain ⟨n0,d0,p0,h0,b0⟩:∃ n d q,DataW.trod enc Tryz.prog w 0 (fun _=>true) true n 39 ((cs.drop 0).take (Tryz.prog.cellsOf 39))=some (d,q)∧bE d≤N:=hp 0 _ rfl
 rw [cz39] at h0
 obtain ⟨a0,k0,l0,o0,v0⟩:=(ra39 hbk).read N n0 _ d0 p0 h0 b0
 obtain ⟨n1,d1,p1,h1,b1⟩:∃ n d q,DataW.trod enc Tryz.prog w 0 (fun _=>true) true n 88 ((cs.drop 2).take (Tryz.prog.cellsOf 88))=some (d,q)∧bE d≤N:=hp 1 _ rfl
 rw [cz88] at h1
 obtain ⟨a1,k1,l1,o1,v1⟩:=(ra88 hbk).read N n1 _ d1 p1 h1 b1
 obtain ⟨n2,d2,p2,h2,b2⟩:∃ n d q,DataW.trod enc Tryz.prog w 0 (fun _=>true) true n 3 ((cs.drop 3).take (Tryz.prog.cellsOf 3))=some (d,q)∧bE d≤N:=hp 2 _ rfl
 rw [cz3] at h2
 obtain ⟨a2,k2,l2,o2,v2⟩:=(ra3 hbk).read N n2 _ d2 p2 h2 b2
 obtain ⟨n3,d3,p3,h3,b3⟩:∃ n d q,DataW.trod enc Tryz.prog w 0 (fun _=>true) true n 89 ((cs.drop 4).take (Tryz.prog.cellsOf 89))=some (d,q)∧bE d≤N:=hp 3 _ rfl
 rw [cz89] at h3
 obtain ⟨a3,k3,l3,o3,v3⟩:=(ra89 hbk).read N n3 _ d3 p3 h3 b3
 have e:cs.length=5:=hl.trans (by kernel_rfl)
 exact ⟨⟨a0,a1,a2,a3⟩,⟨k0,k1,k2,k3⟩,e,(bH (o:=0) (s:=2) (e:=2) rfl o0 (bH (o:=2) (s:=1) (e:=3) rfl o1 (bH (o:=3) (s:=1) (e:=4) rfl o2 (bH (o:=4) (s:=1) (e:=5) rfl o3 (dM e))))),(bT (o:=0) (s:=2) (e:=2) rfl v0 (bT (o:=2) (s:=1) (e:=3) rfl v1 (bT (o:=3) (s:=1) (e:=4) rfl v2 (bT (o:=4) (s:=1) (e:=5) rfl v3 (eG e)))))⟩
instance:bG Part:=⟨fun N x=>bG.ok N x.Nodes∧bG.ok N x.Edges⟩
theorem ra94 {H:Type} {enc:TypeId × Value→H} {bE:DataW H→Nat} {w:World} (hbk:fp bE):ch Tryz.prog enc bE w 94 Part:=by
 refine ⟨by kernel_rfl,fun N fuel cs d ps h hb=>?_⟩
 obtain ⟨hl,hp⟩:=cy hbk Tryz.underlying94 h hb
 obtain ⟨n0,d0,p0,h0,b0⟩:∃ n d q,DataW.trod enc Tryz.prog w 0 (fun _=>true) true n 31 ((cs.drop 0).take (Tryz.prog.cellsOf 31))=some (d,q)∧bE d≤N:=hp 0 _ rfl
 rw [FF] at h0
 obtain ⟨a0,k0,l0,o0,v0⟩:=(ra31 hbk).read N n0 _ d0 p0 h0 b0
 obtain ⟨n1,d1,p1,h1,b1⟩:∃ n d q,DataW.trod enc Tryz.prog w 0 (fun _=>true) true n 31 ((cs.drop 1).take (Tryz.prog.cellsOf 31))=some (d,q)∧bE d≤N:=hp 1 _ rfl
 rw [FF] at h1
 obtain ⟨a1,k1,l1,o1,v1⟩:=(ra31 hbk).read N n1 _ d1 p1 h1 b1
 have e:cs.length=2:=hl.trans (by kernel_rfl)
 exact ⟨⟨a0,a1⟩,⟨k0,k1⟩,e,(bH (o:=0) (s:=1) (e:=1) rfl o0 (bH (o:=1) (s:=1) (e:=2) rfl o1 (dM e))),(bT (o:=0) (s:=1) (e:=1) rfl v0 (bT (o:=1) (s:=1) (e:=2) rfl v1 (eG e)))⟩
instance:bG aQ:=⟨fun N x=>bG.ok N x.Nodes∧bG.ok N x.Edges⟩
theorem ajm {H:Type} {enc:TypeId × Value→H} {bE:DataW H→Nat} {w:World} (hbk:fp bE):ch Tryz.prog enc bE w 87 aQ:=by
 refine ⟨by kernel_rfl,fun N fuel cs d ps h hb=>?_⟩
 obtain ⟨hl,hp⟩:=cy hbk Tryz.underlying87 h hb
 obtain ⟨n0,d0,p0,h0,b0⟩:∃ n d q,DataW.trod enc Tryz.prog w 0 (fun _=>true) true n 31 ((cs.drop 0).take (Tryz.prog.cellsOf 31))=some (d,q)∧bE d≤N:=hp 0 _ rfl
 rw [FF] at h0
 obtain ⟨a0,k0,l0,o0,v0⟩:=(ra31 hbk).read N n0 _ d0 p0 h0 b0
 obtain ⟨n1,d1,p1,h1,b1⟩:∃ n d q,DataW.trod enc Tryz.prog w 0 (fun _=>true) true n 31 ((cs.drop 1).take (Tryz.prog.cellsOf 31))=some (d,q)∧bE d≤N:=hp 1 _ rfl
 rw [FF] at h1
 obtain ⟨a1,k1,l1,o1,v1⟩:=(ra31 hbk).read N n1 _ d1 p1 h1 b1
 have e:cs.length=2:=hl.trans (by kernel_rfl)
 exact ⟨⟨a0,a1⟩,⟨k0,k1⟩,e,(bH (o:=0) (s:=1) (e:=1) rfl o0 (bH (o:=1) (s:=1) (e:=2) rfl o1 (dM e))),(bT (o:=0) (s:=1) (e:=1) rfl v0 (bT (o:=1) (s:=1) (e:=2) rfl v1 (eG e)))⟩
mutual
def jU (N:Nat):Condition→Prop
 | .mk r0 r1 r2 r3=>bG.ok N r0∧(r1.length≤N∧gw N r1)∧bG.ok N r2∧bG.ok N r3
def gw (N:Nat):List Condition→Prop
 | []=>True
 | c::r=>jU N c∧gw N r
end
instance:bG Condition:=⟨jU⟩
theorem kQ {N:Nat}:∀ {l:List Condition},gw N l↔∀ x∈l,bG.ok N x
 | []=>by simp [gw]
 | a::l=>by
  have:=kQ (N:=N) (l:=l)
  simp only [gw,this,List.mem_cons,forall_eq_or_imp];exact Iff.rfl
theorem mS {N:Nat} {x:Condition}:bG.ok N x↔bG.ok N x.Kind∧bG.ok N x.Kids∧bG.ok N x.Map∧bG.ok N x.Pattern:=by
 cases x
 show jU N _↔_
 simp only [jU,kQ];exact Iff.rfl
theorem rr93 {H:Type} {enc:TypeId × Value→H} {bE:DataW H→Nat} {w:World} (hbk:fp bE):∀ (K N fuel:Nat) (cs:List Value) (d:DataW H) (ps:List MemPlace),SizeOf.sizeOf d<K→DataW.trod enc Tryz.prog w 0 (fun _=>true) true fuel 93 cs=some (d,ps)→bE d≤N→∃ a:Condition,bG.ok N a∧cs.length=Enc.size Condition∧(∀ v∈cs,v.oneCell'=true)∧Vs w (fun b=>b<w.heap.size) (fun _=>none) (Enc.cells a) cs:=by
 intro K
 induction K with
 | zero=>intro N fuel cs d ps h0;omega
 | succ K ih=>
 intro N fuel cs d ps h0 h hb
 obtain ⟨hl,hp⟩:=wU hbk Tryz.underlying93 h hb
 obtain ⟨n0,d0,p0,h0,b0,z0⟩:∃ n d' q,DataW.trod enc Tryz.prog w 0 (fun _=>true) true n 3 ((cs.drop 0).take (Tryz.prog.cellsOf 3))=some (d',q)∧bE d'≤N∧SizeOf.sizeOf d'<SizeOf.sizeOf d:=hp 0 _ rfl
 rw [cz3] at h0
 obtain ⟨a0,k0,l0,o0,v0⟩:=(ra3 hbk).read N n0 _ d0 p0 h0 b0
 obtain ⟨n1,d1,p1,h1,b1,z1⟩:∃ n d' q,DataW.trod enc Tryz.prog w 0 (fun _=>true) true n 85 ((cs.drop 1).take (Tryz.prog.cellsOf 85))=some (d',q)∧bE d'≤N∧SizeOf.sizeOf d'<SizeOf.sizeOf d:=hp 1 _ rfl
 rw [cz85] at h1
 obtain ⟨a1,k1,l1,o1,v1⟩:=G3 (α:=Condition) hbk Tryz.underlying85 (by decide) Vg h1 b1 fun n cs' d' ps' hz h2 hb2=>ih N n cs' d' ps' (by omega) h2 hb2
 obtain ⟨n2,d2,p2,h2,b2,z2⟩:∃ n d' q,DataW.trod enc Tryz.prog w 0 (fun _=>true) true n 87 ((cs.drop 2).take (Tryz.prog.cellsOf 87))=some (d',q)∧bE d'≤N∧SizeOf.sizeOf d'<SizeOf.sizeOf d:=hp 2 _ rfl
 rw [aqU] at h2
 obtain ⟨a2,k2,l2,o2,v2⟩:=(ajm hbk).read N n2 _ d2 p2 h2 b2
 obtain ⟨n3,d3,p3,h3,b3,z3⟩:∃ n d' q,DataW.trod enc Tryz.prog w 0 (fun _=>true) true n 91 ((cs.drop 4).take (Tryz.prog.cellsOf 91))=some (d',q)∧bE d'≤N∧SizeOf.sizeOf d'<SizeOf.sizeOf d:=hp 3 _ rfl
 rw [ae0] at h3
 obtain ⟨a3,k3,l3,o3,v3⟩:=(ra91 hbk).read N n3 _ d3 p3 h3 b3
 have e:cs.length=9:=hl.trans Vg
 exact ⟨⟨a0,a1,a2,a3⟩,mS.2 ⟨k0,k1,k2,k3⟩,e,(bH (o:=0) (s:=1) (e:=1) rfl o0 (bH (o:=1) (s:=1) (e:=2) rfl o1 (bH (o:=2) (s:=2) (e:=4) rfl o2 (bH (o:=4) (s:=5) (e:=9) rfl o3 (dM e))))),(by
  have:=(bT (o:=0) (s:=1) (e:=1) rfl v0 (bT (o:=1) (s:=1) (e:=2) rfl v1 (bT (o:=2) (s:=2) (e:=4) rfl v2 (bT (o:=4) (s:=5) (e:=9) rfl v3 (eG e)))))
  rw [dW];exact this)⟩
theorem ra93 {H:Type} {enc:TypeId × Value→H} {bE:DataW H→Nat} {w:World} (hbk:fp bE):ch Tryz.prog enc bE w 93 Condition:=⟨Vg,fun N fuel cs d ps h hb=>rr93 hbk _ N fuel cs d ps (Nat.lt_succ_self _) h hb⟩
instance:bG bJ:=⟨fun N x=>bG.ok N x.Name∧bG.ok N x.Left∧bG.ok N x.Right∧bG.ok N x.Keep∧bG.ok N x.Into∧bG.ok N x.Injective∧bG.ok N x.Condition⟩
theorem ra96 {H:Type} {enc:TypeId × Value→H} {bE:DataW H→Nat} {w:World} (hbk:fp bE):ch Tryz.prog enc bE w 96 bJ:=by
 refine ⟨by kernel_rfl,fun N fuel cs d ps h hb=>?_⟩
 obtain ⟨hl,hp⟩:=cy hbk Tryz.underlying96 h hb
 obtain ⟨n0,d0,p0,h0,b0⟩:∃ n d q,DataW.trod enc Tryz.prog w 0 (fun _=>true) true n 9 ((cs.drop 0).take (Tryz.prog.cellsOf 9))=some (d,q)∧bE d≤N:=hp 0 _ rfl
 rw [cz9] at h0
 obtain ⟨a0,k0,l0,o0,v0⟩:=(ra9 hbk).read N n0 _ d0 p0 h0 b0
 obtain ⟨n1,d1,p1,h1,b1⟩:∃ n d q,DataW.trod enc Tryz.prog w 0 (fun _=>true) true n 91 ((cs.drop 1).take (Tryz.prog.cellsOf 91))=some (d,q)∧bE d≤N:=hp 1 _ rfl
 rw [ae0] at h1
 obtain ⟨a1,k1,l1,o1,v1⟩:=(ra91 hbk).read N n1 _ d1 p1 h1 b1
 obtain ⟨n2,d2,p2,h2,b2⟩:∃ n d q,DataW.trod enc Tryz.prog w 0 (fun _=>true) true n 91 ((cs.drop 6).take (Tryz.prog.cellsOf 91))=some (d,q)∧bE d≤N:=hp 2 _ rfl
 rw [ae0] at h2
 obtain ⟨a2,k2,l2,o2,v2⟩:=(ra91 hbk).read N n2 _ d2 p2 h2 b2
 obtain ⟨n3,d3,p3,h3,b3⟩:∃ n d q,DataW.trod enc Tryz.prog w 0 (fun _=>true) true n 94 ((cs.drop 11).take (Tryz.prog.cellsOf 94))=some (d,q)∧bE d≤N:=hp 3 _ rfl
 rw [cz94] at h3
 obtain ⟨a3,k3,l3,o3,v3⟩:=(ra94 hbk).read N n3 _ d3 p3 h3 b3
 obtain ⟨n4,d4,p4,h4,b4⟩:∃ n d q,DataW.trod enc Tryz.prog w 0 (fun _=>true) true n 87 ((cs.drop 13).take (Tryz.prog.cellsOf 87))=some (d,q)∧bE d≤N:=hp 4 _ rfl
 rw [aqU] at h4
 obtain ⟨a4,k4,l4,o4,v4⟩:=(ajm hbk).read N n4 _ d4 p4 h4 b4
 obtain ⟨n5,d5,p5,h5,b5⟩:∃ n d q,DataW.trod enc Tryz.prog w 0 (fun _=>true) true n 4 ((cs.drop 15).take (Tryz.prog.cellsOf 4))=some (d,q)∧bE d≤N:=hp 5 _ rfl
 rw [cz4] at h5
 obtain ⟨a5,k5,l5,o5,v5⟩:=(ra4 hbk).read N n5 _ d5 p5 h5 b5
 obtain ⟨n6,d6,p6,h6,b6⟩:∃ n d q,DataW.trod enc Tryz.prog w 0 (fun _=>true) true n 93 ((cs.drop 16).take (Tryz.prog.cellsOf 93))=some (d,q)∧bE d≤N:=hp 6 _ rfl
 rw [Vg] at h6
 obtain ⟨a6,k6,l6,o6,v6⟩:=(ra93 hbk).read N n6 _ d6 p6 h6 b6
 have e:cs.length=25:=hl.trans (by kernel_rfl)
 exact ⟨⟨a0,a1,a2,a3,a4,a5,a6⟩,⟨k0,k1,k2,k3,k4,k5,k6⟩,e,(bH (o:=0) (s:=1) (e:=1) rfl o0 (bH (o:=1) (s:=5) (e:=6) rfl o1 (bH (o:=6) (s:=5) (e:=11) rfl o2 (bH (o:=11) (s:=2) (e:=13) rfl o3 (bH (o:=13) (s:=2) (e:=15) rfl o4 (bH (o:=15) (s:=1) (e:=16) rfl o5 (bH (o:=16) (s:=9) (e:=25) rfl o6 (dM e)))))))),(by
  have:=(bT (o:=0) (s:=1) (e:=1) rfl v0 (bT (o:=1) (s:=5) (e:=6) rfl v1 (bT (o:=6) (s:=5) (e:=11) rfl v2 (bT (o:=11) (s:=2) (e:=13) rfl v3 (bT (o:=13) (s:=2) (e:=15) rfl v4 (bT (o:=15) (s:=1) (e:=16) rfl v5 (bT (o:=16) (s:=9) (e:=25) rfl v6 (eG e))))))))
  simp only [dW] at this;exact this)⟩
theorem ra26 {H:Type} {enc:TypeId × Value→H} {bE:DataW H→Nat} {w:World} (hbk:fp bE):ch Tryz.prog enc bE w 26 (List bJ):=ef hbk Tryz.underlying26 (by kernel_rfl) (by decide) (ra96 hbk)
instance:bG bW:=⟨fun N x=>bG.ok N x.Weights∧bG.ok N x.Removed⟩
theorem ra33 {H:Type} {enc:TypeId × Value→H} {bE:DataW H→Nat} {w:World} (hbk:fp bE):ch Tryz.prog enc bE w 33 bW:=by
 refine ⟨by kernel_rfl,fun N fuel cs d ps h hb=>?_⟩
 obtain ⟨hl,hp⟩:=cy hbk Tryz.underlying33 h hb
 obtain ⟨n0,d0,p0,h0,b0⟩:∃ n d q,DataW.trod enc Tryz.prog w 0 (fun _=>true) true n 31 ((cs.drop 0).take (Tryz.prog.cellsOf 31))=some (d,q)∧bE d≤N:=hp 0 _ rfl
 rw [FF] at h0
 obtain ⟨a0,k0,l0,o0,v0⟩:=(ra31 hbk).read N n0 _ d0 p0 h0 b0
 obtain ⟨n1,d1,p1,h1,b1⟩:∃ n d q,DataW.trod enc Tryz.prog w 0 (fun _=>true) true n 31 ((cs.drop 1).take (Tryz.prog.cellsOf 31))=some (d,q)∧bE d≤N:=hp 1 _ rfl
 rw [FF] at h1
 obtain ⟨a1,k1,l1,o1,v1⟩:=(ra31 hbk).read N n1 _ d1 p1 h1 b1
 have e:cs.length=2:=hl.trans (by kernel_rfl)
 exact ⟨⟨a0,a1⟩,⟨k0,k1⟩,e,(bH (o:=0) (s:=1) (e:=1) rfl o0 (bH (o:=1) (s:=1) (e:=2) rfl o1 (dM e))),(bT (o:=0) (s:=1) (e:=1) rfl v0 (bT (o:=1) (s:=1) (e:=2) rfl v1 (eG e)))⟩
theorem ra27 {H:Type} {enc:TypeId × Value→H} {bE:DataW H→Nat} {w:World} (hbk:fp bE):ch Tryz.prog enc bE w 27 (List bW):=ef hbk Tryz.underlying27 (by kernel_rfl) (by decide) (ra33 hbk)
end Go.S
end
section
set_option linter.unusedVariables false
set_option linter.unusedSimpArgs false
namespace Go.Pm
open Go
theorem bS {n:Int} (h1 : -9223372036854775808≤n) (h2:n≤9223372036854775807):w64 n=n:=by
 rw [Wf,IntKind.wrap_i64];omega
theorem fA {i:Nat} (h:i<4611686018427387904):w64 ((i:Int)+1)=((i+1:Nat):Int):=by
 rw [bS (by omega) (by omega)];omega
theorem iI {i:Nat} (h:i<4611686018427387904):w64 (i:Int)=(i:Int):=bS (by omega) (by omega)
theorem aL:ax=4611686018427387904:=rfl
theorem bB {α:Type} (l:List α) (i:Nat):at? l (i:Int)=l[i]?:=by simp [at?]
theorem gW {α:Type} {l:List α} {i:Int} (h0:0≤i) (h:i<l.length):∃ a,at? l i=some a∧l[i.toNat]?=some a:=by
 have:i.toNat<l.length:=by omega
 exact ⟨l[i.toNat],by simp [at?,h0,List.getElem?_eq_getElem this],List.getElem?_eq_getElem this⟩
theorem loop_up {R:Type} (F:Nat→Int→Option R) (n:Nat) (hn:n<4611686018427387904) (Q:Nat→Option R→Prop) (qM:∀ m,Q n (F (m+1) n))
  (hstep:∀ m i,i<n→Q (i+1) (F m (w64 ((i:Int)+1)))→Q i (F (m+1) i)):∀ (i:Nat),i≤n→∀ m,n - i<m→Q i (F m i):=by
 intro i hi
 induction hk:n - i generalizing i with
 | zero=>
  intro m hm
  have:i=n:=by omega
  subst this
  cases m with
  | zero=>omega
  | succ m=>exact qM m
 | succ k ih=>
  intro m hm
  cases m with
  | zero=>omega
  | succ m=>
   refine hstep m i (by omega) ?_
   rw [fA (by omega)]
   exact ih (i+1) (by omega) (by omega) m (by omega)
def walk {α R:Type} (step:Nat→α→Option R→Option R) (exit:Option R):Nat→List α→Option R
 | _,[]=>exit
 | i,a::l=>step i a (walk step exit (i+1) l)
theorem bX {α R:Type} (l:List α) (hl:l.length<4611686018427387904) (F:Nat→Int→Option R) (step:Nat→α→Option R→Option R) (exit:Option R)
  (qM:∀ m,F (m+1) l.length=exit) (hstep:∀ (m i:Nat) (a:α),l[i]?=some a→F (m+1) (i:Int)=step i a (F m (w64 ((i:Int)+1)))) {m:Nat} (hm:l.length<m):F m 0=walk step exit 0 l:=by
 have:=loop_up F l.length hl (fun i r=>r=walk step exit i (l.drop i)) (fun m=>by simp [walk,qM]) (fun m i hi h=>by
  rw [List.drop_eq_getElem_cons hi,hstep m i _ (List.getElem?_eq_getElem hi),h,walk]) 0 (Nat.zero_le _) m (by omega)
 simpa using this
theorem xw {α R:Type} (l:List α) (hl:l.length<4611686018427387904) (F:Nat→Int→Option R) (step:Nat→α→Option R→Option R) (exit:Option R)
  (qM:∀ m,F (m+1) l.length=exit) (hstep:∀ (m i:Nat) (a:α),l[i]?=some a→F (m+1) (i:Int)=step i a (F m (w64 ((i:Int)+1)))) {m:Nat} (i:Nat) (hi:i≤l.length) (hm:l.length<m):F m i=walk step exit i (l.drop i):=
 loop_up F l.length hl (fun i r=>r=walk step exit i (l.drop i)) (fun m=>by simp [walk,qM]) (fun m i hi h=>by
  rw [List.drop_eq_getElem_cons hi,hstep m i _ (List.getElem?_eq_getElem hi),h,walk]) i hi m (by omega)
theorem cu {α:Type} (p:α→Option Bool) (q:α→Bool) (l:List α) (hp:∀ a∈l,p a=some (q a)):∀ i:Nat,∃ r:Int,walk (fun i a k=>(p a).bind fun b=>if b then some (i:Int) else k) (some (-1)) i l=some r∧(0≤r↔l.any q=true)∧(-1≤r∧r<i+l.length):=by
 induction l with
 | nil=>intro i;exact ⟨-1,rfl,by simp,by simp;omega⟩
 | cons a l ih=>
  intro i
  simp only [walk,hp a (List.mem_cons_self ..),Option.bind_some]
  cases h:q a with
  | true=>exact ⟨i,by simp,by simp [h],by simp;omega⟩
  | false=>
   obtain ⟨r,h1,h2,h3⟩:=ih (fun b hb=>hp b (List.mem_cons_of_mem _ hb)) (i+1)
   refine ⟨r,by simpa using h1,by simp [h,h2],?_⟩
   simp only [List.length_cons];omega
theorem fF {R S:Type} (F:Nat→Int→Option R) (G:Nat→Int→Option S) (n:Nat) (hn:n<4611686018427387904) (Q:Nat→Option R→Option S→Prop) (qM:∀ m m',Q n (F (m+1) n) (G (m'+1) n))
  (hstep:∀ m m' i,i<n→Q (i+1) (F m (w64 ((i:Int)+1))) (G m' (w64 ((i:Int)+1)))→Q i (F (m+1) i) (G (m'+1) i)):∀ (i:Nat),i≤n→∀ m m',n - i<m→n - i<m'→Q i (F m i) (G m' i):=by
 intro i hi
 induction hk:n - i generalizing i with
 | zero=>
  intro m m' hm hm'
  have:i=n:=by omega
  subst this
  cases m with
  | zero=>omega
  | succ m=>cases m' with
   | zero=>omega
   | succ m'=>exact qM m m'
 | succ k ih=>
  intro m m' hm hm'
  cases m with
  | zero=>omega
  | succ m=>cases m' with
   | zero=>omega
   | succ m'=>
    refine hstep m m' i (by omega) ?_
    rw [fA (by omega)]
    exact ih (i+1) (by omega) (by omega) m m' (by omega) (by omega)
def Both {α:Type} (a b:Option α):Prop:=∃ v,a=some v∧b=some v
theorem Both.eq {α:Type} {a b:Option α} (h:Both a b):a=b:=by obtain ⟨v,h1,h2⟩:=h;rw [h1,h2]
theorem Both.def {α:Type} {a b:Option α} (h:Both a b):∃ v,a=some v:=by obtain ⟨v,h1,_⟩:=h;exact ⟨v,h1⟩
theorem Both.of {α:Type} {a b:Option α} {v:α} (h:a=some v) (e:a=b):Both a b:=⟨v,h,e▸h⟩
theorem walk_def {α R:Type} (step:Nat→α→Option R→Option R) (exit:Option R) (he:∃ v,exit=some v):∀ (l:List α) (i:Nat),(∀ i a k,a∈l→(∃ v,k=some v)→∃ v,step i a k=some v)→∃ v,walk step exit i l=some v
 | [],i,_=>he
 | a::l,i,hs=>hs i a _ (List.mem_cons_self ..) (walk_def step exit he l (i+1) fun i b k hb=>hs i b k (List.mem_cons_of_mem _ hb))
theorem contains_of {α:Type} {l:List α} {q:α→Bool} {r:Int} (h:0≤r↔(l.any q)=true):decide (0≤r)=l.any q:=by rw [Bool.eq_iff_iff];simpa using h
theorem cp (n:Nat) (hn:n<4611686018427387904) (P:Nat→Nat→Int→Prop) (qM:∀ m,P n (m+1) n) (hstep:∀ m i,i<n→P (i+1) m (w64 ((i:Int)+1))→P i (m+1) i):∀ (i:Nat),i≤n→∀ m,n - i<m→P i m i:=by
 intro i hi
 induction hk:n - i generalizing i with
 | zero=>
  intro m hm
  have:i=n:=by omega
  subst this
  cases m with
  | zero=>omega
  | succ m=>exact qM m
 | succ k ih=>
  intro m hm
  cases m with
  | zero=>omega
  | succ m=>
   refine hstep m i (by omega) ?_
   rw [fA (by omega)]
   exact ih (i+1) (by omega) (by omega) m (by omega)
end Go.Pm
end
section
set_option linter.all false
set_option maxRecDepth 10000
namespace Go.S
open Go Go.Pm
def bl (s:ByteArray):List Int:=s.data.toList.map fun b=>(b.toNat:Int)
theorem dF (s:ByteArray):(bl s).length=s.size:=by simp [bl]
theorem byte_at (s:ByteArray) (i:Nat):ea s (i:Int)=(bl s)[i]?:=by
 have h:(bl s)[i]?=(s.data[i]?).map fun b=>(b.toNat:Int):=by simp [bl]
 rw [h]
 have h2:s[i]?=s.data[i]?:=by
  by_cases hi:i<s.size
  ·rw [getElem?_pos s i hi,Array.getElem?_eq_getElem (by exact hi)];rfl
  ·rw [getElem?_neg s i hi,Array.getElem?_eq_none (by have:s.data.size=s.size:=rfl;omega)]
 simp [ea,h2]
def gA (c:Int):Bool:=(decide (97≤c)&&decide (c≤122))||(decide (65≤c)&&decide (c≤90))
def fy (c:Int):Bool:=decide (48≤c)&&decide (c≤57)
def fr (c:Int):Bool:=gA c||fy c||(c == 95)
theorem Ey (c:Int):f216 c=some (gA c):=by
 unfold f216 gA;by_cases h1:97≤c <;> by_cases h2:c≤122 <;> by_cases h3:65≤c <;> simp [h1,h2,h3]
theorem z8 (c:Int):f219 c=some (fy c):=by
 unfold f219 fy;by_cases h1:48≤c <;> simp [h1]
theorem aen (c:Int):f218 c=some (fr c):=by
 unfold f218 fr;simp only [Ey,z8,Option.bind_some];cases gA c <;> cases fy c <;> simp
theorem EM (c:Int):f188 c=some (gA c):=Ey c
theorem EL (c:Int):f189 c=some (fy c):=z8 c
theorem zd {c:Int} (h:gA c=true):fy c=false:=by
 simp [gA,fy] at h ⊢;omega
theorem kO {p:Int→Bool} {R:Type} (g:Nat→R):∀ (l:List Int) (i:Nat),walk (fun i c k=>if p c then k else some (g i)) (some (g (i+l.length))) i l=some (g (i+(l.takeWhile p).length))
 | [],i=>rfl
 | c::l,i=>by
  simp only [walk,List.takeWhile_cons]
  cases h:p c with
  | true=>
   have:=kO (p:=p) g l (i+1)
   simp only [List.length_cons]
   rw [show i+(l.length+1)=i+1+l.length by omega]
   simp only [↓reduceIte]
   rw [this,List.length_cons];congr 2;omega
  | false=>simp
def run (p:Int→Bool) (s:ByteArray):Nat:=((bl s).takeWhile p).length
theorem C3 (p:Int→Bool) (s:ByteArray):run p s≤s.size:=by
 unfold run;rw [← dF]
 exact (List.takeWhile_sublist p).length_le
theorem PS (s:ByteArray) (h:s.size≤4000000000):jK s=some (run fr s:Int):=by
 unfold jK
 rw [bX (bl s) (by rw [dF];omega) (fun m i=>ep s m i) (fun i c k=>if fr c then k else some (i:Int)) (some ((0+(bl s).length:Nat):Int)) (fun m=>?_) (fun m i c hc=>?_) (by rw [dF,aL];omega)]
 ·rw [kO (fun n=>(n:Int))];simp [run]
 ·simp [ep,dF]
 ·have hi:=List.getElem?_eq_some_iff.1 hc
  have hlt:i<s.size:=by rw [← dF];exact hi.1
  simp [ep,byte_at,hc,hlt,aen]
theorem PR (s:ByteArray) (h:s.size≤4000000000):jJ s=some (run fy s:Int):=by
 unfold jJ
 rw [bX (bl s) (by rw [dF];omega) (fun m i=>eo s m i) (fun i c k=>if fy c then k else some (i:Int)) (some ((0+(bl s).length:Nat):Int)) (fun m=>?_) (fun m i c hc=>?_) (by rw [dF,aL];omega)]
 ·rw [kO (fun n=>(n:Int))];simp [run]
 ·simp [eo,dF]
 ·have hi:=List.getElem?_eq_some_iff.1 hc
  have hlt:i<s.size:=by rw [← dF];exact hi.1
  simp [eo,byte_at,hc,hlt,z8]
def JR (c:Int):Bool:=decide (32≤c)&&decide (c≤126)&&!(c == 34)
theorem aeh (c:Int):f236 c=some (JR c):=by
 unfold f236 JR;by_cases h1:32≤c <;> by_cases h2:c≤126 <;> simp [h1,h2]
theorem PQ (s:ByteArray) (h:s.size≤4000000000):jI s=some (run JR s:Int):=by
 unfold jI
 rw [bX (bl s) (by rw [dF];omega) (fun m i=>ej s m i) (fun i c k=>if JR c then k else some (i:Int)) (some ((0+(bl s).length:Nat):Int)) (fun m=>?_) (fun m i c hc=>?_) (by rw [dF,aL];omega)]
 ·rw [kO (fun n=>(n:Int))];simp [run]
 ·simp [ej,dF]
 ·have hi:=List.getElem?_eq_some_iff.1 hc
  have hlt:i<s.size:=by rw [← dF];exact hi.1
  simp [ej,byte_at,hc,hlt,aeh]
theorem aev (s:ByteArray) (h:s.size≤4000000000):f190 s 0 false=some (run fr s:Int):=by
 unfold f190
 rw [bX (bl s) (by rw [dF];omega) (fun m i=>fT s 0 false m i) (fun i c k=>if fr c then k else some (i:Int)) (some ((0+(bl s).length:Nat):Int)) (fun m=>?_) (fun m i c hc=>?_) (by rw [dF,aL];omega)]
 ·rw [kO (fun n=>(n:Int))];simp [run]
 ·have:w64 (0+(s.size:Int))=s.size:=by rw [Int.zero_add];exact iI (by omega)
  simp only [fT,dF,this];simp
 ·have hi:=List.getElem?_eq_some_iff.1 hc
  have hlt:i<s.size:=by rw [← dF];exact hi.1
  have:w64 (0+(i:Int))=i:=by rw [Int.zero_add];exact iI (by omega)
  simp only [fT,this,byte_at,hc,EL,EM,Option.bind_some,fr]
  by_cases h1:fy c=true <;> by_cases h2:gA c=true <;> simp [hlt,h1,h2]
theorem aew (s:ByteArray) (h:s.size≤4000000000):∃ n:Nat,f190 s 0 true=some (n:Int)∧n≤s.size:=by
 refine ⟨run fy s,?_,C3 _ _⟩
 unfold f190
 rw [bX (bl s) (by rw [dF];omega) (fun m i=>fT s 0 true m i) (fun i c k=>if fy c then k else some (i:Int)) (some ((0+(bl s).length:Nat):Int)) (fun m=>?_) (fun m i c hc=>?_) (by rw [dF,aL];omega)]
 ·rw [kO (fun n=>(n:Int))];simp [run]
 ·have:w64 (0+(s.size:Int))=s.size:=by rw [Int.zero_add];exact iI (by omega)
  simp only [fT,dF,this];simp
 ·have hi:=List.getElem?_eq_some_iff.1 hc
  have hlt:i<s.size:=by rw [← dF];exact hi.1
  have:w64 (0+(i:Int))=i:=by rw [Int.zero_add];exact iI (by omega)
  simp only [fT,this,byte_at,hc,EL,EM,Option.bind_some]
  by_cases h1:fy c=true <;> simp [hlt,h1]
theorem aeu (s:ByteArray) (h:s.size≤4000000000) (h0:0<s.size):∃ v:Int,f191 s 0=some v∧(v=0∨(2≤v∧v≤s.size)):=by
 unfold f191
 refine loop_up (mq s 0) s.size (by omega) (fun i r=>1≤i→∃ v:Int,r=some v∧(v=0∨((i+1:Nat)≤v∧v≤s.size))) (fun m _=>?_) (fun m i hi ih h1=>?_) 1 (by omega) ax (by rw [aL];omega) (Nat.le_refl _)
 ·have:w64 (0+(s.size:Int))=s.size:=by rw [Int.zero_add];exact iI (by omega)
  exact ⟨0,by simp only [mq,this];simp,.inl rfl⟩
 ·have:w64 (0+(i:Int))=i:=by rw [Int.zero_add];exact iI (by omega)
  have hb:i<(bl s).length:=by rw [dF];exact hi
  obtain ⟨v,hv,hv2⟩:=ih (by omega)
  rw [fA (by omega)] at hv
  simp only [mq,this,byte_at,List.getElem?_eq_getElem hb,Option.bind_some,hv,fA (show i<4611686018427387904 by omega)]
  generalize (bl s)[i]=c
  have hlt:(i:Int)<s.size:=by omega
  simp only [hlt,decide_true,↓reduceIte]
  by_cases c1:(c == 34)=true
  ·exact ⟨((i+1:Nat):Int),by simp only [c1,↓reduceIte],.inr (by omega)⟩
  ·simp only [c1]
   by_cases c2:c<32
   ·exact ⟨0,by simp [c2],.inl rfl⟩
   ·by_cases c3:126<c
    ·exact ⟨0,by simp [c2,c3],.inl rfl⟩
    ·refine ⟨v,by simp only [c2,c3,decide_false,Bool.false_eq_true,↓reduceIte],?_⟩
     rcases hv2 with h | h
     ·exact .inl h
     ·exact .inr (by omega)
def Def {α:Type} (o:Option α):Prop:=∃ a,o=some a
theorem extract_size (s:ByteArray) (i j:Nat) (hj:j≤s.size):(s.extract i j).size=j - i:=by
 rw [ByteArray.size_extract];omega
theorem aem (s:ByteArray) (h:s.size≤4000000000) (h0:0<s.size):Def (f220 s):=by
 unfold f220 Def
 have hs:=extract_size s 1 s.size (Nat.le_refl _)
 have hr:=PQ (s.extract 1 s.size) (by omega)
 have hl:=C3 JR (s.extract 1 s.size)
 simp only [Int.toNat_one,hr,Option.bind_some]
 generalize run JR (s.extract 1 s.size)=n at hl
 have h1:w64 (1+(n:Int))=((1+n:Nat):Int):=by rw [bS (by omega) (by omega)];omega
 simp only [h1]
 have h2:(1:Int)≤s.size:=by omega
 simp only [h2]
 by_cases h3:((1+n:Nat):Int)=s.size
 ·simp [h3]
 ·have hlt:1+n<(bl s).length:=by rw [dF];omega
  simp only [byte_at,List.getElem?_eq_getElem hlt,Option.bind_some]
  simp only [beq_eq_false_iff_ne.2 h3]
  by_cases h4:((bl s)[1+n] == 34)=true <;> by_cases h5:(60:Int)<n <;> simp [h4,h5]
theorem aej (s:List ByteArray) (v:ByteArray) (h:s.length≤4000000000):∃ r:Int,f223 s v=some r∧(0≤r↔(s.any fun x=>decide (v=x))=true):=by
 unfold f223
 rw [bX s (by omega) (fun m i=>mh s v m i) (fun i x k=>(some (decide (v=x))).bind fun b=>if b then some (i:Int) else k) (some (-1)) (fun m=>?_) (fun m i x hx=>?_) (by rw [aL];omega)]
 ·obtain ⟨r,h1,h2,_⟩:=cu (fun x=>some (decide (v=x))) (fun x=>decide (v=x)) s (fun _ _=>rfl) 0
  exact ⟨r,h1,h2⟩
 ·simp [mh]
 ·have hi:=(List.getElem?_eq_some_iff.1 hx).1
  simp only [mh,bB,hx,Option.bind_some];simp [hi]
theorem PU (s:List ByteArray) (v:ByteArray) (h:s.length≤4000000000):f200 s v=some (s.any fun x=>decide (v=x)):=by
 unfold f200
 obtain ⟨r,h1,h2⟩:=aej s v h
 rw [h1,Option.bind_some]
 congr 1
 rw [Bool.eq_iff_iff,← h2];simp
theorem ael (s:ByteArray):Def (f221 s):=by
 unfold f221 Def
 by_cases h:(2:Int)≤s.size
 ·simp [h,PU]
 ·simp [h]
theorem aek (s:ByteArray) (c:Int):Def (f222 s c):=⟨_,rfl⟩
def isName (s:ByteArray):Bool:=match bl s with
 | []=>false
 | c::_=>gA c&&(decide (run fr s≤20)&&decide (run fr s=s.size))
theorem wx (s:ByteArray) (h:s.size≤4000000000):f145 s=some (isName s):=by
 unfold f145 f173
 simp only [show ((1:Int) == 3)=false from rfl,Bool.false_eq_true,↓reduceIte]
 by_cases h0:s=ByteArray.mk (List.toArray [])
 ·subst h0;rfl
 ·have hpos:0<s.size:=by
   rcases Nat.eq_zero_or_pos s.size with h1 | h1
   ·exfalso;apply h0
    obtain ⟨d⟩:=s
    have:d=#[]:=Array.size_eq_zero_iff.1 h1
    rw [this]
   ·exact h1
  simp only [h0,decide_false,Bool.false_eq_true,↓reduceIte]
  unfold f198
  cases hbl:bl s with
  | nil=>rw [← dF,hbl] at hpos;simp at hpos
  | cons c r=>
   have hb0:ea s 0=some c:=by
    have:=byte_at s 0
    rw [hbl] at this;simpa using this
   simp only [hb0,Option.bind_some,Ey,z8,isName,hbl]
   cases hL:gA c with
   | true=>
    simp only [↓reduceIte,PS s h,Option.bind_some,Bool.true_and]
    by_cases h20:run fr s≤20
    ·have:¬ ((20:Int)<run fr s):=by omega
     simp [this,h20]
     rw [Bool.eq_iff_iff];simp;omega
    ·have:((20:Int)<run fr s):=by omega
     simp [this,h20]
   | false=>
    simp only [Bool.false_eq_true,↓reduceIte,Bool.false_and]
    cases hD:fy c with
    | true=>
     simp only [↓reduceIte,PR s h,Option.bind_some]
     by_cases h9:(9:Int)<run fy s <;> simp [h9]
    | false=>
     simp only [Bool.false_eq_true,↓reduceIte]
     by_cases h34:(c == 34)=true
     ·obtain ⟨x,hx⟩:=aem s h hpos
      simp only [h34,↓reduceIte,hx,Option.bind_some]
      by_cases hz:(x.2 == 0)=true <;> simp [hz]
     ·obtain ⟨x,hx⟩:=ael s
      obtain ⟨y,hy⟩:=aek (ByteArray.mk (List.toArray [123,125,40,41,91,93,44,59,58,61,43,45,42,60,62,33,38,124,46,63])) c
      simp only [h34,hx,hy,Option.bind_some]
      cases x <;> by_cases hy0:0≤y <;> simp [hy0]
theorem P1 (s:ByteArray) (x10:List ByteArray) (h:s.size≤4000000000) (hx:∀ x∈x10,x.size≤2) (hl:x10.length≤100) (a b:Int):∃ (t:Token) (n e:Int),iV s 0 x10 ax 0 a b=some (t,n,e)∧(t.Kind == 1)=false:=by
 refine loop_up (fun m i=>iV s 0 x10 m i a b) x10.length (by omega) (fun i r=>∃ (t:Token) (n e:Int),r=some (t,n,e)∧(t.Kind == 1)=false) (fun m=>?_) (fun m i hi ih=>?_) 0 (Nat.zero_le _) ax (by rw [aL];omega)
 ·exact ⟨Token.mk 0 ⟨#[]⟩ 0,0,2,by simp [iV],rfl⟩
 ·have hg:x10[i]?=some x10[i]:=List.getElem?_eq_getElem hi
  have hs:=hx x10[i] (List.getElem_mem hi)
  generalize x10[i]=y at hg hs
  have hw:w64 (0+(y.size:Int))=y.size:=by rw [Int.zero_add];exact iI (by omega)
  have hi2:(i:Int)<x10.length:=by omega
  have hi0:(0:Int)≤i:=by omega
  have hys:(0:Int)≤y.size:=by omega
  simp only [iV,hi2,hi0,decide_true,Bool.and_self,↓reduceIte,Int.toNat_natCast,hg,Option.bind_some,hw]
  by_cases c1:(y.size:Int)≤s.size
  ·simp only [c1,hys,decide_true,↓reduceIte,and_self,Int.le_refl]
   split
   ·exact ⟨_,_,_,rfl,rfl⟩
   ·exact ih
  ·simp only [c1,decide_false,Bool.false_eq_true,↓reduceIte]
   exact ih
theorem wA (s:ByteArray) (h:s.size≤4000000000):f100 s=some (isName s):=by
 unfold f100 f131 f162
 simp only [show ((1:Int) == 3)=false from rfl,Bool.false_eq_true,↓reduceIte,Option.bind_some]
 by_cases h0:s=ByteArray.mk (List.toArray [])
 ·subst h0;rfl
 ·have hpos:0<s.size:=by
   rcases Nat.eq_zero_or_pos s.size with h1 | h1
   ·exfalso;apply h0
    obtain ⟨d⟩:=s
    have:d=#[]:=Array.size_eq_zero_iff.1 h1
    rw [this]
   ·exact h1
  simp only [h0,decide_false,Bool.false_eq_true,↓reduceIte]
  unfold f163
  cases hbl:bl s with
  | nil=>rw [← dF,hbl] at hpos;simp at hpos
  | cons c r=>
   have hb0:ea s 0=some c:=by
    have:=byte_at s 0
    rw [hbl] at this;simpa using this
   simp only [hb0,Option.bind_some,EM,EL,isName,hbl]
   cases hL:gA c with
   | true=>
    have hr:=C3 fr s
    have hw:w64 (0+(run fr s:Int))=run fr s:=by rw [Int.zero_add];exact iI (by omega)
    simp only [↓reduceIte,zd hL,aev s h,Option.bind_some,Bool.true_and,Bool.false_eq_true,hw]
    by_cases h20:run fr s≤20
    ·have h1:¬ ((20:Int)<run fr s):=by omega
     have h2:(0:Int)≤run fr s:=by omega
     have h3:(run fr s:Int)≤s.size:=by omega
     simp only [h1,h2,h3,h20,decide_true,decide_false,Bool.false_eq_true,↓reduceIte,Int.le_refl,and_self,Option.bind_some,Bool.true_and]
     by_cases h4:run fr s=s.size
     ·simp [h4]
     ·have h5:¬ ((run fr s:Int)=s.size):=by omega
      simp [h4,h5]
    ·have:((20:Int)<run fr s):=by omega
     simp [this,h20]
   | false=>
    simp only [Bool.false_eq_true,↓reduceIte,Bool.false_and]
    cases hD:fy c with
    | true=>
     obtain ⟨n,hn,hn2⟩:=aew s h
     have hw:w64 (0+(n:Int))=n:=by rw [Int.zero_add];exact iI (by omega)
     have h2:(0:Int)≤n:=by omega
     have h3:(n:Int)≤s.size:=by omega
     simp only [↓reduceIte,hn,Option.bind_some,hw]
     by_cases h9:(9:Int)<n
     ·simp only [h9,decide_true,↓reduceIte,Option.bind_some];simp
     ·simp only [h9,decide_false,Bool.false_eq_true,↓reduceIte,h2,h3,Int.le_refl,and_self,decide_true,Option.bind_some]
      by_cases h4:((n:Int) == s.size)=true <;> simp [h4]
    | false=>
     simp only [Bool.false_eq_true,↓reduceIte]
     by_cases h34:(c == 34)=true
     ·obtain ⟨x,hx,hx2⟩:=aeu s h hpos
      simp only [h34,↓reduceIte,hx,Option.bind_some]
      rcases hx2 with rfl | ⟨g1,g2⟩
      ·simp
      ·have e1:(x == 0)=false:=by simp;omega
       have e2:w64 (x - 2)=x - 2:=bS (by omega) (by omega)
       have e3:w64 (0+1)=1:=by rw [bS (by omega) (by omega)];rfl
       have e4:w64 (0+x)=x:=by rw [Int.zero_add];exact bS (by omega) (by omega)
       have e5:w64 (x - 1)=x - 1:=bS (by omega) (by omega)
       simp only [e1,e2,e3,e4,e5,Bool.false_eq_true,↓reduceIte]
       have b1:(0:Int)≤1:=by omega
       have b2:(1:Int)≤x - 1:=by omega
       have b3:x - 1≤(s.size:Int):=by omega
       by_cases h60:(60:Int)<x - 2
       ·simp only [h60,decide_true,↓reduceIte,Option.bind_some];simp
       ·simp only [h60,decide_false,Bool.false_eq_true,↓reduceIte,b1,b2,b3,and_self,decide_true,Option.bind_some]
        by_cases h4:(x == (s.size:Int))=true <;> simp [h4]
     ·obtain ⟨t,n,e,h1,h2⟩:=P1 s _ h (show ∀ x∈(ByteArray.mk (List.toArray [45,62]))::((ByteArray.mk (List.toArray [60,61]))::((ByteArray.mk (List.toArray [62,61]))::((ByteArray.mk (List.toArray [61,61]))::((ByteArray.mk (List.toArray [33,61]))::((ByteArray.mk (List.toArray [123]))::((ByteArray.mk (List.toArray [125]))::((ByteArray.mk (List.toArray [40]))::((ByteArray.mk (List.toArray [41]))::((ByteArray.mk (List.toArray [91]))::((ByteArray.mk (List.toArray [93]))::((ByteArray.mk (List.toArray [44]))::((ByteArray.mk (List.toArray [59]))::((ByteArray.mk (List.toArray [58]))::((ByteArray.mk (List.toArray [61]))::((ByteArray.mk (List.toArray [43]))::((ByteArray.mk (List.toArray [45]))::((ByteArray.mk (List.toArray [42]))::((ByteArray.mk (List.toArray [60]))::((ByteArray.mk (List.toArray [62]))::((ByteArray.mk (List.toArray [33]))::((ByteArray.mk (List.toArray [38]))::((ByteArray.mk (List.toArray [124]))::((ByteArray.mk (List.toArray [46]))::((ByteArray.mk (List.toArray [63]))::([]:List ByteArray))))))))))))))))))))))))),x.size≤2 from of_decide_eq_true (by decide)) (by decide) 0 0
      simp only [h34,Bool.false_eq_true,↓reduceIte,f192,Option.bind_some,h1]
      by_cases he:(e == 0)=true <;> by_cases hn:(n == (s.size:Int))=true <;> simp [he,hn,h2]
end Go.S
end
section
set_option linter.all false
set_option maxRecDepth 10000
namespace Go.S
open Go Go.Pm
def Txt (l:List ByteArray):Prop:=l.length≤1048576∧∀ x∈l,x.size≤1048576
theorem Q5 (l:List ByteArray) (v:ByteArray):(l.any fun x=>decide (v=x))=l.any fun x=>decide (x=v):=by
 congr 1;funext x;simp [eq_comm]
def kX (l:List ByteArray) (i:Nat) (x:ByteArray) (k:Option Int):Option Int:=
 if isName x=true then (if ((l.take i).any fun y=>decide (y=x))=true then some 5 else k) else some 2
theorem PX (l:List ByteArray) (h:Txt l):kc l ax 0=walk (kX l) (some 0) 0 l:=by
 obtain ⟨hl,hx⟩:=h
 refine bX l (by omega) (fun m i=>kc l m i) _ _ (fun m=>?_) (fun m i x hi=>?_) (by rw [aL];omega)
 ·simp [kc]
 ·have hlt:=(List.getElem?_eq_some_iff.1 hi).1
  have hsz:=hx x (List.mem_of_getElem? hi)
  have h1:(i:Int)<l.length:=by omega
  have h2:(0:Int)≤i:=by omega
  have h3:(i:Int)≤l.length:=by omega
  simp only [kc,h1,h2,h3,bB,hi,wx x (by omega),Option.bind_some,decide_true,↓reduceIte,and_self,Int.toNat_natCast,PU (l.take i) x (by simp;omega),Q5,kX]
  by_cases c1:isName x=true <;> simp [c1]
theorem UN (l:List ByteArray) (i:Nat) (hi:i<l.length) (hl:l.length≤1048576) (k0:Int→Option Int):iY l i k0 ax 0=if ((l.take i).any fun y=>decide (y=l[i]))=true then some 5 else k0 (w64 ((i:Int)+1)):=by
 have:=loop_up (fun m k=>iY l i k0 m k) i (by omega) (fun k r=>r=if (((l.take i).drop k).any fun y=>decide (y=l[i]))=true then some 5 else k0 (w64 ((i:Int)+1))) (fun m=>by
  have:(l.take i).drop i=[]:=by simp
  simp [iY,this]) (fun m k hk ih=>by
  have hkl:k<(l.take i).length:=by simp;omega
  have h1:(k:Int)<i:=by omega
  rw [List.drop_eq_getElem_cons hkl]
  simp only [iY,h1,decide_true,↓reduceIte,bB,List.getElem?_eq_getElem (show k<l.length by omega),List.getElem?_eq_getElem hi,Option.bind_some,List.any_cons,List.getElem_take]
  rw [ih]
  by_cases c:l[k]=l[i]
  ·rw [if_pos (decide_eq_true c),decide_eq_true c];rfl
  ·rw [decide_eq_false c];rfl) 0 (Nat.zero_le _) ax (by rw [aL];omega)
 rw [List.drop_zero] at this;exact this
theorem aeI (l:List ByteArray) (h:Txt l):iZ l ax 0=walk (kX l) (some 0) 0 l:=by
 obtain ⟨hl,hx⟩:=h
 refine bX l (by omega) (fun m i=>iZ l m i) _ _ (fun m=>?_) (fun m i x hi=>?_) (by rw [aL];omega)
 ·simp [iZ]
 ·have hlt:=(List.getElem?_eq_some_iff.1 hi).1
  have hxe:l[i]=x:=(List.getElem?_eq_some_iff.1 hi).2
  have hsz:=hx x (List.mem_of_getElem? hi)
  have h1:(i:Int)<l.length:=by omega
  simp only [iZ,h1,bB,hi,wA x (by omega),Option.bind_some,decide_true,↓reduceIte,kX,UN l i hlt hl,hxe]
  by_cases c1:isName x=true <;> simp [c1]
theorem BA (l:List ByteArray) (h:Txt l):Both (f177 l) (f132 l):=by
 unfold f177 f132
 rw [PX l h,aeI l h]
 by_cases c:(20:Int)<l.length
 ·exact ⟨3,by simp [c],by simp [c]⟩
 ·obtain ⟨v,hv⟩:=walk_def (kX l) (some 0) ⟨0,rfl⟩ l 0 fun i a k _ hk=>by
   unfold kX;split
   ·split
    ·exact ⟨_,rfl⟩
    ·exact hk
   ·exact ⟨_,rfl⟩
  exact ⟨v,by simp [c,hv],by simp [c,hv]⟩
theorem aey (s:List Attr) (n:ByteArray) (a b:Int) (c:List ByteArray) (h:s.length≤4000000000):eV s n a b c=some (s.any fun y=>decide (y.Name=n)):=by
 unfold eV fS
 rw [bX s (by omega) (fun m i=>cT s n a b c m i) (fun i x k=>(ix x n a b c).bind fun b=>if b then some (i:Int) else k) (some (-1)) (fun m=>by simp [cT]) (fun m i x hx=>by
  have hi:(i:Int)<s.length:=by have:=(List.getElem?_eq_some_iff.1 hx).1;omega
  simp only [cT,bB,hx,Option.bind_some,hi,decide_true,↓reduceIte]) (by rw [aL];omega)]
 obtain ⟨r,h1,h2,_⟩:=cu (fun x=>ix x n a b c) (fun y=>decide (y.Name=n)) s (fun _ _=>rfl) 0
 rw [h1,Option.bind_some,contains_of h2]
theorem aeF (s:List aE) (n:ByteArray) (a:Int) (b:Bool) (c:List Attr) (h:s.length≤4000000000):eW s n a b c=some (s.any fun y=>decide (y.Name=n)):=by
 unfold eW fU
 rw [bX s (by omega) (fun m i=>cU s n a b c m i) (fun i x k=>(iz x n a b c).bind fun b=>if b then some (i:Int) else k) (some (-1)) (fun m=>by simp [cU]) (fun m i x hx=>by
  have hi:(i:Int)<s.length:=by have:=(List.getElem?_eq_some_iff.1 hx).1;omega
  simp only [cU,bB,hx,Option.bind_some,hi,decide_true,↓reduceIte]) (by rw [aL];omega)]
 obtain ⟨r,h1,h2,_⟩:=cu (fun x=>iz x n a b c) (fun y=>decide (y.Name=n)) s (fun _ _=>rfl) 0
 rw [h1,Option.bind_some,contains_of h2]
theorem aeC (s:List aG) (n:ByteArray) (a b c d e f:Int) (h:s.length≤4000000000):dR s n a b c d e f=some (s.any fun y=>decide (y.Name=n)):=by
 unfold dR eM
 rw [bX s (by omega) (fun m i=>cw s n a b c d e f m i) (fun i x k=>(fi x n a b c d e f).bind fun b=>if b then some (i:Int) else k) (some (-1)) (fun m=>by simp [cw]) (fun m i x hx=>by
  have hi:(i:Int)<s.length:=by have:=(List.getElem?_eq_some_iff.1 hx).1;omega
  simp only [cw,bB,hx,Option.bind_some,hi,decide_true,↓reduceIte]) (by rw [aL];omega)]
 obtain ⟨r,h1,h2,_⟩:=cu (fun x=>fi x n a b c d e f) (fun y=>decide (y.Name=n)) s (fun _ _=>rfl) 0
 rw [h1,Option.bind_some,contains_of h2]
def mR (x:Attr):Prop:=x.Name.size≤1048576∧Txt x.Names
theorem sU (n a b:Int):f92 n a b=some (decide (a≤n)&&decide (n≤b)):=by
 unfold f92;by_cases h:a≤n <;> simp [h]
theorem aeS (x:Attr) (h:mR x):∃ v,f102 x=some v:=by
 obtain ⟨v,h1,h2⟩:=BA x.Names h.2
 unfold f102
 simp only [sU,h2,Option.bind_some]
 repeat' split
 all_goals exact ⟨_,rfl⟩
theorem aeE (x:Attr) (before:List Attr) (h:mR x) (hb:before.length≤4000000000) :
  f149 x before=if isName x.Name=true then (if (before.any fun y=>decide (y.Name=x.Name))=true then some 5 else f102 x) else some 2:=by
 obtain ⟨v,h1,h2⟩:=BA x.Names h.2
 have hlen:=h.2.1
 unfold f149 f102
 simp only [wx x.Name (by have:=h.1;omega),aey before _ _ _ _ hb,Option.bind_some,sU,h1,h2]
 by_cases c1:isName x.Name=true
 ·simp only [c1,Bool.not_true,Bool.false_eq_true,↓reduceIte]
  by_cases c2:(before.any fun y=>decide (y.Name=x.Name))=true
  ·simp only [c2,↓reduceIte]
  ·simp only [c2,Bool.false_eq_true,↓reduceIte]
   have hw:w64 ((x.Names.length:Int) - 1)=(x.Names.length:Int) - 1:=bS (by omega) (by omega)
   simp only [hw]
   by_cases c3:x.Names.length=0
   ·have:x.Names=[]:=List.length_eq_zero_iff.1 c3
    have hv:v=0:=by
     rw [this] at h1
     have:f177 []=some 0:=by
      unfold f177
      rw [PX [] ⟨by simp,by simp⟩];rfl
     rw [this] at h1;exact (Option.some.inj h1).symm
    subst hv
    have c4:¬ ((0:Int)<x.Names.length):=by omega
    have c5:((x.Names.length:Int) == 0)=true:=by simp;omega
    simp only [c4,c5,decide_false,Bool.false_eq_true,↓reduceIte]
    by_cases d1 : -1000000≤x.Low <;> by_cases d2:x.Low≤x.High <;> by_cases d3:x.High≤1000000 <;> simp [d1,d2,d3] <;> omega
   ·have c4:((0:Int)<x.Names.length):=by omega
    have c5:((x.Names.length:Int) == 0)=false:=beq_eq_false_iff_ne.2 (by omega)
    simp only [c4,c5,decide_true,Bool.false_eq_true,↓reduceIte]
    by_cases d0:v=0
    ·subst d0
     by_cases d1 : -1000000≤x.Low <;> by_cases d2:x.Low≤x.High <;> by_cases d3:x.Low=0 <;> by_cases d4:x.High=(x.Names.length:Int) - 1 <;> simp [d1,d2,d3,d4]
    ·simp [d0]
 ·simp only [Bool.not_eq_true] at c1
  simp [c1]
end Go.S
end
section
set_option linter.all false
set_option maxRecDepth 10000
namespace Go.S
open Go Go.Pm
structure afv (x:aE):Prop where
 name:x.Name.size≤1048576
 len:x.Attrs.length≤1048576
 attrs:∀ a∈x.Attrs,mR a
structure kA (t:Types):Prop where
 nlen:t.Nodes.length≤1048576
 elen:t.Edges.length≤1048576
 nodes:∀ x∈t.Nodes,afv x
 edges:∀ x∈t.Edges,x.Name.size≤1048576
theorem LM {t:Types} (h:bG.ok 1048576 t):kA t:=by
 obtain ⟨⟨h1,h2⟩,h3,h4⟩:=h
 refine ⟨h1,h3,fun x hx=>?_,fun x hx=>(h4 x hx).1⟩
 obtain ⟨g1,g2,g3,g4,g5⟩:=h2 x hx
 refine ⟨g1,g4,fun a ha=>?_⟩
 obtain ⟨k1,k2,k3,k4,k5⟩:=g5 a ha
 exact ⟨k1,k4,k5⟩
def Par (t:Types) (i:Nat):Prop:=∀ x,t.Nodes[i]?=some x→-1≤x.Parent∧x.Parent<i
section
variable {R:bI} (h148:∀ a0 a1,R.f148 a0 a1=kj R a0 a1) (h101:∀ a0 a1,R.f101 a0 a1=ky R a0 a1)
include h148 h101
theorem IW {t:Types} (ht:kA t):∀ (i:Nat),i<t.Nodes.length→i<1000→(∀ j,j≤i→Par t j)→∃ l pre x,t.Nodes[i]?=some x∧l=pre ++ x.Attrs∧R.f148 t i=some l∧R.f101 t i=some l∧l.length≤(i+1)*1048576∧∀ a∈l,mR a:=by
 intro i
 induction i using Nat.strongRecOn with
 | ind i ih=>
  intro hi hi2 hp
  have hx:t.Nodes[i]?=some t.Nodes[i]:=List.getElem?_eq_getElem hi
  have hn:=ht.nodes t.Nodes[i] (List.getElem_mem hi)
  obtain ⟨p1,p2⟩:=hp i (Nat.le_refl _) _ hx
  generalize t.Nodes[i]=x at hx hn p1 p2
  have hi0:¬ ((i:Int)<0):=by omega
  by_cases hneg:0≤x.Parent
  ·obtain ⟨p,hpp⟩:∃ p:Nat,x.Parent=p:=⟨x.Parent.toNat,by omega⟩
   obtain ⟨l,pre,y,g1,g2,g3,g4,g5,g6⟩:=ih p (by omega) (by omega) (by omega) fun j hj=>hp j (by omega)
   have hm:(p+1)*1048576≤i*1048576:=Nat.mul_le_mul_right _ (by omega)
   have hlen:(l ++ x.Attrs).length≤(i+1)*1048576:=by rw [List.length_append];have:=hn.len;omega
   have hb:(l ++ x.Attrs).length≤bound:=by unfold bound;omega
   have hb':l.length≤bound:=by unfold bound;omega
   refine ⟨l ++ x.Attrs,l,x,hx,rfl,?_,?_,hlen,fun a ha=>(List.mem_append.1 ha).elim (g6 a) (hn.attrs a)⟩
   ·rw [h148];unfold kj
    have h0:(0:Int)≤p:=by omega
    simp only [bB,hx,Option.bind_some,hpp,h0,decide_true,↓reduceIte,g3,hb]
   ·rw [h101];unfold ky
    simp only [hi0,decide_false,Bool.false_eq_true,↓reduceIte,bB,hx,Option.bind_some,hpp,g4,hb,hb',decide_true]
  ·have hm1:x.Parent = -1:=by omega
   have hlen:x.Attrs.length≤(i+1)*1048576:=by have:=hn.len;omega
   have hb:x.Attrs.length≤bound:=by have:=hn.len;unfold bound;omega
   refine ⟨x.Attrs,[],x,hx,rfl,?_,?_,hlen,hn.attrs⟩
   ·rw [h148];unfold kj
    simp only [bB,hx,Option.bind_some,hneg,decide_false,Bool.false_eq_true,↓reduceIte,hb,decide_true]
   ·have hz:R.f101 t (-1)=some []:=by rw [h101];rfl
    have hb0:([]:List Attr).length≤bound:=Nat.zero_le _
    rw [h101];unfold ky
    simp only [hi0,decide_false,Bool.false_eq_true,↓reduceIte,bB,hx,Option.bind_some,hm1,hz,hb0,hb,decide_true,List.nil_append]
end
noncomputable def ly (l:List Attr) (k:Nat) (x:Attr) (rest:Option Int):Option Int:=
 if isName x.Name=true then (if ((l.take k).any fun y=>decide (y.Name=x.Name))=true then some 5 else (f102 x).bind fun e=>if (!(e == 0))=true then some e else rest) else some 2
theorem aeO (l:List Attr) (hl:l.length≤1073741824) (h:∀ a∈l,mR a) (k:Nat) (hk:k≤l.length):kr l ax k=walk (ly l) (some 0) k (l.drop k):=by
 refine xw l (by omega) (fun m i=>kr l m i) _ _ (fun m=>by simp [kr]) (fun m i x hx=>?_) k hk (by rw [aL];omega)
 have hi:=(List.getElem?_eq_some_iff.1 hx).1
 have h1:(i:Int)<l.length:=by omega
 have h2:(0:Int)≤i:=by omega
 have h3:(i:Int)≤l.length:=by omega
 have h4:i≤l.length:=by omega
 simp only [kr,h1,h2,h3,h4,decide_true,↓reduceIte,Bool.and_self,and_self,Int.toNat_natCast,hx,Option.bind_some,aeE x (l.take i) (h x (List.mem_of_getElem? hx)) (by simp;omega),ly]
 by_cases c1:isName x.Name=true
 ·simp only [c1,↓reduceIte]
  by_cases c2:((l.take i).any fun y=>decide (y.Name=x.Name))=true
  ·simp only [c2,↓reduceIte,Option.bind_some];rfl
  ·simp only [c2,Bool.false_eq_true,↓reduceIte]
 ·simp only [c1,Bool.false_eq_true,↓reduceIte,Option.bind_some];rfl
theorem ad5 (l:List Attr) (k:Nat) (x:Attr) (hx:l[k]?=some x) (hl:l.length≤1073741824) (k2:Int→Option Int):lY l k k2 ax 0 =
  if ((l.take k).any fun y=>decide (y.Name=x.Name))=true then some 5 else (f102 x).bind fun e=>if (!(e == 0))=true then some e else k2 (w64 ((k:Int)+1)):=by
 have hk:=(List.getElem?_eq_some_iff.1 hx).1
 have hk1:(k:Int)<l.length:=by omega
 have hk0:(0:Int)≤k:=by omega
 have:=loop_up (fun m j=>lY l k k2 m j) k (by omega) (fun j r=>r=if (((l.take k).drop j).any fun y=>decide (y.Name=x.Name))=true then some 5 else (f102 x).bind fun e=>if (!(e == 0))=true then some e else k2 (w64 ((k:Int)+1))) (fun m=>by
  have e:(l.take k).drop k=[]:=by simp
  have e2:¬ ((k:Int)<k):=by omega
  simp only [lY,e,e2,decide_false,Bool.false_eq_true,↓reduceIte,hk0,hk1,decide_true,Bool.and_self,Int.toNat_natCast,hx,Option.bind_some,List.any_nil]) (fun m j hj ih=>by
  have hjl:j<(l.take k).length:=by simp;omega
  have h1:(j:Int)<k:=by omega
  have h0:(0:Int)≤j:=by omega
  have h2:(j:Int)<l.length:=by omega
  rw [List.drop_eq_getElem_cons hjl]
  simp only [lY,h0,h1,h2,hk0,hk1,decide_true,↓reduceIte,Bool.and_self,Int.toNat_natCast,List.getElem?_eq_getElem (show j<l.length by omega),hx,Option.bind_some,List.any_cons,List.getElem_take]
  rw [ih]
  by_cases c:l[j].Name=x.Name
  ·rw [if_pos (decide_eq_true c),decide_eq_true c];rfl
  ·rw [decide_eq_false c];rfl) 0 (Nat.zero_le _) ax (by rw [aL];omega)
 rw [List.drop_zero] at this;exact this
theorem aqC (l:List Attr) (hl:l.length≤1073741824) (h:∀ a∈l,mR a) (k:Nat) (hk:k≤l.length):kH l ax k=walk (ly l) (some 0) k (l.drop k):=by
 refine xw l (by omega) (fun m i=>kH l m i) _ _ (fun m=>by simp [kH]) (fun m i x hx=>?_) k hk (by rw [aL];omega)
 have hi:=(List.getElem?_eq_some_iff.1 hx).1
 have h1:(i:Int)<l.length:=by omega
 have h2:(0:Int)≤i:=by omega
 have hs:=(h x (List.mem_of_getElem? hx)).1
 simp only [kH,h1,h2,decide_true,↓reduceIte,Bool.and_self,Int.toNat_natCast,hx,Option.bind_some,wA x.Name (by omega),ad5 l i x hx hl,ly]
 by_cases c1:isName x.Name=true
 ·simp only [c1,Bool.not_true,Bool.false_eq_true,↓reduceIte]
 ·simp only [Bool.not_eq_true] at c1
  simp only [c1,Bool.not_false,Bool.false_eq_true,↓reduceIte]
theorem FT (l:List Attr) (h:∀ a∈l,mR a) (k:Nat):∃ v,walk (ly l) (some 0) k (l.drop k)=some v:=
 walk_def _ _ ⟨0,rfl⟩ _ _ fun i a r ha hr=>by
  unfold ly
  obtain ⟨e,he⟩:=aeS a (h a (List.mem_of_mem_drop ha))
  rw [he,Option.bind_some]
  repeat' split
  all_goals first | exact hr | exact ⟨_,rfl⟩
noncomputable def qC (R:bI) (t:Types) (i:Int) (x0:aE):Option Int:=
 (f92 x0.Parent (-1) (w64 (i - 1))).bind fun x4=>
   if (!x4)=true then some 6
   else (R.f101 t i).bind fun x5=>
    if decide ((4:Int)<x0.Attrs.length)=true then some 3
    else if decide ((8:Int)<x5.length)=true then some 3
    else kH x5 ax (w64 ((x5.length:Int) - x0.Attrs.length))
theorem Ug (R:bI) (t:Types) (i:Nat) (x0:aE) (hi:i<t.Nodes.length) (hl:t.Nodes.length≤1048576):lZ R t i x0 ax 0=if ((t.Nodes.take i).any fun y=>decide (y.Name=x0.Name))=true then some 5 else qC R t i x0:=by
 have:=loop_up (fun m k=>lZ R t i x0 m k) i (by omega) (fun k r=>r=if (((t.Nodes.take i).drop k).any fun y=>decide (y.Name=x0.Name))=true then some 5 else qC R t i x0) (fun m=>by
  have e:(t.Nodes.take i).drop i=[]:=by simp
  have e2:¬ ((i:Int)<i):=by omega
  simp only [lZ,e,e2,decide_false,Bool.false_eq_true,↓reduceIte,List.any_nil,qC]) (fun m k hk ih=>by
  have hkl:k<(t.Nodes.take i).length:=by simp;omega
  have h1:(k:Int)<i:=by omega
  rw [List.drop_eq_getElem_cons hkl]
  simp only [lZ,h1,decide_true,↓reduceIte,bB,List.getElem?_eq_getElem (show k<t.Nodes.length by omega),Option.bind_some,List.any_cons,List.getElem_take]
  rw [ih]
  by_cases c:t.Nodes[k].Name=x0.Name
  ·rw [if_pos (decide_eq_true c),decide_eq_true c];rfl
  ·rw [decide_eq_false c];rfl) 0 (Nat.zero_le _) ax (by rw [aL];omega)
 rw [List.drop_zero] at this;exact this
section
variable {R:bI} (h148:∀ a0 a1,R.f148 a0 a1=kj R a0 a1) (h101:∀ a0 a1,R.f101 a0 a1=ky R a0 a1)
include h148 h101
theorem aco {t:Types} (ht:kA t) (i:Nat) (hi:i<t.Nodes.length) (hi2:i<1000) (hp:∀ j,j<i→Par t j):∃ e,f116 R t i=some e∧f68 R t i=some e∧(e=0→Par t i):=by
 have hx:t.Nodes[i]?=some t.Nodes[i]:=List.getElem?_eq_getElem hi
 have hn:=ht.nodes t.Nodes[i] (List.getElem_mem hi)
 have hl:=ht.nlen
 generalize t.Nodes[i]=x at hx hn
 have hs:=hn.name
 have h1:(0:Int)≤i:=by omega
 have h2:(i:Int)≤t.Nodes.length:=by omega
 unfold f116 f68
 simp only [bB,hx,Option.bind_some,wx x.Name (by omega),wA x.Name (by omega),Ug R t i x hi hl,h1,h2,and_self,decide_true,↓reduceIte,Int.toNat_natCast,aeF (t.Nodes.take i) _ _ _ _ (by simp;omega)]
 by_cases c1:isName x.Name=true
 ·simp only [c1,Bool.not_true,Bool.false_eq_true,↓reduceIte]
  by_cases c2:((t.Nodes.take i).any fun y=>decide (y.Name=x.Name))=true
  ·exact ⟨5,by simp only [c2,↓reduceIte],by simp only [c2,↓reduceIte],by omega⟩
  ·simp only [c2,Bool.false_eq_true,↓reduceIte,qC,sU,Option.bind_some]
   have hw:w64 ((i:Int) - 1)=(i:Int) - 1:=bS (by omega) (by omega)
   simp only [hw]
   by_cases d1:x.Parent < -1
   ·have d1':¬ (-1≤x.Parent):=by omega
    exact ⟨6,by simp only [d1,decide_true,↓reduceIte],by simp only [d1',decide_false,Bool.false_and,Bool.not_false,↓reduceIte],by omega⟩
   ·have d1' : -1≤x.Parent:=by omega
    by_cases d2:(i:Int)≤x.Parent
    ·have d2':¬ (x.Parent≤(i:Int) - 1):=by omega
     exact ⟨6,by simp only [d1,d2,decide_true,decide_false,Bool.false_eq_true,↓reduceIte],by simp only [d1',d2',decide_true,decide_false,Bool.and_false,Bool.not_false,↓reduceIte],by omega⟩
    ·have d2':x.Parent≤(i:Int) - 1:=by omega
     have hpi:Par t i:=fun y hy=>by rw [hx] at hy;obtain rfl:=Option.some.inj hy;exact ⟨d1',by omega⟩
     obtain ⟨l,pre,y,g1,g2,g3,g4,g5,g6⟩:=IW h148 h101 ht i hi hi2 fun j hj=>by
      rcases Nat.lt_or_eq_of_le hj with h | h
      ·exact hp j h
      ·rw [h];exact hpi
     rw [hx] at g1;obtain rfl:=Option.some.inj g1
     simp only [d1,d2,d1',d2',decide_true,decide_false,Bool.false_eq_true,Bool.and_self,Bool.not_true,↓reduceIte,g3,g4,Option.bind_some]
     have hle:x.Attrs.length≤l.length:=by rw [g2];simp
     have hl5:l.length≤1073741824:=by omega
     have hw2:w64 ((l.length:Int) - x.Attrs.length)=((l.length - x.Attrs.length:Nat):Int):=by rw [bS (by omega) (by omega)];omega
     simp only [hw2,aeO l hl5 g6 _ (Nat.sub_le _ _),aqC l hl5 g6 _ (Nat.sub_le _ _)]
     obtain ⟨v,hv⟩:=FT l g6 (l.length - x.Attrs.length)
     simp only [hv]
     by_cases e1:(4:Int)<x.Attrs.length
     ·exact ⟨3,by simp only [e1,decide_true,↓reduceIte],by simp only [e1,decide_true,↓reduceIte],fun _=>hpi⟩
     ·by_cases e2:(8:Int)<l.length
      ·exact ⟨3,by simp only [e1,e2,decide_true,decide_false,Bool.false_eq_true,↓reduceIte],by simp only [e1,e2,decide_true,decide_false,Bool.false_eq_true,↓reduceIte],fun _=>hpi⟩
      ·exact ⟨v,by simp only [e1,e2,decide_false,Bool.false_eq_true,↓reduceIte],by simp only [e1,e2,decide_false,Bool.false_eq_true,↓reduceIte],fun _=>hpi⟩
 ·simp only [Bool.not_eq_true] at c1
  exact ⟨2,by simp only [c1,Bool.not_false,↓reduceIte],by simp only [c1,Bool.not_false,↓reduceIte],by omega⟩
end
end Go.S
end
section
set_option linter.all false
set_option maxRecDepth 10000
namespace Go.S
open Go Go.Pm
theorem aeB (low high:Int):f103 low high=f153 low high:=by
 unfold f103 f153
 simp only [sU,Option.bind_some]
 by_cases h1:(0:Int)≤low <;> by_cases h2:low≤40 <;> by_cases h3:(high == -1)=true <;> by_cases h4:low≤high <;> simp [h1,h2,h3,h4]
theorem P2 (low high:Int):∃ b,f153 low high=some b:=by
 unfold f153;repeat' split
 all_goals exact ⟨_,rfl⟩
theorem aeD (n:Int) (c1:List aE) (c2:List aG):jd n c1 c2=some (decide (0≤n)&&decide (n<c1.length)):=by
 unfold jd;by_cases h:0≤n <;> simp [h]
noncomputable def rf (t:Types) (i:Int) (x0:aG):Option Int:=
 (Option.bind (Go.S.f92 x0.From (0:Int) (Go.Pm.w64 ((((List.length t.Nodes):Nat):Int) - (1:Int)))) fun x4=>
   (if (!x4) then
   (some (6:Int))
  else (Option.bind (Go.S.f92 x0.To (0:Int) (Go.Pm.w64 ((((List.length t.Nodes):Nat):Int) - (1:Int)))) fun x5=>
   (if (!x5) then
   (some (6:Int))
  else (Option.bind (Go.S.f103 x0.OutLow x0.OutHigh) fun x6=>
   (if (!x6) then
   (some (6:Int))
  else (Option.bind (Go.S.f103 x0.InLow x0.InHigh) fun x7=>
   (if (!x7) then
   (some (6:Int))
  else (some (0:Int))))))))))
theorem Uf (t:Types) (i:Nat) (x0:aG) (hi:i<t.Edges.length) (hl:t.Edges.length≤1048576):lX t i x0 ax 0=if ((t.Edges.take i).any fun y=>decide (y.Name=x0.Name))=true then some 5 else rf t i x0:=by
 have:=loop_up (fun m k=>lX t i x0 m k) i (by omega) (fun k r=>r=if (((t.Edges.take i).drop k).any fun y=>decide (y.Name=x0.Name))=true then some 5 else rf t i x0) (fun m=>by
  have e:(t.Edges.take i).drop i=[]:=by simp
  have e2:¬ ((i:Int)<i):=by omega
  simp only [lX,e,e2,decide_false,Bool.false_eq_true,↓reduceIte,List.any_nil,rf]) (fun m k hk ih=>by
  have hkl:k<(t.Edges.take i).length:=by simp;omega
  have h1:(k:Int)<i:=by omega
  rw [List.drop_eq_getElem_cons hkl]
  simp only [lX,h1,decide_true,↓reduceIte,bB,List.getElem?_eq_getElem (show k<t.Edges.length by omega),Option.bind_some,List.any_cons,List.getElem_take]
  rw [ih]
  by_cases c:t.Edges[k].Name=x0.Name
  ·rw [if_pos (decide_eq_true c),decide_eq_true c];rfl
  ·rw [decide_eq_false c];rfl) 0 (Nat.zero_le _) ax (by rw [aL];omega)
 rw [List.drop_zero] at this;exact this
def sq (t:Types) (i:Nat):Prop:=∀ x,t.Edges[i]?=some x→(0≤x.From∧x.From<t.Nodes.length)∧(0≤x.To∧x.To<t.Nodes.length)
theorem aeX {t:Types} (ht:kA t) (i:Nat) (hi:i<t.Edges.length):∃ e,f117 t i=some e∧f69 t i=some e∧(e=0→sq t i):=by
 have hx:t.Edges[i]?=some t.Edges[i]:=List.getElem?_eq_getElem hi
 have hs:=ht.edges t.Edges[i] (List.getElem_mem hi)
 have hl:=ht.elen
 have hl2:=ht.nlen
 generalize t.Edges[i]=x at hx hs
 have h1:(0:Int)≤i:=by omega
 have h2:(i:Int)≤t.Edges.length:=by omega
 have hw:w64 ((t.Nodes.length:Int) - 1)=(t.Nodes.length:Int) - 1:=bS (by omega) (by omega)
 unfold f117 f69
 simp only [bB,hx,Option.bind_some,wx x.Name (by omega),wA x.Name (by omega),Uf t i x hi hl,h1,h2,and_self,decide_true,↓reduceIte,Int.toNat_natCast,aeC (t.Edges.take i) _ _ _ _ _ _ _ (by simp;omega)]
 by_cases c1:isName x.Name=true
 ·simp only [c1,Bool.not_true,Bool.false_eq_true,↓reduceIte]
  by_cases c2:((t.Edges.take i).any fun y=>decide (y.Name=x.Name))=true
  ·exact ⟨5,by simp only [c2,↓reduceIte],by simp only [c2,↓reduceIte],by omega⟩
  ·simp only [c2,Bool.false_eq_true,↓reduceIte,rf,sU,aeD,Option.bind_some,hw,aeB]
   have e1:∀ z:Int,(decide (z≤(t.Nodes.length:Int) - 1))=decide (z<t.Nodes.length):=fun z=>by rw [Bool.eq_iff_iff];simp;omega
   simp only [e1]
   obtain ⟨b5,h5⟩:=P2 x.OutLow x.OutHigh
   obtain ⟨b6,h6⟩:=P2 x.InLow x.InHigh
   simp only [h5,h6,Option.bind_some]
   by_cases d1:(0≤x.From∧x.From<t.Nodes.length)
   ·by_cases d2:(0≤x.To∧x.To<t.Nodes.length)
    ·have hE:sq t i:=fun y hy=>by rw [hx] at hy;obtain rfl:=Option.some.inj hy;exact ⟨d1,d2⟩
     simp only [d1.1,d1.2,d2.1,d2.2,decide_true,Bool.and_self,Bool.not_true,Bool.false_eq_true,↓reduceIte]
     cases b5 with
     | true=>cases b6 with
      | true=>exact ⟨0,rfl,rfl,fun _=>hE⟩
      | false=>exact ⟨6,rfl,rfl,fun _=>hE⟩
     | false=>exact ⟨6,rfl,rfl,fun _=>hE⟩
    ·have d2':(decide (0≤x.To)&&decide (x.To<t.Nodes.length))=false:=by rw [← Bool.decide_and];exact decide_eq_false d2
     simp only [d1.1,d1.2,d2',decide_true,Bool.and_self,Bool.not_true,Bool.not_false,Bool.false_eq_true,↓reduceIte]
     exact ⟨6,rfl,rfl,by omega⟩
   ·have d1':(decide (0≤x.From)&&decide (x.From<t.Nodes.length))=false:=by rw [← Bool.decide_and];exact decide_eq_false d1
    simp only [d1',Bool.not_false,↓reduceIte]
    exact ⟨6,rfl,rfl,by omega⟩
 ·simp only [Bool.not_eq_true] at c1
  exact ⟨2,by simp only [c1,Bool.not_false,↓reduceIte],by simp only [c1,Bool.not_false,↓reduceIte],by omega⟩
structure tg (t:Types):Prop where
 n:t.Nodes.length≤12
 e:t.Edges.length≤20
 par:∀ i,i<t.Nodes.length→Par t i
 ends:∀ i,i<t.Edges.length→sq t i
section
variable {R:bI} (h148:∀ a0 a1,R.f148 a0 a1=kj R a0 a1) (h101:∀ a0 a1,R.f101 a0 a1=ky R a0 a1)
theorem Ve {t:Types} (ht:kA t):∃ p,nQ t ax 0=some p∧l9 t ax 0=some p∧(p.2=0→∀ i,i<t.Edges.length→sq t i):=by
 have hl:=ht.elen
 have:=fF (nQ t) (l9 t) t.Edges.length (by omega) (fun i a b=>(∀ j,j<i→sq t j)→∃ p:ByteArray × Int,a=some p∧b=some p∧(p.2=0→∀ j,j<t.Edges.length→sq t j)) (fun m m' hpre=>by
  exact ⟨_,by simp [nQ];rfl,by simp [l9],fun _=>hpre⟩) (fun m m' i hi ih hpre=>by
  obtain ⟨e,g1,g2,g3⟩:=aeX ht i hi
  have h1:(i:Int)<t.Edges.length:=by omega
  simp only [nQ,l9,h1,decide_true,↓reduceIte,bB,List.getElem?_eq_getElem hi,Option.bind_some,g1,g2]
  by_cases he:e=0
  ·subst he
   simp only [show (!((0:Int) == 0))=false from rfl,Bool.false_eq_true,↓reduceIte]
   exact ih fun j hj=>by
    rcases Nat.lt_or_eq_of_le (Nat.le_of_lt_succ hj) with h | h
    ·exact hpre j h
    ·rw [h];exact g3 rfl
  ·have he':(!(e == 0))=true:=by simp [he]
   simp only [he',↓reduceIte]
   exact ⟨_,rfl,rfl,fun h=>absurd h he⟩) 0 (Nat.zero_le _) ax ax (by rw [aL];omega) (by rw [aL];omega)
 exact this fun j hj=>by omega
include h148 h101
theorem yw {t:Types} (ht:kA t):∃ p,f78 R t=some p∧f44 R t=some p∧(p.2=0→tg t):=by
 have hl:=ht.nlen
 unfold f78 f44
 by_cases c0:(((t.Nodes.length:Nat):Int) == 0)=true
 ·simp only [c0,↓reduceIte];exact ⟨_,rfl,rfl,fun h=>by simp at h⟩
 ·simp only [c0,Bool.false_eq_true,↓reduceIte]
  by_cases c1:(12:Int)<t.Nodes.length
  ·simp only [c1,decide_true,↓reduceIte];exact ⟨_,rfl,rfl,fun h=>by simp at h⟩
  ·by_cases c2:(20:Int)<t.Edges.length
   ·simp only [c1,c2,decide_true,decide_false,Bool.false_eq_true,↓reduceIte];exact ⟨_,rfl,rfl,fun h=>by simp at h⟩
   ·simp only [c1,c2,decide_false,Bool.false_eq_true,↓reduceIte]
    have:=fF (pH R t) (nX R t) t.Nodes.length (by omega) (fun i a b=>(∀ j,j<i→Par t j)→∃ p:ByteArray × Int,a=some p∧b=some p∧(p.2=0→tg t)) (fun m m' hpre=>by
     obtain ⟨p,g1,g2,g3⟩:=Ve ht
     have hn:¬ ((t.Nodes.length:Int)<t.Nodes.length):=by omega
     exact ⟨p,by simp only [pH,hn,decide_false,Bool.false_eq_true,↓reduceIte,g1],by simp only [nX,hn,decide_false,Bool.false_eq_true,↓reduceIte,g2],fun h=>⟨by omega,by omega,hpre,g3 h⟩⟩) (fun m m' i hi ih hpre=>by
     obtain ⟨e,g1,g2,g3⟩:=aco h148 h101 ht i hi (by omega) hpre
     have h1:(i:Int)<t.Nodes.length:=by omega
     simp only [pH,nX,h1,decide_true,↓reduceIte,bB,List.getElem?_eq_getElem hi,Option.bind_some,g1,g2]
     by_cases he:e=0
     ·subst he
      simp only [show (!((0:Int) == 0))=false from rfl,Bool.false_eq_true,↓reduceIte]
      exact ih fun j hj=>by
       rcases Nat.lt_or_eq_of_le (Nat.le_of_lt_succ hj) with h | h
       ·exact hpre j h
       ·rw [h];exact g3 rfl
     ·have he':(!(e == 0))=true:=by simp [he]
      simp only [he',↓reduceIte]
      exact ⟨_,rfl,rfl,fun h=>absurd h he⟩) 0 (Nat.zero_le _) ax ax (by rw [aL];omega) (by rw [aL];omega)
    exact this fun j hj=>by omega
end
end Go.S
end
section
set_option linter.all false
set_option maxRecDepth 10000
namespace Go.S
open Go Go.Pm
structure TR (R:bI) (t:Types):Prop where
 ok:kA t
 inn:tg t
 val:∃ p:ByteArray × Int,f78 R t=some p∧f44 R t=some p∧p.2=0
theorem rV (s:List Int) (c1:List aE) (c2:List aG) (h:s.length≤4000000000):gJ s c1 c2=some (s.any fun a=>decide (a<0)||decide ((c1.length:Int)≤a)):=by
 unfold gJ iT
 rw [bX s (by omega) (fun m i=>dD s c1 c2 m i) (fun i x k=>(jc x c1 c2).bind fun b=>if b then some (i:Int) else k) (some (-1)) (fun m=>by simp [dD]) (fun m i x hx=>by
  have hi:(i:Int)<s.length:=by have:=(List.getElem?_eq_some_iff.1 hx).1;omega
  simp only [dD,bB,hx,Option.bind_some,hi,decide_true,↓reduceIte]) (by rw [aL];omega)]
 obtain ⟨r,h1,h2,_⟩:=cu (fun x=>jc x c1 c2) (fun a=>decide (a<0)||decide ((c1.length:Int)≤a)) s (fun a _=>by unfold jc;by_cases h:a<0 <;> simp [h]) 0
 rw [h1,Option.bind_some,contains_of h2]
theorem aeg (l:List ByteArray) (h:l.length≤1048576):f238 l=some l:=by
 unfold f238 oq
 have:l.length≤bound:=by unfold bound;omega
 simp only [this,↓reduceIte]
theorem Vj (l:List Attr) (h:∀ a∈l,mR a) (hl:l.length≤1000000000):j6 l ax l 0=some (l,0):=by
 exact cp l.length (by omega) (fun i m k=>j6 l m l k=some (l,0)) (fun m=>by simp [j6]) (fun m i hi ih=>by
  have h1:(i:Int)<l.length:=by omega
  have h2:(0:Int)≤i:=by omega
  have h3:=(h l[i] (List.getElem_mem hi)).2.1
  have e:l.set i (Attr.mk l[i].Name l[i].Low l[i].High l[i].Names)=l:=List.set_getElem_self hi
  simp only [j6,h1,h2,decide_true,Bool.and_self,↓reduceIte,Int.toNat_natCast,List.getElem?_eq_getElem hi,Option.bind_some,aeg _ h3,e]
  exact ih) 0 (Nat.zero_le _) ax (by rw [aL];omega)
theorem Vk (l:List Attr) (h:∀ a∈l,mR a) (hl:l.length≤1000000000):kf l ax [] 0=some (l,0):=by
 exact cp l.length (by omega) (fun i m k=>∀ out,out=l.take i→kf l m out k=some (l,0)) (fun m out ho=>by subst ho;simp [kf]) (fun m i hi ih out ho=>by
  have h1:(i:Int)<l.length:=by omega
  have h2:(0:Int)≤i:=by omega
  have h3:=(h l[i] (List.getElem_mem hi)).2.1
  have h4:l[i].Names.length≤bound:=by unfold bound;omega
  have h5:(out ++ [l[i]]).length≤bound:=by subst ho;unfold bound;simp;omega
  simp only [kf,h1,h2,decide_true,Bool.and_self,↓reduceIte,Int.toNat_natCast,List.getElem?_eq_getElem hi,Option.bind_some,h4,h5]
  exact ih _ (by subst ho;rw [List.take_succ,List.getElem?_eq_getElem hi];rfl)) 0 (Nat.zero_le _) ax (by rw [aL];omega) [] (by simp)
section
variable {R:bI} (h148:∀ a0 a1,R.f148 a0 a1=kj R a0 a1) (h101:∀ a0 a1,R.f101 a0 a1=ky R a0 a1)
include h148 h101
theorem AL {t:Types} (h:TR R t) (a:Int) (h0:0≤a) (h1:a<t.Nodes.length):∃ l:List Attr,f224 R t a=some (l,0)∧f164 R t a=some (l,0)∧l.length≤1000000000:=by
 obtain ⟨p,v1,v2,hp⟩:=h.val
 have hn:=h.inn.n
 obtain ⟨i,rfl⟩:∃ i:Nat,a=i:=⟨a.toNat,by omega⟩
 obtain ⟨l,_,_,_,_,g1,g2,g3,g4⟩:=IW h148 h101 h.ok i (by omega) (by omega) fun j hj=>h.inn.par j (by omega)
 have hl:l.length≤1000000000:=by
  have:(i+1)*1048576≤12*1048576:=Nat.mul_le_mul_right _ (by omega)
  omega
 have w1:w64 ((t.Nodes.length:Int) - 1)=(t.Nodes.length:Int) - 1:=bS (by omega) (by omega)
 refine ⟨l,?_,?_,hl⟩
 ·have a1:f126 R t [(i:Int)]=some 0:=by
   unfold f126
   simp only [v1,Option.bind_some,hp,rV [(i:Int)] t.Nodes t.Edges (by simp)]
   have g1:¬ ((i:Int)<0):=by omega
   have g2:¬ ((t.Nodes.length:Int)≤i):=by omega
   simp [g1,g2]
  unfold f224
  simp only [a1,Option.bind_some,show (!((0:Int) == 0))=false from rfl,Bool.false_eq_true,↓reduceIte,g1,Vj l g4 hl]
 ·have a2:f91 R t i i=some 0:=by
   unfold f91
   simp only [v2,Option.bind_some,hp,sU,w1]
   have g1:(i:Int)≤(t.Nodes.length:Int) - 1:=by omega
   simp [g1,h0]
  unfold f164
  simp only [a2,Option.bind_some,show (!((0:Int) == 0))=false from rfl,Bool.false_eq_true,↓reduceIte,g2,Vk l g4 hl]
end
theorem EF (n a b:Int):f203 n a b=some (decide (a≤n)&&decide (n≤b)):=by
 unfold f203;by_cases h:a≤n <;> simp [h]
theorem aeH (n:Int):f135 n=some (decide (-1000000≤n)&&decide (n≤1000000)):=by
 unfold f135;by_cases h : -1000000≤n <;> simp [h]
def fO (t:Types) (g:Graph):Bool:=!(g.Nodes.any fun n=>decide ((t.Nodes.length:Int)≤n))&&!(g.Edges.any fun x=>decide ((t.Edges.length:Int)≤x.Type_))
theorem KW (s:List Int) (c1:List aE) (c2:List aG) (h:s.length≤4000000000):gI s c1 c2=some (s.any fun a=>decide ((c1.length:Int)≤a)):=by
 unfold gI iS
 rw [bX s (by omega) (fun m i=>dC s c1 c2 m i) (fun i x k=>(lh x c1 c2).bind fun b=>if b then some (i:Int) else k) (some (-1)) (fun m=>by simp [dC]) (fun m i x hx=>by
  have hi:(i:Int)<s.length:=by have:=(List.getElem?_eq_some_iff.1 hx).1;omega
  simp only [dC,bB,hx,Option.bind_some,hi,decide_true,↓reduceIte]) (by rw [aL];omega)]
 obtain ⟨r,h1,h2,_⟩:=cu (fun x=>lh x c1 c2) (fun a=>decide ((c1.length:Int)≤a)) s (fun a _=>rfl) 0
 rw [h1,Option.bind_some,contains_of h2]
theorem Fi (s:List Edge) (c1:List aE) (c2:List aG) (h:s.length≤4000000000):fJ s c1 c2=some (s.any fun a=>decide ((c2.length:Int)≤a.Type_)):=by
 unfold fJ hZ
 rw [bX s (by omega) (fun m i=>dq s c1 c2 m i) (fun i x k=>(lg x c1 c2).bind fun b=>if b then some (i:Int) else k) (some (-1)) (fun m=>by simp [dq]) (fun m i x hx=>by
  have hi:(i:Int)<s.length:=by have:=(List.getElem?_eq_some_iff.1 hx).1;omega
  simp only [dq,bB,hx,Option.bind_some,hi,decide_true,↓reduceIte]) (by rw [aL];omega)]
 obtain ⟨r,h1,h2,_⟩:=cu (fun x=>lg x c1 c2) (fun a=>decide ((c2.length:Int)≤a.Type_)) s (fun a _=>rfl) 0
 rw [h1,Option.bind_some,contains_of h2]
theorem KV (s:List Int) (c1:List aE) (c2:List aG) (h:s.length≤4000000000):gH s c1 c2=some (s.any fun a=>decide ((c1.length:Int)≤a)):=by
 unfold gH iR
 rw [bX s (by omega) (fun m i=>dB s c1 c2 m i) (fun i x k=>(la x c1 c2).bind fun b=>if b then some (i:Int) else k) (some (-1)) (fun m=>by simp [dB]) (fun m i x hx=>by
  have hi:(i:Int)<s.length:=by have:=(List.getElem?_eq_some_iff.1 hx).1;omega
  simp only [dB,bB,hx,Option.bind_some,hi,decide_true,↓reduceIte]) (by rw [aL];omega)]
 obtain ⟨r,h1,h2,_⟩:=cu (fun x=>la x c1 c2) (fun a=>decide ((c1.length:Int)≤a)) s (fun a _=>rfl) 0
 rw [h1,Option.bind_some,contains_of h2]
theorem Fh (s:List Edge) (c1:List aE) (c2:List aG) (h:s.length≤4000000000):fI s c1 c2=some (s.any fun a=>decide ((c2.length:Int)≤a.Type_)):=by
 unfold fI hU
 rw [bX s (by omega) (fun m i=>dp s c1 c2 m i) (fun i x k=>(k9 x c1 c2).bind fun b=>if b then some (i:Int) else k) (some (-1)) (fun m=>by simp [dp]) (fun m i x hx=>by
  have hi:(i:Int)<s.length:=by have:=(List.getElem?_eq_some_iff.1 hx).1;omega
  simp only [dp,bB,hx,Option.bind_some,hi,decide_true,↓reduceIte]) (by rw [aL];omega)]
 obtain ⟨r,h1,h2,_⟩:=cu (fun x=>k9 x c1 c2) (fun a=>decide ((c2.length:Int)≤a.Type_)) s (fun a _=>rfl) 0
 rw [h1,Option.bind_some,contains_of h2]
theorem aep (t:Types) (g:Graph) (hn:g.Nodes.length≤1048576) (he:g.Edges.length≤1048576):f206 t g=some (fO t g):=by
 unfold f206 fO
 rw [KV _ _ _ (by omega),Fh _ _ _ (by omega)]
 cases (g.Nodes.any fun n=>decide ((t.Nodes.length:Int)≤n)) <;> simp
theorem walk_stop {α R:Type} (q:α→Bool) (e:R) (exit:Option R):∀ (l:List α) (i:Nat),walk (fun i a k=>if q a=true then some e else k) exit i l=if (l.any q)=true then some e else exit
 | [],i=>rfl
 | a::l,i=>by
  simp only [walk,walk_stop q e exit l (i+1),List.any_cons]
  by_cases h1:q a=true <;> simp [h1]
theorem f133_e (t:Types) (g:Graph) (hn:g.Nodes.length≤1048576) (he:g.Edges.length≤1048576) (h0:∀ x∈g.Nodes,0≤x) (h1:∀ x∈g.Edges,0≤x.Type_):f133 t g=some (fO t g):=by
 unfold f133
 have E:iX t g ax 0=if (g.Edges.any fun x=>decide ((t.Edges.length:Int)≤x.Type_))=true then some false else some true:=by
  rw [bX g.Edges (by omega) (fun m i=>iX t g m i) (fun i x k=>if (decide ((t.Edges.length:Int)≤x.Type_))=true then some false else k) (some true) (fun m=>by simp [iX]) (fun m i x hx=>by
   have hi:(i:Int)<g.Edges.length:=by have:=(List.getElem?_eq_some_iff.1 hx).1;omega
   have h2:¬ (x.Type_<0):=by have:=h1 x (List.mem_of_getElem? hx);omega
   simp only [iX,bB,hx,Option.bind_some,hi,h2,decide_true,decide_false,Bool.false_eq_true,↓reduceIte]) (by rw [aL];omega)]
  exact walk_stop (fun x:Edge=>decide ((t.Edges.length:Int)≤x.Type_)) false (some true) _ _
 rw [bX g.Nodes (by omega) (fun m i=>mF t g m i) (fun i x k=>if (decide ((t.Nodes.length:Int)≤x))=true then some false else k) (iX t g ax 0) (fun m=>by simp [mF]) (fun m i x hx=>by
   have hi:(i:Int)<g.Nodes.length:=by have:=(List.getElem?_eq_some_iff.1 hx).1;omega
   have h2:¬ (x<0):=by have:=h0 x (List.mem_of_getElem? hx);omega
   simp only [mF,bB,hx,Option.bind_some,hi,h2,decide_true,decide_false,Bool.false_eq_true,↓reduceIte]) (by rw [aL];omega),
  walk_stop (fun x=>decide ((t.Nodes.length:Int)≤x)),E]
 unfold fO
 cases (g.Nodes.any fun n=>decide ((t.Nodes.length:Int)≤n)) <;> cases (g.Edges.any fun x=>decide ((t.Edges.length:Int)≤x.Type_)) <;> rfl
theorem sO {t:Types} {g:Graph}:fO t g=true↔(∀ x∈g.Nodes,x<t.Nodes.length)∧∀ x∈g.Edges,x.Type_<t.Edges.length:=by
 unfold fO
 simp
end Go.S
end
section
set_option linter.all false
set_option maxRecDepth 10000
namespace Go.S
open Go Go.Pm
theorem walk_bad {α R:Type} (p:α→Option Bool) (q:α→Bool) (e:R) (exit:Option R):∀ (l:List α) (i:Nat),(∀ a∈l,p a=some (q a))→walk (fun i a k=>(p a).bind fun b=>if (!b)=true then some e else k) exit i l=if (l.any fun a=>!q a)=true then some e else exit
 | [],i,_=>rfl
 | a::l,i,h=>by
  simp only [walk,h a (List.mem_cons_self ..),Option.bind_some,walk_bad p q e exit l (i+1) fun b hb=>h b (List.mem_cons_of_mem _ hb),List.any_cons]
  by_cases h1:q a=true <;> simp [h1]
def kindOk (n:Int):Bool:=decide (0≤n)&&decide (n≤99)
def mK (n:Nat) (e:Edge):Bool:=kindOk e.Type_&&((decide (0≤e.From)&&decide (e.From<n))&&(decide (0≤e.To)&&decide (e.To<n)))
theorem P8 (n m:Int):f122 n m=some (decide (0≤n)&&decide (n≤m)):=by unfold f122;by_cases h:0≤n <;> simp [h]
theorem aeM (n:Int):f121 n=some (!kindOk n):=by unfold f121 kindOk;rw [P8];rfl
theorem Zm (n:Int):f89 n=some (kindOk n):=by unfold f89 kindOk;by_cases h:0≤n <;> simp [h]
theorem aeK (e:Edge) (n:Nat) (hn:n≤1048576):f125 e n=some (mK n e):=by
 have hw:w64 ((n:Int) - 1)=(n:Int) - 1:=bS (by omega) (by omega)
 have e1:∀ z:Int,(decide (z≤(n:Int) - 1))=decide (z<n):=fun z=>by rw [Bool.eq_iff_iff];simp;omega
 unfold f125 mK kindOk
 simp only [P8,hw,e1,Option.bind_some]
 by_cases h1:(decide (0≤e.Type_)&&decide (e.Type_≤99))=true
 ·by_cases h2:(decide (0≤e.From)&&decide (e.From<n))=true
  ·simp only [h1,h2,↓reduceIte,Bool.true_and]
  ·simp only [Bool.not_eq_true] at h2;simp only [h1,h2,↓reduceIte,Bool.false_and,Bool.and_false,Bool.false_eq_true]
 ·simp only [Bool.not_eq_true] at h1;simp only [h1,↓reduceIte,Bool.false_and,Bool.false_eq_true]
theorem aqx (e:Edge) (n:Nat):f90 e n=some (mK n e):=by
 unfold f90 mK
 simp only [Zm,Option.bind_some]
 cases kindOk e.Type_ with
 | false=>rfl
 | true=>by_cases h1:0≤e.From <;> by_cases h2:e.From<n <;> by_cases h3:0≤e.To <;> simp [h1,h2,h3]
theorem KX (s:List Int) (h:s.length≤4000000000):k8 s=some (s.any fun n=>!kindOk n):=by
 unfold k8 oL
 rw [bX s (by omega) (fun m i=>eJ s m i) (fun i x k=>(f121 x).bind fun b=>if b then some (i:Int) else k) (some (-1)) (fun m=>by simp [eJ]) (fun m i x hx=>by
  have hi:(i:Int)<s.length:=by have:=(List.getElem?_eq_some_iff.1 hx).1;omega
  simp only [eJ,bB,hx,Option.bind_some,hi,decide_true,↓reduceIte]) (by rw [aL];omega)]
 obtain ⟨r,h1,h2,_⟩:=cu f121 (fun n=>!kindOk n) s (fun a _=>aeM a) 0
 rw [h1,Option.bind_some,contains_of h2]
theorem aeL (s:List Edge) (c1:List Int) (c2:List Edge) (h:s.length≤4000000000) (hc:c1.length≤1048576):fK s c1 c2=some (s.any fun n=>!mK c1.length n):=by
 unfold fK ia
 rw [bX s (by omega) (fun m i=>dt s c1 c2 m i) (fun i x k=>(jf x c1 c2).bind fun b=>if b then some (i:Int) else k) (some (-1)) (fun m=>by simp [dt]) (fun m i x hx=>by
  have hi:(i:Int)<s.length:=by have:=(List.getElem?_eq_some_iff.1 hx).1;omega
  simp only [dt,bB,hx,Option.bind_some,hi,decide_true,↓reduceIte]) (by rw [aL];omega)]
 obtain ⟨r,h1,h2,_⟩:=cu (fun x=>jf x c1 c2) (fun n=>!mK c1.length n) s (fun a _=>by unfold jf;rw [aeK a _ hc];rfl) 0
 rw [h1,Option.bind_some,contains_of h2]
structure ie (g:Graph):Prop where
 n:g.Nodes.length≤40
 e:g.Edges.length≤80
 nodes:∀ x∈g.Nodes,0≤x
 edges:∀ x∈g.Edges,0≤x.Type_∧(0≤x.From∧x.From<g.Nodes.length)∧(0≤x.To∧x.To<g.Nodes.length)
theorem qN (g:Graph) (hn:g.Nodes.length≤1048576) (he:g.Edges.length≤1048576):∃ e,f81 g=some e∧f57 g=some e∧(e=0→ie g)∧e≠9:=by
 unfold f81 f57
 by_cases c1:(40:Int)<g.Nodes.length
 ·exact ⟨3,by simp only [c1,decide_true,↓reduceIte],by simp only [c1,decide_true,↓reduceIte],by omega,by omega⟩
 ·by_cases c2:(80:Int)<g.Edges.length
  ·exact ⟨3,by simp only [c1,c2,decide_true,decide_false,Bool.false_eq_true,↓reduceIte],by simp only [c1,c2,decide_true,decide_false,Bool.false_eq_true,↓reduceIte],by omega,by omega⟩
  ·simp only [c1,c2,decide_false,Bool.false_eq_true,↓reduceIte,KX g.Nodes (by omega),aeL g.Edges g.Nodes g.Edges (by omega) hn,Option.bind_some]
   have hE:kI g ax 0=if (g.Edges.any fun n=>!mK g.Nodes.length n)=true then some 6 else some 0:=by
    rw [bX g.Edges (by omega) (fun m i=>kI g m i) (fun i x k=>(f90 x g.Nodes.length).bind fun b=>if (!b)=true then some 6 else k) (some 0) (fun m=>by simp [kI]) (fun m i x hx=>by
     have hi:(i:Int)<g.Edges.length:=by have:=(List.getElem?_eq_some_iff.1 hx).1;omega
     simp only [kI,bB,hx,Option.bind_some,hi,decide_true,↓reduceIte]) (by rw [aL];omega)]
    exact walk_bad _ _ _ _ _ _ fun a _=>aqx a _
   have hN:nS g ax 0=if (g.Nodes.any fun n=>!kindOk n)=true then some 6 else kI g ax 0:=by
    rw [bX g.Nodes (by omega) (fun m i=>nS g m i) (fun i x k=>(f89 x).bind fun b=>if (!b)=true then some 6 else k) (kI g ax 0) (fun m=>by simp [nS]) (fun m i x hx=>by
     have hi:(i:Int)<g.Nodes.length:=by have:=(List.getElem?_eq_some_iff.1 hx).1;omega
     simp only [nS,bB,hx,Option.bind_some,hi,decide_true,↓reduceIte]) (by rw [aL];omega)]
    exact walk_bad _ _ _ _ _ _ fun a _=>Zm a
   rw [hN,hE]
   by_cases d1:(g.Nodes.any fun n=>!kindOk n)=true
   ·exact ⟨6,by simp only [d1,↓reduceIte],by simp only [d1,↓reduceIte],by omega,by omega⟩
   ·by_cases d2:(g.Edges.any fun n=>!mK g.Nodes.length n)=true
    ·exact ⟨6,by simp only [d1,d2,Bool.false_eq_true,↓reduceIte],by simp only [d1,d2,Bool.false_eq_true,↓reduceIte],by omega,by omega⟩
    ·refine ⟨0,by simp only [d1,d2,Bool.false_eq_true,↓reduceIte],by simp only [d1,d2,Bool.false_eq_true,↓reduceIte],fun _=>⟨by omega,by omega,fun x hx=>?_,fun x hx=>?_⟩,by omega⟩
     ·simp only [Bool.not_eq_true,List.any_eq_false] at d1
      have:=d1 x hx
      simp [kindOk] at this;exact this.1
     ·simp only [Bool.not_eq_true,List.any_eq_false] at d2
      have:=d2 x hx
      simp [mK,kindOk] at this;omega
end Go.S
end
section
set_option linter.all false
set_option maxRecDepth 10000
namespace Go.S
open Go Go.Pm
def rB (n:Int) (t:Term):Bool:=(decide (-1≤t.Var)&&decide (t.Var<n))&&(decide (-1000000≤t.Add)&&decide (t.Add≤1000000))
theorem aef (n:Int) (t:Term):f239 n t=some (rB n t):=by
 unfold f239 rB
 by_cases h1 : -1≤t.Var <;> by_cases h2:t.Var<n <;> by_cases h3 : -1000000≤t.Add <;> simp [h1,h2,h3]
theorem aet (n:Int) (t:Term):f193 n t=some (if rB n t=true then 0 else 6):=by
 unfold f193 rB
 by_cases h1:t.Var < -1
 ·have:¬ (-1≤t.Var):=by omega
  simp [h1,this]
 ·have g1 : -1≤t.Var:=by omega
  by_cases h2:n≤t.Var
  ·have:¬ (t.Var<n):=by omega
   simp [h1,g1,h2,this]
  ·have g2:t.Var<n:=by omega
   by_cases h3:t.Add < -1000000
   ·have:¬ (-1000000≤t.Add):=by omega
    simp [h1,g1,h2,g2,h3,this]
   ·have g3 : -1000000≤t.Add:=by omega
    by_cases h4:(1000000:Int)<t.Add
    ·have:¬ (t.Add≤1000000):=by omega
     simp [h1,g1,h2,g2,h3,g3,h4,this]
    ·have g4:t.Add≤1000000:=by omega
     simp [h1,g1,h2,g2,h3,g3,h4,g4]
theorem aei (n:Int) (x:Test):∃ e,f225 n x=some e∧f165 n x=some e:=by
 unfold f225 f165
 simp only [aef,aet,Option.bind_some]
 by_cases h1:(x.Kind == 1)=true <;> by_cases h2:(x.Kind == 2)=true <;> by_cases h3:rB n x.Left=true <;> by_cases h4:rB n x.Right=true <;> simp [h1,h2,h3,h4]
theorem aeq (n:Int) (l:List Test) (hl:l.length≤1048576):∃ e,f205 n l=some e∧f136 n l=some e:=by
 unfold f205 f136
 have D:=fF (ml n l) (mE n l) l.length (by omega) (fun i a b=>∃ e,a=some e∧b=some e) (fun m m'=>⟨0,by simp [ml],by simp [mE]⟩) (fun m m' i hi ih=>by
  have h1:(i:Int)<l.length:=by omega
  obtain ⟨e,g1,g2⟩:=aei n l[i]
  simp only [ml,mE,h1,decide_true,↓reduceIte,bB,List.getElem?_eq_getElem hi,Option.bind_some,g1,g2]
  split
  ·exact ⟨_,rfl,rfl⟩
  ·exact ih) 0 (Nat.zero_le _) ax ax (by rw [aL];omega) (by rw [aL];omega)
 split
 ·exact ⟨_,rfl,rfl⟩
 ·split
  ·exact ⟨_,rfl,rfl⟩
  ·split
   ·exact ⟨_,rfl,rfl⟩
   ·exact D
def occ (p:Pattern) (v:Int):Bool:=p.Slots.any fun s=>s.Term.Var == v
theorem aeG (p:Pattern) (v:Int) (h:p.Slots.length≤1048576):f137 p v=some (occ p v):=by
 unfold f137
 rw [bX p.Slots (by omega) (fun m i=>mD p v m i) (fun i x k=>if (x.Term.Var == v)=true then some true else k) (some false) (fun m=>by simp [mD]) (fun m i x hx=>by
  have hi:(i:Int)<p.Slots.length:=by have:=(List.getElem?_eq_some_iff.1 hx).1;omega
  simp only [mD,bB,hx,Option.bind_some,hi,decide_true,↓reduceIte]) (by rw [aL];omega),walk_stop (fun x:Slot=>x.Term.Var == v)]
 unfold occ;split <;> simp_all
theorem aer (p:Pattern) (v:Int) (h:p.Slots.length≤1048576):f197 p v=some (occ p v):=by
 unfold f197
 rw [bX p.Slots (by omega) (fun m i=>mm p v m i) (fun i x k=>if (x.Term.Var == v)=true then some true else k) (some false) (fun m=>by simp [mm]) (fun m i x hx=>by
  have hi:(i:Int)<p.Slots.length:=by have:=(List.getElem?_eq_some_iff.1 hx).1;omega
  simp only [mm,bB,hx,Option.bind_some,hi,decide_true,↓reduceIte]) (by rw [aL];omega),walk_stop (fun x:Slot=>x.Term.Var == v)]
 unfold occ;split <;> simp_all
theorem Es (p:Pattern) (v:Int) (h:p.Slots.length≤1048576):gK p.Slots v=some (occ p v):=by
 unfold gK iU
 rw [bX p.Slots (by omega) (fun m i=>dE p.Slots v m i) (fun i x k=>(n9 x v).bind fun b=>if b then some (i:Int) else k) (some (-1)) (fun m=>by simp [dE]) (fun m i x hx=>by
  have hi:(i:Int)<p.Slots.length:=by have:=(List.getElem?_eq_some_iff.1 hx).1;omega
  simp only [dE,bB,hx,Option.bind_some,hi,decide_true,↓reduceIte]) (by rw [aL];omega)]
 obtain ⟨r,h1,h2,_⟩:=cu (fun x=>n9 x v) (fun s:Slot=>s.Term.Var == v) p.Slots (fun a _=>rfl) 0
 rw [h1,Option.bind_some,contains_of h2];rfl
theorem Zn (s:List Bool) (v:Bool) (h:s.length≤4000000000):f34 s v=some (s.any fun x=>v == x):=by
 unfold f34 f50
 rw [bX s (by omega) (fun m i=>pL s v m i) (fun i x k=>(some (v == x)).bind fun b=>if b then some (i:Int) else k) (some (-1)) (fun m=>by simp [pL]) (fun m i x hx=>by
  have hi:(i:Int)<s.length:=by have:=(List.getElem?_eq_some_iff.1 hx).1;omega
  simp only [pL,bB,hx,Option.bind_some,hi,decide_true,↓reduceIte]) (by rw [aL];omega)]
 obtain ⟨r,h1,h2,_⟩:=cu (fun x=>some (v == x)) (fun x=>v == x) s (fun a _=>rfl) 0
 rw [h1,Option.bind_some,contains_of h2]
theorem Le (p:Pattern) (h:p.Slots.length≤1048576) (hv:p.Vars≤12) (hv0:0≤p.Vars):kx p ax 0=some (if (List.range p.Vars.toNat).any (fun v=>!occ p v)=true then 9 else 0):=by
 obtain ⟨n,hn⟩:∃ n:Nat,p.Vars=n:=⟨p.Vars.toNat,by omega⟩
 have key:=cp n (by omega) (fun i m k=>kx p m k=some (if (List.range' i (n - i)).any (fun v=>!occ p v)=true then 9 else 0)) (fun m=>by
  have h1:¬ ((n:Int)<p.Vars):=by omega
  simp [kx,h1]) (fun m i hi ih=>by
  have h1:(i:Int)<p.Vars:=by omega
  have e:n - i=(n - (i+1))+1:=by omega
  simp only [kx,h1,decide_true,↓reduceIte,aeG p _ h,Option.bind_some,ih,e,List.range'_succ,List.any_cons]
  cases c:occ p (i:Int) with
  | true=>simp only [Bool.not_true,Bool.false_or,Bool.false_eq_true,↓reduceIte]
  | false=>simp only [Bool.not_false,Bool.true_or,↓reduceIte]) 0 (Nat.zero_le _) ax (by rw [aL];omega)
 rw [show ((0:Nat):Int)=0 from rfl] at key
 rw [key,hn,Int.toNat_natCast,List.range_eq_range',Nat.sub_zero]
structure I1 (t:Types) (p:Pattern):Prop where
 graph:ie p.Graph
 nodes:∀ x∈p.Graph.Nodes,x<t.Nodes.length
 edges:∀ x∈p.Graph.Edges,x.Type_<t.Edges.length
 v0:0≤p.Vars
 v1:p.Vars≤12
structure rp (p:Pattern):Prop where
 n:p.Graph.Nodes.length≤1048576
 e:p.Graph.Edges.length≤1048576
 s:p.Slots.length≤1048576
 t:p.Tests.length≤1048576
 v : -9223372036854775808≤p.Vars∧p.Vars≤9223372036854775807
section
variable {R:bI} (h148:∀ a0 a1,R.f148 a0 a1=kj R a0 a1) (h101:∀ a0 a1,R.f101 a0 a1=ky R a0 a1)
include h148 h101
theorem aft {t:Types} (h:TR R t) (p:Pattern) (s:Slot) (hn:p.Graph.Nodes.length≤1048576) (hx:∀ x∈p.Graph.Nodes,0≤x∧x<t.Nodes.length) :
  ∃ x,f204 R t p s=some x∧f134 R t p s.Node s.Attr=some x:=by
 have w1:w64 ((p.Graph.Nodes.length:Int) - 1)=(p.Graph.Nodes.length:Int) - 1:=bS (by omega) (by omega)
 unfold f204 f134
 simp only [EF,w1,Option.bind_some]
 by_cases c1:s.Node<0
 ·have g1:¬ (0≤s.Node):=by omega
  simp [c1,g1]
 ·by_cases c2:(p.Graph.Nodes.length:Int)≤s.Node
  ·have g1:¬ (s.Node≤(p.Graph.Nodes.length:Int) - 1):=by omega
   simp [c1,c2,g1]
  ·have g1:0≤s.Node:=by omega
   have g2:s.Node≤(p.Graph.Nodes.length:Int) - 1:=by omega
   obtain ⟨a,q1,q2⟩:=gW g1 (by omega:s.Node<p.Graph.Nodes.length)
   obtain ⟨k1,k2⟩:=hx a (List.mem_of_getElem? q2)
   obtain ⟨l,u1,u2,u3⟩:=AL h148 h101 h a k1 k2
   have w2:w64 ((l.length:Int) - 1)=(l.length:Int) - 1:=bS (by omega) (by omega)
   simp only [c1,c2,g1,g2,decide_true,decide_false,Bool.and_self,Bool.not_true,Bool.false_eq_true,↓reduceIte,q1,Option.bind_some,u1,u2,w2,show (!((0:Int) == 0))=false from rfl]
   by_cases d1:s.Attr<0
   ·have e1:¬ (0≤s.Attr):=by omega
    simp [d1,e1]
   ·by_cases d2:(l.length:Int)≤s.Attr
    ·have e1:¬ (s.Attr≤(l.length:Int) - 1):=by omega
     simp [d1,d2,e1]
    ·have e1:0≤s.Attr:=by omega
     have e2:s.Attr≤(l.length:Int) - 1:=by omega
     have e3:s.Attr<(l.length:Int):=by omega
     have e4:s.Attr.toNat<l.length:=by omega
     simp [d1,d2,e1,e2,e3,List.getElem?_eq_getElem e4]
theorem Nt {t:Types} (h:TR R t) (p:Pattern) (hp:rp p):∃ e,f179 R t p=some e∧f104 R t p=some e∧(e=0∨e=9→I1 t p):=by
 obtain ⟨q,v1,v2,hq⟩:=h.val
 obtain ⟨e1,g1,g2,g3,g9⟩:=qN p.Graph hp.n hp.e
 have hn:=hp.n
 have he:=hp.e
 have hs:=hp.s
 unfold f179 f104
 simp only [v1,v2,hq,Option.bind_some,show (!((0:Int) == 0))=false from rfl,Bool.false_eq_true,↓reduceIte,g1,g2]
 by_cases c1:e1=0
 ·subst c1
  have hG:=g3 rfl
  have i1:(p.Graph.Nodes.any fun a=>decide ((t.Nodes.length:Int)≤a))=true∨(p.Graph.Nodes.any fun a=>decide ((t.Nodes.length:Int)≤a))=false:=by cases (p.Graph.Nodes.any fun a=>decide ((t.Nodes.length:Int)≤a)) <;> simp
  simp only [show (!((0:Int) == 0))=false from rfl,Bool.false_eq_true,↓reduceIte,KW _ _ _ (by omega:p.Graph.Nodes.length≤4000000000),Fi _ _ _ (by omega:p.Graph.Edges.length≤4000000000),
   f133_e t p.Graph hn he hG.nodes (fun x hx=>(hG.edges x hx).1),Option.bind_some]
  by_cases c2:fO t p.Graph=true
  ·have c2':=c2
   unfold fO at c2'
   simp only [Bool.and_eq_true,Bool.not_eq_true'] at c2'
   obtain ⟨k1,k2⟩:=sO.1 c2
   simp only [c2,c2'.1,c2'.2,Bool.not_true,Bool.false_eq_true,↓reduceIte,EF,Option.bind_some]
   by_cases c3:p.Vars<0
   ·have d3:¬ (0≤p.Vars):=by omega
    exact ⟨6,by simp [d3],by simp [c3],by omega⟩
   ·by_cases c4:12<p.Vars
    ·have d4:¬ (p.Vars≤12):=by omega
     exact ⟨6,by simp [d4],by simp [c3,c4],by omega⟩
    ·have d3:0≤p.Vars:=by omega
     have d4:p.Vars≤12:=by omega
     simp only [c3,c4,d3,d4,decide_true,decide_false,Bool.and_self,Bool.not_true,Bool.false_eq_true,↓reduceIte]
     by_cases c5:(10:Int)<p.Slots.length
     ·exact ⟨3,by simp [c5],by simp [c5],by omega⟩
     ·by_cases c6:(10:Int)<p.Tests.length
      ·exact ⟨3,by simp [c5,c6],by simp [c5,c6],by omega⟩
      ·have hb:p.Vars≤(bound:Int):=by unfold bound;omega
       simp only [c5,c6,d3,hb,and_self,decide_true,decide_false,Bool.false_eq_true,↓reduceIte]
       obtain ⟨n,hnv⟩:∃ n:Nat,p.Vars=n:=⟨p.Vars.toNat,by omega⟩
       have hPat:I1 t p:=⟨hG,k1,k2,d3,d4⟩
       have key:∀ (i:Nat),i≤p.Slots.length→∀ m m',p.Slots.length - i<m→p.Slots.length - i<m'→∀ u:List Bool,u.length=n→(∀ v:Nat,v<n→u[v]?=some ((p.Slots.take i).any fun s=>s.Term.Var == (v:Int)))→
         ∃ e,kb R t p m u i=some e∧mJ R t p m' i=some e:=by
        intro i hi
        induction hk:p.Slots.length - i generalizing i with
        | zero=>
         intro m m' hm hm' u hu hv
         have:i=p.Slots.length:=by omega
         subst this
         obtain ⟨m,rfl⟩:∃ k,m=k+1:=⟨m - 1,by omega⟩
         obtain ⟨m',rfl⟩:∃ k,m'=k+1:=⟨m' - 1,by omega⟩
         have h1:¬ ((p.Slots.length:Int)<p.Slots.length):=by omega
         obtain ⟨e2,r1,r2⟩:=aeq p.Vars p.Tests hp.t
         simp only [kb,mJ,h1,decide_false,Bool.false_eq_true,↓reduceIte,r1,r2,Option.bind_some]
         by_cases ce:(!(e2 == 0))=true
         ·simp only [ce,↓reduceIte];exact ⟨_,rfl,rfl⟩
         ·simp only [ce,↓reduceIte,Zn u false (by omega),Option.bind_some,Le p hs d4 d3,Bool.false_eq_true]
          have:(u.any fun x=>false == x)=(List.range p.Vars.toNat).any fun v=>!occ p v:=by
           rw [hnv,Int.toNat_natCast,Bool.eq_iff_iff]
           simp only [List.any_eq_true,List.mem_range,beq_iff_eq,Bool.not_eq_true']
           constructor
           ·rintro ⟨x,hx,rfl⟩
            obtain ⟨v,hvx⟩:=List.mem_iff_getElem?.1 hx
            have hlt:=(List.getElem?_eq_some_iff.1 hvx).1
            refine ⟨v,by omega,?_⟩
            have:=hv v (by omega)
            rw [hvx,List.take_length] at this
            unfold occ;exact (Option.some.inj this).symm
           ·rintro ⟨v,hvn,ho⟩
            have:=hv v hvn
            rw [List.take_length] at this
            exact ⟨false,List.mem_of_getElem? (this.trans (congrArg some ho)),rfl⟩
          rw [this]
          split <;> exact ⟨_,rfl,rfl⟩
        | succ k ih=>
         intro m m' hm hm' u hu hv
         obtain ⟨m,rfl⟩:∃ k,m=k+1:=⟨m - 1,by omega⟩
         obtain ⟨m',rfl⟩:∃ k,m'=k+1:=⟨m' - 1,by omega⟩
         have hi':i<p.Slots.length:=by omega
         have h1:(i:Int)<p.Slots.length:=by omega
         have hxi:p.Slots[i]?=some p.Slots[i]:=List.getElem?_eq_getElem hi'
         have htk:p.Slots.take (i+1)=p.Slots.take i ++ [p.Slots[i]]:=by rw [List.take_succ,hxi];rfl
         obtain ⟨x,r1,r2⟩:=aft h148 h101 h p p.Slots[i] hn fun y hy=>⟨hG.nodes y hy,k1 y hy⟩
         generalize p.Slots[i]=s at hxi htk r1 r2
         have w1:w64 (p.Vars - 1)=p.Vars - 1:=bS (by omega) (by omega)
         simp only [kb,mJ,h1,decide_true,↓reduceIte,bB,hxi,Option.bind_some,r1,r2,EF,aeH,w1]
         by_cases cx:(!x.2)=true
         ·simp only [cx,↓reduceIte];exact ⟨_,rfl,rfl⟩
         ·simp only [cx,↓reduceIte,Bool.false_eq_true]
          by_cases b1:s.Term.Var < -1
          ·have:¬ (-1≤s.Term.Var):=by omega
           exact ⟨6,by simp [this],by simp [b1]⟩
          ·by_cases b2:p.Vars≤s.Term.Var
           ·have:¬ (s.Term.Var≤p.Vars - 1):=by omega
            exact ⟨6,by simp [this],by simp [b1,b2]⟩
           ·have b1' : -1≤s.Term.Var:=by omega
            have b2':s.Term.Var≤p.Vars - 1:=by omega
            simp only [b1,b2,b1',b2',decide_true,decide_false,Bool.and_self,Bool.not_true,Bool.false_eq_true,↓reduceIte]
            by_cases b3:(decide (-1000000≤s.Term.Add)&&decide (s.Term.Add≤1000000))=true
            ·simp only [b3,Bool.not_true,Bool.false_eq_true,↓reduceIte,fA (show i<4611686018427387904 by omega)]
             by_cases b4:0≤s.Term.Var
             ·have b5:s.Term.Var<(u.length:Int):=by omega
              have b6:s.Term.Var.toNat<u.length:=by omega
              simp only [b4,b5,decide_true,Bool.and_self,↓reduceIte,List.getElem?_eq_getElem b6,Option.bind_some]
              refine ih (i+1) (by omega) (by omega) m m' (by omega) (by omega) (u.set s.Term.Var.toNat true) (by simp [hu]) fun v hvn=>?_
              rw [htk,List.any_append]
              by_cases ev:s.Term.Var.toNat=v
              ·have:s.Term.Var=(v:Int):=by omega
               rw [List.getElem?_set,if_pos ev,if_pos (by omega)]
               simp [this]
              ·have:(s.Term.Var == (v:Int))=false:=beq_eq_false_iff_ne.2 (by omega)
               rw [List.getElem?_set,if_neg ev,hv v hvn]
               simp [this]
             ·simp only [b4,decide_false,Bool.false_eq_true,↓reduceIte]
              refine ih (i+1) (by omega) (by omega) m m' (by omega) (by omega) u hu fun v hvn=>?_
              rw [htk,List.any_append,hv v hvn]
              have:(s.Term.Var == (v:Int))=false:=beq_eq_false_iff_ne.2 (by omega)
              simp [this]
            ·have b3':(decide (-1000000≤s.Term.Add)&&decide (s.Term.Add≤1000000))=false:=by simpa using b3
             simp only [b3',Bool.not_false,↓reduceIte];exact ⟨_,rfl,rfl⟩
       obtain ⟨e,r1,r2⟩:=key 0 (Nat.zero_le _) ax ax (by rw [aL];omega) (by rw [aL];omega) (List.replicate p.Vars.toNat false) (by simp [hnv]) fun v hv=>by
        rw [List.getElem?_replicate,if_pos (by omega)];rfl
       exact ⟨e,r1,r2,fun _=>hPat⟩
  ·have c2':fO t p.Graph=false:=by simpa using c2
   refine ⟨13,?_,by simp only [c2',Bool.not_false,↓reduceIte],by omega⟩
   unfold fO at c2'
   simp only [Bool.and_eq_false_iff,Bool.not_eq_false'] at c2'
   rcases i1 with i1 | i1
   ·simp only [i1,↓reduceIte]
   ·simp only [i1,Bool.false_eq_true,↓reduceIte]
    rcases c2' with c | c
    ·rw [i1] at c;cases c
    ·simp only [c,↓reduceIte]
 ·have c1':(!(e1 == 0))=true:=by simp [c1]
  refine ⟨e1,by simp only [c1',↓reduceIte],by simp only [c1',↓reduceIte],fun h=>?_⟩
  rcases h with h | h
  ·exact absurd h c1
  ·exact absurd h g9
end
end Go.S
end
section
set_option linter.all false
set_option maxRecDepth 10000
namespace Go.S
open Go Go.Pm
structure aaa (a b:Graph) (m:aQ):Prop where
 ga:ie a
 gb:ie b
 ln:m.Nodes.length=a.Nodes.length
 le:m.Edges.length=a.Edges.length
 nodes:∀ x∈m.Nodes,0≤x∧x<b.Nodes.length
 edges:∀ x∈m.Edges,0≤x∧x<b.Edges.length
theorem JV (a b:Graph) (m:aQ) (ha:ie a) (ln:m.Nodes.length=a.Nodes.length) (le:m.Edges.length=a.Edges.length) :
  ∃ e,j7 a b m ax 0=some e∧km a b m ax 0=some e∧(e=0→∀ x∈m.Edges,0≤x∧x<b.Edges.length):=by
 have hle:=ha.e
 have D:=fF (fun k i=>j7 a b m k i) (fun k i=>km a b m k i) a.Edges.length (by omega)
  (fun i p q=>(∀ j x,j<i→m.Edges[j]?=some x→0≤x∧x<b.Edges.length)→∃ e,p=some e∧q=some e∧(e=0→∀ x∈m.Edges,0≤x∧x<b.Edges.length)) (fun k k' hpre=>by
  have h1:¬ ((a.Edges.length:Int)<a.Edges.length):=by omega
  have h2:¬ ((a.Edges.length:Int)<m.Edges.length):=by omega
  refine ⟨0,by simp only [j7,h2,decide_false,Bool.false_eq_true,↓reduceIte],by simp only [km,h1,decide_false,Bool.false_eq_true,↓reduceIte],fun _ x hx=>?_⟩
  obtain ⟨j,hj⟩:=List.mem_iff_getElem?.1 hx
  exact hpre j x (by have:=(List.getElem?_eq_some_iff.1 hj).1;omega) hj) (fun k k' i hi ih hpre=>by
  have h1:(i:Int)<a.Edges.length:=by omega
  have h2:(i:Int)<m.Edges.length:=by omega
  have hi2:i<m.Edges.length:=by omega
  have hx:m.Edges[i]?=some m.Edges[i]:=List.getElem?_eq_getElem hi2
  have hy:a.Edges[i]?=some a.Edges[i]:=List.getElem?_eq_getElem hi
  obtain ⟨_,⟨q1,q2⟩,q3,q4⟩:=ha.edges _ (List.getElem_mem hi)
  generalize m.Edges[i]=x at hx
  generalize a.Edges[i]=y at hy q1 q2 q3 q4
  simp only [j7,km,h1,h2,decide_true,↓reduceIte,bB,hx,hy,Option.bind_some]
  by_cases c1:x<0
  ·exact ⟨6,by simp only [c1,decide_true,↓reduceIte],by simp only [c1,decide_true,↓reduceIte],by omega⟩
  ·by_cases c2:(b.Edges.length:Int)≤x
   ·exact ⟨6,by simp only [c1,c2,decide_true,decide_false,Bool.false_eq_true,↓reduceIte],by simp only [c1,c2,decide_true,decide_false,Bool.false_eq_true,↓reduceIte],by omega⟩
   ·obtain ⟨z,r1,_⟩:=gW (l:=b.Edges) (i:=x) (by omega) (by omega)
    obtain ⟨u,r2,_⟩:=gW (l:=m.Nodes) (i:=y.From) q1 (by omega)
    obtain ⟨v,r3,_⟩:=gW (l:=m.Nodes) (i:=y.To) q3 (by omega)
    simp only [c1,c2,decide_false,Bool.false_eq_true,↓reduceIte,r1,r2,r3,Option.bind_some]
    have I:=ih fun j x' hj hx'=>by
     rcases Nat.lt_or_eq_of_le (Nat.le_of_lt_succ hj) with h | h
     ·exact hpre j x' h hx'
     ·rw [h,hx] at hx';obtain rfl:=Option.some.inj hx';omega
    by_cases c3:(!(y.Type_ == z.Type_))=true
    ·exact ⟨13,by simp only [c3,↓reduceIte],by simp only [c3,↓reduceIte],by omega⟩
    ·by_cases c4:(!(u == z.From))=true
     ·exact ⟨11,by simp only [c3,c4,Bool.false_eq_true,↓reduceIte],by simp only [c3,c4,Bool.false_eq_true,↓reduceIte],by omega⟩
     ·by_cases c5:(!(v == z.To))=true
      ·exact ⟨11,by simp only [c3,c4,c5,Bool.false_eq_true,↓reduceIte],by simp only [c3,c4,c5,Bool.false_eq_true,↓reduceIte],by omega⟩
      ·simp only [c3,c4,c5,Bool.false_eq_true,↓reduceIte];exact I) 0 (Nat.zero_le _) ax ax (by rw [aL];omega) (by rw [aL];omega)
 exact D fun j x hj=>by omega
theorem N0 (a b:Graph) (m:aQ) (an:a.Nodes.length≤1048576) (ae:a.Edges.length≤1048576) (bn:b.Nodes.length≤1048576) (be:b.Edges.length≤1048576) :
  ∃ e,f209 a b m=some e∧f141 a b m=some e∧(e=0→aaa a b m):=by
 obtain ⟨e1,g1,g2,g3,_⟩:=qN a an ae
 obtain ⟨e2,k1,k2,k3,_⟩:=qN b bn be
 unfold f209 f141
 simp only [g1,g2,k1,k2,Option.bind_some]
 by_cases c1:e1=0
 ·by_cases c2:e2=0
  ·have d1:(!(e1 == 0))=false:=by simp [c1]
   have d2:(!(e2 == 0))=false:=by simp [c2]
   have ha:=g3 c1
   have hb:=k3 c2
   simp only [d1,d2,Bool.false_eq_true,↓reduceIte]
   by_cases c3:(!((m.Nodes.length:Int) == (a.Nodes.length:Int)))=true
   ·exact ⟨20,by simp only [c3,↓reduceIte],by simp only [c3,↓reduceIte],by omega⟩
   ·by_cases c4:(!((m.Edges.length:Int) == (a.Edges.length:Int)))=true
    ·exact ⟨20,by simp only [c3,c4,Bool.false_eq_true,↓reduceIte],by simp only [c3,c4,Bool.false_eq_true,↓reduceIte],by omega⟩
    ·simp only [c3,c4,Bool.false_eq_true,↓reduceIte]
     have ln:m.Nodes.length=a.Nodes.length:=by simp at c3;omega
     have le:m.Edges.length=a.Edges.length:=by simp at c4;omega
     obtain ⟨ee,E1,E2,E3⟩:=JV a b m ha ln le
     have D:=fF (fun k i=>mi a b m k i) (fun k i=>mB a b m k i) a.Nodes.length (by omega)
      (fun i p q=>(∀ j x,j<i→m.Nodes[j]?=some x→0≤x∧x<b.Nodes.length)→∃ e,p=some e∧q=some e∧(e=0→aaa a b m)) (fun k k' hpre=>by
      have h1:¬ ((a.Nodes.length:Int)<a.Nodes.length):=by omega
      have h2:¬ ((a.Nodes.length:Int)<m.Nodes.length):=by omega
      refine ⟨ee,by simp only [mi,h2,decide_false,Bool.false_eq_true,↓reduceIte,E1],by simp only [mB,h1,decide_false,Bool.false_eq_true,↓reduceIte,E2],fun h0=>⟨ha,hb,ln,le,fun x hx=>?_,E3 h0⟩⟩
      obtain ⟨j,hj⟩:=List.mem_iff_getElem?.1 hx
      exact hpre j x (by have:=(List.getElem?_eq_some_iff.1 hj).1;omega) hj) (fun k k' i hi ih hpre=>by
      have h1:(i:Int)<a.Nodes.length:=by omega
      have h2:(i:Int)<m.Nodes.length:=by omega
      have hi2:i<m.Nodes.length:=by omega
      have hx:m.Nodes[i]?=some m.Nodes[i]:=List.getElem?_eq_getElem hi2
      have hy:a.Nodes[i]?=some a.Nodes[i]:=List.getElem?_eq_getElem hi
      generalize m.Nodes[i]=x at hx
      generalize a.Nodes[i]=y at hy
      simp only [mi,mB,h1,h2,decide_true,↓reduceIte,bB,hx,hy,Option.bind_some]
      by_cases c1:x<0
      ·exact ⟨6,by simp only [c1,decide_true,↓reduceIte],by simp only [c1,decide_true,↓reduceIte],by omega⟩
      ·by_cases c2:(b.Nodes.length:Int)≤x
       ·exact ⟨6,by simp only [c1,c2,decide_true,decide_false,Bool.false_eq_true,↓reduceIte],by simp only [c1,c2,decide_true,decide_false,Bool.false_eq_true,↓reduceIte],by omega⟩
       ·obtain ⟨z,r1,_⟩:=gW (l:=b.Nodes) (i:=x) (by omega) (by omega)
        simp only [c1,c2,decide_false,Bool.false_eq_true,↓reduceIte,r1,Option.bind_some]
        by_cases c3:(!(z == y))=true
        ·exact ⟨13,by simp only [c3,↓reduceIte],by simp only [c3,↓reduceIte],by omega⟩
        ·simp only [c3,Bool.false_eq_true,↓reduceIte]
         exact ih fun j x' hj hx'=>by
          rcases Nat.lt_or_eq_of_le (Nat.le_of_lt_succ hj) with h | h
          ·exact hpre j x' h hx'
          ·rw [h,hx] at hx';obtain rfl:=Option.some.inj hx';omega) 0 (Nat.zero_le _) ax ax (by rw [aL];omega) (by rw [aL];omega)
     exact D fun j x hj=>by omega
  ·have d1:(!(e1 == 0))=false:=by simp [c1]
   have d2:(!(e2 == 0))=true:=by simp [c2]
   exact ⟨e2,by simp only [d1,d2,Bool.false_eq_true,↓reduceIte],by simp only [d1,d2,Bool.false_eq_true,↓reduceIte],fun h=>absurd h c2⟩
 ·have d1:(!(e1 == 0))=true:=by simp [c1]
  exact ⟨e1,by simp only [d1,↓reduceIte],by simp only [d1,↓reduceIte],fun h=>absurd h c1⟩
theorem UU (l:List Int) (i:Nat) (hi:i<l.length) (hl:l.length≤1048576) (k0:Int→Option Bool):kv l i k0 ax 0=if ((l.take i).any fun y=>l[i] == y)=true then some false else k0 (w64 ((i:Int)+1)):=by
 have:=loop_up (fun m k=>kv l i k0 m k) i (by omega) (fun k r=>r=if (((l.take i).drop k).any fun y=>l[i] == y)=true then some false else k0 (w64 ((i:Int)+1))) (fun m=>by
  have:(l.take i).drop i=[]:=by simp
  simp [kv,this]) (fun m k hk ih=>by
  have hkl:k<(l.take i).length:=by simp;omega
  have h1:(k:Int)<i:=by omega
  rw [List.drop_eq_getElem_cons hkl]
  simp only [kv,h1,decide_true,↓reduceIte,bB,List.getElem?_eq_getElem (show k<l.length by omega),List.getElem?_eq_getElem hi,Option.bind_some,List.any_cons,List.getElem_take]
  rw [ih]
  cases c:(l[i] == l[k]) with
  | true=>rfl
  | false=>rfl) 0 (Nat.zero_le _) ax (by rw [aL];omega)
 rw [List.drop_zero] at this;exact this
theorem Ao (l:List Int) (hl:l.length≤1048576):f107 l=some (decide l.Nodup):=by
 unfold f107
 have key:=cp l.length (by omega) (fun i m k=>(l.take i).Nodup→mH l m k=some (decide l.Nodup)) (fun m hn=>by
  rw [List.take_length] at hn
  simp [mH,hn]) (fun m i hi ih hn=>by
  have h1:(i:Int)<l.length:=by omega
  simp only [mH,h1,decide_true,↓reduceIte,UU l i hi hl]
  have htk:l.take (i+1)=l.take i ++ [l[i]]:=by rw [List.take_succ,List.getElem?_eq_getElem hi];rfl
  by_cases c:((l.take i).any fun y=>l[i] == y)=true
  ·simp only [c,↓reduceIte]
   have:¬ l.Nodup:=fun hd=>by
    have h2:=(List.take_sublist (i+1) l).nodup hd
    rw [htk,List.nodup_append] at h2
    simp only [List.any_eq_true,beq_iff_eq] at c
    obtain ⟨y,hy,rfl⟩:=c
    exact h2.2.2 _ hy _ (List.mem_singleton.2 rfl) rfl
   simp [this]
  ·simp only [c,Bool.false_eq_true,↓reduceIte]
   refine ih ?_
   rw [htk,List.nodup_append]
   refine ⟨hn,by simp,fun a ha b hb=>?_⟩
   rw [List.mem_singleton] at hb;subst hb
   intro e;subst e
   exact c (List.any_eq_true.2 ⟨_,ha,by simp⟩)) 0 (Nat.zero_le _) ax (by rw [aL];omega)
 exact key (by simp)
end Go.S
end
section
set_option linter.all false
set_option maxRecDepth 10000
namespace Go.S
open Go Go.Pm
theorem alC (i j:Nat) (h:i+j<1099511627776):w64 (Int.fdiv (Go.IntKind.wrap Go.IntKind.u64 (w64 ((i:Int)+(j:Int)))) ((2:Int) ^ (Min.min (Int.toNat (1:Int)) (Go.IntKind.bits Go.IntKind.u64))))=(((i+j) / 2:Nat):Int):=by
 have e1:w64 ((i:Int)+(j:Int))=((i+j:Nat):Int):=by rw [bS (by omega) (by omega)];omega
 have e2:Go.IntKind.wrap Go.IntKind.u64 ((i+j:Nat):Int)=((i+j:Nat):Int):=by
  simp only [Go.IntKind.wrap]
  first
   | (show ((i+j:Nat):Int) % _=_;rw [Int.emod_eq_of_lt (by omega) (by simp [Go.IntKind.bits];omega)])
   | (simp [Go.IntKind.bits,Go.IntKind.signed];omega)
   | (simp;omega)
 have e3:((2:Int) ^ (Min.min (Int.toNat (1:Int)) (Go.IntKind.bits Go.IntKind.u64)))=2:=by rfl
 rw [e1,e2,e3]
 have e4:Int.fdiv ((i+j:Nat):Int) 2=(((i+j) / 2:Nat):Int):=by
  rw [Int.fdiv_eq_ediv_of_nonneg _ (by omega)];omega
 rw [e4,bS (by omega) (by omega)]
theorem aee (x y:Int):f242 x y=some (decide (x<y)):=rfl
theorem aed (x:Int):f243 x=some false:=rfl
theorem afn (x:List Int) (t:Int) (hx:x.Pairwise (·<·)) (hl:x.length≤1048576):∃ i:Nat,i≤x.length∧f231 x t=some ((i:Int),decide (t∈x))∧(t∈x→x[i]?=some t):=by
 rw [List.pairwise_iff_getElem] at hx
 have key:∀ (d i j:Nat),j - i=d→i≤j→j≤x.length→(∀ k (hk:k<x.length),k<i→x[k]<t)→(∀ k (hk:k<x.length),j≤k→t≤x[k])→∀ m,d<m→
   ∃ r:Nat,r≤x.length∧j5 x t m i j=some ((r:Int),decide (t∈x))∧(t∈x→x[r]?=some t):=by
  intro d
  induction d using Nat.strongRecOn with
  | ind d ih=>
   intro i j hd hij hj lo hi m hm
   obtain ⟨m,rfl⟩:∃ k,m=k+1:=⟨m - 1,by omega⟩
   by_cases c:i<j
   ·have c':(i:Int)<j:=by omega
    have hlt:(i+j) / 2<x.length:=by omega
    unfold j5
    simp only [c',show decide ((0:Int)≤1)=true from rfl,decide_true,↓reduceIte,alC i j (by omega),bB,List.getElem?_eq_getElem hlt,Option.bind_some,aee]
    by_cases c2:x[(i+j) / 2]<t
    ·have w:w64 ((((i+j) / 2:Nat):Int)+1)=(((i+j) / 2+1:Nat):Int):=fA (by omega)
     simp only [c2,decide_true,↓reduceIte,w]
     refine ih (j - ((i+j) / 2+1)) (by omega) ((i+j) / 2+1) j rfl (by omega) hj (fun k hk hk2=>?_) hi m (by omega)
     rcases Nat.lt_or_ge k ((i+j) / 2) with h | h
     ·exact Int.lt_trans (hx k _ hk hlt h) c2
     ·have:k=(i+j) / 2:=by omega
      subst this;exact c2
    ·simp only [c2,decide_false,Bool.false_eq_true,↓reduceIte]
     refine ih ((i+j) / 2 - i) (by omega) i ((i+j) / 2) rfl (by omega) (by omega) lo (fun k hk hk2=>?_) m (by omega)
     rcases Nat.lt_or_ge ((i+j) / 2) k with h | h
     ·have:=hx _ k hlt hk h;omega
     ·have:k=(i+j) / 2:=by omega
      subst this;omega
   ·have hij':i=j:=by omega
    subst hij'
    have c':¬ ((i:Int)<i):=by omega
    refine ⟨i,hj,?_⟩
    unfold j5
    simp only [c',decide_false,Bool.false_eq_true,↓reduceIte]
    have hmem:t∈x→∃ h:i<x.length,x[i]=t:=fun hm=>by
     obtain ⟨k,hk,rfl⟩:=List.mem_iff_getElem.1 hm
     rcases Nat.lt_trichotomy k i with h | h | h
     ·have:=lo k hk h;omega
     ·subst h;exact ⟨hk,rfl⟩
     ·have hi2:i<x.length:=by omega
      have h1:=hi i hi2 (Nat.le_refl _)
      have h2:=hx i k hi2 hk h
      omega
    by_cases c3:i<x.length
    ·have c4:(i:Int)<x.length:=by omega
     simp only [c4,decide_true,↓reduceIte,bB,List.getElem?_eq_getElem c3,Option.bind_some,aed,Bool.false_eq_true]
     by_cases c5:x[i]=t
     ·have c6:t∈x:=c5▸List.getElem_mem c3
      simp [c5,c6]
     ·have c6:¬ (t∈x):=fun h=>by obtain ⟨_,h2⟩:=hmem h;exact c5 h2
      simp [c5,c6]
    ·have c4:¬ ((i:Int)<x.length):=by omega
     have c6:¬ (t∈x):=fun h=>by obtain ⟨h2,_⟩:=hmem h;exact c3 h2
     simp [c4,c6]
 have:=key x.length 0 x.length rfl (by omega) (by omega) (fun k hk h=>by omega) (fun k hk h=>by omega) ax (by rw [aL];omega)
 unfold f231
 rw [show ((0:Nat):Int)=0 from rfl] at this
 exact this
theorem aeb (x:List Int) (t:Int) (hx:x.Pairwise (·<·)) (hl:x.length≤1048576):f252 x t=some (decide (t∈x)):=by
 obtain ⟨i,_,h,_⟩:=afn x t hx hl
 unfold f252;rw [h];rfl
theorem aes (l:List Int) (n:Int) (h:l.length≤1048576):f195 l n=some (decide (n∈l)):=by
 unfold f195
 rw [bX l (by omega) (fun m i=>mo l n m i) (fun i x k=>if (x == n)=true then some true else k) (some false) (fun m=>by simp [mo]) (fun m i x hx=>by
  have hi:(i:Int)<l.length:=by have:=(List.getElem?_eq_some_iff.1 hx).1;omega
  simp only [mo,bB,hx,Option.bind_some,hi,decide_true,↓reduceIte]) (by rw [aL];omega),walk_stop (fun x:Int=>x == n)]
 have:(l.any fun x=>x == n)=decide (n∈l):=by rw [Bool.eq_iff_iff];simp
 rw [this];split <;> simp_all
theorem P0 (l:List Int) (t:Int) (hx:l.Pairwise (·<·)) (hl:l.length≤1048576) (i:Nat) (hi:l[i]?=some t):f167 l t=some (i:Int):=by
 have hil:=(List.getElem?_eq_some_iff.1 hi).1
 have hit:=(List.getElem?_eq_some_iff.1 hi).2
 rw [List.pairwise_iff_getElem] at hx
 unfold f167
 have key:=cp i (by omega) (fun k m kk=>my l t m kk=some (i:Int)) (fun m=>by
  have h1:(i:Int)<l.length:=by omega
  simp [my,h1,bB,hi]) (fun m k hk ih=>by
  have h1:(k:Int)<l.length:=by omega
  have hkl:k<l.length:=by omega
  have:(l[k] == t)=false:=beq_eq_false_iff_ne.2 (by have:=hx k i hkl hil hk;omega)
  simp only [my,h1,decide_true,↓reduceIte,bB,List.getElem?_eq_getElem hkl,Option.bind_some,this,Bool.false_eq_true]
  exact ih) 0 (Nat.zero_le _) ax (by rw [aL];omega)
 exact key
structure Asc (l:List Int) (n:Int):Prop where
 asc:l.Pairwise (·<·)
 mem:∀ x∈l,0≤x∧x<n
theorem Q2 {l:List Int} (h:l.Pairwise (·<·)) {x y:Int} (hy:l.getLast?=some y) (hxy:y<x):(l ++ [x]).Pairwise (·<·):=by
 rw [List.pairwise_append]
 refine ⟨h,List.pairwise_singleton _ _,fun a ha b hb=>?_⟩
 rw [List.mem_singleton] at hb;subst hb
 obtain ⟨i,hi,rfl⟩:=List.mem_iff_getElem.1 ha
 rw [List.getLast?_eq_getElem?] at hy
 obtain ⟨hl,e⟩:=List.getElem?_eq_some_iff.1 hy
 rw [List.pairwise_iff_getElem] at h
 rcases Nat.lt_or_ge i (l.length - 1) with c | c
 ·exact Int.lt_trans (h i _ hi hl c) (e▸hxy)
 ·have:i=l.length - 1:=by omega
  subst this;exact e▸hxy
theorem Z8 (l:List Int) (n:Int) (hl:l.length≤1048576):∃ e,f251 l n=some e∧f194 l n=some e∧(e=0→Asc l n):=by
 unfold f251 f194
 have D:=fF (fun k i=>j4 l n k i) (fun k i=>j9 l n k i) l.length (by omega)
  (fun i p q=>Asc (l.take i) n→∃ e,p=some e∧q=some e∧(e=0→Asc l n)) (fun k k' hpre=>by
   rw [List.take_length] at hpre
   exact ⟨0,by simp [j4],by simp [j9],fun _=>hpre⟩) (fun k k' i hi ih hpre=>by
  have h1:(i:Int)<l.length:=by omega
  have hx:l[i]?=some l[i]:=List.getElem?_eq_getElem hi
  have htk:l.take (i+1)=l.take i ++ [l[i]]:=by rw [List.take_succ,hx];rfl
  generalize l[i]=x at hx htk
  simp only [j4,j9,h1,decide_true,↓reduceIte,bB,hx,Option.bind_some]
  by_cases c1:x<0
  ·exact ⟨6,by simp only [c1,decide_true,↓reduceIte],by simp only [c1,decide_true,↓reduceIte],by omega⟩
  ·by_cases c2:n≤x
   ·exact ⟨6,by simp only [c1,c2,decide_true,decide_false,Bool.false_eq_true,↓reduceIte],by simp only [c1,c2,decide_true,decide_false,Bool.false_eq_true,↓reduceIte],by omega⟩
   ·simp only [c1,c2,decide_false,Bool.false_eq_true,↓reduceIte]
    have hm:∀ y∈l.take (i+1),0≤y∧y<n:=fun y hy=>by
     rw [htk,List.mem_append,List.mem_singleton] at hy
     rcases hy with hy | rfl
     ·exact hpre.mem y hy
     ·omega
    by_cases c3:(0:Int)<i
    ·have w:w64 ((i:Int) - 1)=((i - 1:Nat):Int):=by rw [bS (by omega) (by omega)];omega
     have hi1:i - 1<l.length:=by omega
     simp only [c3,decide_true,↓reduceIte,w,bB,List.getElem?_eq_getElem hi1,Option.bind_some]
     by_cases c4:x≤l[i - 1]
     ·exact ⟨12,by simp only [c4,decide_true,↓reduceIte],by simp only [c4,decide_true,↓reduceIte],by omega⟩
     ·simp only [c4,decide_false,Bool.false_eq_true,↓reduceIte]
      refine ih ⟨?_,hm⟩
      rw [htk]
      refine Q2 hpre.asc (y:=l[i - 1]) ?_ (by omega)
      rw [List.getLast?_eq_getElem?,List.length_take,Nat.min_eq_left (by omega),List.getElem?_take_of_lt (by omega),List.getElem?_eq_getElem hi1]
    ·have:i=0:=by omega
     subst this
     simp only [c3,decide_false,Bool.false_eq_true,↓reduceIte]
     exact ih ⟨by rw [htk];simp,hm⟩) 0 (Nat.zero_le _) ax ax (by rw [aL];omega) (by rw [aL];omega)
 exact D ⟨by simp,by simp⟩
structure AG (g:Graph) (p:Part):Prop where
 gr:ie g
 nodes:Asc p.Nodes g.Nodes.length
 edges:Asc p.Edges g.Edges.length
 ends:∀ k∈p.Edges,∀ x,at? g.Edges k=some x→x.From∈p.Nodes∧x.To∈p.Nodes
theorem ab3 (g:Graph) (p:Part) (gn:g.Nodes.length≤1048576) (ge:g.Edges.length≤1048576) (pn:p.Nodes.length≤1048576) (pe:p.Edges.length≤1048576) :
  ∃ e,f230 g p=some e∧f139 g p=some e∧(e=0→AG g p):=by
 obtain ⟨e1,g1,g2,g3,_⟩:=qN g gn ge
 unfold f230 f139
 simp only [g1,g2,Option.bind_some]
 by_cases c1:e1=0
 ·have d1:(!(e1 == 0))=false:=by simp [c1]
  simp only [d1,Bool.false_eq_true,↓reduceIte]
  have hG:=g3 c1
  obtain ⟨e2,k1,k2,k3⟩:=Z8 p.Nodes (g.Nodes.length:Int) pn
  obtain ⟨e3,l1,l2,l3⟩:=Z8 p.Edges (g.Edges.length:Int) pe
  unfold f241 f166
  simp only [k1,k2,l1,l2,Option.bind_some]
  by_cases c2:e2=0
  ·by_cases c3:e3=0
   ·have d2:(!(e2 == 0))=false:=by simp [c2]
    have d3:(!(e3 == 0))=false:=by simp [c3]
    simp only [d2,d3,Bool.false_eq_true,↓reduceIte]
    have hN:=k3 c2
    have hE:=l3 c3
    have D:=fF (fun k i=>mf g p k i) (fun k i=>mz g p k i) p.Edges.length (by omega)
     (fun i a b=>(∀ j k,j<i→p.Edges[j]?=some k→∀ x,at? g.Edges k=some x→x.From∈p.Nodes∧x.To∈p.Nodes)→∃ e,a=some e∧b=some e∧(e=0→AG g p)) (fun k k' hpre=>by
      refine ⟨0,by simp [mf],by simp [mz],fun _=>⟨hG,hN,hE,fun k hk=>?_⟩⟩
      obtain ⟨j,hj⟩:=List.mem_iff_getElem?.1 hk
      exact hpre j k (List.getElem?_eq_some_iff.1 hj).1 hj) (fun k k' i hi ih hpre=>by
     have h1:(i:Int)<p.Edges.length:=by omega
     have hx:p.Edges[i]?=some p.Edges[i]:=List.getElem?_eq_getElem hi
     obtain ⟨q1,q2⟩:=hE.mem _ (List.getElem_mem hi)
     generalize p.Edges[i]=y at hx q1 q2
     obtain ⟨z,r1,r2⟩:=gW (l:=g.Edges) (i:=y) q1 q2
     simp only [mf,mz,h1,decide_true,↓reduceIte,bB,hx,Option.bind_some,r1,aeb p.Nodes _ hN.asc pn,aes p.Nodes _ pn]
     by_cases c4:z.From∈p.Nodes
     ·by_cases c5:z.To∈p.Nodes
      ·simp only [c4,c5,decide_true,Bool.not_true,Bool.false_eq_true,↓reduceIte]
       exact ih fun j y' hj hy' x hx'=>by
        rcases Nat.lt_or_eq_of_le (Nat.le_of_lt_succ hj) with h | h
        ·exact hpre j y' h hy' x hx'
        ·rw [h,hx] at hy';obtain rfl:=Option.some.inj hy'
         rw [r1] at hx';obtain rfl:=Option.some.inj hx';exact ⟨c4,c5⟩
      ·simp only [c4,c5,decide_true,decide_false,Bool.not_true,Bool.not_false,Bool.false_eq_true,↓reduceIte]
       exact ⟨14,rfl,rfl,by omega⟩
     ·simp only [c4,decide_false,Bool.not_false,↓reduceIte]
      exact ⟨14,rfl,rfl,by omega⟩) 0 (Nat.zero_le _) ax ax (by rw [aL];omega) (by rw [aL];omega)
    obtain ⟨e,q1,q2,q3⟩:=D fun j k hj=>by omega
    exact ⟨e,congrArg (fun o=>Option.bind o fun x1=>some x1) q1,congrArg (fun o=>Option.bind o fun x1=>some x1) q2,q3⟩
   ·have d2:(!(e2 == 0))=false:=by simp [c2]
    have d3:(!(e3 == 0))=true:=by simp [c3]
    simp only [d2,d3,Bool.false_eq_true,↓reduceIte,Option.bind_some]
    exact ⟨e3,rfl,rfl,fun h=>absurd h c3⟩
  ·have d2:(!(e2 == 0))=true:=by simp [c2]
   simp only [d2,↓reduceIte,Option.bind_some]
   exact ⟨e2,rfl,rfl,fun h=>absurd h c2⟩
 ·have d1:(!(e1 == 0))=true:=by simp [c1]
  exact ⟨e1,by simp only [d1,↓reduceIte],by simp only [d1,↓reduceIte],fun h=>absurd h c1⟩
end Go.S
end
section
set_option linter.all false
set_option maxRecDepth 10000
namespace Go.S
open Go Go.Pm
theorem Pz (l:List Int) (h:l.length≤1048576):f95 l=some l:=by
 unfold f95 oq
 have:l.length≤bound:=by unfold bound;omega
 simp only [this,↓reduceIte]
theorem Lf (g:Graph) (p:Part) (hP:AG g p) (pn:p.Nodes.length≤1048576) (pe:p.Edges.length≤1048576) (h0:f230 g p=some 0) (h1:f139 g p=some 0) :
  ∃ k:Graph,f208 g p=some (k,⟨p.Nodes,p.Edges⟩,0)∧f140 g p=some (k,⟨p.Nodes,p.Edges⟩,0)∧k.Nodes.length=p.Nodes.length∧k.Edges.length=p.Edges.length:=by
 have hE:∀ out:List Int,∃ k:Graph,j8 g p out ax [] 0=some (k,⟨p.Nodes,p.Edges⟩,0)∧ko g p out ax [] 0=some (k,⟨p.Nodes,p.Edges⟩,0)∧k.Nodes.length=out.length∧k.Edges.length=p.Edges.length:=fun out=>by
  have D:=cp p.Edges.length (by omega) (fun i m k=>∀ m',p.Edges.length - i<m'→∀ o5:List Edge,o5.length=i→∃ kg:Graph,j8 g p out m o5 k=some (kg,⟨p.Nodes,p.Edges⟩,0)∧ko g p out m' o5 k=some (kg,⟨p.Nodes,p.Edges⟩,0)∧kg.Nodes.length=out.length∧kg.Edges.length=p.Edges.length) (fun m m' hm' o5 ho=>by
    have h1:¬ ((p.Edges.length:Int)<p.Edges.length):=by omega
    have b1:p.Nodes.length≤bound:=by unfold bound;omega
    have b2:p.Edges.length≤bound:=by unfold bound;omega
    obtain ⟨m',rfl⟩:∃ k,m'=k+1:=⟨m' - 1,by omega⟩
    simp only [j8,ko,h1,decide_false,Bool.false_eq_true,↓reduceIte,Pz _ pn,Pz _ pe,Option.bind_some,b1,b2,decide_true]
    exact ⟨⟨out,o5⟩,rfl,rfl,rfl,ho⟩) (fun m i hi ih m' hm' o5 ho=>by
    obtain ⟨m',rfl⟩:∃ k,m'=k+1:=⟨m' - 1,by omega⟩
    have h1:(i:Int)<p.Edges.length:=by omega
    have hx:p.Edges[i]?=some p.Edges[i]:=List.getElem?_eq_getElem hi
    have hmem:=List.getElem_mem hi
    obtain ⟨q1,q2⟩:=hP.edges.mem _ hmem
    have hend:=hP.ends _ hmem
    generalize p.Edges[i]=y at hx q1 q2 hend
    obtain ⟨z,r1,r2⟩:=gW (l:=g.Edges) (i:=y) q1 q2
    obtain ⟨f1,f2⟩:=hend z r1
    obtain ⟨a,_,a1,a2⟩:=afn p.Nodes z.From hP.nodes.asc pn
    obtain ⟨b,_,b1,b2⟩:=afn p.Nodes z.To hP.nodes.asc pn
    have c1:=P0 p.Nodes z.From hP.nodes.asc pn a (a2 f1)
    have c2:=P0 p.Nodes z.To hP.nodes.asc pn b (b2 f2)
    have hb:(o5 ++ [Edge.mk z.Type_ (a:Int) (b:Int)]).length≤bound:=by unfold bound;simp;omega
    simp only [j8,ko,h1,decide_true,↓reduceIte,bB,hx,Option.bind_some,r1,a1,b1,c1,c2,hb]
    exact ih m' (by omega) _ (by simp [ho])) 0 (Nat.zero_le _) ax (by rw [aL];omega) ax (by rw [aL];omega) [] rfl
  exact D
 have D:=cp p.Nodes.length (by omega) (fun i m k=>∀ m',p.Nodes.length - i<m'→∀ o:List Int,o.length=i→∃ kg:Graph,mj g p m o k=some (kg,⟨p.Nodes,p.Edges⟩,0)∧mC g p m' o k=some (kg,⟨p.Nodes,p.Edges⟩,0)∧kg.Nodes.length=p.Nodes.length∧kg.Edges.length=p.Edges.length) (fun m m' hm' o ho=>by
   have h1:¬ ((p.Nodes.length:Int)<p.Nodes.length):=by omega
   obtain ⟨m',rfl⟩:∃ k,m'=k+1:=⟨m' - 1,by omega⟩
   obtain ⟨k,k1,k2,k3,k4⟩:=hE o
   simp only [mj,mC,h1,decide_false,Bool.false_eq_true,↓reduceIte,k1,k2]
   exact ⟨k,rfl,rfl,k3.trans ho,k4⟩) (fun m i hi ih m' hm' o ho=>by
   obtain ⟨m',rfl⟩:∃ k,m'=k+1:=⟨m' - 1,by omega⟩
   have h1:(i:Int)<p.Nodes.length:=by omega
   have hx:p.Nodes[i]?=some p.Nodes[i]:=List.getElem?_eq_getElem hi
   obtain ⟨q1,q2⟩:=hP.nodes.mem _ (List.getElem_mem hi)
   generalize p.Nodes[i]=y at hx q1 q2
   obtain ⟨z,r1,r2⟩:=gW (l:=g.Nodes) (i:=y) q1 q2
   have hb:(o ++ [z]).length≤bound:=by unfold bound;simp;omega
   simp only [mj,mC,h1,decide_true,↓reduceIte,bB,hx,Option.bind_some,r1,hb]
   exact ih m' (by omega) _ (by simp [ho])) 0 (Nat.zero_le _) ax (by rw [aL];omega) ax (by rw [aL];omega) [] rfl
 obtain ⟨k,k1,k2,k3,k4⟩:=D
 refine ⟨k,?_,?_,k3,k4⟩
 ·unfold f208;simp only [h0,Option.bind_some,show (!((0:Int) == 0))=false from rfl,Bool.false_eq_true,↓reduceIte];exact k1
 ·unfold f140;simp only [h1,Option.bind_some,show (!((0:Int) == 0))=false from rfl,Bool.false_eq_true,↓reduceIte];exact k2
end Go.S
end
section
set_option linter.all false
set_option maxRecDepth 10000
namespace Go.S
open Go Go.Pm
theorem PW (s:List Int) (v:Int) (h:s.length≤4000000000):f159 s v=some (s.any fun x=>v == x):=by
 unfold f159 f185
 rw [bX s (by omega) (fun m i=>mr s v m i) (fun i x k=>(some (v == x)).bind fun b=>if b then some (i:Int) else k) (some (-1)) (fun m=>by simp [mr]) (fun m i x hx=>by
  have hi:(i:Int)<s.length:=by have:=(List.getElem?_eq_some_iff.1 hx).1;omega
  simp only [mr,bB,hx,Option.bind_some,hi,decide_true,↓reduceIte]) (by rw [aL];omega)]
 obtain ⟨r,h1,h2,_⟩:=cu (fun x=>some (v == x)) (fun x=>v == x) s (fun a _=>rfl) 0
 rw [h1,Option.bind_some,contains_of h2]
theorem ahB (n:Nat) (hn:n≤1000000):∀ (m:Nat) (s:List Int) (i j:Nat),s.length=n→j<n+1→j≤i+m→∃ s',fh (m+1) s (i:Int) ((j:Int) - 1)=some s'∧s'.Perm s:=by
 intro m
 induction m with
 | zero=>
  intro s i j hs hj hm
  have:¬ ((i:Int)<(j:Int) - 1):=by omega
  exact ⟨s,by simp only [fh,this,decide_false,Bool.false_eq_true,↓reduceIte],List.Perm.refl _⟩
 | succ m ih=>
  intro s i j hs hj hm
  by_cases c:(i:Int)<(j:Int) - 1
  ·have hi:i<s.length:=by omega
   have hjl:j - 1<s.length:=by omega
   obtain ⟨k,hk⟩:∃ k,j=k+1:=⟨j - 1,by omega⟩
   subst hk
   have ek:((k+1:Nat):Int) - 1=k:=by omega
   rw [ek] at c ⊢
   have hkl:k<s.length:=by omega
   have b1:(0:Int)≤k:=by omega
   have b2:(k:Int)<s.length:=by omega
   have b3:(0:Int)≤i:=by omega
   have b4:(i:Int)<s.length:=by omega
   have w1:w64 ((i:Int)+1)=((i+1:Nat):Int):=fA (by omega)
   have w2:w64 ((k:Int) - 1)=(k:Int) - 1:=bS (by omega) (by omega)
   have hset:((s.set i s[k])[k]?).isSome=true:=by simp [hkl]
   obtain ⟨z,hz⟩:=Option.isSome_iff_exists.1 hset
   obtain ⟨s',g1,g2⟩:=ih ((s.set i s[k]).set k s[i]) (i+1) k (by simp [hs]) (by omega) (by omega)
   refine ⟨s',?_,g2.trans (List.set_set_perm hi hkl)⟩
   unfold fh
   simp only [c,b1,b2,b3,b4,decide_true,Bool.and_self,↓reduceIte,Int.toNat_natCast,List.getElem?_eq_getElem hi,List.getElem?_eq_getElem hkl,Option.bind_some,w1,w2,hz]
   exact g1
  ·exact ⟨s,by simp only [fh,c,decide_false,Bool.false_eq_true,↓reduceIte],List.Perm.refl _⟩
theorem aex (s:List Int) (h:s.length≤1000000):∃ s',oM s=some s'∧s'.Perm s:=by
 unfold oM
 have:w64 ((s.length:Int) - 1)=(s.length:Int) - 1:=bS (by omega) (by omega)
 rw [this]
 have:=ahB s.length h (ax - 1) s 0 s.length rfl (by omega) (by rw [aL];omega)
 exact this
theorem acI {R:bI} (h93:∀ a0 a1 a2,R.f93 a0 a1 a2=oS R a0 a1 a2) {t:Types} (ht:tg t):∀ (i:Nat),i<t.Nodes.length→∃ l:List Int,l.length≤i+1∧(∀ b,0≤b→R.f93 t i b=some (l.any fun x=>b == x))∧
  ∀ (out:List Int) (m:Nat),out.length+i≤1000→i+1<m→kh t m out i=(oM (out ++ l)).bind fun x3=>if decide ((out ++ l).length≤x3.length)=true then some (x3.take (out ++ l).length) else none:=by
 intro i
 induction i using Nat.strongRecOn with
 | ind i ih=>
  intro hi
  have hx:t.Nodes[i]?=some t.Nodes[i]:=List.getElem?_eq_getElem hi
  obtain ⟨p1,p2⟩:=ht.par i hi _ hx
  generalize t.Nodes[i]=x at hx p1 p2
  have h0:(0:Int)≤i:=by omega
  have hi12:i<12:=by have:=ht.n;omega
  by_cases hneg:0≤x.Parent
  ·obtain ⟨p,hpp⟩:∃ p:Nat,x.Parent=p:=⟨x.Parent.toNat,by omega⟩
   obtain ⟨l,g1,g2,g3⟩:=ih p (by omega) (by omega)
   refine ⟨(i:Int)::l,by simp;omega,fun b hb=>?_,fun out m ho hm=>?_⟩
   ·rw [h93];unfold oS
    by_cases c:(i:Int)=b
    ·subst c;simp
    ·have c':((i:Int) == b)=false:=beq_eq_false_iff_ne.2 c
     have c'':(b == (i:Int))=false:=beq_eq_false_iff_ne.2 (Ne.symm c)
     simp only [c',c'',h0,decide_true,Bool.false_eq_true,↓reduceIte,bB,hx,Option.bind_some,hpp,g2 b hb,List.any_cons,Bool.false_or]
   ·cases m with
    | zero=>omega
    | succ m=>
     have hb:(out ++ [(i:Int)]).length≤bound:=by unfold bound;simp;omega
     unfold kh
     simp only [h0,decide_true,↓reduceIte,hb,bB,hx,Option.bind_some,hpp]
     rw [g3 (out ++ [(i:Int)]) m (by simp;omega) (by omega)]
     simp only [List.append_assoc,List.singleton_append]
  ·have hm1:x.Parent = -1:=by omega
   refine ⟨[(i:Int)],by simp,fun b hb=>?_,fun out m ho hm=>?_⟩
   ·have hz:R.f93 t (-1) b=some false:=by
     rw [h93];unfold oS
     have:((-1:Int) == b)=false:=beq_eq_false_iff_ne.2 (by omega)
     simp [this]
    rw [h93];unfold oS
    by_cases c:(i:Int)=b
    ·subst c;simp
    ·have c':((i:Int) == b)=false:=beq_eq_false_iff_ne.2 c
     have c'':(b == (i:Int))=false:=beq_eq_false_iff_ne.2 (Ne.symm c)
     simp only [c',c'',h0,decide_true,Bool.false_eq_true,↓reduceIte,bB,hx,Option.bind_some,hm1,hz,List.any_cons,List.any_nil,Bool.or_false]
   ·cases m with
    | zero=>omega
    | succ m=>
     cases m with
     | zero=>omega
     | succ m=>
      have hb:(out ++ [(i:Int)]).length≤bound:=by unfold bound;simp;omega
      have hn:¬ ((0:Int)≤-1):=by omega
      unfold kh
      simp only [h0,decide_true,↓reduceIte,hb,bB,hx,Option.bind_some,hm1]
      unfold kh
      simp only [hn,decide_false,Bool.false_eq_true,↓reduceIte]
theorem AF {R:bI} (h93:∀ a0 a1 a2,R.f93 a0 a1 a2=oS R a0 a1 a2) {t:Types} (ht:tg t) (a b:Int) (ha:0≤a) (ha2:a<t.Nodes.length) (hb:0≤b):∃ v,f127 t a b=some v∧R.f93 t a b=some v:=by
 obtain ⟨i,rfl⟩:∃ i:Nat,a=i:=⟨a.toNat,by omega⟩
 obtain ⟨l,g1,g2,g3⟩:=acI h93 ht i (by omega)
 have hn:=ht.n
 obtain ⟨s',q1,q2⟩:=aex l (by omega)
 have hlen:=q2.length_eq
 refine ⟨_,?_,g2 b hb⟩
 unfold f127 f160
 rw [g3 [] ax (by simp;omega) (by rw [aL];omega)]
 simp only [List.nil_append,q1,Option.bind_some,hlen,Nat.le_refl,decide_true,↓reduceIte]
 rw [← hlen,List.take_length,PW s' b (by omega),Option.bind_some]
 congr 1
 rw [Bool.eq_iff_iff]
 simp [q2.mem_iff]
end Go.S
end
section
set_option linter.all false
set_option maxRecDepth 10000
namespace Go.S
open Go Go.Pm
def Adj (s:List Int):Prop:=∀ j,∀ h:j+1<s.length,s[j]≠s[j+1]
theorem FJ (s:List Int) (k0:Nat) (hk:k0<s.length) (hl:s.length≤1048576):∀ s3:List Int,∀ k4:Nat,s3.length=s.length→k4+1≤k0+1→∃ r,eL s k0 ax s3 k4 1=some r∧r.1=false∧r.2.2<s.length:=by
 have D:=cp (s.length - k0) (by omega) (fun i m k=>1≤i→∀ s3:List Int,∀ k4:Nat,s3.length=s.length→k4+1≤k0+i→∃ r,eL s k0 m s3 k4 k=some r∧r.1=false∧r.2.2<s.length) (fun m h1 s3 k4 hs hk4=>by
   have e1:¬ (((s.length - k0:Nat):Int)<((s.length - k0:Nat):Int)):=by omega
   have e2:(0:Int)≤(k4:Int)∧(k4:Int)≤(s3.length:Int):=by omega
   have e3:k4+(s3.length - k4)≤s3.length:=by omega
   simp only [eL,Int.toNat_natCast,e1,e2,e3,and_self,decide_true,decide_false,Bool.false_eq_true,↓reduceIte]
   exact ⟨_,rfl,rfl,by show k4<s.length;omega⟩) (fun m i hi ih h1 s3 k4 hs hk4=>by
   have e1:(i:Int)<((s.length - k0:Nat):Int):=by omega
   have e2:(0:Int)≤(i:Int):=by omega
   have w:w64 ((i:Int) - 1)=((i - 1:Nat):Int):=by rw [bS (by omega) (by omega)];omega
   have e3:(0:Int)≤((i - 1:Nat):Int):=by omega
   have e4:((i - 1:Nat):Int)<((s.length - k0:Nat):Int):=by omega
   have g1:k0+i<s3.length:=by omega
   have g2:k0+(i - 1)<s3.length:=by omega
   have e5:(0:Int)≤(k4:Int):=by omega
   have e6:(k4:Int)<(s3.length:Int):=by omega
   have g3:k4<s3.length:=by omega
   have w2:w64 ((k4:Int)+1)=((k4+1:Nat):Int):=fA (by omega)
   simp only [eL,Int.toNat_natCast,e1,e2,w,e3,e4,e5,e6,decide_true,Bool.and_self,↓reduceIte,List.getElem?_eq_getElem g1,List.getElem?_eq_getElem g2,List.getElem?_eq_getElem g3,Option.bind_some,w2]
   split
   ·exact ih (by omega) _ (k4+1) (by simp [hs]) (by omega)
   ·exact ih (by omega) s3 k4 hs (by omega)) 1 (by omega) ax (by rw [aL];omega)
 exact D (Nat.le_refl _)
theorem Lt (s:List Int) (hl:s.length≤1048576):∃ r,qU s=some r∧(r.1=true↔Adj s)∧(r.1=false→r.2.2<s.length):=by
 unfold qU
 by_cases c:(s.length:Int)<2
 ·simp only [c,decide_true,↓reduceIte]
  exact ⟨_,rfl,by simp only [true_iff];intro j h;omega,fun h=>by cases h⟩
 ·simp only [c,decide_false,Bool.false_eq_true,↓reduceIte]
  have D:=cp s.length (by omega) (fun i m k=>1≤i→(∀ j,∀ h:j+1<s.length,j+1<i→s[j]≠s[j+1])→∃ r,fY s m k=some r∧(r.1=true↔Adj s)∧(r.1=false→r.2.2<s.length)) (fun m h1 hp=>by
    have e1:¬ ((s.length:Int)<s.length):=by omega
    simp only [fY,e1,decide_false,Bool.false_eq_true,↓reduceIte]
    exact ⟨_,rfl,by simp only [true_iff];exact fun j h=>hp j h h,fun h=>by cases h⟩) (fun m i hi ih h1 hp=>by
    have e1:(i:Int)<s.length:=by omega
    have e2:(0:Int)≤(i:Int):=by omega
    have w:w64 ((i:Int) - 1)=((i - 1:Nat):Int):=by rw [bS (by omega) (by omega)];omega
    have e3:(0:Int)≤((i - 1:Nat):Int):=by omega
    have e4:((i - 1:Nat):Int)<(s.length:Int):=by omega
    have g2:i - 1<s.length:=by omega
    have e5:(i:Int)≤s.length:=by omega
    simp only [fY,Int.toNat_natCast,e1,e2,w,e3,e4,e5,and_self,decide_true,Bool.and_self,↓reduceIte,List.getElem?_eq_getElem hi,List.getElem?_eq_getElem g2,Option.bind_some]
    by_cases c2:s[i]=s[i - 1]
    ·have c2':(s[i] == s[i - 1])=true:=by simp [c2]
     simp only [c2',↓reduceIte]
     obtain ⟨r,q1,q3,q2⟩:=FJ s i hi hl s i rfl (Nat.le_refl _)
     refine ⟨r,q1,⟨fun h=>(by rw [q3] at h;cases h),fun h=>?_⟩,fun _=>q2⟩
     have:=h (i - 1) (by omega)
     simp only [show i - 1+1=i by omega] at this
     exact absurd c2.symm this
    ·have c2':(s[i] == s[i - 1])=false:=beq_eq_false_iff_ne.2 c2
     simp only [c2',Bool.false_eq_true,↓reduceIte]
     exact ih (by omega) fun j h hj=>by
      rcases Nat.lt_or_eq_of_le (Nat.le_of_lt_succ hj) with q | q
      ·exact hp j h q
      ·subst q
       exact fun e=>c2 (by simpa using e.symm)) 1 (by omega) ax (by rw [aL];omega)
  exact D (Nat.le_refl _) fun j h hj=>by omega
theorem LA {s:List Int} (hs:s.Pairwise (fun a b=>a≤b)):Adj s↔s.Nodup:=by
 unfold List.Nodup
 rw [List.pairwise_iff_getElem] at hs
 rw [List.pairwise_iff_getElem]
 constructor
 ·intro h i j hi hj hij e
  have h1:=h i (by omega)
  have h2:=hs i (i+1) hi (by omega) (by omega)
  rcases Nat.lt_or_ge (i+1) j with q | q
  ·have:=hs (i+1) j (by omega) hj q
   omega
  ·have:j=i+1:=by omega
   subst this;exact h1 e
 ·intro h j hj
  exact h j (j+1) (by omega) hj (by omega)
theorem BX (l:List Int) (hl:l.length≤1048576):∃ v:Int,f232 l=some v∧(v=l.length↔l.Nodup):=by
 have hb:l.length≤bound:=by unfold bound;omega
 obtain ⟨r,h1,h2,h3⟩:=Lt (l.mergeSort fun x y=>decide (x≤y)) (by rw [List.length_mergeSort];exact hl)
 have hp:(l.mergeSort fun x y=>decide (x≤y)).Pairwise (fun a b=>a≤b):=by
  have:=List.pairwise_mergeSort (le:=fun x y:Int=>decide (x≤y)) (fun a b c h1 h2=>by simp at *;omega) (fun a b=>by simp;omega) l
  exact this.imp fun h=>by simpa using h
 rw [LA hp,(List.mergeSort_perm l _).nodup_iff] at h2
 rw [List.length_mergeSort] at h3
 refine ⟨if r.1=true then (l.length:Int) else (r.2.2:Int),?_,?_⟩
 ·unfold f232 z6
  simp only [AO,Pz l hl,Option.bind_some,hb,↓reduceIte,Pu (List.length_mergeSort _),h1]
  split <;> rfl
 ·cases hr:r.1 with
  | true=>simp only [↓reduceIte,true_iff];exact h2.1 hr
  | false=>
   have h4:=h3 hr
   rw [hr] at h2
   simp only [Bool.false_eq_true,false_iff] at h2
   simp only [Bool.false_eq_true,↓reduceIte]
   constructor
   ·intro h;omega
   ·intro h;exact absurd h h2
theorem Zc (a b:Graph) (m:aQ) (an:a.Nodes.length≤1048576) (ae:a.Edges.length≤1048576) (bn:b.Nodes.length≤1048576) (be:b.Edges.length≤1048576) (mn:m.Nodes.length≤1048576) (me:m.Edges.length≤1048576) :
  ∃ v,f210 a b m=some v∧f172 a b m=some v∧(f209 a b m=some 0→v=(decide m.Nodes.Nodup&&decide m.Edges.Nodup)):=by
 obtain ⟨e,g1,g2,_⟩:=N0 a b m an ae bn be
 obtain ⟨u,u1,u2⟩:=BX m.Nodes mn
 obtain ⟨v,v1,v2⟩:=BX m.Edges me
 unfold f210 f172
 simp only [g1,g2,u1,v1,Ao _ mn,Ao _ me,Option.bind_some]
 have d1:(u == (m.Nodes.length:Int))=decide m.Nodes.Nodup:=by rw [Bool.eq_iff_iff];simp [u2]
 have d2:(v == (m.Edges.length:Int))=decide m.Edges.Nodup:=by rw [Bool.eq_iff_iff];simp [v2]
 simp only [d1,d2]
 by_cases c:e=0
 ·have c':(e == 0)=true:=by simp [c]
  simp only [c',↓reduceIte]
  cases decide m.Nodes.Nodup with
  | true=>exact ⟨_,rfl,rfl,fun _=>by simp⟩
  | false=>exact ⟨_,rfl,rfl,fun _=>by simp⟩
 ·have c':(e == 0)=false:=by simp [c]
  simp only [c',Bool.false_eq_true,↓reduceIte]
  exact ⟨_,rfl,rfl,fun h=>absurd (Option.some.inj h) c⟩
theorem aez (l:List Int) (n:Int) (h:l.length≤1048576):f168 l n=some (decide (n∈l)):=by
 unfold f168
 rw [bX l (by omega) (fun m i=>mw l n m i) (fun i x k=>if (x == n)=true then some true else k) (some false) (fun m=>by simp [mw]) (fun m i x hx=>by
  have hi:(i:Int)<l.length:=by have:=(List.getElem?_eq_some_iff.1 hx).1;omega
  simp only [mw,bB,hx,Option.bind_some,hi,decide_true,↓reduceIte]) (by rw [aL];omega),walk_stop (fun x:Int=>x == n)]
 have:(l.any fun x=>x == n)=decide (n∈l):=by rw [Bool.eq_iff_iff];simp
 rw [this];split <;> simp_all
theorem aeA (l:List Int) (n:Int) (h:l.length≤1048576):f159 l n=some (decide (n∈l)):=by
 rw [PW l n (by omega)]
 have:(l.any fun x=>n == x)=decide (n∈l):=by rw [Bool.eq_iff_iff];simp
 rw [this]
theorem yL (l:List Int) (n:Nat) (hl:l.length≤1048576) (hn:n≤1048576):∃ o:List Int,f184 l n=some o∧f142 n l=some o∧(∀ x∈o,0≤x∧x<(n:Int))∧o.length≤n:=by
 unfold f184 f142
 have D:=cp n (by omega) (fun i m k=>∀ m',n - i<m'→∀ o:List Int,o.length≤i→(∀ x∈o,0≤x∧x<(n:Int))→∃ o':List Int,ka l n m o k=some o'∧kl n l m' o k=some o'∧(∀ x∈o',0≤x∧x<(n:Int))∧o'.length≤n) (fun m m' hm' o ho hx=>by
   have e1:¬ ((n:Int)<n):=by omega
   obtain ⟨m',rfl⟩:∃ k,m'=k+1:=⟨m' - 1,by omega⟩
   simp only [ka,kl,e1,decide_false,Bool.false_eq_true,↓reduceIte]
   exact ⟨_,rfl,rfl,hx,ho⟩) (fun m i hi ih m' hm' o ho hx=>by
   have e1:(i:Int)<n:=by omega
   obtain ⟨m',rfl⟩:∃ k,m'=k+1:=⟨m' - 1,by omega⟩
   have hb:(o ++ [(i:Int)]).length≤bound:=by unfold bound;simp;omega
   simp only [ka,kl,e1,decide_true,↓reduceIte,aeA l _ hl,aez l _ hl,Option.bind_some,hb]
   by_cases c:(i:Int)∈l
   ·simp only [c,decide_true,Bool.not_true,Bool.false_eq_true,↓reduceIte]
    exact ih m' (by omega) o (by omega) hx
   ·simp only [c,decide_false,Bool.not_false,↓reduceIte]
    exact ih m' (by omega) _ (by simp;omega) fun x hx'=>by
     rw [List.mem_append,List.mem_singleton] at hx'
     rcases hx' with h | rfl
     ·exact hx x h
     ·omega) 0 (Nat.zero_le _) ax (by rw [aL];omega) ax (by rw [aL];omega) [] (by simp) (by simp)
 exact D
end Go.S
end
section
set_option linter.all false
set_option maxRecDepth 10000
namespace Go.S
open Go Go.Pm
section
variable {R:bI} (h93:∀ a0 a1 a2,R.f93 a0 a1 a2=oS R a0 a1 a2)
include h93
theorem adY {t:Types} (ht:tg t) {p:ByteArray × Int} (hp:p.2=0) (hv:f78 R t=some p) (hv':f44 R t=some p) (e a b:Int) (ha:0≤a∧a<t.Nodes.length) (hb:0≤b∧b<t.Nodes.length) :
  ∃ v,f82 R t e a b=some v∧f58 R t e a b=some v:=by
 have hn:=ht.n
 have he:=ht.e
 have w1:w64 ((t.Nodes.length:Int) - 1)=(t.Nodes.length:Int) - 1:=bS (by omega) (by omega)
 have w2:w64 ((t.Edges.length:Int) - 1)=(t.Edges.length:Int) - 1:=bS (by omega) (by omega)
 have a1:f126 R t [a,b]=some 0:=by
  unfold f126
  simp only [hv,Option.bind_some,hp,rV [a,b] t.Nodes t.Edges (by simp)]
  have g1:¬ (a<0):=by omega
  have g2:¬ ((t.Nodes.length:Int)≤a):=by omega
  have g3:¬ (b<0):=by omega
  have g4:¬ ((t.Nodes.length:Int)≤b):=by omega
  simp [g1,g2,g3,g4]
 have a2:f91 R t a b=some 0:=by
  unfold f91
  simp only [hv',Option.bind_some,hp,sU,w1]
  have g1:a≤(t.Nodes.length:Int) - 1:=by omega
  have g2:b≤(t.Nodes.length:Int) - 1:=by omega
  simp [g1,g2,ha.1,hb.1]
 unfold f82 f58
 simp only [a1,a2,Option.bind_some,sU,w2,show (!((0:Int) == 0))=false from rfl,Bool.false_eq_true,↓reduceIte]
 by_cases c1:e<0
 ·have c1':¬ (0≤e):=by omega
  exact ⟨false,by simp only [c1,decide_true,↓reduceIte],by simp only [c1',decide_false,Bool.false_and,Bool.not_false,↓reduceIte]⟩
 ·have c1':0≤e:=by omega
  by_cases c2:(t.Edges.length:Int)≤e
  ·have c2':¬ (e≤(t.Edges.length:Int) - 1):=by omega
   exact ⟨false,by simp only [c1,c2,decide_true,decide_false,Bool.false_eq_true,↓reduceIte],by simp only [c1',c2',decide_true,decide_false,Bool.and_false,Bool.not_false,↓reduceIte]⟩
  ·have c2':e≤(t.Edges.length:Int) - 1:=by omega
   obtain ⟨i,rfl⟩:∃ i:Nat,e=i:=⟨e.toNat,by omega⟩
   have hi:i<t.Edges.length:=by omega
   have hx:t.Edges[i]?=some t.Edges[i]:=List.getElem?_eq_getElem hi
   obtain ⟨⟨k1,k2⟩,k3,k4⟩:=ht.ends i hi _ hx
   generalize t.Edges[i]=x at hx k1 k2 k3 k4
   simp only [c1,c2,c1',c2',decide_true,decide_false,Bool.and_self,Bool.not_true,Bool.false_eq_true,↓reduceIte,bB,hx,Option.bind_some]
   obtain ⟨v1,u1,u2⟩:=AF h93 ht a x.From ha.1 ha.2 k1
   obtain ⟨v2,u3,u4⟩:=AF h93 ht b x.To hb.1 hb.2 k3
   simp only [u1,u2,u3,u4,Option.bind_some]
   cases v1 with
   | true=>exact ⟨v2,rfl,rfl⟩
   | false=>exact ⟨false,rfl,rfl⟩
end
end Go.S
end
section
set_option linter.all false
set_option maxRecDepth 10000
namespace Go.S
open Go Go.Pm
def twice (l:List Slot) (n a:Int):Bool:=l.any fun y=>y.Node == n&&y.Attr == a
theorem Et (l:List Slot) (n a v d:Int) (h:l.length≤4000000000):eU l n a v d=some (twice l n a):=by
 unfold eU fR
 rw [bX l (by omega) (fun m i=>cS l n a v d m i) (fun i x k=>(gv x n a v d).bind fun b=>if b then some (i:Int) else k) (some (-1)) (fun m=>by simp [cS]) (fun m i x hx=>by
  have hi:(i:Int)<l.length:=by have:=(List.getElem?_eq_some_iff.1 hx).1;omega
  simp only [cS,bB,hx,Option.bind_some,hi,decide_true,↓reduceIte]) (by rw [aL];omega)]
 obtain ⟨r,h1,h2,_⟩:=cu (fun x=>gv x n a v d) (fun y:Slot=>y.Node == n&&y.Attr == a) l (fun y _=>by unfold gv;cases (y.Node == n) <;> simp) 0
 rw [h1,Option.bind_some,contains_of h2];rfl
theorem UL (p:Pattern) (i:Nat) (x:Slot) (hi:i≤p.Slots.length) (hl:p.Slots.length≤1048576):iW p i x ax 0=some (if twice (p.Slots.take i) x.Node x.Attr=true then 5 else 0):=by
 have:=loop_up (fun m k=>iW p i x m k) i (by omega) (fun k r=>r=some (if twice ((p.Slots.take i).drop k) x.Node x.Attr=true then 5 else 0)) (fun m=>by
  have:(p.Slots.take i).drop i=[]:=by simp
  simp [iW,this,twice]) (fun m k hk ih=>by
  have hkl:k<(p.Slots.take i).length:=by simp;omega
  have h1:(k:Int)<i:=by omega
  rw [List.drop_eq_getElem_cons hkl]
  simp only [iW,h1,decide_true,↓reduceIte,bB,List.getElem?_eq_getElem (show k<p.Slots.length by omega),Option.bind_some,twice,List.any_cons,List.getElem_take]
  rw [ih]
  cases c:(p.Slots[k].Node == x.Node) with
  | true=>cases d:(p.Slots[k].Attr == x.Attr) with
   | true=>rfl
   | false=>simp [twice]
  | false=>simp [twice]) 0 (Nat.zero_le _) ax (by rw [aL];omega)
 rw [List.drop_zero] at this;exact this
structure so (r:bJ):Prop where
 name:r.Name.size≤1048576
 left:rp r.Left
 right:rp r.Right
 kn:r.Keep.Nodes.length≤1048576
 ke:r.Keep.Edges.length≤1048576
 jn:r.Into.Nodes.length≤1048576
 je:r.Into.Edges.length≤1048576
structure rn (t:Types) (r:bJ):Prop where
 graph:ie r.Right.Graph
 nodes:∀ x∈r.Right.Graph.Nodes,x<t.Nodes.length
 edges:∀ x∈r.Right.Graph.Edges,x.Type_<t.Edges.length
section
variable {R:bI} (h148:∀ a0 a1,R.f148 a0 a1=kj R a0 a1) (h101:∀ a0 a1,R.f101 a0 a1=ky R a0 a1)
include h148 h101
theorem abe {t:Types} (h:TR R t) (r:bJ) (hr:so r) (hx:∀ x∈r.Right.Graph.Nodes,0≤x∧x<t.Nodes.length) (i:Nat) (hi:i<r.Right.Slots.length):∃ e,f207 R t r i=some e∧f138 R t r.Right i=some e:=by
 have hs:=hr.right.s
 have hxi:r.Right.Slots[i]?=some r.Right.Slots[i]:=List.getElem?_eq_getElem hi
 generalize r.Right.Slots[i]=s at hxi
 unfold f207 f138
 simp only [bB,hxi,Option.bind_some]
 by_cases c1:s.Node<0
 ·simp only [c1,decide_true,↓reduceIte];exact ⟨_,rfl,rfl⟩
 ·by_cases c2:(r.Right.Graph.Nodes.length:Int)≤s.Node
  ·simp only [c1,c2,decide_true,decide_false,Bool.false_eq_true,↓reduceIte];exact ⟨_,rfl,rfl⟩
  ·obtain ⟨a,q1,q2⟩:=gW (l:=r.Right.Graph.Nodes) (i:=s.Node) (by omega) (by omega)
   obtain ⟨k1,k2⟩:=hx a (List.mem_of_getElem? q2)
   obtain ⟨l,u1,u2,u3⟩:=AL h148 h101 h a k1 k2
   have b1:(0:Int)≤i:=by omega
   have b2:(i:Int)≤r.Right.Slots.length:=by omega
   simp only [c1,c2,decide_false,Bool.false_eq_true,↓reduceIte,q1,Option.bind_some,u1,u2,b1,b2,and_self,decide_true,Int.toNat_natCast,Et (r.Right.Slots.take i) _ _ _ _ (by simp;omega),UL r.Right i s (by omega) hs]
   repeat' split
   all_goals exact ⟨_,rfl,rfl⟩
theorem Sp {t:Types} (h:TR R t) (r:bJ) (hr:so r):∃ e,f180 R t r=some e∧f105 R t r=some e∧(e=0→rn t r):=by
 obtain ⟨e1,g1,g2,g3,_⟩:=qN r.Right.Graph hr.right.n hr.right.e
 have hn:=hr.right.n
 have he:=hr.right.e
 have hs:=hr.right.s
 unfold f180 f105
 simp only [g1,g2,Option.bind_some,aep t r.Right.Graph hn he]
 by_cases c1:e1=0
 ·have d1:(!(e1 == 0))=false:=by simp [c1]
  have hG:=g3 c1
  simp only [d1,Bool.false_eq_true,↓reduceIte,f133_e t r.Right.Graph hn he hG.nodes (fun x hx=>(hG.edges x hx).1),Option.bind_some]
  by_cases c2:fO t r.Right.Graph=true
  ·obtain ⟨k1,k2⟩:=sO.1 c2
   simp only [c2,Bool.not_true,Bool.false_eq_true,↓reduceIte]
   have D:=fF (fun k i=>mu R t r k i) (fun k i=>mI R t r k i) r.Right.Slots.length (by omega)
    (fun i a b=>∃ e,a=some e∧b=some e) (fun m m'=>⟨0,by simp [mu],by simp [mI]⟩) (fun m m' i hi ih=>by
    have h1:(i:Int)<r.Right.Slots.length:=by omega
    obtain ⟨e,q1,q2⟩:=abe h148 h101 h r hr (fun x hx=>⟨hG.nodes x hx,k1 x hx⟩) i hi
    simp only [mu,mI,h1,decide_true,↓reduceIte,q1,q2,Option.bind_some]
    split
    ·exact ⟨_,rfl,rfl⟩
    ·exact ih) 0 (Nat.zero_le _) ax ax (by rw [aL];omega) (by rw [aL];omega)
   obtain ⟨e,q1,q2⟩:=D
   rw [show ((0:Nat):Int)=0 from rfl] at q1 q2
   have hR:rn t r:=⟨hG,k1,k2⟩
   simp only [q1,q2]
   repeat' split
   all_goals exact ⟨_,rfl,rfl,fun _=>hR⟩
  ·have c2':fO t r.Right.Graph=false:=by simpa using c2
   exact ⟨13,by simp only [c2',Bool.not_false,↓reduceIte],by simp only [c2',Bool.not_false,↓reduceIte],by omega⟩
 ·have d1:(!(e1 == 0))=true:=by simp [c1]
  exact ⟨e1,by simp only [d1,↓reduceIte],by simp only [d1,↓reduceIte],fun h=>absurd h c1⟩
end
structure Rc (r:bJ):Prop where
 part:AG r.Left.Graph r.Keep
 jn:r.Into.Nodes.length=r.Keep.Nodes.length
 je:r.Into.Edges.length=r.Keep.Edges.length
 nodes:∀ x∈r.Into.Nodes,0≤x∧x<r.Right.Graph.Nodes.length
 edges:∀ x∈r.Into.Edges,0≤x∧x<r.Right.Graph.Edges.length
theorem acQ (r:bJ) (hr:so r):∃ e e':Int,f181 r=some e∧f106 r=some e'∧(e'≠0→e=e')∧
  (e'=0→Rc r∧e=if r.Into.Nodes.Nodup∧r.Into.Edges.Nodup then 0 else 11):=by
 obtain ⟨e1,p1,p2,p3⟩:=ab3 r.Left.Graph r.Keep hr.left.n hr.left.e hr.kn hr.ke
 unfold f181 f106
 by_cases c1:e1=0
 ·subst c1
  obtain ⟨k,k1,k2,k3,k4⟩:=Lf r.Left.Graph r.Keep (p3 rfl) hr.kn hr.ke p1 p2
  have kn:k.Nodes.length≤1048576:=by rw [k3];exact hr.kn
  have ke:k.Edges.length≤1048576:=by rw [k4];exact hr.ke
  obtain ⟨e2,m1,m2,m3⟩:=N0 k r.Right.Graph r.Into kn ke hr.right.n hr.right.e
  obtain ⟨v,i1,i2,i3⟩:=Zc k r.Right.Graph r.Into kn ke hr.right.n hr.right.e hr.jn hr.je
  simp only [k1,k2,p2,m1,m2,i1,Option.bind_some,show (!((0:Int) == 0))=false from rfl,Bool.false_eq_true,↓reduceIte]
  by_cases c2:e2=0
  ·subst c2
   have hM:=m3 rfl
   have hv:=i3 m1
   simp only [show (!((0:Int) == 0))=false from rfl,Bool.false_eq_true,↓reduceIte]
   refine ⟨if r.Into.Nodes.Nodup∧r.Into.Edges.Nodup then 0 else 11,0,?_,rfl,fun h=>absurd rfl h,fun _=>⟨⟨p3 rfl,by rw [hM.ln,k3],by rw [hM.le,k4],hM.nodes,hM.edges⟩,rfl⟩⟩
   rw [hv]
   by_cases a:r.Into.Nodes.Nodup <;> by_cases b:r.Into.Edges.Nodup <;> simp [a,b]
  ·have d2:(!(e2 == 0))=true:=by simp [c2]
   simp only [d2,↓reduceIte]
   exact ⟨e2,e2,rfl,rfl,fun _=>rfl,fun h=>absurd h c2⟩
 ·have d1:(!(e1 == 0))=true:=by simp [c1]
  refine ⟨e1,e1,?_,by simp only [p2,Option.bind_some,d1,↓reduceIte],fun _=>rfl,fun h=>absurd h c1⟩
  unfold f208
  simp only [p1,Option.bind_some,d1,↓reduceIte]
section
variable {R:bI} (h93:∀ a0 a1 a2,R.f93 a0 a1 a2=oS R a0 a1 a2)
include h93
theorem JX {t:Types} (h:TR R t) (g:Graph) (hG:ie g) (hx:∀ x∈g.Nodes,0≤x∧x<t.Nodes.length) (ns es:List Int) (hn:∀ i∈ns,0≤i∧i<g.Nodes.length) (he:∀ i∈es,0≤i∧i<g.Edges.length) (ln:ns.length≤1048576) (le:es.length≤1048576) :
  ∃ b,f182 R t g ns es=some b∧f109 R t g ns es=some b:=by
 obtain ⟨p,v1,v2,hp⟩:=h.val
 have N:∀ i∈ns,∃ x y,at? g.Nodes i=some x∧at? t.Nodes x=some y:=fun i hi=>by
  obtain ⟨a,q1,q2⟩:=gW (l:=g.Nodes) (i:=i) (hn i hi).1 (hn i hi).2
  obtain ⟨k1,k2⟩:=hx a (List.mem_of_getElem? q2)
  obtain ⟨b,r1,_⟩:=gW (l:=t.Nodes) (i:=a) k1 k2
  exact ⟨a,b,q1,r1⟩
 have E:∀ i∈es,∃ x a b v,at? g.Edges i=some x∧at? g.Nodes x.From=some a∧at? g.Nodes x.To=some b∧f82 R t x.Type_ a b=some v∧f58 R t x.Type_ a b=some v:=fun i hi=>by
  obtain ⟨x,q1,q2⟩:=gW (l:=g.Edges) (i:=i) (he i hi).1 (he i hi).2
  obtain ⟨_,⟨f1,f2⟩,f3,f4⟩:=hG.edges x (List.mem_of_getElem? q2)
  obtain ⟨a,a1,a2⟩:=gW (l:=g.Nodes) (i:=x.From) f1 f2
  obtain ⟨b,b1,b2⟩:=gW (l:=g.Nodes) (i:=x.To) f3 f4
  obtain ⟨v,w1,w2⟩:=adY h93 h.inn hp v1 v2 x.Type_ a b (hx a (List.mem_of_getElem? a2)) (hx b (List.mem_of_getElem? b2))
  exact ⟨x,a,b,v,q1,a1,b1,w1,w2⟩
 let qa:Int→Bool:=fun i=>(dw i t.Nodes t.Edges g.Nodes g.Edges).getD false
 let qe:Int→Bool:=fun i=>(dv R i g.Nodes g.Edges t.Nodes t.Edges).getD false
 have hqa:∀ i∈ns,dw i t.Nodes t.Edges g.Nodes g.Edges=some (qa i):=fun i hi=>by
  obtain ⟨x,y,r1,r2⟩:=N i hi
  simp only [qa]
  unfold dw;simp only [r1,r2,Option.bind_some,Option.getD_some]
 have hqe:∀ i∈es,dv R i g.Nodes g.Edges t.Nodes t.Edges=some (qe i):=fun i hi=>by
  obtain ⟨x,a,b,v,r1,r2,r3,r4,r5⟩:=E i hi
  simp only [qe]
  unfold dv;simp only [r1,r2,r3,r4,Option.bind_some,Option.getD_some]
 have A:eT ns t.Nodes t.Edges g.Nodes g.Edges=some (ns.any qa):=by
  unfold eT fQ
  rw [bX ns (by omega) (fun m i=>cR ns t.Nodes t.Edges g.Nodes g.Edges m i) (fun i x k=>(dw x t.Nodes t.Edges g.Nodes g.Edges).bind fun b=>if b then some (i:Int) else k) (some (-1)) (fun m=>by simp [cR]) (fun m i x hx=>by
   have hi:(i:Int)<ns.length:=by have:=(List.getElem?_eq_some_iff.1 hx).1;omega
   simp only [cR,bB,hx,Option.bind_some,hi,decide_true,↓reduceIte]) (by rw [aL];omega)]
  obtain ⟨r,h1,h2,_⟩:=cu (fun x=>dw x t.Nodes t.Edges g.Nodes g.Edges) qa ns hqa 0
  rw [h1,Option.bind_some,contains_of h2]
 have B:eS R es g.Nodes g.Edges t.Nodes t.Edges=some (es.any qe):=by
  unfold eS fP
  rw [bX es (by omega) (fun m i=>cQ R es g.Nodes g.Edges t.Nodes t.Edges m i) (fun i x k=>(dv R x g.Nodes g.Edges t.Nodes t.Edges).bind fun b=>if b then some (i:Int) else k) (some (-1)) (fun m=>by simp [cQ]) (fun m i x hx=>by
   have hi:(i:Int)<es.length:=by have:=(List.getElem?_eq_some_iff.1 hx).1;omega
   simp only [cQ,bB,hx,Option.bind_some,hi,decide_true,↓reduceIte]) (by rw [aL];omega)]
  obtain ⟨r,h1,h2,_⟩:=cu (fun x=>dv R x g.Nodes g.Edges t.Nodes t.Edges) qe es hqe 0
  rw [h1,Option.bind_some,contains_of h2]
 have E2:kt R t g es ax 0=some (!(es.any qe)):=by
  have key:=loop_up (fun m i=>kt R t g es m i) es.length (by omega) (fun i r=>r=some (!((es.drop i).any qe))) (fun m=>by simp [kt]) (fun m i hi ih=>by
   have h1:(i:Int)<es.length:=by omega
   obtain ⟨x,a,b,v,r1,r2,r3,r4,r5⟩:=E es[i] (List.getElem_mem hi)
   have hv:qe es[i]=!v:=by
    have:=hqe es[i] (List.getElem_mem hi)
    unfold dv at this
    simp only [r1,r2,r3,r4,Option.bind_some,Option.some.injEq] at this
    exact this.symm
   rw [List.drop_eq_getElem_cons hi]
   simp only [kt,h1,decide_true,↓reduceIte,bB,List.getElem?_eq_getElem hi,Option.bind_some,r1,r2,r3,r5,List.any_cons,hv]
   cases v with
   | true=>simpa using ih
   | false=>simp) 0 (Nat.zero_le _) ax (by rw [aL];omega)
  simpa using key
 have A2:ku R t g ns es ax 0=some (!(ns.any qa)&&!(es.any qe)):=by
  have key:=loop_up (fun m i=>ku R t g ns es m i) ns.length (by omega) (fun i r=>r=some (!((ns.drop i).any qa)&&!(es.any qe))) (fun m=>by simp [ku,E2]) (fun m i hi ih=>by
   have h1:(i:Int)<ns.length:=by omega
   obtain ⟨x,y,r1,r2⟩:=N ns[i] (List.getElem_mem hi)
   have hv:qa ns[i]=y.Abstract:=by
    have:=hqa ns[i] (List.getElem_mem hi)
    unfold dw at this
    simp only [r1,r2,Option.bind_some,Option.some.injEq] at this
    exact this.symm
   rw [List.drop_eq_getElem_cons hi]
   simp only [ku,h1,decide_true,↓reduceIte,bB,List.getElem?_eq_getElem hi,Option.bind_some,r1,r2,List.any_cons,hv]
   cases y.Abstract with
   | true=>simp
   | false=>simpa using ih) 0 (Nat.zero_le _) ax (by rw [aL];omega)
  simpa using key
 refine ⟨!(ns.any qa)&&!(es.any qe),?_,?_⟩
 ·unfold f182
  simp only [A,B,Option.bind_some]
  cases ns.any qa <;> simp
 ·unfold f109;exact A2
end
end Go.S
end
section
set_option linter.all false
set_option maxRecDepth 10000
namespace Go.S
open Go Go.Pm
theorem aa2 {c k:Condition} (h:k∈c.Kids):SizeOf.sizeOf k<SizeOf.sizeOf c:=by
 have:=List.sizeOf_lt_of_mem h
 cases c
 simp only [Condition.mk.sizeOf_spec] at *
 omega
theorem rh {P:Condition→Prop} (h:∀ c,(∀ k∈c.Kids,P k)→P c):∀ c,P c:=by
 have:∀ n,∀ c:Condition,SizeOf.sizeOf c<n→P c:=by
  intro n
  induction n with
  | zero=>intro c hc;omega
  | succ n ih=>intro c hc;exact h c fun k hk=>ih k (by have:=aa2 hk;omega)
 exact fun c=>this _ c (Nat.lt_succ_self _)
structure Re (c:Condition):Prop where
 kids:c.Kids.length≤1048576
 mn:c.Map.Nodes.length≤1048576
 me:c.Map.Edges.length≤1048576
 pat:rp c.Pattern
theorem uZ {p:Pattern} (h:bG.ok 1048576 p):rp p:=by
 obtain ⟨⟨⟨h1,_⟩,h2,_⟩,⟨h3,_⟩,h4,h5,_⟩:=h
 exact ⟨h1,h2,h3,h5,h4⟩
theorem ri {c:Condition} (h:bG.ok 1048576 c):Re c∧∀ k∈c.Kids,bG.ok 1048576 k:=by
 obtain ⟨_,⟨h1,h2⟩,⟨⟨h3,_⟩,h4,_⟩,h5⟩:=mS.1 h
 exact ⟨⟨h1,h3,h4,uZ h5⟩,h2⟩
def Cw (c:Condition):Bool:=decide (c.Map.Nodes.length+c.Map.Edges.length+c.Pattern.Graph.Nodes.length+c.Pattern.Graph.Edges.length+c.Pattern.Slots.length+c.Pattern.Tests.length=0)&&(c.Pattern.Vars == 0)
theorem aec {c:Condition} (h:Re c):f246 c=some (Cw c):=by
 obtain ⟨_,h1,h2,⟨h3,h4,h5,h6,_⟩⟩:=h
 unfold f246 Cw
 rw [bS (n:=(c.Map.Nodes.length:Int)+c.Map.Edges.length) (by omega) (by omega),bS (n:=(c.Map.Nodes.length:Int)+c.Map.Edges.length+c.Pattern.Graph.Nodes.length) (by omega) (by omega),bS (n:=(c.Map.Nodes.length:Int)+c.Map.Edges.length+c.Pattern.Graph.Nodes.length+c.Pattern.Graph.Edges.length) (by omega) (by omega),bS (n:=(c.Map.Nodes.length:Int)+c.Map.Edges.length+c.Pattern.Graph.Nodes.length+c.Pattern.Graph.Edges.length+c.Pattern.Slots.length) (by omega) (by omega),bS (n:=(c.Map.Nodes.length:Int)+c.Map.Edges.length+c.Pattern.Graph.Nodes.length+c.Pattern.Graph.Edges.length+c.Pattern.Slots.length+c.Pattern.Tests.length) (by omega) (by omega)]
 by_cases c1:c.Map.Nodes.length+c.Map.Edges.length+c.Pattern.Graph.Nodes.length+c.Pattern.Graph.Edges.length+c.Pattern.Slots.length+c.Pattern.Tests.length=0
 ·have:((c.Map.Nodes.length:Int)+c.Map.Edges.length+c.Pattern.Graph.Nodes.length+c.Pattern.Graph.Edges.length+c.Pattern.Slots.length+c.Pattern.Tests.length == 0)=true:=by rw [beq_iff_eq];omega
  simp only [this,c1,decide_true,↓reduceIte,Bool.true_and]
 ·have:((c.Map.Nodes.length:Int)+c.Map.Edges.length+c.Pattern.Graph.Nodes.length+c.Pattern.Graph.Edges.length+c.Pattern.Slots.length+c.Pattern.Tests.length == 0)=false:=by rw [beq_eq_false_iff_ne];omega
  simp only [this,c1,decide_false,Bool.false_eq_true,↓reduceIte,Bool.false_and]
theorem aeo {c:Condition} (h:Re c):f215 c=some (Cw c):=by
 obtain ⟨_,h1,h2,⟨h3,h4,h5,h6,_⟩⟩:=h
 unfold f215 Cw
 rw [bS (n:=(c.Map.Nodes.length:Int)+c.Map.Edges.length) (by omega) (by omega),bS (n:=(c.Map.Nodes.length:Int)+c.Map.Edges.length+c.Pattern.Graph.Nodes.length) (by omega) (by omega),bS (n:=(c.Map.Nodes.length:Int)+c.Map.Edges.length+c.Pattern.Graph.Nodes.length+c.Pattern.Graph.Edges.length) (by omega) (by omega),bS (n:=(c.Pattern.Slots.length:Int)+c.Pattern.Tests.length) (by omega) (by omega)]
 by_cases c1:c.Map.Nodes.length+c.Map.Edges.length+c.Pattern.Graph.Nodes.length+c.Pattern.Graph.Edges.length=0
 ·by_cases c2:c.Pattern.Slots.length+c.Pattern.Tests.length=0
  ·have e1:((c.Map.Nodes.length:Int)+c.Map.Edges.length+c.Pattern.Graph.Nodes.length+c.Pattern.Graph.Edges.length == 0)=true:=by rw [beq_iff_eq];omega
   have e2:((c.Pattern.Slots.length:Int)+c.Pattern.Tests.length == 0)=true:=by rw [beq_iff_eq];omega
   have e3:c.Map.Nodes.length+c.Map.Edges.length+c.Pattern.Graph.Nodes.length+c.Pattern.Graph.Edges.length+c.Pattern.Slots.length+c.Pattern.Tests.length=0:=by omega
   simp only [e1,e2,e3,decide_true,↓reduceIte,Bool.true_and]
  ·have e1:((c.Map.Nodes.length:Int)+c.Map.Edges.length+c.Pattern.Graph.Nodes.length+c.Pattern.Graph.Edges.length == 0)=true:=by rw [beq_iff_eq];omega
   have e2:((c.Pattern.Slots.length:Int)+c.Pattern.Tests.length == 0)=false:=by rw [beq_eq_false_iff_ne];omega
   have e3:¬ (c.Map.Nodes.length+c.Map.Edges.length+c.Pattern.Graph.Nodes.length+c.Pattern.Graph.Edges.length+c.Pattern.Slots.length+c.Pattern.Tests.length=0):=by omega
   simp only [e1,e2,e3,decide_false,Bool.false_eq_true,↓reduceIte,Bool.false_and]
 ·have e1:((c.Map.Nodes.length:Int)+c.Map.Edges.length+c.Pattern.Graph.Nodes.length+c.Pattern.Graph.Edges.length == 0)=false:=by rw [beq_eq_false_iff_ne];omega
  have e3:¬ (c.Map.Nodes.length+c.Map.Edges.length+c.Pattern.Graph.Nodes.length+c.Pattern.Graph.Edges.length+c.Pattern.Slots.length+c.Pattern.Tests.length=0):=by omega
  simp only [e1,e3,decide_false,Bool.false_eq_true,↓reduceIte,Bool.false_and]
section
variable {R:bI} (h233:∀ a,R.f233 a=wm R a) (h169:∀ a,R.f169 a=wv R a)
theorem Oq (l:List Condition) (wf:Condition→Bool) (hl:l.length≤1048576) (h:∀ k∈l,R.f233 k=some (wf k)):ei R l=some (l.any fun k=>!wf k):=by
 unfold ei mc
 rw [bX l (by omega) (fun m i=>eh R l m i) (fun i x k=>(f248 R x).bind fun b=>if b then some (i:Int) else k) (some (-1)) (fun m=>by simp [eh]) (fun m i x hx=>by
  have hi:(i:Int)<l.length:=by have:=(List.getElem?_eq_some_iff.1 hx).1;omega
  simp only [eh,bB,hx,Option.bind_some,hi,decide_true,↓reduceIte]) (by rw [aL];omega)]
 obtain ⟨r,h1,h2,_⟩:=cu (fun x=>f248 R x) (fun k=>!wf k) l (fun k hk=>by unfold f248;rw [h k hk];rfl) 0
 rw [h1,Option.bind_some,contains_of h2]
theorem DM (c:Condition) (wf:Condition→Bool) (hl:c.Kids.length≤1048576) (h:∀ k∈c.Kids,R.f169 k=some (wf k)):iy R c ax 0=some (!(c.Kids.any fun k=>!wf k)):=by
 rw [bX c.Kids (by omega) (fun m i=>iy R c m i) (fun i x k=>(R.f169 x).bind fun b=>if (!b)=true then some false else k) (some true) (fun m=>by simp [iy]) (fun m i x hx=>by
  have hi:(i:Int)<c.Kids.length:=by have:=(List.getElem?_eq_some_iff.1 hx).1;omega
  simp only [iy,bB,hx,Option.bind_some,hi,decide_true,↓reduceIte]) (by rw [aL];omega),
  walk_bad (fun x=>R.f169 x) wf false (some true) c.Kids 0 h]
 cases (c.Kids.any fun k=>!wf k) <;> rfl
include h233 h169
theorem wf_e:∀ c:Condition,bG.ok 1048576 c→∃ b,R.f233 c=some b∧R.f169 c=some b:=by
 apply rh
 intro c ih hc
 obtain ⟨h1,hk⟩:=ri hc
 have anp:∀ k∈c.Kids,∃ b,R.f233 k=some b∧R.f169 k=some b:=fun k hkm=>ih k hkm (hk k hkm)
 let wf:Condition→Bool:=fun k=>(R.f233 k).getD false
 have w1:∀ k∈c.Kids,R.f233 k=some (wf k):=fun k hkm=>by obtain ⟨b,q,_⟩:=anp k hkm;simp only [wf,q,Option.getD_some]
 have w2:∀ k∈c.Kids,R.f169 k=some (wf k):=fun k hkm=>by obtain ⟨b,q,q2⟩:=anp k hkm;simp only [wf,q,q2,Option.getD_some]
 have k1:=Oq (R:=R) c.Kids wf h1.kids w1
 have k2:=DM c wf h1.kids w2
 rw [h233,h169]
 unfold wm wv f196
 simp only [aec h1,aeo h1,k1,k2,Option.bind_some]
 generalize hany:(c.Kids.any fun k=>!wf k)=any
 have h0:c.Kids.length=0→any=false:=fun h=>by
  rw [← hany,List.length_eq_zero_iff.1 h];rfl
 have eg:(decide ((1:Int)≤(c.Kids.length:Int)))=decide ((0:Int)<(c.Kids.length:Int)):=by rw [Bool.eq_iff_iff];simp;omega
 rw [eg]
 generalize Cw c=bb
 by_cases q1:(c.Kind == 1)=true
 ·simp only [q1,↓reduceIte]
  by_cases q2:((c.Kids.length:Int) == 0)=true
  ·simp only [q2,↓reduceIte]
   cases bb <;> cases any <;> exact ⟨_,rfl,rfl⟩
  ·simp only [q2,Bool.false_eq_true,↓reduceIte];exact ⟨_,rfl,rfl⟩
 ·simp only [q1,Bool.false_eq_true,↓reduceIte]
  by_cases q3:(c.Kind == 2)=true
  ·simp only [q3,↓reduceIte]
   by_cases q2:((c.Kids.length:Int) == 1)=true
   ·simp only [q2,↓reduceIte]
    cases bb <;> cases any <;> exact ⟨_,rfl,rfl⟩
   ·simp only [q2,Bool.false_eq_true,↓reduceIte];exact ⟨_,rfl,rfl⟩
  ·simp only [q3,Bool.false_eq_true,↓reduceIte]
   by_cases q4:(c.Kind == 3)=true
   ·simp only [q4,↓reduceIte]
    by_cases q2:(decide ((0:Int)<(c.Kids.length:Int)))=true
    ·simp only [q2,↓reduceIte]
     cases bb <;> cases any <;> exact ⟨_,rfl,rfl⟩
    ·simp only [q2,Bool.false_eq_true,↓reduceIte];exact ⟨_,rfl,rfl⟩
   ·simp only [q4,Bool.false_eq_true,↓reduceIte]
    by_cases q5:(c.Kind == 4)=true
    ·simp only [q5,↓reduceIte]
     by_cases q2:(decide ((0:Int)<(c.Kids.length:Int)))=true
     ·simp only [q2,↓reduceIte]
      cases bb <;> cases any <;> exact ⟨_,rfl,rfl⟩
     ·simp only [q2,Bool.false_eq_true,↓reduceIte];exact ⟨_,rfl,rfl⟩
    ·simp only [q5,Bool.false_eq_true,↓reduceIte]
     by_cases q6:(c.Kind == 5)=true
     ·simp only [q6,↓reduceIte]
      by_cases q2:((c.Kids.length:Int) == 1)=true
      ·simp only [q2,↓reduceIte]
       cases any <;> exact ⟨_,rfl,rfl⟩
      ·simp only [q2,Bool.false_eq_true,↓reduceIte];exact ⟨_,rfl,rfl⟩
     ·simp only [q6,Bool.false_eq_true,↓reduceIte];exact ⟨_,rfl,rfl⟩
end
section
variable {R:bI} (h234:∀ a,R.f234 a=wk R a) (h170:∀ a,R.f170 a=wu R a)
include h234 h170
theorem JW:∀ c:Condition,bG.ok 1048576 c→∃ b,R.f234 c=some b∧R.f170 c=some b:=by
 apply rh
 intro c ih hc
 obtain ⟨h1,hk⟩:=ri hc
 have hl:=h1.kids
 rw [h234,h170]
 unfold wk wu
 have D:=cp c.Kids.length (by omega) (fun i m k=>∀ m',c.Kids.length - i<m'→∀ s d,∃ b,jH R c m s d k=some b∧jL R c m' s d k=some b) (fun m m' hm' s d=>by
   obtain ⟨m',rfl⟩:∃ k,m'=k+1:=⟨m' - 1,by omega⟩
   have e1:¬ ((c.Kids.length:Int)<c.Kids.length):=by omega
   simp only [jH,jL,e1,decide_false,Bool.false_eq_true,↓reduceIte]
   split <;> exact ⟨_,rfl,rfl⟩) (fun m i hi ih2 m' hm' s d=>by
   obtain ⟨m',rfl⟩:∃ k,m'=k+1:=⟨m' - 1,by omega⟩
   have e1:(i:Int)<c.Kids.length:=by omega
   have hmem:=List.getElem_mem hi
   obtain ⟨b,q1,q2⟩:=ih _ hmem (hk _ hmem)
   simp only [jH,jL,e1,decide_true,↓reduceIte,bB,List.getElem?_eq_getElem hi,Option.bind_some,q1,q2]
   exact ih2 m' (by omega) _ _) 0 (Nat.zero_le _) ax (by rw [aL];omega) ax (by rw [aL];omega) 1 0
 exact D
end
section
variable {R:bI} (h148:∀ a0 a1,R.f148 a0 a1=kj R a0 a1) (h101:∀ a0 a1,R.f101 a0 a1=ky R a0 a1)
include h148 h101
theorem TE {t:Types} (h:TR R t) (q:Pattern) (hq:rp q) (v:Int) (h0:0≤v) (h1:v≤q.Vars):∃ e,f235 R t q v=some e∧(q.Vars<v→False)∧f171 R t v q=some e∧(e=0→I1 t q):=by
 obtain ⟨e,p1,p2,p3⟩:=Nt h148 h101 h q hq
 have hs:=hq.s
 have c0:¬ (q.Vars<v):=by omega
 unfold f235 f171
 simp only [p1,p2,c0,decide_false,Bool.false_eq_true,↓reduceIte,Option.bind_some]
 by_cases c1:e=9
 ·subst c1
  have hP:=p3 (.inr rfl)
  have hv1:=hP.v1
  simp only [show (!((9:Int) == 9))=false from rfl,Bool.false_eq_true,↓reduceIte]
  obtain ⟨n,hn⟩:∃ n:Nat,q.Vars=n:=⟨q.Vars.toNat,by omega⟩
  obtain ⟨i0,hi0⟩:∃ i:Nat,v=i:=⟨v.toNat,by omega⟩
  have D:=fF (fun k i=>mg q 9 k i) (fun k i=>mv q 9 k i) n (by omega) (fun i a b=>∃ e,a=some e∧b=some e) (fun m m'=>by
    have e1:¬ ((n:Int)<q.Vars):=by omega
    simp only [mg,mv,e1,decide_false,Bool.false_eq_true,↓reduceIte];exact ⟨_,rfl,rfl⟩) (fun m m' i hi ih=>by
    have e1:(i:Int)<q.Vars:=by omega
    simp only [mg,mv,e1,decide_true,↓reduceIte,Es q _ hs,aer q _ hs,Option.bind_some]
    split
    ·exact ⟨_,rfl,rfl⟩
    ·exact ih) i0 (by omega) ax ax (by rw [aL];omega) (by rw [aL];omega)
  obtain ⟨e,q1,q2⟩:=D
  rw [hi0]
  exact ⟨e,q1,fun h=>by omega,q2,fun _=>hP⟩
 ·have d1:(!(e == 9))=true:=by simp [c1]
  simp only [d1,↓reduceIte]
  exact ⟨e,rfl,fun h=>by omega,rfl,fun h=>p3 (.inl h)⟩
variable (h214:∀ a b c,R.f214 a b c=wo R a b c) (h144:∀ a b c,R.f144 a b c=wy R a b c)
include h214 h144
theorem Pe {t:Types} (h:TR R t):∀ c:Condition,bG.ok 1048576 c→∀ p,rp p→0≤p.Vars→∃ e,R.f214 t p c=some e∧R.f144 t p c=some e:=by
 apply rh
 intro c ih hc p hp hv
 obtain ⟨h1,hk⟩:=ri hc
 have hl:=h1.kids
 have K:∀ q:Pattern,rp q→0≤q.Vars→∃ e,gL R t c.Kids ax 0 q.Graph.Nodes q.Graph.Edges q.Slots q.Vars q.Tests=some e∧gM R t c ax 0 q.Graph.Nodes q.Graph.Edges q.Slots q.Vars q.Tests=some e:=fun q hq hv=>by
  exact fF (fun k i=>gL R t c.Kids k i q.Graph.Nodes q.Graph.Edges q.Slots q.Vars q.Tests) (fun k i=>gM R t c k i q.Graph.Nodes q.Graph.Edges q.Slots q.Vars q.Tests) c.Kids.length (by omega) (fun i a b=>∃ e,a=some e∧b=some e) (fun m m'=>⟨0,by simp [gL],by simp [gM]⟩) (fun m m' i hi ih2=>by
   have e1:(i:Int)<c.Kids.length:=by omega
   have hmem:=List.getElem_mem hi
   obtain ⟨e,q1,q2⟩:=ih _ hmem (hk _ hmem) q hq hv
   have eq:Pattern.mk (Graph.mk q.Graph.Nodes q.Graph.Edges) q.Slots q.Vars q.Tests=q:=rfl
   simp only [gL,gM,e1,decide_true,↓reduceIte,bB,List.getElem?_eq_getElem hi,Option.bind_some,eq,q1,q2]
   split
   ·exact ⟨_,rfl,rfl⟩
   ·exact ih2) 0 (Nat.zero_le _) ax ax (by rw [aL];omega) (by rw [aL];omega)
 rw [h214,h144]
 unfold wo wy
 by_cases c5:(c.Kind == 5)=true
 ·simp only [c5,↓reduceIte]
  by_cases c1:c.Pattern.Vars<p.Vars
  ·refine ⟨20,by simp only [c1,decide_true,↓reduceIte],?_⟩
   unfold f171
   simp only [c1,decide_true,↓reduceIte,Option.bind_some,show (!((20:Int) == 0))=true from rfl]
  ·simp only [c1,decide_false,Bool.false_eq_true,↓reduceIte]
   obtain ⟨e,q1,_,q2,q3⟩:=TE h148 h101 h c.Pattern h1.pat p.Vars hv (by omega)
   simp only [q1,q2,Option.bind_some]
   by_cases c2:e=0
   ·subst c2
    obtain ⟨e2,m1,m2,m3⟩:=N0 p.Graph c.Pattern.Graph c.Map hp.n hp.e h1.pat.n h1.pat.e
    obtain ⟨v,i1,i2,_⟩:=Zc p.Graph c.Pattern.Graph c.Map hp.n hp.e h1.pat.n h1.pat.e h1.mn h1.me
    obtain ⟨e3,k1,k2⟩:=K c.Pattern h1.pat (q3 rfl).v0
    simp only [show (!((0:Int) == 0))=false from rfl,Bool.false_eq_true,↓reduceIte,m1,m2,i1,i2,k1,k2,Option.bind_some]
    repeat' split
    all_goals exact ⟨_,rfl,rfl⟩
   ·have d2:(!(e == 0))=true:=by simp [c2]
    simp only [d2,↓reduceIte];exact ⟨_,rfl,rfl⟩
 ·simp only [c5,Bool.false_eq_true,↓reduceIte]
  exact K p hp hv
end
end Go.S
end
section
set_option linter.all false
set_option maxRecDepth 10000
namespace Go.S
open Go Go.Pm
structure Eqs (R:bI):Prop where
 h148:∀ a0 a1,R.f148 a0 a1=kj R a0 a1
 h101:∀ a0 a1,R.f101 a0 a1=ky R a0 a1
 h93:∀ a0 a1 a2,R.f93 a0 a1 a2=oS R a0 a1 a2
 h233:∀ a,R.f233 a=wm R a
 h169:∀ a,R.f169 a=wv R a
 h234:∀ a,R.f234 a=wk R a
 h170:∀ a,R.f170 a=wu R a
 h214:∀ a b c,R.f214 a b c=wo R a b c
 h144:∀ a b c,R.f144 a b c=wy R a b c
structure kN (r:bJ):Prop where
 sz:so r
 cond:bG.ok 1048576 r.Condition
theorem JC {r:bJ} (h:bG.ok 1048576 r):kN r:=by
 obtain ⟨h1,h2,h3,⟨⟨h4,_⟩,h5,_⟩,⟨⟨h6,_⟩,h7,_⟩,_,h8⟩:=h
 exact ⟨⟨h1,uZ h2,uZ h3,h4,h5,h6,h7⟩,h8⟩
structure FW (t:Types) (r:bJ):Prop where
 left:I1 t r.Left
 right:rn t r
 kept:Rc r
section
variable {R:bI} (hq:Eqs R)
include hq
theorem RY (c:Condition) (h:bG.ok 1048576 c):∃ e,f213 R c=some e∧f143 R c=some e:=by
 obtain ⟨b,h1,h2⟩:=wf_e hq.h233 hq.h169 c h
 obtain ⟨m,h3,h4⟩:=JW hq.h234 hq.h170 c h
 unfold f213 f143
 simp only [h1,h2,h3,h4,Option.bind_some]
 repeat' split
 all_goals exact ⟨_,rfl,rfl⟩
theorem ae5 {t:Types} (h:TR R t) (p:Pattern) (hp:rp p) (c:Condition) (hc:bG.ok 1048576 c):∃ e,f183 R t p c=some e∧f110 R t p c=some e:=by
 obtain ⟨e,h1,h2,h3⟩:=Nt hq.h148 hq.h101 h p hp
 unfold f183 f110
 simp only [h1,h2,Option.bind_some]
 by_cases c1:e=0
 ·obtain ⟨e2,s1,s2⟩:=RY hq c hc
  obtain ⟨e3,i1,i2⟩:=Pe hq.h148 hq.h101 hq.h214 hq.h144 h c hc p hp (h3 (.inl c1)).v0
  simp only [s1,s2,i1,i2,Option.bind_some]
  repeat' split
  all_goals exact ⟨_,rfl,rfl⟩
 ·have d1:(!(e == 0))=true:=by simp [c1]
  simp only [d1,↓reduceIte];exact ⟨_,rfl,rfl⟩
theorem yl (r:bJ) (hr:so r) (hR:ie r.Right.Graph):∃ a b:List Int,f156 r=some (a,b)∧f108 r=some (a,b)∧(∀ x∈a,0≤x∧x<(r.Right.Graph.Nodes.length:Int))∧(∀ x∈b,0≤x∧x<(r.Right.Graph.Edges.length:Int))∧a.length≤40∧b.length≤80:=by
 have hn:=hR.n
 have he:=hR.e
 obtain ⟨a,a1,a2,a3,a4⟩:=yL r.Into.Nodes r.Right.Graph.Nodes.length hr.jn (by omega)
 obtain ⟨b,b1,b2,b3,b4⟩:=yL r.Into.Edges r.Right.Graph.Edges.length hr.je (by omega)
 unfold f156 f108
 exact ⟨a,b,by simp only [a1,b1,Option.bind_some],by simp only [a2,b2,Option.bind_some],a3,b3,by omega,by omega⟩
theorem Ln (r:bJ) (hr:so r) (hL:ie r.Left.Graph):∃ a b:List Int,f155 r=some (a,b)∧f111 r=some (a,b)∧(∀ x∈a,0≤x∧x<(r.Left.Graph.Nodes.length:Int))∧(∀ x∈b,0≤x∧x<(r.Left.Graph.Edges.length:Int))∧a.length≤40∧b.length≤80:=by
 have hn:=hL.n
 have he:=hL.e
 obtain ⟨a,a1,a2,a3,a4⟩:=yL r.Keep.Nodes r.Left.Graph.Nodes.length hr.kn (by omega)
 obtain ⟨b,b1,b2,b3,b4⟩:=yL r.Keep.Edges r.Left.Graph.Edges.length hr.ke (by omega)
 unfold f155 f111
 exact ⟨a,b,by simp only [a1,b1,Option.bind_some],by simp only [a2,b2,Option.bind_some],a3,b3,by omega,by omega⟩
theorem abm {t:Types} (ht:kA t) (r:bJ) (hr:kN r):∃ e,f154 R t r=some e∧f70 R t r=some e∧(e=0→TR R t∧FW t r):=by
 obtain ⟨p,v1,v2,v3⟩:=yw hq.h148 hq.h101 ht
 have hnm:=hr.sz.name
 unfold f154 f70
 simp only [v1,v2,Option.bind_some]
 by_cases c0:p.2=0
 ·have d0:(!(p.2 == 0))=false:=by simp [c0]
  have hT:TR R t:=⟨ht,v3 c0,p,v1,v2,c0⟩
  simp only [d0,Bool.false_eq_true,↓reduceIte,wx r.Name (by omega),wA r.Name (by omega),Option.bind_some]
  by_cases c1:isName r.Name=true
  ·simp only [c1,Bool.not_true,Bool.false_eq_true,↓reduceIte]
   obtain ⟨e2,l1,l2,l3⟩:=Nt hq.h148 hq.h101 hT r.Left hr.sz.left
   simp only [l1,l2,Option.bind_some]
   by_cases c2:e2=0
   ·have d2:(!(e2 == 0))=false:=by simp [c2]
    have hL:=l3 (.inl c2)
    obtain ⟨e3,r1,r2,r3⟩:=Sp hq.h148 hq.h101 hT r hr.sz
    simp only [d2,Bool.false_eq_true,↓reduceIte,r1,r2,Option.bind_some]
    by_cases c3:e3=0
    ·have d3:(!(e3 == 0))=false:=by simp [c3]
     have hRt:=r3 c3
     obtain ⟨e4,e4',k1,k2,k3,k4⟩:=acQ r hr.sz
     simp only [d3,Bool.false_eq_true,↓reduceIte,k1,k2,Option.bind_some]
     by_cases c4:e4'=0
     ·have d4':(!(e4' == 0))=false:=by simp [c4]
      obtain ⟨hK,k5⟩:=k4 c4
      simp only [d4',Bool.false_eq_true,↓reduceIte,Ao _ hr.sz.jn,Ao _ hr.sz.je,Option.bind_some]
      by_cases n1:r.Into.Nodes.Nodup
      ·by_cases n2:r.Into.Edges.Nodup
       ·have d4:(!(e4 == 0))=false:=by rw [k5];simp [n1,n2]
        simp only [d4,n1,n2,decide_true,Bool.not_true,Bool.false_eq_true,↓reduceIte]
        obtain ⟨a,b,q1,q2,q3,q4,q5,q6⟩:=yl hq r hr.sz hRt.graph
        obtain ⟨w,w1,w2⟩:=JX hq.h93 hT r.Right.Graph hRt.graph (fun x hx=>⟨hRt.graph.nodes x hx,hRt.nodes x hx⟩) a b q3 q4 (by omega) (by omega)
        obtain ⟨e5,z1,z2⟩:=ae5 hq hT r.Left hr.sz.left r.Condition hr.cond
        simp only [q1,q2,w1,w2,z1,z2,Option.bind_some]
        cases w with
        | true=>exact ⟨_,rfl,rfl,fun _=>⟨hT,hL,hRt,hK⟩⟩
        | false=>exact ⟨13,rfl,rfl,by omega⟩
       ·have e11:e4=11:=by rw [k5];simp [n1,n2]
        subst e11
        simp only [n1,n2,decide_true,decide_false,Bool.not_true,Bool.not_false,Bool.false_eq_true,↓reduceIte,show (!((11:Int) == 0))=true from rfl]
        exact ⟨11,rfl,rfl,by omega⟩
      ·have e11:e4=11:=by rw [k5];simp [n1]
       subst e11
       simp only [n1,decide_false,Bool.not_false,↓reduceIte,show (!((11:Int) == 0))=true from rfl]
       exact ⟨11,rfl,rfl,by omega⟩
     ·have:=k3 c4
      subst this
      have d4:(!(e4 == 0))=true:=by simp [c4]
      simp only [d4,↓reduceIte]
      exact ⟨_,rfl,rfl,fun h=>absurd h c4⟩
    ·have d3:(!(e3 == 0))=true:=by simp [c3]
     simp only [d3,↓reduceIte];exact ⟨_,rfl,rfl,fun h=>absurd h c3⟩
   ·have d2:(!(e2 == 0))=true:=by simp [c2]
    simp only [d2,↓reduceIte];exact ⟨_,rfl,rfl,fun h=>absurd h c2⟩
  ·have c1':isName r.Name=false:=by simpa using c1
   simp only [c1',Bool.not_false,↓reduceIte];exact ⟨2,rfl,rfl,by omega⟩
 ·have d0:(!(p.2 == 0))=true:=by simp [c0]
  simp only [d0,↓reduceIte];exact ⟨_,rfl,rfl,fun h=>absurd h c0⟩
end
end Go.S
end
section
set_option linter.all false
set_option maxRecDepth 10000
namespace Go.S
open Go Go.Pm
theorem aqB (t:Types) (k:Int) (h:t.Nodes.length≤1048576):f72 t k=some (!(t.Nodes.any fun x=>x.Parent == k)):=by
 unfold f72
 rw [bX t.Nodes (by omega) (fun m i=>pI t k m i) (fun i x r=>if (x.Parent == k)=true then some false else r) (some true) (fun m=>by simp [pI]) (fun m i x hx=>by
  have hi:(i:Int)<t.Nodes.length:=by have:=(List.getElem?_eq_some_iff.1 hx).1;omega
  simp only [pI,bB,hx,Option.bind_some,hi,decide_true,↓reduceIte]) (by rw [aL];omega),walk_stop (fun x:aE=>x.Parent == k)]
 split <;> simp_all
section
variable {R:bI} (hq:Eqs R)
include hq
theorem alZ {t:Types} (h:tg t) (b:Int) (hb:0≤b):∀ i:Nat,i<t.Nodes.length→R.f93 t i b=some true→(i:Int)=b∨(t.Nodes.any fun x=>x.Parent == b)=true:=by
 intro i
 induction i using Nat.strongRecOn with
 | ind i ih=>
  intro hi hr
  by_cases c:(i:Int)=b
  ·exact .inl c
  ·right
   have hx:t.Nodes[i]?=some t.Nodes[i]:=List.getElem?_eq_getElem hi
   obtain ⟨p1,p2⟩:=h.par i hi _ hx
   have hmem:=List.getElem_mem hi
   generalize t.Nodes[i]=x at hx p1 p2 hmem
   have h0:(0:Int)≤i:=by omega
   have c':((i:Int) == b)=false:=beq_eq_false_iff_ne.2 c
   rw [hq.h93] at hr
   unfold oS at hr
   simp only [c',h0,decide_true,Bool.false_eq_true,↓reduceIte,bB,hx,Option.bind_some] at hr
   by_cases c2:x.Parent=b
   ·exact List.any_eq_true.2 ⟨x,hmem,by simp [c2]⟩
   ·by_cases c3:0≤x.Parent
    ·obtain ⟨p,hp⟩:∃ p:Nat,x.Parent=p:=⟨x.Parent.toNat,by omega⟩
     rw [hp] at hr
     have hr':R.f93 t p b=some true:=by
      cases hf:R.f93 t p b with
      | none=>rw [hf] at hr;simp at hr
      | some v=>rw [hf] at hr;simpa using hr
     rcases ih p (by omega) (by omega) hr' with e | e
     ·exact absurd (hp.trans e) c2
     ·exact e
    ·have hm:x.Parent = -1:=by omega
     rw [hm] at hr
     have:R.f93 t (-1) b=some false:=by
      rw [hq.h93];unfold oS
      have c4:((-1:Int) == b)=false:=beq_eq_false_iff_ne.2 (by omega)
      simp [c4]
     rw [this] at hr;simp at hr
theorem HR (t:Types) (b:Int):R.f93 t b b=some true:=by rw [hq.h93];unfold oS;simp
theorem J7 {t:Types} (h:tg t) (j:Nat) (hj:j<t.Nodes.length) (b:Int) (hb:0≤b) (hp:t.Nodes[j].Parent=b):R.f93 t j b=some true∧(j:Int)≠b:=by
 have hx:t.Nodes[j]?=some t.Nodes[j]:=List.getElem?_eq_getElem hj
 obtain ⟨p1,p2⟩:=h.par j hj _ hx
 have hne:(j:Int)≠b:=by omega
 refine ⟨?_,hne⟩
 have c':((j:Int) == b)=false:=beq_eq_false_iff_ne.2 hne
 have h0:(0:Int)≤j:=by omega
 rw [hq.h93];unfold oS
 simp only [c',h0,decide_true,Bool.false_eq_true,↓reduceIte,bB,hx,Option.bind_some,hp,HR hq]
theorem acN {t:Types} (h:TR R t) (k:Int) (h0:0≤k) (h1:k<t.Nodes.length):∃ (l:List Int) (b:Bool),f120 R t k=some (l,0)∧f72 t k=some b∧(decide ((1:Int)<l.length))=!b:=by
 obtain ⟨p,v1,v2,hp⟩:=h.val
 have hn:=h.inn.n
 have a1:f126 R t [k]=some 0:=by
  unfold f126
  simp only [v1,Option.bind_some,hp,rV [k] t.Nodes t.Edges (by simp)]
  have g1:¬ (k<0):=by omega
  have g2:¬ ((t.Nodes.length:Int)≤k):=by omega
  simp [g1,g2]
 let q:Nat→Bool:=fun v=>(f127 t v k).getD false
 have hqv:∀ v:Nat,v<t.Nodes.length→f127 t v k=some (q v)∧R.f93 t v k=some (q v):=fun v hv=>by
  obtain ⟨w,w1,w2⟩:=AF hq.h93 h.inn v k (by omega) (by omega) h0
  simp only [q,w1,w2,Option.getD_some,and_self]
 have D:=cp t.Nodes.length (by omega) (fun i m kk=>∀ out:List Int,out.length≤i→∃ l:List Int,kq t k m out kk=some (l,0)∧l.length=out.length+((List.range' i (t.Nodes.length - i)).filter q).length) (fun m out ho=>by
   exact ⟨out,by simp [kq],by simp⟩) (fun m i hi ih out ho=>by
   have e1:(i:Int)<t.Nodes.length:=by omega
   have e:t.Nodes.length - i=(t.Nodes.length - (i+1))+1:=by omega
   have hb:(out ++ [(i:Int)]).length≤bound:=by unfold bound;simp;omega
   simp only [kq,e1,decide_true,↓reduceIte,(hqv i hi).1,Option.bind_some,hb]
   rw [e,List.range'_succ]
   cases c:q i with
   | true=>
    obtain ⟨l,l1,l2⟩:=ih (out ++ [(i:Int)]) (by simp;omega)
    exact ⟨l,by simpa using l1,by rw [l2,List.filter_cons_of_pos c];simp;omega⟩
   | false=>
    obtain ⟨l,l1,l2⟩:=ih out (by omega)
    exact ⟨l,by simpa using l1,by rw [l2,List.filter_cons_of_neg (by simp [c])]⟩) 0 (Nat.zero_le _) ax (by rw [aL];omega) [] (Nat.le_refl _)
 obtain ⟨l,l1,l2⟩:=D
 refine ⟨l,_,?_,aqB t k (by omega),?_⟩
 ·unfold f120
  simp only [a1,Option.bind_some,show (!((0:Int) == 0))=false from rfl,Bool.false_eq_true,↓reduceIte]
  exact l1
 ·rw [Bool.not_not,Bool.eq_iff_iff,decide_eq_true_eq]
  rw [Nat.sub_zero,List.length_nil,Nat.zero_add] at l2
  obtain ⟨i,rfl⟩:∃ i:Nat,k=i:=⟨k.toNat,by omega⟩
  have hmem:∀ v,v∈(List.range' 0 t.Nodes.length).filter q↔v<t.Nodes.length∧q v=true:=fun v=>by
   rw [List.mem_filter,List.mem_range'];constructor
   ·rintro ⟨⟨i,hi,rfl⟩,hv⟩;exact ⟨by omega,hv⟩
   ·rintro ⟨hi,hv⟩;exact ⟨⟨v,hi,by omega⟩,hv⟩
  have hnd:((List.range' 0 t.Nodes.length).filter q).Nodup:=List.Pairwise.filter _ (List.nodup_range' ..)
  generalize (List.range' 0 t.Nodes.length).filter q=F at l2 hmem hnd
  have hself:i∈F:=(hmem i).2 ⟨by omega,by
   have:=(hqv i (by omega)).2
   rw [HR hq] at this;exact (Option.some.inj this).symm⟩
  constructor
  ·intro hl
   obtain ⟨v,hv,hne⟩:∃ v∈F,v≠i:=by
    match F,l2,hnd with
    | [],l2,_=>simp only [List.length_nil] at l2;omega
    | [a],l2,_=>simp only [List.length_cons,List.length_nil] at l2;omega
    | a::b::r,_,hnd=>
     by_cases ha:a=i
     ·refine ⟨b,by simp,fun hb=>?_⟩
      rw [List.nodup_cons] at hnd
      exact hnd.1 (by rw [ha,← hb];simp)
     ·exact ⟨a,by simp,ha⟩
   obtain ⟨h1,h2⟩:=(hmem v).1 hv
   rcases alZ hq h.inn (i:Int) h0 v h1 (by rw [(hqv v h1).2,h2]) with e | e
   ·exact absurd (by omega) hne
   ·exact e
  ·intro ha
   obtain ⟨x,hx,hxp⟩:=List.any_eq_true.1 ha
   obtain ⟨j,hj,rfl⟩:=List.mem_iff_getElem.1 hx
   obtain ⟨k1,k2⟩:=J7 hq h.inn j hj (i:Int) h0 (by simpa using hxp)
   have hjF:j∈F:=(hmem j).2 ⟨hj,by have:=(hqv j hj).2;rw [k1] at this;exact (Option.some.inj this).symm⟩
   have hji:j≠i:=by omega
   match F,l2,hself,hjF with
   | [],_,hs,_=>cases hs
   | [a],_,hs,hj=>rw [List.mem_singleton] at hs hj;exact absurd (hj.trans hs.symm) hji
   | a::b::r,l2,_,_=>simp only [List.length_cons] at l2;omega
def cD (t:Types):Nat:=t.Nodes.length+t.Edges.length
theorem bump {out:List Int} {N:Nat} (ho:out.length=N) {k:Int} (h0:0≤k) (h1:k<N):∃ x,out[k.toNat]?=some x∧(decide (0≤k)&&decide (k<(out.length:Int)))=true:=by
 have:k.toNat<out.length:=by omega
 exact ⟨out[k.toNat],List.getElem?_eq_getElem this,by simp;omega⟩
theorem eff6 {t:Types} (h:TR R t) (r:bJ) (hR:rn t r) (x:List Int × List Int × Int) (hx:∀ i∈x.2.1,0≤i∧i<(r.Right.Graph.Edges.length:Int)) (hl:x.2.1.length≤80) (out:List Int) (ho:out.length=cD t) :
  ∃ v:List Int,nL t r x ax out 0=some (v,0)∧nT t r x ax out 0=some (v,0)∧v.length=cD t:=by
 have hn:=h.inn.n
 have he:=h.inn.e
 exact cp x.2.1.length (by omega) (fun i m k=>∀ m',x.2.1.length - i<m'→∀ out:List Int,out.length=cD t→∃ v:List Int,nL t r x m out k=some (v,0)∧nT t r x m' out k=some (v,0)∧v.length=cD t) (fun m m' hm' out ho=>by
   obtain ⟨m',rfl⟩:∃ k,m'=k+1:=⟨m' - 1,by omega⟩
   exact ⟨out,by simp [nL],by simp [nT],ho⟩) (fun m i hi ih m' hm' out ho=>by
   obtain ⟨m',rfl⟩:∃ k,m'=k+1:=⟨m' - 1,by omega⟩
   have e1:(i:Int)<x.2.1.length:=by omega
   have e2:(0:Int)≤i:=by omega
   have hy:x.2.1[i]?=some x.2.1[i]:=List.getElem?_eq_getElem hi
   obtain ⟨q1,q2⟩:=hx _ (List.getElem_mem hi)
   generalize x.2.1[i]=y at hy q1 q2
   obtain ⟨z,z1,z2⟩:=gW (l:=r.Right.Graph.Edges) (i:=y) q1 q2
   have hz:=List.mem_of_getElem? z2
   have t1:=hR.edges z hz
   have t0:=(hR.graph.edges z hz).1
   have w:w64 ((t.Nodes.length:Int)+z.Type_)=(t.Nodes.length:Int)+z.Type_:=bS (by omega) (by omega)
   obtain ⟨u,u1,u2⟩:=bump hq ho (k:=(t.Nodes.length:Int)+z.Type_) (by omega) (by unfold cD;omega)
   simp only [nL,nT,e1,e2,decide_true,Bool.and_self,↓reduceIte,Int.toNat_natCast,hy,Option.bind_some,z1,w,u1,u2]
   exact ih m' (by omega) _ (by simp [ho])) 0 (Nat.zero_le _) ax (by rw [aL];omega) ax (by rw [aL];omega) out ho
theorem eff4 {t:Types} (h:TR R t) (r:bJ) (hR:rn t r) (x:List Int × List Int × Int) (hx:∀ i∈x.2.1,0≤i∧i<(r.Right.Graph.Edges.length:Int)) (hl:x.2.1.length≤80) (hx1:∀ i∈x.1,0≤i∧i<(r.Right.Graph.Nodes.length:Int)) (hl1:x.1.length≤40) (out:List Int) (ho:out.length=cD t) :
  ∃ v:List Int,nM t r x ax out 0=some (v,0)∧nU t r x ax out 0=some (v,0)∧v.length=cD t:=by
 have hn:=h.inn.n
 have he:=h.inn.e
 exact cp x.1.length (by omega) (fun i m k=>∀ m',x.1.length - i<m'→∀ out:List Int,out.length=cD t→∃ v:List Int,nM t r x m out k=some (v,0)∧nU t r x m' out k=some (v,0)∧v.length=cD t) (fun m m' hm' out ho=>by
   obtain ⟨m',rfl⟩:∃ k,m'=k+1:=⟨m' - 1,by omega⟩
   obtain ⟨v,v1,v2,v3⟩:=eff6 hq h r hR x hx hl out ho
   exact ⟨v,by simp [nM,v1],by simp [nU,v2],v3⟩) (fun m i hi ih m' hm' out ho=>by
   obtain ⟨m',rfl⟩:∃ k,m'=k+1:=⟨m' - 1,by omega⟩
   have e1:(i:Int)<x.1.length:=by omega
   have e2:(0:Int)≤i:=by omega
   have hy:x.1[i]?=some x.1[i]:=List.getElem?_eq_getElem hi
   obtain ⟨q1,q2⟩:=hx1 _ (List.getElem_mem hi)
   generalize x.1[i]=y at hy q1 q2
   obtain ⟨z,z1,z2⟩:=gW (l:=r.Right.Graph.Nodes) (i:=y) q1 q2
   have hz:=List.mem_of_getElem? z2
   have t1:=hR.nodes z hz
   have t0:=hR.graph.nodes z hz
   obtain ⟨u,u1,u2⟩:=bump hq ho (k:=z) t0 (by unfold cD;omega)
   simp only [nM,nU,e1,e2,decide_true,Bool.and_self,↓reduceIte,Int.toNat_natCast,hy,Option.bind_some,z1,u1,u2]
   exact ih m' (by omega) _ (by simp [ho])) 0 (Nat.zero_le _) ax (by rw [aL];omega) ax (by rw [aL];omega) out ho
theorem eff2 {t:Types} (h:TR R t) (r:bJ) (hI:FW t r) (x y:List Int × List Int × Int) (hc:f73 R t r=some y) (hx:∀ i∈y.2.1,0≤i∧i<(r.Right.Graph.Edges.length:Int)) (hl:y.2.1.length≤80) (hx1:∀ i∈y.1,0≤i∧i<(r.Right.Graph.Nodes.length:Int)) (hl1:y.1.length≤40)
  (hd:∀ i∈x.2.1,0≤i∧i<(r.Left.Graph.Edges.length:Int)) (hdl:x.2.1.length≤80) (out:List Int) (ho:out.length=cD t) :
  ∃ v:List Int,nN t r x y ax out 0=some (v,0)∧nV R t r x ax out 0=some (v,0)∧v.length=cD t:=by
 have hn:=h.inn.n
 have he:=h.inn.e
 exact cp x.2.1.length (by omega) (fun i m k=>∀ m',x.2.1.length - i<m'→∀ out:List Int,out.length=cD t→∃ v:List Int,nN t r x y m out k=some (v,0)∧nV R t r x m' out k=some (v,0)∧v.length=cD t) (fun m m' hm' out ho=>by
   obtain ⟨m',rfl⟩:∃ k,m'=k+1:=⟨m' - 1,by omega⟩
   obtain ⟨v,v1,v2,v3⟩:=eff4 hq h r hI.right y hx hl hx1 hl1 out ho
   exact ⟨v,by simp [nN,v1],by simp [nV,hc,v2],v3⟩) (fun m i hi ih m' hm' out ho=>by
   obtain ⟨m',rfl⟩:∃ k,m'=k+1:=⟨m' - 1,by omega⟩
   have e1:(i:Int)<x.2.1.length:=by omega
   have e2:(0:Int)≤i:=by omega
   have hy:x.2.1[i]?=some x.2.1[i]:=List.getElem?_eq_getElem hi
   obtain ⟨q1,q2⟩:=hd _ (List.getElem_mem hi)
   generalize x.2.1[i]=y at hy q1 q2
   obtain ⟨z,z1,z2⟩:=gW (l:=r.Left.Graph.Edges) (i:=y) q1 q2
   have hz:=List.mem_of_getElem? z2
   have t1:=hI.left.edges z hz
   have t0:=(hI.left.graph.edges z hz).1
   have w:w64 ((t.Nodes.length:Int)+z.Type_)=(t.Nodes.length:Int)+z.Type_:=bS (by omega) (by omega)
   obtain ⟨u,u1,u2⟩:=bump hq ho (k:=(t.Nodes.length:Int)+z.Type_) (by omega) (by unfold cD;omega)
   simp only [nN,nV,e1,e2,decide_true,Bool.and_self,↓reduceIte,Int.toNat_natCast,hy,Option.bind_some,z1,w,u1,u2]
   exact ih m' (by omega) _ (by simp [ho])) 0 (Nat.zero_le _) ax (by rw [aL];omega) ax (by rw [aL];omega) out ho
theorem eff0 {t:Types} (h:TR R t) (r:bJ) (hI:FW t r) (x y:List Int × List Int × Int) (hc:f73 R t r=some y) (hx:∀ i∈y.2.1,0≤i∧i<(r.Right.Graph.Edges.length:Int)) (hl:y.2.1.length≤80) (hx1:∀ i∈y.1,0≤i∧i<(r.Right.Graph.Nodes.length:Int)) (hl1:y.1.length≤40)
  (hd:∀ i∈x.2.1,0≤i∧i<(r.Left.Graph.Edges.length:Int)) (hdl:x.2.1.length≤80) (hd1:∀ i∈x.1,0≤i∧i<(r.Left.Graph.Nodes.length:Int)) (hdl1:x.1.length≤40) (out:List Int) (ho:out.length=cD t) :
  ∃ v:List Int × Int,nO R t r x y ax out 0=some v∧nW R t r x ax out 0=some v∧(v.2=0→v.1.length=cD t):=by
 have hn:=h.inn.n
 have he:=h.inn.e
 exact cp x.1.length (by omega) (fun i m k=>∀ m',x.1.length - i<m'→∀ out:List Int,out.length=cD t→∃ v:List Int × Int,nO R t r x y m out k=some v∧nW R t r x m' out k=some v∧(v.2=0→v.1.length=cD t)) (fun m m' hm' out ho=>by
   obtain ⟨m',rfl⟩:∃ k,m'=k+1:=⟨m' - 1,by omega⟩
   obtain ⟨v,v1,v2,v3⟩:=eff2 hq h r hI x y hc hx hl hx1 hl1 hd hdl out ho
   exact ⟨(v,0),by simp [nO,v1],by simp [nW,v2],fun _=>v3⟩) (fun m i hi ih m' hm' out ho=>by
   obtain ⟨m',rfl⟩:∃ k,m'=k+1:=⟨m' - 1,by omega⟩
   have e1:(i:Int)<x.1.length:=by omega
   have e2:(0:Int)≤i:=by omega
   have hy:x.1[i]?=some x.1[i]:=List.getElem?_eq_getElem hi
   obtain ⟨q1,q2⟩:=hd1 _ (List.getElem_mem hi)
   generalize x.1[i]=y at hy q1 q2
   obtain ⟨z,z1,z2⟩:=gW (l:=r.Left.Graph.Nodes) (i:=y) q1 q2
   have hz:=List.mem_of_getElem? z2
   have t1:=hI.left.nodes z hz
   have t0:=hI.left.graph.nodes z hz
   obtain ⟨l,b,g1,g2,g3⟩:=acN hq h z t0 t1
   obtain ⟨u,u1,u2⟩:=bump hq ho (k:=z) t0 (by unfold cD;omega)
   simp only [nO,nW,e1,e2,decide_true,Bool.and_self,↓reduceIte,Int.toNat_natCast,hy,Option.bind_some,z1,g1,g2,g3,u1,u2]
   cases b with
   | false=>exact ⟨([],13),rfl,rfl,fun h=>by simp at h⟩
   | true=>exact ih m' (by omega) _ (by simp [ho])) 0 (Nat.zero_le _) ax (by rw [aL];omega) ax (by rw [aL];omega) out ho
theorem Qs {t:Types} (ht:kA t) (r:bJ) (hr:kN r):∃ v:List Int × Int,f79 R t r=some v∧f45 R t r=some v∧(v.2=0→v.1.length=cD t):=by
 obtain ⟨p,v1,v2,v3⟩:=yw hq.h148 hq.h101 ht
 obtain ⟨e,r1,r2,r3⟩:=abm hq ht r hr
 by_cases c:e=0
 ·subst c
  obtain ⟨hT,hI⟩:=r3 rfl
  have hn:=hT.inn.n
  have he:=hT.inn.e
  have hp0:p.2=0:=by
   obtain ⟨p',w1,_,w3⟩:=hT.val
   rw [v1] at w1;obtain rfl:=Option.some.inj w1;exact w3
  obtain ⟨a,b,d1,d2,d3,d4,d5,d6⟩:=Ln hq r hr.sz hI.left.graph
  obtain ⟨a',b',c1,c2,c3,c4,c5,c6⟩:=yl hq r hr.sz hI.right.graph
  have z:(!((0:Int) == 0))=false:=rfl
  have D1:f118 R t r=some (a,b,0):=by unfold f118;simp only [r1,Option.bind_some,z,Bool.false_eq_true,↓reduceIte,d1]
  have D2:f71 R t r=some (a,b,0):=by unfold f71;simp only [r2,Option.bind_some,z,Bool.false_eq_true,↓reduceIte,d2]
  have C1:f119 R t r=some (a',b',0):=by unfold f119;simp only [r1,Option.bind_some,z,Bool.false_eq_true,↓reduceIte,c1]
  have C2:f73 R t r=some (a',b',0):=by unfold f73;simp only [r2,Option.bind_some,z,Bool.false_eq_true,↓reduceIte,c2]
  have w:w64 ((t.Nodes.length:Int)+(t.Edges.length:Int))=(t.Nodes.length:Int)+(t.Edges.length:Int):=bS (by omega) (by omega)
  have b1:(0:Int)≤(t.Nodes.length:Int)+(t.Edges.length:Int):=by omega
  have b2:(t.Nodes.length:Int)+(t.Edges.length:Int)≤(bound:Int):=by unfold bound;omega
  obtain ⟨v,q1,q2,q3⟩:=eff0 hq hT r hI (a,b,0) (a',b',0) C2 c4 c6 c3 c5 d4 d6 d3 d5 (List.replicate ((t.Nodes.length:Int)+(t.Edges.length:Int)).toNat 0) (by simp [cD];omega)
  refine ⟨v,?_,?_,q3⟩
  ·unfold f79
   simp only [D1,C1,Option.bind_some,z,Bool.false_eq_true,↓reduceIte,w,b1,b2,and_self,decide_true,q1]
  ·unfold f45
   simp only [v2,hp0,r2,D2,Option.bind_some,z,Bool.false_eq_true,↓reduceIte,w,b1,b2,and_self,decide_true,q2]
 ·have d:(!(e == 0))=true:=by simp [c]
  refine ⟨([],e),?_,?_,fun h=>absurd h c⟩
  ·unfold f79 f118
   simp only [r1,Option.bind_some,d,↓reduceIte]
  ·unfold f45
   by_cases c0:p.2=0
   ·have d0:(!(p.2 == 0))=false:=by simp [c0]
    simp only [v2,r2,Option.bind_some,d0,d,Bool.false_eq_true,↓reduceIte]
   ·have d0:(!(p.2 == 0))=true:=by simp [c0]
    have:e=p.2:=by
     unfold f70 at r2
     simp only [v2,Option.bind_some,d0,↓reduceIte,Option.some.injEq] at r2
     exact r2.symm
    simp only [v2,Option.bind_some,d0,↓reduceIte,this]
end
end Go.S
end
