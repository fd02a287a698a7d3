import Derived.Test.YtjkkigeefoncmaaGreatCheckB
import Derived.Test.YtjkkigeefoncmaaGreatCheckC
import Derived.Test.YtjkkigeefoncmaaGreatProg
set_option linter.all false
section
set_option linter.unusedVariables false
namespace Go.S
open Go Go.Pm Go.Proofs
noncomputable def tab (t:Nat):Option TI:=
 bif Nat.blt t 91 then
  bif Nat.blt t 41 then
  bif Nat.blt t 26 then
   bif Nat.blt t 9 then
   bif Nat.blt t 4 then
    bif Nat.beq t 3 then (some ⟨.int .i64,1,8,[.int .i64 0],false⟩) else none
   else
    bif Nat.blt t 5 then
    bif Nat.beq t 4 then (some ⟨.bool,1,1,[.bool false],false⟩) else none
    else
    bif Nat.beq t 5 then (some ⟨.int .u8,1,1,[.int .u8 0],false⟩) else none
   else
   bif Nat.blt t 23 then
    bif Nat.blt t 22 then
    bif Nat.beq t 9 then (some ⟨.str,1,16,[.str ⟨#[]⟩],false⟩) else none
    else
    bif Nat.beq t 22 then (some ⟨.slice 67,1,24,[.bp],false⟩) else none
   else
    bif Nat.blt t 25 then
    bif Nat.beq t 23 then (some ⟨.slice 72,1,24,[.bp],false⟩) else none
    else
    bif Nat.beq t 25 then (some ⟨.struct [(0,22),(1,23)],2,48,[.bp,.bp],false⟩) else none
  else
   bif Nat.blt t 33 then
   bif Nat.blt t 27 then
    bif Nat.beq t 26 then (some ⟨.slice 96,1,24,[.bp],false⟩) else none
   else
    bif Nat.blt t 31 then
    bif Nat.beq t 27 then (some ⟨.slice 33,1,24,[.bp],false⟩) else none
    else
    bif Nat.beq t 31 then (some ⟨.slice 3,1,24,[.bp],false⟩) else none
   else
   bif Nat.blt t 37 then
    bif Nat.blt t 34 then
    bif Nat.beq t 33 then (some ⟨.struct [(0,31),(1,31)],2,48,[.bp,.bp],false⟩) else none
    else
    bif Nat.beq t 34 then (some ⟨.func,1,8,[.cX],false⟩) else none
   else
    bif Nat.blt t 39 then
    bif Nat.beq t 37 then (some ⟨.slice 111,1,24,[.bp],false⟩) else none
    else
    bif Nat.beq t 39 then (some ⟨.struct [(0,31),(1,37)],2,48,[.bp,.bp],false⟩) else none
  else
  bif Nat.blt t 70 then
   bif Nat.blt t 61 then
   bif Nat.blt t 53 then
    bif Nat.beq t 41 then (some ⟨.int .i64,1,8,[.int .i64 0],false⟩) else none
   else
    bif Nat.blt t 56 then
    bif Nat.beq t 53 then (some ⟨.slice 31,1,24,[.bp],false⟩) else none
    else
    bif Nat.beq t 56 then (some ⟨.slice 4,1,24,[.bp],false⟩) else none
   else
   bif Nat.blt t 67 then
    bif Nat.blt t 65 then
    bif Nat.beq t 61 then (some ⟨.func,1,8,[.cX],false⟩) else none
    else
    bif Nat.beq t 65 then (some ⟨.slice 70,1,24,[.bp],false⟩) else none
   else
    bif Nat.blt t 68 then
    bif Nat.beq t 67 then (some ⟨.struct [(0,9),(1,3),(2,4),(3,65)],4,56,[.str ⟨#[]⟩,.int .i64 0,.bool false,.bp],false⟩) else none
    else
    bif Nat.beq t 68 then (some ⟨.slice 9,1,24,[.bp],false⟩) else none
  else
   bif Nat.blt t 85 then
   bif Nat.blt t 73 then
    bif Nat.blt t 72 then
    bif Nat.beq t 70 then (some ⟨.struct [(0,9),(1,3),(2,3),(3,68)],4,56,[.str ⟨#[]⟩,.int .i64 0,.int .i64 0,.bp],false⟩) else none
    else
    bif Nat.beq t 72 then (some ⟨.struct [(0,9),(1,3),(2,3),(3,3),(4,3),(5,3),(6,3)],7,64,[.str ⟨#[]⟩,.int .i64 0,.int .i64 0,.int .i64 0,.int .i64 0,.int .i64 0,.int .i64 0],false⟩) else none
   else
    bif Nat.blt t 75 then
    bif Nat.beq t 73 then (some ⟨.slice 109,1,24,[.bp],false⟩) else none
    else
    bif Nat.beq t 75 then (some ⟨.struct [(0,73),(1,73)],2,48,[.bp,.bp],false⟩) else none
   else
   bif Nat.blt t 88 then
    bif Nat.blt t 87 then
    bif Nat.beq t 85 then (some ⟨.slice 93,1,24,[.bp],false⟩) else none
    else
    bif Nat.beq t 87 then (some ⟨.struct [(0,31),(1,31)],2,48,[.bp,.bp],false⟩) else none
   else
    bif Nat.blt t 89 then
    bif Nat.beq t 88 then (some ⟨.slice 175,1,24,[.bp],false⟩) else none
    else
    bif Nat.beq t 89 then (some ⟨.slice 201,1,24,[.bp],false⟩) else none
 else
  bif Nat.blt t 169 then
  bif Nat.blt t 116 then
   bif Nat.blt t 96 then
   bif Nat.blt t 93 then
    bif Nat.beq t 91 then (some ⟨.struct [(0,39),(2,88),(3,3),(4,89)],5,104,[.bp,.bp,.bp,.int .i64 0,.bp],false⟩) else none
   else
    bif Nat.blt t 94 then
    bif Nat.beq t 93 then (some ⟨.struct [(0,3),(1,85),(2,87),(4,91)],9,184,[.int .i64 0,.bp,.bp,.bp,.bp,.bp,.bp,.int .i64 0,.bp],false⟩) else none
    else
    bif Nat.beq t 94 then (some ⟨.struct [(0,31),(1,31)],2,48,[.bp,.bp],false⟩) else none
   else
   bif Nat.blt t 111 then
    bif Nat.blt t 109 then
    bif Nat.beq t 96 then (some ⟨.struct [(0,9),(1,91),(6,91),(11,94),(13,87),(15,4),(16,93)],25,512,[.str ⟨#[]⟩,.bp,.bp,.bp,.int .i64 0,.bp,.bp,.bp,.bp,.int .i64 0,.bp,.bp,.bp,.bp,.bp,.bool false,.int .i64 0,.bp,.bp,.bp,.bp,.bp,.bp,.int .i64 0,.bp],false⟩) else none
    else
    bif Nat.beq t 109 then (some ⟨.struct [(0,3),(1,3),(2,3),(3,3)],4,32,[.int .i64 0,.int .i64 0,.int .i64 0,.int .i64 0],false⟩) else none
   else
    bif Nat.blt t 114 then
    bif Nat.beq t 111 then (some ⟨.struct [(0,3),(1,3),(2,3)],3,24,[.int .i64 0,.int .i64 0,.int .i64 0],false⟩) else none
    else
    bif Nat.beq t 114 then (some ⟨.ptr,1,8,[.eH],false⟩) else none
  else
   bif Nat.blt t 137 then
   bif Nat.blt t 118 then
    bif Nat.beq t 116 then (some ⟨.struct [(0,53),(1,31),(2,31),(3,3),(4,31),(5,3),(6,3)],7,120,[.bp,.bp,.bp,.int .i64 0,.bp,.int .i64 0,.int .i64 0],false⟩) else none
   else
    bif Nat.blt t 124 then
    bif Nat.beq t 118 then (some ⟨.func,1,8,[.cX],false⟩) else none
    else
    bif Nat.beq t 124 then (some ⟨.func,1,8,[.cX],false⟩) else none
   else
   bif Nat.blt t 161 then
    bif Nat.blt t 152 then
    bif Nat.beq t 137 then (some ⟨.func,1,8,[.cX],false⟩) else none
    else
    bif Nat.beq t 152 then (some ⟨.func,1,8,[.cX],false⟩) else none
   else
    bif Nat.blt t 163 then
    bif Nat.beq t 161 then (some ⟨.func,1,8,[.cX],false⟩) else none
    else
    bif Nat.beq t 163 then (some ⟨.int .u64,1,8,[.int .u64 0],false⟩) else none
  else
  bif Nat.blt t 216 then
   bif Nat.blt t 188 then
   bif Nat.blt t 173 then
    bif Nat.beq t 169 then (some ⟨.struct [(0,3),(1,9),(2,3)],3,32,[.int .i64 0,.str ⟨#[]⟩,.int .i64 0],false⟩) else none
   else
    bif Nat.blt t 175 then
    bif Nat.beq t 173 then (some ⟨.struct [(0,3),(1,3)],2,16,[.int .i64 0,.int .i64 0],false⟩) else none
    else
    bif Nat.beq t 175 then (some ⟨.struct [(0,3),(1,3),(2,173)],4,32,[.int .i64 0,.int .i64 0,.int .i64 0,.int .i64 0],false⟩) else none
   else
   bif Nat.blt t 201 then
    bif Nat.blt t 191 then
    bif Nat.beq t 188 then (some ⟨.func,1,8,[.cX],false⟩) else none
    else
    bif Nat.beq t 191 then (some ⟨.func,1,8,[.cX],false⟩) else none
   else
    bif Nat.blt t 211 then
    bif Nat.beq t 201 then (some ⟨.struct [(0,3),(1,173),(3,173)],5,40,[.int .i64 0,.int .i64 0,.int .i64 0,.int .i64 0,.int .i64 0],false⟩) else none
    else
    bif Nat.beq t 211 then (some ⟨.func,1,8,[.cX],false⟩) else none
  else
   bif Nat.blt t 252 then
   bif Nat.blt t 243 then
    bif Nat.blt t 233 then
    bif Nat.beq t 216 then (some ⟨.func,1,8,[.cX],false⟩) else none
    else
    bif Nat.beq t 233 then (some ⟨.func,1,8,[.cX],false⟩) else none
   else
    bif Nat.blt t 250 then
    bif Nat.beq t 243 then (some ⟨.int .i64,1,8,[.int .i64 0],false⟩) else none
    else
    bif Nat.beq t 250 then (some ⟨.int .u32,1,4,[.int .u32 0],false⟩) else none
   else
   bif Nat.blt t 257 then
    bif Nat.blt t 253 then
    bif Nat.beq t 252 then (some ⟨.int .u64,1,8,[.int .u64 0],false⟩) else none
    else
    bif Nat.beq t 253 then (some ⟨.int .u64,1,8,[.int .u64 0],false⟩) else none
   else
    bif Nat.blt t 259 then
    bif Nat.beq t 257 then (some ⟨.ptr,1,8,[.eH],false⟩) else none
    else
    bif Nat.beq t 259 then (some ⟨.ptr,1,8,[.eH],false⟩) else none
noncomputable def code (f:Nat):Option Func:=
 bif Nat.blt f 138 then
  bif Nat.blt f 70 then
  bif Nat.blt f 36 then
   bif Nat.blt f 19 then
   bif Nat.blt f 11 then
    bif Nat.blt f 7 then
    bif Nat.blt f 5 then
     bif Nat.blt f 4 then
     bif Nat.beq f 3 then (some Tryz.f3) else none
     else
     bif Nat.beq f 4 then (some Tryz.f4) else none
    else
     bif Nat.blt f 6 then
     bif Nat.beq f 5 then (some Tryz.f5) else none
     else
     bif Nat.beq f 6 then (some Tryz.f6) else none
    else
    bif Nat.blt f 9 then
     bif Nat.blt f 8 then
     bif Nat.beq f 7 then (some Tryz.f7) else none
     else
     bif Nat.beq f 8 then (some Tryz.f8) else none
    else
     bif Nat.blt f 10 then
     bif Nat.beq f 9 then (some Tryz.f9) else none
     else
     bif Nat.beq f 10 then (some Tryz.f10) else none
   else
    bif Nat.blt f 15 then
    bif Nat.blt f 13 then
     bif Nat.blt f 12 then
     bif Nat.beq f 11 then (some Tryz.f11) else none
     else
     bif Nat.beq f 12 then (some Tryz.f12) else none
    else
     bif Nat.blt f 14 then
     bif Nat.beq f 13 then (some Tryz.f13) else none
     else
     bif Nat.beq f 14 then (some Tryz.f14) else none
    else
    bif Nat.blt f 17 then
     bif Nat.blt f 16 then
     bif Nat.beq f 15 then (some Tryz.f15) else none
     else
     bif Nat.beq f 16 then (some Tryz.f16) else none
    else
     bif Nat.blt f 18 then
     bif Nat.beq f 17 then (some Tryz.f17) else none
     else
     bif Nat.beq f 18 then (some Tryz.f18) else none
   else
   bif Nat.blt f 27 then
    bif Nat.blt f 23 then
    bif Nat.blt f 21 then
     bif Nat.blt f 20 then
     bif Nat.beq f 19 then (some Tryz.f19) else none
     else
     bif Nat.beq f 20 then (some Tryz.f20) else none
    else
     bif Nat.blt f 22 then
     bif Nat.beq f 21 then (some Tryz.f21) else none
     else
     bif Nat.beq f 22 then (some Tryz.f22) else none
    else
    bif Nat.blt f 25 then
     bif Nat.blt f 24 then
     bif Nat.beq f 23 then (some Tryz.f23) else none
     else
     bif Nat.beq f 24 then (some Tryz.f24) else none
    else
     bif Nat.blt f 26 then
     bif Nat.beq f 25 then (some Tryz.f25) else none
     else
     bif Nat.beq f 26 then (some Tryz.f26) else none
   else
    bif Nat.blt f 31 then
    bif Nat.blt f 29 then
     bif Nat.blt f 28 then
     bif Nat.beq f 27 then (some Tryz.f27) else none
     else
     bif Nat.beq f 28 then (some Tryz.f28) else none
    else
     bif Nat.blt f 30 then
     bif Nat.beq f 29 then (some Tryz.f29) else none
     else
     bif Nat.beq f 30 then (some Tryz.f30) else none
    else
    bif Nat.blt f 33 then
     bif Nat.blt f 32 then
     bif Nat.beq f 31 then (some Tryz.f31) else none
     else
     bif Nat.beq f 32 then (some Tryz.f32) else none
    else
     bif Nat.blt f 34 then
     bif Nat.beq f 33 then (some Tryz.f33) else none
     else
     bif Nat.blt f 35 then
      bif Nat.beq f 34 then (some Tryz.f34) else none
     else
      bif Nat.beq f 35 then (some Tryz.f35) else none
  else
   bif Nat.blt f 53 then
   bif Nat.blt f 44 then
    bif Nat.blt f 40 then
    bif Nat.blt f 38 then
     bif Nat.blt f 37 then
     bif Nat.beq f 36 then (some Tryz.f36) else none
     else
     bif Nat.beq f 37 then (some Tryz.f37) else none
    else
     bif Nat.blt f 39 then
     bif Nat.beq f 38 then (some Tryz.f38) else none
     else
     bif Nat.beq f 39 then (some Tryz.f39) else none
    else
    bif Nat.blt f 42 then
     bif Nat.blt f 41 then
     bif Nat.beq f 40 then (some Tryz.f40) else none
     else
     bif Nat.beq f 41 then (some Tryz.f41) else none
    else
     bif Nat.blt f 43 then
     bif Nat.beq f 42 then (some Tryz.f42) else none
     else
     bif Nat.beq f 43 then (some Tryz.f43) else none
   else
    bif Nat.blt f 48 then
    bif Nat.blt f 46 then
     bif Nat.blt f 45 then
     bif Nat.beq f 44 then (some Tryz.f44) else none
     else
     bif Nat.beq f 45 then (some Tryz.f45) else none
    else
     bif Nat.blt f 47 then
     bif Nat.beq f 46 then (some Tryz.f46) else none
     else
     bif Nat.beq f 47 then (some Tryz.f47) else none
    else
    bif Nat.blt f 50 then
     bif Nat.blt f 49 then
     bif Nat.beq f 48 then (some Tryz.f48) else none
     else
     bif Nat.beq f 49 then (some Tryz.f49) else none
    else
     bif Nat.blt f 51 then
     bif Nat.beq f 50 then (some Tryz.f50) else none
     else
     bif Nat.blt f 52 then
      bif Nat.beq f 51 then (some Tryz.f51) else none
     else
      bif Nat.beq f 52 then (some Tryz.f52) else none
   else
   bif Nat.blt f 61 then
    bif Nat.blt f 57 then
    bif Nat.blt f 55 then
     bif Nat.blt f 54 then
     bif Nat.beq f 53 then (some Tryz.f53) else none
     else
     bif Nat.beq f 54 then (some Tryz.f54) else none
    else
     bif Nat.blt f 56 then
     bif Nat.beq f 55 then (some Tryz.f55) else none
     else
     bif Nat.beq f 56 then (some Tryz.f56) else none
    else
    bif Nat.blt f 59 then
     bif Nat.blt f 58 then
     bif Nat.beq f 57 then (some Tryz.f57) else none
     else
     bif Nat.beq f 58 then (some Tryz.f58) else none
    else
     bif Nat.blt f 60 then
     bif Nat.beq f 59 then (some Tryz.f59) else none
     else
     bif Nat.beq f 60 then (some Tryz.f60) else none
   else
    bif Nat.blt f 65 then
    bif Nat.blt f 63 then
     bif Nat.blt f 62 then
     bif Nat.beq f 61 then (some Tryz.f61) else none
     else
     bif Nat.beq f 62 then (some Tryz.f62) else none
    else
     bif Nat.blt f 64 then
     bif Nat.beq f 63 then (some Tryz.f63) else none
     else
     bif Nat.beq f 64 then (some Tryz.f64) else none
    else
    bif Nat.blt f 67 then
     bif Nat.blt f 66 then
     bif Nat.beq f 65 then (some Tryz.f65) else none
     else
     bif Nat.beq f 66 then (some Tryz.f66) else none
    else
     bif Nat.blt f 68 then
     bif Nat.beq f 67 then (some Tryz.f67) else none
     else
     bif Nat.blt f 69 then
      bif Nat.beq f 68 then (some Tryz.f68) else none
     else
      bif Nat.beq f 69 then (some Tryz.f69) else none
  else
  bif Nat.blt f 103 then
   bif Nat.blt f 86 then
   bif Nat.blt f 78 then
    bif Nat.blt f 74 then
    bif Nat.blt f 72 then
     bif Nat.blt f 71 then
     bif Nat.beq f 70 then (some Tryz.f70) else none
     else
     bif Nat.beq f 71 then (some Tryz.f71) else none
    else
     bif Nat.blt f 73 then
     bif Nat.beq f 72 then (some Tryz.f72) else none
     else
     bif Nat.beq f 73 then (some Tryz.f73) else none
    else
    bif Nat.blt f 76 then
     bif Nat.blt f 75 then
     bif Nat.beq f 74 then (some Tryz.f74) else none
     else
     bif Nat.beq f 75 then (some Tryz.f75) else none
    else
     bif Nat.blt f 77 then
     bif Nat.beq f 76 then (some Tryz.f76) else none
     else
     bif Nat.beq f 77 then (some Tryz.f77) else none
   else
    bif Nat.blt f 82 then
    bif Nat.blt f 80 then
     bif Nat.blt f 79 then
     bif Nat.beq f 78 then (some Tryz.f78) else none
     else
     bif Nat.beq f 79 then (some Tryz.f79) else none
    else
     bif Nat.blt f 81 then
     bif Nat.beq f 80 then (some Tryz.f80) else none
     else
     bif Nat.beq f 81 then (some Tryz.f81) else none
    else
    bif Nat.blt f 84 then
     bif Nat.blt f 83 then
     bif Nat.beq f 82 then (some Tryz.f82) else none
     else
     bif Nat.beq f 83 then (some Tryz.f83) else none
    else
     bif Nat.blt f 85 then
     bif Nat.beq f 84 then (some Tryz.f84) else none
     else
     bif Nat.beq f 85 then (some Tryz.f85) else none
   else
   bif Nat.blt f 94 then
    bif Nat.blt f 90 then
    bif Nat.blt f 88 then
     bif Nat.blt f 87 then
     bif Nat.beq f 86 then (some Tryz.f86) else none
     else
     bif Nat.beq f 87 then (some Tryz.f87) else none
    else
     bif Nat.blt f 89 then
     bif Nat.beq f 88 then (some Tryz.f88) else none
     else
     bif Nat.beq f 89 then (some Tryz.f89) else none
    else
    bif Nat.blt f 92 then
     bif Nat.blt f 91 then
     bif Nat.beq f 90 then (some Tryz.f90) else none
     else
     bif Nat.beq f 91 then (some Tryz.f91) else none
    else
     bif Nat.blt f 93 then
     bif Nat.beq f 92 then (some Tryz.f92) else none
     else
     bif Nat.beq f 93 then (some Tryz.f93) else none
   else
    bif Nat.blt f 98 then
    bif Nat.blt f 96 then
     bif Nat.blt f 95 then
     bif Nat.beq f 94 then (some Tryz.f94) else none
     else
     bif Nat.beq f 95 then (some Tryz.f95) else none
    else
     bif Nat.blt f 97 then
     bif Nat.beq f 96 then (some Tryz.f96) else none
     else
     bif Nat.beq f 97 then (some Tryz.f97) else none
    else
    bif Nat.blt f 100 then
     bif Nat.blt f 99 then
     bif Nat.beq f 98 then (some Tryz.f98) else none
     else
     bif Nat.beq f 99 then (some Tryz.f99) else none
    else
     bif Nat.blt f 101 then
     bif Nat.beq f 100 then (some Tryz.f100) else none
     else
     bif Nat.blt f 102 then
      bif Nat.beq f 101 then (some Tryz.f101) else none
     else
      bif Nat.beq f 102 then (some Tryz.f102) else none
  else
   bif Nat.blt f 120 then
   bif Nat.blt f 111 then
    bif Nat.blt f 107 then
    bif Nat.blt f 105 then
     bif Nat.blt f 104 then
     bif Nat.beq f 103 then (some Tryz.f103) else none
     else
     bif Nat.beq f 104 then (some Tryz.f104) else none
    else
     bif Nat.blt f 106 then
     bif Nat.beq f 105 then (some Tryz.f105) else none
     else
     bif Nat.beq f 106 then (some Tryz.f106) else none
    else
    bif Nat.blt f 109 then
     bif Nat.blt f 108 then
     bif Nat.beq f 107 then (some Tryz.f107) else none
     else
     bif Nat.beq f 108 then (some Tryz.f108) else none
    else
     bif Nat.blt f 110 then
     bif Nat.beq f 109 then (some Tryz.f109) else none
     else
     bif Nat.beq f 110 then (some Tryz.f110) else none
   else
    bif Nat.blt f 115 then
    bif Nat.blt f 113 then
     bif Nat.blt f 112 then
     bif Nat.beq f 111 then (some Tryz.f111) else none
     else
     bif Nat.beq f 112 then (some Tryz.f112) else none
    else
     bif Nat.blt f 114 then
     bif Nat.beq f 113 then (some Tryz.f113) else none
     else
     bif Nat.beq f 114 then (some Tryz.f114) else none
    else
    bif Nat.blt f 117 then
     bif Nat.blt f 116 then
     bif Nat.beq f 115 then (some Tryz.f115) else none
     else
     bif Nat.beq f 116 then (some Tryz.f116) else none
    else
     bif Nat.blt f 118 then
     bif Nat.beq f 117 then (some Tryz.f117) else none
     else
     bif Nat.blt f 119 then
      bif Nat.beq f 118 then (some Tryz.f118) else none
     else
      bif Nat.beq f 119 then (some Tryz.f119) else none
   else
   bif Nat.blt f 128 then
    bif Nat.blt f 124 then
    bif Nat.blt f 122 then
     bif Nat.blt f 121 then
     bif Nat.beq f 120 then (some Tryz.f120) else none
     else
     bif Nat.beq f 121 then (some Tryz.f121) else none
    else
     bif Nat.blt f 123 then
     bif Nat.beq f 122 then (some Tryz.f122) else none
     else
     bif Nat.beq f 123 then (some Tryz.f123) else none
    else
    bif Nat.blt f 126 then
     bif Nat.blt f 125 then
     bif Nat.beq f 124 then (some Tryz.f124) else none
     else
     bif Nat.beq f 125 then (some Tryz.f125) else none
    else
     bif Nat.blt f 127 then
     bif Nat.beq f 126 then (some Tryz.f126) else none
     else
     bif Nat.beq f 127 then (some Tryz.f127) else none
   else
    bif Nat.blt f 133 then
    bif Nat.blt f 131 then
     bif Nat.blt f 130 then
     bif Nat.beq f 128 then (some Tryz.f128) else none
     else
     bif Nat.beq f 130 then (some Tryz.f130) else none
    else
     bif Nat.blt f 132 then
     bif Nat.beq f 131 then (some Tryz.f131) else none
     else
     bif Nat.beq f 132 then (some Tryz.f132) else none
    else
    bif Nat.blt f 135 then
     bif Nat.blt f 134 then
     bif Nat.beq f 133 then (some Tryz.f133) else none
     else
     bif Nat.beq f 134 then (some Tryz.f134) else none
    else
     bif Nat.blt f 136 then
     bif Nat.beq f 135 then (some Tryz.f135) else none
     else
     bif Nat.blt f 137 then
      bif Nat.beq f 136 then (some Tryz.f136) else none
     else
      bif Nat.beq f 137 then (some Tryz.f137) else none
 else
  bif Nat.blt f 205 then
  bif Nat.blt f 171 then
   bif Nat.blt f 154 then
   bif Nat.blt f 146 then
    bif Nat.blt f 142 then
    bif Nat.blt f 140 then
     bif Nat.blt f 139 then
     bif Nat.beq f 138 then (some Tryz.f138) else none
     else
     bif Nat.beq f 139 then (some Tryz.f139) else none
    else
     bif Nat.blt f 141 then
     bif Nat.beq f 140 then (some Tryz.f140) else none
     else
     bif Nat.beq f 141 then (some Tryz.f141) else none
    else
    bif Nat.blt f 144 then
     bif Nat.blt f 143 then
     bif Nat.beq f 142 then (some Tryz.f142) else none
     else
     bif Nat.beq f 143 then (some Tryz.f143) else none
    else
     bif Nat.blt f 145 then
     bif Nat.beq f 144 then (some Tryz.f144) else none
     else
     bif Nat.beq f 145 then (some Tryz.f145) else none
   else
    bif Nat.blt f 150 then
    bif Nat.blt f 148 then
     bif Nat.blt f 147 then
     bif Nat.beq f 146 then (some Tryz.f146) else none
     else
     bif Nat.beq f 147 then (some Tryz.f147) else none
    else
     bif Nat.blt f 149 then
     bif Nat.beq f 148 then (some Tryz.f148) else none
     else
     bif Nat.beq f 149 then (some Tryz.f149) else none
    else
    bif Nat.blt f 152 then
     bif Nat.blt f 151 then
     bif Nat.beq f 150 then (some Tryz.f150) else none
     else
     bif Nat.beq f 151 then (some Tryz.f151) else none
    else
     bif Nat.blt f 153 then
     bif Nat.beq f 152 then (some Tryz.f152) else none
     else
     bif Nat.beq f 153 then (some Tryz.f153) else none
   else
   bif Nat.blt f 162 then
    bif Nat.blt f 158 then
    bif Nat.blt f 156 then
     bif Nat.blt f 155 then
     bif Nat.beq f 154 then (some Tryz.f154) else none
     else
     bif Nat.beq f 155 then (some Tryz.f155) else none
    else
     bif Nat.blt f 157 then
     bif Nat.beq f 156 then (some Tryz.f156) else none
     else
     bif Nat.beq f 157 then (some Tryz.f157) else none
    else
    bif Nat.blt f 160 then
     bif Nat.blt f 159 then
     bif Nat.beq f 158 then (some Tryz.f158) else none
     else
     bif Nat.beq f 159 then (some Tryz.f159) else none
    else
     bif Nat.blt f 161 then
     bif Nat.beq f 160 then (some Tryz.f160) else none
     else
     bif Nat.beq f 161 then (some Tryz.f161) else none
   else
    bif Nat.blt f 166 then
    bif Nat.blt f 164 then
     bif Nat.blt f 163 then
     bif Nat.beq f 162 then (some Tryz.f162) else none
     else
     bif Nat.beq f 163 then (some Tryz.f163) else none
    else
     bif Nat.blt f 165 then
     bif Nat.beq f 164 then (some Tryz.f164) else none
     else
     bif Nat.beq f 165 then (some Tryz.f165) else none
    else
    bif Nat.blt f 168 then
     bif Nat.blt f 167 then
     bif Nat.beq f 166 then (some Tryz.f166) else none
     else
     bif Nat.beq f 167 then (some Tryz.f167) else none
    else
     bif Nat.blt f 169 then
     bif Nat.beq f 168 then (some Tryz.f168) else none
     else
     bif Nat.blt f 170 then
      bif Nat.beq f 169 then (some Tryz.f169) else none
     else
      bif Nat.beq f 170 then (some Tryz.f170) else none
  else
   bif Nat.blt f 188 then
   bif Nat.blt f 179 then
    bif Nat.blt f 175 then
    bif Nat.blt f 173 then
     bif Nat.blt f 172 then
     bif Nat.beq f 171 then (some Tryz.f171) else none
     else
     bif Nat.beq f 172 then (some Tryz.f172) else none
    else
     bif Nat.blt f 174 then
     bif Nat.beq f 173 then (some Tryz.f173) else none
     else
     bif Nat.beq f 174 then (some Tryz.f174) else none
    else
    bif Nat.blt f 177 then
     bif Nat.blt f 176 then
     bif Nat.beq f 175 then (some Tryz.f175) else none
     else
     bif Nat.beq f 176 then (some Tryz.f176) else none
    else
     bif Nat.blt f 178 then
     bif Nat.beq f 177 then (some Tryz.f177) else none
     else
     bif Nat.beq f 178 then (some Tryz.f178) else none
   else
    bif Nat.blt f 183 then
    bif Nat.blt f 181 then
     bif Nat.blt f 180 then
     bif Nat.beq f 179 then (some Tryz.f179) else none
     else
     bif Nat.beq f 180 then (some Tryz.f180) else none
    else
     bif Nat.blt f 182 then
     bif Nat.beq f 181 then (some Tryz.f181) else none
     else
     bif Nat.beq f 182 then (some Tryz.f182) else none
    else
    bif Nat.blt f 185 then
     bif Nat.blt f 184 then
     bif Nat.beq f 183 then (some Tryz.f183) else none
     else
     bif Nat.beq f 184 then (some Tryz.f184) else none
    else
     bif Nat.blt f 186 then
     bif Nat.beq f 185 then (some Tryz.f185) else none
     else
     bif Nat.blt f 187 then
      bif Nat.beq f 186 then (some Tryz.f186) else none
     else
      bif Nat.beq f 187 then (some Tryz.f187) else none
   else
   bif Nat.blt f 196 then
    bif Nat.blt f 192 then
    bif Nat.blt f 190 then
     bif Nat.blt f 189 then
     bif Nat.beq f 188 then (some Tryz.f188) else none
     else
     bif Nat.beq f 189 then (some Tryz.f189) else none
    else
     bif Nat.blt f 191 then
     bif Nat.beq f 190 then (some Tryz.f190) else none
     else
     bif Nat.beq f 191 then (some Tryz.f191) else none
    else
    bif Nat.blt f 194 then
     bif Nat.blt f 193 then
     bif Nat.beq f 192 then (some Tryz.f192) else none
     else
     bif Nat.beq f 193 then (some Tryz.f193) else none
    else
     bif Nat.blt f 195 then
     bif Nat.beq f 194 then (some Tryz.f194) else none
     else
     bif Nat.beq f 195 then (some Tryz.f195) else none
   else
    bif Nat.blt f 200 then
    bif Nat.blt f 198 then
     bif Nat.blt f 197 then
     bif Nat.beq f 196 then (some Tryz.f196) else none
     else
     bif Nat.beq f 197 then (some Tryz.f197) else none
    else
     bif Nat.blt f 199 then
     bif Nat.beq f 198 then (some Tryz.f198) else none
     else
     bif Nat.beq f 199 then (some Tryz.f199) else none
    else
    bif Nat.blt f 202 then
     bif Nat.blt f 201 then
     bif Nat.beq f 200 then (some Tryz.f200) else none
     else
     bif Nat.beq f 201 then (some Tryz.f201) else none
    else
     bif Nat.blt f 203 then
     bif Nat.beq f 202 then (some Tryz.f202) else none
     else
     bif Nat.blt f 204 then
      bif Nat.beq f 203 then (some Tryz.f203) else none
     else
      bif Nat.beq f 204 then (some Tryz.f204) else none
  else
  bif Nat.blt f 238 then
   bif Nat.blt f 221 then
   bif Nat.blt f 213 then
    bif Nat.blt f 209 then
    bif Nat.blt f 207 then
     bif Nat.blt f 206 then
     bif Nat.beq f 205 then (some Tryz.f205) else none
     else
     bif Nat.beq f 206 then (some Tryz.f206) else none
    else
     bif Nat.blt f 208 then
     bif Nat.beq f 207 then (some Tryz.f207) else none
     else
     bif Nat.beq f 208 then (some Tryz.f208) else none
    else
    bif Nat.blt f 211 then
     bif Nat.blt f 210 then
     bif Nat.beq f 209 then (some Tryz.f209) else none
     else
     bif Nat.beq f 210 then (some Tryz.f210) else none
    else
     bif Nat.blt f 212 then
     bif Nat.beq f 211 then (some Tryz.f211) else none
     else
     bif Nat.beq f 212 then (some Tryz.f212) else none
   else
    bif Nat.blt f 217 then
    bif Nat.blt f 215 then
     bif Nat.blt f 214 then
     bif Nat.beq f 213 then (some Tryz.f213) else none
     else
     bif Nat.beq f 214 then (some Tryz.f214) else none
    else
     bif Nat.blt f 216 then
     bif Nat.beq f 215 then (some Tryz.f215) else none
     else
     bif Nat.beq f 216 then (some Tryz.f216) else none
    else
    bif Nat.blt f 219 then
     bif Nat.blt f 218 then
     bif Nat.beq f 217 then (some Tryz.f217) else none
     else
     bif Nat.beq f 218 then (some Tryz.f218) else none
    else
     bif Nat.blt f 220 then
     bif Nat.beq f 219 then (some Tryz.f219) else none
     else
     bif Nat.beq f 220 then (some Tryz.f220) else none
   else
   bif Nat.blt f 229 then
    bif Nat.blt f 225 then
    bif Nat.blt f 223 then
     bif Nat.blt f 222 then
     bif Nat.beq f 221 then (some Tryz.f221) else none
     else
     bif Nat.beq f 222 then (some Tryz.f222) else none
    else
     bif Nat.blt f 224 then
     bif Nat.beq f 223 then (some Tryz.f223) else none
     else
     bif Nat.beq f 224 then (some Tryz.f224) else none
    else
    bif Nat.blt f 227 then
     bif Nat.blt f 226 then
     bif Nat.beq f 225 then (some Tryz.f225) else none
     else
     bif Nat.beq f 226 then (some Tryz.f226) else none
    else
     bif Nat.blt f 228 then
     bif Nat.beq f 227 then (some Tryz.f227) else none
     else
     bif Nat.beq f 228 then (some Tryz.f228) else none
   else
    bif Nat.blt f 233 then
    bif Nat.blt f 231 then
     bif Nat.blt f 230 then
     bif Nat.beq f 229 then (some Tryz.f229) else none
     else
     bif Nat.beq f 230 then (some Tryz.f230) else none
    else
     bif Nat.blt f 232 then
     bif Nat.beq f 231 then (some Tryz.f231) else none
     else
     bif Nat.beq f 232 then (some Tryz.f232) else none
    else
    bif Nat.blt f 235 then
     bif Nat.blt f 234 then
     bif Nat.beq f 233 then (some Tryz.f233) else none
     else
     bif Nat.beq f 234 then (some Tryz.f234) else none
    else
     bif Nat.blt f 236 then
     bif Nat.beq f 235 then (some Tryz.f235) else none
     else
     bif Nat.blt f 237 then
      bif Nat.beq f 236 then (some Tryz.f236) else none
     else
      bif Nat.beq f 237 then (some Tryz.f237) else none
  else
   bif Nat.blt f 256 then
   bif Nat.blt f 246 then
    bif Nat.blt f 242 then
    bif Nat.blt f 240 then
     bif Nat.blt f 239 then
     bif Nat.beq f 238 then (some Tryz.f238) else none
     else
     bif Nat.beq f 239 then (some Tryz.f239) else none
    else
     bif Nat.blt f 241 then
     bif Nat.beq f 240 then (some Tryz.f240) else none
     else
     bif Nat.beq f 241 then (some Tryz.f241) else none
    else
    bif Nat.blt f 244 then
     bif Nat.blt f 243 then
     bif Nat.beq f 242 then (some Tryz.f242) else none
     else
     bif Nat.beq f 243 then (some Tryz.f243) else none
    else
     bif Nat.blt f 245 then
     bif Nat.beq f 244 then (some Tryz.f244) else none
     else
     bif Nat.beq f 245 then (some Tryz.f245) else none
   else
    bif Nat.blt f 251 then
    bif Nat.blt f 248 then
     bif Nat.blt f 247 then
     bif Nat.beq f 246 then (some Tryz.f246) else none
     else
     bif Nat.beq f 247 then (some Tryz.f247) else none
    else
     bif Nat.blt f 249 then
     bif Nat.beq f 248 then (some Tryz.f248) else none
     else
     bif Nat.beq f 249 then (some Tryz.f249) else none
    else
    bif Nat.blt f 253 then
     bif Nat.blt f 252 then
     bif Nat.beq f 251 then (some Tryz.f251) else none
     else
     bif Nat.beq f 252 then (some Tryz.f252) else none
    else
     bif Nat.blt f 254 then
     bif Nat.beq f 253 then (some Tryz.f253) else none
     else
     bif Nat.blt f 255 then
      bif Nat.beq f 254 then (some Tryz.f254) else none
     else
      bif Nat.beq f 255 then (some Tryz.f255) else none
   else
   bif Nat.blt f 264 then
    bif Nat.blt f 260 then
    bif Nat.blt f 258 then
     bif Nat.blt f 257 then
     bif Nat.beq f 256 then (some Tryz.f256) else none
     else
     bif Nat.beq f 257 then (some Tryz.f257) else none
    else
     bif Nat.blt f 259 then
     bif Nat.beq f 258 then (some Tryz.f258) else none
     else
     bif Nat.beq f 259 then (some Tryz.f259) else none
    else
    bif Nat.blt f 262 then
     bif Nat.blt f 261 then
     bif Nat.beq f 260 then (some Tryz.f260) else none
     else
     bif Nat.beq f 261 then (some Tryz.f261) else none
    else
     bif Nat.blt f 263 then
     bif Nat.beq f 262 then (some Tryz.f262) else none
     else
     bif Nat.beq f 263 then (some Tryz.f263) else none
   else
    bif Nat.blt f 268 then
    bif Nat.blt f 266 then
     bif Nat.blt f 265 then
     bif Nat.beq f 264 then (some Tryz.f264) else none
     else
     bif Nat.beq f 265 then (some Tryz.f265) else none
    else
     bif Nat.blt f 267 then
     bif Nat.beq f 266 then (some Tryz.f266) else none
     else
     bif Nat.beq f 267 then (some Tryz.f267) else none
    else
    bif Nat.blt f 270 then
     bif Nat.blt f 269 then
     bif Nat.beq f 268 then (some Tryz.f268) else none
     else
     bif Nat.beq f 269 then (some Tryz.f269) else none
    else
     bif Nat.blt f 271 then
     bif Nat.beq f 270 then (some Tryz.f270) else none
     else
     bif Nat.blt f 272 then
      bif Nat.beq f 271 then (some Tryz.f271) else none
     else
      bif Nat.beq f 272 then (some Tryz.f272) else none
noncomputable def keep (f b:Nat):List (Nat × List (Nat × Nat × Bool)):=
 bif Nat.blt f 128 then
  bif Nat.blt f 51 then
  bif Nat.blt f 30 then
   bif Nat.blt f 19 then
   bif Nat.blt f 13 then
    bif Nat.blt f 10 then
    bif Nat.beq f 7 then (bif Nat.beq b 0 then [(2,[]),(5,[]),(7,[]),(8,[])] else []) else []
    else
    bif Nat.blt f 12 then
     bif Nat.beq f 10 then (bif Nat.beq b 0 then [(1,[]),(2,[]),(3,[]),(7,[]),(9,[]),(30,[]),(31,[])] else bif Nat.beq b 2 then [(1,[]),(3,[]),(7,[]),(9,[]),(38,[]),(39,[]),(40,[])] else bif Nat.beq b 4 then [(1,[]),(3,[]),(7,[]),(9,[]),(12,[]),(38,[]),(39,[]),(40,[]),(67,[]),(68,[]),(69,[])] else bif Nat.beq b 6 then [(1,[]),(3,[]),(7,[]),(9,[]),(12,[]),(38,[]),(39,[]),(40,[]),(115,[]),(116,[])] else bif Nat.beq b 8 then [(1,[]),(3,[]),(7,[]),(9,[]),(38,[]),(39,[]),(40,[]),(135,[]),(136,[]),(137,[])] else []) else []
    else
     bif Nat.beq f 12 then (bif Nat.beq b 0 then [(2,[]),(3,[]),(7,[]),(9,[]),(10,[]),(11,[])] else bif Nat.beq b 2 then [(2,[]),(3,[]),(7,[]),(9,[]),(10,[]),(12,[])] else bif Nat.beq b 4 then [(2,[]),(3,[]),(7,[]),(9,[]),(10,[]),(12,[]),(13,[])] else []) else []
   else
    bif Nat.blt f 16 then
    bif Nat.blt f 15 then
     bif Nat.beq f 13 then (bif Nat.beq b 0 then [(1,[]),(3,[]),(4,[])] else bif Nat.beq b 2 then [(1,[]),(3,[]),(4,[]),(5,[])] else bif Nat.beq b 4 then [(1,[]),(3,[]),(4,[]),(5,[]),(6,[]),(7,[])] else bif Nat.beq b 6 then [(1,[]),(8,[])] else []) else []
    else
     bif Nat.beq f 15 then (bif Nat.beq b 0 then [(3,[]),(5,[]),(10,[(0,1,false)]),(27,[]),(28,[]),(29,[])] else []) else []
    else
    bif Nat.blt f 17 then
     bif Nat.beq f 16 then (bif Nat.beq b 0 then [(1,[]),(3,[]),(5,[]),(9,[(0,1,false)]),(10,[])] else []) else []
    else
     bif Nat.beq f 17 then (bif Nat.beq b 0 then [(0,[]),(1,[]),(12,[]),(13,[])] else []) else []
   else
   bif Nat.blt f 25 then
    bif Nat.blt f 21 then
    bif Nat.beq f 19 then (bif Nat.beq b 0 then [(8,[]),(9,[]),(10,[])] else []) else []
    else
    bif Nat.blt f 22 then
     bif Nat.beq f 21 then (bif Nat.beq b 0 then [(9,[]),(10,[(0,1,false)]),(11,[])] else []) else []
    else
     bif Nat.beq f 22 then (bif Nat.beq b 0 then [(0,[]),(1,[]),(5,[])] else []) else []
   else
    bif Nat.blt f 27 then
    bif Nat.blt f 26 then
     bif Nat.beq f 25 then (bif Nat.beq b 0 then [(0,[]),(3,[])] else []) else []
    else
     bif Nat.beq f 26 then (bif Nat.beq b 0 then [(1,[]),(2,[]),(8,[(0,1,false)]),(9,[])] else []) else []
    else
    bif Nat.blt f 29 then
     bif Nat.beq f 27 then (bif Nat.beq b 0 then [(0,[]),(1,[]),(2,[]),(7,[(0,1,false)]),(8,[])] else bif Nat.beq b 2 then [(0,[]),(1,[]),(2,[]),(7,[]),(8,[]),(9,[]),(10,[])] else []) else []
    else
     bif Nat.beq f 29 then (bif Nat.beq b 0 then [(0,[]),(1,[]),(7,[]),(8,[])] else []) else []
  else
   bif Nat.blt f 40 then
   bif Nat.blt f 36 then
    bif Nat.blt f 33 then
    bif Nat.beq f 30 then (bif Nat.beq b 0 then [(2,[]),(8,[(0,1,false)]),(26,[]),(27,[]),(28,[])] else []) else []
    else
    bif Nat.blt f 35 then
     bif Nat.beq f 33 then (bif Nat.beq b 0 then [(1,[]),(5,[]),(8,[]),(9,[]),(10,[])] else []) else []
    else
     bif Nat.beq f 35 then (bif Nat.beq b 0 then [(0,[]),(1,[]),(3,[]),(6,[]),(9,[])] else bif Nat.beq b 2 then [(6,[]),(10,[]),(12,[])] else []) else []
   else
    bif Nat.blt f 38 then
    bif Nat.blt f 37 then
     bif Nat.beq f 36 then (bif Nat.beq b 0 then [(3,[]),(4,[]),(7,[(0,4,false)]),(20,[]),(21,[]),(22,[])] else bif Nat.beq b 2 then [(3,[]),(4,[]),(7,[(1,4,false)]),(34,[]),(35,[]),(36,[])] else []) else []
    else
     bif Nat.beq f 37 then (bif Nat.beq b 0 then [(1,[]),(3,[]),(5,[]),(10,[]),(37,[]),(38,[]),(39,[])] else bif Nat.beq b 2 then [(1,[]),(3,[]),(10,[]),(51,[]),(52,[]),(53,[])] else []) else []
    else
    bif Nat.blt f 39 then
     bif Nat.beq f 38 then (bif Nat.beq b 0 then [(2,[]),(3,[]),(8,[])] else bif Nat.beq b 2 then [(2,[]),(3,[]),(9,[])] else []) else []
    else
     bif Nat.beq f 39 then (bif Nat.beq b 0 then [(1,[]),(5,[]),(9,[]),(10,[]),(11,[])] else bif Nat.beq b 2 then [(1,[]),(5,[]),(9,[]),(10,[]),(12,[])] else []) else []
   else
   bif Nat.blt f 45 then
    bif Nat.blt f 42 then
    bif Nat.blt f 41 then
     bif Nat.beq f 40 then (bif Nat.beq b 0 then [(2,[]),(7,[]),(9,[(0,1,false)]),(31,[]),(32,[])] else bif Nat.beq b 2 then [(2,[]),(7,[]),(9,[(0,1,false)]),(11,[(0,2,false)])] else bif Nat.beq b 4 then [(2,[]),(7,[]),(9,[]),(11,[]),(12,[]),(13,[]),(54,[]),(55,[]),(56,[])] else bif Nat.beq b 6 then [(2,[]),(7,[]),(9,[]),(11,[]),(13,[]),(74,[]),(75,[])] else bif Nat.beq b 8 then [(2,[]),(7,[]),(11,[]),(13,[]),(17,[(0,1,false)]),(18,[(0,1,false)]),(103,[]),(104,[]),(105,[])] else []) else []
    else
     bif Nat.beq f 41 then (bif Nat.beq b 0 then [(0,[]),(1,[]),(6,[]),(7,[]),(8,[])] else bif Nat.beq b 2 then [(0,[]),(1,[]),(6,[]),(7,[]),(9,[(0,2,false)])] else bif Nat.beq b 4 then [(0,[]),(1,[]),(6,[]),(7,[]),(9,[]),(10,[]),(11,[])] else []) else []
    else
    bif Nat.blt f 44 then
     bif Nat.beq f 42 then (bif Nat.beq b 0 then [(0,[]),(1,[]),(5,[])] else []) else []
    else
     bif Nat.beq f 44 then (bif Nat.beq b 0 then [(1,[]),(4,[])] else bif Nat.beq b 2 then [(1,[]),(6,[])] else []) else []
   else
    bif Nat.blt f 49 then
    bif Nat.blt f 46 then
     bif Nat.beq f 45 then (bif Nat.beq b 0 then [(2,[]),(3,[]),(9,[]),(10,[]),(11,[]),(13,[])] else bif Nat.beq b 2 then [(2,[]),(3,[]),(9,[]),(11,[]),(15,[])] else bif Nat.beq b 4 then [(2,[]),(3,[]),(9,[]),(10,[]),(11,[]),(16,[])] else bif Nat.beq b 6 then [(2,[]),(3,[]),(9,[]),(11,[]),(17,[])] else []) else []
    else
     bif Nat.beq f 46 then (bif Nat.beq b 0 then [(0,[]),(1,[]),(5,[(0,1,false)]),(6,[])] else bif Nat.beq b 2 then [(0,[]),(1,[]),(5,[]),(6,[]),(7,[]),(8,[])] else []) else []
    else
    bif Nat.blt f 50 then
     bif Nat.beq f 49 then (bif Nat.beq b 0 then [(0,[]),(1,[]),(7,[]),(8,[])] else []) else []
    else
     bif Nat.beq f 50 then (bif Nat.beq b 0 then [(0,[]),(1,[]),(7,[]),(8,[])] else []) else []
  else
  bif Nat.blt f 79 then
   bif Nat.blt f 63 then
   bif Nat.blt f 55 then
    bif Nat.blt f 52 then
    bif Nat.beq f 51 then (bif Nat.beq b 0 then [(0,[]),(1,[]),(2,[]),(8,[(0,1,false)]),(9,[])] else []) else []
    else
    bif Nat.blt f 53 then
     bif Nat.beq f 52 then (bif Nat.beq b 0 then [(0,[]),(1,[]),(5,[])] else []) else []
    else
     bif Nat.beq f 53 then (bif Nat.beq b 0 then [(2,[]),(3,[]),(26,[]),(27,[]),(28,[])] else bif Nat.beq b 2 then [(2,[]),(3,[]),(39,[]),(40,[]),(41,[])] else []) else []
   else
    bif Nat.blt f 59 then
    bif Nat.blt f 57 then
     bif Nat.beq f 55 then (bif Nat.beq b 0 then [(2,[]),(3,[]),(26,[]),(27,[]),(28,[])] else bif Nat.beq b 2 then [(2,[]),(3,[]),(39,[]),(40,[]),(41,[])] else []) else []
    else
     bif Nat.beq f 57 then (bif Nat.beq b 0 then [(1,[]),(3,[])] else bif Nat.beq b 2 then [(1,[]),(4,[])] else []) else []
    else
    bif Nat.blt f 62 then
     bif Nat.beq f 59 then (bif Nat.beq b 0 then [(0,[]),(1,[]),(5,[])] else []) else []
    else
     bif Nat.beq f 62 then (bif Nat.beq b 0 then [(0,[]),(1,[]),(16,[])] else bif Nat.beq b 2 then [(0,[]),(5,[]),(68,[]),(69,[]),(70,[])] else []) else []
   else
   bif Nat.blt f 74 then
    bif Nat.blt f 69 then
    bif Nat.blt f 68 then
     bif Nat.beq f 63 then (bif Nat.beq b 0 then [(0,[]),(1,[]),(6,[(0,1,false),(1,1,false)]),(7,[(0,1,false),(1,1,false)]),(8,[]),(9,[])] else []) else []
    else
     bif Nat.beq f 68 then (bif Nat.beq b 0 then [(1,[]),(2,[]),(5,[]),(6,[])] else bif Nat.beq b 2 then [(7,[]),(8,[])] else bif Nat.beq b 4 then [(7,[]),(8,[]),(9,[])] else []) else []
    else
    bif Nat.blt f 72 then
     bif Nat.beq f 69 then (bif Nat.beq b 0 then [(1,[]),(2,[]),(5,[]),(6,[])] else []) else []
    else
     bif Nat.beq f 72 then (bif Nat.beq b 0 then [(1,[]),(2,[]),(5,[])] else []) else []
   else
    bif Nat.blt f 76 then
    bif Nat.blt f 75 then
     bif Nat.beq f 74 then (bif Nat.beq b 0 then [(2,[]),(9,[(0,1,false)]),(27,[]),(28,[]),(29,[])] else bif Nat.beq b 2 then [(9,[]),(14,[(0,1,false)]),(53,[]),(54,[])] else []) else []
    else
     bif Nat.beq f 75 then (bif Nat.beq b 0 then [(6,[]),(7,[]),(14,[]),(15,[])] else []) else []
    else
    bif Nat.blt f 78 then
     bif Nat.beq f 76 then (bif Nat.beq b 0 then [(0,[]),(2,[]),(3,[]),(8,[]),(9,[]),(10,[])] else []) else []
    else
     bif Nat.beq f 78 then (bif Nat.beq b 1 then [(1,[]),(27,[]),(28,[]),(29,[])] else bif Nat.beq b 3 then [(1,[]),(44,[]),(45,[]),(46,[])] else []) else []
  else
   bif Nat.blt f 104 then
   bif Nat.blt f 94 then
    bif Nat.blt f 80 then
    bif Nat.beq f 79 then (bif Nat.beq b 0 then [(2,[]),(3,[]),(7,[]),(9,[]),(10,[]),(11,[]),(51,[]),(52,[]),(53,[])] else bif Nat.beq b 2 then [(2,[]),(3,[]),(9,[]),(10,[]),(11,[]),(80,[]),(81,[]),(82,[])] else bif Nat.beq b 4 then [(2,[]),(3,[]),(10,[]),(11,[]),(104,[]),(105,[]),(106,[])] else bif Nat.beq b 6 then [(2,[]),(3,[]),(11,[]),(123,[]),(124,[]),(125,[])] else []) else []
    else
    bif Nat.blt f 84 then
     bif Nat.beq f 80 then (bif Nat.beq b 0 then [(0,[]),(1,[]),(5,[]),(6,[])] else []) else []
    else
     bif Nat.beq f 84 then (bif Nat.beq b 0 then [(0,[]),(2,[]),(4,[]),(8,[]),(9,[]),(10,[])] else []) else []
   else
    bif Nat.blt f 97 then
    bif Nat.blt f 96 then
     bif Nat.beq f 94 then (bif Nat.beq b 0 then [(0,[]),(1,[]),(7,[]),(8,[])] else []) else []
    else
     bif Nat.beq f 96 then (bif Nat.beq b 0 then [(0,[]),(3,[]),(4,[])] else []) else []
    else
    bif Nat.blt f 99 then
     bif Nat.beq f 97 then (bif Nat.beq b 0 then [(0,[]),(1,[]),(5,[])] else []) else []
    else
     bif Nat.beq f 99 then (bif Nat.beq b 0 then [(1,[]),(2,[]),(5,[])] else []) else []
   else
   bif Nat.blt f 113 then
    bif Nat.blt f 107 then
    bif Nat.blt f 105 then
     bif Nat.beq f 104 then (bif Nat.beq b 0 then [(2,[]),(3,[]),(8,[])] else bif Nat.beq b 2 then [(3,[]),(13,[])] else []) else []
    else
     bif Nat.beq f 105 then (bif Nat.beq b 0 then [(2,[]),(3,[]),(6,[])] else []) else []
    else
    bif Nat.blt f 109 then
     bif Nat.beq f 107 then (bif Nat.beq b 0 then [(0,[]),(3,[])] else bif Nat.beq b 2 then [(0,[]),(3,[]),(4,[])] else []) else []
    else
     bif Nat.beq f 109 then (bif Nat.beq b 0 then [(2,[]),(3,[]),(4,[]),(5,[]),(9,[])] else bif Nat.beq b 2 then [(3,[]),(4,[]),(5,[]),(10,[])] else []) else []
   else
    bif Nat.blt f 116 then
    bif Nat.blt f 115 then
     bif Nat.beq f 113 then (bif Nat.beq b 0 then [(0,[]),(1,[]),(4,[]),(5,[]),(9,[])] else []) else []
    else
     bif Nat.beq f 115 then (bif Nat.beq b 0 then [(0,[]),(1,[]),(5,[]),(8,[]),(9,[])] else []) else []
    else
    bif Nat.blt f 120 then
     bif Nat.beq f 116 then (bif Nat.beq b 1 then [(6,[]),(7,[])] else []) else []
    else
     bif Nat.beq f 120 then (bif Nat.beq b 0 then [(1,[]),(2,[]),(7,[(0,1,false)]),(18,[]),(19,[])] else []) else []
 else
  bif Nat.blt f 190 then
  bif Nat.blt f 166 then
   bif Nat.blt f 141 then
   bif Nat.blt f 136 then
    bif Nat.blt f 132 then
    bif Nat.beq f 128 then (bif Nat.beq b 0 then [(3,[]),(6,[]),(7,[]),(8,[])] else []) else []
    else
    bif Nat.blt f 133 then
     bif Nat.beq f 132 then (bif Nat.beq b 0 then [(0,[]),(3,[])] else bif Nat.beq b 2 then [(0,[]),(3,[]),(4,[])] else []) else []
    else
     bif Nat.beq f 133 then (bif Nat.beq b 0 then [(2,[]),(3,[]),(5,[])] else bif Nat.beq b 2 then [(2,[]),(3,[]),(6,[])] else []) else []
   else
    bif Nat.blt f 138 then
    bif Nat.blt f 137 then
     bif Nat.beq f 136 then (bif Nat.beq b 0 then [(0,[]),(1,[]),(5,[])] else []) else []
    else
     bif Nat.beq f 137 then (bif Nat.beq b 0 then [(1,[]),(2,[]),(5,[])] else []) else []
    else
    bif Nat.blt f 140 then
     bif Nat.beq f 138 then (bif Nat.beq b 0 then [(2,[]),(4,[]),(7,[]),(10,[])] else []) else []
    else
     bif Nat.beq f 140 then (bif Nat.beq b 0 then [(2,[]),(3,[]),(4,[]),(5,[]),(8,[(0,1,false)]),(9,[])] else bif Nat.beq b 2 then [(2,[]),(3,[]),(4,[]),(5,[]),(8,[(1,3,false)]),(10,[])] else []) else []
   else
   bif Nat.blt f 157 then
    bif Nat.blt f 142 then
    bif Nat.beq f 141 then (bif Nat.beq b 0 then [(3,[]),(4,[]),(5,[]),(9,[])] else bif Nat.beq b 2 then [(3,[]),(4,[]),(5,[]),(10,[])] else []) else []
    else
    bif Nat.blt f 144 then
     bif Nat.beq f 142 then (bif Nat.beq b 0 then [(0,[]),(1,[]),(5,[(0,1,false)]),(6,[])] else []) else []
    else
     bif Nat.beq f 144 then (bif Nat.beq b 0 then [(3,[]),(5,[]),(7,[]),(10,[])] else []) else []
   else
    bif Nat.blt f 163 then
    bif Nat.blt f 160 then
     bif Nat.beq f 157 then (bif Nat.beq b 0 then [(0,[]),(1,[]),(7,[]),(8,[])] else []) else []
    else
     bif Nat.beq f 160 then (bif Nat.beq b 0 then [(1,[]),(2,[]),(5,[(0,1,false)])] else []) else []
    else
    bif Nat.blt f 164 then
     bif Nat.beq f 163 then (bif Nat.beq b 0 then [(0,[]),(1,[]),(4,[]),(12,[]),(13,[])] else []) else []
    else
     bif Nat.beq f 164 then (bif Nat.beq b 0 then [(7,[(0,4,false)]),(8,[]),(9,[])] else []) else []
  else
   bif Nat.blt f 177 then
   bif Nat.blt f 169 then
    bif Nat.blt f 167 then
    bif Nat.beq f 166 then (bif Nat.beq b 0 then [(2,[]),(3,[]),(7,[])] else []) else []
    else
    bif Nat.blt f 168 then
     bif Nat.beq f 167 then (bif Nat.beq b 0 then [(0,[]),(1,[]),(5,[])] else []) else []
    else
     bif Nat.beq f 168 then (bif Nat.beq b 0 then [(0,[]),(1,[]),(5,[])] else []) else []
   else
    bif Nat.blt f 171 then
    bif Nat.blt f 170 then
     bif Nat.beq f 169 then (bif Nat.beq b 0 then [(1,[]),(3,[])] else []) else []
    else
     bif Nat.beq f 170 then (bif Nat.beq b 0 then [(1,[]),(4,[]),(5,[]),(6,[])] else []) else []
    else
    bif Nat.blt f 174 then
     bif Nat.beq f 171 then (bif Nat.beq b 0 then [(5,[]),(7,[]),(8,[])] else []) else []
    else
     bif Nat.beq f 174 then (bif Nat.beq b 0 then [(0,[]),(1,[]),(7,[]),(8,[])] else []) else []
   else
   bif Nat.blt f 184 then
    bif Nat.blt f 179 then
    bif Nat.blt f 178 then
     bif Nat.beq f 177 then (bif Nat.beq b 0 then [(0,[]),(8,[]),(9,[]),(10,[])] else []) else []
    else
     bif Nat.beq f 178 then (bif Nat.beq b 0 then [(0,[]),(1,[]),(7,[]),(8,[])] else []) else []
    else
    bif Nat.blt f 180 then
     bif Nat.beq f 179 then (bif Nat.beq b 0 then [(2,[]),(3,[]),(8,[]),(58,[]),(59,[]),(60,[])] else []) else []
    else
     bif Nat.beq f 180 then (bif Nat.beq b 1 then [(2,[]),(3,[]),(46,[]),(47,[])] else []) else []
   else
    bif Nat.blt f 186 then
    bif Nat.blt f 185 then
     bif Nat.beq f 184 then (bif Nat.beq b 0 then [(0,[]),(5,[(0,1,false)]),(7,[]),(8,[])] else []) else []
    else
     bif Nat.beq f 185 then (bif Nat.beq b 0 then [(0,[]),(1,[]),(7,[]),(8,[])] else []) else []
    else
    bif Nat.blt f 187 then
     bif Nat.beq f 186 then (bif Nat.beq b 0 then [(0,[]),(2,[]),(3,[])] else []) else []
    else
     bif Nat.beq f 187 then (bif Nat.beq b 0 then [(0,[]),(2,[]),(3,[])] else []) else []
  else
  bif Nat.blt f 235 then
   bif Nat.blt f 208 then
   bif Nat.blt f 195 then
    bif Nat.blt f 191 then
    bif Nat.beq f 190 then (bif Nat.beq b 0 then [(0,[]),(1,[]),(2,[]),(7,[])] else []) else []
    else
    bif Nat.blt f 194 then
     bif Nat.beq f 191 then (bif Nat.beq b 0 then [(0,[]),(1,[]),(5,[])] else []) else []
    else
     bif Nat.beq f 194 then (bif Nat.beq b 0 then [(0,[]),(1,[]),(5,[])] else []) else []
   else
    bif Nat.blt f 199 then
    bif Nat.blt f 197 then
     bif Nat.beq f 195 then (bif Nat.beq b 0 then [(0,[]),(1,[]),(5,[])] else []) else []
    else
     bif Nat.beq f 197 then (bif Nat.beq b 0 then [(1,[]),(2,[]),(5,[])] else []) else []
    else
    bif Nat.blt f 205 then
     bif Nat.beq f 199 then (bif Nat.beq b 0 then [(0,[]),(1,[]),(7,[]),(8,[])] else []) else []
    else
     bif Nat.beq f 205 then (bif Nat.beq b 0 then [(0,[]),(17,[]),(18,[]),(19,[])] else []) else []
   else
   bif Nat.blt f 223 then
    bif Nat.blt f 214 then
    bif Nat.blt f 209 then
     bif Nat.beq f 208 then (bif Nat.beq b 0 then [(2,[]),(3,[]),(4,[]),(5,[]),(8,[(0,1,false)]),(23,[]),(24,[]),(25,[])] else bif Nat.beq b 2 then [(2,[]),(3,[]),(4,[]),(5,[]),(8,[(1,3,false)]),(41,[]),(42,[]),(43,[])] else []) else []
    else
     bif Nat.beq f 209 then (bif Nat.beq b 0 then [(3,[]),(4,[]),(5,[]),(42,[]),(43,[]),(44,[])] else bif Nat.beq b 2 then [(3,[]),(4,[]),(5,[]),(71,[]),(72,[]),(73,[])] else []) else []
    else
    bif Nat.blt f 217 then
     bif Nat.beq f 214 then (bif Nat.beq b 0 then [(3,[]),(4,[]),(51,[]),(52,[]),(53,[])] else []) else []
    else
     bif Nat.beq f 217 then (bif Nat.beq b 0 then [(0,[]),(1,[]),(5,[])] else []) else []
   else
    bif Nat.blt f 231 then
    bif Nat.blt f 224 then
     bif Nat.beq f 223 then (bif Nat.beq b 0 then [(0,[]),(1,[]),(7,[]),(8,[])] else []) else []
    else
     bif Nat.beq f 224 then (bif Nat.beq b 0 then [(7,[]),(20,[]),(21,[])] else []) else []
    else
    bif Nat.blt f 234 then
     bif Nat.beq f 231 then (bif Nat.beq b 0 then [(0,[]),(1,[]),(6,[]),(7,[]),(8,[])] else []) else []
    else
     bif Nat.beq f 234 then (bif Nat.beq b 0 then [(1,[]),(4,[]),(5,[]),(11,[]),(12,[]),(13,[])] else []) else []
  else
   bif Nat.blt f 257 then
   bif Nat.blt f 245 then
    bif Nat.blt f 240 then
    bif Nat.beq f 235 then (bif Nat.beq b 0 then [(4,[]),(7,[]),(8,[])] else []) else []
    else
    bif Nat.blt f 241 then
     bif Nat.beq f 240 then (bif Nat.beq b 0 then [(0,[]),(1,[]),(7,[]),(8,[])] else []) else []
    else
     bif Nat.beq f 241 then (bif Nat.beq b 0 then [(2,[]),(3,[]),(28,[]),(29,[]),(30,[])] else []) else []
   else
    bif Nat.blt f 254 then
    bif Nat.blt f 251 then
     bif Nat.beq f 245 then (bif Nat.beq b 0 then [(0,[]),(3,[])] else bif Nat.beq b 2 then [(0,[]),(3,[]),(4,[]),(5,[])] else []) else []
    else
     bif Nat.beq f 251 then (bif Nat.beq b 0 then [(0,[]),(1,[]),(7,[]),(8,[]),(9,[])] else []) else []
    else
    bif Nat.blt f 256 then
     bif Nat.beq f 254 then (bif Nat.beq b 0 then [(0,[]),(1,[]),(2,[]),(3,[]),(8,[]),(9,[])] else []) else []
    else
     bif Nat.beq f 256 then (bif Nat.beq b 0 then [(0,[]),(1,[]),(7,[]),(8,[])] else []) else []
   else
   bif Nat.blt f 262 then
    bif Nat.blt f 259 then
    bif Nat.blt f 258 then
     bif Nat.beq f 257 then (bif Nat.beq b 0 then [(0,[]),(1,[]),(2,[]),(6,[])] else bif Nat.beq b 2 then [(0,[]),(1,[]),(2,[]),(6,[]),(7,[])] else []) else []
    else
     bif Nat.beq f 258 then (bif Nat.beq b 0 then [(0,[]),(6,[]),(7,[]),(8,[]),(9,[])] else bif Nat.beq b 2 then [(0,[]),(6,[]),(7,[]),(10,[])] else []) else []
    else
    bif Nat.blt f 261 then
     bif Nat.beq f 259 then (bif Nat.beq b 0 then [(0,[]),(1,[]),(6,[]),(7,[]),(8,[]),(9,[])] else []) else []
    else
     bif Nat.beq f 261 then (bif Nat.beq b 0 then [(0,[]),(6,[]),(7,[])] else []) else []
   else
    bif Nat.blt f 264 then
    bif Nat.blt f 263 then
     bif Nat.beq f 262 then (bif Nat.beq b 0 then [(0,[]),(1,[]),(2,[]),(7,[]),(8,[])] else bif Nat.beq b 2 then [(0,[]),(1,[]),(2,[]),(7,[]),(8,[])] else bif Nat.beq b 4 then [(0,[]),(1,[]),(2,[]),(7,[]),(8,[]),(9,[])] else bif Nat.beq b 6 then [(0,[]),(1,[]),(2,[]),(7,[]),(8,[]),(10,[])] else []) else []
    else
     bif Nat.beq f 263 then (bif Nat.beq b 0 then [(0,[]),(1,[]),(9,[]),(10,[])] else bif Nat.beq b 2 then [(0,[]),(1,[]),(9,[]),(10,[])] else bif Nat.beq b 4 then [(0,[]),(1,[]),(9,[]),(10,[])] else []) else []
    else
    bif Nat.blt f 267 then
     bif Nat.beq f 264 then (bif Nat.beq b 0 then [(0,[]),(1,[]),(10,[]),(11,[])] else bif Nat.beq b 2 then [(0,[]),(1,[]),(10,[]),(11,[])] else bif Nat.beq b 4 then [(0,[]),(1,[]),(10,[]),(11,[])] else bif Nat.beq b 6 then [(0,[]),(1,[]),(10,[]),(11,[])] else bif Nat.beq b 8 then [(0,[]),(1,[]),(10,[]),(11,[])] else []) else []
    else
     bif Nat.beq f 267 then (bif Nat.beq b 0 then [(0,[]),(2,[]),(3,[]),(8,[])] else []) else []
noncomputable def resK (f:Nat):List (Option Nat):=
 bif Nat.blt f 134 then
  bif Nat.blt f 68 then
  bif Nat.blt f 35 then
   bif Nat.blt f 19 then
   bif Nat.blt f 11 then
    bif Nat.blt f 7 then
    bif Nat.blt f 5 then
     bif Nat.blt f 4 then
     bif Nat.beq f 3 then [none] else []
     else
     bif Nat.beq f 4 then [none] else []
    else
     bif Nat.blt f 6 then
     bif Nat.beq f 5 then [none] else []
     else
     bif Nat.beq f 6 then [none] else []
    else
    bif Nat.blt f 9 then
     bif Nat.blt f 8 then
     bif Nat.beq f 7 then [none] else []
     else
     bif Nat.beq f 8 then [none] else []
    else
     bif Nat.blt f 10 then
     bif Nat.beq f 9 then [none] else []
     else
     bif Nat.beq f 10 then [none] else []
   else
    bif Nat.blt f 15 then
    bif Nat.blt f 13 then
     bif Nat.blt f 12 then
     bif Nat.beq f 11 then [some 2] else []
     else
     bif Nat.beq f 12 then [none] else []
    else
     bif Nat.blt f 14 then
     bif Nat.beq f 13 then [none] else []
     else
     bif Nat.beq f 14 then [none] else []
    else
    bif Nat.blt f 17 then
     bif Nat.blt f 16 then
     bif Nat.beq f 15 then [some 1,none] else []
     else
     bif Nat.beq f 16 then [some 1,none] else []
    else
     bif Nat.blt f 18 then
     bif Nat.beq f 17 then [none] else []
     else
     bif Nat.beq f 18 then [some 2,none] else []
   else
   bif Nat.blt f 27 then
    bif Nat.blt f 23 then
    bif Nat.blt f 21 then
     bif Nat.blt f 20 then
     bif Nat.beq f 19 then [some 2,none] else []
     else
     bif Nat.beq f 20 then [some 1,none] else []
    else
     bif Nat.blt f 22 then
     bif Nat.beq f 21 then [some 1,none] else []
     else
     bif Nat.beq f 22 then [none] else []
    else
    bif Nat.blt f 25 then
     bif Nat.blt f 24 then
     bif Nat.beq f 23 then [some 4,some 7] else []
     else
     bif Nat.beq f 24 then [some 25] else []
    else
     bif Nat.blt f 26 then
     bif Nat.beq f 25 then [none] else []
     else
     bif Nat.beq f 26 then [some 1,none] else []
   else
    bif Nat.blt f 31 then
    bif Nat.blt f 29 then
     bif Nat.blt f 28 then
     bif Nat.beq f 27 then [some 1] else []
     else
     bif Nat.beq f 28 then [none] else []
    else
     bif Nat.blt f 30 then
     bif Nat.beq f 29 then [none] else []
     else
     bif Nat.beq f 30 then [some 1,none] else []
    else
    bif Nat.blt f 33 then
     bif Nat.blt f 32 then
     bif Nat.beq f 31 then [none] else []
     else
     bif Nat.beq f 32 then [none] else []
    else
     bif Nat.blt f 34 then
     bif Nat.beq f 33 then [none] else []
     else
     bif Nat.beq f 34 then [none] else []
  else
   bif Nat.blt f 51 then
   bif Nat.blt f 43 then
    bif Nat.blt f 39 then
    bif Nat.blt f 37 then
     bif Nat.blt f 36 then
     bif Nat.beq f 35 then [none] else []
     else
     bif Nat.beq f 36 then [some 4,some 4,none] else []
    else
     bif Nat.blt f 38 then
     bif Nat.beq f 37 then [none,none] else []
     else
     bif Nat.beq f 38 then [none] else []
    else
    bif Nat.blt f 41 then
     bif Nat.blt f 40 then
     bif Nat.beq f 39 then [none,none] else []
     else
     bif Nat.beq f 40 then [some 2,some 1,none] else []
    else
     bif Nat.blt f 42 then
     bif Nat.beq f 41 then [some 2,some 1] else []
     else
     bif Nat.beq f 42 then [none] else []
   else
    bif Nat.blt f 47 then
    bif Nat.blt f 45 then
     bif Nat.blt f 44 then
     bif Nat.beq f 43 then [none] else []
     else
     bif Nat.beq f 44 then [none,none] else []
    else
     bif Nat.blt f 46 then
     bif Nat.beq f 45 then [some 1,none] else []
     else
     bif Nat.beq f 46 then [some 1] else []
    else
    bif Nat.blt f 49 then
     bif Nat.blt f 48 then
     bif Nat.beq f 47 then [some 1,none] else []
     else
     bif Nat.beq f 48 then [some 1,none] else []
    else
     bif Nat.blt f 50 then
     bif Nat.beq f 49 then [none] else []
     else
     bif Nat.beq f 50 then [none] else []
   else
   bif Nat.blt f 59 then
    bif Nat.blt f 55 then
    bif Nat.blt f 53 then
     bif Nat.blt f 52 then
     bif Nat.beq f 51 then [some 1,none] else []
     else
     bif Nat.beq f 52 then [none] else []
    else
     bif Nat.blt f 54 then
     bif Nat.beq f 53 then [none] else []
     else
     bif Nat.beq f 54 then [some 4] else []
    else
    bif Nat.blt f 57 then
     bif Nat.blt f 56 then
     bif Nat.beq f 55 then [none] else []
     else
     bif Nat.beq f 56 then [none] else []
    else
     bif Nat.blt f 58 then
     bif Nat.beq f 57 then [none] else []
     else
     bif Nat.beq f 58 then [none] else []
   else
    bif Nat.blt f 64 then
    bif Nat.blt f 61 then
     bif Nat.blt f 60 then
     bif Nat.beq f 59 then [none] else []
     else
     bif Nat.beq f 60 then [none] else []
    else
     bif Nat.blt f 63 then
     bif Nat.beq f 61 then [none] else []
     else
     bif Nat.beq f 63 then [some 1,some 1] else []
    else
    bif Nat.blt f 66 then
     bif Nat.blt f 65 then
     bif Nat.beq f 64 then [none] else []
     else
     bif Nat.beq f 65 then [none] else []
    else
     bif Nat.blt f 67 then
     bif Nat.beq f 66 then [none] else []
     else
     bif Nat.beq f 67 then [none] else []
  else
  bif Nat.blt f 100 then
   bif Nat.blt f 84 then
   bif Nat.blt f 76 then
    bif Nat.blt f 72 then
    bif Nat.blt f 70 then
     bif Nat.blt f 69 then
     bif Nat.beq f 68 then [none] else []
     else
     bif Nat.beq f 69 then [none] else []
    else
     bif Nat.blt f 71 then
     bif Nat.beq f 70 then [none] else []
     else
     bif Nat.beq f 71 then [some 1,some 1,none] else []
    else
    bif Nat.blt f 74 then
     bif Nat.blt f 73 then
     bif Nat.beq f 72 then [none] else []
     else
     bif Nat.beq f 73 then [some 1,some 1,none] else []
    else
     bif Nat.blt f 75 then
     bif Nat.beq f 74 then [some 1,some 1,none] else []
     else
     bif Nat.beq f 75 then [some 1,none] else []
   else
    bif Nat.blt f 80 then
    bif Nat.blt f 78 then
     bif Nat.blt f 77 then
     bif Nat.beq f 76 then [none] else []
     else
     bif Nat.beq f 77 then [none] else []
    else
     bif Nat.blt f 79 then
     bif Nat.beq f 78 then [none,none] else []
     else
     bif Nat.beq f 79 then [some 1,none] else []
    else
    bif Nat.blt f 82 then
     bif Nat.blt f 81 then
     bif Nat.beq f 80 then [none] else []
     else
     bif Nat.beq f 81 then [none] else []
    else
     bif Nat.blt f 83 then
     bif Nat.beq f 82 then [none] else []
     else
     bif Nat.beq f 83 then [some 4] else []
   else
   bif Nat.blt f 92 then
    bif Nat.blt f 88 then
    bif Nat.blt f 86 then
     bif Nat.blt f 85 then
     bif Nat.beq f 84 then [none,none] else []
     else
     bif Nat.beq f 85 then [none] else []
    else
     bif Nat.blt f 87 then
     bif Nat.beq f 86 then [some 4] else []
     else
     bif Nat.beq f 87 then [some 4] else []
    else
    bif Nat.blt f 90 then
     bif Nat.blt f 89 then
     bif Nat.beq f 88 then [none] else []
     else
     bif Nat.beq f 89 then [none] else []
    else
     bif Nat.blt f 91 then
     bif Nat.beq f 90 then [none] else []
     else
     bif Nat.beq f 91 then [none] else []
   else
    bif Nat.blt f 96 then
    bif Nat.blt f 94 then
     bif Nat.blt f 93 then
     bif Nat.beq f 92 then [none] else []
     else
     bif Nat.beq f 93 then [none] else []
    else
     bif Nat.blt f 95 then
     bif Nat.beq f 94 then [none] else []
     else
     bif Nat.beq f 95 then [some 1] else []
    else
    bif Nat.blt f 98 then
     bif Nat.blt f 97 then
     bif Nat.beq f 96 then [none] else []
     else
     bif Nat.beq f 97 then [none] else []
    else
     bif Nat.blt f 99 then
     bif Nat.beq f 98 then [none] else []
     else
     bif Nat.beq f 99 then [none] else []
  else
   bif Nat.blt f 116 then
   bif Nat.blt f 108 then
    bif Nat.blt f 104 then
    bif Nat.blt f 102 then
     bif Nat.blt f 101 then
     bif Nat.beq f 100 then [none] else []
     else
     bif Nat.beq f 101 then [some 4] else []
    else
     bif Nat.blt f 103 then
     bif Nat.beq f 102 then [none] else []
     else
     bif Nat.beq f 103 then [none] else []
    else
    bif Nat.blt f 106 then
     bif Nat.blt f 105 then
     bif Nat.beq f 104 then [none] else []
     else
     bif Nat.beq f 105 then [none] else []
    else
     bif Nat.blt f 107 then
     bif Nat.beq f 106 then [none] else []
     else
     bif Nat.beq f 107 then [none] else []
   else
    bif Nat.blt f 112 then
    bif Nat.blt f 110 then
     bif Nat.blt f 109 then
     bif Nat.beq f 108 then [some 1,some 1] else []
     else
     bif Nat.beq f 109 then [none] else []
    else
     bif Nat.blt f 111 then
     bif Nat.beq f 110 then [none] else []
     else
     bif Nat.beq f 111 then [some 1,some 1] else []
    else
    bif Nat.blt f 114 then
     bif Nat.blt f 113 then
     bif Nat.beq f 112 then [none] else []
     else
     bif Nat.beq f 113 then [none] else []
    else
     bif Nat.blt f 115 then
     bif Nat.beq f 114 then [none] else []
     else
     bif Nat.beq f 115 then [none] else []
   else
   bif Nat.blt f 124 then
    bif Nat.blt f 120 then
    bif Nat.blt f 118 then
     bif Nat.blt f 117 then
     bif Nat.beq f 116 then [none] else []
     else
     bif Nat.beq f 117 then [none] else []
    else
     bif Nat.blt f 119 then
     bif Nat.beq f 118 then [some 1,some 1,none] else []
     else
     bif Nat.beq f 119 then [some 1,some 1,none] else []
    else
    bif Nat.blt f 122 then
     bif Nat.blt f 121 then
     bif Nat.beq f 120 then [some 1,none] else []
     else
     bif Nat.beq f 121 then [none] else []
    else
     bif Nat.blt f 123 then
     bif Nat.beq f 122 then [none] else []
     else
     bif Nat.beq f 123 then [none] else []
   else
    bif Nat.blt f 128 then
    bif Nat.blt f 126 then
     bif Nat.blt f 125 then
     bif Nat.beq f 124 then [none] else []
     else
     bif Nat.beq f 125 then [none] else []
    else
     bif Nat.blt f 127 then
     bif Nat.beq f 126 then [none] else []
     else
     bif Nat.beq f 127 then [none] else []
    else
    bif Nat.blt f 132 then
     bif Nat.blt f 131 then
     bif Nat.beq f 128 then [none] else []
     else
     bif Nat.beq f 131 then [none] else []
    else
     bif Nat.blt f 133 then
     bif Nat.beq f 132 then [none] else []
     else
     bif Nat.beq f 133 then [none] else []
 else
  bif Nat.blt f 201 then
  bif Nat.blt f 167 then
   bif Nat.blt f 150 then
   bif Nat.blt f 142 then
    bif Nat.blt f 138 then
    bif Nat.blt f 136 then
     bif Nat.blt f 135 then
     bif Nat.beq f 134 then [none,none,none,none,none] else []
     else
     bif Nat.beq f 135 then [none] else []
    else
     bif Nat.blt f 137 then
     bif Nat.beq f 136 then [none] else []
     else
     bif Nat.beq f 137 then [none] else []
    else
    bif Nat.blt f 140 then
     bif Nat.blt f 139 then
     bif Nat.beq f 138 then [none] else []
     else
     bif Nat.beq f 139 then [none] else []
    else
     bif Nat.blt f 141 then
     bif Nat.beq f 140 then [some 1,some 3,some 1,some 1,none] else []
     else
     bif Nat.beq f 141 then [none] else []
   else
    bif Nat.blt f 146 then
    bif Nat.blt f 144 then
     bif Nat.blt f 143 then
     bif Nat.beq f 142 then [some 1] else []
     else
     bif Nat.beq f 143 then [none] else []
    else
     bif Nat.blt f 145 then
     bif Nat.beq f 144 then [none] else []
     else
     bif Nat.beq f 145 then [none] else []
    else
    bif Nat.blt f 148 then
     bif Nat.blt f 147 then
     bif Nat.beq f 146 then [none] else []
     else
     bif Nat.beq f 147 then [none] else []
    else
     bif Nat.blt f 149 then
     bif Nat.beq f 148 then [some 4] else []
     else
     bif Nat.beq f 149 then [none] else []
   else
   bif Nat.blt f 158 then
    bif Nat.blt f 154 then
    bif Nat.blt f 152 then
     bif Nat.blt f 151 then
     bif Nat.beq f 150 then [none] else []
     else
     bif Nat.beq f 151 then [none] else []
    else
     bif Nat.blt f 153 then
     bif Nat.beq f 152 then [none] else []
     else
     bif Nat.beq f 153 then [none] else []
    else
    bif Nat.blt f 156 then
     bif Nat.blt f 155 then
     bif Nat.beq f 154 then [none] else []
     else
     bif Nat.beq f 155 then [some 1,some 1] else []
    else
     bif Nat.blt f 157 then
     bif Nat.beq f 156 then [some 1,some 1] else []
     else
     bif Nat.beq f 157 then [none] else []
   else
    bif Nat.blt f 163 then
    bif Nat.blt f 160 then
     bif Nat.blt f 159 then
     bif Nat.beq f 158 then [none] else []
     else
     bif Nat.beq f 159 then [none] else []
    else
     bif Nat.blt f 162 then
     bif Nat.beq f 160 then [some 1] else []
     else
     bif Nat.beq f 162 then [none] else []
    else
    bif Nat.blt f 165 then
     bif Nat.blt f 164 then
     bif Nat.beq f 163 then [none,none,none,none,none] else []
     else
     bif Nat.beq f 164 then [some 4,none] else []
    else
     bif Nat.blt f 166 then
     bif Nat.beq f 165 then [none] else []
     else
     bif Nat.beq f 166 then [none] else []
  else
   bif Nat.blt f 183 then
   bif Nat.blt f 175 then
    bif Nat.blt f 171 then
    bif Nat.blt f 169 then
     bif Nat.blt f 168 then
     bif Nat.beq f 167 then [none] else []
     else
     bif Nat.beq f 168 then [none] else []
    else
     bif Nat.blt f 170 then
     bif Nat.beq f 169 then [none] else []
     else
     bif Nat.beq f 170 then [none,none] else []
    else
    bif Nat.blt f 173 then
     bif Nat.blt f 172 then
     bif Nat.beq f 171 then [none] else []
     else
     bif Nat.beq f 172 then [none] else []
    else
     bif Nat.blt f 174 then
     bif Nat.beq f 173 then [none,none] else []
     else
     bif Nat.beq f 174 then [none] else []
   else
    bif Nat.blt f 179 then
    bif Nat.blt f 177 then
     bif Nat.blt f 176 then
     bif Nat.beq f 175 then [none] else []
     else
     bif Nat.beq f 176 then [none] else []
    else
     bif Nat.blt f 178 then
     bif Nat.beq f 177 then [none] else []
     else
     bif Nat.beq f 178 then [none] else []
    else
    bif Nat.blt f 181 then
     bif Nat.blt f 180 then
     bif Nat.beq f 179 then [none] else []
     else
     bif Nat.beq f 180 then [none] else []
    else
     bif Nat.blt f 182 then
     bif Nat.beq f 181 then [none] else []
     else
     bif Nat.beq f 182 then [none] else []
   else
   bif Nat.blt f 193 then
    bif Nat.blt f 189 then
    bif Nat.blt f 185 then
     bif Nat.blt f 184 then
     bif Nat.beq f 183 then [none] else []
     else
     bif Nat.beq f 184 then [some 1] else []
    else
     bif Nat.blt f 188 then
     bif Nat.beq f 185 then [none] else []
     else
     bif Nat.beq f 188 then [none] else []
    else
    bif Nat.blt f 191 then
     bif Nat.blt f 190 then
     bif Nat.beq f 189 then [none] else []
     else
     bif Nat.beq f 190 then [none] else []
    else
     bif Nat.blt f 192 then
     bif Nat.beq f 191 then [none] else []
     else
     bif Nat.beq f 192 then [some 1] else []
   else
    bif Nat.blt f 197 then
    bif Nat.blt f 195 then
     bif Nat.blt f 194 then
     bif Nat.beq f 193 then [none] else []
     else
     bif Nat.beq f 194 then [none] else []
    else
     bif Nat.blt f 196 then
     bif Nat.beq f 195 then [none] else []
     else
     bif Nat.beq f 196 then [none] else []
    else
    bif Nat.blt f 199 then
     bif Nat.blt f 198 then
     bif Nat.beq f 197 then [none] else []
     else
     bif Nat.beq f 198 then [none,none,none] else []
    else
     bif Nat.blt f 200 then
     bif Nat.beq f 199 then [none] else []
     else
     bif Nat.beq f 200 then [none] else []
  else
  bif Nat.blt f 233 then
   bif Nat.blt f 217 then
   bif Nat.blt f 209 then
    bif Nat.blt f 205 then
    bif Nat.blt f 203 then
     bif Nat.blt f 202 then
     bif Nat.beq f 201 then [none] else []
     else
     bif Nat.beq f 202 then [none] else []
    else
     bif Nat.blt f 204 then
     bif Nat.beq f 203 then [none] else []
     else
     bif Nat.beq f 204 then [none,none,none,none,none] else []
    else
    bif Nat.blt f 207 then
     bif Nat.blt f 206 then
     bif Nat.beq f 205 then [none] else []
     else
     bif Nat.beq f 206 then [none] else []
    else
     bif Nat.blt f 208 then
     bif Nat.beq f 207 then [none] else []
     else
     bif Nat.beq f 208 then [some 1,some 3,some 1,some 1,none] else []
   else
    bif Nat.blt f 213 then
    bif Nat.blt f 211 then
     bif Nat.blt f 210 then
     bif Nat.beq f 209 then [none] else []
     else
     bif Nat.beq f 210 then [none] else []
    else
     bif Nat.blt f 212 then
     bif Nat.beq f 211 then [none] else []
     else
     bif Nat.beq f 212 then [none] else []
    else
    bif Nat.blt f 215 then
     bif Nat.blt f 214 then
     bif Nat.beq f 213 then [none] else []
     else
     bif Nat.beq f 214 then [none] else []
    else
     bif Nat.blt f 216 then
     bif Nat.beq f 215 then [none] else []
     else
     bif Nat.beq f 216 then [none] else []
   else
   bif Nat.blt f 225 then
    bif Nat.blt f 221 then
    bif Nat.blt f 219 then
     bif Nat.blt f 218 then
     bif Nat.beq f 217 then [none] else []
     else
     bif Nat.beq f 218 then [none] else []
    else
     bif Nat.blt f 220 then
     bif Nat.beq f 219 then [none] else []
     else
     bif Nat.beq f 220 then [none,none] else []
    else
    bif Nat.blt f 223 then
     bif Nat.blt f 222 then
     bif Nat.beq f 221 then [none] else []
     else
     bif Nat.beq f 222 then [none] else []
    else
     bif Nat.blt f 224 then
     bif Nat.beq f 223 then [none] else []
     else
     bif Nat.beq f 224 then [some 4,none] else []
   else
    bif Nat.blt f 229 then
    bif Nat.blt f 227 then
     bif Nat.blt f 226 then
     bif Nat.beq f 225 then [none] else []
     else
     bif Nat.beq f 226 then [none] else []
    else
     bif Nat.blt f 228 then
     bif Nat.beq f 227 then [none] else []
     else
     bif Nat.beq f 228 then [none] else []
    else
    bif Nat.blt f 231 then
     bif Nat.blt f 230 then
     bif Nat.beq f 229 then [none] else []
     else
     bif Nat.beq f 230 then [none] else []
    else
     bif Nat.blt f 232 then
     bif Nat.beq f 231 then [none,none] else []
     else
     bif Nat.beq f 232 then [none] else []
  else
   bif Nat.blt f 251 then
   bif Nat.blt f 241 then
    bif Nat.blt f 237 then
    bif Nat.blt f 235 then
     bif Nat.blt f 234 then
     bif Nat.beq f 233 then [none] else []
     else
     bif Nat.beq f 234 then [none,none] else []
    else
     bif Nat.blt f 236 then
     bif Nat.beq f 235 then [none] else []
     else
     bif Nat.beq f 236 then [none] else []
    else
    bif Nat.blt f 239 then
     bif Nat.blt f 238 then
     bif Nat.beq f 237 then [none] else []
     else
     bif Nat.beq f 238 then [some 1] else []
    else
     bif Nat.blt f 240 then
     bif Nat.beq f 239 then [none] else []
     else
     bif Nat.beq f 240 then [none] else []
   else
    bif Nat.blt f 246 then
    bif Nat.blt f 243 then
     bif Nat.blt f 242 then
     bif Nat.beq f 241 then [none] else []
     else
     bif Nat.beq f 242 then [none] else []
    else
     bif Nat.blt f 245 then
     bif Nat.beq f 243 then [none] else []
     else
     bif Nat.beq f 245 then [none] else []
    else
    bif Nat.blt f 248 then
     bif Nat.blt f 247 then
     bif Nat.beq f 246 then [none] else []
     else
     bif Nat.beq f 247 then [none] else []
    else
     bif Nat.blt f 249 then
     bif Nat.beq f 248 then [none] else []
     else
     bif Nat.beq f 249 then [none] else []
   else
   bif Nat.blt f 264 then
    bif Nat.blt f 256 then
    bif Nat.blt f 253 then
     bif Nat.blt f 252 then
     bif Nat.beq f 251 then [none] else []
     else
     bif Nat.beq f 252 then [none] else []
    else
     bif Nat.blt f 255 then
     bif Nat.beq f 253 then [none] else []
     else
     bif Nat.beq f 255 then [none] else []
    else
    bif Nat.blt f 262 then
     bif Nat.blt f 260 then
     bif Nat.beq f 256 then [none] else []
     else
     bif Nat.beq f 260 then [none,none] else []
    else
     bif Nat.blt f 263 then
     bif Nat.beq f 262 then [none] else []
     else
     bif Nat.beq f 263 then [none] else []
   else
    bif Nat.blt f 269 then
    bif Nat.blt f 266 then
     bif Nat.blt f 265 then
     bif Nat.beq f 264 then [none,none] else []
     else
     bif Nat.beq f 265 then [none] else []
    else
     bif Nat.blt f 268 then
     bif Nat.beq f 266 then [none] else []
     else
     bif Nat.beq f 268 then [none] else []
    else
    bif Nat.blt f 271 then
     bif Nat.blt f 270 then
     bif Nat.beq f 269 then [none] else []
     else
     bif Nat.beq f 270 then [none] else []
    else
     bif Nat.blt f 272 then
     bif Nat.beq f 271 then [none] else []
     else
     bif Nat.beq f 272 then [none,none] else []
noncomputable def pairs (f b:Nat):List (Nat × Nat):=
 bif Nat.blt f 111 then
  bif Nat.blt f 62 then
  bif Nat.blt f 12 then
   bif Nat.blt f 4 then
   bif Nat.beq f 3 then (bif Nat.beq b 3 then [(0,3),(3,5),(4,5)] else []) else []
   else
   bif Nat.beq f 4 then (bif Nat.beq b 3 then [(0,2),(2,3)] else []) else []
  else
   bif Nat.blt f 40 then
   bif Nat.beq f 12 then (bif Nat.beq b 13 then [(5,7)] else []) else []
   else
   bif Nat.beq f 40 then (bif Nat.beq b 17 then [(4,9)] else bif Nat.beq b 23 then [(4,6)] else []) else []
  else
  bif Nat.blt f 101 then
   bif Nat.blt f 63 then
   bif Nat.beq f 62 then (bif Nat.beq b 20 then [(7,11)] else []) else []
   else
   bif Nat.beq f 63 then (bif Nat.beq b 5 then [(22,24)] else []) else []
  else
   bif Nat.blt f 108 then
   bif Nat.beq f 101 then (bif Nat.beq b 3 then [(0,1),(0,3),(0,7),(0,8),(0,11),(8,11),(9,11),(0,15),(8,15),(9,15)] else []) else []
   else
   bif Nat.blt f 109 then
    bif Nat.beq f 108 then (bif Nat.beq b 1 then [(8,12),(8,16)] else []) else []
   else
    bif Nat.beq f 109 then (bif Nat.beq b 9 then [(1,8),(5,8),(7,8)] else []) else []
 else
  bif Nat.blt f 163 then
  bif Nat.blt f 141 then
   bif Nat.blt f 140 then
   bif Nat.beq f 111 then (bif Nat.beq b 1 then [(8,12),(8,16)] else []) else []
   else
   bif Nat.beq f 140 then (bif Nat.beq b 8 then [(1,11)] else bif Nat.beq b 12 then [(1,9),(3,9),(6,9),(8,9)] else bif Nat.beq b 13 then [(1,8),(3,8),(8,10),(8,12),(1,13),(3,13),(1,15)] else bif Nat.beq b 14 then [(0,1),(1,3),(0,4),(0,5),(1,5),(3,5),(4,5),(1,7),(4,7),(5,7),(0,8)] else []) else []
  else
   bif Nat.blt f 155 then
   bif Nat.beq f 141 then (bif Nat.beq b 21 then [(1,14),(4,14),(6,14),(8,14),(11,14),(13,14),(1,15),(4,15),(6,15),(8,15),(11,15),(13,15),(14,15),(6,16),(8,16),(11,16),(13,16)] else []) else []
   else
   bif Nat.blt f 156 then
    bif Nat.beq f 155 then (bif Nat.beq b 1 then [(8,11),(8,15)] else []) else []
   else
    bif Nat.beq f 156 then (bif Nat.beq b 1 then [(8,11),(8,15)] else []) else []
  else
  bif Nat.blt f 208 then
   bif Nat.blt f 166 then
   bif Nat.beq f 163 then (bif Nat.beq b 22 then [(8,10)] else []) else []
   else
   bif Nat.beq f 166 then (bif Nat.beq b 10 then [(1,9),(3,9),(6,9),(8,9)] else []) else []
  else
   bif Nat.blt f 209 then
   bif Nat.beq f 208 then (bif Nat.beq b 8 then [(1,7)] else bif Nat.beq b 18 then [(0,3),(3,5),(0,6)] else []) else []
   else
   bif Nat.blt f 210 then
    bif Nat.beq f 209 then (bif Nat.beq b 22 then [(1,10),(4,10),(6,10),(9,10),(1,11),(4,11),(6,11),(9,11),(10,11),(6,12),(9,12)] else []) else []
   else
    bif Nat.beq f 210 then (bif Nat.beq b 1 then [(8,10),(17,19)] else []) else []
noncomputable def primP (f:Nat):Option (List PV→Option PV):=
 bif Nat.blt f 95 then
  bif Nat.blt f 83 then
  bif Nat.beq f 11 then (some (iE 2)) else none
  else
  bif Nat.blt f 87 then
   bif Nat.beq f 83 then (some (iE 4)) else none
  else
   bif Nat.beq f 87 then (some Bz) else none
 else
  bif Nat.blt f 237 then
  bif Nat.beq f 95 then (some (iE 1)) else none
  else
  bif Nat.blt f 238 then
   bif Nat.beq f 237 then (some lS) else none
  else
   bif Nat.beq f 238 then (some (iE 1)) else none
noncomputable def isRef (f:Nat):Bool:=
 bif Nat.blt f 258 then
  bif Nat.blt f 186 then
  bif Nat.blt f 86 then
   bif Nat.blt f 75 then
   bif Nat.beq f 62 then true else false
   else
   bif Nat.blt f 76 then
    bif Nat.beq f 75 then true else false
   else
    bif Nat.beq f 76 then true else false
  else
   bif Nat.blt f 97 then
   bif Nat.beq f 86 then true else false
   else
   bif Nat.blt f 113 then
    bif Nat.beq f 97 then true else false
   else
    bif Nat.beq f 113 then true else false
  else
  bif Nat.blt f 245 then
   bif Nat.blt f 187 then
   bif Nat.beq f 186 then true else false
   else
   bif Nat.blt f 244 then
    bif Nat.beq f 187 then true else false
   else
    bif Nat.beq f 244 then true else false
  else
   bif Nat.blt f 254 then
   bif Nat.beq f 245 then true else false
   else
   bif Nat.blt f 257 then
    bif Nat.beq f 254 then true else false
   else
    bif Nat.beq f 257 then true else false
 else
  bif Nat.blt f 264 then
  bif Nat.blt f 261 then
   bif Nat.blt f 259 then
   bif Nat.beq f 258 then true else false
   else
   bif Nat.blt f 260 then
    bif Nat.beq f 259 then true else false
   else
    bif Nat.beq f 260 then true else false
  else
   bif Nat.blt f 262 then
   bif Nat.beq f 261 then true else false
   else
   bif Nat.blt f 263 then
    bif Nat.beq f 262 then true else false
   else
    bif Nat.beq f 263 then true else false
  else
  bif Nat.blt f 270 then
   bif Nat.blt f 267 then
   bif Nat.beq f 264 then true else false
   else
   bif Nat.blt f 269 then
    bif Nat.beq f 267 then true else false
   else
    bif Nat.beq f 269 then true else false
  else
   bif Nat.blt f 271 then
   bif Nat.beq f 270 then true else false
   else
   bif Nat.blt f 272 then
    bif Nat.beq f 271 then true else false
   else
    bif Nat.beq f 272 then true else false
noncomputable def E:Env where
 tab:=tab
 code:=code
 isRef:=isRef
 keepNil:=fun _=>false
 resK:=resK
 keep:=keep
 keepR:=fun _ _=>none
 keepE:=fun _=>none
 pairs:=pairs
 norm:=fun _=>[]
 primP:=primP
 primR:=fun f=>bif Nat.beq f 86 then some (oI 4) else bif Nat.beq f 244 then some sD else none
theorem asZ:E.tab=tab:=rfl
theorem afy:E.keep=keep:=rfl
theorem V1 (f b:Nat):E.keepR f b=none:=rfl
theorem V2 (f:Nat):E.keepE f=none:=rfl
theorem V0:E.pairs=pairs:=rfl
theorem afx:E.resK=resK:=rfl
theorem LB (f:Nat):E.keepNil f=false:=rfl
theorem V3:E.isRef=isRef:=rfl
noncomputable def isRec (f:Nat):Bool:=bif Nat.beq f 148 then true else bif Nat.beq f 101 then true else bif Nat.beq f 93 then true else bif Nat.beq f 6 then true else bif Nat.beq f 99 then true else bif Nat.beq f 144 then true else bif Nat.beq f 169 then true else bif Nat.beq f 170 then true else bif Nat.beq f 214 then true else bif Nat.beq f 233 then true else bif Nat.beq f 234 then true else bif Nat.beq f 113 then true else bif Nat.beq f 62 then true else false
theorem MR_E (f r:Nat) (C:Pm.Callee):(fw E f r C).E=E:=rfl
theorem MR_C (f r:Nat) (C:Pm.Callee):(fw E f r C).C=C:=rfl
theorem MR_f (f r:Nat) (C:Pm.Callee):(fw E f r C).f=f:=rfl
theorem asY (f r:Nat) (C:Pm.Callee):(fw E f r C).nr=r:=rfl
theorem MR_c (f r:Nat) (C:Pm.Callee):(fw E f r C).c=bh E f:=rfl
theorem MR_D (f r:Nat) (C:Pm.Callee):(fw E f r C).D=Cn E f r:=rfl
theorem M_E (f:Nat) (C:Pm.Callee):(bw E f C).E=E:=rfl
theorem M_C (f:Nat) (C:Pm.Callee):(bw E f C).C=C:=rfl
theorem M_f (f:Nat) (C:Pm.Callee):(bw E f C).f=f:=rfl
theorem M_nr (f:Nat) (C:Pm.Callee):(bw E f C).nr=0:=rfl
theorem M_c (f:Nat) (C:Pm.Callee):(bw E f C).c=bh E f:=rfl
theorem M_D (f:Nat) (C:Pm.Callee):(bw E f C).D=Co E f:=rfl
theorem tab3:tab 3=some ⟨.int .i64,1,8,[.int .i64 0],false⟩:=rfl
theorem tab4:tab 4=some ⟨.bool,1,1,[.bool false],false⟩:=rfl
theorem tab5:tab 5=some ⟨.int .u8,1,1,[.int .u8 0],false⟩:=rfl
theorem tab9:tab 9=some ⟨.str,1,16,[.str ⟨#[]⟩],false⟩:=rfl
theorem agV:tab 22=some ⟨.slice 67,1,24,[.bp],false⟩:=rfl
theorem agU:tab 23=some ⟨.slice 72,1,24,[.bp],false⟩:=rfl
theorem agT:tab 25=some ⟨.struct [(0,22),(1,23)],2,48,[.bp,.bp],false⟩:=rfl
theorem agS:tab 26=some ⟨.slice 96,1,24,[.bp],false⟩:=rfl
theorem agR:tab 27=some ⟨.slice 33,1,24,[.bp],false⟩:=rfl
theorem agQ:tab 31=some ⟨.slice 3,1,24,[.bp],false⟩:=rfl
theorem agP:tab 33=some ⟨.struct [(0,31),(1,31)],2,48,[.bp,.bp],false⟩:=rfl
theorem agO:tab 34=some ⟨.func,1,8,[.cX],false⟩:=rfl
theorem agN:tab 37=some ⟨.slice 111,1,24,[.bp],false⟩:=rfl
theorem agM:tab 39=some ⟨.struct [(0,31),(1,37)],2,48,[.bp,.bp],false⟩:=rfl
theorem agL:tab 41=some ⟨.int .i64,1,8,[.int .i64 0],false⟩:=rfl
theorem agK:tab 53=some ⟨.slice 31,1,24,[.bp],false⟩:=rfl
theorem agJ:tab 56=some ⟨.slice 4,1,24,[.bp],false⟩:=rfl
theorem agI:tab 61=some ⟨.func,1,8,[.cX],false⟩:=rfl
theorem agH:tab 65=some ⟨.slice 70,1,24,[.bp],false⟩:=rfl
theorem agG:tab 67=some ⟨.struct [(0,9),(1,3),(2,4),(3,65)],4,56,[.str ⟨#[]⟩,.int .i64 0,.bool false,.bp],false⟩:=rfl
theorem agF:tab 68=some ⟨.slice 9,1,24,[.bp],false⟩:=rfl
theorem agE:tab 70=some ⟨.struct [(0,9),(1,3),(2,3),(3,68)],4,56,[.str ⟨#[]⟩,.int .i64 0,.int .i64 0,.bp],false⟩:=rfl
theorem agD:tab 72=some ⟨.struct [(0,9),(1,3),(2,3),(3,3),(4,3),(5,3),(6,3)],7,64,[.str ⟨#[]⟩,.int .i64 0,.int .i64 0,.int .i64 0,.int .i64 0,.int .i64 0,.int .i64 0],false⟩:=rfl
theorem agC:tab 73=some ⟨.slice 109,1,24,[.bp],false⟩:=rfl
theorem agB:tab 75=some ⟨.struct [(0,73),(1,73)],2,48,[.bp,.bp],false⟩:=rfl
theorem agA:tab 85=some ⟨.slice 93,1,24,[.bp],false⟩:=rfl
theorem agz:tab 87=some ⟨.struct [(0,31),(1,31)],2,48,[.bp,.bp],false⟩:=rfl
theorem agy:tab 88=some ⟨.slice 175,1,24,[.bp],false⟩:=rfl
theorem agx:tab 89=some ⟨.slice 201,1,24,[.bp],false⟩:=rfl
theorem agw:tab 91=some ⟨.struct [(0,39),(2,88),(3,3),(4,89)],5,104,[.bp,.bp,.bp,.int .i64 0,.bp],false⟩:=rfl
theorem agv:tab 93=some ⟨.struct [(0,3),(1,85),(2,87),(4,91)],9,184,[.int .i64 0,.bp,.bp,.bp,.bp,.bp,.bp,.int .i64 0,.bp],false⟩:=rfl
theorem agu:tab 94=some ⟨.struct [(0,31),(1,31)],2,48,[.bp,.bp],false⟩:=rfl
theorem agt:tab 96=some ⟨.struct [(0,9),(1,91),(6,91),(11,94),(13,87),(15,4),(16,93)],25,512,[.str ⟨#[]⟩,.bp,.bp,.bp,.int .i64 0,.bp,.bp,.bp,.bp,.int .i64 0,.bp,.bp,.bp,.bp,.bp,.bool false,.int .i64 0,.bp,.bp,.bp,.bp,.bp,.bp,.int .i64 0,.bp],false⟩:=rfl
theorem aa1:tab 109=some ⟨.struct [(0,3),(1,3),(2,3),(3,3)],4,32,[.int .i64 0,.int .i64 0,.int .i64 0,.int .i64 0],false⟩:=rfl
theorem aa0:tab 111=some ⟨.struct [(0,3),(1,3),(2,3)],3,24,[.int .i64 0,.int .i64 0,.int .i64 0],false⟩:=rfl
theorem aaZ:tab 114=some ⟨.ptr,1,8,[.eH],false⟩:=rfl
theorem aaY:tab 116=some ⟨.struct [(0,53),(1,31),(2,31),(3,3),(4,31),(5,3),(6,3)],7,120,[.bp,.bp,.bp,.int .i64 0,.bp,.int .i64 0,.int .i64 0],false⟩:=rfl
theorem aaX:tab 118=some ⟨.func,1,8,[.cX],false⟩:=rfl
theorem aaW:tab 124=some ⟨.func,1,8,[.cX],false⟩:=rfl
theorem aaV:tab 137=some ⟨.func,1,8,[.cX],false⟩:=rfl
theorem aaU:tab 152=some ⟨.func,1,8,[.cX],false⟩:=rfl
theorem aaT:tab 161=some ⟨.func,1,8,[.cX],false⟩:=rfl
theorem aaS:tab 163=some ⟨.int .u64,1,8,[.int .u64 0],false⟩:=rfl
theorem aaR:tab 169=some ⟨.struct [(0,3),(1,9),(2,3)],3,32,[.int .i64 0,.str ⟨#[]⟩,.int .i64 0],false⟩:=rfl
theorem aaQ:tab 173=some ⟨.struct [(0,3),(1,3)],2,16,[.int .i64 0,.int .i64 0],false⟩:=rfl
theorem aaP:tab 175=some ⟨.struct [(0,3),(1,3),(2,173)],4,32,[.int .i64 0,.int .i64 0,.int .i64 0,.int .i64 0],false⟩:=rfl
theorem aaO:tab 188=some ⟨.func,1,8,[.cX],false⟩:=rfl
theorem aaN:tab 191=some ⟨.func,1,8,[.cX],false⟩:=rfl
theorem aaM:tab 201=some ⟨.struct [(0,3),(1,173),(3,173)],5,40,[.int .i64 0,.int .i64 0,.int .i64 0,.int .i64 0,.int .i64 0],false⟩:=rfl
theorem aaL:tab 211=some ⟨.func,1,8,[.cX],false⟩:=rfl
theorem aaK:tab 216=some ⟨.func,1,8,[.cX],false⟩:=rfl
theorem aaJ:tab 233=some ⟨.func,1,8,[.cX],false⟩:=rfl
theorem aaI:tab 243=some ⟨.int .i64,1,8,[.int .i64 0],false⟩:=rfl
theorem aaH:tab 250=some ⟨.int .u32,1,4,[.int .u32 0],false⟩:=rfl
theorem aaG:tab 252=some ⟨.int .u64,1,8,[.int .u64 0],false⟩:=rfl
theorem aaF:tab 253=some ⟨.int .u64,1,8,[.int .u64 0],false⟩:=rfl
theorem aaE:tab 257=some ⟨.ptr,1,8,[.eH],false⟩:=rfl
theorem aaD:tab 259=some ⟨.ptr,1,8,[.eH],false⟩:=rfl
theorem nt3:bo E 3=35:=rfl
theorem co3:bh E 3=(Tryz.f3.body).getD .skip:=rfl
theorem re3:bg E 3=Tryz.f3.results.toList:=rfl
theorem rk3:resK 3=[none]:=rfl
theorem rk6:resK 6=[none]:=rfl
theorem ir6:isRef 6=false:=rfl
theorem nt7:bo E 7=44:=rfl
theorem co7:bh E 7=(Tryz.f7.body).getD .skip:=rfl
theorem re7:bg E 7=Tryz.f7.results.toList:=rfl
theorem rk7:resK 7=[none]:=rfl
theorem ir7:isRef 7=false:=rfl
theorem Yy:keep 7 0=[(2,[]),(5,[]),(7,[]),(8,[])]:=rfl
theorem nt8:bo E 8=9:=rfl
theorem co8:bh E 8=(Tryz.f8.body).getD .skip:=rfl
theorem re8:bg E 8=Tryz.f8.results.toList:=rfl
theorem rk8:resK 8=[none]:=rfl
theorem ir8:isRef 8=false:=rfl
theorem nt9:bo E 9=13:=rfl
theorem co9:bh E 9=(Tryz.f9.body).getD .skip:=rfl
theorem re9:bg E 9=Tryz.f9.results.toList:=rfl
theorem rk9:resK 9=[none]:=rfl
theorem ir9:isRef 9=false:=rfl
theorem JS:bo E 10=149:=rfl
theorem Lu:bh E 10=(Tryz.f10.body).getD .skip:=rfl
theorem JQ:bg E 10=Tryz.f10.results.toList:=rfl
theorem Dc:resK 10=[none]:=rfl
theorem ir10:isRef 10=false:=rfl
theorem rL:keep 10 8=[(1,[]),(3,[]),(7,[]),(9,[]),(38,[]),(39,[]),(40,[]),(135,[]),(136,[]),(137,[])]:=rfl
theorem rM:keep 10 6=[(1,[]),(3,[]),(7,[]),(9,[]),(12,[]),(38,[]),(39,[]),(40,[]),(115,[]),(116,[])]:=rfl
theorem rN:keep 10 4=[(1,[]),(3,[]),(7,[]),(9,[]),(12,[]),(38,[]),(39,[]),(40,[]),(67,[]),(68,[]),(69,[])]:=rfl
theorem rO:keep 10 2=[(1,[]),(3,[]),(7,[]),(9,[]),(38,[]),(39,[]),(40,[])]:=rfl
theorem rP:keep 10 0=[(1,[]),(2,[]),(3,[]),(7,[]),(9,[]),(30,[]),(31,[])]:=rfl
theorem nt11:bo E 11=8:=rfl
theorem co11:bh E 11=(Tryz.f11.body).getD .skip:=rfl
theorem re11:bg E 11=Tryz.f11.results.toList:=rfl
theorem ahu:resK 11=[some 2]:=rfl
theorem ir11:isRef 11=false:=rfl
theorem S0:bo E 12=75:=rfl
theorem Vn:bh E 12=(Tryz.f12.body).getD .skip:=rfl
theorem Sz:bg E 12=Tryz.f12.results.toList:=rfl
theorem MX:resK 12=[none]:=rfl
theorem ir12:isRef 12=false:=rfl
theorem zy:keep 12 4=[(2,[]),(3,[]),(7,[]),(9,[]),(10,[]),(12,[]),(13,[])]:=rfl
theorem zz:keep 12 2=[(2,[]),(3,[]),(7,[]),(9,[]),(10,[]),(12,[])]:=rfl
theorem zA:keep 12 0=[(2,[]),(3,[]),(7,[]),(9,[]),(10,[]),(11,[])]:=rfl
theorem NJ:bo E 13=106:=rfl
theorem QF:bh E 13=(Tryz.f13.body).getD .skip:=rfl
theorem Ng:bg E 13=Tryz.f13.results.toList:=rfl
theorem Db:resK 13=[none]:=rfl
theorem amT:isRef 13=false:=rfl
theorem vI:keep 13 6=[(1,[]),(8,[])]:=rfl
theorem vJ:keep 13 4=[(1,[]),(3,[]),(4,[]),(5,[]),(6,[]),(7,[])]:=rfl
theorem vK:keep 13 2=[(1,[]),(3,[]),(4,[]),(5,[])]:=rfl
theorem vL:keep 13 0=[(1,[]),(3,[]),(4,[])]:=rfl
theorem aj2:bo E 25=19:=rfl
theorem arf:bh E 25=(Tryz.f25.body).getD .skip:=rfl
theorem ahT:bg E 25=Tryz.f25.results.toList:=rfl
theorem Sn:resK 25=[none]:=rfl
theorem ame:isRef 25=false:=rfl
theorem Oo:keep 25 0=[(0,[]),(3,[])]:=rfl
theorem ajZ:bo E 26=57:=rfl
theorem arc:bh E 26=(Tryz.f26.body).getD .skip:=rfl
theorem ahQ:bg E 26=Tryz.f26.results.toList:=rfl
theorem AY:resK 26=[some 1,none]:=rfl
theorem Kc:isRef 26=false:=rfl
theorem On:keep 26 0=[(1,[]),(2,[]),(8,[(0,1,false)]),(9,[])]:=rfl
theorem acj:bo E 27=45:=rfl
theorem afc:bh E 27=(Tryz.f27.body).getD .skip:=rfl
theorem abO:bg E 27=Tryz.f27.results.toList:=rfl
theorem Mm:resK 27=[some 1]:=rfl
theorem amb:isRef 27=false:=rfl
theorem DK:keep 27 2=[(0,[]),(1,[]),(2,[]),(7,[]),(8,[]),(9,[]),(10,[])]:=rfl
theorem DL:keep 27 0=[(0,[]),(1,[]),(2,[]),(7,[(0,1,false)]),(8,[])]:=rfl
theorem nt28:bo E 28=10:=rfl
theorem co28:bh E 28=(Tryz.f28.body).getD .skip:=rfl
theorem re28:bg E 28=Tryz.f28.results.toList:=rfl
theorem Da:resK 28=[none]:=rfl
theorem Kb:isRef 28=false:=rfl
theorem ajY:bo E 29=19:=rfl
theorem arb:bh E 29=(Tryz.f29.body).getD .skip:=rfl
theorem ahP:bg E 29=Tryz.f29.results.toList:=rfl
theorem abE:resK 29=[none]:=rfl
theorem ir29:isRef 29=false:=rfl
theorem Om:keep 29 0=[(0,[]),(1,[]),(7,[]),(8,[])]:=rfl
theorem ajX:bo E 30=47:=rfl
theorem ara:bh E 30=(Tryz.f30.body).getD .skip:=rfl
theorem ahO:bg E 30=Tryz.f30.results.toList:=rfl
theorem AX:resK 30=[some 1,none]:=rfl
theorem Ka:isRef 30=false:=rfl
theorem Ol:keep 30 0=[(2,[]),(8,[(0,1,false)]),(26,[]),(27,[]),(28,[])]:=rfl
theorem Dq:bo E 31=9:=rfl
theorem FK:bh E 31=(Tryz.f31.body).getD .skip:=rfl
theorem Dj:bg E 31=Tryz.f31.results.toList:=rfl
theorem lH:resK 31=[none]:=rfl
theorem tn:isRef 31=false:=rfl
theorem nt32:bo E 32=9:=rfl
theorem co32:bh E 32=(Tryz.f32.body).getD .skip:=rfl
theorem re32:bg E 32=Tryz.f32.results.toList:=rfl
theorem yK:resK 32=[none]:=rfl
theorem BL:isRef 32=false:=rfl
theorem ajW:bo E 33=25:=rfl
theorem aq9:bh E 33=(Tryz.f33.body).getD .skip:=rfl
theorem ahN:bg E 33=Tryz.f33.results.toList:=rfl
theorem AW:resK 33=[none]:=rfl
theorem J9:isRef 33=false:=rfl
theorem Oj:keep 33 0=[(1,[]),(5,[]),(8,[]),(9,[]),(10,[])]:=rfl
theorem nt34:bo E 34=9:=rfl
theorem co34:bh E 34=(Tryz.f34.body).getD .skip:=rfl
theorem re34:bg E 34=Tryz.f34.results.toList:=rfl
theorem yJ:resK 34=[none]:=rfl
theorem BK:isRef 34=false:=rfl
theorem aci:bo E 35=86:=rfl
theorem afb:bh E 35=(Tryz.f35.body).getD .skip:=rfl
theorem abN:bg E 35=Tryz.f35.results.toList:=rfl
theorem C9:resK 35=[none]:=rfl
theorem Tz:isRef 35=false:=rfl
theorem DI:keep 35 2=[(6,[]),(10,[]),(12,[])]:=rfl
theorem DJ:keep 35 0=[(0,[]),(1,[]),(3,[]),(6,[]),(9,[])]:=rfl
theorem nt43:bo E 43=32:=rfl
theorem co43:bh E 43=(Tryz.f43.body).getD .skip:=rfl
theorem re43:bg E 43=Tryz.f43.results.toList:=rfl
theorem abD:resK 43=[none]:=rfl
theorem ama:isRef 43=false:=rfl
theorem ach:bo E 44=60:=rfl
theorem afa:bh E 44=(Tryz.f44.body).getD .skip:=rfl
theorem abM:bg E 44=Tryz.f44.results.toList:=rfl
theorem pt:resK 44=[none,none]:=rfl
theorem tk:isRef 44=false:=rfl
theorem DG:keep 44 2=[(1,[]),(6,[])]:=rfl
theorem DH:keep 44 0=[(1,[]),(4,[])]:=rfl
theorem NA:bo E 45=154:=rfl
theorem Qx:bh E 45=(Tryz.f45.body).getD .skip:=rfl
theorem M7:bg E 45=Tryz.f45.results.toList:=rfl
theorem C8:resK 45=[some 1,none]:=rfl
theorem al9:isRef 45=false:=rfl
theorem vE:keep 45 6=[(2,[]),(3,[]),(9,[]),(11,[]),(17,[])]:=rfl
theorem vF:keep 45 4=[(2,[]),(3,[]),(9,[]),(10,[]),(11,[]),(16,[])]:=rfl
theorem vG:keep 45 2=[(2,[]),(3,[]),(9,[]),(11,[]),(15,[])]:=rfl
theorem vH:keep 45 0=[(2,[]),(3,[]),(9,[]),(10,[]),(11,[]),(13,[])]:=rfl
theorem acg:bo E 46=37:=rfl
theorem ae9:bh E 46=(Tryz.f46.body).getD .skip:=rfl
theorem abL:bg E 46=Tryz.f46.results.toList:=rfl
theorem Ml:resK 46=[some 1]:=rfl
theorem al8:isRef 46=false:=rfl
theorem DE:keep 46 2=[(0,[]),(1,[]),(5,[]),(6,[]),(7,[]),(8,[])]:=rfl
theorem DF:keep 46 0=[(0,[]),(1,[]),(5,[(0,1,false)]),(6,[])]:=rfl
theorem nt47:bo E 47=40:=rfl
theorem co47:bh E 47=(Tryz.f47.body).getD .skip:=rfl
theorem re47:bg E 47=Tryz.f47.results.toList:=rfl
theorem abC:resK 47=[some 1,none]:=rfl
theorem al7:isRef 47=false:=rfl
theorem nt48:bo E 48=21:=rfl
theorem co48:bh E 48=(Tryz.f48.body).getD .skip:=rfl
theorem re48:bg E 48=Tryz.f48.results.toList:=rfl
theorem abB:resK 48=[some 1,none]:=rfl
theorem al6:isRef 48=false:=rfl
theorem qB:bo E 49=19:=rfl
theorem rj:bh E 49=(Tryz.f49.body).getD .skip:=rfl
theorem qo:bg E 49=Tryz.f49.results.toList:=rfl
theorem kD:resK 49=[none]:=rfl
theorem DP:isRef 49=false:=rfl
theorem gD:keep 49 0=[(0,[]),(1,[]),(7,[]),(8,[])]:=rfl
theorem ajV:bo E 50=19:=rfl
theorem aq8:bh E 50=(Tryz.f50.body).getD .skip:=rfl
theorem ahM:bg E 50=Tryz.f50.results.toList:=rfl
theorem abA:resK 50=[none]:=rfl
theorem ir50:isRef 50=false:=rfl
theorem Oi:keep 50 0=[(0,[]),(1,[]),(7,[]),(8,[])]:=rfl
theorem ajU:bo E 51=37:=rfl
theorem aq7:bh E 51=(Tryz.f51.body).getD .skip:=rfl
theorem ahL:bg E 51=Tryz.f51.results.toList:=rfl
theorem Mk:resK 51=[some 1,none]:=rfl
theorem adi:isRef 51=false:=rfl
theorem Oh:keep 51 0=[(0,[]),(1,[]),(2,[]),(8,[(0,1,false)]),(9,[])]:=rfl
theorem ajT:bo E 52=18:=rfl
theorem aq6:bh E 52=(Tryz.f52.body).getD .skip:=rfl
theorem ahK:bg E 52=Tryz.f52.results.toList:=rfl
theorem Mj:resK 52=[none]:=rfl
theorem adh:isRef 52=false:=rfl
theorem Og:keep 52 0=[(0,[]),(1,[]),(5,[])]:=rfl
theorem acf:bo E 57=46:=rfl
theorem ae8:bh E 57=(Tryz.f57.body).getD .skip:=rfl
theorem abK:bg E 57=Tryz.f57.results.toList:=rfl
theorem th:resK 57=[none]:=rfl
theorem zI:isRef 57=false:=rfl
theorem DC:keep 57 2=[(1,[]),(4,[])]:=rfl
theorem DD:keep 57 0=[(1,[]),(3,[])]:=rfl
theorem nt58:bo E 58=43:=rfl
theorem co58:bh E 58=(Tryz.f58.body).getD .skip:=rfl
theorem re58:bg E 58=Tryz.f58.results.toList:=rfl
theorem Sm:resK 58=[none]:=rfl
theorem adg:isRef 58=false:=rfl
theorem ajS:bo E 60=9:=rfl
theorem aq5:bh E 60=(Tryz.f60.body).getD .skip:=rfl
theorem ahJ:bg E 60=Tryz.f60.results.toList:=rfl
theorem JG:resK 60=[none]:=rfl
theorem Ty:isRef 60=false:=rfl
theorem nt64:bo E 64=18:=rfl
theorem co64:bh E 64=(Tryz.f64.body).getD .skip:=rfl
theorem re64:bg E 64=Tryz.f64.results.toList:=rfl
theorem Sl:resK 64=[none]:=rfl
theorem adf:isRef 64=false:=rfl
theorem nt65:bo E 65=14:=rfl
theorem co65:bh E 65=(Tryz.f65.body).getD .skip:=rfl
theorem re65:bg E 65=Tryz.f65.results.toList:=rfl
theorem ahr:resK 65=[none]:=rfl
theorem ir65:isRef 65=false:=rfl
theorem nt66:bo E 66=14:=rfl
theorem co66:bh E 66=(Tryz.f66.body).getD .skip:=rfl
theorem re66:bg E 66=Tryz.f66.results.toList:=rfl
theorem Sk:resK 66=[none]:=rfl
theorem ade:isRef 66=false:=rfl
theorem nt67:bo E 67=6:=rfl
theorem co67:bh E 67=(Tryz.f67.body).getD .skip:=rfl
theorem re67:bg E 67=Tryz.f67.results.toList:=rfl
theorem ahq:resK 67=[none]:=rfl
theorem ir67:isRef 67=false:=rfl
theorem SZ:bo E 68=95:=rfl
theorem Vm:bh E 68=(Tryz.f68.body).getD .skip:=rfl
theorem Sy:bg E 68=Tryz.f68.results.toList:=rfl
theorem C7:resK 68=[none]:=rfl
theorem adb:isRef 68=false:=rfl
theorem zg:keep 68 4=[(7,[]),(8,[]),(9,[])]:=rfl
theorem zh:keep 68 2=[(7,[]),(8,[])]:=rfl
theorem zi:keep 68 0=[(1,[]),(2,[]),(5,[]),(6,[])]:=rfl
theorem ajR:bo E 69=63:=rfl
theorem aq4:bh E 69=(Tryz.f69.body).getD .skip:=rfl
theorem ahI:bg E 69=Tryz.f69.results.toList:=rfl
theorem Mi:resK 69=[none]:=rfl
theorem ada:isRef 69=false:=rfl
theorem Of:keep 69 0=[(1,[]),(2,[]),(5,[]),(6,[])]:=rfl
theorem nt70:bo E 70=73:=rfl
theorem co70:bh E 70=(Tryz.f70.body).getD .skip:=rfl
theorem re70:bg E 70=Tryz.f70.results.toList:=rfl
theorem AV:resK 70=[none]:=rfl
theorem DO:isRef 70=false:=rfl
theorem nt71:bo E 71=23:=rfl
theorem co71:bh E 71=(Tryz.f71.body).getD .skip:=rfl
theorem re71:bg E 71=Tryz.f71.results.toList:=rfl
theorem JF:resK 71=[some 1,some 1,none]:=rfl
theorem OE:isRef 71=false:=rfl
theorem ajQ:bo E 72=21:=rfl
theorem aq3:bh E 72=(Tryz.f72.body).getD .skip:=rfl
theorem ahH:bg E 72=Tryz.f72.results.toList:=rfl
theorem C6:resK 72=[none]:=rfl
theorem OD:isRef 72=false:=rfl
theorem Oe:keep 72 0=[(1,[]),(2,[]),(5,[])]:=rfl
theorem nt73:bo E 73=23:=rfl
theorem co73:bh E 73=(Tryz.f73.body).getD .skip:=rfl
theorem re73:bg E 73=Tryz.f73.results.toList:=rfl
theorem JE:resK 73=[some 1,some 1,none]:=rfl
theorem OC:isRef 73=false:=rfl
theorem ace:bo E 74=70:=rfl
theorem ae7:bh E 74=(Tryz.f74.body).getD .skip:=rfl
theorem abJ:bg E 74=Tryz.f74.results.toList:=rfl
theorem Sj:resK 74=[some 1,some 1,none]:=rfl
theorem ir74:isRef 74=false:=rfl
theorem DA:keep 74 2=[(9,[]),(14,[(0,1,false)]),(53,[]),(54,[])]:=rfl
theorem DB:keep 74 0=[(2,[]),(9,[(0,1,false)]),(27,[]),(28,[]),(29,[])]:=rfl
theorem ajP:bo E 75=23:=rfl
theorem aq2:bh E 75=(Tryz.f75.body).getD .skip:=rfl
theorem ahG:bg E 75=Tryz.f75.results.toList:=rfl
theorem abz:resK 75=[some 1,none]:=rfl
theorem ir75:isRef 75=true:=rfl
theorem Od:keep 75 0=[(6,[]),(7,[]),(14,[]),(15,[])]:=rfl
theorem ajO:bo E 76=26:=rfl
theorem aq1:bh E 76=(Tryz.f76.body).getD .skip:=rfl
theorem ahF:bg E 76=Tryz.f76.results.toList:=rfl
theorem Mh:resK 76=[none]:=rfl
theorem ac9:isRef 76=true:=rfl
theorem Oc:keep 76 0=[(0,[]),(2,[]),(3,[]),(8,[]),(9,[]),(10,[])]:=rfl
theorem nt77:bo E 77=9:=rfl
theorem co77:bh E 77=(Tryz.f77.body).getD .skip:=rfl
theorem re77:bg E 77=Tryz.f77.results.toList:=rfl
theorem aby:resK 77=[none]:=rfl
theorem al5:isRef 77=false:=rfl
theorem acd:bo E 78=60:=rfl
theorem ae6:bh E 78=(Tryz.f78.body).getD .skip:=rfl
theorem abI:bg E 78=Tryz.f78.results.toList:=rfl
theorem uM:resK 78=[none,none]:=rfl
theorem BJ:isRef 78=false:=rfl
theorem Dy:keep 78 3=[(1,[]),(44,[]),(45,[]),(46,[])]:=rfl
theorem Dz:keep 78 1=[(1,[]),(27,[]),(28,[]),(29,[])]:=rfl
theorem Nz:bo E 79=148:=rfl
theorem Qw:bh E 79=(Tryz.f79.body).getD .skip:=rfl
theorem M6:bg E 79=Tryz.f79.results.toList:=rfl
theorem yI:resK 79=[some 1,none]:=rfl
theorem Tx:isRef 79=false:=rfl
theorem vA:keep 79 6=[(2,[]),(3,[]),(11,[]),(123,[]),(124,[]),(125,[])]:=rfl
theorem vB:keep 79 4=[(2,[]),(3,[]),(10,[]),(11,[]),(104,[]),(105,[]),(106,[])]:=rfl
theorem vC:keep 79 2=[(2,[]),(3,[]),(9,[]),(10,[]),(11,[]),(80,[]),(81,[]),(82,[])]:=rfl
theorem vD:keep 79 0=[(2,[]),(3,[]),(7,[]),(9,[]),(10,[]),(11,[]),(51,[]),(52,[]),(53,[])]:=rfl
theorem ajN:bo E 80=25:=rfl
theorem aq0:bh E 80=(Tryz.f80.body).getD .skip:=rfl
theorem ahE:bg E 80=Tryz.f80.results.toList:=rfl
theorem Si:resK 80=[none]:=rfl
theorem al4:isRef 80=false:=rfl
theorem Ob:keep 80 0=[(0,[]),(1,[]),(5,[]),(6,[])]:=rfl
theorem nt81:bo E 81=20:=rfl
theorem co81:bh E 81=(Tryz.f81.body).getD .skip:=rfl
theorem re81:bg E 81=Tryz.f81.results.toList:=rfl
theorem yH:resK 81=[none]:=rfl
theorem BI:isRef 81=false:=rfl
theorem nt82:bo E 82=46:=rfl
theorem co82:bh E 82=(Tryz.f82.body).getD .skip:=rfl
theorem re82:bg E 82=Tryz.f82.results.toList:=rfl
theorem ahp:resK 82=[none]:=rfl
theorem ir82:isRef 82=false:=rfl
theorem nt83:bo E 83=8:=rfl
theorem co83:bh E 83=(Tryz.f83.body).getD .skip:=rfl
theorem re83:bg E 83=Tryz.f83.results.toList:=rfl
theorem rk83:resK 83=[some 4]:=rfl
theorem nt86:bo E 86=95:=rfl
theorem co86:bh E 86=(Tryz.f86.body).getD .skip:=rfl
theorem re86:bg E 86=Tryz.f86.results.toList:=rfl
theorem rk86:resK 86=[some 4]:=rfl
theorem nt89:bo E 89=9:=rfl
theorem co89:bh E 89=(Tryz.f89.body).getD .skip:=rfl
theorem re89:bg E 89=Tryz.f89.results.toList:=rfl
theorem Mg:resK 89=[none]:=rfl
theorem Tw:isRef 89=false:=rfl
theorem nt90:bo E 90=30:=rfl
theorem co90:bh E 90=(Tryz.f90.body).getD .skip:=rfl
theorem re90:bg E 90=Tryz.f90.results.toList:=rfl
theorem Sh:resK 90=[none]:=rfl
theorem ac8:isRef 90=false:=rfl
theorem nt91:bo E 91=33:=rfl
theorem co91:bh E 91=(Tryz.f91.body).getD .skip:=rfl
theorem re91:bg E 91=Tryz.f91.results.toList:=rfl
theorem Sg:resK 91=[none]:=rfl
theorem ac7:isRef 91=false:=rfl
theorem nt92:bo E 92=15:=rfl
theorem co92:bh E 92=(Tryz.f92.body).getD .skip:=rfl
theorem re92:bg E 92=Tryz.f92.results.toList:=rfl
theorem uL:resK 92=[none]:=rfl
theorem xa:isRef 92=false:=rfl
theorem nt93:bo E 93=25:=rfl
theorem co93:bh E 93=(Tryz.f93.body).getD .skip:=rfl
theorem re93:bg E 93=Tryz.f93.results.toList:=rfl
theorem aho:resK 93=[none]:=rfl
theorem al3:isRef 93=false:=rfl
theorem SY:bo E 94=19:=rfl
theorem Vl:bh E 94=(Tryz.f94.body).getD .skip:=rfl
theorem Sx:bg E 94=Tryz.f94.results.toList:=rfl
theorem JD:resK 94=[none]:=rfl
theorem al2:isRef 94=false:=rfl
theorem zf:keep 94 0=[(0,[]),(1,[]),(7,[]),(8,[])]:=rfl
theorem nt95:bo E 95=8:=rfl
theorem co95:bh E 95=(Tryz.f95.body).getD .skip:=rfl
theorem re95:bg E 95=Tryz.f95.results.toList:=rfl
theorem Mf:resK 95=[some 1]:=rfl
theorem Tv:isRef 95=false:=rfl
theorem nt98:bo E 98=13:=rfl
theorem co98:bh E 98=(Tryz.f98.body).getD .skip:=rfl
theorem re98:bg E 98=Tryz.f98.results.toList:=rfl
theorem ahn:resK 98=[none]:=rfl
theorem ir98:isRef 98=false:=rfl
theorem ajM:bo E 99=37:=rfl
theorem aqZ:bh E 99=(Tryz.f99.body).getD .skip:=rfl
theorem ahD:bg E 99=Tryz.f99.results.toList:=rfl
theorem abx:resK 99=[none]:=rfl
theorem ac6:isRef 99=false:=rfl
theorem Oa:keep 99 0=[(1,[]),(2,[]),(5,[])]:=rfl
theorem als:bo E 100=6:=rfl
theorem asJ:bh E 100=(Tryz.f100.body).getD .skip:=rfl
theorem ajj:bg E 100=Tryz.f100.results.toList:=rfl
theorem nv:resK 100=[none]:=rfl
theorem pf:isRef 100=false:=rfl
theorem alr:bo E 101=24:=rfl
theorem asI:bh E 101=(Tryz.f101.body).getD .skip:=rfl
theorem aji:bg E 101=Tryz.f101.results.toList:=rfl
theorem uS:resK 101=[some 4]:=rfl
theorem vO:isRef 101=false:=rfl
theorem alq:bo E 102=38:=rfl
theorem asH:bh E 102=(Tryz.f102.body).getD .skip:=rfl
theorem ajh:bg E 102=Tryz.f102.results.toList:=rfl
theorem Bi:resK 102=[none]:=rfl
theorem H8:isRef 102=false:=rfl
theorem alp:bo E 103=16:=rfl
theorem asG:bh E 103=(Tryz.f103.body).getD .skip:=rfl
theorem ajg:bg E 103=Tryz.f103.results.toList:=rfl
theorem M1:resK 103=[none]:=rfl
theorem Zb:isRef 103=false:=rfl
theorem NN:bo E 104=114:=rfl
theorem QJ:bh E 104=(Tryz.f104.body).getD .skip:=rfl
theorem Nk:bg E 104=Tryz.f104.results.toList:=rfl
theorem uR:resK 104=[none]:=rfl
theorem H7:isRef 104=false:=rfl
theorem zF:keep 104 2=[(3,[]),(13,[])]:=rfl
theorem zG:keep 104 0=[(2,[]),(3,[]),(8,[])]:=rfl
theorem Yq:bo E 105=56:=rfl
theorem Z7:bh E 105=(Tryz.f105.body).getD .skip:=rfl
theorem XF:bg E 105=Tryz.f105.results.toList:=rfl
theorem M0:resK 105=[none]:=rfl
theorem am0:isRef 105=false:=rfl
theorem HP:keep 105 0=[(2,[]),(3,[]),(6,[])]:=rfl
theorem alo:bo E 106=33:=rfl
theorem asF:bh E 106=(Tryz.f106.body).getD .skip:=rfl
theorem ajf:bg E 106=Tryz.f106.results.toList:=rfl
theorem WK:resK 106=[none]:=rfl
theorem amZ:isRef 106=false:=rfl
theorem NM:bo E 107=25:=rfl
theorem QI:bh E 107=(Tryz.f107.body).getD .skip:=rfl
theorem Nj:bg E 107=Tryz.f107.results.toList:=rfl
theorem Bh:resK 107=[none]:=rfl
theorem Za:isRef 107=false:=rfl
theorem zD:keep 107 2=[(0,[]),(3,[]),(4,[])]:=rfl
theorem zE:keep 107 0=[(0,[]),(3,[])]:=rfl
theorem aln:bo E 108=22:=rfl
theorem asE:bh E 108=(Tryz.f108.body).getD .skip:=rfl
theorem aje:bg E 108=Tryz.f108.results.toList:=rfl
theorem MZ:resK 108=[some 1,some 1]:=rfl
theorem Y9:isRef 108=false:=rfl
theorem NL:bo E 109=62:=rfl
theorem QH:bh E 109=(Tryz.f109.body).getD .skip:=rfl
theorem Ni:bg E 109=Tryz.f109.results.toList:=rfl
theorem GM:resK 109=[none]:=rfl
theorem amY:isRef 109=false:=rfl
theorem zB:keep 109 2=[(3,[]),(4,[]),(5,[]),(10,[])]:=rfl
theorem zC:keep 109 0=[(2,[]),(3,[]),(4,[]),(5,[]),(9,[])]:=rfl
theorem alm:bo E 110=24:=rfl
theorem asD:bh E 110=(Tryz.f110.body).getD .skip:=rfl
theorem ajd:bg E 110=Tryz.f110.results.toList:=rfl
theorem WJ:resK 110=[none]:=rfl
theorem amX:isRef 110=false:=rfl
theorem alk:bo E 111=22:=rfl
theorem asC:bh E 111=(Tryz.f111.body).getD .skip:=rfl
theorem ajc:bg E 111=Tryz.f111.results.toList:=rfl
theorem WI:resK 111=[some 1,some 1]:=rfl
theorem amW:isRef 111=false:=rfl
theorem alj:bo E 112=9:=rfl
theorem asB:bh E 112=(Tryz.f112.body).getD .skip:=rfl
theorem ajb:bg E 112=Tryz.f112.results.toList:=rfl
theorem xK:resK 112=[none]:=rfl
theorem BS:isRef 112=false:=rfl
theorem Yp:bo E 113=45:=rfl
theorem Z6:bh E 113=(Tryz.f113.body).getD .skip:=rfl
theorem XE:bg E 113=Tryz.f113.results.toList:=rfl
theorem xJ:resK 113=[none]:=rfl
theorem H6:isRef 113=true:=rfl
theorem HO:keep 113 0=[(0,[]),(1,[]),(4,[]),(5,[]),(9,[])]:=rfl
theorem ali:bo E 114=8:=rfl
theorem asA:bh E 114=(Tryz.f114.body).getD .skip:=rfl
theorem aja:bg E 114=Tryz.f114.results.toList:=rfl
theorem GL:resK 114=[none]:=rfl
theorem Pd:isRef 114=false:=rfl
theorem Yo:bo E 115=25:=rfl
theorem Z5:bh E 115=(Tryz.f115.body).getD .skip:=rfl
theorem XD:bg E 115=Tryz.f115.results.toList:=rfl
theorem MY:resK 115=[none]:=rfl
theorem amV:isRef 115=false:=rfl
theorem HN:keep 115 0=[(0,[]),(1,[]),(5,[]),(8,[]),(9,[])]:=rfl
theorem Yn:bo E 116=70:=rfl
theorem Z4:bh E 116=(Tryz.f116.body).getD .skip:=rfl
theorem XC:bg E 116=Tryz.f116.results.toList:=rfl
theorem Bg:resK 116=[none]:=rfl
theorem Pc:isRef 116=false:=rfl
theorem HM:keep 116 1=[(6,[]),(7,[])]:=rfl
theorem alh:bo E 117=52:=rfl
theorem asz:bh E 117=(Tryz.f117.body).getD .skip:=rfl
theorem ai9:bg E 117=Tryz.f117.results.toList:=rfl
theorem GK:resK 117=[none]:=rfl
theorem Pb:isRef 117=false:=rfl
theorem alg:bo E 118=23:=rfl
theorem asy:bh E 118=(Tryz.f118.body).getD .skip:=rfl
theorem ai8:bg E 118=Tryz.f118.results.toList:=rfl
theorem xI:resK 118=[some 1,some 1,none]:=rfl
theorem BR:isRef 118=false:=rfl
theorem alf:bo E 119=23:=rfl
theorem asx:bh E 119=(Tryz.f119.body).getD .skip:=rfl
theorem ai7:bg E 119=Tryz.f119.results.toList:=rfl
theorem xH:resK 119=[some 1,some 1,none]:=rfl
theorem BQ:isRef 119=false:=rfl
theorem Ym:bo E 120=32:=rfl
theorem Z3:bh E 120=(Tryz.f120.body).getD .skip:=rfl
theorem XB:bg E 120=Tryz.f120.results.toList:=rfl
theorem uQ:resK 120=[some 1,none]:=rfl
theorem BP:isRef 120=false:=rfl
theorem HL:keep 120 0=[(1,[]),(2,[]),(7,[(0,1,false)]),(18,[]),(19,[])]:=rfl
theorem ale:bo E 121=6:=rfl
theorem asw:bh E 121=(Tryz.f121.body).getD .skip:=rfl
theorem ai6:bg E 121=Tryz.f121.results.toList:=rfl
theorem GJ:resK 121=[none]:=rfl
theorem Pa:isRef 121=false:=rfl
theorem ald:bo E 122=12:=rfl
theorem asv:bh E 122=(Tryz.f122.body).getD .skip:=rfl
theorem ai5:bg E 122=Tryz.f122.results.toList:=rfl
theorem MW:resK 122=[none]:=rfl
theorem Y8:isRef 122=false:=rfl
theorem NK:bo E 123=9:=rfl
theorem QG:bh E 123=(Tryz.f123.body).getD .skip:=rfl
theorem Nh:bg E 123=Tryz.f123.results.toList:=rfl
theorem uP:resK 123=[none]:=rfl
theorem H5:isRef 123=false:=rfl
theorem alc:bo E 124=10:=rfl
theorem asu:bh E 124=(Tryz.f124.body).getD .skip:=rfl
theorem ai4:bg E 124=Tryz.f124.results.toList:=rfl
theorem GI:resK 124=[none]:=rfl
theorem O9:isRef 124=false:=rfl
theorem alb:bo E 125=22:=rfl
theorem ast:bh E 125=(Tryz.f125.body).getD .skip:=rfl
theorem ai3:bg E 125=Tryz.f125.results.toList:=rfl
theorem WH:resK 125=[none]:=rfl
theorem amU:isRef 125=false:=rfl
theorem ala:bo E 126=18:=rfl
theorem ass:bh E 126=(Tryz.f126.body).getD .skip:=rfl
theorem ai2:bg E 126=Tryz.f126.results.toList:=rfl
theorem xG:resK 126=[none]:=rfl
theorem BO:isRef 126=false:=rfl
theorem ak9:bo E 127=12:=rfl
theorem asr:bh E 127=(Tryz.f127.body).getD .skip:=rfl
theorem ai1:bg E 127=Tryz.f127.results.toList:=rfl
theorem GH:resK 127=[none]:=rfl
theorem O8:isRef 127=false:=rfl
theorem ak8:bo E 131=32:=rfl
theorem asq:bh E 131=(Tryz.f131.body).getD .skip:=rfl
theorem ai0:bg E 131=Tryz.f131.results.toList:=rfl
theorem WG:resK 131=[none]:=rfl
theorem amS:isRef 131=false:=rfl
theorem NI:bo E 132=34:=rfl
theorem QE:bh E 132=(Tryz.f132.body).getD .skip:=rfl
theorem Nf:bg E 132=Tryz.f132.results.toList:=rfl
theorem GG:resK 132=[none]:=rfl
theorem amR:isRef 132=false:=rfl
theorem zw:keep 132 2=[(0,[]),(3,[]),(4,[])]:=rfl
theorem zx:keep 132 0=[(0,[]),(3,[])]:=rfl
theorem NH:bo E 133=57:=rfl
theorem QD:bh E 133=(Tryz.f133.body).getD .skip:=rfl
theorem Nd:bg E 133=Tryz.f133.results.toList:=rfl
theorem sH:resK 133=[none]:=rfl
theorem BN:isRef 133=false:=rfl
theorem zu:keep 133 2=[(2,[]),(3,[]),(6,[])]:=rfl
theorem zv:keep 133 0=[(2,[]),(3,[]),(5,[])]:=rfl
theorem ak7:bo E 134=51:=rfl
theorem asp:bh E 134=(Tryz.f134.body).getD .skip:=rfl
theorem aiZ:bg E 134=Tryz.f134.results.toList:=rfl
theorem GF:resK 134=[none,none,none,none,none]:=rfl
theorem O7:isRef 134=false:=rfl
theorem ak6:bo E 135=9:=rfl
theorem aso:bh E 135=(Tryz.f135.body).getD .skip:=rfl
theorem aiY:bg E 135=Tryz.f135.results.toList:=rfl
theorem GD:resK 135=[none]:=rfl
theorem O6:isRef 135=false:=rfl
theorem Yl:bo E 136=31:=rfl
theorem Z2:bh E 136=(Tryz.f136.body).getD .skip:=rfl
theorem XA:bg E 136=Tryz.f136.results.toList:=rfl
theorem Bf:resK 136=[none]:=rfl
theorem O5:isRef 136=false:=rfl
theorem HK:keep 136 0=[(0,[]),(1,[]),(5,[])]:=rfl
theorem Yk:bo E 137=22:=rfl
theorem Z1:bh E 137=(Tryz.f137.body).getD .skip:=rfl
theorem Xz:bg E 137=Tryz.f137.results.toList:=rfl
theorem Be:resK 137=[none]:=rfl
theorem O4:isRef 137=false:=rfl
theorem HJ:keep 137 0=[(1,[]),(2,[]),(5,[])]:=rfl
theorem Yj:bo E 138=101:=rfl
theorem Z0:bh E 138=(Tryz.f138.body).getD .skip:=rfl
theorem Xy:bg E 138=Tryz.f138.results.toList:=rfl
theorem GC:resK 138=[none]:=rfl
theorem Y7:isRef 138=false:=rfl
theorem HI:keep 138 0=[(2,[]),(4,[]),(7,[]),(10,[])]:=rfl
theorem ak5:bo E 139=14:=rfl
theorem asn:bh E 139=(Tryz.f139.body).getD .skip:=rfl
theorem aiX:bg E 139=Tryz.f139.results.toList:=rfl
theorem Bb:resK 139=[none]:=rfl
theorem H4:isRef 139=false:=rfl
theorem NG:bo E 140=85:=rfl
theorem QC:bh E 140=(Tryz.f140.body).getD .skip:=rfl
theorem Nc:bg E 140=Tryz.f140.results.toList:=rfl
theorem GB:resK 140=[some 1,some 3,some 1,some 1,none]:=rfl
theorem amQ:isRef 140=false:=rfl
theorem zr:keep 140 2=[(2,[]),(3,[]),(4,[]),(5,[]),(8,[(1,3,false)]),(10,[])]:=rfl
theorem zt:keep 140 0=[(2,[]),(3,[]),(4,[]),(5,[]),(8,[(0,1,false)]),(9,[])]:=rfl
theorem NF:bo E 141=141:=rfl
theorem QB:bh E 141=(Tryz.f141.body).getD .skip:=rfl
theorem Nb:bg E 141=Tryz.f141.results.toList:=rfl
theorem uO:resK 141=[none]:=rfl
theorem H3:isRef 141=false:=rfl
theorem zp:keep 141 2=[(3,[]),(4,[]),(5,[]),(10,[])]:=rfl
theorem zq:keep 141 0=[(3,[]),(4,[]),(5,[]),(9,[])]:=rfl
theorem Yi:bo E 142=21:=rfl
theorem ZZ:bh E 142=(Tryz.f142.body).getD .skip:=rfl
theorem Xx:bg E 142=Tryz.f142.results.toList:=rfl
theorem GA:resK 142=[some 1]:=rfl
theorem Y6:isRef 142=false:=rfl
theorem HH:keep 142 0=[(0,[]),(1,[]),(5,[(0,1,false)]),(6,[])]:=rfl
theorem ak4:bo E 143=19:=rfl
theorem asm:bh E 143=(Tryz.f143.body).getD .skip:=rfl
theorem aiW:bg E 143=Tryz.f143.results.toList:=rfl
theorem WD:resK 143=[none]:=rfl
theorem amP:isRef 143=false:=rfl
theorem Yh:bo E 144=65:=rfl
theorem ZY:bh E 144=(Tryz.f144.body).getD .skip:=rfl
theorem Xw:bg E 144=Tryz.f144.results.toList:=rfl
theorem MV:resK 144=[none]:=rfl
theorem O3:isRef 144=false:=rfl
theorem HG:keep 144 0=[(3,[]),(5,[]),(7,[]),(10,[])]:=rfl
theorem ak3:bo E 145=12:=rfl
theorem asl:bh E 145=(Tryz.f145.body).getD .skip:=rfl
theorem aiV:bg E 145=Tryz.f145.results.toList:=rfl
theorem sG:resK 145=[none]:=rfl
theorem vN:isRef 145=false:=rfl
theorem ak2:bo E 146=9:=rfl
theorem asj:bh E 146=(Tryz.f146.body).getD .skip:=rfl
theorem aiU:bg E 146=Tryz.f146.results.toList:=rfl
theorem MU:resK 146=[none]:=rfl
theorem Y5:isRef 146=false:=rfl
theorem ak1:bo E 147=9:=rfl
theorem asi:bh E 147=(Tryz.f147.body).getD .skip:=rfl
theorem aiT:bg E 147=Tryz.f147.results.toList:=rfl
theorem Ba:resK 147=[none]:=rfl
theorem H2:isRef 147=false:=rfl
theorem ak0:bo E 148=26:=rfl
theorem ash:bh E 148=(Tryz.f148.body).getD .skip:=rfl
theorem aiS:bg E 148=Tryz.f148.results.toList:=rfl
theorem A9:resK 148=[some 4]:=rfl
theorem BM:isRef 148=false:=rfl
theorem akZ:bo E 149=55:=rfl
theorem asg:bh E 149=(Tryz.f149.body).getD .skip:=rfl
theorem aiR:bg E 149=Tryz.f149.results.toList:=rfl
theorem MT:resK 149=[none]:=rfl
theorem Y4:isRef 149=false:=rfl
theorem akY:bo E 150=13:=rfl
theorem asf:bh E 150=(Tryz.f150.body).getD .skip:=rfl
theorem aiQ:bg E 150=Tryz.f150.results.toList:=rfl
theorem WC:resK 150=[none]:=rfl
theorem amO:isRef 150=false:=rfl
theorem akX:bo E 151=9:=rfl
theorem ase:bh E 151=(Tryz.f151.body).getD .skip:=rfl
theorem aiP:bg E 151=Tryz.f151.results.toList:=rfl
theorem WB:resK 151=[none]:=rfl
theorem amN:isRef 151=false:=rfl
theorem akW:bo E 152=9:=rfl
theorem asd:bh E 152=(Tryz.f152.body).getD .skip:=rfl
theorem aiO:bg E 152=Tryz.f152.results.toList:=rfl
theorem Gz:resK 152=[none]:=rfl
theorem O2:isRef 152=false:=rfl
theorem akV:bo E 153=24:=rfl
theorem asb:bh E 153=(Tryz.f153.body).getD .skip:=rfl
theorem aiN:bg E 153=Tryz.f153.results.toList:=rfl
theorem Wz:resK 153=[none]:=rfl
theorem amM:isRef 153=false:=rfl
theorem akU:bo E 154=61:=rfl
theorem asa:bh E 154=(Tryz.f154.body).getD .skip:=rfl
theorem aiM:bg E 154=Tryz.f154.results.toList:=rfl
theorem MS:resK 154=[none]:=rfl
theorem Y3:isRef 154=false:=rfl
theorem akT:bo E 155=22:=rfl
theorem ar9:bh E 155=(Tryz.f155.body).getD .skip:=rfl
theorem aiL:bg E 155=Tryz.f155.results.toList:=rfl
theorem Wy:resK 155=[some 1,some 1]:=rfl
theorem amL:isRef 155=false:=rfl
theorem akS:bo E 156=22:=rfl
theorem ar8:bh E 156=(Tryz.f156.body).getD .skip:=rfl
theorem aiK:bg E 156=Tryz.f156.results.toList:=rfl
theorem MR:resK 156=[some 1,some 1]:=rfl
theorem Y2:isRef 156=false:=rfl
theorem xU:bo E 157=19:=rfl
theorem yn:bh E 157=(Tryz.f157.body).getD .skip:=rfl
theorem xN:bg E 157=Tryz.f157.results.toList:=rfl
theorem qm:resK 157=[none]:=rfl
theorem O1:isRef 157=false:=rfl
theorem oH:keep 157 0=[(0,[]),(1,[]),(7,[]),(8,[])]:=rfl
theorem akR:bo E 158=13:=rfl
theorem ar7:bh E 158=(Tryz.f158.body).getD .skip:=rfl
theorem aiJ:bg E 158=Tryz.f158.results.toList:=rfl
theorem Gy:resK 158=[none]:=rfl
theorem O0:isRef 158=false:=rfl
theorem akQ:bo E 159=9:=rfl
theorem ar6:bh E 159=(Tryz.f159.body).getD .skip:=rfl
theorem aiI:bg E 159=Tryz.f159.results.toList:=rfl
theorem Gx:resK 159=[none]:=rfl
theorem OZ:isRef 159=false:=rfl
theorem Yg:bo E 160=21:=rfl
theorem ZX:bh E 160=(Tryz.f160.body).getD .skip:=rfl
theorem Xv:bg E 160=Tryz.f160.results.toList:=rfl
theorem MQ:resK 160=[some 1]:=rfl
theorem amK:isRef 160=false:=rfl
theorem HF:keep 160 0=[(1,[]),(2,[]),(5,[(0,1,false)])]:=rfl
theorem akP:bo E 162=12:=rfl
theorem ar5:bh E 162=(Tryz.f162.body).getD .skip:=rfl
theorem aiH:bg E 162=Tryz.f162.results.toList:=rfl
theorem Wx:resK 162=[none]:=rfl
theorem amJ:isRef 162=false:=rfl
theorem Yf:bo E 163=110:=rfl
theorem ZW:bh E 163=(Tryz.f163.body).getD .skip:=rfl
theorem Xu:bg E 163=Tryz.f163.results.toList:=rfl
theorem MP:resK 163=[none,none,none,none,none]:=rfl
theorem amI:isRef 163=false:=rfl
theorem HE:keep 163 0=[(0,[]),(1,[]),(4,[]),(12,[]),(13,[])]:=rfl
theorem Ye:bo E 164=41:=rfl
theorem ZV:bh E 164=(Tryz.f164.body).getD .skip:=rfl
theorem Xt:bg E 164=Tryz.f164.results.toList:=rfl
theorem A8:resK 164=[some 4,none]:=rfl
theorem OY:isRef 164=false:=rfl
theorem HD:keep 164 0=[(7,[(0,4,false)]),(8,[]),(9,[])]:=rfl
theorem akO:bo E 165=25:=rfl
theorem ar4:bh E 165=(Tryz.f165.body).getD .skip:=rfl
theorem aiG:bg E 165=Tryz.f165.results.toList:=rfl
theorem MO:resK 165=[none]:=rfl
theorem Y1:isRef 165=false:=rfl
theorem Yd:bo E 166=57:=rfl
theorem ZU:bh E 166=(Tryz.f166.body).getD .skip:=rfl
theorem Xs:bg E 166=Tryz.f166.results.toList:=rfl
theorem MN:resK 166=[none]:=rfl
theorem amH:isRef 166=false:=rfl
theorem HC:keep 166 0=[(2,[]),(3,[]),(7,[])]:=rfl
theorem Yc:bo E 167=19:=rfl
theorem ZT:bh E 167=(Tryz.f167.body).getD .skip:=rfl
theorem Xr:bg E 167=Tryz.f167.results.toList:=rfl
theorem A7:resK 167=[none]:=rfl
theorem OX:isRef 167=false:=rfl
theorem HB:keep 167 0=[(0,[]),(1,[]),(5,[])]:=rfl
theorem Yb:bo E 168=18:=rfl
theorem ZS:bh E 168=(Tryz.f168.body).getD .skip:=rfl
theorem Xq:bg E 168=Tryz.f168.results.toList:=rfl
theorem Gw:resK 168=[none]:=rfl
theorem Y0:isRef 168=false:=rfl
theorem HA:keep 168 0=[(0,[]),(1,[]),(5,[])]:=rfl
theorem Ya:bo E 169=21:=rfl
theorem ZR:bh E 169=(Tryz.f169.body).getD .skip:=rfl
theorem Xp:bg E 169=Tryz.f169.results.toList:=rfl
theorem MM:resK 169=[none]:=rfl
theorem OW:isRef 169=false:=rfl
theorem Hz:keep 169 0=[(1,[]),(3,[])]:=rfl
theorem X9:bo E 170=38:=rfl
theorem ZQ:bh E 170=(Tryz.f170.body).getD .skip:=rfl
theorem Xo:bg E 170=Tryz.f170.results.toList:=rfl
theorem ML:resK 170=[none,none]:=rfl
theorem OV:isRef 170=false:=rfl
theorem Hx:keep 170 0=[(1,[]),(4,[]),(5,[]),(6,[])]:=rfl
theorem X8:bo E 171=31:=rfl
theorem ZP:bh E 171=(Tryz.f171.body).getD .skip:=rfl
theorem Xn:bg E 171=Tryz.f171.results.toList:=rfl
theorem Gv:resK 171=[none]:=rfl
theorem YZ:isRef 171=false:=rfl
theorem Hw:keep 171 0=[(5,[]),(7,[]),(8,[])]:=rfl
theorem akN:bo E 172=22:=rfl
theorem ar3:bh E 172=(Tryz.f172.body).getD .skip:=rfl
theorem aiF:bg E 172=Tryz.f172.results.toList:=rfl
theorem MK:resK 172=[none]:=rfl
theorem YY:isRef 172=false:=rfl
theorem akM:bo E 173=39:=rfl
theorem ar2:bh E 173=(Tryz.f173.body).getD .skip:=rfl
theorem aiE:bg E 173=Tryz.f173.results.toList:=rfl
theorem Ww:resK 173=[none,none]:=rfl
theorem amG:isRef 173=false:=rfl
theorem X7:bo E 174=19:=rfl
theorem ZO:bh E 174=(Tryz.f174.body).getD .skip:=rfl
theorem Xm:bg E 174=Tryz.f174.results.toList:=rfl
theorem MJ:resK 174=[none]:=rfl
theorem amF:isRef 174=false:=rfl
theorem Hv:keep 174 0=[(0,[]),(1,[]),(7,[]),(8,[])]:=rfl
theorem akL:bo E 175=9:=rfl
theorem ar1:bh E 175=(Tryz.f175.body).getD .skip:=rfl
theorem aiD:bg E 175=Tryz.f175.results.toList:=rfl
theorem Wv:resK 175=[none]:=rfl
theorem amE:isRef 175=false:=rfl
theorem akK:bo E 176=9:=rfl
theorem ar0:bh E 176=(Tryz.f176.body).getD .skip:=rfl
theorem aiC:bg E 176=Tryz.f176.results.toList:=rfl
theorem Gu:resK 176=[none]:=rfl
theorem OU:isRef 176=false:=rfl
theorem X6:bo E 177=26:=rfl
theorem ZN:bh E 177=(Tryz.f177.body).getD .skip:=rfl
theorem Xl:bg E 177=Tryz.f177.results.toList:=rfl
theorem MI:resK 177=[none]:=rfl
theorem amD:isRef 177=false:=rfl
theorem Hu:keep 177 0=[(0,[]),(8,[]),(9,[]),(10,[])]:=rfl
theorem X5:bo E 178=19:=rfl
theorem ZM:bh E 178=(Tryz.f178.body).getD .skip:=rfl
theorem Xk:bg E 178=Tryz.f178.results.toList:=rfl
theorem MH:resK 178=[none]:=rfl
theorem amC:isRef 178=false:=rfl
theorem Ht:keep 178 0=[(0,[]),(1,[]),(7,[]),(8,[])]:=rfl
theorem X4:bo E 179=110:=rfl
theorem ZL:bh E 179=(Tryz.f179.body).getD .skip:=rfl
theorem Xj:bg E 179=Tryz.f179.results.toList:=rfl
theorem xF:resK 179=[none]:=rfl
theorem H0:isRef 179=false:=rfl
theorem Hs:keep 179 0=[(2,[]),(3,[]),(8,[]),(58,[]),(59,[]),(60,[])]:=rfl
theorem X3:bo E 180=58:=rfl
theorem ZK:bh E 180=(Tryz.f180.body).getD .skip:=rfl
theorem Xi:bg E 180=Tryz.f180.results.toList:=rfl
theorem MG:resK 180=[none]:=rfl
theorem amB:isRef 180=false:=rfl
theorem Hr:keep 180 1=[(2,[]),(3,[]),(46,[]),(47,[])]:=rfl
theorem akJ:bo E 181=38:=rfl
theorem arZ:bh E 181=(Tryz.f181.body).getD .skip:=rfl
theorem aiB:bg E 181=Tryz.f181.results.toList:=rfl
theorem Wu:resK 181=[none]:=rfl
theorem amA:isRef 181=false:=rfl
theorem akI:bo E 182=19:=rfl
theorem arY:bh E 182=(Tryz.f182.body).getD .skip:=rfl
theorem aiA:bg E 182=Tryz.f182.results.toList:=rfl
theorem Wt:resK 182=[none]:=rfl
theorem amz:isRef 182=false:=rfl
theorem akH:bo E 183=24:=rfl
theorem arX:bh E 183=(Tryz.f183.body).getD .skip:=rfl
theorem aiz:bg E 183=Tryz.f183.results.toList:=rfl
theorem Ws:resK 183=[none]:=rfl
theorem amy:isRef 183=false:=rfl
theorem X2:bo E 184=21:=rfl
theorem ZJ:bh E 184=(Tryz.f184.body).getD .skip:=rfl
theorem Xh:bg E 184=Tryz.f184.results.toList:=rfl
theorem Gt:resK 184=[some 1]:=rfl
theorem YX:isRef 184=false:=rfl
theorem Hq:keep 184 0=[(0,[]),(5,[(0,1,false)]),(7,[]),(8,[])]:=rfl
theorem X1:bo E 185=19:=rfl
theorem ZI:bh E 185=(Tryz.f185.body).getD .skip:=rfl
theorem Xg:bg E 185=Tryz.f185.results.toList:=rfl
theorem MF:resK 185=[none]:=rfl
theorem amx:isRef 185=false:=rfl
theorem Hp:keep 185 0=[(0,[]),(1,[]),(7,[]),(8,[])]:=rfl
theorem X0:bo E 186=28:=rfl
theorem ZH:bh E 186=(Tryz.f186.body).getD .skip:=rfl
theorem Xf:bg E 186=Tryz.f186.results.toList:=rfl
theorem Gs:resK 186=[]:=rfl
theorem YW:isRef 186=true:=rfl
theorem Ho:keep 186 0=[(0,[]),(2,[]),(3,[])]:=rfl
theorem akG:bo E 188=17:=rfl
theorem arW:bh E 188=(Tryz.f188.body).getD .skip:=rfl
theorem aiy:bg E 188=Tryz.f188.results.toList:=rfl
theorem A6:resK 188=[none]:=rfl
theorem HZ:isRef 188=false:=rfl
theorem akF:bo E 189=9:=rfl
theorem arV:bh E 189=(Tryz.f189.body).getD .skip:=rfl
theorem aix:bg E 189=Tryz.f189.results.toList:=rfl
theorem A5:resK 189=[none]:=rfl
theorem HY:isRef 189=false:=rfl
theorem XZ:bo E 190=45:=rfl
theorem ZG:bh E 190=(Tryz.f190.body).getD .skip:=rfl
theorem Xe:bg E 190=Tryz.f190.results.toList:=rfl
theorem Gr:resK 190=[none]:=rfl
theorem YV:isRef 190=false:=rfl
theorem Hn:keep 190 0=[(0,[]),(1,[]),(2,[]),(7,[])]:=rfl
theorem XY:bo E 191=30:=rfl
theorem ZF:bh E 191=(Tryz.f191.body).getD .skip:=rfl
theorem Xd:bg E 191=Tryz.f191.results.toList:=rfl
theorem Gq:resK 191=[none]:=rfl
theorem YU:isRef 191=false:=rfl
theorem Hm:keep 191 0=[(0,[]),(1,[]),(5,[])]:=rfl
theorem akE:bo E 192=2:=rfl
theorem arU:bh E 192=(Tryz.f192.body).getD .skip:=rfl
theorem aiw:bg E 192=Tryz.f192.results.toList:=rfl
theorem ME:resK 192=[some 1]:=rfl
theorem YT:isRef 192=false:=rfl
theorem akD:bo E 193=24:=rfl
theorem arT:bh E 193=(Tryz.f193.body).getD .skip:=rfl
theorem aiv:bg E 193=Tryz.f193.results.toList:=rfl
theorem Wr:resK 193=[none]:=rfl
theorem amw:isRef 193=false:=rfl
theorem XX:bo E 194=39:=rfl
theorem ZE:bh E 194=(Tryz.f194.body).getD .skip:=rfl
theorem Xc:bg E 194=Tryz.f194.results.toList:=rfl
theorem Gp:resK 194=[none]:=rfl
theorem YS:isRef 194=false:=rfl
theorem Hl:keep 194 0=[(0,[]),(1,[]),(5,[])]:=rfl
theorem XW:bo E 195=18:=rfl
theorem ZD:bh E 195=(Tryz.f195.body).getD .skip:=rfl
theorem Xb:bg E 195=Tryz.f195.results.toList:=rfl
theorem Gn:resK 195=[none]:=rfl
theorem YR:isRef 195=false:=rfl
theorem Hk:keep 195 0=[(0,[]),(1,[]),(5,[])]:=rfl
theorem akC:bo E 196=42:=rfl
theorem arS:bh E 196=(Tryz.f196.body).getD .skip:=rfl
theorem aiu:bg E 196=Tryz.f196.results.toList:=rfl
theorem MD:resK 196=[none]:=rfl
theorem YQ:isRef 196=false:=rfl
theorem XV:bo E 197=22:=rfl
theorem ZC:bh E 197=(Tryz.f197.body).getD .skip:=rfl
theorem Xa:bg E 197=Tryz.f197.results.toList:=rfl
theorem Gm:resK 197=[none]:=rfl
theorem YP:isRef 197=false:=rfl
theorem Hj:keep 197 0=[(1,[]),(2,[]),(5,[])]:=rfl
theorem akB:bo E 198=45:=rfl
theorem arR:bh E 198=(Tryz.f198.body).getD .skip:=rfl
theorem ait:bg E 198=Tryz.f198.results.toList:=rfl
theorem Wq:resK 198=[none,none,none]:=rfl
theorem amv:isRef 198=false:=rfl
theorem XU:bo E 199=19:=rfl
theorem ZB:bh E 199=(Tryz.f199.body).getD .skip:=rfl
theorem WZ:bg E 199=Tryz.f199.results.toList:=rfl
theorem MC:resK 199=[none]:=rfl
theorem amu:isRef 199=false:=rfl
theorem Hi:keep 199 0=[(0,[]),(1,[]),(7,[]),(8,[])]:=rfl
theorem akA:bo E 200=9:=rfl
theorem arQ:bh E 200=(Tryz.f200.body).getD .skip:=rfl
theorem ais:bg E 200=Tryz.f200.results.toList:=rfl
theorem Gl:resK 200=[none]:=rfl
theorem OT:isRef 200=false:=rfl
theorem akz:bo E 201=9:=rfl
theorem arP:bh E 201=(Tryz.f201.body).getD .skip:=rfl
theorem air:bg E 201=Tryz.f201.results.toList:=rfl
theorem A4:resK 201=[none]:=rfl
theorem HX:isRef 201=false:=rfl
theorem aky:bo E 202=10:=rfl
theorem arO:bh E 202=(Tryz.f202.body).getD .skip:=rfl
theorem aiq:bg E 202=Tryz.f202.results.toList:=rfl
theorem A3:resK 202=[none]:=rfl
theorem HW:isRef 202=false:=rfl
theorem akx:bo E 203=15:=rfl
theorem arN:bh E 203=(Tryz.f203.body).getD .skip:=rfl
theorem aip:bg E 203=Tryz.f203.results.toList:=rfl
theorem Gk:resK 203=[none]:=rfl
theorem OS:isRef 203=false:=rfl
theorem akw:bo E 204=45:=rfl
theorem arM:bh E 204=(Tryz.f204.body).getD .skip:=rfl
theorem aio:bg E 204=Tryz.f204.results.toList:=rfl
theorem MB:resK 204=[none,none,none,none,none]:=rfl
theorem YO:isRef 204=false:=rfl
theorem XT:bo E 205=30:=rfl
theorem ZA:bh E 205=(Tryz.f205.body).getD .skip:=rfl
theorem WY:bg E 205=Tryz.f205.results.toList:=rfl
theorem Gj:resK 205=[none]:=rfl
theorem YN:isRef 205=false:=rfl
theorem Hh:keep 205 0=[(0,[]),(17,[]),(18,[]),(19,[])]:=rfl
theorem akv:bo E 206=17:=rfl
theorem arL:bh E 206=(Tryz.f206.body).getD .skip:=rfl
theorem ain:bg E 206=Tryz.f206.results.toList:=rfl
theorem MA:resK 206=[none]:=rfl
theorem YM:isRef 206=false:=rfl
theorem aku:bo E 207=85:=rfl
theorem arK:bh E 207=(Tryz.f207.body).getD .skip:=rfl
theorem aim:bg E 207=Tryz.f207.results.toList:=rfl
theorem Mz:resK 207=[none]:=rfl
theorem YL:isRef 207=false:=rfl
theorem ND:bo E 208=85:=rfl
theorem QA:bh E 208=(Tryz.f208.body).getD .skip:=rfl
theorem Na:bg E 208=Tryz.f208.results.toList:=rfl
theorem Gi:resK 208=[some 1,some 3,some 1,some 1,none]:=rfl
theorem amt:isRef 208=false:=rfl
theorem zn:keep 208 2=[(2,[]),(3,[]),(4,[]),(5,[]),(8,[(1,3,false)]),(41,[]),(42,[]),(43,[])]:=rfl
theorem zo:keep 208 0=[(2,[]),(3,[]),(4,[]),(5,[]),(8,[(0,1,false)]),(23,[]),(24,[]),(25,[])]:=rfl
theorem NC:bo E 209=123:=rfl
theorem Qz:bh E 209=(Tryz.f209.body).getD .skip:=rfl
theorem M9:bg E 209=Tryz.f209.results.toList:=rfl
theorem uN:resK 209=[none]:=rfl
theorem HV:isRef 209=false:=rfl
theorem zl:keep 209 2=[(3,[]),(4,[]),(5,[]),(71,[]),(72,[]),(73,[])]:=rfl
theorem zm:keep 209 0=[(3,[]),(4,[]),(5,[]),(42,[]),(43,[]),(44,[])]:=rfl
theorem akt:bo E 210=30:=rfl
theorem arJ:bh E 210=(Tryz.f210.body).getD .skip:=rfl
theorem ail:bg E 210=Tryz.f210.results.toList:=rfl
theorem Gh:resK 210=[none]:=rfl
theorem OR:isRef 210=false:=rfl
theorem aks:bo E 211=15:=rfl
theorem arI:bh E 211=(Tryz.f211.body).getD .skip:=rfl
theorem aik:bg E 211=Tryz.f211.results.toList:=rfl
theorem Gg:resK 211=[none]:=rfl
theorem OQ:isRef 211=false:=rfl
theorem akr:bo E 212=28:=rfl
theorem arH:bh E 212=(Tryz.f212.body).getD .skip:=rfl
theorem aij:bg E 212=Tryz.f212.results.toList:=rfl
theorem Gf:resK 212=[none]:=rfl
theorem OP:isRef 212=false:=rfl
theorem akq:bo E 213=19:=rfl
theorem arG:bh E 213=(Tryz.f213.body).getD .skip:=rfl
theorem aii:bg E 213=Tryz.f213.results.toList:=rfl
theorem Wp:resK 213=[none]:=rfl
theorem ams:isRef 213=false:=rfl
theorem XS:bo E 214=65:=rfl
theorem Zz:bh E 214=(Tryz.f214.body).getD .skip:=rfl
theorem WX:bg E 214=Tryz.f214.results.toList:=rfl
theorem My:resK 214=[none]:=rfl
theorem OO:isRef 214=false:=rfl
theorem Hg:keep 214 0=[(3,[]),(4,[]),(51,[]),(52,[]),(53,[])]:=rfl
theorem akp:bo E 215=45:=rfl
theorem arF:bh E 215=(Tryz.f215.body).getD .skip:=rfl
theorem aih:bg E 215=Tryz.f215.results.toList:=rfl
theorem Wo:resK 215=[none]:=rfl
theorem amr:isRef 215=false:=rfl
theorem ako:bo E 216=17:=rfl
theorem arE:bh E 216=(Tryz.f216.body).getD .skip:=rfl
theorem aif:bg E 216=Tryz.f216.results.toList:=rfl
theorem Mx:resK 216=[none]:=rfl
theorem YK:isRef 216=false:=rfl
theorem xT:bo E 217=20:=rfl
theorem ym:bh E 217=(Tryz.f217.body).getD .skip:=rfl
theorem xM:bg E 217=Tryz.f217.results.toList:=rfl
theorem sF:resK 217=[none]:=rfl
theorem YJ:isRef 217=false:=rfl
theorem oG:keep 217 0=[(0,[]),(1,[]),(5,[])]:=rfl
theorem akn:bo E 218=13:=rfl
theorem arD:bh E 218=(Tryz.f218.body).getD .skip:=rfl
theorem aie:bg E 218=Tryz.f218.results.toList:=rfl
theorem Ge:resK 218=[none]:=rfl
theorem ON:isRef 218=false:=rfl
theorem akm:bo E 219=9:=rfl
theorem arC:bh E 219=(Tryz.f219.body).getD .skip:=rfl
theorem aid:bg E 219=Tryz.f219.results.toList:=rfl
theorem A1:resK 219=[none]:=rfl
theorem HU:isRef 219=false:=rfl
theorem akl:bo E 220=24:=rfl
theorem arB:bh E 220=(Tryz.f220.body).getD .skip:=rfl
theorem aic:bg E 220=Tryz.f220.results.toList:=rfl
theorem Wn:resK 220=[none,none]:=rfl
theorem amq:isRef 220=false:=rfl
theorem akk:bo E 221=12:=rfl
theorem arA:bh E 221=(Tryz.f221.body).getD .skip:=rfl
theorem aib:bg E 221=Tryz.f221.results.toList:=rfl
theorem Wm:resK 221=[none]:=rfl
theorem amp:isRef 221=false:=rfl
theorem akj:bo E 222=8:=rfl
theorem arz:bh E 222=(Tryz.f222.body).getD .skip:=rfl
theorem aia:bg E 222=Tryz.f222.results.toList:=rfl
theorem Wl:resK 222=[none]:=rfl
theorem amo:isRef 222=false:=rfl
theorem XR:bo E 223=19:=rfl
theorem Zy:bh E 223=(Tryz.f223.body).getD .skip:=rfl
theorem WW:bg E 223=Tryz.f223.results.toList:=rfl
theorem Mw:resK 223=[none]:=rfl
theorem amn:isRef 223=false:=rfl
theorem Hf:keep 223 0=[(0,[]),(1,[]),(7,[]),(8,[])]:=rfl
theorem XQ:bo E 224=36:=rfl
theorem Zx:bh E 224=(Tryz.f224.body).getD .skip:=rfl
theorem WV:bg E 224=Tryz.f224.results.toList:=rfl
theorem Gd:resK 224=[some 4,none]:=rfl
theorem YI:isRef 224=false:=rfl
theorem He:keep 224 0=[(7,[]),(20,[]),(21,[])]:=rfl
theorem aki:bo E 225=27:=rfl
theorem ary:bh E 225=(Tryz.f225.body).getD .skip:=rfl
theorem ah9:bg E 225=Tryz.f225.results.toList:=rfl
theorem Mv:resK 225=[none]:=rfl
theorem YH:isRef 225=false:=rfl
theorem akh:bo E 226=9:=rfl
theorem arx:bh E 226=(Tryz.f226.body).getD .skip:=rfl
theorem ah8:bg E 226=Tryz.f226.results.toList:=rfl
theorem Gc:resK 226=[none]:=rfl
theorem OM:isRef 226=false:=rfl
theorem akg:bo E 227=10:=rfl
theorem arw:bh E 227=(Tryz.f227.body).getD .skip:=rfl
theorem ah7:bg E 227=Tryz.f227.results.toList:=rfl
theorem Gb:resK 227=[none]:=rfl
theorem OL:isRef 227=false:=rfl
theorem XP:bo E 228=9:=rfl
theorem Zw:bh E 228=(Tryz.f228.body).getD .skip:=rfl
theorem WU:bg E 228=Tryz.f228.results.toList:=rfl
theorem A0:resK 228=[none]:=rfl
theorem OK:isRef 228=false:=rfl
theorem akf:bo E 229=16:=rfl
theorem arv:bh E 229=(Tryz.f229.body).getD .skip:=rfl
theorem ah6:bg E 229=Tryz.f229.results.toList:=rfl
theorem Ga:resK 229=[none]:=rfl
theorem OJ:isRef 229=false:=rfl
theorem ake:bo E 230=14:=rfl
theorem aru:bh E 230=(Tryz.f230.body).getD .skip:=rfl
theorem ah5:bg E 230=Tryz.f230.results.toList:=rfl
theorem F9:resK 230=[none]:=rfl
theorem OI:isRef 230=false:=rfl
theorem XO:bo E 231=54:=rfl
theorem Zv:bh E 231=(Tryz.f231.body).getD .skip:=rfl
theorem WR:bg E 231=Tryz.f231.results.toList:=rfl
theorem xE:resK 231=[none,none]:=rfl
theorem HT:isRef 231=false:=rfl
theorem Hd:keep 231 0=[(0,[]),(1,[]),(6,[]),(7,[]),(8,[])]:=rfl
theorem akd:bo E 232=11:=rfl
theorem art:bh E 232=(Tryz.f232.body).getD .skip:=rfl
theorem ah4:bg E 232=Tryz.f232.results.toList:=rfl
theorem Wk:resK 232=[none]:=rfl
theorem amm:isRef 232=false:=rfl
theorem akc:bo E 233=46:=rfl
theorem ars:bh E 233=(Tryz.f233.body).getD .skip:=rfl
theorem ah3:bg E 233=Tryz.f233.results.toList:=rfl
theorem Mu:resK 233=[none]:=rfl
theorem YG:isRef 233=false:=rfl
theorem XN:bo E 234=36:=rfl
theorem Zu:bh E 234=(Tryz.f234.body).getD .skip:=rfl
theorem WQ:bg E 234=Tryz.f234.results.toList:=rfl
theorem Mt:resK 234=[none,none]:=rfl
theorem OH:isRef 234=false:=rfl
theorem Hc:keep 234 0=[(1,[]),(4,[]),(5,[]),(11,[]),(12,[]),(13,[])]:=rfl
theorem XM:bo E 235=29:=rfl
theorem Zt:bh E 235=(Tryz.f235.body).getD .skip:=rfl
theorem WO:bg E 235=Tryz.f235.results.toList:=rfl
theorem F8:resK 235=[none]:=rfl
theorem YF:isRef 235=false:=rfl
theorem Hb:keep 235 0=[(4,[]),(7,[]),(8,[])]:=rfl
theorem akb:bo E 236=13:=rfl
theorem arq:bh E 236=(Tryz.f236.body).getD .skip:=rfl
theorem ah2:bg E 236=Tryz.f236.results.toList:=rfl
theorem F7:resK 236=[none]:=rfl
theorem OG:isRef 236=false:=rfl
theorem aht:resK 237=[none]:=rfl
theorem aml:isRef 237=false:=rfl
theorem aka:bo E 238=8:=rfl
theorem arp:bh E 238=(Tryz.f238.body).getD .skip:=rfl
theorem ah1:bg E 238=Tryz.f238.results.toList:=rfl
theorem Ms:resK 238=[some 1]:=rfl
theorem YE:isRef 238=false:=rfl
theorem aj9:bo E 239=24:=rfl
theorem aro:bh E 239=(Tryz.f239.body).getD .skip:=rfl
theorem ah0:bg E 239=Tryz.f239.results.toList:=rfl
theorem Wj:resK 239=[none]:=rfl
theorem amk:isRef 239=false:=rfl
theorem GZ:bo E 240=19:=rfl
theorem IU:bh E 240=(Tryz.f240.body).getD .skip:=rfl
theorem GO:bg E 240=Tryz.f240.results.toList:=rfl
theorem xD:resK 240=[none]:=rfl
theorem YD:isRef 240=false:=rfl
theorem tI:keep 240 0=[(0,[]),(1,[]),(7,[]),(8,[])]:=rfl
theorem XL:bo E 241=57:=rfl
theorem Zs:bh E 241=(Tryz.f241.body).getD .skip:=rfl
theorem WN:bg E 241=Tryz.f241.results.toList:=rfl
theorem Mr:resK 241=[none]:=rfl
theorem amj:isRef 241=false:=rfl
theorem Ha:keep 241 0=[(2,[]),(3,[]),(28,[]),(29,[]),(30,[])]:=rfl
theorem aj8:bo E 242=17:=rfl
theorem arn:bh E 242=(Tryz.f242.body).getD .skip:=rfl
theorem ahZ:bg E 242=Tryz.f242.results.toList:=rfl
theorem Mq:resK 242=[none]:=rfl
theorem YC:isRef 242=false:=rfl
theorem aj7:bo E 243=6:=rfl
theorem arl:bh E 243=(Tryz.f243.body).getD .skip:=rfl
theorem ahY:bg E 243=Tryz.f243.results.toList:=rfl
theorem Mp:resK 243=[none]:=rfl
theorem YB:isRef 243=false:=rfl
theorem ahs:resK 244=[]:=rfl
theorem ami:isRef 244=true:=rfl
theorem NB:bo E 245=61:=rfl
theorem Qy:bh E 245=(Tryz.f245.body).getD .skip:=rfl
theorem M8:bg E 245=Tryz.f245.results.toList:=rfl
theorem F6:resK 245=[none]:=rfl
theorem amh:isRef 245=true:=rfl
theorem zj:keep 245 2=[(0,[]),(3,[]),(4,[]),(5,[])]:=rfl
theorem zk:keep 245 0=[(0,[]),(3,[])]:=rfl
theorem aj6:bo E 246=39:=rfl
theorem ark:bh E 246=(Tryz.f246.body).getD .skip:=rfl
theorem ahX:bg E 246=Tryz.f246.results.toList:=rfl
theorem Wi:resK 246=[none]:=rfl
theorem amg:isRef 246=false:=rfl
theorem aj5:bo E 247=9:=rfl
theorem arj:bh E 247=(Tryz.f247.body).getD .skip:=rfl
theorem ahW:bg E 247=Tryz.f247.results.toList:=rfl
theorem Wh:resK 247=[none]:=rfl
theorem amf:isRef 247=false:=rfl
theorem aj4:bo E 248=6:=rfl
theorem ari:bh E 248=(Tryz.f248.body).getD .skip:=rfl
theorem ahV:bg E 248=Tryz.f248.results.toList:=rfl
theorem F5:resK 248=[none]:=rfl
theorem OF:isRef 248=false:=rfl
theorem aj3:bo E 249=9:=rfl
theorem arh:bh E 249=(Tryz.f249.body).getD .skip:=rfl
theorem ahU:bg E 249=Tryz.f249.results.toList:=rfl
theorem AZ:resK 249=[none]:=rfl
theorem HS:isRef 249=false:=rfl
theorem XK:bo E 251=33:=rfl
theorem Zr:bh E 251=(Tryz.f251.body).getD .skip:=rfl
theorem WM:bg E 251=Tryz.f251.results.toList:=rfl
theorem F4:resK 251=[none]:=rfl
theorem YA:isRef 251=false:=rfl
theorem G9:keep 251 0=[(0,[]),(1,[]),(7,[]),(8,[]),(9,[])]:=rfl
theorem aj1:bo E 252=14:=rfl
theorem are:bh E 252=(Tryz.f252.body).getD .skip:=rfl
theorem ahS:bg E 252=Tryz.f252.results.toList:=rfl
theorem Mo:resK 252=[none]:=rfl
theorem Yz:isRef 252=false:=rfl
theorem aj0:bo E 253=6:=rfl
theorem ard:bh E 253=(Tryz.f253.body).getD .skip:=rfl
theorem ahR:bg E 253=Tryz.f253.results.toList:=rfl
theorem Wg:resK 253=[none]:=rfl
theorem amd:isRef 253=false:=rfl
theorem XJ:bo E 256=19:=rfl
theorem Zq:bh E 256=(Tryz.f256.body).getD .skip:=rfl
theorem WL:bg E 256=Tryz.f256.results.toList:=rfl
theorem Mn:resK 256=[none]:=rfl
theorem amc:isRef 256=false:=rfl
theorem G8:keep 256 0=[(0,[]),(1,[]),(7,[]),(8,[])]:=rfl
theorem ajy:pairs 3 3=[(0,3),(3,5),(4,5)]:=rfl
theorem oD:pairs 10 18=[]:=rfl
theorem oC:pairs 10 24=[]:=rfl
theorem tE:pairs 12 13=[(5,7)]:=rfl
theorem GU:pairs 26 10=[]:=rfl
theorem yQ:pairs 35 14=[]:=rfl
theorem qw:pairs 45 12=[]:=rfl
theorem qv:pairs 45 19=[]:=rfl
theorem qu:pairs 45 24=[]:=rfl
theorem qt:pairs 45 28=[]:=rfl
theorem yP:pairs 57 11=[]:=rfl
theorem ab6:pairs 58 3=[]:=rfl
theorem yO:pairs 68 7=[]:=rfl
theorem tD:pairs 68 22=[]:=rfl
theorem Nw:pairs 69 7=[]:=rfl
theorem Nv:pairs 76 4=[]:=rfl
theorem qq:pairs 79 20=[]:=rfl
theorem qp:pairs 79 30=[]:=rfl
theorem Nu:pairs 80 5=[]:=rfl
theorem ab5:pairs 82 3=[]:=rfl
theorem ab4:pairs 93 1=[]:=rfl
theorem SS:pairs 101 3=[(0,1),(0,3),(0,7),(0,8),(0,11),(8,11),(9,11),(0,15),(8,15),(9,15)]:=rfl
theorem yY:pairs 107 7=[]:=rfl
theorem SR:pairs 108 1=[(8,12),(8,16)]:=rfl
theorem yX:pairs 109 4=[]:=rfl
theorem yW:pairs 109 9=[(1,8),(5,8),(7,8)]:=rfl
theorem vn:pairs 109 10=[]:=rfl
theorem SQ:pairs 111 1=[(8,12),(8,16)]:=rfl
theorem GY:pairs 115 5=[]:=rfl
theorem Bs:pairs 116 16=[]:=rfl
theorem vm:pairs 132 11=[]:=rfl
theorem yV:pairs 133 4=[]:=rfl
theorem yU:pairs 133 9=[]:=rfl
theorem SP:pairs 134 3=[]:=rfl
theorem GX:pairs 138 4=[]:=rfl
theorem Br:pairs 138 10=[]:=rfl
theorem yT:pairs 140 8=[(1,11)]:=rfl
theorem vl:pairs 140 12=[(1,9),(3,9),(6,9),(8,9)]:=rfl
theorem vk:pairs 140 13=[(1,8),(3,8),(8,10),(8,12),(1,13),(3,13),(1,15)]:=rfl
theorem vj:pairs 140 14=[(0,1),(1,3),(0,4),(0,5),(1,5),(3,5),(4,5),(1,7),(4,7),(5,7),(0,8)]:=rfl
theorem vi:pairs 141 12=[]:=rfl
theorem vh:pairs 141 14=[]:=rfl
theorem vg:pairs 141 19=[]:=rfl
theorem vf:pairs 141 21=[(1,14),(4,14),(6,14),(8,14),(11,14),(13,14),(1,15),(4,15),(6,15),(8,15),(11,15),(13,15),(14,15),(6,16),(8,16),(11,16),(13,16)]:=rfl
theorem ve:pairs 141 24=[]:=rfl
theorem Bq:pairs 144 15=[]:=rfl
theorem SO:pairs 155 1=[(8,11),(8,15)]:=rfl
theorem SN:pairs 156 1=[(8,11),(8,15)]:=rfl
theorem Bp:pairs 163 21=[]:=rfl
theorem Bo:pairs 163 22=[(8,10)]:=rfl
theorem Bn:pairs 166 10=[(1,9),(3,9),(6,9),(8,9)]:=rfl
theorem GW:pairs 186 3=[]:=rfl
theorem GV:pairs 194 6=[]:=rfl
theorem SM:pairs 204 3=[]:=rfl
theorem SL:pairs 207 4=[]:=rfl
theorem yS:pairs 208 8=[(1,7)]:=rfl
theorem vd:pairs 208 18=[(0,3),(3,5),(0,6)]:=rfl
theorem u9:pairs 209 14=[]:=rfl
theorem u7:pairs 209 22=[(1,10),(4,10),(6,10),(9,10),(1,11),(4,11),(6,11),(9,11),(10,11),(6,12),(9,12)]:=rfl
theorem u6:pairs 209 25=[]:=rfl
theorem SK:pairs 210 1=[(8,10),(17,19)]:=rfl
theorem SJ:pairs 211 1=[]:=rfl
theorem SI:pairs 212 2=[]:=rfl
theorem Bm:pairs 241 10=[]:=rfl
theorem yR:pairs 245 6=[]:=rfl
theorem u5:pairs 245 11=[]:=rfl
set_option linter.defProp false
def WE:=
 And.intro @MR_E<|
 And.intro @MR_C<|
 And.intro @MR_f<|
 And.intro @asY<|
 And.intro @MR_c<|
 And.intro @MR_D<|
 And.intro @M_E<|
 And.intro @M_C<|
 And.intro @M_f<|
 And.intro @M_nr<|
 And.intro @M_c<|
 And.intro @M_D<|
 And.intro @asZ<|
 And.intro @afy<|
 And.intro @V1<|
 And.intro @V2<|
 And.intro @V0<|
 And.intro @afx<|
 And.intro @LB @V3
def WT:=
 And.intro @tab3<|
 And.intro @tab4<|
 And.intro @tab5<|
 And.intro @tab9<|
 And.intro @agV<|
 And.intro @agU<|
 And.intro @agT<|
 And.intro @agS<|
 And.intro @agR<|
 And.intro @agQ<|
 And.intro @agP<|
 And.intro @agO<|
 And.intro @agN<|
 And.intro @agM<|
 And.intro @agL<|
 And.intro @agK<|
 And.intro @agJ<|
 And.intro @agI<|
 And.intro @agH<|
 And.intro @agG<|
 And.intro @agF<|
 And.intro @agE<|
 And.intro @agD<|
 And.intro @agC<|
 And.intro @agB<|
 And.intro @agA<|
 And.intro @agz<|
 And.intro @agy<|
 And.intro @agx<|
 And.intro @agw<|
 And.intro @agv<|
 And.intro @agu<|
 And.intro @agt<|
 And.intro @aa1<|
 And.intro @aa0<|
 And.intro @aaZ<|
 And.intro @aaY<|
 And.intro @aaX<|
 And.intro @aaW<|
 And.intro @aaV<|
 And.intro @aaU<|
 And.intro @aaT<|
 And.intro @aaS<|
 And.intro @aaR<|
 And.intro @aaQ<|
 And.intro @aaP<|
 And.intro @aaO<|
 And.intro @aaN<|
 And.intro @aaM<|
 And.intro @aaL<|
 And.intro @aaK<|
 And.intro @aaJ<|
 And.intro @aaI<|
 And.intro @aaH<|
 And.intro @aaG<|
 And.intro @aaF<|
 And.intro @aaE @aaD
end Go.S
end
section
set_option linter.unusedVariables false
set_option linter.defProp false
namespace Go.Pm
open Go
def W0:=
 And.intro @Az<|
 And.intro @lr<|
 And.intro @Vv<|
 And.intro @Vu<|
 And.intro @QO<|
 And.intro @QN<|
 And.intro @QP<|
 And.intro @Vw<|
 And.intro @Tj<|
 And.intro @acR<|
 And.intro @Tk<|
 And.intro @acS<|
 And.intro @J5<|
 And.intro @Tm<|
 And.intro @Ow<|
 And.intro @Tl<|
 And.intro @anw<|
 And.intro @T7<|
 And.intro @adS<|
 And.intro @T8<|
 And.intro @adT<|
 And.intro @Kk<|
 And.intro @Ua<|
 And.intro @Pt<|
 And.intro @T9<|
 And.intro @QL<|
 And.intro @Su<|
 And.intro @JJ<|
 And.intro @JK<|
 And.intro @JI<|
 And.intro @JM<|
 And.intro @JN<|
 And.intro @JL<|
 And.intro @De<|
 And.intro @Df<|
 And.intro @Dd<|
 And.intro @abF<|
 And.intro @Sq<|
 And.intro @M3<|
 And.intro @Ub<|
 And.intro @T6<|
 And.intro @Sd<|
 And.intro @Se<|
 And.intro @abw<|
 And.intro @Sf<|
 And.intro @abG<|
 And.intro @aca<|
 And.intro @Nx<|
 And.intro @SU<|
 And.intro @acW<|
 And.intro @alS<|
 And.intro @alR<|
 And.intro @acU<|
 And.intro @acT<|
 And.intro @acV<|
 And.intro @U4<|
 And.intro @Lh<|
 And.intro @U3<|
 And.intro @ab0 @ab1
def W1:=
 And.intro @ab2<|
 And.intro @Qf<|
 And.intro @FV<|
 And.intro @aeT<|
 And.intro @QY<|
 And.intro @afj<|
 And.intro @afi<|
 And.intro @Vr<|
 And.intro @afe<|
 And.intro @afh<|
 And.intro @afg<|
 And.intro @Vo<|
 And.intro @aff<|
 And.intro @asM<|
 And.intro @Vp<|
 And.intro @Qe<|
 And.intro @AD<|
 And.intro @Cu<|
 And.intro @Pv<|
 And.intro @Kl<|
 And.intro @D7<|
 And.intro @D8<|
 And.intro @Lg<|
 And.intro @QU<|
 And.intro @QW<|
 And.intro @QV<|
 And.intro @U5<|
 And.intro @Dx<|
 And.intro @J3<|
 And.intro @Tg<|
 And.intro @N8<|
 And.intro @Te<|
 And.intro @J2<|
 And.intro @Tf<|
 And.intro @N7<|
 And.intro @N4<|
 And.intro @Th<|
 And.intro @JY<|
 And.intro @JZ<|
 And.intro @Ti<|
 And.intro @Qb<|
 And.intro @I7<|
 And.intro @RD<|
 And.intro @CN<|
 And.intro @RE<|
 And.intro @LR<|
 And.intro @Cj<|
 And.intro @S1<|
 And.intro @NW<|
 And.intro @NV<|
 And.intro @acq<|
 And.intro @aeU<|
 And.intro @VO<|
 And.intro @VF<|
 And.intro @VR<|
 And.intro @Vz<|
 And.intro @VI<|
 And.intro @VD<|
 And.intro @VC @VJ
def W2:=
 And.intro @VK<|
 And.intro @VL<|
 And.intro @VM<|
 And.intro @VA<|
 And.intro @VB<|
 And.intro @FN<|
 And.intro @VN<|
 And.intro @VE<|
 And.intro @VP<|
 And.intro @VG<|
 And.intro @VQ<|
 And.intro @VH<|
 And.intro @Va<|
 And.intro @Vb<|
 And.intro @Qp<|
 And.intro @U9<|
 And.intro @aqK<|
 And.intro @aaB<|
 And.intro @aaC<|
 And.intro @U6<|
 And.intro @Qv<|
 And.intro @Ck<|
 And.intro @S4<|
 And.intro @Ap<|
 And.intro @alA<|
 And.intro @alB<|
 And.intro @Cf<|
 And.intro @Ch<|
 And.intro @Cg<|
 And.intro @Ci<|
 And.intro @CU<|
 And.intro @Ar<|
 And.intro @aqv<|
 And.intro @aqw<|
 And.intro @Uc<|
 And.intro @Py<|
 And.intro @Px<|
 And.intro @Qd<|
 And.intro @aqs<|
 And.intro @aqu<|
 And.intro @aqt<|
 And.intro @Aq<|
 And.intro @alT<|
 And.intro @Tn<|
 And.intro @alU<|
 And.intro @Tq<|
 And.intro @Oz<|
 And.intro @Qc<|
 And.intro @am3<|
 And.intro @TF<|
 And.intro @TG<|
 And.intro @Fy<|
 And.intro @U2<|
 And.intro @U1<|
 And.intro @U0<|
 And.intro @UZ<|
 And.intro @Fz<|
 And.intro @afs<|
 And.intro @Tb @Ta
def W3:=
 And.intro @N6<|
 And.intro @S9<|
 And.intro @Tc<|
 And.intro @VS<|
 And.intro @VT<|
 And.intro @Ly<|
 And.intro @asT<|
 And.intro @asU<|
 And.intro @VY<|
 And.intro @VX<|
 And.intro @Q4<|
 And.intro @LS<|
 And.intro @RG<|
 And.intro @RF<|
 And.intro @I8<|
 And.intro @U7<|
 And.intro @Vq<|
 And.intro @Lv<|
 And.intro @SB<|
 And.intro @SG<|
 And.intro @abX<|
 And.intro @TH<|
 And.intro @adq<|
 And.intro @am4<|
 And.intro @cc<|
 And.intro @bV<|
 And.intro @cg<|
 And.intro @Ct<|
 And.intro @bU<|
 And.intro @L1<|
 And.intro @Jp<|
 And.intro @LZ<|
 And.intro @RP<|
 And.intro @Jo<|
 And.intro @df<|
 And.intro @jb<|
 And.intro @oB<|
 And.intro @C4<|
 And.intro @bR<|
 And.intro @uI<|
 And.intro @LW<|
 And.intro @Jf<|
 And.intro @LV<|
 And.intro @Je<|
 And.intro @cA<|
 And.intro @cf<|
 And.intro @Sv<|
 And.intro @M4<|
 And.intro @R2<|
 And.intro @L5<|
 And.intro @R0<|
 And.intro @L4<|
 And.intro @map_bind<|
 And.intro @bind_map<|
 And.intro @S5<|
 And.intro @Wf<|
 And.intro @aqV<|
 And.intro @Lo<|
 And.intro @Lp @FG
def W4:=
 And.intro @Lq<|
 And.intro @Vh<|
 And.intro @ae3<|
 And.intro @ae4<|
 And.intro @FI<|
 And.intro @FH<|
 And.intro @ae2<|
 And.intro @Tp<|
 And.intro @I9<|
 And.intro @I6<|
 And.intro @take_len<|
 And.intro @abf<|
 And.intro @abd<|
 And.intro @Rv<|
 And.intro @Ru<|
 And.intro @ajJ<|
 And.intro @ajH<|
 And.intro @ajq<|
 And.intro @ajp<|
 And.intro @abP<|
 And.intro @abQ<|
 And.intro @afW<|
 And.intro @afV<|
 And.intro @afX<|
 And.intro @asW<|
 And.intro @asV<|
 And.intro @aqP<|
 And.intro @aqO<|
 And.intro @mk_f<|
 And.intro @mk_t<|
 And.intro @cl_n<|
 And.intro @ajE<|
 And.intro @ajF<|
 And.intro @ab8<|
 And.intro @Dv<|
 And.intro @QZ<|
 And.intro @aqX<|
 And.intro @aqY<|
 And.intro @aqW<|
 And.intro @acF<|
 And.intro @acG<|
 And.intro @ahf<|
 And.intro @ahg<|
 And.intro @aqQ<|
 And.intro @aqR<|
 And.intro @abi<|
 And.intro @abh<|
 And.intro @abg<|
 And.intro @ag0<|
 And.intro @ag1<|
 And.intro @agZ<|
 And.intro @acJ<|
 And.intro @acK<|
 And.intro @agW<|
 And.intro @aa3<|
 And.intro @RA<|
 And.intro @LP<|
 And.intro @Rx<|
 And.intro @LO @Rz
def W5:=
 And.intro @Ry<|
 And.intro @abl<|
 And.intro @agX<|
 And.intro @agY<|
 And.intro @aa4<|
 And.intro @anx<|
 And.intro @anz<|
 And.intro @adW<|
 And.intro @mk_c<|
 And.intro @ajI<|
 And.intro @am1<|
 And.intro @am2<|
 And.intro @ajz<|
 And.intro @ajA<|
 And.intro @ajB<|
 And.intro @ajC<|
 And.intro @ab7<|
 And.intro @ag2<|
 And.intro @ag3<|
 And.intro @aa6<|
 And.intro @abb<|
 And.intro @RO<|
 And.intro @aa7<|
 And.intro @aba<|
 And.intro @RN<|
 And.intro @RL<|
 And.intro @RM<|
 And.intro @LX<|
 And.intro @RK<|
 And.intro @LY<|
 And.intro @aa9<|
 And.intro @ag6<|
 And.intro @ag7<|
 And.intro @Jd<|
 And.intro @Jc<|
 And.intro @RJ<|
 And.intro @RI<|
 And.intro @SC<|
 And.intro @ajr<|
 And.intro @aa8<|
 And.intro @ag5<|
 And.intro @ag9<|
 And.intro @ag4<|
 And.intro @ag8<|
 And.intro @abc<|
 And.intro @aha<|
 And.intro @rs_n<|
 And.intro @rs_c<|
 And.intro @ahh<|
 And.intro @abn<|
 And.intro @R3<|
 And.intro @pk_1<|
 And.intro @pk_0<|
 And.intro @pk_2<|
 And.intro @Cm<|
 And.intro @Qq<|
 And.intro @eK_s<|
 And.intro @afM<|
 And.intro @xp_n @aas
def W6:=
 And.intro @Rq<|
 And.intro @aap<|
 And.intro @aar<|
 And.intro @Rp<|
 And.intro @Ro<|
 And.intro @LH<|
 And.intro @aaq<|
 And.intro @Rs<|
 And.intro @Rr<|
 And.intro @afO<|
 And.intro @afN<|
 And.intro @afG<|
 And.intro @afJ<|
 And.intro @afI<|
 And.intro @afH<|
 And.intro @afL<|
 And.intro @afK<|
 And.intro @aai<|
 And.intro @aah<|
 And.intro @Rl<|
 And.intro @aae<|
 And.intro @aag<|
 And.intro @Rk<|
 And.intro @aaf<|
 And.intro @xw_n<|
 And.intro @xw_c<|
 And.intro @afA<|
 And.intro @afD<|
 And.intro @afC<|
 And.intro @afB<|
 And.intro @afF<|
 And.intro @afE<|
 And.intro @aaj<|
 And.intro @aan<|
 And.intro @Rn<|
 And.intro @aak<|
 And.intro @aam<|
 And.intro @Rm<|
 And.intro @aal<|
 And.intro @aao<|
 And.intro @am5<|
 And.intro @ip_n<|
 And.intro @adm<|
 And.intro @TA<|
 And.intro @adj<|
 And.intro @adl<|
 And.intro @adk<|
 And.intro @alX<|
 And.intro @alY<|
 And.intro @ac0<|
 And.intro @acZ<|
 And.intro @Tt<|
 And.intro @acX<|
 And.intro @Ts<|
 And.intro @OA<|
 And.intro @Tr<|
 And.intro @acY<|
 And.intro @alW<|
 And.intro @iw_n @iw_c
def W7:=
 And.intro @alV<|
 And.intro @al1<|
 And.intro @al0<|
 And.intro @ac1<|
 And.intro @ac4<|
 And.intro @Tu<|
 And.intro @ac2<|
 And.intro @ac3<|
 And.intro @ac5<|
 And.intro @alN<|
 And.intro @alM<|
 And.intro @acO<|
 And.intro @kt_u<|
 And.intro @kt_c<|
 And.intro @alO<|
 And.intro @ni_n<|
 And.intro @acs<|
 And.intro @aly<|
 And.intro @alx<|
 And.intro @acu<|
 And.intro @acv<|
 And.intro @S2<|
 And.intro @acx<|
 And.intro @acy<|
 And.intro @cln<|
 And.intro @afd<|
 And.intro @afk<|
 And.intro @asK<|
 And.intro @adu<|
 And.intro @adt<|
 And.intro @adw<|
 And.intro @TP<|
 And.intro @ads<|
 And.intro @adv<|
 And.intro @TO<|
 And.intro @Pg<|
 And.intro @TJ<|
 And.intro @TL<|
 And.intro @TM<|
 And.intro @TN<|
 And.intro @adx<|
 And.intro @adr<|
 And.intro @am8<|
 And.intro @am6<|
 And.intro @am7<|
 And.intro @abu<|
 And.intro @Sb<|
 And.intro @abp<|
 And.intro @abt<|
 And.intro @Sa<|
 And.intro @Me<|
 And.intro @R6<|
 And.intro @R7<|
 And.intro @R8<|
 And.intro @R9<|
 And.intro @abv<|
 And.intro @abo<|
 And.intro @ahk<|
 And.intro @abr @abq
def W8:=
 And.intro @ahm<|
 And.intro @ahl<|
 And.intro @ahi<|
 And.intro @ahj<|
 And.intro @ajs<|
 And.intro @ajt<|
 And.intro @ans<|
 And.intro @ant<|
 And.intro @aju<|
 And.intro @ajv<|
 And.intro @abY<|
 And.intro @abZ<|
 And.intro @R4<|
 And.intro @R5<|
 And.intro @afU<|
 And.intro @afT<|
 And.intro @alP<|
 And.intro @alQ<|
 And.intro @Ot<|
 And.intro @Ou<|
 And.intro @acP<|
 And.intro @ajk<|
 And.intro @ajl<|
 And.intro @Nl<|
 And.intro @Nn<|
 And.intro @adV<|
 And.intro @RZ<|
 And.intro @agr<|
 And.intro @ags<|
 And.intro @sh_n<|
 And.intro @sh_c<|
 And.intro @RX<|
 And.intro @RW<|
 And.intro @L3<|
 And.intro @RS<|
 And.intro @RU<|
 And.intro @L2<|
 And.intro @RT<|
 And.intro @ahd<|
 And.intro @ahb<|
 And.intro @ahc<|
 And.intro @ahe<|
 And.intro @afZ<|
 And.intro @af0<|
 And.intro @aeY<|
 And.intro @aeZ<|
 And.intro @S3<|
 And.intro @QQ<|
 And.intro @ahA<|
 And.intro @ahz<|
 And.intro @ahy<|
 And.intro @ahx<|
 And.intro @ahv<|
 And.intro @Ss<|
 And.intro @Sr<|
 And.intro @ahw<|
 And.intro @aqS<|
 And.intro @aqT<|
 And.intro @asN @asO
def W9:=
 And.intro @afl<|
 And.intro @afm<|
 And.intro @bid<|
 And.intro @asR<|
 And.intro @asS<|
 And.intro @afp<|
 And.intro @iob<|
 And.intro @adn<|
 And.intro @iar<|
 And.intro @adz<|
 And.intro @ady<|
 And.intro @Qr<|
 And.intro @aeV<|
 And.intro @aqL<|
 And.intro @aqM<|
 And.intro @ajw<|
 And.intro @ajx<|
 And.intro @apt<|
 And.intro @dsj<|
 And.intro @ajL @ajK
def Wc:=
 And.intro @Option.map_some.{0,0}<|
 And.intro @Option.map_none.{0,0}<|
 And.intro @Option.bind_some.{0,0}<|
 And.intro @Option.bind_none.{0,0}<|
 And.intro @Option.getD_some.{0}<|
 And.intro @Option.isSome_some.{0}<|
 And.intro @List.cons_append.{0}<|
 And.intro @List.nil_append.{0}<|
 And.intro @List.length_cons.{0}<|
 And.intro @List.length_nil.{0}<|
 And.intro @List.append_nil.{0}<|
 And.intro @List.replicate_zero.{0}<|
 And.intro @List.replicate_succ.{0}<|
 And.intro @List.isEmpty_cons.{0}<|
 And.intro @List.isEmpty_nil.{0}<|
 And.intro @List.getElem?_cons_zero.{0}<|
 And.intro @List.getElem?_cons_succ.{0}<|
 And.intro @Bool.and_true<|
 And.intro @Bool.true_and<|
 And.intro @Bool.and_false<|
 And.intro @Bool.false_and<|
 And.intro @Bool.not_true<|
 And.intro @Bool.not_false<|
 And.intro @Bool.true_or<|
 And.intro @Bool.false_or<|
 And.intro @Bool.or_true<|
 And.intro @Bool.or_false<|
 And.intro @Bool.false_eq_true<|
 And.intro @Nat.zero_add<|
 And.intro @List.take_succ_cons.{0}<|
 And.intro @List.take_zero.{0}<|
 And.intro @List.drop_succ_cons.{0}<|
 And.intro @List.drop_zero.{0}<|
 And.intro @List.head?_cons.{0}<|
 And.intro @List.tail_cons.{0}<|
 And.intro @List.all_nil.{0}<|
 And.intro @List.all_cons.{0}<|
 And.intro @List.length_set.{0}<|
 And.intro @decide_true<|
 And.intro @decide_false<|
 And.intro @and_true<|
 And.intro @true_and @beq_self_eq_true.{0}
end Go.Pm
end
section
set_option linter.unusedVariables false
set_option linter.unusedSimpArgs false
namespace Go.Pm
open Go
class Inj (α:Type) [Enc α]:Prop where
 inj:∀ a b:α,Enc.cells a=Enc.cells b→a=b
theorem AT {α:Type} [Enc α] [Inj α]:∀ {l m:List α},rows l=rows m→l=m
 | [],[],_=>rfl
 | a::l,b::m,h=>by
  simp only [rows,List.map_cons,List.cons.injEq] at h
  rw [Inj.inj a b h.1,AT (l:=l) (m:=m) h.2]
 | [],_::_,h=>by simp [rows] at h
 | _::_,[],h=>by simp [rows] at h
theorem bY {α:Type} [Enc α] [Inj α] {l m:List α}:rows l=rows m↔l=m:=⟨AT,fun h=>by rw [h]⟩
instance:Inj Int:=⟨fun a b h=>by simpa [cc] using h⟩
instance:Inj Bool:=⟨fun a b h=>by simpa [bV] using h⟩
instance:Inj ByteArray:=⟨fun a b h=>by simpa [cg] using h⟩
instance:Inj U8:=⟨fun a b h=>by cases a;cases b;simpa [Ct] using h⟩
instance {α:Type} [Enc α] [Inj α]:Inj (List α):=⟨fun a b h=>by simpa [bU,bY] using h⟩
theorem Fix.cY {E:Env} {F:Nat} {p:List PV→Option PV} {X:Nat→Bool} {C:Callee} (h:Fix (cY E F p) X C) (hF:X F=true):Fix E X C:=
 ⟨fun f hf a5=>by rw [h.p f hf,nk (fun e=>by rw [e,hF] at hf;cases hf)],fun f hf k a5 hp nx=>by rw [h.r f hf,kB]⟩
theorem Fix.more {E:Env} {X Y:Nat→Bool} {C:Callee} (h:Fix E X C) (hXY:∀ f,Y f=false→X f=false):Fix E Y C:=
 ⟨fun f hf=>h.p f (hXY f hf),fun f hf=>h.r f (hXY f hf)⟩
end Go.Pm
end
section
set_option linter.unusedVariables false
namespace Go.S
open Go Go.Pm
structure Attr where
 Name:ByteArray
 Low:Int
 High:Int
 Names:(List ByteArray)
 deriving DecidableEq
instance:Enc Attr:=⟨fun x=>[.str x.Name,.int .i64 x.Low,.int .i64 x.High,.lit (rows x.Names) ⟨false,false⟩],4,fun _=>rfl⟩
theorem wK (x:Attr):Enc.cells x=[.str x.Name,.int .i64 x.Low,.int .i64 x.High,.lit (rows x.Names) ⟨false,false⟩]:=rfl
theorem Jw:Enc.size Attr=4:=rfl
theorem Jm (l:List Attr) (v0:ByteArray) (v1:Int) (v2:Int) (v3:(List ByteArray)):rows l ++ [[.str v0,.int .i64 v1,.int .i64 v2,.lit (rows v3) ⟨false,false⟩]]=rows (l ++ [(Attr.mk v0 v1 v2 v3)]):=bR l [(Attr.mk v0 v1 v2 v3)]
theorem Mc (l:List Attr) (i:Nat) (v0:ByteArray) (v1:Int) (v2:Int) (v3:(List ByteArray)):cC (rows l) i [.str v0,.int .i64 v1,.int .i64 v2,.lit (rows v3) ⟨false,false⟩]=rows (l.set i (Attr.mk v0 v1 v2 v3)):=cG l i (Attr.mk v0 v1 v2 v3)
theorem Qo (x:Attr):Attr.mk x.Name x.Low x.High x.Names=x:=rfl
instance:Inj Attr:=⟨fun a b h=>by
 obtain ⟨a1,a2,a3,a4⟩:=a
 obtain ⟨b1,b2,b3,b4⟩:=b
 simpa [wK,bY,and_assoc] using h⟩
structure aE where
 Name:ByteArray
 Parent:Int
 Abstract:Bool
 Attrs:(List Attr)
 deriving DecidableEq
instance:Enc aE:=⟨fun x=>[.str x.Name,.int .i64 x.Parent,.bool x.Abstract,.lit (rows x.Attrs) ⟨false,false⟩],4,fun _=>rfl⟩
theorem ot (x:aE):Enc.cells x=[.str x.Name,.int .i64 x.Parent,.bool x.Abstract,.lit (rows x.Attrs) ⟨false,false⟩]:=rfl
theorem wY:Enc.size aE=4:=rfl
theorem wV (l:List aE) (v0:ByteArray) (v1:Int) (v2:Bool) (v3:(List Attr)):rows l ++ [[.str v0,.int .i64 v1,.bool v2,.lit (rows v3) ⟨false,false⟩]]=rows (l ++ [(aE.mk v0 v1 v2 v3)]):=bR l [(aE.mk v0 v1 v2 v3)]
theorem yC (l:List aE) (i:Nat) (v0:ByteArray) (v1:Int) (v2:Bool) (v3:(List Attr)):cC (rows l) i [.str v0,.int .i64 v1,.bool v2,.lit (rows v3) ⟨false,false⟩]=rows (l.set i (aE.mk v0 v1 v2 v3)):=cG l i (aE.mk v0 v1 v2 v3)
theorem Au (x:aE):aE.mk x.Name x.Parent x.Abstract x.Attrs=x:=rfl
instance:Inj aE:=⟨fun a b h=>by
 obtain ⟨a1,a2,a3,a4⟩:=a
 obtain ⟨b1,b2,b3,b4⟩:=b
 simpa [ot,bY,and_assoc] using h⟩
structure aG where
 Name:ByteArray
 From:Int
 To:Int
 OutLow:Int
 OutHigh:Int
 InLow:Int
 InHigh:Int
 deriving DecidableEq
instance:Enc aG:=⟨fun x=>[.str x.Name,.int .i64 x.From,.int .i64 x.To,.int .i64 x.OutLow,.int .i64 x.OutHigh,.int .i64 x.InLow,.int .i64 x.InHigh],7,fun _=>rfl⟩
theorem ou (x:aG):Enc.cells x=[.str x.Name,.int .i64 x.From,.int .i64 x.To,.int .i64 x.OutLow,.int .i64 x.OutHigh,.int .i64 x.InLow,.int .i64 x.InHigh]:=rfl
theorem w5:Enc.size aG=7:=rfl
theorem wX (l:List aG) (v0:ByteArray) (v1:Int) (v2:Int) (v3:Int) (v4:Int) (v5:Int) (v6:Int):rows l ++ [[.str v0,.int .i64 v1,.int .i64 v2,.int .i64 v3,.int .i64 v4,.int .i64 v5,.int .i64 v6]]=rows (l ++ [(aG.mk v0 v1 v2 v3 v4 v5 v6)]):=bR l [(aG.mk v0 v1 v2 v3 v4 v5 v6)]
theorem yE (l:List aG) (i:Nat) (v0:ByteArray) (v1:Int) (v2:Int) (v3:Int) (v4:Int) (v5:Int) (v6:Int):cC (rows l) i [.str v0,.int .i64 v1,.int .i64 v2,.int .i64 v3,.int .i64 v4,.int .i64 v5,.int .i64 v6]=rows (l.set i (aG.mk v0 v1 v2 v3 v4 v5 v6)):=cG l i (aG.mk v0 v1 v2 v3 v4 v5 v6)
instance:Plain aG:=⟨fun _=>rfl⟩
theorem Aw (x:aG):aG.mk x.Name x.From x.To x.OutLow x.OutHigh x.InLow x.InHigh=x:=rfl
instance:Inj aG:=⟨fun a b h=>by
 obtain ⟨a1,a2,a3,a4,a5,a6,a7⟩:=a
 obtain ⟨b1,b2,b3,b4,b5,b6,b7⟩:=b
 simpa [ou,bY,and_assoc] using h⟩
structure Types where
 Nodes:(List aE)
 Edges:(List aG)
 deriving DecidableEq
instance:Enc Types:=⟨fun x=>[.lit (rows x.Nodes) ⟨false,false⟩,.lit (rows x.Edges) ⟨false,false⟩],2,fun _=>rfl⟩
theorem s9 (x:Types):Enc.cells x=[.lit (rows x.Nodes) ⟨false,false⟩,.lit (rows x.Edges) ⟨false,false⟩]:=rfl
theorem CV:Enc.size Types=2:=rfl
theorem CP (l:List Types) (v0:(List aE)) (v1:(List aG)):rows l ++ [[.lit (rows v0) ⟨false,false⟩,.lit (rows v1) ⟨false,false⟩]]=rows (l ++ [(Types.mk v0 v1)]):=bR l [(Types.mk v0 v1)]
theorem Jx (l:List Types) (i:Nat) (v0:(List aE)) (v1:(List aG)):cC (rows l) i [.lit (rows v0) ⟨false,false⟩,.lit (rows v1) ⟨false,false⟩]=rows (l.set i (Types.mk v0 v1)):=cG l i (Types.mk v0 v1)
theorem Li (x:Types):Types.mk x.Nodes x.Edges=x:=rfl
instance:Inj Types:=⟨fun a b h=>by
 obtain ⟨a1,a2⟩:=a
 obtain ⟨b1,b2⟩:=b
 simpa [s9,bY,and_assoc] using h⟩
structure bW where
 Weights:(List Int)
 Removed:(List Int)
 deriving DecidableEq
instance:Enc bW:=⟨fun x=>[.lit (rows x.Weights) ⟨false,false⟩,.lit (rows x.Removed) ⟨false,false⟩],2,fun _=>rfl⟩
theorem tb (x:bW):Enc.cells x=[.lit (rows x.Weights) ⟨false,false⟩,.lit (rows x.Removed) ⟨false,false⟩]:=rfl
theorem CX:Enc.size bW=2:=rfl
theorem CR (l:List bW) (v0:(List Int)) (v1:(List Int)):rows l ++ [[.lit (rows v0) ⟨false,false⟩,.lit (rows v1) ⟨false,false⟩]]=rows (l ++ [(bW.mk v0 v1)]):=bR l [(bW.mk v0 v1)]
theorem Jz (l:List bW) (i:Nat) (v0:(List Int)) (v1:(List Int)):cC (rows l) i [.lit (rows v0) ⟨false,false⟩,.lit (rows v1) ⟨false,false⟩]=rows (l.set i (bW.mk v0 v1)):=cG l i (bW.mk v0 v1)
theorem Lk (x:bW):bW.mk x.Weights x.Removed=x:=rfl
instance:Inj bW:=⟨fun a b h=>by
 obtain ⟨a1,a2⟩:=a
 obtain ⟨b1,b2⟩:=b
 simpa [tb,bY,and_assoc] using h⟩
structure Edge where
 Type_:Int
 From:Int
 To:Int
 deriving DecidableEq
instance:Enc Edge:=⟨fun x=>[.int .i64 x.Type_,.int .i64 x.From,.int .i64 x.To],3,fun _=>rfl⟩
theorem wJ (x:Edge):Enc.cells x=[.int .i64 x.Type_,.int .i64 x.From,.int .i64 x.To]:=rfl
theorem Jv:Enc.size Edge=3:=rfl
theorem Jl (l:List Edge) (v0:Int) (v1:Int) (v2:Int):rows l ++ [[.int .i64 v0,.int .i64 v1,.int .i64 v2]]=rows (l ++ [(Edge.mk v0 v1 v2)]):=bR l [(Edge.mk v0 v1 v2)]
theorem Mb (l:List Edge) (i:Nat) (v0:Int) (v1:Int) (v2:Int):cC (rows l) i [.int .i64 v0,.int .i64 v1,.int .i64 v2]=rows (l.set i (Edge.mk v0 v1 v2)):=cG l i (Edge.mk v0 v1 v2)
instance:Plain Edge:=⟨fun _=>rfl⟩
theorem Qn (x:Edge):Edge.mk x.Type_ x.From x.To=x:=rfl
instance:Inj Edge:=⟨fun a b h=>by
 obtain ⟨a1,a2,a3⟩:=a
 obtain ⟨b1,b2,b3⟩:=b
 simpa [wJ,bY,and_assoc] using h⟩
structure Graph where
 Nodes:(List Int)
 Edges:(List Edge)
 deriving DecidableEq
instance:Enc Graph:=⟨fun x=>[.lit (rows x.Nodes) ⟨false,false⟩,.lit (rows x.Edges) ⟨false,false⟩],2,fun _=>rfl⟩
theorem tc (x:Graph):Enc.cells x=[.lit (rows x.Nodes) ⟨false,false⟩,.lit (rows x.Edges) ⟨false,false⟩]:=rfl
theorem CY:Enc.size Graph=2:=rfl
theorem CS (l:List Graph) (v0:(List Int)) (v1:(List Edge)):rows l ++ [[.lit (rows v0) ⟨false,false⟩,.lit (rows v1) ⟨false,false⟩]]=rows (l ++ [(Graph.mk v0 v1)]):=bR l [(Graph.mk v0 v1)]
theorem JA (l:List Graph) (i:Nat) (v0:(List Int)) (v1:(List Edge)):cC (rows l) i [.lit (rows v0) ⟨false,false⟩,.lit (rows v1) ⟨false,false⟩]=rows (l.set i (Graph.mk v0 v1)):=cG l i (Graph.mk v0 v1)
theorem Ll (x:Graph):Graph.mk x.Nodes x.Edges=x:=rfl
instance:Inj Graph:=⟨fun a b h=>by
 obtain ⟨a1,a2⟩:=a
 obtain ⟨b1,b2⟩:=b
 simpa [tc,bY,and_assoc] using h⟩
structure Count where
 Type_:Int
 From:Int
 To:Int
 Number:Int
 deriving DecidableEq
instance:Enc Count:=⟨fun x=>[.int .i64 x.Type_,.int .i64 x.From,.int .i64 x.To,.int .i64 x.Number],4,fun _=>rfl⟩
theorem td (x:Count):Enc.cells x=[.int .i64 x.Type_,.int .i64 x.From,.int .i64 x.To,.int .i64 x.Number]:=rfl
theorem CZ:Enc.size Count=4:=rfl
theorem CT (l:List Count) (v0:Int) (v1:Int) (v2:Int) (v3:Int):rows l ++ [[.int .i64 v0,.int .i64 v1,.int .i64 v2,.int .i64 v3]]=rows (l ++ [(Count.mk v0 v1 v2 v3)]):=bR l [(Count.mk v0 v1 v2 v3)]
theorem JB (l:List Count) (i:Nat) (v0:Int) (v1:Int) (v2:Int) (v3:Int):cC (rows l) i [.int .i64 v0,.int .i64 v1,.int .i64 v2,.int .i64 v3]=rows (l.set i (Count.mk v0 v1 v2 v3)):=cG l i (Count.mk v0 v1 v2 v3)
instance:Plain Count:=⟨fun _=>rfl⟩
theorem Lm (x:Count):Count.mk x.Type_ x.From x.To x.Number=x:=rfl
instance:Inj Count:=⟨fun a b h=>by
 obtain ⟨a1,a2,a3,a4⟩:=a
 obtain ⟨b1,b2,b3,b4⟩:=b
 simpa [td,bY,and_assoc] using h⟩
structure dX where
 Nodes:(List Count)
 Edges:(List Count)
 deriving DecidableEq
instance:Enc dX:=⟨fun x=>[.lit (rows x.Nodes) ⟨false,false⟩,.lit (rows x.Edges) ⟨false,false⟩],2,fun _=>rfl⟩
theorem mZ (x:dX):Enc.cells x=[.lit (rows x.Nodes) ⟨false,false⟩,.lit (rows x.Edges) ⟨false,false⟩]:=rfl
theorem uD:Enc.size dX=2:=rfl
theorem uA (l:List dX) (v0:(List Count)) (v1:(List Count)):rows l ++ [[.lit (rows v0) ⟨false,false⟩,.lit (rows v1) ⟨false,false⟩]]=rows (l ++ [(dX.mk v0 v1)]):=bR l [(dX.mk v0 v1)]
theorem w6 (l:List dX) (i:Nat) (v0:(List Count)) (v1:(List Count)):cC (rows l) i [.lit (rows v0) ⟨false,false⟩,.lit (rows v1) ⟨false,false⟩]=rows (l.set i (dX.mk v0 v1)):=cG l i (dX.mk v0 v1)
theorem xm (x:dX):dX.mk x.Nodes x.Edges=x:=rfl
instance:Inj dX:=⟨fun a b h=>by
 obtain ⟨a1,a2⟩:=a
 obtain ⟨b1,b2⟩:=b
 simpa [mZ,bY,and_assoc] using h⟩
structure aQ where
 Nodes:(List Int)
 Edges:(List Int)
 deriving DecidableEq
instance:Enc aQ:=⟨fun x=>[.lit (rows x.Nodes) ⟨false,false⟩,.lit (rows x.Edges) ⟨false,false⟩],2,fun _=>rfl⟩
theorem gP (x:aQ):Enc.cells x=[.lit (rows x.Nodes) ⟨false,false⟩,.lit (rows x.Edges) ⟨false,false⟩]:=rfl
theorem wZ:Enc.size aQ=2:=rfl
theorem wW (l:List aQ) (v0:(List Int)) (v1:(List Int)):rows l ++ [[.lit (rows v0) ⟨false,false⟩,.lit (rows v1) ⟨false,false⟩]]=rows (l ++ [(aQ.mk v0 v1)]):=bR l [(aQ.mk v0 v1)]
theorem yD (l:List aQ) (i:Nat) (v0:(List Int)) (v1:(List Int)):cC (rows l) i [.lit (rows v0) ⟨false,false⟩,.lit (rows v1) ⟨false,false⟩]=rows (l.set i (aQ.mk v0 v1)):=cG l i (aQ.mk v0 v1)
theorem Av (x:aQ):aQ.mk x.Nodes x.Edges=x:=rfl
instance:Inj aQ:=⟨fun a b h=>by
 obtain ⟨a1,a2⟩:=a
 obtain ⟨b1,b2⟩:=b
 simpa [gP,bY,and_assoc] using h⟩
structure Term where
 Var:Int
 Add:Int
 deriving DecidableEq
instance:Enc Term:=⟨fun x=>[.int .i64 x.Var,.int .i64 x.Add],2,fun _=>rfl⟩
theorem wF (x:Term):Enc.cells x=[.int .i64 x.Var,.int .i64 x.Add]:=rfl
theorem Jr:Enc.size Term=2:=rfl
theorem Jh (l:List Term) (v0:Int) (v1:Int):rows l ++ [[.int .i64 v0,.int .i64 v1]]=rows (l ++ [(Term.mk v0 v1)]):=bR l [(Term.mk v0 v1)]
theorem L7 (l:List Term) (i:Nat) (v0:Int) (v1:Int):cC (rows l) i [.int .i64 v0,.int .i64 v1]=rows (l.set i (Term.mk v0 v1)):=cG l i (Term.mk v0 v1)
instance:Plain Term:=⟨fun _=>rfl⟩
theorem Qj (x:Term):Term.mk x.Var x.Add=x:=rfl
instance:Inj Term:=⟨fun a b h=>by
 obtain ⟨a1,a2⟩:=a
 obtain ⟨b1,b2⟩:=b
 simpa [wF,bY,and_assoc] using h⟩
structure Slot where
 Node:Int
 Attr:Int
 Term:Term
 deriving DecidableEq
instance:Enc Slot:=⟨fun x=>[.int .i64 x.Node,.int .i64 x.Attr,.int .i64 x.Term.Var,.int .i64 x.Term.Add],4,fun _=>rfl⟩
theorem wG (x:Slot):Enc.cells x=[.int .i64 x.Node,.int .i64 x.Attr,.int .i64 x.Term.Var,.int .i64 x.Term.Add]:=rfl
theorem Js:Enc.size Slot=4:=rfl
theorem Ji (l:List Slot) (v0:Int) (v1:Int) (v2:Int) (v3:Int):rows l ++ [[.int .i64 v0,.int .i64 v1,.int .i64 v2,.int .i64 v3]]=rows (l ++ [(Slot.mk v0 v1 (Term.mk v2 v3))]):=bR l [(Slot.mk v0 v1 (Term.mk v2 v3))]
theorem L8 (l:List Slot) (i:Nat) (v0:Int) (v1:Int) (v2:Int) (v3:Int):cC (rows l) i [.int .i64 v0,.int .i64 v1,.int .i64 v2,.int .i64 v3]=rows (l.set i (Slot.mk v0 v1 (Term.mk v2 v3))):=cG l i (Slot.mk v0 v1 (Term.mk v2 v3))
instance:Plain Slot:=⟨fun _=>rfl⟩
theorem Qk (x:Slot):Slot.mk x.Node x.Attr x.Term=x:=rfl
instance:Inj Slot:=⟨fun a b h=>by
 obtain ⟨a1,a2,⟨a3,a4⟩⟩:=a
 obtain ⟨b1,b2,⟨b3,b4⟩⟩:=b
 simpa [wG,bY,and_assoc] using h⟩
structure Test where
 Kind:Int
 Left:Term
 Right:Term
 deriving DecidableEq
instance:Enc Test:=⟨fun x=>[.int .i64 x.Kind,.int .i64 x.Left.Var,.int .i64 x.Left.Add,.int .i64 x.Right.Var,.int .i64 x.Right.Add],5,fun _=>rfl⟩
theorem wE (x:Test):Enc.cells x=[.int .i64 x.Kind,.int .i64 x.Left.Var,.int .i64 x.Left.Add,.int .i64 x.Right.Var,.int .i64 x.Right.Add]:=rfl
theorem Jq:Enc.size Test=5:=rfl
theorem Jg (l:List Test) (v0:Int) (v1:Int) (v2:Int) (v3:Int) (v4:Int):rows l ++ [[.int .i64 v0,.int .i64 v1,.int .i64 v2,.int .i64 v3,.int .i64 v4]]=rows (l ++ [(Test.mk v0 (Term.mk v1 v2) (Term.mk v3 v4))]):=bR l [(Test.mk v0 (Term.mk v1 v2) (Term.mk v3 v4))]
theorem L6 (l:List Test) (i:Nat) (v0:Int) (v1:Int) (v2:Int) (v3:Int) (v4:Int):cC (rows l) i [.int .i64 v0,.int .i64 v1,.int .i64 v2,.int .i64 v3,.int .i64 v4]=rows (l.set i (Test.mk v0 (Term.mk v1 v2) (Term.mk v3 v4))):=cG l i (Test.mk v0 (Term.mk v1 v2) (Term.mk v3 v4))
instance:Plain Test:=⟨fun _=>rfl⟩
theorem Qi (x:Test):Test.mk x.Kind x.Left x.Right=x:=rfl
instance:Inj Test:=⟨fun a b h=>by
 obtain ⟨a1,⟨a2,a3⟩,⟨a4,a5⟩⟩:=a
 obtain ⟨b1,⟨b2,b3⟩,⟨b4,b5⟩⟩:=b
 simpa [wE,bY,and_assoc] using h⟩
structure Pattern where
 Graph:Graph
 Slots:(List Slot)
 Vars:Int
 Tests:(List Test)
 deriving DecidableEq
instance:Enc Pattern:=⟨fun x=>[.lit (rows x.Graph.Nodes) ⟨false,false⟩,.lit (rows x.Graph.Edges) ⟨false,false⟩,.lit (rows x.Slots) ⟨false,false⟩,.int .i64 x.Vars,.lit (rows x.Tests) ⟨false,false⟩],5,fun _=>rfl⟩
theorem ic (x:Pattern):Enc.cells x=[.lit (rows x.Graph.Nodes) ⟨false,false⟩,.lit (rows x.Graph.Edges) ⟨false,false⟩,.lit (rows x.Slots) ⟨false,false⟩,.int .i64 x.Vars,.lit (rows x.Tests) ⟨false,false⟩]:=rfl
theorem yB:Enc.size Pattern=5:=rfl
theorem yz (l:List Pattern) (v0:(List Int)) (v1:(List Edge)) (v2:(List Slot)) (v3:Int) (v4:(List Test)):rows l ++ [[.lit (rows v0) ⟨false,false⟩,.lit (rows v1) ⟨false,false⟩,.lit (rows v2) ⟨false,false⟩,.int .i64 v3,.lit (rows v4) ⟨false,false⟩]]=rows (l ++ [(Pattern.mk (Graph.mk v0 v1) v2 v3 v4)]):=bR l [(Pattern.mk (Graph.mk v0 v1) v2 v3 v4)]
theorem AQ (l:List Pattern) (i:Nat) (v0:(List Int)) (v1:(List Edge)) (v2:(List Slot)) (v3:Int) (v4:(List Test)):cC (rows l) i [.lit (rows v0) ⟨false,false⟩,.lit (rows v1) ⟨false,false⟩,.lit (rows v2) ⟨false,false⟩,.int .i64 v3,.lit (rows v4) ⟨false,false⟩]=rows (l.set i (Pattern.mk (Graph.mk v0 v1) v2 v3 v4)):=cG l i (Pattern.mk (Graph.mk v0 v1) v2 v3 v4)
theorem Cl (x:Pattern):Pattern.mk x.Graph x.Slots x.Vars x.Tests=x:=rfl
instance:Inj Pattern:=⟨fun a b h=>by
 obtain ⟨⟨a1,a2⟩,a3,a4,a5⟩:=a
 obtain ⟨⟨b1,b2⟩,b3,b4,b5⟩:=b
 simpa [ic,bY,and_assoc] using h⟩
structure Condition where
 Kind:Int
 Kids:(List Condition)
 Map:aQ
 Pattern:Pattern
mutual
def eY:Condition→List PV
 | .mk r0 r1 r2 r3=>[.int .i64 r0] ++ [.lit (fe r1) ⟨false,false⟩] ++ Enc.cells r2 ++ Enc.cells r3
def fe:List Condition→List (List PV)
 | []=>[]
 | c::r=>eY c::fe r
end
instance:Enc Condition:=⟨eY,9,fun x=>by cases x;simp [eY,gP,ic]⟩
theorem ql (l:List Condition):fe l=rows l:=by
 induction l with
 | nil=>simp [fe,rows]
 | cons a l ih=>simp only [fe,ih];rfl
theorem dW (x:Condition):Enc.cells x=[.int .i64 x.Kind,.lit (rows x.Kids) ⟨false,false⟩,.lit (rows x.Map.Nodes) ⟨false,false⟩,.lit (rows x.Map.Edges) ⟨false,false⟩,.lit (rows x.Pattern.Graph.Nodes) ⟨false,false⟩,.lit (rows x.Pattern.Graph.Edges) ⟨false,false⟩,.lit (rows x.Pattern.Slots) ⟨false,false⟩,.int .i64 x.Pattern.Vars,.lit (rows x.Pattern.Tests) ⟨false,false⟩]:=by
 cases x
 show eY _=_
 simp [eY,ql,gP,ic]
theorem uE:Enc.size Condition=9:=rfl
theorem w9 (v0:Int) (v1:(List Condition)) (v2:(List Int)) (v3:(List Int)) (v4:(List Int)) (v5:(List Edge)) (v6:(List Slot)) (v7:Int) (v8:(List Test)):rows [(Condition.mk v0 v1 (aQ.mk v2 v3) (Pattern.mk (Graph.mk v4 v5) v6 v7 v8))]=[[.int .i64 v0,.lit (rows v1) ⟨false,false⟩,.lit (rows v2) ⟨false,false⟩,.lit (rows v3) ⟨false,false⟩,.lit (rows v4) ⟨false,false⟩,.lit (rows v5) ⟨false,false⟩,.lit (rows v6) ⟨false,false⟩,.int .i64 v7,.lit (rows v8) ⟨false,false⟩]]:=by
 show [Enc.cells _]=_
 rw [dW]
theorem uB (l:List Condition) (v0:Int) (v1:(List Condition)) (v2:(List Int)) (v3:(List Int)) (v4:(List Int)) (v5:(List Edge)) (v6:(List Slot)) (v7:Int) (v8:(List Test)):rows l ++ [[.int .i64 v0,.lit (rows v1) ⟨false,false⟩,.lit (rows v2) ⟨false,false⟩,.lit (rows v3) ⟨false,false⟩,.lit (rows v4) ⟨false,false⟩,.lit (rows v5) ⟨false,false⟩,.lit (rows v6) ⟨false,false⟩,.int .i64 v7,.lit (rows v8) ⟨false,false⟩]]=rows (l ++ [(Condition.mk v0 v1 (aQ.mk v2 v3) (Pattern.mk (Graph.mk v4 v5) v6 v7 v8))]):=by
 rw [← w9,bR]
theorem w7 (l:List Condition) (i:Nat) (v0:Int) (v1:(List Condition)) (v2:(List Int)) (v3:(List Int)) (v4:(List Int)) (v5:(List Edge)) (v6:(List Slot)) (v7:Int) (v8:(List Test)):cC (rows l) i [.int .i64 v0,.lit (rows v1) ⟨false,false⟩,.lit (rows v2) ⟨false,false⟩,.lit (rows v3) ⟨false,false⟩,.lit (rows v4) ⟨false,false⟩,.lit (rows v5) ⟨false,false⟩,.lit (rows v6) ⟨false,false⟩,.int .i64 v7,.lit (rows v8) ⟨false,false⟩]=rows (l.set i (Condition.mk v0 v1 (aQ.mk v2 v3) (Pattern.mk (Graph.mk v4 v5) v6 v7 v8))):=by
 have:=cG l i (Condition.mk v0 v1 (aQ.mk v2 v3) (Pattern.mk (Graph.mk v4 v5) v6 v7 v8))
 rw [dW] at this;exact this
theorem xn (x:Condition):Condition.mk x.Kind x.Kids x.Map x.Pattern=x:=by cases x;rfl
mutual
theorem pg:∀ a b:Condition,Enc.cells a=Enc.cells b→a=b
 | ⟨a1,a2,⟨a3,a4⟩,⟨⟨a5,a6⟩,a7,a8,a9⟩⟩,⟨b1,b2,⟨b3,b4⟩,⟨⟨b5,b6⟩,b7,b8,b9⟩⟩,h=>by
  simp only [dW,List.cons.injEq,PV.int.injEq,PV.bool.injEq,PV.str.injEq,PV.lit.injEq,bY,true_and,and_true] at h
  have k1:=ph a2 b2 h.2.1
  simp_all
theorem ph:∀ a b:List Condition,rows a=rows b→a=b
 | [],[],_=>rfl
 | a::l,b::m,h=>by
  simp only [rows,List.map_cons,List.cons.injEq] at h
  rw [pg a b h.1,ph l m h.2]
 | [],_::_,h=>by simp [rows] at h
 | _::_,[],h=>by simp [rows] at h
end
instance:Inj Condition:=⟨pg⟩
structure Part where
 Nodes:(List Int)
 Edges:(List Int)
 deriving DecidableEq
instance:Enc Part:=⟨fun x=>[.lit (rows x.Nodes) ⟨false,false⟩,.lit (rows x.Edges) ⟨false,false⟩],2,fun _=>rfl⟩
theorem wI (x:Part):Enc.cells x=[.lit (rows x.Nodes) ⟨false,false⟩,.lit (rows x.Edges) ⟨false,false⟩]:=rfl
theorem Ju:Enc.size Part=2:=rfl
theorem Jk (l:List Part) (v0:(List Int)) (v1:(List Int)):rows l ++ [[.lit (rows v0) ⟨false,false⟩,.lit (rows v1) ⟨false,false⟩]]=rows (l ++ [(Part.mk v0 v1)]):=bR l [(Part.mk v0 v1)]
theorem Ma (l:List Part) (i:Nat) (v0:(List Int)) (v1:(List Int)):cC (rows l) i [.lit (rows v0) ⟨false,false⟩,.lit (rows v1) ⟨false,false⟩]=rows (l.set i (Part.mk v0 v1)):=cG l i (Part.mk v0 v1)
theorem Qm (x:Part):Part.mk x.Nodes x.Edges=x:=rfl
instance:Inj Part:=⟨fun a b h=>by
 obtain ⟨a1,a2⟩:=a
 obtain ⟨b1,b2⟩:=b
 simpa [wI,bY,and_assoc] using h⟩
structure bJ where
 Name:ByteArray
 Left:Pattern
 Right:Pattern
 Keep:Part
 Into:aQ
 Injective:Bool
 Condition:Condition
instance:Enc bJ:=⟨fun x=>[.str x.Name,.lit (rows x.Left.Graph.Nodes) ⟨false,false⟩,.lit (rows x.Left.Graph.Edges) ⟨false,false⟩,.lit (rows x.Left.Slots) ⟨false,false⟩,.int .i64 x.Left.Vars,.lit (rows x.Left.Tests) ⟨false,false⟩,.lit (rows x.Right.Graph.Nodes) ⟨false,false⟩,.lit (rows x.Right.Graph.Edges) ⟨false,false⟩,.lit (rows x.Right.Slots) ⟨false,false⟩,.int .i64 x.Right.Vars,.lit (rows x.Right.Tests) ⟨false,false⟩,.lit (rows x.Keep.Nodes) ⟨false,false⟩,.lit (rows x.Keep.Edges) ⟨false,false⟩,.lit (rows x.Into.Nodes) ⟨false,false⟩,.lit (rows x.Into.Edges) ⟨false,false⟩,.bool x.Injective,.int .i64 x.Condition.Kind,.lit (rows x.Condition.Kids) ⟨false,false⟩,.lit (rows x.Condition.Map.Nodes) ⟨false,false⟩,.lit (rows x.Condition.Map.Edges) ⟨false,false⟩,.lit (rows x.Condition.Pattern.Graph.Nodes) ⟨false,false⟩,.lit (rows x.Condition.Pattern.Graph.Edges) ⟨false,false⟩,.lit (rows x.Condition.Pattern.Slots) ⟨false,false⟩,.int .i64 x.Condition.Pattern.Vars,.lit (rows x.Condition.Pattern.Tests) ⟨false,false⟩],25,fun _=>rfl⟩
theorem wH (x:bJ):Enc.cells x=[.str x.Name,.lit (rows x.Left.Graph.Nodes) ⟨false,false⟩,.lit (rows x.Left.Graph.Edges) ⟨false,false⟩,.lit (rows x.Left.Slots) ⟨false,false⟩,.int .i64 x.Left.Vars,.lit (rows x.Left.Tests) ⟨false,false⟩,.lit (rows x.Right.Graph.Nodes) ⟨false,false⟩,.lit (rows x.Right.Graph.Edges) ⟨false,false⟩,.lit (rows x.Right.Slots) ⟨false,false⟩,.int .i64 x.Right.Vars,.lit (rows x.Right.Tests) ⟨false,false⟩,.lit (rows x.Keep.Nodes) ⟨false,false⟩,.lit (rows x.Keep.Edges) ⟨false,false⟩,.lit (rows x.Into.Nodes) ⟨false,false⟩,.lit (rows x.Into.Edges) ⟨false,false⟩,.bool x.Injective,.int .i64 x.Condition.Kind,.lit (rows x.Condition.Kids) ⟨false,false⟩,.lit (rows x.Condition.Map.Nodes) ⟨false,false⟩,.lit (rows x.Condition.Map.Edges) ⟨false,false⟩,.lit (rows x.Condition.Pattern.Graph.Nodes) ⟨false,false⟩,.lit (rows x.Condition.Pattern.Graph.Edges) ⟨false,false⟩,.lit (rows x.Condition.Pattern.Slots) ⟨false,false⟩,.int .i64 x.Condition.Pattern.Vars,.lit (rows x.Condition.Pattern.Tests) ⟨false,false⟩]:=rfl
theorem Jt:Enc.size bJ=25:=rfl
theorem Jj (l:List bJ) (v0:ByteArray) (v1:(List Int)) (v2:(List Edge)) (v3:(List Slot)) (v4:Int) (v5:(List Test)) (v6:(List Int)) (v7:(List Edge)) (v8:(List Slot)) (v9:Int) (v10:(List Test)) (v11:(List Int)) (v12:(List Int)) (v13:(List Int)) (v14:(List Int)) (v15:Bool) (v16:Int) (v17:(List Condition)) (v18:(List Int)) (v19:(List Int)) (v20:(List Int)) (v21:(List Edge)) (v22:(List Slot)) (v23:Int) (v24:(List Test)):rows l ++ [[.str v0,.lit (rows v1) ⟨false,false⟩,.lit (rows v2) ⟨false,false⟩,.lit (rows v3) ⟨false,false⟩,.int .i64 v4,.lit (rows v5) ⟨false,false⟩,.lit (rows v6) ⟨false,false⟩,.lit (rows v7) ⟨false,false⟩,.lit (rows v8) ⟨false,false⟩,.int .i64 v9,.lit (rows v10) ⟨false,false⟩,.lit (rows v11) ⟨false,false⟩,.lit (rows v12) ⟨false,false⟩,.lit (rows v13) ⟨false,false⟩,.lit (rows v14) ⟨false,false⟩,.bool v15,.int .i64 v16,.lit (rows v17) ⟨false,false⟩,.lit (rows v18) ⟨false,false⟩,.lit (rows v19) ⟨false,false⟩,.lit (rows v20) ⟨false,false⟩,.lit (rows v21) ⟨false,false⟩,.lit (rows v22) ⟨false,false⟩,.int .i64 v23,.lit (rows v24) ⟨false,false⟩]]=rows (l ++ [(bJ.mk v0 (Pattern.mk (Graph.mk v1 v2) v3 v4 v5) (Pattern.mk (Graph.mk v6 v7) v8 v9 v10) (Part.mk v11 v12) (aQ.mk v13 v14) v15 (Condition.mk v16 v17 (aQ.mk v18 v19) (Pattern.mk (Graph.mk v20 v21) v22 v23 v24)))]):=bR l [(bJ.mk v0 (Pattern.mk (Graph.mk v1 v2) v3 v4 v5) (Pattern.mk (Graph.mk v6 v7) v8 v9 v10) (Part.mk v11 v12) (aQ.mk v13 v14) v15 (Condition.mk v16 v17 (aQ.mk v18 v19) (Pattern.mk (Graph.mk v20 v21) v22 v23 v24)))]
theorem L9 (l:List bJ) (i:Nat) (v0:ByteArray) (v1:(List Int)) (v2:(List Edge)) (v3:(List Slot)) (v4:Int) (v5:(List Test)) (v6:(List Int)) (v7:(List Edge)) (v8:(List Slot)) (v9:Int) (v10:(List Test)) (v11:(List Int)) (v12:(List Int)) (v13:(List Int)) (v14:(List Int)) (v15:Bool) (v16:Int) (v17:(List Condition)) (v18:(List Int)) (v19:(List Int)) (v20:(List Int)) (v21:(List Edge)) (v22:(List Slot)) (v23:Int) (v24:(List Test)):cC (rows l) i [.str v0,.lit (rows v1) ⟨false,false⟩,.lit (rows v2) ⟨false,false⟩,.lit (rows v3) ⟨false,false⟩,.int .i64 v4,.lit (rows v5) ⟨false,false⟩,.lit (rows v6) ⟨false,false⟩,.lit (rows v7) ⟨false,false⟩,.lit (rows v8) ⟨false,false⟩,.int .i64 v9,.lit (rows v10) ⟨false,false⟩,.lit (rows v11) ⟨false,false⟩,.lit (rows v12) ⟨false,false⟩,.lit (rows v13) ⟨false,false⟩,.lit (rows v14) ⟨false,false⟩,.bool v15,.int .i64 v16,.lit (rows v17) ⟨false,false⟩,.lit (rows v18) ⟨false,false⟩,.lit (rows v19) ⟨false,false⟩,.lit (rows v20) ⟨false,false⟩,.lit (rows v21) ⟨false,false⟩,.lit (rows v22) ⟨false,false⟩,.int .i64 v23,.lit (rows v24) ⟨false,false⟩]=rows (l.set i (bJ.mk v0 (Pattern.mk (Graph.mk v1 v2) v3 v4 v5) (Pattern.mk (Graph.mk v6 v7) v8 v9 v10) (Part.mk v11 v12) (aQ.mk v13 v14) v15 (Condition.mk v16 v17 (aQ.mk v18 v19) (Pattern.mk (Graph.mk v20 v21) v22 v23 v24)))):=cG l i (bJ.mk v0 (Pattern.mk (Graph.mk v1 v2) v3 v4 v5) (Pattern.mk (Graph.mk v6 v7) v8 v9 v10) (Part.mk v11 v12) (aQ.mk v13 v14) v15 (Condition.mk v16 v17 (aQ.mk v18 v19) (Pattern.mk (Graph.mk v20 v21) v22 v23 v24)))
theorem Ql (x:bJ):bJ.mk x.Name x.Left x.Right x.Keep x.Into x.Injective x.Condition=x:=rfl
instance:Inj bJ:=⟨fun a b h=>by
 obtain ⟨a1,⟨⟨a2,a3⟩,a4,a5,a6⟩,⟨⟨a7,a8⟩,a9,a10,a11⟩,⟨a12,a13⟩,⟨a14,a15⟩,a16,⟨a17,a18,⟨a19,a20⟩,⟨⟨a21,a22⟩,a23,a24,a25⟩⟩⟩:=a
 obtain ⟨b1,⟨⟨b2,b3⟩,b4,b5,b6⟩,⟨⟨b7,b8⟩,b9,b10,b11⟩,⟨b12,b13⟩,⟨b14,b15⟩,b16,⟨b17,b18,⟨b19,b20⟩,⟨⟨b21,b22⟩,b23,b24,b25⟩⟩⟩:=b
 simpa [wH,bY,and_assoc] using h⟩
structure ct where
 effects:(List (List Int))
 touched:(List Int)
 w:(List Int)
 sum:Int
 best:(List Int)
 least:Int
 lowered:Int
 deriving DecidableEq
instance:Enc ct:=⟨fun x=>[.lit (rows x.effects) ⟨false,false⟩,.lit (rows x.touched) ⟨false,false⟩,.lit (rows x.w) ⟨false,false⟩,.int .i64 x.sum,.lit (rows x.best) ⟨false,false⟩,.int .i64 x.least,.int .i64 x.lowered],7,fun _=>rfl⟩
theorem iB (x:ct):Enc.cells x=[.lit (rows x.effects) ⟨false,false⟩,.lit (rows x.touched) ⟨false,false⟩,.lit (rows x.w) ⟨false,false⟩,.int .i64 x.sum,.lit (rows x.best) ⟨false,false⟩,.int .i64 x.least,.int .i64 x.lowered]:=rfl
theorem oP:Enc.size ct=7:=rfl
theorem oO (l:List ct) (v0:(List (List Int))) (v1:(List Int)) (v2:(List Int)) (v3:Int) (v4:(List Int)) (v5:Int) (v6:Int):rows l ++ [[.lit (rows v0) ⟨false,false⟩,.lit (rows v1) ⟨false,false⟩,.lit (rows v2) ⟨false,false⟩,.int .i64 v3,.lit (rows v4) ⟨false,false⟩,.int .i64 v5,.int .i64 v6]]=rows (l ++ [(ct.mk v0 v1 v2 v3 v4 v5 v6)]):=bR l [(ct.mk v0 v1 v2 v3 v4 v5 v6)]
theorem pq (l:List ct) (i:Nat) (v0:(List (List Int))) (v1:(List Int)) (v2:(List Int)) (v3:Int) (v4:(List Int)) (v5:Int) (v6:Int):cC (rows l) i [.lit (rows v0) ⟨false,false⟩,.lit (rows v1) ⟨false,false⟩,.lit (rows v2) ⟨false,false⟩,.int .i64 v3,.lit (rows v4) ⟨false,false⟩,.int .i64 v5,.int .i64 v6]=rows (l.set i (ct.mk v0 v1 v2 v3 v4 v5 v6)):=cG l i (ct.mk v0 v1 v2 v3 v4 v5 v6)
theorem qd (x:ct):ct.mk x.effects x.touched x.w x.sum x.best x.least x.lowered=x:=rfl
instance:Inj ct:=⟨fun a b h=>by
 obtain ⟨a1,a2,a3,a4,a5,a6,a7⟩:=a
 obtain ⟨b1,b2,b3,b4,b5,b6,b7⟩:=b
 simpa [iB,bY,and_assoc] using h⟩
structure Token where
 Kind:Int
 Text:ByteArray
 Line:Int
 deriving DecidableEq
instance:Enc Token:=⟨fun x=>[.int .i64 x.Kind,.str x.Text,.int .i64 x.Line],3,fun _=>rfl⟩
theorem ta (x:Token):Enc.cells x=[.int .i64 x.Kind,.str x.Text,.int .i64 x.Line]:=rfl
theorem CW:Enc.size Token=3:=rfl
theorem CQ (l:List Token) (v0:Int) (v1:ByteArray) (v2:Int):rows l ++ [[.int .i64 v0,.str v1,.int .i64 v2]]=rows (l ++ [(Token.mk v0 v1 v2)]):=bR l [(Token.mk v0 v1 v2)]
theorem Jy (l:List Token) (i:Nat) (v0:Int) (v1:ByteArray) (v2:Int):cC (rows l) i [.int .i64 v0,.str v1,.int .i64 v2]=rows (l.set i (Token.mk v0 v1 v2)):=cG l i (Token.mk v0 v1 v2)
instance:Plain Token:=⟨fun _=>rfl⟩
theorem Lj (x:Token):Token.mk x.Kind x.Text x.Line=x:=rfl
instance:Inj Token:=⟨fun a b h=>by
 obtain ⟨a1,a2,a3⟩:=a
 obtain ⟨b1,b2,b3⟩:=b
 simpa [ta,bY,and_assoc] using h⟩
set_option linter.defProp false
def WS:=
 And.intro @wK<|
 And.intro @Jw<|
 And.intro @Jm<|
 And.intro @Mc<|
 And.intro @Qo<|
 And.intro @ot<|
 And.intro @wY<|
 And.intro @wV<|
 And.intro @yC<|
 And.intro @Au<|
 And.intro @ou<|
 And.intro @w5<|
 And.intro @wX<|
 And.intro @yE<|
 And.intro @Aw<|
 And.intro @s9<|
 And.intro @CV<|
 And.intro @CP<|
 And.intro @Jx<|
 And.intro @Li<|
 And.intro @tb<|
 And.intro @CX<|
 And.intro @CR<|
 And.intro @Jz<|
 And.intro @Lk<|
 And.intro @wJ<|
 And.intro @Jv<|
 And.intro @Jl<|
 And.intro @Mb<|
 And.intro @Qn<|
 And.intro @tc<|
 And.intro @CY<|
 And.intro @CS<|
 And.intro @JA<|
 And.intro @Ll<|
 And.intro @td<|
 And.intro @CZ<|
 And.intro @CT<|
 And.intro @JB<|
 And.intro @Lm<|
 And.intro @mZ<|
 And.intro @uD<|
 And.intro @uA<|
 And.intro @w6<|
 And.intro @xm<|
 And.intro @gP<|
 And.intro @wZ<|
 And.intro @wW<|
 And.intro @yD<|
 And.intro @Av<|
 And.intro @wF<|
 And.intro @Jr<|
 And.intro @Jh<|
 And.intro @L7<|
 And.intro @Qj<|
 And.intro @wG<|
 And.intro @Js<|
 And.intro @Ji<|
 And.intro @L8<|
 And.intro @Qk<|
 And.intro @wE<|
 And.intro @Jq<|
 And.intro @Jg<|
 And.intro @L6<|
 And.intro @Qi<|
 And.intro @ic<|
 And.intro @yB<|
 And.intro @yz<|
 And.intro @AQ<|
 And.intro @Cl<|
 And.intro @dW<|
 And.intro @uE<|
 And.intro @uB<|
 And.intro @w7<|
 And.intro @xn<|
 And.intro @wI<|
 And.intro @Ju<|
 And.intro @Jk<|
 And.intro @Ma<|
 And.intro @Qm<|
 And.intro @wH<|
 And.intro @Jt<|
 And.intro @Jj<|
 And.intro @L9<|
 And.intro @Ql<|
 And.intro @iB<|
 And.intro @oP<|
 And.intro @oO<|
 And.intro @pq<|
 And.intro @qd<|
 And.intro @ta<|
 And.intro @CW<|
 And.intro @CQ<|
 And.intro @Jy @Lj
end Go.S
end
