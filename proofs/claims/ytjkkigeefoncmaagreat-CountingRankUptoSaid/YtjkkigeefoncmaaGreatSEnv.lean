import Derived.Test.YtjkkigeefoncmaaGreatPmPrim
import Derived.Test.YtjkkigeefoncmaaGreatProg
set_option linter.unusedVariables false
namespace Go.S
open Go Go.Pm Go.Proofs
noncomputable def tab (t : Nat) : Option TI :=
  bif Nat.blt t 91 then
   bif Nat.blt t 41 then
    bif Nat.blt t 26 then
     bif Nat.blt t 9 then
      bif Nat.blt t 4 then
       bif Nat.beq t 3 then (some ⟨.int .i64, 1, 8, [.int .i64 0], false⟩) else none
      else
       bif Nat.blt t 5 then
        bif Nat.beq t 4 then (some ⟨.bool, 1, 1, [.bool false], false⟩) else none
       else
        bif Nat.beq t 5 then (some ⟨.int .u8, 1, 1, [.int .u8 0], false⟩) else none
     else
      bif Nat.blt t 23 then
       bif Nat.blt t 22 then
        bif Nat.beq t 9 then (some ⟨.str, 1, 16, [.str ⟨#[]⟩], false⟩) else none
       else
        bif Nat.beq t 22 then (some ⟨.slice 67, 1, 24, [.nils], false⟩) else none
      else
       bif Nat.blt t 25 then
        bif Nat.beq t 23 then (some ⟨.slice 72, 1, 24, [.nils], false⟩) else none
       else
        bif Nat.beq t 25 then (some ⟨.struct [(0, 22), (1, 23)], 2, 48, [.nils, .nils], false⟩) else none
    else
     bif Nat.blt t 33 then
      bif Nat.blt t 27 then
       bif Nat.beq t 26 then (some ⟨.slice 96, 1, 24, [.nils], false⟩) else none
      else
       bif Nat.blt t 31 then
        bif Nat.beq t 27 then (some ⟨.slice 33, 1, 24, [.nils], false⟩) else none
       else
        bif Nat.beq t 31 then (some ⟨.slice 3, 1, 24, [.nils], false⟩) else none
     else
      bif Nat.blt t 37 then
       bif Nat.blt t 34 then
        bif Nat.beq t 33 then (some ⟨.struct [(0, 31), (1, 31)], 2, 48, [.nils, .nils], false⟩) else none
       else
        bif Nat.beq t 34 then (some ⟨.func, 1, 8, [.nilf], false⟩) else none
      else
       bif Nat.blt t 39 then
        bif Nat.beq t 37 then (some ⟨.slice 111, 1, 24, [.nils], false⟩) else none
       else
        bif Nat.beq t 39 then (some ⟨.struct [(0, 31), (1, 37)], 2, 48, [.nils, .nils], false⟩) else none
   else
    bif Nat.blt t 70 then
     bif Nat.blt t 61 then
      bif Nat.blt t 53 then
       bif Nat.beq t 41 then (some ⟨.int .i64, 1, 8, [.int .i64 0], false⟩) else none
      else
       bif Nat.blt t 56 then
        bif Nat.beq t 53 then (some ⟨.slice 31, 1, 24, [.nils], false⟩) else none
       else
        bif Nat.beq t 56 then (some ⟨.slice 4, 1, 24, [.nils], false⟩) else none
     else
      bif Nat.blt t 67 then
       bif Nat.blt t 65 then
        bif Nat.beq t 61 then (some ⟨.func, 1, 8, [.nilf], false⟩) else none
       else
        bif Nat.beq t 65 then (some ⟨.slice 70, 1, 24, [.nils], false⟩) else none
      else
       bif Nat.blt t 68 then
        bif Nat.beq t 67 then (some ⟨.struct [(0, 9), (1, 3), (2, 4), (3, 65)], 4, 56, [.str ⟨#[]⟩, .int .i64 0, .bool false, .nils], false⟩) else none
       else
        bif Nat.beq t 68 then (some ⟨.slice 9, 1, 24, [.nils], false⟩) else none
    else
     bif Nat.blt t 85 then
      bif Nat.blt t 73 then
       bif Nat.blt t 72 then
        bif Nat.beq t 70 then (some ⟨.struct [(0, 9), (1, 3), (2, 3), (3, 68)], 4, 56, [.str ⟨#[]⟩, .int .i64 0, .int .i64 0, .nils], false⟩) else none
       else
        bif Nat.beq t 72 then (some ⟨.struct [(0, 9), (1, 3), (2, 3), (3, 3), (4, 3), (5, 3), (6, 3)], 7, 64, [.str ⟨#[]⟩, .int .i64 0, .int .i64 0, .int .i64 0, .int .i64 0, .int .i64 0, .int .i64 0], false⟩) else none
      else
       bif Nat.blt t 75 then
        bif Nat.beq t 73 then (some ⟨.slice 109, 1, 24, [.nils], false⟩) else none
       else
        bif Nat.beq t 75 then (some ⟨.struct [(0, 73), (1, 73)], 2, 48, [.nils, .nils], false⟩) else none
     else
      bif Nat.blt t 88 then
       bif Nat.blt t 87 then
        bif Nat.beq t 85 then (some ⟨.slice 93, 1, 24, [.nils], false⟩) else none
       else
        bif Nat.beq t 87 then (some ⟨.struct [(0, 31), (1, 31)], 2, 48, [.nils, .nils], false⟩) else none
      else
       bif Nat.blt t 89 then
        bif Nat.beq t 88 then (some ⟨.slice 175, 1, 24, [.nils], false⟩) else none
       else
        bif Nat.beq t 89 then (some ⟨.slice 201, 1, 24, [.nils], false⟩) else none
  else
   bif Nat.blt t 169 then
    bif Nat.blt t 116 then
     bif Nat.blt t 96 then
      bif Nat.blt t 93 then
       bif Nat.beq t 91 then (some ⟨.struct [(0, 39), (2, 88), (3, 3), (4, 89)], 5, 104, [.nils, .nils, .nils, .int .i64 0, .nils], false⟩) else none
      else
       bif Nat.blt t 94 then
        bif Nat.beq t 93 then (some ⟨.struct [(0, 3), (1, 85), (2, 87), (4, 91)], 9, 184, [.int .i64 0, .nils, .nils, .nils, .nils, .nils, .nils, .int .i64 0, .nils], false⟩) else none
       else
        bif Nat.beq t 94 then (some ⟨.struct [(0, 31), (1, 31)], 2, 48, [.nils, .nils], false⟩) else none
     else
      bif Nat.blt t 111 then
       bif Nat.blt t 109 then
        bif Nat.beq t 96 then (some ⟨.struct [(0, 9), (1, 91), (6, 91), (11, 94), (13, 87), (15, 4), (16, 93)], 25, 512, [.str ⟨#[]⟩, .nils, .nils, .nils, .int .i64 0, .nils, .nils, .nils, .nils, .int .i64 0, .nils, .nils, .nils, .nils, .nils, .bool false, .int .i64 0, .nils, .nils, .nils, .nils, .nils, .nils, .int .i64 0, .nils], false⟩) else none
       else
        bif Nat.beq t 109 then (some ⟨.struct [(0, 3), (1, 3), (2, 3), (3, 3)], 4, 32, [.int .i64 0, .int .i64 0, .int .i64 0, .int .i64 0], false⟩) else none
      else
       bif Nat.blt t 114 then
        bif Nat.beq t 111 then (some ⟨.struct [(0, 3), (1, 3), (2, 3)], 3, 24, [.int .i64 0, .int .i64 0, .int .i64 0], false⟩) else none
       else
        bif Nat.beq t 114 then (some ⟨.ptr, 1, 8, [.nilp], false⟩) else none
    else
     bif Nat.blt t 137 then
      bif Nat.blt t 118 then
       bif Nat.beq t 116 then (some ⟨.struct [(0, 53), (1, 31), (2, 31), (3, 3), (4, 31), (5, 3), (6, 3)], 7, 120, [.nils, .nils, .nils, .int .i64 0, .nils, .int .i64 0, .int .i64 0], false⟩) else none
      else
       bif Nat.blt t 124 then
        bif Nat.beq t 118 then (some ⟨.func, 1, 8, [.nilf], false⟩) else none
       else
        bif Nat.beq t 124 then (some ⟨.func, 1, 8, [.nilf], false⟩) else none
     else
      bif Nat.blt t 161 then
       bif Nat.blt t 152 then
        bif Nat.beq t 137 then (some ⟨.func, 1, 8, [.nilf], false⟩) else none
       else
        bif Nat.beq t 152 then (some ⟨.func, 1, 8, [.nilf], false⟩) else none
      else
       bif Nat.blt t 163 then
        bif Nat.beq t 161 then (some ⟨.func, 1, 8, [.nilf], false⟩) else none
       else
        bif Nat.beq t 163 then (some ⟨.int .u64, 1, 8, [.int .u64 0], false⟩) else none
   else
    bif Nat.blt t 216 then
     bif Nat.blt t 188 then
      bif Nat.blt t 173 then
       bif Nat.beq t 169 then (some ⟨.struct [(0, 3), (1, 9), (2, 3)], 3, 32, [.int .i64 0, .str ⟨#[]⟩, .int .i64 0], false⟩) else none
      else
       bif Nat.blt t 175 then
        bif Nat.beq t 173 then (some ⟨.struct [(0, 3), (1, 3)], 2, 16, [.int .i64 0, .int .i64 0], false⟩) else none
       else
        bif Nat.beq t 175 then (some ⟨.struct [(0, 3), (1, 3), (2, 173)], 4, 32, [.int .i64 0, .int .i64 0, .int .i64 0, .int .i64 0], false⟩) else none
     else
      bif Nat.blt t 201 then
       bif Nat.blt t 191 then
        bif Nat.beq t 188 then (some ⟨.func, 1, 8, [.nilf], false⟩) else none
       else
        bif Nat.beq t 191 then (some ⟨.func, 1, 8, [.nilf], false⟩) else none
      else
       bif Nat.blt t 211 then
        bif Nat.beq t 201 then (some ⟨.struct [(0, 3), (1, 173), (3, 173)], 5, 40, [.int .i64 0, .int .i64 0, .int .i64 0, .int .i64 0, .int .i64 0], false⟩) else none
       else
        bif Nat.beq t 211 then (some ⟨.func, 1, 8, [.nilf], false⟩) else none
    else
     bif Nat.blt t 252 then
      bif Nat.blt t 243 then
       bif Nat.blt t 233 then
        bif Nat.beq t 216 then (some ⟨.func, 1, 8, [.nilf], false⟩) else none
       else
        bif Nat.beq t 233 then (some ⟨.func, 1, 8, [.nilf], false⟩) else none
      else
       bif Nat.blt t 250 then
        bif Nat.beq t 243 then (some ⟨.int .i64, 1, 8, [.int .i64 0], false⟩) else none
       else
        bif Nat.beq t 250 then (some ⟨.int .u32, 1, 4, [.int .u32 0], false⟩) else none
     else
      bif Nat.blt t 257 then
       bif Nat.blt t 253 then
        bif Nat.beq t 252 then (some ⟨.int .u64, 1, 8, [.int .u64 0], false⟩) else none
       else
        bif Nat.beq t 253 then (some ⟨.int .u64, 1, 8, [.int .u64 0], false⟩) else none
      else
       bif Nat.blt t 259 then
        bif Nat.beq t 257 then (some ⟨.ptr, 1, 8, [.nilp], false⟩) else none
       else
        bif Nat.beq t 259 then (some ⟨.ptr, 1, 8, [.nilp], false⟩) else none
noncomputable def code (f : Nat) : Option Func :=
  bif Nat.blt f 138 then
   bif Nat.blt f 70 then
    bif Nat.blt f 36 then
     bif Nat.blt f 19 then
      bif Nat.blt f 11 then
       bif Nat.blt f 7 then
        bif Nat.blt f 5 then
         bif Nat.blt f 4 then
          bif Nat.beq f 3 then (some Tryz.f3) else none
         else
          bif Nat.beq f 4 then (some Tryz.f4) else none
        else
         bif Nat.blt f 6 then
          bif Nat.beq f 5 then (some Tryz.f5) else none
         else
          bif Nat.beq f 6 then (some Tryz.f6) else none
       else
        bif Nat.blt f 9 then
         bif Nat.blt f 8 then
          bif Nat.beq f 7 then (some Tryz.f7) else none
         else
          bif Nat.beq f 8 then (some Tryz.f8) else none
        else
         bif Nat.blt f 10 then
          bif Nat.beq f 9 then (some Tryz.f9) else none
         else
          bif Nat.beq f 10 then (some Tryz.f10) else none
      else
       bif Nat.blt f 15 then
        bif Nat.blt f 13 then
         bif Nat.blt f 12 then
          bif Nat.beq f 11 then (some Tryz.f11) else none
         else
          bif Nat.beq f 12 then (some Tryz.f12) else none
        else
         bif Nat.blt f 14 then
          bif Nat.beq f 13 then (some Tryz.f13) else none
         else
          bif Nat.beq f 14 then (some Tryz.f14) else none
       else
        bif Nat.blt f 17 then
         bif Nat.blt f 16 then
          bif Nat.beq f 15 then (some Tryz.f15) else none
         else
          bif Nat.beq f 16 then (some Tryz.f16) else none
        else
         bif Nat.blt f 18 then
          bif Nat.beq f 17 then (some Tryz.f17) else none
         else
          bif Nat.beq f 18 then (some Tryz.f18) else none
     else
      bif Nat.blt f 27 then
       bif Nat.blt f 23 then
        bif Nat.blt f 21 then
         bif Nat.blt f 20 then
          bif Nat.beq f 19 then (some Tryz.f19) else none
         else
          bif Nat.beq f 20 then (some Tryz.f20) else none
        else
         bif Nat.blt f 22 then
          bif Nat.beq f 21 then (some Tryz.f21) else none
         else
          bif Nat.beq f 22 then (some Tryz.f22) else none
       else
        bif Nat.blt f 25 then
         bif Nat.blt f 24 then
          bif Nat.beq f 23 then (some Tryz.f23) else none
         else
          bif Nat.beq f 24 then (some Tryz.f24) else none
        else
         bif Nat.blt f 26 then
          bif Nat.beq f 25 then (some Tryz.f25) else none
         else
          bif Nat.beq f 26 then (some Tryz.f26) else none
      else
       bif Nat.blt f 31 then
        bif Nat.blt f 29 then
         bif Nat.blt f 28 then
          bif Nat.beq f 27 then (some Tryz.f27) else none
         else
          bif Nat.beq f 28 then (some Tryz.f28) else none
        else
         bif Nat.blt f 30 then
          bif Nat.beq f 29 then (some Tryz.f29) else none
         else
          bif Nat.beq f 30 then (some Tryz.f30) else none
       else
        bif Nat.blt f 33 then
         bif Nat.blt f 32 then
          bif Nat.beq f 31 then (some Tryz.f31) else none
         else
          bif Nat.beq f 32 then (some Tryz.f32) else none
        else
         bif Nat.blt f 34 then
          bif Nat.beq f 33 then (some Tryz.f33) else none
         else
          bif Nat.blt f 35 then
           bif Nat.beq f 34 then (some Tryz.f34) else none
          else
           bif Nat.beq f 35 then (some Tryz.f35) else none
    else
     bif Nat.blt f 53 then
      bif Nat.blt f 44 then
       bif Nat.blt f 40 then
        bif Nat.blt f 38 then
         bif Nat.blt f 37 then
          bif Nat.beq f 36 then (some Tryz.f36) else none
         else
          bif Nat.beq f 37 then (some Tryz.f37) else none
        else
         bif Nat.blt f 39 then
          bif Nat.beq f 38 then (some Tryz.f38) else none
         else
          bif Nat.beq f 39 then (some Tryz.f39) else none
       else
        bif Nat.blt f 42 then
         bif Nat.blt f 41 then
          bif Nat.beq f 40 then (some Tryz.f40) else none
         else
          bif Nat.beq f 41 then (some Tryz.f41) else none
        else
         bif Nat.blt f 43 then
          bif Nat.beq f 42 then (some Tryz.f42) else none
         else
          bif Nat.beq f 43 then (some Tryz.f43) else none
      else
       bif Nat.blt f 48 then
        bif Nat.blt f 46 then
         bif Nat.blt f 45 then
          bif Nat.beq f 44 then (some Tryz.f44) else none
         else
          bif Nat.beq f 45 then (some Tryz.f45) else none
        else
         bif Nat.blt f 47 then
          bif Nat.beq f 46 then (some Tryz.f46) else none
         else
          bif Nat.beq f 47 then (some Tryz.f47) else none
       else
        bif Nat.blt f 50 then
         bif Nat.blt f 49 then
          bif Nat.beq f 48 then (some Tryz.f48) else none
         else
          bif Nat.beq f 49 then (some Tryz.f49) else none
        else
         bif Nat.blt f 51 then
          bif Nat.beq f 50 then (some Tryz.f50) else none
         else
          bif Nat.blt f 52 then
           bif Nat.beq f 51 then (some Tryz.f51) else none
          else
           bif Nat.beq f 52 then (some Tryz.f52) else none
     else
      bif Nat.blt f 61 then
       bif Nat.blt f 57 then
        bif Nat.blt f 55 then
         bif Nat.blt f 54 then
          bif Nat.beq f 53 then (some Tryz.f53) else none
         else
          bif Nat.beq f 54 then (some Tryz.f54) else none
        else
         bif Nat.blt f 56 then
          bif Nat.beq f 55 then (some Tryz.f55) else none
         else
          bif Nat.beq f 56 then (some Tryz.f56) else none
       else
        bif Nat.blt f 59 then
         bif Nat.blt f 58 then
          bif Nat.beq f 57 then (some Tryz.f57) else none
         else
          bif Nat.beq f 58 then (some Tryz.f58) else none
        else
         bif Nat.blt f 60 then
          bif Nat.beq f 59 then (some Tryz.f59) else none
         else
          bif Nat.beq f 60 then (some Tryz.f60) else none
      else
       bif Nat.blt f 65 then
        bif Nat.blt f 63 then
         bif Nat.blt f 62 then
          bif Nat.beq f 61 then (some Tryz.f61) else none
         else
          bif Nat.beq f 62 then (some Tryz.f62) else none
        else
         bif Nat.blt f 64 then
          bif Nat.beq f 63 then (some Tryz.f63) else none
         else
          bif Nat.beq f 64 then (some Tryz.f64) else none
       else
        bif Nat.blt f 67 then
         bif Nat.blt f 66 then
          bif Nat.beq f 65 then (some Tryz.f65) else none
         else
          bif Nat.beq f 66 then (some Tryz.f66) else none
        else
         bif Nat.blt f 68 then
          bif Nat.beq f 67 then (some Tryz.f67) else none
         else
          bif Nat.blt f 69 then
           bif Nat.beq f 68 then (some Tryz.f68) else none
          else
           bif Nat.beq f 69 then (some Tryz.f69) else none
   else
    bif Nat.blt f 103 then
     bif Nat.blt f 86 then
      bif Nat.blt f 78 then
       bif Nat.blt f 74 then
        bif Nat.blt f 72 then
         bif Nat.blt f 71 then
          bif Nat.beq f 70 then (some Tryz.f70) else none
         else
          bif Nat.beq f 71 then (some Tryz.f71) else none
        else
         bif Nat.blt f 73 then
          bif Nat.beq f 72 then (some Tryz.f72) else none
         else
          bif Nat.beq f 73 then (some Tryz.f73) else none
       else
        bif Nat.blt f 76 then
         bif Nat.blt f 75 then
          bif Nat.beq f 74 then (some Tryz.f74) else none
         else
          bif Nat.beq f 75 then (some Tryz.f75) else none
        else
         bif Nat.blt f 77 then
          bif Nat.beq f 76 then (some Tryz.f76) else none
         else
          bif Nat.beq f 77 then (some Tryz.f77) else none
      else
       bif Nat.blt f 82 then
        bif Nat.blt f 80 then
         bif Nat.blt f 79 then
          bif Nat.beq f 78 then (some Tryz.f78) else none
         else
          bif Nat.beq f 79 then (some Tryz.f79) else none
        else
         bif Nat.blt f 81 then
          bif Nat.beq f 80 then (some Tryz.f80) else none
         else
          bif Nat.beq f 81 then (some Tryz.f81) else none
       else
        bif Nat.blt f 84 then
         bif Nat.blt f 83 then
          bif Nat.beq f 82 then (some Tryz.f82) else none
         else
          bif Nat.beq f 83 then (some Tryz.f83) else none
        else
         bif Nat.blt f 85 then
          bif Nat.beq f 84 then (some Tryz.f84) else none
         else
          bif Nat.beq f 85 then (some Tryz.f85) else none
     else
      bif Nat.blt f 94 then
       bif Nat.blt f 90 then
        bif Nat.blt f 88 then
         bif Nat.blt f 87 then
          bif Nat.beq f 86 then (some Tryz.f86) else none
         else
          bif Nat.beq f 87 then (some Tryz.f87) else none
        else
         bif Nat.blt f 89 then
          bif Nat.beq f 88 then (some Tryz.f88) else none
         else
          bif Nat.beq f 89 then (some Tryz.f89) else none
       else
        bif Nat.blt f 92 then
         bif Nat.blt f 91 then
          bif Nat.beq f 90 then (some Tryz.f90) else none
         else
          bif Nat.beq f 91 then (some Tryz.f91) else none
        else
         bif Nat.blt f 93 then
          bif Nat.beq f 92 then (some Tryz.f92) else none
         else
          bif Nat.beq f 93 then (some Tryz.f93) else none
      else
       bif Nat.blt f 98 then
        bif Nat.blt f 96 then
         bif Nat.blt f 95 then
          bif Nat.beq f 94 then (some Tryz.f94) else none
         else
          bif Nat.beq f 95 then (some Tryz.f95) else none
        else
         bif Nat.blt f 97 then
          bif Nat.beq f 96 then (some Tryz.f96) else none
         else
          bif Nat.beq f 97 then (some Tryz.f97) else none
       else
        bif Nat.blt f 100 then
         bif Nat.blt f 99 then
          bif Nat.beq f 98 then (some Tryz.f98) else none
         else
          bif Nat.beq f 99 then (some Tryz.f99) else none
        else
         bif Nat.blt f 101 then
          bif Nat.beq f 100 then (some Tryz.f100) else none
         else
          bif Nat.blt f 102 then
           bif Nat.beq f 101 then (some Tryz.f101) else none
          else
           bif Nat.beq f 102 then (some Tryz.f102) else none
    else
     bif Nat.blt f 120 then
      bif Nat.blt f 111 then
       bif Nat.blt f 107 then
        bif Nat.blt f 105 then
         bif Nat.blt f 104 then
          bif Nat.beq f 103 then (some Tryz.f103) else none
         else
          bif Nat.beq f 104 then (some Tryz.f104) else none
        else
         bif Nat.blt f 106 then
          bif Nat.beq f 105 then (some Tryz.f105) else none
         else
          bif Nat.beq f 106 then (some Tryz.f106) else none
       else
        bif Nat.blt f 109 then
         bif Nat.blt f 108 then
          bif Nat.beq f 107 then (some Tryz.f107) else none
         else
          bif Nat.beq f 108 then (some Tryz.f108) else none
        else
         bif Nat.blt f 110 then
          bif Nat.beq f 109 then (some Tryz.f109) else none
         else
          bif Nat.beq f 110 then (some Tryz.f110) else none
      else
       bif Nat.blt f 115 then
        bif Nat.blt f 113 then
         bif Nat.blt f 112 then
          bif Nat.beq f 111 then (some Tryz.f111) else none
         else
          bif Nat.beq f 112 then (some Tryz.f112) else none
        else
         bif Nat.blt f 114 then
          bif Nat.beq f 113 then (some Tryz.f113) else none
         else
          bif Nat.beq f 114 then (some Tryz.f114) else none
       else
        bif Nat.blt f 117 then
         bif Nat.blt f 116 then
          bif Nat.beq f 115 then (some Tryz.f115) else none
         else
          bif Nat.beq f 116 then (some Tryz.f116) else none
        else
         bif Nat.blt f 118 then
          bif Nat.beq f 117 then (some Tryz.f117) else none
         else
          bif Nat.blt f 119 then
           bif Nat.beq f 118 then (some Tryz.f118) else none
          else
           bif Nat.beq f 119 then (some Tryz.f119) else none
     else
      bif Nat.blt f 128 then
       bif Nat.blt f 124 then
        bif Nat.blt f 122 then
         bif Nat.blt f 121 then
          bif Nat.beq f 120 then (some Tryz.f120) else none
         else
          bif Nat.beq f 121 then (some Tryz.f121) else none
        else
         bif Nat.blt f 123 then
          bif Nat.beq f 122 then (some Tryz.f122) else none
         else
          bif Nat.beq f 123 then (some Tryz.f123) else none
       else
        bif Nat.blt f 126 then
         bif Nat.blt f 125 then
          bif Nat.beq f 124 then (some Tryz.f124) else none
         else
          bif Nat.beq f 125 then (some Tryz.f125) else none
        else
         bif Nat.blt f 127 then
          bif Nat.beq f 126 then (some Tryz.f126) else none
         else
          bif Nat.beq f 127 then (some Tryz.f127) else none
      else
       bif Nat.blt f 133 then
        bif Nat.blt f 131 then
         bif Nat.blt f 130 then
          bif Nat.beq f 128 then (some Tryz.f128) else none
         else
          bif Nat.beq f 130 then (some Tryz.f130) else none
        else
         bif Nat.blt f 132 then
          bif Nat.beq f 131 then (some Tryz.f131) else none
         else
          bif Nat.beq f 132 then (some Tryz.f132) else none
       else
        bif Nat.blt f 135 then
         bif Nat.blt f 134 then
          bif Nat.beq f 133 then (some Tryz.f133) else none
         else
          bif Nat.beq f 134 then (some Tryz.f134) else none
        else
         bif Nat.blt f 136 then
          bif Nat.beq f 135 then (some Tryz.f135) else none
         else
          bif Nat.blt f 137 then
           bif Nat.beq f 136 then (some Tryz.f136) else none
          else
           bif Nat.beq f 137 then (some Tryz.f137) else none
  else
   bif Nat.blt f 205 then
    bif Nat.blt f 171 then
     bif Nat.blt f 154 then
      bif Nat.blt f 146 then
       bif Nat.blt f 142 then
        bif Nat.blt f 140 then
         bif Nat.blt f 139 then
          bif Nat.beq f 138 then (some Tryz.f138) else none
         else
          bif Nat.beq f 139 then (some Tryz.f139) else none
        else
         bif Nat.blt f 141 then
          bif Nat.beq f 140 then (some Tryz.f140) else none
         else
          bif Nat.beq f 141 then (some Tryz.f141) else none
       else
        bif Nat.blt f 144 then
         bif Nat.blt f 143 then
          bif Nat.beq f 142 then (some Tryz.f142) else none
         else
          bif Nat.beq f 143 then (some Tryz.f143) else none
        else
         bif Nat.blt f 145 then
          bif Nat.beq f 144 then (some Tryz.f144) else none
         else
          bif Nat.beq f 145 then (some Tryz.f145) else none
      else
       bif Nat.blt f 150 then
        bif Nat.blt f 148 then
         bif Nat.blt f 147 then
          bif Nat.beq f 146 then (some Tryz.f146) else none
         else
          bif Nat.beq f 147 then (some Tryz.f147) else none
        else
         bif Nat.blt f 149 then
          bif Nat.beq f 148 then (some Tryz.f148) else none
         else
          bif Nat.beq f 149 then (some Tryz.f149) else none
       else
        bif Nat.blt f 152 then
         bif Nat.blt f 151 then
          bif Nat.beq f 150 then (some Tryz.f150) else none
         else
          bif Nat.beq f 151 then (some Tryz.f151) else none
        else
         bif Nat.blt f 153 then
          bif Nat.beq f 152 then (some Tryz.f152) else none
         else
          bif Nat.beq f 153 then (some Tryz.f153) else none
     else
      bif Nat.blt f 162 then
       bif Nat.blt f 158 then
        bif Nat.blt f 156 then
         bif Nat.blt f 155 then
          bif Nat.beq f 154 then (some Tryz.f154) else none
         else
          bif Nat.beq f 155 then (some Tryz.f155) else none
        else
         bif Nat.blt f 157 then
          bif Nat.beq f 156 then (some Tryz.f156) else none
         else
          bif Nat.beq f 157 then (some Tryz.f157) else none
       else
        bif Nat.blt f 160 then
         bif Nat.blt f 159 then
          bif Nat.beq f 158 then (some Tryz.f158) else none
         else
          bif Nat.beq f 159 then (some Tryz.f159) else none
        else
         bif Nat.blt f 161 then
          bif Nat.beq f 160 then (some Tryz.f160) else none
         else
          bif Nat.beq f 161 then (some Tryz.f161) else none
      else
       bif Nat.blt f 166 then
        bif Nat.blt f 164 then
         bif Nat.blt f 163 then
          bif Nat.beq f 162 then (some Tryz.f162) else none
         else
          bif Nat.beq f 163 then (some Tryz.f163) else none
        else
         bif Nat.blt f 165 then
          bif Nat.beq f 164 then (some Tryz.f164) else none
         else
          bif Nat.beq f 165 then (some Tryz.f165) else none
       else
        bif Nat.blt f 168 then
         bif Nat.blt f 167 then
          bif Nat.beq f 166 then (some Tryz.f166) else none
         else
          bif Nat.beq f 167 then (some Tryz.f167) else none
        else
         bif Nat.blt f 169 then
          bif Nat.beq f 168 then (some Tryz.f168) else none
         else
          bif Nat.blt f 170 then
           bif Nat.beq f 169 then (some Tryz.f169) else none
          else
           bif Nat.beq f 170 then (some Tryz.f170) else none
    else
     bif Nat.blt f 188 then
      bif Nat.blt f 179 then
       bif Nat.blt f 175 then
        bif Nat.blt f 173 then
         bif Nat.blt f 172 then
          bif Nat.beq f 171 then (some Tryz.f171) else none
         else
          bif Nat.beq f 172 then (some Tryz.f172) else none
        else
         bif Nat.blt f 174 then
          bif Nat.beq f 173 then (some Tryz.f173) else none
         else
          bif Nat.beq f 174 then (some Tryz.f174) else none
       else
        bif Nat.blt f 177 then
         bif Nat.blt f 176 then
          bif Nat.beq f 175 then (some Tryz.f175) else none
         else
          bif Nat.beq f 176 then (some Tryz.f176) else none
        else
         bif Nat.blt f 178 then
          bif Nat.beq f 177 then (some Tryz.f177) else none
         else
          bif Nat.beq f 178 then (some Tryz.f178) else none
      else
       bif Nat.blt f 183 then
        bif Nat.blt f 181 then
         bif Nat.blt f 180 then
          bif Nat.beq f 179 then (some Tryz.f179) else none
         else
          bif Nat.beq f 180 then (some Tryz.f180) else none
        else
         bif Nat.blt f 182 then
          bif Nat.beq f 181 then (some Tryz.f181) else none
         else
          bif Nat.beq f 182 then (some Tryz.f182) else none
       else
        bif Nat.blt f 185 then
         bif Nat.blt f 184 then
          bif Nat.beq f 183 then (some Tryz.f183) else none
         else
          bif Nat.beq f 184 then (some Tryz.f184) else none
        else
         bif Nat.blt f 186 then
          bif Nat.beq f 185 then (some Tryz.f185) else none
         else
          bif Nat.blt f 187 then
           bif Nat.beq f 186 then (some Tryz.f186) else none
          else
           bif Nat.beq f 187 then (some Tryz.f187) else none
     else
      bif Nat.blt f 196 then
       bif Nat.blt f 192 then
        bif Nat.blt f 190 then
         bif Nat.blt f 189 then
          bif Nat.beq f 188 then (some Tryz.f188) else none
         else
          bif Nat.beq f 189 then (some Tryz.f189) else none
        else
         bif Nat.blt f 191 then
          bif Nat.beq f 190 then (some Tryz.f190) else none
         else
          bif Nat.beq f 191 then (some Tryz.f191) else none
       else
        bif Nat.blt f 194 then
         bif Nat.blt f 193 then
          bif Nat.beq f 192 then (some Tryz.f192) else none
         else
          bif Nat.beq f 193 then (some Tryz.f193) else none
        else
         bif Nat.blt f 195 then
          bif Nat.beq f 194 then (some Tryz.f194) else none
         else
          bif Nat.beq f 195 then (some Tryz.f195) else none
      else
       bif Nat.blt f 200 then
        bif Nat.blt f 198 then
         bif Nat.blt f 197 then
          bif Nat.beq f 196 then (some Tryz.f196) else none
         else
          bif Nat.beq f 197 then (some Tryz.f197) else none
        else
         bif Nat.blt f 199 then
          bif Nat.beq f 198 then (some Tryz.f198) else none
         else
          bif Nat.beq f 199 then (some Tryz.f199) else none
       else
        bif Nat.blt f 202 then
         bif Nat.blt f 201 then
          bif Nat.beq f 200 then (some Tryz.f200) else none
         else
          bif Nat.beq f 201 then (some Tryz.f201) else none
        else
         bif Nat.blt f 203 then
          bif Nat.beq f 202 then (some Tryz.f202) else none
         else
          bif Nat.blt f 204 then
           bif Nat.beq f 203 then (some Tryz.f203) else none
          else
           bif Nat.beq f 204 then (some Tryz.f204) else none
   else
    bif Nat.blt f 238 then
     bif Nat.blt f 221 then
      bif Nat.blt f 213 then
       bif Nat.blt f 209 then
        bif Nat.blt f 207 then
         bif Nat.blt f 206 then
          bif Nat.beq f 205 then (some Tryz.f205) else none
         else
          bif Nat.beq f 206 then (some Tryz.f206) else none
        else
         bif Nat.blt f 208 then
          bif Nat.beq f 207 then (some Tryz.f207) else none
         else
          bif Nat.beq f 208 then (some Tryz.f208) else none
       else
        bif Nat.blt f 211 then
         bif Nat.blt f 210 then
          bif Nat.beq f 209 then (some Tryz.f209) else none
         else
          bif Nat.beq f 210 then (some Tryz.f210) else none
        else
         bif Nat.blt f 212 then
          bif Nat.beq f 211 then (some Tryz.f211) else none
         else
          bif Nat.beq f 212 then (some Tryz.f212) else none
      else
       bif Nat.blt f 217 then
        bif Nat.blt f 215 then
         bif Nat.blt f 214 then
          bif Nat.beq f 213 then (some Tryz.f213) else none
         else
          bif Nat.beq f 214 then (some Tryz.f214) else none
        else
         bif Nat.blt f 216 then
          bif Nat.beq f 215 then (some Tryz.f215) else none
         else
          bif Nat.beq f 216 then (some Tryz.f216) else none
       else
        bif Nat.blt f 219 then
         bif Nat.blt f 218 then
          bif Nat.beq f 217 then (some Tryz.f217) else none
         else
          bif Nat.beq f 218 then (some Tryz.f218) else none
        else
         bif Nat.blt f 220 then
          bif Nat.beq f 219 then (some Tryz.f219) else none
         else
          bif Nat.beq f 220 then (some Tryz.f220) else none
     else
      bif Nat.blt f 229 then
       bif Nat.blt f 225 then
        bif Nat.blt f 223 then
         bif Nat.blt f 222 then
          bif Nat.beq f 221 then (some Tryz.f221) else none
         else
          bif Nat.beq f 222 then (some Tryz.f222) else none
        else
         bif Nat.blt f 224 then
          bif Nat.beq f 223 then (some Tryz.f223) else none
         else
          bif Nat.beq f 224 then (some Tryz.f224) else none
       else
        bif Nat.blt f 227 then
         bif Nat.blt f 226 then
          bif Nat.beq f 225 then (some Tryz.f225) else none
         else
          bif Nat.beq f 226 then (some Tryz.f226) else none
        else
         bif Nat.blt f 228 then
          bif Nat.beq f 227 then (some Tryz.f227) else none
         else
          bif Nat.beq f 228 then (some Tryz.f228) else none
      else
       bif Nat.blt f 233 then
        bif Nat.blt f 231 then
         bif Nat.blt f 230 then
          bif Nat.beq f 229 then (some Tryz.f229) else none
         else
          bif Nat.beq f 230 then (some Tryz.f230) else none
        else
         bif Nat.blt f 232 then
          bif Nat.beq f 231 then (some Tryz.f231) else none
         else
          bif Nat.beq f 232 then (some Tryz.f232) else none
       else
        bif Nat.blt f 235 then
         bif Nat.blt f 234 then
          bif Nat.beq f 233 then (some Tryz.f233) else none
         else
          bif Nat.beq f 234 then (some Tryz.f234) else none
        else
         bif Nat.blt f 236 then
          bif Nat.beq f 235 then (some Tryz.f235) else none
         else
          bif Nat.blt f 237 then
           bif Nat.beq f 236 then (some Tryz.f236) else none
          else
           bif Nat.beq f 237 then (some Tryz.f237) else none
    else
     bif Nat.blt f 256 then
      bif Nat.blt f 246 then
       bif Nat.blt f 242 then
        bif Nat.blt f 240 then
         bif Nat.blt f 239 then
          bif Nat.beq f 238 then (some Tryz.f238) else none
         else
          bif Nat.beq f 239 then (some Tryz.f239) else none
        else
         bif Nat.blt f 241 then
          bif Nat.beq f 240 then (some Tryz.f240) else none
         else
          bif Nat.beq f 241 then (some Tryz.f241) else none
       else
        bif Nat.blt f 244 then
         bif Nat.blt f 243 then
          bif Nat.beq f 242 then (some Tryz.f242) else none
         else
          bif Nat.beq f 243 then (some Tryz.f243) else none
        else
         bif Nat.blt f 245 then
          bif Nat.beq f 244 then (some Tryz.f244) else none
         else
          bif Nat.beq f 245 then (some Tryz.f245) else none
      else
       bif Nat.blt f 251 then
        bif Nat.blt f 248 then
         bif Nat.blt f 247 then
          bif Nat.beq f 246 then (some Tryz.f246) else none
         else
          bif Nat.beq f 247 then (some Tryz.f247) else none
        else
         bif Nat.blt f 249 then
          bif Nat.beq f 248 then (some Tryz.f248) else none
         else
          bif Nat.beq f 249 then (some Tryz.f249) else none
       else
        bif Nat.blt f 253 then
         bif Nat.blt f 252 then
          bif Nat.beq f 251 then (some Tryz.f251) else none
         else
          bif Nat.beq f 252 then (some Tryz.f252) else none
        else
         bif Nat.blt f 254 then
          bif Nat.beq f 253 then (some Tryz.f253) else none
         else
          bif Nat.blt f 255 then
           bif Nat.beq f 254 then (some Tryz.f254) else none
          else
           bif Nat.beq f 255 then (some Tryz.f255) else none
     else
      bif Nat.blt f 264 then
       bif Nat.blt f 260 then
        bif Nat.blt f 258 then
         bif Nat.blt f 257 then
          bif Nat.beq f 256 then (some Tryz.f256) else none
         else
          bif Nat.beq f 257 then (some Tryz.f257) else none
        else
         bif Nat.blt f 259 then
          bif Nat.beq f 258 then (some Tryz.f258) else none
         else
          bif Nat.beq f 259 then (some Tryz.f259) else none
       else
        bif Nat.blt f 262 then
         bif Nat.blt f 261 then
          bif Nat.beq f 260 then (some Tryz.f260) else none
         else
          bif Nat.beq f 261 then (some Tryz.f261) else none
        else
         bif Nat.blt f 263 then
          bif Nat.beq f 262 then (some Tryz.f262) else none
         else
          bif Nat.beq f 263 then (some Tryz.f263) else none
      else
       bif Nat.blt f 268 then
        bif Nat.blt f 266 then
         bif Nat.blt f 265 then
          bif Nat.beq f 264 then (some Tryz.f264) else none
         else
          bif Nat.beq f 265 then (some Tryz.f265) else none
        else
         bif Nat.blt f 267 then
          bif Nat.beq f 266 then (some Tryz.f266) else none
         else
          bif Nat.beq f 267 then (some Tryz.f267) else none
       else
        bif Nat.blt f 270 then
         bif Nat.blt f 269 then
          bif Nat.beq f 268 then (some Tryz.f268) else none
         else
          bif Nat.beq f 269 then (some Tryz.f269) else none
        else
         bif Nat.blt f 271 then
          bif Nat.beq f 270 then (some Tryz.f270) else none
         else
          bif Nat.blt f 272 then
           bif Nat.beq f 271 then (some Tryz.f271) else none
          else
           bif Nat.beq f 272 then (some Tryz.f272) else none
noncomputable def keep (f b : Nat) : List (Nat × List (Nat × Nat × Bool)) :=
  bif Nat.blt f 128 then
   bif Nat.blt f 51 then
    bif Nat.blt f 30 then
     bif Nat.blt f 19 then
      bif Nat.blt f 13 then
       bif Nat.blt f 10 then
        bif Nat.beq f 7 then (bif Nat.beq b 0 then [(2, []), (5, []), (7, []), (8, [])] else []) else []
       else
        bif Nat.blt f 12 then
         bif Nat.beq f 10 then (bif Nat.beq b 0 then [(1, []), (2, []), (3, []), (7, []), (9, []), (30, []), (31, [])] else bif Nat.beq b 2 then [(1, []), (3, []), (7, []), (9, []), (38, []), (39, []), (40, [])] else bif Nat.beq b 4 then [(1, []), (3, []), (7, []), (9, []), (12, []), (38, []), (39, []), (40, []), (67, []), (68, []), (69, [])] else bif Nat.beq b 6 then [(1, []), (3, []), (7, []), (9, []), (12, []), (38, []), (39, []), (40, []), (115, []), (116, [])] else bif Nat.beq b 8 then [(1, []), (3, []), (7, []), (9, []), (38, []), (39, []), (40, []), (135, []), (136, []), (137, [])] else []) else []
        else
         bif Nat.beq f 12 then (bif Nat.beq b 0 then [(2, []), (3, []), (7, []), (9, []), (10, []), (11, [])] else bif Nat.beq b 2 then [(2, []), (3, []), (7, []), (9, []), (10, []), (12, [])] else bif Nat.beq b 4 then [(2, []), (3, []), (7, []), (9, []), (10, []), (12, []), (13, [])] else []) else []
      else
       bif Nat.blt f 16 then
        bif Nat.blt f 15 then
         bif Nat.beq f 13 then (bif Nat.beq b 0 then [(1, []), (3, []), (4, [])] else bif Nat.beq b 2 then [(1, []), (3, []), (4, []), (5, [])] else bif Nat.beq b 4 then [(1, []), (3, []), (4, []), (5, []), (6, []), (7, [])] else bif Nat.beq b 6 then [(1, []), (8, [])] else []) else []
        else
         bif Nat.beq f 15 then (bif Nat.beq b 0 then [(3, []), (5, []), (10, [(0, 1, false)]), (27, []), (28, []), (29, [])] else []) else []
       else
        bif Nat.blt f 17 then
         bif Nat.beq f 16 then (bif Nat.beq b 0 then [(1, []), (3, []), (5, []), (9, [(0, 1, false)]), (10, [])] else []) else []
        else
         bif Nat.beq f 17 then (bif Nat.beq b 0 then [(0, []), (1, []), (12, []), (13, [])] else []) else []
     else
      bif Nat.blt f 25 then
       bif Nat.blt f 21 then
        bif Nat.beq f 19 then (bif Nat.beq b 0 then [(8, []), (9, []), (10, [])] else []) else []
       else
        bif Nat.blt f 22 then
         bif Nat.beq f 21 then (bif Nat.beq b 0 then [(9, []), (10, [(0, 1, false)]), (11, [])] else []) else []
        else
         bif Nat.beq f 22 then (bif Nat.beq b 0 then [(0, []), (1, []), (5, [])] else []) else []
      else
       bif Nat.blt f 27 then
        bif Nat.blt f 26 then
         bif Nat.beq f 25 then (bif Nat.beq b 0 then [(0, []), (3, [])] else []) else []
        else
         bif Nat.beq f 26 then (bif Nat.beq b 0 then [(1, []), (2, []), (8, [(0, 1, false)]), (9, [])] else []) else []
       else
        bif Nat.blt f 29 then
         bif Nat.beq f 27 then (bif Nat.beq b 0 then [(0, []), (1, []), (2, []), (7, [(0, 1, false)]), (8, [])] else bif Nat.beq b 2 then [(0, []), (1, []), (2, []), (7, []), (8, []), (9, []), (10, [])] else []) else []
        else
         bif Nat.beq f 29 then (bif Nat.beq b 0 then [(0, []), (1, []), (7, []), (8, [])] else []) else []
    else
     bif Nat.blt f 40 then
      bif Nat.blt f 36 then
       bif Nat.blt f 33 then
        bif Nat.beq f 30 then (bif Nat.beq b 0 then [(2, []), (8, [(0, 1, false)]), (26, []), (27, []), (28, [])] else []) else []
       else
        bif Nat.blt f 35 then
         bif Nat.beq f 33 then (bif Nat.beq b 0 then [(1, []), (5, []), (8, []), (9, []), (10, [])] else []) else []
        else
         bif Nat.beq f 35 then (bif Nat.beq b 0 then [(0, []), (1, []), (3, []), (6, []), (9, [])] else bif Nat.beq b 2 then [(6, []), (10, []), (12, [])] else []) else []
      else
       bif Nat.blt f 38 then
        bif Nat.blt f 37 then
         bif Nat.beq f 36 then (bif Nat.beq b 0 then [(3, []), (4, []), (7, [(0, 4, false)]), (20, []), (21, []), (22, [])] else bif Nat.beq b 2 then [(3, []), (4, []), (7, [(1, 4, false)]), (34, []), (35, []), (36, [])] else []) else []
        else
         bif Nat.beq f 37 then (bif Nat.beq b 0 then [(1, []), (3, []), (5, []), (10, []), (37, []), (38, []), (39, [])] else bif Nat.beq b 2 then [(1, []), (3, []), (10, []), (51, []), (52, []), (53, [])] else []) else []
       else
        bif Nat.blt f 39 then
         bif Nat.beq f 38 then (bif Nat.beq b 0 then [(2, []), (3, []), (8, [])] else bif Nat.beq b 2 then [(2, []), (3, []), (9, [])] else []) else []
        else
         bif Nat.beq f 39 then (bif Nat.beq b 0 then [(1, []), (5, []), (9, []), (10, []), (11, [])] else bif Nat.beq b 2 then [(1, []), (5, []), (9, []), (10, []), (12, [])] else []) else []
     else
      bif Nat.blt f 45 then
       bif Nat.blt f 42 then
        bif Nat.blt f 41 then
         bif Nat.beq f 40 then (bif Nat.beq b 0 then [(2, []), (7, []), (9, [(0, 1, false)]), (31, []), (32, [])] else bif Nat.beq b 2 then [(2, []), (7, []), (9, [(0, 1, false)]), (11, [(0, 2, false)])] else bif Nat.beq b 4 then [(2, []), (7, []), (9, []), (11, []), (12, []), (13, []), (54, []), (55, []), (56, [])] else bif Nat.beq b 6 then [(2, []), (7, []), (9, []), (11, []), (13, []), (74, []), (75, [])] else bif Nat.beq b 8 then [(2, []), (7, []), (11, []), (13, []), (17, [(0, 1, false)]), (18, [(0, 1, false)]), (103, []), (104, []), (105, [])] else []) else []
        else
         bif Nat.beq f 41 then (bif Nat.beq b 0 then [(0, []), (1, []), (6, []), (7, []), (8, [])] else bif Nat.beq b 2 then [(0, []), (1, []), (6, []), (7, []), (9, [(0, 2, false)])] else bif Nat.beq b 4 then [(0, []), (1, []), (6, []), (7, []), (9, []), (10, []), (11, [])] else []) else []
       else
        bif Nat.blt f 44 then
         bif Nat.beq f 42 then (bif Nat.beq b 0 then [(0, []), (1, []), (5, [])] else []) else []
        else
         bif Nat.beq f 44 then (bif Nat.beq b 0 then [(1, []), (4, [])] else bif Nat.beq b 2 then [(1, []), (6, [])] else []) else []
      else
       bif Nat.blt f 49 then
        bif Nat.blt f 46 then
         bif Nat.beq f 45 then (bif Nat.beq b 0 then [(2, []), (3, []), (9, []), (10, []), (11, []), (13, [])] else bif Nat.beq b 2 then [(2, []), (3, []), (9, []), (11, []), (15, [])] else bif Nat.beq b 4 then [(2, []), (3, []), (9, []), (10, []), (11, []), (16, [])] else bif Nat.beq b 6 then [(2, []), (3, []), (9, []), (11, []), (17, [])] else []) else []
        else
         bif Nat.beq f 46 then (bif Nat.beq b 0 then [(0, []), (1, []), (5, [(0, 1, false)]), (6, [])] else bif Nat.beq b 2 then [(0, []), (1, []), (5, []), (6, []), (7, []), (8, [])] else []) else []
       else
        bif Nat.blt f 50 then
         bif Nat.beq f 49 then (bif Nat.beq b 0 then [(0, []), (1, []), (7, []), (8, [])] else []) else []
        else
         bif Nat.beq f 50 then (bif Nat.beq b 0 then [(0, []), (1, []), (7, []), (8, [])] else []) else []
   else
    bif Nat.blt f 79 then
     bif Nat.blt f 63 then
      bif Nat.blt f 55 then
       bif Nat.blt f 52 then
        bif Nat.beq f 51 then (bif Nat.beq b 0 then [(0, []), (1, []), (2, []), (8, [(0, 1, false)]), (9, [])] else []) else []
       else
        bif Nat.blt f 53 then
         bif Nat.beq f 52 then (bif Nat.beq b 0 then [(0, []), (1, []), (5, [])] else []) else []
        else
         bif Nat.beq f 53 then (bif Nat.beq b 0 then [(2, []), (3, []), (26, []), (27, []), (28, [])] else bif Nat.beq b 2 then [(2, []), (3, []), (39, []), (40, []), (41, [])] else []) else []
      else
       bif Nat.blt f 59 then
        bif Nat.blt f 57 then
         bif Nat.beq f 55 then (bif Nat.beq b 0 then [(2, []), (3, []), (26, []), (27, []), (28, [])] else bif Nat.beq b 2 then [(2, []), (3, []), (39, []), (40, []), (41, [])] else []) else []
        else
         bif Nat.beq f 57 then (bif Nat.beq b 0 then [(1, []), (3, [])] else bif Nat.beq b 2 then [(1, []), (4, [])] else []) else []
       else
        bif Nat.blt f 62 then
         bif Nat.beq f 59 then (bif Nat.beq b 0 then [(0, []), (1, []), (5, [])] else []) else []
        else
         bif Nat.beq f 62 then (bif Nat.beq b 0 then [(0, []), (1, []), (16, [])] else bif Nat.beq b 2 then [(0, []), (5, []), (68, []), (69, []), (70, [])] else []) else []
     else
      bif Nat.blt f 74 then
       bif Nat.blt f 69 then
        bif Nat.blt f 68 then
         bif Nat.beq f 63 then (bif Nat.beq b 0 then [(0, []), (1, []), (6, [(0, 1, false), (1, 1, false)]), (7, [(0, 1, false), (1, 1, false)]), (8, []), (9, [])] else []) else []
        else
         bif Nat.beq f 68 then (bif Nat.beq b 0 then [(1, []), (2, []), (5, []), (6, [])] else bif Nat.beq b 2 then [(7, []), (8, [])] else bif Nat.beq b 4 then [(7, []), (8, []), (9, [])] else []) else []
       else
        bif Nat.blt f 72 then
         bif Nat.beq f 69 then (bif Nat.beq b 0 then [(1, []), (2, []), (5, []), (6, [])] else []) else []
        else
         bif Nat.beq f 72 then (bif Nat.beq b 0 then [(1, []), (2, []), (5, [])] else []) else []
      else
       bif Nat.blt f 76 then
        bif Nat.blt f 75 then
         bif Nat.beq f 74 then (bif Nat.beq b 0 then [(2, []), (9, [(0, 1, false)]), (27, []), (28, []), (29, [])] else bif Nat.beq b 2 then [(9, []), (14, [(0, 1, false)]), (53, []), (54, [])] else []) else []
        else
         bif Nat.beq f 75 then (bif Nat.beq b 0 then [(6, []), (7, []), (14, []), (15, [])] else []) else []
       else
        bif Nat.blt f 78 then
         bif Nat.beq f 76 then (bif Nat.beq b 0 then [(0, []), (2, []), (3, []), (8, []), (9, []), (10, [])] else []) else []
        else
         bif Nat.beq f 78 then (bif Nat.beq b 1 then [(1, []), (27, []), (28, []), (29, [])] else bif Nat.beq b 3 then [(1, []), (44, []), (45, []), (46, [])] else []) else []
    else
     bif Nat.blt f 104 then
      bif Nat.blt f 94 then
       bif Nat.blt f 80 then
        bif Nat.beq f 79 then (bif Nat.beq b 0 then [(2, []), (3, []), (7, []), (9, []), (10, []), (11, []), (51, []), (52, []), (53, [])] else bif Nat.beq b 2 then [(2, []), (3, []), (9, []), (10, []), (11, []), (80, []), (81, []), (82, [])] else bif Nat.beq b 4 then [(2, []), (3, []), (10, []), (11, []), (104, []), (105, []), (106, [])] else bif Nat.beq b 6 then [(2, []), (3, []), (11, []), (123, []), (124, []), (125, [])] else []) else []
       else
        bif Nat.blt f 84 then
         bif Nat.beq f 80 then (bif Nat.beq b 0 then [(0, []), (1, []), (5, []), (6, [])] else []) else []
        else
         bif Nat.beq f 84 then (bif Nat.beq b 0 then [(0, []), (2, []), (4, []), (8, []), (9, []), (10, [])] else []) else []
      else
       bif Nat.blt f 97 then
        bif Nat.blt f 96 then
         bif Nat.beq f 94 then (bif Nat.beq b 0 then [(0, []), (1, []), (7, []), (8, [])] else []) else []
        else
         bif Nat.beq f 96 then (bif Nat.beq b 0 then [(0, []), (3, []), (4, [])] else []) else []
       else
        bif Nat.blt f 99 then
         bif Nat.beq f 97 then (bif Nat.beq b 0 then [(0, []), (1, []), (5, [])] else []) else []
        else
         bif Nat.beq f 99 then (bif Nat.beq b 0 then [(1, []), (2, []), (5, [])] else []) else []
     else
      bif Nat.blt f 113 then
       bif Nat.blt f 107 then
        bif Nat.blt f 105 then
         bif Nat.beq f 104 then (bif Nat.beq b 0 then [(2, []), (3, []), (8, [])] else bif Nat.beq b 2 then [(3, []), (13, [])] else []) else []
        else
         bif Nat.beq f 105 then (bif Nat.beq b 0 then [(2, []), (3, []), (6, [])] else []) else []
       else
        bif Nat.blt f 109 then
         bif Nat.beq f 107 then (bif Nat.beq b 0 then [(0, []), (3, [])] else bif Nat.beq b 2 then [(0, []), (3, []), (4, [])] else []) else []
        else
         bif Nat.beq f 109 then (bif Nat.beq b 0 then [(2, []), (3, []), (4, []), (5, []), (9, [])] else bif Nat.beq b 2 then [(3, []), (4, []), (5, []), (10, [])] else []) else []
      else
       bif Nat.blt f 116 then
        bif Nat.blt f 115 then
         bif Nat.beq f 113 then (bif Nat.beq b 0 then [(0, []), (1, []), (4, []), (5, []), (9, [])] else []) else []
        else
         bif Nat.beq f 115 then (bif Nat.beq b 0 then [(0, []), (1, []), (5, []), (8, []), (9, [])] else []) else []
       else
        bif Nat.blt f 120 then
         bif Nat.beq f 116 then (bif Nat.beq b 1 then [(6, []), (7, [])] else []) else []
        else
         bif Nat.beq f 120 then (bif Nat.beq b 0 then [(1, []), (2, []), (7, [(0, 1, false)]), (18, []), (19, [])] else []) else []
  else
   bif Nat.blt f 190 then
    bif Nat.blt f 166 then
     bif Nat.blt f 141 then
      bif Nat.blt f 136 then
       bif Nat.blt f 132 then
        bif Nat.beq f 128 then (bif Nat.beq b 0 then [(3, []), (6, []), (7, []), (8, [])] else []) else []
       else
        bif Nat.blt f 133 then
         bif Nat.beq f 132 then (bif Nat.beq b 0 then [(0, []), (3, [])] else bif Nat.beq b 2 then [(0, []), (3, []), (4, [])] else []) else []
        else
         bif Nat.beq f 133 then (bif Nat.beq b 0 then [(2, []), (3, []), (5, [])] else bif Nat.beq b 2 then [(2, []), (3, []), (6, [])] else []) else []
      else
       bif Nat.blt f 138 then
        bif Nat.blt f 137 then
         bif Nat.beq f 136 then (bif Nat.beq b 0 then [(0, []), (1, []), (5, [])] else []) else []
        else
         bif Nat.beq f 137 then (bif Nat.beq b 0 then [(1, []), (2, []), (5, [])] else []) else []
       else
        bif Nat.blt f 140 then
         bif Nat.beq f 138 then (bif Nat.beq b 0 then [(2, []), (4, []), (7, []), (10, [])] else []) else []
        else
         bif Nat.beq f 140 then (bif Nat.beq b 0 then [(2, []), (3, []), (4, []), (5, []), (8, [(0, 1, false)]), (9, [])] else bif Nat.beq b 2 then [(2, []), (3, []), (4, []), (5, []), (8, [(1, 3, false)]), (10, [])] else []) else []
     else
      bif Nat.blt f 157 then
       bif Nat.blt f 142 then
        bif Nat.beq f 141 then (bif Nat.beq b 0 then [(3, []), (4, []), (5, []), (9, [])] else bif Nat.beq b 2 then [(3, []), (4, []), (5, []), (10, [])] else []) else []
       else
        bif Nat.blt f 144 then
         bif Nat.beq f 142 then (bif Nat.beq b 0 then [(0, []), (1, []), (5, [(0, 1, false)]), (6, [])] else []) else []
        else
         bif Nat.beq f 144 then (bif Nat.beq b 0 then [(3, []), (5, []), (7, []), (10, [])] else []) else []
      else
       bif Nat.blt f 163 then
        bif Nat.blt f 160 then
         bif Nat.beq f 157 then (bif Nat.beq b 0 then [(0, []), (1, []), (7, []), (8, [])] else []) else []
        else
         bif Nat.beq f 160 then (bif Nat.beq b 0 then [(1, []), (2, []), (5, [(0, 1, false)])] else []) else []
       else
        bif Nat.blt f 164 then
         bif Nat.beq f 163 then (bif Nat.beq b 0 then [(0, []), (1, []), (4, []), (12, []), (13, [])] else []) else []
        else
         bif Nat.beq f 164 then (bif Nat.beq b 0 then [(7, [(0, 4, false)]), (8, []), (9, [])] else []) else []
    else
     bif Nat.blt f 177 then
      bif Nat.blt f 169 then
       bif Nat.blt f 167 then
        bif Nat.beq f 166 then (bif Nat.beq b 0 then [(2, []), (3, []), (7, [])] else []) else []
       else
        bif Nat.blt f 168 then
         bif Nat.beq f 167 then (bif Nat.beq b 0 then [(0, []), (1, []), (5, [])] else []) else []
        else
         bif Nat.beq f 168 then (bif Nat.beq b 0 then [(0, []), (1, []), (5, [])] else []) else []
      else
       bif Nat.blt f 171 then
        bif Nat.blt f 170 then
         bif Nat.beq f 169 then (bif Nat.beq b 0 then [(1, []), (3, [])] else []) else []
        else
         bif Nat.beq f 170 then (bif Nat.beq b 0 then [(1, []), (4, []), (5, []), (6, [])] else []) else []
       else
        bif Nat.blt f 174 then
         bif Nat.beq f 171 then (bif Nat.beq b 0 then [(5, []), (7, []), (8, [])] else []) else []
        else
         bif Nat.beq f 174 then (bif Nat.beq b 0 then [(0, []), (1, []), (7, []), (8, [])] else []) else []
     else
      bif Nat.blt f 184 then
       bif Nat.blt f 179 then
        bif Nat.blt f 178 then
         bif Nat.beq f 177 then (bif Nat.beq b 0 then [(0, []), (8, []), (9, []), (10, [])] else []) else []
        else
         bif Nat.beq f 178 then (bif Nat.beq b 0 then [(0, []), (1, []), (7, []), (8, [])] else []) else []
       else
        bif Nat.blt f 180 then
         bif Nat.beq f 179 then (bif Nat.beq b 0 then [(2, []), (3, []), (8, []), (58, []), (59, []), (60, [])] else []) else []
        else
         bif Nat.beq f 180 then (bif Nat.beq b 1 then [(2, []), (3, []), (46, []), (47, [])] else []) else []
      else
       bif Nat.blt f 186 then
        bif Nat.blt f 185 then
         bif Nat.beq f 184 then (bif Nat.beq b 0 then [(0, []), (5, [(0, 1, false)]), (7, []), (8, [])] else []) else []
        else
         bif Nat.beq f 185 then (bif Nat.beq b 0 then [(0, []), (1, []), (7, []), (8, [])] else []) else []
       else
        bif Nat.blt f 187 then
         bif Nat.beq f 186 then (bif Nat.beq b 0 then [(0, []), (2, []), (3, [])] else []) else []
        else
         bif Nat.beq f 187 then (bif Nat.beq b 0 then [(0, []), (2, []), (3, [])] else []) else []
   else
    bif Nat.blt f 235 then
     bif Nat.blt f 208 then
      bif Nat.blt f 195 then
       bif Nat.blt f 191 then
        bif Nat.beq f 190 then (bif Nat.beq b 0 then [(0, []), (1, []), (2, []), (7, [])] else []) else []
       else
        bif Nat.blt f 194 then
         bif Nat.beq f 191 then (bif Nat.beq b 0 then [(0, []), (1, []), (5, [])] else []) else []
        else
         bif Nat.beq f 194 then (bif Nat.beq b 0 then [(0, []), (1, []), (5, [])] else []) else []
      else
       bif Nat.blt f 199 then
        bif Nat.blt f 197 then
         bif Nat.beq f 195 then (bif Nat.beq b 0 then [(0, []), (1, []), (5, [])] else []) else []
        else
         bif Nat.beq f 197 then (bif Nat.beq b 0 then [(1, []), (2, []), (5, [])] else []) else []
       else
        bif Nat.blt f 205 then
         bif Nat.beq f 199 then (bif Nat.beq b 0 then [(0, []), (1, []), (7, []), (8, [])] else []) else []
        else
         bif Nat.beq f 205 then (bif Nat.beq b 0 then [(0, []), (17, []), (18, []), (19, [])] else []) else []
     else
      bif Nat.blt f 223 then
       bif Nat.blt f 214 then
        bif Nat.blt f 209 then
         bif Nat.beq f 208 then (bif Nat.beq b 0 then [(2, []), (3, []), (4, []), (5, []), (8, [(0, 1, false)]), (23, []), (24, []), (25, [])] else bif Nat.beq b 2 then [(2, []), (3, []), (4, []), (5, []), (8, [(1, 3, false)]), (41, []), (42, []), (43, [])] else []) else []
        else
         bif Nat.beq f 209 then (bif Nat.beq b 0 then [(3, []), (4, []), (5, []), (42, []), (43, []), (44, [])] else bif Nat.beq b 2 then [(3, []), (4, []), (5, []), (71, []), (72, []), (73, [])] else []) else []
       else
        bif Nat.blt f 217 then
         bif Nat.beq f 214 then (bif Nat.beq b 0 then [(3, []), (4, []), (51, []), (52, []), (53, [])] else []) else []
        else
         bif Nat.beq f 217 then (bif Nat.beq b 0 then [(0, []), (1, []), (5, [])] else []) else []
      else
       bif Nat.blt f 231 then
        bif Nat.blt f 224 then
         bif Nat.beq f 223 then (bif Nat.beq b 0 then [(0, []), (1, []), (7, []), (8, [])] else []) else []
        else
         bif Nat.beq f 224 then (bif Nat.beq b 0 then [(7, []), (20, []), (21, [])] else []) else []
       else
        bif Nat.blt f 234 then
         bif Nat.beq f 231 then (bif Nat.beq b 0 then [(0, []), (1, []), (6, []), (7, []), (8, [])] else []) else []
        else
         bif Nat.beq f 234 then (bif Nat.beq b 0 then [(1, []), (4, []), (5, []), (11, []), (12, []), (13, [])] else []) else []
    else
     bif Nat.blt f 257 then
      bif Nat.blt f 245 then
       bif Nat.blt f 240 then
        bif Nat.beq f 235 then (bif Nat.beq b 0 then [(4, []), (7, []), (8, [])] else []) else []
       else
        bif Nat.blt f 241 then
         bif Nat.beq f 240 then (bif Nat.beq b 0 then [(0, []), (1, []), (7, []), (8, [])] else []) else []
        else
         bif Nat.beq f 241 then (bif Nat.beq b 0 then [(2, []), (3, []), (28, []), (29, []), (30, [])] else []) else []
      else
       bif Nat.blt f 254 then
        bif Nat.blt f 251 then
         bif Nat.beq f 245 then (bif Nat.beq b 0 then [(0, []), (3, [])] else bif Nat.beq b 2 then [(0, []), (3, []), (4, []), (5, [])] else []) else []
        else
         bif Nat.beq f 251 then (bif Nat.beq b 0 then [(0, []), (1, []), (7, []), (8, []), (9, [])] else []) else []
       else
        bif Nat.blt f 256 then
         bif Nat.beq f 254 then (bif Nat.beq b 0 then [(0, []), (1, []), (2, []), (3, []), (8, []), (9, [])] else []) else []
        else
         bif Nat.beq f 256 then (bif Nat.beq b 0 then [(0, []), (1, []), (7, []), (8, [])] else []) else []
     else
      bif Nat.blt f 262 then
       bif Nat.blt f 259 then
        bif Nat.blt f 258 then
         bif Nat.beq f 257 then (bif Nat.beq b 0 then [(0, []), (1, []), (2, []), (6, [])] else bif Nat.beq b 2 then [(0, []), (1, []), (2, []), (6, []), (7, [])] else []) else []
        else
         bif Nat.beq f 258 then (bif Nat.beq b 0 then [(0, []), (6, []), (7, []), (8, []), (9, [])] else bif Nat.beq b 2 then [(0, []), (6, []), (7, []), (10, [])] else []) else []
       else
        bif Nat.blt f 261 then
         bif Nat.beq f 259 then (bif Nat.beq b 0 then [(0, []), (1, []), (6, []), (7, []), (8, []), (9, [])] else []) else []
        else
         bif Nat.beq f 261 then (bif Nat.beq b 0 then [(0, []), (6, []), (7, [])] else []) else []
      else
       bif Nat.blt f 264 then
        bif Nat.blt f 263 then
         bif Nat.beq f 262 then (bif Nat.beq b 0 then [(0, []), (1, []), (2, []), (7, []), (8, [])] else bif Nat.beq b 2 then [(0, []), (1, []), (2, []), (7, []), (8, [])] else bif Nat.beq b 4 then [(0, []), (1, []), (2, []), (7, []), (8, []), (9, [])] else bif Nat.beq b 6 then [(0, []), (1, []), (2, []), (7, []), (8, []), (10, [])] else []) else []
        else
         bif Nat.beq f 263 then (bif Nat.beq b 0 then [(0, []), (1, []), (9, []), (10, [])] else bif Nat.beq b 2 then [(0, []), (1, []), (9, []), (10, [])] else bif Nat.beq b 4 then [(0, []), (1, []), (9, []), (10, [])] else []) else []
       else
        bif Nat.blt f 267 then
         bif Nat.beq f 264 then (bif Nat.beq b 0 then [(0, []), (1, []), (10, []), (11, [])] else bif Nat.beq b 2 then [(0, []), (1, []), (10, []), (11, [])] else bif Nat.beq b 4 then [(0, []), (1, []), (10, []), (11, [])] else bif Nat.beq b 6 then [(0, []), (1, []), (10, []), (11, [])] else bif Nat.beq b 8 then [(0, []), (1, []), (10, []), (11, [])] else []) else []
        else
         bif Nat.beq f 267 then (bif Nat.beq b 0 then [(0, []), (2, []), (3, []), (8, [])] else []) else []
noncomputable def resK (f : Nat) : List (Option Nat) :=
  bif Nat.blt f 134 then
   bif Nat.blt f 68 then
    bif Nat.blt f 35 then
     bif Nat.blt f 19 then
      bif Nat.blt f 11 then
       bif Nat.blt f 7 then
        bif Nat.blt f 5 then
         bif Nat.blt f 4 then
          bif Nat.beq f 3 then [none] else []
         else
          bif Nat.beq f 4 then [none] else []
        else
         bif Nat.blt f 6 then
          bif Nat.beq f 5 then [none] else []
         else
          bif Nat.beq f 6 then [none] else []
       else
        bif Nat.blt f 9 then
         bif Nat.blt f 8 then
          bif Nat.beq f 7 then [none] else []
         else
          bif Nat.beq f 8 then [none] else []
        else
         bif Nat.blt f 10 then
          bif Nat.beq f 9 then [none] else []
         else
          bif Nat.beq f 10 then [none] else []
      else
       bif Nat.blt f 15 then
        bif Nat.blt f 13 then
         bif Nat.blt f 12 then
          bif Nat.beq f 11 then [some 2] else []
         else
          bif Nat.beq f 12 then [none] else []
        else
         bif Nat.blt f 14 then
          bif Nat.beq f 13 then [none] else []
         else
          bif Nat.beq f 14 then [none] else []
       else
        bif Nat.blt f 17 then
         bif Nat.blt f 16 then
          bif Nat.beq f 15 then [some 1, none] else []
         else
          bif Nat.beq f 16 then [some 1, none] else []
        else
         bif Nat.blt f 18 then
          bif Nat.beq f 17 then [none] else []
         else
          bif Nat.beq f 18 then [some 2, none] else []
     else
      bif Nat.blt f 27 then
       bif Nat.blt f 23 then
        bif Nat.blt f 21 then
         bif Nat.blt f 20 then
          bif Nat.beq f 19 then [some 2, none] else []
         else
          bif Nat.beq f 20 then [some 1, none] else []
        else
         bif Nat.blt f 22 then
          bif Nat.beq f 21 then [some 1, none] else []
         else
          bif Nat.beq f 22 then [none] else []
       else
        bif Nat.blt f 25 then
         bif Nat.blt f 24 then
          bif Nat.beq f 23 then [some 4, some 7] else []
         else
          bif Nat.beq f 24 then [some 25] else []
        else
         bif Nat.blt f 26 then
          bif Nat.beq f 25 then [none] else []
         else
          bif Nat.beq f 26 then [some 1, none] else []
      else
       bif Nat.blt f 31 then
        bif Nat.blt f 29 then
         bif Nat.blt f 28 then
          bif Nat.beq f 27 then [some 1] else []
         else
          bif Nat.beq f 28 then [none] else []
        else
         bif Nat.blt f 30 then
          bif Nat.beq f 29 then [none] else []
         else
          bif Nat.beq f 30 then [some 1, none] else []
       else
        bif Nat.blt f 33 then
         bif Nat.blt f 32 then
          bif Nat.beq f 31 then [none] else []
         else
          bif Nat.beq f 32 then [none] else []
        else
         bif Nat.blt f 34 then
          bif Nat.beq f 33 then [none] else []
         else
          bif Nat.beq f 34 then [none] else []
    else
     bif Nat.blt f 51 then
      bif Nat.blt f 43 then
       bif Nat.blt f 39 then
        bif Nat.blt f 37 then
         bif Nat.blt f 36 then
          bif Nat.beq f 35 then [none] else []
         else
          bif Nat.beq f 36 then [some 4, some 4, none] else []
        else
         bif Nat.blt f 38 then
          bif Nat.beq f 37 then [none, none] else []
         else
          bif Nat.beq f 38 then [none] else []
       else
        bif Nat.blt f 41 then
         bif Nat.blt f 40 then
          bif Nat.beq f 39 then [none, none] else []
         else
          bif Nat.beq f 40 then [some 2, some 1, none] else []
        else
         bif Nat.blt f 42 then
          bif Nat.beq f 41 then [some 2, some 1] else []
         else
          bif Nat.beq f 42 then [none] else []
      else
       bif Nat.blt f 47 then
        bif Nat.blt f 45 then
         bif Nat.blt f 44 then
          bif Nat.beq f 43 then [none] else []
         else
          bif Nat.beq f 44 then [none, none] else []
        else
         bif Nat.blt f 46 then
          bif Nat.beq f 45 then [some 1, none] else []
         else
          bif Nat.beq f 46 then [some 1] else []
       else
        bif Nat.blt f 49 then
         bif Nat.blt f 48 then
          bif Nat.beq f 47 then [some 1, none] else []
         else
          bif Nat.beq f 48 then [some 1, none] else []
        else
         bif Nat.blt f 50 then
          bif Nat.beq f 49 then [none] else []
         else
          bif Nat.beq f 50 then [none] else []
     else
      bif Nat.blt f 59 then
       bif Nat.blt f 55 then
        bif Nat.blt f 53 then
         bif Nat.blt f 52 then
          bif Nat.beq f 51 then [some 1, none] else []
         else
          bif Nat.beq f 52 then [none] else []
        else
         bif Nat.blt f 54 then
          bif Nat.beq f 53 then [none] else []
         else
          bif Nat.beq f 54 then [some 4] else []
       else
        bif Nat.blt f 57 then
         bif Nat.blt f 56 then
          bif Nat.beq f 55 then [none] else []
         else
          bif Nat.beq f 56 then [none] else []
        else
         bif Nat.blt f 58 then
          bif Nat.beq f 57 then [none] else []
         else
          bif Nat.beq f 58 then [none] else []
      else
       bif Nat.blt f 64 then
        bif Nat.blt f 61 then
         bif Nat.blt f 60 then
          bif Nat.beq f 59 then [none] else []
         else
          bif Nat.beq f 60 then [none] else []
        else
         bif Nat.blt f 63 then
          bif Nat.beq f 61 then [none] else []
         else
          bif Nat.beq f 63 then [some 1, some 1] else []
       else
        bif Nat.blt f 66 then
         bif Nat.blt f 65 then
          bif Nat.beq f 64 then [none] else []
         else
          bif Nat.beq f 65 then [none] else []
        else
         bif Nat.blt f 67 then
          bif Nat.beq f 66 then [none] else []
         else
          bif Nat.beq f 67 then [none] else []
   else
    bif Nat.blt f 100 then
     bif Nat.blt f 84 then
      bif Nat.blt f 76 then
       bif Nat.blt f 72 then
        bif Nat.blt f 70 then
         bif Nat.blt f 69 then
          bif Nat.beq f 68 then [none] else []
         else
          bif Nat.beq f 69 then [none] else []
        else
         bif Nat.blt f 71 then
          bif Nat.beq f 70 then [none] else []
         else
          bif Nat.beq f 71 then [some 1, some 1, none] else []
       else
        bif Nat.blt f 74 then
         bif Nat.blt f 73 then
          bif Nat.beq f 72 then [none] else []
         else
          bif Nat.beq f 73 then [some 1, some 1, none] else []
        else
         bif Nat.blt f 75 then
          bif Nat.beq f 74 then [some 1, some 1, none] else []
         else
          bif Nat.beq f 75 then [some 1, none] else []
      else
       bif Nat.blt f 80 then
        bif Nat.blt f 78 then
         bif Nat.blt f 77 then
          bif Nat.beq f 76 then [none] else []
         else
          bif Nat.beq f 77 then [none] else []
        else
         bif Nat.blt f 79 then
          bif Nat.beq f 78 then [none, none] else []
         else
          bif Nat.beq f 79 then [some 1, none] else []
       else
        bif Nat.blt f 82 then
         bif Nat.blt f 81 then
          bif Nat.beq f 80 then [none] else []
         else
          bif Nat.beq f 81 then [none] else []
        else
         bif Nat.blt f 83 then
          bif Nat.beq f 82 then [none] else []
         else
          bif Nat.beq f 83 then [some 4] else []
     else
      bif Nat.blt f 92 then
       bif Nat.blt f 88 then
        bif Nat.blt f 86 then
         bif Nat.blt f 85 then
          bif Nat.beq f 84 then [none, none] else []
         else
          bif Nat.beq f 85 then [none] else []
        else
         bif Nat.blt f 87 then
          bif Nat.beq f 86 then [some 4] else []
         else
          bif Nat.beq f 87 then [some 4] else []
       else
        bif Nat.blt f 90 then
         bif Nat.blt f 89 then
          bif Nat.beq f 88 then [none] else []
         else
          bif Nat.beq f 89 then [none] else []
        else
         bif Nat.blt f 91 then
          bif Nat.beq f 90 then [none] else []
         else
          bif Nat.beq f 91 then [none] else []
      else
       bif Nat.blt f 96 then
        bif Nat.blt f 94 then
         bif Nat.blt f 93 then
          bif Nat.beq f 92 then [none] else []
         else
          bif Nat.beq f 93 then [none] else []
        else
         bif Nat.blt f 95 then
          bif Nat.beq f 94 then [none] else []
         else
          bif Nat.beq f 95 then [some 1] else []
       else
        bif Nat.blt f 98 then
         bif Nat.blt f 97 then
          bif Nat.beq f 96 then [none] else []
         else
          bif Nat.beq f 97 then [none] else []
        else
         bif Nat.blt f 99 then
          bif Nat.beq f 98 then [none] else []
         else
          bif Nat.beq f 99 then [none] else []
    else
     bif Nat.blt f 116 then
      bif Nat.blt f 108 then
       bif Nat.blt f 104 then
        bif Nat.blt f 102 then
         bif Nat.blt f 101 then
          bif Nat.beq f 100 then [none] else []
         else
          bif Nat.beq f 101 then [some 4] else []
        else
         bif Nat.blt f 103 then
          bif Nat.beq f 102 then [none] else []
         else
          bif Nat.beq f 103 then [none] else []
       else
        bif Nat.blt f 106 then
         bif Nat.blt f 105 then
          bif Nat.beq f 104 then [none] else []
         else
          bif Nat.beq f 105 then [none] else []
        else
         bif Nat.blt f 107 then
          bif Nat.beq f 106 then [none] else []
         else
          bif Nat.beq f 107 then [none] else []
      else
       bif Nat.blt f 112 then
        bif Nat.blt f 110 then
         bif Nat.blt f 109 then
          bif Nat.beq f 108 then [some 1, some 1] else []
         else
          bif Nat.beq f 109 then [none] else []
        else
         bif Nat.blt f 111 then
          bif Nat.beq f 110 then [none] else []
         else
          bif Nat.beq f 111 then [some 1, some 1] else []
       else
        bif Nat.blt f 114 then
         bif Nat.blt f 113 then
          bif Nat.beq f 112 then [none] else []
         else
          bif Nat.beq f 113 then [none] else []
        else
         bif Nat.blt f 115 then
          bif Nat.beq f 114 then [none] else []
         else
          bif Nat.beq f 115 then [none] else []
     else
      bif Nat.blt f 124 then
       bif Nat.blt f 120 then
        bif Nat.blt f 118 then
         bif Nat.blt f 117 then
          bif Nat.beq f 116 then [none] else []
         else
          bif Nat.beq f 117 then [none] else []
        else
         bif Nat.blt f 119 then
          bif Nat.beq f 118 then [some 1, some 1, none] else []
         else
          bif Nat.beq f 119 then [some 1, some 1, none] else []
       else
        bif Nat.blt f 122 then
         bif Nat.blt f 121 then
          bif Nat.beq f 120 then [some 1, none] else []
         else
          bif Nat.beq f 121 then [none] else []
        else
         bif Nat.blt f 123 then
          bif Nat.beq f 122 then [none] else []
         else
          bif Nat.beq f 123 then [none] else []
      else
       bif Nat.blt f 128 then
        bif Nat.blt f 126 then
         bif Nat.blt f 125 then
          bif Nat.beq f 124 then [none] else []
         else
          bif Nat.beq f 125 then [none] else []
        else
         bif Nat.blt f 127 then
          bif Nat.beq f 126 then [none] else []
         else
          bif Nat.beq f 127 then [none] else []
       else
        bif Nat.blt f 132 then
         bif Nat.blt f 131 then
          bif Nat.beq f 128 then [none] else []
         else
          bif Nat.beq f 131 then [none] else []
        else
         bif Nat.blt f 133 then
          bif Nat.beq f 132 then [none] else []
         else
          bif Nat.beq f 133 then [none] else []
  else
   bif Nat.blt f 201 then
    bif Nat.blt f 167 then
     bif Nat.blt f 150 then
      bif Nat.blt f 142 then
       bif Nat.blt f 138 then
        bif Nat.blt f 136 then
         bif Nat.blt f 135 then
          bif Nat.beq f 134 then [none, none, none, none, none] else []
         else
          bif Nat.beq f 135 then [none] else []
        else
         bif Nat.blt f 137 then
          bif Nat.beq f 136 then [none] else []
         else
          bif Nat.beq f 137 then [none] else []
       else
        bif Nat.blt f 140 then
         bif Nat.blt f 139 then
          bif Nat.beq f 138 then [none] else []
         else
          bif Nat.beq f 139 then [none] else []
        else
         bif Nat.blt f 141 then
          bif Nat.beq f 140 then [some 1, some 3, some 1, some 1, none] else []
         else
          bif Nat.beq f 141 then [none] else []
      else
       bif Nat.blt f 146 then
        bif Nat.blt f 144 then
         bif Nat.blt f 143 then
          bif Nat.beq f 142 then [some 1] else []
         else
          bif Nat.beq f 143 then [none] else []
        else
         bif Nat.blt f 145 then
          bif Nat.beq f 144 then [none] else []
         else
          bif Nat.beq f 145 then [none] else []
       else
        bif Nat.blt f 148 then
         bif Nat.blt f 147 then
          bif Nat.beq f 146 then [none] else []
         else
          bif Nat.beq f 147 then [none] else []
        else
         bif Nat.blt f 149 then
          bif Nat.beq f 148 then [some 4] else []
         else
          bif Nat.beq f 149 then [none] else []
     else
      bif Nat.blt f 158 then
       bif Nat.blt f 154 then
        bif Nat.blt f 152 then
         bif Nat.blt f 151 then
          bif Nat.beq f 150 then [none] else []
         else
          bif Nat.beq f 151 then [none] else []
        else
         bif Nat.blt f 153 then
          bif Nat.beq f 152 then [none] else []
         else
          bif Nat.beq f 153 then [none] else []
       else
        bif Nat.blt f 156 then
         bif Nat.blt f 155 then
          bif Nat.beq f 154 then [none] else []
         else
          bif Nat.beq f 155 then [some 1, some 1] else []
        else
         bif Nat.blt f 157 then
          bif Nat.beq f 156 then [some 1, some 1] else []
         else
          bif Nat.beq f 157 then [none] else []
      else
       bif Nat.blt f 163 then
        bif Nat.blt f 160 then
         bif Nat.blt f 159 then
          bif Nat.beq f 158 then [none] else []
         else
          bif Nat.beq f 159 then [none] else []
        else
         bif Nat.blt f 162 then
          bif Nat.beq f 160 then [some 1] else []
         else
          bif Nat.beq f 162 then [none] else []
       else
        bif Nat.blt f 165 then
         bif Nat.blt f 164 then
          bif Nat.beq f 163 then [none, none, none, none, none] else []
         else
          bif Nat.beq f 164 then [some 4, none] else []
        else
         bif Nat.blt f 166 then
          bif Nat.beq f 165 then [none] else []
         else
          bif Nat.beq f 166 then [none] else []
    else
     bif Nat.blt f 183 then
      bif Nat.blt f 175 then
       bif Nat.blt f 171 then
        bif Nat.blt f 169 then
         bif Nat.blt f 168 then
          bif Nat.beq f 167 then [none] else []
         else
          bif Nat.beq f 168 then [none] else []
        else
         bif Nat.blt f 170 then
          bif Nat.beq f 169 then [none] else []
         else
          bif Nat.beq f 170 then [none, none] else []
       else
        bif Nat.blt f 173 then
         bif Nat.blt f 172 then
          bif Nat.beq f 171 then [none] else []
         else
          bif Nat.beq f 172 then [none] else []
        else
         bif Nat.blt f 174 then
          bif Nat.beq f 173 then [none, none] else []
         else
          bif Nat.beq f 174 then [none] else []
      else
       bif Nat.blt f 179 then
        bif Nat.blt f 177 then
         bif Nat.blt f 176 then
          bif Nat.beq f 175 then [none] else []
         else
          bif Nat.beq f 176 then [none] else []
        else
         bif Nat.blt f 178 then
          bif Nat.beq f 177 then [none] else []
         else
          bif Nat.beq f 178 then [none] else []
       else
        bif Nat.blt f 181 then
         bif Nat.blt f 180 then
          bif Nat.beq f 179 then [none] else []
         else
          bif Nat.beq f 180 then [none] else []
        else
         bif Nat.blt f 182 then
          bif Nat.beq f 181 then [none] else []
         else
          bif Nat.beq f 182 then [none] else []
     else
      bif Nat.blt f 193 then
       bif Nat.blt f 189 then
        bif Nat.blt f 185 then
         bif Nat.blt f 184 then
          bif Nat.beq f 183 then [none] else []
         else
          bif Nat.beq f 184 then [some 1] else []
        else
         bif Nat.blt f 188 then
          bif Nat.beq f 185 then [none] else []
         else
          bif Nat.beq f 188 then [none] else []
       else
        bif Nat.blt f 191 then
         bif Nat.blt f 190 then
          bif Nat.beq f 189 then [none] else []
         else
          bif Nat.beq f 190 then [none] else []
        else
         bif Nat.blt f 192 then
          bif Nat.beq f 191 then [none] else []
         else
          bif Nat.beq f 192 then [some 1] else []
      else
       bif Nat.blt f 197 then
        bif Nat.blt f 195 then
         bif Nat.blt f 194 then
          bif Nat.beq f 193 then [none] else []
         else
          bif Nat.beq f 194 then [none] else []
        else
         bif Nat.blt f 196 then
          bif Nat.beq f 195 then [none] else []
         else
          bif Nat.beq f 196 then [none] else []
       else
        bif Nat.blt f 199 then
         bif Nat.blt f 198 then
          bif Nat.beq f 197 then [none] else []
         else
          bif Nat.beq f 198 then [none, none, none] else []
        else
         bif Nat.blt f 200 then
          bif Nat.beq f 199 then [none] else []
         else
          bif Nat.beq f 200 then [none] else []
   else
    bif Nat.blt f 233 then
     bif Nat.blt f 217 then
      bif Nat.blt f 209 then
       bif Nat.blt f 205 then
        bif Nat.blt f 203 then
         bif Nat.blt f 202 then
          bif Nat.beq f 201 then [none] else []
         else
          bif Nat.beq f 202 then [none] else []
        else
         bif Nat.blt f 204 then
          bif Nat.beq f 203 then [none] else []
         else
          bif Nat.beq f 204 then [none, none, none, none, none] else []
       else
        bif Nat.blt f 207 then
         bif Nat.blt f 206 then
          bif Nat.beq f 205 then [none] else []
         else
          bif Nat.beq f 206 then [none] else []
        else
         bif Nat.blt f 208 then
          bif Nat.beq f 207 then [none] else []
         else
          bif Nat.beq f 208 then [some 1, some 3, some 1, some 1, none] else []
      else
       bif Nat.blt f 213 then
        bif Nat.blt f 211 then
         bif Nat.blt f 210 then
          bif Nat.beq f 209 then [none] else []
         else
          bif Nat.beq f 210 then [none] else []
        else
         bif Nat.blt f 212 then
          bif Nat.beq f 211 then [none] else []
         else
          bif Nat.beq f 212 then [none] else []
       else
        bif Nat.blt f 215 then
         bif Nat.blt f 214 then
          bif Nat.beq f 213 then [none] else []
         else
          bif Nat.beq f 214 then [none] else []
        else
         bif Nat.blt f 216 then
          bif Nat.beq f 215 then [none] else []
         else
          bif Nat.beq f 216 then [none] else []
     else
      bif Nat.blt f 225 then
       bif Nat.blt f 221 then
        bif Nat.blt f 219 then
         bif Nat.blt f 218 then
          bif Nat.beq f 217 then [none] else []
         else
          bif Nat.beq f 218 then [none] else []
        else
         bif Nat.blt f 220 then
          bif Nat.beq f 219 then [none] else []
         else
          bif Nat.beq f 220 then [none, none] else []
       else
        bif Nat.blt f 223 then
         bif Nat.blt f 222 then
          bif Nat.beq f 221 then [none] else []
         else
          bif Nat.beq f 222 then [none] else []
        else
         bif Nat.blt f 224 then
          bif Nat.beq f 223 then [none] else []
         else
          bif Nat.beq f 224 then [some 4, none] else []
      else
       bif Nat.blt f 229 then
        bif Nat.blt f 227 then
         bif Nat.blt f 226 then
          bif Nat.beq f 225 then [none] else []
         else
          bif Nat.beq f 226 then [none] else []
        else
         bif Nat.blt f 228 then
          bif Nat.beq f 227 then [none] else []
         else
          bif Nat.beq f 228 then [none] else []
       else
        bif Nat.blt f 231 then
         bif Nat.blt f 230 then
          bif Nat.beq f 229 then [none] else []
         else
          bif Nat.beq f 230 then [none] else []
        else
         bif Nat.blt f 232 then
          bif Nat.beq f 231 then [none, none] else []
         else
          bif Nat.beq f 232 then [none] else []
    else
     bif Nat.blt f 251 then
      bif Nat.blt f 241 then
       bif Nat.blt f 237 then
        bif Nat.blt f 235 then
         bif Nat.blt f 234 then
          bif Nat.beq f 233 then [none] else []
         else
          bif Nat.beq f 234 then [none, none] else []
        else
         bif Nat.blt f 236 then
          bif Nat.beq f 235 then [none] else []
         else
          bif Nat.beq f 236 then [none] else []
       else
        bif Nat.blt f 239 then
         bif Nat.blt f 238 then
          bif Nat.beq f 237 then [none] else []
         else
          bif Nat.beq f 238 then [some 1] else []
        else
         bif Nat.blt f 240 then
          bif Nat.beq f 239 then [none] else []
         else
          bif Nat.beq f 240 then [none] else []
      else
       bif Nat.blt f 246 then
        bif Nat.blt f 243 then
         bif Nat.blt f 242 then
          bif Nat.beq f 241 then [none] else []
         else
          bif Nat.beq f 242 then [none] else []
        else
         bif Nat.blt f 245 then
          bif Nat.beq f 243 then [none] else []
         else
          bif Nat.beq f 245 then [none] else []
       else
        bif Nat.blt f 248 then
         bif Nat.blt f 247 then
          bif Nat.beq f 246 then [none] else []
         else
          bif Nat.beq f 247 then [none] else []
        else
         bif Nat.blt f 249 then
          bif Nat.beq f 248 then [none] else []
         else
          bif Nat.beq f 249 then [none] else []
     else
      bif Nat.blt f 264 then
       bif Nat.blt f 256 then
        bif Nat.blt f 253 then
         bif Nat.blt f 252 then
          bif Nat.beq f 251 then [none] else []
         else
          bif Nat.beq f 252 then [none] else []
        else
         bif Nat.blt f 255 then
          bif Nat.beq f 253 then [none] else []
         else
          bif Nat.beq f 255 then [none] else []
       else
        bif Nat.blt f 262 then
         bif Nat.blt f 260 then
          bif Nat.beq f 256 then [none] else []
         else
          bif Nat.beq f 260 then [none, none] else []
        else
         bif Nat.blt f 263 then
          bif Nat.beq f 262 then [none] else []
         else
          bif Nat.beq f 263 then [none] else []
      else
       bif Nat.blt f 269 then
        bif Nat.blt f 266 then
         bif Nat.blt f 265 then
          bif Nat.beq f 264 then [none, none] else []
         else
          bif Nat.beq f 265 then [none] else []
        else
         bif Nat.blt f 268 then
          bif Nat.beq f 266 then [none] else []
         else
          bif Nat.beq f 268 then [none] else []
       else
        bif Nat.blt f 271 then
         bif Nat.blt f 270 then
          bif Nat.beq f 269 then [none] else []
         else
          bif Nat.beq f 270 then [none] else []
        else
         bif Nat.blt f 272 then
          bif Nat.beq f 271 then [none] else []
         else
          bif Nat.beq f 272 then [none, none] else []
noncomputable def pairs (f b : Nat) : List (Nat × Nat) :=
  bif Nat.blt f 111 then
   bif Nat.blt f 62 then
    bif Nat.blt f 12 then
     bif Nat.blt f 4 then
      bif Nat.beq f 3 then (bif Nat.beq b 3 then [(0, 3), (3, 5), (4, 5)] else []) else []
     else
      bif Nat.beq f 4 then (bif Nat.beq b 3 then [(0, 2), (2, 3)] else []) else []
    else
     bif Nat.blt f 40 then
      bif Nat.beq f 12 then (bif Nat.beq b 13 then [(5, 7)] else []) else []
     else
      bif Nat.beq f 40 then (bif Nat.beq b 17 then [(4, 9)] else bif Nat.beq b 23 then [(4, 6)] else []) else []
   else
    bif Nat.blt f 101 then
     bif Nat.blt f 63 then
      bif Nat.beq f 62 then (bif Nat.beq b 20 then [(7, 11)] else []) else []
     else
      bif Nat.beq f 63 then (bif Nat.beq b 5 then [(22, 24)] else []) else []
    else
     bif Nat.blt f 108 then
      bif Nat.beq f 101 then (bif Nat.beq b 3 then [(0, 1), (0, 3), (0, 7), (0, 8), (0, 11), (8, 11), (9, 11), (0, 15), (8, 15), (9, 15)] else []) else []
     else
      bif Nat.blt f 109 then
       bif Nat.beq f 108 then (bif Nat.beq b 1 then [(8, 12), (8, 16)] else []) else []
      else
       bif Nat.beq f 109 then (bif Nat.beq b 9 then [(1, 8), (5, 8), (7, 8)] else []) else []
  else
   bif Nat.blt f 163 then
    bif Nat.blt f 141 then
     bif Nat.blt f 140 then
      bif Nat.beq f 111 then (bif Nat.beq b 1 then [(8, 12), (8, 16)] else []) else []
     else
      bif Nat.beq f 140 then (bif Nat.beq b 8 then [(1, 11)] else bif Nat.beq b 12 then [(1, 9), (3, 9), (6, 9), (8, 9)] else bif Nat.beq b 13 then [(1, 8), (3, 8), (8, 10), (8, 12), (1, 13), (3, 13), (1, 15)] else bif Nat.beq b 14 then [(0, 1), (1, 3), (0, 4), (0, 5), (1, 5), (3, 5), (4, 5), (1, 7), (4, 7), (5, 7), (0, 8)] else []) else []
    else
     bif Nat.blt f 155 then
      bif Nat.beq f 141 then (bif Nat.beq b 21 then [(1, 14), (4, 14), (6, 14), (8, 14), (11, 14), (13, 14), (1, 15), (4, 15), (6, 15), (8, 15), (11, 15), (13, 15), (14, 15), (6, 16), (8, 16), (11, 16), (13, 16)] else []) else []
     else
      bif Nat.blt f 156 then
       bif Nat.beq f 155 then (bif Nat.beq b 1 then [(8, 11), (8, 15)] else []) else []
      else
       bif Nat.beq f 156 then (bif Nat.beq b 1 then [(8, 11), (8, 15)] else []) else []
   else
    bif Nat.blt f 208 then
     bif Nat.blt f 166 then
      bif Nat.beq f 163 then (bif Nat.beq b 22 then [(8, 10)] else []) else []
     else
      bif Nat.beq f 166 then (bif Nat.beq b 10 then [(1, 9), (3, 9), (6, 9), (8, 9)] else []) else []
    else
     bif Nat.blt f 209 then
      bif Nat.beq f 208 then (bif Nat.beq b 8 then [(1, 7)] else bif Nat.beq b 18 then [(0, 3), (3, 5), (0, 6)] else []) else []
     else
      bif Nat.blt f 210 then
       bif Nat.beq f 209 then (bif Nat.beq b 22 then [(1, 10), (4, 10), (6, 10), (9, 10), (1, 11), (4, 11), (6, 11), (9, 11), (10, 11), (6, 12), (9, 12)] else []) else []
      else
       bif Nat.beq f 210 then (bif Nat.beq b 1 then [(8, 10), (17, 19)] else []) else []
noncomputable def primP (f : Nat) : Option (List PV → Option PV) :=
  bif Nat.blt f 95 then
   bif Nat.blt f 83 then
    bif Nat.beq f 11 then (some (cloneP 2)) else none
   else
    bif Nat.blt f 87 then
     bif Nat.beq f 83 then (some (cloneP 4)) else none
    else
     bif Nat.beq f 87 then (some noneP) else none
  else
   bif Nat.blt f 237 then
    bif Nat.beq f 95 then (some (cloneP 1)) else none
   else
    bif Nat.blt f 238 then
     bif Nat.beq f 237 then (some indexByteP) else none
    else
     bif Nat.beq f 238 then (some (cloneP 1)) else none
noncomputable def isRef (f : Nat) : Bool :=
  bif Nat.blt f 258 then
   bif Nat.blt f 186 then
    bif Nat.blt f 86 then
     bif Nat.blt f 75 then
      bif Nat.beq f 62 then true else false
     else
      bif Nat.blt f 76 then
       bif Nat.beq f 75 then true else false
      else
       bif Nat.beq f 76 then true else false
    else
     bif Nat.blt f 97 then
      bif Nat.beq f 86 then true else false
     else
      bif Nat.blt f 113 then
       bif Nat.beq f 97 then true else false
      else
       bif Nat.beq f 113 then true else false
   else
    bif Nat.blt f 245 then
     bif Nat.blt f 187 then
      bif Nat.beq f 186 then true else false
     else
      bif Nat.blt f 244 then
       bif Nat.beq f 187 then true else false
      else
       bif Nat.beq f 244 then true else false
    else
     bif Nat.blt f 254 then
      bif Nat.beq f 245 then true else false
     else
      bif Nat.blt f 257 then
       bif Nat.beq f 254 then true else false
      else
       bif Nat.beq f 257 then true else false
  else
   bif Nat.blt f 264 then
    bif Nat.blt f 261 then
     bif Nat.blt f 259 then
      bif Nat.beq f 258 then true else false
     else
      bif Nat.blt f 260 then
       bif Nat.beq f 259 then true else false
      else
       bif Nat.beq f 260 then true else false
    else
     bif Nat.blt f 262 then
      bif Nat.beq f 261 then true else false
     else
      bif Nat.blt f 263 then
       bif Nat.beq f 262 then true else false
      else
       bif Nat.beq f 263 then true else false
   else
    bif Nat.blt f 270 then
     bif Nat.blt f 267 then
      bif Nat.beq f 264 then true else false
     else
      bif Nat.blt f 269 then
       bif Nat.beq f 267 then true else false
      else
       bif Nat.beq f 269 then true else false
    else
     bif Nat.blt f 271 then
      bif Nat.beq f 270 then true else false
     else
      bif Nat.blt f 272 then
       bif Nat.beq f 271 then true else false
      else
       bif Nat.beq f 272 then true else false
noncomputable def E : Env where
  tab := tab
  code := code
  isRef := isRef
  keepNil := fun _ => false
  resK := resK
  keep := keep
  keepR := fun _ _ => none
  keepE := fun _ => none
  pairs := pairs
  norm := fun _ => []
  primP := primP
  primR := fun f => bif Nat.beq f 86 then some (insertR 4) else none
theorem E_tab : E.tab = tab := rfl
theorem E_keep : E.keep = keep := rfl
theorem E_keepR (f b : Nat) : E.keepR f b = none := rfl
theorem E_keepE (f : Nat) : E.keepE f = none := rfl
theorem E_pairs : E.pairs = pairs := rfl
theorem E_resK : E.resK = resK := rfl
theorem E_keepNil (f : Nat) : E.keepNil f = false := rfl
theorem E_isRef : E.isRef = isRef := rfl
noncomputable def isRec (f : Nat) : Bool := bif Nat.beq f 148 then true else bif Nat.beq f 101 then true else bif Nat.beq f 93 then true else bif Nat.beq f 6 then true else false
theorem MR_E (f r : Nat) (C : Pm.Callee) : (machR E f r C).E = E := rfl
theorem MR_C (f r : Nat) (C : Pm.Callee) : (machR E f r C).C = C := rfl
theorem MR_f (f r : Nat) (C : Pm.Callee) : (machR E f r C).f = f := rfl
theorem MR_nr (f r : Nat) (C : Pm.Callee) : (machR E f r C).nr = r := rfl
theorem MR_c (f r : Nat) (C : Pm.Callee) : (machR E f r C).c = codOf E f := rfl
theorem MR_D (f r : Nat) (C : Pm.Callee) : (machR E f r C).D = endR E f r := rfl
theorem M_E (f : Nat) (C : Pm.Callee) : (machP E f C).E = E := rfl
theorem M_C (f : Nat) (C : Pm.Callee) : (machP E f C).C = C := rfl
theorem M_f (f : Nat) (C : Pm.Callee) : (machP E f C).f = f := rfl
theorem M_nr (f : Nat) (C : Pm.Callee) : (machP E f C).nr = 0 := rfl
theorem M_c (f : Nat) (C : Pm.Callee) : (machP E f C).c = codOf E f := rfl
theorem M_D (f : Nat) (C : Pm.Callee) : (machP E f C).D = endP E f := rfl
theorem tab3 : tab 3 = some ⟨.int .i64, 1, 8, [.int .i64 0], false⟩ := rfl
theorem tab4 : tab 4 = some ⟨.bool, 1, 1, [.bool false], false⟩ := rfl
theorem tab5 : tab 5 = some ⟨.int .u8, 1, 1, [.int .u8 0], false⟩ := rfl
theorem tab9 : tab 9 = some ⟨.str, 1, 16, [.str ⟨#[]⟩], false⟩ := rfl
theorem tab22 : tab 22 = some ⟨.slice 67, 1, 24, [.nils], false⟩ := rfl
theorem tab23 : tab 23 = some ⟨.slice 72, 1, 24, [.nils], false⟩ := rfl
theorem tab25 : tab 25 = some ⟨.struct [(0, 22), (1, 23)], 2, 48, [.nils, .nils], false⟩ := rfl
theorem tab26 : tab 26 = some ⟨.slice 96, 1, 24, [.nils], false⟩ := rfl
theorem tab27 : tab 27 = some ⟨.slice 33, 1, 24, [.nils], false⟩ := rfl
theorem tab31 : tab 31 = some ⟨.slice 3, 1, 24, [.nils], false⟩ := rfl
theorem tab33 : tab 33 = some ⟨.struct [(0, 31), (1, 31)], 2, 48, [.nils, .nils], false⟩ := rfl
theorem tab34 : tab 34 = some ⟨.func, 1, 8, [.nilf], false⟩ := rfl
theorem tab37 : tab 37 = some ⟨.slice 111, 1, 24, [.nils], false⟩ := rfl
theorem tab39 : tab 39 = some ⟨.struct [(0, 31), (1, 37)], 2, 48, [.nils, .nils], false⟩ := rfl
theorem tab41 : tab 41 = some ⟨.int .i64, 1, 8, [.int .i64 0], false⟩ := rfl
theorem tab53 : tab 53 = some ⟨.slice 31, 1, 24, [.nils], false⟩ := rfl
theorem tab56 : tab 56 = some ⟨.slice 4, 1, 24, [.nils], false⟩ := rfl
theorem tab61 : tab 61 = some ⟨.func, 1, 8, [.nilf], false⟩ := rfl
theorem tab65 : tab 65 = some ⟨.slice 70, 1, 24, [.nils], false⟩ := rfl
theorem tab67 : tab 67 = some ⟨.struct [(0, 9), (1, 3), (2, 4), (3, 65)], 4, 56, [.str ⟨#[]⟩, .int .i64 0, .bool false, .nils], false⟩ := rfl
theorem tab68 : tab 68 = some ⟨.slice 9, 1, 24, [.nils], false⟩ := rfl
theorem tab70 : tab 70 = some ⟨.struct [(0, 9), (1, 3), (2, 3), (3, 68)], 4, 56, [.str ⟨#[]⟩, .int .i64 0, .int .i64 0, .nils], false⟩ := rfl
theorem tab72 : tab 72 = some ⟨.struct [(0, 9), (1, 3), (2, 3), (3, 3), (4, 3), (5, 3), (6, 3)], 7, 64, [.str ⟨#[]⟩, .int .i64 0, .int .i64 0, .int .i64 0, .int .i64 0, .int .i64 0, .int .i64 0], false⟩ := rfl
theorem tab73 : tab 73 = some ⟨.slice 109, 1, 24, [.nils], false⟩ := rfl
theorem tab75 : tab 75 = some ⟨.struct [(0, 73), (1, 73)], 2, 48, [.nils, .nils], false⟩ := rfl
theorem tab85 : tab 85 = some ⟨.slice 93, 1, 24, [.nils], false⟩ := rfl
theorem tab87 : tab 87 = some ⟨.struct [(0, 31), (1, 31)], 2, 48, [.nils, .nils], false⟩ := rfl
theorem tab88 : tab 88 = some ⟨.slice 175, 1, 24, [.nils], false⟩ := rfl
theorem tab89 : tab 89 = some ⟨.slice 201, 1, 24, [.nils], false⟩ := rfl
theorem tab91 : tab 91 = some ⟨.struct [(0, 39), (2, 88), (3, 3), (4, 89)], 5, 104, [.nils, .nils, .nils, .int .i64 0, .nils], false⟩ := rfl
theorem tab93 : tab 93 = some ⟨.struct [(0, 3), (1, 85), (2, 87), (4, 91)], 9, 184, [.int .i64 0, .nils, .nils, .nils, .nils, .nils, .nils, .int .i64 0, .nils], false⟩ := rfl
theorem tab94 : tab 94 = some ⟨.struct [(0, 31), (1, 31)], 2, 48, [.nils, .nils], false⟩ := rfl
theorem tab96 : tab 96 = some ⟨.struct [(0, 9), (1, 91), (6, 91), (11, 94), (13, 87), (15, 4), (16, 93)], 25, 512, [.str ⟨#[]⟩, .nils, .nils, .nils, .int .i64 0, .nils, .nils, .nils, .nils, .int .i64 0, .nils, .nils, .nils, .nils, .nils, .bool false, .int .i64 0, .nils, .nils, .nils, .nils, .nils, .nils, .int .i64 0, .nils], false⟩ := rfl
theorem tab109 : tab 109 = some ⟨.struct [(0, 3), (1, 3), (2, 3), (3, 3)], 4, 32, [.int .i64 0, .int .i64 0, .int .i64 0, .int .i64 0], false⟩ := rfl
theorem tab111 : tab 111 = some ⟨.struct [(0, 3), (1, 3), (2, 3)], 3, 24, [.int .i64 0, .int .i64 0, .int .i64 0], false⟩ := rfl
theorem tab114 : tab 114 = some ⟨.ptr, 1, 8, [.nilp], false⟩ := rfl
theorem tab116 : tab 116 = some ⟨.struct [(0, 53), (1, 31), (2, 31), (3, 3), (4, 31), (5, 3), (6, 3)], 7, 120, [.nils, .nils, .nils, .int .i64 0, .nils, .int .i64 0, .int .i64 0], false⟩ := rfl
theorem tab118 : tab 118 = some ⟨.func, 1, 8, [.nilf], false⟩ := rfl
theorem tab124 : tab 124 = some ⟨.func, 1, 8, [.nilf], false⟩ := rfl
theorem tab137 : tab 137 = some ⟨.func, 1, 8, [.nilf], false⟩ := rfl
theorem tab152 : tab 152 = some ⟨.func, 1, 8, [.nilf], false⟩ := rfl
theorem tab161 : tab 161 = some ⟨.func, 1, 8, [.nilf], false⟩ := rfl
theorem tab163 : tab 163 = some ⟨.int .u64, 1, 8, [.int .u64 0], false⟩ := rfl
theorem tab169 : tab 169 = some ⟨.struct [(0, 3), (1, 9), (2, 3)], 3, 32, [.int .i64 0, .str ⟨#[]⟩, .int .i64 0], false⟩ := rfl
theorem tab173 : tab 173 = some ⟨.struct [(0, 3), (1, 3)], 2, 16, [.int .i64 0, .int .i64 0], false⟩ := rfl
theorem tab175 : tab 175 = some ⟨.struct [(0, 3), (1, 3), (2, 173)], 4, 32, [.int .i64 0, .int .i64 0, .int .i64 0, .int .i64 0], false⟩ := rfl
theorem tab188 : tab 188 = some ⟨.func, 1, 8, [.nilf], false⟩ := rfl
theorem tab191 : tab 191 = some ⟨.func, 1, 8, [.nilf], false⟩ := rfl
theorem tab201 : tab 201 = some ⟨.struct [(0, 3), (1, 173), (3, 173)], 5, 40, [.int .i64 0, .int .i64 0, .int .i64 0, .int .i64 0, .int .i64 0], false⟩ := rfl
theorem tab211 : tab 211 = some ⟨.func, 1, 8, [.nilf], false⟩ := rfl
theorem tab216 : tab 216 = some ⟨.func, 1, 8, [.nilf], false⟩ := rfl
theorem tab233 : tab 233 = some ⟨.func, 1, 8, [.nilf], false⟩ := rfl
theorem tab243 : tab 243 = some ⟨.int .i64, 1, 8, [.int .i64 0], false⟩ := rfl
theorem tab250 : tab 250 = some ⟨.int .u32, 1, 4, [.int .u32 0], false⟩ := rfl
theorem tab252 : tab 252 = some ⟨.int .u64, 1, 8, [.int .u64 0], false⟩ := rfl
theorem tab253 : tab 253 = some ⟨.int .u64, 1, 8, [.int .u64 0], false⟩ := rfl
theorem tab257 : tab 257 = some ⟨.ptr, 1, 8, [.nilp], false⟩ := rfl
theorem tab259 : tab 259 = some ⟨.ptr, 1, 8, [.nilp], false⟩ := rfl
theorem nt3 : ntmOf E 3 = 35 := rfl
theorem co3 : codOf E 3 = (Tryz.f3.body).getD .skip := rfl
theorem re3 : resOf E 3 = Tryz.f3.results.toList := rfl
theorem rk3 : resK 3 = [none] := rfl
theorem ir3 : isRef 3 = false := rfl
theorem nt4 : ntmOf E 4 = 63 := rfl
theorem co4 : codOf E 4 = (Tryz.f4.body).getD .skip := rfl
theorem re4 : resOf E 4 = Tryz.f4.results.toList := rfl
theorem rk4 : resK 4 = [none] := rfl
theorem ir4 : isRef 4 = false := rfl
theorem nt5 : ntmOf E 5 = 79 := rfl
theorem co5 : codOf E 5 = (Tryz.f5.body).getD .skip := rfl
theorem re5 : resOf E 5 = Tryz.f5.results.toList := rfl
theorem rk5 : resK 5 = [none] := rfl
theorem ir5 : isRef 5 = false := rfl
theorem nt6 : ntmOf E 6 = 44 := rfl
theorem co6 : codOf E 6 = (Tryz.f6.body).getD .skip := rfl
theorem re6 : resOf E 6 = Tryz.f6.results.toList := rfl
theorem rk6 : resK 6 = [none] := rfl
theorem ir6 : isRef 6 = false := rfl
theorem nt7 : ntmOf E 7 = 44 := rfl
theorem co7 : codOf E 7 = (Tryz.f7.body).getD .skip := rfl
theorem re7 : resOf E 7 = Tryz.f7.results.toList := rfl
theorem rk7 : resK 7 = [none] := rfl
theorem ir7 : isRef 7 = false := rfl
theorem kp7_0 : keep 7 0 = [(2, []), (5, []), (7, []), (8, [])] := rfl
theorem nt8 : ntmOf E 8 = 9 := rfl
theorem co8 : codOf E 8 = (Tryz.f8.body).getD .skip := rfl
theorem re8 : resOf E 8 = Tryz.f8.results.toList := rfl
theorem rk8 : resK 8 = [none] := rfl
theorem ir8 : isRef 8 = false := rfl
theorem nt9 : ntmOf E 9 = 13 := rfl
theorem co9 : codOf E 9 = (Tryz.f9.body).getD .skip := rfl
theorem re9 : resOf E 9 = Tryz.f9.results.toList := rfl
theorem rk9 : resK 9 = [none] := rfl
theorem ir9 : isRef 9 = false := rfl
theorem nt10 : ntmOf E 10 = 149 := rfl
theorem co10 : codOf E 10 = (Tryz.f10.body).getD .skip := rfl
theorem re10 : resOf E 10 = Tryz.f10.results.toList := rfl
theorem rk10 : resK 10 = [none] := rfl
theorem ir10 : isRef 10 = false := rfl
theorem kp10_8 : keep 10 8 = [(1, []), (3, []), (7, []), (9, []), (38, []), (39, []), (40, []), (135, []), (136, []), (137, [])] := rfl
theorem kp10_6 : keep 10 6 = [(1, []), (3, []), (7, []), (9, []), (12, []), (38, []), (39, []), (40, []), (115, []), (116, [])] := rfl
theorem kp10_4 : keep 10 4 = [(1, []), (3, []), (7, []), (9, []), (12, []), (38, []), (39, []), (40, []), (67, []), (68, []), (69, [])] := rfl
theorem kp10_2 : keep 10 2 = [(1, []), (3, []), (7, []), (9, []), (38, []), (39, []), (40, [])] := rfl
theorem kp10_0 : keep 10 0 = [(1, []), (2, []), (3, []), (7, []), (9, []), (30, []), (31, [])] := rfl
theorem nt11 : ntmOf E 11 = 8 := rfl
theorem co11 : codOf E 11 = (Tryz.f11.body).getD .skip := rfl
theorem re11 : resOf E 11 = Tryz.f11.results.toList := rfl
theorem rk11 : resK 11 = [some 2] := rfl
theorem ir11 : isRef 11 = false := rfl
theorem nt12 : ntmOf E 12 = 75 := rfl
theorem co12 : codOf E 12 = (Tryz.f12.body).getD .skip := rfl
theorem re12 : resOf E 12 = Tryz.f12.results.toList := rfl
theorem rk12 : resK 12 = [none] := rfl
theorem ir12 : isRef 12 = false := rfl
theorem kp12_4 : keep 12 4 = [(2, []), (3, []), (7, []), (9, []), (10, []), (12, []), (13, [])] := rfl
theorem kp12_2 : keep 12 2 = [(2, []), (3, []), (7, []), (9, []), (10, []), (12, [])] := rfl
theorem kp12_0 : keep 12 0 = [(2, []), (3, []), (7, []), (9, []), (10, []), (11, [])] := rfl
theorem nt13 : ntmOf E 13 = 106 := rfl
theorem co13 : codOf E 13 = (Tryz.f13.body).getD .skip := rfl
theorem re13 : resOf E 13 = Tryz.f13.results.toList := rfl
theorem rk13 : resK 13 = [none] := rfl
theorem ir13 : isRef 13 = false := rfl
theorem kp13_6 : keep 13 6 = [(1, []), (8, [])] := rfl
theorem kp13_4 : keep 13 4 = [(1, []), (3, []), (4, []), (5, []), (6, []), (7, [])] := rfl
theorem kp13_2 : keep 13 2 = [(1, []), (3, []), (4, []), (5, [])] := rfl
theorem kp13_0 : keep 13 0 = [(1, []), (3, []), (4, [])] := rfl
theorem nt14 : ntmOf E 14 = 13 := rfl
theorem co14 : codOf E 14 = (Tryz.f14.body).getD .skip := rfl
theorem re14 : resOf E 14 = Tryz.f14.results.toList := rfl
theorem rk14 : resK 14 = [none] := rfl
theorem ir14 : isRef 14 = false := rfl
theorem nt15 : ntmOf E 15 = 50 := rfl
theorem co15 : codOf E 15 = (Tryz.f15.body).getD .skip := rfl
theorem re15 : resOf E 15 = Tryz.f15.results.toList := rfl
theorem rk15 : resK 15 = [some 1, none] := rfl
theorem ir15 : isRef 15 = false := rfl
theorem kp15_0 : keep 15 0 = [(3, []), (5, []), (10, [(0, 1, false)]), (27, []), (28, []), (29, [])] := rfl
theorem nt16 : ntmOf E 16 = 47 := rfl
theorem co16 : codOf E 16 = (Tryz.f16.body).getD .skip := rfl
theorem re16 : resOf E 16 = Tryz.f16.results.toList := rfl
theorem rk16 : resK 16 = [some 1, none] := rfl
theorem ir16 : isRef 16 = false := rfl
theorem kp16_0 : keep 16 0 = [(1, []), (3, []), (5, []), (9, [(0, 1, false)]), (10, [])] := rfl
theorem nt17 : ntmOf E 17 = 26 := rfl
theorem co17 : codOf E 17 = (Tryz.f17.body).getD .skip := rfl
theorem re17 : resOf E 17 = Tryz.f17.results.toList := rfl
theorem rk17 : resK 17 = [none] := rfl
theorem ir17 : isRef 17 = false := rfl
theorem kp17_0 : keep 17 0 = [(0, []), (1, []), (12, []), (13, [])] := rfl
theorem nt18 : ntmOf E 18 = 25 := rfl
theorem co18 : codOf E 18 = (Tryz.f18.body).getD .skip := rfl
theorem re18 : resOf E 18 = Tryz.f18.results.toList := rfl
theorem rk18 : resK 18 = [some 2, none] := rfl
theorem ir18 : isRef 18 = false := rfl
theorem nt19 : ntmOf E 19 = 38 := rfl
theorem co19 : codOf E 19 = (Tryz.f19.body).getD .skip := rfl
theorem re19 : resOf E 19 = Tryz.f19.results.toList := rfl
theorem rk19 : resK 19 = [some 2, none] := rfl
theorem ir19 : isRef 19 = false := rfl
theorem kp19_0 : keep 19 0 = [(8, []), (9, []), (10, [])] := rfl
theorem nt20 : ntmOf E 20 = 18 := rfl
theorem co20 : codOf E 20 = (Tryz.f20.body).getD .skip := rfl
theorem re20 : resOf E 20 = Tryz.f20.results.toList := rfl
theorem rk20 : resK 20 = [some 1, none] := rfl
theorem ir20 : isRef 20 = false := rfl
theorem nt21 : ntmOf E 21 = 43 := rfl
theorem co21 : codOf E 21 = (Tryz.f21.body).getD .skip := rfl
theorem re21 : resOf E 21 = Tryz.f21.results.toList := rfl
theorem rk21 : resK 21 = [some 1, none] := rfl
theorem ir21 : isRef 21 = false := rfl
theorem kp21_0 : keep 21 0 = [(9, []), (10, [(0, 1, false)]), (11, [])] := rfl
theorem nt22 : ntmOf E 22 = 43 := rfl
theorem co22 : codOf E 22 = (Tryz.f22.body).getD .skip := rfl
theorem re22 : resOf E 22 = Tryz.f22.results.toList := rfl
theorem rk22 : resK 22 = [none] := rfl
theorem ir22 : isRef 22 = false := rfl
theorem kp22_0 : keep 22 0 = [(0, []), (1, []), (5, [])] := rfl
theorem nt23 : ntmOf E 23 = 5 := rfl
theorem co23 : codOf E 23 = (Tryz.f23.body).getD .skip := rfl
theorem re23 : resOf E 23 = Tryz.f23.results.toList := rfl
theorem rk23 : resK 23 = [some 4, some 7] := rfl
theorem ir23 : isRef 23 = false := rfl
theorem nt24 : ntmOf E 24 = 17 := rfl
theorem co24 : codOf E 24 = (Tryz.f24.body).getD .skip := rfl
theorem re24 : resOf E 24 = Tryz.f24.results.toList := rfl
theorem rk24 : resK 24 = [some 25] := rfl
theorem ir24 : isRef 24 = false := rfl
theorem nt25 : ntmOf E 25 = 19 := rfl
theorem co25 : codOf E 25 = (Tryz.f25.body).getD .skip := rfl
theorem re25 : resOf E 25 = Tryz.f25.results.toList := rfl
theorem rk25 : resK 25 = [none] := rfl
theorem ir25 : isRef 25 = false := rfl
theorem kp25_0 : keep 25 0 = [(0, []), (3, [])] := rfl
theorem nt26 : ntmOf E 26 = 57 := rfl
theorem co26 : codOf E 26 = (Tryz.f26.body).getD .skip := rfl
theorem re26 : resOf E 26 = Tryz.f26.results.toList := rfl
theorem rk26 : resK 26 = [some 1, none] := rfl
theorem ir26 : isRef 26 = false := rfl
theorem kp26_0 : keep 26 0 = [(1, []), (2, []), (8, [(0, 1, false)]), (9, [])] := rfl
theorem nt27 : ntmOf E 27 = 45 := rfl
theorem co27 : codOf E 27 = (Tryz.f27.body).getD .skip := rfl
theorem re27 : resOf E 27 = Tryz.f27.results.toList := rfl
theorem rk27 : resK 27 = [some 1] := rfl
theorem ir27 : isRef 27 = false := rfl
theorem kp27_2 : keep 27 2 = [(0, []), (1, []), (2, []), (7, []), (8, []), (9, []), (10, [])] := rfl
theorem kp27_0 : keep 27 0 = [(0, []), (1, []), (2, []), (7, [(0, 1, false)]), (8, [])] := rfl
theorem nt28 : ntmOf E 28 = 10 := rfl
theorem co28 : codOf E 28 = (Tryz.f28.body).getD .skip := rfl
theorem re28 : resOf E 28 = Tryz.f28.results.toList := rfl
theorem rk28 : resK 28 = [none] := rfl
theorem ir28 : isRef 28 = false := rfl
theorem nt29 : ntmOf E 29 = 19 := rfl
theorem co29 : codOf E 29 = (Tryz.f29.body).getD .skip := rfl
theorem re29 : resOf E 29 = Tryz.f29.results.toList := rfl
theorem rk29 : resK 29 = [none] := rfl
theorem ir29 : isRef 29 = false := rfl
theorem kp29_0 : keep 29 0 = [(0, []), (1, []), (7, []), (8, [])] := rfl
theorem nt30 : ntmOf E 30 = 47 := rfl
theorem co30 : codOf E 30 = (Tryz.f30.body).getD .skip := rfl
theorem re30 : resOf E 30 = Tryz.f30.results.toList := rfl
theorem rk30 : resK 30 = [some 1, none] := rfl
theorem ir30 : isRef 30 = false := rfl
theorem kp30_0 : keep 30 0 = [(2, []), (8, [(0, 1, false)]), (26, []), (27, []), (28, [])] := rfl
theorem nt31 : ntmOf E 31 = 9 := rfl
theorem co31 : codOf E 31 = (Tryz.f31.body).getD .skip := rfl
theorem re31 : resOf E 31 = Tryz.f31.results.toList := rfl
theorem rk31 : resK 31 = [none] := rfl
theorem ir31 : isRef 31 = false := rfl
theorem nt32 : ntmOf E 32 = 9 := rfl
theorem co32 : codOf E 32 = (Tryz.f32.body).getD .skip := rfl
theorem re32 : resOf E 32 = Tryz.f32.results.toList := rfl
theorem rk32 : resK 32 = [none] := rfl
theorem ir32 : isRef 32 = false := rfl
theorem nt33 : ntmOf E 33 = 25 := rfl
theorem co33 : codOf E 33 = (Tryz.f33.body).getD .skip := rfl
theorem re33 : resOf E 33 = Tryz.f33.results.toList := rfl
theorem rk33 : resK 33 = [none] := rfl
theorem ir33 : isRef 33 = false := rfl
theorem kp33_0 : keep 33 0 = [(1, []), (5, []), (8, []), (9, []), (10, [])] := rfl
theorem nt34 : ntmOf E 34 = 9 := rfl
theorem co34 : codOf E 34 = (Tryz.f34.body).getD .skip := rfl
theorem re34 : resOf E 34 = Tryz.f34.results.toList := rfl
theorem rk34 : resK 34 = [none] := rfl
theorem ir34 : isRef 34 = false := rfl
theorem nt35 : ntmOf E 35 = 86 := rfl
theorem co35 : codOf E 35 = (Tryz.f35.body).getD .skip := rfl
theorem re35 : resOf E 35 = Tryz.f35.results.toList := rfl
theorem rk35 : resK 35 = [none] := rfl
theorem ir35 : isRef 35 = false := rfl
theorem kp35_2 : keep 35 2 = [(6, []), (10, []), (12, [])] := rfl
theorem kp35_0 : keep 35 0 = [(0, []), (1, []), (3, []), (6, []), (9, [])] := rfl
theorem nt36 : ntmOf E 36 = 61 := rfl
theorem co36 : codOf E 36 = (Tryz.f36.body).getD .skip := rfl
theorem re36 : resOf E 36 = Tryz.f36.results.toList := rfl
theorem rk36 : resK 36 = [some 4, some 4, none] := rfl
theorem ir36 : isRef 36 = false := rfl
theorem kp36_2 : keep 36 2 = [(3, []), (4, []), (7, [(1, 4, false)]), (34, []), (35, []), (36, [])] := rfl
theorem kp36_0 : keep 36 0 = [(3, []), (4, []), (7, [(0, 4, false)]), (20, []), (21, []), (22, [])] := rfl
theorem nt37 : ntmOf E 37 = 70 := rfl
theorem co37 : codOf E 37 = (Tryz.f37.body).getD .skip := rfl
theorem re37 : resOf E 37 = Tryz.f37.results.toList := rfl
theorem rk37 : resK 37 = [none, none] := rfl
theorem ir37 : isRef 37 = false := rfl
theorem kp37_2 : keep 37 2 = [(1, []), (3, []), (10, []), (51, []), (52, []), (53, [])] := rfl
theorem kp37_0 : keep 37 0 = [(1, []), (3, []), (5, []), (10, []), (37, []), (38, []), (39, [])] := rfl
theorem nt38 : ntmOf E 38 = 75 := rfl
theorem co38 : codOf E 38 = (Tryz.f38.body).getD .skip := rfl
theorem re38 : resOf E 38 = Tryz.f38.results.toList := rfl
theorem rk38 : resK 38 = [none] := rfl
theorem ir38 : isRef 38 = false := rfl
theorem kp38_2 : keep 38 2 = [(2, []), (3, []), (9, [])] := rfl
theorem kp38_0 : keep 38 0 = [(2, []), (3, []), (8, [])] := rfl
theorem nt39 : ntmOf E 39 = 73 := rfl
theorem co39 : codOf E 39 = (Tryz.f39.body).getD .skip := rfl
theorem re39 : resOf E 39 = Tryz.f39.results.toList := rfl
theorem rk39 : resK 39 = [none, none] := rfl
theorem ir39 : isRef 39 = false := rfl
theorem kp39_2 : keep 39 2 = [(1, []), (5, []), (9, []), (10, []), (12, [])] := rfl
theorem kp39_0 : keep 39 0 = [(1, []), (5, []), (9, []), (10, []), (11, [])] := rfl
theorem nt40 : ntmOf E 40 = 139 := rfl
theorem co40 : codOf E 40 = (Tryz.f40.body).getD .skip := rfl
theorem re40 : resOf E 40 = Tryz.f40.results.toList := rfl
theorem rk40 : resK 40 = [some 2, some 1, none] := rfl
theorem ir40 : isRef 40 = false := rfl
theorem kp40_8 : keep 40 8 = [(2, []), (7, []), (11, []), (13, []), (17, [(0, 1, false)]), (18, [(0, 1, false)]), (103, []), (104, []), (105, [])] := rfl
theorem kp40_6 : keep 40 6 = [(2, []), (7, []), (9, []), (11, []), (13, []), (74, []), (75, [])] := rfl
theorem kp40_4 : keep 40 4 = [(2, []), (7, []), (9, []), (11, []), (12, []), (13, []), (54, []), (55, []), (56, [])] := rfl
theorem kp40_2 : keep 40 2 = [(2, []), (7, []), (9, [(0, 1, false)]), (11, [(0, 2, false)])] := rfl
theorem kp40_0 : keep 40 0 = [(2, []), (7, []), (9, [(0, 1, false)]), (31, []), (32, [])] := rfl
theorem nt41 : ntmOf E 41 = 59 := rfl
theorem co41 : codOf E 41 = (Tryz.f41.body).getD .skip := rfl
theorem re41 : resOf E 41 = Tryz.f41.results.toList := rfl
theorem rk41 : resK 41 = [some 2, some 1] := rfl
theorem ir41 : isRef 41 = false := rfl
theorem kp41_4 : keep 41 4 = [(0, []), (1, []), (6, []), (7, []), (9, []), (10, []), (11, [])] := rfl
theorem kp41_2 : keep 41 2 = [(0, []), (1, []), (6, []), (7, []), (9, [(0, 2, false)])] := rfl
theorem kp41_0 : keep 41 0 = [(0, []), (1, []), (6, []), (7, []), (8, [])] := rfl
theorem nt42 : ntmOf E 42 = 26 := rfl
theorem co42 : codOf E 42 = (Tryz.f42.body).getD .skip := rfl
theorem re42 : resOf E 42 = Tryz.f42.results.toList := rfl
theorem rk42 : resK 42 = [none] := rfl
theorem ir42 : isRef 42 = false := rfl
theorem kp42_0 : keep 42 0 = [(0, []), (1, []), (5, [])] := rfl
theorem nt43 : ntmOf E 43 = 32 := rfl
theorem co43 : codOf E 43 = (Tryz.f43.body).getD .skip := rfl
theorem re43 : resOf E 43 = Tryz.f43.results.toList := rfl
theorem rk43 : resK 43 = [none] := rfl
theorem ir43 : isRef 43 = false := rfl
theorem nt44 : ntmOf E 44 = 60 := rfl
theorem co44 : codOf E 44 = (Tryz.f44.body).getD .skip := rfl
theorem re44 : resOf E 44 = Tryz.f44.results.toList := rfl
theorem rk44 : resK 44 = [none, none] := rfl
theorem ir44 : isRef 44 = false := rfl
theorem kp44_2 : keep 44 2 = [(1, []), (6, [])] := rfl
theorem kp44_0 : keep 44 0 = [(1, []), (4, [])] := rfl
theorem nt45 : ntmOf E 45 = 154 := rfl
theorem co45 : codOf E 45 = (Tryz.f45.body).getD .skip := rfl
theorem re45 : resOf E 45 = Tryz.f45.results.toList := rfl
theorem rk45 : resK 45 = [some 1, none] := rfl
theorem ir45 : isRef 45 = false := rfl
theorem kp45_6 : keep 45 6 = [(2, []), (3, []), (9, []), (11, []), (17, [])] := rfl
theorem kp45_4 : keep 45 4 = [(2, []), (3, []), (9, []), (10, []), (11, []), (16, [])] := rfl
theorem kp45_2 : keep 45 2 = [(2, []), (3, []), (9, []), (11, []), (15, [])] := rfl
theorem kp45_0 : keep 45 0 = [(2, []), (3, []), (9, []), (10, []), (11, []), (13, [])] := rfl
theorem nt46 : ntmOf E 46 = 37 := rfl
theorem co46 : codOf E 46 = (Tryz.f46.body).getD .skip := rfl
theorem re46 : resOf E 46 = Tryz.f46.results.toList := rfl
theorem rk46 : resK 46 = [some 1] := rfl
theorem ir46 : isRef 46 = false := rfl
theorem kp46_2 : keep 46 2 = [(0, []), (1, []), (5, []), (6, []), (7, []), (8, [])] := rfl
theorem kp46_0 : keep 46 0 = [(0, []), (1, []), (5, [(0, 1, false)]), (6, [])] := rfl
theorem nt47 : ntmOf E 47 = 40 := rfl
theorem co47 : codOf E 47 = (Tryz.f47.body).getD .skip := rfl
theorem re47 : resOf E 47 = Tryz.f47.results.toList := rfl
theorem rk47 : resK 47 = [some 1, none] := rfl
theorem ir47 : isRef 47 = false := rfl
theorem nt48 : ntmOf E 48 = 21 := rfl
theorem co48 : codOf E 48 = (Tryz.f48.body).getD .skip := rfl
theorem re48 : resOf E 48 = Tryz.f48.results.toList := rfl
theorem rk48 : resK 48 = [some 1, none] := rfl
theorem ir48 : isRef 48 = false := rfl
theorem nt49 : ntmOf E 49 = 19 := rfl
theorem co49 : codOf E 49 = (Tryz.f49.body).getD .skip := rfl
theorem re49 : resOf E 49 = Tryz.f49.results.toList := rfl
theorem rk49 : resK 49 = [none] := rfl
theorem ir49 : isRef 49 = false := rfl
theorem kp49_0 : keep 49 0 = [(0, []), (1, []), (7, []), (8, [])] := rfl
theorem nt50 : ntmOf E 50 = 19 := rfl
theorem co50 : codOf E 50 = (Tryz.f50.body).getD .skip := rfl
theorem re50 : resOf E 50 = Tryz.f50.results.toList := rfl
theorem rk50 : resK 50 = [none] := rfl
theorem ir50 : isRef 50 = false := rfl
theorem kp50_0 : keep 50 0 = [(0, []), (1, []), (7, []), (8, [])] := rfl
theorem nt51 : ntmOf E 51 = 37 := rfl
theorem co51 : codOf E 51 = (Tryz.f51.body).getD .skip := rfl
theorem re51 : resOf E 51 = Tryz.f51.results.toList := rfl
theorem rk51 : resK 51 = [some 1, none] := rfl
theorem ir51 : isRef 51 = false := rfl
theorem kp51_0 : keep 51 0 = [(0, []), (1, []), (2, []), (8, [(0, 1, false)]), (9, [])] := rfl
theorem nt52 : ntmOf E 52 = 18 := rfl
theorem co52 : codOf E 52 = (Tryz.f52.body).getD .skip := rfl
theorem re52 : resOf E 52 = Tryz.f52.results.toList := rfl
theorem rk52 : resK 52 = [none] := rfl
theorem ir52 : isRef 52 = false := rfl
theorem kp52_0 : keep 52 0 = [(0, []), (1, []), (5, [])] := rfl
theorem nt53 : ntmOf E 53 = 69 := rfl
theorem co53 : codOf E 53 = (Tryz.f53.body).getD .skip := rfl
theorem re53 : resOf E 53 = Tryz.f53.results.toList := rfl
theorem rk53 : resK 53 = [none] := rfl
theorem ir53 : isRef 53 = false := rfl
theorem kp53_2 : keep 53 2 = [(2, []), (3, []), (39, []), (40, []), (41, [])] := rfl
theorem kp53_0 : keep 53 0 = [(2, []), (3, []), (26, []), (27, []), (28, [])] := rfl
theorem nt54 : ntmOf E 54 = 50 := rfl
theorem co54 : codOf E 54 = (Tryz.f54.body).getD .skip := rfl
theorem re54 : resOf E 54 = Tryz.f54.results.toList := rfl
theorem rk54 : resK 54 = [some 4] := rfl
theorem ir54 : isRef 54 = false := rfl
theorem nt55 : ntmOf E 55 = 69 := rfl
theorem co55 : codOf E 55 = (Tryz.f55.body).getD .skip := rfl
theorem re55 : resOf E 55 = Tryz.f55.results.toList := rfl
theorem rk55 : resK 55 = [none] := rfl
theorem ir55 : isRef 55 = false := rfl
theorem kp55_2 : keep 55 2 = [(2, []), (3, []), (39, []), (40, []), (41, [])] := rfl
theorem kp55_0 : keep 55 0 = [(2, []), (3, []), (26, []), (27, []), (28, [])] := rfl
theorem nt56 : ntmOf E 56 = 14 := rfl
theorem co56 : codOf E 56 = (Tryz.f56.body).getD .skip := rfl
theorem re56 : resOf E 56 = Tryz.f56.results.toList := rfl
theorem rk56 : resK 56 = [none] := rfl
theorem ir56 : isRef 56 = false := rfl
theorem nt57 : ntmOf E 57 = 46 := rfl
theorem co57 : codOf E 57 = (Tryz.f57.body).getD .skip := rfl
theorem re57 : resOf E 57 = Tryz.f57.results.toList := rfl
theorem rk57 : resK 57 = [none] := rfl
theorem ir57 : isRef 57 = false := rfl
theorem kp57_2 : keep 57 2 = [(1, []), (4, [])] := rfl
theorem kp57_0 : keep 57 0 = [(1, []), (3, [])] := rfl
theorem nt58 : ntmOf E 58 = 43 := rfl
theorem co58 : codOf E 58 = (Tryz.f58.body).getD .skip := rfl
theorem re58 : resOf E 58 = Tryz.f58.results.toList := rfl
theorem rk58 : resK 58 = [none] := rfl
theorem ir58 : isRef 58 = false := rfl
theorem nt59 : ntmOf E 59 = 27 := rfl
theorem co59 : codOf E 59 = (Tryz.f59.body).getD .skip := rfl
theorem re59 : resOf E 59 = Tryz.f59.results.toList := rfl
theorem rk59 : resK 59 = [none] := rfl
theorem ir59 : isRef 59 = false := rfl
theorem kp59_0 : keep 59 0 = [(0, []), (1, []), (5, [])] := rfl
theorem nt60 : ntmOf E 60 = 9 := rfl
theorem co60 : codOf E 60 = (Tryz.f60.body).getD .skip := rfl
theorem re60 : resOf E 60 = Tryz.f60.results.toList := rfl
theorem rk60 : resK 60 = [none] := rfl
theorem ir60 : isRef 60 = false := rfl
theorem nt61 : ntmOf E 61 = 9 := rfl
theorem co61 : codOf E 61 = (Tryz.f61.body).getD .skip := rfl
theorem re61 : resOf E 61 = Tryz.f61.results.toList := rfl
theorem rk61 : resK 61 = [none] := rfl
theorem ir61 : isRef 61 = false := rfl
theorem nt62 : ntmOf E 62 = 138 := rfl
theorem co62 : codOf E 62 = (Tryz.f62.body).getD .skip := rfl
theorem re62 : resOf E 62 = Tryz.f62.results.toList := rfl
theorem rk62 : resK 62 = [] := rfl
theorem ir62 : isRef 62 = true := rfl
theorem kp62_2 : keep 62 2 = [(0, []), (5, []), (68, []), (69, []), (70, [])] := rfl
theorem kp62_0 : keep 62 0 = [(0, []), (1, []), (16, [])] := rfl
theorem nt63 : ntmOf E 63 = 65 := rfl
theorem co63 : codOf E 63 = (Tryz.f63.body).getD .skip := rfl
theorem re63 : resOf E 63 = Tryz.f63.results.toList := rfl
theorem rk63 : resK 63 = [some 1, some 1] := rfl
theorem ir63 : isRef 63 = false := rfl
theorem kp63_0 : keep 63 0 = [(0, []), (1, []), (6, [(0, 1, false), (1, 1, false)]), (7, [(0, 1, false), (1, 1, false)]), (8, []), (9, [])] := rfl
theorem nt64 : ntmOf E 64 = 18 := rfl
theorem co64 : codOf E 64 = (Tryz.f64.body).getD .skip := rfl
theorem re64 : resOf E 64 = Tryz.f64.results.toList := rfl
theorem rk64 : resK 64 = [none] := rfl
theorem ir64 : isRef 64 = false := rfl
theorem nt65 : ntmOf E 65 = 14 := rfl
theorem co65 : codOf E 65 = (Tryz.f65.body).getD .skip := rfl
theorem re65 : resOf E 65 = Tryz.f65.results.toList := rfl
theorem rk65 : resK 65 = [none] := rfl
theorem ir65 : isRef 65 = false := rfl
theorem nt66 : ntmOf E 66 = 14 := rfl
theorem co66 : codOf E 66 = (Tryz.f66.body).getD .skip := rfl
theorem re66 : resOf E 66 = Tryz.f66.results.toList := rfl
theorem rk66 : resK 66 = [none] := rfl
theorem ir66 : isRef 66 = false := rfl
theorem nt67 : ntmOf E 67 = 6 := rfl
theorem co67 : codOf E 67 = (Tryz.f67.body).getD .skip := rfl
theorem re67 : resOf E 67 = Tryz.f67.results.toList := rfl
theorem rk67 : resK 67 = [none] := rfl
theorem ir67 : isRef 67 = false := rfl
theorem nt68 : ntmOf E 68 = 95 := rfl
theorem co68 : codOf E 68 = (Tryz.f68.body).getD .skip := rfl
theorem re68 : resOf E 68 = Tryz.f68.results.toList := rfl
theorem rk68 : resK 68 = [none] := rfl
theorem ir68 : isRef 68 = false := rfl
theorem kp68_4 : keep 68 4 = [(7, []), (8, []), (9, [])] := rfl
theorem kp68_2 : keep 68 2 = [(7, []), (8, [])] := rfl
theorem kp68_0 : keep 68 0 = [(1, []), (2, []), (5, []), (6, [])] := rfl
theorem nt69 : ntmOf E 69 = 63 := rfl
theorem co69 : codOf E 69 = (Tryz.f69.body).getD .skip := rfl
theorem re69 : resOf E 69 = Tryz.f69.results.toList := rfl
theorem rk69 : resK 69 = [none] := rfl
theorem ir69 : isRef 69 = false := rfl
theorem kp69_0 : keep 69 0 = [(1, []), (2, []), (5, []), (6, [])] := rfl
theorem nt70 : ntmOf E 70 = 73 := rfl
theorem co70 : codOf E 70 = (Tryz.f70.body).getD .skip := rfl
theorem re70 : resOf E 70 = Tryz.f70.results.toList := rfl
theorem rk70 : resK 70 = [none] := rfl
theorem ir70 : isRef 70 = false := rfl
theorem nt71 : ntmOf E 71 = 23 := rfl
theorem co71 : codOf E 71 = (Tryz.f71.body).getD .skip := rfl
theorem re71 : resOf E 71 = Tryz.f71.results.toList := rfl
theorem rk71 : resK 71 = [some 1, some 1, none] := rfl
theorem ir71 : isRef 71 = false := rfl
theorem nt72 : ntmOf E 72 = 21 := rfl
theorem co72 : codOf E 72 = (Tryz.f72.body).getD .skip := rfl
theorem re72 : resOf E 72 = Tryz.f72.results.toList := rfl
theorem rk72 : resK 72 = [none] := rfl
theorem ir72 : isRef 72 = false := rfl
theorem kp72_0 : keep 72 0 = [(1, []), (2, []), (5, [])] := rfl
theorem nt73 : ntmOf E 73 = 23 := rfl
theorem co73 : codOf E 73 = (Tryz.f73.body).getD .skip := rfl
theorem re73 : resOf E 73 = Tryz.f73.results.toList := rfl
theorem rk73 : resK 73 = [some 1, some 1, none] := rfl
theorem ir73 : isRef 73 = false := rfl
theorem nt74 : ntmOf E 74 = 70 := rfl
theorem co74 : codOf E 74 = (Tryz.f74.body).getD .skip := rfl
theorem re74 : resOf E 74 = Tryz.f74.results.toList := rfl
theorem rk74 : resK 74 = [some 1, some 1, none] := rfl
theorem ir74 : isRef 74 = false := rfl
theorem kp74_2 : keep 74 2 = [(9, []), (14, [(0, 1, false)]), (53, []), (54, [])] := rfl
theorem kp74_0 : keep 74 0 = [(2, []), (9, [(0, 1, false)]), (27, []), (28, []), (29, [])] := rfl
theorem nt75 : ntmOf E 75 = 23 := rfl
theorem co75 : codOf E 75 = (Tryz.f75.body).getD .skip := rfl
theorem re75 : resOf E 75 = Tryz.f75.results.toList := rfl
theorem rk75 : resK 75 = [some 1, none] := rfl
theorem ir75 : isRef 75 = true := rfl
theorem kp75_0 : keep 75 0 = [(6, []), (7, []), (14, []), (15, [])] := rfl
theorem nt76 : ntmOf E 76 = 26 := rfl
theorem co76 : codOf E 76 = (Tryz.f76.body).getD .skip := rfl
theorem re76 : resOf E 76 = Tryz.f76.results.toList := rfl
theorem rk76 : resK 76 = [none] := rfl
theorem ir76 : isRef 76 = true := rfl
theorem kp76_0 : keep 76 0 = [(0, []), (2, []), (3, []), (8, []), (9, []), (10, [])] := rfl
theorem nt77 : ntmOf E 77 = 9 := rfl
theorem co77 : codOf E 77 = (Tryz.f77.body).getD .skip := rfl
theorem re77 : resOf E 77 = Tryz.f77.results.toList := rfl
theorem rk77 : resK 77 = [none] := rfl
theorem ir77 : isRef 77 = false := rfl
theorem nt78 : ntmOf E 78 = 60 := rfl
theorem co78 : codOf E 78 = (Tryz.f78.body).getD .skip := rfl
theorem re78 : resOf E 78 = Tryz.f78.results.toList := rfl
theorem rk78 : resK 78 = [none, none] := rfl
theorem ir78 : isRef 78 = false := rfl
theorem kp78_3 : keep 78 3 = [(1, []), (44, []), (45, []), (46, [])] := rfl
theorem kp78_1 : keep 78 1 = [(1, []), (27, []), (28, []), (29, [])] := rfl
theorem nt79 : ntmOf E 79 = 148 := rfl
theorem co79 : codOf E 79 = (Tryz.f79.body).getD .skip := rfl
theorem re79 : resOf E 79 = Tryz.f79.results.toList := rfl
theorem rk79 : resK 79 = [some 1, none] := rfl
theorem ir79 : isRef 79 = false := rfl
theorem kp79_6 : keep 79 6 = [(2, []), (3, []), (11, []), (123, []), (124, []), (125, [])] := rfl
theorem kp79_4 : keep 79 4 = [(2, []), (3, []), (10, []), (11, []), (104, []), (105, []), (106, [])] := rfl
theorem kp79_2 : keep 79 2 = [(2, []), (3, []), (9, []), (10, []), (11, []), (80, []), (81, []), (82, [])] := rfl
theorem kp79_0 : keep 79 0 = [(2, []), (3, []), (7, []), (9, []), (10, []), (11, []), (51, []), (52, []), (53, [])] := rfl
theorem nt80 : ntmOf E 80 = 25 := rfl
theorem co80 : codOf E 80 = (Tryz.f80.body).getD .skip := rfl
theorem re80 : resOf E 80 = Tryz.f80.results.toList := rfl
theorem rk80 : resK 80 = [none] := rfl
theorem ir80 : isRef 80 = false := rfl
theorem kp80_0 : keep 80 0 = [(0, []), (1, []), (5, []), (6, [])] := rfl
theorem nt81 : ntmOf E 81 = 20 := rfl
theorem co81 : codOf E 81 = (Tryz.f81.body).getD .skip := rfl
theorem re81 : resOf E 81 = Tryz.f81.results.toList := rfl
theorem rk81 : resK 81 = [none] := rfl
theorem ir81 : isRef 81 = false := rfl
theorem nt82 : ntmOf E 82 = 46 := rfl
theorem co82 : codOf E 82 = (Tryz.f82.body).getD .skip := rfl
theorem re82 : resOf E 82 = Tryz.f82.results.toList := rfl
theorem rk82 : resK 82 = [none] := rfl
theorem ir82 : isRef 82 = false := rfl
theorem nt83 : ntmOf E 83 = 8 := rfl
theorem co83 : codOf E 83 = (Tryz.f83.body).getD .skip := rfl
theorem re83 : resOf E 83 = Tryz.f83.results.toList := rfl
theorem rk83 : resK 83 = [some 4] := rfl
theorem ir83 : isRef 83 = false := rfl
theorem nt84 : ntmOf E 84 = 49 := rfl
theorem co84 : codOf E 84 = (Tryz.f84.body).getD .skip := rfl
theorem re84 : resOf E 84 = Tryz.f84.results.toList := rfl
theorem rk84 : resK 84 = [none, none] := rfl
theorem ir84 : isRef 84 = false := rfl
theorem kp84_0 : keep 84 0 = [(0, []), (2, []), (4, []), (8, []), (9, []), (10, [])] := rfl
theorem nt85 : ntmOf E 85 = 22 := rfl
theorem co85 : codOf E 85 = (Tryz.f85.body).getD .skip := rfl
theorem re85 : resOf E 85 = Tryz.f85.results.toList := rfl
theorem rk85 : resK 85 = [none] := rfl
theorem ir85 : isRef 85 = false := rfl
theorem nt86 : ntmOf E 86 = 95 := rfl
theorem co86 : codOf E 86 = (Tryz.f86.body).getD .skip := rfl
theorem re86 : resOf E 86 = Tryz.f86.results.toList := rfl
theorem rk86 : resK 86 = [some 4] := rfl
theorem ir86 : isRef 86 = true := rfl
theorem nt87 : ntmOf E 87 = 33 := rfl
theorem co87 : codOf E 87 = (Tryz.f87.body).getD .skip := rfl
theorem re87 : resOf E 87 = Tryz.f87.results.toList := rfl
theorem rk87 : resK 87 = [some 4] := rfl
theorem ir87 : isRef 87 = false := rfl
theorem nt88 : ntmOf E 88 = 9 := rfl
theorem co88 : codOf E 88 = (Tryz.f88.body).getD .skip := rfl
theorem re88 : resOf E 88 = Tryz.f88.results.toList := rfl
theorem rk88 : resK 88 = [none] := rfl
theorem ir88 : isRef 88 = false := rfl
theorem nt89 : ntmOf E 89 = 9 := rfl
theorem co89 : codOf E 89 = (Tryz.f89.body).getD .skip := rfl
theorem re89 : resOf E 89 = Tryz.f89.results.toList := rfl
theorem rk89 : resK 89 = [none] := rfl
theorem ir89 : isRef 89 = false := rfl
theorem nt90 : ntmOf E 90 = 30 := rfl
theorem co90 : codOf E 90 = (Tryz.f90.body).getD .skip := rfl
theorem re90 : resOf E 90 = Tryz.f90.results.toList := rfl
theorem rk90 : resK 90 = [none] := rfl
theorem ir90 : isRef 90 = false := rfl
theorem nt91 : ntmOf E 91 = 33 := rfl
theorem co91 : codOf E 91 = (Tryz.f91.body).getD .skip := rfl
theorem re91 : resOf E 91 = Tryz.f91.results.toList := rfl
theorem rk91 : resK 91 = [none] := rfl
theorem ir91 : isRef 91 = false := rfl
theorem nt92 : ntmOf E 92 = 15 := rfl
theorem co92 : codOf E 92 = (Tryz.f92.body).getD .skip := rfl
theorem re92 : resOf E 92 = Tryz.f92.results.toList := rfl
theorem rk92 : resK 92 = [none] := rfl
theorem ir92 : isRef 92 = false := rfl
theorem nt93 : ntmOf E 93 = 25 := rfl
theorem co93 : codOf E 93 = (Tryz.f93.body).getD .skip := rfl
theorem re93 : resOf E 93 = Tryz.f93.results.toList := rfl
theorem rk93 : resK 93 = [none] := rfl
theorem ir93 : isRef 93 = false := rfl
theorem nt94 : ntmOf E 94 = 19 := rfl
theorem co94 : codOf E 94 = (Tryz.f94.body).getD .skip := rfl
theorem re94 : resOf E 94 = Tryz.f94.results.toList := rfl
theorem rk94 : resK 94 = [none] := rfl
theorem ir94 : isRef 94 = false := rfl
theorem kp94_0 : keep 94 0 = [(0, []), (1, []), (7, []), (8, [])] := rfl
theorem nt95 : ntmOf E 95 = 8 := rfl
theorem co95 : codOf E 95 = (Tryz.f95.body).getD .skip := rfl
theorem re95 : resOf E 95 = Tryz.f95.results.toList := rfl
theorem rk95 : resK 95 = [some 1] := rfl
theorem ir95 : isRef 95 = false := rfl
theorem nt96 : ntmOf E 96 = 18 := rfl
theorem co96 : codOf E 96 = (Tryz.f96.body).getD .skip := rfl
theorem re96 : resOf E 96 = Tryz.f96.results.toList := rfl
theorem rk96 : resK 96 = [none] := rfl
theorem ir96 : isRef 96 = false := rfl
theorem kp96_0 : keep 96 0 = [(0, []), (3, []), (4, [])] := rfl
theorem nt97 : ntmOf E 97 = 36 := rfl
theorem co97 : codOf E 97 = (Tryz.f97.body).getD .skip := rfl
theorem re97 : resOf E 97 = Tryz.f97.results.toList := rfl
theorem rk97 : resK 97 = [none] := rfl
theorem ir97 : isRef 97 = true := rfl
theorem kp97_0 : keep 97 0 = [(0, []), (1, []), (5, [])] := rfl
theorem nt98 : ntmOf E 98 = 13 := rfl
theorem co98 : codOf E 98 = (Tryz.f98.body).getD .skip := rfl
theorem re98 : resOf E 98 = Tryz.f98.results.toList := rfl
theorem rk98 : resK 98 = [none] := rfl
theorem ir98 : isRef 98 = false := rfl
theorem nt99 : ntmOf E 99 = 37 := rfl
theorem co99 : codOf E 99 = (Tryz.f99.body).getD .skip := rfl
theorem re99 : resOf E 99 = Tryz.f99.results.toList := rfl
theorem rk99 : resK 99 = [none] := rfl
theorem ir99 : isRef 99 = false := rfl
theorem kp99_0 : keep 99 0 = [(1, []), (2, []), (5, [])] := rfl
theorem nt100 : ntmOf E 100 = 6 := rfl
theorem co100 : codOf E 100 = (Tryz.f100.body).getD .skip := rfl
theorem re100 : resOf E 100 = Tryz.f100.results.toList := rfl
theorem rk100 : resK 100 = [none] := rfl
theorem ir100 : isRef 100 = false := rfl
theorem nt101 : ntmOf E 101 = 24 := rfl
theorem co101 : codOf E 101 = (Tryz.f101.body).getD .skip := rfl
theorem re101 : resOf E 101 = Tryz.f101.results.toList := rfl
theorem rk101 : resK 101 = [some 4] := rfl
theorem ir101 : isRef 101 = false := rfl
theorem nt102 : ntmOf E 102 = 38 := rfl
theorem co102 : codOf E 102 = (Tryz.f102.body).getD .skip := rfl
theorem re102 : resOf E 102 = Tryz.f102.results.toList := rfl
theorem rk102 : resK 102 = [none] := rfl
theorem ir102 : isRef 102 = false := rfl
theorem nt103 : ntmOf E 103 = 16 := rfl
theorem co103 : codOf E 103 = (Tryz.f103.body).getD .skip := rfl
theorem re103 : resOf E 103 = Tryz.f103.results.toList := rfl
theorem rk103 : resK 103 = [none] := rfl
theorem ir103 : isRef 103 = false := rfl
theorem nt104 : ntmOf E 104 = 114 := rfl
theorem co104 : codOf E 104 = (Tryz.f104.body).getD .skip := rfl
theorem re104 : resOf E 104 = Tryz.f104.results.toList := rfl
theorem rk104 : resK 104 = [none] := rfl
theorem ir104 : isRef 104 = false := rfl
theorem kp104_2 : keep 104 2 = [(3, []), (13, [])] := rfl
theorem kp104_0 : keep 104 0 = [(2, []), (3, []), (8, [])] := rfl
theorem nt105 : ntmOf E 105 = 56 := rfl
theorem co105 : codOf E 105 = (Tryz.f105.body).getD .skip := rfl
theorem re105 : resOf E 105 = Tryz.f105.results.toList := rfl
theorem rk105 : resK 105 = [none] := rfl
theorem ir105 : isRef 105 = false := rfl
theorem kp105_0 : keep 105 0 = [(2, []), (3, []), (6, [])] := rfl
theorem nt106 : ntmOf E 106 = 33 := rfl
theorem co106 : codOf E 106 = (Tryz.f106.body).getD .skip := rfl
theorem re106 : resOf E 106 = Tryz.f106.results.toList := rfl
theorem rk106 : resK 106 = [none] := rfl
theorem ir106 : isRef 106 = false := rfl
theorem nt107 : ntmOf E 107 = 25 := rfl
theorem co107 : codOf E 107 = (Tryz.f107.body).getD .skip := rfl
theorem re107 : resOf E 107 = Tryz.f107.results.toList := rfl
theorem rk107 : resK 107 = [none] := rfl
theorem ir107 : isRef 107 = false := rfl
theorem kp107_2 : keep 107 2 = [(0, []), (3, []), (4, [])] := rfl
theorem kp107_0 : keep 107 0 = [(0, []), (3, [])] := rfl
theorem nt108 : ntmOf E 108 = 22 := rfl
theorem co108 : codOf E 108 = (Tryz.f108.body).getD .skip := rfl
theorem re108 : resOf E 108 = Tryz.f108.results.toList := rfl
theorem rk108 : resK 108 = [some 1, some 1] := rfl
theorem ir108 : isRef 108 = false := rfl
theorem nt109 : ntmOf E 109 = 62 := rfl
theorem co109 : codOf E 109 = (Tryz.f109.body).getD .skip := rfl
theorem re109 : resOf E 109 = Tryz.f109.results.toList := rfl
theorem rk109 : resK 109 = [none] := rfl
theorem ir109 : isRef 109 = false := rfl
theorem kp109_2 : keep 109 2 = [(3, []), (4, []), (5, []), (10, [])] := rfl
theorem kp109_0 : keep 109 0 = [(2, []), (3, []), (4, []), (5, []), (9, [])] := rfl
theorem nt110 : ntmOf E 110 = 24 := rfl
theorem co110 : codOf E 110 = (Tryz.f110.body).getD .skip := rfl
theorem re110 : resOf E 110 = Tryz.f110.results.toList := rfl
theorem rk110 : resK 110 = [none] := rfl
theorem ir110 : isRef 110 = false := rfl
theorem nt111 : ntmOf E 111 = 22 := rfl
theorem co111 : codOf E 111 = (Tryz.f111.body).getD .skip := rfl
theorem re111 : resOf E 111 = Tryz.f111.results.toList := rfl
theorem rk111 : resK 111 = [some 1, some 1] := rfl
theorem ir111 : isRef 111 = false := rfl
theorem nt112 : ntmOf E 112 = 9 := rfl
theorem co112 : codOf E 112 = (Tryz.f112.body).getD .skip := rfl
theorem re112 : resOf E 112 = Tryz.f112.results.toList := rfl
theorem rk112 : resK 112 = [none] := rfl
theorem ir112 : isRef 112 = false := rfl
theorem nt113 : ntmOf E 113 = 45 := rfl
theorem co113 : codOf E 113 = (Tryz.f113.body).getD .skip := rfl
theorem re113 : resOf E 113 = Tryz.f113.results.toList := rfl
theorem rk113 : resK 113 = [none] := rfl
theorem ir113 : isRef 113 = true := rfl
theorem kp113_0 : keep 113 0 = [(0, []), (1, []), (4, []), (5, []), (9, [])] := rfl
theorem nt114 : ntmOf E 114 = 8 := rfl
theorem co114 : codOf E 114 = (Tryz.f114.body).getD .skip := rfl
theorem re114 : resOf E 114 = Tryz.f114.results.toList := rfl
theorem rk114 : resK 114 = [none] := rfl
theorem ir114 : isRef 114 = false := rfl
theorem nt115 : ntmOf E 115 = 25 := rfl
theorem co115 : codOf E 115 = (Tryz.f115.body).getD .skip := rfl
theorem re115 : resOf E 115 = Tryz.f115.results.toList := rfl
theorem rk115 : resK 115 = [none] := rfl
theorem ir115 : isRef 115 = false := rfl
theorem kp115_0 : keep 115 0 = [(0, []), (1, []), (5, []), (8, []), (9, [])] := rfl
theorem nt116 : ntmOf E 116 = 70 := rfl
theorem co116 : codOf E 116 = (Tryz.f116.body).getD .skip := rfl
theorem re116 : resOf E 116 = Tryz.f116.results.toList := rfl
theorem rk116 : resK 116 = [none] := rfl
theorem ir116 : isRef 116 = false := rfl
theorem kp116_1 : keep 116 1 = [(6, []), (7, [])] := rfl
theorem nt117 : ntmOf E 117 = 52 := rfl
theorem co117 : codOf E 117 = (Tryz.f117.body).getD .skip := rfl
theorem re117 : resOf E 117 = Tryz.f117.results.toList := rfl
theorem rk117 : resK 117 = [none] := rfl
theorem ir117 : isRef 117 = false := rfl
theorem nt118 : ntmOf E 118 = 23 := rfl
theorem co118 : codOf E 118 = (Tryz.f118.body).getD .skip := rfl
theorem re118 : resOf E 118 = Tryz.f118.results.toList := rfl
theorem rk118 : resK 118 = [some 1, some 1, none] := rfl
theorem ir118 : isRef 118 = false := rfl
theorem nt119 : ntmOf E 119 = 23 := rfl
theorem co119 : codOf E 119 = (Tryz.f119.body).getD .skip := rfl
theorem re119 : resOf E 119 = Tryz.f119.results.toList := rfl
theorem rk119 : resK 119 = [some 1, some 1, none] := rfl
theorem ir119 : isRef 119 = false := rfl
theorem nt120 : ntmOf E 120 = 32 := rfl
theorem co120 : codOf E 120 = (Tryz.f120.body).getD .skip := rfl
theorem re120 : resOf E 120 = Tryz.f120.results.toList := rfl
theorem rk120 : resK 120 = [some 1, none] := rfl
theorem ir120 : isRef 120 = false := rfl
theorem kp120_0 : keep 120 0 = [(1, []), (2, []), (7, [(0, 1, false)]), (18, []), (19, [])] := rfl
theorem nt121 : ntmOf E 121 = 6 := rfl
theorem co121 : codOf E 121 = (Tryz.f121.body).getD .skip := rfl
theorem re121 : resOf E 121 = Tryz.f121.results.toList := rfl
theorem rk121 : resK 121 = [none] := rfl
theorem ir121 : isRef 121 = false := rfl
theorem nt122 : ntmOf E 122 = 12 := rfl
theorem co122 : codOf E 122 = (Tryz.f122.body).getD .skip := rfl
theorem re122 : resOf E 122 = Tryz.f122.results.toList := rfl
theorem rk122 : resK 122 = [none] := rfl
theorem ir122 : isRef 122 = false := rfl
theorem nt123 : ntmOf E 123 = 9 := rfl
theorem co123 : codOf E 123 = (Tryz.f123.body).getD .skip := rfl
theorem re123 : resOf E 123 = Tryz.f123.results.toList := rfl
theorem rk123 : resK 123 = [none] := rfl
theorem ir123 : isRef 123 = false := rfl
theorem nt124 : ntmOf E 124 = 10 := rfl
theorem co124 : codOf E 124 = (Tryz.f124.body).getD .skip := rfl
theorem re124 : resOf E 124 = Tryz.f124.results.toList := rfl
theorem rk124 : resK 124 = [none] := rfl
theorem ir124 : isRef 124 = false := rfl
theorem nt125 : ntmOf E 125 = 22 := rfl
theorem co125 : codOf E 125 = (Tryz.f125.body).getD .skip := rfl
theorem re125 : resOf E 125 = Tryz.f125.results.toList := rfl
theorem rk125 : resK 125 = [none] := rfl
theorem ir125 : isRef 125 = false := rfl
theorem nt126 : ntmOf E 126 = 18 := rfl
theorem co126 : codOf E 126 = (Tryz.f126.body).getD .skip := rfl
theorem re126 : resOf E 126 = Tryz.f126.results.toList := rfl
theorem rk126 : resK 126 = [none] := rfl
theorem ir126 : isRef 126 = false := rfl
theorem nt127 : ntmOf E 127 = 12 := rfl
theorem co127 : codOf E 127 = (Tryz.f127.body).getD .skip := rfl
theorem re127 : resOf E 127 = Tryz.f127.results.toList := rfl
theorem rk127 : resK 127 = [none] := rfl
theorem ir127 : isRef 127 = false := rfl
theorem nt128 : ntmOf E 128 = 18 := rfl
theorem co128 : codOf E 128 = (Tryz.f128.body).getD .skip := rfl
theorem re128 : resOf E 128 = Tryz.f128.results.toList := rfl
theorem rk128 : resK 128 = [none] := rfl
theorem ir128 : isRef 128 = false := rfl
theorem kp128_0 : keep 128 0 = [(3, []), (6, []), (7, []), (8, [])] := rfl
theorem nt130 : ntmOf E 130 = 10 := rfl
theorem co130 : codOf E 130 = (Tryz.f130.body).getD .skip := rfl
theorem re130 : resOf E 130 = Tryz.f130.results.toList := rfl
theorem rk130 : resK 130 = [] := rfl
theorem ir130 : isRef 130 = false := rfl
theorem nt131 : ntmOf E 131 = 32 := rfl
theorem co131 : codOf E 131 = (Tryz.f131.body).getD .skip := rfl
theorem re131 : resOf E 131 = Tryz.f131.results.toList := rfl
theorem rk131 : resK 131 = [none] := rfl
theorem ir131 : isRef 131 = false := rfl
theorem nt132 : ntmOf E 132 = 34 := rfl
theorem co132 : codOf E 132 = (Tryz.f132.body).getD .skip := rfl
theorem re132 : resOf E 132 = Tryz.f132.results.toList := rfl
theorem rk132 : resK 132 = [none] := rfl
theorem ir132 : isRef 132 = false := rfl
theorem kp132_2 : keep 132 2 = [(0, []), (3, []), (4, [])] := rfl
theorem kp132_0 : keep 132 0 = [(0, []), (3, [])] := rfl
theorem nt133 : ntmOf E 133 = 57 := rfl
theorem co133 : codOf E 133 = (Tryz.f133.body).getD .skip := rfl
theorem re133 : resOf E 133 = Tryz.f133.results.toList := rfl
theorem rk133 : resK 133 = [none] := rfl
theorem ir133 : isRef 133 = false := rfl
theorem kp133_2 : keep 133 2 = [(2, []), (3, []), (6, [])] := rfl
theorem kp133_0 : keep 133 0 = [(2, []), (3, []), (5, [])] := rfl
theorem nt134 : ntmOf E 134 = 51 := rfl
theorem co134 : codOf E 134 = (Tryz.f134.body).getD .skip := rfl
theorem re134 : resOf E 134 = Tryz.f134.results.toList := rfl
theorem rk134 : resK 134 = [none, none, none, none, none] := rfl
theorem ir134 : isRef 134 = false := rfl
theorem nt135 : ntmOf E 135 = 9 := rfl
theorem co135 : codOf E 135 = (Tryz.f135.body).getD .skip := rfl
theorem re135 : resOf E 135 = Tryz.f135.results.toList := rfl
theorem rk135 : resK 135 = [none] := rfl
theorem ir135 : isRef 135 = false := rfl
theorem nt136 : ntmOf E 136 = 31 := rfl
theorem co136 : codOf E 136 = (Tryz.f136.body).getD .skip := rfl
theorem re136 : resOf E 136 = Tryz.f136.results.toList := rfl
theorem rk136 : resK 136 = [none] := rfl
theorem ir136 : isRef 136 = false := rfl
theorem kp136_0 : keep 136 0 = [(0, []), (1, []), (5, [])] := rfl
theorem nt137 : ntmOf E 137 = 22 := rfl
theorem co137 : codOf E 137 = (Tryz.f137.body).getD .skip := rfl
theorem re137 : resOf E 137 = Tryz.f137.results.toList := rfl
theorem rk137 : resK 137 = [none] := rfl
theorem ir137 : isRef 137 = false := rfl
theorem kp137_0 : keep 137 0 = [(1, []), (2, []), (5, [])] := rfl
theorem nt138 : ntmOf E 138 = 101 := rfl
theorem co138 : codOf E 138 = (Tryz.f138.body).getD .skip := rfl
theorem re138 : resOf E 138 = Tryz.f138.results.toList := rfl
theorem rk138 : resK 138 = [none] := rfl
theorem ir138 : isRef 138 = false := rfl
theorem kp138_0 : keep 138 0 = [(2, []), (4, []), (7, []), (10, [])] := rfl
theorem nt139 : ntmOf E 139 = 14 := rfl
theorem co139 : codOf E 139 = (Tryz.f139.body).getD .skip := rfl
theorem re139 : resOf E 139 = Tryz.f139.results.toList := rfl
theorem rk139 : resK 139 = [none] := rfl
theorem ir139 : isRef 139 = false := rfl
theorem nt140 : ntmOf E 140 = 85 := rfl
theorem co140 : codOf E 140 = (Tryz.f140.body).getD .skip := rfl
theorem re140 : resOf E 140 = Tryz.f140.results.toList := rfl
theorem rk140 : resK 140 = [some 1, some 3, some 1, some 1, none] := rfl
theorem ir140 : isRef 140 = false := rfl
theorem kp140_2 : keep 140 2 = [(2, []), (3, []), (4, []), (5, []), (8, [(1, 3, false)]), (10, [])] := rfl
theorem kp140_0 : keep 140 0 = [(2, []), (3, []), (4, []), (5, []), (8, [(0, 1, false)]), (9, [])] := rfl
theorem nt141 : ntmOf E 141 = 141 := rfl
theorem co141 : codOf E 141 = (Tryz.f141.body).getD .skip := rfl
theorem re141 : resOf E 141 = Tryz.f141.results.toList := rfl
theorem rk141 : resK 141 = [none] := rfl
theorem ir141 : isRef 141 = false := rfl
theorem kp141_2 : keep 141 2 = [(3, []), (4, []), (5, []), (10, [])] := rfl
theorem kp141_0 : keep 141 0 = [(3, []), (4, []), (5, []), (9, [])] := rfl
theorem nt142 : ntmOf E 142 = 21 := rfl
theorem co142 : codOf E 142 = (Tryz.f142.body).getD .skip := rfl
theorem re142 : resOf E 142 = Tryz.f142.results.toList := rfl
theorem rk142 : resK 142 = [some 1] := rfl
theorem ir142 : isRef 142 = false := rfl
theorem kp142_0 : keep 142 0 = [(0, []), (1, []), (5, [(0, 1, false)]), (6, [])] := rfl
theorem nt143 : ntmOf E 143 = 19 := rfl
theorem co143 : codOf E 143 = (Tryz.f143.body).getD .skip := rfl
theorem re143 : resOf E 143 = Tryz.f143.results.toList := rfl
theorem rk143 : resK 143 = [none] := rfl
theorem ir143 : isRef 143 = false := rfl
theorem nt144 : ntmOf E 144 = 65 := rfl
theorem co144 : codOf E 144 = (Tryz.f144.body).getD .skip := rfl
theorem re144 : resOf E 144 = Tryz.f144.results.toList := rfl
theorem rk144 : resK 144 = [none] := rfl
theorem ir144 : isRef 144 = false := rfl
theorem kp144_0 : keep 144 0 = [(3, []), (5, []), (7, []), (10, [])] := rfl
theorem nt145 : ntmOf E 145 = 12 := rfl
theorem co145 : codOf E 145 = (Tryz.f145.body).getD .skip := rfl
theorem re145 : resOf E 145 = Tryz.f145.results.toList := rfl
theorem rk145 : resK 145 = [none] := rfl
theorem ir145 : isRef 145 = false := rfl
theorem nt146 : ntmOf E 146 = 9 := rfl
theorem co146 : codOf E 146 = (Tryz.f146.body).getD .skip := rfl
theorem re146 : resOf E 146 = Tryz.f146.results.toList := rfl
theorem rk146 : resK 146 = [none] := rfl
theorem ir146 : isRef 146 = false := rfl
theorem nt147 : ntmOf E 147 = 9 := rfl
theorem co147 : codOf E 147 = (Tryz.f147.body).getD .skip := rfl
theorem re147 : resOf E 147 = Tryz.f147.results.toList := rfl
theorem rk147 : resK 147 = [none] := rfl
theorem ir147 : isRef 147 = false := rfl
theorem nt148 : ntmOf E 148 = 26 := rfl
theorem co148 : codOf E 148 = (Tryz.f148.body).getD .skip := rfl
theorem re148 : resOf E 148 = Tryz.f148.results.toList := rfl
theorem rk148 : resK 148 = [some 4] := rfl
theorem ir148 : isRef 148 = false := rfl
theorem nt149 : ntmOf E 149 = 55 := rfl
theorem co149 : codOf E 149 = (Tryz.f149.body).getD .skip := rfl
theorem re149 : resOf E 149 = Tryz.f149.results.toList := rfl
theorem rk149 : resK 149 = [none] := rfl
theorem ir149 : isRef 149 = false := rfl
theorem nt150 : ntmOf E 150 = 13 := rfl
theorem co150 : codOf E 150 = (Tryz.f150.body).getD .skip := rfl
theorem re150 : resOf E 150 = Tryz.f150.results.toList := rfl
theorem rk150 : resK 150 = [none] := rfl
theorem ir150 : isRef 150 = false := rfl
theorem nt151 : ntmOf E 151 = 9 := rfl
theorem co151 : codOf E 151 = (Tryz.f151.body).getD .skip := rfl
theorem re151 : resOf E 151 = Tryz.f151.results.toList := rfl
theorem rk151 : resK 151 = [none] := rfl
theorem ir151 : isRef 151 = false := rfl
theorem nt152 : ntmOf E 152 = 9 := rfl
theorem co152 : codOf E 152 = (Tryz.f152.body).getD .skip := rfl
theorem re152 : resOf E 152 = Tryz.f152.results.toList := rfl
theorem rk152 : resK 152 = [none] := rfl
theorem ir152 : isRef 152 = false := rfl
theorem nt153 : ntmOf E 153 = 24 := rfl
theorem co153 : codOf E 153 = (Tryz.f153.body).getD .skip := rfl
theorem re153 : resOf E 153 = Tryz.f153.results.toList := rfl
theorem rk153 : resK 153 = [none] := rfl
theorem ir153 : isRef 153 = false := rfl
theorem nt154 : ntmOf E 154 = 61 := rfl
theorem co154 : codOf E 154 = (Tryz.f154.body).getD .skip := rfl
theorem re154 : resOf E 154 = Tryz.f154.results.toList := rfl
theorem rk154 : resK 154 = [none] := rfl
theorem ir154 : isRef 154 = false := rfl
theorem nt155 : ntmOf E 155 = 22 := rfl
theorem co155 : codOf E 155 = (Tryz.f155.body).getD .skip := rfl
theorem re155 : resOf E 155 = Tryz.f155.results.toList := rfl
theorem rk155 : resK 155 = [some 1, some 1] := rfl
theorem ir155 : isRef 155 = false := rfl
theorem nt156 : ntmOf E 156 = 22 := rfl
theorem co156 : codOf E 156 = (Tryz.f156.body).getD .skip := rfl
theorem re156 : resOf E 156 = Tryz.f156.results.toList := rfl
theorem rk156 : resK 156 = [some 1, some 1] := rfl
theorem ir156 : isRef 156 = false := rfl
theorem nt157 : ntmOf E 157 = 19 := rfl
theorem co157 : codOf E 157 = (Tryz.f157.body).getD .skip := rfl
theorem re157 : resOf E 157 = Tryz.f157.results.toList := rfl
theorem rk157 : resK 157 = [none] := rfl
theorem ir157 : isRef 157 = false := rfl
theorem kp157_0 : keep 157 0 = [(0, []), (1, []), (7, []), (8, [])] := rfl
theorem nt158 : ntmOf E 158 = 13 := rfl
theorem co158 : codOf E 158 = (Tryz.f158.body).getD .skip := rfl
theorem re158 : resOf E 158 = Tryz.f158.results.toList := rfl
theorem rk158 : resK 158 = [none] := rfl
theorem ir158 : isRef 158 = false := rfl
theorem nt159 : ntmOf E 159 = 9 := rfl
theorem co159 : codOf E 159 = (Tryz.f159.body).getD .skip := rfl
theorem re159 : resOf E 159 = Tryz.f159.results.toList := rfl
theorem rk159 : resK 159 = [none] := rfl
theorem ir159 : isRef 159 = false := rfl
theorem nt160 : ntmOf E 160 = 21 := rfl
theorem co160 : codOf E 160 = (Tryz.f160.body).getD .skip := rfl
theorem re160 : resOf E 160 = Tryz.f160.results.toList := rfl
theorem rk160 : resK 160 = [some 1] := rfl
theorem ir160 : isRef 160 = false := rfl
theorem kp160_0 : keep 160 0 = [(1, []), (2, []), (5, [(0, 1, false)])] := rfl
theorem nt161 : ntmOf E 161 = 14 := rfl
theorem co161 : codOf E 161 = (Tryz.f161.body).getD .skip := rfl
theorem re161 : resOf E 161 = Tryz.f161.results.toList := rfl
theorem rk161 : resK 161 = [] := rfl
theorem ir161 : isRef 161 = false := rfl
theorem nt162 : ntmOf E 162 = 12 := rfl
theorem co162 : codOf E 162 = (Tryz.f162.body).getD .skip := rfl
theorem re162 : resOf E 162 = Tryz.f162.results.toList := rfl
theorem rk162 : resK 162 = [none] := rfl
theorem ir162 : isRef 162 = false := rfl
theorem nt163 : ntmOf E 163 = 110 := rfl
theorem co163 : codOf E 163 = (Tryz.f163.body).getD .skip := rfl
theorem re163 : resOf E 163 = Tryz.f163.results.toList := rfl
theorem rk163 : resK 163 = [none, none, none, none, none] := rfl
theorem ir163 : isRef 163 = false := rfl
theorem kp163_0 : keep 163 0 = [(0, []), (1, []), (4, []), (12, []), (13, [])] := rfl
theorem nt164 : ntmOf E 164 = 41 := rfl
theorem co164 : codOf E 164 = (Tryz.f164.body).getD .skip := rfl
theorem re164 : resOf E 164 = Tryz.f164.results.toList := rfl
theorem rk164 : resK 164 = [some 4, none] := rfl
theorem ir164 : isRef 164 = false := rfl
theorem kp164_0 : keep 164 0 = [(7, [(0, 4, false)]), (8, []), (9, [])] := rfl
theorem nt165 : ntmOf E 165 = 25 := rfl
theorem co165 : codOf E 165 = (Tryz.f165.body).getD .skip := rfl
theorem re165 : resOf E 165 = Tryz.f165.results.toList := rfl
theorem rk165 : resK 165 = [none] := rfl
theorem ir165 : isRef 165 = false := rfl
theorem nt166 : ntmOf E 166 = 57 := rfl
theorem co166 : codOf E 166 = (Tryz.f166.body).getD .skip := rfl
theorem re166 : resOf E 166 = Tryz.f166.results.toList := rfl
theorem rk166 : resK 166 = [none] := rfl
theorem ir166 : isRef 166 = false := rfl
theorem kp166_0 : keep 166 0 = [(2, []), (3, []), (7, [])] := rfl
theorem nt167 : ntmOf E 167 = 19 := rfl
theorem co167 : codOf E 167 = (Tryz.f167.body).getD .skip := rfl
theorem re167 : resOf E 167 = Tryz.f167.results.toList := rfl
theorem rk167 : resK 167 = [none] := rfl
theorem ir167 : isRef 167 = false := rfl
theorem kp167_0 : keep 167 0 = [(0, []), (1, []), (5, [])] := rfl
theorem nt168 : ntmOf E 168 = 18 := rfl
theorem co168 : codOf E 168 = (Tryz.f168.body).getD .skip := rfl
theorem re168 : resOf E 168 = Tryz.f168.results.toList := rfl
theorem rk168 : resK 168 = [none] := rfl
theorem ir168 : isRef 168 = false := rfl
theorem kp168_0 : keep 168 0 = [(0, []), (1, []), (5, [])] := rfl
theorem nt169 : ntmOf E 169 = 21 := rfl
theorem co169 : codOf E 169 = (Tryz.f169.body).getD .skip := rfl
theorem re169 : resOf E 169 = Tryz.f169.results.toList := rfl
theorem rk169 : resK 169 = [none] := rfl
theorem ir169 : isRef 169 = false := rfl
theorem kp169_0 : keep 169 0 = [(1, []), (3, [])] := rfl
theorem nt170 : ntmOf E 170 = 38 := rfl
theorem co170 : codOf E 170 = (Tryz.f170.body).getD .skip := rfl
theorem re170 : resOf E 170 = Tryz.f170.results.toList := rfl
theorem rk170 : resK 170 = [none, none] := rfl
theorem ir170 : isRef 170 = false := rfl
theorem kp170_0 : keep 170 0 = [(1, []), (4, []), (5, []), (6, [])] := rfl
theorem nt171 : ntmOf E 171 = 31 := rfl
theorem co171 : codOf E 171 = (Tryz.f171.body).getD .skip := rfl
theorem re171 : resOf E 171 = Tryz.f171.results.toList := rfl
theorem rk171 : resK 171 = [none] := rfl
theorem ir171 : isRef 171 = false := rfl
theorem kp171_0 : keep 171 0 = [(5, []), (7, []), (8, [])] := rfl
theorem nt172 : ntmOf E 172 = 22 := rfl
theorem co172 : codOf E 172 = (Tryz.f172.body).getD .skip := rfl
theorem re172 : resOf E 172 = Tryz.f172.results.toList := rfl
theorem rk172 : resK 172 = [none] := rfl
theorem ir172 : isRef 172 = false := rfl
theorem nt173 : ntmOf E 173 = 39 := rfl
theorem co173 : codOf E 173 = (Tryz.f173.body).getD .skip := rfl
theorem re173 : resOf E 173 = Tryz.f173.results.toList := rfl
theorem rk173 : resK 173 = [none, none] := rfl
theorem ir173 : isRef 173 = false := rfl
theorem nt174 : ntmOf E 174 = 19 := rfl
theorem co174 : codOf E 174 = (Tryz.f174.body).getD .skip := rfl
theorem re174 : resOf E 174 = Tryz.f174.results.toList := rfl
theorem rk174 : resK 174 = [none] := rfl
theorem ir174 : isRef 174 = false := rfl
theorem kp174_0 : keep 174 0 = [(0, []), (1, []), (7, []), (8, [])] := rfl
theorem nt175 : ntmOf E 175 = 9 := rfl
theorem co175 : codOf E 175 = (Tryz.f175.body).getD .skip := rfl
theorem re175 : resOf E 175 = Tryz.f175.results.toList := rfl
theorem rk175 : resK 175 = [none] := rfl
theorem ir175 : isRef 175 = false := rfl
theorem nt176 : ntmOf E 176 = 9 := rfl
theorem co176 : codOf E 176 = (Tryz.f176.body).getD .skip := rfl
theorem re176 : resOf E 176 = Tryz.f176.results.toList := rfl
theorem rk176 : resK 176 = [none] := rfl
theorem ir176 : isRef 176 = false := rfl
theorem nt177 : ntmOf E 177 = 26 := rfl
theorem co177 : codOf E 177 = (Tryz.f177.body).getD .skip := rfl
theorem re177 : resOf E 177 = Tryz.f177.results.toList := rfl
theorem rk177 : resK 177 = [none] := rfl
theorem ir177 : isRef 177 = false := rfl
theorem kp177_0 : keep 177 0 = [(0, []), (8, []), (9, []), (10, [])] := rfl
theorem nt178 : ntmOf E 178 = 19 := rfl
theorem co178 : codOf E 178 = (Tryz.f178.body).getD .skip := rfl
theorem re178 : resOf E 178 = Tryz.f178.results.toList := rfl
theorem rk178 : resK 178 = [none] := rfl
theorem ir178 : isRef 178 = false := rfl
theorem kp178_0 : keep 178 0 = [(0, []), (1, []), (7, []), (8, [])] := rfl
theorem nt179 : ntmOf E 179 = 110 := rfl
theorem co179 : codOf E 179 = (Tryz.f179.body).getD .skip := rfl
theorem re179 : resOf E 179 = Tryz.f179.results.toList := rfl
theorem rk179 : resK 179 = [none] := rfl
theorem ir179 : isRef 179 = false := rfl
theorem kp179_0 : keep 179 0 = [(2, []), (3, []), (8, []), (58, []), (59, []), (60, [])] := rfl
theorem nt180 : ntmOf E 180 = 58 := rfl
theorem co180 : codOf E 180 = (Tryz.f180.body).getD .skip := rfl
theorem re180 : resOf E 180 = Tryz.f180.results.toList := rfl
theorem rk180 : resK 180 = [none] := rfl
theorem ir180 : isRef 180 = false := rfl
theorem kp180_1 : keep 180 1 = [(2, []), (3, []), (46, []), (47, [])] := rfl
theorem nt181 : ntmOf E 181 = 38 := rfl
theorem co181 : codOf E 181 = (Tryz.f181.body).getD .skip := rfl
theorem re181 : resOf E 181 = Tryz.f181.results.toList := rfl
theorem rk181 : resK 181 = [none] := rfl
theorem ir181 : isRef 181 = false := rfl
theorem nt182 : ntmOf E 182 = 19 := rfl
theorem co182 : codOf E 182 = (Tryz.f182.body).getD .skip := rfl
theorem re182 : resOf E 182 = Tryz.f182.results.toList := rfl
theorem rk182 : resK 182 = [none] := rfl
theorem ir182 : isRef 182 = false := rfl
theorem nt183 : ntmOf E 183 = 24 := rfl
theorem co183 : codOf E 183 = (Tryz.f183.body).getD .skip := rfl
theorem re183 : resOf E 183 = Tryz.f183.results.toList := rfl
theorem rk183 : resK 183 = [none] := rfl
theorem ir183 : isRef 183 = false := rfl
theorem nt184 : ntmOf E 184 = 21 := rfl
theorem co184 : codOf E 184 = (Tryz.f184.body).getD .skip := rfl
theorem re184 : resOf E 184 = Tryz.f184.results.toList := rfl
theorem rk184 : resK 184 = [some 1] := rfl
theorem ir184 : isRef 184 = false := rfl
theorem kp184_0 : keep 184 0 = [(0, []), (5, [(0, 1, false)]), (7, []), (8, [])] := rfl
theorem nt185 : ntmOf E 185 = 19 := rfl
theorem co185 : codOf E 185 = (Tryz.f185.body).getD .skip := rfl
theorem re185 : resOf E 185 = Tryz.f185.results.toList := rfl
theorem rk185 : resK 185 = [none] := rfl
theorem ir185 : isRef 185 = false := rfl
theorem kp185_0 : keep 185 0 = [(0, []), (1, []), (7, []), (8, [])] := rfl
theorem nt186 : ntmOf E 186 = 28 := rfl
theorem co186 : codOf E 186 = (Tryz.f186.body).getD .skip := rfl
theorem re186 : resOf E 186 = Tryz.f186.results.toList := rfl
theorem rk186 : resK 186 = [] := rfl
theorem ir186 : isRef 186 = true := rfl
theorem kp186_0 : keep 186 0 = [(0, []), (2, []), (3, [])] := rfl
theorem nt187 : ntmOf E 187 = 28 := rfl
theorem co187 : codOf E 187 = (Tryz.f187.body).getD .skip := rfl
theorem re187 : resOf E 187 = Tryz.f187.results.toList := rfl
theorem rk187 : resK 187 = [] := rfl
theorem ir187 : isRef 187 = true := rfl
theorem kp187_0 : keep 187 0 = [(0, []), (2, []), (3, [])] := rfl
theorem nt188 : ntmOf E 188 = 17 := rfl
theorem co188 : codOf E 188 = (Tryz.f188.body).getD .skip := rfl
theorem re188 : resOf E 188 = Tryz.f188.results.toList := rfl
theorem rk188 : resK 188 = [none] := rfl
theorem ir188 : isRef 188 = false := rfl
theorem nt189 : ntmOf E 189 = 9 := rfl
theorem co189 : codOf E 189 = (Tryz.f189.body).getD .skip := rfl
theorem re189 : resOf E 189 = Tryz.f189.results.toList := rfl
theorem rk189 : resK 189 = [none] := rfl
theorem ir189 : isRef 189 = false := rfl
theorem nt190 : ntmOf E 190 = 45 := rfl
theorem co190 : codOf E 190 = (Tryz.f190.body).getD .skip := rfl
theorem re190 : resOf E 190 = Tryz.f190.results.toList := rfl
theorem rk190 : resK 190 = [none] := rfl
theorem ir190 : isRef 190 = false := rfl
theorem kp190_0 : keep 190 0 = [(0, []), (1, []), (2, []), (7, [])] := rfl
theorem nt191 : ntmOf E 191 = 30 := rfl
theorem co191 : codOf E 191 = (Tryz.f191.body).getD .skip := rfl
theorem re191 : resOf E 191 = Tryz.f191.results.toList := rfl
theorem rk191 : resK 191 = [none] := rfl
theorem ir191 : isRef 191 = false := rfl
theorem kp191_0 : keep 191 0 = [(0, []), (1, []), (5, [])] := rfl
theorem nt192 : ntmOf E 192 = 2 := rfl
theorem co192 : codOf E 192 = (Tryz.f192.body).getD .skip := rfl
theorem re192 : resOf E 192 = Tryz.f192.results.toList := rfl
theorem rk192 : resK 192 = [some 1] := rfl
theorem ir192 : isRef 192 = false := rfl
theorem nt193 : ntmOf E 193 = 24 := rfl
theorem co193 : codOf E 193 = (Tryz.f193.body).getD .skip := rfl
theorem re193 : resOf E 193 = Tryz.f193.results.toList := rfl
theorem rk193 : resK 193 = [none] := rfl
theorem ir193 : isRef 193 = false := rfl
theorem nt194 : ntmOf E 194 = 39 := rfl
theorem co194 : codOf E 194 = (Tryz.f194.body).getD .skip := rfl
theorem re194 : resOf E 194 = Tryz.f194.results.toList := rfl
theorem rk194 : resK 194 = [none] := rfl
theorem ir194 : isRef 194 = false := rfl
theorem kp194_0 : keep 194 0 = [(0, []), (1, []), (5, [])] := rfl
theorem nt195 : ntmOf E 195 = 18 := rfl
theorem co195 : codOf E 195 = (Tryz.f195.body).getD .skip := rfl
theorem re195 : resOf E 195 = Tryz.f195.results.toList := rfl
theorem rk195 : resK 195 = [none] := rfl
theorem ir195 : isRef 195 = false := rfl
theorem kp195_0 : keep 195 0 = [(0, []), (1, []), (5, [])] := rfl
theorem nt196 : ntmOf E 196 = 42 := rfl
theorem co196 : codOf E 196 = (Tryz.f196.body).getD .skip := rfl
theorem re196 : resOf E 196 = Tryz.f196.results.toList := rfl
theorem rk196 : resK 196 = [none] := rfl
theorem ir196 : isRef 196 = false := rfl
theorem nt197 : ntmOf E 197 = 22 := rfl
theorem co197 : codOf E 197 = (Tryz.f197.body).getD .skip := rfl
theorem re197 : resOf E 197 = Tryz.f197.results.toList := rfl
theorem rk197 : resK 197 = [none] := rfl
theorem ir197 : isRef 197 = false := rfl
theorem kp197_0 : keep 197 0 = [(1, []), (2, []), (5, [])] := rfl
theorem nt198 : ntmOf E 198 = 45 := rfl
theorem co198 : codOf E 198 = (Tryz.f198.body).getD .skip := rfl
theorem re198 : resOf E 198 = Tryz.f198.results.toList := rfl
theorem rk198 : resK 198 = [none, none, none] := rfl
theorem ir198 : isRef 198 = false := rfl
theorem nt199 : ntmOf E 199 = 19 := rfl
theorem co199 : codOf E 199 = (Tryz.f199.body).getD .skip := rfl
theorem re199 : resOf E 199 = Tryz.f199.results.toList := rfl
theorem rk199 : resK 199 = [none] := rfl
theorem ir199 : isRef 199 = false := rfl
theorem kp199_0 : keep 199 0 = [(0, []), (1, []), (7, []), (8, [])] := rfl
theorem nt200 : ntmOf E 200 = 9 := rfl
theorem co200 : codOf E 200 = (Tryz.f200.body).getD .skip := rfl
theorem re200 : resOf E 200 = Tryz.f200.results.toList := rfl
theorem rk200 : resK 200 = [none] := rfl
theorem ir200 : isRef 200 = false := rfl
theorem nt201 : ntmOf E 201 = 9 := rfl
theorem co201 : codOf E 201 = (Tryz.f201.body).getD .skip := rfl
theorem re201 : resOf E 201 = Tryz.f201.results.toList := rfl
theorem rk201 : resK 201 = [none] := rfl
theorem ir201 : isRef 201 = false := rfl
theorem nt202 : ntmOf E 202 = 10 := rfl
theorem co202 : codOf E 202 = (Tryz.f202.body).getD .skip := rfl
theorem re202 : resOf E 202 = Tryz.f202.results.toList := rfl
theorem rk202 : resK 202 = [none] := rfl
theorem ir202 : isRef 202 = false := rfl
theorem nt203 : ntmOf E 203 = 15 := rfl
theorem co203 : codOf E 203 = (Tryz.f203.body).getD .skip := rfl
theorem re203 : resOf E 203 = Tryz.f203.results.toList := rfl
theorem rk203 : resK 203 = [none] := rfl
theorem ir203 : isRef 203 = false := rfl
theorem nt204 : ntmOf E 204 = 45 := rfl
theorem co204 : codOf E 204 = (Tryz.f204.body).getD .skip := rfl
theorem re204 : resOf E 204 = Tryz.f204.results.toList := rfl
theorem rk204 : resK 204 = [none, none, none, none, none] := rfl
theorem ir204 : isRef 204 = false := rfl
theorem nt205 : ntmOf E 205 = 30 := rfl
theorem co205 : codOf E 205 = (Tryz.f205.body).getD .skip := rfl
theorem re205 : resOf E 205 = Tryz.f205.results.toList := rfl
theorem rk205 : resK 205 = [none] := rfl
theorem ir205 : isRef 205 = false := rfl
theorem kp205_0 : keep 205 0 = [(0, []), (17, []), (18, []), (19, [])] := rfl
theorem nt206 : ntmOf E 206 = 17 := rfl
theorem co206 : codOf E 206 = (Tryz.f206.body).getD .skip := rfl
theorem re206 : resOf E 206 = Tryz.f206.results.toList := rfl
theorem rk206 : resK 206 = [none] := rfl
theorem ir206 : isRef 206 = false := rfl
theorem nt207 : ntmOf E 207 = 85 := rfl
theorem co207 : codOf E 207 = (Tryz.f207.body).getD .skip := rfl
theorem re207 : resOf E 207 = Tryz.f207.results.toList := rfl
theorem rk207 : resK 207 = [none] := rfl
theorem ir207 : isRef 207 = false := rfl
theorem nt208 : ntmOf E 208 = 85 := rfl
theorem co208 : codOf E 208 = (Tryz.f208.body).getD .skip := rfl
theorem re208 : resOf E 208 = Tryz.f208.results.toList := rfl
theorem rk208 : resK 208 = [some 1, some 3, some 1, some 1, none] := rfl
theorem ir208 : isRef 208 = false := rfl
theorem kp208_2 : keep 208 2 = [(2, []), (3, []), (4, []), (5, []), (8, [(1, 3, false)]), (41, []), (42, []), (43, [])] := rfl
theorem kp208_0 : keep 208 0 = [(2, []), (3, []), (4, []), (5, []), (8, [(0, 1, false)]), (23, []), (24, []), (25, [])] := rfl
theorem nt209 : ntmOf E 209 = 123 := rfl
theorem co209 : codOf E 209 = (Tryz.f209.body).getD .skip := rfl
theorem re209 : resOf E 209 = Tryz.f209.results.toList := rfl
theorem rk209 : resK 209 = [none] := rfl
theorem ir209 : isRef 209 = false := rfl
theorem kp209_2 : keep 209 2 = [(3, []), (4, []), (5, []), (71, []), (72, []), (73, [])] := rfl
theorem kp209_0 : keep 209 0 = [(3, []), (4, []), (5, []), (42, []), (43, []), (44, [])] := rfl
theorem nt210 : ntmOf E 210 = 30 := rfl
theorem co210 : codOf E 210 = (Tryz.f210.body).getD .skip := rfl
theorem re210 : resOf E 210 = Tryz.f210.results.toList := rfl
theorem rk210 : resK 210 = [none] := rfl
theorem ir210 : isRef 210 = false := rfl
theorem nt211 : ntmOf E 211 = 15 := rfl
theorem co211 : codOf E 211 = (Tryz.f211.body).getD .skip := rfl
theorem re211 : resOf E 211 = Tryz.f211.results.toList := rfl
theorem rk211 : resK 211 = [none] := rfl
theorem ir211 : isRef 211 = false := rfl
theorem nt212 : ntmOf E 212 = 28 := rfl
theorem co212 : codOf E 212 = (Tryz.f212.body).getD .skip := rfl
theorem re212 : resOf E 212 = Tryz.f212.results.toList := rfl
theorem rk212 : resK 212 = [none] := rfl
theorem ir212 : isRef 212 = false := rfl
theorem nt213 : ntmOf E 213 = 19 := rfl
theorem co213 : codOf E 213 = (Tryz.f213.body).getD .skip := rfl
theorem re213 : resOf E 213 = Tryz.f213.results.toList := rfl
theorem rk213 : resK 213 = [none] := rfl
theorem ir213 : isRef 213 = false := rfl
theorem nt214 : ntmOf E 214 = 65 := rfl
theorem co214 : codOf E 214 = (Tryz.f214.body).getD .skip := rfl
theorem re214 : resOf E 214 = Tryz.f214.results.toList := rfl
theorem rk214 : resK 214 = [none] := rfl
theorem ir214 : isRef 214 = false := rfl
theorem kp214_0 : keep 214 0 = [(3, []), (4, []), (51, []), (52, []), (53, [])] := rfl
theorem nt215 : ntmOf E 215 = 45 := rfl
theorem co215 : codOf E 215 = (Tryz.f215.body).getD .skip := rfl
theorem re215 : resOf E 215 = Tryz.f215.results.toList := rfl
theorem rk215 : resK 215 = [none] := rfl
theorem ir215 : isRef 215 = false := rfl
theorem nt216 : ntmOf E 216 = 17 := rfl
theorem co216 : codOf E 216 = (Tryz.f216.body).getD .skip := rfl
theorem re216 : resOf E 216 = Tryz.f216.results.toList := rfl
theorem rk216 : resK 216 = [none] := rfl
theorem ir216 : isRef 216 = false := rfl
theorem nt217 : ntmOf E 217 = 20 := rfl
theorem co217 : codOf E 217 = (Tryz.f217.body).getD .skip := rfl
theorem re217 : resOf E 217 = Tryz.f217.results.toList := rfl
theorem rk217 : resK 217 = [none] := rfl
theorem ir217 : isRef 217 = false := rfl
theorem kp217_0 : keep 217 0 = [(0, []), (1, []), (5, [])] := rfl
theorem nt218 : ntmOf E 218 = 13 := rfl
theorem co218 : codOf E 218 = (Tryz.f218.body).getD .skip := rfl
theorem re218 : resOf E 218 = Tryz.f218.results.toList := rfl
theorem rk218 : resK 218 = [none] := rfl
theorem ir218 : isRef 218 = false := rfl
theorem nt219 : ntmOf E 219 = 9 := rfl
theorem co219 : codOf E 219 = (Tryz.f219.body).getD .skip := rfl
theorem re219 : resOf E 219 = Tryz.f219.results.toList := rfl
theorem rk219 : resK 219 = [none] := rfl
theorem ir219 : isRef 219 = false := rfl
theorem nt220 : ntmOf E 220 = 24 := rfl
theorem co220 : codOf E 220 = (Tryz.f220.body).getD .skip := rfl
theorem re220 : resOf E 220 = Tryz.f220.results.toList := rfl
theorem rk220 : resK 220 = [none, none] := rfl
theorem ir220 : isRef 220 = false := rfl
theorem nt221 : ntmOf E 221 = 12 := rfl
theorem co221 : codOf E 221 = (Tryz.f221.body).getD .skip := rfl
theorem re221 : resOf E 221 = Tryz.f221.results.toList := rfl
theorem rk221 : resK 221 = [none] := rfl
theorem ir221 : isRef 221 = false := rfl
theorem nt222 : ntmOf E 222 = 8 := rfl
theorem co222 : codOf E 222 = (Tryz.f222.body).getD .skip := rfl
theorem re222 : resOf E 222 = Tryz.f222.results.toList := rfl
theorem rk222 : resK 222 = [none] := rfl
theorem ir222 : isRef 222 = false := rfl
theorem nt223 : ntmOf E 223 = 19 := rfl
theorem co223 : codOf E 223 = (Tryz.f223.body).getD .skip := rfl
theorem re223 : resOf E 223 = Tryz.f223.results.toList := rfl
theorem rk223 : resK 223 = [none] := rfl
theorem ir223 : isRef 223 = false := rfl
theorem kp223_0 : keep 223 0 = [(0, []), (1, []), (7, []), (8, [])] := rfl
theorem nt224 : ntmOf E 224 = 36 := rfl
theorem co224 : codOf E 224 = (Tryz.f224.body).getD .skip := rfl
theorem re224 : resOf E 224 = Tryz.f224.results.toList := rfl
theorem rk224 : resK 224 = [some 4, none] := rfl
theorem ir224 : isRef 224 = false := rfl
theorem kp224_0 : keep 224 0 = [(7, []), (20, []), (21, [])] := rfl
theorem nt225 : ntmOf E 225 = 27 := rfl
theorem co225 : codOf E 225 = (Tryz.f225.body).getD .skip := rfl
theorem re225 : resOf E 225 = Tryz.f225.results.toList := rfl
theorem rk225 : resK 225 = [none] := rfl
theorem ir225 : isRef 225 = false := rfl
theorem nt226 : ntmOf E 226 = 9 := rfl
theorem co226 : codOf E 226 = (Tryz.f226.body).getD .skip := rfl
theorem re226 : resOf E 226 = Tryz.f226.results.toList := rfl
theorem rk226 : resK 226 = [none] := rfl
theorem ir226 : isRef 226 = false := rfl
theorem nt227 : ntmOf E 227 = 10 := rfl
theorem co227 : codOf E 227 = (Tryz.f227.body).getD .skip := rfl
theorem re227 : resOf E 227 = Tryz.f227.results.toList := rfl
theorem rk227 : resK 227 = [none] := rfl
theorem ir227 : isRef 227 = false := rfl
theorem nt228 : ntmOf E 228 = 9 := rfl
theorem co228 : codOf E 228 = (Tryz.f228.body).getD .skip := rfl
theorem re228 : resOf E 228 = Tryz.f228.results.toList := rfl
theorem rk228 : resK 228 = [none] := rfl
theorem ir228 : isRef 228 = false := rfl
theorem nt229 : ntmOf E 229 = 16 := rfl
theorem co229 : codOf E 229 = (Tryz.f229.body).getD .skip := rfl
theorem re229 : resOf E 229 = Tryz.f229.results.toList := rfl
theorem rk229 : resK 229 = [none] := rfl
theorem ir229 : isRef 229 = false := rfl
theorem nt230 : ntmOf E 230 = 14 := rfl
theorem co230 : codOf E 230 = (Tryz.f230.body).getD .skip := rfl
theorem re230 : resOf E 230 = Tryz.f230.results.toList := rfl
theorem rk230 : resK 230 = [none] := rfl
theorem ir230 : isRef 230 = false := rfl
theorem nt231 : ntmOf E 231 = 54 := rfl
theorem co231 : codOf E 231 = (Tryz.f231.body).getD .skip := rfl
theorem re231 : resOf E 231 = Tryz.f231.results.toList := rfl
theorem rk231 : resK 231 = [none, none] := rfl
theorem ir231 : isRef 231 = false := rfl
theorem kp231_0 : keep 231 0 = [(0, []), (1, []), (6, []), (7, []), (8, [])] := rfl
theorem nt232 : ntmOf E 232 = 11 := rfl
theorem co232 : codOf E 232 = (Tryz.f232.body).getD .skip := rfl
theorem re232 : resOf E 232 = Tryz.f232.results.toList := rfl
theorem rk232 : resK 232 = [none] := rfl
theorem ir232 : isRef 232 = false := rfl
theorem nt233 : ntmOf E 233 = 46 := rfl
theorem co233 : codOf E 233 = (Tryz.f233.body).getD .skip := rfl
theorem re233 : resOf E 233 = Tryz.f233.results.toList := rfl
theorem rk233 : resK 233 = [none] := rfl
theorem ir233 : isRef 233 = false := rfl
theorem nt234 : ntmOf E 234 = 36 := rfl
theorem co234 : codOf E 234 = (Tryz.f234.body).getD .skip := rfl
theorem re234 : resOf E 234 = Tryz.f234.results.toList := rfl
theorem rk234 : resK 234 = [none, none] := rfl
theorem ir234 : isRef 234 = false := rfl
theorem kp234_0 : keep 234 0 = [(1, []), (4, []), (5, []), (11, []), (12, []), (13, [])] := rfl
theorem nt235 : ntmOf E 235 = 29 := rfl
theorem co235 : codOf E 235 = (Tryz.f235.body).getD .skip := rfl
theorem re235 : resOf E 235 = Tryz.f235.results.toList := rfl
theorem rk235 : resK 235 = [none] := rfl
theorem ir235 : isRef 235 = false := rfl
theorem kp235_0 : keep 235 0 = [(4, []), (7, []), (8, [])] := rfl
theorem nt236 : ntmOf E 236 = 13 := rfl
theorem co236 : codOf E 236 = (Tryz.f236.body).getD .skip := rfl
theorem re236 : resOf E 236 = Tryz.f236.results.toList := rfl
theorem rk236 : resK 236 = [none] := rfl
theorem ir236 : isRef 236 = false := rfl
theorem nt237 : ntmOf E 237 = 8 := rfl
theorem co237 : codOf E 237 = (Tryz.f237.body).getD .skip := rfl
theorem re237 : resOf E 237 = Tryz.f237.results.toList := rfl
theorem rk237 : resK 237 = [none] := rfl
theorem ir237 : isRef 237 = false := rfl
theorem nt238 : ntmOf E 238 = 8 := rfl
theorem co238 : codOf E 238 = (Tryz.f238.body).getD .skip := rfl
theorem re238 : resOf E 238 = Tryz.f238.results.toList := rfl
theorem rk238 : resK 238 = [some 1] := rfl
theorem ir238 : isRef 238 = false := rfl
theorem nt239 : ntmOf E 239 = 24 := rfl
theorem co239 : codOf E 239 = (Tryz.f239.body).getD .skip := rfl
theorem re239 : resOf E 239 = Tryz.f239.results.toList := rfl
theorem rk239 : resK 239 = [none] := rfl
theorem ir239 : isRef 239 = false := rfl
theorem nt240 : ntmOf E 240 = 19 := rfl
theorem co240 : codOf E 240 = (Tryz.f240.body).getD .skip := rfl
theorem re240 : resOf E 240 = Tryz.f240.results.toList := rfl
theorem rk240 : resK 240 = [none] := rfl
theorem ir240 : isRef 240 = false := rfl
theorem kp240_0 : keep 240 0 = [(0, []), (1, []), (7, []), (8, [])] := rfl
theorem nt241 : ntmOf E 241 = 57 := rfl
theorem co241 : codOf E 241 = (Tryz.f241.body).getD .skip := rfl
theorem re241 : resOf E 241 = Tryz.f241.results.toList := rfl
theorem rk241 : resK 241 = [none] := rfl
theorem ir241 : isRef 241 = false := rfl
theorem kp241_0 : keep 241 0 = [(2, []), (3, []), (28, []), (29, []), (30, [])] := rfl
theorem nt242 : ntmOf E 242 = 17 := rfl
theorem co242 : codOf E 242 = (Tryz.f242.body).getD .skip := rfl
theorem re242 : resOf E 242 = Tryz.f242.results.toList := rfl
theorem rk242 : resK 242 = [none] := rfl
theorem ir242 : isRef 242 = false := rfl
theorem nt243 : ntmOf E 243 = 6 := rfl
theorem co243 : codOf E 243 = (Tryz.f243.body).getD .skip := rfl
theorem re243 : resOf E 243 = Tryz.f243.results.toList := rfl
theorem rk243 : resK 243 = [none] := rfl
theorem ir243 : isRef 243 = false := rfl
theorem nt244 : ntmOf E 244 = 11 := rfl
theorem co244 : codOf E 244 = (Tryz.f244.body).getD .skip := rfl
theorem re244 : resOf E 244 = Tryz.f244.results.toList := rfl
theorem rk244 : resK 244 = [] := rfl
theorem ir244 : isRef 244 = true := rfl
theorem nt245 : ntmOf E 245 = 61 := rfl
theorem co245 : codOf E 245 = (Tryz.f245.body).getD .skip := rfl
theorem re245 : resOf E 245 = Tryz.f245.results.toList := rfl
theorem rk245 : resK 245 = [none] := rfl
theorem ir245 : isRef 245 = true := rfl
theorem kp245_2 : keep 245 2 = [(0, []), (3, []), (4, []), (5, [])] := rfl
theorem kp245_0 : keep 245 0 = [(0, []), (3, [])] := rfl
theorem nt246 : ntmOf E 246 = 39 := rfl
theorem co246 : codOf E 246 = (Tryz.f246.body).getD .skip := rfl
theorem re246 : resOf E 246 = Tryz.f246.results.toList := rfl
theorem rk246 : resK 246 = [none] := rfl
theorem ir246 : isRef 246 = false := rfl
theorem nt247 : ntmOf E 247 = 9 := rfl
theorem co247 : codOf E 247 = (Tryz.f247.body).getD .skip := rfl
theorem re247 : resOf E 247 = Tryz.f247.results.toList := rfl
theorem rk247 : resK 247 = [none] := rfl
theorem ir247 : isRef 247 = false := rfl
theorem nt248 : ntmOf E 248 = 6 := rfl
theorem co248 : codOf E 248 = (Tryz.f248.body).getD .skip := rfl
theorem re248 : resOf E 248 = Tryz.f248.results.toList := rfl
theorem rk248 : resK 248 = [none] := rfl
theorem ir248 : isRef 248 = false := rfl
theorem nt249 : ntmOf E 249 = 9 := rfl
theorem co249 : codOf E 249 = (Tryz.f249.body).getD .skip := rfl
theorem re249 : resOf E 249 = Tryz.f249.results.toList := rfl
theorem rk249 : resK 249 = [none] := rfl
theorem ir249 : isRef 249 = false := rfl
theorem nt251 : ntmOf E 251 = 33 := rfl
theorem co251 : codOf E 251 = (Tryz.f251.body).getD .skip := rfl
theorem re251 : resOf E 251 = Tryz.f251.results.toList := rfl
theorem rk251 : resK 251 = [none] := rfl
theorem ir251 : isRef 251 = false := rfl
theorem kp251_0 : keep 251 0 = [(0, []), (1, []), (7, []), (8, []), (9, [])] := rfl
theorem nt252 : ntmOf E 252 = 14 := rfl
theorem co252 : codOf E 252 = (Tryz.f252.body).getD .skip := rfl
theorem re252 : resOf E 252 = Tryz.f252.results.toList := rfl
theorem rk252 : resK 252 = [none] := rfl
theorem ir252 : isRef 252 = false := rfl
theorem nt253 : ntmOf E 253 = 6 := rfl
theorem co253 : codOf E 253 = (Tryz.f253.body).getD .skip := rfl
theorem re253 : resOf E 253 = Tryz.f253.results.toList := rfl
theorem rk253 : resK 253 = [none] := rfl
theorem ir253 : isRef 253 = false := rfl
theorem nt254 : ntmOf E 254 = 134 := rfl
theorem co254 : codOf E 254 = (Tryz.f254.body).getD .skip := rfl
theorem re254 : resOf E 254 = Tryz.f254.results.toList := rfl
theorem rk254 : resK 254 = [] := rfl
theorem ir254 : isRef 254 = true := rfl
theorem kp254_0 : keep 254 0 = [(0, []), (1, []), (2, []), (3, []), (8, []), (9, [])] := rfl
theorem nt255 : ntmOf E 255 = 8 := rfl
theorem co255 : codOf E 255 = (Tryz.f255.body).getD .skip := rfl
theorem re255 : resOf E 255 = Tryz.f255.results.toList := rfl
theorem rk255 : resK 255 = [none] := rfl
theorem ir255 : isRef 255 = false := rfl
theorem nt256 : ntmOf E 256 = 19 := rfl
theorem co256 : codOf E 256 = (Tryz.f256.body).getD .skip := rfl
theorem re256 : resOf E 256 = Tryz.f256.results.toList := rfl
theorem rk256 : resK 256 = [none] := rfl
theorem ir256 : isRef 256 = false := rfl
theorem kp256_0 : keep 256 0 = [(0, []), (1, []), (7, []), (8, [])] := rfl
theorem nt257 : ntmOf E 257 = 49 := rfl
theorem co257 : codOf E 257 = (Tryz.f257.body).getD .skip := rfl
theorem re257 : resOf E 257 = Tryz.f257.results.toList := rfl
theorem rk257 : resK 257 = [] := rfl
theorem ir257 : isRef 257 = true := rfl
theorem kp257_2 : keep 257 2 = [(0, []), (1, []), (2, []), (6, []), (7, [])] := rfl
theorem kp257_0 : keep 257 0 = [(0, []), (1, []), (2, []), (6, [])] := rfl
theorem nt258 : ntmOf E 258 = 56 := rfl
theorem co258 : codOf E 258 = (Tryz.f258.body).getD .skip := rfl
theorem re258 : resOf E 258 = Tryz.f258.results.toList := rfl
theorem rk258 : resK 258 = [] := rfl
theorem ir258 : isRef 258 = true := rfl
theorem kp258_2 : keep 258 2 = [(0, []), (6, []), (7, []), (10, [])] := rfl
theorem kp258_0 : keep 258 0 = [(0, []), (6, []), (7, []), (8, []), (9, [])] := rfl
theorem nt259 : ntmOf E 259 = 65 := rfl
theorem co259 : codOf E 259 = (Tryz.f259.body).getD .skip := rfl
theorem re259 : resOf E 259 = Tryz.f259.results.toList := rfl
theorem rk259 : resK 259 = [] := rfl
theorem ir259 : isRef 259 = true := rfl
theorem kp259_0 : keep 259 0 = [(0, []), (1, []), (6, []), (7, []), (8, []), (9, [])] := rfl
theorem nt260 : ntmOf E 260 = 57 := rfl
theorem co260 : codOf E 260 = (Tryz.f260.body).getD .skip := rfl
theorem re260 : resOf E 260 = Tryz.f260.results.toList := rfl
theorem rk260 : resK 260 = [none, none] := rfl
theorem ir260 : isRef 260 = true := rfl
theorem nt261 : ntmOf E 261 = 32 := rfl
theorem co261 : codOf E 261 = (Tryz.f261.body).getD .skip := rfl
theorem re261 : resOf E 261 = Tryz.f261.results.toList := rfl
theorem rk261 : resK 261 = [] := rfl
theorem ir261 : isRef 261 = true := rfl
theorem kp261_0 : keep 261 0 = [(0, []), (6, []), (7, [])] := rfl
theorem nt262 : ntmOf E 262 = 133 := rfl
theorem co262 : codOf E 262 = (Tryz.f262.body).getD .skip := rfl
theorem re262 : resOf E 262 = Tryz.f262.results.toList := rfl
theorem rk262 : resK 262 = [none] := rfl
theorem ir262 : isRef 262 = true := rfl
theorem kp262_6 : keep 262 6 = [(0, []), (1, []), (2, []), (7, []), (8, []), (10, [])] := rfl
theorem kp262_4 : keep 262 4 = [(0, []), (1, []), (2, []), (7, []), (8, []), (9, [])] := rfl
theorem kp262_2 : keep 262 2 = [(0, []), (1, []), (2, []), (7, []), (8, [])] := rfl
theorem kp262_0 : keep 262 0 = [(0, []), (1, []), (2, []), (7, []), (8, [])] := rfl
theorem nt263 : ntmOf E 263 = 84 := rfl
theorem co263 : codOf E 263 = (Tryz.f263.body).getD .skip := rfl
theorem re263 : resOf E 263 = Tryz.f263.results.toList := rfl
theorem rk263 : resK 263 = [none] := rfl
theorem ir263 : isRef 263 = true := rfl
theorem kp263_4 : keep 263 4 = [(0, []), (1, []), (9, []), (10, [])] := rfl
theorem kp263_2 : keep 263 2 = [(0, []), (1, []), (9, []), (10, [])] := rfl
theorem kp263_0 : keep 263 0 = [(0, []), (1, []), (9, []), (10, [])] := rfl
theorem nt264 : ntmOf E 264 = 168 := rfl
theorem co264 : codOf E 264 = (Tryz.f264.body).getD .skip := rfl
theorem re264 : resOf E 264 = Tryz.f264.results.toList := rfl
theorem rk264 : resK 264 = [none, none] := rfl
theorem ir264 : isRef 264 = true := rfl
theorem kp264_8 : keep 264 8 = [(0, []), (1, []), (10, []), (11, [])] := rfl
theorem kp264_6 : keep 264 6 = [(0, []), (1, []), (10, []), (11, [])] := rfl
theorem kp264_4 : keep 264 4 = [(0, []), (1, []), (10, []), (11, [])] := rfl
theorem kp264_2 : keep 264 2 = [(0, []), (1, []), (10, []), (11, [])] := rfl
theorem kp264_0 : keep 264 0 = [(0, []), (1, []), (10, []), (11, [])] := rfl
theorem nt265 : ntmOf E 265 = 19 := rfl
theorem co265 : codOf E 265 = (Tryz.f265.body).getD .skip := rfl
theorem re265 : resOf E 265 = Tryz.f265.results.toList := rfl
theorem rk265 : resK 265 = [none] := rfl
theorem ir265 : isRef 265 = false := rfl
theorem nt266 : ntmOf E 266 = 25 := rfl
theorem co266 : codOf E 266 = (Tryz.f266.body).getD .skip := rfl
theorem re266 : resOf E 266 = Tryz.f266.results.toList := rfl
theorem rk266 : resK 266 = [none] := rfl
theorem ir266 : isRef 266 = false := rfl
theorem nt267 : ntmOf E 267 = 76 := rfl
theorem co267 : codOf E 267 = (Tryz.f267.body).getD .skip := rfl
theorem re267 : resOf E 267 = Tryz.f267.results.toList := rfl
theorem rk267 : resK 267 = [] := rfl
theorem ir267 : isRef 267 = true := rfl
theorem kp267_0 : keep 267 0 = [(0, []), (2, []), (3, []), (8, [])] := rfl
theorem nt268 : ntmOf E 268 = 7 := rfl
theorem co268 : codOf E 268 = (Tryz.f268.body).getD .skip := rfl
theorem re268 : resOf E 268 = Tryz.f268.results.toList := rfl
theorem rk268 : resK 268 = [none] := rfl
theorem ir268 : isRef 268 = false := rfl
theorem nt269 : ntmOf E 269 = 33 := rfl
theorem co269 : codOf E 269 = (Tryz.f269.body).getD .skip := rfl
theorem re269 : resOf E 269 = Tryz.f269.results.toList := rfl
theorem rk269 : resK 269 = [none] := rfl
theorem ir269 : isRef 269 = true := rfl
theorem nt270 : ntmOf E 270 = 15 := rfl
theorem co270 : codOf E 270 = (Tryz.f270.body).getD .skip := rfl
theorem re270 : resOf E 270 = Tryz.f270.results.toList := rfl
theorem rk270 : resK 270 = [none] := rfl
theorem ir270 : isRef 270 = true := rfl
theorem nt271 : ntmOf E 271 = 36 := rfl
theorem co271 : codOf E 271 = (Tryz.f271.body).getD .skip := rfl
theorem re271 : resOf E 271 = Tryz.f271.results.toList := rfl
theorem rk271 : resK 271 = [none] := rfl
theorem ir271 : isRef 271 = true := rfl
theorem nt272 : ntmOf E 272 = 28 := rfl
theorem co272 : codOf E 272 = (Tryz.f272.body).getD .skip := rfl
theorem re272 : resOf E 272 = Tryz.f272.results.toList := rfl
theorem rk272 : resK 272 = [none, none] := rfl
theorem ir272 : isRef 272 = true := rfl
theorem pa3_3 : pairs 3 3 = [(0, 3), (3, 5), (4, 5)] := rfl
theorem pa4_3 : pairs 4 3 = [(0, 2), (2, 3)] := rfl
theorem pa10_18 : pairs 10 18 = [] := rfl
theorem pa10_24 : pairs 10 24 = [] := rfl
theorem pa12_13 : pairs 12 13 = [(5, 7)] := rfl
theorem pa16_10 : pairs 16 10 = [] := rfl
theorem pa17_6 : pairs 17 6 = [] := rfl
theorem pa22_6 : pairs 22 6 = [] := rfl
theorem pa26_10 : pairs 26 10 = [] := rfl
theorem pa35_14 : pairs 35 14 = [] := rfl
theorem pa36_13 : pairs 36 13 = [] := rfl
theorem pa38_10 : pairs 38 10 = [] := rfl
theorem pa38_18 : pairs 38 18 = [] := rfl
theorem pa40_17 : pairs 40 17 = [(4, 9)] := rfl
theorem pa40_23 : pairs 40 23 = [(4, 6)] := rfl
theorem pa40_32 : pairs 40 32 = [] := rfl
theorem pa42_6 : pairs 42 6 = [] := rfl
theorem pa45_12 : pairs 45 12 = [] := rfl
theorem pa45_19 : pairs 45 19 = [] := rfl
theorem pa45_24 : pairs 45 24 = [] := rfl
theorem pa45_28 : pairs 45 28 = [] := rfl
theorem pa53_18 : pairs 53 18 = [] := rfl
theorem pa54_5 : pairs 54 5 = [] := rfl
theorem pa54_7 : pairs 54 7 = [] := rfl
theorem pa55_18 : pairs 55 18 = [] := rfl
theorem pa57_11 : pairs 57 11 = [] := rfl
theorem pa58_3 : pairs 58 3 = [] := rfl
theorem pa62_4 : pairs 62 4 = [] := rfl
theorem pa62_9 : pairs 62 9 = [] := rfl
theorem pa62_19 : pairs 62 19 = [] := rfl
theorem pa62_20 : pairs 62 20 = [(7, 11)] := rfl
theorem pa63_5 : pairs 63 5 = [(22, 24)] := rfl
theorem pa68_7 : pairs 68 7 = [] := rfl
theorem pa68_22 : pairs 68 22 = [] := rfl
theorem pa69_7 : pairs 69 7 = [] := rfl
theorem pa76_4 : pairs 76 4 = [] := rfl
theorem pa79_20 : pairs 79 20 = [] := rfl
theorem pa79_30 : pairs 79 30 = [] := rfl
theorem pa80_5 : pairs 80 5 = [] := rfl
theorem pa82_3 : pairs 82 3 = [] := rfl
theorem pa84_5 : pairs 84 5 = [] := rfl
theorem pa84_8 : pairs 84 8 = [] := rfl
theorem pa86_11 : pairs 86 11 = [] := rfl
theorem pa86_15 : pairs 86 15 = [] := rfl
theorem pa87_5 : pairs 87 5 = [] := rfl
theorem pa93_1 : pairs 93 1 = [] := rfl
theorem pa101_3 : pairs 101 3 = [(0, 1), (0, 3), (0, 7), (0, 8), (0, 11), (8, 11), (9, 11), (0, 15), (8, 15), (9, 15)] := rfl
theorem pa107_7 : pairs 107 7 = [] := rfl
theorem pa108_1 : pairs 108 1 = [(8, 12), (8, 16)] := rfl
theorem pa109_4 : pairs 109 4 = [] := rfl
theorem pa109_9 : pairs 109 9 = [(1, 8), (5, 8), (7, 8)] := rfl
theorem pa109_10 : pairs 109 10 = [] := rfl
theorem pa111_1 : pairs 111 1 = [(8, 12), (8, 16)] := rfl
theorem pa115_5 : pairs 115 5 = [] := rfl
theorem pa116_16 : pairs 116 16 = [] := rfl
theorem pa132_11 : pairs 132 11 = [] := rfl
theorem pa133_4 : pairs 133 4 = [] := rfl
theorem pa133_9 : pairs 133 9 = [] := rfl
theorem pa134_3 : pairs 134 3 = [] := rfl
theorem pa138_4 : pairs 138 4 = [] := rfl
theorem pa138_10 : pairs 138 10 = [] := rfl
theorem pa140_8 : pairs 140 8 = [(1, 11)] := rfl
theorem pa140_12 : pairs 140 12 = [(1, 9), (3, 9), (6, 9), (8, 9)] := rfl
theorem pa140_13 : pairs 140 13 = [(1, 8), (3, 8), (8, 10), (8, 12), (1, 13), (3, 13), (1, 15)] := rfl
theorem pa140_14 : pairs 140 14 = [(0, 1), (1, 3), (0, 4), (0, 5), (1, 5), (3, 5), (4, 5), (1, 7), (4, 7), (5, 7), (0, 8)] := rfl
theorem pa141_12 : pairs 141 12 = [] := rfl
theorem pa141_14 : pairs 141 14 = [] := rfl
theorem pa141_19 : pairs 141 19 = [] := rfl
theorem pa141_21 : pairs 141 21 = [(1, 14), (4, 14), (6, 14), (8, 14), (11, 14), (13, 14), (1, 15), (4, 15), (6, 15), (8, 15), (11, 15), (13, 15), (14, 15), (6, 16), (8, 16), (11, 16), (13, 16)] := rfl
theorem pa141_24 : pairs 141 24 = [] := rfl
theorem pa144_15 : pairs 144 15 = [] := rfl
theorem pa155_1 : pairs 155 1 = [(8, 11), (8, 15)] := rfl
theorem pa156_1 : pairs 156 1 = [(8, 11), (8, 15)] := rfl
theorem pa163_21 : pairs 163 21 = [] := rfl
theorem pa163_22 : pairs 163 22 = [(8, 10)] := rfl
theorem pa166_10 : pairs 166 10 = [(1, 9), (3, 9), (6, 9), (8, 9)] := rfl
theorem pa186_3 : pairs 186 3 = [] := rfl
theorem pa187_3 : pairs 187 3 = [] := rfl
theorem pa194_6 : pairs 194 6 = [] := rfl
theorem pa204_3 : pairs 204 3 = [] := rfl
theorem pa207_4 : pairs 207 4 = [] := rfl
theorem pa208_8 : pairs 208 8 = [(1, 7)] := rfl
theorem pa208_18 : pairs 208 18 = [(0, 3), (3, 5), (0, 6)] := rfl
theorem pa209_14 : pairs 209 14 = [] := rfl
theorem pa209_22 : pairs 209 22 = [(1, 10), (4, 10), (6, 10), (9, 10), (1, 11), (4, 11), (6, 11), (9, 11), (10, 11), (6, 12), (9, 12)] := rfl
theorem pa209_25 : pairs 209 25 = [] := rfl
theorem pa210_1 : pairs 210 1 = [(8, 10), (17, 19)] := rfl
theorem pa211_1 : pairs 211 1 = [] := rfl
theorem pa212_2 : pairs 212 2 = [] := rfl
theorem pa241_10 : pairs 241 10 = [] := rfl
theorem pa245_6 : pairs 245 6 = [] := rfl
theorem pa245_11 : pairs 245 11 = [] := rfl
theorem pa254_17 : pairs 254 17 = [] := rfl
theorem pa257_4 : pairs 257 4 = [] := rfl
theorem pa257_6 : pairs 257 6 = [] := rfl
theorem pa258_10 : pairs 258 10 = [] := rfl
theorem pa259_10 : pairs 259 10 = [] := rfl
theorem pa261_3 : pairs 261 3 = [] := rfl
theorem pa262_5 : pairs 262 5 = [] := rfl
theorem pa262_11 : pairs 262 11 = [] := rfl
theorem pa262_16 : pairs 262 16 = [] := rfl
theorem pa262_17 : pairs 262 17 = [] := rfl
theorem pa262_22 : pairs 262 22 = [] := rfl
theorem pa262_23 : pairs 262 23 = [] := rfl
theorem pa263_1 : pairs 263 1 = [] := rfl
theorem pa263_3 : pairs 263 3 = [] := rfl
theorem pa263_5 : pairs 263 5 = [] := rfl
theorem pa263_8 : pairs 263 8 = [] := rfl
theorem pa264_1 : pairs 264 1 = [] := rfl
theorem pa264_3 : pairs 264 3 = [] := rfl
theorem pa264_5 : pairs 264 5 = [] := rfl
theorem pa264_8 : pairs 264 8 = [] := rfl
theorem pa264_10 : pairs 264 10 = [] := rfl
theorem pa264_13 : pairs 264 13 = [] := rfl
theorem pa264_15 : pairs 264 15 = [] := rfl
theorem pa264_18 : pairs 264 18 = [] := rfl
theorem pa264_21 : pairs 264 21 = [] := rfl
theorem pa267_3 : pairs 267 3 = [] := rfl
theorem pa267_5 : pairs 267 5 = [] := rfl
theorem pa267_6 : pairs 267 6 = [] := rfl
theorem pa269_1 : pairs 269 1 = [] := rfl
theorem pa269_2 : pairs 269 2 = [] := rfl
theorem pa269_3 : pairs 269 3 = [] := rfl
theorem pa272_1 : pairs 272 1 = [] := rfl
set_option linter.defProp false
def WE :=
  And.intro @MR_E <|
  And.intro @MR_C <|
  And.intro @MR_f <|
  And.intro @MR_nr <|
  And.intro @MR_c <|
  And.intro @MR_D <|
  And.intro @M_E <|
  And.intro @M_C <|
  And.intro @M_f <|
  And.intro @M_nr <|
  And.intro @M_c <|
  And.intro @M_D <|
  And.intro @E_tab <|
  And.intro @E_keep <|
  And.intro @E_keepR <|
  And.intro @E_keepE <|
  And.intro @E_pairs <|
  And.intro @E_resK <|
  And.intro @E_keepNil @E_isRef
def WT :=
  And.intro @tab3 <|
  And.intro @tab4 <|
  And.intro @tab5 <|
  And.intro @tab9 <|
  And.intro @tab22 <|
  And.intro @tab23 <|
  And.intro @tab25 <|
  And.intro @tab26 <|
  And.intro @tab27 <|
  And.intro @tab31 <|
  And.intro @tab33 <|
  And.intro @tab34 <|
  And.intro @tab37 <|
  And.intro @tab39 <|
  And.intro @tab41 <|
  And.intro @tab53 <|
  And.intro @tab56 <|
  And.intro @tab61 <|
  And.intro @tab65 <|
  And.intro @tab67 <|
  And.intro @tab68 <|
  And.intro @tab70 <|
  And.intro @tab72 <|
  And.intro @tab73 <|
  And.intro @tab75 <|
  And.intro @tab85 <|
  And.intro @tab87 <|
  And.intro @tab88 <|
  And.intro @tab89 <|
  And.intro @tab91 <|
  And.intro @tab93 <|
  And.intro @tab94 <|
  And.intro @tab96 <|
  And.intro @tab109 <|
  And.intro @tab111 <|
  And.intro @tab114 <|
  And.intro @tab116 <|
  And.intro @tab118 <|
  And.intro @tab124 <|
  And.intro @tab137 <|
  And.intro @tab152 <|
  And.intro @tab161 <|
  And.intro @tab163 <|
  And.intro @tab169 <|
  And.intro @tab173 <|
  And.intro @tab175 <|
  And.intro @tab188 <|
  And.intro @tab191 <|
  And.intro @tab201 <|
  And.intro @tab211 <|
  And.intro @tab216 <|
  And.intro @tab233 <|
  And.intro @tab243 <|
  And.intro @tab250 <|
  And.intro @tab252 <|
  And.intro @tab253 <|
  And.intro @tab257 @tab259
end Go.S
