/- Part 3 of what is proved for the law UseLams: it returns true,whatever the input. No condition. -/
import Derived.Test.YtlgekplmbmkcmaaProg
import Derived.IntWalk
import Derived.Shelf.SlIterI.Nil
import Derived.Shelf.SortM.Plain
import Derived.Shelf.SortM.SortNone
import Derived.Maps.OwnSet
import Derived.Test.YtlgekplmbmkcmaaPUseLamsb
namespace Go.Proofs.Ytlgekplmbmkcmaa
open Go.Fx
def F11b0 : C := (.seq (.seq (.reg [
  ia 52 (.mv (.t 8)),
ia 53 (.mv (.t 6)),
ia 54 (.len false (.t 53)),
ia 55 (.bin .lss (.t 52) (.t 54))]) (.cond (.t 55) .skip (.exit 0))) (.seq (.block 1 (.reg [
  ia 58 (.mv (.t 7)),
ia 59 (.mv (.t 6)),
ia 60 (.mv (.t 8)),
ia 61 (.ias 1 (.t 59) (.t 60)),
ia 62 (.ld 1 false (.t 61)),
ia 63 (.bin .add (.t 62) (ci 1)),
ia 64 (.bsl 1 3 [(.p (.i .i64 0))] 1 [(0,(.t 63))]),
ia 65 (.app 1 3 8 (.t 58) (.t 64)),
ia 7 (.mv (.t 65))])) (.reg [
  ia 56 (.mv (.t 8)),
ia 57 (.bin .add (.t 56) (ci 1)),
ia 8 (.mv (.t 57))])))
def F11b1 : C := (.seq (.seq (.reg [
  ia 84 (.mv (.t 11)),
ia 85 (.mv (.t 10)),
ia 86 (.len false (.t 85)),
ia 87 (.bin .lss (.t 84) (.t 86))]) (.cond (.t 87) .skip (.exit 2))) (.seq (.block 3 (.seq (.reg [
  ir 90 (.ld 4 true (.t 2)),
ir 91 (.call (.f 35) [(.t 90)]),
ir 92 (.mv (.t 10)),
ir 93 (.mv (.t 11)),
ir 94 (.ias 1 (.t 92) (.t 93)),
ir 95 (.ld 1 false (.t 94)),
ia 96 (.call (.f 47) [(.t 91),(.t 95)]),
ia 97 (.not (.t 96)),
ia 98 (.mv (.t 97)),
ih 99 98 true (.ld 4 true (.t 3)),
ih 100 98 true (.call (.f 35) [(.t 99)]),
ih 101 98 true (.mv (.t 10)),
ih 102 98 true (.mv (.t 11)),
ih 103 98 true (.ias 1 (.t 101) (.t 102)),
ih 104 98 true (.ld 1 false (.t 103)),
ig 105 98 true (.call (.f 47) [(.t 100),(.t 104)]),
ig 106 98 true (.not (.t 105)),
ia 107 (.pick (.t 98) (.t 106) (.c (.a (.p (.b false)))))]) (.cond (.t 107) (.seq (.reg [
  ia 4 (.mv (.c (.a (.p (.b false)))))]) .ret) .skip))) (.reg [
  ia 88 (.mv (.t 11)),
ia 89 (.bin .add (.t 88) (ci 1)),
ia 11 (.mv (.t 89))])))
def F11 : FnC := ⟨2,(.seq (.reg [
  ia 2 (.box 4 (.t 0)),
ia 3 (.box 4 (.t 1)),
ia 4 (.mv (.c (.a (.p (.b false)))))]) (.seq (.seq (.reg [
  ia 12 (.call (.f 33) []),
ia 13 (.not (.t 12)),
ia 14 (.mv (.t 13)),
ig 15 14 false (.ld 4 true (.t 2)),
ig 16 14 false (.call (.f 15) [(.t 15),(ci 100)]),
ig 17 14 false (.not (.t 16)),
ia 18 (.pick (.t 14) (.c (.a (.p (.b true)))) (.t 17)),
ia 19 (.mv (.t 18)),
ig 20 19 false (.ld 4 true (.t 2)),
ig 21 19 false (.call (.f 32) [(.t 20)]),
ig 22 19 false (.bin .gtr (.t 21) (ci 300)),
ia 23 (.pick (.t 19) (.c (.a (.p (.b true)))) (.t 22)),
ia 24 (.mv (.t 23)),
ig 25 24 false (.ld 4 true (.t 3)),
ig 26 24 false (.call (.f 15) [(.t 25),(ci 100)]),
ig 27 24 false (.not (.t 26)),
ia 28 (.pick (.t 24) (.c (.a (.p (.b true)))) (.t 27)),
ia 29 (.mv (.t 28)),
ig 30 29 false (.ld 4 true (.t 3)),
ig 31 29 false (.call (.f 32) [(.t 30)]),
ig 32 29 false (.bin .gtr (.t 31) (ci 300)),
ia 33 (.pick (.t 29) (.c (.a (.p (.b true)))) (.t 32)),
ia 34 (.mv (.t 33)),
ig 35 34 false (.ld 4 true (.t 2)),
ig 36 34 false (.call (.f 27) [(.t 35),(ci 5)]),
ig 37 34 false (.not (.t 36)),
ia 38 (.pick (.t 34) (.c (.a (.p (.b true)))) (.t 37)),
ia 39 (.mv (.t 38)),
ig 40 39 false (.ld 4 true (.t 3)),
ig 41 39 false (.call (.f 27) [(.t 40),(ci 5)]),
ig 42 39 false (.not (.t 41)),
ia 43 (.pick (.t 39) (.c (.a (.p (.b true)))) (.t 42))]) (.cond (.t 43) (.seq (.reg [
  ia 44 (.call (.f 33) []),
ia 4 (.mv (.t 44))]) .ret) .skip)) (.seq (.reg [
  ir 45 (.ld 4 true (.t 2)),
ir 46 (.call (.f 45) [(.t 45)]),
ir 47 (.call (.f 37) [(.t 46)]),
ir 48 (.ld 4 true (.t 2)),
ia 49 (.call (.f 45) [(.t 48)]),
ia 50 (.call (.f 35) [(.t 49)]),
ia 5 (.mv (.t 47)),
ia 6 (.mv (.t 50))]) (.seq (.reg [
  ia 51 (.bsl 1 3 [(.p (.i .i64 0))] 0 []),
ia 7 (.mv (.t 51))]) (.seq (.seq (.reg [
  ia 8 (.mv (ci 0))]) (.block 0 (.loop F11b0))) (.seq (.seq (.reg [
  ia 66 (.mv (.t 5)),
ia 67 (.len false (.t 66)),
ia 68 (.bin .eql (.t 67) (ci 0))]) (.cond (.t 68) (.seq (.reg [
  ia 4 (.mv (.c (.a (.p (.b false)))))]) .ret) .skip)) (.seq (.seq (.reg [
  ia 69 (.mv (.t 5)),
ia 70 (.ias 1 (.t 69) (ci 0)),
ia 71 (.ld 1 false (.t 70)),
ia 72 (.bin .gtr (.t 71) (ci 0))]) (.cond (.t 72) (.reg [
  ia 73 (.bsl 1 3 [(.p (.i .i64 0))] 1 [(0,(ci 0))]),
ia 74 (.mv (.t 7)),
ia 75 (.app 1 3 8 (.t 73) (.t 74)),
ia 7 (.mv (.t 75))]) .skip)) (.seq (.reg [
  ia 76 (.ld 4 true (.t 2)),
ia 77 (.ld 4 true (.t 3)),
ia 78 (.call (.f 46) [(.t 76),(.t 77)]),
ia 79 (.call (.f 37) [(.t 78)]),
ia 9 (.mv (.t 79))]) (.seq (.reg [
  ia 80 (.ld 4 true (.t 2)),
ia 81 (.ld 4 true (.t 3)),
ia 82 (.call (.f 46) [(.t 80),(.t 81)]),
ia 83 (.call (.f 35) [(.t 82)]),
ia 10 (.mv (.t 83))]) (.seq (.seq (.reg [
  ia 11 (.mv (ci 0))]) (.block 2 (.loop F11b1))) (.seq (.reg [
  ir 108 (.ld 4 true (.t 2)),
ir 109 (.call (.f 35) [(.t 108)]),
ir 110 (.mv (.t 7)),
ia 111 (.call (.f 34) [(.t 109),(.t 110)]),
ia 112 (.mv (.t 111)),
ih 113 112 true (.mv (.t 5)),
ih 114 112 true (.slc 1 3 (.t 113) (.some (ci 1)) .none .none),
ih 115 112 true (.ld 4 true (.t 2)),
ih 116 112 true (.call (.f 37) [(.t 115)]),
ig 117 112 true (.call (.f 34) [(.t 114),(.t 116)]),
ia 118 (.pick (.t 112) (.t 117) (.c (.a (.p (.b false))))),
ia 119 (.mv (.t 118)),
ih 120 119 true (.mv (.t 9)),
⟨(.some 121),(.some (119,true)),(.bsl 1 3 [(.p (.i .i64 0))] 0 []),.ad⟩,
ih 122 119 true (.ld 4 true (.t 2)),
ih 123 119 true (.call (.f 37) [(.t 122)]),
ih 125 119 true (.ld 4 true (.t 3)),
⟨(.some 124),(.some (119,true)),(.app 1 3 8 (.t 121) (.t 123)),(.cl [(4,3)] [])⟩,
ih 126 119 true (.call (.f 37) [(.t 125)]),
⟨(.some 127),(.some (119,true)),(.app 1 3 8 (.t 124) (.t 126)),(.cl [] [])⟩,
ig 128 119 true (.call (.f 34) [(.t 120),(.t 127)]),
ia 129 (.pick (.t 119) (.t 128) (.c (.a (.p (.b false))))),
ia 130 (.mv (.t 129)),
ih 131 130 true (.mv (.t 10)),
ih 132 130 true (.len false (.t 131)),
ih 133 130 true (.ld 4 true (.t 2)),
ih 134 130 true (.call (.f 35) [(.t 133)]),
ih 135 130 true (.len false (.t 134)),
ih 136 130 true (.ld 4 true (.t 3)),
ih 137 130 true (.call (.f 35) [(.t 136)]),
ih 138 130 true (.len false (.t 137)),
ih 139 130 true (.bin .add (.t 135) (.t 138)),
ig 140 130 true (.bin .leq (.t 132) (.t 139)),
ia 141 (.pick (.t 130) (.t 140) (.c (.a (.p (.b false))))),
ia 4 (.mv (.t 141))]) .ret))))))))))),[(.tmp 4)]⟩
theorem cc11 : ccF Try.prog [] Try.f11 = some (stripF F11) := by kernel_rfl
def F15 : FnC := ⟨2,(.seq (.reg [
  ia 2 (.box 4 (.t 0)),
ia 4 (.mv (.c (.a (.p (.b false)))))]) (.seq (.reg [
  ia 5 (.ld 4 true (.t 2)),
ia 6 (.mv (.t 1)),
ia 7 (.call (.f 49) [(.t 5),(.t 6),(ci 600)]),
ia 8 (.bin .geq (.t 7) (ci 0)),
ia 4 (.mv (.t 8))]) .ret)),[(.tmp 4)]⟩
theorem cc15 : ccF Try.prog [] Try.f15 = some (stripF F15) := by kernel_rfl
def F23 : FnC := ⟨2,(.seq (.reg [
  ia 2 (.box 4 (.t 0)),
ia 3 (.box 1 (.t 1)),
ia 4 (.mv (ci 0))]) (.seq (.reg [
  ia 5 (.new [(.p (.i .i64 0))]),
io (.st 1 (.t 5) (ci 0))]) (.seq (.reg [
  ia 6 (.ld 4 true (.t 2)),
ia 7 (.fn 57 [(.t 3),(.t 5)]),
ia 8 (.call (.f 51) [(.t 6),(ci 0),(.t 7)])]) (.seq (.reg [
  ia 9 (.ld 1 false (.t 5)),
ia 4 (.mv (.t 9))]) .ret)))),[(.tmp 4)]⟩
theorem cc23 : ccF Try.prog [] Try.f23 = some (stripF F23) := by kernel_rfl
def F27 : FnC := ⟨2,(.seq (.reg [
  ia 2 (.box 4 (.t 0)),
ia 4 (.mv (.c (.a (.p (.b false)))))]) (.seq (.reg [
  ia 5 (.ld 4 true (.t 2)),
ia 6 (.mv (.t 1)),
ia 7 (.call (.f 60) [(.t 5),(.t 6),(.c (.a (.p (.b false))))]),
ia 4 (.mv (.t 7))]) .ret)),[(.tmp 4)]⟩
theorem cc27 : ccF Try.prog [] Try.f27 = some (stripF F27) := by kernel_rfl
def F31 : FnC := ⟨2,(.seq (.reg [
  ia 2 (.box 4 (.t 0)),
ia 3 (.box 4 (.t 1)),
ia 4 (.new [(.p (.i .i64 0)),(.p (.i .i64 0)),(.p (.s [])),.nil])]) (.seq (.reg [
  ia 5 (.ld 4 true (.t 2)),
ia 6 (.ld 4 true (.t 3)),
ia 7 (.bsl 4 24 [(.p (.i .i64 0)),(.p (.i .i64 0)),(.p (.s [])),.nil] 2 [(0,(.t 5)),(1,(.t 6))]),
ia 8 (.build [(.p (.i .i64 0)),(.p (.i .i64 0)),(.p (.s [])),.nil] [(0,(1,(ci 3))),(3,(1,(.t 7)))]),
io (.st 4 (.t 4) (.t 8))]) .ret)),[(.cell 4 4 true)]⟩
theorem cc31 : ccF Try.prog [] Try.f31 = some (stripF F31) := by kernel_rfl
def F32b0 : C := (.seq (.seq (.reg [
  ia 5 (.mv (.t 4)),
ia 6 (.fad 3 (.t 1)),
ia 7 (.ld 1 false (.t 6)),
ia 8 (.len false (.t 7)),
ia 9 (.bin .lss (.t 5) (.t 8))]) (.cond (.t 9) .skip (.exit 0))) (.seq (.block 1 (.reg [
  ia 12 (.mv (.t 3)),
ia 13 (.fad 3 (.t 1)),
ia 14 (.ld 1 false (.t 13)),
ia 15 (.mv (.t 4)),
ia 16 (.ias 4 (.t 14) (.t 15)),
ia 17 (.ld 4 true (.t 16)),
ia 18 (.call (.f 32) [(.t 17)]),
ia 19 (.mx (.t 12) (.t 18)),
ia 3 (.mv (.t 19))])) (.reg [
  ia 10 (.mv (.t 4)),
ia 11 (.bin .add (.t 10) (ci 1)),
ia 4 (.mv (.t 11))])))
def F32 : FnC := ⟨1,(.seq (.reg [
  ia 1 (.box 4 (.t 0)),
ia 2 (.mv (ci 0))]) (.seq (.reg [
  ia 3 (.mv (ci 0))]) (.seq (.seq (.reg [
  ia 4 (.mv (ci 0))]) (.block 0 (.loop F32b0))) (.seq (.reg [
  ia 20 (.mv (.t 3)),
ia 21 (.bin .add (.t 20) (ci 1)),
ia 2 (.mv (.t 21))]) .ret)))),[(.tmp 2)]⟩
theorem cc32 : ccF Try.prog [] Try.f32 = some (stripF F32) := by kernel_rfl
def F33 : FnC := ⟨0,(.seq (.reg [
  ia 0 (.mv (.c (.a (.p (.b false)))))]) (.seq (.reg [
  ia 3 (.call (.f 61) [(ci 1)]),
ia 4 (.call (.f 61) [(ci 1)]),
ia 5 (.call (.f 46) [(.t 3),(.t 4)]),
ia 6 (.call (.f 45) [(.t 5)]),
ia 7 (.call (.f 45) [(.t 6)]),
ia 1 (.new [(.p (.i .i64 0)),(.p (.i .i64 0)),(.p (.s [])),.nil]),
io (.st 4 (.t 1) (.t 7))]) (.seq (.reg [
  ia 8 (.call (.f 61) [(ci 0)]),
ia 9 (.call (.f 61) [(ci 0)]),
ia 10 (.call (.f 61) [(ci 5)]),
ia 11 (.call (.f 46) [(.t 9),(.t 10)]),
ia 12 (.call (.f 46) [(.t 8),(.t 11)]),
ia 13 (.bsl 4 24 [(.p (.i .i64 0)),(.p (.i .i64 0)),(.p (.s [])),.nil] 1 [(0,(.t 12))]),
ia 14 (.build [(.p (.i .i64 0)),(.p (.i .i64 0)),(.p (.s [])),.nil] [(0,(1,(ci 6))),(2,(1,(.c (.a (.p (.s [65])))))),(1,(1,(ci 2))),(3,(1,(.t 13)))]),
ia 2 (.new [(.p (.i .i64 0)),(.p (.i .i64 0)),(.p (.s [])),.nil]),
io (.st 4 (.t 2) (.t 14))]) (.fz [1,2] (.seq (.reg [
  ia 15 (.ld 4 true (.t 1)),
ia 16 (.call (.f 37) [(.t 15)]),
ia 17 (.bsl 1 3 [(.p (.i .i64 0))] 2 [(0,(ci 2)),(1,(ci 0))]),
ia 18 (.call (.f 34) [(.t 16),(.t 17)]),
ia 19 (.mv (.t 18)),
ig 20 19 true (.ld 4 true (.t 1)),
ig 21 19 true (.call (.f 41) [(.t 20)]),
ig 22 19 true (.bin .eql (.t 21) (ci 1)),
ia 23 (.pick (.t 19) (.t 22) (.c (.a (.p (.b false))))),
ia 24 (.mv (.t 23)),
ig 25 24 true (.ld 4 true (.t 1)),
ig 26 24 true (.call (.f 42) [(.t 25)]),
ig 27 24 true (.bin .eql (.t 26) (ci 1)),
ia 28 (.pick (.t 24) (.t 27) (.c (.a (.p (.b false))))),
ia 29 (.mv (.t 28)),
ig 30 29 true (.ld 4 true (.t 1)),
ig 31 29 true (.call (.f 39) [(.t 30)]),
ig 32 29 true (.not (.t 31)),
ia 33 (.pick (.t 29) (.t 32) (.c (.a (.p (.b false))))),
ia 34 (.mv (.t 33)),
ig 35 34 true (.call (.f 61) [(ci 0)]),
ig 36 34 true (.call (.f 45) [(.t 35)]),
ig 37 34 true (.call (.f 39) [(.t 36)]),
ia 38 (.pick (.t 34) (.t 37) (.c (.a (.p (.b false))))),
ia 39 (.mv (.t 38)),
ig 40 39 true (.ld 4 true (.t 2)),
ig 41 39 true (.call (.f 37) [(.t 40)]),
ig 42 39 true (.bsl 1 3 [(.p (.i .i64 0))] 2 [(0,(ci 0)),(1,(ci 2))]),
ig 43 39 true (.call (.f 34) [(.t 41),(.t 42)]),
ia 44 (.pick (.t 39) (.t 43) (.c (.a (.p (.b false))))),
ia 45 (.mv (.t 44)),
ig 46 45 true (.ld 4 true (.t 2)),
ig 47 45 true (.call (.f 35) [(.t 46)]),
ig 48 45 true (.bsl 1 3 [(.p (.i .i64 0))] 1 [(0,(ci 3))]),
ig 49 45 true (.call (.f 34) [(.t 47),(.t 48)]),
ia 50 (.pick (.t 45) (.t 49) (.c (.a (.p (.b false))))),
ia 51 (.mv (.t 50)),
ig 52 51 true (.call (.f 61) [(ci 4)]),
ig 53 51 true (.call (.f 61) [(ci 1)]),
ig 54 51 true (.call (.f 61) [(ci 4)]),
ig 55 51 true (.call (.f 46) [(.t 53),(.t 54)]),
ig 56 51 true (.call (.f 46) [(.t 52),(.t 55)]),
ig 57 51 true (.call (.f 35) [(.t 56)]),
ig 58 51 true (.bsl 1 3 [(.p (.i .i64 0))] 2 [(0,(ci 1)),(1,(ci 4))]),
ig 59 51 true (.call (.f 34) [(.t 57),(.t 58)]),
ia 60 (.pick (.t 51) (.t 59) (.c (.a (.p (.b false))))),
ia 61 (.mv (.t 60)),
ig 62 61 true (.ld 4 true (.t 1)),
ig 63 61 true (.call (.f 35) [(.t 62)]),
ig 64 61 true (.len false (.t 63)),
ig 65 61 true (.bin .eql (.t 64) (ci 0)),
ia 66 (.pick (.t 61) (.t 65) (.c (.a (.p (.b false))))),
ia 0 (.mv (.t 66))]) .ret))))),[(.tmp 0)]⟩
theorem cc33 : ccF Try.prog [] Try.f33 = some (stripF F33) := by kernel_rfl
def F34b0 : C := (.seq (.seq (.reg [
  ia 11 (.mv (.t 5)),
ia 12 (.mv (.t 0)),
ia 13 (.len false (.t 12)),
ia 14 (.bin .lss (.t 11) (.t 13))]) (.cond (.t 14) .skip (.exit 0))) (.seq (.block 1 (.seq (.reg [
  ir 17 (.mv (.t 0)),
ir 18 (.mv (.t 5)),
ir 19 (.ias 1 (.t 17) (.t 18)),
ir 20 (.ld 1 false (.t 19)),
ir 21 (.mv (.t 1)),
ir 22 (.mv (.t 5)),
ir 23 (.ias 1 (.t 21) (.t 22)),
ir 24 (.ld 1 false (.t 23)),
ia 25 (.bin .neq (.t 20) (.t 24))]) (.cond (.t 25) (.seq (.reg [
  ia 4 (.mv (.c (.a (.p (.b false)))))]) .ret) .skip))) (.reg [
  ia 15 (.mv (.t 5)),
ia 16 (.bin .add (.t 15) (ci 1)),
ia 5 (.mv (.t 16))])))
def F34 : FnC := ⟨2,(.seq (.reg [
  ia 4 (.mv (.c (.a (.p (.b false)))))]) (.seq (.seq (.reg [
  ia 6 (.mv (.t 0)),
ia 7 (.len false (.t 6)),
ia 8 (.mv (.t 1)),
ia 9 (.len false (.t 8)),
ia 10 (.bin .neq (.t 7) (.t 9))]) (.cond (.t 10) (.seq (.reg [
  ia 4 (.mv (.c (.a (.p (.b false)))))]) .ret) .skip)) (.seq (.seq (.reg [
  ia 5 (.mv (ci 0))]) (.block 0 (.loop F34b0))) (.seq (.reg [
  ia 4 (.mv (.c (.a (.p (.b true)))))]) .ret)))),[(.tmp 4)]⟩
theorem cc34 : ccF Try.prog [] Try.f34 = some (stripF F34) := by kernel_rfl
def F37 : FnC := ⟨1,(.seq (.reg [
  ia 1 (.box 4 (.t 0)),
ia 2 (.mv (.c (.a .nil)))]) (.seq (.reg [
  ia 3 (.ld 4 true (.t 1)),
ia 4 (.call (.f 67) [(.t 3)]),
ia 5 (.call (.f 66) [(.t 4)]),
ia 2 (.mv (.t 5))]) .ret)),[(.tmp 2)]⟩
theorem cc37 : ccF Try.prog [] Try.f37 = some (stripF F37) := by kernel_rfl
def F39 : FnC := ⟨1,(.seq (.reg [
  ia 1 (.box 4 (.t 0)),
ia 2 (.mv (.c (.a (.p (.b false)))))]) (.seq (.reg [
  ia 3 (.ld 4 true (.t 1)),
ia 4 (.call (.f 41) [(.t 3)]),
ia 5 (.bin .eql (.t 4) (ci 0)),
ia 2 (.mv (.t 5))]) .ret)),[(.tmp 2)]⟩
theorem cc39 : ccF Try.prog [] Try.f39 = some (stripF F39) := by kernel_rfl
def F41 : FnC := ⟨1,(.seq (.reg [
  ia 1 (.box 4 (.t 0)),
ia 2 (.mv (ci 0))]) (.seq (.reg [
  ia 3 (.new [(.p (.i .i64 0))]),
io (.st 1 (.t 3) (ci 0))]) (.seq (.seq (.reg [
  ia 5 (.ld 4 true (.t 1)),
ia 6 (.call (.f 67) [(.t 5)])]) (.block 0 (.rng (.t 6) [7] (.reg [
  ia 4 (.mv (.t 7))]) (.block 1 (.reg [
  ia 8 (.ld 1 false (.t 3)),
ia 9 (.mv (.t 4)),
ia 10 (.bin .sub (.t 9) (ci 1)),
ia 11 (.mx (.t 10) (ci 0)),
ia 12 (.bin .add (.t 8) (.t 11)),
io (.st 1 (.t 3) (.t 12))]))))) (.seq (.reg [
  ia 13 (.ld 1 false (.t 3)),
ia 2 (.mv (.t 13))]) .ret)))),[(.tmp 2)]⟩
theorem cc41 : ccF Try.prog [] Try.f41 = some (stripF F41) := by kernel_rfl
def F42 : FnC := ⟨1,(.seq (.reg [
  ia 1 (.box 4 (.t 0)),
ia 2 (.mv (ci 0))]) (.seq (.reg [
  ia 3 (.new [(.p (.i .i64 0))]),
io (.st 1 (.t 3) (ci 0))]) (.seq (.seq (.reg [
  ia 5 (.ld 4 true (.t 1)),
ia 6 (.call (.f 67) [(.t 5)])]) (.block 0 (.rng (.t 6) [7] (.reg [
  ia 4 (.mv (.t 7))]) (.block 1 (.seq (.reg [
  ia 8 (.mv (.t 4)),
ia 9 (.bin .eql (.t 8) (ci 0))]) (.cond (.t 9) (.reg [
  ia 10 (.ld 1 false (.t 3)),
ia 11 (.bin .add (.t 10) (ci 1)),
io (.st 1 (.t 3) (.t 11))]) .skip)))))) (.seq (.reg [
  ia 12 (.ld 1 false (.t 3)),
ia 2 (.mv (.t 12))]) .ret)))),[(.tmp 2)]⟩
theorem cc42 : ccF Try.prog [] Try.f42 = some (stripF F42) := by kernel_rfl
def F45 : FnC := ⟨1,(.seq (.reg [
  ia 1 (.box 4 (.t 0)),
ia 2 (.new [(.p (.i .i64 0)),(.p (.i .i64 0)),(.p (.s [])),.nil])]) (.seq (.reg [
  ia 3 (.ld 4 true (.t 1)),
ia 4 (.bsl 4 24 [(.p (.i .i64 0)),(.p (.i .i64 0)),(.p (.s [])),.nil] 1 [(0,(.t 3))]),
ia 5 (.build [(.p (.i .i64 0)),(.p (.i .i64 0)),(.p (.s [])),.nil] [(0,(1,(ci 2))),(3,(1,(.t 4)))]),
io (.st 4 (.t 2) (.t 5))]) .ret)),[(.cell 2 4 true)]⟩
theorem cc45 : ccF Try.prog [] Try.f45 = some (stripF F45) := by kernel_rfl
def F46 : FnC := ⟨2,(.seq (.reg [
  ia 2 (.box 4 (.t 0)),
ia 3 (.box 4 (.t 1)),
ia 4 (.new [(.p (.i .i64 0)),(.p (.i .i64 0)),(.p (.s [])),.nil])]) (.seq (.reg [
  ia 5 (.ld 4 true (.t 2)),
ia 6 (.ld 4 true (.t 3)),
ia 7 (.bsl 4 24 [(.p (.i .i64 0)),(.p (.i .i64 0)),(.p (.s [])),.nil] 2 [(0,(.t 5)),(1,(.t 6))]),
ia 8 (.build [(.p (.i .i64 0)),(.p (.i .i64 0)),(.p (.s [])),.nil] [(0,(1,(ci 3))),(3,(1,(.t 7)))]),
io (.st 4 (.t 4) (.t 8))]) .ret)),[(.cell 4 4 true)]⟩
theorem cc46 : ccF Try.prog [] Try.f46 = some (stripF F46) := by kernel_rfl
def F47b0 : C := (.seq (.seq (.reg [
  ia 6 (.mv (.t 5)),
ia 7 (.mv (.t 0)),
ia 8 (.len false (.t 7)),
ia 9 (.bin .lss (.t 6) (.t 8))]) (.cond (.t 9) .skip (.exit 0))) (.seq (.block 1 (.seq (.reg [
  ia 12 (.mv (.t 0)),
ia 13 (.mv (.t 5)),
ia 14 (.ias 1 (.t 12) (.t 13)),
ia 15 (.ld 1 false (.t 14)),
ia 16 (.mv (.t 1)),
ia 17 (.bin .eql (.t 15) (.t 16))]) (.cond (.t 17) (.seq (.reg [
  ia 4 (.mv (.c (.a (.p (.b true)))))]) .ret) .skip))) (.reg [
  ia 10 (.mv (.t 5)),
ia 11 (.bin .add (.t 10) (ci 1)),
ia 5 (.mv (.t 11))])))
def F47 : FnC := ⟨2,(.seq (.reg [
  ia 4 (.mv (.c (.a (.p (.b false)))))]) (.seq (.seq (.reg [
  ia 5 (.mv (ci 0))]) (.block 0 (.loop F47b0))) (.seq (.reg [
  ia 4 (.mv (.c (.a (.p (.b false)))))]) .ret))),[(.tmp 4)]⟩
theorem cc47 : ccF Try.prog [] Try.f47 = some (stripF F47) := by kernel_rfl
def F49b0 : C := (.seq (.seq (.reg [
  ia 16 (.mv (.t 7)),
ia 17 (.fad 3 (.t 3)),
ia 18 (.ld 1 false (.t 17)),
ia 19 (.len false (.t 18)),
ia 20 (.bin .lss (.t 16) (.t 19))]) (.cond (.t 20) .skip (.exit 0))) (.seq (.block 1 (.seq (.reg [
  ia 23 (.fad 3 (.t 3)),
ia 24 (.ld 1 false (.t 23)),
ia 25 (.mv (.t 7)),
ia 26 (.ias 4 (.t 24) (.t 25)),
ia 27 (.ld 4 true (.t 26)),
ia 28 (.mv (.t 1)),
ia 29 (.mv (.t 2)),
ia 30 (.bin .sub (.t 29) (ci 1)),
ia 31 (.call (.f 49) [(.t 27),(.t 28),(.t 30)]),
ia 1 (.mv (.t 31))]) (.seq (.reg [
  ia 32 (.mv (.t 1)),
ia 33 (.bin .lss (.t 32) (ci 0))]) (.cond (.t 33) (.seq (.reg [
  ia 6 (.mv (.c (.a (.p (.i .i64 (-1))))))]) .ret) .skip)))) (.reg [
  ia 21 (.mv (.t 7)),
ia 22 (.bin .add (.t 21) (ci 1)),
ia 7 (.mv (.t 22))])))
def F49 : FnC := ⟨3,(.seq (.reg [
  ia 3 (.box 4 (.t 0)),
ia 6 (.mv (ci 0))]) (.seq (.seq (.reg [
  ia 8 (.mv (.t 1)),
ia 9 (.bin .lss (.t 8) (ci 1)),
ia 10 (.mv (.t 9)),
ig 11 10 false (.mv (.t 2)),
ig 12 10 false (.bin .lss (.t 11) (ci 1)),
ia 13 (.pick (.t 10) (.c (.a (.p (.b true)))) (.t 12))]) (.cond (.t 13) (.seq (.reg [
  ia 6 (.mv (.c (.a (.p (.i .i64 (-1))))))]) .ret) .skip)) (.seq (.reg [
  ia 14 (.mv (.t 1)),
ia 15 (.bin .sub (.t 14) (ci 1)),
ia 1 (.mv (.t 15))]) (.seq (.seq (.reg [
  ia 7 (.mv (ci 0))]) (.block 0 (.loop F49b0))) (.seq (.reg [
  ia 34 (.mv (.t 1)),
ia 6 (.mv (.t 34))]) .ret))))),[(.tmp 6)]⟩
theorem cc49 : ccF Try.prog [] Try.f49 = some (stripF F49) := by kernel_rfl
def F51b0 : C := (.seq (.reg [
  ia 36 (.bin .lss (.t 35) (.t 34))]) (.seq (.cond (.t 36) .skip (.exit 1)) (.seq (.block 2 (.seq (.reg [
  ia 37 (.mv (.t 35)),
ia 38 (.ias 4 (.t 33) (.t 35)),
ia 39 (.ld 4 true (.t 38)),
ia 9 (.new [(.p (.i .i64 0)),(.p (.i .i64 0)),(.p (.s [])),.nil]),
ia 8 (.mv (.t 37)),
io (.st 4 (.t 9) (.t 39))]) (.reg [
  ia 40 (.mv (.t 7)),
ia 41 (.mv (.t 8)),
ia 42 (.ld 4 true (.t 9)),
ia 43 (.mv (.t 1)),
ia 44 (.mv (.t 2)),
ia 45 (.call (.f 51) [(.t 42),(.t 43),(.t 44)]),
ia 46 (.ias 4 (.t 40) (.t 41)),
io (.st 4 (.t 46) (.t 45))]))) (.reg [
  ia 47 (.bin .add (.t 35) (ci 1)),
ia 35 (.mv (.t 47))]))))
def F51 : FnC := ⟨3,(.seq (.reg [
  ia 3 (.box 4 (.t 0)),
ia 6 (.new [(.p (.i .i64 0)),(.p (.i .i64 0)),(.p (.s [])),.nil])]) (.seq (.seq (.reg [
  ia 10 (.fad 0 (.t 3)),
ia 11 (.ld 1 false (.t 10))]) (.block 0 (.seq (.reg [
  ia 13 (.bin .eql (.t 11) (ci 1)),
ia 12 (.mv (.t 13))]) (.cond (.t 12) (.seq (.reg [
  ia 14 (.mv (.t 2)),
ia 15 (.ld 4 true (.t 3)),
ia 16 (.mv (.t 1)),
ia 17 (.call (.t 14) [(.t 15),(.t 16)]),
io (.st 4 (.t 6) (.t 17))]) .ret) (.seq (.reg [
  ia 19 (.bin .eql (.t 11) (ci 2)),
ia 18 (.mv (.t 19))]) (.cond (.t 18) (.reg [
  ia 20 (.mv (.t 1)),
ia 21 (.bin .add (.t 20) (ci 1)),
ia 1 (.mv (.t 21))]) (.seq (.reg [
  ia 23 (.bin .eql (.t 11) (ci 6)),
ia 22 (.mv (.t 23))]) (.cond (.t 22) (.reg [
  ia 24 (.mv (.t 1)),
ia 25 (.fad 1 (.t 3)),
ia 26 (.ld 1 false (.t 25)),
ia 27 (.bin .add (.t 24) (.t 26)),
ia 1 (.mv (.t 27))]) .skip)))))))) (.seq (.reg [
  ia 28 (.fad 3 (.t 3)),
ia 29 (.ld 1 false (.t 28)),
ia 30 (.len false (.t 29)),
ia 31 (.msl 4 24 56 [(.p (.i .i64 0)),(.p (.i .i64 0)),(.p (.s [])),.nil] (.t 30) (.t 30)),
ia 7 (.mv (.t 31))]) (.seq (.seq (.reg [
  ia 32 (.fad 3 (.t 3)),
ia 33 (.ld 1 false (.t 32)),
ia 34 (.len false (.t 33)),
ia 35 (.mv (ci 0))]) (.block 1 (.loop F51b0))) (.seq (.reg [
  ia 48 (.mv (.t 7)),
ia 49 (.fad 3 (.t 3)),
io (.st 1 (.t 49) (.t 48))]) (.seq (.reg [
  ia 50 (.ld 4 true (.t 3)),
io (.st 4 (.t 6) (.t 50))]) .ret)))))),[(.cell 6 4 true)]⟩
theorem cc51 : ccF Try.prog [] Try.f51 = some (stripF F51) := by kernel_rfl
def F57 : FnC := ⟨4,(.seq (.reg [
  ia 4 (.box 4 (.t 0)),
ia 6 (.new [(.p (.i .i64 0)),(.p (.i .i64 0)),(.p (.s [])),.nil])]) (.seq (.seq (.reg [
  ia 7 (.fad 1 (.t 4)),
ia 8 (.ld 1 false (.t 7)),
ia 9 (.ld 1 false (.t 2)),
ia 10 (.mv (.t 1)),
ia 11 (.bin .add (.t 9) (.t 10)),
ia 12 (.bin .eql (.t 8) (.t 11))]) (.cond (.t 12) (.reg [
  ia 13 (.ld 1 false (.t 3)),
ia 14 (.bin .add (.t 13) (ci 1)),
io (.st 1 (.t 3) (.t 14))]) .skip)) (.seq (.reg [
  ia 15 (.ld 4 true (.t 4)),
io (.st 4 (.t 6) (.t 15))]) .ret))),[(.cell 6 4 true)]⟩
theorem cc57 : ccF Try.prog [] Try.f57 = some (stripF F57) := by kernel_rfl
def F60b1 : C := (.seq (.seq (.reg [
  ia 52 (.mv (.t 8)),
ia 53 (.mv (.t 7)),
ia 54 (.bin .lss (.t 52) (.t 53)),
ia 55 (.mv (.t 54)),
ig 56 55 true (.fad 0 (.t 3)),
ig 57 55 true (.ld 1 false (.t 56)),
ig 58 55 true (.bin .eql (.t 57) (ci 5)),
ia 59 (.pick (.t 55) (.t 58) (.c (.a (.p (.b false)))))]) (.cond (.t 59) .skip (.exit 2))) (.seq (.block 3 (.seq (.reg [
  ir 62 (.fad 3 (.t 3)),
ir 63 (.ld 1 false (.t 62)),
ir 64 (.mv (.t 8)),
ir 65 (.ias 4 (.t 63) (.t 64)),
ir 66 (.fad 2 (.t 65)),
ir 67 (.ld 1 false (.t 66)),
ir 68 (.fad 3 (.t 3)),
ir 69 (.ld 1 false (.t 68)),
ir 70 (.mv (.t 7)),
ir 71 (.ias 4 (.t 69) (.t 70)),
ir 72 (.fad 2 (.t 71)),
ir 73 (.ld 1 false (.t 72)),
ia 74 (.bin .eql (.t 67) (.t 73))]) (.cond (.t 74) (.seq (.reg [
  ia 6 (.mv (.c (.a (.p (.b false)))))]) .ret) .skip))) (.reg [
  ia 60 (.mv (.t 8)),
ia 61 (.bin .add (.t 60) (ci 1)),
ia 8 (.mv (.t 61))])))
def F60b0 : C := (.seq (.seq (.reg [
  ia 30 (.mv (.t 7)),
ia 31 (.fad 3 (.t 3)),
ia 32 (.ld 1 false (.t 31)),
ia 33 (.len false (.t 32)),
ia 34 (.bin .lss (.t 30) (.t 33))]) (.cond (.t 34) .skip (.exit 0))) (.seq (.block 1 (.seq (.seq (.reg [
  ir 37 (.fad 3 (.t 3)),
ir 38 (.ld 1 false (.t 37)),
ir 39 (.mv (.t 7)),
ir 40 (.ias 4 (.t 38) (.t 39)),
ir 41 (.ld 4 true (.t 40)),
ir 42 (.mv (.t 1)),
ir 43 (.fad 0 (.t 3)),
ir 44 (.ld 1 false (.t 43)),
ir 45 (.bin .eql (.t 44) (ci 5)),
ir 46 (.mv (.t 45)),
ih 47 46 true (.mv (.t 7)),
ih 48 46 true (.bin .gtr (.t 47) (ci 0)),
ir 49 (.pick (.t 46) (.t 48) (.c (.a (.p (.b false))))),
ia 50 (.call (.f 60) [(.t 41),(.t 42),(.t 49)]),
ia 51 (.not (.t 50))]) (.cond (.t 51) (.seq (.reg [
  ia 6 (.mv (.c (.a (.p (.b false)))))]) .ret) .skip)) (.seq (.reg [
  ia 8 (.mv (ci 1))]) (.block 2 (.loop F60b1))))) (.reg [
  ia 35 (.mv (.t 7)),
ia 36 (.bin .add (.t 35) (ci 1)),
ia 7 (.mv (.t 36))])))
def F60 : FnC := ⟨3,(.seq (.reg [
  ia 3 (.box 4 (.t 0)),
ia 6 (.mv (.c (.a (.p (.b false)))))]) (.seq (.seq (.reg [
  ia 9 (.mv (.t 1)),
ia 10 (.bin .lss (.t 9) (ci 0)),
ia 11 (.mv (.t 10)),
ig 12 11 false (.ld 4 true (.t 3)),
ig 13 11 false (.mv (.t 1)),
ig 14 11 false (.mv (.t 2)),
ig 15 11 false (.call (.f 70) [(.t 12),(.t 13),(.t 14)]),
ig 16 11 false (.not (.t 15)),
ia 17 (.pick (.t 11) (.c (.a (.p (.b true)))) (.t 16))]) (.cond (.t 17) (.seq (.reg [
  ia 6 (.mv (.c (.a (.p (.b false)))))]) .ret) .skip)) (.seq (.seq (.reg [
  ia 18 (.fad 0 (.t 3)),
ia 19 (.ld 1 false (.t 18)),
ia 20 (.bin .eql (.t 19) (ci 2))]) (.cond (.t 20) (.reg [
  ia 21 (.mv (.t 1)),
ia 22 (.bin .add (.t 21) (ci 1)),
ia 1 (.mv (.t 22))]) .skip)) (.seq (.seq (.reg [
  ia 23 (.fad 0 (.t 3)),
ia 24 (.ld 1 false (.t 23)),
ia 25 (.bin .eql (.t 24) (ci 6))]) (.cond (.t 25) (.reg [
  ia 26 (.mv (.t 1)),
ia 27 (.fad 1 (.t 3)),
ia 28 (.ld 1 false (.t 27)),
ia 29 (.bin .add (.t 26) (.t 28)),
ia 1 (.mv (.t 29))]) .skip)) (.seq (.seq (.reg [
  ia 7 (.mv (ci 0))]) (.block 0 (.loop F60b0))) (.seq (.reg [
  ia 6 (.mv (.c (.a (.p (.b true)))))]) .ret)))))),[(.tmp 6)]⟩
theorem cc60 : ccF Try.prog [] Try.f60 = some (stripF F60) := by kernel_rfl
def F61 : FnC := ⟨1,(.seq (.reg [
  ia 2 (.new [(.p (.i .i64 0)),(.p (.i .i64 0)),(.p (.s [])),.nil])]) (.seq (.reg [
  ia 3 (.mv (.t 0)),
ia 4 (.build [(.p (.i .i64 0)),(.p (.i .i64 0)),(.p (.s [])),.nil] [(0,(1,(ci 1))),(1,(1,(.t 3)))]),
io (.st 4 (.t 2) (.t 4))]) .ret)),[(.cell 2 4 true)]⟩
theorem cc61 : ccF Try.prog [] Try.f61 = some (stripF F61) := by kernel_rfl
def F62b0 : C := (.seq (.reg [
  ia 36 (.bin .lss (.t 35) (.t 34))]) (.seq (.cond (.t 36) .skip (.exit 1)) (.seq (.block 2 (.seq (.reg [
  ia 37 (.ias 4 (.t 33) (.t 35)),
ia 38 (.ld 4 true (.t 37)),
ia 7 (.new [(.p (.i .i64 0)),(.p (.i .i64 0)),(.p (.s [])),.nil]),
io (.st 4 (.t 7) (.t 38))]) (.reg [
  ia 39 (.ld 4 true (.t 7)),
ia 40 (.mv (.t 1)),
ia 41 (.mv (.t 2)),
ia 42 (.call (.f 62) [(.t 39),(.t 40),(.t 41)])]))) (.reg [
  ia 43 (.bin .add (.t 35) (ci 1)),
ia 35 (.mv (.t 43))]))))
def F62 : FnC := ⟨3,(.seq (.reg [
  ia 3 (.box 4 (.t 0))]) (.seq (.seq (.reg [
  ia 8 (.fad 0 (.t 3)),
ia 9 (.ld 1 false (.t 8))]) (.block 0 (.seq (.reg [
  ia 11 (.bin .eql (.t 9) (ci 1)),
ia 10 (.mv (.t 11))]) (.cond (.t 10) (.seq (.seq (.reg [
  ia 12 (.fad 1 (.t 3)),
ia 13 (.ld 1 false (.t 12)),
ia 14 (.mv (.t 1)),
ia 15 (.bin .geq (.t 13) (.t 14))]) (.cond (.t 15) (.reg [
  ia 16 (.mv (.t 2)),
ia 17 (.fad 1 (.t 3)),
ia 18 (.ld 1 false (.t 17)),
ia 19 (.mv (.t 1)),
ia 20 (.bin .sub (.t 18) (.t 19)),
ia 21 (.build [] []),
io (.mpt 3 (.t 16) (.t 20) (.t 21))]) .skip)) .ret) (.seq (.reg [
  ia 23 (.bin .eql (.t 9) (ci 2)),
ia 22 (.mv (.t 23))]) (.cond (.t 22) (.reg [
  ia 24 (.mv (.t 1)),
ia 25 (.bin .add (.t 24) (ci 1)),
ia 1 (.mv (.t 25))]) (.seq (.reg [
  ia 27 (.bin .eql (.t 9) (ci 6)),
ia 26 (.mv (.t 27))]) (.cond (.t 26) (.reg [
  ia 28 (.mv (.t 1)),
ia 29 (.fad 1 (.t 3)),
ia 30 (.ld 1 false (.t 29)),
ia 31 (.bin .add (.t 28) (.t 30)),
ia 1 (.mv (.t 31))]) .skip)))))))) (.seq (.reg [
  ia 32 (.fad 3 (.t 3)),
ia 33 (.ld 1 false (.t 32)),
ia 34 (.len false (.t 33)),
ia 35 (.mv (ci 0))]) (.block 1 (.loop F62b0))))),[]⟩
theorem cc62 : ccF Try.prog [] Try.f62 = some (stripF F62) := by kernel_rfl
def F66 : FnC := ⟨1,(.seq (.reg [
  ia 2 (.mv (.c (.a .nil)))]) (.seq (.reg [
  ia 3 (.mv (.t 0)),
ia 4 (.call (.f 74) [(.c (.a .nil)),(.t 3)]),
ia 2 (.mv (.t 4))]) .ret)),[(.tmp 2)]⟩
theorem cc66 : ccF Try.prog [] Try.f66 = some (stripF F66) := by kernel_rfl
def F67 : FnC := ⟨1,(.seq (.reg [
  ia 1 (.box 4 (.t 0)),
ia 2 (.mv (.c (.a (.raw .nilFunc))))]) (.seq (.reg [
  ia 3 (.fn 75 [(.t 1)]),
ia 2 (.mv (.t 3))]) .ret)),[(.tmp 2)]⟩
theorem cc67 : ccF Try.prog [] Try.f67 = some (stripF F67) := by kernel_rfl
def F70 : FnC := ⟨3,(.seq (.reg [
  ia 3 (.box 4 (.t 0)),
ia 6 (.mv (.c (.a (.p (.b false)))))]) (.seq (.reg [
  ia 10 (.fad 3 (.t 3)),
ia 11 (.ld 1 false (.t 10)),
ia 12 (.len false (.t 11)),
ia 7 (.mv (.t 12))]) (.seq (.reg [
  ia 13 (.fad 2 (.t 3)),
ia 14 (.ld 1 false (.t 13)),
ia 15 (.bin .eql (.t 14) (.c (.a (.p (.s [43]))))),
ia 16 (.mv (.t 15)),
ig 17 16 false (.fad 2 (.t 3)),
ig 18 16 false (.ld 1 false (.t 17)),
ig 19 16 false (.bin .eql (.t 18) (.c (.a (.p (.s [45]))))),
ia 20 (.pick (.t 16) (.c (.a (.p (.b true)))) (.t 19)),
ia 21 (.mv (.t 20)),
ig 22 21 false (.fad 2 (.t 3)),
ig 23 21 false (.ld 1 false (.t 22)),
ig 24 21 false (.bin .eql (.t 23) (.c (.a (.p (.s [42]))))),
ia 25 (.pick (.t 21) (.c (.a (.p (.b true)))) (.t 24)),
ia 26 (.mv (.t 25)),
ig 27 26 false (.fad 2 (.t 3)),
ig 28 26 false (.ld 1 false (.t 27)),
ig 29 26 false (.bin .eql (.t 28) (.c (.a (.p (.s [47]))))),
ia 30 (.pick (.t 26) (.c (.a (.p (.b true)))) (.t 29)),
ia 31 (.mv (.t 30)),
ig 32 31 false (.fad 2 (.t 3)),
ig 33 31 false (.ld 1 false (.t 32)),
ig 34 31 false (.bin .eql (.t 33) (.c (.a (.p (.s [60]))))),
ia 35 (.pick (.t 31) (.c (.a (.p (.b true)))) (.t 34)),
ia 36 (.mv (.t 35)),
ig 37 36 false (.fad 2 (.t 3)),
ig 38 36 false (.ld 1 false (.t 37)),
ig 39 36 false (.bin .eql (.t 38) (.c (.a (.p (.s [61,61]))))),
ia 40 (.pick (.t 36) (.c (.a (.p (.b true)))) (.t 39)),
ia 8 (.mv (.t 40))]) (.seq (.reg [
  ia 41 (.fad 2 (.t 3)),
ia 42 (.ld 1 false (.t 41)),
ia 43 (.bin .eql (.t 42) (.c (.a (.p (.s []))))),
ia 44 (.mv (.t 43)),
ig 45 44 true (.fad 1 (.t 3)),
ig 46 44 true (.ld 1 false (.t 45)),
ig 47 44 true (.bin .eql (.t 46) (ci 0)),
ia 48 (.pick (.t 44) (.t 47) (.c (.a (.p (.b false))))),
ia 9 (.mv (.t 48))]) (.seq (.seq (.reg [
  ia 49 (.mv (.t 2))]) (.cond (.t 49) (.seq (.reg [
  ia 50 (.fad 0 (.t 3)),
ia 51 (.ld 1 false (.t 50)),
ia 52 (.bin .eql (.t 51) (ci 6)),
ia 53 (.mv (.t 52)),
ig 54 53 true (.fad 2 (.t 3)),
ig 55 53 true (.ld 1 false (.t 54)),
ig 56 53 true (.call (.f 84) [(.t 55)]),
ia 57 (.pick (.t 53) (.t 56) (.c (.a (.p (.b false))))),
ia 58 (.mv (.t 57)),
ig 59 58 true (.fad 1 (.t 3)),
ig 60 58 true (.ld 1 false (.t 59)),
ig 61 58 true (.bin .geq (.t 60) (ci 0)),
ia 62 (.pick (.t 58) (.t 61) (.c (.a (.p (.b false))))),
ia 63 (.mv (.t 62)),
ig 64 63 true (.fad 1 (.t 3)),
ig 65 63 true (.ld 1 false (.t 64)),
ig 66 63 true (.bin .leq (.t 65) (ci 8)),
ia 67 (.pick (.t 63) (.t 66) (.c (.a (.p (.b false))))),
ia 68 (.mv (.t 67)),
ig 69 68 true (.mv (.t 7)),
ig 70 68 true (.bin .eql (.t 69) (ci 1)),
ia 71 (.pick (.t 68) (.t 70) (.c (.a (.p (.b false))))),
ia 6 (.mv (.t 71))]) .ret) .skip)) (.seq (.seq (.reg [
  ia 72 (.fad 0 (.t 3)),
ia 73 (.ld 1 false (.t 72))]) (.block 0 (.seq (.reg [
  ia 75 (.bin .eql (.t 73) (ci 1)),
ia 74 (.mv (.t 75))]) (.cond (.t 74) (.seq (.reg [
  ia 76 (.fad 2 (.t 3)),
ia 77 (.ld 1 false (.t 76)),
ia 78 (.bin .eql (.t 77) (.c (.a (.p (.s []))))),
ia 79 (.mv (.t 78)),
ig 80 79 true (.mv (.t 7)),
ig 81 79 true (.bin .eql (.t 80) (ci 0)),
ia 82 (.pick (.t 79) (.t 81) (.c (.a (.p (.b false))))),
ia 83 (.mv (.t 82)),
ig 84 83 true (.fad 1 (.t 3)),
ig 85 83 true (.ld 1 false (.t 84)),
ig 86 83 true (.bin .geq (.t 85) (ci 0)),
ia 87 (.pick (.t 83) (.t 86) (.c (.a (.p (.b false))))),
ia 88 (.mv (.t 87)),
ig 89 88 true (.fad 1 (.t 3)),
ig 90 88 true (.ld 1 false (.t 89)),
ig 91 88 true (.mv (.t 1)),
ig 92 88 true (.bin .lss (.t 90) (.t 91)),
ia 93 (.pick (.t 88) (.t 92) (.c (.a (.p (.b false))))),
ia 6 (.mv (.t 93))]) .ret) (.seq (.reg [
  ia 95 (.bin .eql (.t 73) (ci 2)),
ia 94 (.mv (.t 95))]) (.cond (.t 94) (.seq (.reg [
  ia 96 (.mv (.t 9)),
ia 97 (.mv (.t 96)),
ig 98 97 true (.mv (.t 7)),
ig 99 97 true (.bin .eql (.t 98) (ci 1)),
ia 100 (.pick (.t 97) (.t 99) (.c (.a (.p (.b false))))),
ia 6 (.mv (.t 100))]) .ret) (.seq (.reg [
  ia 102 (.bin .eql (.t 73) (ci 3)),
ia 101 (.mv (.t 102))]) (.cond (.t 101) (.seq (.reg [
  ia 103 (.mv (.t 9)),
ia 104 (.mv (.t 103)),
ig 105 104 true (.mv (.t 7)),
ig 106 104 true (.bin .eql (.t 105) (ci 2)),
ia 107 (.pick (.t 104) (.t 106) (.c (.a (.p (.b false))))),
ia 6 (.mv (.t 107))]) .ret) (.seq (.reg [
  ia 109 (.bin .eql (.t 73) (ci 4)),
ia 108 (.mv (.t 109))]) (.cond (.t 108) (.seq (.reg [
  ia 110 (.fad 2 (.t 3)),
ia 111 (.ld 1 false (.t 110)),
ia 112 (.call (.f 84) [(.t 111)]),
ia 113 (.mv (.t 112)),
ig 114 113 true (.fad 1 (.t 3)),
ig 115 113 true (.ld 1 false (.t 114)),
ig 116 113 true (.bin .eql (.t 115) (ci 0)),
ia 117 (.pick (.t 113) (.t 116) (.c (.a (.p (.b false))))),
ia 118 (.mv (.t 117)),
ig 119 118 true (.mv (.t 7)),
ig 120 118 true (.bin .leq (.t 119) (ci 8)),
ia 121 (.pick (.t 118) (.t 120) (.c (.a (.p (.b false))))),
ia 6 (.mv (.t 121))]) .ret) (.seq (.reg [
  ia 123 (.bin .eql (.t 73) (ci 5)),
ia 122 (.mv (.t 123))]) (.cond (.t 122) (.seq (.reg [
  ia 124 (.mv (.t 9)),
ia 125 (.mv (.t 124)),
ig 126 125 true (.mv (.t 7)),
ig 127 125 true (.bin .geq (.t 126) (ci 2)),
ia 128 (.pick (.t 125) (.t 127) (.c (.a (.p (.b false))))),
ia 129 (.mv (.t 128)),
ig 130 129 true (.mv (.t 7)),
ig 131 129 true (.bin .leq (.t 130) (ci 9)),
ia 132 (.pick (.t 129) (.t 131) (.c (.a (.p (.b false))))),
ia 6 (.mv (.t 132))]) .ret) (.seq (.reg [
  ia 134 (.bin .eql (.t 73) (ci 7)),
ia 133 (.mv (.t 134))]) (.cond (.t 133) (.seq (.reg [
  ia 135 (.fad 2 (.t 3)),
ia 136 (.ld 1 false (.t 135)),
ia 137 (.bin .eql (.t 136) (.c (.a (.p (.s []))))),
ia 138 (.mv (.t 137)),
ig 139 138 true (.mv (.t 7)),
ig 140 138 true (.bin .eql (.t 139) (ci 0)),
ia 141 (.pick (.t 138) (.t 140) (.c (.a (.p (.b false))))),
ia 6 (.mv (.t 141))]) .ret) (.seq (.reg [
  ia 143 (.bin .eql (.t 73) (ci 8)),
ia 142 (.mv (.t 143))]) (.cond (.t 142) (.seq (.reg [
  ia 144 (.mv (.t 8)),
ia 145 (.mv (.t 144)),
ig 146 145 true (.fad 1 (.t 3)),
ig 147 145 true (.ld 1 false (.t 146)),
ig 148 145 true (.bin .eql (.t 147) (ci 0)),
ia 149 (.pick (.t 145) (.t 148) (.c (.a (.p (.b false))))),
ia 150 (.mv (.t 149)),
ig 151 150 true (.mv (.t 7)),
ig 152 150 true (.bin .eql (.t 151) (ci 2)),
ia 153 (.pick (.t 150) (.t 152) (.c (.a (.p (.b false))))),
ia 6 (.mv (.t 153))]) .ret) (.seq (.reg [
  ia 155 (.bin .eql (.t 73) (ci 9)),
ia 154 (.mv (.t 155))]) (.cond (.t 154) (.seq (.reg [
  ia 156 (.mv (.t 9)),
ia 157 (.mv (.t 156)),
ig 158 157 true (.mv (.t 7)),
ig 159 157 true (.bin .eql (.t 158) (ci 0)),
ia 160 (.pick (.t 157) (.t 159) (.c (.a (.p (.b false))))),
ia 6 (.mv (.t 160))]) .ret) .skip)))))))))))))))))) (.seq (.reg [
  ia 6 (.mv (.c (.a (.p (.b false)))))]) .ret))))))),[(.tmp 6)]⟩
theorem cc70 : ccF Try.prog [] Try.f70 = some (stripF F70) := by kernel_rfl
def F74 : FnC := ⟨2,(.seq (.reg [
  ia 2 (.box 1 (.t 0)),
ia 4 (.mv (.c (.a .nil)))]) (.seq (.seq (.reg [
  ia 6 (.mv (.t 1))]) (.block 0 (.rng (.t 6) [7] (.reg [
  ia 5 (.mv (.t 7))]) (.block 1 (.reg [
  ia 8 (.ld 1 false (.t 2)),
ia 9 (.mv (.t 5)),
ia 10 (.bsl 1 3 [(.p (.i .i64 0))] 1 [(0,(.t 9))]),
ia 11 (.app 1 3 8 (.t 8) (.t 10)),
io (.st 1 (.t 2) (.t 11))]))))) (.seq (.reg [
  ia 12 (.ld 1 false (.t 2)),
ia 4 (.mv (.t 12))]) .ret))),[(.tmp 4)]⟩
theorem cc74 : ccF Try.prog [] Try.f74 = some (stripF F74) := by kernel_rfl
def F75 : FnC := ⟨2,(.seq (.reg [
  ia 2 (.box 1 (.t 0))]) (.reg [
  ia 3 (.ld 4 true (.t 1)),
ia 4 (.fn 77 [(.t 2)]),
ia 5 (.call (.f 76) [(.t 3),(.t 4)])])),[]⟩
theorem cc75 : ccF Try.prog [] Try.f75 = some (stripF F75) := by kernel_rfl
def F76b0 : C := (.seq (.reg [
  ia 15 (.bin .lss (.t 14) (.t 13))]) (.seq (.cond (.t 15) .skip (.exit 0)) (.seq (.block 1 (.seq (.reg [
  ia 16 (.ias 4 (.t 12) (.t 14)),
ia 17 (.ld 4 true (.t 16)),
ia 6 (.new [(.p (.i .i64 0)),(.p (.i .i64 0)),(.p (.s [])),.nil]),
io (.st 4 (.t 6) (.t 17))]) (.seq (.reg [
  ia 18 (.ld 4 true (.t 6)),
ia 19 (.mv (.t 1)),
ia 20 (.call (.f 76) [(.t 18),(.t 19)]),
ia 21 (.not (.t 20))]) (.cond (.t 21) (.seq (.reg [
  ia 4 (.mv (.c (.a (.p (.b false)))))]) .ret) .skip)))) (.reg [
  ia 22 (.bin .add (.t 14) (ci 1)),
ia 14 (.mv (.t 22))]))))
def F76 : FnC := ⟨2,(.seq (.reg [
  ia 2 (.box 4 (.t 0)),
ia 4 (.mv (.c (.a (.p (.b false)))))]) (.seq (.seq (.reg [
  ia 7 (.mv (.t 1)),
ia 8 (.ld 4 true (.t 2)),
ia 9 (.call (.t 7) [(.t 8)]),
ia 10 (.not (.t 9))]) (.cond (.t 10) (.seq (.reg [
  ia 4 (.mv (.c (.a (.p (.b false)))))]) .ret) .skip)) (.seq (.seq (.reg [
  ia 11 (.fad 3 (.t 2)),
ia 12 (.ld 1 false (.t 11)),
ia 13 (.len false (.t 12)),
ia 14 (.mv (ci 0))]) (.block 0 (.loop F76b0))) (.seq (.reg [
  ia 4 (.mv (.c (.a (.p (.b true)))))]) .ret)))),[(.tmp 4)]⟩
theorem cc76 : ccF Try.prog [] Try.f76 = some (stripF F76) := by kernel_rfl
def F77b0 : C := (.seq (.seq (.reg [
  ia 18 (.mv (.t 6)),
ia 19 (.bin .geq (.t 18) (ci 0))]) (.cond (.t 19) .skip (.exit 0))) (.seq (.block 1 (.seq (.reg [
  ir 22 (.ld 1 false (.t 1)),
ir 23 (.fad 3 (.t 2)),
ir 24 (.ld 1 false (.t 23)),
ir 25 (.ias 4 (.t 24) (ci 0)),
ir 26 (.ld 4 true (.t 25)),
ir 27 (.mv (.t 5)),
ir 28 (.mv (.t 6)),
ir 29 (.bin .add (.t 27) (.t 28)),
ir 30 (.call (.f 23) [(.t 26),(.t 29)]),
ia 31 (.call (.t 22) [(.t 30)]),
ia 32 (.not (.t 31))]) (.cond (.t 32) (.seq (.reg [
  ia 3 (.mv (.c (.a (.p (.b false)))))]) .ret) .skip))) (.reg [
  ia 20 (.mv (.t 6)),
ia 21 (.bin .sub (.t 20) (ci 1)),
ia 6 (.mv (.t 21))])))
def F77 : FnC := ⟨2,(.seq (.reg [
  ia 2 (.box 4 (.t 0)),
ia 3 (.mv (.c (.a (.p (.b false)))))]) (.seq (.reg [
  ia 7 (.ld 4 true (.t 2)),
ia 8 (.call (.f 78) [(.t 7)]),
ia 4 (.mv (.t 8))]) (.seq (.reg [
  ia 5 (.mv (ci 0))]) (.seq (.seq (.reg [
  ia 9 (.fad 0 (.t 2)),
ia 10 (.ld 1 false (.t 9)),
ia 11 (.bin .eql (.t 10) (ci 6))]) (.cond (.t 11) (.reg [
  ia 12 (.fad 1 (.t 2)),
ia 13 (.ld 1 false (.t 12)),
ia 14 (.mv (.t 4)),
ia 15 (.bin .sub (.t 13) (.t 14)),
ia 5 (.mv (.t 15))]) .skip)) (.seq (.seq (.reg [
  ia 16 (.mv (.t 4)),
ia 17 (.bin .sub (.t 16) (ci 1)),
ia 6 (.mv (.t 17))]) (.block 0 (.loop F77b0))) (.seq (.reg [
  ia 3 (.mv (.c (.a (.p (.b true)))))]) .ret)))))),[(.tmp 3)]⟩
theorem cc77 : ccF Try.prog [] Try.f77 = some (stripF F77) := by kernel_rfl
def F78 : FnC := ⟨1,(.seq (.reg [
  ia 1 (.box 4 (.t 0)),
ia 2 (.mv (ci 0))]) (.seq (.block 0 (.seq (.reg [
  ia 4 (.fad 3 (.t 1)),
ia 5 (.ld 1 false (.t 4)),
ia 6 (.len false (.t 5)),
ia 7 (.bin .eql (.t 6) (ci 0)),
ia 3 (.mv (.t 7))]) (.cond (.t 3) (.seq (.reg [
  ia 2 (.mv (ci 0))]) .ret) (.seq (.reg [
  ia 9 (.fad 0 (.t 1)),
ia 10 (.ld 1 false (.t 9)),
ia 11 (.bin .eql (.t 10) (ci 2)),
ia 8 (.mv (.t 11))]) (.cond (.t 8) (.seq (.reg [
  ia 2 (.mv (ci 1))]) .ret) (.seq (.reg [
  ia 13 (.fad 0 (.t 1)),
ia 14 (.ld 1 false (.t 13)),
ia 15 (.bin .eql (.t 14) (ci 6)),
ia 12 (.mv (.t 15))]) (.cond (.t 12) (.seq (.reg [
  ia 16 (.fad 1 (.t 1)),
ia 17 (.ld 1 false (.t 16)),
ia 18 (.mx (.t 17) (ci 0)),
ia 19 (.mn (.t 18) (ci 8)),
ia 2 (.mv (.t 19))]) .ret) .skip))))))) (.seq (.reg [
  ia 2 (.mv (ci 0))]) .ret))),[(.tmp 2)]⟩
theorem cc78 : ccF Try.prog [] Try.f78 = some (stripF F78) := by kernel_rfl
def F84 : FnC := ⟨1,(.seq (.reg [
  ia 2 (.mv (.c (.a (.p (.b false)))))]) (.seq (.seq (.reg [
  ia 5 (.mv (.t 0)),
ia 6 (.bin .eql (.t 5) (.c (.a (.p (.s [])))))]) (.cond (.t 6) (.seq (.reg [
  ia 2 (.mv (.c (.a (.p (.b false)))))]) .ret) .skip)) (.seq (.reg [
  ia 8 (.mv (.t 0)),
ia 9 (.call (.f 88) [(.t 8),(ci 0)]),
ia 7 (.mv (.t 9)),
ia 10 (.ext (.t 7) 0),
ia 11 (.ext (.t 7) 1),
ia 3 (.new [(.p (.i .i64 0)),(.p (.s [])),(.p (.i .i64 0)),(.p (.i .i64 0))]),
io (.st 4 (.t 3) (.t 10)),
ia 4 (.mv (.t 11))]) (.seq (.reg [
  ia 12 (.mv (.t 4)),
ia 13 (.bin .eql (.t 12) (ci 0)),
ia 14 (.mv (.t 13)),
ig 15 14 true (.fad 0 (.t 3)),
ig 16 14 true (.ld 1 false (.t 15)),
ig 17 14 true (.bin .eql (.t 16) (ci 2)),
ia 18 (.pick (.t 14) (.t 17) (.c (.a (.p (.b false))))),
ia 19 (.mv (.t 18)),
ig 20 19 true (.fad 1 (.t 3)),
ig 21 19 true (.ld 1 false (.t 20)),
ig 22 19 true (.mv (.t 0)),
ig 23 19 true (.bin .eql (.t 21) (.t 22)),
ia 24 (.pick (.t 19) (.t 23) (.c (.a (.p (.b false))))),
ia 2 (.mv (.t 24))]) .ret)))),[(.tmp 2)]⟩
theorem cc84 : ccF Try.prog [] Try.f84 = some (stripF F84) := by kernel_rfl
def F88 : FnC := ⟨2,(.seq (.reg [
  ia 4 (.new [(.p (.i .i64 0)),(.p (.s [])),(.p (.i .i64 0)),(.p (.i .i64 0))]),
ia 5 (.mv (ci 0))]) (.seq (.reg [
  ia 12 (.mv (.t 0)),
ia 13 (.mv (.t 1)),
ia 14 (.call (.f 100) [(.t 12),(.t 13)]),
ia 11 (.mv (.t 14)),
ia 15 (.ext (.t 11) 0),
ia 16 (.ext (.t 11) 1),
ia 6 (.mv (.t 15)),
ia 7 (.mv (.t 16))]) (.seq (.seq (.reg [
  ia 17 (.mv (.t 6)),
ia 18 (.bin .eql (.t 17) (ci 0))]) (.cond (.t 18) (.seq (.reg [
  ia 19 (.mv (.t 0)),
ia 20 (.mv (.t 1)),
ia 21 (.call (.f 101) [(.t 19),(.t 20)]),
ia 8 (.mv (.t 21))]) (.seq (.seq (.reg [
  ia 22 (.mv (.t 8)),
ia 23 (.bin .eql (.t 22) (ci 0))]) (.cond (.t 23) (.seq (.reg [
  ia 24 (.build [(.p (.i .i64 0)),(.p (.s [])),(.p (.i .i64 0)),(.p (.i .i64 0))] []),
io (.st 4 (.t 4) (.t 24)),
ia 5 (.mv (ci 10))]) .ret) .skip)) (.seq (.reg [
  ia 25 (.mv (.t 0)),
ia 26 (.mv (.t 1)),
ia 27 (.mv (.t 1)),
ia 28 (.mv (.t 8)),
ia 29 (.bin .add (.t 27) (.t 28)),
ia 30 (.sub (.t 25) (.some (.t 26)) (.some (.t 29))),
ia 31 (.mv (.t 1)),
ia 32 (.build [(.p (.i .i64 0)),(.p (.s [])),(.p (.i .i64 0)),(.p (.i .i64 0))] [(0,(1,(ci 5))),(1,(1,(.t 30))),(3,(1,(.t 31)))]),
io (.st 4 (.t 4) (.t 32)),
ia 5 (.mv (ci 0))]) .ret))) .skip)) (.seq (.reg [
  ia 33 (.mv (.t 0)),
ia 34 (.mv (.t 1)),
ia 35 (.mv (.t 1)),
ia 36 (.mv (.t 6)),
ia 37 (.bin .add (.t 35) (.t 36)),
ia 38 (.sub (.t 33) (.some (.t 34)) (.some (.t 37))),
ia 39 (.mv (.t 1)),
ia 40 (.build [(.p (.i .i64 0)),(.p (.s [])),(.p (.i .i64 0)),(.p (.i .i64 0))] [(1,(1,(.t 38))),(3,(1,(.t 39)))]),
ia 9 (.new [(.p (.i .i64 0)),(.p (.s [])),(.p (.i .i64 0)),(.p (.i .i64 0))]),
io (.st 4 (.t 9) (.t 40))]) (.seq (.reg [
  ia 41 (.mv (.t 0)),
ia 42 (.mv (.t 1)),
ia 43 (.ixs (.t 41) (.t 42)),
ia 44 (.call (.f 102) [(.t 43)]),
ia 10 (.mv (.t 44))]) (.seq (.seq (.reg [
  ia 45 (.mv (.t 10)),
ia 46 (.bin .eql (.t 45) (ci 3))]) (.cond (.t 46) (.seq (.seq (.reg [
  ia 47 (.mv (.t 7))]) (.cond (.t 47) (.seq (.reg [
  ia 48 (.build [(.p (.i .i64 0)),(.p (.s [])),(.p (.i .i64 0)),(.p (.i .i64 0))] []),
io (.st 4 (.t 4) (.t 48)),
ia 5 (.mv (ci 10))]) .ret) .skip)) (.seq (.seq (.reg [
  ia 49 (.mv (.t 6)),
ia 50 (.bin .gtr (.t 49) (ci 18)),
ia 51 (.mv (.t 50)),
ig 52 51 false (.mv (.t 6)),
ig 53 51 false (.bin .gtr (.t 52) (ci 1)),
ig 54 51 false (.mv (.t 53)),
ig 55 54 true (.mv (.t 0)),
ig 56 54 true (.mv (.t 1)),
ig 57 54 true (.ixs (.t 55) (.t 56)),
ig 58 54 true (.bin .eql (.t 57) (.c (.a (.p (.i .u8 48))))),
ig 59 51 false (.pick (.t 54) (.t 58) (.c (.a (.p (.b false))))),
ia 60 (.pick (.t 51) (.c (.a (.p (.b true)))) (.t 59))]) (.cond (.t 60) (.seq (.reg [
  ia 61 (.build [(.p (.i .i64 0)),(.p (.s [])),(.p (.i .i64 0)),(.p (.i .i64 0))] []),
io (.st 4 (.t 4) (.t 61)),
ia 5 (.mv (ci 11))]) .ret) .skip)) (.seq (.reg [
  ia 62 (.fad 0 (.t 9)),
io (.st 1 (.t 62) (ci 3))]) (.seq (.reg [
  ia 63 (.fad 1 (.t 9)),
ia 64 (.ld 1 false (.t 63)),
ia 65 (.call (.f 103) [(.t 64)]),
ia 66 (.fad 2 (.t 9)),
io (.st 1 (.t 66) (.t 65))]) (.seq (.reg [
  ia 67 (.ld 4 true (.t 9)),
io (.st 4 (.t 4) (.t 67)),
ia 5 (.mv (ci 0))]) .ret))))) .skip)) (.seq (.seq (.reg [
  ia 68 (.mv (.t 6)),
ia 69 (.bin .gtr (.t 68) (ci 16))]) (.cond (.t 69) (.seq (.reg [
  ia 70 (.build [(.p (.i .i64 0)),(.p (.s [])),(.p (.i .i64 0)),(.p (.i .i64 0))] []),
io (.st 4 (.t 4) (.t 70)),
ia 5 (.mv (ci 11))]) .ret) .skip)) (.seq (.reg [
  ia 71 (.mv (.t 10)),
ia 72 (.fad 0 (.t 9)),
io (.st 1 (.t 72) (.t 71))]) (.seq (.seq (.reg [
  ia 73 (.fad 1 (.t 9)),
ia 74 (.ld 1 false (.t 73)),
ia 75 (.call (.f 104) [(.t 74)])]) (.cond (.t 75) (.reg [
  ia 76 (.fad 0 (.t 9)),
io (.st 1 (.t 76) (ci 4))]) .skip)) (.seq (.reg [
  ia 77 (.ld 4 true (.t 9)),
io (.st 4 (.t 4) (.t 77)),
ia 5 (.mv (ci 0))]) .ret)))))))))),[(.cell 4 4 true),(.tmp 5)]⟩
theorem cc88 : ccF Try.prog [] Try.f88 = some (stripF F88) := by kernel_rfl
def F100b0 : C := (.seq (.seq (.reg [
  ia 9 (.mv (.t 1)),
ia 10 (.mv (.t 6)),
ia 11 (.bin .add (.t 9) (.t 10)),
ia 12 (.mv (.t 0)),
ia 13 (.len true (.t 12)),
ia 14 (.bin .lss (.t 11) (.t 13))]) (.cond (.t 14) .skip (.exit 0))) (.block 1 (.seq (.reg [
  ia 15 (.mv (.t 0)),
ia 16 (.mv (.t 1)),
ia 17 (.mv (.t 6)),
ia 18 (.bin .add (.t 16) (.t 17)),
ia 19 (.ixs (.t 15) (.t 18)),
ia 20 (.call (.f 102) [(.t 19)]),
ia 8 (.mv (.t 20))]) (.seq (.seq (.reg [
  ia 21 (.mv (.t 8)),
ia 22 (.bin .lss (.t 21) (ci 1)),
ia 23 (.mv (.t 22)),
ig 24 23 false (.mv (.t 8)),
ig 25 23 false (.bin .gtr (.t 24) (ci 3)),
ia 26 (.pick (.t 23) (.c (.a (.p (.b true)))) (.t 25))]) (.cond (.t 26) (.seq (.reg [
  ia 27 (.mv (.t 6)),
ia 28 (.mv (.t 7)),
ia 4 (.mv (.t 27)),
ia 5 (.mv (.t 28))]) .ret) .skip)) (.seq (.reg [
  ia 29 (.mv (.t 7)),
ia 30 (.mv (.t 29)),
ig 31 30 false (.mv (.t 8)),
ig 32 30 false (.bin .lss (.t 31) (ci 3)),
ia 33 (.pick (.t 30) (.c (.a (.p (.b true)))) (.t 32)),
ia 7 (.mv (.t 33))]) (.reg [
  ia 34 (.mv (.t 6)),
ia 35 (.bin .add (.t 34) (ci 1)),
ia 6 (.mv (.t 35))]))))))
def F100 : FnC := ⟨2,(.seq (.reg [
  ia 4 (.mv (ci 0)),
ia 5 (.mv (.c (.a (.p (.b false)))))]) (.seq (.reg [
  ia 6 (.mv (ci 0)),
ia 7 (.mv (.c (.a (.p (.b false)))))]) (.seq (.block 0 (.loop F100b0)) (.seq (.reg [
  ia 36 (.mv (.t 6)),
ia 37 (.mv (.t 7)),
ia 4 (.mv (.t 36)),
ia 5 (.mv (.t 37))]) .ret)))),[(.tmp 4),(.tmp 5)]⟩
theorem cc100 : ccF Try.prog [] Try.f100 = some (stripF F100) := by kernel_rfl
def F101b0 : C := (.seq (.seq (.reg [
  ia 27 (.mv (.t 5)),
ia 28 (.bin .lss (.t 27) (ci 13))]) (.cond (.t 28) .skip (.exit 0))) (.seq (.block 1 (.seq (.reg [
  ir 31 (.mv (.t 5)),
ir 32 (.ixs (.c (.a (.p (.s [92,46,40,41,61,123,125,124,43,45,42,47,60])))) (.t 31)),
ir 33 (.mv (.t 0)),
ir 34 (.mv (.t 1)),
ir 35 (.ixs (.t 33) (.t 34)),
ia 36 (.bin .eql (.t 32) (.t 35))]) (.cond (.t 36) (.seq (.reg [
  ia 4 (.mv (ci 1))]) .ret) .skip))) (.reg [
  ia 29 (.mv (.t 5)),
ia 30 (.bin .add (.t 29) (ci 1)),
ia 5 (.mv (.t 30))])))
def F101 : FnC := ⟨2,(.seq (.reg [
  ia 4 (.mv (ci 0))]) (.seq (.seq (.reg [
  ia 6 (.mv (.t 1)),
ia 7 (.bin .add (.t 6) (ci 1)),
ia 8 (.mv (.t 0)),
ia 9 (.len true (.t 8)),
ia 10 (.bin .lss (.t 7) (.t 9)),
ia 11 (.mv (.t 10)),
ig 12 11 true (.mv (.t 0)),
ig 13 11 true (.mv (.t 1)),
ig 14 11 true (.mv (.t 1)),
ig 15 11 true (.bin .add (.t 14) (ci 2)),
ig 16 11 true (.sub (.t 12) (.some (.t 13)) (.some (.t 15))),
ig 17 11 true (.bin .eql (.t 16) (.c (.a (.p (.s [45,62]))))),
ig 18 11 true (.mv (.t 17)),
ig 19 18 false (.mv (.t 0)),
ig 20 18 false (.mv (.t 1)),
ig 21 18 false (.mv (.t 1)),
ig 22 18 false (.bin .add (.t 21) (ci 2)),
ig 23 18 false (.sub (.t 19) (.some (.t 20)) (.some (.t 22))),
ig 24 18 false (.bin .eql (.t 23) (.c (.a (.p (.s [61,61]))))),
ig 25 11 true (.pick (.t 18) (.c (.a (.p (.b true)))) (.t 24)),
ia 26 (.pick (.t 11) (.t 25) (.c (.a (.p (.b false)))))]) (.cond (.t 26) (.seq (.reg [
  ia 4 (.mv (ci 2))]) .ret) .skip)) (.seq (.seq (.reg [
  ia 5 (.mv (ci 0))]) (.block 0 (.loop F101b0))) (.seq (.reg [
  ia 4 (.mv (ci 0))]) .ret)))),[(.tmp 4)]⟩
theorem cc101 : ccF Try.prog [] Try.f101 = some (stripF F101) := by kernel_rfl
def F102 : FnC := ⟨1,(.seq (.reg [
  ia 2 (.mv (ci 0))]) (.seq (.seq (.reg [
  ia 3 (.mv (.t 0)),
ia 4 (.bin .geq (.t 3) (.c (.a (.p (.i .u8 97))))),
ia 5 (.mv (.t 4)),
ig 6 5 true (.mv (.t 0)),
ig 7 5 true (.bin .leq (.t 6) (.c (.a (.p (.i .u8 122))))),
ia 8 (.pick (.t 5) (.t 7) (.c (.a (.p (.b false)))))]) (.cond (.t 8) (.seq (.reg [
  ia 2 (.mv (ci 1))]) .ret) .skip)) (.seq (.seq (.reg [
  ia 9 (.mv (.t 0)),
ia 10 (.bin .geq (.t 9) (.c (.a (.p (.i .u8 65))))),
ia 11 (.mv (.t 10)),
ig 12 11 true (.mv (.t 0)),
ig 13 11 true (.bin .leq (.t 12) (.c (.a (.p (.i .u8 90))))),
ia 14 (.pick (.t 11) (.t 13) (.c (.a (.p (.b false)))))]) (.cond (.t 14) (.seq (.reg [
  ia 2 (.mv (ci 2))]) .ret) .skip)) (.seq (.seq (.reg [
  ia 15 (.mv (.t 0)),
ia 16 (.bin .geq (.t 15) (.c (.a (.p (.i .u8 48))))),
ia 17 (.mv (.t 16)),
ig 18 17 true (.mv (.t 0)),
ig 19 17 true (.bin .leq (.t 18) (.c (.a (.p (.i .u8 57))))),
ia 20 (.pick (.t 17) (.t 19) (.c (.a (.p (.b false)))))]) (.cond (.t 20) (.seq (.reg [
  ia 2 (.mv (ci 3))]) .ret) .skip)) (.seq (.seq (.reg [
  ia 21 (.mv (.t 0)),
ia 22 (.bin .eql (.t 21) (.c (.a (.p (.i .u8 32))))),
ia 23 (.mv (.t 22)),
ig 24 23 false (.mv (.t 0)),
ig 25 23 false (.bin .eql (.t 24) (.c (.a (.p (.i .u8 10))))),
ia 26 (.pick (.t 23) (.c (.a (.p (.b true)))) (.t 25)),
ia 27 (.mv (.t 26)),
ig 28 27 false (.mv (.t 0)),
ig 29 27 false (.bin .eql (.t 28) (.c (.a (.p (.i .u8 9))))),
ia 30 (.pick (.t 27) (.c (.a (.p (.b true)))) (.t 29))]) (.cond (.t 30) (.seq (.reg [
  ia 2 (.mv (ci 4))]) .ret) .skip)) (.seq (.reg [
  ia 2 (.mv (ci 0))]) .ret)))))),[(.tmp 2)]⟩
theorem cc102 : ccF Try.prog [] Try.f102 = some (stripF F102) := by kernel_rfl
def F103b0 : C := (.seq (.seq (.reg [
  ia 5 (.mv (.t 4)),
ia 6 (.mv (.t 0)),
ia 7 (.len true (.t 6)),
ia 8 (.bin .lss (.t 5) (.t 7))]) (.cond (.t 8) .skip (.exit 0))) (.seq (.block 1 (.reg [
  ia 11 (.mv (.t 3)),
ia 12 (.bin .mul (ci 10) (.t 11)),
ia 13 (.mv (.t 0)),
ia 14 (.mv (.t 4)),
ia 15 (.ixs (.t 13) (.t 14)),
ia 16 (.cvi .i64 (.t 15)),
ia 17 (.bin .add (.t 12) (.t 16)),
ia 18 (.bin .sub (.t 17) (ci 48)),
ia 3 (.mv (.t 18))])) (.reg [
  ia 9 (.mv (.t 4)),
ia 10 (.bin .add (.t 9) (ci 1)),
ia 4 (.mv (.t 10))])))
def F103 : FnC := ⟨1,(.seq (.reg [
  ia 2 (.mv (ci 0))]) (.seq (.reg [
  ia 3 (.mv (ci 0))]) (.seq (.seq (.reg [
  ia 4 (.mv (ci 0))]) (.block 0 (.loop F103b0))) (.seq (.reg [
  ia 19 (.mv (.t 3)),
ia 2 (.mv (.t 19))]) .ret)))),[(.tmp 2)]⟩
theorem cc103 : ccF Try.prog [] Try.f103 = some (stripF F103) := by kernel_rfl
def F104 : FnC := ⟨1,(.seq (.reg [
  ia 2 (.mv (.c (.a (.p (.b false)))))]) (.seq (.reg [
  ia 3 (.mv (.t 0)),
ia 4 (.bin .eql (.t 3) (.c (.a (.p (.s [108,101,116]))))),
ia 5 (.mv (.t 4)),
ig 6 5 false (.mv (.t 0)),
ig 7 5 false (.bin .eql (.t 6) (.c (.a (.p (.s [108,101,116,114,101,99]))))),
ia 8 (.pick (.t 5) (.c (.a (.p (.b true)))) (.t 7)),
ia 9 (.mv (.t 8)),
ig 10 9 false (.mv (.t 0)),
ig 11 9 false (.bin .eql (.t 10) (.c (.a (.p (.s [105,110]))))),
ia 12 (.pick (.t 9) (.c (.a (.p (.b true)))) (.t 11)),
ia 13 (.mv (.t 12)),
ig 14 13 false (.mv (.t 0)),
ig 15 13 false (.bin .eql (.t 14) (.c (.a (.p (.s [99,97,115,101]))))),
ia 16 (.pick (.t 13) (.c (.a (.p (.b true)))) (.t 15)),
ia 17 (.mv (.t 16)),
ig 18 17 false (.mv (.t 0)),
ig 19 17 false (.bin .eql (.t 18) (.c (.a (.p (.s [111,102]))))),
ia 20 (.pick (.t 17) (.c (.a (.p (.b true)))) (.t 19)),
ia 2 (.mv (.t 20))]) .ret)),[(.tmp 2)]⟩
theorem cc104 : ccF Try.prog [] Try.f104 = some (stripF F104) := by kernel_rfl
def tblA : List (FuncId × FnC) := [(11,F11),(15,F15),(23,F23),(27,F27),(31,F31),(32,F32),(33,F33),(34,F34),(37,F37),(39,F39),(41,F41),(42,F42),(45,F45),(46,F46),(47,F47),(49,F49),(51,F51),(57,F57),(60,F60),(61,F61),(62,F62),(66,F66),(67,F67),(70,F70),(74,F74),(75,F75),(76,F76),(77,F77),(78,F78),(84,F84),(88,F88),(100,F100),(101,F101),(102,F102),(103,F103),(104,F104)]
theorem tblOkA : ∀ x,x ∈ tblA → ∃ fn,Try.prog.funcs[x.1]? = some fn ∧ ccF Try.prog [] fn = some (stripF x.2) := by
  intro x hx
  simp only [tblA,List.mem_cons,List.not_mem_nil,or_false] at hx
  rcases hx with rfl | rfl | rfl | rfl | rfl | rfl | rfl | rfl | rfl | rfl | rfl | rfl | rfl | rfl | rfl | rfl | rfl | rfl | rfl | rfl | rfl | rfl | rfl | rfl | rfl | rfl | rfl | rfl | rfl | rfl | rfl | rfl | rfl | rfl | rfl | rfl
  · exact ⟨_,Try.func11,cc11⟩
  · exact ⟨_,Try.func15,cc15⟩
  · exact ⟨_,Try.func23,cc23⟩
  · exact ⟨_,Try.func27,cc27⟩
  · exact ⟨_,Try.func31,cc31⟩
  · exact ⟨_,Try.func32,cc32⟩
  · exact ⟨_,Try.func33,cc33⟩
  · exact ⟨_,Try.func34,cc34⟩
  · exact ⟨_,Try.func37,cc37⟩
  · exact ⟨_,Try.func39,cc39⟩
  · exact ⟨_,Try.func41,cc41⟩
  · exact ⟨_,Try.func42,cc42⟩
  · exact ⟨_,Try.func45,cc45⟩
  · exact ⟨_,Try.func46,cc46⟩
  · exact ⟨_,Try.func47,cc47⟩
  · exact ⟨_,Try.func49,cc49⟩
  · exact ⟨_,Try.func51,cc51⟩
  · exact ⟨_,Try.func57,cc57⟩
  · exact ⟨_,Try.func60,cc60⟩
  · exact ⟨_,Try.func61,cc61⟩
  · exact ⟨_,Try.func62,cc62⟩
  · exact ⟨_,Try.func66,cc66⟩
  · exact ⟨_,Try.func67,cc67⟩
  · exact ⟨_,Try.func70,cc70⟩
  · exact ⟨_,Try.func74,cc74⟩
  · exact ⟨_,Try.func75,cc75⟩
  · exact ⟨_,Try.func76,cc76⟩
  · exact ⟨_,Try.func77,cc77⟩
  · exact ⟨_,Try.func78,cc78⟩
  · exact ⟨_,Try.func84,cc84⟩
  · exact ⟨_,Try.func88,cc88⟩
  · exact ⟨_,Try.func100,cc100⟩
  · exact ⟨_,Try.func101,cc101⟩
  · exact ⟨_,Try.func102,cc102⟩
  · exact ⟨_,Try.func103,cc103⟩
  · exact ⟨_,Try.func104,cc104⟩
end Go.Proofs.Ytlgekplmbmkcmaa
namespace Go.Proofs.Ytlgekplmbmkcmaa
open Go.Fx
def tbl : List (FuncId × FnC) := tblA
theorem tblOk : ∀ x,x ∈ tbl → ∃ fn,Try.prog.funcs[x.1]? = some fn ∧ ccF Try.prog [] fn = some (stripF x.2) := by
  intro x hx
  simp only [tbl] at hx
  exact tblOkA x hx
end Go.Proofs.Ytlgekplmbmkcmaa
section
set_option linter.unusedSimpArgs false
set_option linter.unusedVariables false
namespace Go.Proofs.Ytlgekplmbmkcmaa
open Go.Fx
inductive T where
  | mk (k n : Int) (s : List UInt8) (l : List T)
namespace T
def k : T → Int | mk k _ _ _ => k
def n : T → Int | mk _ n _ _ => n
def s : T → List UInt8 | mk _ _ s _ => s
def l : T → List T | mk _ _ _ l => l
end T
mutual
def enc : T → List PV
  | .mk k n s l => [.i .i64 k,.i .i64 n,.s s,.l (encL l)]
def encL : List T → List (List PV)
  | [] => []
  | t :: r => enc t :: encL r
end
theorem encL_map (l : List T) : encL l = l.map enc := by
  induction l with
  | nil => rfl
  | cons t l ih => simp [encL,ih]
theorem enc_eq (t : T) : enc t = [.i .i64 t.k,.i .i64 t.n,.s t.s,.l (t.l.map enc)] := by
  cases t; simp [enc,T.k,T.n,T.s,T.l,encL_map]
inductive T.Ok : T → Prop
  | mk (k n : Int) (s : List UInt8) (l : List T) (hk : (Lit.int .i64 k).wf = true) (hn : (Lit.int .i64 n).wf = true) (hs : s.length ≤ reachBytes) (hl : l.length * 56 ≤ reachBytes) (h : ∀ t,t ∈ l → T.Ok t) : T.Ok (.mk k n s l)
mutual
def same : T → T → Bool
  | .mk k n s l,.mk k' n' s' l' => decide (k = k') && decide (s = s') && decide (n = n') && sameL l l'
def sameL : List T → List T → Bool
  | [],[] => true
  | t :: r,t' :: r' => same t t' && sameL r r'
  | _,_ => false
end
theorem enc_len (t : T) : (enc t).length = 4 := by rw [enc_eq]; rfl
theorem enc_take (t : T) : (enc t).take 4 = enc t := by rw [List.take_of_length_le]; simp [enc_len]
theorem enc_all (l : List T) : ((l.map enc).all fun r => decide (r.length = 4)) = true := by simp [enc_len]
theorem wrap_in (n : Int) (h : -9223372036854775808 ≤ n ∧ n ≤ 9223372036854775807) : IntKind.i64.wrap n = n := IntWalk.i64_in n h
abbrev w (n : Int) : Int := IntKind.i64.wrap n
theorem wrap_succ (n : Nat) (h : n < 9223372036854775807) : IntKind.i64.wrap ((n : Int) + 1) = ((n + 1 : Nat) : Int) := by rw [wrap_in _ (by omega)]; omega
theorem nxE : (∀ t : T,(enc t).length = 4) ∧ (∀ t : T,(enc t).take 4 = enc t) := And.intro enc_len enc_take
end Go.Proofs.Ytlgekplmbmkcmaa
end
section
set_option linter.unusedSimpArgs false
set_option linter.unusedVariables false
set_option maxHeartbeats 4000000
set_option maxRecDepth 10000
namespace Go.Proofs.Ytlgekplmbmkcmaa
open Go.Fx
def S0 : Seat := { fb := fun f => if f = 62 then some F62 else none,sp := fun _ => false,orc := fun _ _ => none }
theorem seatOk0 : SeatOk Try.prog [] S0 where
  mixed := by kernel_rfl
  eql := fun t sh h => by simp at h
  fb f fc h := by
    simp only [S0] at h
    split at h
    · rename_i hf
      simp only [Option.some.injEq] at h
      subst h
      rw [hf]
      exact ⟨_,Try.func62,cc62⟩
    · cases h
  orc f ps r h := by simp [S0] at h
theorem spS0 (f : FuncId) : S0.sp f = false := rfl
structure FM (s : Key) (ks : List Int) (σ : St) : Prop where
  bs : σ.bs s = some (.map 3 ks)
  lt : s.2 < σ.clk
structure Fr (ks : Key) (σ σ' : St) : Prop where
  clk : σ.clk ≤ σ'.clk
  ls : σ'.ls = σ.ls
  bs : ∀ k : Key,k.2 < σ.clk → k ≠ ks → σ'.bs k = σ.bs k
theorem Fr.refl (ks : Key) (σ : St) : Fr ks σ σ := ⟨Nat.le_refl _,rfl,fun _ _ _ => rfl⟩
theorem Fr.trans {ks : Key} {σ τ υ : St} (h : Fr ks σ τ) (g : Fr ks τ υ) : Fr ks σ υ :=
  ⟨Nat.le_trans h.clk g.clk,g.ls.trans h.ls,fun k h1 h2 => (g.bs k (Nat.lt_of_lt_of_le h1 h.clk) h2).trans (h.bs k h1 h2)⟩
theorem Fr.add {ks : Key} {σ τ : St} (h : Fr ks σ τ) (d : Nat) (b : Blk) : Fr ks σ (τ.add d b) :=
  ⟨Nat.le_trans h.clk (by simp only [add_clk]; omega),h.ls,fun k h1 h2 => by
    have h3 := h.clk
    have : ¬ k = (d,τ.clk) := by rintro rfl; simp at h1; omega
    simp only [add_bs,this,if_false]; exact h.bs k h1 h2⟩
theorem Fr.put {ks : Key} {σ τ : St} (h : Fr ks σ τ) {k : Key} (hk : k = ks ∨ σ.clk ≤ k.2) (b : Blk) : Fr ks σ (τ.put k b) :=
  ⟨h.clk,h.ls,fun j h1 h2 => by
    have : ¬ j = k := by rintro rfl; rcases hk with hk | hk; exact h2 hk; omega
    simp only [put_bs,this,if_false]; exact h.bs j h1 h2⟩
theorem FM.add {s : Key} {ks : List Int} {σ : St} (h : FM s ks σ) (d : Nat) (x : Blk) : FM s ks (σ.add d x) := by
  have hl := h.lt
  have : ¬ s = (d,σ.clk) := by rintro rfl; simp at hl
  exact ⟨by simp only [add_bs,this,if_false]; exact h.bs,by simp only [add_clk]; omega⟩
theorem FM.put {s : Key} {ks : List Int} {σ : St} (h : FM s ks σ) {k : Key} (hk : ¬ s = k) (x : Blk) : FM s ks (σ.put k x) :=
  ⟨by simp only [put_bs,hk,if_false]; exact h.bs,h.lt⟩
theorem FM.set {s : Key} {ks : List Int} {σ : St} (h : s.2 < σ.clk) : FM s ks (σ.put s (.map 3 ks)) := ⟨by simp only [put_bs,if_true],h⟩
mutual

def fre : T → Int → List Int → List Int
  | .mk k n _ l,b,ks => if k = 1 then (if n ≥ b then w (n - b) :: ks else ks) else freL l (if k = 2 then w (b + 1) else if k = 6 then w (b + n) else b) ks
def freL : List T → Int → List Int → List Int
  | [],_,ks => ks
  | t :: r,b,ks => freL r b (fre t b ks)
end
mutual

def vn : T → Nat
  | .mk k _ _ l => if k = 1 then 1 else vnL l
def vnL : List T → Nat
  | [] => 0
  | t :: r => vn t + vnL r
end
mutual
theorem fre_len : ∀ (t : T) (b : Int) (ks : List Int),(fre t b ks).length ≤ ks.length + vn t
  | .mk k n s l,b,ks => by
    unfold fre vn
    split
    · split
      · simp
      · simp
    · exact freL_len l _ ks
theorem freL_len : ∀ (l : List T) (b : Int) (ks : List Int),(freL l b ks).length ≤ ks.length + vnL l
  | [],b,ks => by simp [freL,vnL]
  | t :: r,b,ks => by
    unfold freL vnL
    have h1 := fre_len t b ks
    have h2 := freL_len r b (fre t b ks)
    omega
end
theorem w_range (x : Int) : -9223372036854775808 ≤ w x ∧ w x ≤ 9223372036854775807 := by
  simp only [w,IntKind.wrap_i64]; omega
theorem freL_app : ∀ (l r : List T) (b : Int) (ks : List Int),freL (l ++ r) b ks = freL r b (freL l b ks)
  | [],r,b,ks => by simp [freL]
  | t :: l,r,b,ks => by simp only [List.cons_append,freL]; exact freL_app l r b _
theorem vnL_app : ∀ (l r : List T),vnL (l ++ r) = vnL l + vnL r
  | [],r => by simp [vnL]
  | t :: l,r => by simp only [List.cons_append,vnL,vnL_app l r]; omega
theorem frA_mp (σ : St) (s : Key) : frA σ (.mp s) = none := rfl
theorem drop_consT {l : List T} {i : Nat} {x : T} (h : l[i]? = some x) : l.drop i = x :: l.drop (i + 1) := by
  obtain ⟨hi,rfl⟩ := List.getElem?_eq_some_iff.1 h
  rw [List.drop_eq_getElem_cons hi]
theorem take_succT {l : List T} {i : Nat} {x : T} (h : l[i]? = some x) : l.take (i + 1) = l.take i ++ [x] := by
  rw [List.take_add_one,h]; rfl
theorem freLoop {l : List T} {b : Int} {s : Key} {ks : List Int} (hl : l.length * 56 ≤ reachBytes) (hn : ks.length + vnL l ≤ 1099511627776)
    (ih : ∀ t ∈ l,∀ (ks : List Int) (σ : St),FM s ks σ → ks.length + vn t ≤ 1099511627776 → ∃ σ',eS S0 (.f 62) [.g ((enc t).map .p),.a (.p (.i .i64 b)),.a (.mp s)] σ = some (.u,σ') ∧ FM s (fre t b ks) σ' ∧ Fr s σ σ')
    {σ : St} (h : FM s ks σ) (e : Env) (e1 : e 1 = .a (.p (.i .i64 b))) (e2 : e 2 = .a (.mp s)) (e33 : e 33 = .a (.p (.l (l.map enc)))) (e34 : e 34 = .a (.p (.i .i64 (l.length : Nat)))) (e35 : e 35 = .a (.p (.i .i64 0))) :
    wp S0 false (.loop F62b0) e σ (fun x e' σ' => x = .exit 1 ∧ FM s (freL l b ks) σ' ∧ Fr s σ σ') := by
  refine loop_nat l.length (fun i e τ => e 1 = .a (.p (.i .i64 b)) ∧ e 2 = .a (.mp s) ∧ e 33 = .a (.p (.l (l.map enc))) ∧ e 34 = .a (.p (.i .i64 (l.length : Nat))) ∧ e 35 = .a (.p (.i .i64 (i : Nat))) ∧ FM s (freL (l.take i) b ks) τ ∧ Fr s σ τ) (i0 := 0) (Nat.zero_le _) ⟨e1,e2,e33,e34,e35,h,Fr.refl _ _⟩ ?_ ?_
  · rintro i e τ hi ⟨e1,e2,e33,e34,e35,hM,hF⟩
    obtain ⟨x,hx⟩ : ∃ x,l[i]? = some x := ⟨_,List.getElem?_eq_getElem hi⟩
    have hx' : (l.map enc)[i]? = some (enc x) := by simp [hx]
    have hxm := List.mem_of_getElem? hx
    have hlt : ((i : Nat) : Int) < (l.length : Int) := by omega
    have hge : (0 : Int) ≤ ((i : Nat) : Int) := by omega
    have hlb : i < 9223372036854775807 := by simp only [reachBytes] at hl; omega
    have hw := wrap_succ i hlb
    have hmt := hM.lt
    have ne0 : ¬ s = (7,τ.clk) := by rintro rfl; simp at hmt
    have e4 : (enc x).map AV.p = [.p (.i .i64 x.k),.p (.i .i64 x.n),.p (.s x.s),.p (.l (x.l.map enc))] := by rw [enc_eq]; rfl
    have hvl : vnL (l.take (i + 1)) ≤ vnL l := by
      have := vnL_app (l.take (i + 1)) (l.drop (i + 1))
      rw [List.take_append_drop] at this; omega
    rw [take_succT hx,vnL_app] at hvl
    simp only [vnL] at hvl
    have hfl := freL_len (l.take i) b ks
    obtain ⟨τ1,c1,hM1,hF1⟩ := ih x hxm (freL (l.take i) b ks) ((τ.add 7 (.var [.p (.i .i64 0),.p (.i .i64 0),.p (.s []),.nil])).put (7,τ.clk) (.var ((enc x).map .p))) ((hM.add _ _).put ne0 _) (by omega)
    have hs1 : freL (l.take (i + 1)) b ks = fre x b (freL (l.take i) b ks) := by rw [take_succT hx,freL_app]; simp [freL]
    rw [hs1]
    rw [e4] at c1
    simp only [F62b0,e1,e2,e33,e34,e35,hlt,hge,hw,hx',e4,enc_len,enc_take,enc_all,frA_mp,c1,spS0,Int.toNat_natCast,List.length_map,fxa,fxc,fxE,fxL,fxI,nxE,evO,evR,cellsT,ldCells,mkT,lenA,binPV,Env.init,resV,resT,frT,klT,ownT,intT,O.adds,ownA,rowsA,over,wrOk,keysT,keysA,ne_eq,if_true,if_false,ite_self,Nat.reduceLT,Nat.reduceSub,Nat.reduceBEq,Nat.reduceEqDiff,Nat.reduceAdd,Nat.reduceLeDiff,reduceCtorEq,Nat.reduceMul]
    exact ⟨hM1,(((hF.add _ _).put (.inr hF.clk) _).trans hF1)⟩
  · rintro e τ ⟨e1,e2,e33,e34,e35,hM,hF⟩
    have hlt : ¬ ((l.length : Nat) : Int) < (l.length : Int) := by omega
    rw [List.take_length] at hM
    simp only [F62b0,e1,e2,e33,e34,e35,hlt,fxa,fxc,fxE,fxL,fxI,nxE,evO,evR,cellsT,ldCells,mkT,lenA,binPV,Env.init,resV,resT,frT,klT,ownT,intT,O.adds,ownA,rowsA,over,wrOk,keysT,keysA,ne_eq,if_true,if_false,ite_self,Nat.reduceLT,Nat.reduceSub,Nat.reduceBEq,Nat.reduceEqDiff,Nat.reduceAdd,Nat.reduceLeDiff,reduceCtorEq,Nat.reduceMul]
    exact ⟨hM,hF⟩
theorem free_ok : ∀ {t : T},T.Ok t → ∀ (b : Int) (s : Key) (ks : List Int) (σ : St),FM s ks σ → ks.length + vn t ≤ 1099511627776 →
    ∃ σ',eS S0 (.f 62) [.g ((enc t).map .p),.a (.p (.i .i64 b)),.a (.mp s)] σ = some (.u,σ') ∧ FM s (fre t b ks) σ' ∧ Fr s σ σ' := by
  intro t ht
  induction ht with
  | mk k n str l hk hn hs hl h ih =>
    intro b s ks σ hM hv
    refine x_fnR (fc := F62) rfl rfl ?_
    have hmt := hM.lt
    have ne0 : ¬ s = (3,σ.clk) := by rintro rfl; simp at hmt
    have ne1 : ¬ (3,σ.clk) = s := fun e => ne0 e.symm
    have e4 : (enc (.mk k n str l)).map AV.p = [.p (.i .i64 k),.p (.i .i64 n),.p (.s str),.p (.l (l.map enc))] := by rw [enc_eq]; rfl
    have s1 := hM.bs
    rw [e4]
    simp only [vn] at hv
    by_cases h1 : k = 1
    · subst h1
      by_cases h2 : n ≥ b
      · have hr := w_range (n - b)
        have hl2 : ks.length < 140737488355328 := by omega
        simp only [F62,s1,ne0,ne1,h2,hr,hl2,fre,spS0,w,fxa,fxc,fxE,fxL,fxI,nxE,evO,evR,cellsT,ldCells,mkT,lenA,binPV,Env.init,resV,resT,frT,klT,ownT,intT,O.adds,ownA,rowsA,over,wrOk,keysT,keysA,ne_eq,if_true,if_false,ite_self,Nat.reduceLT,Nat.reduceSub,Nat.reduceBEq,Nat.reduceEqDiff,Nat.reduceAdd,Nat.reduceLeDiff,reduceCtorEq,Nat.reduceMul]
        exact ⟨FM.set (by simp only [add_clk]; omega),((Fr.refl s σ).add _ _).put (.inl rfl) _⟩
      · simp only [F62,s1,ne0,ne1,h2,fre,spS0,fxa,fxc,fxE,fxL,fxI,nxE,evO,evR,cellsT,ldCells,mkT,lenA,binPV,Env.init,resV,resT,frT,klT,ownT,intT,O.adds,ownA,rowsA,over,wrOk,keysT,keysA,ne_eq,if_true,if_false,ite_self,Nat.reduceLT,Nat.reduceSub,Nat.reduceBEq,Nat.reduceEqDiff,Nat.reduceAdd,Nat.reduceLeDiff,reduceCtorEq,Nat.reduceMul]
        exact ⟨hM.add _ _,(Fr.refl s σ).add _ _⟩
    · rw [if_neg h1] at hv
      by_cases h2 : k = 2
      · subst h2
        simp only [F62,s1,ne0,ne1,h1,fre,spS0,List.length_map,Int.reduceEq,fxa,fxc,fxE,fxL,fxI,nxE,evO,evR,cellsT,ldCells,mkT,lenA,binPV,Env.init,resV,resT,frT,klT,ownT,intT,O.adds,ownA,rowsA,over,wrOk,keysT,keysA,ne_eq,if_true,if_false,ite_self,Nat.reduceLT,Nat.reduceSub,Nat.reduceBEq,Nat.reduceEqDiff,Nat.reduceAdd,Nat.reduceLeDiff,reduceCtorEq,Nat.reduceMul]
        refine Go.Fx.wp_mono (freLoop (b := w (b + 1)) hl hv (fun t ht ks σ hM hv => ih t ht (w (b + 1)) s ks σ hM hv) (hM.add _ _) _ ?_ ?_ ?_ ?_ ?_) ?_
        all_goals first
          | rfl
          | (rintro x e' τ ⟨rfl,hM1,hF1⟩
             simp only [fxa,fxc,fxE,fxL,fxI,nxE,evO,evR,cellsT,ldCells,mkT,lenA,binPV,Env.init,resV,resT,frT,klT,ownT,intT,O.adds,ownA,rowsA,over,wrOk,keysT,keysA,ne_eq,if_true,if_false,ite_self,Nat.reduceLT,Nat.reduceSub,Nat.reduceBEq,Nat.reduceEqDiff,Nat.reduceAdd,Nat.reduceLeDiff,reduceCtorEq,Nat.reduceMul]
             exact ⟨hM1,((Fr.refl s σ).add _ _).trans hF1⟩)
      · by_cases h3 : k = 6
        · subst h3
          simp only [F62,s1,ne0,ne1,h1,h2,fre,spS0,List.length_map,Int.reduceEq,fxa,fxc,fxE,fxL,fxI,nxE,evO,evR,cellsT,ldCells,mkT,lenA,binPV,Env.init,resV,resT,frT,klT,ownT,intT,O.adds,ownA,rowsA,over,wrOk,keysT,keysA,ne_eq,if_true,if_false,ite_self,Nat.reduceLT,Nat.reduceSub,Nat.reduceBEq,Nat.reduceEqDiff,Nat.reduceAdd,Nat.reduceLeDiff,reduceCtorEq,Nat.reduceMul]
          refine Go.Fx.wp_mono (freLoop (b := w (b + n)) hl hv (fun t ht ks σ hM hv => ih t ht (w (b + n)) s ks σ hM hv) (hM.add _ _) _ ?_ ?_ ?_ ?_ ?_) ?_
          all_goals first
            | rfl
            | (rintro x e' τ ⟨rfl,hM1,hF1⟩
               simp only [fxa,fxc,fxE,fxL,fxI,nxE,evO,evR,cellsT,ldCells,mkT,lenA,binPV,Env.init,resV,resT,frT,klT,ownT,intT,O.adds,ownA,rowsA,over,wrOk,keysT,keysA,ne_eq,if_true,if_false,ite_self,Nat.reduceLT,Nat.reduceSub,Nat.reduceBEq,Nat.reduceEqDiff,Nat.reduceAdd,Nat.reduceLeDiff,reduceCtorEq,Nat.reduceMul]
               exact ⟨hM1,((Fr.refl s σ).add _ _).trans hF1⟩)
        · simp only [F62,s1,ne0,ne1,h1,h2,h3,fre,spS0,List.length_map,Int.reduceEq,fxa,fxc,fxE,fxL,fxI,nxE,evO,evR,cellsT,ldCells,mkT,lenA,binPV,Env.init,resV,resT,frT,klT,ownT,intT,O.adds,ownA,rowsA,over,wrOk,keysT,keysA,ne_eq,if_true,if_false,ite_self,Nat.reduceLT,Nat.reduceSub,Nat.reduceBEq,Nat.reduceEqDiff,Nat.reduceAdd,Nat.reduceLeDiff,reduceCtorEq,Nat.reduceMul]
          refine Go.Fx.wp_mono (freLoop (b := b) hl hv (fun t ht ks σ hM hv => ih t ht b s ks σ hM hv) (hM.add _ _) _ ?_ ?_ ?_ ?_ ?_) ?_
          all_goals first
            | rfl
            | (rintro x e' τ ⟨rfl,hM1,hF1⟩
               simp only [fxa,fxc,fxE,fxL,fxI,nxE,evO,evR,cellsT,ldCells,mkT,lenA,binPV,Env.init,resV,resT,frT,klT,ownT,intT,O.adds,ownA,rowsA,over,wrOk,keysT,keysA,ne_eq,if_true,if_false,ite_self,Nat.reduceLT,Nat.reduceSub,Nat.reduceBEq,Nat.reduceEqDiff,Nat.reduceAdd,Nat.reduceLeDiff,reduceCtorEq,Nat.reduceMul]
               exact ⟨hM1,((Fr.refl s σ).add _ _).trans hF1⟩)
end Go.Proofs.Ytlgekplmbmkcmaa
end
section
set_option linter.unusedSimpArgs false
set_option linter.unusedVariables false
namespace Go.Proofs.Ytlgekplmbmkcmaa
open Go.Fx
def withL (n : Int) : Bool → List Int → List Int
  | laid,[] => if laid = true then [] else [n]
  | laid,x :: r => (if laid = false ∧ x ≥ n then [n] else []) ++ ((if x ≠ n then [x] else []) ++ withL n (laid || decide (x ≥ n)) r)
mutual
def refF : T → Int → List Int → List Int
  | .mk k n _ l,b,ks => if k = 1 then (if n ≥ b then withL (w (n - b)) false ks else ks) else refFL l (if k = 2 then w (b + 1) else if k = 6 then w (b + n) else b) ks
def refFL : List T → Int → List Int → List Int
  | [],_,ks => ks
  | t :: r,b,ks => refFL r b (refF t b ks)
end
theorem withL_t {n m : Int} : ∀ {l : List Int},m ∈ withL n true l ↔ m ∈ l ∧ m ≠ n
  | [] => by simp [withL]
  | x :: r => by
    have := withL_t (n := n) (m := m) (l := r)
    simp only [withL,Bool.true_eq_false,false_and,if_false,List.nil_append,Bool.true_or,List.mem_append,this,List.mem_cons]
    by_cases hx : x = n
    · simp only [hx,ne_eq,not_true_eq_false,if_false,List.not_mem_nil,false_or]
      constructor
      · rintro ⟨h,h2⟩; exact ⟨.inr h,h2⟩
      · rintro ⟨h | h,h2⟩
        · exact absurd h h2
        · exact ⟨h,h2⟩
    · simp only [ne_eq,hx,not_false_eq_true,if_true,List.mem_singleton]
      constructor
      · rintro (rfl | h)
        · exact ⟨.inl rfl,hx⟩
        · exact ⟨.inr h.1,h.2⟩
      · rintro ⟨rfl | h,h2⟩
        · exact .inl rfl
        · exact .inr ⟨h,h2⟩
theorem withL_f {n m : Int} : ∀ {l : List Int},m ∈ withL n false l ↔ m = n ∨ m ∈ l
  | [] => by simp [withL]
  | x :: r => by
    have h1 := withL_f (n := n) (m := m) (l := r)
    have h2 := withL_t (n := n) (m := m) (l := r)
    simp only [withL,true_and,Bool.false_or,List.mem_append,List.mem_cons]
    by_cases hge : x ≥ n
    · simp only [hge,if_true,decide_true,h2,List.mem_singleton]
      by_cases hx : x = n
      · simp only [hx,ne_eq,not_true_eq_false,if_false,List.not_mem_nil,false_or]
        constructor
        · rintro (h | h)
          · exact .inl h
          · exact .inr (.inr h.1)
        · rintro (h | h | h)
          · exact .inl h
          · exact .inl h
          · by_cases e : m = n
            · exact .inl e
            · exact .inr ⟨h,e⟩
      · simp only [ne_eq,hx,not_false_eq_true,if_true,List.mem_singleton]
        constructor
        · rintro (h | h | h)
          · exact .inl h
          · exact .inr (.inl h)
          · exact .inr (.inr h.1)
        · rintro (h | h | h)
          · exact .inl h
          · exact .inr (.inl h)
          · by_cases e : m = n
            · exact .inl e
            · exact .inr (.inr ⟨h,e⟩)
    · have hx : x ≠ n := by omega
      simp only [hge,if_false,List.not_mem_nil,false_or,decide_false,h1,ne_eq,hx,not_false_eq_true,if_true,List.mem_singleton]
      constructor
      · rintro (h | h | h)
        · exact .inr (.inl h)
        · exact .inl h
        · exact .inr (.inr h)
      · rintro (h | h | h)
        · exact .inr (.inl h)
        · exact .inl h
        · exact .inr (.inr h)
theorem withL_st {n : Int} : ∀ {l : List Int},l.Pairwise (· < ·) → (withL n true l).Pairwise (· < ·)
  | [],_ => by simp [withL]
  | x :: r,h => by
    obtain ⟨h1,h2⟩ := List.pairwise_cons.1 h
    have ih := withL_st (n := n) h2
    simp only [withL,Bool.true_eq_false,false_and,if_false,List.nil_append,Bool.true_or]
    by_cases hx : x = n
    · simpa [hx] using ih
    · simp only [ne_eq,hx,not_false_eq_true,if_true,List.singleton_append,List.pairwise_cons]
      exact ⟨fun y hy => h1 y (withL_t.1 hy).1,ih⟩
theorem withL_sf {n : Int} : ∀ {l : List Int},l.Pairwise (· < ·) → (withL n false l).Pairwise (· < ·)
  | [],_ => by simp [withL]
  | x :: r,h => by
    obtain ⟨h1,h2⟩ := List.pairwise_cons.1 h
    have ih := withL_sf (n := n) h2
    have it := withL_st (n := n) h2
    simp only [withL,true_and,Bool.false_or]
    by_cases hge : x ≥ n
    · simp only [hge,if_true,decide_true,List.singleton_append,List.pairwise_cons]
      by_cases hx : x = n
      · subst hx
        simp only [ne_eq,not_true_eq_false,if_false,List.nil_append]
        exact ⟨fun y hy => h1 y (withL_t.1 hy).1,it⟩
      · simp only [ne_eq,hx,not_false_eq_true,if_true,List.singleton_append,List.pairwise_cons,List.mem_cons]
        refine ⟨?_,fun y hy => h1 y (withL_t.1 hy).1,it⟩
        rintro y (rfl | hy)
        · omega
        · have := h1 y (withL_t.1 hy).1; omega
    · have hx : x ≠ n := by omega
      simp only [hge,if_false,List.nil_append,decide_false,ne_eq,hx,not_false_eq_true,if_true,List.singleton_append,List.pairwise_cons]
      refine ⟨fun y hy => ?_,ih⟩
      rcases withL_f.1 hy with rfl | hy
      · omega
      · exact h1 y hy
mutual
theorem refF_mem : ∀ (t : T) (b : Int) (l ks : List Int),(∀ m,m ∈ l ↔ m ∈ ks) → ∀ m,m ∈ refF t b l ↔ m ∈ fre t b ks
  | .mk k n s r,b,l,ks,h => by
    intro m
    unfold refF fre
    split
    · split
      · rw [withL_f,List.mem_cons,h]
      · exact h m
    · exact refFL_mem r _ l ks h m
theorem refFL_mem : ∀ (r : List T) (b : Int) (l ks : List Int),(∀ m,m ∈ l ↔ m ∈ ks) → ∀ m,m ∈ refFL r b l ↔ m ∈ freL r b ks
  | [],b,l,ks,h => by intro m; unfold refFL freL; exact h m
  | t :: r,b,l,ks,h => by intro m; unfold refFL freL; exact refFL_mem r b _ _ (refF_mem t b l ks h) m
end
mutual
theorem refF_lt : ∀ (t : T) (b : Int) (l : List Int),l.Pairwise (· < ·) → (refF t b l).Pairwise (· < ·)
  | .mk k n s r,b,l,h => by
    unfold refF
    split
    · split
      · exact withL_sf h
      · exact h
    · exact refFL_lt r _ l h
theorem refFL_lt : ∀ (r : List T) (b : Int) (l : List Int),l.Pairwise (· < ·) → (refFL r b l).Pairwise (· < ·)
  | [],b,l,h => by unfold refFL; exact h
  | t :: r,b,l,h => by unfold refFL; exact refFL_lt r b _ (refF_lt t b l h)
end
theorem lt_ext : ∀ {l l' : List Int},l.Pairwise (· < ·) → l'.Pairwise (· < ·) → (∀ m,m ∈ l ↔ m ∈ l') → l = l'
  | [],[],_,_,_ => rfl
  | [],y :: r',_,_,h => by have := (h y).2 (by simp); simp at this
  | x :: r,[],_,_,h => by have := (h x).1 (by simp); simp at this
  | x :: r,y :: r',h1,h2,h => by
    obtain ⟨a1,a2⟩ := List.pairwise_cons.1 h1
    obtain ⟨b1,b2⟩ := List.pairwise_cons.1 h2
    have hxy : x = y := by
      have p := (h x).1 (by simp)
      have q := (h y).2 (by simp)
      rcases List.mem_cons.1 p with rfl | p
      · rfl
      · rcases List.mem_cons.1 q with rfl | q
        · rfl
        · have := b1 x p; have := a1 y q; omega
    subst hxy
    refine congrArg (x :: ·) (lt_ext a2 b2 fun m => ?_)
    constructor
    · intro hm
      rcases List.mem_cons.1 ((h m).1 (by simp [hm])) with rfl | h'
      · have := a1 m hm; omega
      · exact h'
    · intro hm
      rcases List.mem_cons.1 ((h m).2 (by simp [hm])) with rfl | h'
      · have := b1 m hm; omega
      · exact h'
def freeT (t : T) : List Int := refF t 0 []
theorem sorted_freeT {t : T} {ss : List Int} (hn : ss.Nodup) (hm : ∀ m,m ∈ ss ↔ m ∈ fre t 0 []) : ss.mergeSort (fun x y => decide (x ≤ y)) = freeT t := by
  have hp := List.mergeSort_perm ss (fun x y => decide (x ≤ y))
  have hs := List.pairwise_mergeSort (le := fun x y : Int => decide (x ≤ y)) (fun a b c => by simp; omega) (fun a b => by simp; omega) ss
  refine lt_ext ?_ (refF_lt t 0 [] (by simp)) fun m => ?_
  · have hnd : (ss.mergeSort (fun x y => decide (x ≤ y))).Nodup := hp.nodup_iff.2 hn
    have := hs.and hnd
    exact this.imp fun h => by
      simp only [decide_eq_true_eq] at h
      obtain ⟨h1,h2⟩ := h
      have : _ ≠ _ := h2
      omega
  · rw [hp.mem_iff,hm,freeT]
    exact (refF_mem t 0 [] [] (fun _ => Iff.rfl) m).symm
end Go.Proofs.Ytlgekplmbmkcmaa
end
section
set_option maxRecDepth 100000
namespace Go.Proofs.Ytlgekplmbmkcmaa
open Go.Shelf Go.Proofs
def layK_ren : Go.Shelf.Ren := ⟨fun | 7 => 64 | 10 => 72 | n => n,fun | 23 => 57 | 26 => 3 | 3 => 63 | 28 => 61 | 0 => 0 | 27 => 60 | 33 => 68 | 4 => 4 | n => n,fun | n => n⟩
theorem layK : Go.Proofs.SlLaysZI.n7 Try.prog layK_ren := {
  mixed := by kernel_rfl,
  f7 := ⟨Try.f64.name,by decide,Try.func64.trans (congrArg some (by kernel_rfl))⟩,
  f10 := ⟨Try.f72.name,by decide,Try.func72.trans (congrArg some (by kernel_rfl))⟩,
  t0 := Try.underlying0,
  a0 := Try.isAgg0,
  z0 := Try.sizeOf0,
  v0 := Try.zeroValue0,
  t4 := Try.underlying4,
  a4 := Try.isAgg4,
  z4 := Try.sizeOf4,
  v4 := Try.zeroValue4,
  t23 := Try.underlying57,
  a23 := Try.isAgg57,
  z23 := Try.sizeOf57,
  v23 := Try.zeroValue57,
  t26 := Try.underlying3,
  a26 := Try.isAgg3,
  z26 := Try.sizeOf3,
  v26 := Try.zeroValue3,
  t27 := Try.underlying60,
  a27 := Try.isAgg60,
  z27 := Try.sizeOf60,
  v27 := Try.zeroValue60,
  t28 := Try.underlying61,
  a28 := Try.isAgg61,
  z28 := Try.sizeOf61,
  v28 := Try.zeroValue61,
  t33 := Try.underlying68,
  a33 := Try.isAgg68,
  z33 := Try.sizeOf68,
  v33 := Try.zeroValue68 }
def layS_ren : Go.Shelf.Ren := ⟨fun | 6 => 63 | 8 => 66 | 9 => 71 | 11 => 74 | 13 => 86 | 12 => 85 | 23 => 98 | 24 => 99 | 14 => 89 | 15 => 90 | 16 => 91 | 17 => 92 | 18 => 93 | 19 => 94 | 20 => 95 | 21 => 96 | 22 => 97 | 25 => 105 | 26 => 106 | 27 => 107 | 28 => 108 | 29 => 109 | 30 => 110 | 31 => 111 | n => n,fun | 26 => 3 | 28 => 61 | 24 => 45 | 0 => 0 | 3 => 3 | 37 => 79 | 48 => 96 | 50 => 98 | 4 => 4 | 40 => 88 | 39 => 87 | 45 => 93 | 5 => 5 | 9 => 9 | 51 => 103 | 55 => 107 | 57 => 109 | 58 => 110 | 33 => 68 | n => n,fun | n => n⟩
theorem layS : Go.Proofs.SlLaysZI.n6 Try.prog layS_ren := {
  mixed := by kernel_rfl,
  f6 := ⟨Try.f63.name,by decide,Try.func63.trans (congrArg some (by kernel_rfl))⟩,
  f8 := ⟨Try.f66.name,by decide,Try.func66.trans (congrArg some (by kernel_rfl))⟩,
  f11 := ⟨Try.f74.name,by decide,Try.func74.trans (congrArg some (by kernel_rfl))⟩,
  t0 := Try.underlying0,
  a0 := Try.isAgg0,
  z0 := Try.sizeOf0,
  v0 := Try.zeroValue0,
  t24 := Try.underlying45,
  a24 := Try.isAgg45,
  z24 := Try.sizeOf45,
  v24 := Try.zeroValue45,
  t26 := Try.underlying3,
  a26 := Try.isAgg3,
  z26 := Try.sizeOf3,
  v26 := Try.zeroValue3,
  t28 := Try.underlying61,
  a28 := Try.isAgg61,
  z28 := Try.sizeOf61,
  v28 := Try.zeroValue61,
  i26 := by kernel_rfl }
def layT_ren : Go.Shelf.Ren := ⟨fun | 5 => 71 | 8 => 86 | 7 => 85 | 19 => 98 | 20 => 99 | 10 => 89 | 11 => 90 | 12 => 91 | 13 => 92 | 14 => 93 | 15 => 94 | 16 => 95 | 17 => 96 | 18 => 97 | 30 => 105 | 31 => 106 | 32 => 107 | 33 => 108 | 34 => 109 | 35 => 110 | 40 => 111 | n => n,fun | 23 => 45 | 25 => 3 | 3 => 3 | 32 => 79 | 22 => 45 | 0 => 0 | 44 => 96 | 46 => 98 | 4 => 4 | 36 => 88 | 35 => 87 | 41 => 93 | 5 => 5 | 9 => 9 | 53 => 103 | 57 => 107 | 63 => 109 | 64 => 110 | n => n,fun | n => n⟩
theorem layT : Go.Proofs.SlLaysM.n5 Try.prog layT_ren := {
  mixed := by kernel_rfl,
  f5 := ⟨Try.f71.name,by decide,Try.func71.trans (congrArg some (by kernel_rfl))⟩,
  f7 := ⟨Try.f85.name,by decide,Try.func85.trans (congrArg some (by kernel_rfl))⟩,
  f8 := Try.func86.trans (congrArg some (by kernel_rfl)),
  f10 := ⟨Try.f89.name,by decide,Try.func89.trans (congrArg some (by kernel_rfl))⟩,
  f11 := ⟨Try.f90.name,by decide,Try.func90.trans (congrArg some (by kernel_rfl))⟩,
  f12 := ⟨Try.f91.name,by decide,Try.func91.trans (congrArg some (by kernel_rfl))⟩,
  f13 := ⟨Try.f92.name,by decide,Try.func92.trans (congrArg some (by kernel_rfl))⟩,
  f14 := ⟨Try.f93.name,by decide,Try.func93.trans (congrArg some (by kernel_rfl))⟩,
  f15 := ⟨Try.f94.name,by decide,Try.func94.trans (congrArg some (by kernel_rfl))⟩,
  f16 := ⟨Try.f95.name,by decide,Try.func95.trans (congrArg some (by kernel_rfl))⟩,
  f17 := ⟨Try.f96.name,by decide,Try.func96.trans (congrArg some (by kernel_rfl))⟩,
  f18 := ⟨Try.f97.name,by decide,Try.func97.trans (congrArg some (by kernel_rfl))⟩,
  f19 := Try.func98.trans (congrArg some (by kernel_rfl)),
  f20 := Try.func99.trans (congrArg some (by kernel_rfl)),
  f30 := ⟨Try.f105.name,by decide,Try.func105.trans (congrArg some (by kernel_rfl))⟩,
  f31 := Try.func106.trans (congrArg some (by kernel_rfl)),
  f32 := Try.func107.trans (congrArg some (by kernel_rfl)),
  f33 := ⟨Try.f108.name,by decide,Try.func108.trans (congrArg some (by kernel_rfl))⟩,
  f34 := ⟨Try.f109.name,by decide,Try.func109.trans (congrArg some (by kernel_rfl))⟩,
  f35 := ⟨Try.f110.name,by decide,Try.func110.trans (congrArg some (by kernel_rfl))⟩,
  f40 := ⟨Try.f111.name,by decide,Try.func111.trans (congrArg some (by kernel_rfl))⟩,
  t0 := Try.underlying0,
  a0 := Try.isAgg0,
  z0 := Try.sizeOf0,
  v0 := Try.zeroValue0,
  t3 := Try.underlying3,
  a3 := Try.isAgg3,
  z3 := Try.sizeOf3,
  v3 := Try.zeroValue3,
  t4 := Try.underlying4,
  a4 := Try.isAgg4,
  z4 := Try.sizeOf4,
  v4 := Try.zeroValue4,
  t5 := Try.underlying5,
  a5 := Try.isAgg5,
  z5 := Try.sizeOf5,
  v5 := Try.zeroValue5,
  t9 := Try.underlying9,
  a9 := Try.isAgg9,
  z9 := Try.sizeOf9,
  v9 := Try.zeroValue9,
  t22 := Try.underlying45,
  a22 := Try.isAgg45,
  z22 := Try.sizeOf45,
  v22 := Try.zeroValue45,
  t23 := Try.underlying45,
  a23 := Try.isAgg45,
  z23 := Try.sizeOf45,
  v23 := Try.zeroValue45,
  t25 := Try.underlying3,
  a25 := Try.isAgg3,
  z25 := Try.sizeOf3,
  v25 := Try.zeroValue3,
  t32 := Try.underlying79,
  a32 := Try.isAgg79,
  z32 := Try.sizeOf79,
  v32 := Try.zeroValue79,
  t35 := Try.underlying87,
  a35 := Try.isAgg87,
  z35 := Try.sizeOf87,
  v35 := Try.zeroValue87,
  t36 := Try.underlying88,
  a36 := Try.isAgg88,
  z36 := Try.sizeOf88,
  v36 := Try.zeroValue88,
  t41 := Try.underlying93,
  a41 := Try.isAgg93,
  z41 := Try.sizeOf93,
  v41 := Try.zeroValue93,
  t44 := Try.underlying96,
  a44 := Try.isAgg96,
  z44 := Try.sizeOf96,
  v44 := Try.zeroValue96,
  t46 := Try.underlying98,
  a46 := Try.isAgg98,
  z46 := Try.sizeOf98,
  v46 := Try.zeroValue98,
  t53 := Try.underlying103,
  a53 := Try.isAgg103,
  z53 := Try.sizeOf103,
  v53 := Try.zeroValue103,
  t57 := Try.underlying107,
  a57 := Try.isAgg107,
  z57 := Try.sizeOf107,
  v57 := Try.zeroValue107,
  t63 := Try.underlying109,
  a63 := Try.isAgg109,
  z63 := Try.sizeOf109,
  v63 := Try.zeroValue109,
  t64 := Try.underlying110,
  a64 := Try.isAgg110,
  z64 := Try.sizeOf110,
  v64 := Try.zeroValue110 }
end Go.Proofs.Ytlgekplmbmkcmaa
end
section
set_option linter.unusedSimpArgs false
set_option linter.unusedVariables false
namespace Go.Proofs.Ytlgekplmbmkcmaa
open Go.Fx Go.RowKit Go.Maps Go.Sort Go.Shelf Go.Proofs
open Go.WideElems (Fit rd rg)
theorem im_owns {P : Program} {k : TypeId} (hk : P.underlying k = some (.int .i64)) {w : World} {b : Nat} {es : Array MapEntry} {clock : Nat} {ks : List Int} (hb : w.heap[b]? = some (.map es clock)) (I : IM es clock ks) :
    ∃ D0 : DataW Unit,w.ownsMap P k unitElem b ks.length D0 ∧ (intKeys D0).Nodup ∧ ∀ m,m ∈ intKeys D0 ↔ m ∈ ks := by
  have hsz := I.size
  have hln := I.len
  have rd1 : ∀ x ∈ es.toList,∃ n : Int,x.key = .int .i64 n ∧ n ∈ ks ∧ rd P k (unitElem (H := Unit)) x = some (.int .i64 n,.agg []) := by
    intro x hx
    obtain ⟨n,h1,h2,h3,h4⟩ := I.reads x hx
    refine ⟨n,h2,h4,?_⟩
    have := WideElems.rd_mk (P := P) (k := k) (R := unitElem (H := Unit)) (key := x.key) (val := x.val) (born := x.born) (kl := .int .i64 n) (yv := (.agg [],[])) (by rw [h2]; exact keyOf_int_mk hk h1) (by rw [h3]; exact unitElem_mk)
    cases x
    exact this
  have F : Fit P k (unitElem (H := Unit)) es clock := ⟨by simp only [maxLen]; omega,I.stamped,fun x hx => by obtain ⟨n,_,_,h⟩ := rd1 x hx; exact ⟨_,h⟩⟩
  refine ⟨.map ((es.toList.map (rg P k unitElem)).foldr DataW.insert []),⟨es,clock,hb,F,hsz,rfl⟩,?_,?_⟩
  all_goals
    have hp : (intKeys (DataW.map ((es.toList.map (rg P k (unitElem (H := Unit)))).foldr DataW.insert []))).Perm (es.toList.map fun x => Go.intOf (rg P k (unitElem (H := Unit)) x).1) := by
      have := (WideShapes.sorted_perm (es.toList.map (rg P k (unitElem (H := Unit))))).map fun p => Go.intOf p.1
      rw [List.map_map] at this
      exact this
  · rw [hp.nodup_iff]
    refine List.pairwise_map.2 ((((MapKept.stamped_iff es clock).1 I.stamped).2.2).imp_of_mem fun {p q} hp' hq' hne e => hne ?_)
    obtain ⟨a,ha,_,ra⟩ := rd1 p hp'
    obtain ⟨c,hc,_,rc⟩ := rd1 q hq'
    rw [WideElems.rg_of ra,WideElems.rg_of rc] at e
    have e : a = c := e
    rw [ha,hc,e]
  · intro m
    rw [hp.mem_iff,List.mem_map]
    constructor
    · rintro ⟨x,hx,e⟩
      obtain ⟨a,ha,hm,ra⟩ := rd1 x hx
      rw [WideElems.rg_of ra] at e
      have e : a = m := e
      rw [← e]; exact hm
    · intro hm
      obtain ⟨x,hx,hk2⟩ := I.all m hm
      obtain ⟨a,ha,_,ra⟩ := rd1 x hx
      refine ⟨x,hx,?_⟩
      rw [WideElems.rg_of ra]
      rw [hk2] at ha
      simp only [Value.int.injEq,true_and] at ha
      exact ha.symm
theorem sortsA (m : Nat) : AnyZI.SortsIn Try.prog layS_ren Fence.wide m :=
  ⟨fun blk off cap ss W hH hblk hsz => callsIn_wide.2 (AnyM.slices_Sort_int layT blk off cap ss W hH hblk hsz),
   fun p cap W => callsIn_wide.2 (AnyM.slices_Sort_int_none layT p cap W)⟩
theorem free_call {t : T} (ht : T.Ok t) (hv : vn t ≤ 1073741824) {w : World} {D : Nat → Prop} (hD : ∀ b,D b → b < w.heap.size) {vs : List Value} (hvs : F2 (RP w D) (enc t) vs) {b : Nat} (hbD : ¬ D b) (hb : w.heap[b]? = some (.map #[] 0)) :
    Calls Try.prog 62 #[.agg vs.toArray,.int .i64 0,.map (some b)] w fun e w' => e = .returned undef ∧ ∃ es clock,w'.heap[b]? = some (.map es clock) ∧ IM es clock (fre t 0 []) ∧ w.grownBy w' (some b) := by
  let σ0 : St := St.empty.add 1 (.map 3 [])
  obtain ⟨σ',h1,hM,hF⟩ := free_ok ht 0 (1,0) [] σ0 ⟨rfl,by show 0 < 1; omega⟩ (by simp only [List.length_nil]; omega)
  obtain ⟨k,hk⟩ := (eS_some S0).1 h1
  obtain ⟨hen,hc⟩ := (sound seatOk0 k).1 _ _ _ _ _ hk
  let m : Mt := { mu := fun s => if s = (1,0) then some (b,0) else none,la := fun _ => 0,D := D }
  have hbs : ∀ s blk,σ0.bs s = some blk → s = (1,0) ∧ blk = .map 3 [] := by
    intro s blk h
    have h : (if s = (1,St.empty.clk) then some (Blk.map 3 []) else St.empty.bs s) = some blk := h
    by_cases e : s = (1,St.empty.clk)
    · rw [if_pos e] at h; exact ⟨e,(Option.some.inj h).symm⟩
    · rw [if_neg e] at h; cases h
  have hin : ∀ b',InS m σ0 b' → b' = b := by
    rintro b' (⟨s,bl,c,hs,hm⟩ | ⟨l,hl,_⟩)
    · obtain ⟨rfl,_⟩ := hbs s bl hs
      simp only [m,if_true,Option.some.injEq,Prod.mk.injEq] at hm
      exact hm.1.symm
    · simp [σ0,St.add,St.put,St.empty] at hl
  have hlt : b < w.heap.size := (Array.getElem?_eq_some_iff.1 hb).1
  have hR : SR (CRP Try.prog []) m σ0 w :=
    { blk := fun s bl hs => by
        obtain ⟨rfl,rfl⟩ := hbs s bl hs
        exact ⟨b,#[],0,by simp [m],hb,⟨by simp,by simp,MapKept.stamped_empty 0,by simp,by simp⟩⟩
      gen := fun s bl hs => by obtain ⟨rfl,_⟩ := hbs s bl hs; show 0 < 1; omega
      inj := fun s s' bl bl' B c c' hs hs' _ _ => by obtain ⟨rfl,_⟩ := hbs s bl hs; obtain ⟨rfl,_⟩ := hbs s' bl' hs'; rfl
      dj := fun b' hb' => by rw [hin b' hb']; exact hbD
      dlt := hD
      lrs := fun l r hl => by simp [σ0,St.add,St.put,St.empty] at hl
      linj := fun l l' hl => by simp [σ0,St.add,St.put,St.empty] at hl }
  have hargs : F2 (RT m σ0 w) [.g ((enc t).map .p),.a (.p (.i .i64 0)),.a (.mp (1,0))] [.agg vs.toArray,.int .i64 0,.map (some b)] := by
    refine .cons ⟨vs,rfl,?_⟩ (.cons (RP.i _ _) (.cons ⟨⟨by show 0 < 1; omega,fun bl hbl => ⟨b,0,by simp [m],rfl⟩⟩,_,rfl⟩ .nil))
    exact F2_p rfl hvs
  refine (callsIn_wide.1 (hc m w _ hR hargs none 0)).mono ?_
  rintro e w' ⟨v,m',rfl,hR',hv',hX⟩
  have hv' : v = undef := hv'
  subst hv'
  refine ⟨rfl,?_⟩
  obtain ⟨B,es,clock,hm,hbl,hI⟩ := hR'.blk _ _ hM.bs
  rw [hX.mu (1,0) (by show 0 < 1; omega)] at hm
  simp only [m,if_true,Option.some.injEq,Prod.mk.injEq,and_true] at hm
  subst hm
  refine ⟨es,clock,hbl,hI,⟨hX.os,hX.tape,hX.output,hX.size,fun i hi hne => hX.kept i hi fun h => hne (by rw [hin i h])⟩⟩
def encI (i : Int) : List PV := [.i .i64 i]
theorem row_rp {w : World} {base : Nat} {v : Value} {l : List Int} (h : w.ownsRow base 3 1 v l.length (l.map encZ)) {D : Nat → Prop} (hD : ∀ g,base ≤ g → g < w.heap.size → D g) : RP w D (.l (l.map encI)) v := by
  rcases h.2 with ⟨rfl,hz⟩ | ⟨g,cap,cur,rfl,hbase,hg,hn,hc,hsz,htk⟩
  · have : l = [] := List.eq_nil_of_length_eq_zero hz
    subst this
    exact .e _ _
  · have hgl : g < w.heap.size := (Array.getElem?_eq_some_iff.1 hg).1
    have key := RP.l (w := w) (D := D) (l.map encI) ⟨g,0,none⟩ 1 cap (fun i _ => .int .i64 (l.getD i 0)) rfl (hD g hbase hgl) (by simpa using hn)
      (fun i r hr => by
        rw [List.getElem?_map] at hr
        obtain ⟨x,_,rfl⟩ := Option.map_eq_some_iff.1 hr
        rfl)
      (fun i r j p hr hj => by
        rw [List.getElem?_map] at hr
        obtain ⟨x,hx,rfl⟩ := Option.map_eq_some_iff.1 hr
        have hj0 : j = 0 := by
          cases j with
          | zero => rfl
          | succ j => simp [encI] at hj
        subst hj0
        have hil : i < l.length := (List.getElem?_eq_some_iff.1 hx).1
        have h2 : (cur.toList.take (l.length * 1))[i]? = some (.int .i64 x) := by rw [htk]; simp [hx]
        rw [List.getElem?_take_of_lt (by omega)] at h2
        simp only [World.cell?,hg,Option.isSome_none,Bool.false_eq_true,if_false,Nat.zero_add,Nat.mul_one,Nat.add_zero,List.getD_eq_getElem?_getD,hx,Option.getD_some]
        simpa using h2)
      (fun i r j p hr hj => by
        rw [List.getElem?_map] at hr
        obtain ⟨x,hx,rfl⟩ := Option.map_eq_some_iff.1 hr
        have hj0 : j = 0 := by
          cases j with
          | zero => rfl
          | succ j => simp [encI] at hj
        subst hj0
        simp only [encI,List.getElem?_cons_zero,Option.some.injEq] at hj
        subst hj
        simp only [List.getD_eq_getElem?_getD,hx,Option.getD_some]
        exact .i _ _)
    rw [List.length_map] at key
    exact key
theorem sorted_call {t : T} {w : World} {b : Nat} {es : Array MapEntry} {clock : Nat} (hv : vn t ≤ 1073741824) (hb : w.heap[b]? = some (.map es clock)) (hI : IM es clock (fre t 0 [])) :
    CallsIn Fence.wide 5 Try.prog 63 #[.func (.func 72) #[] #[.pointer (some ⟨w.heap.size,0,none⟩)]] (w.alloc (.cells #[.map (some b)] 57)) fun e w' =>
      ∃ v,e = .returned v ∧ w'.ownsRow (w.heap.size + 1) 3 1 v (freeT t).length ((freeT t).map encZ) ∧ Below (w.heap.size + 1) (w.alloc (.cells #[.map (some b)] 57)) w' := by
  obtain ⟨D0,hown,hnd,hmem⟩ := im_owns (k := 3) Try.underlying3 hb hI
  have hlen := fre_len t 0 []
  simp only [List.length_nil,Nat.zero_add] at hlen
  have hsz : Maps.size D0 ≤ (fre t 0 []).length := by
    obtain ⟨es',clock',h1,h2,h3,h4⟩ := hown
    subst h4
    simp only [Maps.size]
    rw [length_sorted]
    simpa using h3
  have hbl := hown.lt
  have hseq : SeqGives Fence.wide 2 Try.prog 72 #[.pointer (some ⟨w.heap.size,0,none⟩)] encZ (fun ss => ss.Perm (intKeys D0)) (Maps.size D0) (w.alloc (.cells #[.map (some b)] 57)) :=
    AnyZI.keys_gives (ρ := layK_ren) { layK with } Fence.wide _ trivial rfl (by omega) w.heap.size b (fre t 0 []).length D0 _ (by simp) (by simp) (by
      obtain ⟨es,clock,hb,Ft,hs,hD⟩ := hown
      exact ⟨es,clock,(Below.heap_alloc _ _ b hbl).trans hb,Ft,hs,hD⟩)
  have cS := AnyZI.sorted_in layS Fence.wide 5 trivial trivial trivial trivial rfl (by omega) (sortsA _) (enters_of Try.func71 (by kernel_rfl) rfl) 72 #[.pointer (some ⟨w.heap.size,0,none⟩)] trivial (enters_of Try.func72 (by kernel_rfl) rfl) _ _ (by simp only [maxLen]; omega) (by omega) _ hseq
  change CallsIn _ _ Try.prog 63 _ _ _ at cS
  refine cS.mono ?_
  rintro e w' ⟨v,ss,rfl,hS,hrow,hnil,hbw⟩
  have hss := sorted_freeT (t := t) (ss := ss) (hS.nodup_iff.2 hnd) (fun m => by rw [hS.mem_iff,hmem])
  have hl : ss.length = (freeT t).length := by rw [← hss,List.length_mergeSort]
  rw [hss,hl] at hrow
  have hsz1 : (w.alloc (.cells #[.map (some b)] 57)).heap.size = w.heap.size + 1 := by simp
  rw [hsz1] at hrow hbw
  exact ⟨v,rfl,hrow,hbw⟩
end Go.Proofs.Ytlgekplmbmkcmaa
end
section
set_option linter.unusedSimpArgs false
set_option linter.unusedVariables false
namespace Go.Proofs.Ytlgekplmbmkcmaa
open Go.Fx Go.RowKit Go.Maps Go.Sort Go.Shelf Go.Proofs
set_option maxHeartbeats 4000000 in
theorem free_machine {t : T} (ht : T.Ok t) (hv : vn t ≤ 1073741824) {w : World} {D : Nat → Prop} (hD : ∀ b,D b → b < w.heap.size) {v : Value} (hr : RPT w D (.g (enc t)) v) :
    Calls Try.prog 35 #[v] w fun e w' => ∃ u,e = .returned u ∧ RPT w' (fun b => D b ∨ (w.heap.size ≤ b ∧ b < w'.heap.size)) (.a (.l ((freeT t).map encI))) u ∧ Below w.heap.size w w' := by
  obtain ⟨us,rfl,hus⟩ := hr
  have hul := hus.length
  rw [enc_len] at hul
  obtain ⟨v0,v1,v2,v3,rfl⟩ : ∃ a b c d,us = [a,b,c,d] := by
    match us,hul with
    | [a,b,c,d],_ => exact ⟨_,_,_,_,rfl⟩
  refine (callsIn_wide (n := 6)).1 ?_
  have hmm := @run_makeMap Try.prog
  have hbW : ((w.alloc (.cells #[v0,v1,v2,v3] 24)).alloc (.map #[] 0)).heap[w.heap.size + 1]? = some (.map #[] 0) := by
    have := World.alloc_heap_new (w.alloc (.cells #[v0,v1,v2,v3] 24)) (.map #[] 0)
    simpa using this
  have cF := (callsIn_wide (n := 5)).2 (free_call ht hv (w := (w.alloc (.cells #[v0,v1,v2,v3] 24)).alloc (.map #[] 0)) (D := D) (fun b hb => by have := hD b hb; simp; omega) (vs := [v0,v1,v2,v3])
    (hus.imp fun _ _ hx => hx.mono fun b hb => ⟨hb,(Below.heap_alloc _ _ b (by have := hD b hb; simp; omega)).trans (Below.heap_alloc _ _ b (hD b hb))⟩) (b := w.heap.size + 1) (fun h => by have := hD _ h; omega) hbW)
  have cK : ∀ mb W,CallsIn Fence.wide 5 Try.prog 64 #[.map mb] W fun e w' => e = .returned (.func (.func 72) #[] #[.pointer (some ⟨W.heap.size,0,none⟩)]) ∧ w' = W.alloc (.cells #[.map mb] 57) := fun mb W => AnyZI.keys_in layK Fence.wide 5 trivial rfl mb W
  have hf1 : Fence.wide.fn 62 := trivial
  have hf2 : Fence.wide.fn 64 := trivial
  have hf3 : Fence.wide.fn 63 := trivial
  refine callsIn_of_wp Try.func35 rfl trivial ?_ rfl
  simp only [Try.ntmps35,List.size_toArray,List.length_cons,List.length_nil,Nat.reduceAdd,Nat.reduceSub,Array.replicate_succ,Array.replicate_zero,List.push_toArray,List.append_toArray,List.nil_append,List.cons_append]
  gi_wp2_with (first
    | (gi_at_call 62; refine cF.mono ?_; rintro e w2 ⟨rfl,es,clock,hb2,hI,hg⟩)
    | (gi_at_call 64; refine (cK _ _).mono ?_; rintro e w' ⟨rfl,rfl⟩)
    | (gi_at_call 63; refine (sorted_call hv hb2 hI).mono ?_; rintro e w3 ⟨u,rfl,hrow,hbw⟩))
  go_ret
  have hgs := hg.size
  simp only [World.alloc,Array.size_push] at hgs
  have B1 : RowKit.Below w.heap.size w ((w.alloc (.cells #[v0,v1,v2,v3] 24)).alloc (.map #[] 0)) := ((Below.refl _ w).alloc (Nat.le_refl _) _).alloc (by simp) _
  have B2 : RowKit.Below w.heap.size w w2 :=
    { size := Nat.le_trans B1.size hg.size,block := fun k hk => (hg.block k (by simp; omega) (by simp; omega)).trans (B1.block k hk),os := hg.os.trans B1.os,tape := hg.tape.trans B1.tape,output := hg.output.trans B1.output }
  exact ⟨u,rfl,row_rp hrow (fun g h1 h2 => .inr ⟨by omega,h2⟩),(B2.alloc (by omega) _).trans (hbw.mono (by omega))⟩
theorem free_orc {t : T} (ht : T.Ok t) (hv : vn t ≤ 1073741824) : Ent Try.prog 35 ∧ SndP1 Try.prog 35 [.g (enc t)] (.a (.l ((freeT t).map encI))) := by
  refine ⟨⟨_,Try.func35,rfl,by kernel_rfl⟩,fun w D vs hD hps rr n => ?_⟩
  cases hps with
  | cons x r =>
    cases r
    have h := free_machine ht hv hD x
    cases rr with
    | none => exact callsIn_wide.2 h
    | some l => exact CallsIn.inRound l (callsIn_wide.2 h)
end Go.Proofs.Ytlgekplmbmkcmaa
end
section
set_option linter.unusedSimpArgs false
set_option linter.unusedVariables false
namespace Go.Proofs.Ytlgekplmbmkcmaa
open Go.Fx
mutual
theorem enc_inj : ∀ {t u : T},enc t = enc u → t = u
  | .mk k n s l,.mk k' n' s' l',h => by
    simp only [enc,List.cons.injEq,PV.i.injEq,true_and,PV.s.injEq,PV.l.injEq,and_true] at h
    obtain ⟨rfl,rfl,rfl,h4⟩ := h
    rw [encL_inj h4]
theorem encL_inj : ∀ {l m : List T},encL l = encL m → l = m
  | [],[],_ => rfl
  | t :: l,u :: m,h => by
    simp only [encL,List.cons.injEq] at h
    rw [enc_inj h.1,encL_inj h.2]
  | [],_ :: _,h => by simp [encL] at h
  | _ :: _,[],h => by simp [encL] at h
end
open Classical in
noncomputable def orcF (ps : List PT) : Option PT := if h : ∃ t,T.Ok t ∧ vn t ≤ 1073741824 ∧ ps = [.g (enc t)] then some (.a (.l ((freeT h.choose).map encI))) else none
theorem orcF_mk {t : T} (ht : T.Ok t) (hv : vn t ≤ 1073741824) : orcF [.g (enc t)] = some (.a (.l ((freeT t).map encI))) := by
  have h : ∃ u,T.Ok u ∧ vn u ≤ 1073741824 ∧ [PT.g (enc t)] = [.g (enc u)] := ⟨t,ht,hv,rfl⟩
  unfold orcF
  rw [dif_pos h]
  have := h.choose_spec.2.2
  injection this with h1 h2
  injection h1 with h1
  exact congrArg (fun u => some (PT.a (PV.l ((freeT u).map encI)))) (enc_inj h1).symm
noncomputable def S : Seat := { fb := fun f => (tbl.find? (·.1 == f)).map (·.2),sp := fun f => f == 67,orc := fun f ps => if f = 35 then orcF ps else none }
theorem seatOk : SeatOk Try.prog [] S where
  mixed := by kernel_rfl
  eql := fun t sh h => by simp at h
  fb f fc h := by
    simp only [S,Option.map_eq_some_iff] at h
    obtain ⟨x,h1,rfl⟩ := h
    have h2 := List.find?_some h1
    have h3 := tblOk x (List.mem_of_find?_eq_some h1)
    simp only [beq_iff_eq] at h2
    rw [← h2]; exact h3
  orc f ps r h := by
    have h2 : (if f = 35 then orcF ps else none) = some r := h
    clear h
    by_cases hf : f = 35
    · rw [if_pos hf] at h2
      subst hf
      unfold orcF at h2
      by_cases hx : ∃ t,T.Ok t ∧ vn t ≤ 1073741824 ∧ ps = [.g (enc t)]
      · rw [dif_pos hx] at h2
        obtain ⟨ht,hv,hps⟩ := hx.choose_spec
        have h3 := Option.some.inj h2
        rw [hps,← h3]
        exact free_orc ht hv
      · rw [dif_neg hx] at h2; cases h2
    · rw [if_neg hf] at h2; cases h2
theorem Free_ok {t : T} (ht : T.Ok t) (hv : vn t ≤ 1073741824) : eP S 35 [.g (enc t)] = some (.a (.l ((freeT t).map encI))) :=
  (eP_some S).2 ⟨1,by
    have : S.orc 35 [.g (enc t)] = some (.a (.l ((freeT t).map encI))) := by show (if 35 = 35 then orcF [.g (enc t)] else none) = _; rw [if_pos rfl]; exact orcF_mk ht hv
    rw [evP,this]⟩
theorem orcS (f : FuncId) (h : f ≠ 35 := by decide) (ps : List PT) : S.orc f ps = none := if_neg h
theorem spS (f : FuncId) : S.sp f = (f == 67) := rfl
end Go.Proofs.Ytlgekplmbmkcmaa
end
section
set_option linter.unusedSimpArgs false
set_option linter.unusedVariables false
namespace Go.Proofs.Ytlgekplmbmkcmaa
open Go.Fx
def T.more (t : T) : Int := if t.k = 2 then 1 else if t.k = 6 then t.n else 0
mutual
def up (by_ from_ : Int) : T → T
  | .mk k n s l => if k = 1 then (if n ≥ from_ then .mk k (w (n + by_)) s l else .mk k n s l) else .mk k n s (upL by_ (w (from_ + T.more (.mk k n s l))) l)
def upL (by_ from_ : Int) : List T → List T
  | [] => []
  | t :: r => up by_ from_ t :: upL by_ from_ r
end
end Go.Proofs.Ytlgekplmbmkcmaa
end
section
set_option linter.unusedSimpArgs false
set_option linter.unusedVariables false
namespace Go.Proofs.Ytlgekplmbmkcmaa
open Go.Fx
theorem enc_takep (t : T) : ((enc t).map AV.p).take 4 = (enc t).map AV.p := by rw [List.take_of_length_le]; simp [enc_len]
def TermV (lo : Nat) (σ : St) (t : T) (v : TV) : Prop :=
  ∃ X,v = .g [.p (.i .i64 t.k),.p (.i .i64 t.n),.p (.s t.s),X] ∧ frA σ X = some (.l (t.l.map enc)) ∧ ∀ s,s ∈ keysA X → lo ≤ s.2 ∧ s.2 < σ.clk
section
variable {α : Type} (step : α → T → Int → T × α)
mutual
def turn : T → Int → α → T × α
  | .mk k n s l,b,a => if k = 1 then step a (.mk k n s l) b else
      let r := turnL l (if k = 2 then w (b + 1) else if k = 6 then w (b + n) else b) a
      (.mk k n s r.1,r.2)
def turnL : List T → Int → α → List T × α
  | [],_,a => ([],a)
  | t :: r,b,a => ((turn t b a).1 :: (turnL r b (turn t b a).2).1,(turnL r b (turn t b a).2).2)
end
theorem turnL_len : ∀ (l : List T) (b : Int) (a : α),(turnL step l b a).1.length = l.length
  | [],_,_ => rfl
  | x :: l,b,a => by simp [turnL,turnL_len l]
structure Clo (c0 : Nat) (g : FuncId) (caps : List Key) (R : α → St → Prop) : Prop where
  ne : caps ≠ []
  stable : ∀ a σ σ',R a σ → (∀ s : Key,s.2 < c0 → σ'.bs s = σ.bs s) → R a σ'
  call : ∀ a v b σ,v.k = 1 → T.Ok v → R a σ → c0 ≤ σ.clk → ∃ tv σ',eS S (.f g) ([.g ((enc v).map .p),.a (.p (.i .i64 b))] ++ caps.map fun s => .a (.ptr s 0 0)) σ = some (tv,σ') ∧
    (TermV σ.clk σ' (step a v b).1 tv ∧ R (step a v b).2 σ' ∧ Grow c0 σ σ')
def zrow : List PV := [.i .i64 0,.i .i64 0,.s [],.l []]
variable {step} {c0 : Nat} {g : FuncId} {caps : List Key} {R : α → St → Prop}
def TurnOk (step : α → T → Int → T × α) (c0 : Nat) (g : FuncId) (caps : List Key) (R : α → St → Prop) (t : T) : Prop :=
  ∀ a b σ,R a σ → c0 ≤ σ.clk → ∃ tv σ',eS S (.f 51) [.g ((enc t).map .p),.a (.p (.i .i64 b)),.a (.fn g caps)] σ = some (tv,σ') ∧ (TermV σ.clk σ' (turn step t b a).1 tv ∧ R (turn step t b a).2 σ' ∧ Grow c0 σ σ')
theorem loop51 (hC : Clo step c0 g caps R) (t : T) (b : Int) (c : Nat) (hc0 : c0 ≤ c) (hl : t.l.length * 56 ≤ reachBytes) (Q : Ex → Env → St → Prop) :
    ∀ (rem : List T) (i : Nat) (done : List T) (a : α) (e : Env) (σ : St),t.l.drop i = rem → i + rem.length = t.l.length → done.length = i → (∀ u,u ∈ rem → T.Ok u ∧ TurnOk step c0 g caps R u) →
      e 1 = .a (.p (.i .i64 b)) → e 2 = .a (.fn g caps) → e 3 = .a (.ptr (3,c) 0 0) → e 6 = .a (.ptr (6,c + 1) 0 0) → e 7 = .a (.own (31,c + 2) 0 t.l.length) → e 33 = .a (.p (.l (t.l.map enc))) → e 34 = .a (.p (.i .i64 t.l.length)) → e 35 = .a (.p (.i .i64 (i : Nat))) →
      c + 3 ≤ σ.clk → σ.bs (3,c) = some (.var [.p (.i .i64 t.k),.p (.i .i64 t.n),.p (.s t.s),.p (.l (t.l.map enc))]) → σ.bs (6,c + 1) = some (.var [.p (.i .i64 0),.p (.i .i64 0),.p (.s []),.nil]) →
      σ.bs (31,c + 2) = some (.row 4 24 (done.map enc ++ List.replicate rem.length zrow)) → R a σ →
      (∀ e' σ',e' 3 = .a (.ptr (3,c) 0 0) → e' 6 = .a (.ptr (6,c + 1) 0 0) → e' 7 = .a (.own (31,c + 2) 0 t.l.length) → σ.clk ≤ σ'.clk → σ'.ls = σ.ls → (∀ s : Key,c0 ≤ s.2 → s.2 < c + 2 → σ'.bs s = σ.bs s) →
        σ'.bs (31,c + 2) = some (.row 4 24 ((done ++ (turnL step rem b a).1).map enc)) → R (turnL step rem b a).2 σ' → Q (.exit 1) e' σ') → wp S false (.loop F51b0) e σ Q := by
  intro rem
  induction rem with
  | nil =>
    intro i done a e σ hd hi hdl hu e1 e2 e3 e6 e7 e33 e34 e35 hc h3 h6 h31 hR hQ
    have hlt : ¬ ((i : Int) < (t.l.length : Int)) := by simp at hi; omega
    rw [x_loop,F51b0]
    simp only [e1,e2,e3,e6,e7,e33,e34,e35,hlt,x_seq,x_reg,x_skip,x_exit,x_ret,x_block,x_if,wpC_t,wpC_f,wpI_cons,wpI_nil,wpX_some,evI_any,evI_rd,evI_ad,evI_g,evG_u,evG_b,evG_tt,evG_ff,evG_tf,evG_ft,evO,evR,ev_t,ev_c,ev_f,putD_some,putD_none,put_at,cellsT,ldCells,mkT,lenA,binPV,add_bs,add_clk,add_ls,put_bs,put_clk,put_ls,kill_bs,kill_clk,kill_ls,empty_clk,empty_bs,Env.init,seqQ_norm,seqQ_exit,seqQ_ret,blkQ_norm,blkQ_exit,blkQ_ret,loopQ_norm,loopQ_exit,loopQ_ret,retP_ret,retP_norm,retE_ret,retE_norm,retS_ret,retS_norm,wpO_some,frA_fn,klA_p,klA_nil,klA_own,resVs,resV,resT,Option.bind_some,Option.bind_none,Option.map_some,List.getD_cons_zero,List.getD_cons_succ,List.getD_nil,List.length_cons,List.length_nil,List.length_map,List.map_cons,List.map_nil,List.drop_zero,List.drop_succ_cons,List.take_succ_cons,List.take_zero,List.drop_nil,List.take_nil,Nat.reduceEqDiff,Nat.reduceAdd,Nat.reduceLeDiff,Nat.zero_add,Nat.add_zero,Prod.mk.injEq,and_true,true_and,and_false,false_and,and_self,if_true,if_false,ite_true,ite_false,Bool.not_true,Bool.not_false,Bool.not_eq_true',reduceCtorEq,decide_true,decide_false,frTs,frT,frL_p,spS,ofPT_a,ofPT_g,ofPT_t,flat_i,flat_b,flat_s,flat_l,flat_g,flatp_i,flatp_b,flatp_s,flatp_l,klTs,klT,Bool.and_false,Bool.false_and,frL,frA_p,frA_nil,frA_own,ownT,intT,Bool.or_true,Bool.true_or,Bool.false_eq_true,frL_p,klL_p,ownT_p,O.adds,List.all_cons,List.all_nil,List.any_cons,List.any_nil,ownA,evO.bslRows,List.replicate_succ,List.replicate_zero,List.set_cons_zero,rowsA,over,List.cons_append,List.nil_append,List.append_nil,fillA,Bool.and_self,Bool.and_true,Bool.true_and,Bool.or_self,Bool.or_false,Bool.false_or,Nat.reduceMul,Nat.one_mul,Nat.lt_add_one,klL,Nat.le_refl,ite_self,Nat.reduceBEq]
    refine hQ _ σ ?_ ?_ ?_ (Nat.le_refl _) rfl (fun _ _ _ => rfl) (by simpa [turnL] using h31) (by simpa [turnL] using hR)
    all_goals simp only [e3,e6,e7,x_seq,x_reg,x_skip,x_exit,x_ret,x_block,x_if,wpC_t,wpC_f,wpI_cons,wpI_nil,wpX_some,evI_any,evI_rd,evI_ad,evI_g,evG_u,evG_b,evG_tt,evG_ff,evG_tf,evG_ft,evO,evR,ev_t,ev_c,ev_f,putD_some,putD_none,put_at,cellsT,ldCells,mkT,lenA,binPV,add_bs,add_clk,add_ls,put_bs,put_clk,put_ls,kill_bs,kill_clk,kill_ls,empty_clk,empty_bs,Env.init,seqQ_norm,seqQ_exit,seqQ_ret,blkQ_norm,blkQ_exit,blkQ_ret,loopQ_norm,loopQ_exit,loopQ_ret,retP_ret,retP_norm,retE_ret,retE_norm,retS_ret,retS_norm,wpO_some,frA_fn,klA_p,klA_nil,klA_own,resVs,resV,resT,Option.bind_some,Option.bind_none,Option.map_some,List.getD_cons_zero,List.getD_cons_succ,List.getD_nil,List.length_cons,List.length_nil,List.length_map,List.map_cons,List.map_nil,List.drop_zero,List.drop_succ_cons,List.take_succ_cons,List.take_zero,List.drop_nil,List.take_nil,Nat.reduceEqDiff,Nat.reduceAdd,Nat.reduceLeDiff,Nat.zero_add,Nat.add_zero,Prod.mk.injEq,and_true,true_and,and_false,false_and,and_self,if_true,if_false,ite_true,ite_false,Bool.not_true,Bool.not_false,Bool.not_eq_true',reduceCtorEq,decide_true,decide_false,frTs,frT,frL_p,spS,ofPT_a,ofPT_g,ofPT_t,flat_i,flat_b,flat_s,flat_l,flat_g,flatp_i,flatp_b,flatp_s,flatp_l,klTs,klT,Bool.and_false,Bool.false_and,frL,frA_p,frA_nil,frA_own,ownT,intT,Bool.or_true,Bool.true_or,Bool.false_eq_true,frL_p,klL_p,ownT_p,O.adds,List.all_cons,List.all_nil,List.any_cons,List.any_nil,ownA,evO.bslRows,List.replicate_succ,List.replicate_zero,List.set_cons_zero,rowsA,over,List.cons_append,List.nil_append,List.append_nil,fillA,Bool.and_self,Bool.and_true,Bool.true_and,Bool.or_self,Bool.or_false,Bool.false_or,Nat.reduceMul,Nat.one_mul,Nat.lt_add_one,klL,Nat.le_refl,ite_self,Nat.reduceBEq]
  | cons x rem ih =>
    intro i done a e σ hd hi hdl hu e1 e2 e3 e6 e7 e33 e34 e35 hc h3 h6 h31 hR hQ
    simp only [List.length_cons] at hi
    have hlt : ((i : Int) < (t.l.length : Int)) := by omega
    have h0 : (0 : Int) ≤ (i : Int) := by omega
    have hx : t.l[i]? = some x := by rw [← List.head?_drop,hd]; rfl
    have hx' : (t.l.map enc)[i]? = some (enc x) := by simp [hx]
    obtain ⟨hxo,hxt⟩ := hu x (by simp)
    rw [x_loop,F51b0]
    simp only [e1,e2,e3,e6,e7,e33,e34,e35,h3,h6,h31,hlt,h0,Int.toNat_natCast,hx',enc_len,enc_all,enc_take,enc_takep,rowK,x_seq,x_reg,x_skip,x_exit,x_ret,x_block,x_if,wpC_t,wpC_f,wpI_cons,wpI_nil,wpX_some,evI_any,evI_rd,evI_ad,evI_g,evG_u,evG_b,evG_tt,evG_ff,evG_tf,evG_ft,evO,evR,ev_t,ev_c,ev_f,putD_some,putD_none,put_at,cellsT,ldCells,mkT,lenA,binPV,add_bs,add_clk,add_ls,put_bs,put_clk,put_ls,kill_bs,kill_clk,kill_ls,empty_clk,empty_bs,Env.init,seqQ_norm,seqQ_exit,seqQ_ret,blkQ_norm,blkQ_exit,blkQ_ret,loopQ_norm,loopQ_exit,loopQ_ret,retP_ret,retP_norm,retE_ret,retE_norm,retS_ret,retS_norm,wpO_some,frA_fn,klA_p,klA_nil,klA_own,resVs,resV,resT,Option.bind_some,Option.bind_none,Option.map_some,List.getD_cons_zero,List.getD_cons_succ,List.getD_nil,List.length_cons,List.length_nil,List.length_map,List.map_cons,List.map_nil,List.drop_zero,List.drop_succ_cons,List.take_succ_cons,List.take_zero,List.drop_nil,List.take_nil,Nat.reduceEqDiff,Nat.reduceAdd,Nat.reduceLeDiff,Nat.zero_add,Nat.add_zero,Prod.mk.injEq,and_true,true_and,and_false,false_and,and_self,if_true,if_false,ite_true,ite_false,Bool.not_true,Bool.not_false,Bool.not_eq_true',reduceCtorEq,decide_true,decide_false,frTs,frT,frL_p,spS,ofPT_a,ofPT_g,ofPT_t,flat_i,flat_b,flat_s,flat_l,flat_g,flatp_i,flatp_b,flatp_s,flatp_l,klTs,klT,Bool.and_false,Bool.false_and,frL,frA_p,frA_nil,frA_own,ownT,intT,Bool.or_true,Bool.true_or,Bool.false_eq_true,frL_p,klL_p,ownT_p,O.adds,List.all_cons,List.all_nil,List.any_cons,List.any_nil,ownA,evO.bslRows,List.replicate_succ,List.replicate_zero,List.set_cons_zero,rowsA,over,List.cons_append,List.nil_append,List.append_nil,fillA,Bool.and_self,Bool.and_true,Bool.true_and,Bool.or_self,Bool.or_false,Bool.false_or,Nat.reduceMul,Nat.one_mul,Nat.lt_add_one,klL,Nat.le_refl,ite_self,Nat.reduceBEq]
    have hne : ∀ s : Key,s.2 < σ.clk → ¬ s = (9,σ.clk) := by rintro s hs rfl; exact Nat.lt_irrefl _ hs
    refine wpX_call (hxt a b _ (hC.stable _ σ _ hR fun s hs => ?_) ?_) fun tv σ2 hK => ?_
    · simp only [put_bs,add_bs,hne s (by omega),if_false]
    · simp only [put_clk,add_clk]; omega
    obtain ⟨⟨X,rfl,hX,hk⟩,hR2,hG⟩ := hK
    obtain ⟨hG1,hG2,hG3⟩ := hG
    simp only [put_clk,add_clk,put_ls,add_ls,put_bs,add_bs] at hG1 hG2 hG3 hk
    have h3' : σ2.bs (3,c) = some (.var [.p (.i .i64 t.k),.p (.i .i64 t.n),.p (.s t.s),.p (.l (t.l.map enc))]) := by
      rw [hG3 _ (by simpa using hc0) (by simp; omega)]; simp [h3]
    have h6' : σ2.bs (6,c + 1) = some (.var [.p (.i .i64 0),.p (.i .i64 0),.p (.s []),.nil]) := by
      rw [hG3 _ (by simp; omega) (by simp; omega)]; simp [h6]
    obtain ⟨tl,htl⟩ : ∃ tl,tl = List.replicate rem.length zrow := ⟨_,rfl⟩
    have h31' : σ2.bs (31,c + 2) = some (.row 4 24 (done.map enc ++ zrow :: tl)) := by
      rw [hG3 _ (by simp; omega) (by simp; omega)]; simp [h31,htl,List.replicate_succ]
    have hri : (done.map enc ++ zrow :: tl)[i]? = some zrow := by
      rw [List.getElem?_append_right (by simp [hdl])]; simp [hdl]
    have hset : ∀ z,(done.map enc ++ zrow :: tl).set i z = done.map enc ++ z :: tl := by
      intro z
      rw [List.set_append_right _ _ (by simp [hdl])]
      simp [hdl]
    have hil : 0 + i = i := Nat.zero_add i
    have hzl : zrow.length = 4 := rfl
    have hzd : zrow.drop 4 = [] := rfl
    have hty : [PV.i .i64 (turn step x b a).1.k,PV.i .i64 (turn step x b a).1.n,PV.s (turn step x b a).1.s,PV.l ((turn step x b a).1.l.map enc)] = enc (turn step x b a).1 := (enc_eq _).symm
    have fin : ∀ (e' : Env) (σ3 : St),e' 1 = .a (.p (.i .i64 b)) → e' 2 = .a (.fn g caps) → e' 3 = .a (.ptr (3,c) 0 0) → e' 6 = .a (.ptr (6,c + 1) 0 0) → e' 7 = .a (.own (31,c + 2) 0 t.l.length) → e' 33 = .a (.p (.l (t.l.map enc))) → e' 34 = .a (.p (.i .i64 t.l.length)) →
        e' 35 = .a (.p (.i .i64 (IntKind.i64.wrap ((i : Int) + 1)))) → σ3.clk = σ2.clk → σ3.ls = σ2.ls → (∀ s : Key,s.2 < c + 2 → σ3.bs s = σ2.bs s) → σ3.bs (31,c + 2) = some (.row 4 24 (done.map enc ++ enc (turn step x b a).1 :: tl)) → wp S false (.loop F51b0) e' σ3 Q := by
      intro e' σ3 f1 f2 f3 f6 f7 f33 f34 f35 k1 k2 k3 k4
      have hlb : t.l.length < 9223372036854775807 := by simp only [reachBytes] at hl; omega
      refine ih (i + 1) (done ++ [(turn step x b a).1]) (turn step x b a).2 e' σ3 ?_ (by omega) (by simp [hdl]) (fun u hu' => hu u (by simp [hu'])) f1 f2 f3 f6 f7 f33 f34 (by rw [f35,wrap_succ i (by omega)]) (by omega) ?_ ?_ ?_ (hC.stable _ σ2 _ hR2 fun s hs => k3 s (by omega)) ?_
      · rw [← List.drop_drop,hd]; rfl
      · rw [k3 _ (by simp)]; exact h3'
      · rw [k3 _ (by simp)]; exact h6'
      · rw [k4,htl]; simp
      · intro e'' σ4 q3 q6 q7 q8 q9 q10 q11 q12
        refine hQ e'' σ4 q3 q6 q7 (by omega) (by rw [q9,k2]; exact hG2) (fun s hs1 hs2 => ?_) ?_ ?_
        · rw [q10 s hs1 hs2,k3 s hs2,hG3 s hs1 (by omega)]
          simp only [hne s (by omega),if_false]
        · rw [q11]; simp [turnL]
        · simpa [turnL] using q12
    cases X with
    | p v =>
      simp only [frA,Option.some.injEq] at hX
      subst hX
      simp only [h31',rowK,Int.toNat_natCast,hlt,h0,hil,hri,hset,hzl,hzd,hty,e1,e2,e3,e6,e7,e33,e34,e35,Nat.reduceLeDiff,x_seq,x_reg,x_skip,x_exit,x_ret,x_block,x_if,wpC_t,wpC_f,wpI_cons,wpI_nil,wpX_some,evI_any,evI_rd,evI_ad,evI_g,evG_u,evG_b,evG_tt,evG_ff,evG_tf,evG_ft,evO,evR,ev_t,ev_c,ev_f,putD_some,putD_none,put_at,cellsT,ldCells,mkT,lenA,binPV,add_bs,add_clk,add_ls,put_bs,put_clk,put_ls,kill_bs,kill_clk,kill_ls,empty_clk,empty_bs,Env.init,seqQ_norm,seqQ_exit,seqQ_ret,blkQ_norm,blkQ_exit,blkQ_ret,loopQ_norm,loopQ_exit,loopQ_ret,retP_ret,retP_norm,retE_ret,retE_norm,retS_ret,retS_norm,wpO_some,frA_fn,klA_p,klA_nil,klA_own,resVs,resV,resT,Option.bind_some,Option.bind_none,Option.map_some,List.getD_cons_zero,List.getD_cons_succ,List.getD_nil,List.length_cons,List.length_nil,List.length_map,List.map_cons,List.map_nil,List.drop_zero,List.drop_succ_cons,List.take_succ_cons,List.take_zero,List.drop_nil,List.take_nil,Nat.reduceEqDiff,Nat.reduceAdd,Nat.reduceLeDiff,Nat.zero_add,Nat.add_zero,Prod.mk.injEq,and_true,true_and,and_false,false_and,and_self,if_true,if_false,ite_true,ite_false,Bool.not_true,Bool.not_false,Bool.not_eq_true',reduceCtorEq,decide_true,decide_false,frTs,frT,frL_p,spS,ofPT_a,ofPT_g,ofPT_t,flat_i,flat_b,flat_s,flat_l,flat_g,flatp_i,flatp_b,flatp_s,flatp_l,klTs,klT,Bool.and_false,Bool.false_and,frL,frA_p,frA_nil,frA_own,ownT,intT,Bool.or_true,Bool.true_or,Bool.false_eq_true,frL_p,klL_p,ownT_p,O.adds,List.all_cons,List.all_nil,List.any_cons,List.any_nil,ownA,evO.bslRows,List.replicate_succ,List.replicate_zero,List.set_cons_zero,rowsA,over,List.cons_append,List.nil_append,List.append_nil,fillA,Bool.and_self,Bool.and_true,Bool.true_and,Bool.or_self,Bool.or_false,Bool.false_or,Nat.reduceMul,Nat.one_mul,Nat.lt_add_one,klL,Nat.le_refl,ite_self,Nat.reduceBEq]
      refine fin _ _ ?_ ?_ ?_ ?_ ?_ ?_ ?_ ?_ ?_ ?_ ?_ ?_
      all_goals try simp only [e1,e2,e3,e6,e7,e33,e34,e35,h31',x_seq,x_reg,x_skip,x_exit,x_ret,x_block,x_if,wpC_t,wpC_f,wpI_cons,wpI_nil,wpX_some,evI_any,evI_rd,evI_ad,evI_g,evG_u,evG_b,evG_tt,evG_ff,evG_tf,evG_ft,evO,evR,ev_t,ev_c,ev_f,putD_some,putD_none,put_at,cellsT,ldCells,mkT,lenA,binPV,add_bs,add_clk,add_ls,put_bs,put_clk,put_ls,kill_bs,kill_clk,kill_ls,empty_clk,empty_bs,Env.init,seqQ_norm,seqQ_exit,seqQ_ret,blkQ_norm,blkQ_exit,blkQ_ret,loopQ_norm,loopQ_exit,loopQ_ret,retP_ret,retP_norm,retE_ret,retE_norm,retS_ret,retS_norm,wpO_some,frA_fn,klA_p,klA_nil,klA_own,resVs,resV,resT,Option.bind_some,Option.bind_none,Option.map_some,List.getD_cons_zero,List.getD_cons_succ,List.getD_nil,List.length_cons,List.length_nil,List.length_map,List.map_cons,List.map_nil,List.drop_zero,List.drop_succ_cons,List.take_succ_cons,List.take_zero,List.drop_nil,List.take_nil,Nat.reduceEqDiff,Nat.reduceAdd,Nat.reduceLeDiff,Nat.zero_add,Nat.add_zero,Prod.mk.injEq,and_true,true_and,and_false,false_and,and_self,if_true,if_false,ite_true,ite_false,Bool.not_true,Bool.not_false,Bool.not_eq_true',reduceCtorEq,decide_true,decide_false,frTs,frT,frL_p,spS,ofPT_a,ofPT_g,ofPT_t,flat_i,flat_b,flat_s,flat_l,flat_g,flatp_i,flatp_b,flatp_s,flatp_l,klTs,klT,Bool.and_false,Bool.false_and,frL,frA_p,frA_nil,frA_own,ownT,intT,Bool.or_true,Bool.true_or,Bool.false_eq_true,frL_p,klL_p,ownT_p,O.adds,List.all_cons,List.all_nil,List.any_cons,List.any_nil,ownA,evO.bslRows,List.replicate_succ,List.replicate_zero,List.set_cons_zero,rowsA,over,List.cons_append,List.nil_append,List.append_nil,fillA,Bool.and_self,Bool.and_true,Bool.true_and,Bool.or_self,Bool.or_false,Bool.false_or,Nat.reduceMul,Nat.one_mul,Nat.lt_add_one,klL,Nat.le_refl,ite_self,Nat.reduceBEq]
      · intro s hs; rw [if_neg]; rintro rfl; simp at hs
      · simp only [if_true,enc_len,hzd,List.append_nil]
    | own s2 o2 l2 =>
      have hs2 := hk s2 (by simp [keysA])
      have hsn : ¬ s2 = (31,c + 2) := by rintro rfl; simp at hs2; omega
      have hsn' : ¬ (31,c + 2) = s2 := fun h => hsn h.symm
      have hX' := hX
      simp only [frA_own] at hX'
      simp only [h31',rowK,Int.toNat_natCast,hlt,h0,hil,hri,hset,hzl,hzd,hX',hsn,hsn',hty,e1,e2,e3,e6,e7,e33,e34,e35,Nat.reduceLeDiff,ne_eq,not_false_eq_true,x_seq,x_reg,x_skip,x_exit,x_ret,x_block,x_if,wpC_t,wpC_f,wpI_cons,wpI_nil,wpX_some,evI_any,evI_rd,evI_ad,evI_g,evG_u,evG_b,evG_tt,evG_ff,evG_tf,evG_ft,evO,evR,ev_t,ev_c,ev_f,putD_some,putD_none,put_at,cellsT,ldCells,mkT,lenA,binPV,add_bs,add_clk,add_ls,put_bs,put_clk,put_ls,kill_bs,kill_clk,kill_ls,empty_clk,empty_bs,Env.init,seqQ_norm,seqQ_exit,seqQ_ret,blkQ_norm,blkQ_exit,blkQ_ret,loopQ_norm,loopQ_exit,loopQ_ret,retP_ret,retP_norm,retE_ret,retE_norm,retS_ret,retS_norm,wpO_some,frA_fn,klA_p,klA_nil,klA_own,resVs,resV,resT,Option.bind_some,Option.bind_none,Option.map_some,List.getD_cons_zero,List.getD_cons_succ,List.getD_nil,List.length_cons,List.length_nil,List.length_map,List.map_cons,List.map_nil,List.drop_zero,List.drop_succ_cons,List.take_succ_cons,List.take_zero,List.drop_nil,List.take_nil,Nat.reduceEqDiff,Nat.reduceAdd,Nat.reduceLeDiff,Nat.zero_add,Nat.add_zero,Prod.mk.injEq,and_true,true_and,and_false,false_and,and_self,if_true,if_false,ite_true,ite_false,Bool.not_true,Bool.not_false,Bool.not_eq_true',reduceCtorEq,decide_true,decide_false,frTs,frT,frL_p,spS,ofPT_a,ofPT_g,ofPT_t,flat_i,flat_b,flat_s,flat_l,flat_g,flatp_i,flatp_b,flatp_s,flatp_l,klTs,klT,Bool.and_false,Bool.false_and,frL,frA_p,frA_nil,frA_own,ownT,intT,Bool.or_true,Bool.true_or,Bool.false_eq_true,frL_p,klL_p,ownT_p,O.adds,List.all_cons,List.all_nil,List.any_cons,List.any_nil,ownA,evO.bslRows,List.replicate_succ,List.replicate_zero,List.set_cons_zero,rowsA,over,List.cons_append,List.nil_append,List.append_nil,fillA,Bool.and_self,Bool.and_true,Bool.true_and,Bool.or_self,Bool.or_false,Bool.false_or,Nat.reduceMul,Nat.one_mul,Nat.lt_add_one,klL,Nat.le_refl,ite_self,Nat.reduceBEq]
      refine fin _ _ ?_ ?_ ?_ ?_ ?_ ?_ ?_ ?_ ?_ ?_ ?_ ?_
      all_goals try simp only [e1,e2,e3,e6,e7,e33,e34,e35,h31',x_seq,x_reg,x_skip,x_exit,x_ret,x_block,x_if,wpC_t,wpC_f,wpI_cons,wpI_nil,wpX_some,evI_any,evI_rd,evI_ad,evI_g,evG_u,evG_b,evG_tt,evG_ff,evG_tf,evG_ft,evO,evR,ev_t,ev_c,ev_f,putD_some,putD_none,put_at,cellsT,ldCells,mkT,lenA,binPV,add_bs,add_clk,add_ls,put_bs,put_clk,put_ls,kill_bs,kill_clk,kill_ls,empty_clk,empty_bs,Env.init,seqQ_norm,seqQ_exit,seqQ_ret,blkQ_norm,blkQ_exit,blkQ_ret,loopQ_norm,loopQ_exit,loopQ_ret,retP_ret,retP_norm,retE_ret,retE_norm,retS_ret,retS_norm,wpO_some,frA_fn,klA_p,klA_nil,klA_own,resVs,resV,resT,Option.bind_some,Option.bind_none,Option.map_some,List.getD_cons_zero,List.getD_cons_succ,List.getD_nil,List.length_cons,List.length_nil,List.length_map,List.map_cons,List.map_nil,List.drop_zero,List.drop_succ_cons,List.take_succ_cons,List.take_zero,List.drop_nil,List.take_nil,Nat.reduceEqDiff,Nat.reduceAdd,Nat.reduceLeDiff,Nat.zero_add,Nat.add_zero,Prod.mk.injEq,and_true,true_and,and_false,false_and,and_self,if_true,if_false,ite_true,ite_false,Bool.not_true,Bool.not_false,Bool.not_eq_true',reduceCtorEq,decide_true,decide_false,frTs,frT,frL_p,spS,ofPT_a,ofPT_g,ofPT_t,flat_i,flat_b,flat_s,flat_l,flat_g,flatp_i,flatp_b,flatp_s,flatp_l,klTs,klT,Bool.and_false,Bool.false_and,frL,frA_p,frA_nil,frA_own,ownT,intT,Bool.or_true,Bool.true_or,Bool.false_eq_true,frL_p,klL_p,ownT_p,O.adds,List.all_cons,List.all_nil,List.any_cons,List.any_nil,ownA,evO.bslRows,List.replicate_succ,List.replicate_zero,List.set_cons_zero,rowsA,over,List.cons_append,List.nil_append,List.append_nil,fillA,Bool.and_self,Bool.and_true,Bool.true_and,Bool.or_self,Bool.or_false,Bool.false_or,Nat.reduceMul,Nat.one_mul,Nat.lt_add_one,klL,Nat.le_refl,ite_self,Nat.reduceBEq]
      · intro s hs; rw [if_neg (by rintro rfl; simp at hs),if_neg (by rintro rfl; omega)]
      · simp only [if_true,enc_len,hzd,List.append_nil]
    | nil =>
      simp only [frA,Option.some.injEq,PV.l.injEq] at hX
      rw [← hX] at hty
      simp only [h31',rowK,Int.toNat_natCast,hlt,h0,hil,hri,hset,hzl,hzd,hty,e1,e2,e3,e6,e7,e33,e34,e35,Nat.reduceLeDiff,x_seq,x_reg,x_skip,x_exit,x_ret,x_block,x_if,wpC_t,wpC_f,wpI_cons,wpI_nil,wpX_some,evI_any,evI_rd,evI_ad,evI_g,evG_u,evG_b,evG_tt,evG_ff,evG_tf,evG_ft,evO,evR,ev_t,ev_c,ev_f,putD_some,putD_none,put_at,cellsT,ldCells,mkT,lenA,binPV,add_bs,add_clk,add_ls,put_bs,put_clk,put_ls,kill_bs,kill_clk,kill_ls,empty_clk,empty_bs,Env.init,seqQ_norm,seqQ_exit,seqQ_ret,blkQ_norm,blkQ_exit,blkQ_ret,loopQ_norm,loopQ_exit,loopQ_ret,retP_ret,retP_norm,retE_ret,retE_norm,retS_ret,retS_norm,wpO_some,frA_fn,klA_p,klA_nil,klA_own,resVs,resV,resT,Option.bind_some,Option.bind_none,Option.map_some,List.getD_cons_zero,List.getD_cons_succ,List.getD_nil,List.length_cons,List.length_nil,List.length_map,List.map_cons,List.map_nil,List.drop_zero,List.drop_succ_cons,List.take_succ_cons,List.take_zero,List.drop_nil,List.take_nil,Nat.reduceEqDiff,Nat.reduceAdd,Nat.reduceLeDiff,Nat.zero_add,Nat.add_zero,Prod.mk.injEq,and_true,true_and,and_false,false_and,and_self,if_true,if_false,ite_true,ite_false,Bool.not_true,Bool.not_false,Bool.not_eq_true',reduceCtorEq,decide_true,decide_false,frTs,frT,frL_p,spS,ofPT_a,ofPT_g,ofPT_t,flat_i,flat_b,flat_s,flat_l,flat_g,flatp_i,flatp_b,flatp_s,flatp_l,klTs,klT,Bool.and_false,Bool.false_and,frL,frA_p,frA_nil,frA_own,ownT,intT,Bool.or_true,Bool.true_or,Bool.false_eq_true,frL_p,klL_p,ownT_p,O.adds,List.all_cons,List.all_nil,List.any_cons,List.any_nil,ownA,evO.bslRows,List.replicate_succ,List.replicate_zero,List.set_cons_zero,rowsA,over,List.cons_append,List.nil_append,List.append_nil,fillA,Bool.and_self,Bool.and_true,Bool.true_and,Bool.or_self,Bool.or_false,Bool.false_or,Nat.reduceMul,Nat.one_mul,Nat.lt_add_one,klL,Nat.le_refl,ite_self,Nat.reduceBEq]
      refine fin _ _ ?_ ?_ ?_ ?_ ?_ ?_ ?_ ?_ ?_ ?_ ?_ ?_
      all_goals try simp only [e1,e2,e3,e6,e7,e33,e34,e35,h31',x_seq,x_reg,x_skip,x_exit,x_ret,x_block,x_if,wpC_t,wpC_f,wpI_cons,wpI_nil,wpX_some,evI_any,evI_rd,evI_ad,evI_g,evG_u,evG_b,evG_tt,evG_ff,evG_tf,evG_ft,evO,evR,ev_t,ev_c,ev_f,putD_some,putD_none,put_at,cellsT,ldCells,mkT,lenA,binPV,add_bs,add_clk,add_ls,put_bs,put_clk,put_ls,kill_bs,kill_clk,kill_ls,empty_clk,empty_bs,Env.init,seqQ_norm,seqQ_exit,seqQ_ret,blkQ_norm,blkQ_exit,blkQ_ret,loopQ_norm,loopQ_exit,loopQ_ret,retP_ret,retP_norm,retE_ret,retE_norm,retS_ret,retS_norm,wpO_some,frA_fn,klA_p,klA_nil,klA_own,resVs,resV,resT,Option.bind_some,Option.bind_none,Option.map_some,List.getD_cons_zero,List.getD_cons_succ,List.getD_nil,List.length_cons,List.length_nil,List.length_map,List.map_cons,List.map_nil,List.drop_zero,List.drop_succ_cons,List.take_succ_cons,List.take_zero,List.drop_nil,List.take_nil,Nat.reduceEqDiff,Nat.reduceAdd,Nat.reduceLeDiff,Nat.zero_add,Nat.add_zero,Prod.mk.injEq,and_true,true_and,and_false,false_and,and_self,if_true,if_false,ite_true,ite_false,Bool.not_true,Bool.not_false,Bool.not_eq_true',reduceCtorEq,decide_true,decide_false,frTs,frT,frL_p,spS,ofPT_a,ofPT_g,ofPT_t,flat_i,flat_b,flat_s,flat_l,flat_g,flatp_i,flatp_b,flatp_s,flatp_l,klTs,klT,Bool.and_false,Bool.false_and,frL,frA_p,frA_nil,frA_own,ownT,intT,Bool.or_true,Bool.true_or,Bool.false_eq_true,frL_p,klL_p,ownT_p,O.adds,List.all_cons,List.all_nil,List.any_cons,List.any_nil,ownA,evO.bslRows,List.replicate_succ,List.replicate_zero,List.set_cons_zero,rowsA,over,List.cons_append,List.nil_append,List.append_nil,fillA,Bool.and_self,Bool.and_true,Bool.true_and,Bool.or_self,Bool.or_false,Bool.false_or,Nat.reduceMul,Nat.one_mul,Nat.lt_add_one,klL,Nat.le_refl,ite_self,Nat.reduceBEq]
      · intro s hs; rw [if_neg]; rintro rfl; simp at hs
      · simp only [if_true,enc_len,hzd,List.append_nil]
    | raw v =>
      cases v with
      | slice a0 n0 p0 =>
        cases n0 with
        | zero =>
          have hrw : ∀ τ : St,frA τ (.raw (.slice a0 0 p0)) = some (.l []) := fun _ => rfl
          have hkl : ∀ τ : St,klA τ (.raw (.slice a0 0 p0)) = τ := fun _ => rfl
          simp only [hrw,Option.some.injEq,PV.l.injEq] at hX
          rw [← hX] at hty
          simp only [h31',rowK,Int.toNat_natCast,hlt,h0,hil,hri,hset,hzl,hzd,hty,hrw,hkl,e1,e2,e3,e6,e7,e33,e34,e35,Nat.reduceLeDiff,x_seq,x_reg,x_skip,x_exit,x_ret,x_block,x_if,wpC_t,wpC_f,wpI_cons,wpI_nil,wpX_some,evI_any,evI_rd,evI_ad,evI_g,evG_u,evG_b,evG_tt,evG_ff,evG_tf,evG_ft,evO,evR,ev_t,ev_c,ev_f,putD_some,putD_none,put_at,cellsT,ldCells,mkT,lenA,binPV,add_bs,add_clk,add_ls,put_bs,put_clk,put_ls,kill_bs,kill_clk,kill_ls,empty_clk,empty_bs,Env.init,seqQ_norm,seqQ_exit,seqQ_ret,blkQ_norm,blkQ_exit,blkQ_ret,loopQ_norm,loopQ_exit,loopQ_ret,retP_ret,retP_norm,retE_ret,retE_norm,retS_ret,retS_norm,wpO_some,frA_fn,klA_p,klA_nil,klA_own,resVs,resV,resT,Option.bind_some,Option.bind_none,Option.map_some,List.getD_cons_zero,List.getD_cons_succ,List.getD_nil,List.length_cons,List.length_nil,List.length_map,List.map_cons,List.map_nil,List.drop_zero,List.drop_succ_cons,List.take_succ_cons,List.take_zero,List.drop_nil,List.take_nil,Nat.reduceEqDiff,Nat.reduceAdd,Nat.reduceLeDiff,Nat.zero_add,Nat.add_zero,Prod.mk.injEq,and_true,true_and,and_false,false_and,and_self,if_true,if_false,ite_true,ite_false,Bool.not_true,Bool.not_false,Bool.not_eq_true',reduceCtorEq,decide_true,decide_false,frTs,frT,frL_p,spS,ofPT_a,ofPT_g,ofPT_t,flat_i,flat_b,flat_s,flat_l,flat_g,flatp_i,flatp_b,flatp_s,flatp_l,klTs,klT,Bool.and_false,Bool.false_and,frL,frA_p,frA_nil,frA_own,ownT,intT,Bool.or_true,Bool.true_or,Bool.false_eq_true,frL_p,klL_p,ownT_p,O.adds,List.all_cons,List.all_nil,List.any_cons,List.any_nil,ownA,evO.bslRows,List.replicate_succ,List.replicate_zero,List.set_cons_zero,rowsA,over,List.cons_append,List.nil_append,List.append_nil,fillA,Bool.and_self,Bool.and_true,Bool.true_and,Bool.or_self,Bool.or_false,Bool.false_or,Nat.reduceMul,Nat.one_mul,Nat.lt_add_one,klL,Nat.le_refl,ite_self,Nat.reduceBEq]
          refine fin _ _ ?_ ?_ ?_ ?_ ?_ ?_ ?_ ?_ ?_ ?_ ?_ ?_
          all_goals try simp only [e1,e2,e3,e6,e7,e33,e34,e35,h31',x_seq,x_reg,x_skip,x_exit,x_ret,x_block,x_if,wpC_t,wpC_f,wpI_cons,wpI_nil,wpX_some,evI_any,evI_rd,evI_ad,evI_g,evG_u,evG_b,evG_tt,evG_ff,evG_tf,evG_ft,evO,evR,ev_t,ev_c,ev_f,putD_some,putD_none,put_at,cellsT,ldCells,mkT,lenA,binPV,add_bs,add_clk,add_ls,put_bs,put_clk,put_ls,kill_bs,kill_clk,kill_ls,empty_clk,empty_bs,Env.init,seqQ_norm,seqQ_exit,seqQ_ret,blkQ_norm,blkQ_exit,blkQ_ret,loopQ_norm,loopQ_exit,loopQ_ret,retP_ret,retP_norm,retE_ret,retE_norm,retS_ret,retS_norm,wpO_some,frA_fn,klA_p,klA_nil,klA_own,resVs,resV,resT,Option.bind_some,Option.bind_none,Option.map_some,List.getD_cons_zero,List.getD_cons_succ,List.getD_nil,List.length_cons,List.length_nil,List.length_map,List.map_cons,List.map_nil,List.drop_zero,List.drop_succ_cons,List.take_succ_cons,List.take_zero,List.drop_nil,List.take_nil,Nat.reduceEqDiff,Nat.reduceAdd,Nat.reduceLeDiff,Nat.zero_add,Nat.add_zero,Prod.mk.injEq,and_true,true_and,and_false,false_and,and_self,if_true,if_false,ite_true,ite_false,Bool.not_true,Bool.not_false,Bool.not_eq_true',reduceCtorEq,decide_true,decide_false,frTs,frT,frL_p,spS,ofPT_a,ofPT_g,ofPT_t,flat_i,flat_b,flat_s,flat_l,flat_g,flatp_i,flatp_b,flatp_s,flatp_l,klTs,klT,Bool.and_false,Bool.false_and,frL,frA_p,frA_nil,frA_own,ownT,intT,Bool.or_true,Bool.true_or,Bool.false_eq_true,frL_p,klL_p,ownT_p,O.adds,List.all_cons,List.all_nil,List.any_cons,List.any_nil,ownA,evO.bslRows,List.replicate_succ,List.replicate_zero,List.set_cons_zero,rowsA,over,List.cons_append,List.nil_append,List.append_nil,fillA,Bool.and_self,Bool.and_true,Bool.true_and,Bool.or_self,Bool.or_false,Bool.false_or,Nat.reduceMul,Nat.one_mul,Nat.lt_add_one,klL,Nat.le_refl,ite_self,Nat.reduceBEq]
          · intro s hs; rw [if_neg]; rintro rfl; simp at hs
          · simp only [if_true,enc_len,hzd,List.append_nil]
        | succ n0 => simp [frA,rawE] at hX
      | _ => simp [frA,rawE] at hX
    | _ => simp [frA] at hX
theorem turn_ok (hC : Clo step c0 g caps R) {t : T} (ht : T.Ok t) : TurnOk step c0 g caps R t := by
  induction ht with
  | mk k n s l hk hn hs hl h ih =>
    intro a b σ hR hc
    obtain ⟨c1,cr,hcaps⟩ : ∃ c1 cr,caps = c1 :: cr := by
      cases hcc : caps with
      | nil => exact absurd hcc hC.ne
      | cons c1 cr => exact ⟨c1,cr,rfl⟩
    have hne : ∀ s : Key,s.2 < σ.clk → ∀ d k,¬ s = (d,σ.clk + k) := by rintro s hs d k rfl; simp at hs; omega
    have hne0 : ∀ s : Key,s.2 < σ.clk → ∀ d,¬ s = (d,σ.clk) := by rintro s hs d rfl; simp at hs
    refine x_fnS (fc := F51) rfl rfl ?_
    simp only [F51,enc,encL_map,turn,x_seq,x_reg,x_skip,x_exit,x_ret,x_block,x_if,wpC_t,wpC_f,wpI_cons,wpI_nil,wpX_some,evI_any,evI_rd,evI_ad,evI_g,evG_u,evG_b,evG_tt,evG_ff,evG_tf,evG_ft,evO,evR,ev_t,ev_c,ev_f,putD_some,putD_none,put_at,cellsT,ldCells,mkT,lenA,binPV,add_bs,add_clk,add_ls,put_bs,put_clk,put_ls,kill_bs,kill_clk,kill_ls,empty_clk,empty_bs,Env.init,seqQ_norm,seqQ_exit,seqQ_ret,blkQ_norm,blkQ_exit,blkQ_ret,loopQ_norm,loopQ_exit,loopQ_ret,retP_ret,retP_norm,retE_ret,retE_norm,retS_ret,retS_norm,wpO_some,frA_fn,klA_p,klA_nil,klA_own,resVs,resV,resT,Option.bind_some,Option.bind_none,Option.map_some,List.getD_cons_zero,List.getD_cons_succ,List.getD_nil,List.length_cons,List.length_nil,List.length_map,List.map_cons,List.map_nil,List.drop_zero,List.drop_succ_cons,List.take_succ_cons,List.take_zero,List.drop_nil,List.take_nil,Nat.reduceEqDiff,Nat.reduceAdd,Nat.reduceLeDiff,Nat.zero_add,Nat.add_zero,Prod.mk.injEq,and_true,true_and,and_false,false_and,and_self,if_true,if_false,ite_true,ite_false,Bool.not_true,Bool.not_false,Bool.not_eq_true',reduceCtorEq,decide_true,decide_false,frTs,frT,frL_p,spS,ofPT_a,ofPT_g,ofPT_t,flat_i,flat_b,flat_s,flat_l,flat_g,flatp_i,flatp_b,flatp_s,flatp_l,klTs,klT,Bool.and_false,Bool.false_and,frL,frA_p,frA_nil,frA_own,ownT,intT,Bool.or_true,Bool.true_or,Bool.false_eq_true,frL_p,klL_p,ownT_p,O.adds,List.all_cons,List.all_nil,List.any_cons,List.any_nil,ownA,evO.bslRows,List.replicate_succ,List.replicate_zero,List.set_cons_zero,rowsA,over,List.cons_append,List.nil_append,List.append_nil,fillA,Bool.and_self,Bool.and_true,Bool.true_and,Bool.or_self,Bool.or_false,Bool.false_or,Nat.reduceMul,Nat.one_mul,Nat.lt_add_one,klL,Nat.le_refl,ite_self,Nat.reduceBEq]
    refine wpC_split (fun h1 => ?_) (fun h1 => ?_)
    · have hk1 : k = 1 := by simpa using h1
      have hst : ∀ (s' : Key),s'.2 < c0 → ((σ.add 3 (.var [.p (.i .i64 k),.p (.i .i64 n),.p (.s s),.p (.l (l.map enc))])).add 6 (.var [.p (.i .i64 0),.p (.i .i64 0),.p (.s []),.nil])).bs s' = σ.bs s' := by
        intro s' hs'
        simp only [add_bs,add_clk,hne s' (by omega),hne0 s' (by omega),if_false]
      obtain ⟨tv,σ2,hcall,⟨X,rfl,hX,hkk⟩,hR2,hG1,hG2,hG3⟩ := hC.call a (.mk k n s l) b _ hk1 (.mk k n s l hk hn hs hl h) (hC.stable a σ _ hR hst) (by simp only [add_clk]; omega)
      simp only [hcaps,enc,encL_map,List.map_cons,List.map_nil,List.cons_append,List.nil_append] at hcall
      have h6 := hG3 (6,σ.clk + 1) (by simp; omega) (by simp [add_clk])
      simp only [x_seq,x_reg,x_skip,x_exit,x_ret,x_block,x_if,wpC_t,wpC_f,wpI_cons,wpI_nil,wpX_some,evI_any,evI_rd,evI_ad,evI_g,evG_u,evG_b,evG_tt,evG_ff,evG_tf,evG_ft,evO,evR,ev_t,ev_c,ev_f,putD_some,putD_none,put_at,cellsT,ldCells,mkT,lenA,binPV,add_bs,add_clk,add_ls,put_bs,put_clk,put_ls,kill_bs,kill_clk,kill_ls,empty_clk,empty_bs,Env.init,seqQ_norm,seqQ_exit,seqQ_ret,blkQ_norm,blkQ_exit,blkQ_ret,loopQ_norm,loopQ_exit,loopQ_ret,retP_ret,retP_norm,retE_ret,retE_norm,retS_ret,retS_norm,wpO_some,frA_fn,klA_p,klA_nil,klA_own,resVs,resV,resT,Option.bind_some,Option.bind_none,Option.map_some,List.getD_cons_zero,List.getD_cons_succ,List.getD_nil,List.length_cons,List.length_nil,List.length_map,List.map_cons,List.map_nil,List.drop_zero,List.drop_succ_cons,List.take_succ_cons,List.take_zero,List.drop_nil,List.take_nil,Nat.reduceEqDiff,Nat.reduceAdd,Nat.reduceLeDiff,Nat.zero_add,Nat.add_zero,Prod.mk.injEq,and_true,true_and,and_false,false_and,and_self,if_true,if_false,ite_true,ite_false,Bool.not_true,Bool.not_false,Bool.not_eq_true',reduceCtorEq,decide_true,decide_false,frTs,frT,frL_p,spS,ofPT_a,ofPT_g,ofPT_t,flat_i,flat_b,flat_s,flat_l,flat_g,flatp_i,flatp_b,flatp_s,flatp_l,klTs,klT,Bool.and_false,Bool.false_and,frL,frA_p,frA_nil,frA_own,ownT,intT,Bool.or_true,Bool.true_or,Bool.false_eq_true,frL_p,klL_p,ownT_p,O.adds,List.all_cons,List.all_nil,List.any_cons,List.any_nil,ownA,evO.bslRows,List.replicate_succ,List.replicate_zero,List.set_cons_zero,rowsA,over,List.cons_append,List.nil_append,List.append_nil,fillA,Bool.and_self,Bool.and_true,Bool.true_and,Bool.or_self,Bool.or_false,Bool.false_or,Nat.reduceMul,Nat.one_mul,Nat.lt_add_one,klL,Nat.le_refl,ite_self,Nat.reduceBEq] at h6 hG1 hG2 hkk
      simp only [h1,hcaps,hcall,h6,x_seq,x_reg,x_skip,x_exit,x_ret,x_block,x_if,wpC_t,wpC_f,wpI_cons,wpI_nil,wpX_some,evI_any,evI_rd,evI_ad,evI_g,evG_u,evG_b,evG_tt,evG_ff,evG_tf,evG_ft,evO,evR,ev_t,ev_c,ev_f,putD_some,putD_none,put_at,cellsT,ldCells,mkT,lenA,binPV,add_bs,add_clk,add_ls,put_bs,put_clk,put_ls,kill_bs,kill_clk,kill_ls,empty_clk,empty_bs,Env.init,seqQ_norm,seqQ_exit,seqQ_ret,blkQ_norm,blkQ_exit,blkQ_ret,loopQ_norm,loopQ_exit,loopQ_ret,retP_ret,retP_norm,retE_ret,retE_norm,retS_ret,retS_norm,wpO_some,frA_fn,klA_p,klA_nil,klA_own,resVs,resV,resT,Option.bind_some,Option.bind_none,Option.map_some,List.getD_cons_zero,List.getD_cons_succ,List.getD_nil,List.length_cons,List.length_nil,List.length_map,List.map_cons,List.map_nil,List.drop_zero,List.drop_succ_cons,List.take_succ_cons,List.take_zero,List.drop_nil,List.take_nil,Nat.reduceEqDiff,Nat.reduceAdd,Nat.reduceLeDiff,Nat.zero_add,Nat.add_zero,Prod.mk.injEq,and_true,true_and,and_false,false_and,and_self,if_true,if_false,ite_true,ite_false,Bool.not_true,Bool.not_false,Bool.not_eq_true',reduceCtorEq,decide_true,decide_false,frTs,frT,frL_p,spS,ofPT_a,ofPT_g,ofPT_t,flat_i,flat_b,flat_s,flat_l,flat_g,flatp_i,flatp_b,flatp_s,flatp_l,klTs,klT,Bool.and_false,Bool.false_and,frL,frA_p,frA_nil,frA_own,ownT,intT,Bool.or_true,Bool.true_or,Bool.false_eq_true,frL_p,klL_p,ownT_p,O.adds,List.all_cons,List.all_nil,List.any_cons,List.any_nil,ownA,evO.bslRows,List.replicate_succ,List.replicate_zero,List.set_cons_zero,rowsA,over,List.cons_append,List.nil_append,List.append_nil,fillA,Bool.and_self,Bool.and_true,Bool.true_and,Bool.or_self,Bool.or_false,Bool.false_or,Nat.reduceMul,Nat.one_mul,Nat.lt_add_one,klL,Nat.le_refl,ite_self,Nat.reduceBEq]
      rw [if_pos hk1]
      refine ⟨⟨X,rfl,by rw [frA_put_var h6]; exact hX,fun s' hs' => ?_⟩,hC.stable _ σ2 _ hR2 fun s' hs' => ?_,?_,?_,fun s' hs1 hs2 => ?_⟩
      · have := hkk s' hs'; simp only [put_clk]; omega
      · rw [put_bs,if_neg (hne s' (by omega) 6 1)]
      · simp only [put_clk]; omega
      · simp only [put_ls]; exact hG2
      · rw [put_bs,if_neg (hne s' hs2 6 1),hG3 s' hs1 (by simp only [add_clk]; omega)]
        simp only [add_bs,add_clk,hne s' hs2,hne0 s' hs2,if_false]
    · have hk1 : ¬ k = 1 := by simpa using h1
      have hi0 : (0 : Int) ≤ (l.length : Int) := by omega
      have hi2 : (l.length : Int) * ((56 : Nat) : Int) ≤ 140737488355328 := by simp only [reachBytes] at hl; omega
      have hz : [PV.i .i64 0,PV.i .i64 0,PV.s [],PV.l []] = zrow := rfl
      rw [if_neg hk1]
      have hst : ∀ (s' : Key),s'.2 < σ.clk → (((σ.add 3 (.var [.p (.i .i64 k),.p (.i .i64 n),.p (.s s),.p (.l (l.map enc))])).add 6 (.var [.p (.i .i64 0),.p (.i .i64 0),.p (.s []),.nil])).add 31 (.row 4 24 (List.replicate l.length zrow))).bs s' = σ.bs s' := by
        intro s' hs'
        simp only [add_bs,add_clk,hne s' hs',hne0 s' hs',Nat.add_assoc,if_false]
      have fin : ∀ (b' : Int) (e' : Env) (σ' : St),e' 3 = .a (.ptr (3,σ.clk) 0 0) → e' 6 = .a (.ptr (6,σ.clk + 1) 0 0) → e' 7 = .a (.own (31,σ.clk + 2) 0 l.length) → σ.clk + 3 ≤ σ'.clk → σ'.ls = σ.ls →
          (∀ s' : Key,c0 ≤ s'.2 → s'.2 < σ.clk → σ'.bs s' = σ.bs s') → σ'.bs (3,σ.clk) = some (.var [.p (.i .i64 k),.p (.i .i64 n),.p (.s s),.p (.l (l.map enc))]) → σ'.bs (6,σ.clk + 1) = some (.var [.p (.i .i64 0),.p (.i .i64 0),.p (.s []),.nil]) →
          σ'.bs (31,σ.clk + 2) = some (.row 4 24 ((turnL step l b' a).1.map enc)) → R (turnL step l b' a).2 σ' →
          wp S false (.seq (.reg [⟨(.some 48),.none,(.mv (.t 7)),.any⟩,⟨(.some 49),.none,(.fad 3 (.t 3)),.any⟩,⟨.none,.none,(.st 1 (.t 49) (.t 48)),.any⟩]) (.seq (.reg [⟨(.some 50),.none,(.ld 4 true (.t 3)),.any⟩,⟨.none,.none,(.st 4 (.t 6) (.t 50)),.any⟩]) .ret)) e' σ'
            (RetS [Rs.cell 6 4 true] fun tv σ' => TermV σ.clk σ' (T.mk k n s (turnL step l b' a).1) tv ∧ R (turnL step l b' a).2 σ' ∧ Grow c0 σ σ') := by
        intro b' e' σ' f3 f6 f7 g1 g2 g3 g4 g5 g6 g7
        have hll : (turnL step l b' a).1.length = l.length := turnL_len step l b' a
        simp only [f3,f6,f7,g4,g5,x_seq,x_reg,x_skip,x_exit,x_ret,x_block,x_if,wpC_t,wpC_f,wpI_cons,wpI_nil,wpX_some,evI_any,evI_rd,evI_ad,evI_g,evG_u,evG_b,evG_tt,evG_ff,evG_tf,evG_ft,evO,evR,ev_t,ev_c,ev_f,putD_some,putD_none,put_at,cellsT,ldCells,mkT,lenA,binPV,add_bs,add_clk,add_ls,put_bs,put_clk,put_ls,kill_bs,kill_clk,kill_ls,empty_clk,empty_bs,Env.init,seqQ_norm,seqQ_exit,seqQ_ret,blkQ_norm,blkQ_exit,blkQ_ret,loopQ_norm,loopQ_exit,loopQ_ret,retP_ret,retP_norm,retE_ret,retE_norm,retS_ret,retS_norm,wpO_some,frA_fn,klA_p,klA_nil,klA_own,resVs,resV,resT,Option.bind_some,Option.bind_none,Option.map_some,List.getD_cons_zero,List.getD_cons_succ,List.getD_nil,List.length_cons,List.length_nil,List.length_map,List.map_cons,List.map_nil,List.drop_zero,List.drop_succ_cons,List.take_succ_cons,List.take_zero,List.drop_nil,List.take_nil,Nat.reduceEqDiff,Nat.reduceAdd,Nat.reduceLeDiff,Nat.zero_add,Nat.add_zero,Prod.mk.injEq,and_true,true_and,and_false,false_and,and_self,if_true,if_false,ite_true,ite_false,Bool.not_true,Bool.not_false,Bool.not_eq_true',reduceCtorEq,decide_true,decide_false,frTs,frT,frL_p,spS,ofPT_a,ofPT_g,ofPT_t,flat_i,flat_b,flat_s,flat_l,flat_g,flatp_i,flatp_b,flatp_s,flatp_l,klTs,klT,Bool.and_false,Bool.false_and,frL,frA_p,frA_nil,frA_own,ownT,intT,Bool.or_true,Bool.true_or,Bool.false_eq_true,frL_p,klL_p,ownT_p,O.adds,List.all_cons,List.all_nil,List.any_cons,List.any_nil,ownA,evO.bslRows,List.replicate_succ,List.replicate_zero,List.set_cons_zero,rowsA,over,List.cons_append,List.nil_append,List.append_nil,fillA,Bool.and_self,Bool.and_true,Bool.true_and,Bool.or_self,Bool.or_false,Bool.false_or,Nat.reduceMul,Nat.one_mul,Nat.lt_add_one,klL,Nat.le_refl,ite_self,Nat.reduceBEq]
        refine ⟨⟨.own (31,σ.clk + 2) 0 l.length,rfl,?_,fun s' hs' => ?_⟩,hC.stable _ σ' _ g7 fun s' hs' => ?_,?_,?_,fun s' hs1 hs2 => ?_⟩
        · simp only [g6,x_seq,x_reg,x_skip,x_exit,x_ret,x_block,x_if,wpC_t,wpC_f,wpI_cons,wpI_nil,wpX_some,evI_any,evI_rd,evI_ad,evI_g,evG_u,evG_b,evG_tt,evG_ff,evG_tf,evG_ft,evO,evR,ev_t,ev_c,ev_f,putD_some,putD_none,put_at,cellsT,ldCells,mkT,lenA,binPV,add_bs,add_clk,add_ls,put_bs,put_clk,put_ls,kill_bs,kill_clk,kill_ls,empty_clk,empty_bs,Env.init,seqQ_norm,seqQ_exit,seqQ_ret,blkQ_norm,blkQ_exit,blkQ_ret,loopQ_norm,loopQ_exit,loopQ_ret,retP_ret,retP_norm,retE_ret,retE_norm,retS_ret,retS_norm,wpO_some,frA_fn,klA_p,klA_nil,klA_own,resVs,resV,resT,Option.bind_some,Option.bind_none,Option.map_some,List.getD_cons_zero,List.getD_cons_succ,List.getD_nil,List.length_cons,List.length_nil,List.length_map,List.map_cons,List.map_nil,List.drop_zero,List.drop_succ_cons,List.take_succ_cons,List.take_zero,List.drop_nil,List.take_nil,Nat.reduceEqDiff,Nat.reduceAdd,Nat.reduceLeDiff,Nat.zero_add,Nat.add_zero,Prod.mk.injEq,and_true,true_and,and_false,false_and,and_self,if_true,if_false,ite_true,ite_false,Bool.not_true,Bool.not_false,Bool.not_eq_true',reduceCtorEq,decide_true,decide_false,frTs,frT,frL_p,spS,ofPT_a,ofPT_g,ofPT_t,flat_i,flat_b,flat_s,flat_l,flat_g,flatp_i,flatp_b,flatp_s,flatp_l,klTs,klT,Bool.and_false,Bool.false_and,frL,frA_p,frA_nil,frA_own,ownT,intT,Bool.or_true,Bool.true_or,Bool.false_eq_true,frL_p,klL_p,ownT_p,O.adds,List.all_cons,List.all_nil,List.any_cons,List.any_nil,ownA,evO.bslRows,List.replicate_succ,List.replicate_zero,List.set_cons_zero,rowsA,over,List.cons_append,List.nil_append,List.append_nil,fillA,Bool.and_self,Bool.and_true,Bool.true_and,Bool.or_self,Bool.or_false,Bool.false_or,Nat.reduceMul,Nat.one_mul,Nat.lt_add_one,klL,Nat.le_refl,ite_self,Nat.reduceBEq]
          simp [T.l,hll,List.take_of_length_le]
        · simp only [keysA,List.mem_singleton] at hs'
          subst hs'
          simp only [put_clk]; omega
        · simp only [put_bs,hne s' (by omega),hne0 s' (by omega),if_false]
        · simp only [put_clk]; omega
        · simp only [put_ls]; exact g2
        · simp only [put_bs,hne s' hs2,hne0 s' hs2,if_false]; exact g3 s' hs1 hs2
      have go : ∀ (b' : Int) (e : Env),e 1 = .a (.p (.i .i64 b')) → e 2 = .a (.fn g caps) → e 3 = .a (.ptr (3,σ.clk) 0 0) → e 6 = .a (.ptr (6,σ.clk + 1) 0 0) → e 7 = .a (.own (31,σ.clk + 2) 0 l.length) → e 33 = .a (.p (.l (l.map enc))) → e 34 = .a (.p (.i .i64 l.length)) →
          e 35 = .a (.p (.i .i64 (0 : Int))) → wp S false (.loop F51b0) e (((σ.add 3 (.var [.p (.i .i64 k),.p (.i .i64 n),.p (.s s),.p (.l (l.map enc))])).add 6 (.var [.p (.i .i64 0),.p (.i .i64 0),.p (.s []),.nil])).add 31 (.row 4 24 (List.replicate l.length zrow)))
            (blkQ 1 (seqQ S false (.seq (.reg [⟨(.some 48),.none,(.mv (.t 7)),.any⟩,⟨(.some 49),.none,(.fad 3 (.t 3)),.any⟩,⟨.none,.none,(.st 1 (.t 49) (.t 48)),.any⟩]) (.seq (.reg [⟨(.some 50),.none,(.ld 4 true (.t 3)),.any⟩,⟨.none,.none,(.st 4 (.t 6) (.t 50)),.any⟩]) .ret))
              (RetS [Rs.cell 6 4 true] fun tv σ' => TermV σ.clk σ' (T.mk k n s (turnL step l b' a).1) tv ∧ R (turnL step l b' a).2 σ' ∧ Grow c0 σ σ'))) := by
        intro b' e e1 e2 e3 e6 e7 e33 e34 e35
        refine loop51 hC (.mk k n s l) b' σ.clk hc hl _ l 0 [] a e _ rfl (by simp [T.l]) rfl (fun u hu => ⟨h u hu,ih u hu⟩) e1 e2 e3 e6 e7 e33 e34 e35 ?_ ?_ ?_ ?_ (hC.stable a σ _ hR fun s' hs' => hst s' (by omega)) ?_
        · simp only [add_clk]; omega
        · simp [add_bs,add_clk,T.k,T.n,T.s,T.l]
        · simp [add_bs,add_clk]
        · simp [add_bs,add_clk]
        · intro e' σ' q3 q6 q7 q8 q9 q10 q11 q12
          simp only [blkQ_exit,if_true,seqQ_norm]
          simp only [add_clk] at q8
          refine fin b' e' σ' q3 q6 q7 (by omega) (by rw [q9]; rfl) (fun s' hs1 hs2 => by rw [q10 s' hs1 (by omega),hst s' hs2]) ?_ ?_ (by simpa using q11) q12
          · rw [q10 _ (by simpa using hc) (by simp)]; simp [add_bs,add_clk]
          · rw [q10 _ (by simp; omega) (by simp)]; simp [add_bs,add_clk]
      simp only [h1,x_seq,x_reg,x_skip,x_exit,x_ret,x_block,x_if,wpC_t,wpC_f,wpI_cons,wpI_nil,wpX_some,evI_any,evI_rd,evI_ad,evI_g,evG_u,evG_b,evG_tt,evG_ff,evG_tf,evG_ft,evO,evR,ev_t,ev_c,ev_f,putD_some,putD_none,put_at,cellsT,ldCells,mkT,lenA,binPV,add_bs,add_clk,add_ls,put_bs,put_clk,put_ls,kill_bs,kill_clk,kill_ls,empty_clk,empty_bs,Env.init,seqQ_norm,seqQ_exit,seqQ_ret,blkQ_norm,blkQ_exit,blkQ_ret,loopQ_norm,loopQ_exit,loopQ_ret,retP_ret,retP_norm,retE_ret,retE_norm,retS_ret,retS_norm,wpO_some,frA_fn,klA_p,klA_nil,klA_own,resVs,resV,resT,Option.bind_some,Option.bind_none,Option.map_some,List.getD_cons_zero,List.getD_cons_succ,List.getD_nil,List.length_cons,List.length_nil,List.length_map,List.map_cons,List.map_nil,List.drop_zero,List.drop_succ_cons,List.take_succ_cons,List.take_zero,List.drop_nil,List.take_nil,Nat.reduceEqDiff,Nat.reduceAdd,Nat.reduceLeDiff,Nat.zero_add,Nat.add_zero,Prod.mk.injEq,and_true,true_and,and_false,false_and,and_self,if_true,if_false,ite_true,ite_false,Bool.not_true,Bool.not_false,Bool.not_eq_true',reduceCtorEq,decide_true,decide_false,frTs,frT,frL_p,spS,ofPT_a,ofPT_g,ofPT_t,flat_i,flat_b,flat_s,flat_l,flat_g,flatp_i,flatp_b,flatp_s,flatp_l,klTs,klT,Bool.and_false,Bool.false_and,frL,frA_p,frA_nil,frA_own,ownT,intT,Bool.or_true,Bool.true_or,Bool.false_eq_true,frL_p,klL_p,ownT_p,O.adds,List.all_cons,List.all_nil,List.any_cons,List.any_nil,ownA,evO.bslRows,List.replicate_succ,List.replicate_zero,List.set_cons_zero,rowsA,over,List.cons_append,List.nil_append,List.append_nil,fillA,Bool.and_self,Bool.and_true,Bool.true_and,Bool.or_self,Bool.or_false,Bool.false_or,Nat.reduceMul,Nat.one_mul,Nat.lt_add_one,klL,Nat.le_refl,ite_self,Nat.reduceBEq]
      refine wpC_split (fun h2 => ?_) (fun h2 => ?_)
      · have hk2 : k = 2 := by simpa using h2
        simp only [if_pos hk2]
        simp only [h1,h2,hi0,hi2,hz,Int.le_refl,Int.toNat_natCast,x_seq,x_reg,x_skip,x_exit,x_ret,x_block,x_if,wpC_t,wpC_f,wpI_cons,wpI_nil,wpX_some,evI_any,evI_rd,evI_ad,evI_g,evG_u,evG_b,evG_tt,evG_ff,evG_tf,evG_ft,evO,evR,ev_t,ev_c,ev_f,putD_some,putD_none,put_at,cellsT,ldCells,mkT,lenA,binPV,add_bs,add_clk,add_ls,put_bs,put_clk,put_ls,kill_bs,kill_clk,kill_ls,empty_clk,empty_bs,Env.init,seqQ_norm,seqQ_exit,seqQ_ret,blkQ_norm,blkQ_exit,blkQ_ret,loopQ_norm,loopQ_exit,loopQ_ret,retP_ret,retP_norm,retE_ret,retE_norm,retS_ret,retS_norm,wpO_some,frA_fn,klA_p,klA_nil,klA_own,resVs,resV,resT,Option.bind_some,Option.bind_none,Option.map_some,List.getD_cons_zero,List.getD_cons_succ,List.getD_nil,List.length_cons,List.length_nil,List.length_map,List.map_cons,List.map_nil,List.drop_zero,List.drop_succ_cons,List.take_succ_cons,List.take_zero,List.drop_nil,List.take_nil,Nat.reduceEqDiff,Nat.reduceAdd,Nat.reduceLeDiff,Nat.zero_add,Nat.add_zero,Prod.mk.injEq,and_true,true_and,and_false,false_and,and_self,if_true,if_false,ite_true,ite_false,Bool.not_true,Bool.not_false,Bool.not_eq_true',reduceCtorEq,decide_true,decide_false,frTs,frT,frL_p,spS,ofPT_a,ofPT_g,ofPT_t,flat_i,flat_b,flat_s,flat_l,flat_g,flatp_i,flatp_b,flatp_s,flatp_l,klTs,klT,Bool.and_false,Bool.false_and,frL,frA_p,frA_nil,frA_own,ownT,intT,Bool.or_true,Bool.true_or,Bool.false_eq_true,frL_p,klL_p,ownT_p,O.adds,List.all_cons,List.all_nil,List.any_cons,List.any_nil,ownA,evO.bslRows,List.replicate_succ,List.replicate_zero,List.set_cons_zero,rowsA,over,List.cons_append,List.nil_append,List.append_nil,fillA,Bool.and_self,Bool.and_true,Bool.true_and,Bool.or_self,Bool.or_false,Bool.false_or,Nat.reduceMul,Nat.one_mul,Nat.lt_add_one,klL,Nat.le_refl,ite_self,Nat.reduceBEq]
        refine go _ _ ?_ ?_ ?_ ?_ ?_ ?_ ?_ ?_
        all_goals simp only [x_seq,x_reg,x_skip,x_exit,x_ret,x_block,x_if,wpC_t,wpC_f,wpI_cons,wpI_nil,wpX_some,evI_any,evI_rd,evI_ad,evI_g,evG_u,evG_b,evG_tt,evG_ff,evG_tf,evG_ft,evO,evR,ev_t,ev_c,ev_f,putD_some,putD_none,put_at,cellsT,ldCells,mkT,lenA,binPV,add_bs,add_clk,add_ls,put_bs,put_clk,put_ls,kill_bs,kill_clk,kill_ls,empty_clk,empty_bs,Env.init,seqQ_norm,seqQ_exit,seqQ_ret,blkQ_norm,blkQ_exit,blkQ_ret,loopQ_norm,loopQ_exit,loopQ_ret,retP_ret,retP_norm,retE_ret,retE_norm,retS_ret,retS_norm,wpO_some,frA_fn,klA_p,klA_nil,klA_own,resVs,resV,resT,Option.bind_some,Option.bind_none,Option.map_some,List.getD_cons_zero,List.getD_cons_succ,List.getD_nil,List.length_cons,List.length_nil,List.length_map,List.map_cons,List.map_nil,List.drop_zero,List.drop_succ_cons,List.take_succ_cons,List.take_zero,List.drop_nil,List.take_nil,Nat.reduceEqDiff,Nat.reduceAdd,Nat.reduceLeDiff,Nat.zero_add,Nat.add_zero,Prod.mk.injEq,and_true,true_and,and_false,false_and,and_self,if_true,if_false,ite_true,ite_false,Bool.not_true,Bool.not_false,Bool.not_eq_true',reduceCtorEq,decide_true,decide_false,frTs,frT,frL_p,spS,ofPT_a,ofPT_g,ofPT_t,flat_i,flat_b,flat_s,flat_l,flat_g,flatp_i,flatp_b,flatp_s,flatp_l,klTs,klT,Bool.and_false,Bool.false_and,frL,frA_p,frA_nil,frA_own,ownT,intT,Bool.or_true,Bool.true_or,Bool.false_eq_true,frL_p,klL_p,ownT_p,O.adds,List.all_cons,List.all_nil,List.any_cons,List.any_nil,ownA,evO.bslRows,List.replicate_succ,List.replicate_zero,List.set_cons_zero,rowsA,over,List.cons_append,List.nil_append,List.append_nil,fillA,Bool.and_self,Bool.and_true,Bool.true_and,Bool.or_self,Bool.or_false,Bool.false_or,Nat.reduceMul,Nat.one_mul,Nat.lt_add_one,klL,Nat.le_refl,ite_self,Nat.reduceBEq]
      · have hk2 : ¬ k = 2 := by simpa using h2
        simp only [if_neg hk2]
        simp only [h1,h2,hi0,hi2,hz,Int.le_refl,Int.toNat_natCast,x_seq,x_reg,x_skip,x_exit,x_ret,x_block,x_if,wpC_t,wpC_f,wpI_cons,wpI_nil,wpX_some,evI_any,evI_rd,evI_ad,evI_g,evG_u,evG_b,evG_tt,evG_ff,evG_tf,evG_ft,evO,evR,ev_t,ev_c,ev_f,putD_some,putD_none,put_at,cellsT,ldCells,mkT,lenA,binPV,add_bs,add_clk,add_ls,put_bs,put_clk,put_ls,kill_bs,kill_clk,kill_ls,empty_clk,empty_bs,Env.init,seqQ_norm,seqQ_exit,seqQ_ret,blkQ_norm,blkQ_exit,blkQ_ret,loopQ_norm,loopQ_exit,loopQ_ret,retP_ret,retP_norm,retE_ret,retE_norm,retS_ret,retS_norm,wpO_some,frA_fn,klA_p,klA_nil,klA_own,resVs,resV,resT,Option.bind_some,Option.bind_none,Option.map_some,List.getD_cons_zero,List.getD_cons_succ,List.getD_nil,List.length_cons,List.length_nil,List.length_map,List.map_cons,List.map_nil,List.drop_zero,List.drop_succ_cons,List.take_succ_cons,List.take_zero,List.drop_nil,List.take_nil,Nat.reduceEqDiff,Nat.reduceAdd,Nat.reduceLeDiff,Nat.zero_add,Nat.add_zero,Prod.mk.injEq,and_true,true_and,and_false,false_and,and_self,if_true,if_false,ite_true,ite_false,Bool.not_true,Bool.not_false,Bool.not_eq_true',reduceCtorEq,decide_true,decide_false,frTs,frT,frL_p,spS,ofPT_a,ofPT_g,ofPT_t,flat_i,flat_b,flat_s,flat_l,flat_g,flatp_i,flatp_b,flatp_s,flatp_l,klTs,klT,Bool.and_false,Bool.false_and,frL,frA_p,frA_nil,frA_own,ownT,intT,Bool.or_true,Bool.true_or,Bool.false_eq_true,frL_p,klL_p,ownT_p,O.adds,List.all_cons,List.all_nil,List.any_cons,List.any_nil,ownA,evO.bslRows,List.replicate_succ,List.replicate_zero,List.set_cons_zero,rowsA,over,List.cons_append,List.nil_append,List.append_nil,fillA,Bool.and_self,Bool.and_true,Bool.true_and,Bool.or_self,Bool.or_false,Bool.false_or,Nat.reduceMul,Nat.one_mul,Nat.lt_add_one,klL,Nat.le_refl,ite_self,Nat.reduceBEq]
        refine wpC_split (fun h3 => ?_) (fun h3 => ?_)
        · have hk3 : k = 6 := by simpa using h3
          simp only [if_pos hk3]
          simp only [h1,h2,h3,hi0,hi2,hz,Int.le_refl,Int.toNat_natCast,x_seq,x_reg,x_skip,x_exit,x_ret,x_block,x_if,wpC_t,wpC_f,wpI_cons,wpI_nil,wpX_some,evI_any,evI_rd,evI_ad,evI_g,evG_u,evG_b,evG_tt,evG_ff,evG_tf,evG_ft,evO,evR,ev_t,ev_c,ev_f,putD_some,putD_none,put_at,cellsT,ldCells,mkT,lenA,binPV,add_bs,add_clk,add_ls,put_bs,put_clk,put_ls,kill_bs,kill_clk,kill_ls,empty_clk,empty_bs,Env.init,seqQ_norm,seqQ_exit,seqQ_ret,blkQ_norm,blkQ_exit,blkQ_ret,loopQ_norm,loopQ_exit,loopQ_ret,retP_ret,retP_norm,retE_ret,retE_norm,retS_ret,retS_norm,wpO_some,frA_fn,klA_p,klA_nil,klA_own,resVs,resV,resT,Option.bind_some,Option.bind_none,Option.map_some,List.getD_cons_zero,List.getD_cons_succ,List.getD_nil,List.length_cons,List.length_nil,List.length_map,List.map_cons,List.map_nil,List.drop_zero,List.drop_succ_cons,List.take_succ_cons,List.take_zero,List.drop_nil,List.take_nil,Nat.reduceEqDiff,Nat.reduceAdd,Nat.reduceLeDiff,Nat.zero_add,Nat.add_zero,Prod.mk.injEq,and_true,true_and,and_false,false_and,and_self,if_true,if_false,ite_true,ite_false,Bool.not_true,Bool.not_false,Bool.not_eq_true',reduceCtorEq,decide_true,decide_false,frTs,frT,frL_p,spS,ofPT_a,ofPT_g,ofPT_t,flat_i,flat_b,flat_s,flat_l,flat_g,flatp_i,flatp_b,flatp_s,flatp_l,klTs,klT,Bool.and_false,Bool.false_and,frL,frA_p,frA_nil,frA_own,ownT,intT,Bool.or_true,Bool.true_or,Bool.false_eq_true,frL_p,klL_p,ownT_p,O.adds,List.all_cons,List.all_nil,List.any_cons,List.any_nil,ownA,evO.bslRows,List.replicate_succ,List.replicate_zero,List.set_cons_zero,rowsA,over,List.cons_append,List.nil_append,List.append_nil,fillA,Bool.and_self,Bool.and_true,Bool.true_and,Bool.or_self,Bool.or_false,Bool.false_or,Nat.reduceMul,Nat.one_mul,Nat.lt_add_one,klL,Nat.le_refl,ite_self,Nat.reduceBEq]
          refine go _ _ ?_ ?_ ?_ ?_ ?_ ?_ ?_ ?_
          all_goals simp only [x_seq,x_reg,x_skip,x_exit,x_ret,x_block,x_if,wpC_t,wpC_f,wpI_cons,wpI_nil,wpX_some,evI_any,evI_rd,evI_ad,evI_g,evG_u,evG_b,evG_tt,evG_ff,evG_tf,evG_ft,evO,evR,ev_t,ev_c,ev_f,putD_some,putD_none,put_at,cellsT,ldCells,mkT,lenA,binPV,add_bs,add_clk,add_ls,put_bs,put_clk,put_ls,kill_bs,kill_clk,kill_ls,empty_clk,empty_bs,Env.init,seqQ_norm,seqQ_exit,seqQ_ret,blkQ_norm,blkQ_exit,blkQ_ret,loopQ_norm,loopQ_exit,loopQ_ret,retP_ret,retP_norm,retE_ret,retE_norm,retS_ret,retS_norm,wpO_some,frA_fn,klA_p,klA_nil,klA_own,resVs,resV,resT,Option.bind_some,Option.bind_none,Option.map_some,List.getD_cons_zero,List.getD_cons_succ,List.getD_nil,List.length_cons,List.length_nil,List.length_map,List.map_cons,List.map_nil,List.drop_zero,List.drop_succ_cons,List.take_succ_cons,List.take_zero,List.drop_nil,List.take_nil,Nat.reduceEqDiff,Nat.reduceAdd,Nat.reduceLeDiff,Nat.zero_add,Nat.add_zero,Prod.mk.injEq,and_true,true_and,and_false,false_and,and_self,if_true,if_false,ite_true,ite_false,Bool.not_true,Bool.not_false,Bool.not_eq_true',reduceCtorEq,decide_true,decide_false,frTs,frT,frL_p,spS,ofPT_a,ofPT_g,ofPT_t,flat_i,flat_b,flat_s,flat_l,flat_g,flatp_i,flatp_b,flatp_s,flatp_l,klTs,klT,Bool.and_false,Bool.false_and,frL,frA_p,frA_nil,frA_own,ownT,intT,Bool.or_true,Bool.true_or,Bool.false_eq_true,frL_p,klL_p,ownT_p,O.adds,List.all_cons,List.all_nil,List.any_cons,List.any_nil,ownA,evO.bslRows,List.replicate_succ,List.replicate_zero,List.set_cons_zero,rowsA,over,List.cons_append,List.nil_append,List.append_nil,fillA,Bool.and_self,Bool.and_true,Bool.true_and,Bool.or_self,Bool.or_false,Bool.false_or,Nat.reduceMul,Nat.one_mul,Nat.lt_add_one,klL,Nat.le_refl,ite_self,Nat.reduceBEq]
        · have hk3 : ¬ k = 6 := by simpa using h3
          simp only [if_neg hk3]
          simp only [h1,h2,h3,hi0,hi2,hz,Int.le_refl,Int.toNat_natCast,x_seq,x_reg,x_skip,x_exit,x_ret,x_block,x_if,wpC_t,wpC_f,wpI_cons,wpI_nil,wpX_some,evI_any,evI_rd,evI_ad,evI_g,evG_u,evG_b,evG_tt,evG_ff,evG_tf,evG_ft,evO,evR,ev_t,ev_c,ev_f,putD_some,putD_none,put_at,cellsT,ldCells,mkT,lenA,binPV,add_bs,add_clk,add_ls,put_bs,put_clk,put_ls,kill_bs,kill_clk,kill_ls,empty_clk,empty_bs,Env.init,seqQ_norm,seqQ_exit,seqQ_ret,blkQ_norm,blkQ_exit,blkQ_ret,loopQ_norm,loopQ_exit,loopQ_ret,retP_ret,retP_norm,retE_ret,retE_norm,retS_ret,retS_norm,wpO_some,frA_fn,klA_p,klA_nil,klA_own,resVs,resV,resT,Option.bind_some,Option.bind_none,Option.map_some,List.getD_cons_zero,List.getD_cons_succ,List.getD_nil,List.length_cons,List.length_nil,List.length_map,List.map_cons,List.map_nil,List.drop_zero,List.drop_succ_cons,List.take_succ_cons,List.take_zero,List.drop_nil,List.take_nil,Nat.reduceEqDiff,Nat.reduceAdd,Nat.reduceLeDiff,Nat.zero_add,Nat.add_zero,Prod.mk.injEq,and_true,true_and,and_false,false_and,and_self,if_true,if_false,ite_true,ite_false,Bool.not_true,Bool.not_false,Bool.not_eq_true',reduceCtorEq,decide_true,decide_false,frTs,frT,frL_p,spS,ofPT_a,ofPT_g,ofPT_t,flat_i,flat_b,flat_s,flat_l,flat_g,flatp_i,flatp_b,flatp_s,flatp_l,klTs,klT,Bool.and_false,Bool.false_and,frL,frA_p,frA_nil,frA_own,ownT,intT,Bool.or_true,Bool.true_or,Bool.false_eq_true,frL_p,klL_p,ownT_p,O.adds,List.all_cons,List.all_nil,List.any_cons,List.any_nil,ownA,evO.bslRows,List.replicate_succ,List.replicate_zero,List.set_cons_zero,rowsA,over,List.cons_append,List.nil_append,List.append_nil,fillA,Bool.and_self,Bool.and_true,Bool.true_and,Bool.or_self,Bool.or_false,Bool.false_or,Nat.reduceMul,Nat.one_mul,Nat.lt_add_one,klL,Nat.le_refl,ite_self,Nat.reduceBEq]
          refine go _ _ ?_ ?_ ?_ ?_ ?_ ?_ ?_ ?_
          all_goals simp only [x_seq,x_reg,x_skip,x_exit,x_ret,x_block,x_if,wpC_t,wpC_f,wpI_cons,wpI_nil,wpX_some,evI_any,evI_rd,evI_ad,evI_g,evG_u,evG_b,evG_tt,evG_ff,evG_tf,evG_ft,evO,evR,ev_t,ev_c,ev_f,putD_some,putD_none,put_at,cellsT,ldCells,mkT,lenA,binPV,add_bs,add_clk,add_ls,put_bs,put_clk,put_ls,kill_bs,kill_clk,kill_ls,empty_clk,empty_bs,Env.init,seqQ_norm,seqQ_exit,seqQ_ret,blkQ_norm,blkQ_exit,blkQ_ret,loopQ_norm,loopQ_exit,loopQ_ret,retP_ret,retP_norm,retE_ret,retE_norm,retS_ret,retS_norm,wpO_some,frA_fn,klA_p,klA_nil,klA_own,resVs,resV,resT,Option.bind_some,Option.bind_none,Option.map_some,List.getD_cons_zero,List.getD_cons_succ,List.getD_nil,List.length_cons,List.length_nil,List.length_map,List.map_cons,List.map_nil,List.drop_zero,List.drop_succ_cons,List.take_succ_cons,List.take_zero,List.drop_nil,List.take_nil,Nat.reduceEqDiff,Nat.reduceAdd,Nat.reduceLeDiff,Nat.zero_add,Nat.add_zero,Prod.mk.injEq,and_true,true_and,and_false,false_and,and_self,if_true,if_false,ite_true,ite_false,Bool.not_true,Bool.not_false,Bool.not_eq_true',reduceCtorEq,decide_true,decide_false,frTs,frT,frL_p,spS,ofPT_a,ofPT_g,ofPT_t,flat_i,flat_b,flat_s,flat_l,flat_g,flatp_i,flatp_b,flatp_s,flatp_l,klTs,klT,Bool.and_false,Bool.false_and,frL,frA_p,frA_nil,frA_own,ownT,intT,Bool.or_true,Bool.true_or,Bool.false_eq_true,frL_p,klL_p,ownT_p,O.adds,List.all_cons,List.all_nil,List.any_cons,List.any_nil,ownA,evO.bslRows,List.replicate_succ,List.replicate_zero,List.set_cons_zero,rowsA,over,List.cons_append,List.nil_append,List.append_nil,fillA,Bool.and_self,Bool.and_true,Bool.true_and,Bool.or_self,Bool.or_false,Bool.false_or,Nat.reduceMul,Nat.one_mul,Nat.lt_add_one,klL,Nat.le_refl,ite_self,Nat.reduceBEq]
end
end Go.Proofs.Ytlgekplmbmkcmaa
end
section
set_option linter.unusedSimpArgs false
set_option linter.unusedVariables false
namespace Go.Proofs.Ytlgekplmbmkcmaa
open Go.Fx
theorem w_left (x y : Int) : w (w x + y) = w (x + y) := by simp only [w,IntKind.wrap_i64]; omega
theorem w_right (x y : Int) : w (x + w y) = w (x + y) := by simp only [w,IntKind.wrap_i64]; omega
theorem w_id (x : Int) (h : -9223372036854775808 ≤ x ∧ x ≤ 9223372036854775807) : w x = x := wrap_in x h
end Go.Proofs.Ytlgekplmbmkcmaa
end
section
set_option linter.unusedSimpArgs false
set_option linter.unusedVariables false
namespace Go.Proofs.Ytlgekplmbmkcmaa
open Go.Fx
mutual
def put (p : Int) (u : T) : T → Int → T
  | .mk k n s l,b => if k = 1 then (if n = w (p + b) then up b 0 u else if n > w (p + b) then .mk k (w (n - 1)) s l else .mk k n s l) else .mk k n s (putL p u l (w (b + T.more (.mk k n s l))))
def putL (p : Int) (u : T) : List T → Int → List T
  | [],_ => []
  | t :: r,b => put p u t b :: putL p u r b
end
theorem enc_flat (t : T) : (enc t).all PV.flat = false := by rw [enc_eq]; rfl
mutual
def uses : T → Int → Int
  | .mk k n s l,q => if k = 1 then (if n = q then 1 else 0) else usesL l (w (q + T.more (.mk k n s l))) 0
def usesL : List T → Int → Int → Int
  | [],_,a => a
  | t :: r,q,a => usesL r q (w (a + uses t q))
end
end Go.Proofs.Ytlgekplmbmkcmaa
end
section
set_option linter.unusedSimpArgs false
set_option linter.unusedVariables false
namespace Go.Proofs.Ytlgekplmbmkcmaa
open Go.Fx
theorem w_w (x : Int) : w (w x) = w x := by simp only [w,IntKind.wrap_i64]; omega
def stepUses (p : Int) (c : Int) (v : T) (q : Int) : T × Int := (v,if v.n = w (p + q) then w (c + 1) else c)
def RUses (p : Int) (c : Int) (σ : St) : Prop := σ.bs (3,1) = some (.var [.p (.i .i64 p)]) ∧ σ.bs (5,2) = some (.var [.p (.i .i64 c)])
theorem cloUses (p : Int) : Clo (stepUses p) 3 57 [(3,1),(5,2)] (RUses p) where
  ne := by simp
  stable a σ σ' h hs := ⟨by rw [hs _ (by simp)]; exact h.1,by rw [hs _ (by simp)]; exact h.2⟩
  call a v q σ hv hok hR hc := by
    obtain ⟨h4,h5⟩ := hR
    obtain ⟨k,n,s,l⟩ := v
    have hne : ∀ s : Key,s.2 < σ.clk → ∀ d k,¬ s = (d,σ.clk + k) := by rintro s hs d k rfl; simp at hs; omega
    have hne0 : ∀ s : Key,s.2 < σ.clk → ∀ d,¬ s = (d,σ.clk) := by rintro s hs d rfl; simp at hs
    have hc1 : ¬ 1 = σ.clk := by omega
    have hc2 : ¬ 2 = σ.clk := by omega
    have fin : ∀ (t : T) (σ' : St) (c' : Int),σ'.clk = σ.clk + 2 → σ'.ls = σ.ls → (∀ s : Key,s.2 < σ.clk → s ≠ (5,2) → σ'.bs s = σ.bs s) → σ'.bs (5,2) = some (.var [.p (.i .i64 c')]) →
        TermV σ.clk σ' t (.g [.p (.i .i64 t.k),.p (.i .i64 t.n),.p (.s t.s),.p (.l (t.l.map enc))]) ∧ RUses p c' σ' ∧ Grow 3 σ σ' := by
      intro t σ' c' k1 k2 k3 k4
      exact ⟨⟨_,rfl,rfl,by simp [keysA]⟩,⟨by rw [k3 _ (by simp; omega) (by simp)]; exact h4,k4⟩,by omega,k2,fun s' h1 h2 => k3 s' h2 (by rintro rfl; simp at h1)⟩
    refine x_fnS (fc := F57) rfl rfl ?_
    simp only [F57,enc,encL_map,h4,h5,hc1,hc2,x_seq,x_reg,x_skip,x_exit,x_ret,x_block,x_if,wpC_t,wpC_f,wpI_cons,wpI_nil,wpX_some,evI_any,evI_rd,evI_ad,evI_g,evG_u,evG_b,evG_tt,evG_ff,evG_tf,evG_ft,evO,evR,ev_t,ev_c,ev_f,putD_some,putD_none,put_at,cellsT,ldCells,mkT,lenA,binPV,add_bs,add_clk,add_ls,put_bs,put_clk,put_ls,kill_bs,kill_clk,kill_ls,empty_clk,empty_bs,Env.init,seqQ_norm,seqQ_exit,seqQ_ret,blkQ_norm,blkQ_exit,blkQ_ret,loopQ_norm,loopQ_exit,loopQ_ret,retP_ret,retP_norm,retE_ret,retE_norm,retS_ret,retS_norm,wpO_some,frA_fn,klA_p,klA_nil,klA_own,resVs,resV,resT,Option.bind_some,Option.bind_none,Option.map_some,List.getD_cons_zero,List.getD_cons_succ,List.getD_nil,List.length_cons,List.length_nil,List.length_map,List.map_cons,List.map_nil,List.drop_zero,List.drop_succ_cons,List.take_succ_cons,List.take_zero,List.drop_nil,List.take_nil,Nat.reduceEqDiff,Nat.reduceAdd,Nat.reduceLeDiff,Nat.zero_add,Nat.add_zero,Prod.mk.injEq,and_true,true_and,and_false,false_and,and_self,if_true,if_false,ite_true,ite_false,Bool.not_true,Bool.not_false,Bool.not_eq_true',reduceCtorEq,decide_true,decide_false,frTs,frT,frL_p,spS,ofPT_a,ofPT_g,ofPT_t,flat_i,flat_b,flat_s,flat_l,flat_g,flatp_i,flatp_b,flatp_s,flatp_l,klTs,klT,Bool.and_false,Bool.false_and,frL,frA_p,frA_nil,frA_own,ownT,intT,Bool.or_true,Bool.true_or,Bool.false_eq_true,frL_p,klL_p,ownT_p,O.adds,List.all_cons,List.all_nil,List.any_cons,List.any_nil,ownA,evO.bslRows,List.replicate_succ,List.replicate_zero,List.set_cons_zero,rowsA,over,List.cons_append,List.nil_append,List.append_nil,fillA,Bool.and_self,Bool.and_true,Bool.true_and,Bool.or_self,Bool.or_false,Bool.false_or,Nat.reduceMul,Nat.one_mul,Nat.lt_add_one,klL,Nat.le_refl,ite_self,Nat.reduceBEq]
    refine wpC_split (fun h1 => ?_) (fun h1 => ?_)
    · have e : stepUses p a (.mk k n s l) q = (.mk k n s l,w (a + 1)) := by
        have : n = w (p + q) := by simpa using h1
        show (T.mk k n s l,if n = w (p + q) then w (a + 1) else a) = _
        rw [if_pos this]
      rw [e]
      simp only [h1,h4,h5,hc1,hc2,enc,encL_map,T.k,T.n,T.s,T.l,x_seq,x_reg,x_skip,x_exit,x_ret,x_block,x_if,wpC_t,wpC_f,wpI_cons,wpI_nil,wpX_some,evI_any,evI_rd,evI_ad,evI_g,evG_u,evG_b,evG_tt,evG_ff,evG_tf,evG_ft,evO,evR,ev_t,ev_c,ev_f,putD_some,putD_none,put_at,cellsT,ldCells,mkT,lenA,binPV,add_bs,add_clk,add_ls,put_bs,put_clk,put_ls,kill_bs,kill_clk,kill_ls,empty_clk,empty_bs,Env.init,seqQ_norm,seqQ_exit,seqQ_ret,blkQ_norm,blkQ_exit,blkQ_ret,loopQ_norm,loopQ_exit,loopQ_ret,retP_ret,retP_norm,retE_ret,retE_norm,retS_ret,retS_norm,wpO_some,frA_fn,klA_p,klA_nil,klA_own,resVs,resV,resT,Option.bind_some,Option.bind_none,Option.map_some,List.getD_cons_zero,List.getD_cons_succ,List.getD_nil,List.length_cons,List.length_nil,List.length_map,List.map_cons,List.map_nil,List.drop_zero,List.drop_succ_cons,List.take_succ_cons,List.take_zero,List.drop_nil,List.take_nil,Nat.reduceEqDiff,Nat.reduceAdd,Nat.reduceLeDiff,Nat.zero_add,Nat.add_zero,Prod.mk.injEq,and_true,true_and,and_false,false_and,and_self,if_true,if_false,ite_true,ite_false,Bool.not_true,Bool.not_false,Bool.not_eq_true',reduceCtorEq,decide_true,decide_false,frTs,frT,frL_p,spS,ofPT_a,ofPT_g,ofPT_t,flat_i,flat_b,flat_s,flat_l,flat_g,flatp_i,flatp_b,flatp_s,flatp_l,klTs,klT,Bool.and_false,Bool.false_and,frL,frA_p,frA_nil,frA_own,ownT,intT,Bool.or_true,Bool.true_or,Bool.false_eq_true,frL_p,klL_p,ownT_p,O.adds,List.all_cons,List.all_nil,List.any_cons,List.any_nil,ownA,evO.bslRows,List.replicate_succ,List.replicate_zero,List.set_cons_zero,rowsA,over,List.cons_append,List.nil_append,List.append_nil,fillA,Bool.and_self,Bool.and_true,Bool.true_and,Bool.or_self,Bool.or_false,Bool.false_or,Nat.reduceMul,Nat.one_mul,Nat.lt_add_one,klL,Nat.le_refl,ite_self,Nat.reduceBEq]
      refine fin (.mk k n s l) _ (w (a + 1)) rfl rfl (fun s' h2 h3 => ?_) ?_
      · simp only [put_bs,add_bs,add_clk,hne s' h2,hne0 s' h2,h3,if_false]
      · simp only [x_seq,x_reg,x_skip,x_exit,x_ret,x_block,x_if,wpC_t,wpC_f,wpI_cons,wpI_nil,wpX_some,evI_any,evI_rd,evI_ad,evI_g,evG_u,evG_b,evG_tt,evG_ff,evG_tf,evG_ft,evO,evR,ev_t,ev_c,ev_f,putD_some,putD_none,put_at,cellsT,ldCells,mkT,lenA,binPV,add_bs,add_clk,add_ls,put_bs,put_clk,put_ls,kill_bs,kill_clk,kill_ls,empty_clk,empty_bs,Env.init,seqQ_norm,seqQ_exit,seqQ_ret,blkQ_norm,blkQ_exit,blkQ_ret,loopQ_norm,loopQ_exit,loopQ_ret,retP_ret,retP_norm,retE_ret,retE_norm,retS_ret,retS_norm,wpO_some,frA_fn,klA_p,klA_nil,klA_own,resVs,resV,resT,Option.bind_some,Option.bind_none,Option.map_some,List.getD_cons_zero,List.getD_cons_succ,List.getD_nil,List.length_cons,List.length_nil,List.length_map,List.map_cons,List.map_nil,List.drop_zero,List.drop_succ_cons,List.take_succ_cons,List.take_zero,List.drop_nil,List.take_nil,Nat.reduceEqDiff,Nat.reduceAdd,Nat.reduceLeDiff,Nat.zero_add,Nat.add_zero,Prod.mk.injEq,and_true,true_and,and_false,false_and,and_self,if_true,if_false,ite_true,ite_false,Bool.not_true,Bool.not_false,Bool.not_eq_true',reduceCtorEq,decide_true,decide_false,frTs,frT,frL_p,spS,ofPT_a,ofPT_g,ofPT_t,flat_i,flat_b,flat_s,flat_l,flat_g,flatp_i,flatp_b,flatp_s,flatp_l,klTs,klT,Bool.and_false,Bool.false_and,frL,frA_p,frA_nil,frA_own,ownT,intT,Bool.or_true,Bool.true_or,Bool.false_eq_true,frL_p,klL_p,ownT_p,O.adds,List.all_cons,List.all_nil,List.any_cons,List.any_nil,ownA,evO.bslRows,List.replicate_succ,List.replicate_zero,List.set_cons_zero,rowsA,over,List.cons_append,List.nil_append,List.append_nil,fillA,Bool.and_self,Bool.and_true,Bool.true_and,Bool.or_self,Bool.or_false,Bool.false_or,Nat.reduceMul,Nat.one_mul,Nat.lt_add_one,klL,Nat.le_refl,ite_self,Nat.reduceBEq]
    · have e : stepUses p a (.mk k n s l) q = (.mk k n s l,a) := by
        have : ¬ n = w (p + q) := by simpa using h1
        show (T.mk k n s l,if n = w (p + q) then w (a + 1) else a) = _
        rw [if_neg this]
      rw [e]
      simp only [h1,h4,h5,hc1,hc2,enc,encL_map,T.k,T.n,T.s,T.l,x_seq,x_reg,x_skip,x_exit,x_ret,x_block,x_if,wpC_t,wpC_f,wpI_cons,wpI_nil,wpX_some,evI_any,evI_rd,evI_ad,evI_g,evG_u,evG_b,evG_tt,evG_ff,evG_tf,evG_ft,evO,evR,ev_t,ev_c,ev_f,putD_some,putD_none,put_at,cellsT,ldCells,mkT,lenA,binPV,add_bs,add_clk,add_ls,put_bs,put_clk,put_ls,kill_bs,kill_clk,kill_ls,empty_clk,empty_bs,Env.init,seqQ_norm,seqQ_exit,seqQ_ret,blkQ_norm,blkQ_exit,blkQ_ret,loopQ_norm,loopQ_exit,loopQ_ret,retP_ret,retP_norm,retE_ret,retE_norm,retS_ret,retS_norm,wpO_some,frA_fn,klA_p,klA_nil,klA_own,resVs,resV,resT,Option.bind_some,Option.bind_none,Option.map_some,List.getD_cons_zero,List.getD_cons_succ,List.getD_nil,List.length_cons,List.length_nil,List.length_map,List.map_cons,List.map_nil,List.drop_zero,List.drop_succ_cons,List.take_succ_cons,List.take_zero,List.drop_nil,List.take_nil,Nat.reduceEqDiff,Nat.reduceAdd,Nat.reduceLeDiff,Nat.zero_add,Nat.add_zero,Prod.mk.injEq,and_true,true_and,and_false,false_and,and_self,if_true,if_false,ite_true,ite_false,Bool.not_true,Bool.not_false,Bool.not_eq_true',reduceCtorEq,decide_true,decide_false,frTs,frT,frL_p,spS,ofPT_a,ofPT_g,ofPT_t,flat_i,flat_b,flat_s,flat_l,flat_g,flatp_i,flatp_b,flatp_s,flatp_l,klTs,klT,Bool.and_false,Bool.false_and,frL,frA_p,frA_nil,frA_own,ownT,intT,Bool.or_true,Bool.true_or,Bool.false_eq_true,frL_p,klL_p,ownT_p,O.adds,List.all_cons,List.all_nil,List.any_cons,List.any_nil,ownA,evO.bslRows,List.replicate_succ,List.replicate_zero,List.set_cons_zero,rowsA,over,List.cons_append,List.nil_append,List.append_nil,fillA,Bool.and_self,Bool.and_true,Bool.true_and,Bool.or_self,Bool.or_false,Bool.false_or,Nat.reduceMul,Nat.one_mul,Nat.lt_add_one,klL,Nat.le_refl,ite_self,Nat.reduceBEq]
      refine fin (.mk k n s l) _ a rfl rfl (fun s' h2 h3 => ?_) ?_
      · simp only [put_bs,add_bs,add_clk,hne s' h2,hne0 s' h2,h3,if_false]
      · simp only [h5,hc2,x_seq,x_reg,x_skip,x_exit,x_ret,x_block,x_if,wpC_t,wpC_f,wpI_cons,wpI_nil,wpX_some,evI_any,evI_rd,evI_ad,evI_g,evG_u,evG_b,evG_tt,evG_ff,evG_tf,evG_ft,evO,evR,ev_t,ev_c,ev_f,putD_some,putD_none,put_at,cellsT,ldCells,mkT,lenA,binPV,add_bs,add_clk,add_ls,put_bs,put_clk,put_ls,kill_bs,kill_clk,kill_ls,empty_clk,empty_bs,Env.init,seqQ_norm,seqQ_exit,seqQ_ret,blkQ_norm,blkQ_exit,blkQ_ret,loopQ_norm,loopQ_exit,loopQ_ret,retP_ret,retP_norm,retE_ret,retE_norm,retS_ret,retS_norm,wpO_some,frA_fn,klA_p,klA_nil,klA_own,resVs,resV,resT,Option.bind_some,Option.bind_none,Option.map_some,List.getD_cons_zero,List.getD_cons_succ,List.getD_nil,List.length_cons,List.length_nil,List.length_map,List.map_cons,List.map_nil,List.drop_zero,List.drop_succ_cons,List.take_succ_cons,List.take_zero,List.drop_nil,List.take_nil,Nat.reduceEqDiff,Nat.reduceAdd,Nat.reduceLeDiff,Nat.zero_add,Nat.add_zero,Prod.mk.injEq,and_true,true_and,and_false,false_and,and_self,if_true,if_false,ite_true,ite_false,Bool.not_true,Bool.not_false,Bool.not_eq_true',reduceCtorEq,decide_true,decide_false,frTs,frT,frL_p,spS,ofPT_a,ofPT_g,ofPT_t,flat_i,flat_b,flat_s,flat_l,flat_g,flatp_i,flatp_b,flatp_s,flatp_l,klTs,klT,Bool.and_false,Bool.false_and,frL,frA_p,frA_nil,frA_own,ownT,intT,Bool.or_true,Bool.true_or,Bool.false_eq_true,frL_p,klL_p,ownT_p,O.adds,List.all_cons,List.all_nil,List.any_cons,List.any_nil,ownA,evO.bslRows,List.replicate_succ,List.replicate_zero,List.set_cons_zero,rowsA,over,List.cons_append,List.nil_append,List.append_nil,fillA,Bool.and_self,Bool.and_true,Bool.true_and,Bool.or_self,Bool.or_false,Bool.false_or,Nat.reduceMul,Nat.one_mul,Nat.lt_add_one,klL,Nat.le_refl,ite_self,Nat.reduceBEq]
theorem usesL_acc (c : Int) : ∀ (l : List T) (q a : Int),w (c + usesL l q a) = usesL l q (w (c + a))
  | [],q,a => rfl
  | t :: l,q,a => by
    simp only [usesL]
    rw [usesL_acc c l,w_left,w_right,Int.add_assoc]
mutual
theorem turn_uses (p : Int) : ∀ (t : T) (q c : Int),w c = c → (turn (stepUses p) t q c).2 = w (c + uses t (w (p + q)))
  | .mk k n s l,q,c,hc => by
    unfold turn uses
    split
    · rename_i hk
      show (if n = w (p + q) then w (c + 1) else c) = _
      split
      · rfl
      · rw [Int.add_zero,hc]
    · rename_i hk
      have hm : w (w (p + q) + T.more (.mk k n s l)) = w (p + (if k = 2 then w (q + 1) else if k = 6 then w (q + n) else q)) := by
        show w (w (p + q) + (if k = 2 then 1 else if k = 6 then n else 0)) = _
        by_cases h2 : k = 2
        · rw [if_pos h2,if_pos h2,w_left,w_right]; congr 1; omega
        · rw [if_neg h2,if_neg h2]
          by_cases h6 : k = 6
          · rw [if_pos h6,if_pos h6,w_left,w_right]; congr 1; omega
          · rw [if_neg h6,if_neg h6,Int.add_zero,w_w]
      rw [hm,usesL_acc,Int.add_zero,hc]
      exact turn_usesL p l _ c hc
theorem turn_usesL (p : Int) : ∀ (l : List T) (q c : Int),w c = c → (turnL (stepUses p) l q c).2 = usesL l (w (p + q)) c
  | [],q,c,_ => rfl
  | t :: l,q,c,hc => by
    simp only [turnL,usesL]
    rw [turn_uses p t q c hc,turn_usesL p l q _ (w_w _)]
end
theorem subUses_ok {t : T} (ht : T.Ok t) (p : Int) (hp : -9223372036854775808 ≤ p ∧ p ≤ 9223372036854775807) : eP S 23 [.g (enc t),.a (.i .i64 p)] = some (.a (.i .i64 (w (uses t p)))) := by
  have hlem := turn_uses p t 0 0 (by decide)
  rw [Int.add_zero,w_id p hp,Int.zero_add] at hlem
  refine x_fn (orcS 23) (fc := F23) rfl rfl ?_
  obtain ⟨v,σ2,hcall,⟨X,rfl,hX,hkk⟩,⟨hR1,hR2⟩,hG1,hG2,hG3⟩ := turn_ok (cloUses p) ht 0 0 (((St.empty.add 2 (.var ((enc t).map .p))).add 3 (.var [.p (.i .i64 p)])).add 5 (.var [.p (.i .i64 0)]) |>.put (5,2) (.var [.p (.i .i64 0)]))
    ⟨by simp [add_bs,add_clk,empty_clk,put_bs],by simp [add_bs,add_clk,empty_clk,put_bs]⟩ (by simp [add_clk,empty_clk,put_clk])
  simp only [F23,enc_len,enc_takep,capsOf,x_seq,x_reg,x_skip,x_exit,x_ret,x_block,x_if,wpC_t,wpC_f,wpI_cons,wpI_nil,wpX_some,evI_any,evI_rd,evI_ad,evI_g,evG_u,evG_b,evG_tt,evG_ff,evG_tf,evG_ft,evO,evR,ev_t,ev_c,ev_f,putD_some,putD_none,put_at,cellsT,ldCells,mkT,lenA,binPV,add_bs,add_clk,add_ls,put_bs,put_clk,put_ls,kill_bs,kill_clk,kill_ls,empty_clk,empty_bs,Env.init,seqQ_norm,seqQ_exit,seqQ_ret,blkQ_norm,blkQ_exit,blkQ_ret,loopQ_norm,loopQ_exit,loopQ_ret,retP_ret,retP_norm,retE_ret,retE_norm,retS_ret,retS_norm,wpO_some,frA_fn,klA_p,klA_nil,klA_own,resVs,resV,resT,Option.bind_some,Option.bind_none,Option.map_some,List.getD_cons_zero,List.getD_cons_succ,List.getD_nil,List.length_cons,List.length_nil,List.length_map,List.map_cons,List.map_nil,List.drop_zero,List.drop_succ_cons,List.take_succ_cons,List.take_zero,List.drop_nil,List.take_nil,Nat.reduceEqDiff,Nat.reduceAdd,Nat.reduceLeDiff,Nat.zero_add,Nat.add_zero,Prod.mk.injEq,and_true,true_and,and_false,false_and,and_self,if_true,if_false,ite_true,ite_false,Bool.not_true,Bool.not_false,Bool.not_eq_true',reduceCtorEq,decide_true,decide_false,frTs,frT,frL_p,spS,ofPT_a,ofPT_g,ofPT_t,flat_i,flat_b,flat_s,flat_l,flat_g,flatp_i,flatp_b,flatp_s,flatp_l,klTs,klT,Bool.and_false,Bool.false_and,frL,frA_p,frA_nil,frA_own,ownT,intT,Bool.or_true,Bool.true_or,Bool.false_eq_true,frL_p,klL_p,ownT_p,O.adds,List.all_cons,List.all_nil,List.any_cons,List.any_nil,ownA,evO.bslRows,List.replicate_succ,List.replicate_zero,List.set_cons_zero,rowsA,over,List.cons_append,List.nil_append,List.append_nil,fillA,Bool.and_self,Bool.and_true,Bool.true_and,Bool.or_self,Bool.or_false,Bool.false_or,Nat.reduceMul,Nat.one_mul,Nat.lt_add_one,klL,Nat.le_refl,ite_self,Nat.reduceBEq]
  rw [hlem] at hR2
  simp only [hcall,hR2,x_seq,x_reg,x_skip,x_exit,x_ret,x_block,x_if,wpC_t,wpC_f,wpI_cons,wpI_nil,wpX_some,evI_any,evI_rd,evI_ad,evI_g,evG_u,evG_b,evG_tt,evG_ff,evG_tf,evG_ft,evO,evR,ev_t,ev_c,ev_f,putD_some,putD_none,put_at,cellsT,ldCells,mkT,lenA,binPV,add_bs,add_clk,add_ls,put_bs,put_clk,put_ls,kill_bs,kill_clk,kill_ls,empty_clk,empty_bs,Env.init,seqQ_norm,seqQ_exit,seqQ_ret,blkQ_norm,blkQ_exit,blkQ_ret,loopQ_norm,loopQ_exit,loopQ_ret,retP_ret,retP_norm,retE_ret,retE_norm,retS_ret,retS_norm,wpO_some,frA_fn,klA_p,klA_nil,klA_own,resVs,resV,resT,Option.bind_some,Option.bind_none,Option.map_some,List.getD_cons_zero,List.getD_cons_succ,List.getD_nil,List.length_cons,List.length_nil,List.length_map,List.map_cons,List.map_nil,List.drop_zero,List.drop_succ_cons,List.take_succ_cons,List.take_zero,List.drop_nil,List.take_nil,Nat.reduceEqDiff,Nat.reduceAdd,Nat.reduceLeDiff,Nat.zero_add,Nat.add_zero,Prod.mk.injEq,and_true,true_and,and_false,false_and,and_self,if_true,if_false,ite_true,ite_false,Bool.not_true,Bool.not_false,Bool.not_eq_true',reduceCtorEq,decide_true,decide_false,frTs,frT,frL_p,spS,ofPT_a,ofPT_g,ofPT_t,flat_i,flat_b,flat_s,flat_l,flat_g,flatp_i,flatp_b,flatp_s,flatp_l,klTs,klT,Bool.and_false,Bool.false_and,frL,frA_p,frA_nil,frA_own,ownT,intT,Bool.or_true,Bool.true_or,Bool.false_eq_true,frL_p,klL_p,ownT_p,O.adds,List.all_cons,List.all_nil,List.any_cons,List.any_nil,ownA,evO.bslRows,List.replicate_succ,List.replicate_zero,List.set_cons_zero,rowsA,over,List.cons_append,List.nil_append,List.append_nil,fillA,Bool.and_self,Bool.and_true,Bool.true_and,Bool.or_self,Bool.or_false,Bool.false_or,Nat.reduceMul,Nat.one_mul,Nat.lt_add_one,klL,Nat.le_refl,ite_self,Nat.reduceBEq]
end Go.Proofs.Ytlgekplmbmkcmaa
end
section
set_option linter.unusedSimpArgs false
set_option linter.unusedVariables false
namespace Go.Fx
variable {S : Seat}
theorem evY_up {cp : FuncId → List PT → Option PT} {cs : Cal → List TV → St → Option (TV × St)} {sp : FuncId → Bool} {j k : Nat} (h : j ≤ k) (l : Nat) (args : List TV) (σ : St) : Le (evY cp cs sp j l args σ) (evY cp cs sp k l args σ) := by
  induction h with
  | refl => exact Le.refl _
  | step _ ih => exact ih.trans (evY_le (fun _ _ => Le.refl _) (fun _ _ _ => Le.refl _) _ l args σ)
theorem eS_y_of {n l : Nat} {args : List TV} {σ : St} {x : TV × St} (h : evY (eP S) (eS S) S.sp n l args σ = some x) : eS S (.y l) args σ = some x := by
  have hl := evY_lim (cp := eP S) (cs := eS S) (sp := S.sp) (fun f ps => eP_lim S f ps) (fun f vs σ => eS_lim S f vs σ) n l args σ
  obtain ⟨k,hk⟩ := hl.ex _ h
  refine (eS_some S).2 ⟨max k n + 1,?_⟩
  rw [evS]
  exact evY_up (Nat.le_max_right k n) l args σ _ (hl.mono (Nat.le_max_left k n) _ hk)
theorem y_round {l : Nat} {args : List TV} {σ : St} {r : LRec} (hr : σ.ls[l]? = some r) (hn : args.length = r.params.length) {K : TV → St → Prop}
    (h : wp S true r.assign (putAll r.env r.params args) σ fun x e1 σ1 => x = .norm ∧ ∃ r1,σ1.ls[l]? = some r1 ∧ r1.st = .ready ∧ wp S true r.body e1 (setL σ1 l { r1 with st := .busy }) fun y e2 σ2 =>
      ∃ r2,σ2.ls[l]? = some r2 ∧ (if y = .norm then K (.a (.p (.b true))) (setL σ2 l { r2 with st := .ready,pend := none }) else K (.a (.p (.b false))) (setL σ2 l { r2 with st := .done,pend := some y }))) :
    ∃ v σ',eS S (.y l) args σ = some (v,σ') ∧ K v σ' := by
  obtain ⟨n1,⟨x,e1,σ1⟩,h1,hx,r1,hr1,hst,n2,⟨y,e2,σ2⟩,h2,r2,hr2,hK⟩ := h
  simp only at hx hr1 hst h2 hr2 hK
  subst hx
  have a := evW_le (Nat.le_max_left n1 n2) true r.assign _ _ _ h1
  have b := evW_le (Nat.le_max_right n1 n2) true r.body _ _ _ h2
  simp only [evW] at a b
  by_cases hy : y = .norm
  · subst hy
    rw [if_pos rfl] at hK
    refine ⟨_,_,eS_y_of (n := max n1 n2) ?_,hK⟩
    simp only [evY,hr,hn,if_true,a,Option.bind_some,hr1,hst,b,hr2]
  · rw [if_neg hy] at hK
    refine ⟨_,_,eS_y_of (n := max n1 n2) ?_,hK⟩
    simp only [evY,hr,hn,if_true,a,Option.bind_some,hr1,hst,b,hr2,if_neg hy]
theorem wp_rng {f : X} {ps : List Nat} {assign body : C} {e : Env} {σ : St} {Q : Ex → Env → St → Prop} {g : FuncId} {caps : List Key} (hf : ev e f = .a (.fn g caps))
    (h : ∃ v σ1,eS S (.f g) (.a (.yl σ.ls.length) :: caps.map fun s => .a (.ptr s 0 0)) { σ with ls := σ.ls ++ [{ env := e,params := ps,assign := assign,body := body,st := .ready,pend := none }] } = some (v,σ1) ∧
      ∃ r,σ1.ls[σ.ls.length]? = some r ∧ r.st ≠ .busy ∧ Q (r.pend.getD .norm) e (setL σ1 σ.ls.length { r with st := .gone })) : wp S false (.rng f ps assign body) e σ Q := by
  obtain ⟨v,σ1,h1,r,hr,hs,hQ⟩ := h
  refine ⟨1,(r.pend.getD .norm,e,setL σ1 σ.ls.length { r with st := .gone }),?_,hQ⟩
  simp only [evW,evC,Bool.false_eq_true,if_false,hf,h1,Option.bind_some,hr,if_neg hs]
theorem setL_bs (σ : St) (l : Nat) (r : LRec) : (setL σ l r).bs = σ.bs := rfl
theorem setL_clk (σ : St) (l : Nat) (r : LRec) : (setL σ l r).clk = σ.clk := rfl
theorem setL_ls (σ : St) (l : Nat) (r : LRec) : (setL σ l r).ls = σ.ls.set l r := rfl
end Go.Fx
end
section
set_option linter.unusedSimpArgs false
set_option linter.unusedVariables false
set_option maxHeartbeats 4000000
set_option maxRecDepth 10000
namespace Go.Proofs.Ytlgekplmbmkcmaa
open Go.Fx
def binds (t : T) : Int := if t.l.length = 0 then 0 else if t.k = 2 then 1 else if t.k = 6 then (if 8 < (if 0 > t.n then 0 else t.n) then 8 else (if 0 > t.n then 0 else t.n)) else 0
theorem binds_ok (t : T) : eP S 78 [.g (enc t)] = some (.a (.i .i64 (binds t))) := by
  refine x_fn (orcS _) (fc := F78) rfl rfl ?_
  obtain ⟨k,n,s,l⟩ := t
  unfold binds
  simp only [T.k,T.n,T.l]
  by_cases h0 : l.length = 0
  · obtain rfl : l = [] := List.eq_nil_of_length_eq_zero h0
    simp only [F78,enc,encL,List.length_nil,spS,Int.cast_ofNat_Int,fxa,fxc,fxE,fxL,fxI,nxE,evO,evR,cellsT,ldCells,mkT,lenA,binPV,Env.init,resV,resT,frT,klT,ownT,intT,O.adds,ownA,rowsA,over,wrOk,keysT,keysA,ne_eq,if_true,if_false,ite_self,Nat.reduceLT,Nat.reduceSub,Nat.reduceBEq,Nat.reduceEqDiff,Nat.reduceAdd,Nat.reduceLeDiff,reduceCtorEq,Nat.reduceMul]
  · have h0' : ¬ (l.length : Int) = 0 := by omega
    by_cases h1 : k = 2
    · simp only [F78,enc,encL_map,h0,h0',h1,List.length_map,spS,fxa,fxc,fxE,fxL,fxI,nxE,evO,evR,cellsT,ldCells,mkT,lenA,binPV,Env.init,resV,resT,frT,klT,ownT,intT,O.adds,ownA,rowsA,over,wrOk,keysT,keysA,ne_eq,if_true,if_false,ite_self,Nat.reduceLT,Nat.reduceSub,Nat.reduceBEq,Nat.reduceEqDiff,Nat.reduceAdd,Nat.reduceLeDiff,reduceCtorEq,Nat.reduceMul]
    · by_cases h2 : k = 6
      · simp only [F78,enc,encL_map,h0,h0',h1,h2,List.length_map,spS,Int.reduceEq,fxa,fxc,fxE,fxL,fxI,nxE,evO,evR,cellsT,ldCells,mkT,lenA,binPV,Env.init,resV,resT,frT,klT,ownT,intT,O.adds,ownA,rowsA,over,wrOk,keysT,keysA,ne_eq,if_true,if_false,ite_self,Nat.reduceLT,Nat.reduceSub,Nat.reduceBEq,Nat.reduceEqDiff,Nat.reduceAdd,Nat.reduceLeDiff,reduceCtorEq,Nat.reduceMul]
        first
          | rfl
          | (by_cases g1 : 0 > n
             · simp [g1]
             · simp only [g1,if_false]; split <;> rfl)
      · simp only [F78,enc,encL_map,h0,h0',h1,h2,List.length_map,spS,fxa,fxc,fxE,fxL,fxI,nxE,evO,evR,cellsT,ldCells,mkT,lenA,binPV,Env.init,resV,resT,frT,klT,ownT,intT,O.adds,ownA,rowsA,over,wrOk,keysT,keysA,ne_eq,if_true,if_false,ite_self,Nat.reduceLT,Nat.reduceSub,Nat.reduceBEq,Nat.reduceEqDiff,Nat.reduceAdd,Nat.reduceLeDiff,reduceCtorEq,Nat.reduceMul]
theorem uses_fn (t : T) (σ : St) : eS S (.f 67) [.g ((enc t).map .p)] σ = some (.a (.fn 75 [(1,σ.clk)]),σ.add 1 (.var ((enc t).map .p))) := by
  refine x_fnX (fc := F67) rfl rfl ?_
  have e4 : (enc t).map AV.p = [.p (.i .i64 t.k),.p (.i .i64 t.n),.p (.s t.s),.p (.l (t.l.map enc))] := by rw [enc_eq]; rfl
  rw [e4]
  simp only [F67,capsOf,fxa,fxc,fxE,fxL,fxI,nxE,evO,evR,cellsT,ldCells,mkT,lenA,binPV,Env.init,resV,resT,frT,klT,ownT,intT,O.adds,ownA,rowsA,over,wrOk,keysT,keysA,ne_eq,if_true,if_false,ite_self,Nat.reduceLT,Nat.reduceSub,Nat.reduceBEq,Nat.reduceEqDiff,Nat.reduceAdd,Nat.reduceLeDiff,reduceCtorEq,Nat.reduceMul]
def zT0 : T := .mk 0 0 [] []
def lastB (t : T) : Int := if t.k = 6 then w (t.n - binds t) else 0
def useB (t : T) : List Int := (List.range (binds t).toNat).map fun i : Nat => w (uses (t.l.getD 0 zT0) (w (lastB t + (((binds t).toNat : Int) - 1 - (i : Int)))))
mutual
def ofT : T → List Int
  | .mk k n s l => useB (.mk k n s l) ++ ofTL l
def ofTL : List T → List Int
  | [] => []
  | t :: r => ofT t ++ ofTL r
end
theorem ofTL_app : ∀ (l r : List T),ofTL (l ++ r) = ofTL l ++ ofTL r
  | [],r => rfl
  | t :: l,r => by simp only [List.cons_append,ofTL,ofTL_app l r,List.append_assoc]
structure Kp (c0 : Nat) (σ σ' : St) : Prop where
  clk : σ.clk ≤ σ'.clk
  ls : σ'.ls = σ.ls
  bs : ∀ key : Key,(key.1 = 2 ∨ key.1 = 6) → c0 ≤ key.2 → key.2 < σ.clk → σ'.bs key = σ.bs key
theorem Kp.refl (c0 : Nat) (σ : St) : Kp c0 σ σ := ⟨Nat.le_refl _,rfl,fun _ _ _ _ => rfl⟩
theorem Kp.trans {c0 : Nat} {σ τ υ : St} (h : Kp c0 σ τ) (g : Kp c0 τ υ) : Kp c0 σ υ :=
  ⟨Nat.le_trans h.clk g.clk,g.ls.trans h.ls,fun k h1 h2 h3 => (g.bs k h1 h2 (Nat.lt_of_lt_of_le h3 h.clk)).trans (h.bs k h1 h2 h3)⟩
theorem Kp.add {c0 : Nat} {σ τ : St} (h : Kp c0 σ τ) (d : Nat) (b : Blk) : Kp c0 σ (τ.add d b) :=
  ⟨Nat.le_trans h.clk (by simp only [add_clk]; omega),h.ls,fun k h1 h2 h3 => by
    have h4 := h.clk
    have : ¬ k = (d,τ.clk) := by rintro rfl; simp at h3; omega
    simp only [add_bs,this,if_false]; exact h.bs k h1 h2 h3⟩
theorem Kp.put {c0 : Nat} {σ τ : St} (h : Kp c0 σ τ) {k : Key} (hk : σ.clk ≤ k.2) (b : Blk) : Kp c0 σ (τ.put k b) :=
  ⟨h.clk,h.ls,fun j h1 h2 h3 => by
    have : ¬ j = k := by rintro rfl; omega
    simp only [put_bs,this,if_false]; exact h.bs j h1 h2 h3⟩
structure Yl (l c0 : Nat) (L : List Int) (I : List Int → St → Prop) : Prop where
  st : ∀ pre σ σ',I pre σ → σ.clk ≤ σ'.clk → σ'.ls = σ.ls → (∀ key : Key,key.2 < σ.clk → σ'.bs key = σ.bs key) → I pre σ'
  call : ∀ pre x post σ,L = pre ++ x :: post → I pre σ → c0 ≤ σ.clk → ∃ σ',eS S (.y l) [.a (.p (.i .i64 x))] σ = some (.a (.p (.b true)),σ') ∧ I (pre ++ [x]) σ' ∧ Kp c0 σ σ'
theorem Yl.add {l c0 : Nat} {L : List Int} {I : List Int → St → Prop} (Y : Yl l c0 L I) {pre : List Int} {σ : St} (h : I pre σ) (d : Nat) (b : Blk) : I pre (σ.add d b) := by
  refine Y.st pre σ _ h (by simp only [add_clk]; omega) rfl fun key hk => ?_
  have : ¬ key = (d,σ.clk) := by rintro rfl; simp at hk
  simp only [add_bs,this,if_false]
theorem Yl.addput {l c0 : Nat} {L : List Int} {I : List Int → St → Prop} (Y : Yl l c0 L I) {pre : List Int} {σ : St} (h : I pre σ) (d : Nat) (b b' : Blk) : I pre ((σ.add d b).put (d,σ.clk) b') := by
  refine Y.st pre σ _ h (by simp only [put_clk,add_clk]; omega) rfl fun key hk => ?_
  have : ¬ key = (d,σ.clk) := by rintro rfl; simp at hk
  simp only [put_bs,add_bs,this,if_false]
theorem useB_len (t : T) : (useB t).length = (binds t).toNat := by unfold useB; simp
theorem useB_get {t : T} {i : Nat} (h : i < (binds t).toNat) : (useB t)[i]? = some (w (uses (t.l.getD 0 zT0) (w (lastB t + (((binds t).toNat : Int) - 1 - (i : Int)))))) := by
  unfold useB
  rw [List.getElem?_map,List.getElem?_range h]; rfl
theorem binds_le (t : T) : 0 ≤ binds t ∧ binds t ≤ 8 := by
  unfold binds
  repeat' split
  all_goals omega
theorem binds_ne {t : T} (h : 0 < binds t) : t.l ≠ [] := by
  intro h0
  unfold binds at h
  rw [h0] at h
  simp at h
theorem clo_use {l c0 : Nat} {L : List Int} {I : List Int → St → Prop} (Y : Yl l c0 L I) {t : T} (ht : T.Ok t) {pre post : List Int} (hL : L = pre ++ useB t ++ post) {cb : Nat} {σ : St} (hI : I pre σ) (hc : c0 ≤ cb) (hcb : cb < σ.clk) (hb : σ.bs (2,cb) = some (.var [.yl l])) :
    ∃ σ',eS S (.f 77) [.g ((enc t).map .p),.a (.ptr (2,cb) 0 0)] σ = some (.a (.p (.b true)),σ') ∧ I (pre ++ useB t) σ' ∧ Kp c0 σ σ' := by
  refine x_fnR (fc := F77) rfl rfl ?_
  have hbl := binds_le t
  have c1 := binds_ok t
  have e4 : (enc t).map AV.p = [.p (.i .i64 t.k),.p (.i .i64 t.n),.p (.s t.s),.p (.l (t.l.map enc))] := by rw [enc_eq]; rfl
  have e4' := enc_eq t
  have ne0 : ¬ (2,cb) = (2,σ.clk) := by simp; omega
  have hlen : t.l.length * 56 ≤ reachBytes := by cases ht; assumption
  obtain ⟨N,hN⟩ : ∃ N : Nat,(binds t).toNat = N := ⟨_,rfl⟩
  have hN' : binds t = (N : Int) := by omega
  have hw1 : IntKind.i64.wrap ((N : Int) - 1) = (N : Int) - 1 := wrap_in _ (by omega)
  have hul := useB_len t
  rw [hN] at hul
  have hloop : ∀ (e : Env),e 1 = .a (.ptr (2,cb) 0 0) → e 2 = .a (.ptr (2,σ.clk) 0 0) → e 5 = .a (.p (.i .i64 (lastB t))) → e 6 = .a (.p (.i .i64 ((N : Int) - 1))) →
      wp S false (.loop F77b0) e (σ.add 2 (.var ((enc t).map .p))) (fun x e' σ' => x = .exit 0 ∧ I (pre ++ useB t) σ' ∧ Kp c0 σ σ') := by
    intro e e1 e2 e5 e6
    refine loop_nat N (fun i e τ => e 1 = .a (.ptr (2,cb) 0 0) ∧ e 2 = .a (.ptr (2,σ.clk) 0 0) ∧ e 5 = .a (.p (.i .i64 (lastB t))) ∧ e 6 = .a (.p (.i .i64 ((N : Int) - 1 - i))) ∧
      I (pre ++ (useB t).take i) τ ∧ Kp c0 σ τ ∧ τ.bs (2,cb) = some (.var [.yl l]) ∧ τ.bs (2,σ.clk) = some (.var ((enc t).map .p)) ∧ σ.clk < τ.clk) (i0 := 0) (Nat.zero_le _) ?_ ?_ ?_
    · refine ⟨e1,e2,e5,by rw [e6]; simp,by simpa using Y.add hI 2 _,(Kp.refl _ _).add _ _,?_,?_,by simp only [add_clk]; omega⟩
      · simp only [add_bs,ne0,if_false]; exact hb
      · simp only [add_bs,if_true]
    · rintro i e τ hi ⟨e1,e2,e5,e6,hIi,hK,b1,b2,hclk⟩
      have hx0 := binds_ne (t := t) (by omega)
      obtain ⟨x0,r0,hl0⟩ : ∃ x0 r0,t.l = x0 :: r0 := by
        cases h : t.l with
        | nil => exact absurd h hx0
        | cons a b => exact ⟨a,b,rfl⟩
      have hx0' : (t.l.map enc)[0]? = some (enc x0) := by rw [hl0]; rfl
      have hxo : T.Ok x0 := by
        cases ht with
        | mk k n s l hk hn hs hl h => exact h x0 (by have : l = x0 :: r0 := hl0; rw [this]; simp)
      have hget := useB_get (t := t) (i := i) (by omega)
      have hgd : t.l.getD 0 zT0 = x0 := by rw [hl0]; rfl
      rw [hN,hgd] at hget
      obtain ⟨u,hu⟩ : ∃ u,w (uses x0 (w (lastB t + ((N : Int) - 1 - i)))) = u := ⟨_,rfl⟩
      have c2 := subUses_ok hxo (w (lastB t + ((N : Int) - 1 - i))) (w_range _)
      rw [hu] at c2 hget
      have htk : (useB t).take (i + 1) = (useB t).take i ++ [u] := by rw [List.take_add_one,hget]; rfl
      have hLi : L = (pre ++ (useB t).take i) ++ u :: ((useB t).drop (i + 1) ++ post) := by
        have hd : useB t = (useB t).take i ++ u :: (useB t).drop (i + 1) := by
          have hlt : i < (useB t).length := by omega
          rw [List.getElem?_eq_getElem hlt] at hget
          have := List.take_append_drop i (useB t)
          rw [List.drop_eq_getElem_cons hlt,Option.some.inj hget] at this
          exact this.symm
        rw [hL]
        conv => lhs; rw [hd]
        simp
      obtain ⟨τ',c3,hI2,hK2⟩ := Y.call _ u _ τ hLi hIi (by have := hK.clk; omega)
      have hge : (N : Int) - 1 - i ≥ 0 := by omega
      have hws : IntKind.i64.wrap ((N : Int) - 1 - i - 1) = (N : Int) - 1 - ((i + 1 : Nat) : Int) := by rw [wrap_in _ (by omega)]; omega
      have hl1 : (0 : Int) < (t.l.length : Int) := by rw [hl0]; simp only [List.length_cons]; omega
      have b1' := (hK2.bs (2,cb) (.inl rfl) hc (by show cb < τ.clk; omega)).trans b1
      have b2' := (hK2.bs (2,σ.clk) (.inl rfl) (by show c0 ≤ σ.clk; omega) (by show σ.clk < τ.clk; omega)).trans b2
      rw [e4] at b2
      have e5x := enc_eq x0
      simp only [F77b0,e1,e2,e5,e6,b1,b2,hge,hws,hl1,hx0',enc_len,enc_take,enc_all,c2,c3,w,Int.le_refl,Int.toNat_zero,List.length_map,spS,fxa,fxc,fxE,fxL,fxI,nxE,evO,evR,cellsT,ldCells,mkT,lenA,binPV,Env.init,resV,resT,frT,klT,ownT,intT,O.adds,ownA,rowsA,over,wrOk,keysT,keysA,ne_eq,if_true,if_false,ite_self,Nat.reduceLT,Nat.reduceSub,Nat.reduceBEq,Nat.reduceEqDiff,Nat.reduceAdd,Nat.reduceLeDiff,reduceCtorEq,Nat.reduceMul]
      rw [htk,← List.append_assoc]
      exact ⟨hI2,hK.trans hK2,b1',b2',by have := hK2.clk; omega⟩
    · rintro e τ ⟨e1,e2,e5,e6,hIi,hK,b1,b2,hclk⟩
      have hge : ¬ (N : Int) - 1 - (N : Nat) ≥ 0 := by omega
      rw [← hul,List.take_length] at hIi
      simp only [F77b0,e1,e2,e5,e6,hge,spS,fxa,fxc,fxE,fxL,fxI,nxE,evO,evR,cellsT,ldCells,mkT,lenA,binPV,Env.init,resV,resT,frT,klT,ownT,intT,O.adds,ownA,rowsA,over,wrOk,keysT,keysA,ne_eq,if_true,if_false,ite_self,Nat.reduceLT,Nat.reduceSub,Nat.reduceBEq,Nat.reduceEqDiff,Nat.reduceAdd,Nat.reduceLeDiff,reduceCtorEq,Nat.reduceMul]
      exact ⟨hIi,hK⟩
  rw [e4'] at c1
  rw [hN'] at c1
  rw [e4] at hloop ⊢
  by_cases h6 : t.k = 6
  · have hlb : lastB t = IntKind.i64.wrap (t.n - (N : Int)) := by unfold lastB; rw [if_pos h6,hN']
    rw [h6] at c1 hloop ⊢
    rw [hlb] at hloop
    simp only [F77,c1,hw1,spS,fxa,fxc,fxE,fxL,fxI,nxE,evO,evR,cellsT,ldCells,mkT,lenA,binPV,Env.init,resV,resT,frT,klT,ownT,intT,O.adds,ownA,rowsA,over,wrOk,keysT,keysA,ne_eq,if_true,if_false,ite_self,Nat.reduceLT,Nat.reduceSub,Nat.reduceBEq,Nat.reduceEqDiff,Nat.reduceAdd,Nat.reduceLeDiff,reduceCtorEq,Nat.reduceMul]
    refine Go.Fx.wp_mono (hloop _ ?_ ?_ ?_ ?_) ?_
    all_goals first
      | rfl
      | (rintro x e' τ ⟨rfl,hI1,hK1⟩
         simp only [fxa,fxc,fxE,fxL,fxI,nxE,evO,evR,cellsT,ldCells,mkT,lenA,binPV,Env.init,resV,resT,frT,klT,ownT,intT,O.adds,ownA,rowsA,over,wrOk,keysT,keysA,ne_eq,if_true,if_false,ite_self,Nat.reduceLT,Nat.reduceSub,Nat.reduceBEq,Nat.reduceEqDiff,Nat.reduceAdd,Nat.reduceLeDiff,reduceCtorEq,Nat.reduceMul]
         exact ⟨hI1,hK1⟩)
  · have hlb : lastB t = 0 := by unfold lastB; rw [if_neg h6]
    rw [hlb] at hloop
    simp only [F77,c1,h6,hw1,spS,fxa,fxc,fxE,fxL,fxI,nxE,evO,evR,cellsT,ldCells,mkT,lenA,binPV,Env.init,resV,resT,frT,klT,ownT,intT,O.adds,ownA,rowsA,over,wrOk,keysT,keysA,ne_eq,if_true,if_false,ite_self,Nat.reduceLT,Nat.reduceSub,Nat.reduceBEq,Nat.reduceEqDiff,Nat.reduceAdd,Nat.reduceLeDiff,reduceCtorEq,Nat.reduceMul]
    refine Go.Fx.wp_mono (hloop _ ?_ ?_ ?_ ?_) ?_
    all_goals first
      | rfl
      | (rintro x e' τ ⟨rfl,hI1,hK1⟩
         simp only [fxa,fxc,fxE,fxL,fxI,nxE,evO,evR,cellsT,ldCells,mkT,lenA,binPV,Env.init,resV,resT,frT,klT,ownT,intT,O.adds,ownA,rowsA,over,wrOk,keysT,keysA,ne_eq,if_true,if_false,ite_self,Nat.reduceLT,Nat.reduceSub,Nat.reduceBEq,Nat.reduceEqDiff,Nat.reduceAdd,Nat.reduceLeDiff,reduceCtorEq,Nat.reduceMul]
         exact ⟨hI1,hK1⟩)
theorem all_loop {l c0 : Nat} {L : List Int} {I : List Int → St → Prop} (Y : Yl l c0 L I) {ts : List T} {cb : Nat} (hc : c0 ≤ cb) (hl : ts.length * 56 ≤ reachBytes)
    (ih : ∀ t ∈ ts,∀ (pre post : List Int) (σ : St),L = pre ++ ofT t ++ post → I pre σ → cb < σ.clk → σ.bs (2,cb) = some (.var [.yl l]) → ∃ σ',eS S (.f 76) [.g ((enc t).map .p),.a (.fn 77 [(2,cb)])] σ = some (.a (.p (.b true)),σ') ∧ I (pre ++ ofT t) σ' ∧ Kp c0 σ σ')
    {pre post : List Int} (hL : L = pre ++ ofTL ts ++ post) {σ : St} (hI : I pre σ) (hcb : cb < σ.clk) (hb : σ.bs (2,cb) = some (.var [.yl l])) (e : Env)
    (e1 : e 1 = .a (.fn 77 [(2,cb)])) (e12 : e 12 = .a (.p (.l (ts.map enc)))) (e13 : e 13 = .a (.p (.i .i64 (ts.length : Nat)))) (e14 : e 14 = .a (.p (.i .i64 0))) :
    wp S false (.loop F76b0) e σ (fun x e' σ' => x = .exit 0 ∧ I (pre ++ ofTL ts) σ' ∧ Kp c0 σ σ') := by
  refine loop_nat ts.length (fun i e τ => e 1 = .a (.fn 77 [(2,cb)]) ∧ e 12 = .a (.p (.l (ts.map enc))) ∧ e 13 = .a (.p (.i .i64 (ts.length : Nat))) ∧ e 14 = .a (.p (.i .i64 (i : Nat))) ∧
    I (pre ++ ofTL (ts.take i)) τ ∧ Kp c0 σ τ ∧ τ.bs (2,cb) = some (.var [.yl l]) ∧ cb < τ.clk) (i0 := 0) (Nat.zero_le _) ⟨e1,e12,e13,e14,by simpa [ofTL] using hI,Kp.refl _ _,hb,hcb⟩ ?_ ?_
  · rintro i e τ hi ⟨e1,e12,e13,e14,hIi,hK,b1,hclk⟩
    obtain ⟨x,hx⟩ : ∃ x,ts[i]? = some x := ⟨_,List.getElem?_eq_getElem hi⟩
    have hx' : (ts.map enc)[i]? = some (enc x) := by simp [hx]
    have hxm := List.mem_of_getElem? hx
    have hlt : ((i : Nat) : Int) < (ts.length : Int) := by omega
    have hge : (0 : Int) ≤ ((i : Nat) : Int) := by omega
    have hlb : i < 9223372036854775807 := by simp only [reachBytes] at hl; omega
    have hw := wrap_succ i hlb
    have ne0 : ¬ (2,cb) = (6,τ.clk) := by simp
    have e4 : (enc x).map AV.p = [.p (.i .i64 x.k),.p (.i .i64 x.n),.p (.s x.s),.p (.l (x.l.map enc))] := by rw [enc_eq]; rfl
    have hLi : L = (pre ++ ofTL (ts.take i)) ++ ofT x ++ (ofTL (ts.drop (i + 1)) ++ post) := by
      have : ofTL ts = ofTL (ts.take i) ++ (ofT x ++ ofTL (ts.drop (i + 1))) := by
        conv => lhs; rw [← List.take_append_drop i ts,drop_consT hx]
        rw [ofTL_app]; rfl
      rw [hL,this]; simp
    have hs1 : ofTL (ts.take (i + 1)) = ofTL (ts.take i) ++ ofT x := by rw [take_succT hx,ofTL_app]; simp [ofTL]
    obtain ⟨τ1,c1,hI1,hK1⟩ := ih x hxm _ _ ((τ.add 6 (.var [.p (.i .i64 0),.p (.i .i64 0),.p (.s []),.nil])).put (6,τ.clk) (.var ((enc x).map .p))) hLi (Y.addput hIi 6 _ _) (by simp only [put_clk,add_clk]; omega) (by simp only [put_bs,add_bs,ne0,if_false]; exact b1)
    have hK2 : Kp c0 τ τ1 := (((Kp.refl c0 τ).add 6 _).put (by exact Nat.le_refl _) _).trans hK1
    have b1' := (hK2.bs (2,cb) (.inl rfl) hc hclk).trans b1
    rw [hs1]
    rw [e4] at c1
    simp only [F76b0,e1,e12,e13,e14,hlt,hge,hw,hx',e4,enc_len,enc_take,enc_all,c1,Int.toNat_natCast,List.length_map,spS,fxa,fxc,fxE,fxL,fxI,nxE,evO,evR,cellsT,ldCells,mkT,lenA,binPV,Env.init,resV,resT,frT,klT,ownT,intT,O.adds,ownA,rowsA,over,wrOk,keysT,keysA,ne_eq,if_true,if_false,ite_self,Nat.reduceLT,Nat.reduceSub,Nat.reduceBEq,Nat.reduceEqDiff,Nat.reduceAdd,Nat.reduceLeDiff,reduceCtorEq,Nat.reduceMul]
    rw [← List.append_assoc]
    exact ⟨hI1,hK.trans hK2,b1',by have := hK2.clk; omega⟩
  · rintro e τ ⟨e1,e12,e13,e14,hIi,hK,b1,hclk⟩
    have hlt : ¬ ((ts.length : Nat) : Int) < (ts.length : Int) := by omega
    rw [List.take_length] at hIi
    simp only [F76b0,e1,e12,e13,e14,hlt,spS,fxa,fxc,fxE,fxL,fxI,nxE,evO,evR,cellsT,ldCells,mkT,lenA,binPV,Env.init,resV,resT,frT,klT,ownT,intT,O.adds,ownA,rowsA,over,wrOk,keysT,keysA,ne_eq,if_true,if_false,ite_self,Nat.reduceLT,Nat.reduceSub,Nat.reduceBEq,Nat.reduceEqDiff,Nat.reduceAdd,Nat.reduceLeDiff,reduceCtorEq,Nat.reduceMul]
    exact ⟨hIi,hK⟩
theorem all_use {l c0 : Nat} {L : List Int} {I : List Int → St → Prop} (Y : Yl l c0 L I) {cb : Nat} (hc : c0 ≤ cb) : ∀ {t : T},T.Ok t → ∀ (pre post : List Int) (σ : St),L = pre ++ ofT t ++ post → I pre σ → cb < σ.clk → σ.bs (2,cb) = some (.var [.yl l]) →
    ∃ σ',eS S (.f 76) [.g ((enc t).map .p),.a (.fn 77 [(2,cb)])] σ = some (.a (.p (.b true)),σ') ∧ I (pre ++ ofT t) σ' ∧ Kp c0 σ σ' := by
  intro t ht
  induction ht with
  | mk k n s l hk hn hs hl h ih =>
    intro pre post σ hL hI hcb hb
    refine x_fnR (fc := F76) rfl rfl ?_
    have hT : T.Ok (.mk k n s l) := .mk k n s l hk hn hs hl h
    have e4 : (enc (.mk k n s l)).map AV.p = [.p (.i .i64 k),.p (.i .i64 n),.p (.s s),.p (.l (l.map enc))] := by rw [enc_eq]; rfl
    have ne0 : ¬ (2,cb) = (2,σ.clk) := by simp; omega
    have hLt : ofT (.mk k n s l) = useB (.mk k n s l) ++ ofTL l := rfl
    rw [hLt] at hL ⊢
    obtain ⟨τ,c1,hI1,hK1⟩ := clo_use Y hT (pre := pre) (post := ofTL l ++ post) (by rw [hL]; simp) (cb := cb) (σ := σ.add 2 (.var ((enc (.mk k n s l)).map .p))) (Y.add hI 2 _) hc (by simp only [add_clk]; omega) (by simp only [add_bs,ne0,if_false]; exact hb)
    have hK0 : Kp c0 σ τ := ((Kp.refl c0 σ).add 2 _).trans hK1
    have b1 := (hK0.bs (2,cb) (.inl rfl) hc hcb).trans hb
    have b2 := hK1.bs (2,σ.clk) (.inl rfl) (by show c0 ≤ σ.clk; omega) (by simp only [add_clk]; omega)
    rw [e4] at c1 b2 ⊢
    simp only [add_bs,if_true] at b2
    have hckl := hK0.clk
    simp only [F76,c1,b2,List.length_map,spS,fxa,fxc,fxE,fxL,fxI,nxE,evO,evR,cellsT,ldCells,mkT,lenA,binPV,Env.init,resV,resT,frT,klT,ownT,intT,O.adds,ownA,rowsA,over,wrOk,keysT,keysA,ne_eq,if_true,if_false,ite_self,Nat.reduceLT,Nat.reduceSub,Nat.reduceBEq,Nat.reduceEqDiff,Nat.reduceAdd,Nat.reduceLeDiff,reduceCtorEq,Nat.reduceMul]
    refine Go.Fx.wp_mono (all_loop Y hc hl (fun t ht pre post σ hL hI hcb hb => ih t ht pre post σ hL hI hcb hb) (pre := pre ++ useB (.mk k n s l)) (post := post) (by rw [hL]; simp) hI1 (by omega) b1 _ ?_ ?_ ?_ ?_) ?_
    all_goals first
      | rfl
      | (rintro x e' τ' ⟨rfl,hI2,hK2⟩
         simp only [fxa,fxc,fxE,fxL,fxI,nxE,evO,evR,cellsT,ldCells,mkT,lenA,binPV,Env.init,resV,resT,frT,klT,ownT,intT,O.adds,ownA,rowsA,over,wrOk,keysT,keysA,ne_eq,if_true,if_false,ite_self,Nat.reduceLT,Nat.reduceSub,Nat.reduceBEq,Nat.reduceEqDiff,Nat.reduceAdd,Nat.reduceLeDiff,reduceCtorEq,Nat.reduceMul]
         rw [← List.append_assoc]
         exact ⟨hI2,hK0.trans hK2⟩)
theorem iter_use {l : Nat} {I : List Int → St → Prop} {t : T} (ht : T.Ok t) {σ : St} (Y : Yl l σ.clk (ofT t) I) (hI : I [] σ) {kn : Key} (hn : σ.bs kn = some (.var ((enc t).map .p))) (hlt : kn.2 < σ.clk) :
    ∃ σ',eS S (.f 75) [.a (.yl l),.a (.ptr kn 0 0)] σ = some (.u,σ') ∧ I (ofT t) σ' ∧ Kp σ.clk σ σ' := by
  refine x_fnR (fc := F75) rfl rfl ?_
  have ne0 : ¬ kn = (2,σ.clk) := by rintro rfl; simp at hlt
  obtain ⟨τ,c1,hI1,hK1⟩ := all_use Y (Nat.le_refl _) ht [] [] (σ.add 2 (.var [.yl l])) (by simp) (Y.add hI 2 _) (by simp only [add_clk]; omega) (by simp only [add_bs,if_true])
  have e4 : (enc t).map AV.p = [.p (.i .i64 t.k),.p (.i .i64 t.n),.p (.s t.s),.p (.l (t.l.map enc))] := by rw [enc_eq]; rfl
  rw [e4] at hn c1
  simp only [F75,hn,ne0,c1,capsOf,spS,fxa,fxc,fxE,fxL,fxI,nxE,evO,evR,cellsT,ldCells,mkT,lenA,binPV,Env.init,resV,resT,frT,klT,ownT,intT,O.adds,ownA,rowsA,over,wrOk,keysT,keysA,ne_eq,if_true,if_false,ite_self,Nat.reduceLT,Nat.reduceSub,Nat.reduceBEq,Nat.reduceEqDiff,Nat.reduceAdd,Nat.reduceLeDiff,reduceCtorEq,Nat.reduceMul]
  exact ⟨by simpa using hI1,((Kp.refl _ σ).add 2 _).trans hK1⟩
end Go.Proofs.Ytlgekplmbmkcmaa
end
section
set_option linter.unusedSimpArgs false
set_option linter.unusedVariables false
set_option maxHeartbeats 4000000
set_option maxRecDepth 10000
namespace Go.Proofs.Ytlgekplmbmkcmaa
open Go.Fx
theorem rng_uses {t : T} (ht : T.Ok t) {E : Env} {σ : St} {kn : Key} {f : X} {p : Nat} {assign body : C} {Q : Ex → Env → St → Prop} (hf : ev E f = .a (.fn 75 [kn])) (hn : σ.bs kn = some (.var ((enc t).map .p))) (hlt : kn.2 < σ.clk) (hls : σ.ls = [])
    (I : List Int → St → Prop) (hst : ∀ pre σ σ',I pre σ → σ.clk ≤ σ'.clk → (∀ key : Key,key.2 < σ.clk → σ'.bs key = σ.bs key) → I pre σ') (hI : I [] σ)
    (step : ∀ pre x post τ r0,ofT t = pre ++ x :: post → I pre τ → σ.clk ≤ τ.clk → τ.ls = [r0] → wp S true assign (E.put p (.a (.p (.i .i64 x)))) τ fun z e1 σ1 => z = .norm ∧ σ1.ls = τ.ls ∧
      wp S true body e1 (setL σ1 0 { r0 with st := .busy }) fun y e2 σ2 => y = .norm ∧ σ2.ls = (setL σ1 0 { r0 with st := .busy }).ls ∧ I (pre ++ [x]) σ2 ∧ τ.clk ≤ σ2.clk ∧ ∀ key : Key,(key.1 = 2 ∨ key.1 = 6) → σ.clk ≤ key.2 → key.2 < τ.clk → σ2.bs key = τ.bs key)
    (hQ : ∀ σ' r,I (ofT t) σ' → σ'.ls = [r] → σ.clk ≤ σ'.clk → Q .norm E σ') : wp S false (.rng f [p] assign body) E σ Q := by
  refine wp_rng hf ?_
  rw [hls]
  simp only [List.length_nil,List.nil_append,List.map_cons,List.map_nil]
  obtain ⟨r0,hr0⟩ : ∃ r0 : LRec,r0 = { env := E,params := [p],assign := assign,body := body,st := .ready,pend := none } := ⟨_,rfl⟩
  rw [← hr0]
  have Y : Yl 0 σ.clk (ofT t) (fun pre τ => I pre τ ∧ τ.ls = [r0] ∧ σ.clk ≤ τ.clk) := by
    refine ⟨fun pre τ τ' ⟨h1,h2,h3⟩ k1 k2 k3 => ⟨hst pre τ τ' h1 k1 k3,k2.trans h2,Nat.le_trans h3 k1⟩,?_⟩
    rintro pre x post τ hL ⟨h1,h2,h3⟩ _
    have hs := step pre x post τ r0 hL h1 h3 h2
    obtain ⟨v,τ',g1,g2⟩ := y_round (S := S) (l := 0) (args := [.a (.p (.i .i64 x))]) (σ := τ) (r := r0) (by rw [h2]; rfl) (by rw [hr0]; rfl)
      (K := fun v τ' => v = .a (.p (.b true)) ∧ (I (pre ++ [x]) τ' ∧ τ'.ls = [r0] ∧ σ.clk ≤ τ'.clk) ∧ Kp σ.clk τ τ') (by
        have ra : r0.assign = assign := by rw [hr0]
        have rb : r0.body = body := by rw [hr0]
        have re : r0.env = E := by rw [hr0]
        have rp : r0.params = [p] := by rw [hr0]
        have rs : r0.st = .ready := by rw [hr0]
        rw [ra,rb,re,rp]
        refine Go.Fx.wp_mono hs ?_
        rintro z e1 σ1 ⟨rfl,g1,g2⟩
        refine ⟨rfl,r0,by rw [g1,h2]; rfl,rs,?_⟩
        refine Go.Fx.wp_mono g2 ?_
        rintro y e2 σ2 ⟨rfl,k1,k2,k3,k4⟩
        have hl1 : (setL σ1 0 { r0 with st := .busy }).ls = [{ r0 with st := .busy }] := by rw [setL_ls,g1,h2]; rfl
        rw [hl1] at k1
        refine ⟨{ r0 with st := .busy },by rw [k1]; rfl,?_⟩
        rw [if_pos rfl]
        have hback : (setL σ2 0 { ({ r0 with st := LSt.busy } : LRec) with st := .ready,pend := none }).ls = [r0] := by rw [setL_ls,k1,hr0]; rfl
        refine ⟨rfl,⟨hst _ σ2 _ k2 (Nat.le_refl _) (fun _ _ => rfl),hback,by rw [setL_clk]; omega⟩,⟨by rw [setL_clk]; exact k3,by rw [hback,h2],fun key a b c => by rw [setL_bs]; exact k4 key a b c⟩⟩)
    obtain ⟨rfl,g3,g4⟩ := g2
    exact ⟨τ',g1,g3,g4⟩
  obtain ⟨σ1,hc,⟨h1,h2,h3⟩,hK⟩ := iter_use ht (σ := { σ with ls := [r0] }) Y ⟨hst [] σ _ hI (Nat.le_refl _) (fun _ _ => rfl),rfl,Nat.le_refl _⟩ hn hlt
  refine ⟨_,σ1,hc,r0,by rw [h2]; rfl,by rw [hr0]; simp,?_⟩
  have hp0 : r0.pend = none := by rw [hr0]
  rw [hp0]
  exact hQ _ _ (hst _ σ1 _ h1 (Nat.le_refl _) (fun _ _ => rfl)) (by rw [setL_ls,h2]; rfl) (by rw [setL_clk]; exact h3)
def fanW (a n : Int) : Int := w (a + (if 0 > w (n - 1) then 0 else w (n - 1)))
def fansW (l : List Int) : Int := l.foldl fanW 0
def dropW (a n : Int) : Int := if n = 0 then w (a + 1) else a
def dropsW (l : List Int) : Int := l.foldl dropW 0
theorem fansW_app (l : List Int) (x : Int) : fansW (l ++ [x]) = fanW (fansW l) x := by unfold fansW; rw [List.foldl_append]; rfl
theorem dropsW_app (l : List Int) (x : Int) : dropsW (l ++ [x]) = dropW (dropsW l) x := by unfold dropsW; rw [List.foldl_append]; rfl
theorem Fans_ok {t : T} (ht : T.Ok t) : eP S 41 [.g (enc t)] = some (.a (.i .i64 (fansW (ofT t)))) := by
  refine x_fn (orcS _) (fc := F41) rfl rfl ?_
  have e4 : (enc t).map AV.p = [.p (.i .i64 t.k),.p (.i .i64 t.n),.p (.s t.s),.p (.l (t.l.map enc))] := by rw [enc_eq]; rfl
  have e4' := enc_eq t
  have c1 := uses_fn t (((St.empty.add 1 (.var ((enc t).map .p))).add 3 (.var [.p (.i .i64 0)])).put (3,1) (.var [.p (.i .i64 0)]))
  rw [e4] at c1
  rw [e4']
  simp only [F41,c1,spS,fxa,fxc,fxE,fxL,fxI,nxE,evO,evR,cellsT,ldCells,mkT,lenA,binPV,Env.init,resV,resT,frT,klT,ownT,intT,O.adds,ownA,rowsA,over,wrOk,keysT,keysA,ne_eq,if_true,if_false,ite_self,Nat.reduceLT,Nat.reduceSub,Nat.reduceBEq,Nat.reduceEqDiff,Nat.reduceAdd,Nat.reduceLeDiff,reduceCtorEq,Nat.reduceMul]
  refine rng_uses ht (kn := (1,2)) rfl (by rw [e4]; rfl) (by show 2 < 3; omega) rfl (fun pre τ => τ.bs (3,1) = some (.var [.p (.i .i64 (fansW pre))]) ∧ 1 < τ.clk) ?_ ?_ ?_ ?_
  · rintro pre σ σ' ⟨h1,h2⟩ h3 h4
    exact ⟨(h4 _ h2).trans h1,by omega⟩
  · exact ⟨rfl,by show 1 < 3; omega⟩
  · rintro pre x post τ r0 hL ⟨h1,h2⟩ hc hls
    simp only [setL_bs,setL_clk,h1,spS,fxa,fxc,fxE,fxL,fxI,nxE,evO,evR,cellsT,ldCells,mkT,lenA,binPV,Env.init,resV,resT,frT,klT,ownT,intT,O.adds,ownA,rowsA,over,wrOk,keysT,keysA,ne_eq,if_true,if_false,ite_self,Nat.reduceLT,Nat.reduceSub,Nat.reduceBEq,Nat.reduceEqDiff,Nat.reduceAdd,Nat.reduceLeDiff,reduceCtorEq,Nat.reduceMul]
    refine ⟨⟨by rw [fansW_app]; rfl,h2⟩,fun key hk _ _ => ?_⟩
    rw [if_neg]; rintro rfl; simp at hk
  · rintro σ' r ⟨h1,h2⟩ hls hc
    simp only [h1,spS,fxa,fxc,fxE,fxL,fxI,nxE,evO,evR,cellsT,ldCells,mkT,lenA,binPV,Env.init,resV,resT,frT,klT,ownT,intT,O.adds,ownA,rowsA,over,wrOk,keysT,keysA,ne_eq,if_true,if_false,ite_self,Nat.reduceLT,Nat.reduceSub,Nat.reduceBEq,Nat.reduceEqDiff,Nat.reduceAdd,Nat.reduceLeDiff,reduceCtorEq,Nat.reduceMul]
theorem Affine_ok {t : T} (ht : T.Ok t) : eP S 39 [.g (enc t)] = some (.a (.b (decide (fansW (ofT t) = 0)))) := by
  refine x_fn (orcS _) (fc := F39) rfl rfl ?_
  have c1 := Fans_ok ht
  rw [enc_eq] at c1 ⊢
  simp only [F39,c1,spS,fxa,fxc,fxE,fxL,fxI,nxE,evO,evR,cellsT,ldCells,mkT,lenA,binPV,Env.init,resV,resT,frT,klT,ownT,intT,O.adds,ownA,rowsA,over,wrOk,keysT,keysA,ne_eq,if_true,if_false,ite_self,Nat.reduceLT,Nat.reduceSub,Nat.reduceBEq,Nat.reduceEqDiff,Nat.reduceAdd,Nat.reduceLeDiff,reduceCtorEq,Nat.reduceMul]
theorem Drops_ok {t : T} (ht : T.Ok t) : eP S 42 [.g (enc t)] = some (.a (.i .i64 (dropsW (ofT t)))) := by
  refine x_fn (orcS _) (fc := F42) rfl rfl ?_
  have e4 : (enc t).map AV.p = [.p (.i .i64 t.k),.p (.i .i64 t.n),.p (.s t.s),.p (.l (t.l.map enc))] := by rw [enc_eq]; rfl
  have e4' := enc_eq t
  have c1 := uses_fn t (((St.empty.add 1 (.var ((enc t).map .p))).add 3 (.var [.p (.i .i64 0)])).put (3,1) (.var [.p (.i .i64 0)]))
  rw [e4] at c1
  rw [e4']
  simp only [F42,c1,spS,fxa,fxc,fxE,fxL,fxI,nxE,evO,evR,cellsT,ldCells,mkT,lenA,binPV,Env.init,resV,resT,frT,klT,ownT,intT,O.adds,ownA,rowsA,over,wrOk,keysT,keysA,ne_eq,if_true,if_false,ite_self,Nat.reduceLT,Nat.reduceSub,Nat.reduceBEq,Nat.reduceEqDiff,Nat.reduceAdd,Nat.reduceLeDiff,reduceCtorEq,Nat.reduceMul]
  refine rng_uses ht (kn := (1,2)) rfl (by rw [e4]; rfl) (by show 2 < 3; omega) rfl (fun pre τ => τ.bs (3,1) = some (.var [.p (.i .i64 (dropsW pre))]) ∧ 1 < τ.clk) ?_ ?_ ?_ ?_
  · rintro pre σ σ' ⟨h1,h2⟩ h3 h4
    exact ⟨(h4 _ h2).trans h1,by omega⟩
  · exact ⟨rfl,by show 1 < 3; omega⟩
  · rintro pre x post τ r0 hL ⟨h1,h2⟩ hc hls
    by_cases hx : x = 0
    · subst hx
      simp only [setL_bs,setL_clk,h1,spS,fxa,fxc,fxE,fxL,fxI,nxE,evO,evR,cellsT,ldCells,mkT,lenA,binPV,Env.init,resV,resT,frT,klT,ownT,intT,O.adds,ownA,rowsA,over,wrOk,keysT,keysA,ne_eq,if_true,if_false,ite_self,Nat.reduceLT,Nat.reduceSub,Nat.reduceBEq,Nat.reduceEqDiff,Nat.reduceAdd,Nat.reduceLeDiff,reduceCtorEq,Nat.reduceMul]
      refine ⟨⟨by rw [dropsW_app]; rfl,h2⟩,fun key hk _ _ => ?_⟩
      rw [if_neg]; rintro rfl; simp at hk
    · have hd : dropsW (pre ++ [x]) = dropsW pre := by rw [dropsW_app]; unfold dropW; rw [if_neg hx]
      simp only [setL_bs,setL_clk,h1,hx,hd,spS,fxa,fxc,fxE,fxL,fxI,nxE,evO,evR,cellsT,ldCells,mkT,lenA,binPV,Env.init,resV,resT,frT,klT,ownT,intT,O.adds,ownA,rowsA,over,wrOk,keysT,keysA,ne_eq,if_true,if_false,ite_self,Nat.reduceLT,Nat.reduceSub,Nat.reduceBEq,Nat.reduceEqDiff,Nat.reduceAdd,Nat.reduceLeDiff,reduceCtorEq,Nat.reduceMul]
      exact ⟨h2,fun _ _ _ _ => trivial⟩
  · rintro σ' r ⟨h1,h2⟩ hls hc
    simp only [h1,spS,fxa,fxc,fxE,fxL,fxI,nxE,evO,evR,cellsT,ldCells,mkT,lenA,binPV,Env.init,resV,resT,frT,klT,ownT,intT,O.adds,ownA,rowsA,over,wrOk,keysT,keysA,ne_eq,if_true,if_false,ite_self,Nat.reduceLT,Nat.reduceSub,Nat.reduceBEq,Nat.reduceEqDiff,Nat.reduceAdd,Nat.reduceLeDiff,reduceCtorEq,Nat.reduceMul]
theorem seq_ok {t : T} (ht : T.Ok t) (hlen : (ofT t).length ≤ 1099511627776) {σ : St} {kn : Key} (hn : σ.bs kn = some (.var ((enc t).map .p))) (hlt : kn.2 < σ.clk) (hls : σ.ls = []) :
    ∃ v σ',eS S (.f 74) [.a .nil,.a (.fn 75 [kn])] σ = some (.a v,σ') ∧ frA σ' v = some (.l ((ofT t).map encI)) := by
  obtain ⟨v,σ',h1,x,rfl,h2⟩ := x_fnS (K := fun v σ' => ∃ x,v = .a x ∧ frA σ' x = some (.l ((ofT t).map encI))) (fc := F74) (g := 74) (args := [.a .nil,.a (.fn 75 [kn])]) (σ := σ) rfl rfl (by
    have ne0 : ¬ kn = (2,σ.clk) := by rintro rfl; simp at hlt
    simp only [F74,spS,fxa,fxc,fxE,fxL,fxI,nxE,evO,evR,cellsT,ldCells,mkT,lenA,binPV,Env.init,resV,resT,frT,klT,ownT,intT,O.adds,ownA,rowsA,over,wrOk,keysT,keysA,ne_eq,if_true,if_false,ite_self,Nat.reduceLT,Nat.reduceSub,Nat.reduceBEq,Nat.reduceEqDiff,Nat.reduceAdd,Nat.reduceLeDiff,reduceCtorEq,Nat.reduceMul]
    refine rng_uses ht (kn := kn) rfl (by simp only [add_bs,ne0,if_false]; exact hn) (by simp only [add_clk]; omega) hls (fun pre τ => ∃ x,τ.bs (2,σ.clk) = some (.var [x]) ∧ σ.clk < τ.clk ∧ (pre = [] ∧ x = .nil ∨ ∃ q : Nat,x = .own (11,q) 0 pre.length ∧ τ.bs (11,q) = some (.row 1 3 (pre.map encI)) ∧ q < τ.clk)) ?_ ?_ ?_ ?_
    · rintro pre τ τ' ⟨x,h1,h2,h3⟩ h4 h5
      refine ⟨x,(h5 _ h2).trans h1,by omega,?_⟩
      rcases h3 with h3 | ⟨q,e1,e2,e3⟩
      · exact .inl h3
      · exact .inr ⟨q,e1,(h5 _ e3).trans e2,by omega⟩
    · exact ⟨.nil,by simp only [add_bs,if_true],by simp only [add_clk]; omega,.inl ⟨rfl,rfl⟩⟩
    · rintro pre x post τ r0 hL ⟨y,h1,h2,h3⟩ hc hls2
      simp only [add_clk] at hc
      have hpl : pre.length < (ofT t).length := by rw [hL]; simp only [List.length_append,List.length_cons]; omega
      have hbb : (pre.length + 1) * 8 ≤ 140737488355328 := by omega
      rcases h3 with ⟨rfl,rfl⟩ | ⟨q,rfl,e2,e3⟩
      · simp only [setL_bs,setL_clk,h1,Nat.zero_add,Nat.one_mul,Nat.reduceLeDiff,Nat.zero_lt_one,spS,fxa,fxc,fxE,fxL,fxI,nxE,evO,evR,cellsT,ldCells,mkT,lenA,binPV,Env.init,resV,resT,frT,klT,ownT,intT,O.adds,ownA,rowsA,over,wrOk,keysT,keysA,ne_eq,if_true,if_false,ite_self,Nat.reduceLT,Nat.reduceSub,Nat.reduceBEq,Nat.reduceEqDiff,Nat.reduceAdd,Nat.reduceLeDiff,reduceCtorEq,Nat.reduceMul]
        refine ⟨⟨_,rfl,by omega,.inr ⟨τ.clk + 1,rfl,by rw [if_pos rfl]; rfl,by omega⟩⟩,by omega,fun key hk h5 h6 => ?_⟩
        have a1 : ¬ key = (2,σ.clk) := by rintro rfl; simp only at h5; omega
        have a2 : ¬ key = (11,τ.clk + 1) := by rintro rfl; simp at hk
        have a3 : ¬ key = (10,τ.clk) := by rintro rfl; simp at hk
        simp only [a1,a2,a3,if_false]
      · have htk2 : List.take pre.length (pre.map encI) = pre.map encI := List.take_of_length_le (by simp)
        have nq : ¬ q = τ.clk ∧ ¬ q = τ.clk + 1 := by omega
        simp only [setL_bs,setL_clk,h1,e2,nq,htk2,hbb,List.length_map,Nat.le_refl,Nat.zero_add,Nat.one_mul,spS,fxa,fxc,fxE,fxL,fxI,nxE,evO,evR,cellsT,ldCells,mkT,lenA,binPV,Env.init,resV,resT,frT,klT,ownT,intT,O.adds,ownA,rowsA,over,wrOk,keysT,keysA,ne_eq,if_true,if_false,ite_self,Nat.reduceLT,Nat.reduceSub,Nat.reduceBEq,Nat.reduceEqDiff,Nat.reduceAdd,Nat.reduceLeDiff,reduceCtorEq,Nat.reduceMul]
        refine ⟨⟨_,rfl,by omega,.inr ⟨τ.clk + 1,by simp,by rw [if_pos rfl]; simp [encI],by omega⟩⟩,by omega,fun key hk h5 h6 => ?_⟩
        have a1 : ¬ key = (2,σ.clk) := by rintro rfl; simp only at h5; omega
        have a2 : ¬ key = (11,τ.clk + 1) := by rintro rfl; simp at hk
        have a3 : ¬ key = (10,τ.clk) := by rintro rfl; simp at hk
        have a4 : ¬ key = (11,q) := by rintro rfl; simp at hk
        simp only [a1,a2,a3,a4,if_false]
    · rintro σ' r ⟨y,h1,h2,h3⟩ hls2 hc
      rcases h3 with ⟨h0,rfl⟩ | ⟨q,rfl,e2,e3⟩
      · simp only [h1,spS,fxa,fxc,fxE,fxL,fxI,nxE,evO,evR,cellsT,ldCells,mkT,lenA,binPV,Env.init,resV,resT,frT,klT,ownT,intT,O.adds,ownA,rowsA,over,wrOk,keysT,keysA,ne_eq,if_true,if_false,ite_self,Nat.reduceLT,Nat.reduceSub,Nat.reduceBEq,Nat.reduceEqDiff,Nat.reduceAdd,Nat.reduceLeDiff,reduceCtorEq,Nat.reduceMul]
        exact ⟨_,rfl,by rw [h0]; rfl⟩
      · simp only [h1,spS,fxa,fxc,fxE,fxL,fxI,nxE,evO,evR,cellsT,ldCells,mkT,lenA,binPV,Env.init,resV,resT,frT,klT,ownT,intT,O.adds,ownA,rowsA,over,wrOk,keysT,keysA,ne_eq,if_true,if_false,ite_self,Nat.reduceLT,Nat.reduceSub,Nat.reduceBEq,Nat.reduceEqDiff,Nat.reduceAdd,Nat.reduceLeDiff,reduceCtorEq,Nat.reduceMul]
        refine ⟨_,rfl,?_⟩
        simp only [frA,e2,List.length_map,Nat.zero_add,Nat.le_refl,if_true,List.drop_zero]
        rw [List.take_of_length_le (by simp)])
  exact ⟨x,σ',h1,h2⟩
theorem Of_ok {t : T} (ht : T.Ok t) (hlen : (ofT t).length ≤ 1099511627776) : eP S 37 [.g (enc t)] = some (.a (.l ((ofT t).map encI))) := by
  refine x_fn (orcS _) (fc := F37) rfl rfl ?_
  have e4 : (enc t).map AV.p = [.p (.i .i64 t.k),.p (.i .i64 t.n),.p (.s t.s),.p (.l (t.l.map enc))] := by rw [enc_eq]; rfl
  have e4' := enc_eq t
  have c1 := uses_fn t (St.empty.add 1 (.var ((enc t).map .p)))
  obtain ⟨v,σ',c2,hv⟩ := seq_ok ht hlen (σ := (St.empty.add 1 (.var ((enc t).map .p))).add 1 (.var ((enc t).map .p))) (kn := (1,1)) (by rfl) (by show 1 < 2; omega) rfl
  have c3 : eS S (.f 66) [.a (.fn 75 [(1,1)])] ((St.empty.add 1 (.var ((enc t).map .p))).add 1 (.var ((enc t).map .p))) = some (.a v,σ') := by
    refine x_fnX (fc := F66) rfl rfl ?_
    simp only [F66,c2,frA_fn,spS,fxa,fxc,fxE,fxL,fxI,nxE,evO,evR,cellsT,ldCells,mkT,lenA,binPV,Env.init,resV,resT,frT,klT,ownT,intT,O.adds,ownA,rowsA,over,wrOk,keysT,keysA,ne_eq,if_true,if_false,ite_self,Nat.reduceLT,Nat.reduceSub,Nat.reduceBEq,Nat.reduceEqDiff,Nat.reduceAdd,Nat.reduceLeDiff,reduceCtorEq,Nat.reduceMul]
  rw [e4] at c1 c3
  rw [e4']
  simp only [F37,c1,c3,hv,frA_fn,spS,fxa,fxc,fxE,fxL,fxI,nxE,evO,evR,cellsT,ldCells,mkT,lenA,binPV,Env.init,resV,resT,frT,klT,ownT,intT,O.adds,ownA,rowsA,over,wrOk,keysT,keysA,ne_eq,if_true,if_false,ite_self,Nat.reduceLT,Nat.reduceSub,Nat.reduceBEq,Nat.reduceEqDiff,Nat.reduceAdd,Nat.reduceLeDiff,reduceCtorEq,Nat.reduceMul]
end Go.Proofs.Ytlgekplmbmkcmaa
end
section
set_option linter.unusedSimpArgs false
set_option linter.unusedVariables false
namespace Go.Proofs.Ytlgekplmbmkcmaa
open Go.Fx
mutual
def few : T → Int → Int → Int
  | .mk k n s l,left,deep => if left < 1 then -1 else if deep < 1 then -1 else fewL l (w (left - 1)) (w (deep - 1))
def fewL : List T → Int → Int → Int
  | [],left,_ => left
  | t :: r,left,deep => if few t left deep < 0 then -1 else fewL r (few t left deep) deep
end
theorem loop49 (t : T) (d : Int) (hl : t.l.length * 56 ≤ reachBytes) (Q : Ex → Env → St → Prop) :
    ∀ (rem : List T) (i : Nat) (a : Int) (e : Env) (σ : St),t.l.drop i = rem → i + rem.length = t.l.length → (∀ u,u ∈ rem → ∀ x y,eP S 49 [.g (enc u),.a (.i .i64 x),.a (.i .i64 y)] = some (.a (.i .i64 (few u x y)))) →
      e 1 = .a (.p (.i .i64 a)) → e 2 = .a (.p (.i .i64 d)) → e 3 = .a (.ptr (3,0) 0 0) → e 7 = .a (.p (.i .i64 (i : Nat))) → σ.bs (3,0) = some (.var [.p (.i .i64 t.k),.p (.i .i64 t.n),.p (.s t.s),.p (.l (t.l.map enc))]) →
      (∀ e',e' 1 = .a (.p (.i .i64 (fewL rem a (w (d - 1))))) → Q (.exit 0) e' σ) → (fewL rem a (w (d - 1)) = -1 → ∀ e',e' 6 = .a (.p (.i .i64 (-1))) → Q .ret e' σ) → wp S false (.loop F49b0) e σ Q := by
  intro rem
  induction rem with
  | nil =>
    intro i a e σ hd hi hu e1 e2 e3 e7 h3 hQ hR
    have hlt : ¬ ((i : Int) < (t.l.length : Int)) := by simp at hi; omega
    rw [x_loop,F49b0]
    simp only [e1,e2,e3,e7,h3,hlt,x_seq,x_reg,x_skip,x_exit,x_ret,x_block,x_if,wpC_t,wpC_f,wpI_cons,wpI_nil,wpX_some,evI_any,evI_rd,evI_ad,evI_g,evG_u,evG_b,evG_tt,evG_ff,evG_tf,evG_ft,evO,evR,ev_t,ev_c,ev_f,putD_some,putD_none,put_at,cellsT,ldCells,mkT,lenA,binPV,add_bs,add_clk,add_ls,put_bs,put_clk,put_ls,kill_bs,kill_clk,kill_ls,empty_clk,empty_bs,Env.init,seqQ_norm,seqQ_exit,seqQ_ret,blkQ_norm,blkQ_exit,blkQ_ret,loopQ_norm,loopQ_exit,loopQ_ret,retP_ret,retP_norm,retE_ret,retE_norm,retS_ret,retS_norm,wpO_some,frA_fn,klA_p,klA_nil,klA_own,resVs,resV,resT,Option.bind_some,Option.bind_none,Option.map_some,List.getD_cons_zero,List.getD_cons_succ,List.getD_nil,List.length_cons,List.length_nil,List.length_map,List.map_cons,List.map_nil,List.drop_zero,List.drop_succ_cons,List.take_succ_cons,List.take_zero,List.drop_nil,List.take_nil,Nat.reduceEqDiff,Nat.reduceAdd,Nat.reduceLeDiff,Nat.zero_add,Nat.add_zero,Prod.mk.injEq,and_true,true_and,and_false,false_and,and_self,if_true,if_false,ite_true,ite_false,Bool.not_true,Bool.not_false,Bool.not_eq_true',reduceCtorEq,decide_true,decide_false,frTs,frT,frL_p,spS,ofPT_a,ofPT_g,ofPT_t,flat_i,flat_b,flat_s,flat_l,flat_g,flatp_i,flatp_b,flatp_s,flatp_l,klTs,klT,Bool.and_false,Bool.false_and,frL,frA_p,frA_nil,frA_own,ownT,intT,Bool.or_true,Bool.true_or,Bool.false_eq_true,frL_p,klL_p,ownT_p,O.adds,List.all_cons,List.all_nil,List.any_cons,List.any_nil,ownA,evO.bslRows,List.replicate_succ,List.replicate_zero,List.set_cons_zero,rowsA,over,List.cons_append,List.nil_append,List.append_nil,fillA,Bool.and_self,Bool.and_true,Bool.true_and,Bool.or_self,Bool.or_false,Bool.false_or,Nat.reduceMul,Nat.one_mul,Nat.lt_add_one,klL,Nat.le_refl,ite_self,Nat.reduceBEq]
    exact hQ _ (by simp only [e1,fewL,x_seq,x_reg,x_skip,x_exit,x_ret,x_block,x_if,wpC_t,wpC_f,wpI_cons,wpI_nil,wpX_some,evI_any,evI_rd,evI_ad,evI_g,evG_u,evG_b,evG_tt,evG_ff,evG_tf,evG_ft,evO,evR,ev_t,ev_c,ev_f,putD_some,putD_none,put_at,cellsT,ldCells,mkT,lenA,binPV,add_bs,add_clk,add_ls,put_bs,put_clk,put_ls,kill_bs,kill_clk,kill_ls,empty_clk,empty_bs,Env.init,seqQ_norm,seqQ_exit,seqQ_ret,blkQ_norm,blkQ_exit,blkQ_ret,loopQ_norm,loopQ_exit,loopQ_ret,retP_ret,retP_norm,retE_ret,retE_norm,retS_ret,retS_norm,wpO_some,frA_fn,klA_p,klA_nil,klA_own,resVs,resV,resT,Option.bind_some,Option.bind_none,Option.map_some,List.getD_cons_zero,List.getD_cons_succ,List.getD_nil,List.length_cons,List.length_nil,List.length_map,List.map_cons,List.map_nil,List.drop_zero,List.drop_succ_cons,List.take_succ_cons,List.take_zero,List.drop_nil,List.take_nil,Nat.reduceEqDiff,Nat.reduceAdd,Nat.reduceLeDiff,Nat.zero_add,Nat.add_zero,Prod.mk.injEq,and_true,true_and,and_false,false_and,and_self,if_true,if_false,ite_true,ite_false,Bool.not_true,Bool.not_false,Bool.not_eq_true',reduceCtorEq,decide_true,decide_false,frTs,frT,frL_p,spS,ofPT_a,ofPT_g,ofPT_t,flat_i,flat_b,flat_s,flat_l,flat_g,flatp_i,flatp_b,flatp_s,flatp_l,klTs,klT,Bool.and_false,Bool.false_and,frL,frA_p,frA_nil,frA_own,ownT,intT,Bool.or_true,Bool.true_or,Bool.false_eq_true,frL_p,klL_p,ownT_p,O.adds,List.all_cons,List.all_nil,List.any_cons,List.any_nil,ownA,evO.bslRows,List.replicate_succ,List.replicate_zero,List.set_cons_zero,rowsA,over,List.cons_append,List.nil_append,List.append_nil,fillA,Bool.and_self,Bool.and_true,Bool.true_and,Bool.or_self,Bool.or_false,Bool.false_or,Nat.reduceMul,Nat.one_mul,Nat.lt_add_one,klL,Nat.le_refl,ite_self,Nat.reduceBEq])
  | cons x rem ih =>
    intro i a e σ hd hi hu e1 e2 e3 e7 h3 hQ hR
    simp only [List.length_cons] at hi
    have hlt : ((i : Int) < (t.l.length : Int)) := by omega
    have h0 : (0 : Int) ≤ (i : Int) := by omega
    have hx : t.l[i]? = some x := by rw [← List.head?_drop,hd]; rfl
    have hx' : (t.l.map enc)[i]? = some (enc x) := by simp [hx]
    have hux := hu x (by simp) a (w (d - 1))
    have hlb : t.l.length < 9223372036854775807 := by simp only [reachBytes] at hl; omega
    rw [x_loop,F49b0]
    simp only [e1,e2,e3,e7,h3,hlt,h0,Int.toNat_natCast,hx',enc_len,enc_all,enc_take,enc_takep,hux,x_seq,x_reg,x_skip,x_exit,x_ret,x_block,x_if,wpC_t,wpC_f,wpI_cons,wpI_nil,wpX_some,evI_any,evI_rd,evI_ad,evI_g,evG_u,evG_b,evG_tt,evG_ff,evG_tf,evG_ft,evO,evR,ev_t,ev_c,ev_f,putD_some,putD_none,put_at,cellsT,ldCells,mkT,lenA,binPV,add_bs,add_clk,add_ls,put_bs,put_clk,put_ls,kill_bs,kill_clk,kill_ls,empty_clk,empty_bs,Env.init,seqQ_norm,seqQ_exit,seqQ_ret,blkQ_norm,blkQ_exit,blkQ_ret,loopQ_norm,loopQ_exit,loopQ_ret,retP_ret,retP_norm,retE_ret,retE_norm,retS_ret,retS_norm,wpO_some,frA_fn,klA_p,klA_nil,klA_own,resVs,resV,resT,Option.bind_some,Option.bind_none,Option.map_some,List.getD_cons_zero,List.getD_cons_succ,List.getD_nil,List.length_cons,List.length_nil,List.length_map,List.map_cons,List.map_nil,List.drop_zero,List.drop_succ_cons,List.take_succ_cons,List.take_zero,List.drop_nil,List.take_nil,Nat.reduceEqDiff,Nat.reduceAdd,Nat.reduceLeDiff,Nat.zero_add,Nat.add_zero,Prod.mk.injEq,and_true,true_and,and_false,false_and,and_self,if_true,if_false,ite_true,ite_false,Bool.not_true,Bool.not_false,Bool.not_eq_true',reduceCtorEq,decide_true,decide_false,frTs,frT,frL_p,spS,ofPT_a,ofPT_g,ofPT_t,flat_i,flat_b,flat_s,flat_l,flat_g,flatp_i,flatp_b,flatp_s,flatp_l,klTs,klT,Bool.and_false,Bool.false_and,frL,frA_p,frA_nil,frA_own,ownT,intT,Bool.or_true,Bool.true_or,Bool.false_eq_true,frL_p,klL_p,ownT_p,O.adds,List.all_cons,List.all_nil,List.any_cons,List.any_nil,ownA,evO.bslRows,List.replicate_succ,List.replicate_zero,List.set_cons_zero,rowsA,over,List.cons_append,List.nil_append,List.append_nil,fillA,Bool.and_self,Bool.and_true,Bool.true_and,Bool.or_self,Bool.or_false,Bool.false_or,Nat.reduceMul,Nat.one_mul,Nat.lt_add_one,klL,Nat.le_refl,ite_self,Nat.reduceBEq]
    refine wpC_split (fun h1 => ?_) (fun h1 => ?_)
    · have h1' : few x a (w (d - 1)) < 0 := by simpa using h1
      simp only [h1,x_seq,x_reg,x_skip,x_exit,x_ret,x_block,x_if,wpC_t,wpC_f,wpI_cons,wpI_nil,wpX_some,evI_any,evI_rd,evI_ad,evI_g,evG_u,evG_b,evG_tt,evG_ff,evG_tf,evG_ft,evO,evR,ev_t,ev_c,ev_f,putD_some,putD_none,put_at,cellsT,ldCells,mkT,lenA,binPV,add_bs,add_clk,add_ls,put_bs,put_clk,put_ls,kill_bs,kill_clk,kill_ls,empty_clk,empty_bs,Env.init,seqQ_norm,seqQ_exit,seqQ_ret,blkQ_norm,blkQ_exit,blkQ_ret,loopQ_norm,loopQ_exit,loopQ_ret,retP_ret,retP_norm,retE_ret,retE_norm,retS_ret,retS_norm,wpO_some,frA_fn,klA_p,klA_nil,klA_own,resVs,resV,resT,Option.bind_some,Option.bind_none,Option.map_some,List.getD_cons_zero,List.getD_cons_succ,List.getD_nil,List.length_cons,List.length_nil,List.length_map,List.map_cons,List.map_nil,List.drop_zero,List.drop_succ_cons,List.take_succ_cons,List.take_zero,List.drop_nil,List.take_nil,Nat.reduceEqDiff,Nat.reduceAdd,Nat.reduceLeDiff,Nat.zero_add,Nat.add_zero,Prod.mk.injEq,and_true,true_and,and_false,false_and,and_self,if_true,if_false,ite_true,ite_false,Bool.not_true,Bool.not_false,Bool.not_eq_true',reduceCtorEq,decide_true,decide_false,frTs,frT,frL_p,spS,ofPT_a,ofPT_g,ofPT_t,flat_i,flat_b,flat_s,flat_l,flat_g,flatp_i,flatp_b,flatp_s,flatp_l,klTs,klT,Bool.and_false,Bool.false_and,frL,frA_p,frA_nil,frA_own,ownT,intT,Bool.or_true,Bool.true_or,Bool.false_eq_true,frL_p,klL_p,ownT_p,O.adds,List.all_cons,List.all_nil,List.any_cons,List.any_nil,ownA,evO.bslRows,List.replicate_succ,List.replicate_zero,List.set_cons_zero,rowsA,over,List.cons_append,List.nil_append,List.append_nil,fillA,Bool.and_self,Bool.and_true,Bool.true_and,Bool.or_self,Bool.or_false,Bool.false_or,Nat.reduceMul,Nat.one_mul,Nat.lt_add_one,klL,Nat.le_refl,ite_self,Nat.reduceBEq]
      exact hR (by simp only [fewL]; rw [if_pos h1']) _ (by simp only [x_seq,x_reg,x_skip,x_exit,x_ret,x_block,x_if,wpC_t,wpC_f,wpI_cons,wpI_nil,wpX_some,evI_any,evI_rd,evI_ad,evI_g,evG_u,evG_b,evG_tt,evG_ff,evG_tf,evG_ft,evO,evR,ev_t,ev_c,ev_f,putD_some,putD_none,put_at,cellsT,ldCells,mkT,lenA,binPV,add_bs,add_clk,add_ls,put_bs,put_clk,put_ls,kill_bs,kill_clk,kill_ls,empty_clk,empty_bs,Env.init,seqQ_norm,seqQ_exit,seqQ_ret,blkQ_norm,blkQ_exit,blkQ_ret,loopQ_norm,loopQ_exit,loopQ_ret,retP_ret,retP_norm,retE_ret,retE_norm,retS_ret,retS_norm,wpO_some,frA_fn,klA_p,klA_nil,klA_own,resVs,resV,resT,Option.bind_some,Option.bind_none,Option.map_some,List.getD_cons_zero,List.getD_cons_succ,List.getD_nil,List.length_cons,List.length_nil,List.length_map,List.map_cons,List.map_nil,List.drop_zero,List.drop_succ_cons,List.take_succ_cons,List.take_zero,List.drop_nil,List.take_nil,Nat.reduceEqDiff,Nat.reduceAdd,Nat.reduceLeDiff,Nat.zero_add,Nat.add_zero,Prod.mk.injEq,and_true,true_and,and_false,false_and,and_self,if_true,if_false,ite_true,ite_false,Bool.not_true,Bool.not_false,Bool.not_eq_true',reduceCtorEq,decide_true,decide_false,frTs,frT,frL_p,spS,ofPT_a,ofPT_g,ofPT_t,flat_i,flat_b,flat_s,flat_l,flat_g,flatp_i,flatp_b,flatp_s,flatp_l,klTs,klT,Bool.and_false,Bool.false_and,frL,frA_p,frA_nil,frA_own,ownT,intT,Bool.or_true,Bool.true_or,Bool.false_eq_true,frL_p,klL_p,ownT_p,O.adds,List.all_cons,List.all_nil,List.any_cons,List.any_nil,ownA,evO.bslRows,List.replicate_succ,List.replicate_zero,List.set_cons_zero,rowsA,over,List.cons_append,List.nil_append,List.append_nil,fillA,Bool.and_self,Bool.and_true,Bool.true_and,Bool.or_self,Bool.or_false,Bool.false_or,Nat.reduceMul,Nat.one_mul,Nat.lt_add_one,klL,Nat.le_refl,ite_self,Nat.reduceBEq])
    · have h1' : ¬ few x a (w (d - 1)) < 0 := by simpa using h1
      simp only [e7,h1,x_seq,x_reg,x_skip,x_exit,x_ret,x_block,x_if,wpC_t,wpC_f,wpI_cons,wpI_nil,wpX_some,evI_any,evI_rd,evI_ad,evI_g,evG_u,evG_b,evG_tt,evG_ff,evG_tf,evG_ft,evO,evR,ev_t,ev_c,ev_f,putD_some,putD_none,put_at,cellsT,ldCells,mkT,lenA,binPV,add_bs,add_clk,add_ls,put_bs,put_clk,put_ls,kill_bs,kill_clk,kill_ls,empty_clk,empty_bs,Env.init,seqQ_norm,seqQ_exit,seqQ_ret,blkQ_norm,blkQ_exit,blkQ_ret,loopQ_norm,loopQ_exit,loopQ_ret,retP_ret,retP_norm,retE_ret,retE_norm,retS_ret,retS_norm,wpO_some,frA_fn,klA_p,klA_nil,klA_own,resVs,resV,resT,Option.bind_some,Option.bind_none,Option.map_some,List.getD_cons_zero,List.getD_cons_succ,List.getD_nil,List.length_cons,List.length_nil,List.length_map,List.map_cons,List.map_nil,List.drop_zero,List.drop_succ_cons,List.take_succ_cons,List.take_zero,List.drop_nil,List.take_nil,Nat.reduceEqDiff,Nat.reduceAdd,Nat.reduceLeDiff,Nat.zero_add,Nat.add_zero,Prod.mk.injEq,and_true,true_and,and_false,false_and,and_self,if_true,if_false,ite_true,ite_false,Bool.not_true,Bool.not_false,Bool.not_eq_true',reduceCtorEq,decide_true,decide_false,frTs,frT,frL_p,spS,ofPT_a,ofPT_g,ofPT_t,flat_i,flat_b,flat_s,flat_l,flat_g,flatp_i,flatp_b,flatp_s,flatp_l,klTs,klT,Bool.and_false,Bool.false_and,frL,frA_p,frA_nil,frA_own,ownT,intT,Bool.or_true,Bool.true_or,Bool.false_eq_true,frL_p,klL_p,ownT_p,O.adds,List.all_cons,List.all_nil,List.any_cons,List.any_nil,ownA,evO.bslRows,List.replicate_succ,List.replicate_zero,List.set_cons_zero,rowsA,over,List.cons_append,List.nil_append,List.append_nil,fillA,Bool.and_self,Bool.and_true,Bool.true_and,Bool.or_self,Bool.or_false,Bool.false_or,Nat.reduceMul,Nat.one_mul,Nat.lt_add_one,klL,Nat.le_refl,ite_self,Nat.reduceBEq]
      refine ih (i + 1) (few x a (w (d - 1))) _ σ (by rw [← List.drop_drop,hd]; rfl) (by omega) (fun u hu' => hu u (by simp [hu'])) ?_ ?_ ?_ ?_ h3 ?_ ?_
      all_goals try simp only [e1,e2,e3,e7,x_seq,x_reg,x_skip,x_exit,x_ret,x_block,x_if,wpC_t,wpC_f,wpI_cons,wpI_nil,wpX_some,evI_any,evI_rd,evI_ad,evI_g,evG_u,evG_b,evG_tt,evG_ff,evG_tf,evG_ft,evO,evR,ev_t,ev_c,ev_f,putD_some,putD_none,put_at,cellsT,ldCells,mkT,lenA,binPV,add_bs,add_clk,add_ls,put_bs,put_clk,put_ls,kill_bs,kill_clk,kill_ls,empty_clk,empty_bs,Env.init,seqQ_norm,seqQ_exit,seqQ_ret,blkQ_norm,blkQ_exit,blkQ_ret,loopQ_norm,loopQ_exit,loopQ_ret,retP_ret,retP_norm,retE_ret,retE_norm,retS_ret,retS_norm,wpO_some,frA_fn,klA_p,klA_nil,klA_own,resVs,resV,resT,Option.bind_some,Option.bind_none,Option.map_some,List.getD_cons_zero,List.getD_cons_succ,List.getD_nil,List.length_cons,List.length_nil,List.length_map,List.map_cons,List.map_nil,List.drop_zero,List.drop_succ_cons,List.take_succ_cons,List.take_zero,List.drop_nil,List.take_nil,Nat.reduceEqDiff,Nat.reduceAdd,Nat.reduceLeDiff,Nat.zero_add,Nat.add_zero,Prod.mk.injEq,and_true,true_and,and_false,false_and,and_self,if_true,if_false,ite_true,ite_false,Bool.not_true,Bool.not_false,Bool.not_eq_true',reduceCtorEq,decide_true,decide_false,frTs,frT,frL_p,spS,ofPT_a,ofPT_g,ofPT_t,flat_i,flat_b,flat_s,flat_l,flat_g,flatp_i,flatp_b,flatp_s,flatp_l,klTs,klT,Bool.and_false,Bool.false_and,frL,frA_p,frA_nil,frA_own,ownT,intT,Bool.or_true,Bool.true_or,Bool.false_eq_true,frL_p,klL_p,ownT_p,O.adds,List.all_cons,List.all_nil,List.any_cons,List.any_nil,ownA,evO.bslRows,List.replicate_succ,List.replicate_zero,List.set_cons_zero,rowsA,over,List.cons_append,List.nil_append,List.append_nil,fillA,Bool.and_self,Bool.and_true,Bool.true_and,Bool.or_self,Bool.or_false,Bool.false_or,Nat.reduceMul,Nat.one_mul,Nat.lt_add_one,klL,Nat.le_refl,ite_self,Nat.reduceBEq]
      · rw [wrap_succ i (by omega)]
      · intro e' he'; exact hQ e' (by rw [he']; simp only [fewL]; rw [if_neg h1'])
      · intro hm e' he'; exact hR (by simp only [fewL]; rw [if_neg h1']; exact hm) e' he'
theorem few_ok {t : T} (ht : T.Ok t) : ∀ x y : Int,eP S 49 [.g (enc t),.a (.i .i64 x),.a (.i .i64 y)] = some (.a (.i .i64 (few t x y))) := by
  induction ht with
  | mk k n s l hk hn hs hl h ih =>
    intro x y
    have e0 : few (.mk k n s l) x y = if x < 1 then -1 else if y < 1 then -1 else fewL l (w (x - 1)) (w (y - 1)) := rfl
    rw [e0]
    refine x_fn (orcS 49) (fc := F49) rfl rfl ?_
    simp only [F49,enc,encL_map,x_seq,x_reg,x_skip,x_exit,x_ret,x_block,x_if,wpC_t,wpC_f,wpI_cons,wpI_nil,wpX_some,evI_any,evI_rd,evI_ad,evI_g,evG_u,evG_b,evG_tt,evG_ff,evG_tf,evG_ft,evO,evR,ev_t,ev_c,ev_f,putD_some,putD_none,put_at,cellsT,ldCells,mkT,lenA,binPV,add_bs,add_clk,add_ls,put_bs,put_clk,put_ls,kill_bs,kill_clk,kill_ls,empty_clk,empty_bs,Env.init,seqQ_norm,seqQ_exit,seqQ_ret,blkQ_norm,blkQ_exit,blkQ_ret,loopQ_norm,loopQ_exit,loopQ_ret,retP_ret,retP_norm,retE_ret,retE_norm,retS_ret,retS_norm,wpO_some,frA_fn,klA_p,klA_nil,klA_own,resVs,resV,resT,Option.bind_some,Option.bind_none,Option.map_some,List.getD_cons_zero,List.getD_cons_succ,List.getD_nil,List.length_cons,List.length_nil,List.length_map,List.map_cons,List.map_nil,List.drop_zero,List.drop_succ_cons,List.take_succ_cons,List.take_zero,List.drop_nil,List.take_nil,Nat.reduceEqDiff,Nat.reduceAdd,Nat.reduceLeDiff,Nat.zero_add,Nat.add_zero,Prod.mk.injEq,and_true,true_and,and_false,false_and,and_self,if_true,if_false,ite_true,ite_false,Bool.not_true,Bool.not_false,Bool.not_eq_true',reduceCtorEq,decide_true,decide_false,frTs,frT,frL_p,spS,ofPT_a,ofPT_g,ofPT_t,flat_i,flat_b,flat_s,flat_l,flat_g,flatp_i,flatp_b,flatp_s,flatp_l,klTs,klT,Bool.and_false,Bool.false_and,frL,frA_p,frA_nil,frA_own,ownT,intT,Bool.or_true,Bool.true_or,Bool.false_eq_true,frL_p,klL_p,ownT_p,O.adds,List.all_cons,List.all_nil,List.any_cons,List.any_nil,ownA,evO.bslRows,List.replicate_succ,List.replicate_zero,List.set_cons_zero,rowsA,over,List.cons_append,List.nil_append,List.append_nil,fillA,Bool.and_self,Bool.and_true,Bool.true_and,Bool.or_self,Bool.or_false,Bool.false_or,Nat.reduceMul,Nat.one_mul,Nat.lt_add_one,klL,Nat.le_refl,ite_self,Nat.reduceBEq]
    refine wpX_bsplit (fun h1 => ?_) (fun h1 => ?_)
    · have h1' : ¬ x < 1 := by simpa using h1
      rw [if_neg h1']
      simp only [h1,x_seq,x_reg,x_skip,x_exit,x_ret,x_block,x_if,wpC_t,wpC_f,wpI_cons,wpI_nil,wpX_some,evI_any,evI_rd,evI_ad,evI_g,evG_u,evG_b,evG_tt,evG_ff,evG_tf,evG_ft,evO,evR,ev_t,ev_c,ev_f,putD_some,putD_none,put_at,cellsT,ldCells,mkT,lenA,binPV,add_bs,add_clk,add_ls,put_bs,put_clk,put_ls,kill_bs,kill_clk,kill_ls,empty_clk,empty_bs,Env.init,seqQ_norm,seqQ_exit,seqQ_ret,blkQ_norm,blkQ_exit,blkQ_ret,loopQ_norm,loopQ_exit,loopQ_ret,retP_ret,retP_norm,retE_ret,retE_norm,retS_ret,retS_norm,wpO_some,frA_fn,klA_p,klA_nil,klA_own,resVs,resV,resT,Option.bind_some,Option.bind_none,Option.map_some,List.getD_cons_zero,List.getD_cons_succ,List.getD_nil,List.length_cons,List.length_nil,List.length_map,List.map_cons,List.map_nil,List.drop_zero,List.drop_succ_cons,List.take_succ_cons,List.take_zero,List.drop_nil,List.take_nil,Nat.reduceEqDiff,Nat.reduceAdd,Nat.reduceLeDiff,Nat.zero_add,Nat.add_zero,Prod.mk.injEq,and_true,true_and,and_false,false_and,and_self,if_true,if_false,ite_true,ite_false,Bool.not_true,Bool.not_false,Bool.not_eq_true',reduceCtorEq,decide_true,decide_false,frTs,frT,frL_p,spS,ofPT_a,ofPT_g,ofPT_t,flat_i,flat_b,flat_s,flat_l,flat_g,flatp_i,flatp_b,flatp_s,flatp_l,klTs,klT,Bool.and_false,Bool.false_and,frL,frA_p,frA_nil,frA_own,ownT,intT,Bool.or_true,Bool.true_or,Bool.false_eq_true,frL_p,klL_p,ownT_p,O.adds,List.all_cons,List.all_nil,List.any_cons,List.any_nil,ownA,evO.bslRows,List.replicate_succ,List.replicate_zero,List.set_cons_zero,rowsA,over,List.cons_append,List.nil_append,List.append_nil,fillA,Bool.and_self,Bool.and_true,Bool.true_and,Bool.or_self,Bool.or_false,Bool.false_or,Nat.reduceMul,Nat.one_mul,Nat.lt_add_one,klL,Nat.le_refl,ite_self,Nat.reduceBEq]
      refine wpC_split (fun h2 => ?_) (fun h2 => ?_)
      · have h2' : y < 1 := by simpa using h2
        simp only [h1,h2,if_pos h2',x_seq,x_reg,x_skip,x_exit,x_ret,x_block,x_if,wpC_t,wpC_f,wpI_cons,wpI_nil,wpX_some,evI_any,evI_rd,evI_ad,evI_g,evG_u,evG_b,evG_tt,evG_ff,evG_tf,evG_ft,evO,evR,ev_t,ev_c,ev_f,putD_some,putD_none,put_at,cellsT,ldCells,mkT,lenA,binPV,add_bs,add_clk,add_ls,put_bs,put_clk,put_ls,kill_bs,kill_clk,kill_ls,empty_clk,empty_bs,Env.init,seqQ_norm,seqQ_exit,seqQ_ret,blkQ_norm,blkQ_exit,blkQ_ret,loopQ_norm,loopQ_exit,loopQ_ret,retP_ret,retP_norm,retE_ret,retE_norm,retS_ret,retS_norm,wpO_some,frA_fn,klA_p,klA_nil,klA_own,resVs,resV,resT,Option.bind_some,Option.bind_none,Option.map_some,List.getD_cons_zero,List.getD_cons_succ,List.getD_nil,List.length_cons,List.length_nil,List.length_map,List.map_cons,List.map_nil,List.drop_zero,List.drop_succ_cons,List.take_succ_cons,List.take_zero,List.drop_nil,List.take_nil,Nat.reduceEqDiff,Nat.reduceAdd,Nat.reduceLeDiff,Nat.zero_add,Nat.add_zero,Prod.mk.injEq,and_true,true_and,and_false,false_and,and_self,if_true,if_false,ite_true,ite_false,Bool.not_true,Bool.not_false,Bool.not_eq_true',reduceCtorEq,decide_true,decide_false,frTs,frT,frL_p,spS,ofPT_a,ofPT_g,ofPT_t,flat_i,flat_b,flat_s,flat_l,flat_g,flatp_i,flatp_b,flatp_s,flatp_l,klTs,klT,Bool.and_false,Bool.false_and,frL,frA_p,frA_nil,frA_own,ownT,intT,Bool.or_true,Bool.true_or,Bool.false_eq_true,frL_p,klL_p,ownT_p,O.adds,List.all_cons,List.all_nil,List.any_cons,List.any_nil,ownA,evO.bslRows,List.replicate_succ,List.replicate_zero,List.set_cons_zero,rowsA,over,List.cons_append,List.nil_append,List.append_nil,fillA,Bool.and_self,Bool.and_true,Bool.true_and,Bool.or_self,Bool.or_false,Bool.false_or,Nat.reduceMul,Nat.one_mul,Nat.lt_add_one,klL,Nat.le_refl,ite_self,Nat.reduceBEq]
      · have h2' : ¬ y < 1 := by simpa using h2
        rw [if_neg h2']
        simp only [h1,h2,x_seq,x_reg,x_skip,x_exit,x_ret,x_block,x_if,wpC_t,wpC_f,wpI_cons,wpI_nil,wpX_some,evI_any,evI_rd,evI_ad,evI_g,evG_u,evG_b,evG_tt,evG_ff,evG_tf,evG_ft,evO,evR,ev_t,ev_c,ev_f,putD_some,putD_none,put_at,cellsT,ldCells,mkT,lenA,binPV,add_bs,add_clk,add_ls,put_bs,put_clk,put_ls,kill_bs,kill_clk,kill_ls,empty_clk,empty_bs,Env.init,seqQ_norm,seqQ_exit,seqQ_ret,blkQ_norm,blkQ_exit,blkQ_ret,loopQ_norm,loopQ_exit,loopQ_ret,retP_ret,retP_norm,retE_ret,retE_norm,retS_ret,retS_norm,wpO_some,frA_fn,klA_p,klA_nil,klA_own,resVs,resV,resT,Option.bind_some,Option.bind_none,Option.map_some,List.getD_cons_zero,List.getD_cons_succ,List.getD_nil,List.length_cons,List.length_nil,List.length_map,List.map_cons,List.map_nil,List.drop_zero,List.drop_succ_cons,List.take_succ_cons,List.take_zero,List.drop_nil,List.take_nil,Nat.reduceEqDiff,Nat.reduceAdd,Nat.reduceLeDiff,Nat.zero_add,Nat.add_zero,Prod.mk.injEq,and_true,true_and,and_false,false_and,and_self,if_true,if_false,ite_true,ite_false,Bool.not_true,Bool.not_false,Bool.not_eq_true',reduceCtorEq,decide_true,decide_false,frTs,frT,frL_p,spS,ofPT_a,ofPT_g,ofPT_t,flat_i,flat_b,flat_s,flat_l,flat_g,flatp_i,flatp_b,flatp_s,flatp_l,klTs,klT,Bool.and_false,Bool.false_and,frL,frA_p,frA_nil,frA_own,ownT,intT,Bool.or_true,Bool.true_or,Bool.false_eq_true,frL_p,klL_p,ownT_p,O.adds,List.all_cons,List.all_nil,List.any_cons,List.any_nil,ownA,evO.bslRows,List.replicate_succ,List.replicate_zero,List.set_cons_zero,rowsA,over,List.cons_append,List.nil_append,List.append_nil,fillA,Bool.and_self,Bool.and_true,Bool.true_and,Bool.or_self,Bool.or_false,Bool.false_or,Nat.reduceMul,Nat.one_mul,Nat.lt_add_one,klL,Nat.le_refl,ite_self,Nat.reduceBEq]
        refine loop49 (.mk k n s l) y hl _ l 0 (w (x - 1)) _ _ rfl (by simp [T.l]) (fun u hu x y => ih u hu x y) ?_ ?_ ?_ ?_ ?_ ?_ ?_
        all_goals simp only [T.k,T.n,T.s,T.l,x_seq,x_reg,x_skip,x_exit,x_ret,x_block,x_if,wpC_t,wpC_f,wpI_cons,wpI_nil,wpX_some,evI_any,evI_rd,evI_ad,evI_g,evG_u,evG_b,evG_tt,evG_ff,evG_tf,evG_ft,evO,evR,ev_t,ev_c,ev_f,putD_some,putD_none,put_at,cellsT,ldCells,mkT,lenA,binPV,add_bs,add_clk,add_ls,put_bs,put_clk,put_ls,kill_bs,kill_clk,kill_ls,empty_clk,empty_bs,Env.init,seqQ_norm,seqQ_exit,seqQ_ret,blkQ_norm,blkQ_exit,blkQ_ret,loopQ_norm,loopQ_exit,loopQ_ret,retP_ret,retP_norm,retE_ret,retE_norm,retS_ret,retS_norm,wpO_some,frA_fn,klA_p,klA_nil,klA_own,resVs,resV,resT,Option.bind_some,Option.bind_none,Option.map_some,List.getD_cons_zero,List.getD_cons_succ,List.getD_nil,List.length_cons,List.length_nil,List.length_map,List.map_cons,List.map_nil,List.drop_zero,List.drop_succ_cons,List.take_succ_cons,List.take_zero,List.drop_nil,List.take_nil,Nat.reduceEqDiff,Nat.reduceAdd,Nat.reduceLeDiff,Nat.zero_add,Nat.add_zero,Prod.mk.injEq,and_true,true_and,and_false,false_and,and_self,if_true,if_false,ite_true,ite_false,Bool.not_true,Bool.not_false,Bool.not_eq_true',reduceCtorEq,decide_true,decide_false,frTs,frT,frL_p,spS,ofPT_a,ofPT_g,ofPT_t,flat_i,flat_b,flat_s,flat_l,flat_g,flatp_i,flatp_b,flatp_s,flatp_l,klTs,klT,Bool.and_false,Bool.false_and,frL,frA_p,frA_nil,frA_own,ownT,intT,Bool.or_true,Bool.true_or,Bool.false_eq_true,frL_p,klL_p,ownT_p,O.adds,List.all_cons,List.all_nil,List.any_cons,List.any_nil,ownA,evO.bslRows,List.replicate_succ,List.replicate_zero,List.set_cons_zero,rowsA,over,List.cons_append,List.nil_append,List.append_nil,fillA,Bool.and_self,Bool.and_true,Bool.true_and,Bool.or_self,Bool.or_false,Bool.false_or,Nat.reduceMul,Nat.one_mul,Nat.lt_add_one,klL,Nat.le_refl,ite_self,Nat.reduceBEq]
        · rfl
        · intro e' he'; simp only [he',x_seq,x_reg,x_skip,x_exit,x_ret,x_block,x_if,wpC_t,wpC_f,wpI_cons,wpI_nil,wpX_some,evI_any,evI_rd,evI_ad,evI_g,evG_u,evG_b,evG_tt,evG_ff,evG_tf,evG_ft,evO,evR,ev_t,ev_c,ev_f,putD_some,putD_none,put_at,cellsT,ldCells,mkT,lenA,binPV,add_bs,add_clk,add_ls,put_bs,put_clk,put_ls,kill_bs,kill_clk,kill_ls,empty_clk,empty_bs,Env.init,seqQ_norm,seqQ_exit,seqQ_ret,blkQ_norm,blkQ_exit,blkQ_ret,loopQ_norm,loopQ_exit,loopQ_ret,retP_ret,retP_norm,retE_ret,retE_norm,retS_ret,retS_norm,wpO_some,frA_fn,klA_p,klA_nil,klA_own,resVs,resV,resT,Option.bind_some,Option.bind_none,Option.map_some,List.getD_cons_zero,List.getD_cons_succ,List.getD_nil,List.length_cons,List.length_nil,List.length_map,List.map_cons,List.map_nil,List.drop_zero,List.drop_succ_cons,List.take_succ_cons,List.take_zero,List.drop_nil,List.take_nil,Nat.reduceEqDiff,Nat.reduceAdd,Nat.reduceLeDiff,Nat.zero_add,Nat.add_zero,Prod.mk.injEq,and_true,true_and,and_false,false_and,and_self,if_true,if_false,ite_true,ite_false,Bool.not_true,Bool.not_false,Bool.not_eq_true',reduceCtorEq,decide_true,decide_false,frTs,frT,frL_p,spS,ofPT_a,ofPT_g,ofPT_t,flat_i,flat_b,flat_s,flat_l,flat_g,flatp_i,flatp_b,flatp_s,flatp_l,klTs,klT,Bool.and_false,Bool.false_and,frL,frA_p,frA_nil,frA_own,ownT,intT,Bool.or_true,Bool.true_or,Bool.false_eq_true,frL_p,klL_p,ownT_p,O.adds,List.all_cons,List.all_nil,List.any_cons,List.any_nil,ownA,evO.bslRows,List.replicate_succ,List.replicate_zero,List.set_cons_zero,rowsA,over,List.cons_append,List.nil_append,List.append_nil,fillA,Bool.and_self,Bool.and_true,Bool.true_and,Bool.or_self,Bool.or_false,Bool.false_or,Nat.reduceMul,Nat.one_mul,Nat.lt_add_one,klL,Nat.le_refl,ite_self,Nat.reduceBEq]
        · intro hm e' he'; simp only [he',hm,x_seq,x_reg,x_skip,x_exit,x_ret,x_block,x_if,wpC_t,wpC_f,wpI_cons,wpI_nil,wpX_some,evI_any,evI_rd,evI_ad,evI_g,evG_u,evG_b,evG_tt,evG_ff,evG_tf,evG_ft,evO,evR,ev_t,ev_c,ev_f,putD_some,putD_none,put_at,cellsT,ldCells,mkT,lenA,binPV,add_bs,add_clk,add_ls,put_bs,put_clk,put_ls,kill_bs,kill_clk,kill_ls,empty_clk,empty_bs,Env.init,seqQ_norm,seqQ_exit,seqQ_ret,blkQ_norm,blkQ_exit,blkQ_ret,loopQ_norm,loopQ_exit,loopQ_ret,retP_ret,retP_norm,retE_ret,retE_norm,retS_ret,retS_norm,wpO_some,frA_fn,klA_p,klA_nil,klA_own,resVs,resV,resT,Option.bind_some,Option.bind_none,Option.map_some,List.getD_cons_zero,List.getD_cons_succ,List.getD_nil,List.length_cons,List.length_nil,List.length_map,List.map_cons,List.map_nil,List.drop_zero,List.drop_succ_cons,List.take_succ_cons,List.take_zero,List.drop_nil,List.take_nil,Nat.reduceEqDiff,Nat.reduceAdd,Nat.reduceLeDiff,Nat.zero_add,Nat.add_zero,Prod.mk.injEq,and_true,true_and,and_false,false_and,and_self,if_true,if_false,ite_true,ite_false,Bool.not_true,Bool.not_false,Bool.not_eq_true',reduceCtorEq,decide_true,decide_false,frTs,frT,frL_p,spS,ofPT_a,ofPT_g,ofPT_t,flat_i,flat_b,flat_s,flat_l,flat_g,flatp_i,flatp_b,flatp_s,flatp_l,klTs,klT,Bool.and_false,Bool.false_and,frL,frA_p,frA_nil,frA_own,ownT,intT,Bool.or_true,Bool.true_or,Bool.false_eq_true,frL_p,klL_p,ownT_p,O.adds,List.all_cons,List.all_nil,List.any_cons,List.any_nil,ownA,evO.bslRows,List.replicate_succ,List.replicate_zero,List.set_cons_zero,rowsA,over,List.cons_append,List.nil_append,List.append_nil,fillA,Bool.and_self,Bool.and_true,Bool.true_and,Bool.or_self,Bool.or_false,Bool.false_or,Nat.reduceMul,Nat.one_mul,Nat.lt_add_one,klL,Nat.le_refl,ite_self,Nat.reduceBEq]
    · have h1' : x < 1 := by simpa using h1
      rw [if_pos h1']
      simp only [h1,x_seq,x_reg,x_skip,x_exit,x_ret,x_block,x_if,wpC_t,wpC_f,wpI_cons,wpI_nil,wpX_some,evI_any,evI_rd,evI_ad,evI_g,evG_u,evG_b,evG_tt,evG_ff,evG_tf,evG_ft,evO,evR,ev_t,ev_c,ev_f,putD_some,putD_none,put_at,cellsT,ldCells,mkT,lenA,binPV,add_bs,add_clk,add_ls,put_bs,put_clk,put_ls,kill_bs,kill_clk,kill_ls,empty_clk,empty_bs,Env.init,seqQ_norm,seqQ_exit,seqQ_ret,blkQ_norm,blkQ_exit,blkQ_ret,loopQ_norm,loopQ_exit,loopQ_ret,retP_ret,retP_norm,retE_ret,retE_norm,retS_ret,retS_norm,wpO_some,frA_fn,klA_p,klA_nil,klA_own,resVs,resV,resT,Option.bind_some,Option.bind_none,Option.map_some,List.getD_cons_zero,List.getD_cons_succ,List.getD_nil,List.length_cons,List.length_nil,List.length_map,List.map_cons,List.map_nil,List.drop_zero,List.drop_succ_cons,List.take_succ_cons,List.take_zero,List.drop_nil,List.take_nil,Nat.reduceEqDiff,Nat.reduceAdd,Nat.reduceLeDiff,Nat.zero_add,Nat.add_zero,Prod.mk.injEq,and_true,true_and,and_false,false_and,and_self,if_true,if_false,ite_true,ite_false,Bool.not_true,Bool.not_false,Bool.not_eq_true',reduceCtorEq,decide_true,decide_false,frTs,frT,frL_p,spS,ofPT_a,ofPT_g,ofPT_t,flat_i,flat_b,flat_s,flat_l,flat_g,flatp_i,flatp_b,flatp_s,flatp_l,klTs,klT,Bool.and_false,Bool.false_and,frL,frA_p,frA_nil,frA_own,ownT,intT,Bool.or_true,Bool.true_or,Bool.false_eq_true,frL_p,klL_p,ownT_p,O.adds,List.all_cons,List.all_nil,List.any_cons,List.any_nil,ownA,evO.bslRows,List.replicate_succ,List.replicate_zero,List.set_cons_zero,rowsA,over,List.cons_append,List.nil_append,List.append_nil,fillA,Bool.and_self,Bool.and_true,Bool.true_and,Bool.or_self,Bool.or_false,Bool.false_or,Nat.reduceMul,Nat.one_mul,Nat.lt_add_one,klL,Nat.le_refl,ite_self,Nat.reduceBEq]
def small (t : T) (n : Int) : Bool := decide (few t n 600 ≥ 0)
theorem small_ok {t : T} (ht : T.Ok t) (n : Int) : eP S 15 [.g (enc t),.a (.i .i64 n)] = some (.a (.b (small t n))) := by
  have h := few_ok ht n 600
  refine x_fn (orcS 15) (fc := F15) rfl rfl ?_
  simp only [F15,enc_len,enc_takep,enc_flat,h,small,x_seq,x_reg,x_skip,x_exit,x_ret,x_block,x_if,wpC_t,wpC_f,wpI_cons,wpI_nil,wpX_some,evI_any,evI_rd,evI_ad,evI_g,evG_u,evG_b,evG_tt,evG_ff,evG_tf,evG_ft,evO,evR,ev_t,ev_c,ev_f,putD_some,putD_none,put_at,cellsT,ldCells,mkT,lenA,binPV,add_bs,add_clk,add_ls,put_bs,put_clk,put_ls,kill_bs,kill_clk,kill_ls,empty_clk,empty_bs,Env.init,seqQ_norm,seqQ_exit,seqQ_ret,blkQ_norm,blkQ_exit,blkQ_ret,loopQ_norm,loopQ_exit,loopQ_ret,retP_ret,retP_norm,retE_ret,retE_norm,retS_ret,retS_norm,wpO_some,frA_fn,klA_p,klA_nil,klA_own,resVs,resV,resT,Option.bind_some,Option.bind_none,Option.map_some,List.getD_cons_zero,List.getD_cons_succ,List.getD_nil,List.length_cons,List.length_nil,List.length_map,List.map_cons,List.map_nil,List.drop_zero,List.drop_succ_cons,List.take_succ_cons,List.take_zero,List.drop_nil,List.take_nil,Nat.reduceEqDiff,Nat.reduceAdd,Nat.reduceLeDiff,Nat.zero_add,Nat.add_zero,Prod.mk.injEq,and_true,true_and,and_false,false_and,and_self,if_true,if_false,ite_true,ite_false,Bool.not_true,Bool.not_false,Bool.not_eq_true',reduceCtorEq,decide_true,decide_false,frTs,frT,frL_p,spS,ofPT_a,ofPT_g,ofPT_t,flat_i,flat_b,flat_s,flat_l,flat_g,flatp_i,flatp_b,flatp_s,flatp_l,klTs,klT,Bool.and_false,Bool.false_and,frL,frA_p,frA_nil,frA_own,ownT,intT,Bool.or_true,Bool.true_or,Bool.false_eq_true,frL_p,klL_p,ownT_p,O.adds,List.all_cons,List.all_nil,List.any_cons,List.any_nil,ownA,evO.bslRows,List.replicate_succ,List.replicate_zero,List.set_cons_zero,rowsA,over,List.cons_append,List.nil_append,List.append_nil,fillA,Bool.and_self,Bool.and_true,Bool.true_and,Bool.or_self,Bool.or_false,Bool.false_or,Nat.reduceMul,Nat.one_mul,Nat.lt_add_one,klL,Nat.le_refl,ite_self,Nat.reduceBEq]
end Go.Proofs.Ytlgekplmbmkcmaa
end
section
set_option linter.unusedSimpArgs false
set_option linter.unusedVariables false
namespace Go.Proofs.Ytlgekplmbmkcmaa
open Go.Fx
theorem usesW (l : List T) (q a : Int) (h : w a = a) : w (usesL l q a) = usesL l q a := by
  have := usesL_acc 0 l q a
  rw [Int.zero_add,Int.zero_add,h] at this
  exact this
theorem uses_w (t : T) (q : Int) : w (uses t q) = uses t q := by
  obtain ⟨k,n,s,l⟩ := t
  unfold uses
  split
  · split <;> decide
  · exact usesW l _ 0 (by decide)
end Go.Proofs.Ytlgekplmbmkcmaa
end
section
set_option linter.unusedSimpArgs false
set_option linter.unusedVariables false
namespace Go.Proofs.Ytlgekplmbmkcmaa
open Go.Fx
mutual
def size : T → Int
  | .mk _ _ _ l => sizeL l 1
def sizeL : List T → Int → Int
  | [],a => a
  | t :: r,a => sizeL r (w (a + size t))
end
theorem app_ok (t u : T) : eP S 31 [.g (enc t),.g (enc u)] = some (.g (enc (.mk 3 0 [] [t,u]))) := by
  have e0 : enc (.mk 3 0 [] [t,u]) = [.i .i64 3,.i .i64 0,.s [],.l [enc t,enc u]] := rfl
  rw [e0]
  refine x_fn (orcS 31) (fc := F31) rfl rfl ?_
  simp only [F31,enc_len,enc_takep,List.set_cons_succ,Nat.reduceLT,Int.cast_ofNat_Int,Int.reduceLE,Int.reduceLT,Int.reduceToNat,Int.reduceAdd,Int.reduceSub,Int.reduceNeg,x_seq,x_reg,x_skip,x_exit,x_ret,x_block,x_if,wpC_t,wpC_f,wpI_cons,wpI_nil,wpX_some,evI_any,evI_rd,evI_ad,evI_g,evG_u,evG_b,evG_tt,evG_ff,evG_tf,evG_ft,evO,evR,ev_t,ev_c,ev_f,putD_some,putD_none,put_at,cellsT,ldCells,mkT,lenA,binPV,add_bs,add_clk,add_ls,put_bs,put_clk,put_ls,kill_bs,kill_clk,kill_ls,empty_clk,empty_bs,Env.init,seqQ_norm,seqQ_exit,seqQ_ret,blkQ_norm,blkQ_exit,blkQ_ret,loopQ_norm,loopQ_exit,loopQ_ret,retP_ret,retP_norm,retE_ret,retE_norm,retS_ret,retS_norm,wpO_some,frA_fn,klA_p,klA_nil,klA_own,resVs,resV,resT,Option.bind_some,Option.bind_none,Option.map_some,List.getD_cons_zero,List.getD_cons_succ,List.getD_nil,List.length_cons,List.length_nil,List.length_map,List.map_cons,List.map_nil,List.drop_zero,List.drop_succ_cons,List.take_succ_cons,List.take_zero,List.drop_nil,List.take_nil,Nat.reduceEqDiff,Nat.reduceAdd,Nat.reduceLeDiff,Nat.zero_add,Nat.add_zero,Prod.mk.injEq,and_true,true_and,and_false,false_and,and_self,if_true,if_false,ite_true,ite_false,Bool.not_true,Bool.not_false,Bool.not_eq_true',reduceCtorEq,decide_true,decide_false,frTs,frT,frL_p,spS,ofPT_a,ofPT_g,ofPT_t,flat_i,flat_b,flat_s,flat_l,flat_g,flatp_i,flatp_b,flatp_s,flatp_l,klTs,klT,Bool.and_false,Bool.false_and,frL,frA_p,frA_nil,frA_own,ownT,intT,Bool.or_true,Bool.true_or,Bool.false_eq_true,frL_p,klL_p,ownT_p,O.adds,List.all_cons,List.all_nil,List.any_cons,List.any_nil,ownA,evO.bslRows,List.replicate_succ,List.replicate_zero,List.set_cons_zero,rowsA,over,List.cons_append,List.nil_append,List.append_nil,fillA,Bool.and_self,Bool.and_true,Bool.true_and,Bool.or_self,Bool.or_false,Bool.false_or,Nat.reduceMul,Nat.one_mul,Nat.lt_add_one,klL,Nat.le_refl,ite_self,Nat.reduceBEq]
end Go.Proofs.Ytlgekplmbmkcmaa
end
section
set_option linter.unusedSimpArgs false
set_option linter.unusedVariables false
namespace Go.Proofs.Ytlgekplmbmkcmaa
open Go.Fx
theorem class_ex (n : Int) : ∃ r,eP S 102 [.a (.i .u8 n)] = some r ∧ ∃ c,r = .a (.i .i64 c) ∧ 0 ≤ c ∧ c ≤ 4 := by
  refine x_fnE (orcS 102) (fc := F102) rfl rfl ?_
  simp only [F102,x_seq,x_reg,x_skip,x_exit,x_ret,x_block,x_if,wpC_t,wpC_f,wpI_cons,wpI_nil,wpX_some,evI_any,evI_rd,evI_ad,evI_g,evG_u,evG_b,evG_tt,evG_ff,evG_tf,evG_ft,evO,evR,ev_t,ev_c,ev_f,putD_some,putD_none,put_at,cellsT,ldCells,mkT,lenA,binPV,add_bs,add_clk,add_ls,put_bs,put_clk,put_ls,kill_bs,kill_clk,kill_ls,empty_clk,empty_bs,Env.init,seqQ_norm,seqQ_exit,seqQ_ret,blkQ_norm,blkQ_exit,blkQ_ret,loopQ_norm,loopQ_exit,loopQ_ret,retP_ret,retP_norm,retE_ret,retE_norm,retS_ret,retS_norm,wpO_some,frA_fn,klA_p,klA_nil,klA_own,resVs,resV,resT,Option.bind_some,Option.bind_none,Option.map_some,List.getD_cons_zero,List.getD_cons_succ,List.getD_nil,List.length_cons,List.length_nil,List.length_map,List.map_cons,List.map_nil,List.drop_zero,List.drop_succ_cons,List.take_succ_cons,List.take_zero,List.drop_nil,List.take_nil,Nat.reduceEqDiff,Nat.reduceAdd,Nat.reduceLeDiff,Nat.zero_add,Nat.add_zero,Prod.mk.injEq,and_true,true_and,and_false,false_and,and_self,if_true,if_false,ite_true,ite_false,Bool.not_true,Bool.not_false,Bool.not_eq_true',reduceCtorEq,decide_true,decide_false,frTs,frT,frL_p,spS,ofPT_a,ofPT_g,ofPT_t,flat_i,flat_b,flat_s,flat_l,flat_g,flatp_i,flatp_b,flatp_s,flatp_l,klTs,klT,Bool.and_false,Bool.false_and,frL,frA_p,frA_nil,frA_own,ownT,intT,Bool.or_true,Bool.true_or,Bool.false_eq_true,frL_p,klL_p,ownT_p,O.adds,List.all_cons,List.all_nil,List.any_cons,List.any_nil,ownA,evO.bslRows,List.replicate_succ,List.replicate_zero,List.set_cons_zero,rowsA,over,List.cons_append,List.nil_append,List.append_nil,fillA,Bool.and_self,Bool.and_true,Bool.true_and,Bool.or_self,Bool.or_false,Bool.false_or,Nat.reduceMul,Nat.one_mul,Nat.lt_add_one,klL,Nat.le_refl,ite_self,Nat.reduceBEq]
  iterate 14
    all_goals try (first
      | (refine wpX_bsplit (fun h => ?_) (fun h => ?_) <;> simp only [h,x_seq,x_reg,x_skip,x_exit,x_ret,x_block,x_if,wpC_t,wpC_f,wpI_cons,wpI_nil,wpX_some,evI_any,evI_rd,evI_ad,evI_g,evG_u,evG_b,evG_tt,evG_ff,evG_tf,evG_ft,evO,evR,ev_t,ev_c,ev_f,putD_some,putD_none,put_at,cellsT,ldCells,mkT,lenA,binPV,add_bs,add_clk,add_ls,put_bs,put_clk,put_ls,kill_bs,kill_clk,kill_ls,empty_clk,empty_bs,Env.init,seqQ_norm,seqQ_exit,seqQ_ret,blkQ_norm,blkQ_exit,blkQ_ret,loopQ_norm,loopQ_exit,loopQ_ret,retP_ret,retP_norm,retE_ret,retE_norm,retS_ret,retS_norm,wpO_some,frA_fn,klA_p,klA_nil,klA_own,resVs,resV,resT,Option.bind_some,Option.bind_none,Option.map_some,List.getD_cons_zero,List.getD_cons_succ,List.getD_nil,List.length_cons,List.length_nil,List.length_map,List.map_cons,List.map_nil,List.drop_zero,List.drop_succ_cons,List.take_succ_cons,List.take_zero,List.drop_nil,List.take_nil,Nat.reduceEqDiff,Nat.reduceAdd,Nat.reduceLeDiff,Nat.zero_add,Nat.add_zero,Prod.mk.injEq,and_true,true_and,and_false,false_and,and_self,if_true,if_false,ite_true,ite_false,Bool.not_true,Bool.not_false,Bool.not_eq_true',reduceCtorEq,decide_true,decide_false,frTs,frT,frL_p,spS,ofPT_a,ofPT_g,ofPT_t,flat_i,flat_b,flat_s,flat_l,flat_g,flatp_i,flatp_b,flatp_s,flatp_l,klTs,klT,Bool.and_false,Bool.false_and,frL,frA_p,frA_nil,frA_own,ownT,intT,Bool.or_true,Bool.true_or,Bool.false_eq_true,frL_p,klL_p,ownT_p,O.adds,List.all_cons,List.all_nil,List.any_cons,List.any_nil,ownA,evO.bslRows,List.replicate_succ,List.replicate_zero,List.set_cons_zero,rowsA,over,List.cons_append,List.nil_append,List.append_nil,fillA,Bool.and_self,Bool.and_true,Bool.true_and,Bool.or_self,Bool.or_false,Bool.false_or,Nat.reduceMul,Nat.one_mul,Nat.lt_add_one,klL,Nat.le_refl,ite_self,Nat.reduceBEq])
      | (refine wpC_split (fun h => ?_) (fun h => ?_) <;> simp only [h,x_seq,x_reg,x_skip,x_exit,x_ret,x_block,x_if,wpC_t,wpC_f,wpI_cons,wpI_nil,wpX_some,evI_any,evI_rd,evI_ad,evI_g,evG_u,evG_b,evG_tt,evG_ff,evG_tf,evG_ft,evO,evR,ev_t,ev_c,ev_f,putD_some,putD_none,put_at,cellsT,ldCells,mkT,lenA,binPV,add_bs,add_clk,add_ls,put_bs,put_clk,put_ls,kill_bs,kill_clk,kill_ls,empty_clk,empty_bs,Env.init,seqQ_norm,seqQ_exit,seqQ_ret,blkQ_norm,blkQ_exit,blkQ_ret,loopQ_norm,loopQ_exit,loopQ_ret,retP_ret,retP_norm,retE_ret,retE_norm,retS_ret,retS_norm,wpO_some,frA_fn,klA_p,klA_nil,klA_own,resVs,resV,resT,Option.bind_some,Option.bind_none,Option.map_some,List.getD_cons_zero,List.getD_cons_succ,List.getD_nil,List.length_cons,List.length_nil,List.length_map,List.map_cons,List.map_nil,List.drop_zero,List.drop_succ_cons,List.take_succ_cons,List.take_zero,List.drop_nil,List.take_nil,Nat.reduceEqDiff,Nat.reduceAdd,Nat.reduceLeDiff,Nat.zero_add,Nat.add_zero,Prod.mk.injEq,and_true,true_and,and_false,false_and,and_self,if_true,if_false,ite_true,ite_false,Bool.not_true,Bool.not_false,Bool.not_eq_true',reduceCtorEq,decide_true,decide_false,frTs,frT,frL_p,spS,ofPT_a,ofPT_g,ofPT_t,flat_i,flat_b,flat_s,flat_l,flat_g,flatp_i,flatp_b,flatp_s,flatp_l,klTs,klT,Bool.and_false,Bool.false_and,frL,frA_p,frA_nil,frA_own,ownT,intT,Bool.or_true,Bool.true_or,Bool.false_eq_true,frL_p,klL_p,ownT_p,O.adds,List.all_cons,List.all_nil,List.any_cons,List.any_nil,ownA,evO.bslRows,List.replicate_succ,List.replicate_zero,List.set_cons_zero,rowsA,over,List.cons_append,List.nil_append,List.append_nil,fillA,Bool.and_self,Bool.and_true,Bool.true_and,Bool.or_self,Bool.or_false,Bool.false_or,Nat.reduceMul,Nat.one_mul,Nat.lt_add_one,klL,Nat.le_refl,ite_self,Nat.reduceBEq]))
  all_goals exact ⟨_,rfl,by omega,by omega⟩
theorem word_ok (s : List UInt8) : ∃ r,eP S 104 [.a (.s s)] = some r ∧ ∃ b,r = .a (.b b) := by
  refine x_fnE (orcS 104) (fc := F104) rfl rfl ?_
  simp only [F104,x_seq,x_reg,x_skip,x_exit,x_ret,x_block,x_if,wpC_t,wpC_f,wpI_cons,wpI_nil,wpX_some,evI_any,evI_rd,evI_ad,evI_g,evG_u,evG_b,evG_tt,evG_ff,evG_tf,evG_ft,evO,evR,ev_t,ev_c,ev_f,putD_some,putD_none,put_at,cellsT,ldCells,mkT,lenA,binPV,add_bs,add_clk,add_ls,put_bs,put_clk,put_ls,kill_bs,kill_clk,kill_ls,empty_clk,empty_bs,Env.init,seqQ_norm,seqQ_exit,seqQ_ret,blkQ_norm,blkQ_exit,blkQ_ret,loopQ_norm,loopQ_exit,loopQ_ret,retP_ret,retP_norm,retE_ret,retE_norm,retS_ret,retS_norm,wpO_some,frA_fn,klA_p,klA_nil,klA_own,resVs,resV,resT,Option.bind_some,Option.bind_none,Option.map_some,List.getD_cons_zero,List.getD_cons_succ,List.getD_nil,List.length_cons,List.length_nil,List.length_map,List.map_cons,List.map_nil,List.drop_zero,List.drop_succ_cons,List.take_succ_cons,List.take_zero,List.drop_nil,List.take_nil,Nat.reduceEqDiff,Nat.reduceAdd,Nat.reduceLeDiff,Nat.zero_add,Nat.add_zero,Prod.mk.injEq,and_true,true_and,and_false,false_and,and_self,if_true,if_false,ite_true,ite_false,Bool.not_true,Bool.not_false,Bool.not_eq_true',reduceCtorEq,decide_true,decide_false,frTs,frT,frL_p,spS,ofPT_a,ofPT_g,ofPT_t,flat_i,flat_b,flat_s,flat_l,flat_g,flatp_i,flatp_b,flatp_s,flatp_l,klTs,klT,Bool.and_false,Bool.false_and,frL,frA_p,frA_nil,frA_own,ownT,intT,Bool.or_true,Bool.true_or,Bool.false_eq_true,frL_p,klL_p,ownT_p,O.adds,List.all_cons,List.all_nil,List.any_cons,List.any_nil,ownA,evO.bslRows,List.replicate_succ,List.replicate_zero,List.set_cons_zero,rowsA,over,List.cons_append,List.nil_append,List.append_nil,fillA,Bool.and_self,Bool.and_true,Bool.true_and,Bool.or_self,Bool.or_false,Bool.false_or,Nat.reduceMul,Nat.one_mul,Nat.lt_add_one,klL,Nat.le_refl,ite_self,Nat.reduceBEq]
  iterate 6
    all_goals try (refine wpX_bsplit (fun h => ?_) (fun h => ?_) <;> simp only [h,x_seq,x_reg,x_skip,x_exit,x_ret,x_block,x_if,wpC_t,wpC_f,wpI_cons,wpI_nil,wpX_some,evI_any,evI_rd,evI_ad,evI_g,evG_u,evG_b,evG_tt,evG_ff,evG_tf,evG_ft,evO,evR,ev_t,ev_c,ev_f,putD_some,putD_none,put_at,cellsT,ldCells,mkT,lenA,binPV,add_bs,add_clk,add_ls,put_bs,put_clk,put_ls,kill_bs,kill_clk,kill_ls,empty_clk,empty_bs,Env.init,seqQ_norm,seqQ_exit,seqQ_ret,blkQ_norm,blkQ_exit,blkQ_ret,loopQ_norm,loopQ_exit,loopQ_ret,retP_ret,retP_norm,retE_ret,retE_norm,retS_ret,retS_norm,wpO_some,frA_fn,klA_p,klA_nil,klA_own,resVs,resV,resT,Option.bind_some,Option.bind_none,Option.map_some,List.getD_cons_zero,List.getD_cons_succ,List.getD_nil,List.length_cons,List.length_nil,List.length_map,List.map_cons,List.map_nil,List.drop_zero,List.drop_succ_cons,List.take_succ_cons,List.take_zero,List.drop_nil,List.take_nil,Nat.reduceEqDiff,Nat.reduceAdd,Nat.reduceLeDiff,Nat.zero_add,Nat.add_zero,Prod.mk.injEq,and_true,true_and,and_false,false_and,and_self,if_true,if_false,ite_true,ite_false,Bool.not_true,Bool.not_false,Bool.not_eq_true',reduceCtorEq,decide_true,decide_false,frTs,frT,frL_p,spS,ofPT_a,ofPT_g,ofPT_t,flat_i,flat_b,flat_s,flat_l,flat_g,flatp_i,flatp_b,flatp_s,flatp_l,klTs,klT,Bool.and_false,Bool.false_and,frL,frA_p,frA_nil,frA_own,ownT,intT,Bool.or_true,Bool.true_or,Bool.false_eq_true,frL_p,klL_p,ownT_p,O.adds,List.all_cons,List.all_nil,List.any_cons,List.any_nil,ownA,evO.bslRows,List.replicate_succ,List.replicate_zero,List.set_cons_zero,rowsA,over,List.cons_append,List.nil_append,List.append_nil,fillA,Bool.and_self,Bool.and_true,Bool.true_and,Bool.or_self,Bool.or_false,Bool.false_or,Nat.reduceMul,Nat.one_mul,Nat.lt_add_one,klL,Nat.le_refl,ite_self,Nat.reduceBEq])
  all_goals exact ⟨_,rfl⟩
end Go.Proofs.Ytlgekplmbmkcmaa
end
