/- Part 3 of what is proved for the law PairsOrder: it returns true,whatever the input. No condition. -/
import Derived.Test.YtkpfjolcmkikeaaProg
import Derived.IntWalk
import Derived.Test.YtkpfjolcmkikeaaPPairsOrderb
namespace Go.Proofs.Ytkpfjolcmkikeaa
open Go.Fx
def F16 : FnC := ⟨3,(.seq (.reg [
  ia 3 (.box 2 (.t 0)),
ia 6 (.mv (.c (.a (.p (.b false)))))]) (.seq (.seq (.reg [
  ia 23 (.call (.f 39) []),
ia 24 (.not (.t 23)),
ia 25 (.mv (.t 24)),
ig 26 25 false (.ld 2 true (.t 3)),
ig 27 25 false (.call (.f 17) [(.t 26),(ci 100)]),
ig 28 25 false (.not (.t 27)),
ia 29 (.pick (.t 25) (.c (.a (.p (.b true)))) (.t 28)),
ia 30 (.mv (.t 29)),
ig 31 30 false (.ld 2 true (.t 3)),
ig 32 30 false (.call (.f 25) [(.t 31)]),
ig 33 30 false (.bin .neq (.t 32) (ci 0)),
ia 34 (.pick (.t 30) (.c (.a (.p (.b true)))) (.t 33))]) (.cond (.t 34) (.seq (.reg [
  ia 35 (.call (.f 39) []),
ia 6 (.mv (.t 35))]) .ret) .skip)) (.seq (.reg [
  ia 36 (.fad 1 (.t 3)),
ia 37 (.ld 1 false (.t 36)),
ia 38 (.fad 0 (.t 3)),
ia 39 (.ld 1 false (.t 38)),
ia 40 (.len false (.t 39)),
ia 41 (.bin .add (.t 40) (ci 60)),
ia 42 (.mx (.t 37) (.t 41)),
ia 43 (.fad 1 (.t 3)),
io (.st 1 (.t 43) (.t 42))]) (.seq (.reg [
  ia 45 (.ld 2 true (.t 3)),
ia 46 (.mv (.t 1)),
ia 47 (.call (.f 40) [(.t 45),(.t 46)]),
ia 44 (.mv (.t 47)),
ia 48 (.ext (.t 44) 0),
ia 49 (.ext (.t 44) 1),
ia 7 (.new [(.p (.i .i64 0)),(.p (.i .i64 0))]),
io (.st 2 (.t 7) (.t 48)),
ia 8 (.mv (.t 49))]) (.seq (.reg [
  ia 51 (.ld 2 true (.t 3)),
ia 52 (.mv (.t 2)),
ia 53 (.call (.f 40) [(.t 51),(.t 52)]),
ia 50 (.mv (.t 53)),
ia 54 (.ext (.t 50) 0),
ia 55 (.ext (.t 50) 1),
ia 9 (.new [(.p (.i .i64 0)),(.p (.i .i64 0))]),
io (.st 2 (.t 9) (.t 54)),
ia 10 (.mv (.t 55))]) (.seq (.seq (.reg [
  ia 56 (.mv (.t 8)),
ia 57 (.not (.t 56)),
ia 58 (.mv (.t 57)),
ig 59 58 false (.mv (.t 10)),
ig 60 58 false (.not (.t 59)),
ia 61 (.pick (.t 58) (.c (.a (.p (.b true)))) (.t 60)),
ia 62 (.mv (.t 61)),
ig 63 62 false (.ld 2 true (.t 7)),
ig 64 62 false (.ld 2 true (.t 9)),
ig 65 62 false (.eqg false [0,0] (.t 63) (.t 64)),
ia 66 (.pick (.t 62) (.c (.a (.p (.b true)))) (.t 65))]) (.cond (.t 66) (.seq (.reg [
  ia 6 (.mv (.c (.a (.p (.b true)))))]) .ret) .skip)) (.seq (.reg [
  ia 68 (.ld 2 true (.t 3)),
ia 69 (.fad 0 (.t 7)),
ia 70 (.ld 1 false (.t 69)),
ia 71 (.call (.f 49) [(.t 68),(.t 70)]),
ia 67 (.mv (.t 71)),
ia 72 (.ext (.t 67) 0),
ia 73 (.ext (.t 67) 1),
ia 74 (.ext (.t 67) 2),
ia 11 (.new [.nil,(.p (.i .i64 0))]),
ia 12 (.new [(.p (.i .i64 0)),(.p (.b false)),(.p (.i .i64 0)),(.p (.i .i64 0)),(.p (.i .i64 0)),(.p (.i .i64 0)),(.p (.i .i64 0)),(.p (.s [])),.nil,.nil]),
io (.st 2 (.t 11) (.t 72)),
io (.st 10 (.t 12) (.t 73)),
ia 13 (.mv (.t 74))]) (.seq (.reg [
  ia 76 (.ld 2 true (.t 11)),
ia 77 (.fad 0 (.t 9)),
ia 78 (.ld 1 false (.t 77)),
ia 79 (.call (.f 49) [(.t 76),(.t 78)]),
ia 75 (.mv (.t 79)),
ia 80 (.ext (.t 75) 0),
ia 81 (.ext (.t 75) 1),
ia 82 (.ext (.t 75) 2),
ia 14 (.new [.nil,(.p (.i .i64 0))]),
ia 15 (.new [(.p (.i .i64 0)),(.p (.b false)),(.p (.i .i64 0)),(.p (.i .i64 0)),(.p (.i .i64 0)),(.p (.i .i64 0)),(.p (.i .i64 0)),(.p (.s [])),.nil,.nil]),
io (.st 2 (.t 14) (.t 80)),
io (.st 10 (.t 15) (.t 81)),
ia 16 (.mv (.t 82))]) (.seq (.reg [
  ia 84 (.ld 2 true (.t 3)),
ia 85 (.fad 0 (.t 9)),
ia 86 (.ld 1 false (.t 85)),
ia 87 (.call (.f 49) [(.t 84),(.t 86)]),
ia 83 (.mv (.t 87)),
ia 88 (.ext (.t 83) 0),
ia 89 (.ext (.t 83) 1),
ia 90 (.ext (.t 83) 2),
ia 17 (.new [.nil,(.p (.i .i64 0))]),
ia 18 (.new [(.p (.i .i64 0)),(.p (.b false)),(.p (.i .i64 0)),(.p (.i .i64 0)),(.p (.i .i64 0)),(.p (.i .i64 0)),(.p (.i .i64 0)),(.p (.s [])),.nil,.nil]),
io (.st 2 (.t 17) (.t 88)),
io (.st 10 (.t 18) (.t 89)),
ia 19 (.mv (.t 90))]) (.seq (.reg [
  ia 92 (.ld 2 true (.t 17)),
ia 93 (.fad 0 (.t 7)),
ia 94 (.ld 1 false (.t 93)),
ia 95 (.call (.f 49) [(.t 92),(.t 94)]),
ia 91 (.mv (.t 95)),
ia 96 (.ext (.t 91) 0),
ia 97 (.ext (.t 91) 1),
ia 98 (.ext (.t 91) 2),
ia 20 (.new [.nil,(.p (.i .i64 0))]),
ia 21 (.new [(.p (.i .i64 0)),(.p (.b false)),(.p (.i .i64 0)),(.p (.i .i64 0)),(.p (.i .i64 0)),(.p (.i .i64 0)),(.p (.i .i64 0)),(.p (.s [])),.nil,.nil]),
io (.st 2 (.t 20) (.t 96)),
io (.st 10 (.t 21) (.t 97)),
ia 22 (.mv (.t 98))]) (.seq (.reg [
  ia 99 (.mv (.t 13)),
ia 100 (.bin .eql (.t 99) (ci 0)),
ia 101 (.mv (.t 100)),
ig 102 101 true (.mv (.t 16)),
ig 103 101 true (.bin .eql (.t 102) (ci 0)),
ia 104 (.pick (.t 101) (.t 103) (.c (.a (.p (.b false))))),
ia 105 (.mv (.t 104)),
ig 106 105 true (.mv (.t 19)),
ig 107 105 true (.bin .eql (.t 106) (ci 0)),
ia 108 (.pick (.t 105) (.t 107) (.c (.a (.p (.b false))))),
ia 109 (.mv (.t 108)),
ig 110 109 true (.mv (.t 22)),
ig 111 109 true (.bin .eql (.t 110) (ci 0)),
ia 112 (.pick (.t 109) (.t 111) (.c (.a (.p (.b false))))),
ia 113 (.mv (.t 112)),
ih 114 113 true (.ld 2 true (.t 14)),
ih 115 113 true (.call (.f 26) [(.t 114)]),
ih 116 113 true (.ld 2 true (.t 20)),
ig 117 113 true (.call (.f 26) [(.t 116)]),
ig 118 113 true (.bin .eql (.t 115) (.t 117)),
ia 119 (.pick (.t 113) (.t 118) (.c (.a (.p (.b false))))),
ia 120 (.mv (.t 119)),
ih 121 120 true (.ld 2 true (.t 14)),
ih 122 120 true (.call (.f 43) [(.t 121)]),
ih 123 120 true (.len false (.t 122)),
ih 124 120 true (.ld 2 true (.t 20)),
ih 125 120 true (.call (.f 43) [(.t 124)]),
ih 126 120 true (.len false (.t 125)),
ig 127 120 true (.bin .eql (.t 123) (.t 126)),
ia 128 (.pick (.t 120) (.t 127) (.c (.a (.p (.b false))))),
ia 129 (.mv (.t 128)),
ih 130 129 true (.ld 2 true (.t 14)),
ih 131 129 true (.call (.f 45) [(.t 130)]),
ih 132 129 true (.len false (.t 131)),
ih 133 129 true (.ld 2 true (.t 20)),
ih 134 129 true (.call (.f 45) [(.t 133)]),
ih 135 129 true (.len false (.t 134)),
ig 136 129 true (.bin .eql (.t 132) (.t 135)),
ia 137 (.pick (.t 129) (.t 136) (.c (.a (.p (.b false))))),
ia 6 (.mv (.t 137))]) .ret))))))))))),[(.tmp 6)]⟩
theorem cc16 : ccF Try.prog [(43,[0,0]),(79,[1,0]),(60,[0,0]),(140,[0,0]),(43,[9]),(134,[8]),(136,[8]),(108,[8]),(135,[8]),(112,[8])] Try.f16 = some (stripF F16) := by kernel_rfl
def F17b0 : C := (.seq (.seq (.reg [
  ia 6 (.mv (.t 5)),
ia 7 (.fad 0 (.t 2)),
ia 8 (.ld 1 false (.t 7)),
ia 9 (.len false (.t 8)),
ia 10 (.bin .lss (.t 6) (.t 9))]) (.cond (.t 10) .skip (.exit 0))) (.seq (.block 1 (.seq (.reg [
  ia 13 (.fad 0 (.t 2)),
ia 14 (.ld 1 false (.t 13)),
ia 15 (.mv (.t 5)),
ia 16 (.ias 6 (.t 14) (.t 15)),
ia 17 (.fad 5 (.t 16)),
ia 18 (.ld 1 false (.t 17)),
ia 19 (.len false (.t 18)),
ia 20 (.bin .gtr (.t 19) (ci 12)),
ia 21 (.mv (.t 20)),
ig 22 21 false (.fad 0 (.t 2)),
ig 23 21 false (.ld 1 false (.t 22)),
ig 24 21 false (.mv (.t 5)),
ig 25 21 false (.ias 6 (.t 23) (.t 24)),
ig 26 21 false (.fad 4 (.t 25)),
ig 27 21 false (.ld 1 false (.t 26)),
ig 28 21 false (.len false (.t 27)),
ig 29 21 false (.bin .gtr (.t 28) (ci 12)),
ia 30 (.pick (.t 21) (.c (.a (.p (.b true)))) (.t 29))]) (.cond (.t 30) (.seq (.reg [
  ia 4 (.mv (.c (.a (.p (.b false)))))]) .ret) .skip))) (.reg [
  ia 11 (.mv (.t 5)),
ia 12 (.bin .add (.t 11) (ci 1)),
ia 5 (.mv (.t 12))])))
def F17 : FnC := ⟨2,(.seq (.reg [
  ia 2 (.box 2 (.t 0)),
ia 4 (.mv (.c (.a (.p (.b false)))))]) (.seq (.seq (.reg [
  ia 5 (.mv (ci 0))]) (.block 0 (.loop F17b0))) (.seq (.reg [
  ia 31 (.fad 0 (.t 2)),
ia 32 (.ld 1 false (.t 31)),
ia 33 (.len false (.t 32)),
ia 34 (.mv (.t 1)),
ia 35 (.bin .leq (.t 33) (.t 34)),
ia 4 (.mv (.t 35))]) .ret))),[(.tmp 4)]⟩
theorem cc17 : ccF Try.prog [(43,[0,0]),(79,[1,0]),(60,[0,0]),(140,[0,0]),(43,[9]),(134,[8]),(136,[8]),(108,[8]),(135,[8]),(112,[8])] Try.f17 = some (stripF F17) := by kernel_rfl
def F25b1 : C := (.seq (.seq (.reg [
  ia 73 (.mv (.t 5)),
ia 74 (.fad 5 (.t 4)),
ia 75 (.ld 1 false (.t 74)),
ia 76 (.len false (.t 75)),
ia 77 (.bin .lss (.t 73) (.t 76))]) (.cond (.t 77) .skip (.exit 2))) (.seq (.block 3 (.seq (.reg [
  ia 80 (.mv (.t 3)),
ia 81 (.mv (.t 5)),
ia 82 (.build [(.p (.i .i64 0)),(.p (.i .i64 0))] [(0,(1,(.t 80))),(1,(1,(.t 81)))]),
ia 6 (.new [(.p (.i .i64 0)),(.p (.i .i64 0))]),
io (.st 2 (.t 6) (.t 82))]) (.seq (.reg [
  ia 83 (.fad 5 (.t 4)),
ia 84 (.ld 1 false (.t 83)),
ia 85 (.mv (.t 5)),
ia 86 (.ias 2 (.t 84) (.t 85)),
ia 87 (.ld 2 true (.t 86)),
ia 7 (.new [(.p (.i .i64 0)),(.p (.i .i64 0))]),
io (.st 2 (.t 7) (.t 87))]) (.seq (.reg [
  ir 88 (.ld 2 true (.t 7)),
ir 89 (.ld 2 true (.t 6)),
ia 90 (.eqg false [0,0] (.t 88) (.t 89)),
ia 91 (.mv (.t 90)),
ih 92 91 false (.ld 2 true (.t 1)),
ih 93 91 false (.ld 2 true (.t 7)),
ig 94 91 false (.call (.f 35) [(.t 92),(.t 93)]),
ig 95 91 false (.not (.t 94)),
ia 96 (.pick (.t 91) (.c (.a (.p (.b true)))) (.t 95)),
ia 97 (.mv (.t 96)),
ih 98 97 false (.fad 0 (.t 1)),
ih 99 97 false (.ld 1 false (.t 98)),
ih 100 97 false (.fad 0 (.t 7)),
ih 101 97 false (.ld 1 false (.t 100)),
ih 102 97 false (.ias 6 (.t 99) (.t 101)),
ih 103 97 false (.fad 5 (.t 102)),
ih 104 97 false (.ld 1 false (.t 103)),
ih 105 97 false (.fad 1 (.t 7)),
ih 106 97 false (.ld 1 false (.t 105)),
ih 107 97 false (.ias 2 (.t 104) (.t 106)),
ih 108 97 false (.ld 2 true (.t 107)),
ih 109 97 false (.ld 2 true (.t 6)),
ig 110 97 false (.eqg true [0,0] (.t 108) (.t 109)),
ia 111 (.pick (.t 97) (.c (.a (.p (.b true)))) (.t 110))]) (.cond (.t 111) (.seq (.reg [
  ia 2 (.mv (ci 120))]) .ret) .skip))))) (.reg [
  ia 78 (.mv (.t 5)),
ia 79 (.bin .add (.t 78) (ci 1)),
ia 5 (.mv (.t 79))])))
def F25b0 : C := (.seq (.seq (.reg [
  ia 42 (.mv (.t 3)),
ia 43 (.fad 0 (.t 1)),
ia 44 (.ld 1 false (.t 43)),
ia 45 (.len false (.t 44)),
ia 46 (.bin .lss (.t 42) (.t 45))]) (.cond (.t 46) .skip (.exit 0))) (.seq (.block 1 (.seq (.reg [
  ia 49 (.fad 0 (.t 1)),
ia 50 (.ld 1 false (.t 49)),
ia 51 (.mv (.t 3)),
ia 52 (.ias 6 (.t 50) (.t 51)),
ia 53 (.ld 6 true (.t 52)),
ia 4 (.new [(.p (.i .i64 0)),(.p (.i .i64 0)),(.p (.i .i64 0)),(.p (.s [])),.nil,.nil]),
io (.st 6 (.t 4) (.t 53))]) (.seq (.seq (.reg [
  ia 54 (.ld 6 true (.t 4)),
ia 55 (.call (.f 56) [(.t 54)]),
ia 56 (.not (.t 55)),
ia 57 (.mv (.t 56)),
ih 58 57 false (.fad 5 (.t 4)),
ih 59 57 false (.ld 1 false (.t 58)),
ih 60 57 false (.len false (.t 59)),
ih 61 57 false (.ld 6 true (.t 4)),
ih 62 57 false (.call (.f 57) [(.t 61)]),
ig 63 57 false (.bin .neq (.t 60) (.t 62)),
ia 64 (.pick (.t 57) (.c (.a (.p (.b true)))) (.t 63)),
ia 65 (.mv (.t 64)),
ih 66 65 false (.mv (.t 3)),
ih 67 65 false (.bin .eql (.t 66) (ci 0)),
ih 68 65 false (.fad 0 (.t 4)),
ih 69 65 false (.ld 1 false (.t 68)),
ih 70 65 false (.bin .eql (.t 69) (ci 1)),
ig 71 65 false (.eqb true (.t 67) (.t 70)),
ia 72 (.pick (.t 65) (.c (.a (.p (.b true)))) (.t 71))]) (.cond (.t 72) (.seq (.reg [
  ia 2 (.mv (ci 120))]) .ret) .skip)) (.seq (.reg [
  ia 5 (.mv (ci 0))]) (.block 2 (.loop F25b1)))))) (.reg [
  ia 47 (.mv (.t 3)),
ia 48 (.bin .add (.t 47) (ci 1)),
ia 3 (.mv (.t 48))])))
def F25 : FnC := ⟨1,(.seq (.reg [
  ia 1 (.box 2 (.t 0)),
ia 2 (.mv (ci 0))]) (.seq (.seq (.reg [
  ia 8 (.fad 1 (.t 1)),
ia 9 (.ld 1 false (.t 8)),
ia 10 (.bin .lss (.t 9) (ci 1)),
ia 11 (.mv (.t 10)),
ig 12 11 false (.fad 1 (.t 1)),
ig 13 11 false (.ld 1 false (.t 12)),
ig 14 11 false (.bin .gtr (.t 13) (ci 4000)),
ia 15 (.pick (.t 11) (.c (.a (.p (.b true)))) (.t 14)),
ia 16 (.mv (.t 15)),
ig 17 16 false (.fad 0 (.t 1)),
ig 18 16 false (.ld 1 false (.t 17)),
ig 19 16 false (.len false (.t 18)),
ig 20 16 false (.bin .lss (.t 19) (ci 1)),
ia 21 (.pick (.t 16) (.c (.a (.p (.b true)))) (.t 20)),
ia 22 (.mv (.t 21)),
ig 23 22 false (.fad 0 (.t 1)),
ig 24 22 false (.ld 1 false (.t 23)),
ig 25 22 false (.len false (.t 24)),
ig 26 22 false (.fad 1 (.t 1)),
ig 27 22 false (.ld 1 false (.t 26)),
ig 28 22 false (.bin .gtr (.t 25) (.t 27)),
ia 29 (.pick (.t 22) (.c (.a (.p (.b true)))) (.t 28)),
ia 30 (.mv (.t 29)),
ig 31 30 false (.fad 0 (.t 1)),
ig 32 30 false (.ld 1 false (.t 31)),
ig 33 30 false (.fad 0 (.t 1)),
ig 34 30 false (.ld 1 false (.t 33)),
ig 35 30 false (.len false (.t 34)),
ig 36 30 false (.bin .sub (.t 35) (ci 1)),
ig 37 30 false (.ias 6 (.t 32) (.t 36)),
ig 38 30 false (.fad 0 (.t 37)),
ig 39 30 false (.ld 1 false (.t 38)),
ig 40 30 false (.bin .eql (.t 39) (ci 0)),
ia 41 (.pick (.t 30) (.c (.a (.p (.b true)))) (.t 40))]) (.cond (.t 41) (.seq (.reg [
  ia 2 (.mv (ci 120))]) .ret) .skip)) (.seq (.seq (.reg [
  ia 3 (.mv (ci 0))]) (.block 0 (.loop F25b0))) (.seq (.reg [
  ia 2 (.mv (ci 0))]) .ret)))),[(.tmp 2)]⟩
theorem cc25 : ccF Try.prog [(43,[0,0]),(79,[1,0]),(60,[0,0]),(140,[0,0]),(43,[9]),(134,[8]),(136,[8]),(108,[8]),(135,[8]),(112,[8])] Try.f25 = some (stripF F25) := by kernel_rfl
def F26b0 : C := (.seq (.seq (.reg [
  ia 5 (.mv (.t 4)),
ia 6 (.fad 0 (.t 1)),
ia 7 (.ld 1 false (.t 6)),
ia 8 (.len false (.t 7)),
ia 9 (.bin .lss (.t 5) (.t 8))]) (.cond (.t 9) .skip (.exit 0))) (.seq (.block 1 (.seq (.reg [
  ia 12 (.fad 0 (.t 1)),
ia 13 (.ld 1 false (.t 12)),
ia 14 (.mv (.t 4)),
ia 15 (.ias 6 (.t 13) (.t 14)),
ia 16 (.fad 0 (.t 15)),
ia 17 (.ld 1 false (.t 16)),
ia 18 (.bin .neq (.t 17) (ci 0))]) (.cond (.t 18) (.reg [
  ia 19 (.mv (.t 3)),
ia 20 (.bin .add (.t 19) (ci 1)),
ia 3 (.mv (.t 20))]) .skip))) (.reg [
  ia 10 (.mv (.t 4)),
ia 11 (.bin .add (.t 10) (ci 1)),
ia 4 (.mv (.t 11))])))
def F26 : FnC := ⟨1,(.seq (.reg [
  ia 1 (.box 2 (.t 0)),
ia 2 (.mv (ci 0))]) (.seq (.reg [
  ia 3 (.mv (ci 0))]) (.seq (.seq (.reg [
  ia 4 (.mv (ci 0))]) (.block 0 (.loop F26b0))) (.seq (.reg [
  ia 21 (.mv (.t 3)),
ia 2 (.mv (.t 21))]) .ret)))),[(.tmp 2)]⟩
theorem cc26 : ccF Try.prog [(43,[0,0]),(79,[1,0]),(60,[0,0]),(140,[0,0]),(43,[9]),(134,[8]),(136,[8]),(108,[8]),(135,[8]),(112,[8])] Try.f26 = some (stripF F26) := by kernel_rfl
def F35 : FnC := ⟨2,(.seq (.reg [
  ia 2 (.box 2 (.t 0)),
ia 3 (.box 2 (.t 1)),
ia 4 (.mv (.c (.a (.p (.b false)))))]) (.seq (.reg [
  ia 5 (.fad 0 (.t 3)),
ia 6 (.ld 1 false (.t 5)),
ia 7 (.bin .geq (.t 6) (ci 0)),
ia 8 (.mv (.t 7)),
ih 9 8 true (.fad 0 (.t 3)),
ih 10 8 true (.ld 1 false (.t 9)),
ih 11 8 true (.fad 0 (.t 2)),
ih 12 8 true (.ld 1 false (.t 11)),
ih 13 8 true (.len false (.t 12)),
ig 14 8 true (.bin .lss (.t 10) (.t 13)),
ia 15 (.pick (.t 8) (.t 14) (.c (.a (.p (.b false))))),
ia 16 (.mv (.t 15)),
ig 17 16 true (.fad 1 (.t 3)),
ig 18 16 true (.ld 1 false (.t 17)),
ig 19 16 true (.bin .geq (.t 18) (ci 0)),
ia 20 (.pick (.t 16) (.t 19) (.c (.a (.p (.b false))))),
ia 21 (.mv (.t 20)),
ih 22 21 true (.fad 1 (.t 3)),
ih 23 21 true (.ld 1 false (.t 22)),
ih 24 21 true (.fad 0 (.t 2)),
ih 25 21 true (.ld 1 false (.t 24)),
ih 26 21 true (.fad 0 (.t 3)),
ih 27 21 true (.ld 1 false (.t 26)),
ih 28 21 true (.ias 6 (.t 25) (.t 27)),
ih 29 21 true (.fad 5 (.t 28)),
ih 30 21 true (.ld 1 false (.t 29)),
ih 31 21 true (.len false (.t 30)),
ig 32 21 true (.bin .lss (.t 23) (.t 31)),
ia 33 (.pick (.t 21) (.t 32) (.c (.a (.p (.b false))))),
ia 4 (.mv (.t 33))]) .ret)),[(.tmp 4)]⟩
theorem cc35 : ccF Try.prog [(43,[0,0]),(79,[1,0]),(60,[0,0]),(140,[0,0]),(43,[9]),(134,[8]),(136,[8]),(108,[8]),(135,[8]),(112,[8])] Try.f35 = some (stripF F35) := by kernel_rfl
def F39 : FnC := ⟨0,(.seq (.reg [
  ia 0 (.mv (.c (.a (.p (.b false)))))]) (.seq (.reg [
  ia 9 (.call (.f 50) [(ci 5)]),
ia 8 (.mv (.t 9)),
ia 10 (.ext (.t 8) 0),
ia 11 (.ext (.t 8) 1),
ia 1 (.new [.nil,(.p (.i .i64 0))]),
io (.st 2 (.t 1) (.t 10)),
ia 2 (.mv (.t 11))]) (.fz [1] (.seq (.reg [
  ia 13 (.ld 2 true (.t 1)),
ia 14 (.call (.f 40) [(.t 13),(ci 3)]),
ia 12 (.mv (.t 14)),
ia 15 (.ext (.t 12) 0),
ia 16 (.ext (.t 12) 1),
ia 3 (.new [(.p (.i .i64 0)),(.p (.i .i64 0))]),
io (.st 2 (.t 3) (.t 15)),
ia 4 (.mv (.t 16))]) (.fz [1] (.seq (.reg [
  ia 17 (.build [(.p (.i .i64 0)),(.p (.i .i64 0))] [(0,(1,(ci 1))),(1,(1,(ci 1)))]),
ia 18 (.bsl 2 43 [(.p (.i .i64 0)),(.p (.i .i64 0))] 1 [(0,(.t 17))]),
ia 19 (.build [(.p (.i .i64 0)),(.p (.i .i64 0)),(.p (.i .i64 0)),(.p (.s [])),.nil,.nil] [(0,(1,(ci 1))),(5,(1,(.t 18)))]),
ia 20 (.build [(.p (.i .i64 0)),(.p (.i .i64 0))] [(0,(1,(ci 2)))]),
ia 21 (.build [(.p (.i .i64 0)),(.p (.i .i64 0))] []),
ia 22 (.build [(.p (.i .i64 0)),(.p (.i .i64 0))] [(0,(1,(ci 3)))]),
ia 23 (.bsl 2 43 [(.p (.i .i64 0)),(.p (.i .i64 0))] 3 [(0,(.t 20)),(1,(.t 21)),(2,(.t 22))]),
ia 24 (.build [(.p (.i .i64 0)),(.p (.i .i64 0)),(.p (.i .i64 0)),(.p (.s [])),.nil,.nil] [(0,(1,(ci 3))),(5,(1,(.t 23)))]),
ia 25 (.build [(.p (.i .i64 0)),(.p (.i .i64 0))] [(0,(1,(ci 1)))]),
ia 26 (.build [(.p (.i .i64 0)),(.p (.i .i64 0))] [(0,(1,(ci 2))),(1,(1,(ci 2)))]),
ia 27 (.build [(.p (.i .i64 0)),(.p (.i .i64 0))] [(0,(1,(ci 2))),(1,(1,(ci 1)))]),
ia 28 (.bsl 2 43 [(.p (.i .i64 0)),(.p (.i .i64 0))] 3 [(0,(.t 25)),(1,(.t 26)),(2,(.t 27))]),
ia 29 (.build [(.p (.i .i64 0)),(.p (.i .i64 0)),(.p (.i .i64 0)),(.p (.s [])),.nil,.nil] [(0,(1,(ci 2))),(5,(1,(.t 28)))]),
ia 30 (.build [(.p (.i .i64 0)),(.p (.i .i64 0))] [(0,(1,(ci 1))),(1,(1,(ci 2)))]),
ia 31 (.bsl 2 43 [(.p (.i .i64 0)),(.p (.i .i64 0))] 1 [(0,(.t 30))]),
ia 32 (.build [(.p (.i .i64 0)),(.p (.i .i64 0)),(.p (.i .i64 0)),(.p (.s [])),.nil,.nil] [(0,(1,(ci 10))),(1,(1,(ci 1))),(2,(1,(ci 7))),(5,(1,(.t 31)))]),
ia 33 (.bsl 6 41 [(.p (.i .i64 0)),(.p (.i .i64 0)),(.p (.i .i64 0)),(.p (.s [])),.nil,.nil] 4 [(0,(.t 19)),(1,(.t 24)),(2,(.t 29)),(3,(.t 32))]),
ia 34 (.build [.nil,(.p (.i .i64 0))] [(1,(1,(ci 9))),(0,(1,(.t 33)))]),
ia 5 (.new [.nil,(.p (.i .i64 0))]),
io (.st 2 (.t 5) (.t 34))]) (.fz [1,5] (.seq (.reg [
  ia 36 (.ld 2 true (.t 5)),
ia 37 (.call (.f 40) [(.t 36),(.c (.a (.p (.i .i64 (-8)))))]),
ia 35 (.mv (.t 37)),
ia 38 (.ext (.t 35) 0),
ia 39 (.ext (.t 35) 1),
ia 6 (.new [(.p (.i .i64 0)),(.p (.i .i64 0))]),
io (.st 2 (.t 6) (.t 38)),
ia 7 (.mv (.t 39))]) (.fz [1,5] (.seq (.reg [
  ia 40 (.ld 2 true (.t 1)),
ia 41 (.call (.f 43) [(.t 40)]),
ia 42 (.build [(.p (.i .i64 0)),(.p (.i .i64 0))] [(1,(1,(ci 1)))]),
ia 43 (.bsl 2 60 [(.p (.i .i64 0)),(.p (.i .i64 0))] 1 [(0,(.t 42))]),
ia 44 (.call (.f 42) [(.t 41),(.t 43)]),
ia 45 (.mv (.t 44)),
ig 46 45 true (.ld 2 true (.t 1)),
ig 47 45 true (.call (.f 45) [(.t 46)]),
ig 48 45 true (.len false (.t 47)),
ig 49 45 true (.bin .eql (.t 48) (ci 0)),
ia 50 (.pick (.t 45) (.t 49) (.c (.a (.p (.b false))))),
ia 51 (.mv (.t 50)),
ig 52 51 true (.mv (.t 4)),
ig 53 51 true (.not (.t 52)),
ia 54 (.pick (.t 51) (.t 53) (.c (.a (.p (.b false))))),
ia 55 (.mv (.t 54)),
ig 56 55 true (.ld 2 true (.t 5)),
ig 57 55 true (.call (.f 43) [(.t 56)]),
ig 58 55 true (.build [(.p (.i .i64 0)),(.p (.i .i64 0))] [(0,(1,(ci 1))),(1,(1,(ci 2)))]),
ig 59 55 true (.bsl 2 60 [(.p (.i .i64 0)),(.p (.i .i64 0))] 1 [(0,(.t 58))]),
ig 60 55 true (.call (.f 42) [(.t 57),(.t 59)]),
ia 61 (.pick (.t 55) (.t 60) (.c (.a (.p (.b false))))),
ia 62 (.mv (.t 61)),
ig 63 62 true (.ld 2 true (.t 5)),
ig 64 62 true (.call (.f 45) [(.t 63)]),
ig 65 62 true (.build [(.p (.i .i64 0)),(.p (.i .i64 0))] [(0,(1,(ci 1))),(1,(1,(ci 2)))]),
ig 66 62 true (.bsl 2 60 [(.p (.i .i64 0)),(.p (.i .i64 0))] 1 [(0,(.t 65))]),
ig 67 62 true (.call (.f 42) [(.t 64),(.t 66)]),
ia 68 (.pick (.t 62) (.t 67) (.c (.a (.p (.b false))))),
ia 69 (.mv (.t 68)),
ig 70 69 true (.ld 2 true (.t 6)),
ig 71 69 true (.build [(.p (.i .i64 0)),(.p (.i .i64 0))] [(0,(1,(ci 1))),(1,(1,(ci 2)))]),
ig 72 69 true (.eqg false [0,0] (.t 70) (.t 71)),
ia 73 (.pick (.t 69) (.t 72) (.c (.a (.p (.b false))))),
ia 74 (.mv (.t 73)),
ig 75 74 true (.mv (.t 7)),
ia 76 (.pick (.t 74) (.t 75) (.c (.a (.p (.b false))))),
ia 77 (.mv (.t 76)),
ig 78 77 true (.build [.nil,(.p (.i .i64 0))] []),
ig 79 77 true (.call (.f 43) [(.t 78)]),
ig 80 77 true (.len false (.t 79)),
ig 81 77 true (.bin .eql (.t 80) (ci 0)),
ia 82 (.pick (.t 77) (.t 81) (.c (.a (.p (.b false))))),
ia 0 (.mv (.t 82))]) .ret)))))))))),[(.tmp 0)]⟩
theorem cc39 : ccF Try.prog [(43,[0,0]),(79,[1,0]),(60,[0,0]),(140,[0,0]),(43,[9]),(134,[8]),(136,[8]),(108,[8]),(135,[8]),(112,[8])] Try.f39 = some (stripF F39) := by kernel_rfl
def F40 : FnC := ⟨2,(.seq (.reg [
  ia 2 (.box 2 (.t 0)),
ia 4 (.new [(.p (.i .i64 0)),(.p (.i .i64 0))]),
ia 5 (.mv (.c (.a (.p (.b false)))))]) (.seq (.reg [
  ia 8 (.ld 2 true (.t 2)),
ia 9 (.call (.f 45) [(.t 8)]),
ia 6 (.mv (.t 9))]) (.seq (.reg [
  ia 10 (.mv (.t 6)),
ia 11 (.len false (.t 10)),
ia 7 (.mv (.t 11))]) (.seq (.seq (.reg [
  ia 12 (.mv (.t 7)),
ia 13 (.bin .eql (.t 12) (ci 0))]) (.cond (.t 13) (.seq (.reg [
  ia 14 (.build [(.p (.i .i64 0)),(.p (.i .i64 0))] []),
io (.st 2 (.t 4) (.t 14)),
ia 5 (.mv (.c (.a (.p (.b false)))))]) .ret) .skip)) (.seq (.reg [
  ia 15 (.mv (.t 6)),
ia 16 (.mv (.t 1)),
ia 17 (.mv (.t 7)),
ia 18 (.bin .rem (.t 16) (.t 17)),
ia 19 (.mv (.t 7)),
ia 20 (.bin .add (.t 18) (.t 19)),
ia 21 (.mv (.t 7)),
ia 22 (.bin .rem (.t 20) (.t 21)),
ia 23 (.ias 2 (.t 15) (.t 22)),
ia 24 (.ld 2 true (.t 23)),
io (.st 2 (.t 4) (.t 24)),
ia 5 (.mv (.c (.a (.p (.b true)))))]) .ret))))),[(.cell 4 2 true),(.tmp 5)]⟩
theorem cc40 : ccF Try.prog [(43,[0,0]),(79,[1,0]),(60,[0,0]),(140,[0,0]),(43,[9]),(134,[8]),(136,[8]),(108,[8]),(135,[8]),(112,[8])] Try.f40 = some (stripF F40) := by kernel_rfl
def F42b0 : C := (.seq (.seq (.reg [
  ia 11 (.mv (.t 5)),
ia 12 (.mv (.t 0)),
ia 13 (.len false (.t 12)),
ia 14 (.bin .lss (.t 11) (.t 13))]) (.cond (.t 14) .skip (.exit 0))) (.seq (.block 1 (.seq (.reg [
  ir 17 (.mv (.t 0)),
ir 18 (.mv (.t 5)),
ir 19 (.ias 2 (.t 17) (.t 18)),
ir 20 (.ld 2 true (.t 19)),
ir 21 (.mv (.t 1)),
ir 22 (.mv (.t 5)),
ir 23 (.ias 2 (.t 21) (.t 22)),
ir 24 (.ld 2 true (.t 23)),
ia 25 (.eqg true [0,0] (.t 20) (.t 24))]) (.cond (.t 25) (.seq (.reg [
  ia 4 (.mv (.c (.a (.p (.b false)))))]) .ret) .skip))) (.reg [
  ia 15 (.mv (.t 5)),
ia 16 (.bin .add (.t 15) (ci 1)),
ia 5 (.mv (.t 16))])))
def F42 : FnC := ⟨2,(.seq (.reg [
  ia 4 (.mv (.c (.a (.p (.b false)))))]) (.seq (.seq (.reg [
  ia 6 (.mv (.t 0)),
ia 7 (.len false (.t 6)),
ia 8 (.mv (.t 1)),
ia 9 (.len false (.t 8)),
ia 10 (.bin .neq (.t 7) (.t 9))]) (.cond (.t 10) (.seq (.reg [
  ia 4 (.mv (.c (.a (.p (.b false)))))]) .ret) .skip)) (.seq (.seq (.reg [
  ia 5 (.mv (ci 0))]) (.block 0 (.loop F42b0))) (.seq (.reg [
  ia 4 (.mv (.c (.a (.p (.b true)))))]) .ret)))),[(.tmp 4)]⟩
theorem cc42 : ccF Try.prog [(43,[0,0]),(79,[1,0]),(60,[0,0]),(140,[0,0]),(43,[9]),(134,[8]),(136,[8]),(108,[8]),(135,[8]),(112,[8])] Try.f42 = some (stripF F42) := by kernel_rfl
def F43 : FnC := ⟨1,(.seq (.reg [
  ia 1 (.box 2 (.t 0)),
ia 2 (.mv (.c (.a .nil)))]) (.seq (.reg [
  ia 3 (.ld 2 true (.t 1)),
ia 4 (.call (.f 65) [(.t 3)]),
ia 5 (.call (.f 64) [(.t 4)]),
ia 2 (.mv (.t 5))]) .ret)),[(.tmp 2)]⟩
theorem cc43 : ccF Try.prog [(43,[0,0]),(79,[1,0]),(60,[0,0]),(140,[0,0]),(43,[9]),(134,[8]),(136,[8]),(108,[8]),(135,[8]),(112,[8])] Try.f43 = some (stripF F43) := by kernel_rfl
def F45 : FnC := ⟨1,(.seq (.reg [
  ia 1 (.box 2 (.t 0)),
ia 2 (.mv (.c (.a .nil)))]) (.seq (.reg [
  ia 3 (.new [.nil])]) (.seq (.seq (.reg [
  ia 5 (.ld 2 true (.t 1)),
ia 6 (.call (.f 65) [(.t 5)])]) (.block 0 (.rng (.t 6) [7] (.reg [
  ia 4 (.new [(.p (.i .i64 0)),(.p (.i .i64 0))]),
io (.st 2 (.t 4) (.t 7))]) (.block 1 (.seq (.reg [
  ia 8 (.ld 2 true (.t 1)),
ia 9 (.ld 2 true (.t 4)),
ia 10 (.call (.f 67) [(.t 8),(.t 9)])]) (.cond (.t 10) (.reg [
  ia 11 (.ld 1 false (.t 3)),
ia 12 (.ld 2 true (.t 4)),
ia 13 (.bsl 2 60 [(.p (.i .i64 0)),(.p (.i .i64 0))] 1 [(0,(.t 12))]),
ia 14 (.app 2 60 16 (.t 11) (.t 13)),
io (.st 1 (.t 3) (.t 14))]) .skip)))))) (.seq (.reg [
  ia 15 (.ld 1 false (.t 3)),
ia 2 (.mv (.t 15))]) .ret)))),[(.tmp 2)]⟩
theorem cc45 : ccF Try.prog [(43,[0,0]),(79,[1,0]),(60,[0,0]),(140,[0,0]),(43,[9]),(134,[8]),(136,[8]),(108,[8]),(135,[8]),(112,[8])] Try.f45 = some (stripF F45) := by kernel_rfl
def F49 : FnC := ⟨2,(.seq (.reg [
  ia 2 (.box 2 (.t 0)),
ia 4 (.new [.nil,(.p (.i .i64 0))]),
ia 5 (.new [(.p (.i .i64 0)),(.p (.b false)),(.p (.i .i64 0)),(.p (.i .i64 0)),(.p (.i .i64 0)),(.p (.i .i64 0)),(.p (.i .i64 0)),(.p (.s [])),.nil,.nil]),
ia 6 (.mv (ci 0))]) (.seq (.seq (.reg [
  ia 12 (.ld 2 true (.t 2)),
ia 13 (.call (.f 52) [(.t 12)]),
ia 7 (.mv (.t 13))]) (.seq (.reg [
  ia 14 (.mv (.t 7)),
ia 15 (.bin .neq (.t 14) (ci 0))]) (.cond (.t 15) (.seq (.reg [
  ia 16 (.ld 2 true (.t 2)),
ia 17 (.build [(.p (.i .i64 0)),(.p (.b false)),(.p (.i .i64 0)),(.p (.i .i64 0)),(.p (.i .i64 0)),(.p (.i .i64 0)),(.p (.i .i64 0)),(.p (.s [])),.nil,.nil] []),
ia 18 (.mv (.t 7)),
io (.st 2 (.t 4) (.t 16)),
io (.st 10 (.t 5) (.t 17)),
ia 6 (.mv (.t 18))]) .ret) .skip))) (.seq (.reg [
  ia 19 (.ld 2 true (.t 2)),
ia 20 (.mv (.t 1)),
ia 21 (.call (.f 69) [(.t 19),(.t 20)]),
ia 8 (.mv (.t 21))]) (.seq (.seq (.reg [
  ia 22 (.mv (.t 8)),
ia 23 (.bin .lss (.t 22) (ci 0))]) (.cond (.t 23) (.seq (.reg [
  ia 24 (.ld 2 true (.t 2)),
ia 25 (.build [(.p (.i .i64 0)),(.p (.b false)),(.p (.i .i64 0)),(.p (.i .i64 0)),(.p (.i .i64 0)),(.p (.i .i64 0)),(.p (.i .i64 0)),(.p (.s [])),.nil,.nil] []),
io (.st 2 (.t 4) (.t 24)),
io (.st 10 (.t 5) (.t 25)),
ia 6 (.mv (ci 122))]) .ret) .skip)) (.seq (.reg [
  ir 27 (.fad 0 (.t 2)),
ir 28 (.ld 1 false (.t 27)),
ir 29 (.mv (.t 1)),
ir 30 (.ias 6 (.t 28) (.t 29)),
ir 31 (.ld 6 true (.t 30)),
ir 32 (.fad 0 (.t 2)),
ir 33 (.ld 1 false (.t 32)),
ir 34 (.mv (.t 8)),
ir 35 (.ias 6 (.t 33) (.t 34)),
ir 36 (.ld 6 true (.t 35)),
ir 37 (.call (.f 70) [(.t 31),(.t 36)]),
ir 26 (.mv (.t 37)),
ir 38 (.ext (.t 26) 0),
ir 39 (.ext (.t 26) 1),
⟨(.some 9),.none,(.new [(.p (.i .i64 0)),(.p (.b false)),(.p (.i .i64 0)),(.p (.i .i64 0)),(.p (.i .i64 0)),(.p (.i .i64 0)),(.p (.i .i64 0)),(.p (.s [])),.nil,.nil]),.ad⟩,
⟨.none,.none,(.st 10 (.t 9) (.t 38)),(.wr [])⟩,
ia 10 (.mv (.t 39))]) (.seq (.block 0 (.seq (.reg [
  ia 41 (.mv (.t 10)),
ia 42 (.bin .neq (.t 41) (ci 0)),
ia 40 (.mv (.t 42))]) (.cond (.t 40) (.seq (.reg [
  ia 43 (.ld 2 true (.t 2)),
ia 44 (.build [(.p (.i .i64 0)),(.p (.b false)),(.p (.i .i64 0)),(.p (.i .i64 0)),(.p (.i .i64 0)),(.p (.i .i64 0)),(.p (.i .i64 0)),(.p (.s [])),.nil,.nil] []),
ia 45 (.mv (.t 10)),
io (.st 2 (.t 4) (.t 43)),
io (.st 10 (.t 5) (.t 44)),
ia 6 (.mv (.t 45))]) .ret) (.seq (.reg [
  ir 47 (.ld 2 true (.t 2)),
ir 48 (.call (.f 71) [(.t 47)]),
ir 49 (.ld 10 true (.t 9)),
ir 50 (.fad 0 (.t 2)),
ir 51 (.ld 1 false (.t 50)),
ir 52 (.mv (.t 1)),
ir 53 (.ias 6 (.t 51) (.t 52)),
ir 54 (.ld 6 true (.t 53)),
ir 55 (.fad 0 (.t 2)),
ir 56 (.ld 1 false (.t 55)),
ir 57 (.mv (.t 8)),
ir 58 (.ias 6 (.t 56) (.t 57)),
ir 59 (.ld 6 true (.t 58)),
ir 60 (.call (.f 72) [(.t 49),(.t 54),(.t 59)]),
ir 61 (.bin .add (.t 48) (.t 60)),
ir 62 (.fad 1 (.t 2)),
ir 63 (.ld 1 false (.t 62)),
ia 64 (.bin .gtr (.t 61) (.t 63)),
ia 46 (.mv (.t 64))]) (.cond (.t 46) (.seq (.reg [
  ia 65 (.ld 2 true (.t 2)),
ia 66 (.build [(.p (.i .i64 0)),(.p (.b false)),(.p (.i .i64 0)),(.p (.i .i64 0)),(.p (.i .i64 0)),(.p (.i .i64 0)),(.p (.i .i64 0)),(.p (.s [])),.nil,.nil] []),
io (.st 2 (.t 4) (.t 65)),
io (.st 10 (.t 5) (.t 66)),
ia 6 (.mv (ci 121))]) .ret) .skip))))) (.seq (.reg [
  ia 67 (.ld 2 true (.t 2)),
ia 68 (.ld 10 true (.t 9)),
ia 69 (.mv (.t 1)),
ia 70 (.mv (.t 8)),
ia 71 (.build [.nil,(.p (.i .i64 0)),(.p (.i .i64 0)),(.p (.b false)),(.p (.i .i64 0)),(.p (.i .i64 0)),(.p (.i .i64 0)),(.p (.i .i64 0)),(.p (.i .i64 0)),(.p (.s [])),.nil,.nil,(.p (.i .i64 0)),(.p (.i .i64 0))] [(0,(2,(.t 67))),(2,(10,(.t 68))),(12,(1,(.t 69))),(13,(1,(.t 70)))]),
ia 72 (.box 14 (.t 71)),
ia 11 (.mv (.t 72))]) (.seq (.seq (.reg [
  ia 73 (.fad 1 (.t 9)),
ia 74 (.ld 1 false (.t 73))]) (.cond (.t 74) (.reg [
  ia 75 (.mv (.t 11)),
ia 76 (.mv (.t 11)),
ia 77 (.mv (.t 8)),
ia 78 (.mv (.t 1)),
ia 79 (.nck (.t 75)),
ia 80 (.fad 12 (.t 79)),
io (.st 1 (.t 80) (.t 77)),
ia 81 (.nck (.t 76)),
ia 82 (.fad 13 (.t 81)),
io (.st 1 (.t 82) (.t 78))]) .skip)) (.seq (.reg [
  ia 83 (.mv (.t 11)),
ia 84 (.call (.f 73) [(.t 83)])]) (.seq (.reg [
  ir 85 (.mv (.t 11)),
ir 86 (.nck (.t 85)),
ir 87 (.fad 0 (.t 86)),
ir 88 (.ld 2 true (.t 87)),
ir 89 (.ld 10 true (.t 9)),
⟨.none,.none,(.st 2 (.t 4) (.t 88)),(.wr [9])⟩,
io (.st 10 (.t 5) (.t 89)),
ia 6 (.mv (ci 0))]) .ret)))))))))),[(.cell 4 2 true),(.cell 5 10 true),(.tmp 6)]⟩
theorem cc49 : ccF Try.prog [(43,[0,0]),(79,[1,0]),(60,[0,0]),(140,[0,0]),(43,[9]),(134,[8]),(136,[8]),(108,[8]),(135,[8]),(112,[8])] Try.f49 = some (stripF F49) := by kernel_rfl
def F50 : FnC := ⟨1,(.seq (.reg [
  ia 2 (.new [.nil,(.p (.i .i64 0))]),
ia 3 (.mv (ci 0))]) (.seq (.seq (.reg [
  ia 4 (.mv (.t 0)),
ia 5 (.bin .lss (.t 4) (ci 2)),
ia 6 (.mv (.t 5)),
ig 7 6 false (.mv (.t 0)),
ig 8 6 false (.bin .gtr (.t 7) (ci 4000)),
ia 9 (.pick (.t 6) (.c (.a (.p (.b true)))) (.t 8))]) (.cond (.t 9) (.seq (.reg [
  ia 10 (.build [.nil,(.p (.i .i64 0))] []),
io (.st 2 (.t 2) (.t 10)),
ia 3 (.mv (ci 1))]) .ret) .skip)) (.seq (.reg [
  ia 11 (.mv (.t 0)),
ia 12 (.build [(.p (.i .i64 0)),(.p (.i .i64 0))] [(0,(1,(ci 1)))]),
ia 13 (.bsl 2 43 [(.p (.i .i64 0)),(.p (.i .i64 0))] 1 [(0,(.t 12))]),
ia 14 (.build [(.p (.i .i64 0)),(.p (.i .i64 0)),(.p (.i .i64 0)),(.p (.s [])),.nil,.nil] [(0,(1,(ci 1))),(5,(1,(.t 13)))]),
ia 15 (.build [(.p (.i .i64 0)),(.p (.i .i64 0))] []),
ia 16 (.bsl 2 43 [(.p (.i .i64 0)),(.p (.i .i64 0))] 1 [(0,(.t 15))]),
ia 17 (.build [(.p (.i .i64 0)),(.p (.i .i64 0)),(.p (.i .i64 0)),(.p (.s [])),.nil,.nil] [(0,(1,(ci 13))),(5,(1,(.t 16)))]),
ia 18 (.bsl 6 41 [(.p (.i .i64 0)),(.p (.i .i64 0)),(.p (.i .i64 0)),(.p (.s [])),.nil,.nil] 2 [(0,(.t 14)),(1,(.t 17))]),
ia 19 (.build [.nil,(.p (.i .i64 0))] [(1,(1,(.t 11))),(0,(1,(.t 18)))]),
io (.st 2 (.t 2) (.t 19)),
ia 3 (.mv (ci 0))]) .ret))),[(.cell 2 2 true),(.tmp 3)]⟩
theorem cc50 : ccF Try.prog [(43,[0,0]),(79,[1,0]),(60,[0,0]),(140,[0,0]),(43,[9]),(134,[8]),(136,[8]),(108,[8]),(135,[8]),(112,[8])] Try.f50 = some (stripF F50) := by kernel_rfl
def F52b1 : C := (.seq (.reg [
  ia 63 (.bin .lss (.t 62) (.t 61))]) (.seq (.cond (.t 63) .skip (.exit 2)) (.seq (.block 3 (.seq (.reg [
  ia 64 (.mv (.t 62)),
ia 6 (.mv (.t 64))]) (.seq (.reg [
  ia 65 (.ld 2 true (.t 1)),
ia 66 (.mv (.t 4)),
ia 67 (.mv (.t 6)),
ia 68 (.build [(.p (.i .i64 0)),(.p (.i .i64 0))] [(0,(1,(.t 66))),(1,(1,(.t 67)))]),
ia 69 (.call (.f 77) [(.t 65),(.t 68)]),
ia 70 (.not (.t 69))]) (.cond (.t 70) (.seq (.reg [
  ia 2 (.mv (ci 120))]) .ret) .skip)))) (.reg [
  ia 71 (.bin .add (.t 62) (ci 1)),
ia 62 (.mv (.t 71))]))))
def F52b0 : C := (.seq (.reg [
  ia 36 (.bin .lss (.t 35) (.t 34))]) (.seq (.cond (.t 36) .skip (.exit 0)) (.seq (.block 1 (.seq (.reg [
  ia 37 (.mv (.t 35)),
ia 38 (.ias 6 (.t 33) (.t 35)),
ia 39 (.ld 6 true (.t 38)),
ia 5 (.new [(.p (.i .i64 0)),(.p (.i .i64 0)),(.p (.i .i64 0)),(.p (.s [])),.nil,.nil]),
ia 4 (.mv (.t 37)),
io (.st 6 (.t 5) (.t 39))]) (.seq (.seq (.reg [
  ia 40 (.ld 6 true (.t 5)),
ia 41 (.call (.f 75) [(.t 40)]),
ia 42 (.not (.t 41)),
ia 43 (.mv (.t 42)),
ih 44 43 false (.fad 5 (.t 5)),
ih 45 43 false (.ld 1 false (.t 44)),
ih 46 43 false (.len false (.t 45)),
ih 47 43 false (.ld 6 true (.t 5)),
ih 48 43 false (.call (.f 76) [(.t 47)]),
ig 49 43 false (.bin .neq (.t 46) (.t 48)),
ia 50 (.pick (.t 43) (.c (.a (.p (.b true)))) (.t 49)),
ia 51 (.mv (.t 50)),
ih 52 51 false (.fad 0 (.t 5)),
ih 53 51 false (.ld 1 false (.t 52)),
ih 54 51 false (.bin .eql (.t 53) (ci 1)),
ih 55 51 false (.mv (.t 4)),
ih 56 51 false (.bin .eql (.t 55) (ci 0)),
ig 57 51 false (.eqb true (.t 54) (.t 56)),
ia 58 (.pick (.t 51) (.c (.a (.p (.b true)))) (.t 57))]) (.cond (.t 58) (.seq (.reg [
  ia 2 (.mv (ci 120))]) .ret) .skip)) (.seq (.reg [
  ia 59 (.fad 5 (.t 5)),
ia 60 (.ld 1 false (.t 59)),
ia 61 (.len false (.t 60)),
ia 62 (.mv (ci 0))]) (.block 2 (.loop F52b1)))))) (.reg [
  ia 72 (.bin .add (.t 35) (ci 1)),
ia 35 (.mv (.t 72))]))))
def F52 : FnC := ⟨1,(.seq (.reg [
  ia 1 (.box 2 (.t 0)),
ia 2 (.mv (ci 0))]) (.seq (.reg [
  ia 7 (.fad 0 (.t 1)),
ia 8 (.ld 1 false (.t 7)),
ia 9 (.len false (.t 8)),
ia 10 (.bin .sub (.t 9) (ci 1)),
ia 3 (.mv (.t 10))]) (.seq (.seq (.reg [
  ia 11 (.fad 1 (.t 1)),
ia 12 (.ld 1 false (.t 11)),
ia 13 (.call (.f 74) [(.t 12),(ci 1),(ci 4000)]),
ia 14 (.not (.t 13)),
ia 15 (.mv (.t 14)),
ig 16 15 false (.mv (.t 3)),
ig 17 15 false (.bin .add (.t 16) (ci 1)),
ig 18 15 false (.fad 1 (.t 1)),
ig 19 15 false (.ld 1 false (.t 18)),
ig 20 15 false (.call (.f 74) [(.t 17),(ci 1),(.t 19)]),
ig 21 15 false (.not (.t 20)),
ia 22 (.pick (.t 15) (.c (.a (.p (.b true)))) (.t 21)),
ia 23 (.mv (.t 22)),
ig 24 23 false (.fad 0 (.t 1)),
ig 25 23 false (.ld 1 false (.t 24)),
ig 26 23 false (.mv (.t 3)),
ig 27 23 false (.ias 6 (.t 25) (.t 26)),
ig 28 23 false (.fad 0 (.t 27)),
ig 29 23 false (.ld 1 false (.t 28)),
ig 30 23 false (.bin .eql (.t 29) (ci 0)),
ia 31 (.pick (.t 23) (.c (.a (.p (.b true)))) (.t 30))]) (.cond (.t 31) (.seq (.reg [
  ia 2 (.mv (ci 120))]) .ret) .skip)) (.seq (.seq (.reg [
  ia 32 (.fad 0 (.t 1)),
ia 33 (.ld 1 false (.t 32)),
ia 34 (.len false (.t 33)),
ia 35 (.mv (ci 0))]) (.block 0 (.loop F52b0))) (.seq (.reg [
  ia 2 (.mv (ci 0))]) .ret))))),[(.tmp 2)]⟩
theorem cc52 : ccF Try.prog [(43,[0,0]),(79,[1,0]),(60,[0,0]),(140,[0,0]),(43,[9]),(134,[8]),(136,[8]),(108,[8]),(135,[8]),(112,[8])] Try.f52 = some (stripF F52) := by kernel_rfl
def F55b0 : C := (.seq (.seq (.reg [
  ia 29 (.fad 0 (.t 2)),
ia 30 (.ld 1 false (.t 29)),
ia 31 (.len false (.t 30)),
ia 32 (.bin .gtr (.t 31) (ci 0)),
ia 33 (.mv (.t 32)),
ig 34 33 true (.fad 0 (.t 2)),
ig 35 33 true (.ld 1 false (.t 34)),
ig 36 33 true (.fad 0 (.t 2)),
ig 37 33 true (.ld 1 false (.t 36)),
ig 38 33 true (.len false (.t 37)),
ig 39 33 true (.bin .sub (.t 38) (ci 1)),
ig 40 33 true (.ias 6 (.t 35) (.t 39)),
ig 41 33 true (.ld 6 true (.t 40)),
ig 42 33 true (.call (.f 79) [(.t 41)]),
ia 43 (.pick (.t 33) (.t 42) (.c (.a (.p (.b false)))))]) (.cond (.t 43) .skip (.exit 0))) (.block 1 (.reg [
  ia 44 (.fad 0 (.t 2)),
ia 45 (.ld 1 false (.t 44)),
ia 46 (.fad 0 (.t 2)),
ia 47 (.ld 1 false (.t 46)),
ia 48 (.len false (.t 47)),
ia 49 (.bin .sub (.t 48) (ci 1)),
ia 50 (.slc 6 41 (.t 45) .none (.some (.t 49)) .none),
ia 51 (.fad 0 (.t 2)),
io (.st 1 (.t 51) (.t 50))])))
def F55 : FnC := ⟨2,(.seq (.reg [
  ia 2 (.box 2 (.t 0)),
ia 4 (.new [.nil,(.p (.i .i64 0))]),
ia 5 (.mv (ci 0))]) (.seq (.seq (.reg [
  ia 6 (.mv (.t 1)),
ia 7 (.fad 0 (.t 2)),
ia 8 (.ld 1 false (.t 7)),
ia 9 (.len false (.t 8)),
ia 10 (.bin .sub (.t 9) (ci 1)),
ia 11 (.call (.f 74) [(.t 6),(ci 0),(.t 10)]),
ia 12 (.not (.t 11)),
ia 13 (.mv (.t 12)),
ig 14 13 false (.fad 0 (.t 2)),
ig 15 13 false (.ld 1 false (.t 14)),
ig 16 13 false (.mv (.t 1)),
ig 17 13 false (.ias 6 (.t 15) (.t 16)),
ig 18 13 false (.ld 6 true (.t 17)),
ig 19 13 false (.call (.f 79) [(.t 18)]),
ia 20 (.pick (.t 13) (.c (.a (.p (.b true)))) (.t 19))]) (.cond (.t 20) (.seq (.reg [
  ia 21 (.ld 2 true (.t 2)),
io (.st 2 (.t 4) (.t 21)),
ia 5 (.mv (ci 122))]) .ret) .skip)) (.seq (.reg [
  ia 22 (.ld 2 true (.t 2)),
ia 23 (.call (.f 80) [(.t 22)]),
io (.st 2 (.t 2) (.t 23))]) (.seq (.reg [
  ia 24 (.fad 0 (.t 2)),
ia 25 (.ld 1 false (.t 24)),
ia 26 (.mv (.t 1)),
ia 27 (.build [(.p (.i .i64 0)),(.p (.i .i64 0)),(.p (.i .i64 0)),(.p (.s [])),.nil,.nil] []),
ia 28 (.ias 6 (.t 25) (.t 26)),
io (.st 6 (.t 28) (.t 27))]) (.seq (.block 0 (.loop F55b0)) (.seq (.reg [
  ia 52 (.ld 2 true (.t 2)),
io (.st 2 (.t 4) (.t 52)),
ia 5 (.mv (ci 0))]) .ret)))))),[(.cell 4 2 true),(.tmp 5)]⟩
theorem cc55 : ccF Try.prog [(43,[0,0]),(79,[1,0]),(60,[0,0]),(140,[0,0]),(43,[9]),(134,[8]),(136,[8]),(108,[8]),(135,[8]),(112,[8])] Try.f55 = some (stripF F55) := by kernel_rfl
def F56b1 : C := (.seq (.seq (.reg [
  ia 140 (.mv (.t 4)),
ia 141 (.mv (.t 3)),
ia 142 (.bin .lss (.t 140) (.t 141))]) (.cond (.t 142) .skip (.exit 2))) (.seq (.block 3 (.seq (.reg [
  ir 145 (.fad 4 (.t 1)),
ir 146 (.ld 1 false (.t 145)),
ir 147 (.mv (.t 4)),
ir 148 (.ias 2 (.t 146) (.t 147)),
ir 149 (.fad 0 (.t 148)),
ir 150 (.ld 1 false (.t 149)),
ir 151 (.fad 4 (.t 1)),
ir 152 (.ld 1 false (.t 151)),
ir 153 (.mv (.t 3)),
ir 154 (.ias 2 (.t 152) (.t 153)),
ir 155 (.fad 0 (.t 154)),
ir 156 (.ld 1 false (.t 155)),
ia 157 (.bin .eql (.t 150) (.t 156))]) (.cond (.t 157) (.seq (.reg [
  ia 2 (.mv (.c (.a (.p (.b false)))))]) .ret) .skip))) (.reg [
  ia 143 (.mv (.t 4)),
ia 144 (.bin .add (.t 143) (ci 1)),
ia 4 (.mv (.t 144))])))
def F56b0 : C := (.seq (.seq (.reg [
  ia 108 (.mv (.t 3)),
ia 109 (.fad 4 (.t 1)),
ia 110 (.ld 1 false (.t 109)),
ia 111 (.len false (.t 110)),
ia 112 (.bin .lss (.t 108) (.t 111))]) (.cond (.t 112) .skip (.exit 0))) (.seq (.block 1 (.seq (.seq (.reg [
  ia 115 (.fad 4 (.t 1)),
ia 116 (.ld 1 false (.t 115)),
ia 117 (.mv (.t 3)),
ia 118 (.ias 2 (.t 116) (.t 117)),
ia 119 (.fad 0 (.t 118)),
ia 120 (.ld 1 false (.t 119)),
ia 121 (.bin .eql (.t 120) (.c (.a (.p (.s []))))),
ia 122 (.mv (.t 121)),
ig 123 122 false (.fad 4 (.t 1)),
ig 124 122 false (.ld 1 false (.t 123)),
ig 125 122 false (.mv (.t 3)),
ig 126 122 false (.ias 2 (.t 124) (.t 125)),
ig 127 122 false (.fad 1 (.t 126)),
ig 128 122 false (.ld 1 false (.t 127)),
ig 129 122 false (.bin .lss (.t 128) (ci 0)),
ia 130 (.pick (.t 122) (.c (.a (.p (.b true)))) (.t 129)),
ia 131 (.mv (.t 130)),
ig 132 131 false (.fad 4 (.t 1)),
ig 133 131 false (.ld 1 false (.t 132)),
ig 134 131 false (.mv (.t 3)),
ig 135 131 false (.ias 2 (.t 133) (.t 134)),
ig 136 131 false (.fad 1 (.t 135)),
ig 137 131 false (.ld 1 false (.t 136)),
ig 138 131 false (.bin .gtr (.t 137) (ci 8)),
ia 139 (.pick (.t 131) (.c (.a (.p (.b true)))) (.t 138))]) (.cond (.t 139) (.seq (.reg [
  ia 2 (.mv (.c (.a (.p (.b false)))))]) .ret) .skip)) (.seq (.reg [
  ia 4 (.mv (ci 0))]) (.block 2 (.loop F56b1))))) (.reg [
  ia 113 (.mv (.t 3)),
ia 114 (.bin .add (.t 113) (ci 1)),
ia 3 (.mv (.t 114))])))
def F56 : FnC := ⟨1,(.seq (.reg [
  ia 1 (.box 6 (.t 0)),
ia 2 (.mv (.c (.a (.p (.b false)))))]) (.seq (.seq (.reg [
  ia 5 (.fad 0 (.t 1)),
ia 6 (.ld 1 false (.t 5)),
ia 7 (.bin .lss (.t 6) (ci 0)),
ia 8 (.mv (.t 7)),
ig 9 8 false (.fad 0 (.t 1)),
ig 10 8 false (.ld 1 false (.t 9)),
ig 11 8 false (.bin .gtr (.t 10) (ci 13)),
ia 12 (.pick (.t 8) (.c (.a (.p (.b true)))) (.t 11)),
ia 13 (.mv (.t 12)),
ig 14 13 false (.fad 1 (.t 1)),
ig 15 13 false (.ld 1 false (.t 14)),
ig 16 13 false (.bin .lss (.t 15) (ci 0)),
ia 17 (.pick (.t 13) (.c (.a (.p (.b true)))) (.t 16)),
ia 18 (.mv (.t 17)),
ig 19 18 false (.fad 1 (.t 1)),
ig 20 18 false (.ld 1 false (.t 19)),
ig 21 18 false (.bin .gtr (.t 20) (ci 60)),
ia 22 (.pick (.t 18) (.c (.a (.p (.b true)))) (.t 21)),
ia 23 (.mv (.t 22)),
ig 24 23 false (.fad 0 (.t 1)),
ig 25 23 false (.ld 1 false (.t 24)),
ig 26 23 false (.bin .lss (.t 25) (ci 2)),
ig 27 23 false (.mv (.t 26)),
ig 28 27 true (.fad 1 (.t 1)),
ig 29 27 true (.ld 1 false (.t 28)),
ig 30 27 true (.bin .gtr (.t 29) (ci 0)),
ig 31 23 false (.pick (.t 27) (.t 30) (.c (.a (.p (.b false))))),
ia 32 (.pick (.t 23) (.c (.a (.p (.b true)))) (.t 31))]) (.cond (.t 32) (.seq (.reg [
  ia 2 (.mv (.c (.a (.p (.b false)))))]) .ret) .skip)) (.seq (.seq (.reg [
  ia 33 (.fad 3 (.t 1)),
ia 34 (.ld 1 false (.t 33)),
ia 35 (.bin .neq (.t 34) (.c (.a (.p (.s []))))),
ia 36 (.fad 0 (.t 1)),
ia 37 (.ld 1 false (.t 36)),
ia 38 (.bin .eql (.t 37) (ci 8)),
ia 39 (.mv (.t 38)),
ig 40 39 false (.fad 0 (.t 1)),
ig 41 39 false (.ld 1 false (.t 40)),
ig 42 39 false (.bin .eql (.t 41) (ci 11)),
ia 43 (.pick (.t 39) (.c (.a (.p (.b true)))) (.t 42)),
ia 44 (.mv (.t 43)),
ig 45 44 false (.fad 0 (.t 1)),
ig 46 44 false (.ld 1 false (.t 45)),
ig 47 44 false (.bin .eql (.t 46) (ci 12)),
ia 48 (.pick (.t 44) (.c (.a (.p (.b true)))) (.t 47)),
ia 49 (.eqb true (.t 35) (.t 48)),
ia 50 (.mv (.t 49)),
ig 51 50 false (.fad 2 (.t 1)),
ig 52 50 false (.ld 1 false (.t 51)),
ig 53 50 false (.bin .neq (.t 52) (ci 0)),
ig 54 50 false (.mv (.t 53)),
ig 55 54 true (.fad 0 (.t 1)),
ig 56 54 true (.ld 1 false (.t 55)),
ig 57 54 true (.bin .neq (.t 56) (ci 10)),
ig 58 50 false (.pick (.t 54) (.t 57) (.c (.a (.p (.b false))))),
ig 59 50 false (.mv (.t 58)),
ig 60 59 true (.fad 0 (.t 1)),
ig 61 59 true (.ld 1 false (.t 60)),
ig 62 59 true (.bin .neq (.t 61) (ci 12)),
ig 63 50 false (.pick (.t 59) (.t 62) (.c (.a (.p (.b false))))),
ia 64 (.pick (.t 50) (.c (.a (.p (.b true)))) (.t 63))]) (.cond (.t 64) (.seq (.reg [
  ia 2 (.mv (.c (.a (.p (.b false)))))]) .ret) .skip)) (.seq (.seq (.reg [
  ia 65 (.fad 0 (.t 1)),
ia 66 (.ld 1 false (.t 65)),
ia 67 (.bin .eql (.t 66) (ci 8)),
ia 68 (.mv (.t 67)),
ig 69 68 true (.fad 5 (.t 1)),
ig 70 68 true (.ld 1 false (.t 69)),
ig 71 68 true (.len false (.t 70)),
ig 72 68 true (.bin .lss (.t 71) (ci 1)),
ig 73 68 true (.mv (.t 72)),
ig 74 73 false (.fad 5 (.t 1)),
ig 75 73 false (.ld 1 false (.t 74)),
ig 76 73 false (.len false (.t 75)),
ig 77 73 false (.bin .gtr (.t 76) (ci 9)),
ig 78 68 true (.pick (.t 73) (.c (.a (.p (.b true)))) (.t 77)),
ia 79 (.pick (.t 68) (.t 78) (.c (.a (.p (.b false))))),
ia 80 (.mv (.t 79)),
ig 81 80 false (.fad 0 (.t 1)),
ig 82 80 false (.ld 1 false (.t 81)),
ig 83 80 false (.bin .eql (.t 82) (ci 9)),
ig 84 80 false (.mv (.t 83)),
ig 85 84 true (.fad 4 (.t 1)),
ig 86 84 true (.ld 1 false (.t 85)),
ig 87 84 true (.len false (.t 86)),
ig 88 84 true (.bin .lss (.t 87) (ci 1)),
ig 89 80 false (.pick (.t 84) (.t 88) (.c (.a (.p (.b false))))),
ia 90 (.pick (.t 80) (.c (.a (.p (.b true)))) (.t 89)),
ia 91 (.mv (.t 90)),
ig 92 91 false (.fad 0 (.t 1)),
ig 93 91 false (.ld 1 false (.t 92)),
ig 94 91 false (.bin .neq (.t 93) (ci 9)),
ig 95 91 false (.mv (.t 94)),
ig 96 95 true (.fad 4 (.t 1)),
ig 97 95 true (.ld 1 false (.t 96)),
ig 98 95 true (.len false (.t 97)),
ig 99 95 true (.bin .gtr (.t 98) (ci 0)),
ig 100 91 false (.pick (.t 95) (.t 99) (.c (.a (.p (.b false))))),
ia 101 (.pick (.t 91) (.c (.a (.p (.b true)))) (.t 100)),
ia 102 (.mv (.t 101)),
ig 103 102 false (.fad 4 (.t 1)),
ig 104 102 false (.ld 1 false (.t 103)),
ig 105 102 false (.len false (.t 104)),
ig 106 102 false (.bin .gtr (.t 105) (ci 8)),
ia 107 (.pick (.t 102) (.c (.a (.p (.b true)))) (.t 106))]) (.cond (.t 107) (.seq (.reg [
  ia 2 (.mv (.c (.a (.p (.b false)))))]) .ret) .skip)) (.seq (.seq (.reg [
  ia 3 (.mv (ci 0))]) (.block 0 (.loop F56b0))) (.seq (.reg [
  ia 2 (.mv (.c (.a (.p (.b true)))))]) .ret)))))),[(.tmp 2)]⟩
theorem cc56 : ccF Try.prog [(43,[0,0]),(79,[1,0]),(60,[0,0]),(140,[0,0]),(43,[9]),(134,[8]),(136,[8]),(108,[8]),(135,[8]),(112,[8])] Try.f56 = some (stripF F56) := by kernel_rfl
def F57 : FnC := ⟨1,(.seq (.reg [
  ia 1 (.box 6 (.t 0)),
ia 2 (.mv (ci 0))]) (.seq (.seq (.reg [
  ia 3 (.fad 0 (.t 1)),
ia 4 (.ld 1 false (.t 3))]) (.block 0 (.seq (.seq (.reg [
  ia 6 (.bin .eql (.t 4) (ci 1)),
ia 5 (.mv (.t 6))]) (.cond (.t 5) .skip (.seq (.reg [
  ia 7 (.bin .eql (.t 4) (ci 7)),
ia 5 (.mv (.t 7))]) (.cond (.t 5) .skip (.seq (.reg [
  ia 8 (.bin .eql (.t 4) (ci 10)),
ia 5 (.mv (.t 8))]) (.cond (.t 5) .skip (.reg [
  ia 9 (.bin .eql (.t 4) (ci 13)),
ia 5 (.mv (.t 9))]))))))) (.cond (.t 5) (.seq (.reg [
  ia 2 (.mv (ci 1))]) .ret) (.seq (.seq (.reg [
  ia 11 (.bin .eql (.t 4) (ci 5)),
ia 10 (.mv (.t 11))]) (.cond (.t 10) .skip (.seq (.reg [
  ia 12 (.bin .eql (.t 4) (ci 6)),
ia 10 (.mv (.t 12))]) (.cond (.t 10) .skip (.reg [
  ia 13 (.bin .eql (.t 4) (ci 12)),
ia 10 (.mv (.t 13))]))))) (.cond (.t 10) (.seq (.reg [
  ia 2 (.mv (ci 2))]) .ret) (.seq (.seq (.reg [
  ia 15 (.bin .eql (.t 4) (ci 2)),
ia 14 (.mv (.t 15))]) (.cond (.t 14) .skip (.seq (.reg [
  ia 16 (.bin .eql (.t 4) (ci 3)),
ia 14 (.mv (.t 16))]) (.cond (.t 14) .skip (.seq (.reg [
  ia 17 (.bin .eql (.t 4) (ci 4)),
ia 14 (.mv (.t 17))]) (.cond (.t 14) .skip (.reg [
  ia 18 (.bin .eql (.t 4) (ci 11)),
ia 14 (.mv (.t 18))]))))))) (.cond (.t 14) (.seq (.reg [
  ia 2 (.mv (ci 3))]) .ret) (.seq (.reg [
  ia 20 (.bin .eql (.t 4) (ci 8)),
ia 19 (.mv (.t 20))]) (.cond (.t 19) (.seq (.reg [
  ia 21 (.fad 5 (.t 1)),
ia 22 (.ld 1 false (.t 21)),
ia 23 (.len false (.t 22)),
ia 2 (.mv (.t 23))]) .ret) (.seq (.reg [
  ia 25 (.bin .eql (.t 4) (ci 9)),
ia 24 (.mv (.t 25))]) (.cond (.t 24) (.seq (.reg [
  ia 26 (.fad 4 (.t 1)),
ia 27 (.ld 1 false (.t 26)),
ia 28 (.len false (.t 27)),
ia 29 (.bin .add (ci 2) (.t 28)),
ia 2 (.mv (.t 29))]) .ret) .skip)))))))))))) (.seq (.reg [
  ia 2 (.mv (ci 0))]) .ret))),[(.tmp 2)]⟩
theorem cc57 : ccF Try.prog [(43,[0,0]),(79,[1,0]),(60,[0,0]),(140,[0,0]),(43,[9]),(134,[8]),(136,[8]),(108,[8]),(135,[8]),(112,[8])] Try.f57 = some (stripF F57) := by kernel_rfl
def F64 : FnC := ⟨1,(.seq (.reg [
  ia 2 (.mv (.c (.a .nil)))]) (.seq (.reg [
  ia 3 (.mv (.t 0)),
ia 4 (.call (.f 89) [(.c (.a .nil)),(.t 3)]),
ia 2 (.mv (.t 4))]) .ret)),[(.tmp 2)]⟩
theorem cc64 : ccF Try.prog [(43,[0,0]),(79,[1,0]),(60,[0,0]),(140,[0,0]),(43,[9]),(134,[8]),(136,[8]),(108,[8]),(135,[8]),(112,[8])] Try.f64 = some (stripF F64) := by kernel_rfl
def F65 : FnC := ⟨1,(.seq (.reg [
  ia 1 (.box 2 (.t 0)),
ia 2 (.mv (.c (.a (.raw .nilFunc))))]) (.seq (.reg [
  ia 3 (.fn 90 [(.t 1)]),
ia 2 (.mv (.t 3))]) .ret)),[(.tmp 2)]⟩
theorem cc65 : ccF Try.prog [(43,[0,0]),(79,[1,0]),(60,[0,0]),(140,[0,0]),(43,[9]),(134,[8]),(136,[8]),(108,[8]),(135,[8]),(112,[8])] Try.f65 = some (stripF F65) := by kernel_rfl
def F67 : FnC := ⟨2,(.seq (.reg [
  ia 2 (.box 2 (.t 0)),
ia 3 (.box 2 (.t 1)),
ia 4 (.mv (.c (.a (.p (.b false)))))]) (.seq (.reg [
  ir 8 (.fad 0 (.t 2)),
ir 9 (.ld 1 false (.t 8)),
ir 10 (.fad 0 (.t 3)),
ir 11 (.ld 1 false (.t 10)),
ir 12 (.ias 6 (.t 9) (.t 11)),
ir 13 (.ld 6 true (.t 12)),
ir 14 (.fad 0 (.t 2)),
ir 15 (.ld 1 false (.t 14)),
ir 16 (.fad 1 (.t 3)),
ir 17 (.ld 1 false (.t 16)),
ir 18 (.ias 6 (.t 15) (.t 17)),
ir 19 (.ld 6 true (.t 18)),
ir 20 (.call (.f 70) [(.t 13),(.t 19)]),
ir 7 (.mv (.t 20)),
ir 21 (.ext (.t 7) 0),
ir 22 (.ext (.t 7) 1),
⟨(.some 5),.none,(.new [(.p (.i .i64 0)),(.p (.b false)),(.p (.i .i64 0)),(.p (.i .i64 0)),(.p (.i .i64 0)),(.p (.i .i64 0)),(.p (.i .i64 0)),(.p (.s [])),.nil,.nil]),.ad⟩,
⟨.none,.none,(.st 10 (.t 5) (.t 21)),(.wr [])⟩,
ia 6 (.mv (.t 22))]) (.seq (.reg [
  ia 23 (.mv (.t 6)),
ia 24 (.bin .eql (.t 23) (ci 0)),
ia 4 (.mv (.t 24))]) .ret))),[(.tmp 4)]⟩
theorem cc67 : ccF Try.prog [(43,[0,0]),(79,[1,0]),(60,[0,0]),(140,[0,0]),(43,[9]),(134,[8]),(136,[8]),(108,[8]),(135,[8]),(112,[8])] Try.f67 = some (stripF F67) := by kernel_rfl
def F69 : FnC := ⟨2,(.seq (.reg [
  ia 2 (.box 2 (.t 0)),
ia 4 (.mv (ci 0))]) (.seq (.reg [
  ir 8 (.ld 2 true (.t 2)),
ir 9 (.mv (.t 1)),
ir 10 (.call (.f 95) [(.t 9),(ci 0)]),
ir 11 (.call (.f 86) [(.t 8),(.t 10)]),
ir 7 (.mv (.t 11)),
ir 12 (.ext (.t 7) 0),
ir 13 (.ext (.t 7) 1),
⟨(.some 5),.none,(.new [(.p (.i .i64 0)),(.p (.i .i64 0))]),.ad⟩,
⟨.none,.none,(.st 2 (.t 5) (.t 12)),(.wr [])⟩,
ia 6 (.mv (.t 13))]) (.seq (.seq (.reg [
  ia 14 (.mv (.t 6)),
ia 15 (.bin .neq (.t 14) (ci 0)),
ia 16 (.mv (.t 15)),
ig 17 16 false (.fad 1 (.t 5)),
ig 18 16 false (.ld 1 false (.t 17)),
ig 19 16 false (.bin .neq (.t 18) (ci 0)),
ia 20 (.pick (.t 16) (.c (.a (.p (.b true)))) (.t 19))]) (.cond (.t 20) (.seq (.reg [
  ia 4 (.mv (.c (.a (.p (.i .i64 (-1))))))]) .ret) .skip)) (.seq (.reg [
  ia 21 (.fad 0 (.t 5)),
ia 22 (.ld 1 false (.t 21)),
ia 4 (.mv (.t 22))]) .ret)))),[(.tmp 4)]⟩
theorem cc69 : ccF Try.prog [(43,[0,0]),(79,[1,0]),(60,[0,0]),(140,[0,0]),(43,[9]),(134,[8]),(136,[8]),(108,[8]),(135,[8]),(112,[8])] Try.f69 = some (stripF F69) := by kernel_rfl
def F70 : FnC := ⟨2,(.seq (.reg [
  ia 2 (.box 6 (.t 0)),
ia 3 (.box 6 (.t 1)),
ia 4 (.new [(.p (.i .i64 0)),(.p (.b false)),(.p (.i .i64 0)),(.p (.i .i64 0)),(.p (.i .i64 0)),(.p (.i .i64 0)),(.p (.i .i64 0)),(.p (.s [])),.nil,.nil]),
ia 5 (.mv (ci 0))]) (.seq (.reg [
  ia 8 (.fn 96 [(.t 2),(.t 3)]),
ia 6 (.mv (.t 8))]) (.seq (.reg [
  ia 9 (.fn 98 [(.t 2),(.t 3)]),
ia 7 (.mv (.t 9))]) (.seq (.block 0 (.seq (.reg [
  ia 11 (.mv (.t 7)),
ia 12 (.call (.t 11) [(ci 0)]),
ia 10 (.mv (.t 12))]) (.cond (.t 10) (.seq (.reg [
  ia 13 (.build [(.p (.i .i64 0)),(.p (.b false)),(.p (.i .i64 0)),(.p (.i .i64 0)),(.p (.i .i64 0)),(.p (.i .i64 0)),(.p (.i .i64 0)),(.p (.s [])),.nil,.nil] []),
io (.st 10 (.t 4) (.t 13)),
ia 5 (.mv (ci 140))]) .ret) (.seq (.reg [
  ia 15 (.fad 0 (.t 2)),
ia 16 (.ld 1 false (.t 15)),
ia 17 (.call (.f 97) [(.t 16)]),
ia 18 (.bin .eql (.t 17) (ci 4)),
ia 14 (.mv (.t 18))]) (.cond (.t 14) (.seq (.reg [
  ia 19 (.call (.f 99) [(ci 8)]),
ia 20 (.ext (.t 19) 0),
ia 21 (.ext (.t 19) 1),
io (.st 10 (.t 4) (.t 20)),
ia 5 (.mv (.t 21))]) .ret) (.seq (.reg [
  ia 23 (.fad 0 (.t 3)),
ia 24 (.ld 1 false (.t 23)),
ia 25 (.call (.f 97) [(.t 24)]),
ia 26 (.bin .eql (.t 25) (ci 4)),
ia 22 (.mv (.t 26))]) (.cond (.t 22) (.seq (.reg [
  ia 27 (.call (.f 99) [(ci 8)]),
ia 28 (.ext (.t 27) 0),
ia 29 (.ext (.t 27) 1),
ia 30 (.call (.f 100) [(.t 28),(.t 29)]),
ia 31 (.ext (.t 30) 0),
ia 32 (.ext (.t 30) 1),
io (.st 10 (.t 4) (.t 31)),
ia 5 (.mv (.t 32))]) .ret) (.seq (.reg [
  ia 34 (.mv (.t 6)),
ia 35 (.call (.t 34) [(ci 3),(ci 3)]),
ia 36 (.mv (.t 35)),
ig 37 36 true (.fad 1 (.t 2)),
ig 38 36 true (.ld 1 false (.t 37)),
ig 39 36 true (.fad 1 (.t 3)),
ig 40 36 true (.ld 1 false (.t 39)),
ig 41 36 true (.bin .eql (.t 38) (.t 40)),
ia 42 (.pick (.t 36) (.t 41) (.c (.a (.p (.b false))))),
ia 43 (.mv (.t 42)),
ig 44 43 true (.fad 0 (.t 2)),
ig 45 43 true (.ld 1 false (.t 44)),
ig 46 43 true (.fad 0 (.t 3)),
ig 47 43 true (.ld 1 false (.t 46)),
ig 48 43 true (.bin .eql (.t 45) (.t 47)),
ia 49 (.pick (.t 43) (.t 48) (.c (.a (.p (.b false))))),
ia 33 (.mv (.t 49))]) (.cond (.t 33) (.seq (.reg [
  ia 50 (.call (.f 99) [(ci 6)]),
ia 51 (.ext (.t 50) 0),
ia 52 (.ext (.t 50) 1),
io (.st 10 (.t 4) (.t 51)),
ia 5 (.mv (.t 52))]) .ret) (.seq (.reg [
  ia 54 (.fad 0 (.t 2)),
ia 55 (.ld 1 false (.t 54)),
ia 56 (.call (.f 97) [(.t 55)]),
ia 57 (.bin .eql (.t 56) (ci 3)),
ia 58 (.mv (.t 57)),
ig 59 58 true (.fad 0 (.t 3)),
ig 60 58 true (.ld 1 false (.t 59)),
ig 61 58 true (.call (.f 97) [(.t 60)]),
ig 62 58 true (.bin .neq (.t 61) (ci 3)),
ig 63 58 true (.mv (.t 62)),
ig 64 63 false (.fad 1 (.t 2)),
ig 65 63 false (.ld 1 false (.t 64)),
ig 66 63 false (.fad 1 (.t 3)),
ig 67 63 false (.ld 1 false (.t 66)),
ig 68 63 false (.bin .leq (.t 65) (.t 67)),
ig 69 58 true (.pick (.t 63) (.c (.a (.p (.b true)))) (.t 68)),
ia 70 (.pick (.t 58) (.t 69) (.c (.a (.p (.b false))))),
ia 53 (.mv (.t 70))]) (.cond (.t 53) (.seq (.reg [
  ia 71 (.ld 6 true (.t 2)),
ia 72 (.ld 6 true (.t 3)),
ia 73 (.call (.f 101) [(.t 71),(.t 72)]),
ia 74 (.ext (.t 73) 0),
ia 75 (.ext (.t 73) 1),
io (.st 10 (.t 4) (.t 74)),
ia 5 (.mv (.t 75))]) .ret) (.seq (.reg [
  ia 77 (.fad 0 (.t 3)),
ia 78 (.ld 1 false (.t 77)),
ia 79 (.call (.f 97) [(.t 78)]),
ia 80 (.bin .eql (.t 79) (ci 3)),
ia 76 (.mv (.t 80))]) (.cond (.t 76) (.seq (.reg [
  ia 81 (.ld 6 true (.t 3)),
ia 82 (.ld 6 true (.t 2)),
ia 83 (.call (.f 101) [(.t 81),(.t 82)]),
ia 84 (.ext (.t 83) 0),
ia 85 (.ext (.t 83) 1),
ia 86 (.call (.f 100) [(.t 84),(.t 85)]),
ia 87 (.ext (.t 86) 0),
ia 88 (.ext (.t 86) 1),
io (.st 10 (.t 4) (.t 87)),
ia 5 (.mv (.t 88))]) .ret) (.seq (.reg [
  ia 90 (.mv (.t 6)),
ia 91 (.call (.t 90) [(ci 1),(ci 2)]),
ia 89 (.mv (.t 91))]) (.cond (.t 89) (.seq (.reg [
  ia 92 (.ld 6 true (.t 2)),
ia 93 (.ld 6 true (.t 3)),
ia 94 (.call (.f 102) [(.t 92),(.t 93)]),
ia 95 (.ext (.t 94) 0),
ia 96 (.ext (.t 94) 1),
io (.st 10 (.t 4) (.t 95)),
ia 5 (.mv (.t 96))]) .ret) (.seq (.reg [
  ia 98 (.mv (.t 6)),
ia 99 (.call (.t 98) [(ci 2),(ci 1)]),
ia 97 (.mv (.t 99))]) (.cond (.t 97) (.seq (.reg [
  ia 100 (.ld 6 true (.t 3)),
ia 101 (.ld 6 true (.t 2)),
ia 102 (.call (.f 102) [(.t 100),(.t 101)]),
ia 103 (.ext (.t 102) 0),
ia 104 (.ext (.t 102) 1),
ia 105 (.call (.f 100) [(.t 103),(.t 104)]),
ia 106 (.ext (.t 105) 0),
ia 107 (.ext (.t 105) 1),
io (.st 10 (.t 4) (.t 106)),
ia 5 (.mv (.t 107))]) .ret) .skip))))))))))))))))) (.seq (.reg [
  ia 108 (.build [(.p (.i .i64 0)),(.p (.b false)),(.p (.i .i64 0)),(.p (.i .i64 0)),(.p (.i .i64 0)),(.p (.i .i64 0)),(.p (.i .i64 0)),(.p (.s [])),.nil,.nil] []),
io (.st 10 (.t 4) (.t 108)),
ia 5 (.mv (ci 140))]) .ret))))),[(.cell 4 10 true),(.tmp 5)]⟩
theorem cc70 : ccF Try.prog [(43,[0,0]),(79,[1,0]),(60,[0,0]),(140,[0,0]),(43,[9]),(134,[8]),(136,[8]),(108,[8]),(135,[8]),(112,[8])] Try.f70 = some (stripF F70) := by kernel_rfl
def F71b0 : C := (.seq (.reg [
  ia 10 (.bin .lss (.t 9) (.t 8))]) (.seq (.cond (.t 10) .skip (.exit 0)) (.seq (.block 1 (.seq (.reg [
  ia 11 (.ias 6 (.t 7) (.t 9)),
ia 12 (.ld 6 true (.t 11)),
ia 5 (.new [(.p (.i .i64 0)),(.p (.i .i64 0)),(.p (.i .i64 0)),(.p (.s [])),.nil,.nil]),
io (.st 6 (.t 5) (.t 12))]) (.seq (.reg [
  ia 13 (.ld 6 true (.t 5)),
ia 14 (.call (.f 79) [(.t 13)]),
ia 15 (.not (.t 14))]) (.cond (.t 15) (.reg [
  ia 16 (.mv (.t 3)),
ia 17 (.bin .add (.t 16) (ci 1)),
ia 3 (.mv (.t 17))]) .skip)))) (.reg [
  ia 18 (.bin .add (.t 9) (ci 1)),
ia 9 (.mv (.t 18))]))))
def F71 : FnC := ⟨1,(.seq (.reg [
  ia 1 (.box 2 (.t 0)),
ia 2 (.mv (ci 0))]) (.seq (.reg [
  ia 3 (.mv (ci 0))]) (.seq (.seq (.reg [
  ia 6 (.fad 0 (.t 1)),
ia 7 (.ld 1 false (.t 6)),
ia 8 (.len false (.t 7)),
ia 9 (.mv (ci 0))]) (.block 0 (.loop F71b0))) (.seq (.reg [
  ia 19 (.mv (.t 3)),
ia 2 (.mv (.t 19))]) .ret)))),[(.tmp 2)]⟩
theorem cc71 : ccF Try.prog [(43,[0,0]),(79,[1,0]),(60,[0,0]),(140,[0,0]),(43,[9]),(134,[8]),(136,[8]),(108,[8]),(135,[8]),(112,[8])] Try.f71 = some (stripF F71) := by kernel_rfl
def F72 : FnC := ⟨3,(.seq (.reg [
  ia 3 (.box 10 (.t 0)),
ia 4 (.box 6 (.t 1)),
ia 5 (.box 6 (.t 2)),
ia 6 (.mv (ci 0))]) (.seq (.reg [
  ir 9 (.ld 6 true (.t 4)),
ir 10 (.ld 6 true (.t 5)),
⟨(.some 7),.none,(.new [(.p (.i .i64 0)),(.p (.i .i64 0)),(.p (.i .i64 0)),(.p (.s [])),.nil,.nil]),.ad⟩,
⟨(.some 8),.none,(.new [(.p (.i .i64 0)),(.p (.i .i64 0)),(.p (.i .i64 0)),(.p (.s [])),.nil,.nil]),.ad⟩,
⟨.none,.none,(.st 6 (.t 7) (.t 9)),(.wr [5])⟩,
io (.st 6 (.t 8) (.t 10))]) (.seq (.seq (.reg [
  ia 11 (.fad 1 (.t 3)),
ia 12 (.ld 1 false (.t 11))]) (.cond (.t 12) (.reg [
  ir 13 (.ld 6 true (.t 5)),
ir 14 (.ld 6 true (.t 4)),
⟨.none,.none,(.st 6 (.t 7) (.t 13)),(.wr [4])⟩,
io (.st 6 (.t 8) (.t 14))]) .skip)) (.seq (.seq (.reg [
  ia 15 (.fad 0 (.t 3)),
ia 16 (.ld 1 false (.t 15))]) (.block 0 (.seq (.reg [
  ia 18 (.bin .eql (.t 16) (ci 2)),
ia 17 (.mv (.t 18))]) (.cond (.t 17) (.seq (.seq (.reg [
  ia 19 (.fad 3 (.t 3)),
ia 20 (.ld 1 false (.t 19)),
ia 21 (.bin .lss (.t 20) (ci 0)),
ia 22 (.mv (.t 21)),
ig 23 22 false (.fad 3 (.t 3)),
ig 24 22 false (.ld 1 false (.t 23)),
ig 25 22 false (.fad 4 (.t 7)),
ig 26 22 false (.ld 1 false (.t 25)),
ig 27 22 false (.len false (.t 26)),
ig 28 22 false (.bin .geq (.t 24) (.t 27)),
ia 29 (.pick (.t 22) (.c (.a (.p (.b true)))) (.t 28))]) (.cond (.t 29) (.seq (.reg [
  ia 6 (.mv (ci 0))]) .ret) .skip)) (.seq (.reg [
  ir 30 (.fad 4 (.t 7)),
ir 31 (.ld 1 false (.t 30)),
ir 32 (.fad 3 (.t 3)),
ir 33 (.ld 1 false (.t 32)),
ir 34 (.ias 2 (.t 31) (.t 33)),
ir 35 (.fad 1 (.t 34)),
ir 36 (.ld 1 false (.t 35)),
ir 37 (.fad 4 (.t 7)),
ir 38 (.ld 1 false (.t 37)),
ir 39 (.len false (.t 38)),
ia 40 (.bin .add (.t 36) (.t 39)),
ia 41 (.bin .sub (.t 40) (ci 1)),
ia 6 (.mv (.t 41))]) .ret)) (.seq (.seq (.reg [
  ia 43 (.bin .eql (.t 16) (ci 3)),
ia 42 (.mv (.t 43))]) (.cond (.t 42) .skip (.reg [
  ia 44 (.bin .eql (.t 16) (ci 4)),
ia 42 (.mv (.t 44))]))) (.cond (.t 42) (.seq (.reg [
  ia 6 (.mv (ci 1))]) .ret) (.seq (.reg [
  ia 46 (.bin .eql (.t 16) (ci 5)),
ia 45 (.mv (.t 46))]) (.cond (.t 45) (.seq (.reg [
  ir 47 (.ld 6 true (.t 7)),
ir 48 (.call (.f 103) [(.t 47)]),
ir 49 (.bin .sub (.t 48) (ci 1)),
ir 50 (.mx (.t 49) (ci 0)),
ir 51 (.bin .add (ci 1) (.t 50)),
ir 52 (.ld 6 true (.t 8)),
ir 53 (.call (.f 103) [(.t 52)]),
ia 54 (.bin .add (.t 51) (.t 53)),
ia 6 (.mv (.t 54))]) .ret) (.seq (.reg [
  ia 56 (.bin .eql (.t 16) (ci 7)),
ia 55 (.mv (.t 56))]) (.cond (.t 55) (.seq (.seq (.reg [
  ia 57 (.fad 0 (.t 7)),
ia 58 (.ld 1 false (.t 57)),
ia 59 (.bin .eql (.t 58) (ci 4))]) (.cond (.t 59) (.seq (.reg [
  ia 60 (.ld 6 true (.t 8)),
ia 61 (.call (.f 103) [(.t 60)]),
ia 62 (.bin .add (ci 2) (.t 61)),
ia 6 (.mv (.t 62))]) .ret) .skip)) (.seq (.reg [
  ia 63 (.ld 6 true (.t 8)),
ia 64 (.call (.f 103) [(.t 63)]),
ia 65 (.bin .add (ci 1) (.t 64)),
ia 6 (.mv (.t 65))]) .ret)) (.seq (.reg [
  ia 67 (.bin .eql (.t 16) (ci 8)),
ia 66 (.mv (.t 67))]) (.cond (.t 66) (.seq (.reg [
  ia 68 (.ld 6 true (.t 8)),
ia 69 (.call (.f 103) [(.t 68)]),
ia 6 (.mv (.t 69))]) .ret) .skip)))))))))))) (.seq (.reg [
  ia 6 (.mv (ci 0))]) .ret))))),[(.tmp 6)]⟩
theorem cc72 : ccF Try.prog [(43,[0,0]),(79,[1,0]),(60,[0,0]),(140,[0,0]),(43,[9]),(134,[8]),(136,[8]),(108,[8]),(135,[8]),(112,[8])] Try.f72 = some (stripF F72) := by kernel_rfl
def F73b0 : C := (.seq (.reg [
  ia 79 (.bin .lss (.t 78) (.t 77))]) (.seq (.cond (.t 79) .skip (.exit 1)) (.seq (.block 2 (.seq (.reg [
  ia 80 (.ias 1 (.t 76) (.t 78)),
ia 81 (.ld 1 false (.t 80)),
ia 3 (.mv (.t 81))]) (.reg [
  ia 83 (.mv (.t 0)),
ia 84 (.mv (.t 0)),
ia 85 (.nck (.t 84)),
ia 86 (.fad 0 (.t 85)),
ia 87 (.ld 2 true (.t 86)),
ia 88 (.mv (.t 3)),
ia 89 (.call (.f 55) [(.t 87),(.t 88)]),
ia 82 (.mv (.t 89)),
ia 90 (.ext (.t 82) 0),
ia 91 (.ext (.t 82) 1),
ia 92 (.nck (.t 83)),
ia 93 (.fad 0 (.t 92)),
io (.st 2 (.t 93) (.t 90))]))) (.reg [
  ia 94 (.bin .add (.t 78) (ci 1)),
ia 78 (.mv (.t 94))]))))
def F73 : FnC := ⟨1,(.seq (.seq (.reg [
  ia 4 (.mv (.t 0)),
ia 5 (.nck (.t 4)),
ia 6 (.fad 2 (.t 5)),
ia 7 (.fad 0 (.t 6)),
ia 8 (.ld 1 false (.t 7))]) (.block 0 (.seq (.seq (.reg [
  ia 10 (.bin .eql (.t 8) (ci 1)),
ia 9 (.mv (.t 10))]) (.cond (.t 9) .skip (.reg [
  ia 11 (.bin .eql (.t 8) (ci 6)),
ia 9 (.mv (.t 11))]))) (.cond (.t 9) (.reg [
  ia 12 (.mv (.t 0)),
ia 13 (.call (.f 104) [(.t 12)])]) (.seq (.reg [
  ia 15 (.bin .eql (.t 8) (ci 2)),
ia 14 (.mv (.t 15))]) (.cond (.t 14) (.reg [
  ia 16 (.mv (.t 0)),
ia 17 (.call (.f 105) [(.t 16)])]) (.seq (.reg [
  ia 19 (.bin .eql (.t 8) (ci 3)),
ia 18 (.mv (.t 19))]) (.cond (.t 18) (.reg [
  ia 20 (.mv (.t 0)),
ia 21 (.call (.f 106) [(.t 20)])]) (.seq (.reg [
  ia 23 (.bin .eql (.t 8) (ci 4)),
ia 22 (.mv (.t 23))]) (.cond (.t 22) (.reg [
  ir 24 (.mv (.t 0)),
ir 25 (.mv (.t 0)),
ir 26 (.nck (.t 25)),
ir 27 (.fad 12 (.t 26)),
ir 28 (.ld 1 false (.t 27)),
ir 29 (.call (.f 95) [(.t 28),(ci 1)]),
ir 30 (.mv (.t 0)),
ir 31 (.mv (.t 0)),
ir 32 (.nck (.t 31)),
ir 33 (.fad 2 (.t 32)),
ir 34 (.fad 4 (.t 33)),
ir 35 (.ld 6 true (.t 34)),
⟨(.some 36),.none,(.call (.f 108) [(.t 30),(.t 35)]),(.cl [] [])⟩,
ir 37 (.call (.f 95) [(.t 36),(ci 0)]),
ia 38 (.call (.f 107) [(.t 24),(.t 29),(.t 37)])]) (.seq (.reg [
  ia 40 (.bin .eql (.t 8) (ci 5)),
ia 39 (.mv (.t 40))]) (.cond (.t 39) (.reg [
  ia 41 (.mv (.t 0)),
ia 42 (.call (.f 109) [(.t 41)])]) (.seq (.reg [
  ia 44 (.bin .eql (.t 8) (ci 7)),
ia 43 (.mv (.t 44))]) (.cond (.t 43) (.reg [
  ia 45 (.mv (.t 0)),
ia 46 (.call (.f 110) [(.t 45)])]) (.seq (.reg [
  ia 48 (.bin .eql (.t 8) (ci 8)),
ia 47 (.mv (.t 48))]) (.cond (.t 47) (.reg [
  ia 49 (.mv (.t 0)),
ia 50 (.mv (.t 0)),
ia 51 (.mv (.t 0)),
ia 52 (.nck (.t 51)),
ia 53 (.fad 13 (.t 52)),
ia 54 (.ld 1 false (.t 53)),
ia 55 (.call (.f 112) [(.t 50),(.t 54),(ci 1)]),
ia 56 (.call (.f 111) [(.t 49),(.t 55)]),
ia 57 (.call (.t 56) [])]) .skip)))))))))))))))) (.seq (.reg [
  ir 58 (.mv (.t 0)),
ir 59 (.nck (.t 58)),
ir 60 (.fad 12 (.t 59)),
ir 61 (.ld 1 false (.t 60)),
ir 62 (.mv (.t 0)),
ir 63 (.nck (.t 62)),
ir 64 (.fad 13 (.t 63)),
ir 65 (.ld 1 false (.t 64)),
ir 66 (.mx (.t 61) (.t 65)),
ir 67 (.mv (.t 0)),
ir 68 (.nck (.t 67)),
ir 69 (.fad 12 (.t 68)),
ir 70 (.ld 1 false (.t 69)),
ir 71 (.mv (.t 0)),
ir 72 (.nck (.t 71)),
ir 73 (.fad 13 (.t 72)),
ir 74 (.ld 1 false (.t 73)),
ir 75 (.mn (.t 70) (.t 74)),
⟨(.some 76),.none,(.bsl 1 3 [(.p (.i .i64 0))] 2 [(0,(.t 66)),(1,(.t 75))]),.ad⟩,
ir 77 (.len false (.t 76)),
ir 78 (.mv (ci 0))]) (.block 1 (.loop F73b0)))),[]⟩
theorem cc73 : ccF Try.prog [(43,[0,0]),(79,[1,0]),(60,[0,0]),(140,[0,0]),(43,[9]),(134,[8]),(136,[8]),(108,[8]),(135,[8]),(112,[8])] Try.f73 = some (stripF F73) := by kernel_rfl
def F74 : FnC := ⟨3,(.seq (.reg [
  ia 6 (.mv (.c (.a (.p (.b false)))))]) (.seq (.reg [
  ia 7 (.mv (.t 0)),
ia 8 (.mv (.t 1)),
ia 9 (.bin .geq (.t 7) (.t 8)),
ia 10 (.mv (.t 9)),
ig 11 10 true (.mv (.t 0)),
ig 12 10 true (.mv (.t 2)),
ig 13 10 true (.bin .leq (.t 11) (.t 12)),
ia 14 (.pick (.t 10) (.t 13) (.c (.a (.p (.b false))))),
ia 6 (.mv (.t 14))]) .ret)),[(.tmp 6)]⟩
theorem cc74 : ccF Try.prog [(43,[0,0]),(79,[1,0]),(60,[0,0]),(140,[0,0]),(43,[9]),(134,[8]),(136,[8]),(108,[8]),(135,[8]),(112,[8])] Try.f74 = some (stripF F74) := by kernel_rfl
def F75 : FnC := ⟨1,(.seq (.reg [
  ia 1 (.box 6 (.t 0)),
ia 2 (.mv (.c (.a (.p (.b false)))))]) (.seq (.seq (.reg [
  ia 6 (.fad 0 (.t 1)),
ia 7 (.ld 1 false (.t 6)),
ia 8 (.call (.f 74) [(.t 7),(ci 0),(ci 13)]),
ia 9 (.not (.t 8)),
ia 10 (.mv (.t 9)),
ig 11 10 false (.ld 6 true (.t 1)),
ig 12 10 false (.call (.f 113) [(.t 11)]),
ig 13 10 false (.not (.t 12)),
ia 14 (.pick (.t 10) (.c (.a (.p (.b true)))) (.t 13))]) (.cond (.t 14) (.seq (.reg [
  ia 2 (.mv (.c (.a (.p (.b false)))))]) .ret) .skip)) (.seq (.reg [
  ia 15 (.fad 0 (.t 1)),
ia 16 (.ld 1 false (.t 15)),
ia 17 (.bin .eql (.t 16) (ci 8)),
ia 18 (.mv (.t 17)),
ig 19 18 false (.fad 0 (.t 1)),
ig 20 18 false (.ld 1 false (.t 19)),
ig 21 18 false (.bin .eql (.t 20) (ci 11)),
ia 22 (.pick (.t 18) (.c (.a (.p (.b true)))) (.t 21)),
ia 23 (.mv (.t 22)),
ig 24 23 false (.fad 0 (.t 1)),
ig 25 23 false (.ld 1 false (.t 24)),
ig 26 23 false (.bin .eql (.t 25) (ci 12)),
ia 27 (.pick (.t 23) (.c (.a (.p (.b true)))) (.t 26)),
ia 3 (.mv (.t 27))]) (.seq (.reg [
  ia 28 (.fad 0 (.t 1)),
ia 29 (.ld 1 false (.t 28)),
ia 30 (.bin .eql (.t 29) (ci 10)),
ia 31 (.mv (.t 30)),
ig 32 31 false (.fad 0 (.t 1)),
ig 33 31 false (.ld 1 false (.t 32)),
ig 34 31 false (.bin .eql (.t 33) (ci 12)),
ia 35 (.pick (.t 31) (.c (.a (.p (.b true)))) (.t 34)),
ia 4 (.mv (.t 35))]) (.seq (.reg [
  ia 5 (.mv (ci 60))]) (.seq (.seq (.reg [
  ia 36 (.fad 0 (.t 1)),
ia 37 (.ld 1 false (.t 36)),
ia 38 (.bin .eql (.t 37) (ci 0)),
ia 39 (.mv (.t 38)),
ig 40 39 false (.fad 0 (.t 1)),
ig 41 39 false (.ld 1 false (.t 40)),
ig 42 39 false (.bin .eql (.t 41) (ci 1)),
ia 43 (.pick (.t 39) (.c (.a (.p (.b true)))) (.t 42))]) (.cond (.t 43) (.reg [
  ia 5 (.mv (ci 0))]) .skip)) (.seq (.reg [
  ia 44 (.fad 1 (.t 1)),
ia 45 (.ld 1 false (.t 44)),
ia 46 (.mv (.t 5)),
ia 47 (.call (.f 74) [(.t 45),(ci 0),(.t 46)]),
ia 48 (.mv (.t 47)),
ig 49 48 true (.fad 3 (.t 1)),
ig 50 48 true (.ld 1 false (.t 49)),
ig 51 48 true (.bin .neq (.t 50) (.c (.a (.p (.s []))))),
ig 52 48 true (.mv (.t 3)),
ig 53 48 true (.eqb false (.t 51) (.t 52)),
ia 54 (.pick (.t 48) (.t 53) (.c (.a (.p (.b false))))),
ia 55 (.mv (.t 54)),
ig 56 55 true (.fad 2 (.t 1)),
ig 57 55 true (.ld 1 false (.t 56)),
ig 58 55 true (.bin .eql (.t 57) (ci 0)),
ig 59 55 true (.mv (.t 58)),
ig 60 59 false (.mv (.t 4)),
ig 61 55 true (.pick (.t 59) (.c (.a (.p (.b true)))) (.t 60)),
ia 62 (.pick (.t 55) (.t 61) (.c (.a (.p (.b false))))),
ia 63 (.mv (.t 62)),
ig 64 63 true (.fad 0 (.t 1)),
ig 65 63 true (.ld 1 false (.t 64)),
ig 66 63 true (.bin .neq (.t 65) (ci 8)),
ig 67 63 true (.mv (.t 66)),
ig 68 67 false (.fad 5 (.t 1)),
ig 69 67 false (.ld 1 false (.t 68)),
ig 70 67 false (.len false (.t 69)),
ig 71 67 false (.call (.f 74) [(.t 70),(ci 1),(ci 9)]),
ig 72 63 true (.pick (.t 67) (.c (.a (.p (.b true)))) (.t 71)),
ia 73 (.pick (.t 63) (.t 72) (.c (.a (.p (.b false))))),
ia 2 (.mv (.t 73))]) .ret))))))),[(.tmp 2)]⟩
theorem cc75 : ccF Try.prog [(43,[0,0]),(79,[1,0]),(60,[0,0]),(140,[0,0]),(43,[9]),(134,[8]),(136,[8]),(108,[8]),(135,[8]),(112,[8])] Try.f75 = some (stripF F75) := by kernel_rfl
def F76 : FnC := ⟨1,(.seq (.reg [
  ia 1 (.box 6 (.t 0)),
ia 2 (.mv (ci 0))]) (.seq (.block 0 (.seq (.reg [
  ia 4 (.fad 0 (.t 1)),
ia 5 (.ld 1 false (.t 4)),
ia 6 (.bin .eql (.t 5) (ci 8)),
ia 3 (.mv (.t 6))]) (.cond (.t 3) (.seq (.reg [
  ia 7 (.fad 5 (.t 1)),
ia 8 (.ld 1 false (.t 7)),
ia 9 (.len false (.t 8)),
ia 2 (.mv (.t 9))]) .ret) (.seq (.reg [
  ia 11 (.fad 0 (.t 1)),
ia 12 (.ld 1 false (.t 11)),
ia 13 (.bin .eql (.t 12) (ci 9)),
ia 10 (.mv (.t 13))]) (.cond (.t 10) (.seq (.reg [
  ia 14 (.fad 4 (.t 1)),
ia 15 (.ld 1 false (.t 14)),
ia 16 (.len false (.t 15)),
ia 17 (.bin .add (ci 2) (.t 16)),
ia 2 (.mv (.t 17))]) .ret) (.seq (.reg [
  ia 19 (.fad 0 (.t 1)),
ia 20 (.ld 1 false (.t 19)),
ia 21 (.call (.f 74) [(.t 20),(ci 0),(ci 13)]),
ia 18 (.mv (.t 21))]) (.cond (.t 18) (.seq (.reg [
  ir 22 (.call (.f 114) []),
ir 23 (.fad 0 (.t 1)),
ir 24 (.ld 1 false (.t 23)),
ia 25 (.ixa 14 1 false (.t 22) (.t 24)),
ia 2 (.mv (.t 25))]) .ret) .skip))))))) (.seq (.reg [
  ia 2 (.mv (ci 0))]) .ret))),[(.tmp 2)]⟩
theorem cc76 : ccF Try.prog [(43,[0,0]),(79,[1,0]),(60,[0,0]),(140,[0,0]),(43,[9]),(134,[8]),(136,[8]),(108,[8]),(135,[8]),(112,[8])] Try.f76 = some (stripF F76) := by kernel_rfl
def F77 : FnC := ⟨2,(.seq (.reg [
  ia 2 (.box 2 (.t 0)),
ia 3 (.box 2 (.t 1)),
ia 4 (.mv (.c (.a (.p (.b false)))))]) (.seq (.reg [
  ir 6 (.fad 0 (.t 2)),
ir 7 (.ld 1 false (.t 6)),
ir 8 (.fad 0 (.t 3)),
ir 9 (.ld 1 false (.t 8)),
ir 10 (.ias 6 (.t 7) (.t 9)),
ir 11 (.fad 5 (.t 10)),
ir 12 (.ld 1 false (.t 11)),
ir 13 (.fad 1 (.t 3)),
ir 14 (.ld 1 false (.t 13)),
ir 15 (.ias 2 (.t 12) (.t 14)),
ir 16 (.ld 2 true (.t 15)),
⟨(.some 5),.none,(.new [(.p (.i .i64 0)),(.p (.i .i64 0))]),.ad⟩,
io (.st 2 (.t 5) (.t 16))]) (.seq (.seq (.reg [
  ir 17 (.ld 2 true (.t 5)),
ir 18 (.ld 2 true (.t 3)),
ia 19 (.eqg false [0,0] (.t 17) (.t 18)),
ia 20 (.mv (.t 19)),
ih 21 20 false (.fad 0 (.t 5)),
ih 22 20 false (.ld 1 false (.t 21)),
ih 23 20 false (.fad 0 (.t 2)),
ih 24 20 false (.ld 1 false (.t 23)),
ih 25 20 false (.len false (.t 24)),
ih 26 20 false (.bin .sub (.t 25) (ci 1)),
ig 27 20 false (.call (.f 74) [(.t 22),(ci 0),(.t 26)]),
ig 28 20 false (.not (.t 27)),
ia 29 (.pick (.t 20) (.c (.a (.p (.b true)))) (.t 28)),
ia 30 (.mv (.t 29)),
ih 31 30 false (.fad 1 (.t 5)),
ih 32 30 false (.ld 1 false (.t 31)),
ih 33 30 false (.fad 0 (.t 2)),
ih 34 30 false (.ld 1 false (.t 33)),
ih 35 30 false (.fad 0 (.t 5)),
ih 36 30 false (.ld 1 false (.t 35)),
ih 37 30 false (.ias 6 (.t 34) (.t 36)),
ih 38 30 false (.fad 5 (.t 37)),
ih 39 30 false (.ld 1 false (.t 38)),
ih 40 30 false (.len false (.t 39)),
ih 41 30 false (.bin .sub (.t 40) (ci 1)),
ig 42 30 false (.call (.f 74) [(.t 32),(ci 0),(.t 41)]),
ig 43 30 false (.not (.t 42)),
ia 44 (.pick (.t 30) (.c (.a (.p (.b true)))) (.t 43))]) (.cond (.t 44) (.seq (.reg [
  ia 4 (.mv (.c (.a (.p (.b false)))))]) .ret) .skip)) (.seq (.reg [
  ir 45 (.fad 0 (.t 2)),
ir 46 (.ld 1 false (.t 45)),
ir 47 (.fad 0 (.t 5)),
ir 48 (.ld 1 false (.t 47)),
ir 49 (.ias 6 (.t 46) (.t 48)),
ir 50 (.fad 5 (.t 49)),
ir 51 (.ld 1 false (.t 50)),
ir 52 (.fad 1 (.t 5)),
ir 53 (.ld 1 false (.t 52)),
ir 54 (.ias 2 (.t 51) (.t 53)),
ir 55 (.ld 2 true (.t 54)),
ir 56 (.ld 2 true (.t 3)),
ia 57 (.eqg false [0,0] (.t 55) (.t 56)),
ia 4 (.mv (.t 57))]) .ret)))),[(.tmp 4)]⟩
theorem cc77 : ccF Try.prog [(43,[0,0]),(79,[1,0]),(60,[0,0]),(140,[0,0]),(43,[9]),(134,[8]),(136,[8]),(108,[8]),(135,[8]),(112,[8])] Try.f77 = some (stripF F77) := by kernel_rfl
def F79 : FnC := ⟨1,(.seq (.reg [
  ia 1 (.box 6 (.t 0)),
ia 2 (.mv (.c (.a (.p (.b false)))))]) (.seq (.reg [
  ia 3 (.fad 0 (.t 1)),
ia 4 (.ld 1 false (.t 3)),
ia 5 (.bin .eql (.t 4) (ci 0)),
ia 2 (.mv (.t 5))]) .ret)),[(.tmp 2)]⟩
theorem cc79 : ccF Try.prog [(43,[0,0]),(79,[1,0]),(60,[0,0]),(140,[0,0]),(43,[9]),(134,[8]),(136,[8]),(108,[8]),(135,[8]),(112,[8])] Try.f79 = some (stripF F79) := by kernel_rfl
def F80 : FnC := ⟨1,(.seq (.reg [
  ia 1 (.box 2 (.t 0)),
ia 2 (.new [.nil,(.p (.i .i64 0))])]) (.seq (.reg [
  ir 3 (.fad 0 (.t 1)),
ir 4 (.ld 1 false (.t 3)),
ir 5 (.len false (.t 4)),
ir 6 (.bin .add (.t 5) (ci 1)),
⟨(.some 7),.none,(.msl 6 41 88 [(.p (.i .i64 0)),(.p (.i .i64 0)),(.p (.i .i64 0)),(.p (.s [])),.nil,.nil] (ci 0) (.t 6)),.ad⟩,
ir 8 (.fad 0 (.t 1)),
ir 9 (.ld 1 false (.t 8)),
ia 10 (.app 6 41 88 (.t 7) (.t 9)),
ia 11 (.fad 0 (.t 1)),
io (.st 1 (.t 11) (.t 10))]) (.seq (.reg [
  ia 12 (.ld 2 true (.t 1)),
io (.st 2 (.t 2) (.t 12))]) .ret))),[(.cell 2 2 true)]⟩
theorem cc80 : ccF Try.prog [(43,[0,0]),(79,[1,0]),(60,[0,0]),(140,[0,0]),(43,[9]),(134,[8]),(136,[8]),(108,[8]),(135,[8]),(112,[8])] Try.f80 = some (stripF F80) := by kernel_rfl
def F86 : FnC := ⟨2,(.seq (.reg [
  ia 2 (.box 2 (.t 0)),
ia 3 (.box 2 (.t 1)),
ia 4 (.new [(.p (.i .i64 0)),(.p (.i .i64 0))]),
ia 5 (.mv (ci 0))]) (.seq (.reg [
  ia 7 (.ld 2 true (.t 2)),
ia 8 (.build [.nil,(.p (.i .i64 0))] [(0,(2,(.t 7)))]),
ia 6 (.new [.nil,(.p (.i .i64 0))]),
io (.st 2 (.t 6) (.t 8))]) (.seq (.seq (.reg [
  ia 9 (.ld 2 true (.t 6)),
ia 10 (.ld 2 true (.t 3)),
ia 11 (.bsl 2 43 [(.p (.i .i64 0)),(.p (.i .i64 0))] 1 [(0,(.t 10))]),
ia 12 (.call (.f 122) [(.t 9),(.t 11)]),
ia 13 (.not (.t 12))]) (.cond (.t 13) (.seq (.reg [
  ia 14 (.build [(.p (.i .i64 0)),(.p (.i .i64 0))] []),
io (.st 2 (.t 4) (.t 14)),
ia 5 (.mv (ci 130))]) .ret) .skip)) (.seq (.reg [
  ia 15 (.ld 2 true (.t 6)),
ia 16 (.ld 2 true (.t 3)),
ia 17 (.call (.f 123) [(.t 15),(.t 16)]),
io (.st 2 (.t 4) (.t 17)),
ia 5 (.mv (ci 0))]) .ret)))),[(.cell 4 2 true),(.tmp 5)]⟩
theorem cc86 : ccF Try.prog [(43,[0,0]),(79,[1,0]),(60,[0,0]),(140,[0,0]),(43,[9]),(134,[8]),(136,[8]),(108,[8]),(135,[8]),(112,[8])] Try.f86 = some (stripF F86) := by kernel_rfl
def F89 : FnC := ⟨2,(.seq (.reg [
  ia 2 (.box 1 (.t 0)),
ia 4 (.mv (.c (.a .nil)))]) (.seq (.seq (.reg [
  ia 6 (.mv (.t 1))]) (.block 0 (.rng (.t 6) [7] (.reg [
  ia 5 (.new [(.p (.i .i64 0)),(.p (.i .i64 0))]),
io (.st 2 (.t 5) (.t 7))]) (.block 1 (.reg [
  ia 8 (.ld 1 false (.t 2)),
ia 9 (.ld 2 true (.t 5)),
ia 10 (.bsl 2 60 [(.p (.i .i64 0)),(.p (.i .i64 0))] 1 [(0,(.t 9))]),
ia 11 (.app 2 60 16 (.t 8) (.t 10)),
io (.st 1 (.t 2) (.t 11))]))))) (.seq (.reg [
  ia 12 (.ld 1 false (.t 2)),
ia 4 (.mv (.t 12))]) .ret))),[(.tmp 4)]⟩
theorem cc89 : ccF Try.prog [(43,[0,0]),(79,[1,0]),(60,[0,0]),(140,[0,0]),(43,[9]),(134,[8]),(136,[8]),(108,[8]),(135,[8]),(112,[8])] Try.f89 = some (stripF F89) := by kernel_rfl
def F90b0 : C := (.seq (.reg [
  ia 13 (.bin .lss (.t 12) (.t 11))]) (.seq (.cond (.t 13) .skip (.exit 0)) (.seq (.block 1 (.seq (.reg [
  ia 14 (.mv (.t 12)),
ia 3 (.mv (.t 14))]) (.seq (.reg [
  ia 16 (.ld 2 true (.t 1)),
ia 17 (.mv (.t 3)),
ia 18 (.build [(.p (.i .i64 0)),(.p (.i .i64 0))] [(0,(1,(.t 17)))]),
ia 19 (.call (.f 86) [(.t 16),(.t 18)]),
ia 15 (.mv (.t 19)),
ia 20 (.ext (.t 15) 0),
ia 21 (.ext (.t 15) 1),
ia 4 (.new [(.p (.i .i64 0)),(.p (.i .i64 0))]),
io (.st 2 (.t 4) (.t 20)),
ia 5 (.mv (.t 21))]) (.seq (.seq (.reg [
  ia 22 (.mv (.t 5)),
ia 23 (.bin .neq (.t 22) (ci 0)),
ia 24 (.mv (.t 23)),
ig 25 24 false (.fad 1 (.t 4)),
ig 26 24 false (.ld 1 false (.t 25)),
ig 27 24 false (.bin .neq (.t 26) (ci 0)),
ia 28 (.pick (.t 24) (.c (.a (.p (.b true)))) (.t 27)),
ia 29 (.mv (.t 28)),
ig 30 29 false (.fad 0 (.t 4)),
ig 31 29 false (.ld 1 false (.t 30)),
ig 32 29 false (.mv (.t 3)),
ig 33 29 false (.bin .leq (.t 31) (.t 32)),
ia 34 (.pick (.t 29) (.c (.a (.p (.b true)))) (.t 33))]) (.cond (.t 34) (.exit 1) .skip)) (.seq (.reg [
  ia 35 (.mv (.t 0)),
ia 36 (.mv (.t 3)),
ia 37 (.fad 0 (.t 4)),
ia 38 (.ld 1 false (.t 37)),
ia 39 (.build [(.p (.i .i64 0)),(.p (.i .i64 0))] [(0,(1,(.t 36))),(1,(1,(.t 38)))]),
ia 40 (.call (.t 35) [(.t 39)]),
ia 41 (.not (.t 40))]) (.cond (.t 41) .ret .skip)))))) (.reg [
  ia 42 (.bin .add (.t 12) (ci 1)),
ia 12 (.mv (.t 42))]))))
def F90 : FnC := ⟨2,(.seq (.seq (.reg [
  ia 6 (.ld 2 true (.t 1)),
ia 7 (.call (.f 52) [(.t 6)]),
ia 8 (.bin .neq (.t 7) (ci 0))]) (.cond (.t 8) .ret .skip)) (.seq (.reg [
  ia 9 (.fad 0 (.t 1)),
ia 10 (.ld 1 false (.t 9)),
ia 11 (.len false (.t 10)),
ia 12 (.mv (ci 0))]) (.block 0 (.loop F90b0)))),[]⟩
theorem cc90 : ccF Try.prog [(43,[0,0]),(79,[1,0]),(60,[0,0]),(140,[0,0]),(43,[9]),(134,[8]),(136,[8]),(108,[8]),(135,[8]),(112,[8])] Try.f90 = some (stripF F90) := by kernel_rfl
def F95 : FnC := ⟨2,(.seq (.reg [
  ia 4 (.new [(.p (.i .i64 0)),(.p (.i .i64 0))])]) (.seq (.reg [
  ia 5 (.mv (.t 0)),
ia 6 (.mv (.t 1)),
ia 7 (.build [(.p (.i .i64 0)),(.p (.i .i64 0))] [(0,(1,(.t 5))),(1,(1,(.t 6)))]),
io (.st 2 (.t 4) (.t 7))]) .ret)),[(.cell 4 2 true)]⟩
theorem cc95 : ccF Try.prog [(43,[0,0]),(79,[1,0]),(60,[0,0]),(140,[0,0]),(43,[9]),(134,[8]),(136,[8]),(108,[8]),(135,[8]),(112,[8])] Try.f95 = some (stripF F95) := by kernel_rfl
def F96 : FnC := ⟨4,(.seq (.reg [
  ia 6 (.mv (.c (.a (.p (.b false)))))]) (.seq (.reg [
  ia 7 (.fad 0 (.t 2)),
ia 8 (.ld 1 false (.t 7)),
ia 9 (.call (.f 97) [(.t 8)]),
ia 10 (.mv (.t 0)),
ia 11 (.bin .eql (.t 9) (.t 10)),
ia 12 (.mv (.t 11)),
ig 13 12 true (.fad 0 (.t 3)),
ig 14 12 true (.ld 1 false (.t 13)),
ig 15 12 true (.call (.f 97) [(.t 14)]),
ig 16 12 true (.mv (.t 1)),
ig 17 12 true (.bin .eql (.t 15) (.t 16)),
ia 18 (.pick (.t 12) (.t 17) (.c (.a (.p (.b false))))),
ia 6 (.mv (.t 18))]) .ret)),[(.tmp 6)]⟩
theorem cc96 : ccF Try.prog [(43,[0,0]),(79,[1,0]),(60,[0,0]),(140,[0,0]),(43,[9]),(134,[8]),(136,[8]),(108,[8]),(135,[8]),(112,[8])] Try.f96 = some (stripF F96) := by kernel_rfl
def F97 : FnC := ⟨1,(.seq (.reg [
  ia 2 (.mv (ci 0))]) (.seq (.seq (.reg [
  ia 3 (.mv (.t 0))]) (.block 0 (.seq (.seq (.reg [
  ia 5 (.bin .eql (.t 3) (ci 3)),
ia 4 (.mv (.t 5))]) (.cond (.t 4) .skip (.seq (.reg [
  ia 6 (.bin .eql (.t 3) (ci 9)),
ia 4 (.mv (.t 6))]) (.cond (.t 4) .skip (.seq (.reg [
  ia 7 (.bin .eql (.t 3) (ci 11)),
ia 4 (.mv (.t 7))]) (.cond (.t 4) .skip (.reg [
  ia 8 (.bin .eql (.t 3) (ci 12)),
ia 4 (.mv (.t 8))]))))))) (.cond (.t 4) (.seq (.reg [
  ia 2 (.mv (ci 1))]) .ret) (.seq (.seq (.reg [
  ia 10 (.bin .eql (.t 3) (ci 2)),
ia 9 (.mv (.t 10))]) (.cond (.t 9) .skip (.seq (.reg [
  ia 11 (.bin .eql (.t 3) (ci 8)),
ia 9 (.mv (.t 11))]) (.cond (.t 9) .skip (.seq (.reg [
  ia 12 (.bin .eql (.t 3) (ci 10)),
ia 9 (.mv (.t 12))]) (.cond (.t 9) .skip (.reg [
  ia 13 (.bin .eql (.t 3) (ci 13)),
ia 9 (.mv (.t 13))]))))))) (.cond (.t 9) (.seq (.reg [
  ia 2 (.mv (ci 2))]) .ret) (.seq (.seq (.reg [
  ia 15 (.bin .eql (.t 3) (ci 4)),
ia 14 (.mv (.t 15))]) (.cond (.t 14) .skip (.seq (.reg [
  ia 16 (.bin .eql (.t 3) (ci 5)),
ia 14 (.mv (.t 16))]) (.cond (.t 14) .skip (.reg [
  ia 17 (.bin .eql (.t 3) (ci 6)),
ia 14 (.mv (.t 17))]))))) (.cond (.t 14) (.seq (.reg [
  ia 2 (.mv (ci 3))]) .ret) (.seq (.reg [
  ia 19 (.bin .eql (.t 3) (ci 7)),
ia 18 (.mv (.t 19))]) (.cond (.t 18) (.seq (.reg [
  ia 2 (.mv (ci 4))]) .ret) .skip)))))))))) (.seq (.reg [
  ia 2 (.mv (ci 0))]) .ret))),[(.tmp 2)]⟩
theorem cc97 : ccF Try.prog [(43,[0,0]),(79,[1,0]),(60,[0,0]),(140,[0,0]),(43,[9]),(134,[8]),(136,[8]),(108,[8]),(135,[8]),(112,[8])] Try.f97 = some (stripF F97) := by kernel_rfl
def F98 : FnC := ⟨3,(.seq (.reg [
  ia 4 (.mv (.c (.a (.p (.b false)))))]) (.seq (.reg [
  ia 5 (.fad 0 (.t 1)),
ia 6 (.ld 1 false (.t 5)),
ia 7 (.call (.f 97) [(.t 6)]),
ia 8 (.mv (.t 0)),
ia 9 (.bin .eql (.t 7) (.t 8)),
ia 10 (.mv (.t 9)),
ig 11 10 false (.fad 0 (.t 2)),
ig 12 10 false (.ld 1 false (.t 11)),
ig 13 10 false (.call (.f 97) [(.t 12)]),
ig 14 10 false (.mv (.t 0)),
ig 15 10 false (.bin .eql (.t 13) (.t 14)),
ia 16 (.pick (.t 10) (.c (.a (.p (.b true)))) (.t 15)),
ia 4 (.mv (.t 16))]) .ret)),[(.tmp 4)]⟩
theorem cc98 : ccF Try.prog [(43,[0,0]),(79,[1,0]),(60,[0,0]),(140,[0,0]),(43,[9]),(134,[8]),(136,[8]),(108,[8]),(135,[8]),(112,[8])] Try.f98 = some (stripF F98) := by kernel_rfl
def F99 : FnC := ⟨1,(.seq (.reg [
  ia 2 (.new [(.p (.i .i64 0)),(.p (.b false)),(.p (.i .i64 0)),(.p (.i .i64 0)),(.p (.i .i64 0)),(.p (.i .i64 0)),(.p (.i .i64 0)),(.p (.s [])),.nil,.nil]),
ia 3 (.mv (ci 0))]) (.seq (.reg [
  ia 4 (.mv (.t 0)),
ia 5 (.build [(.p (.i .i64 0)),(.p (.b false)),(.p (.i .i64 0)),(.p (.i .i64 0)),(.p (.i .i64 0)),(.p (.i .i64 0)),(.p (.i .i64 0)),(.p (.s [])),.nil,.nil] [(0,(1,(.t 4)))]),
io (.st 10 (.t 2) (.t 5)),
ia 3 (.mv (ci 0))]) .ret)),[(.cell 2 10 true),(.tmp 3)]⟩
theorem cc99 : ccF Try.prog [(43,[0,0]),(79,[1,0]),(60,[0,0]),(140,[0,0]),(43,[9]),(134,[8]),(136,[8]),(108,[8]),(135,[8]),(112,[8])] Try.f99 = some (stripF F99) := by kernel_rfl
def F100 : FnC := ⟨2,(.seq (.reg [
  ia 2 (.box 10 (.t 0)),
ia 4 (.new [(.p (.i .i64 0)),(.p (.b false)),(.p (.i .i64 0)),(.p (.i .i64 0)),(.p (.i .i64 0)),(.p (.i .i64 0)),(.p (.i .i64 0)),(.p (.s [])),.nil,.nil]),
ia 5 (.mv (ci 0))]) (.seq (.seq (.reg [
  ia 6 (.mv (.t 1)),
ia 7 (.bin .eql (.t 6) (ci 0))]) (.cond (.t 7) (.reg [
  ia 8 (.fad 1 (.t 2)),
io (.st 1 (.t 8) (.c (.a (.p (.b true)))))]) .skip)) (.seq (.reg [
  ia 9 (.ld 10 true (.t 2)),
ia 10 (.mv (.t 1)),
io (.st 10 (.t 4) (.t 9)),
ia 5 (.mv (.t 10))]) .ret))),[(.cell 4 10 true),(.tmp 5)]⟩
theorem cc100 : ccF Try.prog [(43,[0,0]),(79,[1,0]),(60,[0,0]),(140,[0,0]),(43,[9]),(134,[8]),(136,[8]),(108,[8]),(135,[8]),(112,[8])] Try.f100 = some (stripF F100) := by kernel_rfl
def F101 : FnC := ⟨2,(.seq (.reg [
  ia 2 (.box 6 (.t 0)),
ia 3 (.box 6 (.t 1)),
ia 4 (.new [(.p (.i .i64 0)),(.p (.b false)),(.p (.i .i64 0)),(.p (.i .i64 0)),(.p (.i .i64 0)),(.p (.i .i64 0)),(.p (.i .i64 0)),(.p (.s [])),.nil,.nil]),
ia 5 (.mv (ci 0))]) (.seq (.reg [
  ia 7 (.fad 1 (.t 3)),
ia 8 (.ld 1 false (.t 7)),
ia 9 (.build [(.p (.i .i64 0)),(.p (.b false)),(.p (.i .i64 0)),(.p (.i .i64 0)),(.p (.i .i64 0)),(.p (.i .i64 0)),(.p (.i .i64 0)),(.p (.s [])),.nil,.nil] [(0,(1,(ci 7))),(2,(1,(.t 8)))]),
ia 6 (.new [(.p (.i .i64 0)),(.p (.b false)),(.p (.i .i64 0)),(.p (.i .i64 0)),(.p (.i .i64 0)),(.p (.i .i64 0)),(.p (.i .i64 0)),(.p (.s [])),.nil,.nil]),
io (.st 10 (.t 6) (.t 9))]) (.seq (.seq (.reg [
  ia 10 (.fad 0 (.t 2)),
ia 11 (.ld 1 false (.t 10))]) (.block 0 (.seq (.reg [
  ia 13 (.bin .eql (.t 11) (ci 5)),
ia 12 (.mv (.t 13))]) (.cond (.t 12) (.reg [
  ia 14 (.fad 2 (.t 6)),
ia 15 (.ld 1 false (.t 14)),
ia 16 (.bin .sub (.t 15) (ci 1)),
ia 17 (.fad 2 (.t 6)),
io (.st 1 (.t 17) (.t 16))]) (.seq (.reg [
  ia 19 (.bin .eql (.t 11) (ci 6)),
ia 18 (.mv (.t 19))]) (.cond (.t 18) (.reg [
  ia 20 (.fad 2 (.t 6)),
ia 21 (.ld 1 false (.t 20)),
ia 22 (.bin .add (.t 21) (ci 1)),
ia 23 (.fad 2 (.t 6)),
io (.st 1 (.t 23) (.t 22))]) .skip)))))) (.seq (.block 1 (.seq (.reg [
  ia 25 (.fad 1 (.t 2)),
ia 26 (.ld 1 false (.t 25)),
ia 27 (.fad 1 (.t 3)),
ia 28 (.ld 1 false (.t 27)),
ia 29 (.bin .geq (.t 26) (.t 28)),
ia 24 (.mv (.t 29))]) (.cond (.t 24) (.seq (.reg [
  ia 30 (.build [(.p (.i .i64 0)),(.p (.b false)),(.p (.i .i64 0)),(.p (.i .i64 0)),(.p (.i .i64 0)),(.p (.i .i64 0)),(.p (.i .i64 0)),(.p (.s [])),.nil,.nil] []),
io (.st 10 (.t 4) (.t 30)),
ia 5 (.mv (ci 140))]) .ret) (.seq (.reg [
  ia 32 (.fad 2 (.t 6)),
ia 33 (.ld 1 false (.t 32)),
ia 34 (.bin .gtr (.t 33) (ci 60)),
ia 31 (.mv (.t 34))]) (.cond (.t 31) (.seq (.reg [
  ia 35 (.build [(.p (.i .i64 0)),(.p (.b false)),(.p (.i .i64 0)),(.p (.i .i64 0)),(.p (.i .i64 0)),(.p (.i .i64 0)),(.p (.i .i64 0)),(.p (.s [])),.nil,.nil] []),
io (.st 10 (.t 4) (.t 35)),
ia 5 (.mv (ci 141))]) .ret) .skip))))) (.seq (.reg [
  ia 36 (.ld 10 true (.t 6)),
io (.st 10 (.t 4) (.t 36)),
ia 5 (.mv (ci 0))]) .ret))))),[(.cell 4 10 true),(.tmp 5)]⟩
theorem cc101 : ccF Try.prog [(43,[0,0]),(79,[1,0]),(60,[0,0]),(140,[0,0]),(43,[9]),(134,[8]),(136,[8]),(108,[8]),(135,[8]),(112,[8])] Try.f101 = some (stripF F101) := by kernel_rfl
def F102 : FnC := ⟨2,(.seq (.reg [
  ia 2 (.box 6 (.t 0)),
ia 3 (.box 6 (.t 1)),
ia 4 (.new [(.p (.i .i64 0)),(.p (.b false)),(.p (.i .i64 0)),(.p (.i .i64 0)),(.p (.i .i64 0)),(.p (.i .i64 0)),(.p (.i .i64 0)),(.p (.s [])),.nil,.nil]),
ia 5 (.mv (ci 0))]) (.seq (.seq (.reg [
  ia 7 (.fad 0 (.t 2)),
ia 8 (.ld 1 false (.t 7)),
ia 9 (.fad 0 (.t 3)),
ia 10 (.ld 1 false (.t 9)),
ia 11 (.build [(.p (.i .i64 0)),(.p (.i .i64 0))] [(0,(1,(.t 8))),(1,(1,(.t 10)))]),
ia 6 (.new [(.p (.i .i64 0)),(.p (.i .i64 0))]),
io (.st 2 (.t 6) (.t 11))]) (.block 0 (.seq (.reg [
  ia 13 (.ld 2 true (.t 6)),
ia 14 (.build [(.p (.i .i64 0)),(.p (.i .i64 0))] [(0,(1,(ci 3))),(1,(1,(ci 2)))]),
ia 15 (.eqg false [0,0] (.t 13) (.t 14)),
ia 12 (.mv (.t 15))]) (.cond (.t 12) (.seq (.seq (.reg [
  ia 16 (.fad 1 (.t 2)),
ia 17 (.ld 1 false (.t 16)),
ia 18 (.fad 1 (.t 3)),
ia 19 (.ld 1 false (.t 18)),
ia 20 (.bin .neq (.t 17) (.t 19))]) (.cond (.t 20) (.seq (.reg [
  ia 21 (.build [(.p (.i .i64 0)),(.p (.b false)),(.p (.i .i64 0)),(.p (.i .i64 0)),(.p (.i .i64 0)),(.p (.i .i64 0)),(.p (.i .i64 0)),(.p (.s [])),.nil,.nil] []),
io (.st 10 (.t 4) (.t 21)),
ia 5 (.mv (ci 140))]) .ret) .skip)) (.seq (.reg [
  ia 22 (.call (.f 99) [(ci 1)]),
ia 23 (.ext (.t 22) 0),
ia 24 (.ext (.t 22) 1),
io (.st 10 (.t 4) (.t 23)),
ia 5 (.mv (.t 24))]) .ret)) (.seq (.reg [
  ia 26 (.ld 2 true (.t 6)),
ia 27 (.build [(.p (.i .i64 0)),(.p (.i .i64 0))] [(0,(1,(ci 9))),(1,(1,(ci 8)))]),
ia 28 (.eqg false [0,0] (.t 26) (.t 27)),
ia 25 (.mv (.t 28))]) (.cond (.t 25) (.seq (.reg [
  ia 29 (.ld 6 true (.t 2)),
ia 30 (.ld 6 true (.t 3)),
ia 31 (.call (.f 131) [(.t 29),(.t 30)]),
ia 32 (.ext (.t 31) 0),
ia 33 (.ext (.t 31) 1),
io (.st 10 (.t 4) (.t 32)),
ia 5 (.mv (.t 33))]) .ret) (.seq (.reg [
  ia 35 (.ld 2 true (.t 6)),
ia 36 (.build [(.p (.i .i64 0)),(.p (.i .i64 0))] [(0,(1,(ci 11))),(1,(1,(ci 10)))]),
ia 37 (.eqg false [0,0] (.t 35) (.t 36)),
ia 34 (.mv (.t 37))]) (.cond (.t 34) (.seq (.reg [
  ia 38 (.call (.f 99) [(ci 3)]),
ia 39 (.ext (.t 38) 0),
ia 40 (.ext (.t 38) 1),
io (.st 10 (.t 4) (.t 39)),
ia 5 (.mv (.t 40))]) .ret) (.seq (.reg [
  ia 42 (.ld 2 true (.t 6)),
ia 43 (.build [(.p (.i .i64 0)),(.p (.i .i64 0))] [(0,(1,(ci 12))),(1,(1,(ci 10)))]),
ia 44 (.eqg false [0,0] (.t 42) (.t 43)),
ia 41 (.mv (.t 44))]) (.cond (.t 41) (.seq (.reg [
  ia 45 (.ld 6 true (.t 2)),
ia 46 (.ld 6 true (.t 3)),
ia 47 (.call (.f 132) [(.t 45),(.t 46)]),
ia 48 (.ext (.t 47) 0),
ia 49 (.ext (.t 47) 1),
io (.st 10 (.t 4) (.t 48)),
ia 5 (.mv (.t 49))]) .ret) .skip)))))))))) (.seq (.reg [
  ia 50 (.call (.f 99) [(ci 5)]),
ia 51 (.ext (.t 50) 0),
ia 52 (.ext (.t 50) 1),
io (.st 10 (.t 4) (.t 51)),
ia 5 (.mv (.t 52))]) .ret))),[(.cell 4 10 true),(.tmp 5)]⟩
theorem cc102 : ccF Try.prog [(43,[0,0]),(79,[1,0]),(60,[0,0]),(140,[0,0]),(43,[9]),(134,[8]),(136,[8]),(108,[8]),(135,[8]),(112,[8])] Try.f102 = some (stripF F102) := by kernel_rfl
def F103 : FnC := ⟨1,(.seq (.reg [
  ia 1 (.box 6 (.t 0)),
ia 2 (.mv (ci 0))]) (.seq (.reg [
  ia 3 (.fad 5 (.t 1)),
ia 4 (.ld 1 false (.t 3)),
ia 5 (.len false (.t 4)),
ia 6 (.bin .sub (.t 5) (ci 1)),
ia 7 (.mx (.t 6) (ci 0)),
ia 2 (.mv (.t 7))]) .ret)),[(.tmp 2)]⟩
theorem cc103 : ccF Try.prog [(43,[0,0]),(79,[1,0]),(60,[0,0]),(140,[0,0]),(43,[9]),(134,[8]),(136,[8]),(108,[8]),(135,[8]),(112,[8])] Try.f103 = some (stripF F103) := by kernel_rfl
def F104b0 : C := (.seq (.reg [
  ia 11 (.bin .lss (.t 10) (.t 9))]) (.seq (.cond (.t 11) .skip (.exit 0)) (.seq (.block 1 (.seq (.reg [
  ia 12 (.mv (.t 10)),
ia 2 (.mv (.t 12))]) (.reg [
  ir 13 (.mv (.t 0)),
ir 14 (.mv (.t 0)),
ir 15 (.nck (.t 14)),
ir 16 (.fad 12 (.t 15)),
ir 17 (.ld 1 false (.t 16)),
ir 18 (.mv (.t 2)),
ir 19 (.bin .add (.t 18) (ci 1)),
ir 20 (.call (.f 95) [(.t 17),(.t 19)]),
ir 21 (.mv (.t 0)),
ir 22 (.nck (.t 21)),
ir 23 (.fad 13 (.t 22)),
ir 24 (.ld 1 false (.t 23)),
ir 25 (.mv (.t 2)),
ir 26 (.bin .add (.t 25) (ci 1)),
ir 27 (.call (.f 95) [(.t 24),(.t 26)]),
ia 28 (.call (.f 133) [(.t 13),(.t 20),(.t 27)])]))) (.reg [
  ia 29 (.bin .add (.t 10) (ci 1)),
ia 10 (.mv (.t 29))]))))
def F104 : FnC := ⟨1,(.seq (.reg [
  ia 3 (.mv (.t 0)),
ia 4 (.mv (.t 0)),
ia 5 (.nck (.t 4)),
ia 6 (.fad 12 (.t 5)),
ia 7 (.ld 1 false (.t 6)),
ia 8 (.call (.f 112) [(.t 3),(.t 7),(ci 1)]),
ia 9 (.len false (.t 8)),
ia 10 (.mv (ci 0))]) (.block 0 (.loop F104b0))),[]⟩
theorem cc104 : ccF Try.prog [(43,[0,0]),(79,[1,0]),(60,[0,0]),(140,[0,0]),(43,[9]),(134,[8]),(136,[8]),(108,[8]),(135,[8]),(112,[8])] Try.f104 = some (stripF F104) := by kernel_rfl
def F105b0 : C := (.seq (.reg [
  ia 51 (.bin .lss (.t 50) (.t 49))]) (.seq (.cond (.t 51) .skip (.exit 0)) (.seq (.block 1 (.seq (.reg [
  ia 52 (.ias 2 (.t 48) (.t 50)),
ia 53 (.ld 2 true (.t 52)),
ia 7 (.new [(.p (.i .i64 0)),(.p (.i .i64 0))]),
io (.st 2 (.t 7) (.t 53))]) (.seq (.reg [
  ia 54 (.ld 2 true (.t 7)),
ia 55 (.ld 2 true (.t 3)),
ia 56 (.eqg true [0,0] (.t 54) (.t 55))]) (.cond (.t 56) (.reg [
  ia 57 (.mv (.t 5)),
ia 58 (.ld 2 true (.t 7)),
ia 59 (.bsl 2 43 [(.p (.i .i64 0)),(.p (.i .i64 0))] 1 [(0,(.t 58))]),
ia 60 (.app 2 43 16 (.t 57) (.t 59)),
ia 5 (.mv (.t 60))]) .skip)))) (.reg [
  ia 61 (.bin .add (.t 50) (ci 1)),
ia 50 (.mv (.t 61))]))))
def F105b1 : C := (.seq (.reg [
  ia 85 (.bin .lss (.t 84) (.t 83))]) (.seq (.cond (.t 85) .skip (.exit 2)) (.seq (.block 3 (.seq (.reg [
  ia 86 (.mv (.t 84)),
ia 87 (.ias 1 (.t 82) (.t 84)),
ia 88 (.ld 1 false (.t 87)),
ia 9 (.mv (.t 86)),
ia 10 (.mv (.t 88))]) (.seq (.reg [
  ia 89 (.mv (.t 0)),
ia 90 (.mv (.t 0)),
ia 91 (.nck (.t 90)),
ia 92 (.fad 13 (.t 91)),
ia 93 (.ld 1 false (.t 92)),
ia 94 (.mv (.t 9)),
ia 95 (.bin .add (.t 94) (ci 1)),
ia 96 (.call (.f 95) [(.t 93),(.t 95)]),
ia 97 (.mv (.t 10)),
ia 98 (.call (.f 95) [(.t 97),(ci 2)]),
ia 99 (.call (.f 107) [(.t 89),(.t 96),(.t 98)])]) (.seq (.reg [
  ia 100 (.mv (.t 9)),
ia 101 (.bin .add (.t 100) (ci 1)),
ia 102 (.mv (.t 2)),
ia 103 (.bin .lss (.t 101) (.t 102))]) (.cond (.t 103) (.reg [
  ir 104 (.mv (.t 0)),
ir 105 (.mv (.t 10)),
ir 106 (.call (.f 95) [(.t 105),(ci 1)]),
ir 107 (.mv (.t 4)),
ir 108 (.mv (.t 9)),
ir 109 (.bin .add (.t 108) (ci 1)),
ir 110 (.ias 1 (.t 107) (.t 109)),
ir 111 (.ld 1 false (.t 110)),
ir 112 (.call (.f 95) [(.t 111),(ci 0)]),
ia 113 (.call (.f 137) [(.t 104),(.t 106),(.t 112)])]) (.reg [
  ia 114 (.mv (.t 0)),
ia 115 (.mv (.t 0)),
ia 116 (.nck (.t 115)),
ia 117 (.fad 12 (.t 116)),
ia 118 (.ld 1 false (.t 117)),
ia 119 (.call (.f 95) [(.t 118),(ci 1)]),
ia 120 (.mv (.t 10)),
ia 121 (.call (.f 95) [(.t 120),(ci 1)]),
ia 122 (.call (.f 107) [(.t 114),(.t 119),(.t 121)])])))))) (.reg [
  ia 123 (.bin .add (.t 84) (ci 1)),
ia 84 (.mv (.t 123))]))))
def F105 : FnC := ⟨1,(.seq (.reg [
  ir 11 (.mv (.t 0)),
ir 12 (.mv (.t 0)),
ir 13 (.nck (.t 12)),
ir 14 (.fad 12 (.t 13)),
ir 15 (.ld 1 false (.t 14)),
ir 18 (.mv (.t 0)),
ir 19 (.nck (.t 18)),
ir 20 (.fad 2 (.t 19)),
ir 21 (.fad 3 (.t 20)),
ir 22 (.ld 1 false (.t 21)),
ir 26 (.mv (.t 0)),
ir 27 (.nck (.t 26)),
ir 28 (.fad 12 (.t 27)),
ir 29 (.ld 1 false (.t 28)),
ir 30 (.mv (.t 0)),
ir 31 (.nck (.t 30)),
ir 32 (.fad 2 (.t 31)),
ir 33 (.fad 3 (.t 32)),
ir 34 (.ld 1 false (.t 33)),
ir 35 (.bin .add (.t 34) (ci 2)),
⟨(.some 3),.none,(.new [(.p (.i .i64 0)),(.p (.i .i64 0))]),.ad⟩,
⟨(.some 16),.none,(.call (.f 134) [(.t 11),(.t 15)]),(.cl [(1,21),(1,28),(1,33)] [3])⟩,
ir 17 (.fld 4 1 false (.t 16)),
ir 23 (.ias 2 (.t 17) (.t 22)),
ir 24 (.fad 1 (.t 23)),
ir 25 (.ld 1 false (.t 24)),
ir 36 (.call (.f 95) [(.t 29),(.t 35)]),
ia 2 (.mv (.t 25)),
io (.st 2 (.t 3) (.t 36))]) (.seq (.reg [
  ia 37 (.mv (.t 0)),
ia 38 (.mv (.t 0)),
ia 39 (.call (.f 136) [(.t 38)]),
ia 40 (.build [(.p (.i .i64 0)),(.p (.i .i64 0)),(.p (.i .i64 0)),(.p (.s [])),.nil,.nil] [(0,(1,(ci 3))),(1,(1,(.t 39)))]),
ia 41 (.mv (.t 2)),
ia 42 (.call (.f 135) [(.t 37),(.t 40),(.t 41)]),
ia 4 (.mv (.t 42))]) (.seq (.reg [
  ia 5 (.mv (.c (.a .nil)))]) (.seq (.seq (.reg [
  ia 43 (.mv (.t 0)),
ia 44 (.mv (.t 0)),
ia 45 (.nck (.t 44)),
ia 46 (.fad 12 (.t 45)),
ia 47 (.ld 1 false (.t 46)),
ia 48 (.call (.f 112) [(.t 43),(.t 47),(ci 2)]),
ia 49 (.len false (.t 48)),
ia 50 (.mv (ci 0))]) (.block 0 (.loop F105b0))) (.seq (.reg [
  ia 62 (.mv (.t 0)),
ia 63 (.mv (.t 5)),
ia 64 (.call (.f 111) [(.t 62),(.t 63)]),
ia 8 (.mv (.t 64))]) (.seq (.seq (.reg [
  ia 65 (.mv (.t 2)),
ia 66 (.bin .eql (.t 65) (ci 0))]) (.cond (.t 66) (.reg [
  ir 67 (.mv (.t 0)),
ir 68 (.ld 2 true (.t 3)),
ir 69 (.mv (.t 0)),
ir 70 (.nck (.t 69)),
ir 71 (.fad 12 (.t 70)),
ir 72 (.ld 1 false (.t 71)),
ir 73 (.call (.f 95) [(.t 72),(ci 1)]),
ia 74 (.call (.f 133) [(.t 67),(.t 68),(.t 73)])]) (.reg [
  ir 75 (.mv (.t 0)),
ir 76 (.ld 2 true (.t 3)),
ir 77 (.mv (.t 4)),
ir 78 (.ias 1 (.t 77) (ci 0)),
ir 79 (.ld 1 false (.t 78)),
ir 80 (.call (.f 95) [(.t 79),(ci 0)]),
ia 81 (.call (.f 107) [(.t 75),(.t 76),(.t 80)])]))) (.seq (.seq (.reg [
  ia 82 (.mv (.t 4)),
ia 83 (.len false (.t 82)),
ia 84 (.mv (ci 0))]) (.block 2 (.loop F105b1))) (.reg [
  ia 124 (.mv (.t 8)),
ia 125 (.call (.t 124) [])])))))))),[]⟩
theorem cc105 : ccF Try.prog [(43,[0,0]),(79,[1,0]),(60,[0,0]),(140,[0,0]),(43,[9]),(134,[8]),(136,[8]),(108,[8]),(135,[8]),(112,[8])] Try.f105 = some (stripF F105) := by kernel_rfl
def F106 : FnC := ⟨1,(.seq (.reg [
  ia 4 (.mv (.t 0)),
ia 5 (.mv (.t 0)),
ia 6 (.nck (.t 5)),
ia 7 (.fad 12 (.t 6)),
ia 8 (.ld 1 false (.t 7)),
ia 9 (.call (.f 134) [(.t 4),(.t 8)]),
ia 2 (.new [(.p (.i .i64 0)),(.p (.i .i64 0)),(.p (.i .i64 0)),(.p (.s [])),.nil,.nil]),
io (.st 6 (.t 2) (.t 9))]) (.seq (.reg [
  ir 10 (.mv (.t 0)),
ir 11 (.fad 1 (.t 2)),
ir 12 (.ld 1 false (.t 11)),
ir 13 (.fad 3 (.t 2)),
ir 14 (.ld 1 false (.t 13)),
ir 15 (.mv (.t 0)),
ir 16 (.mv (.t 0)),
ir 17 (.nck (.t 16)),
ir 18 (.fad 13 (.t 17)),
ir 19 (.ld 1 false (.t 18)),
⟨(.some 20),.none,(.call (.f 134) [(.t 15),(.t 19)]),(.cl [(1,11),(1,13)] [])⟩,
ir 21 (.fld 2 1 false (.t 20)),
ir 22 (.build [(.p (.i .i64 0)),(.p (.i .i64 0)),(.p (.i .i64 0)),(.p (.s [])),.nil,.nil] [(0,(1,(ci 12))),(1,(1,(.t 12))),(3,(1,(.t 14))),(2,(1,(.t 21)))]),
ia 23 (.call (.f 108) [(.t 10),(.t 22)]),
ia 3 (.mv (.t 23))]) (.seq (.reg [
  ia 24 (.mv (.t 0)),
ia 25 (.mv (.t 0)),
ia 26 (.nck (.t 25)),
ia 27 (.fad 12 (.t 26)),
ia 28 (.ld 1 false (.t 27)),
ia 29 (.call (.f 95) [(.t 28),(ci 2)]),
ia 30 (.mv (.t 3)),
ia 31 (.call (.f 95) [(.t 30),(ci 0)]),
ia 32 (.call (.f 107) [(.t 24),(.t 29),(.t 31)])]) (.reg [
  ia 33 (.mv (.t 0)),
ia 34 (.mv (.t 0)),
ia 35 (.nck (.t 34)),
ia 36 (.fad 12 (.t 35)),
ia 37 (.ld 1 false (.t 36)),
ia 38 (.call (.f 95) [(.t 37),(ci 1)]),
ia 39 (.mv (.t 3)),
ia 40 (.call (.f 95) [(.t 39),(ci 1)]),
ia 41 (.call (.f 107) [(.t 33),(.t 38),(.t 40)])])))),[]⟩
theorem cc106 : ccF Try.prog [(43,[0,0]),(79,[1,0]),(60,[0,0]),(140,[0,0]),(43,[9]),(134,[8]),(136,[8]),(108,[8]),(135,[8]),(112,[8])] Try.f106 = some (stripF F106) := by kernel_rfl
def F107 : FnC := ⟨3,(.seq (.reg [
  ia 4 (.box 2 (.t 1)),
ia 5 (.box 2 (.t 2))]) (.reg [
  ir 7 (.mv (.t 0)),
ir 8 (.mv (.t 0)),
ir 9 (.nck (.t 8)),
ir 10 (.fad 0 (.t 9)),
ir 11 (.ld 2 true (.t 10)),
ir 12 (.ld 2 true (.t 4)),
ir 13 (.ld 2 true (.t 5)),
ir 14 (.call (.f 138) [(.t 11),(.t 12),(.t 13)]),
ir 6 (.mv (.t 14)),
ir 15 (.ext (.t 6) 0),
ir 16 (.ext (.t 6) 1),
ir 17 (.nck (.t 7)),
ir 18 (.fad 0 (.t 17)),
⟨.none,.none,(.st 2 (.t 18) (.t 15)),(.wr [])⟩])),[]⟩
theorem cc107 : ccF Try.prog [(43,[0,0]),(79,[1,0]),(60,[0,0]),(140,[0,0]),(43,[9]),(134,[8]),(136,[8]),(108,[8]),(135,[8]),(112,[8])] Try.f107 = some (stripF F107) := by kernel_rfl
def F108 : FnC := ⟨2,(.seq (.reg [
  ia 3 (.box 6 (.t 1)),
ia 4 (.mv (ci 0))]) (.seq (.reg [
  ia 5 (.mv (ci 0))]) (.seq (.reg [
  ir 7 (.mv (.t 0)),
ir 8 (.mv (.t 0)),
ir 9 (.nck (.t 8)),
ir 10 (.fad 0 (.t 9)),
ir 11 (.ld 2 true (.t 10)),
ir 12 (.ld 6 true (.t 3)),
ir 13 (.call (.f 139) [(.t 11),(.t 12)]),
ir 6 (.mv (.t 13)),
ir 14 (.ext (.t 6) 0),
ir 15 (.ext (.t 6) 1),
ir 16 (.ext (.t 6) 2),
ir 17 (.nck (.t 7)),
ir 18 (.fad 0 (.t 17)),
⟨.none,.none,(.st 2 (.t 18) (.t 14)),(.wr [])⟩,
ir 5 (.mv (.t 15))]) (.seq (.reg [
  ia 19 (.mv (.t 5)),
ia 4 (.mv (.t 19))]) .ret)))),[(.tmp 4)]⟩
theorem cc108 : ccF Try.prog [(43,[0,0]),(79,[1,0]),(60,[0,0]),(140,[0,0]),(43,[9]),(134,[8]),(136,[8]),(108,[8]),(135,[8]),(112,[8])] Try.f108 = some (stripF F108) := by kernel_rfl
def F109 : FnC := ⟨1,(.seq (.reg [
  ia 4 (.mv (.t 0)),
ia 5 (.mv (.t 0)),
ia 6 (.call (.f 136) [(.t 5)]),
ia 7 (.build [(.p (.i .i64 0)),(.p (.i .i64 0)),(.p (.i .i64 0)),(.p (.s [])),.nil,.nil] [(0,(1,(ci 13))),(1,(1,(.t 6)))]),
ia 8 (.call (.f 108) [(.t 4),(.t 7)]),
ia 2 (.mv (.t 8))]) (.seq (.reg [
  ir 9 (.mv (.t 0)),
ir 10 (.mv (.t 0)),
ir 11 (.mv (.t 0)),
ir 12 (.nck (.t 11)),
ir 13 (.fad 12 (.t 12)),
ir 14 (.ld 1 false (.t 13)),
ir 16 (.mv (.t 0)),
ir 17 (.mv (.t 0)),
ir 18 (.nck (.t 17)),
ir 19 (.fad 13 (.t 18)),
ir 20 (.ld 1 false (.t 19)),
⟨(.some 15),.none,(.call (.f 112) [(.t 10),(.t 14),(ci 2)]),(.cl [(1,19)] [])⟩,
⟨(.some 21),.none,(.call (.f 112) [(.t 16),(.t 20),(ci 1)]),(.cl [] [])⟩,
⟨(.some 22),.none,(.app 2 43 16 (.t 15) (.t 21)),(.cl [] [])⟩,
ia 23 (.call (.f 111) [(.t 9),(.t 22)]),
ia 3 (.mv (.t 23))]) (.seq (.reg [
  ia 24 (.mv (.t 0)),
ia 25 (.mv (.t 0)),
ia 26 (.nck (.t 25)),
ia 27 (.fad 12 (.t 26)),
ia 28 (.ld 1 false (.t 27)),
ia 29 (.call (.f 95) [(.t 28),(ci 1)]),
ia 30 (.mv (.t 2)),
ia 31 (.call (.f 95) [(.t 30),(ci 0)]),
ia 32 (.call (.f 107) [(.t 24),(.t 29),(.t 31)])]) (.reg [
  ia 33 (.mv (.t 3)),
ia 34 (.call (.t 33) [])])))),[]⟩
theorem cc109 : ccF Try.prog [(43,[0,0]),(79,[1,0]),(60,[0,0]),(140,[0,0]),(43,[9]),(134,[8]),(136,[8]),(108,[8]),(135,[8]),(112,[8])] Try.f109 = some (stripF F109) := by kernel_rfl
def F110b0 : C := (.seq (.reg [
  ia 47 (.bin .lss (.t 46) (.t 45))]) (.seq (.cond (.t 47) .skip (.exit 0)) (.seq (.block 1 (.seq (.reg [
  ia 48 (.mv (.t 46)),
ia 49 (.ias 1 (.t 44) (.t 46)),
ia 50 (.ld 1 false (.t 49)),
ia 6 (.mv (.t 48)),
ia 7 (.mv (.t 50))]) (.reg [
  ia 51 (.mv (.t 0)),
ia 52 (.mv (.t 0)),
ia 53 (.nck (.t 52)),
ia 54 (.fad 12 (.t 53)),
ia 55 (.ld 1 false (.t 54)),
ia 56 (.mv (.t 6)),
ia 57 (.bin .add (.t 56) (ci 1)),
ia 58 (.call (.f 95) [(.t 55),(.t 57)]),
ia 59 (.mv (.t 7)),
ia 60 (.call (.f 95) [(.t 59),(ci 0)]),
ia 61 (.call (.f 107) [(.t 51),(.t 58),(.t 60)])]))) (.reg [
  ia 62 (.bin .add (.t 46) (ci 1)),
ia 46 (.mv (.t 62))]))))
def F110b2 : C := (.seq (.reg [
  ia 84 (.bin .lss (.t 83) (.t 82))]) (.seq (.cond (.t 84) .skip (.exit 4)) (.seq (.block 5 (.seq (.reg [
  ia 85 (.mv (.t 83)),
ia 86 (.ias 1 (.t 81) (.t 83)),
ia 87 (.ld 1 false (.t 86)),
ia 10 (.mv (.t 85)),
ia 11 (.mv (.t 87))]) (.reg [
  ia 88 (.mv (.t 0)),
ia 89 (.mv (.t 9)),
ia 90 (.mv (.t 10)),
ia 91 (.bin .add (.t 90) (ci 1)),
ia 92 (.call (.f 95) [(.t 89),(.t 91)]),
ia 93 (.mv (.t 11)),
ia 94 (.mv (.t 8)),
ia 95 (.bin .add (.t 94) (ci 1)),
ia 96 (.call (.f 95) [(.t 93),(.t 95)]),
ia 97 (.call (.f 137) [(.t 88),(.t 92),(.t 96)])]))) (.reg [
  ia 98 (.bin .add (.t 83) (ci 1)),
ia 83 (.mv (.t 98))]))))
def F110b1 : C := (.seq (.reg [
  ia 66 (.bin .lss (.t 65) (.t 64))]) (.seq (.cond (.t 66) .skip (.exit 2)) (.seq (.block 3 (.seq (.reg [
  ia 67 (.mv (.t 65)),
ia 68 (.ias 1 (.t 63) (.t 65)),
ia 69 (.ld 1 false (.t 68)),
ia 8 (.mv (.t 67)),
ia 9 (.mv (.t 69))]) (.seq (.reg [
  ia 70 (.mv (.t 0)),
ia 71 (.mv (.t 0)),
ia 72 (.nck (.t 71)),
ia 73 (.fad 13 (.t 72)),
ia 74 (.ld 1 false (.t 73)),
ia 75 (.mv (.t 8)),
ia 76 (.bin .add (.t 75) (ci 1)),
ia 77 (.call (.f 95) [(.t 74),(.t 76)]),
ia 78 (.mv (.t 9)),
ia 79 (.call (.f 95) [(.t 78),(ci 0)]),
ia 80 (.call (.f 107) [(.t 70),(.t 77),(.t 79)])]) (.seq (.reg [
  ia 81 (.mv (.t 4)),
ia 82 (.len false (.t 81)),
ia 83 (.mv (ci 0))]) (.block 4 (.loop F110b2)))))) (.reg [
  ia 99 (.bin .add (.t 65) (ci 1)),
ia 65 (.mv (.t 99))]))))
def F110 : FnC := ⟨1,(.seq (.reg [
  ir 12 (.mv (.t 0)),
ir 13 (.mv (.t 0)),
ir 14 (.nck (.t 13)),
ir 15 (.fad 12 (.t 14)),
ir 16 (.ld 1 false (.t 15)),
ir 18 (.mv (.t 0)),
ir 19 (.mv (.t 0)),
ir 20 (.nck (.t 19)),
ir 21 (.fad 13 (.t 20)),
ir 22 (.ld 1 false (.t 21)),
⟨(.some 2),.none,(.new [(.p (.i .i64 0)),(.p (.i .i64 0)),(.p (.i .i64 0)),(.p (.s [])),.nil,.nil]),.ad⟩,
⟨(.some 3),.none,(.new [(.p (.i .i64 0)),(.p (.i .i64 0)),(.p (.i .i64 0)),(.p (.s [])),.nil,.nil]),.ad⟩,
⟨(.some 17),.none,(.call (.f 134) [(.t 12),(.t 16)]),(.cl [(1,21)] [2,3])⟩,
⟨(.some 23),.none,(.call (.f 134) [(.t 18),(.t 22)]),(.cl [] [2,3])⟩,
io (.st 6 (.t 2) (.t 17)),
io (.st 6 (.t 3) (.t 23))]) (.seq (.reg [
  ia 24 (.mv (.t 0)),
ia 25 (.nck (.t 24)),
ia 26 (.fad 2 (.t 25)),
ia 27 (.fad 2 (.t 26)),
ia 28 (.ld 1 false (.t 27)),
ia 29 (.fad 1 (.t 3)),
io (.st 1 (.t 29) (.t 28))]) (.seq (.reg [
  ia 30 (.mv (.t 0)),
ia 31 (.ld 6 true (.t 3)),
ia 32 (.fad 5 (.t 2)),
ia 33 (.ld 1 false (.t 32)),
ia 34 (.len false (.t 33)),
ia 35 (.bin .sub (.t 34) (ci 1)),
ia 36 (.call (.f 135) [(.t 30),(.t 31),(.t 35)]),
ia 4 (.mv (.t 36))]) (.seq (.reg [
  ia 37 (.mv (.t 0)),
ia 38 (.ld 6 true (.t 2)),
ia 39 (.fad 5 (.t 3)),
ia 40 (.ld 1 false (.t 39)),
ia 41 (.len false (.t 40)),
ia 42 (.bin .sub (.t 41) (ci 1)),
ia 43 (.call (.f 135) [(.t 37),(.t 38),(.t 42)]),
ia 5 (.mv (.t 43))]) (.seq (.seq (.reg [
  ia 44 (.mv (.t 4)),
ia 45 (.len false (.t 44)),
ia 46 (.mv (ci 0))]) (.block 0 (.loop F110b0))) (.seq (.reg [
  ia 63 (.mv (.t 5)),
ia 64 (.len false (.t 63)),
ia 65 (.mv (ci 0))]) (.block 2 (.loop F110b1)))))))),[]⟩
theorem cc110 : ccF Try.prog [(43,[0,0]),(79,[1,0]),(60,[0,0]),(140,[0,0]),(43,[9]),(134,[8]),(136,[8]),(108,[8]),(135,[8]),(112,[8])] Try.f110 = some (stripF F110) := by kernel_rfl
def F111 : FnC := ⟨2,(.seq (.reg [
  ia 2 (.box 1 (.t 0)),
ia 3 (.box 1 (.t 1)),
ia 4 (.mv (.c (.a (.raw .nilFunc))))]) (.seq (.reg [
  ir 6 (.ld 1 false (.t 2)),
ir 7 (.ld 1 false (.t 2)),
ir 10 (.ld 1 false (.t 3)),
ir 11 (.len false (.t 10)),
⟨(.some 5),.none,(.new [.nil]),.ad⟩,
⟨(.some 8),.none,(.call (.f 136) [(.t 7)]),(.cl [(1,2),(1,3)] [5])⟩,
ir 9 (.build [(.p (.i .i64 0)),(.p (.i .i64 0)),(.p (.i .i64 0)),(.p (.s [])),.nil,.nil] [(0,(1,(ci 7))),(1,(1,(.t 8)))]),
⟨(.some 12),.none,(.call (.f 135) [(.t 6),(.t 9),(.t 11)]),(.cl [] [5])⟩,
io (.st 1 (.t 5) (.t 12))]) (.seq (.reg [
  ia 13 (.fn 140 [(.t 3),(.t 2),(.t 5)]),
ia 4 (.mv (.t 13))]) .ret))),[(.tmp 4)]⟩
theorem cc111 : ccF Try.prog [(43,[0,0]),(79,[1,0]),(60,[0,0]),(140,[0,0]),(43,[9]),(134,[8]),(136,[8]),(108,[8]),(135,[8]),(112,[8])] Try.f111 = some (stripF F111) := by kernel_rfl
def tblA : List (FuncId × FnC) := [(16,F16),(17,F17),(25,F25),(26,F26),(35,F35),(39,F39),(40,F40),(42,F42),(43,F43),(45,F45),(49,F49),(50,F50),(52,F52),(55,F55),(56,F56),(57,F57),(64,F64),(65,F65),(67,F67),(69,F69),(70,F70),(71,F71),(72,F72),(73,F73),(74,F74),(75,F75),(76,F76),(77,F77),(79,F79),(80,F80),(86,F86),(89,F89),(90,F90),(95,F95),(96,F96),(97,F97),(98,F98),(99,F99),(100,F100),(101,F101),(102,F102),(103,F103),(104,F104),(105,F105),(106,F106),(107,F107),(108,F108),(109,F109),(110,F110),(111,F111)]
theorem tblOkA : ∀ x,x ∈ tblA → ∃ fn,Try.prog.funcs[x.1]? = some fn ∧ ccF Try.prog [(43,[0,0]),(79,[1,0]),(60,[0,0]),(140,[0,0]),(43,[9]),(134,[8]),(136,[8]),(108,[8]),(135,[8]),(112,[8])] fn = some (stripF x.2) := by
  intro x hx
  simp only [tblA,List.mem_cons,List.not_mem_nil,or_false] at hx
  rcases hx with rfl | rfl | rfl | rfl | rfl | rfl | rfl | rfl | rfl | rfl | rfl | rfl | rfl | rfl | rfl | rfl | rfl | rfl | rfl | rfl | rfl | rfl | rfl | rfl | rfl | rfl | rfl | rfl | rfl | rfl | rfl | rfl | rfl | rfl | rfl | rfl | rfl | rfl | rfl | rfl | rfl | rfl | rfl | rfl | rfl | rfl | rfl | rfl | rfl | rfl
  · exact ⟨_,Try.func16,cc16⟩
  · exact ⟨_,Try.func17,cc17⟩
  · exact ⟨_,Try.func25,cc25⟩
  · exact ⟨_,Try.func26,cc26⟩
  · exact ⟨_,Try.func35,cc35⟩
  · exact ⟨_,Try.func39,cc39⟩
  · exact ⟨_,Try.func40,cc40⟩
  · exact ⟨_,Try.func42,cc42⟩
  · exact ⟨_,Try.func43,cc43⟩
  · exact ⟨_,Try.func45,cc45⟩
  · exact ⟨_,Try.func49,cc49⟩
  · exact ⟨_,Try.func50,cc50⟩
  · exact ⟨_,Try.func52,cc52⟩
  · exact ⟨_,Try.func55,cc55⟩
  · exact ⟨_,Try.func56,cc56⟩
  · exact ⟨_,Try.func57,cc57⟩
  · exact ⟨_,Try.func64,cc64⟩
  · exact ⟨_,Try.func65,cc65⟩
  · exact ⟨_,Try.func67,cc67⟩
  · exact ⟨_,Try.func69,cc69⟩
  · exact ⟨_,Try.func70,cc70⟩
  · exact ⟨_,Try.func71,cc71⟩
  · exact ⟨_,Try.func72,cc72⟩
  · exact ⟨_,Try.func73,cc73⟩
  · exact ⟨_,Try.func74,cc74⟩
  · exact ⟨_,Try.func75,cc75⟩
  · exact ⟨_,Try.func76,cc76⟩
  · exact ⟨_,Try.func77,cc77⟩
  · exact ⟨_,Try.func79,cc79⟩
  · exact ⟨_,Try.func80,cc80⟩
  · exact ⟨_,Try.func86,cc86⟩
  · exact ⟨_,Try.func89,cc89⟩
  · exact ⟨_,Try.func90,cc90⟩
  · exact ⟨_,Try.func95,cc95⟩
  · exact ⟨_,Try.func96,cc96⟩
  · exact ⟨_,Try.func97,cc97⟩
  · exact ⟨_,Try.func98,cc98⟩
  · exact ⟨_,Try.func99,cc99⟩
  · exact ⟨_,Try.func100,cc100⟩
  · exact ⟨_,Try.func101,cc101⟩
  · exact ⟨_,Try.func102,cc102⟩
  · exact ⟨_,Try.func103,cc103⟩
  · exact ⟨_,Try.func104,cc104⟩
  · exact ⟨_,Try.func105,cc105⟩
  · exact ⟨_,Try.func106,cc106⟩
  · exact ⟨_,Try.func107,cc107⟩
  · exact ⟨_,Try.func108,cc108⟩
  · exact ⟨_,Try.func109,cc109⟩
  · exact ⟨_,Try.func110,cc110⟩
  · exact ⟨_,Try.func111,cc111⟩
end Go.Proofs.Ytkpfjolcmkikeaa
namespace Go.Proofs.Ytkpfjolcmkikeaa
open Go.Fx
def F112b0 : C := (.seq (.seq (.reg [
  ia 10 (.mv (.t 8)),
ia 11 (.mv (.t 0)),
ia 12 (.mv (.t 1)),
ia 13 (.call (.f 134) [(.t 11),(.t 12)]),
ia 14 (.fld 5 1 false (.t 13)),
ia 15 (.len false (.t 14)),
ia 16 (.bin .lss (.t 10) (.t 15))]) (.cond (.t 16) .skip (.exit 0))) (.seq (.block 1 (.reg [
  ia 19 (.mv (.t 7)),
ia 20 (.mv (.t 1)),
ia 21 (.mv (.t 8)),
ia 22 (.call (.f 95) [(.t 20),(.t 21)]),
ia 23 (.bsl 2 43 [(.p (.i .i64 0)),(.p (.i .i64 0))] 1 [(0,(.t 22))]),
ia 24 (.app 2 43 16 (.t 19) (.t 23)),
ia 7 (.mv (.t 24))])) (.reg [
  ia 17 (.mv (.t 8)),
ia 18 (.bin .add (.t 17) (ci 1)),
ia 8 (.mv (.t 18))])))
def F112 : FnC := ⟨3,(.seq (.reg [
  ia 6 (.mv (.c (.a .nil)))]) (.seq (.reg [
  ia 7 (.mv (.c (.a .nil)))]) (.seq (.seq (.reg [
  ia 9 (.mv (.t 2)),
ia 8 (.mv (.t 9))]) (.block 0 (.loop F112b0))) (.seq (.reg [
  ia 25 (.mv (.t 7)),
ia 6 (.mv (.t 25))]) .ret)))),[(.tmp 6)]⟩
theorem cc112 : ccF Try.prog [(43,[0,0]),(79,[1,0]),(60,[0,0]),(140,[0,0]),(43,[9]),(134,[8]),(136,[8]),(108,[8]),(135,[8]),(112,[8])] Try.f112 = some (stripF F112) := by kernel_rfl
def F113b0 : C := (.seq (.reg [
  ia 17 (.bin .lss (.t 16) (.t 15))]) (.seq (.cond (.t 17) .skip (.exit 0)) (.seq (.block 1 (.seq (.reg [
  ia 18 (.mv (.t 16)),
ia 19 (.ias 2 (.t 14) (.t 16)),
ia 20 (.ld 2 true (.t 19)),
ia 4 (.new [(.p (.s [])),(.p (.i .i64 0))]),
ia 3 (.mv (.t 18)),
io (.st 2 (.t 4) (.t 20))]) (.seq (.reg [
  ia 21 (.fn 141 [(.t 4)]),
ia 5 (.mv (.t 21))]) (.seq (.reg [
  ia 22 (.fad 0 (.t 4)),
ia 23 (.ld 1 false (.t 22)),
ia 24 (.bin .eql (.t 23) (.c (.a (.p (.s []))))),
ia 25 (.mv (.t 24)),
ig 26 25 false (.fad 1 (.t 4)),
ig 27 25 false (.ld 1 false (.t 26)),
ig 28 25 false (.call (.f 74) [(.t 27),(ci 0),(ci 8)]),
ig 29 25 false (.not (.t 28)),
ia 30 (.pick (.t 25) (.c (.a (.p (.b true)))) (.t 29)),
ia 31 (.mv (.t 30)),
ig 32 31 false (.fad 4 (.t 1)),
ig 33 31 false (.ld 1 false (.t 32)),
ig 34 31 false (.mv (.t 3)),
ig 35 31 false (.slc 2 79 (.t 33) .none (.some (.t 34)) .none),
ig 36 31 false (.mv (.t 5)),
ig 37 31 false (.call (.f 142) [(.t 35),(.t 36)]),
ia 38 (.pick (.t 31) (.c (.a (.p (.b true)))) (.t 37))]) (.cond (.t 38) (.seq (.reg [
  ia 2 (.mv (.c (.a (.p (.b false)))))]) .ret) .skip))))) (.reg [
  ia 39 (.bin .add (.t 16) (ci 1)),
ia 16 (.mv (.t 39))]))))
def F113 : FnC := ⟨1,(.seq (.reg [
  ia 1 (.box 6 (.t 0)),
ia 2 (.mv (.c (.a (.p (.b false)))))]) (.seq (.seq (.reg [
  ia 6 (.fad 0 (.t 1)),
ia 7 (.ld 1 false (.t 6)),
ia 8 (.bin .neq (.t 7) (ci 9))]) (.cond (.t 8) (.seq (.reg [
  ia 9 (.fad 4 (.t 1)),
ia 10 (.ld 1 false (.t 9)),
ia 11 (.len false (.t 10)),
ia 12 (.bin .eql (.t 11) (ci 0)),
ia 2 (.mv (.t 12))]) .ret) .skip)) (.seq (.seq (.reg [
  ia 13 (.fad 4 (.t 1)),
ia 14 (.ld 1 false (.t 13)),
ia 15 (.len false (.t 14)),
ia 16 (.mv (ci 0))]) (.block 0 (.loop F113b0))) (.seq (.reg [
  ia 40 (.fad 4 (.t 1)),
ia 41 (.ld 1 false (.t 40)),
ia 42 (.len false (.t 41)),
ia 43 (.call (.f 74) [(.t 42),(ci 1),(ci 8)]),
ia 2 (.mv (.t 43))]) .ret)))),[(.tmp 2)]⟩
theorem cc113 : ccF Try.prog [(43,[0,0]),(79,[1,0]),(60,[0,0]),(140,[0,0]),(43,[9]),(134,[8]),(136,[8]),(108,[8]),(135,[8]),(112,[8])] Try.f113 = some (stripF F113) := by kernel_rfl
def F114 : FnC := ⟨0,(.seq (.reg [
  ia 0 (.new [(.p (.i .i64 0)),(.p (.i .i64 0)),(.p (.i .i64 0)),(.p (.i .i64 0)),(.p (.i .i64 0)),(.p (.i .i64 0)),(.p (.i .i64 0)),(.p (.i .i64 0)),(.p (.i .i64 0)),(.p (.i .i64 0)),(.p (.i .i64 0)),(.p (.i .i64 0)),(.p (.i .i64 0)),(.p (.i .i64 0))])]) (.seq (.reg [
  ia 1 (.build [(.p (.i .i64 0)),(.p (.i .i64 0)),(.p (.i .i64 0)),(.p (.i .i64 0)),(.p (.i .i64 0)),(.p (.i .i64 0)),(.p (.i .i64 0)),(.p (.i .i64 0)),(.p (.i .i64 0)),(.p (.i .i64 0)),(.p (.i .i64 0)),(.p (.i .i64 0)),(.p (.i .i64 0)),(.p (.i .i64 0))] [(1,(1,(ci 1))),(2,(1,(ci 3))),(3,(1,(ci 3))),(4,(1,(ci 3))),(5,(1,(ci 2))),(6,(1,(ci 2))),(7,(1,(ci 1))),(10,(1,(ci 1))),(11,(1,(ci 3))),(12,(1,(ci 2))),(13,(1,(ci 1)))]),
io (.st 14 (.t 0) (.t 1))]) .ret)),[(.cell 0 14 true)]⟩
theorem cc114 : ccF Try.prog [(43,[0,0]),(79,[1,0]),(60,[0,0]),(140,[0,0]),(43,[9]),(134,[8]),(136,[8]),(108,[8]),(135,[8]),(112,[8])] Try.f114 = some (stripF F114) := by kernel_rfl
def F122 : FnC := ⟨2,(.seq (.reg [
  ia 2 (.box 2 (.t 0)),
ia 4 (.mv (.c (.a (.p (.b false)))))]) (.seq (.reg [
  ia 5 (.mv (.t 1)),
ia 6 (.fn 147 [(.t 2)]),
ia 7 (.call (.f 146) [(.t 5),(.t 6)]),
ia 8 (.not (.t 7)),
ia 4 (.mv (.t 8))]) .ret)),[(.tmp 4)]⟩
theorem cc122 : ccF Try.prog [(43,[0,0]),(79,[1,0]),(60,[0,0]),(140,[0,0]),(43,[9]),(134,[8]),(136,[8]),(108,[8]),(135,[8]),(112,[8])] Try.f122 = some (stripF F122) := by kernel_rfl
def F123 : FnC := ⟨2,(.seq (.reg [
  ia 2 (.box 2 (.t 0)),
ia 3 (.box 2 (.t 1)),
ia 4 (.new [(.p (.i .i64 0)),(.p (.i .i64 0))])]) (.seq (.reg [
  ir 5 (.fad 0 (.t 2)),
ir 6 (.fad 0 (.t 5)),
ir 7 (.ld 1 false (.t 6)),
ir 8 (.fad 0 (.t 3)),
ir 9 (.ld 1 false (.t 8)),
ir 10 (.ias 6 (.t 7) (.t 9)),
ir 11 (.fad 5 (.t 10)),
ir 12 (.ld 1 false (.t 11)),
ir 13 (.fad 1 (.t 3)),
ir 14 (.ld 1 false (.t 13)),
ia 15 (.ias 2 (.t 12) (.t 14)),
ia 16 (.ld 2 true (.t 15)),
io (.st 2 (.t 4) (.t 16))]) .ret)),[(.cell 4 2 true)]⟩
theorem cc123 : ccF Try.prog [(43,[0,0]),(79,[1,0]),(60,[0,0]),(140,[0,0]),(43,[9]),(134,[8]),(136,[8]),(108,[8]),(135,[8]),(112,[8])] Try.f123 = some (stripF F123) := by kernel_rfl
def F131 : FnC := ⟨2,(.seq (.reg [
  ia 2 (.box 6 (.t 0)),
ia 3 (.box 6 (.t 1)),
ia 4 (.new [(.p (.i .i64 0)),(.p (.b false)),(.p (.i .i64 0)),(.p (.i .i64 0)),(.p (.i .i64 0)),(.p (.i .i64 0)),(.p (.i .i64 0)),(.p (.s [])),.nil,.nil]),
ia 5 (.mv (ci 0))]) (.seq (.seq (.reg [
  ia 7 (.fad 1 (.t 2)),
ia 8 (.ld 1 false (.t 7)),
ia 9 (.fad 1 (.t 3)),
ia 10 (.ld 1 false (.t 9)),
ia 11 (.bin .neq (.t 8) (.t 10))]) (.cond (.t 11) (.seq (.reg [
  ia 12 (.build [(.p (.i .i64 0)),(.p (.b false)),(.p (.i .i64 0)),(.p (.i .i64 0)),(.p (.i .i64 0)),(.p (.i .i64 0)),(.p (.i .i64 0)),(.p (.s [])),.nil,.nil] []),
io (.st 10 (.t 4) (.t 12)),
ia 5 (.mv (ci 140))]) .ret) .skip)) (.seq (.reg [
  ia 13 (.fad 4 (.t 2)),
ia 14 (.ld 1 false (.t 13)),
ia 15 (.fn 150 [(.t 3)]),
ia 16 (.call (.f 149) [(.t 14),(.t 15)]),
ia 6 (.mv (.t 16))]) (.seq (.seq (.reg [
  ia 17 (.mv (.t 6)),
ia 18 (.bin .lss (.t 17) (ci 0))]) (.cond (.t 18) (.seq (.reg [
  ia 19 (.call (.f 99) [(ci 5)]),
ia 20 (.ext (.t 19) 0),
ia 21 (.ext (.t 19) 1),
io (.st 10 (.t 4) (.t 20)),
ia 5 (.mv (.t 21))]) .ret) .skip)) (.seq (.reg [
  ia 22 (.mv (.t 6)),
ia 23 (.build [(.p (.i .i64 0)),(.p (.b false)),(.p (.i .i64 0)),(.p (.i .i64 0)),(.p (.i .i64 0)),(.p (.i .i64 0)),(.p (.i .i64 0)),(.p (.s [])),.nil,.nil] [(0,(1,(ci 2))),(3,(1,(.t 22)))]),
io (.st 10 (.t 4) (.t 23)),
ia 5 (.mv (ci 0))]) .ret))))),[(.cell 4 10 true),(.tmp 5)]⟩
theorem cc131 : ccF Try.prog [(43,[0,0]),(79,[1,0]),(60,[0,0]),(140,[0,0]),(43,[9]),(134,[8]),(136,[8]),(108,[8]),(135,[8]),(112,[8])] Try.f131 = some (stripF F131) := by kernel_rfl
def F132 : FnC := ⟨2,(.seq (.reg [
  ia 2 (.box 6 (.t 0)),
ia 3 (.box 6 (.t 1)),
ia 4 (.new [(.p (.i .i64 0)),(.p (.b false)),(.p (.i .i64 0)),(.p (.i .i64 0)),(.p (.i .i64 0)),(.p (.i .i64 0)),(.p (.i .i64 0)),(.p (.s [])),.nil,.nil]),
ia 5 (.mv (ci 0))]) (.seq (.reg [
  ia 7 (.build [(.p (.i .i64 0)),(.p (.i .i64 0)),(.p (.i .i64 0)),(.p (.s [])),.nil,.nil] [(0,(1,(ci 10)))]),
ia 6 (.new [(.p (.i .i64 0)),(.p (.i .i64 0)),(.p (.i .i64 0)),(.p (.s [])),.nil,.nil]),
io (.st 6 (.t 6) (.t 7))]) (.seq (.seq (.reg [
  ia 8 (.fad 3 (.t 2)),
ia 9 (.ld 1 false (.t 8))]) (.block 0 (.seq (.reg [
  ia 11 (.bin .eql (.t 9) (.c (.a (.p (.s [43]))))),
ia 10 (.mv (.t 11))]) (.cond (.t 10) (.reg [
  ia 12 (.fad 2 (.t 2)),
ia 13 (.ld 1 false (.t 12)),
ia 14 (.fad 2 (.t 3)),
ia 15 (.ld 1 false (.t 14)),
ia 16 (.bin .add (.t 13) (.t 15)),
ia 17 (.fad 2 (.t 6)),
io (.st 1 (.t 17) (.t 16))]) (.seq (.reg [
  ia 19 (.bin .eql (.t 9) (.c (.a (.p (.s [45]))))),
ia 18 (.mv (.t 19))]) (.cond (.t 18) (.reg [
  ia 20 (.fad 2 (.t 2)),
ia 21 (.ld 1 false (.t 20)),
ia 22 (.fad 2 (.t 3)),
ia 23 (.ld 1 false (.t 22)),
ia 24 (.bin .sub (.t 21) (.t 23)),
ia 25 (.fad 2 (.t 6)),
io (.st 1 (.t 25) (.t 24))]) (.seq (.reg [
  ia 27 (.bin .eql (.t 9) (.c (.a (.p (.s [42]))))),
ia 26 (.mv (.t 27))]) (.cond (.t 26) (.reg [
  ia 28 (.fad 2 (.t 2)),
ia 29 (.ld 1 false (.t 28)),
ia 30 (.fad 2 (.t 3)),
ia 31 (.ld 1 false (.t 30)),
ia 32 (.bin .mul (.t 29) (.t 31)),
ia 33 (.fad 2 (.t 6)),
io (.st 1 (.t 33) (.t 32))]) (.seq (.reg [
  ia 35 (.bin .eql (.t 9) (.c (.a (.p (.s [47]))))),
ia 34 (.mv (.t 35))]) (.cond (.t 34) (.seq (.seq (.reg [
  ia 36 (.fad 2 (.t 3)),
ia 37 (.ld 1 false (.t 36)),
ia 38 (.bin .eql (.t 37) (ci 0))]) (.cond (.t 38) (.seq (.reg [
  ia 39 (.call (.f 99) [(ci 5)]),
ia 40 (.ext (.t 39) 0),
ia 41 (.ext (.t 39) 1),
io (.st 10 (.t 4) (.t 40)),
ia 5 (.mv (.t 41))]) .ret) .skip)) (.reg [
  ia 42 (.fad 2 (.t 2)),
ia 43 (.ld 1 false (.t 42)),
ia 44 (.fad 2 (.t 3)),
ia 45 (.ld 1 false (.t 44)),
ia 46 (.bin .quo (.t 43) (.t 45)),
ia 47 (.fad 2 (.t 6)),
io (.st 1 (.t 47) (.t 46))])) (.seq (.reg [
  ia 49 (.bin .eql (.t 9) (.c (.a (.p (.s [60]))))),
ia 48 (.mv (.t 49))]) (.cond (.t 48) (.reg [
  ia 50 (.fad 2 (.t 2)),
ia 51 (.ld 1 false (.t 50)),
ia 52 (.fad 2 (.t 3)),
ia 53 (.ld 1 false (.t 52)),
ia 54 (.bin .lss (.t 51) (.t 53)),
ia 55 (.call (.f 151) [(.t 54)]),
io (.st 6 (.t 6) (.t 55))]) (.seq (.reg [
  ia 57 (.bin .eql (.t 9) (.c (.a (.p (.s [61,61]))))),
ia 56 (.mv (.t 57))]) (.cond (.t 56) (.reg [
  ia 58 (.fad 2 (.t 2)),
ia 59 (.ld 1 false (.t 58)),
ia 60 (.fad 2 (.t 3)),
ia 61 (.ld 1 false (.t 60)),
ia 62 (.bin .eql (.t 59) (.t 61)),
ia 63 (.call (.f 151) [(.t 62)]),
io (.st 6 (.t 6) (.t 63))]) .skip)))))))))))))) (.seq (.reg [
  ia 64 (.fad 1 (.t 2)),
ia 65 (.ld 1 false (.t 64)),
ia 66 (.fad 1 (.t 6)),
io (.st 1 (.t 66) (.t 65))]) (.seq (.reg [
  ia 67 (.ld 6 true (.t 6)),
ia 68 (.build [(.p (.i .i64 0)),(.p (.b false)),(.p (.i .i64 0)),(.p (.i .i64 0)),(.p (.i .i64 0)),(.p (.i .i64 0)),(.p (.i .i64 0)),(.p (.s [])),.nil,.nil] [(0,(1,(ci 4))),(4,(6,(.t 67)))]),
io (.st 10 (.t 4) (.t 68)),
ia 5 (.mv (ci 0))]) .ret))))),[(.cell 4 10 true),(.tmp 5)]⟩
theorem cc132 : ccF Try.prog [(43,[0,0]),(79,[1,0]),(60,[0,0]),(140,[0,0]),(43,[9]),(134,[8]),(136,[8]),(108,[8]),(135,[8]),(112,[8])] Try.f132 = some (stripF F132) := by kernel_rfl
def F133 : FnC := ⟨3,(.seq (.reg [
  ia 4 (.box 2 (.t 1)),
ia 5 (.box 2 (.t 2))]) (.reg [
  ir 7 (.mv (.t 0)),
ir 8 (.mv (.t 0)),
ir 9 (.nck (.t 8)),
ir 10 (.fad 0 (.t 9)),
ir 11 (.ld 2 true (.t 10)),
ir 12 (.ld 2 true (.t 4)),
ir 13 (.ld 2 true (.t 5)),
ir 14 (.call (.f 152) [(.t 11),(.t 12),(.t 13)]),
ir 6 (.mv (.t 14)),
ir 15 (.ext (.t 6) 0),
ir 16 (.ext (.t 6) 1),
ir 17 (.nck (.t 7)),
ir 18 (.fad 0 (.t 17)),
⟨.none,.none,(.st 2 (.t 18) (.t 15)),(.wr [])⟩])),[]⟩
theorem cc133 : ccF Try.prog [(43,[0,0]),(79,[1,0]),(60,[0,0]),(140,[0,0]),(43,[9]),(134,[8]),(136,[8]),(108,[8]),(135,[8]),(112,[8])] Try.f133 = some (stripF F133) := by kernel_rfl
def F134 : FnC := ⟨2,(.seq (.reg [
  ia 4 (.new [(.p (.i .i64 0)),(.p (.i .i64 0)),(.p (.i .i64 0)),(.p (.s [])),.nil,.nil])]) (.seq (.reg [
  ia 5 (.mv (.t 0)),
ia 6 (.nck (.t 5)),
ia 7 (.fad 0 (.t 6)),
ia 8 (.fad 0 (.t 7)),
ia 9 (.ld 1 false (.t 8)),
ia 10 (.mv (.t 1)),
ia 11 (.ias 6 (.t 9) (.t 10)),
ia 12 (.ld 6 true (.t 11)),
io (.st 6 (.t 4) (.t 12))]) .ret)),[(.cell 4 6 true)]⟩
theorem cc134 : ccF Try.prog [(43,[0,0]),(79,[1,0]),(60,[0,0]),(140,[0,0]),(43,[9]),(134,[8]),(136,[8]),(108,[8]),(135,[8]),(112,[8])] Try.f134 = some (stripF F134) := by kernel_rfl
def F135b0 : C := (.seq (.reg [
  ia 10 (.bin .lss (.t 9) (.t 8))]) (.seq (.cond (.t 10) .skip (.exit 0)) (.seq (.block 1 (.reg [
  ia 11 (.mv (.t 7)),
ia 12 (.mv (.t 0)),
ia 13 (.ld 6 true (.t 4)),
ia 14 (.call (.f 108) [(.t 12),(.t 13)]),
ia 15 (.bsl 1 3 [(.p (.i .i64 0))] 1 [(0,(.t 14))]),
ia 16 (.app 1 3 8 (.t 11) (.t 15)),
ia 7 (.mv (.t 16))])) (.reg [
  ia 17 (.bin .add (.t 9) (ci 1)),
ia 9 (.mv (.t 17))]))))
def F135 : FnC := ⟨3,(.seq (.reg [
  ia 4 (.box 6 (.t 1)),
ia 6 (.mv (.c (.a .nil)))]) (.seq (.reg [
  ia 7 (.mv (.c (.a .nil)))]) (.seq (.seq (.reg [
  ia 8 (.mv (.t 2)),
ia 9 (.mv (ci 0))]) (.block 0 (.loop F135b0))) (.seq (.reg [
  ia 18 (.mv (.t 7)),
ia 6 (.mv (.t 18))]) .ret)))),[(.tmp 6)]⟩
theorem cc135 : ccF Try.prog [(43,[0,0]),(79,[1,0]),(60,[0,0]),(140,[0,0]),(43,[9]),(134,[8]),(136,[8]),(108,[8]),(135,[8]),(112,[8])] Try.f135 = some (stripF F135) := by kernel_rfl
def F136 : FnC := ⟨1,(.seq (.reg [
  ia 2 (.mv (ci 0))]) (.seq (.reg [
  ia 3 (.mv (.t 0)),
ia 4 (.mv (.t 0)),
ia 5 (.nck (.t 4)),
ia 6 (.fad 12 (.t 5)),
ia 7 (.ld 1 false (.t 6)),
ia 8 (.call (.f 134) [(.t 3),(.t 7)]),
ia 9 (.fld 1 1 false (.t 8)),
ia 2 (.mv (.t 9))]) .ret)),[(.tmp 2)]⟩
theorem cc136 : ccF Try.prog [(43,[0,0]),(79,[1,0]),(60,[0,0]),(140,[0,0]),(43,[9]),(134,[8]),(136,[8]),(108,[8]),(135,[8]),(112,[8])] Try.f136 = some (stripF F136) := by kernel_rfl
def F137 : FnC := ⟨3,(.seq (.reg [
  ia 4 (.box 2 (.t 1)),
ia 5 (.box 2 (.t 2))]) (.reg [
  ir 7 (.mv (.t 0)),
ir 8 (.mv (.t 0)),
ir 9 (.nck (.t 8)),
ir 10 (.fad 0 (.t 9)),
ir 11 (.ld 2 true (.t 10)),
ir 12 (.ld 2 true (.t 4)),
ir 13 (.ld 2 true (.t 5)),
ir 14 (.call (.f 153) [(.t 11),(.t 12),(.t 13)]),
ir 6 (.mv (.t 14)),
ir 15 (.ext (.t 6) 0),
ir 16 (.ext (.t 6) 1),
ir 17 (.nck (.t 7)),
ir 18 (.fad 0 (.t 17)),
⟨.none,.none,(.st 2 (.t 18) (.t 15)),(.wr [])⟩])),[]⟩
theorem cc137 : ccF Try.prog [(43,[0,0]),(79,[1,0]),(60,[0,0]),(140,[0,0]),(43,[9]),(134,[8]),(136,[8]),(108,[8]),(135,[8]),(112,[8])] Try.f137 = some (stripF F137) := by kernel_rfl
def F138 : FnC := ⟨3,(.seq (.reg [
  ia 3 (.box 2 (.t 0)),
ia 4 (.box 2 (.t 1)),
ia 5 (.box 2 (.t 2)),
ia 6 (.new [.nil,(.p (.i .i64 0))]),
ia 7 (.mv (ci 0))]) (.seq (.reg [
  ia 9 (.ld 2 true (.t 3)),
ia 10 (.build [.nil,(.p (.i .i64 0))] [(0,(2,(.t 9)))]),
ia 8 (.new [.nil,(.p (.i .i64 0))]),
io (.st 2 (.t 8) (.t 10))]) (.seq (.block 0 (.seq (.reg [
  ir 12 (.ld 2 true (.t 8)),
ir 13 (.ld 2 true (.t 4)),
ir 14 (.ld 2 true (.t 5)),
⟨(.some 15),.none,(.bsl 2 43 [(.p (.i .i64 0)),(.p (.i .i64 0))] 2 [(0,(.t 13)),(1,(.t 14))]),.ad⟩,
ia 16 (.call (.f 122) [(.t 12),(.t 15)]),
ia 17 (.not (.t 16)),
ia 18 (.mv (.t 17)),
ih 19 18 false (.ld 2 true (.t 4)),
ih 20 18 false (.ld 2 true (.t 5)),
ig 21 18 false (.eqg false [0,0] (.t 19) (.t 20)),
ia 22 (.pick (.t 18) (.c (.a (.p (.b true)))) (.t 21)),
ia 23 (.mv (.t 22)),
ih 24 23 false (.ld 2 true (.t 8)),
ih 25 23 false (.ld 2 true (.t 8)),
ih 26 23 false (.ld 2 true (.t 4)),
ih 27 23 false (.call (.f 123) [(.t 25),(.t 26)]),
⟨(.some 28),(.some (23,false)),(.bsl 2 43 [(.p (.i .i64 0)),(.p (.i .i64 0))] 1 [(0,(.t 27))]),.ad⟩,
ig 29 23 false (.call (.f 122) [(.t 24),(.t 28)]),
ig 30 23 false (.not (.t 29)),
ia 31 (.pick (.t 23) (.c (.a (.p (.b true)))) (.t 30)),
ia 11 (.mv (.t 31))]) (.cond (.t 11) (.seq (.reg [
  ia 32 (.ld 2 true (.t 3)),
io (.st 2 (.t 6) (.t 32)),
ia 7 (.mv (ci 130))]) .ret) (.seq (.reg [
  ir 34 (.ld 2 true (.t 8)),
ir 35 (.ld 2 true (.t 4)),
ir 36 (.call (.f 123) [(.t 34),(.t 35)]),
ir 37 (.ld 2 true (.t 5)),
ia 38 (.eqg false [0,0] (.t 36) (.t 37)),
ia 33 (.mv (.t 38))]) (.cond (.t 33) (.seq (.reg [
  ia 39 (.ld 2 true (.t 3)),
io (.st 2 (.t 6) (.t 39)),
ia 7 (.mv (ci 0))]) .ret) .skip))))) (.seq (.reg [
  ir 40 (.ld 2 true (.t 8)),
ir 41 (.ld 2 true (.t 5)),
ir 42 (.ld 2 true (.t 8)),
ir 43 (.ld 2 true (.t 4)),
ir 44 (.call (.f 123) [(.t 42),(.t 43)]),
ia 45 (.call (.f 154) [(.t 40),(.t 41),(.t 44)]),
ir 46 (.ext (.t 45) 0),
ir 47 (.ext (.t 45) 1),
io (.st 2 (.t 6) (.t 46)),
ia 7 (.mv (.t 47))]) .ret)))),[(.cell 6 2 true),(.tmp 7)]⟩
theorem cc138 : ccF Try.prog [(43,[0,0]),(79,[1,0]),(60,[0,0]),(140,[0,0]),(43,[9]),(134,[8]),(136,[8]),(108,[8]),(135,[8]),(112,[8])] Try.f138 = some (stripF F138) := by kernel_rfl
def F139 : FnC := ⟨2,(.seq (.reg [
  ia 2 (.box 2 (.t 0)),
ia 3 (.box 6 (.t 1)),
ia 4 (.new [.nil,(.p (.i .i64 0))]),
ia 5 (.mv (ci 0)),
ia 6 (.mv (ci 0))]) (.seq (.block 0 (.seq (.reg [
  ia 9 (.fad 0 (.t 3)),
ia 10 (.ld 1 false (.t 9)),
ia 11 (.bin .eql (.t 10) (ci 0)),
ia 12 (.mv (.t 11)),
ig 13 12 false (.fad 0 (.t 3)),
ig 14 12 false (.ld 1 false (.t 13)),
ig 15 12 false (.bin .eql (.t 14) (ci 1)),
ia 16 (.pick (.t 12) (.c (.a (.p (.b true)))) (.t 15)),
ia 17 (.mv (.t 16)),
ig 18 17 false (.ld 6 true (.t 3)),
ig 19 17 false (.call (.f 75) [(.t 18)]),
ig 20 17 false (.not (.t 19)),
ia 21 (.pick (.t 17) (.c (.a (.p (.b true)))) (.t 20)),
ia 8 (.mv (.t 21))]) (.cond (.t 8) (.seq (.reg [
  ia 22 (.ld 2 true (.t 2)),
io (.st 2 (.t 4) (.t 22)),
ia 5 (.mv (ci 0)),
ia 6 (.mv (ci 122))]) .ret) (.seq (.reg [
  ir 24 (.ld 2 true (.t 2)),
ir 25 (.call (.f 71) [(.t 24)]),
ir 26 (.fad 1 (.t 2)),
ir 27 (.ld 1 false (.t 26)),
ia 28 (.bin .geq (.t 25) (.t 27)),
ia 23 (.mv (.t 28))]) (.cond (.t 23) (.seq (.reg [
  ia 29 (.ld 2 true (.t 2)),
io (.st 2 (.t 4) (.t 29)),
ia 5 (.mv (ci 0)),
ia 6 (.mv (ci 121))]) .ret) .skip))))) (.seq (.reg [
  ia 30 (.ld 2 true (.t 2)),
ia 31 (.call (.f 80) [(.t 30)]),
io (.st 2 (.t 2) (.t 31))]) (.seq (.reg [
  ir 32 (.ld 6 true (.t 3)),
ir 33 (.call (.f 76) [(.t 32)]),
⟨(.some 34),.none,(.mslF 2 43 16 [(.p (.i .i64 0)),(.p (.i .i64 0))] (.t 33) (.t 33)),.ad⟩,
ir 35 (.fad 4 (.t 3)),
ir 36 (.ld 1 false (.t 35)),
ir 37 (.call (.f 155) [(.t 36)]),
ir 38 (.fad 5 (.t 3)),
io (.st 1 (.t 38) (.t 34)),
ia 39 (.fad 4 (.t 3)),
io (.st 1 (.t 39) (.t 37))]) (.seq (.reg [
  ia 40 (.fad 0 (.t 2)),
ia 41 (.ld 1 false (.t 40)),
ia 42 (.call (.f 156) [(.t 41),(.f 79)]),
ia 7 (.mv (.t 42))]) (.seq (.seq (.reg [
  ia 43 (.mv (.t 7)),
ia 44 (.bin .lss (.t 43) (ci 0))]) (.cond (.t 44) (.seq (.reg [
  ia 45 (.fad 0 (.t 2)),
ia 46 (.ld 1 false (.t 45)),
ia 47 (.len false (.t 46)),
ia 7 (.mv (.t 47))]) (.reg [
  ia 48 (.fad 0 (.t 2)),
ia 49 (.ld 1 false (.t 48)),
ia 50 (.ld 6 true (.t 3)),
ia 51 (.bsl 6 41 [(.p (.i .i64 0)),(.p (.i .i64 0)),(.p (.i .i64 0)),(.p (.s [])),.nil,.nil] 1 [(0,(.t 50))]),
ia 52 (.app 6 41 88 (.t 49) (.t 51)),
ia 53 (.fad 0 (.t 2)),
io (.st 1 (.t 53) (.t 52))])) .skip)) (.seq (.reg [
  ia 54 (.fad 0 (.t 2)),
ia 55 (.ld 1 false (.t 54)),
ia 56 (.mv (.t 7)),
ia 57 (.ld 6 true (.t 3)),
ia 58 (.ias 6 (.t 55) (.t 56)),
io (.st 6 (.t 58) (.t 57))]) (.seq (.reg [
  ia 59 (.ld 2 true (.t 2)),
ia 60 (.mv (.t 7)),
io (.st 2 (.t 4) (.t 59)),
ia 5 (.mv (.t 60)),
ia 6 (.mv (ci 0))]) .ret)))))))),[(.cell 4 2 true),(.tmp 5),(.tmp 6)]⟩
theorem cc139 : ccF Try.prog [(43,[0,0]),(79,[1,0]),(60,[0,0]),(140,[0,0]),(43,[9]),(134,[8]),(136,[8]),(108,[8]),(135,[8]),(112,[8])] Try.f139 = some (stripF F139) := by kernel_rfl
def F140b0 : C := (.seq (.reg [
  ia 8 (.bin .lss (.t 7) (.t 6))]) (.seq (.cond (.t 8) .skip (.exit 0)) (.seq (.block 1 (.seq (.reg [
  ia 9 (.mv (.t 7)),
ia 10 (.ias 2 (.t 5) (.t 7)),
ia 11 (.ld 2 true (.t 10)),
ia 4 (.new [(.p (.i .i64 0)),(.p (.i .i64 0))]),
ia 3 (.mv (.t 9)),
io (.st 2 (.t 4) (.t 11))]) (.reg [
  ir 12 (.ld 1 false (.t 1)),
ir 13 (.ld 2 true (.t 4)),
ir 14 (.ld 1 false (.t 2)),
ir 15 (.mv (.t 3)),
ir 16 (.ias 1 (.t 14) (.t 15)),
ir 17 (.ld 1 false (.t 16)),
ir 18 (.call (.f 95) [(.t 17),(ci 0)]),
ia 19 (.call (.f 107) [(.t 12),(.t 13),(.t 18)])]))) (.reg [
  ia 20 (.bin .add (.t 7) (ci 1)),
ia 7 (.mv (.t 20))]))))
def F140 : FnC := ⟨3,(.seq (.reg [
  ia 5 (.ld 1 false (.t 0)),
ia 6 (.len false (.t 5)),
ia 7 (.mv (ci 0))]) (.block 0 (.loop F140b0))),[]⟩
theorem cc140 : ccF Try.prog [(43,[0,0]),(79,[1,0]),(60,[0,0]),(140,[0,0]),(43,[9]),(134,[8]),(136,[8]),(108,[8]),(135,[8]),(112,[8])] Try.f140 = some (stripF F140) := by kernel_rfl
def F141 : FnC := ⟨2,(.seq (.reg [
  ia 2 (.box 2 (.t 0)),
ia 3 (.mv (.c (.a (.p (.b false)))))]) (.seq (.reg [
  ia 4 (.fad 0 (.t 2)),
ia 5 (.ld 1 false (.t 4)),
ia 6 (.fad 0 (.t 1)),
ia 7 (.ld 1 false (.t 6)),
ia 8 (.bin .eql (.t 5) (.t 7)),
ia 3 (.mv (.t 8))]) .ret)),[(.tmp 3)]⟩
theorem cc141 : ccF Try.prog [(43,[0,0]),(79,[1,0]),(60,[0,0]),(140,[0,0]),(43,[9]),(134,[8]),(136,[8]),(108,[8]),(135,[8]),(112,[8])] Try.f141 = some (stripF F141) := by kernel_rfl
def F142 : FnC := ⟨2,(.seq (.reg [
  ia 4 (.mv (.c (.a (.p (.b false)))))]) (.seq (.reg [
  ia 5 (.mv (.t 0)),
ia 6 (.mv (.t 1)),
ia 7 (.call (.f 149) [(.t 5),(.t 6)]),
ia 8 (.bin .geq (.t 7) (ci 0)),
ia 4 (.mv (.t 8))]) .ret)),[(.tmp 4)]⟩
theorem cc142 : ccF Try.prog [(43,[0,0]),(79,[1,0]),(60,[0,0]),(140,[0,0]),(43,[9]),(134,[8]),(136,[8]),(108,[8]),(135,[8]),(112,[8])] Try.f142 = some (stripF F142) := by kernel_rfl
def F146 : FnC := ⟨2,(.seq (.reg [
  ia 4 (.mv (.c (.a (.p (.b false)))))]) (.seq (.reg [
  ia 5 (.mv (.t 0)),
ia 6 (.mv (.t 1)),
ia 7 (.call (.f 162) [(.t 5),(.t 6)]),
ia 8 (.bin .geq (.t 7) (ci 0)),
ia 4 (.mv (.t 8))]) .ret)),[(.tmp 4)]⟩
theorem cc146 : ccF Try.prog [(43,[0,0]),(79,[1,0]),(60,[0,0]),(140,[0,0]),(43,[9]),(134,[8]),(136,[8]),(108,[8]),(135,[8]),(112,[8])] Try.f146 = some (stripF F146) := by kernel_rfl
def F147 : FnC := ⟨2,(.seq (.reg [
  ia 2 (.box 2 (.t 0)),
ia 3 (.mv (.c (.a (.p (.b false)))))]) (.seq (.reg [
  ia 4 (.fad 0 (.t 2)),
ia 5 (.ld 1 false (.t 4)),
ia 6 (.bin .lss (.t 5) (ci 0)),
ia 7 (.mv (.t 6)),
ih 8 7 false (.fad 0 (.t 2)),
ih 9 7 false (.ld 1 false (.t 8)),
ih 10 7 false (.fad 0 (.t 1)),
ih 11 7 false (.fad 0 (.t 10)),
ih 12 7 false (.ld 1 false (.t 11)),
ih 13 7 false (.len false (.t 12)),
ig 14 7 false (.bin .geq (.t 9) (.t 13)),
ia 15 (.pick (.t 7) (.c (.a (.p (.b true)))) (.t 14)),
ia 16 (.mv (.t 15)),
ig 17 16 false (.fad 1 (.t 2)),
ig 18 16 false (.ld 1 false (.t 17)),
ig 19 16 false (.bin .lss (.t 18) (ci 0)),
ia 20 (.pick (.t 16) (.c (.a (.p (.b true)))) (.t 19)),
ia 21 (.mv (.t 20)),
ih 22 21 false (.fad 1 (.t 2)),
ih 23 21 false (.ld 1 false (.t 22)),
ih 24 21 false (.fad 0 (.t 1)),
ih 25 21 false (.fad 0 (.t 24)),
ih 26 21 false (.ld 1 false (.t 25)),
ih 27 21 false (.fad 0 (.t 2)),
ih 28 21 false (.ld 1 false (.t 27)),
ih 29 21 false (.ias 6 (.t 26) (.t 28)),
ih 30 21 false (.fad 5 (.t 29)),
ih 31 21 false (.ld 1 false (.t 30)),
ih 32 21 false (.len false (.t 31)),
ig 33 21 false (.bin .geq (.t 23) (.t 32)),
ia 34 (.pick (.t 21) (.c (.a (.p (.b true)))) (.t 33)),
ia 3 (.mv (.t 34))]) .ret)),[(.tmp 3)]⟩
theorem cc147 : ccF Try.prog [(43,[0,0]),(79,[1,0]),(60,[0,0]),(140,[0,0]),(43,[9]),(134,[8]),(136,[8]),(108,[8]),(135,[8]),(112,[8])] Try.f147 = some (stripF F147) := by kernel_rfl
def F149b0 : C := (.seq (.reg [
  ia 9 (.bin .lss (.t 8) (.t 7))]) (.seq (.cond (.t 9) .skip (.exit 0)) (.seq (.block 1 (.seq (.reg [
  ia 10 (.mv (.t 8)),
ia 5 (.mv (.t 10))]) (.seq (.reg [
  ia 11 (.mv (.t 1)),
ia 12 (.mv (.t 0)),
ia 13 (.mv (.t 5)),
ia 14 (.ias 2 (.t 12) (.t 13)),
ia 15 (.ld 2 true (.t 14)),
ia 16 (.call (.t 11) [(.t 15)])]) (.cond (.t 16) (.seq (.reg [
  ia 17 (.mv (.t 5)),
ia 4 (.mv (.t 17))]) .ret) .skip)))) (.reg [
  ia 18 (.bin .add (.t 8) (ci 1)),
ia 8 (.mv (.t 18))]))))
def F149 : FnC := ⟨2,(.seq (.reg [
  ia 4 (.mv (ci 0))]) (.seq (.seq (.reg [
  ia 6 (.mv (.t 0)),
ia 7 (.len false (.t 6)),
ia 8 (.mv (ci 0))]) (.block 0 (.loop F149b0))) (.seq (.reg [
  ia 4 (.mv (.c (.a (.p (.i .i64 (-1))))))]) .ret))),[(.tmp 4)]⟩
theorem cc149 : ccF Try.prog [(43,[0,0]),(79,[1,0]),(60,[0,0]),(140,[0,0]),(43,[9]),(134,[8]),(136,[8]),(108,[8]),(135,[8]),(112,[8])] Try.f149 = some (stripF F149) := by kernel_rfl
def F150 : FnC := ⟨2,(.seq (.reg [
  ia 2 (.box 2 (.t 0)),
ia 3 (.mv (.c (.a (.p (.b false)))))]) (.seq (.reg [
  ia 4 (.fad 0 (.t 2)),
ia 5 (.ld 1 false (.t 4)),
ia 6 (.fad 3 (.t 1)),
ia 7 (.ld 1 false (.t 6)),
ia 8 (.bin .eql (.t 5) (.t 7)),
ia 9 (.mv (.t 8)),
ig 10 9 true (.fad 1 (.t 2)),
ig 11 9 true (.ld 1 false (.t 10)),
ig 12 9 true (.fad 5 (.t 1)),
ig 13 9 true (.ld 1 false (.t 12)),
ig 14 9 true (.len false (.t 13)),
ig 15 9 true (.bin .sub (.t 14) (ci 1)),
ig 16 9 true (.bin .eql (.t 11) (.t 15)),
ia 17 (.pick (.t 9) (.t 16) (.c (.a (.p (.b false))))),
ia 3 (.mv (.t 17))]) .ret)),[(.tmp 3)]⟩
theorem cc150 : ccF Try.prog [(43,[0,0]),(79,[1,0]),(60,[0,0]),(140,[0,0]),(43,[9]),(134,[8]),(136,[8]),(108,[8]),(135,[8]),(112,[8])] Try.f150 = some (stripF F150) := by kernel_rfl
def F151 : FnC := ⟨1,(.seq (.reg [
  ia 2 (.new [(.p (.i .i64 0)),(.p (.i .i64 0)),(.p (.i .i64 0)),(.p (.s [])),.nil,.nil])]) (.seq (.reg [
  ia 3 (.mv (.c (.a (.p (.s [70,97,108,115,101])))))]) (.seq (.seq (.reg [
  ia 4 (.mv (.t 0))]) (.cond (.t 4) (.reg [
  ia 3 (.mv (.c (.a (.p (.s [84,114,117,101])))))]) .skip)) (.seq (.reg [
  ia 5 (.mv (.t 3)),
ia 6 (.mslF 2 43 16 [(.p (.i .i64 0)),(.p (.i .i64 0))] (ci 1) (ci 1)),
ia 7 (.build [(.p (.i .i64 0)),(.p (.i .i64 0)),(.p (.i .i64 0)),(.p (.s [])),.nil,.nil] [(0,(1,(ci 8))),(3,(1,(.t 5))),(5,(1,(.t 6)))]),
io (.st 6 (.t 2) (.t 7))]) .ret)))),[(.cell 2 6 true)]⟩
theorem cc151 : ccF Try.prog [(43,[0,0]),(79,[1,0]),(60,[0,0]),(140,[0,0]),(43,[9]),(134,[8]),(136,[8]),(108,[8]),(135,[8]),(112,[8])] Try.f151 = some (stripF F151) := by kernel_rfl
def F152 : FnC := ⟨3,(.seq (.reg [
  ia 3 (.box 2 (.t 0)),
ia 4 (.box 2 (.t 1)),
ia 5 (.box 2 (.t 2)),
ia 6 (.new [.nil,(.p (.i .i64 0))]),
ia 7 (.mv (ci 0))]) (.seq (.reg [
  ia 9 (.ld 2 true (.t 3)),
ia 10 (.build [.nil,(.p (.i .i64 0))] [(0,(2,(.t 9)))]),
ia 8 (.new [.nil,(.p (.i .i64 0))]),
io (.st 2 (.t 8) (.t 10))]) (.seq (.block 0 (.seq (.reg [
  ir 12 (.ld 2 true (.t 8)),
ir 13 (.ld 2 true (.t 4)),
ir 14 (.ld 2 true (.t 5)),
⟨(.some 15),.none,(.bsl 2 43 [(.p (.i .i64 0)),(.p (.i .i64 0))] 2 [(0,(.t 13)),(1,(.t 14))]),.ad⟩,
ia 16 (.call (.f 122) [(.t 12),(.t 15)]),
ia 17 (.not (.t 16)),
ia 18 (.mv (.t 17)),
ih 19 18 false (.ld 2 true (.t 4)),
ih 20 18 false (.ld 2 true (.t 5)),
ig 21 18 false (.eqg false [0,0] (.t 19) (.t 20)),
ia 22 (.pick (.t 18) (.c (.a (.p (.b true)))) (.t 21)),
ia 23 (.mv (.t 22)),
ih 24 23 false (.ld 2 true (.t 8)),
ih 25 23 false (.ld 2 true (.t 8)),
ih 26 23 false (.ld 2 true (.t 4)),
ih 27 23 false (.call (.f 123) [(.t 25),(.t 26)]),
ih 28 23 false (.ld 2 true (.t 8)),
ih 29 23 false (.ld 2 true (.t 5)),
ih 30 23 false (.call (.f 123) [(.t 28),(.t 29)]),
⟨(.some 31),(.some (23,false)),(.bsl 2 43 [(.p (.i .i64 0)),(.p (.i .i64 0))] 2 [(0,(.t 27)),(1,(.t 30))]),.ad⟩,
ig 32 23 false (.call (.f 122) [(.t 24),(.t 31)]),
ig 33 23 false (.not (.t 32)),
ia 34 (.pick (.t 23) (.c (.a (.p (.b true)))) (.t 33)),
ia 11 (.mv (.t 34))]) (.cond (.t 11) (.seq (.reg [
  ia 35 (.ld 2 true (.t 3)),
io (.st 2 (.t 6) (.t 35)),
ia 7 (.mv (ci 130))]) .ret) (.seq (.reg [
  ir 37 (.ld 2 true (.t 8)),
ir 38 (.ld 2 true (.t 4)),
ir 39 (.call (.f 123) [(.t 37),(.t 38)]),
ir 40 (.ld 2 true (.t 5)),
ia 41 (.eqg false [0,0] (.t 39) (.t 40)),
ia 36 (.mv (.t 41))]) (.cond (.t 36) (.seq (.reg [
  ia 42 (.ld 2 true (.t 3)),
io (.st 2 (.t 6) (.t 42)),
ia 7 (.mv (ci 0))]) .ret) .skip))))) (.seq (.reg [
  ir 43 (.ld 2 true (.t 8)),
ir 44 (.ld 2 true (.t 8)),
ir 45 (.ld 2 true (.t 4)),
ir 46 (.call (.f 123) [(.t 44),(.t 45)]),
ir 47 (.ld 2 true (.t 8)),
ir 48 (.ld 2 true (.t 5)),
ir 49 (.call (.f 123) [(.t 47),(.t 48)]),
ia 50 (.call (.f 154) [(.t 43),(.t 46),(.t 49)]),
ir 51 (.ext (.t 50) 0),
ir 52 (.ext (.t 50) 1),
io (.st 2 (.t 6) (.t 51)),
ia 7 (.mv (.t 52))]) .ret)))),[(.cell 6 2 true),(.tmp 7)]⟩
theorem cc152 : ccF Try.prog [(43,[0,0]),(79,[1,0]),(60,[0,0]),(140,[0,0]),(43,[9]),(134,[8]),(136,[8]),(108,[8]),(135,[8]),(112,[8])] Try.f152 = some (stripF F152) := by kernel_rfl
def F153 : FnC := ⟨3,(.seq (.reg [
  ia 3 (.box 2 (.t 0)),
ia 4 (.box 2 (.t 1)),
ia 5 (.box 2 (.t 2)),
ia 6 (.new [.nil,(.p (.i .i64 0))]),
ia 7 (.mv (ci 0))]) (.seq (.reg [
  ia 8 (.ld 2 true (.t 3)),
ia 9 (.build [.nil,(.p (.i .i64 0))] [(0,(2,(.t 8)))]),
ia 10 (.ld 2 true (.t 4)),
ia 11 (.ld 2 true (.t 5)),
ia 12 (.call (.f 154) [(.t 9),(.t 10),(.t 11)]),
ia 13 (.ext (.t 12) 0),
ia 14 (.ext (.t 12) 1),
io (.st 2 (.t 6) (.t 13)),
ia 7 (.mv (.t 14))]) .ret)),[(.cell 6 2 true),(.tmp 7)]⟩
theorem cc153 : ccF Try.prog [(43,[0,0]),(79,[1,0]),(60,[0,0]),(140,[0,0]),(43,[9]),(134,[8]),(136,[8]),(108,[8]),(135,[8]),(112,[8])] Try.f153 = some (stripF F153) := by kernel_rfl
def F154 : FnC := ⟨3,(.seq (.reg [
  ia 3 (.box 2 (.t 0)),
ia 4 (.box 2 (.t 1)),
ia 5 (.box 2 (.t 2)),
ia 6 (.new [.nil,(.p (.i .i64 0))]),
ia 7 (.mv (ci 0))]) (.seq (.seq (.reg [
  ia 8 (.ld 2 true (.t 3)),
ia 9 (.ld 2 true (.t 4)),
ia 10 (.ld 2 true (.t 5)),
ia 11 (.bsl 2 43 [(.p (.i .i64 0)),(.p (.i .i64 0))] 2 [(0,(.t 9)),(1,(.t 10))]),
ia 12 (.call (.f 122) [(.t 8),(.t 11)]),
ia 13 (.not (.t 12)),
ia 14 (.mv (.t 13)),
ig 15 14 false (.ld 2 true (.t 4)),
ig 16 14 false (.ld 2 true (.t 5)),
ig 17 14 false (.eqg false [0,0] (.t 15) (.t 16)),
ia 18 (.pick (.t 14) (.c (.a (.p (.b true)))) (.t 17))]) (.cond (.t 18) (.seq (.reg [
  ia 19 (.fad 0 (.t 3)),
ia 20 (.ld 2 true (.t 19)),
io (.st 2 (.t 6) (.t 20)),
ia 7 (.mv (ci 130))]) .ret) .skip)) (.seq (.reg [
  ir 21 (.ld 2 true (.t 3)),
ir 22 (.ld 2 true (.t 4)),
ir 23 (.ld 2 true (.t 5)),
ir 24 (.call (.f 164) [(.t 21),(.t 22),(.t 23)]),
ir 25 (.ld 2 true (.t 5)),
ir 26 (.ld 2 true (.t 4)),
ia 27 (.call (.f 164) [(.t 24),(.t 25),(.t 26)]),
ia 28 (.fld 0 2 true (.t 27)),
io (.st 2 (.t 6) (.t 28)),
ia 7 (.mv (ci 0))]) .ret))),[(.cell 6 2 true),(.tmp 7)]⟩
theorem cc154 : ccF Try.prog [(43,[0,0]),(79,[1,0]),(60,[0,0]),(140,[0,0]),(43,[9]),(134,[8]),(136,[8]),(108,[8]),(135,[8]),(112,[8])] Try.f154 = some (stripF F154) := by kernel_rfl
def F155 : FnC := ⟨1,(.seq (.reg [
  ia 2 (.mv (.c (.a .nil)))]) (.seq (.seq (.reg [
  ia 3 (.mv (.t 0)),
ia 4 (.nq false (.t 3))]) (.cond (.t 4) (.seq (.reg [
  ia 2 (.mv (.c (.a .nil)))]) .ret) .skip)) (.seq (.reg [
  ia 5 (.bsl 2 79 [(.p (.s [])),(.p (.i .i64 0))] 0 []),
ia 6 (.mv (.t 0)),
ia 7 (.app 2 79 24 (.t 5) (.t 6)),
ia 2 (.mv (.t 7))]) .ret))),[(.tmp 2)]⟩
theorem cc155 : ccF Try.prog [(43,[0,0]),(79,[1,0]),(60,[0,0]),(140,[0,0]),(43,[9]),(134,[8]),(136,[8]),(108,[8]),(135,[8]),(112,[8])] Try.f155 = some (stripF F155) := by kernel_rfl
def F156b0 : C := (.seq (.reg [
  ia 9 (.bin .lss (.t 8) (.t 7))]) (.seq (.cond (.t 9) .skip (.exit 0)) (.seq (.block 1 (.seq (.reg [
  ia 10 (.mv (.t 8)),
ia 5 (.mv (.t 10))]) (.seq (.reg [
  ia 11 (.mv (.t 1)),
ia 12 (.mv (.t 0)),
ia 13 (.mv (.t 5)),
ia 14 (.ias 6 (.t 12) (.t 13)),
ia 15 (.ld 6 true (.t 14)),
ia 16 (.call (.t 11) [(.t 15)])]) (.cond (.t 16) (.seq (.reg [
  ia 17 (.mv (.t 5)),
ia 4 (.mv (.t 17))]) .ret) .skip)))) (.reg [
  ia 18 (.bin .add (.t 8) (ci 1)),
ia 8 (.mv (.t 18))]))))
def F156 : FnC := ⟨2,(.seq (.reg [
  ia 4 (.mv (ci 0))]) (.seq (.seq (.reg [
  ia 6 (.mv (.t 0)),
ia 7 (.len false (.t 6)),
ia 8 (.mv (ci 0))]) (.block 0 (.loop F156b0))) (.seq (.reg [
  ia 4 (.mv (.c (.a (.p (.i .i64 (-1))))))]) .ret))),[(.tmp 4)]⟩
theorem cc156 : ccF Try.prog [(43,[0,0]),(79,[1,0]),(60,[0,0]),(140,[0,0]),(43,[9]),(134,[8]),(136,[8]),(108,[8]),(135,[8]),(112,[8])] Try.f156 = some (stripF F156) := by kernel_rfl
def F162b0 : C := (.seq (.reg [
  ia 9 (.bin .lss (.t 8) (.t 7))]) (.seq (.cond (.t 9) .skip (.exit 0)) (.seq (.block 1 (.seq (.reg [
  ia 10 (.mv (.t 8)),
ia 5 (.mv (.t 10))]) (.seq (.reg [
  ia 11 (.mv (.t 1)),
ia 12 (.mv (.t 0)),
ia 13 (.mv (.t 5)),
ia 14 (.ias 2 (.t 12) (.t 13)),
ia 15 (.ld 2 true (.t 14)),
ia 16 (.call (.t 11) [(.t 15)])]) (.cond (.t 16) (.seq (.reg [
  ia 17 (.mv (.t 5)),
ia 4 (.mv (.t 17))]) .ret) .skip)))) (.reg [
  ia 18 (.bin .add (.t 8) (ci 1)),
ia 8 (.mv (.t 18))]))))
def F162 : FnC := ⟨2,(.seq (.reg [
  ia 4 (.mv (ci 0))]) (.seq (.seq (.reg [
  ia 6 (.mv (.t 0)),
ia 7 (.len false (.t 6)),
ia 8 (.mv (ci 0))]) (.block 0 (.loop F162b0))) (.seq (.reg [
  ia 4 (.mv (.c (.a (.p (.i .i64 (-1))))))]) .ret))),[(.tmp 4)]⟩
theorem cc162 : ccF Try.prog [(43,[0,0]),(79,[1,0]),(60,[0,0]),(140,[0,0]),(43,[9]),(134,[8]),(136,[8]),(108,[8]),(135,[8]),(112,[8])] Try.f162 = some (stripF F162) := by kernel_rfl
def F164 : FnC := ⟨3,(.seq (.reg [
  ia 3 (.box 2 (.t 0)),
ia 4 (.box 2 (.t 1)),
ia 5 (.box 2 (.t 2)),
ia 6 (.new [.nil,(.p (.i .i64 0))])]) (.seq (.reg [
  ia 8 (.fad 0 (.t 3)),
ia 9 (.fad 0 (.t 8)),
ia 10 (.ld 1 false (.t 9)),
ia 11 (.fad 0 (.t 4)),
ia 12 (.ld 1 false (.t 11)),
ia 13 (.ias 6 (.t 10) (.t 12)),
ia 14 (.ld 6 true (.t 13)),
ia 7 (.new [(.p (.i .i64 0)),(.p (.i .i64 0)),(.p (.i .i64 0)),(.p (.s [])),.nil,.nil]),
io (.st 6 (.t 7) (.t 14))]) (.seq (.reg [
  ia 15 (.fad 5 (.t 7)),
ia 16 (.ld 1 false (.t 15)),
ia 17 (.call (.f 166) [(.t 16)]),
ia 18 (.fad 5 (.t 7)),
io (.st 1 (.t 18) (.t 17))]) (.seq (.reg [
  ia 19 (.fad 5 (.t 7)),
ia 20 (.ld 1 false (.t 19)),
ia 21 (.fad 1 (.t 4)),
ia 22 (.ld 1 false (.t 21)),
ia 23 (.ld 2 true (.t 5)),
ia 24 (.ias 2 (.t 20) (.t 22)),
io (.st 2 (.t 24) (.t 23))]) (.seq (.reg [
  ia 25 (.fad 0 (.t 3)),
ia 26 (.fad 0 (.t 25)),
ia 27 (.ld 1 false (.t 26)),
ia 28 (.call (.f 167) [(.t 27)]),
ia 29 (.fad 0 (.t 3)),
ia 30 (.fad 0 (.t 29)),
io (.st 1 (.t 30) (.t 28))]) (.seq (.reg [
  ia 31 (.fad 0 (.t 3)),
ia 32 (.fad 0 (.t 31)),
ia 33 (.ld 1 false (.t 32)),
ia 34 (.fad 0 (.t 4)),
ia 35 (.ld 1 false (.t 34)),
ia 36 (.ld 6 true (.t 7)),
ia 37 (.ias 6 (.t 33) (.t 35)),
io (.st 6 (.t 37) (.t 36))]) (.seq (.reg [
  ia 38 (.ld 2 true (.t 3)),
io (.st 2 (.t 6) (.t 38))]) .ret))))))),[(.cell 6 2 true)]⟩
theorem cc164 : ccF Try.prog [(43,[0,0]),(79,[1,0]),(60,[0,0]),(140,[0,0]),(43,[9]),(134,[8]),(136,[8]),(108,[8]),(135,[8]),(112,[8])] Try.f164 = some (stripF F164) := by kernel_rfl
def F166 : FnC := ⟨1,(.seq (.reg [
  ia 2 (.mv (.c (.a .nil)))]) (.seq (.seq (.reg [
  ia 3 (.mv (.t 0)),
ia 4 (.nq false (.t 3))]) (.cond (.t 4) (.seq (.reg [
  ia 2 (.mv (.c (.a .nil)))]) .ret) .skip)) (.seq (.reg [
  ia 5 (.bsl 2 43 [(.p (.i .i64 0)),(.p (.i .i64 0))] 0 []),
ia 6 (.mv (.t 0)),
ia 7 (.app 2 43 16 (.t 5) (.t 6)),
ia 2 (.mv (.t 7))]) .ret))),[(.tmp 2)]⟩
theorem cc166 : ccF Try.prog [(43,[0,0]),(79,[1,0]),(60,[0,0]),(140,[0,0]),(43,[9]),(134,[8]),(136,[8]),(108,[8]),(135,[8]),(112,[8])] Try.f166 = some (stripF F166) := by kernel_rfl
def F167 : FnC := ⟨1,(.seq (.reg [
  ia 2 (.mv (.c (.a .nil)))]) (.seq (.seq (.reg [
  ia 3 (.mv (.t 0)),
ia 4 (.nq false (.t 3))]) (.cond (.t 4) (.seq (.reg [
  ia 2 (.mv (.c (.a .nil)))]) .ret) .skip)) (.seq (.reg [
  ia 5 (.bsl 6 41 [(.p (.i .i64 0)),(.p (.i .i64 0)),(.p (.i .i64 0)),(.p (.s [])),.nil,.nil] 0 []),
ia 6 (.mv (.t 0)),
ia 7 (.app 6 41 88 (.t 5) (.t 6)),
ia 2 (.mv (.t 7))]) .ret))),[(.tmp 2)]⟩
theorem cc167 : ccF Try.prog [(43,[0,0]),(79,[1,0]),(60,[0,0]),(140,[0,0]),(43,[9]),(134,[8]),(136,[8]),(108,[8]),(135,[8]),(112,[8])] Try.f167 = some (stripF F167) := by kernel_rfl
def tblB : List (FuncId × FnC) := [(112,F112),(113,F113),(114,F114),(122,F122),(123,F123),(131,F131),(132,F132),(133,F133),(134,F134),(135,F135),(136,F136),(137,F137),(138,F138),(139,F139),(140,F140),(141,F141),(142,F142),(146,F146),(147,F147),(149,F149),(150,F150),(151,F151),(152,F152),(153,F153),(154,F154),(155,F155),(156,F156),(162,F162),(164,F164),(166,F166),(167,F167)]
theorem tblOkB : ∀ x,x ∈ tblB → ∃ fn,Try.prog.funcs[x.1]? = some fn ∧ ccF Try.prog [(43,[0,0]),(79,[1,0]),(60,[0,0]),(140,[0,0]),(43,[9]),(134,[8]),(136,[8]),(108,[8]),(135,[8]),(112,[8])] fn = some (stripF x.2) := by
  intro x hx
  simp only [tblB,List.mem_cons,List.not_mem_nil,or_false] at hx
  rcases hx with rfl | rfl | rfl | rfl | rfl | rfl | rfl | rfl | rfl | rfl | rfl | rfl | rfl | rfl | rfl | rfl | rfl | rfl | rfl | rfl | rfl | rfl | rfl | rfl | rfl | rfl | rfl | rfl | rfl | rfl | rfl
  · exact ⟨_,Try.func112,cc112⟩
  · exact ⟨_,Try.func113,cc113⟩
  · exact ⟨_,Try.func114,cc114⟩
  · exact ⟨_,Try.func122,cc122⟩
  · exact ⟨_,Try.func123,cc123⟩
  · exact ⟨_,Try.func131,cc131⟩
  · exact ⟨_,Try.func132,cc132⟩
  · exact ⟨_,Try.func133,cc133⟩
  · exact ⟨_,Try.func134,cc134⟩
  · exact ⟨_,Try.func135,cc135⟩
  · exact ⟨_,Try.func136,cc136⟩
  · exact ⟨_,Try.func137,cc137⟩
  · exact ⟨_,Try.func138,cc138⟩
  · exact ⟨_,Try.func139,cc139⟩
  · exact ⟨_,Try.func140,cc140⟩
  · exact ⟨_,Try.func141,cc141⟩
  · exact ⟨_,Try.func142,cc142⟩
  · exact ⟨_,Try.func146,cc146⟩
  · exact ⟨_,Try.func147,cc147⟩
  · exact ⟨_,Try.func149,cc149⟩
  · exact ⟨_,Try.func150,cc150⟩
  · exact ⟨_,Try.func151,cc151⟩
  · exact ⟨_,Try.func152,cc152⟩
  · exact ⟨_,Try.func153,cc153⟩
  · exact ⟨_,Try.func154,cc154⟩
  · exact ⟨_,Try.func155,cc155⟩
  · exact ⟨_,Try.func156,cc156⟩
  · exact ⟨_,Try.func162,cc162⟩
  · exact ⟨_,Try.func164,cc164⟩
  · exact ⟨_,Try.func166,cc166⟩
  · exact ⟨_,Try.func167,cc167⟩
end Go.Proofs.Ytkpfjolcmkikeaa
namespace Go.Proofs.Ytkpfjolcmkikeaa
open Go.Fx
def tbl : List (FuncId × FnC) := tblA ++ tblB
theorem tblOk : ∀ x,x ∈ tbl → ∃ fn,Try.prog.funcs[x.1]? = some fn ∧ ccF Try.prog [(43,[0,0]),(79,[1,0]),(60,[0,0]),(140,[0,0]),(43,[9]),(134,[8]),(136,[8]),(108,[8]),(135,[8]),(112,[8])] fn = some (stripF x.2) := by
  intro x hx
  simp only [tbl,List.mem_append] at hx
  rcases hx with hx | hx
  · exact tblOkA x hx
  · exact tblOkB x hx
end Go.Proofs.Ytkpfjolcmkikeaa
section
set_option linter.unusedSimpArgs false
set_option linter.unusedVariables false
set_option maxHeartbeats 4000000
set_option maxRecDepth 10000
namespace Go.Proofs.Ytkpfjolcmkikeaa
open Go.Fx
def spN (f : FuncId) : Bool := f == 166 || f == 167 || f == 80 || f == 51 || f == 65 || f == 33 || f == 60 || f == 83 || f == 84 || f == 120 || f == 144 || f == 145
def orcN (f : FuncId) (ps : List PT) : Option PT := if f = 155 then (match ps with | [.a (.l [])] => some (.a (.l [])) | _ => none) else none
def S : Seat := { fb := fun f => (tbl.find? (·.1 == f)).map (·.2),sp := spN,orc := orcN }
theorem spS (f : FuncId) : S.sp f = spN f := rfl
theorem orcS {f : FuncId} (h : f ≠ 155) (ps : List PT) : S.orc f ps = none := by show orcN f ps = none; unfold orcN; rw [if_neg h]
structure Pt where
  n : Int
  s : Int
  deriving DecidableEq
structure Ar where
  s : List UInt8
  n : Int
  deriving DecidableEq
structure Nd where
  k : Int
  lv : Int
  n : Int
  s : List UInt8
  al : List Ar
  to : List Pt
  deriving DecidableEq
structure Nt where
  ns : List Nd
  cap : Int
  deriving DecidableEq
def encP (p : Pt) : List PV := [.i .i64 p.n,.i .i64 p.s]
def encA (a : Ar) : List PV := [.s a.s,.i .i64 a.n]
def encN (x : Nd) : List PV := [.i .i64 x.k,.i .i64 x.lv,.i .i64 x.n,.s x.s,.l (x.al.map encA),.l (x.to.map encP)]
def encT (n : Nt) : List PV := [.l (n.ns.map encN),.i .i64 n.cap]
theorem allP (l : List Pt) : ((l.map encP).all fun r => decide (r.length = 2)) = true := by simp [encP]
theorem allA (l : List Ar) : ((l.map encA).all fun r => decide (r.length = 2)) = true := by simp [encA]
theorem allN (l : List Nd) : ((l.map encN).all fun r => decide (r.length = 6)) = true := by simp [encN]
def zP : Pt := ⟨0,0⟩
def zA : Ar := ⟨[],0⟩
def zN : Nd := ⟨0,0,0,[],[],[]⟩
theorem getP {l : List Pt} {i : Int} (h0 : 0 ≤ i) (h1 : i < l.length) : (l.map encP)[i.toNat]? = some (encP (l.getD i.toNat zP)) := by
  rw [List.getElem?_map,List.getD_eq_getElem?_getD,List.getElem?_eq_getElem (by omega)]; rfl
theorem getA {l : List Ar} {i : Int} (h0 : 0 ≤ i) (h1 : i < l.length) : (l.map encA)[i.toNat]? = some (encA (l.getD i.toNat zA)) := by
  rw [List.getElem?_map,List.getD_eq_getElem?_getD,List.getElem?_eq_getElem (by omega)]; rfl
theorem getN {l : List Nd} {i : Int} (h0 : 0 ≤ i) (h1 : i < l.length) : (l.map encN)[i.toNat]? = some (encN (l.getD i.toNat zN)) := by
  rw [List.getElem?_map,List.getD_eq_getElem?_getD,List.getElem?_eq_getElem (by omega)]; rfl
def Nt.nd (n : Nt) (i : Int) : Nd := n.ns.getD i.toNat zN
def Nd.tt (x : Nd) (i : Int) : Pt := x.to.getD i.toNat zP
def Nt.lk (n : Nt) (p : Pt) : Pt := (n.nd p.n).tt p.s
def Nt.has (n : Nt) (p : Pt) : Bool := decide (p.n ≥ 0) && decide (p.n < n.ns.length) && decide (p.s ≥ 0) && decide (p.s < (n.nd p.n).to.length)
def wf (i : Int) : Prop := -9223372036854775808 ≤ i ∧ i ≤ 9223372036854775807
theorem wrap_in (n : Int) (h : -9223372036854775808 ≤ n ∧ n ≤ 9223372036854775807) : IntKind.i64.wrap n = n := IntWalk.i64_in n h
theorem wrap_succ (n : Nat) (h : n < 9223372036854775807) : IntKind.i64.wrap ((n : Int) + 1) = ((n + 1 : Nat) : Int) := by rw [wrap_in _ (by omega)]; omega
structure Nd.Ok (x : Nd) : Prop where
  k : wf x.k
  lv : wf x.lv
  n : wf x.n
  s : x.s.length ≤ 140737488355328
  al : x.al.length * 24 ≤ 140737488355328
  to : x.to.length * 16 ≤ 140737488355328
  ap : ∀ a,a ∈ x.al → wf a.n
  tp : ∀ p,p ∈ x.to → wf p.n ∧ wf p.s
structure Nt.Ok (n : Nt) : Prop where
  ns : n.ns.length * 88 ≤ 140737488355328
  cap : wf n.cap
  nd : ∀ x,x ∈ n.ns → x.Ok
theorem seatEqs : EqOk Try.prog [(43,[0,0]),(79,[1,0]),(60,[0,0]),(140,[0,0]),(43,[9]),(134,[8]),(136,[8]),(108,[8]),(135,[8]),(112,[8])] := by
  intro t sh h xa ya r he m σ w xs ys hx hy
  simp only [List.mem_cons,Prod.mk.injEq,List.not_mem_nil,or_false] at h
  rcases h with ⟨rfl,rfl⟩ | ⟨rfl,rfl⟩ | ⟨rfl,rfl⟩ | ⟨rfl,rfl⟩ | ⟨rfl,rfl⟩ | ⟨rfl,rfl⟩ | ⟨rfl,rfl⟩ | ⟨rfl,rfl⟩ | ⟨rfl,rfl⟩ | ⟨rfl,rfl⟩
  · exact eq_struct (sh := [0,0]) Try.underlying43 (by kernel_rfl) (by kernel_rfl) ⟨by decide,rfl,⟨_,Try.underlying3⟩,by decide,rfl,⟨_,Try.underlying3⟩,trivial⟩ xa ya r he m σ w xs ys hx hy
  · exact eq_struct (sh := [1,0]) Try.underlying79 (by kernel_rfl) (by kernel_rfl) ⟨by decide,rfl,Try.underlying9,by decide,rfl,⟨_,Try.underlying3⟩,trivial⟩ xa ya r he m σ w xs ys hx hy
  · exact eq_struct (sh := [0,0]) Try.underlying60 (by kernel_rfl) (by kernel_rfl) ⟨by decide,rfl,⟨_,Try.underlying3⟩,by decide,rfl,⟨_,Try.underlying3⟩,trivial⟩ xa ya r he m σ w xs ys hx hy
  · exact eq_arr (k := .i64) Try.underlying140 Try.underlying3 (by kernel_rfl) (by kernel_rfl) rfl (by kernel_rfl) xa ya r he m σ w xs ys hx hy
  · have h0 : ∀ (a c : List AV),eqCells [9] a c = none := fun a c => by cases a <;> cases c <;> rfl
    rw [h0] at he; cases he
  · have h0 : ∀ (a c : List AV),eqCells [8] a c = none := fun a c => by cases a <;> cases c <;> rfl
    rw [h0] at he; cases he
  · have h0 : ∀ (a c : List AV),eqCells [8] a c = none := fun a c => by cases a <;> cases c <;> rfl
    rw [h0] at he; cases he
  · have h0 : ∀ (a c : List AV),eqCells [8] a c = none := fun a c => by cases a <;> cases c <;> rfl
    rw [h0] at he; cases he
  · have h0 : ∀ (a c : List AV),eqCells [8] a c = none := fun a c => by cases a <;> cases c <;> rfl
    rw [h0] at he; cases he
  · have h0 : ∀ (a c : List AV),eqCells [8] a c = none := fun a c => by cases a <;> cases c <;> rfl
    rw [h0] at he; cases he
set_option linter.defProp false in
def nxE := And.intro (@encT.eq_1) (And.intro (@encN.eq_1) (And.intro (@encP.eq_1) (And.intro (@encA.eq_1) (And.intro (@spN.eq_1) (And.intro (@spS) (And.intro (@allP) (And.intro (@allA) (@allN))))))))
theorem clone_empty (P : Program) (eqs : List (TypeId × List Nat)) {fn : Func} {fc : FnC} (hm : P.follows .mixedOrders = true) (hE : EqOk P eqs) {f : FuncId} (hf : P.funcs[f]? = some fn) (hc : ccF P eqs fn = some (stripF fc))
    (hfc : ∃ k el b,fc = ⟨1,(.seq (.reg [⟨(.some 2),.none,(.mv (.c (.a .nil))),.any⟩]) (.seq (.seq (.reg [⟨(.some 3),.none,(.mv (.t 0)),.any⟩,⟨(.some 4),.none,(.nq false (.t 3)),.any⟩]) (.cond (.t 4) (.seq (.reg [⟨(.some 2),.none,(.mv (.c (.a .nil))),.any⟩]) .ret) .skip)) (.seq (.reg [
      ⟨(.some 5),.none,(.bsl k el b 0 []),.any⟩,⟨(.some 6),.none,(.mv (.t 0)),.any⟩,⟨(.some 7),.none,(.app k el 24 (.t 5) (.t 6)),.any⟩,⟨(.some 2),.none,(.mv (.t 7)),.any⟩]) .ret))),[(.tmp 2)]⟩ ∧ ∃ z,frL .empty b = some z ∧ ∀ σ,frL σ b = some z) :
    Ent P f ∧ SndP1 P f [.a (.l [])] (.a (.l [])) := by
  obtain ⟨k,el,b,rfl,z,hz0,hz⟩ := hfc
  have key : ∀ a c,∃ v σ',Ent P f ∧ (∀ m w vals,SR (CRP P eqs) m .empty w → F2 (RT m .empty w) [.a (.raw (.slice a 0 c))] vals → ∀ rr n,CallsIn (FW rr) n P f vals.toArray w (PostS (CRP P eqs) m .empty w v σ')) ∧ frT σ' v = some (.a (.l [])) := by
    intro a c
    cases a with
    | none =>
      have := fn_ok (cp := fun _ _ => none) (cs := fun _ _ _ => none) (sp := fun _ => false) (σ := .empty) hm hE (fun _ _ _ h => by cases h) (fun _ _ _ _ _ h => by cases h) hf hc (args := [.a (.raw (.slice none 0 c))]) (fuel := 0) rfl rfl (.inr rfl) rfl rfl
      exact ⟨_,_,this.1,this.2,rfl⟩
    | some a =>
      have hev : evC (fun _ _ => none) (fun _ _ _ => none) (fun _ => false) 0 false (.seq (.reg [⟨(.some 2),.none,(.mv (.c (.a .nil))),.any⟩]) (.seq (.seq (.reg [⟨(.some 3),.none,(.mv (.t 0)),.any⟩,⟨(.some 4),.none,(.nq false (.t 3)),.any⟩]) (.cond (.t 4) (.seq (.reg [⟨(.some 2),.none,(.mv (.c (.a .nil))),.any⟩]) .ret) .skip)) (.seq (.reg [
          ⟨(.some 5),.none,(.bsl k el b 0 []),.any⟩,⟨(.some 6),.none,(.mv (.t 0)),.any⟩,⟨(.some 7),.none,(.app k el 24 (.t 5) (.t 6)),.any⟩,⟨(.some 2),.none,(.mv (.t 7)),.any⟩]) .ret))) (Env.init [.a (.raw (.slice (some a) 0 c))]) .empty =
          some (.ret,((((((Env.init [.a (.raw (.slice (some a) 0 c))]).put 2 (.a .nil)).put 3 (.a (.raw (.slice (some a) 0 c)))).put 4 (.a (.p (.b false)))).put 5 (.a (.own (5,0) 0 0))).put 6 (.a (.raw (.slice (some a) 0 c)))).put 7 (.a (.own (7,1) 0 0)) |>.put 2 (.a (.own (7,1) 0 0)),(((St.empty.add 5 (.row k el [])).kill (5,0)).add 7 (.row k el []))) := by
        simp [evC,evIs,evI,evO,evR,ev,Env.init,Env.put,Env.putD,nilA,hz,evO.bslRows,St.add,St.put,St.kill,St.empty,rowsA,frA,rawE]
        try rfl
      have := fn_ok (cp := fun _ _ => none) (cs := fun _ _ _ => none) (sp := fun _ => false) (σ := .empty) hm hE (fun _ _ _ h => by cases h) (fun _ _ _ _ _ h => by cases h) hf hc (args := [.a (.raw (.slice (some a) 0 c))]) (fuel := 0) rfl hev (.inr rfl) rfl rfl
      exact ⟨_,_,this.1,this.2,by simp [frT,frA,St.add,St.put,St.kill,St.empty]⟩
  obtain ⟨_,_,hent,_,_⟩ := key none 0
  refine ⟨hent,fun w D vs hD hps rr n => ?_⟩
  cases hps with
  | cons x r =>
    cases r
    rename_i v
    have x : RP w D (.l []) v := x
    obtain ⟨a,c,rfl⟩ := x.slice
    obtain ⟨v,σ',_,hcall,hfr⟩ := key a c
    let m : Mt := { mu := fun _ => none,la := fun _ => 0,D := D }
    have hno : ∀ b,¬ InS m .empty b := by
      rintro b (⟨s,bl,c,hs,_⟩ | ⟨l,hl,_⟩)
      · simp [St.empty] at hs
      · simp [St.empty] at hl
    have hR : SR (CRP P eqs) m .empty w :=
      { blk := fun s b hs => by simp [St.empty] at hs,gen := fun s b hs => by simp [St.empty] at hs,inj := fun s s' b b' B c c' hs => by simp [St.empty] at hs
        dj := fun b hb => absurd hb (hno b),dlt := hD,lrs := fun l r hl => by simp [St.empty] at hl,linj := fun l l' hl => by simp [St.empty] at hl }
    refine (hcall m w [.slice a 0 c] hR (.cons ⟨rfl,rfl⟩ .nil) rr n).mono ?_
    rintro e w' ⟨v,m',rfl,j1,j2,j3⟩
    refine ⟨v,rfl,?_,?_⟩
    · refine RPT.mono (fun b hb => ⟨?_,rfl⟩) (frT_ok j1 j2 hfr)
      rcases hb with hb | hb
      · rcases j3.new b hb with h5 | h5 | h5
        · exact .inl h5
        · exact .inr ⟨h5,j1.dlt b hb⟩
        · exact absurd h5 (hno b)
      · rcases j3.img b hb with h5 | h5
        · exact absurd h5 (hno b)
        · exact .inr ⟨h5,j1.inS_lt hb⟩
    · exact { size := j3.size,block := fun b hb => j3.kept b hb (hno b),os := j3.os,tape := j3.tape,output := j3.output }
theorem seatOk : SeatOk Try.prog [(43,[0,0]),(79,[1,0]),(60,[0,0]),(140,[0,0]),(43,[9]),(134,[8]),(136,[8]),(108,[8]),(135,[8]),(112,[8])] S where
  mixed := by kernel_rfl
  eql := seatEqs
  fb f fc h := by
    simp only [S,Option.map_eq_some_iff] at h
    obtain ⟨x,h1,rfl⟩ := h
    have h2 := List.find?_some h1
    have h3 := tblOk x (List.mem_of_find?_eq_some h1)
    simp only [beq_iff_eq] at h2
    rw [← h2]; exact h3
  orc f ps r h := by
    have h2 : orcN f ps = some r := h
    clear h
    unfold orcN at h2
    split at h2
    · rename_i hf
      subst hf
      split at h2
      · simp only [Option.some.injEq] at h2; subst h2
        exact clone_empty Try.prog _ (by kernel_rfl) seatEqs Try.func155 cc155 ⟨2,79,_,rfl,_,rfl,fun _ => rfl⟩
      · cases h2
    · cases h2
end Go.Proofs.Ytkpfjolcmkikeaa
end
section
set_option linter.unusedSimpArgs false
set_option linter.unusedVariables false
set_option maxHeartbeats 4000000
set_option maxRecDepth 10000
namespace Go.Proofs.Ytkpfjolcmkikeaa
open Go.Fx
theorem Has_ok (n : Nt) (p : Pt) : eP S 35 [.g (encT n),.g (encP p)] = some (.a (.b (n.has p))) := by
  refine x_fn (orcS (by decide)) (fc := F35) rfl rfl ?_
  by_cases h1 : p.n ≥ 0
  · by_cases h2 : p.n < n.ns.length
    · have g := getN (l := n.ns) h1 h2
      have h1' : 0 ≤ p.n := h1
      by_cases h3 : p.s ≥ 0
      · simp only [F35,Nt.has,Nt.nd,h1,h1',h2,h3,g,fxa,fxc,fxE,fxL,fxI,nxE,evO,evR,cellsT,ldCells,mkT,lenA,binPV,Env.init,resV,resT,frT,klT,ownT,intT,O.adds,ownA,rowsA,over,wrOk,keysT,keysA,ne_eq,if_true,if_false,ite_self,Nat.reduceLT,Nat.reduceSub,Nat.reduceBEq,Nat.reduceEqDiff,Nat.reduceAdd,Nat.reduceLeDiff,reduceCtorEq,Nat.reduceMul]
        rfl
      · simp only [F35,Nt.has,Nt.nd,h1,h1',h2,h3,g,fxa,fxc,fxE,fxL,fxI,nxE,evO,evR,cellsT,ldCells,mkT,lenA,binPV,Env.init,resV,resT,frT,klT,ownT,intT,O.adds,ownA,rowsA,over,wrOk,keysT,keysA,ne_eq,if_true,if_false,ite_self,Nat.reduceLT,Nat.reduceSub,Nat.reduceBEq,Nat.reduceEqDiff,Nat.reduceAdd,Nat.reduceLeDiff,reduceCtorEq,Nat.reduceMul]
    · simp only [F35,Nt.has,h1,h2,fxa,fxc,fxE,fxL,fxI,nxE,evO,evR,cellsT,ldCells,mkT,lenA,binPV,Env.init,resV,resT,frT,klT,ownT,intT,O.adds,ownA,rowsA,over,wrOk,keysT,keysA,ne_eq,if_true,if_false,ite_self,Nat.reduceLT,Nat.reduceSub,Nat.reduceBEq,Nat.reduceEqDiff,Nat.reduceAdd,Nat.reduceLeDiff,reduceCtorEq,Nat.reduceMul]
  · simp only [F35,Nt.has,h1,fxa,fxc,fxE,fxL,fxI,nxE,evO,evR,cellsT,ldCells,mkT,lenA,binPV,Env.init,resV,resT,frT,klT,ownT,intT,O.adds,ownA,rowsA,over,wrOk,keysT,keysA,ne_eq,if_true,if_false,ite_self,Nat.reduceLT,Nat.reduceSub,Nat.reduceBEq,Nat.reduceEqDiff,Nat.reduceAdd,Nat.reduceLeDiff,reduceCtorEq,Nat.reduceMul]
theorem there1_ok (n : Nt) (p : Pt) (k : Key) (σ : St) (hk : σ.bs k = some (.var ((encT n).map .p))) (hlt : k.2 < σ.clk) :
    eS S (.f 147) [.g ((encP p).map .p),.a (.ptr k 0 0)] σ = some (.a (.p (.b (!n.has p))),σ.add 2 (.var ((encP p).map .p))) := by
  have hne : ¬ k = (2,σ.clk) := by rintro rfl; exact Nat.lt_irrefl _ hlt
  simp only [encT,List.map_cons,List.map_nil] at hk
  refine x_fnX (fc := F147) rfl rfl ?_
  by_cases h1 : p.n < 0
  · have h1' : ¬ p.n ≥ 0 := by omega
    simp only [F147,Nt.has,h1,h1',hk,hne,fxa,fxc,fxE,fxL,fxI,nxE,evO,evR,cellsT,ldCells,mkT,lenA,binPV,Env.init,resV,resT,frT,klT,ownT,intT,O.adds,ownA,rowsA,over,wrOk,keysT,keysA,ne_eq,if_true,if_false,ite_self,Nat.reduceLT,Nat.reduceSub,Nat.reduceBEq,Nat.reduceEqDiff,Nat.reduceAdd,Nat.reduceLeDiff,reduceCtorEq,Nat.reduceMul]
  · have h1' : p.n ≥ 0 := by omega
    have h1'' : 0 ≤ p.n := by omega
    by_cases h2 : p.n ≥ n.ns.length
    · have h2' : ¬ p.n < n.ns.length := by omega
      simp only [F147,Nt.has,h1,h1',h2,h2',hk,hne,fxa,fxc,fxE,fxL,fxI,nxE,evO,evR,cellsT,ldCells,mkT,lenA,binPV,Env.init,resV,resT,frT,klT,ownT,intT,O.adds,ownA,rowsA,over,wrOk,keysT,keysA,ne_eq,if_true,if_false,ite_self,Nat.reduceLT,Nat.reduceSub,Nat.reduceBEq,Nat.reduceEqDiff,Nat.reduceAdd,Nat.reduceLeDiff,reduceCtorEq,Nat.reduceMul]
    · have h2' : p.n < n.ns.length := by omega
      have g := getN (l := n.ns) h1'' h2'
      by_cases h3 : p.s < 0
      · have h3' : ¬ p.s ≥ 0 := by omega
        simp only [F147,Nt.has,h1,h1',h1'',h2,h2',h3,h3',g,hk,hne,fxa,fxc,fxE,fxL,fxI,nxE,evO,evR,cellsT,ldCells,mkT,lenA,binPV,Env.init,resV,resT,frT,klT,ownT,intT,O.adds,ownA,rowsA,over,wrOk,keysT,keysA,ne_eq,if_true,if_false,ite_self,Nat.reduceLT,Nat.reduceSub,Nat.reduceBEq,Nat.reduceEqDiff,Nat.reduceAdd,Nat.reduceLeDiff,reduceCtorEq,Nat.reduceMul]
      · have h3' : p.s ≥ 0 := by omega
        by_cases h4 : p.s ≥ (n.nd p.n).to.length
        · have h4' : ¬ p.s < (n.nd p.n).to.length := by omega
          simp only [Nt.nd] at h4 h4'
          simp only [F147,Nt.has,Nt.nd,h1,h1',h1'',h2,h2',h3,h3',h4,h4',g,hk,hne,fxa,fxc,fxE,fxL,fxI,nxE,evO,evR,cellsT,ldCells,mkT,lenA,binPV,Env.init,resV,resT,frT,klT,ownT,intT,O.adds,ownA,rowsA,over,wrOk,keysT,keysA,ne_eq,if_true,if_false,ite_self,Nat.reduceLT,Nat.reduceSub,Nat.reduceBEq,Nat.reduceEqDiff,Nat.reduceAdd,Nat.reduceLeDiff,reduceCtorEq,Nat.reduceMul]
        · have h4' : p.s < (n.nd p.n).to.length := by omega
          simp only [Nt.nd] at h4 h4'
          simp only [F147,Nt.has,Nt.nd,h1,h1',h1'',h2,h2',h3,h3',h4,h4',g,hk,hne,fxa,fxc,fxE,fxL,fxI,nxE,evO,evR,cellsT,ldCells,mkT,lenA,binPV,Env.init,resV,resT,frT,klT,ownT,intT,O.adds,ownA,rowsA,over,wrOk,keysT,keysA,ne_eq,if_true,if_false,ite_self,Nat.reduceLT,Nat.reduceSub,Nat.reduceBEq,Nat.reduceEqDiff,Nat.reduceAdd,Nat.reduceLeDiff,reduceCtorEq,Nat.reduceMul]
def idx {α : Type} (f : α → Bool) (l : List α) : Int := match l.findIdx? f with | some i => (i : Int) | none => -1
theorem indexP_ok (l : List Pt) (hl : l.length * 16 ≤ 140737488355328) (g : FuncId) (caps : List Key) (hc : caps ≠ []) (hsp : spN g = false) (f : Pt → Bool) (R : St → Prop)
    (hR : ∀ p σ,R σ → ∃ σ',eS S (.f g) ([.g ((encP p).map .p)] ++ caps.map fun s => .a (.ptr s 0 0)) σ = some (.a (.p (.b (f p))),σ') ∧ R σ') (σ : St) (h0 : R σ) :
    ∃ σ',eS S (.f 162) [.a (.p (.l (l.map encP))),.a (.fn g caps)] σ = some (.a (.p (.i .i64 (idx f l))),σ') ∧ R σ' := by
  obtain ⟨c1,cr,rfl⟩ : ∃ c1 cr,caps = c1 :: cr := by
    cases caps with
    | nil => exact absurd rfl hc
    | cons c1 cr => exact ⟨c1,cr,rfl⟩
  refine x_fnR (fc := F162) rfl rfl ?_
  simp only [F162,fxa,fxc,fxE,fxL,fxI,nxE,evO,evR,cellsT,ldCells,mkT,lenA,binPV,Env.init,resV,resT,frT,klT,ownT,intT,O.adds,ownA,rowsA,over,wrOk,keysT,keysA,ne_eq,if_true,if_false,ite_self,Nat.reduceLT,Nat.reduceSub,Nat.reduceBEq,Nat.reduceEqDiff,Nat.reduceAdd,Nat.reduceLeDiff,reduceCtorEq,Nat.reduceMul]
  refine loop_nat l.length (fun i e σ => e 0 = .a (.p (.l (l.map encP))) ∧ e 1 = .a (.fn g (c1 :: cr)) ∧ e 7 = .a (.p (.i .i64 l.length)) ∧ e 8 = .a (.p (.i .i64 (i : Nat))) ∧ R σ ∧ ∀ j x,j < i → l[j]? = some x → f x = false) (i0 := 0) (Nat.zero_le _) ?_ ?_ ?_
  · refine ⟨?_,?_,?_,?_,h0,fun j x hj => by omega⟩ <;> simp only [fxa,fxc,fxE,fxL,fxI,nxE,evO,evR,cellsT,ldCells,mkT,lenA,binPV,Env.init,resV,resT,frT,klT,ownT,intT,O.adds,ownA,rowsA,over,wrOk,keysT,keysA,ne_eq,if_true,if_false,ite_self,Nat.reduceLT,Nat.reduceSub,Nat.reduceBEq,Nat.reduceEqDiff,Nat.reduceAdd,Nat.reduceLeDiff,reduceCtorEq,Nat.reduceMul]
    rfl
  · rintro i e σ hi ⟨e0,e1,e7,e8,hRσ,hall⟩
    have hlt : ((i : Nat) : Int) < (l.length : Int) := by omega
    have hge : (0 : Int) ≤ ((i : Nat) : Int) := by omega
    obtain ⟨x,hx⟩ : ∃ x,l[i]? = some x := ⟨_,List.getElem?_eq_getElem hi⟩
    have hx' : (l.map encP)[i]? = some (encP x) := by simp only [List.getElem?_map,hx,Option.map_some]
    obtain ⟨σ2,hcall,hR2⟩ := hR x σ hRσ
    simp only [encP,List.map_cons,List.map_nil,List.cons_append,List.nil_append] at hcall
    simp only [F162b0,e0,e1,e7,e8,hlt,hge,hx',hsp,hcall,Bool.false_eq_true,fxa,fxc,fxE,fxL,fxI,nxE,evO,evR,cellsT,ldCells,mkT,lenA,binPV,Env.init,resV,resT,frT,klT,ownT,intT,O.adds,ownA,rowsA,over,wrOk,keysT,keysA,ne_eq,if_true,if_false,ite_self,Nat.reduceLT,Nat.reduceSub,Nat.reduceBEq,Nat.reduceEqDiff,Nat.reduceAdd,Nat.reduceLeDiff,reduceCtorEq,Nat.reduceMul]
    refine wpC_split (fun hf => ?_) (fun hf => ?_)
    · simp only [fxa,fxc,fxE,fxL,fxI,nxE,evO,evR,cellsT,ldCells,mkT,lenA,binPV,Env.init,resV,resT,frT,klT,ownT,intT,O.adds,ownA,rowsA,over,wrOk,keysT,keysA,ne_eq,if_true,if_false,ite_self,Nat.reduceLT,Nat.reduceSub,Nat.reduceBEq,Nat.reduceEqDiff,Nat.reduceAdd,Nat.reduceLeDiff,reduceCtorEq,Nat.reduceMul]
      refine ⟨?_,hR2⟩
      have : l.findIdx? f = some i := by
        rw [List.findIdx?_eq_some_iff_getElem]
        refine ⟨hi,?_,fun j hj => ?_⟩
        · rw [List.getElem?_eq_getElem hi] at hx; rw [Option.some.inj hx]; exact hf
        · rw [hall j _ hj (List.getElem?_eq_getElem (by omega))]; simp
      simp only [idx,this]
    · simp only [e0,e1,e7,e8,fxa,fxc,fxE,fxL,fxI,nxE,evO,evR,cellsT,ldCells,mkT,lenA,binPV,Env.init,resV,resT,frT,klT,ownT,intT,O.adds,ownA,rowsA,over,wrOk,keysT,keysA,ne_eq,if_true,if_false,ite_self,Nat.reduceLT,Nat.reduceSub,Nat.reduceBEq,Nat.reduceEqDiff,Nat.reduceAdd,Nat.reduceLeDiff,reduceCtorEq,Nat.reduceMul]
      refine ⟨by rw [wrap_succ i (by omega)],hR2,fun j y hj hy => ?_⟩
      by_cases e : j = i
      · subst e; rw [hx] at hy; rw [← Option.some.inj hy]; exact hf
      · exact hall j y (by omega) hy
  · rintro e σ ⟨e0,e1,e7,e8,hRσ,hall⟩
    have hlt : ¬ ((l.length : Nat) : Int) < (l.length : Int) := by omega
    simp only [F162b0,e0,e1,e7,e8,hlt,fxa,fxc,fxE,fxL,fxI,nxE,evO,evR,cellsT,ldCells,mkT,lenA,binPV,Env.init,resV,resT,frT,klT,ownT,intT,O.adds,ownA,rowsA,over,wrOk,keysT,keysA,ne_eq,if_true,if_false,ite_self,Nat.reduceLT,Nat.reduceSub,Nat.reduceBEq,Nat.reduceEqDiff,Nat.reduceAdd,Nat.reduceLeDiff,reduceCtorEq,Nat.reduceMul]
    refine ⟨?_,hRσ⟩
    have : l.findIdx? f = none := by
      rw [List.findIdx?_eq_none_iff]
      intro x hx
      obtain ⟨j,hj⟩ := List.getElem?_of_mem hx
      exact hall j x (List.getElem?_eq_some_iff.1 hj).1 hj
    simp only [idx,this]
theorem idx_any {α : Type} (f : α → Bool) (l : List α) : decide (idx f l ≥ 0) = l.any f := by
  unfold idx
  cases h : l.findIdx? f with
  | none =>
    rw [List.findIdx?_eq_none_iff] at h
    have : l.any f = false := by rw [List.any_eq_false]; intro x hx; simp [h x hx]
    rw [this]; rfl
  | some i =>
    rw [List.findIdx?_eq_some_iff_getElem] at h
    obtain ⟨hi,hf,_⟩ := h
    have : l.any f = true := by rw [List.any_eq_true]; exact ⟨_,List.getElem_mem hi,hf⟩
    rw [this]; simp
theorem there_ok (n : Nt) (l : List Pt) (hl : l.length * 16 ≤ 140737488355328) : eP S 122 [.g (encT n),.a (.l (l.map encP))] = some (.a (.b (l.all n.has))) := by
  refine x_fn (orcS (by decide)) (fc := F122) rfl rfl ?_
  have key : ∀ σ : St,σ.bs (2,0) = some (.var ((encT n).map .p)) → 1 ≤ σ.clk → ∃ σ',eS S (.f 146) [.a (.p (.l (l.map encP))),.a (.fn 147 [(2,0)])] σ = some (.a (.p (.b (l.any fun p => !n.has p))),σ') := by
    intro σ h2 hc
    obtain ⟨σ',h,_⟩ := indexP_ok l hl 147 [(2,0)] (by simp) (by decide) (fun p => !n.has p) (fun σ => σ.bs (2,0) = some (.var ((encT n).map .p)) ∧ 1 ≤ σ.clk) (fun p σ hσ => ⟨_,there1_ok n p (2,0) σ hσ.1 (by have := hσ.2; simp; omega),by
      refine ⟨?_,?_⟩
      · simp only [add_bs]; rw [if_neg (by rintro h; have := hσ.2; simp at h; omega)]; exact hσ.1
      · simp only [add_clk]; omega⟩) σ ⟨h2,hc⟩
    obtain ⟨v,σ2,h2,rfl,_⟩ := x_fnS (S := S) (g := 146) (fc := F146) rfl (args := [.a (.p (.l (l.map encP))),.a (.fn 147 [(2,0)])]) rfl (σ := σ) (K := fun v σ2 => v = .a (.p (.b (l.any fun p => !n.has p))) ∧ True) (by
      simp only [F146,h,idx_any,fxa,fxc,fxE,fxL,fxI,nxE,evO,evR,cellsT,ldCells,mkT,lenA,binPV,Env.init,resV,resT,frT,klT,ownT,intT,O.adds,ownA,rowsA,over,wrOk,keysT,keysA,ne_eq,if_true,if_false,ite_self,Nat.reduceLT,Nat.reduceSub,Nat.reduceBEq,Nat.reduceEqDiff,Nat.reduceAdd,Nat.reduceLeDiff,reduceCtorEq,Nat.reduceMul])
    exact ⟨σ2,h2⟩
  obtain ⟨σ',hcall⟩ := key (((St.empty.add 2 (.var ((encT n).map .p))))) (by simp [add_bs,empty_clk]) (by simp [add_clk,empty_clk])
  have hall : (!l.any fun p => !n.has p) = l.all n.has := by simp [List.all_eq_not_any_not]
  simp only [encT,List.map_cons,List.map_nil] at hcall
  simp only [F122,capsOf,hcall,hall,fxa,fxc,fxE,fxL,fxI,nxE,evO,evR,cellsT,ldCells,mkT,lenA,binPV,Env.init,resV,resT,frT,klT,ownT,intT,O.adds,ownA,rowsA,over,wrOk,keysT,keysA,ne_eq,if_true,if_false,ite_self,Nat.reduceLT,Nat.reduceSub,Nat.reduceBEq,Nat.reduceEqDiff,Nat.reduceAdd,Nat.reduceLeDiff,reduceCtorEq,Nat.reduceMul]
theorem peer_ok {n : Nt} {p : Pt} (h : n.has p = true) : eP S 123 [.g (encT n),.g (encP p)] = some (.g (encP (n.lk p))) := by
  simp only [Nt.has,Bool.and_eq_true,decide_eq_true_eq] at h
  obtain ⟨⟨⟨h1,h2⟩,h3⟩,h4⟩ := h
  have g := getN (l := n.ns) h1 h2
  have g2 := getP (l := (n.nd p.n).to) h3 h4
  have h1' : 0 ≤ p.n := h1
  have h3' : 0 ≤ p.s := h3
  simp only [Nt.nd] at h4 g2
  refine x_fn (orcS (by decide)) (fc := F123) rfl rfl ?_
  simp only [F123,Nt.lk,Nt.nd,Nd.tt,h1',h2,h3',h4,g,g2,fxa,fxc,fxE,fxL,fxI,nxE,evO,evR,cellsT,ldCells,mkT,lenA,binPV,Env.init,resV,resT,frT,klT,ownT,intT,O.adds,ownA,rowsA,over,wrOk,keysT,keysA,ne_eq,if_true,if_false,ite_self,Nat.reduceLT,Nat.reduceSub,Nat.reduceBEq,Nat.reduceEqDiff,Nat.reduceAdd,Nat.reduceLeDiff,reduceCtorEq,Nat.reduceMul]
def Nt.set (n : Nt) (p q : Pt) : Nt := { n with ns := n.ns.set p.n.toNat { n.nd p.n with to := (n.nd p.n).to.set p.s.toNat q } }
theorem cloneP_ok (rows : List (List PV)) (hne : rows ≠ []) (hl : rows.length * 16 ≤ 140737488355328) (h2 : (rows.all fun r => decide (r.length = 2)) = true) (σ : St) :
    eS S (.f 166) [.a (.p (.l rows))] σ = some (.a (.own (7,σ.clk + 1) 0 rows.length),((σ.add 5 (.row 2 43 [])).kill (5,σ.clk)).add 7 (.row 2 43 rows)) := by
  cases rows with
  | nil => exact absurd rfl hne
  | cons r rows =>
    refine x_fnX (fc := F166) rfl rfl ?_
    have hl' : (rows.length + 1) * 16 ≤ 140737488355328 := hl
    simp only [List.all_cons] at h2
    simp only [F166,nilA,hl',h2,fxa,fxc,fxE,fxL,fxI,nxE,evO,evR,cellsT,ldCells,mkT,lenA,binPV,Env.init,resV,resT,frT,klT,ownT,intT,O.adds,ownA,rowsA,over,wrOk,keysT,keysA,ne_eq,if_true,if_false,ite_self,Nat.reduceLT,Nat.reduceSub,Nat.reduceBEq,Nat.reduceEqDiff,Nat.reduceAdd,Nat.reduceLeDiff,reduceCtorEq,Nat.reduceMul]
theorem cloneN_ok (rows : List (List PV)) (hne : rows ≠ []) (hl : rows.length * 88 ≤ 140737488355328) (h2 : (rows.all fun r => decide (r.length = 6)) = true) (σ : St) :
    eS S (.f 167) [.a (.p (.l rows))] σ = some (.a (.own (7,σ.clk + 1) 0 rows.length),((σ.add 5 (.row 6 41 [])).kill (5,σ.clk)).add 7 (.row 6 41 rows)) := by
  cases rows with
  | nil => exact absurd rfl hne
  | cons r rows =>
    refine x_fnX (fc := F167) rfl rfl ?_
    have hl' : (rows.length + 1) * 88 ≤ 140737488355328 := hl
    simp only [List.all_cons] at h2
    simp only [F167,nilA,hl',h2,fxa,fxc,fxE,fxL,fxI,nxE,evO,evR,cellsT,ldCells,mkT,lenA,binPV,Env.init,resV,resT,frT,klT,ownT,intT,O.adds,ownA,rowsA,over,wrOk,keysT,keysA,ne_eq,if_true,if_false,ite_self,Nat.reduceLT,Nat.reduceSub,Nat.reduceBEq,Nat.reduceEqDiff,Nat.reduceAdd,Nat.reduceLeDiff,reduceCtorEq,Nat.reduceMul]
theorem take_mapset {α : Type} (l : List α) (f : α → List PV) (j : Nat) (z : List PV) : List.take l.length ((l.map f).set j z) = (l.map f).set j z := List.take_of_length_le (by simp)
theorem with_ok {n : Nt} {p : Pt} (q : Pt) (hn : n.Ok) (h : n.has p = true) : eP S 164 [.g (encT n),.g (encP p),.g (encP q)] = some (.g (encT (n.set p q))) := by
  simp only [Nt.has,Bool.and_eq_true,decide_eq_true_eq] at h
  obtain ⟨⟨⟨h1,h2⟩,h3⟩,h4⟩ := h
  have g := getN (l := n.ns) h1 h2
  have h1' : 0 ≤ p.n := h1
  have h3' : 0 ≤ p.s := h3
  have hx : (n.nd p.n).Ok := hn.nd _ (by unfold Nt.nd; rw [List.getD_eq_getElem?_getD,List.getElem?_eq_getElem (by omega)]; exact List.getElem_mem _)
  have hto := hx.to
  have hns := hn.ns
  have g2 := getP (l := (n.nd p.n).to) h3 h4
  have c1 := cloneP_ok ((n.nd p.n).to.map encP) (by intro h; simp at h; rw [h] at h4; simp at h4; omega) (by simpa using hto) (allP _)
  have c2 := cloneN_ok (n.ns.map encN) (by intro h; simp at h; rw [h] at h2; simp at h2; omega) (by simpa using hns) (allN _)
  obtain ⟨x,hxe⟩ : ∃ x,n.ns.getD p.n.toNat zN = x := ⟨_,rfl⟩
  simp only [Nt.nd,hxe,List.length_map] at h4 g g2 c1 c2
  refine x_fn (orcS (by decide)) (fc := F164) rfl rfl ?_
  simp only [F164,h1',h2,h3',h4,g,g2,c1,c2,rowK,take_mapset,List.length_set,ne_eq,not_false_eq_true,fxa,fxc,fxE,fxL,fxI,nxE,evO,evR,cellsT,ldCells,mkT,lenA,binPV,Env.init,resV,resT,frT,klT,ownT,intT,O.adds,ownA,rowsA,over,wrOk,keysT,keysA,ne_eq,if_true,if_false,ite_self,Nat.reduceLT,Nat.reduceSub,Nat.reduceBEq,Nat.reduceEqDiff,Nat.reduceAdd,Nat.reduceLeDiff,reduceCtorEq,Nat.reduceMul]
  simp only [Nt.set,Nt.nd,hxe,List.map_set,encN,encP]
end Go.Proofs.Ytkpfjolcmkikeaa
end
section
set_option linter.unusedSimpArgs false
set_option linter.unusedVariables false
set_option maxHeartbeats 4000000
set_option maxRecDepth 10000
namespace Go.Proofs.Ytkpfjolcmkikeaa
open Go.Fx
theorem ptEq (p q : Pt) : (decide (p.n = q.n) && decide (p.s = q.s)) = decide (p = q) := by
  obtain ⟨a,b⟩ := p
  obtain ⟨c,d⟩ := q
  rw [Bool.eq_iff_iff]; simp
theorem has_iff {n : Nt} {p : Pt} : n.has p = true ↔ 0 ≤ p.n ∧ p.n < n.ns.length ∧ 0 ≤ p.s ∧ p.s < (n.nd p.n).to.length := by
  simp only [Nt.has,Bool.and_eq_true,decide_eq_true_eq,ge_iff_le,and_assoc]
theorem nd_set (n : Nt) (p q : Pt) (hp : n.has p = true) (i : Int) (hi : 0 ≤ i) : (n.set p q).nd i = if i = p.n then { n.nd p.n with to := (n.nd p.n).to.set p.s.toNat q } else n.nd i := by
  rw [has_iff] at hp
  unfold Nt.set Nt.nd
  simp only
  rw [List.getD_eq_getElem?_getD,List.getElem?_set,List.getD_eq_getElem?_getD,List.getD_eq_getElem?_getD]
  by_cases h : i = p.n
  · subst h; rw [if_pos rfl,if_pos rfl,if_pos (by omega)]; rfl
  · rw [if_neg h,if_neg (by omega)]
theorem len_set (n : Nt) (p q : Pt) : (n.set p q).ns.length = n.ns.length := by simp [Nt.set]
theorem has_set {n : Nt} {p : Pt} (q r : Pt) (hp : n.has p = true) : (n.set p q).has r = n.has r := by
  rw [Bool.eq_iff_iff,has_iff,has_iff,len_set]
  constructor
  · rintro ⟨h1,h2,h3,h4⟩
    rw [nd_set n p q hp _ h1] at h4
    refine ⟨h1,h2,h3,?_⟩
    split at h4
    · rename_i e; rw [e]; simpa using h4
    · exact h4
  · rintro ⟨h1,h2,h3,h4⟩
    refine ⟨h1,h2,h3,?_⟩
    rw [nd_set n p q hp _ h1]
    split
    · rename_i e; rw [e] at h4; simpa using h4
    · exact h4
theorem nd_mem {n : Nt} {i : Int} (h0 : 0 ≤ i) (h1 : i < n.ns.length) : n.nd i ∈ n.ns := by
  unfold Nt.nd; rw [List.getD_eq_getElem?_getD,List.getElem?_eq_getElem (by omega)]; exact List.getElem_mem _
theorem Ok_set {n : Nt} {p q : Pt} (hn : n.Ok) (hp : n.has p = true) (hq : wf q.n ∧ wf q.s) : (n.set p q).Ok := by
  rw [has_iff] at hp
  have hx := hn.nd _ (nd_mem hp.1 hp.2.1)
  refine ⟨by rw [len_set]; exact hn.ns,hn.cap,fun x hx' => ?_⟩
  rcases List.mem_or_eq_of_mem_set hx' with h | rfl
  · exact hn.nd x h
  · exact ⟨hx.k,hx.lv,hx.n,hx.s,hx.al,by simpa using hx.to,hx.ap,fun r hr => by
      rcases List.mem_or_eq_of_mem_set hr with h | rfl
      · exact hx.tp r h
      · exact hq⟩
theorem lk_set {n : Nt} {p : Pt} (q r : Pt) (hp : n.has p = true) (hr : n.has r = true) : (n.set p q).lk r = if r = p then q else n.lk r := by
  have hr' := has_iff.1 hr
  have hp' := has_iff.1 hp
  unfold Nt.lk
  rw [nd_set n p q hp _ hr'.1]
  by_cases h : r = p
  · subst h; rw [if_pos rfl,if_pos rfl]
    simp only [Nd.tt,List.getD_eq_getElem?_getD,List.getElem?_set]
    rw [if_pos trivial,if_pos (by omega)]; rfl
  · rw [if_neg h]
    split
    · rename_i e
      have hs : r.s ≠ p.s := by intro h2; apply h; obtain ⟨a,b⟩ := r; obtain ⟨c,d⟩ := p; simp only at e h2; subst e h2; rfl
      simp only [Nd.tt,List.getD_eq_getElem?_getD,List.getElem?_set]
      rw [if_neg (by omega),e]
    · rfl
def linkR (n : Nt) (p q : Pt) : Nt × Int := if (n.has p && n.has q && !decide (p = q)) = true then ((n.set p q).set q p,0) else (n,130)
def moveR (n : Nt) (p q : Pt) : Nt × Int := if (n.has p && n.has q && !decide (p = q) && n.has (n.lk p)) = true then (if n.lk p = q then (n,0) else linkR n q (n.lk p)) else (n,130)
def joinR (n : Nt) (p q : Pt) : Nt × Int := if (n.has p && n.has q && !decide (p = q) && n.has (n.lk p) && n.has (n.lk q)) = true then (if n.lk p = q then (n,0) else linkR n (n.lk p) (n.lk q)) else (n,130)
def encTE (x : Nt × Int) : PT := .t [(true,encT x.1),(false,[.i .i64 x.2])]
theorem there1 (n : Nt) (p : Pt) : eP S 122 [.g (encT n),.a (.l [encP p])] = some (.a (.b (n.has p))) := by
  have := there_ok n [p] (by simp); simpa using this
theorem there2 (n : Nt) (p q : Pt) : eP S 122 [.g (encT n),.a (.l [encP p,encP q])] = some (.a (.b (n.has p && n.has q))) := by
  have := there_ok n [p,q] (by simp); simpa using this
theorem lnk_ok {n : Nt} {p q : Pt} (hn : n.Ok) (hp : wf p.n ∧ wf p.s) (hq : wf q.n ∧ wf q.s) : eP S 154 [.g (encT n),.g (encP p),.g (encP q)] = some (encTE (linkR n p q)) := by
  have a1 := there2 n p q
  refine x_fn (orcS (by decide)) (fc := F154) rfl rfl ?_
  simp only [encT,encP] at a1
  unfold linkR
  cases h1 : (n.has p && n.has q) with
  | false => simp only [F154,a1,h1,encTE,fxa,fxc,fxE,fxL,fxI,nxE,evO,evR,cellsT,ldCells,mkT,lenA,binPV,Env.init,resV,resT,frT,klT,ownT,intT,O.adds,ownA,rowsA,over,wrOk,keysT,keysA,ne_eq,if_true,if_false,ite_self,Nat.reduceLT,Nat.reduceSub,Nat.reduceBEq,Nat.reduceEqDiff,Nat.reduceAdd,Nat.reduceLeDiff,reduceCtorEq,Nat.reduceMul]
  | true =>
    rw [Bool.and_eq_true] at h1
    by_cases h2 : p = q
    · subst h2
      simp only [F154,a1,h1.1,encTE,ptEq,Bool.not_true,fxa,fxc,fxE,fxL,fxI,nxE,evO,evR,cellsT,ldCells,mkT,lenA,binPV,Env.init,resV,resT,frT,klT,ownT,intT,O.adds,ownA,rowsA,over,wrOk,keysT,keysA,ne_eq,if_true,if_false,ite_self,Nat.reduceLT,Nat.reduceSub,Nat.reduceBEq,Nat.reduceEqDiff,Nat.reduceAdd,Nat.reduceLeDiff,reduceCtorEq,Nat.reduceMul]
    · have a2 := with_ok q hn h1.1
      have a3 := with_ok p (Ok_set hn h1.1 hq) (by rw [has_set q q h1.1]; exact h1.2)
      simp only [encT,encP] at a2 a3
      simp only [F154,a1,a2,a3,h1.1,h1.2,h2,encTE,ptEq,fxa,fxc,fxE,fxL,fxI,nxE,evO,evR,cellsT,ldCells,mkT,lenA,binPV,Env.init,resV,resT,frT,klT,ownT,intT,O.adds,ownA,rowsA,over,wrOk,keysT,keysA,ne_eq,if_true,if_false,ite_self,Nat.reduceLT,Nat.reduceSub,Nat.reduceBEq,Nat.reduceEqDiff,Nat.reduceAdd,Nat.reduceLeDiff,reduceCtorEq,Nat.reduceMul]
theorem Peer_ok (n : Nt) (p : Pt) : eP S 86 [.g (encT n),.g (encP p)] = some (.t [(true,encP (if n.has p then n.lk p else zP)),(false,[.i .i64 (if n.has p then 0 else 130)])]) := by
  have a1 := there1 n p
  refine x_fn (orcS (by decide)) (fc := F86) rfl rfl ?_
  simp only [encT,encP] at a1
  cases h1 : n.has p with
  | false => simp only [F86,a1,h1,zP,Bool.false_eq_true,fxa,fxc,fxE,fxL,fxI,nxE,evO,evR,cellsT,ldCells,mkT,lenA,binPV,Env.init,resV,resT,frT,klT,ownT,intT,O.adds,ownA,rowsA,over,wrOk,keysT,keysA,ne_eq,if_true,if_false,ite_self,Nat.reduceLT,Nat.reduceSub,Nat.reduceBEq,Nat.reduceEqDiff,Nat.reduceAdd,Nat.reduceLeDiff,reduceCtorEq,Nat.reduceMul]
  | true =>
    have a2 := peer_ok h1
    simp only [encT,encP] at a2
    simp only [F86,a1,a2,h1,fxa,fxc,fxE,fxL,fxI,nxE,evO,evR,cellsT,ldCells,mkT,lenA,binPV,Env.init,resV,resT,frT,klT,ownT,intT,O.adds,ownA,rowsA,over,wrOk,keysT,keysA,ne_eq,if_true,if_false,ite_self,Nat.reduceLT,Nat.reduceSub,Nat.reduceBEq,Nat.reduceEqDiff,Nat.reduceAdd,Nat.reduceLeDiff,reduceCtorEq,Nat.reduceMul]
theorem Link_ok {n : Nt} {p q : Pt} (hn : n.Ok) (hp : wf p.n ∧ wf p.s) (hq : wf q.n ∧ wf q.s) : eP S 153 [.g (encT n),.g (encP p),.g (encP q)] = some (encTE (linkR n p q)) := by
  have a1 := lnk_ok hn hp hq
  refine x_fn (orcS (by decide)) (fc := F153) rfl rfl ?_
  obtain ⟨m,hm⟩ : ∃ m,linkR n p q = m := ⟨_,rfl⟩
  obtain ⟨⟨ms,mc⟩,me⟩ := m
  rw [hm] at a1 ⊢
  simp only [encTE,encT,encP] at a1
  simp only [F153,a1,encTE,fxa,fxc,fxE,fxL,fxI,nxE,evO,evR,cellsT,ldCells,mkT,lenA,binPV,Env.init,resV,resT,frT,klT,ownT,intT,O.adds,ownA,rowsA,over,wrOk,keysT,keysA,ne_eq,if_true,if_false,ite_self,Nat.reduceLT,Nat.reduceSub,Nat.reduceBEq,Nat.reduceEqDiff,Nat.reduceAdd,Nat.reduceLeDiff,reduceCtorEq,Nat.reduceMul]
theorem lk_wf {n : Nt} {p : Pt} (hn : n.Ok) (h : n.has p = true) : wf (n.lk p).n ∧ wf (n.lk p).s := by
  rw [has_iff] at h
  refine (hn.nd _ (nd_mem h.1 h.2.1)).tp _ ?_
  unfold Nt.lk Nd.tt
  rw [List.getD_eq_getElem?_getD,List.getElem?_eq_getElem (by omega)]; exact List.getElem_mem _
theorem Move_ok {n : Nt} {p q : Pt} (hn : n.Ok) (hp : wf p.n ∧ wf p.s) (hq : wf q.n ∧ wf q.s) : eP S 138 [.g (encT n),.g (encP p),.g (encP q)] = some (encTE (moveR n p q)) := by
  have a1 := there2 n p q
  refine x_fn (orcS (by decide)) (fc := F138) rfl rfl ?_
  simp only [encT,encP] at a1
  unfold moveR
  cases h1 : (n.has p && n.has q) with
  | false => simp only [F138,a1,h1,encTE,Bool.false_eq_true,fxa,fxc,fxE,fxL,fxI,nxE,evO,evR,cellsT,ldCells,mkT,lenA,binPV,Env.init,resV,resT,frT,klT,ownT,intT,O.adds,ownA,rowsA,over,wrOk,keysT,keysA,ne_eq,if_true,if_false,ite_self,Nat.reduceLT,Nat.reduceSub,Nat.reduceBEq,Nat.reduceEqDiff,Nat.reduceAdd,Nat.reduceLeDiff,reduceCtorEq,Nat.reduceMul]
  | true =>
    rw [Bool.and_eq_true] at h1
    by_cases h2 : p = q
    · subst h2
      simp only [F138,a1,h1.1,encTE,ptEq,Bool.false_eq_true,Bool.not_true,fxa,fxc,fxE,fxL,fxI,nxE,evO,evR,cellsT,ldCells,mkT,lenA,binPV,Env.init,resV,resT,frT,klT,ownT,intT,O.adds,ownA,rowsA,over,wrOk,keysT,keysA,ne_eq,if_true,if_false,ite_self,Nat.reduceLT,Nat.reduceSub,Nat.reduceBEq,Nat.reduceEqDiff,Nat.reduceAdd,Nat.reduceLeDiff,reduceCtorEq,Nat.reduceMul]
    · have a2 := peer_ok h1.1
      have a3 := there1 n (n.lk p)
      simp only [encT,encP] at a2 a3
      cases h3 : n.has (n.lk p) with
      | false => simp only [F138,a1,a2,a3,h1.1,h1.2,h2,h3,encTE,ptEq,Bool.false_eq_true,fxa,fxc,fxE,fxL,fxI,nxE,evO,evR,cellsT,ldCells,mkT,lenA,binPV,Env.init,resV,resT,frT,klT,ownT,intT,O.adds,ownA,rowsA,over,wrOk,keysT,keysA,ne_eq,if_true,if_false,ite_self,Nat.reduceLT,Nat.reduceSub,Nat.reduceBEq,Nat.reduceEqDiff,Nat.reduceAdd,Nat.reduceLeDiff,reduceCtorEq,Nat.reduceMul]
      | true =>
        by_cases h4 : n.lk p = q
        · subst h4
          simp only [F138,a1,a2,a3,h1.1,h1.2,h2,encTE,ptEq,Bool.false_eq_true,fxa,fxc,fxE,fxL,fxI,nxE,evO,evR,cellsT,ldCells,mkT,lenA,binPV,Env.init,resV,resT,frT,klT,ownT,intT,O.adds,ownA,rowsA,over,wrOk,keysT,keysA,ne_eq,if_true,if_false,ite_self,Nat.reduceLT,Nat.reduceSub,Nat.reduceBEq,Nat.reduceEqDiff,Nat.reduceAdd,Nat.reduceLeDiff,reduceCtorEq,Nat.reduceMul]
        · have a4 := lnk_ok hn hq (lk_wf hn h1.1)
          obtain ⟨m,hm⟩ : ∃ m,linkR n q (n.lk p) = m := ⟨_,rfl⟩
          obtain ⟨⟨ms,mc⟩,me⟩ := m
          rw [hm] at a4 ⊢
          simp only [encTE,encT,encP] at a4
          simp only [F138,a1,a2,a3,a4,h1.1,h1.2,h2,h3,h4,encTE,ptEq,Bool.false_eq_true,fxa,fxc,fxE,fxL,fxI,nxE,evO,evR,cellsT,ldCells,mkT,lenA,binPV,Env.init,resV,resT,frT,klT,ownT,intT,O.adds,ownA,rowsA,over,wrOk,keysT,keysA,ne_eq,if_true,if_false,ite_self,Nat.reduceLT,Nat.reduceSub,Nat.reduceBEq,Nat.reduceEqDiff,Nat.reduceAdd,Nat.reduceLeDiff,reduceCtorEq,Nat.reduceMul]
theorem Join_ok {n : Nt} {p q : Pt} (hn : n.Ok) (hp : wf p.n ∧ wf p.s) (hq : wf q.n ∧ wf q.s) : eP S 152 [.g (encT n),.g (encP p),.g (encP q)] = some (encTE (joinR n p q)) := by
  have a1 := there2 n p q
  refine x_fn (orcS (by decide)) (fc := F152) rfl rfl ?_
  simp only [encT,encP] at a1
  unfold joinR
  cases h1 : (n.has p && n.has q) with
  | false => simp only [F152,a1,h1,encTE,Bool.false_eq_true,fxa,fxc,fxE,fxL,fxI,nxE,evO,evR,cellsT,ldCells,mkT,lenA,binPV,Env.init,resV,resT,frT,klT,ownT,intT,O.adds,ownA,rowsA,over,wrOk,keysT,keysA,ne_eq,if_true,if_false,ite_self,Nat.reduceLT,Nat.reduceSub,Nat.reduceBEq,Nat.reduceEqDiff,Nat.reduceAdd,Nat.reduceLeDiff,reduceCtorEq,Nat.reduceMul]
  | true =>
    rw [Bool.and_eq_true] at h1
    by_cases h2 : p = q
    · subst h2
      simp only [F152,a1,h1.1,encTE,ptEq,Bool.false_eq_true,Bool.not_true,fxa,fxc,fxE,fxL,fxI,nxE,evO,evR,cellsT,ldCells,mkT,lenA,binPV,Env.init,resV,resT,frT,klT,ownT,intT,O.adds,ownA,rowsA,over,wrOk,keysT,keysA,ne_eq,if_true,if_false,ite_self,Nat.reduceLT,Nat.reduceSub,Nat.reduceBEq,Nat.reduceEqDiff,Nat.reduceAdd,Nat.reduceLeDiff,reduceCtorEq,Nat.reduceMul]
    · have a2 := peer_ok h1.1
      have a2' := peer_ok h1.2
      have a3 := there2 n (n.lk p) (n.lk q)
      simp only [encT,encP] at a2 a2' a3
      cases h3 : (n.has (n.lk p) && n.has (n.lk q)) with
      | false =>
        have h3' : (true && true && true && n.has (n.lk p) && n.has (n.lk q)) = false := by simpa using h3
        simp only [F152,a1,a2,a2',a3,h1.1,h1.2,h2,h3,h3',encTE,ptEq,Bool.false_eq_true,Bool.and_assoc,fxa,fxc,fxE,fxL,fxI,nxE,evO,evR,cellsT,ldCells,mkT,lenA,binPV,Env.init,resV,resT,frT,klT,ownT,intT,O.adds,ownA,rowsA,over,wrOk,keysT,keysA,ne_eq,if_true,if_false,ite_self,Nat.reduceLT,Nat.reduceSub,Nat.reduceBEq,Nat.reduceEqDiff,Nat.reduceAdd,Nat.reduceLeDiff,reduceCtorEq,Nat.reduceMul]
      | true =>
        rw [Bool.and_eq_true] at h3
        by_cases h4 : n.lk p = q
        · subst h4
          simp only [F152,a1,a2,a2',a3,h1.1,h1.2,h2,h3.2,encTE,ptEq,Bool.false_eq_true,fxa,fxc,fxE,fxL,fxI,nxE,evO,evR,cellsT,ldCells,mkT,lenA,binPV,Env.init,resV,resT,frT,klT,ownT,intT,O.adds,ownA,rowsA,over,wrOk,keysT,keysA,ne_eq,if_true,if_false,ite_self,Nat.reduceLT,Nat.reduceSub,Nat.reduceBEq,Nat.reduceEqDiff,Nat.reduceAdd,Nat.reduceLeDiff,reduceCtorEq,Nat.reduceMul]
        · have a4 := lnk_ok hn (lk_wf hn h1.1) (lk_wf hn h1.2)
          obtain ⟨m,hm⟩ : ∃ m,linkR n (n.lk p) (n.lk q) = m := ⟨_,rfl⟩
          obtain ⟨⟨ms,mc⟩,me⟩ := m
          rw [hm] at a4 ⊢
          simp only [encTE,encT,encP] at a4
          simp only [F152,a1,a2,a2',a3,a4,h1.1,h1.2,h2,h3.1,h3.2,h4,encTE,ptEq,Bool.false_eq_true,fxa,fxc,fxE,fxL,fxI,nxE,evO,evR,cellsT,ldCells,mkT,lenA,binPV,Env.init,resV,resT,frT,klT,ownT,intT,O.adds,ownA,rowsA,over,wrOk,keysT,keysA,ne_eq,if_true,if_false,ite_self,Nat.reduceLT,Nat.reduceSub,Nat.reduceBEq,Nat.reduceEqDiff,Nat.reduceAdd,Nat.reduceLeDiff,reduceCtorEq,Nat.reduceMul]
end Go.Proofs.Ytkpfjolcmkikeaa
end
section
set_option linter.unusedSimpArgs false
set_option linter.unusedVariables false
set_option maxHeartbeats 4000000
set_option maxRecDepth 10000
namespace Go.Proofs.Ytkpfjolcmkikeaa
open Go.Fx
theorem mapGet {α : Type} {l : List α} {i : Nat} {x : α} (f : α → List PV) (h : l[i]? = some x) : (l.map f)[i]? = some (f x) := by rw [List.getElem?_map,h]; rfl
theorem list_ext {α : Type} {l l' : List α} (hl : l.length = l'.length) (h : ∀ j,j < l.length → l[j]? = l'[j]?) : l = l' := by
  apply List.ext_getElem?
  intro j
  by_cases hj : j < l.length
  · exact h j hj
  · rw [List.getElem?_eq_none (by omega),List.getElem?_eq_none (by omega)]
def Nt.small (n : Nt) (m : Int) : Prop := (∀ x,x ∈ n.ns → x.to.length ≤ 12 ∧ x.al.length ≤ 12) ∧ (n.ns.length : Int) ≤ m
theorem Small_ok {n : Nt} (hn : n.Ok) (m : Int) : eP S 17 [.g (encT n),.a (.i .i64 m)] = some (.a (.b (bool (n.small m)))) := by
  refine x_fnB (orcS (by decide)) (fc := F17) rfl rfl ?_
  have hns := hn.ns
  simp only [F17,fxa,fxc,fxE,fxL,fxI,nxE,evO,evR,cellsT,ldCells,mkT,lenA,binPV,Env.init,resV,resT,frT,klT,ownT,intT,O.adds,ownA,rowsA,over,wrOk,keysT,keysA,ne_eq,if_true,if_false,ite_self,Nat.reduceLT,Nat.reduceSub,Nat.reduceBEq,Nat.reduceEqDiff,Nat.reduceAdd,Nat.reduceLeDiff,reduceCtorEq,Nat.reduceMul]
  refine loop_nat n.ns.length (fun i e σ => e 1 = .a (.p (.i .i64 m)) ∧ e 2 = .a (.ptr (2,0) 0 0) ∧ e 5 = .a (.p (.i .i64 (i : Nat))) ∧ σ.bs (2,0) = some (.var ((encT n).map .p)) ∧ ∀ j x,j < i → n.ns[j]? = some x → x.to.length ≤ 12 ∧ x.al.length ≤ 12) (i0 := 0) (Nat.zero_le _) ?_ ?_ ?_
  · refine ⟨?_,?_,?_,?_,fun j x hj => by omega⟩ <;> simp only [fxa,fxc,fxE,fxL,fxI,nxE,evO,evR,cellsT,ldCells,mkT,lenA,binPV,Env.init,resV,resT,frT,klT,ownT,intT,O.adds,ownA,rowsA,over,wrOk,keysT,keysA,ne_eq,if_true,if_false,ite_self,Nat.reduceLT,Nat.reduceSub,Nat.reduceBEq,Nat.reduceEqDiff,Nat.reduceAdd,Nat.reduceLeDiff,reduceCtorEq,Nat.reduceMul]
    rfl
  · rintro i e σ hi ⟨e1,e2,e5,s2,hall⟩
    obtain ⟨x,hx⟩ : ∃ x,n.ns[i]? = some x := ⟨_,List.getElem?_eq_getElem (by omega)⟩
    have hx' := mapGet encN hx
    have hlt : ((i : Nat) : Int) < (n.ns.length : Int) := by omega
    have hge : (0 : Int) ≤ ((i : Nat) : Int) := by omega
    simp only [encT,List.map_cons,List.map_nil] at s2
    by_cases h1 : (x.to.length : Int) > 12
    · simp only [F17b0,e1,e2,e5,s2,hlt,hge,hx',h1,fxa,fxc,fxE,fxL,fxI,nxE,evO,evR,cellsT,ldCells,mkT,lenA,binPV,Env.init,resV,resT,frT,klT,ownT,intT,O.adds,ownA,rowsA,over,wrOk,keysT,keysA,ne_eq,if_true,if_false,ite_self,Nat.reduceLT,Nat.reduceSub,Nat.reduceBEq,Nat.reduceEqDiff,Nat.reduceAdd,Nat.reduceLeDiff,reduceCtorEq,Nat.reduceMul]
      intro h; have := h.1 x (List.mem_of_getElem? hx); omega
    · by_cases h2 : (x.al.length : Int) > 12
      · simp only [F17b0,e1,e2,e5,s2,hlt,hge,hx',h1,h2,fxa,fxc,fxE,fxL,fxI,nxE,evO,evR,cellsT,ldCells,mkT,lenA,binPV,Env.init,resV,resT,frT,klT,ownT,intT,O.adds,ownA,rowsA,over,wrOk,keysT,keysA,ne_eq,if_true,if_false,ite_self,Nat.reduceLT,Nat.reduceSub,Nat.reduceBEq,Nat.reduceEqDiff,Nat.reduceAdd,Nat.reduceLeDiff,reduceCtorEq,Nat.reduceMul]
        intro h; have := h.1 x (List.mem_of_getElem? hx); omega
      · simp only [F17b0,e1,e2,e5,s2,hlt,hge,hx',h1,h2,fxa,fxc,fxE,fxL,fxI,nxE,evO,evR,cellsT,ldCells,mkT,lenA,binPV,Env.init,resV,resT,frT,klT,ownT,intT,O.adds,ownA,rowsA,over,wrOk,keysT,keysA,ne_eq,if_true,if_false,ite_self,Nat.reduceLT,Nat.reduceSub,Nat.reduceBEq,Nat.reduceEqDiff,Nat.reduceAdd,Nat.reduceLeDiff,reduceCtorEq,Nat.reduceMul]
        refine ⟨by rw [wrap_succ i (by omega)],fun j y hj hy => ?_⟩
        by_cases e : j = i
        · subst e; rw [hx] at hy; rw [← Option.some.inj hy]; omega
        · exact hall j y (by omega) hy
  · rintro e σ ⟨e1,e2,e5,s2,hall⟩
    have hlt : ¬ ((n.ns.length : Nat) : Int) < (n.ns.length : Int) := by omega
    simp only [encT,List.map_cons,List.map_nil] at s2
    simp only [F17b0,e1,e2,e5,s2,hlt,fxa,fxc,fxE,fxL,fxI,nxE,evO,evR,cellsT,ldCells,mkT,lenA,binPV,Env.init,resV,resT,frT,klT,ownT,intT,O.adds,ownA,rowsA,over,wrOk,keysT,keysA,ne_eq,if_true,if_false,ite_self,Nat.reduceLT,Nat.reduceSub,Nat.reduceBEq,Nat.reduceEqDiff,Nat.reduceAdd,Nat.reduceLeDiff,reduceCtorEq,Nat.reduceMul]
    rw [decide_eq_true_iff]
    refine ⟨fun h => ⟨fun x hx => ?_,h⟩,fun h => h.2⟩
    obtain ⟨j,hj⟩ := List.getElem?_of_mem hx
    exact hall j x (List.getElem?_eq_some_iff.1 hj).1 hj
end Go.Proofs.Ytkpfjolcmkikeaa
end
section
set_option linter.unusedSimpArgs false
set_option linter.unusedVariables false
set_option maxHeartbeats 4000000
set_option maxRecDepth 10000
namespace Go.Proofs.Ytkpfjolcmkikeaa
open Go.Fx
theorem x_cutR {rd : Bool} {a b : C} {e : Env} {σ : St} {Q : Ex → Env → St → Prop} (M : Env → St → Prop) (h : wp S rd a e σ (LQ M Q)) (k : ∀ e' σ',M e' σ' → wp S rd b e' σ' Q) : wp S rd (.seq a b) e σ Q := by
  rw [x_seq]
  refine Go.Fx.wp_mono h fun x e' σ' q => ?_
  cases x with
  | norm => exact k e' σ' q
  | exit id => exact q
  | ret => exact q
def Nd.ports (x : Nd) : Int :=
  if x.k = 1 ∨ x.k = 7 ∨ x.k = 10 ∨ x.k = 13 then 1 else if x.k = 5 ∨ x.k = 6 ∨ x.k = 12 then 2 else if x.k = 2 ∨ x.k = 3 ∨ x.k = 4 ∨ x.k = 11 then 3 else if x.k = 8 then x.to.length else if x.k = 9 then 2 + x.al.length else 0
theorem RPorts_ok {x : Nd} (hx : x.Ok) : eP S 57 [.g (encN x)] = some (.a (.i .i64 x.ports)) := by
  refine x_fn (orcS (by decide)) (fc := F57) rfl rfl ?_
  have hal := hx.al
  have hw : IntKind.i64.wrap (2 + (x.al.length : Int)) = 2 + x.al.length := wrap_in _ (by omega)
  unfold Nd.ports
  by_cases h1 : x.k = 1
  · simp only [F57,h1,Int.reduceEq,or_true,true_or,or_false,false_or,fxa,fxc,fxE,fxL,fxI,nxE,evO,evR,cellsT,ldCells,mkT,lenA,binPV,Env.init,resV,resT,frT,klT,ownT,intT,O.adds,ownA,rowsA,over,wrOk,keysT,keysA,ne_eq,if_true,if_false,ite_self,Nat.reduceLT,Nat.reduceSub,Nat.reduceBEq,Nat.reduceEqDiff,Nat.reduceAdd,Nat.reduceLeDiff,reduceCtorEq,Nat.reduceMul]
  by_cases h2 : x.k = 7
  · simp only [F57,h2,Int.reduceEq,or_true,true_or,or_false,false_or,fxa,fxc,fxE,fxL,fxI,nxE,evO,evR,cellsT,ldCells,mkT,lenA,binPV,Env.init,resV,resT,frT,klT,ownT,intT,O.adds,ownA,rowsA,over,wrOk,keysT,keysA,ne_eq,if_true,if_false,ite_self,Nat.reduceLT,Nat.reduceSub,Nat.reduceBEq,Nat.reduceEqDiff,Nat.reduceAdd,Nat.reduceLeDiff,reduceCtorEq,Nat.reduceMul]
  by_cases h3 : x.k = 10
  · simp only [F57,h3,Int.reduceEq,or_true,true_or,or_false,false_or,fxa,fxc,fxE,fxL,fxI,nxE,evO,evR,cellsT,ldCells,mkT,lenA,binPV,Env.init,resV,resT,frT,klT,ownT,intT,O.adds,ownA,rowsA,over,wrOk,keysT,keysA,ne_eq,if_true,if_false,ite_self,Nat.reduceLT,Nat.reduceSub,Nat.reduceBEq,Nat.reduceEqDiff,Nat.reduceAdd,Nat.reduceLeDiff,reduceCtorEq,Nat.reduceMul]
  by_cases h4 : x.k = 13
  · simp only [F57,h4,Int.reduceEq,or_true,true_or,or_false,false_or,fxa,fxc,fxE,fxL,fxI,nxE,evO,evR,cellsT,ldCells,mkT,lenA,binPV,Env.init,resV,resT,frT,klT,ownT,intT,O.adds,ownA,rowsA,over,wrOk,keysT,keysA,ne_eq,if_true,if_false,ite_self,Nat.reduceLT,Nat.reduceSub,Nat.reduceBEq,Nat.reduceEqDiff,Nat.reduceAdd,Nat.reduceLeDiff,reduceCtorEq,Nat.reduceMul]
  by_cases h5 : x.k = 5
  · simp only [F57,h5,Int.reduceEq,or_true,true_or,or_false,false_or,fxa,fxc,fxE,fxL,fxI,nxE,evO,evR,cellsT,ldCells,mkT,lenA,binPV,Env.init,resV,resT,frT,klT,ownT,intT,O.adds,ownA,rowsA,over,wrOk,keysT,keysA,ne_eq,if_true,if_false,ite_self,Nat.reduceLT,Nat.reduceSub,Nat.reduceBEq,Nat.reduceEqDiff,Nat.reduceAdd,Nat.reduceLeDiff,reduceCtorEq,Nat.reduceMul]
  by_cases h6 : x.k = 6
  · simp only [F57,h6,Int.reduceEq,or_true,true_or,or_false,false_or,fxa,fxc,fxE,fxL,fxI,nxE,evO,evR,cellsT,ldCells,mkT,lenA,binPV,Env.init,resV,resT,frT,klT,ownT,intT,O.adds,ownA,rowsA,over,wrOk,keysT,keysA,ne_eq,if_true,if_false,ite_self,Nat.reduceLT,Nat.reduceSub,Nat.reduceBEq,Nat.reduceEqDiff,Nat.reduceAdd,Nat.reduceLeDiff,reduceCtorEq,Nat.reduceMul]
  by_cases h7 : x.k = 12
  · simp only [F57,h7,Int.reduceEq,or_true,true_or,or_false,false_or,fxa,fxc,fxE,fxL,fxI,nxE,evO,evR,cellsT,ldCells,mkT,lenA,binPV,Env.init,resV,resT,frT,klT,ownT,intT,O.adds,ownA,rowsA,over,wrOk,keysT,keysA,ne_eq,if_true,if_false,ite_self,Nat.reduceLT,Nat.reduceSub,Nat.reduceBEq,Nat.reduceEqDiff,Nat.reduceAdd,Nat.reduceLeDiff,reduceCtorEq,Nat.reduceMul]
  by_cases h8 : x.k = 2
  · simp only [F57,h8,Int.reduceEq,or_true,true_or,or_false,false_or,fxa,fxc,fxE,fxL,fxI,nxE,evO,evR,cellsT,ldCells,mkT,lenA,binPV,Env.init,resV,resT,frT,klT,ownT,intT,O.adds,ownA,rowsA,over,wrOk,keysT,keysA,ne_eq,if_true,if_false,ite_self,Nat.reduceLT,Nat.reduceSub,Nat.reduceBEq,Nat.reduceEqDiff,Nat.reduceAdd,Nat.reduceLeDiff,reduceCtorEq,Nat.reduceMul]
  by_cases h9 : x.k = 3
  · simp only [F57,h9,Int.reduceEq,or_true,true_or,or_false,false_or,fxa,fxc,fxE,fxL,fxI,nxE,evO,evR,cellsT,ldCells,mkT,lenA,binPV,Env.init,resV,resT,frT,klT,ownT,intT,O.adds,ownA,rowsA,over,wrOk,keysT,keysA,ne_eq,if_true,if_false,ite_self,Nat.reduceLT,Nat.reduceSub,Nat.reduceBEq,Nat.reduceEqDiff,Nat.reduceAdd,Nat.reduceLeDiff,reduceCtorEq,Nat.reduceMul]
  by_cases h10 : x.k = 4
  · simp only [F57,h10,Int.reduceEq,or_true,true_or,or_false,false_or,fxa,fxc,fxE,fxL,fxI,nxE,evO,evR,cellsT,ldCells,mkT,lenA,binPV,Env.init,resV,resT,frT,klT,ownT,intT,O.adds,ownA,rowsA,over,wrOk,keysT,keysA,ne_eq,if_true,if_false,ite_self,Nat.reduceLT,Nat.reduceSub,Nat.reduceBEq,Nat.reduceEqDiff,Nat.reduceAdd,Nat.reduceLeDiff,reduceCtorEq,Nat.reduceMul]
  by_cases h11 : x.k = 11
  · simp only [F57,h11,Int.reduceEq,or_true,true_or,or_false,false_or,fxa,fxc,fxE,fxL,fxI,nxE,evO,evR,cellsT,ldCells,mkT,lenA,binPV,Env.init,resV,resT,frT,klT,ownT,intT,O.adds,ownA,rowsA,over,wrOk,keysT,keysA,ne_eq,if_true,if_false,ite_self,Nat.reduceLT,Nat.reduceSub,Nat.reduceBEq,Nat.reduceEqDiff,Nat.reduceAdd,Nat.reduceLeDiff,reduceCtorEq,Nat.reduceMul]
  by_cases h12 : x.k = 8
  · simp only [F57,h12,Int.reduceEq,or_true,true_or,or_false,false_or,fxa,fxc,fxE,fxL,fxI,nxE,evO,evR,cellsT,ldCells,mkT,lenA,binPV,Env.init,resV,resT,frT,klT,ownT,intT,O.adds,ownA,rowsA,over,wrOk,keysT,keysA,ne_eq,if_true,if_false,ite_self,Nat.reduceLT,Nat.reduceSub,Nat.reduceBEq,Nat.reduceEqDiff,Nat.reduceAdd,Nat.reduceLeDiff,reduceCtorEq,Nat.reduceMul]
  by_cases h13 : x.k = 9
  · simp only [F57,h13,hw,Int.reduceEq,or_true,true_or,or_false,false_or,fxa,fxc,fxE,fxL,fxI,nxE,evO,evR,cellsT,ldCells,mkT,lenA,binPV,Env.init,resV,resT,frT,klT,ownT,intT,O.adds,ownA,rowsA,over,wrOk,keysT,keysA,ne_eq,if_true,if_false,ite_self,Nat.reduceLT,Nat.reduceSub,Nat.reduceBEq,Nat.reduceEqDiff,Nat.reduceAdd,Nat.reduceLeDiff,reduceCtorEq,Nat.reduceMul]
  · simp only [F57,h1,h2,h3,h4,h5,h6,h7,h8,h9,h10,h11,h12,h13,or_false,false_or,fxa,fxc,fxE,fxL,fxI,nxE,evO,evR,cellsT,ldCells,mkT,lenA,binPV,Env.init,resV,resT,frT,klT,ownT,intT,O.adds,ownA,rowsA,over,wrOk,keysT,keysA,ne_eq,if_true,if_false,ite_self,Nat.reduceLT,Nat.reduceSub,Nat.reduceBEq,Nat.reduceEqDiff,Nat.reduceAdd,Nat.reduceLeDiff,reduceCtorEq,Nat.reduceMul]
def altOk (l : List Ar) : Prop := ∀ (i : Nat) (a : Ar),l[i]? = some a → a.s ≠ [] ∧ 0 ≤ a.n ∧ a.n ≤ 8 ∧ ∀ (j : Nat) (b : Ar),j < i → l[j]? = some b → b.s ≠ a.s
structure Nd.may (x : Nd) : Prop where
  k0 : 0 ≤ x.k
  k1 : x.k ≤ 13
  lv0 : 0 ≤ x.lv
  lv1 : x.lv ≤ 60
  lv2 : x.k < 2 → x.lv ≤ 0
  nm : x.s ≠ [] ↔ (x.k = 8 ∨ x.k = 11 ∨ x.k = 12)
  nn : x.n ≠ 0 → x.k = 10 ∨ x.k = 12
  to8 : x.k = 8 → 1 ≤ (x.to.length : Int) ∧ (x.to.length : Int) ≤ 9
  al9 : x.k = 9 → 1 ≤ (x.al.length : Int)
  aln : x.k ≠ 9 → (x.al.length : Int) ≤ 0
  al8 : (x.al.length : Int) ≤ 8
  alt : altOk x.al
def NdM (x : Nd) (e : Env) (σ : St) : Prop := e 1 = .a (.ptr (1,0) 0 0) ∧ σ.bs (1,0) = some (.var [.p (.i .i64 x.k),.p (.i .i64 x.lv),.p (.i .i64 x.n),.p (.s x.s),.p (.l (x.al.map encA)),.p (.l (x.to.map encP))])
theorem RNode_ok {x : Nd} (hx : x.Ok) : eP S 56 [.g (encN x)] = some (.a (.b (bool x.may))) := by
  refine x_fnB (orcS (by decide)) (fc := F56) rfl rfl ?_
  have hal := hx.al
  unfold F56
  simp only [encN,List.map_cons,List.map_nil,ofPT_g]
  refine x_cutR (NdM x) ?_ fun e σ hM => ?_
  · simp only [fxa,fxc,fxE,fxL,fxI,nxE,evO,evR,cellsT,ldCells,mkT,lenA,binPV,Env.init,resV,resT,frT,klT,ownT,intT,O.adds,ownA,rowsA,over,wrOk,keysT,keysA,ne_eq,if_true,if_false,ite_self,Nat.reduceLT,Nat.reduceSub,Nat.reduceBEq,Nat.reduceEqDiff,Nat.reduceAdd,Nat.reduceLeDiff,reduceCtorEq,Nat.reduceMul]
    exact ⟨by simp only [fxa,fxc,fxE,fxL,fxI,nxE,evO,evR,cellsT,ldCells,mkT,lenA,binPV,Env.init,resV,resT,frT,klT,ownT,intT,O.adds,ownA,rowsA,over,wrOk,keysT,keysA,ne_eq,if_true,if_false,ite_self,Nat.reduceLT,Nat.reduceSub,Nat.reduceBEq,Nat.reduceEqDiff,Nat.reduceAdd,Nat.reduceLeDiff,reduceCtorEq,Nat.reduceMul],by simp only [fxa,fxc,fxE,fxL,fxI,nxE,evO,evR,cellsT,ldCells,mkT,lenA,binPV,Env.init,resV,resT,frT,klT,ownT,intT,O.adds,ownA,rowsA,over,wrOk,keysT,keysA,ne_eq,if_true,if_false,ite_self,Nat.reduceLT,Nat.reduceSub,Nat.reduceBEq,Nat.reduceEqDiff,Nat.reduceAdd,Nat.reduceLeDiff,reduceCtorEq,Nat.reduceMul]⟩
  obtain ⟨e1,s1⟩ := hM
  refine x_cutR (fun e σ => NdM x e σ ∧ 0 ≤ x.k ∧ x.k ≤ 13 ∧ 0 ≤ x.lv ∧ x.lv ≤ 60 ∧ (x.k < 2 → x.lv ≤ 0)) ?_ fun e' σ' hM => ?_
  · simp only [e1,s1,fxa,fxc,fxE,fxL,fxI,nxE,evO,evR,cellsT,ldCells,mkT,lenA,binPV,Env.init,resV,resT,frT,klT,ownT,intT,O.adds,ownA,rowsA,over,wrOk,keysT,keysA,ne_eq,if_true,if_false,ite_self,Nat.reduceLT,Nat.reduceSub,Nat.reduceBEq,Nat.reduceEqDiff,Nat.reduceAdd,Nat.reduceLeDiff,reduceCtorEq,Nat.reduceMul]
    iterate 7
      all_goals try (first
        | (refine wpX_bsplit (fun h => ?_) (fun h => ?_) <;> simp only [h,e1,s1,fxa,fxc,fxE,fxL,fxI,nxE,evO,evR,cellsT,ldCells,mkT,lenA,binPV,Env.init,resV,resT,frT,klT,ownT,intT,O.adds,ownA,rowsA,over,wrOk,keysT,keysA,ne_eq,if_true,if_false,ite_self,Nat.reduceLT,Nat.reduceSub,Nat.reduceBEq,Nat.reduceEqDiff,Nat.reduceAdd,Nat.reduceLeDiff,reduceCtorEq,Nat.reduceMul])
        | (refine wpC_split (fun h => ?_) (fun h => ?_) <;> simp only [h,e1,s1,fxa,fxc,fxE,fxL,fxI,nxE,evO,evR,cellsT,ldCells,mkT,lenA,binPV,Env.init,resV,resT,frT,klT,ownT,intT,O.adds,ownA,rowsA,over,wrOk,keysT,keysA,ne_eq,if_true,if_false,ite_self,Nat.reduceLT,Nat.reduceSub,Nat.reduceBEq,Nat.reduceEqDiff,Nat.reduceAdd,Nat.reduceLeDiff,reduceCtorEq,Nat.reduceMul]))
    all_goals simp only [Bool.not_eq_false',Bool.not_eq_true',Bool.not_false,Bool.not_true,decide_eq_true_eq,decide_eq_false_iff_not,Int.natCast_inj] at *
    all_goals first
      | (intro hP; have p1 := hP.k0; have p2 := hP.k1; have p3 := hP.lv0; have p4 := hP.lv1; have p5 := hP.lv2; omega)
      | (refine ⟨⟨by simp only [e1,fxa,fxc,fxE,fxL,fxI,nxE,evO,evR,cellsT,ldCells,mkT,lenA,binPV,Env.init,resV,resT,frT,klT,ownT,intT,O.adds,ownA,rowsA,over,wrOk,keysT,keysA,ne_eq,if_true,if_false,ite_self,Nat.reduceLT,Nat.reduceSub,Nat.reduceBEq,Nat.reduceEqDiff,Nat.reduceAdd,Nat.reduceLeDiff,reduceCtorEq,Nat.reduceMul],by simp only [s1,fxa,fxc,fxE,fxL,fxI,nxE,evO,evR,cellsT,ldCells,mkT,lenA,binPV,Env.init,resV,resT,frT,klT,ownT,intT,O.adds,ownA,rowsA,over,wrOk,keysT,keysA,ne_eq,if_true,if_false,ite_self,Nat.reduceLT,Nat.reduceSub,Nat.reduceBEq,Nat.reduceEqDiff,Nat.reduceAdd,Nat.reduceLeDiff,reduceCtorEq,Nat.reduceMul]⟩,?_⟩; omega)
  clear e1 s1
  obtain ⟨⟨e1,s1⟩,hA⟩ := hM
  refine x_cutR (fun e σ => NdM x e σ ∧ (x.s ≠ [] ↔ (x.k = 8 ∨ x.k = 11 ∨ x.k = 12)) ∧ (x.n ≠ 0 → x.k = 10 ∨ x.k = 12)) ?_ fun e' σ' hM => ?_
  · simp only [e1,s1,fxa,fxc,fxE,fxL,fxI,nxE,evO,evR,cellsT,ldCells,mkT,lenA,binPV,Env.init,resV,resT,frT,klT,ownT,intT,O.adds,ownA,rowsA,over,wrOk,keysT,keysA,ne_eq,if_true,if_false,ite_self,Nat.reduceLT,Nat.reduceSub,Nat.reduceBEq,Nat.reduceEqDiff,Nat.reduceAdd,Nat.reduceLeDiff,reduceCtorEq,Nat.reduceMul]
    cases hs : decide (x.s = []) with
    | true =>
      have hs' : x.s = [] := by simpa using hs
      simp only [hs,e1,s1,fxa,fxc,fxE,fxL,fxI,nxE,evO,evR,cellsT,ldCells,mkT,lenA,binPV,Env.init,resV,resT,frT,klT,ownT,intT,O.adds,ownA,rowsA,over,wrOk,keysT,keysA,ne_eq,if_true,if_false,ite_self,Nat.reduceLT,Nat.reduceSub,Nat.reduceBEq,Nat.reduceEqDiff,Nat.reduceAdd,Nat.reduceLeDiff,reduceCtorEq,Nat.reduceMul]
      iterate 8
        all_goals try (first
          | (refine wpX_bsplit (fun h => ?_) (fun h => ?_) <;> simp only [h,e1,s1,fxa,fxc,fxE,fxL,fxI,nxE,evO,evR,cellsT,ldCells,mkT,lenA,binPV,Env.init,resV,resT,frT,klT,ownT,intT,O.adds,ownA,rowsA,over,wrOk,keysT,keysA,ne_eq,if_true,if_false,ite_self,Nat.reduceLT,Nat.reduceSub,Nat.reduceBEq,Nat.reduceEqDiff,Nat.reduceAdd,Nat.reduceLeDiff,reduceCtorEq,Nat.reduceMul])
          | (refine wpC_split (fun h => ?_) (fun h => ?_) <;> simp only [h,e1,s1,fxa,fxc,fxE,fxL,fxI,nxE,evO,evR,cellsT,ldCells,mkT,lenA,binPV,Env.init,resV,resT,frT,klT,ownT,intT,O.adds,ownA,rowsA,over,wrOk,keysT,keysA,ne_eq,if_true,if_false,ite_self,Nat.reduceLT,Nat.reduceSub,Nat.reduceBEq,Nat.reduceEqDiff,Nat.reduceAdd,Nat.reduceLeDiff,reduceCtorEq,Nat.reduceMul]))
      all_goals simp only [Bool.not_eq_false',Bool.not_eq_true',Bool.not_false,Bool.not_true,decide_eq_true_eq,decide_eq_false_iff_not,Int.natCast_inj] at *
      all_goals try simp only [Bool.false_eq,Bool.true_eq,Bool.not_eq_false',Bool.not_eq_true',Bool.not_false,Bool.not_true,decide_eq_true_eq,decide_eq_false_iff_not,Int.natCast_inj] at *
      all_goals first
        | (intro hP; have p1 := hP.nm; have p2 := hP.nn; simp only [hs',ne_eq,not_true_eq_false,false_iff] at p1; omega)
        | (refine ⟨⟨by simp only [e1,fxa,fxc,fxE,fxL,fxI,nxE,evO,evR,cellsT,ldCells,mkT,lenA,binPV,Env.init,resV,resT,frT,klT,ownT,intT,O.adds,ownA,rowsA,over,wrOk,keysT,keysA,ne_eq,if_true,if_false,ite_self,Nat.reduceLT,Nat.reduceSub,Nat.reduceBEq,Nat.reduceEqDiff,Nat.reduceAdd,Nat.reduceLeDiff,reduceCtorEq,Nat.reduceMul],by simp only [s1,fxa,fxc,fxE,fxL,fxI,nxE,evO,evR,cellsT,ldCells,mkT,lenA,binPV,Env.init,resV,resT,frT,klT,ownT,intT,O.adds,ownA,rowsA,over,wrOk,keysT,keysA,ne_eq,if_true,if_false,ite_self,Nat.reduceLT,Nat.reduceSub,Nat.reduceBEq,Nat.reduceEqDiff,Nat.reduceAdd,Nat.reduceLeDiff,reduceCtorEq,Nat.reduceMul]⟩,?_⟩; simp only [hs',ne_eq,not_true_eq_false,false_iff]; omega)
    | false =>
      have hs' : ¬ x.s = [] := by simpa using hs
      simp only [hs,e1,s1,fxa,fxc,fxE,fxL,fxI,nxE,evO,evR,cellsT,ldCells,mkT,lenA,binPV,Env.init,resV,resT,frT,klT,ownT,intT,O.adds,ownA,rowsA,over,wrOk,keysT,keysA,ne_eq,if_true,if_false,ite_self,Nat.reduceLT,Nat.reduceSub,Nat.reduceBEq,Nat.reduceEqDiff,Nat.reduceAdd,Nat.reduceLeDiff,reduceCtorEq,Nat.reduceMul]
      iterate 8
        all_goals try (first
          | (refine wpX_bsplit (fun h => ?_) (fun h => ?_) <;> simp only [h,e1,s1,fxa,fxc,fxE,fxL,fxI,nxE,evO,evR,cellsT,ldCells,mkT,lenA,binPV,Env.init,resV,resT,frT,klT,ownT,intT,O.adds,ownA,rowsA,over,wrOk,keysT,keysA,ne_eq,if_true,if_false,ite_self,Nat.reduceLT,Nat.reduceSub,Nat.reduceBEq,Nat.reduceEqDiff,Nat.reduceAdd,Nat.reduceLeDiff,reduceCtorEq,Nat.reduceMul])
          | (refine wpC_split (fun h => ?_) (fun h => ?_) <;> simp only [h,e1,s1,fxa,fxc,fxE,fxL,fxI,nxE,evO,evR,cellsT,ldCells,mkT,lenA,binPV,Env.init,resV,resT,frT,klT,ownT,intT,O.adds,ownA,rowsA,over,wrOk,keysT,keysA,ne_eq,if_true,if_false,ite_self,Nat.reduceLT,Nat.reduceSub,Nat.reduceBEq,Nat.reduceEqDiff,Nat.reduceAdd,Nat.reduceLeDiff,reduceCtorEq,Nat.reduceMul]))
      all_goals simp only [Bool.not_eq_false',Bool.not_eq_true',Bool.not_false,Bool.not_true,decide_eq_true_eq,decide_eq_false_iff_not,Int.natCast_inj] at *
      all_goals try simp only [Bool.false_eq,Bool.true_eq,Bool.not_eq_false',Bool.not_eq_true',Bool.not_false,Bool.not_true,decide_eq_true_eq,decide_eq_false_iff_not,Int.natCast_inj] at *
      all_goals first
        | (intro hP; have p1 := hP.nm; have p2 := hP.nn; simp only [hs',ne_eq,not_false_eq_true,true_iff] at p1; omega)
        | (refine ⟨⟨by simp only [e1,fxa,fxc,fxE,fxL,fxI,nxE,evO,evR,cellsT,ldCells,mkT,lenA,binPV,Env.init,resV,resT,frT,klT,ownT,intT,O.adds,ownA,rowsA,over,wrOk,keysT,keysA,ne_eq,if_true,if_false,ite_self,Nat.reduceLT,Nat.reduceSub,Nat.reduceBEq,Nat.reduceEqDiff,Nat.reduceAdd,Nat.reduceLeDiff,reduceCtorEq,Nat.reduceMul],by simp only [s1,fxa,fxc,fxE,fxL,fxI,nxE,evO,evR,cellsT,ldCells,mkT,lenA,binPV,Env.init,resV,resT,frT,klT,ownT,intT,O.adds,ownA,rowsA,over,wrOk,keysT,keysA,ne_eq,if_true,if_false,ite_self,Nat.reduceLT,Nat.reduceSub,Nat.reduceBEq,Nat.reduceEqDiff,Nat.reduceAdd,Nat.reduceLeDiff,reduceCtorEq,Nat.reduceMul]⟩,?_⟩; simp only [hs',ne_eq,not_false_eq_true,true_iff]; omega)
  clear e1 s1
  obtain ⟨⟨e1,s1⟩,hB⟩ := hM
  refine x_cutR (fun e σ => NdM x e σ ∧ (x.k = 8 → 1 ≤ (x.to.length : Int) ∧ (x.to.length : Int) ≤ 9) ∧ (x.k = 9 → 1 ≤ (x.al.length : Int)) ∧ (x.k ≠ 9 → (x.al.length : Int) ≤ 0) ∧ (x.al.length : Int) ≤ 8) ?_ fun e' σ' hM => ?_
  · simp only [e1,s1,fxa,fxc,fxE,fxL,fxI,nxE,evO,evR,cellsT,ldCells,mkT,lenA,binPV,Env.init,resV,resT,frT,klT,ownT,intT,O.adds,ownA,rowsA,over,wrOk,keysT,keysA,ne_eq,if_true,if_false,ite_self,Nat.reduceLT,Nat.reduceSub,Nat.reduceBEq,Nat.reduceEqDiff,Nat.reduceAdd,Nat.reduceLeDiff,reduceCtorEq,Nat.reduceMul]
    iterate 9
      all_goals try (first
        | (refine wpX_bsplit (fun h => ?_) (fun h => ?_) <;> simp only [h,e1,s1,fxa,fxc,fxE,fxL,fxI,nxE,evO,evR,cellsT,ldCells,mkT,lenA,binPV,Env.init,resV,resT,frT,klT,ownT,intT,O.adds,ownA,rowsA,over,wrOk,keysT,keysA,ne_eq,if_true,if_false,ite_self,Nat.reduceLT,Nat.reduceSub,Nat.reduceBEq,Nat.reduceEqDiff,Nat.reduceAdd,Nat.reduceLeDiff,reduceCtorEq,Nat.reduceMul])
        | (refine wpC_split (fun h => ?_) (fun h => ?_) <;> simp only [h,e1,s1,fxa,fxc,fxE,fxL,fxI,nxE,evO,evR,cellsT,ldCells,mkT,lenA,binPV,Env.init,resV,resT,frT,klT,ownT,intT,O.adds,ownA,rowsA,over,wrOk,keysT,keysA,ne_eq,if_true,if_false,ite_self,Nat.reduceLT,Nat.reduceSub,Nat.reduceBEq,Nat.reduceEqDiff,Nat.reduceAdd,Nat.reduceLeDiff,reduceCtorEq,Nat.reduceMul]))
    all_goals simp only [Bool.not_eq_false',Bool.not_eq_true',Bool.not_false,Bool.not_true,decide_eq_true_eq,decide_eq_false_iff_not,Int.natCast_inj] at *
    all_goals first
      | (intro hP; have p1 := hP.to8; have p2 := hP.al9; have p3 := hP.aln; have p4 := hP.al8; omega)
      | (refine ⟨⟨by simp only [e1,fxa,fxc,fxE,fxL,fxI,nxE,evO,evR,cellsT,ldCells,mkT,lenA,binPV,Env.init,resV,resT,frT,klT,ownT,intT,O.adds,ownA,rowsA,over,wrOk,keysT,keysA,ne_eq,if_true,if_false,ite_self,Nat.reduceLT,Nat.reduceSub,Nat.reduceBEq,Nat.reduceEqDiff,Nat.reduceAdd,Nat.reduceLeDiff,reduceCtorEq,Nat.reduceMul],by simp only [s1,fxa,fxc,fxE,fxL,fxI,nxE,evO,evR,cellsT,ldCells,mkT,lenA,binPV,Env.init,resV,resT,frT,klT,ownT,intT,O.adds,ownA,rowsA,over,wrOk,keysT,keysA,ne_eq,if_true,if_false,ite_self,Nat.reduceLT,Nat.reduceSub,Nat.reduceBEq,Nat.reduceEqDiff,Nat.reduceAdd,Nat.reduceLeDiff,reduceCtorEq,Nat.reduceMul]⟩,?_⟩; omega)
  clear e1 s1
  obtain ⟨⟨e1,s1⟩,hC⟩ := hM
  refine x_cutR (fun e σ => altOk x.al) ?_ fun e' σ' hM => ?_
  · simp only [e1,s1,fxa,fxc,fxE,fxL,fxI,nxE,evO,evR,cellsT,ldCells,mkT,lenA,binPV,Env.init,resV,resT,frT,klT,ownT,intT,O.adds,ownA,rowsA,over,wrOk,keysT,keysA,ne_eq,if_true,if_false,ite_self,Nat.reduceLT,Nat.reduceSub,Nat.reduceBEq,Nat.reduceEqDiff,Nat.reduceAdd,Nat.reduceLeDiff,reduceCtorEq,Nat.reduceMul]
    refine loop_nat x.al.length (fun i e σ => NdM x e σ ∧ e 3 = .a (.p (.i .i64 (i : Nat))) ∧ ∀ m a,m < i → x.al[m]? = some a → a.s ≠ [] ∧ 0 ≤ a.n ∧ a.n ≤ 8 ∧ ∀ j b,j < m → x.al[j]? = some b → b.s ≠ a.s) (i0 := 0) (Nat.zero_le _) ?_ ?_ ?_
    · exact ⟨⟨by simp only [e1,fxa,fxc,fxE,fxL,fxI,nxE,evO,evR,cellsT,ldCells,mkT,lenA,binPV,Env.init,resV,resT,frT,klT,ownT,intT,O.adds,ownA,rowsA,over,wrOk,keysT,keysA,ne_eq,if_true,if_false,ite_self,Nat.reduceLT,Nat.reduceSub,Nat.reduceBEq,Nat.reduceEqDiff,Nat.reduceAdd,Nat.reduceLeDiff,reduceCtorEq,Nat.reduceMul],by simp only [s1,fxa,fxc,fxE,fxL,fxI,nxE,evO,evR,cellsT,ldCells,mkT,lenA,binPV,Env.init,resV,resT,frT,klT,ownT,intT,O.adds,ownA,rowsA,over,wrOk,keysT,keysA,ne_eq,if_true,if_false,ite_self,Nat.reduceLT,Nat.reduceSub,Nat.reduceBEq,Nat.reduceEqDiff,Nat.reduceAdd,Nat.reduceLeDiff,reduceCtorEq,Nat.reduceMul]⟩,by simp only [fxa,fxc,fxE,fxL,fxI,nxE,evO,evR,cellsT,ldCells,mkT,lenA,binPV,Env.init,resV,resT,frT,klT,ownT,intT,O.adds,ownA,rowsA,over,wrOk,keysT,keysA,ne_eq,if_true,if_false,ite_self,Nat.reduceLT,Nat.reduceSub,Nat.reduceBEq,Nat.reduceEqDiff,Nat.reduceAdd,Nat.reduceLeDiff,reduceCtorEq,Nat.reduceMul]; rfl,fun j a hj => by omega⟩
    · rintro i e σ hi ⟨⟨e1,s1⟩,e3,hall⟩
      obtain ⟨a,ha⟩ : ∃ a,x.al[i]? = some a := ⟨_,List.getElem?_eq_getElem hi⟩
      have ha' := mapGet encA ha
      have hlt : ((i : Nat) : Int) < (x.al.length : Int) := by omega
      have hge : (0 : Int) ≤ ((i : Nat) : Int) := by omega
      by_cases h1 : a.s = []
      · simp only [F56b0,e1,e3,s1,hlt,hge,ha',h1,fxa,fxc,fxE,fxL,fxI,nxE,evO,evR,cellsT,ldCells,mkT,lenA,binPV,Env.init,resV,resT,frT,klT,ownT,intT,O.adds,ownA,rowsA,over,wrOk,keysT,keysA,ne_eq,if_true,if_false,ite_self,Nat.reduceLT,Nat.reduceSub,Nat.reduceBEq,Nat.reduceEqDiff,Nat.reduceAdd,Nat.reduceLeDiff,reduceCtorEq,Nat.reduceMul]
        intro hP; exact (hP.alt i a ha).1 h1
      by_cases h2 : a.n < 0
      · simp only [F56b0,e1,e3,s1,hlt,hge,ha',h1,h2,fxa,fxc,fxE,fxL,fxI,nxE,evO,evR,cellsT,ldCells,mkT,lenA,binPV,Env.init,resV,resT,frT,klT,ownT,intT,O.adds,ownA,rowsA,over,wrOk,keysT,keysA,ne_eq,if_true,if_false,ite_self,Nat.reduceLT,Nat.reduceSub,Nat.reduceBEq,Nat.reduceEqDiff,Nat.reduceAdd,Nat.reduceLeDiff,reduceCtorEq,Nat.reduceMul]
        intro hP; have := hP.alt i a ha; omega
      by_cases h3 : a.n > 8
      · simp only [F56b0,e1,e3,s1,hlt,hge,ha',h1,h2,h3,fxa,fxc,fxE,fxL,fxI,nxE,evO,evR,cellsT,ldCells,mkT,lenA,binPV,Env.init,resV,resT,frT,klT,ownT,intT,O.adds,ownA,rowsA,over,wrOk,keysT,keysA,ne_eq,if_true,if_false,ite_self,Nat.reduceLT,Nat.reduceSub,Nat.reduceBEq,Nat.reduceEqDiff,Nat.reduceAdd,Nat.reduceLeDiff,reduceCtorEq,Nat.reduceMul]
        intro hP; have := hP.alt i a ha; omega
      simp only [F56b0,e1,e3,s1,hlt,hge,ha',h1,h2,h3,fxa,fxc,fxE,fxL,fxI,nxE,evO,evR,cellsT,ldCells,mkT,lenA,binPV,Env.init,resV,resT,frT,klT,ownT,intT,O.adds,ownA,rowsA,over,wrOk,keysT,keysA,ne_eq,if_true,if_false,ite_self,Nat.reduceLT,Nat.reduceSub,Nat.reduceBEq,Nat.reduceEqDiff,Nat.reduceAdd,Nat.reduceLeDiff,reduceCtorEq,Nat.reduceMul]
      refine loop_nat i (fun j e σ => NdM x e σ ∧ e 3 = .a (.p (.i .i64 (i : Nat))) ∧ e 4 = .a (.p (.i .i64 (j : Nat))) ∧ ∀ m b,m < j → x.al[m]? = some b → b.s ≠ a.s) (i0 := 0) (Nat.zero_le _) ?_ ?_ ?_
      · exact ⟨⟨by simp only [e1,fxa,fxc,fxE,fxL,fxI,nxE,evO,evR,cellsT,ldCells,mkT,lenA,binPV,Env.init,resV,resT,frT,klT,ownT,intT,O.adds,ownA,rowsA,over,wrOk,keysT,keysA,ne_eq,if_true,if_false,ite_self,Nat.reduceLT,Nat.reduceSub,Nat.reduceBEq,Nat.reduceEqDiff,Nat.reduceAdd,Nat.reduceLeDiff,reduceCtorEq,Nat.reduceMul],by simp only [s1,fxa,fxc,fxE,fxL,fxI,nxE,evO,evR,cellsT,ldCells,mkT,lenA,binPV,Env.init,resV,resT,frT,klT,ownT,intT,O.adds,ownA,rowsA,over,wrOk,keysT,keysA,ne_eq,if_true,if_false,ite_self,Nat.reduceLT,Nat.reduceSub,Nat.reduceBEq,Nat.reduceEqDiff,Nat.reduceAdd,Nat.reduceLeDiff,reduceCtorEq,Nat.reduceMul]⟩,by simp only [e3,fxa,fxc,fxE,fxL,fxI,nxE,evO,evR,cellsT,ldCells,mkT,lenA,binPV,Env.init,resV,resT,frT,klT,ownT,intT,O.adds,ownA,rowsA,over,wrOk,keysT,keysA,ne_eq,if_true,if_false,ite_self,Nat.reduceLT,Nat.reduceSub,Nat.reduceBEq,Nat.reduceEqDiff,Nat.reduceAdd,Nat.reduceLeDiff,reduceCtorEq,Nat.reduceMul],by simp only [fxa,fxc,fxE,fxL,fxI,nxE,evO,evR,cellsT,ldCells,mkT,lenA,binPV,Env.init,resV,resT,frT,klT,ownT,intT,O.adds,ownA,rowsA,over,wrOk,keysT,keysA,ne_eq,if_true,if_false,ite_self,Nat.reduceLT,Nat.reduceSub,Nat.reduceBEq,Nat.reduceEqDiff,Nat.reduceAdd,Nat.reduceLeDiff,reduceCtorEq,Nat.reduceMul]; rfl,fun j a hj => by omega⟩
      · rintro j e σ hj ⟨⟨e1,s1⟩,e3,e4,hj2⟩
        obtain ⟨b,hb⟩ : ∃ b,x.al[j]? = some b := ⟨_,List.getElem?_eq_getElem (by omega)⟩
        have hb' := mapGet encA hb
        have hlt2 : ((j : Nat) : Int) < ((i : Nat) : Int) := by omega
        have hlt3 : ((j : Nat) : Int) < (x.al.length : Int) := by omega
        have hge2 : (0 : Int) ≤ ((j : Nat) : Int) := by omega
        by_cases h4 : b.s = a.s
        · simp only [F56b1,e1,e3,e4,s1,hlt,hge,hlt2,hlt3,hge2,ha',hb',h4,fxa,fxc,fxE,fxL,fxI,nxE,evO,evR,cellsT,ldCells,mkT,lenA,binPV,Env.init,resV,resT,frT,klT,ownT,intT,O.adds,ownA,rowsA,over,wrOk,keysT,keysA,ne_eq,if_true,if_false,ite_self,Nat.reduceLT,Nat.reduceSub,Nat.reduceBEq,Nat.reduceEqDiff,Nat.reduceAdd,Nat.reduceLeDiff,reduceCtorEq,Nat.reduceMul]
          intro hP; exact (hP.alt i a ha).2.2.2 j b hj hb h4
        · simp only [F56b1,e1,e3,e4,s1,hlt,hge,hlt2,hlt3,hge2,ha',hb',h4,fxa,fxc,fxE,fxL,fxI,nxE,evO,evR,cellsT,ldCells,mkT,lenA,binPV,Env.init,resV,resT,frT,klT,ownT,intT,O.adds,ownA,rowsA,over,wrOk,keysT,keysA,ne_eq,if_true,if_false,ite_self,Nat.reduceLT,Nat.reduceSub,Nat.reduceBEq,Nat.reduceEqDiff,Nat.reduceAdd,Nat.reduceLeDiff,reduceCtorEq,Nat.reduceMul]
          refine ⟨⟨by simp only [e1,fxa,fxc,fxE,fxL,fxI,nxE,evO,evR,cellsT,ldCells,mkT,lenA,binPV,Env.init,resV,resT,frT,klT,ownT,intT,O.adds,ownA,rowsA,over,wrOk,keysT,keysA,ne_eq,if_true,if_false,ite_self,Nat.reduceLT,Nat.reduceSub,Nat.reduceBEq,Nat.reduceEqDiff,Nat.reduceAdd,Nat.reduceLeDiff,reduceCtorEq,Nat.reduceMul],by simp only [s1,fxa,fxc,fxE,fxL,fxI,nxE,evO,evR,cellsT,ldCells,mkT,lenA,binPV,Env.init,resV,resT,frT,klT,ownT,intT,O.adds,ownA,rowsA,over,wrOk,keysT,keysA,ne_eq,if_true,if_false,ite_self,Nat.reduceLT,Nat.reduceSub,Nat.reduceBEq,Nat.reduceEqDiff,Nat.reduceAdd,Nat.reduceLeDiff,reduceCtorEq,Nat.reduceMul]⟩,by rw [wrap_succ j (by omega)],fun m c hm hc => ?_⟩
          by_cases e : m = j
          · subst e; rw [hb] at hc; rw [← Option.some.inj hc]; exact h4
          · exact hj2 m c (by omega) hc
      · rintro e σ ⟨⟨e1,s1⟩,e3,e4,hj2⟩
        have hlt2 : ¬ ((i : Nat) : Int) < ((i : Nat) : Int) := by omega
        simp only [F56b1,e1,e3,e4,s1,hlt2,fxa,fxc,fxE,fxL,fxI,nxE,evO,evR,cellsT,ldCells,mkT,lenA,binPV,Env.init,resV,resT,frT,klT,ownT,intT,O.adds,ownA,rowsA,over,wrOk,keysT,keysA,ne_eq,if_true,if_false,ite_self,Nat.reduceLT,Nat.reduceSub,Nat.reduceBEq,Nat.reduceEqDiff,Nat.reduceAdd,Nat.reduceLeDiff,reduceCtorEq,Nat.reduceMul]
        refine ⟨⟨by simp only [e1,fxa,fxc,fxE,fxL,fxI,nxE,evO,evR,cellsT,ldCells,mkT,lenA,binPV,Env.init,resV,resT,frT,klT,ownT,intT,O.adds,ownA,rowsA,over,wrOk,keysT,keysA,ne_eq,if_true,if_false,ite_self,Nat.reduceLT,Nat.reduceSub,Nat.reduceBEq,Nat.reduceEqDiff,Nat.reduceAdd,Nat.reduceLeDiff,reduceCtorEq,Nat.reduceMul],by simp only [s1,fxa,fxc,fxE,fxL,fxI,nxE,evO,evR,cellsT,ldCells,mkT,lenA,binPV,Env.init,resV,resT,frT,klT,ownT,intT,O.adds,ownA,rowsA,over,wrOk,keysT,keysA,ne_eq,if_true,if_false,ite_self,Nat.reduceLT,Nat.reduceSub,Nat.reduceBEq,Nat.reduceEqDiff,Nat.reduceAdd,Nat.reduceLeDiff,reduceCtorEq,Nat.reduceMul]⟩,by rw [wrap_succ i (by omega)],fun m c hm hc => ?_⟩
        by_cases e : m = i
        · subst e; rw [ha] at hc; rw [← Option.some.inj hc]; exact ⟨h1,by omega,by omega,hj2⟩
        · exact hall m c (by omega) hc
    · rintro e σ ⟨⟨e1,s1⟩,e3,hall⟩
      have hlt : ¬ ((x.al.length : Nat) : Int) < (x.al.length : Int) := by omega
      simp only [F56b0,e1,e3,s1,hlt,fxa,fxc,fxE,fxL,fxI,nxE,evO,evR,cellsT,ldCells,mkT,lenA,binPV,Env.init,resV,resT,frT,klT,ownT,intT,O.adds,ownA,rowsA,over,wrOk,keysT,keysA,ne_eq,if_true,if_false,ite_self,Nat.reduceLT,Nat.reduceSub,Nat.reduceBEq,Nat.reduceEqDiff,Nat.reduceAdd,Nat.reduceLeDiff,reduceCtorEq,Nat.reduceMul]
      exact fun i a hi => hall i a (List.getElem?_eq_some_iff.1 hi).1 hi
  simp only [fxa,fxc,fxE,fxL,fxI,nxE,evO,evR,cellsT,ldCells,mkT,lenA,binPV,Env.init,resV,resT,frT,klT,ownT,intT,O.adds,ownA,rowsA,over,wrOk,keysT,keysA,ne_eq,if_true,if_false,ite_self,Nat.reduceLT,Nat.reduceSub,Nat.reduceBEq,Nat.reduceEqDiff,Nat.reduceAdd,Nat.reduceLeDiff,reduceCtorEq,Nat.reduceMul]
  exact ⟨hA.1,hA.2.1,hA.2.2.1,hA.2.2.2.1,hA.2.2.2.2,hB.1,hB.2,hC.1,hC.2.1,hC.2.2.1,hC.2.2.2,hM⟩
end Go.Proofs.Ytkpfjolcmkikeaa
end
section
set_option linter.unusedSimpArgs false
set_option linter.unusedVariables false
set_option maxHeartbeats 4000000
set_option maxRecDepth 10000
namespace Go.Proofs.Ytkpfjolcmkikeaa
open Go.Fx
structure Nt.Good (n : Nt) : Prop where
  cap1 : 1 ≤ n.cap
  cap2 : n.cap ≤ 4000
  ln1 : 1 ≤ (n.ns.length : Int)
  ln2 : (n.ns.length : Int) ≤ n.cap
  last : (n.nd (n.ns.length - 1)).k ≠ 0
  nds : ∀ (i : Nat) (x : Nd),n.ns[i]? = some x → x.may ∧ (x.to.length : Int) = x.ports ∧ ((i : Int) = 0 ↔ x.k = 1) ∧
    ∀ (j : Nat) (q : Pt),x.to[j]? = some q → q ≠ ⟨i,j⟩ ∧ n.has q = true ∧ n.lk q = ⟨i,j⟩
def RE (P : Prop) (r : PT) : Prop := r = .a (.i .i64 (if bool P = true then 0 else 120))
theorem RE_0 (P : Prop) : RE P (.a (.i .i64 0)) = P := by
  unfold RE
  by_cases h : P
  · rw [bool_t h]; simp [h]
  · rw [bool_f h]; simp [h]
theorem RE_120 (P : Prop) : RE P (.a (.i .i64 120)) = ¬ P := by
  unfold RE
  by_cases h : P
  · rw [bool_t h]; simp [h]
  · rw [bool_f h]; simp [h]
theorem RCheck_ok {n : Nt} (hn : n.Ok) : eP S 25 [.g (encT n)] = some (.a (.i .i64 (if bool n.Good = true then 0 else 120))) := by
  obtain ⟨r,h1,h2⟩ := x_fnE (S := S) (g := 25) (orcS (by decide)) (fc := F25) rfl (ps := [.g (encT n)]) rfl (K := RE n.Good) (by
    have hns := hn.ns
    by_cases h1 : n.cap < 1
    · simp only [F25,h1,RE_120,fxa,fxc,fxE,fxL,fxI,nxE,evO,evR,cellsT,ldCells,mkT,lenA,binPV,Env.init,resV,resT,frT,klT,ownT,intT,O.adds,ownA,rowsA,over,wrOk,keysT,keysA,ne_eq,if_true,if_false,ite_self,Nat.reduceLT,Nat.reduceSub,Nat.reduceBEq,Nat.reduceEqDiff,Nat.reduceAdd,Nat.reduceLeDiff,reduceCtorEq,Nat.reduceMul]; intro hG; have := hG.cap1; omega
    by_cases h2 : n.cap > 4000
    · simp only [F25,h1,h2,RE_120,fxa,fxc,fxE,fxL,fxI,nxE,evO,evR,cellsT,ldCells,mkT,lenA,binPV,Env.init,resV,resT,frT,klT,ownT,intT,O.adds,ownA,rowsA,over,wrOk,keysT,keysA,ne_eq,if_true,if_false,ite_self,Nat.reduceLT,Nat.reduceSub,Nat.reduceBEq,Nat.reduceEqDiff,Nat.reduceAdd,Nat.reduceLeDiff,reduceCtorEq,Nat.reduceMul]; intro hG; have := hG.cap2; omega
    by_cases h3 : (n.ns.length : Int) < 1
    · simp only [F25,h1,h2,h3,RE_120,fxa,fxc,fxE,fxL,fxI,nxE,evO,evR,cellsT,ldCells,mkT,lenA,binPV,Env.init,resV,resT,frT,klT,ownT,intT,O.adds,ownA,rowsA,over,wrOk,keysT,keysA,ne_eq,if_true,if_false,ite_self,Nat.reduceLT,Nat.reduceSub,Nat.reduceBEq,Nat.reduceEqDiff,Nat.reduceAdd,Nat.reduceLeDiff,reduceCtorEq,Nat.reduceMul]; intro hG; have := hG.ln1; omega
    by_cases h4 : (n.ns.length : Int) > n.cap
    · simp only [F25,h1,h2,h3,h4,RE_120,fxa,fxc,fxE,fxL,fxI,nxE,evO,evR,cellsT,ldCells,mkT,lenA,binPV,Env.init,resV,resT,frT,klT,ownT,intT,O.adds,ownA,rowsA,over,wrOk,keysT,keysA,ne_eq,if_true,if_false,ite_self,Nat.reduceLT,Nat.reduceSub,Nat.reduceBEq,Nat.reduceEqDiff,Nat.reduceAdd,Nat.reduceLeDiff,reduceCtorEq,Nat.reduceMul]; intro hG; have := hG.ln2; omega
    have hw : IntKind.i64.wrap ((n.ns.length : Int) - 1) = n.ns.length - 1 := wrap_in _ (by omega)
    have g := getN (l := n.ns) (i := (n.ns.length : Int) - 1) (by omega) (by omega)
    have hge0 : 0 ≤ (n.ns.length : Int) - 1 := by omega
    have hlt0 : (n.ns.length : Int) - 1 < n.ns.length := by omega
    by_cases h5 : (n.nd (n.ns.length - 1)).k = 0
    · unfold Nt.nd at h5
      simp only [F25,h1,h2,h3,h4,h5,hw,g,hge0,hlt0,RE_120,fxa,fxc,fxE,fxL,fxI,nxE,evO,evR,cellsT,ldCells,mkT,lenA,binPV,Env.init,resV,resT,frT,klT,ownT,intT,O.adds,ownA,rowsA,over,wrOk,keysT,keysA,ne_eq,if_true,if_false,ite_self,Nat.reduceLT,Nat.reduceSub,Nat.reduceBEq,Nat.reduceEqDiff,Nat.reduceAdd,Nat.reduceLeDiff,reduceCtorEq,Nat.reduceMul]; intro hG; exact hG.last h5
    have h5' := h5
    unfold Nt.nd at h5'
    simp only [F25,h1,h2,h3,h4,h5',hw,g,hge0,hlt0,fxa,fxc,fxE,fxL,fxI,nxE,evO,evR,cellsT,ldCells,mkT,lenA,binPV,Env.init,resV,resT,frT,klT,ownT,intT,O.adds,ownA,rowsA,over,wrOk,keysT,keysA,ne_eq,if_true,if_false,ite_self,Nat.reduceLT,Nat.reduceSub,Nat.reduceBEq,Nat.reduceEqDiff,Nat.reduceAdd,Nat.reduceLeDiff,reduceCtorEq,Nat.reduceMul]
    refine loop_nat n.ns.length (fun i e σ => e 1 = .a (.ptr (1,0) 0 0) ∧ e 3 = .a (.p (.i .i64 (i : Nat))) ∧ σ.bs (1,0) = some (.var ((encT n).map .p)) ∧
      ∀ (m : Nat) (x : Nd),m < i → n.ns[m]? = some x → x.may ∧ (x.to.length : Int) = x.ports ∧ ((m : Int) = 0 ↔ x.k = 1) ∧ ∀ (j : Nat) (q : Pt),x.to[j]? = some q → q ≠ ⟨m,j⟩ ∧ n.has q = true ∧ n.lk q = ⟨m,j⟩) (i0 := 0) (Nat.zero_le _) ?_ ?_ ?_
    · refine ⟨?_,?_,?_,fun m x hm => by omega⟩ <;> simp only [fxa,fxc,fxE,fxL,fxI,nxE,evO,evR,cellsT,ldCells,mkT,lenA,binPV,Env.init,resV,resT,frT,klT,ownT,intT,O.adds,ownA,rowsA,over,wrOk,keysT,keysA,ne_eq,if_true,if_false,ite_self,Nat.reduceLT,Nat.reduceSub,Nat.reduceBEq,Nat.reduceEqDiff,Nat.reduceAdd,Nat.reduceLeDiff,reduceCtorEq,Nat.reduceMul]
      rfl
    · rintro i e σ hi ⟨e1,e3,s1,hall⟩
      obtain ⟨x,hx⟩ : ∃ x,n.ns[i]? = some x := ⟨_,List.getElem?_eq_getElem hi⟩
      have hx' := mapGet encN hx
      have hlt : ((i : Nat) : Int) < (n.ns.length : Int) := by omega
      have hge : (0 : Int) ≤ ((i : Nat) : Int) := by omega
      have hxo := hn.nd x (List.mem_of_getElem? hx)
      have hto := hxo.to
      have c1 := RNode_ok hxo
      have c2 := RPorts_ok hxo
      simp only [encN] at c1 c2
      simp only [encT,List.map_cons,List.map_nil] at s1
      by_cases k1 : x.may
      case neg =>
        rw [bool_f k1] at c1
        simp only [F25b0,e1,e3,s1,hlt,hge,hx',c1,RE_120,fxa,fxc,fxE,fxL,fxI,nxE,evO,evR,cellsT,ldCells,mkT,lenA,binPV,Env.init,resV,resT,frT,klT,ownT,intT,O.adds,ownA,rowsA,over,wrOk,keysT,keysA,ne_eq,if_true,if_false,ite_self,Nat.reduceLT,Nat.reduceSub,Nat.reduceBEq,Nat.reduceEqDiff,Nat.reduceAdd,Nat.reduceLeDiff,reduceCtorEq,Nat.reduceMul]
        intro hG; exact k1 (hG.nds i x hx).1
      rw [bool_t k1] at c1
      by_cases k2 : (x.to.length : Int) = x.ports
      case neg =>
        simp only [F25b0,e1,e3,s1,hlt,hge,hx',c1,c2,k2,RE_120,fxa,fxc,fxE,fxL,fxI,nxE,evO,evR,cellsT,ldCells,mkT,lenA,binPV,Env.init,resV,resT,frT,klT,ownT,intT,O.adds,ownA,rowsA,over,wrOk,keysT,keysA,ne_eq,if_true,if_false,ite_self,Nat.reduceLT,Nat.reduceSub,Nat.reduceBEq,Nat.reduceEqDiff,Nat.reduceAdd,Nat.reduceLeDiff,reduceCtorEq,Nat.reduceMul]
        intro hG; exact k2 (hG.nds i x hx).2.1
      by_cases k3 : (((i : Nat) : Int) = 0 ↔ x.k = 1)
      case neg =>
        have hd : (decide (((i : Nat) : Int) = 0) = decide (x.k = 1)) = False := by simp only [decide_eq_decide,eq_iff_iff,iff_false]; exact k3
        simp only [F25b0,e1,e3,s1,hlt,hge,hx',c1,c2,k2,hd,RE_120,fxa,fxc,fxE,fxL,fxI,nxE,evO,evR,cellsT,ldCells,mkT,lenA,binPV,Env.init,resV,resT,frT,klT,ownT,intT,O.adds,ownA,rowsA,over,wrOk,keysT,keysA,ne_eq,if_true,if_false,ite_self,Nat.reduceLT,Nat.reduceSub,Nat.reduceBEq,Nat.reduceEqDiff,Nat.reduceAdd,Nat.reduceLeDiff,reduceCtorEq,Nat.reduceMul]
        intro hG; exact k3 (hG.nds i x hx).2.2.1
      have hd : (decide (((i : Nat) : Int) = 0) = decide (x.k = 1)) = True := by simp only [decide_eq_decide,eq_iff_iff,iff_true]; exact k3
      simp only [F25b0,e1,e3,s1,hlt,hge,hx',c1,c2,k2,hd,fxa,fxc,fxE,fxL,fxI,nxE,evO,evR,cellsT,ldCells,mkT,lenA,binPV,Env.init,resV,resT,frT,klT,ownT,intT,O.adds,ownA,rowsA,over,wrOk,keysT,keysA,ne_eq,if_true,if_false,ite_self,Nat.reduceLT,Nat.reduceSub,Nat.reduceBEq,Nat.reduceEqDiff,Nat.reduceAdd,Nat.reduceLeDiff,reduceCtorEq,Nat.reduceMul]
      refine loop_nat x.to.length (fun j e σ' => e 1 = .a (.ptr (1,0) 0 0) ∧ e 3 = .a (.p (.i .i64 (i : Nat))) ∧ e 4 = .a (.ptr (4,σ.clk) 0 0) ∧ e 5 = .a (.p (.i .i64 (j : Nat))) ∧ σ'.bs (1,0) = some (.var ((encT n).map .p)) ∧ σ'.bs (4,σ.clk) = some (.var ((encN x).map .p)) ∧
        ∀ (m : Nat) (q : Pt),m < j → x.to[m]? = some q → q ≠ ⟨i,m⟩ ∧ n.has q = true ∧ n.lk q = ⟨i,m⟩) (i0 := 0) (Nat.zero_le _) ?_ ?_ ?_
      · refine ⟨?_,?_,?_,?_,?_,?_,fun m x hm => by omega⟩ <;> simp only [e1,e3,s1,fxa,fxc,fxE,fxL,fxI,nxE,evO,evR,cellsT,ldCells,mkT,lenA,binPV,Env.init,resV,resT,frT,klT,ownT,intT,O.adds,ownA,rowsA,over,wrOk,keysT,keysA,ne_eq,if_true,if_false,ite_self,Nat.reduceLT,Nat.reduceSub,Nat.reduceBEq,Nat.reduceEqDiff,Nat.reduceAdd,Nat.reduceLeDiff,reduceCtorEq,Nat.reduceMul]
        rfl
      · rintro j e σ' hj ⟨e1,e3,e4,e5,s1,s4,hall2⟩
        obtain ⟨q,hq⟩ : ∃ q,x.to[j]? = some q := ⟨_,List.getElem?_eq_getElem hj⟩
        have hq' := mapGet encP hq
        have hlt2 : ((j : Nat) : Int) < (x.to.length : Int) := by omega
        have hge2 : (0 : Int) ≤ ((j : Nat) : Int) := by omega
        have c3 := Has_ok n q
        simp only [encT,encN,encP,List.map_cons,List.map_nil] at s1 s4 c3
        by_cases m1 : q = ⟨i,j⟩
        · have hd : (decide (q.n = (i : Int)) && decide (q.s = (j : Int))) = true := by rw [m1]; simp
          simp only [F25b1,e1,e3,e4,e5,s1,s4,hlt2,hge2,hq',hd,RE_120,fxa,fxc,fxE,fxL,fxI,nxE,evO,evR,cellsT,ldCells,mkT,lenA,binPV,Env.init,resV,resT,frT,klT,ownT,intT,O.adds,ownA,rowsA,over,wrOk,keysT,keysA,ne_eq,if_true,if_false,ite_self,Nat.reduceLT,Nat.reduceSub,Nat.reduceBEq,Nat.reduceEqDiff,Nat.reduceAdd,Nat.reduceLeDiff,reduceCtorEq,Nat.reduceMul]
          intro hG; exact ((hG.nds i x hx).2.2.2 j q hq).1 m1
        have hd : (decide (q.n = (i : Int)) && decide (q.s = (j : Int))) = false := by
          have := ptEq q ⟨i,j⟩; rw [this]; simpa using m1
        by_cases m2 : n.has q = true
        case neg =>
          have m2' : n.has q = false := by simpa using m2
          rw [m2'] at c3
          simp only [F25b1,e1,e3,e4,e5,s1,s4,hlt2,hge2,hq',hd,c3,RE_120,fxa,fxc,fxE,fxL,fxI,nxE,evO,evR,cellsT,ldCells,mkT,lenA,binPV,Env.init,resV,resT,frT,klT,ownT,intT,O.adds,ownA,rowsA,over,wrOk,keysT,keysA,ne_eq,if_true,if_false,ite_self,Nat.reduceLT,Nat.reduceSub,Nat.reduceBEq,Nat.reduceEqDiff,Nat.reduceAdd,Nat.reduceLeDiff,reduceCtorEq,Nat.reduceMul]
          intro hG; exact m2 ((hG.nds i x hx).2.2.2 j q hq).2.1
        rw [m2] at c3
        have m2' := has_iff.1 m2
        have g1 := getN (l := n.ns) m2'.1 m2'.2.1
        have g2 := getP (l := (n.nd q.n).to) m2'.2.2.1 m2'.2.2.2
        have g3 := m2'.2.2.2
        obtain ⟨y,hy⟩ : ∃ y,n.lk q = y := ⟨_,rfl⟩
        have hy2 : (n.ns.getD q.n.toNat zN).to.getD q.s.toNat zP = y := hy
        unfold Nt.nd at g2 g3
        rw [hy2] at g2
        by_cases m3 : n.lk q = ⟨i,j⟩
        case neg =>
          have hd2 : (decide (y.n = (i : Int)) && decide (y.s = (j : Int))) = false := by
            have := ptEq y ⟨i,j⟩; rw [this,← hy]; simpa using m3
          simp only [F25b1,e1,e3,e4,e5,s1,s4,hlt2,hge2,hq',hd,hd2,c3,g1,g2,g3,m2'.1,m2'.2.1,m2'.2.2.1,RE_120,fxa,fxc,fxE,fxL,fxI,nxE,evO,evR,cellsT,ldCells,mkT,lenA,binPV,Env.init,resV,resT,frT,klT,ownT,intT,O.adds,ownA,rowsA,over,wrOk,keysT,keysA,ne_eq,if_true,if_false,ite_self,Nat.reduceLT,Nat.reduceSub,Nat.reduceBEq,Nat.reduceEqDiff,Nat.reduceAdd,Nat.reduceLeDiff,reduceCtorEq,Nat.reduceMul]
          intro hG; exact m3 ((hG.nds i x hx).2.2.2 j q hq).2.2
        have hd2 : (decide (y.n = (i : Int)) && decide (y.s = (j : Int))) = true := by
          rw [← hy,m3]; simp
        simp only [F25b1,e1,e3,e4,e5,s1,s4,hlt2,hge2,hq',hd,hd2,c3,g1,g2,g3,m2'.1,m2'.2.1,m2'.2.2.1,fxa,fxc,fxE,fxL,fxI,nxE,evO,evR,cellsT,ldCells,mkT,lenA,binPV,Env.init,resV,resT,frT,klT,ownT,intT,O.adds,ownA,rowsA,over,wrOk,keysT,keysA,ne_eq,if_true,if_false,ite_self,Nat.reduceLT,Nat.reduceSub,Nat.reduceBEq,Nat.reduceEqDiff,Nat.reduceAdd,Nat.reduceLeDiff,reduceCtorEq,Nat.reduceMul]
        refine ⟨by rw [wrap_succ j (by omega)],fun m c hm hc => ?_⟩
        by_cases e : m = j
        · subst e; rw [hq] at hc; rw [← Option.some.inj hc]; exact ⟨m1,m2,m3⟩
        · exact hall2 m c (by omega) hc
      · rintro e σ' ⟨e1,e3,e4,e5,s1,s4,hall2⟩
        have hlt2 : ¬ ((x.to.length : Nat) : Int) < (x.to.length : Int) := by omega
        simp only [encT,encN,encP,List.map_cons,List.map_nil] at s1 s4
        simp only [F25b1,e1,e3,e4,e5,s1,s4,hlt2,fxa,fxc,fxE,fxL,fxI,nxE,evO,evR,cellsT,ldCells,mkT,lenA,binPV,Env.init,resV,resT,frT,klT,ownT,intT,O.adds,ownA,rowsA,over,wrOk,keysT,keysA,ne_eq,if_true,if_false,ite_self,Nat.reduceLT,Nat.reduceSub,Nat.reduceBEq,Nat.reduceEqDiff,Nat.reduceAdd,Nat.reduceLeDiff,reduceCtorEq,Nat.reduceMul]
        refine ⟨by rw [wrap_succ i (by omega)],fun m y hm hy => ?_⟩
        by_cases e : m = i
        · subst e; rw [hx] at hy; rw [← Option.some.inj hy]
          exact ⟨k1,k2,k3,fun j q hq => hall2 j q (List.getElem?_eq_some_iff.1 hq).1 hq⟩
        · exact hall m y (by omega) hy
    · rintro e σ ⟨e1,e3,s1,hall⟩
      have hlt : ¬ ((n.ns.length : Nat) : Int) < (n.ns.length : Int) := by omega
      simp only [encT,List.map_cons,List.map_nil] at s1
      simp only [F25b0,e1,e3,s1,hlt,RE_0,fxa,fxc,fxE,fxL,fxI,nxE,evO,evR,cellsT,ldCells,mkT,lenA,binPV,Env.init,resV,resT,frT,klT,ownT,intT,O.adds,ownA,rowsA,over,wrOk,keysT,keysA,ne_eq,if_true,if_false,ite_self,Nat.reduceLT,Nat.reduceSub,Nat.reduceBEq,Nat.reduceEqDiff,Nat.reduceAdd,Nat.reduceLeDiff,reduceCtorEq,Nat.reduceMul]
      exact ⟨by omega,by omega,by omega,by omega,h5,fun i x hi => hall i x (List.getElem?_eq_some_iff.1 hi).1 hi⟩)
  rw [h1,h2]
end Go.Proofs.Ytkpfjolcmkikeaa
end
section
set_option linter.unusedSimpArgs false
set_option linter.unusedVariables false
set_option maxHeartbeats 4000000
set_option maxRecDepth 10000
namespace Go.Proofs.Ytkpfjolcmkikeaa
open Go.Fx
theorem in_ok (a b c : Int) : eP S 74 [.a (.i .i64 a),.a (.i .i64 b),.a (.i .i64 c)] = some (.a (.b (decide (a ≥ b) && decide (a ≤ c)))) := by
  refine x_fn (orcS (by decide)) (fc := F74) rfl rfl ?_
  by_cases h : a ≥ b
  · simp only [F74,h,fxa,fxc,fxE,fxL,fxI,nxE,evO,evR,cellsT,ldCells,mkT,lenA,binPV,Env.init,resV,resT,frT,klT,ownT,intT,O.adds,ownA,rowsA,over,wrOk,keysT,keysA,ne_eq,if_true,if_false,ite_self,Nat.reduceLT,Nat.reduceSub,Nat.reduceBEq,Nat.reduceEqDiff,Nat.reduceAdd,Nat.reduceLeDiff,reduceCtorEq,Nat.reduceMul]
  · simp only [F74,h,fxa,fxc,fxE,fxL,fxI,nxE,evO,evR,cellsT,ldCells,mkT,lenA,binPV,Env.init,resV,resT,frT,klT,ownT,intT,O.adds,ownA,rowsA,over,wrOk,keysT,keysA,ne_eq,if_true,if_false,ite_self,Nat.reduceLT,Nat.reduceSub,Nat.reduceBEq,Nat.reduceEqDiff,Nat.reduceAdd,Nat.reduceLeDiff,reduceCtorEq,Nat.reduceMul]
theorem in_is {a b c : Int} (h : b ≤ a ∧ a ≤ c) : eP S 74 [.a (.i .i64 a),.a (.i .i64 b),.a (.i .i64 c)] = some (.a (.b true)) := by
  rw [in_ok,decide_eq_true (h.1 : a ≥ b),decide_eq_true h.2]; rfl
theorem in_no {a b c : Int} (h : ¬ (b ≤ a ∧ a ≤ c)) : eP S 74 [.a (.i .i64 a),.a (.i .i64 b),.a (.i .i64 c)] = some (.a (.b false)) := by
  rw [in_ok]
  have : (decide (a ≥ b) && decide (a ≤ c)) = false := by
    rw [Bool.and_eq_false_iff,decide_eq_false_iff_not,decide_eq_false_iff_not]; omega
  rw [this]
theorem sfree_ok (x : Nd) : eP S 79 [.g (encN x)] = some (.a (.b (decide (x.k = 0)))) := by
  refine x_fn (orcS (by decide)) (fc := F79) rfl rfl ?_
  simp only [F79,fxa,fxc,fxE,fxL,fxI,nxE,evO,evR,cellsT,ldCells,mkT,lenA,binPV,Env.init,resV,resT,frT,klT,ownT,intT,O.adds,ownA,rowsA,over,wrOk,keysT,keysA,ne_eq,if_true,if_false,ite_self,Nat.reduceLT,Nat.reduceSub,Nat.reduceBEq,Nat.reduceEqDiff,Nat.reduceAdd,Nat.reduceLeDiff,reduceCtorEq,Nat.reduceMul]
def usedL (l : List Nd) : Int := (l.countP fun x => decide (x.k ≠ 0) : Nat)
def Nt.used (n : Nt) : Int := usedL n.ns
theorem usedL_take {l : List Nd} {i : Nat} {x : Nd} (h : l[i]? = some x) : usedL (l.take (i + 1)) = usedL (l.take i) + (if x.k = 0 then 0 else 1) := by
  unfold usedL
  rw [List.take_add_one,h]
  simp only [Option.toList_some,List.countP_append,List.countP_cons,List.countP_nil]
  by_cases hk : x.k = 0
  · simp [hk]
  · simp [hk]
theorem usedL_le (l : List Nd) : 0 ≤ usedL l ∧ usedL l ≤ l.length := by
  unfold usedL
  have := List.countP_le_length (p := fun x : Nd => decide (x.k ≠ 0)) (l := l)
  omega
theorem sUsed_ok {n : Nt} (hn : n.Ok) : eP S 71 [.g (encT n)] = some (.a (.i .i64 n.used)) := by
  refine x_fn (orcS (by decide)) (fc := F71) rfl rfl ?_
  have hns := hn.ns
  simp only [F71,fxa,fxc,fxE,fxL,fxI,nxE,evO,evR,cellsT,ldCells,mkT,lenA,binPV,Env.init,resV,resT,frT,klT,ownT,intT,O.adds,ownA,rowsA,over,wrOk,keysT,keysA,ne_eq,if_true,if_false,ite_self,Nat.reduceLT,Nat.reduceSub,Nat.reduceBEq,Nat.reduceEqDiff,Nat.reduceAdd,Nat.reduceLeDiff,reduceCtorEq,Nat.reduceMul]
  refine loop_nat n.ns.length (fun i e σ => e 7 = .a (.p (.l (n.ns.map encN))) ∧ e 8 = .a (.p (.i .i64 n.ns.length)) ∧ e 9 = .a (.p (.i .i64 (i : Nat))) ∧ e 3 = .a (.p (.i .i64 (usedL (n.ns.take i))))) (i0 := 0) (Nat.zero_le _) ?_ ?_ ?_
  · refine ⟨?_,?_,?_,?_⟩ <;> simp only [fxa,fxc,fxE,fxL,fxI,nxE,evO,evR,cellsT,ldCells,mkT,lenA,binPV,Env.init,resV,resT,frT,klT,ownT,intT,O.adds,ownA,rowsA,over,wrOk,keysT,keysA,ne_eq,if_true,if_false,ite_self,Nat.reduceLT,Nat.reduceSub,Nat.reduceBEq,Nat.reduceEqDiff,Nat.reduceAdd,Nat.reduceLeDiff,reduceCtorEq,Nat.reduceMul]
    all_goals rfl
  · rintro i e σ hi ⟨e7,e8,e9,e3⟩
    obtain ⟨x,hx⟩ : ∃ x,n.ns[i]? = some x := ⟨_,List.getElem?_eq_getElem hi⟩
    have hx' := mapGet encN hx
    have hlt : ((i : Nat) : Int) < (n.ns.length : Int) := by omega
    have hge : (0 : Int) ≤ ((i : Nat) : Int) := by omega
    have c1 := sfree_ok x
    have hu := usedL_take hx
    have hb := usedL_le (n.ns.take i)
    simp only [List.length_take] at hb
    simp only [encN] at c1
    by_cases hk : x.k = 0
    · rw [if_pos hk,Int.add_zero] at hu
      rw [hk] at c1
      simp only [F71b0,e7,e8,e9,e3,hlt,hge,hx',c1,hk,hu,fxa,fxc,fxE,fxL,fxI,nxE,evO,evR,cellsT,ldCells,mkT,lenA,binPV,Env.init,resV,resT,frT,klT,ownT,intT,O.adds,ownA,rowsA,over,wrOk,keysT,keysA,ne_eq,if_true,if_false,ite_self,Nat.reduceLT,Nat.reduceSub,Nat.reduceBEq,Nat.reduceEqDiff,Nat.reduceAdd,Nat.reduceLeDiff,reduceCtorEq,Nat.reduceMul]
      rw [wrap_succ i (by omega)]
    · rw [if_neg hk] at hu
      have hw : IntKind.i64.wrap (usedL (n.ns.take i) + 1) = usedL (n.ns.take i) + 1 := wrap_in _ (by omega)
      simp only [F71b0,e7,e8,e9,e3,hlt,hge,hx',c1,hk,hu,hw,fxa,fxc,fxE,fxL,fxI,nxE,evO,evR,cellsT,ldCells,mkT,lenA,binPV,Env.init,resV,resT,frT,klT,ownT,intT,O.adds,ownA,rowsA,over,wrOk,keysT,keysA,ne_eq,if_true,if_false,ite_self,Nat.reduceLT,Nat.reduceSub,Nat.reduceBEq,Nat.reduceEqDiff,Nat.reduceAdd,Nat.reduceLeDiff,reduceCtorEq,Nat.reduceMul]
      rw [wrap_succ i (by omega)]
  · rintro e σ ⟨e7,e8,e9,e3⟩
    have hlt : ¬ ((n.ns.length : Nat) : Int) < (n.ns.length : Int) := by omega
    rw [List.take_length] at e3
    simp only [F71b0,e7,e8,e9,e3,hlt,Nt.used,fxa,fxc,fxE,fxL,fxI,nxE,evO,evR,cellsT,ldCells,mkT,lenA,binPV,Env.init,resV,resT,frT,klT,ownT,intT,O.adds,ownA,rowsA,over,wrOk,keysT,keysA,ne_eq,if_true,if_false,ite_self,Nat.reduceLT,Nat.reduceSub,Nat.reduceBEq,Nat.reduceEqDiff,Nat.reduceAdd,Nat.reduceLeDiff,reduceCtorEq,Nat.reduceMul]
theorem RUsed_ok {n : Nt} (hn : n.Ok) : eP S 26 [.g (encT n)] = some (.a (.i .i64 n.used)) := by
  refine x_fn (orcS (by decide)) (fc := F26) rfl rfl ?_
  have hns := hn.ns
  simp only [F26,fxa,fxc,fxE,fxL,fxI,nxE,evO,evR,cellsT,ldCells,mkT,lenA,binPV,Env.init,resV,resT,frT,klT,ownT,intT,O.adds,ownA,rowsA,over,wrOk,keysT,keysA,ne_eq,if_true,if_false,ite_self,Nat.reduceLT,Nat.reduceSub,Nat.reduceBEq,Nat.reduceEqDiff,Nat.reduceAdd,Nat.reduceLeDiff,reduceCtorEq,Nat.reduceMul]
  refine loop_nat n.ns.length (fun i e σ => e 1 = .a (.ptr (1,0) 0 0) ∧ e 4 = .a (.p (.i .i64 (i : Nat))) ∧ e 3 = .a (.p (.i .i64 (usedL (n.ns.take i)))) ∧ σ.bs (1,0) = some (.var ((encT n).map .p))) (i0 := 0) (Nat.zero_le _) ?_ ?_ ?_
  · refine ⟨?_,?_,?_,?_⟩ <;> simp only [fxa,fxc,fxE,fxL,fxI,nxE,evO,evR,cellsT,ldCells,mkT,lenA,binPV,Env.init,resV,resT,frT,klT,ownT,intT,O.adds,ownA,rowsA,over,wrOk,keysT,keysA,ne_eq,if_true,if_false,ite_self,Nat.reduceLT,Nat.reduceSub,Nat.reduceBEq,Nat.reduceEqDiff,Nat.reduceAdd,Nat.reduceLeDiff,reduceCtorEq,Nat.reduceMul]
    all_goals rfl
  · rintro i e σ hi ⟨e1,e4,e3,s1⟩
    obtain ⟨x,hx⟩ : ∃ x,n.ns[i]? = some x := ⟨_,List.getElem?_eq_getElem hi⟩
    have hx' := mapGet encN hx
    have hlt : ((i : Nat) : Int) < (n.ns.length : Int) := by omega
    have hge : (0 : Int) ≤ ((i : Nat) : Int) := by omega
    have hu := usedL_take hx
    have hb := usedL_le (n.ns.take i)
    simp only [List.length_take] at hb
    simp only [encT,List.map_cons,List.map_nil] at s1
    by_cases hk : x.k = 0
    · rw [if_pos hk,Int.add_zero] at hu
      simp only [F26b0,e1,e4,e3,s1,hlt,hge,hx',hk,hu,fxa,fxc,fxE,fxL,fxI,nxE,evO,evR,cellsT,ldCells,mkT,lenA,binPV,Env.init,resV,resT,frT,klT,ownT,intT,O.adds,ownA,rowsA,over,wrOk,keysT,keysA,ne_eq,if_true,if_false,ite_self,Nat.reduceLT,Nat.reduceSub,Nat.reduceBEq,Nat.reduceEqDiff,Nat.reduceAdd,Nat.reduceLeDiff,reduceCtorEq,Nat.reduceMul]
      rw [wrap_succ i (by omega)]
    · rw [if_neg hk] at hu
      have hw : IntKind.i64.wrap (usedL (n.ns.take i) + 1) = usedL (n.ns.take i) + 1 := wrap_in _ (by omega)
      simp only [F26b0,e1,e4,e3,s1,hlt,hge,hx',hk,hu,hw,fxa,fxc,fxE,fxL,fxI,nxE,evO,evR,cellsT,ldCells,mkT,lenA,binPV,Env.init,resV,resT,frT,klT,ownT,intT,O.adds,ownA,rowsA,over,wrOk,keysT,keysA,ne_eq,if_true,if_false,ite_self,Nat.reduceLT,Nat.reduceSub,Nat.reduceBEq,Nat.reduceEqDiff,Nat.reduceAdd,Nat.reduceLeDiff,reduceCtorEq,Nat.reduceMul]
      rw [wrap_succ i (by omega)]
  · rintro e σ ⟨e1,e4,e3,s1⟩
    have hlt : ¬ ((n.ns.length : Nat) : Int) < (n.ns.length : Int) := by omega
    rw [List.take_length] at e3
    simp only [encT,List.map_cons,List.map_nil] at s1
    simp only [F26b0,e1,e4,e3,s1,hlt,Nt.used,fxa,fxc,fxE,fxL,fxI,nxE,evO,evR,cellsT,ldCells,mkT,lenA,binPV,Env.init,resV,resT,frT,klT,ownT,intT,O.adds,ownA,rowsA,over,wrOk,keysT,keysA,ne_eq,if_true,if_false,ite_self,Nat.reduceLT,Nat.reduceSub,Nat.reduceBEq,Nat.reduceEqDiff,Nat.reduceAdd,Nat.reduceLeDiff,reduceCtorEq,Nat.reduceMul]
theorem sfixed_ok : eP S 114 [] = some (.g [.i .i64 0,.i .i64 1,.i .i64 3,.i .i64 3,.i .i64 3,.i .i64 2,.i .i64 2,.i .i64 1,.i .i64 0,.i .i64 0,.i .i64 1,.i .i64 3,.i .i64 2,.i .i64 1]) := (eP_some S).2 ⟨3,by kernel_rfl⟩
theorem sPorts_ok {x : Nd} (hx : x.Ok) : eP S 76 [.g (encN x)] = some (.a (.i .i64 x.ports)) := by
  refine x_fn (orcS (by decide)) (fc := F76) rfl rfl ?_
  have hal := hx.al
  have hw : IntKind.i64.wrap (2 + (x.al.length : Int)) = 2 + x.al.length := wrap_in _ (by omega)
  have f := sfixed_ok
  by_cases h8 : x.k = 8
  · have e : x.ports = x.to.length := by unfold Nd.ports; rw [h8]; simp
    rw [e]
    simp only [F76,h8,Int.reduceEq,fxa,fxc,fxE,fxL,fxI,nxE,evO,evR,cellsT,ldCells,mkT,lenA,binPV,Env.init,resV,resT,frT,klT,ownT,intT,O.adds,ownA,rowsA,over,wrOk,keysT,keysA,ne_eq,if_true,if_false,ite_self,Nat.reduceLT,Nat.reduceSub,Nat.reduceBEq,Nat.reduceEqDiff,Nat.reduceAdd,Nat.reduceLeDiff,reduceCtorEq,Nat.reduceMul]
  by_cases h9 : x.k = 9
  · have e : x.ports = 2 + x.al.length := by unfold Nd.ports; rw [h9]; simp
    rw [e]
    simp only [F76,h9,hw,Int.reduceEq,fxa,fxc,fxE,fxL,fxI,nxE,evO,evR,cellsT,ldCells,mkT,lenA,binPV,Env.init,resV,resT,frT,klT,ownT,intT,O.adds,ownA,rowsA,over,wrOk,keysT,keysA,ne_eq,if_true,if_false,ite_self,Nat.reduceLT,Nat.reduceSub,Nat.reduceBEq,Nat.reduceEqDiff,Nat.reduceAdd,Nat.reduceLeDiff,reduceCtorEq,Nat.reduceMul]
  by_cases hin : 0 ≤ x.k ∧ x.k ≤ 13
  · have c1 := in_is (a := x.k) (b := 0) (c := 13) hin
    obtain ⟨k,hk⟩ : ∃ k : Nat,x.k = k := ⟨x.k.toNat,by omega⟩
    unfold Nd.ports
    rw [hk] at c1 h8 h9
    have hk13 : k ≤ 13 := by omega
    simp only [F76,hk,h8,h9,c1,f,fxa,fxc,fxE,fxL,fxI,nxE,evO,evR,cellsT,ldCells,mkT,lenA,binPV,Env.init,resV,resT,frT,klT,ownT,intT,O.adds,ownA,rowsA,over,wrOk,keysT,keysA,ne_eq,if_true,if_false,ite_self,Nat.reduceLT,Nat.reduceSub,Nat.reduceBEq,Nat.reduceEqDiff,Nat.reduceAdd,Nat.reduceLeDiff,reduceCtorEq,Nat.reduceMul]
    have : k = 0 ∨ k = 1 ∨ k = 2 ∨ k = 3 ∨ k = 4 ∨ k = 5 ∨ k = 6 ∨ k = 7 ∨ k = 10 ∨ k = 11 ∨ k = 12 ∨ k = 13 := by omega
    rcases this with rfl | rfl | rfl | rfl | rfl | rfl | rfl | rfl | rfl | rfl | rfl | rfl <;> simp only [Int.reduceToNat,Int.reduceEq,Int.reduceLT,Int.reduceLE,Int.cast_ofNat_Int,List.drop_succ_cons,List.drop_zero,or_true,true_or,or_false,false_or,or_self,fxa,fxc,fxE,fxL,fxI,nxE,evO,evR,cellsT,ldCells,mkT,lenA,binPV,Env.init,resV,resT,frT,klT,ownT,intT,O.adds,ownA,rowsA,over,wrOk,keysT,keysA,ne_eq,if_true,if_false,ite_self,Nat.reduceLT,Nat.reduceSub,Nat.reduceBEq,Nat.reduceEqDiff,Nat.reduceAdd,Nat.reduceLeDiff,reduceCtorEq,Nat.reduceMul]
  · have c1 := in_no (a := x.k) (b := 0) (c := 13) hin
    have e : x.ports = 0 := by
      unfold Nd.ports
      rw [if_neg (by omega),if_neg (by omega),if_neg (by omega),if_neg (by omega),if_neg (by omega)]
    rw [e]
    simp only [F76,h8,h9,c1,fxa,fxc,fxE,fxL,fxI,nxE,evO,evR,cellsT,ldCells,mkT,lenA,binPV,Env.init,resV,resT,frT,klT,ownT,intT,O.adds,ownA,rowsA,over,wrOk,keysT,keysA,ne_eq,if_true,if_false,ite_self,Nat.reduceLT,Nat.reduceSub,Nat.reduceBEq,Nat.reduceEqDiff,Nat.reduceAdd,Nat.reduceLeDiff,reduceCtorEq,Nat.reduceMul]
theorem alt1_ok (b a : Ar) (k : Key) (σ : St) (hk : σ.bs k = some (.var ((encA a).map .p))) (hlt : k.2 < σ.clk) :
    eS S (.f 141) [.g ((encA b).map .p),.a (.ptr k 0 0)] σ = some (.a (.p (.b (decide (b.s = a.s)))),σ.add 2 (.var ((encA b).map .p))) := by
  have hne : ¬ k = (2,σ.clk) := by rintro rfl; exact Nat.lt_irrefl _ hlt
  simp only [encA,List.map_cons,List.map_nil] at hk
  refine x_fnX (fc := F141) rfl rfl ?_
  simp only [F141,hk,hne,fxa,fxc,fxE,fxL,fxI,nxE,evO,evR,cellsT,ldCells,mkT,lenA,binPV,Env.init,resV,resT,frT,klT,ownT,intT,O.adds,ownA,rowsA,over,wrOk,keysT,keysA,ne_eq,if_true,if_false,ite_self,Nat.reduceLT,Nat.reduceSub,Nat.reduceBEq,Nat.reduceEqDiff,Nat.reduceAdd,Nat.reduceLeDiff,reduceCtorEq,Nat.reduceMul]
theorem indexA_ok (l : List Ar) (hl : l.length * 24 ≤ 140737488355328) (g : FuncId) (caps : List Key) (hc : caps ≠ []) (hsp : spN g = false) (f : Ar → Bool) (R : St → Prop)
    (hR : ∀ p σ,R σ → ∃ σ',eS S (.f g) ([.g ((encA p).map .p)] ++ caps.map fun s => .a (.ptr s 0 0)) σ = some (.a (.p (.b (f p))),σ') ∧ R σ') (σ : St) (h0 : R σ) :
    ∃ σ',eS S (.f 149) [.a (.p (.l (l.map encA))),.a (.fn g caps)] σ = some (.a (.p (.i .i64 (idx f l))),σ') ∧ R σ' := by
  obtain ⟨c1,cr,rfl⟩ : ∃ c1 cr,caps = c1 :: cr := by
    cases caps with
    | nil => exact absurd rfl hc
    | cons c1 cr => exact ⟨c1,cr,rfl⟩
  refine x_fnR (fc := F149) rfl rfl ?_
  simp only [F149,fxa,fxc,fxE,fxL,fxI,nxE,evO,evR,cellsT,ldCells,mkT,lenA,binPV,Env.init,resV,resT,frT,klT,ownT,intT,O.adds,ownA,rowsA,over,wrOk,keysT,keysA,ne_eq,if_true,if_false,ite_self,Nat.reduceLT,Nat.reduceSub,Nat.reduceBEq,Nat.reduceEqDiff,Nat.reduceAdd,Nat.reduceLeDiff,reduceCtorEq,Nat.reduceMul]
  refine loop_nat l.length (fun i e σ => e 0 = .a (.p (.l (l.map encA))) ∧ e 1 = .a (.fn g (c1 :: cr)) ∧ e 7 = .a (.p (.i .i64 l.length)) ∧ e 8 = .a (.p (.i .i64 (i : Nat))) ∧ R σ ∧ ∀ j x,j < i → l[j]? = some x → f x = false) (i0 := 0) (Nat.zero_le _) ?_ ?_ ?_
  · refine ⟨?_,?_,?_,?_,h0,fun j x hj => by omega⟩ <;> simp only [fxa,fxc,fxE,fxL,fxI,nxE,evO,evR,cellsT,ldCells,mkT,lenA,binPV,Env.init,resV,resT,frT,klT,ownT,intT,O.adds,ownA,rowsA,over,wrOk,keysT,keysA,ne_eq,if_true,if_false,ite_self,Nat.reduceLT,Nat.reduceSub,Nat.reduceBEq,Nat.reduceEqDiff,Nat.reduceAdd,Nat.reduceLeDiff,reduceCtorEq,Nat.reduceMul]
    rfl
  · rintro i e σ hi ⟨e0,e1,e7,e8,hRσ,hall⟩
    have hlt : ((i : Nat) : Int) < (l.length : Int) := by omega
    have hge : (0 : Int) ≤ ((i : Nat) : Int) := by omega
    obtain ⟨x,hx⟩ : ∃ x,l[i]? = some x := ⟨_,List.getElem?_eq_getElem hi⟩
    have hx' := mapGet encA hx
    obtain ⟨σ2,hcall,hR2⟩ := hR x σ hRσ
    simp only [encA,List.map_cons,List.map_nil,List.cons_append,List.nil_append] at hcall
    simp only [F149b0,e0,e1,e7,e8,hlt,hge,hx',hsp,hcall,Bool.false_eq_true,fxa,fxc,fxE,fxL,fxI,nxE,evO,evR,cellsT,ldCells,mkT,lenA,binPV,Env.init,resV,resT,frT,klT,ownT,intT,O.adds,ownA,rowsA,over,wrOk,keysT,keysA,ne_eq,if_true,if_false,ite_self,Nat.reduceLT,Nat.reduceSub,Nat.reduceBEq,Nat.reduceEqDiff,Nat.reduceAdd,Nat.reduceLeDiff,reduceCtorEq,Nat.reduceMul]
    refine wpC_split (fun hf => ?_) (fun hf => ?_)
    · simp only [fxa,fxc,fxE,fxL,fxI,nxE,evO,evR,cellsT,ldCells,mkT,lenA,binPV,Env.init,resV,resT,frT,klT,ownT,intT,O.adds,ownA,rowsA,over,wrOk,keysT,keysA,ne_eq,if_true,if_false,ite_self,Nat.reduceLT,Nat.reduceSub,Nat.reduceBEq,Nat.reduceEqDiff,Nat.reduceAdd,Nat.reduceLeDiff,reduceCtorEq,Nat.reduceMul]
      refine ⟨?_,hR2⟩
      have : l.findIdx? f = some i := by
        rw [List.findIdx?_eq_some_iff_getElem]
        refine ⟨hi,?_,fun j hj => ?_⟩
        · rw [List.getElem?_eq_getElem hi] at hx; rw [Option.some.inj hx]; exact hf
        · rw [hall j _ hj (List.getElem?_eq_getElem (by omega))]; simp
      simp only [idx,this]
    · simp only [e0,e1,e7,e8,fxa,fxc,fxE,fxL,fxI,nxE,evO,evR,cellsT,ldCells,mkT,lenA,binPV,Env.init,resV,resT,frT,klT,ownT,intT,O.adds,ownA,rowsA,over,wrOk,keysT,keysA,ne_eq,if_true,if_false,ite_self,Nat.reduceLT,Nat.reduceSub,Nat.reduceBEq,Nat.reduceEqDiff,Nat.reduceAdd,Nat.reduceLeDiff,reduceCtorEq,Nat.reduceMul]
      refine ⟨by rw [wrap_succ i (by omega)],hR2,fun j y hj hy => ?_⟩
      by_cases e : j = i
      · subst e; rw [hx] at hy; rw [← Option.some.inj hy]; exact hf
      · exact hall j y (by omega) hy
  · rintro e σ ⟨e0,e1,e7,e8,hRσ,hall⟩
    have hlt : ¬ ((l.length : Nat) : Int) < (l.length : Int) := by omega
    simp only [F149b0,e0,e1,e7,e8,hlt,fxa,fxc,fxE,fxL,fxI,nxE,evO,evR,cellsT,ldCells,mkT,lenA,binPV,Env.init,resV,resT,frT,klT,ownT,intT,O.adds,ownA,rowsA,over,wrOk,keysT,keysA,ne_eq,if_true,if_false,ite_self,Nat.reduceLT,Nat.reduceSub,Nat.reduceBEq,Nat.reduceEqDiff,Nat.reduceAdd,Nat.reduceLeDiff,reduceCtorEq,Nat.reduceMul]
    refine ⟨?_,hRσ⟩
    have : l.findIdx? f = none := by
      rw [List.findIdx?_eq_none_iff]
      intro x hx
      obtain ⟨j,hj⟩ := List.getElem?_of_mem hx
      exact hall j x (List.getElem?_eq_some_iff.1 hj).1 hj
    simp only [idx,this]
theorem containsA_ok (l : List Ar) (hl : l.length * 24 ≤ 140737488355328) (a : Ar) (k : Key) (R : St → Prop) (hRk : ∀ σ,R σ → σ.bs k = some (.var ((encA a).map .p)) ∧ k.2 < σ.clk) (hRa : ∀ σ b,R σ → R (σ.add 2 b)) (σ : St) (h0 : R σ) :
    ∃ σ',eS S (.f 142) [.a (.p (.l (l.map encA))),.a (.fn 141 [k])] σ = some (.a (.p (.b (l.any fun b => decide (b.s = a.s)))),σ') ∧ R σ' := by
  obtain ⟨σ',h,hR⟩ := indexA_ok l hl 141 [k] (by simp) (by decide) (fun b => decide (b.s = a.s)) R (fun b σ hσ => ⟨_,alt1_ok b a k σ (hRk σ hσ).1 (hRk σ hσ).2,hRa σ _ hσ⟩) σ h0
  refine x_fnR (fc := F142) rfl rfl ?_
  simp only [F142,h,idx_any,fxa,fxc,fxE,fxL,fxI,nxE,evO,evR,cellsT,ldCells,mkT,lenA,binPV,Env.init,resV,resT,frT,klT,ownT,intT,O.adds,ownA,rowsA,over,wrOk,keysT,keysA,ne_eq,if_true,if_false,ite_self,Nat.reduceLT,Nat.reduceSub,Nat.reduceBEq,Nat.reduceEqDiff,Nat.reduceAdd,Nat.reduceLeDiff,reduceCtorEq,Nat.reduceMul]
  exact hR
def altsP (x : Nd) : Prop := (x.k ≠ 9 → x.al.length = 0) ∧ (x.k = 9 → altOk x.al ∧ 1 ≤ (x.al.length : Int) ∧ (x.al.length : Int) ≤ 8)
theorem alts_ok {x : Nd} (hx : x.Ok) : eP S 113 [.g (encN x)] = some (.a (.b (bool (altsP x)))) := by
  refine x_fnB (orcS (by decide)) (fc := F113) rfl rfl ?_
  have hal := hx.al
  by_cases h9 : x.k = 9
  case neg =>
    simp only [F113,h9,fxa,fxc,fxE,fxL,fxI,nxE,evO,evR,cellsT,ldCells,mkT,lenA,binPV,Env.init,resV,resT,frT,klT,ownT,intT,O.adds,ownA,rowsA,over,wrOk,keysT,keysA,ne_eq,if_true,if_false,ite_self,Nat.reduceLT,Nat.reduceSub,Nat.reduceBEq,Nat.reduceEqDiff,Nat.reduceAdd,Nat.reduceLeDiff,reduceCtorEq,Nat.reduceMul]
    rw [decide_eq_true_iff]
    exact ⟨fun h => ⟨fun _ => by omega,fun h2 => absurd h2 h9⟩,fun h => by have := h.1 h9; omega⟩
  simp only [F113,h9,fxa,fxc,fxE,fxL,fxI,nxE,evO,evR,cellsT,ldCells,mkT,lenA,binPV,Env.init,resV,resT,frT,klT,ownT,intT,O.adds,ownA,rowsA,over,wrOk,keysT,keysA,ne_eq,if_true,if_false,ite_self,Nat.reduceLT,Nat.reduceSub,Nat.reduceBEq,Nat.reduceEqDiff,Nat.reduceAdd,Nat.reduceLeDiff,reduceCtorEq,Nat.reduceMul]
  refine loop_nat x.al.length (fun i e σ => e 1 = .a (.ptr (1,0) 0 0) ∧ e 14 = .a (.p (.l (x.al.map encA))) ∧ e 15 = .a (.p (.i .i64 x.al.length)) ∧ e 16 = .a (.p (.i .i64 (i : Nat))) ∧ σ.bs (1,0) = some (.var ((encN x).map .p)) ∧ 1 ≤ σ.clk ∧
    ∀ (m : Nat) (a : Ar),m < i → x.al[m]? = some a → a.s ≠ [] ∧ 0 ≤ a.n ∧ a.n ≤ 8 ∧ ∀ (j : Nat) (b : Ar),j < m → x.al[j]? = some b → b.s ≠ a.s) (i0 := 0) (Nat.zero_le _) ?_ ?_ ?_
  · refine ⟨?_,?_,?_,?_,?_,?_,fun j a hj => by omega⟩ <;> simp only [h9,fxa,fxc,fxE,fxL,fxI,nxE,evO,evR,cellsT,ldCells,mkT,lenA,binPV,Env.init,resV,resT,frT,klT,ownT,intT,O.adds,ownA,rowsA,over,wrOk,keysT,keysA,ne_eq,if_true,if_false,ite_self,Nat.reduceLT,Nat.reduceSub,Nat.reduceBEq,Nat.reduceEqDiff,Nat.reduceAdd,Nat.reduceLeDiff,reduceCtorEq,Nat.reduceMul]
    all_goals first | rfl | omega
  · rintro i e σ hi ⟨e1,e14,e15,e16,s1,hc,hall⟩
    obtain ⟨a,ha⟩ : ∃ a,x.al[i]? = some a := ⟨_,List.getElem?_eq_getElem hi⟩
    have ha' := mapGet encA ha
    have hlt : ((i : Nat) : Int) < (x.al.length : Int) := by omega
    have hle : ((i : Nat) : Int) ≤ (x.al.length : Int) := by omega
    have hge : (0 : Int) ≤ ((i : Nat) : Int) := by omega
    simp only [encN,List.map_cons,List.map_nil] at s1
    have htk : List.take i (x.al.map encA) = (x.al.take i).map encA := List.map_take.symm
    have hall2 : ((x.al.take i).map encA).all (fun r => decide (r.length = 2)) = true := allA _
    by_cases h1 : a.s = []
    · simp only [F113b0,e1,e14,e15,e16,s1,hlt,hle,hge,ha',h1,capsOf,optInt,subRows,htk,hall2,Int.reduceToNat,Nat.sub_zero,Int.toNat_zero,Int.le_refl,List.drop_zero,fxa,fxc,fxE,fxL,fxI,nxE,evO,evR,cellsT,ldCells,mkT,lenA,binPV,Env.init,resV,resT,frT,klT,ownT,intT,O.adds,ownA,rowsA,over,wrOk,keysT,keysA,ne_eq,if_true,if_false,ite_self,Nat.reduceLT,Nat.reduceSub,Nat.reduceBEq,Nat.reduceEqDiff,Nat.reduceAdd,Nat.reduceLeDiff,reduceCtorEq,Nat.reduceMul]
      intro hP; exact ((hP.2 h9).1 i a ha).1 h1
    by_cases h2 : 0 ≤ a.n ∧ a.n ≤ 8
    case neg =>
      have c1 := in_no h2
      simp only [F113b0,e1,e14,e15,e16,s1,hlt,hle,hge,ha',h1,c1,capsOf,optInt,subRows,htk,hall2,Int.reduceToNat,Nat.sub_zero,Int.toNat_zero,Int.le_refl,List.drop_zero,fxa,fxc,fxE,fxL,fxI,nxE,evO,evR,cellsT,ldCells,mkT,lenA,binPV,Env.init,resV,resT,frT,klT,ownT,intT,O.adds,ownA,rowsA,over,wrOk,keysT,keysA,ne_eq,if_true,if_false,ite_self,Nat.reduceLT,Nat.reduceSub,Nat.reduceBEq,Nat.reduceEqDiff,Nat.reduceAdd,Nat.reduceLeDiff,reduceCtorEq,Nat.reduceMul]
      intro hP; have := (hP.2 h9).1 i a ha; omega
    have c1 := in_is h2
    have hne : ∀ d : Nat,∀ s : Key,s.2 < σ.clk → ¬ s = (d,σ.clk) := by rintro d s hs rfl; exact Nat.lt_irrefl _ hs
    obtain ⟨σ0,hσ0⟩ : ∃ σ0,σ0 = ((σ.add 4 (.var [.p (.s []),.p (.i .i64 0)])).put (4,σ.clk) (.var [.p (.s a.s),.p (.i .i64 a.n)])) := ⟨_,rfl⟩
    obtain ⟨σ2,hcall,hR2⟩ := containsA_ok (x.al.take i) (by simp; omega) a (4,σ.clk) (fun σ' => σ'.bs (1,0) = some (.var ((encN x).map .p)) ∧ σ'.bs (4,σ.clk) = some (.var ((encA a).map .p)) ∧ σ.clk < σ'.clk)
      (fun σ' h => ⟨h.2.1,h.2.2⟩) (fun σ' b h => ⟨by simp only [add_bs]; rw [if_neg (by simp)]; exact h.1,by simp only [add_bs]; rw [if_neg (by simp)]; exact h.2.1,by simp only [add_clk]; omega⟩) σ0
      (by rw [hσ0]; refine ⟨?_,?_,?_⟩ <;> simp only [s1,encN,encA,List.map_cons,List.map_nil,fxa,fxc,fxE,fxL,fxI,nxE,evO,evR,cellsT,ldCells,mkT,lenA,binPV,Env.init,resV,resT,frT,klT,ownT,intT,O.adds,ownA,rowsA,over,wrOk,keysT,keysA,ne_eq,if_true,if_false,ite_self,Nat.reduceLT,Nat.reduceSub,Nat.reduceBEq,Nat.reduceEqDiff,Nat.reduceAdd,Nat.reduceLeDiff,reduceCtorEq,Nat.reduceMul])
    simp only [encN,List.map_cons,List.map_nil] at hR2
    rw [hσ0] at hcall
    simp only [F113b0,e1,e14,e15,e16,s1,hlt,hle,hge,ha',h1,c1,capsOf,optInt,subRows,htk,hall2,hcall,Int.reduceToNat,Nat.sub_zero,Int.toNat_zero,Int.le_refl,List.drop_zero,fxa,fxc,fxE,fxL,fxI,nxE,evO,evR,cellsT,ldCells,mkT,lenA,binPV,Env.init,resV,resT,frT,klT,ownT,intT,O.adds,ownA,rowsA,over,wrOk,keysT,keysA,ne_eq,if_true,if_false,ite_self,Nat.reduceLT,Nat.reduceSub,Nat.reduceBEq,Nat.reduceEqDiff,Nat.reduceAdd,Nat.reduceLeDiff,reduceCtorEq,Nat.reduceMul]
    cases hany : (x.al.take i).any fun b => decide (b.s = a.s) with
    | true =>
      simp only [hany,fxa,fxc,fxE,fxL,fxI,nxE,evO,evR,cellsT,ldCells,mkT,lenA,binPV,Env.init,resV,resT,frT,klT,ownT,intT,O.adds,ownA,rowsA,over,wrOk,keysT,keysA,ne_eq,if_true,if_false,ite_self,Nat.reduceLT,Nat.reduceSub,Nat.reduceBEq,Nat.reduceEqDiff,Nat.reduceAdd,Nat.reduceLeDiff,reduceCtorEq,Nat.reduceMul]
      intro hP
      rw [List.any_eq_true] at hany
      obtain ⟨b,hb,hb2⟩ := hany
      obtain ⟨j,hj⟩ := List.getElem?_of_mem hb
      have hjl := (List.getElem?_eq_some_iff.1 hj).1
      simp at hjl
      rw [List.getElem?_take_of_lt (by omega)] at hj
      exact ((hP.2 h9).1 i a ha).2.2.2 j b (by omega) hj (by simpa using hb2)
    | false =>
      simp only [hany,e1,e14,e15,e16,fxa,fxc,fxE,fxL,fxI,nxE,evO,evR,cellsT,ldCells,mkT,lenA,binPV,Env.init,resV,resT,frT,klT,ownT,intT,O.adds,ownA,rowsA,over,wrOk,keysT,keysA,ne_eq,if_true,if_false,ite_self,Nat.reduceLT,Nat.reduceSub,Nat.reduceBEq,Nat.reduceEqDiff,Nat.reduceAdd,Nat.reduceLeDiff,reduceCtorEq,Nat.reduceMul]
      refine ⟨by rw [wrap_succ i (by omega)],hR2.1,by omega,fun m c hm hcc => ?_⟩
      by_cases e : m = i
      · subst e; rw [ha] at hcc; rw [← Option.some.inj hcc]
        refine ⟨h1,h2.1,h2.2,fun j b hj hb hs => ?_⟩
        rw [List.any_eq_false] at hany
        exact hany b (by rw [List.mem_take_iff_getElem]; obtain ⟨hl,hg⟩ := List.getElem?_eq_some_iff.1 hb; exact ⟨j,by omega,hg⟩) (by simpa using hs)
      · exact hall m c (by omega) hcc
  · rintro e σ ⟨e1,e14,e15,e16,s1,hc,hall⟩
    have hlt : ¬ ((x.al.length : Nat) : Int) < (x.al.length : Int) := by omega
    have c1 := in_ok (x.al.length : Int) 1 8
    simp only [encN,List.map_cons,List.map_nil] at s1
    simp only [F113b0,e1,e14,e15,e16,s1,hlt,c1,fxa,fxc,fxE,fxL,fxI,nxE,evO,evR,cellsT,ldCells,mkT,lenA,binPV,Env.init,resV,resT,frT,klT,ownT,intT,O.adds,ownA,rowsA,over,wrOk,keysT,keysA,ne_eq,if_true,if_false,ite_self,Nat.reduceLT,Nat.reduceSub,Nat.reduceBEq,Nat.reduceEqDiff,Nat.reduceAdd,Nat.reduceLeDiff,reduceCtorEq,Nat.reduceMul]
    rw [Bool.and_eq_true,decide_eq_true_eq,decide_eq_true_eq]
    exact ⟨fun h => ⟨fun h2 => absurd h9 h2,fun _ => ⟨fun i a hi => hall i a (List.getElem?_eq_some_iff.1 hi).1 hi,h.1,h.2⟩⟩,fun h => (h.2 h9).2⟩
end Go.Proofs.Ytkpfjolcmkikeaa
end
