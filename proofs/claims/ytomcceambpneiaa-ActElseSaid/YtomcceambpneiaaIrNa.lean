/- The functions of the seat, turned into instructions: each is what the compiler text makes of the given program, by the kernel. -/
import Derived.Test.YtomcceambpneiaaProg
import Derived.Test.YtomcceambpneiaaFb
namespace Go.Proofs.Ytomcceambpneiaa
open Go.Fx


/- gossamer/gossamerlaw14.RuleTurns -/
def F3 : FnC := ⟨2, (.seq (.reg [
  ia 2 (.box 6 (.t 0)),
ia 3 (.box 6 (.t 1)),
ia 4 (.mv (.c (.a (.p (.b false)))))]) (.seq (.seq (.reg [
  ia 10 (.call (.f 11) []),
ia 11 (.not (.t 10)),
ia 12 (.mv (.t 11)),
ig 13 12 false (.ld 6 true (.t 2)),
ig 14 12 false (.call (.f 12) [(.t 13)]),
ig 15 12 false (.not (.t 14)),
ia 16 (.pick (.t 12) (.c (.a (.p (.b true)))) (.t 15)),
ia 17 (.mv (.t 16)),
ig 18 17 false (.ld 6 true (.t 3)),
ig 19 17 false (.call (.f 12) [(.t 18)]),
ig 20 17 false (.not (.t 19)),
ia 21 (.pick (.t 17) (.c (.a (.p (.b true)))) (.t 20)),
ia 22 (.mv (.t 21)),
ig 23 22 false (.ld 6 true (.t 2)),
ig 24 22 false (.call (.f 13) [(.t 23)]),
ig 25 22 false (.not (.t 24)),
ia 26 (.pick (.t 22) (.c (.a (.p (.b true)))) (.t 25)),
ia 27 (.mv (.t 26)),
ig 28 27 false (.ld 6 true (.t 3)),
ig 29 27 false (.call (.f 13) [(.t 28)]),
ig 30 27 false (.not (.t 29)),
ia 31 (.pick (.t 27) (.c (.a (.p (.b true)))) (.t 30))]) (.cond (.t 31) (.seq (.reg [
  ia 32 (.call (.f 11) []),
ia 4 (.mv (.t 32))]) .ret) .skip)) (.seq (.reg [
  ia 34 (.ld 6 true (.t 2)),
ia 35 (.ld 6 true (.t 3)),
ia 36 (.call (.f 14) [(.t 34), (.t 35)]),
ia 33 (.mv (.t 36)),
ia 37 (.ext (.t 33) 0),
ia 38 (.ext (.t 33) 1),
ia 5 (.new [(.p (.i .i64 0)), (.p (.b false)), (.p (.i .i64 0)), (.p (.i .i64 0)), (.p (.i .i64 0)), (.p (.i .i64 0)), (.p (.i .i64 0)), (.p (.s [])), .nil, .nil]),
io (.st 10 (.t 5) (.t 37)),
ia 6 (.mv (.t 38))]) (.seq (.reg [
  ia 40 (.ld 6 true (.t 3)),
ia 41 (.ld 6 true (.t 2)),
ia 42 (.call (.f 14) [(.t 40), (.t 41)]),
ia 39 (.mv (.t 42)),
ia 43 (.ext (.t 39) 0),
ia 44 (.ext (.t 39) 1),
ia 7 (.new [(.p (.i .i64 0)), (.p (.b false)), (.p (.i .i64 0)), (.p (.i .i64 0)), (.p (.i .i64 0)), (.p (.i .i64 0)), (.p (.i .i64 0)), (.p (.s [])), .nil, .nil]),
io (.st 10 (.t 7) (.t 43)),
ia 8 (.mv (.t 44))]) (.seq (.seq (.reg [
  ia 45 (.mv (.t 6)),
ia 46 (.mv (.t 8)),
ia 47 (.bin .neq (.t 45) (.t 46))]) (.cond (.t 47) (.seq (.reg [
  ia 4 (.mv (.c (.a (.p (.b false)))))]) .ret) .skip)) (.seq (.seq (.reg [
  ia 48 (.mv (.t 6)),
ia 49 (.bin .neq (.t 48) (ci 0))]) (.cond (.t 49) (.seq (.reg [
  ia 50 (.ld 10 true (.t 5)),
ia 51 (.build [(.p (.i .i64 0)), (.p (.b false)), (.p (.i .i64 0)), (.p (.i .i64 0)), (.p (.i .i64 0)), (.p (.i .i64 0)), (.p (.i .i64 0)), (.p (.s [])), .nil, .nil] []),
ia 52 (.call (.f 15) [(.t 50), (.t 51)]),
ia 53 (.mv (.t 52)),
ig 54 53 true (.ld 10 true (.t 7)),
ig 55 53 true (.build [(.p (.i .i64 0)), (.p (.b false)), (.p (.i .i64 0)), (.p (.i .i64 0)), (.p (.i .i64 0)), (.p (.i .i64 0)), (.p (.i .i64 0)), (.p (.s [])), .nil, .nil] []),
ig 56 53 true (.call (.f 15) [(.t 54), (.t 55)]),
ia 57 (.pick (.t 53) (.t 56) (.c (.a (.p (.b false))))),
ia 4 (.mv (.t 57))]) .ret) .skip)) (.seq (.seq (.reg [
  ia 58 (.fad 0 (.t 5)),
ia 59 (.ld 1 false (.t 58)),
ia 60 (.bin .eql (.t 59) (ci 6)),
ia 61 (.mv (.t 60)),
ig 62 61 false (.fad 0 (.t 2)),
ig 63 61 false (.ld 1 false (.t 62)),
ig 64 61 false (.bin .eql (.t 63) (ci 7)),
ig 65 61 false (.mv (.t 64)),
ig 66 65 true (.fad 0 (.t 3)),
ig 67 65 true (.ld 1 false (.t 66)),
ig 68 65 true (.bin .eql (.t 67) (ci 7)),
ig 69 61 false (.pick (.t 65) (.t 68) (.c (.a (.p (.b false))))),
ia 70 (.pick (.t 61) (.c (.a (.p (.b true)))) (.t 69))]) (.cond (.t 70) (.seq (.reg [
  ia 71 (.fad 1 (.t 5)),
ia 72 (.ld 1 false (.t 71)),
ia 73 (.not (.t 72)),
ia 74 (.mv (.t 73)),
ig 75 74 true (.fad 1 (.t 7)),
ig 76 74 true (.ld 1 false (.t 75)),
ig 77 74 true (.not (.t 76)),
ia 78 (.pick (.t 74) (.t 77) (.c (.a (.p (.b false))))),
ia 79 (.mv (.t 78)),
ig 80 79 true (.fad 0 (.t 5)),
ig 81 79 true (.ld 1 false (.t 80)),
ig 82 79 true (.fad 0 (.t 7)),
ig 83 79 true (.ld 1 false (.t 82)),
ig 84 79 true (.bin .eql (.t 81) (.t 83)),
ia 85 (.pick (.t 79) (.t 84) (.c (.a (.p (.b false))))),
ia 86 (.mv (.t 85)),
ig 87 86 true (.fad 0 (.t 5)),
ig 88 86 true (.ld 1 false (.t 87)),
ig 89 86 true (.bin .neq (.t 88) (ci 6)),
ig 90 86 true (.mv (.t 89)),
ig 91 90 false (.fad 0 (.t 2)),
ig 92 90 false (.ld 1 false (.t 91)),
ig 93 90 false (.fad 0 (.t 3)),
ig 94 90 false (.ld 1 false (.t 93)),
ig 95 90 false (.bin .eql (.t 92) (.t 94)),
ig 96 90 false (.mv (.t 95)),
ig 97 96 true (.fad 1 (.t 2)),
ig 98 96 true (.ld 1 false (.t 97)),
ig 99 96 true (.fad 1 (.t 3)),
ig 100 96 true (.ld 1 false (.t 99)),
ig 101 96 true (.bin .eql (.t 98) (.t 100)),
ig 102 90 false (.pick (.t 96) (.t 101) (.c (.a (.p (.b false))))),
ig 103 86 true (.pick (.t 90) (.c (.a (.p (.b true)))) (.t 102)),
ia 104 (.pick (.t 86) (.t 103) (.c (.a (.p (.b false))))),
ia 4 (.mv (.t 104))]) .ret) .skip)) (.seq (.reg [
  ia 105 (.ld 10 true (.t 7)),
ia 9 (.new [(.p (.i .i64 0)), (.p (.b false)), (.p (.i .i64 0)), (.p (.i .i64 0)), (.p (.i .i64 0)), (.p (.i .i64 0)), (.p (.i .i64 0)), (.p (.s [])), .nil, .nil]),
io (.st 10 (.t 9) (.t 105))]) (.seq (.reg [
  ia 106 (.fad 1 (.t 5)),
ia 107 (.ld 1 false (.t 106)),
ia 108 (.fad 1 (.t 9)),
io (.st 1 (.t 108) (.t 107))]) (.seq (.reg [
  ir 109 (.fad 1 (.t 5)),
ir 110 (.ld 1 false (.t 109)),
ir 111 (.fad 1 (.t 7)),
ir 112 (.ld 1 false (.t 111)),
ia 113 (.eqb true (.t 110) (.t 112)),
ia 114 (.mv (.t 113)),
ih 115 114 true (.ld 10 true (.t 5)),
ih 116 114 true (.ld 10 true (.t 9)),
ig 117 114 true (.call (.f 15) [(.t 115), (.t 116)]),
ia 118 (.pick (.t 114) (.t 117) (.c (.a (.p (.b false))))),
ia 119 (.mv (.t 118)),
ih 120 119 true (.ld 10 true (.t 5)),
ih 121 119 true (.ld 6 true (.t 2)),
ih 122 119 true (.ld 6 true (.t 3)),
ih 123 119 true (.call (.f 16) [(.t 120), (.t 121), (.t 122)]),
ih 124 119 true (.ld 10 true (.t 7)),
ih 125 119 true (.ld 6 true (.t 3)),
ih 126 119 true (.ld 6 true (.t 2)),
ig 127 119 true (.call (.f 16) [(.t 124), (.t 125), (.t 126)]),
ig 128 119 true (.bin .eql (.t 123) (.t 127)),
ia 129 (.pick (.t 119) (.t 128) (.c (.a (.p (.b false))))),
ia 4 (.mv (.t 129))]) .ret)))))))))), [(.tmp 4)]⟩
theorem cc3 : ccF Try.prog [(58, [0, 0]), (61, [1, 0]), (75, [0, 0]), (58, [9]), (91, [8]), (93, [8]), (72, [8]), (92, [8]), (76, [8])] Try.f3 = some (stripF F3) := by kernel_rfl

/- gossamer/gossamerlaw14.RuleKinds -/
def F4 : FnC := ⟨2, (.seq (.reg [
  ia 2 (.box 6 (.t 0)),
ia 3 (.box 6 (.t 1)),
ia 4 (.mv (.c (.a (.p (.b false)))))]) (.seq (.seq (.reg [
  ia 9 (.call (.f 11) []),
ia 10 (.not (.t 9)),
ia 11 (.mv (.t 10)),
ig 12 11 false (.ld 6 true (.t 2)),
ig 13 11 false (.call (.f 17) [(.t 12)]),
ig 14 11 false (.not (.t 13)),
ia 15 (.pick (.t 11) (.c (.a (.p (.b true)))) (.t 14)),
ia 16 (.mv (.t 15)),
ig 17 16 false (.ld 6 true (.t 3)),
ig 18 16 false (.call (.f 17) [(.t 17)]),
ig 19 16 false (.not (.t 18)),
ia 20 (.pick (.t 16) (.c (.a (.p (.b true)))) (.t 19))]) (.cond (.t 20) (.seq (.reg [
  ia 21 (.call (.f 11) []),
ia 4 (.mv (.t 21))]) .ret) .skip)) (.seq (.reg [
  ia 23 (.ld 6 true (.t 2)),
ia 24 (.ld 6 true (.t 3)),
ia 25 (.call (.f 14) [(.t 23), (.t 24)]),
ia 22 (.mv (.t 25)),
ia 26 (.ext (.t 22) 0),
ia 27 (.ext (.t 22) 1),
ia 5 (.new [(.p (.i .i64 0)), (.p (.b false)), (.p (.i .i64 0)), (.p (.i .i64 0)), (.p (.i .i64 0)), (.p (.i .i64 0)), (.p (.i .i64 0)), (.p (.s [])), .nil, .nil]),
io (.st 10 (.t 5) (.t 26)),
ia 6 (.mv (.t 27))]) (.seq (.seq (.reg [
  ia 28 (.mv (.t 6)),
ia 29 (.bin .neq (.t 28) (ci 0))]) (.cond (.t 29) (.seq (.reg [
  ia 30 (.mv (.t 6)),
ia 31 (.bin .eql (.t 30) (ci 140)),
ia 32 (.mv (.t 31)),
ig 33 32 false (.mv (.t 6)),
ig 34 32 false (.bin .eql (.t 33) (ci 141)),
ia 35 (.pick (.t 32) (.c (.a (.p (.b true)))) (.t 34)),
ia 4 (.mv (.t 35))]) .ret) .skip)) (.seq (.reg [
  ir 36 (.ld 6 true (.t 2)),
ir 37 (.ld 6 true (.t 3)),
⟨(.some 7), .none, (.new [(.p (.i .i64 0)), (.p (.i .i64 0)), (.p (.i .i64 0)), (.p (.s [])), .nil, .nil]), .ad⟩,
⟨(.some 8), .none, (.new [(.p (.i .i64 0)), (.p (.i .i64 0)), (.p (.i .i64 0)), (.p (.s [])), .nil, .nil]), .ad⟩,
⟨.none, .none, (.st 6 (.t 7) (.t 36)), (.wr [3])⟩,
io (.st 6 (.t 8) (.t 37))]) (.seq (.seq (.reg [
  ia 38 (.fad 1 (.t 5)),
ia 39 (.ld 1 false (.t 38))]) (.cond (.t 39) (.reg [
  ir 40 (.ld 6 true (.t 3)),
ir 41 (.ld 6 true (.t 2)),
⟨.none, .none, (.st 6 (.t 7) (.t 40)), (.wr [2])⟩,
io (.st 6 (.t 8) (.t 41))]) .skip)) (.seq (.seq (.reg [
  ia 42 (.fad 0 (.t 5)),
ia 43 (.ld 1 false (.t 42))]) (.block 0 (.seq (.reg [
  ia 45 (.bin .eql (.t 43) (ci 8)),
ia 44 (.mv (.t 45))]) (.cond (.t 44) (.seq (.reg [
  ia 46 (.fad 0 (.t 7)),
ia 47 (.ld 1 false (.t 46)),
ia 48 (.bin .eql (.t 47) (ci 7)),
ia 4 (.mv (.t 48))]) .ret) (.seq (.reg [
  ia 50 (.bin .eql (.t 43) (ci 6)),
ia 49 (.mv (.t 50))]) (.cond (.t 49) (.seq (.reg [
  ia 51 (.fad 0 (.t 7)),
ia 52 (.ld 1 false (.t 51)),
ia 53 (.call (.f 18) [(.t 52)]),
ia 54 (.mv (.t 53)),
ig 55 54 true (.fad 0 (.t 7)),
ig 56 54 true (.ld 1 false (.t 55)),
ig 57 54 true (.fad 0 (.t 8)),
ig 58 54 true (.ld 1 false (.t 57)),
ig 59 54 true (.bin .eql (.t 56) (.t 58)),
ia 60 (.pick (.t 54) (.t 59) (.c (.a (.p (.b false))))),
ia 61 (.mv (.t 60)),
ig 62 61 true (.fad 1 (.t 7)),
ig 63 61 true (.ld 1 false (.t 62)),
ig 64 61 true (.fad 1 (.t 8)),
ig 65 61 true (.ld 1 false (.t 64)),
ig 66 61 true (.bin .eql (.t 63) (.t 65)),
ia 67 (.pick (.t 61) (.t 66) (.c (.a (.p (.b false))))),
ia 4 (.mv (.t 67))]) .ret) (.seq (.reg [
  ia 69 (.bin .eql (.t 43) (ci 7)),
ia 68 (.mv (.t 69))]) (.cond (.t 68) (.seq (.reg [
  ia 70 (.fad 0 (.t 7)),
ia 71 (.ld 1 false (.t 70)),
ia 72 (.call (.f 18) [(.t 71)]),
ia 73 (.mv (.t 72)),
ig 74 73 true (.fad 1 (.t 7)),
ig 75 73 true (.ld 1 false (.t 74)),
ig 76 73 true (.fad 1 (.t 8)),
ig 77 73 true (.ld 1 false (.t 76)),
ig 78 73 true (.bin .lss (.t 75) (.t 77)),
ia 79 (.pick (.t 73) (.t 78) (.c (.a (.p (.b false))))),
ia 80 (.mv (.t 79)),
ig 81 80 true (.fad 2 (.t 5)),
ig 82 80 true (.ld 1 false (.t 81)),
ig 83 80 true (.bin .geq (.t 82) (ci 0)),
ia 84 (.pick (.t 80) (.t 83) (.c (.a (.p (.b false))))),
ia 85 (.mv (.t 84)),
ig 86 85 true (.fad 2 (.t 5)),
ig 87 85 true (.ld 1 false (.t 86)),
ig 88 85 true (.bin .leq (.t 87) (ci 60)),
ia 89 (.pick (.t 85) (.t 88) (.c (.a (.p (.b false))))),
ia 90 (.mv (.t 89)),
ig 91 90 true (.fad 2 (.t 5)),
ig 92 90 true (.ld 1 false (.t 91)),
ig 93 90 true (.fad 1 (.t 7)),
ig 94 90 true (.ld 1 false (.t 93)),
ig 95 90 true (.bin .geq (.t 92) (.t 94)),
ia 96 (.pick (.t 90) (.t 95) (.c (.a (.p (.b false))))),
ia 4 (.mv (.t 96))]) .ret) (.seq (.reg [
  ia 98 (.bin .eql (.t 43) (ci 4)),
ia 97 (.mv (.t 98))]) (.cond (.t 97) (.seq (.reg [
  ia 99 (.fad 0 (.t 7)),
ia 100 (.ld 1 false (.t 99)),
ia 101 (.bin .eql (.t 100) (ci 12)),
ia 102 (.mv (.t 101)),
ih 103 102 true (.fad 4 (.t 5)),
ih 104 102 true (.fad 1 (.t 103)),
ih 105 102 true (.ld 1 false (.t 104)),
ih 106 102 true (.fad 1 (.t 7)),
ih 107 102 true (.ld 1 false (.t 106)),
ig 108 102 true (.bin .eql (.t 105) (.t 107)),
ia 109 (.pick (.t 102) (.t 108) (.c (.a (.p (.b false))))),
ia 110 (.mv (.t 109)),
ih 111 110 true (.fad 4 (.t 5)),
ih 112 110 true (.ld 6 true (.t 111)),
ih 113 110 true (.call (.f 17) [(.t 112)]),
ih 114 110 true (.fad 4 (.t 5)),
ih 115 110 true (.fad 0 (.t 114)),
ih 116 110 true (.ld 1 false (.t 115)),
ih 117 110 true (.bin .eql (.t 116) (ci 10)),
ig 118 110 true (.mv (.t 117)),
ig 119 118 false (.fad 4 (.t 5)),
ig 120 118 false (.fad 5 (.t 119)),
ig 121 118 false (.ld 1 false (.t 120)),
ig 122 118 false (.len false (.t 121)),
ig 123 118 false (.bin .eql (.t 122) (ci 1)),
ig 124 110 true (.pick (.t 118) (.c (.a (.p (.b true)))) (.t 123)),
ig 125 110 true (.eqb false (.t 113) (.t 124)),
ia 126 (.pick (.t 110) (.t 125) (.c (.a (.p (.b false))))),
ia 4 (.mv (.t 126))]) .ret) .skip)))))))))) (.seq (.reg [
  ia 127 (.fad 0 (.t 7)),
ia 128 (.ld 1 false (.t 127)),
ia 129 (.call (.f 19) [(.t 128)]),
ia 130 (.mv (.t 129)),
ig 131 130 true (.fad 0 (.t 8)),
ig 132 130 true (.ld 1 false (.t 131)),
ig 133 130 true (.call (.f 20) [(.t 132)]),
ia 134 (.pick (.t 130) (.t 133) (.c (.a (.p (.b false))))),
ia 135 (.mv (.t 134)),
ig 136 135 true (.fad 0 (.t 5)),
ig 137 135 true (.ld 1 false (.t 136)),
ig 138 135 true (.bin .geq (.t 137) (ci 1)),
ia 139 (.pick (.t 135) (.t 138) (.c (.a (.p (.b false))))),
ia 140 (.mv (.t 139)),
ig 141 140 true (.fad 0 (.t 5)),
ig 142 140 true (.ld 1 false (.t 141)),
ig 143 140 true (.bin .leq (.t 142) (ci 5)),
ia 144 (.pick (.t 140) (.t 143) (.c (.a (.p (.b false))))),
ia 4 (.mv (.t 144))]) .ret)))))))), [(.tmp 4)]⟩
theorem cc4 : ccF Try.prog [(58, [0, 0]), (61, [1, 0]), (75, [0, 0]), (58, [9]), (91, [8]), (93, [8]), (72, [8]), (92, [8]), (76, [8])] Try.f4 = some (stripF F4) := by kernel_rfl

/- gossamer/gossamerlaw14.RuleLevels -/
def F5 : FnC := ⟨3, (.seq (.reg [
  ia 4 (.box 6 (.t 1)),
ia 6 (.mv (.c (.a (.p (.b false)))))]) (.seq (.seq (.reg [
  ia 11 (.call (.f 11) []),
ia 12 (.not (.t 11)),
ia 13 (.mv (.t 12)),
ig 14 13 false (.mv (.t 0)),
ig 15 13 false (.bin .lss (.t 14) (ci 4)),
ia 16 (.pick (.t 13) (.c (.a (.p (.b true)))) (.t 15)),
ia 17 (.mv (.t 16)),
ig 18 17 false (.mv (.t 0)),
ig 19 17 false (.bin .gtr (.t 18) (ci 6)),
ia 20 (.pick (.t 17) (.c (.a (.p (.b true)))) (.t 19)),
ia 21 (.mv (.t 20)),
ig 22 21 false (.ld 6 true (.t 4)),
ig 23 21 false (.call (.f 17) [(.t 22)]),
ig 24 21 false (.not (.t 23)),
ia 25 (.pick (.t 21) (.c (.a (.p (.b true)))) (.t 24)),
ia 26 (.mv (.t 25)),
ig 27 26 false (.mv (.t 2)),
ig 28 26 false (.bin .lss (.t 27) (ci 0)),
ia 29 (.pick (.t 26) (.c (.a (.p (.b true)))) (.t 28)),
ia 30 (.mv (.t 29)),
ig 31 30 false (.mv (.t 2)),
ig 32 30 false (.bin .gtr (.t 31) (ci 60)),
ia 33 (.pick (.t 30) (.c (.a (.p (.b true)))) (.t 32)),
ia 34 (.mv (.t 33)),
ig 35 34 false (.fad 0 (.t 4)),
ig 36 34 false (.ld 1 false (.t 35)),
ig 37 34 false (.bin .lss (.t 36) (ci 2)),
ia 38 (.pick (.t 34) (.c (.a (.p (.b true)))) (.t 37)),
ia 39 (.mv (.t 38)),
ig 40 39 false (.fad 0 (.t 4)),
ig 41 39 false (.ld 1 false (.t 40)),
ig 42 39 false (.bin .eql (.t 41) (ci 7)),
ia 43 (.pick (.t 39) (.c (.a (.p (.b true)))) (.t 42))]) (.cond (.t 43) (.seq (.reg [
  ia 44 (.call (.f 11) []),
ia 6 (.mv (.t 44))]) .ret) .skip)) (.seq (.reg [
  ia 45 (.mv (.t 0)),
ia 46 (.mv (.t 2)),
ia 47 (.build [(.p (.i .i64 0)), (.p (.i .i64 0)), (.p (.i .i64 0)), (.p (.s [])), .nil, .nil] [(0, (1, (.t 45))), (1, (1, (.t 46)))]),
ia 7 (.new [(.p (.i .i64 0)), (.p (.i .i64 0)), (.p (.i .i64 0)), (.p (.s [])), .nil, .nil]),
io (.st 6 (.t 7) (.t 47))]) (.seq (.reg [
  ia 49 (.ld 6 true (.t 7)),
ia 50 (.ld 6 true (.t 4)),
ia 51 (.call (.f 14) [(.t 49), (.t 50)]),
ia 48 (.mv (.t 51)),
ia 52 (.ext (.t 48) 0),
ia 53 (.ext (.t 48) 1),
ia 8 (.new [(.p (.i .i64 0)), (.p (.b false)), (.p (.i .i64 0)), (.p (.i .i64 0)), (.p (.i .i64 0)), (.p (.i .i64 0)), (.p (.i .i64 0)), (.p (.s [])), .nil, .nil]),
io (.st 10 (.t 8) (.t 52)),
ia 9 (.mv (.t 53))]) (.seq (.seq (.reg [
  ia 54 (.mv (.t 2)),
ia 55 (.fad 1 (.t 4)),
ia 56 (.ld 1 false (.t 55)),
ia 57 (.bin .lss (.t 54) (.t 56))]) (.cond (.t 57) (.seq (.reg [
  ia 58 (.fad 1 (.t 4)),
ia 59 (.ld 1 false (.t 58)),
ia 10 (.mv (.t 59))]) (.seq (.seq (.reg [
  ia 60 (.mv (.t 0)),
ia 61 (.bin .eql (.t 60) (ci 5))]) (.cond (.t 61) (.reg [
  ia 62 (.mv (.t 10)),
ia 63 (.bin .sub (.t 62) (ci 1)),
ia 10 (.mv (.t 63))]) .skip)) (.seq (.seq (.reg [
  ia 64 (.mv (.t 0)),
ia 65 (.bin .eql (.t 64) (ci 6))]) (.cond (.t 65) (.reg [
  ia 66 (.mv (.t 10)),
ia 67 (.bin .add (.t 66) (ci 1)),
ia 10 (.mv (.t 67))]) .skip)) (.seq (.seq (.reg [
  ia 68 (.mv (.t 10)),
ia 69 (.bin .gtr (.t 68) (ci 60))]) (.cond (.t 69) (.seq (.reg [
  ia 70 (.mv (.t 9)),
ia 71 (.bin .eql (.t 70) (ci 141)),
ia 6 (.mv (.t 71))]) .ret) .skip)) (.seq (.reg [
  ia 72 (.mv (.t 9)),
ia 73 (.bin .eql (.t 72) (ci 0)),
ia 74 (.mv (.t 73)),
ig 75 74 true (.fad 0 (.t 8)),
ig 76 74 true (.ld 1 false (.t 75)),
ig 77 74 true (.bin .eql (.t 76) (ci 7)),
ia 78 (.pick (.t 74) (.t 77) (.c (.a (.p (.b false))))),
ia 79 (.mv (.t 78)),
ig 80 79 true (.fad 2 (.t 8)),
ig 81 79 true (.ld 1 false (.t 80)),
ig 82 79 true (.mv (.t 10)),
ig 83 79 true (.bin .eql (.t 81) (.t 82)),
ia 84 (.pick (.t 79) (.t 83) (.c (.a (.p (.b false))))),
ia 85 (.mv (.t 84)),
ig 86 85 true (.fad 1 (.t 8)),
ig 87 85 true (.ld 1 false (.t 86)),
ig 88 85 true (.not (.t 87)),
ia 89 (.pick (.t 85) (.t 88) (.c (.a (.p (.b false))))),
ia 6 (.mv (.t 89))]) .ret))))) .skip)) (.seq (.seq (.reg [
  ia 90 (.fad 0 (.t 4)),
ia 91 (.ld 1 false (.t 90)),
ia 92 (.call (.f 18) [(.t 91)])]) (.cond (.t 92) (.seq (.reg [
  ia 93 (.mv (.t 2)),
ia 94 (.fad 1 (.t 4)),
ia 95 (.ld 1 false (.t 94)),
ia 96 (.bin .neq (.t 93) (.t 95)),
ia 97 (.mv (.t 96)),
ig 98 97 false (.mv (.t 9)),
ig 99 97 false (.bin .eql (.t 98) (ci 0)),
ig 100 97 false (.mv (.t 0)),
ig 101 97 false (.fad 0 (.t 4)),
ig 102 97 false (.ld 1 false (.t 101)),
ig 103 97 false (.bin .eql (.t 100) (.t 102)),
ig 104 97 false (.eqb false (.t 99) (.t 103)),
ia 105 (.pick (.t 97) (.c (.a (.p (.b true)))) (.t 104)),
ia 6 (.mv (.t 105))]) .ret) .skip)) (.seq (.reg [
  ia 106 (.mv (.t 9)),
ia 107 (.bin .eql (.t 106) (ci 140)),
ia 6 (.mv (.t 107))]) .ret))))))), [(.tmp 6)]⟩
theorem cc5 : ccF Try.prog [(58, [0, 0]), (61, [1, 0]), (75, [0, 0]), (58, [9]), (91, [8]), (93, [8]), (72, [8]), (92, [8]), (76, [8])] Try.f5 = some (stripF F5) := by kernel_rfl

/- gossamer/gossamerlaw14.RuleAsks -/
def F6 : FnC := ⟨2, (.seq (.reg [
  ia 2 (.box 6 (.t 0)),
ia 3 (.box 6 (.t 1)),
ia 4 (.mv (.c (.a (.p (.b false)))))]) (.seq (.seq (.reg [
  ia 8 (.call (.f 11) []),
ia 9 (.not (.t 8)),
ia 10 (.mv (.t 9)),
ig 11 10 false (.ld 6 true (.t 2)),
ig 12 10 false (.call (.f 17) [(.t 11)]),
ig 13 10 false (.not (.t 12)),
ia 14 (.pick (.t 10) (.c (.a (.p (.b true)))) (.t 13)),
ia 15 (.mv (.t 14)),
ig 16 15 false (.ld 6 true (.t 3)),
ig 17 15 false (.call (.f 17) [(.t 16)]),
ig 18 15 false (.not (.t 17)),
ia 19 (.pick (.t 15) (.c (.a (.p (.b true)))) (.t 18)),
ia 20 (.mv (.t 19)),
ih 21 20 false (.fad 5 (.t 2)),
ih 22 20 false (.ld 1 false (.t 21)),
ih 23 20 false (.len false (.t 22)),
ih 24 20 false (.ld 6 true (.t 2)),
ih 25 20 false (.call (.f 21) [(.t 24)]),
ig 26 20 false (.bin .gtr (.t 23) (.t 25)),
ia 27 (.pick (.t 20) (.c (.a (.p (.b true)))) (.t 26)),
ia 28 (.mv (.t 27)),
ih 29 28 false (.fad 5 (.t 3)),
ih 30 28 false (.ld 1 false (.t 29)),
ih 31 28 false (.len false (.t 30)),
ih 32 28 false (.ld 6 true (.t 3)),
ih 33 28 false (.call (.f 21) [(.t 32)]),
ig 34 28 false (.bin .gtr (.t 31) (.t 33)),
ia 35 (.pick (.t 28) (.c (.a (.p (.b true)))) (.t 34))]) (.cond (.t 35) (.seq (.reg [
  ia 36 (.call (.f 11) []),
ia 4 (.mv (.t 36))]) .ret) .skip)) (.seq (.reg [
  ia 38 (.ld 6 true (.t 2)),
ia 39 (.ld 6 true (.t 3)),
ia 40 (.call (.f 14) [(.t 38), (.t 39)]),
ia 37 (.mv (.t 40)),
ia 41 (.ext (.t 37) 0),
ia 42 (.ext (.t 37) 1),
ia 5 (.new [(.p (.i .i64 0)), (.p (.b false)), (.p (.i .i64 0)), (.p (.i .i64 0)), (.p (.i .i64 0)), (.p (.i .i64 0)), (.p (.i .i64 0)), (.p (.s [])), .nil, .nil]),
io (.st 10 (.t 5) (.t 41)),
ia 6 (.mv (.t 42))]) (.seq (.seq (.reg [
  ia 43 (.fad 0 (.t 2)),
ia 44 (.ld 1 false (.t 43)),
ia 45 (.call (.f 19) [(.t 44)]),
ia 46 (.mv (.t 45)),
ig 47 46 true (.fad 0 (.t 3)),
ig 48 46 true (.ld 1 false (.t 47)),
ig 49 46 true (.call (.f 19) [(.t 48)]),
ia 50 (.pick (.t 46) (.t 49) (.c (.a (.p (.b false))))),
ia 51 (.mv (.t 50)),
ig 52 51 false (.fad 0 (.t 2)),
ig 53 51 false (.ld 1 false (.t 52)),
ig 54 51 false (.call (.f 20) [(.t 53)]),
ig 55 51 false (.mv (.t 54)),
ig 56 55 true (.fad 0 (.t 3)),
ig 57 55 true (.ld 1 false (.t 56)),
ig 58 55 true (.call (.f 20) [(.t 57)]),
ig 59 51 false (.pick (.t 55) (.t 58) (.c (.a (.p (.b false))))),
ia 60 (.pick (.t 51) (.c (.a (.p (.b true)))) (.t 59))]) (.cond (.t 60) (.seq (.reg [
  ia 61 (.mv (.t 6)),
ia 62 (.bin .eql (.t 61) (ci 140)),
ia 63 (.mv (.t 62)),
ig 64 63 true (.fad 0 (.t 5)),
ig 65 63 true (.ld 1 false (.t 64)),
ig 66 63 true (.bin .eql (.t 65) (ci 0)),
ia 67 (.pick (.t 63) (.t 66) (.c (.a (.p (.b false))))),
ia 4 (.mv (.t 67))]) .ret) .skip)) (.seq (.seq (.reg [
  ia 68 (.fad 0 (.t 2)),
ia 69 (.ld 1 false (.t 68)),
ia 70 (.call (.f 19) [(.t 69)]),
ia 71 (.not (.t 70)),
ia 72 (.mv (.t 71)),
ig 73 72 false (.fad 0 (.t 3)),
ig 74 72 false (.ld 1 false (.t 73)),
ig 75 72 false (.call (.f 20) [(.t 74)]),
ig 76 72 false (.not (.t 75)),
ia 77 (.pick (.t 72) (.c (.a (.p (.b true)))) (.t 76))]) (.cond (.t 77) (.seq (.reg [
  ia 4 (.mv (.c (.a (.p (.b true)))))]) .ret) .skip)) (.seq (.reg [
  ia 78 (.fad 0 (.t 2)),
ia 79 (.ld 1 false (.t 78)),
ia 80 (.bin .eql (.t 79) (ci 3)),
ia 81 (.mv (.t 80)),
ig 82 81 true (.fad 0 (.t 3)),
ig 83 81 true (.ld 1 false (.t 82)),
ig 84 81 true (.bin .eql (.t 83) (ci 2)),
ia 85 (.pick (.t 81) (.t 84) (.c (.a (.p (.b false))))),
ia 86 (.mv (.t 85)),
ig 87 86 false (.fad 0 (.t 2)),
ig 88 86 false (.ld 1 false (.t 87)),
ig 89 86 false (.bin .eql (.t 88) (ci 9)),
ig 90 86 false (.mv (.t 89)),
ig 91 90 true (.fad 0 (.t 3)),
ig 92 90 true (.ld 1 false (.t 91)),
ig 93 90 true (.bin .eql (.t 92) (ci 8)),
ig 94 86 false (.pick (.t 90) (.t 93) (.c (.a (.p (.b false))))),
ia 95 (.pick (.t 86) (.c (.a (.p (.b true)))) (.t 94)),
ia 7 (.mv (.t 95))]) (.seq (.seq (.reg [
  ia 96 (.mv (.t 7)),
ia 97 (.mv (.t 96)),
ig 98 97 true (.fad 1 (.t 2)),
ig 99 97 true (.ld 1 false (.t 98)),
ig 100 97 true (.fad 1 (.t 3)),
ig 101 97 true (.ld 1 false (.t 100)),
ig 102 97 true (.bin .neq (.t 99) (.t 101)),
ia 103 (.pick (.t 97) (.t 102) (.c (.a (.p (.b false)))))]) (.cond (.t 103) (.seq (.reg [
  ia 104 (.mv (.t 6)),
ia 105 (.bin .eql (.t 104) (ci 140)),
ia 4 (.mv (.t 105))]) .ret) .skip)) (.seq (.reg [
  ia 106 (.mv (.t 6)),
ia 107 (.bin .eql (.t 106) (ci 0)),
ia 108 (.mv (.t 107)),
ig 109 108 true (.fad 1 (.t 5)),
ig 110 108 true (.ld 1 false (.t 109)),
ig 111 108 true (.not (.t 110)),
ia 112 (.pick (.t 108) (.t 111) (.c (.a (.p (.b false))))),
ia 113 (.mv (.t 112)),
ig 114 113 true (.fad 0 (.t 5)),
ig 115 113 true (.ld 1 false (.t 114)),
ig 116 113 true (.bin .geq (.t 115) (ci 1)),
ia 117 (.pick (.t 113) (.t 116) (.c (.a (.p (.b false))))),
ia 118 (.mv (.t 117)),
ig 119 118 true (.fad 0 (.t 5)),
ig 120 118 true (.ld 1 false (.t 119)),
ig 121 118 true (.bin .leq (.t 120) (ci 5)),
ia 122 (.pick (.t 118) (.t 121) (.c (.a (.p (.b false))))),
ia 123 (.mv (.t 122)),
ig 124 123 true (.ld 10 true (.t 5)),
ig 125 123 true (.ld 6 true (.t 2)),
ig 126 123 true (.ld 6 true (.t 3)),
ig 127 123 true (.call (.f 16) [(.t 124), (.t 125), (.t 126)]),
ig 128 123 true (.bin .geq (.t 127) (ci 0)),
ia 129 (.pick (.t 123) (.t 128) (.c (.a (.p (.b false))))),
ia 130 (.mv (.t 129)),
ig 131 130 true (.ld 10 true (.t 5)),
ig 132 130 true (.ld 6 true (.t 2)),
ig 133 130 true (.ld 6 true (.t 3)),
ig 134 130 true (.call (.f 16) [(.t 131), (.t 132), (.t 133)]),
ig 135 130 true (.bin .leq (.t 134) (ci 17)),
ia 136 (.pick (.t 130) (.t 135) (.c (.a (.p (.b false))))),
ia 4 (.mv (.t 136))]) .ret)))))))), [(.tmp 4)]⟩
theorem cc6 : ccF Try.prog [(58, [0, 0]), (61, [1, 0]), (75, [0, 0]), (58, [9]), (91, [8]), (93, [8]), (72, [8]), (92, [8]), (76, [8])] Try.f6 = some (stripF F6) := by kernel_rfl

/- gossamer/gossamerlaw14.RuleNumbers -/
def F7 : FnC := ⟨3, (.seq (.reg [
  ia 4 (.box 2 (.t 1)),
ia 6 (.mv (.c (.a (.p (.b false)))))]) (.seq (.seq (.reg [
  ia 15 (.call (.f 11) []),
ia 16 (.not (.t 15))]) (.cond (.t 16) (.seq (.reg [
  ia 6 (.mv (.c (.a (.p (.b false)))))]) .ret) .skip)) (.seq (.reg [
  ia 17 (.bsl 1 9 [(.p (.s []))] 6 [(0, (.c (.a (.p (.s [43]))))), (1, (.c (.a (.p (.s [45]))))), (2, (.c (.a (.p (.s [42]))))), (3, (.c (.a (.p (.s [47]))))), (4, (.c (.a (.p (.s [60]))))), (5, (.c (.a (.p (.s [61, 61])))))]),
ia 7 (.mv (.t 17))]) (.seq (.seq (.reg [
  ia 18 (.call (.f 11) []),
ia 19 (.not (.t 18)),
ia 20 (.mv (.t 19)),
ig 21 20 false (.mv (.t 0)),
ig 22 20 false (.bin .lss (.t 21) (ci 0)),
ia 23 (.pick (.t 20) (.c (.a (.p (.b true)))) (.t 22)),
ia 24 (.mv (.t 23)),
ig 25 24 false (.mv (.t 0)),
ig 26 24 false (.bin .gtr (.t 25) (ci 5)),
ia 27 (.pick (.t 24) (.c (.a (.p (.b true)))) (.t 26)),
ia 28 (.mv (.t 27)),
ig 29 28 false (.mv (.t 2)),
ig 30 28 false (.bin .lss (.t 29) (ci 0)),
ia 31 (.pick (.t 28) (.c (.a (.p (.b true)))) (.t 30)),
ia 32 (.mv (.t 31)),
ig 33 32 false (.mv (.t 2)),
ig 34 32 false (.bin .gtr (.t 33) (ci 60)),
ia 35 (.pick (.t 32) (.c (.a (.p (.b true)))) (.t 34))]) (.cond (.t 35) (.seq (.reg [
  ia 36 (.call (.f 11) []),
ia 6 (.mv (.t 36))]) .ret) .skip)) (.seq (.reg [
  ir 38 (.mv (.t 2)),
ir 39 (.mv (.t 7)),
ir 40 (.mv (.t 0)),
ir 41 (.ias 1 (.t 39) (.t 40)),
ir 42 (.ld 1 false (.t 41)),
ir 43 (.build [(.p (.i .i64 0)), (.p (.i .i64 0)), (.p (.i .i64 0)), (.p (.s [])), .nil, .nil] [(0, (1, (ci 11))), (1, (1, (.t 38))), (3, (1, (.t 42)))]),
ir 44 (.iaa 2 1 (.t 4) (ci 0)),
ir 45 (.ld 1 false (.t 44)),
ir 46 (.build [(.p (.i .i64 0)), (.p (.i .i64 0)), (.p (.i .i64 0)), (.p (.s [])), .nil, .nil] [(0, (1, (ci 10))), (2, (1, (.t 45)))]),
ir 47 (.call (.f 14) [(.t 43), (.t 46)]),
ir 37 (.mv (.t 47)),
ir 48 (.ext (.t 37) 0),
ir 49 (.ext (.t 37) 1),
⟨(.some 8), .none, (.new [(.p (.i .i64 0)), (.p (.b false)), (.p (.i .i64 0)), (.p (.i .i64 0)), (.p (.i .i64 0)), (.p (.i .i64 0)), (.p (.i .i64 0)), (.p (.s [])), .nil, .nil]), .ad⟩,
⟨.none, .none, (.st 10 (.t 8) (.t 48)), (.wr [])⟩,
ia 9 (.mv (.t 49))]) (.seq (.reg [
  ir 51 (.mv (.t 2)),
ir 52 (.mv (.t 7)),
ir 53 (.mv (.t 0)),
ir 54 (.ias 1 (.t 52) (.t 53)),
ir 55 (.ld 1 false (.t 54)),
ir 56 (.iaa 2 1 (.t 4) (ci 0)),
ir 57 (.ld 1 false (.t 56)),
ir 58 (.build [(.p (.i .i64 0)), (.p (.i .i64 0)), (.p (.i .i64 0)), (.p (.s [])), .nil, .nil] [(0, (1, (ci 12))), (1, (1, (.t 51))), (3, (1, (.t 55))), (2, (1, (.t 57)))]),
ir 59 (.iaa 2 1 (.t 4) (ci 1)),
ir 60 (.ld 1 false (.t 59)),
ir 61 (.build [(.p (.i .i64 0)), (.p (.i .i64 0)), (.p (.i .i64 0)), (.p (.s [])), .nil, .nil] [(0, (1, (ci 10))), (1, (1, (ci 3))), (2, (1, (.t 60)))]),
ir 62 (.call (.f 14) [(.t 58), (.t 61)]),
ir 50 (.mv (.t 62)),
ir 63 (.ext (.t 50) 0),
ir 64 (.ext (.t 50) 1),
⟨(.some 10), .none, (.new [(.p (.i .i64 0)), (.p (.b false)), (.p (.i .i64 0)), (.p (.i .i64 0)), (.p (.i .i64 0)), (.p (.i .i64 0)), (.p (.i .i64 0)), (.p (.s [])), .nil, .nil]), .ad⟩,
⟨.none, .none, (.st 10 (.t 10) (.t 63)), (.wr [])⟩,
ia 11 (.mv (.t 64))]) (.seq (.reg [
  ir 66 (.mv (.t 7)),
ir 67 (.mv (.t 0)),
ir 68 (.ias 1 (.t 66) (.t 67)),
ir 69 (.ld 1 false (.t 68)),
ir 70 (.iaa 2 1 (.t 4) (ci 0)),
ir 71 (.ld 1 false (.t 70)),
ir 72 (.build [(.p (.i .i64 0)), (.p (.i .i64 0)), (.p (.s [])), .nil] [(0, (1, (ci 7))), (1, (1, (.t 71)))]),
ir 73 (.iaa 2 1 (.t 4) (ci 1)),
ir 74 (.ld 1 false (.t 73)),
ir 75 (.build [(.p (.i .i64 0)), (.p (.i .i64 0)), (.p (.s [])), .nil] [(0, (1, (ci 7))), (1, (1, (.t 74)))]),
⟨(.some 12), .none, (.new [(.p (.i .i64 0)), (.p (.i .i64 0)), (.p (.s [])), .nil]), .ad⟩,
⟨(.some 76), .none, (.bsl 4 43 [(.p (.i .i64 0)), (.p (.i .i64 0)), (.p (.s [])), .nil] 2 [(0, (.t 72)), (1, (.t 75))]), (.cl [(0, 66), (1, 68)] [12])⟩,
ir 77 (.build [(.p (.i .i64 0)), (.p (.i .i64 0)), (.p (.s [])), .nil] [(0, (1, (ci 8))), (2, (1, (.t 69))), (3, (1, (.t 76)))]),
ir 78 (.call (.f 22) [(.t 77)]),
ir 65 (.mv (.t 78)),
ir 79 (.ext (.t 65) 0),
ir 80 (.ext (.t 65) 1),
⟨.none, .none, (.st 4 (.t 12) (.t 79)), (.wr [])⟩,
ia 13 (.mv (.t 80))]) (.seq (.seq (.reg [
  ia 81 (.mv (.t 9)),
ia 82 (.bin .neq (.t 81) (ci 0)),
ia 83 (.mv (.t 82)),
ig 84 83 false (.fad 0 (.t 8)),
ig 85 83 false (.ld 1 false (.t 84)),
ig 86 83 false (.bin .neq (.t 85) (ci 3)),
ia 87 (.pick (.t 83) (.c (.a (.p (.b true)))) (.t 86)),
ia 88 (.mv (.t 87)),
ig 89 88 false (.mv (.t 11)),
ig 90 88 false (.bin .neq (.t 89) (ci 0)),
ia 91 (.pick (.t 88) (.c (.a (.p (.b true)))) (.t 90))]) (.cond (.t 91) (.seq (.reg [
  ia 6 (.mv (.c (.a (.p (.b false)))))]) .ret) .skip)) (.seq (.seq (.reg [
  ia 92 (.mv (.t 13)),
ia 93 (.bin .eql (.t 92) (ci 4))]) (.cond (.t 93) (.seq (.reg [
  ia 94 (.fad 0 (.t 10)),
ia 95 (.ld 1 false (.t 94)),
ia 96 (.bin .eql (.t 95) (ci 5)),
ia 6 (.mv (.t 96))]) .ret) .skip)) (.seq (.reg [
  ia 97 (.fad 4 (.t 10)),
ia 98 (.ld 6 true (.t 97)),
ia 14 (.new [(.p (.i .i64 0)), (.p (.i .i64 0)), (.p (.i .i64 0)), (.p (.s [])), .nil, .nil]),
io (.st 6 (.t 14) (.t 98))]) (.seq (.reg [
  ia 99 (.fad 0 (.t 10)),
ia 100 (.ld 1 false (.t 99)),
ia 101 (.bin .eql (.t 100) (ci 4)),
ia 102 (.mv (.t 101)),
ig 103 102 true (.fad 1 (.t 14)),
ig 104 102 true (.ld 1 false (.t 103)),
ig 105 102 true (.mv (.t 2)),
ig 106 102 true (.bin .eql (.t 104) (.t 105)),
ia 107 (.pick (.t 102) (.t 106) (.c (.a (.p (.b false))))),
ia 108 (.mv (.t 107)),
ig 109 108 true (.fad 0 (.t 14)),
ig 110 108 true (.ld 1 false (.t 109)),
ig 111 108 true (.bin .eql (.t 110) (ci 10)),
ig 112 108 true (.fad 0 (.t 12)),
ig 113 108 true (.ld 1 false (.t 112)),
ig 114 108 true (.bin .eql (.t 113) (ci 7)),
ig 115 108 true (.eqb false (.t 111) (.t 114)),
ia 116 (.pick (.t 108) (.t 115) (.c (.a (.p (.b false))))),
ia 117 (.mv (.t 116)),
ig 118 117 true (.fad 2 (.t 14)),
ig 119 117 true (.ld 1 false (.t 118)),
ig 120 117 true (.fad 1 (.t 12)),
ig 121 117 true (.ld 1 false (.t 120)),
ig 122 117 true (.bin .eql (.t 119) (.t 121)),
ia 123 (.pick (.t 117) (.t 122) (.c (.a (.p (.b false))))),
ia 124 (.mv (.t 123)),
ig 125 124 true (.fad 3 (.t 14)),
ig 126 124 true (.ld 1 false (.t 125)),
ig 127 124 true (.fad 2 (.t 12)),
ig 128 124 true (.ld 1 false (.t 127)),
ig 129 124 true (.bin .eql (.t 126) (.t 128)),
ia 130 (.pick (.t 124) (.t 129) (.c (.a (.p (.b false))))),
ia 6 (.mv (.t 130))]) .ret))))))))))), [(.tmp 6)]⟩
theorem cc7 : ccF Try.prog [(58, [0, 0]), (61, [1, 0]), (75, [0, 0]), (58, [9]), (91, [8]), (93, [8]), (72, [8]), (92, [8]), (76, [8])] Try.f7 = some (stripF F7) := by kernel_rfl

/- gossamer/gossamerlaw15.ActKeeps -/
def F8 : FnC := ⟨2, (.seq (.reg [
  ia 2 (.box 2 (.t 0)),
ia 4 (.mv (.c (.a (.p (.b false)))))]) (.seq (.seq (.reg [
  ia 10 (.call (.f 23) []),
ia 11 (.not (.t 10)),
ia 12 (.mv (.t 11)),
ig 13 12 false (.ld 2 true (.t 2)),
ig 14 12 false (.call (.f 24) [(.t 13), (ci 150)]),
ig 15 12 false (.not (.t 14)),
ia 16 (.pick (.t 12) (.c (.a (.p (.b true)))) (.t 15)),
ia 17 (.mv (.t 16)),
ig 18 17 false (.ld 2 true (.t 2)),
ig 19 17 false (.call (.f 25) [(.t 18)]),
ig 20 17 false (.bin .neq (.t 19) (ci 0)),
ia 21 (.pick (.t 17) (.c (.a (.p (.b true)))) (.t 20))]) (.cond (.t 21) (.seq (.reg [
  ia 22 (.call (.f 23) []),
ia 4 (.mv (.t 22))]) .ret) .skip)) (.seq (.reg [
  ia 24 (.ld 2 true (.t 2)),
ia 25 (.mv (.t 1)),
ia 26 (.call (.f 26) [(.t 24), (.t 25)]),
ia 23 (.mv (.t 26)),
ia 27 (.ext (.t 23) 0),
ia 28 (.ext (.t 23) 1),
ia 29 (.ext (.t 23) 2),
ia 5 (.new [.nil, (.p (.i .i64 0))]),
ia 6 (.new [(.p (.i .i64 0)), (.p (.b false)), (.p (.i .i64 0)), (.p (.i .i64 0)), (.p (.i .i64 0)), (.p (.i .i64 0)), (.p (.i .i64 0)), (.p (.s [])), .nil, .nil]),
io (.st 2 (.t 5) (.t 27)),
io (.st 10 (.t 6) (.t 28)),
ia 7 (.mv (.t 29))]) (.seq (.seq (.reg [
  ia 30 (.mv (.t 7)),
ia 31 (.bin .neq (.t 30) (ci 0))]) (.cond (.t 31) (.seq (.reg [
  ia 32 (.ld 2 true (.t 5)),
ia 33 (.ld 2 true (.t 2)),
ia 34 (.call (.f 27) [(.t 32), (.t 33)]),
ia 35 (.mv (.t 34)),
ig 36 35 true (.ld 10 true (.t 6)),
ig 37 35 true (.build [(.p (.i .i64 0)), (.p (.b false)), (.p (.i .i64 0)), (.p (.i .i64 0)), (.p (.i .i64 0)), (.p (.i .i64 0)), (.p (.i .i64 0)), (.p (.s [])), .nil, .nil] []),
ig 38 35 true (.call (.f 15) [(.t 36), (.t 37)]),
ia 39 (.pick (.t 35) (.t 38) (.c (.a (.p (.b false))))),
ia 40 (.mv (.t 39)),
ig 41 40 true (.mv (.t 7)),
ig 42 40 true (.bin .neq (.t 41) (ci 120)),
ia 43 (.pick (.t 40) (.t 42) (.c (.a (.p (.b false))))),
ia 4 (.mv (.t 43))]) .ret) .skip)) (.seq (.reg [
  ia 44 (.ld 2 true (.t 2)),
ia 45 (.mv (.t 1)),
ia 46 (.call (.f 28) [(.t 44), (.t 45)]),
ia 8 (.mv (.t 46))]) (.seq (.reg [
  ir 47 (.ld 10 true (.t 6)),
ir 48 (.fad 0 (.t 2)),
ir 49 (.ld 1 false (.t 48)),
ir 50 (.mv (.t 1)),
ir 51 (.ias 6 (.t 49) (.t 50)),
ir 52 (.ld 6 true (.t 51)),
ir 53 (.fad 0 (.t 2)),
ir 54 (.ld 1 false (.t 53)),
ir 55 (.mv (.t 8)),
ir 56 (.ias 6 (.t 54) (.t 55)),
ir 57 (.ld 6 true (.t 56)),
ia 58 (.call (.f 29) [(.t 47), (.t 52), (.t 57)]),
ia 9 (.mv (.t 58))]) (.seq (.reg [
  ia 59 (.ld 2 true (.t 5)),
ia 60 (.call (.f 25) [(.t 59)]),
ia 61 (.bin .eql (.t 60) (ci 0)),
ia 62 (.mv (.t 61)),
ih 63 62 true (.ld 2 true (.t 5)),
ih 64 62 true (.call (.f 30) [(.t 63)]),
ih 65 62 true (.ld 2 true (.t 2)),
ih 66 62 true (.call (.f 30) [(.t 65)]),
ih 67 62 true (.bin .sub (.t 66) (ci 2)),
ih 68 62 true (.mv (.t 9)),
ig 69 62 true (.bin .add (.t 67) (.t 68)),
ig 70 62 true (.bin .eql (.t 64) (.t 69)),
ia 71 (.pick (.t 62) (.t 70) (.c (.a (.p (.b false))))),
ia 72 (.mv (.t 71)),
ih 73 72 true (.fad 1 (.t 5)),
ih 74 72 true (.ld 1 false (.t 73)),
ih 75 72 true (.fad 1 (.t 2)),
ih 76 72 true (.ld 1 false (.t 75)),
ig 77 72 true (.bin .eql (.t 74) (.t 76)),
ia 78 (.pick (.t 72) (.t 77) (.c (.a (.p (.b false))))),
ia 79 (.mv (.t 78)),
ih 80 79 true (.ld 2 true (.t 2)),
ih 81 79 true (.call (.f 30) [(.t 80)]),
ih 82 79 true (.mv (.t 9)),
ih 83 79 true (.bin .add (.t 81) (.t 82)),
ih 84 79 true (.fad 1 (.t 2)),
ih 85 79 true (.ld 1 false (.t 84)),
ig 86 79 true (.bin .leq (.t 83) (.t 85)),
ia 87 (.pick (.t 79) (.t 86) (.c (.a (.p (.b false))))),
ia 4 (.mv (.t 87))]) .ret))))))), [(.tmp 4)]⟩
theorem cc8 : ccF Try.prog [(58, [0, 0]), (61, [1, 0]), (75, [0, 0]), (58, [9]), (91, [8]), (93, [8]), (72, [8]), (92, [8]), (76, [8])] Try.f8 = some (stripF F8) := by kernel_rfl

/- gossamer/gossamerlaw15.ActTurns -/
def F9 : FnC := ⟨2, (.seq (.reg [
  ia 2 (.box 2 (.t 0)),
ia 4 (.mv (.c (.a (.p (.b false)))))]) (.seq (.seq (.reg [
  ia 15 (.call (.f 23) []),
ia 16 (.not (.t 15)),
ia 17 (.mv (.t 16)),
ig 18 17 false (.ld 2 true (.t 2)),
ig 19 17 false (.call (.f 24) [(.t 18), (ci 150)]),
ig 20 17 false (.not (.t 19)),
ia 21 (.pick (.t 17) (.c (.a (.p (.b true)))) (.t 20)),
ia 22 (.mv (.t 21)),
ig 23 22 false (.ld 2 true (.t 2)),
ig 24 22 false (.call (.f 25) [(.t 23)]),
ig 25 22 false (.bin .neq (.t 24) (ci 0)),
ia 26 (.pick (.t 22) (.c (.a (.p (.b true)))) (.t 25))]) (.cond (.t 26) (.seq (.reg [
  ia 27 (.call (.f 23) []),
ia 4 (.mv (.t 27))]) .ret) .skip)) (.seq (.reg [
  ia 28 (.ld 2 true (.t 2)),
ia 29 (.mv (.t 1)),
ia 30 (.call (.f 28) [(.t 28), (.t 29)]),
ia 5 (.mv (.t 30))]) (.seq (.seq (.reg [
  ia 31 (.mv (.t 5)),
ia 32 (.bin .lss (.t 31) (ci 0))]) (.cond (.t 32) (.seq (.reg [
  ia 34 (.ld 2 true (.t 2)),
ia 35 (.mv (.t 1)),
ia 36 (.call (.f 26) [(.t 34), (.t 35)]),
ia 33 (.mv (.t 36)),
ia 37 (.ext (.t 33) 0),
ia 38 (.ext (.t 33) 1),
ia 39 (.ext (.t 33) 2),
ia 6 (.new [.nil, (.p (.i .i64 0))]),
ia 7 (.new [(.p (.i .i64 0)), (.p (.b false)), (.p (.i .i64 0)), (.p (.i .i64 0)), (.p (.i .i64 0)), (.p (.i .i64 0)), (.p (.i .i64 0)), (.p (.s [])), .nil, .nil]),
io (.st 2 (.t 6) (.t 37)),
io (.st 10 (.t 7) (.t 38)),
ia 8 (.mv (.t 39))]) (.seq (.reg [
  ia 40 (.mv (.t 8)),
ia 41 (.bin .eql (.t 40) (ci 122)),
ia 4 (.mv (.t 41))]) .ret)) .skip)) (.seq (.reg [
  ia 43 (.ld 2 true (.t 2)),
ia 44 (.mv (.t 1)),
ia 45 (.call (.f 26) [(.t 43), (.t 44)]),
ia 42 (.mv (.t 45)),
ia 46 (.ext (.t 42) 0),
ia 47 (.ext (.t 42) 1),
ia 48 (.ext (.t 42) 2),
ia 9 (.new [.nil, (.p (.i .i64 0))]),
ia 10 (.new [(.p (.i .i64 0)), (.p (.b false)), (.p (.i .i64 0)), (.p (.i .i64 0)), (.p (.i .i64 0)), (.p (.i .i64 0)), (.p (.i .i64 0)), (.p (.s [])), .nil, .nil]),
io (.st 2 (.t 9) (.t 46)),
io (.st 10 (.t 10) (.t 47)),
ia 11 (.mv (.t 48))]) (.seq (.reg [
  ia 50 (.ld 2 true (.t 2)),
ia 51 (.mv (.t 5)),
ia 52 (.call (.f 26) [(.t 50), (.t 51)]),
ia 49 (.mv (.t 52)),
ia 53 (.ext (.t 49) 0),
ia 54 (.ext (.t 49) 1),
ia 55 (.ext (.t 49) 2),
ia 12 (.new [.nil, (.p (.i .i64 0))]),
ia 13 (.new [(.p (.i .i64 0)), (.p (.b false)), (.p (.i .i64 0)), (.p (.i .i64 0)), (.p (.i .i64 0)), (.p (.i .i64 0)), (.p (.i .i64 0)), (.p (.s [])), .nil, .nil]),
io (.st 2 (.t 12) (.t 53)),
io (.st 10 (.t 13) (.t 54)),
ia 14 (.mv (.t 55))]) (.seq (.seq (.reg [
  ia 56 (.mv (.t 11)),
ia 57 (.mv (.t 14)),
ia 58 (.bin .neq (.t 56) (.t 57)),
ia 59 (.mv (.t 58)),
ig 60 59 false (.fad 0 (.t 10)),
ig 61 59 false (.ld 1 false (.t 60)),
ig 62 59 false (.fad 0 (.t 13)),
ig 63 59 false (.ld 1 false (.t 62)),
ig 64 59 false (.bin .neq (.t 61) (.t 63)),
ia 65 (.pick (.t 59) (.c (.a (.p (.b true)))) (.t 64)),
ia 66 (.mv (.t 65)),
ig 67 66 false (.fad 2 (.t 10)),
ig 68 66 false (.ld 1 false (.t 67)),
ig 69 66 false (.fad 2 (.t 13)),
ig 70 66 false (.ld 1 false (.t 69)),
ig 71 66 false (.bin .neq (.t 68) (.t 70)),
ia 72 (.pick (.t 66) (.c (.a (.p (.b true)))) (.t 71)),
ia 73 (.mv (.t 72)),
ig 74 73 false (.fad 3 (.t 10)),
ig 75 73 false (.ld 1 false (.t 74)),
ig 76 73 false (.fad 3 (.t 13)),
ig 77 73 false (.ld 1 false (.t 76)),
ig 78 73 false (.bin .neq (.t 75) (.t 77)),
ia 79 (.pick (.t 73) (.c (.a (.p (.b true)))) (.t 78))]) (.cond (.t 79) (.seq (.reg [
  ia 4 (.mv (.c (.a (.p (.b false)))))]) .ret) .skip)) (.seq (.reg [
  ir 80 (.fad 0 (.t 2)),
ir 81 (.ld 1 false (.t 80)),
ir 82 (.mv (.t 1)),
ir 83 (.ias 6 (.t 81) (.t 82)),
ir 84 (.fad 0 (.t 83)),
ir 85 (.ld 1 false (.t 84)),
ir 86 (.fad 0 (.t 2)),
ir 87 (.ld 1 false (.t 86)),
ir 88 (.mv (.t 5)),
ir 89 (.ias 6 (.t 87) (.t 88)),
ir 90 (.fad 0 (.t 89)),
ir 91 (.ld 1 false (.t 90)),
ia 92 (.bin .eql (.t 85) (.t 91)),
ia 93 (.mv (.t 92)),
ih 94 93 false (.ld 2 true (.t 9)),
ih 95 93 false (.ld 2 true (.t 12)),
ig 96 93 false (.call (.f 27) [(.t 94), (.t 95)]),
ia 97 (.pick (.t 93) (.c (.a (.p (.b true)))) (.t 96)),
ia 4 (.mv (.t 97))]) .ret)))))))), [(.tmp 4)]⟩
theorem cc9 : ccF Try.prog [(58, [0, 0]), (61, [1, 0]), (75, [0, 0]), (58, [9]), (91, [8]), (93, [8]), (72, [8]), (92, [8]), (76, [8])] Try.f9 = some (stripF F9) := by kernel_rfl

/- gossamer/gossamerlaw15.ActElse -/
def F10b1 : C := (.seq (.seq (.reg [
  ia 61 (.mv (.t 11)),
ia 62 (.fad 0 (.t 2)),
ia 63 (.ld 1 false (.t 62)),
ia 64 (.mv (.t 9)),
ia 65 (.ias 6 (.t 63) (.t 64)),
ia 66 (.fad 5 (.t 65)),
ia 67 (.ld 1 false (.t 66)),
ia 68 (.len false (.t 67)),
ia 69 (.bin .lss (.t 61) (.t 68))]) (.cond (.t 69) .skip (.exit 2))) (.seq (.block 3 (.reg [
  ia 72 (.mv (.t 10)),
ia 73 (.mv (.t 72)),
ig 74 73 false (.fad 0 (.t 2)),
ig 75 73 false (.ld 1 false (.t 74)),
ig 76 73 false (.mv (.t 9)),
ig 77 73 false (.ias 6 (.t 75) (.t 76)),
ig 78 73 false (.fad 5 (.t 77)),
ig 79 73 false (.ld 1 false (.t 78)),
ig 80 73 false (.mv (.t 11)),
ig 81 73 false (.ias 2 (.t 79) (.t 80)),
ig 82 73 false (.fad 0 (.t 81)),
ig 83 73 false (.ld 1 false (.t 82)),
ig 84 73 false (.mv (.t 1)),
ig 85 73 false (.bin .eql (.t 83) (.t 84)),
ia 86 (.pick (.t 73) (.c (.a (.p (.b true)))) (.t 85)),
ia 87 (.mv (.t 86)),
ig 88 87 false (.fad 0 (.t 2)),
ig 89 87 false (.ld 1 false (.t 88)),
ig 90 87 false (.mv (.t 9)),
ig 91 87 false (.ias 6 (.t 89) (.t 90)),
ig 92 87 false (.fad 5 (.t 91)),
ig 93 87 false (.ld 1 false (.t 92)),
ig 94 87 false (.mv (.t 11)),
ig 95 87 false (.ias 2 (.t 93) (.t 94)),
ig 96 87 false (.fad 0 (.t 95)),
ig 97 87 false (.ld 1 false (.t 96)),
ig 98 87 false (.mv (.t 8)),
ig 99 87 false (.bin .eql (.t 97) (.t 98)),
ia 100 (.pick (.t 87) (.c (.a (.p (.b true)))) (.t 99)),
ia 10 (.mv (.t 100))])) (.reg [
  ia 70 (.mv (.t 11)),
ia 71 (.bin .add (.t 70) (ci 1)),
ia 11 (.mv (.t 71))])))
def F10b0 : C := (.seq (.seq (.reg [
  ia 37 (.mv (.t 9)),
ia 38 (.fad 0 (.t 2)),
ia 39 (.ld 1 false (.t 38)),
ia 40 (.len false (.t 39)),
ia 41 (.bin .lss (.t 37) (.t 40))]) (.cond (.t 41) .skip (.exit 0))) (.seq (.block 1 (.seq (.seq (.reg [
  ia 44 (.mv (.t 9)),
ia 45 (.mv (.t 1)),
ia 46 (.bin .eql (.t 44) (.t 45)),
ia 47 (.mv (.t 46)),
ig 48 47 false (.mv (.t 9)),
ig 49 47 false (.mv (.t 8)),
ig 50 47 false (.bin .eql (.t 48) (.t 49)),
ia 51 (.pick (.t 47) (.c (.a (.p (.b true)))) (.t 50)),
ia 52 (.mv (.t 51)),
ig 53 52 false (.fad 0 (.t 2)),
ig 54 52 false (.ld 1 false (.t 53)),
ig 55 52 false (.mv (.t 9)),
ig 56 52 false (.ias 6 (.t 54) (.t 55)),
ig 57 52 false (.fad 0 (.t 56)),
ig 58 52 false (.ld 1 false (.t 57)),
ig 59 52 false (.bin .eql (.t 58) (ci 0)),
ia 60 (.pick (.t 52) (.c (.a (.p (.b true)))) (.t 59))]) (.cond (.t 60) (.exit 1) .skip)) (.seq (.reg [
  ia 10 (.mv (.c (.a (.p (.b false)))))]) (.seq (.seq (.reg [
  ia 11 (.mv (ci 0))]) (.block 2 (.loop F10b1))) (.seq (.reg [
  ir 101 (.mv (.t 9)),
ir 102 (.fad 0 (.t 5)),
ir 103 (.ld 1 false (.t 102)),
ir 104 (.len false (.t 103)),
ia 105 (.bin .geq (.t 101) (.t 104)),
ia 106 (.mv (.t 105)),
ih 107 106 false (.fad 0 (.t 5)),
ih 108 106 false (.ld 1 false (.t 107)),
ih 109 106 false (.mv (.t 9)),
ih 110 106 false (.ias 6 (.t 108) (.t 109)),
ih 111 106 false (.fad 0 (.t 110)),
ih 112 106 false (.ld 1 false (.t 111)),
ih 113 106 false (.fad 0 (.t 2)),
ih 114 106 false (.ld 1 false (.t 113)),
ih 115 106 false (.mv (.t 9)),
ih 116 106 false (.ias 6 (.t 114) (.t 115)),
ih 117 106 false (.fad 0 (.t 116)),
ih 118 106 false (.ld 1 false (.t 117)),
ig 119 106 false (.bin .neq (.t 112) (.t 118)),
ia 120 (.pick (.t 106) (.c (.a (.p (.b true)))) (.t 119)),
ia 121 (.mv (.t 120)),
ig 122 121 false (.mv (.t 10)),
ig 123 121 false (.not (.t 122)),
ig 124 121 false (.mv (.t 123)),
ih 125 124 true (.fad 0 (.t 5)),
ih 126 124 true (.ld 1 false (.t 125)),
ih 127 124 true (.mv (.t 9)),
ih 128 124 true (.ias 6 (.t 126) (.t 127)),
ih 129 124 true (.ld 6 true (.t 128)),
ih 130 124 true (.fad 0 (.t 2)),
ih 131 124 true (.ld 1 false (.t 130)),
ih 132 124 true (.mv (.t 9)),
ih 133 124 true (.ias 6 (.t 131) (.t 132)),
ih 134 124 true (.ld 6 true (.t 133)),
ig 135 124 true (.call (.f 31) [(.t 129), (.t 134)]),
ig 136 124 true (.not (.t 135)),
ig 137 121 false (.pick (.t 124) (.t 136) (.c (.a (.p (.b false))))),
ia 138 (.pick (.t 121) (.c (.a (.p (.b true)))) (.t 137))]) (.cond (.t 138) (.seq (.reg [
  ia 4 (.mv (.c (.a (.p (.b false)))))]) .ret) .skip)))))) (.reg [
  ia 42 (.mv (.t 9)),
ia 43 (.bin .add (.t 42) (ci 1)),
ia 9 (.mv (.t 43))])))
def F10 : FnC := ⟨2, (.seq (.reg [
  ia 2 (.box 2 (.t 0)),
ia 4 (.mv (.c (.a (.p (.b false)))))]) (.seq (.seq (.reg [
  ia 12 (.call (.f 23) []),
ia 13 (.not (.t 12)),
ia 14 (.mv (.t 13)),
ig 15 14 false (.ld 2 true (.t 2)),
ig 16 14 false (.call (.f 24) [(.t 15), (ci 150)]),
ig 17 14 false (.not (.t 16)),
ia 18 (.pick (.t 14) (.c (.a (.p (.b true)))) (.t 17)),
ia 19 (.mv (.t 18)),
ig 20 19 false (.ld 2 true (.t 2)),
ig 21 19 false (.call (.f 25) [(.t 20)]),
ig 22 19 false (.bin .neq (.t 21) (ci 0)),
ia 23 (.pick (.t 19) (.c (.a (.p (.b true)))) (.t 22))]) (.cond (.t 23) (.seq (.reg [
  ia 24 (.call (.f 23) []),
ia 4 (.mv (.t 24))]) .ret) .skip)) (.seq (.reg [
  ia 26 (.ld 2 true (.t 2)),
ia 27 (.mv (.t 1)),
ia 28 (.call (.f 26) [(.t 26), (.t 27)]),
ia 25 (.mv (.t 28)),
ia 29 (.ext (.t 25) 0),
ia 30 (.ext (.t 25) 1),
ia 31 (.ext (.t 25) 2),
ia 5 (.new [.nil, (.p (.i .i64 0))]),
ia 6 (.new [(.p (.i .i64 0)), (.p (.b false)), (.p (.i .i64 0)), (.p (.i .i64 0)), (.p (.i .i64 0)), (.p (.i .i64 0)), (.p (.i .i64 0)), (.p (.s [])), .nil, .nil]),
io (.st 2 (.t 5) (.t 29)),
io (.st 10 (.t 6) (.t 30)),
ia 7 (.mv (.t 31))]) (.seq (.seq (.reg [
  ia 32 (.mv (.t 7)),
ia 33 (.bin .neq (.t 32) (ci 0))]) (.cond (.t 33) (.seq (.reg [
  ia 4 (.mv (.c (.a (.p (.b true)))))]) .ret) .skip)) (.seq (.reg [
  ia 34 (.ld 2 true (.t 2)),
ia 35 (.mv (.t 1)),
ia 36 (.call (.f 28) [(.t 34), (.t 35)]),
ia 8 (.mv (.t 36))]) (.seq (.seq (.reg [
  ia 9 (.mv (ci 0))]) (.block 0 (.loop F10b0))) (.seq (.reg [
  ia 4 (.mv (.c (.a (.p (.b true)))))]) .ret))))))), [(.tmp 4)]⟩
theorem cc10 : ccF Try.prog [(58, [0, 0]), (61, [1, 0]), (75, [0, 0]), (58, [9]), (91, [8]), (93, [8]), (72, [8]), (92, [8]), (76, [8])] Try.f10 = some (stripF F10) := by kernel_rfl

/- gossamer/gossamerlaw14.fixed -/
def F11 : FnC := ⟨0, (.seq (.reg [
  ia 0 (.mv (.c (.a (.p (.b false)))))]) (.seq (.reg [
  ia 30 (.call (.f 32) [(ci 3), (ci 2), (ci 2), (ci 2)]),
ia 29 (.mv (.t 30)),
ia 31 (.ext (.t 29) 0),
ia 32 (.ext (.t 29) 1),
ia 1 (.new [(.p (.i .i64 0)), (.p (.b false)), (.p (.i .i64 0)), (.p (.i .i64 0)), (.p (.i .i64 0)), (.p (.i .i64 0)), (.p (.i .i64 0)), (.p (.s [])), .nil, .nil]),
io (.st 10 (.t 1) (.t 31)),
ia 2 (.mv (.t 32))]) (.fz [1] (.seq (.reg [
  ia 34 (.call (.f 32) [(ci 3), (ci 2), (ci 2), (ci 1)]),
ia 33 (.mv (.t 34)),
ia 35 (.ext (.t 33) 0),
ia 36 (.ext (.t 33) 1),
ia 3 (.new [(.p (.i .i64 0)), (.p (.b false)), (.p (.i .i64 0)), (.p (.i .i64 0)), (.p (.i .i64 0)), (.p (.i .i64 0)), (.p (.i .i64 0)), (.p (.s [])), .nil, .nil]),
io (.st 10 (.t 3) (.t 35)),
ia 4 (.mv (.t 36))]) (.fz [1, 3] (.seq (.reg [
  ia 38 (.call (.f 32) [(ci 2), (ci 3), (ci 5), (ci 1)]),
ia 37 (.mv (.t 38)),
ia 39 (.ext (.t 37) 0),
ia 40 (.ext (.t 37) 1),
ia 5 (.new [(.p (.i .i64 0)), (.p (.b false)), (.p (.i .i64 0)), (.p (.i .i64 0)), (.p (.i .i64 0)), (.p (.i .i64 0)), (.p (.i .i64 0)), (.p (.s [])), .nil, .nil]),
io (.st 10 (.t 5) (.t 39)),
ia 6 (.mv (.t 40))]) (.fz [1, 3, 5] (.seq (.reg [
  ia 42 (.call (.f 32) [(ci 6), (ci 1), (ci 2), (ci 60)]),
ia 41 (.mv (.t 42)),
ia 43 (.ext (.t 41) 0),
ia 44 (.ext (.t 41) 1),
ia 7 (.new [(.p (.i .i64 0)), (.p (.b false)), (.p (.i .i64 0)), (.p (.i .i64 0)), (.p (.i .i64 0)), (.p (.i .i64 0)), (.p (.i .i64 0)), (.p (.s [])), .nil, .nil]),
io (.st 10 (.t 7) (.t 43)),
ia 8 (.mv (.t 44))]) (.fz [1, 3, 5, 7] (.seq (.reg [
  ia 46 (.call (.f 32) [(ci 4), (ci 4), (ci 4), (ci 4)]),
ia 45 (.mv (.t 46)),
ia 47 (.ext (.t 45) 0),
ia 48 (.ext (.t 45) 1),
ia 9 (.new [(.p (.i .i64 0)), (.p (.b false)), (.p (.i .i64 0)), (.p (.i .i64 0)), (.p (.i .i64 0)), (.p (.i .i64 0)), (.p (.i .i64 0)), (.p (.s [])), .nil, .nil]),
io (.st 10 (.t 9) (.t 47)),
ia 10 (.mv (.t 48))]) (.fz [1, 3, 5, 7, 9] (.seq (.reg [
  ia 50 (.call (.f 32) [(ci 4), (ci 4), (ci 6), (ci 2)]),
ia 49 (.mv (.t 50)),
ia 51 (.ext (.t 49) 0),
ia 52 (.ext (.t 49) 1),
ia 11 (.new [(.p (.i .i64 0)), (.p (.b false)), (.p (.i .i64 0)), (.p (.i .i64 0)), (.p (.i .i64 0)), (.p (.i .i64 0)), (.p (.i .i64 0)), (.p (.s [])), .nil, .nil]),
io (.st 10 (.t 11) (.t 51)),
ia 12 (.mv (.t 52))]) (.fz [1, 3, 5, 7, 9, 11] (.seq (.reg [
  ia 54 (.call (.f 32) [(ci 4), (ci 4), (ci 6), (ci 4)]),
ia 53 (.mv (.t 54)),
ia 55 (.ext (.t 53) 0),
ia 56 (.ext (.t 53) 1),
ia 13 (.new [(.p (.i .i64 0)), (.p (.b false)), (.p (.i .i64 0)), (.p (.i .i64 0)), (.p (.i .i64 0)), (.p (.i .i64 0)), (.p (.i .i64 0)), (.p (.s [])), .nil, .nil]),
io (.st 10 (.t 13) (.t 55)),
ia 14 (.mv (.t 56))]) (.fz [1, 3, 5, 7, 9, 11, 13] (.seq (.reg [
  ia 58 (.call (.f 32) [(ci 10), (ci 0), (ci 7), (ci 9)]),
ia 57 (.mv (.t 58)),
ia 59 (.ext (.t 57) 0),
ia 60 (.ext (.t 57) 1),
ia 15 (.new [(.p (.i .i64 0)), (.p (.b false)), (.p (.i .i64 0)), (.p (.i .i64 0)), (.p (.i .i64 0)), (.p (.i .i64 0)), (.p (.i .i64 0)), (.p (.s [])), .nil, .nil]),
io (.st 10 (.t 15) (.t 59)),
ia 16 (.mv (.t 60))]) (.fz [1, 3, 5, 7, 9, 11, 13, 15] (.seq (.reg [
  ia 62 (.build [(.p (.i .i64 0)), (.p (.i .i64 0)), (.p (.i .i64 0)), (.p (.s [])), .nil, .nil] [(0, (1, (ci 12))), (1, (1, (ci 1))), (3, (1, (.c (.a (.p (.s [45])))))), (2, (1, (ci 5)))]),
ia 63 (.build [(.p (.i .i64 0)), (.p (.i .i64 0)), (.p (.i .i64 0)), (.p (.s [])), .nil, .nil] [(0, (1, (ci 10))), (2, (1, (ci 7)))]),
ia 64 (.call (.f 14) [(.t 62), (.t 63)]),
ia 61 (.mv (.t 64)),
ia 65 (.ext (.t 61) 0),
ia 66 (.ext (.t 61) 1),
ia 17 (.new [(.p (.i .i64 0)), (.p (.b false)), (.p (.i .i64 0)), (.p (.i .i64 0)), (.p (.i .i64 0)), (.p (.i .i64 0)), (.p (.i .i64 0)), (.p (.s [])), .nil, .nil]),
io (.st 10 (.t 17) (.t 65)),
ia 18 (.mv (.t 66))]) (.fz [1, 3, 5, 7, 9, 11, 13, 15, 17] (.seq (.reg [
  ia 68 (.build [(.p (.i .i64 0)), (.p (.i .i64 0)), (.p (.i .i64 0)), (.p (.s [])), .nil, .nil] [(0, (1, (ci 12))), (3, (1, (.c (.a (.p (.s [47])))))), (2, (1, (ci 5)))]),
ia 69 (.build [(.p (.i .i64 0)), (.p (.i .i64 0)), (.p (.i .i64 0)), (.p (.s [])), .nil, .nil] [(0, (1, (ci 10)))]),
ia 70 (.call (.f 14) [(.t 68), (.t 69)]),
ia 67 (.mv (.t 70)),
ia 71 (.ext (.t 67) 0),
ia 72 (.ext (.t 67) 1),
ia 19 (.new [(.p (.i .i64 0)), (.p (.b false)), (.p (.i .i64 0)), (.p (.i .i64 0)), (.p (.i .i64 0)), (.p (.i .i64 0)), (.p (.i .i64 0)), (.p (.s [])), .nil, .nil]),
io (.st 10 (.t 19) (.t 71)),
ia 20 (.mv (.t 72))]) (.fz [1, 3, 5, 7, 9, 11, 13, 15, 17, 19] (.seq (.reg [
  ia 73 (.build [(.p (.s [])), (.p (.i .i64 0))] [(0, (1, (.c (.a (.p (.s [65]))))))]),
ia 74 (.build [(.p (.s [])), (.p (.i .i64 0))] [(0, (1, (.c (.a (.p (.s [66])))))), (1, (1, (ci 2)))]),
ia 75 (.bsl 2 61 [(.p (.s [])), (.p (.i .i64 0))] 2 [(0, (.t 73)), (1, (.t 74))]),
ia 76 (.build [(.p (.i .i64 0)), (.p (.i .i64 0)), (.p (.i .i64 0)), (.p (.s [])), .nil, .nil] [(0, (1, (ci 9))), (4, (1, (.t 75)))]),
ia 21 (.new [(.p (.i .i64 0)), (.p (.i .i64 0)), (.p (.i .i64 0)), (.p (.s [])), .nil, .nil]),
io (.st 6 (.t 21) (.t 76))]) (.fz [1, 3, 5, 7, 9, 11, 13, 15, 17, 19, 21] (.seq (.reg [
  ia 77 (.mslF 2 58 16 [(.p (.i .i64 0)), (.p (.i .i64 0))] (ci 3) (ci 3)),
ia 78 (.build [(.p (.i .i64 0)), (.p (.i .i64 0)), (.p (.i .i64 0)), (.p (.s [])), .nil, .nil] [(0, (1, (ci 8))), (3, (1, (.c (.a (.p (.s [66])))))), (5, (1, (.t 77)))]),
ia 22 (.new [(.p (.i .i64 0)), (.p (.i .i64 0)), (.p (.i .i64 0)), (.p (.s [])), .nil, .nil]),
io (.st 6 (.t 22) (.t 78))]) (.fz [1, 3, 5, 7, 9, 11, 13, 15, 17, 19, 21, 22] (.seq (.reg [
  ia 80 (.ld 6 true (.t 22)),
ia 81 (.ld 6 true (.t 21)),
ia 82 (.call (.f 14) [(.t 80), (.t 81)]),
ia 79 (.mv (.t 82)),
ia 83 (.ext (.t 79) 0),
ia 84 (.ext (.t 79) 1),
ia 23 (.new [(.p (.i .i64 0)), (.p (.b false)), (.p (.i .i64 0)), (.p (.i .i64 0)), (.p (.i .i64 0)), (.p (.i .i64 0)), (.p (.i .i64 0)), (.p (.s [])), .nil, .nil]),
io (.st 10 (.t 23) (.t 83)),
ia 24 (.mv (.t 84))]) (.fz [1, 3, 5, 7, 9, 11, 13, 15, 17, 19, 21, 22, 23] (.seq (.reg [
  ia 86 (.call (.f 32) [(ci 1), (ci 0), (ci 10), (ci 0)]),
ia 85 (.mv (.t 86)),
ia 87 (.ext (.t 85) 0),
ia 88 (.ext (.t 85) 1),
ia 25 (.new [(.p (.i .i64 0)), (.p (.b false)), (.p (.i .i64 0)), (.p (.i .i64 0)), (.p (.i .i64 0)), (.p (.i .i64 0)), (.p (.i .i64 0)), (.p (.s [])), .nil, .nil]),
io (.st 10 (.t 25) (.t 87)),
ia 26 (.mv (.t 88))]) (.fz [1, 3, 5, 7, 9, 11, 13, 15, 17, 19, 21, 22, 23, 25] (.seq (.reg [
  ia 90 (.call (.f 32) [(ci 2), (ci 0), (ci 10), (ci 0)]),
ia 89 (.mv (.t 90)),
ia 91 (.ext (.t 89) 0),
ia 92 (.ext (.t 89) 1),
ia 27 (.new [(.p (.i .i64 0)), (.p (.b false)), (.p (.i .i64 0)), (.p (.i .i64 0)), (.p (.i .i64 0)), (.p (.i .i64 0)), (.p (.i .i64 0)), (.p (.s [])), .nil, .nil]),
io (.st 10 (.t 27) (.t 91)),
ia 28 (.mv (.t 92))]) (.fz [1, 3, 5, 7, 9, 11, 13, 15, 17, 19, 21, 22, 23, 25, 27] (.seq (.seq (.reg [
  ia 93 (.fad 0 (.t 1)),
ia 94 (.ld 1 false (.t 93)),
ia 95 (.bin .neq (.t 94) (ci 1)),
ia 96 (.mv (.t 95)),
ig 97 96 false (.mv (.t 2)),
ig 98 96 false (.bin .neq (.t 97) (ci 0)),
ia 99 (.pick (.t 96) (.c (.a (.p (.b true)))) (.t 98)),
ia 100 (.mv (.t 99)),
ig 101 100 false (.mv (.t 4)),
ig 102 100 false (.bin .neq (.t 101) (ci 140)),
ia 103 (.pick (.t 100) (.c (.a (.p (.b true)))) (.t 102)),
ia 104 (.mv (.t 103)),
ig 105 104 false (.fad 0 (.t 5)),
ig 106 104 false (.ld 1 false (.t 105)),
ig 107 104 false (.bin .neq (.t 106) (ci 7)),
ia 108 (.pick (.t 104) (.c (.a (.p (.b true)))) (.t 107)),
ia 109 (.mv (.t 108)),
ig 110 109 false (.fad 2 (.t 5)),
ig 111 109 false (.ld 1 false (.t 110)),
ig 112 109 false (.bin .neq (.t 111) (ci 2)),
ia 113 (.pick (.t 109) (.c (.a (.p (.b true)))) (.t 112)),
ia 114 (.mv (.t 113)),
ig 115 114 false (.fad 1 (.t 5)),
ig 116 114 false (.ld 1 false (.t 115)),
ig 117 114 false (.not (.t 116)),
ia 118 (.pick (.t 114) (.c (.a (.p (.b true)))) (.t 117)),
ia 119 (.mv (.t 118)),
ig 120 119 false (.mv (.t 6)),
ig 121 119 false (.bin .neq (.t 120) (ci 0)),
ia 122 (.pick (.t 119) (.c (.a (.p (.b true)))) (.t 121)),
ia 123 (.mv (.t 122)),
ig 124 123 false (.fad 0 (.t 7)),
ig 125 123 false (.ld 1 false (.t 124)),
ig 126 123 false (.bin .neq (.t 125) (ci 0)),
ia 127 (.pick (.t 123) (.c (.a (.p (.b true)))) (.t 126)),
ia 128 (.mv (.t 127)),
ig 129 128 false (.mv (.t 8)),
ig 130 128 false (.bin .neq (.t 129) (ci 141)),
ia 131 (.pick (.t 128) (.c (.a (.p (.b true)))) (.t 130))]) (.cond (.t 131) (.seq (.reg [
  ia 0 (.mv (.c (.a (.p (.b false)))))]) .ret) .skip)) (.fz [1, 3, 5, 7, 9, 11, 13, 15, 17, 19, 21, 22, 23, 25, 27] (.seq (.seq (.reg [
  ia 132 (.fad 0 (.t 9)),
ia 133 (.ld 1 false (.t 132)),
ia 134 (.bin .neq (.t 133) (ci 6)),
ia 135 (.mv (.t 134)),
ig 136 135 false (.mv (.t 10)),
ig 137 135 false (.bin .neq (.t 136) (ci 0)),
ia 138 (.pick (.t 135) (.c (.a (.p (.b true)))) (.t 137)),
ia 139 (.mv (.t 138)),
ig 140 139 false (.fad 0 (.t 11)),
ig 141 139 false (.ld 1 false (.t 140)),
ig 142 139 false (.bin .neq (.t 141) (ci 7)),
ia 143 (.pick (.t 139) (.c (.a (.p (.b true)))) (.t 142)),
ia 144 (.mv (.t 143)),
ig 145 144 false (.fad 2 (.t 11)),
ig 146 144 false (.ld 1 false (.t 145)),
ig 147 144 false (.bin .neq (.t 146) (ci 5)),
ia 148 (.pick (.t 144) (.c (.a (.p (.b true)))) (.t 147)),
ia 149 (.mv (.t 148)),
ig 150 149 false (.fad 1 (.t 11)),
ig 151 149 false (.ld 1 false (.t 150)),
ig 152 149 false (.not (.t 151)),
ia 153 (.pick (.t 149) (.c (.a (.p (.b true)))) (.t 152)),
ia 154 (.mv (.t 153)),
ig 155 154 false (.mv (.t 12)),
ig 156 154 false (.bin .neq (.t 155) (ci 0)),
ia 157 (.pick (.t 154) (.c (.a (.p (.b true)))) (.t 156)),
ia 158 (.mv (.t 157)),
ig 159 158 false (.mv (.t 14)),
ig 160 158 false (.bin .neq (.t 159) (ci 140)),
ia 161 (.pick (.t 158) (.c (.a (.p (.b true)))) (.t 160)),
ia 162 (.mv (.t 161)),
ig 163 162 false (.fad 0 (.t 15)),
ig 164 162 false (.ld 1 false (.t 163)),
ig 165 162 false (.bin .neq (.t 164) (ci 8)),
ia 166 (.pick (.t 162) (.c (.a (.p (.b true)))) (.t 165)),
ia 167 (.mv (.t 166)),
ig 168 167 false (.fad 1 (.t 15)),
ig 169 167 false (.ld 1 false (.t 168)),
ig 170 167 false (.not (.t 169)),
ia 171 (.pick (.t 167) (.c (.a (.p (.b true)))) (.t 170)),
ia 172 (.mv (.t 171)),
ig 173 172 false (.mv (.t 16)),
ig 174 172 false (.bin .neq (.t 173) (ci 0)),
ia 175 (.pick (.t 172) (.c (.a (.p (.b true)))) (.t 174))]) (.cond (.t 175) (.seq (.reg [
  ia 0 (.mv (.c (.a (.p (.b false)))))]) .ret) .skip)) (.fz [1, 3, 5, 7, 9, 11, 13, 15, 17, 19, 21, 22, 23, 25, 27] (.seq (.reg [
  ia 176 (.fad 0 (.t 17)),
ia 177 (.ld 1 false (.t 176)),
ia 178 (.bin .eql (.t 177) (ci 4)),
ia 179 (.mv (.t 178)),
ig 180 179 true (.fad 4 (.t 17)),
ig 181 179 true (.fad 2 (.t 180)),
ig 182 179 true (.ld 1 false (.t 181)),
ig 183 179 true (.bin .eql (.t 182) (.c (.a (.p (.i .i64 (-2)))))),
ia 184 (.pick (.t 179) (.t 183) (.c (.a (.p (.b false))))),
ia 185 (.mv (.t 184)),
ig 186 185 true (.fad 4 (.t 17)),
ig 187 185 true (.fad 1 (.t 186)),
ig 188 185 true (.ld 1 false (.t 187)),
ig 189 185 true (.bin .eql (.t 188) (ci 1)),
ia 190 (.pick (.t 185) (.t 189) (.c (.a (.p (.b false))))),
ia 191 (.mv (.t 190)),
ig 192 191 true (.mv (.t 18)),
ig 193 191 true (.bin .eql (.t 192) (ci 0)),
ia 194 (.pick (.t 191) (.t 193) (.c (.a (.p (.b false))))),
ia 195 (.mv (.t 194)),
ig 196 195 true (.fad 0 (.t 19)),
ig 197 195 true (.ld 1 false (.t 196)),
ig 198 195 true (.bin .eql (.t 197) (ci 5)),
ia 199 (.pick (.t 195) (.t 198) (.c (.a (.p (.b false))))),
ia 200 (.mv (.t 199)),
ig 201 200 true (.mv (.t 20)),
ig 202 200 true (.bin .eql (.t 201) (ci 0)),
ia 203 (.pick (.t 200) (.t 202) (.c (.a (.p (.b false))))),
ia 204 (.mv (.t 203)),
ig 205 204 true (.fad 0 (.t 23)),
ig 206 204 true (.ld 1 false (.t 205)),
ig 207 204 true (.bin .eql (.t 206) (ci 2)),
ia 208 (.pick (.t 204) (.t 207) (.c (.a (.p (.b false))))),
ia 209 (.mv (.t 208)),
ig 210 209 true (.fad 3 (.t 23)),
ig 211 209 true (.ld 1 false (.t 210)),
ig 212 209 true (.bin .eql (.t 211) (ci 1)),
ia 213 (.pick (.t 209) (.t 212) (.c (.a (.p (.b false))))),
ia 214 (.mv (.t 213)),
ig 215 214 true (.fad 1 (.t 23)),
ig 216 214 true (.ld 1 false (.t 215)),
ia 217 (.pick (.t 214) (.t 216) (.c (.a (.p (.b false))))),
ia 218 (.mv (.t 217)),
ig 219 218 true (.mv (.t 24)),
ig 220 218 true (.bin .eql (.t 219) (ci 0)),
ia 221 (.pick (.t 218) (.t 220) (.c (.a (.p (.b false))))),
ia 222 (.mv (.t 221)),
ig 223 222 true (.ld 10 true (.t 23)),
ig 224 222 true (.ld 6 true (.t 22)),
ig 225 222 true (.ld 6 true (.t 21)),
ig 226 222 true (.call (.f 16) [(.t 223), (.t 224), (.t 225)]),
ig 227 222 true (.bin .eql (.t 226) (ci 3)),
ia 228 (.pick (.t 222) (.t 227) (.c (.a (.p (.b false))))),
ia 229 (.mv (.t 228)),
ig 230 229 true (.mv (.t 26)),
ig 231 229 true (.bin .eql (.t 230) (ci 140)),
ia 232 (.pick (.t 229) (.t 231) (.c (.a (.p (.b false))))),
ia 233 (.mv (.t 232)),
ig 234 233 true (.mv (.t 28)),
ig 235 233 true (.bin .eql (.t 234) (ci 140)),
ia 236 (.pick (.t 233) (.t 235) (.c (.a (.p (.b false))))),
ia 0 (.mv (.t 236))]) .ret)))))))))))))))))))))))))))))))))))), [(.tmp 0)]⟩
theorem cc11 : ccF Try.prog [(58, [0, 0]), (61, [1, 0]), (75, [0, 0]), (58, [9]), (91, [8]), (93, [8]), (72, [8]), (92, [8]), (76, [8])] Try.f11 = some (stripF F11) := by kernel_rfl

/- gossamer/gossamerlaw14.small -/
def F12 : FnC := ⟨1, (.seq (.reg [
  ia 1 (.box 6 (.t 0)),
ia 2 (.mv (.c (.a (.p (.b false)))))]) (.seq (.reg [
  ia 3 (.fad 5 (.t 1)),
ia 4 (.ld 1 false (.t 3)),
ia 5 (.len false (.t 4)),
ia 6 (.bin .leq (.t 5) (ci 20)),
ia 7 (.mv (.t 6)),
ig 8 7 true (.fad 4 (.t 1)),
ig 9 7 true (.ld 1 false (.t 8)),
ig 10 7 true (.len false (.t 9)),
ig 11 7 true (.bin .leq (.t 10) (ci 20)),
ia 12 (.pick (.t 7) (.t 11) (.c (.a (.p (.b false))))),
ia 13 (.mv (.t 12)),
ig 14 13 true (.fad 1 (.t 1)),
ig 15 13 true (.ld 1 false (.t 14)),
ig 16 13 true (.bin .leq (.t 15) (ci 1000)),
ia 17 (.pick (.t 13) (.t 16) (.c (.a (.p (.b false))))),
ia 18 (.mv (.t 17)),
ig 19 18 true (.fad 1 (.t 1)),
ig 20 18 true (.ld 1 false (.t 19)),
ig 21 18 true (.bin .geq (.t 20) (.c (.a (.p (.i .i64 (-1000)))))),
ia 22 (.pick (.t 18) (.t 21) (.c (.a (.p (.b false))))),
ia 2 (.mv (.t 22))]) .ret)), [(.tmp 2)]⟩
theorem cc12 : ccF Try.prog [(58, [0, 0]), (61, [1, 0]), (75, [0, 0]), (58, [9]), (91, [8]), (93, [8]), (72, [8]), (92, [8]), (76, [8])] Try.f12 = some (stripF F12) := by kernel_rfl

/- gossamer/gossamerlaw14.tame -/
def F13b0 : C := (.seq (.seq (.reg [
  ia 4 (.mv (.t 3)),
ia 5 (.fad 4 (.t 1)),
ia 6 (.ld 1 false (.t 5)),
ia 7 (.len false (.t 6)),
ia 8 (.bin .lss (.t 4) (.t 7))]) (.cond (.t 8) .skip (.exit 0))) (.seq (.block 1 (.seq (.reg [
  ia 11 (.fad 4 (.t 1)),
ia 12 (.ld 1 false (.t 11)),
ia 13 (.mv (.t 3)),
ia 14 (.ias 2 (.t 12) (.t 13)),
ia 15 (.fad 1 (.t 14)),
ia 16 (.ld 1 false (.t 15)),
ia 17 (.bin .gtr (.t 16) (ci 1000)),
ia 18 (.mv (.t 17)),
ig 19 18 false (.fad 4 (.t 1)),
ig 20 18 false (.ld 1 false (.t 19)),
ig 21 18 false (.mv (.t 3)),
ig 22 18 false (.ias 2 (.t 20) (.t 21)),
ig 23 18 false (.fad 1 (.t 22)),
ig 24 18 false (.ld 1 false (.t 23)),
ig 25 18 false (.bin .lss (.t 24) (.c (.a (.p (.i .i64 (-1000)))))),
ia 26 (.pick (.t 18) (.c (.a (.p (.b true)))) (.t 25))]) (.cond (.t 26) (.seq (.reg [
  ia 2 (.mv (.c (.a (.p (.b false)))))]) .ret) .skip))) (.reg [
  ia 9 (.mv (.t 3)),
ia 10 (.bin .add (.t 9) (ci 1)),
ia 3 (.mv (.t 10))])))
def F13 : FnC := ⟨1, (.seq (.reg [
  ia 1 (.box 6 (.t 0)),
ia 2 (.mv (.c (.a (.p (.b false)))))]) (.seq (.seq (.reg [
  ia 3 (.mv (ci 0))]) (.block 0 (.loop F13b0))) (.seq (.reg [
  ia 2 (.mv (.c (.a (.p (.b true)))))]) .ret))), [(.tmp 2)]⟩
theorem cc13 : ccF Try.prog [(58, [0, 0]), (61, [1, 0]), (75, [0, 0]), (58, [9]), (91, [8]), (93, [8]), (72, [8]), (92, [8]), (76, [8])] Try.f13 = some (stripF F13) := by kernel_rfl

/- gossamer/rule.Of -/
def F14 : FnC := ⟨2, (.seq (.reg [
  ia 2 (.box 6 (.t 0)),
ia 3 (.box 6 (.t 1)),
ia 4 (.new [(.p (.i .i64 0)), (.p (.b false)), (.p (.i .i64 0)), (.p (.i .i64 0)), (.p (.i .i64 0)), (.p (.i .i64 0)), (.p (.i .i64 0)), (.p (.s [])), .nil, .nil]),
ia 5 (.mv (ci 0))]) (.seq (.reg [
  ia 8 (.fn 33 [(.t 2), (.t 3)]),
ia 6 (.mv (.t 8))]) (.seq (.reg [
  ia 9 (.fn 35 [(.t 2), (.t 3)]),
ia 7 (.mv (.t 9))]) (.seq (.block 0 (.seq (.reg [
  ia 11 (.mv (.t 7)),
ia 12 (.call (.t 11) [(ci 0)]),
ia 10 (.mv (.t 12))]) (.cond (.t 10) (.seq (.reg [
  ia 13 (.build [(.p (.i .i64 0)), (.p (.b false)), (.p (.i .i64 0)), (.p (.i .i64 0)), (.p (.i .i64 0)), (.p (.i .i64 0)), (.p (.i .i64 0)), (.p (.s [])), .nil, .nil] []),
io (.st 10 (.t 4) (.t 13)),
ia 5 (.mv (ci 140))]) .ret) (.seq (.reg [
  ia 15 (.fad 0 (.t 2)),
ia 16 (.ld 1 false (.t 15)),
ia 17 (.call (.f 34) [(.t 16)]),
ia 18 (.bin .eql (.t 17) (ci 4)),
ia 14 (.mv (.t 18))]) (.cond (.t 14) (.seq (.reg [
  ia 19 (.call (.f 36) [(ci 8)]),
ia 20 (.ext (.t 19) 0),
ia 21 (.ext (.t 19) 1),
io (.st 10 (.t 4) (.t 20)),
ia 5 (.mv (.t 21))]) .ret) (.seq (.reg [
  ia 23 (.fad 0 (.t 3)),
ia 24 (.ld 1 false (.t 23)),
ia 25 (.call (.f 34) [(.t 24)]),
ia 26 (.bin .eql (.t 25) (ci 4)),
ia 22 (.mv (.t 26))]) (.cond (.t 22) (.seq (.reg [
  ia 27 (.call (.f 36) [(ci 8)]),
ia 28 (.ext (.t 27) 0),
ia 29 (.ext (.t 27) 1),
ia 30 (.call (.f 37) [(.t 28), (.t 29)]),
ia 31 (.ext (.t 30) 0),
ia 32 (.ext (.t 30) 1),
io (.st 10 (.t 4) (.t 31)),
ia 5 (.mv (.t 32))]) .ret) (.seq (.reg [
  ia 34 (.mv (.t 6)),
ia 35 (.call (.t 34) [(ci 3), (ci 3)]),
ia 36 (.mv (.t 35)),
ig 37 36 true (.fad 1 (.t 2)),
ig 38 36 true (.ld 1 false (.t 37)),
ig 39 36 true (.fad 1 (.t 3)),
ig 40 36 true (.ld 1 false (.t 39)),
ig 41 36 true (.bin .eql (.t 38) (.t 40)),
ia 42 (.pick (.t 36) (.t 41) (.c (.a (.p (.b false))))),
ia 43 (.mv (.t 42)),
ig 44 43 true (.fad 0 (.t 2)),
ig 45 43 true (.ld 1 false (.t 44)),
ig 46 43 true (.fad 0 (.t 3)),
ig 47 43 true (.ld 1 false (.t 46)),
ig 48 43 true (.bin .eql (.t 45) (.t 47)),
ia 49 (.pick (.t 43) (.t 48) (.c (.a (.p (.b false))))),
ia 33 (.mv (.t 49))]) (.cond (.t 33) (.seq (.reg [
  ia 50 (.call (.f 36) [(ci 6)]),
ia 51 (.ext (.t 50) 0),
ia 52 (.ext (.t 50) 1),
io (.st 10 (.t 4) (.t 51)),
ia 5 (.mv (.t 52))]) .ret) (.seq (.reg [
  ia 54 (.fad 0 (.t 2)),
ia 55 (.ld 1 false (.t 54)),
ia 56 (.call (.f 34) [(.t 55)]),
ia 57 (.bin .eql (.t 56) (ci 3)),
ia 58 (.mv (.t 57)),
ig 59 58 true (.fad 0 (.t 3)),
ig 60 58 true (.ld 1 false (.t 59)),
ig 61 58 true (.call (.f 34) [(.t 60)]),
ig 62 58 true (.bin .neq (.t 61) (ci 3)),
ig 63 58 true (.mv (.t 62)),
ig 64 63 false (.fad 1 (.t 2)),
ig 65 63 false (.ld 1 false (.t 64)),
ig 66 63 false (.fad 1 (.t 3)),
ig 67 63 false (.ld 1 false (.t 66)),
ig 68 63 false (.bin .leq (.t 65) (.t 67)),
ig 69 58 true (.pick (.t 63) (.c (.a (.p (.b true)))) (.t 68)),
ia 70 (.pick (.t 58) (.t 69) (.c (.a (.p (.b false))))),
ia 53 (.mv (.t 70))]) (.cond (.t 53) (.seq (.reg [
  ia 71 (.ld 6 true (.t 2)),
ia 72 (.ld 6 true (.t 3)),
ia 73 (.call (.f 38) [(.t 71), (.t 72)]),
ia 74 (.ext (.t 73) 0),
ia 75 (.ext (.t 73) 1),
io (.st 10 (.t 4) (.t 74)),
ia 5 (.mv (.t 75))]) .ret) (.seq (.reg [
  ia 77 (.fad 0 (.t 3)),
ia 78 (.ld 1 false (.t 77)),
ia 79 (.call (.f 34) [(.t 78)]),
ia 80 (.bin .eql (.t 79) (ci 3)),
ia 76 (.mv (.t 80))]) (.cond (.t 76) (.seq (.reg [
  ia 81 (.ld 6 true (.t 3)),
ia 82 (.ld 6 true (.t 2)),
ia 83 (.call (.f 38) [(.t 81), (.t 82)]),
ia 84 (.ext (.t 83) 0),
ia 85 (.ext (.t 83) 1),
ia 86 (.call (.f 37) [(.t 84), (.t 85)]),
ia 87 (.ext (.t 86) 0),
ia 88 (.ext (.t 86) 1),
io (.st 10 (.t 4) (.t 87)),
ia 5 (.mv (.t 88))]) .ret) (.seq (.reg [
  ia 90 (.mv (.t 6)),
ia 91 (.call (.t 90) [(ci 1), (ci 2)]),
ia 89 (.mv (.t 91))]) (.cond (.t 89) (.seq (.reg [
  ia 92 (.ld 6 true (.t 2)),
ia 93 (.ld 6 true (.t 3)),
ia 94 (.call (.f 39) [(.t 92), (.t 93)]),
ia 95 (.ext (.t 94) 0),
ia 96 (.ext (.t 94) 1),
io (.st 10 (.t 4) (.t 95)),
ia 5 (.mv (.t 96))]) .ret) (.seq (.reg [
  ia 98 (.mv (.t 6)),
ia 99 (.call (.t 98) [(ci 2), (ci 1)]),
ia 97 (.mv (.t 99))]) (.cond (.t 97) (.seq (.reg [
  ia 100 (.ld 6 true (.t 3)),
ia 101 (.ld 6 true (.t 2)),
ia 102 (.call (.f 39) [(.t 100), (.t 101)]),
ia 103 (.ext (.t 102) 0),
ia 104 (.ext (.t 102) 1),
ia 105 (.call (.f 37) [(.t 103), (.t 104)]),
ia 106 (.ext (.t 105) 0),
ia 107 (.ext (.t 105) 1),
io (.st 10 (.t 4) (.t 106)),
ia 5 (.mv (.t 107))]) .ret) .skip))))))))))))))))) (.seq (.reg [
  ia 108 (.build [(.p (.i .i64 0)), (.p (.b false)), (.p (.i .i64 0)), (.p (.i .i64 0)), (.p (.i .i64 0)), (.p (.i .i64 0)), (.p (.i .i64 0)), (.p (.s [])), .nil, .nil] []),
io (.st 10 (.t 4) (.t 108)),
ia 5 (.mv (ci 140))]) .ret))))), [(.cell 4 10 true), (.tmp 5)]⟩
theorem cc14 : ccF Try.prog [(58, [0, 0]), (61, [1, 0]), (75, [0, 0]), (58, [9]), (91, [8]), (93, [8]), (72, [8]), (92, [8]), (76, [8])] Try.f14 = some (stripF F14) := by kernel_rfl

/- gossamer/gossamerref14.Same -/
def F15 : FnC := ⟨2, (.seq (.reg [
  ia 2 (.box 10 (.t 0)),
ia 3 (.box 10 (.t 1)),
ia 4 (.mv (.c (.a (.p (.b false)))))]) (.seq (.reg [
  ia 5 (.fad 0 (.t 2)),
ia 6 (.ld 1 false (.t 5)),
ia 7 (.fad 0 (.t 3)),
ia 8 (.ld 1 false (.t 7)),
ia 9 (.bin .eql (.t 6) (.t 8)),
ia 10 (.mv (.t 9)),
ig 11 10 true (.fad 1 (.t 2)),
ig 12 10 true (.ld 1 false (.t 11)),
ig 13 10 true (.fad 1 (.t 3)),
ig 14 10 true (.ld 1 false (.t 13)),
ig 15 10 true (.eqb false (.t 12) (.t 14)),
ia 16 (.pick (.t 10) (.t 15) (.c (.a (.p (.b false))))),
ia 17 (.mv (.t 16)),
ig 18 17 true (.fad 2 (.t 2)),
ig 19 17 true (.ld 1 false (.t 18)),
ig 20 17 true (.fad 2 (.t 3)),
ig 21 17 true (.ld 1 false (.t 20)),
ig 22 17 true (.bin .eql (.t 19) (.t 21)),
ia 23 (.pick (.t 17) (.t 22) (.c (.a (.p (.b false))))),
ia 24 (.mv (.t 23)),
ig 25 24 true (.fad 3 (.t 2)),
ig 26 24 true (.ld 1 false (.t 25)),
ig 27 24 true (.fad 3 (.t 3)),
ig 28 24 true (.ld 1 false (.t 27)),
ig 29 24 true (.bin .eql (.t 26) (.t 28)),
ia 30 (.pick (.t 24) (.t 29) (.c (.a (.p (.b false))))),
ia 31 (.mv (.t 30)),
ig 32 31 true (.fad 4 (.t 2)),
ig 33 31 true (.ld 6 true (.t 32)),
ig 34 31 true (.fad 4 (.t 3)),
ig 35 31 true (.ld 6 true (.t 34)),
ig 36 31 true (.call (.f 31) [(.t 33), (.t 35)]),
ia 37 (.pick (.t 31) (.t 36) (.c (.a (.p (.b false))))),
ia 4 (.mv (.t 37))]) .ret)), [(.tmp 4)]⟩
theorem cc15 : ccF Try.prog [(58, [0, 0]), (61, [1, 0]), (75, [0, 0]), (58, [9]), (91, [8]), (93, [8]), (72, [8]), (92, [8]), (76, [8])] Try.f15 = some (stripF F15) := by kernel_rfl

/- gossamer/rule.Need -/
def F16 : FnC := ⟨3, (.seq (.reg [
  ia 3 (.box 10 (.t 0)),
ia 4 (.box 6 (.t 1)),
ia 5 (.box 6 (.t 2)),
ia 6 (.mv (ci 0))]) (.seq (.reg [
  ir 9 (.ld 6 true (.t 4)),
ir 10 (.ld 6 true (.t 5)),
⟨(.some 7), .none, (.new [(.p (.i .i64 0)), (.p (.i .i64 0)), (.p (.i .i64 0)), (.p (.s [])), .nil, .nil]), .ad⟩,
⟨(.some 8), .none, (.new [(.p (.i .i64 0)), (.p (.i .i64 0)), (.p (.i .i64 0)), (.p (.s [])), .nil, .nil]), .ad⟩,
⟨.none, .none, (.st 6 (.t 7) (.t 9)), (.wr [5])⟩,
io (.st 6 (.t 8) (.t 10))]) (.seq (.seq (.reg [
  ia 11 (.fad 1 (.t 3)),
ia 12 (.ld 1 false (.t 11))]) (.cond (.t 12) (.reg [
  ir 13 (.ld 6 true (.t 5)),
ir 14 (.ld 6 true (.t 4)),
⟨.none, .none, (.st 6 (.t 7) (.t 13)), (.wr [4])⟩,
io (.st 6 (.t 8) (.t 14))]) .skip)) (.seq (.seq (.reg [
  ia 15 (.fad 0 (.t 3)),
ia 16 (.ld 1 false (.t 15))]) (.block 0 (.seq (.reg [
  ia 18 (.bin .eql (.t 16) (ci 2)),
ia 17 (.mv (.t 18))]) (.cond (.t 17) (.seq (.seq (.reg [
  ia 19 (.fad 3 (.t 3)),
ia 20 (.ld 1 false (.t 19)),
ia 21 (.bin .lss (.t 20) (ci 0)),
ia 22 (.mv (.t 21)),
ig 23 22 false (.fad 3 (.t 3)),
ig 24 22 false (.ld 1 false (.t 23)),
ig 25 22 false (.fad 4 (.t 7)),
ig 26 22 false (.ld 1 false (.t 25)),
ig 27 22 false (.len false (.t 26)),
ig 28 22 false (.bin .geq (.t 24) (.t 27)),
ia 29 (.pick (.t 22) (.c (.a (.p (.b true)))) (.t 28))]) (.cond (.t 29) (.seq (.reg [
  ia 6 (.mv (ci 0))]) .ret) .skip)) (.seq (.reg [
  ir 30 (.fad 4 (.t 7)),
ir 31 (.ld 1 false (.t 30)),
ir 32 (.fad 3 (.t 3)),
ir 33 (.ld 1 false (.t 32)),
ir 34 (.ias 2 (.t 31) (.t 33)),
ir 35 (.fad 1 (.t 34)),
ir 36 (.ld 1 false (.t 35)),
ir 37 (.fad 4 (.t 7)),
ir 38 (.ld 1 false (.t 37)),
ir 39 (.len false (.t 38)),
ia 40 (.bin .add (.t 36) (.t 39)),
ia 41 (.bin .sub (.t 40) (ci 1)),
ia 6 (.mv (.t 41))]) .ret)) (.seq (.seq (.reg [
  ia 43 (.bin .eql (.t 16) (ci 3)),
ia 42 (.mv (.t 43))]) (.cond (.t 42) .skip (.reg [
  ia 44 (.bin .eql (.t 16) (ci 4)),
ia 42 (.mv (.t 44))]))) (.cond (.t 42) (.seq (.reg [
  ia 6 (.mv (ci 1))]) .ret) (.seq (.reg [
  ia 46 (.bin .eql (.t 16) (ci 5)),
ia 45 (.mv (.t 46))]) (.cond (.t 45) (.seq (.reg [
  ir 47 (.ld 6 true (.t 7)),
ir 48 (.call (.f 40) [(.t 47)]),
ir 49 (.bin .sub (.t 48) (ci 1)),
ir 50 (.mx (.t 49) (ci 0)),
ir 51 (.bin .add (ci 1) (.t 50)),
ir 52 (.ld 6 true (.t 8)),
ir 53 (.call (.f 40) [(.t 52)]),
ia 54 (.bin .add (.t 51) (.t 53)),
ia 6 (.mv (.t 54))]) .ret) (.seq (.reg [
  ia 56 (.bin .eql (.t 16) (ci 7)),
ia 55 (.mv (.t 56))]) (.cond (.t 55) (.seq (.seq (.reg [
  ia 57 (.fad 0 (.t 7)),
ia 58 (.ld 1 false (.t 57)),
ia 59 (.bin .eql (.t 58) (ci 4))]) (.cond (.t 59) (.seq (.reg [
  ia 60 (.ld 6 true (.t 8)),
ia 61 (.call (.f 40) [(.t 60)]),
ia 62 (.bin .add (ci 2) (.t 61)),
ia 6 (.mv (.t 62))]) .ret) .skip)) (.seq (.reg [
  ia 63 (.ld 6 true (.t 8)),
ia 64 (.call (.f 40) [(.t 63)]),
ia 65 (.bin .add (ci 1) (.t 64)),
ia 6 (.mv (.t 65))]) .ret)) (.seq (.reg [
  ia 67 (.bin .eql (.t 16) (ci 8)),
ia 66 (.mv (.t 67))]) (.cond (.t 66) (.seq (.reg [
  ia 68 (.ld 6 true (.t 8)),
ia 69 (.call (.f 40) [(.t 68)]),
ia 6 (.mv (.t 69))]) .ret) .skip)))))))))))) (.seq (.reg [
  ia 6 (.mv (ci 0))]) .ret))))), [(.tmp 6)]⟩
theorem cc16 : ccF Try.prog [(58, [0, 0]), (61, [1, 0]), (75, [0, 0]), (58, [9]), (91, [8]), (93, [8]), (72, [8]), (92, [8]), (76, [8])] Try.f16 = some (stripF F16) := by kernel_rfl

/- gossamer/gossamerref12.Node -/
def F17b1 : C := (.seq (.seq (.reg [
  ia 140 (.mv (.t 4)),
ia 141 (.mv (.t 3)),
ia 142 (.bin .lss (.t 140) (.t 141))]) (.cond (.t 142) .skip (.exit 2))) (.seq (.block 3 (.seq (.reg [
  ir 145 (.fad 4 (.t 1)),
ir 146 (.ld 1 false (.t 145)),
ir 147 (.mv (.t 4)),
ir 148 (.ias 2 (.t 146) (.t 147)),
ir 149 (.fad 0 (.t 148)),
ir 150 (.ld 1 false (.t 149)),
ir 151 (.fad 4 (.t 1)),
ir 152 (.ld 1 false (.t 151)),
ir 153 (.mv (.t 3)),
ir 154 (.ias 2 (.t 152) (.t 153)),
ir 155 (.fad 0 (.t 154)),
ir 156 (.ld 1 false (.t 155)),
ia 157 (.bin .eql (.t 150) (.t 156))]) (.cond (.t 157) (.seq (.reg [
  ia 2 (.mv (.c (.a (.p (.b false)))))]) .ret) .skip))) (.reg [
  ia 143 (.mv (.t 4)),
ia 144 (.bin .add (.t 143) (ci 1)),
ia 4 (.mv (.t 144))])))
def F17b0 : C := (.seq (.seq (.reg [
  ia 108 (.mv (.t 3)),
ia 109 (.fad 4 (.t 1)),
ia 110 (.ld 1 false (.t 109)),
ia 111 (.len false (.t 110)),
ia 112 (.bin .lss (.t 108) (.t 111))]) (.cond (.t 112) .skip (.exit 0))) (.seq (.block 1 (.seq (.seq (.reg [
  ia 115 (.fad 4 (.t 1)),
ia 116 (.ld 1 false (.t 115)),
ia 117 (.mv (.t 3)),
ia 118 (.ias 2 (.t 116) (.t 117)),
ia 119 (.fad 0 (.t 118)),
ia 120 (.ld 1 false (.t 119)),
ia 121 (.bin .eql (.t 120) (.c (.a (.p (.s []))))),
ia 122 (.mv (.t 121)),
ig 123 122 false (.fad 4 (.t 1)),
ig 124 122 false (.ld 1 false (.t 123)),
ig 125 122 false (.mv (.t 3)),
ig 126 122 false (.ias 2 (.t 124) (.t 125)),
ig 127 122 false (.fad 1 (.t 126)),
ig 128 122 false (.ld 1 false (.t 127)),
ig 129 122 false (.bin .lss (.t 128) (ci 0)),
ia 130 (.pick (.t 122) (.c (.a (.p (.b true)))) (.t 129)),
ia 131 (.mv (.t 130)),
ig 132 131 false (.fad 4 (.t 1)),
ig 133 131 false (.ld 1 false (.t 132)),
ig 134 131 false (.mv (.t 3)),
ig 135 131 false (.ias 2 (.t 133) (.t 134)),
ig 136 131 false (.fad 1 (.t 135)),
ig 137 131 false (.ld 1 false (.t 136)),
ig 138 131 false (.bin .gtr (.t 137) (ci 8)),
ia 139 (.pick (.t 131) (.c (.a (.p (.b true)))) (.t 138))]) (.cond (.t 139) (.seq (.reg [
  ia 2 (.mv (.c (.a (.p (.b false)))))]) .ret) .skip)) (.seq (.reg [
  ia 4 (.mv (ci 0))]) (.block 2 (.loop F17b1))))) (.reg [
  ia 113 (.mv (.t 3)),
ia 114 (.bin .add (.t 113) (ci 1)),
ia 3 (.mv (.t 114))])))
def F17 : FnC := ⟨1, (.seq (.reg [
  ia 1 (.box 6 (.t 0)),
ia 2 (.mv (.c (.a (.p (.b false)))))]) (.seq (.seq (.reg [
  ia 5 (.fad 0 (.t 1)),
ia 6 (.ld 1 false (.t 5)),
ia 7 (.bin .lss (.t 6) (ci 0)),
ia 8 (.mv (.t 7)),
ig 9 8 false (.fad 0 (.t 1)),
ig 10 8 false (.ld 1 false (.t 9)),
ig 11 8 false (.bin .gtr (.t 10) (ci 13)),
ia 12 (.pick (.t 8) (.c (.a (.p (.b true)))) (.t 11)),
ia 13 (.mv (.t 12)),
ig 14 13 false (.fad 1 (.t 1)),
ig 15 13 false (.ld 1 false (.t 14)),
ig 16 13 false (.bin .lss (.t 15) (ci 0)),
ia 17 (.pick (.t 13) (.c (.a (.p (.b true)))) (.t 16)),
ia 18 (.mv (.t 17)),
ig 19 18 false (.fad 1 (.t 1)),
ig 20 18 false (.ld 1 false (.t 19)),
ig 21 18 false (.bin .gtr (.t 20) (ci 60)),
ia 22 (.pick (.t 18) (.c (.a (.p (.b true)))) (.t 21)),
ia 23 (.mv (.t 22)),
ig 24 23 false (.fad 0 (.t 1)),
ig 25 23 false (.ld 1 false (.t 24)),
ig 26 23 false (.bin .lss (.t 25) (ci 2)),
ig 27 23 false (.mv (.t 26)),
ig 28 27 true (.fad 1 (.t 1)),
ig 29 27 true (.ld 1 false (.t 28)),
ig 30 27 true (.bin .gtr (.t 29) (ci 0)),
ig 31 23 false (.pick (.t 27) (.t 30) (.c (.a (.p (.b false))))),
ia 32 (.pick (.t 23) (.c (.a (.p (.b true)))) (.t 31))]) (.cond (.t 32) (.seq (.reg [
  ia 2 (.mv (.c (.a (.p (.b false)))))]) .ret) .skip)) (.seq (.seq (.reg [
  ia 33 (.fad 3 (.t 1)),
ia 34 (.ld 1 false (.t 33)),
ia 35 (.bin .neq (.t 34) (.c (.a (.p (.s []))))),
ia 36 (.fad 0 (.t 1)),
ia 37 (.ld 1 false (.t 36)),
ia 38 (.bin .eql (.t 37) (ci 8)),
ia 39 (.mv (.t 38)),
ig 40 39 false (.fad 0 (.t 1)),
ig 41 39 false (.ld 1 false (.t 40)),
ig 42 39 false (.bin .eql (.t 41) (ci 11)),
ia 43 (.pick (.t 39) (.c (.a (.p (.b true)))) (.t 42)),
ia 44 (.mv (.t 43)),
ig 45 44 false (.fad 0 (.t 1)),
ig 46 44 false (.ld 1 false (.t 45)),
ig 47 44 false (.bin .eql (.t 46) (ci 12)),
ia 48 (.pick (.t 44) (.c (.a (.p (.b true)))) (.t 47)),
ia 49 (.eqb true (.t 35) (.t 48)),
ia 50 (.mv (.t 49)),
ig 51 50 false (.fad 2 (.t 1)),
ig 52 50 false (.ld 1 false (.t 51)),
ig 53 50 false (.bin .neq (.t 52) (ci 0)),
ig 54 50 false (.mv (.t 53)),
ig 55 54 true (.fad 0 (.t 1)),
ig 56 54 true (.ld 1 false (.t 55)),
ig 57 54 true (.bin .neq (.t 56) (ci 10)),
ig 58 50 false (.pick (.t 54) (.t 57) (.c (.a (.p (.b false))))),
ig 59 50 false (.mv (.t 58)),
ig 60 59 true (.fad 0 (.t 1)),
ig 61 59 true (.ld 1 false (.t 60)),
ig 62 59 true (.bin .neq (.t 61) (ci 12)),
ig 63 50 false (.pick (.t 59) (.t 62) (.c (.a (.p (.b false))))),
ia 64 (.pick (.t 50) (.c (.a (.p (.b true)))) (.t 63))]) (.cond (.t 64) (.seq (.reg [
  ia 2 (.mv (.c (.a (.p (.b false)))))]) .ret) .skip)) (.seq (.seq (.reg [
  ia 65 (.fad 0 (.t 1)),
ia 66 (.ld 1 false (.t 65)),
ia 67 (.bin .eql (.t 66) (ci 8)),
ia 68 (.mv (.t 67)),
ig 69 68 true (.fad 5 (.t 1)),
ig 70 68 true (.ld 1 false (.t 69)),
ig 71 68 true (.len false (.t 70)),
ig 72 68 true (.bin .lss (.t 71) (ci 1)),
ig 73 68 true (.mv (.t 72)),
ig 74 73 false (.fad 5 (.t 1)),
ig 75 73 false (.ld 1 false (.t 74)),
ig 76 73 false (.len false (.t 75)),
ig 77 73 false (.bin .gtr (.t 76) (ci 9)),
ig 78 68 true (.pick (.t 73) (.c (.a (.p (.b true)))) (.t 77)),
ia 79 (.pick (.t 68) (.t 78) (.c (.a (.p (.b false))))),
ia 80 (.mv (.t 79)),
ig 81 80 false (.fad 0 (.t 1)),
ig 82 80 false (.ld 1 false (.t 81)),
ig 83 80 false (.bin .eql (.t 82) (ci 9)),
ig 84 80 false (.mv (.t 83)),
ig 85 84 true (.fad 4 (.t 1)),
ig 86 84 true (.ld 1 false (.t 85)),
ig 87 84 true (.len false (.t 86)),
ig 88 84 true (.bin .lss (.t 87) (ci 1)),
ig 89 80 false (.pick (.t 84) (.t 88) (.c (.a (.p (.b false))))),
ia 90 (.pick (.t 80) (.c (.a (.p (.b true)))) (.t 89)),
ia 91 (.mv (.t 90)),
ig 92 91 false (.fad 0 (.t 1)),
ig 93 91 false (.ld 1 false (.t 92)),
ig 94 91 false (.bin .neq (.t 93) (ci 9)),
ig 95 91 false (.mv (.t 94)),
ig 96 95 true (.fad 4 (.t 1)),
ig 97 95 true (.ld 1 false (.t 96)),
ig 98 95 true (.len false (.t 97)),
ig 99 95 true (.bin .gtr (.t 98) (ci 0)),
ig 100 91 false (.pick (.t 95) (.t 99) (.c (.a (.p (.b false))))),
ia 101 (.pick (.t 91) (.c (.a (.p (.b true)))) (.t 100)),
ia 102 (.mv (.t 101)),
ig 103 102 false (.fad 4 (.t 1)),
ig 104 102 false (.ld 1 false (.t 103)),
ig 105 102 false (.len false (.t 104)),
ig 106 102 false (.bin .gtr (.t 105) (ci 8)),
ia 107 (.pick (.t 102) (.c (.a (.p (.b true)))) (.t 106))]) (.cond (.t 107) (.seq (.reg [
  ia 2 (.mv (.c (.a (.p (.b false)))))]) .ret) .skip)) (.seq (.seq (.reg [
  ia 3 (.mv (ci 0))]) (.block 0 (.loop F17b0))) (.seq (.reg [
  ia 2 (.mv (.c (.a (.p (.b true)))))]) .ret)))))), [(.tmp 2)]⟩
theorem cc17 : ccF Try.prog [(58, [0, 0]), (61, [1, 0]), (75, [0, 0]), (58, [9]), (91, [8]), (93, [8]), (72, [8]), (92, [8]), (76, [8])] Try.f17 = some (stripF F17) := by kernel_rfl

/- gossamer/gossamerref14.Control -/
def F18 : FnC := ⟨1, (.seq (.reg [
  ia 2 (.mv (.c (.a (.p (.b false)))))]) (.seq (.reg [
  ia 3 (.mv (.t 0)),
ia 4 (.bin .eql (.t 3) (ci 4)),
ia 5 (.mv (.t 4)),
ig 6 5 false (.mv (.t 0)),
ig 7 5 false (.bin .eql (.t 6) (ci 5)),
ia 8 (.pick (.t 5) (.c (.a (.p (.b true)))) (.t 7)),
ia 9 (.mv (.t 8)),
ig 10 9 false (.mv (.t 0)),
ig 11 9 false (.bin .eql (.t 10) (ci 6)),
ia 12 (.pick (.t 9) (.c (.a (.p (.b true)))) (.t 11)),
ia 2 (.mv (.t 12))]) .ret)), [(.tmp 2)]⟩
theorem cc18 : ccF Try.prog [(58, [0, 0]), (61, [1, 0]), (75, [0, 0]), (58, [9]), (91, [8]), (93, [8]), (72, [8]), (92, [8]), (76, [8])] Try.f18 = some (stripF F18) := by kernel_rfl

/- gossamer/gossamerref14.Asks -/
def F19 : FnC := ⟨1, (.seq (.reg [
  ia 2 (.mv (.c (.a (.p (.b false)))))]) (.seq (.reg [
  ia 3 (.mv (.t 0)),
ia 4 (.bin .eql (.t 3) (ci 3)),
ia 5 (.mv (.t 4)),
ig 6 5 false (.mv (.t 0)),
ig 7 5 false (.bin .eql (.t 6) (ci 9)),
ia 8 (.pick (.t 5) (.c (.a (.p (.b true)))) (.t 7)),
ia 9 (.mv (.t 8)),
ig 10 9 false (.mv (.t 0)),
ig 11 9 false (.bin .eql (.t 10) (ci 11)),
ia 12 (.pick (.t 9) (.c (.a (.p (.b true)))) (.t 11)),
ia 13 (.mv (.t 12)),
ig 14 13 false (.mv (.t 0)),
ig 15 13 false (.bin .eql (.t 14) (ci 12)),
ia 16 (.pick (.t 13) (.c (.a (.p (.b true)))) (.t 15)),
ia 2 (.mv (.t 16))]) .ret)), [(.tmp 2)]⟩
theorem cc19 : ccF Try.prog [(58, [0, 0]), (61, [1, 0]), (75, [0, 0]), (58, [9]), (91, [8]), (93, [8]), (72, [8]), (92, [8]), (76, [8])] Try.f19 = some (stripF F19) := by kernel_rfl

/- gossamer/gossamerref14.Told -/
def F20 : FnC := ⟨1, (.seq (.reg [
  ia 2 (.mv (.c (.a (.p (.b false)))))]) (.seq (.reg [
  ia 3 (.mv (.t 0)),
ia 4 (.bin .eql (.t 3) (ci 2)),
ia 5 (.mv (.t 4)),
ig 6 5 false (.mv (.t 0)),
ig 7 5 false (.bin .eql (.t 6) (ci 8)),
ia 8 (.pick (.t 5) (.c (.a (.p (.b true)))) (.t 7)),
ia 9 (.mv (.t 8)),
ig 10 9 false (.mv (.t 0)),
ig 11 9 false (.bin .eql (.t 10) (ci 10)),
ia 12 (.pick (.t 9) (.c (.a (.p (.b true)))) (.t 11)),
ia 13 (.mv (.t 12)),
ig 14 13 false (.mv (.t 0)),
ig 15 13 false (.bin .eql (.t 14) (ci 13)),
ia 16 (.pick (.t 13) (.c (.a (.p (.b true)))) (.t 15)),
ia 2 (.mv (.t 16))]) .ret)), [(.tmp 2)]⟩
theorem cc20 : ccF Try.prog [(58, [0, 0]), (61, [1, 0]), (75, [0, 0]), (58, [9]), (91, [8]), (93, [8]), (72, [8]), (92, [8]), (76, [8])] Try.f20 = some (stripF F20) := by kernel_rfl

/- gossamer/gossamerref12.Ports -/
def F21 : FnC := ⟨1, (.seq (.reg [
  ia 1 (.box 6 (.t 0)),
ia 2 (.mv (ci 0))]) (.seq (.seq (.reg [
  ia 3 (.fad 0 (.t 1)),
ia 4 (.ld 1 false (.t 3))]) (.block 0 (.seq (.seq (.reg [
  ia 6 (.bin .eql (.t 4) (ci 1)),
ia 5 (.mv (.t 6))]) (.cond (.t 5) .skip (.seq (.reg [
  ia 7 (.bin .eql (.t 4) (ci 7)),
ia 5 (.mv (.t 7))]) (.cond (.t 5) .skip (.seq (.reg [
  ia 8 (.bin .eql (.t 4) (ci 10)),
ia 5 (.mv (.t 8))]) (.cond (.t 5) .skip (.reg [
  ia 9 (.bin .eql (.t 4) (ci 13)),
ia 5 (.mv (.t 9))]))))))) (.cond (.t 5) (.seq (.reg [
  ia 2 (.mv (ci 1))]) .ret) (.seq (.seq (.reg [
  ia 11 (.bin .eql (.t 4) (ci 5)),
ia 10 (.mv (.t 11))]) (.cond (.t 10) .skip (.seq (.reg [
  ia 12 (.bin .eql (.t 4) (ci 6)),
ia 10 (.mv (.t 12))]) (.cond (.t 10) .skip (.reg [
  ia 13 (.bin .eql (.t 4) (ci 12)),
ia 10 (.mv (.t 13))]))))) (.cond (.t 10) (.seq (.reg [
  ia 2 (.mv (ci 2))]) .ret) (.seq (.seq (.reg [
  ia 15 (.bin .eql (.t 4) (ci 2)),
ia 14 (.mv (.t 15))]) (.cond (.t 14) .skip (.seq (.reg [
  ia 16 (.bin .eql (.t 4) (ci 3)),
ia 14 (.mv (.t 16))]) (.cond (.t 14) .skip (.seq (.reg [
  ia 17 (.bin .eql (.t 4) (ci 4)),
ia 14 (.mv (.t 17))]) (.cond (.t 14) .skip (.reg [
  ia 18 (.bin .eql (.t 4) (ci 11)),
ia 14 (.mv (.t 18))]))))))) (.cond (.t 14) (.seq (.reg [
  ia 2 (.mv (ci 3))]) .ret) (.seq (.reg [
  ia 20 (.bin .eql (.t 4) (ci 8)),
ia 19 (.mv (.t 20))]) (.cond (.t 19) (.seq (.reg [
  ia 21 (.fad 5 (.t 1)),
ia 22 (.ld 1 false (.t 21)),
ia 23 (.len false (.t 22)),
ia 2 (.mv (.t 23))]) .ret) (.seq (.reg [
  ia 25 (.bin .eql (.t 4) (ci 9)),
ia 24 (.mv (.t 25))]) (.cond (.t 24) (.seq (.reg [
  ia 26 (.fad 4 (.t 1)),
ia 27 (.ld 1 false (.t 26)),
ia 28 (.len false (.t 27)),
ia 29 (.bin .add (ci 2) (.t 28)),
ia 2 (.mv (.t 29))]) .ret) .skip)))))))))))) (.seq (.reg [
  ia 2 (.mv (ci 0))]) .ret))), [(.tmp 2)]⟩
theorem cc21 : ccF Try.prog [(58, [0, 0]), (61, [1, 0]), (75, [0, 0]), (58, [9]), (91, [8]), (93, [8]), (72, [8]), (92, [8]), (76, [8])] Try.f21 = some (stripF F21) := by kernel_rfl

/- gossamer/gossamerref09.Step -/
def F22 : FnC := ⟨1, (.seq (.reg [
  ia 1 (.box 4 (.t 0)),
ia 2 (.new [(.p (.i .i64 0)), (.p (.i .i64 0)), (.p (.s [])), .nil]),
ia 3 (.mv (ci 0))]) (.seq (.seq (.reg [
  ia 4 (.ld 4 true (.t 1)),
ia 5 (.call (.f 41) [(.t 4), (ci 4611686018427387904)]),
ia 6 (.not (.t 5))]) (.cond (.t 6) (.seq (.reg [
  ia 7 (.ld 4 true (.t 1)),
io (.st 4 (.t 2) (.t 7)),
ia 3 (.mv (ci 0))]) .ret) .skip)) (.seq (.reg [
  ia 8 (.ld 4 true (.t 1)),
ia 9 (.call (.f 42) [(.t 8)]),
ia 10 (.ext (.t 9) 0),
ia 11 (.ext (.t 9) 1),
io (.st 4 (.t 2) (.t 10)),
ia 3 (.mv (.t 11))]) .ret))), [(.cell 2 4 true), (.tmp 3)]⟩
theorem cc22 : ccF Try.prog [(58, [0, 0]), (61, [1, 0]), (75, [0, 0]), (58, [9]), (91, [8]), (93, [8]), (72, [8]), (92, [8]), (76, [8])] Try.f22 = some (stripF F22) := by kernel_rfl

/- gossamer/gossamerlaw15.fixed -/
def F23 : FnC := ⟨0, (.seq (.reg [
  ia 0 (.mv (.c (.a (.p (.b false)))))]) (.seq (.reg [
  ia 24 (.call (.f 43) []),
ia 25 (.call (.f 26) [(.t 24), (ci 1)]),
ia 23 (.mv (.t 25)),
ia 26 (.ext (.t 23) 0),
ia 27 (.ext (.t 23) 1),
ia 28 (.ext (.t 23) 2),
ia 1 (.new [.nil, (.p (.i .i64 0))]),
ia 2 (.new [(.p (.i .i64 0)), (.p (.b false)), (.p (.i .i64 0)), (.p (.i .i64 0)), (.p (.i .i64 0)), (.p (.i .i64 0)), (.p (.i .i64 0)), (.p (.s [])), .nil, .nil]),
io (.st 2 (.t 1) (.t 26)),
io (.st 10 (.t 2) (.t 27)),
ia 3 (.mv (.t 28))]) (.fz [1, 2] (.seq (.reg [
  ia 30 (.call (.f 43) []),
ia 31 (.call (.f 26) [(.t 30), (ci 2)]),
ia 29 (.mv (.t 31)),
ia 32 (.ext (.t 29) 0),
ia 33 (.ext (.t 29) 1),
ia 34 (.ext (.t 29) 2),
ia 4 (.new [.nil, (.p (.i .i64 0))]),
ia 5 (.new [(.p (.i .i64 0)), (.p (.b false)), (.p (.i .i64 0)), (.p (.i .i64 0)), (.p (.i .i64 0)), (.p (.i .i64 0)), (.p (.i .i64 0)), (.p (.s [])), .nil, .nil]),
io (.st 2 (.t 4) (.t 32)),
io (.st 10 (.t 5) (.t 33)),
ia 6 (.mv (.t 34))]) (.fz [1, 2, 4, 5] (.seq (.reg [
  ia 36 (.call (.f 43) []),
ia 37 (.call (.f 26) [(.t 36), (ci 0)]),
ia 35 (.mv (.t 37)),
ia 38 (.ext (.t 35) 0),
ia 39 (.ext (.t 35) 1),
ia 40 (.ext (.t 35) 2),
ia 7 (.new [.nil, (.p (.i .i64 0))]),
ia 8 (.new [(.p (.i .i64 0)), (.p (.b false)), (.p (.i .i64 0)), (.p (.i .i64 0)), (.p (.i .i64 0)), (.p (.i .i64 0)), (.p (.i .i64 0)), (.p (.s [])), .nil, .nil]),
io (.st 2 (.t 7) (.t 38)),
io (.st 10 (.t 8) (.t 39)),
ia 9 (.mv (.t 40))]) (.fz [1, 2, 4, 5, 7, 8] (.seq (.reg [
  ia 42 (.call (.f 43) []),
ia 43 (.call (.f 26) [(.t 42), (ci 9)]),
ia 41 (.mv (.t 43)),
ia 44 (.ext (.t 41) 0),
ia 45 (.ext (.t 41) 1),
ia 46 (.ext (.t 41) 2),
ia 10 (.new [.nil, (.p (.i .i64 0))]),
ia 11 (.new [(.p (.i .i64 0)), (.p (.b false)), (.p (.i .i64 0)), (.p (.i .i64 0)), (.p (.i .i64 0)), (.p (.i .i64 0)), (.p (.i .i64 0)), (.p (.s [])), .nil, .nil]),
io (.st 2 (.t 10) (.t 44)),
io (.st 10 (.t 11) (.t 45)),
ia 12 (.mv (.t 46))]) (.fz [1, 2, 4, 5, 7, 8, 10, 11] (.seq (.reg [
  ia 48 (.build [.nil, (.p (.i .i64 0))] []),
ia 49 (.call (.f 26) [(.t 48), (ci 0)]),
ia 47 (.mv (.t 49)),
ia 50 (.ext (.t 47) 0),
ia 51 (.ext (.t 47) 1),
ia 52 (.ext (.t 47) 2),
ia 13 (.new [.nil, (.p (.i .i64 0))]),
ia 14 (.new [(.p (.i .i64 0)), (.p (.b false)), (.p (.i .i64 0)), (.p (.i .i64 0)), (.p (.i .i64 0)), (.p (.i .i64 0)), (.p (.i .i64 0)), (.p (.s [])), .nil, .nil]),
io (.st 2 (.t 13) (.t 50)),
io (.st 10 (.t 14) (.t 51)),
ia 15 (.mv (.t 52))]) (.fz [1, 2, 4, 5, 7, 8, 10, 11, 13, 14] (.seq (.reg [
  ia 53 (.call (.f 44) [(ci 1), (ci 1)]),
ia 54 (.bsl 2 58 [(.p (.i .i64 0)), (.p (.i .i64 0))] 1 [(0, (.t 53))]),
ia 55 (.build [(.p (.i .i64 0)), (.p (.i .i64 0)), (.p (.i .i64 0)), (.p (.s [])), .nil, .nil] [(0, (1, (ci 1))), (5, (1, (.t 54)))]),
ia 56 (.call (.f 44) [(ci 2), (ci 0)]),
ia 57 (.call (.f 44) [(ci 0), (ci 0)]),
ia 58 (.call (.f 44) [(ci 3), (ci 0)]),
ia 59 (.bsl 2 58 [(.p (.i .i64 0)), (.p (.i .i64 0))] 3 [(0, (.t 56)), (1, (.t 57)), (2, (.t 58))]),
ia 60 (.build [(.p (.i .i64 0)), (.p (.i .i64 0)), (.p (.i .i64 0)), (.p (.s [])), .nil, .nil] [(0, (1, (ci 4))), (5, (1, (.t 59)))]),
ia 61 (.call (.f 44) [(ci 1), (ci 0)]),
ia 62 (.call (.f 44) [(ci 4), (ci 0)]),
ia 63 (.bsl 2 58 [(.p (.i .i64 0)), (.p (.i .i64 0))] 2 [(0, (.t 61)), (1, (.t 62))]),
ia 64 (.build [(.p (.i .i64 0)), (.p (.i .i64 0)), (.p (.i .i64 0)), (.p (.s [])), .nil, .nil] [(0, (1, (ci 5))), (1, (1, (ci 1))), (5, (1, (.t 63)))]),
ia 65 (.call (.f 44) [(ci 1), (ci 2)]),
ia 66 (.bsl 2 58 [(.p (.i .i64 0)), (.p (.i .i64 0))] 1 [(0, (.t 65))]),
ia 67 (.build [(.p (.i .i64 0)), (.p (.i .i64 0)), (.p (.i .i64 0)), (.p (.s [])), .nil, .nil] [(0, (1, (ci 7))), (5, (1, (.t 66)))]),
ia 68 (.call (.f 44) [(ci 2), (ci 1)]),
ia 69 (.bsl 2 58 [(.p (.i .i64 0)), (.p (.i .i64 0))] 1 [(0, (.t 68))]),
ia 70 (.build [(.p (.i .i64 0)), (.p (.i .i64 0)), (.p (.i .i64 0)), (.p (.s [])), .nil, .nil] [(0, (1, (ci 10))), (5, (1, (.t 69)))]),
ia 71 (.bsl 6 25 [(.p (.i .i64 0)), (.p (.i .i64 0)), (.p (.i .i64 0)), (.p (.s [])), .nil, .nil] 5 [(0, (.t 55)), (1, (.t 60)), (2, (.t 64)), (3, (.t 67)), (4, (.t 70))]),
ia 72 (.build [.nil, (.p (.i .i64 0))] [(1, (1, (ci 5))), (0, (1, (.t 71)))]),
ia 16 (.new [.nil, (.p (.i .i64 0))]),
io (.st 2 (.t 16) (.t 72))]) (.fz [1, 2, 4, 5, 7, 8, 10, 11, 13, 14, 16] (.seq (.reg [
  ia 74 (.ld 2 true (.t 16)),
ia 75 (.call (.f 26) [(.t 74), (ci 1)]),
ia 73 (.mv (.t 75)),
ia 76 (.ext (.t 73) 0),
ia 77 (.ext (.t 73) 1),
ia 78 (.ext (.t 73) 2),
ia 17 (.new [.nil, (.p (.i .i64 0))]),
ia 18 (.new [(.p (.i .i64 0)), (.p (.b false)), (.p (.i .i64 0)), (.p (.i .i64 0)), (.p (.i .i64 0)), (.p (.i .i64 0)), (.p (.i .i64 0)), (.p (.s [])), .nil, .nil]),
io (.st 2 (.t 17) (.t 76)),
io (.st 10 (.t 18) (.t 77)),
ia 19 (.mv (.t 78))]) (.fz [1, 2, 4, 5, 7, 8, 10, 11, 13, 14, 16, 17, 18] (.seq (.reg [
  ia 79 (.fad 1 (.t 16)),
io (.st 1 (.t 79) (ci 9))]) (.fz [1, 2, 4, 5, 7, 8, 10, 11, 13, 14, 16, 17, 18] (.seq (.reg [
  ia 81 (.ld 2 true (.t 16)),
ia 82 (.call (.f 26) [(.t 81), (ci 2)]),
ia 80 (.mv (.t 82)),
ia 83 (.ext (.t 80) 0),
ia 84 (.ext (.t 80) 1),
ia 85 (.ext (.t 80) 2),
ia 20 (.new [.nil, (.p (.i .i64 0))]),
ia 21 (.new [(.p (.i .i64 0)), (.p (.b false)), (.p (.i .i64 0)), (.p (.i .i64 0)), (.p (.i .i64 0)), (.p (.i .i64 0)), (.p (.i .i64 0)), (.p (.s [])), .nil, .nil]),
io (.st 2 (.t 20) (.t 83)),
io (.st 10 (.t 21) (.t 84)),
ia 22 (.mv (.t 85))]) (.fz [1, 2, 4, 5, 7, 8, 10, 11, 13, 14, 16, 17, 18, 20, 21] (.seq (.reg [
  ia 86 (.mv (.t 3)),
ia 87 (.bin .eql (.t 86) (ci 0)),
ia 88 (.mv (.t 87)),
ig 89 88 true (.fad 0 (.t 2)),
ig 90 88 true (.ld 1 false (.t 89)),
ig 91 88 true (.bin .eql (.t 90) (ci 1)),
ia 92 (.pick (.t 88) (.t 91) (.c (.a (.p (.b false))))),
ia 93 (.mv (.t 92)),
ig 94 93 true (.fad 1 (.t 2)),
ig 95 93 true (.ld 1 false (.t 94)),
ig 96 93 true (.not (.t 95)),
ia 97 (.pick (.t 93) (.t 96) (.c (.a (.p (.b false))))),
ia 98 (.mv (.t 97)),
ig 99 98 true (.fad 0 (.t 1)),
ig 100 98 true (.ld 1 false (.t 99)),
ig 101 98 true (.len false (.t 100)),
ig 102 98 true (.bin .eql (.t 101) (ci 4)),
ia 103 (.pick (.t 98) (.t 102) (.c (.a (.p (.b false))))),
ia 104 (.mv (.t 103)),
ig 105 104 true (.ld 2 true (.t 1)),
ig 106 104 true (.call (.f 30) [(.t 105)]),
ig 107 104 true (.bin .eql (.t 106) (ci 2)),
ia 108 (.pick (.t 104) (.t 107) (.c (.a (.p (.b false))))),
ia 109 (.mv (.t 108)),
ih 110 109 true (.fad 0 (.t 1)),
ih 111 109 true (.ld 1 false (.t 110)),
ih 112 109 true (.ias 6 (.t 111) (ci 0)),
ih 113 109 true (.fad 5 (.t 112)),
ih 114 109 true (.ld 1 false (.t 113)),
ih 115 109 true (.ias 2 (.t 114) (ci 0)),
ih 116 109 true (.ld 2 true (.t 115)),
ih 117 109 true (.call (.f 44) [(ci 3), (ci 0)]),
ig 118 109 true (.eqg false [0, 0] (.t 116) (.t 117)),
ia 119 (.pick (.t 109) (.t 118) (.c (.a (.p (.b false))))),
ia 120 (.mv (.t 119)),
ig 121 120 true (.ld 2 true (.t 1)),
ig 122 120 true (.call (.f 25) [(.t 121)]),
ig 123 120 true (.bin .eql (.t 122) (ci 0)),
ia 124 (.pick (.t 120) (.t 123) (.c (.a (.p (.b false))))),
ia 125 (.mv (.t 124)),
ig 126 125 true (.mv (.t 6)),
ig 127 125 true (.bin .eql (.t 126) (ci 0)),
ia 128 (.pick (.t 125) (.t 127) (.c (.a (.p (.b false))))),
ia 129 (.mv (.t 128)),
ig 130 129 true (.fad 1 (.t 5)),
ig 131 129 true (.ld 1 false (.t 130)),
ia 132 (.pick (.t 129) (.t 131) (.c (.a (.p (.b false))))),
ia 133 (.mv (.t 132)),
ih 134 133 true (.ld 2 true (.t 1)),
ih 135 133 true (.ld 2 true (.t 4)),
ig 136 133 true (.call (.f 27) [(.t 134), (.t 135)]),
ia 137 (.pick (.t 133) (.t 136) (.c (.a (.p (.b false))))),
ia 138 (.mv (.t 137)),
ig 139 138 true (.mv (.t 9)),
ig 140 138 true (.bin .eql (.t 139) (ci 122)),
ia 141 (.pick (.t 138) (.t 140) (.c (.a (.p (.b false))))),
ia 142 (.mv (.t 141)),
ig 143 142 true (.mv (.t 12)),
ig 144 142 true (.bin .eql (.t 143) (ci 122)),
ia 145 (.pick (.t 142) (.t 144) (.c (.a (.p (.b false))))),
ia 146 (.mv (.t 145)),
ig 147 146 true (.mv (.t 15)),
ig 148 146 true (.bin .eql (.t 147) (ci 120)),
ia 149 (.pick (.t 146) (.t 148) (.c (.a (.p (.b false))))),
ia 150 (.mv (.t 149)),
ig 151 150 true (.mv (.t 19)),
ig 152 150 true (.bin .eql (.t 151) (ci 121)),
ia 153 (.pick (.t 150) (.t 152) (.c (.a (.p (.b false))))),
ia 154 (.mv (.t 153)),
ig 155 154 true (.mv (.t 22)),
ig 156 154 true (.bin .eql (.t 155) (ci 0)),
ia 157 (.pick (.t 154) (.t 156) (.c (.a (.p (.b false))))),
ia 158 (.mv (.t 157)),
ig 159 158 true (.fad 0 (.t 21)),
ig 160 158 true (.ld 1 false (.t 159)),
ig 161 158 true (.bin .eql (.t 160) (ci 7)),
ia 162 (.pick (.t 158) (.t 161) (.c (.a (.p (.b false))))),
ia 163 (.mv (.t 162)),
ig 164 163 true (.fad 1 (.t 21)),
ig 165 163 true (.ld 1 false (.t 164)),
ia 166 (.pick (.t 163) (.t 165) (.c (.a (.p (.b false))))),
ia 167 (.mv (.t 166)),
ig 168 167 true (.ld 2 true (.t 20)),
ig 169 167 true (.call (.f 30) [(.t 168)]),
ig 170 167 true (.bin .eql (.t 169) (ci 6)),
ia 171 (.pick (.t 167) (.t 170) (.c (.a (.p (.b false))))),
ia 172 (.mv (.t 171)),
ig 173 172 true (.ld 2 true (.t 20)),
ig 174 172 true (.call (.f 25) [(.t 173)]),
ig 175 172 true (.bin .eql (.t 174) (ci 0)),
ia 176 (.pick (.t 172) (.t 175) (.c (.a (.p (.b false))))),
ia 177 (.mv (.t 176)),
ig 178 177 true (.fad 0 (.t 20)),
ig 179 177 true (.ld 1 false (.t 178)),
ig 180 177 true (.len false (.t 179)),
ig 181 177 true (.bin .eql (.t 180) (ci 8)),
ia 182 (.pick (.t 177) (.t 181) (.c (.a (.p (.b false))))),
ia 183 (.mv (.t 182)),
ig 184 183 true (.fad 0 (.t 20)),
ig 185 183 true (.ld 1 false (.t 184)),
ig 186 183 true (.ias 6 (.t 185) (ci 7)),
ig 187 183 true (.fad 0 (.t 186)),
ig 188 183 true (.ld 1 false (.t 187)),
ig 189 183 true (.bin .eql (.t 188) (ci 4)),
ia 190 (.pick (.t 183) (.t 189) (.c (.a (.p (.b false))))),
ia 0 (.mv (.t 190))]) .ret)))))))))))))))))))), [(.tmp 0)]⟩
theorem cc23 : ccF Try.prog [(58, [0, 0]), (61, [1, 0]), (75, [0, 0]), (58, [9]), (91, [8]), (93, [8]), (72, [8]), (92, [8]), (76, [8])] Try.f23 = some (stripF F23) := by kernel_rfl

/- gossamer/gossamerref12.Small -/
def F24b0 : C := (.seq (.seq (.reg [
  ia 6 (.mv (.t 5)),
ia 7 (.fad 0 (.t 2)),
ia 8 (.ld 1 false (.t 7)),
ia 9 (.len false (.t 8)),
ia 10 (.bin .lss (.t 6) (.t 9))]) (.cond (.t 10) .skip (.exit 0))) (.seq (.block 1 (.seq (.reg [
  ia 13 (.fad 0 (.t 2)),
ia 14 (.ld 1 false (.t 13)),
ia 15 (.mv (.t 5)),
ia 16 (.ias 6 (.t 14) (.t 15)),
ia 17 (.fad 5 (.t 16)),
ia 18 (.ld 1 false (.t 17)),
ia 19 (.len false (.t 18)),
ia 20 (.bin .gtr (.t 19) (ci 12)),
ia 21 (.mv (.t 20)),
ig 22 21 false (.fad 0 (.t 2)),
ig 23 21 false (.ld 1 false (.t 22)),
ig 24 21 false (.mv (.t 5)),
ig 25 21 false (.ias 6 (.t 23) (.t 24)),
ig 26 21 false (.fad 4 (.t 25)),
ig 27 21 false (.ld 1 false (.t 26)),
ig 28 21 false (.len false (.t 27)),
ig 29 21 false (.bin .gtr (.t 28) (ci 12)),
ia 30 (.pick (.t 21) (.c (.a (.p (.b true)))) (.t 29))]) (.cond (.t 30) (.seq (.reg [
  ia 4 (.mv (.c (.a (.p (.b false)))))]) .ret) .skip))) (.reg [
  ia 11 (.mv (.t 5)),
ia 12 (.bin .add (.t 11) (ci 1)),
ia 5 (.mv (.t 12))])))
def F24 : FnC := ⟨2, (.seq (.reg [
  ia 2 (.box 2 (.t 0)),
ia 4 (.mv (.c (.a (.p (.b false)))))]) (.seq (.seq (.reg [
  ia 5 (.mv (ci 0))]) (.block 0 (.loop F24b0))) (.seq (.reg [
  ia 31 (.fad 0 (.t 2)),
ia 32 (.ld 1 false (.t 31)),
ia 33 (.len false (.t 32)),
ia 34 (.mv (.t 1)),
ia 35 (.bin .leq (.t 33) (.t 34)),
ia 4 (.mv (.t 35))]) .ret))), [(.tmp 4)]⟩
theorem cc24 : ccF Try.prog [(58, [0, 0]), (61, [1, 0]), (75, [0, 0]), (58, [9]), (91, [8]), (93, [8]), (72, [8]), (92, [8]), (76, [8])] Try.f24 = some (stripF F24) := by kernel_rfl

/- gossamer/gossamerref12.Check -/
def F25b1 : C := (.seq (.seq (.reg [
  ia 73 (.mv (.t 5)),
ia 74 (.fad 5 (.t 4)),
ia 75 (.ld 1 false (.t 74)),
ia 76 (.len false (.t 75)),
ia 77 (.bin .lss (.t 73) (.t 76))]) (.cond (.t 77) .skip (.exit 2))) (.seq (.block 3 (.seq (.reg [
  ia 80 (.mv (.t 3)),
ia 81 (.mv (.t 5)),
ia 82 (.build [(.p (.i .i64 0)), (.p (.i .i64 0))] [(0, (1, (.t 80))), (1, (1, (.t 81)))]),
ia 6 (.new [(.p (.i .i64 0)), (.p (.i .i64 0))]),
io (.st 2 (.t 6) (.t 82))]) (.seq (.reg [
  ia 83 (.fad 5 (.t 4)),
ia 84 (.ld 1 false (.t 83)),
ia 85 (.mv (.t 5)),
ia 86 (.ias 2 (.t 84) (.t 85)),
ia 87 (.ld 2 true (.t 86)),
ia 7 (.new [(.p (.i .i64 0)), (.p (.i .i64 0))]),
io (.st 2 (.t 7) (.t 87))]) (.seq (.reg [
  ir 88 (.ld 2 true (.t 7)),
ir 89 (.ld 2 true (.t 6)),
ia 90 (.eqg false [0, 0] (.t 88) (.t 89)),
ia 91 (.mv (.t 90)),
ih 92 91 false (.ld 2 true (.t 1)),
ih 93 91 false (.ld 2 true (.t 7)),
ig 94 91 false (.call (.f 45) [(.t 92), (.t 93)]),
ig 95 91 false (.not (.t 94)),
ia 96 (.pick (.t 91) (.c (.a (.p (.b true)))) (.t 95)),
ia 97 (.mv (.t 96)),
ih 98 97 false (.fad 0 (.t 1)),
ih 99 97 false (.ld 1 false (.t 98)),
ih 100 97 false (.fad 0 (.t 7)),
ih 101 97 false (.ld 1 false (.t 100)),
ih 102 97 false (.ias 6 (.t 99) (.t 101)),
ih 103 97 false (.fad 5 (.t 102)),
ih 104 97 false (.ld 1 false (.t 103)),
ih 105 97 false (.fad 1 (.t 7)),
ih 106 97 false (.ld 1 false (.t 105)),
ih 107 97 false (.ias 2 (.t 104) (.t 106)),
ih 108 97 false (.ld 2 true (.t 107)),
ih 109 97 false (.ld 2 true (.t 6)),
ig 110 97 false (.eqg true [0, 0] (.t 108) (.t 109)),
ia 111 (.pick (.t 97) (.c (.a (.p (.b true)))) (.t 110))]) (.cond (.t 111) (.seq (.reg [
  ia 2 (.mv (ci 120))]) .ret) .skip))))) (.reg [
  ia 78 (.mv (.t 5)),
ia 79 (.bin .add (.t 78) (ci 1)),
ia 5 (.mv (.t 79))])))
def F25b0 : C := (.seq (.seq (.reg [
  ia 42 (.mv (.t 3)),
ia 43 (.fad 0 (.t 1)),
ia 44 (.ld 1 false (.t 43)),
ia 45 (.len false (.t 44)),
ia 46 (.bin .lss (.t 42) (.t 45))]) (.cond (.t 46) .skip (.exit 0))) (.seq (.block 1 (.seq (.reg [
  ia 49 (.fad 0 (.t 1)),
ia 50 (.ld 1 false (.t 49)),
ia 51 (.mv (.t 3)),
ia 52 (.ias 6 (.t 50) (.t 51)),
ia 53 (.ld 6 true (.t 52)),
ia 4 (.new [(.p (.i .i64 0)), (.p (.i .i64 0)), (.p (.i .i64 0)), (.p (.s [])), .nil, .nil]),
io (.st 6 (.t 4) (.t 53))]) (.seq (.seq (.reg [
  ia 54 (.ld 6 true (.t 4)),
ia 55 (.call (.f 17) [(.t 54)]),
ia 56 (.not (.t 55)),
ia 57 (.mv (.t 56)),
ih 58 57 false (.fad 5 (.t 4)),
ih 59 57 false (.ld 1 false (.t 58)),
ih 60 57 false (.len false (.t 59)),
ih 61 57 false (.ld 6 true (.t 4)),
ih 62 57 false (.call (.f 21) [(.t 61)]),
ig 63 57 false (.bin .neq (.t 60) (.t 62)),
ia 64 (.pick (.t 57) (.c (.a (.p (.b true)))) (.t 63)),
ia 65 (.mv (.t 64)),
ih 66 65 false (.mv (.t 3)),
ih 67 65 false (.bin .eql (.t 66) (ci 0)),
ih 68 65 false (.fad 0 (.t 4)),
ih 69 65 false (.ld 1 false (.t 68)),
ih 70 65 false (.bin .eql (.t 69) (ci 1)),
ig 71 65 false (.eqb true (.t 67) (.t 70)),
ia 72 (.pick (.t 65) (.c (.a (.p (.b true)))) (.t 71))]) (.cond (.t 72) (.seq (.reg [
  ia 2 (.mv (ci 120))]) .ret) .skip)) (.seq (.reg [
  ia 5 (.mv (ci 0))]) (.block 2 (.loop F25b1)))))) (.reg [
  ia 47 (.mv (.t 3)),
ia 48 (.bin .add (.t 47) (ci 1)),
ia 3 (.mv (.t 48))])))
def F25 : FnC := ⟨1, (.seq (.reg [
  ia 1 (.box 2 (.t 0)),
ia 2 (.mv (ci 0))]) (.seq (.seq (.reg [
  ia 8 (.fad 1 (.t 1)),
ia 9 (.ld 1 false (.t 8)),
ia 10 (.bin .lss (.t 9) (ci 1)),
ia 11 (.mv (.t 10)),
ig 12 11 false (.fad 1 (.t 1)),
ig 13 11 false (.ld 1 false (.t 12)),
ig 14 11 false (.bin .gtr (.t 13) (ci 4000)),
ia 15 (.pick (.t 11) (.c (.a (.p (.b true)))) (.t 14)),
ia 16 (.mv (.t 15)),
ig 17 16 false (.fad 0 (.t 1)),
ig 18 16 false (.ld 1 false (.t 17)),
ig 19 16 false (.len false (.t 18)),
ig 20 16 false (.bin .lss (.t 19) (ci 1)),
ia 21 (.pick (.t 16) (.c (.a (.p (.b true)))) (.t 20)),
ia 22 (.mv (.t 21)),
ig 23 22 false (.fad 0 (.t 1)),
ig 24 22 false (.ld 1 false (.t 23)),
ig 25 22 false (.len false (.t 24)),
ig 26 22 false (.fad 1 (.t 1)),
ig 27 22 false (.ld 1 false (.t 26)),
ig 28 22 false (.bin .gtr (.t 25) (.t 27)),
ia 29 (.pick (.t 22) (.c (.a (.p (.b true)))) (.t 28)),
ia 30 (.mv (.t 29)),
ig 31 30 false (.fad 0 (.t 1)),
ig 32 30 false (.ld 1 false (.t 31)),
ig 33 30 false (.fad 0 (.t 1)),
ig 34 30 false (.ld 1 false (.t 33)),
ig 35 30 false (.len false (.t 34)),
ig 36 30 false (.bin .sub (.t 35) (ci 1)),
ig 37 30 false (.ias 6 (.t 32) (.t 36)),
ig 38 30 false (.fad 0 (.t 37)),
ig 39 30 false (.ld 1 false (.t 38)),
ig 40 30 false (.bin .eql (.t 39) (ci 0)),
ia 41 (.pick (.t 30) (.c (.a (.p (.b true)))) (.t 40))]) (.cond (.t 41) (.seq (.reg [
  ia 2 (.mv (ci 120))]) .ret) .skip)) (.seq (.seq (.reg [
  ia 3 (.mv (ci 0))]) (.block 0 (.loop F25b0))) (.seq (.reg [
  ia 2 (.mv (ci 0))]) .ret)))), [(.tmp 2)]⟩
theorem cc25 : ccF Try.prog [(58, [0, 0]), (61, [1, 0]), (75, [0, 0]), (58, [9]), (91, [8]), (93, [8]), (72, [8]), (92, [8]), (76, [8])] Try.f25 = some (stripF F25) := by kernel_rfl

/- gossamer/act.Do -/
def F26 : FnC := ⟨2, (.seq (.reg [
  ia 2 (.box 2 (.t 0)),
ia 4 (.new [.nil, (.p (.i .i64 0))]),
ia 5 (.new [(.p (.i .i64 0)), (.p (.b false)), (.p (.i .i64 0)), (.p (.i .i64 0)), (.p (.i .i64 0)), (.p (.i .i64 0)), (.p (.i .i64 0)), (.p (.s [])), .nil, .nil]),
ia 6 (.mv (ci 0))]) (.seq (.seq (.reg [
  ia 12 (.ld 2 true (.t 2)),
ia 13 (.call (.f 46) [(.t 12)]),
ia 7 (.mv (.t 13))]) (.seq (.reg [
  ia 14 (.mv (.t 7)),
ia 15 (.bin .neq (.t 14) (ci 0))]) (.cond (.t 15) (.seq (.reg [
  ia 16 (.ld 2 true (.t 2)),
ia 17 (.build [(.p (.i .i64 0)), (.p (.b false)), (.p (.i .i64 0)), (.p (.i .i64 0)), (.p (.i .i64 0)), (.p (.i .i64 0)), (.p (.i .i64 0)), (.p (.s [])), .nil, .nil] []),
ia 18 (.mv (.t 7)),
io (.st 2 (.t 4) (.t 16)),
io (.st 10 (.t 5) (.t 17)),
ia 6 (.mv (.t 18))]) .ret) .skip))) (.seq (.reg [
  ia 19 (.ld 2 true (.t 2)),
ia 20 (.mv (.t 1)),
ia 21 (.call (.f 47) [(.t 19), (.t 20)]),
ia 8 (.mv (.t 21))]) (.seq (.seq (.reg [
  ia 22 (.mv (.t 8)),
ia 23 (.bin .lss (.t 22) (ci 0))]) (.cond (.t 23) (.seq (.reg [
  ia 24 (.ld 2 true (.t 2)),
ia 25 (.build [(.p (.i .i64 0)), (.p (.b false)), (.p (.i .i64 0)), (.p (.i .i64 0)), (.p (.i .i64 0)), (.p (.i .i64 0)), (.p (.i .i64 0)), (.p (.s [])), .nil, .nil] []),
io (.st 2 (.t 4) (.t 24)),
io (.st 10 (.t 5) (.t 25)),
ia 6 (.mv (ci 122))]) .ret) .skip)) (.seq (.reg [
  ir 27 (.fad 0 (.t 2)),
ir 28 (.ld 1 false (.t 27)),
ir 29 (.mv (.t 1)),
ir 30 (.ias 6 (.t 28) (.t 29)),
ir 31 (.ld 6 true (.t 30)),
ir 32 (.fad 0 (.t 2)),
ir 33 (.ld 1 false (.t 32)),
ir 34 (.mv (.t 8)),
ir 35 (.ias 6 (.t 33) (.t 34)),
ir 36 (.ld 6 true (.t 35)),
ir 37 (.call (.f 14) [(.t 31), (.t 36)]),
ir 26 (.mv (.t 37)),
ir 38 (.ext (.t 26) 0),
ir 39 (.ext (.t 26) 1),
⟨(.some 9), .none, (.new [(.p (.i .i64 0)), (.p (.b false)), (.p (.i .i64 0)), (.p (.i .i64 0)), (.p (.i .i64 0)), (.p (.i .i64 0)), (.p (.i .i64 0)), (.p (.s [])), .nil, .nil]), .ad⟩,
⟨.none, .none, (.st 10 (.t 9) (.t 38)), (.wr [])⟩,
ia 10 (.mv (.t 39))]) (.seq (.block 0 (.seq (.reg [
  ia 41 (.mv (.t 10)),
ia 42 (.bin .neq (.t 41) (ci 0)),
ia 40 (.mv (.t 42))]) (.cond (.t 40) (.seq (.reg [
  ia 43 (.ld 2 true (.t 2)),
ia 44 (.build [(.p (.i .i64 0)), (.p (.b false)), (.p (.i .i64 0)), (.p (.i .i64 0)), (.p (.i .i64 0)), (.p (.i .i64 0)), (.p (.i .i64 0)), (.p (.s [])), .nil, .nil] []),
ia 45 (.mv (.t 10)),
io (.st 2 (.t 4) (.t 43)),
io (.st 10 (.t 5) (.t 44)),
ia 6 (.mv (.t 45))]) .ret) (.seq (.reg [
  ir 47 (.ld 2 true (.t 2)),
ir 48 (.call (.f 48) [(.t 47)]),
ir 49 (.ld 10 true (.t 9)),
ir 50 (.fad 0 (.t 2)),
ir 51 (.ld 1 false (.t 50)),
ir 52 (.mv (.t 1)),
ir 53 (.ias 6 (.t 51) (.t 52)),
ir 54 (.ld 6 true (.t 53)),
ir 55 (.fad 0 (.t 2)),
ir 56 (.ld 1 false (.t 55)),
ir 57 (.mv (.t 8)),
ir 58 (.ias 6 (.t 56) (.t 57)),
ir 59 (.ld 6 true (.t 58)),
ir 60 (.call (.f 16) [(.t 49), (.t 54), (.t 59)]),
ir 61 (.bin .add (.t 48) (.t 60)),
ir 62 (.fad 1 (.t 2)),
ir 63 (.ld 1 false (.t 62)),
ia 64 (.bin .gtr (.t 61) (.t 63)),
ia 46 (.mv (.t 64))]) (.cond (.t 46) (.seq (.reg [
  ia 65 (.ld 2 true (.t 2)),
ia 66 (.build [(.p (.i .i64 0)), (.p (.b false)), (.p (.i .i64 0)), (.p (.i .i64 0)), (.p (.i .i64 0)), (.p (.i .i64 0)), (.p (.i .i64 0)), (.p (.s [])), .nil, .nil] []),
io (.st 2 (.t 4) (.t 65)),
io (.st 10 (.t 5) (.t 66)),
ia 6 (.mv (ci 121))]) .ret) .skip))))) (.seq (.reg [
  ia 67 (.ld 2 true (.t 2)),
ia 68 (.ld 10 true (.t 9)),
ia 69 (.mv (.t 1)),
ia 70 (.mv (.t 8)),
ia 71 (.build [.nil, (.p (.i .i64 0)), (.p (.i .i64 0)), (.p (.b false)), (.p (.i .i64 0)), (.p (.i .i64 0)), (.p (.i .i64 0)), (.p (.i .i64 0)), (.p (.i .i64 0)), (.p (.s [])), .nil, .nil, (.p (.i .i64 0)), (.p (.i .i64 0))] [(0, (2, (.t 67))), (2, (10, (.t 68))), (12, (1, (.t 69))), (13, (1, (.t 70)))]),
ia 72 (.box 14 (.t 71)),
ia 11 (.mv (.t 72))]) (.seq (.seq (.reg [
  ia 73 (.fad 1 (.t 9)),
ia 74 (.ld 1 false (.t 73))]) (.cond (.t 74) (.reg [
  ia 75 (.mv (.t 11)),
ia 76 (.mv (.t 11)),
ia 77 (.mv (.t 8)),
ia 78 (.mv (.t 1)),
ia 79 (.nck (.t 75)),
ia 80 (.fad 12 (.t 79)),
io (.st 1 (.t 80) (.t 77)),
ia 81 (.nck (.t 76)),
ia 82 (.fad 13 (.t 81)),
io (.st 1 (.t 82) (.t 78))]) .skip)) (.seq (.reg [
  ia 83 (.mv (.t 11)),
ia 84 (.call (.f 49) [(.t 83)])]) (.seq (.reg [
  ir 85 (.mv (.t 11)),
ir 86 (.nck (.t 85)),
ir 87 (.fad 0 (.t 86)),
ir 88 (.ld 2 true (.t 87)),
ir 89 (.ld 10 true (.t 9)),
⟨.none, .none, (.st 2 (.t 4) (.t 88)), (.wr [9])⟩,
io (.st 10 (.t 5) (.t 89)),
ia 6 (.mv (ci 0))]) .ret)))))))))), [(.cell 4 2 true), (.cell 5 10 true), (.tmp 6)]⟩
theorem cc26 : ccF Try.prog [(58, [0, 0]), (61, [1, 0]), (75, [0, 0]), (58, [9]), (91, [8]), (93, [8]), (72, [8]), (92, [8]), (76, [8])] Try.f26 = some (stripF F26) := by kernel_rfl

/- gossamer/gossamerref12.Same -/
def F27b0 : C := (.seq (.seq (.reg [
  ia 20 (.mv (.t 5)),
ia 21 (.fad 0 (.t 2)),
ia 22 (.ld 1 false (.t 21)),
ia 23 (.len false (.t 22)),
ia 24 (.bin .lss (.t 20) (.t 23))]) (.cond (.t 24) .skip (.exit 0))) (.seq (.block 1 (.seq (.reg [
  ir 27 (.fad 0 (.t 2)),
ir 28 (.ld 1 false (.t 27)),
ir 29 (.mv (.t 5)),
ir 30 (.ias 6 (.t 28) (.t 29)),
ir 31 (.ld 6 true (.t 30)),
ir 32 (.fad 0 (.t 3)),
ir 33 (.ld 1 false (.t 32)),
ir 34 (.mv (.t 5)),
ir 35 (.ias 6 (.t 33) (.t 34)),
ir 36 (.ld 6 true (.t 35)),
ia 37 (.call (.f 31) [(.t 31), (.t 36)]),
ia 38 (.not (.t 37))]) (.cond (.t 38) (.seq (.reg [
  ia 4 (.mv (.c (.a (.p (.b false)))))]) .ret) .skip))) (.reg [
  ia 25 (.mv (.t 5)),
ia 26 (.bin .add (.t 25) (ci 1)),
ia 5 (.mv (.t 26))])))
def F27 : FnC := ⟨2, (.seq (.reg [
  ia 2 (.box 2 (.t 0)),
ia 3 (.box 2 (.t 1)),
ia 4 (.mv (.c (.a (.p (.b false)))))]) (.seq (.seq (.reg [
  ia 6 (.fad 1 (.t 2)),
ia 7 (.ld 1 false (.t 6)),
ia 8 (.fad 1 (.t 3)),
ia 9 (.ld 1 false (.t 8)),
ia 10 (.bin .neq (.t 7) (.t 9)),
ia 11 (.mv (.t 10)),
ig 12 11 false (.fad 0 (.t 2)),
ig 13 11 false (.ld 1 false (.t 12)),
ig 14 11 false (.len false (.t 13)),
ig 15 11 false (.fad 0 (.t 3)),
ig 16 11 false (.ld 1 false (.t 15)),
ig 17 11 false (.len false (.t 16)),
ig 18 11 false (.bin .neq (.t 14) (.t 17)),
ia 19 (.pick (.t 11) (.c (.a (.p (.b true)))) (.t 18))]) (.cond (.t 19) (.seq (.reg [
  ia 4 (.mv (.c (.a (.p (.b false)))))]) .ret) .skip)) (.seq (.seq (.reg [
  ia 5 (.mv (ci 0))]) (.block 0 (.loop F27b0))) (.seq (.reg [
  ia 4 (.mv (.c (.a (.p (.b true)))))]) .ret)))), [(.tmp 4)]⟩
theorem cc27 : ccF Try.prog [(58, [0, 0]), (61, [1, 0]), (75, [0, 0]), (58, [9]), (91, [8]), (93, [8]), (72, [8]), (92, [8]), (76, [8])] Try.f27 = some (stripF F27) := by kernel_rfl

/- gossamer/gossamerref15.Meets -/
def F28 : FnC := ⟨2, (.seq (.reg [
  ia 2 (.box 2 (.t 0)),
ia 4 (.mv (ci 0))]) (.seq (.reg [
  ir 8 (.ld 2 true (.t 2)),
ir 9 (.mv (.t 1)),
ir 10 (.call (.f 51) [(.t 9), (ci 0)]),
ir 11 (.call (.f 50) [(.t 8), (.t 10)]),
ir 7 (.mv (.t 11)),
ir 12 (.ext (.t 7) 0),
ir 13 (.ext (.t 7) 1),
⟨(.some 5), .none, (.new [(.p (.i .i64 0)), (.p (.i .i64 0))]), .ad⟩,
⟨.none, .none, (.st 2 (.t 5) (.t 12)), (.wr [])⟩,
ia 6 (.mv (.t 13))]) (.seq (.seq (.reg [
  ia 14 (.mv (.t 6)),
ia 15 (.bin .neq (.t 14) (ci 0)),
ia 16 (.mv (.t 15)),
ig 17 16 false (.fad 1 (.t 5)),
ig 18 16 false (.ld 1 false (.t 17)),
ig 19 16 false (.bin .neq (.t 18) (ci 0)),
ia 20 (.pick (.t 16) (.c (.a (.p (.b true)))) (.t 19))]) (.cond (.t 20) (.seq (.reg [
  ia 4 (.mv (.c (.a (.p (.i .i64 (-1))))))]) .ret) .skip)) (.seq (.reg [
  ia 21 (.fad 0 (.t 5)),
ia 22 (.ld 1 false (.t 21)),
ia 4 (.mv (.t 22))]) .ret)))), [(.tmp 4)]⟩
theorem cc28 : ccF Try.prog [(58, [0, 0]), (61, [1, 0]), (75, [0, 0]), (58, [9]), (91, [8]), (93, [8]), (72, [8]), (92, [8]), (76, [8])] Try.f28 = some (stripF F28) := by kernel_rfl

/- gossamer/gossamerref14.Need -/
def F29 : FnC := ⟨3, (.seq (.reg [
  ia 3 (.box 10 (.t 0)),
ia 4 (.box 6 (.t 1)),
ia 5 (.box 6 (.t 2)),
ia 6 (.mv (ci 0))]) (.seq (.seq (.reg [
  ia 8 (.fad 1 (.t 3)),
ia 9 (.ld 1 false (.t 8))]) (.cond (.t 9) (.reg [
  ia 10 (.ld 6 true (.t 5)),
ia 11 (.ld 6 true (.t 4)),
io (.st 6 (.t 4) (.t 10)),
io (.st 6 (.t 5) (.t 11))]) .skip)) (.seq (.reg [
  ia 12 (.fad 5 (.t 5)),
ia 13 (.ld 1 false (.t 12)),
ia 14 (.len false (.t 13)),
ia 15 (.bin .sub (.t 14) (ci 1)),
ia 16 (.mx (.t 15) (ci 0)),
ia 7 (.mv (.t 16))]) (.seq (.seq (.reg [
  ia 17 (.fad 0 (.t 3)),
ia 18 (.ld 1 false (.t 17))]) (.block 0 (.seq (.reg [
  ia 20 (.bin .eql (.t 18) (ci 2)),
ia 19 (.mv (.t 20))]) (.cond (.t 19) (.seq (.seq (.reg [
  ia 21 (.fad 3 (.t 3)),
ia 22 (.ld 1 false (.t 21)),
ia 23 (.bin .lss (.t 22) (ci 0)),
ia 24 (.mv (.t 23)),
ig 25 24 false (.fad 3 (.t 3)),
ig 26 24 false (.ld 1 false (.t 25)),
ig 27 24 false (.fad 4 (.t 4)),
ig 28 24 false (.ld 1 false (.t 27)),
ig 29 24 false (.len false (.t 28)),
ig 30 24 false (.bin .geq (.t 26) (.t 29)),
ia 31 (.pick (.t 24) (.c (.a (.p (.b true)))) (.t 30))]) (.cond (.t 31) (.seq (.reg [
  ia 6 (.mv (ci 0))]) .ret) .skip)) (.seq (.reg [
  ir 32 (.fad 4 (.t 4)),
ir 33 (.ld 1 false (.t 32)),
ir 34 (.fad 3 (.t 3)),
ir 35 (.ld 1 false (.t 34)),
ir 36 (.ias 2 (.t 33) (.t 35)),
ir 37 (.fad 1 (.t 36)),
ir 38 (.ld 1 false (.t 37)),
ir 39 (.fad 4 (.t 4)),
ir 40 (.ld 1 false (.t 39)),
ir 41 (.len false (.t 40)),
ia 42 (.bin .add (.t 38) (.t 41)),
ia 43 (.bin .sub (.t 42) (ci 1)),
ia 6 (.mv (.t 43))]) .ret)) (.seq (.seq (.reg [
  ia 45 (.bin .eql (.t 18) (ci 3)),
ia 44 (.mv (.t 45))]) (.cond (.t 44) .skip (.reg [
  ia 46 (.bin .eql (.t 18) (ci 4)),
ia 44 (.mv (.t 46))]))) (.cond (.t 44) (.seq (.reg [
  ia 6 (.mv (ci 1))]) .ret) (.seq (.reg [
  ia 48 (.bin .eql (.t 18) (ci 5)),
ia 47 (.mv (.t 48))]) (.cond (.t 47) (.seq (.reg [
  ia 49 (.fad 5 (.t 4)),
ia 50 (.ld 1 false (.t 49)),
ia 51 (.len false (.t 50)),
ia 52 (.bin .sub (.t 51) (ci 2)),
ia 53 (.mx (.t 52) (ci 0)),
ia 54 (.bin .add (ci 1) (.t 53)),
ia 55 (.mv (.t 7)),
ia 56 (.bin .add (.t 54) (.t 55)),
ia 6 (.mv (.t 56))]) .ret) (.seq (.reg [
  ia 58 (.bin .eql (.t 18) (ci 7)),
ia 57 (.mv (.t 58))]) (.cond (.t 57) (.seq (.seq (.reg [
  ia 59 (.fad 0 (.t 4)),
ia 60 (.ld 1 false (.t 59)),
ia 61 (.bin .eql (.t 60) (ci 4))]) (.cond (.t 61) (.seq (.reg [
  ia 62 (.mv (.t 7)),
ia 63 (.bin .add (ci 2) (.t 62)),
ia 6 (.mv (.t 63))]) .ret) .skip)) (.seq (.reg [
  ia 64 (.mv (.t 7)),
ia 65 (.bin .add (ci 1) (.t 64)),
ia 6 (.mv (.t 65))]) .ret)) (.seq (.reg [
  ia 67 (.bin .eql (.t 18) (ci 8)),
ia 66 (.mv (.t 67))]) (.cond (.t 66) (.seq (.reg [
  ia 68 (.mv (.t 7)),
ia 6 (.mv (.t 68))]) .ret) .skip)))))))))))) (.seq (.reg [
  ia 6 (.mv (ci 0))]) .ret))))), [(.tmp 6)]⟩
theorem cc29 : ccF Try.prog [(58, [0, 0]), (61, [1, 0]), (75, [0, 0]), (58, [9]), (91, [8]), (93, [8]), (72, [8]), (92, [8]), (76, [8])] Try.f29 = some (stripF F29) := by kernel_rfl

/- gossamer/gossamerref12.Used -/
def F30b0 : C := (.seq (.seq (.reg [
  ia 5 (.mv (.t 4)),
ia 6 (.fad 0 (.t 1)),
ia 7 (.ld 1 false (.t 6)),
ia 8 (.len false (.t 7)),
ia 9 (.bin .lss (.t 5) (.t 8))]) (.cond (.t 9) .skip (.exit 0))) (.seq (.block 1 (.seq (.reg [
  ia 12 (.fad 0 (.t 1)),
ia 13 (.ld 1 false (.t 12)),
ia 14 (.mv (.t 4)),
ia 15 (.ias 6 (.t 13) (.t 14)),
ia 16 (.fad 0 (.t 15)),
ia 17 (.ld 1 false (.t 16)),
ia 18 (.bin .neq (.t 17) (ci 0))]) (.cond (.t 18) (.reg [
  ia 19 (.mv (.t 3)),
ia 20 (.bin .add (.t 19) (ci 1)),
ia 3 (.mv (.t 20))]) .skip))) (.reg [
  ia 10 (.mv (.t 4)),
ia 11 (.bin .add (.t 10) (ci 1)),
ia 4 (.mv (.t 11))])))
def F30 : FnC := ⟨1, (.seq (.reg [
  ia 1 (.box 2 (.t 0)),
ia 2 (.mv (ci 0))]) (.seq (.reg [
  ia 3 (.mv (ci 0))]) (.seq (.seq (.reg [
  ia 4 (.mv (ci 0))]) (.block 0 (.loop F30b0))) (.seq (.reg [
  ia 21 (.mv (.t 3)),
ia 2 (.mv (.t 21))]) .ret)))), [(.tmp 2)]⟩
theorem cc30 : ccF Try.prog [(58, [0, 0]), (61, [1, 0]), (75, [0, 0]), (58, [9]), (91, [8]), (93, [8]), (72, [8]), (92, [8]), (76, [8])] Try.f30 = some (stripF F30) := by kernel_rfl

/- gossamer/gossamerref12.One -/
def F31b0 : C := (.seq (.seq (.reg [
  ia 51 (.mv (.t 5)),
ia 52 (.fad 4 (.t 2)),
ia 53 (.ld 1 false (.t 52)),
ia 54 (.len false (.t 53)),
ia 55 (.bin .lss (.t 51) (.t 54))]) (.cond (.t 55) .skip (.exit 0))) (.seq (.block 1 (.seq (.reg [
  ir 58 (.fad 4 (.t 2)),
ir 59 (.ld 1 false (.t 58)),
ir 60 (.mv (.t 5)),
ir 61 (.ias 2 (.t 59) (.t 60)),
ir 62 (.ld 2 true (.t 61)),
ir 63 (.fad 4 (.t 3)),
ir 64 (.ld 1 false (.t 63)),
ir 65 (.mv (.t 5)),
ir 66 (.ias 2 (.t 64) (.t 65)),
ir 67 (.ld 2 true (.t 66)),
ia 68 (.eqg true [1, 0] (.t 62) (.t 67))]) (.cond (.t 68) (.seq (.reg [
  ia 4 (.mv (.c (.a (.p (.b false)))))]) .ret) .skip))) (.reg [
  ia 56 (.mv (.t 5)),
ia 57 (.bin .add (.t 56) (ci 1)),
ia 5 (.mv (.t 57))])))
def F31b1 : C := (.seq (.seq (.reg [
  ia 69 (.mv (.t 6)),
ia 70 (.fad 5 (.t 2)),
ia 71 (.ld 1 false (.t 70)),
ia 72 (.len false (.t 71)),
ia 73 (.bin .lss (.t 69) (.t 72))]) (.cond (.t 73) .skip (.exit 2))) (.seq (.block 3 (.seq (.reg [
  ir 76 (.fad 5 (.t 2)),
ir 77 (.ld 1 false (.t 76)),
ir 78 (.mv (.t 6)),
ir 79 (.ias 2 (.t 77) (.t 78)),
ir 80 (.ld 2 true (.t 79)),
ir 81 (.fad 5 (.t 3)),
ir 82 (.ld 1 false (.t 81)),
ir 83 (.mv (.t 6)),
ir 84 (.ias 2 (.t 82) (.t 83)),
ir 85 (.ld 2 true (.t 84)),
ia 86 (.eqg true [0, 0] (.t 80) (.t 85))]) (.cond (.t 86) (.seq (.reg [
  ia 4 (.mv (.c (.a (.p (.b false)))))]) .ret) .skip))) (.reg [
  ia 74 (.mv (.t 6)),
ia 75 (.bin .add (.t 74) (ci 1)),
ia 6 (.mv (.t 75))])))
def F31 : FnC := ⟨2, (.seq (.reg [
  ia 2 (.box 6 (.t 0)),
ia 3 (.box 6 (.t 1)),
ia 4 (.mv (.c (.a (.p (.b false)))))]) (.seq (.seq (.reg [
  ia 7 (.fad 0 (.t 2)),
ia 8 (.ld 1 false (.t 7)),
ia 9 (.fad 0 (.t 3)),
ia 10 (.ld 1 false (.t 9)),
ia 11 (.bin .neq (.t 8) (.t 10)),
ia 12 (.mv (.t 11)),
ig 13 12 false (.fad 1 (.t 2)),
ig 14 12 false (.ld 1 false (.t 13)),
ig 15 12 false (.fad 1 (.t 3)),
ig 16 12 false (.ld 1 false (.t 15)),
ig 17 12 false (.bin .neq (.t 14) (.t 16)),
ia 18 (.pick (.t 12) (.c (.a (.p (.b true)))) (.t 17)),
ia 19 (.mv (.t 18)),
ig 20 19 false (.fad 2 (.t 2)),
ig 21 19 false (.ld 1 false (.t 20)),
ig 22 19 false (.fad 2 (.t 3)),
ig 23 19 false (.ld 1 false (.t 22)),
ig 24 19 false (.bin .neq (.t 21) (.t 23)),
ia 25 (.pick (.t 19) (.c (.a (.p (.b true)))) (.t 24)),
ia 26 (.mv (.t 25)),
ig 27 26 false (.fad 3 (.t 2)),
ig 28 26 false (.ld 1 false (.t 27)),
ig 29 26 false (.fad 3 (.t 3)),
ig 30 26 false (.ld 1 false (.t 29)),
ig 31 26 false (.bin .neq (.t 28) (.t 30)),
ia 32 (.pick (.t 26) (.c (.a (.p (.b true)))) (.t 31)),
ia 33 (.mv (.t 32)),
ig 34 33 false (.fad 4 (.t 2)),
ig 35 33 false (.ld 1 false (.t 34)),
ig 36 33 false (.len false (.t 35)),
ig 37 33 false (.fad 4 (.t 3)),
ig 38 33 false (.ld 1 false (.t 37)),
ig 39 33 false (.len false (.t 38)),
ig 40 33 false (.bin .neq (.t 36) (.t 39)),
ia 41 (.pick (.t 33) (.c (.a (.p (.b true)))) (.t 40)),
ia 42 (.mv (.t 41)),
ig 43 42 false (.fad 5 (.t 2)),
ig 44 42 false (.ld 1 false (.t 43)),
ig 45 42 false (.len false (.t 44)),
ig 46 42 false (.fad 5 (.t 3)),
ig 47 42 false (.ld 1 false (.t 46)),
ig 48 42 false (.len false (.t 47)),
ig 49 42 false (.bin .neq (.t 45) (.t 48)),
ia 50 (.pick (.t 42) (.c (.a (.p (.b true)))) (.t 49))]) (.cond (.t 50) (.seq (.reg [
  ia 4 (.mv (.c (.a (.p (.b false)))))]) .ret) .skip)) (.seq (.seq (.reg [
  ia 5 (.mv (ci 0))]) (.block 0 (.loop F31b0))) (.seq (.seq (.reg [
  ia 6 (.mv (ci 0))]) (.block 2 (.loop F31b1))) (.seq (.reg [
  ia 4 (.mv (.c (.a (.p (.b true)))))]) .ret))))), [(.tmp 4)]⟩
theorem cc31 : ccF Try.prog [(58, [0, 0]), (61, [1, 0]), (75, [0, 0]), (58, [9]), (91, [8]), (93, [8]), (72, [8]), (92, [8]), (76, [8])] Try.f31 = some (stripF F31) := by kernel_rfl

/- gossamer/gossamerlaw14.plan -/
def F32 : FnC := ⟨4, (.seq (.reg [
  ia 8 (.new [(.p (.i .i64 0)), (.p (.b false)), (.p (.i .i64 0)), (.p (.i .i64 0)), (.p (.i .i64 0)), (.p (.i .i64 0)), (.p (.i .i64 0)), (.p (.s [])), .nil, .nil]),
ia 9 (.mv (ci 0))]) (.seq (.reg [
  ia 10 (.mv (.t 0)),
ia 11 (.mv (.t 1)),
ia 12 (.build [(.p (.i .i64 0)), (.p (.i .i64 0)), (.p (.i .i64 0)), (.p (.s [])), .nil, .nil] [(0, (1, (.t 10))), (1, (1, (.t 11)))]),
ia 13 (.mv (.t 2)),
ia 14 (.mv (.t 3)),
ia 15 (.build [(.p (.i .i64 0)), (.p (.i .i64 0)), (.p (.i .i64 0)), (.p (.s [])), .nil, .nil] [(0, (1, (.t 13))), (1, (1, (.t 14)))]),
ia 16 (.call (.f 14) [(.t 12), (.t 15)]),
ia 17 (.ext (.t 16) 0),
ia 18 (.ext (.t 16) 1),
io (.st 10 (.t 8) (.t 17)),
ia 9 (.mv (.t 18))]) .ret)), [(.cell 8 10 true), (.tmp 9)]⟩
theorem cc32 : ccF Try.prog [(58, [0, 0]), (61, [1, 0]), (75, [0, 0]), (58, [9]), (91, [8]), (93, [8]), (72, [8]), (92, [8]), (76, [8])] Try.f32 = some (stripF F32) := by kernel_rfl

/- gossamer/rule.Of$1 -/
def F33 : FnC := ⟨4, (.seq (.reg [
  ia 6 (.mv (.c (.a (.p (.b false)))))]) (.seq (.reg [
  ia 7 (.fad 0 (.t 2)),
ia 8 (.ld 1 false (.t 7)),
ia 9 (.call (.f 34) [(.t 8)]),
ia 10 (.mv (.t 0)),
ia 11 (.bin .eql (.t 9) (.t 10)),
ia 12 (.mv (.t 11)),
ig 13 12 true (.fad 0 (.t 3)),
ig 14 12 true (.ld 1 false (.t 13)),
ig 15 12 true (.call (.f 34) [(.t 14)]),
ig 16 12 true (.mv (.t 1)),
ig 17 12 true (.bin .eql (.t 15) (.t 16)),
ia 18 (.pick (.t 12) (.t 17) (.c (.a (.p (.b false))))),
ia 6 (.mv (.t 18))]) .ret)), [(.tmp 6)]⟩
theorem cc33 : ccF Try.prog [(58, [0, 0]), (61, [1, 0]), (75, [0, 0]), (58, [9]), (91, [8]), (93, [8]), (72, [8]), (92, [8]), (76, [8])] Try.f33 = some (stripF F33) := by kernel_rfl

/- gossamer/rule.class -/
def F34 : FnC := ⟨1, (.seq (.reg [
  ia 2 (.mv (ci 0))]) (.seq (.seq (.reg [
  ia 3 (.mv (.t 0))]) (.block 0 (.seq (.seq (.reg [
  ia 5 (.bin .eql (.t 3) (ci 3)),
ia 4 (.mv (.t 5))]) (.cond (.t 4) .skip (.seq (.reg [
  ia 6 (.bin .eql (.t 3) (ci 9)),
ia 4 (.mv (.t 6))]) (.cond (.t 4) .skip (.seq (.reg [
  ia 7 (.bin .eql (.t 3) (ci 11)),
ia 4 (.mv (.t 7))]) (.cond (.t 4) .skip (.reg [
  ia 8 (.bin .eql (.t 3) (ci 12)),
ia 4 (.mv (.t 8))]))))))) (.cond (.t 4) (.seq (.reg [
  ia 2 (.mv (ci 1))]) .ret) (.seq (.seq (.reg [
  ia 10 (.bin .eql (.t 3) (ci 2)),
ia 9 (.mv (.t 10))]) (.cond (.t 9) .skip (.seq (.reg [
  ia 11 (.bin .eql (.t 3) (ci 8)),
ia 9 (.mv (.t 11))]) (.cond (.t 9) .skip (.seq (.reg [
  ia 12 (.bin .eql (.t 3) (ci 10)),
ia 9 (.mv (.t 12))]) (.cond (.t 9) .skip (.reg [
  ia 13 (.bin .eql (.t 3) (ci 13)),
ia 9 (.mv (.t 13))]))))))) (.cond (.t 9) (.seq (.reg [
  ia 2 (.mv (ci 2))]) .ret) (.seq (.seq (.reg [
  ia 15 (.bin .eql (.t 3) (ci 4)),
ia 14 (.mv (.t 15))]) (.cond (.t 14) .skip (.seq (.reg [
  ia 16 (.bin .eql (.t 3) (ci 5)),
ia 14 (.mv (.t 16))]) (.cond (.t 14) .skip (.reg [
  ia 17 (.bin .eql (.t 3) (ci 6)),
ia 14 (.mv (.t 17))]))))) (.cond (.t 14) (.seq (.reg [
  ia 2 (.mv (ci 3))]) .ret) (.seq (.reg [
  ia 19 (.bin .eql (.t 3) (ci 7)),
ia 18 (.mv (.t 19))]) (.cond (.t 18) (.seq (.reg [
  ia 2 (.mv (ci 4))]) .ret) .skip)))))))))) (.seq (.reg [
  ia 2 (.mv (ci 0))]) .ret))), [(.tmp 2)]⟩
theorem cc34 : ccF Try.prog [(58, [0, 0]), (61, [1, 0]), (75, [0, 0]), (58, [9]), (91, [8]), (93, [8]), (72, [8]), (92, [8]), (76, [8])] Try.f34 = some (stripF F34) := by kernel_rfl

/- gossamer/rule.Of$2 -/
def F35 : FnC := ⟨3, (.seq (.reg [
  ia 4 (.mv (.c (.a (.p (.b false)))))]) (.seq (.reg [
  ia 5 (.fad 0 (.t 1)),
ia 6 (.ld 1 false (.t 5)),
ia 7 (.call (.f 34) [(.t 6)]),
ia 8 (.mv (.t 0)),
ia 9 (.bin .eql (.t 7) (.t 8)),
ia 10 (.mv (.t 9)),
ig 11 10 false (.fad 0 (.t 2)),
ig 12 10 false (.ld 1 false (.t 11)),
ig 13 10 false (.call (.f 34) [(.t 12)]),
ig 14 10 false (.mv (.t 0)),
ig 15 10 false (.bin .eql (.t 13) (.t 14)),
ia 16 (.pick (.t 10) (.c (.a (.p (.b true)))) (.t 15)),
ia 4 (.mv (.t 16))]) .ret)), [(.tmp 4)]⟩
theorem cc35 : ccF Try.prog [(58, [0, 0]), (61, [1, 0]), (75, [0, 0]), (58, [9]), (91, [8]), (93, [8]), (72, [8]), (92, [8]), (76, [8])] Try.f35 = some (stripF F35) := by kernel_rfl

/- gossamer/rule.plain -/
def F36 : FnC := ⟨1, (.seq (.reg [
  ia 2 (.new [(.p (.i .i64 0)), (.p (.b false)), (.p (.i .i64 0)), (.p (.i .i64 0)), (.p (.i .i64 0)), (.p (.i .i64 0)), (.p (.i .i64 0)), (.p (.s [])), .nil, .nil]),
ia 3 (.mv (ci 0))]) (.seq (.reg [
  ia 4 (.mv (.t 0)),
ia 5 (.build [(.p (.i .i64 0)), (.p (.b false)), (.p (.i .i64 0)), (.p (.i .i64 0)), (.p (.i .i64 0)), (.p (.i .i64 0)), (.p (.i .i64 0)), (.p (.s [])), .nil, .nil] [(0, (1, (.t 4)))]),
io (.st 10 (.t 2) (.t 5)),
ia 3 (.mv (ci 0))]) .ret)), [(.cell 2 10 true), (.tmp 3)]⟩
theorem cc36 : ccF Try.prog [(58, [0, 0]), (61, [1, 0]), (75, [0, 0]), (58, [9]), (91, [8]), (93, [8]), (72, [8]), (92, [8]), (76, [8])] Try.f36 = some (stripF F36) := by kernel_rfl

/- gossamer/rule.swapped -/
def F37 : FnC := ⟨2, (.seq (.reg [
  ia 2 (.box 10 (.t 0)),
ia 4 (.new [(.p (.i .i64 0)), (.p (.b false)), (.p (.i .i64 0)), (.p (.i .i64 0)), (.p (.i .i64 0)), (.p (.i .i64 0)), (.p (.i .i64 0)), (.p (.s [])), .nil, .nil]),
ia 5 (.mv (ci 0))]) (.seq (.seq (.reg [
  ia 6 (.mv (.t 1)),
ia 7 (.bin .eql (.t 6) (ci 0))]) (.cond (.t 7) (.reg [
  ia 8 (.fad 1 (.t 2)),
io (.st 1 (.t 8) (.c (.a (.p (.b true)))))]) .skip)) (.seq (.reg [
  ia 9 (.ld 10 true (.t 2)),
ia 10 (.mv (.t 1)),
io (.st 10 (.t 4) (.t 9)),
ia 5 (.mv (.t 10))]) .ret))), [(.cell 4 10 true), (.tmp 5)]⟩
theorem cc37 : ccF Try.prog [(58, [0, 0]), (61, [1, 0]), (75, [0, 0]), (58, [9]), (91, [8]), (93, [8]), (72, [8]), (92, [8]), (76, [8])] Try.f37 = some (stripF F37) := by kernel_rfl

/- gossamer/rule.pass -/
def F38 : FnC := ⟨2, (.seq (.reg [
  ia 2 (.box 6 (.t 0)),
ia 3 (.box 6 (.t 1)),
ia 4 (.new [(.p (.i .i64 0)), (.p (.b false)), (.p (.i .i64 0)), (.p (.i .i64 0)), (.p (.i .i64 0)), (.p (.i .i64 0)), (.p (.i .i64 0)), (.p (.s [])), .nil, .nil]),
ia 5 (.mv (ci 0))]) (.seq (.reg [
  ia 7 (.fad 1 (.t 3)),
ia 8 (.ld 1 false (.t 7)),
ia 9 (.build [(.p (.i .i64 0)), (.p (.b false)), (.p (.i .i64 0)), (.p (.i .i64 0)), (.p (.i .i64 0)), (.p (.i .i64 0)), (.p (.i .i64 0)), (.p (.s [])), .nil, .nil] [(0, (1, (ci 7))), (2, (1, (.t 8)))]),
ia 6 (.new [(.p (.i .i64 0)), (.p (.b false)), (.p (.i .i64 0)), (.p (.i .i64 0)), (.p (.i .i64 0)), (.p (.i .i64 0)), (.p (.i .i64 0)), (.p (.s [])), .nil, .nil]),
io (.st 10 (.t 6) (.t 9))]) (.seq (.seq (.reg [
  ia 10 (.fad 0 (.t 2)),
ia 11 (.ld 1 false (.t 10))]) (.block 0 (.seq (.reg [
  ia 13 (.bin .eql (.t 11) (ci 5)),
ia 12 (.mv (.t 13))]) (.cond (.t 12) (.reg [
  ia 14 (.fad 2 (.t 6)),
ia 15 (.ld 1 false (.t 14)),
ia 16 (.bin .sub (.t 15) (ci 1)),
ia 17 (.fad 2 (.t 6)),
io (.st 1 (.t 17) (.t 16))]) (.seq (.reg [
  ia 19 (.bin .eql (.t 11) (ci 6)),
ia 18 (.mv (.t 19))]) (.cond (.t 18) (.reg [
  ia 20 (.fad 2 (.t 6)),
ia 21 (.ld 1 false (.t 20)),
ia 22 (.bin .add (.t 21) (ci 1)),
ia 23 (.fad 2 (.t 6)),
io (.st 1 (.t 23) (.t 22))]) .skip)))))) (.seq (.block 1 (.seq (.reg [
  ia 25 (.fad 1 (.t 2)),
ia 26 (.ld 1 false (.t 25)),
ia 27 (.fad 1 (.t 3)),
ia 28 (.ld 1 false (.t 27)),
ia 29 (.bin .geq (.t 26) (.t 28)),
ia 24 (.mv (.t 29))]) (.cond (.t 24) (.seq (.reg [
  ia 30 (.build [(.p (.i .i64 0)), (.p (.b false)), (.p (.i .i64 0)), (.p (.i .i64 0)), (.p (.i .i64 0)), (.p (.i .i64 0)), (.p (.i .i64 0)), (.p (.s [])), .nil, .nil] []),
io (.st 10 (.t 4) (.t 30)),
ia 5 (.mv (ci 140))]) .ret) (.seq (.reg [
  ia 32 (.fad 2 (.t 6)),
ia 33 (.ld 1 false (.t 32)),
ia 34 (.bin .gtr (.t 33) (ci 60)),
ia 31 (.mv (.t 34))]) (.cond (.t 31) (.seq (.reg [
  ia 35 (.build [(.p (.i .i64 0)), (.p (.b false)), (.p (.i .i64 0)), (.p (.i .i64 0)), (.p (.i .i64 0)), (.p (.i .i64 0)), (.p (.i .i64 0)), (.p (.s [])), .nil, .nil] []),
io (.st 10 (.t 4) (.t 35)),
ia 5 (.mv (ci 141))]) .ret) .skip))))) (.seq (.reg [
  ia 36 (.ld 10 true (.t 6)),
io (.st 10 (.t 4) (.t 36)),
ia 5 (.mv (ci 0))]) .ret))))), [(.cell 4 10 true), (.tmp 5)]⟩
theorem cc38 : ccF Try.prog [(58, [0, 0]), (61, [1, 0]), (75, [0, 0]), (58, [9]), (91, [8]), (93, [8]), (72, [8]), (92, [8]), (76, [8])] Try.f38 = some (stripF F38) := by kernel_rfl

/- gossamer/rule.ask -/
def F39 : FnC := ⟨2, (.seq (.reg [
  ia 2 (.box 6 (.t 0)),
ia 3 (.box 6 (.t 1)),
ia 4 (.new [(.p (.i .i64 0)), (.p (.b false)), (.p (.i .i64 0)), (.p (.i .i64 0)), (.p (.i .i64 0)), (.p (.i .i64 0)), (.p (.i .i64 0)), (.p (.s [])), .nil, .nil]),
ia 5 (.mv (ci 0))]) (.seq (.seq (.reg [
  ia 7 (.fad 0 (.t 2)),
ia 8 (.ld 1 false (.t 7)),
ia 9 (.fad 0 (.t 3)),
ia 10 (.ld 1 false (.t 9)),
ia 11 (.build [(.p (.i .i64 0)), (.p (.i .i64 0))] [(0, (1, (.t 8))), (1, (1, (.t 10)))]),
ia 6 (.new [(.p (.i .i64 0)), (.p (.i .i64 0))]),
io (.st 2 (.t 6) (.t 11))]) (.block 0 (.seq (.reg [
  ia 13 (.ld 2 true (.t 6)),
ia 14 (.build [(.p (.i .i64 0)), (.p (.i .i64 0))] [(0, (1, (ci 3))), (1, (1, (ci 2)))]),
ia 15 (.eqg false [0, 0] (.t 13) (.t 14)),
ia 12 (.mv (.t 15))]) (.cond (.t 12) (.seq (.seq (.reg [
  ia 16 (.fad 1 (.t 2)),
ia 17 (.ld 1 false (.t 16)),
ia 18 (.fad 1 (.t 3)),
ia 19 (.ld 1 false (.t 18)),
ia 20 (.bin .neq (.t 17) (.t 19))]) (.cond (.t 20) (.seq (.reg [
  ia 21 (.build [(.p (.i .i64 0)), (.p (.b false)), (.p (.i .i64 0)), (.p (.i .i64 0)), (.p (.i .i64 0)), (.p (.i .i64 0)), (.p (.i .i64 0)), (.p (.s [])), .nil, .nil] []),
io (.st 10 (.t 4) (.t 21)),
ia 5 (.mv (ci 140))]) .ret) .skip)) (.seq (.reg [
  ia 22 (.call (.f 36) [(ci 1)]),
ia 23 (.ext (.t 22) 0),
ia 24 (.ext (.t 22) 1),
io (.st 10 (.t 4) (.t 23)),
ia 5 (.mv (.t 24))]) .ret)) (.seq (.reg [
  ia 26 (.ld 2 true (.t 6)),
ia 27 (.build [(.p (.i .i64 0)), (.p (.i .i64 0))] [(0, (1, (ci 9))), (1, (1, (ci 8)))]),
ia 28 (.eqg false [0, 0] (.t 26) (.t 27)),
ia 25 (.mv (.t 28))]) (.cond (.t 25) (.seq (.reg [
  ia 29 (.ld 6 true (.t 2)),
ia 30 (.ld 6 true (.t 3)),
ia 31 (.call (.f 52) [(.t 29), (.t 30)]),
ia 32 (.ext (.t 31) 0),
ia 33 (.ext (.t 31) 1),
io (.st 10 (.t 4) (.t 32)),
ia 5 (.mv (.t 33))]) .ret) (.seq (.reg [
  ia 35 (.ld 2 true (.t 6)),
ia 36 (.build [(.p (.i .i64 0)), (.p (.i .i64 0))] [(0, (1, (ci 11))), (1, (1, (ci 10)))]),
ia 37 (.eqg false [0, 0] (.t 35) (.t 36)),
ia 34 (.mv (.t 37))]) (.cond (.t 34) (.seq (.reg [
  ia 38 (.call (.f 36) [(ci 3)]),
ia 39 (.ext (.t 38) 0),
ia 40 (.ext (.t 38) 1),
io (.st 10 (.t 4) (.t 39)),
ia 5 (.mv (.t 40))]) .ret) (.seq (.reg [
  ia 42 (.ld 2 true (.t 6)),
ia 43 (.build [(.p (.i .i64 0)), (.p (.i .i64 0))] [(0, (1, (ci 12))), (1, (1, (ci 10)))]),
ia 44 (.eqg false [0, 0] (.t 42) (.t 43)),
ia 41 (.mv (.t 44))]) (.cond (.t 41) (.seq (.reg [
  ia 45 (.ld 6 true (.t 2)),
ia 46 (.ld 6 true (.t 3)),
ia 47 (.call (.f 53) [(.t 45), (.t 46)]),
ia 48 (.ext (.t 47) 0),
ia 49 (.ext (.t 47) 1),
io (.st 10 (.t 4) (.t 48)),
ia 5 (.mv (.t 49))]) .ret) .skip)))))))))) (.seq (.reg [
  ia 50 (.call (.f 36) [(ci 5)]),
ia 51 (.ext (.t 50) 0),
ia 52 (.ext (.t 50) 1),
io (.st 10 (.t 4) (.t 51)),
ia 5 (.mv (.t 52))]) .ret))), [(.cell 4 10 true), (.tmp 5)]⟩
theorem cc39 : ccF Try.prog [(58, [0, 0]), (61, [1, 0]), (75, [0, 0]), (58, [9]), (91, [8]), (93, [8]), (72, [8]), (92, [8]), (76, [8])] Try.f39 = some (stripF F39) := by kernel_rfl

/- gossamer/rule.others -/
def F40 : FnC := ⟨1, (.seq (.reg [
  ia 1 (.box 6 (.t 0)),
ia 2 (.mv (ci 0))]) (.seq (.reg [
  ia 3 (.fad 5 (.t 1)),
ia 4 (.ld 1 false (.t 3)),
ia 5 (.len false (.t 4)),
ia 6 (.bin .sub (.t 5) (ci 1)),
ia 7 (.mx (.t 6) (ci 0)),
ia 2 (.mv (.t 7))]) .ret)), [(.tmp 2)]⟩
theorem cc40 : ccF Try.prog [(58, [0, 0]), (61, [1, 0]), (75, [0, 0]), (58, [9]), (91, [8]), (93, [8]), (72, [8]), (92, [8]), (76, [8])] Try.f40 = some (stripF F40) := by kernel_rfl

/- gossamer/gossamerref06.May -/
def F41 : FnC := ⟨2, (.seq (.reg [
  ia 2 (.box 4 (.t 0)),
ia 4 (.mv (.c (.a (.p (.b false)))))]) (.seq (.reg [
  ia 5 (.ld 4 true (.t 2)),
ia 6 (.mv (.t 1)),
ia 7 (.call (.f 54) [(.t 5), (.t 6), (.c (.a (.p (.b false))))]),
ia 4 (.mv (.t 7))]) .ret)), [(.tmp 4)]⟩
theorem cc41 : ccF Try.prog [(58, [0, 0]), (61, [1, 0]), (75, [0, 0]), (58, [9]), (91, [8]), (93, [8]), (72, [8]), (92, [8]), (76, [8])] Try.f41 = some (stripF F41) := by kernel_rfl

/- gossamer/gossamerref09.step -/
def F42 : FnC := ⟨1, (.seq (.reg [
  ia 1 (.box 4 (.t 0)),
ia 2 (.new [(.p (.i .i64 0)), (.p (.i .i64 0)), (.p (.s [])), .nil]),
ia 3 (.mv (ci 0))]) (.seq (.seq (.reg [
  ia 6 (.fad 0 (.t 1)),
ia 7 (.ld 1 false (.t 6)),
ia 8 (.bin .neq (.t 7) (ci 3)),
ia 9 (.mv (.t 8)),
ig 10 9 true (.fad 0 (.t 1)),
ig 11 9 true (.ld 1 false (.t 10)),
ig 12 9 true (.bin .neq (.t 11) (ci 5)),
ia 13 (.pick (.t 9) (.t 12) (.c (.a (.p (.b false))))),
ia 14 (.mv (.t 13)),
ig 15 14 true (.fad 0 (.t 1)),
ig 16 14 true (.ld 1 false (.t 15)),
ig 17 14 true (.bin .neq (.t 16) (ci 8)),
ia 18 (.pick (.t 14) (.t 17) (.c (.a (.p (.b false)))))]) (.cond (.t 18) (.seq (.reg [
  ia 19 (.ld 4 true (.t 1)),
io (.st 4 (.t 2) (.t 19)),
ia 3 (.mv (ci 0))]) .ret) .skip)) (.seq (.reg [
  ia 20 (.fad 3 (.t 1)),
ia 21 (.ld 1 false (.t 20)),
ia 22 (.ias 4 (.t 21) (ci 0)),
ia 23 (.ld 4 true (.t 22)),
ia 4 (.new [(.p (.i .i64 0)), (.p (.i .i64 0)), (.p (.s [])), .nil]),
io (.st 4 (.t 4) (.t 23))]) (.seq (.seq (.reg [
  ia 24 (.ld 4 true (.t 4)),
ia 25 (.call (.f 55) [(.t 24)]),
ia 26 (.not (.t 25))]) (.cond (.t 26) (.seq (.reg [
  ia 27 (.ld 4 true (.t 1)),
ia 28 (.call (.f 56) [(.t 27), (ci 0)]),
ia 29 (.ext (.t 28) 0),
ia 30 (.ext (.t 28) 1),
io (.st 4 (.t 2) (.t 29)),
ia 3 (.mv (.t 30))]) .ret) .skip)) (.seq (.seq (.reg [
  ia 31 (.fad 0 (.t 1)),
ia 32 (.ld 1 false (.t 31)),
ia 33 (.bin .eql (.t 32) (ci 5))]) (.cond (.t 33) (.seq (.reg [
  ia 34 (.ld 4 true (.t 1)),
ia 35 (.call (.f 57) [(.t 34)]),
ia 36 (.ext (.t 35) 0),
ia 37 (.ext (.t 35) 1),
io (.st 4 (.t 2) (.t 36)),
ia 3 (.mv (.t 37))]) .ret) .skip)) (.seq (.seq (.reg [
  ia 38 (.fad 0 (.t 1)),
ia 39 (.ld 1 false (.t 38)),
ia 40 (.bin .eql (.t 39) (ci 3))]) (.cond (.t 40) (.seq (.seq (.reg [
  ia 41 (.fad 0 (.t 4)),
ia 42 (.ld 1 false (.t 41)),
ia 43 (.bin .eql (.t 42) (ci 2))]) (.cond (.t 43) (.seq (.reg [
  ir 44 (.fad 3 (.t 4)),
ir 45 (.ld 1 false (.t 44)),
ir 46 (.ias 4 (.t 45) (ci 0)),
ir 47 (.ld 4 true (.t 46)),
ir 48 (.fad 3 (.t 1)),
ir 49 (.ld 1 false (.t 48)),
ir 50 (.ias 4 (.t 49) (ci 1)),
ir 51 (.ld 4 true (.t 50)),
ia 52 (.call (.f 58) [(.t 47), (ci 0), (.t 51)]),
io (.st 4 (.t 2) (.t 52)),
ia 3 (.mv (ci 1))]) .ret) .skip)) (.seq (.reg [
  ia 53 (.call (.f 59) []),
ia 54 (.ext (.t 53) 0),
ia 55 (.ext (.t 53) 1),
io (.st 4 (.t 2) (.t 54)),
ia 3 (.mv (.t 55))]) .ret)) .skip)) (.seq (.reg [
  ia 56 (.fad 3 (.t 1)),
ia 57 (.ld 1 false (.t 56)),
ia 58 (.ias 4 (.t 57) (ci 1)),
ia 59 (.ld 4 true (.t 58)),
ia 5 (.new [(.p (.i .i64 0)), (.p (.i .i64 0)), (.p (.s [])), .nil]),
io (.st 4 (.t 5) (.t 59))]) (.seq (.seq (.reg [
  ia 60 (.fad 0 (.t 4)),
ia 61 (.ld 1 false (.t 60)),
ia 62 (.bin .neq (.t 61) (ci 7))]) (.cond (.t 62) (.seq (.reg [
  ia 63 (.call (.f 59) []),
ia 64 (.ext (.t 63) 0),
ia 65 (.ext (.t 63) 1),
io (.st 4 (.t 2) (.t 64)),
ia 3 (.mv (.t 65))]) .ret) .skip)) (.seq (.seq (.reg [
  ia 66 (.ld 4 true (.t 5)),
ia 67 (.call (.f 55) [(.t 66)]),
ia 68 (.not (.t 67))]) (.cond (.t 68) (.seq (.reg [
  ia 69 (.ld 4 true (.t 1)),
ia 70 (.call (.f 56) [(.t 69), (ci 1)]),
ia 71 (.ext (.t 70) 0),
ia 72 (.ext (.t 70) 1),
io (.st 4 (.t 2) (.t 71)),
ia 3 (.mv (.t 72))]) .ret) .skip)) (.seq (.seq (.reg [
  ia 73 (.fad 0 (.t 5)),
ia 74 (.ld 1 false (.t 73)),
ia 75 (.bin .neq (.t 74) (ci 7))]) (.cond (.t 75) (.seq (.reg [
  ia 76 (.call (.f 59) []),
ia 77 (.ext (.t 76) 0),
ia 78 (.ext (.t 76) 1),
io (.st 4 (.t 2) (.t 77)),
ia 3 (.mv (.t 78))]) .ret) .skip)) (.seq (.reg [
  ia 79 (.fad 2 (.t 1)),
ia 80 (.ld 1 false (.t 79)),
ia 81 (.fad 1 (.t 4)),
ia 82 (.ld 1 false (.t 81)),
ia 83 (.fad 1 (.t 5)),
ia 84 (.ld 1 false (.t 83)),
ia 85 (.call (.f 60) [(.t 80), (.t 82), (.t 84)]),
ia 86 (.ext (.t 85) 0),
ia 87 (.ext (.t 85) 1),
io (.st 4 (.t 2) (.t 86)),
ia 3 (.mv (.t 87))]) .ret))))))))))), [(.cell 2 4 true), (.tmp 3)]⟩
theorem cc42 : ccF Try.prog [(58, [0, 0]), (61, [1, 0]), (75, [0, 0]), (58, [9]), (91, [8]), (93, [8]), (72, [8]), (92, [8]), (76, [8])] Try.f42 = some (stripF F42) := by kernel_rfl

def tblA : List (FuncId × FnC) := [(3, F3), (4, F4), (5, F5), (6, F6), (7, F7), (8, F8), (9, F9), (10, F10), (11, F11), (12, F12), (13, F13), (14, F14), (15, F15), (16, F16), (17, F17), (18, F18), (19, F19), (20, F20), (21, F21), (22, F22), (23, F23), (24, F24), (25, F25), (26, F26), (27, F27), (28, F28), (29, F29), (30, F30), (31, F31), (32, F32), (33, F33), (34, F34), (35, F35), (36, F36), (37, F37), (38, F38), (39, F39), (40, F40), (41, F41), (42, F42)]

theorem tblOkA : ∀ x, x ∈ tblA → ∃ fn, Try.prog.funcs[x.1]? = some fn ∧ ccF Try.prog [(58, [0, 0]), (61, [1, 0]), (75, [0, 0]), (58, [9]), (91, [8]), (93, [8]), (72, [8]), (92, [8]), (76, [8])] fn = some (stripF x.2) := by
  intro x hx
  simp only [tblA, List.mem_cons, List.not_mem_nil, or_false] at hx
  rcases hx with rfl | rfl | rfl | rfl | rfl | rfl | rfl | rfl | rfl | rfl | rfl | rfl | rfl | rfl | rfl | rfl | rfl | rfl | rfl | rfl | rfl | rfl | rfl | rfl | rfl | rfl | rfl | rfl | rfl | rfl | rfl | rfl | rfl | rfl | rfl | rfl | rfl | rfl | rfl | rfl
  · exact ⟨_, Try.func3, cc3⟩
  · exact ⟨_, Try.func4, cc4⟩
  · exact ⟨_, Try.func5, cc5⟩
  · exact ⟨_, Try.func6, cc6⟩
  · exact ⟨_, Try.func7, cc7⟩
  · exact ⟨_, Try.func8, cc8⟩
  · exact ⟨_, Try.func9, cc9⟩
  · exact ⟨_, Try.func10, cc10⟩
  · exact ⟨_, Try.func11, cc11⟩
  · exact ⟨_, Try.func12, cc12⟩
  · exact ⟨_, Try.func13, cc13⟩
  · exact ⟨_, Try.func14, cc14⟩
  · exact ⟨_, Try.func15, cc15⟩
  · exact ⟨_, Try.func16, cc16⟩
  · exact ⟨_, Try.func17, cc17⟩
  · exact ⟨_, Try.func18, cc18⟩
  · exact ⟨_, Try.func19, cc19⟩
  · exact ⟨_, Try.func20, cc20⟩
  · exact ⟨_, Try.func21, cc21⟩
  · exact ⟨_, Try.func22, cc22⟩
  · exact ⟨_, Try.func23, cc23⟩
  · exact ⟨_, Try.func24, cc24⟩
  · exact ⟨_, Try.func25, cc25⟩
  · exact ⟨_, Try.func26, cc26⟩
  · exact ⟨_, Try.func27, cc27⟩
  · exact ⟨_, Try.func28, cc28⟩
  · exact ⟨_, Try.func29, cc29⟩
  · exact ⟨_, Try.func30, cc30⟩
  · exact ⟨_, Try.func31, cc31⟩
  · exact ⟨_, Try.func32, cc32⟩
  · exact ⟨_, Try.func33, cc33⟩
  · exact ⟨_, Try.func34, cc34⟩
  · exact ⟨_, Try.func35, cc35⟩
  · exact ⟨_, Try.func36, cc36⟩
  · exact ⟨_, Try.func37, cc37⟩
  · exact ⟨_, Try.func38, cc38⟩
  · exact ⟨_, Try.func39, cc39⟩
  · exact ⟨_, Try.func40, cc40⟩
  · exact ⟨_, Try.func41, cc41⟩
  · exact ⟨_, Try.func42, cc42⟩

end Go.Proofs.Ytomcceambpneiaa
