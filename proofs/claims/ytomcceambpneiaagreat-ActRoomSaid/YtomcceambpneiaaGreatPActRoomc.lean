/- Part 3 of what is proved for the law ActRoom: it returns true, whatever the input. No condition. -/
import Derived.Test.YtomcceambpneiaaGreatProg
import Derived.IntWalk
import Derived.Test.YtomcceambpneiaaGreatPActRoomb
namespace Go.Proofs.YtomcceambpneiaaGreat
open Go.Fx
def F3 : FnC := ⟨3, (.seq (.reg [
  ia 3 (.box 2 (.t 0)),
ia 6 (.mv (.c (.a (.p (.b false)))))]) (.seq (.seq (.reg [
  ia 18 (.call (.f 4) []),
ia 19 (.not (.t 18)),
ia 20 (.mv (.t 19)),
ig 21 20 false (.ld 2 true (.t 3)),
ig 22 20 false (.call (.f 5) [(.t 21), (ci 150)]),
ig 23 20 false (.not (.t 22)),
ia 24 (.pick (.t 20) (.c (.a (.p (.b true)))) (.t 23)),
ia 25 (.mv (.t 24)),
ig 26 25 false (.ld 2 true (.t 3)),
ig 27 25 false (.call (.f 6) [(.t 26)]),
ig 28 25 false (.bin .neq (.t 27) (ci 0)),
ia 29 (.pick (.t 25) (.c (.a (.p (.b true)))) (.t 28)),
ia 30 (.mv (.t 29)),
ig 31 30 false (.mv (.t 2)),
ig 32 30 false (.bin .lss (.t 31) (ci 0)),
ia 33 (.pick (.t 30) (.c (.a (.p (.b true)))) (.t 32)),
ia 34 (.mv (.t 33)),
ig 35 34 false (.mv (.t 2)),
ig 36 34 false (.bin .gtr (.t 35) (ci 100)),
ia 37 (.pick (.t 34) (.c (.a (.p (.b true)))) (.t 36)),
ia 38 (.mv (.t 37)),
ig 39 38 false (.fad 1 (.t 3)),
ig 40 38 false (.ld 1 false (.t 39)),
ig 41 38 false (.bin .gtr (.t 40) (ci 3000)),
ia 42 (.pick (.t 38) (.c (.a (.p (.b true)))) (.t 41))]) (.cond (.t 42) (.seq (.reg [
  ia 43 (.call (.f 4) []),
ia 6 (.mv (.t 43))]) .ret) .skip)) (.seq (.reg [
  ia 44 (.ld 2 true (.t 3)),
ia 45 (.mv (.t 1)),
ia 46 (.call (.f 7) [(.t 44), (.t 45)]),
ia 7 (.mv (.t 46))]) (.seq (.seq (.reg [
  ia 47 (.mv (.t 7)),
ia 48 (.bin .lss (.t 47) (ci 0))]) (.cond (.t 48) (.seq (.reg [
  ia 6 (.mv (.c (.a (.p (.b true)))))]) .ret) .skip)) (.seq (.reg [
  ir 50 (.fad 0 (.t 3)),
ir 51 (.ld 1 false (.t 50)),
ir 52 (.mv (.t 1)),
ir 53 (.ias 6 (.t 51) (.t 52)),
ir 54 (.ld 6 true (.t 53)),
ir 55 (.fad 0 (.t 3)),
ir 56 (.ld 1 false (.t 55)),
ir 57 (.mv (.t 7)),
ir 58 (.ias 6 (.t 56) (.t 57)),
ir 59 (.ld 6 true (.t 58)),
ir 60 (.call (.f 8) [(.t 54), (.t 59)]),
ir 49 (.mv (.t 60)),
ir 61 (.ext (.t 49) 0),
ir 62 (.ext (.t 49) 1),
⟨(.some 8), .none, (.new [(.p (.i .i64 0)), (.p (.b false)), (.p (.i .i64 0)), (.p (.i .i64 0)), (.p (.i .i64 0)), (.p (.i .i64 0)), (.p (.i .i64 0)), (.p (.s [])), .nil, .nil]), .ad⟩,
⟨.none, .none, (.st 10 (.t 8) (.t 61)), (.wr [])⟩,
ia 9 (.mv (.t 62))]) (.seq (.seq (.reg [
  ia 63 (.mv (.t 9)),
ia 64 (.bin .neq (.t 63) (ci 0))]) (.cond (.t 64) (.seq (.reg [
  ia 6 (.mv (.c (.a (.p (.b true)))))]) .ret) .skip)) (.seq (.reg [
  ir 65 (.ld 10 true (.t 8)),
ir 66 (.fad 0 (.t 3)),
ir 67 (.ld 1 false (.t 66)),
ir 68 (.mv (.t 1)),
ir 69 (.ias 6 (.t 67) (.t 68)),
ir 70 (.ld 6 true (.t 69)),
ir 71 (.fad 0 (.t 3)),
ir 72 (.ld 1 false (.t 71)),
ir 73 (.mv (.t 7)),
ir 74 (.ias 6 (.t 72) (.t 73)),
ir 75 (.ld 6 true (.t 74)),
ia 76 (.call (.f 9) [(.t 65), (.t 70), (.t 75)]),
ia 10 (.mv (.t 76))]) (.seq (.reg [
  ia 78 (.ld 2 true (.t 3)),
ia 79 (.mv (.t 1)),
ia 80 (.call (.f 10) [(.t 78), (.t 79)]),
ia 77 (.mv (.t 80)),
ia 81 (.ext (.t 77) 0),
ia 82 (.ext (.t 77) 1),
ia 83 (.ext (.t 77) 2),
ia 11 (.new [.nil, (.p (.i .i64 0))]),
ia 12 (.new [(.p (.i .i64 0)), (.p (.b false)), (.p (.i .i64 0)), (.p (.i .i64 0)), (.p (.i .i64 0)), (.p (.i .i64 0)), (.p (.i .i64 0)), (.p (.s [])), .nil, .nil]),
io (.st 2 (.t 11) (.t 81)),
io (.st 10 (.t 12) (.t 82)),
ia 13 (.mv (.t 83))]) (.seq (.reg [
  ia 84 (.ld 2 true (.t 3)),
ia 14 (.new [.nil, (.p (.i .i64 0))]),
io (.st 2 (.t 14) (.t 84))]) (.seq (.reg [
  ia 85 (.fad 1 (.t 14)),
ia 86 (.ld 1 false (.t 85)),
ia 87 (.mv (.t 2)),
ia 88 (.bin .add (.t 86) (.t 87)),
ia 89 (.fad 1 (.t 14)),
io (.st 1 (.t 89) (.t 88))]) (.seq (.reg [
  ia 91 (.ld 2 true (.t 14)),
ia 92 (.mv (.t 1)),
ia 93 (.call (.f 10) [(.t 91), (.t 92)]),
ia 90 (.mv (.t 93)),
ia 94 (.ext (.t 90) 0),
ia 95 (.ext (.t 90) 1),
ia 96 (.ext (.t 90) 2),
ia 15 (.new [.nil, (.p (.i .i64 0))]),
ia 16 (.new [(.p (.i .i64 0)), (.p (.b false)), (.p (.i .i64 0)), (.p (.i .i64 0)), (.p (.i .i64 0)), (.p (.i .i64 0)), (.p (.i .i64 0)), (.p (.s [])), .nil, .nil]),
io (.st 2 (.t 15) (.t 94)),
io (.st 10 (.t 16) (.t 95)),
ia 17 (.mv (.t 96))]) (.seq (.seq (.reg [
  ir 97 (.mv (.t 13)),
ir 98 (.bin .eql (.t 97) (ci 0)),
ir 99 (.ld 2 true (.t 3)),
ir 100 (.call (.f 11) [(.t 99)]),
ir 101 (.mv (.t 10)),
ir 102 (.bin .add (.t 100) (.t 101)),
ir 103 (.fad 1 (.t 3)),
ir 104 (.ld 1 false (.t 103)),
ir 105 (.bin .leq (.t 102) (.t 104)),
ia 106 (.eqb true (.t 98) (.t 105)),
ia 107 (.mv (.t 106)),
ih 108 107 false (.mv (.t 17)),
ih 109 107 false (.bin .eql (.t 108) (ci 0)),
ih 110 107 false (.ld 2 true (.t 3)),
ih 111 107 false (.call (.f 11) [(.t 110)]),
ih 112 107 false (.mv (.t 10)),
ih 113 107 false (.bin .add (.t 111) (.t 112)),
ih 114 107 false (.fad 1 (.t 14)),
ih 115 107 false (.ld 1 false (.t 114)),
ih 116 107 false (.bin .leq (.t 113) (.t 115)),
ig 117 107 false (.eqb true (.t 109) (.t 116)),
ia 118 (.pick (.t 107) (.c (.a (.p (.b true)))) (.t 117))]) (.cond (.t 118) (.seq (.reg [
  ia 6 (.mv (.c (.a (.p (.b false)))))]) .ret) .skip)) (.seq (.reg [
  ia 119 (.fad 1 (.t 15)),
ia 120 (.ld 1 false (.t 119)),
ia 121 (.fad 1 (.t 11)),
io (.st 1 (.t 121) (.t 120))]) (.seq (.reg [
  ia 122 (.mv (.t 13)),
ia 123 (.bin .neq (.t 122) (ci 0)),
ia 124 (.mv (.t 123)),
ig 125 124 false (.ld 2 true (.t 11)),
ig 126 124 false (.ld 2 true (.t 15)),
ig 127 124 false (.call (.f 12) [(.t 125), (.t 126)]),
ia 128 (.pick (.t 124) (.c (.a (.p (.b true)))) (.t 127)),
ia 6 (.mv (.t 128))]) .ret)))))))))))))), [(.tmp 6)]⟩
theorem cc3 : ccF Tryz.prog [(46, [0, 0]), (57, [1, 0]), (81, [0, 0]), (46, [9]), (68, [8]), (70, [8]), (54, [8]), (69, [8]), (58, [8])] Tryz.f3 = some (stripF F3) := by kernel_rfl
def F4 : FnC := ⟨0, (.seq (.reg [
  ia 0 (.mv (.c (.a (.p (.b false)))))]) (.seq (.reg [
  ia 24 (.call (.f 13) []),
ia 25 (.call (.f 10) [(.t 24), (ci 1)]),
ia 23 (.mv (.t 25)),
ia 26 (.ext (.t 23) 0),
ia 27 (.ext (.t 23) 1),
ia 28 (.ext (.t 23) 2),
ia 1 (.new [.nil, (.p (.i .i64 0))]),
ia 2 (.new [(.p (.i .i64 0)), (.p (.b false)), (.p (.i .i64 0)), (.p (.i .i64 0)), (.p (.i .i64 0)), (.p (.i .i64 0)), (.p (.i .i64 0)), (.p (.s [])), .nil, .nil]),
io (.st 2 (.t 1) (.t 26)),
io (.st 10 (.t 2) (.t 27)),
ia 3 (.mv (.t 28))]) (.fz [1, 2] (.seq (.reg [
  ia 30 (.call (.f 13) []),
ia 31 (.call (.f 10) [(.t 30), (ci 2)]),
ia 29 (.mv (.t 31)),
ia 32 (.ext (.t 29) 0),
ia 33 (.ext (.t 29) 1),
ia 34 (.ext (.t 29) 2),
ia 4 (.new [.nil, (.p (.i .i64 0))]),
ia 5 (.new [(.p (.i .i64 0)), (.p (.b false)), (.p (.i .i64 0)), (.p (.i .i64 0)), (.p (.i .i64 0)), (.p (.i .i64 0)), (.p (.i .i64 0)), (.p (.s [])), .nil, .nil]),
io (.st 2 (.t 4) (.t 32)),
io (.st 10 (.t 5) (.t 33)),
ia 6 (.mv (.t 34))]) (.fz [1, 2, 4, 5] (.seq (.reg [
  ia 36 (.call (.f 13) []),
ia 37 (.call (.f 10) [(.t 36), (ci 0)]),
ia 35 (.mv (.t 37)),
ia 38 (.ext (.t 35) 0),
ia 39 (.ext (.t 35) 1),
ia 40 (.ext (.t 35) 2),
ia 7 (.new [.nil, (.p (.i .i64 0))]),
ia 8 (.new [(.p (.i .i64 0)), (.p (.b false)), (.p (.i .i64 0)), (.p (.i .i64 0)), (.p (.i .i64 0)), (.p (.i .i64 0)), (.p (.i .i64 0)), (.p (.s [])), .nil, .nil]),
io (.st 2 (.t 7) (.t 38)),
io (.st 10 (.t 8) (.t 39)),
ia 9 (.mv (.t 40))]) (.fz [1, 2, 4, 5, 7, 8] (.seq (.reg [
  ia 42 (.call (.f 13) []),
ia 43 (.call (.f 10) [(.t 42), (ci 9)]),
ia 41 (.mv (.t 43)),
ia 44 (.ext (.t 41) 0),
ia 45 (.ext (.t 41) 1),
ia 46 (.ext (.t 41) 2),
ia 10 (.new [.nil, (.p (.i .i64 0))]),
ia 11 (.new [(.p (.i .i64 0)), (.p (.b false)), (.p (.i .i64 0)), (.p (.i .i64 0)), (.p (.i .i64 0)), (.p (.i .i64 0)), (.p (.i .i64 0)), (.p (.s [])), .nil, .nil]),
io (.st 2 (.t 10) (.t 44)),
io (.st 10 (.t 11) (.t 45)),
ia 12 (.mv (.t 46))]) (.fz [1, 2, 4, 5, 7, 8, 10, 11] (.seq (.reg [
  ia 48 (.build [.nil, (.p (.i .i64 0))] []),
ia 49 (.call (.f 10) [(.t 48), (ci 0)]),
ia 47 (.mv (.t 49)),
ia 50 (.ext (.t 47) 0),
ia 51 (.ext (.t 47) 1),
ia 52 (.ext (.t 47) 2),
ia 13 (.new [.nil, (.p (.i .i64 0))]),
ia 14 (.new [(.p (.i .i64 0)), (.p (.b false)), (.p (.i .i64 0)), (.p (.i .i64 0)), (.p (.i .i64 0)), (.p (.i .i64 0)), (.p (.i .i64 0)), (.p (.s [])), .nil, .nil]),
io (.st 2 (.t 13) (.t 50)),
io (.st 10 (.t 14) (.t 51)),
ia 15 (.mv (.t 52))]) (.fz [1, 2, 4, 5, 7, 8, 10, 11, 13, 14] (.seq (.reg [
  ia 53 (.call (.f 14) [(ci 1), (ci 1)]),
ia 54 (.bsl 2 46 [(.p (.i .i64 0)), (.p (.i .i64 0))] 1 [(0, (.t 53))]),
ia 55 (.build [(.p (.i .i64 0)), (.p (.i .i64 0)), (.p (.i .i64 0)), (.p (.s [])), .nil, .nil] [(0, (1, (ci 1))), (5, (1, (.t 54)))]),
ia 56 (.call (.f 14) [(ci 2), (ci 0)]),
ia 57 (.call (.f 14) [(ci 0), (ci 0)]),
ia 58 (.call (.f 14) [(ci 3), (ci 0)]),
ia 59 (.bsl 2 46 [(.p (.i .i64 0)), (.p (.i .i64 0))] 3 [(0, (.t 56)), (1, (.t 57)), (2, (.t 58))]),
ia 60 (.build [(.p (.i .i64 0)), (.p (.i .i64 0)), (.p (.i .i64 0)), (.p (.s [])), .nil, .nil] [(0, (1, (ci 4))), (5, (1, (.t 59)))]),
ia 61 (.call (.f 14) [(ci 1), (ci 0)]),
ia 62 (.call (.f 14) [(ci 4), (ci 0)]),
ia 63 (.bsl 2 46 [(.p (.i .i64 0)), (.p (.i .i64 0))] 2 [(0, (.t 61)), (1, (.t 62))]),
ia 64 (.build [(.p (.i .i64 0)), (.p (.i .i64 0)), (.p (.i .i64 0)), (.p (.s [])), .nil, .nil] [(0, (1, (ci 5))), (1, (1, (ci 1))), (5, (1, (.t 63)))]),
ia 65 (.call (.f 14) [(ci 1), (ci 2)]),
ia 66 (.bsl 2 46 [(.p (.i .i64 0)), (.p (.i .i64 0))] 1 [(0, (.t 65))]),
ia 67 (.build [(.p (.i .i64 0)), (.p (.i .i64 0)), (.p (.i .i64 0)), (.p (.s [])), .nil, .nil] [(0, (1, (ci 7))), (5, (1, (.t 66)))]),
ia 68 (.call (.f 14) [(ci 2), (ci 1)]),
ia 69 (.bsl 2 46 [(.p (.i .i64 0)), (.p (.i .i64 0))] 1 [(0, (.t 68))]),
ia 70 (.build [(.p (.i .i64 0)), (.p (.i .i64 0)), (.p (.i .i64 0)), (.p (.s [])), .nil, .nil] [(0, (1, (ci 10))), (5, (1, (.t 69)))]),
ia 71 (.bsl 6 33 [(.p (.i .i64 0)), (.p (.i .i64 0)), (.p (.i .i64 0)), (.p (.s [])), .nil, .nil] 5 [(0, (.t 55)), (1, (.t 60)), (2, (.t 64)), (3, (.t 67)), (4, (.t 70))]),
ia 72 (.build [.nil, (.p (.i .i64 0))] [(1, (1, (ci 5))), (0, (1, (.t 71)))]),
ia 16 (.new [.nil, (.p (.i .i64 0))]),
io (.st 2 (.t 16) (.t 72))]) (.fz [1, 2, 4, 5, 7, 8, 10, 11, 13, 14, 16] (.seq (.reg [
  ia 74 (.ld 2 true (.t 16)),
ia 75 (.call (.f 10) [(.t 74), (ci 1)]),
ia 73 (.mv (.t 75)),
ia 76 (.ext (.t 73) 0),
ia 77 (.ext (.t 73) 1),
ia 78 (.ext (.t 73) 2),
ia 17 (.new [.nil, (.p (.i .i64 0))]),
ia 18 (.new [(.p (.i .i64 0)), (.p (.b false)), (.p (.i .i64 0)), (.p (.i .i64 0)), (.p (.i .i64 0)), (.p (.i .i64 0)), (.p (.i .i64 0)), (.p (.s [])), .nil, .nil]),
io (.st 2 (.t 17) (.t 76)),
io (.st 10 (.t 18) (.t 77)),
ia 19 (.mv (.t 78))]) (.fz [1, 2, 4, 5, 7, 8, 10, 11, 13, 14, 16, 17, 18] (.seq (.reg [
  ia 79 (.fad 1 (.t 16)),
io (.st 1 (.t 79) (ci 9))]) (.fz [1, 2, 4, 5, 7, 8, 10, 11, 13, 14, 16, 17, 18] (.seq (.reg [
  ia 81 (.ld 2 true (.t 16)),
ia 82 (.call (.f 10) [(.t 81), (ci 2)]),
ia 80 (.mv (.t 82)),
ia 83 (.ext (.t 80) 0),
ia 84 (.ext (.t 80) 1),
ia 85 (.ext (.t 80) 2),
ia 20 (.new [.nil, (.p (.i .i64 0))]),
ia 21 (.new [(.p (.i .i64 0)), (.p (.b false)), (.p (.i .i64 0)), (.p (.i .i64 0)), (.p (.i .i64 0)), (.p (.i .i64 0)), (.p (.i .i64 0)), (.p (.s [])), .nil, .nil]),
io (.st 2 (.t 20) (.t 83)),
io (.st 10 (.t 21) (.t 84)),
ia 22 (.mv (.t 85))]) (.fz [1, 2, 4, 5, 7, 8, 10, 11, 13, 14, 16, 17, 18, 20, 21] (.seq (.reg [
  ia 86 (.mv (.t 3)),
ia 87 (.bin .eql (.t 86) (ci 0)),
ia 88 (.mv (.t 87)),
ig 89 88 true (.fad 0 (.t 2)),
ig 90 88 true (.ld 1 false (.t 89)),
ig 91 88 true (.bin .eql (.t 90) (ci 1)),
ia 92 (.pick (.t 88) (.t 91) (.c (.a (.p (.b false))))),
ia 93 (.mv (.t 92)),
ig 94 93 true (.fad 1 (.t 2)),
ig 95 93 true (.ld 1 false (.t 94)),
ig 96 93 true (.not (.t 95)),
ia 97 (.pick (.t 93) (.t 96) (.c (.a (.p (.b false))))),
ia 98 (.mv (.t 97)),
ig 99 98 true (.fad 0 (.t 1)),
ig 100 98 true (.ld 1 false (.t 99)),
ig 101 98 true (.len false (.t 100)),
ig 102 98 true (.bin .eql (.t 101) (ci 4)),
ia 103 (.pick (.t 98) (.t 102) (.c (.a (.p (.b false))))),
ia 104 (.mv (.t 103)),
ig 105 104 true (.ld 2 true (.t 1)),
ig 106 104 true (.call (.f 11) [(.t 105)]),
ig 107 104 true (.bin .eql (.t 106) (ci 2)),
ia 108 (.pick (.t 104) (.t 107) (.c (.a (.p (.b false))))),
ia 109 (.mv (.t 108)),
ih 110 109 true (.fad 0 (.t 1)),
ih 111 109 true (.ld 1 false (.t 110)),
ih 112 109 true (.ias 6 (.t 111) (ci 0)),
ih 113 109 true (.fad 5 (.t 112)),
ih 114 109 true (.ld 1 false (.t 113)),
ih 115 109 true (.ias 2 (.t 114) (ci 0)),
ih 116 109 true (.ld 2 true (.t 115)),
ih 117 109 true (.call (.f 14) [(ci 3), (ci 0)]),
ig 118 109 true (.eqg false [0, 0] (.t 116) (.t 117)),
ia 119 (.pick (.t 109) (.t 118) (.c (.a (.p (.b false))))),
ia 120 (.mv (.t 119)),
ig 121 120 true (.ld 2 true (.t 1)),
ig 122 120 true (.call (.f 6) [(.t 121)]),
ig 123 120 true (.bin .eql (.t 122) (ci 0)),
ia 124 (.pick (.t 120) (.t 123) (.c (.a (.p (.b false))))),
ia 125 (.mv (.t 124)),
ig 126 125 true (.mv (.t 6)),
ig 127 125 true (.bin .eql (.t 126) (ci 0)),
ia 128 (.pick (.t 125) (.t 127) (.c (.a (.p (.b false))))),
ia 129 (.mv (.t 128)),
ig 130 129 true (.fad 1 (.t 5)),
ig 131 129 true (.ld 1 false (.t 130)),
ia 132 (.pick (.t 129) (.t 131) (.c (.a (.p (.b false))))),
ia 133 (.mv (.t 132)),
ih 134 133 true (.ld 2 true (.t 1)),
ih 135 133 true (.ld 2 true (.t 4)),
ig 136 133 true (.call (.f 12) [(.t 134), (.t 135)]),
ia 137 (.pick (.t 133) (.t 136) (.c (.a (.p (.b false))))),
ia 138 (.mv (.t 137)),
ig 139 138 true (.mv (.t 9)),
ig 140 138 true (.bin .eql (.t 139) (ci 122)),
ia 141 (.pick (.t 138) (.t 140) (.c (.a (.p (.b false))))),
ia 142 (.mv (.t 141)),
ig 143 142 true (.mv (.t 12)),
ig 144 142 true (.bin .eql (.t 143) (ci 122)),
ia 145 (.pick (.t 142) (.t 144) (.c (.a (.p (.b false))))),
ia 146 (.mv (.t 145)),
ig 147 146 true (.mv (.t 15)),
ig 148 146 true (.bin .eql (.t 147) (ci 120)),
ia 149 (.pick (.t 146) (.t 148) (.c (.a (.p (.b false))))),
ia 150 (.mv (.t 149)),
ig 151 150 true (.mv (.t 19)),
ig 152 150 true (.bin .eql (.t 151) (ci 121)),
ia 153 (.pick (.t 150) (.t 152) (.c (.a (.p (.b false))))),
ia 154 (.mv (.t 153)),
ig 155 154 true (.mv (.t 22)),
ig 156 154 true (.bin .eql (.t 155) (ci 0)),
ia 157 (.pick (.t 154) (.t 156) (.c (.a (.p (.b false))))),
ia 158 (.mv (.t 157)),
ig 159 158 true (.fad 0 (.t 21)),
ig 160 158 true (.ld 1 false (.t 159)),
ig 161 158 true (.bin .eql (.t 160) (ci 7)),
ia 162 (.pick (.t 158) (.t 161) (.c (.a (.p (.b false))))),
ia 163 (.mv (.t 162)),
ig 164 163 true (.fad 1 (.t 21)),
ig 165 163 true (.ld 1 false (.t 164)),
ia 166 (.pick (.t 163) (.t 165) (.c (.a (.p (.b false))))),
ia 167 (.mv (.t 166)),
ig 168 167 true (.ld 2 true (.t 20)),
ig 169 167 true (.call (.f 11) [(.t 168)]),
ig 170 167 true (.bin .eql (.t 169) (ci 6)),
ia 171 (.pick (.t 167) (.t 170) (.c (.a (.p (.b false))))),
ia 172 (.mv (.t 171)),
ig 173 172 true (.ld 2 true (.t 20)),
ig 174 172 true (.call (.f 6) [(.t 173)]),
ig 175 172 true (.bin .eql (.t 174) (ci 0)),
ia 176 (.pick (.t 172) (.t 175) (.c (.a (.p (.b false))))),
ia 177 (.mv (.t 176)),
ig 178 177 true (.fad 0 (.t 20)),
ig 179 177 true (.ld 1 false (.t 178)),
ig 180 177 true (.len false (.t 179)),
ig 181 177 true (.bin .eql (.t 180) (ci 8)),
ia 182 (.pick (.t 177) (.t 181) (.c (.a (.p (.b false))))),
ia 183 (.mv (.t 182)),
ig 184 183 true (.fad 0 (.t 20)),
ig 185 183 true (.ld 1 false (.t 184)),
ig 186 183 true (.ias 6 (.t 185) (ci 7)),
ig 187 183 true (.fad 0 (.t 186)),
ig 188 183 true (.ld 1 false (.t 187)),
ig 189 183 true (.bin .eql (.t 188) (ci 4)),
ia 190 (.pick (.t 183) (.t 189) (.c (.a (.p (.b false))))),
ia 0 (.mv (.t 190))]) .ret)))))))))))))))))))), [(.tmp 0)]⟩
theorem cc4 : ccF Tryz.prog [(46, [0, 0]), (57, [1, 0]), (81, [0, 0]), (46, [9]), (68, [8]), (70, [8]), (54, [8]), (69, [8]), (58, [8])] Tryz.f4 = some (stripF F4) := by kernel_rfl
def F5b0 : C := (.seq (.seq (.reg [
  ia 6 (.mv (.t 5)),
ia 7 (.fad 0 (.t 2)),
ia 8 (.ld 1 false (.t 7)),
ia 9 (.len false (.t 8)),
ia 10 (.bin .lss (.t 6) (.t 9))]) (.cond (.t 10) .skip (.exit 0))) (.seq (.block 1 (.seq (.reg [
  ia 13 (.fad 0 (.t 2)),
ia 14 (.ld 1 false (.t 13)),
ia 15 (.mv (.t 5)),
ia 16 (.ias 6 (.t 14) (.t 15)),
ia 17 (.fad 5 (.t 16)),
ia 18 (.ld 1 false (.t 17)),
ia 19 (.len false (.t 18)),
ia 20 (.bin .gtr (.t 19) (ci 12)),
ia 21 (.mv (.t 20)),
ig 22 21 false (.fad 0 (.t 2)),
ig 23 21 false (.ld 1 false (.t 22)),
ig 24 21 false (.mv (.t 5)),
ig 25 21 false (.ias 6 (.t 23) (.t 24)),
ig 26 21 false (.fad 4 (.t 25)),
ig 27 21 false (.ld 1 false (.t 26)),
ig 28 21 false (.len false (.t 27)),
ig 29 21 false (.bin .gtr (.t 28) (ci 12)),
ia 30 (.pick (.t 21) (.c (.a (.p (.b true)))) (.t 29))]) (.cond (.t 30) (.seq (.reg [
  ia 4 (.mv (.c (.a (.p (.b false)))))]) .ret) .skip))) (.reg [
  ia 11 (.mv (.t 5)),
ia 12 (.bin .add (.t 11) (ci 1)),
ia 5 (.mv (.t 12))])))
def F5 : FnC := ⟨2, (.seq (.reg [
  ia 2 (.box 2 (.t 0)),
ia 4 (.mv (.c (.a (.p (.b false)))))]) (.seq (.seq (.reg [
  ia 5 (.mv (ci 0))]) (.block 0 (.loop F5b0))) (.seq (.reg [
  ia 31 (.fad 0 (.t 2)),
ia 32 (.ld 1 false (.t 31)),
ia 33 (.len false (.t 32)),
ia 34 (.mv (.t 1)),
ia 35 (.bin .leq (.t 33) (.t 34)),
ia 4 (.mv (.t 35))]) .ret))), [(.tmp 4)]⟩
theorem cc5 : ccF Tryz.prog [(46, [0, 0]), (57, [1, 0]), (81, [0, 0]), (46, [9]), (68, [8]), (70, [8]), (54, [8]), (69, [8]), (58, [8])] Tryz.f5 = some (stripF F5) := by kernel_rfl
def F6b1 : C := (.seq (.seq (.reg [
  ia 73 (.mv (.t 5)),
ia 74 (.fad 5 (.t 4)),
ia 75 (.ld 1 false (.t 74)),
ia 76 (.len false (.t 75)),
ia 77 (.bin .lss (.t 73) (.t 76))]) (.cond (.t 77) .skip (.exit 2))) (.seq (.block 3 (.seq (.reg [
  ia 80 (.mv (.t 3)),
ia 81 (.mv (.t 5)),
ia 82 (.build [(.p (.i .i64 0)), (.p (.i .i64 0))] [(0, (1, (.t 80))), (1, (1, (.t 81)))]),
ia 6 (.new [(.p (.i .i64 0)), (.p (.i .i64 0))]),
io (.st 2 (.t 6) (.t 82))]) (.seq (.reg [
  ia 83 (.fad 5 (.t 4)),
ia 84 (.ld 1 false (.t 83)),
ia 85 (.mv (.t 5)),
ia 86 (.ias 2 (.t 84) (.t 85)),
ia 87 (.ld 2 true (.t 86)),
ia 7 (.new [(.p (.i .i64 0)), (.p (.i .i64 0))]),
io (.st 2 (.t 7) (.t 87))]) (.seq (.reg [
  ir 88 (.ld 2 true (.t 7)),
ir 89 (.ld 2 true (.t 6)),
ia 90 (.eqg false [0, 0] (.t 88) (.t 89)),
ia 91 (.mv (.t 90)),
ih 92 91 false (.ld 2 true (.t 1)),
ih 93 91 false (.ld 2 true (.t 7)),
ig 94 91 false (.call (.f 17) [(.t 92), (.t 93)]),
ig 95 91 false (.not (.t 94)),
ia 96 (.pick (.t 91) (.c (.a (.p (.b true)))) (.t 95)),
ia 97 (.mv (.t 96)),
ih 98 97 false (.fad 0 (.t 1)),
ih 99 97 false (.ld 1 false (.t 98)),
ih 100 97 false (.fad 0 (.t 7)),
ih 101 97 false (.ld 1 false (.t 100)),
ih 102 97 false (.ias 6 (.t 99) (.t 101)),
ih 103 97 false (.fad 5 (.t 102)),
ih 104 97 false (.ld 1 false (.t 103)),
ih 105 97 false (.fad 1 (.t 7)),
ih 106 97 false (.ld 1 false (.t 105)),
ih 107 97 false (.ias 2 (.t 104) (.t 106)),
ih 108 97 false (.ld 2 true (.t 107)),
ih 109 97 false (.ld 2 true (.t 6)),
ig 110 97 false (.eqg true [0, 0] (.t 108) (.t 109)),
ia 111 (.pick (.t 97) (.c (.a (.p (.b true)))) (.t 110))]) (.cond (.t 111) (.seq (.reg [
  ia 2 (.mv (ci 120))]) .ret) .skip))))) (.reg [
  ia 78 (.mv (.t 5)),
ia 79 (.bin .add (.t 78) (ci 1)),
ia 5 (.mv (.t 79))])))
def F6b0 : C := (.seq (.seq (.reg [
  ia 42 (.mv (.t 3)),
ia 43 (.fad 0 (.t 1)),
ia 44 (.ld 1 false (.t 43)),
ia 45 (.len false (.t 44)),
ia 46 (.bin .lss (.t 42) (.t 45))]) (.cond (.t 46) .skip (.exit 0))) (.seq (.block 1 (.seq (.reg [
  ia 49 (.fad 0 (.t 1)),
ia 50 (.ld 1 false (.t 49)),
ia 51 (.mv (.t 3)),
ia 52 (.ias 6 (.t 50) (.t 51)),
ia 53 (.ld 6 true (.t 52)),
ia 4 (.new [(.p (.i .i64 0)), (.p (.i .i64 0)), (.p (.i .i64 0)), (.p (.s [])), .nil, .nil]),
io (.st 6 (.t 4) (.t 53))]) (.seq (.seq (.reg [
  ia 54 (.ld 6 true (.t 4)),
ia 55 (.call (.f 15) [(.t 54)]),
ia 56 (.not (.t 55)),
ia 57 (.mv (.t 56)),
ih 58 57 false (.fad 5 (.t 4)),
ih 59 57 false (.ld 1 false (.t 58)),
ih 60 57 false (.len false (.t 59)),
ih 61 57 false (.ld 6 true (.t 4)),
ih 62 57 false (.call (.f 16) [(.t 61)]),
ig 63 57 false (.bin .neq (.t 60) (.t 62)),
ia 64 (.pick (.t 57) (.c (.a (.p (.b true)))) (.t 63)),
ia 65 (.mv (.t 64)),
ih 66 65 false (.mv (.t 3)),
ih 67 65 false (.bin .eql (.t 66) (ci 0)),
ih 68 65 false (.fad 0 (.t 4)),
ih 69 65 false (.ld 1 false (.t 68)),
ih 70 65 false (.bin .eql (.t 69) (ci 1)),
ig 71 65 false (.eqb true (.t 67) (.t 70)),
ia 72 (.pick (.t 65) (.c (.a (.p (.b true)))) (.t 71))]) (.cond (.t 72) (.seq (.reg [
  ia 2 (.mv (ci 120))]) .ret) .skip)) (.seq (.reg [
  ia 5 (.mv (ci 0))]) (.block 2 (.loop F6b1)))))) (.reg [
  ia 47 (.mv (.t 3)),
ia 48 (.bin .add (.t 47) (ci 1)),
ia 3 (.mv (.t 48))])))
def F6 : FnC := ⟨1, (.seq (.reg [
  ia 1 (.box 2 (.t 0)),
ia 2 (.mv (ci 0))]) (.seq (.seq (.reg [
  ia 8 (.fad 1 (.t 1)),
ia 9 (.ld 1 false (.t 8)),
ia 10 (.bin .lss (.t 9) (ci 1)),
ia 11 (.mv (.t 10)),
ig 12 11 false (.fad 1 (.t 1)),
ig 13 11 false (.ld 1 false (.t 12)),
ig 14 11 false (.bin .gtr (.t 13) (ci 4000)),
ia 15 (.pick (.t 11) (.c (.a (.p (.b true)))) (.t 14)),
ia 16 (.mv (.t 15)),
ig 17 16 false (.fad 0 (.t 1)),
ig 18 16 false (.ld 1 false (.t 17)),
ig 19 16 false (.len false (.t 18)),
ig 20 16 false (.bin .lss (.t 19) (ci 1)),
ia 21 (.pick (.t 16) (.c (.a (.p (.b true)))) (.t 20)),
ia 22 (.mv (.t 21)),
ig 23 22 false (.fad 0 (.t 1)),
ig 24 22 false (.ld 1 false (.t 23)),
ig 25 22 false (.len false (.t 24)),
ig 26 22 false (.fad 1 (.t 1)),
ig 27 22 false (.ld 1 false (.t 26)),
ig 28 22 false (.bin .gtr (.t 25) (.t 27)),
ia 29 (.pick (.t 22) (.c (.a (.p (.b true)))) (.t 28)),
ia 30 (.mv (.t 29)),
ig 31 30 false (.fad 0 (.t 1)),
ig 32 30 false (.ld 1 false (.t 31)),
ig 33 30 false (.fad 0 (.t 1)),
ig 34 30 false (.ld 1 false (.t 33)),
ig 35 30 false (.len false (.t 34)),
ig 36 30 false (.bin .sub (.t 35) (ci 1)),
ig 37 30 false (.ias 6 (.t 32) (.t 36)),
ig 38 30 false (.fad 0 (.t 37)),
ig 39 30 false (.ld 1 false (.t 38)),
ig 40 30 false (.bin .eql (.t 39) (ci 0)),
ia 41 (.pick (.t 30) (.c (.a (.p (.b true)))) (.t 40))]) (.cond (.t 41) (.seq (.reg [
  ia 2 (.mv (ci 120))]) .ret) .skip)) (.seq (.seq (.reg [
  ia 3 (.mv (ci 0))]) (.block 0 (.loop F6b0))) (.seq (.reg [
  ia 2 (.mv (ci 0))]) .ret)))), [(.tmp 2)]⟩
theorem cc6 : ccF Tryz.prog [(46, [0, 0]), (57, [1, 0]), (81, [0, 0]), (46, [9]), (68, [8]), (70, [8]), (54, [8]), (69, [8]), (58, [8])] Tryz.f6 = some (stripF F6) := by kernel_rfl
def F7 : FnC := ⟨2, (.seq (.reg [
  ia 2 (.box 2 (.t 0)),
ia 4 (.mv (ci 0))]) (.seq (.reg [
  ir 8 (.ld 2 true (.t 2)),
ir 9 (.mv (.t 1)),
ir 10 (.call (.f 19) [(.t 9), (ci 0)]),
ir 11 (.call (.f 18) [(.t 8), (.t 10)]),
ir 7 (.mv (.t 11)),
ir 12 (.ext (.t 7) 0),
ir 13 (.ext (.t 7) 1),
⟨(.some 5), .none, (.new [(.p (.i .i64 0)), (.p (.i .i64 0))]), .ad⟩,
⟨.none, .none, (.st 2 (.t 5) (.t 12)), (.wr [])⟩,
ia 6 (.mv (.t 13))]) (.seq (.seq (.reg [
  ia 14 (.mv (.t 6)),
ia 15 (.bin .neq (.t 14) (ci 0)),
ia 16 (.mv (.t 15)),
ig 17 16 false (.fad 1 (.t 5)),
ig 18 16 false (.ld 1 false (.t 17)),
ig 19 16 false (.bin .neq (.t 18) (ci 0)),
ia 20 (.pick (.t 16) (.c (.a (.p (.b true)))) (.t 19))]) (.cond (.t 20) (.seq (.reg [
  ia 4 (.mv (.c (.a (.p (.i .i64 (-1))))))]) .ret) .skip)) (.seq (.reg [
  ia 21 (.fad 0 (.t 5)),
ia 22 (.ld 1 false (.t 21)),
ia 4 (.mv (.t 22))]) .ret)))), [(.tmp 4)]⟩
theorem cc7 : ccF Tryz.prog [(46, [0, 0]), (57, [1, 0]), (81, [0, 0]), (46, [9]), (68, [8]), (70, [8]), (54, [8]), (69, [8]), (58, [8])] Tryz.f7 = some (stripF F7) := by kernel_rfl
def F8 : FnC := ⟨2, (.seq (.reg [
  ia 2 (.box 6 (.t 0)),
ia 3 (.box 6 (.t 1)),
ia 4 (.new [(.p (.i .i64 0)), (.p (.b false)), (.p (.i .i64 0)), (.p (.i .i64 0)), (.p (.i .i64 0)), (.p (.i .i64 0)), (.p (.i .i64 0)), (.p (.s [])), .nil, .nil]),
ia 5 (.mv (ci 0))]) (.seq (.seq (.reg [
  ia 12 (.fad 0 (.t 2)),
ia 13 (.ld 1 false (.t 12)),
ia 14 (.call (.f 20) [(.t 13)]),
ia 15 (.not (.t 14)),
ia 16 (.mv (.t 15)),
ig 17 16 false (.fad 0 (.t 3)),
ig 18 16 false (.ld 1 false (.t 17)),
ig 19 16 false (.call (.f 20) [(.t 18)]),
ig 20 16 false (.not (.t 19)),
ia 21 (.pick (.t 16) (.c (.a (.p (.b true)))) (.t 20))]) (.cond (.t 21) (.seq (.reg [
  ia 22 (.build [(.p (.i .i64 0)), (.p (.b false)), (.p (.i .i64 0)), (.p (.i .i64 0)), (.p (.i .i64 0)), (.p (.i .i64 0)), (.p (.i .i64 0)), (.p (.s [])), .nil, .nil] []),
io (.st 10 (.t 4) (.t 22)),
ia 5 (.mv (ci 140))]) .ret) .skip)) (.seq (.reg [
  ia 24 (.ld 6 true (.t 2)),
ia 25 (.ld 6 true (.t 3)),
ia 26 (.call (.f 21) [(.t 24), (.t 25)]),
ia 23 (.mv (.t 26)),
ia 27 (.ext (.t 23) 0),
ia 28 (.ext (.t 23) 1),
ia 29 (.ext (.t 23) 2),
ia 6 (.new [(.p (.i .i64 0)), (.p (.b false)), (.p (.i .i64 0)), (.p (.i .i64 0)), (.p (.i .i64 0)), (.p (.i .i64 0)), (.p (.i .i64 0)), (.p (.s [])), .nil, .nil]),
io (.st 10 (.t 6) (.t 27)),
ia 7 (.mv (.t 28)),
ia 8 (.mv (.t 29))]) (.seq (.seq (.reg [
  ia 30 (.mv (.t 8))]) (.cond (.t 30) (.seq (.reg [
  ia 31 (.ld 10 true (.t 6)),
ia 32 (.mv (.t 7)),
io (.st 10 (.t 4) (.t 31)),
ia 5 (.mv (.t 32))]) .ret) .skip)) (.seq (.reg [
  ia 34 (.ld 6 true (.t 3)),
ia 35 (.ld 6 true (.t 2)),
ia 36 (.call (.f 21) [(.t 34), (.t 35)]),
ia 33 (.mv (.t 36)),
ia 37 (.ext (.t 33) 0),
ia 38 (.ext (.t 33) 1),
ia 39 (.ext (.t 33) 2),
ia 9 (.new [(.p (.i .i64 0)), (.p (.b false)), (.p (.i .i64 0)), (.p (.i .i64 0)), (.p (.i .i64 0)), (.p (.i .i64 0)), (.p (.i .i64 0)), (.p (.s [])), .nil, .nil]),
io (.st 10 (.t 9) (.t 37)),
ia 10 (.mv (.t 38)),
ia 11 (.mv (.t 39))]) (.seq (.seq (.reg [
  ia 40 (.mv (.t 11)),
ia 41 (.not (.t 40))]) (.cond (.t 41) (.seq (.reg [
  ia 42 (.build [(.p (.i .i64 0)), (.p (.b false)), (.p (.i .i64 0)), (.p (.i .i64 0)), (.p (.i .i64 0)), (.p (.i .i64 0)), (.p (.i .i64 0)), (.p (.s [])), .nil, .nil] []),
io (.st 10 (.t 4) (.t 42)),
ia 5 (.mv (ci 140))]) .ret) .skip)) (.seq (.reg [
  ia 43 (.mv (.t 10)),
ia 44 (.bin .eql (.t 43) (ci 0)),
ia 45 (.fad 1 (.t 9)),
io (.st 1 (.t 45) (.t 44))]) (.seq (.reg [
  ia 46 (.ld 10 true (.t 9)),
ia 47 (.mv (.t 10)),
io (.st 10 (.t 4) (.t 46)),
ia 5 (.mv (.t 47))]) .ret)))))))), [(.cell 4 10 true), (.tmp 5)]⟩
theorem cc8 : ccF Tryz.prog [(46, [0, 0]), (57, [1, 0]), (81, [0, 0]), (46, [9]), (68, [8]), (70, [8]), (54, [8]), (69, [8]), (58, [8])] Tryz.f8 = some (stripF F8) := by kernel_rfl
def F9 : FnC := ⟨3, (.seq (.reg [
  ia 3 (.box 10 (.t 0)),
ia 4 (.box 6 (.t 1)),
ia 5 (.box 6 (.t 2)),
ia 6 (.mv (ci 0))]) (.seq (.seq (.reg [
  ia 8 (.fad 1 (.t 3)),
ia 9 (.ld 1 false (.t 8))]) (.cond (.t 9) (.reg [
  ia 10 (.ld 6 true (.t 5)),
ia 11 (.ld 6 true (.t 4)),
io (.st 6 (.t 4) (.t 10)),
io (.st 6 (.t 5) (.t 11))]) .skip)) (.seq (.reg [
  ia 12 (.fad 5 (.t 5)),
ia 13 (.ld 1 false (.t 12)),
ia 14 (.len false (.t 13)),
ia 15 (.bin .sub (.t 14) (ci 1)),
ia 16 (.mx (.t 15) (ci 0)),
ia 7 (.mv (.t 16))]) (.seq (.seq (.reg [
  ia 17 (.fad 0 (.t 3)),
ia 18 (.ld 1 false (.t 17))]) (.block 0 (.seq (.reg [
  ia 20 (.bin .eql (.t 18) (ci 2)),
ia 19 (.mv (.t 20))]) (.cond (.t 19) (.seq (.seq (.reg [
  ia 21 (.fad 3 (.t 3)),
ia 22 (.ld 1 false (.t 21)),
ia 23 (.bin .lss (.t 22) (ci 0)),
ia 24 (.mv (.t 23)),
ig 25 24 false (.fad 3 (.t 3)),
ig 26 24 false (.ld 1 false (.t 25)),
ig 27 24 false (.fad 4 (.t 4)),
ig 28 24 false (.ld 1 false (.t 27)),
ig 29 24 false (.len false (.t 28)),
ig 30 24 false (.bin .geq (.t 26) (.t 29)),
ia 31 (.pick (.t 24) (.c (.a (.p (.b true)))) (.t 30))]) (.cond (.t 31) (.seq (.reg [
  ia 6 (.mv (ci 0))]) .ret) .skip)) (.seq (.reg [
  ir 32 (.fad 4 (.t 4)),
ir 33 (.ld 1 false (.t 32)),
ir 34 (.fad 3 (.t 3)),
ir 35 (.ld 1 false (.t 34)),
ir 36 (.ias 2 (.t 33) (.t 35)),
ir 37 (.fad 1 (.t 36)),
ir 38 (.ld 1 false (.t 37)),
ir 39 (.fad 4 (.t 4)),
ir 40 (.ld 1 false (.t 39)),
ir 41 (.len false (.t 40)),
ia 42 (.bin .add (.t 38) (.t 41)),
ia 43 (.bin .sub (.t 42) (ci 1)),
ia 6 (.mv (.t 43))]) .ret)) (.seq (.seq (.reg [
  ia 45 (.bin .eql (.t 18) (ci 3)),
ia 44 (.mv (.t 45))]) (.cond (.t 44) .skip (.reg [
  ia 46 (.bin .eql (.t 18) (ci 4)),
ia 44 (.mv (.t 46))]))) (.cond (.t 44) (.seq (.reg [
  ia 6 (.mv (ci 1))]) .ret) (.seq (.reg [
  ia 48 (.bin .eql (.t 18) (ci 5)),
ia 47 (.mv (.t 48))]) (.cond (.t 47) (.seq (.reg [
  ia 49 (.fad 5 (.t 4)),
ia 50 (.ld 1 false (.t 49)),
ia 51 (.len false (.t 50)),
ia 52 (.bin .sub (.t 51) (ci 2)),
ia 53 (.mx (.t 52) (ci 0)),
ia 54 (.bin .add (ci 1) (.t 53)),
ia 55 (.mv (.t 7)),
ia 56 (.bin .add (.t 54) (.t 55)),
ia 6 (.mv (.t 56))]) .ret) (.seq (.reg [
  ia 58 (.bin .eql (.t 18) (ci 7)),
ia 57 (.mv (.t 58))]) (.cond (.t 57) (.seq (.seq (.reg [
  ia 59 (.fad 0 (.t 4)),
ia 60 (.ld 1 false (.t 59)),
ia 61 (.bin .eql (.t 60) (ci 4))]) (.cond (.t 61) (.seq (.reg [
  ia 62 (.mv (.t 7)),
ia 63 (.bin .add (ci 2) (.t 62)),
ia 6 (.mv (.t 63))]) .ret) .skip)) (.seq (.reg [
  ia 64 (.mv (.t 7)),
ia 65 (.bin .add (ci 1) (.t 64)),
ia 6 (.mv (.t 65))]) .ret)) (.seq (.reg [
  ia 67 (.bin .eql (.t 18) (ci 8)),
ia 66 (.mv (.t 67))]) (.cond (.t 66) (.seq (.reg [
  ia 68 (.mv (.t 7)),
ia 6 (.mv (.t 68))]) .ret) .skip)))))))))))) (.seq (.reg [
  ia 6 (.mv (ci 0))]) .ret))))), [(.tmp 6)]⟩
theorem cc9 : ccF Tryz.prog [(46, [0, 0]), (57, [1, 0]), (81, [0, 0]), (46, [9]), (68, [8]), (70, [8]), (54, [8]), (69, [8]), (58, [8])] Tryz.f9 = some (stripF F9) := by kernel_rfl
def F10 : FnC := ⟨2, (.seq (.reg [
  ia 2 (.box 2 (.t 0)),
ia 4 (.new [.nil, (.p (.i .i64 0))]),
ia 5 (.new [(.p (.i .i64 0)), (.p (.b false)), (.p (.i .i64 0)), (.p (.i .i64 0)), (.p (.i .i64 0)), (.p (.i .i64 0)), (.p (.i .i64 0)), (.p (.s [])), .nil, .nil]),
ia 6 (.mv (ci 0))]) (.seq (.seq (.reg [
  ia 12 (.ld 2 true (.t 2)),
ia 13 (.call (.f 22) [(.t 12)]),
ia 7 (.mv (.t 13))]) (.seq (.reg [
  ia 14 (.mv (.t 7)),
ia 15 (.bin .neq (.t 14) (ci 0))]) (.cond (.t 15) (.seq (.reg [
  ia 16 (.ld 2 true (.t 2)),
ia 17 (.build [(.p (.i .i64 0)), (.p (.b false)), (.p (.i .i64 0)), (.p (.i .i64 0)), (.p (.i .i64 0)), (.p (.i .i64 0)), (.p (.i .i64 0)), (.p (.s [])), .nil, .nil] []),
ia 18 (.mv (.t 7)),
io (.st 2 (.t 4) (.t 16)),
io (.st 10 (.t 5) (.t 17)),
ia 6 (.mv (.t 18))]) .ret) .skip))) (.seq (.reg [
  ia 19 (.ld 2 true (.t 2)),
ia 20 (.mv (.t 1)),
ia 21 (.call (.f 23) [(.t 19), (.t 20)]),
ia 8 (.mv (.t 21))]) (.seq (.seq (.reg [
  ia 22 (.mv (.t 8)),
ia 23 (.bin .lss (.t 22) (ci 0))]) (.cond (.t 23) (.seq (.reg [
  ia 24 (.ld 2 true (.t 2)),
ia 25 (.build [(.p (.i .i64 0)), (.p (.b false)), (.p (.i .i64 0)), (.p (.i .i64 0)), (.p (.i .i64 0)), (.p (.i .i64 0)), (.p (.i .i64 0)), (.p (.s [])), .nil, .nil] []),
io (.st 2 (.t 4) (.t 24)),
io (.st 10 (.t 5) (.t 25)),
ia 6 (.mv (ci 122))]) .ret) .skip)) (.seq (.reg [
  ir 27 (.fad 0 (.t 2)),
ir 28 (.ld 1 false (.t 27)),
ir 29 (.mv (.t 1)),
ir 30 (.ias 6 (.t 28) (.t 29)),
ir 31 (.ld 6 true (.t 30)),
ir 32 (.fad 0 (.t 2)),
ir 33 (.ld 1 false (.t 32)),
ir 34 (.mv (.t 8)),
ir 35 (.ias 6 (.t 33) (.t 34)),
ir 36 (.ld 6 true (.t 35)),
ir 37 (.call (.f 24) [(.t 31), (.t 36)]),
ir 26 (.mv (.t 37)),
ir 38 (.ext (.t 26) 0),
ir 39 (.ext (.t 26) 1),
⟨(.some 9), .none, (.new [(.p (.i .i64 0)), (.p (.b false)), (.p (.i .i64 0)), (.p (.i .i64 0)), (.p (.i .i64 0)), (.p (.i .i64 0)), (.p (.i .i64 0)), (.p (.s [])), .nil, .nil]), .ad⟩,
⟨.none, .none, (.st 10 (.t 9) (.t 38)), (.wr [])⟩,
ia 10 (.mv (.t 39))]) (.seq (.block 0 (.seq (.reg [
  ia 41 (.mv (.t 10)),
ia 42 (.bin .neq (.t 41) (ci 0)),
ia 40 (.mv (.t 42))]) (.cond (.t 40) (.seq (.reg [
  ia 43 (.ld 2 true (.t 2)),
ia 44 (.build [(.p (.i .i64 0)), (.p (.b false)), (.p (.i .i64 0)), (.p (.i .i64 0)), (.p (.i .i64 0)), (.p (.i .i64 0)), (.p (.i .i64 0)), (.p (.s [])), .nil, .nil] []),
ia 45 (.mv (.t 10)),
io (.st 2 (.t 4) (.t 43)),
io (.st 10 (.t 5) (.t 44)),
ia 6 (.mv (.t 45))]) .ret) (.seq (.reg [
  ir 47 (.ld 2 true (.t 2)),
ir 48 (.call (.f 25) [(.t 47)]),
ir 49 (.ld 10 true (.t 9)),
ir 50 (.fad 0 (.t 2)),
ir 51 (.ld 1 false (.t 50)),
ir 52 (.mv (.t 1)),
ir 53 (.ias 6 (.t 51) (.t 52)),
ir 54 (.ld 6 true (.t 53)),
ir 55 (.fad 0 (.t 2)),
ir 56 (.ld 1 false (.t 55)),
ir 57 (.mv (.t 8)),
ir 58 (.ias 6 (.t 56) (.t 57)),
ir 59 (.ld 6 true (.t 58)),
ir 60 (.call (.f 26) [(.t 49), (.t 54), (.t 59)]),
ir 61 (.bin .add (.t 48) (.t 60)),
ir 62 (.fad 1 (.t 2)),
ir 63 (.ld 1 false (.t 62)),
ia 64 (.bin .gtr (.t 61) (.t 63)),
ia 46 (.mv (.t 64))]) (.cond (.t 46) (.seq (.reg [
  ia 65 (.ld 2 true (.t 2)),
ia 66 (.build [(.p (.i .i64 0)), (.p (.b false)), (.p (.i .i64 0)), (.p (.i .i64 0)), (.p (.i .i64 0)), (.p (.i .i64 0)), (.p (.i .i64 0)), (.p (.s [])), .nil, .nil] []),
io (.st 2 (.t 4) (.t 65)),
io (.st 10 (.t 5) (.t 66)),
ia 6 (.mv (ci 121))]) .ret) .skip))))) (.seq (.reg [
  ia 67 (.ld 2 true (.t 2)),
ia 68 (.ld 10 true (.t 9)),
ia 69 (.mv (.t 1)),
ia 70 (.mv (.t 8)),
ia 71 (.build [.nil, (.p (.i .i64 0)), (.p (.i .i64 0)), (.p (.b false)), (.p (.i .i64 0)), (.p (.i .i64 0)), (.p (.i .i64 0)), (.p (.i .i64 0)), (.p (.i .i64 0)), (.p (.s [])), .nil, .nil, (.p (.i .i64 0)), (.p (.i .i64 0))] [(0, (2, (.t 67))), (2, (10, (.t 68))), (12, (1, (.t 69))), (13, (1, (.t 70)))]),
ia 72 (.box 14 (.t 71)),
ia 11 (.mv (.t 72))]) (.seq (.seq (.reg [
  ia 73 (.fad 1 (.t 9)),
ia 74 (.ld 1 false (.t 73))]) (.cond (.t 74) (.reg [
  ia 75 (.mv (.t 11)),
ia 76 (.mv (.t 11)),
ia 77 (.mv (.t 8)),
ia 78 (.mv (.t 1)),
ia 79 (.nck (.t 75)),
ia 80 (.fad 12 (.t 79)),
io (.st 1 (.t 80) (.t 77)),
ia 81 (.nck (.t 76)),
ia 82 (.fad 13 (.t 81)),
io (.st 1 (.t 82) (.t 78))]) .skip)) (.seq (.reg [
  ia 83 (.mv (.t 11)),
ia 84 (.call (.f 27) [(.t 83)])]) (.seq (.reg [
  ir 85 (.mv (.t 11)),
ir 86 (.nck (.t 85)),
ir 87 (.fad 0 (.t 86)),
ir 88 (.ld 2 true (.t 87)),
ir 89 (.ld 10 true (.t 9)),
⟨.none, .none, (.st 2 (.t 4) (.t 88)), (.wr [9])⟩,
io (.st 10 (.t 5) (.t 89)),
ia 6 (.mv (ci 0))]) .ret)))))))))), [(.cell 4 2 true), (.cell 5 10 true), (.tmp 6)]⟩
theorem cc10 : ccF Tryz.prog [(46, [0, 0]), (57, [1, 0]), (81, [0, 0]), (46, [9]), (68, [8]), (70, [8]), (54, [8]), (69, [8]), (58, [8])] Tryz.f10 = some (stripF F10) := by kernel_rfl
def F11b0 : C := (.seq (.seq (.reg [
  ia 5 (.mv (.t 4)),
ia 6 (.fad 0 (.t 1)),
ia 7 (.ld 1 false (.t 6)),
ia 8 (.len false (.t 7)),
ia 9 (.bin .lss (.t 5) (.t 8))]) (.cond (.t 9) .skip (.exit 0))) (.seq (.block 1 (.seq (.reg [
  ia 12 (.fad 0 (.t 1)),
ia 13 (.ld 1 false (.t 12)),
ia 14 (.mv (.t 4)),
ia 15 (.ias 6 (.t 13) (.t 14)),
ia 16 (.fad 0 (.t 15)),
ia 17 (.ld 1 false (.t 16)),
ia 18 (.bin .neq (.t 17) (ci 0))]) (.cond (.t 18) (.reg [
  ia 19 (.mv (.t 3)),
ia 20 (.bin .add (.t 19) (ci 1)),
ia 3 (.mv (.t 20))]) .skip))) (.reg [
  ia 10 (.mv (.t 4)),
ia 11 (.bin .add (.t 10) (ci 1)),
ia 4 (.mv (.t 11))])))
def F11 : FnC := ⟨1, (.seq (.reg [
  ia 1 (.box 2 (.t 0)),
ia 2 (.mv (ci 0))]) (.seq (.reg [
  ia 3 (.mv (ci 0))]) (.seq (.seq (.reg [
  ia 4 (.mv (ci 0))]) (.block 0 (.loop F11b0))) (.seq (.reg [
  ia 21 (.mv (.t 3)),
ia 2 (.mv (.t 21))]) .ret)))), [(.tmp 2)]⟩
theorem cc11 : ccF Tryz.prog [(46, [0, 0]), (57, [1, 0]), (81, [0, 0]), (46, [9]), (68, [8]), (70, [8]), (54, [8]), (69, [8]), (58, [8])] Tryz.f11 = some (stripF F11) := by kernel_rfl
def F12b0 : C := (.seq (.seq (.reg [
  ia 20 (.mv (.t 5)),
ia 21 (.fad 0 (.t 2)),
ia 22 (.ld 1 false (.t 21)),
ia 23 (.len false (.t 22)),
ia 24 (.bin .lss (.t 20) (.t 23))]) (.cond (.t 24) .skip (.exit 0))) (.seq (.block 1 (.seq (.reg [
  ir 27 (.fad 0 (.t 2)),
ir 28 (.ld 1 false (.t 27)),
ir 29 (.mv (.t 5)),
ir 30 (.ias 6 (.t 28) (.t 29)),
ir 31 (.ld 6 true (.t 30)),
ir 32 (.fad 0 (.t 3)),
ir 33 (.ld 1 false (.t 32)),
ir 34 (.mv (.t 5)),
ir 35 (.ias 6 (.t 33) (.t 34)),
ir 36 (.ld 6 true (.t 35)),
ia 37 (.call (.f 28) [(.t 31), (.t 36)]),
ia 38 (.not (.t 37))]) (.cond (.t 38) (.seq (.reg [
  ia 4 (.mv (.c (.a (.p (.b false)))))]) .ret) .skip))) (.reg [
  ia 25 (.mv (.t 5)),
ia 26 (.bin .add (.t 25) (ci 1)),
ia 5 (.mv (.t 26))])))
def F12 : FnC := ⟨2, (.seq (.reg [
  ia 2 (.box 2 (.t 0)),
ia 3 (.box 2 (.t 1)),
ia 4 (.mv (.c (.a (.p (.b false)))))]) (.seq (.seq (.reg [
  ia 6 (.fad 1 (.t 2)),
ia 7 (.ld 1 false (.t 6)),
ia 8 (.fad 1 (.t 3)),
ia 9 (.ld 1 false (.t 8)),
ia 10 (.bin .neq (.t 7) (.t 9)),
ia 11 (.mv (.t 10)),
ig 12 11 false (.fad 0 (.t 2)),
ig 13 11 false (.ld 1 false (.t 12)),
ig 14 11 false (.len false (.t 13)),
ig 15 11 false (.fad 0 (.t 3)),
ig 16 11 false (.ld 1 false (.t 15)),
ig 17 11 false (.len false (.t 16)),
ig 18 11 false (.bin .neq (.t 14) (.t 17)),
ia 19 (.pick (.t 11) (.c (.a (.p (.b true)))) (.t 18))]) (.cond (.t 19) (.seq (.reg [
  ia 4 (.mv (.c (.a (.p (.b false)))))]) .ret) .skip)) (.seq (.seq (.reg [
  ia 5 (.mv (ci 0))]) (.block 0 (.loop F12b0))) (.seq (.reg [
  ia 4 (.mv (.c (.a (.p (.b true)))))]) .ret)))), [(.tmp 4)]⟩
theorem cc12 : ccF Tryz.prog [(46, [0, 0]), (57, [1, 0]), (81, [0, 0]), (46, [9]), (68, [8]), (70, [8]), (54, [8]), (69, [8]), (58, [8])] Tryz.f12 = some (stripF F12) := by kernel_rfl
def F13 : FnC := ⟨0, (.seq (.reg [
  ia 0 (.new [.nil, (.p (.i .i64 0))])]) (.seq (.reg [
  ia 1 (.call (.f 14) [(ci 1), (ci 1)]),
ia 2 (.bsl 2 46 [(.p (.i .i64 0)), (.p (.i .i64 0))] 1 [(0, (.t 1))]),
ia 3 (.build [(.p (.i .i64 0)), (.p (.i .i64 0)), (.p (.i .i64 0)), (.p (.s [])), .nil, .nil] [(0, (1, (ci 1))), (5, (1, (.t 2)))]),
ia 4 (.call (.f 14) [(ci 2), (ci 0)]),
ia 5 (.call (.f 14) [(ci 0), (ci 0)]),
ia 6 (.call (.f 14) [(ci 3), (ci 0)]),
ia 7 (.bsl 2 46 [(.p (.i .i64 0)), (.p (.i .i64 0))] 3 [(0, (.t 4)), (1, (.t 5)), (2, (.t 6))]),
ia 8 (.build [(.p (.i .i64 0)), (.p (.i .i64 0)), (.p (.i .i64 0)), (.p (.s [])), .nil, .nil] [(0, (1, (ci 3))), (5, (1, (.t 7)))]),
ia 9 (.call (.f 14) [(ci 1), (ci 0)]),
ia 10 (.call (.f 14) [(ci 2), (ci 2)]),
ia 11 (.call (.f 14) [(ci 2), (ci 1)]),
ia 12 (.bsl 2 46 [(.p (.i .i64 0)), (.p (.i .i64 0))] 3 [(0, (.t 9)), (1, (.t 10)), (2, (.t 11))]),
ia 13 (.build [(.p (.i .i64 0)), (.p (.i .i64 0)), (.p (.i .i64 0)), (.p (.s [])), .nil, .nil] [(0, (1, (ci 2))), (5, (1, (.t 12)))]),
ia 14 (.call (.f 14) [(ci 1), (ci 2)]),
ia 15 (.bsl 2 46 [(.p (.i .i64 0)), (.p (.i .i64 0))] 1 [(0, (.t 14))]),
ia 16 (.build [(.p (.i .i64 0)), (.p (.i .i64 0)), (.p (.i .i64 0)), (.p (.s [])), .nil, .nil] [(0, (1, (ci 10))), (1, (1, (ci 1))), (2, (1, (ci 7))), (5, (1, (.t 15)))]),
ia 17 (.bsl 6 33 [(.p (.i .i64 0)), (.p (.i .i64 0)), (.p (.i .i64 0)), (.p (.s [])), .nil, .nil] 4 [(0, (.t 3)), (1, (.t 8)), (2, (.t 13)), (3, (.t 16))]),
ia 18 (.build [.nil, (.p (.i .i64 0))] [(1, (1, (ci 9))), (0, (1, (.t 17)))]),
io (.st 2 (.t 0) (.t 18))]) .ret)), [(.cell 0 2 true)]⟩
theorem cc13 : ccF Tryz.prog [(46, [0, 0]), (57, [1, 0]), (81, [0, 0]), (46, [9]), (68, [8]), (70, [8]), (54, [8]), (69, [8]), (58, [8])] Tryz.f13 = some (stripF F13) := by kernel_rfl
def F14 : FnC := ⟨2, (.seq (.reg [
  ia 4 (.new [(.p (.i .i64 0)), (.p (.i .i64 0))])]) (.seq (.reg [
  ia 5 (.mv (.t 0)),
ia 6 (.mv (.t 1)),
ia 7 (.build [(.p (.i .i64 0)), (.p (.i .i64 0))] [(0, (1, (.t 5))), (1, (1, (.t 6)))]),
io (.st 2 (.t 4) (.t 7))]) .ret)), [(.cell 4 2 true)]⟩
theorem cc14 : ccF Tryz.prog [(46, [0, 0]), (57, [1, 0]), (81, [0, 0]), (46, [9]), (68, [8]), (70, [8]), (54, [8]), (69, [8]), (58, [8])] Tryz.f14 = some (stripF F14) := by kernel_rfl
def F15b1 : C := (.seq (.seq (.reg [
  ia 140 (.mv (.t 4)),
ia 141 (.mv (.t 3)),
ia 142 (.bin .lss (.t 140) (.t 141))]) (.cond (.t 142) .skip (.exit 2))) (.seq (.block 3 (.seq (.reg [
  ir 145 (.fad 4 (.t 1)),
ir 146 (.ld 1 false (.t 145)),
ir 147 (.mv (.t 4)),
ir 148 (.ias 2 (.t 146) (.t 147)),
ir 149 (.fad 0 (.t 148)),
ir 150 (.ld 1 false (.t 149)),
ir 151 (.fad 4 (.t 1)),
ir 152 (.ld 1 false (.t 151)),
ir 153 (.mv (.t 3)),
ir 154 (.ias 2 (.t 152) (.t 153)),
ir 155 (.fad 0 (.t 154)),
ir 156 (.ld 1 false (.t 155)),
ia 157 (.bin .eql (.t 150) (.t 156))]) (.cond (.t 157) (.seq (.reg [
  ia 2 (.mv (.c (.a (.p (.b false)))))]) .ret) .skip))) (.reg [
  ia 143 (.mv (.t 4)),
ia 144 (.bin .add (.t 143) (ci 1)),
ia 4 (.mv (.t 144))])))
def F15b0 : C := (.seq (.seq (.reg [
  ia 108 (.mv (.t 3)),
ia 109 (.fad 4 (.t 1)),
ia 110 (.ld 1 false (.t 109)),
ia 111 (.len false (.t 110)),
ia 112 (.bin .lss (.t 108) (.t 111))]) (.cond (.t 112) .skip (.exit 0))) (.seq (.block 1 (.seq (.seq (.reg [
  ia 115 (.fad 4 (.t 1)),
ia 116 (.ld 1 false (.t 115)),
ia 117 (.mv (.t 3)),
ia 118 (.ias 2 (.t 116) (.t 117)),
ia 119 (.fad 0 (.t 118)),
ia 120 (.ld 1 false (.t 119)),
ia 121 (.bin .eql (.t 120) (.c (.a (.p (.s []))))),
ia 122 (.mv (.t 121)),
ig 123 122 false (.fad 4 (.t 1)),
ig 124 122 false (.ld 1 false (.t 123)),
ig 125 122 false (.mv (.t 3)),
ig 126 122 false (.ias 2 (.t 124) (.t 125)),
ig 127 122 false (.fad 1 (.t 126)),
ig 128 122 false (.ld 1 false (.t 127)),
ig 129 122 false (.bin .lss (.t 128) (ci 0)),
ia 130 (.pick (.t 122) (.c (.a (.p (.b true)))) (.t 129)),
ia 131 (.mv (.t 130)),
ig 132 131 false (.fad 4 (.t 1)),
ig 133 131 false (.ld 1 false (.t 132)),
ig 134 131 false (.mv (.t 3)),
ig 135 131 false (.ias 2 (.t 133) (.t 134)),
ig 136 131 false (.fad 1 (.t 135)),
ig 137 131 false (.ld 1 false (.t 136)),
ig 138 131 false (.bin .gtr (.t 137) (ci 8)),
ia 139 (.pick (.t 131) (.c (.a (.p (.b true)))) (.t 138))]) (.cond (.t 139) (.seq (.reg [
  ia 2 (.mv (.c (.a (.p (.b false)))))]) .ret) .skip)) (.seq (.reg [
  ia 4 (.mv (ci 0))]) (.block 2 (.loop F15b1))))) (.reg [
  ia 113 (.mv (.t 3)),
ia 114 (.bin .add (.t 113) (ci 1)),
ia 3 (.mv (.t 114))])))
def F15 : FnC := ⟨1, (.seq (.reg [
  ia 1 (.box 6 (.t 0)),
ia 2 (.mv (.c (.a (.p (.b false)))))]) (.seq (.seq (.reg [
  ia 5 (.fad 0 (.t 1)),
ia 6 (.ld 1 false (.t 5)),
ia 7 (.bin .lss (.t 6) (ci 0)),
ia 8 (.mv (.t 7)),
ig 9 8 false (.fad 0 (.t 1)),
ig 10 8 false (.ld 1 false (.t 9)),
ig 11 8 false (.bin .gtr (.t 10) (ci 13)),
ia 12 (.pick (.t 8) (.c (.a (.p (.b true)))) (.t 11)),
ia 13 (.mv (.t 12)),
ig 14 13 false (.fad 1 (.t 1)),
ig 15 13 false (.ld 1 false (.t 14)),
ig 16 13 false (.bin .lss (.t 15) (ci 0)),
ia 17 (.pick (.t 13) (.c (.a (.p (.b true)))) (.t 16)),
ia 18 (.mv (.t 17)),
ig 19 18 false (.fad 1 (.t 1)),
ig 20 18 false (.ld 1 false (.t 19)),
ig 21 18 false (.bin .gtr (.t 20) (ci 60)),
ia 22 (.pick (.t 18) (.c (.a (.p (.b true)))) (.t 21)),
ia 23 (.mv (.t 22)),
ig 24 23 false (.fad 0 (.t 1)),
ig 25 23 false (.ld 1 false (.t 24)),
ig 26 23 false (.bin .lss (.t 25) (ci 2)),
ig 27 23 false (.mv (.t 26)),
ig 28 27 true (.fad 1 (.t 1)),
ig 29 27 true (.ld 1 false (.t 28)),
ig 30 27 true (.bin .gtr (.t 29) (ci 0)),
ig 31 23 false (.pick (.t 27) (.t 30) (.c (.a (.p (.b false))))),
ia 32 (.pick (.t 23) (.c (.a (.p (.b true)))) (.t 31))]) (.cond (.t 32) (.seq (.reg [
  ia 2 (.mv (.c (.a (.p (.b false)))))]) .ret) .skip)) (.seq (.seq (.reg [
  ia 33 (.fad 3 (.t 1)),
ia 34 (.ld 1 false (.t 33)),
ia 35 (.bin .neq (.t 34) (.c (.a (.p (.s []))))),
ia 36 (.fad 0 (.t 1)),
ia 37 (.ld 1 false (.t 36)),
ia 38 (.bin .eql (.t 37) (ci 8)),
ia 39 (.mv (.t 38)),
ig 40 39 false (.fad 0 (.t 1)),
ig 41 39 false (.ld 1 false (.t 40)),
ig 42 39 false (.bin .eql (.t 41) (ci 11)),
ia 43 (.pick (.t 39) (.c (.a (.p (.b true)))) (.t 42)),
ia 44 (.mv (.t 43)),
ig 45 44 false (.fad 0 (.t 1)),
ig 46 44 false (.ld 1 false (.t 45)),
ig 47 44 false (.bin .eql (.t 46) (ci 12)),
ia 48 (.pick (.t 44) (.c (.a (.p (.b true)))) (.t 47)),
ia 49 (.eqb true (.t 35) (.t 48)),
ia 50 (.mv (.t 49)),
ig 51 50 false (.fad 2 (.t 1)),
ig 52 50 false (.ld 1 false (.t 51)),
ig 53 50 false (.bin .neq (.t 52) (ci 0)),
ig 54 50 false (.mv (.t 53)),
ig 55 54 true (.fad 0 (.t 1)),
ig 56 54 true (.ld 1 false (.t 55)),
ig 57 54 true (.bin .neq (.t 56) (ci 10)),
ig 58 50 false (.pick (.t 54) (.t 57) (.c (.a (.p (.b false))))),
ig 59 50 false (.mv (.t 58)),
ig 60 59 true (.fad 0 (.t 1)),
ig 61 59 true (.ld 1 false (.t 60)),
ig 62 59 true (.bin .neq (.t 61) (ci 12)),
ig 63 50 false (.pick (.t 59) (.t 62) (.c (.a (.p (.b false))))),
ia 64 (.pick (.t 50) (.c (.a (.p (.b true)))) (.t 63))]) (.cond (.t 64) (.seq (.reg [
  ia 2 (.mv (.c (.a (.p (.b false)))))]) .ret) .skip)) (.seq (.seq (.reg [
  ia 65 (.fad 0 (.t 1)),
ia 66 (.ld 1 false (.t 65)),
ia 67 (.bin .eql (.t 66) (ci 8)),
ia 68 (.mv (.t 67)),
ig 69 68 true (.fad 5 (.t 1)),
ig 70 68 true (.ld 1 false (.t 69)),
ig 71 68 true (.len false (.t 70)),
ig 72 68 true (.bin .lss (.t 71) (ci 1)),
ig 73 68 true (.mv (.t 72)),
ig 74 73 false (.fad 5 (.t 1)),
ig 75 73 false (.ld 1 false (.t 74)),
ig 76 73 false (.len false (.t 75)),
ig 77 73 false (.bin .gtr (.t 76) (ci 9)),
ig 78 68 true (.pick (.t 73) (.c (.a (.p (.b true)))) (.t 77)),
ia 79 (.pick (.t 68) (.t 78) (.c (.a (.p (.b false))))),
ia 80 (.mv (.t 79)),
ig 81 80 false (.fad 0 (.t 1)),
ig 82 80 false (.ld 1 false (.t 81)),
ig 83 80 false (.bin .eql (.t 82) (ci 9)),
ig 84 80 false (.mv (.t 83)),
ig 85 84 true (.fad 4 (.t 1)),
ig 86 84 true (.ld 1 false (.t 85)),
ig 87 84 true (.len false (.t 86)),
ig 88 84 true (.bin .lss (.t 87) (ci 1)),
ig 89 80 false (.pick (.t 84) (.t 88) (.c (.a (.p (.b false))))),
ia 90 (.pick (.t 80) (.c (.a (.p (.b true)))) (.t 89)),
ia 91 (.mv (.t 90)),
ig 92 91 false (.fad 0 (.t 1)),
ig 93 91 false (.ld 1 false (.t 92)),
ig 94 91 false (.bin .neq (.t 93) (ci 9)),
ig 95 91 false (.mv (.t 94)),
ig 96 95 true (.fad 4 (.t 1)),
ig 97 95 true (.ld 1 false (.t 96)),
ig 98 95 true (.len false (.t 97)),
ig 99 95 true (.bin .gtr (.t 98) (ci 0)),
ig 100 91 false (.pick (.t 95) (.t 99) (.c (.a (.p (.b false))))),
ia 101 (.pick (.t 91) (.c (.a (.p (.b true)))) (.t 100)),
ia 102 (.mv (.t 101)),
ig 103 102 false (.fad 4 (.t 1)),
ig 104 102 false (.ld 1 false (.t 103)),
ig 105 102 false (.len false (.t 104)),
ig 106 102 false (.bin .gtr (.t 105) (ci 8)),
ia 107 (.pick (.t 102) (.c (.a (.p (.b true)))) (.t 106))]) (.cond (.t 107) (.seq (.reg [
  ia 2 (.mv (.c (.a (.p (.b false)))))]) .ret) .skip)) (.seq (.seq (.reg [
  ia 3 (.mv (ci 0))]) (.block 0 (.loop F15b0))) (.seq (.reg [
  ia 2 (.mv (.c (.a (.p (.b true)))))]) .ret)))))), [(.tmp 2)]⟩
theorem cc15 : ccF Tryz.prog [(46, [0, 0]), (57, [1, 0]), (81, [0, 0]), (46, [9]), (68, [8]), (70, [8]), (54, [8]), (69, [8]), (58, [8])] Tryz.f15 = some (stripF F15) := by kernel_rfl
def F16 : FnC := ⟨1, (.seq (.reg [
  ia 1 (.box 6 (.t 0)),
ia 2 (.mv (ci 0))]) (.seq (.seq (.reg [
  ia 3 (.fad 0 (.t 1)),
ia 4 (.ld 1 false (.t 3))]) (.block 0 (.seq (.seq (.reg [
  ia 6 (.bin .eql (.t 4) (ci 1)),
ia 5 (.mv (.t 6))]) (.cond (.t 5) .skip (.seq (.reg [
  ia 7 (.bin .eql (.t 4) (ci 7)),
ia 5 (.mv (.t 7))]) (.cond (.t 5) .skip (.seq (.reg [
  ia 8 (.bin .eql (.t 4) (ci 10)),
ia 5 (.mv (.t 8))]) (.cond (.t 5) .skip (.reg [
  ia 9 (.bin .eql (.t 4) (ci 13)),
ia 5 (.mv (.t 9))]))))))) (.cond (.t 5) (.seq (.reg [
  ia 2 (.mv (ci 1))]) .ret) (.seq (.seq (.reg [
  ia 11 (.bin .eql (.t 4) (ci 5)),
ia 10 (.mv (.t 11))]) (.cond (.t 10) .skip (.seq (.reg [
  ia 12 (.bin .eql (.t 4) (ci 6)),
ia 10 (.mv (.t 12))]) (.cond (.t 10) .skip (.reg [
  ia 13 (.bin .eql (.t 4) (ci 12)),
ia 10 (.mv (.t 13))]))))) (.cond (.t 10) (.seq (.reg [
  ia 2 (.mv (ci 2))]) .ret) (.seq (.seq (.reg [
  ia 15 (.bin .eql (.t 4) (ci 2)),
ia 14 (.mv (.t 15))]) (.cond (.t 14) .skip (.seq (.reg [
  ia 16 (.bin .eql (.t 4) (ci 3)),
ia 14 (.mv (.t 16))]) (.cond (.t 14) .skip (.seq (.reg [
  ia 17 (.bin .eql (.t 4) (ci 4)),
ia 14 (.mv (.t 17))]) (.cond (.t 14) .skip (.reg [
  ia 18 (.bin .eql (.t 4) (ci 11)),
ia 14 (.mv (.t 18))]))))))) (.cond (.t 14) (.seq (.reg [
  ia 2 (.mv (ci 3))]) .ret) (.seq (.reg [
  ia 20 (.bin .eql (.t 4) (ci 8)),
ia 19 (.mv (.t 20))]) (.cond (.t 19) (.seq (.reg [
  ia 21 (.fad 5 (.t 1)),
ia 22 (.ld 1 false (.t 21)),
ia 23 (.len false (.t 22)),
ia 2 (.mv (.t 23))]) .ret) (.seq (.reg [
  ia 25 (.bin .eql (.t 4) (ci 9)),
ia 24 (.mv (.t 25))]) (.cond (.t 24) (.seq (.reg [
  ia 26 (.fad 4 (.t 1)),
ia 27 (.ld 1 false (.t 26)),
ia 28 (.len false (.t 27)),
ia 29 (.bin .add (ci 2) (.t 28)),
ia 2 (.mv (.t 29))]) .ret) .skip)))))))))))) (.seq (.reg [
  ia 2 (.mv (ci 0))]) .ret))), [(.tmp 2)]⟩
theorem cc16 : ccF Tryz.prog [(46, [0, 0]), (57, [1, 0]), (81, [0, 0]), (46, [9]), (68, [8]), (70, [8]), (54, [8]), (69, [8]), (58, [8])] Tryz.f16 = some (stripF F16) := by kernel_rfl
def F17 : FnC := ⟨2, (.seq (.reg [
  ia 2 (.box 2 (.t 0)),
ia 3 (.box 2 (.t 1)),
ia 4 (.mv (.c (.a (.p (.b false)))))]) (.seq (.reg [
  ia 5 (.fad 0 (.t 3)),
ia 6 (.ld 1 false (.t 5)),
ia 7 (.bin .geq (.t 6) (ci 0)),
ia 8 (.mv (.t 7)),
ih 9 8 true (.fad 0 (.t 3)),
ih 10 8 true (.ld 1 false (.t 9)),
ih 11 8 true (.fad 0 (.t 2)),
ih 12 8 true (.ld 1 false (.t 11)),
ih 13 8 true (.len false (.t 12)),
ig 14 8 true (.bin .lss (.t 10) (.t 13)),
ia 15 (.pick (.t 8) (.t 14) (.c (.a (.p (.b false))))),
ia 16 (.mv (.t 15)),
ig 17 16 true (.fad 1 (.t 3)),
ig 18 16 true (.ld 1 false (.t 17)),
ig 19 16 true (.bin .geq (.t 18) (ci 0)),
ia 20 (.pick (.t 16) (.t 19) (.c (.a (.p (.b false))))),
ia 21 (.mv (.t 20)),
ih 22 21 true (.fad 1 (.t 3)),
ih 23 21 true (.ld 1 false (.t 22)),
ih 24 21 true (.fad 0 (.t 2)),
ih 25 21 true (.ld 1 false (.t 24)),
ih 26 21 true (.fad 0 (.t 3)),
ih 27 21 true (.ld 1 false (.t 26)),
ih 28 21 true (.ias 6 (.t 25) (.t 27)),
ih 29 21 true (.fad 5 (.t 28)),
ih 30 21 true (.ld 1 false (.t 29)),
ih 31 21 true (.len false (.t 30)),
ig 32 21 true (.bin .lss (.t 23) (.t 31)),
ia 33 (.pick (.t 21) (.t 32) (.c (.a (.p (.b false))))),
ia 4 (.mv (.t 33))]) .ret)), [(.tmp 4)]⟩
theorem cc17 : ccF Tryz.prog [(46, [0, 0]), (57, [1, 0]), (81, [0, 0]), (46, [9]), (68, [8]), (70, [8]), (54, [8]), (69, [8]), (58, [8])] Tryz.f17 = some (stripF F17) := by kernel_rfl
def F18 : FnC := ⟨2, (.seq (.reg [
  ia 2 (.box 2 (.t 0)),
ia 3 (.box 2 (.t 1)),
ia 4 (.new [(.p (.i .i64 0)), (.p (.i .i64 0))]),
ia 5 (.mv (ci 0))]) (.seq (.seq (.reg [
  ia 6 (.ld 2 true (.t 2)),
ia 7 (.ld 2 true (.t 3)),
ia 8 (.call (.f 17) [(.t 6), (.t 7)]),
ia 9 (.not (.t 8))]) (.cond (.t 9) (.seq (.reg [
  ia 10 (.build [(.p (.i .i64 0)), (.p (.i .i64 0))] []),
io (.st 2 (.t 4) (.t 10)),
ia 5 (.mv (ci 130))]) .ret) .skip)) (.seq (.reg [
  ia 11 (.ld 2 true (.t 2)),
ia 12 (.ld 2 true (.t 3)),
ia 13 (.call (.f 29) [(.t 11), (.t 12)]),
io (.st 2 (.t 4) (.t 13)),
ia 5 (.mv (ci 0))]) .ret))), [(.cell 4 2 true), (.tmp 5)]⟩
theorem cc18 : ccF Tryz.prog [(46, [0, 0]), (57, [1, 0]), (81, [0, 0]), (46, [9]), (68, [8]), (70, [8]), (54, [8]), (69, [8]), (58, [8])] Tryz.f18 = some (stripF F18) := by kernel_rfl
def F19 : FnC := ⟨2, (.seq (.reg [
  ia 4 (.new [(.p (.i .i64 0)), (.p (.i .i64 0))])]) (.seq (.reg [
  ia 5 (.mv (.t 0)),
ia 6 (.mv (.t 1)),
ia 7 (.build [(.p (.i .i64 0)), (.p (.i .i64 0))] [(0, (1, (.t 5))), (1, (1, (.t 6)))]),
io (.st 2 (.t 4) (.t 7))]) .ret)), [(.cell 4 2 true)]⟩
theorem cc19 : ccF Tryz.prog [(46, [0, 0]), (57, [1, 0]), (81, [0, 0]), (46, [9]), (68, [8]), (70, [8]), (54, [8]), (69, [8]), (58, [8])] Tryz.f19 = some (stripF F19) := by kernel_rfl
def F20 : FnC := ⟨1, (.seq (.reg [
  ia 2 (.mv (.c (.a (.p (.b false)))))]) (.seq (.reg [
  ia 3 (.mv (.t 0)),
ia 4 (.call (.f 30) [(.t 3)]),
ia 5 (.mv (.t 4)),
ig 6 5 false (.mv (.t 0)),
ig 7 5 false (.call (.f 31) [(.t 6)]),
ia 8 (.pick (.t 5) (.c (.a (.p (.b true)))) (.t 7)),
ia 9 (.mv (.t 8)),
ig 10 9 false (.mv (.t 0)),
ig 11 9 false (.call (.f 32) [(.t 10)]),
ia 12 (.pick (.t 9) (.c (.a (.p (.b true)))) (.t 11)),
ia 13 (.mv (.t 12)),
ig 14 13 false (.mv (.t 0)),
ig 15 13 false (.bin .eql (.t 14) (ci 7)),
ia 16 (.pick (.t 13) (.c (.a (.p (.b true)))) (.t 15)),
ia 2 (.mv (.t 16))]) .ret)), [(.tmp 2)]⟩
theorem cc20 : ccF Tryz.prog [(46, [0, 0]), (57, [1, 0]), (81, [0, 0]), (46, [9]), (68, [8]), (70, [8]), (54, [8]), (69, [8]), (58, [8])] Tryz.f20 = some (stripF F20) := by kernel_rfl
def F21 : FnC := ⟨2, (.seq (.reg [
  ia 2 (.box 6 (.t 0)),
ia 3 (.box 6 (.t 1)),
ia 4 (.new [(.p (.i .i64 0)), (.p (.b false)), (.p (.i .i64 0)), (.p (.i .i64 0)), (.p (.i .i64 0)), (.p (.i .i64 0)), (.p (.i .i64 0)), (.p (.s [])), .nil, .nil]),
ia 5 (.mv (ci 0)),
ia 6 (.mv (.c (.a (.p (.b false)))))]) (.seq (.seq (.reg [
  ia 11 (.fad 0 (.t 2)),
ia 12 (.ld 1 false (.t 11)),
ia 13 (.bin .eql (.t 12) (ci 7))]) (.cond (.t 13) (.seq (.reg [
  ia 14 (.build [(.p (.i .i64 0)), (.p (.b false)), (.p (.i .i64 0)), (.p (.i .i64 0)), (.p (.i .i64 0)), (.p (.i .i64 0)), (.p (.i .i64 0)), (.p (.s [])), .nil, .nil] [(0, (1, (ci 8)))]),
io (.st 10 (.t 4) (.t 14)),
ia 5 (.mv (ci 0)),
ia 6 (.mv (.c (.a (.p (.b true)))))]) .ret) .skip)) (.seq (.seq (.reg [
  ia 15 (.fad 0 (.t 3)),
ia 16 (.ld 1 false (.t 15)),
ia 17 (.bin .eql (.t 16) (ci 7))]) (.cond (.t 17) (.seq (.reg [
  ia 18 (.build [(.p (.i .i64 0)), (.p (.b false)), (.p (.i .i64 0)), (.p (.i .i64 0)), (.p (.i .i64 0)), (.p (.i .i64 0)), (.p (.i .i64 0)), (.p (.s [])), .nil, .nil] []),
io (.st 10 (.t 4) (.t 18)),
ia 5 (.mv (ci 0)),
ia 6 (.mv (.c (.a (.p (.b false)))))]) .ret) .skip)) (.seq (.seq (.reg [
  ia 19 (.fad 0 (.t 2)),
ia 20 (.ld 1 false (.t 19)),
ia 21 (.call (.f 32) [(.t 20)]),
ia 22 (.mv (.t 21)),
ig 23 22 true (.fad 0 (.t 3)),
ig 24 22 true (.ld 1 false (.t 23)),
ig 25 22 true (.call (.f 32) [(.t 24)]),
ia 26 (.pick (.t 22) (.t 25) (.c (.a (.p (.b false))))),
ia 27 (.mv (.t 26)),
ig 28 27 true (.fad 1 (.t 2)),
ig 29 27 true (.ld 1 false (.t 28)),
ig 30 27 true (.fad 1 (.t 3)),
ig 31 27 true (.ld 1 false (.t 30)),
ig 32 27 true (.bin .eql (.t 29) (.t 31)),
ia 33 (.pick (.t 27) (.t 32) (.c (.a (.p (.b false)))))]) (.cond (.t 33) (.seq (.seq (.reg [
  ia 34 (.fad 0 (.t 2)),
ia 35 (.ld 1 false (.t 34)),
ia 36 (.fad 0 (.t 3)),
ia 37 (.ld 1 false (.t 36)),
ia 38 (.bin .eql (.t 35) (.t 37))]) (.cond (.t 38) (.seq (.reg [
  ia 39 (.build [(.p (.i .i64 0)), (.p (.b false)), (.p (.i .i64 0)), (.p (.i .i64 0)), (.p (.i .i64 0)), (.p (.i .i64 0)), (.p (.i .i64 0)), (.p (.s [])), .nil, .nil] [(0, (1, (ci 6)))]),
io (.st 10 (.t 4) (.t 39)),
ia 5 (.mv (ci 0)),
ia 6 (.mv (.c (.a (.p (.b true)))))]) .ret) .skip)) (.seq (.reg [
  ia 40 (.build [(.p (.i .i64 0)), (.p (.b false)), (.p (.i .i64 0)), (.p (.i .i64 0)), (.p (.i .i64 0)), (.p (.i .i64 0)), (.p (.i .i64 0)), (.p (.s [])), .nil, .nil] []),
io (.st 10 (.t 4) (.t 40)),
ia 5 (.mv (ci 140)),
ia 6 (.mv (.c (.a (.p (.b true)))))]) .ret)) .skip)) (.seq (.seq (.reg [
  ia 41 (.fad 0 (.t 2)),
ia 42 (.ld 1 false (.t 41)),
ia 43 (.call (.f 32) [(.t 42)]),
ia 44 (.mv (.t 43)),
ig 45 44 true (.fad 0 (.t 3)),
ig 46 44 true (.ld 1 false (.t 45)),
ig 47 44 true (.call (.f 32) [(.t 46)]),
ig 48 44 true (.not (.t 47)),
ig 49 44 true (.mv (.t 48)),
ig 50 49 false (.fad 1 (.t 2)),
ig 51 49 false (.ld 1 false (.t 50)),
ig 52 49 false (.fad 1 (.t 3)),
ig 53 49 false (.ld 1 false (.t 52)),
ig 54 49 false (.bin .lss (.t 51) (.t 53)),
ig 55 44 true (.pick (.t 49) (.c (.a (.p (.b true)))) (.t 54)),
ia 56 (.pick (.t 44) (.t 55) (.c (.a (.p (.b false)))))]) (.cond (.t 56) (.seq (.reg [
  ia 58 (.ld 6 true (.t 2)),
ia 59 (.ld 6 true (.t 3)),
ia 60 (.call (.f 33) [(.t 58), (.t 59)]),
ia 57 (.mv (.t 60)),
ia 61 (.ext (.t 57) 0),
ia 62 (.ext (.t 57) 1),
ia 7 (.new [(.p (.i .i64 0)), (.p (.b false)), (.p (.i .i64 0)), (.p (.i .i64 0)), (.p (.i .i64 0)), (.p (.i .i64 0)), (.p (.i .i64 0)), (.p (.s [])), .nil, .nil]),
io (.st 10 (.t 7) (.t 61)),
ia 8 (.mv (.t 62))]) (.seq (.reg [
  ia 63 (.ld 10 true (.t 7)),
ia 64 (.mv (.t 8)),
io (.st 10 (.t 4) (.t 63)),
ia 5 (.mv (.t 64)),
ia 6 (.mv (.c (.a (.p (.b true)))))]) .ret)) .skip)) (.seq (.seq (.reg [
  ia 65 (.fad 0 (.t 3)),
ia 66 (.ld 1 false (.t 65)),
ia 67 (.call (.f 32) [(.t 66)]),
ia 68 (.mv (.t 67)),
ig 69 68 false (.fad 0 (.t 2)),
ig 70 68 false (.ld 1 false (.t 69)),
ig 71 68 false (.call (.f 30) [(.t 70)]),
ig 72 68 false (.not (.t 71)),
ia 73 (.pick (.t 68) (.c (.a (.p (.b true)))) (.t 72)),
ia 74 (.mv (.t 73)),
ig 75 74 false (.fad 0 (.t 3)),
ig 76 74 false (.ld 1 false (.t 75)),
ig 77 74 false (.call (.f 31) [(.t 76)]),
ig 78 74 false (.not (.t 77)),
ia 79 (.pick (.t 74) (.c (.a (.p (.b true)))) (.t 78))]) (.cond (.t 79) (.seq (.reg [
  ia 80 (.build [(.p (.i .i64 0)), (.p (.b false)), (.p (.i .i64 0)), (.p (.i .i64 0)), (.p (.i .i64 0)), (.p (.i .i64 0)), (.p (.i .i64 0)), (.p (.s [])), .nil, .nil] []),
io (.st 10 (.t 4) (.t 80)),
ia 5 (.mv (ci 140)),
ia 6 (.mv (.c (.a (.p (.b false)))))]) .ret) .skip)) (.seq (.reg [
  ia 82 (.ld 6 true (.t 2)),
ia 83 (.ld 6 true (.t 3)),
ia 84 (.call (.f 34) [(.t 82), (.t 83)]),
ia 81 (.mv (.t 84)),
ia 85 (.ext (.t 81) 0),
ia 86 (.ext (.t 81) 1),
ia 9 (.new [(.p (.i .i64 0)), (.p (.b false)), (.p (.i .i64 0)), (.p (.i .i64 0)), (.p (.i .i64 0)), (.p (.i .i64 0)), (.p (.i .i64 0)), (.p (.s [])), .nil, .nil]),
io (.st 10 (.t 9) (.t 85)),
ia 10 (.mv (.t 86))]) (.seq (.reg [
  ia 87 (.ld 10 true (.t 9)),
ia 88 (.mv (.t 10)),
io (.st 10 (.t 4) (.t 87)),
ia 5 (.mv (.t 88)),
ia 6 (.mv (.c (.a (.p (.b true)))))]) .ret)))))))), [(.cell 4 10 true), (.tmp 5), (.tmp 6)]⟩
theorem cc21 : ccF Tryz.prog [(46, [0, 0]), (57, [1, 0]), (81, [0, 0]), (46, [9]), (68, [8]), (70, [8]), (54, [8]), (69, [8]), (58, [8])] Tryz.f21 = some (stripF F21) := by kernel_rfl
def F22b1 : C := (.seq (.reg [
  ia 63 (.bin .lss (.t 62) (.t 61))]) (.seq (.cond (.t 63) .skip (.exit 2)) (.seq (.block 3 (.seq (.reg [
  ia 64 (.mv (.t 62)),
ia 6 (.mv (.t 64))]) (.seq (.reg [
  ia 65 (.ld 2 true (.t 1)),
ia 66 (.mv (.t 4)),
ia 67 (.mv (.t 6)),
ia 68 (.build [(.p (.i .i64 0)), (.p (.i .i64 0))] [(0, (1, (.t 66))), (1, (1, (.t 67)))]),
ia 69 (.call (.f 38) [(.t 65), (.t 68)]),
ia 70 (.not (.t 69))]) (.cond (.t 70) (.seq (.reg [
  ia 2 (.mv (ci 120))]) .ret) .skip)))) (.reg [
  ia 71 (.bin .add (.t 62) (ci 1)),
ia 62 (.mv (.t 71))]))))
def F22b0 : C := (.seq (.reg [
  ia 36 (.bin .lss (.t 35) (.t 34))]) (.seq (.cond (.t 36) .skip (.exit 0)) (.seq (.block 1 (.seq (.reg [
  ia 37 (.mv (.t 35)),
ia 38 (.ias 6 (.t 33) (.t 35)),
ia 39 (.ld 6 true (.t 38)),
ia 5 (.new [(.p (.i .i64 0)), (.p (.i .i64 0)), (.p (.i .i64 0)), (.p (.s [])), .nil, .nil]),
ia 4 (.mv (.t 37)),
io (.st 6 (.t 5) (.t 39))]) (.seq (.seq (.reg [
  ia 40 (.ld 6 true (.t 5)),
ia 41 (.call (.f 36) [(.t 40)]),
ia 42 (.not (.t 41)),
ia 43 (.mv (.t 42)),
ih 44 43 false (.fad 5 (.t 5)),
ih 45 43 false (.ld 1 false (.t 44)),
ih 46 43 false (.len false (.t 45)),
ih 47 43 false (.ld 6 true (.t 5)),
ih 48 43 false (.call (.f 37) [(.t 47)]),
ig 49 43 false (.bin .neq (.t 46) (.t 48)),
ia 50 (.pick (.t 43) (.c (.a (.p (.b true)))) (.t 49)),
ia 51 (.mv (.t 50)),
ih 52 51 false (.fad 0 (.t 5)),
ih 53 51 false (.ld 1 false (.t 52)),
ih 54 51 false (.bin .eql (.t 53) (ci 1)),
ih 55 51 false (.mv (.t 4)),
ih 56 51 false (.bin .eql (.t 55) (ci 0)),
ig 57 51 false (.eqb true (.t 54) (.t 56)),
ia 58 (.pick (.t 51) (.c (.a (.p (.b true)))) (.t 57))]) (.cond (.t 58) (.seq (.reg [
  ia 2 (.mv (ci 120))]) .ret) .skip)) (.seq (.reg [
  ia 59 (.fad 5 (.t 5)),
ia 60 (.ld 1 false (.t 59)),
ia 61 (.len false (.t 60)),
ia 62 (.mv (ci 0))]) (.block 2 (.loop F22b1)))))) (.reg [
  ia 72 (.bin .add (.t 35) (ci 1)),
ia 35 (.mv (.t 72))]))))
def F22 : FnC := ⟨1, (.seq (.reg [
  ia 1 (.box 2 (.t 0)),
ia 2 (.mv (ci 0))]) (.seq (.reg [
  ia 7 (.fad 0 (.t 1)),
ia 8 (.ld 1 false (.t 7)),
ia 9 (.len false (.t 8)),
ia 10 (.bin .sub (.t 9) (ci 1)),
ia 3 (.mv (.t 10))]) (.seq (.seq (.reg [
  ia 11 (.fad 1 (.t 1)),
ia 12 (.ld 1 false (.t 11)),
ia 13 (.call (.f 35) [(.t 12), (ci 1), (ci 4000)]),
ia 14 (.not (.t 13)),
ia 15 (.mv (.t 14)),
ig 16 15 false (.mv (.t 3)),
ig 17 15 false (.bin .add (.t 16) (ci 1)),
ig 18 15 false (.fad 1 (.t 1)),
ig 19 15 false (.ld 1 false (.t 18)),
ig 20 15 false (.call (.f 35) [(.t 17), (ci 1), (.t 19)]),
ig 21 15 false (.not (.t 20)),
ia 22 (.pick (.t 15) (.c (.a (.p (.b true)))) (.t 21)),
ia 23 (.mv (.t 22)),
ig 24 23 false (.fad 0 (.t 1)),
ig 25 23 false (.ld 1 false (.t 24)),
ig 26 23 false (.mv (.t 3)),
ig 27 23 false (.ias 6 (.t 25) (.t 26)),
ig 28 23 false (.fad 0 (.t 27)),
ig 29 23 false (.ld 1 false (.t 28)),
ig 30 23 false (.bin .eql (.t 29) (ci 0)),
ia 31 (.pick (.t 23) (.c (.a (.p (.b true)))) (.t 30))]) (.cond (.t 31) (.seq (.reg [
  ia 2 (.mv (ci 120))]) .ret) .skip)) (.seq (.seq (.reg [
  ia 32 (.fad 0 (.t 1)),
ia 33 (.ld 1 false (.t 32)),
ia 34 (.len false (.t 33)),
ia 35 (.mv (ci 0))]) (.block 0 (.loop F22b0))) (.seq (.reg [
  ia 2 (.mv (ci 0))]) .ret))))), [(.tmp 2)]⟩
theorem cc22 : ccF Tryz.prog [(46, [0, 0]), (57, [1, 0]), (81, [0, 0]), (46, [9]), (68, [8]), (70, [8]), (54, [8]), (69, [8]), (58, [8])] Tryz.f22 = some (stripF F22) := by kernel_rfl
def F23 : FnC := ⟨2, (.seq (.reg [
  ia 2 (.box 2 (.t 0)),
ia 4 (.mv (ci 0))]) (.seq (.reg [
  ir 8 (.ld 2 true (.t 2)),
ir 9 (.mv (.t 1)),
ir 10 (.call (.f 40) [(.t 9), (ci 0)]),
ir 11 (.call (.f 39) [(.t 8), (.t 10)]),
ir 7 (.mv (.t 11)),
ir 12 (.ext (.t 7) 0),
ir 13 (.ext (.t 7) 1),
⟨(.some 5), .none, (.new [(.p (.i .i64 0)), (.p (.i .i64 0))]), .ad⟩,
⟨.none, .none, (.st 2 (.t 5) (.t 12)), (.wr [])⟩,
ia 6 (.mv (.t 13))]) (.seq (.seq (.reg [
  ia 14 (.mv (.t 6)),
ia 15 (.bin .neq (.t 14) (ci 0)),
ia 16 (.mv (.t 15)),
ig 17 16 false (.fad 1 (.t 5)),
ig 18 16 false (.ld 1 false (.t 17)),
ig 19 16 false (.bin .neq (.t 18) (ci 0)),
ia 20 (.pick (.t 16) (.c (.a (.p (.b true)))) (.t 19))]) (.cond (.t 20) (.seq (.reg [
  ia 4 (.mv (.c (.a (.p (.i .i64 (-1))))))]) .ret) .skip)) (.seq (.reg [
  ia 21 (.fad 0 (.t 5)),
ia 22 (.ld 1 false (.t 21)),
ia 4 (.mv (.t 22))]) .ret)))), [(.tmp 4)]⟩
theorem cc23 : ccF Tryz.prog [(46, [0, 0]), (57, [1, 0]), (81, [0, 0]), (46, [9]), (68, [8]), (70, [8]), (54, [8]), (69, [8]), (58, [8])] Tryz.f23 = some (stripF F23) := by kernel_rfl
def F24 : FnC := ⟨2, (.seq (.reg [
  ia 2 (.box 6 (.t 0)),
ia 3 (.box 6 (.t 1)),
ia 4 (.new [(.p (.i .i64 0)), (.p (.b false)), (.p (.i .i64 0)), (.p (.i .i64 0)), (.p (.i .i64 0)), (.p (.i .i64 0)), (.p (.i .i64 0)), (.p (.s [])), .nil, .nil]),
ia 5 (.mv (ci 0))]) (.seq (.reg [
  ia 8 (.fn 41 [(.t 2), (.t 3)]),
ia 6 (.mv (.t 8))]) (.seq (.reg [
  ia 9 (.fn 43 [(.t 2), (.t 3)]),
ia 7 (.mv (.t 9))]) (.seq (.block 0 (.seq (.reg [
  ia 11 (.mv (.t 7)),
ia 12 (.call (.t 11) [(ci 0)]),
ia 10 (.mv (.t 12))]) (.cond (.t 10) (.seq (.reg [
  ia 13 (.build [(.p (.i .i64 0)), (.p (.b false)), (.p (.i .i64 0)), (.p (.i .i64 0)), (.p (.i .i64 0)), (.p (.i .i64 0)), (.p (.i .i64 0)), (.p (.s [])), .nil, .nil] []),
io (.st 10 (.t 4) (.t 13)),
ia 5 (.mv (ci 140))]) .ret) (.seq (.reg [
  ia 15 (.fad 0 (.t 2)),
ia 16 (.ld 1 false (.t 15)),
ia 17 (.call (.f 42) [(.t 16)]),
ia 18 (.bin .eql (.t 17) (ci 4)),
ia 14 (.mv (.t 18))]) (.cond (.t 14) (.seq (.reg [
  ia 19 (.call (.f 44) [(ci 8)]),
ia 20 (.ext (.t 19) 0),
ia 21 (.ext (.t 19) 1),
io (.st 10 (.t 4) (.t 20)),
ia 5 (.mv (.t 21))]) .ret) (.seq (.reg [
  ia 23 (.fad 0 (.t 3)),
ia 24 (.ld 1 false (.t 23)),
ia 25 (.call (.f 42) [(.t 24)]),
ia 26 (.bin .eql (.t 25) (ci 4)),
ia 22 (.mv (.t 26))]) (.cond (.t 22) (.seq (.reg [
  ia 27 (.call (.f 44) [(ci 8)]),
ia 28 (.ext (.t 27) 0),
ia 29 (.ext (.t 27) 1),
ia 30 (.call (.f 45) [(.t 28), (.t 29)]),
ia 31 (.ext (.t 30) 0),
ia 32 (.ext (.t 30) 1),
io (.st 10 (.t 4) (.t 31)),
ia 5 (.mv (.t 32))]) .ret) (.seq (.reg [
  ia 34 (.mv (.t 6)),
ia 35 (.call (.t 34) [(ci 3), (ci 3)]),
ia 36 (.mv (.t 35)),
ig 37 36 true (.fad 1 (.t 2)),
ig 38 36 true (.ld 1 false (.t 37)),
ig 39 36 true (.fad 1 (.t 3)),
ig 40 36 true (.ld 1 false (.t 39)),
ig 41 36 true (.bin .eql (.t 38) (.t 40)),
ia 42 (.pick (.t 36) (.t 41) (.c (.a (.p (.b false))))),
ia 43 (.mv (.t 42)),
ig 44 43 true (.fad 0 (.t 2)),
ig 45 43 true (.ld 1 false (.t 44)),
ig 46 43 true (.fad 0 (.t 3)),
ig 47 43 true (.ld 1 false (.t 46)),
ig 48 43 true (.bin .eql (.t 45) (.t 47)),
ia 49 (.pick (.t 43) (.t 48) (.c (.a (.p (.b false))))),
ia 33 (.mv (.t 49))]) (.cond (.t 33) (.seq (.reg [
  ia 50 (.call (.f 44) [(ci 6)]),
ia 51 (.ext (.t 50) 0),
ia 52 (.ext (.t 50) 1),
io (.st 10 (.t 4) (.t 51)),
ia 5 (.mv (.t 52))]) .ret) (.seq (.reg [
  ia 54 (.fad 0 (.t 2)),
ia 55 (.ld 1 false (.t 54)),
ia 56 (.call (.f 42) [(.t 55)]),
ia 57 (.bin .eql (.t 56) (ci 3)),
ia 58 (.mv (.t 57)),
ig 59 58 true (.fad 0 (.t 3)),
ig 60 58 true (.ld 1 false (.t 59)),
ig 61 58 true (.call (.f 42) [(.t 60)]),
ig 62 58 true (.bin .neq (.t 61) (ci 3)),
ig 63 58 true (.mv (.t 62)),
ig 64 63 false (.fad 1 (.t 2)),
ig 65 63 false (.ld 1 false (.t 64)),
ig 66 63 false (.fad 1 (.t 3)),
ig 67 63 false (.ld 1 false (.t 66)),
ig 68 63 false (.bin .leq (.t 65) (.t 67)),
ig 69 58 true (.pick (.t 63) (.c (.a (.p (.b true)))) (.t 68)),
ia 70 (.pick (.t 58) (.t 69) (.c (.a (.p (.b false))))),
ia 53 (.mv (.t 70))]) (.cond (.t 53) (.seq (.reg [
  ia 71 (.ld 6 true (.t 2)),
ia 72 (.ld 6 true (.t 3)),
ia 73 (.call (.f 46) [(.t 71), (.t 72)]),
ia 74 (.ext (.t 73) 0),
ia 75 (.ext (.t 73) 1),
io (.st 10 (.t 4) (.t 74)),
ia 5 (.mv (.t 75))]) .ret) (.seq (.reg [
  ia 77 (.fad 0 (.t 3)),
ia 78 (.ld 1 false (.t 77)),
ia 79 (.call (.f 42) [(.t 78)]),
ia 80 (.bin .eql (.t 79) (ci 3)),
ia 76 (.mv (.t 80))]) (.cond (.t 76) (.seq (.reg [
  ia 81 (.ld 6 true (.t 3)),
ia 82 (.ld 6 true (.t 2)),
ia 83 (.call (.f 46) [(.t 81), (.t 82)]),
ia 84 (.ext (.t 83) 0),
ia 85 (.ext (.t 83) 1),
ia 86 (.call (.f 45) [(.t 84), (.t 85)]),
ia 87 (.ext (.t 86) 0),
ia 88 (.ext (.t 86) 1),
io (.st 10 (.t 4) (.t 87)),
ia 5 (.mv (.t 88))]) .ret) (.seq (.reg [
  ia 90 (.mv (.t 6)),
ia 91 (.call (.t 90) [(ci 1), (ci 2)]),
ia 89 (.mv (.t 91))]) (.cond (.t 89) (.seq (.reg [
  ia 92 (.ld 6 true (.t 2)),
ia 93 (.ld 6 true (.t 3)),
ia 94 (.call (.f 47) [(.t 92), (.t 93)]),
ia 95 (.ext (.t 94) 0),
ia 96 (.ext (.t 94) 1),
io (.st 10 (.t 4) (.t 95)),
ia 5 (.mv (.t 96))]) .ret) (.seq (.reg [
  ia 98 (.mv (.t 6)),
ia 99 (.call (.t 98) [(ci 2), (ci 1)]),
ia 97 (.mv (.t 99))]) (.cond (.t 97) (.seq (.reg [
  ia 100 (.ld 6 true (.t 3)),
ia 101 (.ld 6 true (.t 2)),
ia 102 (.call (.f 47) [(.t 100), (.t 101)]),
ia 103 (.ext (.t 102) 0),
ia 104 (.ext (.t 102) 1),
ia 105 (.call (.f 45) [(.t 103), (.t 104)]),
ia 106 (.ext (.t 105) 0),
ia 107 (.ext (.t 105) 1),
io (.st 10 (.t 4) (.t 106)),
ia 5 (.mv (.t 107))]) .ret) .skip))))))))))))))))) (.seq (.reg [
  ia 108 (.build [(.p (.i .i64 0)), (.p (.b false)), (.p (.i .i64 0)), (.p (.i .i64 0)), (.p (.i .i64 0)), (.p (.i .i64 0)), (.p (.i .i64 0)), (.p (.s [])), .nil, .nil] []),
io (.st 10 (.t 4) (.t 108)),
ia 5 (.mv (ci 140))]) .ret))))), [(.cell 4 10 true), (.tmp 5)]⟩
theorem cc24 : ccF Tryz.prog [(46, [0, 0]), (57, [1, 0]), (81, [0, 0]), (46, [9]), (68, [8]), (70, [8]), (54, [8]), (69, [8]), (58, [8])] Tryz.f24 = some (stripF F24) := by kernel_rfl
def F25b0 : C := (.seq (.reg [
  ia 10 (.bin .lss (.t 9) (.t 8))]) (.seq (.cond (.t 10) .skip (.exit 0)) (.seq (.block 1 (.seq (.reg [
  ia 11 (.ias 6 (.t 7) (.t 9)),
ia 12 (.ld 6 true (.t 11)),
ia 5 (.new [(.p (.i .i64 0)), (.p (.i .i64 0)), (.p (.i .i64 0)), (.p (.s [])), .nil, .nil]),
io (.st 6 (.t 5) (.t 12))]) (.seq (.reg [
  ia 13 (.ld 6 true (.t 5)),
ia 14 (.call (.f 48) [(.t 13)]),
ia 15 (.not (.t 14))]) (.cond (.t 15) (.reg [
  ia 16 (.mv (.t 3)),
ia 17 (.bin .add (.t 16) (ci 1)),
ia 3 (.mv (.t 17))]) .skip)))) (.reg [
  ia 18 (.bin .add (.t 9) (ci 1)),
ia 9 (.mv (.t 18))]))))
def F25 : FnC := ⟨1, (.seq (.reg [
  ia 1 (.box 2 (.t 0)),
ia 2 (.mv (ci 0))]) (.seq (.reg [
  ia 3 (.mv (ci 0))]) (.seq (.seq (.reg [
  ia 6 (.fad 0 (.t 1)),
ia 7 (.ld 1 false (.t 6)),
ia 8 (.len false (.t 7)),
ia 9 (.mv (ci 0))]) (.block 0 (.loop F25b0))) (.seq (.reg [
  ia 19 (.mv (.t 3)),
ia 2 (.mv (.t 19))]) .ret)))), [(.tmp 2)]⟩
theorem cc25 : ccF Tryz.prog [(46, [0, 0]), (57, [1, 0]), (81, [0, 0]), (46, [9]), (68, [8]), (70, [8]), (54, [8]), (69, [8]), (58, [8])] Tryz.f25 = some (stripF F25) := by kernel_rfl
def F26 : FnC := ⟨3, (.seq (.reg [
  ia 3 (.box 10 (.t 0)),
ia 4 (.box 6 (.t 1)),
ia 5 (.box 6 (.t 2)),
ia 6 (.mv (ci 0))]) (.seq (.reg [
  ir 9 (.ld 6 true (.t 4)),
ir 10 (.ld 6 true (.t 5)),
⟨(.some 7), .none, (.new [(.p (.i .i64 0)), (.p (.i .i64 0)), (.p (.i .i64 0)), (.p (.s [])), .nil, .nil]), .ad⟩,
⟨(.some 8), .none, (.new [(.p (.i .i64 0)), (.p (.i .i64 0)), (.p (.i .i64 0)), (.p (.s [])), .nil, .nil]), .ad⟩,
⟨.none, .none, (.st 6 (.t 7) (.t 9)), (.wr [5])⟩,
io (.st 6 (.t 8) (.t 10))]) (.seq (.seq (.reg [
  ia 11 (.fad 1 (.t 3)),
ia 12 (.ld 1 false (.t 11))]) (.cond (.t 12) (.reg [
  ir 13 (.ld 6 true (.t 5)),
ir 14 (.ld 6 true (.t 4)),
⟨.none, .none, (.st 6 (.t 7) (.t 13)), (.wr [4])⟩,
io (.st 6 (.t 8) (.t 14))]) .skip)) (.seq (.seq (.reg [
  ia 15 (.fad 0 (.t 3)),
ia 16 (.ld 1 false (.t 15))]) (.block 0 (.seq (.reg [
  ia 18 (.bin .eql (.t 16) (ci 2)),
ia 17 (.mv (.t 18))]) (.cond (.t 17) (.seq (.seq (.reg [
  ia 19 (.fad 3 (.t 3)),
ia 20 (.ld 1 false (.t 19)),
ia 21 (.bin .lss (.t 20) (ci 0)),
ia 22 (.mv (.t 21)),
ig 23 22 false (.fad 3 (.t 3)),
ig 24 22 false (.ld 1 false (.t 23)),
ig 25 22 false (.fad 4 (.t 7)),
ig 26 22 false (.ld 1 false (.t 25)),
ig 27 22 false (.len false (.t 26)),
ig 28 22 false (.bin .geq (.t 24) (.t 27)),
ia 29 (.pick (.t 22) (.c (.a (.p (.b true)))) (.t 28))]) (.cond (.t 29) (.seq (.reg [
  ia 6 (.mv (ci 0))]) .ret) .skip)) (.seq (.reg [
  ir 30 (.fad 4 (.t 7)),
ir 31 (.ld 1 false (.t 30)),
ir 32 (.fad 3 (.t 3)),
ir 33 (.ld 1 false (.t 32)),
ir 34 (.ias 2 (.t 31) (.t 33)),
ir 35 (.fad 1 (.t 34)),
ir 36 (.ld 1 false (.t 35)),
ir 37 (.fad 4 (.t 7)),
ir 38 (.ld 1 false (.t 37)),
ir 39 (.len false (.t 38)),
ia 40 (.bin .add (.t 36) (.t 39)),
ia 41 (.bin .sub (.t 40) (ci 1)),
ia 6 (.mv (.t 41))]) .ret)) (.seq (.seq (.reg [
  ia 43 (.bin .eql (.t 16) (ci 3)),
ia 42 (.mv (.t 43))]) (.cond (.t 42) .skip (.reg [
  ia 44 (.bin .eql (.t 16) (ci 4)),
ia 42 (.mv (.t 44))]))) (.cond (.t 42) (.seq (.reg [
  ia 6 (.mv (ci 1))]) .ret) (.seq (.reg [
  ia 46 (.bin .eql (.t 16) (ci 5)),
ia 45 (.mv (.t 46))]) (.cond (.t 45) (.seq (.reg [
  ir 47 (.ld 6 true (.t 7)),
ir 48 (.call (.f 49) [(.t 47)]),
ir 49 (.bin .sub (.t 48) (ci 1)),
ir 50 (.mx (.t 49) (ci 0)),
ir 51 (.bin .add (ci 1) (.t 50)),
ir 52 (.ld 6 true (.t 8)),
ir 53 (.call (.f 49) [(.t 52)]),
ia 54 (.bin .add (.t 51) (.t 53)),
ia 6 (.mv (.t 54))]) .ret) (.seq (.reg [
  ia 56 (.bin .eql (.t 16) (ci 7)),
ia 55 (.mv (.t 56))]) (.cond (.t 55) (.seq (.seq (.reg [
  ia 57 (.fad 0 (.t 7)),
ia 58 (.ld 1 false (.t 57)),
ia 59 (.bin .eql (.t 58) (ci 4))]) (.cond (.t 59) (.seq (.reg [
  ia 60 (.ld 6 true (.t 8)),
ia 61 (.call (.f 49) [(.t 60)]),
ia 62 (.bin .add (ci 2) (.t 61)),
ia 6 (.mv (.t 62))]) .ret) .skip)) (.seq (.reg [
  ia 63 (.ld 6 true (.t 8)),
ia 64 (.call (.f 49) [(.t 63)]),
ia 65 (.bin .add (ci 1) (.t 64)),
ia 6 (.mv (.t 65))]) .ret)) (.seq (.reg [
  ia 67 (.bin .eql (.t 16) (ci 8)),
ia 66 (.mv (.t 67))]) (.cond (.t 66) (.seq (.reg [
  ia 68 (.ld 6 true (.t 8)),
ia 69 (.call (.f 49) [(.t 68)]),
ia 6 (.mv (.t 69))]) .ret) .skip)))))))))))) (.seq (.reg [
  ia 6 (.mv (ci 0))]) .ret))))), [(.tmp 6)]⟩
theorem cc26 : ccF Tryz.prog [(46, [0, 0]), (57, [1, 0]), (81, [0, 0]), (46, [9]), (68, [8]), (70, [8]), (54, [8]), (69, [8]), (58, [8])] Tryz.f26 = some (stripF F26) := by kernel_rfl
def F27b0 : C := (.seq (.reg [
  ia 79 (.bin .lss (.t 78) (.t 77))]) (.seq (.cond (.t 79) .skip (.exit 1)) (.seq (.block 2 (.seq (.reg [
  ia 80 (.ias 1 (.t 76) (.t 78)),
ia 81 (.ld 1 false (.t 80)),
ia 3 (.mv (.t 81))]) (.reg [
  ia 83 (.mv (.t 0)),
ia 84 (.mv (.t 0)),
ia 85 (.nck (.t 84)),
ia 86 (.fad 0 (.t 85)),
ia 87 (.ld 2 true (.t 86)),
ia 88 (.mv (.t 3)),
ia 89 (.call (.f 59) [(.t 87), (.t 88)]),
ia 82 (.mv (.t 89)),
ia 90 (.ext (.t 82) 0),
ia 91 (.ext (.t 82) 1),
ia 92 (.nck (.t 83)),
ia 93 (.fad 0 (.t 92)),
io (.st 2 (.t 93) (.t 90))]))) (.reg [
  ia 94 (.bin .add (.t 78) (ci 1)),
ia 78 (.mv (.t 94))]))))
def F27 : FnC := ⟨1, (.seq (.seq (.reg [
  ia 4 (.mv (.t 0)),
ia 5 (.nck (.t 4)),
ia 6 (.fad 2 (.t 5)),
ia 7 (.fad 0 (.t 6)),
ia 8 (.ld 1 false (.t 7))]) (.block 0 (.seq (.seq (.reg [
  ia 10 (.bin .eql (.t 8) (ci 1)),
ia 9 (.mv (.t 10))]) (.cond (.t 9) .skip (.reg [
  ia 11 (.bin .eql (.t 8) (ci 6)),
ia 9 (.mv (.t 11))]))) (.cond (.t 9) (.reg [
  ia 12 (.mv (.t 0)),
ia 13 (.call (.f 50) [(.t 12)])]) (.seq (.reg [
  ia 15 (.bin .eql (.t 8) (ci 2)),
ia 14 (.mv (.t 15))]) (.cond (.t 14) (.reg [
  ia 16 (.mv (.t 0)),
ia 17 (.call (.f 51) [(.t 16)])]) (.seq (.reg [
  ia 19 (.bin .eql (.t 8) (ci 3)),
ia 18 (.mv (.t 19))]) (.cond (.t 18) (.reg [
  ia 20 (.mv (.t 0)),
ia 21 (.call (.f 52) [(.t 20)])]) (.seq (.reg [
  ia 23 (.bin .eql (.t 8) (ci 4)),
ia 22 (.mv (.t 23))]) (.cond (.t 22) (.reg [
  ir 24 (.mv (.t 0)),
ir 25 (.mv (.t 0)),
ir 26 (.nck (.t 25)),
ir 27 (.fad 12 (.t 26)),
ir 28 (.ld 1 false (.t 27)),
ir 29 (.call (.f 40) [(.t 28), (ci 1)]),
ir 30 (.mv (.t 0)),
ir 31 (.mv (.t 0)),
ir 32 (.nck (.t 31)),
ir 33 (.fad 2 (.t 32)),
ir 34 (.fad 4 (.t 33)),
ir 35 (.ld 6 true (.t 34)),
⟨(.some 36), .none, (.call (.f 54) [(.t 30), (.t 35)]), (.cl [] [])⟩,
ir 37 (.call (.f 40) [(.t 36), (ci 0)]),
ia 38 (.call (.f 53) [(.t 24), (.t 29), (.t 37)])]) (.seq (.reg [
  ia 40 (.bin .eql (.t 8) (ci 5)),
ia 39 (.mv (.t 40))]) (.cond (.t 39) (.reg [
  ia 41 (.mv (.t 0)),
ia 42 (.call (.f 55) [(.t 41)])]) (.seq (.reg [
  ia 44 (.bin .eql (.t 8) (ci 7)),
ia 43 (.mv (.t 44))]) (.cond (.t 43) (.reg [
  ia 45 (.mv (.t 0)),
ia 46 (.call (.f 56) [(.t 45)])]) (.seq (.reg [
  ia 48 (.bin .eql (.t 8) (ci 8)),
ia 47 (.mv (.t 48))]) (.cond (.t 47) (.reg [
  ia 49 (.mv (.t 0)),
ia 50 (.mv (.t 0)),
ia 51 (.mv (.t 0)),
ia 52 (.nck (.t 51)),
ia 53 (.fad 13 (.t 52)),
ia 54 (.ld 1 false (.t 53)),
ia 55 (.call (.f 58) [(.t 50), (.t 54), (ci 1)]),
ia 56 (.call (.f 57) [(.t 49), (.t 55)]),
ia 57 (.call (.t 56) [])]) .skip)))))))))))))))) (.seq (.reg [
  ir 58 (.mv (.t 0)),
ir 59 (.nck (.t 58)),
ir 60 (.fad 12 (.t 59)),
ir 61 (.ld 1 false (.t 60)),
ir 62 (.mv (.t 0)),
ir 63 (.nck (.t 62)),
ir 64 (.fad 13 (.t 63)),
ir 65 (.ld 1 false (.t 64)),
ir 66 (.mx (.t 61) (.t 65)),
ir 67 (.mv (.t 0)),
ir 68 (.nck (.t 67)),
ir 69 (.fad 12 (.t 68)),
ir 70 (.ld 1 false (.t 69)),
ir 71 (.mv (.t 0)),
ir 72 (.nck (.t 71)),
ir 73 (.fad 13 (.t 72)),
ir 74 (.ld 1 false (.t 73)),
ir 75 (.mn (.t 70) (.t 74)),
⟨(.some 76), .none, (.bsl 1 3 [(.p (.i .i64 0))] 2 [(0, (.t 66)), (1, (.t 75))]), .ad⟩,
ir 77 (.len false (.t 76)),
ir 78 (.mv (ci 0))]) (.block 1 (.loop F27b0)))), []⟩
theorem cc27 : ccF Tryz.prog [(46, [0, 0]), (57, [1, 0]), (81, [0, 0]), (46, [9]), (68, [8]), (70, [8]), (54, [8]), (69, [8]), (58, [8])] Tryz.f27 = some (stripF F27) := by kernel_rfl
def F28b0 : C := (.seq (.seq (.reg [
  ia 51 (.mv (.t 5)),
ia 52 (.fad 4 (.t 2)),
ia 53 (.ld 1 false (.t 52)),
ia 54 (.len false (.t 53)),
ia 55 (.bin .lss (.t 51) (.t 54))]) (.cond (.t 55) .skip (.exit 0))) (.seq (.block 1 (.seq (.reg [
  ir 58 (.fad 4 (.t 2)),
ir 59 (.ld 1 false (.t 58)),
ir 60 (.mv (.t 5)),
ir 61 (.ias 2 (.t 59) (.t 60)),
ir 62 (.ld 2 true (.t 61)),
ir 63 (.fad 4 (.t 3)),
ir 64 (.ld 1 false (.t 63)),
ir 65 (.mv (.t 5)),
ir 66 (.ias 2 (.t 64) (.t 65)),
ir 67 (.ld 2 true (.t 66)),
ia 68 (.eqg true [1, 0] (.t 62) (.t 67))]) (.cond (.t 68) (.seq (.reg [
  ia 4 (.mv (.c (.a (.p (.b false)))))]) .ret) .skip))) (.reg [
  ia 56 (.mv (.t 5)),
ia 57 (.bin .add (.t 56) (ci 1)),
ia 5 (.mv (.t 57))])))
def F28b1 : C := (.seq (.seq (.reg [
  ia 69 (.mv (.t 6)),
ia 70 (.fad 5 (.t 2)),
ia 71 (.ld 1 false (.t 70)),
ia 72 (.len false (.t 71)),
ia 73 (.bin .lss (.t 69) (.t 72))]) (.cond (.t 73) .skip (.exit 2))) (.seq (.block 3 (.seq (.reg [
  ir 76 (.fad 5 (.t 2)),
ir 77 (.ld 1 false (.t 76)),
ir 78 (.mv (.t 6)),
ir 79 (.ias 2 (.t 77) (.t 78)),
ir 80 (.ld 2 true (.t 79)),
ir 81 (.fad 5 (.t 3)),
ir 82 (.ld 1 false (.t 81)),
ir 83 (.mv (.t 6)),
ir 84 (.ias 2 (.t 82) (.t 83)),
ir 85 (.ld 2 true (.t 84)),
ia 86 (.eqg true [0, 0] (.t 80) (.t 85))]) (.cond (.t 86) (.seq (.reg [
  ia 4 (.mv (.c (.a (.p (.b false)))))]) .ret) .skip))) (.reg [
  ia 74 (.mv (.t 6)),
ia 75 (.bin .add (.t 74) (ci 1)),
ia 6 (.mv (.t 75))])))
def F28 : FnC := ⟨2, (.seq (.reg [
  ia 2 (.box 6 (.t 0)),
ia 3 (.box 6 (.t 1)),
ia 4 (.mv (.c (.a (.p (.b false)))))]) (.seq (.seq (.reg [
  ia 7 (.fad 0 (.t 2)),
ia 8 (.ld 1 false (.t 7)),
ia 9 (.fad 0 (.t 3)),
ia 10 (.ld 1 false (.t 9)),
ia 11 (.bin .neq (.t 8) (.t 10)),
ia 12 (.mv (.t 11)),
ig 13 12 false (.fad 1 (.t 2)),
ig 14 12 false (.ld 1 false (.t 13)),
ig 15 12 false (.fad 1 (.t 3)),
ig 16 12 false (.ld 1 false (.t 15)),
ig 17 12 false (.bin .neq (.t 14) (.t 16)),
ia 18 (.pick (.t 12) (.c (.a (.p (.b true)))) (.t 17)),
ia 19 (.mv (.t 18)),
ig 20 19 false (.fad 2 (.t 2)),
ig 21 19 false (.ld 1 false (.t 20)),
ig 22 19 false (.fad 2 (.t 3)),
ig 23 19 false (.ld 1 false (.t 22)),
ig 24 19 false (.bin .neq (.t 21) (.t 23)),
ia 25 (.pick (.t 19) (.c (.a (.p (.b true)))) (.t 24)),
ia 26 (.mv (.t 25)),
ig 27 26 false (.fad 3 (.t 2)),
ig 28 26 false (.ld 1 false (.t 27)),
ig 29 26 false (.fad 3 (.t 3)),
ig 30 26 false (.ld 1 false (.t 29)),
ig 31 26 false (.bin .neq (.t 28) (.t 30)),
ia 32 (.pick (.t 26) (.c (.a (.p (.b true)))) (.t 31)),
ia 33 (.mv (.t 32)),
ig 34 33 false (.fad 4 (.t 2)),
ig 35 33 false (.ld 1 false (.t 34)),
ig 36 33 false (.len false (.t 35)),
ig 37 33 false (.fad 4 (.t 3)),
ig 38 33 false (.ld 1 false (.t 37)),
ig 39 33 false (.len false (.t 38)),
ig 40 33 false (.bin .neq (.t 36) (.t 39)),
ia 41 (.pick (.t 33) (.c (.a (.p (.b true)))) (.t 40)),
ia 42 (.mv (.t 41)),
ig 43 42 false (.fad 5 (.t 2)),
ig 44 42 false (.ld 1 false (.t 43)),
ig 45 42 false (.len false (.t 44)),
ig 46 42 false (.fad 5 (.t 3)),
ig 47 42 false (.ld 1 false (.t 46)),
ig 48 42 false (.len false (.t 47)),
ig 49 42 false (.bin .neq (.t 45) (.t 48)),
ia 50 (.pick (.t 42) (.c (.a (.p (.b true)))) (.t 49))]) (.cond (.t 50) (.seq (.reg [
  ia 4 (.mv (.c (.a (.p (.b false)))))]) .ret) .skip)) (.seq (.seq (.reg [
  ia 5 (.mv (ci 0))]) (.block 0 (.loop F28b0))) (.seq (.seq (.reg [
  ia 6 (.mv (ci 0))]) (.block 2 (.loop F28b1))) (.seq (.reg [
  ia 4 (.mv (.c (.a (.p (.b true)))))]) .ret))))), [(.tmp 4)]⟩
theorem cc28 : ccF Tryz.prog [(46, [0, 0]), (57, [1, 0]), (81, [0, 0]), (46, [9]), (68, [8]), (70, [8]), (54, [8]), (69, [8]), (58, [8])] Tryz.f28 = some (stripF F28) := by kernel_rfl
def F29 : FnC := ⟨2, (.seq (.reg [
  ia 2 (.box 2 (.t 0)),
ia 3 (.box 2 (.t 1)),
ia 4 (.new [(.p (.i .i64 0)), (.p (.i .i64 0))])]) (.seq (.reg [
  ir 5 (.fad 0 (.t 2)),
ir 6 (.ld 1 false (.t 5)),
ir 7 (.fad 0 (.t 3)),
ir 8 (.ld 1 false (.t 7)),
ir 9 (.ias 6 (.t 6) (.t 8)),
ir 10 (.fad 5 (.t 9)),
ir 11 (.ld 1 false (.t 10)),
ir 12 (.fad 1 (.t 3)),
ir 13 (.ld 1 false (.t 12)),
ia 14 (.ias 2 (.t 11) (.t 13)),
ia 15 (.ld 2 true (.t 14)),
io (.st 2 (.t 4) (.t 15))]) .ret)), [(.cell 4 2 true)]⟩
theorem cc29 : ccF Tryz.prog [(46, [0, 0]), (57, [1, 0]), (81, [0, 0]), (46, [9]), (68, [8]), (70, [8]), (54, [8]), (69, [8]), (58, [8])] Tryz.f29 = some (stripF F29) := by kernel_rfl
def F30 : FnC := ⟨1, (.seq (.reg [
  ia 2 (.mv (.c (.a (.p (.b false)))))]) (.seq (.reg [
  ia 3 (.mv (.t 0)),
ia 4 (.bin .eql (.t 3) (ci 3)),
ia 5 (.mv (.t 4)),
ig 6 5 false (.mv (.t 0)),
ig 7 5 false (.bin .eql (.t 6) (ci 9)),
ia 8 (.pick (.t 5) (.c (.a (.p (.b true)))) (.t 7)),
ia 9 (.mv (.t 8)),
ig 10 9 false (.mv (.t 0)),
ig 11 9 false (.bin .eql (.t 10) (ci 11)),
ia 12 (.pick (.t 9) (.c (.a (.p (.b true)))) (.t 11)),
ia 13 (.mv (.t 12)),
ig 14 13 false (.mv (.t 0)),
ig 15 13 false (.bin .eql (.t 14) (ci 12)),
ia 16 (.pick (.t 13) (.c (.a (.p (.b true)))) (.t 15)),
ia 2 (.mv (.t 16))]) .ret)), [(.tmp 2)]⟩
theorem cc30 : ccF Tryz.prog [(46, [0, 0]), (57, [1, 0]), (81, [0, 0]), (46, [9]), (68, [8]), (70, [8]), (54, [8]), (69, [8]), (58, [8])] Tryz.f30 = some (stripF F30) := by kernel_rfl
def F31 : FnC := ⟨1, (.seq (.reg [
  ia 2 (.mv (.c (.a (.p (.b false)))))]) (.seq (.reg [
  ia 3 (.mv (.t 0)),
ia 4 (.bin .eql (.t 3) (ci 2)),
ia 5 (.mv (.t 4)),
ig 6 5 false (.mv (.t 0)),
ig 7 5 false (.bin .eql (.t 6) (ci 8)),
ia 8 (.pick (.t 5) (.c (.a (.p (.b true)))) (.t 7)),
ia 9 (.mv (.t 8)),
ig 10 9 false (.mv (.t 0)),
ig 11 9 false (.bin .eql (.t 10) (ci 10)),
ia 12 (.pick (.t 9) (.c (.a (.p (.b true)))) (.t 11)),
ia 13 (.mv (.t 12)),
ig 14 13 false (.mv (.t 0)),
ig 15 13 false (.bin .eql (.t 14) (ci 13)),
ia 16 (.pick (.t 13) (.c (.a (.p (.b true)))) (.t 15)),
ia 2 (.mv (.t 16))]) .ret)), [(.tmp 2)]⟩
theorem cc31 : ccF Tryz.prog [(46, [0, 0]), (57, [1, 0]), (81, [0, 0]), (46, [9]), (68, [8]), (70, [8]), (54, [8]), (69, [8]), (58, [8])] Tryz.f31 = some (stripF F31) := by kernel_rfl
def F32 : FnC := ⟨1, (.seq (.reg [
  ia 2 (.mv (.c (.a (.p (.b false)))))]) (.seq (.reg [
  ia 3 (.mv (.t 0)),
ia 4 (.bin .eql (.t 3) (ci 4)),
ia 5 (.mv (.t 4)),
ig 6 5 false (.mv (.t 0)),
ig 7 5 false (.bin .eql (.t 6) (ci 5)),
ia 8 (.pick (.t 5) (.c (.a (.p (.b true)))) (.t 7)),
ia 9 (.mv (.t 8)),
ig 10 9 false (.mv (.t 0)),
ig 11 9 false (.bin .eql (.t 10) (ci 6)),
ia 12 (.pick (.t 9) (.c (.a (.p (.b true)))) (.t 11)),
ia 2 (.mv (.t 12))]) .ret)), [(.tmp 2)]⟩
theorem cc32 : ccF Tryz.prog [(46, [0, 0]), (57, [1, 0]), (81, [0, 0]), (46, [9]), (68, [8]), (70, [8]), (54, [8]), (69, [8]), (58, [8])] Tryz.f32 = some (stripF F32) := by kernel_rfl
def F33 : FnC := ⟨2, (.seq (.reg [
  ia 2 (.box 6 (.t 0)),
ia 3 (.box 6 (.t 1)),
ia 4 (.new [(.p (.i .i64 0)), (.p (.b false)), (.p (.i .i64 0)), (.p (.i .i64 0)), (.p (.i .i64 0)), (.p (.i .i64 0)), (.p (.i .i64 0)), (.p (.s [])), .nil, .nil]),
ia 5 (.mv (ci 0))]) (.seq (.seq (.reg [
  ia 7 (.fad 1 (.t 2)),
ia 8 (.ld 1 false (.t 7)),
ia 9 (.fad 1 (.t 3)),
ia 10 (.ld 1 false (.t 9)),
ia 11 (.bin .geq (.t 8) (.t 10))]) (.cond (.t 11) (.seq (.reg [
  ia 12 (.build [(.p (.i .i64 0)), (.p (.b false)), (.p (.i .i64 0)), (.p (.i .i64 0)), (.p (.i .i64 0)), (.p (.i .i64 0)), (.p (.i .i64 0)), (.p (.s [])), .nil, .nil] []),
io (.st 10 (.t 4) (.t 12)),
ia 5 (.mv (ci 140))]) .ret) .skip)) (.seq (.reg [
  ia 13 (.fad 1 (.t 3)),
ia 14 (.ld 1 false (.t 13)),
ia 6 (.mv (.t 14))]) (.seq (.seq (.reg [
  ia 15 (.fad 0 (.t 2)),
ia 16 (.ld 1 false (.t 15)),
ia 17 (.bin .eql (.t 16) (ci 5))]) (.cond (.t 17) (.reg [
  ia 18 (.mv (.t 6)),
ia 19 (.bin .sub (.t 18) (ci 1)),
ia 6 (.mv (.t 19))]) .skip)) (.seq (.seq (.reg [
  ia 20 (.fad 0 (.t 2)),
ia 21 (.ld 1 false (.t 20)),
ia 22 (.bin .eql (.t 21) (ci 6))]) (.cond (.t 22) (.reg [
  ia 23 (.mv (.t 6)),
ia 24 (.bin .add (.t 23) (ci 1)),
ia 6 (.mv (.t 24))]) .skip)) (.seq (.seq (.reg [
  ia 25 (.mv (.t 6)),
ia 26 (.bin .gtr (.t 25) (ci 60))]) (.cond (.t 26) (.seq (.reg [
  ia 27 (.build [(.p (.i .i64 0)), (.p (.b false)), (.p (.i .i64 0)), (.p (.i .i64 0)), (.p (.i .i64 0)), (.p (.i .i64 0)), (.p (.i .i64 0)), (.p (.s [])), .nil, .nil] []),
io (.st 10 (.t 4) (.t 27)),
ia 5 (.mv (ci 141))]) .ret) .skip)) (.seq (.reg [
  ia 28 (.mv (.t 6)),
ia 29 (.build [(.p (.i .i64 0)), (.p (.b false)), (.p (.i .i64 0)), (.p (.i .i64 0)), (.p (.i .i64 0)), (.p (.i .i64 0)), (.p (.i .i64 0)), (.p (.s [])), .nil, .nil] [(0, (1, (ci 7))), (2, (1, (.t 28)))]),
io (.st 10 (.t 4) (.t 29)),
ia 5 (.mv (ci 0))]) .ret))))))), [(.cell 4 10 true), (.tmp 5)]⟩
theorem cc33 : ccF Tryz.prog [(46, [0, 0]), (57, [1, 0]), (81, [0, 0]), (46, [9]), (68, [8]), (70, [8]), (54, [8]), (69, [8]), (58, [8])] Tryz.f33 = some (stripF F33) := by kernel_rfl
def F34b0 : C := (.seq (.seq (.reg [
  ia 42 (.mv (.t 6)),
ia 43 (.fad 4 (.t 2)),
ia 44 (.ld 1 false (.t 43)),
ia 45 (.len false (.t 44)),
ia 46 (.bin .lss (.t 42) (.t 45)),
ia 47 (.mv (.t 46)),
ig 48 47 true (.fad 0 (.t 2)),
ig 49 47 true (.ld 1 false (.t 48)),
ig 50 47 true (.bin .eql (.t 49) (ci 9)),
ia 51 (.pick (.t 47) (.t 50) (.c (.a (.p (.b false))))),
ia 52 (.mv (.t 51)),
ig 53 52 true (.fad 0 (.t 3)),
ig 54 52 true (.ld 1 false (.t 53)),
ig 55 52 true (.bin .eql (.t 54) (ci 8)),
ia 56 (.pick (.t 52) (.t 55) (.c (.a (.p (.b false)))))]) (.cond (.t 56) .skip (.exit 0))) (.seq (.block 1 (.seq (.reg [
  ir 59 (.fad 4 (.t 2)),
ir 60 (.ld 1 false (.t 59)),
ir 61 (.mv (.t 6)),
ir 62 (.ias 2 (.t 60) (.t 61)),
ir 63 (.fad 0 (.t 62)),
ir 64 (.ld 1 false (.t 63)),
ir 65 (.fad 3 (.t 3)),
ir 66 (.ld 1 false (.t 65)),
ia 67 (.bin .eql (.t 64) (.t 66)),
ia 68 (.mv (.t 67)),
ih 69 68 true (.fad 4 (.t 2)),
ih 70 68 true (.ld 1 false (.t 69)),
ih 71 68 true (.mv (.t 6)),
ih 72 68 true (.ias 2 (.t 70) (.t 71)),
ih 73 68 true (.fad 1 (.t 72)),
ih 74 68 true (.ld 1 false (.t 73)),
ih 75 68 true (.fad 5 (.t 3)),
ih 76 68 true (.ld 1 false (.t 75)),
ih 77 68 true (.len false (.t 76)),
ih 78 68 true (.bin .sub (.t 77) (ci 1)),
ig 79 68 true (.bin .eql (.t 74) (.t 78)),
ia 80 (.pick (.t 68) (.t 79) (.c (.a (.p (.b false)))))]) (.cond (.t 80) (.seq (.reg [
  ia 81 (.mv (.t 6)),
ia 82 (.build [(.p (.i .i64 0)), (.p (.b false)), (.p (.i .i64 0)), (.p (.i .i64 0)), (.p (.i .i64 0)), (.p (.i .i64 0)), (.p (.i .i64 0)), (.p (.s [])), .nil, .nil] [(0, (1, (ci 2))), (3, (1, (.t 81)))]),
io (.st 10 (.t 4) (.t 82)),
ia 5 (.mv (ci 0))]) .ret) .skip))) (.reg [
  ia 57 (.mv (.t 6)),
ia 58 (.bin .add (.t 57) (ci 1)),
ia 6 (.mv (.t 58))])))
def F34 : FnC := ⟨2, (.seq (.reg [
  ia 2 (.box 6 (.t 0)),
ia 3 (.box 6 (.t 1)),
ia 4 (.new [(.p (.i .i64 0)), (.p (.b false)), (.p (.i .i64 0)), (.p (.i .i64 0)), (.p (.i .i64 0)), (.p (.i .i64 0)), (.p (.i .i64 0)), (.p (.s [])), .nil, .nil]),
ia 5 (.mv (ci 0))]) (.seq (.seq (.reg [
  ia 7 (.fad 0 (.t 2)),
ia 8 (.ld 1 false (.t 7)),
ia 9 (.bin .eql (.t 8) (ci 3)),
ia 10 (.mv (.t 9)),
ig 11 10 true (.fad 0 (.t 3)),
ig 12 10 true (.ld 1 false (.t 11)),
ig 13 10 true (.bin .eql (.t 12) (ci 2)),
ia 14 (.pick (.t 10) (.t 13) (.c (.a (.p (.b false))))),
ia 15 (.mv (.t 14)),
ig 16 15 false (.fad 0 (.t 2)),
ig 17 15 false (.ld 1 false (.t 16)),
ig 18 15 false (.bin .eql (.t 17) (ci 9)),
ig 19 15 false (.mv (.t 18)),
ig 20 19 true (.fad 0 (.t 3)),
ig 21 19 true (.ld 1 false (.t 20)),
ig 22 19 true (.bin .eql (.t 21) (ci 8)),
ig 23 15 false (.pick (.t 19) (.t 22) (.c (.a (.p (.b false))))),
ia 24 (.pick (.t 15) (.c (.a (.p (.b true)))) (.t 23)),
ia 25 (.mv (.t 24)),
ig 26 25 true (.fad 1 (.t 2)),
ig 27 25 true (.ld 1 false (.t 26)),
ig 28 25 true (.fad 1 (.t 3)),
ig 29 25 true (.ld 1 false (.t 28)),
ig 30 25 true (.bin .neq (.t 27) (.t 29)),
ia 31 (.pick (.t 25) (.t 30) (.c (.a (.p (.b false)))))]) (.cond (.t 31) (.seq (.reg [
  ia 32 (.build [(.p (.i .i64 0)), (.p (.b false)), (.p (.i .i64 0)), (.p (.i .i64 0)), (.p (.i .i64 0)), (.p (.i .i64 0)), (.p (.i .i64 0)), (.p (.s [])), .nil, .nil] []),
io (.st 10 (.t 4) (.t 32)),
ia 5 (.mv (ci 140))]) .ret) .skip)) (.seq (.seq (.reg [
  ia 33 (.fad 0 (.t 2)),
ia 34 (.ld 1 false (.t 33)),
ia 35 (.bin .eql (.t 34) (ci 3)),
ia 36 (.mv (.t 35)),
ig 37 36 true (.fad 0 (.t 3)),
ig 38 36 true (.ld 1 false (.t 37)),
ig 39 36 true (.bin .eql (.t 38) (ci 2)),
ia 40 (.pick (.t 36) (.t 39) (.c (.a (.p (.b false)))))]) (.cond (.t 40) (.seq (.reg [
  ia 41 (.build [(.p (.i .i64 0)), (.p (.b false)), (.p (.i .i64 0)), (.p (.i .i64 0)), (.p (.i .i64 0)), (.p (.i .i64 0)), (.p (.i .i64 0)), (.p (.s [])), .nil, .nil] [(0, (1, (ci 1)))]),
io (.st 10 (.t 4) (.t 41)),
ia 5 (.mv (ci 0))]) .ret) .skip)) (.seq (.seq (.reg [
  ia 6 (.mv (ci 0))]) (.block 0 (.loop F34b0))) (.seq (.seq (.reg [
  ia 83 (.fad 0 (.t 2)),
ia 84 (.ld 1 false (.t 83)),
ia 85 (.bin .eql (.t 84) (ci 11)),
ia 86 (.mv (.t 85)),
ig 87 86 true (.fad 0 (.t 3)),
ig 88 86 true (.ld 1 false (.t 87)),
ig 89 86 true (.bin .eql (.t 88) (ci 10)),
ia 90 (.pick (.t 86) (.t 89) (.c (.a (.p (.b false)))))]) (.cond (.t 90) (.seq (.reg [
  ia 91 (.build [(.p (.i .i64 0)), (.p (.b false)), (.p (.i .i64 0)), (.p (.i .i64 0)), (.p (.i .i64 0)), (.p (.i .i64 0)), (.p (.i .i64 0)), (.p (.s [])), .nil, .nil] [(0, (1, (ci 3)))]),
io (.st 10 (.t 4) (.t 91)),
ia 5 (.mv (ci 0))]) .ret) .skip)) (.seq (.seq (.reg [
  ia 92 (.fad 0 (.t 2)),
ia 93 (.ld 1 false (.t 92)),
ia 94 (.bin .eql (.t 93) (ci 12)),
ia 95 (.mv (.t 94)),
ig 96 95 true (.fad 0 (.t 3)),
ig 97 95 true (.ld 1 false (.t 96)),
ig 98 95 true (.bin .eql (.t 97) (ci 10)),
ia 99 (.pick (.t 95) (.t 98) (.c (.a (.p (.b false)))))]) (.cond (.t 99) (.seq (.reg [
  ia 100 (.ld 6 true (.t 2)),
ia 101 (.ld 6 true (.t 3)),
ia 102 (.call (.f 60) [(.t 100), (.t 101)]),
ia 103 (.ext (.t 102) 0),
ia 104 (.ext (.t 102) 1),
io (.st 10 (.t 4) (.t 103)),
ia 5 (.mv (.t 104))]) .ret) .skip)) (.seq (.reg [
  ia 105 (.build [(.p (.i .i64 0)), (.p (.b false)), (.p (.i .i64 0)), (.p (.i .i64 0)), (.p (.i .i64 0)), (.p (.i .i64 0)), (.p (.i .i64 0)), (.p (.s [])), .nil, .nil] [(0, (1, (ci 5)))]),
io (.st 10 (.t 4) (.t 105)),
ia 5 (.mv (ci 0))]) .ret))))))), [(.cell 4 10 true), (.tmp 5)]⟩
theorem cc34 : ccF Tryz.prog [(46, [0, 0]), (57, [1, 0]), (81, [0, 0]), (46, [9]), (68, [8]), (70, [8]), (54, [8]), (69, [8]), (58, [8])] Tryz.f34 = some (stripF F34) := by kernel_rfl
def F35 : FnC := ⟨3, (.seq (.reg [
  ia 6 (.mv (.c (.a (.p (.b false)))))]) (.seq (.reg [
  ia 7 (.mv (.t 0)),
ia 8 (.mv (.t 1)),
ia 9 (.bin .geq (.t 7) (.t 8)),
ia 10 (.mv (.t 9)),
ig 11 10 true (.mv (.t 0)),
ig 12 10 true (.mv (.t 2)),
ig 13 10 true (.bin .leq (.t 11) (.t 12)),
ia 14 (.pick (.t 10) (.t 13) (.c (.a (.p (.b false))))),
ia 6 (.mv (.t 14))]) .ret)), [(.tmp 6)]⟩
theorem cc35 : ccF Tryz.prog [(46, [0, 0]), (57, [1, 0]), (81, [0, 0]), (46, [9]), (68, [8]), (70, [8]), (54, [8]), (69, [8]), (58, [8])] Tryz.f35 = some (stripF F35) := by kernel_rfl
def F36 : FnC := ⟨1, (.seq (.reg [
  ia 1 (.box 6 (.t 0)),
ia 2 (.mv (.c (.a (.p (.b false)))))]) (.seq (.seq (.reg [
  ia 6 (.fad 0 (.t 1)),
ia 7 (.ld 1 false (.t 6)),
ia 8 (.call (.f 35) [(.t 7), (ci 0), (ci 13)]),
ia 9 (.not (.t 8)),
ia 10 (.mv (.t 9)),
ig 11 10 false (.ld 6 true (.t 1)),
ig 12 10 false (.call (.f 61) [(.t 11)]),
ig 13 10 false (.not (.t 12)),
ia 14 (.pick (.t 10) (.c (.a (.p (.b true)))) (.t 13))]) (.cond (.t 14) (.seq (.reg [
  ia 2 (.mv (.c (.a (.p (.b false)))))]) .ret) .skip)) (.seq (.reg [
  ia 15 (.fad 0 (.t 1)),
ia 16 (.ld 1 false (.t 15)),
ia 17 (.bin .eql (.t 16) (ci 8)),
ia 18 (.mv (.t 17)),
ig 19 18 false (.fad 0 (.t 1)),
ig 20 18 false (.ld 1 false (.t 19)),
ig 21 18 false (.bin .eql (.t 20) (ci 11)),
ia 22 (.pick (.t 18) (.c (.a (.p (.b true)))) (.t 21)),
ia 23 (.mv (.t 22)),
ig 24 23 false (.fad 0 (.t 1)),
ig 25 23 false (.ld 1 false (.t 24)),
ig 26 23 false (.bin .eql (.t 25) (ci 12)),
ia 27 (.pick (.t 23) (.c (.a (.p (.b true)))) (.t 26)),
ia 3 (.mv (.t 27))]) (.seq (.reg [
  ia 28 (.fad 0 (.t 1)),
ia 29 (.ld 1 false (.t 28)),
ia 30 (.bin .eql (.t 29) (ci 10)),
ia 31 (.mv (.t 30)),
ig 32 31 false (.fad 0 (.t 1)),
ig 33 31 false (.ld 1 false (.t 32)),
ig 34 31 false (.bin .eql (.t 33) (ci 12)),
ia 35 (.pick (.t 31) (.c (.a (.p (.b true)))) (.t 34)),
ia 4 (.mv (.t 35))]) (.seq (.reg [
  ia 5 (.mv (ci 60))]) (.seq (.seq (.reg [
  ia 36 (.fad 0 (.t 1)),
ia 37 (.ld 1 false (.t 36)),
ia 38 (.bin .eql (.t 37) (ci 0)),
ia 39 (.mv (.t 38)),
ig 40 39 false (.fad 0 (.t 1)),
ig 41 39 false (.ld 1 false (.t 40)),
ig 42 39 false (.bin .eql (.t 41) (ci 1)),
ia 43 (.pick (.t 39) (.c (.a (.p (.b true)))) (.t 42))]) (.cond (.t 43) (.reg [
  ia 5 (.mv (ci 0))]) .skip)) (.seq (.reg [
  ia 44 (.fad 1 (.t 1)),
ia 45 (.ld 1 false (.t 44)),
ia 46 (.mv (.t 5)),
ia 47 (.call (.f 35) [(.t 45), (ci 0), (.t 46)]),
ia 48 (.mv (.t 47)),
ig 49 48 true (.fad 3 (.t 1)),
ig 50 48 true (.ld 1 false (.t 49)),
ig 51 48 true (.bin .neq (.t 50) (.c (.a (.p (.s []))))),
ig 52 48 true (.mv (.t 3)),
ig 53 48 true (.eqb false (.t 51) (.t 52)),
ia 54 (.pick (.t 48) (.t 53) (.c (.a (.p (.b false))))),
ia 55 (.mv (.t 54)),
ig 56 55 true (.fad 2 (.t 1)),
ig 57 55 true (.ld 1 false (.t 56)),
ig 58 55 true (.bin .eql (.t 57) (ci 0)),
ig 59 55 true (.mv (.t 58)),
ig 60 59 false (.mv (.t 4)),
ig 61 55 true (.pick (.t 59) (.c (.a (.p (.b true)))) (.t 60)),
ia 62 (.pick (.t 55) (.t 61) (.c (.a (.p (.b false))))),
ia 63 (.mv (.t 62)),
ig 64 63 true (.fad 0 (.t 1)),
ig 65 63 true (.ld 1 false (.t 64)),
ig 66 63 true (.bin .neq (.t 65) (ci 8)),
ig 67 63 true (.mv (.t 66)),
ig 68 67 false (.fad 5 (.t 1)),
ig 69 67 false (.ld 1 false (.t 68)),
ig 70 67 false (.len false (.t 69)),
ig 71 67 false (.call (.f 35) [(.t 70), (ci 1), (ci 9)]),
ig 72 63 true (.pick (.t 67) (.c (.a (.p (.b true)))) (.t 71)),
ia 73 (.pick (.t 63) (.t 72) (.c (.a (.p (.b false))))),
ia 2 (.mv (.t 73))]) .ret))))))), [(.tmp 2)]⟩
theorem cc36 : ccF Tryz.prog [(46, [0, 0]), (57, [1, 0]), (81, [0, 0]), (46, [9]), (68, [8]), (70, [8]), (54, [8]), (69, [8]), (58, [8])] Tryz.f36 = some (stripF F36) := by kernel_rfl
def F37 : FnC := ⟨1, (.seq (.reg [
  ia 1 (.box 6 (.t 0)),
ia 2 (.mv (ci 0))]) (.seq (.block 0 (.seq (.reg [
  ia 4 (.fad 0 (.t 1)),
ia 5 (.ld 1 false (.t 4)),
ia 6 (.bin .eql (.t 5) (ci 8)),
ia 3 (.mv (.t 6))]) (.cond (.t 3) (.seq (.reg [
  ia 7 (.fad 5 (.t 1)),
ia 8 (.ld 1 false (.t 7)),
ia 9 (.len false (.t 8)),
ia 2 (.mv (.t 9))]) .ret) (.seq (.reg [
  ia 11 (.fad 0 (.t 1)),
ia 12 (.ld 1 false (.t 11)),
ia 13 (.bin .eql (.t 12) (ci 9)),
ia 10 (.mv (.t 13))]) (.cond (.t 10) (.seq (.reg [
  ia 14 (.fad 4 (.t 1)),
ia 15 (.ld 1 false (.t 14)),
ia 16 (.len false (.t 15)),
ia 17 (.bin .add (ci 2) (.t 16)),
ia 2 (.mv (.t 17))]) .ret) (.seq (.reg [
  ia 19 (.fad 0 (.t 1)),
ia 20 (.ld 1 false (.t 19)),
ia 21 (.call (.f 35) [(.t 20), (ci 0), (ci 13)]),
ia 18 (.mv (.t 21))]) (.cond (.t 18) (.seq (.reg [
  ir 22 (.call (.f 62) []),
ir 23 (.fad 0 (.t 1)),
ir 24 (.ld 1 false (.t 23)),
ia 25 (.ixa 14 1 false (.t 22) (.t 24)),
ia 2 (.mv (.t 25))]) .ret) .skip))))))) (.seq (.reg [
  ia 2 (.mv (ci 0))]) .ret))), [(.tmp 2)]⟩
theorem cc37 : ccF Tryz.prog [(46, [0, 0]), (57, [1, 0]), (81, [0, 0]), (46, [9]), (68, [8]), (70, [8]), (54, [8]), (69, [8]), (58, [8])] Tryz.f37 = some (stripF F37) := by kernel_rfl
def F38 : FnC := ⟨2, (.seq (.reg [
  ia 2 (.box 2 (.t 0)),
ia 3 (.box 2 (.t 1)),
ia 4 (.mv (.c (.a (.p (.b false)))))]) (.seq (.reg [
  ir 6 (.fad 0 (.t 2)),
ir 7 (.ld 1 false (.t 6)),
ir 8 (.fad 0 (.t 3)),
ir 9 (.ld 1 false (.t 8)),
ir 10 (.ias 6 (.t 7) (.t 9)),
ir 11 (.fad 5 (.t 10)),
ir 12 (.ld 1 false (.t 11)),
ir 13 (.fad 1 (.t 3)),
ir 14 (.ld 1 false (.t 13)),
ir 15 (.ias 2 (.t 12) (.t 14)),
ir 16 (.ld 2 true (.t 15)),
⟨(.some 5), .none, (.new [(.p (.i .i64 0)), (.p (.i .i64 0))]), .ad⟩,
io (.st 2 (.t 5) (.t 16))]) (.seq (.seq (.reg [
  ir 17 (.ld 2 true (.t 5)),
ir 18 (.ld 2 true (.t 3)),
ia 19 (.eqg false [0, 0] (.t 17) (.t 18)),
ia 20 (.mv (.t 19)),
ih 21 20 false (.fad 0 (.t 5)),
ih 22 20 false (.ld 1 false (.t 21)),
ih 23 20 false (.fad 0 (.t 2)),
ih 24 20 false (.ld 1 false (.t 23)),
ih 25 20 false (.len false (.t 24)),
ih 26 20 false (.bin .sub (.t 25) (ci 1)),
ig 27 20 false (.call (.f 35) [(.t 22), (ci 0), (.t 26)]),
ig 28 20 false (.not (.t 27)),
ia 29 (.pick (.t 20) (.c (.a (.p (.b true)))) (.t 28)),
ia 30 (.mv (.t 29)),
ih 31 30 false (.fad 1 (.t 5)),
ih 32 30 false (.ld 1 false (.t 31)),
ih 33 30 false (.fad 0 (.t 2)),
ih 34 30 false (.ld 1 false (.t 33)),
ih 35 30 false (.fad 0 (.t 5)),
ih 36 30 false (.ld 1 false (.t 35)),
ih 37 30 false (.ias 6 (.t 34) (.t 36)),
ih 38 30 false (.fad 5 (.t 37)),
ih 39 30 false (.ld 1 false (.t 38)),
ih 40 30 false (.len false (.t 39)),
ih 41 30 false (.bin .sub (.t 40) (ci 1)),
ig 42 30 false (.call (.f 35) [(.t 32), (ci 0), (.t 41)]),
ig 43 30 false (.not (.t 42)),
ia 44 (.pick (.t 30) (.c (.a (.p (.b true)))) (.t 43))]) (.cond (.t 44) (.seq (.reg [
  ia 4 (.mv (.c (.a (.p (.b false)))))]) .ret) .skip)) (.seq (.reg [
  ir 45 (.fad 0 (.t 2)),
ir 46 (.ld 1 false (.t 45)),
ir 47 (.fad 0 (.t 5)),
ir 48 (.ld 1 false (.t 47)),
ir 49 (.ias 6 (.t 46) (.t 48)),
ir 50 (.fad 5 (.t 49)),
ir 51 (.ld 1 false (.t 50)),
ir 52 (.fad 1 (.t 5)),
ir 53 (.ld 1 false (.t 52)),
ir 54 (.ias 2 (.t 51) (.t 53)),
ir 55 (.ld 2 true (.t 54)),
ir 56 (.ld 2 true (.t 3)),
ia 57 (.eqg false [0, 0] (.t 55) (.t 56)),
ia 4 (.mv (.t 57))]) .ret)))), [(.tmp 4)]⟩
theorem cc38 : ccF Tryz.prog [(46, [0, 0]), (57, [1, 0]), (81, [0, 0]), (46, [9]), (68, [8]), (70, [8]), (54, [8]), (69, [8]), (58, [8])] Tryz.f38 = some (stripF F38) := by kernel_rfl
def F39 : FnC := ⟨2, (.seq (.reg [
  ia 2 (.box 2 (.t 0)),
ia 3 (.box 2 (.t 1)),
ia 4 (.new [(.p (.i .i64 0)), (.p (.i .i64 0))]),
ia 5 (.mv (ci 0))]) (.seq (.reg [
  ia 7 (.ld 2 true (.t 2)),
ia 8 (.build [.nil, (.p (.i .i64 0))] [(0, (2, (.t 7)))]),
ia 6 (.new [.nil, (.p (.i .i64 0))]),
io (.st 2 (.t 6) (.t 8))]) (.seq (.seq (.reg [
  ia 9 (.ld 2 true (.t 6)),
ia 10 (.ld 2 true (.t 3)),
ia 11 (.bsl 2 46 [(.p (.i .i64 0)), (.p (.i .i64 0))] 1 [(0, (.t 10))]),
ia 12 (.call (.f 63) [(.t 9), (.t 11)]),
ia 13 (.not (.t 12))]) (.cond (.t 13) (.seq (.reg [
  ia 14 (.build [(.p (.i .i64 0)), (.p (.i .i64 0))] []),
io (.st 2 (.t 4) (.t 14)),
ia 5 (.mv (ci 130))]) .ret) .skip)) (.seq (.reg [
  ia 15 (.ld 2 true (.t 6)),
ia 16 (.ld 2 true (.t 3)),
ia 17 (.call (.f 64) [(.t 15), (.t 16)]),
io (.st 2 (.t 4) (.t 17)),
ia 5 (.mv (ci 0))]) .ret)))), [(.cell 4 2 true), (.tmp 5)]⟩
theorem cc39 : ccF Tryz.prog [(46, [0, 0]), (57, [1, 0]), (81, [0, 0]), (46, [9]), (68, [8]), (70, [8]), (54, [8]), (69, [8]), (58, [8])] Tryz.f39 = some (stripF F39) := by kernel_rfl
def F40 : FnC := ⟨2, (.seq (.reg [
  ia 4 (.new [(.p (.i .i64 0)), (.p (.i .i64 0))])]) (.seq (.reg [
  ia 5 (.mv (.t 0)),
ia 6 (.mv (.t 1)),
ia 7 (.build [(.p (.i .i64 0)), (.p (.i .i64 0))] [(0, (1, (.t 5))), (1, (1, (.t 6)))]),
io (.st 2 (.t 4) (.t 7))]) .ret)), [(.cell 4 2 true)]⟩
theorem cc40 : ccF Tryz.prog [(46, [0, 0]), (57, [1, 0]), (81, [0, 0]), (46, [9]), (68, [8]), (70, [8]), (54, [8]), (69, [8]), (58, [8])] Tryz.f40 = some (stripF F40) := by kernel_rfl
def F41 : FnC := ⟨4, (.seq (.reg [
  ia 6 (.mv (.c (.a (.p (.b false)))))]) (.seq (.reg [
  ia 7 (.fad 0 (.t 2)),
ia 8 (.ld 1 false (.t 7)),
ia 9 (.call (.f 42) [(.t 8)]),
ia 10 (.mv (.t 0)),
ia 11 (.bin .eql (.t 9) (.t 10)),
ia 12 (.mv (.t 11)),
ig 13 12 true (.fad 0 (.t 3)),
ig 14 12 true (.ld 1 false (.t 13)),
ig 15 12 true (.call (.f 42) [(.t 14)]),
ig 16 12 true (.mv (.t 1)),
ig 17 12 true (.bin .eql (.t 15) (.t 16)),
ia 18 (.pick (.t 12) (.t 17) (.c (.a (.p (.b false))))),
ia 6 (.mv (.t 18))]) .ret)), [(.tmp 6)]⟩
theorem cc41 : ccF Tryz.prog [(46, [0, 0]), (57, [1, 0]), (81, [0, 0]), (46, [9]), (68, [8]), (70, [8]), (54, [8]), (69, [8]), (58, [8])] Tryz.f41 = some (stripF F41) := by kernel_rfl
def F42 : FnC := ⟨1, (.seq (.reg [
  ia 2 (.mv (ci 0))]) (.seq (.seq (.reg [
  ia 3 (.mv (.t 0))]) (.block 0 (.seq (.seq (.reg [
  ia 5 (.bin .eql (.t 3) (ci 3)),
ia 4 (.mv (.t 5))]) (.cond (.t 4) .skip (.seq (.reg [
  ia 6 (.bin .eql (.t 3) (ci 9)),
ia 4 (.mv (.t 6))]) (.cond (.t 4) .skip (.seq (.reg [
  ia 7 (.bin .eql (.t 3) (ci 11)),
ia 4 (.mv (.t 7))]) (.cond (.t 4) .skip (.reg [
  ia 8 (.bin .eql (.t 3) (ci 12)),
ia 4 (.mv (.t 8))]))))))) (.cond (.t 4) (.seq (.reg [
  ia 2 (.mv (ci 1))]) .ret) (.seq (.seq (.reg [
  ia 10 (.bin .eql (.t 3) (ci 2)),
ia 9 (.mv (.t 10))]) (.cond (.t 9) .skip (.seq (.reg [
  ia 11 (.bin .eql (.t 3) (ci 8)),
ia 9 (.mv (.t 11))]) (.cond (.t 9) .skip (.seq (.reg [
  ia 12 (.bin .eql (.t 3) (ci 10)),
ia 9 (.mv (.t 12))]) (.cond (.t 9) .skip (.reg [
  ia 13 (.bin .eql (.t 3) (ci 13)),
ia 9 (.mv (.t 13))]))))))) (.cond (.t 9) (.seq (.reg [
  ia 2 (.mv (ci 2))]) .ret) (.seq (.seq (.reg [
  ia 15 (.bin .eql (.t 3) (ci 4)),
ia 14 (.mv (.t 15))]) (.cond (.t 14) .skip (.seq (.reg [
  ia 16 (.bin .eql (.t 3) (ci 5)),
ia 14 (.mv (.t 16))]) (.cond (.t 14) .skip (.reg [
  ia 17 (.bin .eql (.t 3) (ci 6)),
ia 14 (.mv (.t 17))]))))) (.cond (.t 14) (.seq (.reg [
  ia 2 (.mv (ci 3))]) .ret) (.seq (.reg [
  ia 19 (.bin .eql (.t 3) (ci 7)),
ia 18 (.mv (.t 19))]) (.cond (.t 18) (.seq (.reg [
  ia 2 (.mv (ci 4))]) .ret) .skip)))))))))) (.seq (.reg [
  ia 2 (.mv (ci 0))]) .ret))), [(.tmp 2)]⟩
theorem cc42 : ccF Tryz.prog [(46, [0, 0]), (57, [1, 0]), (81, [0, 0]), (46, [9]), (68, [8]), (70, [8]), (54, [8]), (69, [8]), (58, [8])] Tryz.f42 = some (stripF F42) := by kernel_rfl
def F43 : FnC := ⟨3, (.seq (.reg [
  ia 4 (.mv (.c (.a (.p (.b false)))))]) (.seq (.reg [
  ia 5 (.fad 0 (.t 1)),
ia 6 (.ld 1 false (.t 5)),
ia 7 (.call (.f 42) [(.t 6)]),
ia 8 (.mv (.t 0)),
ia 9 (.bin .eql (.t 7) (.t 8)),
ia 10 (.mv (.t 9)),
ig 11 10 false (.fad 0 (.t 2)),
ig 12 10 false (.ld 1 false (.t 11)),
ig 13 10 false (.call (.f 42) [(.t 12)]),
ig 14 10 false (.mv (.t 0)),
ig 15 10 false (.bin .eql (.t 13) (.t 14)),
ia 16 (.pick (.t 10) (.c (.a (.p (.b true)))) (.t 15)),
ia 4 (.mv (.t 16))]) .ret)), [(.tmp 4)]⟩
theorem cc43 : ccF Tryz.prog [(46, [0, 0]), (57, [1, 0]), (81, [0, 0]), (46, [9]), (68, [8]), (70, [8]), (54, [8]), (69, [8]), (58, [8])] Tryz.f43 = some (stripF F43) := by kernel_rfl
def F44 : FnC := ⟨1, (.seq (.reg [
  ia 2 (.new [(.p (.i .i64 0)), (.p (.b false)), (.p (.i .i64 0)), (.p (.i .i64 0)), (.p (.i .i64 0)), (.p (.i .i64 0)), (.p (.i .i64 0)), (.p (.s [])), .nil, .nil]),
ia 3 (.mv (ci 0))]) (.seq (.reg [
  ia 4 (.mv (.t 0)),
ia 5 (.build [(.p (.i .i64 0)), (.p (.b false)), (.p (.i .i64 0)), (.p (.i .i64 0)), (.p (.i .i64 0)), (.p (.i .i64 0)), (.p (.i .i64 0)), (.p (.s [])), .nil, .nil] [(0, (1, (.t 4)))]),
io (.st 10 (.t 2) (.t 5)),
ia 3 (.mv (ci 0))]) .ret)), [(.cell 2 10 true), (.tmp 3)]⟩
theorem cc44 : ccF Tryz.prog [(46, [0, 0]), (57, [1, 0]), (81, [0, 0]), (46, [9]), (68, [8]), (70, [8]), (54, [8]), (69, [8]), (58, [8])] Tryz.f44 = some (stripF F44) := by kernel_rfl
def F45 : FnC := ⟨2, (.seq (.reg [
  ia 2 (.box 10 (.t 0)),
ia 4 (.new [(.p (.i .i64 0)), (.p (.b false)), (.p (.i .i64 0)), (.p (.i .i64 0)), (.p (.i .i64 0)), (.p (.i .i64 0)), (.p (.i .i64 0)), (.p (.s [])), .nil, .nil]),
ia 5 (.mv (ci 0))]) (.seq (.seq (.reg [
  ia 6 (.mv (.t 1)),
ia 7 (.bin .eql (.t 6) (ci 0))]) (.cond (.t 7) (.reg [
  ia 8 (.fad 1 (.t 2)),
io (.st 1 (.t 8) (.c (.a (.p (.b true)))))]) .skip)) (.seq (.reg [
  ia 9 (.ld 10 true (.t 2)),
ia 10 (.mv (.t 1)),
io (.st 10 (.t 4) (.t 9)),
ia 5 (.mv (.t 10))]) .ret))), [(.cell 4 10 true), (.tmp 5)]⟩
theorem cc45 : ccF Tryz.prog [(46, [0, 0]), (57, [1, 0]), (81, [0, 0]), (46, [9]), (68, [8]), (70, [8]), (54, [8]), (69, [8]), (58, [8])] Tryz.f45 = some (stripF F45) := by kernel_rfl
def F46 : FnC := ⟨2, (.seq (.reg [
  ia 2 (.box 6 (.t 0)),
ia 3 (.box 6 (.t 1)),
ia 4 (.new [(.p (.i .i64 0)), (.p (.b false)), (.p (.i .i64 0)), (.p (.i .i64 0)), (.p (.i .i64 0)), (.p (.i .i64 0)), (.p (.i .i64 0)), (.p (.s [])), .nil, .nil]),
ia 5 (.mv (ci 0))]) (.seq (.reg [
  ia 7 (.fad 1 (.t 3)),
ia 8 (.ld 1 false (.t 7)),
ia 9 (.build [(.p (.i .i64 0)), (.p (.b false)), (.p (.i .i64 0)), (.p (.i .i64 0)), (.p (.i .i64 0)), (.p (.i .i64 0)), (.p (.i .i64 0)), (.p (.s [])), .nil, .nil] [(0, (1, (ci 7))), (2, (1, (.t 8)))]),
ia 6 (.new [(.p (.i .i64 0)), (.p (.b false)), (.p (.i .i64 0)), (.p (.i .i64 0)), (.p (.i .i64 0)), (.p (.i .i64 0)), (.p (.i .i64 0)), (.p (.s [])), .nil, .nil]),
io (.st 10 (.t 6) (.t 9))]) (.seq (.seq (.reg [
  ia 10 (.fad 0 (.t 2)),
ia 11 (.ld 1 false (.t 10))]) (.block 0 (.seq (.reg [
  ia 13 (.bin .eql (.t 11) (ci 5)),
ia 12 (.mv (.t 13))]) (.cond (.t 12) (.reg [
  ia 14 (.fad 2 (.t 6)),
ia 15 (.ld 1 false (.t 14)),
ia 16 (.bin .sub (.t 15) (ci 1)),
ia 17 (.fad 2 (.t 6)),
io (.st 1 (.t 17) (.t 16))]) (.seq (.reg [
  ia 19 (.bin .eql (.t 11) (ci 6)),
ia 18 (.mv (.t 19))]) (.cond (.t 18) (.reg [
  ia 20 (.fad 2 (.t 6)),
ia 21 (.ld 1 false (.t 20)),
ia 22 (.bin .add (.t 21) (ci 1)),
ia 23 (.fad 2 (.t 6)),
io (.st 1 (.t 23) (.t 22))]) .skip)))))) (.seq (.block 1 (.seq (.reg [
  ia 25 (.fad 1 (.t 2)),
ia 26 (.ld 1 false (.t 25)),
ia 27 (.fad 1 (.t 3)),
ia 28 (.ld 1 false (.t 27)),
ia 29 (.bin .geq (.t 26) (.t 28)),
ia 24 (.mv (.t 29))]) (.cond (.t 24) (.seq (.reg [
  ia 30 (.build [(.p (.i .i64 0)), (.p (.b false)), (.p (.i .i64 0)), (.p (.i .i64 0)), (.p (.i .i64 0)), (.p (.i .i64 0)), (.p (.i .i64 0)), (.p (.s [])), .nil, .nil] []),
io (.st 10 (.t 4) (.t 30)),
ia 5 (.mv (ci 140))]) .ret) (.seq (.reg [
  ia 32 (.fad 2 (.t 6)),
ia 33 (.ld 1 false (.t 32)),
ia 34 (.bin .gtr (.t 33) (ci 60)),
ia 31 (.mv (.t 34))]) (.cond (.t 31) (.seq (.reg [
  ia 35 (.build [(.p (.i .i64 0)), (.p (.b false)), (.p (.i .i64 0)), (.p (.i .i64 0)), (.p (.i .i64 0)), (.p (.i .i64 0)), (.p (.i .i64 0)), (.p (.s [])), .nil, .nil] []),
io (.st 10 (.t 4) (.t 35)),
ia 5 (.mv (ci 141))]) .ret) .skip))))) (.seq (.reg [
  ia 36 (.ld 10 true (.t 6)),
io (.st 10 (.t 4) (.t 36)),
ia 5 (.mv (ci 0))]) .ret))))), [(.cell 4 10 true), (.tmp 5)]⟩
theorem cc46 : ccF Tryz.prog [(46, [0, 0]), (57, [1, 0]), (81, [0, 0]), (46, [9]), (68, [8]), (70, [8]), (54, [8]), (69, [8]), (58, [8])] Tryz.f46 = some (stripF F46) := by kernel_rfl
def F47 : FnC := ⟨2, (.seq (.reg [
  ia 2 (.box 6 (.t 0)),
ia 3 (.box 6 (.t 1)),
ia 4 (.new [(.p (.i .i64 0)), (.p (.b false)), (.p (.i .i64 0)), (.p (.i .i64 0)), (.p (.i .i64 0)), (.p (.i .i64 0)), (.p (.i .i64 0)), (.p (.s [])), .nil, .nil]),
ia 5 (.mv (ci 0))]) (.seq (.seq (.reg [
  ia 7 (.fad 0 (.t 2)),
ia 8 (.ld 1 false (.t 7)),
ia 9 (.fad 0 (.t 3)),
ia 10 (.ld 1 false (.t 9)),
ia 11 (.build [(.p (.i .i64 0)), (.p (.i .i64 0))] [(0, (1, (.t 8))), (1, (1, (.t 10)))]),
ia 6 (.new [(.p (.i .i64 0)), (.p (.i .i64 0))]),
io (.st 2 (.t 6) (.t 11))]) (.block 0 (.seq (.reg [
  ia 13 (.ld 2 true (.t 6)),
ia 14 (.build [(.p (.i .i64 0)), (.p (.i .i64 0))] [(0, (1, (ci 3))), (1, (1, (ci 2)))]),
ia 15 (.eqg false [0, 0] (.t 13) (.t 14)),
ia 12 (.mv (.t 15))]) (.cond (.t 12) (.seq (.seq (.reg [
  ia 16 (.fad 1 (.t 2)),
ia 17 (.ld 1 false (.t 16)),
ia 18 (.fad 1 (.t 3)),
ia 19 (.ld 1 false (.t 18)),
ia 20 (.bin .neq (.t 17) (.t 19))]) (.cond (.t 20) (.seq (.reg [
  ia 21 (.build [(.p (.i .i64 0)), (.p (.b false)), (.p (.i .i64 0)), (.p (.i .i64 0)), (.p (.i .i64 0)), (.p (.i .i64 0)), (.p (.i .i64 0)), (.p (.s [])), .nil, .nil] []),
io (.st 10 (.t 4) (.t 21)),
ia 5 (.mv (ci 140))]) .ret) .skip)) (.seq (.reg [
  ia 22 (.call (.f 44) [(ci 1)]),
ia 23 (.ext (.t 22) 0),
ia 24 (.ext (.t 22) 1),
io (.st 10 (.t 4) (.t 23)),
ia 5 (.mv (.t 24))]) .ret)) (.seq (.reg [
  ia 26 (.ld 2 true (.t 6)),
ia 27 (.build [(.p (.i .i64 0)), (.p (.i .i64 0))] [(0, (1, (ci 9))), (1, (1, (ci 8)))]),
ia 28 (.eqg false [0, 0] (.t 26) (.t 27)),
ia 25 (.mv (.t 28))]) (.cond (.t 25) (.seq (.reg [
  ia 29 (.ld 6 true (.t 2)),
ia 30 (.ld 6 true (.t 3)),
ia 31 (.call (.f 65) [(.t 29), (.t 30)]),
ia 32 (.ext (.t 31) 0),
ia 33 (.ext (.t 31) 1),
io (.st 10 (.t 4) (.t 32)),
ia 5 (.mv (.t 33))]) .ret) (.seq (.reg [
  ia 35 (.ld 2 true (.t 6)),
ia 36 (.build [(.p (.i .i64 0)), (.p (.i .i64 0))] [(0, (1, (ci 11))), (1, (1, (ci 10)))]),
ia 37 (.eqg false [0, 0] (.t 35) (.t 36)),
ia 34 (.mv (.t 37))]) (.cond (.t 34) (.seq (.reg [
  ia 38 (.call (.f 44) [(ci 3)]),
ia 39 (.ext (.t 38) 0),
ia 40 (.ext (.t 38) 1),
io (.st 10 (.t 4) (.t 39)),
ia 5 (.mv (.t 40))]) .ret) (.seq (.reg [
  ia 42 (.ld 2 true (.t 6)),
ia 43 (.build [(.p (.i .i64 0)), (.p (.i .i64 0))] [(0, (1, (ci 12))), (1, (1, (ci 10)))]),
ia 44 (.eqg false [0, 0] (.t 42) (.t 43)),
ia 41 (.mv (.t 44))]) (.cond (.t 41) (.seq (.reg [
  ia 45 (.ld 6 true (.t 2)),
ia 46 (.ld 6 true (.t 3)),
ia 47 (.call (.f 66) [(.t 45), (.t 46)]),
ia 48 (.ext (.t 47) 0),
ia 49 (.ext (.t 47) 1),
io (.st 10 (.t 4) (.t 48)),
ia 5 (.mv (.t 49))]) .ret) .skip)))))))))) (.seq (.reg [
  ia 50 (.call (.f 44) [(ci 5)]),
ia 51 (.ext (.t 50) 0),
ia 52 (.ext (.t 50) 1),
io (.st 10 (.t 4) (.t 51)),
ia 5 (.mv (.t 52))]) .ret))), [(.cell 4 10 true), (.tmp 5)]⟩
theorem cc47 : ccF Tryz.prog [(46, [0, 0]), (57, [1, 0]), (81, [0, 0]), (46, [9]), (68, [8]), (70, [8]), (54, [8]), (69, [8]), (58, [8])] Tryz.f47 = some (stripF F47) := by kernel_rfl
def F48 : FnC := ⟨1, (.seq (.reg [
  ia 1 (.box 6 (.t 0)),
ia 2 (.mv (.c (.a (.p (.b false)))))]) (.seq (.reg [
  ia 3 (.fad 0 (.t 1)),
ia 4 (.ld 1 false (.t 3)),
ia 5 (.bin .eql (.t 4) (ci 0)),
ia 2 (.mv (.t 5))]) .ret)), [(.tmp 2)]⟩
theorem cc48 : ccF Tryz.prog [(46, [0, 0]), (57, [1, 0]), (81, [0, 0]), (46, [9]), (68, [8]), (70, [8]), (54, [8]), (69, [8]), (58, [8])] Tryz.f48 = some (stripF F48) := by kernel_rfl
def F49 : FnC := ⟨1, (.seq (.reg [
  ia 1 (.box 6 (.t 0)),
ia 2 (.mv (ci 0))]) (.seq (.reg [
  ia 3 (.fad 5 (.t 1)),
ia 4 (.ld 1 false (.t 3)),
ia 5 (.len false (.t 4)),
ia 6 (.bin .sub (.t 5) (ci 1)),
ia 7 (.mx (.t 6) (ci 0)),
ia 2 (.mv (.t 7))]) .ret)), [(.tmp 2)]⟩
theorem cc49 : ccF Tryz.prog [(46, [0, 0]), (57, [1, 0]), (81, [0, 0]), (46, [9]), (68, [8]), (70, [8]), (54, [8]), (69, [8]), (58, [8])] Tryz.f49 = some (stripF F49) := by kernel_rfl
def F50b0 : C := (.seq (.reg [
  ia 11 (.bin .lss (.t 10) (.t 9))]) (.seq (.cond (.t 11) .skip (.exit 0)) (.seq (.block 1 (.seq (.reg [
  ia 12 (.mv (.t 10)),
ia 2 (.mv (.t 12))]) (.reg [
  ir 13 (.mv (.t 0)),
ir 14 (.mv (.t 0)),
ir 15 (.nck (.t 14)),
ir 16 (.fad 12 (.t 15)),
ir 17 (.ld 1 false (.t 16)),
ir 18 (.mv (.t 2)),
ir 19 (.bin .add (.t 18) (ci 1)),
ir 20 (.call (.f 40) [(.t 17), (.t 19)]),
ir 21 (.mv (.t 0)),
ir 22 (.nck (.t 21)),
ir 23 (.fad 13 (.t 22)),
ir 24 (.ld 1 false (.t 23)),
ir 25 (.mv (.t 2)),
ir 26 (.bin .add (.t 25) (ci 1)),
ir 27 (.call (.f 40) [(.t 24), (.t 26)]),
ia 28 (.call (.f 67) [(.t 13), (.t 20), (.t 27)])]))) (.reg [
  ia 29 (.bin .add (.t 10) (ci 1)),
ia 10 (.mv (.t 29))]))))
def F50 : FnC := ⟨1, (.seq (.reg [
  ia 3 (.mv (.t 0)),
ia 4 (.mv (.t 0)),
ia 5 (.nck (.t 4)),
ia 6 (.fad 12 (.t 5)),
ia 7 (.ld 1 false (.t 6)),
ia 8 (.call (.f 58) [(.t 3), (.t 7), (ci 1)]),
ia 9 (.len false (.t 8)),
ia 10 (.mv (ci 0))]) (.block 0 (.loop F50b0))), []⟩
theorem cc50 : ccF Tryz.prog [(46, [0, 0]), (57, [1, 0]), (81, [0, 0]), (46, [9]), (68, [8]), (70, [8]), (54, [8]), (69, [8]), (58, [8])] Tryz.f50 = some (stripF F50) := by kernel_rfl
def F51b0 : C := (.seq (.reg [
  ia 51 (.bin .lss (.t 50) (.t 49))]) (.seq (.cond (.t 51) .skip (.exit 0)) (.seq (.block 1 (.seq (.reg [
  ia 52 (.ias 2 (.t 48) (.t 50)),
ia 53 (.ld 2 true (.t 52)),
ia 7 (.new [(.p (.i .i64 0)), (.p (.i .i64 0))]),
io (.st 2 (.t 7) (.t 53))]) (.seq (.reg [
  ia 54 (.ld 2 true (.t 7)),
ia 55 (.ld 2 true (.t 3)),
ia 56 (.eqg true [0, 0] (.t 54) (.t 55))]) (.cond (.t 56) (.reg [
  ia 57 (.mv (.t 5)),
ia 58 (.ld 2 true (.t 7)),
ia 59 (.bsl 2 46 [(.p (.i .i64 0)), (.p (.i .i64 0))] 1 [(0, (.t 58))]),
ia 60 (.app 2 46 16 (.t 57) (.t 59)),
ia 5 (.mv (.t 60))]) .skip)))) (.reg [
  ia 61 (.bin .add (.t 50) (ci 1)),
ia 50 (.mv (.t 61))]))))
def F51b1 : C := (.seq (.reg [
  ia 85 (.bin .lss (.t 84) (.t 83))]) (.seq (.cond (.t 85) .skip (.exit 2)) (.seq (.block 3 (.seq (.reg [
  ia 86 (.mv (.t 84)),
ia 87 (.ias 1 (.t 82) (.t 84)),
ia 88 (.ld 1 false (.t 87)),
ia 9 (.mv (.t 86)),
ia 10 (.mv (.t 88))]) (.seq (.reg [
  ia 89 (.mv (.t 0)),
ia 90 (.mv (.t 0)),
ia 91 (.nck (.t 90)),
ia 92 (.fad 13 (.t 91)),
ia 93 (.ld 1 false (.t 92)),
ia 94 (.mv (.t 9)),
ia 95 (.bin .add (.t 94) (ci 1)),
ia 96 (.call (.f 40) [(.t 93), (.t 95)]),
ia 97 (.mv (.t 10)),
ia 98 (.call (.f 40) [(.t 97), (ci 2)]),
ia 99 (.call (.f 53) [(.t 89), (.t 96), (.t 98)])]) (.seq (.reg [
  ia 100 (.mv (.t 9)),
ia 101 (.bin .add (.t 100) (ci 1)),
ia 102 (.mv (.t 2)),
ia 103 (.bin .lss (.t 101) (.t 102))]) (.cond (.t 103) (.reg [
  ir 104 (.mv (.t 0)),
ir 105 (.mv (.t 10)),
ir 106 (.call (.f 40) [(.t 105), (ci 1)]),
ir 107 (.mv (.t 4)),
ir 108 (.mv (.t 9)),
ir 109 (.bin .add (.t 108) (ci 1)),
ir 110 (.ias 1 (.t 107) (.t 109)),
ir 111 (.ld 1 false (.t 110)),
ir 112 (.call (.f 40) [(.t 111), (ci 0)]),
ia 113 (.call (.f 71) [(.t 104), (.t 106), (.t 112)])]) (.reg [
  ia 114 (.mv (.t 0)),
ia 115 (.mv (.t 0)),
ia 116 (.nck (.t 115)),
ia 117 (.fad 12 (.t 116)),
ia 118 (.ld 1 false (.t 117)),
ia 119 (.call (.f 40) [(.t 118), (ci 1)]),
ia 120 (.mv (.t 10)),
ia 121 (.call (.f 40) [(.t 120), (ci 1)]),
ia 122 (.call (.f 53) [(.t 114), (.t 119), (.t 121)])])))))) (.reg [
  ia 123 (.bin .add (.t 84) (ci 1)),
ia 84 (.mv (.t 123))]))))
def F51 : FnC := ⟨1, (.seq (.reg [
  ir 11 (.mv (.t 0)),
ir 12 (.mv (.t 0)),
ir 13 (.nck (.t 12)),
ir 14 (.fad 12 (.t 13)),
ir 15 (.ld 1 false (.t 14)),
ir 18 (.mv (.t 0)),
ir 19 (.nck (.t 18)),
ir 20 (.fad 2 (.t 19)),
ir 21 (.fad 3 (.t 20)),
ir 22 (.ld 1 false (.t 21)),
ir 26 (.mv (.t 0)),
ir 27 (.nck (.t 26)),
ir 28 (.fad 12 (.t 27)),
ir 29 (.ld 1 false (.t 28)),
ir 30 (.mv (.t 0)),
ir 31 (.nck (.t 30)),
ir 32 (.fad 2 (.t 31)),
ir 33 (.fad 3 (.t 32)),
ir 34 (.ld 1 false (.t 33)),
ir 35 (.bin .add (.t 34) (ci 2)),
⟨(.some 3), .none, (.new [(.p (.i .i64 0)), (.p (.i .i64 0))]), .ad⟩,
⟨(.some 16), .none, (.call (.f 68) [(.t 11), (.t 15)]), (.cl [(1, 21), (1, 28), (1, 33)] [3])⟩,
ir 17 (.fld 4 1 false (.t 16)),
ir 23 (.ias 2 (.t 17) (.t 22)),
ir 24 (.fad 1 (.t 23)),
ir 25 (.ld 1 false (.t 24)),
ir 36 (.call (.f 40) [(.t 29), (.t 35)]),
ia 2 (.mv (.t 25)),
io (.st 2 (.t 3) (.t 36))]) (.seq (.reg [
  ia 37 (.mv (.t 0)),
ia 38 (.mv (.t 0)),
ia 39 (.call (.f 70) [(.t 38)]),
ia 40 (.build [(.p (.i .i64 0)), (.p (.i .i64 0)), (.p (.i .i64 0)), (.p (.s [])), .nil, .nil] [(0, (1, (ci 3))), (1, (1, (.t 39)))]),
ia 41 (.mv (.t 2)),
ia 42 (.call (.f 69) [(.t 37), (.t 40), (.t 41)]),
ia 4 (.mv (.t 42))]) (.seq (.reg [
  ia 5 (.mv (.c (.a .nil)))]) (.seq (.seq (.reg [
  ia 43 (.mv (.t 0)),
ia 44 (.mv (.t 0)),
ia 45 (.nck (.t 44)),
ia 46 (.fad 12 (.t 45)),
ia 47 (.ld 1 false (.t 46)),
ia 48 (.call (.f 58) [(.t 43), (.t 47), (ci 2)]),
ia 49 (.len false (.t 48)),
ia 50 (.mv (ci 0))]) (.block 0 (.loop F51b0))) (.seq (.reg [
  ia 62 (.mv (.t 0)),
ia 63 (.mv (.t 5)),
ia 64 (.call (.f 57) [(.t 62), (.t 63)]),
ia 8 (.mv (.t 64))]) (.seq (.seq (.reg [
  ia 65 (.mv (.t 2)),
ia 66 (.bin .eql (.t 65) (ci 0))]) (.cond (.t 66) (.reg [
  ir 67 (.mv (.t 0)),
ir 68 (.ld 2 true (.t 3)),
ir 69 (.mv (.t 0)),
ir 70 (.nck (.t 69)),
ir 71 (.fad 12 (.t 70)),
ir 72 (.ld 1 false (.t 71)),
ir 73 (.call (.f 40) [(.t 72), (ci 1)]),
ia 74 (.call (.f 67) [(.t 67), (.t 68), (.t 73)])]) (.reg [
  ir 75 (.mv (.t 0)),
ir 76 (.ld 2 true (.t 3)),
ir 77 (.mv (.t 4)),
ir 78 (.ias 1 (.t 77) (ci 0)),
ir 79 (.ld 1 false (.t 78)),
ir 80 (.call (.f 40) [(.t 79), (ci 0)]),
ia 81 (.call (.f 53) [(.t 75), (.t 76), (.t 80)])]))) (.seq (.seq (.reg [
  ia 82 (.mv (.t 4)),
ia 83 (.len false (.t 82)),
ia 84 (.mv (ci 0))]) (.block 2 (.loop F51b1))) (.reg [
  ia 124 (.mv (.t 8)),
ia 125 (.call (.t 124) [])])))))))), []⟩
theorem cc51 : ccF Tryz.prog [(46, [0, 0]), (57, [1, 0]), (81, [0, 0]), (46, [9]), (68, [8]), (70, [8]), (54, [8]), (69, [8]), (58, [8])] Tryz.f51 = some (stripF F51) := by kernel_rfl
def F52 : FnC := ⟨1, (.seq (.reg [
  ia 4 (.mv (.t 0)),
ia 5 (.mv (.t 0)),
ia 6 (.nck (.t 5)),
ia 7 (.fad 12 (.t 6)),
ia 8 (.ld 1 false (.t 7)),
ia 9 (.call (.f 68) [(.t 4), (.t 8)]),
ia 2 (.new [(.p (.i .i64 0)), (.p (.i .i64 0)), (.p (.i .i64 0)), (.p (.s [])), .nil, .nil]),
io (.st 6 (.t 2) (.t 9))]) (.seq (.reg [
  ir 10 (.mv (.t 0)),
ir 11 (.fad 1 (.t 2)),
ir 12 (.ld 1 false (.t 11)),
ir 13 (.fad 3 (.t 2)),
ir 14 (.ld 1 false (.t 13)),
ir 15 (.mv (.t 0)),
ir 16 (.mv (.t 0)),
ir 17 (.nck (.t 16)),
ir 18 (.fad 13 (.t 17)),
ir 19 (.ld 1 false (.t 18)),
⟨(.some 20), .none, (.call (.f 68) [(.t 15), (.t 19)]), (.cl [(1, 11), (1, 13)] [])⟩,
ir 21 (.fld 2 1 false (.t 20)),
ir 22 (.build [(.p (.i .i64 0)), (.p (.i .i64 0)), (.p (.i .i64 0)), (.p (.s [])), .nil, .nil] [(0, (1, (ci 12))), (1, (1, (.t 12))), (3, (1, (.t 14))), (2, (1, (.t 21)))]),
ia 23 (.call (.f 54) [(.t 10), (.t 22)]),
ia 3 (.mv (.t 23))]) (.seq (.reg [
  ia 24 (.mv (.t 0)),
ia 25 (.mv (.t 0)),
ia 26 (.nck (.t 25)),
ia 27 (.fad 12 (.t 26)),
ia 28 (.ld 1 false (.t 27)),
ia 29 (.call (.f 40) [(.t 28), (ci 2)]),
ia 30 (.mv (.t 3)),
ia 31 (.call (.f 40) [(.t 30), (ci 0)]),
ia 32 (.call (.f 53) [(.t 24), (.t 29), (.t 31)])]) (.reg [
  ia 33 (.mv (.t 0)),
ia 34 (.mv (.t 0)),
ia 35 (.nck (.t 34)),
ia 36 (.fad 12 (.t 35)),
ia 37 (.ld 1 false (.t 36)),
ia 38 (.call (.f 40) [(.t 37), (ci 1)]),
ia 39 (.mv (.t 3)),
ia 40 (.call (.f 40) [(.t 39), (ci 1)]),
ia 41 (.call (.f 53) [(.t 33), (.t 38), (.t 40)])])))), []⟩
theorem cc52 : ccF Tryz.prog [(46, [0, 0]), (57, [1, 0]), (81, [0, 0]), (46, [9]), (68, [8]), (70, [8]), (54, [8]), (69, [8]), (58, [8])] Tryz.f52 = some (stripF F52) := by kernel_rfl
def tblA : List (FuncId × FnC) := [(3, F3), (4, F4), (5, F5), (6, F6), (7, F7), (8, F8), (9, F9), (10, F10), (11, F11), (12, F12), (13, F13), (14, F14), (15, F15), (16, F16), (17, F17), (18, F18), (19, F19), (20, F20), (21, F21), (22, F22), (23, F23), (24, F24), (25, F25), (26, F26), (27, F27), (28, F28), (29, F29), (30, F30), (31, F31), (32, F32), (33, F33), (34, F34), (35, F35), (36, F36), (37, F37), (38, F38), (39, F39), (40, F40), (41, F41), (42, F42), (43, F43), (44, F44), (45, F45), (46, F46), (47, F47), (48, F48), (49, F49), (50, F50), (51, F51), (52, F52)]
theorem tblOkA : ∀ x, x ∈ tblA → ∃ fn, Tryz.prog.funcs[x.1]? = some fn ∧ ccF Tryz.prog [(46, [0, 0]), (57, [1, 0]), (81, [0, 0]), (46, [9]), (68, [8]), (70, [8]), (54, [8]), (69, [8]), (58, [8])] fn = some (stripF x.2) := by
  intro x hx
  simp only [tblA, List.mem_cons, List.not_mem_nil, or_false] at hx
  rcases hx with rfl | rfl | rfl | rfl | rfl | rfl | rfl | rfl | rfl | rfl | rfl | rfl | rfl | rfl | rfl | rfl | rfl | rfl | rfl | rfl | rfl | rfl | rfl | rfl | rfl | rfl | rfl | rfl | rfl | rfl | rfl | rfl | rfl | rfl | rfl | rfl | rfl | rfl | rfl | rfl | rfl | rfl | rfl | rfl | rfl | rfl | rfl | rfl | rfl | rfl
  · exact ⟨_, Tryz.func3, cc3⟩
  · exact ⟨_, Tryz.func4, cc4⟩
  · exact ⟨_, Tryz.func5, cc5⟩
  · exact ⟨_, Tryz.func6, cc6⟩
  · exact ⟨_, Tryz.func7, cc7⟩
  · exact ⟨_, Tryz.func8, cc8⟩
  · exact ⟨_, Tryz.func9, cc9⟩
  · exact ⟨_, Tryz.func10, cc10⟩
  · exact ⟨_, Tryz.func11, cc11⟩
  · exact ⟨_, Tryz.func12, cc12⟩
  · exact ⟨_, Tryz.func13, cc13⟩
  · exact ⟨_, Tryz.func14, cc14⟩
  · exact ⟨_, Tryz.func15, cc15⟩
  · exact ⟨_, Tryz.func16, cc16⟩
  · exact ⟨_, Tryz.func17, cc17⟩
  · exact ⟨_, Tryz.func18, cc18⟩
  · exact ⟨_, Tryz.func19, cc19⟩
  · exact ⟨_, Tryz.func20, cc20⟩
  · exact ⟨_, Tryz.func21, cc21⟩
  · exact ⟨_, Tryz.func22, cc22⟩
  · exact ⟨_, Tryz.func23, cc23⟩
  · exact ⟨_, Tryz.func24, cc24⟩
  · exact ⟨_, Tryz.func25, cc25⟩
  · exact ⟨_, Tryz.func26, cc26⟩
  · exact ⟨_, Tryz.func27, cc27⟩
  · exact ⟨_, Tryz.func28, cc28⟩
  · exact ⟨_, Tryz.func29, cc29⟩
  · exact ⟨_, Tryz.func30, cc30⟩
  · exact ⟨_, Tryz.func31, cc31⟩
  · exact ⟨_, Tryz.func32, cc32⟩
  · exact ⟨_, Tryz.func33, cc33⟩
  · exact ⟨_, Tryz.func34, cc34⟩
  · exact ⟨_, Tryz.func35, cc35⟩
  · exact ⟨_, Tryz.func36, cc36⟩
  · exact ⟨_, Tryz.func37, cc37⟩
  · exact ⟨_, Tryz.func38, cc38⟩
  · exact ⟨_, Tryz.func39, cc39⟩
  · exact ⟨_, Tryz.func40, cc40⟩
  · exact ⟨_, Tryz.func41, cc41⟩
  · exact ⟨_, Tryz.func42, cc42⟩
  · exact ⟨_, Tryz.func43, cc43⟩
  · exact ⟨_, Tryz.func44, cc44⟩
  · exact ⟨_, Tryz.func45, cc45⟩
  · exact ⟨_, Tryz.func46, cc46⟩
  · exact ⟨_, Tryz.func47, cc47⟩
  · exact ⟨_, Tryz.func48, cc48⟩
  · exact ⟨_, Tryz.func49, cc49⟩
  · exact ⟨_, Tryz.func50, cc50⟩
  · exact ⟨_, Tryz.func51, cc51⟩
  · exact ⟨_, Tryz.func52, cc52⟩
end Go.Proofs.YtomcceambpneiaaGreat
namespace Go.Proofs.YtomcceambpneiaaGreat
open Go.Fx
def F53 : FnC := ⟨3, (.seq (.reg [
  ia 4 (.box 2 (.t 1)),
ia 5 (.box 2 (.t 2))]) (.reg [
  ir 7 (.mv (.t 0)),
ir 8 (.mv (.t 0)),
ir 9 (.nck (.t 8)),
ir 10 (.fad 0 (.t 9)),
ir 11 (.ld 2 true (.t 10)),
ir 12 (.ld 2 true (.t 4)),
ir 13 (.ld 2 true (.t 5)),
ir 14 (.call (.f 72) [(.t 11), (.t 12), (.t 13)]),
ir 6 (.mv (.t 14)),
ir 15 (.ext (.t 6) 0),
ir 16 (.ext (.t 6) 1),
ir 17 (.nck (.t 7)),
ir 18 (.fad 0 (.t 17)),
⟨.none, .none, (.st 2 (.t 18) (.t 15)), (.wr [])⟩])), []⟩
theorem cc53 : ccF Tryz.prog [(46, [0, 0]), (57, [1, 0]), (81, [0, 0]), (46, [9]), (68, [8]), (70, [8]), (54, [8]), (69, [8]), (58, [8])] Tryz.f53 = some (stripF F53) := by kernel_rfl
def F54 : FnC := ⟨2, (.seq (.reg [
  ia 3 (.box 6 (.t 1)),
ia 4 (.mv (ci 0))]) (.seq (.reg [
  ia 5 (.mv (ci 0))]) (.seq (.reg [
  ir 7 (.mv (.t 0)),
ir 8 (.mv (.t 0)),
ir 9 (.nck (.t 8)),
ir 10 (.fad 0 (.t 9)),
ir 11 (.ld 2 true (.t 10)),
ir 12 (.ld 6 true (.t 3)),
ir 13 (.call (.f 73) [(.t 11), (.t 12)]),
ir 6 (.mv (.t 13)),
ir 14 (.ext (.t 6) 0),
ir 15 (.ext (.t 6) 1),
ir 16 (.ext (.t 6) 2),
ir 17 (.nck (.t 7)),
ir 18 (.fad 0 (.t 17)),
⟨.none, .none, (.st 2 (.t 18) (.t 14)), (.wr [])⟩,
ir 5 (.mv (.t 15))]) (.seq (.reg [
  ia 19 (.mv (.t 5)),
ia 4 (.mv (.t 19))]) .ret)))), [(.tmp 4)]⟩
theorem cc54 : ccF Tryz.prog [(46, [0, 0]), (57, [1, 0]), (81, [0, 0]), (46, [9]), (68, [8]), (70, [8]), (54, [8]), (69, [8]), (58, [8])] Tryz.f54 = some (stripF F54) := by kernel_rfl
def F55 : FnC := ⟨1, (.seq (.reg [
  ia 4 (.mv (.t 0)),
ia 5 (.mv (.t 0)),
ia 6 (.call (.f 70) [(.t 5)]),
ia 7 (.build [(.p (.i .i64 0)), (.p (.i .i64 0)), (.p (.i .i64 0)), (.p (.s [])), .nil, .nil] [(0, (1, (ci 13))), (1, (1, (.t 6)))]),
ia 8 (.call (.f 54) [(.t 4), (.t 7)]),
ia 2 (.mv (.t 8))]) (.seq (.reg [
  ir 9 (.mv (.t 0)),
ir 10 (.mv (.t 0)),
ir 11 (.mv (.t 0)),
ir 12 (.nck (.t 11)),
ir 13 (.fad 12 (.t 12)),
ir 14 (.ld 1 false (.t 13)),
ir 16 (.mv (.t 0)),
ir 17 (.mv (.t 0)),
ir 18 (.nck (.t 17)),
ir 19 (.fad 13 (.t 18)),
ir 20 (.ld 1 false (.t 19)),
⟨(.some 15), .none, (.call (.f 58) [(.t 10), (.t 14), (ci 2)]), (.cl [(1, 19)] [])⟩,
⟨(.some 21), .none, (.call (.f 58) [(.t 16), (.t 20), (ci 1)]), (.cl [] [])⟩,
⟨(.some 22), .none, (.app 2 46 16 (.t 15) (.t 21)), (.cl [] [])⟩,
ia 23 (.call (.f 57) [(.t 9), (.t 22)]),
ia 3 (.mv (.t 23))]) (.seq (.reg [
  ia 24 (.mv (.t 0)),
ia 25 (.mv (.t 0)),
ia 26 (.nck (.t 25)),
ia 27 (.fad 12 (.t 26)),
ia 28 (.ld 1 false (.t 27)),
ia 29 (.call (.f 40) [(.t 28), (ci 1)]),
ia 30 (.mv (.t 2)),
ia 31 (.call (.f 40) [(.t 30), (ci 0)]),
ia 32 (.call (.f 53) [(.t 24), (.t 29), (.t 31)])]) (.reg [
  ia 33 (.mv (.t 3)),
ia 34 (.call (.t 33) [])])))), []⟩
theorem cc55 : ccF Tryz.prog [(46, [0, 0]), (57, [1, 0]), (81, [0, 0]), (46, [9]), (68, [8]), (70, [8]), (54, [8]), (69, [8]), (58, [8])] Tryz.f55 = some (stripF F55) := by kernel_rfl
def F56b0 : C := (.seq (.reg [
  ia 47 (.bin .lss (.t 46) (.t 45))]) (.seq (.cond (.t 47) .skip (.exit 0)) (.seq (.block 1 (.seq (.reg [
  ia 48 (.mv (.t 46)),
ia 49 (.ias 1 (.t 44) (.t 46)),
ia 50 (.ld 1 false (.t 49)),
ia 6 (.mv (.t 48)),
ia 7 (.mv (.t 50))]) (.reg [
  ia 51 (.mv (.t 0)),
ia 52 (.mv (.t 0)),
ia 53 (.nck (.t 52)),
ia 54 (.fad 12 (.t 53)),
ia 55 (.ld 1 false (.t 54)),
ia 56 (.mv (.t 6)),
ia 57 (.bin .add (.t 56) (ci 1)),
ia 58 (.call (.f 40) [(.t 55), (.t 57)]),
ia 59 (.mv (.t 7)),
ia 60 (.call (.f 40) [(.t 59), (ci 0)]),
ia 61 (.call (.f 53) [(.t 51), (.t 58), (.t 60)])]))) (.reg [
  ia 62 (.bin .add (.t 46) (ci 1)),
ia 46 (.mv (.t 62))]))))
def F56b2 : C := (.seq (.reg [
  ia 84 (.bin .lss (.t 83) (.t 82))]) (.seq (.cond (.t 84) .skip (.exit 4)) (.seq (.block 5 (.seq (.reg [
  ia 85 (.mv (.t 83)),
ia 86 (.ias 1 (.t 81) (.t 83)),
ia 87 (.ld 1 false (.t 86)),
ia 10 (.mv (.t 85)),
ia 11 (.mv (.t 87))]) (.reg [
  ia 88 (.mv (.t 0)),
ia 89 (.mv (.t 9)),
ia 90 (.mv (.t 10)),
ia 91 (.bin .add (.t 90) (ci 1)),
ia 92 (.call (.f 40) [(.t 89), (.t 91)]),
ia 93 (.mv (.t 11)),
ia 94 (.mv (.t 8)),
ia 95 (.bin .add (.t 94) (ci 1)),
ia 96 (.call (.f 40) [(.t 93), (.t 95)]),
ia 97 (.call (.f 71) [(.t 88), (.t 92), (.t 96)])]))) (.reg [
  ia 98 (.bin .add (.t 83) (ci 1)),
ia 83 (.mv (.t 98))]))))
def F56b1 : C := (.seq (.reg [
  ia 66 (.bin .lss (.t 65) (.t 64))]) (.seq (.cond (.t 66) .skip (.exit 2)) (.seq (.block 3 (.seq (.reg [
  ia 67 (.mv (.t 65)),
ia 68 (.ias 1 (.t 63) (.t 65)),
ia 69 (.ld 1 false (.t 68)),
ia 8 (.mv (.t 67)),
ia 9 (.mv (.t 69))]) (.seq (.reg [
  ia 70 (.mv (.t 0)),
ia 71 (.mv (.t 0)),
ia 72 (.nck (.t 71)),
ia 73 (.fad 13 (.t 72)),
ia 74 (.ld 1 false (.t 73)),
ia 75 (.mv (.t 8)),
ia 76 (.bin .add (.t 75) (ci 1)),
ia 77 (.call (.f 40) [(.t 74), (.t 76)]),
ia 78 (.mv (.t 9)),
ia 79 (.call (.f 40) [(.t 78), (ci 0)]),
ia 80 (.call (.f 53) [(.t 70), (.t 77), (.t 79)])]) (.seq (.reg [
  ia 81 (.mv (.t 4)),
ia 82 (.len false (.t 81)),
ia 83 (.mv (ci 0))]) (.block 4 (.loop F56b2)))))) (.reg [
  ia 99 (.bin .add (.t 65) (ci 1)),
ia 65 (.mv (.t 99))]))))
def F56 : FnC := ⟨1, (.seq (.reg [
  ir 12 (.mv (.t 0)),
ir 13 (.mv (.t 0)),
ir 14 (.nck (.t 13)),
ir 15 (.fad 12 (.t 14)),
ir 16 (.ld 1 false (.t 15)),
ir 18 (.mv (.t 0)),
ir 19 (.mv (.t 0)),
ir 20 (.nck (.t 19)),
ir 21 (.fad 13 (.t 20)),
ir 22 (.ld 1 false (.t 21)),
⟨(.some 2), .none, (.new [(.p (.i .i64 0)), (.p (.i .i64 0)), (.p (.i .i64 0)), (.p (.s [])), .nil, .nil]), .ad⟩,
⟨(.some 3), .none, (.new [(.p (.i .i64 0)), (.p (.i .i64 0)), (.p (.i .i64 0)), (.p (.s [])), .nil, .nil]), .ad⟩,
⟨(.some 17), .none, (.call (.f 68) [(.t 12), (.t 16)]), (.cl [(1, 21)] [2, 3])⟩,
⟨(.some 23), .none, (.call (.f 68) [(.t 18), (.t 22)]), (.cl [] [2, 3])⟩,
io (.st 6 (.t 2) (.t 17)),
io (.st 6 (.t 3) (.t 23))]) (.seq (.reg [
  ia 24 (.mv (.t 0)),
ia 25 (.nck (.t 24)),
ia 26 (.fad 2 (.t 25)),
ia 27 (.fad 2 (.t 26)),
ia 28 (.ld 1 false (.t 27)),
ia 29 (.fad 1 (.t 3)),
io (.st 1 (.t 29) (.t 28))]) (.seq (.reg [
  ia 30 (.mv (.t 0)),
ia 31 (.ld 6 true (.t 3)),
ia 32 (.fad 5 (.t 2)),
ia 33 (.ld 1 false (.t 32)),
ia 34 (.len false (.t 33)),
ia 35 (.bin .sub (.t 34) (ci 1)),
ia 36 (.call (.f 69) [(.t 30), (.t 31), (.t 35)]),
ia 4 (.mv (.t 36))]) (.seq (.reg [
  ia 37 (.mv (.t 0)),
ia 38 (.ld 6 true (.t 2)),
ia 39 (.fad 5 (.t 3)),
ia 40 (.ld 1 false (.t 39)),
ia 41 (.len false (.t 40)),
ia 42 (.bin .sub (.t 41) (ci 1)),
ia 43 (.call (.f 69) [(.t 37), (.t 38), (.t 42)]),
ia 5 (.mv (.t 43))]) (.seq (.seq (.reg [
  ia 44 (.mv (.t 4)),
ia 45 (.len false (.t 44)),
ia 46 (.mv (ci 0))]) (.block 0 (.loop F56b0))) (.seq (.reg [
  ia 63 (.mv (.t 5)),
ia 64 (.len false (.t 63)),
ia 65 (.mv (ci 0))]) (.block 2 (.loop F56b1)))))))), []⟩
theorem cc56 : ccF Tryz.prog [(46, [0, 0]), (57, [1, 0]), (81, [0, 0]), (46, [9]), (68, [8]), (70, [8]), (54, [8]), (69, [8]), (58, [8])] Tryz.f56 = some (stripF F56) := by kernel_rfl
def F57 : FnC := ⟨2, (.seq (.reg [
  ia 2 (.box 1 (.t 0)),
ia 3 (.box 1 (.t 1)),
ia 4 (.mv (.c (.a (.raw .nilFunc))))]) (.seq (.reg [
  ir 6 (.ld 1 false (.t 2)),
ir 7 (.ld 1 false (.t 2)),
ir 10 (.ld 1 false (.t 3)),
ir 11 (.len false (.t 10)),
⟨(.some 5), .none, (.new [.nil]), .ad⟩,
⟨(.some 8), .none, (.call (.f 70) [(.t 7)]), (.cl [(1, 2), (1, 3)] [5])⟩,
ir 9 (.build [(.p (.i .i64 0)), (.p (.i .i64 0)), (.p (.i .i64 0)), (.p (.s [])), .nil, .nil] [(0, (1, (ci 7))), (1, (1, (.t 8)))]),
⟨(.some 12), .none, (.call (.f 69) [(.t 6), (.t 9), (.t 11)]), (.cl [] [5])⟩,
io (.st 1 (.t 5) (.t 12))]) (.seq (.reg [
  ia 13 (.fn 74 [(.t 3), (.t 2), (.t 5)]),
ia 4 (.mv (.t 13))]) .ret))), [(.tmp 4)]⟩
theorem cc57 : ccF Tryz.prog [(46, [0, 0]), (57, [1, 0]), (81, [0, 0]), (46, [9]), (68, [8]), (70, [8]), (54, [8]), (69, [8]), (58, [8])] Tryz.f57 = some (stripF F57) := by kernel_rfl
def F58b0 : C := (.seq (.seq (.reg [
  ia 10 (.mv (.t 8)),
ia 11 (.mv (.t 0)),
ia 12 (.mv (.t 1)),
ia 13 (.call (.f 68) [(.t 11), (.t 12)]),
ia 14 (.fld 5 1 false (.t 13)),
ia 15 (.len false (.t 14)),
ia 16 (.bin .lss (.t 10) (.t 15))]) (.cond (.t 16) .skip (.exit 0))) (.seq (.block 1 (.reg [
  ia 19 (.mv (.t 7)),
ia 20 (.mv (.t 1)),
ia 21 (.mv (.t 8)),
ia 22 (.call (.f 40) [(.t 20), (.t 21)]),
ia 23 (.bsl 2 46 [(.p (.i .i64 0)), (.p (.i .i64 0))] 1 [(0, (.t 22))]),
ia 24 (.app 2 46 16 (.t 19) (.t 23)),
ia 7 (.mv (.t 24))])) (.reg [
  ia 17 (.mv (.t 8)),
ia 18 (.bin .add (.t 17) (ci 1)),
ia 8 (.mv (.t 18))])))
def F58 : FnC := ⟨3, (.seq (.reg [
  ia 6 (.mv (.c (.a .nil)))]) (.seq (.reg [
  ia 7 (.mv (.c (.a .nil)))]) (.seq (.seq (.reg [
  ia 9 (.mv (.t 2)),
ia 8 (.mv (.t 9))]) (.block 0 (.loop F58b0))) (.seq (.reg [
  ia 25 (.mv (.t 7)),
ia 6 (.mv (.t 25))]) .ret)))), [(.tmp 6)]⟩
theorem cc58 : ccF Tryz.prog [(46, [0, 0]), (57, [1, 0]), (81, [0, 0]), (46, [9]), (68, [8]), (70, [8]), (54, [8]), (69, [8]), (58, [8])] Tryz.f58 = some (stripF F58) := by kernel_rfl
def F59b0 : C := (.seq (.seq (.reg [
  ia 29 (.fad 0 (.t 2)),
ia 30 (.ld 1 false (.t 29)),
ia 31 (.len false (.t 30)),
ia 32 (.bin .gtr (.t 31) (ci 0)),
ia 33 (.mv (.t 32)),
ig 34 33 true (.fad 0 (.t 2)),
ig 35 33 true (.ld 1 false (.t 34)),
ig 36 33 true (.fad 0 (.t 2)),
ig 37 33 true (.ld 1 false (.t 36)),
ig 38 33 true (.len false (.t 37)),
ig 39 33 true (.bin .sub (.t 38) (ci 1)),
ig 40 33 true (.ias 6 (.t 35) (.t 39)),
ig 41 33 true (.ld 6 true (.t 40)),
ig 42 33 true (.call (.f 48) [(.t 41)]),
ia 43 (.pick (.t 33) (.t 42) (.c (.a (.p (.b false)))))]) (.cond (.t 43) .skip (.exit 0))) (.block 1 (.reg [
  ia 44 (.fad 0 (.t 2)),
ia 45 (.ld 1 false (.t 44)),
ia 46 (.fad 0 (.t 2)),
ia 47 (.ld 1 false (.t 46)),
ia 48 (.len false (.t 47)),
ia 49 (.bin .sub (.t 48) (ci 1)),
ia 50 (.slc 6 33 (.t 45) .none (.some (.t 49)) .none),
ia 51 (.fad 0 (.t 2)),
io (.st 1 (.t 51) (.t 50))])))
def F59 : FnC := ⟨2, (.seq (.reg [
  ia 2 (.box 2 (.t 0)),
ia 4 (.new [.nil, (.p (.i .i64 0))]),
ia 5 (.mv (ci 0))]) (.seq (.seq (.reg [
  ia 6 (.mv (.t 1)),
ia 7 (.fad 0 (.t 2)),
ia 8 (.ld 1 false (.t 7)),
ia 9 (.len false (.t 8)),
ia 10 (.bin .sub (.t 9) (ci 1)),
ia 11 (.call (.f 35) [(.t 6), (ci 0), (.t 10)]),
ia 12 (.not (.t 11)),
ia 13 (.mv (.t 12)),
ig 14 13 false (.fad 0 (.t 2)),
ig 15 13 false (.ld 1 false (.t 14)),
ig 16 13 false (.mv (.t 1)),
ig 17 13 false (.ias 6 (.t 15) (.t 16)),
ig 18 13 false (.ld 6 true (.t 17)),
ig 19 13 false (.call (.f 48) [(.t 18)]),
ia 20 (.pick (.t 13) (.c (.a (.p (.b true)))) (.t 19))]) (.cond (.t 20) (.seq (.reg [
  ia 21 (.ld 2 true (.t 2)),
io (.st 2 (.t 4) (.t 21)),
ia 5 (.mv (ci 122))]) .ret) .skip)) (.seq (.reg [
  ia 22 (.ld 2 true (.t 2)),
ia 23 (.call (.f 75) [(.t 22)]),
io (.st 2 (.t 2) (.t 23))]) (.seq (.reg [
  ia 24 (.fad 0 (.t 2)),
ia 25 (.ld 1 false (.t 24)),
ia 26 (.mv (.t 1)),
ia 27 (.build [(.p (.i .i64 0)), (.p (.i .i64 0)), (.p (.i .i64 0)), (.p (.s [])), .nil, .nil] []),
ia 28 (.ias 6 (.t 25) (.t 26)),
io (.st 6 (.t 28) (.t 27))]) (.seq (.block 0 (.loop F59b0)) (.seq (.reg [
  ia 52 (.ld 2 true (.t 2)),
io (.st 2 (.t 4) (.t 52)),
ia 5 (.mv (ci 0))]) .ret)))))), [(.cell 4 2 true), (.tmp 5)]⟩
theorem cc59 : ccF Tryz.prog [(46, [0, 0]), (57, [1, 0]), (81, [0, 0]), (46, [9]), (68, [8]), (70, [8]), (54, [8]), (69, [8]), (58, [8])] Tryz.f59 = some (stripF F59) := by kernel_rfl
def F60 : FnC := ⟨2, (.seq (.reg [
  ia 2 (.box 6 (.t 0)),
ia 3 (.box 6 (.t 1)),
ia 4 (.new [(.p (.i .i64 0)), (.p (.b false)), (.p (.i .i64 0)), (.p (.i .i64 0)), (.p (.i .i64 0)), (.p (.i .i64 0)), (.p (.i .i64 0)), (.p (.s [])), .nil, .nil]),
ia 5 (.mv (ci 0))]) (.seq (.reg [
  ia 9 (.fad 1 (.t 2)),
ia 10 (.ld 1 false (.t 9)),
ia 11 (.build [(.p (.i .i64 0)), (.p (.i .i64 0)), (.p (.i .i64 0)), (.p (.s [])), .nil, .nil] [(0, (1, (ci 10))), (1, (1, (.t 10)))]),
ia 6 (.new [(.p (.i .i64 0)), (.p (.i .i64 0)), (.p (.i .i64 0)), (.p (.s [])), .nil, .nil]),
io (.st 6 (.t 6) (.t 11))]) (.seq (.seq (.reg [
  ia 12 (.fad 3 (.t 2)),
ia 13 (.ld 1 false (.t 12)),
ia 14 (.bin .eql (.t 13) (.c (.a (.p (.s [43]))))),
ia 15 (.mv (.t 14)),
ig 16 15 false (.fad 3 (.t 2)),
ig 17 15 false (.ld 1 false (.t 16)),
ig 18 15 false (.bin .eql (.t 17) (.c (.a (.p (.s [45]))))),
ia 19 (.pick (.t 15) (.c (.a (.p (.b true)))) (.t 18)),
ia 20 (.mv (.t 19)),
ig 21 20 false (.fad 3 (.t 2)),
ig 22 20 false (.ld 1 false (.t 21)),
ig 23 20 false (.bin .eql (.t 22) (.c (.a (.p (.s [42]))))),
ia 24 (.pick (.t 20) (.c (.a (.p (.b true)))) (.t 23)),
ia 25 (.mv (.t 24)),
ig 26 25 false (.fad 3 (.t 2)),
ig 27 25 false (.ld 1 false (.t 26)),
ig 28 25 false (.bin .eql (.t 27) (.c (.a (.p (.s [47]))))),
ia 29 (.pick (.t 25) (.c (.a (.p (.b true)))) (.t 28)),
ia 30 (.mv (.t 29)),
ig 31 30 false (.fad 3 (.t 2)),
ig 32 30 false (.ld 1 false (.t 31)),
ig 33 30 false (.bin .eql (.t 32) (.c (.a (.p (.s [60]))))),
ia 34 (.pick (.t 30) (.c (.a (.p (.b true)))) (.t 33)),
ia 35 (.mv (.t 34)),
ig 36 35 false (.fad 3 (.t 2)),
ig 37 35 false (.ld 1 false (.t 36)),
ig 38 35 false (.bin .eql (.t 37) (.c (.a (.p (.s [61, 61]))))),
ia 39 (.pick (.t 35) (.c (.a (.p (.b true)))) (.t 38))]) (.cond (.t 39) (.seq (.reg [
  ia 41 (.fad 3 (.t 2)),
ia 42 (.ld 1 false (.t 41)),
ia 43 (.fad 2 (.t 2)),
ia 44 (.ld 1 false (.t 43)),
ia 45 (.build [(.p (.i .i64 0)), (.p (.i .i64 0)), (.p (.s [])), .nil] [(0, (1, (ci 7))), (1, (1, (.t 44)))]),
ia 46 (.fad 2 (.t 3)),
ia 47 (.ld 1 false (.t 46)),
ia 48 (.build [(.p (.i .i64 0)), (.p (.i .i64 0)), (.p (.s [])), .nil] [(0, (1, (ci 7))), (1, (1, (.t 47)))]),
ia 49 (.bsl 4 91 [(.p (.i .i64 0)), (.p (.i .i64 0)), (.p (.s [])), .nil] 2 [(0, (.t 45)), (1, (.t 48))]),
ia 50 (.build [(.p (.i .i64 0)), (.p (.i .i64 0)), (.p (.s [])), .nil] [(0, (1, (ci 8))), (2, (1, (.t 42))), (3, (1, (.t 49)))]),
ia 51 (.call (.f 76) [(.t 50)]),
ia 40 (.mv (.t 51)),
ia 52 (.ext (.t 40) 0),
ia 53 (.ext (.t 40) 1),
ia 7 (.new [(.p (.i .i64 0)), (.p (.i .i64 0)), (.p (.s [])), .nil]),
io (.st 4 (.t 7) (.t 52)),
ia 8 (.mv (.t 53))]) (.seq (.seq (.reg [
  ia 54 (.mv (.t 8)),
ia 55 (.bin .eql (.t 54) (ci 4))]) (.cond (.t 55) (.seq (.reg [
  ia 56 (.build [(.p (.i .i64 0)), (.p (.b false)), (.p (.i .i64 0)), (.p (.i .i64 0)), (.p (.i .i64 0)), (.p (.i .i64 0)), (.p (.i .i64 0)), (.p (.s [])), .nil, .nil] [(0, (1, (ci 5)))]),
io (.st 10 (.t 4) (.t 56)),
ia 5 (.mv (ci 0))]) .ret) .skip)) (.seq (.reg [
  ia 57 (.fad 1 (.t 7)),
ia 58 (.ld 1 false (.t 57)),
ia 59 (.fad 2 (.t 6)),
io (.st 1 (.t 59) (.t 58))]) (.seq (.reg [
  ia 60 (.fad 0 (.t 7)),
ia 61 (.ld 1 false (.t 60)),
ia 62 (.bin .eql (.t 61) (ci 4))]) (.cond (.t 62) (.reg [
  ia 63 (.fad 1 (.t 2)),
ia 64 (.ld 1 false (.t 63)),
ia 65 (.fad 2 (.t 7)),
ia 66 (.ld 1 false (.t 65)),
ia 67 (.build [(.p (.i .i64 0)), (.p (.i .i64 0))] []),
ia 68 (.bsl 2 46 [(.p (.i .i64 0)), (.p (.i .i64 0))] 1 [(0, (.t 67))]),
ia 69 (.build [(.p (.i .i64 0)), (.p (.i .i64 0)), (.p (.i .i64 0)), (.p (.s [])), .nil, .nil] [(0, (1, (ci 8))), (1, (1, (.t 64))), (3, (1, (.t 66))), (5, (1, (.t 68)))]),
io (.st 6 (.t 6) (.t 69))]) .skip))))) .skip)) (.seq (.reg [
  ia 70 (.ld 6 true (.t 6)),
ia 71 (.build [(.p (.i .i64 0)), (.p (.b false)), (.p (.i .i64 0)), (.p (.i .i64 0)), (.p (.i .i64 0)), (.p (.i .i64 0)), (.p (.i .i64 0)), (.p (.s [])), .nil, .nil] [(0, (1, (ci 4))), (4, (6, (.t 70)))]),
io (.st 10 (.t 4) (.t 71)),
ia 5 (.mv (ci 0))]) .ret)))), [(.cell 4 10 true), (.tmp 5)]⟩
theorem cc60 : ccF Tryz.prog [(46, [0, 0]), (57, [1, 0]), (81, [0, 0]), (46, [9]), (68, [8]), (70, [8]), (54, [8]), (69, [8]), (58, [8])] Tryz.f60 = some (stripF F60) := by kernel_rfl
def F61b0 : C := (.seq (.reg [
  ia 17 (.bin .lss (.t 16) (.t 15))]) (.seq (.cond (.t 17) .skip (.exit 0)) (.seq (.block 1 (.seq (.reg [
  ia 18 (.mv (.t 16)),
ia 19 (.ias 2 (.t 14) (.t 16)),
ia 20 (.ld 2 true (.t 19)),
ia 4 (.new [(.p (.s [])), (.p (.i .i64 0))]),
ia 3 (.mv (.t 18)),
io (.st 2 (.t 4) (.t 20))]) (.seq (.reg [
  ia 21 (.fn 77 [(.t 4)]),
ia 5 (.mv (.t 21))]) (.seq (.reg [
  ia 22 (.fad 0 (.t 4)),
ia 23 (.ld 1 false (.t 22)),
ia 24 (.bin .eql (.t 23) (.c (.a (.p (.s []))))),
ia 25 (.mv (.t 24)),
ig 26 25 false (.fad 1 (.t 4)),
ig 27 25 false (.ld 1 false (.t 26)),
ig 28 25 false (.call (.f 35) [(.t 27), (ci 0), (ci 8)]),
ig 29 25 false (.not (.t 28)),
ia 30 (.pick (.t 25) (.c (.a (.p (.b true)))) (.t 29)),
ia 31 (.mv (.t 30)),
ig 32 31 false (.fad 4 (.t 1)),
ig 33 31 false (.ld 1 false (.t 32)),
ig 34 31 false (.mv (.t 3)),
ig 35 31 false (.slc 2 57 (.t 33) .none (.some (.t 34)) .none),
ig 36 31 false (.mv (.t 5)),
ig 37 31 false (.call (.f 78) [(.t 35), (.t 36)]),
ia 38 (.pick (.t 31) (.c (.a (.p (.b true)))) (.t 37))]) (.cond (.t 38) (.seq (.reg [
  ia 2 (.mv (.c (.a (.p (.b false)))))]) .ret) .skip))))) (.reg [
  ia 39 (.bin .add (.t 16) (ci 1)),
ia 16 (.mv (.t 39))]))))
def F61 : FnC := ⟨1, (.seq (.reg [
  ia 1 (.box 6 (.t 0)),
ia 2 (.mv (.c (.a (.p (.b false)))))]) (.seq (.seq (.reg [
  ia 6 (.fad 0 (.t 1)),
ia 7 (.ld 1 false (.t 6)),
ia 8 (.bin .neq (.t 7) (ci 9))]) (.cond (.t 8) (.seq (.reg [
  ia 9 (.fad 4 (.t 1)),
ia 10 (.ld 1 false (.t 9)),
ia 11 (.len false (.t 10)),
ia 12 (.bin .eql (.t 11) (ci 0)),
ia 2 (.mv (.t 12))]) .ret) .skip)) (.seq (.seq (.reg [
  ia 13 (.fad 4 (.t 1)),
ia 14 (.ld 1 false (.t 13)),
ia 15 (.len false (.t 14)),
ia 16 (.mv (ci 0))]) (.block 0 (.loop F61b0))) (.seq (.reg [
  ia 40 (.fad 4 (.t 1)),
ia 41 (.ld 1 false (.t 40)),
ia 42 (.len false (.t 41)),
ia 43 (.call (.f 35) [(.t 42), (ci 1), (ci 8)]),
ia 2 (.mv (.t 43))]) .ret)))), [(.tmp 2)]⟩
theorem cc61 : ccF Tryz.prog [(46, [0, 0]), (57, [1, 0]), (81, [0, 0]), (46, [9]), (68, [8]), (70, [8]), (54, [8]), (69, [8]), (58, [8])] Tryz.f61 = some (stripF F61) := by kernel_rfl
def F62 : FnC := ⟨0, (.seq (.reg [
  ia 0 (.new [(.p (.i .i64 0)), (.p (.i .i64 0)), (.p (.i .i64 0)), (.p (.i .i64 0)), (.p (.i .i64 0)), (.p (.i .i64 0)), (.p (.i .i64 0)), (.p (.i .i64 0)), (.p (.i .i64 0)), (.p (.i .i64 0)), (.p (.i .i64 0)), (.p (.i .i64 0)), (.p (.i .i64 0)), (.p (.i .i64 0))])]) (.seq (.reg [
  ia 1 (.build [(.p (.i .i64 0)), (.p (.i .i64 0)), (.p (.i .i64 0)), (.p (.i .i64 0)), (.p (.i .i64 0)), (.p (.i .i64 0)), (.p (.i .i64 0)), (.p (.i .i64 0)), (.p (.i .i64 0)), (.p (.i .i64 0)), (.p (.i .i64 0)), (.p (.i .i64 0)), (.p (.i .i64 0)), (.p (.i .i64 0))] [(1, (1, (ci 1))), (2, (1, (ci 3))), (3, (1, (ci 3))), (4, (1, (ci 3))), (5, (1, (ci 2))), (6, (1, (ci 2))), (7, (1, (ci 1))), (10, (1, (ci 1))), (11, (1, (ci 3))), (12, (1, (ci 2))), (13, (1, (ci 1)))]),
io (.st 14 (.t 0) (.t 1))]) .ret)), [(.cell 0 14 true)]⟩
theorem cc62 : ccF Tryz.prog [(46, [0, 0]), (57, [1, 0]), (81, [0, 0]), (46, [9]), (68, [8]), (70, [8]), (54, [8]), (69, [8]), (58, [8])] Tryz.f62 = some (stripF F62) := by kernel_rfl
def F63 : FnC := ⟨2, (.seq (.reg [
  ia 2 (.box 2 (.t 0)),
ia 4 (.mv (.c (.a (.p (.b false)))))]) (.seq (.reg [
  ia 5 (.mv (.t 1)),
ia 6 (.fn 80 [(.t 2)]),
ia 7 (.call (.f 79) [(.t 5), (.t 6)]),
ia 8 (.not (.t 7)),
ia 4 (.mv (.t 8))]) .ret)), [(.tmp 4)]⟩
theorem cc63 : ccF Tryz.prog [(46, [0, 0]), (57, [1, 0]), (81, [0, 0]), (46, [9]), (68, [8]), (70, [8]), (54, [8]), (69, [8]), (58, [8])] Tryz.f63 = some (stripF F63) := by kernel_rfl
def F64 : FnC := ⟨2, (.seq (.reg [
  ia 2 (.box 2 (.t 0)),
ia 3 (.box 2 (.t 1)),
ia 4 (.new [(.p (.i .i64 0)), (.p (.i .i64 0))])]) (.seq (.reg [
  ir 5 (.fad 0 (.t 2)),
ir 6 (.fad 0 (.t 5)),
ir 7 (.ld 1 false (.t 6)),
ir 8 (.fad 0 (.t 3)),
ir 9 (.ld 1 false (.t 8)),
ir 10 (.ias 6 (.t 7) (.t 9)),
ir 11 (.fad 5 (.t 10)),
ir 12 (.ld 1 false (.t 11)),
ir 13 (.fad 1 (.t 3)),
ir 14 (.ld 1 false (.t 13)),
ia 15 (.ias 2 (.t 12) (.t 14)),
ia 16 (.ld 2 true (.t 15)),
io (.st 2 (.t 4) (.t 16))]) .ret)), [(.cell 4 2 true)]⟩
theorem cc64 : ccF Tryz.prog [(46, [0, 0]), (57, [1, 0]), (81, [0, 0]), (46, [9]), (68, [8]), (70, [8]), (54, [8]), (69, [8]), (58, [8])] Tryz.f64 = some (stripF F64) := by kernel_rfl
def F65 : FnC := ⟨2, (.seq (.reg [
  ia 2 (.box 6 (.t 0)),
ia 3 (.box 6 (.t 1)),
ia 4 (.new [(.p (.i .i64 0)), (.p (.b false)), (.p (.i .i64 0)), (.p (.i .i64 0)), (.p (.i .i64 0)), (.p (.i .i64 0)), (.p (.i .i64 0)), (.p (.s [])), .nil, .nil]),
ia 5 (.mv (ci 0))]) (.seq (.seq (.reg [
  ia 7 (.fad 1 (.t 2)),
ia 8 (.ld 1 false (.t 7)),
ia 9 (.fad 1 (.t 3)),
ia 10 (.ld 1 false (.t 9)),
ia 11 (.bin .neq (.t 8) (.t 10))]) (.cond (.t 11) (.seq (.reg [
  ia 12 (.build [(.p (.i .i64 0)), (.p (.b false)), (.p (.i .i64 0)), (.p (.i .i64 0)), (.p (.i .i64 0)), (.p (.i .i64 0)), (.p (.i .i64 0)), (.p (.s [])), .nil, .nil] []),
io (.st 10 (.t 4) (.t 12)),
ia 5 (.mv (ci 140))]) .ret) .skip)) (.seq (.reg [
  ia 13 (.fad 4 (.t 2)),
ia 14 (.ld 1 false (.t 13)),
ia 15 (.fn 82 [(.t 3)]),
ia 16 (.call (.f 81) [(.t 14), (.t 15)]),
ia 6 (.mv (.t 16))]) (.seq (.seq (.reg [
  ia 17 (.mv (.t 6)),
ia 18 (.bin .lss (.t 17) (ci 0))]) (.cond (.t 18) (.seq (.reg [
  ia 19 (.call (.f 44) [(ci 5)]),
ia 20 (.ext (.t 19) 0),
ia 21 (.ext (.t 19) 1),
io (.st 10 (.t 4) (.t 20)),
ia 5 (.mv (.t 21))]) .ret) .skip)) (.seq (.reg [
  ia 22 (.mv (.t 6)),
ia 23 (.build [(.p (.i .i64 0)), (.p (.b false)), (.p (.i .i64 0)), (.p (.i .i64 0)), (.p (.i .i64 0)), (.p (.i .i64 0)), (.p (.i .i64 0)), (.p (.s [])), .nil, .nil] [(0, (1, (ci 2))), (3, (1, (.t 22)))]),
io (.st 10 (.t 4) (.t 23)),
ia 5 (.mv (ci 0))]) .ret))))), [(.cell 4 10 true), (.tmp 5)]⟩
theorem cc65 : ccF Tryz.prog [(46, [0, 0]), (57, [1, 0]), (81, [0, 0]), (46, [9]), (68, [8]), (70, [8]), (54, [8]), (69, [8]), (58, [8])] Tryz.f65 = some (stripF F65) := by kernel_rfl
def F66 : FnC := ⟨2, (.seq (.reg [
  ia 2 (.box 6 (.t 0)),
ia 3 (.box 6 (.t 1)),
ia 4 (.new [(.p (.i .i64 0)), (.p (.b false)), (.p (.i .i64 0)), (.p (.i .i64 0)), (.p (.i .i64 0)), (.p (.i .i64 0)), (.p (.i .i64 0)), (.p (.s [])), .nil, .nil]),
ia 5 (.mv (ci 0))]) (.seq (.reg [
  ia 7 (.build [(.p (.i .i64 0)), (.p (.i .i64 0)), (.p (.i .i64 0)), (.p (.s [])), .nil, .nil] [(0, (1, (ci 10)))]),
ia 6 (.new [(.p (.i .i64 0)), (.p (.i .i64 0)), (.p (.i .i64 0)), (.p (.s [])), .nil, .nil]),
io (.st 6 (.t 6) (.t 7))]) (.seq (.seq (.reg [
  ia 8 (.fad 3 (.t 2)),
ia 9 (.ld 1 false (.t 8))]) (.block 0 (.seq (.reg [
  ia 11 (.bin .eql (.t 9) (.c (.a (.p (.s [43]))))),
ia 10 (.mv (.t 11))]) (.cond (.t 10) (.reg [
  ia 12 (.fad 2 (.t 2)),
ia 13 (.ld 1 false (.t 12)),
ia 14 (.fad 2 (.t 3)),
ia 15 (.ld 1 false (.t 14)),
ia 16 (.bin .add (.t 13) (.t 15)),
ia 17 (.fad 2 (.t 6)),
io (.st 1 (.t 17) (.t 16))]) (.seq (.reg [
  ia 19 (.bin .eql (.t 9) (.c (.a (.p (.s [45]))))),
ia 18 (.mv (.t 19))]) (.cond (.t 18) (.reg [
  ia 20 (.fad 2 (.t 2)),
ia 21 (.ld 1 false (.t 20)),
ia 22 (.fad 2 (.t 3)),
ia 23 (.ld 1 false (.t 22)),
ia 24 (.bin .sub (.t 21) (.t 23)),
ia 25 (.fad 2 (.t 6)),
io (.st 1 (.t 25) (.t 24))]) (.seq (.reg [
  ia 27 (.bin .eql (.t 9) (.c (.a (.p (.s [42]))))),
ia 26 (.mv (.t 27))]) (.cond (.t 26) (.reg [
  ia 28 (.fad 2 (.t 2)),
ia 29 (.ld 1 false (.t 28)),
ia 30 (.fad 2 (.t 3)),
ia 31 (.ld 1 false (.t 30)),
ia 32 (.bin .mul (.t 29) (.t 31)),
ia 33 (.fad 2 (.t 6)),
io (.st 1 (.t 33) (.t 32))]) (.seq (.reg [
  ia 35 (.bin .eql (.t 9) (.c (.a (.p (.s [47]))))),
ia 34 (.mv (.t 35))]) (.cond (.t 34) (.seq (.seq (.reg [
  ia 36 (.fad 2 (.t 3)),
ia 37 (.ld 1 false (.t 36)),
ia 38 (.bin .eql (.t 37) (ci 0))]) (.cond (.t 38) (.seq (.reg [
  ia 39 (.call (.f 44) [(ci 5)]),
ia 40 (.ext (.t 39) 0),
ia 41 (.ext (.t 39) 1),
io (.st 10 (.t 4) (.t 40)),
ia 5 (.mv (.t 41))]) .ret) .skip)) (.reg [
  ia 42 (.fad 2 (.t 2)),
ia 43 (.ld 1 false (.t 42)),
ia 44 (.fad 2 (.t 3)),
ia 45 (.ld 1 false (.t 44)),
ia 46 (.bin .quo (.t 43) (.t 45)),
ia 47 (.fad 2 (.t 6)),
io (.st 1 (.t 47) (.t 46))])) (.seq (.reg [
  ia 49 (.bin .eql (.t 9) (.c (.a (.p (.s [60]))))),
ia 48 (.mv (.t 49))]) (.cond (.t 48) (.reg [
  ia 50 (.fad 2 (.t 2)),
ia 51 (.ld 1 false (.t 50)),
ia 52 (.fad 2 (.t 3)),
ia 53 (.ld 1 false (.t 52)),
ia 54 (.bin .lss (.t 51) (.t 53)),
ia 55 (.call (.f 83) [(.t 54)]),
io (.st 6 (.t 6) (.t 55))]) (.seq (.reg [
  ia 57 (.bin .eql (.t 9) (.c (.a (.p (.s [61, 61]))))),
ia 56 (.mv (.t 57))]) (.cond (.t 56) (.reg [
  ia 58 (.fad 2 (.t 2)),
ia 59 (.ld 1 false (.t 58)),
ia 60 (.fad 2 (.t 3)),
ia 61 (.ld 1 false (.t 60)),
ia 62 (.bin .eql (.t 59) (.t 61)),
ia 63 (.call (.f 83) [(.t 62)]),
io (.st 6 (.t 6) (.t 63))]) .skip)))))))))))))) (.seq (.reg [
  ia 64 (.fad 1 (.t 2)),
ia 65 (.ld 1 false (.t 64)),
ia 66 (.fad 1 (.t 6)),
io (.st 1 (.t 66) (.t 65))]) (.seq (.reg [
  ia 67 (.ld 6 true (.t 6)),
ia 68 (.build [(.p (.i .i64 0)), (.p (.b false)), (.p (.i .i64 0)), (.p (.i .i64 0)), (.p (.i .i64 0)), (.p (.i .i64 0)), (.p (.i .i64 0)), (.p (.s [])), .nil, .nil] [(0, (1, (ci 4))), (4, (6, (.t 67)))]),
io (.st 10 (.t 4) (.t 68)),
ia 5 (.mv (ci 0))]) .ret))))), [(.cell 4 10 true), (.tmp 5)]⟩
theorem cc66 : ccF Tryz.prog [(46, [0, 0]), (57, [1, 0]), (81, [0, 0]), (46, [9]), (68, [8]), (70, [8]), (54, [8]), (69, [8]), (58, [8])] Tryz.f66 = some (stripF F66) := by kernel_rfl
def F67 : FnC := ⟨3, (.seq (.reg [
  ia 4 (.box 2 (.t 1)),
ia 5 (.box 2 (.t 2))]) (.reg [
  ir 7 (.mv (.t 0)),
ir 8 (.mv (.t 0)),
ir 9 (.nck (.t 8)),
ir 10 (.fad 0 (.t 9)),
ir 11 (.ld 2 true (.t 10)),
ir 12 (.ld 2 true (.t 4)),
ir 13 (.ld 2 true (.t 5)),
ir 14 (.call (.f 84) [(.t 11), (.t 12), (.t 13)]),
ir 6 (.mv (.t 14)),
ir 15 (.ext (.t 6) 0),
ir 16 (.ext (.t 6) 1),
ir 17 (.nck (.t 7)),
ir 18 (.fad 0 (.t 17)),
⟨.none, .none, (.st 2 (.t 18) (.t 15)), (.wr [])⟩])), []⟩
theorem cc67 : ccF Tryz.prog [(46, [0, 0]), (57, [1, 0]), (81, [0, 0]), (46, [9]), (68, [8]), (70, [8]), (54, [8]), (69, [8]), (58, [8])] Tryz.f67 = some (stripF F67) := by kernel_rfl
def F68 : FnC := ⟨2, (.seq (.reg [
  ia 4 (.new [(.p (.i .i64 0)), (.p (.i .i64 0)), (.p (.i .i64 0)), (.p (.s [])), .nil, .nil])]) (.seq (.reg [
  ia 5 (.mv (.t 0)),
ia 6 (.nck (.t 5)),
ia 7 (.fad 0 (.t 6)),
ia 8 (.fad 0 (.t 7)),
ia 9 (.ld 1 false (.t 8)),
ia 10 (.mv (.t 1)),
ia 11 (.ias 6 (.t 9) (.t 10)),
ia 12 (.ld 6 true (.t 11)),
io (.st 6 (.t 4) (.t 12))]) .ret)), [(.cell 4 6 true)]⟩
theorem cc68 : ccF Tryz.prog [(46, [0, 0]), (57, [1, 0]), (81, [0, 0]), (46, [9]), (68, [8]), (70, [8]), (54, [8]), (69, [8]), (58, [8])] Tryz.f68 = some (stripF F68) := by kernel_rfl
def F69b0 : C := (.seq (.reg [
  ia 10 (.bin .lss (.t 9) (.t 8))]) (.seq (.cond (.t 10) .skip (.exit 0)) (.seq (.block 1 (.reg [
  ia 11 (.mv (.t 7)),
ia 12 (.mv (.t 0)),
ia 13 (.ld 6 true (.t 4)),
ia 14 (.call (.f 54) [(.t 12), (.t 13)]),
ia 15 (.bsl 1 3 [(.p (.i .i64 0))] 1 [(0, (.t 14))]),
ia 16 (.app 1 3 8 (.t 11) (.t 15)),
ia 7 (.mv (.t 16))])) (.reg [
  ia 17 (.bin .add (.t 9) (ci 1)),
ia 9 (.mv (.t 17))]))))
def F69 : FnC := ⟨3, (.seq (.reg [
  ia 4 (.box 6 (.t 1)),
ia 6 (.mv (.c (.a .nil)))]) (.seq (.reg [
  ia 7 (.mv (.c (.a .nil)))]) (.seq (.seq (.reg [
  ia 8 (.mv (.t 2)),
ia 9 (.mv (ci 0))]) (.block 0 (.loop F69b0))) (.seq (.reg [
  ia 18 (.mv (.t 7)),
ia 6 (.mv (.t 18))]) .ret)))), [(.tmp 6)]⟩
theorem cc69 : ccF Tryz.prog [(46, [0, 0]), (57, [1, 0]), (81, [0, 0]), (46, [9]), (68, [8]), (70, [8]), (54, [8]), (69, [8]), (58, [8])] Tryz.f69 = some (stripF F69) := by kernel_rfl
def F70 : FnC := ⟨1, (.seq (.reg [
  ia 2 (.mv (ci 0))]) (.seq (.reg [
  ia 3 (.mv (.t 0)),
ia 4 (.mv (.t 0)),
ia 5 (.nck (.t 4)),
ia 6 (.fad 12 (.t 5)),
ia 7 (.ld 1 false (.t 6)),
ia 8 (.call (.f 68) [(.t 3), (.t 7)]),
ia 9 (.fld 1 1 false (.t 8)),
ia 2 (.mv (.t 9))]) .ret)), [(.tmp 2)]⟩
theorem cc70 : ccF Tryz.prog [(46, [0, 0]), (57, [1, 0]), (81, [0, 0]), (46, [9]), (68, [8]), (70, [8]), (54, [8]), (69, [8]), (58, [8])] Tryz.f70 = some (stripF F70) := by kernel_rfl
def F71 : FnC := ⟨3, (.seq (.reg [
  ia 4 (.box 2 (.t 1)),
ia 5 (.box 2 (.t 2))]) (.reg [
  ir 7 (.mv (.t 0)),
ir 8 (.mv (.t 0)),
ir 9 (.nck (.t 8)),
ir 10 (.fad 0 (.t 9)),
ir 11 (.ld 2 true (.t 10)),
ir 12 (.ld 2 true (.t 4)),
ir 13 (.ld 2 true (.t 5)),
ir 14 (.call (.f 85) [(.t 11), (.t 12), (.t 13)]),
ir 6 (.mv (.t 14)),
ir 15 (.ext (.t 6) 0),
ir 16 (.ext (.t 6) 1),
ir 17 (.nck (.t 7)),
ir 18 (.fad 0 (.t 17)),
⟨.none, .none, (.st 2 (.t 18) (.t 15)), (.wr [])⟩])), []⟩
theorem cc71 : ccF Tryz.prog [(46, [0, 0]), (57, [1, 0]), (81, [0, 0]), (46, [9]), (68, [8]), (70, [8]), (54, [8]), (69, [8]), (58, [8])] Tryz.f71 = some (stripF F71) := by kernel_rfl
def F72 : FnC := ⟨3, (.seq (.reg [
  ia 3 (.box 2 (.t 0)),
ia 4 (.box 2 (.t 1)),
ia 5 (.box 2 (.t 2)),
ia 6 (.new [.nil, (.p (.i .i64 0))]),
ia 7 (.mv (ci 0))]) (.seq (.reg [
  ia 9 (.ld 2 true (.t 3)),
ia 10 (.build [.nil, (.p (.i .i64 0))] [(0, (2, (.t 9)))]),
ia 8 (.new [.nil, (.p (.i .i64 0))]),
io (.st 2 (.t 8) (.t 10))]) (.seq (.block 0 (.seq (.reg [
  ir 12 (.ld 2 true (.t 8)),
ir 13 (.ld 2 true (.t 4)),
ir 14 (.ld 2 true (.t 5)),
⟨(.some 15), .none, (.bsl 2 46 [(.p (.i .i64 0)), (.p (.i .i64 0))] 2 [(0, (.t 13)), (1, (.t 14))]), .ad⟩,
ia 16 (.call (.f 63) [(.t 12), (.t 15)]),
ia 17 (.not (.t 16)),
ia 18 (.mv (.t 17)),
ih 19 18 false (.ld 2 true (.t 4)),
ih 20 18 false (.ld 2 true (.t 5)),
ig 21 18 false (.eqg false [0, 0] (.t 19) (.t 20)),
ia 22 (.pick (.t 18) (.c (.a (.p (.b true)))) (.t 21)),
ia 23 (.mv (.t 22)),
ih 24 23 false (.ld 2 true (.t 8)),
ih 25 23 false (.ld 2 true (.t 8)),
ih 26 23 false (.ld 2 true (.t 4)),
ih 27 23 false (.call (.f 64) [(.t 25), (.t 26)]),
⟨(.some 28), (.some (23, false)), (.bsl 2 46 [(.p (.i .i64 0)), (.p (.i .i64 0))] 1 [(0, (.t 27))]), .ad⟩,
ig 29 23 false (.call (.f 63) [(.t 24), (.t 28)]),
ig 30 23 false (.not (.t 29)),
ia 31 (.pick (.t 23) (.c (.a (.p (.b true)))) (.t 30)),
ia 11 (.mv (.t 31))]) (.cond (.t 11) (.seq (.reg [
  ia 32 (.ld 2 true (.t 3)),
io (.st 2 (.t 6) (.t 32)),
ia 7 (.mv (ci 130))]) .ret) (.seq (.reg [
  ir 34 (.ld 2 true (.t 8)),
ir 35 (.ld 2 true (.t 4)),
ir 36 (.call (.f 64) [(.t 34), (.t 35)]),
ir 37 (.ld 2 true (.t 5)),
ia 38 (.eqg false [0, 0] (.t 36) (.t 37)),
ia 33 (.mv (.t 38))]) (.cond (.t 33) (.seq (.reg [
  ia 39 (.ld 2 true (.t 3)),
io (.st 2 (.t 6) (.t 39)),
ia 7 (.mv (ci 0))]) .ret) .skip))))) (.seq (.reg [
  ir 40 (.ld 2 true (.t 8)),
ir 41 (.ld 2 true (.t 5)),
ir 42 (.ld 2 true (.t 8)),
ir 43 (.ld 2 true (.t 4)),
ir 44 (.call (.f 64) [(.t 42), (.t 43)]),
ia 45 (.call (.f 86) [(.t 40), (.t 41), (.t 44)]),
ir 46 (.ext (.t 45) 0),
ir 47 (.ext (.t 45) 1),
io (.st 2 (.t 6) (.t 46)),
ia 7 (.mv (.t 47))]) .ret)))), [(.cell 6 2 true), (.tmp 7)]⟩
theorem cc72 : ccF Tryz.prog [(46, [0, 0]), (57, [1, 0]), (81, [0, 0]), (46, [9]), (68, [8]), (70, [8]), (54, [8]), (69, [8]), (58, [8])] Tryz.f72 = some (stripF F72) := by kernel_rfl
def F73 : FnC := ⟨2, (.seq (.reg [
  ia 2 (.box 2 (.t 0)),
ia 3 (.box 6 (.t 1)),
ia 4 (.new [.nil, (.p (.i .i64 0))]),
ia 5 (.mv (ci 0)),
ia 6 (.mv (ci 0))]) (.seq (.block 0 (.seq (.reg [
  ia 9 (.fad 0 (.t 3)),
ia 10 (.ld 1 false (.t 9)),
ia 11 (.bin .eql (.t 10) (ci 0)),
ia 12 (.mv (.t 11)),
ig 13 12 false (.fad 0 (.t 3)),
ig 14 12 false (.ld 1 false (.t 13)),
ig 15 12 false (.bin .eql (.t 14) (ci 1)),
ia 16 (.pick (.t 12) (.c (.a (.p (.b true)))) (.t 15)),
ia 17 (.mv (.t 16)),
ig 18 17 false (.ld 6 true (.t 3)),
ig 19 17 false (.call (.f 36) [(.t 18)]),
ig 20 17 false (.not (.t 19)),
ia 21 (.pick (.t 17) (.c (.a (.p (.b true)))) (.t 20)),
ia 8 (.mv (.t 21))]) (.cond (.t 8) (.seq (.reg [
  ia 22 (.ld 2 true (.t 2)),
io (.st 2 (.t 4) (.t 22)),
ia 5 (.mv (ci 0)),
ia 6 (.mv (ci 122))]) .ret) (.seq (.reg [
  ir 24 (.ld 2 true (.t 2)),
ir 25 (.call (.f 25) [(.t 24)]),
ir 26 (.fad 1 (.t 2)),
ir 27 (.ld 1 false (.t 26)),
ia 28 (.bin .geq (.t 25) (.t 27)),
ia 23 (.mv (.t 28))]) (.cond (.t 23) (.seq (.reg [
  ia 29 (.ld 2 true (.t 2)),
io (.st 2 (.t 4) (.t 29)),
ia 5 (.mv (ci 0)),
ia 6 (.mv (ci 121))]) .ret) .skip))))) (.seq (.reg [
  ia 30 (.ld 2 true (.t 2)),
ia 31 (.call (.f 75) [(.t 30)]),
io (.st 2 (.t 2) (.t 31))]) (.seq (.reg [
  ir 32 (.ld 6 true (.t 3)),
ir 33 (.call (.f 37) [(.t 32)]),
⟨(.some 34), .none, (.mslF 2 46 16 [(.p (.i .i64 0)), (.p (.i .i64 0))] (.t 33) (.t 33)), .ad⟩,
ir 35 (.fad 4 (.t 3)),
ir 36 (.ld 1 false (.t 35)),
ir 37 (.call (.f 87) [(.t 36)]),
ir 38 (.fad 5 (.t 3)),
io (.st 1 (.t 38) (.t 34)),
ia 39 (.fad 4 (.t 3)),
io (.st 1 (.t 39) (.t 37))]) (.seq (.reg [
  ia 40 (.fad 0 (.t 2)),
ia 41 (.ld 1 false (.t 40)),
ia 42 (.call (.f 88) [(.t 41), (.f 48)]),
ia 7 (.mv (.t 42))]) (.seq (.seq (.reg [
  ia 43 (.mv (.t 7)),
ia 44 (.bin .lss (.t 43) (ci 0))]) (.cond (.t 44) (.seq (.reg [
  ia 45 (.fad 0 (.t 2)),
ia 46 (.ld 1 false (.t 45)),
ia 47 (.len false (.t 46)),
ia 7 (.mv (.t 47))]) (.reg [
  ia 48 (.fad 0 (.t 2)),
ia 49 (.ld 1 false (.t 48)),
ia 50 (.ld 6 true (.t 3)),
ia 51 (.bsl 6 33 [(.p (.i .i64 0)), (.p (.i .i64 0)), (.p (.i .i64 0)), (.p (.s [])), .nil, .nil] 1 [(0, (.t 50))]),
ia 52 (.app 6 33 88 (.t 49) (.t 51)),
ia 53 (.fad 0 (.t 2)),
io (.st 1 (.t 53) (.t 52))])) .skip)) (.seq (.reg [
  ia 54 (.fad 0 (.t 2)),
ia 55 (.ld 1 false (.t 54)),
ia 56 (.mv (.t 7)),
ia 57 (.ld 6 true (.t 3)),
ia 58 (.ias 6 (.t 55) (.t 56)),
io (.st 6 (.t 58) (.t 57))]) (.seq (.reg [
  ia 59 (.ld 2 true (.t 2)),
ia 60 (.mv (.t 7)),
io (.st 2 (.t 4) (.t 59)),
ia 5 (.mv (.t 60)),
ia 6 (.mv (ci 0))]) .ret)))))))), [(.cell 4 2 true), (.tmp 5), (.tmp 6)]⟩
theorem cc73 : ccF Tryz.prog [(46, [0, 0]), (57, [1, 0]), (81, [0, 0]), (46, [9]), (68, [8]), (70, [8]), (54, [8]), (69, [8]), (58, [8])] Tryz.f73 = some (stripF F73) := by kernel_rfl
def F74b0 : C := (.seq (.reg [
  ia 8 (.bin .lss (.t 7) (.t 6))]) (.seq (.cond (.t 8) .skip (.exit 0)) (.seq (.block 1 (.seq (.reg [
  ia 9 (.mv (.t 7)),
ia 10 (.ias 2 (.t 5) (.t 7)),
ia 11 (.ld 2 true (.t 10)),
ia 4 (.new [(.p (.i .i64 0)), (.p (.i .i64 0))]),
ia 3 (.mv (.t 9)),
io (.st 2 (.t 4) (.t 11))]) (.reg [
  ir 12 (.ld 1 false (.t 1)),
ir 13 (.ld 2 true (.t 4)),
ir 14 (.ld 1 false (.t 2)),
ir 15 (.mv (.t 3)),
ir 16 (.ias 1 (.t 14) (.t 15)),
ir 17 (.ld 1 false (.t 16)),
ir 18 (.call (.f 40) [(.t 17), (ci 0)]),
ia 19 (.call (.f 53) [(.t 12), (.t 13), (.t 18)])]))) (.reg [
  ia 20 (.bin .add (.t 7) (ci 1)),
ia 7 (.mv (.t 20))]))))
def F74 : FnC := ⟨3, (.seq (.reg [
  ia 5 (.ld 1 false (.t 0)),
ia 6 (.len false (.t 5)),
ia 7 (.mv (ci 0))]) (.block 0 (.loop F74b0))), []⟩
theorem cc74 : ccF Tryz.prog [(46, [0, 0]), (57, [1, 0]), (81, [0, 0]), (46, [9]), (68, [8]), (70, [8]), (54, [8]), (69, [8]), (58, [8])] Tryz.f74 = some (stripF F74) := by kernel_rfl
def F75 : FnC := ⟨1, (.seq (.reg [
  ia 1 (.box 2 (.t 0)),
ia 2 (.new [.nil, (.p (.i .i64 0))])]) (.seq (.reg [
  ir 3 (.fad 0 (.t 1)),
ir 4 (.ld 1 false (.t 3)),
ir 5 (.len false (.t 4)),
ir 6 (.bin .add (.t 5) (ci 1)),
⟨(.some 7), .none, (.msl 6 33 88 [(.p (.i .i64 0)), (.p (.i .i64 0)), (.p (.i .i64 0)), (.p (.s [])), .nil, .nil] (ci 0) (.t 6)), .ad⟩,
ir 8 (.fad 0 (.t 1)),
ir 9 (.ld 1 false (.t 8)),
ia 10 (.app 6 33 88 (.t 7) (.t 9)),
ia 11 (.fad 0 (.t 1)),
io (.st 1 (.t 11) (.t 10))]) (.seq (.reg [
  ia 12 (.ld 2 true (.t 1)),
io (.st 2 (.t 2) (.t 12))]) .ret))), [(.cell 2 2 true)]⟩
theorem cc75 : ccF Tryz.prog [(46, [0, 0]), (57, [1, 0]), (81, [0, 0]), (46, [9]), (68, [8]), (70, [8]), (54, [8]), (69, [8]), (58, [8])] Tryz.f75 = some (stripF F75) := by kernel_rfl
def F76 : FnC := ⟨1, (.seq (.reg [
  ia 1 (.box 4 (.t 0)),
ia 2 (.new [(.p (.i .i64 0)), (.p (.i .i64 0)), (.p (.s [])), .nil]),
ia 3 (.mv (ci 0))]) (.seq (.seq (.reg [
  ia 4 (.ld 4 true (.t 1)),
ia 5 (.call (.f 89) [(.t 4), (ci 4611686018427387904)]),
ia 6 (.not (.t 5))]) (.cond (.t 6) (.seq (.reg [
  ia 7 (.ld 4 true (.t 1)),
io (.st 4 (.t 2) (.t 7)),
ia 3 (.mv (ci 0))]) .ret) .skip)) (.seq (.reg [
  ia 8 (.ld 4 true (.t 1)),
ia 9 (.call (.f 90) [(.t 8)]),
ia 10 (.ext (.t 9) 0),
ia 11 (.ext (.t 9) 1),
io (.st 4 (.t 2) (.t 10)),
ia 3 (.mv (.t 11))]) .ret))), [(.cell 2 4 true), (.tmp 3)]⟩
theorem cc76 : ccF Tryz.prog [(46, [0, 0]), (57, [1, 0]), (81, [0, 0]), (46, [9]), (68, [8]), (70, [8]), (54, [8]), (69, [8]), (58, [8])] Tryz.f76 = some (stripF F76) := by kernel_rfl
def F77 : FnC := ⟨2, (.seq (.reg [
  ia 2 (.box 2 (.t 0)),
ia 3 (.mv (.c (.a (.p (.b false)))))]) (.seq (.reg [
  ia 4 (.fad 0 (.t 2)),
ia 5 (.ld 1 false (.t 4)),
ia 6 (.fad 0 (.t 1)),
ia 7 (.ld 1 false (.t 6)),
ia 8 (.bin .eql (.t 5) (.t 7)),
ia 3 (.mv (.t 8))]) .ret)), [(.tmp 3)]⟩
theorem cc77 : ccF Tryz.prog [(46, [0, 0]), (57, [1, 0]), (81, [0, 0]), (46, [9]), (68, [8]), (70, [8]), (54, [8]), (69, [8]), (58, [8])] Tryz.f77 = some (stripF F77) := by kernel_rfl
def F78 : FnC := ⟨2, (.seq (.reg [
  ia 4 (.mv (.c (.a (.p (.b false)))))]) (.seq (.reg [
  ia 5 (.mv (.t 0)),
ia 6 (.mv (.t 1)),
ia 7 (.call (.f 81) [(.t 5), (.t 6)]),
ia 8 (.bin .geq (.t 7) (ci 0)),
ia 4 (.mv (.t 8))]) .ret)), [(.tmp 4)]⟩
theorem cc78 : ccF Tryz.prog [(46, [0, 0]), (57, [1, 0]), (81, [0, 0]), (46, [9]), (68, [8]), (70, [8]), (54, [8]), (69, [8]), (58, [8])] Tryz.f78 = some (stripF F78) := by kernel_rfl
def F79 : FnC := ⟨2, (.seq (.reg [
  ia 4 (.mv (.c (.a (.p (.b false)))))]) (.seq (.reg [
  ia 5 (.mv (.t 0)),
ia 6 (.mv (.t 1)),
ia 7 (.call (.f 91) [(.t 5), (.t 6)]),
ia 8 (.bin .geq (.t 7) (ci 0)),
ia 4 (.mv (.t 8))]) .ret)), [(.tmp 4)]⟩
theorem cc79 : ccF Tryz.prog [(46, [0, 0]), (57, [1, 0]), (81, [0, 0]), (46, [9]), (68, [8]), (70, [8]), (54, [8]), (69, [8]), (58, [8])] Tryz.f79 = some (stripF F79) := by kernel_rfl
def F80 : FnC := ⟨2, (.seq (.reg [
  ia 2 (.box 2 (.t 0)),
ia 3 (.mv (.c (.a (.p (.b false)))))]) (.seq (.reg [
  ia 4 (.fad 0 (.t 2)),
ia 5 (.ld 1 false (.t 4)),
ia 6 (.bin .lss (.t 5) (ci 0)),
ia 7 (.mv (.t 6)),
ih 8 7 false (.fad 0 (.t 2)),
ih 9 7 false (.ld 1 false (.t 8)),
ih 10 7 false (.fad 0 (.t 1)),
ih 11 7 false (.fad 0 (.t 10)),
ih 12 7 false (.ld 1 false (.t 11)),
ih 13 7 false (.len false (.t 12)),
ig 14 7 false (.bin .geq (.t 9) (.t 13)),
ia 15 (.pick (.t 7) (.c (.a (.p (.b true)))) (.t 14)),
ia 16 (.mv (.t 15)),
ig 17 16 false (.fad 1 (.t 2)),
ig 18 16 false (.ld 1 false (.t 17)),
ig 19 16 false (.bin .lss (.t 18) (ci 0)),
ia 20 (.pick (.t 16) (.c (.a (.p (.b true)))) (.t 19)),
ia 21 (.mv (.t 20)),
ih 22 21 false (.fad 1 (.t 2)),
ih 23 21 false (.ld 1 false (.t 22)),
ih 24 21 false (.fad 0 (.t 1)),
ih 25 21 false (.fad 0 (.t 24)),
ih 26 21 false (.ld 1 false (.t 25)),
ih 27 21 false (.fad 0 (.t 2)),
ih 28 21 false (.ld 1 false (.t 27)),
ih 29 21 false (.ias 6 (.t 26) (.t 28)),
ih 30 21 false (.fad 5 (.t 29)),
ih 31 21 false (.ld 1 false (.t 30)),
ih 32 21 false (.len false (.t 31)),
ig 33 21 false (.bin .geq (.t 23) (.t 32)),
ia 34 (.pick (.t 21) (.c (.a (.p (.b true)))) (.t 33)),
ia 3 (.mv (.t 34))]) .ret)), [(.tmp 3)]⟩
theorem cc80 : ccF Tryz.prog [(46, [0, 0]), (57, [1, 0]), (81, [0, 0]), (46, [9]), (68, [8]), (70, [8]), (54, [8]), (69, [8]), (58, [8])] Tryz.f80 = some (stripF F80) := by kernel_rfl
def F81b0 : C := (.seq (.reg [
  ia 9 (.bin .lss (.t 8) (.t 7))]) (.seq (.cond (.t 9) .skip (.exit 0)) (.seq (.block 1 (.seq (.reg [
  ia 10 (.mv (.t 8)),
ia 5 (.mv (.t 10))]) (.seq (.reg [
  ia 11 (.mv (.t 1)),
ia 12 (.mv (.t 0)),
ia 13 (.mv (.t 5)),
ia 14 (.ias 2 (.t 12) (.t 13)),
ia 15 (.ld 2 true (.t 14)),
ia 16 (.call (.t 11) [(.t 15)])]) (.cond (.t 16) (.seq (.reg [
  ia 17 (.mv (.t 5)),
ia 4 (.mv (.t 17))]) .ret) .skip)))) (.reg [
  ia 18 (.bin .add (.t 8) (ci 1)),
ia 8 (.mv (.t 18))]))))
def F81 : FnC := ⟨2, (.seq (.reg [
  ia 4 (.mv (ci 0))]) (.seq (.seq (.reg [
  ia 6 (.mv (.t 0)),
ia 7 (.len false (.t 6)),
ia 8 (.mv (ci 0))]) (.block 0 (.loop F81b0))) (.seq (.reg [
  ia 4 (.mv (.c (.a (.p (.i .i64 (-1))))))]) .ret))), [(.tmp 4)]⟩
theorem cc81 : ccF Tryz.prog [(46, [0, 0]), (57, [1, 0]), (81, [0, 0]), (46, [9]), (68, [8]), (70, [8]), (54, [8]), (69, [8]), (58, [8])] Tryz.f81 = some (stripF F81) := by kernel_rfl
def F82 : FnC := ⟨2, (.seq (.reg [
  ia 2 (.box 2 (.t 0)),
ia 3 (.mv (.c (.a (.p (.b false)))))]) (.seq (.reg [
  ia 4 (.fad 0 (.t 2)),
ia 5 (.ld 1 false (.t 4)),
ia 6 (.fad 3 (.t 1)),
ia 7 (.ld 1 false (.t 6)),
ia 8 (.bin .eql (.t 5) (.t 7)),
ia 9 (.mv (.t 8)),
ig 10 9 true (.fad 1 (.t 2)),
ig 11 9 true (.ld 1 false (.t 10)),
ig 12 9 true (.fad 5 (.t 1)),
ig 13 9 true (.ld 1 false (.t 12)),
ig 14 9 true (.len false (.t 13)),
ig 15 9 true (.bin .sub (.t 14) (ci 1)),
ig 16 9 true (.bin .eql (.t 11) (.t 15)),
ia 17 (.pick (.t 9) (.t 16) (.c (.a (.p (.b false))))),
ia 3 (.mv (.t 17))]) .ret)), [(.tmp 3)]⟩
theorem cc82 : ccF Tryz.prog [(46, [0, 0]), (57, [1, 0]), (81, [0, 0]), (46, [9]), (68, [8]), (70, [8]), (54, [8]), (69, [8]), (58, [8])] Tryz.f82 = some (stripF F82) := by kernel_rfl
def F83 : FnC := ⟨1, (.seq (.reg [
  ia 2 (.new [(.p (.i .i64 0)), (.p (.i .i64 0)), (.p (.i .i64 0)), (.p (.s [])), .nil, .nil])]) (.seq (.reg [
  ia 3 (.mv (.c (.a (.p (.s [70, 97, 108, 115, 101])))))]) (.seq (.seq (.reg [
  ia 4 (.mv (.t 0))]) (.cond (.t 4) (.reg [
  ia 3 (.mv (.c (.a (.p (.s [84, 114, 117, 101])))))]) .skip)) (.seq (.reg [
  ia 5 (.mv (.t 3)),
ia 6 (.mslF 2 46 16 [(.p (.i .i64 0)), (.p (.i .i64 0))] (ci 1) (ci 1)),
ia 7 (.build [(.p (.i .i64 0)), (.p (.i .i64 0)), (.p (.i .i64 0)), (.p (.s [])), .nil, .nil] [(0, (1, (ci 8))), (3, (1, (.t 5))), (5, (1, (.t 6)))]),
io (.st 6 (.t 2) (.t 7))]) .ret)))), [(.cell 2 6 true)]⟩
theorem cc83 : ccF Tryz.prog [(46, [0, 0]), (57, [1, 0]), (81, [0, 0]), (46, [9]), (68, [8]), (70, [8]), (54, [8]), (69, [8]), (58, [8])] Tryz.f83 = some (stripF F83) := by kernel_rfl
def F84 : FnC := ⟨3, (.seq (.reg [
  ia 3 (.box 2 (.t 0)),
ia 4 (.box 2 (.t 1)),
ia 5 (.box 2 (.t 2)),
ia 6 (.new [.nil, (.p (.i .i64 0))]),
ia 7 (.mv (ci 0))]) (.seq (.reg [
  ia 9 (.ld 2 true (.t 3)),
ia 10 (.build [.nil, (.p (.i .i64 0))] [(0, (2, (.t 9)))]),
ia 8 (.new [.nil, (.p (.i .i64 0))]),
io (.st 2 (.t 8) (.t 10))]) (.seq (.block 0 (.seq (.reg [
  ir 12 (.ld 2 true (.t 8)),
ir 13 (.ld 2 true (.t 4)),
ir 14 (.ld 2 true (.t 5)),
⟨(.some 15), .none, (.bsl 2 46 [(.p (.i .i64 0)), (.p (.i .i64 0))] 2 [(0, (.t 13)), (1, (.t 14))]), .ad⟩,
ia 16 (.call (.f 63) [(.t 12), (.t 15)]),
ia 17 (.not (.t 16)),
ia 18 (.mv (.t 17)),
ih 19 18 false (.ld 2 true (.t 4)),
ih 20 18 false (.ld 2 true (.t 5)),
ig 21 18 false (.eqg false [0, 0] (.t 19) (.t 20)),
ia 22 (.pick (.t 18) (.c (.a (.p (.b true)))) (.t 21)),
ia 23 (.mv (.t 22)),
ih 24 23 false (.ld 2 true (.t 8)),
ih 25 23 false (.ld 2 true (.t 8)),
ih 26 23 false (.ld 2 true (.t 4)),
ih 27 23 false (.call (.f 64) [(.t 25), (.t 26)]),
ih 28 23 false (.ld 2 true (.t 8)),
ih 29 23 false (.ld 2 true (.t 5)),
ih 30 23 false (.call (.f 64) [(.t 28), (.t 29)]),
⟨(.some 31), (.some (23, false)), (.bsl 2 46 [(.p (.i .i64 0)), (.p (.i .i64 0))] 2 [(0, (.t 27)), (1, (.t 30))]), .ad⟩,
ig 32 23 false (.call (.f 63) [(.t 24), (.t 31)]),
ig 33 23 false (.not (.t 32)),
ia 34 (.pick (.t 23) (.c (.a (.p (.b true)))) (.t 33)),
ia 11 (.mv (.t 34))]) (.cond (.t 11) (.seq (.reg [
  ia 35 (.ld 2 true (.t 3)),
io (.st 2 (.t 6) (.t 35)),
ia 7 (.mv (ci 130))]) .ret) (.seq (.reg [
  ir 37 (.ld 2 true (.t 8)),
ir 38 (.ld 2 true (.t 4)),
ir 39 (.call (.f 64) [(.t 37), (.t 38)]),
ir 40 (.ld 2 true (.t 5)),
ia 41 (.eqg false [0, 0] (.t 39) (.t 40)),
ia 36 (.mv (.t 41))]) (.cond (.t 36) (.seq (.reg [
  ia 42 (.ld 2 true (.t 3)),
io (.st 2 (.t 6) (.t 42)),
ia 7 (.mv (ci 0))]) .ret) .skip))))) (.seq (.reg [
  ir 43 (.ld 2 true (.t 8)),
ir 44 (.ld 2 true (.t 8)),
ir 45 (.ld 2 true (.t 4)),
ir 46 (.call (.f 64) [(.t 44), (.t 45)]),
ir 47 (.ld 2 true (.t 8)),
ir 48 (.ld 2 true (.t 5)),
ir 49 (.call (.f 64) [(.t 47), (.t 48)]),
ia 50 (.call (.f 86) [(.t 43), (.t 46), (.t 49)]),
ir 51 (.ext (.t 50) 0),
ir 52 (.ext (.t 50) 1),
io (.st 2 (.t 6) (.t 51)),
ia 7 (.mv (.t 52))]) .ret)))), [(.cell 6 2 true), (.tmp 7)]⟩
theorem cc84 : ccF Tryz.prog [(46, [0, 0]), (57, [1, 0]), (81, [0, 0]), (46, [9]), (68, [8]), (70, [8]), (54, [8]), (69, [8]), (58, [8])] Tryz.f84 = some (stripF F84) := by kernel_rfl
def F85 : FnC := ⟨3, (.seq (.reg [
  ia 3 (.box 2 (.t 0)),
ia 4 (.box 2 (.t 1)),
ia 5 (.box 2 (.t 2)),
ia 6 (.new [.nil, (.p (.i .i64 0))]),
ia 7 (.mv (ci 0))]) (.seq (.reg [
  ia 8 (.ld 2 true (.t 3)),
ia 9 (.build [.nil, (.p (.i .i64 0))] [(0, (2, (.t 8)))]),
ia 10 (.ld 2 true (.t 4)),
ia 11 (.ld 2 true (.t 5)),
ia 12 (.call (.f 86) [(.t 9), (.t 10), (.t 11)]),
ia 13 (.ext (.t 12) 0),
ia 14 (.ext (.t 12) 1),
io (.st 2 (.t 6) (.t 13)),
ia 7 (.mv (.t 14))]) .ret)), [(.cell 6 2 true), (.tmp 7)]⟩
theorem cc85 : ccF Tryz.prog [(46, [0, 0]), (57, [1, 0]), (81, [0, 0]), (46, [9]), (68, [8]), (70, [8]), (54, [8]), (69, [8]), (58, [8])] Tryz.f85 = some (stripF F85) := by kernel_rfl
def F86 : FnC := ⟨3, (.seq (.reg [
  ia 3 (.box 2 (.t 0)),
ia 4 (.box 2 (.t 1)),
ia 5 (.box 2 (.t 2)),
ia 6 (.new [.nil, (.p (.i .i64 0))]),
ia 7 (.mv (ci 0))]) (.seq (.seq (.reg [
  ia 8 (.ld 2 true (.t 3)),
ia 9 (.ld 2 true (.t 4)),
ia 10 (.ld 2 true (.t 5)),
ia 11 (.bsl 2 46 [(.p (.i .i64 0)), (.p (.i .i64 0))] 2 [(0, (.t 9)), (1, (.t 10))]),
ia 12 (.call (.f 63) [(.t 8), (.t 11)]),
ia 13 (.not (.t 12)),
ia 14 (.mv (.t 13)),
ig 15 14 false (.ld 2 true (.t 4)),
ig 16 14 false (.ld 2 true (.t 5)),
ig 17 14 false (.eqg false [0, 0] (.t 15) (.t 16)),
ia 18 (.pick (.t 14) (.c (.a (.p (.b true)))) (.t 17))]) (.cond (.t 18) (.seq (.reg [
  ia 19 (.fad 0 (.t 3)),
ia 20 (.ld 2 true (.t 19)),
io (.st 2 (.t 6) (.t 20)),
ia 7 (.mv (ci 130))]) .ret) .skip)) (.seq (.reg [
  ir 21 (.ld 2 true (.t 3)),
ir 22 (.ld 2 true (.t 4)),
ir 23 (.ld 2 true (.t 5)),
ir 24 (.call (.f 92) [(.t 21), (.t 22), (.t 23)]),
ir 25 (.ld 2 true (.t 5)),
ir 26 (.ld 2 true (.t 4)),
ia 27 (.call (.f 92) [(.t 24), (.t 25), (.t 26)]),
ia 28 (.fld 0 2 true (.t 27)),
io (.st 2 (.t 6) (.t 28)),
ia 7 (.mv (ci 0))]) .ret))), [(.cell 6 2 true), (.tmp 7)]⟩
theorem cc86 : ccF Tryz.prog [(46, [0, 0]), (57, [1, 0]), (81, [0, 0]), (46, [9]), (68, [8]), (70, [8]), (54, [8]), (69, [8]), (58, [8])] Tryz.f86 = some (stripF F86) := by kernel_rfl
def F87 : FnC := ⟨1, (.seq (.reg [
  ia 2 (.mv (.c (.a .nil)))]) (.seq (.seq (.reg [
  ia 3 (.mv (.t 0)),
ia 4 (.nq false (.t 3))]) (.cond (.t 4) (.seq (.reg [
  ia 2 (.mv (.c (.a .nil)))]) .ret) .skip)) (.seq (.reg [
  ia 5 (.bsl 2 57 [(.p (.s [])), (.p (.i .i64 0))] 0 []),
ia 6 (.mv (.t 0)),
ia 7 (.app 2 57 24 (.t 5) (.t 6)),
ia 2 (.mv (.t 7))]) .ret))), [(.tmp 2)]⟩
theorem cc87 : ccF Tryz.prog [(46, [0, 0]), (57, [1, 0]), (81, [0, 0]), (46, [9]), (68, [8]), (70, [8]), (54, [8]), (69, [8]), (58, [8])] Tryz.f87 = some (stripF F87) := by kernel_rfl
def F88b0 : C := (.seq (.reg [
  ia 9 (.bin .lss (.t 8) (.t 7))]) (.seq (.cond (.t 9) .skip (.exit 0)) (.seq (.block 1 (.seq (.reg [
  ia 10 (.mv (.t 8)),
ia 5 (.mv (.t 10))]) (.seq (.reg [
  ia 11 (.mv (.t 1)),
ia 12 (.mv (.t 0)),
ia 13 (.mv (.t 5)),
ia 14 (.ias 6 (.t 12) (.t 13)),
ia 15 (.ld 6 true (.t 14)),
ia 16 (.call (.t 11) [(.t 15)])]) (.cond (.t 16) (.seq (.reg [
  ia 17 (.mv (.t 5)),
ia 4 (.mv (.t 17))]) .ret) .skip)))) (.reg [
  ia 18 (.bin .add (.t 8) (ci 1)),
ia 8 (.mv (.t 18))]))))
def F88 : FnC := ⟨2, (.seq (.reg [
  ia 4 (.mv (ci 0))]) (.seq (.seq (.reg [
  ia 6 (.mv (.t 0)),
ia 7 (.len false (.t 6)),
ia 8 (.mv (ci 0))]) (.block 0 (.loop F88b0))) (.seq (.reg [
  ia 4 (.mv (.c (.a (.p (.i .i64 (-1))))))]) .ret))), [(.tmp 4)]⟩
theorem cc88 : ccF Tryz.prog [(46, [0, 0]), (57, [1, 0]), (81, [0, 0]), (46, [9]), (68, [8]), (70, [8]), (54, [8]), (69, [8]), (58, [8])] Tryz.f88 = some (stripF F88) := by kernel_rfl
def F89 : FnC := ⟨2, (.seq (.reg [
  ia 2 (.box 4 (.t 0)),
ia 4 (.mv (.c (.a (.p (.b false)))))]) (.seq (.reg [
  ia 5 (.ld 4 true (.t 2)),
ia 6 (.mv (.t 1)),
ia 7 (.call (.f 93) [(.t 5), (.t 6), (.c (.a (.p (.b false))))]),
ia 4 (.mv (.t 7))]) .ret)), [(.tmp 4)]⟩
theorem cc89 : ccF Tryz.prog [(46, [0, 0]), (57, [1, 0]), (81, [0, 0]), (46, [9]), (68, [8]), (70, [8]), (54, [8]), (69, [8]), (58, [8])] Tryz.f89 = some (stripF F89) := by kernel_rfl
def F90 : FnC := ⟨1, (.seq (.reg [
  ia 1 (.box 4 (.t 0)),
ia 2 (.new [(.p (.i .i64 0)), (.p (.i .i64 0)), (.p (.s [])), .nil]),
ia 3 (.mv (ci 0))]) (.seq (.seq (.reg [
  ia 6 (.fad 0 (.t 1)),
ia 7 (.ld 1 false (.t 6)),
ia 8 (.bin .neq (.t 7) (ci 3)),
ia 9 (.mv (.t 8)),
ig 10 9 true (.fad 0 (.t 1)),
ig 11 9 true (.ld 1 false (.t 10)),
ig 12 9 true (.bin .neq (.t 11) (ci 5)),
ia 13 (.pick (.t 9) (.t 12) (.c (.a (.p (.b false))))),
ia 14 (.mv (.t 13)),
ig 15 14 true (.fad 0 (.t 1)),
ig 16 14 true (.ld 1 false (.t 15)),
ig 17 14 true (.bin .neq (.t 16) (ci 8)),
ia 18 (.pick (.t 14) (.t 17) (.c (.a (.p (.b false)))))]) (.cond (.t 18) (.seq (.reg [
  ia 19 (.ld 4 true (.t 1)),
io (.st 4 (.t 2) (.t 19)),
ia 3 (.mv (ci 0))]) .ret) .skip)) (.seq (.reg [
  ia 20 (.fad 3 (.t 1)),
ia 21 (.ld 1 false (.t 20)),
ia 22 (.ias 4 (.t 21) (ci 0)),
ia 23 (.ld 4 true (.t 22)),
ia 4 (.new [(.p (.i .i64 0)), (.p (.i .i64 0)), (.p (.s [])), .nil]),
io (.st 4 (.t 4) (.t 23))]) (.seq (.seq (.reg [
  ia 24 (.ld 4 true (.t 4)),
ia 25 (.call (.f 94) [(.t 24)]),
ia 26 (.not (.t 25))]) (.cond (.t 26) (.seq (.reg [
  ia 27 (.ld 4 true (.t 1)),
ia 28 (.call (.f 95) [(.t 27), (ci 0)]),
ia 29 (.ext (.t 28) 0),
ia 30 (.ext (.t 28) 1),
io (.st 4 (.t 2) (.t 29)),
ia 3 (.mv (.t 30))]) .ret) .skip)) (.seq (.seq (.reg [
  ia 31 (.fad 0 (.t 1)),
ia 32 (.ld 1 false (.t 31)),
ia 33 (.bin .eql (.t 32) (ci 5))]) (.cond (.t 33) (.seq (.reg [
  ia 34 (.ld 4 true (.t 1)),
ia 35 (.call (.f 96) [(.t 34)]),
ia 36 (.ext (.t 35) 0),
ia 37 (.ext (.t 35) 1),
io (.st 4 (.t 2) (.t 36)),
ia 3 (.mv (.t 37))]) .ret) .skip)) (.seq (.seq (.reg [
  ia 38 (.fad 0 (.t 1)),
ia 39 (.ld 1 false (.t 38)),
ia 40 (.bin .eql (.t 39) (ci 3))]) (.cond (.t 40) (.seq (.seq (.reg [
  ia 41 (.fad 0 (.t 4)),
ia 42 (.ld 1 false (.t 41)),
ia 43 (.bin .eql (.t 42) (ci 2))]) (.cond (.t 43) (.seq (.reg [
  ir 44 (.fad 3 (.t 4)),
ir 45 (.ld 1 false (.t 44)),
ir 46 (.ias 4 (.t 45) (ci 0)),
ir 47 (.ld 4 true (.t 46)),
ir 48 (.fad 3 (.t 1)),
ir 49 (.ld 1 false (.t 48)),
ir 50 (.ias 4 (.t 49) (ci 1)),
ir 51 (.ld 4 true (.t 50)),
ia 52 (.call (.f 97) [(.t 47), (ci 0), (.t 51)]),
io (.st 4 (.t 2) (.t 52)),
ia 3 (.mv (ci 1))]) .ret) .skip)) (.seq (.reg [
  ia 53 (.call (.f 98) []),
ia 54 (.ext (.t 53) 0),
ia 55 (.ext (.t 53) 1),
io (.st 4 (.t 2) (.t 54)),
ia 3 (.mv (.t 55))]) .ret)) .skip)) (.seq (.reg [
  ia 56 (.fad 3 (.t 1)),
ia 57 (.ld 1 false (.t 56)),
ia 58 (.ias 4 (.t 57) (ci 1)),
ia 59 (.ld 4 true (.t 58)),
ia 5 (.new [(.p (.i .i64 0)), (.p (.i .i64 0)), (.p (.s [])), .nil]),
io (.st 4 (.t 5) (.t 59))]) (.seq (.seq (.reg [
  ia 60 (.fad 0 (.t 4)),
ia 61 (.ld 1 false (.t 60)),
ia 62 (.bin .neq (.t 61) (ci 7))]) (.cond (.t 62) (.seq (.reg [
  ia 63 (.call (.f 98) []),
ia 64 (.ext (.t 63) 0),
ia 65 (.ext (.t 63) 1),
io (.st 4 (.t 2) (.t 64)),
ia 3 (.mv (.t 65))]) .ret) .skip)) (.seq (.seq (.reg [
  ia 66 (.ld 4 true (.t 5)),
ia 67 (.call (.f 94) [(.t 66)]),
ia 68 (.not (.t 67))]) (.cond (.t 68) (.seq (.reg [
  ia 69 (.ld 4 true (.t 1)),
ia 70 (.call (.f 95) [(.t 69), (ci 1)]),
ia 71 (.ext (.t 70) 0),
ia 72 (.ext (.t 70) 1),
io (.st 4 (.t 2) (.t 71)),
ia 3 (.mv (.t 72))]) .ret) .skip)) (.seq (.seq (.reg [
  ia 73 (.fad 0 (.t 5)),
ia 74 (.ld 1 false (.t 73)),
ia 75 (.bin .neq (.t 74) (ci 7))]) (.cond (.t 75) (.seq (.reg [
  ia 76 (.call (.f 98) []),
ia 77 (.ext (.t 76) 0),
ia 78 (.ext (.t 76) 1),
io (.st 4 (.t 2) (.t 77)),
ia 3 (.mv (.t 78))]) .ret) .skip)) (.seq (.reg [
  ia 79 (.fad 2 (.t 1)),
ia 80 (.ld 1 false (.t 79)),
ia 81 (.fad 1 (.t 4)),
ia 82 (.ld 1 false (.t 81)),
ia 83 (.fad 1 (.t 5)),
ia 84 (.ld 1 false (.t 83)),
ia 85 (.call (.f 99) [(.t 80), (.t 82), (.t 84)]),
ia 86 (.ext (.t 85) 0),
ia 87 (.ext (.t 85) 1),
io (.st 4 (.t 2) (.t 86)),
ia 3 (.mv (.t 87))]) .ret))))))))))), [(.cell 2 4 true), (.tmp 3)]⟩
theorem cc90 : ccF Tryz.prog [(46, [0, 0]), (57, [1, 0]), (81, [0, 0]), (46, [9]), (68, [8]), (70, [8]), (54, [8]), (69, [8]), (58, [8])] Tryz.f90 = some (stripF F90) := by kernel_rfl
def F91b0 : C := (.seq (.reg [
  ia 9 (.bin .lss (.t 8) (.t 7))]) (.seq (.cond (.t 9) .skip (.exit 0)) (.seq (.block 1 (.seq (.reg [
  ia 10 (.mv (.t 8)),
ia 5 (.mv (.t 10))]) (.seq (.reg [
  ia 11 (.mv (.t 1)),
ia 12 (.mv (.t 0)),
ia 13 (.mv (.t 5)),
ia 14 (.ias 2 (.t 12) (.t 13)),
ia 15 (.ld 2 true (.t 14)),
ia 16 (.call (.t 11) [(.t 15)])]) (.cond (.t 16) (.seq (.reg [
  ia 17 (.mv (.t 5)),
ia 4 (.mv (.t 17))]) .ret) .skip)))) (.reg [
  ia 18 (.bin .add (.t 8) (ci 1)),
ia 8 (.mv (.t 18))]))))
def F91 : FnC := ⟨2, (.seq (.reg [
  ia 4 (.mv (ci 0))]) (.seq (.seq (.reg [
  ia 6 (.mv (.t 0)),
ia 7 (.len false (.t 6)),
ia 8 (.mv (ci 0))]) (.block 0 (.loop F91b0))) (.seq (.reg [
  ia 4 (.mv (.c (.a (.p (.i .i64 (-1))))))]) .ret))), [(.tmp 4)]⟩
theorem cc91 : ccF Tryz.prog [(46, [0, 0]), (57, [1, 0]), (81, [0, 0]), (46, [9]), (68, [8]), (70, [8]), (54, [8]), (69, [8]), (58, [8])] Tryz.f91 = some (stripF F91) := by kernel_rfl
def F92 : FnC := ⟨3, (.seq (.reg [
  ia 3 (.box 2 (.t 0)),
ia 4 (.box 2 (.t 1)),
ia 5 (.box 2 (.t 2)),
ia 6 (.new [.nil, (.p (.i .i64 0))])]) (.seq (.reg [
  ia 8 (.fad 0 (.t 3)),
ia 9 (.fad 0 (.t 8)),
ia 10 (.ld 1 false (.t 9)),
ia 11 (.fad 0 (.t 4)),
ia 12 (.ld 1 false (.t 11)),
ia 13 (.ias 6 (.t 10) (.t 12)),
ia 14 (.ld 6 true (.t 13)),
ia 7 (.new [(.p (.i .i64 0)), (.p (.i .i64 0)), (.p (.i .i64 0)), (.p (.s [])), .nil, .nil]),
io (.st 6 (.t 7) (.t 14))]) (.seq (.reg [
  ia 15 (.fad 5 (.t 7)),
ia 16 (.ld 1 false (.t 15)),
ia 17 (.call (.f 100) [(.t 16)]),
ia 18 (.fad 5 (.t 7)),
io (.st 1 (.t 18) (.t 17))]) (.seq (.reg [
  ia 19 (.fad 5 (.t 7)),
ia 20 (.ld 1 false (.t 19)),
ia 21 (.fad 1 (.t 4)),
ia 22 (.ld 1 false (.t 21)),
ia 23 (.ld 2 true (.t 5)),
ia 24 (.ias 2 (.t 20) (.t 22)),
io (.st 2 (.t 24) (.t 23))]) (.seq (.reg [
  ia 25 (.fad 0 (.t 3)),
ia 26 (.fad 0 (.t 25)),
ia 27 (.ld 1 false (.t 26)),
ia 28 (.call (.f 101) [(.t 27)]),
ia 29 (.fad 0 (.t 3)),
ia 30 (.fad 0 (.t 29)),
io (.st 1 (.t 30) (.t 28))]) (.seq (.reg [
  ia 31 (.fad 0 (.t 3)),
ia 32 (.fad 0 (.t 31)),
ia 33 (.ld 1 false (.t 32)),
ia 34 (.fad 0 (.t 4)),
ia 35 (.ld 1 false (.t 34)),
ia 36 (.ld 6 true (.t 7)),
ia 37 (.ias 6 (.t 33) (.t 35)),
io (.st 6 (.t 37) (.t 36))]) (.seq (.reg [
  ia 38 (.ld 2 true (.t 3)),
io (.st 2 (.t 6) (.t 38))]) .ret))))))), [(.cell 6 2 true)]⟩
theorem cc92 : ccF Tryz.prog [(46, [0, 0]), (57, [1, 0]), (81, [0, 0]), (46, [9]), (68, [8]), (70, [8]), (54, [8]), (69, [8]), (58, [8])] Tryz.f92 = some (stripF F92) := by kernel_rfl
def F93b1 : C := (.seq (.seq (.reg [
  ia 52 (.mv (.t 8)),
ia 53 (.mv (.t 7)),
ia 54 (.bin .lss (.t 52) (.t 53)),
ia 55 (.mv (.t 54)),
ig 56 55 true (.fad 0 (.t 3)),
ig 57 55 true (.ld 1 false (.t 56)),
ig 58 55 true (.bin .eql (.t 57) (ci 5)),
ia 59 (.pick (.t 55) (.t 58) (.c (.a (.p (.b false)))))]) (.cond (.t 59) .skip (.exit 2))) (.seq (.block 3 (.seq (.reg [
  ir 62 (.fad 3 (.t 3)),
ir 63 (.ld 1 false (.t 62)),
ir 64 (.mv (.t 8)),
ir 65 (.ias 4 (.t 63) (.t 64)),
ir 66 (.fad 2 (.t 65)),
ir 67 (.ld 1 false (.t 66)),
ir 68 (.fad 3 (.t 3)),
ir 69 (.ld 1 false (.t 68)),
ir 70 (.mv (.t 7)),
ir 71 (.ias 4 (.t 69) (.t 70)),
ir 72 (.fad 2 (.t 71)),
ir 73 (.ld 1 false (.t 72)),
ia 74 (.bin .eql (.t 67) (.t 73))]) (.cond (.t 74) (.seq (.reg [
  ia 6 (.mv (.c (.a (.p (.b false)))))]) .ret) .skip))) (.reg [
  ia 60 (.mv (.t 8)),
ia 61 (.bin .add (.t 60) (ci 1)),
ia 8 (.mv (.t 61))])))
def F93b0 : C := (.seq (.seq (.reg [
  ia 30 (.mv (.t 7)),
ia 31 (.fad 3 (.t 3)),
ia 32 (.ld 1 false (.t 31)),
ia 33 (.len false (.t 32)),
ia 34 (.bin .lss (.t 30) (.t 33))]) (.cond (.t 34) .skip (.exit 0))) (.seq (.block 1 (.seq (.seq (.reg [
  ir 37 (.fad 3 (.t 3)),
ir 38 (.ld 1 false (.t 37)),
ir 39 (.mv (.t 7)),
ir 40 (.ias 4 (.t 38) (.t 39)),
ir 41 (.ld 4 true (.t 40)),
ir 42 (.mv (.t 1)),
ir 43 (.fad 0 (.t 3)),
ir 44 (.ld 1 false (.t 43)),
ir 45 (.bin .eql (.t 44) (ci 5)),
ir 46 (.mv (.t 45)),
ih 47 46 true (.mv (.t 7)),
ih 48 46 true (.bin .gtr (.t 47) (ci 0)),
ir 49 (.pick (.t 46) (.t 48) (.c (.a (.p (.b false))))),
ia 50 (.call (.f 93) [(.t 41), (.t 42), (.t 49)]),
ia 51 (.not (.t 50))]) (.cond (.t 51) (.seq (.reg [
  ia 6 (.mv (.c (.a (.p (.b false)))))]) .ret) .skip)) (.seq (.reg [
  ia 8 (.mv (ci 1))]) (.block 2 (.loop F93b1))))) (.reg [
  ia 35 (.mv (.t 7)),
ia 36 (.bin .add (.t 35) (ci 1)),
ia 7 (.mv (.t 36))])))
def F93 : FnC := ⟨3, (.seq (.reg [
  ia 3 (.box 4 (.t 0)),
ia 6 (.mv (.c (.a (.p (.b false)))))]) (.seq (.seq (.reg [
  ia 9 (.mv (.t 1)),
ia 10 (.bin .lss (.t 9) (ci 0)),
ia 11 (.mv (.t 10)),
ig 12 11 false (.ld 4 true (.t 3)),
ig 13 11 false (.mv (.t 1)),
ig 14 11 false (.mv (.t 2)),
ig 15 11 false (.call (.f 102) [(.t 12), (.t 13), (.t 14)]),
ig 16 11 false (.not (.t 15)),
ia 17 (.pick (.t 11) (.c (.a (.p (.b true)))) (.t 16))]) (.cond (.t 17) (.seq (.reg [
  ia 6 (.mv (.c (.a (.p (.b false)))))]) .ret) .skip)) (.seq (.seq (.reg [
  ia 18 (.fad 0 (.t 3)),
ia 19 (.ld 1 false (.t 18)),
ia 20 (.bin .eql (.t 19) (ci 2))]) (.cond (.t 20) (.reg [
  ia 21 (.mv (.t 1)),
ia 22 (.bin .add (.t 21) (ci 1)),
ia 1 (.mv (.t 22))]) .skip)) (.seq (.seq (.reg [
  ia 23 (.fad 0 (.t 3)),
ia 24 (.ld 1 false (.t 23)),
ia 25 (.bin .eql (.t 24) (ci 6))]) (.cond (.t 25) (.reg [
  ia 26 (.mv (.t 1)),
ia 27 (.fad 1 (.t 3)),
ia 28 (.ld 1 false (.t 27)),
ia 29 (.bin .add (.t 26) (.t 28)),
ia 1 (.mv (.t 29))]) .skip)) (.seq (.seq (.reg [
  ia 7 (.mv (ci 0))]) (.block 0 (.loop F93b0))) (.seq (.reg [
  ia 6 (.mv (.c (.a (.p (.b true)))))]) .ret)))))), [(.tmp 6)]⟩
theorem cc93 : ccF Tryz.prog [(46, [0, 0]), (57, [1, 0]), (81, [0, 0]), (46, [9]), (68, [8]), (70, [8]), (54, [8]), (69, [8]), (58, [8])] Tryz.f93 = some (stripF F93) := by kernel_rfl
def F94 : FnC := ⟨1, (.seq (.reg [
  ia 1 (.box 4 (.t 0)),
ia 2 (.mv (.c (.a (.p (.b false)))))]) (.seq (.reg [
  ia 3 (.fad 0 (.t 1)),
ia 4 (.ld 1 false (.t 3)),
ia 5 (.bin .eql (.t 4) (ci 2)),
ia 6 (.mv (.t 5)),
ig 7 6 false (.fad 0 (.t 1)),
ig 8 6 false (.ld 1 false (.t 7)),
ig 9 6 false (.bin .eql (.t 8) (ci 4)),
ia 10 (.pick (.t 6) (.c (.a (.p (.b true)))) (.t 9)),
ia 11 (.mv (.t 10)),
ig 12 11 false (.fad 0 (.t 1)),
ig 13 11 false (.ld 1 false (.t 12)),
ig 14 11 false (.bin .eql (.t 13) (ci 7)),
ia 15 (.pick (.t 11) (.c (.a (.p (.b true)))) (.t 14)),
ia 16 (.mv (.t 15)),
ig 17 16 false (.fad 0 (.t 1)),
ig 18 16 false (.ld 1 false (.t 17)),
ig 19 16 false (.bin .eql (.t 18) (ci 9)),
ia 20 (.pick (.t 16) (.c (.a (.p (.b true)))) (.t 19)),
ia 2 (.mv (.t 20))]) .ret)), [(.tmp 2)]⟩
theorem cc94 : ccF Tryz.prog [(46, [0, 0]), (57, [1, 0]), (81, [0, 0]), (46, [9]), (68, [8]), (70, [8]), (54, [8]), (69, [8]), (58, [8])] Tryz.f94 = some (stripF F94) := by kernel_rfl
def F95 : FnC := ⟨2, (.seq (.reg [
  ia 2 (.box 4 (.t 0)),
ia 4 (.new [(.p (.i .i64 0)), (.p (.i .i64 0)), (.p (.s [])), .nil]),
ia 5 (.mv (ci 0))]) (.seq (.reg [
  ia 10 (.fad 3 (.t 2)),
ia 11 (.ld 1 false (.t 10)),
ia 12 (.mv (.t 1)),
ia 13 (.ias 4 (.t 11) (.t 12)),
ia 14 (.ld 4 true (.t 13)),
ia 15 (.call (.f 90) [(.t 14)]),
ia 9 (.mv (.t 15)),
ia 16 (.ext (.t 9) 0),
ia 17 (.ext (.t 9) 1),
ia 6 (.new [(.p (.i .i64 0)), (.p (.i .i64 0)), (.p (.s [])), .nil]),
io (.st 4 (.t 6) (.t 16)),
ia 7 (.mv (.t 17))]) (.seq (.seq (.reg [
  ia 18 (.mv (.t 7)),
ia 19 (.bin .eql (.t 18) (ci 0))]) (.cond (.t 19) (.seq (.reg [
  ia 20 (.ld 4 true (.t 2)),
io (.st 4 (.t 4) (.t 20)),
ia 5 (.mv (ci 0))]) .ret) .skip)) (.seq (.reg [
  ia 21 (.fad 0 (.t 2)),
ia 22 (.ld 1 false (.t 21)),
ia 23 (.fad 1 (.t 2)),
ia 24 (.ld 1 false (.t 23)),
ia 25 (.fad 2 (.t 2)),
ia 26 (.ld 1 false (.t 25)),
ia 27 (.build [(.p (.i .i64 0)), (.p (.i .i64 0)), (.p (.s [])), .nil] [(0, (1, (.t 22))), (1, (1, (.t 24))), (2, (1, (.t 26)))]),
ia 8 (.new [(.p (.i .i64 0)), (.p (.i .i64 0)), (.p (.s [])), .nil]),
io (.st 4 (.t 8) (.t 27))]) (.seq (.reg [
  ia 28 (.fad 3 (.t 8)),
ia 29 (.ld 1 false (.t 28)),
ia 30 (.fad 3 (.t 2)),
ia 31 (.ld 1 false (.t 30)),
ia 32 (.app 4 91 56 (.t 29) (.t 31)),
ia 33 (.fad 3 (.t 8)),
io (.st 1 (.t 33) (.t 32))]) (.seq (.reg [
  ia 34 (.fad 3 (.t 8)),
ia 35 (.ld 1 false (.t 34)),
ia 36 (.mv (.t 1)),
ia 37 (.ld 4 true (.t 6)),
ia 38 (.ias 4 (.t 35) (.t 36)),
io (.st 4 (.t 38) (.t 37))]) (.seq (.reg [
  ia 39 (.ld 4 true (.t 8)),
ia 40 (.mv (.t 7)),
io (.st 4 (.t 4) (.t 39)),
ia 5 (.mv (.t 40))]) .ret))))))), [(.cell 4 4 true), (.tmp 5)]⟩
theorem cc95 : ccF Tryz.prog [(46, [0, 0]), (57, [1, 0]), (81, [0, 0]), (46, [9]), (68, [8]), (70, [8]), (54, [8]), (69, [8]), (58, [8])] Tryz.f95 = some (stripF F95) := by kernel_rfl
def F96b0 : C := (.seq (.seq (.reg [
  ia 10 (.mv (.t 5)),
ia 11 (.fad 3 (.t 1)),
ia 12 (.ld 1 false (.t 11)),
ia 13 (.len false (.t 12)),
ia 14 (.bin .lss (.t 10) (.t 13)),
ia 15 (.mv (.t 14)),
ig 16 15 true (.fad 0 (.t 4)),
ig 17 15 true (.ld 1 false (.t 16)),
ig 18 15 true (.bin .eql (.t 17) (ci 4)),
ia 19 (.pick (.t 15) (.t 18) (.c (.a (.p (.b false)))))]) (.cond (.t 19) .skip (.exit 0))) (.seq (.block 1 (.seq (.reg [
  ir 22 (.fad 3 (.t 1)),
ir 23 (.ld 1 false (.t 22)),
ir 24 (.mv (.t 5)),
ir 25 (.ias 4 (.t 23) (.t 24)),
ir 26 (.fad 2 (.t 25)),
ir 27 (.ld 1 false (.t 26)),
ir 28 (.fad 2 (.t 4)),
ir 29 (.ld 1 false (.t 28)),
ia 30 (.bin .eql (.t 27) (.t 29)),
ia 31 (.mv (.t 30)),
ih 32 31 true (.fad 3 (.t 1)),
ih 33 31 true (.ld 1 false (.t 32)),
ih 34 31 true (.mv (.t 5)),
ih 35 31 true (.ias 4 (.t 33) (.t 34)),
ih 36 31 true (.fad 1 (.t 35)),
ih 37 31 true (.ld 1 false (.t 36)),
ih 38 31 true (.fad 3 (.t 4)),
ih 39 31 true (.ld 1 false (.t 38)),
ih 40 31 true (.len false (.t 39)),
ig 41 31 true (.bin .eql (.t 37) (.t 40)),
ia 42 (.pick (.t 31) (.t 41) (.c (.a (.p (.b false)))))]) (.cond (.t 42) (.seq (.reg [
  ir 43 (.fad 3 (.t 1)),
ir 44 (.ld 1 false (.t 43)),
ir 45 (.mv (.t 5)),
ir 46 (.ias 4 (.t 44) (.t 45)),
ir 47 (.fad 3 (.t 46)),
ir 48 (.ld 1 false (.t 47)),
ir 49 (.ias 4 (.t 48) (ci 0)),
ir 50 (.ld 4 true (.t 49)),
ir 51 (.fad 3 (.t 4)),
ir 52 (.ld 1 false (.t 51)),
ia 53 (.call (.f 103) [(.t 50), (.t 52)]),
io (.st 4 (.t 2) (.t 53)),
ia 3 (.mv (ci 2))]) .ret) .skip))) (.reg [
  ia 20 (.mv (.t 5)),
ia 21 (.bin .add (.t 20) (ci 1)),
ia 5 (.mv (.t 21))])))
def F96 : FnC := ⟨1, (.seq (.reg [
  ia 1 (.box 4 (.t 0)),
ia 2 (.new [(.p (.i .i64 0)), (.p (.i .i64 0)), (.p (.s [])), .nil]),
ia 3 (.mv (ci 0))]) (.seq (.reg [
  ia 6 (.fad 3 (.t 1)),
ia 7 (.ld 1 false (.t 6)),
ia 8 (.ias 4 (.t 7) (ci 0)),
ia 9 (.ld 4 true (.t 8)),
ia 4 (.new [(.p (.i .i64 0)), (.p (.i .i64 0)), (.p (.s [])), .nil]),
io (.st 4 (.t 4) (.t 9))]) (.seq (.seq (.reg [
  ia 5 (.mv (ci 1))]) (.block 0 (.loop F96b0))) (.seq (.reg [
  ia 54 (.call (.f 98) []),
ia 55 (.ext (.t 54) 0),
ia 56 (.ext (.t 54) 1),
io (.st 4 (.t 2) (.t 55)),
ia 3 (.mv (.t 56))]) .ret)))), [(.cell 2 4 true), (.tmp 3)]⟩
theorem cc96 : ccF Tryz.prog [(46, [0, 0]), (57, [1, 0]), (81, [0, 0]), (46, [9]), (68, [8]), (70, [8]), (54, [8]), (69, [8]), (58, [8])] Tryz.f96 = some (stripF F96) := by kernel_rfl
def F97 : FnC := ⟨3, (.seq (.reg [
  ia 3 (.box 4 (.t 0)),
ia 5 (.box 4 (.t 2)),
ia 6 (.new [(.p (.i .i64 0)), (.p (.i .i64 0)), (.p (.s [])), .nil])]) (.seq (.reg [
  ia 7 (.ld 4 true (.t 3)),
ia 8 (.mv (.t 1)),
ia 9 (.ld 4 true (.t 5)),
ia 10 (.call (.f 104) [(.t 7), (.t 8), (.t 9), (ci 0)]),
io (.st 4 (.t 6) (.t 10))]) .ret)), [(.cell 6 4 true)]⟩
theorem cc97 : ccF Tryz.prog [(46, [0, 0]), (57, [1, 0]), (81, [0, 0]), (46, [9]), (68, [8]), (70, [8]), (54, [8]), (69, [8]), (58, [8])] Tryz.f97 = some (stripF F97) := by kernel_rfl
def F98 : FnC := ⟨0, (.seq (.reg [
  ia 0 (.new [(.p (.i .i64 0)), (.p (.i .i64 0)), (.p (.s [])), .nil]),
ia 1 (.mv (ci 0))]) (.seq (.reg [
  ia 2 (.build [(.p (.i .i64 0)), (.p (.i .i64 0)), (.p (.s [])), .nil] [(0, (1, (ci 9)))]),
io (.st 4 (.t 0) (.t 2)),
ia 1 (.mv (ci 4))]) .ret)), [(.cell 0 4 true), (.tmp 1)]⟩
theorem cc98 : ccF Tryz.prog [(46, [0, 0]), (57, [1, 0]), (81, [0, 0]), (46, [9]), (68, [8]), (70, [8]), (54, [8]), (69, [8]), (58, [8])] Tryz.f98 = some (stripF F98) := by kernel_rfl
def F99 : FnC := ⟨3, (.seq (.reg [
  ia 6 (.new [(.p (.i .i64 0)), (.p (.i .i64 0)), (.p (.s [])), .nil]),
ia 7 (.mv (ci 0))]) (.seq (.seq (.reg [
  ia 8 (.mv (.t 0))]) (.block 0 (.seq (.reg [
  ia 10 (.bin .eql (.t 8) (.c (.a (.p (.s [43]))))),
ia 9 (.mv (.t 10))]) (.cond (.t 9) (.seq (.reg [
  ia 11 (.mv (.t 1)),
ia 12 (.mv (.t 2)),
ia 13 (.bin .add (.t 11) (.t 12)),
ia 14 (.call (.f 105) [(.t 13)]),
ia 15 (.ext (.t 14) 0),
ia 16 (.ext (.t 14) 1),
io (.st 4 (.t 6) (.t 15)),
ia 7 (.mv (.t 16))]) .ret) (.seq (.reg [
  ia 18 (.bin .eql (.t 8) (.c (.a (.p (.s [45]))))),
ia 17 (.mv (.t 18))]) (.cond (.t 17) (.seq (.reg [
  ia 19 (.mv (.t 1)),
ia 20 (.mv (.t 2)),
ia 21 (.bin .sub (.t 19) (.t 20)),
ia 22 (.call (.f 105) [(.t 21)]),
ia 23 (.ext (.t 22) 0),
ia 24 (.ext (.t 22) 1),
io (.st 4 (.t 6) (.t 23)),
ia 7 (.mv (.t 24))]) .ret) (.seq (.reg [
  ia 26 (.bin .eql (.t 8) (.c (.a (.p (.s [42]))))),
ia 25 (.mv (.t 26))]) (.cond (.t 25) (.seq (.reg [
  ia 27 (.mv (.t 1)),
ia 28 (.mv (.t 2)),
ia 29 (.bin .mul (.t 27) (.t 28)),
ia 30 (.call (.f 105) [(.t 29)]),
ia 31 (.ext (.t 30) 0),
ia 32 (.ext (.t 30) 1),
io (.st 4 (.t 6) (.t 31)),
ia 7 (.mv (.t 32))]) .ret) (.seq (.reg [
  ia 34 (.bin .eql (.t 8) (.c (.a (.p (.s [47]))))),
ia 33 (.mv (.t 34))]) (.cond (.t 33) (.seq (.seq (.reg [
  ia 35 (.mv (.t 2)),
ia 36 (.bin .eql (.t 35) (ci 0))]) (.cond (.t 36) (.seq (.reg [
  ia 37 (.call (.f 98) []),
ia 38 (.ext (.t 37) 0),
ia 39 (.ext (.t 37) 1),
io (.st 4 (.t 6) (.t 38)),
ia 7 (.mv (.t 39))]) .ret) .skip)) (.seq (.seq (.reg [
  ia 40 (.mv (.t 2)),
ia 41 (.bin .eql (.t 40) (.c (.a (.p (.i .i64 (-1))))))]) (.cond (.t 41) (.seq (.reg [
  ia 42 (.mv (.t 1)),
ia 43 (.neg (.t 42)),
ia 44 (.call (.f 105) [(.t 43)]),
ia 45 (.ext (.t 44) 0),
ia 46 (.ext (.t 44) 1),
io (.st 4 (.t 6) (.t 45)),
ia 7 (.mv (.t 46))]) .ret) .skip)) (.seq (.reg [
  ia 47 (.mv (.t 1)),
ia 48 (.mv (.t 2)),
ia 49 (.bin .quo (.t 47) (.t 48)),
ia 50 (.call (.f 105) [(.t 49)]),
ia 51 (.ext (.t 50) 0),
ia 52 (.ext (.t 50) 1),
io (.st 4 (.t 6) (.t 51)),
ia 7 (.mv (.t 52))]) .ret))) .skip)))))))))) (.seq (.seq (.reg [
  ia 53 (.mv (.t 0)),
ia 54 (.bin .eql (.t 53) (.c (.a (.p (.s [60]))))),
ia 55 (.mv (.t 54)),
ig 56 55 true (.mv (.t 1)),
ig 57 55 true (.mv (.t 2)),
ig 58 55 true (.bin .lss (.t 56) (.t 57)),
ia 59 (.pick (.t 55) (.t 58) (.c (.a (.p (.b false))))),
ia 60 (.mv (.t 59)),
ig 61 60 false (.mv (.t 0)),
ig 62 60 false (.bin .eql (.t 61) (.c (.a (.p (.s [61, 61]))))),
ig 63 60 false (.mv (.t 62)),
ig 64 63 true (.mv (.t 1)),
ig 65 63 true (.mv (.t 2)),
ig 66 63 true (.bin .eql (.t 64) (.t 65)),
ig 67 60 false (.pick (.t 63) (.t 66) (.c (.a (.p (.b false))))),
ia 68 (.pick (.t 60) (.c (.a (.p (.b true)))) (.t 67))]) (.cond (.t 68) (.seq (.reg [
  ia 69 (.build [(.p (.i .i64 0)), (.p (.i .i64 0)), (.p (.s [])), .nil] [(0, (1, (ci 4))), (2, (1, (.c (.a (.p (.s [84, 114, 117, 101]))))))]),
io (.st 4 (.t 6) (.t 69)),
ia 7 (.mv (ci 3))]) .ret) .skip)) (.seq (.reg [
  ia 70 (.build [(.p (.i .i64 0)), (.p (.i .i64 0)), (.p (.s [])), .nil] [(0, (1, (ci 4))), (2, (1, (.c (.a (.p (.s [70, 97, 108, 115, 101]))))))]),
io (.st 4 (.t 6) (.t 70)),
ia 7 (.mv (ci 3))]) .ret)))), [(.cell 6 4 true), (.tmp 7)]⟩
theorem cc99 : ccF Tryz.prog [(46, [0, 0]), (57, [1, 0]), (81, [0, 0]), (46, [9]), (68, [8]), (70, [8]), (54, [8]), (69, [8]), (58, [8])] Tryz.f99 = some (stripF F99) := by kernel_rfl
def F100 : FnC := ⟨1, (.seq (.reg [
  ia 2 (.mv (.c (.a .nil)))]) (.seq (.seq (.reg [
  ia 3 (.mv (.t 0)),
ia 4 (.nq false (.t 3))]) (.cond (.t 4) (.seq (.reg [
  ia 2 (.mv (.c (.a .nil)))]) .ret) .skip)) (.seq (.reg [
  ia 5 (.bsl 2 46 [(.p (.i .i64 0)), (.p (.i .i64 0))] 0 []),
ia 6 (.mv (.t 0)),
ia 7 (.app 2 46 16 (.t 5) (.t 6)),
ia 2 (.mv (.t 7))]) .ret))), [(.tmp 2)]⟩
theorem cc100 : ccF Tryz.prog [(46, [0, 0]), (57, [1, 0]), (81, [0, 0]), (46, [9]), (68, [8]), (70, [8]), (54, [8]), (69, [8]), (58, [8])] Tryz.f100 = some (stripF F100) := by kernel_rfl
def F101 : FnC := ⟨1, (.seq (.reg [
  ia 2 (.mv (.c (.a .nil)))]) (.seq (.seq (.reg [
  ia 3 (.mv (.t 0)),
ia 4 (.nq false (.t 3))]) (.cond (.t 4) (.seq (.reg [
  ia 2 (.mv (.c (.a .nil)))]) .ret) .skip)) (.seq (.reg [
  ia 5 (.bsl 6 33 [(.p (.i .i64 0)), (.p (.i .i64 0)), (.p (.i .i64 0)), (.p (.s [])), .nil, .nil] 0 []),
ia 6 (.mv (.t 0)),
ia 7 (.app 6 33 88 (.t 5) (.t 6)),
ia 2 (.mv (.t 7))]) .ret))), [(.tmp 2)]⟩
theorem cc101 : ccF Tryz.prog [(46, [0, 0]), (57, [1, 0]), (81, [0, 0]), (46, [9]), (68, [8]), (70, [8]), (54, [8]), (69, [8]), (58, [8])] Tryz.f101 = some (stripF F101) := by kernel_rfl
def F102 : FnC := ⟨3, (.seq (.reg [
  ia 3 (.box 4 (.t 0)),
ia 6 (.mv (.c (.a (.p (.b false)))))]) (.seq (.reg [
  ia 10 (.fad 3 (.t 3)),
ia 11 (.ld 1 false (.t 10)),
ia 12 (.len false (.t 11)),
ia 7 (.mv (.t 12))]) (.seq (.reg [
  ia 13 (.fad 2 (.t 3)),
ia 14 (.ld 1 false (.t 13)),
ia 15 (.bin .eql (.t 14) (.c (.a (.p (.s [43]))))),
ia 16 (.mv (.t 15)),
ig 17 16 false (.fad 2 (.t 3)),
ig 18 16 false (.ld 1 false (.t 17)),
ig 19 16 false (.bin .eql (.t 18) (.c (.a (.p (.s [45]))))),
ia 20 (.pick (.t 16) (.c (.a (.p (.b true)))) (.t 19)),
ia 21 (.mv (.t 20)),
ig 22 21 false (.fad 2 (.t 3)),
ig 23 21 false (.ld 1 false (.t 22)),
ig 24 21 false (.bin .eql (.t 23) (.c (.a (.p (.s [42]))))),
ia 25 (.pick (.t 21) (.c (.a (.p (.b true)))) (.t 24)),
ia 26 (.mv (.t 25)),
ig 27 26 false (.fad 2 (.t 3)),
ig 28 26 false (.ld 1 false (.t 27)),
ig 29 26 false (.bin .eql (.t 28) (.c (.a (.p (.s [47]))))),
ia 30 (.pick (.t 26) (.c (.a (.p (.b true)))) (.t 29)),
ia 31 (.mv (.t 30)),
ig 32 31 false (.fad 2 (.t 3)),
ig 33 31 false (.ld 1 false (.t 32)),
ig 34 31 false (.bin .eql (.t 33) (.c (.a (.p (.s [60]))))),
ia 35 (.pick (.t 31) (.c (.a (.p (.b true)))) (.t 34)),
ia 36 (.mv (.t 35)),
ig 37 36 false (.fad 2 (.t 3)),
ig 38 36 false (.ld 1 false (.t 37)),
ig 39 36 false (.bin .eql (.t 38) (.c (.a (.p (.s [61, 61]))))),
ia 40 (.pick (.t 36) (.c (.a (.p (.b true)))) (.t 39)),
ia 8 (.mv (.t 40))]) (.seq (.reg [
  ia 41 (.fad 2 (.t 3)),
ia 42 (.ld 1 false (.t 41)),
ia 43 (.bin .eql (.t 42) (.c (.a (.p (.s []))))),
ia 44 (.mv (.t 43)),
ig 45 44 true (.fad 1 (.t 3)),
ig 46 44 true (.ld 1 false (.t 45)),
ig 47 44 true (.bin .eql (.t 46) (ci 0)),
ia 48 (.pick (.t 44) (.t 47) (.c (.a (.p (.b false))))),
ia 9 (.mv (.t 48))]) (.seq (.seq (.reg [
  ia 49 (.mv (.t 2))]) (.cond (.t 49) (.seq (.reg [
  ia 50 (.fad 0 (.t 3)),
ia 51 (.ld 1 false (.t 50)),
ia 52 (.bin .eql (.t 51) (ci 6)),
ia 53 (.mv (.t 52)),
ig 54 53 true (.fad 2 (.t 3)),
ig 55 53 true (.ld 1 false (.t 54)),
ig 56 53 true (.call (.f 106) [(.t 55)]),
ia 57 (.pick (.t 53) (.t 56) (.c (.a (.p (.b false))))),
ia 58 (.mv (.t 57)),
ig 59 58 true (.fad 1 (.t 3)),
ig 60 58 true (.ld 1 false (.t 59)),
ig 61 58 true (.bin .geq (.t 60) (ci 0)),
ia 62 (.pick (.t 58) (.t 61) (.c (.a (.p (.b false))))),
ia 63 (.mv (.t 62)),
ig 64 63 true (.fad 1 (.t 3)),
ig 65 63 true (.ld 1 false (.t 64)),
ig 66 63 true (.bin .leq (.t 65) (ci 8)),
ia 67 (.pick (.t 63) (.t 66) (.c (.a (.p (.b false))))),
ia 68 (.mv (.t 67)),
ig 69 68 true (.mv (.t 7)),
ig 70 68 true (.bin .eql (.t 69) (ci 1)),
ia 71 (.pick (.t 68) (.t 70) (.c (.a (.p (.b false))))),
ia 6 (.mv (.t 71))]) .ret) .skip)) (.seq (.seq (.reg [
  ia 72 (.fad 0 (.t 3)),
ia 73 (.ld 1 false (.t 72))]) (.block 0 (.seq (.reg [
  ia 75 (.bin .eql (.t 73) (ci 1)),
ia 74 (.mv (.t 75))]) (.cond (.t 74) (.seq (.reg [
  ia 76 (.fad 2 (.t 3)),
ia 77 (.ld 1 false (.t 76)),
ia 78 (.bin .eql (.t 77) (.c (.a (.p (.s []))))),
ia 79 (.mv (.t 78)),
ig 80 79 true (.mv (.t 7)),
ig 81 79 true (.bin .eql (.t 80) (ci 0)),
ia 82 (.pick (.t 79) (.t 81) (.c (.a (.p (.b false))))),
ia 83 (.mv (.t 82)),
ig 84 83 true (.fad 1 (.t 3)),
ig 85 83 true (.ld 1 false (.t 84)),
ig 86 83 true (.bin .geq (.t 85) (ci 0)),
ia 87 (.pick (.t 83) (.t 86) (.c (.a (.p (.b false))))),
ia 88 (.mv (.t 87)),
ig 89 88 true (.fad 1 (.t 3)),
ig 90 88 true (.ld 1 false (.t 89)),
ig 91 88 true (.mv (.t 1)),
ig 92 88 true (.bin .lss (.t 90) (.t 91)),
ia 93 (.pick (.t 88) (.t 92) (.c (.a (.p (.b false))))),
ia 6 (.mv (.t 93))]) .ret) (.seq (.reg [
  ia 95 (.bin .eql (.t 73) (ci 2)),
ia 94 (.mv (.t 95))]) (.cond (.t 94) (.seq (.reg [
  ia 96 (.mv (.t 9)),
ia 97 (.mv (.t 96)),
ig 98 97 true (.mv (.t 7)),
ig 99 97 true (.bin .eql (.t 98) (ci 1)),
ia 100 (.pick (.t 97) (.t 99) (.c (.a (.p (.b false))))),
ia 6 (.mv (.t 100))]) .ret) (.seq (.reg [
  ia 102 (.bin .eql (.t 73) (ci 3)),
ia 101 (.mv (.t 102))]) (.cond (.t 101) (.seq (.reg [
  ia 103 (.mv (.t 9)),
ia 104 (.mv (.t 103)),
ig 105 104 true (.mv (.t 7)),
ig 106 104 true (.bin .eql (.t 105) (ci 2)),
ia 107 (.pick (.t 104) (.t 106) (.c (.a (.p (.b false))))),
ia 6 (.mv (.t 107))]) .ret) (.seq (.reg [
  ia 109 (.bin .eql (.t 73) (ci 4)),
ia 108 (.mv (.t 109))]) (.cond (.t 108) (.seq (.reg [
  ia 110 (.fad 2 (.t 3)),
ia 111 (.ld 1 false (.t 110)),
ia 112 (.call (.f 106) [(.t 111)]),
ia 113 (.mv (.t 112)),
ig 114 113 true (.fad 1 (.t 3)),
ig 115 113 true (.ld 1 false (.t 114)),
ig 116 113 true (.bin .eql (.t 115) (ci 0)),
ia 117 (.pick (.t 113) (.t 116) (.c (.a (.p (.b false))))),
ia 118 (.mv (.t 117)),
ig 119 118 true (.mv (.t 7)),
ig 120 118 true (.bin .leq (.t 119) (ci 8)),
ia 121 (.pick (.t 118) (.t 120) (.c (.a (.p (.b false))))),
ia 6 (.mv (.t 121))]) .ret) (.seq (.reg [
  ia 123 (.bin .eql (.t 73) (ci 5)),
ia 122 (.mv (.t 123))]) (.cond (.t 122) (.seq (.reg [
  ia 124 (.mv (.t 9)),
ia 125 (.mv (.t 124)),
ig 126 125 true (.mv (.t 7)),
ig 127 125 true (.bin .geq (.t 126) (ci 2)),
ia 128 (.pick (.t 125) (.t 127) (.c (.a (.p (.b false))))),
ia 129 (.mv (.t 128)),
ig 130 129 true (.mv (.t 7)),
ig 131 129 true (.bin .leq (.t 130) (ci 9)),
ia 132 (.pick (.t 129) (.t 131) (.c (.a (.p (.b false))))),
ia 6 (.mv (.t 132))]) .ret) (.seq (.reg [
  ia 134 (.bin .eql (.t 73) (ci 7)),
ia 133 (.mv (.t 134))]) (.cond (.t 133) (.seq (.reg [
  ia 135 (.fad 2 (.t 3)),
ia 136 (.ld 1 false (.t 135)),
ia 137 (.bin .eql (.t 136) (.c (.a (.p (.s []))))),
ia 138 (.mv (.t 137)),
ig 139 138 true (.mv (.t 7)),
ig 140 138 true (.bin .eql (.t 139) (ci 0)),
ia 141 (.pick (.t 138) (.t 140) (.c (.a (.p (.b false))))),
ia 6 (.mv (.t 141))]) .ret) (.seq (.reg [
  ia 143 (.bin .eql (.t 73) (ci 8)),
ia 142 (.mv (.t 143))]) (.cond (.t 142) (.seq (.reg [
  ia 144 (.mv (.t 8)),
ia 145 (.mv (.t 144)),
ig 146 145 true (.fad 1 (.t 3)),
ig 147 145 true (.ld 1 false (.t 146)),
ig 148 145 true (.bin .eql (.t 147) (ci 0)),
ia 149 (.pick (.t 145) (.t 148) (.c (.a (.p (.b false))))),
ia 150 (.mv (.t 149)),
ig 151 150 true (.mv (.t 7)),
ig 152 150 true (.bin .eql (.t 151) (ci 2)),
ia 153 (.pick (.t 150) (.t 152) (.c (.a (.p (.b false))))),
ia 6 (.mv (.t 153))]) .ret) (.seq (.reg [
  ia 155 (.bin .eql (.t 73) (ci 9)),
ia 154 (.mv (.t 155))]) (.cond (.t 154) (.seq (.reg [
  ia 156 (.mv (.t 9)),
ia 157 (.mv (.t 156)),
ig 158 157 true (.mv (.t 7)),
ig 159 157 true (.bin .eql (.t 158) (ci 0)),
ia 160 (.pick (.t 157) (.t 159) (.c (.a (.p (.b false))))),
ia 6 (.mv (.t 160))]) .ret) .skip)))))))))))))))))) (.seq (.reg [
  ia 6 (.mv (.c (.a (.p (.b false)))))]) .ret))))))), [(.tmp 6)]⟩
theorem cc102 : ccF Tryz.prog [(46, [0, 0]), (57, [1, 0]), (81, [0, 0]), (46, [9]), (68, [8]), (70, [8]), (54, [8]), (69, [8]), (58, [8])] Tryz.f102 = some (stripF F102) := by kernel_rfl
def tblB : List (FuncId × FnC) := [(53, F53), (54, F54), (55, F55), (56, F56), (57, F57), (58, F58), (59, F59), (60, F60), (61, F61), (62, F62), (63, F63), (64, F64), (65, F65), (66, F66), (67, F67), (68, F68), (69, F69), (70, F70), (71, F71), (72, F72), (73, F73), (74, F74), (75, F75), (76, F76), (77, F77), (78, F78), (79, F79), (80, F80), (81, F81), (82, F82), (83, F83), (84, F84), (85, F85), (86, F86), (87, F87), (88, F88), (89, F89), (90, F90), (91, F91), (92, F92), (93, F93), (94, F94), (95, F95), (96, F96), (97, F97), (98, F98), (99, F99), (100, F100), (101, F101), (102, F102)]
theorem tblOkB : ∀ x, x ∈ tblB → ∃ fn, Tryz.prog.funcs[x.1]? = some fn ∧ ccF Tryz.prog [(46, [0, 0]), (57, [1, 0]), (81, [0, 0]), (46, [9]), (68, [8]), (70, [8]), (54, [8]), (69, [8]), (58, [8])] fn = some (stripF x.2) := by
  intro x hx
  simp only [tblB, List.mem_cons, List.not_mem_nil, or_false] at hx
  rcases hx with rfl | rfl | rfl | rfl | rfl | rfl | rfl | rfl | rfl | rfl | rfl | rfl | rfl | rfl | rfl | rfl | rfl | rfl | rfl | rfl | rfl | rfl | rfl | rfl | rfl | rfl | rfl | rfl | rfl | rfl | rfl | rfl | rfl | rfl | rfl | rfl | rfl | rfl | rfl | rfl | rfl | rfl | rfl | rfl | rfl | rfl | rfl | rfl | rfl | rfl
  · exact ⟨_, Tryz.func53, cc53⟩
  · exact ⟨_, Tryz.func54, cc54⟩
  · exact ⟨_, Tryz.func55, cc55⟩
  · exact ⟨_, Tryz.func56, cc56⟩
  · exact ⟨_, Tryz.func57, cc57⟩
  · exact ⟨_, Tryz.func58, cc58⟩
  · exact ⟨_, Tryz.func59, cc59⟩
  · exact ⟨_, Tryz.func60, cc60⟩
  · exact ⟨_, Tryz.func61, cc61⟩
  · exact ⟨_, Tryz.func62, cc62⟩
  · exact ⟨_, Tryz.func63, cc63⟩
  · exact ⟨_, Tryz.func64, cc64⟩
  · exact ⟨_, Tryz.func65, cc65⟩
  · exact ⟨_, Tryz.func66, cc66⟩
  · exact ⟨_, Tryz.func67, cc67⟩
  · exact ⟨_, Tryz.func68, cc68⟩
  · exact ⟨_, Tryz.func69, cc69⟩
  · exact ⟨_, Tryz.func70, cc70⟩
  · exact ⟨_, Tryz.func71, cc71⟩
  · exact ⟨_, Tryz.func72, cc72⟩
  · exact ⟨_, Tryz.func73, cc73⟩
  · exact ⟨_, Tryz.func74, cc74⟩
  · exact ⟨_, Tryz.func75, cc75⟩
  · exact ⟨_, Tryz.func76, cc76⟩
  · exact ⟨_, Tryz.func77, cc77⟩
  · exact ⟨_, Tryz.func78, cc78⟩
  · exact ⟨_, Tryz.func79, cc79⟩
  · exact ⟨_, Tryz.func80, cc80⟩
  · exact ⟨_, Tryz.func81, cc81⟩
  · exact ⟨_, Tryz.func82, cc82⟩
  · exact ⟨_, Tryz.func83, cc83⟩
  · exact ⟨_, Tryz.func84, cc84⟩
  · exact ⟨_, Tryz.func85, cc85⟩
  · exact ⟨_, Tryz.func86, cc86⟩
  · exact ⟨_, Tryz.func87, cc87⟩
  · exact ⟨_, Tryz.func88, cc88⟩
  · exact ⟨_, Tryz.func89, cc89⟩
  · exact ⟨_, Tryz.func90, cc90⟩
  · exact ⟨_, Tryz.func91, cc91⟩
  · exact ⟨_, Tryz.func92, cc92⟩
  · exact ⟨_, Tryz.func93, cc93⟩
  · exact ⟨_, Tryz.func94, cc94⟩
  · exact ⟨_, Tryz.func95, cc95⟩
  · exact ⟨_, Tryz.func96, cc96⟩
  · exact ⟨_, Tryz.func97, cc97⟩
  · exact ⟨_, Tryz.func98, cc98⟩
  · exact ⟨_, Tryz.func99, cc99⟩
  · exact ⟨_, Tryz.func100, cc100⟩
  · exact ⟨_, Tryz.func101, cc101⟩
  · exact ⟨_, Tryz.func102, cc102⟩
end Go.Proofs.YtomcceambpneiaaGreat
namespace Go.Proofs.YtomcceambpneiaaGreat
open Go.Fx
def F103 : FnC := ⟨2, (.seq (.reg [
  ia 2 (.box 4 (.t 0)),
ia 4 (.new [(.p (.i .i64 0)), (.p (.i .i64 0)), (.p (.s [])), .nil])]) (.seq (.reg [
  ia 5 (.ld 4 true (.t 2)),
ia 6 (.mv (.t 1)),
ia 7 (.call (.f 107) [(.t 5), (.t 6), (ci 0)]),
io (.st 4 (.t 4) (.t 7))]) .ret)), [(.cell 4 4 true)]⟩
theorem cc103 : ccF Tryz.prog [(46, [0, 0]), (57, [1, 0]), (81, [0, 0]), (46, [9]), (68, [8]), (70, [8]), (54, [8]), (69, [8]), (58, [8])] Tryz.f103 = some (stripF F103) := by kernel_rfl
def F104b0 : C := (.seq (.seq (.reg [
  ia 41 (.mv (.t 10)),
ia 42 (.fad 3 (.t 4)),
ia 43 (.ld 1 false (.t 42)),
ia 44 (.len false (.t 43)),
ia 45 (.bin .lss (.t 41) (.t 44))]) (.cond (.t 45) .skip (.exit 0))) (.seq (.block 1 (.reg [
  ir 48 (.fad 3 (.t 9)),
ir 49 (.ld 1 false (.t 48)),
ir 50 (.fad 3 (.t 4)),
ir 51 (.ld 1 false (.t 50)),
ir 52 (.mv (.t 10)),
ir 53 (.ias 4 (.t 51) (.t 52)),
ir 54 (.ld 4 true (.t 53)),
ir 55 (.mv (.t 1)),
ir 56 (.ld 4 true (.t 6)),
ir 57 (.mv (.t 3)),
ir 58 (.ld 4 true (.t 4)),
ir 59 (.call (.f 109) [(.t 58)]),
ir 60 (.bin .add (.t 57) (.t 59)),
ir 61 (.call (.f 104) [(.t 54), (.t 55), (.t 56), (.t 60)]),
⟨(.some 62), .none, (.bsl 4 91 [(.p (.i .i64 0)), (.p (.i .i64 0)), (.p (.s [])), .nil] 1 [(0, (.t 61))]), .ad⟩,
ia 63 (.app 4 91 56 (.t 49) (.t 62)),
ia 64 (.fad 3 (.t 9)),
io (.st 1 (.t 64) (.t 63))])) (.reg [
  ia 46 (.mv (.t 10)),
ia 47 (.bin .add (.t 46) (ci 1)),
ia 10 (.mv (.t 47))])))
def F104 : FnC := ⟨4, (.seq (.reg [
  ia 4 (.box 4 (.t 0)),
ia 6 (.box 4 (.t 2)),
ia 8 (.new [(.p (.i .i64 0)), (.p (.i .i64 0)), (.p (.s [])), .nil])]) (.seq (.seq (.reg [
  ia 11 (.fad 0 (.t 4)),
ia 12 (.ld 1 false (.t 11)),
ia 13 (.bin .eql (.t 12) (ci 1))]) (.cond (.t 13) (.seq (.seq (.reg [
  ia 14 (.fad 1 (.t 4)),
ia 15 (.ld 1 false (.t 14)),
ia 16 (.mv (.t 1)),
ia 17 (.mv (.t 3)),
ia 18 (.bin .add (.t 16) (.t 17)),
ia 19 (.bin .eql (.t 15) (.t 18))]) (.cond (.t 19) (.seq (.reg [
  ia 20 (.ld 4 true (.t 6)),
ia 21 (.mv (.t 3)),
ia 22 (.call (.f 108) [(.t 20), (.t 21), (ci 0)]),
io (.st 4 (.t 8) (.t 22))]) .ret) .skip)) (.seq (.seq (.reg [
  ia 23 (.fad 1 (.t 4)),
ia 24 (.ld 1 false (.t 23)),
ia 25 (.mv (.t 1)),
ia 26 (.mv (.t 3)),
ia 27 (.bin .add (.t 25) (.t 26)),
ia 28 (.bin .gtr (.t 24) (.t 27))]) (.cond (.t 28) (.reg [
  ia 29 (.fad 1 (.t 4)),
ia 30 (.ld 1 false (.t 29)),
ia 31 (.bin .sub (.t 30) (ci 1)),
ia 32 (.fad 1 (.t 4)),
io (.st 1 (.t 32) (.t 31))]) .skip)) (.seq (.reg [
  ia 33 (.ld 4 true (.t 4)),
io (.st 4 (.t 8) (.t 33))]) .ret))) .skip)) (.seq (.reg [
  ia 34 (.fad 0 (.t 4)),
ia 35 (.ld 1 false (.t 34)),
ia 36 (.fad 1 (.t 4)),
ia 37 (.ld 1 false (.t 36)),
ia 38 (.fad 2 (.t 4)),
ia 39 (.ld 1 false (.t 38)),
ia 40 (.build [(.p (.i .i64 0)), (.p (.i .i64 0)), (.p (.s [])), .nil] [(0, (1, (.t 35))), (1, (1, (.t 37))), (2, (1, (.t 39)))]),
ia 9 (.new [(.p (.i .i64 0)), (.p (.i .i64 0)), (.p (.s [])), .nil]),
io (.st 4 (.t 9) (.t 40))]) (.seq (.seq (.reg [
  ia 10 (.mv (ci 0))]) (.block 0 (.loop F104b0))) (.seq (.reg [
  ia 65 (.ld 4 true (.t 9)),
io (.st 4 (.t 8) (.t 65))]) .ret))))), [(.cell 8 4 true)]⟩
theorem cc104 : ccF Tryz.prog [(46, [0, 0]), (57, [1, 0]), (81, [0, 0]), (46, [9]), (68, [8]), (70, [8]), (54, [8]), (69, [8]), (58, [8])] Tryz.f104 = some (stripF F104) := by kernel_rfl
def F105 : FnC := ⟨1, (.seq (.reg [
  ia 2 (.new [(.p (.i .i64 0)), (.p (.i .i64 0)), (.p (.s [])), .nil]),
ia 3 (.mv (ci 0))]) (.seq (.reg [
  ia 4 (.mv (.t 0)),
ia 5 (.build [(.p (.i .i64 0)), (.p (.i .i64 0)), (.p (.s [])), .nil] [(0, (1, (ci 7))), (1, (1, (.t 4)))]),
io (.st 4 (.t 2) (.t 5)),
ia 3 (.mv (ci 3))]) .ret)), [(.cell 2 4 true), (.tmp 3)]⟩
theorem cc105 : ccF Tryz.prog [(46, [0, 0]), (57, [1, 0]), (81, [0, 0]), (46, [9]), (68, [8]), (70, [8]), (54, [8]), (69, [8]), (58, [8])] Tryz.f105 = some (stripF F105) := by kernel_rfl
def F106 : FnC := ⟨1, (.seq (.reg [
  ia 2 (.mv (.c (.a (.p (.b false)))))]) (.seq (.seq (.reg [
  ia 5 (.mv (.t 0)),
ia 6 (.bin .eql (.t 5) (.c (.a (.p (.s [])))))]) (.cond (.t 6) (.seq (.reg [
  ia 2 (.mv (.c (.a (.p (.b false)))))]) .ret) .skip)) (.seq (.reg [
  ia 8 (.mv (.t 0)),
ia 9 (.call (.f 110) [(.t 8), (ci 0)]),
ia 7 (.mv (.t 9)),
ia 10 (.ext (.t 7) 0),
ia 11 (.ext (.t 7) 1),
ia 3 (.new [(.p (.i .i64 0)), (.p (.s [])), (.p (.i .i64 0)), (.p (.i .i64 0))]),
io (.st 4 (.t 3) (.t 10)),
ia 4 (.mv (.t 11))]) (.seq (.reg [
  ia 12 (.mv (.t 4)),
ia 13 (.bin .eql (.t 12) (ci 0)),
ia 14 (.mv (.t 13)),
ig 15 14 true (.fad 0 (.t 3)),
ig 16 14 true (.ld 1 false (.t 15)),
ig 17 14 true (.bin .eql (.t 16) (ci 2)),
ia 18 (.pick (.t 14) (.t 17) (.c (.a (.p (.b false))))),
ia 19 (.mv (.t 18)),
ig 20 19 true (.fad 1 (.t 3)),
ig 21 19 true (.ld 1 false (.t 20)),
ig 22 19 true (.mv (.t 0)),
ig 23 19 true (.bin .eql (.t 21) (.t 22)),
ia 24 (.pick (.t 19) (.t 23) (.c (.a (.p (.b false))))),
ia 2 (.mv (.t 24))]) .ret)))), [(.tmp 2)]⟩
theorem cc106 : ccF Tryz.prog [(46, [0, 0]), (57, [1, 0]), (81, [0, 0]), (46, [9]), (68, [8]), (70, [8]), (54, [8]), (69, [8]), (58, [8])] Tryz.f106 = some (stripF F106) := by kernel_rfl
def F107b0 : C := (.seq (.seq (.reg [
  ia 51 (.mv (.t 8)),
ia 52 (.fad 3 (.t 3)),
ia 53 (.ld 1 false (.t 52)),
ia 54 (.len false (.t 53)),
ia 55 (.bin .lss (.t 51) (.t 54))]) (.cond (.t 55) .skip (.exit 0))) (.seq (.block 1 (.reg [
  ir 58 (.fad 3 (.t 7)),
ir 59 (.ld 1 false (.t 58)),
ir 60 (.fad 3 (.t 3)),
ir 61 (.ld 1 false (.t 60)),
ir 62 (.mv (.t 8)),
ir 63 (.ias 4 (.t 61) (.t 62)),
ir 64 (.ld 4 true (.t 63)),
ir 65 (.mv (.t 1)),
ir 66 (.mv (.t 2)),
ir 67 (.ld 4 true (.t 3)),
ir 68 (.call (.f 109) [(.t 67)]),
ir 69 (.bin .add (.t 66) (.t 68)),
ir 70 (.call (.f 107) [(.t 64), (.t 65), (.t 69)]),
⟨(.some 71), .none, (.bsl 4 91 [(.p (.i .i64 0)), (.p (.i .i64 0)), (.p (.s [])), .nil] 1 [(0, (.t 70))]), .ad⟩,
ia 72 (.app 4 91 56 (.t 59) (.t 71)),
ia 73 (.fad 3 (.t 7)),
io (.st 1 (.t 73) (.t 72))])) (.reg [
  ia 56 (.mv (.t 8)),
ia 57 (.bin .add (.t 56) (ci 1)),
ia 8 (.mv (.t 57))])))
def F107 : FnC := ⟨3, (.seq (.reg [
  ia 3 (.box 4 (.t 0)),
ia 6 (.new [(.p (.i .i64 0)), (.p (.i .i64 0)), (.p (.s [])), .nil])]) (.seq (.seq (.reg [
  ia 9 (.fad 0 (.t 3)),
ia 10 (.ld 1 false (.t 9)),
ia 11 (.bin .eql (.t 10) (ci 1))]) (.cond (.t 11) (.seq (.seq (.reg [
  ia 12 (.fad 1 (.t 3)),
ia 13 (.ld 1 false (.t 12)),
ia 14 (.mv (.t 2)),
ia 15 (.bin .lss (.t 13) (.t 14))]) (.cond (.t 15) (.seq (.reg [
  ia 16 (.ld 4 true (.t 3)),
io (.st 4 (.t 6) (.t 16))]) .ret) .skip)) (.seq (.seq (.reg [
  ia 17 (.fad 1 (.t 3)),
ia 18 (.ld 1 false (.t 17)),
ia 19 (.mv (.t 2)),
ia 20 (.mv (.t 1)),
ia 21 (.len false (.t 20)),
ia 22 (.bin .add (.t 19) (.t 21)),
ia 23 (.bin .lss (.t 18) (.t 22))]) (.cond (.t 23) (.seq (.reg [
  ia 24 (.mv (.t 1)),
ia 25 (.mv (.t 1)),
ia 26 (.len false (.t 25)),
ia 27 (.bin .sub (.t 26) (ci 1)),
ia 28 (.fad 1 (.t 3)),
ia 29 (.ld 1 false (.t 28)),
ia 30 (.mv (.t 2)),
ia 31 (.bin .sub (.t 29) (.t 30)),
ia 32 (.bin .sub (.t 27) (.t 31)),
ia 33 (.ias 4 (.t 24) (.t 32)),
ia 34 (.ld 4 true (.t 33)),
ia 35 (.mv (.t 2)),
ia 36 (.call (.f 108) [(.t 34), (.t 35), (ci 0)]),
io (.st 4 (.t 6) (.t 36))]) .ret) .skip)) (.seq (.reg [
  ia 37 (.fad 1 (.t 3)),
ia 38 (.ld 1 false (.t 37)),
ia 39 (.mv (.t 1)),
ia 40 (.len false (.t 39)),
ia 41 (.bin .sub (.t 38) (.t 40)),
ia 42 (.fad 1 (.t 3)),
io (.st 1 (.t 42) (.t 41))]) (.seq (.reg [
  ia 43 (.ld 4 true (.t 3)),
io (.st 4 (.t 6) (.t 43))]) .ret)))) .skip)) (.seq (.reg [
  ia 44 (.fad 0 (.t 3)),
ia 45 (.ld 1 false (.t 44)),
ia 46 (.fad 1 (.t 3)),
ia 47 (.ld 1 false (.t 46)),
ia 48 (.fad 2 (.t 3)),
ia 49 (.ld 1 false (.t 48)),
ia 50 (.build [(.p (.i .i64 0)), (.p (.i .i64 0)), (.p (.s [])), .nil] [(0, (1, (.t 45))), (1, (1, (.t 47))), (2, (1, (.t 49)))]),
ia 7 (.new [(.p (.i .i64 0)), (.p (.i .i64 0)), (.p (.s [])), .nil]),
io (.st 4 (.t 7) (.t 50))]) (.seq (.seq (.reg [
  ia 8 (.mv (ci 0))]) (.block 0 (.loop F107b0))) (.seq (.reg [
  ia 74 (.ld 4 true (.t 7)),
io (.st 4 (.t 6) (.t 74))]) .ret))))), [(.cell 6 4 true)]⟩
theorem cc107 : ccF Tryz.prog [(46, [0, 0]), (57, [1, 0]), (81, [0, 0]), (46, [9]), (68, [8]), (70, [8]), (54, [8]), (69, [8]), (58, [8])] Tryz.f107 = some (stripF F107) := by kernel_rfl
def F108b0 : C := (.seq (.seq (.reg [
  ia 29 (.mv (.t 8)),
ia 30 (.fad 3 (.t 3)),
ia 31 (.ld 1 false (.t 30)),
ia 32 (.len false (.t 31)),
ia 33 (.bin .lss (.t 29) (.t 32))]) (.cond (.t 33) .skip (.exit 0))) (.seq (.block 1 (.reg [
  ir 36 (.fad 3 (.t 7)),
ir 37 (.ld 1 false (.t 36)),
ir 38 (.fad 3 (.t 3)),
ir 39 (.ld 1 false (.t 38)),
ir 40 (.mv (.t 8)),
ir 41 (.ias 4 (.t 39) (.t 40)),
ir 42 (.ld 4 true (.t 41)),
ir 43 (.mv (.t 1)),
ir 44 (.mv (.t 2)),
ir 45 (.ld 4 true (.t 3)),
ir 46 (.call (.f 109) [(.t 45)]),
ir 47 (.bin .add (.t 44) (.t 46)),
ir 48 (.call (.f 108) [(.t 42), (.t 43), (.t 47)]),
⟨(.some 49), .none, (.bsl 4 91 [(.p (.i .i64 0)), (.p (.i .i64 0)), (.p (.s [])), .nil] 1 [(0, (.t 48))]), .ad⟩,
ia 50 (.app 4 91 56 (.t 37) (.t 49)),
ia 51 (.fad 3 (.t 7)),
io (.st 1 (.t 51) (.t 50))])) (.reg [
  ia 34 (.mv (.t 8)),
ia 35 (.bin .add (.t 34) (ci 1)),
ia 8 (.mv (.t 35))])))
def F108 : FnC := ⟨3, (.seq (.reg [
  ia 3 (.box 4 (.t 0)),
ia 6 (.new [(.p (.i .i64 0)), (.p (.i .i64 0)), (.p (.s [])), .nil])]) (.seq (.seq (.reg [
  ia 9 (.fad 0 (.t 3)),
ia 10 (.ld 1 false (.t 9)),
ia 11 (.bin .eql (.t 10) (ci 1))]) (.cond (.t 11) (.seq (.seq (.reg [
  ia 12 (.fad 1 (.t 3)),
ia 13 (.ld 1 false (.t 12)),
ia 14 (.mv (.t 2)),
ia 15 (.bin .geq (.t 13) (.t 14))]) (.cond (.t 15) (.reg [
  ia 16 (.fad 1 (.t 3)),
ia 17 (.ld 1 false (.t 16)),
ia 18 (.mv (.t 1)),
ia 19 (.bin .add (.t 17) (.t 18)),
ia 20 (.fad 1 (.t 3)),
io (.st 1 (.t 20) (.t 19))]) .skip)) (.seq (.reg [
  ia 21 (.ld 4 true (.t 3)),
io (.st 4 (.t 6) (.t 21))]) .ret)) .skip)) (.seq (.reg [
  ia 22 (.fad 0 (.t 3)),
ia 23 (.ld 1 false (.t 22)),
ia 24 (.fad 1 (.t 3)),
ia 25 (.ld 1 false (.t 24)),
ia 26 (.fad 2 (.t 3)),
ia 27 (.ld 1 false (.t 26)),
ia 28 (.build [(.p (.i .i64 0)), (.p (.i .i64 0)), (.p (.s [])), .nil] [(0, (1, (.t 23))), (1, (1, (.t 25))), (2, (1, (.t 27)))]),
ia 7 (.new [(.p (.i .i64 0)), (.p (.i .i64 0)), (.p (.s [])), .nil]),
io (.st 4 (.t 7) (.t 28))]) (.seq (.seq (.reg [
  ia 8 (.mv (ci 0))]) (.block 0 (.loop F108b0))) (.seq (.reg [
  ia 52 (.ld 4 true (.t 7)),
io (.st 4 (.t 6) (.t 52))]) .ret))))), [(.cell 6 4 true)]⟩
theorem cc108 : ccF Tryz.prog [(46, [0, 0]), (57, [1, 0]), (81, [0, 0]), (46, [9]), (68, [8]), (70, [8]), (54, [8]), (69, [8]), (58, [8])] Tryz.f108 = some (stripF F108) := by kernel_rfl
def F109 : FnC := ⟨1, (.seq (.reg [
  ia 1 (.box 4 (.t 0)),
ia 2 (.mv (ci 0))]) (.seq (.seq (.reg [
  ia 3 (.fad 0 (.t 1)),
ia 4 (.ld 1 false (.t 3)),
ia 5 (.bin .eql (.t 4) (ci 2))]) (.cond (.t 5) (.seq (.reg [
  ia 2 (.mv (ci 1))]) .ret) .skip)) (.seq (.seq (.reg [
  ia 6 (.fad 0 (.t 1)),
ia 7 (.ld 1 false (.t 6)),
ia 8 (.bin .eql (.t 7) (ci 6))]) (.cond (.t 8) (.seq (.reg [
  ia 9 (.fad 1 (.t 1)),
ia 10 (.ld 1 false (.t 9)),
ia 2 (.mv (.t 10))]) .ret) .skip)) (.seq (.reg [
  ia 2 (.mv (ci 0))]) .ret)))), [(.tmp 2)]⟩
theorem cc109 : ccF Tryz.prog [(46, [0, 0]), (57, [1, 0]), (81, [0, 0]), (46, [9]), (68, [8]), (70, [8]), (54, [8]), (69, [8]), (58, [8])] Tryz.f109 = some (stripF F109) := by kernel_rfl
def F110 : FnC := ⟨2, (.seq (.reg [
  ia 4 (.new [(.p (.i .i64 0)), (.p (.s [])), (.p (.i .i64 0)), (.p (.i .i64 0))]),
ia 5 (.mv (ci 0))]) (.seq (.reg [
  ia 12 (.mv (.t 0)),
ia 13 (.mv (.t 1)),
ia 14 (.call (.f 111) [(.t 12), (.t 13)]),
ia 11 (.mv (.t 14)),
ia 15 (.ext (.t 11) 0),
ia 16 (.ext (.t 11) 1),
ia 6 (.mv (.t 15)),
ia 7 (.mv (.t 16))]) (.seq (.seq (.reg [
  ia 17 (.mv (.t 6)),
ia 18 (.bin .eql (.t 17) (ci 0))]) (.cond (.t 18) (.seq (.reg [
  ia 19 (.mv (.t 0)),
ia 20 (.mv (.t 1)),
ia 21 (.call (.f 112) [(.t 19), (.t 20)]),
ia 8 (.mv (.t 21))]) (.seq (.seq (.reg [
  ia 22 (.mv (.t 8)),
ia 23 (.bin .eql (.t 22) (ci 0))]) (.cond (.t 23) (.seq (.reg [
  ia 24 (.build [(.p (.i .i64 0)), (.p (.s [])), (.p (.i .i64 0)), (.p (.i .i64 0))] []),
io (.st 4 (.t 4) (.t 24)),
ia 5 (.mv (ci 10))]) .ret) .skip)) (.seq (.reg [
  ia 25 (.mv (.t 0)),
ia 26 (.mv (.t 1)),
ia 27 (.mv (.t 1)),
ia 28 (.mv (.t 8)),
ia 29 (.bin .add (.t 27) (.t 28)),
ia 30 (.sub (.t 25) (.some (.t 26)) (.some (.t 29))),
ia 31 (.mv (.t 1)),
ia 32 (.build [(.p (.i .i64 0)), (.p (.s [])), (.p (.i .i64 0)), (.p (.i .i64 0))] [(0, (1, (ci 5))), (1, (1, (.t 30))), (3, (1, (.t 31)))]),
io (.st 4 (.t 4) (.t 32)),
ia 5 (.mv (ci 0))]) .ret))) .skip)) (.seq (.reg [
  ia 33 (.mv (.t 0)),
ia 34 (.mv (.t 1)),
ia 35 (.mv (.t 1)),
ia 36 (.mv (.t 6)),
ia 37 (.bin .add (.t 35) (.t 36)),
ia 38 (.sub (.t 33) (.some (.t 34)) (.some (.t 37))),
ia 39 (.mv (.t 1)),
ia 40 (.build [(.p (.i .i64 0)), (.p (.s [])), (.p (.i .i64 0)), (.p (.i .i64 0))] [(1, (1, (.t 38))), (3, (1, (.t 39)))]),
ia 9 (.new [(.p (.i .i64 0)), (.p (.s [])), (.p (.i .i64 0)), (.p (.i .i64 0))]),
io (.st 4 (.t 9) (.t 40))]) (.seq (.reg [
  ia 41 (.mv (.t 0)),
ia 42 (.mv (.t 1)),
ia 43 (.ixs (.t 41) (.t 42)),
ia 44 (.call (.f 113) [(.t 43)]),
ia 10 (.mv (.t 44))]) (.seq (.seq (.reg [
  ia 45 (.mv (.t 10)),
ia 46 (.bin .eql (.t 45) (ci 3))]) (.cond (.t 46) (.seq (.seq (.reg [
  ia 47 (.mv (.t 7))]) (.cond (.t 47) (.seq (.reg [
  ia 48 (.build [(.p (.i .i64 0)), (.p (.s [])), (.p (.i .i64 0)), (.p (.i .i64 0))] []),
io (.st 4 (.t 4) (.t 48)),
ia 5 (.mv (ci 10))]) .ret) .skip)) (.seq (.seq (.reg [
  ia 49 (.mv (.t 6)),
ia 50 (.bin .gtr (.t 49) (ci 18)),
ia 51 (.mv (.t 50)),
ig 52 51 false (.mv (.t 6)),
ig 53 51 false (.bin .gtr (.t 52) (ci 1)),
ig 54 51 false (.mv (.t 53)),
ig 55 54 true (.mv (.t 0)),
ig 56 54 true (.mv (.t 1)),
ig 57 54 true (.ixs (.t 55) (.t 56)),
ig 58 54 true (.bin .eql (.t 57) (.c (.a (.p (.i .u8 48))))),
ig 59 51 false (.pick (.t 54) (.t 58) (.c (.a (.p (.b false))))),
ia 60 (.pick (.t 51) (.c (.a (.p (.b true)))) (.t 59))]) (.cond (.t 60) (.seq (.reg [
  ia 61 (.build [(.p (.i .i64 0)), (.p (.s [])), (.p (.i .i64 0)), (.p (.i .i64 0))] []),
io (.st 4 (.t 4) (.t 61)),
ia 5 (.mv (ci 11))]) .ret) .skip)) (.seq (.reg [
  ia 62 (.fad 0 (.t 9)),
io (.st 1 (.t 62) (ci 3))]) (.seq (.reg [
  ia 63 (.fad 1 (.t 9)),
ia 64 (.ld 1 false (.t 63)),
ia 65 (.call (.f 114) [(.t 64)]),
ia 66 (.fad 2 (.t 9)),
io (.st 1 (.t 66) (.t 65))]) (.seq (.reg [
  ia 67 (.ld 4 true (.t 9)),
io (.st 4 (.t 4) (.t 67)),
ia 5 (.mv (ci 0))]) .ret))))) .skip)) (.seq (.seq (.reg [
  ia 68 (.mv (.t 6)),
ia 69 (.bin .gtr (.t 68) (ci 16))]) (.cond (.t 69) (.seq (.reg [
  ia 70 (.build [(.p (.i .i64 0)), (.p (.s [])), (.p (.i .i64 0)), (.p (.i .i64 0))] []),
io (.st 4 (.t 4) (.t 70)),
ia 5 (.mv (ci 11))]) .ret) .skip)) (.seq (.reg [
  ia 71 (.mv (.t 10)),
ia 72 (.fad 0 (.t 9)),
io (.st 1 (.t 72) (.t 71))]) (.seq (.seq (.reg [
  ia 73 (.fad 1 (.t 9)),
ia 74 (.ld 1 false (.t 73)),
ia 75 (.call (.f 115) [(.t 74)])]) (.cond (.t 75) (.reg [
  ia 76 (.fad 0 (.t 9)),
io (.st 1 (.t 76) (ci 4))]) .skip)) (.seq (.reg [
  ia 77 (.ld 4 true (.t 9)),
io (.st 4 (.t 4) (.t 77)),
ia 5 (.mv (ci 0))]) .ret)))))))))), [(.cell 4 4 true), (.tmp 5)]⟩
theorem cc110 : ccF Tryz.prog [(46, [0, 0]), (57, [1, 0]), (81, [0, 0]), (46, [9]), (68, [8]), (70, [8]), (54, [8]), (69, [8]), (58, [8])] Tryz.f110 = some (stripF F110) := by kernel_rfl
def F111b0 : C := (.seq (.seq (.reg [
  ia 9 (.mv (.t 1)),
ia 10 (.mv (.t 6)),
ia 11 (.bin .add (.t 9) (.t 10)),
ia 12 (.mv (.t 0)),
ia 13 (.len true (.t 12)),
ia 14 (.bin .lss (.t 11) (.t 13))]) (.cond (.t 14) .skip (.exit 0))) (.block 1 (.seq (.reg [
  ia 15 (.mv (.t 0)),
ia 16 (.mv (.t 1)),
ia 17 (.mv (.t 6)),
ia 18 (.bin .add (.t 16) (.t 17)),
ia 19 (.ixs (.t 15) (.t 18)),
ia 20 (.call (.f 113) [(.t 19)]),
ia 8 (.mv (.t 20))]) (.seq (.seq (.reg [
  ia 21 (.mv (.t 8)),
ia 22 (.bin .lss (.t 21) (ci 1)),
ia 23 (.mv (.t 22)),
ig 24 23 false (.mv (.t 8)),
ig 25 23 false (.bin .gtr (.t 24) (ci 3)),
ia 26 (.pick (.t 23) (.c (.a (.p (.b true)))) (.t 25))]) (.cond (.t 26) (.seq (.reg [
  ia 27 (.mv (.t 6)),
ia 28 (.mv (.t 7)),
ia 4 (.mv (.t 27)),
ia 5 (.mv (.t 28))]) .ret) .skip)) (.seq (.reg [
  ia 29 (.mv (.t 7)),
ia 30 (.mv (.t 29)),
ig 31 30 false (.mv (.t 8)),
ig 32 30 false (.bin .lss (.t 31) (ci 3)),
ia 33 (.pick (.t 30) (.c (.a (.p (.b true)))) (.t 32)),
ia 7 (.mv (.t 33))]) (.reg [
  ia 34 (.mv (.t 6)),
ia 35 (.bin .add (.t 34) (ci 1)),
ia 6 (.mv (.t 35))]))))))
def F111 : FnC := ⟨2, (.seq (.reg [
  ia 4 (.mv (ci 0)),
ia 5 (.mv (.c (.a (.p (.b false)))))]) (.seq (.reg [
  ia 6 (.mv (ci 0)),
ia 7 (.mv (.c (.a (.p (.b false)))))]) (.seq (.block 0 (.loop F111b0)) (.seq (.reg [
  ia 36 (.mv (.t 6)),
ia 37 (.mv (.t 7)),
ia 4 (.mv (.t 36)),
ia 5 (.mv (.t 37))]) .ret)))), [(.tmp 4), (.tmp 5)]⟩
theorem cc111 : ccF Tryz.prog [(46, [0, 0]), (57, [1, 0]), (81, [0, 0]), (46, [9]), (68, [8]), (70, [8]), (54, [8]), (69, [8]), (58, [8])] Tryz.f111 = some (stripF F111) := by kernel_rfl
def F112b0 : C := (.seq (.seq (.reg [
  ia 27 (.mv (.t 5)),
ia 28 (.bin .lss (.t 27) (ci 13))]) (.cond (.t 28) .skip (.exit 0))) (.seq (.block 1 (.seq (.reg [
  ir 31 (.mv (.t 5)),
ir 32 (.ixs (.c (.a (.p (.s [92, 46, 40, 41, 61, 123, 125, 124, 43, 45, 42, 47, 60])))) (.t 31)),
ir 33 (.mv (.t 0)),
ir 34 (.mv (.t 1)),
ir 35 (.ixs (.t 33) (.t 34)),
ia 36 (.bin .eql (.t 32) (.t 35))]) (.cond (.t 36) (.seq (.reg [
  ia 4 (.mv (ci 1))]) .ret) .skip))) (.reg [
  ia 29 (.mv (.t 5)),
ia 30 (.bin .add (.t 29) (ci 1)),
ia 5 (.mv (.t 30))])))
def F112 : FnC := ⟨2, (.seq (.reg [
  ia 4 (.mv (ci 0))]) (.seq (.seq (.reg [
  ia 6 (.mv (.t 1)),
ia 7 (.bin .add (.t 6) (ci 1)),
ia 8 (.mv (.t 0)),
ia 9 (.len true (.t 8)),
ia 10 (.bin .lss (.t 7) (.t 9)),
ia 11 (.mv (.t 10)),
ig 12 11 true (.mv (.t 0)),
ig 13 11 true (.mv (.t 1)),
ig 14 11 true (.mv (.t 1)),
ig 15 11 true (.bin .add (.t 14) (ci 2)),
ig 16 11 true (.sub (.t 12) (.some (.t 13)) (.some (.t 15))),
ig 17 11 true (.bin .eql (.t 16) (.c (.a (.p (.s [45, 62]))))),
ig 18 11 true (.mv (.t 17)),
ig 19 18 false (.mv (.t 0)),
ig 20 18 false (.mv (.t 1)),
ig 21 18 false (.mv (.t 1)),
ig 22 18 false (.bin .add (.t 21) (ci 2)),
ig 23 18 false (.sub (.t 19) (.some (.t 20)) (.some (.t 22))),
ig 24 18 false (.bin .eql (.t 23) (.c (.a (.p (.s [61, 61]))))),
ig 25 11 true (.pick (.t 18) (.c (.a (.p (.b true)))) (.t 24)),
ia 26 (.pick (.t 11) (.t 25) (.c (.a (.p (.b false)))))]) (.cond (.t 26) (.seq (.reg [
  ia 4 (.mv (ci 2))]) .ret) .skip)) (.seq (.seq (.reg [
  ia 5 (.mv (ci 0))]) (.block 0 (.loop F112b0))) (.seq (.reg [
  ia 4 (.mv (ci 0))]) .ret)))), [(.tmp 4)]⟩
theorem cc112 : ccF Tryz.prog [(46, [0, 0]), (57, [1, 0]), (81, [0, 0]), (46, [9]), (68, [8]), (70, [8]), (54, [8]), (69, [8]), (58, [8])] Tryz.f112 = some (stripF F112) := by kernel_rfl
def F113 : FnC := ⟨1, (.seq (.reg [
  ia 2 (.mv (ci 0))]) (.seq (.seq (.reg [
  ia 3 (.mv (.t 0)),
ia 4 (.bin .geq (.t 3) (.c (.a (.p (.i .u8 97))))),
ia 5 (.mv (.t 4)),
ig 6 5 true (.mv (.t 0)),
ig 7 5 true (.bin .leq (.t 6) (.c (.a (.p (.i .u8 122))))),
ia 8 (.pick (.t 5) (.t 7) (.c (.a (.p (.b false)))))]) (.cond (.t 8) (.seq (.reg [
  ia 2 (.mv (ci 1))]) .ret) .skip)) (.seq (.seq (.reg [
  ia 9 (.mv (.t 0)),
ia 10 (.bin .geq (.t 9) (.c (.a (.p (.i .u8 65))))),
ia 11 (.mv (.t 10)),
ig 12 11 true (.mv (.t 0)),
ig 13 11 true (.bin .leq (.t 12) (.c (.a (.p (.i .u8 90))))),
ia 14 (.pick (.t 11) (.t 13) (.c (.a (.p (.b false)))))]) (.cond (.t 14) (.seq (.reg [
  ia 2 (.mv (ci 2))]) .ret) .skip)) (.seq (.seq (.reg [
  ia 15 (.mv (.t 0)),
ia 16 (.bin .geq (.t 15) (.c (.a (.p (.i .u8 48))))),
ia 17 (.mv (.t 16)),
ig 18 17 true (.mv (.t 0)),
ig 19 17 true (.bin .leq (.t 18) (.c (.a (.p (.i .u8 57))))),
ia 20 (.pick (.t 17) (.t 19) (.c (.a (.p (.b false)))))]) (.cond (.t 20) (.seq (.reg [
  ia 2 (.mv (ci 3))]) .ret) .skip)) (.seq (.seq (.reg [
  ia 21 (.mv (.t 0)),
ia 22 (.bin .eql (.t 21) (.c (.a (.p (.i .u8 32))))),
ia 23 (.mv (.t 22)),
ig 24 23 false (.mv (.t 0)),
ig 25 23 false (.bin .eql (.t 24) (.c (.a (.p (.i .u8 10))))),
ia 26 (.pick (.t 23) (.c (.a (.p (.b true)))) (.t 25)),
ia 27 (.mv (.t 26)),
ig 28 27 false (.mv (.t 0)),
ig 29 27 false (.bin .eql (.t 28) (.c (.a (.p (.i .u8 9))))),
ia 30 (.pick (.t 27) (.c (.a (.p (.b true)))) (.t 29))]) (.cond (.t 30) (.seq (.reg [
  ia 2 (.mv (ci 4))]) .ret) .skip)) (.seq (.reg [
  ia 2 (.mv (ci 0))]) .ret)))))), [(.tmp 2)]⟩
theorem cc113 : ccF Tryz.prog [(46, [0, 0]), (57, [1, 0]), (81, [0, 0]), (46, [9]), (68, [8]), (70, [8]), (54, [8]), (69, [8]), (58, [8])] Tryz.f113 = some (stripF F113) := by kernel_rfl
def F114b0 : C := (.seq (.seq (.reg [
  ia 5 (.mv (.t 4)),
ia 6 (.mv (.t 0)),
ia 7 (.len true (.t 6)),
ia 8 (.bin .lss (.t 5) (.t 7))]) (.cond (.t 8) .skip (.exit 0))) (.seq (.block 1 (.reg [
  ia 11 (.mv (.t 3)),
ia 12 (.bin .mul (ci 10) (.t 11)),
ia 13 (.mv (.t 0)),
ia 14 (.mv (.t 4)),
ia 15 (.ixs (.t 13) (.t 14)),
ia 16 (.cvi .i64 (.t 15)),
ia 17 (.bin .add (.t 12) (.t 16)),
ia 18 (.bin .sub (.t 17) (ci 48)),
ia 3 (.mv (.t 18))])) (.reg [
  ia 9 (.mv (.t 4)),
ia 10 (.bin .add (.t 9) (ci 1)),
ia 4 (.mv (.t 10))])))
def F114 : FnC := ⟨1, (.seq (.reg [
  ia 2 (.mv (ci 0))]) (.seq (.reg [
  ia 3 (.mv (ci 0))]) (.seq (.seq (.reg [
  ia 4 (.mv (ci 0))]) (.block 0 (.loop F114b0))) (.seq (.reg [
  ia 19 (.mv (.t 3)),
ia 2 (.mv (.t 19))]) .ret)))), [(.tmp 2)]⟩
theorem cc114 : ccF Tryz.prog [(46, [0, 0]), (57, [1, 0]), (81, [0, 0]), (46, [9]), (68, [8]), (70, [8]), (54, [8]), (69, [8]), (58, [8])] Tryz.f114 = some (stripF F114) := by kernel_rfl
def F115 : FnC := ⟨1, (.seq (.reg [
  ia 2 (.mv (.c (.a (.p (.b false)))))]) (.seq (.reg [
  ia 3 (.mv (.t 0)),
ia 4 (.bin .eql (.t 3) (.c (.a (.p (.s [108, 101, 116]))))),
ia 5 (.mv (.t 4)),
ig 6 5 false (.mv (.t 0)),
ig 7 5 false (.bin .eql (.t 6) (.c (.a (.p (.s [108, 101, 116, 114, 101, 99]))))),
ia 8 (.pick (.t 5) (.c (.a (.p (.b true)))) (.t 7)),
ia 9 (.mv (.t 8)),
ig 10 9 false (.mv (.t 0)),
ig 11 9 false (.bin .eql (.t 10) (.c (.a (.p (.s [105, 110]))))),
ia 12 (.pick (.t 9) (.c (.a (.p (.b true)))) (.t 11)),
ia 13 (.mv (.t 12)),
ig 14 13 false (.mv (.t 0)),
ig 15 13 false (.bin .eql (.t 14) (.c (.a (.p (.s [99, 97, 115, 101]))))),
ia 16 (.pick (.t 13) (.c (.a (.p (.b true)))) (.t 15)),
ia 17 (.mv (.t 16)),
ig 18 17 false (.mv (.t 0)),
ig 19 17 false (.bin .eql (.t 18) (.c (.a (.p (.s [111, 102]))))),
ia 20 (.pick (.t 17) (.c (.a (.p (.b true)))) (.t 19)),
ia 2 (.mv (.t 20))]) .ret)), [(.tmp 2)]⟩
theorem cc115 : ccF Tryz.prog [(46, [0, 0]), (57, [1, 0]), (81, [0, 0]), (46, [9]), (68, [8]), (70, [8]), (54, [8]), (69, [8]), (58, [8])] Tryz.f115 = some (stripF F115) := by kernel_rfl
def tblC : List (FuncId × FnC) := [(103, F103), (104, F104), (105, F105), (106, F106), (107, F107), (108, F108), (109, F109), (110, F110), (111, F111), (112, F112), (113, F113), (114, F114), (115, F115)]
theorem tblOkC : ∀ x, x ∈ tblC → ∃ fn, Tryz.prog.funcs[x.1]? = some fn ∧ ccF Tryz.prog [(46, [0, 0]), (57, [1, 0]), (81, [0, 0]), (46, [9]), (68, [8]), (70, [8]), (54, [8]), (69, [8]), (58, [8])] fn = some (stripF x.2) := by
  intro x hx
  simp only [tblC, List.mem_cons, List.not_mem_nil, or_false] at hx
  rcases hx with rfl | rfl | rfl | rfl | rfl | rfl | rfl | rfl | rfl | rfl | rfl | rfl | rfl
  · exact ⟨_, Tryz.func103, cc103⟩
  · exact ⟨_, Tryz.func104, cc104⟩
  · exact ⟨_, Tryz.func105, cc105⟩
  · exact ⟨_, Tryz.func106, cc106⟩
  · exact ⟨_, Tryz.func107, cc107⟩
  · exact ⟨_, Tryz.func108, cc108⟩
  · exact ⟨_, Tryz.func109, cc109⟩
  · exact ⟨_, Tryz.func110, cc110⟩
  · exact ⟨_, Tryz.func111, cc111⟩
  · exact ⟨_, Tryz.func112, cc112⟩
  · exact ⟨_, Tryz.func113, cc113⟩
  · exact ⟨_, Tryz.func114, cc114⟩
  · exact ⟨_, Tryz.func115, cc115⟩
end Go.Proofs.YtomcceambpneiaaGreat
namespace Go.Proofs.YtomcceambpneiaaGreat
open Go.Fx
def tbl : List (FuncId × FnC) := tblA ++ tblB ++ tblC
theorem tblOk : ∀ x, x ∈ tbl → ∃ fn, Tryz.prog.funcs[x.1]? = some fn ∧ ccF Tryz.prog [(46, [0, 0]), (57, [1, 0]), (81, [0, 0]), (46, [9]), (68, [8]), (70, [8]), (54, [8]), (69, [8]), (58, [8])] fn = some (stripF x.2) := by
  intro x hx
  simp only [tbl, List.mem_append, or_assoc] at hx
  rcases hx with hx | hx | hx
  · exact tblOkA x hx
  · exact tblOkB x hx
  · exact tblOkC x hx
end Go.Proofs.YtomcceambpneiaaGreat
section
set_option linter.unusedSimpArgs false
set_option linter.unusedVariables false
set_option maxHeartbeats 4000000
set_option maxRecDepth 10000
namespace Go.Proofs.YtomcceambpneiaaGreat
open Go.Fx
def spN (f : FuncId) : Bool := f == 100 || f == 101 || f == 75 || f == 999999
def orcN (f : FuncId) (ps : List PT) : Option PT := if f = 87 then (match ps with | [.a (.l [])] => some (.a (.l [])) | _ => none) else none
def S : Seat := { fb := fun f => (tbl.find? (·.1 == f)).map (·.2), sp := spN, orc := orcN }
theorem spS (f : FuncId) : S.sp f = spN f := rfl
theorem orcS {f : FuncId} (h : f ≠ 87) (ps : List PT) : S.orc f ps = none := by show orcN f ps = none; unfold orcN; rw [if_neg h]
structure Pt where
  n : Int
  s : Int
  deriving DecidableEq
structure Ar where
  s : List UInt8
  n : Int
  deriving DecidableEq
structure Nd where
  k : Int
  lv : Int
  n : Int
  s : List UInt8
  al : List Ar
  to : List Pt
  deriving DecidableEq
structure Nt where
  ns : List Nd
  cap : Int
  deriving DecidableEq
def encP (p : Pt) : List PV := [.i .i64 p.n, .i .i64 p.s]
def encA (a : Ar) : List PV := [.s a.s, .i .i64 a.n]
def encN (x : Nd) : List PV := [.i .i64 x.k, .i .i64 x.lv, .i .i64 x.n, .s x.s, .l (x.al.map encA), .l (x.to.map encP)]
def encT (n : Nt) : List PV := [.l (n.ns.map encN), .i .i64 n.cap]
theorem allP (l : List Pt) : ((l.map encP).all fun r => decide (r.length = 2)) = true := by simp [encP]
theorem allA (l : List Ar) : ((l.map encA).all fun r => decide (r.length = 2)) = true := by simp [encA]
theorem allN (l : List Nd) : ((l.map encN).all fun r => decide (r.length = 6)) = true := by simp [encN]
def zP : Pt := ⟨0, 0⟩
def zA : Ar := ⟨[], 0⟩
def zN : Nd := ⟨0, 0, 0, [], [], []⟩
theorem getP {l : List Pt} {i : Int} (h0 : 0 ≤ i) (h1 : i < l.length) : (l.map encP)[i.toNat]? = some (encP (l.getD i.toNat zP)) := by
  rw [List.getElem?_map, List.getD_eq_getElem?_getD, List.getElem?_eq_getElem (by omega)]; rfl
theorem getA {l : List Ar} {i : Int} (h0 : 0 ≤ i) (h1 : i < l.length) : (l.map encA)[i.toNat]? = some (encA (l.getD i.toNat zA)) := by
  rw [List.getElem?_map, List.getD_eq_getElem?_getD, List.getElem?_eq_getElem (by omega)]; rfl
theorem getN {l : List Nd} {i : Int} (h0 : 0 ≤ i) (h1 : i < l.length) : (l.map encN)[i.toNat]? = some (encN (l.getD i.toNat zN)) := by
  rw [List.getElem?_map, List.getD_eq_getElem?_getD, List.getElem?_eq_getElem (by omega)]; rfl
def Nt.nd (n : Nt) (i : Int) : Nd := n.ns.getD i.toNat zN
def Nd.tt (x : Nd) (i : Int) : Pt := x.to.getD i.toNat zP
def Nt.lk (n : Nt) (p : Pt) : Pt := (n.nd p.n).tt p.s
def Nt.has (n : Nt) (p : Pt) : Bool := decide (p.n ≥ 0) && decide (p.n < n.ns.length) && decide (p.s ≥ 0) && decide (p.s < (n.nd p.n).to.length)
def wf (i : Int) : Prop := -9223372036854775808 ≤ i ∧ i ≤ 9223372036854775807
theorem wrap_in (n : Int) (h : -9223372036854775808 ≤ n ∧ n ≤ 9223372036854775807) : IntKind.i64.wrap n = n := IntWalk.i64_in n h
theorem wrap_succ (n : Nat) (h : n < 9223372036854775807) : IntKind.i64.wrap ((n : Int) + 1) = ((n + 1 : Nat) : Int) := by rw [wrap_in _ (by omega)]; omega
structure Nd.Ok (x : Nd) : Prop where
  k : wf x.k
  lv : wf x.lv
  n : wf x.n
  s : x.s.length ≤ 140737488355328
  al : x.al.length * 24 ≤ 140737488355328
  to : x.to.length * 16 ≤ 140737488355328
  ap : ∀ a, a ∈ x.al → wf a.n
  tp : ∀ p, p ∈ x.to → wf p.n ∧ wf p.s
structure Nt.Ok (n : Nt) : Prop where
  ns : n.ns.length * 88 ≤ 140737488355328
  cap : wf n.cap
  nd : ∀ x, x ∈ n.ns → x.Ok
theorem seatEqs : EqOk Tryz.prog [(46, [0, 0]), (57, [1, 0]), (81, [0, 0]), (46, [9]), (68, [8]), (70, [8]), (54, [8]), (69, [8]), (58, [8])] := by
  intro t sh h xa ya r he m σ w xs ys hx hy
  simp only [List.mem_cons, Prod.mk.injEq, List.not_mem_nil, or_false] at h
  rcases h with ⟨rfl, rfl⟩ | ⟨rfl, rfl⟩ | ⟨rfl, rfl⟩ | ⟨rfl, rfl⟩ | ⟨rfl, rfl⟩ | ⟨rfl, rfl⟩ | ⟨rfl, rfl⟩ | ⟨rfl, rfl⟩ | ⟨rfl, rfl⟩
  · exact eq_struct (sh := [0, 0]) Tryz.underlying46 (by kernel_rfl) (by kernel_rfl) ⟨by decide, rfl, ⟨_, Tryz.underlying3⟩, by decide, rfl, ⟨_, Tryz.underlying3⟩, trivial⟩ xa ya r he m σ w xs ys hx hy
  · exact eq_struct (sh := [1, 0]) Tryz.underlying57 (by kernel_rfl) (by kernel_rfl) ⟨by decide, rfl, Tryz.underlying9, by decide, rfl, ⟨_, Tryz.underlying3⟩, trivial⟩ xa ya r he m σ w xs ys hx hy
  · exact eq_arr (k := .i64) Tryz.underlying81 Tryz.underlying3 (by kernel_rfl) (by kernel_rfl) rfl (by kernel_rfl) xa ya r he m σ w xs ys hx hy
  · have h0 : ∀ (a c : List AV), eqCells [9] a c = none := fun a c => by cases a <;> cases c <;> rfl
    rw [h0] at he; cases he
  · have h0 : ∀ (a c : List AV), eqCells [8] a c = none := fun a c => by cases a <;> cases c <;> rfl
    rw [h0] at he; cases he
  · have h0 : ∀ (a c : List AV), eqCells [8] a c = none := fun a c => by cases a <;> cases c <;> rfl
    rw [h0] at he; cases he
  · have h0 : ∀ (a c : List AV), eqCells [8] a c = none := fun a c => by cases a <;> cases c <;> rfl
    rw [h0] at he; cases he
  · have h0 : ∀ (a c : List AV), eqCells [8] a c = none := fun a c => by cases a <;> cases c <;> rfl
    rw [h0] at he; cases he
  · have h0 : ∀ (a c : List AV), eqCells [8] a c = none := fun a c => by cases a <;> cases c <;> rfl
    rw [h0] at he; cases he
set_option linter.defProp false in
def nxE := And.intro (@encT.eq_1) (And.intro (@encN.eq_1) (And.intro (@encP.eq_1) (And.intro (@encA.eq_1) (And.intro (@spN.eq_1) (And.intro (@spS) (And.intro (@allP) (And.intro (@allA) (@allN))))))))
theorem clone_empty (P : Program) (eqs : List (TypeId × List Nat)) {fn : Func} {fc : FnC} (hm : P.follows .mixedOrders = true) (hE : EqOk P eqs) {f : FuncId} (hf : P.funcs[f]? = some fn) (hc : ccF P eqs fn = some (stripF fc))
    (hfc : ∃ k el b, fc = ⟨1, (.seq (.reg [⟨(.some 2), .none, (.mv (.c (.a .nil))), .any⟩]) (.seq (.seq (.reg [⟨(.some 3), .none, (.mv (.t 0)), .any⟩, ⟨(.some 4), .none, (.nq false (.t 3)), .any⟩]) (.cond (.t 4) (.seq (.reg [⟨(.some 2), .none, (.mv (.c (.a .nil))), .any⟩]) .ret) .skip)) (.seq (.reg [
      ⟨(.some 5), .none, (.bsl k el b 0 []), .any⟩, ⟨(.some 6), .none, (.mv (.t 0)), .any⟩, ⟨(.some 7), .none, (.app k el 24 (.t 5) (.t 6)), .any⟩, ⟨(.some 2), .none, (.mv (.t 7)), .any⟩]) .ret))), [(.tmp 2)]⟩ ∧ ∃ z, frL .empty b = some z ∧ ∀ σ, frL σ b = some z) :
    Ent P f ∧ SndP1 P f [.a (.l [])] (.a (.l [])) := by
  obtain ⟨k, el, b, rfl, z, hz0, hz⟩ := hfc
  have key : ∀ a c, ∃ v σ', Ent P f ∧ (∀ m w vals, SR (CRP P eqs) m .empty w → F2 (RT m .empty w) [.a (.raw (.slice a 0 c))] vals → ∀ rr n, CallsIn (FW rr) n P f vals.toArray w (PostS (CRP P eqs) m .empty w v σ')) ∧ frT σ' v = some (.a (.l [])) := by
    intro a c
    cases a with
    | none =>
      have := fn_ok (cp := fun _ _ => none) (cs := fun _ _ _ => none) (sp := fun _ => false) (σ := .empty) hm hE (fun _ _ _ h => by cases h) (fun _ _ _ _ _ h => by cases h) hf hc (args := [.a (.raw (.slice none 0 c))]) (fuel := 0) rfl rfl (.inr rfl) rfl rfl
      exact ⟨_, _, this.1, this.2, rfl⟩
    | some a =>
      have hev : evC (fun _ _ => none) (fun _ _ _ => none) (fun _ => false) 0 false (.seq (.reg [⟨(.some 2), .none, (.mv (.c (.a .nil))), .any⟩]) (.seq (.seq (.reg [⟨(.some 3), .none, (.mv (.t 0)), .any⟩, ⟨(.some 4), .none, (.nq false (.t 3)), .any⟩]) (.cond (.t 4) (.seq (.reg [⟨(.some 2), .none, (.mv (.c (.a .nil))), .any⟩]) .ret) .skip)) (.seq (.reg [
          ⟨(.some 5), .none, (.bsl k el b 0 []), .any⟩, ⟨(.some 6), .none, (.mv (.t 0)), .any⟩, ⟨(.some 7), .none, (.app k el 24 (.t 5) (.t 6)), .any⟩, ⟨(.some 2), .none, (.mv (.t 7)), .any⟩]) .ret))) (Env.init [.a (.raw (.slice (some a) 0 c))]) .empty =
          some (.ret, ((((((Env.init [.a (.raw (.slice (some a) 0 c))]).put 2 (.a .nil)).put 3 (.a (.raw (.slice (some a) 0 c)))).put 4 (.a (.p (.b false)))).put 5 (.a (.own (5, 0) 0 0))).put 6 (.a (.raw (.slice (some a) 0 c)))).put 7 (.a (.own (7, 1) 0 0)) |>.put 2 (.a (.own (7, 1) 0 0)), (((St.empty.add 5 (.row k el [])).kill (5, 0)).add 7 (.row k el []))) := by
        simp [evC, evIs, evI, evO, evR, ev, Env.init, Env.put, Env.putD, nilA, hz, evO.bslRows, St.add, St.put, St.kill, St.empty, rowsA, frA, rawE]
        try rfl
      have := fn_ok (cp := fun _ _ => none) (cs := fun _ _ _ => none) (sp := fun _ => false) (σ := .empty) hm hE (fun _ _ _ h => by cases h) (fun _ _ _ _ _ h => by cases h) hf hc (args := [.a (.raw (.slice (some a) 0 c))]) (fuel := 0) rfl hev (.inr rfl) rfl rfl
      exact ⟨_, _, this.1, this.2, by simp [frT, frA, St.add, St.put, St.kill, St.empty]⟩
  obtain ⟨_, _, hent, _, _⟩ := key none 0
  refine ⟨hent, fun w D vs hD hps rr n => ?_⟩
  cases hps with
  | cons x r =>
    cases r
    rename_i v
    have x : RP w D (.l []) v := x
    obtain ⟨a, c, rfl⟩ := x.slice
    obtain ⟨v, σ', _, hcall, hfr⟩ := key a c
    let m : Mt := { mu := fun _ => none, la := fun _ => 0, D := D }
    have hno : ∀ b, ¬ InS m .empty b := by
      rintro b (⟨s, bl, c, hs, _⟩ | ⟨l, hl, _⟩)
      · simp [St.empty] at hs
      · simp [St.empty] at hl
    have hR : SR (CRP P eqs) m .empty w :=
      { blk := fun s b hs => by simp [St.empty] at hs, gen := fun s b hs => by simp [St.empty] at hs, inj := fun s s' b b' B c c' hs => by simp [St.empty] at hs
        dj := fun b hb => absurd hb (hno b), dlt := hD, lrs := fun l r hl => by simp [St.empty] at hl, linj := fun l l' hl => by simp [St.empty] at hl }
    refine (hcall m w [.slice a 0 c] hR (.cons ⟨rfl, rfl⟩ .nil) rr n).mono ?_
    rintro e w' ⟨v, m', rfl, j1, j2, j3⟩
    refine ⟨v, rfl, ?_, ?_⟩
    · refine RPT.mono (fun b hb => ⟨?_, rfl⟩) (frT_ok j1 j2 hfr)
      rcases hb with hb | hb
      · rcases j3.new b hb with h5 | h5 | h5
        · exact .inl h5
        · exact .inr ⟨h5, j1.dlt b hb⟩
        · exact absurd h5 (hno b)
      · rcases j3.img b hb with h5 | h5
        · exact absurd h5 (hno b)
        · exact .inr ⟨h5, j1.inS_lt hb⟩
    · exact { size := j3.size, block := fun b hb => j3.kept b hb (hno b), os := j3.os, tape := j3.tape, output := j3.output }
theorem seatOk : SeatOk Tryz.prog [(46, [0, 0]), (57, [1, 0]), (81, [0, 0]), (46, [9]), (68, [8]), (70, [8]), (54, [8]), (69, [8]), (58, [8])] S where
  mixed := by kernel_rfl
  eql := seatEqs
  fb f fc h := by
    simp only [S, Option.map_eq_some_iff] at h
    obtain ⟨x, h1, rfl⟩ := h
    have h2 := List.find?_some h1
    have h3 := tblOk x (List.mem_of_find?_eq_some h1)
    simp only [beq_iff_eq] at h2
    rw [← h2]; exact h3
  orc f ps r h := by
    have h2 : orcN f ps = some r := h
    clear h
    unfold orcN at h2
    split at h2
    · rename_i hf
      subst hf
      split at h2
      · simp only [Option.some.injEq] at h2; subst h2
        exact clone_empty Tryz.prog _ (by kernel_rfl) seatEqs Tryz.func87 cc87 ⟨2, 57, _, rfl, _, rfl, fun _ => rfl⟩
      · cases h2
    · cases h2
end Go.Proofs.YtomcceambpneiaaGreat
end
section
set_option linter.unusedSimpArgs false
set_option linter.unusedVariables false
set_option maxHeartbeats 4000000
set_option maxRecDepth 10000
namespace Go.Proofs.YtomcceambpneiaaGreat
open Go.Fx
theorem Has_ok (n : Nt) (p : Pt) : eP S 17 [.g (encT n), .g (encP p)] = some (.a (.b (n.has p))) := by
  refine x_fn (orcS (by decide)) (fc := F17) rfl rfl ?_
  by_cases h1 : p.n ≥ 0
  · by_cases h2 : p.n < n.ns.length
    · have g := getN (l := n.ns) h1 h2
      have h1' : 0 ≤ p.n := h1
      by_cases h3 : p.s ≥ 0
      · simp only [F17, Nt.has, Nt.nd, h1, h1', h2, h3, g, fxa, fxc, fxE, fxL, fxI, nxE, evO, evR, cellsT, ldCells, mkT, lenA, binPV, Env.init, resV, resT, frT, klT, ownT, intT, O.adds, ownA, rowsA, over, wrOk, keysT, keysA, ne_eq, if_true, if_false, ite_self, Nat.reduceLT, Nat.reduceSub, Nat.reduceBEq, Nat.reduceEqDiff, Nat.reduceAdd, Nat.reduceLeDiff, reduceCtorEq, Nat.reduceMul]
        rfl
      · simp only [F17, Nt.has, Nt.nd, h1, h1', h2, h3, g, fxa, fxc, fxE, fxL, fxI, nxE, evO, evR, cellsT, ldCells, mkT, lenA, binPV, Env.init, resV, resT, frT, klT, ownT, intT, O.adds, ownA, rowsA, over, wrOk, keysT, keysA, ne_eq, if_true, if_false, ite_self, Nat.reduceLT, Nat.reduceSub, Nat.reduceBEq, Nat.reduceEqDiff, Nat.reduceAdd, Nat.reduceLeDiff, reduceCtorEq, Nat.reduceMul]
    · simp only [F17, Nt.has, h1, h2, fxa, fxc, fxE, fxL, fxI, nxE, evO, evR, cellsT, ldCells, mkT, lenA, binPV, Env.init, resV, resT, frT, klT, ownT, intT, O.adds, ownA, rowsA, over, wrOk, keysT, keysA, ne_eq, if_true, if_false, ite_self, Nat.reduceLT, Nat.reduceSub, Nat.reduceBEq, Nat.reduceEqDiff, Nat.reduceAdd, Nat.reduceLeDiff, reduceCtorEq, Nat.reduceMul]
  · simp only [F17, Nt.has, h1, fxa, fxc, fxE, fxL, fxI, nxE, evO, evR, cellsT, ldCells, mkT, lenA, binPV, Env.init, resV, resT, frT, klT, ownT, intT, O.adds, ownA, rowsA, over, wrOk, keysT, keysA, ne_eq, if_true, if_false, ite_self, Nat.reduceLT, Nat.reduceSub, Nat.reduceBEq, Nat.reduceEqDiff, Nat.reduceAdd, Nat.reduceLeDiff, reduceCtorEq, Nat.reduceMul]
theorem there1_ok (n : Nt) (p : Pt) (k : Key) (σ : St) (hk : σ.bs k = some (.var ((encT n).map .p))) (hlt : k.2 < σ.clk) :
    eS S (.f 80) [.g ((encP p).map .p), .a (.ptr k 0 0)] σ = some (.a (.p (.b (!n.has p))), σ.add 2 (.var ((encP p).map .p))) := by
  have hne : ¬ k = (2, σ.clk) := by rintro rfl; exact Nat.lt_irrefl _ hlt
  simp only [encT, List.map_cons, List.map_nil] at hk
  refine x_fnX (fc := F80) rfl rfl ?_
  by_cases h1 : p.n < 0
  · have h1' : ¬ p.n ≥ 0 := by omega
    simp only [F80, Nt.has, h1, h1', hk, hne, fxa, fxc, fxE, fxL, fxI, nxE, evO, evR, cellsT, ldCells, mkT, lenA, binPV, Env.init, resV, resT, frT, klT, ownT, intT, O.adds, ownA, rowsA, over, wrOk, keysT, keysA, ne_eq, if_true, if_false, ite_self, Nat.reduceLT, Nat.reduceSub, Nat.reduceBEq, Nat.reduceEqDiff, Nat.reduceAdd, Nat.reduceLeDiff, reduceCtorEq, Nat.reduceMul]
  · have h1' : p.n ≥ 0 := by omega
    have h1'' : 0 ≤ p.n := by omega
    by_cases h2 : p.n ≥ n.ns.length
    · have h2' : ¬ p.n < n.ns.length := by omega
      simp only [F80, Nt.has, h1, h1', h2, h2', hk, hne, fxa, fxc, fxE, fxL, fxI, nxE, evO, evR, cellsT, ldCells, mkT, lenA, binPV, Env.init, resV, resT, frT, klT, ownT, intT, O.adds, ownA, rowsA, over, wrOk, keysT, keysA, ne_eq, if_true, if_false, ite_self, Nat.reduceLT, Nat.reduceSub, Nat.reduceBEq, Nat.reduceEqDiff, Nat.reduceAdd, Nat.reduceLeDiff, reduceCtorEq, Nat.reduceMul]
    · have h2' : p.n < n.ns.length := by omega
      have g := getN (l := n.ns) h1'' h2'
      by_cases h3 : p.s < 0
      · have h3' : ¬ p.s ≥ 0 := by omega
        simp only [F80, Nt.has, h1, h1', h1'', h2, h2', h3, h3', g, hk, hne, fxa, fxc, fxE, fxL, fxI, nxE, evO, evR, cellsT, ldCells, mkT, lenA, binPV, Env.init, resV, resT, frT, klT, ownT, intT, O.adds, ownA, rowsA, over, wrOk, keysT, keysA, ne_eq, if_true, if_false, ite_self, Nat.reduceLT, Nat.reduceSub, Nat.reduceBEq, Nat.reduceEqDiff, Nat.reduceAdd, Nat.reduceLeDiff, reduceCtorEq, Nat.reduceMul]
      · have h3' : p.s ≥ 0 := by omega
        by_cases h4 : p.s ≥ (n.nd p.n).to.length
        · have h4' : ¬ p.s < (n.nd p.n).to.length := by omega
          simp only [Nt.nd] at h4 h4'
          simp only [F80, Nt.has, Nt.nd, h1, h1', h1'', h2, h2', h3, h3', h4, h4', g, hk, hne, fxa, fxc, fxE, fxL, fxI, nxE, evO, evR, cellsT, ldCells, mkT, lenA, binPV, Env.init, resV, resT, frT, klT, ownT, intT, O.adds, ownA, rowsA, over, wrOk, keysT, keysA, ne_eq, if_true, if_false, ite_self, Nat.reduceLT, Nat.reduceSub, Nat.reduceBEq, Nat.reduceEqDiff, Nat.reduceAdd, Nat.reduceLeDiff, reduceCtorEq, Nat.reduceMul]
        · have h4' : p.s < (n.nd p.n).to.length := by omega
          simp only [Nt.nd] at h4 h4'
          simp only [F80, Nt.has, Nt.nd, h1, h1', h1'', h2, h2', h3, h3', h4, h4', g, hk, hne, fxa, fxc, fxE, fxL, fxI, nxE, evO, evR, cellsT, ldCells, mkT, lenA, binPV, Env.init, resV, resT, frT, klT, ownT, intT, O.adds, ownA, rowsA, over, wrOk, keysT, keysA, ne_eq, if_true, if_false, ite_self, Nat.reduceLT, Nat.reduceSub, Nat.reduceBEq, Nat.reduceEqDiff, Nat.reduceAdd, Nat.reduceLeDiff, reduceCtorEq, Nat.reduceMul]
def idx {α : Type} (f : α → Bool) (l : List α) : Int := match l.findIdx? f with | some i => (i : Int) | none => -1
theorem indexP_ok (l : List Pt) (hl : l.length * 16 ≤ 140737488355328) (g : FuncId) (caps : List Key) (hc : caps ≠ []) (hsp : spN g = false) (f : Pt → Bool) (R : St → Prop)
    (hR : ∀ p σ, R σ → ∃ σ', eS S (.f g) ([.g ((encP p).map .p)] ++ caps.map fun s => .a (.ptr s 0 0)) σ = some (.a (.p (.b (f p))), σ') ∧ R σ') (σ : St) (h0 : R σ) :
    ∃ σ', eS S (.f 91) [.a (.p (.l (l.map encP))), .a (.fn g caps)] σ = some (.a (.p (.i .i64 (idx f l))), σ') ∧ R σ' := by
  obtain ⟨c1, cr, rfl⟩ : ∃ c1 cr, caps = c1 :: cr := by
    cases caps with
    | nil => exact absurd rfl hc
    | cons c1 cr => exact ⟨c1, cr, rfl⟩
  refine x_fnR (fc := F91) rfl rfl ?_
  simp only [F91, fxa, fxc, fxE, fxL, fxI, nxE, evO, evR, cellsT, ldCells, mkT, lenA, binPV, Env.init, resV, resT, frT, klT, ownT, intT, O.adds, ownA, rowsA, over, wrOk, keysT, keysA, ne_eq, if_true, if_false, ite_self, Nat.reduceLT, Nat.reduceSub, Nat.reduceBEq, Nat.reduceEqDiff, Nat.reduceAdd, Nat.reduceLeDiff, reduceCtorEq, Nat.reduceMul]
  refine loop_nat l.length (fun i e σ => e 0 = .a (.p (.l (l.map encP))) ∧ e 1 = .a (.fn g (c1 :: cr)) ∧ e 7 = .a (.p (.i .i64 l.length)) ∧ e 8 = .a (.p (.i .i64 (i : Nat))) ∧ R σ ∧ ∀ j x, j < i → l[j]? = some x → f x = false) (i0 := 0) (Nat.zero_le _) ?_ ?_ ?_
  · refine ⟨?_, ?_, ?_, ?_, h0, fun j x hj => by omega⟩ <;> simp only [fxa, fxc, fxE, fxL, fxI, nxE, evO, evR, cellsT, ldCells, mkT, lenA, binPV, Env.init, resV, resT, frT, klT, ownT, intT, O.adds, ownA, rowsA, over, wrOk, keysT, keysA, ne_eq, if_true, if_false, ite_self, Nat.reduceLT, Nat.reduceSub, Nat.reduceBEq, Nat.reduceEqDiff, Nat.reduceAdd, Nat.reduceLeDiff, reduceCtorEq, Nat.reduceMul]
    rfl
  · rintro i e σ hi ⟨e0, e1, e7, e8, hRσ, hall⟩
    have hlt : ((i : Nat) : Int) < (l.length : Int) := by omega
    have hge : (0 : Int) ≤ ((i : Nat) : Int) := by omega
    obtain ⟨x, hx⟩ : ∃ x, l[i]? = some x := ⟨_, List.getElem?_eq_getElem hi⟩
    have hx' : (l.map encP)[i]? = some (encP x) := by simp only [List.getElem?_map, hx, Option.map_some]
    obtain ⟨σ2, hcall, hR2⟩ := hR x σ hRσ
    simp only [encP, List.map_cons, List.map_nil, List.cons_append, List.nil_append] at hcall
    simp only [F91b0, e0, e1, e7, e8, hlt, hge, hx', hsp, hcall, Bool.false_eq_true, fxa, fxc, fxE, fxL, fxI, nxE, evO, evR, cellsT, ldCells, mkT, lenA, binPV, Env.init, resV, resT, frT, klT, ownT, intT, O.adds, ownA, rowsA, over, wrOk, keysT, keysA, ne_eq, if_true, if_false, ite_self, Nat.reduceLT, Nat.reduceSub, Nat.reduceBEq, Nat.reduceEqDiff, Nat.reduceAdd, Nat.reduceLeDiff, reduceCtorEq, Nat.reduceMul]
    refine wpC_split (fun hf => ?_) (fun hf => ?_)
    · simp only [fxa, fxc, fxE, fxL, fxI, nxE, evO, evR, cellsT, ldCells, mkT, lenA, binPV, Env.init, resV, resT, frT, klT, ownT, intT, O.adds, ownA, rowsA, over, wrOk, keysT, keysA, ne_eq, if_true, if_false, ite_self, Nat.reduceLT, Nat.reduceSub, Nat.reduceBEq, Nat.reduceEqDiff, Nat.reduceAdd, Nat.reduceLeDiff, reduceCtorEq, Nat.reduceMul]
      refine ⟨?_, hR2⟩
      have : l.findIdx? f = some i := by
        rw [List.findIdx?_eq_some_iff_getElem]
        refine ⟨hi, ?_, fun j hj => ?_⟩
        · rw [List.getElem?_eq_getElem hi] at hx; rw [Option.some.inj hx]; exact hf
        · rw [hall j _ hj (List.getElem?_eq_getElem (by omega))]; simp
      simp only [idx, this]
    · simp only [e0, e1, e7, e8, fxa, fxc, fxE, fxL, fxI, nxE, evO, evR, cellsT, ldCells, mkT, lenA, binPV, Env.init, resV, resT, frT, klT, ownT, intT, O.adds, ownA, rowsA, over, wrOk, keysT, keysA, ne_eq, if_true, if_false, ite_self, Nat.reduceLT, Nat.reduceSub, Nat.reduceBEq, Nat.reduceEqDiff, Nat.reduceAdd, Nat.reduceLeDiff, reduceCtorEq, Nat.reduceMul]
      refine ⟨by rw [wrap_succ i (by omega)], hR2, fun j y hj hy => ?_⟩
      by_cases e : j = i
      · subst e; rw [hx] at hy; rw [← Option.some.inj hy]; exact hf
      · exact hall j y (by omega) hy
  · rintro e σ ⟨e0, e1, e7, e8, hRσ, hall⟩
    have hlt : ¬ ((l.length : Nat) : Int) < (l.length : Int) := by omega
    simp only [F91b0, e0, e1, e7, e8, hlt, fxa, fxc, fxE, fxL, fxI, nxE, evO, evR, cellsT, ldCells, mkT, lenA, binPV, Env.init, resV, resT, frT, klT, ownT, intT, O.adds, ownA, rowsA, over, wrOk, keysT, keysA, ne_eq, if_true, if_false, ite_self, Nat.reduceLT, Nat.reduceSub, Nat.reduceBEq, Nat.reduceEqDiff, Nat.reduceAdd, Nat.reduceLeDiff, reduceCtorEq, Nat.reduceMul]
    refine ⟨?_, hRσ⟩
    have : l.findIdx? f = none := by
      rw [List.findIdx?_eq_none_iff]
      intro x hx
      obtain ⟨j, hj⟩ := List.getElem?_of_mem hx
      exact hall j x (List.getElem?_eq_some_iff.1 hj).1 hj
    simp only [idx, this]
theorem idx_any {α : Type} (f : α → Bool) (l : List α) : decide (idx f l ≥ 0) = l.any f := by
  unfold idx
  cases h : l.findIdx? f with
  | none =>
    rw [List.findIdx?_eq_none_iff] at h
    have : l.any f = false := by rw [List.any_eq_false]; intro x hx; simp [h x hx]
    rw [this]; rfl
  | some i =>
    rw [List.findIdx?_eq_some_iff_getElem] at h
    obtain ⟨hi, hf, _⟩ := h
    have : l.any f = true := by rw [List.any_eq_true]; exact ⟨_, List.getElem_mem hi, hf⟩
    rw [this]; simp
theorem there_ok (n : Nt) (l : List Pt) (hl : l.length * 16 ≤ 140737488355328) : eP S 63 [.g (encT n), .a (.l (l.map encP))] = some (.a (.b (l.all n.has))) := by
  refine x_fn (orcS (by decide)) (fc := F63) rfl rfl ?_
  have key : ∀ σ : St, σ.bs (2, 0) = some (.var ((encT n).map .p)) → 1 ≤ σ.clk → ∃ σ', eS S (.f 79) [.a (.p (.l (l.map encP))), .a (.fn 80 [(2, 0)])] σ = some (.a (.p (.b (l.any fun p => !n.has p))), σ') := by
    intro σ h2 hc
    obtain ⟨σ', h, _⟩ := indexP_ok l hl 80 [(2, 0)] (by simp) (by decide) (fun p => !n.has p) (fun σ => σ.bs (2, 0) = some (.var ((encT n).map .p)) ∧ 1 ≤ σ.clk) (fun p σ hσ => ⟨_, there1_ok n p (2, 0) σ hσ.1 (by have := hσ.2; simp; omega), by
      refine ⟨?_, ?_⟩
      · simp only [add_bs]; rw [if_neg (by rintro h; have := hσ.2; simp at h; omega)]; exact hσ.1
      · simp only [add_clk]; omega⟩) σ ⟨h2, hc⟩
    obtain ⟨v, σ2, h2, rfl, _⟩ := x_fnS (S := S) (g := 79) (fc := F79) rfl (args := [.a (.p (.l (l.map encP))), .a (.fn 80 [(2, 0)])]) rfl (σ := σ) (K := fun v σ2 => v = .a (.p (.b (l.any fun p => !n.has p))) ∧ True) (by
      simp only [F79, h, idx_any, fxa, fxc, fxE, fxL, fxI, nxE, evO, evR, cellsT, ldCells, mkT, lenA, binPV, Env.init, resV, resT, frT, klT, ownT, intT, O.adds, ownA, rowsA, over, wrOk, keysT, keysA, ne_eq, if_true, if_false, ite_self, Nat.reduceLT, Nat.reduceSub, Nat.reduceBEq, Nat.reduceEqDiff, Nat.reduceAdd, Nat.reduceLeDiff, reduceCtorEq, Nat.reduceMul])
    exact ⟨σ2, h2⟩
  obtain ⟨σ', hcall⟩ := key (((St.empty.add 2 (.var ((encT n).map .p))))) (by simp [add_bs, empty_clk]) (by simp [add_clk, empty_clk])
  have hall : (!l.any fun p => !n.has p) = l.all n.has := by simp [List.all_eq_not_any_not]
  simp only [encT, List.map_cons, List.map_nil] at hcall
  simp only [F63, capsOf, hcall, hall, fxa, fxc, fxE, fxL, fxI, nxE, evO, evR, cellsT, ldCells, mkT, lenA, binPV, Env.init, resV, resT, frT, klT, ownT, intT, O.adds, ownA, rowsA, over, wrOk, keysT, keysA, ne_eq, if_true, if_false, ite_self, Nat.reduceLT, Nat.reduceSub, Nat.reduceBEq, Nat.reduceEqDiff, Nat.reduceAdd, Nat.reduceLeDiff, reduceCtorEq, Nat.reduceMul]
theorem peer_ok {n : Nt} {p : Pt} (h : n.has p = true) : eP S 64 [.g (encT n), .g (encP p)] = some (.g (encP (n.lk p))) := by
  simp only [Nt.has, Bool.and_eq_true, decide_eq_true_eq] at h
  obtain ⟨⟨⟨h1, h2⟩, h3⟩, h4⟩ := h
  have g := getN (l := n.ns) h1 h2
  have g2 := getP (l := (n.nd p.n).to) h3 h4
  have h1' : 0 ≤ p.n := h1
  have h3' : 0 ≤ p.s := h3
  simp only [Nt.nd] at h4 g2
  refine x_fn (orcS (by decide)) (fc := F64) rfl rfl ?_
  simp only [F64, Nt.lk, Nt.nd, Nd.tt, h1', h2, h3', h4, g, g2, fxa, fxc, fxE, fxL, fxI, nxE, evO, evR, cellsT, ldCells, mkT, lenA, binPV, Env.init, resV, resT, frT, klT, ownT, intT, O.adds, ownA, rowsA, over, wrOk, keysT, keysA, ne_eq, if_true, if_false, ite_self, Nat.reduceLT, Nat.reduceSub, Nat.reduceBEq, Nat.reduceEqDiff, Nat.reduceAdd, Nat.reduceLeDiff, reduceCtorEq, Nat.reduceMul]
def Nt.set (n : Nt) (p q : Pt) : Nt := { n with ns := n.ns.set p.n.toNat { n.nd p.n with to := (n.nd p.n).to.set p.s.toNat q } }
theorem cloneP_ok (rows : List (List PV)) (hne : rows ≠ []) (hl : rows.length * 16 ≤ 140737488355328) (h2 : (rows.all fun r => decide (r.length = 2)) = true) (σ : St) :
    eS S (.f 100) [.a (.p (.l rows))] σ = some (.a (.own (7, σ.clk + 1) 0 rows.length), ((σ.add 5 (.row 2 46 [])).kill (5, σ.clk)).add 7 (.row 2 46 rows)) := by
  cases rows with
  | nil => exact absurd rfl hne
  | cons r rows =>
    refine x_fnX (fc := F100) rfl rfl ?_
    have hl' : (rows.length + 1) * 16 ≤ 140737488355328 := hl
    simp only [List.all_cons] at h2
    simp only [F100, nilA, hl', h2, fxa, fxc, fxE, fxL, fxI, nxE, evO, evR, cellsT, ldCells, mkT, lenA, binPV, Env.init, resV, resT, frT, klT, ownT, intT, O.adds, ownA, rowsA, over, wrOk, keysT, keysA, ne_eq, if_true, if_false, ite_self, Nat.reduceLT, Nat.reduceSub, Nat.reduceBEq, Nat.reduceEqDiff, Nat.reduceAdd, Nat.reduceLeDiff, reduceCtorEq, Nat.reduceMul]
theorem cloneN_ok (rows : List (List PV)) (hne : rows ≠ []) (hl : rows.length * 88 ≤ 140737488355328) (h2 : (rows.all fun r => decide (r.length = 6)) = true) (σ : St) :
    eS S (.f 101) [.a (.p (.l rows))] σ = some (.a (.own (7, σ.clk + 1) 0 rows.length), ((σ.add 5 (.row 6 33 [])).kill (5, σ.clk)).add 7 (.row 6 33 rows)) := by
  cases rows with
  | nil => exact absurd rfl hne
  | cons r rows =>
    refine x_fnX (fc := F101) rfl rfl ?_
    have hl' : (rows.length + 1) * 88 ≤ 140737488355328 := hl
    simp only [List.all_cons] at h2
    simp only [F101, nilA, hl', h2, fxa, fxc, fxE, fxL, fxI, nxE, evO, evR, cellsT, ldCells, mkT, lenA, binPV, Env.init, resV, resT, frT, klT, ownT, intT, O.adds, ownA, rowsA, over, wrOk, keysT, keysA, ne_eq, if_true, if_false, ite_self, Nat.reduceLT, Nat.reduceSub, Nat.reduceBEq, Nat.reduceEqDiff, Nat.reduceAdd, Nat.reduceLeDiff, reduceCtorEq, Nat.reduceMul]
theorem take_mapset {α : Type} (l : List α) (f : α → List PV) (j : Nat) (z : List PV) : List.take l.length ((l.map f).set j z) = (l.map f).set j z := List.take_of_length_le (by simp)
theorem with_ok {n : Nt} {p : Pt} (q : Pt) (hn : n.Ok) (h : n.has p = true) : eP S 92 [.g (encT n), .g (encP p), .g (encP q)] = some (.g (encT (n.set p q))) := by
  simp only [Nt.has, Bool.and_eq_true, decide_eq_true_eq] at h
  obtain ⟨⟨⟨h1, h2⟩, h3⟩, h4⟩ := h
  have g := getN (l := n.ns) h1 h2
  have h1' : 0 ≤ p.n := h1
  have h3' : 0 ≤ p.s := h3
  have hx : (n.nd p.n).Ok := hn.nd _ (by unfold Nt.nd; rw [List.getD_eq_getElem?_getD, List.getElem?_eq_getElem (by omega)]; exact List.getElem_mem _)
  have hto := hx.to
  have hns := hn.ns
  have g2 := getP (l := (n.nd p.n).to) h3 h4
  have c1 := cloneP_ok ((n.nd p.n).to.map encP) (by intro h; simp at h; rw [h] at h4; simp at h4; omega) (by simpa using hto) (allP _)
  have c2 := cloneN_ok (n.ns.map encN) (by intro h; simp at h; rw [h] at h2; simp at h2; omega) (by simpa using hns) (allN _)
  obtain ⟨x, hxe⟩ : ∃ x, n.ns.getD p.n.toNat zN = x := ⟨_, rfl⟩
  simp only [Nt.nd, hxe, List.length_map] at h4 g g2 c1 c2
  refine x_fn (orcS (by decide)) (fc := F92) rfl rfl ?_
  simp only [F92, h1', h2, h3', h4, g, g2, c1, c2, rowK, take_mapset, List.length_set, ne_eq, not_false_eq_true, fxa, fxc, fxE, fxL, fxI, nxE, evO, evR, cellsT, ldCells, mkT, lenA, binPV, Env.init, resV, resT, frT, klT, ownT, intT, O.adds, ownA, rowsA, over, wrOk, keysT, keysA, ne_eq, if_true, if_false, ite_self, Nat.reduceLT, Nat.reduceSub, Nat.reduceBEq, Nat.reduceEqDiff, Nat.reduceAdd, Nat.reduceLeDiff, reduceCtorEq, Nat.reduceMul]
  simp only [Nt.set, Nt.nd, hxe, List.map_set, encN, encP]
end Go.Proofs.YtomcceambpneiaaGreat
end
section
set_option linter.unusedSimpArgs false
set_option linter.unusedVariables false
set_option maxHeartbeats 4000000
set_option maxRecDepth 10000
namespace Go.Proofs.YtomcceambpneiaaGreat
open Go.Fx
theorem ptEq (p q : Pt) : (decide (p.n = q.n) && decide (p.s = q.s)) = decide (p = q) := by
  obtain ⟨a, b⟩ := p
  obtain ⟨c, d⟩ := q
  rw [Bool.eq_iff_iff]; simp
theorem has_iff {n : Nt} {p : Pt} : n.has p = true ↔ 0 ≤ p.n ∧ p.n < n.ns.length ∧ 0 ≤ p.s ∧ p.s < (n.nd p.n).to.length := by
  simp only [Nt.has, Bool.and_eq_true, decide_eq_true_eq, ge_iff_le, and_assoc]
theorem nd_set (n : Nt) (p q : Pt) (hp : n.has p = true) (i : Int) (hi : 0 ≤ i) : (n.set p q).nd i = if i = p.n then { n.nd p.n with to := (n.nd p.n).to.set p.s.toNat q } else n.nd i := by
  rw [has_iff] at hp
  unfold Nt.set Nt.nd
  simp only
  rw [List.getD_eq_getElem?_getD, List.getElem?_set, List.getD_eq_getElem?_getD, List.getD_eq_getElem?_getD]
  by_cases h : i = p.n
  · subst h; rw [if_pos rfl, if_pos rfl, if_pos (by omega)]; rfl
  · rw [if_neg h, if_neg (by omega)]
theorem len_set (n : Nt) (p q : Pt) : (n.set p q).ns.length = n.ns.length := by simp [Nt.set]
theorem has_set {n : Nt} {p : Pt} (q r : Pt) (hp : n.has p = true) : (n.set p q).has r = n.has r := by
  rw [Bool.eq_iff_iff, has_iff, has_iff, len_set]
  constructor
  · rintro ⟨h1, h2, h3, h4⟩
    rw [nd_set n p q hp _ h1] at h4
    refine ⟨h1, h2, h3, ?_⟩
    split at h4
    · rename_i e; rw [e]; simpa using h4
    · exact h4
  · rintro ⟨h1, h2, h3, h4⟩
    refine ⟨h1, h2, h3, ?_⟩
    rw [nd_set n p q hp _ h1]
    split
    · rename_i e; rw [e] at h4; simpa using h4
    · exact h4
theorem nd_mem {n : Nt} {i : Int} (h0 : 0 ≤ i) (h1 : i < n.ns.length) : n.nd i ∈ n.ns := by
  unfold Nt.nd; rw [List.getD_eq_getElem?_getD, List.getElem?_eq_getElem (by omega)]; exact List.getElem_mem _
theorem Ok_set {n : Nt} {p q : Pt} (hn : n.Ok) (hp : n.has p = true) (hq : wf q.n ∧ wf q.s) : (n.set p q).Ok := by
  rw [has_iff] at hp
  have hx := hn.nd _ (nd_mem hp.1 hp.2.1)
  refine ⟨by rw [len_set]; exact hn.ns, hn.cap, fun x hx' => ?_⟩
  rcases List.mem_or_eq_of_mem_set hx' with h | rfl
  · exact hn.nd x h
  · exact ⟨hx.k, hx.lv, hx.n, hx.s, hx.al, by simpa using hx.to, hx.ap, fun r hr => by
      rcases List.mem_or_eq_of_mem_set hr with h | rfl
      · exact hx.tp r h
      · exact hq⟩
theorem lk_set {n : Nt} {p : Pt} (q r : Pt) (hp : n.has p = true) (hr : n.has r = true) : (n.set p q).lk r = if r = p then q else n.lk r := by
  have hr' := has_iff.1 hr
  have hp' := has_iff.1 hp
  unfold Nt.lk
  rw [nd_set n p q hp _ hr'.1]
  by_cases h : r = p
  · subst h; rw [if_pos rfl, if_pos rfl]
    simp only [Nd.tt, List.getD_eq_getElem?_getD, List.getElem?_set]
    rw [if_pos trivial, if_pos (by omega)]; rfl
  · rw [if_neg h]
    split
    · rename_i e
      have hs : r.s ≠ p.s := by intro h2; apply h; obtain ⟨a, b⟩ := r; obtain ⟨c, d⟩ := p; simp only at e h2; subst e h2; rfl
      simp only [Nd.tt, List.getD_eq_getElem?_getD, List.getElem?_set]
      rw [if_neg (by omega), e]
    · rfl
def linkR (n : Nt) (p q : Pt) : Nt × Int := if (n.has p && n.has q && !decide (p = q)) = true then ((n.set p q).set q p, 0) else (n, 130)
def moveR (n : Nt) (p q : Pt) : Nt × Int := if (n.has p && n.has q && !decide (p = q) && n.has (n.lk p)) = true then (if n.lk p = q then (n, 0) else linkR n q (n.lk p)) else (n, 130)
def joinR (n : Nt) (p q : Pt) : Nt × Int := if (n.has p && n.has q && !decide (p = q) && n.has (n.lk p) && n.has (n.lk q)) = true then (if n.lk p = q then (n, 0) else linkR n (n.lk p) (n.lk q)) else (n, 130)
def encTE (x : Nt × Int) : PT := .t [(true, encT x.1), (false, [.i .i64 x.2])]
theorem there1 (n : Nt) (p : Pt) : eP S 63 [.g (encT n), .a (.l [encP p])] = some (.a (.b (n.has p))) := by
  have := there_ok n [p] (by simp); simpa using this
theorem there2 (n : Nt) (p q : Pt) : eP S 63 [.g (encT n), .a (.l [encP p, encP q])] = some (.a (.b (n.has p && n.has q))) := by
  have := there_ok n [p, q] (by simp); simpa using this
theorem lnk_ok {n : Nt} {p q : Pt} (hn : n.Ok) (hp : wf p.n ∧ wf p.s) (hq : wf q.n ∧ wf q.s) : eP S 86 [.g (encT n), .g (encP p), .g (encP q)] = some (encTE (linkR n p q)) := by
  have a1 := there2 n p q
  refine x_fn (orcS (by decide)) (fc := F86) rfl rfl ?_
  simp only [encT, encP] at a1
  unfold linkR
  cases h1 : (n.has p && n.has q) with
  | false => simp only [F86, a1, h1, encTE, fxa, fxc, fxE, fxL, fxI, nxE, evO, evR, cellsT, ldCells, mkT, lenA, binPV, Env.init, resV, resT, frT, klT, ownT, intT, O.adds, ownA, rowsA, over, wrOk, keysT, keysA, ne_eq, if_true, if_false, ite_self, Nat.reduceLT, Nat.reduceSub, Nat.reduceBEq, Nat.reduceEqDiff, Nat.reduceAdd, Nat.reduceLeDiff, reduceCtorEq, Nat.reduceMul]
  | true =>
    rw [Bool.and_eq_true] at h1
    by_cases h2 : p = q
    · subst h2
      simp only [F86, a1, h1.1, encTE, ptEq, Bool.not_true, fxa, fxc, fxE, fxL, fxI, nxE, evO, evR, cellsT, ldCells, mkT, lenA, binPV, Env.init, resV, resT, frT, klT, ownT, intT, O.adds, ownA, rowsA, over, wrOk, keysT, keysA, ne_eq, if_true, if_false, ite_self, Nat.reduceLT, Nat.reduceSub, Nat.reduceBEq, Nat.reduceEqDiff, Nat.reduceAdd, Nat.reduceLeDiff, reduceCtorEq, Nat.reduceMul]
    · have a2 := with_ok q hn h1.1
      have a3 := with_ok p (Ok_set hn h1.1 hq) (by rw [has_set q q h1.1]; exact h1.2)
      simp only [encT, encP] at a2 a3
      simp only [F86, a1, a2, a3, h1.1, h1.2, h2, encTE, ptEq, fxa, fxc, fxE, fxL, fxI, nxE, evO, evR, cellsT, ldCells, mkT, lenA, binPV, Env.init, resV, resT, frT, klT, ownT, intT, O.adds, ownA, rowsA, over, wrOk, keysT, keysA, ne_eq, if_true, if_false, ite_self, Nat.reduceLT, Nat.reduceSub, Nat.reduceBEq, Nat.reduceEqDiff, Nat.reduceAdd, Nat.reduceLeDiff, reduceCtorEq, Nat.reduceMul]
theorem Peer_ok (n : Nt) (p : Pt) : eP S 39 [.g (encT n), .g (encP p)] = some (.t [(true, encP (if n.has p then n.lk p else zP)), (false, [.i .i64 (if n.has p then 0 else 130)])]) := by
  have a1 := there1 n p
  refine x_fn (orcS (by decide)) (fc := F39) rfl rfl ?_
  simp only [encT, encP] at a1
  cases h1 : n.has p with
  | false => simp only [F39, a1, h1, zP, Bool.false_eq_true, fxa, fxc, fxE, fxL, fxI, nxE, evO, evR, cellsT, ldCells, mkT, lenA, binPV, Env.init, resV, resT, frT, klT, ownT, intT, O.adds, ownA, rowsA, over, wrOk, keysT, keysA, ne_eq, if_true, if_false, ite_self, Nat.reduceLT, Nat.reduceSub, Nat.reduceBEq, Nat.reduceEqDiff, Nat.reduceAdd, Nat.reduceLeDiff, reduceCtorEq, Nat.reduceMul]
  | true =>
    have a2 := peer_ok h1
    simp only [encT, encP] at a2
    simp only [F39, a1, a2, h1, fxa, fxc, fxE, fxL, fxI, nxE, evO, evR, cellsT, ldCells, mkT, lenA, binPV, Env.init, resV, resT, frT, klT, ownT, intT, O.adds, ownA, rowsA, over, wrOk, keysT, keysA, ne_eq, if_true, if_false, ite_self, Nat.reduceLT, Nat.reduceSub, Nat.reduceBEq, Nat.reduceEqDiff, Nat.reduceAdd, Nat.reduceLeDiff, reduceCtorEq, Nat.reduceMul]
theorem Link_ok {n : Nt} {p q : Pt} (hn : n.Ok) (hp : wf p.n ∧ wf p.s) (hq : wf q.n ∧ wf q.s) : eP S 85 [.g (encT n), .g (encP p), .g (encP q)] = some (encTE (linkR n p q)) := by
  have a1 := lnk_ok hn hp hq
  refine x_fn (orcS (by decide)) (fc := F85) rfl rfl ?_
  obtain ⟨m, hm⟩ : ∃ m, linkR n p q = m := ⟨_, rfl⟩
  obtain ⟨⟨ms, mc⟩, me⟩ := m
  rw [hm] at a1 ⊢
  simp only [encTE, encT, encP] at a1
  simp only [F85, a1, encTE, fxa, fxc, fxE, fxL, fxI, nxE, evO, evR, cellsT, ldCells, mkT, lenA, binPV, Env.init, resV, resT, frT, klT, ownT, intT, O.adds, ownA, rowsA, over, wrOk, keysT, keysA, ne_eq, if_true, if_false, ite_self, Nat.reduceLT, Nat.reduceSub, Nat.reduceBEq, Nat.reduceEqDiff, Nat.reduceAdd, Nat.reduceLeDiff, reduceCtorEq, Nat.reduceMul]
theorem lk_wf {n : Nt} {p : Pt} (hn : n.Ok) (h : n.has p = true) : wf (n.lk p).n ∧ wf (n.lk p).s := by
  rw [has_iff] at h
  refine (hn.nd _ (nd_mem h.1 h.2.1)).tp _ ?_
  unfold Nt.lk Nd.tt
  rw [List.getD_eq_getElem?_getD, List.getElem?_eq_getElem (by omega)]; exact List.getElem_mem _
theorem Move_ok {n : Nt} {p q : Pt} (hn : n.Ok) (hp : wf p.n ∧ wf p.s) (hq : wf q.n ∧ wf q.s) : eP S 72 [.g (encT n), .g (encP p), .g (encP q)] = some (encTE (moveR n p q)) := by
  have a1 := there2 n p q
  refine x_fn (orcS (by decide)) (fc := F72) rfl rfl ?_
  simp only [encT, encP] at a1
  unfold moveR
  cases h1 : (n.has p && n.has q) with
  | false => simp only [F72, a1, h1, encTE, Bool.false_eq_true, fxa, fxc, fxE, fxL, fxI, nxE, evO, evR, cellsT, ldCells, mkT, lenA, binPV, Env.init, resV, resT, frT, klT, ownT, intT, O.adds, ownA, rowsA, over, wrOk, keysT, keysA, ne_eq, if_true, if_false, ite_self, Nat.reduceLT, Nat.reduceSub, Nat.reduceBEq, Nat.reduceEqDiff, Nat.reduceAdd, Nat.reduceLeDiff, reduceCtorEq, Nat.reduceMul]
  | true =>
    rw [Bool.and_eq_true] at h1
    by_cases h2 : p = q
    · subst h2
      simp only [F72, a1, h1.1, encTE, ptEq, Bool.false_eq_true, Bool.not_true, fxa, fxc, fxE, fxL, fxI, nxE, evO, evR, cellsT, ldCells, mkT, lenA, binPV, Env.init, resV, resT, frT, klT, ownT, intT, O.adds, ownA, rowsA, over, wrOk, keysT, keysA, ne_eq, if_true, if_false, ite_self, Nat.reduceLT, Nat.reduceSub, Nat.reduceBEq, Nat.reduceEqDiff, Nat.reduceAdd, Nat.reduceLeDiff, reduceCtorEq, Nat.reduceMul]
    · have a2 := peer_ok h1.1
      have a3 := there1 n (n.lk p)
      simp only [encT, encP] at a2 a3
      cases h3 : n.has (n.lk p) with
      | false => simp only [F72, a1, a2, a3, h1.1, h1.2, h2, h3, encTE, ptEq, Bool.false_eq_true, fxa, fxc, fxE, fxL, fxI, nxE, evO, evR, cellsT, ldCells, mkT, lenA, binPV, Env.init, resV, resT, frT, klT, ownT, intT, O.adds, ownA, rowsA, over, wrOk, keysT, keysA, ne_eq, if_true, if_false, ite_self, Nat.reduceLT, Nat.reduceSub, Nat.reduceBEq, Nat.reduceEqDiff, Nat.reduceAdd, Nat.reduceLeDiff, reduceCtorEq, Nat.reduceMul]
      | true =>
        by_cases h4 : n.lk p = q
        · subst h4
          simp only [F72, a1, a2, a3, h1.1, h1.2, h2, encTE, ptEq, Bool.false_eq_true, fxa, fxc, fxE, fxL, fxI, nxE, evO, evR, cellsT, ldCells, mkT, lenA, binPV, Env.init, resV, resT, frT, klT, ownT, intT, O.adds, ownA, rowsA, over, wrOk, keysT, keysA, ne_eq, if_true, if_false, ite_self, Nat.reduceLT, Nat.reduceSub, Nat.reduceBEq, Nat.reduceEqDiff, Nat.reduceAdd, Nat.reduceLeDiff, reduceCtorEq, Nat.reduceMul]
        · have a4 := lnk_ok hn hq (lk_wf hn h1.1)
          obtain ⟨m, hm⟩ : ∃ m, linkR n q (n.lk p) = m := ⟨_, rfl⟩
          obtain ⟨⟨ms, mc⟩, me⟩ := m
          rw [hm] at a4 ⊢
          simp only [encTE, encT, encP] at a4
          simp only [F72, a1, a2, a3, a4, h1.1, h1.2, h2, h3, h4, encTE, ptEq, Bool.false_eq_true, fxa, fxc, fxE, fxL, fxI, nxE, evO, evR, cellsT, ldCells, mkT, lenA, binPV, Env.init, resV, resT, frT, klT, ownT, intT, O.adds, ownA, rowsA, over, wrOk, keysT, keysA, ne_eq, if_true, if_false, ite_self, Nat.reduceLT, Nat.reduceSub, Nat.reduceBEq, Nat.reduceEqDiff, Nat.reduceAdd, Nat.reduceLeDiff, reduceCtorEq, Nat.reduceMul]
theorem Join_ok {n : Nt} {p q : Pt} (hn : n.Ok) (hp : wf p.n ∧ wf p.s) (hq : wf q.n ∧ wf q.s) : eP S 84 [.g (encT n), .g (encP p), .g (encP q)] = some (encTE (joinR n p q)) := by
  have a1 := there2 n p q
  refine x_fn (orcS (by decide)) (fc := F84) rfl rfl ?_
  simp only [encT, encP] at a1
  unfold joinR
  cases h1 : (n.has p && n.has q) with
  | false => simp only [F84, a1, h1, encTE, Bool.false_eq_true, fxa, fxc, fxE, fxL, fxI, nxE, evO, evR, cellsT, ldCells, mkT, lenA, binPV, Env.init, resV, resT, frT, klT, ownT, intT, O.adds, ownA, rowsA, over, wrOk, keysT, keysA, ne_eq, if_true, if_false, ite_self, Nat.reduceLT, Nat.reduceSub, Nat.reduceBEq, Nat.reduceEqDiff, Nat.reduceAdd, Nat.reduceLeDiff, reduceCtorEq, Nat.reduceMul]
  | true =>
    rw [Bool.and_eq_true] at h1
    by_cases h2 : p = q
    · subst h2
      simp only [F84, a1, h1.1, encTE, ptEq, Bool.false_eq_true, Bool.not_true, fxa, fxc, fxE, fxL, fxI, nxE, evO, evR, cellsT, ldCells, mkT, lenA, binPV, Env.init, resV, resT, frT, klT, ownT, intT, O.adds, ownA, rowsA, over, wrOk, keysT, keysA, ne_eq, if_true, if_false, ite_self, Nat.reduceLT, Nat.reduceSub, Nat.reduceBEq, Nat.reduceEqDiff, Nat.reduceAdd, Nat.reduceLeDiff, reduceCtorEq, Nat.reduceMul]
    · have a2 := peer_ok h1.1
      have a2' := peer_ok h1.2
      have a3 := there2 n (n.lk p) (n.lk q)
      simp only [encT, encP] at a2 a2' a3
      cases h3 : (n.has (n.lk p) && n.has (n.lk q)) with
      | false =>
        have h3' : (true && true && true && n.has (n.lk p) && n.has (n.lk q)) = false := by simpa using h3
        simp only [F84, a1, a2, a2', a3, h1.1, h1.2, h2, h3, h3', encTE, ptEq, Bool.false_eq_true, Bool.and_assoc, fxa, fxc, fxE, fxL, fxI, nxE, evO, evR, cellsT, ldCells, mkT, lenA, binPV, Env.init, resV, resT, frT, klT, ownT, intT, O.adds, ownA, rowsA, over, wrOk, keysT, keysA, ne_eq, if_true, if_false, ite_self, Nat.reduceLT, Nat.reduceSub, Nat.reduceBEq, Nat.reduceEqDiff, Nat.reduceAdd, Nat.reduceLeDiff, reduceCtorEq, Nat.reduceMul]
      | true =>
        rw [Bool.and_eq_true] at h3
        by_cases h4 : n.lk p = q
        · subst h4
          simp only [F84, a1, a2, a2', a3, h1.1, h1.2, h2, h3.2, encTE, ptEq, Bool.false_eq_true, fxa, fxc, fxE, fxL, fxI, nxE, evO, evR, cellsT, ldCells, mkT, lenA, binPV, Env.init, resV, resT, frT, klT, ownT, intT, O.adds, ownA, rowsA, over, wrOk, keysT, keysA, ne_eq, if_true, if_false, ite_self, Nat.reduceLT, Nat.reduceSub, Nat.reduceBEq, Nat.reduceEqDiff, Nat.reduceAdd, Nat.reduceLeDiff, reduceCtorEq, Nat.reduceMul]
        · have a4 := lnk_ok hn (lk_wf hn h1.1) (lk_wf hn h1.2)
          obtain ⟨m, hm⟩ : ∃ m, linkR n (n.lk p) (n.lk q) = m := ⟨_, rfl⟩
          obtain ⟨⟨ms, mc⟩, me⟩ := m
          rw [hm] at a4 ⊢
          simp only [encTE, encT, encP] at a4
          simp only [F84, a1, a2, a2', a3, a4, h1.1, h1.2, h2, h3.1, h3.2, h4, encTE, ptEq, Bool.false_eq_true, fxa, fxc, fxE, fxL, fxI, nxE, evO, evR, cellsT, ldCells, mkT, lenA, binPV, Env.init, resV, resT, frT, klT, ownT, intT, O.adds, ownA, rowsA, over, wrOk, keysT, keysA, ne_eq, if_true, if_false, ite_self, Nat.reduceLT, Nat.reduceSub, Nat.reduceBEq, Nat.reduceEqDiff, Nat.reduceAdd, Nat.reduceLeDiff, reduceCtorEq, Nat.reduceMul]
end Go.Proofs.YtomcceambpneiaaGreat
end
