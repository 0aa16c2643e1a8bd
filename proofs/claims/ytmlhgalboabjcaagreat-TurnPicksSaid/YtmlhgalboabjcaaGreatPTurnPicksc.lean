/- Part 3 of what is proved for the law TurnPicks: it returns true,whatever the input. No condition. -/
import Derived.Test.YtmlhgalboabjcaaGreatProg
import Derived.Test.YtmlhgalboabjcaaGreatPTurnPicksb
namespace Go.Proofs.YtmlhgalboabjcaaGreat
open Go.Fx
def F6b0 : C := (.seq (.seq (.reg [
  ia 106 (.mv (.t 16)),
 ia 107 (.bin .lss (.t 106) (ci 9))]) (.cond (.t 107) .skip (.exit 0))) (.seq (.block 1 (.reg [
  ir 110 (.mv (.t 16)),
 ir 111 (.iaa 9 1 (.t 14) (.t 110)),
 ir 112 (.ld 1 false (.t 111)),
 ir 113 (.mv (.t 16)),
 ir 114 (.iaa 9 1 (.t 11) (.t 113)),
 ir 115 (.ld 1 false (.t 114)),
 ia 116 (.bin .add (.t 112) (.t 115)),
 ia 117 (.iaa 9 1 (.t 14) (.t 110)),
 io (.st 1 (.t 117) (.t 116))])) (.reg [
  ia 108 (.mv (.t 16)),
 ia 109 (.bin .add (.t 108) (ci 1)),
 ia 16 (.mv (.t 109))])))
def F6 : FnC := ⟨3,(.seq (.reg [
  ia 3 (.box 2 (.t 0)),
 ia 6 (.mv (.c (.a (.p (.b false)))))]) (.seq (.seq (.reg [
  ia 17 (.call (.f 7) []),
 ia 18 (.not (.t 17)),
 ia 19 (.mv (.t 18)),
 ig 20 19 false (.ld 2 true (.t 3)),
 ig 21 19 false (.call (.f 17) [(.t 20),(ci 120)]),
 ig 22 19 false (.not (.t 21)),
 ia 23 (.pick (.t 19) (.c (.a (.p (.b true)))) (.t 22)),
 ia 24 (.mv (.t 23)),
 ig 25 24 false (.ld 2 true (.t 3)),
 ig 26 24 false (.call (.f 18) [(.t 25)]),
 ig 27 24 false (.bin .neq (.t 26) (ci 0)),
 ia 28 (.pick (.t 24) (.c (.a (.p (.b true)))) (.t 27)),
 ia 29 (.mv (.t 28)),
 ig 30 29 false (.mv (.t 1)),
 ig 31 29 false (.len false (.t 30)),
 ig 32 29 false (.bin .gtr (.t 31) (ci 20)),
 ia 33 (.pick (.t 29) (.c (.a (.p (.b true)))) (.t 32)),
 ia 34 (.mv (.t 33)),
 ig 35 34 false (.mv (.t 2)),
 ig 36 34 false (.bin .lss (.t 35) (ci 0)),
 ia 37 (.pick (.t 34) (.c (.a (.p (.b true)))) (.t 36)),
 ia 38 (.mv (.t 37)),
 ig 39 38 false (.mv (.t 2)),
 ig 40 38 false (.mv (.t 1)),
 ig 41 38 false (.len false (.t 40)),
 ig 42 38 false (.bin .gtr (.t 39) (.t 41)),
 ia 43 (.pick (.t 38) (.c (.a (.p (.b true)))) (.t 42))]) (.cond (.t 43) (.seq (.reg [
  ia 44 (.call (.f 7) []),
 ia 6 (.mv (.t 44))]) .ret) .skip)) (.seq (.reg [
  ia 46 (.ld 2 true (.t 3)),
 ia 47 (.mv (.t 1)),
 ia 48 (.call (.f 12) [(.t 46),(.t 47)]),
 ia 45 (.mv (.t 48)),
 ia 49 (.ext (.t 45) 0),
 ia 50 (.ext (.t 45) 1),
 ia 51 (.ext (.t 45) 2),
 ia 7 (.new [.nil,(.p (.i .i64 0))]),
 ia 8 (.new [(.p (.i .i64 0)),(.p (.i .i64 0)),(.p (.i .i64 0)),(.p (.i .i64 0)),(.p (.i .i64 0)),(.p (.i .i64 0)),(.p (.i .i64 0)),(.p (.i .i64 0)),(.p (.i .i64 0))]),
 io (.st 2 (.t 7) (.t 49)),
 io (.st 9 (.t 8) (.t 50)),
 ia 9 (.mv (.t 51))]) (.seq (.reg [
  ir 53 (.ld 2 true (.t 3)),
 ir 54 (.mv (.t 1)),
 ir 55 (.mv (.t 2)),
 ir 56 (.slc 1 3 (.t 54) .none (.some (.t 55)) .none),
 ir 57 (.call (.f 12) [(.t 53),(.t 56)]),
 ir 52 (.mv (.t 57)),
 ir 58 (.ext (.t 52) 0),
 ir 59 (.ext (.t 52) 1),
 ir 60 (.ext (.t 52) 2),
 ⟨(.some 10),.none,(.new [.nil,(.p (.i .i64 0))]),.ad⟩,
 ⟨(.some 11),.none,(.new [(.p (.i .i64 0)),(.p (.i .i64 0)),(.p (.i .i64 0)),(.p (.i .i64 0)),(.p (.i .i64 0)),(.p (.i .i64 0)),(.p (.i .i64 0)),(.p (.i .i64 0)),(.p (.i .i64 0))]),.ad⟩,
 ⟨.none,.none,(.st 2 (.t 10) (.t 58)),(.wr [])⟩,
 ⟨.none,.none,(.st 9 (.t 11) (.t 59)),(.wr [])⟩,
 ia 12 (.mv (.t 60))]) (.seq (.seq (.reg [
  ia 61 (.ld 2 true (.t 7)),
 ia 62 (.call (.f 18) [(.t 61)]),
 ia 63 (.bin .neq (.t 62) (ci 0)),
 ia 64 (.mv (.t 63)),
 ig 65 64 false (.ld 2 true (.t 10)),
 ig 66 64 false (.call (.f 18) [(.t 65)]),
 ig 67 64 false (.bin .neq (.t 66) (ci 0)),
 ia 68 (.pick (.t 64) (.c (.a (.p (.b true)))) (.t 67)),
 ia 69 (.mv (.t 68)),
 ig 70 69 false (.ld 9 true (.t 8)),
 ig 71 69 false (.call (.f 16) [(.t 70)]),
 ig 72 69 false (.mv (.t 1)),
 ig 73 69 false (.len false (.t 72)),
 ig 74 69 false (.bin .gtr (.t 71) (.t 73)),
 ia 75 (.pick (.t 69) (.c (.a (.p (.b true)))) (.t 74))]) (.cond (.t 75) (.seq (.reg [
  ia 6 (.mv (.c (.a (.p (.b false)))))]) .ret) .skip)) (.seq (.seq (.reg [
  ia 76 (.mv (.t 12)),
 ia 77 (.bin .neq (.t 76) (ci 0)),
 ia 78 (.mv (.t 77)),
 ig 79 78 false (.ld 9 true (.t 11)),
 ig 80 78 false (.call (.f 16) [(.t 79)]),
 ig 81 78 false (.mv (.t 2)),
 ig 82 78 false (.bin .lss (.t 80) (.t 81)),
 ia 83 (.pick (.t 78) (.c (.a (.p (.b true)))) (.t 82))]) (.cond (.t 83) (.seq (.reg [
  ia 84 (.ld 2 true (.t 7)),
 ia 85 (.ld 2 true (.t 10)),
 ia 86 (.call (.f 15) [(.t 84),(.t 85)]),
 ia 87 (.mv (.t 86)),
 ig 88 87 true (.ld 9 true (.t 8)),
 ig 89 87 true (.ld 9 true (.t 11)),
 ig 90 87 true (.eqg false [0,0,0,0,0,0,0,0,0] (.t 88) (.t 89)),
 ia 91 (.pick (.t 87) (.t 90) (.c (.a (.p (.b false))))),
 ia 92 (.mv (.t 91)),
 ig 93 92 true (.mv (.t 9)),
 ig 94 92 true (.mv (.t 12)),
 ig 95 92 true (.bin .eql (.t 93) (.t 94)),
 ia 96 (.pick (.t 92) (.t 95) (.c (.a (.p (.b false))))),
 ia 6 (.mv (.t 96))]) .ret) .skip)) (.seq (.reg [
  ir 98 (.ld 2 true (.t 10)),
 ir 99 (.mv (.t 1)),
 ir 100 (.mv (.t 2)),
 ir 101 (.slc 1 3 (.t 99) (.some (.t 100)) .none .none),
 ir 102 (.call (.f 12) [(.t 98),(.t 101)]),
 ir 97 (.mv (.t 102)),
 ir 103 (.ext (.t 97) 0),
 ir 104 (.ext (.t 97) 1),
 ir 105 (.ext (.t 97) 2),
 ⟨(.some 13),.none,(.new [.nil,(.p (.i .i64 0))]),.ad⟩,
 ⟨(.some 14),.none,(.new [(.p (.i .i64 0)),(.p (.i .i64 0)),(.p (.i .i64 0)),(.p (.i .i64 0)),(.p (.i .i64 0)),(.p (.i .i64 0)),(.p (.i .i64 0)),(.p (.i .i64 0)),(.p (.i .i64 0))]),.ad⟩,
 ⟨.none,.none,(.st 2 (.t 13) (.t 103)),(.wr [])⟩,
 ⟨.none,.none,(.st 9 (.t 14) (.t 104)),(.wr [])⟩,
 ia 15 (.mv (.t 105))]) (.seq (.seq (.reg [
  ia 16 (.mv (ci 0))]) (.block 0 (.loop F6b0))) (.seq (.reg [
  ia 118 (.ld 2 true (.t 7)),
 ia 119 (.ld 2 true (.t 13)),
 ia 120 (.call (.f 15) [(.t 118),(.t 119)]),
 ia 121 (.mv (.t 120)),
 ig 122 121 true (.ld 9 true (.t 8)),
 ig 123 121 true (.ld 9 true (.t 14)),
 ig 124 121 true (.eqg false [0,0,0,0,0,0,0,0,0] (.t 122) (.t 123)),
 ia 125 (.pick (.t 121) (.t 124) (.c (.a (.p (.b false))))),
 ia 126 (.mv (.t 125)),
 ig 127 126 true (.mv (.t 9)),
 ig 128 126 true (.mv (.t 15)),
 ig 129 126 true (.bin .eql (.t 127) (.t 128)),
 ia 130 (.pick (.t 126) (.t 129) (.c (.a (.p (.b false))))),
 ia 6 (.mv (.t 130))]) .ret))))))))),[(.tmp 6)]⟩
theorem cc6 : ccF Tryz.prog [(42,[0,0]),(107,[1,0]),(74,[0,0]),(36,[0,0,0,0,0,0,0,0,0]),(160,[0,0]),(42,[9]),(105,[8]),(107,[8]),(75,[8]),(106,[8]),(79,[8])] Tryz.f6 = some (stripF F6) := by kernel_rfl
def F7 : FnC := ⟨0,(.seq (.reg [
  ia 0 (.mv (.c (.a (.p (.b false)))))]) (.seq (.reg [
  ia 25 (.call (.f 23) [(.c (.a (.p (.s [40,92,120,46,32,120,41,32,55])))),(ci 99)]),
 ia 26 (.build [(.p (.i .i64 0)),(.p (.i .i64 0))] []),
 ia 27 (.call (.f 13) [(.t 25),(.t 26),(ci 9)]),
 ia 24 (.mv (.t 27)),
 ia 28 (.ext (.t 24) 0),
 ia 29 (.ext (.t 24) 1),
 ia 30 (.ext (.t 24) 2),
 ia 31 (.ext (.t 24) 3),
 ia 1 (.new [.nil,(.p (.i .i64 0))]),
 ia 3 (.new [(.p (.i .i64 0)),(.p (.i .i64 0)),(.p (.i .i64 0)),(.p (.i .i64 0)),(.p (.i .i64 0)),(.p (.i .i64 0)),(.p (.i .i64 0)),(.p (.i .i64 0)),(.p (.i .i64 0))]),
 io (.st 2 (.t 1) (.t 28)),
 ia 2 (.mv (.t 29)),
 io (.st 9 (.t 3) (.t 30)),
 ia 4 (.mv (.t 31))]) (.seq (.reg [
  ia 33 (.call (.f 23) [(.c (.a (.p (.s [50,32,43,32,51])))),(ci 99)]),
 ia 34 (.build [(.p (.i .i64 0)),(.p (.i .i64 0))] []),
 ia 35 (.call (.f 13) [(.t 33),(.t 34),(ci 1)]),
 ia 32 (.mv (.t 35)),
 ia 36 (.ext (.t 32) 0),
 ia 37 (.ext (.t 32) 1),
 ia 38 (.ext (.t 32) 2),
 ia 39 (.ext (.t 32) 3),
 ia 5 (.new [.nil,(.p (.i .i64 0))]),
 ia 7 (.new [(.p (.i .i64 0)),(.p (.i .i64 0)),(.p (.i .i64 0)),(.p (.i .i64 0)),(.p (.i .i64 0)),(.p (.i .i64 0)),(.p (.i .i64 0)),(.p (.i .i64 0)),(.p (.i .i64 0))]),
 io (.st 2 (.t 5) (.t 36)),
 ia 6 (.mv (.t 37)),
 io (.st 9 (.t 7) (.t 38)),
 ia 8 (.mv (.t 39))]) (.seq (.reg [
  ia 41 (.call (.f 23) [(.c (.a (.p (.s [50,32,43,32,51])))),(ci 99)]),
 ia 42 (.build [(.p (.i .i64 0)),(.p (.i .i64 0))] []),
 ia 43 (.call (.f 13) [(.t 41),(.t 42),(ci 2)]),
 ia 40 (.mv (.t 43)),
 ia 44 (.ext (.t 40) 0),
 ia 45 (.ext (.t 40) 1),
 ia 46 (.ext (.t 40) 2),
 ia 47 (.ext (.t 40) 3),
 ia 9 (.new [.nil,(.p (.i .i64 0))]),
 ia 11 (.new [(.p (.i .i64 0)),(.p (.i .i64 0)),(.p (.i .i64 0)),(.p (.i .i64 0)),(.p (.i .i64 0)),(.p (.i .i64 0)),(.p (.i .i64 0)),(.p (.i .i64 0)),(.p (.i .i64 0))]),
 io (.st 2 (.t 9) (.t 44)),
 ia 10 (.mv (.t 45)),
 io (.st 9 (.t 11) (.t 46)),
 ia 12 (.mv (.t 47))]) (.seq (.reg [
  ia 49 (.call (.f 23) [(.c (.a (.p (.s [50,32,43,32,51])))),(ci 99)]),
 ia 50 (.build [(.p (.i .i64 0)),(.p (.i .i64 0))] []),
 ia 51 (.call (.f 13) [(.t 49),(.t 50),(.c (.a (.p (.i .i64 (-1)))))]),
 ia 48 (.mv (.t 51)),
 ia 52 (.ext (.t 48) 0),
 ia 53 (.ext (.t 48) 1),
 ia 54 (.ext (.t 48) 2),
 ia 55 (.ext (.t 48) 3),
 ia 13 (.new [.nil,(.p (.i .i64 0))]),
 ia 15 (.new [(.p (.i .i64 0)),(.p (.i .i64 0)),(.p (.i .i64 0)),(.p (.i .i64 0)),(.p (.i .i64 0)),(.p (.i .i64 0)),(.p (.i .i64 0)),(.p (.i .i64 0)),(.p (.i .i64 0))]),
 io (.st 2 (.t 13) (.t 52)),
 ia 14 (.mv (.t 53)),
 io (.st 9 (.t 15) (.t 54)),
 ia 16 (.mv (.t 55))]) (.seq (.reg [
  ia 57 (.call (.f 23) [(.c (.a (.p (.s [49,32,43,32,40,50,32,43,32,51,41])))),(ci 99)]),
 ia 58 (.bsl 1 3 [(.p (.i .i64 0))] 6 [(0,(ci 4)),(1,(.c (.a (.p (.i .i64 (-3)))))),(2,(ci 0)),(3,(ci 9)),(4,(ci 9)),(5,(ci 9))]),
 ia 59 (.call (.f 12) [(.t 57),(.t 58)]),
 ia 56 (.mv (.t 59)),
 ia 60 (.ext (.t 56) 0),
 ia 61 (.ext (.t 56) 1),
 ia 62 (.ext (.t 56) 2),
 ia 17 (.new [.nil,(.p (.i .i64 0))]),
 ia 18 (.new [(.p (.i .i64 0)),(.p (.i .i64 0)),(.p (.i .i64 0)),(.p (.i .i64 0)),(.p (.i .i64 0)),(.p (.i .i64 0)),(.p (.i .i64 0)),(.p (.i .i64 0)),(.p (.i .i64 0))]),
 io (.st 2 (.t 17) (.t 60)),
 io (.st 9 (.t 18) (.t 61)),
 ia 19 (.mv (.t 62))]) (.seq (.reg [
  ia 64 (.call (.f 23) [(.c (.a (.p (.s [99,97,115,101,32,65,32,111,102,32,123,32,65,32,45,62,32,49,32,47,32,48,32,125])))),(ci 99)]),
 ia 65 (.build [(.p (.i .i64 0)),(.p (.i .i64 0))] []),
 ia 66 (.call (.f 13) [(.t 64),(.t 65),(ci 99)]),
 ia 63 (.mv (.t 66)),
 ia 67 (.ext (.t 63) 0),
 ia 68 (.ext (.t 63) 1),
 ia 69 (.ext (.t 63) 2),
 ia 70 (.ext (.t 63) 3),
 ia 20 (.new [.nil,(.p (.i .i64 0))]),
 ia 22 (.new [(.p (.i .i64 0)),(.p (.i .i64 0)),(.p (.i .i64 0)),(.p (.i .i64 0)),(.p (.i .i64 0)),(.p (.i .i64 0)),(.p (.i .i64 0)),(.p (.i .i64 0)),(.p (.i .i64 0))]),
 io (.st 2 (.t 20) (.t 67)),
 ia 21 (.mv (.t 68)),
 io (.st 9 (.t 22) (.t 69)),
 ia 23 (.mv (.t 70))]) (.seq (.reg [
  ia 71 (.mv (.t 4)),
 ia 72 (.bin .eql (.t 71) (ci 0)),
 ia 73 (.mv (.t 72)),
 ig 74 73 true (.mv (.t 2)),
 ig 75 73 true (.fad 0 (.t 1)),
 ig 76 73 true (.ld 1 false (.t 75)),
 ig 77 73 true (.len false (.t 76)),
 ig 78 73 true (.bin .lss (.t 74) (.t 77)),
 ia 79 (.pick (.t 73) (.t 78) (.c (.a (.p (.b false))))),
 ia 80 (.mv (.t 79)),
 ig 81 80 true (.mv (.t 2)),
 ig 82 80 true (.bin .gtr (.t 81) (ci 0)),
 ia 83 (.pick (.t 80) (.t 82) (.c (.a (.p (.b false))))),
 ia 84 (.mv (.t 83)),
 ig 85 84 true (.fad 0 (.t 1)),
 ig 86 84 true (.ld 1 false (.t 85)),
 ig 87 84 true (.mv (.t 2)),
 ig 88 84 true (.ias 6 (.t 86) (.t 87)),
 ig 89 84 true (.fad 0 (.t 88)),
 ig 90 84 true (.ld 1 false (.t 89)),
 ig 91 84 true (.bin .eql (.t 90) (ci 10)),
 ia 92 (.pick (.t 84) (.t 91) (.c (.a (.p (.b false))))),
 ia 93 (.mv (.t 92)),
 ig 94 93 true (.fad 0 (.t 1)),
 ig 95 93 true (.ld 1 false (.t 94)),
 ig 96 93 true (.mv (.t 2)),
 ig 97 93 true (.ias 6 (.t 95) (.t 96)),
 ig 98 93 true (.fad 2 (.t 97)),
 ig 99 93 true (.ld 1 false (.t 98)),
 ig 100 93 true (.bin .eql (.t 99) (ci 7)),
 ia 101 (.pick (.t 93) (.t 100) (.c (.a (.p (.b false))))),
 ia 102 (.mv (.t 101)),
 ig 103 102 true (.iaa 9 1 (.t 3) (ci 1)),
 ig 104 102 true (.ld 1 false (.t 103)),
 ig 105 102 true (.bin .eql (.t 104) (ci 1)),
 ia 106 (.pick (.t 102) (.t 105) (.c (.a (.p (.b false))))),
 ia 107 (.mv (.t 106)),
 ig 108 107 true (.iaa 9 1 (.t 3) (ci 7)),
 ig 109 107 true (.ld 1 false (.t 108)),
 ig 110 107 true (.bin .eql (.t 109) (ci 1)),
 ia 111 (.pick (.t 107) (.t 110) (.c (.a (.p (.b false))))),
 ia 112 (.mv (.t 111)),
 ig 113 112 true (.ld 9 true (.t 3)),
 ig 114 112 true (.call (.f 16) [(.t 113)]),
 ig 115 112 true (.bin .eql (.t 114) (ci 2)),
 ia 116 (.pick (.t 112) (.t 115) (.c (.a (.p (.b false))))),
 ia 117 (.mv (.t 116)),
 ig 118 117 true (.mv (.t 8)),
 ig 119 117 true (.bin .eql (.t 118) (ci 90)),
 ia 120 (.pick (.t 117) (.t 119) (.c (.a (.p (.b false))))),
 ia 121 (.mv (.t 120)),
 ig 122 121 true (.iaa 9 1 (.t 7) (ci 3)),
 ig 123 121 true (.ld 1 false (.t 122)),
 ig 124 121 true (.bin .eql (.t 123) (ci 1)),
 ia 125 (.pick (.t 121) (.t 124) (.c (.a (.p (.b false))))),
 ia 126 (.mv (.t 125)),
 ig 127 126 true (.mv (.t 12)),
 ig 128 126 true (.bin .eql (.t 127) (ci 0)),
 ia 129 (.pick (.t 126) (.t 128) (.c (.a (.p (.b false))))),
 ia 130 (.mv (.t 129)),
 ig 131 130 true (.mv (.t 10)),
 ig 132 130 true (.bin .gtr (.t 131) (ci 0)),
 ia 133 (.pick (.t 130) (.t 132) (.c (.a (.p (.b false))))),
 ia 134 (.mv (.t 133)),
 ig 135 134 true (.fad 0 (.t 9)),
 ig 136 134 true (.ld 1 false (.t 135)),
 ig 137 134 true (.mv (.t 10)),
 ig 138 134 true (.ias 6 (.t 136) (.t 137)),
 ig 139 134 true (.fad 2 (.t 138)),
 ig 140 134 true (.ld 1 false (.t 139)),
 ig 141 134 true (.bin .eql (.t 140) (ci 5)),
 ia 142 (.pick (.t 134) (.t 141) (.c (.a (.p (.b false))))),
 ia 143 (.mv (.t 142)),
 ig 144 143 true (.iaa 9 1 (.t 11) (ci 4)),
 ig 145 143 true (.ld 1 false (.t 144)),
 ig 146 143 true (.bin .eql (.t 145) (ci 1)),
 ia 147 (.pick (.t 143) (.t 146) (.c (.a (.p (.b false))))),
 ia 148 (.mv (.t 147)),
 ig 149 148 true (.mv (.t 16)),
 ig 150 148 true (.bin .eql (.t 149) (ci 1)),
 ia 151 (.pick (.t 148) (.t 150) (.c (.a (.p (.b false))))),
 ia 152 (.mv (.t 151)),
 ig 153 152 true (.mv (.t 19)),
 ig 154 152 true (.bin .eql (.t 153) (ci 0)),
 ia 155 (.pick (.t 152) (.t 154) (.c (.a (.p (.b false))))),
 ia 156 (.mv (.t 155)),
 ig 157 156 true (.ld 9 true (.t 18)),
 ig 158 156 true (.call (.f 16) [(.t 157)]),
 ig 159 156 true (.bin .eql (.t 158) (ci 4)),
 ia 160 (.pick (.t 156) (.t 159) (.c (.a (.p (.b false))))),
 ia 161 (.mv (.t 160)),
 ig 162 161 true (.mv (.t 23)),
 ig 163 161 true (.bin .eql (.t 162) (ci 0)),
 ia 164 (.pick (.t 161) (.t 163) (.c (.a (.p (.b false))))),
 ia 165 (.mv (.t 164)),
 ig 166 165 true (.mv (.t 21)),
 ig 167 165 true (.bin .gtr (.t 166) (ci 0)),
 ia 168 (.pick (.t 165) (.t 167) (.c (.a (.p (.b false))))),
 ia 169 (.mv (.t 168)),
 ig 170 169 true (.iaa 9 1 (.t 22) (ci 2)),
 ig 171 169 true (.ld 1 false (.t 170)),
 ig 172 169 true (.bin .eql (.t 171) (ci 1)),
 ia 173 (.pick (.t 169) (.t 172) (.c (.a (.p (.b false))))),
 ia 174 (.mv (.t 173)),
 ig 175 174 true (.iaa 9 1 (.t 22) (ci 5)),
 ig 176 174 true (.ld 1 false (.t 175)),
 ig 177 174 true (.bin .eql (.t 176) (ci 1)),
 ia 178 (.pick (.t 174) (.t 177) (.c (.a (.p (.b false))))),
 ia 0 (.mv (.t 178))]) .ret)))))))),[(.tmp 0)]⟩
theorem cc7 : ccF Tryz.prog [(42,[0,0]),(107,[1,0]),(74,[0,0]),(36,[0,0,0,0,0,0,0,0,0]),(160,[0,0]),(42,[9]),(105,[8]),(107,[8]),(75,[8]),(106,[8]),(79,[8])] Tryz.f7 = some (stripF F7) := by kernel_rfl
def F10 : FnC := ⟨2,(.seq (.reg [
  ia 2 (.box 4 (.t 0)),
 ia 4 (.mv (.c (.a (.p (.b false)))))]) (.seq (.reg [
  ia 5 (.ld 4 true (.t 2)),
 ia 6 (.mv (.t 1)),
 ia 7 (.call (.f 25) [(.t 5),(.t 6),(.c (.a (.p (.b false))))]),
 ia 4 (.mv (.t 7))]) .ret)),[(.tmp 4)]⟩
theorem cc10 : ccF Tryz.prog [(42,[0,0]),(107,[1,0]),(74,[0,0]),(36,[0,0,0,0,0,0,0,0,0]),(160,[0,0]),(42,[9]),(105,[8]),(107,[8]),(75,[8]),(106,[8]),(79,[8])] Tryz.f10 = some (stripF F10) := by kernel_rfl
def F11 : FnC := ⟨2,(.seq (.reg [
  ia 2 (.box 4 (.t 0)),
 ia 4 (.new [.nil,(.p (.i .i64 0))]),
 ia 5 (.mv (ci 0))]) (.seq (.seq (.reg [
  ia 7 (.ld 4 true (.t 2)),
 ia 8 (.call (.f 10) [(.t 7),(ci 0)]),
 ia 9 (.not (.t 8)),
 ia 10 (.mv (.t 9)),
 ig 11 10 false (.mv (.t 1)),
 ig 12 10 false (.bin .lss (.t 11) (ci 2)),
 ia 13 (.pick (.t 10) (.c (.a (.p (.b true)))) (.t 12)),
 ia 14 (.mv (.t 13)),
 ig 15 14 false (.mv (.t 1)),
 ig 16 14 false (.bin .gtr (.t 15) (ci 4000)),
 ia 17 (.pick (.t 14) (.c (.a (.p (.b true)))) (.t 16))]) (.cond (.t 17) (.seq (.reg [
  ia 18 (.build [.nil,(.p (.i .i64 0))] []),
 io (.st 2 (.t 4) (.t 18)),
 ia 5 (.mv (ci 1))]) .ret) .skip)) (.seq (.reg [
  ia 19 (.mv (.t 1)),
 ia 20 (.build [(.p (.i .i64 0)),(.p (.i .i64 0))] []),
 ia 21 (.bsl 2 42 [(.p (.i .i64 0)),(.p (.i .i64 0))] 1 [(0,(.t 20))]),
 ia 22 (.build [(.p (.i .i64 0)),(.p (.i .i64 0)),(.p (.i .i64 0)),(.p (.s [])),.nil,.nil] [(0,(1,(ci 1))),(5,(1,(.t 21)))]),
 ia 23 (.bsl 6 46 [(.p (.i .i64 0)),(.p (.i .i64 0)),(.p (.i .i64 0)),(.p (.s [])),.nil,.nil] 1 [(0,(.t 22))]),
 ia 24 (.build [.nil,(.p (.i .i64 0))] [(1,(1,(.t 19))),(0,(1,(.t 23)))]),
 ia 25 (.ld 4 true (.t 2)),
 ia 26 (.call (.f 26) [(.t 24),(.t 25),(ci 0)]),
 ia 6 (.new [.nil,(.p (.i .i64 0)),(.p (.i .i64 0)),(.p (.i .i64 0)),.nil,(.p (.i .i64 0))]),
 io (.st 6 (.t 6) (.t 26))]) (.seq (.seq (.reg [
  ia 27 (.fad 5 (.t 6)),
 ia 28 (.ld 1 false (.t 27)),
 ia 29 (.bin .neq (.t 28) (ci 0))]) (.cond (.t 29) (.seq (.reg [
  ir 30 (.build [.nil,(.p (.i .i64 0))] []),
 ir 31 (.fad 5 (.t 6)),
 ir 32 (.ld 1 false (.t 31)),
 ⟨.none,.none,(.st 2 (.t 4) (.t 30)),(.wr [31])⟩,
 ia 5 (.mv (.t 32))]) .ret) .skip)) (.seq (.reg [
  ir 33 (.fad 0 (.t 6)),
 ir 34 (.ld 2 true (.t 33)),
 ir 35 (.fad 2 (.t 6)),
 ir 36 (.ld 2 true (.t 35)),
 ir 37 (.call (.f 28) [(ci 0),(ci 0)]),
 ia 38 (.call (.f 27) [(.t 34),(.t 36),(.t 37)]),
 io (.st 2 (.t 4) (.t 38)),
 ia 5 (.mv (ci 0))]) .ret))))),[(.cell 4 2 true),(.tmp 5)]⟩
theorem cc11 : ccF Tryz.prog [(42,[0,0]),(107,[1,0]),(74,[0,0]),(36,[0,0,0,0,0,0,0,0,0]),(160,[0,0]),(42,[9]),(105,[8]),(107,[8]),(75,[8]),(106,[8]),(79,[8])] Tryz.f11 = some (stripF F11) := by kernel_rfl
def F12b0 : C := (.seq (.reg [
  ia 19 (.bin .lss (.t 18) (.t 17))]) (.seq (.cond (.t 19) .skip (.exit 0)) (.seq (.block 1 (.seq (.reg [
  ia 20 (.ias 1 (.t 16) (.t 18)),
 ia 21 (.ld 1 false (.t 20)),
 ia 9 (.mv (.t 21))]) (.seq (.reg [
  ia 23 (.mv (.t 7)),
 ia 24 (.nck (.t 23)),
 ia 25 (.fad 0 (.t 24)),
 ia 26 (.ld 2 true (.t 25)),
 ia 27 (.mv (.t 9)),
 ia 28 (.call (.f 29) [(.t 26),(.t 27)]),
 ia 22 (.mv (.t 28)),
 ia 29 (.ext (.t 22) 0),
 ia 30 (.ext (.t 22) 1),
 ia 10 (.new [(.p (.i .i64 0)),(.p (.i .i64 0))]),
 io (.st 2 (.t 10) (.t 29)),
 ia 11 (.mv (.t 30))]) (.seq (.seq (.reg [
  ia 31 (.mv (.t 11)),
 ia 32 (.not (.t 31))]) (.cond (.t 32) (.exit 0) .skip)) (.seq (.reg [
  ia 33 (.mv (.t 7)),
 ia 34 (.fad 0 (.t 10)),
 ia 35 (.ld 1 false (.t 34)),
 ia 36 (.call (.f 30) [(.t 33),(.t 35)]),
 ia 12 (.mv (.t 36))]) (.seq (.reg [
  ia 37 (.mv (.t 12)),
 ia 38 (.bin .neq (.t 37) (ci 0))]) (.cond (.t 38) (.seq (.reg [
  ir 39 (.mv (.t 7)),
 ir 40 (.nck (.t 39)),
 ir 41 (.fad 0 (.t 40)),
 ir 42 (.ld 2 true (.t 41)),
 ir 43 (.mv (.t 7)),
 ir 44 (.nck (.t 43)),
 ir 45 (.fad 2 (.t 44)),
 ir 46 (.ld 9 true (.t 45)),
 ir 47 (.mv (.t 12)),
 ⟨.none,.none,(.st 2 (.t 4) (.t 42)),(.wr [45])⟩,
 ⟨.none,.none,(.st 9 (.t 5) (.t 46)),(.wr [])⟩,
 ia 6 (.mv (.t 47))]) .ret) .skip))))))) (.reg [
  ia 48 (.bin .add (.t 18) (ci 1)),
 ia 18 (.mv (.t 48))]))))
def F12 : FnC := ⟨2,(.seq (.reg [
  ia 2 (.box 2 (.t 0)),
 ia 4 (.new [.nil,(.p (.i .i64 0))]),
 ia 5 (.new [(.p (.i .i64 0)),(.p (.i .i64 0)),(.p (.i .i64 0)),(.p (.i .i64 0)),(.p (.i .i64 0)),(.p (.i .i64 0)),(.p (.i .i64 0)),(.p (.i .i64 0)),(.p (.i .i64 0))]),
 ia 6 (.mv (ci 0))]) (.seq (.reg [
  ia 13 (.ld 2 true (.t 2)),
 ia 14 (.build [.nil,(.p (.i .i64 0)),(.p (.i .i64 0)),(.p (.i .i64 0)),(.p (.i .i64 0)),(.p (.i .i64 0)),(.p (.i .i64 0)),(.p (.i .i64 0)),(.p (.i .i64 0)),(.p (.i .i64 0)),(.p (.i .i64 0)),(.p (.i .i64 0))] [(0,(2,(.t 13)))]),
 ia 15 (.box 12 (.t 14)),
 ia 7 (.mv (.t 15))]) (.seq (.seq (.reg [
  ia 16 (.mv (.t 1)),
 ia 17 (.len false (.t 16)),
 ia 18 (.mv (ci 0))]) (.block 0 (.loop F12b0))) (.seq (.reg [
  ir 49 (.mv (.t 7)),
 ir 50 (.nck (.t 49)),
 ir 51 (.fad 0 (.t 50)),
 ir 52 (.ld 2 true (.t 51)),
 ir 53 (.mv (.t 7)),
 ir 54 (.nck (.t 53)),
 ir 55 (.fad 2 (.t 54)),
 ir 56 (.ld 9 true (.t 55)),
 ⟨.none,.none,(.st 2 (.t 4) (.t 52)),(.wr [55])⟩,
 io (.st 9 (.t 5) (.t 56)),
 ia 6 (.mv (ci 0))]) .ret)))),[(.cell 4 2 true),(.cell 5 9 true),(.tmp 6)]⟩
theorem cc12 : ccF Tryz.prog [(42,[0,0]),(107,[1,0]),(74,[0,0]),(36,[0,0,0,0,0,0,0,0,0]),(160,[0,0]),(42,[9]),(105,[8]),(107,[8]),(75,[8]),(106,[8]),(79,[8])] Tryz.f12 = some (stripF F12) := by kernel_rfl
def F13 : FnC := ⟨3,(.seq (.reg [
  ia 3 (.box 2 (.t 0)),
 ia 4 (.box 2 (.t 1)),
 ia 6 (.new [.nil,(.p (.i .i64 0))]),
 ia 7 (.mv (ci 0)),
 ia 8 (.new [(.p (.i .i64 0)),(.p (.i .i64 0)),(.p (.i .i64 0)),(.p (.i .i64 0)),(.p (.i .i64 0)),(.p (.i .i64 0)),(.p (.i .i64 0)),(.p (.i .i64 0)),(.p (.i .i64 0))]),
 ia 9 (.mv (ci 0))]) (.seq (.seq (.reg [
  ia 13 (.mv (.t 2)),
 ia 14 (.bin .lss (.t 13) (ci 0)),
 ia 15 (.mv (.t 14)),
 ig 16 15 false (.mv (.t 2)),
 ig 17 15 false (.bin .gtr (.t 16) (ci 100000)),
 ia 18 (.pick (.t 15) (.c (.a (.p (.b true)))) (.t 17))]) (.cond (.t 18) (.seq (.reg [
  ia 19 (.ld 2 true (.t 3)),
 ia 20 (.build [(.p (.i .i64 0)),(.p (.i .i64 0)),(.p (.i .i64 0)),(.p (.i .i64 0)),(.p (.i .i64 0)),(.p (.i .i64 0)),(.p (.i .i64 0)),(.p (.i .i64 0)),(.p (.i .i64 0))] []),
 io (.st 2 (.t 6) (.t 19)),
 ia 7 (.mv (ci 0)),
 io (.st 9 (.t 8) (.t 20)),
 ia 9 (.mv (ci 1))]) .ret) .skip)) (.seq (.reg [
  ia 21 (.ld 2 true (.t 3)),
 ia 22 (.build [.nil,(.p (.i .i64 0)),(.p (.i .i64 0)),(.p (.i .i64 0)),(.p (.i .i64 0)),(.p (.i .i64 0)),(.p (.i .i64 0)),(.p (.i .i64 0)),(.p (.i .i64 0)),(.p (.i .i64 0)),(.p (.i .i64 0)),(.p (.i .i64 0))] [(0,(2,(.t 21)))]),
 ia 23 (.box 12 (.t 22)),
 ia 10 (.mv (.t 23))]) (.seq (.reg [
  ia 25 (.mv (.t 10)),
 ia 26 (.ld 2 true (.t 4)),
 ia 27 (.mv (.t 2)),
 ia 28 (.call (.f 31) [(.t 25),(.t 26),(.t 27)]),
 ia 24 (.mv (.t 28)),
 ia 29 (.ext (.t 24) 0),
 ia 30 (.ext (.t 24) 1),
 ia 11 (.mv (.t 29)),
 ia 12 (.mv (.t 30))]) (.seq (.reg [
  ir 31 (.mv (.t 10)),
 ir 32 (.nck (.t 31)),
 ir 33 (.fad 0 (.t 32)),
 ir 34 (.ld 2 true (.t 33)),
 ir 35 (.mv (.t 11)),
 ir 36 (.mv (.t 10)),
 ir 37 (.nck (.t 36)),
 ir 38 (.fad 2 (.t 37)),
 ir 39 (.ld 9 true (.t 38)),
 ir 40 (.mv (.t 12)),
 ⟨.none,.none,(.st 2 (.t 6) (.t 34)),(.wr [38])⟩,
 ir 7 (.mv (.t 35)),
 ⟨.none,.none,(.st 9 (.t 8) (.t 39)),(.wr [])⟩,
 ia 9 (.mv (.t 40))]) .ret))))),[(.cell 6 2 true),(.tmp 7),(.cell 8 9 true),(.tmp 9)]⟩
theorem cc13 : ccF Tryz.prog [(42,[0,0]),(107,[1,0]),(74,[0,0]),(36,[0,0,0,0,0,0,0,0,0]),(160,[0,0]),(42,[9]),(105,[8]),(107,[8]),(75,[8]),(106,[8]),(79,[8])] Tryz.f13 = some (stripF F13) := by kernel_rfl
def F15b0 : C := (.seq (.seq (.reg [
  ia 20 (.mv (.t 5)),
 ia 21 (.fad 0 (.t 2)),
 ia 22 (.ld 1 false (.t 21)),
 ia 23 (.len false (.t 22)),
 ia 24 (.bin .lss (.t 20) (.t 23))]) (.cond (.t 24) .skip (.exit 0))) (.seq (.block 1 (.seq (.reg [
  ir 27 (.fad 0 (.t 2)),
 ir 28 (.ld 1 false (.t 27)),
 ir 29 (.mv (.t 5)),
 ir 30 (.ias 6 (.t 28) (.t 29)),
 ir 31 (.ld 6 true (.t 30)),
 ir 32 (.fad 0 (.t 3)),
 ir 33 (.ld 1 false (.t 32)),
 ir 34 (.mv (.t 5)),
 ir 35 (.ias 6 (.t 33) (.t 34)),
 ir 36 (.ld 6 true (.t 35)),
 ia 37 (.call (.f 32) [(.t 31),(.t 36)]),
 ia 38 (.not (.t 37))]) (.cond (.t 38) (.seq (.reg [
  ia 4 (.mv (.c (.a (.p (.b false)))))]) .ret) .skip))) (.reg [
  ia 25 (.mv (.t 5)),
 ia 26 (.bin .add (.t 25) (ci 1)),
 ia 5 (.mv (.t 26))])))
def F15 : FnC := ⟨2,(.seq (.reg [
  ia 2 (.box 2 (.t 0)),
 ia 3 (.box 2 (.t 1)),
 ia 4 (.mv (.c (.a (.p (.b false)))))]) (.seq (.seq (.reg [
  ia 6 (.fad 1 (.t 2)),
 ia 7 (.ld 1 false (.t 6)),
 ia 8 (.fad 1 (.t 3)),
 ia 9 (.ld 1 false (.t 8)),
 ia 10 (.bin .neq (.t 7) (.t 9)),
 ia 11 (.mv (.t 10)),
 ig 12 11 false (.fad 0 (.t 2)),
 ig 13 11 false (.ld 1 false (.t 12)),
 ig 14 11 false (.len false (.t 13)),
 ig 15 11 false (.fad 0 (.t 3)),
 ig 16 11 false (.ld 1 false (.t 15)),
 ig 17 11 false (.len false (.t 16)),
 ig 18 11 false (.bin .neq (.t 14) (.t 17)),
 ia 19 (.pick (.t 11) (.c (.a (.p (.b true)))) (.t 18))]) (.cond (.t 19) (.seq (.reg [
  ia 4 (.mv (.c (.a (.p (.b false)))))]) .ret) .skip)) (.seq (.seq (.reg [
  ia 5 (.mv (ci 0))]) (.block 0 (.loop F15b0))) (.seq (.reg [
  ia 4 (.mv (.c (.a (.p (.b true)))))]) .ret)))),[(.tmp 4)]⟩
theorem cc15 : ccF Tryz.prog [(42,[0,0]),(107,[1,0]),(74,[0,0]),(36,[0,0,0,0,0,0,0,0,0]),(160,[0,0]),(42,[9]),(105,[8]),(107,[8]),(75,[8]),(106,[8]),(79,[8])] Tryz.f15 = some (stripF F15) := by kernel_rfl
def F16b0 : C := (.seq (.seq (.reg [
  ia 5 (.mv (.t 4)),
 ia 6 (.bin .lss (.t 5) (ci 9))]) (.cond (.t 6) .skip (.exit 0))) (.seq (.block 1 (.reg [
  ia 9 (.mv (.t 3)),
 ia 10 (.mv (.t 4)),
 ia 11 (.iaa 9 1 (.t 1) (.t 10)),
 ia 12 (.ld 1 false (.t 11)),
 ia 13 (.bin .add (.t 9) (.t 12)),
 ia 3 (.mv (.t 13))])) (.reg [
  ia 7 (.mv (.t 4)),
 ia 8 (.bin .add (.t 7) (ci 1)),
 ia 4 (.mv (.t 8))])))
def F16 : FnC := ⟨1,(.seq (.reg [
  ia 1 (.box 9 (.t 0)),
 ia 2 (.mv (ci 0))]) (.seq (.reg [
  ia 3 (.mv (ci 0))]) (.seq (.seq (.reg [
  ia 4 (.mv (ci 0))]) (.block 0 (.loop F16b0))) (.seq (.reg [
  ia 14 (.mv (.t 3)),
 ia 2 (.mv (.t 14))]) .ret)))),[(.tmp 2)]⟩
theorem cc16 : ccF Tryz.prog [(42,[0,0]),(107,[1,0]),(74,[0,0]),(36,[0,0,0,0,0,0,0,0,0]),(160,[0,0]),(42,[9]),(105,[8]),(107,[8]),(75,[8]),(106,[8]),(79,[8])] Tryz.f16 = some (stripF F16) := by kernel_rfl
def F17b0 : C := (.seq (.seq (.reg [
  ia 6 (.mv (.t 5)),
 ia 7 (.fad 0 (.t 2)),
 ia 8 (.ld 1 false (.t 7)),
 ia 9 (.len false (.t 8)),
 ia 10 (.bin .lss (.t 6) (.t 9))]) (.cond (.t 10) .skip (.exit 0))) (.seq (.block 1 (.seq (.reg [
  ia 13 (.fad 0 (.t 2)),
 ia 14 (.ld 1 false (.t 13)),
 ia 15 (.mv (.t 5)),
 ia 16 (.ias 6 (.t 14) (.t 15)),
 ia 17 (.fad 5 (.t 16)),
 ia 18 (.ld 1 false (.t 17)),
 ia 19 (.len false (.t 18)),
 ia 20 (.bin .gtr (.t 19) (ci 12)),
 ia 21 (.mv (.t 20)),
 ig 22 21 false (.fad 0 (.t 2)),
 ig 23 21 false (.ld 1 false (.t 22)),
 ig 24 21 false (.mv (.t 5)),
 ig 25 21 false (.ias 6 (.t 23) (.t 24)),
 ig 26 21 false (.fad 4 (.t 25)),
 ig 27 21 false (.ld 1 false (.t 26)),
 ig 28 21 false (.len false (.t 27)),
 ig 29 21 false (.bin .gtr (.t 28) (ci 12)),
 ia 30 (.pick (.t 21) (.c (.a (.p (.b true)))) (.t 29))]) (.cond (.t 30) (.seq (.reg [
  ia 4 (.mv (.c (.a (.p (.b false)))))]) .ret) .skip))) (.reg [
  ia 11 (.mv (.t 5)),
 ia 12 (.bin .add (.t 11) (ci 1)),
 ia 5 (.mv (.t 12))])))
def F17 : FnC := ⟨2,(.seq (.reg [
  ia 2 (.box 2 (.t 0)),
 ia 4 (.mv (.c (.a (.p (.b false)))))]) (.seq (.seq (.reg [
  ia 5 (.mv (ci 0))]) (.block 0 (.loop F17b0))) (.seq (.reg [
  ia 31 (.fad 0 (.t 2)),
 ia 32 (.ld 1 false (.t 31)),
 ia 33 (.len false (.t 32)),
 ia 34 (.mv (.t 1)),
 ia 35 (.bin .leq (.t 33) (.t 34)),
 ia 4 (.mv (.t 35))]) .ret))),[(.tmp 4)]⟩
theorem cc17 : ccF Tryz.prog [(42,[0,0]),(107,[1,0]),(74,[0,0]),(36,[0,0,0,0,0,0,0,0,0]),(160,[0,0]),(42,[9]),(105,[8]),(107,[8]),(75,[8]),(106,[8]),(79,[8])] Tryz.f17 = some (stripF F17) := by kernel_rfl
def F18b1 : C := (.seq (.seq (.reg [
  ia 73 (.mv (.t 5)),
 ia 74 (.fad 5 (.t 4)),
 ia 75 (.ld 1 false (.t 74)),
 ia 76 (.len false (.t 75)),
 ia 77 (.bin .lss (.t 73) (.t 76))]) (.cond (.t 77) .skip (.exit 2))) (.seq (.block 3 (.seq (.reg [
  ia 80 (.mv (.t 3)),
 ia 81 (.mv (.t 5)),
 ia 82 (.build [(.p (.i .i64 0)),(.p (.i .i64 0))] [(0,(1,(.t 80))),(1,(1,(.t 81)))]),
 ia 6 (.new [(.p (.i .i64 0)),(.p (.i .i64 0))]),
 io (.st 2 (.t 6) (.t 82))]) (.seq (.reg [
  ia 83 (.fad 5 (.t 4)),
 ia 84 (.ld 1 false (.t 83)),
 ia 85 (.mv (.t 5)),
 ia 86 (.ias 2 (.t 84) (.t 85)),
 ia 87 (.ld 2 true (.t 86)),
 ia 7 (.new [(.p (.i .i64 0)),(.p (.i .i64 0))]),
 io (.st 2 (.t 7) (.t 87))]) (.seq (.reg [
  ir 88 (.ld 2 true (.t 7)),
 ir 89 (.ld 2 true (.t 6)),
 ia 90 (.eqg false [0,0] (.t 88) (.t 89)),
 ia 91 (.mv (.t 90)),
 ih 92 91 false (.ld 2 true (.t 1)),
 ih 93 91 false (.ld 2 true (.t 7)),
 ig 94 91 false (.call (.f 35) [(.t 92),(.t 93)]),
 ig 95 91 false (.not (.t 94)),
 ia 96 (.pick (.t 91) (.c (.a (.p (.b true)))) (.t 95)),
 ia 97 (.mv (.t 96)),
 ih 98 97 false (.fad 0 (.t 1)),
 ih 99 97 false (.ld 1 false (.t 98)),
 ih 100 97 false (.fad 0 (.t 7)),
 ih 101 97 false (.ld 1 false (.t 100)),
 ih 102 97 false (.ias 6 (.t 99) (.t 101)),
 ih 103 97 false (.fad 5 (.t 102)),
 ih 104 97 false (.ld 1 false (.t 103)),
 ih 105 97 false (.fad 1 (.t 7)),
 ih 106 97 false (.ld 1 false (.t 105)),
 ih 107 97 false (.ias 2 (.t 104) (.t 106)),
 ih 108 97 false (.ld 2 true (.t 107)),
 ih 109 97 false (.ld 2 true (.t 6)),
 ig 110 97 false (.eqg true [0,0] (.t 108) (.t 109)),
 ia 111 (.pick (.t 97) (.c (.a (.p (.b true)))) (.t 110))]) (.cond (.t 111) (.seq (.reg [
  ia 2 (.mv (ci 120))]) .ret) .skip))))) (.reg [
  ia 78 (.mv (.t 5)),
 ia 79 (.bin .add (.t 78) (ci 1)),
 ia 5 (.mv (.t 79))])))
def F18b0 : C := (.seq (.seq (.reg [
  ia 42 (.mv (.t 3)),
 ia 43 (.fad 0 (.t 1)),
 ia 44 (.ld 1 false (.t 43)),
 ia 45 (.len false (.t 44)),
 ia 46 (.bin .lss (.t 42) (.t 45))]) (.cond (.t 46) .skip (.exit 0))) (.seq (.block 1 (.seq (.reg [
  ia 49 (.fad 0 (.t 1)),
 ia 50 (.ld 1 false (.t 49)),
 ia 51 (.mv (.t 3)),
 ia 52 (.ias 6 (.t 50) (.t 51)),
 ia 53 (.ld 6 true (.t 52)),
 ia 4 (.new [(.p (.i .i64 0)),(.p (.i .i64 0)),(.p (.i .i64 0)),(.p (.s [])),.nil,.nil]),
 io (.st 6 (.t 4) (.t 53))]) (.seq (.seq (.reg [
  ia 54 (.ld 6 true (.t 4)),
 ia 55 (.call (.f 33) [(.t 54)]),
 ia 56 (.not (.t 55)),
 ia 57 (.mv (.t 56)),
 ih 58 57 false (.fad 5 (.t 4)),
 ih 59 57 false (.ld 1 false (.t 58)),
 ih 60 57 false (.len false (.t 59)),
 ih 61 57 false (.ld 6 true (.t 4)),
 ih 62 57 false (.call (.f 34) [(.t 61)]),
 ig 63 57 false (.bin .neq (.t 60) (.t 62)),
 ia 64 (.pick (.t 57) (.c (.a (.p (.b true)))) (.t 63)),
 ia 65 (.mv (.t 64)),
 ih 66 65 false (.mv (.t 3)),
 ih 67 65 false (.bin .eql (.t 66) (ci 0)),
 ih 68 65 false (.fad 0 (.t 4)),
 ih 69 65 false (.ld 1 false (.t 68)),
 ih 70 65 false (.bin .eql (.t 69) (ci 1)),
 ig 71 65 false (.eqb true (.t 67) (.t 70)),
 ia 72 (.pick (.t 65) (.c (.a (.p (.b true)))) (.t 71))]) (.cond (.t 72) (.seq (.reg [
  ia 2 (.mv (ci 120))]) .ret) .skip)) (.seq (.reg [
  ia 5 (.mv (ci 0))]) (.block 2 (.loop F18b1)))))) (.reg [
  ia 47 (.mv (.t 3)),
 ia 48 (.bin .add (.t 47) (ci 1)),
 ia 3 (.mv (.t 48))])))
def F18 : FnC := ⟨1,(.seq (.reg [
  ia 1 (.box 2 (.t 0)),
 ia 2 (.mv (ci 0))]) (.seq (.seq (.reg [
  ia 8 (.fad 1 (.t 1)),
 ia 9 (.ld 1 false (.t 8)),
 ia 10 (.bin .lss (.t 9) (ci 1)),
 ia 11 (.mv (.t 10)),
 ig 12 11 false (.fad 1 (.t 1)),
 ig 13 11 false (.ld 1 false (.t 12)),
 ig 14 11 false (.bin .gtr (.t 13) (ci 4000)),
 ia 15 (.pick (.t 11) (.c (.a (.p (.b true)))) (.t 14)),
 ia 16 (.mv (.t 15)),
 ig 17 16 false (.fad 0 (.t 1)),
 ig 18 16 false (.ld 1 false (.t 17)),
 ig 19 16 false (.len false (.t 18)),
 ig 20 16 false (.bin .lss (.t 19) (ci 1)),
 ia 21 (.pick (.t 16) (.c (.a (.p (.b true)))) (.t 20)),
 ia 22 (.mv (.t 21)),
 ig 23 22 false (.fad 0 (.t 1)),
 ig 24 22 false (.ld 1 false (.t 23)),
 ig 25 22 false (.len false (.t 24)),
 ig 26 22 false (.fad 1 (.t 1)),
 ig 27 22 false (.ld 1 false (.t 26)),
 ig 28 22 false (.bin .gtr (.t 25) (.t 27)),
 ia 29 (.pick (.t 22) (.c (.a (.p (.b true)))) (.t 28)),
 ia 30 (.mv (.t 29)),
 ig 31 30 false (.fad 0 (.t 1)),
 ig 32 30 false (.ld 1 false (.t 31)),
 ig 33 30 false (.fad 0 (.t 1)),
 ig 34 30 false (.ld 1 false (.t 33)),
 ig 35 30 false (.len false (.t 34)),
 ig 36 30 false (.bin .sub (.t 35) (ci 1)),
 ig 37 30 false (.ias 6 (.t 32) (.t 36)),
 ig 38 30 false (.fad 0 (.t 37)),
 ig 39 30 false (.ld 1 false (.t 38)),
 ig 40 30 false (.bin .eql (.t 39) (ci 0)),
 ia 41 (.pick (.t 30) (.c (.a (.p (.b true)))) (.t 40))]) (.cond (.t 41) (.seq (.reg [
  ia 2 (.mv (ci 120))]) .ret) .skip)) (.seq (.seq (.reg [
  ia 3 (.mv (ci 0))]) (.block 0 (.loop F18b0))) (.seq (.reg [
  ia 2 (.mv (ci 0))]) .ret)))),[(.tmp 2)]⟩
theorem cc18 : ccF Tryz.prog [(42,[0,0]),(107,[1,0]),(74,[0,0]),(36,[0,0,0,0,0,0,0,0,0]),(160,[0,0]),(42,[9]),(105,[8]),(107,[8]),(75,[8]),(106,[8]),(79,[8])] Tryz.f18 = some (stripF F18) := by kernel_rfl
def F19 : FnC := ⟨2,(.seq (.reg [
  ia 2 (.box 2 (.t 0)),
 ia 4 (.new [.nil,(.p (.i .i64 0))]),
 ia 5 (.new [(.p (.i .i64 0)),(.p (.b false)),(.p (.i .i64 0)),(.p (.i .i64 0)),(.p (.i .i64 0)),(.p (.i .i64 0)),(.p (.i .i64 0)),(.p (.s [])),.nil,.nil]),
 ia 6 (.mv (ci 0))]) (.seq (.reg [
  ia 11 (.ld 2 true (.t 2)),
 ia 12 (.mv (.t 1)),
 ia 13 (.call (.f 21) [(.t 11),(.t 12)]),
 ia 10 (.mv (.t 13)),
 ia 14 (.ext (.t 10) 0),
 ia 15 (.ext (.t 10) 1),
 ia 16 (.ext (.t 10) 2),
 ia 7 (.new [.nil,(.p (.i .i64 0))]),
 ia 8 (.new [(.p (.i .i64 0)),(.p (.b false)),(.p (.i .i64 0)),(.p (.i .i64 0)),(.p (.i .i64 0)),(.p (.i .i64 0)),(.p (.i .i64 0)),(.p (.s [])),.nil,.nil]),
 io (.st 2 (.t 7) (.t 14)),
 io (.st 10 (.t 8) (.t 15)),
 ia 9 (.mv (.t 16))]) (.seq (.seq (.reg [
  ia 17 (.mv (.t 9)),
 ia 18 (.bin .neq (.t 17) (ci 121))]) (.cond (.t 18) (.seq (.reg [
  ir 19 (.ld 2 true (.t 7)),
 ir 20 (.ld 10 true (.t 8)),
 ir 21 (.mv (.t 9)),
 ⟨.none,.none,(.st 2 (.t 4) (.t 19)),(.wr [8])⟩,
 ⟨.none,.none,(.st 10 (.t 5) (.t 20)),(.wr [])⟩,
 ia 6 (.mv (.t 21))]) .ret) .skip)) (.seq (.seq (.reg [
  ia 23 (.ld 2 true (.t 2)),
 ia 24 (.call (.f 36) [(.t 23)]),
 ia 25 (.mv (.t 1)),
 ia 26 (.call (.f 21) [(.t 24),(.t 25)]),
 ia 22 (.mv (.t 26)),
 ia 27 (.ext (.t 22) 0),
 ia 28 (.ext (.t 22) 1),
 ia 29 (.ext (.t 22) 2),
 io (.st 2 (.t 7) (.t 27)),
 io (.st 10 (.t 8) (.t 28)),
 ia 9 (.mv (.t 29))]) (.seq (.reg [
  ia 30 (.mv (.t 9)),
 ia 31 (.bin .neq (.t 30) (ci 0))]) (.cond (.t 31) (.seq (.reg [
  ia 32 (.ld 2 true (.t 2)),
 ia 33 (.build [(.p (.i .i64 0)),(.p (.b false)),(.p (.i .i64 0)),(.p (.i .i64 0)),(.p (.i .i64 0)),(.p (.i .i64 0)),(.p (.i .i64 0)),(.p (.s [])),.nil,.nil] []),
 io (.st 2 (.t 4) (.t 32)),
 io (.st 10 (.t 5) (.t 33)),
 ia 6 (.mv (ci 121))]) .ret) .skip))) (.seq (.reg [
  ir 34 (.ld 2 true (.t 7)),
 ir 35 (.ld 10 true (.t 8)),
 ir 36 (.mv (.t 9)),
 ⟨.none,.none,(.st 2 (.t 4) (.t 34)),(.wr [8])⟩,
 ⟨.none,.none,(.st 10 (.t 5) (.t 35)),(.wr [])⟩,
 ia 6 (.mv (.t 36))]) .ret))))),[(.cell 4 2 true),(.cell 5 10 true),(.tmp 6)]⟩
theorem cc19 : ccF Tryz.prog [(42,[0,0]),(107,[1,0]),(74,[0,0]),(36,[0,0,0,0,0,0,0,0,0]),(160,[0,0]),(42,[9]),(105,[8]),(107,[8]),(75,[8]),(106,[8]),(79,[8])] Tryz.f19 = some (stripF F19) := by kernel_rfl
def F21 : FnC := ⟨2,(.seq (.reg [
  ia 2 (.box 2 (.t 0)),
 ia 4 (.new [.nil,(.p (.i .i64 0))]),
 ia 5 (.new [(.p (.i .i64 0)),(.p (.b false)),(.p (.i .i64 0)),(.p (.i .i64 0)),(.p (.i .i64 0)),(.p (.i .i64 0)),(.p (.i .i64 0)),(.p (.s [])),.nil,.nil]),
 ia 6 (.mv (ci 0))]) (.seq (.seq (.reg [
  ia 12 (.ld 2 true (.t 2)),
 ia 13 (.call (.f 37) [(.t 12)]),
 ia 7 (.mv (.t 13))]) (.seq (.reg [
  ia 14 (.mv (.t 7)),
 ia 15 (.bin .neq (.t 14) (ci 0))]) (.cond (.t 15) (.seq (.reg [
  ia 16 (.ld 2 true (.t 2)),
 ia 17 (.build [(.p (.i .i64 0)),(.p (.b false)),(.p (.i .i64 0)),(.p (.i .i64 0)),(.p (.i .i64 0)),(.p (.i .i64 0)),(.p (.i .i64 0)),(.p (.s [])),.nil,.nil] []),
 ia 18 (.mv (.t 7)),
 io (.st 2 (.t 4) (.t 16)),
 io (.st 10 (.t 5) (.t 17)),
 ia 6 (.mv (.t 18))]) .ret) .skip))) (.seq (.reg [
  ia 19 (.ld 2 true (.t 2)),
 ia 20 (.mv (.t 1)),
 ia 21 (.call (.f 38) [(.t 19),(.t 20)]),
 ia 8 (.mv (.t 21))]) (.seq (.seq (.reg [
  ia 22 (.mv (.t 8)),
 ia 23 (.bin .lss (.t 22) (ci 0))]) (.cond (.t 23) (.seq (.reg [
  ia 24 (.ld 2 true (.t 2)),
 ia 25 (.build [(.p (.i .i64 0)),(.p (.b false)),(.p (.i .i64 0)),(.p (.i .i64 0)),(.p (.i .i64 0)),(.p (.i .i64 0)),(.p (.i .i64 0)),(.p (.s [])),.nil,.nil] []),
 io (.st 2 (.t 4) (.t 24)),
 io (.st 10 (.t 5) (.t 25)),
 ia 6 (.mv (ci 122))]) .ret) .skip)) (.seq (.reg [
  ir 27 (.fad 0 (.t 2)),
 ir 28 (.ld 1 false (.t 27)),
 ir 29 (.mv (.t 1)),
 ir 30 (.ias 6 (.t 28) (.t 29)),
 ir 31 (.ld 6 true (.t 30)),
 ir 32 (.fad 0 (.t 2)),
 ir 33 (.ld 1 false (.t 32)),
 ir 34 (.mv (.t 8)),
 ir 35 (.ias 6 (.t 33) (.t 34)),
 ir 36 (.ld 6 true (.t 35)),
 ir 37 (.call (.f 39) [(.t 31),(.t 36)]),
 ir 26 (.mv (.t 37)),
 ir 38 (.ext (.t 26) 0),
 ir 39 (.ext (.t 26) 1),
 ⟨(.some 9),.none,(.new [(.p (.i .i64 0)),(.p (.b false)),(.p (.i .i64 0)),(.p (.i .i64 0)),(.p (.i .i64 0)),(.p (.i .i64 0)),(.p (.i .i64 0)),(.p (.s [])),.nil,.nil]),.ad⟩,
 ⟨.none,.none,(.st 10 (.t 9) (.t 38)),(.wr [])⟩,
 ia 10 (.mv (.t 39))]) (.seq (.block 0 (.seq (.reg [
  ia 41 (.mv (.t 10)),
 ia 42 (.bin .neq (.t 41) (ci 0)),
 ia 40 (.mv (.t 42))]) (.cond (.t 40) (.seq (.reg [
  ia 43 (.ld 2 true (.t 2)),
 ia 44 (.build [(.p (.i .i64 0)),(.p (.b false)),(.p (.i .i64 0)),(.p (.i .i64 0)),(.p (.i .i64 0)),(.p (.i .i64 0)),(.p (.i .i64 0)),(.p (.s [])),.nil,.nil] []),
 ia 45 (.mv (.t 10)),
 io (.st 2 (.t 4) (.t 43)),
 io (.st 10 (.t 5) (.t 44)),
 ia 6 (.mv (.t 45))]) .ret) (.seq (.reg [
  ir 47 (.ld 2 true (.t 2)),
 ir 48 (.call (.f 40) [(.t 47)]),
 ir 49 (.ld 10 true (.t 9)),
 ir 50 (.fad 0 (.t 2)),
 ir 51 (.ld 1 false (.t 50)),
 ir 52 (.mv (.t 1)),
 ir 53 (.ias 6 (.t 51) (.t 52)),
 ir 54 (.ld 6 true (.t 53)),
 ir 55 (.fad 0 (.t 2)),
 ir 56 (.ld 1 false (.t 55)),
 ir 57 (.mv (.t 8)),
 ir 58 (.ias 6 (.t 56) (.t 57)),
 ir 59 (.ld 6 true (.t 58)),
 ir 60 (.call (.f 41) [(.t 49),(.t 54),(.t 59)]),
 ir 61 (.bin .add (.t 48) (.t 60)),
 ir 62 (.fad 1 (.t 2)),
 ir 63 (.ld 1 false (.t 62)),
 ia 64 (.bin .gtr (.t 61) (.t 63)),
 ia 46 (.mv (.t 64))]) (.cond (.t 46) (.seq (.reg [
  ia 65 (.ld 2 true (.t 2)),
 ia 66 (.build [(.p (.i .i64 0)),(.p (.b false)),(.p (.i .i64 0)),(.p (.i .i64 0)),(.p (.i .i64 0)),(.p (.i .i64 0)),(.p (.i .i64 0)),(.p (.s [])),.nil,.nil] []),
 io (.st 2 (.t 4) (.t 65)),
 io (.st 10 (.t 5) (.t 66)),
 ia 6 (.mv (ci 121))]) .ret) .skip))))) (.seq (.reg [
  ia 67 (.ld 2 true (.t 2)),
 ia 68 (.ld 10 true (.t 9)),
 ia 69 (.mv (.t 1)),
 ia 70 (.mv (.t 8)),
 ia 71 (.build [.nil,(.p (.i .i64 0)),(.p (.i .i64 0)),(.p (.b false)),(.p (.i .i64 0)),(.p (.i .i64 0)),(.p (.i .i64 0)),(.p (.i .i64 0)),(.p (.i .i64 0)),(.p (.s [])),.nil,.nil,(.p (.i .i64 0)),(.p (.i .i64 0))] [(0,(2,(.t 67))),(2,(10,(.t 68))),(12,(1,(.t 69))),(13,(1,(.t 70)))]),
 ia 72 (.box 14 (.t 71)),
 ia 11 (.mv (.t 72))]) (.seq (.seq (.reg [
  ia 73 (.fad 1 (.t 9)),
 ia 74 (.ld 1 false (.t 73))]) (.cond (.t 74) (.reg [
  ia 75 (.mv (.t 11)),
 ia 76 (.mv (.t 11)),
 ia 77 (.mv (.t 8)),
 ia 78 (.mv (.t 1)),
 ia 79 (.nck (.t 75)),
 ia 80 (.fad 12 (.t 79)),
 io (.st 1 (.t 80) (.t 77)),
 ia 81 (.nck (.t 76)),
 ia 82 (.fad 13 (.t 81)),
 io (.st 1 (.t 82) (.t 78))]) .skip)) (.seq (.reg [
  ia 83 (.mv (.t 11)),
 ia 84 (.call (.f 42) [(.t 83)])]) (.seq (.reg [
  ir 85 (.mv (.t 11)),
 ir 86 (.nck (.t 85)),
 ir 87 (.fad 0 (.t 86)),
 ir 88 (.ld 2 true (.t 87)),
 ir 89 (.ld 10 true (.t 9)),
 ⟨.none,.none,(.st 2 (.t 4) (.t 88)),(.wr [9])⟩,
 io (.st 10 (.t 5) (.t 89)),
 ia 6 (.mv (ci 0))]) .ret)))))))))),[(.cell 4 2 true),(.cell 5 10 true),(.tmp 6)]⟩
theorem cc21 : ccF Tryz.prog [(42,[0,0]),(107,[1,0]),(74,[0,0]),(36,[0,0,0,0,0,0,0,0,0]),(160,[0,0]),(42,[9]),(105,[8]),(107,[8]),(75,[8]),(106,[8]),(79,[8])] Tryz.f21 = some (stripF F21) := by kernel_rfl
def F23 : FnC := ⟨2,(.seq (.reg [
  ia 4 (.new [.nil,(.p (.i .i64 0))])]) (.seq (.reg [
  ia 14 (.mv (.t 0)),
 ia 15 (.call (.f 45) [(.t 14),(ci 150)]),
 ia 13 (.mv (.t 15)),
 ia 16 (.ext (.t 13) 0),
 ia 17 (.ext (.t 13) 1),
 ia 18 (.ext (.t 13) 2),
 ia 5 (.new [(.p (.i .i64 0)),(.p (.s [])),(.p (.i .i64 0)),(.p (.i .i64 0)),.nil]),
 io (.st 5 (.t 5) (.t 16)),
 ia 6 (.mv (.t 17)),
 ia 7 (.mv (.t 18))]) (.seq (.reg [
  ia 20 (.ld 5 true (.t 5)),
 ia 21 (.call (.f 46) [(.t 20)]),
 ia 19 (.mv (.t 21)),
 ia 22 (.ext (.t 19) 0),
 ia 23 (.ext (.t 19) 1),
 ia 24 (.ext (.t 19) 2),
 ia 8 (.new [(.p (.i .i64 0)),(.p (.i .i64 0)),(.p (.s [])),.nil]),
 io (.st 4 (.t 8) (.t 22)),
 ia 9 (.mv (.t 23)),
 ia 10 (.mv (.t 24))]) (.seq (.reg [
  ia 26 (.ld 4 true (.t 8)),
 ia 27 (.mv (.t 1)),
 ia 28 (.call (.f 11) [(.t 26),(.t 27)]),
 ia 25 (.mv (.t 28)),
 ia 29 (.ext (.t 25) 0),
 ia 30 (.ext (.t 25) 1),
 ia 11 (.new [.nil,(.p (.i .i64 0))]),
 io (.st 2 (.t 11) (.t 29)),
 ia 12 (.mv (.t 30))]) (.seq (.reg [
  ia 31 (.ld 2 true (.t 11)),
 io (.st 2 (.t 4) (.t 31))]) .ret))))),[(.cell 4 2 true)]⟩
theorem cc23 : ccF Tryz.prog [(42,[0,0]),(107,[1,0]),(74,[0,0]),(36,[0,0,0,0,0,0,0,0,0]),(160,[0,0]),(42,[9]),(105,[8]),(107,[8]),(75,[8]),(106,[8]),(79,[8])] Tryz.f23 = some (stripF F23) := by kernel_rfl
def F25b1 : C := (.seq (.seq (.reg [
  ia 52 (.mv (.t 8)),
 ia 53 (.mv (.t 7)),
 ia 54 (.bin .lss (.t 52) (.t 53)),
 ia 55 (.mv (.t 54)),
 ig 56 55 true (.fad 0 (.t 3)),
 ig 57 55 true (.ld 1 false (.t 56)),
 ig 58 55 true (.bin .eql (.t 57) (ci 5)),
 ia 59 (.pick (.t 55) (.t 58) (.c (.a (.p (.b false)))))]) (.cond (.t 59) .skip (.exit 2))) (.seq (.block 3 (.seq (.reg [
  ir 62 (.fad 3 (.t 3)),
 ir 63 (.ld 1 false (.t 62)),
 ir 64 (.mv (.t 8)),
 ir 65 (.ias 4 (.t 63) (.t 64)),
 ir 66 (.fad 2 (.t 65)),
 ir 67 (.ld 1 false (.t 66)),
 ir 68 (.fad 3 (.t 3)),
 ir 69 (.ld 1 false (.t 68)),
 ir 70 (.mv (.t 7)),
 ir 71 (.ias 4 (.t 69) (.t 70)),
 ir 72 (.fad 2 (.t 71)),
 ir 73 (.ld 1 false (.t 72)),
 ia 74 (.bin .eql (.t 67) (.t 73))]) (.cond (.t 74) (.seq (.reg [
  ia 6 (.mv (.c (.a (.p (.b false)))))]) .ret) .skip))) (.reg [
  ia 60 (.mv (.t 8)),
 ia 61 (.bin .add (.t 60) (ci 1)),
 ia 8 (.mv (.t 61))])))
def F25b0 : C := (.seq (.seq (.reg [
  ia 30 (.mv (.t 7)),
 ia 31 (.fad 3 (.t 3)),
 ia 32 (.ld 1 false (.t 31)),
 ia 33 (.len false (.t 32)),
 ia 34 (.bin .lss (.t 30) (.t 33))]) (.cond (.t 34) .skip (.exit 0))) (.seq (.block 1 (.seq (.seq (.reg [
  ir 37 (.fad 3 (.t 3)),
 ir 38 (.ld 1 false (.t 37)),
 ir 39 (.mv (.t 7)),
 ir 40 (.ias 4 (.t 38) (.t 39)),
 ir 41 (.ld 4 true (.t 40)),
 ir 42 (.mv (.t 1)),
 ir 43 (.fad 0 (.t 3)),
 ir 44 (.ld 1 false (.t 43)),
 ir 45 (.bin .eql (.t 44) (ci 5)),
 ir 46 (.mv (.t 45)),
 ih 47 46 true (.mv (.t 7)),
 ih 48 46 true (.bin .gtr (.t 47) (ci 0)),
 ir 49 (.pick (.t 46) (.t 48) (.c (.a (.p (.b false))))),
 ia 50 (.call (.f 25) [(.t 41),(.t 42),(.t 49)]),
 ia 51 (.not (.t 50))]) (.cond (.t 51) (.seq (.reg [
  ia 6 (.mv (.c (.a (.p (.b false)))))]) .ret) .skip)) (.seq (.reg [
  ia 8 (.mv (ci 1))]) (.block 2 (.loop F25b1))))) (.reg [
  ia 35 (.mv (.t 7)),
 ia 36 (.bin .add (.t 35) (ci 1)),
 ia 7 (.mv (.t 36))])))
def F25 : FnC := ⟨3,(.seq (.reg [
  ia 3 (.box 4 (.t 0)),
 ia 6 (.mv (.c (.a (.p (.b false)))))]) (.seq (.seq (.reg [
  ia 9 (.mv (.t 1)),
 ia 10 (.bin .lss (.t 9) (ci 0)),
 ia 11 (.mv (.t 10)),
 ig 12 11 false (.ld 4 true (.t 3)),
 ig 13 11 false (.mv (.t 1)),
 ig 14 11 false (.mv (.t 2)),
 ig 15 11 false (.call (.f 47) [(.t 12),(.t 13),(.t 14)]),
 ig 16 11 false (.not (.t 15)),
 ia 17 (.pick (.t 11) (.c (.a (.p (.b true)))) (.t 16))]) (.cond (.t 17) (.seq (.reg [
  ia 6 (.mv (.c (.a (.p (.b false)))))]) .ret) .skip)) (.seq (.seq (.reg [
  ia 18 (.fad 0 (.t 3)),
 ia 19 (.ld 1 false (.t 18)),
 ia 20 (.bin .eql (.t 19) (ci 2))]) (.cond (.t 20) (.reg [
  ia 21 (.mv (.t 1)),
 ia 22 (.bin .add (.t 21) (ci 1)),
 ia 1 (.mv (.t 22))]) .skip)) (.seq (.seq (.reg [
  ia 23 (.fad 0 (.t 3)),
 ia 24 (.ld 1 false (.t 23)),
 ia 25 (.bin .eql (.t 24) (ci 6))]) (.cond (.t 25) (.reg [
  ia 26 (.mv (.t 1)),
 ia 27 (.fad 1 (.t 3)),
 ia 28 (.ld 1 false (.t 27)),
 ia 29 (.bin .add (.t 26) (.t 28)),
 ia 1 (.mv (.t 29))]) .skip)) (.seq (.seq (.reg [
  ia 7 (.mv (ci 0))]) (.block 0 (.loop F25b0))) (.seq (.reg [
  ia 6 (.mv (.c (.a (.p (.b true)))))]) .ret)))))),[(.tmp 6)]⟩
theorem cc25 : ccF Tryz.prog [(42,[0,0]),(107,[1,0]),(74,[0,0]),(36,[0,0,0,0,0,0,0,0,0]),(160,[0,0]),(42,[9]),(105,[8]),(107,[8]),(75,[8]),(106,[8]),(79,[8])] Tryz.f25 = some (stripF F25) := by kernel_rfl
def F26b0 : C := (.seq (.seq (.reg [
  ia 85 (.mv (.t 11)),
 ia 86 (.fad 3 (.t 4)),
 ia 87 (.ld 1 false (.t 86)),
 ia 88 (.len false (.t 87)),
 ia 89 (.bin .lss (.t 85) (.t 88))]) (.cond (.t 89) .skip (.exit 1))) (.seq (.block 2 (.reg [
  ir 92 (.fad 4 (.t 7)),
 ir 93 (.ld 1 false (.t 92)),
 ir 94 (.fad 3 (.t 4)),
 ir 95 (.ld 1 false (.t 94)),
 ir 96 (.mv (.t 11)),
 ir 97 (.ias 4 (.t 95) (.t 96)),
 ir 98 (.fad 2 (.t 97)),
 ir 99 (.ld 1 false (.t 98)),
 ir 100 (.fad 3 (.t 4)),
 ir 101 (.ld 1 false (.t 100)),
 ir 102 (.mv (.t 11)),
 ir 103 (.ias 4 (.t 101) (.t 102)),
 ir 104 (.fad 1 (.t 103)),
 ir 105 (.ld 1 false (.t 104)),
 ir 106 (.build [(.p (.s [])),(.p (.i .i64 0))] [(0,(1,(.t 99))),(1,(1,(.t 105)))]),
 ⟨(.some 107),.none,(.bsl 2 107 [(.p (.s [])),(.p (.i .i64 0))] 1 [(0,(.t 106))]),.ad⟩,
 ia 108 (.app 2 107 24 (.t 93) (.t 107)),
 ia 109 (.fad 4 (.t 7)),
 io (.st 1 (.t 109) (.t 108))])) (.reg [
  ia 90 (.mv (.t 11)),
 ia 91 (.bin .add (.t 90) (ci 1)),
 ia 11 (.mv (.t 91))])))
def F26 : FnC := ⟨3,(.seq (.reg [
  ia 3 (.box 2 (.t 0)),
 ia 4 (.box 4 (.t 1)),
 ia 6 (.new [.nil,(.p (.i .i64 0)),(.p (.i .i64 0)),(.p (.i .i64 0)),.nil,(.p (.i .i64 0))])]) (.seq (.reg [
  ia 12 (.mv (.t 2)),
 ia 13 (.build [(.p (.i .i64 0)),(.p (.i .i64 0)),(.p (.i .i64 0)),(.p (.s [])),.nil,.nil] [(1,(1,(.t 12)))]),
 ia 7 (.new [(.p (.i .i64 0)),(.p (.i .i64 0)),(.p (.i .i64 0)),(.p (.s [])),.nil,.nil]),
 io (.st 6 (.t 7) (.t 13))]) (.seq (.seq (.reg [
  ia 14 (.fad 0 (.t 4)),
 ia 15 (.ld 1 false (.t 14))]) (.block 0 (.seq (.seq (.reg [
  ia 17 (.bin .eql (.t 15) (ci 1)),
 ia 16 (.mv (.t 17))]) (.cond (.t 16) .skip (.seq (.reg [
  ia 18 (.bin .eql (.t 15) (ci 7)),
 ia 16 (.mv (.t 18))]) (.cond (.t 16) .skip (.reg [
  ia 19 (.bin .eql (.t 15) (ci 9)),
 ia 16 (.mv (.t 19))]))))) (.cond (.t 16) (.seq (.reg [
  ia 20 (.fad 0 (.t 7)),
 io (.st 1 (.t 20) (ci 13))]) (.seq (.seq (.reg [
  ia 21 (.fad 0 (.t 4)),
 ia 22 (.ld 1 false (.t 21)),
 ia 23 (.bin .eql (.t 22) (ci 1))]) (.cond (.t 23) (.reg [
  ia 24 (.fad 0 (.t 7)),
 io (.st 1 (.t 24) (ci 5))]) .skip)) (.seq (.seq (.reg [
  ia 25 (.fad 0 (.t 4)),
 ia 26 (.ld 1 false (.t 25)),
 ia 27 (.bin .eql (.t 26) (ci 7))]) (.cond (.t 27) (.seq (.reg [
  ia 28 (.fad 0 (.t 7)),
 io (.st 1 (.t 28) (ci 10))]) (.reg [
  ia 29 (.fad 1 (.t 4)),
 ia 30 (.ld 1 false (.t 29)),
 ia 31 (.fad 2 (.t 7)),
 io (.st 1 (.t 31) (.t 30))])) .skip)) (.seq (.reg [
  ia 33 (.ld 2 true (.t 3)),
 ia 34 (.ld 6 true (.t 7)),
 ia 35 (.call (.f 48) [(.t 33),(.t 34)]),
 ia 32 (.mv (.t 35)),
 ia 36 (.ext (.t 32) 0),
 ia 37 (.ext (.t 32) 1),
 ia 38 (.ext (.t 32) 2),
 ia 8 (.new [.nil,(.p (.i .i64 0))]),
 io (.st 2 (.t 8) (.t 36)),
 ia 9 (.mv (.t 37)),
 ia 10 (.mv (.t 38))]) (.seq (.seq (.reg [
  ia 39 (.fad 0 (.t 4)),
 ia 40 (.ld 1 false (.t 39)),
 ia 41 (.bin .eql (.t 40) (ci 1))]) (.cond (.t 41) (.seq (.reg [
  ir 42 (.ld 2 true (.t 8)),
 ir 43 (.mv (.t 9)),
 ir 44 (.call (.f 28) [(.t 43),(ci 1)]),
 ir 45 (.fad 1 (.t 4)),
 ir 46 (.ld 1 false (.t 45)),
 ir 47 (.mv (.t 9)),
 ir 48 (.call (.f 28) [(.t 47),(ci 0)]),
 ir 49 (.build [(.p (.i .i64 0)),(.p (.i .i64 0)),(.p (.i .i64 0))] [(0,(1,(.t 46))),(1,(2,(.t 48)))]),
 ⟨(.some 50),.none,(.bsl 3 104 [(.p (.i .i64 0)),(.p (.i .i64 0)),(.p (.i .i64 0))] 1 [(0,(.t 49))]),.ad⟩,
 ir 51 (.mv (.t 10)),
 ia 52 (.build [.nil,(.p (.i .i64 0)),(.p (.i .i64 0)),(.p (.i .i64 0)),.nil,(.p (.i .i64 0))] [(0,(2,(.t 42))),(2,(2,(.t 44))),(4,(1,(.t 50))),(5,(1,(.t 51)))]),
 io (.st 6 (.t 6) (.t 52))]) .ret) .skip)) (.seq (.reg [
  ir 53 (.ld 2 true (.t 8)),
 ir 54 (.mv (.t 9)),
 ir 55 (.call (.f 28) [(.t 54),(ci 0)]),
 ir 56 (.mv (.t 10)),
 ia 57 (.build [.nil,(.p (.i .i64 0)),(.p (.i .i64 0)),(.p (.i .i64 0)),.nil,(.p (.i .i64 0))] [(0,(2,(.t 53))),(2,(2,(.t 55))),(5,(1,(.t 56)))]),
 io (.st 6 (.t 6) (.t 57))]) .ret)))))) (.seq (.reg [
  ia 59 (.bin .eql (.t 15) (ci 2)),
 ia 58 (.mv (.t 59))]) (.cond (.t 58) (.seq (.reg [
  ir 60 (.ld 2 true (.t 3)),
 ir 61 (.fad 3 (.t 4)),
 ir 62 (.ld 1 false (.t 61)),
 ir 63 (.ias 4 (.t 62) (ci 0)),
 ir 64 (.ld 4 true (.t 63)),
 ir 65 (.mv (.t 2)),
 ia 66 (.call (.f 49) [(.t 60),(.t 64),(ci 1),(.t 65)]),
 io (.st 6 (.t 6) (.t 66))]) .ret) (.seq (.reg [
  ia 68 (.bin .eql (.t 15) (ci 3)),
 ia 67 (.mv (.t 68))]) (.cond (.t 67) (.reg [
  ia 69 (.fad 0 (.t 7)),
 io (.st 1 (.t 69) (ci 3))]) (.seq (.reg [
  ia 71 (.bin .eql (.t 15) (ci 4)),
 ia 70 (.mv (.t 71))]) (.cond (.t 70) (.seq (.reg [
  ia 72 (.fad 0 (.t 7)),
 io (.st 1 (.t 72) (ci 8))]) (.seq (.reg [
  ia 73 (.fad 2 (.t 4)),
 ia 74 (.ld 1 false (.t 73)),
 ia 75 (.fad 3 (.t 7)),
 io (.st 1 (.t 75) (.t 74))]) (.reg [
  ia 76 (.fad 3 (.t 4)),
 ia 77 (.ld 1 false (.t 76)),
 ia 78 (.len false (.t 77)),
 ia 79 (.bin .add (.t 78) (ci 1)),
 ia 80 (.mslF 2 42 16 [(.p (.i .i64 0)),(.p (.i .i64 0))] (.t 79) (.t 79)),
 ia 81 (.fad 5 (.t 7)),
 io (.st 1 (.t 81) (.t 80))]))) (.seq (.reg [
  ia 83 (.bin .eql (.t 15) (ci 5)),
 ia 82 (.mv (.t 83))]) (.cond (.t 82) (.seq (.reg [
  ia 84 (.fad 0 (.t 7)),
 io (.st 1 (.t 84) (ci 9))]) (.seq (.reg [
  ia 11 (.mv (ci 1))]) (.block 1 (.loop F26b0)))) (.seq (.reg [
  ia 111 (.bin .eql (.t 15) (ci 8)),
 ia 110 (.mv (.t 111))]) (.cond (.t 110) (.seq (.reg [
  ia 112 (.fad 0 (.t 7)),
 io (.st 1 (.t 112) (ci 11))]) (.reg [
  ia 113 (.fad 2 (.t 4)),
 ia 114 (.ld 1 false (.t 113)),
 ia 115 (.fad 3 (.t 7)),
 io (.st 1 (.t 115) (.t 114))])) .skip)))))))))))))) (.seq (.reg [
  ia 116 (.ld 2 true (.t 3)),
 ia 117 (.ld 4 true (.t 4)),
 ia 118 (.ld 6 true (.t 7)),
 ia 119 (.call (.f 50) [(.t 116),(.t 117),(.t 118)]),
 io (.st 6 (.t 6) (.t 119))]) .ret)))),[(.cell 6 6 true)]⟩
theorem cc26 : ccF Tryz.prog [(42,[0,0]),(107,[1,0]),(74,[0,0]),(36,[0,0,0,0,0,0,0,0,0]),(160,[0,0]),(42,[9]),(105,[8]),(107,[8]),(75,[8]),(106,[8]),(79,[8])] Tryz.f26 = some (stripF F26) := by kernel_rfl
def F27 : FnC := ⟨3,(.seq (.reg [
  ia 3 (.box 2 (.t 0)),
 ia 4 (.box 2 (.t 1)),
 ia 5 (.box 2 (.t 2)),
 ia 6 (.new [.nil,(.p (.i .i64 0))])]) (.seq (.reg [
  ia 10 (.ld 2 true (.t 3)),
 ia 11 (.ld 2 true (.t 4)),
 ia 12 (.ld 2 true (.t 5)),
 ia 13 (.call (.f 51) [(.t 10),(.t 11),(.t 12)]),
 ia 9 (.mv (.t 13)),
 ia 14 (.ext (.t 9) 0),
 ia 15 (.ext (.t 9) 1),
 ia 7 (.new [.nil,(.p (.i .i64 0))]),
 io (.st 2 (.t 7) (.t 14)),
 ia 8 (.mv (.t 15))]) (.seq (.reg [
  ia 16 (.ld 2 true (.t 7)),
 io (.st 2 (.t 6) (.t 16))]) .ret))),[(.cell 6 2 true)]⟩
theorem cc27 : ccF Tryz.prog [(42,[0,0]),(107,[1,0]),(74,[0,0]),(36,[0,0,0,0,0,0,0,0,0]),(160,[0,0]),(42,[9]),(105,[8]),(107,[8]),(75,[8]),(106,[8]),(79,[8])] Tryz.f27 = some (stripF F27) := by kernel_rfl
def F28 : FnC := ⟨2,(.seq (.reg [
  ia 4 (.new [(.p (.i .i64 0)),(.p (.i .i64 0))])]) (.seq (.reg [
  ia 5 (.mv (.t 0)),
 ia 6 (.mv (.t 1)),
 ia 7 (.build [(.p (.i .i64 0)),(.p (.i .i64 0))] [(0,(1,(.t 5))),(1,(1,(.t 6)))]),
 io (.st 2 (.t 4) (.t 7))]) .ret)),[(.cell 4 2 true)]⟩
theorem cc28 : ccF Tryz.prog [(42,[0,0]),(107,[1,0]),(74,[0,0]),(36,[0,0,0,0,0,0,0,0,0]),(160,[0,0]),(42,[9]),(105,[8]),(107,[8]),(75,[8]),(106,[8]),(79,[8])] Tryz.f28 = some (stripF F28) := by kernel_rfl
def F29 : FnC := ⟨2,(.seq (.reg [
  ia 2 (.box 2 (.t 0)),
 ia 4 (.new [(.p (.i .i64 0)),(.p (.i .i64 0))]),
 ia 5 (.mv (.c (.a (.p (.b false)))))]) (.seq (.reg [
  ia 8 (.ld 2 true (.t 2)),
 ia 9 (.call (.f 52) [(.t 8)]),
 ia 6 (.mv (.t 9))]) (.seq (.reg [
  ia 10 (.mv (.t 6)),
 ia 11 (.len false (.t 10)),
 ia 7 (.mv (.t 11))]) (.seq (.seq (.reg [
  ia 12 (.mv (.t 7)),
 ia 13 (.bin .eql (.t 12) (ci 0))]) (.cond (.t 13) (.seq (.reg [
  ia 14 (.build [(.p (.i .i64 0)),(.p (.i .i64 0))] []),
 io (.st 2 (.t 4) (.t 14)),
 ia 5 (.mv (.c (.a (.p (.b false)))))]) .ret) .skip)) (.seq (.reg [
  ia 15 (.mv (.t 6)),
 ia 16 (.mv (.t 1)),
 ia 17 (.mv (.t 7)),
 ia 18 (.bin .rem (.t 16) (.t 17)),
 ia 19 (.mv (.t 7)),
 ia 20 (.bin .add (.t 18) (.t 19)),
 ia 21 (.mv (.t 7)),
 ia 22 (.bin .rem (.t 20) (.t 21)),
 ia 23 (.ias 2 (.t 15) (.t 22)),
 ia 24 (.ld 2 true (.t 23)),
 io (.st 2 (.t 4) (.t 24)),
 ia 5 (.mv (.c (.a (.p (.b true)))))]) .ret))))),[(.cell 4 2 true),(.tmp 5)]⟩
theorem cc29 : ccF Tryz.prog [(42,[0,0]),(107,[1,0]),(74,[0,0]),(36,[0,0,0,0,0,0,0,0,0]),(160,[0,0]),(42,[9]),(105,[8]),(107,[8]),(75,[8]),(106,[8]),(79,[8])] Tryz.f29 = some (stripF F29) := by kernel_rfl
def F30 : FnC := ⟨2,(.seq (.reg [
  ia 4 (.mv (ci 0))]) (.seq (.reg [
  ia 9 (.mv (.t 0)),
 ia 10 (.nck (.t 9)),
 ia 11 (.fad 0 (.t 10)),
 ia 12 (.ld 2 true (.t 11)),
 ia 13 (.mv (.t 1)),
 ia 14 (.call (.f 19) [(.t 12),(.t 13)]),
 ia 8 (.mv (.t 14)),
 ia 15 (.ext (.t 8) 0),
 ia 16 (.ext (.t 8) 1),
 ia 17 (.ext (.t 8) 2),
 ia 5 (.new [.nil,(.p (.i .i64 0))]),
 ia 6 (.new [(.p (.i .i64 0)),(.p (.b false)),(.p (.i .i64 0)),(.p (.i .i64 0)),(.p (.i .i64 0)),(.p (.i .i64 0)),(.p (.i .i64 0)),(.p (.s [])),.nil,.nil]),
 io (.st 2 (.t 5) (.t 15)),
 io (.st 10 (.t 6) (.t 16)),
 ia 7 (.mv (.t 17))]) (.seq (.seq (.reg [
  ia 18 (.mv (.t 7)),
 ia 19 (.bin .eql (.t 18) (ci 0))]) (.cond (.t 19) (.seq (.reg [
  ia 20 (.mv (.t 0)),
 ia 21 (.ld 2 true (.t 5)),
 ia 22 (.nck (.t 20)),
 ia 23 (.fad 0 (.t 22)),
 io (.st 2 (.t 23) (.t 21))]) (.seq (.reg [
  ir 24 (.mv (.t 0)),
 ir 25 (.fad 0 (.t 6)),
 ir 26 (.ld 1 false (.t 25)),
 ir 27 (.nck (.t 24)),
 ir 28 (.fad 2 (.t 27)),
 ir 29 (.iaa 9 1 (.t 28) (.t 26)),
 ir 30 (.ld 1 false (.t 29)),
 ir 31 (.bin .add (.t 30) (ci 1)),
 ir 32 (.nck (.t 24)),
 ir 33 (.fad 2 (.t 32)),
 ia 34 (.iaa 9 1 (.t 33) (.t 26)),
 io (.st 1 (.t 34) (.t 31))]) (.reg [
  ia 35 (.mv (.t 0)),
 ia 36 (.nck (.t 35)),
 ia 37 (.fad 11 (.t 36)),
 ia 38 (.ld 1 false (.t 37)),
 ia 39 (.bin .add (.t 38) (ci 1)),
 ia 40 (.nck (.t 35)),
 ia 41 (.fad 11 (.t 40)),
 io (.st 1 (.t 41) (.t 39))]))) .skip)) (.seq (.reg [
  ia 42 (.mv (.t 7)),
 ia 4 (.mv (.t 42))]) .ret)))),[(.tmp 4)]⟩
theorem cc30 : ccF Tryz.prog [(42,[0,0]),(107,[1,0]),(74,[0,0]),(36,[0,0,0,0,0,0,0,0,0]),(160,[0,0]),(42,[9]),(105,[8]),(107,[8]),(75,[8]),(106,[8]),(79,[8])] Tryz.f30 = some (stripF F30) := by kernel_rfl
def F31b0 : C := (.block 1 (.seq (.reg [
  ir 13 (.mv (.t 0)),
 ir 14 (.nck (.t 13)),
 ir 15 (.fad 0 (.t 14)),
 ir 16 (.ld 2 true (.t 15)),
 ir 17 (.ld 2 true (.t 4)),
 ia 18 (.call (.f 53) [(.t 16),(.t 17)]),
 ia 12 (.mv (.t 18)),
 ir 19 (.ext (.t 12) 0),
 ir 20 (.ext (.t 12) 1),
 ir 21 (.ext (.t 12) 2),
 ir 8 (.mv (.t 19)),
 ir 9 (.mv (.t 20)),
 ia 10 (.mv (.t 21))]) (.seq (.block 2 (.seq (.reg [
  ia 23 (.mv (.t 10)),
 ia 24 (.bin .neq (.t 23) (ci 0)),
 ia 22 (.mv (.t 24))]) (.cond (.t 22) (.seq (.reg [
  ia 25 (.mv (.t 10)),
 ia 6 (.mv (ci 0)),
 ia 7 (.mv (.t 25))]) .ret) (.seq (.reg [
  ia 27 (.mv (.t 9)),
 ia 28 (.not (.t 27)),
 ia 26 (.mv (.t 28))]) (.cond (.t 26) (.seq (.reg [
  ia 29 (.mv (.t 8)),
 ia 6 (.mv (.t 29)),
 ia 7 (.mv (ci 0))]) .ret) (.seq (.reg [
  ia 31 (.mv (.t 0)),
 ia 32 (.nck (.t 31)),
 ia 33 (.fad 11 (.t 32)),
 ia 34 (.ld 1 false (.t 33)),
 ia 35 (.mv (.t 2)),
 ia 36 (.bin .eql (.t 34) (.t 35)),
 ia 30 (.mv (.t 36))]) (.cond (.t 30) (.seq (.reg [
  ia 6 (.mv (ci 0)),
 ia 7 (.mv (ci 90))]) .ret) .skip))))))) (.seq (.reg [
  ia 37 (.mv (.t 0)),
 ia 38 (.mv (.t 8)),
 ia 39 (.call (.f 30) [(.t 37),(.t 38)]),
 ia 11 (.mv (.t 39))]) (.seq (.reg [
  ia 40 (.mv (.t 11)),
 ia 41 (.bin .neq (.t 40) (ci 0))]) (.cond (.t 41) (.seq (.reg [
  ia 42 (.mv (.t 11)),
 ia 6 (.mv (ci 0)),
 ia 7 (.mv (.t 42))]) .ret) .skip))))))
def F31 : FnC := ⟨3,(.seq (.reg [
  ia 4 (.box 2 (.t 1)),
 ia 6 (.mv (ci 0)),
 ia 7 (.mv (ci 0))]) (.block 0 (.loop F31b0))),[(.tmp 6),(.tmp 7)]⟩
theorem cc31 : ccF Tryz.prog [(42,[0,0]),(107,[1,0]),(74,[0,0]),(36,[0,0,0,0,0,0,0,0,0]),(160,[0,0]),(42,[9]),(105,[8]),(107,[8]),(75,[8]),(106,[8]),(79,[8])] Tryz.f31 = some (stripF F31) := by kernel_rfl
def F32b0 : C := (.seq (.seq (.reg [
  ia 51 (.mv (.t 5)),
 ia 52 (.fad 4 (.t 2)),
 ia 53 (.ld 1 false (.t 52)),
 ia 54 (.len false (.t 53)),
 ia 55 (.bin .lss (.t 51) (.t 54))]) (.cond (.t 55) .skip (.exit 0))) (.seq (.block 1 (.seq (.reg [
  ir 58 (.fad 4 (.t 2)),
 ir 59 (.ld 1 false (.t 58)),
 ir 60 (.mv (.t 5)),
 ir 61 (.ias 2 (.t 59) (.t 60)),
 ir 62 (.ld 2 true (.t 61)),
 ir 63 (.fad 4 (.t 3)),
 ir 64 (.ld 1 false (.t 63)),
 ir 65 (.mv (.t 5)),
 ir 66 (.ias 2 (.t 64) (.t 65)),
 ir 67 (.ld 2 true (.t 66)),
 ia 68 (.eqg true [1,0] (.t 62) (.t 67))]) (.cond (.t 68) (.seq (.reg [
  ia 4 (.mv (.c (.a (.p (.b false)))))]) .ret) .skip))) (.reg [
  ia 56 (.mv (.t 5)),
 ia 57 (.bin .add (.t 56) (ci 1)),
 ia 5 (.mv (.t 57))])))
def F32b1 : C := (.seq (.seq (.reg [
  ia 69 (.mv (.t 6)),
 ia 70 (.fad 5 (.t 2)),
 ia 71 (.ld 1 false (.t 70)),
 ia 72 (.len false (.t 71)),
 ia 73 (.bin .lss (.t 69) (.t 72))]) (.cond (.t 73) .skip (.exit 2))) (.seq (.block 3 (.seq (.reg [
  ir 76 (.fad 5 (.t 2)),
 ir 77 (.ld 1 false (.t 76)),
 ir 78 (.mv (.t 6)),
 ir 79 (.ias 2 (.t 77) (.t 78)),
 ir 80 (.ld 2 true (.t 79)),
 ir 81 (.fad 5 (.t 3)),
 ir 82 (.ld 1 false (.t 81)),
 ir 83 (.mv (.t 6)),
 ir 84 (.ias 2 (.t 82) (.t 83)),
 ir 85 (.ld 2 true (.t 84)),
 ia 86 (.eqg true [0,0] (.t 80) (.t 85))]) (.cond (.t 86) (.seq (.reg [
  ia 4 (.mv (.c (.a (.p (.b false)))))]) .ret) .skip))) (.reg [
  ia 74 (.mv (.t 6)),
 ia 75 (.bin .add (.t 74) (ci 1)),
 ia 6 (.mv (.t 75))])))
def F32 : FnC := ⟨2,(.seq (.reg [
  ia 2 (.box 6 (.t 0)),
 ia 3 (.box 6 (.t 1)),
 ia 4 (.mv (.c (.a (.p (.b false)))))]) (.seq (.seq (.reg [
  ia 7 (.fad 0 (.t 2)),
 ia 8 (.ld 1 false (.t 7)),
 ia 9 (.fad 0 (.t 3)),
 ia 10 (.ld 1 false (.t 9)),
 ia 11 (.bin .neq (.t 8) (.t 10)),
 ia 12 (.mv (.t 11)),
 ig 13 12 false (.fad 1 (.t 2)),
 ig 14 12 false (.ld 1 false (.t 13)),
 ig 15 12 false (.fad 1 (.t 3)),
 ig 16 12 false (.ld 1 false (.t 15)),
 ig 17 12 false (.bin .neq (.t 14) (.t 16)),
 ia 18 (.pick (.t 12) (.c (.a (.p (.b true)))) (.t 17)),
 ia 19 (.mv (.t 18)),
 ig 20 19 false (.fad 2 (.t 2)),
 ig 21 19 false (.ld 1 false (.t 20)),
 ig 22 19 false (.fad 2 (.t 3)),
 ig 23 19 false (.ld 1 false (.t 22)),
 ig 24 19 false (.bin .neq (.t 21) (.t 23)),
 ia 25 (.pick (.t 19) (.c (.a (.p (.b true)))) (.t 24)),
 ia 26 (.mv (.t 25)),
 ig 27 26 false (.fad 3 (.t 2)),
 ig 28 26 false (.ld 1 false (.t 27)),
 ig 29 26 false (.fad 3 (.t 3)),
 ig 30 26 false (.ld 1 false (.t 29)),
 ig 31 26 false (.bin .neq (.t 28) (.t 30)),
 ia 32 (.pick (.t 26) (.c (.a (.p (.b true)))) (.t 31)),
 ia 33 (.mv (.t 32)),
 ig 34 33 false (.fad 4 (.t 2)),
 ig 35 33 false (.ld 1 false (.t 34)),
 ig 36 33 false (.len false (.t 35)),
 ig 37 33 false (.fad 4 (.t 3)),
 ig 38 33 false (.ld 1 false (.t 37)),
 ig 39 33 false (.len false (.t 38)),
 ig 40 33 false (.bin .neq (.t 36) (.t 39)),
 ia 41 (.pick (.t 33) (.c (.a (.p (.b true)))) (.t 40)),
 ia 42 (.mv (.t 41)),
 ig 43 42 false (.fad 5 (.t 2)),
 ig 44 42 false (.ld 1 false (.t 43)),
 ig 45 42 false (.len false (.t 44)),
 ig 46 42 false (.fad 5 (.t 3)),
 ig 47 42 false (.ld 1 false (.t 46)),
 ig 48 42 false (.len false (.t 47)),
 ig 49 42 false (.bin .neq (.t 45) (.t 48)),
 ia 50 (.pick (.t 42) (.c (.a (.p (.b true)))) (.t 49))]) (.cond (.t 50) (.seq (.reg [
  ia 4 (.mv (.c (.a (.p (.b false)))))]) .ret) .skip)) (.seq (.seq (.reg [
  ia 5 (.mv (ci 0))]) (.block 0 (.loop F32b0))) (.seq (.seq (.reg [
  ia 6 (.mv (ci 0))]) (.block 2 (.loop F32b1))) (.seq (.reg [
  ia 4 (.mv (.c (.a (.p (.b true)))))]) .ret))))),[(.tmp 4)]⟩
theorem cc32 : ccF Tryz.prog [(42,[0,0]),(107,[1,0]),(74,[0,0]),(36,[0,0,0,0,0,0,0,0,0]),(160,[0,0]),(42,[9]),(105,[8]),(107,[8]),(75,[8]),(106,[8]),(79,[8])] Tryz.f32 = some (stripF F32) := by kernel_rfl
def F33b1 : C := (.seq (.seq (.reg [
  ia 140 (.mv (.t 4)),
 ia 141 (.mv (.t 3)),
 ia 142 (.bin .lss (.t 140) (.t 141))]) (.cond (.t 142) .skip (.exit 2))) (.seq (.block 3 (.seq (.reg [
  ir 145 (.fad 4 (.t 1)),
 ir 146 (.ld 1 false (.t 145)),
 ir 147 (.mv (.t 4)),
 ir 148 (.ias 2 (.t 146) (.t 147)),
 ir 149 (.fad 0 (.t 148)),
 ir 150 (.ld 1 false (.t 149)),
 ir 151 (.fad 4 (.t 1)),
 ir 152 (.ld 1 false (.t 151)),
 ir 153 (.mv (.t 3)),
 ir 154 (.ias 2 (.t 152) (.t 153)),
 ir 155 (.fad 0 (.t 154)),
 ir 156 (.ld 1 false (.t 155)),
 ia 157 (.bin .eql (.t 150) (.t 156))]) (.cond (.t 157) (.seq (.reg [
  ia 2 (.mv (.c (.a (.p (.b false)))))]) .ret) .skip))) (.reg [
  ia 143 (.mv (.t 4)),
 ia 144 (.bin .add (.t 143) (ci 1)),
 ia 4 (.mv (.t 144))])))
def F33b0 : C := (.seq (.seq (.reg [
  ia 108 (.mv (.t 3)),
 ia 109 (.fad 4 (.t 1)),
 ia 110 (.ld 1 false (.t 109)),
 ia 111 (.len false (.t 110)),
 ia 112 (.bin .lss (.t 108) (.t 111))]) (.cond (.t 112) .skip (.exit 0))) (.seq (.block 1 (.seq (.seq (.reg [
  ia 115 (.fad 4 (.t 1)),
 ia 116 (.ld 1 false (.t 115)),
 ia 117 (.mv (.t 3)),
 ia 118 (.ias 2 (.t 116) (.t 117)),
 ia 119 (.fad 0 (.t 118)),
 ia 120 (.ld 1 false (.t 119)),
 ia 121 (.bin .eql (.t 120) (.c (.a (.p (.s []))))),
 ia 122 (.mv (.t 121)),
 ig 123 122 false (.fad 4 (.t 1)),
 ig 124 122 false (.ld 1 false (.t 123)),
 ig 125 122 false (.mv (.t 3)),
 ig 126 122 false (.ias 2 (.t 124) (.t 125)),
 ig 127 122 false (.fad 1 (.t 126)),
 ig 128 122 false (.ld 1 false (.t 127)),
 ig 129 122 false (.bin .lss (.t 128) (ci 0)),
 ia 130 (.pick (.t 122) (.c (.a (.p (.b true)))) (.t 129)),
 ia 131 (.mv (.t 130)),
 ig 132 131 false (.fad 4 (.t 1)),
 ig 133 131 false (.ld 1 false (.t 132)),
 ig 134 131 false (.mv (.t 3)),
 ig 135 131 false (.ias 2 (.t 133) (.t 134)),
 ig 136 131 false (.fad 1 (.t 135)),
 ig 137 131 false (.ld 1 false (.t 136)),
 ig 138 131 false (.bin .gtr (.t 137) (ci 8)),
 ia 139 (.pick (.t 131) (.c (.a (.p (.b true)))) (.t 138))]) (.cond (.t 139) (.seq (.reg [
  ia 2 (.mv (.c (.a (.p (.b false)))))]) .ret) .skip)) (.seq (.reg [
  ia 4 (.mv (ci 0))]) (.block 2 (.loop F33b1))))) (.reg [
  ia 113 (.mv (.t 3)),
 ia 114 (.bin .add (.t 113) (ci 1)),
 ia 3 (.mv (.t 114))])))
def F33 : FnC := ⟨1,(.seq (.reg [
  ia 1 (.box 6 (.t 0)),
 ia 2 (.mv (.c (.a (.p (.b false)))))]) (.seq (.seq (.reg [
  ia 5 (.fad 0 (.t 1)),
 ia 6 (.ld 1 false (.t 5)),
 ia 7 (.bin .lss (.t 6) (ci 0)),
 ia 8 (.mv (.t 7)),
 ig 9 8 false (.fad 0 (.t 1)),
 ig 10 8 false (.ld 1 false (.t 9)),
 ig 11 8 false (.bin .gtr (.t 10) (ci 13)),
 ia 12 (.pick (.t 8) (.c (.a (.p (.b true)))) (.t 11)),
 ia 13 (.mv (.t 12)),
 ig 14 13 false (.fad 1 (.t 1)),
 ig 15 13 false (.ld 1 false (.t 14)),
 ig 16 13 false (.bin .lss (.t 15) (ci 0)),
 ia 17 (.pick (.t 13) (.c (.a (.p (.b true)))) (.t 16)),
 ia 18 (.mv (.t 17)),
 ig 19 18 false (.fad 1 (.t 1)),
 ig 20 18 false (.ld 1 false (.t 19)),
 ig 21 18 false (.bin .gtr (.t 20) (ci 60)),
 ia 22 (.pick (.t 18) (.c (.a (.p (.b true)))) (.t 21)),
 ia 23 (.mv (.t 22)),
 ig 24 23 false (.fad 0 (.t 1)),
 ig 25 23 false (.ld 1 false (.t 24)),
 ig 26 23 false (.bin .lss (.t 25) (ci 2)),
 ig 27 23 false (.mv (.t 26)),
 ig 28 27 true (.fad 1 (.t 1)),
 ig 29 27 true (.ld 1 false (.t 28)),
 ig 30 27 true (.bin .gtr (.t 29) (ci 0)),
 ig 31 23 false (.pick (.t 27) (.t 30) (.c (.a (.p (.b false))))),
 ia 32 (.pick (.t 23) (.c (.a (.p (.b true)))) (.t 31))]) (.cond (.t 32) (.seq (.reg [
  ia 2 (.mv (.c (.a (.p (.b false)))))]) .ret) .skip)) (.seq (.seq (.reg [
  ia 33 (.fad 3 (.t 1)),
 ia 34 (.ld 1 false (.t 33)),
 ia 35 (.bin .neq (.t 34) (.c (.a (.p (.s []))))),
 ia 36 (.fad 0 (.t 1)),
 ia 37 (.ld 1 false (.t 36)),
 ia 38 (.bin .eql (.t 37) (ci 8)),
 ia 39 (.mv (.t 38)),
 ig 40 39 false (.fad 0 (.t 1)),
 ig 41 39 false (.ld 1 false (.t 40)),
 ig 42 39 false (.bin .eql (.t 41) (ci 11)),
 ia 43 (.pick (.t 39) (.c (.a (.p (.b true)))) (.t 42)),
 ia 44 (.mv (.t 43)),
 ig 45 44 false (.fad 0 (.t 1)),
 ig 46 44 false (.ld 1 false (.t 45)),
 ig 47 44 false (.bin .eql (.t 46) (ci 12)),
 ia 48 (.pick (.t 44) (.c (.a (.p (.b true)))) (.t 47)),
 ia 49 (.eqb true (.t 35) (.t 48)),
 ia 50 (.mv (.t 49)),
 ig 51 50 false (.fad 2 (.t 1)),
 ig 52 50 false (.ld 1 false (.t 51)),
 ig 53 50 false (.bin .neq (.t 52) (ci 0)),
 ig 54 50 false (.mv (.t 53)),
 ig 55 54 true (.fad 0 (.t 1)),
 ig 56 54 true (.ld 1 false (.t 55)),
 ig 57 54 true (.bin .neq (.t 56) (ci 10)),
 ig 58 50 false (.pick (.t 54) (.t 57) (.c (.a (.p (.b false))))),
 ig 59 50 false (.mv (.t 58)),
 ig 60 59 true (.fad 0 (.t 1)),
 ig 61 59 true (.ld 1 false (.t 60)),
 ig 62 59 true (.bin .neq (.t 61) (ci 12)),
 ig 63 50 false (.pick (.t 59) (.t 62) (.c (.a (.p (.b false))))),
 ia 64 (.pick (.t 50) (.c (.a (.p (.b true)))) (.t 63))]) (.cond (.t 64) (.seq (.reg [
  ia 2 (.mv (.c (.a (.p (.b false)))))]) .ret) .skip)) (.seq (.seq (.reg [
  ia 65 (.fad 0 (.t 1)),
 ia 66 (.ld 1 false (.t 65)),
 ia 67 (.bin .eql (.t 66) (ci 8)),
 ia 68 (.mv (.t 67)),
 ig 69 68 true (.fad 5 (.t 1)),
 ig 70 68 true (.ld 1 false (.t 69)),
 ig 71 68 true (.len false (.t 70)),
 ig 72 68 true (.bin .lss (.t 71) (ci 1)),
 ig 73 68 true (.mv (.t 72)),
 ig 74 73 false (.fad 5 (.t 1)),
 ig 75 73 false (.ld 1 false (.t 74)),
 ig 76 73 false (.len false (.t 75)),
 ig 77 73 false (.bin .gtr (.t 76) (ci 9)),
 ig 78 68 true (.pick (.t 73) (.c (.a (.p (.b true)))) (.t 77)),
 ia 79 (.pick (.t 68) (.t 78) (.c (.a (.p (.b false))))),
 ia 80 (.mv (.t 79)),
 ig 81 80 false (.fad 0 (.t 1)),
 ig 82 80 false (.ld 1 false (.t 81)),
 ig 83 80 false (.bin .eql (.t 82) (ci 9)),
 ig 84 80 false (.mv (.t 83)),
 ig 85 84 true (.fad 4 (.t 1)),
 ig 86 84 true (.ld 1 false (.t 85)),
 ig 87 84 true (.len false (.t 86)),
 ig 88 84 true (.bin .lss (.t 87) (ci 1)),
 ig 89 80 false (.pick (.t 84) (.t 88) (.c (.a (.p (.b false))))),
 ia 90 (.pick (.t 80) (.c (.a (.p (.b true)))) (.t 89)),
 ia 91 (.mv (.t 90)),
 ig 92 91 false (.fad 0 (.t 1)),
 ig 93 91 false (.ld 1 false (.t 92)),
 ig 94 91 false (.bin .neq (.t 93) (ci 9)),
 ig 95 91 false (.mv (.t 94)),
 ig 96 95 true (.fad 4 (.t 1)),
 ig 97 95 true (.ld 1 false (.t 96)),
 ig 98 95 true (.len false (.t 97)),
 ig 99 95 true (.bin .gtr (.t 98) (ci 0)),
 ig 100 91 false (.pick (.t 95) (.t 99) (.c (.a (.p (.b false))))),
 ia 101 (.pick (.t 91) (.c (.a (.p (.b true)))) (.t 100)),
 ia 102 (.mv (.t 101)),
 ig 103 102 false (.fad 4 (.t 1)),
 ig 104 102 false (.ld 1 false (.t 103)),
 ig 105 102 false (.len false (.t 104)),
 ig 106 102 false (.bin .gtr (.t 105) (ci 8)),
 ia 107 (.pick (.t 102) (.c (.a (.p (.b true)))) (.t 106))]) (.cond (.t 107) (.seq (.reg [
  ia 2 (.mv (.c (.a (.p (.b false)))))]) .ret) .skip)) (.seq (.seq (.reg [
  ia 3 (.mv (ci 0))]) (.block 0 (.loop F33b0))) (.seq (.reg [
  ia 2 (.mv (.c (.a (.p (.b true)))))]) .ret)))))),[(.tmp 2)]⟩
theorem cc33 : ccF Tryz.prog [(42,[0,0]),(107,[1,0]),(74,[0,0]),(36,[0,0,0,0,0,0,0,0,0]),(160,[0,0]),(42,[9]),(105,[8]),(107,[8]),(75,[8]),(106,[8]),(79,[8])] Tryz.f33 = some (stripF F33) := by kernel_rfl
def F34 : FnC := ⟨1,(.seq (.reg [
  ia 1 (.box 6 (.t 0)),
 ia 2 (.mv (ci 0))]) (.seq (.seq (.reg [
  ia 3 (.fad 0 (.t 1)),
 ia 4 (.ld 1 false (.t 3))]) (.block 0 (.seq (.seq (.reg [
  ia 6 (.bin .eql (.t 4) (ci 1)),
 ia 5 (.mv (.t 6))]) (.cond (.t 5) .skip (.seq (.reg [
  ia 7 (.bin .eql (.t 4) (ci 7)),
 ia 5 (.mv (.t 7))]) (.cond (.t 5) .skip (.seq (.reg [
  ia 8 (.bin .eql (.t 4) (ci 10)),
 ia 5 (.mv (.t 8))]) (.cond (.t 5) .skip (.reg [
  ia 9 (.bin .eql (.t 4) (ci 13)),
 ia 5 (.mv (.t 9))]))))))) (.cond (.t 5) (.seq (.reg [
  ia 2 (.mv (ci 1))]) .ret) (.seq (.seq (.reg [
  ia 11 (.bin .eql (.t 4) (ci 5)),
 ia 10 (.mv (.t 11))]) (.cond (.t 10) .skip (.seq (.reg [
  ia 12 (.bin .eql (.t 4) (ci 6)),
 ia 10 (.mv (.t 12))]) (.cond (.t 10) .skip (.reg [
  ia 13 (.bin .eql (.t 4) (ci 12)),
 ia 10 (.mv (.t 13))]))))) (.cond (.t 10) (.seq (.reg [
  ia 2 (.mv (ci 2))]) .ret) (.seq (.seq (.reg [
  ia 15 (.bin .eql (.t 4) (ci 2)),
 ia 14 (.mv (.t 15))]) (.cond (.t 14) .skip (.seq (.reg [
  ia 16 (.bin .eql (.t 4) (ci 3)),
 ia 14 (.mv (.t 16))]) (.cond (.t 14) .skip (.seq (.reg [
  ia 17 (.bin .eql (.t 4) (ci 4)),
 ia 14 (.mv (.t 17))]) (.cond (.t 14) .skip (.reg [
  ia 18 (.bin .eql (.t 4) (ci 11)),
 ia 14 (.mv (.t 18))]))))))) (.cond (.t 14) (.seq (.reg [
  ia 2 (.mv (ci 3))]) .ret) (.seq (.reg [
  ia 20 (.bin .eql (.t 4) (ci 8)),
 ia 19 (.mv (.t 20))]) (.cond (.t 19) (.seq (.reg [
  ia 21 (.fad 5 (.t 1)),
 ia 22 (.ld 1 false (.t 21)),
 ia 23 (.len false (.t 22)),
 ia 2 (.mv (.t 23))]) .ret) (.seq (.reg [
  ia 25 (.bin .eql (.t 4) (ci 9)),
 ia 24 (.mv (.t 25))]) (.cond (.t 24) (.seq (.reg [
  ia 26 (.fad 4 (.t 1)),
 ia 27 (.ld 1 false (.t 26)),
 ia 28 (.len false (.t 27)),
 ia 29 (.bin .add (ci 2) (.t 28)),
 ia 2 (.mv (.t 29))]) .ret) .skip)))))))))))) (.seq (.reg [
  ia 2 (.mv (ci 0))]) .ret))),[(.tmp 2)]⟩
theorem cc34 : ccF Tryz.prog [(42,[0,0]),(107,[1,0]),(74,[0,0]),(36,[0,0,0,0,0,0,0,0,0]),(160,[0,0]),(42,[9]),(105,[8]),(107,[8]),(75,[8]),(106,[8]),(79,[8])] Tryz.f34 = some (stripF F34) := by kernel_rfl
def F35 : FnC := ⟨2,(.seq (.reg [
  ia 2 (.box 2 (.t 0)),
 ia 3 (.box 2 (.t 1)),
 ia 4 (.mv (.c (.a (.p (.b false)))))]) (.seq (.reg [
  ia 5 (.fad 0 (.t 3)),
 ia 6 (.ld 1 false (.t 5)),
 ia 7 (.bin .geq (.t 6) (ci 0)),
 ia 8 (.mv (.t 7)),
 ih 9 8 true (.fad 0 (.t 3)),
 ih 10 8 true (.ld 1 false (.t 9)),
 ih 11 8 true (.fad 0 (.t 2)),
 ih 12 8 true (.ld 1 false (.t 11)),
 ih 13 8 true (.len false (.t 12)),
 ig 14 8 true (.bin .lss (.t 10) (.t 13)),
 ia 15 (.pick (.t 8) (.t 14) (.c (.a (.p (.b false))))),
 ia 16 (.mv (.t 15)),
 ig 17 16 true (.fad 1 (.t 3)),
 ig 18 16 true (.ld 1 false (.t 17)),
 ig 19 16 true (.bin .geq (.t 18) (ci 0)),
 ia 20 (.pick (.t 16) (.t 19) (.c (.a (.p (.b false))))),
 ia 21 (.mv (.t 20)),
 ih 22 21 true (.fad 1 (.t 3)),
 ih 23 21 true (.ld 1 false (.t 22)),
 ih 24 21 true (.fad 0 (.t 2)),
 ih 25 21 true (.ld 1 false (.t 24)),
 ih 26 21 true (.fad 0 (.t 3)),
 ih 27 21 true (.ld 1 false (.t 26)),
 ih 28 21 true (.ias 6 (.t 25) (.t 27)),
 ih 29 21 true (.fad 5 (.t 28)),
 ih 30 21 true (.ld 1 false (.t 29)),
 ih 31 21 true (.len false (.t 30)),
 ig 32 21 true (.bin .lss (.t 23) (.t 31)),
 ia 33 (.pick (.t 21) (.t 32) (.c (.a (.p (.b false))))),
 ia 4 (.mv (.t 33))]) .ret)),[(.tmp 4)]⟩
theorem cc35 : ccF Tryz.prog [(42,[0,0]),(107,[1,0]),(74,[0,0]),(36,[0,0,0,0,0,0,0,0,0]),(160,[0,0]),(42,[9]),(105,[8]),(107,[8]),(75,[8]),(106,[8]),(79,[8])] Tryz.f35 = some (stripF F35) := by kernel_rfl
def F36b0 : C := (.seq (.seq (.reg [
  ia 17 (.mv (.t 5)),
 ia 18 (.bin .gtr (.t 17) (ci 0))]) (.cond (.t 18) .skip (.exit 0))) (.seq (.block 1 (.seq (.reg [
  ia 21 (.mv (.t 4)),
 ia 22 (.mv (.t 5)),
 ia 23 (.ias 1 (.t 21) (.t 22)),
 ia 24 (.ld 1 false (.t 23)),
 ia 25 (.not (.t 24)),
 ia 26 (.mv (.t 25)),
 ig 27 26 true (.mv (.t 3)),
 ig 28 26 true (.mv (.t 5)),
 ig 29 26 true (.ias 6 (.t 27) (.t 28)),
 ig 30 26 true (.fad 0 (.t 29)),
 ig 31 26 true (.ld 1 false (.t 30)),
 ig 32 26 true (.bin .neq (.t 31) (ci 0)),
 ia 33 (.pick (.t 26) (.t 32) (.c (.a (.p (.b false)))))]) (.cond (.t 33) (.reg [
  ia 35 (.ld 2 true (.t 1)),
 ia 36 (.mv (.t 5)),
 ia 37 (.call (.f 55) [(.t 35),(.t 36)]),
 ia 34 (.mv (.t 37)),
 ia 38 (.ext (.t 34) 0),
 ia 39 (.ext (.t 34) 1),
 io (.st 2 (.t 1) (.t 38))]) .skip))) (.reg [
  ia 19 (.mv (.t 5)),
 ia 20 (.bin .sub (.t 19) (ci 1)),
 ia 5 (.mv (.t 20))])))
def F36 : FnC := ⟨1,(.seq (.reg [
  ia 1 (.box 2 (.t 0)),
 ia 2 (.new [.nil,(.p (.i .i64 0))])]) (.seq (.seq (.reg [
  ia 6 (.ld 2 true (.t 1)),
 ia 7 (.call (.f 37) [(.t 6)]),
 ia 8 (.bin .neq (.t 7) (ci 0))]) (.cond (.t 8) (.seq (.reg [
  ia 9 (.ld 2 true (.t 1)),
 io (.st 2 (.t 2) (.t 9))]) .ret) .skip)) (.seq (.reg [
  ir 10 (.fad 0 (.t 1)),
 ir 11 (.ld 1 false (.t 10)),
 ir 12 (.ld 2 true (.t 1)),
 ir 13 (.call (.f 54) [(.t 12)]),
 ia 3 (.mv (.t 11)),
 ia 4 (.mv (.t 13))]) (.seq (.seq (.reg [
  ia 14 (.mv (.t 4)),
 ia 15 (.len false (.t 14)),
 ia 16 (.bin .sub (.t 15) (ci 1)),
 ia 5 (.mv (.t 16))]) (.block 0 (.loop F36b0))) (.seq (.reg [
  ia 40 (.ld 2 true (.t 1)),
 io (.st 2 (.t 2) (.t 40))]) .ret))))),[(.cell 2 2 true)]⟩
theorem cc36 : ccF Tryz.prog [(42,[0,0]),(107,[1,0]),(74,[0,0]),(36,[0,0,0,0,0,0,0,0,0]),(160,[0,0]),(42,[9]),(105,[8]),(107,[8]),(75,[8]),(106,[8]),(79,[8])] Tryz.f36 = some (stripF F36) := by kernel_rfl
def F37b1 : C := (.seq (.reg [
  ia 63 (.bin .lss (.t 62) (.t 61))]) (.seq (.cond (.t 63) .skip (.exit 2)) (.seq (.block 3 (.seq (.reg [
  ia 64 (.mv (.t 62)),
 ia 6 (.mv (.t 64))]) (.seq (.reg [
  ia 65 (.ld 2 true (.t 1)),
 ia 66 (.mv (.t 4)),
 ia 67 (.mv (.t 6)),
 ia 68 (.build [(.p (.i .i64 0)),(.p (.i .i64 0))] [(0,(1,(.t 66))),(1,(1,(.t 67)))]),
 ia 69 (.call (.f 59) [(.t 65),(.t 68)]),
 ia 70 (.not (.t 69))]) (.cond (.t 70) (.seq (.reg [
  ia 2 (.mv (ci 120))]) .ret) .skip)))) (.reg [
  ia 71 (.bin .add (.t 62) (ci 1)),
 ia 62 (.mv (.t 71))]))))
def F37b0 : C := (.seq (.reg [
  ia 36 (.bin .lss (.t 35) (.t 34))]) (.seq (.cond (.t 36) .skip (.exit 0)) (.seq (.block 1 (.seq (.reg [
  ia 37 (.mv (.t 35)),
 ia 38 (.ias 6 (.t 33) (.t 35)),
 ia 39 (.ld 6 true (.t 38)),
 ia 5 (.new [(.p (.i .i64 0)),(.p (.i .i64 0)),(.p (.i .i64 0)),(.p (.s [])),.nil,.nil]),
 ia 4 (.mv (.t 37)),
 io (.st 6 (.t 5) (.t 39))]) (.seq (.seq (.reg [
  ia 40 (.ld 6 true (.t 5)),
 ia 41 (.call (.f 57) [(.t 40)]),
 ia 42 (.not (.t 41)),
 ia 43 (.mv (.t 42)),
 ih 44 43 false (.fad 5 (.t 5)),
 ih 45 43 false (.ld 1 false (.t 44)),
 ih 46 43 false (.len false (.t 45)),
 ih 47 43 false (.ld 6 true (.t 5)),
 ih 48 43 false (.call (.f 58) [(.t 47)]),
 ig 49 43 false (.bin .neq (.t 46) (.t 48)),
 ia 50 (.pick (.t 43) (.c (.a (.p (.b true)))) (.t 49)),
 ia 51 (.mv (.t 50)),
 ih 52 51 false (.fad 0 (.t 5)),
 ih 53 51 false (.ld 1 false (.t 52)),
 ih 54 51 false (.bin .eql (.t 53) (ci 1)),
 ih 55 51 false (.mv (.t 4)),
 ih 56 51 false (.bin .eql (.t 55) (ci 0)),
 ig 57 51 false (.eqb true (.t 54) (.t 56)),
 ia 58 (.pick (.t 51) (.c (.a (.p (.b true)))) (.t 57))]) (.cond (.t 58) (.seq (.reg [
  ia 2 (.mv (ci 120))]) .ret) .skip)) (.seq (.reg [
  ia 59 (.fad 5 (.t 5)),
 ia 60 (.ld 1 false (.t 59)),
 ia 61 (.len false (.t 60)),
 ia 62 (.mv (ci 0))]) (.block 2 (.loop F37b1)))))) (.reg [
  ia 72 (.bin .add (.t 35) (ci 1)),
 ia 35 (.mv (.t 72))]))))
def F37 : FnC := ⟨1,(.seq (.reg [
  ia 1 (.box 2 (.t 0)),
 ia 2 (.mv (ci 0))]) (.seq (.reg [
  ia 7 (.fad 0 (.t 1)),
 ia 8 (.ld 1 false (.t 7)),
 ia 9 (.len false (.t 8)),
 ia 10 (.bin .sub (.t 9) (ci 1)),
 ia 3 (.mv (.t 10))]) (.seq (.seq (.reg [
  ia 11 (.fad 1 (.t 1)),
 ia 12 (.ld 1 false (.t 11)),
 ia 13 (.call (.f 56) [(.t 12),(ci 1),(ci 4000)]),
 ia 14 (.not (.t 13)),
 ia 15 (.mv (.t 14)),
 ig 16 15 false (.mv (.t 3)),
 ig 17 15 false (.bin .add (.t 16) (ci 1)),
 ig 18 15 false (.fad 1 (.t 1)),
 ig 19 15 false (.ld 1 false (.t 18)),
 ig 20 15 false (.call (.f 56) [(.t 17),(ci 1),(.t 19)]),
 ig 21 15 false (.not (.t 20)),
 ia 22 (.pick (.t 15) (.c (.a (.p (.b true)))) (.t 21)),
 ia 23 (.mv (.t 22)),
 ig 24 23 false (.fad 0 (.t 1)),
 ig 25 23 false (.ld 1 false (.t 24)),
 ig 26 23 false (.mv (.t 3)),
 ig 27 23 false (.ias 6 (.t 25) (.t 26)),
 ig 28 23 false (.fad 0 (.t 27)),
 ig 29 23 false (.ld 1 false (.t 28)),
 ig 30 23 false (.bin .eql (.t 29) (ci 0)),
 ia 31 (.pick (.t 23) (.c (.a (.p (.b true)))) (.t 30))]) (.cond (.t 31) (.seq (.reg [
  ia 2 (.mv (ci 120))]) .ret) .skip)) (.seq (.seq (.reg [
  ia 32 (.fad 0 (.t 1)),
 ia 33 (.ld 1 false (.t 32)),
 ia 34 (.len false (.t 33)),
 ia 35 (.mv (ci 0))]) (.block 0 (.loop F37b0))) (.seq (.reg [
  ia 2 (.mv (ci 0))]) .ret))))),[(.tmp 2)]⟩
theorem cc37 : ccF Tryz.prog [(42,[0,0]),(107,[1,0]),(74,[0,0]),(36,[0,0,0,0,0,0,0,0,0]),(160,[0,0]),(42,[9]),(105,[8]),(107,[8]),(75,[8]),(106,[8]),(79,[8])] Tryz.f37 = some (stripF F37) := by kernel_rfl
def F38 : FnC := ⟨2,(.seq (.reg [
  ia 2 (.box 2 (.t 0)),
 ia 4 (.mv (ci 0))]) (.seq (.reg [
  ir 8 (.ld 2 true (.t 2)),
 ir 9 (.mv (.t 1)),
 ir 10 (.call (.f 61) [(.t 9),(ci 0)]),
 ir 11 (.call (.f 60) [(.t 8),(.t 10)]),
 ir 7 (.mv (.t 11)),
 ir 12 (.ext (.t 7) 0),
 ir 13 (.ext (.t 7) 1),
 ⟨(.some 5),.none,(.new [(.p (.i .i64 0)),(.p (.i .i64 0))]),.ad⟩,
 ⟨.none,.none,(.st 2 (.t 5) (.t 12)),(.wr [])⟩,
 ia 6 (.mv (.t 13))]) (.seq (.seq (.reg [
  ia 14 (.mv (.t 6)),
 ia 15 (.bin .neq (.t 14) (ci 0)),
 ia 16 (.mv (.t 15)),
 ig 17 16 false (.fad 1 (.t 5)),
 ig 18 16 false (.ld 1 false (.t 17)),
 ig 19 16 false (.bin .neq (.t 18) (ci 0)),
 ia 20 (.pick (.t 16) (.c (.a (.p (.b true)))) (.t 19))]) (.cond (.t 20) (.seq (.reg [
  ia 4 (.mv (.c (.a (.p (.i .i64 (-1))))))]) .ret) .skip)) (.seq (.reg [
  ia 21 (.fad 0 (.t 5)),
 ia 22 (.ld 1 false (.t 21)),
 ia 4 (.mv (.t 22))]) .ret)))),[(.tmp 4)]⟩
theorem cc38 : ccF Tryz.prog [(42,[0,0]),(107,[1,0]),(74,[0,0]),(36,[0,0,0,0,0,0,0,0,0]),(160,[0,0]),(42,[9]),(105,[8]),(107,[8]),(75,[8]),(106,[8]),(79,[8])] Tryz.f38 = some (stripF F38) := by kernel_rfl
def F39 : FnC := ⟨2,(.seq (.reg [
  ia 2 (.box 6 (.t 0)),
 ia 3 (.box 6 (.t 1)),
 ia 4 (.new [(.p (.i .i64 0)),(.p (.b false)),(.p (.i .i64 0)),(.p (.i .i64 0)),(.p (.i .i64 0)),(.p (.i .i64 0)),(.p (.i .i64 0)),(.p (.s [])),.nil,.nil]),
 ia 5 (.mv (ci 0))]) (.seq (.reg [
  ia 8 (.fn 62 [(.t 2),(.t 3)]),
 ia 6 (.mv (.t 8))]) (.seq (.reg [
  ia 9 (.fn 64 [(.t 2),(.t 3)]),
 ia 7 (.mv (.t 9))]) (.seq (.block 0 (.seq (.reg [
  ia 11 (.mv (.t 7)),
 ia 12 (.call (.t 11) [(ci 0)]),
 ia 10 (.mv (.t 12))]) (.cond (.t 10) (.seq (.reg [
  ia 13 (.build [(.p (.i .i64 0)),(.p (.b false)),(.p (.i .i64 0)),(.p (.i .i64 0)),(.p (.i .i64 0)),(.p (.i .i64 0)),(.p (.i .i64 0)),(.p (.s [])),.nil,.nil] []),
 io (.st 10 (.t 4) (.t 13)),
 ia 5 (.mv (ci 140))]) .ret) (.seq (.reg [
  ia 15 (.fad 0 (.t 2)),
 ia 16 (.ld 1 false (.t 15)),
 ia 17 (.call (.f 63) [(.t 16)]),
 ia 18 (.bin .eql (.t 17) (ci 4)),
 ia 14 (.mv (.t 18))]) (.cond (.t 14) (.seq (.reg [
  ia 19 (.call (.f 65) [(ci 8)]),
 ia 20 (.ext (.t 19) 0),
 ia 21 (.ext (.t 19) 1),
 io (.st 10 (.t 4) (.t 20)),
 ia 5 (.mv (.t 21))]) .ret) (.seq (.reg [
  ia 23 (.fad 0 (.t 3)),
 ia 24 (.ld 1 false (.t 23)),
 ia 25 (.call (.f 63) [(.t 24)]),
 ia 26 (.bin .eql (.t 25) (ci 4)),
 ia 22 (.mv (.t 26))]) (.cond (.t 22) (.seq (.reg [
  ia 27 (.call (.f 65) [(ci 8)]),
 ia 28 (.ext (.t 27) 0),
 ia 29 (.ext (.t 27) 1),
 ia 30 (.call (.f 66) [(.t 28),(.t 29)]),
 ia 31 (.ext (.t 30) 0),
 ia 32 (.ext (.t 30) 1),
 io (.st 10 (.t 4) (.t 31)),
 ia 5 (.mv (.t 32))]) .ret) (.seq (.reg [
  ia 34 (.mv (.t 6)),
 ia 35 (.call (.t 34) [(ci 3),(ci 3)]),
 ia 36 (.mv (.t 35)),
 ig 37 36 true (.fad 1 (.t 2)),
 ig 38 36 true (.ld 1 false (.t 37)),
 ig 39 36 true (.fad 1 (.t 3)),
 ig 40 36 true (.ld 1 false (.t 39)),
 ig 41 36 true (.bin .eql (.t 38) (.t 40)),
 ia 42 (.pick (.t 36) (.t 41) (.c (.a (.p (.b false))))),
 ia 43 (.mv (.t 42)),
 ig 44 43 true (.fad 0 (.t 2)),
 ig 45 43 true (.ld 1 false (.t 44)),
 ig 46 43 true (.fad 0 (.t 3)),
 ig 47 43 true (.ld 1 false (.t 46)),
 ig 48 43 true (.bin .eql (.t 45) (.t 47)),
 ia 49 (.pick (.t 43) (.t 48) (.c (.a (.p (.b false))))),
 ia 33 (.mv (.t 49))]) (.cond (.t 33) (.seq (.reg [
  ia 50 (.call (.f 65) [(ci 6)]),
 ia 51 (.ext (.t 50) 0),
 ia 52 (.ext (.t 50) 1),
 io (.st 10 (.t 4) (.t 51)),
 ia 5 (.mv (.t 52))]) .ret) (.seq (.reg [
  ia 54 (.fad 0 (.t 2)),
 ia 55 (.ld 1 false (.t 54)),
 ia 56 (.call (.f 63) [(.t 55)]),
 ia 57 (.bin .eql (.t 56) (ci 3)),
 ia 58 (.mv (.t 57)),
 ig 59 58 true (.fad 0 (.t 3)),
 ig 60 58 true (.ld 1 false (.t 59)),
 ig 61 58 true (.call (.f 63) [(.t 60)]),
 ig 62 58 true (.bin .neq (.t 61) (ci 3)),
 ig 63 58 true (.mv (.t 62)),
 ig 64 63 false (.fad 1 (.t 2)),
 ig 65 63 false (.ld 1 false (.t 64)),
 ig 66 63 false (.fad 1 (.t 3)),
 ig 67 63 false (.ld 1 false (.t 66)),
 ig 68 63 false (.bin .leq (.t 65) (.t 67)),
 ig 69 58 true (.pick (.t 63) (.c (.a (.p (.b true)))) (.t 68)),
 ia 70 (.pick (.t 58) (.t 69) (.c (.a (.p (.b false))))),
 ia 53 (.mv (.t 70))]) (.cond (.t 53) (.seq (.reg [
  ia 71 (.ld 6 true (.t 2)),
 ia 72 (.ld 6 true (.t 3)),
 ia 73 (.call (.f 67) [(.t 71),(.t 72)]),
 ia 74 (.ext (.t 73) 0),
 ia 75 (.ext (.t 73) 1),
 io (.st 10 (.t 4) (.t 74)),
 ia 5 (.mv (.t 75))]) .ret) (.seq (.reg [
  ia 77 (.fad 0 (.t 3)),
 ia 78 (.ld 1 false (.t 77)),
 ia 79 (.call (.f 63) [(.t 78)]),
 ia 80 (.bin .eql (.t 79) (ci 3)),
 ia 76 (.mv (.t 80))]) (.cond (.t 76) (.seq (.reg [
  ia 81 (.ld 6 true (.t 3)),
 ia 82 (.ld 6 true (.t 2)),
 ia 83 (.call (.f 67) [(.t 81),(.t 82)]),
 ia 84 (.ext (.t 83) 0),
 ia 85 (.ext (.t 83) 1),
 ia 86 (.call (.f 66) [(.t 84),(.t 85)]),
 ia 87 (.ext (.t 86) 0),
 ia 88 (.ext (.t 86) 1),
 io (.st 10 (.t 4) (.t 87)),
 ia 5 (.mv (.t 88))]) .ret) (.seq (.reg [
  ia 90 (.mv (.t 6)),
 ia 91 (.call (.t 90) [(ci 1),(ci 2)]),
 ia 89 (.mv (.t 91))]) (.cond (.t 89) (.seq (.reg [
  ia 92 (.ld 6 true (.t 2)),
 ia 93 (.ld 6 true (.t 3)),
 ia 94 (.call (.f 68) [(.t 92),(.t 93)]),
 ia 95 (.ext (.t 94) 0),
 ia 96 (.ext (.t 94) 1),
 io (.st 10 (.t 4) (.t 95)),
 ia 5 (.mv (.t 96))]) .ret) (.seq (.reg [
  ia 98 (.mv (.t 6)),
 ia 99 (.call (.t 98) [(ci 2),(ci 1)]),
 ia 97 (.mv (.t 99))]) (.cond (.t 97) (.seq (.reg [
  ia 100 (.ld 6 true (.t 3)),
 ia 101 (.ld 6 true (.t 2)),
 ia 102 (.call (.f 68) [(.t 100),(.t 101)]),
 ia 103 (.ext (.t 102) 0),
 ia 104 (.ext (.t 102) 1),
 ia 105 (.call (.f 66) [(.t 103),(.t 104)]),
 ia 106 (.ext (.t 105) 0),
 ia 107 (.ext (.t 105) 1),
 io (.st 10 (.t 4) (.t 106)),
 ia 5 (.mv (.t 107))]) .ret) .skip))))))))))))))))) (.seq (.reg [
  ia 108 (.build [(.p (.i .i64 0)),(.p (.b false)),(.p (.i .i64 0)),(.p (.i .i64 0)),(.p (.i .i64 0)),(.p (.i .i64 0)),(.p (.i .i64 0)),(.p (.s [])),.nil,.nil] []),
 io (.st 10 (.t 4) (.t 108)),
 ia 5 (.mv (ci 140))]) .ret))))),[(.cell 4 10 true),(.tmp 5)]⟩
theorem cc39 : ccF Tryz.prog [(42,[0,0]),(107,[1,0]),(74,[0,0]),(36,[0,0,0,0,0,0,0,0,0]),(160,[0,0]),(42,[9]),(105,[8]),(107,[8]),(75,[8]),(106,[8]),(79,[8])] Tryz.f39 = some (stripF F39) := by kernel_rfl
def F40b0 : C := (.seq (.reg [
  ia 10 (.bin .lss (.t 9) (.t 8))]) (.seq (.cond (.t 10) .skip (.exit 0)) (.seq (.block 1 (.seq (.reg [
  ia 11 (.ias 6 (.t 7) (.t 9)),
 ia 12 (.ld 6 true (.t 11)),
 ia 5 (.new [(.p (.i .i64 0)),(.p (.i .i64 0)),(.p (.i .i64 0)),(.p (.s [])),.nil,.nil]),
 io (.st 6 (.t 5) (.t 12))]) (.seq (.reg [
  ia 13 (.ld 6 true (.t 5)),
 ia 14 (.call (.f 69) [(.t 13)]),
 ia 15 (.not (.t 14))]) (.cond (.t 15) (.reg [
  ia 16 (.mv (.t 3)),
 ia 17 (.bin .add (.t 16) (ci 1)),
 ia 3 (.mv (.t 17))]) .skip)))) (.reg [
  ia 18 (.bin .add (.t 9) (ci 1)),
 ia 9 (.mv (.t 18))]))))
def F40 : FnC := ⟨1,(.seq (.reg [
  ia 1 (.box 2 (.t 0)),
 ia 2 (.mv (ci 0))]) (.seq (.reg [
  ia 3 (.mv (ci 0))]) (.seq (.seq (.reg [
  ia 6 (.fad 0 (.t 1)),
 ia 7 (.ld 1 false (.t 6)),
 ia 8 (.len false (.t 7)),
 ia 9 (.mv (ci 0))]) (.block 0 (.loop F40b0))) (.seq (.reg [
  ia 19 (.mv (.t 3)),
 ia 2 (.mv (.t 19))]) .ret)))),[(.tmp 2)]⟩
theorem cc40 : ccF Tryz.prog [(42,[0,0]),(107,[1,0]),(74,[0,0]),(36,[0,0,0,0,0,0,0,0,0]),(160,[0,0]),(42,[9]),(105,[8]),(107,[8]),(75,[8]),(106,[8]),(79,[8])] Tryz.f40 = some (stripF F40) := by kernel_rfl
def F41 : FnC := ⟨3,(.seq (.reg [
  ia 3 (.box 10 (.t 0)),
 ia 4 (.box 6 (.t 1)),
 ia 5 (.box 6 (.t 2)),
 ia 6 (.mv (ci 0))]) (.seq (.reg [
  ir 9 (.ld 6 true (.t 4)),
 ir 10 (.ld 6 true (.t 5)),
 ⟨(.some 7),.none,(.new [(.p (.i .i64 0)),(.p (.i .i64 0)),(.p (.i .i64 0)),(.p (.s [])),.nil,.nil]),.ad⟩,
 ⟨(.some 8),.none,(.new [(.p (.i .i64 0)),(.p (.i .i64 0)),(.p (.i .i64 0)),(.p (.s [])),.nil,.nil]),.ad⟩,
 ⟨.none,.none,(.st 6 (.t 7) (.t 9)),(.wr [5])⟩,
 io (.st 6 (.t 8) (.t 10))]) (.seq (.seq (.reg [
  ia 11 (.fad 1 (.t 3)),
 ia 12 (.ld 1 false (.t 11))]) (.cond (.t 12) (.reg [
  ir 13 (.ld 6 true (.t 5)),
 ir 14 (.ld 6 true (.t 4)),
 ⟨.none,.none,(.st 6 (.t 7) (.t 13)),(.wr [4])⟩,
 io (.st 6 (.t 8) (.t 14))]) .skip)) (.seq (.seq (.reg [
  ia 15 (.fad 0 (.t 3)),
 ia 16 (.ld 1 false (.t 15))]) (.block 0 (.seq (.reg [
  ia 18 (.bin .eql (.t 16) (ci 2)),
 ia 17 (.mv (.t 18))]) (.cond (.t 17) (.seq (.seq (.reg [
  ia 19 (.fad 3 (.t 3)),
 ia 20 (.ld 1 false (.t 19)),
 ia 21 (.bin .lss (.t 20) (ci 0)),
 ia 22 (.mv (.t 21)),
 ig 23 22 false (.fad 3 (.t 3)),
 ig 24 22 false (.ld 1 false (.t 23)),
 ig 25 22 false (.fad 4 (.t 7)),
 ig 26 22 false (.ld 1 false (.t 25)),
 ig 27 22 false (.len false (.t 26)),
 ig 28 22 false (.bin .geq (.t 24) (.t 27)),
 ia 29 (.pick (.t 22) (.c (.a (.p (.b true)))) (.t 28))]) (.cond (.t 29) (.seq (.reg [
  ia 6 (.mv (ci 0))]) .ret) .skip)) (.seq (.reg [
  ir 30 (.fad 4 (.t 7)),
 ir 31 (.ld 1 false (.t 30)),
 ir 32 (.fad 3 (.t 3)),
 ir 33 (.ld 1 false (.t 32)),
 ir 34 (.ias 2 (.t 31) (.t 33)),
 ir 35 (.fad 1 (.t 34)),
 ir 36 (.ld 1 false (.t 35)),
 ir 37 (.fad 4 (.t 7)),
 ir 38 (.ld 1 false (.t 37)),
 ir 39 (.len false (.t 38)),
 ia 40 (.bin .add (.t 36) (.t 39)),
 ia 41 (.bin .sub (.t 40) (ci 1)),
 ia 6 (.mv (.t 41))]) .ret)) (.seq (.seq (.reg [
  ia 43 (.bin .eql (.t 16) (ci 3)),
 ia 42 (.mv (.t 43))]) (.cond (.t 42) .skip (.reg [
  ia 44 (.bin .eql (.t 16) (ci 4)),
 ia 42 (.mv (.t 44))]))) (.cond (.t 42) (.seq (.reg [
  ia 6 (.mv (ci 1))]) .ret) (.seq (.reg [
  ia 46 (.bin .eql (.t 16) (ci 5)),
 ia 45 (.mv (.t 46))]) (.cond (.t 45) (.seq (.reg [
  ir 47 (.ld 6 true (.t 7)),
 ir 48 (.call (.f 70) [(.t 47)]),
 ir 49 (.bin .sub (.t 48) (ci 1)),
 ir 50 (.mx (.t 49) (ci 0)),
 ir 51 (.bin .add (ci 1) (.t 50)),
 ir 52 (.ld 6 true (.t 8)),
 ir 53 (.call (.f 70) [(.t 52)]),
 ia 54 (.bin .add (.t 51) (.t 53)),
 ia 6 (.mv (.t 54))]) .ret) (.seq (.reg [
  ia 56 (.bin .eql (.t 16) (ci 7)),
 ia 55 (.mv (.t 56))]) (.cond (.t 55) (.seq (.seq (.reg [
  ia 57 (.fad 0 (.t 7)),
 ia 58 (.ld 1 false (.t 57)),
 ia 59 (.bin .eql (.t 58) (ci 4))]) (.cond (.t 59) (.seq (.reg [
  ia 60 (.ld 6 true (.t 8)),
 ia 61 (.call (.f 70) [(.t 60)]),
 ia 62 (.bin .add (ci 2) (.t 61)),
 ia 6 (.mv (.t 62))]) .ret) .skip)) (.seq (.reg [
  ia 63 (.ld 6 true (.t 8)),
 ia 64 (.call (.f 70) [(.t 63)]),
 ia 65 (.bin .add (ci 1) (.t 64)),
 ia 6 (.mv (.t 65))]) .ret)) (.seq (.reg [
  ia 67 (.bin .eql (.t 16) (ci 8)),
 ia 66 (.mv (.t 67))]) (.cond (.t 66) (.seq (.reg [
  ia 68 (.ld 6 true (.t 8)),
 ia 69 (.call (.f 70) [(.t 68)]),
 ia 6 (.mv (.t 69))]) .ret) .skip)))))))))))) (.seq (.reg [
  ia 6 (.mv (ci 0))]) .ret))))),[(.tmp 6)]⟩
theorem cc41 : ccF Tryz.prog [(42,[0,0]),(107,[1,0]),(74,[0,0]),(36,[0,0,0,0,0,0,0,0,0]),(160,[0,0]),(42,[9]),(105,[8]),(107,[8]),(75,[8]),(106,[8]),(79,[8])] Tryz.f41 = some (stripF F41) := by kernel_rfl
def F42b0 : C := (.seq (.reg [
  ia 79 (.bin .lss (.t 78) (.t 77))]) (.seq (.cond (.t 79) .skip (.exit 1)) (.seq (.block 2 (.seq (.reg [
  ia 80 (.ias 1 (.t 76) (.t 78)),
 ia 81 (.ld 1 false (.t 80)),
 ia 3 (.mv (.t 81))]) (.reg [
  ia 83 (.mv (.t 0)),
 ia 84 (.mv (.t 0)),
 ia 85 (.nck (.t 84)),
 ia 86 (.fad 0 (.t 85)),
 ia 87 (.ld 2 true (.t 86)),
 ia 88 (.mv (.t 3)),
 ia 89 (.call (.f 55) [(.t 87),(.t 88)]),
 ia 82 (.mv (.t 89)),
 ia 90 (.ext (.t 82) 0),
 ia 91 (.ext (.t 82) 1),
 ia 92 (.nck (.t 83)),
 ia 93 (.fad 0 (.t 92)),
 io (.st 2 (.t 93) (.t 90))]))) (.reg [
  ia 94 (.bin .add (.t 78) (ci 1)),
 ia 78 (.mv (.t 94))]))))
def F42 : FnC := ⟨1,(.seq (.seq (.reg [
  ia 4 (.mv (.t 0)),
 ia 5 (.nck (.t 4)),
 ia 6 (.fad 2 (.t 5)),
 ia 7 (.fad 0 (.t 6)),
 ia 8 (.ld 1 false (.t 7))]) (.block 0 (.seq (.seq (.reg [
  ia 10 (.bin .eql (.t 8) (ci 1)),
 ia 9 (.mv (.t 10))]) (.cond (.t 9) .skip (.reg [
  ia 11 (.bin .eql (.t 8) (ci 6)),
 ia 9 (.mv (.t 11))]))) (.cond (.t 9) (.reg [
  ia 12 (.mv (.t 0)),
 ia 13 (.call (.f 71) [(.t 12)])]) (.seq (.reg [
  ia 15 (.bin .eql (.t 8) (ci 2)),
 ia 14 (.mv (.t 15))]) (.cond (.t 14) (.reg [
  ia 16 (.mv (.t 0)),
 ia 17 (.call (.f 72) [(.t 16)])]) (.seq (.reg [
  ia 19 (.bin .eql (.t 8) (ci 3)),
 ia 18 (.mv (.t 19))]) (.cond (.t 18) (.reg [
  ia 20 (.mv (.t 0)),
 ia 21 (.call (.f 73) [(.t 20)])]) (.seq (.reg [
  ia 23 (.bin .eql (.t 8) (ci 4)),
 ia 22 (.mv (.t 23))]) (.cond (.t 22) (.reg [
  ir 24 (.mv (.t 0)),
 ir 25 (.mv (.t 0)),
 ir 26 (.nck (.t 25)),
 ir 27 (.fad 12 (.t 26)),
 ir 28 (.ld 1 false (.t 27)),
 ir 29 (.call (.f 61) [(.t 28),(ci 1)]),
 ir 30 (.mv (.t 0)),
 ir 31 (.mv (.t 0)),
 ir 32 (.nck (.t 31)),
 ir 33 (.fad 2 (.t 32)),
 ir 34 (.fad 4 (.t 33)),
 ir 35 (.ld 6 true (.t 34)),
 ⟨(.some 36),.none,(.call (.f 75) [(.t 30),(.t 35)]),(.cl [] [])⟩,
 ir 37 (.call (.f 61) [(.t 36),(ci 0)]),
 ia 38 (.call (.f 74) [(.t 24),(.t 29),(.t 37)])]) (.seq (.reg [
  ia 40 (.bin .eql (.t 8) (ci 5)),
 ia 39 (.mv (.t 40))]) (.cond (.t 39) (.reg [
  ia 41 (.mv (.t 0)),
 ia 42 (.call (.f 76) [(.t 41)])]) (.seq (.reg [
  ia 44 (.bin .eql (.t 8) (ci 7)),
 ia 43 (.mv (.t 44))]) (.cond (.t 43) (.reg [
  ia 45 (.mv (.t 0)),
 ia 46 (.call (.f 77) [(.t 45)])]) (.seq (.reg [
  ia 48 (.bin .eql (.t 8) (ci 8)),
 ia 47 (.mv (.t 48))]) (.cond (.t 47) (.reg [
  ia 49 (.mv (.t 0)),
 ia 50 (.mv (.t 0)),
 ia 51 (.mv (.t 0)),
 ia 52 (.nck (.t 51)),
 ia 53 (.fad 13 (.t 52)),
 ia 54 (.ld 1 false (.t 53)),
 ia 55 (.call (.f 79) [(.t 50),(.t 54),(ci 1)]),
 ia 56 (.call (.f 78) [(.t 49),(.t 55)]),
 ia 57 (.call (.t 56) [])]) .skip)))))))))))))))) (.seq (.reg [
  ir 58 (.mv (.t 0)),
 ir 59 (.nck (.t 58)),
 ir 60 (.fad 12 (.t 59)),
 ir 61 (.ld 1 false (.t 60)),
 ir 62 (.mv (.t 0)),
 ir 63 (.nck (.t 62)),
 ir 64 (.fad 13 (.t 63)),
 ir 65 (.ld 1 false (.t 64)),
 ir 66 (.mx (.t 61) (.t 65)),
 ir 67 (.mv (.t 0)),
 ir 68 (.nck (.t 67)),
 ir 69 (.fad 12 (.t 68)),
 ir 70 (.ld 1 false (.t 69)),
 ir 71 (.mv (.t 0)),
 ir 72 (.nck (.t 71)),
 ir 73 (.fad 13 (.t 72)),
 ir 74 (.ld 1 false (.t 73)),
 ir 75 (.mn (.t 70) (.t 74)),
 ⟨(.some 76),.none,(.bsl 1 3 [(.p (.i .i64 0))] 2 [(0,(.t 66)),(1,(.t 75))]),.ad⟩,
 ir 77 (.len false (.t 76)),
 ir 78 (.mv (ci 0))]) (.block 1 (.loop F42b0)))),[]⟩
theorem cc42 : ccF Tryz.prog [(42,[0,0]),(107,[1,0]),(74,[0,0]),(36,[0,0,0,0,0,0,0,0,0]),(160,[0,0]),(42,[9]),(105,[8]),(107,[8]),(75,[8]),(106,[8]),(79,[8])] Tryz.f42 = some (stripF F42) := by kernel_rfl
def F45 : FnC := ⟨2,(.seq (.reg [
  ia 4 (.new [(.p (.i .i64 0)),(.p (.s [])),(.p (.i .i64 0)),(.p (.i .i64 0)),.nil]),
 ia 5 (.mv (ci 0)),
 ia 6 (.mv (ci 0))]) (.seq (.seq (.reg [
  ia 11 (.mv (.t 1)),
 ia 12 (.bin .lss (.t 11) (ci 1)),
 ia 13 (.mv (.t 12)),
 ig 14 13 false (.mv (.t 1)),
 ig 15 13 false (.bin .gtr (.t 14) (ci 200)),
 ia 16 (.pick (.t 13) (.c (.a (.p (.b true)))) (.t 15))]) (.cond (.t 16) (.seq (.reg [
  ia 17 (.build [(.p (.i .i64 0)),(.p (.s [])),(.p (.i .i64 0)),(.p (.i .i64 0)),.nil] []),
 io (.st 5 (.t 4) (.t 17)),
 ia 5 (.mv (ci 0)),
 ia 6 (.mv (ci 1))]) .ret) .skip)) (.seq (.seq (.reg [
  ia 18 (.mv (.t 0)),
 ia 19 (.len true (.t 18)),
 ia 20 (.bin .gtr (.t 19) (ci 4096))]) (.cond (.t 20) (.seq (.reg [
  ia 21 (.build [(.p (.i .i64 0)),(.p (.s [])),(.p (.i .i64 0)),(.p (.i .i64 0)),.nil] []),
 io (.st 5 (.t 4) (.t 21)),
 ia 5 (.mv (ci 0)),
 ia 6 (.mv (ci 32))]) .ret) .skip)) (.seq (.reg [
  ia 23 (.mv (.t 0)),
 ia 24 (.call (.f 81) [(.t 23)]),
 ia 22 (.mv (.t 24)),
 ia 25 (.ext (.t 22) 0),
 ia 26 (.ext (.t 22) 1),
 ia 27 (.ext (.t 22) 2),
 ia 7 (.mv (.t 25)),
 ia 8 (.mv (.t 26)),
 ia 9 (.mv (.t 27))]) (.seq (.seq (.reg [
  ia 28 (.mv (.t 9)),
 ia 29 (.bin .neq (.t 28) (ci 0))]) (.cond (.t 29) (.seq (.reg [
  ia 30 (.build [(.p (.i .i64 0)),(.p (.s [])),(.p (.i .i64 0)),(.p (.i .i64 0)),.nil] []),
 ia 31 (.mv (.t 8)),
 ia 32 (.mv (.t 9)),
 io (.st 5 (.t 4) (.t 30)),
 ia 5 (.mv (.t 31)),
 ia 6 (.mv (.t 32))]) .ret) .skip)) (.seq (.reg [
  ia 33 (.mv (.t 7)),
 ia 34 (.call (.f 82) [(.t 33),(ci 0)]),
 ia 10 (.new [(.p (.i .i64 0)),(.p (.s [])),(.p (.i .i64 0)),(.p (.i .i64 0)),.nil,(.p (.i .i64 0)),(.p (.b false))]),
 io (.st 7 (.t 10) (.t 34))]) (.seq (.seq (.reg [
  ia 35 (.fad 6 (.t 10)),
 ia 36 (.ld 1 false (.t 35)),
 ia 37 (.not (.t 36)),
 ia 38 (.mv (.t 37)),
 ig 39 38 false (.fad 5 (.t 10)),
 ig 40 38 false (.ld 1 false (.t 39)),
 ig 41 38 false (.mv (.t 7)),
 ig 42 38 false (.len false (.t 41)),
 ig 43 38 false (.bin .lss (.t 40) (.t 42)),
 ia 44 (.pick (.t 38) (.c (.a (.p (.b true)))) (.t 43))]) (.cond (.t 44) (.seq (.seq (.reg [
  ia 45 (.fad 5 (.t 10)),
 ia 46 (.ld 1 false (.t 45)),
 ia 47 (.mv (.t 7)),
 ia 48 (.len false (.t 47)),
 ia 49 (.bin .lss (.t 46) (.t 48))]) (.cond (.t 49) (.seq (.reg [
  ir 50 (.build [(.p (.i .i64 0)),(.p (.s [])),(.p (.i .i64 0)),(.p (.i .i64 0)),.nil] []),
 ir 51 (.mv (.t 7)),
 ir 52 (.fad 5 (.t 10)),
 ir 53 (.ld 1 false (.t 52)),
 ir 54 (.ias 4 (.t 51) (.t 53)),
 ir 55 (.fad 3 (.t 54)),
 ir 56 (.ld 1 false (.t 55)),
 ⟨.none,.none,(.st 5 (.t 4) (.t 50)),(.wr [52,51,53,55])⟩,
 ia 5 (.mv (.t 56)),
 ia 6 (.mv (ci 30))]) .ret) .skip)) (.seq (.reg [
  ia 57 (.build [(.p (.i .i64 0)),(.p (.s [])),(.p (.i .i64 0)),(.p (.i .i64 0)),.nil] []),
 ia 58 (.mv (.t 0)),
 ia 59 (.len true (.t 58)),
 io (.st 5 (.t 4) (.t 57)),
 ia 5 (.mv (.t 59)),
 ia 6 (.mv (ci 30))]) .ret)) .skip)) (.seq (.seq (.reg [
  ia 60 (.fad 0 (.t 10)),
 ia 61 (.ld 5 true (.t 60)),
 ia 62 (.call (.f 83) [(.t 61)]),
 ia 63 (.mv (.t 1)),
 ia 64 (.bin .gtr (.t 62) (.t 63))]) (.cond (.t 64) (.seq (.reg [
  ia 65 (.build [(.p (.i .i64 0)),(.p (.s [])),(.p (.i .i64 0)),(.p (.i .i64 0)),.nil] []),
 io (.st 5 (.t 4) (.t 65)),
 ia 5 (.mv (ci 0)),
 ia 6 (.mv (ci 31))]) .ret) .skip)) (.seq (.reg [
  ia 66 (.fad 0 (.t 10)),
 ia 67 (.ld 5 true (.t 66)),
 io (.st 5 (.t 4) (.t 67)),
 ia 5 (.mv (ci 0)),
 ia 6 (.mv (ci 0))]) .ret))))))))),[(.cell 4 5 true),(.tmp 5),(.tmp 6)]⟩
theorem cc45 : ccF Tryz.prog [(42,[0,0]),(107,[1,0]),(74,[0,0]),(36,[0,0,0,0,0,0,0,0,0]),(160,[0,0]),(42,[9]),(105,[8]),(107,[8]),(75,[8]),(106,[8]),(79,[8])] Tryz.f45 = some (stripF F45) := by kernel_rfl
def F46 : FnC := ⟨1,(.seq (.reg [
  ia 1 (.box 5 (.t 0)),
 ia 2 (.new [(.p (.i .i64 0)),(.p (.i .i64 0)),(.p (.s [])),.nil]),
 ia 3 (.mv (ci 0)),
 ia 4 (.mv (ci 0))]) (.seq (.reg [
  ia 8 (.ld 5 true (.t 1)),
 ia 9 (.call (.f 84) [(.t 8)]),
 ia 7 (.mv (.t 9)),
 ia 10 (.ext (.t 7) 0),
 ia 11 (.ext (.t 7) 1),
 ia 5 (.mv (.t 10)),
 ia 6 (.mv (.t 11))]) (.seq (.seq (.reg [
  ia 12 (.mv (.t 6)),
 ia 13 (.bin .neq (.t 12) (ci 0))]) (.cond (.t 13) (.seq (.reg [
  ia 14 (.build [(.p (.i .i64 0)),(.p (.i .i64 0)),(.p (.s [])),.nil] []),
 ia 15 (.mv (.t 5)),
 ia 16 (.mv (.t 6)),
 io (.st 4 (.t 2) (.t 14)),
 ia 3 (.mv (.t 15)),
 ia 4 (.mv (.t 16))]) .ret) .skip)) (.seq (.reg [
  ia 17 (.ld 5 true (.t 1)),
 ia 18 (.call (.f 85) [(.t 17),(.c (.a .nil))]),
 io (.st 4 (.t 2) (.t 18)),
 ia 3 (.mv (ci 0)),
 ia 4 (.mv (ci 0))]) .ret)))),[(.cell 2 4 true),(.tmp 3),(.tmp 4)]⟩
theorem cc46 : ccF Tryz.prog [(42,[0,0]),(107,[1,0]),(74,[0,0]),(36,[0,0,0,0,0,0,0,0,0]),(160,[0,0]),(42,[9]),(105,[8]),(107,[8]),(75,[8]),(106,[8]),(79,[8])] Tryz.f46 = some (stripF F46) := by kernel_rfl
def F47 : FnC := ⟨3,(.seq (.reg [
  ia 3 (.box 4 (.t 0)),
 ia 6 (.mv (.c (.a (.p (.b false)))))]) (.seq (.reg [
  ia 10 (.fad 3 (.t 3)),
 ia 11 (.ld 1 false (.t 10)),
 ia 12 (.len false (.t 11)),
 ia 7 (.mv (.t 12))]) (.seq (.reg [
  ia 13 (.fad 2 (.t 3)),
 ia 14 (.ld 1 false (.t 13)),
 ia 15 (.bin .eql (.t 14) (.c (.a (.p (.s [43]))))),
 ia 16 (.mv (.t 15)),
 ig 17 16 false (.fad 2 (.t 3)),
 ig 18 16 false (.ld 1 false (.t 17)),
 ig 19 16 false (.bin .eql (.t 18) (.c (.a (.p (.s [45]))))),
 ia 20 (.pick (.t 16) (.c (.a (.p (.b true)))) (.t 19)),
 ia 21 (.mv (.t 20)),
 ig 22 21 false (.fad 2 (.t 3)),
 ig 23 21 false (.ld 1 false (.t 22)),
 ig 24 21 false (.bin .eql (.t 23) (.c (.a (.p (.s [42]))))),
 ia 25 (.pick (.t 21) (.c (.a (.p (.b true)))) (.t 24)),
 ia 26 (.mv (.t 25)),
 ig 27 26 false (.fad 2 (.t 3)),
 ig 28 26 false (.ld 1 false (.t 27)),
 ig 29 26 false (.bin .eql (.t 28) (.c (.a (.p (.s [47]))))),
 ia 30 (.pick (.t 26) (.c (.a (.p (.b true)))) (.t 29)),
 ia 31 (.mv (.t 30)),
 ig 32 31 false (.fad 2 (.t 3)),
 ig 33 31 false (.ld 1 false (.t 32)),
 ig 34 31 false (.bin .eql (.t 33) (.c (.a (.p (.s [60]))))),
 ia 35 (.pick (.t 31) (.c (.a (.p (.b true)))) (.t 34)),
 ia 36 (.mv (.t 35)),
 ig 37 36 false (.fad 2 (.t 3)),
 ig 38 36 false (.ld 1 false (.t 37)),
 ig 39 36 false (.bin .eql (.t 38) (.c (.a (.p (.s [61,61]))))),
 ia 40 (.pick (.t 36) (.c (.a (.p (.b true)))) (.t 39)),
 ia 8 (.mv (.t 40))]) (.seq (.reg [
  ia 41 (.fad 2 (.t 3)),
 ia 42 (.ld 1 false (.t 41)),
 ia 43 (.bin .eql (.t 42) (.c (.a (.p (.s []))))),
 ia 44 (.mv (.t 43)),
 ig 45 44 true (.fad 1 (.t 3)),
 ig 46 44 true (.ld 1 false (.t 45)),
 ig 47 44 true (.bin .eql (.t 46) (ci 0)),
 ia 48 (.pick (.t 44) (.t 47) (.c (.a (.p (.b false))))),
 ia 9 (.mv (.t 48))]) (.seq (.seq (.reg [
  ia 49 (.mv (.t 2))]) (.cond (.t 49) (.seq (.reg [
  ia 50 (.fad 0 (.t 3)),
 ia 51 (.ld 1 false (.t 50)),
 ia 52 (.bin .eql (.t 51) (ci 6)),
 ia 53 (.mv (.t 52)),
 ig 54 53 true (.fad 2 (.t 3)),
 ig 55 53 true (.ld 1 false (.t 54)),
 ig 56 53 true (.call (.f 86) [(.t 55)]),
 ia 57 (.pick (.t 53) (.t 56) (.c (.a (.p (.b false))))),
 ia 58 (.mv (.t 57)),
 ig 59 58 true (.fad 1 (.t 3)),
 ig 60 58 true (.ld 1 false (.t 59)),
 ig 61 58 true (.bin .geq (.t 60) (ci 0)),
 ia 62 (.pick (.t 58) (.t 61) (.c (.a (.p (.b false))))),
 ia 63 (.mv (.t 62)),
 ig 64 63 true (.fad 1 (.t 3)),
 ig 65 63 true (.ld 1 false (.t 64)),
 ig 66 63 true (.bin .leq (.t 65) (ci 8)),
 ia 67 (.pick (.t 63) (.t 66) (.c (.a (.p (.b false))))),
 ia 68 (.mv (.t 67)),
 ig 69 68 true (.mv (.t 7)),
 ig 70 68 true (.bin .eql (.t 69) (ci 1)),
 ia 71 (.pick (.t 68) (.t 70) (.c (.a (.p (.b false))))),
 ia 6 (.mv (.t 71))]) .ret) .skip)) (.seq (.seq (.reg [
  ia 72 (.fad 0 (.t 3)),
 ia 73 (.ld 1 false (.t 72))]) (.block 0 (.seq (.reg [
  ia 75 (.bin .eql (.t 73) (ci 1)),
 ia 74 (.mv (.t 75))]) (.cond (.t 74) (.seq (.reg [
  ia 76 (.fad 2 (.t 3)),
 ia 77 (.ld 1 false (.t 76)),
 ia 78 (.bin .eql (.t 77) (.c (.a (.p (.s []))))),
 ia 79 (.mv (.t 78)),
 ig 80 79 true (.mv (.t 7)),
 ig 81 79 true (.bin .eql (.t 80) (ci 0)),
 ia 82 (.pick (.t 79) (.t 81) (.c (.a (.p (.b false))))),
 ia 83 (.mv (.t 82)),
 ig 84 83 true (.fad 1 (.t 3)),
 ig 85 83 true (.ld 1 false (.t 84)),
 ig 86 83 true (.bin .geq (.t 85) (ci 0)),
 ia 87 (.pick (.t 83) (.t 86) (.c (.a (.p (.b false))))),
 ia 88 (.mv (.t 87)),
 ig 89 88 true (.fad 1 (.t 3)),
 ig 90 88 true (.ld 1 false (.t 89)),
 ig 91 88 true (.mv (.t 1)),
 ig 92 88 true (.bin .lss (.t 90) (.t 91)),
 ia 93 (.pick (.t 88) (.t 92) (.c (.a (.p (.b false))))),
 ia 6 (.mv (.t 93))]) .ret) (.seq (.reg [
  ia 95 (.bin .eql (.t 73) (ci 2)),
 ia 94 (.mv (.t 95))]) (.cond (.t 94) (.seq (.reg [
  ia 96 (.mv (.t 9)),
 ia 97 (.mv (.t 96)),
 ig 98 97 true (.mv (.t 7)),
 ig 99 97 true (.bin .eql (.t 98) (ci 1)),
 ia 100 (.pick (.t 97) (.t 99) (.c (.a (.p (.b false))))),
 ia 6 (.mv (.t 100))]) .ret) (.seq (.reg [
  ia 102 (.bin .eql (.t 73) (ci 3)),
 ia 101 (.mv (.t 102))]) (.cond (.t 101) (.seq (.reg [
  ia 103 (.mv (.t 9)),
 ia 104 (.mv (.t 103)),
 ig 105 104 true (.mv (.t 7)),
 ig 106 104 true (.bin .eql (.t 105) (ci 2)),
 ia 107 (.pick (.t 104) (.t 106) (.c (.a (.p (.b false))))),
 ia 6 (.mv (.t 107))]) .ret) (.seq (.reg [
  ia 109 (.bin .eql (.t 73) (ci 4)),
 ia 108 (.mv (.t 109))]) (.cond (.t 108) (.seq (.reg [
  ia 110 (.fad 2 (.t 3)),
 ia 111 (.ld 1 false (.t 110)),
 ia 112 (.call (.f 86) [(.t 111)]),
 ia 113 (.mv (.t 112)),
 ig 114 113 true (.fad 1 (.t 3)),
 ig 115 113 true (.ld 1 false (.t 114)),
 ig 116 113 true (.bin .eql (.t 115) (ci 0)),
 ia 117 (.pick (.t 113) (.t 116) (.c (.a (.p (.b false))))),
 ia 118 (.mv (.t 117)),
 ig 119 118 true (.mv (.t 7)),
 ig 120 118 true (.bin .leq (.t 119) (ci 8)),
 ia 121 (.pick (.t 118) (.t 120) (.c (.a (.p (.b false))))),
 ia 6 (.mv (.t 121))]) .ret) (.seq (.reg [
  ia 123 (.bin .eql (.t 73) (ci 5)),
 ia 122 (.mv (.t 123))]) (.cond (.t 122) (.seq (.reg [
  ia 124 (.mv (.t 9)),
 ia 125 (.mv (.t 124)),
 ig 126 125 true (.mv (.t 7)),
 ig 127 125 true (.bin .geq (.t 126) (ci 2)),
 ia 128 (.pick (.t 125) (.t 127) (.c (.a (.p (.b false))))),
 ia 129 (.mv (.t 128)),
 ig 130 129 true (.mv (.t 7)),
 ig 131 129 true (.bin .leq (.t 130) (ci 9)),
 ia 132 (.pick (.t 129) (.t 131) (.c (.a (.p (.b false))))),
 ia 6 (.mv (.t 132))]) .ret) (.seq (.reg [
  ia 134 (.bin .eql (.t 73) (ci 7)),
 ia 133 (.mv (.t 134))]) (.cond (.t 133) (.seq (.reg [
  ia 135 (.fad 2 (.t 3)),
 ia 136 (.ld 1 false (.t 135)),
 ia 137 (.bin .eql (.t 136) (.c (.a (.p (.s []))))),
 ia 138 (.mv (.t 137)),
 ig 139 138 true (.mv (.t 7)),
 ig 140 138 true (.bin .eql (.t 139) (ci 0)),
 ia 141 (.pick (.t 138) (.t 140) (.c (.a (.p (.b false))))),
 ia 6 (.mv (.t 141))]) .ret) (.seq (.reg [
  ia 143 (.bin .eql (.t 73) (ci 8)),
 ia 142 (.mv (.t 143))]) (.cond (.t 142) (.seq (.reg [
  ia 144 (.mv (.t 8)),
 ia 145 (.mv (.t 144)),
 ig 146 145 true (.fad 1 (.t 3)),
 ig 147 145 true (.ld 1 false (.t 146)),
 ig 148 145 true (.bin .eql (.t 147) (ci 0)),
 ia 149 (.pick (.t 145) (.t 148) (.c (.a (.p (.b false))))),
 ia 150 (.mv (.t 149)),
 ig 151 150 true (.mv (.t 7)),
 ig 152 150 true (.bin .eql (.t 151) (ci 2)),
 ia 153 (.pick (.t 150) (.t 152) (.c (.a (.p (.b false))))),
 ia 6 (.mv (.t 153))]) .ret) (.seq (.reg [
  ia 155 (.bin .eql (.t 73) (ci 9)),
 ia 154 (.mv (.t 155))]) (.cond (.t 154) (.seq (.reg [
  ia 156 (.mv (.t 9)),
 ia 157 (.mv (.t 156)),
 ig 158 157 true (.mv (.t 7)),
 ig 159 157 true (.bin .eql (.t 158) (ci 0)),
 ia 160 (.pick (.t 157) (.t 159) (.c (.a (.p (.b false))))),
 ia 6 (.mv (.t 160))]) .ret) .skip)))))))))))))))))) (.seq (.reg [
  ia 6 (.mv (.c (.a (.p (.b false)))))]) .ret))))))),[(.tmp 6)]⟩
theorem cc47 : ccF Tryz.prog [(42,[0,0]),(107,[1,0]),(74,[0,0]),(36,[0,0,0,0,0,0,0,0,0]),(160,[0,0]),(42,[9]),(105,[8]),(107,[8]),(75,[8]),(106,[8]),(79,[8])] Tryz.f47 = some (stripF F47) := by kernel_rfl
def F48 : FnC := ⟨2,(.seq (.reg [
  ia 2 (.box 2 (.t 0)),
 ia 3 (.box 6 (.t 1)),
 ia 4 (.new [.nil,(.p (.i .i64 0))]),
 ia 5 (.mv (ci 0)),
 ia 6 (.mv (ci 0))]) (.seq (.seq (.reg [
  ia 7 (.fad 1 (.t 3)),
 ia 8 (.ld 1 false (.t 7)),
 ia 9 (.bin .gtr (.t 8) (ci 60))]) (.cond (.t 9) (.seq (.reg [
  ia 10 (.ld 2 true (.t 2)),
 io (.st 2 (.t 4) (.t 10)),
 ia 5 (.mv (ci 0)),
 ia 6 (.mv (ci 141))]) .ret) .skip)) (.seq (.reg [
  ia 11 (.ld 2 true (.t 2)),
 ia 12 (.ld 6 true (.t 3)),
 ia 13 (.call (.f 87) [(.t 11),(.t 12)]),
 ia 14 (.ext (.t 13) 0),
 ia 15 (.ext (.t 13) 1),
 ia 16 (.ext (.t 13) 2),
 io (.st 2 (.t 4) (.t 14)),
 ia 5 (.mv (.t 15)),
 ia 6 (.mv (.t 16))]) .ret))),[(.cell 4 2 true),(.tmp 5),(.tmp 6)]⟩
theorem cc48 : ccF Tryz.prog [(42,[0,0]),(107,[1,0]),(74,[0,0]),(36,[0,0,0,0,0,0,0,0,0]),(160,[0,0]),(42,[9]),(105,[8]),(107,[8]),(75,[8]),(106,[8]),(79,[8])] Tryz.f48 = some (stripF F48) := by kernel_rfl
def F49b0 : C := (.seq (.seq (.reg [
  ia 95 (.mv (.t 17)),
 ia 96 (.fad 4 (.t 11)),
 ia 97 (.ld 1 false (.t 96)),
 ia 98 (.len false (.t 97)),
 ia 99 (.bin .lss (.t 95) (.t 98))]) (.cond (.t 99) .skip (.exit 0))) (.seq (.block 1 (.seq (.reg [
  ia 102 (.fad 4 (.t 11)),
 ia 103 (.ld 1 false (.t 102)),
 ia 104 (.mv (.t 17)),
 ia 105 (.ias 3 (.t 103) (.t 104)),
 ia 106 (.fad 0 (.t 105)),
 ia 107 (.ld 1 false (.t 106)),
 ia 108 (.bin .gtr (.t 107) (ci 0))]) (.cond (.t 108) (.reg [
  ir 109 (.mv (.t 16)),
 ir 110 (.fad 4 (.t 11)),
 ir 111 (.ld 1 false (.t 110)),
 ir 112 (.mv (.t 17)),
 ir 113 (.ias 3 (.t 111) (.t 112)),
 ir 114 (.fad 0 (.t 113)),
 ir 115 (.ld 1 false (.t 114)),
 ir 116 (.bin .sub (.t 115) (ci 1)),
 ir 117 (.fad 4 (.t 11)),
 ir 118 (.ld 1 false (.t 117)),
 ir 119 (.mv (.t 17)),
 ir 120 (.ias 3 (.t 118) (.t 119)),
 ir 121 (.fad 1 (.t 120)),
 ir 122 (.ld 2 true (.t 121)),
 ir 123 (.build [(.p (.i .i64 0)),(.p (.i .i64 0)),(.p (.i .i64 0))] [(0,(1,(.t 116))),(1,(2,(.t 122)))]),
 ⟨(.some 124),.none,(.bsl 3 104 [(.p (.i .i64 0)),(.p (.i .i64 0)),(.p (.i .i64 0))] 1 [(0,(.t 123))]),.ad⟩,
 ia 125 (.app 3 104 24 (.t 109) (.t 124)),
 ia 16 (.mv (.t 125))]) .skip))) (.reg [
  ia 100 (.mv (.t 17)),
 ia 101 (.bin .add (.t 100) (ci 1)),
 ia 17 (.mv (.t 101))])))
def F49 : FnC := ⟨4,(.seq (.reg [
  ia 4 (.box 2 (.t 0)),
 ia 5 (.box 4 (.t 1)),
 ia 8 (.new [.nil,(.p (.i .i64 0)),(.p (.i .i64 0)),(.p (.i .i64 0)),.nil,(.p (.i .i64 0))])]) (.seq (.seq (.reg [
  ia 18 (.mv (.t 2)),
 ia 19 (.bin .eql (.t 18) (ci 0))]) (.cond (.t 19) (.seq (.reg [
  ia 20 (.ld 2 true (.t 4)),
 ia 21 (.ld 4 true (.t 5)),
 ia 22 (.mv (.t 3)),
 ia 23 (.call (.f 26) [(.t 20),(.t 21),(.t 22)]),
 io (.st 6 (.t 8) (.t 23))]) .ret) .skip)) (.seq (.reg [
  ia 25 (.ld 2 true (.t 4)),
 ia 26 (.mv (.t 3)),
 ia 27 (.build [(.p (.i .i64 0)),(.p (.i .i64 0)),(.p (.i .i64 0)),(.p (.s [])),.nil,.nil] [(0,(1,(ci 2))),(1,(1,(.t 26)))]),
 ia 28 (.call (.f 48) [(.t 25),(.t 27)]),
 ia 24 (.mv (.t 28)),
 ia 29 (.ext (.t 24) 0),
 ia 30 (.ext (.t 24) 1),
 ia 31 (.ext (.t 24) 2),
 io (.st 2 (.t 4) (.t 29)),
 ia 9 (.mv (.t 30)),
 ia 10 (.mv (.t 31))]) (.seq (.seq (.reg [
  ia 32 (.mv (.t 10)),
 ia 33 (.bin .neq (.t 32) (ci 0))]) (.cond (.t 33) (.seq (.reg [
  ia 34 (.mv (.t 10)),
 ia 35 (.call (.f 88) [(.t 34)]),
 io (.st 6 (.t 8) (.t 35))]) .ret) .skip)) (.seq (.reg [
  ia 36 (.ld 2 true (.t 4)),
 ia 37 (.ld 4 true (.t 5)),
 ia 38 (.mv (.t 2)),
 ia 39 (.bin .sub (.t 38) (ci 1)),
 ia 40 (.mv (.t 3)),
 ia 41 (.call (.f 49) [(.t 36),(.t 37),(.t 39),(.t 40)]),
 ia 11 (.new [.nil,(.p (.i .i64 0)),(.p (.i .i64 0)),(.p (.i .i64 0)),.nil,(.p (.i .i64 0))]),
 io (.st 6 (.t 11) (.t 41))]) (.seq (.seq (.reg [
  ia 42 (.fad 5 (.t 11)),
 ia 43 (.ld 1 false (.t 42)),
 ia 44 (.bin .neq (.t 43) (ci 0))]) (.cond (.t 44) (.seq (.reg [
  ia 45 (.ld 6 true (.t 11)),
 io (.st 6 (.t 8) (.t 45))]) .ret) .skip)) (.seq (.reg [
  ir 46 (.fad 0 (.t 11)),
 ir 47 (.ld 2 true (.t 46)),
 ir 48 (.fad 2 (.t 11)),
 ir 49 (.ld 2 true (.t 48)),
 ir 50 (.mv (.t 9)),
 ir 51 (.call (.f 28) [(.t 50),(ci 1)]),
 ia 52 (.call (.f 27) [(.t 47),(.t 49),(.t 51)]),
 ia 53 (.fad 0 (.t 11)),
 io (.st 2 (.t 53) (.t 52))]) (.seq (.reg [
  ia 54 (.mv (.t 9)),
 ia 55 (.call (.f 28) [(.t 54),(ci 0)]),
 ia 56 (.fad 2 (.t 11)),
 io (.st 2 (.t 56) (.t 55))]) (.seq (.reg [
  ia 57 (.fad 4 (.t 11)),
 ia 58 (.ld 1 false (.t 57)),
 ia 59 (.call (.f 89) [(.t 58),(ci 0)]),
 ia 12 (.mv (.t 59))]) (.seq (.seq (.reg [
  ia 60 (.mv (.t 12)),
 ia 61 (.bin .geq (.t 60) (ci 0))]) (.cond (.t 61) (.reg [
  ir 62 (.fad 0 (.t 11)),
 ir 63 (.ld 2 true (.t 62)),
 ir 64 (.fad 4 (.t 11)),
 ir 65 (.ld 1 false (.t 64)),
 ir 66 (.mv (.t 12)),
 ir 67 (.ias 3 (.t 65) (.t 66)),
 ir 68 (.fad 1 (.t 67)),
 ir 69 (.ld 2 true (.t 68)),
 ir 70 (.mv (.t 9)),
 ir 71 (.call (.f 28) [(.t 70),(ci 2)]),
 ia 72 (.call (.f 27) [(.t 63),(.t 69),(.t 71)]),
 ia 73 (.fad 0 (.t 11)),
 io (.st 2 (.t 73) (.t 72))]) (.seq (.reg [
  ia 75 (.fad 0 (.t 11)),
 ia 76 (.ld 2 true (.t 75)),
 ia 77 (.mv (.t 3)),
 ia 78 (.build [(.p (.i .i64 0)),(.p (.i .i64 0)),(.p (.i .i64 0)),(.p (.s [])),.nil,.nil] [(0,(1,(ci 7))),(1,(1,(.t 77)))]),
 ia 79 (.call (.f 48) [(.t 76),(.t 78)]),
 ia 74 (.mv (.t 79)),
 ia 80 (.ext (.t 74) 0),
 ia 81 (.ext (.t 74) 1),
 ia 82 (.ext (.t 74) 2),
 ia 13 (.new [.nil,(.p (.i .i64 0))]),
 io (.st 2 (.t 13) (.t 80)),
 ia 14 (.mv (.t 81)),
 ia 15 (.mv (.t 82))]) (.seq (.seq (.reg [
  ia 83 (.mv (.t 15)),
 ia 84 (.bin .neq (.t 83) (ci 0))]) (.cond (.t 84) (.seq (.reg [
  ia 85 (.mv (.t 15)),
 ia 86 (.call (.f 88) [(.t 85)]),
 io (.st 6 (.t 8) (.t 86))]) .ret) .skip)) (.reg [
  ir 87 (.ld 2 true (.t 13)),
 ir 88 (.mv (.t 14)),
 ir 89 (.call (.f 28) [(.t 88),(ci 0)]),
 ir 90 (.mv (.t 9)),
 ir 91 (.call (.f 28) [(.t 90),(ci 2)]),
 ia 92 (.call (.f 27) [(.t 87),(.t 89),(.t 91)]),
 ia 93 (.fad 0 (.t 11)),
 io (.st 2 (.t 93) (.t 92))]))))) (.seq (.reg [
  ia 94 (.bsl 3 104 [(.p (.i .i64 0)),(.p (.i .i64 0)),(.p (.i .i64 0))] 0 []),
 ia 16 (.mv (.t 94))]) (.seq (.seq (.reg [
  ia 17 (.mv (ci 0))]) (.block 0 (.loop F49b0))) (.seq (.reg [
  ia 126 (.mv (.t 16)),
 ia 127 (.fad 4 (.t 11)),
 io (.st 1 (.t 127) (.t 126))]) (.seq (.reg [
  ia 128 (.ld 6 true (.t 11)),
 io (.st 6 (.t 8) (.t 128))]) .ret)))))))))))))),[(.cell 8 6 true)]⟩
theorem cc49 : ccF Tryz.prog [(42,[0,0]),(107,[1,0]),(74,[0,0]),(36,[0,0,0,0,0,0,0,0,0]),(160,[0,0]),(42,[9]),(105,[8]),(107,[8]),(75,[8]),(106,[8]),(79,[8])] Tryz.f49 = some (stripF F49) := by kernel_rfl
def F50b0 : C := (.seq (.seq (.reg [
  ia 26 (.mv (.t 10)),
 ia 27 (.fad 3 (.t 4)),
 ia 28 (.ld 1 false (.t 27)),
 ia 29 (.len false (.t 28)),
 ia 30 (.bin .lss (.t 26) (.t 29))]) (.cond (.t 30) .skip (.exit 0))) (.seq (.block 1 (.seq (.reg [
  ia 33 (.fad 0 (.t 9)),
 ia 34 (.ld 2 true (.t 33)),
 ia 35 (.ld 4 true (.t 4)),
 ia 36 (.mv (.t 10)),
 ia 37 (.fad 1 (.t 5)),
 ia 38 (.ld 1 false (.t 37)),
 ia 39 (.call (.f 90) [(.t 34),(.t 35),(.t 36),(.t 38)]),
 ia 11 (.new [.nil,(.p (.i .i64 0)),(.p (.i .i64 0)),(.p (.i .i64 0)),.nil,(.p (.i .i64 0))]),
 io (.st 6 (.t 11) (.t 39))]) (.seq (.seq (.reg [
  ia 40 (.fad 5 (.t 11)),
 ia 41 (.ld 1 false (.t 40)),
 ia 42 (.bin .neq (.t 41) (ci 0))]) (.cond (.t 42) (.seq (.reg [
  ia 43 (.fad 5 (.t 11)),
 ia 44 (.ld 1 false (.t 43)),
 ia 45 (.call (.f 88) [(.t 44)]),
 io (.st 6 (.t 6) (.t 45))]) .ret) .skip)) (.seq (.reg [
  ia 46 (.mv (.t 10)),
 ia 47 (.bin .add (.t 46) (ci 1)),
 ia 12 (.mv (.t 47))]) (.seq (.seq (.reg [
  ia 48 (.mv (.t 10)),
 ia 49 (.bin .eql (.t 48) (ci 0)),
 ia 50 (.mv (.t 49)),
 ig 51 50 true (.fad 0 (.t 4)),
 ig 52 50 true (.ld 1 false (.t 51)),
 ig 53 50 true (.bin .neq (.t 52) (ci 4)),
 ia 54 (.pick (.t 50) (.t 53) (.c (.a (.p (.b false)))))]) (.cond (.t 54) (.reg [
  ia 12 (.mv (ci 0))]) .skip)) (.seq (.reg [
  ir 55 (.fad 0 (.t 11)),
 ir 56 (.ld 2 true (.t 55)),
 ir 57 (.fad 2 (.t 11)),
 ir 58 (.ld 2 true (.t 57)),
 ir 59 (.mv (.t 7)),
 ir 60 (.mv (.t 12)),
 ir 61 (.call (.f 28) [(.t 59),(.t 60)]),
 ia 62 (.call (.f 27) [(.t 56),(.t 58),(.t 61)]),
 ia 63 (.fad 0 (.t 11)),
 io (.st 2 (.t 63) (.t 62))]) (.seq (.reg [
  ia 64 (.ld 6 true (.t 11)),
 ia 65 (.fad 4 (.t 9)),
 ia 66 (.ld 1 false (.t 65)),
 ia 67 (.fad 1 (.t 5)),
 ia 68 (.ld 1 false (.t 67)),
 ia 69 (.call (.f 91) [(.t 64),(.t 66),(.t 68)]),
 io (.st 6 (.t 9) (.t 69))]) (.seq (.reg [
  ia 70 (.fad 5 (.t 9)),
 ia 71 (.ld 1 false (.t 70)),
 ia 72 (.bin .neq (.t 71) (ci 0))]) (.cond (.t 72) (.seq (.reg [
  ia 73 (.fad 5 (.t 9)),
 ia 74 (.ld 1 false (.t 73)),
 ia 75 (.call (.f 88) [(.t 74)]),
 io (.st 6 (.t 6) (.t 75))]) .ret) .skip))))))))) (.reg [
  ia 31 (.mv (.t 10)),
 ia 32 (.bin .add (.t 31) (ci 1)),
 ia 10 (.mv (.t 32))])))
def F50 : FnC := ⟨3,(.seq (.reg [
  ia 3 (.box 2 (.t 0)),
 ia 4 (.box 4 (.t 1)),
 ia 5 (.box 6 (.t 2)),
 ia 6 (.new [.nil,(.p (.i .i64 0)),(.p (.i .i64 0)),(.p (.i .i64 0)),.nil,(.p (.i .i64 0))])]) (.seq (.reg [
  ia 14 (.ld 2 true (.t 3)),
 ia 15 (.ld 6 true (.t 5)),
 ia 16 (.call (.f 48) [(.t 14),(.t 15)]),
 ia 13 (.mv (.t 16)),
 ia 17 (.ext (.t 13) 0),
 ia 18 (.ext (.t 13) 1),
 ia 19 (.ext (.t 13) 2),
 io (.st 2 (.t 3) (.t 17)),
 ia 7 (.mv (.t 18)),
 ia 8 (.mv (.t 19))]) (.seq (.seq (.reg [
  ia 20 (.mv (.t 8)),
 ia 21 (.bin .neq (.t 20) (ci 0))]) (.cond (.t 21) (.seq (.reg [
  ia 22 (.mv (.t 8)),
 ia 23 (.call (.f 88) [(.t 22)]),
 io (.st 6 (.t 6) (.t 23))]) .ret) .skip)) (.seq (.reg [
  ia 24 (.ld 2 true (.t 3)),
 ia 25 (.build [.nil,(.p (.i .i64 0)),(.p (.i .i64 0)),(.p (.i .i64 0)),.nil,(.p (.i .i64 0))] [(0,(2,(.t 24)))]),
 ia 9 (.new [.nil,(.p (.i .i64 0)),(.p (.i .i64 0)),(.p (.i .i64 0)),.nil,(.p (.i .i64 0))]),
 io (.st 6 (.t 9) (.t 25))]) (.seq (.seq (.reg [
  ia 10 (.mv (ci 0))]) (.block 0 (.loop F50b0))) (.seq (.reg [
  ia 76 (.mv (.t 7)),
 ia 77 (.call (.f 28) [(.t 76),(ci 1)]),
 ia 78 (.fad 2 (.t 9)),
 io (.st 2 (.t 78) (.t 77))]) (.seq (.seq (.reg [
  ia 79 (.fad 0 (.t 4)),
 ia 80 (.ld 1 false (.t 79)),
 ia 81 (.bin .eql (.t 80) (ci 4))]) (.cond (.t 81) (.reg [
  ia 82 (.mv (.t 7)),
 ia 83 (.call (.f 28) [(.t 82),(ci 0)]),
 ia 84 (.fad 2 (.t 9)),
 io (.st 2 (.t 84) (.t 83))]) .skip)) (.seq (.reg [
  ia 85 (.ld 6 true (.t 9)),
 io (.st 6 (.t 6) (.t 85))]) .ret)))))))),[(.cell 6 6 true)]⟩
theorem cc50 : ccF Tryz.prog [(42,[0,0]),(107,[1,0]),(74,[0,0]),(36,[0,0,0,0,0,0,0,0,0]),(160,[0,0]),(42,[9]),(105,[8]),(107,[8]),(75,[8]),(106,[8]),(79,[8])] Tryz.f50 = some (stripF F50) := by kernel_rfl
def F51 : FnC := ⟨3,(.seq (.reg [
  ia 3 (.box 2 (.t 0)),
 ia 4 (.box 2 (.t 1)),
 ia 5 (.box 2 (.t 2)),
 ia 6 (.new [.nil,(.p (.i .i64 0))]),
 ia 7 (.mv (ci 0))]) (.seq (.seq (.reg [
  ia 8 (.ld 2 true (.t 3)),
 ia 9 (.ld 2 true (.t 4)),
 ia 10 (.call (.f 35) [(.t 8),(.t 9)]),
 ia 11 (.not (.t 10)),
 ia 12 (.mv (.t 11)),
 ig 13 12 false (.ld 2 true (.t 3)),
 ig 14 12 false (.ld 2 true (.t 5)),
 ig 15 12 false (.call (.f 35) [(.t 13),(.t 14)]),
 ig 16 12 false (.not (.t 15)),
 ia 17 (.pick (.t 12) (.c (.a (.p (.b true)))) (.t 16)),
 ia 18 (.mv (.t 17)),
 ig 19 18 false (.ld 2 true (.t 4)),
 ig 20 18 false (.ld 2 true (.t 5)),
 ig 21 18 false (.eqg false [0,0] (.t 19) (.t 20)),
 ia 22 (.pick (.t 18) (.c (.a (.p (.b true)))) (.t 21))]) (.cond (.t 22) (.seq (.reg [
  ia 23 (.ld 2 true (.t 3)),
 io (.st 2 (.t 6) (.t 23)),
 ia 7 (.mv (ci 130))]) .ret) .skip)) (.seq (.reg [
  ir 24 (.ld 2 true (.t 3)),
 ir 25 (.ld 2 true (.t 4)),
 ir 26 (.ld 2 true (.t 5)),
 ir 27 (.call (.f 92) [(.t 24),(.t 25),(.t 26)]),
 ir 28 (.ld 2 true (.t 5)),
 ir 29 (.ld 2 true (.t 4)),
 ia 30 (.call (.f 92) [(.t 27),(.t 28),(.t 29)]),
 io (.st 2 (.t 6) (.t 30)),
 ia 7 (.mv (ci 0))]) .ret))),[(.cell 6 2 true),(.tmp 7)]⟩
theorem cc51 : ccF Tryz.prog [(42,[0,0]),(107,[1,0]),(74,[0,0]),(36,[0,0,0,0,0,0,0,0,0]),(160,[0,0]),(42,[9]),(105,[8]),(107,[8]),(75,[8]),(106,[8]),(79,[8])] Tryz.f51 = some (stripF F51) := by kernel_rfl
def F52 : FnC := ⟨1,(.seq (.reg [
  ia 1 (.box 2 (.t 0)),
 ia 2 (.mv (.c (.a .nil)))]) (.seq (.reg [
  ia 3 (.new [.nil])]) (.seq (.seq (.reg [
  ia 5 (.ld 2 true (.t 1)),
 ia 6 (.call (.f 93) [(.t 5)])]) (.block 0 (.rng (.t 6) [7] (.reg [
  ia 4 (.new [(.p (.i .i64 0)),(.p (.i .i64 0))]),
 io (.st 2 (.t 4) (.t 7))]) (.block 1 (.seq (.reg [
  ia 8 (.ld 2 true (.t 1)),
 ia 9 (.ld 2 true (.t 4)),
 ia 10 (.call (.f 94) [(.t 8),(.t 9)])]) (.cond (.t 10) (.reg [
  ia 11 (.ld 1 false (.t 3)),
 ia 12 (.ld 2 true (.t 4)),
 ia 13 (.bsl 2 74 [(.p (.i .i64 0)),(.p (.i .i64 0))] 1 [(0,(.t 12))]),
 ia 14 (.app 2 74 16 (.t 11) (.t 13)),
 io (.st 1 (.t 3) (.t 14))]) .skip)))))) (.seq (.reg [
  ia 15 (.ld 1 false (.t 3)),
 ia 2 (.mv (.t 15))]) .ret)))),[(.tmp 2)]⟩
theorem cc52 : ccF Tryz.prog [(42,[0,0]),(107,[1,0]),(74,[0,0]),(36,[0,0,0,0,0,0,0,0,0]),(160,[0,0]),(42,[9]),(105,[8]),(107,[8]),(75,[8]),(106,[8]),(79,[8])] Tryz.f52 = some (stripF F52) := by kernel_rfl
def F53 : FnC := ⟨2,(.seq (.reg [
  ia 2 (.box 2 (.t 0)),
 ia 3 (.box 2 (.t 1)),
 ia 4 (.mv (ci 0)),
 ia 5 (.mv (.c (.a (.p (.b false))))),
 ia 6 (.mv (ci 0))]) (.seq (.reg [
  ia 8 (.ld 2 true (.t 2)),
 ia 9 (.ld 2 true (.t 3)),
 ia 10 (.call (.f 95) [(.t 8),(.t 9)]),
 ia 7 (.new [.nil,(.p (.i .i64 0)),(.p (.b false)),(.p (.i .i64 0))]),
 io (.st 4 (.t 7) (.t 10))]) (.seq (.reg [
  ir 11 (.fad 1 (.t 7)),
 ir 12 (.ld 1 false (.t 11)),
 ir 13 (.fad 2 (.t 7)),
 ir 14 (.ld 1 false (.t 13)),
 ir 15 (.fad 3 (.t 7)),
 ir 16 (.ld 1 false (.t 15)),
 ir 4 (.mv (.t 12)),
 ir 5 (.mv (.t 14)),
 ia 6 (.mv (.t 16))]) .ret))),[(.tmp 4),(.tmp 5),(.tmp 6)]⟩
theorem cc53 : ccF Tryz.prog [(42,[0,0]),(107,[1,0]),(74,[0,0]),(36,[0,0,0,0,0,0,0,0,0]),(160,[0,0]),(42,[9]),(105,[8]),(107,[8]),(75,[8]),(106,[8]),(79,[8])] Tryz.f53 = some (stripF F53) := by kernel_rfl
def F54 : FnC := ⟨1,(.seq (.reg [
  ia 1 (.box 2 (.t 0)),
 ia 2 (.mv (.c (.a .nil)))]) (.seq (.reg [
  ir 4 (.fad 0 (.t 1)),
 ir 5 (.ld 1 false (.t 4)),
 ir 6 (.fad 0 (.t 1)),
 ir 7 (.ld 1 false (.t 6)),
 ir 8 (.len false (.t 7)),
 ⟨(.some 9),.none,(.msl 1 4 1 [(.p (.b false))] (.t 8) (.t 8)),.ad⟩,
 ia 10 (.build [.nil,.nil,.nil] [(0,(1,(.t 5))),(1,(1,(.t 9)))]),
 ia 11 (.box 3 (.t 10)),
 ia 3 (.mv (.t 11))]) (.seq (.reg [
  ia 12 (.mv (.t 3)),
 ia 13 (.call (.f 96) [(.t 12),(ci 0)])]) (.seq (.reg [
  ia 14 (.mv (.t 3)),
 ia 15 (.nck (.t 14)),
 ia 16 (.fad 1 (.t 15)),
 ia 17 (.ld 1 false (.t 16)),
 ia 2 (.mv (.t 17))]) .ret)))),[(.tmp 2)]⟩
theorem cc54 : ccF Tryz.prog [(42,[0,0]),(107,[1,0]),(74,[0,0]),(36,[0,0,0,0,0,0,0,0,0]),(160,[0,0]),(42,[9]),(105,[8]),(107,[8]),(75,[8]),(106,[8]),(79,[8])] Tryz.f54 = some (stripF F54) := by kernel_rfl
def F55b0 : C := (.seq (.seq (.reg [
  ia 29 (.fad 0 (.t 2)),
 ia 30 (.ld 1 false (.t 29)),
 ia 31 (.len false (.t 30)),
 ia 32 (.bin .gtr (.t 31) (ci 0)),
 ia 33 (.mv (.t 32)),
 ig 34 33 true (.fad 0 (.t 2)),
 ig 35 33 true (.ld 1 false (.t 34)),
 ig 36 33 true (.fad 0 (.t 2)),
 ig 37 33 true (.ld 1 false (.t 36)),
 ig 38 33 true (.len false (.t 37)),
 ig 39 33 true (.bin .sub (.t 38) (ci 1)),
 ig 40 33 true (.ias 6 (.t 35) (.t 39)),
 ig 41 33 true (.ld 6 true (.t 40)),
 ig 42 33 true (.call (.f 69) [(.t 41)]),
 ia 43 (.pick (.t 33) (.t 42) (.c (.a (.p (.b false)))))]) (.cond (.t 43) .skip (.exit 0))) (.block 1 (.reg [
  ia 44 (.fad 0 (.t 2)),
 ia 45 (.ld 1 false (.t 44)),
 ia 46 (.fad 0 (.t 2)),
 ia 47 (.ld 1 false (.t 46)),
 ia 48 (.len false (.t 47)),
 ia 49 (.bin .sub (.t 48) (ci 1)),
 ia 50 (.slc 6 46 (.t 45) .none (.some (.t 49)) .none),
 ia 51 (.fad 0 (.t 2)),
 io (.st 1 (.t 51) (.t 50))])))
def F55 : FnC := ⟨2,(.seq (.reg [
  ia 2 (.box 2 (.t 0)),
 ia 4 (.new [.nil,(.p (.i .i64 0))]),
 ia 5 (.mv (ci 0))]) (.seq (.seq (.reg [
  ia 6 (.mv (.t 1)),
 ia 7 (.fad 0 (.t 2)),
 ia 8 (.ld 1 false (.t 7)),
 ia 9 (.len false (.t 8)),
 ia 10 (.bin .sub (.t 9) (ci 1)),
 ia 11 (.call (.f 56) [(.t 6),(ci 0),(.t 10)]),
 ia 12 (.not (.t 11)),
 ia 13 (.mv (.t 12)),
 ig 14 13 false (.fad 0 (.t 2)),
 ig 15 13 false (.ld 1 false (.t 14)),
 ig 16 13 false (.mv (.t 1)),
 ig 17 13 false (.ias 6 (.t 15) (.t 16)),
 ig 18 13 false (.ld 6 true (.t 17)),
 ig 19 13 false (.call (.f 69) [(.t 18)]),
 ia 20 (.pick (.t 13) (.c (.a (.p (.b true)))) (.t 19))]) (.cond (.t 20) (.seq (.reg [
  ia 21 (.ld 2 true (.t 2)),
 io (.st 2 (.t 4) (.t 21)),
 ia 5 (.mv (ci 122))]) .ret) .skip)) (.seq (.reg [
  ia 22 (.ld 2 true (.t 2)),
 ia 23 (.call (.f 97) [(.t 22)]),
 io (.st 2 (.t 2) (.t 23))]) (.seq (.reg [
  ia 24 (.fad 0 (.t 2)),
 ia 25 (.ld 1 false (.t 24)),
 ia 26 (.mv (.t 1)),
 ia 27 (.build [(.p (.i .i64 0)),(.p (.i .i64 0)),(.p (.i .i64 0)),(.p (.s [])),.nil,.nil] []),
 ia 28 (.ias 6 (.t 25) (.t 26)),
 io (.st 6 (.t 28) (.t 27))]) (.seq (.block 0 (.loop F55b0)) (.seq (.reg [
  ia 52 (.ld 2 true (.t 2)),
 io (.st 2 (.t 4) (.t 52)),
 ia 5 (.mv (ci 0))]) .ret)))))),[(.cell 4 2 true),(.tmp 5)]⟩
theorem cc55 : ccF Tryz.prog [(42,[0,0]),(107,[1,0]),(74,[0,0]),(36,[0,0,0,0,0,0,0,0,0]),(160,[0,0]),(42,[9]),(105,[8]),(107,[8]),(75,[8]),(106,[8]),(79,[8])] Tryz.f55 = some (stripF F55) := by kernel_rfl
def F56 : FnC := ⟨3,(.seq (.reg [
  ia 6 (.mv (.c (.a (.p (.b false)))))]) (.seq (.reg [
  ia 7 (.mv (.t 0)),
 ia 8 (.mv (.t 1)),
 ia 9 (.bin .geq (.t 7) (.t 8)),
 ia 10 (.mv (.t 9)),
 ig 11 10 true (.mv (.t 0)),
 ig 12 10 true (.mv (.t 2)),
 ig 13 10 true (.bin .leq (.t 11) (.t 12)),
 ia 14 (.pick (.t 10) (.t 13) (.c (.a (.p (.b false))))),
 ia 6 (.mv (.t 14))]) .ret)),[(.tmp 6)]⟩
theorem cc56 : ccF Tryz.prog [(42,[0,0]),(107,[1,0]),(74,[0,0]),(36,[0,0,0,0,0,0,0,0,0]),(160,[0,0]),(42,[9]),(105,[8]),(107,[8]),(75,[8]),(106,[8]),(79,[8])] Tryz.f56 = some (stripF F56) := by kernel_rfl
def F57 : FnC := ⟨1,(.seq (.reg [
  ia 1 (.box 6 (.t 0)),
 ia 2 (.mv (.c (.a (.p (.b false)))))]) (.seq (.seq (.reg [
  ia 6 (.fad 0 (.t 1)),
 ia 7 (.ld 1 false (.t 6)),
 ia 8 (.call (.f 56) [(.t 7),(ci 0),(ci 13)]),
 ia 9 (.not (.t 8)),
 ia 10 (.mv (.t 9)),
 ig 11 10 false (.ld 6 true (.t 1)),
 ig 12 10 false (.call (.f 98) [(.t 11)]),
 ig 13 10 false (.not (.t 12)),
 ia 14 (.pick (.t 10) (.c (.a (.p (.b true)))) (.t 13))]) (.cond (.t 14) (.seq (.reg [
  ia 2 (.mv (.c (.a (.p (.b false)))))]) .ret) .skip)) (.seq (.reg [
  ia 15 (.fad 0 (.t 1)),
 ia 16 (.ld 1 false (.t 15)),
 ia 17 (.bin .eql (.t 16) (ci 8)),
 ia 18 (.mv (.t 17)),
 ig 19 18 false (.fad 0 (.t 1)),
 ig 20 18 false (.ld 1 false (.t 19)),
 ig 21 18 false (.bin .eql (.t 20) (ci 11)),
 ia 22 (.pick (.t 18) (.c (.a (.p (.b true)))) (.t 21)),
 ia 23 (.mv (.t 22)),
 ig 24 23 false (.fad 0 (.t 1)),
 ig 25 23 false (.ld 1 false (.t 24)),
 ig 26 23 false (.bin .eql (.t 25) (ci 12)),
 ia 27 (.pick (.t 23) (.c (.a (.p (.b true)))) (.t 26)),
 ia 3 (.mv (.t 27))]) (.seq (.reg [
  ia 28 (.fad 0 (.t 1)),
 ia 29 (.ld 1 false (.t 28)),
 ia 30 (.bin .eql (.t 29) (ci 10)),
 ia 31 (.mv (.t 30)),
 ig 32 31 false (.fad 0 (.t 1)),
 ig 33 31 false (.ld 1 false (.t 32)),
 ig 34 31 false (.bin .eql (.t 33) (ci 12)),
 ia 35 (.pick (.t 31) (.c (.a (.p (.b true)))) (.t 34)),
 ia 4 (.mv (.t 35))]) (.seq (.reg [
  ia 5 (.mv (ci 60))]) (.seq (.seq (.reg [
  ia 36 (.fad 0 (.t 1)),
 ia 37 (.ld 1 false (.t 36)),
 ia 38 (.bin .eql (.t 37) (ci 0)),
 ia 39 (.mv (.t 38)),
 ig 40 39 false (.fad 0 (.t 1)),
 ig 41 39 false (.ld 1 false (.t 40)),
 ig 42 39 false (.bin .eql (.t 41) (ci 1)),
 ia 43 (.pick (.t 39) (.c (.a (.p (.b true)))) (.t 42))]) (.cond (.t 43) (.reg [
  ia 5 (.mv (ci 0))]) .skip)) (.seq (.reg [
  ia 44 (.fad 1 (.t 1)),
 ia 45 (.ld 1 false (.t 44)),
 ia 46 (.mv (.t 5)),
 ia 47 (.call (.f 56) [(.t 45),(ci 0),(.t 46)]),
 ia 48 (.mv (.t 47)),
 ig 49 48 true (.fad 3 (.t 1)),
 ig 50 48 true (.ld 1 false (.t 49)),
 ig 51 48 true (.bin .neq (.t 50) (.c (.a (.p (.s []))))),
 ig 52 48 true (.mv (.t 3)),
 ig 53 48 true (.eqb false (.t 51) (.t 52)),
 ia 54 (.pick (.t 48) (.t 53) (.c (.a (.p (.b false))))),
 ia 55 (.mv (.t 54)),
 ig 56 55 true (.fad 2 (.t 1)),
 ig 57 55 true (.ld 1 false (.t 56)),
 ig 58 55 true (.bin .eql (.t 57) (ci 0)),
 ig 59 55 true (.mv (.t 58)),
 ig 60 59 false (.mv (.t 4)),
 ig 61 55 true (.pick (.t 59) (.c (.a (.p (.b true)))) (.t 60)),
 ia 62 (.pick (.t 55) (.t 61) (.c (.a (.p (.b false))))),
 ia 63 (.mv (.t 62)),
 ig 64 63 true (.fad 0 (.t 1)),
 ig 65 63 true (.ld 1 false (.t 64)),
 ig 66 63 true (.bin .neq (.t 65) (ci 8)),
 ig 67 63 true (.mv (.t 66)),
 ig 68 67 false (.fad 5 (.t 1)),
 ig 69 67 false (.ld 1 false (.t 68)),
 ig 70 67 false (.len false (.t 69)),
 ig 71 67 false (.call (.f 56) [(.t 70),(ci 1),(ci 9)]),
 ig 72 63 true (.pick (.t 67) (.c (.a (.p (.b true)))) (.t 71)),
 ia 73 (.pick (.t 63) (.t 72) (.c (.a (.p (.b false))))),
 ia 2 (.mv (.t 73))]) .ret))))))),[(.tmp 2)]⟩
theorem cc57 : ccF Tryz.prog [(42,[0,0]),(107,[1,0]),(74,[0,0]),(36,[0,0,0,0,0,0,0,0,0]),(160,[0,0]),(42,[9]),(105,[8]),(107,[8]),(75,[8]),(106,[8]),(79,[8])] Tryz.f57 = some (stripF F57) := by kernel_rfl
def F58 : FnC := ⟨1,(.seq (.reg [
  ia 1 (.box 6 (.t 0)),
 ia 2 (.mv (ci 0))]) (.seq (.block 0 (.seq (.reg [
  ia 4 (.fad 0 (.t 1)),
 ia 5 (.ld 1 false (.t 4)),
 ia 6 (.bin .eql (.t 5) (ci 8)),
 ia 3 (.mv (.t 6))]) (.cond (.t 3) (.seq (.reg [
  ia 7 (.fad 5 (.t 1)),
 ia 8 (.ld 1 false (.t 7)),
 ia 9 (.len false (.t 8)),
 ia 2 (.mv (.t 9))]) .ret) (.seq (.reg [
  ia 11 (.fad 0 (.t 1)),
 ia 12 (.ld 1 false (.t 11)),
 ia 13 (.bin .eql (.t 12) (ci 9)),
 ia 10 (.mv (.t 13))]) (.cond (.t 10) (.seq (.reg [
  ia 14 (.fad 4 (.t 1)),
 ia 15 (.ld 1 false (.t 14)),
 ia 16 (.len false (.t 15)),
 ia 17 (.bin .add (ci 2) (.t 16)),
 ia 2 (.mv (.t 17))]) .ret) (.seq (.reg [
  ia 19 (.fad 0 (.t 1)),
 ia 20 (.ld 1 false (.t 19)),
 ia 21 (.call (.f 56) [(.t 20),(ci 0),(ci 13)]),
 ia 18 (.mv (.t 21))]) (.cond (.t 18) (.seq (.reg [
  ir 22 (.call (.f 99) []),
 ir 23 (.fad 0 (.t 1)),
 ir 24 (.ld 1 false (.t 23)),
 ia 25 (.ixa 14 1 false (.t 22) (.t 24)),
 ia 2 (.mv (.t 25))]) .ret) .skip))))))) (.seq (.reg [
  ia 2 (.mv (ci 0))]) .ret))),[(.tmp 2)]⟩
theorem cc58 : ccF Tryz.prog [(42,[0,0]),(107,[1,0]),(74,[0,0]),(36,[0,0,0,0,0,0,0,0,0]),(160,[0,0]),(42,[9]),(105,[8]),(107,[8]),(75,[8]),(106,[8]),(79,[8])] Tryz.f58 = some (stripF F58) := by kernel_rfl
def F59 : FnC := ⟨2,(.seq (.reg [
  ia 2 (.box 2 (.t 0)),
 ia 3 (.box 2 (.t 1)),
 ia 4 (.mv (.c (.a (.p (.b false)))))]) (.seq (.reg [
  ir 6 (.fad 0 (.t 2)),
 ir 7 (.ld 1 false (.t 6)),
 ir 8 (.fad 0 (.t 3)),
 ir 9 (.ld 1 false (.t 8)),
 ir 10 (.ias 6 (.t 7) (.t 9)),
 ir 11 (.fad 5 (.t 10)),
 ir 12 (.ld 1 false (.t 11)),
 ir 13 (.fad 1 (.t 3)),
 ir 14 (.ld 1 false (.t 13)),
 ir 15 (.ias 2 (.t 12) (.t 14)),
 ir 16 (.ld 2 true (.t 15)),
 ⟨(.some 5),.none,(.new [(.p (.i .i64 0)),(.p (.i .i64 0))]),.ad⟩,
 io (.st 2 (.t 5) (.t 16))]) (.seq (.seq (.reg [
  ir 17 (.ld 2 true (.t 5)),
 ir 18 (.ld 2 true (.t 3)),
 ia 19 (.eqg false [0,0] (.t 17) (.t 18)),
 ia 20 (.mv (.t 19)),
 ih 21 20 false (.fad 0 (.t 5)),
 ih 22 20 false (.ld 1 false (.t 21)),
 ih 23 20 false (.fad 0 (.t 2)),
 ih 24 20 false (.ld 1 false (.t 23)),
 ih 25 20 false (.len false (.t 24)),
 ih 26 20 false (.bin .sub (.t 25) (ci 1)),
 ig 27 20 false (.call (.f 56) [(.t 22),(ci 0),(.t 26)]),
 ig 28 20 false (.not (.t 27)),
 ia 29 (.pick (.t 20) (.c (.a (.p (.b true)))) (.t 28)),
 ia 30 (.mv (.t 29)),
 ih 31 30 false (.fad 1 (.t 5)),
 ih 32 30 false (.ld 1 false (.t 31)),
 ih 33 30 false (.fad 0 (.t 2)),
 ih 34 30 false (.ld 1 false (.t 33)),
 ih 35 30 false (.fad 0 (.t 5)),
 ih 36 30 false (.ld 1 false (.t 35)),
 ih 37 30 false (.ias 6 (.t 34) (.t 36)),
 ih 38 30 false (.fad 5 (.t 37)),
 ih 39 30 false (.ld 1 false (.t 38)),
 ih 40 30 false (.len false (.t 39)),
 ih 41 30 false (.bin .sub (.t 40) (ci 1)),
 ig 42 30 false (.call (.f 56) [(.t 32),(ci 0),(.t 41)]),
 ig 43 30 false (.not (.t 42)),
 ia 44 (.pick (.t 30) (.c (.a (.p (.b true)))) (.t 43))]) (.cond (.t 44) (.seq (.reg [
  ia 4 (.mv (.c (.a (.p (.b false)))))]) .ret) .skip)) (.seq (.reg [
  ir 45 (.fad 0 (.t 2)),
 ir 46 (.ld 1 false (.t 45)),
 ir 47 (.fad 0 (.t 5)),
 ir 48 (.ld 1 false (.t 47)),
 ir 49 (.ias 6 (.t 46) (.t 48)),
 ir 50 (.fad 5 (.t 49)),
 ir 51 (.ld 1 false (.t 50)),
 ir 52 (.fad 1 (.t 5)),
 ir 53 (.ld 1 false (.t 52)),
 ir 54 (.ias 2 (.t 51) (.t 53)),
 ir 55 (.ld 2 true (.t 54)),
 ir 56 (.ld 2 true (.t 3)),
 ia 57 (.eqg false [0,0] (.t 55) (.t 56)),
 ia 4 (.mv (.t 57))]) .ret)))),[(.tmp 4)]⟩
theorem cc59 : ccF Tryz.prog [(42,[0,0]),(107,[1,0]),(74,[0,0]),(36,[0,0,0,0,0,0,0,0,0]),(160,[0,0]),(42,[9]),(105,[8]),(107,[8]),(75,[8]),(106,[8]),(79,[8])] Tryz.f59 = some (stripF F59) := by kernel_rfl
def F60 : FnC := ⟨2,(.seq (.reg [
  ia 2 (.box 2 (.t 0)),
 ia 3 (.box 2 (.t 1)),
 ia 4 (.new [(.p (.i .i64 0)),(.p (.i .i64 0))]),
 ia 5 (.mv (ci 0))]) (.seq (.reg [
  ia 7 (.ld 2 true (.t 2)),
 ia 8 (.build [.nil,(.p (.i .i64 0))] [(0,(2,(.t 7)))]),
 ia 6 (.new [.nil,(.p (.i .i64 0))]),
 io (.st 2 (.t 6) (.t 8))]) (.seq (.seq (.reg [
  ia 9 (.ld 2 true (.t 6)),
 ia 10 (.ld 2 true (.t 3)),
 ia 11 (.bsl 2 42 [(.p (.i .i64 0)),(.p (.i .i64 0))] 1 [(0,(.t 10))]),
 ia 12 (.call (.f 100) [(.t 9),(.t 11)]),
 ia 13 (.not (.t 12))]) (.cond (.t 13) (.seq (.reg [
  ia 14 (.build [(.p (.i .i64 0)),(.p (.i .i64 0))] []),
 io (.st 2 (.t 4) (.t 14)),
 ia 5 (.mv (ci 130))]) .ret) .skip)) (.seq (.reg [
  ia 15 (.ld 2 true (.t 6)),
 ia 16 (.ld 2 true (.t 3)),
 ia 17 (.call (.f 101) [(.t 15),(.t 16)]),
 io (.st 2 (.t 4) (.t 17)),
 ia 5 (.mv (ci 0))]) .ret)))),[(.cell 4 2 true),(.tmp 5)]⟩
theorem cc60 : ccF Tryz.prog [(42,[0,0]),(107,[1,0]),(74,[0,0]),(36,[0,0,0,0,0,0,0,0,0]),(160,[0,0]),(42,[9]),(105,[8]),(107,[8]),(75,[8]),(106,[8]),(79,[8])] Tryz.f60 = some (stripF F60) := by kernel_rfl
def F61 : FnC := ⟨2,(.seq (.reg [
  ia 4 (.new [(.p (.i .i64 0)),(.p (.i .i64 0))])]) (.seq (.reg [
  ia 5 (.mv (.t 0)),
 ia 6 (.mv (.t 1)),
 ia 7 (.build [(.p (.i .i64 0)),(.p (.i .i64 0))] [(0,(1,(.t 5))),(1,(1,(.t 6)))]),
 io (.st 2 (.t 4) (.t 7))]) .ret)),[(.cell 4 2 true)]⟩
theorem cc61 : ccF Tryz.prog [(42,[0,0]),(107,[1,0]),(74,[0,0]),(36,[0,0,0,0,0,0,0,0,0]),(160,[0,0]),(42,[9]),(105,[8]),(107,[8]),(75,[8]),(106,[8]),(79,[8])] Tryz.f61 = some (stripF F61) := by kernel_rfl
def F62 : FnC := ⟨4,(.seq (.reg [
  ia 6 (.mv (.c (.a (.p (.b false)))))]) (.seq (.reg [
  ia 7 (.fad 0 (.t 2)),
 ia 8 (.ld 1 false (.t 7)),
 ia 9 (.call (.f 63) [(.t 8)]),
 ia 10 (.mv (.t 0)),
 ia 11 (.bin .eql (.t 9) (.t 10)),
 ia 12 (.mv (.t 11)),
 ig 13 12 true (.fad 0 (.t 3)),
 ig 14 12 true (.ld 1 false (.t 13)),
 ig 15 12 true (.call (.f 63) [(.t 14)]),
 ig 16 12 true (.mv (.t 1)),
 ig 17 12 true (.bin .eql (.t 15) (.t 16)),
 ia 18 (.pick (.t 12) (.t 17) (.c (.a (.p (.b false))))),
 ia 6 (.mv (.t 18))]) .ret)),[(.tmp 6)]⟩
theorem cc62 : ccF Tryz.prog [(42,[0,0]),(107,[1,0]),(74,[0,0]),(36,[0,0,0,0,0,0,0,0,0]),(160,[0,0]),(42,[9]),(105,[8]),(107,[8]),(75,[8]),(106,[8]),(79,[8])] Tryz.f62 = some (stripF F62) := by kernel_rfl
def F63 : FnC := ⟨1,(.seq (.reg [
  ia 2 (.mv (ci 0))]) (.seq (.seq (.reg [
  ia 3 (.mv (.t 0))]) (.block 0 (.seq (.seq (.reg [
  ia 5 (.bin .eql (.t 3) (ci 3)),
 ia 4 (.mv (.t 5))]) (.cond (.t 4) .skip (.seq (.reg [
  ia 6 (.bin .eql (.t 3) (ci 9)),
 ia 4 (.mv (.t 6))]) (.cond (.t 4) .skip (.seq (.reg [
  ia 7 (.bin .eql (.t 3) (ci 11)),
 ia 4 (.mv (.t 7))]) (.cond (.t 4) .skip (.reg [
  ia 8 (.bin .eql (.t 3) (ci 12)),
 ia 4 (.mv (.t 8))]))))))) (.cond (.t 4) (.seq (.reg [
  ia 2 (.mv (ci 1))]) .ret) (.seq (.seq (.reg [
  ia 10 (.bin .eql (.t 3) (ci 2)),
 ia 9 (.mv (.t 10))]) (.cond (.t 9) .skip (.seq (.reg [
  ia 11 (.bin .eql (.t 3) (ci 8)),
 ia 9 (.mv (.t 11))]) (.cond (.t 9) .skip (.seq (.reg [
  ia 12 (.bin .eql (.t 3) (ci 10)),
 ia 9 (.mv (.t 12))]) (.cond (.t 9) .skip (.reg [
  ia 13 (.bin .eql (.t 3) (ci 13)),
 ia 9 (.mv (.t 13))]))))))) (.cond (.t 9) (.seq (.reg [
  ia 2 (.mv (ci 2))]) .ret) (.seq (.seq (.reg [
  ia 15 (.bin .eql (.t 3) (ci 4)),
 ia 14 (.mv (.t 15))]) (.cond (.t 14) .skip (.seq (.reg [
  ia 16 (.bin .eql (.t 3) (ci 5)),
 ia 14 (.mv (.t 16))]) (.cond (.t 14) .skip (.reg [
  ia 17 (.bin .eql (.t 3) (ci 6)),
 ia 14 (.mv (.t 17))]))))) (.cond (.t 14) (.seq (.reg [
  ia 2 (.mv (ci 3))]) .ret) (.seq (.reg [
  ia 19 (.bin .eql (.t 3) (ci 7)),
 ia 18 (.mv (.t 19))]) (.cond (.t 18) (.seq (.reg [
  ia 2 (.mv (ci 4))]) .ret) .skip)))))))))) (.seq (.reg [
  ia 2 (.mv (ci 0))]) .ret))),[(.tmp 2)]⟩
theorem cc63 : ccF Tryz.prog [(42,[0,0]),(107,[1,0]),(74,[0,0]),(36,[0,0,0,0,0,0,0,0,0]),(160,[0,0]),(42,[9]),(105,[8]),(107,[8]),(75,[8]),(106,[8]),(79,[8])] Tryz.f63 = some (stripF F63) := by kernel_rfl
def tblA : List (FuncId × FnC) := [(6,F6),(7,F7),(10,F10),(11,F11),(12,F12),(13,F13),(15,F15),(16,F16),(17,F17),(18,F18),(19,F19),(21,F21),(23,F23),(25,F25),(26,F26),(27,F27),(28,F28),(29,F29),(30,F30),(31,F31),(32,F32),(33,F33),(34,F34),(35,F35),(36,F36),(37,F37),(38,F38),(39,F39),(40,F40),(41,F41),(42,F42),(45,F45),(46,F46),(47,F47),(48,F48),(49,F49),(50,F50),(51,F51),(52,F52),(53,F53),(54,F54),(55,F55),(56,F56),(57,F57),(58,F58),(59,F59),(60,F60),(61,F61),(62,F62),(63,F63)]
theorem tblOkA : ∀ x,x ∈ tblA → ∃ fn,Tryz.prog.funcs[x.1]? = some fn ∧ ccF Tryz.prog [(42,[0,0]),(107,[1,0]),(74,[0,0]),(36,[0,0,0,0,0,0,0,0,0]),(160,[0,0]),(42,[9]),(105,[8]),(107,[8]),(75,[8]),(106,[8]),(79,[8])] fn = some (stripF x.2) := by
  intro x hx
  simp only [tblA,List.mem_cons,List.not_mem_nil,or_false] at hx
  rcases hx with rfl | rfl | rfl | rfl | rfl | rfl | rfl | rfl | rfl | rfl | rfl | rfl | rfl | rfl | rfl | rfl | rfl | rfl | rfl | rfl | rfl | rfl | rfl | rfl | rfl | rfl | rfl | rfl | rfl | rfl | rfl | rfl | rfl | rfl | rfl | rfl | rfl | rfl | rfl | rfl | rfl | rfl | rfl | rfl | rfl | rfl | rfl | rfl | rfl | rfl
  · exact ⟨_,Tryz.func6,cc6⟩
  · exact ⟨_,Tryz.func7,cc7⟩
  · exact ⟨_,Tryz.func10,cc10⟩
  · exact ⟨_,Tryz.func11,cc11⟩
  · exact ⟨_,Tryz.func12,cc12⟩
  · exact ⟨_,Tryz.func13,cc13⟩
  · exact ⟨_,Tryz.func15,cc15⟩
  · exact ⟨_,Tryz.func16,cc16⟩
  · exact ⟨_,Tryz.func17,cc17⟩
  · exact ⟨_,Tryz.func18,cc18⟩
  · exact ⟨_,Tryz.func19,cc19⟩
  · exact ⟨_,Tryz.func21,cc21⟩
  · exact ⟨_,Tryz.func23,cc23⟩
  · exact ⟨_,Tryz.func25,cc25⟩
  · exact ⟨_,Tryz.func26,cc26⟩
  · exact ⟨_,Tryz.func27,cc27⟩
  · exact ⟨_,Tryz.func28,cc28⟩
  · exact ⟨_,Tryz.func29,cc29⟩
  · exact ⟨_,Tryz.func30,cc30⟩
  · exact ⟨_,Tryz.func31,cc31⟩
  · exact ⟨_,Tryz.func32,cc32⟩
  · exact ⟨_,Tryz.func33,cc33⟩
  · exact ⟨_,Tryz.func34,cc34⟩
  · exact ⟨_,Tryz.func35,cc35⟩
  · exact ⟨_,Tryz.func36,cc36⟩
  · exact ⟨_,Tryz.func37,cc37⟩
  · exact ⟨_,Tryz.func38,cc38⟩
  · exact ⟨_,Tryz.func39,cc39⟩
  · exact ⟨_,Tryz.func40,cc40⟩
  · exact ⟨_,Tryz.func41,cc41⟩
  · exact ⟨_,Tryz.func42,cc42⟩
  · exact ⟨_,Tryz.func45,cc45⟩
  · exact ⟨_,Tryz.func46,cc46⟩
  · exact ⟨_,Tryz.func47,cc47⟩
  · exact ⟨_,Tryz.func48,cc48⟩
  · exact ⟨_,Tryz.func49,cc49⟩
  · exact ⟨_,Tryz.func50,cc50⟩
  · exact ⟨_,Tryz.func51,cc51⟩
  · exact ⟨_,Tryz.func52,cc52⟩
  · exact ⟨_,Tryz.func53,cc53⟩
  · exact ⟨_,Tryz.func54,cc54⟩
  · exact ⟨_,Tryz.func55,cc55⟩
  · exact ⟨_,Tryz.func56,cc56⟩
  · exact ⟨_,Tryz.func57,cc57⟩
  · exact ⟨_,Tryz.func58,cc58⟩
  · exact ⟨_,Tryz.func59,cc59⟩
  · exact ⟨_,Tryz.func60,cc60⟩
  · exact ⟨_,Tryz.func61,cc61⟩
  · exact ⟨_,Tryz.func62,cc62⟩
  · exact ⟨_,Tryz.func63,cc63⟩
end Go.Proofs.YtmlhgalboabjcaaGreat
namespace Go.Proofs.YtmlhgalboabjcaaGreat
open Go.Fx
def F64 : FnC := ⟨3,(.seq (.reg [
  ia 4 (.mv (.c (.a (.p (.b false)))))]) (.seq (.reg [
  ia 5 (.fad 0 (.t 1)),
 ia 6 (.ld 1 false (.t 5)),
 ia 7 (.call (.f 63) [(.t 6)]),
 ia 8 (.mv (.t 0)),
 ia 9 (.bin .eql (.t 7) (.t 8)),
 ia 10 (.mv (.t 9)),
 ig 11 10 false (.fad 0 (.t 2)),
 ig 12 10 false (.ld 1 false (.t 11)),
 ig 13 10 false (.call (.f 63) [(.t 12)]),
 ig 14 10 false (.mv (.t 0)),
 ig 15 10 false (.bin .eql (.t 13) (.t 14)),
 ia 16 (.pick (.t 10) (.c (.a (.p (.b true)))) (.t 15)),
 ia 4 (.mv (.t 16))]) .ret)),[(.tmp 4)]⟩
theorem cc64 : ccF Tryz.prog [(42,[0,0]),(107,[1,0]),(74,[0,0]),(36,[0,0,0,0,0,0,0,0,0]),(160,[0,0]),(42,[9]),(105,[8]),(107,[8]),(75,[8]),(106,[8]),(79,[8])] Tryz.f64 = some (stripF F64) := by kernel_rfl
def F65 : FnC := ⟨1,(.seq (.reg [
  ia 2 (.new [(.p (.i .i64 0)),(.p (.b false)),(.p (.i .i64 0)),(.p (.i .i64 0)),(.p (.i .i64 0)),(.p (.i .i64 0)),(.p (.i .i64 0)),(.p (.s [])),.nil,.nil]),
 ia 3 (.mv (ci 0))]) (.seq (.reg [
  ia 4 (.mv (.t 0)),
 ia 5 (.build [(.p (.i .i64 0)),(.p (.b false)),(.p (.i .i64 0)),(.p (.i .i64 0)),(.p (.i .i64 0)),(.p (.i .i64 0)),(.p (.i .i64 0)),(.p (.s [])),.nil,.nil] [(0,(1,(.t 4)))]),
 io (.st 10 (.t 2) (.t 5)),
 ia 3 (.mv (ci 0))]) .ret)),[(.cell 2 10 true),(.tmp 3)]⟩
theorem cc65 : ccF Tryz.prog [(42,[0,0]),(107,[1,0]),(74,[0,0]),(36,[0,0,0,0,0,0,0,0,0]),(160,[0,0]),(42,[9]),(105,[8]),(107,[8]),(75,[8]),(106,[8]),(79,[8])] Tryz.f65 = some (stripF F65) := by kernel_rfl
def F66 : FnC := ⟨2,(.seq (.reg [
  ia 2 (.box 10 (.t 0)),
 ia 4 (.new [(.p (.i .i64 0)),(.p (.b false)),(.p (.i .i64 0)),(.p (.i .i64 0)),(.p (.i .i64 0)),(.p (.i .i64 0)),(.p (.i .i64 0)),(.p (.s [])),.nil,.nil]),
 ia 5 (.mv (ci 0))]) (.seq (.seq (.reg [
  ia 6 (.mv (.t 1)),
 ia 7 (.bin .eql (.t 6) (ci 0))]) (.cond (.t 7) (.reg [
  ia 8 (.fad 1 (.t 2)),
 io (.st 1 (.t 8) (.c (.a (.p (.b true)))))]) .skip)) (.seq (.reg [
  ia 9 (.ld 10 true (.t 2)),
 ia 10 (.mv (.t 1)),
 io (.st 10 (.t 4) (.t 9)),
 ia 5 (.mv (.t 10))]) .ret))),[(.cell 4 10 true),(.tmp 5)]⟩
theorem cc66 : ccF Tryz.prog [(42,[0,0]),(107,[1,0]),(74,[0,0]),(36,[0,0,0,0,0,0,0,0,0]),(160,[0,0]),(42,[9]),(105,[8]),(107,[8]),(75,[8]),(106,[8]),(79,[8])] Tryz.f66 = some (stripF F66) := by kernel_rfl
def F67 : FnC := ⟨2,(.seq (.reg [
  ia 2 (.box 6 (.t 0)),
 ia 3 (.box 6 (.t 1)),
 ia 4 (.new [(.p (.i .i64 0)),(.p (.b false)),(.p (.i .i64 0)),(.p (.i .i64 0)),(.p (.i .i64 0)),(.p (.i .i64 0)),(.p (.i .i64 0)),(.p (.s [])),.nil,.nil]),
 ia 5 (.mv (ci 0))]) (.seq (.reg [
  ia 7 (.fad 1 (.t 3)),
 ia 8 (.ld 1 false (.t 7)),
 ia 9 (.build [(.p (.i .i64 0)),(.p (.b false)),(.p (.i .i64 0)),(.p (.i .i64 0)),(.p (.i .i64 0)),(.p (.i .i64 0)),(.p (.i .i64 0)),(.p (.s [])),.nil,.nil] [(0,(1,(ci 7))),(2,(1,(.t 8)))]),
 ia 6 (.new [(.p (.i .i64 0)),(.p (.b false)),(.p (.i .i64 0)),(.p (.i .i64 0)),(.p (.i .i64 0)),(.p (.i .i64 0)),(.p (.i .i64 0)),(.p (.s [])),.nil,.nil]),
 io (.st 10 (.t 6) (.t 9))]) (.seq (.seq (.reg [
  ia 10 (.fad 0 (.t 2)),
 ia 11 (.ld 1 false (.t 10))]) (.block 0 (.seq (.reg [
  ia 13 (.bin .eql (.t 11) (ci 5)),
 ia 12 (.mv (.t 13))]) (.cond (.t 12) (.reg [
  ia 14 (.fad 2 (.t 6)),
 ia 15 (.ld 1 false (.t 14)),
 ia 16 (.bin .sub (.t 15) (ci 1)),
 ia 17 (.fad 2 (.t 6)),
 io (.st 1 (.t 17) (.t 16))]) (.seq (.reg [
  ia 19 (.bin .eql (.t 11) (ci 6)),
 ia 18 (.mv (.t 19))]) (.cond (.t 18) (.reg [
  ia 20 (.fad 2 (.t 6)),
 ia 21 (.ld 1 false (.t 20)),
 ia 22 (.bin .add (.t 21) (ci 1)),
 ia 23 (.fad 2 (.t 6)),
 io (.st 1 (.t 23) (.t 22))]) .skip)))))) (.seq (.block 1 (.seq (.reg [
  ia 25 (.fad 1 (.t 2)),
 ia 26 (.ld 1 false (.t 25)),
 ia 27 (.fad 1 (.t 3)),
 ia 28 (.ld 1 false (.t 27)),
 ia 29 (.bin .geq (.t 26) (.t 28)),
 ia 24 (.mv (.t 29))]) (.cond (.t 24) (.seq (.reg [
  ia 30 (.build [(.p (.i .i64 0)),(.p (.b false)),(.p (.i .i64 0)),(.p (.i .i64 0)),(.p (.i .i64 0)),(.p (.i .i64 0)),(.p (.i .i64 0)),(.p (.s [])),.nil,.nil] []),
 io (.st 10 (.t 4) (.t 30)),
 ia 5 (.mv (ci 140))]) .ret) (.seq (.reg [
  ia 32 (.fad 2 (.t 6)),
 ia 33 (.ld 1 false (.t 32)),
 ia 34 (.bin .gtr (.t 33) (ci 60)),
 ia 31 (.mv (.t 34))]) (.cond (.t 31) (.seq (.reg [
  ia 35 (.build [(.p (.i .i64 0)),(.p (.b false)),(.p (.i .i64 0)),(.p (.i .i64 0)),(.p (.i .i64 0)),(.p (.i .i64 0)),(.p (.i .i64 0)),(.p (.s [])),.nil,.nil] []),
 io (.st 10 (.t 4) (.t 35)),
 ia 5 (.mv (ci 141))]) .ret) .skip))))) (.seq (.reg [
  ia 36 (.ld 10 true (.t 6)),
 io (.st 10 (.t 4) (.t 36)),
 ia 5 (.mv (ci 0))]) .ret))))),[(.cell 4 10 true),(.tmp 5)]⟩
theorem cc67 : ccF Tryz.prog [(42,[0,0]),(107,[1,0]),(74,[0,0]),(36,[0,0,0,0,0,0,0,0,0]),(160,[0,0]),(42,[9]),(105,[8]),(107,[8]),(75,[8]),(106,[8]),(79,[8])] Tryz.f67 = some (stripF F67) := by kernel_rfl
def F68 : FnC := ⟨2,(.seq (.reg [
  ia 2 (.box 6 (.t 0)),
 ia 3 (.box 6 (.t 1)),
 ia 4 (.new [(.p (.i .i64 0)),(.p (.b false)),(.p (.i .i64 0)),(.p (.i .i64 0)),(.p (.i .i64 0)),(.p (.i .i64 0)),(.p (.i .i64 0)),(.p (.s [])),.nil,.nil]),
 ia 5 (.mv (ci 0))]) (.seq (.seq (.reg [
  ia 7 (.fad 0 (.t 2)),
 ia 8 (.ld 1 false (.t 7)),
 ia 9 (.fad 0 (.t 3)),
 ia 10 (.ld 1 false (.t 9)),
 ia 11 (.build [(.p (.i .i64 0)),(.p (.i .i64 0))] [(0,(1,(.t 8))),(1,(1,(.t 10)))]),
 ia 6 (.new [(.p (.i .i64 0)),(.p (.i .i64 0))]),
 io (.st 2 (.t 6) (.t 11))]) (.block 0 (.seq (.reg [
  ia 13 (.ld 2 true (.t 6)),
 ia 14 (.build [(.p (.i .i64 0)),(.p (.i .i64 0))] [(0,(1,(ci 3))),(1,(1,(ci 2)))]),
 ia 15 (.eqg false [0,0] (.t 13) (.t 14)),
 ia 12 (.mv (.t 15))]) (.cond (.t 12) (.seq (.seq (.reg [
  ia 16 (.fad 1 (.t 2)),
 ia 17 (.ld 1 false (.t 16)),
 ia 18 (.fad 1 (.t 3)),
 ia 19 (.ld 1 false (.t 18)),
 ia 20 (.bin .neq (.t 17) (.t 19))]) (.cond (.t 20) (.seq (.reg [
  ia 21 (.build [(.p (.i .i64 0)),(.p (.b false)),(.p (.i .i64 0)),(.p (.i .i64 0)),(.p (.i .i64 0)),(.p (.i .i64 0)),(.p (.i .i64 0)),(.p (.s [])),.nil,.nil] []),
 io (.st 10 (.t 4) (.t 21)),
 ia 5 (.mv (ci 140))]) .ret) .skip)) (.seq (.reg [
  ia 22 (.call (.f 65) [(ci 1)]),
 ia 23 (.ext (.t 22) 0),
 ia 24 (.ext (.t 22) 1),
 io (.st 10 (.t 4) (.t 23)),
 ia 5 (.mv (.t 24))]) .ret)) (.seq (.reg [
  ia 26 (.ld 2 true (.t 6)),
 ia 27 (.build [(.p (.i .i64 0)),(.p (.i .i64 0))] [(0,(1,(ci 9))),(1,(1,(ci 8)))]),
 ia 28 (.eqg false [0,0] (.t 26) (.t 27)),
 ia 25 (.mv (.t 28))]) (.cond (.t 25) (.seq (.reg [
  ia 29 (.ld 6 true (.t 2)),
 ia 30 (.ld 6 true (.t 3)),
 ia 31 (.call (.f 102) [(.t 29),(.t 30)]),
 ia 32 (.ext (.t 31) 0),
 ia 33 (.ext (.t 31) 1),
 io (.st 10 (.t 4) (.t 32)),
 ia 5 (.mv (.t 33))]) .ret) (.seq (.reg [
  ia 35 (.ld 2 true (.t 6)),
 ia 36 (.build [(.p (.i .i64 0)),(.p (.i .i64 0))] [(0,(1,(ci 11))),(1,(1,(ci 10)))]),
 ia 37 (.eqg false [0,0] (.t 35) (.t 36)),
 ia 34 (.mv (.t 37))]) (.cond (.t 34) (.seq (.reg [
  ia 38 (.call (.f 65) [(ci 3)]),
 ia 39 (.ext (.t 38) 0),
 ia 40 (.ext (.t 38) 1),
 io (.st 10 (.t 4) (.t 39)),
 ia 5 (.mv (.t 40))]) .ret) (.seq (.reg [
  ia 42 (.ld 2 true (.t 6)),
 ia 43 (.build [(.p (.i .i64 0)),(.p (.i .i64 0))] [(0,(1,(ci 12))),(1,(1,(ci 10)))]),
 ia 44 (.eqg false [0,0] (.t 42) (.t 43)),
 ia 41 (.mv (.t 44))]) (.cond (.t 41) (.seq (.reg [
  ia 45 (.ld 6 true (.t 2)),
 ia 46 (.ld 6 true (.t 3)),
 ia 47 (.call (.f 103) [(.t 45),(.t 46)]),
 ia 48 (.ext (.t 47) 0),
 ia 49 (.ext (.t 47) 1),
 io (.st 10 (.t 4) (.t 48)),
 ia 5 (.mv (.t 49))]) .ret) .skip)))))))))) (.seq (.reg [
  ia 50 (.call (.f 65) [(ci 5)]),
 ia 51 (.ext (.t 50) 0),
 ia 52 (.ext (.t 50) 1),
 io (.st 10 (.t 4) (.t 51)),
 ia 5 (.mv (.t 52))]) .ret))),[(.cell 4 10 true),(.tmp 5)]⟩
theorem cc68 : ccF Tryz.prog [(42,[0,0]),(107,[1,0]),(74,[0,0]),(36,[0,0,0,0,0,0,0,0,0]),(160,[0,0]),(42,[9]),(105,[8]),(107,[8]),(75,[8]),(106,[8]),(79,[8])] Tryz.f68 = some (stripF F68) := by kernel_rfl
def F69 : FnC := ⟨1,(.seq (.reg [
  ia 1 (.box 6 (.t 0)),
 ia 2 (.mv (.c (.a (.p (.b false)))))]) (.seq (.reg [
  ia 3 (.fad 0 (.t 1)),
 ia 4 (.ld 1 false (.t 3)),
 ia 5 (.bin .eql (.t 4) (ci 0)),
 ia 2 (.mv (.t 5))]) .ret)),[(.tmp 2)]⟩
theorem cc69 : ccF Tryz.prog [(42,[0,0]),(107,[1,0]),(74,[0,0]),(36,[0,0,0,0,0,0,0,0,0]),(160,[0,0]),(42,[9]),(105,[8]),(107,[8]),(75,[8]),(106,[8]),(79,[8])] Tryz.f69 = some (stripF F69) := by kernel_rfl
def F70 : FnC := ⟨1,(.seq (.reg [
  ia 1 (.box 6 (.t 0)),
 ia 2 (.mv (ci 0))]) (.seq (.reg [
  ia 3 (.fad 5 (.t 1)),
 ia 4 (.ld 1 false (.t 3)),
 ia 5 (.len false (.t 4)),
 ia 6 (.bin .sub (.t 5) (ci 1)),
 ia 7 (.mx (.t 6) (ci 0)),
 ia 2 (.mv (.t 7))]) .ret)),[(.tmp 2)]⟩
theorem cc70 : ccF Tryz.prog [(42,[0,0]),(107,[1,0]),(74,[0,0]),(36,[0,0,0,0,0,0,0,0,0]),(160,[0,0]),(42,[9]),(105,[8]),(107,[8]),(75,[8]),(106,[8]),(79,[8])] Tryz.f70 = some (stripF F70) := by kernel_rfl
def F71b0 : C := (.seq (.reg [
  ia 11 (.bin .lss (.t 10) (.t 9))]) (.seq (.cond (.t 11) .skip (.exit 0)) (.seq (.block 1 (.seq (.reg [
  ia 12 (.mv (.t 10)),
 ia 2 (.mv (.t 12))]) (.reg [
  ir 13 (.mv (.t 0)),
 ir 14 (.mv (.t 0)),
 ir 15 (.nck (.t 14)),
 ir 16 (.fad 12 (.t 15)),
 ir 17 (.ld 1 false (.t 16)),
 ir 18 (.mv (.t 2)),
 ir 19 (.bin .add (.t 18) (ci 1)),
 ir 20 (.call (.f 61) [(.t 17),(.t 19)]),
 ir 21 (.mv (.t 0)),
 ir 22 (.nck (.t 21)),
 ir 23 (.fad 13 (.t 22)),
 ir 24 (.ld 1 false (.t 23)),
 ir 25 (.mv (.t 2)),
 ir 26 (.bin .add (.t 25) (ci 1)),
 ir 27 (.call (.f 61) [(.t 24),(.t 26)]),
 ia 28 (.call (.f 104) [(.t 13),(.t 20),(.t 27)])]))) (.reg [
  ia 29 (.bin .add (.t 10) (ci 1)),
 ia 10 (.mv (.t 29))]))))
def F71 : FnC := ⟨1,(.seq (.reg [
  ia 3 (.mv (.t 0)),
 ia 4 (.mv (.t 0)),
 ia 5 (.nck (.t 4)),
 ia 6 (.fad 12 (.t 5)),
 ia 7 (.ld 1 false (.t 6)),
 ia 8 (.call (.f 79) [(.t 3),(.t 7),(ci 1)]),
 ia 9 (.len false (.t 8)),
 ia 10 (.mv (ci 0))]) (.block 0 (.loop F71b0))),[]⟩
theorem cc71 : ccF Tryz.prog [(42,[0,0]),(107,[1,0]),(74,[0,0]),(36,[0,0,0,0,0,0,0,0,0]),(160,[0,0]),(42,[9]),(105,[8]),(107,[8]),(75,[8]),(106,[8]),(79,[8])] Tryz.f71 = some (stripF F71) := by kernel_rfl
def F72b0 : C := (.seq (.reg [
  ia 51 (.bin .lss (.t 50) (.t 49))]) (.seq (.cond (.t 51) .skip (.exit 0)) (.seq (.block 1 (.seq (.reg [
  ia 52 (.ias 2 (.t 48) (.t 50)),
 ia 53 (.ld 2 true (.t 52)),
 ia 7 (.new [(.p (.i .i64 0)),(.p (.i .i64 0))]),
 io (.st 2 (.t 7) (.t 53))]) (.seq (.reg [
  ia 54 (.ld 2 true (.t 7)),
 ia 55 (.ld 2 true (.t 3)),
 ia 56 (.eqg true [0,0] (.t 54) (.t 55))]) (.cond (.t 56) (.reg [
  ia 57 (.mv (.t 5)),
 ia 58 (.ld 2 true (.t 7)),
 ia 59 (.bsl 2 42 [(.p (.i .i64 0)),(.p (.i .i64 0))] 1 [(0,(.t 58))]),
 ia 60 (.app 2 42 16 (.t 57) (.t 59)),
 ia 5 (.mv (.t 60))]) .skip)))) (.reg [
  ia 61 (.bin .add (.t 50) (ci 1)),
 ia 50 (.mv (.t 61))]))))
def F72b1 : C := (.seq (.reg [
  ia 85 (.bin .lss (.t 84) (.t 83))]) (.seq (.cond (.t 85) .skip (.exit 2)) (.seq (.block 3 (.seq (.reg [
  ia 86 (.mv (.t 84)),
 ia 87 (.ias 1 (.t 82) (.t 84)),
 ia 88 (.ld 1 false (.t 87)),
 ia 9 (.mv (.t 86)),
 ia 10 (.mv (.t 88))]) (.seq (.reg [
  ia 89 (.mv (.t 0)),
 ia 90 (.mv (.t 0)),
 ia 91 (.nck (.t 90)),
 ia 92 (.fad 13 (.t 91)),
 ia 93 (.ld 1 false (.t 92)),
 ia 94 (.mv (.t 9)),
 ia 95 (.bin .add (.t 94) (ci 1)),
 ia 96 (.call (.f 61) [(.t 93),(.t 95)]),
 ia 97 (.mv (.t 10)),
 ia 98 (.call (.f 61) [(.t 97),(ci 2)]),
 ia 99 (.call (.f 74) [(.t 89),(.t 96),(.t 98)])]) (.seq (.reg [
  ia 100 (.mv (.t 9)),
 ia 101 (.bin .add (.t 100) (ci 1)),
 ia 102 (.mv (.t 2)),
 ia 103 (.bin .lss (.t 101) (.t 102))]) (.cond (.t 103) (.reg [
  ir 104 (.mv (.t 0)),
 ir 105 (.mv (.t 10)),
 ir 106 (.call (.f 61) [(.t 105),(ci 1)]),
 ir 107 (.mv (.t 4)),
 ir 108 (.mv (.t 9)),
 ir 109 (.bin .add (.t 108) (ci 1)),
 ir 110 (.ias 1 (.t 107) (.t 109)),
 ir 111 (.ld 1 false (.t 110)),
 ir 112 (.call (.f 61) [(.t 111),(ci 0)]),
 ia 113 (.call (.f 108) [(.t 104),(.t 106),(.t 112)])]) (.reg [
  ia 114 (.mv (.t 0)),
 ia 115 (.mv (.t 0)),
 ia 116 (.nck (.t 115)),
 ia 117 (.fad 12 (.t 116)),
 ia 118 (.ld 1 false (.t 117)),
 ia 119 (.call (.f 61) [(.t 118),(ci 1)]),
 ia 120 (.mv (.t 10)),
 ia 121 (.call (.f 61) [(.t 120),(ci 1)]),
 ia 122 (.call (.f 74) [(.t 114),(.t 119),(.t 121)])])))))) (.reg [
  ia 123 (.bin .add (.t 84) (ci 1)),
 ia 84 (.mv (.t 123))]))))
def F72 : FnC := ⟨1,(.seq (.reg [
  ir 11 (.mv (.t 0)),
 ir 12 (.mv (.t 0)),
 ir 13 (.nck (.t 12)),
 ir 14 (.fad 12 (.t 13)),
 ir 15 (.ld 1 false (.t 14)),
 ir 18 (.mv (.t 0)),
 ir 19 (.nck (.t 18)),
 ir 20 (.fad 2 (.t 19)),
 ir 21 (.fad 3 (.t 20)),
 ir 22 (.ld 1 false (.t 21)),
 ir 26 (.mv (.t 0)),
 ir 27 (.nck (.t 26)),
 ir 28 (.fad 12 (.t 27)),
 ir 29 (.ld 1 false (.t 28)),
 ir 30 (.mv (.t 0)),
 ir 31 (.nck (.t 30)),
 ir 32 (.fad 2 (.t 31)),
 ir 33 (.fad 3 (.t 32)),
 ir 34 (.ld 1 false (.t 33)),
 ir 35 (.bin .add (.t 34) (ci 2)),
 ⟨(.some 3),.none,(.new [(.p (.i .i64 0)),(.p (.i .i64 0))]),.ad⟩,
 ⟨(.some 16),.none,(.call (.f 105) [(.t 11),(.t 15)]),(.cl [(1,21),(1,28),(1,33)] [3])⟩,
 ir 17 (.fld 4 1 false (.t 16)),
 ir 23 (.ias 2 (.t 17) (.t 22)),
 ir 24 (.fad 1 (.t 23)),
 ir 25 (.ld 1 false (.t 24)),
 ir 36 (.call (.f 61) [(.t 29),(.t 35)]),
 ia 2 (.mv (.t 25)),
 io (.st 2 (.t 3) (.t 36))]) (.seq (.reg [
  ia 37 (.mv (.t 0)),
 ia 38 (.mv (.t 0)),
 ia 39 (.call (.f 107) [(.t 38)]),
 ia 40 (.build [(.p (.i .i64 0)),(.p (.i .i64 0)),(.p (.i .i64 0)),(.p (.s [])),.nil,.nil] [(0,(1,(ci 3))),(1,(1,(.t 39)))]),
 ia 41 (.mv (.t 2)),
 ia 42 (.call (.f 106) [(.t 37),(.t 40),(.t 41)]),
 ia 4 (.mv (.t 42))]) (.seq (.reg [
  ia 5 (.mv (.c (.a .nil)))]) (.seq (.seq (.reg [
  ia 43 (.mv (.t 0)),
 ia 44 (.mv (.t 0)),
 ia 45 (.nck (.t 44)),
 ia 46 (.fad 12 (.t 45)),
 ia 47 (.ld 1 false (.t 46)),
 ia 48 (.call (.f 79) [(.t 43),(.t 47),(ci 2)]),
 ia 49 (.len false (.t 48)),
 ia 50 (.mv (ci 0))]) (.block 0 (.loop F72b0))) (.seq (.reg [
  ia 62 (.mv (.t 0)),
 ia 63 (.mv (.t 5)),
 ia 64 (.call (.f 78) [(.t 62),(.t 63)]),
 ia 8 (.mv (.t 64))]) (.seq (.seq (.reg [
  ia 65 (.mv (.t 2)),
 ia 66 (.bin .eql (.t 65) (ci 0))]) (.cond (.t 66) (.reg [
  ir 67 (.mv (.t 0)),
 ir 68 (.ld 2 true (.t 3)),
 ir 69 (.mv (.t 0)),
 ir 70 (.nck (.t 69)),
 ir 71 (.fad 12 (.t 70)),
 ir 72 (.ld 1 false (.t 71)),
 ir 73 (.call (.f 61) [(.t 72),(ci 1)]),
 ia 74 (.call (.f 104) [(.t 67),(.t 68),(.t 73)])]) (.reg [
  ir 75 (.mv (.t 0)),
 ir 76 (.ld 2 true (.t 3)),
 ir 77 (.mv (.t 4)),
 ir 78 (.ias 1 (.t 77) (ci 0)),
 ir 79 (.ld 1 false (.t 78)),
 ir 80 (.call (.f 61) [(.t 79),(ci 0)]),
 ia 81 (.call (.f 74) [(.t 75),(.t 76),(.t 80)])]))) (.seq (.seq (.reg [
  ia 82 (.mv (.t 4)),
 ia 83 (.len false (.t 82)),
 ia 84 (.mv (ci 0))]) (.block 2 (.loop F72b1))) (.reg [
  ia 124 (.mv (.t 8)),
 ia 125 (.call (.t 124) [])])))))))),[]⟩
theorem cc72 : ccF Tryz.prog [(42,[0,0]),(107,[1,0]),(74,[0,0]),(36,[0,0,0,0,0,0,0,0,0]),(160,[0,0]),(42,[9]),(105,[8]),(107,[8]),(75,[8]),(106,[8]),(79,[8])] Tryz.f72 = some (stripF F72) := by kernel_rfl
def F73 : FnC := ⟨1,(.seq (.reg [
  ia 4 (.mv (.t 0)),
 ia 5 (.mv (.t 0)),
 ia 6 (.nck (.t 5)),
 ia 7 (.fad 12 (.t 6)),
 ia 8 (.ld 1 false (.t 7)),
 ia 9 (.call (.f 105) [(.t 4),(.t 8)]),
 ia 2 (.new [(.p (.i .i64 0)),(.p (.i .i64 0)),(.p (.i .i64 0)),(.p (.s [])),.nil,.nil]),
 io (.st 6 (.t 2) (.t 9))]) (.seq (.reg [
  ir 10 (.mv (.t 0)),
 ir 11 (.fad 1 (.t 2)),
 ir 12 (.ld 1 false (.t 11)),
 ir 13 (.fad 3 (.t 2)),
 ir 14 (.ld 1 false (.t 13)),
 ir 15 (.mv (.t 0)),
 ir 16 (.mv (.t 0)),
 ir 17 (.nck (.t 16)),
 ir 18 (.fad 13 (.t 17)),
 ir 19 (.ld 1 false (.t 18)),
 ⟨(.some 20),.none,(.call (.f 105) [(.t 15),(.t 19)]),(.cl [(1,11),(1,13)] [])⟩,
 ir 21 (.fld 2 1 false (.t 20)),
 ir 22 (.build [(.p (.i .i64 0)),(.p (.i .i64 0)),(.p (.i .i64 0)),(.p (.s [])),.nil,.nil] [(0,(1,(ci 12))),(1,(1,(.t 12))),(3,(1,(.t 14))),(2,(1,(.t 21)))]),
 ia 23 (.call (.f 75) [(.t 10),(.t 22)]),
 ia 3 (.mv (.t 23))]) (.seq (.reg [
  ia 24 (.mv (.t 0)),
 ia 25 (.mv (.t 0)),
 ia 26 (.nck (.t 25)),
 ia 27 (.fad 12 (.t 26)),
 ia 28 (.ld 1 false (.t 27)),
 ia 29 (.call (.f 61) [(.t 28),(ci 2)]),
 ia 30 (.mv (.t 3)),
 ia 31 (.call (.f 61) [(.t 30),(ci 0)]),
 ia 32 (.call (.f 74) [(.t 24),(.t 29),(.t 31)])]) (.reg [
  ia 33 (.mv (.t 0)),
 ia 34 (.mv (.t 0)),
 ia 35 (.nck (.t 34)),
 ia 36 (.fad 12 (.t 35)),
 ia 37 (.ld 1 false (.t 36)),
 ia 38 (.call (.f 61) [(.t 37),(ci 1)]),
 ia 39 (.mv (.t 3)),
 ia 40 (.call (.f 61) [(.t 39),(ci 1)]),
 ia 41 (.call (.f 74) [(.t 33),(.t 38),(.t 40)])])))),[]⟩
theorem cc73 : ccF Tryz.prog [(42,[0,0]),(107,[1,0]),(74,[0,0]),(36,[0,0,0,0,0,0,0,0,0]),(160,[0,0]),(42,[9]),(105,[8]),(107,[8]),(75,[8]),(106,[8]),(79,[8])] Tryz.f73 = some (stripF F73) := by kernel_rfl
def F74 : FnC := ⟨3,(.seq (.reg [
  ia 4 (.box 2 (.t 1)),
 ia 5 (.box 2 (.t 2))]) (.reg [
  ir 7 (.mv (.t 0)),
 ir 8 (.mv (.t 0)),
 ir 9 (.nck (.t 8)),
 ir 10 (.fad 0 (.t 9)),
 ir 11 (.ld 2 true (.t 10)),
 ir 12 (.ld 2 true (.t 4)),
 ir 13 (.ld 2 true (.t 5)),
 ir 14 (.call (.f 109) [(.t 11),(.t 12),(.t 13)]),
 ir 6 (.mv (.t 14)),
 ir 15 (.ext (.t 6) 0),
 ir 16 (.ext (.t 6) 1),
 ir 17 (.nck (.t 7)),
 ir 18 (.fad 0 (.t 17)),
 ⟨.none,.none,(.st 2 (.t 18) (.t 15)),(.wr [])⟩])),[]⟩
theorem cc74 : ccF Tryz.prog [(42,[0,0]),(107,[1,0]),(74,[0,0]),(36,[0,0,0,0,0,0,0,0,0]),(160,[0,0]),(42,[9]),(105,[8]),(107,[8]),(75,[8]),(106,[8]),(79,[8])] Tryz.f74 = some (stripF F74) := by kernel_rfl
def F75 : FnC := ⟨2,(.seq (.reg [
  ia 3 (.box 6 (.t 1)),
 ia 4 (.mv (ci 0))]) (.seq (.reg [
  ia 5 (.mv (ci 0))]) (.seq (.reg [
  ir 7 (.mv (.t 0)),
 ir 8 (.mv (.t 0)),
 ir 9 (.nck (.t 8)),
 ir 10 (.fad 0 (.t 9)),
 ir 11 (.ld 2 true (.t 10)),
 ir 12 (.ld 6 true (.t 3)),
 ir 13 (.call (.f 110) [(.t 11),(.t 12)]),
 ir 6 (.mv (.t 13)),
 ir 14 (.ext (.t 6) 0),
 ir 15 (.ext (.t 6) 1),
 ir 16 (.ext (.t 6) 2),
 ir 17 (.nck (.t 7)),
 ir 18 (.fad 0 (.t 17)),
 ⟨.none,.none,(.st 2 (.t 18) (.t 14)),(.wr [])⟩,
 ir 5 (.mv (.t 15))]) (.seq (.reg [
  ia 19 (.mv (.t 5)),
 ia 4 (.mv (.t 19))]) .ret)))),[(.tmp 4)]⟩
theorem cc75 : ccF Tryz.prog [(42,[0,0]),(107,[1,0]),(74,[0,0]),(36,[0,0,0,0,0,0,0,0,0]),(160,[0,0]),(42,[9]),(105,[8]),(107,[8]),(75,[8]),(106,[8]),(79,[8])] Tryz.f75 = some (stripF F75) := by kernel_rfl
def F76 : FnC := ⟨1,(.seq (.reg [
  ia 4 (.mv (.t 0)),
 ia 5 (.mv (.t 0)),
 ia 6 (.call (.f 107) [(.t 5)]),
 ia 7 (.build [(.p (.i .i64 0)),(.p (.i .i64 0)),(.p (.i .i64 0)),(.p (.s [])),.nil,.nil] [(0,(1,(ci 13))),(1,(1,(.t 6)))]),
 ia 8 (.call (.f 75) [(.t 4),(.t 7)]),
 ia 2 (.mv (.t 8))]) (.seq (.reg [
  ir 9 (.mv (.t 0)),
 ir 10 (.mv (.t 0)),
 ir 11 (.mv (.t 0)),
 ir 12 (.nck (.t 11)),
 ir 13 (.fad 12 (.t 12)),
 ir 14 (.ld 1 false (.t 13)),
 ir 16 (.mv (.t 0)),
 ir 17 (.mv (.t 0)),
 ir 18 (.nck (.t 17)),
 ir 19 (.fad 13 (.t 18)),
 ir 20 (.ld 1 false (.t 19)),
 ⟨(.some 15),.none,(.call (.f 79) [(.t 10),(.t 14),(ci 2)]),(.cl [(1,19)] [])⟩,
 ⟨(.some 21),.none,(.call (.f 79) [(.t 16),(.t 20),(ci 1)]),(.cl [] [])⟩,
 ⟨(.some 22),.none,(.app 2 42 16 (.t 15) (.t 21)),(.cl [] [])⟩,
 ia 23 (.call (.f 78) [(.t 9),(.t 22)]),
 ia 3 (.mv (.t 23))]) (.seq (.reg [
  ia 24 (.mv (.t 0)),
 ia 25 (.mv (.t 0)),
 ia 26 (.nck (.t 25)),
 ia 27 (.fad 12 (.t 26)),
 ia 28 (.ld 1 false (.t 27)),
 ia 29 (.call (.f 61) [(.t 28),(ci 1)]),
 ia 30 (.mv (.t 2)),
 ia 31 (.call (.f 61) [(.t 30),(ci 0)]),
 ia 32 (.call (.f 74) [(.t 24),(.t 29),(.t 31)])]) (.reg [
  ia 33 (.mv (.t 3)),
 ia 34 (.call (.t 33) [])])))),[]⟩
theorem cc76 : ccF Tryz.prog [(42,[0,0]),(107,[1,0]),(74,[0,0]),(36,[0,0,0,0,0,0,0,0,0]),(160,[0,0]),(42,[9]),(105,[8]),(107,[8]),(75,[8]),(106,[8]),(79,[8])] Tryz.f76 = some (stripF F76) := by kernel_rfl
def F77b0 : C := (.seq (.reg [
  ia 47 (.bin .lss (.t 46) (.t 45))]) (.seq (.cond (.t 47) .skip (.exit 0)) (.seq (.block 1 (.seq (.reg [
  ia 48 (.mv (.t 46)),
 ia 49 (.ias 1 (.t 44) (.t 46)),
 ia 50 (.ld 1 false (.t 49)),
 ia 6 (.mv (.t 48)),
 ia 7 (.mv (.t 50))]) (.reg [
  ia 51 (.mv (.t 0)),
 ia 52 (.mv (.t 0)),
 ia 53 (.nck (.t 52)),
 ia 54 (.fad 12 (.t 53)),
 ia 55 (.ld 1 false (.t 54)),
 ia 56 (.mv (.t 6)),
 ia 57 (.bin .add (.t 56) (ci 1)),
 ia 58 (.call (.f 61) [(.t 55),(.t 57)]),
 ia 59 (.mv (.t 7)),
 ia 60 (.call (.f 61) [(.t 59),(ci 0)]),
 ia 61 (.call (.f 74) [(.t 51),(.t 58),(.t 60)])]))) (.reg [
  ia 62 (.bin .add (.t 46) (ci 1)),
 ia 46 (.mv (.t 62))]))))
def F77b2 : C := (.seq (.reg [
  ia 84 (.bin .lss (.t 83) (.t 82))]) (.seq (.cond (.t 84) .skip (.exit 4)) (.seq (.block 5 (.seq (.reg [
  ia 85 (.mv (.t 83)),
 ia 86 (.ias 1 (.t 81) (.t 83)),
 ia 87 (.ld 1 false (.t 86)),
 ia 10 (.mv (.t 85)),
 ia 11 (.mv (.t 87))]) (.reg [
  ia 88 (.mv (.t 0)),
 ia 89 (.mv (.t 9)),
 ia 90 (.mv (.t 10)),
 ia 91 (.bin .add (.t 90) (ci 1)),
 ia 92 (.call (.f 61) [(.t 89),(.t 91)]),
 ia 93 (.mv (.t 11)),
 ia 94 (.mv (.t 8)),
 ia 95 (.bin .add (.t 94) (ci 1)),
 ia 96 (.call (.f 61) [(.t 93),(.t 95)]),
 ia 97 (.call (.f 108) [(.t 88),(.t 92),(.t 96)])]))) (.reg [
  ia 98 (.bin .add (.t 83) (ci 1)),
 ia 83 (.mv (.t 98))]))))
def F77b1 : C := (.seq (.reg [
  ia 66 (.bin .lss (.t 65) (.t 64))]) (.seq (.cond (.t 66) .skip (.exit 2)) (.seq (.block 3 (.seq (.reg [
  ia 67 (.mv (.t 65)),
 ia 68 (.ias 1 (.t 63) (.t 65)),
 ia 69 (.ld 1 false (.t 68)),
 ia 8 (.mv (.t 67)),
 ia 9 (.mv (.t 69))]) (.seq (.reg [
  ia 70 (.mv (.t 0)),
 ia 71 (.mv (.t 0)),
 ia 72 (.nck (.t 71)),
 ia 73 (.fad 13 (.t 72)),
 ia 74 (.ld 1 false (.t 73)),
 ia 75 (.mv (.t 8)),
 ia 76 (.bin .add (.t 75) (ci 1)),
 ia 77 (.call (.f 61) [(.t 74),(.t 76)]),
 ia 78 (.mv (.t 9)),
 ia 79 (.call (.f 61) [(.t 78),(ci 0)]),
 ia 80 (.call (.f 74) [(.t 70),(.t 77),(.t 79)])]) (.seq (.reg [
  ia 81 (.mv (.t 4)),
 ia 82 (.len false (.t 81)),
 ia 83 (.mv (ci 0))]) (.block 4 (.loop F77b2)))))) (.reg [
  ia 99 (.bin .add (.t 65) (ci 1)),
 ia 65 (.mv (.t 99))]))))
def F77 : FnC := ⟨1,(.seq (.reg [
  ir 12 (.mv (.t 0)),
 ir 13 (.mv (.t 0)),
 ir 14 (.nck (.t 13)),
 ir 15 (.fad 12 (.t 14)),
 ir 16 (.ld 1 false (.t 15)),
 ir 18 (.mv (.t 0)),
 ir 19 (.mv (.t 0)),
 ir 20 (.nck (.t 19)),
 ir 21 (.fad 13 (.t 20)),
 ir 22 (.ld 1 false (.t 21)),
 ⟨(.some 2),.none,(.new [(.p (.i .i64 0)),(.p (.i .i64 0)),(.p (.i .i64 0)),(.p (.s [])),.nil,.nil]),.ad⟩,
 ⟨(.some 3),.none,(.new [(.p (.i .i64 0)),(.p (.i .i64 0)),(.p (.i .i64 0)),(.p (.s [])),.nil,.nil]),.ad⟩,
 ⟨(.some 17),.none,(.call (.f 105) [(.t 12),(.t 16)]),(.cl [(1,21)] [2,3])⟩,
 ⟨(.some 23),.none,(.call (.f 105) [(.t 18),(.t 22)]),(.cl [] [2,3])⟩,
 io (.st 6 (.t 2) (.t 17)),
 io (.st 6 (.t 3) (.t 23))]) (.seq (.reg [
  ia 24 (.mv (.t 0)),
 ia 25 (.nck (.t 24)),
 ia 26 (.fad 2 (.t 25)),
 ia 27 (.fad 2 (.t 26)),
 ia 28 (.ld 1 false (.t 27)),
 ia 29 (.fad 1 (.t 3)),
 io (.st 1 (.t 29) (.t 28))]) (.seq (.reg [
  ia 30 (.mv (.t 0)),
 ia 31 (.ld 6 true (.t 3)),
 ia 32 (.fad 5 (.t 2)),
 ia 33 (.ld 1 false (.t 32)),
 ia 34 (.len false (.t 33)),
 ia 35 (.bin .sub (.t 34) (ci 1)),
 ia 36 (.call (.f 106) [(.t 30),(.t 31),(.t 35)]),
 ia 4 (.mv (.t 36))]) (.seq (.reg [
  ia 37 (.mv (.t 0)),
 ia 38 (.ld 6 true (.t 2)),
 ia 39 (.fad 5 (.t 3)),
 ia 40 (.ld 1 false (.t 39)),
 ia 41 (.len false (.t 40)),
 ia 42 (.bin .sub (.t 41) (ci 1)),
 ia 43 (.call (.f 106) [(.t 37),(.t 38),(.t 42)]),
 ia 5 (.mv (.t 43))]) (.seq (.seq (.reg [
  ia 44 (.mv (.t 4)),
 ia 45 (.len false (.t 44)),
 ia 46 (.mv (ci 0))]) (.block 0 (.loop F77b0))) (.seq (.reg [
  ia 63 (.mv (.t 5)),
 ia 64 (.len false (.t 63)),
 ia 65 (.mv (ci 0))]) (.block 2 (.loop F77b1)))))))),[]⟩
theorem cc77 : ccF Tryz.prog [(42,[0,0]),(107,[1,0]),(74,[0,0]),(36,[0,0,0,0,0,0,0,0,0]),(160,[0,0]),(42,[9]),(105,[8]),(107,[8]),(75,[8]),(106,[8]),(79,[8])] Tryz.f77 = some (stripF F77) := by kernel_rfl
def F78 : FnC := ⟨2,(.seq (.reg [
  ia 2 (.box 1 (.t 0)),
 ia 3 (.box 1 (.t 1)),
 ia 4 (.mv (.c (.a (.raw .nilFunc))))]) (.seq (.reg [
  ir 6 (.ld 1 false (.t 2)),
 ir 7 (.ld 1 false (.t 2)),
 ir 10 (.ld 1 false (.t 3)),
 ir 11 (.len false (.t 10)),
 ⟨(.some 5),.none,(.new [.nil]),.ad⟩,
 ⟨(.some 8),.none,(.call (.f 107) [(.t 7)]),(.cl [(1,2),(1,3)] [5])⟩,
 ir 9 (.build [(.p (.i .i64 0)),(.p (.i .i64 0)),(.p (.i .i64 0)),(.p (.s [])),.nil,.nil] [(0,(1,(ci 7))),(1,(1,(.t 8)))]),
 ⟨(.some 12),.none,(.call (.f 106) [(.t 6),(.t 9),(.t 11)]),(.cl [] [5])⟩,
 io (.st 1 (.t 5) (.t 12))]) (.seq (.reg [
  ia 13 (.fn 111 [(.t 3),(.t 2),(.t 5)]),
 ia 4 (.mv (.t 13))]) .ret))),[(.tmp 4)]⟩
theorem cc78 : ccF Tryz.prog [(42,[0,0]),(107,[1,0]),(74,[0,0]),(36,[0,0,0,0,0,0,0,0,0]),(160,[0,0]),(42,[9]),(105,[8]),(107,[8]),(75,[8]),(106,[8]),(79,[8])] Tryz.f78 = some (stripF F78) := by kernel_rfl
def F79b0 : C := (.seq (.seq (.reg [
  ia 10 (.mv (.t 8)),
 ia 11 (.mv (.t 0)),
 ia 12 (.mv (.t 1)),
 ia 13 (.call (.f 105) [(.t 11),(.t 12)]),
 ia 14 (.fld 5 1 false (.t 13)),
 ia 15 (.len false (.t 14)),
 ia 16 (.bin .lss (.t 10) (.t 15))]) (.cond (.t 16) .skip (.exit 0))) (.seq (.block 1 (.reg [
  ia 19 (.mv (.t 7)),
 ia 20 (.mv (.t 1)),
 ia 21 (.mv (.t 8)),
 ia 22 (.call (.f 61) [(.t 20),(.t 21)]),
 ia 23 (.bsl 2 42 [(.p (.i .i64 0)),(.p (.i .i64 0))] 1 [(0,(.t 22))]),
 ia 24 (.app 2 42 16 (.t 19) (.t 23)),
 ia 7 (.mv (.t 24))])) (.reg [
  ia 17 (.mv (.t 8)),
 ia 18 (.bin .add (.t 17) (ci 1)),
 ia 8 (.mv (.t 18))])))
def F79 : FnC := ⟨3,(.seq (.reg [
  ia 6 (.mv (.c (.a .nil)))]) (.seq (.reg [
  ia 7 (.mv (.c (.a .nil)))]) (.seq (.seq (.reg [
  ia 9 (.mv (.t 2)),
 ia 8 (.mv (.t 9))]) (.block 0 (.loop F79b0))) (.seq (.reg [
  ia 25 (.mv (.t 7)),
 ia 6 (.mv (.t 25))]) .ret)))),[(.tmp 6)]⟩
theorem cc79 : ccF Tryz.prog [(42,[0,0]),(107,[1,0]),(74,[0,0]),(36,[0,0,0,0,0,0,0,0,0]),(160,[0,0]),(42,[9]),(105,[8]),(107,[8]),(75,[8]),(106,[8]),(79,[8])] Tryz.f79 = some (stripF F79) := by kernel_rfl
def F81b0 : C := (.seq (.seq (.reg [
  ia 10 (.mv (.t 6)),
 ia 11 (.mv (.t 0)),
 ia 12 (.len true (.t 11)),
 ia 13 (.bin .lss (.t 10) (.t 12))]) (.cond (.t 13) .skip (.exit 0))) (.block 1 (.seq (.seq (.reg [
  ia 14 (.mv (.t 0)),
 ia 15 (.mv (.t 6)),
 ia 16 (.ixs (.t 14) (.t 15)),
 ia 17 (.call (.f 112) [(.t 16)]),
 ia 18 (.bin .eql (.t 17) (ci 4))]) (.cond (.t 18) (.seq (.reg [
  ia 19 (.mv (.t 6)),
 ia 20 (.bin .add (.t 19) (ci 1)),
 ia 6 (.mv (.t 20))]) (.exit 1)) .skip)) (.seq (.reg [
  ia 22 (.mv (.t 0)),
 ia 23 (.mv (.t 6)),
 ia 24 (.call (.f 113) [(.t 22),(.t 23)]),
 ia 21 (.mv (.t 24)),
 ia 25 (.ext (.t 21) 0),
 ia 26 (.ext (.t 21) 1),
 ia 7 (.new [(.p (.i .i64 0)),(.p (.s [])),(.p (.i .i64 0)),(.p (.i .i64 0))]),
 io (.st 4 (.t 7) (.t 25)),
 ia 8 (.mv (.t 26))]) (.seq (.seq (.reg [
  ia 27 (.mv (.t 8)),
 ia 28 (.bin .neq (.t 27) (ci 0))]) (.cond (.t 28) (.seq (.reg [
  ia 29 (.mv (.t 6)),
 ia 30 (.mv (.t 8)),
 ia 2 (.mv (.c (.a .nil))),
 ia 3 (.mv (.t 29)),
 ia 4 (.mv (.t 30))]) .ret) .skip)) (.seq (.reg [
  ia 31 (.mv (.t 5)),
 ia 32 (.ld 4 true (.t 7)),
 ia 33 (.bsl 4 134 [(.p (.i .i64 0)),(.p (.s [])),(.p (.i .i64 0)),(.p (.i .i64 0))] 1 [(0,(.t 32))]),
 ia 34 (.app 4 134 40 (.t 31) (.t 33)),
 ia 5 (.mv (.t 34))]) (.reg [
  ia 35 (.mv (.t 6)),
 ia 36 (.fad 1 (.t 7)),
 ia 37 (.ld 1 false (.t 36)),
 ia 38 (.len true (.t 37)),
 ia 39 (.bin .add (.t 35) (.t 38)),
 ia 6 (.mv (.t 39))])))))))
def F81 : FnC := ⟨1,(.seq (.reg [
  ia 2 (.mv (.c (.a .nil))),
 ia 3 (.mv (ci 0)),
 ia 4 (.mv (ci 0))]) (.seq (.reg [
  ia 9 (.bsl 4 134 [(.p (.i .i64 0)),(.p (.s [])),(.p (.i .i64 0)),(.p (.i .i64 0))] 0 []),
 ia 5 (.mv (.t 9))]) (.seq (.seq (.reg [
  ia 6 (.mv (ci 0))]) (.block 0 (.loop F81b0))) (.seq (.reg [
  ia 40 (.mv (.t 5)),
 ia 2 (.mv (.t 40)),
 ia 3 (.mv (ci 0)),
 ia 4 (.mv (ci 0))]) .ret)))),[(.tmp 2),(.tmp 3),(.tmp 4)]⟩
theorem cc81 : ccF Tryz.prog [(42,[0,0]),(107,[1,0]),(74,[0,0]),(36,[0,0,0,0,0,0,0,0,0]),(160,[0,0]),(42,[9]),(105,[8]),(107,[8]),(75,[8]),(106,[8]),(79,[8])] Tryz.f81 = some (stripF F81) := by kernel_rfl
def F82 : FnC := ⟨2,(.seq (.reg [
  ia 4 (.new [(.p (.i .i64 0)),(.p (.s [])),(.p (.i .i64 0)),(.p (.i .i64 0)),.nil,(.p (.i .i64 0)),(.p (.b false))])]) (.seq (.seq (.reg [
  ia 5 (.mv (.t 0)),
 ia 6 (.mv (.t 1)),
 ia 7 (.call (.f 114) [(.t 5),(.t 6)])]) (.block 0 (.seq (.reg [
  ia 9 (.bin .eql (.t 7) (.c (.a (.p (.s [92]))))),
 ia 8 (.mv (.t 9))]) (.cond (.t 8) (.seq (.reg [
  ia 10 (.mv (.t 0)),
 ia 11 (.mv (.t 1)),
 ia 12 (.call (.f 115) [(.t 10),(.t 11)]),
 io (.st 7 (.t 4) (.t 12))]) .ret) (.seq (.seq (.reg [
  ia 14 (.bin .eql (.t 7) (.c (.a (.p (.s [108,101,116]))))),
 ia 13 (.mv (.t 14))]) (.cond (.t 13) .skip (.reg [
  ia 15 (.bin .eql (.t 7) (.c (.a (.p (.s [108,101,116,114,101,99]))))),
 ia 13 (.mv (.t 15))]))) (.cond (.t 13) (.seq (.reg [
  ia 16 (.mv (.t 0)),
 ia 17 (.mv (.t 1)),
 ia 18 (.call (.f 116) [(.t 16),(.t 17)]),
 io (.st 7 (.t 4) (.t 18))]) .ret) (.seq (.reg [
  ia 20 (.bin .eql (.t 7) (.c (.a (.p (.s [99,97,115,101]))))),
 ia 19 (.mv (.t 20))]) (.cond (.t 19) (.seq (.reg [
  ia 21 (.mv (.t 0)),
 ia 22 (.mv (.t 1)),
 ia 23 (.call (.f 117) [(.t 21),(.t 22)]),
 io (.st 7 (.t 4) (.t 23))]) .ret) .skip)))))))) (.seq (.reg [
  ia 24 (.mv (.t 0)),
 ia 25 (.mv (.t 1)),
 ia 26 (.call (.f 118) [(.t 24),(.t 25),(ci 0)]),
 io (.st 7 (.t 4) (.t 26))]) .ret))),[(.cell 4 7 true)]⟩
theorem cc82 : ccF Tryz.prog [(42,[0,0]),(107,[1,0]),(74,[0,0]),(36,[0,0,0,0,0,0,0,0,0]),(160,[0,0]),(42,[9]),(105,[8]),(107,[8]),(75,[8]),(106,[8]),(79,[8])] Tryz.f82 = some (stripF F82) := by kernel_rfl
def F83b0 : C := (.seq (.seq (.reg [
  ia 5 (.mv (.t 4)),
 ia 6 (.fad 4 (.t 1)),
 ia 7 (.ld 1 false (.t 6)),
 ia 8 (.len false (.t 7)),
 ia 9 (.bin .lss (.t 5) (.t 8))]) (.cond (.t 9) .skip (.exit 0))) (.seq (.block 1 (.reg [
  ia 12 (.mv (.t 3)),
 ia 13 (.fad 4 (.t 1)),
 ia 14 (.ld 1 false (.t 13)),
 ia 15 (.mv (.t 4)),
 ia 16 (.ias 5 (.t 14) (.t 15)),
 ia 17 (.ld 5 true (.t 16)),
 ia 18 (.call (.f 83) [(.t 17)]),
 ia 19 (.mx (.t 12) (.t 18)),
 ia 3 (.mv (.t 19))])) (.reg [
  ia 10 (.mv (.t 4)),
 ia 11 (.bin .add (.t 10) (ci 1)),
 ia 4 (.mv (.t 11))])))
def F83 : FnC := ⟨1,(.seq (.reg [
  ia 1 (.box 5 (.t 0)),
 ia 2 (.mv (ci 0))]) (.seq (.reg [
  ia 3 (.mv (ci 0))]) (.seq (.seq (.reg [
  ia 4 (.mv (ci 0))]) (.block 0 (.loop F83b0))) (.seq (.reg [
  ia 20 (.mv (.t 3)),
 ia 21 (.bin .add (.t 20) (ci 1)),
 ia 2 (.mv (.t 21))]) .ret)))),[(.tmp 2)]⟩
theorem cc83 : ccF Tryz.prog [(42,[0,0]),(107,[1,0]),(74,[0,0]),(36,[0,0,0,0,0,0,0,0,0]),(160,[0,0]),(42,[9]),(105,[8]),(107,[8]),(75,[8]),(106,[8]),(79,[8])] Tryz.f83 = some (stripF F83) := by kernel_rfl
def F84 : FnC := ⟨1,(.seq (.reg [
  ia 1 (.box 5 (.t 0)),
 ia 2 (.mv (ci 0)),
 ia 3 (.mv (ci 0))]) (.seq (.seq (.reg [
  ia 4 (.ld 5 true (.t 1)),
 ia 5 (.call (.f 119) [(.t 4)]),
 ia 6 (.not (.t 5))]) (.cond (.t 6) (.seq (.reg [
  ia 2 (.mv (ci 0)),
 ia 3 (.mv (ci 1))]) .ret) .skip)) (.seq (.reg [
  ir 7 (.ld 5 true (.t 1)),
 ir 8 (.ld 5 true (.t 1)),
 ir 9 (.call (.f 121) [(.t 8)]),
 ia 10 (.call (.f 120) [(.t 7),(.c (.a .nil)),(.c (.a .nil)),(.t 9)]),
 ir 11 (.ext (.t 10) 0),
 ir 12 (.ext (.t 10) 1),
 ia 2 (.mv (.t 11)),
 ia 3 (.mv (.t 12))]) .ret))),[(.tmp 2),(.tmp 3)]⟩
theorem cc84 : ccF Tryz.prog [(42,[0,0]),(107,[1,0]),(74,[0,0]),(36,[0,0,0,0,0,0,0,0,0]),(160,[0,0]),(42,[9]),(105,[8]),(107,[8]),(75,[8]),(106,[8]),(79,[8])] Tryz.f84 = some (stripF F84) := by kernel_rfl
def F85b0 : C := (.seq (.seq (.reg [
  ia 92 (.mv (.t 6)),
 ia 93 (.fad 2 (.t 2)),
 ia 94 (.ld 1 false (.t 93)),
 ia 95 (.bin .lss (.t 92) (.t 94))]) (.cond (.t 95) .skip (.exit 1))) (.seq (.block 2 (.reg [
  ia 98 (.mv (.t 1)),
 ia 99 (.fad 4 (.t 2)),
 ia 100 (.ld 1 false (.t 99)),
 ia 101 (.mv (.t 6)),
 ia 102 (.ias 5 (.t 100) (.t 101)),
 ia 103 (.fad 1 (.t 102)),
 ia 104 (.ld 1 false (.t 103)),
 ia 105 (.call (.f 124) [(.t 98),(.t 104)]),
 ia 1 (.mv (.t 105))])) (.reg [
  ia 96 (.mv (.t 6)),
 ia 97 (.bin .add (.t 96) (ci 1)),
 ia 6 (.mv (.t 97))])))
def F85b1 : C := (.seq (.seq (.reg [
  ia 136 (.mv (.t 8)),
 ia 137 (.fad 4 (.t 2)),
 ia 138 (.ld 1 false (.t 137)),
 ia 139 (.len false (.t 138)),
 ia 140 (.bin .lss (.t 136) (.t 139))]) (.cond (.t 140) .skip (.exit 3))) (.seq (.block 4 (.reg [
  ir 143 (.fad 3 (.t 7)),
 ir 144 (.ld 1 false (.t 143)),
 ir 145 (.fad 4 (.t 2)),
 ir 146 (.ld 1 false (.t 145)),
 ir 147 (.mv (.t 8)),
 ir 148 (.ias 5 (.t 146) (.t 147)),
 ir 149 (.ld 5 true (.t 148)),
 ir 150 (.mv (.t 1)),
 ir 151 (.call (.f 85) [(.t 149),(.t 150)]),
 ⟨(.some 152),.none,(.bsl 4 24 [(.p (.i .i64 0)),(.p (.i .i64 0)),(.p (.s [])),.nil] 1 [(0,(.t 151))]),.ad⟩,
 ia 153 (.app 4 24 56 (.t 144) (.t 152)),
 ia 154 (.fad 3 (.t 7)),
 io (.st 1 (.t 154) (.t 153))])) (.reg [
  ia 141 (.mv (.t 8)),
 ia 142 (.bin .add (.t 141) (ci 1)),
 ia 8 (.mv (.t 142))])))
def F85 : FnC := ⟨2,(.seq (.reg [
  ia 2 (.box 5 (.t 0)),
 ia 4 (.new [(.p (.i .i64 0)),(.p (.i .i64 0)),(.p (.s [])),.nil])]) (.seq (.seq (.reg [
  ia 9 (.fad 0 (.t 2)),
 ia 10 (.ld 1 false (.t 9))]) (.block 0 (.seq (.reg [
  ia 12 (.bin .eql (.t 10) (ci 1)),
 ia 11 (.mv (.t 12))]) (.cond (.t 11) (.seq (.reg [
  ia 13 (.mv (.t 1)),
 ia 14 (.fad 1 (.t 2)),
 ia 15 (.ld 1 false (.t 14)),
 ia 16 (.call (.f 122) [(.t 13),(.t 15)]),
 ia 17 (.build [(.p (.i .i64 0)),(.p (.i .i64 0)),(.p (.s [])),.nil] [(0,(1,(ci 1))),(1,(1,(.t 16)))]),
 io (.st 4 (.t 4) (.t 17))]) .ret) (.seq (.reg [
  ia 19 (.bin .eql (.t 10) (ci 2)),
 ia 18 (.mv (.t 19))]) (.cond (.t 18) (.seq (.reg [
  ir 20 (.fad 4 (.t 2)),
 ir 21 (.ld 1 false (.t 20)),
 ir 22 (.ias 5 (.t 21) (ci 0)),
 ir 23 (.ld 5 true (.t 22)),
 ir 24 (.mv (.t 1)),
 ir 25 (.fad 1 (.t 2)),
 ir 26 (.ld 1 false (.t 25)),
 ir 27 (.call (.f 124) [(.t 24),(.t 26)]),
 ia 28 (.call (.f 85) [(.t 23),(.t 27)]),
 ia 29 (.call (.f 123) [(.t 28)]),
 io (.st 4 (.t 4) (.t 29))]) .ret) (.seq (.reg [
  ia 31 (.bin .eql (.t 10) (ci 3)),
 ia 30 (.mv (.t 31))]) (.cond (.t 30) (.seq (.reg [
  ir 32 (.fad 4 (.t 2)),
 ir 33 (.ld 1 false (.t 32)),
 ir 34 (.ias 5 (.t 33) (ci 0)),
 ir 35 (.ld 5 true (.t 34)),
 ir 36 (.mv (.t 1)),
 ir 37 (.call (.f 85) [(.t 35),(.t 36)]),
 ir 38 (.fad 4 (.t 2)),
 ir 39 (.ld 1 false (.t 38)),
 ir 40 (.ias 5 (.t 39) (ci 1)),
 ir 41 (.ld 5 true (.t 40)),
 ir 42 (.mv (.t 1)),
 ia 43 (.call (.f 85) [(.t 41),(.t 42)]),
 ia 44 (.call (.f 125) [(ci 3),(.t 37),(.t 43)]),
 io (.st 4 (.t 4) (.t 44))]) .ret) (.seq (.reg [
  ia 46 (.bin .eql (.t 10) (ci 4)),
 ia 45 (.mv (.t 46))]) (.cond (.t 45) (.seq (.reg [
  ir 47 (.fad 4 (.t 2)),
 ir 48 (.ld 1 false (.t 47)),
 ir 49 (.ias 5 (.t 48) (ci 1)),
 ir 50 (.ld 5 true (.t 49)),
 ir 51 (.mv (.t 1)),
 ir 52 (.fad 1 (.t 2)),
 ir 53 (.ld 1 false (.t 52)),
 ir 54 (.call (.f 124) [(.t 51),(.t 53)]),
 ir 55 (.call (.f 85) [(.t 50),(.t 54)]),
 ir 56 (.call (.f 123) [(.t 55)]),
 ir 57 (.fad 4 (.t 2)),
 ir 58 (.ld 1 false (.t 57)),
 ir 59 (.ias 5 (.t 58) (ci 0)),
 ir 60 (.ld 5 true (.t 59)),
 ir 61 (.mv (.t 1)),
 ia 62 (.call (.f 85) [(.t 60),(.t 61)]),
 ia 63 (.call (.f 125) [(ci 3),(.t 56),(.t 62)]),
 io (.st 4 (.t 4) (.t 63))]) .ret) (.seq (.reg [
  ia 65 (.bin .eql (.t 10) (ci 5)),
 ia 64 (.mv (.t 65))]) (.cond (.t 64) (.seq (.reg [
  ir 66 (.call (.f 126) []),
 ir 67 (.fad 4 (.t 2)),
 ir 68 (.ld 1 false (.t 67)),
 ir 69 (.ias 5 (.t 68) (ci 0)),
 ir 70 (.ld 5 true (.t 69)),
 ir 71 (.mv (.t 1)),
 ir 72 (.fad 1 (.t 2)),
 ir 73 (.ld 1 false (.t 72)),
 ir 74 (.call (.f 124) [(.t 71),(.t 73)]),
 ir 75 (.call (.f 85) [(.t 70),(.t 74)]),
 ir 76 (.call (.f 123) [(.t 75)]),
 ir 77 (.call (.f 125) [(ci 3),(.t 66),(.t 76)]),
 ⟨(.some 5),.none,(.new [(.p (.i .i64 0)),(.p (.i .i64 0)),(.p (.s [])),.nil]),.ad⟩,
 io (.st 4 (.t 5) (.t 77))]) (.seq (.reg [
  ir 78 (.fad 4 (.t 2)),
 ir 79 (.ld 1 false (.t 78)),
 ir 80 (.ias 5 (.t 79) (ci 1)),
 ir 81 (.ld 5 true (.t 80)),
 ir 82 (.mv (.t 1)),
 ir 83 (.fad 1 (.t 2)),
 ir 84 (.ld 1 false (.t 83)),
 ir 85 (.call (.f 124) [(.t 82),(.t 84)]),
 ir 86 (.call (.f 85) [(.t 81),(.t 85)]),
 ir 87 (.call (.f 123) [(.t 86)]),
 ir 88 (.ld 4 true (.t 5)),
 ia 89 (.call (.f 125) [(ci 3),(.t 87),(.t 88)]),
 io (.st 4 (.t 4) (.t 89))]) .ret)) (.seq (.reg [
  ia 91 (.bin .eql (.t 10) (ci 8)),
 ia 90 (.mv (.t 91))]) (.cond (.t 90) (.seq (.seq (.reg [
  ia 6 (.mv (ci 0))]) (.block 1 (.loop F85b0))) (.seq (.reg [
  ir 106 (.fad 1 (.t 2)),
 ir 107 (.ld 1 false (.t 106)),
 ir 108 (.fad 2 (.t 2)),
 ir 109 (.ld 1 false (.t 108)),
 ir 110 (.fad 4 (.t 2)),
 ir 111 (.ld 1 false (.t 110)),
 ir 112 (.fad 2 (.t 2)),
 ir 113 (.ld 1 false (.t 112)),
 ir 114 (.ias 5 (.t 111) (.t 113)),
 ir 115 (.ld 5 true (.t 114)),
 ir 116 (.mv (.t 1)),
 ir 117 (.call (.f 85) [(.t 115),(.t 116)]),
 ⟨(.some 118),.none,(.bsl 4 24 [(.p (.i .i64 0)),(.p (.i .i64 0)),(.p (.s [])),.nil] 1 [(0,(.t 117))]),.ad⟩,
 ia 119 (.build [(.p (.i .i64 0)),(.p (.i .i64 0)),(.p (.s [])),.nil] [(0,(1,(ci 6))),(2,(1,(.t 107))),(1,(1,(.t 109))),(3,(1,(.t 118)))]),
 io (.st 4 (.t 4) (.t 119))]) .ret)) (.seq (.reg [
  ia 121 (.bin .eql (.t 10) (ci 9)),
 ia 120 (.mv (.t 121))]) (.cond (.t 120) (.seq (.reg [
  ia 122 (.fad 2 (.t 2)),
 ia 123 (.ld 1 false (.t 122)),
 ia 124 (.build [(.p (.i .i64 0)),(.p (.i .i64 0)),(.p (.s [])),.nil] [(0,(1,(ci 7))),(1,(1,(.t 123)))]),
 io (.st 4 (.t 4) (.t 124))]) .ret) .skip)))))))))))))))) (.seq (.reg [
  ia 125 (.fad 1 (.t 2)),
 ia 126 (.ld 1 false (.t 125)),
 ia 127 (.build [(.p (.i .i64 0)),(.p (.i .i64 0)),(.p (.s [])),.nil] [(0,(1,(ci 4))),(2,(1,(.t 126)))]),
 ia 7 (.new [(.p (.i .i64 0)),(.p (.i .i64 0)),(.p (.s [])),.nil]),
 io (.st 4 (.t 7) (.t 127))]) (.seq (.seq (.reg [
  ia 128 (.fad 0 (.t 2)),
 ia 129 (.ld 1 false (.t 128)),
 ia 130 (.bin .eql (.t 129) (ci 7))]) (.cond (.t 130) (.reg [
  ia 131 (.fad 0 (.t 7)),
 io (.st 1 (.t 131) (ci 5))]) .skip)) (.seq (.seq (.reg [
  ia 132 (.fad 0 (.t 2)),
 ia 133 (.ld 1 false (.t 132)),
 ia 134 (.bin .eql (.t 133) (ci 10))]) (.cond (.t 134) (.reg [
  ia 135 (.fad 0 (.t 7)),
 io (.st 1 (.t 135) (ci 8))]) .skip)) (.seq (.seq (.reg [
  ia 8 (.mv (ci 0))]) (.block 3 (.loop F85b1))) (.seq (.reg [
  ia 155 (.ld 4 true (.t 7)),
 io (.st 4 (.t 4) (.t 155))]) .ret))))))),[(.cell 4 4 true)]⟩
theorem cc85 : ccF Tryz.prog [(42,[0,0]),(107,[1,0]),(74,[0,0]),(36,[0,0,0,0,0,0,0,0,0]),(160,[0,0]),(42,[9]),(105,[8]),(107,[8]),(75,[8]),(106,[8]),(79,[8])] Tryz.f85 = some (stripF F85) := by kernel_rfl
def F86 : FnC := ⟨1,(.seq (.reg [
  ia 2 (.mv (.c (.a (.p (.b false)))))]) (.seq (.seq (.reg [
  ia 5 (.mv (.t 0)),
 ia 6 (.bin .eql (.t 5) (.c (.a (.p (.s [])))))]) (.cond (.t 6) (.seq (.reg [
  ia 2 (.mv (.c (.a (.p (.b false)))))]) .ret) .skip)) (.seq (.reg [
  ia 8 (.mv (.t 0)),
 ia 9 (.call (.f 113) [(.t 8),(ci 0)]),
 ia 7 (.mv (.t 9)),
 ia 10 (.ext (.t 7) 0),
 ia 11 (.ext (.t 7) 1),
 ia 3 (.new [(.p (.i .i64 0)),(.p (.s [])),(.p (.i .i64 0)),(.p (.i .i64 0))]),
 io (.st 4 (.t 3) (.t 10)),
 ia 4 (.mv (.t 11))]) (.seq (.reg [
  ia 12 (.mv (.t 4)),
 ia 13 (.bin .eql (.t 12) (ci 0)),
 ia 14 (.mv (.t 13)),
 ig 15 14 true (.fad 0 (.t 3)),
 ig 16 14 true (.ld 1 false (.t 15)),
 ig 17 14 true (.bin .eql (.t 16) (ci 2)),
 ia 18 (.pick (.t 14) (.t 17) (.c (.a (.p (.b false))))),
 ia 19 (.mv (.t 18)),
 ig 20 19 true (.fad 1 (.t 3)),
 ig 21 19 true (.ld 1 false (.t 20)),
 ig 22 19 true (.mv (.t 0)),
 ig 23 19 true (.bin .eql (.t 21) (.t 22)),
 ia 24 (.pick (.t 19) (.t 23) (.c (.a (.p (.b false))))),
 ia 2 (.mv (.t 24))]) .ret)))),[(.tmp 2)]⟩
theorem cc86 : ccF Tryz.prog [(42,[0,0]),(107,[1,0]),(74,[0,0]),(36,[0,0,0,0,0,0,0,0,0]),(160,[0,0]),(42,[9]),(105,[8]),(107,[8]),(75,[8]),(106,[8]),(79,[8])] Tryz.f86 = some (stripF F86) := by kernel_rfl
def F87b0 : C := (.seq (.seq (.reg [
  ia 35 (.mv (.t 8)),
 ia 36 (.fad 0 (.t 7)),
 ia 37 (.ld 1 false (.t 36)),
 ia 38 (.len false (.t 37)),
 ia 39 (.bin .lss (.t 35) (.t 38))]) (.cond (.t 39) .skip (.exit 0))) (.seq (.block 1 (.seq (.reg [
  ia 42 (.fad 0 (.t 7)),
 ia 43 (.ld 1 false (.t 42)),
 ia 44 (.mv (.t 8)),
 ia 45 (.ias 6 (.t 43) (.t 44)),
 ia 46 (.fad 0 (.t 45)),
 ia 47 (.ld 1 false (.t 46)),
 ia 48 (.bin .eql (.t 47) (ci 0))]) (.cond (.t 48) (.seq (.reg [
  ia 49 (.fad 0 (.t 7)),
 ia 50 (.ld 1 false (.t 49)),
 ia 51 (.mv (.t 8)),
 ia 52 (.ld 6 true (.t 3)),
 ia 53 (.ias 6 (.t 50) (.t 51)),
 io (.st 6 (.t 53) (.t 52))]) (.seq (.reg [
  ia 54 (.ld 2 true (.t 7)),
 ia 55 (.mv (.t 8)),
 io (.st 2 (.t 4) (.t 54)),
 ia 5 (.mv (.t 55)),
 ia 6 (.mv (ci 0))]) .ret)) .skip))) (.reg [
  ia 40 (.mv (.t 8)),
 ia 41 (.bin .add (.t 40) (ci 1)),
 ia 8 (.mv (.t 41))])))
def F87 : FnC := ⟨2,(.seq (.reg [
  ia 2 (.box 2 (.t 0)),
 ia 3 (.box 6 (.t 1)),
 ia 4 (.new [.nil,(.p (.i .i64 0))]),
 ia 5 (.mv (ci 0)),
 ia 6 (.mv (ci 0))]) (.seq (.seq (.reg [
  ia 9 (.fad 0 (.t 3)),
 ia 10 (.ld 1 false (.t 9)),
 ia 11 (.bin .lss (.t 10) (ci 2)),
 ia 12 (.mv (.t 11)),
 ig 13 12 false (.ld 6 true (.t 3)),
 ig 14 12 false (.call (.f 33) [(.t 13)]),
 ig 15 12 false (.not (.t 14)),
 ia 16 (.pick (.t 12) (.c (.a (.p (.b true)))) (.t 15))]) (.cond (.t 16) (.seq (.reg [
  ia 17 (.ld 2 true (.t 2)),
 io (.st 2 (.t 4) (.t 17)),
 ia 5 (.mv (ci 0)),
 ia 6 (.mv (ci 122))]) .ret) .skip)) (.seq (.seq (.reg [
  ir 18 (.ld 2 true (.t 2)),
 ir 19 (.call (.f 127) [(.t 18)]),
 ir 20 (.fad 1 (.t 2)),
 ir 21 (.ld 1 false (.t 20)),
 ia 22 (.bin .geq (.t 19) (.t 21))]) (.cond (.t 22) (.seq (.reg [
  ia 23 (.ld 2 true (.t 2)),
 io (.st 2 (.t 4) (.t 23)),
 ia 5 (.mv (ci 0)),
 ia 6 (.mv (ci 121))]) .ret) .skip)) (.seq (.reg [
  ia 24 (.ld 2 true (.t 2)),
 ia 25 (.call (.f 128) [(.t 24)]),
 ia 7 (.new [.nil,(.p (.i .i64 0))]),
 io (.st 2 (.t 7) (.t 25))]) (.seq (.reg [
  ia 26 (.ld 6 true (.t 3)),
 ia 27 (.call (.f 34) [(.t 26)]),
 ia 28 (.mslF 2 42 16 [(.p (.i .i64 0)),(.p (.i .i64 0))] (.t 27) (.t 27)),
 ia 29 (.fad 5 (.t 3)),
 io (.st 1 (.t 29) (.t 28))]) (.seq (.reg [
  ia 30 (.bsl 2 107 [(.p (.s [])),(.p (.i .i64 0))] 0 []),
 ia 31 (.fad 4 (.t 3)),
 ia 32 (.ld 1 false (.t 31)),
 ia 33 (.app 2 107 24 (.t 30) (.t 32)),
 ia 34 (.fad 4 (.t 3)),
 io (.st 1 (.t 34) (.t 33))]) (.seq (.seq (.reg [
  ia 8 (.mv (ci 0))]) (.block 0 (.loop F87b0))) (.seq (.reg [
  ia 56 (.fad 0 (.t 7)),
 ia 57 (.ld 1 false (.t 56)),
 ia 58 (.ld 6 true (.t 3)),
 ia 59 (.bsl 6 46 [(.p (.i .i64 0)),(.p (.i .i64 0)),(.p (.i .i64 0)),(.p (.s [])),.nil,.nil] 1 [(0,(.t 58))]),
 ia 60 (.app 6 46 88 (.t 57) (.t 59)),
 ia 61 (.fad 0 (.t 7)),
 io (.st 1 (.t 61) (.t 60))]) (.seq (.reg [
  ir 62 (.ld 2 true (.t 7)),
 ir 63 (.fad 0 (.t 7)),
 ir 64 (.ld 1 false (.t 63)),
 ir 65 (.len false (.t 64)),
 ir 66 (.bin .sub (.t 65) (ci 1)),
 ⟨.none,.none,(.st 2 (.t 4) (.t 62)),(.wr [63])⟩,
 ia 5 (.mv (.t 66)),
 ia 6 (.mv (ci 0))]) .ret))))))))),[(.cell 4 2 true),(.tmp 5),(.tmp 6)]⟩
theorem cc87 : ccF Tryz.prog [(42,[0,0]),(107,[1,0]),(74,[0,0]),(36,[0,0,0,0,0,0,0,0,0]),(160,[0,0]),(42,[9]),(105,[8]),(107,[8]),(75,[8]),(106,[8]),(79,[8])] Tryz.f87 = some (stripF F87) := by kernel_rfl
def F88 : FnC := ⟨1,(.seq (.reg [
  ia 2 (.new [.nil,(.p (.i .i64 0)),(.p (.i .i64 0)),(.p (.i .i64 0)),.nil,(.p (.i .i64 0))])]) (.seq (.reg [
  ia 3 (.mv (.t 0)),
 ia 4 (.build [.nil,(.p (.i .i64 0)),(.p (.i .i64 0)),(.p (.i .i64 0)),.nil,(.p (.i .i64 0))] [(5,(1,(.t 3)))]),
 io (.st 6 (.t 2) (.t 4))]) .ret)),[(.cell 2 6 true)]⟩
theorem cc88 : ccF Tryz.prog [(42,[0,0]),(107,[1,0]),(74,[0,0]),(36,[0,0,0,0,0,0,0,0,0]),(160,[0,0]),(42,[9]),(105,[8]),(107,[8]),(75,[8]),(106,[8]),(79,[8])] Tryz.f88 = some (stripF F88) := by kernel_rfl
def F89b0 : C := (.seq (.seq (.reg [
  ia 6 (.mv (.t 5)),
 ia 7 (.mv (.t 0)),
 ia 8 (.len false (.t 7)),
 ia 9 (.bin .lss (.t 6) (.t 8))]) (.cond (.t 9) .skip (.exit 0))) (.seq (.block 1 (.seq (.reg [
  ia 12 (.mv (.t 0)),
 ia 13 (.mv (.t 5)),
 ia 14 (.ias 3 (.t 12) (.t 13)),
 ia 15 (.fad 0 (.t 14)),
 ia 16 (.ld 1 false (.t 15)),
 ia 17 (.mv (.t 1)),
 ia 18 (.bin .eql (.t 16) (.t 17))]) (.cond (.t 18) (.seq (.reg [
  ia 19 (.mv (.t 5)),
 ia 4 (.mv (.t 19))]) .ret) .skip))) (.reg [
  ia 10 (.mv (.t 5)),
 ia 11 (.bin .add (.t 10) (ci 1)),
 ia 5 (.mv (.t 11))])))
def F89 : FnC := ⟨2,(.seq (.reg [
  ia 4 (.mv (ci 0))]) (.seq (.seq (.reg [
  ia 5 (.mv (ci 0))]) (.block 0 (.loop F89b0))) (.seq (.reg [
  ia 4 (.mv (.c (.a (.p (.i .i64 (-1))))))]) .ret))),[(.tmp 4)]⟩
theorem cc89 : ccF Tryz.prog [(42,[0,0]),(107,[1,0]),(74,[0,0]),(36,[0,0,0,0,0,0,0,0,0]),(160,[0,0]),(42,[9]),(105,[8]),(107,[8]),(75,[8]),(106,[8]),(79,[8])] Tryz.f89 = some (stripF F89) := by kernel_rfl
def F90 : FnC := ⟨4,(.seq (.reg [
  ia 4 (.box 2 (.t 0)),
 ia 5 (.box 4 (.t 1)),
 ia 8 (.new [.nil,(.p (.i .i64 0)),(.p (.i .i64 0)),(.p (.i .i64 0)),.nil,(.p (.i .i64 0))])]) (.seq (.reg [
  ia 10 (.fad 3 (.t 5)),
 ia 11 (.ld 1 false (.t 10)),
 ia 12 (.mv (.t 2)),
 ia 13 (.ias 4 (.t 11) (.t 12)),
 ia 14 (.ld 4 true (.t 13)),
 ia 9 (.new [(.p (.i .i64 0)),(.p (.i .i64 0)),(.p (.s [])),.nil]),
 io (.st 4 (.t 9) (.t 14))]) (.seq (.seq (.reg [
  ia 15 (.fad 0 (.t 5)),
 ia 16 (.ld 1 false (.t 15)),
 ia 17 (.bin .eql (.t 16) (ci 4)),
 ia 18 (.mv (.t 17)),
 ig 19 18 false (.fad 0 (.t 5)),
 ig 20 18 false (.ld 1 false (.t 19)),
 ig 21 18 false (.bin .eql (.t 20) (ci 3)),
 ig 22 18 false (.mv (.t 21)),
 ig 23 22 true (.mv (.t 2)),
 ig 24 22 true (.bin .eql (.t 23) (ci 1)),
 ig 25 18 false (.pick (.t 22) (.t 24) (.c (.a (.p (.b false))))),
 ia 26 (.pick (.t 18) (.c (.a (.p (.b true)))) (.t 25))]) (.cond (.t 26) (.seq (.reg [
  ia 27 (.ld 2 true (.t 4)),
 ia 28 (.ld 4 true (.t 9)),
 ia 29 (.mv (.t 3)),
 ia 30 (.bin .add (.t 29) (ci 1)),
 ia 31 (.call (.f 26) [(.t 27),(.t 28),(.t 30)]),
 ia 32 (.mv (.t 3)),
 ia 33 (.call (.f 129) [(.t 31),(.t 32)]),
 io (.st 6 (.t 8) (.t 33))]) .ret) .skip)) (.seq (.seq (.reg [
  ia 34 (.fad 0 (.t 5)),
 ia 35 (.ld 1 false (.t 34)),
 ia 36 (.bin .eql (.t 35) (ci 5)),
 ia 37 (.mv (.t 36)),
 ig 38 37 true (.mv (.t 2)),
 ig 39 37 true (.bin .gtr (.t 38) (ci 0)),
 ia 40 (.pick (.t 37) (.t 39) (.c (.a (.p (.b false)))))]) (.cond (.t 40) (.seq (.reg [
  ir 41 (.ld 2 true (.t 4)),
 ir 42 (.fad 3 (.t 9)),
 ir 43 (.ld 1 false (.t 42)),
 ir 44 (.ias 4 (.t 43) (ci 0)),
 ir 45 (.ld 4 true (.t 44)),
 ir 46 (.fad 1 (.t 9)),
 ir 47 (.ld 1 false (.t 46)),
 ir 48 (.mv (.t 3)),
 ia 49 (.call (.f 49) [(.t 41),(.t 45),(.t 47),(.t 48)]),
 io (.st 6 (.t 8) (.t 49))]) .ret) .skip)) (.seq (.reg [
  ia 50 (.ld 2 true (.t 4)),
 ia 51 (.ld 4 true (.t 9)),
 ia 52 (.mv (.t 3)),
 ia 53 (.call (.f 26) [(.t 50),(.t 51),(.t 52)]),
 io (.st 6 (.t 8) (.t 53))]) .ret))))),[(.cell 8 6 true)]⟩
theorem cc90 : ccF Tryz.prog [(42,[0,0]),(107,[1,0]),(74,[0,0]),(36,[0,0,0,0,0,0,0,0,0]),(160,[0,0]),(42,[9]),(105,[8]),(107,[8]),(75,[8]),(106,[8]),(79,[8])] Tryz.f90 = some (stripF F90) := by kernel_rfl
def F91b0 : C := (.seq (.seq (.reg [
  ia 12 (.mv (.t 7)),
 ia 13 (.fad 4 (.t 3)),
 ia 14 (.ld 1 false (.t 13)),
 ia 15 (.len false (.t 14)),
 ia 16 (.bin .lss (.t 12) (.t 15)),
 ia 17 (.mv (.t 16)),
 ig 18 17 true (.fad 5 (.t 3)),
 ig 19 17 true (.ld 1 false (.t 18)),
 ig 20 17 true (.bin .eql (.t 19) (ci 0)),
 ia 21 (.pick (.t 17) (.t 20) (.c (.a (.p (.b false)))))]) (.cond (.t 21) .skip (.exit 0))) (.seq (.block 1 (.seq (.reg [
  ia 24 (.mv (.t 1)),
 ia 25 (.fad 4 (.t 3)),
 ia 26 (.ld 1 false (.t 25)),
 ia 27 (.mv (.t 7)),
 ia 28 (.ias 3 (.t 26) (.t 27)),
 ia 29 (.fad 0 (.t 28)),
 ia 30 (.ld 1 false (.t 29)),
 ia 31 (.call (.f 89) [(.t 24),(.t 30)]),
 ia 8 (.mv (.t 31))]) (.seq (.seq (.reg [
  ia 32 (.mv (.t 8)),
 ia 33 (.bin .lss (.t 32) (ci 0))]) (.cond (.t 33) (.seq (.reg [
  ia 34 (.mv (.t 1)),
 ia 35 (.fad 4 (.t 3)),
 ia 36 (.ld 1 false (.t 35)),
 ia 37 (.mv (.t 7)),
 ia 38 (.ias 3 (.t 36) (.t 37)),
 ia 39 (.ld 3 true (.t 38)),
 ia 40 (.call (.f 130) [(.t 34),(.t 39)]),
 ia 1 (.mv (.t 40))]) (.exit 1)) .skip)) (.seq (.reg [
  ia 42 (.fad 0 (.t 3)),
 ia 43 (.ld 2 true (.t 42)),
 ia 44 (.mv (.t 2)),
 ia 45 (.build [(.p (.i .i64 0)),(.p (.i .i64 0)),(.p (.i .i64 0)),(.p (.s [])),.nil,.nil] [(0,(1,(ci 4))),(1,(1,(.t 44)))]),
 ia 46 (.call (.f 48) [(.t 43),(.t 45)]),
 ia 41 (.mv (.t 46)),
 ia 47 (.ext (.t 41) 0),
 ia 48 (.ext (.t 41) 1),
 ia 49 (.ext (.t 41) 2),
 ia 9 (.new [.nil,(.p (.i .i64 0))]),
 io (.st 2 (.t 9) (.t 47)),
 ia 10 (.mv (.t 48)),
 ia 11 (.mv (.t 49))]) (.seq (.reg [
  ia 50 (.mv (.t 11)),
 ia 51 (.fad 5 (.t 3)),
 io (.st 1 (.t 51) (.t 50))]) (.seq (.reg [
  ir 52 (.ld 2 true (.t 9)),
 ir 53 (.mv (.t 10)),
 ir 54 (.call (.f 28) [(.t 53),(ci 1)]),
 ir 55 (.mv (.t 1)),
 ir 56 (.mv (.t 8)),
 ir 57 (.ias 3 (.t 55) (.t 56)),
 ir 58 (.fad 1 (.t 57)),
 ir 59 (.ld 2 true (.t 58)),
 ir 60 (.call (.f 27) [(.t 52),(.t 54),(.t 59)]),
 ir 61 (.mv (.t 10)),
 ir 62 (.call (.f 28) [(.t 61),(ci 2)]),
 ir 63 (.fad 4 (.t 3)),
 ir 64 (.ld 1 false (.t 63)),
 ir 65 (.mv (.t 7)),
 ir 66 (.ias 3 (.t 64) (.t 65)),
 ir 67 (.fad 1 (.t 66)),
 ir 68 (.ld 2 true (.t 67)),
 ia 69 (.call (.f 27) [(.t 60),(.t 62),(.t 68)]),
 ia 70 (.fad 0 (.t 3)),
 io (.st 2 (.t 70) (.t 69))]) (.seq (.reg [
  ia 71 (.bsl 3 104 [(.p (.i .i64 0)),(.p (.i .i64 0)),(.p (.i .i64 0))] 0 []),
 ia 72 (.mv (.t 1)),
 ia 73 (.app 3 104 24 (.t 71) (.t 72)),
 ia 1 (.mv (.t 73))]) (.reg [
  ia 74 (.mv (.t 1)),
 ia 75 (.mv (.t 8)),
 ia 76 (.mv (.t 10)),
 ia 77 (.call (.f 28) [(.t 76),(ci 0)]),
 ia 78 (.ias 3 (.t 74) (.t 75)),
 ia 79 (.fad 1 (.t 78)),
 io (.st 2 (.t 79) (.t 77))])))))))) (.reg [
  ia 22 (.mv (.t 7)),
 ia 23 (.bin .add (.t 22) (ci 1)),
 ia 7 (.mv (.t 23))])))
def F91 : FnC := ⟨3,(.seq (.reg [
  ia 3 (.box 6 (.t 0)),
 ia 6 (.new [.nil,(.p (.i .i64 0)),(.p (.i .i64 0)),(.p (.i .i64 0)),.nil,(.p (.i .i64 0))])]) (.seq (.seq (.reg [
  ia 7 (.mv (ci 0))]) (.block 0 (.loop F91b0))) (.seq (.reg [
  ia 80 (.mv (.t 1)),
 ia 81 (.fad 4 (.t 3)),
 io (.st 1 (.t 81) (.t 80))]) (.seq (.reg [
  ia 82 (.ld 6 true (.t 3)),
 io (.st 6 (.t 6) (.t 82))]) .ret)))),[(.cell 6 6 true)]⟩
theorem cc91 : ccF Tryz.prog [(42,[0,0]),(107,[1,0]),(74,[0,0]),(36,[0,0,0,0,0,0,0,0,0]),(160,[0,0]),(42,[9]),(105,[8]),(107,[8]),(75,[8]),(106,[8]),(79,[8])] Tryz.f91 = some (stripF F91) := by kernel_rfl
def F92 : FnC := ⟨3,(.seq (.reg [
  ia 3 (.box 2 (.t 0)),
 ia 4 (.box 2 (.t 1)),
 ia 5 (.box 2 (.t 2)),
 ia 6 (.new [.nil,(.p (.i .i64 0))])]) (.seq (.reg [
  ia 9 (.ld 2 true (.t 3)),
 ia 10 (.call (.f 128) [(.t 9)]),
 ia 7 (.new [.nil,(.p (.i .i64 0))]),
 io (.st 2 (.t 7) (.t 10))]) (.seq (.reg [
  ia 11 (.bsl 2 42 [(.p (.i .i64 0)),(.p (.i .i64 0))] 0 []),
 ia 12 (.fad 0 (.t 7)),
 ia 13 (.ld 1 false (.t 12)),
 ia 14 (.fad 0 (.t 4)),
 ia 15 (.ld 1 false (.t 14)),
 ia 16 (.ias 6 (.t 13) (.t 15)),
 ia 17 (.fad 5 (.t 16)),
 ia 18 (.ld 1 false (.t 17)),
 ia 19 (.app 2 42 16 (.t 11) (.t 18)),
 ia 8 (.mv (.t 19))]) (.seq (.reg [
  ia 20 (.mv (.t 8)),
 ia 21 (.fad 1 (.t 4)),
 ia 22 (.ld 1 false (.t 21)),
 ia 23 (.ld 2 true (.t 5)),
 ia 24 (.ias 2 (.t 20) (.t 22)),
 io (.st 2 (.t 24) (.t 23))]) (.seq (.reg [
  ia 25 (.fad 0 (.t 7)),
 ia 26 (.ld 1 false (.t 25)),
 ia 27 (.fad 0 (.t 4)),
 ia 28 (.ld 1 false (.t 27)),
 ia 29 (.mv (.t 8)),
 ia 30 (.ias 6 (.t 26) (.t 28)),
 ia 31 (.fad 5 (.t 30)),
 io (.st 1 (.t 31) (.t 29))]) (.seq (.reg [
  ia 32 (.ld 2 true (.t 7)),
 io (.st 2 (.t 6) (.t 32))]) .ret)))))),[(.cell 6 2 true)]⟩
theorem cc92 : ccF Tryz.prog [(42,[0,0]),(107,[1,0]),(74,[0,0]),(36,[0,0,0,0,0,0,0,0,0]),(160,[0,0]),(42,[9]),(105,[8]),(107,[8]),(75,[8]),(106,[8]),(79,[8])] Tryz.f92 = some (stripF F92) := by kernel_rfl
def F93 : FnC := ⟨1,(.seq (.reg [
  ia 1 (.box 2 (.t 0)),
 ia 2 (.mv (.c (.a (.raw .nilFunc))))]) (.seq (.reg [
  ia 3 (.fn 131 [(.t 1)]),
 ia 2 (.mv (.t 3))]) .ret)),[(.tmp 2)]⟩
theorem cc93 : ccF Tryz.prog [(42,[0,0]),(107,[1,0]),(74,[0,0]),(36,[0,0,0,0,0,0,0,0,0]),(160,[0,0]),(42,[9]),(105,[8]),(107,[8]),(75,[8]),(106,[8]),(79,[8])] Tryz.f93 = some (stripF F93) := by kernel_rfl
def F94 : FnC := ⟨2,(.seq (.reg [
  ia 2 (.box 2 (.t 0)),
 ia 3 (.box 2 (.t 1)),
 ia 4 (.mv (.c (.a (.p (.b false)))))]) (.seq (.reg [
  ir 8 (.fad 0 (.t 2)),
 ir 9 (.ld 1 false (.t 8)),
 ir 10 (.fad 0 (.t 3)),
 ir 11 (.ld 1 false (.t 10)),
 ir 12 (.ias 6 (.t 9) (.t 11)),
 ir 13 (.ld 6 true (.t 12)),
 ir 14 (.fad 0 (.t 2)),
 ir 15 (.ld 1 false (.t 14)),
 ir 16 (.fad 1 (.t 3)),
 ir 17 (.ld 1 false (.t 16)),
 ir 18 (.ias 6 (.t 15) (.t 17)),
 ir 19 (.ld 6 true (.t 18)),
 ir 20 (.call (.f 39) [(.t 13),(.t 19)]),
 ir 7 (.mv (.t 20)),
 ir 21 (.ext (.t 7) 0),
 ir 22 (.ext (.t 7) 1),
 ⟨(.some 5),.none,(.new [(.p (.i .i64 0)),(.p (.b false)),(.p (.i .i64 0)),(.p (.i .i64 0)),(.p (.i .i64 0)),(.p (.i .i64 0)),(.p (.i .i64 0)),(.p (.s [])),.nil,.nil]),.ad⟩,
 ⟨.none,.none,(.st 10 (.t 5) (.t 21)),(.wr [])⟩,
 ia 6 (.mv (.t 22))]) (.seq (.reg [
  ia 23 (.mv (.t 6)),
 ia 24 (.bin .eql (.t 23) (ci 0)),
 ia 4 (.mv (.t 24))]) .ret))),[(.tmp 4)]⟩
theorem cc94 : ccF Tryz.prog [(42,[0,0]),(107,[1,0]),(74,[0,0]),(36,[0,0,0,0,0,0,0,0,0]),(160,[0,0]),(42,[9]),(105,[8]),(107,[8]),(75,[8]),(106,[8]),(79,[8])] Tryz.f94 = some (stripF F94) := by kernel_rfl
def F95b0 : C := (.block 1 (.seq (.reg [
  ia 25 (.fad 0 (.t 5)),
 ia 26 (.ld 1 false (.t 25)),
 ia 27 (.fad 1 (.t 4)),
 io (.st 1 (.t 27) (.t 26))]) (.seq (.seq (.reg [
  ia 28 (.fad 0 (.t 4)),
 ia 29 (.ld 1 false (.t 28)),
 ia 30 (.fad 0 (.t 5)),
 ia 31 (.ld 1 false (.t 30)),
 ia 32 (.call (.f 132) [(.t 29),(.t 31)])]) (.cond (.t 32) (.seq (.reg [
  ia 33 (.fad 3 (.t 4)),
 io (.st 1 (.t 33) (ci 191))]) (.seq (.reg [
  ia 34 (.ld 4 true (.t 4)),
 io (.st 4 (.t 4) (.t 34))]) .ret)) .skip)) (.seq (.reg [
  ia 35 (.fad 0 (.t 4)),
 ia 36 (.ld 1 false (.t 35)),
 ia 37 (.fad 0 (.t 5)),
 ia 38 (.ld 1 false (.t 37)),
 ia 39 (.bsl 1 3 [(.p (.i .i64 0))] 1 [(0,(.t 38))]),
 ia 40 (.app 1 3 8 (.t 36) (.t 39)),
 ia 41 (.fad 0 (.t 4)),
 io (.st 1 (.t 41) (.t 40))]) (.seq (.block 2 (.seq (.reg [
  ia 43 (.fad 1 (.t 5)),
 ia 44 (.ld 1 false (.t 43)),
 ia 45 (.bin .eql (.t 44) (ci 0)),
 ia 42 (.mv (.t 45))]) (.cond (.t 42) (.seq (.reg [
  ia 46 (.ld 4 true (.t 4)),
 io (.st 4 (.t 4) (.t 46))]) .ret) (.seq (.reg [
  ir 48 (.fad 0 (.t 2)),
 ir 49 (.ld 1 false (.t 48)),
 ir 50 (.fad 0 (.t 5)),
 ir 51 (.ld 1 false (.t 50)),
 ir 52 (.ias 6 (.t 49) (.t 51)),
 ir 53 (.ld 6 true (.t 52)),
 ir 54 (.fad 1 (.t 5)),
 ir 55 (.ld 1 false (.t 54)),
 ia 56 (.call (.f 133) [(.t 53),(.t 55)]),
 ia 57 (.not (.t 56)),
 ia 47 (.mv (.t 57))]) (.cond (.t 47) (.seq (.reg [
  ia 58 (.fad 3 (.t 4)),
 io (.st 1 (.t 58) (ci 190))]) (.seq (.reg [
  ia 59 (.ld 4 true (.t 4)),
 io (.st 4 (.t 4) (.t 59))]) .ret)) .skip))))) (.seq (.reg [
  ia 61 (.ld 2 true (.t 2)),
 ia 62 (.fad 0 (.t 5)),
 ia 63 (.ld 1 false (.t 62)),
 ia 64 (.build [(.p (.i .i64 0)),(.p (.i .i64 0))] [(0,(1,(.t 63)))]),
 ia 65 (.call (.f 60) [(.t 61),(.t 64)]),
 ia 60 (.mv (.t 65)),
 ia 66 (.ext (.t 60) 0),
 ia 67 (.ext (.t 60) 1),
 io (.st 2 (.t 5) (.t 66))]) (.seq (.reg [
  ia 68 (.fad 1 (.t 5)),
 ia 69 (.ld 1 false (.t 68)),
 ia 70 (.bin .eql (.t 69) (ci 0)),
 ia 71 (.fad 2 (.t 4)),
 io (.st 1 (.t 71) (.t 70))]) (.seq (.reg [
  ia 72 (.fad 2 (.t 4)),
 ia 73 (.ld 1 false (.t 72))]) (.cond (.t 73) (.seq (.reg [
  ia 74 (.ld 4 true (.t 4)),
 io (.st 4 (.t 4) (.t 74))]) .ret) .skip)))))))))
def F95 : FnC := ⟨2,(.seq (.reg [
  ia 2 (.box 2 (.t 0)),
 ia 3 (.box 2 (.t 1)),
 ia 4 (.new [.nil,(.p (.i .i64 0)),(.p (.b false)),(.p (.i .i64 0))])]) (.seq (.seq (.reg [
  ia 7 (.ld 2 true (.t 2)),
 ia 8 (.call (.f 37) [(.t 7)]),
 ia 9 (.fad 3 (.t 4)),
 io (.st 1 (.t 9) (.t 8))]) (.seq (.reg [
  ia 10 (.fad 3 (.t 4)),
 ia 11 (.ld 1 false (.t 10)),
 ia 12 (.bin .neq (.t 11) (ci 0))]) (.cond (.t 12) (.seq (.reg [
  ia 13 (.ld 4 true (.t 4)),
 io (.st 4 (.t 4) (.t 13))]) .ret) .skip))) (.seq (.reg [
  ia 15 (.ld 2 true (.t 2)),
 ia 16 (.ld 2 true (.t 3)),
 ia 17 (.call (.f 60) [(.t 15),(.t 16)]),
 ia 14 (.mv (.t 17)),
 ia 18 (.ext (.t 14) 0),
 ia 19 (.ext (.t 14) 1),
 ia 5 (.new [(.p (.i .i64 0)),(.p (.i .i64 0))]),
 io (.st 2 (.t 5) (.t 18)),
 ia 6 (.mv (.t 19))]) (.seq (.seq (.reg [
  ia 20 (.mv (.t 6)),
 ia 21 (.bin .neq (.t 20) (ci 0))]) (.cond (.t 21) (.seq (.reg [
  ia 22 (.mv (.t 6)),
 ia 23 (.fad 3 (.t 4)),
 io (.st 1 (.t 23) (.t 22))]) (.seq (.reg [
  ia 24 (.ld 4 true (.t 4)),
 io (.st 4 (.t 4) (.t 24))]) .ret)) .skip)) (.block 0 (.loop F95b0)))))),[(.cell 4 4 true)]⟩
theorem cc95 : ccF Tryz.prog [(42,[0,0]),(107,[1,0]),(74,[0,0]),(36,[0,0,0,0,0,0,0,0,0]),(160,[0,0]),(42,[9]),(105,[8]),(107,[8]),(75,[8]),(106,[8]),(79,[8])] Tryz.f95 = some (stripF F95) := by kernel_rfl
def F96b1 : C := (.seq (.reg [
  ia 49 (.bin .lss (.t 48) (.t 47))]) (.seq (.cond (.t 49) .skip (.exit 2)) (.seq (.block 3 (.seq (.reg [
  ia 50 (.ias 2 (.t 46) (.t 48)),
 ia 51 (.ld 2 true (.t 50)),
 ia 7 (.new [(.p (.i .i64 0)),(.p (.i .i64 0))]),
 io (.st 2 (.t 7) (.t 51))]) (.reg [
  ia 52 (.mv (.t 0)),
 ia 53 (.fad 0 (.t 7)),
 ia 54 (.ld 1 false (.t 53)),
 ia 55 (.call (.f 134) [(.t 52),(.t 54)])]))) (.reg [
  ia 56 (.bin .add (.t 48) (ci 1)),
 ia 48 (.mv (.t 56))]))))
def F96b0 : C := (.seq (.seq (.reg [
  ia 11 (.mv (.t 0)),
 ia 12 (.nck (.t 11)),
 ia 13 (.fad 2 (.t 12)),
 ia 14 (.ld 1 false (.t 13)),
 ia 15 (.len false (.t 14)),
 ia 16 (.bin .gtr (.t 15) (ci 0))]) (.cond (.t 16) .skip (.exit 0))) (.block 1 (.seq (.reg [
  ia 17 (.mv (.t 0)),
 ia 18 (.nck (.t 17)),
 ia 19 (.fad 2 (.t 18)),
 ia 20 (.ld 1 false (.t 19)),
 ia 21 (.len false (.t 20)),
 ia 22 (.bin .sub (.t 21) (ci 1)),
 ia 4 (.mv (.t 22))]) (.seq (.reg [
  ia 23 (.mv (.t 0)),
 ia 24 (.nck (.t 23)),
 ia 25 (.fad 2 (.t 24)),
 ia 26 (.ld 1 false (.t 25)),
 ia 27 (.mv (.t 4)),
 ia 28 (.ias 1 (.t 26) (.t 27)),
 ia 29 (.ld 1 false (.t 28)),
 ia 5 (.mv (.t 29))]) (.seq (.reg [
  ia 30 (.mv (.t 0)),
 ia 31 (.mv (.t 0)),
 ia 32 (.nck (.t 31)),
 ia 33 (.fad 2 (.t 32)),
 ia 34 (.ld 1 false (.t 33)),
 ia 35 (.mv (.t 4)),
 ia 36 (.slc 1 3 (.t 34) .none (.some (.t 35)) .none),
 ia 37 (.nck (.t 30)),
 ia 38 (.fad 2 (.t 37)),
 io (.st 1 (.t 38) (.t 36))]) (.seq (.reg [
  ia 39 (.mv (.t 0)),
 ia 40 (.nck (.t 39)),
 ia 41 (.fad 0 (.t 40)),
 ia 42 (.ld 1 false (.t 41)),
 ia 43 (.mv (.t 5)),
 ia 44 (.ias 6 (.t 42) (.t 43)),
 ia 45 (.fad 5 (.t 44)),
 ia 46 (.ld 1 false (.t 45)),
 ia 47 (.len false (.t 46)),
 ia 48 (.mv (ci 0))]) (.block 2 (.loop F96b1))))))))
def F96 : FnC := ⟨2,(.seq (.reg [
  ia 8 (.mv (.t 0)),
 ia 9 (.mv (.t 1)),
 ia 10 (.call (.f 134) [(.t 8),(.t 9)])]) (.block 0 (.loop F96b0))),[]⟩
theorem cc96 : ccF Tryz.prog [(42,[0,0]),(107,[1,0]),(74,[0,0]),(36,[0,0,0,0,0,0,0,0,0]),(160,[0,0]),(42,[9]),(105,[8]),(107,[8]),(75,[8]),(106,[8]),(79,[8])] Tryz.f96 = some (stripF F96) := by kernel_rfl
def F97 : FnC := ⟨1,(.seq (.reg [
  ia 1 (.box 2 (.t 0)),
 ia 2 (.new [.nil,(.p (.i .i64 0))])]) (.seq (.reg [
  ir 3 (.fad 0 (.t 1)),
 ir 4 (.ld 1 false (.t 3)),
 ir 5 (.len false (.t 4)),
 ir 6 (.bin .add (.t 5) (ci 1)),
 ⟨(.some 7),.none,(.msl 6 46 88 [(.p (.i .i64 0)),(.p (.i .i64 0)),(.p (.i .i64 0)),(.p (.s [])),.nil,.nil] (ci 0) (.t 6)),.ad⟩,
 ir 8 (.fad 0 (.t 1)),
 ir 9 (.ld 1 false (.t 8)),
 ia 10 (.app 6 46 88 (.t 7) (.t 9)),
 ia 11 (.fad 0 (.t 1)),
 io (.st 1 (.t 11) (.t 10))]) (.seq (.reg [
  ia 12 (.ld 2 true (.t 1)),
 io (.st 2 (.t 2) (.t 12))]) .ret))),[(.cell 2 2 true)]⟩
theorem cc97 : ccF Tryz.prog [(42,[0,0]),(107,[1,0]),(74,[0,0]),(36,[0,0,0,0,0,0,0,0,0]),(160,[0,0]),(42,[9]),(105,[8]),(107,[8]),(75,[8]),(106,[8]),(79,[8])] Tryz.f97 = some (stripF F97) := by kernel_rfl
def F98b0 : C := (.seq (.reg [
  ia 17 (.bin .lss (.t 16) (.t 15))]) (.seq (.cond (.t 17) .skip (.exit 0)) (.seq (.block 1 (.seq (.reg [
  ia 18 (.mv (.t 16)),
 ia 19 (.ias 2 (.t 14) (.t 16)),
 ia 20 (.ld 2 true (.t 19)),
 ia 4 (.new [(.p (.s [])),(.p (.i .i64 0))]),
 ia 3 (.mv (.t 18)),
 io (.st 2 (.t 4) (.t 20))]) (.seq (.reg [
  ia 21 (.fn 135 [(.t 4)]),
 ia 5 (.mv (.t 21))]) (.seq (.reg [
  ia 22 (.fad 0 (.t 4)),
 ia 23 (.ld 1 false (.t 22)),
 ia 24 (.bin .eql (.t 23) (.c (.a (.p (.s []))))),
 ia 25 (.mv (.t 24)),
 ig 26 25 false (.fad 1 (.t 4)),
 ig 27 25 false (.ld 1 false (.t 26)),
 ig 28 25 false (.call (.f 56) [(.t 27),(ci 0),(ci 8)]),
 ig 29 25 false (.not (.t 28)),
 ia 30 (.pick (.t 25) (.c (.a (.p (.b true)))) (.t 29)),
 ia 31 (.mv (.t 30)),
 ig 32 31 false (.fad 4 (.t 1)),
 ig 33 31 false (.ld 1 false (.t 32)),
 ig 34 31 false (.mv (.t 3)),
 ig 35 31 false (.slc 2 107 (.t 33) .none (.some (.t 34)) .none),
 ig 36 31 false (.mv (.t 5)),
 ig 37 31 false (.call (.f 136) [(.t 35),(.t 36)]),
 ia 38 (.pick (.t 31) (.c (.a (.p (.b true)))) (.t 37))]) (.cond (.t 38) (.seq (.reg [
  ia 2 (.mv (.c (.a (.p (.b false)))))]) .ret) .skip))))) (.reg [
  ia 39 (.bin .add (.t 16) (ci 1)),
 ia 16 (.mv (.t 39))]))))
def F98 : FnC := ⟨1,(.seq (.reg [
  ia 1 (.box 6 (.t 0)),
 ia 2 (.mv (.c (.a (.p (.b false)))))]) (.seq (.seq (.reg [
  ia 6 (.fad 0 (.t 1)),
 ia 7 (.ld 1 false (.t 6)),
 ia 8 (.bin .neq (.t 7) (ci 9))]) (.cond (.t 8) (.seq (.reg [
  ia 9 (.fad 4 (.t 1)),
 ia 10 (.ld 1 false (.t 9)),
 ia 11 (.len false (.t 10)),
 ia 12 (.bin .eql (.t 11) (ci 0)),
 ia 2 (.mv (.t 12))]) .ret) .skip)) (.seq (.seq (.reg [
  ia 13 (.fad 4 (.t 1)),
 ia 14 (.ld 1 false (.t 13)),
 ia 15 (.len false (.t 14)),
 ia 16 (.mv (ci 0))]) (.block 0 (.loop F98b0))) (.seq (.reg [
  ia 40 (.fad 4 (.t 1)),
 ia 41 (.ld 1 false (.t 40)),
 ia 42 (.len false (.t 41)),
 ia 43 (.call (.f 56) [(.t 42),(ci 1),(ci 8)]),
 ia 2 (.mv (.t 43))]) .ret)))),[(.tmp 2)]⟩
theorem cc98 : ccF Tryz.prog [(42,[0,0]),(107,[1,0]),(74,[0,0]),(36,[0,0,0,0,0,0,0,0,0]),(160,[0,0]),(42,[9]),(105,[8]),(107,[8]),(75,[8]),(106,[8]),(79,[8])] Tryz.f98 = some (stripF F98) := by kernel_rfl
def F99 : FnC := ⟨0,(.seq (.reg [
  ia 0 (.new [(.p (.i .i64 0)),(.p (.i .i64 0)),(.p (.i .i64 0)),(.p (.i .i64 0)),(.p (.i .i64 0)),(.p (.i .i64 0)),(.p (.i .i64 0)),(.p (.i .i64 0)),(.p (.i .i64 0)),(.p (.i .i64 0)),(.p (.i .i64 0)),(.p (.i .i64 0)),(.p (.i .i64 0)),(.p (.i .i64 0))])]) (.seq (.reg [
  ia 1 (.build [(.p (.i .i64 0)),(.p (.i .i64 0)),(.p (.i .i64 0)),(.p (.i .i64 0)),(.p (.i .i64 0)),(.p (.i .i64 0)),(.p (.i .i64 0)),(.p (.i .i64 0)),(.p (.i .i64 0)),(.p (.i .i64 0)),(.p (.i .i64 0)),(.p (.i .i64 0)),(.p (.i .i64 0)),(.p (.i .i64 0))] [(1,(1,(ci 1))),(2,(1,(ci 3))),(3,(1,(ci 3))),(4,(1,(ci 3))),(5,(1,(ci 2))),(6,(1,(ci 2))),(7,(1,(ci 1))),(10,(1,(ci 1))),(11,(1,(ci 3))),(12,(1,(ci 2))),(13,(1,(ci 1)))]),
 io (.st 14 (.t 0) (.t 1))]) .ret)),[(.cell 0 14 true)]⟩
theorem cc99 : ccF Tryz.prog [(42,[0,0]),(107,[1,0]),(74,[0,0]),(36,[0,0,0,0,0,0,0,0,0]),(160,[0,0]),(42,[9]),(105,[8]),(107,[8]),(75,[8]),(106,[8]),(79,[8])] Tryz.f99 = some (stripF F99) := by kernel_rfl
def F100 : FnC := ⟨2,(.seq (.reg [
  ia 2 (.box 2 (.t 0)),
 ia 4 (.mv (.c (.a (.p (.b false)))))]) (.seq (.reg [
  ia 5 (.mv (.t 1)),
 ia 6 (.fn 138 [(.t 2)]),
 ia 7 (.call (.f 137) [(.t 5),(.t 6)]),
 ia 8 (.not (.t 7)),
 ia 4 (.mv (.t 8))]) .ret)),[(.tmp 4)]⟩
theorem cc100 : ccF Tryz.prog [(42,[0,0]),(107,[1,0]),(74,[0,0]),(36,[0,0,0,0,0,0,0,0,0]),(160,[0,0]),(42,[9]),(105,[8]),(107,[8]),(75,[8]),(106,[8]),(79,[8])] Tryz.f100 = some (stripF F100) := by kernel_rfl
def F101 : FnC := ⟨2,(.seq (.reg [
  ia 2 (.box 2 (.t 0)),
 ia 3 (.box 2 (.t 1)),
 ia 4 (.new [(.p (.i .i64 0)),(.p (.i .i64 0))])]) (.seq (.reg [
  ir 5 (.fad 0 (.t 2)),
 ir 6 (.fad 0 (.t 5)),
 ir 7 (.ld 1 false (.t 6)),
 ir 8 (.fad 0 (.t 3)),
 ir 9 (.ld 1 false (.t 8)),
 ir 10 (.ias 6 (.t 7) (.t 9)),
 ir 11 (.fad 5 (.t 10)),
 ir 12 (.ld 1 false (.t 11)),
 ir 13 (.fad 1 (.t 3)),
 ir 14 (.ld 1 false (.t 13)),
 ia 15 (.ias 2 (.t 12) (.t 14)),
 ia 16 (.ld 2 true (.t 15)),
 io (.st 2 (.t 4) (.t 16))]) .ret)),[(.cell 4 2 true)]⟩
theorem cc101 : ccF Tryz.prog [(42,[0,0]),(107,[1,0]),(74,[0,0]),(36,[0,0,0,0,0,0,0,0,0]),(160,[0,0]),(42,[9]),(105,[8]),(107,[8]),(75,[8]),(106,[8]),(79,[8])] Tryz.f101 = some (stripF F101) := by kernel_rfl
def F102 : FnC := ⟨2,(.seq (.reg [
  ia 2 (.box 6 (.t 0)),
 ia 3 (.box 6 (.t 1)),
 ia 4 (.new [(.p (.i .i64 0)),(.p (.b false)),(.p (.i .i64 0)),(.p (.i .i64 0)),(.p (.i .i64 0)),(.p (.i .i64 0)),(.p (.i .i64 0)),(.p (.s [])),.nil,.nil]),
 ia 5 (.mv (ci 0))]) (.seq (.seq (.reg [
  ia 7 (.fad 1 (.t 2)),
 ia 8 (.ld 1 false (.t 7)),
 ia 9 (.fad 1 (.t 3)),
 ia 10 (.ld 1 false (.t 9)),
 ia 11 (.bin .neq (.t 8) (.t 10))]) (.cond (.t 11) (.seq (.reg [
  ia 12 (.build [(.p (.i .i64 0)),(.p (.b false)),(.p (.i .i64 0)),(.p (.i .i64 0)),(.p (.i .i64 0)),(.p (.i .i64 0)),(.p (.i .i64 0)),(.p (.s [])),.nil,.nil] []),
 io (.st 10 (.t 4) (.t 12)),
 ia 5 (.mv (ci 140))]) .ret) .skip)) (.seq (.reg [
  ia 13 (.fad 4 (.t 2)),
 ia 14 (.ld 1 false (.t 13)),
 ia 15 (.fn 140 [(.t 3)]),
 ia 16 (.call (.f 139) [(.t 14),(.t 15)]),
 ia 6 (.mv (.t 16))]) (.seq (.seq (.reg [
  ia 17 (.mv (.t 6)),
 ia 18 (.bin .lss (.t 17) (ci 0))]) (.cond (.t 18) (.seq (.reg [
  ia 19 (.call (.f 65) [(ci 5)]),
 ia 20 (.ext (.t 19) 0),
 ia 21 (.ext (.t 19) 1),
 io (.st 10 (.t 4) (.t 20)),
 ia 5 (.mv (.t 21))]) .ret) .skip)) (.seq (.reg [
  ia 22 (.mv (.t 6)),
 ia 23 (.build [(.p (.i .i64 0)),(.p (.b false)),(.p (.i .i64 0)),(.p (.i .i64 0)),(.p (.i .i64 0)),(.p (.i .i64 0)),(.p (.i .i64 0)),(.p (.s [])),.nil,.nil] [(0,(1,(ci 2))),(3,(1,(.t 22)))]),
 io (.st 10 (.t 4) (.t 23)),
 ia 5 (.mv (ci 0))]) .ret))))),[(.cell 4 10 true),(.tmp 5)]⟩
theorem cc102 : ccF Tryz.prog [(42,[0,0]),(107,[1,0]),(74,[0,0]),(36,[0,0,0,0,0,0,0,0,0]),(160,[0,0]),(42,[9]),(105,[8]),(107,[8]),(75,[8]),(106,[8]),(79,[8])] Tryz.f102 = some (stripF F102) := by kernel_rfl
def F103 : FnC := ⟨2,(.seq (.reg [
  ia 2 (.box 6 (.t 0)),
 ia 3 (.box 6 (.t 1)),
 ia 4 (.new [(.p (.i .i64 0)),(.p (.b false)),(.p (.i .i64 0)),(.p (.i .i64 0)),(.p (.i .i64 0)),(.p (.i .i64 0)),(.p (.i .i64 0)),(.p (.s [])),.nil,.nil]),
 ia 5 (.mv (ci 0))]) (.seq (.reg [
  ia 7 (.build [(.p (.i .i64 0)),(.p (.i .i64 0)),(.p (.i .i64 0)),(.p (.s [])),.nil,.nil] [(0,(1,(ci 10)))]),
 ia 6 (.new [(.p (.i .i64 0)),(.p (.i .i64 0)),(.p (.i .i64 0)),(.p (.s [])),.nil,.nil]),
 io (.st 6 (.t 6) (.t 7))]) (.seq (.seq (.reg [
  ia 8 (.fad 3 (.t 2)),
 ia 9 (.ld 1 false (.t 8))]) (.block 0 (.seq (.reg [
  ia 11 (.bin .eql (.t 9) (.c (.a (.p (.s [43]))))),
 ia 10 (.mv (.t 11))]) (.cond (.t 10) (.reg [
  ia 12 (.fad 2 (.t 2)),
 ia 13 (.ld 1 false (.t 12)),
 ia 14 (.fad 2 (.t 3)),
 ia 15 (.ld 1 false (.t 14)),
 ia 16 (.bin .add (.t 13) (.t 15)),
 ia 17 (.fad 2 (.t 6)),
 io (.st 1 (.t 17) (.t 16))]) (.seq (.reg [
  ia 19 (.bin .eql (.t 9) (.c (.a (.p (.s [45]))))),
 ia 18 (.mv (.t 19))]) (.cond (.t 18) (.reg [
  ia 20 (.fad 2 (.t 2)),
 ia 21 (.ld 1 false (.t 20)),
 ia 22 (.fad 2 (.t 3)),
 ia 23 (.ld 1 false (.t 22)),
 ia 24 (.bin .sub (.t 21) (.t 23)),
 ia 25 (.fad 2 (.t 6)),
 io (.st 1 (.t 25) (.t 24))]) (.seq (.reg [
  ia 27 (.bin .eql (.t 9) (.c (.a (.p (.s [42]))))),
 ia 26 (.mv (.t 27))]) (.cond (.t 26) (.reg [
  ia 28 (.fad 2 (.t 2)),
 ia 29 (.ld 1 false (.t 28)),
 ia 30 (.fad 2 (.t 3)),
 ia 31 (.ld 1 false (.t 30)),
 ia 32 (.bin .mul (.t 29) (.t 31)),
 ia 33 (.fad 2 (.t 6)),
 io (.st 1 (.t 33) (.t 32))]) (.seq (.reg [
  ia 35 (.bin .eql (.t 9) (.c (.a (.p (.s [47]))))),
 ia 34 (.mv (.t 35))]) (.cond (.t 34) (.seq (.seq (.reg [
  ia 36 (.fad 2 (.t 3)),
 ia 37 (.ld 1 false (.t 36)),
 ia 38 (.bin .eql (.t 37) (ci 0))]) (.cond (.t 38) (.seq (.reg [
  ia 39 (.call (.f 65) [(ci 5)]),
 ia 40 (.ext (.t 39) 0),
 ia 41 (.ext (.t 39) 1),
 io (.st 10 (.t 4) (.t 40)),
 ia 5 (.mv (.t 41))]) .ret) .skip)) (.reg [
  ia 42 (.fad 2 (.t 2)),
 ia 43 (.ld 1 false (.t 42)),
 ia 44 (.fad 2 (.t 3)),
 ia 45 (.ld 1 false (.t 44)),
 ia 46 (.bin .quo (.t 43) (.t 45)),
 ia 47 (.fad 2 (.t 6)),
 io (.st 1 (.t 47) (.t 46))])) (.seq (.reg [
  ia 49 (.bin .eql (.t 9) (.c (.a (.p (.s [60]))))),
 ia 48 (.mv (.t 49))]) (.cond (.t 48) (.reg [
  ia 50 (.fad 2 (.t 2)),
 ia 51 (.ld 1 false (.t 50)),
 ia 52 (.fad 2 (.t 3)),
 ia 53 (.ld 1 false (.t 52)),
 ia 54 (.bin .lss (.t 51) (.t 53)),
 ia 55 (.call (.f 141) [(.t 54)]),
 io (.st 6 (.t 6) (.t 55))]) (.seq (.reg [
  ia 57 (.bin .eql (.t 9) (.c (.a (.p (.s [61,61]))))),
 ia 56 (.mv (.t 57))]) (.cond (.t 56) (.reg [
  ia 58 (.fad 2 (.t 2)),
 ia 59 (.ld 1 false (.t 58)),
 ia 60 (.fad 2 (.t 3)),
 ia 61 (.ld 1 false (.t 60)),
 ia 62 (.bin .eql (.t 59) (.t 61)),
 ia 63 (.call (.f 141) [(.t 62)]),
 io (.st 6 (.t 6) (.t 63))]) .skip)))))))))))))) (.seq (.reg [
  ia 64 (.fad 1 (.t 2)),
 ia 65 (.ld 1 false (.t 64)),
 ia 66 (.fad 1 (.t 6)),
 io (.st 1 (.t 66) (.t 65))]) (.seq (.reg [
  ia 67 (.ld 6 true (.t 6)),
 ia 68 (.build [(.p (.i .i64 0)),(.p (.b false)),(.p (.i .i64 0)),(.p (.i .i64 0)),(.p (.i .i64 0)),(.p (.i .i64 0)),(.p (.i .i64 0)),(.p (.s [])),.nil,.nil] [(0,(1,(ci 4))),(4,(6,(.t 67)))]),
 io (.st 10 (.t 4) (.t 68)),
 ia 5 (.mv (ci 0))]) .ret))))),[(.cell 4 10 true),(.tmp 5)]⟩
theorem cc103 : ccF Tryz.prog [(42,[0,0]),(107,[1,0]),(74,[0,0]),(36,[0,0,0,0,0,0,0,0,0]),(160,[0,0]),(42,[9]),(105,[8]),(107,[8]),(75,[8]),(106,[8]),(79,[8])] Tryz.f103 = some (stripF F103) := by kernel_rfl
def F104 : FnC := ⟨3,(.seq (.reg [
  ia 4 (.box 2 (.t 1)),
 ia 5 (.box 2 (.t 2))]) (.reg [
  ir 7 (.mv (.t 0)),
 ir 8 (.mv (.t 0)),
 ir 9 (.nck (.t 8)),
 ir 10 (.fad 0 (.t 9)),
 ir 11 (.ld 2 true (.t 10)),
 ir 12 (.ld 2 true (.t 4)),
 ir 13 (.ld 2 true (.t 5)),
 ir 14 (.call (.f 142) [(.t 11),(.t 12),(.t 13)]),
 ir 6 (.mv (.t 14)),
 ir 15 (.ext (.t 6) 0),
 ir 16 (.ext (.t 6) 1),
 ir 17 (.nck (.t 7)),
 ir 18 (.fad 0 (.t 17)),
 ⟨.none,.none,(.st 2 (.t 18) (.t 15)),(.wr [])⟩])),[]⟩
theorem cc104 : ccF Tryz.prog [(42,[0,0]),(107,[1,0]),(74,[0,0]),(36,[0,0,0,0,0,0,0,0,0]),(160,[0,0]),(42,[9]),(105,[8]),(107,[8]),(75,[8]),(106,[8]),(79,[8])] Tryz.f104 = some (stripF F104) := by kernel_rfl
def F105 : FnC := ⟨2,(.seq (.reg [
  ia 4 (.new [(.p (.i .i64 0)),(.p (.i .i64 0)),(.p (.i .i64 0)),(.p (.s [])),.nil,.nil])]) (.seq (.reg [
  ia 5 (.mv (.t 0)),
 ia 6 (.nck (.t 5)),
 ia 7 (.fad 0 (.t 6)),
 ia 8 (.fad 0 (.t 7)),
 ia 9 (.ld 1 false (.t 8)),
 ia 10 (.mv (.t 1)),
 ia 11 (.ias 6 (.t 9) (.t 10)),
 ia 12 (.ld 6 true (.t 11)),
 io (.st 6 (.t 4) (.t 12))]) .ret)),[(.cell 4 6 true)]⟩
theorem cc105 : ccF Tryz.prog [(42,[0,0]),(107,[1,0]),(74,[0,0]),(36,[0,0,0,0,0,0,0,0,0]),(160,[0,0]),(42,[9]),(105,[8]),(107,[8]),(75,[8]),(106,[8]),(79,[8])] Tryz.f105 = some (stripF F105) := by kernel_rfl
def F106b0 : C := (.seq (.reg [
  ia 10 (.bin .lss (.t 9) (.t 8))]) (.seq (.cond (.t 10) .skip (.exit 0)) (.seq (.block 1 (.reg [
  ia 11 (.mv (.t 7)),
 ia 12 (.mv (.t 0)),
 ia 13 (.ld 6 true (.t 4)),
 ia 14 (.call (.f 75) [(.t 12),(.t 13)]),
 ia 15 (.bsl 1 3 [(.p (.i .i64 0))] 1 [(0,(.t 14))]),
 ia 16 (.app 1 3 8 (.t 11) (.t 15)),
 ia 7 (.mv (.t 16))])) (.reg [
  ia 17 (.bin .add (.t 9) (ci 1)),
 ia 9 (.mv (.t 17))]))))
def F106 : FnC := ⟨3,(.seq (.reg [
  ia 4 (.box 6 (.t 1)),
 ia 6 (.mv (.c (.a .nil)))]) (.seq (.reg [
  ia 7 (.mv (.c (.a .nil)))]) (.seq (.seq (.reg [
  ia 8 (.mv (.t 2)),
 ia 9 (.mv (ci 0))]) (.block 0 (.loop F106b0))) (.seq (.reg [
  ia 18 (.mv (.t 7)),
 ia 6 (.mv (.t 18))]) .ret)))),[(.tmp 6)]⟩
theorem cc106 : ccF Tryz.prog [(42,[0,0]),(107,[1,0]),(74,[0,0]),(36,[0,0,0,0,0,0,0,0,0]),(160,[0,0]),(42,[9]),(105,[8]),(107,[8]),(75,[8]),(106,[8]),(79,[8])] Tryz.f106 = some (stripF F106) := by kernel_rfl
def F107 : FnC := ⟨1,(.seq (.reg [
  ia 2 (.mv (ci 0))]) (.seq (.reg [
  ia 3 (.mv (.t 0)),
 ia 4 (.mv (.t 0)),
 ia 5 (.nck (.t 4)),
 ia 6 (.fad 12 (.t 5)),
 ia 7 (.ld 1 false (.t 6)),
 ia 8 (.call (.f 105) [(.t 3),(.t 7)]),
 ia 9 (.fld 1 1 false (.t 8)),
 ia 2 (.mv (.t 9))]) .ret)),[(.tmp 2)]⟩
theorem cc107 : ccF Tryz.prog [(42,[0,0]),(107,[1,0]),(74,[0,0]),(36,[0,0,0,0,0,0,0,0,0]),(160,[0,0]),(42,[9]),(105,[8]),(107,[8]),(75,[8]),(106,[8]),(79,[8])] Tryz.f107 = some (stripF F107) := by kernel_rfl
def F108 : FnC := ⟨3,(.seq (.reg [
  ia 4 (.box 2 (.t 1)),
 ia 5 (.box 2 (.t 2))]) (.reg [
  ir 7 (.mv (.t 0)),
 ir 8 (.mv (.t 0)),
 ir 9 (.nck (.t 8)),
 ir 10 (.fad 0 (.t 9)),
 ir 11 (.ld 2 true (.t 10)),
 ir 12 (.ld 2 true (.t 4)),
 ir 13 (.ld 2 true (.t 5)),
 ir 14 (.call (.f 143) [(.t 11),(.t 12),(.t 13)]),
 ir 6 (.mv (.t 14)),
 ir 15 (.ext (.t 6) 0),
 ir 16 (.ext (.t 6) 1),
 ir 17 (.nck (.t 7)),
 ir 18 (.fad 0 (.t 17)),
 ⟨.none,.none,(.st 2 (.t 18) (.t 15)),(.wr [])⟩])),[]⟩
theorem cc108 : ccF Tryz.prog [(42,[0,0]),(107,[1,0]),(74,[0,0]),(36,[0,0,0,0,0,0,0,0,0]),(160,[0,0]),(42,[9]),(105,[8]),(107,[8]),(75,[8]),(106,[8]),(79,[8])] Tryz.f108 = some (stripF F108) := by kernel_rfl
def F109 : FnC := ⟨3,(.seq (.reg [
  ia 3 (.box 2 (.t 0)),
 ia 4 (.box 2 (.t 1)),
 ia 5 (.box 2 (.t 2)),
 ia 6 (.new [.nil,(.p (.i .i64 0))]),
 ia 7 (.mv (ci 0))]) (.seq (.reg [
  ia 9 (.ld 2 true (.t 3)),
 ia 10 (.build [.nil,(.p (.i .i64 0))] [(0,(2,(.t 9)))]),
 ia 8 (.new [.nil,(.p (.i .i64 0))]),
 io (.st 2 (.t 8) (.t 10))]) (.seq (.block 0 (.seq (.reg [
  ir 12 (.ld 2 true (.t 8)),
 ir 13 (.ld 2 true (.t 4)),
 ir 14 (.ld 2 true (.t 5)),
 ⟨(.some 15),.none,(.bsl 2 42 [(.p (.i .i64 0)),(.p (.i .i64 0))] 2 [(0,(.t 13)),(1,(.t 14))]),.ad⟩,
 ia 16 (.call (.f 100) [(.t 12),(.t 15)]),
 ia 17 (.not (.t 16)),
 ia 18 (.mv (.t 17)),
 ih 19 18 false (.ld 2 true (.t 4)),
 ih 20 18 false (.ld 2 true (.t 5)),
 ig 21 18 false (.eqg false [0,0] (.t 19) (.t 20)),
 ia 22 (.pick (.t 18) (.c (.a (.p (.b true)))) (.t 21)),
 ia 23 (.mv (.t 22)),
 ih 24 23 false (.ld 2 true (.t 8)),
 ih 25 23 false (.ld 2 true (.t 8)),
 ih 26 23 false (.ld 2 true (.t 4)),
 ih 27 23 false (.call (.f 101) [(.t 25),(.t 26)]),
 ⟨(.some 28),(.some (23,false)),(.bsl 2 42 [(.p (.i .i64 0)),(.p (.i .i64 0))] 1 [(0,(.t 27))]),.ad⟩,
 ig 29 23 false (.call (.f 100) [(.t 24),(.t 28)]),
 ig 30 23 false (.not (.t 29)),
 ia 31 (.pick (.t 23) (.c (.a (.p (.b true)))) (.t 30)),
 ia 11 (.mv (.t 31))]) (.cond (.t 11) (.seq (.reg [
  ia 32 (.ld 2 true (.t 3)),
 io (.st 2 (.t 6) (.t 32)),
 ia 7 (.mv (ci 130))]) .ret) (.seq (.reg [
  ir 34 (.ld 2 true (.t 8)),
 ir 35 (.ld 2 true (.t 4)),
 ir 36 (.call (.f 101) [(.t 34),(.t 35)]),
 ir 37 (.ld 2 true (.t 5)),
 ia 38 (.eqg false [0,0] (.t 36) (.t 37)),
 ia 33 (.mv (.t 38))]) (.cond (.t 33) (.seq (.reg [
  ia 39 (.ld 2 true (.t 3)),
 io (.st 2 (.t 6) (.t 39)),
 ia 7 (.mv (ci 0))]) .ret) .skip))))) (.seq (.reg [
  ir 40 (.ld 2 true (.t 8)),
 ir 41 (.ld 2 true (.t 5)),
 ir 42 (.ld 2 true (.t 8)),
 ir 43 (.ld 2 true (.t 4)),
 ir 44 (.call (.f 101) [(.t 42),(.t 43)]),
 ia 45 (.call (.f 144) [(.t 40),(.t 41),(.t 44)]),
 ir 46 (.ext (.t 45) 0),
 ir 47 (.ext (.t 45) 1),
 io (.st 2 (.t 6) (.t 46)),
 ia 7 (.mv (.t 47))]) .ret)))),[(.cell 6 2 true),(.tmp 7)]⟩
theorem cc109 : ccF Tryz.prog [(42,[0,0]),(107,[1,0]),(74,[0,0]),(36,[0,0,0,0,0,0,0,0,0]),(160,[0,0]),(42,[9]),(105,[8]),(107,[8]),(75,[8]),(106,[8]),(79,[8])] Tryz.f109 = some (stripF F109) := by kernel_rfl
def F110 : FnC := ⟨2,(.seq (.reg [
  ia 2 (.box 2 (.t 0)),
 ia 3 (.box 6 (.t 1)),
 ia 4 (.new [.nil,(.p (.i .i64 0))]),
 ia 5 (.mv (ci 0)),
 ia 6 (.mv (ci 0))]) (.seq (.block 0 (.seq (.reg [
  ia 9 (.fad 0 (.t 3)),
 ia 10 (.ld 1 false (.t 9)),
 ia 11 (.bin .eql (.t 10) (ci 0)),
 ia 12 (.mv (.t 11)),
 ig 13 12 false (.fad 0 (.t 3)),
 ig 14 12 false (.ld 1 false (.t 13)),
 ig 15 12 false (.bin .eql (.t 14) (ci 1)),
 ia 16 (.pick (.t 12) (.c (.a (.p (.b true)))) (.t 15)),
 ia 17 (.mv (.t 16)),
 ig 18 17 false (.ld 6 true (.t 3)),
 ig 19 17 false (.call (.f 57) [(.t 18)]),
 ig 20 17 false (.not (.t 19)),
 ia 21 (.pick (.t 17) (.c (.a (.p (.b true)))) (.t 20)),
 ia 8 (.mv (.t 21))]) (.cond (.t 8) (.seq (.reg [
  ia 22 (.ld 2 true (.t 2)),
 io (.st 2 (.t 4) (.t 22)),
 ia 5 (.mv (ci 0)),
 ia 6 (.mv (ci 122))]) .ret) (.seq (.reg [
  ir 24 (.ld 2 true (.t 2)),
 ir 25 (.call (.f 40) [(.t 24)]),
 ir 26 (.fad 1 (.t 2)),
 ir 27 (.ld 1 false (.t 26)),
 ia 28 (.bin .geq (.t 25) (.t 27)),
 ia 23 (.mv (.t 28))]) (.cond (.t 23) (.seq (.reg [
  ia 29 (.ld 2 true (.t 2)),
 io (.st 2 (.t 4) (.t 29)),
 ia 5 (.mv (ci 0)),
 ia 6 (.mv (ci 121))]) .ret) .skip))))) (.seq (.reg [
  ia 30 (.ld 2 true (.t 2)),
 ia 31 (.call (.f 97) [(.t 30)]),
 io (.st 2 (.t 2) (.t 31))]) (.seq (.reg [
  ir 32 (.ld 6 true (.t 3)),
 ir 33 (.call (.f 58) [(.t 32)]),
 ⟨(.some 34),.none,(.mslF 2 42 16 [(.p (.i .i64 0)),(.p (.i .i64 0))] (.t 33) (.t 33)),.ad⟩,
 ir 35 (.fad 4 (.t 3)),
 ir 36 (.ld 1 false (.t 35)),
 ir 37 (.call (.f 145) [(.t 36)]),
 ir 38 (.fad 5 (.t 3)),
 io (.st 1 (.t 38) (.t 34)),
 ia 39 (.fad 4 (.t 3)),
 io (.st 1 (.t 39) (.t 37))]) (.seq (.reg [
  ia 40 (.fad 0 (.t 2)),
 ia 41 (.ld 1 false (.t 40)),
 ia 42 (.call (.f 146) [(.t 41),(.f 69)]),
 ia 7 (.mv (.t 42))]) (.seq (.seq (.reg [
  ia 43 (.mv (.t 7)),
 ia 44 (.bin .lss (.t 43) (ci 0))]) (.cond (.t 44) (.seq (.reg [
  ia 45 (.fad 0 (.t 2)),
 ia 46 (.ld 1 false (.t 45)),
 ia 47 (.len false (.t 46)),
 ia 7 (.mv (.t 47))]) (.reg [
  ia 48 (.fad 0 (.t 2)),
 ia 49 (.ld 1 false (.t 48)),
 ia 50 (.ld 6 true (.t 3)),
 ia 51 (.bsl 6 46 [(.p (.i .i64 0)),(.p (.i .i64 0)),(.p (.i .i64 0)),(.p (.s [])),.nil,.nil] 1 [(0,(.t 50))]),
 ia 52 (.app 6 46 88 (.t 49) (.t 51)),
 ia 53 (.fad 0 (.t 2)),
 io (.st 1 (.t 53) (.t 52))])) .skip)) (.seq (.reg [
  ia 54 (.fad 0 (.t 2)),
 ia 55 (.ld 1 false (.t 54)),
 ia 56 (.mv (.t 7)),
 ia 57 (.ld 6 true (.t 3)),
 ia 58 (.ias 6 (.t 55) (.t 56)),
 io (.st 6 (.t 58) (.t 57))]) (.seq (.reg [
  ia 59 (.ld 2 true (.t 2)),
 ia 60 (.mv (.t 7)),
 io (.st 2 (.t 4) (.t 59)),
 ia 5 (.mv (.t 60)),
 ia 6 (.mv (ci 0))]) .ret)))))))),[(.cell 4 2 true),(.tmp 5),(.tmp 6)]⟩
theorem cc110 : ccF Tryz.prog [(42,[0,0]),(107,[1,0]),(74,[0,0]),(36,[0,0,0,0,0,0,0,0,0]),(160,[0,0]),(42,[9]),(105,[8]),(107,[8]),(75,[8]),(106,[8]),(79,[8])] Tryz.f110 = some (stripF F110) := by kernel_rfl
def F111b0 : C := (.seq (.reg [
  ia 8 (.bin .lss (.t 7) (.t 6))]) (.seq (.cond (.t 8) .skip (.exit 0)) (.seq (.block 1 (.seq (.reg [
  ia 9 (.mv (.t 7)),
 ia 10 (.ias 2 (.t 5) (.t 7)),
 ia 11 (.ld 2 true (.t 10)),
 ia 4 (.new [(.p (.i .i64 0)),(.p (.i .i64 0))]),
 ia 3 (.mv (.t 9)),
 io (.st 2 (.t 4) (.t 11))]) (.reg [
  ir 12 (.ld 1 false (.t 1)),
 ir 13 (.ld 2 true (.t 4)),
 ir 14 (.ld 1 false (.t 2)),
 ir 15 (.mv (.t 3)),
 ir 16 (.ias 1 (.t 14) (.t 15)),
 ir 17 (.ld 1 false (.t 16)),
 ir 18 (.call (.f 61) [(.t 17),(ci 0)]),
 ia 19 (.call (.f 74) [(.t 12),(.t 13),(.t 18)])]))) (.reg [
  ia 20 (.bin .add (.t 7) (ci 1)),
 ia 7 (.mv (.t 20))]))))
def F111 : FnC := ⟨3,(.seq (.reg [
  ia 5 (.ld 1 false (.t 0)),
 ia 6 (.len false (.t 5)),
 ia 7 (.mv (ci 0))]) (.block 0 (.loop F111b0))),[]⟩
theorem cc111 : ccF Tryz.prog [(42,[0,0]),(107,[1,0]),(74,[0,0]),(36,[0,0,0,0,0,0,0,0,0]),(160,[0,0]),(42,[9]),(105,[8]),(107,[8]),(75,[8]),(106,[8]),(79,[8])] Tryz.f111 = some (stripF F111) := by kernel_rfl
def F112 : FnC := ⟨1,(.seq (.reg [
  ia 2 (.mv (ci 0))]) (.seq (.seq (.reg [
  ia 3 (.mv (.t 0)),
 ia 4 (.bin .geq (.t 3) (.c (.a (.p (.i .u8 97))))),
 ia 5 (.mv (.t 4)),
 ig 6 5 true (.mv (.t 0)),
 ig 7 5 true (.bin .leq (.t 6) (.c (.a (.p (.i .u8 122))))),
 ia 8 (.pick (.t 5) (.t 7) (.c (.a (.p (.b false)))))]) (.cond (.t 8) (.seq (.reg [
  ia 2 (.mv (ci 1))]) .ret) .skip)) (.seq (.seq (.reg [
  ia 9 (.mv (.t 0)),
 ia 10 (.bin .geq (.t 9) (.c (.a (.p (.i .u8 65))))),
 ia 11 (.mv (.t 10)),
 ig 12 11 true (.mv (.t 0)),
 ig 13 11 true (.bin .leq (.t 12) (.c (.a (.p (.i .u8 90))))),
 ia 14 (.pick (.t 11) (.t 13) (.c (.a (.p (.b false)))))]) (.cond (.t 14) (.seq (.reg [
  ia 2 (.mv (ci 2))]) .ret) .skip)) (.seq (.seq (.reg [
  ia 15 (.mv (.t 0)),
 ia 16 (.bin .geq (.t 15) (.c (.a (.p (.i .u8 48))))),
 ia 17 (.mv (.t 16)),
 ig 18 17 true (.mv (.t 0)),
 ig 19 17 true (.bin .leq (.t 18) (.c (.a (.p (.i .u8 57))))),
 ia 20 (.pick (.t 17) (.t 19) (.c (.a (.p (.b false)))))]) (.cond (.t 20) (.seq (.reg [
  ia 2 (.mv (ci 3))]) .ret) .skip)) (.seq (.seq (.reg [
  ia 21 (.mv (.t 0)),
 ia 22 (.bin .eql (.t 21) (.c (.a (.p (.i .u8 32))))),
 ia 23 (.mv (.t 22)),
 ig 24 23 false (.mv (.t 0)),
 ig 25 23 false (.bin .eql (.t 24) (.c (.a (.p (.i .u8 10))))),
 ia 26 (.pick (.t 23) (.c (.a (.p (.b true)))) (.t 25)),
 ia 27 (.mv (.t 26)),
 ig 28 27 false (.mv (.t 0)),
 ig 29 27 false (.bin .eql (.t 28) (.c (.a (.p (.i .u8 9))))),
 ia 30 (.pick (.t 27) (.c (.a (.p (.b true)))) (.t 29))]) (.cond (.t 30) (.seq (.reg [
  ia 2 (.mv (ci 4))]) .ret) .skip)) (.seq (.reg [
  ia 2 (.mv (ci 0))]) .ret)))))),[(.tmp 2)]⟩
theorem cc112 : ccF Tryz.prog [(42,[0,0]),(107,[1,0]),(74,[0,0]),(36,[0,0,0,0,0,0,0,0,0]),(160,[0,0]),(42,[9]),(105,[8]),(107,[8]),(75,[8]),(106,[8]),(79,[8])] Tryz.f112 = some (stripF F112) := by kernel_rfl
def F113 : FnC := ⟨2,(.seq (.reg [
  ia 4 (.new [(.p (.i .i64 0)),(.p (.s [])),(.p (.i .i64 0)),(.p (.i .i64 0))]),
 ia 5 (.mv (ci 0))]) (.seq (.reg [
  ia 12 (.mv (.t 0)),
 ia 13 (.mv (.t 1)),
 ia 14 (.call (.f 147) [(.t 12),(.t 13)]),
 ia 11 (.mv (.t 14)),
 ia 15 (.ext (.t 11) 0),
 ia 16 (.ext (.t 11) 1),
 ia 6 (.mv (.t 15)),
 ia 7 (.mv (.t 16))]) (.seq (.seq (.reg [
  ia 17 (.mv (.t 6)),
 ia 18 (.bin .eql (.t 17) (ci 0))]) (.cond (.t 18) (.seq (.reg [
  ia 19 (.mv (.t 0)),
 ia 20 (.mv (.t 1)),
 ia 21 (.call (.f 148) [(.t 19),(.t 20)]),
 ia 8 (.mv (.t 21))]) (.seq (.seq (.reg [
  ia 22 (.mv (.t 8)),
 ia 23 (.bin .eql (.t 22) (ci 0))]) (.cond (.t 23) (.seq (.reg [
  ia 24 (.build [(.p (.i .i64 0)),(.p (.s [])),(.p (.i .i64 0)),(.p (.i .i64 0))] []),
 io (.st 4 (.t 4) (.t 24)),
 ia 5 (.mv (ci 10))]) .ret) .skip)) (.seq (.reg [
  ia 25 (.mv (.t 0)),
 ia 26 (.mv (.t 1)),
 ia 27 (.mv (.t 1)),
 ia 28 (.mv (.t 8)),
 ia 29 (.bin .add (.t 27) (.t 28)),
 ia 30 (.sub (.t 25) (.some (.t 26)) (.some (.t 29))),
 ia 31 (.mv (.t 1)),
 ia 32 (.build [(.p (.i .i64 0)),(.p (.s [])),(.p (.i .i64 0)),(.p (.i .i64 0))] [(0,(1,(ci 5))),(1,(1,(.t 30))),(3,(1,(.t 31)))]),
 io (.st 4 (.t 4) (.t 32)),
 ia 5 (.mv (ci 0))]) .ret))) .skip)) (.seq (.reg [
  ia 33 (.mv (.t 0)),
 ia 34 (.mv (.t 1)),
 ia 35 (.mv (.t 1)),
 ia 36 (.mv (.t 6)),
 ia 37 (.bin .add (.t 35) (.t 36)),
 ia 38 (.sub (.t 33) (.some (.t 34)) (.some (.t 37))),
 ia 39 (.mv (.t 1)),
 ia 40 (.build [(.p (.i .i64 0)),(.p (.s [])),(.p (.i .i64 0)),(.p (.i .i64 0))] [(1,(1,(.t 38))),(3,(1,(.t 39)))]),
 ia 9 (.new [(.p (.i .i64 0)),(.p (.s [])),(.p (.i .i64 0)),(.p (.i .i64 0))]),
 io (.st 4 (.t 9) (.t 40))]) (.seq (.reg [
  ia 41 (.mv (.t 0)),
 ia 42 (.mv (.t 1)),
 ia 43 (.ixs (.t 41) (.t 42)),
 ia 44 (.call (.f 112) [(.t 43)]),
 ia 10 (.mv (.t 44))]) (.seq (.seq (.reg [
  ia 45 (.mv (.t 10)),
 ia 46 (.bin .eql (.t 45) (ci 3))]) (.cond (.t 46) (.seq (.seq (.reg [
  ia 47 (.mv (.t 7))]) (.cond (.t 47) (.seq (.reg [
  ia 48 (.build [(.p (.i .i64 0)),(.p (.s [])),(.p (.i .i64 0)),(.p (.i .i64 0))] []),
 io (.st 4 (.t 4) (.t 48)),
 ia 5 (.mv (ci 10))]) .ret) .skip)) (.seq (.seq (.reg [
  ia 49 (.mv (.t 6)),
 ia 50 (.bin .gtr (.t 49) (ci 18)),
 ia 51 (.mv (.t 50)),
 ig 52 51 false (.mv (.t 6)),
 ig 53 51 false (.bin .gtr (.t 52) (ci 1)),
 ig 54 51 false (.mv (.t 53)),
 ig 55 54 true (.mv (.t 0)),
 ig 56 54 true (.mv (.t 1)),
 ig 57 54 true (.ixs (.t 55) (.t 56)),
 ig 58 54 true (.bin .eql (.t 57) (.c (.a (.p (.i .u8 48))))),
 ig 59 51 false (.pick (.t 54) (.t 58) (.c (.a (.p (.b false))))),
 ia 60 (.pick (.t 51) (.c (.a (.p (.b true)))) (.t 59))]) (.cond (.t 60) (.seq (.reg [
  ia 61 (.build [(.p (.i .i64 0)),(.p (.s [])),(.p (.i .i64 0)),(.p (.i .i64 0))] []),
 io (.st 4 (.t 4) (.t 61)),
 ia 5 (.mv (ci 11))]) .ret) .skip)) (.seq (.reg [
  ia 62 (.fad 0 (.t 9)),
 io (.st 1 (.t 62) (ci 3))]) (.seq (.reg [
  ia 63 (.fad 1 (.t 9)),
 ia 64 (.ld 1 false (.t 63)),
 ia 65 (.call (.f 149) [(.t 64)]),
 ia 66 (.fad 2 (.t 9)),
 io (.st 1 (.t 66) (.t 65))]) (.seq (.reg [
  ia 67 (.ld 4 true (.t 9)),
 io (.st 4 (.t 4) (.t 67)),
 ia 5 (.mv (ci 0))]) .ret))))) .skip)) (.seq (.seq (.reg [
  ia 68 (.mv (.t 6)),
 ia 69 (.bin .gtr (.t 68) (ci 16))]) (.cond (.t 69) (.seq (.reg [
  ia 70 (.build [(.p (.i .i64 0)),(.p (.s [])),(.p (.i .i64 0)),(.p (.i .i64 0))] []),
 io (.st 4 (.t 4) (.t 70)),
 ia 5 (.mv (ci 11))]) .ret) .skip)) (.seq (.reg [
  ia 71 (.mv (.t 10)),
 ia 72 (.fad 0 (.t 9)),
 io (.st 1 (.t 72) (.t 71))]) (.seq (.seq (.reg [
  ia 73 (.fad 1 (.t 9)),
 ia 74 (.ld 1 false (.t 73)),
 ia 75 (.call (.f 150) [(.t 74)])]) (.cond (.t 75) (.reg [
  ia 76 (.fad 0 (.t 9)),
 io (.st 1 (.t 76) (ci 4))]) .skip)) (.seq (.reg [
  ia 77 (.ld 4 true (.t 9)),
 io (.st 4 (.t 4) (.t 77)),
 ia 5 (.mv (ci 0))]) .ret)))))))))),[(.cell 4 4 true),(.tmp 5)]⟩
theorem cc113 : ccF Tryz.prog [(42,[0,0]),(107,[1,0]),(74,[0,0]),(36,[0,0,0,0,0,0,0,0,0]),(160,[0,0]),(42,[9]),(105,[8]),(107,[8]),(75,[8]),(106,[8]),(79,[8])] Tryz.f113 = some (stripF F113) := by kernel_rfl
def F114 : FnC := ⟨2,(.seq (.reg [
  ia 4 (.mv (.c (.a (.p (.s [])))))]) (.seq (.seq (.reg [
  ia 5 (.mv (.t 1)),
 ia 6 (.mv (.t 0)),
 ia 7 (.len false (.t 6)),
 ia 8 (.bin .lss (.t 5) (.t 7)),
 ia 9 (.mv (.t 8)),
 ig 10 9 true (.mv (.t 0)),
 ig 11 9 true (.mv (.t 1)),
 ig 12 9 true (.ias 4 (.t 10) (.t 11)),
 ig 13 9 true (.fad 0 (.t 12)),
 ig 14 9 true (.ld 1 false (.t 13)),
 ig 15 9 true (.bin .geq (.t 14) (ci 4)),
 ia 16 (.pick (.t 9) (.t 15) (.c (.a (.p (.b false)))))]) (.cond (.t 16) (.seq (.reg [
  ia 17 (.mv (.t 0)),
 ia 18 (.mv (.t 1)),
 ia 19 (.ias 4 (.t 17) (.t 18)),
 ia 20 (.fad 1 (.t 19)),
 ia 21 (.ld 1 false (.t 20)),
 ia 4 (.mv (.t 21))]) .ret) .skip)) (.seq (.reg [
  ia 4 (.mv (.c (.a (.p (.s [])))))]) .ret))),[(.tmp 4)]⟩
theorem cc114 : ccF Tryz.prog [(42,[0,0]),(107,[1,0]),(74,[0,0]),(36,[0,0,0,0,0,0,0,0,0]),(160,[0,0]),(42,[9]),(105,[8]),(107,[8]),(75,[8]),(106,[8]),(79,[8])] Tryz.f114 = some (stripF F114) := by kernel_rfl
def tblB : List (FuncId × FnC) := [(64,F64),(65,F65),(66,F66),(67,F67),(68,F68),(69,F69),(70,F70),(71,F71),(72,F72),(73,F73),(74,F74),(75,F75),(76,F76),(77,F77),(78,F78),(79,F79),(81,F81),(82,F82),(83,F83),(84,F84),(85,F85),(86,F86),(87,F87),(88,F88),(89,F89),(90,F90),(91,F91),(92,F92),(93,F93),(94,F94),(95,F95),(96,F96),(97,F97),(98,F98),(99,F99),(100,F100),(101,F101),(102,F102),(103,F103),(104,F104),(105,F105),(106,F106),(107,F107),(108,F108),(109,F109),(110,F110),(111,F111),(112,F112),(113,F113),(114,F114)]
theorem tblOkB : ∀ x,x ∈ tblB → ∃ fn,Tryz.prog.funcs[x.1]? = some fn ∧ ccF Tryz.prog [(42,[0,0]),(107,[1,0]),(74,[0,0]),(36,[0,0,0,0,0,0,0,0,0]),(160,[0,0]),(42,[9]),(105,[8]),(107,[8]),(75,[8]),(106,[8]),(79,[8])] fn = some (stripF x.2) := by
  intro x hx
  simp only [tblB,List.mem_cons,List.not_mem_nil,or_false] at hx
  rcases hx with rfl | rfl | rfl | rfl | rfl | rfl | rfl | rfl | rfl | rfl | rfl | rfl | rfl | rfl | rfl | rfl | rfl | rfl | rfl | rfl | rfl | rfl | rfl | rfl | rfl | rfl | rfl | rfl | rfl | rfl | rfl | rfl | rfl | rfl | rfl | rfl | rfl | rfl | rfl | rfl | rfl | rfl | rfl | rfl | rfl | rfl | rfl | rfl | rfl | rfl
  · exact ⟨_,Tryz.func64,cc64⟩
  · exact ⟨_,Tryz.func65,cc65⟩
  · exact ⟨_,Tryz.func66,cc66⟩
  · exact ⟨_,Tryz.func67,cc67⟩
  · exact ⟨_,Tryz.func68,cc68⟩
  · exact ⟨_,Tryz.func69,cc69⟩
  · exact ⟨_,Tryz.func70,cc70⟩
  · exact ⟨_,Tryz.func71,cc71⟩
  · exact ⟨_,Tryz.func72,cc72⟩
  · exact ⟨_,Tryz.func73,cc73⟩
  · exact ⟨_,Tryz.func74,cc74⟩
  · exact ⟨_,Tryz.func75,cc75⟩
  · exact ⟨_,Tryz.func76,cc76⟩
  · exact ⟨_,Tryz.func77,cc77⟩
  · exact ⟨_,Tryz.func78,cc78⟩
  · exact ⟨_,Tryz.func79,cc79⟩
  · exact ⟨_,Tryz.func81,cc81⟩
  · exact ⟨_,Tryz.func82,cc82⟩
  · exact ⟨_,Tryz.func83,cc83⟩
  · exact ⟨_,Tryz.func84,cc84⟩
  · exact ⟨_,Tryz.func85,cc85⟩
  · exact ⟨_,Tryz.func86,cc86⟩
  · exact ⟨_,Tryz.func87,cc87⟩
  · exact ⟨_,Tryz.func88,cc88⟩
  · exact ⟨_,Tryz.func89,cc89⟩
  · exact ⟨_,Tryz.func90,cc90⟩
  · exact ⟨_,Tryz.func91,cc91⟩
  · exact ⟨_,Tryz.func92,cc92⟩
  · exact ⟨_,Tryz.func93,cc93⟩
  · exact ⟨_,Tryz.func94,cc94⟩
  · exact ⟨_,Tryz.func95,cc95⟩
  · exact ⟨_,Tryz.func96,cc96⟩
  · exact ⟨_,Tryz.func97,cc97⟩
  · exact ⟨_,Tryz.func98,cc98⟩
  · exact ⟨_,Tryz.func99,cc99⟩
  · exact ⟨_,Tryz.func100,cc100⟩
  · exact ⟨_,Tryz.func101,cc101⟩
  · exact ⟨_,Tryz.func102,cc102⟩
  · exact ⟨_,Tryz.func103,cc103⟩
  · exact ⟨_,Tryz.func104,cc104⟩
  · exact ⟨_,Tryz.func105,cc105⟩
  · exact ⟨_,Tryz.func106,cc106⟩
  · exact ⟨_,Tryz.func107,cc107⟩
  · exact ⟨_,Tryz.func108,cc108⟩
  · exact ⟨_,Tryz.func109,cc109⟩
  · exact ⟨_,Tryz.func110,cc110⟩
  · exact ⟨_,Tryz.func111,cc111⟩
  · exact ⟨_,Tryz.func112,cc112⟩
  · exact ⟨_,Tryz.func113,cc113⟩
  · exact ⟨_,Tryz.func114,cc114⟩
end Go.Proofs.YtmlhgalboabjcaaGreat
