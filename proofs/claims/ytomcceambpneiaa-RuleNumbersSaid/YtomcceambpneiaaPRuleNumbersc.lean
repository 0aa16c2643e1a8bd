/- Part 3 of what is proved for the law RuleNumbers: it returns true, whatever the input. No condition. -/
import Derived.Test.YtomcceambpneiaaProg
import Derived.IntWalk
import Derived.Test.YtomcceambpneiaaChecked
import Derived.Test.YtomcceambpneiaaRows
import Derived.Test.YtomcceambpneiaaPRuleNumbersb
namespace Go.Proofs.Ytomcceambpneiaa
open Go.Fx
def F7 : FnC := ⟨3, (.seq (.reg [
  ia 4 (.box 2 (.t 1)),
ia 6 (.mv (.c (.a (.p (.b false)))))]) (.seq (.seq (.reg [
  ia 15 (.call (.f 11) []),
ia 16 (.not (.t 15))]) (.cond (.t 16) (.seq (.reg [
  ia 6 (.mv (.c (.a (.p (.b false)))))]) .ret) .skip)) (.seq (.reg [
  ia 17 (.bsl 1 9 [(.p (.s []))] 6 [(0, (.c (.a (.p (.s [43]))))), (1, (.c (.a (.p (.s [45]))))), (2, (.c (.a (.p (.s [42]))))), (3, (.c (.a (.p (.s [47]))))), (4, (.c (.a (.p (.s [60]))))), (5, (.c (.a (.p (.s [61, 61])))))]),
ia 7 (.mv (.t 17))]) (.seq (.seq (.reg [
  ia 18 (.call (.f 11) []),
ia 19 (.not (.t 18)),
ia 20 (.mv (.t 19)),
ig 21 20 false (.mv (.t 0)),
ig 22 20 false (.bin .lss (.t 21) (ci 0)),
ia 23 (.pick (.t 20) (.c (.a (.p (.b true)))) (.t 22)),
ia 24 (.mv (.t 23)),
ig 25 24 false (.mv (.t 0)),
ig 26 24 false (.bin .gtr (.t 25) (ci 5)),
ia 27 (.pick (.t 24) (.c (.a (.p (.b true)))) (.t 26)),
ia 28 (.mv (.t 27)),
ig 29 28 false (.mv (.t 2)),
ig 30 28 false (.bin .lss (.t 29) (ci 0)),
ia 31 (.pick (.t 28) (.c (.a (.p (.b true)))) (.t 30)),
ia 32 (.mv (.t 31)),
ig 33 32 false (.mv (.t 2)),
ig 34 32 false (.bin .gtr (.t 33) (ci 60)),
ia 35 (.pick (.t 32) (.c (.a (.p (.b true)))) (.t 34))]) (.cond (.t 35) (.seq (.reg [
  ia 36 (.call (.f 11) []),
ia 6 (.mv (.t 36))]) .ret) .skip)) (.seq (.reg [
  ir 38 (.mv (.t 2)),
ir 39 (.mv (.t 7)),
ir 40 (.mv (.t 0)),
ir 41 (.ias 1 (.t 39) (.t 40)),
ir 42 (.ld 1 false (.t 41)),
ir 43 (.build [(.p (.i .i64 0)), (.p (.i .i64 0)), (.p (.i .i64 0)), (.p (.s [])), .nil, .nil] [(0, (1, (ci 11))), (1, (1, (.t 38))), (3, (1, (.t 42)))]),
ir 44 (.iaa 2 1 (.t 4) (ci 0)),
ir 45 (.ld 1 false (.t 44)),
ir 46 (.build [(.p (.i .i64 0)), (.p (.i .i64 0)), (.p (.i .i64 0)), (.p (.s [])), .nil, .nil] [(0, (1, (ci 10))), (2, (1, (.t 45)))]),
ir 47 (.call (.f 14) [(.t 43), (.t 46)]),
ir 37 (.mv (.t 47)),
ir 48 (.ext (.t 37) 0),
ir 49 (.ext (.t 37) 1),
⟨(.some 8), .none, (.new [(.p (.i .i64 0)), (.p (.b false)), (.p (.i .i64 0)), (.p (.i .i64 0)), (.p (.i .i64 0)), (.p (.i .i64 0)), (.p (.i .i64 0)), (.p (.s [])), .nil, .nil]), .ad⟩,
⟨.none, .none, (.st 10 (.t 8) (.t 48)), (.wr [])⟩,
ia 9 (.mv (.t 49))]) (.seq (.reg [
  ir 51 (.mv (.t 2)),
ir 52 (.mv (.t 7)),
ir 53 (.mv (.t 0)),
ir 54 (.ias 1 (.t 52) (.t 53)),
ir 55 (.ld 1 false (.t 54)),
ir 56 (.iaa 2 1 (.t 4) (ci 0)),
ir 57 (.ld 1 false (.t 56)),
ir 58 (.build [(.p (.i .i64 0)), (.p (.i .i64 0)), (.p (.i .i64 0)), (.p (.s [])), .nil, .nil] [(0, (1, (ci 12))), (1, (1, (.t 51))), (3, (1, (.t 55))), (2, (1, (.t 57)))]),
ir 59 (.iaa 2 1 (.t 4) (ci 1)),
ir 60 (.ld 1 false (.t 59)),
ir 61 (.build [(.p (.i .i64 0)), (.p (.i .i64 0)), (.p (.i .i64 0)), (.p (.s [])), .nil, .nil] [(0, (1, (ci 10))), (1, (1, (ci 3))), (2, (1, (.t 60)))]),
ir 62 (.call (.f 14) [(.t 58), (.t 61)]),
ir 50 (.mv (.t 62)),
ir 63 (.ext (.t 50) 0),
ir 64 (.ext (.t 50) 1),
⟨(.some 10), .none, (.new [(.p (.i .i64 0)), (.p (.b false)), (.p (.i .i64 0)), (.p (.i .i64 0)), (.p (.i .i64 0)), (.p (.i .i64 0)), (.p (.i .i64 0)), (.p (.s [])), .nil, .nil]), .ad⟩,
⟨.none, .none, (.st 10 (.t 10) (.t 63)), (.wr [])⟩,
ia 11 (.mv (.t 64))]) (.seq (.reg [
  ir 66 (.mv (.t 7)),
ir 67 (.mv (.t 0)),
ir 68 (.ias 1 (.t 66) (.t 67)),
ir 69 (.ld 1 false (.t 68)),
ir 70 (.iaa 2 1 (.t 4) (ci 0)),
ir 71 (.ld 1 false (.t 70)),
ir 72 (.build [(.p (.i .i64 0)), (.p (.i .i64 0)), (.p (.s [])), .nil] [(0, (1, (ci 7))), (1, (1, (.t 71)))]),
ir 73 (.iaa 2 1 (.t 4) (ci 1)),
ir 74 (.ld 1 false (.t 73)),
ir 75 (.build [(.p (.i .i64 0)), (.p (.i .i64 0)), (.p (.s [])), .nil] [(0, (1, (ci 7))), (1, (1, (.t 74)))]),
⟨(.some 12), .none, (.new [(.p (.i .i64 0)), (.p (.i .i64 0)), (.p (.s [])), .nil]), .ad⟩,
⟨(.some 76), .none, (.bsl 4 43 [(.p (.i .i64 0)), (.p (.i .i64 0)), (.p (.s [])), .nil] 2 [(0, (.t 72)), (1, (.t 75))]), (.cl [(0, 66), (1, 68)] [12])⟩,
ir 77 (.build [(.p (.i .i64 0)), (.p (.i .i64 0)), (.p (.s [])), .nil] [(0, (1, (ci 8))), (2, (1, (.t 69))), (3, (1, (.t 76)))]),
⟨(.some 78), .none, (.call (.f 22) [(.t 77)]), (.cl [] [12])⟩,
ir 65 (.mv (.t 78)),
ir 79 (.ext (.t 65) 0),
ir 80 (.ext (.t 65) 1),
⟨.none, .none, (.st 4 (.t 12) (.t 79)), (.wr [])⟩,
ia 13 (.mv (.t 80))]) (.seq (.seq (.reg [
  ia 81 (.mv (.t 9)),
ia 82 (.bin .neq (.t 81) (ci 0)),
ia 83 (.mv (.t 82)),
ig 84 83 false (.fad 0 (.t 8)),
ig 85 83 false (.ld 1 false (.t 84)),
ig 86 83 false (.bin .neq (.t 85) (ci 3)),
ia 87 (.pick (.t 83) (.c (.a (.p (.b true)))) (.t 86)),
ia 88 (.mv (.t 87)),
ig 89 88 false (.mv (.t 11)),
ig 90 88 false (.bin .neq (.t 89) (ci 0)),
ia 91 (.pick (.t 88) (.c (.a (.p (.b true)))) (.t 90))]) (.cond (.t 91) (.seq (.reg [
  ia 6 (.mv (.c (.a (.p (.b false)))))]) .ret) .skip)) (.seq (.seq (.reg [
  ia 92 (.mv (.t 13)),
ia 93 (.bin .eql (.t 92) (ci 4))]) (.cond (.t 93) (.seq (.reg [
  ia 94 (.fad 0 (.t 10)),
ia 95 (.ld 1 false (.t 94)),
ia 96 (.bin .eql (.t 95) (ci 5)),
ia 6 (.mv (.t 96))]) .ret) .skip)) (.seq (.reg [
  ia 97 (.fad 4 (.t 10)),
ia 98 (.ld 6 true (.t 97)),
ia 14 (.new [(.p (.i .i64 0)), (.p (.i .i64 0)), (.p (.i .i64 0)), (.p (.s [])), .nil, .nil]),
io (.st 6 (.t 14) (.t 98))]) (.seq (.reg [
  ia 99 (.fad 0 (.t 10)),
ia 100 (.ld 1 false (.t 99)),
ia 101 (.bin .eql (.t 100) (ci 4)),
ia 102 (.mv (.t 101)),
ig 103 102 true (.fad 1 (.t 14)),
ig 104 102 true (.ld 1 false (.t 103)),
ig 105 102 true (.mv (.t 2)),
ig 106 102 true (.bin .eql (.t 104) (.t 105)),
ia 107 (.pick (.t 102) (.t 106) (.c (.a (.p (.b false))))),
ia 108 (.mv (.t 107)),
ig 109 108 true (.fad 0 (.t 14)),
ig 110 108 true (.ld 1 false (.t 109)),
ig 111 108 true (.bin .eql (.t 110) (ci 10)),
ig 112 108 true (.fad 0 (.t 12)),
ig 113 108 true (.ld 1 false (.t 112)),
ig 114 108 true (.bin .eql (.t 113) (ci 7)),
ig 115 108 true (.eqb false (.t 111) (.t 114)),
ia 116 (.pick (.t 108) (.t 115) (.c (.a (.p (.b false))))),
ia 117 (.mv (.t 116)),
ig 118 117 true (.fad 2 (.t 14)),
ig 119 117 true (.ld 1 false (.t 118)),
ig 120 117 true (.fad 1 (.t 12)),
ig 121 117 true (.ld 1 false (.t 120)),
ig 122 117 true (.bin .eql (.t 119) (.t 121)),
ia 123 (.pick (.t 117) (.t 122) (.c (.a (.p (.b false))))),
ia 124 (.mv (.t 123)),
ig 125 124 true (.fad 3 (.t 14)),
ig 126 124 true (.ld 1 false (.t 125)),
ig 127 124 true (.fad 2 (.t 12)),
ig 128 124 true (.ld 1 false (.t 127)),
ig 129 124 true (.bin .eql (.t 126) (.t 128)),
ia 130 (.pick (.t 124) (.t 129) (.c (.a (.p (.b false))))),
ia 6 (.mv (.t 130))]) .ret))))))))))), [(.tmp 6)]⟩
theorem cc7 : ccF Try.prog [(58, [0, 0]), (61, [1, 0]), (75, [0, 0]), (58, [9]), (91, [8]), (93, [8]), (72, [8]), (92, [8]), (76, [8])] Try.f7 = some (stripF F7) := by kernel_rfl
def F11 : FnC := ⟨0, (.seq (.reg [
  ia 0 (.mv (.c (.a (.p (.b false)))))]) (.seq (.reg [
  ia 30 (.call (.f 32) [(ci 3), (ci 2), (ci 2), (ci 2)]),
ia 29 (.mv (.t 30)),
ia 31 (.ext (.t 29) 0),
ia 32 (.ext (.t 29) 1),
ia 1 (.new [(.p (.i .i64 0)), (.p (.b false)), (.p (.i .i64 0)), (.p (.i .i64 0)), (.p (.i .i64 0)), (.p (.i .i64 0)), (.p (.i .i64 0)), (.p (.s [])), .nil, .nil]),
io (.st 10 (.t 1) (.t 31)),
ia 2 (.mv (.t 32))]) (.fz [1] (.seq (.reg [
  ia 34 (.call (.f 32) [(ci 3), (ci 2), (ci 2), (ci 1)]),
ia 33 (.mv (.t 34)),
ia 35 (.ext (.t 33) 0),
ia 36 (.ext (.t 33) 1),
ia 3 (.new [(.p (.i .i64 0)), (.p (.b false)), (.p (.i .i64 0)), (.p (.i .i64 0)), (.p (.i .i64 0)), (.p (.i .i64 0)), (.p (.i .i64 0)), (.p (.s [])), .nil, .nil]),
io (.st 10 (.t 3) (.t 35)),
ia 4 (.mv (.t 36))]) (.fz [1, 3] (.seq (.reg [
  ia 38 (.call (.f 32) [(ci 2), (ci 3), (ci 5), (ci 1)]),
ia 37 (.mv (.t 38)),
ia 39 (.ext (.t 37) 0),
ia 40 (.ext (.t 37) 1),
ia 5 (.new [(.p (.i .i64 0)), (.p (.b false)), (.p (.i .i64 0)), (.p (.i .i64 0)), (.p (.i .i64 0)), (.p (.i .i64 0)), (.p (.i .i64 0)), (.p (.s [])), .nil, .nil]),
io (.st 10 (.t 5) (.t 39)),
ia 6 (.mv (.t 40))]) (.fz [1, 3, 5] (.seq (.reg [
  ia 42 (.call (.f 32) [(ci 6), (ci 1), (ci 2), (ci 60)]),
ia 41 (.mv (.t 42)),
ia 43 (.ext (.t 41) 0),
ia 44 (.ext (.t 41) 1),
ia 7 (.new [(.p (.i .i64 0)), (.p (.b false)), (.p (.i .i64 0)), (.p (.i .i64 0)), (.p (.i .i64 0)), (.p (.i .i64 0)), (.p (.i .i64 0)), (.p (.s [])), .nil, .nil]),
io (.st 10 (.t 7) (.t 43)),
ia 8 (.mv (.t 44))]) (.fz [1, 3, 5, 7] (.seq (.reg [
  ia 46 (.call (.f 32) [(ci 4), (ci 4), (ci 4), (ci 4)]),
ia 45 (.mv (.t 46)),
ia 47 (.ext (.t 45) 0),
ia 48 (.ext (.t 45) 1),
ia 9 (.new [(.p (.i .i64 0)), (.p (.b false)), (.p (.i .i64 0)), (.p (.i .i64 0)), (.p (.i .i64 0)), (.p (.i .i64 0)), (.p (.i .i64 0)), (.p (.s [])), .nil, .nil]),
io (.st 10 (.t 9) (.t 47)),
ia 10 (.mv (.t 48))]) (.fz [1, 3, 5, 7, 9] (.seq (.reg [
  ia 50 (.call (.f 32) [(ci 4), (ci 4), (ci 6), (ci 2)]),
ia 49 (.mv (.t 50)),
ia 51 (.ext (.t 49) 0),
ia 52 (.ext (.t 49) 1),
ia 11 (.new [(.p (.i .i64 0)), (.p (.b false)), (.p (.i .i64 0)), (.p (.i .i64 0)), (.p (.i .i64 0)), (.p (.i .i64 0)), (.p (.i .i64 0)), (.p (.s [])), .nil, .nil]),
io (.st 10 (.t 11) (.t 51)),
ia 12 (.mv (.t 52))]) (.fz [1, 3, 5, 7, 9, 11] (.seq (.reg [
  ia 54 (.call (.f 32) [(ci 4), (ci 4), (ci 6), (ci 4)]),
ia 53 (.mv (.t 54)),
ia 55 (.ext (.t 53) 0),
ia 56 (.ext (.t 53) 1),
ia 13 (.new [(.p (.i .i64 0)), (.p (.b false)), (.p (.i .i64 0)), (.p (.i .i64 0)), (.p (.i .i64 0)), (.p (.i .i64 0)), (.p (.i .i64 0)), (.p (.s [])), .nil, .nil]),
io (.st 10 (.t 13) (.t 55)),
ia 14 (.mv (.t 56))]) (.fz [1, 3, 5, 7, 9, 11, 13] (.seq (.reg [
  ia 58 (.call (.f 32) [(ci 10), (ci 0), (ci 7), (ci 9)]),
ia 57 (.mv (.t 58)),
ia 59 (.ext (.t 57) 0),
ia 60 (.ext (.t 57) 1),
ia 15 (.new [(.p (.i .i64 0)), (.p (.b false)), (.p (.i .i64 0)), (.p (.i .i64 0)), (.p (.i .i64 0)), (.p (.i .i64 0)), (.p (.i .i64 0)), (.p (.s [])), .nil, .nil]),
io (.st 10 (.t 15) (.t 59)),
ia 16 (.mv (.t 60))]) (.fz [1, 3, 5, 7, 9, 11, 13, 15] (.seq (.reg [
  ia 62 (.build [(.p (.i .i64 0)), (.p (.i .i64 0)), (.p (.i .i64 0)), (.p (.s [])), .nil, .nil] [(0, (1, (ci 12))), (1, (1, (ci 1))), (3, (1, (.c (.a (.p (.s [45])))))), (2, (1, (ci 5)))]),
ia 63 (.build [(.p (.i .i64 0)), (.p (.i .i64 0)), (.p (.i .i64 0)), (.p (.s [])), .nil, .nil] [(0, (1, (ci 10))), (2, (1, (ci 7)))]),
ia 64 (.call (.f 14) [(.t 62), (.t 63)]),
ia 61 (.mv (.t 64)),
ia 65 (.ext (.t 61) 0),
ia 66 (.ext (.t 61) 1),
ia 17 (.new [(.p (.i .i64 0)), (.p (.b false)), (.p (.i .i64 0)), (.p (.i .i64 0)), (.p (.i .i64 0)), (.p (.i .i64 0)), (.p (.i .i64 0)), (.p (.s [])), .nil, .nil]),
io (.st 10 (.t 17) (.t 65)),
ia 18 (.mv (.t 66))]) (.fz [1, 3, 5, 7, 9, 11, 13, 15, 17] (.seq (.reg [
  ia 68 (.build [(.p (.i .i64 0)), (.p (.i .i64 0)), (.p (.i .i64 0)), (.p (.s [])), .nil, .nil] [(0, (1, (ci 12))), (3, (1, (.c (.a (.p (.s [47])))))), (2, (1, (ci 5)))]),
ia 69 (.build [(.p (.i .i64 0)), (.p (.i .i64 0)), (.p (.i .i64 0)), (.p (.s [])), .nil, .nil] [(0, (1, (ci 10)))]),
ia 70 (.call (.f 14) [(.t 68), (.t 69)]),
ia 67 (.mv (.t 70)),
ia 71 (.ext (.t 67) 0),
ia 72 (.ext (.t 67) 1),
ia 19 (.new [(.p (.i .i64 0)), (.p (.b false)), (.p (.i .i64 0)), (.p (.i .i64 0)), (.p (.i .i64 0)), (.p (.i .i64 0)), (.p (.i .i64 0)), (.p (.s [])), .nil, .nil]),
io (.st 10 (.t 19) (.t 71)),
ia 20 (.mv (.t 72))]) (.fz [1, 3, 5, 7, 9, 11, 13, 15, 17, 19] (.seq (.reg [
  ia 73 (.build [(.p (.s [])), (.p (.i .i64 0))] [(0, (1, (.c (.a (.p (.s [65]))))))]),
ia 74 (.build [(.p (.s [])), (.p (.i .i64 0))] [(0, (1, (.c (.a (.p (.s [66])))))), (1, (1, (ci 2)))]),
ia 75 (.bsl 2 61 [(.p (.s [])), (.p (.i .i64 0))] 2 [(0, (.t 73)), (1, (.t 74))]),
ia 76 (.build [(.p (.i .i64 0)), (.p (.i .i64 0)), (.p (.i .i64 0)), (.p (.s [])), .nil, .nil] [(0, (1, (ci 9))), (4, (1, (.t 75)))]),
ia 21 (.new [(.p (.i .i64 0)), (.p (.i .i64 0)), (.p (.i .i64 0)), (.p (.s [])), .nil, .nil]),
io (.st 6 (.t 21) (.t 76))]) (.fz [1, 3, 5, 7, 9, 11, 13, 15, 17, 19, 21] (.seq (.reg [
  ia 77 (.mslF 2 58 16 [(.p (.i .i64 0)), (.p (.i .i64 0))] (ci 3) (ci 3)),
ia 78 (.build [(.p (.i .i64 0)), (.p (.i .i64 0)), (.p (.i .i64 0)), (.p (.s [])), .nil, .nil] [(0, (1, (ci 8))), (3, (1, (.c (.a (.p (.s [66])))))), (5, (1, (.t 77)))]),
ia 22 (.new [(.p (.i .i64 0)), (.p (.i .i64 0)), (.p (.i .i64 0)), (.p (.s [])), .nil, .nil]),
io (.st 6 (.t 22) (.t 78))]) (.fz [1, 3, 5, 7, 9, 11, 13, 15, 17, 19, 21, 22] (.seq (.reg [
  ia 80 (.ld 6 true (.t 22)),
ia 81 (.ld 6 true (.t 21)),
ia 82 (.call (.f 14) [(.t 80), (.t 81)]),
ia 79 (.mv (.t 82)),
ia 83 (.ext (.t 79) 0),
ia 84 (.ext (.t 79) 1),
ia 23 (.new [(.p (.i .i64 0)), (.p (.b false)), (.p (.i .i64 0)), (.p (.i .i64 0)), (.p (.i .i64 0)), (.p (.i .i64 0)), (.p (.i .i64 0)), (.p (.s [])), .nil, .nil]),
io (.st 10 (.t 23) (.t 83)),
ia 24 (.mv (.t 84))]) (.fz [1, 3, 5, 7, 9, 11, 13, 15, 17, 19, 21, 22, 23] (.seq (.reg [
  ia 86 (.call (.f 32) [(ci 1), (ci 0), (ci 10), (ci 0)]),
ia 85 (.mv (.t 86)),
ia 87 (.ext (.t 85) 0),
ia 88 (.ext (.t 85) 1),
ia 25 (.new [(.p (.i .i64 0)), (.p (.b false)), (.p (.i .i64 0)), (.p (.i .i64 0)), (.p (.i .i64 0)), (.p (.i .i64 0)), (.p (.i .i64 0)), (.p (.s [])), .nil, .nil]),
io (.st 10 (.t 25) (.t 87)),
ia 26 (.mv (.t 88))]) (.fz [1, 3, 5, 7, 9, 11, 13, 15, 17, 19, 21, 22, 23, 25] (.seq (.reg [
  ia 90 (.call (.f 32) [(ci 2), (ci 0), (ci 10), (ci 0)]),
ia 89 (.mv (.t 90)),
ia 91 (.ext (.t 89) 0),
ia 92 (.ext (.t 89) 1),
ia 27 (.new [(.p (.i .i64 0)), (.p (.b false)), (.p (.i .i64 0)), (.p (.i .i64 0)), (.p (.i .i64 0)), (.p (.i .i64 0)), (.p (.i .i64 0)), (.p (.s [])), .nil, .nil]),
io (.st 10 (.t 27) (.t 91)),
ia 28 (.mv (.t 92))]) (.fz [1, 3, 5, 7, 9, 11, 13, 15, 17, 19, 21, 22, 23, 25, 27] (.seq (.seq (.reg [
  ia 93 (.fad 0 (.t 1)),
ia 94 (.ld 1 false (.t 93)),
ia 95 (.bin .neq (.t 94) (ci 1)),
ia 96 (.mv (.t 95)),
ig 97 96 false (.mv (.t 2)),
ig 98 96 false (.bin .neq (.t 97) (ci 0)),
ia 99 (.pick (.t 96) (.c (.a (.p (.b true)))) (.t 98)),
ia 100 (.mv (.t 99)),
ig 101 100 false (.mv (.t 4)),
ig 102 100 false (.bin .neq (.t 101) (ci 140)),
ia 103 (.pick (.t 100) (.c (.a (.p (.b true)))) (.t 102)),
ia 104 (.mv (.t 103)),
ig 105 104 false (.fad 0 (.t 5)),
ig 106 104 false (.ld 1 false (.t 105)),
ig 107 104 false (.bin .neq (.t 106) (ci 7)),
ia 108 (.pick (.t 104) (.c (.a (.p (.b true)))) (.t 107)),
ia 109 (.mv (.t 108)),
ig 110 109 false (.fad 2 (.t 5)),
ig 111 109 false (.ld 1 false (.t 110)),
ig 112 109 false (.bin .neq (.t 111) (ci 2)),
ia 113 (.pick (.t 109) (.c (.a (.p (.b true)))) (.t 112)),
ia 114 (.mv (.t 113)),
ig 115 114 false (.fad 1 (.t 5)),
ig 116 114 false (.ld 1 false (.t 115)),
ig 117 114 false (.not (.t 116)),
ia 118 (.pick (.t 114) (.c (.a (.p (.b true)))) (.t 117)),
ia 119 (.mv (.t 118)),
ig 120 119 false (.mv (.t 6)),
ig 121 119 false (.bin .neq (.t 120) (ci 0)),
ia 122 (.pick (.t 119) (.c (.a (.p (.b true)))) (.t 121)),
ia 123 (.mv (.t 122)),
ig 124 123 false (.fad 0 (.t 7)),
ig 125 123 false (.ld 1 false (.t 124)),
ig 126 123 false (.bin .neq (.t 125) (ci 0)),
ia 127 (.pick (.t 123) (.c (.a (.p (.b true)))) (.t 126)),
ia 128 (.mv (.t 127)),
ig 129 128 false (.mv (.t 8)),
ig 130 128 false (.bin .neq (.t 129) (ci 141)),
ia 131 (.pick (.t 128) (.c (.a (.p (.b true)))) (.t 130))]) (.cond (.t 131) (.seq (.reg [
  ia 0 (.mv (.c (.a (.p (.b false)))))]) .ret) .skip)) (.fz [1, 3, 5, 7, 9, 11, 13, 15, 17, 19, 21, 22, 23, 25, 27] (.seq (.seq (.reg [
  ia 132 (.fad 0 (.t 9)),
ia 133 (.ld 1 false (.t 132)),
ia 134 (.bin .neq (.t 133) (ci 6)),
ia 135 (.mv (.t 134)),
ig 136 135 false (.mv (.t 10)),
ig 137 135 false (.bin .neq (.t 136) (ci 0)),
ia 138 (.pick (.t 135) (.c (.a (.p (.b true)))) (.t 137)),
ia 139 (.mv (.t 138)),
ig 140 139 false (.fad 0 (.t 11)),
ig 141 139 false (.ld 1 false (.t 140)),
ig 142 139 false (.bin .neq (.t 141) (ci 7)),
ia 143 (.pick (.t 139) (.c (.a (.p (.b true)))) (.t 142)),
ia 144 (.mv (.t 143)),
ig 145 144 false (.fad 2 (.t 11)),
ig 146 144 false (.ld 1 false (.t 145)),
ig 147 144 false (.bin .neq (.t 146) (ci 5)),
ia 148 (.pick (.t 144) (.c (.a (.p (.b true)))) (.t 147)),
ia 149 (.mv (.t 148)),
ig 150 149 false (.fad 1 (.t 11)),
ig 151 149 false (.ld 1 false (.t 150)),
ig 152 149 false (.not (.t 151)),
ia 153 (.pick (.t 149) (.c (.a (.p (.b true)))) (.t 152)),
ia 154 (.mv (.t 153)),
ig 155 154 false (.mv (.t 12)),
ig 156 154 false (.bin .neq (.t 155) (ci 0)),
ia 157 (.pick (.t 154) (.c (.a (.p (.b true)))) (.t 156)),
ia 158 (.mv (.t 157)),
ig 159 158 false (.mv (.t 14)),
ig 160 158 false (.bin .neq (.t 159) (ci 140)),
ia 161 (.pick (.t 158) (.c (.a (.p (.b true)))) (.t 160)),
ia 162 (.mv (.t 161)),
ig 163 162 false (.fad 0 (.t 15)),
ig 164 162 false (.ld 1 false (.t 163)),
ig 165 162 false (.bin .neq (.t 164) (ci 8)),
ia 166 (.pick (.t 162) (.c (.a (.p (.b true)))) (.t 165)),
ia 167 (.mv (.t 166)),
ig 168 167 false (.fad 1 (.t 15)),
ig 169 167 false (.ld 1 false (.t 168)),
ig 170 167 false (.not (.t 169)),
ia 171 (.pick (.t 167) (.c (.a (.p (.b true)))) (.t 170)),
ia 172 (.mv (.t 171)),
ig 173 172 false (.mv (.t 16)),
ig 174 172 false (.bin .neq (.t 173) (ci 0)),
ia 175 (.pick (.t 172) (.c (.a (.p (.b true)))) (.t 174))]) (.cond (.t 175) (.seq (.reg [
  ia 0 (.mv (.c (.a (.p (.b false)))))]) .ret) .skip)) (.fz [1, 3, 5, 7, 9, 11, 13, 15, 17, 19, 21, 22, 23, 25, 27] (.seq (.reg [
  ia 176 (.fad 0 (.t 17)),
ia 177 (.ld 1 false (.t 176)),
ia 178 (.bin .eql (.t 177) (ci 4)),
ia 179 (.mv (.t 178)),
ig 180 179 true (.fad 4 (.t 17)),
ig 181 179 true (.fad 2 (.t 180)),
ig 182 179 true (.ld 1 false (.t 181)),
ig 183 179 true (.bin .eql (.t 182) (.c (.a (.p (.i .i64 (-2)))))),
ia 184 (.pick (.t 179) (.t 183) (.c (.a (.p (.b false))))),
ia 185 (.mv (.t 184)),
ig 186 185 true (.fad 4 (.t 17)),
ig 187 185 true (.fad 1 (.t 186)),
ig 188 185 true (.ld 1 false (.t 187)),
ig 189 185 true (.bin .eql (.t 188) (ci 1)),
ia 190 (.pick (.t 185) (.t 189) (.c (.a (.p (.b false))))),
ia 191 (.mv (.t 190)),
ig 192 191 true (.mv (.t 18)),
ig 193 191 true (.bin .eql (.t 192) (ci 0)),
ia 194 (.pick (.t 191) (.t 193) (.c (.a (.p (.b false))))),
ia 195 (.mv (.t 194)),
ig 196 195 true (.fad 0 (.t 19)),
ig 197 195 true (.ld 1 false (.t 196)),
ig 198 195 true (.bin .eql (.t 197) (ci 5)),
ia 199 (.pick (.t 195) (.t 198) (.c (.a (.p (.b false))))),
ia 200 (.mv (.t 199)),
ig 201 200 true (.mv (.t 20)),
ig 202 200 true (.bin .eql (.t 201) (ci 0)),
ia 203 (.pick (.t 200) (.t 202) (.c (.a (.p (.b false))))),
ia 204 (.mv (.t 203)),
ig 205 204 true (.fad 0 (.t 23)),
ig 206 204 true (.ld 1 false (.t 205)),
ig 207 204 true (.bin .eql (.t 206) (ci 2)),
ia 208 (.pick (.t 204) (.t 207) (.c (.a (.p (.b false))))),
ia 209 (.mv (.t 208)),
ig 210 209 true (.fad 3 (.t 23)),
ig 211 209 true (.ld 1 false (.t 210)),
ig 212 209 true (.bin .eql (.t 211) (ci 1)),
ia 213 (.pick (.t 209) (.t 212) (.c (.a (.p (.b false))))),
ia 214 (.mv (.t 213)),
ig 215 214 true (.fad 1 (.t 23)),
ig 216 214 true (.ld 1 false (.t 215)),
ia 217 (.pick (.t 214) (.t 216) (.c (.a (.p (.b false))))),
ia 218 (.mv (.t 217)),
ig 219 218 true (.mv (.t 24)),
ig 220 218 true (.bin .eql (.t 219) (ci 0)),
ia 221 (.pick (.t 218) (.t 220) (.c (.a (.p (.b false))))),
ia 222 (.mv (.t 221)),
ig 223 222 true (.ld 10 true (.t 23)),
ig 224 222 true (.ld 6 true (.t 22)),
ig 225 222 true (.ld 6 true (.t 21)),
ig 226 222 true (.call (.f 16) [(.t 223), (.t 224), (.t 225)]),
ig 227 222 true (.bin .eql (.t 226) (ci 3)),
ia 228 (.pick (.t 222) (.t 227) (.c (.a (.p (.b false))))),
ia 229 (.mv (.t 228)),
ig 230 229 true (.mv (.t 26)),
ig 231 229 true (.bin .eql (.t 230) (ci 140)),
ia 232 (.pick (.t 229) (.t 231) (.c (.a (.p (.b false))))),
ia 233 (.mv (.t 232)),
ig 234 233 true (.mv (.t 28)),
ig 235 233 true (.bin .eql (.t 234) (ci 140)),
ia 236 (.pick (.t 233) (.t 235) (.c (.a (.p (.b false))))),
ia 0 (.mv (.t 236))]) .ret)))))))))))))))))))))))))))))))))))), [(.tmp 0)]⟩
theorem cc11 : ccF Try.prog [(58, [0, 0]), (61, [1, 0]), (75, [0, 0]), (58, [9]), (91, [8]), (93, [8]), (72, [8]), (92, [8]), (76, [8])] Try.f11 = some (stripF F11) := by kernel_rfl
def F14 : FnC := ⟨2, (.seq (.reg [
  ia 2 (.box 6 (.t 0)),
ia 3 (.box 6 (.t 1)),
ia 4 (.new [(.p (.i .i64 0)), (.p (.b false)), (.p (.i .i64 0)), (.p (.i .i64 0)), (.p (.i .i64 0)), (.p (.i .i64 0)), (.p (.i .i64 0)), (.p (.s [])), .nil, .nil]),
ia 5 (.mv (ci 0))]) (.seq (.reg [
  ia 8 (.fn 33 [(.t 2), (.t 3)]),
ia 6 (.mv (.t 8))]) (.seq (.reg [
  ia 9 (.fn 35 [(.t 2), (.t 3)]),
ia 7 (.mv (.t 9))]) (.seq (.block 0 (.seq (.reg [
  ia 11 (.mv (.t 7)),
ia 12 (.call (.t 11) [(ci 0)]),
ia 10 (.mv (.t 12))]) (.cond (.t 10) (.seq (.reg [
  ia 13 (.build [(.p (.i .i64 0)), (.p (.b false)), (.p (.i .i64 0)), (.p (.i .i64 0)), (.p (.i .i64 0)), (.p (.i .i64 0)), (.p (.i .i64 0)), (.p (.s [])), .nil, .nil] []),
io (.st 10 (.t 4) (.t 13)),
ia 5 (.mv (ci 140))]) .ret) (.seq (.reg [
  ia 15 (.fad 0 (.t 2)),
ia 16 (.ld 1 false (.t 15)),
ia 17 (.call (.f 34) [(.t 16)]),
ia 18 (.bin .eql (.t 17) (ci 4)),
ia 14 (.mv (.t 18))]) (.cond (.t 14) (.seq (.reg [
  ia 19 (.call (.f 36) [(ci 8)]),
ia 20 (.ext (.t 19) 0),
ia 21 (.ext (.t 19) 1),
io (.st 10 (.t 4) (.t 20)),
ia 5 (.mv (.t 21))]) .ret) (.seq (.reg [
  ia 23 (.fad 0 (.t 3)),
ia 24 (.ld 1 false (.t 23)),
ia 25 (.call (.f 34) [(.t 24)]),
ia 26 (.bin .eql (.t 25) (ci 4)),
ia 22 (.mv (.t 26))]) (.cond (.t 22) (.seq (.reg [
  ia 27 (.call (.f 36) [(ci 8)]),
ia 28 (.ext (.t 27) 0),
ia 29 (.ext (.t 27) 1),
ia 30 (.call (.f 37) [(.t 28), (.t 29)]),
ia 31 (.ext (.t 30) 0),
ia 32 (.ext (.t 30) 1),
io (.st 10 (.t 4) (.t 31)),
ia 5 (.mv (.t 32))]) .ret) (.seq (.reg [
  ia 34 (.mv (.t 6)),
ia 35 (.call (.t 34) [(ci 3), (ci 3)]),
ia 36 (.mv (.t 35)),
ig 37 36 true (.fad 1 (.t 2)),
ig 38 36 true (.ld 1 false (.t 37)),
ig 39 36 true (.fad 1 (.t 3)),
ig 40 36 true (.ld 1 false (.t 39)),
ig 41 36 true (.bin .eql (.t 38) (.t 40)),
ia 42 (.pick (.t 36) (.t 41) (.c (.a (.p (.b false))))),
ia 43 (.mv (.t 42)),
ig 44 43 true (.fad 0 (.t 2)),
ig 45 43 true (.ld 1 false (.t 44)),
ig 46 43 true (.fad 0 (.t 3)),
ig 47 43 true (.ld 1 false (.t 46)),
ig 48 43 true (.bin .eql (.t 45) (.t 47)),
ia 49 (.pick (.t 43) (.t 48) (.c (.a (.p (.b false))))),
ia 33 (.mv (.t 49))]) (.cond (.t 33) (.seq (.reg [
  ia 50 (.call (.f 36) [(ci 6)]),
ia 51 (.ext (.t 50) 0),
ia 52 (.ext (.t 50) 1),
io (.st 10 (.t 4) (.t 51)),
ia 5 (.mv (.t 52))]) .ret) (.seq (.reg [
  ia 54 (.fad 0 (.t 2)),
ia 55 (.ld 1 false (.t 54)),
ia 56 (.call (.f 34) [(.t 55)]),
ia 57 (.bin .eql (.t 56) (ci 3)),
ia 58 (.mv (.t 57)),
ig 59 58 true (.fad 0 (.t 3)),
ig 60 58 true (.ld 1 false (.t 59)),
ig 61 58 true (.call (.f 34) [(.t 60)]),
ig 62 58 true (.bin .neq (.t 61) (ci 3)),
ig 63 58 true (.mv (.t 62)),
ig 64 63 false (.fad 1 (.t 2)),
ig 65 63 false (.ld 1 false (.t 64)),
ig 66 63 false (.fad 1 (.t 3)),
ig 67 63 false (.ld 1 false (.t 66)),
ig 68 63 false (.bin .leq (.t 65) (.t 67)),
ig 69 58 true (.pick (.t 63) (.c (.a (.p (.b true)))) (.t 68)),
ia 70 (.pick (.t 58) (.t 69) (.c (.a (.p (.b false))))),
ia 53 (.mv (.t 70))]) (.cond (.t 53) (.seq (.reg [
  ia 71 (.ld 6 true (.t 2)),
ia 72 (.ld 6 true (.t 3)),
ia 73 (.call (.f 38) [(.t 71), (.t 72)]),
ia 74 (.ext (.t 73) 0),
ia 75 (.ext (.t 73) 1),
io (.st 10 (.t 4) (.t 74)),
ia 5 (.mv (.t 75))]) .ret) (.seq (.reg [
  ia 77 (.fad 0 (.t 3)),
ia 78 (.ld 1 false (.t 77)),
ia 79 (.call (.f 34) [(.t 78)]),
ia 80 (.bin .eql (.t 79) (ci 3)),
ia 76 (.mv (.t 80))]) (.cond (.t 76) (.seq (.reg [
  ia 81 (.ld 6 true (.t 3)),
ia 82 (.ld 6 true (.t 2)),
ia 83 (.call (.f 38) [(.t 81), (.t 82)]),
ia 84 (.ext (.t 83) 0),
ia 85 (.ext (.t 83) 1),
ia 86 (.call (.f 37) [(.t 84), (.t 85)]),
ia 87 (.ext (.t 86) 0),
ia 88 (.ext (.t 86) 1),
io (.st 10 (.t 4) (.t 87)),
ia 5 (.mv (.t 88))]) .ret) (.seq (.reg [
  ia 90 (.mv (.t 6)),
ia 91 (.call (.t 90) [(ci 1), (ci 2)]),
ia 89 (.mv (.t 91))]) (.cond (.t 89) (.seq (.reg [
  ia 92 (.ld 6 true (.t 2)),
ia 93 (.ld 6 true (.t 3)),
ia 94 (.call (.f 39) [(.t 92), (.t 93)]),
ia 95 (.ext (.t 94) 0),
ia 96 (.ext (.t 94) 1),
io (.st 10 (.t 4) (.t 95)),
ia 5 (.mv (.t 96))]) .ret) (.seq (.reg [
  ia 98 (.mv (.t 6)),
ia 99 (.call (.t 98) [(ci 2), (ci 1)]),
ia 97 (.mv (.t 99))]) (.cond (.t 97) (.seq (.reg [
  ia 100 (.ld 6 true (.t 3)),
ia 101 (.ld 6 true (.t 2)),
ia 102 (.call (.f 39) [(.t 100), (.t 101)]),
ia 103 (.ext (.t 102) 0),
ia 104 (.ext (.t 102) 1),
ia 105 (.call (.f 37) [(.t 103), (.t 104)]),
ia 106 (.ext (.t 105) 0),
ia 107 (.ext (.t 105) 1),
io (.st 10 (.t 4) (.t 106)),
ia 5 (.mv (.t 107))]) .ret) .skip))))))))))))))))) (.seq (.reg [
  ia 108 (.build [(.p (.i .i64 0)), (.p (.b false)), (.p (.i .i64 0)), (.p (.i .i64 0)), (.p (.i .i64 0)), (.p (.i .i64 0)), (.p (.i .i64 0)), (.p (.s [])), .nil, .nil] []),
io (.st 10 (.t 4) (.t 108)),
ia 5 (.mv (ci 140))]) .ret))))), [(.cell 4 10 true), (.tmp 5)]⟩
theorem cc14 : ccF Try.prog [(58, [0, 0]), (61, [1, 0]), (75, [0, 0]), (58, [9]), (91, [8]), (93, [8]), (72, [8]), (92, [8]), (76, [8])] Try.f14 = some (stripF F14) := by kernel_rfl
def F16 : FnC := ⟨3, (.seq (.reg [
  ia 3 (.box 10 (.t 0)),
ia 4 (.box 6 (.t 1)),
ia 5 (.box 6 (.t 2)),
ia 6 (.mv (ci 0))]) (.seq (.reg [
  ir 9 (.ld 6 true (.t 4)),
ir 10 (.ld 6 true (.t 5)),
⟨(.some 7), .none, (.new [(.p (.i .i64 0)), (.p (.i .i64 0)), (.p (.i .i64 0)), (.p (.s [])), .nil, .nil]), .ad⟩,
⟨(.some 8), .none, (.new [(.p (.i .i64 0)), (.p (.i .i64 0)), (.p (.i .i64 0)), (.p (.s [])), .nil, .nil]), .ad⟩,
⟨.none, .none, (.st 6 (.t 7) (.t 9)), (.wr [5])⟩,
io (.st 6 (.t 8) (.t 10))]) (.seq (.seq (.reg [
  ia 11 (.fad 1 (.t 3)),
ia 12 (.ld 1 false (.t 11))]) (.cond (.t 12) (.reg [
  ir 13 (.ld 6 true (.t 5)),
ir 14 (.ld 6 true (.t 4)),
⟨.none, .none, (.st 6 (.t 7) (.t 13)), (.wr [4])⟩,
io (.st 6 (.t 8) (.t 14))]) .skip)) (.seq (.seq (.reg [
  ia 15 (.fad 0 (.t 3)),
ia 16 (.ld 1 false (.t 15))]) (.block 0 (.seq (.reg [
  ia 18 (.bin .eql (.t 16) (ci 2)),
ia 17 (.mv (.t 18))]) (.cond (.t 17) (.seq (.seq (.reg [
  ia 19 (.fad 3 (.t 3)),
ia 20 (.ld 1 false (.t 19)),
ia 21 (.bin .lss (.t 20) (ci 0)),
ia 22 (.mv (.t 21)),
ig 23 22 false (.fad 3 (.t 3)),
ig 24 22 false (.ld 1 false (.t 23)),
ig 25 22 false (.fad 4 (.t 7)),
ig 26 22 false (.ld 1 false (.t 25)),
ig 27 22 false (.len false (.t 26)),
ig 28 22 false (.bin .geq (.t 24) (.t 27)),
ia 29 (.pick (.t 22) (.c (.a (.p (.b true)))) (.t 28))]) (.cond (.t 29) (.seq (.reg [
  ia 6 (.mv (ci 0))]) .ret) .skip)) (.seq (.reg [
  ir 30 (.fad 4 (.t 7)),
ir 31 (.ld 1 false (.t 30)),
ir 32 (.fad 3 (.t 3)),
ir 33 (.ld 1 false (.t 32)),
ir 34 (.ias 2 (.t 31) (.t 33)),
ir 35 (.fad 1 (.t 34)),
ir 36 (.ld 1 false (.t 35)),
ir 37 (.fad 4 (.t 7)),
ir 38 (.ld 1 false (.t 37)),
ir 39 (.len false (.t 38)),
ia 40 (.bin .add (.t 36) (.t 39)),
ia 41 (.bin .sub (.t 40) (ci 1)),
ia 6 (.mv (.t 41))]) .ret)) (.seq (.seq (.reg [
  ia 43 (.bin .eql (.t 16) (ci 3)),
ia 42 (.mv (.t 43))]) (.cond (.t 42) .skip (.reg [
  ia 44 (.bin .eql (.t 16) (ci 4)),
ia 42 (.mv (.t 44))]))) (.cond (.t 42) (.seq (.reg [
  ia 6 (.mv (ci 1))]) .ret) (.seq (.reg [
  ia 46 (.bin .eql (.t 16) (ci 5)),
ia 45 (.mv (.t 46))]) (.cond (.t 45) (.seq (.reg [
  ir 47 (.ld 6 true (.t 7)),
ir 48 (.call (.f 40) [(.t 47)]),
ir 49 (.bin .sub (.t 48) (ci 1)),
ir 50 (.mx (.t 49) (ci 0)),
ir 51 (.bin .add (ci 1) (.t 50)),
ir 52 (.ld 6 true (.t 8)),
ir 53 (.call (.f 40) [(.t 52)]),
ia 54 (.bin .add (.t 51) (.t 53)),
ia 6 (.mv (.t 54))]) .ret) (.seq (.reg [
  ia 56 (.bin .eql (.t 16) (ci 7)),
ia 55 (.mv (.t 56))]) (.cond (.t 55) (.seq (.seq (.reg [
  ia 57 (.fad 0 (.t 7)),
ia 58 (.ld 1 false (.t 57)),
ia 59 (.bin .eql (.t 58) (ci 4))]) (.cond (.t 59) (.seq (.reg [
  ia 60 (.ld 6 true (.t 8)),
ia 61 (.call (.f 40) [(.t 60)]),
ia 62 (.bin .add (ci 2) (.t 61)),
ia 6 (.mv (.t 62))]) .ret) .skip)) (.seq (.reg [
  ia 63 (.ld 6 true (.t 8)),
ia 64 (.call (.f 40) [(.t 63)]),
ia 65 (.bin .add (ci 1) (.t 64)),
ia 6 (.mv (.t 65))]) .ret)) (.seq (.reg [
  ia 67 (.bin .eql (.t 16) (ci 8)),
ia 66 (.mv (.t 67))]) (.cond (.t 66) (.seq (.reg [
  ia 68 (.ld 6 true (.t 8)),
ia 69 (.call (.f 40) [(.t 68)]),
ia 6 (.mv (.t 69))]) .ret) .skip)))))))))))) (.seq (.reg [
  ia 6 (.mv (ci 0))]) .ret))))), [(.tmp 6)]⟩
theorem cc16 : ccF Try.prog [(58, [0, 0]), (61, [1, 0]), (75, [0, 0]), (58, [9]), (91, [8]), (93, [8]), (72, [8]), (92, [8]), (76, [8])] Try.f16 = some (stripF F16) := by kernel_rfl
def F22 : FnC := ⟨1, (.seq (.reg [
  ia 1 (.box 4 (.t 0)),
ia 2 (.new [(.p (.i .i64 0)), (.p (.i .i64 0)), (.p (.s [])), .nil]),
ia 3 (.mv (ci 0))]) (.seq (.seq (.reg [
  ia 4 (.ld 4 true (.t 1)),
ia 5 (.call (.f 41) [(.t 4), (ci 4611686018427387904)]),
ia 6 (.not (.t 5))]) (.cond (.t 6) (.seq (.reg [
  ia 7 (.ld 4 true (.t 1)),
io (.st 4 (.t 2) (.t 7)),
ia 3 (.mv (ci 0))]) .ret) .skip)) (.seq (.reg [
  ia 8 (.ld 4 true (.t 1)),
ia 9 (.call (.f 42) [(.t 8)]),
ia 10 (.ext (.t 9) 0),
ia 11 (.ext (.t 9) 1),
io (.st 4 (.t 2) (.t 10)),
ia 3 (.mv (.t 11))]) .ret))), [(.cell 2 4 true), (.tmp 3)]⟩
theorem cc22 : ccF Try.prog [(58, [0, 0]), (61, [1, 0]), (75, [0, 0]), (58, [9]), (91, [8]), (93, [8]), (72, [8]), (92, [8]), (76, [8])] Try.f22 = some (stripF F22) := by kernel_rfl
def F32 : FnC := ⟨4, (.seq (.reg [
  ia 8 (.new [(.p (.i .i64 0)), (.p (.b false)), (.p (.i .i64 0)), (.p (.i .i64 0)), (.p (.i .i64 0)), (.p (.i .i64 0)), (.p (.i .i64 0)), (.p (.s [])), .nil, .nil]),
ia 9 (.mv (ci 0))]) (.seq (.reg [
  ia 10 (.mv (.t 0)),
ia 11 (.mv (.t 1)),
ia 12 (.build [(.p (.i .i64 0)), (.p (.i .i64 0)), (.p (.i .i64 0)), (.p (.s [])), .nil, .nil] [(0, (1, (.t 10))), (1, (1, (.t 11)))]),
ia 13 (.mv (.t 2)),
ia 14 (.mv (.t 3)),
ia 15 (.build [(.p (.i .i64 0)), (.p (.i .i64 0)), (.p (.i .i64 0)), (.p (.s [])), .nil, .nil] [(0, (1, (.t 13))), (1, (1, (.t 14)))]),
ia 16 (.call (.f 14) [(.t 12), (.t 15)]),
ia 17 (.ext (.t 16) 0),
ia 18 (.ext (.t 16) 1),
io (.st 10 (.t 8) (.t 17)),
ia 9 (.mv (.t 18))]) .ret)), [(.cell 8 10 true), (.tmp 9)]⟩
theorem cc32 : ccF Try.prog [(58, [0, 0]), (61, [1, 0]), (75, [0, 0]), (58, [9]), (91, [8]), (93, [8]), (72, [8]), (92, [8]), (76, [8])] Try.f32 = some (stripF F32) := by kernel_rfl
def F33 : FnC := ⟨4, (.seq (.reg [
  ia 6 (.mv (.c (.a (.p (.b false)))))]) (.seq (.reg [
  ia 7 (.fad 0 (.t 2)),
ia 8 (.ld 1 false (.t 7)),
ia 9 (.call (.f 34) [(.t 8)]),
ia 10 (.mv (.t 0)),
ia 11 (.bin .eql (.t 9) (.t 10)),
ia 12 (.mv (.t 11)),
ig 13 12 true (.fad 0 (.t 3)),
ig 14 12 true (.ld 1 false (.t 13)),
ig 15 12 true (.call (.f 34) [(.t 14)]),
ig 16 12 true (.mv (.t 1)),
ig 17 12 true (.bin .eql (.t 15) (.t 16)),
ia 18 (.pick (.t 12) (.t 17) (.c (.a (.p (.b false))))),
ia 6 (.mv (.t 18))]) .ret)), [(.tmp 6)]⟩
theorem cc33 : ccF Try.prog [(58, [0, 0]), (61, [1, 0]), (75, [0, 0]), (58, [9]), (91, [8]), (93, [8]), (72, [8]), (92, [8]), (76, [8])] Try.f33 = some (stripF F33) := by kernel_rfl
def F34 : FnC := ⟨1, (.seq (.reg [
  ia 2 (.mv (ci 0))]) (.seq (.seq (.reg [
  ia 3 (.mv (.t 0))]) (.block 0 (.seq (.seq (.reg [
  ia 5 (.bin .eql (.t 3) (ci 3)),
ia 4 (.mv (.t 5))]) (.cond (.t 4) .skip (.seq (.reg [
  ia 6 (.bin .eql (.t 3) (ci 9)),
ia 4 (.mv (.t 6))]) (.cond (.t 4) .skip (.seq (.reg [
  ia 7 (.bin .eql (.t 3) (ci 11)),
ia 4 (.mv (.t 7))]) (.cond (.t 4) .skip (.reg [
  ia 8 (.bin .eql (.t 3) (ci 12)),
ia 4 (.mv (.t 8))]))))))) (.cond (.t 4) (.seq (.reg [
  ia 2 (.mv (ci 1))]) .ret) (.seq (.seq (.reg [
  ia 10 (.bin .eql (.t 3) (ci 2)),
ia 9 (.mv (.t 10))]) (.cond (.t 9) .skip (.seq (.reg [
  ia 11 (.bin .eql (.t 3) (ci 8)),
ia 9 (.mv (.t 11))]) (.cond (.t 9) .skip (.seq (.reg [
  ia 12 (.bin .eql (.t 3) (ci 10)),
ia 9 (.mv (.t 12))]) (.cond (.t 9) .skip (.reg [
  ia 13 (.bin .eql (.t 3) (ci 13)),
ia 9 (.mv (.t 13))]))))))) (.cond (.t 9) (.seq (.reg [
  ia 2 (.mv (ci 2))]) .ret) (.seq (.seq (.reg [
  ia 15 (.bin .eql (.t 3) (ci 4)),
ia 14 (.mv (.t 15))]) (.cond (.t 14) .skip (.seq (.reg [
  ia 16 (.bin .eql (.t 3) (ci 5)),
ia 14 (.mv (.t 16))]) (.cond (.t 14) .skip (.reg [
  ia 17 (.bin .eql (.t 3) (ci 6)),
ia 14 (.mv (.t 17))]))))) (.cond (.t 14) (.seq (.reg [
  ia 2 (.mv (ci 3))]) .ret) (.seq (.reg [
  ia 19 (.bin .eql (.t 3) (ci 7)),
ia 18 (.mv (.t 19))]) (.cond (.t 18) (.seq (.reg [
  ia 2 (.mv (ci 4))]) .ret) .skip)))))))))) (.seq (.reg [
  ia 2 (.mv (ci 0))]) .ret))), [(.tmp 2)]⟩
theorem cc34 : ccF Try.prog [(58, [0, 0]), (61, [1, 0]), (75, [0, 0]), (58, [9]), (91, [8]), (93, [8]), (72, [8]), (92, [8]), (76, [8])] Try.f34 = some (stripF F34) := by kernel_rfl
def F35 : FnC := ⟨3, (.seq (.reg [
  ia 4 (.mv (.c (.a (.p (.b false)))))]) (.seq (.reg [
  ia 5 (.fad 0 (.t 1)),
ia 6 (.ld 1 false (.t 5)),
ia 7 (.call (.f 34) [(.t 6)]),
ia 8 (.mv (.t 0)),
ia 9 (.bin .eql (.t 7) (.t 8)),
ia 10 (.mv (.t 9)),
ig 11 10 false (.fad 0 (.t 2)),
ig 12 10 false (.ld 1 false (.t 11)),
ig 13 10 false (.call (.f 34) [(.t 12)]),
ig 14 10 false (.mv (.t 0)),
ig 15 10 false (.bin .eql (.t 13) (.t 14)),
ia 16 (.pick (.t 10) (.c (.a (.p (.b true)))) (.t 15)),
ia 4 (.mv (.t 16))]) .ret)), [(.tmp 4)]⟩
theorem cc35 : ccF Try.prog [(58, [0, 0]), (61, [1, 0]), (75, [0, 0]), (58, [9]), (91, [8]), (93, [8]), (72, [8]), (92, [8]), (76, [8])] Try.f35 = some (stripF F35) := by kernel_rfl
def F36 : FnC := ⟨1, (.seq (.reg [
  ia 2 (.new [(.p (.i .i64 0)), (.p (.b false)), (.p (.i .i64 0)), (.p (.i .i64 0)), (.p (.i .i64 0)), (.p (.i .i64 0)), (.p (.i .i64 0)), (.p (.s [])), .nil, .nil]),
ia 3 (.mv (ci 0))]) (.seq (.reg [
  ia 4 (.mv (.t 0)),
ia 5 (.build [(.p (.i .i64 0)), (.p (.b false)), (.p (.i .i64 0)), (.p (.i .i64 0)), (.p (.i .i64 0)), (.p (.i .i64 0)), (.p (.i .i64 0)), (.p (.s [])), .nil, .nil] [(0, (1, (.t 4)))]),
io (.st 10 (.t 2) (.t 5)),
ia 3 (.mv (ci 0))]) .ret)), [(.cell 2 10 true), (.tmp 3)]⟩
theorem cc36 : ccF Try.prog [(58, [0, 0]), (61, [1, 0]), (75, [0, 0]), (58, [9]), (91, [8]), (93, [8]), (72, [8]), (92, [8]), (76, [8])] Try.f36 = some (stripF F36) := by kernel_rfl
def F37 : FnC := ⟨2, (.seq (.reg [
  ia 2 (.box 10 (.t 0)),
ia 4 (.new [(.p (.i .i64 0)), (.p (.b false)), (.p (.i .i64 0)), (.p (.i .i64 0)), (.p (.i .i64 0)), (.p (.i .i64 0)), (.p (.i .i64 0)), (.p (.s [])), .nil, .nil]),
ia 5 (.mv (ci 0))]) (.seq (.seq (.reg [
  ia 6 (.mv (.t 1)),
ia 7 (.bin .eql (.t 6) (ci 0))]) (.cond (.t 7) (.reg [
  ia 8 (.fad 1 (.t 2)),
io (.st 1 (.t 8) (.c (.a (.p (.b true)))))]) .skip)) (.seq (.reg [
  ia 9 (.ld 10 true (.t 2)),
ia 10 (.mv (.t 1)),
io (.st 10 (.t 4) (.t 9)),
ia 5 (.mv (.t 10))]) .ret))), [(.cell 4 10 true), (.tmp 5)]⟩
theorem cc37 : ccF Try.prog [(58, [0, 0]), (61, [1, 0]), (75, [0, 0]), (58, [9]), (91, [8]), (93, [8]), (72, [8]), (92, [8]), (76, [8])] Try.f37 = some (stripF F37) := by kernel_rfl
def F38 : FnC := ⟨2, (.seq (.reg [
  ia 2 (.box 6 (.t 0)),
ia 3 (.box 6 (.t 1)),
ia 4 (.new [(.p (.i .i64 0)), (.p (.b false)), (.p (.i .i64 0)), (.p (.i .i64 0)), (.p (.i .i64 0)), (.p (.i .i64 0)), (.p (.i .i64 0)), (.p (.s [])), .nil, .nil]),
ia 5 (.mv (ci 0))]) (.seq (.reg [
  ia 7 (.fad 1 (.t 3)),
ia 8 (.ld 1 false (.t 7)),
ia 9 (.build [(.p (.i .i64 0)), (.p (.b false)), (.p (.i .i64 0)), (.p (.i .i64 0)), (.p (.i .i64 0)), (.p (.i .i64 0)), (.p (.i .i64 0)), (.p (.s [])), .nil, .nil] [(0, (1, (ci 7))), (2, (1, (.t 8)))]),
ia 6 (.new [(.p (.i .i64 0)), (.p (.b false)), (.p (.i .i64 0)), (.p (.i .i64 0)), (.p (.i .i64 0)), (.p (.i .i64 0)), (.p (.i .i64 0)), (.p (.s [])), .nil, .nil]),
io (.st 10 (.t 6) (.t 9))]) (.seq (.seq (.reg [
  ia 10 (.fad 0 (.t 2)),
ia 11 (.ld 1 false (.t 10))]) (.block 0 (.seq (.reg [
  ia 13 (.bin .eql (.t 11) (ci 5)),
ia 12 (.mv (.t 13))]) (.cond (.t 12) (.reg [
  ia 14 (.fad 2 (.t 6)),
ia 15 (.ld 1 false (.t 14)),
ia 16 (.bin .sub (.t 15) (ci 1)),
ia 17 (.fad 2 (.t 6)),
io (.st 1 (.t 17) (.t 16))]) (.seq (.reg [
  ia 19 (.bin .eql (.t 11) (ci 6)),
ia 18 (.mv (.t 19))]) (.cond (.t 18) (.reg [
  ia 20 (.fad 2 (.t 6)),
ia 21 (.ld 1 false (.t 20)),
ia 22 (.bin .add (.t 21) (ci 1)),
ia 23 (.fad 2 (.t 6)),
io (.st 1 (.t 23) (.t 22))]) .skip)))))) (.seq (.block 1 (.seq (.reg [
  ia 25 (.fad 1 (.t 2)),
ia 26 (.ld 1 false (.t 25)),
ia 27 (.fad 1 (.t 3)),
ia 28 (.ld 1 false (.t 27)),
ia 29 (.bin .geq (.t 26) (.t 28)),
ia 24 (.mv (.t 29))]) (.cond (.t 24) (.seq (.reg [
  ia 30 (.build [(.p (.i .i64 0)), (.p (.b false)), (.p (.i .i64 0)), (.p (.i .i64 0)), (.p (.i .i64 0)), (.p (.i .i64 0)), (.p (.i .i64 0)), (.p (.s [])), .nil, .nil] []),
io (.st 10 (.t 4) (.t 30)),
ia 5 (.mv (ci 140))]) .ret) (.seq (.reg [
  ia 32 (.fad 2 (.t 6)),
ia 33 (.ld 1 false (.t 32)),
ia 34 (.bin .gtr (.t 33) (ci 60)),
ia 31 (.mv (.t 34))]) (.cond (.t 31) (.seq (.reg [
  ia 35 (.build [(.p (.i .i64 0)), (.p (.b false)), (.p (.i .i64 0)), (.p (.i .i64 0)), (.p (.i .i64 0)), (.p (.i .i64 0)), (.p (.i .i64 0)), (.p (.s [])), .nil, .nil] []),
io (.st 10 (.t 4) (.t 35)),
ia 5 (.mv (ci 141))]) .ret) .skip))))) (.seq (.reg [
  ia 36 (.ld 10 true (.t 6)),
io (.st 10 (.t 4) (.t 36)),
ia 5 (.mv (ci 0))]) .ret))))), [(.cell 4 10 true), (.tmp 5)]⟩
theorem cc38 : ccF Try.prog [(58, [0, 0]), (61, [1, 0]), (75, [0, 0]), (58, [9]), (91, [8]), (93, [8]), (72, [8]), (92, [8]), (76, [8])] Try.f38 = some (stripF F38) := by kernel_rfl
def F39 : FnC := ⟨2, (.seq (.reg [
  ia 2 (.box 6 (.t 0)),
ia 3 (.box 6 (.t 1)),
ia 4 (.new [(.p (.i .i64 0)), (.p (.b false)), (.p (.i .i64 0)), (.p (.i .i64 0)), (.p (.i .i64 0)), (.p (.i .i64 0)), (.p (.i .i64 0)), (.p (.s [])), .nil, .nil]),
ia 5 (.mv (ci 0))]) (.seq (.seq (.reg [
  ia 7 (.fad 0 (.t 2)),
ia 8 (.ld 1 false (.t 7)),
ia 9 (.fad 0 (.t 3)),
ia 10 (.ld 1 false (.t 9)),
ia 11 (.build [(.p (.i .i64 0)), (.p (.i .i64 0))] [(0, (1, (.t 8))), (1, (1, (.t 10)))]),
ia 6 (.new [(.p (.i .i64 0)), (.p (.i .i64 0))]),
io (.st 2 (.t 6) (.t 11))]) (.block 0 (.seq (.reg [
  ia 13 (.ld 2 true (.t 6)),
ia 14 (.build [(.p (.i .i64 0)), (.p (.i .i64 0))] [(0, (1, (ci 3))), (1, (1, (ci 2)))]),
ia 15 (.eqg false [0, 0] (.t 13) (.t 14)),
ia 12 (.mv (.t 15))]) (.cond (.t 12) (.seq (.seq (.reg [
  ia 16 (.fad 1 (.t 2)),
ia 17 (.ld 1 false (.t 16)),
ia 18 (.fad 1 (.t 3)),
ia 19 (.ld 1 false (.t 18)),
ia 20 (.bin .neq (.t 17) (.t 19))]) (.cond (.t 20) (.seq (.reg [
  ia 21 (.build [(.p (.i .i64 0)), (.p (.b false)), (.p (.i .i64 0)), (.p (.i .i64 0)), (.p (.i .i64 0)), (.p (.i .i64 0)), (.p (.i .i64 0)), (.p (.s [])), .nil, .nil] []),
io (.st 10 (.t 4) (.t 21)),
ia 5 (.mv (ci 140))]) .ret) .skip)) (.seq (.reg [
  ia 22 (.call (.f 36) [(ci 1)]),
ia 23 (.ext (.t 22) 0),
ia 24 (.ext (.t 22) 1),
io (.st 10 (.t 4) (.t 23)),
ia 5 (.mv (.t 24))]) .ret)) (.seq (.reg [
  ia 26 (.ld 2 true (.t 6)),
ia 27 (.build [(.p (.i .i64 0)), (.p (.i .i64 0))] [(0, (1, (ci 9))), (1, (1, (ci 8)))]),
ia 28 (.eqg false [0, 0] (.t 26) (.t 27)),
ia 25 (.mv (.t 28))]) (.cond (.t 25) (.seq (.reg [
  ia 29 (.ld 6 true (.t 2)),
ia 30 (.ld 6 true (.t 3)),
ia 31 (.call (.f 52) [(.t 29), (.t 30)]),
ia 32 (.ext (.t 31) 0),
ia 33 (.ext (.t 31) 1),
io (.st 10 (.t 4) (.t 32)),
ia 5 (.mv (.t 33))]) .ret) (.seq (.reg [
  ia 35 (.ld 2 true (.t 6)),
ia 36 (.build [(.p (.i .i64 0)), (.p (.i .i64 0))] [(0, (1, (ci 11))), (1, (1, (ci 10)))]),
ia 37 (.eqg false [0, 0] (.t 35) (.t 36)),
ia 34 (.mv (.t 37))]) (.cond (.t 34) (.seq (.reg [
  ia 38 (.call (.f 36) [(ci 3)]),
ia 39 (.ext (.t 38) 0),
ia 40 (.ext (.t 38) 1),
io (.st 10 (.t 4) (.t 39)),
ia 5 (.mv (.t 40))]) .ret) (.seq (.reg [
  ia 42 (.ld 2 true (.t 6)),
ia 43 (.build [(.p (.i .i64 0)), (.p (.i .i64 0))] [(0, (1, (ci 12))), (1, (1, (ci 10)))]),
ia 44 (.eqg false [0, 0] (.t 42) (.t 43)),
ia 41 (.mv (.t 44))]) (.cond (.t 41) (.seq (.reg [
  ia 45 (.ld 6 true (.t 2)),
ia 46 (.ld 6 true (.t 3)),
ia 47 (.call (.f 53) [(.t 45), (.t 46)]),
ia 48 (.ext (.t 47) 0),
ia 49 (.ext (.t 47) 1),
io (.st 10 (.t 4) (.t 48)),
ia 5 (.mv (.t 49))]) .ret) .skip)))))))))) (.seq (.reg [
  ia 50 (.call (.f 36) [(ci 5)]),
ia 51 (.ext (.t 50) 0),
ia 52 (.ext (.t 50) 1),
io (.st 10 (.t 4) (.t 51)),
ia 5 (.mv (.t 52))]) .ret))), [(.cell 4 10 true), (.tmp 5)]⟩
theorem cc39 : ccF Try.prog [(58, [0, 0]), (61, [1, 0]), (75, [0, 0]), (58, [9]), (91, [8]), (93, [8]), (72, [8]), (92, [8]), (76, [8])] Try.f39 = some (stripF F39) := by kernel_rfl
def F40 : FnC := ⟨1, (.seq (.reg [
  ia 1 (.box 6 (.t 0)),
ia 2 (.mv (ci 0))]) (.seq (.reg [
  ia 3 (.fad 5 (.t 1)),
ia 4 (.ld 1 false (.t 3)),
ia 5 (.len false (.t 4)),
ia 6 (.bin .sub (.t 5) (ci 1)),
ia 7 (.mx (.t 6) (ci 0)),
ia 2 (.mv (.t 7))]) .ret)), [(.tmp 2)]⟩
theorem cc40 : ccF Try.prog [(58, [0, 0]), (61, [1, 0]), (75, [0, 0]), (58, [9]), (91, [8]), (93, [8]), (72, [8]), (92, [8]), (76, [8])] Try.f40 = some (stripF F40) := by kernel_rfl
def F41 : FnC := ⟨2, (.seq (.reg [
  ia 2 (.box 4 (.t 0)),
ia 4 (.mv (.c (.a (.p (.b false)))))]) (.seq (.reg [
  ia 5 (.ld 4 true (.t 2)),
ia 6 (.mv (.t 1)),
ia 7 (.call (.f 54) [(.t 5), (.t 6), (.c (.a (.p (.b false))))]),
ia 4 (.mv (.t 7))]) .ret)), [(.tmp 4)]⟩
theorem cc41 : ccF Try.prog [(58, [0, 0]), (61, [1, 0]), (75, [0, 0]), (58, [9]), (91, [8]), (93, [8]), (72, [8]), (92, [8]), (76, [8])] Try.f41 = some (stripF F41) := by kernel_rfl
def F42 : FnC := ⟨1, (.seq (.reg [
  ia 1 (.box 4 (.t 0)),
ia 2 (.new [(.p (.i .i64 0)), (.p (.i .i64 0)), (.p (.s [])), .nil]),
ia 3 (.mv (ci 0))]) (.seq (.seq (.reg [
  ia 6 (.fad 0 (.t 1)),
ia 7 (.ld 1 false (.t 6)),
ia 8 (.bin .neq (.t 7) (ci 3)),
ia 9 (.mv (.t 8)),
ig 10 9 true (.fad 0 (.t 1)),
ig 11 9 true (.ld 1 false (.t 10)),
ig 12 9 true (.bin .neq (.t 11) (ci 5)),
ia 13 (.pick (.t 9) (.t 12) (.c (.a (.p (.b false))))),
ia 14 (.mv (.t 13)),
ig 15 14 true (.fad 0 (.t 1)),
ig 16 14 true (.ld 1 false (.t 15)),
ig 17 14 true (.bin .neq (.t 16) (ci 8)),
ia 18 (.pick (.t 14) (.t 17) (.c (.a (.p (.b false)))))]) (.cond (.t 18) (.seq (.reg [
  ia 19 (.ld 4 true (.t 1)),
io (.st 4 (.t 2) (.t 19)),
ia 3 (.mv (ci 0))]) .ret) .skip)) (.seq (.reg [
  ia 20 (.fad 3 (.t 1)),
ia 21 (.ld 1 false (.t 20)),
ia 22 (.ias 4 (.t 21) (ci 0)),
ia 23 (.ld 4 true (.t 22)),
ia 4 (.new [(.p (.i .i64 0)), (.p (.i .i64 0)), (.p (.s [])), .nil]),
io (.st 4 (.t 4) (.t 23))]) (.seq (.seq (.reg [
  ia 24 (.ld 4 true (.t 4)),
ia 25 (.call (.f 55) [(.t 24)]),
ia 26 (.not (.t 25))]) (.cond (.t 26) (.seq (.reg [
  ia 27 (.ld 4 true (.t 1)),
ia 28 (.call (.f 56) [(.t 27), (ci 0)]),
ia 29 (.ext (.t 28) 0),
ia 30 (.ext (.t 28) 1),
io (.st 4 (.t 2) (.t 29)),
ia 3 (.mv (.t 30))]) .ret) .skip)) (.seq (.seq (.reg [
  ia 31 (.fad 0 (.t 1)),
ia 32 (.ld 1 false (.t 31)),
ia 33 (.bin .eql (.t 32) (ci 5))]) (.cond (.t 33) (.seq (.reg [
  ia 34 (.ld 4 true (.t 1)),
ia 35 (.call (.f 57) [(.t 34)]),
ia 36 (.ext (.t 35) 0),
ia 37 (.ext (.t 35) 1),
io (.st 4 (.t 2) (.t 36)),
ia 3 (.mv (.t 37))]) .ret) .skip)) (.seq (.seq (.reg [
  ia 38 (.fad 0 (.t 1)),
ia 39 (.ld 1 false (.t 38)),
ia 40 (.bin .eql (.t 39) (ci 3))]) (.cond (.t 40) (.seq (.seq (.reg [
  ia 41 (.fad 0 (.t 4)),
ia 42 (.ld 1 false (.t 41)),
ia 43 (.bin .eql (.t 42) (ci 2))]) (.cond (.t 43) (.seq (.reg [
  ir 44 (.fad 3 (.t 4)),
ir 45 (.ld 1 false (.t 44)),
ir 46 (.ias 4 (.t 45) (ci 0)),
ir 47 (.ld 4 true (.t 46)),
ir 48 (.fad 3 (.t 1)),
ir 49 (.ld 1 false (.t 48)),
ir 50 (.ias 4 (.t 49) (ci 1)),
ir 51 (.ld 4 true (.t 50)),
ia 52 (.call (.f 58) [(.t 47), (ci 0), (.t 51)]),
io (.st 4 (.t 2) (.t 52)),
ia 3 (.mv (ci 1))]) .ret) .skip)) (.seq (.reg [
  ia 53 (.call (.f 59) []),
ia 54 (.ext (.t 53) 0),
ia 55 (.ext (.t 53) 1),
io (.st 4 (.t 2) (.t 54)),
ia 3 (.mv (.t 55))]) .ret)) .skip)) (.seq (.reg [
  ia 56 (.fad 3 (.t 1)),
ia 57 (.ld 1 false (.t 56)),
ia 58 (.ias 4 (.t 57) (ci 1)),
ia 59 (.ld 4 true (.t 58)),
ia 5 (.new [(.p (.i .i64 0)), (.p (.i .i64 0)), (.p (.s [])), .nil]),
io (.st 4 (.t 5) (.t 59))]) (.seq (.seq (.reg [
  ia 60 (.fad 0 (.t 4)),
ia 61 (.ld 1 false (.t 60)),
ia 62 (.bin .neq (.t 61) (ci 7))]) (.cond (.t 62) (.seq (.reg [
  ia 63 (.call (.f 59) []),
ia 64 (.ext (.t 63) 0),
ia 65 (.ext (.t 63) 1),
io (.st 4 (.t 2) (.t 64)),
ia 3 (.mv (.t 65))]) .ret) .skip)) (.seq (.seq (.reg [
  ia 66 (.ld 4 true (.t 5)),
ia 67 (.call (.f 55) [(.t 66)]),
ia 68 (.not (.t 67))]) (.cond (.t 68) (.seq (.reg [
  ia 69 (.ld 4 true (.t 1)),
ia 70 (.call (.f 56) [(.t 69), (ci 1)]),
ia 71 (.ext (.t 70) 0),
ia 72 (.ext (.t 70) 1),
io (.st 4 (.t 2) (.t 71)),
ia 3 (.mv (.t 72))]) .ret) .skip)) (.seq (.seq (.reg [
  ia 73 (.fad 0 (.t 5)),
ia 74 (.ld 1 false (.t 73)),
ia 75 (.bin .neq (.t 74) (ci 7))]) (.cond (.t 75) (.seq (.reg [
  ia 76 (.call (.f 59) []),
ia 77 (.ext (.t 76) 0),
ia 78 (.ext (.t 76) 1),
io (.st 4 (.t 2) (.t 77)),
ia 3 (.mv (.t 78))]) .ret) .skip)) (.seq (.reg [
  ia 79 (.fad 2 (.t 1)),
ia 80 (.ld 1 false (.t 79)),
ia 81 (.fad 1 (.t 4)),
ia 82 (.ld 1 false (.t 81)),
ia 83 (.fad 1 (.t 5)),
ia 84 (.ld 1 false (.t 83)),
ia 85 (.call (.f 60) [(.t 80), (.t 82), (.t 84)]),
ia 86 (.ext (.t 85) 0),
ia 87 (.ext (.t 85) 1),
io (.st 4 (.t 2) (.t 86)),
ia 3 (.mv (.t 87))]) .ret))))))))))), [(.cell 2 4 true), (.tmp 3)]⟩
theorem cc42 : ccF Try.prog [(58, [0, 0]), (61, [1, 0]), (75, [0, 0]), (58, [9]), (91, [8]), (93, [8]), (72, [8]), (92, [8]), (76, [8])] Try.f42 = some (stripF F42) := by kernel_rfl
def F52 : FnC := ⟨2, (.seq (.reg [
  ia 2 (.box 6 (.t 0)),
ia 3 (.box 6 (.t 1)),
ia 4 (.new [(.p (.i .i64 0)), (.p (.b false)), (.p (.i .i64 0)), (.p (.i .i64 0)), (.p (.i .i64 0)), (.p (.i .i64 0)), (.p (.i .i64 0)), (.p (.s [])), .nil, .nil]),
ia 5 (.mv (ci 0))]) (.seq (.seq (.reg [
  ia 7 (.fad 1 (.t 2)),
ia 8 (.ld 1 false (.t 7)),
ia 9 (.fad 1 (.t 3)),
ia 10 (.ld 1 false (.t 9)),
ia 11 (.bin .neq (.t 8) (.t 10))]) (.cond (.t 11) (.seq (.reg [
  ia 12 (.build [(.p (.i .i64 0)), (.p (.b false)), (.p (.i .i64 0)), (.p (.i .i64 0)), (.p (.i .i64 0)), (.p (.i .i64 0)), (.p (.i .i64 0)), (.p (.s [])), .nil, .nil] []),
io (.st 10 (.t 4) (.t 12)),
ia 5 (.mv (ci 140))]) .ret) .skip)) (.seq (.reg [
  ia 13 (.fad 4 (.t 2)),
ia 14 (.ld 1 false (.t 13)),
ia 15 (.fn 80 [(.t 3)]),
ia 16 (.call (.f 79) [(.t 14), (.t 15)]),
ia 6 (.mv (.t 16))]) (.seq (.seq (.reg [
  ia 17 (.mv (.t 6)),
ia 18 (.bin .lss (.t 17) (ci 0))]) (.cond (.t 18) (.seq (.reg [
  ia 19 (.call (.f 36) [(ci 5)]),
ia 20 (.ext (.t 19) 0),
ia 21 (.ext (.t 19) 1),
io (.st 10 (.t 4) (.t 20)),
ia 5 (.mv (.t 21))]) .ret) .skip)) (.seq (.reg [
  ia 22 (.mv (.t 6)),
ia 23 (.build [(.p (.i .i64 0)), (.p (.b false)), (.p (.i .i64 0)), (.p (.i .i64 0)), (.p (.i .i64 0)), (.p (.i .i64 0)), (.p (.i .i64 0)), (.p (.s [])), .nil, .nil] [(0, (1, (ci 2))), (3, (1, (.t 22)))]),
io (.st 10 (.t 4) (.t 23)),
ia 5 (.mv (ci 0))]) .ret))))), [(.cell 4 10 true), (.tmp 5)]⟩
theorem cc52 : ccF Try.prog [(58, [0, 0]), (61, [1, 0]), (75, [0, 0]), (58, [9]), (91, [8]), (93, [8]), (72, [8]), (92, [8]), (76, [8])] Try.f52 = some (stripF F52) := by kernel_rfl
def F53 : FnC := ⟨2, (.seq (.reg [
  ia 2 (.box 6 (.t 0)),
ia 3 (.box 6 (.t 1)),
ia 4 (.new [(.p (.i .i64 0)), (.p (.b false)), (.p (.i .i64 0)), (.p (.i .i64 0)), (.p (.i .i64 0)), (.p (.i .i64 0)), (.p (.i .i64 0)), (.p (.s [])), .nil, .nil]),
ia 5 (.mv (ci 0))]) (.seq (.reg [
  ia 7 (.build [(.p (.i .i64 0)), (.p (.i .i64 0)), (.p (.i .i64 0)), (.p (.s [])), .nil, .nil] [(0, (1, (ci 10)))]),
ia 6 (.new [(.p (.i .i64 0)), (.p (.i .i64 0)), (.p (.i .i64 0)), (.p (.s [])), .nil, .nil]),
io (.st 6 (.t 6) (.t 7))]) (.seq (.seq (.reg [
  ia 8 (.fad 3 (.t 2)),
ia 9 (.ld 1 false (.t 8))]) (.block 0 (.seq (.reg [
  ia 11 (.bin .eql (.t 9) (.c (.a (.p (.s [43]))))),
ia 10 (.mv (.t 11))]) (.cond (.t 10) (.reg [
  ia 12 (.fad 2 (.t 2)),
ia 13 (.ld 1 false (.t 12)),
ia 14 (.fad 2 (.t 3)),
ia 15 (.ld 1 false (.t 14)),
ia 16 (.bin .add (.t 13) (.t 15)),
ia 17 (.fad 2 (.t 6)),
io (.st 1 (.t 17) (.t 16))]) (.seq (.reg [
  ia 19 (.bin .eql (.t 9) (.c (.a (.p (.s [45]))))),
ia 18 (.mv (.t 19))]) (.cond (.t 18) (.reg [
  ia 20 (.fad 2 (.t 2)),
ia 21 (.ld 1 false (.t 20)),
ia 22 (.fad 2 (.t 3)),
ia 23 (.ld 1 false (.t 22)),
ia 24 (.bin .sub (.t 21) (.t 23)),
ia 25 (.fad 2 (.t 6)),
io (.st 1 (.t 25) (.t 24))]) (.seq (.reg [
  ia 27 (.bin .eql (.t 9) (.c (.a (.p (.s [42]))))),
ia 26 (.mv (.t 27))]) (.cond (.t 26) (.reg [
  ia 28 (.fad 2 (.t 2)),
ia 29 (.ld 1 false (.t 28)),
ia 30 (.fad 2 (.t 3)),
ia 31 (.ld 1 false (.t 30)),
ia 32 (.bin .mul (.t 29) (.t 31)),
ia 33 (.fad 2 (.t 6)),
io (.st 1 (.t 33) (.t 32))]) (.seq (.reg [
  ia 35 (.bin .eql (.t 9) (.c (.a (.p (.s [47]))))),
ia 34 (.mv (.t 35))]) (.cond (.t 34) (.seq (.seq (.reg [
  ia 36 (.fad 2 (.t 3)),
ia 37 (.ld 1 false (.t 36)),
ia 38 (.bin .eql (.t 37) (ci 0))]) (.cond (.t 38) (.seq (.reg [
  ia 39 (.call (.f 36) [(ci 5)]),
ia 40 (.ext (.t 39) 0),
ia 41 (.ext (.t 39) 1),
io (.st 10 (.t 4) (.t 40)),
ia 5 (.mv (.t 41))]) .ret) .skip)) (.reg [
  ia 42 (.fad 2 (.t 2)),
ia 43 (.ld 1 false (.t 42)),
ia 44 (.fad 2 (.t 3)),
ia 45 (.ld 1 false (.t 44)),
ia 46 (.bin .quo (.t 43) (.t 45)),
ia 47 (.fad 2 (.t 6)),
io (.st 1 (.t 47) (.t 46))])) (.seq (.reg [
  ia 49 (.bin .eql (.t 9) (.c (.a (.p (.s [60]))))),
ia 48 (.mv (.t 49))]) (.cond (.t 48) (.reg [
  ia 50 (.fad 2 (.t 2)),
ia 51 (.ld 1 false (.t 50)),
ia 52 (.fad 2 (.t 3)),
ia 53 (.ld 1 false (.t 52)),
ia 54 (.bin .lss (.t 51) (.t 53)),
ia 55 (.call (.f 81) [(.t 54)]),
io (.st 6 (.t 6) (.t 55))]) (.seq (.reg [
  ia 57 (.bin .eql (.t 9) (.c (.a (.p (.s [61, 61]))))),
ia 56 (.mv (.t 57))]) (.cond (.t 56) (.reg [
  ia 58 (.fad 2 (.t 2)),
ia 59 (.ld 1 false (.t 58)),
ia 60 (.fad 2 (.t 3)),
ia 61 (.ld 1 false (.t 60)),
ia 62 (.bin .eql (.t 59) (.t 61)),
ia 63 (.call (.f 81) [(.t 62)]),
io (.st 6 (.t 6) (.t 63))]) .skip)))))))))))))) (.seq (.reg [
  ia 64 (.fad 1 (.t 2)),
ia 65 (.ld 1 false (.t 64)),
ia 66 (.fad 1 (.t 6)),
io (.st 1 (.t 66) (.t 65))]) (.seq (.reg [
  ia 67 (.ld 6 true (.t 6)),
ia 68 (.build [(.p (.i .i64 0)), (.p (.b false)), (.p (.i .i64 0)), (.p (.i .i64 0)), (.p (.i .i64 0)), (.p (.i .i64 0)), (.p (.i .i64 0)), (.p (.s [])), .nil, .nil] [(0, (1, (ci 4))), (4, (6, (.t 67)))]),
io (.st 10 (.t 4) (.t 68)),
ia 5 (.mv (ci 0))]) .ret))))), [(.cell 4 10 true), (.tmp 5)]⟩
theorem cc53 : ccF Try.prog [(58, [0, 0]), (61, [1, 0]), (75, [0, 0]), (58, [9]), (91, [8]), (93, [8]), (72, [8]), (92, [8]), (76, [8])] Try.f53 = some (stripF F53) := by kernel_rfl
def F54b1 : C := (.seq (.seq (.reg [
  ia 52 (.mv (.t 8)),
ia 53 (.mv (.t 7)),
ia 54 (.bin .lss (.t 52) (.t 53)),
ia 55 (.mv (.t 54)),
ig 56 55 true (.fad 0 (.t 3)),
ig 57 55 true (.ld 1 false (.t 56)),
ig 58 55 true (.bin .eql (.t 57) (ci 5)),
ia 59 (.pick (.t 55) (.t 58) (.c (.a (.p (.b false)))))]) (.cond (.t 59) .skip (.exit 2))) (.seq (.block 3 (.seq (.reg [
  ir 62 (.fad 3 (.t 3)),
ir 63 (.ld 1 false (.t 62)),
ir 64 (.mv (.t 8)),
ir 65 (.ias 4 (.t 63) (.t 64)),
ir 66 (.fad 2 (.t 65)),
ir 67 (.ld 1 false (.t 66)),
ir 68 (.fad 3 (.t 3)),
ir 69 (.ld 1 false (.t 68)),
ir 70 (.mv (.t 7)),
ir 71 (.ias 4 (.t 69) (.t 70)),
ir 72 (.fad 2 (.t 71)),
ir 73 (.ld 1 false (.t 72)),
ia 74 (.bin .eql (.t 67) (.t 73))]) (.cond (.t 74) (.seq (.reg [
  ia 6 (.mv (.c (.a (.p (.b false)))))]) .ret) .skip))) (.reg [
  ia 60 (.mv (.t 8)),
ia 61 (.bin .add (.t 60) (ci 1)),
ia 8 (.mv (.t 61))])))
def F54b0 : C := (.seq (.seq (.reg [
  ia 30 (.mv (.t 7)),
ia 31 (.fad 3 (.t 3)),
ia 32 (.ld 1 false (.t 31)),
ia 33 (.len false (.t 32)),
ia 34 (.bin .lss (.t 30) (.t 33))]) (.cond (.t 34) .skip (.exit 0))) (.seq (.block 1 (.seq (.seq (.reg [
  ir 37 (.fad 3 (.t 3)),
ir 38 (.ld 1 false (.t 37)),
ir 39 (.mv (.t 7)),
ir 40 (.ias 4 (.t 38) (.t 39)),
ir 41 (.ld 4 true (.t 40)),
ir 42 (.mv (.t 1)),
ir 43 (.fad 0 (.t 3)),
ir 44 (.ld 1 false (.t 43)),
ir 45 (.bin .eql (.t 44) (ci 5)),
ir 46 (.mv (.t 45)),
ih 47 46 true (.mv (.t 7)),
ih 48 46 true (.bin .gtr (.t 47) (ci 0)),
ir 49 (.pick (.t 46) (.t 48) (.c (.a (.p (.b false))))),
ia 50 (.call (.f 54) [(.t 41), (.t 42), (.t 49)]),
ia 51 (.not (.t 50))]) (.cond (.t 51) (.seq (.reg [
  ia 6 (.mv (.c (.a (.p (.b false)))))]) .ret) .skip)) (.seq (.reg [
  ia 8 (.mv (ci 1))]) (.block 2 (.loop F54b1))))) (.reg [
  ia 35 (.mv (.t 7)),
ia 36 (.bin .add (.t 35) (ci 1)),
ia 7 (.mv (.t 36))])))
def F54 : FnC := ⟨3, (.seq (.reg [
  ia 3 (.box 4 (.t 0)),
ia 6 (.mv (.c (.a (.p (.b false)))))]) (.seq (.seq (.reg [
  ia 9 (.mv (.t 1)),
ia 10 (.bin .lss (.t 9) (ci 0)),
ia 11 (.mv (.t 10)),
ig 12 11 false (.ld 4 true (.t 3)),
ig 13 11 false (.mv (.t 1)),
ig 14 11 false (.mv (.t 2)),
ig 15 11 false (.call (.f 82) [(.t 12), (.t 13), (.t 14)]),
ig 16 11 false (.not (.t 15)),
ia 17 (.pick (.t 11) (.c (.a (.p (.b true)))) (.t 16))]) (.cond (.t 17) (.seq (.reg [
  ia 6 (.mv (.c (.a (.p (.b false)))))]) .ret) .skip)) (.seq (.seq (.reg [
  ia 18 (.fad 0 (.t 3)),
ia 19 (.ld 1 false (.t 18)),
ia 20 (.bin .eql (.t 19) (ci 2))]) (.cond (.t 20) (.reg [
  ia 21 (.mv (.t 1)),
ia 22 (.bin .add (.t 21) (ci 1)),
ia 1 (.mv (.t 22))]) .skip)) (.seq (.seq (.reg [
  ia 23 (.fad 0 (.t 3)),
ia 24 (.ld 1 false (.t 23)),
ia 25 (.bin .eql (.t 24) (ci 6))]) (.cond (.t 25) (.reg [
  ia 26 (.mv (.t 1)),
ia 27 (.fad 1 (.t 3)),
ia 28 (.ld 1 false (.t 27)),
ia 29 (.bin .add (.t 26) (.t 28)),
ia 1 (.mv (.t 29))]) .skip)) (.seq (.seq (.reg [
  ia 7 (.mv (ci 0))]) (.block 0 (.loop F54b0))) (.seq (.reg [
  ia 6 (.mv (.c (.a (.p (.b true)))))]) .ret)))))), [(.tmp 6)]⟩
theorem cc54 : ccF Try.prog [(58, [0, 0]), (61, [1, 0]), (75, [0, 0]), (58, [9]), (91, [8]), (93, [8]), (72, [8]), (92, [8]), (76, [8])] Try.f54 = some (stripF F54) := by kernel_rfl
def F55 : FnC := ⟨1, (.seq (.reg [
  ia 1 (.box 4 (.t 0)),
ia 2 (.mv (.c (.a (.p (.b false)))))]) (.seq (.reg [
  ia 3 (.fad 0 (.t 1)),
ia 4 (.ld 1 false (.t 3)),
ia 5 (.bin .eql (.t 4) (ci 2)),
ia 6 (.mv (.t 5)),
ig 7 6 false (.fad 0 (.t 1)),
ig 8 6 false (.ld 1 false (.t 7)),
ig 9 6 false (.bin .eql (.t 8) (ci 4)),
ia 10 (.pick (.t 6) (.c (.a (.p (.b true)))) (.t 9)),
ia 11 (.mv (.t 10)),
ig 12 11 false (.fad 0 (.t 1)),
ig 13 11 false (.ld 1 false (.t 12)),
ig 14 11 false (.bin .eql (.t 13) (ci 7)),
ia 15 (.pick (.t 11) (.c (.a (.p (.b true)))) (.t 14)),
ia 16 (.mv (.t 15)),
ig 17 16 false (.fad 0 (.t 1)),
ig 18 16 false (.ld 1 false (.t 17)),
ig 19 16 false (.bin .eql (.t 18) (ci 9)),
ia 20 (.pick (.t 16) (.c (.a (.p (.b true)))) (.t 19)),
ia 2 (.mv (.t 20))]) .ret)), [(.tmp 2)]⟩
theorem cc55 : ccF Try.prog [(58, [0, 0]), (61, [1, 0]), (75, [0, 0]), (58, [9]), (91, [8]), (93, [8]), (72, [8]), (92, [8]), (76, [8])] Try.f55 = some (stripF F55) := by kernel_rfl
def F56 : FnC := ⟨2, (.seq (.reg [
  ia 2 (.box 4 (.t 0)),
ia 4 (.new [(.p (.i .i64 0)), (.p (.i .i64 0)), (.p (.s [])), .nil]),
ia 5 (.mv (ci 0))]) (.seq (.reg [
  ia 10 (.fad 3 (.t 2)),
ia 11 (.ld 1 false (.t 10)),
ia 12 (.mv (.t 1)),
ia 13 (.ias 4 (.t 11) (.t 12)),
ia 14 (.ld 4 true (.t 13)),
ia 15 (.call (.f 42) [(.t 14)]),
ia 9 (.mv (.t 15)),
ia 16 (.ext (.t 9) 0),
ia 17 (.ext (.t 9) 1),
ia 6 (.new [(.p (.i .i64 0)), (.p (.i .i64 0)), (.p (.s [])), .nil]),
io (.st 4 (.t 6) (.t 16)),
ia 7 (.mv (.t 17))]) (.seq (.seq (.reg [
  ia 18 (.mv (.t 7)),
ia 19 (.bin .eql (.t 18) (ci 0))]) (.cond (.t 19) (.seq (.reg [
  ia 20 (.ld 4 true (.t 2)),
io (.st 4 (.t 4) (.t 20)),
ia 5 (.mv (ci 0))]) .ret) .skip)) (.seq (.reg [
  ia 21 (.fad 0 (.t 2)),
ia 22 (.ld 1 false (.t 21)),
ia 23 (.fad 1 (.t 2)),
ia 24 (.ld 1 false (.t 23)),
ia 25 (.fad 2 (.t 2)),
ia 26 (.ld 1 false (.t 25)),
ia 27 (.build [(.p (.i .i64 0)), (.p (.i .i64 0)), (.p (.s [])), .nil] [(0, (1, (.t 22))), (1, (1, (.t 24))), (2, (1, (.t 26)))]),
ia 8 (.new [(.p (.i .i64 0)), (.p (.i .i64 0)), (.p (.s [])), .nil]),
io (.st 4 (.t 8) (.t 27))]) (.seq (.reg [
  ia 28 (.fad 3 (.t 8)),
ia 29 (.ld 1 false (.t 28)),
ia 30 (.fad 3 (.t 2)),
ia 31 (.ld 1 false (.t 30)),
ia 32 (.app 4 43 56 (.t 29) (.t 31)),
ia 33 (.fad 3 (.t 8)),
io (.st 1 (.t 33) (.t 32))]) (.seq (.reg [
  ia 34 (.fad 3 (.t 8)),
ia 35 (.ld 1 false (.t 34)),
ia 36 (.mv (.t 1)),
ia 37 (.ld 4 true (.t 6)),
ia 38 (.ias 4 (.t 35) (.t 36)),
io (.st 4 (.t 38) (.t 37))]) (.seq (.reg [
  ia 39 (.ld 4 true (.t 8)),
ia 40 (.mv (.t 7)),
io (.st 4 (.t 4) (.t 39)),
ia 5 (.mv (.t 40))]) .ret))))))), [(.cell 4 4 true), (.tmp 5)]⟩
theorem cc56 : ccF Try.prog [(58, [0, 0]), (61, [1, 0]), (75, [0, 0]), (58, [9]), (91, [8]), (93, [8]), (72, [8]), (92, [8]), (76, [8])] Try.f56 = some (stripF F56) := by kernel_rfl
def F57b0 : C := (.seq (.seq (.reg [
  ia 10 (.mv (.t 5)),
ia 11 (.fad 3 (.t 1)),
ia 12 (.ld 1 false (.t 11)),
ia 13 (.len false (.t 12)),
ia 14 (.bin .lss (.t 10) (.t 13)),
ia 15 (.mv (.t 14)),
ig 16 15 true (.fad 0 (.t 4)),
ig 17 15 true (.ld 1 false (.t 16)),
ig 18 15 true (.bin .eql (.t 17) (ci 4)),
ia 19 (.pick (.t 15) (.t 18) (.c (.a (.p (.b false)))))]) (.cond (.t 19) .skip (.exit 0))) (.seq (.block 1 (.seq (.reg [
  ir 22 (.fad 3 (.t 1)),
ir 23 (.ld 1 false (.t 22)),
ir 24 (.mv (.t 5)),
ir 25 (.ias 4 (.t 23) (.t 24)),
ir 26 (.fad 2 (.t 25)),
ir 27 (.ld 1 false (.t 26)),
ir 28 (.fad 2 (.t 4)),
ir 29 (.ld 1 false (.t 28)),
ia 30 (.bin .eql (.t 27) (.t 29)),
ia 31 (.mv (.t 30)),
ih 32 31 true (.fad 3 (.t 1)),
ih 33 31 true (.ld 1 false (.t 32)),
ih 34 31 true (.mv (.t 5)),
ih 35 31 true (.ias 4 (.t 33) (.t 34)),
ih 36 31 true (.fad 1 (.t 35)),
ih 37 31 true (.ld 1 false (.t 36)),
ih 38 31 true (.fad 3 (.t 4)),
ih 39 31 true (.ld 1 false (.t 38)),
ih 40 31 true (.len false (.t 39)),
ig 41 31 true (.bin .eql (.t 37) (.t 40)),
ia 42 (.pick (.t 31) (.t 41) (.c (.a (.p (.b false)))))]) (.cond (.t 42) (.seq (.reg [
  ir 43 (.fad 3 (.t 1)),
ir 44 (.ld 1 false (.t 43)),
ir 45 (.mv (.t 5)),
ir 46 (.ias 4 (.t 44) (.t 45)),
ir 47 (.fad 3 (.t 46)),
ir 48 (.ld 1 false (.t 47)),
ir 49 (.ias 4 (.t 48) (ci 0)),
ir 50 (.ld 4 true (.t 49)),
ir 51 (.fad 3 (.t 4)),
ir 52 (.ld 1 false (.t 51)),
ia 53 (.call (.f 83) [(.t 50), (.t 52)]),
io (.st 4 (.t 2) (.t 53)),
ia 3 (.mv (ci 2))]) .ret) .skip))) (.reg [
  ia 20 (.mv (.t 5)),
ia 21 (.bin .add (.t 20) (ci 1)),
ia 5 (.mv (.t 21))])))
def F57 : FnC := ⟨1, (.seq (.reg [
  ia 1 (.box 4 (.t 0)),
ia 2 (.new [(.p (.i .i64 0)), (.p (.i .i64 0)), (.p (.s [])), .nil]),
ia 3 (.mv (ci 0))]) (.seq (.reg [
  ia 6 (.fad 3 (.t 1)),
ia 7 (.ld 1 false (.t 6)),
ia 8 (.ias 4 (.t 7) (ci 0)),
ia 9 (.ld 4 true (.t 8)),
ia 4 (.new [(.p (.i .i64 0)), (.p (.i .i64 0)), (.p (.s [])), .nil]),
io (.st 4 (.t 4) (.t 9))]) (.seq (.seq (.reg [
  ia 5 (.mv (ci 1))]) (.block 0 (.loop F57b0))) (.seq (.reg [
  ia 54 (.call (.f 59) []),
ia 55 (.ext (.t 54) 0),
ia 56 (.ext (.t 54) 1),
io (.st 4 (.t 2) (.t 55)),
ia 3 (.mv (.t 56))]) .ret)))), [(.cell 2 4 true), (.tmp 3)]⟩
theorem cc57 : ccF Try.prog [(58, [0, 0]), (61, [1, 0]), (75, [0, 0]), (58, [9]), (91, [8]), (93, [8]), (72, [8]), (92, [8]), (76, [8])] Try.f57 = some (stripF F57) := by kernel_rfl
def F58 : FnC := ⟨3, (.seq (.reg [
  ia 3 (.box 4 (.t 0)),
ia 5 (.box 4 (.t 2)),
ia 6 (.new [(.p (.i .i64 0)), (.p (.i .i64 0)), (.p (.s [])), .nil])]) (.seq (.reg [
  ia 7 (.ld 4 true (.t 3)),
ia 8 (.mv (.t 1)),
ia 9 (.ld 4 true (.t 5)),
ia 10 (.call (.f 84) [(.t 7), (.t 8), (.t 9), (ci 0)]),
io (.st 4 (.t 6) (.t 10))]) .ret)), [(.cell 6 4 true)]⟩
theorem cc58 : ccF Try.prog [(58, [0, 0]), (61, [1, 0]), (75, [0, 0]), (58, [9]), (91, [8]), (93, [8]), (72, [8]), (92, [8]), (76, [8])] Try.f58 = some (stripF F58) := by kernel_rfl
def F59 : FnC := ⟨0, (.seq (.reg [
  ia 0 (.new [(.p (.i .i64 0)), (.p (.i .i64 0)), (.p (.s [])), .nil]),
ia 1 (.mv (ci 0))]) (.seq (.reg [
  ia 2 (.build [(.p (.i .i64 0)), (.p (.i .i64 0)), (.p (.s [])), .nil] [(0, (1, (ci 9)))]),
io (.st 4 (.t 0) (.t 2)),
ia 1 (.mv (ci 4))]) .ret)), [(.cell 0 4 true), (.tmp 1)]⟩
theorem cc59 : ccF Try.prog [(58, [0, 0]), (61, [1, 0]), (75, [0, 0]), (58, [9]), (91, [8]), (93, [8]), (72, [8]), (92, [8]), (76, [8])] Try.f59 = some (stripF F59) := by kernel_rfl
def F60 : FnC := ⟨3, (.seq (.reg [
  ia 6 (.new [(.p (.i .i64 0)), (.p (.i .i64 0)), (.p (.s [])), .nil]),
ia 7 (.mv (ci 0))]) (.seq (.seq (.reg [
  ia 8 (.mv (.t 0))]) (.block 0 (.seq (.reg [
  ia 10 (.bin .eql (.t 8) (.c (.a (.p (.s [43]))))),
ia 9 (.mv (.t 10))]) (.cond (.t 9) (.seq (.reg [
  ia 11 (.mv (.t 1)),
ia 12 (.mv (.t 2)),
ia 13 (.bin .add (.t 11) (.t 12)),
ia 14 (.call (.f 85) [(.t 13)]),
ia 15 (.ext (.t 14) 0),
ia 16 (.ext (.t 14) 1),
io (.st 4 (.t 6) (.t 15)),
ia 7 (.mv (.t 16))]) .ret) (.seq (.reg [
  ia 18 (.bin .eql (.t 8) (.c (.a (.p (.s [45]))))),
ia 17 (.mv (.t 18))]) (.cond (.t 17) (.seq (.reg [
  ia 19 (.mv (.t 1)),
ia 20 (.mv (.t 2)),
ia 21 (.bin .sub (.t 19) (.t 20)),
ia 22 (.call (.f 85) [(.t 21)]),
ia 23 (.ext (.t 22) 0),
ia 24 (.ext (.t 22) 1),
io (.st 4 (.t 6) (.t 23)),
ia 7 (.mv (.t 24))]) .ret) (.seq (.reg [
  ia 26 (.bin .eql (.t 8) (.c (.a (.p (.s [42]))))),
ia 25 (.mv (.t 26))]) (.cond (.t 25) (.seq (.reg [
  ia 27 (.mv (.t 1)),
ia 28 (.mv (.t 2)),
ia 29 (.bin .mul (.t 27) (.t 28)),
ia 30 (.call (.f 85) [(.t 29)]),
ia 31 (.ext (.t 30) 0),
ia 32 (.ext (.t 30) 1),
io (.st 4 (.t 6) (.t 31)),
ia 7 (.mv (.t 32))]) .ret) (.seq (.reg [
  ia 34 (.bin .eql (.t 8) (.c (.a (.p (.s [47]))))),
ia 33 (.mv (.t 34))]) (.cond (.t 33) (.seq (.seq (.reg [
  ia 35 (.mv (.t 2)),
ia 36 (.bin .eql (.t 35) (ci 0))]) (.cond (.t 36) (.seq (.reg [
  ia 37 (.call (.f 59) []),
ia 38 (.ext (.t 37) 0),
ia 39 (.ext (.t 37) 1),
io (.st 4 (.t 6) (.t 38)),
ia 7 (.mv (.t 39))]) .ret) .skip)) (.seq (.seq (.reg [
  ia 40 (.mv (.t 2)),
ia 41 (.bin .eql (.t 40) (.c (.a (.p (.i .i64 (-1))))))]) (.cond (.t 41) (.seq (.reg [
  ia 42 (.mv (.t 1)),
ia 43 (.neg (.t 42)),
ia 44 (.call (.f 85) [(.t 43)]),
ia 45 (.ext (.t 44) 0),
ia 46 (.ext (.t 44) 1),
io (.st 4 (.t 6) (.t 45)),
ia 7 (.mv (.t 46))]) .ret) .skip)) (.seq (.reg [
  ia 47 (.mv (.t 1)),
ia 48 (.mv (.t 2)),
ia 49 (.bin .quo (.t 47) (.t 48)),
ia 50 (.call (.f 85) [(.t 49)]),
ia 51 (.ext (.t 50) 0),
ia 52 (.ext (.t 50) 1),
io (.st 4 (.t 6) (.t 51)),
ia 7 (.mv (.t 52))]) .ret))) .skip)))))))))) (.seq (.seq (.reg [
  ia 53 (.mv (.t 0)),
ia 54 (.bin .eql (.t 53) (.c (.a (.p (.s [60]))))),
ia 55 (.mv (.t 54)),
ig 56 55 true (.mv (.t 1)),
ig 57 55 true (.mv (.t 2)),
ig 58 55 true (.bin .lss (.t 56) (.t 57)),
ia 59 (.pick (.t 55) (.t 58) (.c (.a (.p (.b false))))),
ia 60 (.mv (.t 59)),
ig 61 60 false (.mv (.t 0)),
ig 62 60 false (.bin .eql (.t 61) (.c (.a (.p (.s [61, 61]))))),
ig 63 60 false (.mv (.t 62)),
ig 64 63 true (.mv (.t 1)),
ig 65 63 true (.mv (.t 2)),
ig 66 63 true (.bin .eql (.t 64) (.t 65)),
ig 67 60 false (.pick (.t 63) (.t 66) (.c (.a (.p (.b false))))),
ia 68 (.pick (.t 60) (.c (.a (.p (.b true)))) (.t 67))]) (.cond (.t 68) (.seq (.reg [
  ia 69 (.build [(.p (.i .i64 0)), (.p (.i .i64 0)), (.p (.s [])), .nil] [(0, (1, (ci 4))), (2, (1, (.c (.a (.p (.s [84, 114, 117, 101]))))))]),
io (.st 4 (.t 6) (.t 69)),
ia 7 (.mv (ci 3))]) .ret) .skip)) (.seq (.reg [
  ia 70 (.build [(.p (.i .i64 0)), (.p (.i .i64 0)), (.p (.s [])), .nil] [(0, (1, (ci 4))), (2, (1, (.c (.a (.p (.s [70, 97, 108, 115, 101]))))))]),
io (.st 4 (.t 6) (.t 70)),
ia 7 (.mv (ci 3))]) .ret)))), [(.cell 6 4 true), (.tmp 7)]⟩
theorem cc60 : ccF Try.prog [(58, [0, 0]), (61, [1, 0]), (75, [0, 0]), (58, [9]), (91, [8]), (93, [8]), (72, [8]), (92, [8]), (76, [8])] Try.f60 = some (stripF F60) := by kernel_rfl
def F79b0 : C := (.seq (.reg [
  ia 9 (.bin .lss (.t 8) (.t 7))]) (.seq (.cond (.t 9) .skip (.exit 0)) (.seq (.block 1 (.seq (.reg [
  ia 10 (.mv (.t 8)),
ia 5 (.mv (.t 10))]) (.seq (.reg [
  ia 11 (.mv (.t 1)),
ia 12 (.mv (.t 0)),
ia 13 (.mv (.t 5)),
ia 14 (.ias 2 (.t 12) (.t 13)),
ia 15 (.ld 2 true (.t 14)),
ia 16 (.call (.t 11) [(.t 15)])]) (.cond (.t 16) (.seq (.reg [
  ia 17 (.mv (.t 5)),
ia 4 (.mv (.t 17))]) .ret) .skip)))) (.reg [
  ia 18 (.bin .add (.t 8) (ci 1)),
ia 8 (.mv (.t 18))]))))
def F79 : FnC := ⟨2, (.seq (.reg [
  ia 4 (.mv (ci 0))]) (.seq (.seq (.reg [
  ia 6 (.mv (.t 0)),
ia 7 (.len false (.t 6)),
ia 8 (.mv (ci 0))]) (.block 0 (.loop F79b0))) (.seq (.reg [
  ia 4 (.mv (.c (.a (.p (.i .i64 (-1))))))]) .ret))), [(.tmp 4)]⟩
theorem cc79 : ccF Try.prog [(58, [0, 0]), (61, [1, 0]), (75, [0, 0]), (58, [9]), (91, [8]), (93, [8]), (72, [8]), (92, [8]), (76, [8])] Try.f79 = some (stripF F79) := by kernel_rfl
def F80 : FnC := ⟨2, (.seq (.reg [
  ia 2 (.box 2 (.t 0)),
ia 3 (.mv (.c (.a (.p (.b false)))))]) (.seq (.reg [
  ia 4 (.fad 0 (.t 2)),
ia 5 (.ld 1 false (.t 4)),
ia 6 (.fad 3 (.t 1)),
ia 7 (.ld 1 false (.t 6)),
ia 8 (.bin .eql (.t 5) (.t 7)),
ia 9 (.mv (.t 8)),
ig 10 9 true (.fad 1 (.t 2)),
ig 11 9 true (.ld 1 false (.t 10)),
ig 12 9 true (.fad 5 (.t 1)),
ig 13 9 true (.ld 1 false (.t 12)),
ig 14 9 true (.len false (.t 13)),
ig 15 9 true (.bin .sub (.t 14) (ci 1)),
ig 16 9 true (.bin .eql (.t 11) (.t 15)),
ia 17 (.pick (.t 9) (.t 16) (.c (.a (.p (.b false))))),
ia 3 (.mv (.t 17))]) .ret)), [(.tmp 3)]⟩
theorem cc80 : ccF Try.prog [(58, [0, 0]), (61, [1, 0]), (75, [0, 0]), (58, [9]), (91, [8]), (93, [8]), (72, [8]), (92, [8]), (76, [8])] Try.f80 = some (stripF F80) := by kernel_rfl
def F81 : FnC := ⟨1, (.seq (.reg [
  ia 2 (.new [(.p (.i .i64 0)), (.p (.i .i64 0)), (.p (.i .i64 0)), (.p (.s [])), .nil, .nil])]) (.seq (.reg [
  ia 3 (.mv (.c (.a (.p (.s [70, 97, 108, 115, 101])))))]) (.seq (.seq (.reg [
  ia 4 (.mv (.t 0))]) (.cond (.t 4) (.reg [
  ia 3 (.mv (.c (.a (.p (.s [84, 114, 117, 101])))))]) .skip)) (.seq (.reg [
  ia 5 (.mv (.t 3)),
ia 6 (.mslF 2 58 16 [(.p (.i .i64 0)), (.p (.i .i64 0))] (ci 1) (ci 1)),
ia 7 (.build [(.p (.i .i64 0)), (.p (.i .i64 0)), (.p (.i .i64 0)), (.p (.s [])), .nil, .nil] [(0, (1, (ci 8))), (3, (1, (.t 5))), (5, (1, (.t 6)))]),
io (.st 6 (.t 2) (.t 7))]) .ret)))), [(.cell 2 6 true)]⟩
theorem cc81 : ccF Try.prog [(58, [0, 0]), (61, [1, 0]), (75, [0, 0]), (58, [9]), (91, [8]), (93, [8]), (72, [8]), (92, [8]), (76, [8])] Try.f81 = some (stripF F81) := by kernel_rfl
def F82 : FnC := ⟨3, (.seq (.reg [
  ia 3 (.box 4 (.t 0)),
ia 6 (.mv (.c (.a (.p (.b false)))))]) (.seq (.reg [
  ia 10 (.fad 3 (.t 3)),
ia 11 (.ld 1 false (.t 10)),
ia 12 (.len false (.t 11)),
ia 7 (.mv (.t 12))]) (.seq (.reg [
  ia 13 (.fad 2 (.t 3)),
ia 14 (.ld 1 false (.t 13)),
ia 15 (.bin .eql (.t 14) (.c (.a (.p (.s [43]))))),
ia 16 (.mv (.t 15)),
ig 17 16 false (.fad 2 (.t 3)),
ig 18 16 false (.ld 1 false (.t 17)),
ig 19 16 false (.bin .eql (.t 18) (.c (.a (.p (.s [45]))))),
ia 20 (.pick (.t 16) (.c (.a (.p (.b true)))) (.t 19)),
ia 21 (.mv (.t 20)),
ig 22 21 false (.fad 2 (.t 3)),
ig 23 21 false (.ld 1 false (.t 22)),
ig 24 21 false (.bin .eql (.t 23) (.c (.a (.p (.s [42]))))),
ia 25 (.pick (.t 21) (.c (.a (.p (.b true)))) (.t 24)),
ia 26 (.mv (.t 25)),
ig 27 26 false (.fad 2 (.t 3)),
ig 28 26 false (.ld 1 false (.t 27)),
ig 29 26 false (.bin .eql (.t 28) (.c (.a (.p (.s [47]))))),
ia 30 (.pick (.t 26) (.c (.a (.p (.b true)))) (.t 29)),
ia 31 (.mv (.t 30)),
ig 32 31 false (.fad 2 (.t 3)),
ig 33 31 false (.ld 1 false (.t 32)),
ig 34 31 false (.bin .eql (.t 33) (.c (.a (.p (.s [60]))))),
ia 35 (.pick (.t 31) (.c (.a (.p (.b true)))) (.t 34)),
ia 36 (.mv (.t 35)),
ig 37 36 false (.fad 2 (.t 3)),
ig 38 36 false (.ld 1 false (.t 37)),
ig 39 36 false (.bin .eql (.t 38) (.c (.a (.p (.s [61, 61]))))),
ia 40 (.pick (.t 36) (.c (.a (.p (.b true)))) (.t 39)),
ia 8 (.mv (.t 40))]) (.seq (.reg [
  ia 41 (.fad 2 (.t 3)),
ia 42 (.ld 1 false (.t 41)),
ia 43 (.bin .eql (.t 42) (.c (.a (.p (.s []))))),
ia 44 (.mv (.t 43)),
ig 45 44 true (.fad 1 (.t 3)),
ig 46 44 true (.ld 1 false (.t 45)),
ig 47 44 true (.bin .eql (.t 46) (ci 0)),
ia 48 (.pick (.t 44) (.t 47) (.c (.a (.p (.b false))))),
ia 9 (.mv (.t 48))]) (.seq (.seq (.reg [
  ia 49 (.mv (.t 2))]) (.cond (.t 49) (.seq (.reg [
  ia 50 (.fad 0 (.t 3)),
ia 51 (.ld 1 false (.t 50)),
ia 52 (.bin .eql (.t 51) (ci 6)),
ia 53 (.mv (.t 52)),
ig 54 53 true (.fad 2 (.t 3)),
ig 55 53 true (.ld 1 false (.t 54)),
ig 56 53 true (.call (.f 99) [(.t 55)]),
ia 57 (.pick (.t 53) (.t 56) (.c (.a (.p (.b false))))),
ia 58 (.mv (.t 57)),
ig 59 58 true (.fad 1 (.t 3)),
ig 60 58 true (.ld 1 false (.t 59)),
ig 61 58 true (.bin .geq (.t 60) (ci 0)),
ia 62 (.pick (.t 58) (.t 61) (.c (.a (.p (.b false))))),
ia 63 (.mv (.t 62)),
ig 64 63 true (.fad 1 (.t 3)),
ig 65 63 true (.ld 1 false (.t 64)),
ig 66 63 true (.bin .leq (.t 65) (ci 8)),
ia 67 (.pick (.t 63) (.t 66) (.c (.a (.p (.b false))))),
ia 68 (.mv (.t 67)),
ig 69 68 true (.mv (.t 7)),
ig 70 68 true (.bin .eql (.t 69) (ci 1)),
ia 71 (.pick (.t 68) (.t 70) (.c (.a (.p (.b false))))),
ia 6 (.mv (.t 71))]) .ret) .skip)) (.seq (.seq (.reg [
  ia 72 (.fad 0 (.t 3)),
ia 73 (.ld 1 false (.t 72))]) (.block 0 (.seq (.reg [
  ia 75 (.bin .eql (.t 73) (ci 1)),
ia 74 (.mv (.t 75))]) (.cond (.t 74) (.seq (.reg [
  ia 76 (.fad 2 (.t 3)),
ia 77 (.ld 1 false (.t 76)),
ia 78 (.bin .eql (.t 77) (.c (.a (.p (.s []))))),
ia 79 (.mv (.t 78)),
ig 80 79 true (.mv (.t 7)),
ig 81 79 true (.bin .eql (.t 80) (ci 0)),
ia 82 (.pick (.t 79) (.t 81) (.c (.a (.p (.b false))))),
ia 83 (.mv (.t 82)),
ig 84 83 true (.fad 1 (.t 3)),
ig 85 83 true (.ld 1 false (.t 84)),
ig 86 83 true (.bin .geq (.t 85) (ci 0)),
ia 87 (.pick (.t 83) (.t 86) (.c (.a (.p (.b false))))),
ia 88 (.mv (.t 87)),
ig 89 88 true (.fad 1 (.t 3)),
ig 90 88 true (.ld 1 false (.t 89)),
ig 91 88 true (.mv (.t 1)),
ig 92 88 true (.bin .lss (.t 90) (.t 91)),
ia 93 (.pick (.t 88) (.t 92) (.c (.a (.p (.b false))))),
ia 6 (.mv (.t 93))]) .ret) (.seq (.reg [
  ia 95 (.bin .eql (.t 73) (ci 2)),
ia 94 (.mv (.t 95))]) (.cond (.t 94) (.seq (.reg [
  ia 96 (.mv (.t 9)),
ia 97 (.mv (.t 96)),
ig 98 97 true (.mv (.t 7)),
ig 99 97 true (.bin .eql (.t 98) (ci 1)),
ia 100 (.pick (.t 97) (.t 99) (.c (.a (.p (.b false))))),
ia 6 (.mv (.t 100))]) .ret) (.seq (.reg [
  ia 102 (.bin .eql (.t 73) (ci 3)),
ia 101 (.mv (.t 102))]) (.cond (.t 101) (.seq (.reg [
  ia 103 (.mv (.t 9)),
ia 104 (.mv (.t 103)),
ig 105 104 true (.mv (.t 7)),
ig 106 104 true (.bin .eql (.t 105) (ci 2)),
ia 107 (.pick (.t 104) (.t 106) (.c (.a (.p (.b false))))),
ia 6 (.mv (.t 107))]) .ret) (.seq (.reg [
  ia 109 (.bin .eql (.t 73) (ci 4)),
ia 108 (.mv (.t 109))]) (.cond (.t 108) (.seq (.reg [
  ia 110 (.fad 2 (.t 3)),
ia 111 (.ld 1 false (.t 110)),
ia 112 (.call (.f 99) [(.t 111)]),
ia 113 (.mv (.t 112)),
ig 114 113 true (.fad 1 (.t 3)),
ig 115 113 true (.ld 1 false (.t 114)),
ig 116 113 true (.bin .eql (.t 115) (ci 0)),
ia 117 (.pick (.t 113) (.t 116) (.c (.a (.p (.b false))))),
ia 118 (.mv (.t 117)),
ig 119 118 true (.mv (.t 7)),
ig 120 118 true (.bin .leq (.t 119) (ci 8)),
ia 121 (.pick (.t 118) (.t 120) (.c (.a (.p (.b false))))),
ia 6 (.mv (.t 121))]) .ret) (.seq (.reg [
  ia 123 (.bin .eql (.t 73) (ci 5)),
ia 122 (.mv (.t 123))]) (.cond (.t 122) (.seq (.reg [
  ia 124 (.mv (.t 9)),
ia 125 (.mv (.t 124)),
ig 126 125 true (.mv (.t 7)),
ig 127 125 true (.bin .geq (.t 126) (ci 2)),
ia 128 (.pick (.t 125) (.t 127) (.c (.a (.p (.b false))))),
ia 129 (.mv (.t 128)),
ig 130 129 true (.mv (.t 7)),
ig 131 129 true (.bin .leq (.t 130) (ci 9)),
ia 132 (.pick (.t 129) (.t 131) (.c (.a (.p (.b false))))),
ia 6 (.mv (.t 132))]) .ret) (.seq (.reg [
  ia 134 (.bin .eql (.t 73) (ci 7)),
ia 133 (.mv (.t 134))]) (.cond (.t 133) (.seq (.reg [
  ia 135 (.fad 2 (.t 3)),
ia 136 (.ld 1 false (.t 135)),
ia 137 (.bin .eql (.t 136) (.c (.a (.p (.s []))))),
ia 138 (.mv (.t 137)),
ig 139 138 true (.mv (.t 7)),
ig 140 138 true (.bin .eql (.t 139) (ci 0)),
ia 141 (.pick (.t 138) (.t 140) (.c (.a (.p (.b false))))),
ia 6 (.mv (.t 141))]) .ret) (.seq (.reg [
  ia 143 (.bin .eql (.t 73) (ci 8)),
ia 142 (.mv (.t 143))]) (.cond (.t 142) (.seq (.reg [
  ia 144 (.mv (.t 8)),
ia 145 (.mv (.t 144)),
ig 146 145 true (.fad 1 (.t 3)),
ig 147 145 true (.ld 1 false (.t 146)),
ig 148 145 true (.bin .eql (.t 147) (ci 0)),
ia 149 (.pick (.t 145) (.t 148) (.c (.a (.p (.b false))))),
ia 150 (.mv (.t 149)),
ig 151 150 true (.mv (.t 7)),
ig 152 150 true (.bin .eql (.t 151) (ci 2)),
ia 153 (.pick (.t 150) (.t 152) (.c (.a (.p (.b false))))),
ia 6 (.mv (.t 153))]) .ret) (.seq (.reg [
  ia 155 (.bin .eql (.t 73) (ci 9)),
ia 154 (.mv (.t 155))]) (.cond (.t 154) (.seq (.reg [
  ia 156 (.mv (.t 9)),
ia 157 (.mv (.t 156)),
ig 158 157 true (.mv (.t 7)),
ig 159 157 true (.bin .eql (.t 158) (ci 0)),
ia 160 (.pick (.t 157) (.t 159) (.c (.a (.p (.b false))))),
ia 6 (.mv (.t 160))]) .ret) .skip)))))))))))))))))) (.seq (.reg [
  ia 6 (.mv (.c (.a (.p (.b false)))))]) .ret))))))), [(.tmp 6)]⟩
theorem cc82 : ccF Try.prog [(58, [0, 0]), (61, [1, 0]), (75, [0, 0]), (58, [9]), (91, [8]), (93, [8]), (72, [8]), (92, [8]), (76, [8])] Try.f82 = some (stripF F82) := by kernel_rfl
def F83 : FnC := ⟨2, (.seq (.reg [
  ia 2 (.box 4 (.t 0)),
ia 4 (.new [(.p (.i .i64 0)), (.p (.i .i64 0)), (.p (.s [])), .nil])]) (.seq (.reg [
  ia 5 (.ld 4 true (.t 2)),
ia 6 (.mv (.t 1)),
ia 7 (.call (.f 100) [(.t 5), (.t 6), (ci 0)]),
io (.st 4 (.t 4) (.t 7))]) .ret)), [(.cell 4 4 true)]⟩
theorem cc83 : ccF Try.prog [(58, [0, 0]), (61, [1, 0]), (75, [0, 0]), (58, [9]), (91, [8]), (93, [8]), (72, [8]), (92, [8]), (76, [8])] Try.f83 = some (stripF F83) := by kernel_rfl
def F84b0 : C := (.seq (.seq (.reg [
  ia 41 (.mv (.t 10)),
ia 42 (.fad 3 (.t 4)),
ia 43 (.ld 1 false (.t 42)),
ia 44 (.len false (.t 43)),
ia 45 (.bin .lss (.t 41) (.t 44))]) (.cond (.t 45) .skip (.exit 0))) (.seq (.block 1 (.reg [
  ir 48 (.fad 3 (.t 9)),
ir 49 (.ld 1 false (.t 48)),
ir 50 (.fad 3 (.t 4)),
ir 51 (.ld 1 false (.t 50)),
ir 52 (.mv (.t 10)),
ir 53 (.ias 4 (.t 51) (.t 52)),
ir 54 (.ld 4 true (.t 53)),
ir 55 (.mv (.t 1)),
ir 56 (.ld 4 true (.t 6)),
ir 57 (.mv (.t 3)),
ir 58 (.ld 4 true (.t 4)),
ir 59 (.call (.f 102) [(.t 58)]),
ir 60 (.bin .add (.t 57) (.t 59)),
ir 61 (.call (.f 84) [(.t 54), (.t 55), (.t 56), (.t 60)]),
⟨(.some 62), .none, (.bsl 4 43 [(.p (.i .i64 0)), (.p (.i .i64 0)), (.p (.s [])), .nil] 1 [(0, (.t 61))]), .ad⟩,
ia 63 (.app 4 43 56 (.t 49) (.t 62)),
ia 64 (.fad 3 (.t 9)),
io (.st 1 (.t 64) (.t 63))])) (.reg [
  ia 46 (.mv (.t 10)),
ia 47 (.bin .add (.t 46) (ci 1)),
ia 10 (.mv (.t 47))])))
def F84 : FnC := ⟨4, (.seq (.reg [
  ia 4 (.box 4 (.t 0)),
ia 6 (.box 4 (.t 2)),
ia 8 (.new [(.p (.i .i64 0)), (.p (.i .i64 0)), (.p (.s [])), .nil])]) (.seq (.seq (.reg [
  ia 11 (.fad 0 (.t 4)),
ia 12 (.ld 1 false (.t 11)),
ia 13 (.bin .eql (.t 12) (ci 1))]) (.cond (.t 13) (.seq (.seq (.reg [
  ia 14 (.fad 1 (.t 4)),
ia 15 (.ld 1 false (.t 14)),
ia 16 (.mv (.t 1)),
ia 17 (.mv (.t 3)),
ia 18 (.bin .add (.t 16) (.t 17)),
ia 19 (.bin .eql (.t 15) (.t 18))]) (.cond (.t 19) (.seq (.reg [
  ia 20 (.ld 4 true (.t 6)),
ia 21 (.mv (.t 3)),
ia 22 (.call (.f 101) [(.t 20), (.t 21), (ci 0)]),
io (.st 4 (.t 8) (.t 22))]) .ret) .skip)) (.seq (.seq (.reg [
  ia 23 (.fad 1 (.t 4)),
ia 24 (.ld 1 false (.t 23)),
ia 25 (.mv (.t 1)),
ia 26 (.mv (.t 3)),
ia 27 (.bin .add (.t 25) (.t 26)),
ia 28 (.bin .gtr (.t 24) (.t 27))]) (.cond (.t 28) (.reg [
  ia 29 (.fad 1 (.t 4)),
ia 30 (.ld 1 false (.t 29)),
ia 31 (.bin .sub (.t 30) (ci 1)),
ia 32 (.fad 1 (.t 4)),
io (.st 1 (.t 32) (.t 31))]) .skip)) (.seq (.reg [
  ia 33 (.ld 4 true (.t 4)),
io (.st 4 (.t 8) (.t 33))]) .ret))) .skip)) (.seq (.reg [
  ia 34 (.fad 0 (.t 4)),
ia 35 (.ld 1 false (.t 34)),
ia 36 (.fad 1 (.t 4)),
ia 37 (.ld 1 false (.t 36)),
ia 38 (.fad 2 (.t 4)),
ia 39 (.ld 1 false (.t 38)),
ia 40 (.build [(.p (.i .i64 0)), (.p (.i .i64 0)), (.p (.s [])), .nil] [(0, (1, (.t 35))), (1, (1, (.t 37))), (2, (1, (.t 39)))]),
ia 9 (.new [(.p (.i .i64 0)), (.p (.i .i64 0)), (.p (.s [])), .nil]),
io (.st 4 (.t 9) (.t 40))]) (.seq (.seq (.reg [
  ia 10 (.mv (ci 0))]) (.block 0 (.loop F84b0))) (.seq (.reg [
  ia 65 (.ld 4 true (.t 9)),
io (.st 4 (.t 8) (.t 65))]) .ret))))), [(.cell 8 4 true)]⟩
theorem cc84 : ccF Try.prog [(58, [0, 0]), (61, [1, 0]), (75, [0, 0]), (58, [9]), (91, [8]), (93, [8]), (72, [8]), (92, [8]), (76, [8])] Try.f84 = some (stripF F84) := by kernel_rfl
def F85 : FnC := ⟨1, (.seq (.reg [
  ia 2 (.new [(.p (.i .i64 0)), (.p (.i .i64 0)), (.p (.s [])), .nil]),
ia 3 (.mv (ci 0))]) (.seq (.reg [
  ia 4 (.mv (.t 0)),
ia 5 (.build [(.p (.i .i64 0)), (.p (.i .i64 0)), (.p (.s [])), .nil] [(0, (1, (ci 7))), (1, (1, (.t 4)))]),
io (.st 4 (.t 2) (.t 5)),
ia 3 (.mv (ci 3))]) .ret)), [(.cell 2 4 true), (.tmp 3)]⟩
theorem cc85 : ccF Try.prog [(58, [0, 0]), (61, [1, 0]), (75, [0, 0]), (58, [9]), (91, [8]), (93, [8]), (72, [8]), (92, [8]), (76, [8])] Try.f85 = some (stripF F85) := by kernel_rfl
def F99 : FnC := ⟨1, (.seq (.reg [
  ia 2 (.mv (.c (.a (.p (.b false)))))]) (.seq (.seq (.reg [
  ia 5 (.mv (.t 0)),
ia 6 (.bin .eql (.t 5) (.c (.a (.p (.s [])))))]) (.cond (.t 6) (.seq (.reg [
  ia 2 (.mv (.c (.a (.p (.b false)))))]) .ret) .skip)) (.seq (.reg [
  ia 8 (.mv (.t 0)),
ia 9 (.call (.f 112) [(.t 8), (ci 0)]),
ia 7 (.mv (.t 9)),
ia 10 (.ext (.t 7) 0),
ia 11 (.ext (.t 7) 1),
ia 3 (.new [(.p (.i .i64 0)), (.p (.s [])), (.p (.i .i64 0)), (.p (.i .i64 0))]),
io (.st 4 (.t 3) (.t 10)),
ia 4 (.mv (.t 11))]) (.seq (.reg [
  ia 12 (.mv (.t 4)),
ia 13 (.bin .eql (.t 12) (ci 0)),
ia 14 (.mv (.t 13)),
ig 15 14 true (.fad 0 (.t 3)),
ig 16 14 true (.ld 1 false (.t 15)),
ig 17 14 true (.bin .eql (.t 16) (ci 2)),
ia 18 (.pick (.t 14) (.t 17) (.c (.a (.p (.b false))))),
ia 19 (.mv (.t 18)),
ig 20 19 true (.fad 1 (.t 3)),
ig 21 19 true (.ld 1 false (.t 20)),
ig 22 19 true (.mv (.t 0)),
ig 23 19 true (.bin .eql (.t 21) (.t 22)),
ia 24 (.pick (.t 19) (.t 23) (.c (.a (.p (.b false))))),
ia 2 (.mv (.t 24))]) .ret)))), [(.tmp 2)]⟩
theorem cc99 : ccF Try.prog [(58, [0, 0]), (61, [1, 0]), (75, [0, 0]), (58, [9]), (91, [8]), (93, [8]), (72, [8]), (92, [8]), (76, [8])] Try.f99 = some (stripF F99) := by kernel_rfl
def F100b0 : C := (.seq (.seq (.reg [
  ia 51 (.mv (.t 8)),
ia 52 (.fad 3 (.t 3)),
ia 53 (.ld 1 false (.t 52)),
ia 54 (.len false (.t 53)),
ia 55 (.bin .lss (.t 51) (.t 54))]) (.cond (.t 55) .skip (.exit 0))) (.seq (.block 1 (.reg [
  ir 58 (.fad 3 (.t 7)),
ir 59 (.ld 1 false (.t 58)),
ir 60 (.fad 3 (.t 3)),
ir 61 (.ld 1 false (.t 60)),
ir 62 (.mv (.t 8)),
ir 63 (.ias 4 (.t 61) (.t 62)),
ir 64 (.ld 4 true (.t 63)),
ir 65 (.mv (.t 1)),
ir 66 (.mv (.t 2)),
ir 67 (.ld 4 true (.t 3)),
ir 68 (.call (.f 102) [(.t 67)]),
ir 69 (.bin .add (.t 66) (.t 68)),
ir 70 (.call (.f 100) [(.t 64), (.t 65), (.t 69)]),
⟨(.some 71), .none, (.bsl 4 43 [(.p (.i .i64 0)), (.p (.i .i64 0)), (.p (.s [])), .nil] 1 [(0, (.t 70))]), .ad⟩,
ia 72 (.app 4 43 56 (.t 59) (.t 71)),
ia 73 (.fad 3 (.t 7)),
io (.st 1 (.t 73) (.t 72))])) (.reg [
  ia 56 (.mv (.t 8)),
ia 57 (.bin .add (.t 56) (ci 1)),
ia 8 (.mv (.t 57))])))
def F100 : FnC := ⟨3, (.seq (.reg [
  ia 3 (.box 4 (.t 0)),
ia 6 (.new [(.p (.i .i64 0)), (.p (.i .i64 0)), (.p (.s [])), .nil])]) (.seq (.seq (.reg [
  ia 9 (.fad 0 (.t 3)),
ia 10 (.ld 1 false (.t 9)),
ia 11 (.bin .eql (.t 10) (ci 1))]) (.cond (.t 11) (.seq (.seq (.reg [
  ia 12 (.fad 1 (.t 3)),
ia 13 (.ld 1 false (.t 12)),
ia 14 (.mv (.t 2)),
ia 15 (.bin .lss (.t 13) (.t 14))]) (.cond (.t 15) (.seq (.reg [
  ia 16 (.ld 4 true (.t 3)),
io (.st 4 (.t 6) (.t 16))]) .ret) .skip)) (.seq (.seq (.reg [
  ia 17 (.fad 1 (.t 3)),
ia 18 (.ld 1 false (.t 17)),
ia 19 (.mv (.t 2)),
ia 20 (.mv (.t 1)),
ia 21 (.len false (.t 20)),
ia 22 (.bin .add (.t 19) (.t 21)),
ia 23 (.bin .lss (.t 18) (.t 22))]) (.cond (.t 23) (.seq (.reg [
  ia 24 (.mv (.t 1)),
ia 25 (.mv (.t 1)),
ia 26 (.len false (.t 25)),
ia 27 (.bin .sub (.t 26) (ci 1)),
ia 28 (.fad 1 (.t 3)),
ia 29 (.ld 1 false (.t 28)),
ia 30 (.mv (.t 2)),
ia 31 (.bin .sub (.t 29) (.t 30)),
ia 32 (.bin .sub (.t 27) (.t 31)),
ia 33 (.ias 4 (.t 24) (.t 32)),
ia 34 (.ld 4 true (.t 33)),
ia 35 (.mv (.t 2)),
ia 36 (.call (.f 101) [(.t 34), (.t 35), (ci 0)]),
io (.st 4 (.t 6) (.t 36))]) .ret) .skip)) (.seq (.reg [
  ia 37 (.fad 1 (.t 3)),
ia 38 (.ld 1 false (.t 37)),
ia 39 (.mv (.t 1)),
ia 40 (.len false (.t 39)),
ia 41 (.bin .sub (.t 38) (.t 40)),
ia 42 (.fad 1 (.t 3)),
io (.st 1 (.t 42) (.t 41))]) (.seq (.reg [
  ia 43 (.ld 4 true (.t 3)),
io (.st 4 (.t 6) (.t 43))]) .ret)))) .skip)) (.seq (.reg [
  ia 44 (.fad 0 (.t 3)),
ia 45 (.ld 1 false (.t 44)),
ia 46 (.fad 1 (.t 3)),
ia 47 (.ld 1 false (.t 46)),
ia 48 (.fad 2 (.t 3)),
ia 49 (.ld 1 false (.t 48)),
ia 50 (.build [(.p (.i .i64 0)), (.p (.i .i64 0)), (.p (.s [])), .nil] [(0, (1, (.t 45))), (1, (1, (.t 47))), (2, (1, (.t 49)))]),
ia 7 (.new [(.p (.i .i64 0)), (.p (.i .i64 0)), (.p (.s [])), .nil]),
io (.st 4 (.t 7) (.t 50))]) (.seq (.seq (.reg [
  ia 8 (.mv (ci 0))]) (.block 0 (.loop F100b0))) (.seq (.reg [
  ia 74 (.ld 4 true (.t 7)),
io (.st 4 (.t 6) (.t 74))]) .ret))))), [(.cell 6 4 true)]⟩
theorem cc100 : ccF Try.prog [(58, [0, 0]), (61, [1, 0]), (75, [0, 0]), (58, [9]), (91, [8]), (93, [8]), (72, [8]), (92, [8]), (76, [8])] Try.f100 = some (stripF F100) := by kernel_rfl
def F101b0 : C := (.seq (.seq (.reg [
  ia 29 (.mv (.t 8)),
ia 30 (.fad 3 (.t 3)),
ia 31 (.ld 1 false (.t 30)),
ia 32 (.len false (.t 31)),
ia 33 (.bin .lss (.t 29) (.t 32))]) (.cond (.t 33) .skip (.exit 0))) (.seq (.block 1 (.reg [
  ir 36 (.fad 3 (.t 7)),
ir 37 (.ld 1 false (.t 36)),
ir 38 (.fad 3 (.t 3)),
ir 39 (.ld 1 false (.t 38)),
ir 40 (.mv (.t 8)),
ir 41 (.ias 4 (.t 39) (.t 40)),
ir 42 (.ld 4 true (.t 41)),
ir 43 (.mv (.t 1)),
ir 44 (.mv (.t 2)),
ir 45 (.ld 4 true (.t 3)),
ir 46 (.call (.f 102) [(.t 45)]),
ir 47 (.bin .add (.t 44) (.t 46)),
ir 48 (.call (.f 101) [(.t 42), (.t 43), (.t 47)]),
⟨(.some 49), .none, (.bsl 4 43 [(.p (.i .i64 0)), (.p (.i .i64 0)), (.p (.s [])), .nil] 1 [(0, (.t 48))]), .ad⟩,
ia 50 (.app 4 43 56 (.t 37) (.t 49)),
ia 51 (.fad 3 (.t 7)),
io (.st 1 (.t 51) (.t 50))])) (.reg [
  ia 34 (.mv (.t 8)),
ia 35 (.bin .add (.t 34) (ci 1)),
ia 8 (.mv (.t 35))])))
def F101 : FnC := ⟨3, (.seq (.reg [
  ia 3 (.box 4 (.t 0)),
ia 6 (.new [(.p (.i .i64 0)), (.p (.i .i64 0)), (.p (.s [])), .nil])]) (.seq (.seq (.reg [
  ia 9 (.fad 0 (.t 3)),
ia 10 (.ld 1 false (.t 9)),
ia 11 (.bin .eql (.t 10) (ci 1))]) (.cond (.t 11) (.seq (.seq (.reg [
  ia 12 (.fad 1 (.t 3)),
ia 13 (.ld 1 false (.t 12)),
ia 14 (.mv (.t 2)),
ia 15 (.bin .geq (.t 13) (.t 14))]) (.cond (.t 15) (.reg [
  ia 16 (.fad 1 (.t 3)),
ia 17 (.ld 1 false (.t 16)),
ia 18 (.mv (.t 1)),
ia 19 (.bin .add (.t 17) (.t 18)),
ia 20 (.fad 1 (.t 3)),
io (.st 1 (.t 20) (.t 19))]) .skip)) (.seq (.reg [
  ia 21 (.ld 4 true (.t 3)),
io (.st 4 (.t 6) (.t 21))]) .ret)) .skip)) (.seq (.reg [
  ia 22 (.fad 0 (.t 3)),
ia 23 (.ld 1 false (.t 22)),
ia 24 (.fad 1 (.t 3)),
ia 25 (.ld 1 false (.t 24)),
ia 26 (.fad 2 (.t 3)),
ia 27 (.ld 1 false (.t 26)),
ia 28 (.build [(.p (.i .i64 0)), (.p (.i .i64 0)), (.p (.s [])), .nil] [(0, (1, (.t 23))), (1, (1, (.t 25))), (2, (1, (.t 27)))]),
ia 7 (.new [(.p (.i .i64 0)), (.p (.i .i64 0)), (.p (.s [])), .nil]),
io (.st 4 (.t 7) (.t 28))]) (.seq (.seq (.reg [
  ia 8 (.mv (ci 0))]) (.block 0 (.loop F101b0))) (.seq (.reg [
  ia 52 (.ld 4 true (.t 7)),
io (.st 4 (.t 6) (.t 52))]) .ret))))), [(.cell 6 4 true)]⟩
theorem cc101 : ccF Try.prog [(58, [0, 0]), (61, [1, 0]), (75, [0, 0]), (58, [9]), (91, [8]), (93, [8]), (72, [8]), (92, [8]), (76, [8])] Try.f101 = some (stripF F101) := by kernel_rfl
def F102 : FnC := ⟨1, (.seq (.reg [
  ia 1 (.box 4 (.t 0)),
ia 2 (.mv (ci 0))]) (.seq (.seq (.reg [
  ia 3 (.fad 0 (.t 1)),
ia 4 (.ld 1 false (.t 3)),
ia 5 (.bin .eql (.t 4) (ci 2))]) (.cond (.t 5) (.seq (.reg [
  ia 2 (.mv (ci 1))]) .ret) .skip)) (.seq (.seq (.reg [
  ia 6 (.fad 0 (.t 1)),
ia 7 (.ld 1 false (.t 6)),
ia 8 (.bin .eql (.t 7) (ci 6))]) (.cond (.t 8) (.seq (.reg [
  ia 9 (.fad 1 (.t 1)),
ia 10 (.ld 1 false (.t 9)),
ia 2 (.mv (.t 10))]) .ret) .skip)) (.seq (.reg [
  ia 2 (.mv (ci 0))]) .ret)))), [(.tmp 2)]⟩
theorem cc102 : ccF Try.prog [(58, [0, 0]), (61, [1, 0]), (75, [0, 0]), (58, [9]), (91, [8]), (93, [8]), (72, [8]), (92, [8]), (76, [8])] Try.f102 = some (stripF F102) := by kernel_rfl
def F110 : FnC := ⟨1, (.seq (.reg [
  ia 2 (.mv (.c (.a .nil)))]) (.seq (.seq (.reg [
  ia 3 (.mv (.t 0)),
ia 4 (.nq false (.t 3))]) (.cond (.t 4) (.seq (.reg [
  ia 2 (.mv (.c (.a .nil)))]) .ret) .skip)) (.seq (.reg [
  ia 5 (.bsl 2 61 [(.p (.s [])), (.p (.i .i64 0))] 0 []),
ia 6 (.mv (.t 0)),
ia 7 (.app 2 61 24 (.t 5) (.t 6)),
ia 2 (.mv (.t 7))]) .ret))), [(.tmp 2)]⟩
theorem cc110 : ccF Try.prog [(58, [0, 0]), (61, [1, 0]), (75, [0, 0]), (58, [9]), (91, [8]), (93, [8]), (72, [8]), (92, [8]), (76, [8])] Try.f110 = some (stripF F110) := by kernel_rfl
def F112 : FnC := ⟨2, (.seq (.reg [
  ia 4 (.new [(.p (.i .i64 0)), (.p (.s [])), (.p (.i .i64 0)), (.p (.i .i64 0))]),
ia 5 (.mv (ci 0))]) (.seq (.reg [
  ia 12 (.mv (.t 0)),
ia 13 (.mv (.t 1)),
ia 14 (.call (.f 115) [(.t 12), (.t 13)]),
ia 11 (.mv (.t 14)),
ia 15 (.ext (.t 11) 0),
ia 16 (.ext (.t 11) 1),
ia 6 (.mv (.t 15)),
ia 7 (.mv (.t 16))]) (.seq (.seq (.reg [
  ia 17 (.mv (.t 6)),
ia 18 (.bin .eql (.t 17) (ci 0))]) (.cond (.t 18) (.seq (.reg [
  ia 19 (.mv (.t 0)),
ia 20 (.mv (.t 1)),
ia 21 (.call (.f 116) [(.t 19), (.t 20)]),
ia 8 (.mv (.t 21))]) (.seq (.seq (.reg [
  ia 22 (.mv (.t 8)),
ia 23 (.bin .eql (.t 22) (ci 0))]) (.cond (.t 23) (.seq (.reg [
  ia 24 (.build [(.p (.i .i64 0)), (.p (.s [])), (.p (.i .i64 0)), (.p (.i .i64 0))] []),
io (.st 4 (.t 4) (.t 24)),
ia 5 (.mv (ci 10))]) .ret) .skip)) (.seq (.reg [
  ia 25 (.mv (.t 0)),
ia 26 (.mv (.t 1)),
ia 27 (.mv (.t 1)),
ia 28 (.mv (.t 8)),
ia 29 (.bin .add (.t 27) (.t 28)),
ia 30 (.sub (.t 25) (.some (.t 26)) (.some (.t 29))),
ia 31 (.mv (.t 1)),
ia 32 (.build [(.p (.i .i64 0)), (.p (.s [])), (.p (.i .i64 0)), (.p (.i .i64 0))] [(0, (1, (ci 5))), (1, (1, (.t 30))), (3, (1, (.t 31)))]),
io (.st 4 (.t 4) (.t 32)),
ia 5 (.mv (ci 0))]) .ret))) .skip)) (.seq (.reg [
  ia 33 (.mv (.t 0)),
ia 34 (.mv (.t 1)),
ia 35 (.mv (.t 1)),
ia 36 (.mv (.t 6)),
ia 37 (.bin .add (.t 35) (.t 36)),
ia 38 (.sub (.t 33) (.some (.t 34)) (.some (.t 37))),
ia 39 (.mv (.t 1)),
ia 40 (.build [(.p (.i .i64 0)), (.p (.s [])), (.p (.i .i64 0)), (.p (.i .i64 0))] [(1, (1, (.t 38))), (3, (1, (.t 39)))]),
ia 9 (.new [(.p (.i .i64 0)), (.p (.s [])), (.p (.i .i64 0)), (.p (.i .i64 0))]),
io (.st 4 (.t 9) (.t 40))]) (.seq (.reg [
  ia 41 (.mv (.t 0)),
ia 42 (.mv (.t 1)),
ia 43 (.ixs (.t 41) (.t 42)),
ia 44 (.call (.f 117) [(.t 43)]),
ia 10 (.mv (.t 44))]) (.seq (.seq (.reg [
  ia 45 (.mv (.t 10)),
ia 46 (.bin .eql (.t 45) (ci 3))]) (.cond (.t 46) (.seq (.seq (.reg [
  ia 47 (.mv (.t 7))]) (.cond (.t 47) (.seq (.reg [
  ia 48 (.build [(.p (.i .i64 0)), (.p (.s [])), (.p (.i .i64 0)), (.p (.i .i64 0))] []),
io (.st 4 (.t 4) (.t 48)),
ia 5 (.mv (ci 10))]) .ret) .skip)) (.seq (.seq (.reg [
  ia 49 (.mv (.t 6)),
ia 50 (.bin .gtr (.t 49) (ci 18)),
ia 51 (.mv (.t 50)),
ig 52 51 false (.mv (.t 6)),
ig 53 51 false (.bin .gtr (.t 52) (ci 1)),
ig 54 51 false (.mv (.t 53)),
ig 55 54 true (.mv (.t 0)),
ig 56 54 true (.mv (.t 1)),
ig 57 54 true (.ixs (.t 55) (.t 56)),
ig 58 54 true (.bin .eql (.t 57) (.c (.a (.p (.i .u8 48))))),
ig 59 51 false (.pick (.t 54) (.t 58) (.c (.a (.p (.b false))))),
ia 60 (.pick (.t 51) (.c (.a (.p (.b true)))) (.t 59))]) (.cond (.t 60) (.seq (.reg [
  ia 61 (.build [(.p (.i .i64 0)), (.p (.s [])), (.p (.i .i64 0)), (.p (.i .i64 0))] []),
io (.st 4 (.t 4) (.t 61)),
ia 5 (.mv (ci 11))]) .ret) .skip)) (.seq (.reg [
  ia 62 (.fad 0 (.t 9)),
io (.st 1 (.t 62) (ci 3))]) (.seq (.reg [
  ia 63 (.fad 1 (.t 9)),
ia 64 (.ld 1 false (.t 63)),
ia 65 (.call (.f 118) [(.t 64)]),
ia 66 (.fad 2 (.t 9)),
io (.st 1 (.t 66) (.t 65))]) (.seq (.reg [
  ia 67 (.ld 4 true (.t 9)),
io (.st 4 (.t 4) (.t 67)),
ia 5 (.mv (ci 0))]) .ret))))) .skip)) (.seq (.seq (.reg [
  ia 68 (.mv (.t 6)),
ia 69 (.bin .gtr (.t 68) (ci 16))]) (.cond (.t 69) (.seq (.reg [
  ia 70 (.build [(.p (.i .i64 0)), (.p (.s [])), (.p (.i .i64 0)), (.p (.i .i64 0))] []),
io (.st 4 (.t 4) (.t 70)),
ia 5 (.mv (ci 11))]) .ret) .skip)) (.seq (.reg [
  ia 71 (.mv (.t 10)),
ia 72 (.fad 0 (.t 9)),
io (.st 1 (.t 72) (.t 71))]) (.seq (.seq (.reg [
  ia 73 (.fad 1 (.t 9)),
ia 74 (.ld 1 false (.t 73)),
ia 75 (.call (.f 119) [(.t 74)])]) (.cond (.t 75) (.reg [
  ia 76 (.fad 0 (.t 9)),
io (.st 1 (.t 76) (ci 4))]) .skip)) (.seq (.reg [
  ia 77 (.ld 4 true (.t 9)),
io (.st 4 (.t 4) (.t 77)),
ia 5 (.mv (ci 0))]) .ret)))))))))), [(.cell 4 4 true), (.tmp 5)]⟩
theorem cc112 : ccF Try.prog [(58, [0, 0]), (61, [1, 0]), (75, [0, 0]), (58, [9]), (91, [8]), (93, [8]), (72, [8]), (92, [8]), (76, [8])] Try.f112 = some (stripF F112) := by kernel_rfl
def F115b0 : C := (.seq (.seq (.reg [
  ia 9 (.mv (.t 1)),
ia 10 (.mv (.t 6)),
ia 11 (.bin .add (.t 9) (.t 10)),
ia 12 (.mv (.t 0)),
ia 13 (.len true (.t 12)),
ia 14 (.bin .lss (.t 11) (.t 13))]) (.cond (.t 14) .skip (.exit 0))) (.block 1 (.seq (.reg [
  ia 15 (.mv (.t 0)),
ia 16 (.mv (.t 1)),
ia 17 (.mv (.t 6)),
ia 18 (.bin .add (.t 16) (.t 17)),
ia 19 (.ixs (.t 15) (.t 18)),
ia 20 (.call (.f 117) [(.t 19)]),
ia 8 (.mv (.t 20))]) (.seq (.seq (.reg [
  ia 21 (.mv (.t 8)),
ia 22 (.bin .lss (.t 21) (ci 1)),
ia 23 (.mv (.t 22)),
ig 24 23 false (.mv (.t 8)),
ig 25 23 false (.bin .gtr (.t 24) (ci 3)),
ia 26 (.pick (.t 23) (.c (.a (.p (.b true)))) (.t 25))]) (.cond (.t 26) (.seq (.reg [
  ia 27 (.mv (.t 6)),
ia 28 (.mv (.t 7)),
ia 4 (.mv (.t 27)),
ia 5 (.mv (.t 28))]) .ret) .skip)) (.seq (.reg [
  ia 29 (.mv (.t 7)),
ia 30 (.mv (.t 29)),
ig 31 30 false (.mv (.t 8)),
ig 32 30 false (.bin .lss (.t 31) (ci 3)),
ia 33 (.pick (.t 30) (.c (.a (.p (.b true)))) (.t 32)),
ia 7 (.mv (.t 33))]) (.reg [
  ia 34 (.mv (.t 6)),
ia 35 (.bin .add (.t 34) (ci 1)),
ia 6 (.mv (.t 35))]))))))
def F115 : FnC := ⟨2, (.seq (.reg [
  ia 4 (.mv (ci 0)),
ia 5 (.mv (.c (.a (.p (.b false)))))]) (.seq (.reg [
  ia 6 (.mv (ci 0)),
ia 7 (.mv (.c (.a (.p (.b false)))))]) (.seq (.block 0 (.loop F115b0)) (.seq (.reg [
  ia 36 (.mv (.t 6)),
ia 37 (.mv (.t 7)),
ia 4 (.mv (.t 36)),
ia 5 (.mv (.t 37))]) .ret)))), [(.tmp 4), (.tmp 5)]⟩
theorem cc115 : ccF Try.prog [(58, [0, 0]), (61, [1, 0]), (75, [0, 0]), (58, [9]), (91, [8]), (93, [8]), (72, [8]), (92, [8]), (76, [8])] Try.f115 = some (stripF F115) := by kernel_rfl
def F116b0 : C := (.seq (.seq (.reg [
  ia 27 (.mv (.t 5)),
ia 28 (.bin .lss (.t 27) (ci 13))]) (.cond (.t 28) .skip (.exit 0))) (.seq (.block 1 (.seq (.reg [
  ir 31 (.mv (.t 5)),
ir 32 (.ixs (.c (.a (.p (.s [92, 46, 40, 41, 61, 123, 125, 124, 43, 45, 42, 47, 60])))) (.t 31)),
ir 33 (.mv (.t 0)),
ir 34 (.mv (.t 1)),
ir 35 (.ixs (.t 33) (.t 34)),
ia 36 (.bin .eql (.t 32) (.t 35))]) (.cond (.t 36) (.seq (.reg [
  ia 4 (.mv (ci 1))]) .ret) .skip))) (.reg [
  ia 29 (.mv (.t 5)),
ia 30 (.bin .add (.t 29) (ci 1)),
ia 5 (.mv (.t 30))])))
def F116 : FnC := ⟨2, (.seq (.reg [
  ia 4 (.mv (ci 0))]) (.seq (.seq (.reg [
  ia 6 (.mv (.t 1)),
ia 7 (.bin .add (.t 6) (ci 1)),
ia 8 (.mv (.t 0)),
ia 9 (.len true (.t 8)),
ia 10 (.bin .lss (.t 7) (.t 9)),
ia 11 (.mv (.t 10)),
ig 12 11 true (.mv (.t 0)),
ig 13 11 true (.mv (.t 1)),
ig 14 11 true (.mv (.t 1)),
ig 15 11 true (.bin .add (.t 14) (ci 2)),
ig 16 11 true (.sub (.t 12) (.some (.t 13)) (.some (.t 15))),
ig 17 11 true (.bin .eql (.t 16) (.c (.a (.p (.s [45, 62]))))),
ig 18 11 true (.mv (.t 17)),
ig 19 18 false (.mv (.t 0)),
ig 20 18 false (.mv (.t 1)),
ig 21 18 false (.mv (.t 1)),
ig 22 18 false (.bin .add (.t 21) (ci 2)),
ig 23 18 false (.sub (.t 19) (.some (.t 20)) (.some (.t 22))),
ig 24 18 false (.bin .eql (.t 23) (.c (.a (.p (.s [61, 61]))))),
ig 25 11 true (.pick (.t 18) (.c (.a (.p (.b true)))) (.t 24)),
ia 26 (.pick (.t 11) (.t 25) (.c (.a (.p (.b false)))))]) (.cond (.t 26) (.seq (.reg [
  ia 4 (.mv (ci 2))]) .ret) .skip)) (.seq (.seq (.reg [
  ia 5 (.mv (ci 0))]) (.block 0 (.loop F116b0))) (.seq (.reg [
  ia 4 (.mv (ci 0))]) .ret)))), [(.tmp 4)]⟩
theorem cc116 : ccF Try.prog [(58, [0, 0]), (61, [1, 0]), (75, [0, 0]), (58, [9]), (91, [8]), (93, [8]), (72, [8]), (92, [8]), (76, [8])] Try.f116 = some (stripF F116) := by kernel_rfl
def F117 : FnC := ⟨1, (.seq (.reg [
  ia 2 (.mv (ci 0))]) (.seq (.seq (.reg [
  ia 3 (.mv (.t 0)),
ia 4 (.bin .geq (.t 3) (.c (.a (.p (.i .u8 97))))),
ia 5 (.mv (.t 4)),
ig 6 5 true (.mv (.t 0)),
ig 7 5 true (.bin .leq (.t 6) (.c (.a (.p (.i .u8 122))))),
ia 8 (.pick (.t 5) (.t 7) (.c (.a (.p (.b false)))))]) (.cond (.t 8) (.seq (.reg [
  ia 2 (.mv (ci 1))]) .ret) .skip)) (.seq (.seq (.reg [
  ia 9 (.mv (.t 0)),
ia 10 (.bin .geq (.t 9) (.c (.a (.p (.i .u8 65))))),
ia 11 (.mv (.t 10)),
ig 12 11 true (.mv (.t 0)),
ig 13 11 true (.bin .leq (.t 12) (.c (.a (.p (.i .u8 90))))),
ia 14 (.pick (.t 11) (.t 13) (.c (.a (.p (.b false)))))]) (.cond (.t 14) (.seq (.reg [
  ia 2 (.mv (ci 2))]) .ret) .skip)) (.seq (.seq (.reg [
  ia 15 (.mv (.t 0)),
ia 16 (.bin .geq (.t 15) (.c (.a (.p (.i .u8 48))))),
ia 17 (.mv (.t 16)),
ig 18 17 true (.mv (.t 0)),
ig 19 17 true (.bin .leq (.t 18) (.c (.a (.p (.i .u8 57))))),
ia 20 (.pick (.t 17) (.t 19) (.c (.a (.p (.b false)))))]) (.cond (.t 20) (.seq (.reg [
  ia 2 (.mv (ci 3))]) .ret) .skip)) (.seq (.seq (.reg [
  ia 21 (.mv (.t 0)),
ia 22 (.bin .eql (.t 21) (.c (.a (.p (.i .u8 32))))),
ia 23 (.mv (.t 22)),
ig 24 23 false (.mv (.t 0)),
ig 25 23 false (.bin .eql (.t 24) (.c (.a (.p (.i .u8 10))))),
ia 26 (.pick (.t 23) (.c (.a (.p (.b true)))) (.t 25)),
ia 27 (.mv (.t 26)),
ig 28 27 false (.mv (.t 0)),
ig 29 27 false (.bin .eql (.t 28) (.c (.a (.p (.i .u8 9))))),
ia 30 (.pick (.t 27) (.c (.a (.p (.b true)))) (.t 29))]) (.cond (.t 30) (.seq (.reg [
  ia 2 (.mv (ci 4))]) .ret) .skip)) (.seq (.reg [
  ia 2 (.mv (ci 0))]) .ret)))))), [(.tmp 2)]⟩
theorem cc117 : ccF Try.prog [(58, [0, 0]), (61, [1, 0]), (75, [0, 0]), (58, [9]), (91, [8]), (93, [8]), (72, [8]), (92, [8]), (76, [8])] Try.f117 = some (stripF F117) := by kernel_rfl
def F118b0 : C := (.seq (.seq (.reg [
  ia 5 (.mv (.t 4)),
ia 6 (.mv (.t 0)),
ia 7 (.len true (.t 6)),
ia 8 (.bin .lss (.t 5) (.t 7))]) (.cond (.t 8) .skip (.exit 0))) (.seq (.block 1 (.reg [
  ia 11 (.mv (.t 3)),
ia 12 (.bin .mul (ci 10) (.t 11)),
ia 13 (.mv (.t 0)),
ia 14 (.mv (.t 4)),
ia 15 (.ixs (.t 13) (.t 14)),
ia 16 (.cvi .i64 (.t 15)),
ia 17 (.bin .add (.t 12) (.t 16)),
ia 18 (.bin .sub (.t 17) (ci 48)),
ia 3 (.mv (.t 18))])) (.reg [
  ia 9 (.mv (.t 4)),
ia 10 (.bin .add (.t 9) (ci 1)),
ia 4 (.mv (.t 10))])))
def F118 : FnC := ⟨1, (.seq (.reg [
  ia 2 (.mv (ci 0))]) (.seq (.reg [
  ia 3 (.mv (ci 0))]) (.seq (.seq (.reg [
  ia 4 (.mv (ci 0))]) (.block 0 (.loop F118b0))) (.seq (.reg [
  ia 19 (.mv (.t 3)),
ia 2 (.mv (.t 19))]) .ret)))), [(.tmp 2)]⟩
theorem cc118 : ccF Try.prog [(58, [0, 0]), (61, [1, 0]), (75, [0, 0]), (58, [9]), (91, [8]), (93, [8]), (72, [8]), (92, [8]), (76, [8])] Try.f118 = some (stripF F118) := by kernel_rfl
def F119 : FnC := ⟨1, (.seq (.reg [
  ia 2 (.mv (.c (.a (.p (.b false)))))]) (.seq (.reg [
  ia 3 (.mv (.t 0)),
ia 4 (.bin .eql (.t 3) (.c (.a (.p (.s [108, 101, 116]))))),
ia 5 (.mv (.t 4)),
ig 6 5 false (.mv (.t 0)),
ig 7 5 false (.bin .eql (.t 6) (.c (.a (.p (.s [108, 101, 116, 114, 101, 99]))))),
ia 8 (.pick (.t 5) (.c (.a (.p (.b true)))) (.t 7)),
ia 9 (.mv (.t 8)),
ig 10 9 false (.mv (.t 0)),
ig 11 9 false (.bin .eql (.t 10) (.c (.a (.p (.s [105, 110]))))),
ia 12 (.pick (.t 9) (.c (.a (.p (.b true)))) (.t 11)),
ia 13 (.mv (.t 12)),
ig 14 13 false (.mv (.t 0)),
ig 15 13 false (.bin .eql (.t 14) (.c (.a (.p (.s [99, 97, 115, 101]))))),
ia 16 (.pick (.t 13) (.c (.a (.p (.b true)))) (.t 15)),
ia 17 (.mv (.t 16)),
ig 18 17 false (.mv (.t 0)),
ig 19 17 false (.bin .eql (.t 18) (.c (.a (.p (.s [111, 102]))))),
ia 20 (.pick (.t 17) (.c (.a (.p (.b true)))) (.t 19)),
ia 2 (.mv (.t 20))]) .ret)), [(.tmp 2)]⟩
theorem cc119 : ccF Try.prog [(58, [0, 0]), (61, [1, 0]), (75, [0, 0]), (58, [9]), (91, [8]), (93, [8]), (72, [8]), (92, [8]), (76, [8])] Try.f119 = some (stripF F119) := by kernel_rfl
def tblA : List (FuncId × FnC) := [(7, F7), (11, F11), (14, F14), (16, F16), (22, F22), (32, F32), (33, F33), (34, F34), (35, F35), (36, F36), (37, F37), (38, F38), (39, F39), (40, F40), (41, F41), (42, F42), (52, F52), (53, F53), (54, F54), (55, F55), (56, F56), (57, F57), (58, F58), (59, F59), (60, F60), (79, F79), (80, F80), (81, F81), (82, F82), (83, F83), (84, F84), (85, F85), (99, F99), (100, F100), (101, F101), (102, F102), (110, F110), (112, F112), (115, F115), (116, F116), (117, F117), (118, F118), (119, F119)]
theorem tblOkA : ∀ x, x ∈ tblA → ∃ fn, Try.prog.funcs[x.1]? = some fn ∧ ccF Try.prog [(58, [0, 0]), (61, [1, 0]), (75, [0, 0]), (58, [9]), (91, [8]), (93, [8]), (72, [8]), (92, [8]), (76, [8])] fn = some (stripF x.2) := by
  intro x hx
  simp only [tblA, List.mem_cons, List.not_mem_nil, or_false] at hx
  rcases hx with rfl | rfl | rfl | rfl | rfl | rfl | rfl | rfl | rfl | rfl | rfl | rfl | rfl | rfl | rfl | rfl | rfl | rfl | rfl | rfl | rfl | rfl | rfl | rfl | rfl | rfl | rfl | rfl | rfl | rfl | rfl | rfl | rfl | rfl | rfl | rfl | rfl | rfl | rfl | rfl | rfl | rfl | rfl
  · exact ⟨_, Try.func7, cc7⟩
  · exact ⟨_, Try.func11, cc11⟩
  · exact ⟨_, Try.func14, cc14⟩
  · exact ⟨_, Try.func16, cc16⟩
  · exact ⟨_, Try.func22, cc22⟩
  · exact ⟨_, Try.func32, cc32⟩
  · exact ⟨_, Try.func33, cc33⟩
  · exact ⟨_, Try.func34, cc34⟩
  · exact ⟨_, Try.func35, cc35⟩
  · exact ⟨_, Try.func36, cc36⟩
  · exact ⟨_, Try.func37, cc37⟩
  · exact ⟨_, Try.func38, cc38⟩
  · exact ⟨_, Try.func39, cc39⟩
  · exact ⟨_, Try.func40, cc40⟩
  · exact ⟨_, Try.func41, cc41⟩
  · exact ⟨_, Try.func42, cc42⟩
  · exact ⟨_, Try.func52, cc52⟩
  · exact ⟨_, Try.func53, cc53⟩
  · exact ⟨_, Try.func54, cc54⟩
  · exact ⟨_, Try.func55, cc55⟩
  · exact ⟨_, Try.func56, cc56⟩
  · exact ⟨_, Try.func57, cc57⟩
  · exact ⟨_, Try.func58, cc58⟩
  · exact ⟨_, Try.func59, cc59⟩
  · exact ⟨_, Try.func60, cc60⟩
  · exact ⟨_, Try.func79, cc79⟩
  · exact ⟨_, Try.func80, cc80⟩
  · exact ⟨_, Try.func81, cc81⟩
  · exact ⟨_, Try.func82, cc82⟩
  · exact ⟨_, Try.func83, cc83⟩
  · exact ⟨_, Try.func84, cc84⟩
  · exact ⟨_, Try.func85, cc85⟩
  · exact ⟨_, Try.func99, cc99⟩
  · exact ⟨_, Try.func100, cc100⟩
  · exact ⟨_, Try.func101, cc101⟩
  · exact ⟨_, Try.func102, cc102⟩
  · exact ⟨_, Try.func110, cc110⟩
  · exact ⟨_, Try.func112, cc112⟩
  · exact ⟨_, Try.func115, cc115⟩
  · exact ⟨_, Try.func116, cc116⟩
  · exact ⟨_, Try.func117, cc117⟩
  · exact ⟨_, Try.func118, cc118⟩
  · exact ⟨_, Try.func119, cc119⟩
end Go.Proofs.Ytomcceambpneiaa
namespace Go.Proofs.Ytomcceambpneiaa
open Go.Fx
def tbl : List (FuncId × FnC) := tblA
theorem tblOk : ∀ x, x ∈ tbl → ∃ fn, Try.prog.funcs[x.1]? = some fn ∧ ccF Try.prog [(58, [0, 0]), (61, [1, 0]), (75, [0, 0]), (58, [9]), (91, [8]), (93, [8]), (72, [8]), (92, [8]), (76, [8])] fn = some (stripF x.2) := by
  intro x hx
  simp only [tbl] at hx
  exact tblOkA x hx
end Go.Proofs.Ytomcceambpneiaa
section
set_option linter.unusedSimpArgs false
set_option linter.unusedVariables false
set_option maxHeartbeats 4000000
set_option maxRecDepth 10000
namespace Go.Proofs.Ytomcceambpneiaa
open Go.Fx
def spN (f : FuncId) : Bool := f == 120 || f == 121 || f == 98 || f == 999999
def orcN (f : FuncId) (ps : List PT) : Option PT := if f = 110 then (match ps with | [.a (.l [])] => some (.a (.l [])) | _ => none) else none
def S : Seat := { fb := fun f => (tbl.find? (·.1 == f)).map (·.2), sp := spN, orc := orcN }
theorem spS (f : FuncId) : S.sp f = spN f := rfl
theorem orcS {f : FuncId} (h : f ≠ 110) (ps : List PT) : S.orc f ps = none := by show orcN f ps = none; unfold orcN; rw [if_neg h]
structure Pt where
  n : Int
  s : Int
  deriving DecidableEq
structure Ar where
  s : List UInt8
  n : Int
  deriving DecidableEq
structure Nd where
  k : Int
  lv : Int
  n : Int
  s : List UInt8
  al : List Ar
  to : List Pt
  deriving DecidableEq
structure Nt where
  ns : List Nd
  cap : Int
  deriving DecidableEq
def encP (p : Pt) : List PV := [.i .i64 p.n, .i .i64 p.s]
def encA (a : Ar) : List PV := [.s a.s, .i .i64 a.n]
def encN (x : Nd) : List PV := [.i .i64 x.k, .i .i64 x.lv, .i .i64 x.n, .s x.s, .l (x.al.map encA), .l (x.to.map encP)]
def encT (n : Nt) : List PV := [.l (n.ns.map encN), .i .i64 n.cap]
theorem allP (l : List Pt) : ((l.map encP).all fun r => decide (r.length = 2)) = true := by simp [encP]
theorem allA (l : List Ar) : ((l.map encA).all fun r => decide (r.length = 2)) = true := by simp [encA]
theorem allN (l : List Nd) : ((l.map encN).all fun r => decide (r.length = 6)) = true := by simp [encN]
def zP : Pt := ⟨0, 0⟩
def zN : Nd := ⟨0, 0, 0, [], [], []⟩
def Nt.nd (n : Nt) (i : Int) : Nd := n.ns.getD i.toNat zN
def Nd.tt (x : Nd) (i : Int) : Pt := x.to.getD i.toNat zP
def Nt.lk (n : Nt) (p : Pt) : Pt := (n.nd p.n).tt p.s
def Nt.has (n : Nt) (p : Pt) : Bool := decide (p.n ≥ 0) && decide (p.n < n.ns.length) && decide (p.s ≥ 0) && decide (p.s < (n.nd p.n).to.length)
def wf (i : Int) : Prop := -9223372036854775808 ≤ i ∧ i ≤ 9223372036854775807
theorem wrap_in (n : Int) (h : -9223372036854775808 ≤ n ∧ n ≤ 9223372036854775807) : IntKind.i64.wrap n = n := IntWalk.i64_in n h
theorem wrap_succ (n : Nat) (h : n < 9223372036854775807) : IntKind.i64.wrap ((n : Int) + 1) = ((n + 1 : Nat) : Int) := by rw [wrap_in _ (by omega)]; omega
structure Nd.Ok (x : Nd) : Prop where
  k : wf x.k
  lv : wf x.lv
  n : wf x.n
  s : x.s.length ≤ 140737488355328
  al : x.al.length * 24 ≤ 140737488355328
  to : x.to.length * 16 ≤ 140737488355328
  ap : ∀ a, a ∈ x.al → wf a.n
  tp : ∀ p, p ∈ x.to → wf p.n ∧ wf p.s
structure Nt.Ok (n : Nt) : Prop where
  ns : n.ns.length * 88 ≤ 140737488355328
  cap : wf n.cap
  nd : ∀ x, x ∈ n.ns → x.Ok
theorem seatEqs : EqOk Try.prog [(58, [0, 0]), (61, [1, 0]), (75, [0, 0]), (58, [9]), (91, [8]), (93, [8]), (72, [8]), (92, [8]), (76, [8])] := by
  intro t sh h xa ya r he m σ w xs ys hx hy
  simp only [List.mem_cons, Prod.mk.injEq, List.not_mem_nil, or_false] at h
  rcases h with ⟨rfl, rfl⟩ | ⟨rfl, rfl⟩ | ⟨rfl, rfl⟩ | ⟨rfl, rfl⟩ | ⟨rfl, rfl⟩ | ⟨rfl, rfl⟩ | ⟨rfl, rfl⟩ | ⟨rfl, rfl⟩ | ⟨rfl, rfl⟩
  · exact eq_struct (sh := [0, 0]) Try.underlying58 (by kernel_rfl) (by kernel_rfl) ⟨by decide, rfl, ⟨_, Try.underlying3⟩, by decide, rfl, ⟨_, Try.underlying3⟩, trivial⟩ xa ya r he m σ w xs ys hx hy
  · exact eq_struct (sh := [1, 0]) Try.underlying61 (by kernel_rfl) (by kernel_rfl) ⟨by decide, rfl, Try.underlying9, by decide, rfl, ⟨_, Try.underlying3⟩, trivial⟩ xa ya r he m σ w xs ys hx hy
  · exact eq_arr (k := .i64) Try.underlying75 Try.underlying3 (by kernel_rfl) (by kernel_rfl) rfl (by kernel_rfl) xa ya r he m σ w xs ys hx hy
  · have h0 : ∀ (a c : List AV), eqCells [9] a c = none := fun a c => by cases a <;> cases c <;> rfl
    rw [h0] at he; cases he
  · have h0 : ∀ (a c : List AV), eqCells [8] a c = none := fun a c => by cases a <;> cases c <;> rfl
    rw [h0] at he; cases he
  · have h0 : ∀ (a c : List AV), eqCells [8] a c = none := fun a c => by cases a <;> cases c <;> rfl
    rw [h0] at he; cases he
  · have h0 : ∀ (a c : List AV), eqCells [8] a c = none := fun a c => by cases a <;> cases c <;> rfl
    rw [h0] at he; cases he
  · have h0 : ∀ (a c : List AV), eqCells [8] a c = none := fun a c => by cases a <;> cases c <;> rfl
    rw [h0] at he; cases he
  · have h0 : ∀ (a c : List AV), eqCells [8] a c = none := fun a c => by cases a <;> cases c <;> rfl
    rw [h0] at he; cases he
set_option linter.defProp false in
def nxE := And.intro (@encT.eq_1) (And.intro (@encN.eq_1) (And.intro (@encP.eq_1) (And.intro (@encA.eq_1) (And.intro (@spN.eq_1) (And.intro (@spS) (And.intro (@allP) (And.intro (@allA) (@allN))))))))
theorem clone_empty (P : Program) (eqs : List (TypeId × List Nat)) {fn : Func} {fc : FnC} (hm : P.follows .mixedOrders = true) (hE : EqOk P eqs) {f : FuncId} (hf : P.funcs[f]? = some fn) (hc : ccF P eqs fn = some (stripF fc))
    (hfc : ∃ k el b, fc = ⟨1, (.seq (.reg [⟨(.some 2), .none, (.mv (.c (.a .nil))), .any⟩]) (.seq (.seq (.reg [⟨(.some 3), .none, (.mv (.t 0)), .any⟩, ⟨(.some 4), .none, (.nq false (.t 3)), .any⟩]) (.cond (.t 4) (.seq (.reg [⟨(.some 2), .none, (.mv (.c (.a .nil))), .any⟩]) .ret) .skip)) (.seq (.reg [
      ⟨(.some 5), .none, (.bsl k el b 0 []), .any⟩, ⟨(.some 6), .none, (.mv (.t 0)), .any⟩, ⟨(.some 7), .none, (.app k el 24 (.t 5) (.t 6)), .any⟩, ⟨(.some 2), .none, (.mv (.t 7)), .any⟩]) .ret))), [(.tmp 2)]⟩ ∧ ∃ z, frL .empty b = some z ∧ ∀ σ, frL σ b = some z) :
    Ent P f ∧ SndP1 P f [.a (.l [])] (.a (.l [])) := by
  obtain ⟨k, el, b, rfl, z, hz0, hz⟩ := hfc
  have key : ∀ a c, ∃ v σ', Ent P f ∧ (∀ m w vals, SR (CRP P eqs) m .empty w → F2 (RT m .empty w) [.a (.raw (.slice a 0 c))] vals → ∀ rr n, CallsIn (FW rr) n P f vals.toArray w (PostS (CRP P eqs) m .empty w v σ')) ∧ frT σ' v = some (.a (.l [])) := by
    intro a c
    cases a with
    | none =>
      have := fn_ok (cp := fun _ _ => none) (cs := fun _ _ _ => none) (sp := fun _ => false) (σ := .empty) hm hE (fun _ _ _ h => by cases h) (fun _ _ _ _ _ h => by cases h) hf hc (args := [.a (.raw (.slice none 0 c))]) (fuel := 0) rfl rfl (.inr rfl) rfl rfl
      exact ⟨_, _, this.1, this.2, rfl⟩
    | some a =>
      have hev : evC (fun _ _ => none) (fun _ _ _ => none) (fun _ => false) 0 false (.seq (.reg [⟨(.some 2), .none, (.mv (.c (.a .nil))), .any⟩]) (.seq (.seq (.reg [⟨(.some 3), .none, (.mv (.t 0)), .any⟩, ⟨(.some 4), .none, (.nq false (.t 3)), .any⟩]) (.cond (.t 4) (.seq (.reg [⟨(.some 2), .none, (.mv (.c (.a .nil))), .any⟩]) .ret) .skip)) (.seq (.reg [
          ⟨(.some 5), .none, (.bsl k el b 0 []), .any⟩, ⟨(.some 6), .none, (.mv (.t 0)), .any⟩, ⟨(.some 7), .none, (.app k el 24 (.t 5) (.t 6)), .any⟩, ⟨(.some 2), .none, (.mv (.t 7)), .any⟩]) .ret))) (Env.init [.a (.raw (.slice (some a) 0 c))]) .empty =
          some (.ret, ((((((Env.init [.a (.raw (.slice (some a) 0 c))]).put 2 (.a .nil)).put 3 (.a (.raw (.slice (some a) 0 c)))).put 4 (.a (.p (.b false)))).put 5 (.a (.own (5, 0) 0 0))).put 6 (.a (.raw (.slice (some a) 0 c)))).put 7 (.a (.own (7, 1) 0 0)) |>.put 2 (.a (.own (7, 1) 0 0)), (((St.empty.add 5 (.row k el [])).kill (5, 0)).add 7 (.row k el []))) := by
        simp [evC, evIs, evI, evO, evR, ev, Env.init, Env.put, Env.putD, nilA, hz, evO.bslRows, St.add, St.put, St.kill, St.empty, rowsA, frA, rawE]
        try rfl
      have := fn_ok (cp := fun _ _ => none) (cs := fun _ _ _ => none) (sp := fun _ => false) (σ := .empty) hm hE (fun _ _ _ h => by cases h) (fun _ _ _ _ _ h => by cases h) hf hc (args := [.a (.raw (.slice (some a) 0 c))]) (fuel := 0) rfl hev (.inr rfl) rfl rfl
      exact ⟨_, _, this.1, this.2, by simp [frT, frA, St.add, St.put, St.kill, St.empty]⟩
  obtain ⟨_, _, hent, _, _⟩ := key none 0
  refine ⟨hent, fun w D vs hD hps rr n => ?_⟩
  cases hps with
  | cons x r =>
    cases r
    rename_i v
    have x : RP w D (.l []) v := x
    obtain ⟨a, c, rfl⟩ := x.slice
    obtain ⟨v, σ', _, hcall, hfr⟩ := key a c
    let m : Mt := { mu := fun _ => none, la := fun _ => 0, D := D }
    have hno : ∀ b, ¬ InS m .empty b := by
      rintro b (⟨s, bl, c, hs, _⟩ | ⟨l, hl, _⟩)
      · simp [St.empty] at hs
      · simp [St.empty] at hl
    have hR : SR (CRP P eqs) m .empty w :=
      { blk := fun s b hs => by simp [St.empty] at hs, gen := fun s b hs => by simp [St.empty] at hs, inj := fun s s' b b' B c c' hs => by simp [St.empty] at hs
        dj := fun b hb => absurd hb (hno b), dlt := hD, lrs := fun l r hl => by simp [St.empty] at hl, linj := fun l l' hl => by simp [St.empty] at hl }
    refine (hcall m w [.slice a 0 c] hR (.cons ⟨rfl, rfl⟩ .nil) rr n).mono ?_
    rintro e w' ⟨v, m', rfl, j1, j2, j3⟩
    refine ⟨v, rfl, ?_, ?_⟩
    · refine RPT.mono (fun b hb => ⟨?_, rfl⟩) (frT_ok j1 j2 hfr)
      rcases hb with hb | hb
      · rcases j3.new b hb with h5 | h5 | h5
        · exact .inl h5
        · exact .inr ⟨h5, j1.dlt b hb⟩
        · exact absurd h5 (hno b)
      · rcases j3.img b hb with h5 | h5
        · exact absurd h5 (hno b)
        · exact .inr ⟨h5, j1.inS_lt hb⟩
    · exact { size := j3.size, block := fun b hb => j3.kept b hb (hno b), os := j3.os, tape := j3.tape, output := j3.output }
theorem seatOk : SeatOk Try.prog [(58, [0, 0]), (61, [1, 0]), (75, [0, 0]), (58, [9]), (91, [8]), (93, [8]), (72, [8]), (92, [8]), (76, [8])] S where
  mixed := by kernel_rfl
  eql := seatEqs
  fb f fc h := by
    simp only [S, Option.map_eq_some_iff] at h
    obtain ⟨x, h1, rfl⟩ := h
    have h2 := List.find?_some h1
    have h3 := tblOk x (List.mem_of_find?_eq_some h1)
    simp only [beq_iff_eq] at h2
    rw [← h2]; exact h3
  orc f ps r h := by
    have h2 : orcN f ps = some r := h
    clear h
    unfold orcN at h2
    split at h2
    · rename_i hf
      subst hf
      split at h2
      · simp only [Option.some.injEq] at h2; subst h2
        exact clone_empty Try.prog _ (by kernel_rfl) seatEqs Try.func110 cc110 ⟨2, 61, _, rfl, _, rfl, fun _ => rfl⟩
      · cases h2
    · cases h2
end Go.Proofs.Ytomcceambpneiaa
end
section
set_option linter.unusedSimpArgs false
set_option linter.unusedVariables false
set_option maxHeartbeats 4000000
set_option maxRecDepth 10000
namespace Go.Proofs.Ytomcceambpneiaa
open Go.Fx
def idx {α : Type} (f : α → Bool) (l : List α) : Int := match l.findIdx? f with | some i => (i : Int) | none => -1
def Nt.set (n : Nt) (p q : Pt) : Nt := { n with ns := n.ns.set p.n.toNat { n.nd p.n with to := (n.nd p.n).to.set p.s.toNat q } }
end Go.Proofs.Ytomcceambpneiaa
end
section
set_option linter.unusedSimpArgs false
set_option linter.unusedVariables false
set_option maxHeartbeats 4000000
set_option maxRecDepth 10000
namespace Go.Proofs.Ytomcceambpneiaa
open Go.Fx
theorem mapGet {α : Type} {l : List α} {i : Nat} {x : α} (f : α → List PV) (h : l[i]? = some x) : (l.map f)[i]? = some (f x) := by rw [List.getElem?_map, h]; rfl
end Go.Proofs.Ytomcceambpneiaa
end
section
set_option linter.unusedSimpArgs false
set_option linter.unusedVariables false
set_option maxHeartbeats 4000000
set_option maxRecDepth 10000
namespace Go.Proofs.Ytomcceambpneiaa
open Go.Fx
def RE (P : Prop) (r : PT) : Prop := r = .a (.i .i64 (if bool P = true then 0 else 120))
end Go.Proofs.Ytomcceambpneiaa
end
section
set_option linter.unusedSimpArgs false
set_option linter.unusedVariables false
set_option maxHeartbeats 4000000
set_option maxRecDepth 10000
namespace Go.Proofs.Ytomcceambpneiaa
open Go.Fx
theorem indexA_ok (l : List Ar) (hl : l.length * 24 ≤ 140737488355328) (g : FuncId) (caps : List Key) (hc : caps ≠ []) (hsp : spN g = false) (f : Ar → Bool) (R : St → Prop)
    (hR : ∀ p σ, R σ → ∃ σ', eS S (.f g) ([.g ((encA p).map .p)] ++ caps.map fun s => .a (.ptr s 0 0)) σ = some (.a (.p (.b (f p))), σ') ∧ R σ') (σ : St) (h0 : R σ) :
    ∃ σ', eS S (.f 79) [.a (.p (.l (l.map encA))), .a (.fn g caps)] σ = some (.a (.p (.i .i64 (idx f l))), σ') ∧ R σ' := by
  obtain ⟨c1, cr, rfl⟩ : ∃ c1 cr, caps = c1 :: cr := by
    cases caps with
    | nil => exact absurd rfl hc
    | cons c1 cr => exact ⟨c1, cr, rfl⟩
  refine x_fnR (fc := F79) rfl rfl ?_
  simp only [F79, fxa, fxc, fxE, fxL, fxI, nxE, evO, evR, cellsT, ldCells, mkT, lenA, binPV, Env.init, resV, resT, frT, klT, ownT, intT, O.adds, ownA, rowsA, over, wrOk, keysT, keysA, ne_eq, if_true, if_false, ite_self, Nat.reduceLT, Nat.reduceSub, Nat.reduceBEq, Nat.reduceEqDiff, Nat.reduceAdd, Nat.reduceLeDiff, reduceCtorEq, Nat.reduceMul]
  refine loop_nat l.length (fun i e σ => e 0 = .a (.p (.l (l.map encA))) ∧ e 1 = .a (.fn g (c1 :: cr)) ∧ e 7 = .a (.p (.i .i64 l.length)) ∧ e 8 = .a (.p (.i .i64 (i : Nat))) ∧ R σ ∧ ∀ j x, j < i → l[j]? = some x → f x = false) (i0 := 0) (Nat.zero_le _) ?_ ?_ ?_
  · refine ⟨?_, ?_, ?_, ?_, h0, fun j x hj => by omega⟩ <;> simp only [fxa, fxc, fxE, fxL, fxI, nxE, evO, evR, cellsT, ldCells, mkT, lenA, binPV, Env.init, resV, resT, frT, klT, ownT, intT, O.adds, ownA, rowsA, over, wrOk, keysT, keysA, ne_eq, if_true, if_false, ite_self, Nat.reduceLT, Nat.reduceSub, Nat.reduceBEq, Nat.reduceEqDiff, Nat.reduceAdd, Nat.reduceLeDiff, reduceCtorEq, Nat.reduceMul]
    rfl
  · rintro i e σ hi ⟨e0, e1, e7, e8, hRσ, hall⟩
    have hlt : ((i : Nat) : Int) < (l.length : Int) := by omega
    have hge : (0 : Int) ≤ ((i : Nat) : Int) := by omega
    obtain ⟨x, hx⟩ : ∃ x, l[i]? = some x := ⟨_, List.getElem?_eq_getElem hi⟩
    have hx' := mapGet encA hx
    obtain ⟨σ2, hcall, hR2⟩ := hR x σ hRσ
    simp only [encA, List.map_cons, List.map_nil, List.cons_append, List.nil_append] at hcall
    simp only [F79b0, e0, e1, e7, e8, hlt, hge, hx', hsp, hcall, Bool.false_eq_true, fxa, fxc, fxE, fxL, fxI, nxE, evO, evR, cellsT, ldCells, mkT, lenA, binPV, Env.init, resV, resT, frT, klT, ownT, intT, O.adds, ownA, rowsA, over, wrOk, keysT, keysA, ne_eq, if_true, if_false, ite_self, Nat.reduceLT, Nat.reduceSub, Nat.reduceBEq, Nat.reduceEqDiff, Nat.reduceAdd, Nat.reduceLeDiff, reduceCtorEq, Nat.reduceMul]
    refine wpC_split (fun hf => ?_) (fun hf => ?_)
    · simp only [fxa, fxc, fxE, fxL, fxI, nxE, evO, evR, cellsT, ldCells, mkT, lenA, binPV, Env.init, resV, resT, frT, klT, ownT, intT, O.adds, ownA, rowsA, over, wrOk, keysT, keysA, ne_eq, if_true, if_false, ite_self, Nat.reduceLT, Nat.reduceSub, Nat.reduceBEq, Nat.reduceEqDiff, Nat.reduceAdd, Nat.reduceLeDiff, reduceCtorEq, Nat.reduceMul]
      refine ⟨?_, hR2⟩
      have : l.findIdx? f = some i := by
        rw [List.findIdx?_eq_some_iff_getElem]
        refine ⟨hi, ?_, fun j hj => ?_⟩
        · rw [List.getElem?_eq_getElem hi] at hx; rw [Option.some.inj hx]; exact hf
        · rw [hall j _ hj (List.getElem?_eq_getElem (by omega))]; simp
      simp only [idx, this]
    · simp only [e0, e1, e7, e8, fxa, fxc, fxE, fxL, fxI, nxE, evO, evR, cellsT, ldCells, mkT, lenA, binPV, Env.init, resV, resT, frT, klT, ownT, intT, O.adds, ownA, rowsA, over, wrOk, keysT, keysA, ne_eq, if_true, if_false, ite_self, Nat.reduceLT, Nat.reduceSub, Nat.reduceBEq, Nat.reduceEqDiff, Nat.reduceAdd, Nat.reduceLeDiff, reduceCtorEq, Nat.reduceMul]
      refine ⟨by rw [wrap_succ i (by omega)], hR2, fun j y hj hy => ?_⟩
      by_cases e : j = i
      · subst e; rw [hx] at hy; rw [← Option.some.inj hy]; exact hf
      · exact hall j y (by omega) hy
  · rintro e σ ⟨e0, e1, e7, e8, hRσ, hall⟩
    have hlt : ¬ ((l.length : Nat) : Int) < (l.length : Int) := by omega
    simp only [F79b0, e0, e1, e7, e8, hlt, fxa, fxc, fxE, fxL, fxI, nxE, evO, evR, cellsT, ldCells, mkT, lenA, binPV, Env.init, resV, resT, frT, klT, ownT, intT, O.adds, ownA, rowsA, over, wrOk, keysT, keysA, ne_eq, if_true, if_false, ite_self, Nat.reduceLT, Nat.reduceSub, Nat.reduceBEq, Nat.reduceEqDiff, Nat.reduceAdd, Nat.reduceLeDiff, reduceCtorEq, Nat.reduceMul]
    refine ⟨?_, hRσ⟩
    have : l.findIdx? f = none := by
      rw [List.findIdx?_eq_none_iff]
      intro x hx
      obtain ⟨j, hj⟩ := List.getElem?_of_mem hx
      exact hall j x (List.getElem?_eq_some_iff.1 hj).1 hj
    simp only [idx, this]
end Go.Proofs.Ytomcceambpneiaa
end
section
set_option linter.unusedSimpArgs false
set_option linter.unusedVariables false
set_option maxHeartbeats 4000000
set_option maxRecDepth 10000
namespace Go.Proofs.Ytomcceambpneiaa
open Go.Fx
structure Pl where
  k : Int
  sw : Bool
  lv : Int
  alt : Int
  nd : Nd
  deriving DecidableEq
def encL (p : Pl) : List PV := [.i .i64 p.k, .b p.sw, .i .i64 p.lv, .i .i64 p.alt, .i .i64 p.nd.k, .i .i64 p.nd.lv, .i .i64 p.nd.n, .s p.nd.s, .l (p.nd.al.map encA), .l (p.nd.to.map encP)]
def encLE (x : Pl × Int) : PT := .t [(true, encL x.1), (false, [.i .i64 x.2])]
def p0 : Pl := ⟨0, false, 0, 0, zN⟩
def plainR (k : Int) : Pl × Int := (⟨k, false, 0, 0, zN⟩, 0)
def noR (e : Int) : Pl × Int := (p0, e)
def swapR (x : Pl × Int) : Pl × Int := if x.2 = 0 then (⟨x.1.k, true, x.1.lv, x.1.alt, x.1.nd⟩, 0) else x
def cls (k : Int) : Int := if k = 3 ∨ k = 9 ∨ k = 11 ∨ k = 12 then 1 else if k = 2 ∨ k = 8 ∨ k = 10 ∨ k = 13 then 2 else if k = 4 ∨ k = 5 ∨ k = 6 then 3 else if k = 7 then 4 else 0
def wr (i : Int) : Int := IntKind.i64.wrap i
def passLv (x y : Nd) : Int := if x.k = 5 then wr (y.lv - 1) else if x.k = 6 then wr (y.lv + 1) else y.lv
def passR (x y : Nd) : Pl × Int := if x.lv ≥ y.lv then noR 140 else if passLv x y > 60 then noR 141 else (⟨7, false, passLv x y, 0, zN⟩, 0)
def pickIx (x y : Nd) : Int := idx (fun a => decide (a.s = y.s) && decide (a.n = wr (y.to.length - 1))) x.al
def pickR (x y : Nd) : Pl × Int := if x.lv ≠ y.lv then noR 140 else if pickIx x y < 0 then plainR 5 else (⟨2, false, 0, pickIx x y, zN⟩, 0)
def truthN (b : Bool) : Nd := ⟨8, 0, 0, if b then [84, 114, 117, 101] else [70, 97, 108, 115, 101], [], [zP]⟩
def outN (x y : Nd) : Nd :=
  if x.s = [43] then ⟨10, 0, wr (x.n + y.n), [], [], []⟩ else if x.s = [45] then ⟨10, 0, wr (x.n - y.n), [], [], []⟩ else if x.s = [42] then ⟨10, 0, wr (x.n * y.n), [], [], []⟩
  else if x.s = [47] then ⟨10, 0, wr (x.n.tdiv y.n), [], [], []⟩ else if x.s = [60] then truthN (decide (x.n < y.n)) else if x.s = [61, 61] then truthN (decide (x.n = y.n)) else ⟨10, 0, 0, [], [], []⟩
def outR (x y : Nd) : Pl × Int := if x.s = [47] ∧ y.n = 0 then plainR 5 else (⟨4, false, 0, 0, { outN x y with lv := x.lv }⟩, 0)
def askR (x y : Nd) : Pl × Int :=
  if x.k = 3 ∧ y.k = 2 then (if x.lv ≠ y.lv then noR 140 else plainR 1) else if x.k = 9 ∧ y.k = 8 then pickR x y else if x.k = 11 ∧ y.k = 10 then plainR 3 else if x.k = 12 ∧ y.k = 10 then outR x y else plainR 5
def ofR (a b : Nd) : Pl × Int :=
  if cls a.k = 0 ∨ cls b.k = 0 then noR 140 else if cls a.k = 4 then plainR 8 else if cls b.k = 4 then swapR (plainR 8)
  else if cls a.k = 3 ∧ cls b.k = 3 ∧ a.lv = b.lv ∧ a.k = b.k then plainR 6
  else if cls a.k = 3 ∧ (cls b.k ≠ 3 ∨ a.lv ≤ b.lv) then passR a b
  else if cls b.k = 3 then swapR (passR b a) else if cls a.k = 1 ∧ cls b.k = 2 then askR a b else if cls a.k = 2 ∧ cls b.k = 1 then swapR (askR b a) else noR 140
theorem class_ok (k : Int) : eP S 34 [.a (.i .i64 k)] = some (.a (.i .i64 (cls k))) := by
  refine x_fn (orcS (by decide)) (fc := F34) rfl rfl ?_
  unfold cls
  by_cases h1 : k = 3
  · simp only [F34, h1, Int.reduceEq, or_true, true_or, or_false, false_or, fxa, fxc, fxE, fxL, fxI, nxE, evO, evR, cellsT, ldCells, mkT, lenA, binPV, Env.init, resV, resT, frT, klT, ownT, intT, O.adds, ownA, rowsA, over, wrOk, keysT, keysA, ne_eq, if_true, if_false, ite_self, Nat.reduceLT, Nat.reduceSub, Nat.reduceBEq, Nat.reduceEqDiff, Nat.reduceAdd, Nat.reduceLeDiff, reduceCtorEq, Nat.reduceMul]
  by_cases h2 : k = 9
  · simp only [F34, h2, Int.reduceEq, or_true, true_or, or_false, false_or, fxa, fxc, fxE, fxL, fxI, nxE, evO, evR, cellsT, ldCells, mkT, lenA, binPV, Env.init, resV, resT, frT, klT, ownT, intT, O.adds, ownA, rowsA, over, wrOk, keysT, keysA, ne_eq, if_true, if_false, ite_self, Nat.reduceLT, Nat.reduceSub, Nat.reduceBEq, Nat.reduceEqDiff, Nat.reduceAdd, Nat.reduceLeDiff, reduceCtorEq, Nat.reduceMul]
  by_cases h3 : k = 11
  · simp only [F34, h3, Int.reduceEq, or_true, true_or, or_false, false_or, fxa, fxc, fxE, fxL, fxI, nxE, evO, evR, cellsT, ldCells, mkT, lenA, binPV, Env.init, resV, resT, frT, klT, ownT, intT, O.adds, ownA, rowsA, over, wrOk, keysT, keysA, ne_eq, if_true, if_false, ite_self, Nat.reduceLT, Nat.reduceSub, Nat.reduceBEq, Nat.reduceEqDiff, Nat.reduceAdd, Nat.reduceLeDiff, reduceCtorEq, Nat.reduceMul]
  by_cases h4 : k = 12
  · simp only [F34, h4, Int.reduceEq, or_true, true_or, or_false, false_or, fxa, fxc, fxE, fxL, fxI, nxE, evO, evR, cellsT, ldCells, mkT, lenA, binPV, Env.init, resV, resT, frT, klT, ownT, intT, O.adds, ownA, rowsA, over, wrOk, keysT, keysA, ne_eq, if_true, if_false, ite_self, Nat.reduceLT, Nat.reduceSub, Nat.reduceBEq, Nat.reduceEqDiff, Nat.reduceAdd, Nat.reduceLeDiff, reduceCtorEq, Nat.reduceMul]
  by_cases h5 : k = 2
  · simp only [F34, h5, Int.reduceEq, or_true, true_or, or_false, false_or, or_self, fxa, fxc, fxE, fxL, fxI, nxE, evO, evR, cellsT, ldCells, mkT, lenA, binPV, Env.init, resV, resT, frT, klT, ownT, intT, O.adds, ownA, rowsA, over, wrOk, keysT, keysA, ne_eq, if_true, if_false, ite_self, Nat.reduceLT, Nat.reduceSub, Nat.reduceBEq, Nat.reduceEqDiff, Nat.reduceAdd, Nat.reduceLeDiff, reduceCtorEq, Nat.reduceMul]
  by_cases h6 : k = 8
  · simp only [F34, h6, Int.reduceEq, or_true, true_or, or_false, false_or, or_self, fxa, fxc, fxE, fxL, fxI, nxE, evO, evR, cellsT, ldCells, mkT, lenA, binPV, Env.init, resV, resT, frT, klT, ownT, intT, O.adds, ownA, rowsA, over, wrOk, keysT, keysA, ne_eq, if_true, if_false, ite_self, Nat.reduceLT, Nat.reduceSub, Nat.reduceBEq, Nat.reduceEqDiff, Nat.reduceAdd, Nat.reduceLeDiff, reduceCtorEq, Nat.reduceMul]
  by_cases h7 : k = 10
  · simp only [F34, h7, Int.reduceEq, or_true, true_or, or_false, false_or, or_self, fxa, fxc, fxE, fxL, fxI, nxE, evO, evR, cellsT, ldCells, mkT, lenA, binPV, Env.init, resV, resT, frT, klT, ownT, intT, O.adds, ownA, rowsA, over, wrOk, keysT, keysA, ne_eq, if_true, if_false, ite_self, Nat.reduceLT, Nat.reduceSub, Nat.reduceBEq, Nat.reduceEqDiff, Nat.reduceAdd, Nat.reduceLeDiff, reduceCtorEq, Nat.reduceMul]
  by_cases h8 : k = 13
  · simp only [F34, h8, Int.reduceEq, or_true, true_or, or_false, false_or, or_self, fxa, fxc, fxE, fxL, fxI, nxE, evO, evR, cellsT, ldCells, mkT, lenA, binPV, Env.init, resV, resT, frT, klT, ownT, intT, O.adds, ownA, rowsA, over, wrOk, keysT, keysA, ne_eq, if_true, if_false, ite_self, Nat.reduceLT, Nat.reduceSub, Nat.reduceBEq, Nat.reduceEqDiff, Nat.reduceAdd, Nat.reduceLeDiff, reduceCtorEq, Nat.reduceMul]
  by_cases h9 : k = 4
  · simp only [F34, h9, Int.reduceEq, or_true, true_or, or_false, false_or, or_self, fxa, fxc, fxE, fxL, fxI, nxE, evO, evR, cellsT, ldCells, mkT, lenA, binPV, Env.init, resV, resT, frT, klT, ownT, intT, O.adds, ownA, rowsA, over, wrOk, keysT, keysA, ne_eq, if_true, if_false, ite_self, Nat.reduceLT, Nat.reduceSub, Nat.reduceBEq, Nat.reduceEqDiff, Nat.reduceAdd, Nat.reduceLeDiff, reduceCtorEq, Nat.reduceMul]
  by_cases h10 : k = 5
  · simp only [F34, h10, Int.reduceEq, or_true, true_or, or_false, false_or, or_self, fxa, fxc, fxE, fxL, fxI, nxE, evO, evR, cellsT, ldCells, mkT, lenA, binPV, Env.init, resV, resT, frT, klT, ownT, intT, O.adds, ownA, rowsA, over, wrOk, keysT, keysA, ne_eq, if_true, if_false, ite_self, Nat.reduceLT, Nat.reduceSub, Nat.reduceBEq, Nat.reduceEqDiff, Nat.reduceAdd, Nat.reduceLeDiff, reduceCtorEq, Nat.reduceMul]
  by_cases h11 : k = 6
  · simp only [F34, h11, Int.reduceEq, or_true, true_or, or_false, false_or, or_self, fxa, fxc, fxE, fxL, fxI, nxE, evO, evR, cellsT, ldCells, mkT, lenA, binPV, Env.init, resV, resT, frT, klT, ownT, intT, O.adds, ownA, rowsA, over, wrOk, keysT, keysA, ne_eq, if_true, if_false, ite_self, Nat.reduceLT, Nat.reduceSub, Nat.reduceBEq, Nat.reduceEqDiff, Nat.reduceAdd, Nat.reduceLeDiff, reduceCtorEq, Nat.reduceMul]
  by_cases h12 : k = 7
  · simp only [F34, h12, Int.reduceEq, or_true, true_or, or_false, false_or, or_self, fxa, fxc, fxE, fxL, fxI, nxE, evO, evR, cellsT, ldCells, mkT, lenA, binPV, Env.init, resV, resT, frT, klT, ownT, intT, O.adds, ownA, rowsA, over, wrOk, keysT, keysA, ne_eq, if_true, if_false, ite_self, Nat.reduceLT, Nat.reduceSub, Nat.reduceBEq, Nat.reduceEqDiff, Nat.reduceAdd, Nat.reduceLeDiff, reduceCtorEq, Nat.reduceMul]
  · simp only [F34, h1, h2, h3, h4, h5, h6, h7, h8, h9, h10, h11, h12, or_self, fxa, fxc, fxE, fxL, fxI, nxE, evO, evR, cellsT, ldCells, mkT, lenA, binPV, Env.init, resV, resT, frT, klT, ownT, intT, O.adds, ownA, rowsA, over, wrOk, keysT, keysA, ne_eq, if_true, if_false, ite_self, Nat.reduceLT, Nat.reduceSub, Nat.reduceBEq, Nat.reduceEqDiff, Nat.reduceAdd, Nat.reduceLeDiff, reduceCtorEq, Nat.reduceMul]
theorem plain_ok (k : Int) : eP S 36 [.a (.i .i64 k)] = some (encLE (plainR k)) := by
  refine x_fn (orcS (by decide)) (fc := F36) rfl rfl ?_
  simp only [F36, encLE, encL, plainR, zN, fxa, fxc, fxE, fxL, fxI, nxE, evO, evR, cellsT, ldCells, mkT, lenA, binPV, Env.init, resV, resT, frT, klT, ownT, intT, O.adds, ownA, rowsA, over, wrOk, keysT, keysA, ne_eq, if_true, if_false, ite_self, Nat.reduceLT, Nat.reduceSub, Nat.reduceBEq, Nat.reduceEqDiff, Nat.reduceAdd, Nat.reduceLeDiff, reduceCtorEq, Nat.reduceMul]
theorem swapped_ok (x : Pl × Int) : eP S 37 [.g (encL x.1), .a (.i .i64 x.2)] = some (encLE (swapR x)) := by
  refine x_fn (orcS (by decide)) (fc := F37) rfl rfl ?_
  unfold swapR
  by_cases h : x.2 = 0
  · simp only [F37, encLE, encL, h, fxa, fxc, fxE, fxL, fxI, nxE, evO, evR, cellsT, ldCells, mkT, lenA, binPV, Env.init, resV, resT, frT, klT, ownT, intT, O.adds, ownA, rowsA, over, wrOk, keysT, keysA, ne_eq, if_true, if_false, ite_self, Nat.reduceLT, Nat.reduceSub, Nat.reduceBEq, Nat.reduceEqDiff, Nat.reduceAdd, Nat.reduceLeDiff, reduceCtorEq, Nat.reduceMul]
  · simp only [F37, encLE, encL, h, fxa, fxc, fxE, fxL, fxI, nxE, evO, evR, cellsT, ldCells, mkT, lenA, binPV, Env.init, resV, resT, frT, klT, ownT, intT, O.adds, ownA, rowsA, over, wrOk, keysT, keysA, ne_eq, if_true, if_false, ite_self, Nat.reduceLT, Nat.reduceSub, Nat.reduceBEq, Nat.reduceEqDiff, Nat.reduceAdd, Nat.reduceLeDiff, reduceCtorEq, Nat.reduceMul]
theorem pass_ok (x y : Nd) : eP S 38 [.g (encN x), .g (encN y)] = some (encLE (passR x y)) := by
  refine x_fn (orcS (by decide)) (fc := F38) rfl rfl ?_
  unfold passR passLv wr
  by_cases h5 : x.k = 5
  · by_cases h1 : x.lv ≥ y.lv
    · simp only [F38, encLE, encL, noR, p0, zN, h5, h1, fxa, fxc, fxE, fxL, fxI, nxE, evO, evR, cellsT, ldCells, mkT, lenA, binPV, Env.init, resV, resT, frT, klT, ownT, intT, O.adds, ownA, rowsA, over, wrOk, keysT, keysA, ne_eq, if_true, if_false, ite_self, Nat.reduceLT, Nat.reduceSub, Nat.reduceBEq, Nat.reduceEqDiff, Nat.reduceAdd, Nat.reduceLeDiff, reduceCtorEq, Nat.reduceMul]
    · by_cases h2 : IntKind.i64.wrap (y.lv - 1) > 60
      · simp only [F38, encLE, encL, noR, p0, zN, h5, h1, h2, fxa, fxc, fxE, fxL, fxI, nxE, evO, evR, cellsT, ldCells, mkT, lenA, binPV, Env.init, resV, resT, frT, klT, ownT, intT, O.adds, ownA, rowsA, over, wrOk, keysT, keysA, ne_eq, if_true, if_false, ite_self, Nat.reduceLT, Nat.reduceSub, Nat.reduceBEq, Nat.reduceEqDiff, Nat.reduceAdd, Nat.reduceLeDiff, reduceCtorEq, Nat.reduceMul]
      · simp only [F38, encLE, encL, noR, p0, zN, h5, h1, h2, fxa, fxc, fxE, fxL, fxI, nxE, evO, evR, cellsT, ldCells, mkT, lenA, binPV, Env.init, resV, resT, frT, klT, ownT, intT, O.adds, ownA, rowsA, over, wrOk, keysT, keysA, ne_eq, if_true, if_false, ite_self, Nat.reduceLT, Nat.reduceSub, Nat.reduceBEq, Nat.reduceEqDiff, Nat.reduceAdd, Nat.reduceLeDiff, reduceCtorEq, Nat.reduceMul]
  by_cases h6 : x.k = 6
  · by_cases h1 : x.lv ≥ y.lv
    · simp only [F38, encLE, encL, noR, p0, zN, h6, h1, Int.reduceEq, fxa, fxc, fxE, fxL, fxI, nxE, evO, evR, cellsT, ldCells, mkT, lenA, binPV, Env.init, resV, resT, frT, klT, ownT, intT, O.adds, ownA, rowsA, over, wrOk, keysT, keysA, ne_eq, if_true, if_false, ite_self, Nat.reduceLT, Nat.reduceSub, Nat.reduceBEq, Nat.reduceEqDiff, Nat.reduceAdd, Nat.reduceLeDiff, reduceCtorEq, Nat.reduceMul]
    · by_cases h2 : IntKind.i64.wrap (y.lv + 1) > 60
      · simp only [F38, encLE, encL, noR, p0, zN, h6, h1, h2, Int.reduceEq, fxa, fxc, fxE, fxL, fxI, nxE, evO, evR, cellsT, ldCells, mkT, lenA, binPV, Env.init, resV, resT, frT, klT, ownT, intT, O.adds, ownA, rowsA, over, wrOk, keysT, keysA, ne_eq, if_true, if_false, ite_self, Nat.reduceLT, Nat.reduceSub, Nat.reduceBEq, Nat.reduceEqDiff, Nat.reduceAdd, Nat.reduceLeDiff, reduceCtorEq, Nat.reduceMul]
      · simp only [F38, encLE, encL, noR, p0, zN, h6, h1, h2, Int.reduceEq, fxa, fxc, fxE, fxL, fxI, nxE, evO, evR, cellsT, ldCells, mkT, lenA, binPV, Env.init, resV, resT, frT, klT, ownT, intT, O.adds, ownA, rowsA, over, wrOk, keysT, keysA, ne_eq, if_true, if_false, ite_self, Nat.reduceLT, Nat.reduceSub, Nat.reduceBEq, Nat.reduceEqDiff, Nat.reduceAdd, Nat.reduceLeDiff, reduceCtorEq, Nat.reduceMul]
  by_cases h1 : x.lv ≥ y.lv
  · simp only [F38, encLE, encL, noR, p0, zN, h5, h6, h1, Int.reduceEq, fxa, fxc, fxE, fxL, fxI, nxE, evO, evR, cellsT, ldCells, mkT, lenA, binPV, Env.init, resV, resT, frT, klT, ownT, intT, O.adds, ownA, rowsA, over, wrOk, keysT, keysA, ne_eq, if_true, if_false, ite_self, Nat.reduceLT, Nat.reduceSub, Nat.reduceBEq, Nat.reduceEqDiff, Nat.reduceAdd, Nat.reduceLeDiff, reduceCtorEq, Nat.reduceMul]
  · by_cases h2 : y.lv > 60
    · simp only [F38, encLE, encL, noR, p0, zN, h5, h6, h1, h2, Int.reduceEq, fxa, fxc, fxE, fxL, fxI, nxE, evO, evR, cellsT, ldCells, mkT, lenA, binPV, Env.init, resV, resT, frT, klT, ownT, intT, O.adds, ownA, rowsA, over, wrOk, keysT, keysA, ne_eq, if_true, if_false, ite_self, Nat.reduceLT, Nat.reduceSub, Nat.reduceBEq, Nat.reduceEqDiff, Nat.reduceAdd, Nat.reduceLeDiff, reduceCtorEq, Nat.reduceMul]
    · simp only [F38, encLE, encL, noR, p0, zN, h5, h6, h1, h2, Int.reduceEq, fxa, fxc, fxE, fxL, fxI, nxE, evO, evR, cellsT, ldCells, mkT, lenA, binPV, Env.init, resV, resT, frT, klT, ownT, intT, O.adds, ownA, rowsA, over, wrOk, keysT, keysA, ne_eq, if_true, if_false, ite_self, Nat.reduceLT, Nat.reduceSub, Nat.reduceBEq, Nat.reduceEqDiff, Nat.reduceAdd, Nat.reduceLeDiff, reduceCtorEq, Nat.reduceMul]
theorem pick1_ok (a : Ar) (y : Nd) (k : Key) (σ : St) (hk : σ.bs k = some (.var ((encN y).map .p))) (hlt : k.2 < σ.clk) :
    eS S (.f 80) [.g ((encA a).map .p), .a (.ptr k 0 0)] σ = some (.a (.p (.b (decide (a.s = y.s) && decide (a.n = wr (y.to.length - 1))))), σ.add 2 (.var ((encA a).map .p))) := by
  have hne : ¬ k = (2, σ.clk) := by rintro rfl; exact Nat.lt_irrefl _ hlt
  simp only [encN, List.map_cons, List.map_nil] at hk
  refine x_fnX (fc := F80) rfl rfl ?_
  unfold wr
  cases h1 : decide (a.s = y.s) with
  | false => simp only [F80, hk, hne, h1, fxa, fxc, fxE, fxL, fxI, nxE, evO, evR, cellsT, ldCells, mkT, lenA, binPV, Env.init, resV, resT, frT, klT, ownT, intT, O.adds, ownA, rowsA, over, wrOk, keysT, keysA, ne_eq, if_true, if_false, ite_self, Nat.reduceLT, Nat.reduceSub, Nat.reduceBEq, Nat.reduceEqDiff, Nat.reduceAdd, Nat.reduceLeDiff, reduceCtorEq, Nat.reduceMul]
  | true => simp only [F80, hk, hne, h1, fxa, fxc, fxE, fxL, fxI, nxE, evO, evR, cellsT, ldCells, mkT, lenA, binPV, Env.init, resV, resT, frT, klT, ownT, intT, O.adds, ownA, rowsA, over, wrOk, keysT, keysA, ne_eq, if_true, if_false, ite_self, Nat.reduceLT, Nat.reduceSub, Nat.reduceBEq, Nat.reduceEqDiff, Nat.reduceAdd, Nat.reduceLeDiff, reduceCtorEq, Nat.reduceMul]
theorem pick_ok {x y : Nd} (hx : x.Ok) : eP S 52 [.g (encN x), .g (encN y)] = some (encLE (pickR x y)) := by
  refine x_fn (orcS (by decide)) (fc := F52) rfl rfl ?_
  have c5 := plain_ok 5
  unfold pickR
  by_cases h1 : x.lv = y.lv
  case neg => simp only [F52, encLE, encL, noR, p0, zN, h1, fxa, fxc, fxE, fxL, fxI, nxE, evO, evR, cellsT, ldCells, mkT, lenA, binPV, Env.init, resV, resT, frT, klT, ownT, intT, O.adds, ownA, rowsA, over, wrOk, keysT, keysA, ne_eq, if_true, if_false, ite_self, Nat.reduceLT, Nat.reduceSub, Nat.reduceBEq, Nat.reduceEqDiff, Nat.reduceAdd, Nat.reduceLeDiff, reduceCtorEq, Nat.reduceMul]
  obtain ⟨σ0, hσ0⟩ : ∃ σ0, σ0 = ((St.empty.add 2 (.var ((encN x).map .p))).add 3 (.var ((encN y).map .p))).add 4 (.var [.p (.i .i64 0), .p (.b false), .p (.i .i64 0), .p (.i .i64 0), .p (.i .i64 0), .p (.i .i64 0), .p (.i .i64 0), .p (.s []), .nil, .nil]) := ⟨_, rfl⟩
  obtain ⟨σ1, hcall, h4, h5⟩ := indexA_ok x.al hx.al 80 [(3, 1)] (by simp) (by decide) (fun a => decide (a.s = y.s) && decide (a.n = wr (y.to.length - 1))) (fun σ => (σ.bs (3, 1) = some (.var ((encN y).map .p)) ∧ 2 ≤ σ.clk) ∧ σ.bs (4, 2) = some (.var [.p (.i .i64 0), .p (.b false), .p (.i .i64 0), .p (.i .i64 0), .p (.i .i64 0), .p (.i .i64 0), .p (.i .i64 0), .p (.s []), .nil, .nil]))
    (fun a σ hσ => ⟨_, pick1_ok a y (3, 1) σ hσ.1.1 (by have := hσ.1.2; simp; omega), by
      refine ⟨⟨?_, ?_⟩, ?_⟩
      · simp only [add_bs]; rw [if_neg (by simp)]; exact hσ.1.1
      · simp only [add_clk]; have := hσ.1.2; omega
      · simp only [add_bs]; rw [if_neg (by simp)]; exact hσ.2⟩) σ0 (by rw [hσ0]; refine ⟨⟨?_, ?_⟩, ?_⟩ <;> simp [add_bs, add_clk, empty_clk])
  rw [hσ0] at hcall
  have hcall : eS S (.f 79) [.a (.p (.l (x.al.map encA))), .a (.fn 80 [(3, 1)])] _ = some (.a (.p (.i .i64 (pickIx x y))), σ1) := hcall
  simp only [encN, List.map_cons, List.map_nil, h1] at hcall h4
  simp only [encLE, encL, plainR, zN, List.map_nil] at c5
  by_cases h2 : pickIx x y < 0
  · simp only [F52, encLE, encL, noR, plainR, p0, zN, h1, capsOf, hcall, h2, h4, h5, c5, not_true_eq_false, fxa, fxc, fxE, fxL, fxI, nxE, evO, evR, cellsT, ldCells, mkT, lenA, binPV, Env.init, resV, resT, frT, klT, ownT, intT, O.adds, ownA, rowsA, over, wrOk, keysT, keysA, ne_eq, if_true, if_false, ite_self, Nat.reduceLT, Nat.reduceSub, Nat.reduceBEq, Nat.reduceEqDiff, Nat.reduceAdd, Nat.reduceLeDiff, reduceCtorEq, Nat.reduceMul]
  · simp only [F52, encLE, encL, noR, plainR, p0, zN, h1, capsOf, hcall, h2, h4, h5, c5, not_true_eq_false, fxa, fxc, fxE, fxL, fxI, nxE, evO, evR, cellsT, ldCells, mkT, lenA, binPV, Env.init, resV, resT, frT, klT, ownT, intT, O.adds, ownA, rowsA, over, wrOk, keysT, keysA, ne_eq, if_true, if_false, ite_self, Nat.reduceLT, Nat.reduceSub, Nat.reduceBEq, Nat.reduceEqDiff, Nat.reduceAdd, Nat.reduceLeDiff, reduceCtorEq, Nat.reduceMul]
theorem truth_ok (b : Bool) : eP S 81 [.a (.b b)] = some (.g (encN (truthN b))) := by
  refine x_fn (orcS (by decide)) (fc := F81) rfl rfl ?_
  unfold truthN
  cases b
  · simp only [F81, zP, Int.reduceLE, Int.reduceMul, Int.reduceToNat, Int.cast_ofNat_Int, fxa, fxc, fxE, fxL, fxI, nxE, evO, evR, cellsT, ldCells, mkT, lenA, binPV, Env.init, resV, resT, frT, klT, ownT, intT, O.adds, ownA, rowsA, over, wrOk, keysT, keysA, ne_eq, if_true, if_false, ite_self, Nat.reduceLT, Nat.reduceSub, Nat.reduceBEq, Nat.reduceEqDiff, Nat.reduceAdd, Nat.reduceLeDiff, reduceCtorEq, Nat.reduceMul]
  · simp only [F81, zP, Int.reduceLE, Int.reduceMul, Int.reduceToNat, Int.cast_ofNat_Int, fxa, fxc, fxE, fxL, fxI, nxE, evO, evR, cellsT, ldCells, mkT, lenA, binPV, Env.init, resV, resT, frT, klT, ownT, intT, O.adds, ownA, rowsA, over, wrOk, keysT, keysA, ne_eq, if_true, if_false, ite_self, Nat.reduceLT, Nat.reduceSub, Nat.reduceBEq, Nat.reduceEqDiff, Nat.reduceAdd, Nat.reduceLeDiff, reduceCtorEq, Nat.reduceMul]
theorem nmU : ((43 : UInt8) = 45) = False ∧ ((43 : UInt8) = 42) = False ∧ ((43 : UInt8) = 47) = False ∧ ((43 : UInt8) = 60) = False ∧ ((43 : UInt8) = 61) = False ∧ ((45 : UInt8) = 43) = False ∧ ((45 : UInt8) = 42) = False ∧ ((45 : UInt8) = 47) = False ∧ ((45 : UInt8) = 60) = False ∧ ((45 : UInt8) = 61) = False ∧ ((42 : UInt8) = 43) = False ∧ ((42 : UInt8) = 45) = False ∧ ((42 : UInt8) = 47) = False ∧ ((42 : UInt8) = 60) = False ∧ ((42 : UInt8) = 61) = False ∧ ((47 : UInt8) = 43) = False ∧ ((47 : UInt8) = 45) = False ∧ ((47 : UInt8) = 42) = False ∧ ((47 : UInt8) = 60) = False ∧ ((47 : UInt8) = 61) = False ∧ ((60 : UInt8) = 43) = False ∧ ((60 : UInt8) = 45) = False ∧ ((60 : UInt8) = 42) = False ∧ ((60 : UInt8) = 47) = False ∧ ((60 : UInt8) = 61) = False ∧ ((61 : UInt8) = 43) = False ∧ ((61 : UInt8) = 45) = False ∧ ((61 : UInt8) = 42) = False ∧ ((61 : UInt8) = 47) = False ∧ ((61 : UInt8) = 60) = False :=
  ⟨eq_false (by decide), eq_false (by decide), eq_false (by decide), eq_false (by decide), eq_false (by decide), eq_false (by decide), eq_false (by decide), eq_false (by decide), eq_false (by decide), eq_false (by decide), eq_false (by decide), eq_false (by decide), eq_false (by decide), eq_false (by decide), eq_false (by decide), eq_false (by decide), eq_false (by decide), eq_false (by decide), eq_false (by decide), eq_false (by decide), eq_false (by decide), eq_false (by decide), eq_false (by decide), eq_false (by decide), eq_false (by decide), eq_false (by decide), eq_false (by decide), eq_false (by decide), eq_false (by decide), eq_false (by decide)⟩
theorem out_ok (x y : Nd) : eP S 53 [.g (encN x), .g (encN y)] = some (encLE (outR x y)) := by
  refine x_fn (orcS (by decide)) (fc := F53) rfl rfl ?_
  have c5 := plain_ok 5
  have t1 := truth_ok (decide (x.n < y.n))
  have t2 := truth_ok (decide (x.n = y.n))
  unfold outR outN
  simp only [encN, truthN, zP, encP, List.map_cons, List.map_nil] at t1 t2
  obtain ⟨n1, hn1⟩ : ∃ b, decide (x.n < y.n) = b := ⟨_, rfl⟩
  obtain ⟨n2, hn2⟩ : ∃ b, decide (x.n = y.n) = b := ⟨_, rfl⟩
  rw [hn1] at t1 ⊢
  rw [hn2] at t2 ⊢
  simp only [encLE, encL, plainR, zN, List.map_nil] at c5
  by_cases h1 : x.s = [43]
  · simp only [F53, encLE, encL, plainR, zN, wr, h1, List.cons.injEq, nmU, List.cons_ne_nil, not_true_eq_false, fxa, fxc, fxE, fxL, fxI, nxE, evO, evR, cellsT, ldCells, mkT, lenA, binPV, Env.init, resV, resT, frT, klT, ownT, intT, O.adds, ownA, rowsA, over, wrOk, keysT, keysA, ne_eq, if_true, if_false, ite_self, Nat.reduceLT, Nat.reduceSub, Nat.reduceBEq, Nat.reduceEqDiff, Nat.reduceAdd, Nat.reduceLeDiff, reduceCtorEq, Nat.reduceMul]
  by_cases h2 : x.s = [45]
  · simp only [F53, encLE, encL, plainR, zN, wr, h2, List.cons.injEq, nmU, List.cons_ne_nil, not_true_eq_false, fxa, fxc, fxE, fxL, fxI, nxE, evO, evR, cellsT, ldCells, mkT, lenA, binPV, Env.init, resV, resT, frT, klT, ownT, intT, O.adds, ownA, rowsA, over, wrOk, keysT, keysA, ne_eq, if_true, if_false, ite_self, Nat.reduceLT, Nat.reduceSub, Nat.reduceBEq, Nat.reduceEqDiff, Nat.reduceAdd, Nat.reduceLeDiff, reduceCtorEq, Nat.reduceMul]
  by_cases h3 : x.s = [42]
  · simp only [F53, encLE, encL, plainR, zN, wr, h3, List.cons.injEq, nmU, List.cons_ne_nil, not_true_eq_false, fxa, fxc, fxE, fxL, fxI, nxE, evO, evR, cellsT, ldCells, mkT, lenA, binPV, Env.init, resV, resT, frT, klT, ownT, intT, O.adds, ownA, rowsA, over, wrOk, keysT, keysA, ne_eq, if_true, if_false, ite_self, Nat.reduceLT, Nat.reduceSub, Nat.reduceBEq, Nat.reduceEqDiff, Nat.reduceAdd, Nat.reduceLeDiff, reduceCtorEq, Nat.reduceMul]
  by_cases h4 : x.s = [47]
  · by_cases h5 : y.n = 0
    · simp only [F53, encLE, encL, plainR, zN, wr, h4, h5, c5, List.cons.injEq, nmU, List.cons_ne_nil, not_true_eq_false, fxa, fxc, fxE, fxL, fxI, nxE, evO, evR, cellsT, ldCells, mkT, lenA, binPV, Env.init, resV, resT, frT, klT, ownT, intT, O.adds, ownA, rowsA, over, wrOk, keysT, keysA, ne_eq, if_true, if_false, ite_self, Nat.reduceLT, Nat.reduceSub, Nat.reduceBEq, Nat.reduceEqDiff, Nat.reduceAdd, Nat.reduceLeDiff, reduceCtorEq, Nat.reduceMul]
    · simp only [F53, encLE, encL, plainR, zN, wr, h4, h5, c5, List.cons.injEq, nmU, List.cons_ne_nil, not_true_eq_false, fxa, fxc, fxE, fxL, fxI, nxE, evO, evR, cellsT, ldCells, mkT, lenA, binPV, Env.init, resV, resT, frT, klT, ownT, intT, O.adds, ownA, rowsA, over, wrOk, keysT, keysA, ne_eq, if_true, if_false, ite_self, Nat.reduceLT, Nat.reduceSub, Nat.reduceBEq, Nat.reduceEqDiff, Nat.reduceAdd, Nat.reduceLeDiff, reduceCtorEq, Nat.reduceMul]
  by_cases h6 : x.s = [60]
  · simp only [F53, encLE, encL, plainR, zN, wr, h6, t1, hn1, truthN, zP, List.cons.injEq, nmU, List.cons_ne_nil, not_true_eq_false, fxa, fxc, fxE, fxL, fxI, nxE, evO, evR, cellsT, ldCells, mkT, lenA, binPV, Env.init, resV, resT, frT, klT, ownT, intT, O.adds, ownA, rowsA, over, wrOk, keysT, keysA, ne_eq, if_true, if_false, ite_self, Nat.reduceLT, Nat.reduceSub, Nat.reduceBEq, Nat.reduceEqDiff, Nat.reduceAdd, Nat.reduceLeDiff, reduceCtorEq, Nat.reduceMul]
  by_cases h7 : x.s = [61, 61]
  · simp only [F53, encLE, encL, plainR, zN, wr, h7, t2, hn2, truthN, zP, List.cons.injEq, nmU, List.cons_ne_nil, not_true_eq_false, fxa, fxc, fxE, fxL, fxI, nxE, evO, evR, cellsT, ldCells, mkT, lenA, binPV, Env.init, resV, resT, frT, klT, ownT, intT, O.adds, ownA, rowsA, over, wrOk, keysT, keysA, ne_eq, if_true, if_false, ite_self, Nat.reduceLT, Nat.reduceSub, Nat.reduceBEq, Nat.reduceEqDiff, Nat.reduceAdd, Nat.reduceLeDiff, reduceCtorEq, Nat.reduceMul]
  · simp only [F53, encLE, encL, plainR, zN, wr, h1, h2, h3, h4, h6, h7, List.cons.injEq, nmU, List.cons_ne_nil, not_true_eq_false, fxa, fxc, fxE, fxL, fxI, nxE, evO, evR, cellsT, ldCells, mkT, lenA, binPV, Env.init, resV, resT, frT, klT, ownT, intT, O.adds, ownA, rowsA, over, wrOk, keysT, keysA, ne_eq, if_true, if_false, ite_self, Nat.reduceLT, Nat.reduceSub, Nat.reduceBEq, Nat.reduceEqDiff, Nat.reduceAdd, Nat.reduceLeDiff, reduceCtorEq, Nat.reduceMul]
theorem ask_ok {x y : Nd} (hx : x.Ok) : eP S 39 [.g (encN x), .g (encN y)] = some (encLE (askR x y)) := by
  refine x_fn (orcS (by decide)) (fc := F39) rfl rfl ?_
  have c1 := plain_ok 1
  have c3 := plain_ok 3
  have c5 := plain_ok 5
  have cp := pick_ok (x := x) (y := y) hx
  have co := out_ok x y
  obtain ⟨⟨⟨pk, ps, pl, pa, ⟨n1, n2, n3, n4, n5, n6⟩⟩, pe⟩, hp⟩ : ∃ z, pickR x y = z := ⟨_, rfl⟩
  obtain ⟨⟨⟨ok, os, ol, oa, ⟨m1, m2, m3, m4, m5, m6⟩⟩, oe⟩, ho⟩ : ∃ z, outR x y = z := ⟨_, rfl⟩
  unfold askR
  rw [hp] at cp ⊢
  rw [ho] at co ⊢
  simp only [encN, encLE, encL] at cp co
  simp only [encLE, encL, plainR, zN, List.map_nil] at c1 c3 c5
  by_cases h1 : x.k = 3 ∧ y.k = 2
  · obtain ⟨h1, h2⟩ := h1
    by_cases h3 : x.lv = y.lv
    · simp only [F39, encLE, encL, plainR, noR, p0, zN, h1, h2, h3, c1, Int.reduceEq, not_true_eq_false, fxa, fxc, fxE, fxL, fxI, nxE, evO, evR, cellsT, ldCells, mkT, lenA, binPV, Env.init, resV, resT, frT, klT, ownT, intT, O.adds, ownA, rowsA, over, wrOk, keysT, keysA, ne_eq, if_true, if_false, ite_self, Nat.reduceLT, Nat.reduceSub, Nat.reduceBEq, Nat.reduceEqDiff, Nat.reduceAdd, Nat.reduceLeDiff, reduceCtorEq, Nat.reduceMul]
    · simp only [F39, encLE, encL, plainR, noR, p0, zN, h1, h2, h3, c1, Int.reduceEq, not_true_eq_false, fxa, fxc, fxE, fxL, fxI, nxE, evO, evR, cellsT, ldCells, mkT, lenA, binPV, Env.init, resV, resT, frT, klT, ownT, intT, O.adds, ownA, rowsA, over, wrOk, keysT, keysA, ne_eq, if_true, if_false, ite_self, Nat.reduceLT, Nat.reduceSub, Nat.reduceBEq, Nat.reduceEqDiff, Nat.reduceAdd, Nat.reduceLeDiff, reduceCtorEq, Nat.reduceMul]
  by_cases h2 : x.k = 9 ∧ y.k = 8
  · obtain ⟨h2, h3⟩ := h2
    rw [h2, h3] at cp
    simp only [F39, encLE, encL, plainR, noR, p0, zN, h2, h3, cp, Int.reduceEq, not_true_eq_false, fxa, fxc, fxE, fxL, fxI, nxE, evO, evR, cellsT, ldCells, mkT, lenA, binPV, Env.init, resV, resT, frT, klT, ownT, intT, O.adds, ownA, rowsA, over, wrOk, keysT, keysA, ne_eq, if_true, if_false, ite_self, Nat.reduceLT, Nat.reduceSub, Nat.reduceBEq, Nat.reduceEqDiff, Nat.reduceAdd, Nat.reduceLeDiff, reduceCtorEq, Nat.reduceMul]
  by_cases h3 : x.k = 11 ∧ y.k = 10
  · obtain ⟨h3, h4⟩ := h3
    simp only [F39, encLE, encL, plainR, noR, p0, zN, h3, h4, c3, Int.reduceEq, not_true_eq_false, fxa, fxc, fxE, fxL, fxI, nxE, evO, evR, cellsT, ldCells, mkT, lenA, binPV, Env.init, resV, resT, frT, klT, ownT, intT, O.adds, ownA, rowsA, over, wrOk, keysT, keysA, ne_eq, if_true, if_false, ite_self, Nat.reduceLT, Nat.reduceSub, Nat.reduceBEq, Nat.reduceEqDiff, Nat.reduceAdd, Nat.reduceLeDiff, reduceCtorEq, Nat.reduceMul]
  by_cases h4 : x.k = 12 ∧ y.k = 10
  · obtain ⟨h4, h5⟩ := h4
    rw [h4, h5] at co
    simp only [F39, encLE, encL, plainR, noR, p0, zN, h4, h5, co, Int.reduceEq, not_true_eq_false, fxa, fxc, fxE, fxL, fxI, nxE, evO, evR, cellsT, ldCells, mkT, lenA, binPV, Env.init, resV, resT, frT, klT, ownT, intT, O.adds, ownA, rowsA, over, wrOk, keysT, keysA, ne_eq, if_true, if_false, ite_self, Nat.reduceLT, Nat.reduceSub, Nat.reduceBEq, Nat.reduceEqDiff, Nat.reduceAdd, Nat.reduceLeDiff, reduceCtorEq, Nat.reduceMul]
  have g1 : (decide (x.k = 3) && decide (y.k = 2)) = false := by simpa using h1
  have g2 : (decide (x.k = 9) && decide (y.k = 8)) = false := by simpa using h2
  have g3 : (decide (x.k = 11) && decide (y.k = 10)) = false := by simpa using h3
  have g4 : (decide (x.k = 12) && decide (y.k = 10)) = false := by simpa using h4
  simp only [F39, encLE, encL, plainR, noR, p0, zN, h1, h2, h3, h4, g1, g2, g3, g4, c5, Int.reduceEq, not_true_eq_false, fxa, fxc, fxE, fxL, fxI, nxE, evO, evR, cellsT, ldCells, mkT, lenA, binPV, Env.init, resV, resT, frT, klT, ownT, intT, O.adds, ownA, rowsA, over, wrOk, keysT, keysA, ne_eq, if_true, if_false, ite_self, Nat.reduceLT, Nat.reduceSub, Nat.reduceBEq, Nat.reduceEqDiff, Nat.reduceAdd, Nat.reduceLeDiff, reduceCtorEq, Nat.reduceMul]
theorem of1_ok (i j : Int) (a b : Nd) (ka kb : Key) (σ : St) (ha : σ.bs ka = some (.var ((encN a).map .p))) (hb : σ.bs kb = some (.var ((encN b).map .p))) :
    eS S (.f 33) [.a (.p (.i .i64 i)), .a (.p (.i .i64 j)), .a (.ptr ka 0 0), .a (.ptr kb 0 0)] σ = some (.a (.p (.b (decide (cls a.k = i) && decide (cls b.k = j)))), σ) := by
  have c1 := class_ok a.k
  have c2 := class_ok b.k
  simp only [encN, List.map_cons, List.map_nil] at ha hb
  refine x_fnX (fc := F33) rfl rfl ?_
  cases h1 : decide (cls a.k = i) with
  | false => simp only [F33, ha, hb, c1, c2, h1, fxa, fxc, fxE, fxL, fxI, nxE, evO, evR, cellsT, ldCells, mkT, lenA, binPV, Env.init, resV, resT, frT, klT, ownT, intT, O.adds, ownA, rowsA, over, wrOk, keysT, keysA, ne_eq, if_true, if_false, ite_self, Nat.reduceLT, Nat.reduceSub, Nat.reduceBEq, Nat.reduceEqDiff, Nat.reduceAdd, Nat.reduceLeDiff, reduceCtorEq, Nat.reduceMul]
  | true => simp only [F33, ha, hb, c1, c2, h1, fxa, fxc, fxE, fxL, fxI, nxE, evO, evR, cellsT, ldCells, mkT, lenA, binPV, Env.init, resV, resT, frT, klT, ownT, intT, O.adds, ownA, rowsA, over, wrOk, keysT, keysA, ne_eq, if_true, if_false, ite_self, Nat.reduceLT, Nat.reduceSub, Nat.reduceBEq, Nat.reduceEqDiff, Nat.reduceAdd, Nat.reduceLeDiff, reduceCtorEq, Nat.reduceMul]
theorem of2_ok (i : Int) (a b : Nd) (ka kb : Key) (σ : St) (ha : σ.bs ka = some (.var ((encN a).map .p))) (hb : σ.bs kb = some (.var ((encN b).map .p))) :
    eS S (.f 35) [.a (.p (.i .i64 i)), .a (.ptr ka 0 0), .a (.ptr kb 0 0)] σ = some (.a (.p (.b (decide (cls a.k = i) || decide (cls b.k = i)))), σ) := by
  have c1 := class_ok a.k
  have c2 := class_ok b.k
  simp only [encN, List.map_cons, List.map_nil] at ha hb
  refine x_fnX (fc := F35) rfl rfl ?_
  cases h1 : decide (cls a.k = i) with
  | false => simp only [F35, ha, hb, c1, c2, h1, fxa, fxc, fxE, fxL, fxI, nxE, evO, evR, cellsT, ldCells, mkT, lenA, binPV, Env.init, resV, resT, frT, klT, ownT, intT, O.adds, ownA, rowsA, over, wrOk, keysT, keysA, ne_eq, if_true, if_false, ite_self, Nat.reduceLT, Nat.reduceSub, Nat.reduceBEq, Nat.reduceEqDiff, Nat.reduceAdd, Nat.reduceLeDiff, reduceCtorEq, Nat.reduceMul]
  | true => simp only [F35, ha, hb, c1, c2, h1, fxa, fxc, fxE, fxL, fxI, nxE, evO, evR, cellsT, ldCells, mkT, lenA, binPV, Env.init, resV, resT, frT, klT, ownT, intT, O.adds, ownA, rowsA, over, wrOk, keysT, keysA, ne_eq, if_true, if_false, ite_self, Nat.reduceLT, Nat.reduceSub, Nat.reduceBEq, Nat.reduceEqDiff, Nat.reduceAdd, Nat.reduceLeDiff, reduceCtorEq, Nat.reduceMul]
theorem Of_ok {a b : Nd} (ha : a.Ok) (hb : b.Ok) : eP S 14 [.g (encN a), .g (encN b)] = some (encLE (ofR a b)) := by
  have ca := class_ok a.k
  have cb := class_ok b.k
  have c8 := plain_ok 8
  have c6 := plain_ok 6
  have cs8 := swapped_ok (plainR 8)
  have pab := pass_ok a b
  have pba := pass_ok b a
  have spba := swapped_ok (passR b a)
  have aab := ask_ok (x := a) (y := b) ha
  have aba := ask_ok (x := b) (y := a) hb
  have saba := swapped_ok (askR b a)
  obtain ⟨⟨⟨q1, q2, q3, q4, ⟨q5, q6, q7, q8, q9, q10⟩⟩, qe⟩, hq⟩ : ∃ z, passR a b = z := ⟨_, rfl⟩
  obtain ⟨⟨⟨r1, r2, r3, r4, ⟨r5, r6, r7, r8, r9, r10⟩⟩, re⟩, hr⟩ : ∃ z, passR b a = z := ⟨_, rfl⟩
  obtain ⟨⟨⟨s1, s2, s3, s4, ⟨s5, s6, s7, s8, s9, s10⟩⟩, se⟩, hs⟩ : ∃ z, askR a b = z := ⟨_, rfl⟩
  obtain ⟨⟨⟨t1, t2, t3, t4, ⟨t5, t6, t7, t8, t9, t10⟩⟩, te⟩, ht⟩ : ∃ z, askR b a = z := ⟨_, rfl⟩
  rw [hq] at pab
  rw [hr] at pba spba
  rw [hs] at aab
  rw [ht] at aba saba
  obtain ⟨⟨⟨u1, u2, u3, u4, ⟨u5, u6, u7, u8, u9, u10⟩⟩, ue⟩, hu⟩ : ∃ z, swapR (⟨r1, r2, r3, r4, ⟨r5, r6, r7, r8, r9, r10⟩⟩, re) = z := ⟨_, rfl⟩
  obtain ⟨⟨⟨w1, w2, w3, w4, ⟨w5, w6, w7, w8, w9, w10⟩⟩, we⟩, hw⟩ : ∃ z, swapR (⟨t1, t2, t3, t4, ⟨t5, t6, t7, t8, t9, t10⟩⟩, te) = z := ⟨_, rfl⟩
  rw [hu] at spba
  rw [hw] at saba
  have e8 : swapR (plainR 8) = (⟨8, true, 0, 0, zN⟩, 0) := rfl
  rw [e8] at cs8
  simp only [encLE, encL, encN, plainR, zN, List.map_nil] at c8 c6 cs8 pab pba spba aab aba saba
  have o1 := fun i j σ (h1 : σ.bs (2, 0) = some (.var ((encN a).map .p))) h2 => of1_ok i j a b (2, 0) (3, 1) σ h1 h2
  have o2 := fun i σ (h1 : σ.bs (2, 0) = some (.var ((encN a).map .p))) h2 => of2_ok i a b (2, 0) (3, 1) σ h1 h2
  obtain ⟨σ1, hσ1⟩ : ∃ σ1, σ1 = ((St.empty.add 2 (.var ((encN a).map .p))).add 3 (.var ((encN b).map .p))).add 4 (.var [.p (.i .i64 0), .p (.b false), .p (.i .i64 0), .p (.i .i64 0), .p (.i .i64 0), .p (.i .i64 0), .p (.i .i64 0), .p (.s []), .nil, .nil]) := ⟨_, rfl⟩
  have b2 : σ1.bs (2, 0) = some (.var ((encN a).map .p)) := by rw [hσ1]; simp [add_bs, add_clk, empty_clk]
  have b3 : σ1.bs (3, 1) = some (.var ((encN b).map .p)) := by rw [hσ1]; simp [add_bs, add_clk, empty_clk]
  have k0 := o2 0 σ1 b2 b3
  have k33 := o1 3 3 σ1 b2 b3
  have k12 := o1 1 2 σ1 b2 b3
  have k21 := o1 2 1 σ1 b2 b3
  rw [hσ1] at k0 k33 k12 k21
  simp only [encN, List.map_cons, List.map_nil] at k0 k33 k12 k21
  unfold ofR
  rw [hq, hr, hs, ht]
  refine x_fn (orcS (by decide)) (fc := F14) rfl rfl ?_
  by_cases h0 : cls a.k = 0 ∨ cls b.k = 0
  · have d0 : (decide (cls a.k = 0) || decide (cls b.k = 0)) = true := by simpa using h0
    rw [d0] at k0
    simp only [F14, capsOf, encLE, encL, noR, p0, zN, h0, k0, fxa, fxc, fxE, fxL, fxI, nxE, evO, evR, cellsT, ldCells, mkT, lenA, binPV, Env.init, resV, resT, frT, klT, ownT, intT, O.adds, ownA, rowsA, over, wrOk, keysT, keysA, ne_eq, if_true, if_false, ite_self, Nat.reduceLT, Nat.reduceSub, Nat.reduceBEq, Nat.reduceEqDiff, Nat.reduceAdd, Nat.reduceLeDiff, reduceCtorEq, Nat.reduceMul]
  have d0 : (decide (cls a.k = 0) || decide (cls b.k = 0)) = false := by simpa using h0
  rw [d0] at k0
  have h0a : ¬ cls a.k = 0 := fun h => h0 (.inl h)
  have h0b : ¬ cls b.k = 0 := fun h => h0 (.inr h)
  by_cases h1 : cls a.k = 4
  · simp only [F14, capsOf, encLE, encL, plainR, zN, h0a, h0b, h1, k0, ca, c8, Int.reduceEq, or_self, false_or, or_false, not_false_eq_true, not_true_eq_false, fxa, fxc, fxE, fxL, fxI, nxE, evO, evR, cellsT, ldCells, mkT, lenA, binPV, Env.init, resV, resT, frT, klT, ownT, intT, O.adds, ownA, rowsA, over, wrOk, keysT, keysA, ne_eq, if_true, if_false, ite_self, Nat.reduceLT, Nat.reduceSub, Nat.reduceBEq, Nat.reduceEqDiff, Nat.reduceAdd, Nat.reduceLeDiff, reduceCtorEq, Nat.reduceMul]
  by_cases h2 : cls b.k = 4
  · simp only [F14, capsOf, encLE, encL, plainR, zN, swapR, h0a, h0b, h1, h2, k0, ca, cb, c8, cs8, Int.reduceEq, or_self, false_or, or_false, not_false_eq_true, not_true_eq_false, fxa, fxc, fxE, fxL, fxI, nxE, evO, evR, cellsT, ldCells, mkT, lenA, binPV, Env.init, resV, resT, frT, klT, ownT, intT, O.adds, ownA, rowsA, over, wrOk, keysT, keysA, ne_eq, if_true, if_false, ite_self, Nat.reduceLT, Nat.reduceSub, Nat.reduceBEq, Nat.reduceEqDiff, Nat.reduceAdd, Nat.reduceLeDiff, reduceCtorEq, Nat.reduceMul]
  by_cases h3 : cls a.k = 3 ∧ cls b.k = 3 ∧ a.lv = b.lv ∧ a.k = b.k
  · obtain ⟨h3, h4, h5, h6⟩ := h3
    have d3 : (decide (cls a.k = 3) && decide (cls b.k = 3)) = true := by simp [h3, h4]
    rw [d3] at k33
    have h43 : ¬ (3 : Int) = 4 := by decide
    have h03 : ¬ ((3 : Int) = 0 ∨ (3 : Int) = 0) := by decide
    rw [h6] at h3 ca k0 k33
    rw [h5] at k0 k33
    simp only [F14, capsOf, encLE, encL, plainR, zN, h3, h4, h5, h6, h43, h03, k0, k33, ca, cb, c6, Int.reduceEq, or_self, false_or, or_false, not_false_eq_true, not_true_eq_false, fxa, fxc, fxE, fxL, fxI, nxE, evO, evR, cellsT, ldCells, mkT, lenA, binPV, Env.init, resV, resT, frT, klT, ownT, intT, O.adds, ownA, rowsA, over, wrOk, keysT, keysA, ne_eq, if_true, if_false, ite_self, Nat.reduceLT, Nat.reduceSub, Nat.reduceBEq, Nat.reduceEqDiff, Nat.reduceAdd, Nat.reduceLeDiff, reduceCtorEq, Nat.reduceMul]
  have d33 : ((decide (cls a.k = 3) && decide (cls b.k = 3)) = true ∧ a.lv = b.lv ∧ a.k = b.k) ↔ False := by simp; intro x y; exact fun z w => h3 ⟨x, y, z, w⟩
  obtain ⟨v33, hv33⟩ : ∃ v, (decide (cls a.k = 3) && decide (cls b.k = 3)) = v := ⟨_, rfl⟩
  rw [hv33] at k33 d33
  have g33 : ∀ {α : Type} (x y : α), (if ((decide (cls a.k = 3) && decide (cls b.k = 3)) && decide (a.lv = b.lv) && decide (a.k = b.k)) = true then x else y) = y := by
    intro α x y; rw [if_neg]; simp; intro x y; exact fun z w => h3 ⟨x, y, z, w⟩
  by_cases h4 : cls a.k = 3
  · by_cases h5 : cls b.k = 3
    · have hv : v33 = true := by rw [← hv33]; simp [h4, h5]
      rw [hv] at k33
      by_cases h6 : a.lv ≤ b.lv
      · by_cases h7 : a.lv = b.lv
        · have h8 : ¬ a.k = b.k := fun h => h3 ⟨h4, h5, h7, h⟩
          rw [h7] at k0 k33 pab
          simp only [F14, capsOf, encLE, encL, h0a, h0b, h1, h2, h4, h5, h7, h8, Int.le_refl, k0, k33, ca, cb, pab, true_or, or_true, Int.reduceEq, or_self, false_or, or_false, not_false_eq_true, not_true_eq_false, fxa, fxc, fxE, fxL, fxI, nxE, evO, evR, cellsT, ldCells, mkT, lenA, binPV, Env.init, resV, resT, frT, klT, ownT, intT, O.adds, ownA, rowsA, over, wrOk, keysT, keysA, ne_eq, if_true, if_false, ite_self, Nat.reduceLT, Nat.reduceSub, Nat.reduceBEq, Nat.reduceEqDiff, Nat.reduceAdd, Nat.reduceLeDiff, reduceCtorEq, Nat.reduceMul]
        · simp only [F14, capsOf, encLE, encL, h0a, h0b, h1, h2, h4, h5, h6, h7, k0, k33, ca, cb, pab, true_or, or_true, Int.reduceEq, or_self, false_or, or_false, not_false_eq_true, not_true_eq_false, fxa, fxc, fxE, fxL, fxI, nxE, evO, evR, cellsT, ldCells, mkT, lenA, binPV, Env.init, resV, resT, frT, klT, ownT, intT, O.adds, ownA, rowsA, over, wrOk, keysT, keysA, ne_eq, if_true, if_false, ite_self, Nat.reduceLT, Nat.reduceSub, Nat.reduceBEq, Nat.reduceEqDiff, Nat.reduceAdd, Nat.reduceLeDiff, reduceCtorEq, Nat.reduceMul]
      · have h7 : ¬ a.lv = b.lv := by omega
        simp only [F14, capsOf, encLE, encL, h0a, h0b, h1, h2, h4, h5, h6, h7, hu, k0, k33, ca, cb, pba, spba, or_self, Int.reduceEq, or_self, false_or, or_false, not_false_eq_true, not_true_eq_false, fxa, fxc, fxE, fxL, fxI, nxE, evO, evR, cellsT, ldCells, mkT, lenA, binPV, Env.init, resV, resT, frT, klT, ownT, intT, O.adds, ownA, rowsA, over, wrOk, keysT, keysA, ne_eq, if_true, if_false, ite_self, Nat.reduceLT, Nat.reduceSub, Nat.reduceBEq, Nat.reduceEqDiff, Nat.reduceAdd, Nat.reduceLeDiff, reduceCtorEq, Nat.reduceMul]
    · have hv : v33 = false := by rw [← hv33]; simp [h5]
      rw [hv] at k33
      simp only [F14, capsOf, encLE, encL, h0a, h0b, h1, h2, h4, h5, k0, k33, ca, cb, pab, true_or, or_true, Int.reduceEq, or_self, false_or, or_false, not_false_eq_true, not_true_eq_false, fxa, fxc, fxE, fxL, fxI, nxE, evO, evR, cellsT, ldCells, mkT, lenA, binPV, Env.init, resV, resT, frT, klT, ownT, intT, O.adds, ownA, rowsA, over, wrOk, keysT, keysA, ne_eq, if_true, if_false, ite_self, Nat.reduceLT, Nat.reduceSub, Nat.reduceBEq, Nat.reduceEqDiff, Nat.reduceAdd, Nat.reduceLeDiff, reduceCtorEq, Nat.reduceMul]
  · have hv : v33 = false := by rw [← hv33]; simp [h4]
    rw [hv] at k33
    by_cases h5 : cls b.k = 3
    · simp only [F14, capsOf, encLE, encL, h0a, h0b, h1, h2, h4, h5, hu, k0, k33, ca, cb, pba, spba, or_self, Int.reduceEq, or_self, false_or, or_false, not_false_eq_true, not_true_eq_false, fxa, fxc, fxE, fxL, fxI, nxE, evO, evR, cellsT, ldCells, mkT, lenA, binPV, Env.init, resV, resT, frT, klT, ownT, intT, O.adds, ownA, rowsA, over, wrOk, keysT, keysA, ne_eq, if_true, if_false, ite_self, Nat.reduceLT, Nat.reduceSub, Nat.reduceBEq, Nat.reduceEqDiff, Nat.reduceAdd, Nat.reduceLeDiff, reduceCtorEq, Nat.reduceMul]
    by_cases h6 : cls a.k = 1 ∧ cls b.k = 2
    · have d6 : (decide (cls a.k = 1) && decide (cls b.k = 2)) = true := by simpa using h6
      rw [d6] at k12
      simp only [F14, capsOf, encLE, encL, h0a, h0b, h1, h2, h4, h5, h6, k0, k33, k12, ca, cb, aab, Int.reduceEq, or_self, false_or, or_false, not_false_eq_true, not_true_eq_false, fxa, fxc, fxE, fxL, fxI, nxE, evO, evR, cellsT, ldCells, mkT, lenA, binPV, Env.init, resV, resT, frT, klT, ownT, intT, O.adds, ownA, rowsA, over, wrOk, keysT, keysA, ne_eq, if_true, if_false, ite_self, Nat.reduceLT, Nat.reduceSub, Nat.reduceBEq, Nat.reduceEqDiff, Nat.reduceAdd, Nat.reduceLeDiff, reduceCtorEq, Nat.reduceMul]
    have d6 : (decide (cls a.k = 1) && decide (cls b.k = 2)) = false := by simpa using h6
    rw [d6] at k12
    by_cases h7 : cls a.k = 2 ∧ cls b.k = 1
    · have d7 : (decide (cls a.k = 2) && decide (cls b.k = 1)) = true := by simpa using h7
      rw [d7] at k21
      simp only [F14, capsOf, encLE, encL, h0a, h0b, h1, h2, h4, h5, h6, h7, hw, k0, k33, k12, k21, ca, cb, aba, saba, Int.reduceEq, or_self, false_or, or_false, not_false_eq_true, not_true_eq_false, fxa, fxc, fxE, fxL, fxI, nxE, evO, evR, cellsT, ldCells, mkT, lenA, binPV, Env.init, resV, resT, frT, klT, ownT, intT, O.adds, ownA, rowsA, over, wrOk, keysT, keysA, ne_eq, if_true, if_false, ite_self, Nat.reduceLT, Nat.reduceSub, Nat.reduceBEq, Nat.reduceEqDiff, Nat.reduceAdd, Nat.reduceLeDiff, reduceCtorEq, Nat.reduceMul]
    · have d7 : (decide (cls a.k = 2) && decide (cls b.k = 1)) = false := by simpa using h7
      rw [d7] at k21
      simp only [F14, capsOf, encLE, encL, noR, p0, zN, h0a, h0b, h1, h2, h4, h5, h6, h7, k0, k33, k12, k21, ca, cb, Int.reduceEq, or_self, false_or, or_false, not_false_eq_true, not_true_eq_false, fxa, fxc, fxE, fxL, fxI, nxE, evO, evR, cellsT, ldCells, mkT, lenA, binPV, Env.init, resV, resT, frT, klT, ownT, intT, O.adds, ownA, rowsA, over, wrOk, keysT, keysA, ne_eq, if_true, if_false, ite_self, Nat.reduceLT, Nat.reduceSub, Nat.reduceBEq, Nat.reduceEqDiff, Nat.reduceAdd, Nat.reduceLeDiff, reduceCtorEq, Nat.reduceMul]
end Go.Proofs.Ytomcceambpneiaa
end
section
set_option linter.unusedSimpArgs false
set_option linter.unusedVariables false
set_option maxHeartbeats 8000000
set_option maxRecDepth 10000
namespace Go.Proofs.Ytomcceambpneiaa
open Go.Fx
def tI (a : Int) : List PV := [.i .i64 7, .i .i64 a, .s [], .l []]
def tOp (s : List UInt8) (a b : Int) : List PV := [.i .i64 8, .i .i64 0, .s s, .l [tI a, tI b]]
def isOp (s : List UInt8) : Prop := s = [43] ∨ s = [45] ∨ s = [42] ∨ s = [47] ∨ s = [60] ∨ s = [61, 61]
def opR (s : List UInt8) (a b : Int) : List PV × Int :=
  if s = [43] then (tI (wr (a + b)), 3) else if s = [45] then (tI (wr (a - b)), 3) else if s = [42] then (tI (wr (a * b)), 3)
  else if s = [47] then (if b = 0 then ([.i .i64 9, .i .i64 0, .s [], .l []], 4) else (tI (wr (a.tdiv b)), 3))
  else if (s = [60] ∧ a < b) ∨ (s = [61, 61] ∧ a = b) then ([.i .i64 4, .i .i64 0, .s [84, 114, 117, 101], .l []], 3) else ([.i .i64 4, .i .i64 0, .s [70, 97, 108, 115, 101], .l []], 3)
def encO (x : List PV × Int) : PT := .t [(true, x.1), (false, [.i .i64 x.2])]
theorem number_ok (a : Int) : eP S 85 [.a (.i .i64 a)] = some (.t [(true, tI a), (false, [.i .i64 3])]) := by
  refine x_fn (orcS (by decide)) (fc := F85) rfl rfl ?_
  simp only [F85, tI, fxa, fxc, fxE, fxL, fxI, nxE, evO, evR, cellsT, ldCells, mkT, lenA, binPV, Env.init, resV, resT, frT, klT, ownT, intT, O.adds, ownA, rowsA, over, wrOk, keysT, keysA, ne_eq, if_true, if_false, ite_self, Nat.reduceLT, Nat.reduceSub, Nat.reduceBEq, Nat.reduceEqDiff, Nat.reduceAdd, Nat.reduceLeDiff, reduceCtorEq, Nat.reduceMul]
theorem fail9_ok : eP S 59 [] = some (.t [(true, [.i .i64 9, .i .i64 0, .s [], .l []]), (false, [.i .i64 4])]) := (eP_some S).2 ⟨3, by kernel_rfl⟩
theorem value_ok (a : Int) : eP S 55 [.g (tI a)] = some (.a (.b true)) := by
  refine x_fn (orcS (by decide)) (fc := F55) rfl rfl ?_
  simp only [F55, tI, Int.reduceEq, fxa, fxc, fxE, fxL, fxI, nxE, evO, evR, cellsT, ldCells, mkT, lenA, binPV, Env.init, resV, resT, frT, klT, ownT, intT, O.adds, ownA, rowsA, over, wrOk, keysT, keysA, ne_eq, if_true, if_false, ite_self, Nat.reduceLT, Nat.reduceSub, Nat.reduceBEq, Nat.reduceEqDiff, Nat.reduceAdd, Nat.reduceLeDiff, reduceCtorEq, Nat.reduceMul]
theorem op_ok {s : List UInt8} {a b : Int} (ha : wf a) (hs : isOp s) : eP S 60 [.a (.s s), .a (.i .i64 a), .a (.i .i64 b)] = some (encO (opR s a b)) := by
  refine x_fn (orcS (by decide)) (fc := F60) rfl rfl ?_
  have n1 := number_ok (wr (a + b))
  have n2 := number_ok (wr (a - b))
  have n3 := number_ok (wr (a * b))
  have n4 := number_ok (wr (a.tdiv b))
  have n5 := fail9_ok
  unfold opR encO
  simp only [tI, wr] at n1 n2 n3 n4
  rcases hs with rfl | rfl | rfl | rfl | rfl | rfl
  · simp only [F60, n1, tI, wr, nmU, List.cons.injEq, and_true, fxa, fxc, fxE, fxL, fxI, nxE, evO, evR, cellsT, ldCells, mkT, lenA, binPV, Env.init, resV, resT, frT, klT, ownT, intT, O.adds, ownA, rowsA, over, wrOk, keysT, keysA, ne_eq, if_true, if_false, ite_self, Nat.reduceLT, Nat.reduceSub, Nat.reduceBEq, Nat.reduceEqDiff, Nat.reduceAdd, Nat.reduceLeDiff, reduceCtorEq, Nat.reduceMul]
  · simp only [F60, n2, tI, wr, nmU, List.cons.injEq, and_true, fxa, fxc, fxE, fxL, fxI, nxE, evO, evR, cellsT, ldCells, mkT, lenA, binPV, Env.init, resV, resT, frT, klT, ownT, intT, O.adds, ownA, rowsA, over, wrOk, keysT, keysA, ne_eq, if_true, if_false, ite_self, Nat.reduceLT, Nat.reduceSub, Nat.reduceBEq, Nat.reduceEqDiff, Nat.reduceAdd, Nat.reduceLeDiff, reduceCtorEq, Nat.reduceMul]
  · simp only [F60, n3, tI, wr, nmU, List.cons.injEq, and_true, fxa, fxc, fxE, fxL, fxI, nxE, evO, evR, cellsT, ldCells, mkT, lenA, binPV, Env.init, resV, resT, frT, klT, ownT, intT, O.adds, ownA, rowsA, over, wrOk, keysT, keysA, ne_eq, if_true, if_false, ite_self, Nat.reduceLT, Nat.reduceSub, Nat.reduceBEq, Nat.reduceEqDiff, Nat.reduceAdd, Nat.reduceLeDiff, reduceCtorEq, Nat.reduceMul]
  · by_cases h0 : b = 0
    · simp only [F60, n5, h0, tI, wr, nmU, List.cons.injEq, and_true, fxa, fxc, fxE, fxL, fxI, nxE, evO, evR, cellsT, ldCells, mkT, lenA, binPV, Env.init, resV, resT, frT, klT, ownT, intT, O.adds, ownA, rowsA, over, wrOk, keysT, keysA, ne_eq, if_true, if_false, ite_self, Nat.reduceLT, Nat.reduceSub, Nat.reduceBEq, Nat.reduceEqDiff, Nat.reduceAdd, Nat.reduceLeDiff, reduceCtorEq, Nat.reduceMul]
    · by_cases h1 : b = -1
      · subst h1
        have e : IntKind.i64.wrap (0 - a) = IntKind.i64.wrap (a.tdiv (-1)) := by rw [Int.tdiv_neg, Int.tdiv_one, Int.zero_sub]
        simp only [F60, n4, e, h0, tI, wr, nmU, Int.reduceNeg, List.cons.injEq, and_true, fxa, fxc, fxE, fxL, fxI, nxE, evO, evR, cellsT, ldCells, mkT, lenA, binPV, Env.init, resV, resT, frT, klT, ownT, intT, O.adds, ownA, rowsA, over, wrOk, keysT, keysA, ne_eq, if_true, if_false, ite_self, Nat.reduceLT, Nat.reduceSub, Nat.reduceBEq, Nat.reduceEqDiff, Nat.reduceAdd, Nat.reduceLeDiff, reduceCtorEq, Nat.reduceMul]
      · simp only [F60, n4, h0, h1, tI, wr, nmU, List.cons.injEq, and_true, fxa, fxc, fxE, fxL, fxI, nxE, evO, evR, cellsT, ldCells, mkT, lenA, binPV, Env.init, resV, resT, frT, klT, ownT, intT, O.adds, ownA, rowsA, over, wrOk, keysT, keysA, ne_eq, if_true, if_false, ite_self, Nat.reduceLT, Nat.reduceSub, Nat.reduceBEq, Nat.reduceEqDiff, Nat.reduceAdd, Nat.reduceLeDiff, reduceCtorEq, Nat.reduceMul]
  · by_cases h : a < b
    · simp only [F60, h, tI, wr, nmU, List.cons.injEq, and_true, or_false, false_or, true_or, or_true, or_self, fxa, fxc, fxE, fxL, fxI, nxE, evO, evR, cellsT, ldCells, mkT, lenA, binPV, Env.init, resV, resT, frT, klT, ownT, intT, O.adds, ownA, rowsA, over, wrOk, keysT, keysA, ne_eq, if_true, if_false, ite_self, Nat.reduceLT, Nat.reduceSub, Nat.reduceBEq, Nat.reduceEqDiff, Nat.reduceAdd, Nat.reduceLeDiff, reduceCtorEq, Nat.reduceMul]
    · simp only [F60, h, tI, wr, nmU, List.cons.injEq, and_true, or_false, false_or, true_or, or_true, or_self, fxa, fxc, fxE, fxL, fxI, nxE, evO, evR, cellsT, ldCells, mkT, lenA, binPV, Env.init, resV, resT, frT, klT, ownT, intT, O.adds, ownA, rowsA, over, wrOk, keysT, keysA, ne_eq, if_true, if_false, ite_self, Nat.reduceLT, Nat.reduceSub, Nat.reduceBEq, Nat.reduceEqDiff, Nat.reduceAdd, Nat.reduceLeDiff, reduceCtorEq, Nat.reduceMul]
  · by_cases h : a = b
    · simp only [F60, h, tI, wr, nmU, List.cons.injEq, and_true, or_false, false_or, true_or, or_true, or_self, fxa, fxc, fxE, fxL, fxI, nxE, evO, evR, cellsT, ldCells, mkT, lenA, binPV, Env.init, resV, resT, frT, klT, ownT, intT, O.adds, ownA, rowsA, over, wrOk, keysT, keysA, ne_eq, if_true, if_false, ite_self, Nat.reduceLT, Nat.reduceSub, Nat.reduceBEq, Nat.reduceEqDiff, Nat.reduceAdd, Nat.reduceLeDiff, reduceCtorEq, Nat.reduceMul]
    · simp only [F60, h, tI, wr, nmU, List.cons.injEq, and_true, or_false, false_or, true_or, or_true, or_self, fxa, fxc, fxE, fxL, fxI, nxE, evO, evR, cellsT, ldCells, mkT, lenA, binPV, Env.init, resV, resT, frT, klT, ownT, intT, O.adds, ownA, rowsA, over, wrOk, keysT, keysA, ne_eq, if_true, if_false, ite_self, Nat.reduceLT, Nat.reduceSub, Nat.reduceBEq, Nat.reduceEqDiff, Nat.reduceAdd, Nat.reduceLeDiff, reduceCtorEq, Nat.reduceMul]
theorem headI_ok (a f : Int) : eP S 82 [.g (tI a), .a (.i .i64 f), .a (.b false)] = some (.a (.b true)) := by
  refine x_fn (orcS (by decide)) (fc := F82) rfl rfl ?_
  simp only [F82, tI, Int.reduceEq, Int.natCast_eq_zero, List.nil_eq, Int.cast_ofNat_Int, Int.reduceLE, Int.reduceLT, Int.reduceToNat, Int.reduceAdd, Int.reduceSub, Int.reduceNeg, fxa, fxc, fxE, fxL, fxI, nxE, evO, evR, cellsT, ldCells, mkT, lenA, binPV, Env.init, resV, resT, frT, klT, ownT, intT, O.adds, ownA, rowsA, over, wrOk, keysT, keysA, ne_eq, if_true, if_false, ite_self, Nat.reduceLT, Nat.reduceSub, Nat.reduceBEq, Nat.reduceEqDiff, Nat.reduceAdd, Nat.reduceLeDiff, reduceCtorEq, Nat.reduceMul]
theorem headO_ok {s : List UInt8} (hs : isOp s) (a b f : Int) : eP S 82 [.g (tOp s a b), .a (.i .i64 f), .a (.b false)] = some (.a (.b true)) := by
  refine x_fn (orcS (by decide)) (fc := F82) rfl rfl ?_
  rcases hs with rfl | rfl | rfl | rfl | rfl | rfl <;> simp only [F82, tOp, Int.reduceEq, nmU, List.cons.injEq, Int.cast_ofNat_Int, Int.reduceLE, Int.reduceLT, Int.reduceToNat, Int.reduceAdd, Int.reduceSub, Int.reduceNeg, fxa, fxc, fxE, fxL, fxI, nxE, evO, evR, cellsT, ldCells, mkT, lenA, binPV, Env.init, resV, resT, frT, klT, ownT, intT, O.adds, ownA, rowsA, over, wrOk, keysT, keysA, ne_eq, if_true, if_false, ite_self, Nat.reduceLT, Nat.reduceSub, Nat.reduceBEq, Nat.reduceEqDiff, Nat.reduceAdd, Nat.reduceLeDiff, reduceCtorEq, Nat.reduceMul]
theorem mayI_ok (a : Int) {f : Int} (hf : 0 ≤ f) : eP S 54 [.g (tI a), .a (.i .i64 f), .a (.b false)] = some (.a (.b true)) := by
  refine x_fn (orcS (by decide)) (fc := F54) rfl rfl ?_
  have h1 := headI_ok a f
  have hf' : ¬ f < 0 := by omega
  simp only [tI] at h1
  simp only [F54, F54b0, x_loop, tI, h1, hf', Int.reduceEq, Int.lt_irrefl, Int.cast_ofNat_Int, Int.reduceLE, Int.reduceLT, Int.reduceToNat, Int.reduceAdd, Int.reduceSub, Int.reduceNeg, fxa, fxc, fxE, fxL, fxI, nxE, evO, evR, cellsT, ldCells, mkT, lenA, binPV, Env.init, resV, resT, frT, klT, ownT, intT, O.adds, ownA, rowsA, over, wrOk, keysT, keysA, ne_eq, if_true, if_false, ite_self, Nat.reduceLT, Nat.reduceSub, Nat.reduceBEq, Nat.reduceEqDiff, Nat.reduceAdd, Nat.reduceLeDiff, reduceCtorEq, Nat.reduceMul]
theorem mayO_ok {s : List UInt8} (hs : isOp s) (a b : Int) {f : Int} (hf : 0 ≤ f) : eP S 54 [.g (tOp s a b), .a (.i .i64 f), .a (.b false)] = some (.a (.b true)) := by
  refine x_fn (orcS (by decide)) (fc := F54) rfl rfl ?_
  have h1 := headO_ok hs a b f
  have h2 := mayI_ok a hf
  have h3 := mayI_ok b hf
  have hf' : ¬ f < 0 := by omega
  simp only [tI, tOp] at h1 h2 h3
  simp only [F54, F54b0, F54b1, x_loop, tI, tOp, h1, h2, h3, hf', wrap_in 1 (by decide), wrap_in 2 (by decide), Int.reduceEq, Int.lt_irrefl, Int.le_refl, Int.cast_ofNat_Int, Int.reduceLE, Int.reduceLT, Int.reduceToNat, Int.reduceAdd, Int.reduceSub, Int.reduceNeg, fxa, fxc, fxE, fxL, fxI, nxE, evO, evR, cellsT, ldCells, mkT, lenA, binPV, Env.init, resV, resT, frT, klT, ownT, intT, O.adds, ownA, rowsA, over, wrOk, keysT, keysA, ne_eq, if_true, if_false, ite_self, Nat.reduceLT, Nat.reduceSub, Nat.reduceBEq, Nat.reduceEqDiff, Nat.reduceAdd, Nat.reduceLeDiff, reduceCtorEq, Nat.reduceMul]
theorem May_ok {s : List UInt8} (hs : isOp s) (a b : Int) {f : Int} (hf : 0 ≤ f) : eP S 41 [.g (tOp s a b), .a (.i .i64 f)] = some (.a (.b true)) := by
  refine x_fn (orcS (by decide)) (fc := F41) rfl rfl ?_
  have h1 := mayO_ok hs a b hf
  simp only [tI, tOp] at h1
  simp only [F41, tI, tOp, h1, fxa, fxc, fxE, fxL, fxI, nxE, evO, evR, cellsT, ldCells, mkT, lenA, binPV, Env.init, resV, resT, frT, klT, ownT, intT, O.adds, ownA, rowsA, over, wrOk, keysT, keysA, ne_eq, if_true, if_false, ite_self, Nat.reduceLT, Nat.reduceSub, Nat.reduceBEq, Nat.reduceEqDiff, Nat.reduceAdd, Nat.reduceLeDiff, reduceCtorEq, Nat.reduceMul]
theorem step9_ok {s : List UInt8} {a b : Int} (ha : wf a) (hs : isOp s) : eP S 42 [.g (tOp s a b)] = some (encO (opR s a b)) := by
  refine x_fn (orcS (by decide)) (fc := F42) rfl rfl ?_
  have h1 := op_ok (b := b) ha hs
  have h2 := value_ok a
  have h3 := value_ok b
  obtain ⟨⟨r, w⟩, hr⟩ : ∃ r, opR s a b = r := ⟨_, rfl⟩
  have hl : ∃ c1 c2 c3 c4, r = [c1, c2, c3, c4] := by
    have : r = (opR s a b).1 := by rw [hr]
    rw [this]; unfold opR tI
    repeat' split
    all_goals exact ⟨_, _, _, _, rfl⟩
  obtain ⟨c1, c2, c3, c4, rfl⟩ := hl
  rw [hr] at h1 ⊢
  simp only [encO] at h1 ⊢
  simp only [tI] at h2 h3
  simp only [F42, tI, tOp, h1, h2, h3, Int.reduceEq, Int.le_refl, Int.cast_ofNat_Int, Int.reduceLE, Int.reduceLT, Int.reduceToNat, Int.reduceAdd, Int.reduceSub, Int.reduceNeg, fxa, fxc, fxE, fxL, fxI, nxE, evO, evR, cellsT, ldCells, mkT, lenA, binPV, Env.init, resV, resT, frT, klT, ownT, intT, O.adds, ownA, rowsA, over, wrOk, keysT, keysA, ne_eq, if_true, if_false, ite_self, Nat.reduceLT, Nat.reduceSub, Nat.reduceBEq, Nat.reduceEqDiff, Nat.reduceAdd, Nat.reduceLeDiff, reduceCtorEq, Nat.reduceMul]
theorem RStep_ok {s : List UInt8} {a b : Int} (ha : wf a) (hs : isOp s) : eP S 22 [.g (tOp s a b)] = some (encO (opR s a b)) := by
  refine x_fn (orcS (by decide)) (fc := F22) rfl rfl ?_
  have h1 := step9_ok (b := b) ha hs
  have h2 := May_ok hs a b (f := 4611686018427387904) (by decide)
  obtain ⟨⟨r, w⟩, hr⟩ : ∃ r, opR s a b = r := ⟨_, rfl⟩
  have hl : ∃ c1 c2 c3 c4, r = [c1, c2, c3, c4] := by
    have : r = (opR s a b).1 := by rw [hr]
    rw [this]; unfold opR tI
    repeat' split
    all_goals exact ⟨_, _, _, _, rfl⟩
  obtain ⟨c1, c2, c3, c4, rfl⟩ := hl
  rw [hr] at h1 ⊢
  simp only [encO, tOp, tI] at h1 h2 ⊢
  simp only [F22, tI, tOp, h1, h2, fxa, fxc, fxE, fxL, fxI, nxE, evO, evR, cellsT, ldCells, mkT, lenA, binPV, Env.init, resV, resT, frT, klT, ownT, intT, O.adds, ownA, rowsA, over, wrOk, keysT, keysA, ne_eq, if_true, if_false, ite_self, Nat.reduceLT, Nat.reduceSub, Nat.reduceBEq, Nat.reduceEqDiff, Nat.reduceAdd, Nat.reduceLeDiff, reduceCtorEq, Nat.reduceMul]
end Go.Proofs.Ytomcceambpneiaa
end
section
set_option linter.unusedSimpArgs false
set_option linter.unusedVariables false
set_option maxHeartbeats 4000000
set_option maxRecDepth 10000
namespace Go.Proofs.Ytomcceambpneiaa
open Go.Fx
theorem fixed14_ok : eP S 11 [] = some (.a (.b true)) := (eP_some S).2 ⟨60, by kernel_rfl⟩
end Go.Proofs.Ytomcceambpneiaa
end
section
set_option linter.unusedSimpArgs false
set_option linter.unusedVariables false
set_option maxHeartbeats 4000000
set_option maxRecDepth 10000
namespace Go.Proofs.Ytomcceambpneiaa
open Go.Fx
def isFree (x : Nd) : Bool := decide (x.k = 0)
def Nt.at (n : Nt) : Nat := match n.ns.findIdx? isFree with | some i => i | none => n.ns.length
end Go.Proofs.Ytomcceambpneiaa
end
section
set_option linter.unusedSimpArgs false
set_option linter.unusedVariables false
set_option maxHeartbeats 4000000
set_option maxRecDepth 10000
namespace Go.Proofs.Ytomcceambpneiaa
open Go.Fx
def tl (l : List Nd) : Nat → Nat
  | 0 => 0
  | k + 1 => if isFree (l.getD k zN) then tl l k else k + 1
def trim (l : List Nd) : List Nd := l.take (tl l l.length)
def Nt.free (n : Nt) (i : Int) : Nt := { n with ns := trim (n.ns.set i.toNat zN) }
end Go.Proofs.Ytomcceambpneiaa
end
section
set_option linter.unusedSimpArgs false
set_option linter.unusedVariables false
set_option maxHeartbeats 4000000
set_option maxRecDepth 10000
namespace Go.Proofs.Ytomcceambpneiaa
open Go.Fx
instance (i : Int) : Decidable (wf i) := by unfold wf; infer_instance
end Go.Proofs.Ytomcceambpneiaa
end
namespace Go.Proofs.Ytomcceambpneiaa
open Go.Fx
theorem evI_cl {S : Seat} (d : Option Nat) (o : O) (ys : List (Nat × Nat)) (ns : List Nat) (e : Env) (σ : St) : evI (eP S) (eS S) S.sp ⟨d, none, o, .cl ys ns⟩ e σ = (evO (eP S) (eS S) S.sp d e σ o).bind fun x => if clOk e σ x.2 ys ns = true then some (e.putD d x.1, x.2) else none := rfl
end Go.Proofs.Ytomcceambpneiaa
section
set_option linter.unusedSimpArgs false
set_option linter.unusedVariables false
set_option maxHeartbeats 8000000
set_option maxRecDepth 10000
namespace Go.Proofs.Ytomcceambpneiaa
open Go.Fx
def opX (s : List UInt8) (lv : Int) : Nd := ⟨11, lv, 0, s, [], []⟩
def halfX (s : List UInt8) (lv a : Int) : Nd := ⟨12, lv, a, s, [], []⟩
def intX (lv a : Int) : Nd := ⟨10, lv, a, [], [], []⟩
theorem cls11 : cls 11 = 1 := by decide
theorem cls12 : cls 12 = 1 := by decide
theorem cls10 : cls 10 = 2 := by decide
theorem of_op (s : List UInt8) (lv l2 a : Int) : ofR (opX s lv) (intX l2 a) = plainR 3 := by
  unfold ofR askR opX intX
  simp only [cls11, cls10]
  simp
theorem of_half (s : List UInt8) (lv l2 a b : Int) : ofR (halfX s lv a) (intX l2 b) = outR (halfX s lv a) (intX l2 b) := by
  unfold ofR askR halfX intX
  simp only [cls12, cls10]
  simp
theorem opX_Ok {s : List UInt8} (hs : s.length ≤ 10) {lv : Int} (h : wf lv) : (opX s lv).Ok := ⟨by show wf 11; decide, h, by show wf 0; decide, by show s.length ≤ _; omega, by simp [opX], by simp [opX], by simp [opX], by simp [opX]⟩
theorem halfX_Ok {s : List UInt8} (hs : s.length ≤ 10) {lv a : Int} (h : wf lv) (ha : wf a) : (halfX s lv a).Ok := ⟨by show wf 12; decide, h, ha, by show s.length ≤ _; omega, by simp [halfX], by simp [halfX], by simp [halfX], by simp [halfX]⟩
theorem intX_Ok {lv a : Int} (h : wf lv) (ha : wf a) : (intX lv a).Ok := ⟨by show wf 10; decide, h, ha, by simp [intX], by simp [intX], by simp [intX], by simp [intX], by simp [intX]⟩
theorem ruleNumbers_law {op a b lv : Int} (ha : wf a) (hb : wf b) (hl : wf lv) : eP S 7 [.a (.i .i64 op), .g [.i .i64 a, .i .i64 b], .a (.i .i64 lv)] = some (.a (.b true)) := by
  have f0 := fixed14_ok
  refine x_fn (orcS (by decide)) (fc := F7) rfl rfl ?_
  by_cases h1 : op < 0
  · simp only [F7, f0, h1, fxa, fxc, fxE, fxL, fxI, nxE, evO, evR, cellsT, ldCells, mkT, lenA, binPV, Env.init, resV, resT, frT, klT, ownT, intT, O.adds, ownA, rowsA, over, wrOk, keysT, keysA, ne_eq, if_true, if_false, ite_self, Nat.reduceLT, Nat.reduceSub, Nat.reduceBEq, Nat.reduceEqDiff, Nat.reduceAdd, Nat.reduceLeDiff, reduceCtorEq, Nat.reduceMul]
  by_cases h2 : op > 5
  · simp only [F7, f0, h1, h2, fxa, fxc, fxE, fxL, fxI, nxE, evO, evR, cellsT, ldCells, mkT, lenA, binPV, Env.init, resV, resT, frT, klT, ownT, intT, O.adds, ownA, rowsA, over, wrOk, keysT, keysA, ne_eq, if_true, if_false, ite_self, Nat.reduceLT, Nat.reduceSub, Nat.reduceBEq, Nat.reduceEqDiff, Nat.reduceAdd, Nat.reduceLeDiff, reduceCtorEq, Nat.reduceMul]
  by_cases h3 : lv < 0
  · simp only [F7, f0, h1, h2, h3, fxa, fxc, fxE, fxL, fxI, nxE, evO, evR, cellsT, ldCells, mkT, lenA, binPV, Env.init, resV, resT, frT, klT, ownT, intT, O.adds, ownA, rowsA, over, wrOk, keysT, keysA, ne_eq, if_true, if_false, ite_self, Nat.reduceLT, Nat.reduceSub, Nat.reduceBEq, Nat.reduceEqDiff, Nat.reduceAdd, Nat.reduceLeDiff, reduceCtorEq, Nat.reduceMul]
  by_cases h4 : lv > 60
  · simp only [F7, f0, h1, h2, h3, h4, fxa, fxc, fxE, fxL, fxI, nxE, evO, evR, cellsT, ldCells, mkT, lenA, binPV, Env.init, resV, resT, frT, klT, ownT, intT, O.adds, ownA, rowsA, over, wrOk, keysT, keysA, ne_eq, if_true, if_false, ite_self, Nat.reduceLT, Nat.reduceSub, Nat.reduceBEq, Nat.reduceEqDiff, Nat.reduceAdd, Nat.reduceLeDiff, reduceCtorEq, Nat.reduceMul]
  have key : ∀ s : List UInt8, isOp s → s.length ≤ 10 → (∃ k : Nat, op = k ∧ ([[PV.s [43]], [.s [45]], [.s [42]], [.s [47]], [.s [60]], [.s [61, 61]]] : List (List PV))[k]? = some [.s s] ∧ k < 6) →
      wp S false F7.body (Env.init ([PT.a (.i .i64 op), PT.g [.i .i64 a, .i .i64 b], PT.a (.i .i64 lv)].map ofPT)) .empty (RetP F7.res (.a (.b true))) := by
    rintro s hs hsl ⟨k, rfl, hk, hk6⟩
    have c1 := Of_ok (opX_Ok hsl hl) (intX_Ok (lv := 0) (by decide) ha)
    have c2 := Of_ok (halfX_Ok hsl hl ha) (intX_Ok (lv := 3) (by decide) hb)
    have c3 := RStep_ok (b := b) ha hs
    rw [of_op] at c1
    rw [of_half] at c2
    have hlt : ((k : Nat) : Int) < 6 := by omega
    have hge : (0 : Int) ≤ ((k : Nat) : Int) := by omega
    obtain ⟨⟨p, e⟩, hp⟩ : ∃ p, outR (halfX s lv a) (intX 3 b) = p := ⟨_, rfl⟩
    obtain ⟨⟨r, w⟩, hr⟩ : ∃ r, opR s a b = r := ⟨_, rfl⟩
    rw [hp] at c2
    rw [hr] at c3
    have facts : e = 0 ∧ ∃ c1 c2 : Int, ∃ c4 : List UInt8, ∃ c5 : List (List PV), r = [.i .i64 c1, .i .i64 c2, .s c4, .l c5] ∧ ((w = 4 ∧ p.k = 5) ∨ (w ≠ 4 ∧ p.k = 4 ∧ p.nd.lv = lv ∧ (decide (p.nd.k = 10) = decide (c1 = 7)) ∧ p.nd.n = c2 ∧ p.nd.s = c4)) := by
      rcases hs with rfl | rfl | rfl | rfl | rfl | rfl
      · have e1 : outR (halfX [43] lv a) (intX 3 b) = (⟨4, false, 0, 0, ⟨10, lv, wr (a + b), [], [], []⟩⟩, 0) := by unfold outR outN halfX intX truthN; simp
        have e2 : opR [43] a b = (tI (wr (a + b)), 3) := by unfold opR; simp
        rw [e1] at hp; rw [e2] at hr; cases hp; cases hr
        exact ⟨rfl, 7, _, [], [], rfl, .inr ⟨by decide, rfl, rfl, rfl, rfl, rfl⟩⟩
      · have e1 : outR (halfX [45] lv a) (intX 3 b) = (⟨4, false, 0, 0, ⟨10, lv, wr (a - b), [], [], []⟩⟩, 0) := by unfold outR outN halfX intX truthN; simp
        have e2 : opR [45] a b = (tI (wr (a - b)), 3) := by unfold opR; simp
        rw [e1] at hp; rw [e2] at hr; cases hp; cases hr
        exact ⟨rfl, 7, _, [], [], rfl, .inr ⟨by decide, rfl, rfl, rfl, rfl, rfl⟩⟩
      · have e1 : outR (halfX [42] lv a) (intX 3 b) = (⟨4, false, 0, 0, ⟨10, lv, wr (a * b), [], [], []⟩⟩, 0) := by unfold outR outN halfX intX truthN; simp
        have e2 : opR [42] a b = (tI (wr (a * b)), 3) := by unfold opR; simp
        rw [e1] at hp; rw [e2] at hr; cases hp; cases hr
        exact ⟨rfl, 7, _, [], [], rfl, .inr ⟨by decide, rfl, rfl, rfl, rfl, rfl⟩⟩
      · by_cases hb0 : b = 0
        · have e1 : outR (halfX [47] lv a) (intX 3 b) = plainR 5 := by unfold outR halfX intX; simp [hb0]
          have e2 : opR [47] a b = ([.i .i64 9, .i .i64 0, .s [], .l []], 4) := by unfold opR; simp [hb0]
          rw [e1] at hp; rw [e2] at hr; cases hp; cases hr
          exact ⟨rfl, 9, 0, [], [], rfl, .inl ⟨rfl, rfl⟩⟩
        · have e1 : outR (halfX [47] lv a) (intX 3 b) = (⟨4, false, 0, 0, ⟨10, lv, wr (a.tdiv b), [], [], []⟩⟩, 0) := by unfold outR outN halfX intX; simp [hb0]
          have e2 : opR [47] a b = (tI (wr (a.tdiv b)), 3) := by unfold opR; simp [hb0]
          rw [e1] at hp; rw [e2] at hr; cases hp; cases hr
          exact ⟨rfl, 7, _, [], [], rfl, .inr ⟨by decide, rfl, rfl, rfl, rfl, rfl⟩⟩
      · by_cases hc : a < b
        · have e1 : outR (halfX [60] lv a) (intX 3 b) = (⟨4, false, 0, 0, ⟨8, lv, 0, [84, 114, 117, 101], [], [zP]⟩⟩, 0) := by unfold outR outN halfX intX truthN; simp [hc]
          have e2 : opR [60] a b = ([.i .i64 4, .i .i64 0, .s [84, 114, 117, 101], .l []], 3) := by unfold opR; simp [hc]
          rw [e1] at hp; rw [e2] at hr; cases hp; cases hr
          exact ⟨rfl, 4, 0, _, [], rfl, .inr ⟨by decide, rfl, rfl, by simp, rfl, rfl⟩⟩
        · have e1 : outR (halfX [60] lv a) (intX 3 b) = (⟨4, false, 0, 0, ⟨8, lv, 0, [70, 97, 108, 115, 101], [], [zP]⟩⟩, 0) := by unfold outR outN halfX intX truthN; simp [hc]
          have e2 : opR [60] a b = ([.i .i64 4, .i .i64 0, .s [70, 97, 108, 115, 101], .l []], 3) := by unfold opR; simp [hc]
          rw [e1] at hp; rw [e2] at hr; cases hp; cases hr
          exact ⟨rfl, 4, 0, _, [], rfl, .inr ⟨by decide, rfl, rfl, by simp, rfl, rfl⟩⟩
      · by_cases hc : a = b
        · have e1 : outR (halfX [61, 61] lv a) (intX 3 b) = (⟨4, false, 0, 0, ⟨8, lv, 0, [84, 114, 117, 101], [], [zP]⟩⟩, 0) := by unfold outR outN halfX intX truthN; simp [hc]
          have e2 : opR [61, 61] a b = ([.i .i64 4, .i .i64 0, .s [84, 114, 117, 101], .l []], 3) := by unfold opR; simp [hc]
          rw [e1] at hp; rw [e2] at hr; cases hp; cases hr
          exact ⟨rfl, 4, 0, _, [], rfl, .inr ⟨by decide, rfl, rfl, by simp, rfl, rfl⟩⟩
        · have e1 : outR (halfX [61, 61] lv a) (intX 3 b) = (⟨4, false, 0, 0, ⟨8, lv, 0, [70, 97, 108, 115, 101], [], [zP]⟩⟩, 0) := by unfold outR outN halfX intX truthN; simp [hc]
          have e2 : opR [61, 61] a b = ([.i .i64 4, .i .i64 0, .s [70, 97, 108, 115, 101], .l []], 3) := by unfold opR; simp [hc]
          rw [e1] at hp; rw [e2] at hr; cases hp; cases hr
          exact ⟨rfl, 4, 0, _, [], rfl, .inr ⟨by decide, rfl, rfl, by simp, rfl, rfl⟩⟩
    obtain ⟨rfl, t1, t2, t4, t5, rfl, hw⟩ := facts
    simp only [encLE, plainR, encL, encN, opX, halfX, intX, zN, List.map_nil] at c1 c2
    simp only [encO, tOp, tI] at c3
    rcases hw with ⟨rfl, hp5⟩ | ⟨hw4, hp4, q1, q2, q3, q4⟩
    · rw [hp5] at c2
      simp only [F7, f0, h1, h2, h3, h4, c1, c2, c3, hk, hlt, hge, rowK, encL, Int.toNat_natCast, Int.reduceEq, Int.reduceLT, Int.reduceLE, Int.reduceToNat, Int.le_refl, Int.cast_ofNat_Int, PT.flat, evI_cl, clOk, ldKeeps, ldKeeps1, iasKeeps, rowK, nwKeeps, sameC, sameL, sameA, sameP, decide_true, frA_ptr, capsOf, fxa, fxc, fxE, fxL, fxI, nxE, evO, evR, cellsT, ldCells, mkT, lenA, binPV, Env.init, resV, resT, frT, klT, ownT, intT, O.adds, ownA, rowsA, over, wrOk, keysT, keysA, ne_eq, if_true, if_false, ite_self, Nat.reduceLT, Nat.reduceSub, Nat.reduceBEq, Nat.reduceEqDiff, Nat.reduceAdd, Nat.reduceLeDiff, reduceCtorEq, Nat.reduceMul]
    · rw [hp4, q1] at c2
      rw [q3, q4] at c2
      simp only [F7, f0, h1, h2, h3, h4, c1, c2, c3, hk, hlt, hge, hw4, q2, rowK, encL, Int.toNat_natCast, Int.reduceEq, Int.reduceLT, Int.reduceLE, Int.reduceToNat, Int.le_refl, Int.cast_ofNat_Int, PT.flat, evI_cl, clOk, ldKeeps, ldKeeps1, iasKeeps, rowK, nwKeeps, sameC, sameL, sameA, sameP, decide_true, frA_ptr, capsOf, fxa, fxc, fxE, fxL, fxI, nxE, evO, evR, cellsT, ldCells, mkT, lenA, binPV, Env.init, resV, resT, frT, klT, ownT, intT, O.adds, ownA, rowsA, over, wrOk, keysT, keysA, ne_eq, if_true, if_false, ite_self, Nat.reduceLT, Nat.reduceSub, Nat.reduceBEq, Nat.reduceEqDiff, Nat.reduceAdd, Nat.reduceLeDiff, reduceCtorEq, Nat.reduceMul]
  have hop : op = 0 ∨ op = 1 ∨ op = 2 ∨ op = 3 ∨ op = 4 ∨ op = 5 := by omega
  rcases hop with h | h | h | h | h | h
  · exact key [43] (.inl rfl) (by decide) ⟨0, h, rfl, by omega⟩
  · exact key [45] (.inr (.inl rfl)) (by decide) ⟨1, h, rfl, by omega⟩
  · exact key [42] (.inr (.inr (.inl rfl))) (by decide) ⟨2, h, rfl, by omega⟩
  · exact key [47] (.inr (.inr (.inr (.inl rfl)))) (by decide) ⟨3, h, rfl, by omega⟩
  · exact key [60] (.inr (.inr (.inr (.inr (.inl rfl))))) (by decide) ⟨4, h, rfl, by omega⟩
  · exact key [61, 61] (.inr (.inr (.inr (.inr (.inr rfl))))) (by decide) ⟨5, h, rfl, by omega⟩
end Go.Proofs.Ytomcceambpneiaa
end
section
set_option linter.unusedSimpArgs false
set_option linter.unusedVariables false
namespace Go.Proofs.Ytomcceambpneiaa
open Go.Fx
theorem cellsI : Try.prog.cellsOf 3 = 1 := by kernel_rfl
theorem len2 {α : Type} {l : List α} (h : l.length = 2) : ∃ a b, l = [a, b] := by
  match l, h with
  | [a, b], _ => exact ⟨a, b, rfl⟩
theorem wf_int {i : Int} (h : (Lit.int .i64 i).wf = true) : wf i := by
  simp only [Lit.wf, IntKind.min, IntKind.max, IntKind.bits, IntKind.signed, Bool.and_eq_true, decide_eq_true_eq] at h
  rw [if_pos trivial, if_pos trivial] at h
  unfold wf; omega
theorem ct_int {n : Nat} {qs : List PV} (h : CT Try.prog n 3 qs) : ∃ i, qs = [.i .i64 i] ∧ wf i := by
  cases n with
  | zero => exact h.elim
  | succ n => simp only [CT, Try.underlying3] at h; obtain ⟨i, h1, h2⟩ := h; exact ⟨i, h1, wf_int h2⟩
theorem aggI : aggT Try.prog 3 = false := by simp only [aggT, Try.underlying3, aggD]
theorem at_int {p : PT} (h : AT Try.prog 3 p ∧ p.isG = aggT Try.prog 3) : ∃ i, wf i ∧ p = .a (.i .i64 i) := by
  obtain ⟨h1, h2⟩ := h
  rw [aggI] at h2
  cases p with
  | a q => obtain ⟨n, hn⟩ := h1; obtain ⟨i, e, hi⟩ := ct_int hn; simp only [List.cons.injEq, and_true] at e; subst e; exact ⟨i, hi, rfl⟩
  | g qs => simp [PT.isG] at h2
  | _ => exact h1.elim
theorem own : ownKnob Try.prog.godebug = none := by kernel_rfl
theorem laidOut : laidOutB Try.prog = true := by kernel_rfl
end Go.Proofs.Ytomcceambpneiaa
end
section
set_option linter.unusedSimpArgs false
set_option linter.unusedVariables false
namespace Go.Proofs.Ytomcceambpneiaa
open Go.Fx
theorem cells2 : Try.prog.cellsOf 39 = 2 := by kernel_rfl
theorem agg2 : aggT Try.prog 39 = true := by simp only [aggT, Try.underlying39, aggD]
theorem at_two {p : PT} (h : AT Try.prog 39 p ∧ p.isG = aggT Try.prog 39) : ∃ i j, wf i ∧ wf j ∧ p = .g [.i .i64 i, .i .i64 j] := by
  obtain ⟨h1, h2⟩ := h
  rw [agg2] at h2
  cases p with
  | g qs =>
    obtain ⟨n, hn⟩ := h1
    cases n with
    | zero => exact hn.elim
    | succ n =>
      simp only [CT, Try.underlying39, cells2, cellsI] at hn
      obtain ⟨hl, hf⟩ := hn
      obtain ⟨q0, q1, rfl⟩ := len2 hl
      · have f0 := hf 0 (by omega)
        have f1 := hf 1 (by omega)
        simp only [Nat.zero_mul, Nat.one_mul, List.drop_zero, List.drop_succ_cons, List.take_succ_cons, List.take_zero] at f0 f1
        obtain ⟨i, e0, hi⟩ := ct_int f0
        obtain ⟨j, e1, hj⟩ := ct_int f1
        simp only [List.cons.injEq, and_true] at e0 e1
        subst e0 e1
        exact ⟨i, j, hi, hj, rfl⟩
  | _ => simp [PT.isG] at h2
def lawTs2 : List TypeId := [3, 39]
theorem lawTs2Ok : closedTs Try.prog lawTs2 = true := by kernel_rfl
end Go.Proofs.Ytomcceambpneiaa
end
namespace Go.Proofs.Ytomcceambpneiaa.ruleNumbers
open Go.Fx Go.ChangeShapes Go.WideShapes Go.ChangeAt Go.RowKit
theorem law (ps : List PT) (h : F2 (fun t p => AT Try.checked.prog t p ∧ p.isG = aggT Try.checked.prog t) Try.f7.params.toList ps) : eP S 7 ps = some (.a (.b true)) := by
  have h' : F2 (fun t p => AT Try.prog t p ∧ p.isG = aggT Try.prog t) [3, 39, 3] ps := by rw [Try.params7] at h; exact h
  obtain _ | ⟨h1, r1⟩ := h'
  obtain _ | ⟨h2, r2⟩ := r1
  obtain _ | ⟨h3, r3⟩ := r2
  obtain _ | _ := r3
  obtain ⟨a1, k1, rfl⟩ := at_int h1
  obtain ⟨a2, b2, k2, m2, rfl⟩ := at_two h2
  obtain ⟨a3, k3, rfl⟩ := at_int h3
  exact ruleNumbers_law k2 m2 k3
set_option maxRecDepth 100000 in
theorem lifted (os : Os) (started : os.Started) (H : Type) (enc : TypeId × Value → H) :
    ReturnsInHanded {} Try.checked os 7 .any (Rows.ruleNumbersSpec.pre6 enc Try.prog Try.f7 Rows.ruleNumbersRow.domain false) (Rows.ruleNumbersSpec.post enc Try.prog Try.f7 false true false false) := by
  refine row_ok (C := Try.checked) (eqs := [(58, [0, 0]), (61, [1, 0]), (75, [0, 0]), (58, [9]), (91, [8]), (93, [8]), (72, [8]), (92, [8]), (76, [8])]) (S := S) (ts := lawTs2) (tb := 4) own started (by kernel_rfl) Try.func7 laidOut
    (ChangeSpec.witness6 (enc := enc) (C := Try.checked) false ⟨#[], #[.int .i64 0, .agg #[.int .i64 0, .int .i64 0], .int .i64 0], []⟩ 8 (by kernel_rfl) (by kernel_rfl) (by kernel_rfl) (by kernel_rfl))
    lawTs2Ok (by kernel_rfl) rfl Try.underlying4 rfl ?_ seatOk law
  intro ds hd
  match ds, hd with
  | [d1, d2, d3], _ => rfl
theorem over : Rows.ruleNumbersRow.holds Try.pinned (OpenSpec.ofChange Rows.ruleNumbersSpec) :=
  OpenClaim.holds_of_wide 7 Try.f7 rfl rfl rfl rfl rfl rfl rfl ⟨rfl, rfl, rfl, rfl, rfl⟩ rfl rfl rfl rfl rfl (by kernel_rfl) Try.func7 (by kernel_rfl)
    (of_decide_eq_true (by kernel_rfl)) (by unfold Func.isWrapper; first | (rw [if_pos (by decide +kernel)]; kernel_rfl) | (rw [if_neg (by decide +kernel)]; exact ⟨rfl, rfl⟩))
    (fun os started H enc _ => lifted os started H enc)
theorem proved : Rows.RuleNumbersSaid := over
#print axioms proved
end Go.Proofs.Ytomcceambpneiaa.ruleNumbers
