/- Part 4 of what is proved for the law TurnPicks: it returns true,whatever the input. No condition. -/
import Derived.IntWalk
import Derived.Test.YtmlhgalboabjcaaGreatPTurnPicksc
namespace Go.Proofs.YtmlhgalboabjcaaGreat
open Go.Fx
def F115 : FnC := ⟨2,(.seq (.reg [
  ia 4 (.new [(.p (.i .i64 0)),(.p (.s [])),(.p (.i .i64 0)),(.p (.i .i64 0)),.nil,(.p (.i .i64 0)),(.p (.b false))])]) (.seq (.seq (.reg [
  ia 6 (.mv (.t 0)),
 ia 7 (.mv (.t 1)),
 ia 8 (.bin .add (.t 7) (ci 1)),
 ia 9 (.call (.f 151) [(.t 6),(.t 8)]),
 ia 10 (.bin .neq (.t 9) (ci 1))]) (.cond (.t 10) (.seq (.reg [
  ia 11 (.mv (.t 1)),
 ia 12 (.bin .add (.t 11) (ci 1)),
 ia 13 (.call (.f 152) [(.t 12)]),
 io (.st 7 (.t 4) (.t 13))]) .ret) .skip)) (.seq (.seq (.reg [
  ia 14 (.mv (.t 0)),
 ia 15 (.mv (.t 1)),
 ia 16 (.bin .add (.t 15) (ci 2)),
 ia 17 (.call (.f 114) [(.t 14),(.t 16)]),
 ia 18 (.bin .neq (.t 17) (.c (.a (.p (.s [46])))))]) (.cond (.t 18) (.seq (.reg [
  ia 19 (.mv (.t 1)),
 ia 20 (.bin .add (.t 19) (ci 2)),
 ia 21 (.call (.f 152) [(.t 20)]),
 io (.st 7 (.t 4) (.t 21))]) .ret) .skip)) (.seq (.reg [
  ia 22 (.mv (.t 0)),
 ia 23 (.mv (.t 1)),
 ia 24 (.bin .add (.t 23) (ci 3)),
 ia 25 (.call (.f 82) [(.t 22),(.t 24)]),
 ia 5 (.new [(.p (.i .i64 0)),(.p (.s [])),(.p (.i .i64 0)),(.p (.i .i64 0)),.nil,(.p (.i .i64 0)),(.p (.b false))]),
 io (.st 7 (.t 5) (.t 25))]) (.seq (.seq (.reg [
  ia 26 (.fad 6 (.t 5)),
 ia 27 (.ld 1 false (.t 26)),
 ia 28 (.not (.t 27))]) (.cond (.t 28) (.seq (.reg [
  ia 29 (.ld 7 true (.t 5)),
 io (.st 7 (.t 4) (.t 29))]) .ret) .skip)) (.seq (.reg [
  ir 30 (.mv (.t 0)),
 ir 31 (.mv (.t 1)),
 ir 32 (.bin .add (.t 31) (ci 1)),
 ir 33 (.ias 4 (.t 30) (.t 32)),
 ir 34 (.fad 1 (.t 33)),
 ir 35 (.ld 1 false (.t 34)),
 ir 36 (.mv (.t 0)),
 ir 37 (.mv (.t 1)),
 ir 38 (.ias 4 (.t 36) (.t 37)),
 ir 39 (.fad 3 (.t 38)),
 ir 40 (.ld 1 false (.t 39)),
 ir 41 (.fad 0 (.t 5)),
 ir 42 (.ld 5 true (.t 41)),
 ⟨(.some 43),.none,(.bsl 5 96 [(.p (.i .i64 0)),(.p (.s [])),(.p (.i .i64 0)),(.p (.i .i64 0)),.nil] 1 [(0,(.t 42))]),.ad⟩,
 ir 44 (.build [(.p (.i .i64 0)),(.p (.s [])),(.p (.i .i64 0)),(.p (.i .i64 0)),.nil] [(0,(1,(ci 2))),(1,(1,(.t 35))),(3,(1,(.t 40))),(4,(1,(.t 43)))]),
 ir 45 (.fad 5 (.t 5)),
 ir 46 (.ld 1 false (.t 45)),
 ia 47 (.call (.f 153) [(.t 44),(.t 46)]),
 io (.st 7 (.t 4) (.t 47))]) .ret)))))),[(.cell 4 7 true)]⟩
theorem cc115 : ccF Tryz.prog [(42,[0,0]),(107,[1,0]),(74,[0,0]),(36,[0,0,0,0,0,0,0,0,0]),(160,[0,0]),(42,[9]),(105,[8]),(107,[8]),(75,[8]),(106,[8]),(79,[8])] Tryz.f115 = some (stripF F115) := by kernel_rfl
def F116 : FnC := ⟨2,(.seq (.reg [
  ia 4 (.new [(.p (.i .i64 0)),(.p (.s [])),(.p (.i .i64 0)),(.p (.i .i64 0)),.nil,(.p (.i .i64 0)),(.p (.b false))])]) (.seq (.seq (.reg [
  ia 8 (.mv (.t 0)),
 ia 9 (.mv (.t 1)),
 ia 10 (.bin .add (.t 9) (ci 1)),
 ia 11 (.call (.f 151) [(.t 8),(.t 10)]),
 ia 12 (.bin .neq (.t 11) (ci 1))]) (.cond (.t 12) (.seq (.reg [
  ia 13 (.mv (.t 1)),
 ia 14 (.bin .add (.t 13) (ci 1)),
 ia 15 (.call (.f 152) [(.t 14)]),
 io (.st 7 (.t 4) (.t 15))]) .ret) .skip)) (.seq (.seq (.reg [
  ia 16 (.mv (.t 0)),
 ia 17 (.mv (.t 1)),
 ia 18 (.bin .add (.t 17) (ci 2)),
 ia 19 (.call (.f 114) [(.t 16),(.t 18)]),
 ia 20 (.bin .neq (.t 19) (.c (.a (.p (.s [61])))))]) (.cond (.t 20) (.seq (.reg [
  ia 21 (.mv (.t 1)),
 ia 22 (.bin .add (.t 21) (ci 2)),
 ia 23 (.call (.f 152) [(.t 22)]),
 io (.st 7 (.t 4) (.t 23))]) .ret) .skip)) (.seq (.reg [
  ia 24 (.mv (.t 0)),
 ia 25 (.mv (.t 1)),
 ia 26 (.bin .add (.t 25) (ci 3)),
 ia 27 (.call (.f 82) [(.t 24),(.t 26)]),
 ia 5 (.new [(.p (.i .i64 0)),(.p (.s [])),(.p (.i .i64 0)),(.p (.i .i64 0)),.nil,(.p (.i .i64 0)),(.p (.b false))]),
 io (.st 7 (.t 5) (.t 27))]) (.seq (.seq (.reg [
  ia 28 (.fad 6 (.t 5)),
 ia 29 (.ld 1 false (.t 28)),
 ia 30 (.not (.t 29))]) (.cond (.t 30) (.seq (.reg [
  ia 31 (.ld 7 true (.t 5)),
 io (.st 7 (.t 4) (.t 31))]) .ret) .skip)) (.seq (.seq (.reg [
  ia 32 (.mv (.t 0)),
 ia 33 (.fad 5 (.t 5)),
 ia 34 (.ld 1 false (.t 33)),
 ia 35 (.call (.f 114) [(.t 32),(.t 34)]),
 ia 36 (.bin .neq (.t 35) (.c (.a (.p (.s [105,110])))))]) (.cond (.t 36) (.seq (.reg [
  ia 37 (.fad 5 (.t 5)),
 ia 38 (.ld 1 false (.t 37)),
 ia 39 (.call (.f 152) [(.t 38)]),
 io (.st 7 (.t 4) (.t 39))]) .ret) .skip)) (.seq (.reg [
  ia 40 (.mv (.t 0)),
 ia 41 (.fad 5 (.t 5)),
 ia 42 (.ld 1 false (.t 41)),
 ia 43 (.bin .add (.t 42) (ci 1)),
 ia 44 (.call (.f 82) [(.t 40),(.t 43)]),
 ia 6 (.new [(.p (.i .i64 0)),(.p (.s [])),(.p (.i .i64 0)),(.p (.i .i64 0)),.nil,(.p (.i .i64 0)),(.p (.b false))]),
 io (.st 7 (.t 6) (.t 44))]) (.seq (.seq (.reg [
  ia 45 (.fad 6 (.t 6)),
 ia 46 (.ld 1 false (.t 45)),
 ia 47 (.not (.t 46))]) (.cond (.t 47) (.seq (.reg [
  ia 48 (.ld 7 true (.t 6)),
 io (.st 7 (.t 4) (.t 48))]) .ret) .skip)) (.seq (.reg [
  ir 49 (.mv (.t 0)),
 ir 50 (.mv (.t 1)),
 ir 51 (.bin .add (.t 50) (ci 1)),
 ir 52 (.ias 4 (.t 49) (.t 51)),
 ir 53 (.fad 1 (.t 52)),
 ir 54 (.ld 1 false (.t 53)),
 ir 55 (.mv (.t 0)),
 ir 56 (.mv (.t 1)),
 ir 57 (.ias 4 (.t 55) (.t 56)),
 ir 58 (.fad 3 (.t 57)),
 ir 59 (.ld 1 false (.t 58)),
 ir 60 (.fad 0 (.t 5)),
 ir 61 (.ld 5 true (.t 60)),
 ir 62 (.fad 0 (.t 6)),
 ir 63 (.ld 5 true (.t 62)),
 ⟨(.some 7),.none,(.new [(.p (.i .i64 0)),(.p (.s [])),(.p (.i .i64 0)),(.p (.i .i64 0)),.nil]),.ad⟩,
 ⟨(.some 64),.none,(.bsl 5 96 [(.p (.i .i64 0)),(.p (.s [])),(.p (.i .i64 0)),(.p (.i .i64 0)),.nil] 2 [(0,(.t 61)),(1,(.t 63))]),(.cl [(0,49),(1,53),(0,55),(1,58)] [7])⟩,
 ir 65 (.build [(.p (.i .i64 0)),(.p (.s [])),(.p (.i .i64 0)),(.p (.i .i64 0)),.nil] [(0,(1,(ci 4))),(1,(1,(.t 54))),(3,(1,(.t 59))),(4,(1,(.t 64)))]),
 io (.st 5 (.t 7) (.t 65))]) (.seq (.seq (.reg [
  ia 66 (.mv (.t 0)),
 ia 67 (.mv (.t 1)),
 ia 68 (.ias 4 (.t 66) (.t 67)),
 ia 69 (.fad 1 (.t 68)),
 ia 70 (.ld 1 false (.t 69)),
 ia 71 (.bin .eql (.t 70) (.c (.a (.p (.s [108,101,116,114,101,99])))))]) (.cond (.t 71) (.reg [
  ia 72 (.fad 0 (.t 7)),
 io (.st 1 (.t 72) (ci 5))]) .skip)) (.seq (.reg [
  ia 73 (.ld 5 true (.t 7)),
 ia 74 (.fad 5 (.t 6)),
 ia 75 (.ld 1 false (.t 74)),
 ia 76 (.call (.f 153) [(.t 73),(.t 75)]),
 io (.st 7 (.t 4) (.t 76))]) .ret))))))))))),[(.cell 4 7 true)]⟩
theorem cc116 : ccF Tryz.prog [(42,[0,0]),(107,[1,0]),(74,[0,0]),(36,[0,0,0,0,0,0,0,0,0]),(160,[0,0]),(42,[9]),(105,[8]),(107,[8]),(75,[8]),(106,[8]),(79,[8])] Tryz.f116 = some (stripF F116) := by kernel_rfl
def F117b0 : C := (.block 1 (.seq (.reg [
  ia 47 (.mv (.t 0)),
 ia 48 (.mv (.t 7)),
 ia 49 (.call (.f 154) [(.t 47),(.t 48)]),
 ia 8 (.new [(.p (.i .i64 0)),(.p (.s [])),(.p (.i .i64 0)),(.p (.i .i64 0)),.nil,(.p (.i .i64 0)),(.p (.b false))]),
 io (.st 7 (.t 8) (.t 49))]) (.seq (.seq (.reg [
  ia 50 (.fad 6 (.t 8)),
 ia 51 (.ld 1 false (.t 50)),
 ia 52 (.not (.t 51))]) (.cond (.t 52) (.seq (.reg [
  ia 53 (.ld 7 true (.t 8)),
 io (.st 7 (.t 4) (.t 53))]) .ret) .skip)) (.seq (.reg [
  ia 54 (.fad 4 (.t 6)),
 ia 55 (.ld 1 false (.t 54)),
 ia 56 (.fad 0 (.t 8)),
 ia 57 (.ld 5 true (.t 56)),
 ia 58 (.bsl 5 96 [(.p (.i .i64 0)),(.p (.s [])),(.p (.i .i64 0)),(.p (.i .i64 0)),.nil] 1 [(0,(.t 57))]),
 ia 59 (.app 5 96 64 (.t 55) (.t 58)),
 ia 60 (.fad 4 (.t 6)),
 io (.st 1 (.t 60) (.t 59))]) (.seq (.reg [
  ia 61 (.fad 5 (.t 8)),
 ia 62 (.ld 1 false (.t 61)),
 ia 7 (.mv (.t 62))]) (.seq (.seq (.reg [
  ia 63 (.mv (.t 0)),
 ia 64 (.mv (.t 7)),
 ia 65 (.call (.f 114) [(.t 63),(.t 64)]),
 ia 66 (.bin .eql (.t 65) (.c (.a (.p (.s [125])))))]) (.cond (.t 66) (.seq (.reg [
  ia 67 (.ld 5 true (.t 6)),
 ia 68 (.mv (.t 7)),
 ia 69 (.bin .add (.t 68) (ci 1)),
 ia 70 (.call (.f 153) [(.t 67),(.t 69)]),
 io (.st 7 (.t 4) (.t 70))]) .ret) .skip)) (.seq (.seq (.reg [
  ia 71 (.mv (.t 0)),
 ia 72 (.mv (.t 7)),
 ia 73 (.call (.f 114) [(.t 71),(.t 72)]),
 ia 74 (.bin .neq (.t 73) (.c (.a (.p (.s [124]))))),
 ia 75 (.mv (.t 74)),
 ig 76 75 false (.fad 4 (.t 6)),
 ig 77 75 false (.ld 1 false (.t 76)),
 ig 78 75 false (.len false (.t 77)),
 ig 79 75 false (.bin .eql (.t 78) (ci 9)),
 ia 80 (.pick (.t 75) (.c (.a (.p (.b true)))) (.t 79))]) (.cond (.t 80) (.seq (.reg [
  ia 81 (.mv (.t 7)),
 ia 82 (.call (.f 152) [(.t 81)]),
 io (.st 7 (.t 4) (.t 82))]) .ret) .skip)) (.reg [
  ia 83 (.mv (.t 7)),
 ia 84 (.bin .add (.t 83) (ci 1)),
 ia 7 (.mv (.t 84))]))))))))
def F117 : FnC := ⟨2,(.seq (.reg [
  ia 4 (.new [(.p (.i .i64 0)),(.p (.s [])),(.p (.i .i64 0)),(.p (.i .i64 0)),.nil,(.p (.i .i64 0)),(.p (.b false))])]) (.seq (.reg [
  ia 9 (.mv (.t 0)),
 ia 10 (.mv (.t 1)),
 ia 11 (.bin .add (.t 10) (ci 1)),
 ia 12 (.call (.f 82) [(.t 9),(.t 11)]),
 ia 5 (.new [(.p (.i .i64 0)),(.p (.s [])),(.p (.i .i64 0)),(.p (.i .i64 0)),.nil,(.p (.i .i64 0)),(.p (.b false))]),
 io (.st 7 (.t 5) (.t 12))]) (.seq (.seq (.reg [
  ia 13 (.fad 6 (.t 5)),
 ia 14 (.ld 1 false (.t 13)),
 ia 15 (.not (.t 14))]) (.cond (.t 15) (.seq (.reg [
  ia 16 (.ld 7 true (.t 5)),
 io (.st 7 (.t 4) (.t 16))]) .ret) .skip)) (.seq (.seq (.reg [
  ia 17 (.mv (.t 0)),
 ia 18 (.fad 5 (.t 5)),
 ia 19 (.ld 1 false (.t 18)),
 ia 20 (.call (.f 114) [(.t 17),(.t 19)]),
 ia 21 (.bin .neq (.t 20) (.c (.a (.p (.s [111,102])))))]) (.cond (.t 21) (.seq (.reg [
  ia 22 (.fad 5 (.t 5)),
 ia 23 (.ld 1 false (.t 22)),
 ia 24 (.call (.f 152) [(.t 23)]),
 io (.st 7 (.t 4) (.t 24))]) .ret) .skip)) (.seq (.seq (.reg [
  ia 25 (.mv (.t 0)),
 ia 26 (.fad 5 (.t 5)),
 ia 27 (.ld 1 false (.t 26)),
 ia 28 (.bin .add (.t 27) (ci 1)),
 ia 29 (.call (.f 114) [(.t 25),(.t 28)]),
 ia 30 (.bin .neq (.t 29) (.c (.a (.p (.s [123])))))]) (.cond (.t 30) (.seq (.reg [
  ia 31 (.fad 5 (.t 5)),
 ia 32 (.ld 1 false (.t 31)),
 ia 33 (.bin .add (.t 32) (ci 1)),
 ia 34 (.call (.f 152) [(.t 33)]),
 io (.st 7 (.t 4) (.t 34))]) .ret) .skip)) (.seq (.reg [
  ir 35 (.mv (.t 0)),
 ir 36 (.mv (.t 1)),
 ir 37 (.ias 4 (.t 35) (.t 36)),
 ir 38 (.fad 3 (.t 37)),
 ir 39 (.ld 1 false (.t 38)),
 ir 40 (.fad 0 (.t 5)),
 ir 41 (.ld 5 true (.t 40)),
 ⟨(.some 6),.none,(.new [(.p (.i .i64 0)),(.p (.s [])),(.p (.i .i64 0)),(.p (.i .i64 0)),.nil]),.ad⟩,
 ⟨(.some 42),.none,(.bsl 5 96 [(.p (.i .i64 0)),(.p (.s [])),(.p (.i .i64 0)),(.p (.i .i64 0)),.nil] 1 [(0,(.t 41))]),(.cl [(0,35),(1,38)] [6])⟩,
 ir 43 (.build [(.p (.i .i64 0)),(.p (.s [])),(.p (.i .i64 0)),(.p (.i .i64 0)),.nil] [(0,(1,(ci 7))),(3,(1,(.t 39))),(4,(1,(.t 42)))]),
 io (.st 5 (.t 6) (.t 43))]) (.seq (.reg [
  ia 44 (.fad 5 (.t 5)),
 ia 45 (.ld 1 false (.t 44)),
 ia 46 (.bin .add (.t 45) (ci 2)),
 ia 7 (.mv (.t 46))]) (.block 0 (.loop F117b0))))))))),[(.cell 4 7 true)]⟩
theorem cc117 : ccF Tryz.prog [(42,[0,0]),(107,[1,0]),(74,[0,0]),(36,[0,0,0,0,0,0,0,0,0]),(160,[0,0]),(42,[9]),(105,[8]),(107,[8]),(75,[8]),(106,[8]),(79,[8])] Tryz.f117 = some (stripF F117) := by kernel_rfl
def F118b0 : C := (.seq (.seq (.reg [
  ia 20 (.fad 6 (.t 7)),
 ia 21 (.ld 1 false (.t 20)),
 ia 22 (.mv (.t 21)),
 ig 23 22 true (.mv (.t 0)),
 ig 24 22 true (.fad 5 (.t 7)),
 ig 25 22 true (.ld 1 false (.t 24)),
 ig 26 22 true (.mv (.t 2)),
 ig 27 22 true (.call (.f 156) [(.t 23),(.t 25),(.t 26)]),
 ia 28 (.pick (.t 22) (.t 27) (.c (.a (.p (.b false))))),
 ia 29 (.mv (.t 28)),
 ig 30 29 true (.mv (.t 2)),
 ig 31 29 true (.bin .gtr (.t 30) (ci 0)),
 ig 32 29 true (.mv (.t 31)),
 ig 33 32 false (.mv (.t 8)),
 ig 34 32 false (.bin .lss (.t 33) (ci 1)),
 ig 35 29 true (.pick (.t 32) (.c (.a (.p (.b true)))) (.t 34)),
 ia 36 (.pick (.t 29) (.t 35) (.c (.a (.p (.b false)))))]) (.cond (.t 36) .skip (.exit 0))) (.seq (.block 1 (.seq (.reg [
  ia 39 (.mv (.t 0)),
 ia 40 (.fad 5 (.t 7)),
 ia 41 (.ld 1 false (.t 40)),
 ia 42 (.bin .add (.t 41) (ci 1)),
 ia 43 (.mv (.t 2)),
 ia 44 (.bin .add (.t 43) (ci 1)),
 ia 45 (.call (.f 118) [(.t 39),(.t 42),(.t 44)]),
 ia 9 (.new [(.p (.i .i64 0)),(.p (.s [])),(.p (.i .i64 0)),(.p (.i .i64 0)),.nil,(.p (.i .i64 0)),(.p (.b false))]),
 io (.st 7 (.t 9) (.t 45))]) (.seq (.seq (.reg [
  ia 46 (.fad 6 (.t 9)),
 ia 47 (.ld 1 false (.t 46)),
 ia 48 (.not (.t 47))]) (.cond (.t 48) (.seq (.reg [
  ia 49 (.ld 7 true (.t 9)),
 io (.st 7 (.t 6) (.t 49))]) .ret) .skip)) (.reg [
  ir 50 (.mv (.t 0)),
 ir 51 (.fad 5 (.t 7)),
 ir 52 (.ld 1 false (.t 51)),
 ir 53 (.ias 4 (.t 50) (.t 52)),
 ir 54 (.fad 1 (.t 53)),
 ir 55 (.ld 1 false (.t 54)),
 ir 56 (.fad 0 (.t 7)),
 ir 57 (.fad 3 (.t 56)),
 ir 58 (.ld 1 false (.t 57)),
 ir 59 (.fad 0 (.t 7)),
 ir 60 (.ld 5 true (.t 59)),
 ir 61 (.fad 0 (.t 9)),
 ir 62 (.ld 5 true (.t 61)),
 ⟨(.some 63),.none,(.bsl 5 96 [(.p (.i .i64 0)),(.p (.s [])),(.p (.i .i64 0)),(.p (.i .i64 0)),.nil] 2 [(0,(.t 60)),(1,(.t 62))]),.ad⟩,
 ir 64 (.build [(.p (.i .i64 0)),(.p (.s [])),(.p (.i .i64 0)),(.p (.i .i64 0)),.nil] [(0,(1,(ci 10))),(1,(1,(.t 55))),(3,(1,(.t 58))),(4,(1,(.t 63)))]),
 ir 65 (.fad 5 (.t 9)),
 ir 66 (.ld 1 false (.t 65)),
 ia 67 (.call (.f 153) [(.t 64),(.t 66)]),
 io (.st 7 (.t 7) (.t 67))])))) (.reg [
  ia 37 (.mv (.t 8)),
 ia 38 (.bin .add (.t 37) (ci 1)),
 ia 8 (.mv (.t 38))])))
def F118 : FnC := ⟨3,(.seq (.reg [
  ia 6 (.new [(.p (.i .i64 0)),(.p (.s [])),(.p (.i .i64 0)),(.p (.i .i64 0)),.nil,(.p (.i .i64 0)),(.p (.b false))])]) (.seq (.seq (.reg [
  ia 10 (.mv (.t 2)),
 ia 11 (.bin .eql (.t 10) (ci 3))]) (.cond (.t 11) (.seq (.reg [
  ia 12 (.mv (.t 0)),
 ia 13 (.mv (.t 1)),
 ia 14 (.call (.f 155) [(.t 12),(.t 13)]),
 io (.st 7 (.t 6) (.t 14))]) .ret) .skip)) (.seq (.reg [
  ia 15 (.mv (.t 0)),
 ia 16 (.mv (.t 1)),
 ia 17 (.mv (.t 2)),
 ia 18 (.bin .add (.t 17) (ci 1)),
 ia 19 (.call (.f 118) [(.t 15),(.t 16),(.t 18)]),
 ia 7 (.new [(.p (.i .i64 0)),(.p (.s [])),(.p (.i .i64 0)),(.p (.i .i64 0)),.nil,(.p (.i .i64 0)),(.p (.b false))]),
 io (.st 7 (.t 7) (.t 19))]) (.seq (.seq (.reg [
  ia 8 (.mv (ci 0))]) (.block 0 (.loop F118b0))) (.seq (.reg [
  ia 68 (.ld 7 true (.t 7)),
 io (.st 7 (.t 6) (.t 68))]) .ret))))),[(.cell 6 7 true)]⟩
theorem cc118 : ccF Tryz.prog [(42,[0,0]),(107,[1,0]),(74,[0,0]),(36,[0,0,0,0,0,0,0,0,0]),(160,[0,0]),(42,[9]),(105,[8]),(107,[8]),(75,[8]),(106,[8]),(79,[8])] Tryz.f118 = some (stripF F118) := by kernel_rfl
def F119 : FnC := ⟨1,(.seq (.reg [
  ia 1 (.box 5 (.t 0)),
 ia 2 (.mv (.c (.a (.p (.b false)))))]) (.seq (.reg [
  ia 3 (.ld 5 true (.t 1)),
 ia 4 (.call (.f 157) [(.t 3),(.c (.a (.p (.b false))))]),
 ia 2 (.mv (.t 4))]) .ret)),[(.tmp 2)]⟩
theorem cc119 : ccF Tryz.prog [(42,[0,0]),(107,[1,0]),(74,[0,0]),(36,[0,0,0,0,0,0,0,0,0]),(160,[0,0]),(42,[9]),(105,[8]),(107,[8]),(75,[8]),(106,[8]),(79,[8])] Tryz.f119 = some (stripF F119) := by kernel_rfl
def F120b0 : C := (.seq (.seq (.reg [
  ia 58 (.mv (.t 11)),
 ia 59 (.fad 4 (.t 4)),
 ia 60 (.ld 1 false (.t 59)),
 ia 61 (.len false (.t 60)),
 ia 62 (.bin .lss (.t 58) (.t 61))]) (.cond (.t 62) .skip (.exit 0))) (.seq (.block 1 (.seq (.reg [
  ir 66 (.fad 4 (.t 4)),
 ir 67 (.ld 1 false (.t 66)),
 ir 68 (.mv (.t 11)),
 ir 69 (.ias 5 (.t 67) (.t 68)),
 ir 70 (.ld 5 true (.t 69)),
 ir 71 (.ld 5 true (.t 4)),
 ir 72 (.mv (.t 11)),
 ir 73 (.mv (.t 1)),
 ir 74 (.call (.f 163) [(.t 71),(.t 72),(.t 73)]),
 ir 75 (.mv (.t 10)),
 ir 76 (.mv (.t 3)),
 ia 77 (.call (.f 120) [(.t 70),(.t 74),(.t 75),(.t 76)]),
 ia 65 (.mv (.t 77)),
 ir 78 (.ext (.t 65) 0),
 ir 79 (.ext (.t 65) 1),
 ir 12 (.mv (.t 78)),
 ia 13 (.mv (.t 79))]) (.seq (.seq (.reg [
  ia 80 (.mv (.t 13)),
 ia 81 (.bin .neq (.t 80) (ci 0))]) (.cond (.t 81) (.seq (.reg [
  ia 82 (.mv (.t 12)),
 ia 83 (.mv (.t 13)),
 ia 8 (.mv (.t 82)),
 ia 9 (.mv (.t 83))]) .ret) .skip)) (.seq (.reg [
  ia 84 (.fad 0 (.t 4)),
 ia 85 (.ld 1 false (.t 84)),
 ia 86 (.bin .eql (.t 85) (ci 7)),
 ia 87 (.mv (.t 86)),
 ig 88 87 true (.mv (.t 11)),
 ig 89 87 true (.bin .gtr (.t 88) (ci 0)),
 ia 90 (.pick (.t 87) (.t 89) (.c (.a (.p (.b false)))))]) (.cond (.t 90) (.reg [
  ia 91 (.mv (.t 10)),
 ia 92 (.fad 4 (.t 4)),
 ia 93 (.ld 1 false (.t 92)),
 ia 94 (.mv (.t 11)),
 ia 95 (.ias 5 (.t 93) (.t 94)),
 ia 96 (.fad 1 (.t 95)),
 ia 97 (.ld 1 false (.t 96)),
 ia 98 (.bsl 1 9 [(.p (.s []))] 1 [(0,(.t 97))]),
 ia 99 (.app 1 9 16 (.t 91) (.t 98)),
 ia 10 (.mv (.t 99))]) .skip))))) (.reg [
  ia 63 (.mv (.t 11)),
 ia 64 (.bin .add (.t 63) (ci 1)),
 ia 11 (.mv (.t 64))])))
def F120 : FnC := ⟨4,(.seq (.reg [
  ia 4 (.box 5 (.t 0)),
 ia 8 (.mv (ci 0)),
 ia 9 (.mv (ci 0))]) (.seq (.seq (.reg [
  ia 14 (.fad 0 (.t 4)),
 ia 15 (.ld 1 false (.t 14)),
 ia 16 (.bin .eql (.t 15) (ci 1)),
 ia 17 (.mv (.t 16)),
 ig 18 17 true (.mv (.t 1)),
 ig 19 17 true (.fad 1 (.t 4)),
 ig 20 17 true (.ld 1 false (.t 19)),
 ig 21 17 true (.call (.f 158) [(.t 18),(.t 20)]),
 ig 22 17 true (.not (.t 21)),
 ia 23 (.pick (.t 17) (.t 22) (.c (.a (.p (.b false)))))]) (.cond (.t 23) (.seq (.reg [
  ia 24 (.fad 3 (.t 4)),
 ia 25 (.ld 1 false (.t 24)),
 ia 8 (.mv (.t 25)),
 ia 9 (.mv (ci 50))]) .ret) .skip)) (.seq (.seq (.reg [
  ia 26 (.ld 5 true (.t 4)),
 ia 27 (.call (.f 159) [(.t 26)]),
 ia 28 (.bin .geq (.t 27) (ci 0)),
 ia 29 (.mv (.t 28)),
 ih 30 29 true (.mv (.t 3)),
 ih 31 29 true (.fad 1 (.t 4)),
 ih 32 29 true (.ld 1 false (.t 31)),
 ih 33 29 true (.call (.f 160) [(.t 30),(.t 32)]),
 ih 34 29 true (.ld 5 true (.t 4)),
 ig 35 29 true (.call (.f 159) [(.t 34)]),
 ig 36 29 true (.bin .neq (.t 33) (.t 35)),
 ia 37 (.pick (.t 29) (.t 36) (.c (.a (.p (.b false)))))]) (.cond (.t 37) (.seq (.reg [
  ia 38 (.fad 3 (.t 4)),
 ia 39 (.ld 1 false (.t 38)),
 ia 8 (.mv (.t 39)),
 ia 9 (.mv (ci 51))]) .ret) .skip)) (.seq (.seq (.reg [
  ia 40 (.fad 0 (.t 4)),
 ia 41 (.ld 1 false (.t 40)),
 ia 42 (.bin .eql (.t 41) (ci 8)),
 ia 43 (.mv (.t 42)),
 ig 44 43 true (.ld 5 true (.t 4)),
 ig 45 43 true (.call (.f 161) [(.t 44)]),
 ig 46 43 true (.mv (.t 45)),
 ig 47 46 false (.mv (.t 2)),
 ig 48 46 false (.fad 1 (.t 4)),
 ig 49 46 false (.ld 1 false (.t 48)),
 ig 50 46 false (.call (.f 158) [(.t 47),(.t 49)]),
 ig 51 43 true (.pick (.t 46) (.c (.a (.p (.b true)))) (.t 50)),
 ia 52 (.pick (.t 43) (.t 51) (.c (.a (.p (.b false)))))]) (.cond (.t 52) (.seq (.reg [
  ia 53 (.fad 3 (.t 4)),
 ia 54 (.ld 1 false (.t 53)),
 ia 8 (.mv (.t 54)),
 ia 9 (.mv (ci 52))]) .ret) .skip)) (.seq (.reg [
  ia 55 (.bsl 1 9 [(.p (.s []))] 0 []),
 ia 10 (.mv (.t 55))]) (.seq (.seq (.reg [
  ia 56 (.ld 5 true (.t 4)),
 ia 57 (.call (.f 162) [(.t 56)]),
 ia 11 (.mv (.t 57))]) (.block 0 (.loop F120b0))) (.seq (.reg [
  ia 8 (.mv (ci 0)),
 ia 9 (.mv (ci 0))]) .ret))))))),[(.tmp 8),(.tmp 9)]⟩
theorem cc120 : ccF Tryz.prog [(42,[0,0]),(107,[1,0]),(74,[0,0]),(36,[0,0,0,0,0,0,0,0,0]),(160,[0,0]),(42,[9]),(105,[8]),(107,[8]),(75,[8]),(106,[8]),(79,[8])] Tryz.f120 = some (stripF F120) := by kernel_rfl
def F121 : FnC := ⟨1,(.seq (.reg [
  ia 1 (.box 5 (.t 0)),
 ia 2 (.mv (.c (.a .nil)))]) (.seq (.seq (.reg [
  ia 3 (.ld 5 true (.t 1)),
 ia 4 (.call (.f 119) [(.t 3)]),
 ia 5 (.not (.t 4))]) (.cond (.t 5) (.seq (.reg [
  ia 2 (.mv (.c (.a .nil)))]) .ret) .skip)) (.seq (.reg [
  ia 6 (.ld 5 true (.t 1)),
 ia 7 (.build [(.p (.s [])),(.p (.i .i64 0))] [(0,(1,(.c (.a (.p (.s [84,114,117,101]))))))]),
 ia 8 (.build [(.p (.s [])),(.p (.i .i64 0))] [(0,(1,(.c (.a (.p (.s [70,97,108,115,101]))))))]),
 ia 9 (.bsl 2 107 [(.p (.s [])),(.p (.i .i64 0))] 2 [(0,(.t 7)),(1,(.t 8))]),
 ia 10 (.call (.f 164) [(.t 6),(.t 9)]),
 ia 2 (.mv (.t 10))]) .ret))),[(.tmp 2)]⟩
theorem cc121 : ccF Tryz.prog [(42,[0,0]),(107,[1,0]),(74,[0,0]),(36,[0,0,0,0,0,0,0,0,0]),(160,[0,0]),(42,[9]),(105,[8]),(107,[8]),(75,[8]),(106,[8]),(79,[8])] Tryz.f121 = some (stripF F121) := by kernel_rfl
def F122b0 : C := (.seq (.seq (.reg [
  ia 9 (.mv (.t 5)),
 ia 10 (.bin .geq (.t 9) (ci 0))]) (.cond (.t 10) .skip (.exit 0))) (.seq (.block 1 (.seq (.reg [
  ia 13 (.mv (.t 0)),
 ia 14 (.mv (.t 5)),
 ia 15 (.ias 1 (.t 13) (.t 14)),
 ia 16 (.ld 1 false (.t 15)),
 ia 17 (.mv (.t 1)),
 ia 18 (.bin .eql (.t 16) (.t 17))]) (.cond (.t 18) (.seq (.reg [
  ia 19 (.mv (.t 0)),
 ia 20 (.len false (.t 19)),
 ia 21 (.bin .sub (.t 20) (ci 1)),
 ia 22 (.mv (.t 5)),
 ia 23 (.bin .sub (.t 21) (.t 22)),
 ia 4 (.mv (.t 23))]) .ret) .skip))) (.reg [
  ia 11 (.mv (.t 5)),
 ia 12 (.bin .sub (.t 11) (ci 1)),
 ia 5 (.mv (.t 12))])))
def F122 : FnC := ⟨2,(.seq (.reg [
  ia 4 (.mv (ci 0))]) (.seq (.seq (.reg [
  ia 6 (.mv (.t 0)),
 ia 7 (.len false (.t 6)),
 ia 8 (.bin .sub (.t 7) (ci 1)),
 ia 5 (.mv (.t 8))]) (.block 0 (.loop F122b0))) (.seq (.reg [
  ia 4 (.mv (ci 0))]) .ret))),[(.tmp 4)]⟩
theorem cc122 : ccF Tryz.prog [(42,[0,0]),(107,[1,0]),(74,[0,0]),(36,[0,0,0,0,0,0,0,0,0]),(160,[0,0]),(42,[9]),(105,[8]),(107,[8]),(75,[8]),(106,[8]),(79,[8])] Tryz.f122 = some (stripF F122) := by kernel_rfl
def F123 : FnC := ⟨1,(.seq (.reg [
  ia 1 (.box 4 (.t 0)),
 ia 2 (.new [(.p (.i .i64 0)),(.p (.i .i64 0)),(.p (.s [])),.nil])]) (.seq (.reg [
  ia 3 (.ld 4 true (.t 1)),
 ia 4 (.bsl 4 24 [(.p (.i .i64 0)),(.p (.i .i64 0)),(.p (.s [])),.nil] 1 [(0,(.t 3))]),
 ia 5 (.build [(.p (.i .i64 0)),(.p (.i .i64 0)),(.p (.s [])),.nil] [(0,(1,(ci 2))),(3,(1,(.t 4)))]),
 io (.st 4 (.t 2) (.t 5))]) .ret)),[(.cell 2 4 true)]⟩
theorem cc123 : ccF Tryz.prog [(42,[0,0]),(107,[1,0]),(74,[0,0]),(36,[0,0,0,0,0,0,0,0,0]),(160,[0,0]),(42,[9]),(105,[8]),(107,[8]),(75,[8]),(106,[8]),(79,[8])] Tryz.f123 = some (stripF F123) := by kernel_rfl
def F124 : FnC := ⟨2,(.seq (.reg [
  ia 4 (.mv (.c (.a .nil)))]) (.seq (.reg [
  ia 5 (.bsl 1 9 [(.p (.s []))] 0 []),
 ia 6 (.mv (.t 0)),
 ia 7 (.app 1 9 16 (.t 5) (.t 6)),
 ia 8 (.mv (.t 1)),
 ia 9 (.bsl 1 9 [(.p (.s []))] 1 [(0,(.t 8))]),
 ia 10 (.app 1 9 16 (.t 7) (.t 9)),
 ia 4 (.mv (.t 10))]) .ret)),[(.tmp 4)]⟩
theorem cc124 : ccF Tryz.prog [(42,[0,0]),(107,[1,0]),(74,[0,0]),(36,[0,0,0,0,0,0,0,0,0]),(160,[0,0]),(42,[9]),(105,[8]),(107,[8]),(75,[8]),(106,[8]),(79,[8])] Tryz.f124 = some (stripF F124) := by kernel_rfl
def F125 : FnC := ⟨3,(.seq (.reg [
  ia 4 (.box 4 (.t 1)),
 ia 5 (.box 4 (.t 2)),
 ia 6 (.new [(.p (.i .i64 0)),(.p (.i .i64 0)),(.p (.s [])),.nil])]) (.seq (.reg [
  ia 7 (.mv (.t 0)),
 ia 8 (.ld 4 true (.t 4)),
 ia 9 (.ld 4 true (.t 5)),
 ia 10 (.bsl 4 24 [(.p (.i .i64 0)),(.p (.i .i64 0)),(.p (.s [])),.nil] 2 [(0,(.t 8)),(1,(.t 9))]),
 ia 11 (.build [(.p (.i .i64 0)),(.p (.i .i64 0)),(.p (.s [])),.nil] [(0,(1,(.t 7))),(3,(1,(.t 10)))]),
 io (.st 4 (.t 6) (.t 11))]) .ret)),[(.cell 6 4 true)]⟩
theorem cc125 : ccF Tryz.prog [(42,[0,0]),(107,[1,0]),(74,[0,0]),(36,[0,0,0,0,0,0,0,0,0]),(160,[0,0]),(42,[9]),(105,[8]),(107,[8]),(75,[8]),(106,[8]),(79,[8])] Tryz.f125 = some (stripF F125) := by kernel_rfl
def F126 : FnC := ⟨0,(.seq (.reg [
  ia 0 (.new [(.p (.i .i64 0)),(.p (.i .i64 0)),(.p (.s [])),.nil])]) (.seq (.reg [
  ia 4 (.build [(.p (.i .i64 0)),(.p (.i .i64 0)),(.p (.s [])),.nil] [(0,(1,(ci 1)))]),
 ia 1 (.new [(.p (.i .i64 0)),(.p (.i .i64 0)),(.p (.s [])),.nil]),
 io (.st 4 (.t 1) (.t 4))]) (.seq (.reg [
  ia 5 (.build [(.p (.i .i64 0)),(.p (.i .i64 0)),(.p (.s [])),.nil] [(0,(1,(ci 1))),(1,(1,(ci 1)))]),
 ia 2 (.new [(.p (.i .i64 0)),(.p (.i .i64 0)),(.p (.s [])),.nil]),
 io (.st 4 (.t 2) (.t 5))]) (.seq (.reg [
  ir 6 (.ld 4 true (.t 2)),
 ir 7 (.ld 4 true (.t 1)),
 ir 8 (.ld 4 true (.t 1)),
 ir 9 (.call (.f 125) [(ci 3),(.t 7),(.t 8)]),
 ir 10 (.call (.f 125) [(ci 3),(.t 6),(.t 9)]),
 ir 11 (.call (.f 123) [(.t 10)]),
 ⟨(.some 3),.none,(.new [(.p (.i .i64 0)),(.p (.i .i64 0)),(.p (.s [])),.nil]),.ad⟩,
 io (.st 4 (.t 3) (.t 11))]) (.seq (.reg [
  ia 12 (.ld 4 true (.t 3)),
 ia 13 (.ld 4 true (.t 3)),
 ia 14 (.call (.f 125) [(ci 3),(.t 12),(.t 13)]),
 ia 15 (.call (.f 123) [(.t 14)]),
 io (.st 4 (.t 0) (.t 15))]) .ret))))),[(.cell 0 4 true)]⟩
theorem cc126 : ccF Tryz.prog [(42,[0,0]),(107,[1,0]),(74,[0,0]),(36,[0,0,0,0,0,0,0,0,0]),(160,[0,0]),(42,[9]),(105,[8]),(107,[8]),(75,[8]),(106,[8]),(79,[8])] Tryz.f126 = some (stripF F126) := by kernel_rfl
def F127b0 : C := (.seq (.seq (.reg [
  ia 5 (.mv (.t 4)),
 ia 6 (.fad 0 (.t 1)),
 ia 7 (.ld 1 false (.t 6)),
 ia 8 (.len false (.t 7)),
 ia 9 (.bin .lss (.t 5) (.t 8))]) (.cond (.t 9) .skip (.exit 0))) (.seq (.block 1 (.seq (.reg [
  ia 12 (.fad 0 (.t 1)),
 ia 13 (.ld 1 false (.t 12)),
 ia 14 (.mv (.t 4)),
 ia 15 (.ias 6 (.t 13) (.t 14)),
 ia 16 (.fad 0 (.t 15)),
 ia 17 (.ld 1 false (.t 16)),
 ia 18 (.bin .neq (.t 17) (ci 0))]) (.cond (.t 18) (.reg [
  ia 19 (.mv (.t 3)),
 ia 20 (.bin .add (.t 19) (ci 1)),
 ia 3 (.mv (.t 20))]) .skip))) (.reg [
  ia 10 (.mv (.t 4)),
 ia 11 (.bin .add (.t 10) (ci 1)),
 ia 4 (.mv (.t 11))])))
def F127 : FnC := ⟨1,(.seq (.reg [
  ia 1 (.box 2 (.t 0)),
 ia 2 (.mv (ci 0))]) (.seq (.reg [
  ia 3 (.mv (ci 0))]) (.seq (.seq (.reg [
  ia 4 (.mv (ci 0))]) (.block 0 (.loop F127b0))) (.seq (.reg [
  ia 21 (.mv (.t 3)),
 ia 2 (.mv (.t 21))]) .ret)))),[(.tmp 2)]⟩
theorem cc127 : ccF Tryz.prog [(42,[0,0]),(107,[1,0]),(74,[0,0]),(36,[0,0,0,0,0,0,0,0,0]),(160,[0,0]),(42,[9]),(105,[8]),(107,[8]),(75,[8]),(106,[8]),(79,[8])] Tryz.f127 = some (stripF F127) := by kernel_rfl
def F128b0 : C := (.seq (.seq (.reg [
  ia 8 (.mv (.t 4)),
 ia 9 (.fad 0 (.t 1)),
 ia 10 (.ld 1 false (.t 9)),
 ia 11 (.len false (.t 10)),
 ia 12 (.bin .lss (.t 8) (.t 11))]) (.cond (.t 12) .skip (.exit 0))) (.seq (.block 1 (.reg [
  ir 15 (.fad 0 (.t 3)),
 ir 16 (.ld 1 false (.t 15)),
 ir 17 (.fad 0 (.t 1)),
 ir 18 (.ld 1 false (.t 17)),
 ir 19 (.mv (.t 4)),
 ir 20 (.ias 6 (.t 18) (.t 19)),
 ir 21 (.ld 6 true (.t 20)),
 ⟨(.some 22),.none,(.bsl 6 46 [(.p (.i .i64 0)),(.p (.i .i64 0)),(.p (.i .i64 0)),(.p (.s [])),.nil,.nil] 1 [(0,(.t 21))]),.ad⟩,
 ia 23 (.app 6 46 88 (.t 16) (.t 22)),
 ia 24 (.fad 0 (.t 3)),
 io (.st 1 (.t 24) (.t 23))])) (.reg [
  ia 13 (.mv (.t 4)),
 ia 14 (.bin .add (.t 13) (ci 1)),
 ia 4 (.mv (.t 14))])))
def F128 : FnC := ⟨1,(.seq (.reg [
  ia 1 (.box 2 (.t 0)),
 ia 2 (.new [.nil,(.p (.i .i64 0))])]) (.seq (.reg [
  ia 5 (.fad 1 (.t 1)),
 ia 6 (.ld 1 false (.t 5)),
 ia 7 (.build [.nil,(.p (.i .i64 0))] [(1,(1,(.t 6)))]),
 ia 3 (.new [.nil,(.p (.i .i64 0))]),
 io (.st 2 (.t 3) (.t 7))]) (.seq (.seq (.reg [
  ia 4 (.mv (ci 0))]) (.block 0 (.loop F128b0))) (.seq (.reg [
  ia 25 (.ld 2 true (.t 3)),
 io (.st 2 (.t 2) (.t 25))]) .ret)))),[(.cell 2 2 true)]⟩
theorem cc128 : ccF Tryz.prog [(42,[0,0]),(107,[1,0]),(74,[0,0]),(36,[0,0,0,0,0,0,0,0,0]),(160,[0,0]),(42,[9]),(105,[8]),(107,[8]),(75,[8]),(106,[8]),(79,[8])] Tryz.f128 = some (stripF F128) := by kernel_rfl
def F129b0 : C := (.seq (.seq (.reg [
  ia 9 (.mv (.t 5)),
 ia 10 (.fad 4 (.t 2)),
 ia 11 (.ld 1 false (.t 10)),
 ia 12 (.len false (.t 11)),
 ia 13 (.bin .lss (.t 9) (.t 12)),
 ia 14 (.mv (.t 13)),
 ig 15 14 true (.fad 5 (.t 2)),
 ig 16 14 true (.ld 1 false (.t 15)),
 ig 17 14 true (.bin .eql (.t 16) (ci 0)),
 ia 18 (.pick (.t 14) (.t 17) (.c (.a (.p (.b false)))))]) (.cond (.t 18) .skip (.exit 0))) (.seq (.block 1 (.seq (.reg [
  ia 22 (.fad 0 (.t 2)),
 ia 23 (.ld 2 true (.t 22)),
 ia 24 (.mv (.t 1)),
 ia 25 (.build [(.p (.i .i64 0)),(.p (.i .i64 0)),(.p (.i .i64 0)),(.p (.s [])),.nil,.nil] [(0,(1,(ci 6))),(1,(1,(.t 24)))]),
 ia 26 (.call (.f 48) [(.t 23),(.t 25)]),
 ia 21 (.mv (.t 26)),
 ia 27 (.ext (.t 21) 0),
 ia 28 (.ext (.t 21) 1),
 ia 29 (.ext (.t 21) 2),
 ia 6 (.new [.nil,(.p (.i .i64 0))]),
 io (.st 2 (.t 6) (.t 27)),
 ia 7 (.mv (.t 28)),
 ia 8 (.mv (.t 29))]) (.seq (.reg [
  ia 30 (.mv (.t 8)),
 ia 31 (.fad 5 (.t 2)),
 io (.st 1 (.t 31) (.t 30))]) (.seq (.reg [
  ir 32 (.ld 2 true (.t 6)),
 ir 33 (.mv (.t 7)),
 ir 34 (.call (.f 28) [(.t 33),(ci 1)]),
 ir 35 (.fad 4 (.t 2)),
 ir 36 (.ld 1 false (.t 35)),
 ir 37 (.mv (.t 5)),
 ir 38 (.ias 3 (.t 36) (.t 37)),
 ir 39 (.fad 1 (.t 38)),
 ir 40 (.ld 2 true (.t 39)),
 ia 41 (.call (.f 27) [(.t 32),(.t 34),(.t 40)]),
 ia 42 (.fad 0 (.t 2)),
 io (.st 2 (.t 42) (.t 41))]) (.reg [
  ir 43 (.fad 4 (.t 2)),
 ir 44 (.ld 1 false (.t 43)),
 ir 45 (.mv (.t 5)),
 ir 46 (.mv (.t 7)),
 ir 47 (.call (.f 28) [(.t 46),(ci 0)]),
 ia 48 (.ias 3 (.t 44) (.t 45)),
 ia 49 (.fad 1 (.t 48)),
 io (.st 2 (.t 49) (.t 47))]))))) (.reg [
  ia 19 (.mv (.t 5)),
 ia 20 (.bin .add (.t 19) (ci 1)),
 ia 5 (.mv (.t 20))])))
def F129 : FnC := ⟨2,(.seq (.reg [
  ia 2 (.box 6 (.t 0)),
 ia 4 (.new [.nil,(.p (.i .i64 0)),(.p (.i .i64 0)),(.p (.i .i64 0)),.nil,(.p (.i .i64 0))])]) (.seq (.seq (.reg [
  ia 5 (.mv (ci 0))]) (.block 0 (.loop F129b0))) (.seq (.reg [
  ia 50 (.ld 6 true (.t 2)),
 io (.st 6 (.t 4) (.t 50))]) .ret))),[(.cell 4 6 true)]⟩
theorem cc129 : ccF Tryz.prog [(42,[0,0]),(107,[1,0]),(74,[0,0]),(36,[0,0,0,0,0,0,0,0,0]),(160,[0,0]),(42,[9]),(105,[8]),(107,[8]),(75,[8]),(106,[8]),(79,[8])] Tryz.f129 = some (stripF F129) := by kernel_rfl
def F130b0 : C := (.seq (.seq (.reg [
  ia 9 (.mv (.t 7)),
 ia 10 (.mv (.t 0)),
 ia 11 (.len false (.t 10)),
 ia 12 (.bin .lss (.t 9) (.t 11))]) (.cond (.t 12) .skip (.exit 0))) (.seq (.block 1 (.seq (.seq (.reg [
  ia 15 (.mv (.t 6)),
 ia 16 (.not (.t 15)),
 ia 17 (.mv (.t 16)),
 ih 18 17 true (.mv (.t 0)),
 ih 19 17 true (.mv (.t 7)),
 ih 20 17 true (.ias 3 (.t 18) (.t 19)),
 ih 21 17 true (.fad 0 (.t 20)),
 ih 22 17 true (.ld 1 false (.t 21)),
 ih 23 17 true (.fad 0 (.t 3)),
 ih 24 17 true (.ld 1 false (.t 23)),
 ig 25 17 true (.bin .gtr (.t 22) (.t 24)),
 ia 26 (.pick (.t 17) (.t 25) (.c (.a (.p (.b false)))))]) (.cond (.t 26) (.seq (.reg [
  ia 27 (.mv (.t 5)),
 ia 28 (.ld 3 true (.t 3)),
 ia 29 (.bsl 3 104 [(.p (.i .i64 0)),(.p (.i .i64 0)),(.p (.i .i64 0))] 1 [(0,(.t 28))]),
 ia 30 (.app 3 104 24 (.t 27) (.t 29)),
 ia 5 (.mv (.t 30))]) (.reg [
  ia 6 (.mv (.c (.a (.p (.b true)))))])) .skip)) (.reg [
  ia 31 (.mv (.t 5)),
 ia 32 (.mv (.t 0)),
 ia 33 (.mv (.t 7)),
 ia 34 (.ias 3 (.t 32) (.t 33)),
 ia 35 (.ld 3 true (.t 34)),
 ia 36 (.bsl 3 104 [(.p (.i .i64 0)),(.p (.i .i64 0)),(.p (.i .i64 0))] 1 [(0,(.t 35))]),
 ia 37 (.app 3 104 24 (.t 31) (.t 36)),
 ia 5 (.mv (.t 37))]))) (.reg [
  ia 13 (.mv (.t 7)),
 ia 14 (.bin .add (.t 13) (ci 1)),
 ia 7 (.mv (.t 14))])))
def F130 : FnC := ⟨2,(.seq (.reg [
  ia 3 (.box 3 (.t 1)),
 ia 4 (.mv (.c (.a .nil)))]) (.seq (.reg [
  ia 8 (.bsl 3 104 [(.p (.i .i64 0)),(.p (.i .i64 0)),(.p (.i .i64 0))] 0 []),
 ia 5 (.mv (.t 8))]) (.seq (.reg [
  ia 6 (.mv (.c (.a (.p (.b false)))))]) (.seq (.seq (.reg [
  ia 7 (.mv (ci 0))]) (.block 0 (.loop F130b0))) (.seq (.seq (.reg [
  ia 38 (.mv (.t 6)),
 ia 39 (.not (.t 38))]) (.cond (.t 39) (.reg [
  ia 40 (.mv (.t 5)),
 ia 41 (.ld 3 true (.t 3)),
 ia 42 (.bsl 3 104 [(.p (.i .i64 0)),(.p (.i .i64 0)),(.p (.i .i64 0))] 1 [(0,(.t 41))]),
 ia 43 (.app 3 104 24 (.t 40) (.t 42)),
 ia 5 (.mv (.t 43))]) .skip)) (.seq (.reg [
  ia 44 (.mv (.t 5)),
 ia 4 (.mv (.t 44))]) .ret)))))),[(.tmp 4)]⟩
theorem cc130 : ccF Tryz.prog [(42,[0,0]),(107,[1,0]),(74,[0,0]),(36,[0,0,0,0,0,0,0,0,0]),(160,[0,0]),(42,[9]),(105,[8]),(107,[8]),(75,[8]),(106,[8]),(79,[8])] Tryz.f130 = some (stripF F130) := by kernel_rfl
def F131b0 : C := (.seq (.reg [
  ia 13 (.bin .lss (.t 12) (.t 11))]) (.seq (.cond (.t 13) .skip (.exit 0)) (.seq (.block 1 (.seq (.reg [
  ia 14 (.mv (.t 12)),
 ia 3 (.mv (.t 14))]) (.seq (.reg [
  ia 16 (.ld 2 true (.t 1)),
 ia 17 (.mv (.t 3)),
 ia 18 (.build [(.p (.i .i64 0)),(.p (.i .i64 0))] [(0,(1,(.t 17)))]),
 ia 19 (.call (.f 60) [(.t 16),(.t 18)]),
 ia 15 (.mv (.t 19)),
 ia 20 (.ext (.t 15) 0),
 ia 21 (.ext (.t 15) 1),
 ia 4 (.new [(.p (.i .i64 0)),(.p (.i .i64 0))]),
 io (.st 2 (.t 4) (.t 20)),
 ia 5 (.mv (.t 21))]) (.seq (.seq (.reg [
  ia 22 (.mv (.t 5)),
 ia 23 (.bin .neq (.t 22) (ci 0)),
 ia 24 (.mv (.t 23)),
 ig 25 24 false (.fad 1 (.t 4)),
 ig 26 24 false (.ld 1 false (.t 25)),
 ig 27 24 false (.bin .neq (.t 26) (ci 0)),
 ia 28 (.pick (.t 24) (.c (.a (.p (.b true)))) (.t 27)),
 ia 29 (.mv (.t 28)),
 ig 30 29 false (.fad 0 (.t 4)),
 ig 31 29 false (.ld 1 false (.t 30)),
 ig 32 29 false (.mv (.t 3)),
 ig 33 29 false (.bin .leq (.t 31) (.t 32)),
 ia 34 (.pick (.t 29) (.c (.a (.p (.b true)))) (.t 33))]) (.cond (.t 34) (.exit 1) .skip)) (.seq (.reg [
  ia 35 (.mv (.t 0)),
 ia 36 (.mv (.t 3)),
 ia 37 (.fad 0 (.t 4)),
 ia 38 (.ld 1 false (.t 37)),
 ia 39 (.build [(.p (.i .i64 0)),(.p (.i .i64 0))] [(0,(1,(.t 36))),(1,(1,(.t 38)))]),
 ia 40 (.call (.t 35) [(.t 39)]),
 ia 41 (.not (.t 40))]) (.cond (.t 41) .ret .skip)))))) (.reg [
  ia 42 (.bin .add (.t 12) (ci 1)),
 ia 12 (.mv (.t 42))]))))
def F131 : FnC := ⟨2,(.seq (.seq (.reg [
  ia 6 (.ld 2 true (.t 1)),
 ia 7 (.call (.f 37) [(.t 6)]),
 ia 8 (.bin .neq (.t 7) (ci 0))]) (.cond (.t 8) .ret .skip)) (.seq (.reg [
  ia 9 (.fad 0 (.t 1)),
 ia 10 (.ld 1 false (.t 9)),
 ia 11 (.len false (.t 10)),
 ia 12 (.mv (ci 0))]) (.block 0 (.loop F131b0)))),[]⟩
theorem cc131 : ccF Tryz.prog [(42,[0,0]),(107,[1,0]),(74,[0,0]),(36,[0,0,0,0,0,0,0,0,0]),(160,[0,0]),(42,[9]),(105,[8]),(107,[8]),(75,[8]),(106,[8]),(79,[8])] Tryz.f131 = some (stripF F131) := by kernel_rfl
def F132 : FnC := ⟨2,(.seq (.reg [
  ia 4 (.mv (.c (.a (.p (.b false)))))]) (.seq (.reg [
  ia 5 (.mv (.t 0)),
 ia 6 (.mv (.t 1)),
 ia 7 (.call (.f 165) [(.t 5),(.t 6)]),
 ia 8 (.bin .geq (.t 7) (ci 0)),
 ia 4 (.mv (.t 8))]) .ret)),[(.tmp 4)]⟩
theorem cc132 : ccF Tryz.prog [(42,[0,0]),(107,[1,0]),(74,[0,0]),(36,[0,0,0,0,0,0,0,0,0]),(160,[0,0]),(42,[9]),(105,[8]),(107,[8]),(75,[8]),(106,[8]),(79,[8])] Tryz.f132 = some (stripF F132) := by kernel_rfl
def F133 : FnC := ⟨2,(.seq (.reg [
  ia 2 (.box 6 (.t 0)),
 ia 4 (.mv (.c (.a (.p (.b false)))))]) (.seq (.seq (.reg [
  ia 5 (.fad 0 (.t 2)),
 ia 6 (.ld 1 false (.t 5))]) (.block 0 (.seq (.seq (.reg [
  ia 8 (.bin .eql (.t 6) (ci 3)),
 ia 7 (.mv (.t 8))]) (.cond (.t 7) .skip (.seq (.reg [
  ia 9 (.bin .eql (.t 6) (ci 9)),
 ia 7 (.mv (.t 9))]) (.cond (.t 7) .skip (.seq (.reg [
  ia 10 (.bin .eql (.t 6) (ci 11)),
 ia 7 (.mv (.t 10))]) (.cond (.t 7) .skip (.seq (.reg [
  ia 11 (.bin .eql (.t 6) (ci 12)),
 ia 7 (.mv (.t 11))]) (.cond (.t 7) .skip (.seq (.reg [
  ia 12 (.bin .eql (.t 6) (ci 5)),
 ia 7 (.mv (.t 12))]) (.cond (.t 7) .skip (.reg [
  ia 13 (.bin .eql (.t 6) (ci 6)),
 ia 7 (.mv (.t 13))]))))))))))) (.cond (.t 7) (.seq (.reg [
  ia 14 (.mv (.t 1)),
 ia 15 (.bin .eql (.t 14) (ci 1)),
 ia 4 (.mv (.t 15))]) .ret) (.seq (.reg [
  ia 17 (.bin .eql (.t 6) (ci 4)),
 ia 16 (.mv (.t 17))]) (.cond (.t 16) (.seq (.reg [
  ia 18 (.mv (.t 1)),
 ia 19 (.bin .eql (.t 18) (ci 1)),
 ia 20 (.mv (.t 19)),
 ig 21 20 false (.mv (.t 1)),
 ig 22 20 false (.bin .eql (.t 21) (ci 2)),
 ia 23 (.pick (.t 20) (.c (.a (.p (.b true)))) (.t 22)),
 ia 4 (.mv (.t 23))]) .ret) .skip)))))) (.seq (.reg [
  ia 4 (.mv (.c (.a (.p (.b false)))))]) .ret))),[(.tmp 4)]⟩
theorem cc133 : ccF Tryz.prog [(42,[0,0]),(107,[1,0]),(74,[0,0]),(36,[0,0,0,0,0,0,0,0,0]),(160,[0,0]),(42,[9]),(105,[8]),(107,[8]),(75,[8]),(106,[8]),(79,[8])] Tryz.f133 = some (stripF F133) := by kernel_rfl
def F134 : FnC := ⟨2,(.seq (.seq (.reg [
  ia 4 (.mv (.t 0)),
 ia 5 (.nck (.t 4)),
 ia 6 (.fad 1 (.t 5)),
 ia 7 (.ld 1 false (.t 6)),
 ia 8 (.mv (.t 1)),
 ia 9 (.ias 1 (.t 7) (.t 8)),
 ia 10 (.ld 1 false (.t 9))]) (.cond (.t 10) .ret .skip)) (.seq (.reg [
  ia 11 (.mv (.t 0)),
 ia 12 (.nck (.t 11)),
 ia 13 (.fad 1 (.t 12)),
 ia 14 (.ld 1 false (.t 13)),
 ia 15 (.mv (.t 1)),
 ia 16 (.ias 1 (.t 14) (.t 15)),
 io (.st 1 (.t 16) (.c (.a (.p (.b true)))))]) (.reg [
  ia 17 (.mv (.t 0)),
 ia 18 (.mv (.t 0)),
 ia 19 (.nck (.t 18)),
 ia 20 (.fad 2 (.t 19)),
 ia 21 (.ld 1 false (.t 20)),
 ia 22 (.mv (.t 1)),
 ia 23 (.bsl 1 3 [(.p (.i .i64 0))] 1 [(0,(.t 22))]),
 ia 24 (.app 1 3 8 (.t 21) (.t 23)),
 ia 25 (.nck (.t 17)),
 ia 26 (.fad 2 (.t 25)),
 io (.st 1 (.t 26) (.t 24))]))),[]⟩
theorem cc134 : ccF Tryz.prog [(42,[0,0]),(107,[1,0]),(74,[0,0]),(36,[0,0,0,0,0,0,0,0,0]),(160,[0,0]),(42,[9]),(105,[8]),(107,[8]),(75,[8]),(106,[8]),(79,[8])] Tryz.f134 = some (stripF F134) := by kernel_rfl
def F135 : FnC := ⟨2,(.seq (.reg [
  ia 2 (.box 2 (.t 0)),
 ia 3 (.mv (.c (.a (.p (.b false)))))]) (.seq (.reg [
  ia 4 (.fad 0 (.t 2)),
 ia 5 (.ld 1 false (.t 4)),
 ia 6 (.fad 0 (.t 1)),
 ia 7 (.ld 1 false (.t 6)),
 ia 8 (.bin .eql (.t 5) (.t 7)),
 ia 3 (.mv (.t 8))]) .ret)),[(.tmp 3)]⟩
theorem cc135 : ccF Tryz.prog [(42,[0,0]),(107,[1,0]),(74,[0,0]),(36,[0,0,0,0,0,0,0,0,0]),(160,[0,0]),(42,[9]),(105,[8]),(107,[8]),(75,[8]),(106,[8]),(79,[8])] Tryz.f135 = some (stripF F135) := by kernel_rfl
def F136 : FnC := ⟨2,(.seq (.reg [
  ia 4 (.mv (.c (.a (.p (.b false)))))]) (.seq (.reg [
  ia 5 (.mv (.t 0)),
 ia 6 (.mv (.t 1)),
 ia 7 (.call (.f 139) [(.t 5),(.t 6)]),
 ia 8 (.bin .geq (.t 7) (ci 0)),
 ia 4 (.mv (.t 8))]) .ret)),[(.tmp 4)]⟩
theorem cc136 : ccF Tryz.prog [(42,[0,0]),(107,[1,0]),(74,[0,0]),(36,[0,0,0,0,0,0,0,0,0]),(160,[0,0]),(42,[9]),(105,[8]),(107,[8]),(75,[8]),(106,[8]),(79,[8])] Tryz.f136 = some (stripF F136) := by kernel_rfl
def F137 : FnC := ⟨2,(.seq (.reg [
  ia 4 (.mv (.c (.a (.p (.b false)))))]) (.seq (.reg [
  ia 5 (.mv (.t 0)),
 ia 6 (.mv (.t 1)),
 ia 7 (.call (.f 166) [(.t 5),(.t 6)]),
 ia 8 (.bin .geq (.t 7) (ci 0)),
 ia 4 (.mv (.t 8))]) .ret)),[(.tmp 4)]⟩
theorem cc137 : ccF Tryz.prog [(42,[0,0]),(107,[1,0]),(74,[0,0]),(36,[0,0,0,0,0,0,0,0,0]),(160,[0,0]),(42,[9]),(105,[8]),(107,[8]),(75,[8]),(106,[8]),(79,[8])] Tryz.f137 = some (stripF F137) := by kernel_rfl
def F138 : FnC := ⟨2,(.seq (.reg [
  ia 2 (.box 2 (.t 0)),
 ia 3 (.mv (.c (.a (.p (.b false)))))]) (.seq (.reg [
  ia 4 (.fad 0 (.t 2)),
 ia 5 (.ld 1 false (.t 4)),
 ia 6 (.bin .lss (.t 5) (ci 0)),
 ia 7 (.mv (.t 6)),
 ih 8 7 false (.fad 0 (.t 2)),
 ih 9 7 false (.ld 1 false (.t 8)),
 ih 10 7 false (.fad 0 (.t 1)),
 ih 11 7 false (.fad 0 (.t 10)),
 ih 12 7 false (.ld 1 false (.t 11)),
 ih 13 7 false (.len false (.t 12)),
 ig 14 7 false (.bin .geq (.t 9) (.t 13)),
 ia 15 (.pick (.t 7) (.c (.a (.p (.b true)))) (.t 14)),
 ia 16 (.mv (.t 15)),
 ig 17 16 false (.fad 1 (.t 2)),
 ig 18 16 false (.ld 1 false (.t 17)),
 ig 19 16 false (.bin .lss (.t 18) (ci 0)),
 ia 20 (.pick (.t 16) (.c (.a (.p (.b true)))) (.t 19)),
 ia 21 (.mv (.t 20)),
 ih 22 21 false (.fad 1 (.t 2)),
 ih 23 21 false (.ld 1 false (.t 22)),
 ih 24 21 false (.fad 0 (.t 1)),
 ih 25 21 false (.fad 0 (.t 24)),
 ih 26 21 false (.ld 1 false (.t 25)),
 ih 27 21 false (.fad 0 (.t 2)),
 ih 28 21 false (.ld 1 false (.t 27)),
 ih 29 21 false (.ias 6 (.t 26) (.t 28)),
 ih 30 21 false (.fad 5 (.t 29)),
 ih 31 21 false (.ld 1 false (.t 30)),
 ih 32 21 false (.len false (.t 31)),
 ig 33 21 false (.bin .geq (.t 23) (.t 32)),
 ia 34 (.pick (.t 21) (.c (.a (.p (.b true)))) (.t 33)),
 ia 3 (.mv (.t 34))]) .ret)),[(.tmp 3)]⟩
theorem cc138 : ccF Tryz.prog [(42,[0,0]),(107,[1,0]),(74,[0,0]),(36,[0,0,0,0,0,0,0,0,0]),(160,[0,0]),(42,[9]),(105,[8]),(107,[8]),(75,[8]),(106,[8]),(79,[8])] Tryz.f138 = some (stripF F138) := by kernel_rfl
def F139b0 : C := (.seq (.reg [
  ia 9 (.bin .lss (.t 8) (.t 7))]) (.seq (.cond (.t 9) .skip (.exit 0)) (.seq (.block 1 (.seq (.reg [
  ia 10 (.mv (.t 8)),
 ia 5 (.mv (.t 10))]) (.seq (.reg [
  ia 11 (.mv (.t 1)),
 ia 12 (.mv (.t 0)),
 ia 13 (.mv (.t 5)),
 ia 14 (.ias 2 (.t 12) (.t 13)),
 ia 15 (.ld 2 true (.t 14)),
 ia 16 (.call (.t 11) [(.t 15)])]) (.cond (.t 16) (.seq (.reg [
  ia 17 (.mv (.t 5)),
 ia 4 (.mv (.t 17))]) .ret) .skip)))) (.reg [
  ia 18 (.bin .add (.t 8) (ci 1)),
 ia 8 (.mv (.t 18))]))))
def F139 : FnC := ⟨2,(.seq (.reg [
  ia 4 (.mv (ci 0))]) (.seq (.seq (.reg [
  ia 6 (.mv (.t 0)),
 ia 7 (.len false (.t 6)),
 ia 8 (.mv (ci 0))]) (.block 0 (.loop F139b0))) (.seq (.reg [
  ia 4 (.mv (.c (.a (.p (.i .i64 (-1))))))]) .ret))),[(.tmp 4)]⟩
theorem cc139 : ccF Tryz.prog [(42,[0,0]),(107,[1,0]),(74,[0,0]),(36,[0,0,0,0,0,0,0,0,0]),(160,[0,0]),(42,[9]),(105,[8]),(107,[8]),(75,[8]),(106,[8]),(79,[8])] Tryz.f139 = some (stripF F139) := by kernel_rfl
def F140 : FnC := ⟨2,(.seq (.reg [
  ia 2 (.box 2 (.t 0)),
 ia 3 (.mv (.c (.a (.p (.b false)))))]) (.seq (.reg [
  ia 4 (.fad 0 (.t 2)),
 ia 5 (.ld 1 false (.t 4)),
 ia 6 (.fad 3 (.t 1)),
 ia 7 (.ld 1 false (.t 6)),
 ia 8 (.bin .eql (.t 5) (.t 7)),
 ia 9 (.mv (.t 8)),
 ig 10 9 true (.fad 1 (.t 2)),
 ig 11 9 true (.ld 1 false (.t 10)),
 ig 12 9 true (.fad 5 (.t 1)),
 ig 13 9 true (.ld 1 false (.t 12)),
 ig 14 9 true (.len false (.t 13)),
 ig 15 9 true (.bin .sub (.t 14) (ci 1)),
 ig 16 9 true (.bin .eql (.t 11) (.t 15)),
 ia 17 (.pick (.t 9) (.t 16) (.c (.a (.p (.b false))))),
 ia 3 (.mv (.t 17))]) .ret)),[(.tmp 3)]⟩
theorem cc140 : ccF Tryz.prog [(42,[0,0]),(107,[1,0]),(74,[0,0]),(36,[0,0,0,0,0,0,0,0,0]),(160,[0,0]),(42,[9]),(105,[8]),(107,[8]),(75,[8]),(106,[8]),(79,[8])] Tryz.f140 = some (stripF F140) := by kernel_rfl
def F141 : FnC := ⟨1,(.seq (.reg [
  ia 2 (.new [(.p (.i .i64 0)),(.p (.i .i64 0)),(.p (.i .i64 0)),(.p (.s [])),.nil,.nil])]) (.seq (.reg [
  ia 3 (.mv (.c (.a (.p (.s [70,97,108,115,101])))))]) (.seq (.seq (.reg [
  ia 4 (.mv (.t 0))]) (.cond (.t 4) (.reg [
  ia 3 (.mv (.c (.a (.p (.s [84,114,117,101])))))]) .skip)) (.seq (.reg [
  ia 5 (.mv (.t 3)),
 ia 6 (.mslF 2 42 16 [(.p (.i .i64 0)),(.p (.i .i64 0))] (ci 1) (ci 1)),
 ia 7 (.build [(.p (.i .i64 0)),(.p (.i .i64 0)),(.p (.i .i64 0)),(.p (.s [])),.nil,.nil] [(0,(1,(ci 8))),(3,(1,(.t 5))),(5,(1,(.t 6)))]),
 io (.st 6 (.t 2) (.t 7))]) .ret)))),[(.cell 2 6 true)]⟩
theorem cc141 : ccF Tryz.prog [(42,[0,0]),(107,[1,0]),(74,[0,0]),(36,[0,0,0,0,0,0,0,0,0]),(160,[0,0]),(42,[9]),(105,[8]),(107,[8]),(75,[8]),(106,[8]),(79,[8])] Tryz.f141 = some (stripF F141) := by kernel_rfl
def F142 : FnC := ⟨3,(.seq (.reg [
  ia 3 (.box 2 (.t 0)),
 ia 4 (.box 2 (.t 1)),
 ia 5 (.box 2 (.t 2)),
 ia 6 (.new [.nil,(.p (.i .i64 0))]),
 ia 7 (.mv (ci 0))]) (.seq (.reg [
  ia 9 (.ld 2 true (.t 3)),
 ia 10 (.build [.nil,(.p (.i .i64 0))] [(0,(2,(.t 9)))]),
 ia 8 (.new [.nil,(.p (.i .i64 0))]),
 io (.st 2 (.t 8) (.t 10))]) (.seq (.block 0 (.seq (.reg [
  ir 12 (.ld 2 true (.t 8)),
 ir 13 (.ld 2 true (.t 4)),
 ir 14 (.ld 2 true (.t 5)),
 ⟨(.some 15),.none,(.bsl 2 42 [(.p (.i .i64 0)),(.p (.i .i64 0))] 2 [(0,(.t 13)),(1,(.t 14))]),.ad⟩,
 ia 16 (.call (.f 100) [(.t 12),(.t 15)]),
 ia 17 (.not (.t 16)),
 ia 18 (.mv (.t 17)),
 ih 19 18 false (.ld 2 true (.t 4)),
 ih 20 18 false (.ld 2 true (.t 5)),
 ig 21 18 false (.eqg false [0,0] (.t 19) (.t 20)),
 ia 22 (.pick (.t 18) (.c (.a (.p (.b true)))) (.t 21)),
 ia 23 (.mv (.t 22)),
 ih 24 23 false (.ld 2 true (.t 8)),
 ih 25 23 false (.ld 2 true (.t 8)),
 ih 26 23 false (.ld 2 true (.t 4)),
 ih 27 23 false (.call (.f 101) [(.t 25),(.t 26)]),
 ih 28 23 false (.ld 2 true (.t 8)),
 ih 29 23 false (.ld 2 true (.t 5)),
 ih 30 23 false (.call (.f 101) [(.t 28),(.t 29)]),
 ⟨(.some 31),(.some (23,false)),(.bsl 2 42 [(.p (.i .i64 0)),(.p (.i .i64 0))] 2 [(0,(.t 27)),(1,(.t 30))]),.ad⟩,
 ig 32 23 false (.call (.f 100) [(.t 24),(.t 31)]),
 ig 33 23 false (.not (.t 32)),
 ia 34 (.pick (.t 23) (.c (.a (.p (.b true)))) (.t 33)),
 ia 11 (.mv (.t 34))]) (.cond (.t 11) (.seq (.reg [
  ia 35 (.ld 2 true (.t 3)),
 io (.st 2 (.t 6) (.t 35)),
 ia 7 (.mv (ci 130))]) .ret) (.seq (.reg [
  ir 37 (.ld 2 true (.t 8)),
 ir 38 (.ld 2 true (.t 4)),
 ir 39 (.call (.f 101) [(.t 37),(.t 38)]),
 ir 40 (.ld 2 true (.t 5)),
 ia 41 (.eqg false [0,0] (.t 39) (.t 40)),
 ia 36 (.mv (.t 41))]) (.cond (.t 36) (.seq (.reg [
  ia 42 (.ld 2 true (.t 3)),
 io (.st 2 (.t 6) (.t 42)),
 ia 7 (.mv (ci 0))]) .ret) .skip))))) (.seq (.reg [
  ir 43 (.ld 2 true (.t 8)),
 ir 44 (.ld 2 true (.t 8)),
 ir 45 (.ld 2 true (.t 4)),
 ir 46 (.call (.f 101) [(.t 44),(.t 45)]),
 ir 47 (.ld 2 true (.t 8)),
 ir 48 (.ld 2 true (.t 5)),
 ir 49 (.call (.f 101) [(.t 47),(.t 48)]),
 ia 50 (.call (.f 144) [(.t 43),(.t 46),(.t 49)]),
 ir 51 (.ext (.t 50) 0),
 ir 52 (.ext (.t 50) 1),
 io (.st 2 (.t 6) (.t 51)),
 ia 7 (.mv (.t 52))]) .ret)))),[(.cell 6 2 true),(.tmp 7)]⟩
theorem cc142 : ccF Tryz.prog [(42,[0,0]),(107,[1,0]),(74,[0,0]),(36,[0,0,0,0,0,0,0,0,0]),(160,[0,0]),(42,[9]),(105,[8]),(107,[8]),(75,[8]),(106,[8]),(79,[8])] Tryz.f142 = some (stripF F142) := by kernel_rfl
def F143 : FnC := ⟨3,(.seq (.reg [
  ia 3 (.box 2 (.t 0)),
 ia 4 (.box 2 (.t 1)),
 ia 5 (.box 2 (.t 2)),
 ia 6 (.new [.nil,(.p (.i .i64 0))]),
 ia 7 (.mv (ci 0))]) (.seq (.reg [
  ia 8 (.ld 2 true (.t 3)),
 ia 9 (.build [.nil,(.p (.i .i64 0))] [(0,(2,(.t 8)))]),
 ia 10 (.ld 2 true (.t 4)),
 ia 11 (.ld 2 true (.t 5)),
 ia 12 (.call (.f 144) [(.t 9),(.t 10),(.t 11)]),
 ia 13 (.ext (.t 12) 0),
 ia 14 (.ext (.t 12) 1),
 io (.st 2 (.t 6) (.t 13)),
 ia 7 (.mv (.t 14))]) .ret)),[(.cell 6 2 true),(.tmp 7)]⟩
theorem cc143 : ccF Tryz.prog [(42,[0,0]),(107,[1,0]),(74,[0,0]),(36,[0,0,0,0,0,0,0,0,0]),(160,[0,0]),(42,[9]),(105,[8]),(107,[8]),(75,[8]),(106,[8]),(79,[8])] Tryz.f143 = some (stripF F143) := by kernel_rfl
def F144 : FnC := ⟨3,(.seq (.reg [
  ia 3 (.box 2 (.t 0)),
 ia 4 (.box 2 (.t 1)),
 ia 5 (.box 2 (.t 2)),
 ia 6 (.new [.nil,(.p (.i .i64 0))]),
 ia 7 (.mv (ci 0))]) (.seq (.seq (.reg [
  ia 8 (.ld 2 true (.t 3)),
 ia 9 (.ld 2 true (.t 4)),
 ia 10 (.ld 2 true (.t 5)),
 ia 11 (.bsl 2 42 [(.p (.i .i64 0)),(.p (.i .i64 0))] 2 [(0,(.t 9)),(1,(.t 10))]),
 ia 12 (.call (.f 100) [(.t 8),(.t 11)]),
 ia 13 (.not (.t 12)),
 ia 14 (.mv (.t 13)),
 ig 15 14 false (.ld 2 true (.t 4)),
 ig 16 14 false (.ld 2 true (.t 5)),
 ig 17 14 false (.eqg false [0,0] (.t 15) (.t 16)),
 ia 18 (.pick (.t 14) (.c (.a (.p (.b true)))) (.t 17))]) (.cond (.t 18) (.seq (.reg [
  ia 19 (.fad 0 (.t 3)),
 ia 20 (.ld 2 true (.t 19)),
 io (.st 2 (.t 6) (.t 20)),
 ia 7 (.mv (ci 130))]) .ret) .skip)) (.seq (.reg [
  ir 21 (.ld 2 true (.t 3)),
 ir 22 (.ld 2 true (.t 4)),
 ir 23 (.ld 2 true (.t 5)),
 ir 24 (.call (.f 167) [(.t 21),(.t 22),(.t 23)]),
 ir 25 (.ld 2 true (.t 5)),
 ir 26 (.ld 2 true (.t 4)),
 ia 27 (.call (.f 167) [(.t 24),(.t 25),(.t 26)]),
 ia 28 (.fld 0 2 true (.t 27)),
 io (.st 2 (.t 6) (.t 28)),
 ia 7 (.mv (ci 0))]) .ret))),[(.cell 6 2 true),(.tmp 7)]⟩
theorem cc144 : ccF Tryz.prog [(42,[0,0]),(107,[1,0]),(74,[0,0]),(36,[0,0,0,0,0,0,0,0,0]),(160,[0,0]),(42,[9]),(105,[8]),(107,[8]),(75,[8]),(106,[8]),(79,[8])] Tryz.f144 = some (stripF F144) := by kernel_rfl
def F145 : FnC := ⟨1,(.seq (.reg [
  ia 2 (.mv (.c (.a .nil)))]) (.seq (.seq (.reg [
  ia 3 (.mv (.t 0)),
 ia 4 (.nq false (.t 3))]) (.cond (.t 4) (.seq (.reg [
  ia 2 (.mv (.c (.a .nil)))]) .ret) .skip)) (.seq (.reg [
  ia 5 (.bsl 2 107 [(.p (.s [])),(.p (.i .i64 0))] 0 []),
 ia 6 (.mv (.t 0)),
 ia 7 (.app 2 107 24 (.t 5) (.t 6)),
 ia 2 (.mv (.t 7))]) .ret))),[(.tmp 2)]⟩
theorem cc145 : ccF Tryz.prog [(42,[0,0]),(107,[1,0]),(74,[0,0]),(36,[0,0,0,0,0,0,0,0,0]),(160,[0,0]),(42,[9]),(105,[8]),(107,[8]),(75,[8]),(106,[8]),(79,[8])] Tryz.f145 = some (stripF F145) := by kernel_rfl
def F146b0 : C := (.seq (.reg [
  ia 9 (.bin .lss (.t 8) (.t 7))]) (.seq (.cond (.t 9) .skip (.exit 0)) (.seq (.block 1 (.seq (.reg [
  ia 10 (.mv (.t 8)),
 ia 5 (.mv (.t 10))]) (.seq (.reg [
  ia 11 (.mv (.t 1)),
 ia 12 (.mv (.t 0)),
 ia 13 (.mv (.t 5)),
 ia 14 (.ias 6 (.t 12) (.t 13)),
 ia 15 (.ld 6 true (.t 14)),
 ia 16 (.call (.t 11) [(.t 15)])]) (.cond (.t 16) (.seq (.reg [
  ia 17 (.mv (.t 5)),
 ia 4 (.mv (.t 17))]) .ret) .skip)))) (.reg [
  ia 18 (.bin .add (.t 8) (ci 1)),
 ia 8 (.mv (.t 18))]))))
def F146 : FnC := ⟨2,(.seq (.reg [
  ia 4 (.mv (ci 0))]) (.seq (.seq (.reg [
  ia 6 (.mv (.t 0)),
 ia 7 (.len false (.t 6)),
 ia 8 (.mv (ci 0))]) (.block 0 (.loop F146b0))) (.seq (.reg [
  ia 4 (.mv (.c (.a (.p (.i .i64 (-1))))))]) .ret))),[(.tmp 4)]⟩
theorem cc146 : ccF Tryz.prog [(42,[0,0]),(107,[1,0]),(74,[0,0]),(36,[0,0,0,0,0,0,0,0,0]),(160,[0,0]),(42,[9]),(105,[8]),(107,[8]),(75,[8]),(106,[8]),(79,[8])] Tryz.f146 = some (stripF F146) := by kernel_rfl
def F147b0 : C := (.seq (.seq (.reg [
  ia 9 (.mv (.t 1)),
 ia 10 (.mv (.t 6)),
 ia 11 (.bin .add (.t 9) (.t 10)),
 ia 12 (.mv (.t 0)),
 ia 13 (.len true (.t 12)),
 ia 14 (.bin .lss (.t 11) (.t 13))]) (.cond (.t 14) .skip (.exit 0))) (.block 1 (.seq (.reg [
  ia 15 (.mv (.t 0)),
 ia 16 (.mv (.t 1)),
 ia 17 (.mv (.t 6)),
 ia 18 (.bin .add (.t 16) (.t 17)),
 ia 19 (.ixs (.t 15) (.t 18)),
 ia 20 (.call (.f 112) [(.t 19)]),
 ia 8 (.mv (.t 20))]) (.seq (.seq (.reg [
  ia 21 (.mv (.t 8)),
 ia 22 (.bin .lss (.t 21) (ci 1)),
 ia 23 (.mv (.t 22)),
 ig 24 23 false (.mv (.t 8)),
 ig 25 23 false (.bin .gtr (.t 24) (ci 3)),
 ia 26 (.pick (.t 23) (.c (.a (.p (.b true)))) (.t 25))]) (.cond (.t 26) (.seq (.reg [
  ia 27 (.mv (.t 6)),
 ia 28 (.mv (.t 7)),
 ia 4 (.mv (.t 27)),
 ia 5 (.mv (.t 28))]) .ret) .skip)) (.seq (.reg [
  ia 29 (.mv (.t 7)),
 ia 30 (.mv (.t 29)),
 ig 31 30 false (.mv (.t 8)),
 ig 32 30 false (.bin .lss (.t 31) (ci 3)),
 ia 33 (.pick (.t 30) (.c (.a (.p (.b true)))) (.t 32)),
 ia 7 (.mv (.t 33))]) (.reg [
  ia 34 (.mv (.t 6)),
 ia 35 (.bin .add (.t 34) (ci 1)),
 ia 6 (.mv (.t 35))]))))))
def F147 : FnC := ⟨2,(.seq (.reg [
  ia 4 (.mv (ci 0)),
 ia 5 (.mv (.c (.a (.p (.b false)))))]) (.seq (.reg [
  ia 6 (.mv (ci 0)),
 ia 7 (.mv (.c (.a (.p (.b false)))))]) (.seq (.block 0 (.loop F147b0)) (.seq (.reg [
  ia 36 (.mv (.t 6)),
 ia 37 (.mv (.t 7)),
 ia 4 (.mv (.t 36)),
 ia 5 (.mv (.t 37))]) .ret)))),[(.tmp 4),(.tmp 5)]⟩
theorem cc147 : ccF Tryz.prog [(42,[0,0]),(107,[1,0]),(74,[0,0]),(36,[0,0,0,0,0,0,0,0,0]),(160,[0,0]),(42,[9]),(105,[8]),(107,[8]),(75,[8]),(106,[8]),(79,[8])] Tryz.f147 = some (stripF F147) := by kernel_rfl
def F148b0 : C := (.seq (.seq (.reg [
  ia 27 (.mv (.t 5)),
 ia 28 (.bin .lss (.t 27) (ci 13))]) (.cond (.t 28) .skip (.exit 0))) (.seq (.block 1 (.seq (.reg [
  ir 31 (.mv (.t 5)),
 ir 32 (.ixs (.c (.a (.p (.s [92,46,40,41,61,123,125,124,43,45,42,47,60])))) (.t 31)),
 ir 33 (.mv (.t 0)),
 ir 34 (.mv (.t 1)),
 ir 35 (.ixs (.t 33) (.t 34)),
 ia 36 (.bin .eql (.t 32) (.t 35))]) (.cond (.t 36) (.seq (.reg [
  ia 4 (.mv (ci 1))]) .ret) .skip))) (.reg [
  ia 29 (.mv (.t 5)),
 ia 30 (.bin .add (.t 29) (ci 1)),
 ia 5 (.mv (.t 30))])))
def F148 : FnC := ⟨2,(.seq (.reg [
  ia 4 (.mv (ci 0))]) (.seq (.seq (.reg [
  ia 6 (.mv (.t 1)),
 ia 7 (.bin .add (.t 6) (ci 1)),
 ia 8 (.mv (.t 0)),
 ia 9 (.len true (.t 8)),
 ia 10 (.bin .lss (.t 7) (.t 9)),
 ia 11 (.mv (.t 10)),
 ig 12 11 true (.mv (.t 0)),
 ig 13 11 true (.mv (.t 1)),
 ig 14 11 true (.mv (.t 1)),
 ig 15 11 true (.bin .add (.t 14) (ci 2)),
 ig 16 11 true (.sub (.t 12) (.some (.t 13)) (.some (.t 15))),
 ig 17 11 true (.bin .eql (.t 16) (.c (.a (.p (.s [45,62]))))),
 ig 18 11 true (.mv (.t 17)),
 ig 19 18 false (.mv (.t 0)),
 ig 20 18 false (.mv (.t 1)),
 ig 21 18 false (.mv (.t 1)),
 ig 22 18 false (.bin .add (.t 21) (ci 2)),
 ig 23 18 false (.sub (.t 19) (.some (.t 20)) (.some (.t 22))),
 ig 24 18 false (.bin .eql (.t 23) (.c (.a (.p (.s [61,61]))))),
 ig 25 11 true (.pick (.t 18) (.c (.a (.p (.b true)))) (.t 24)),
 ia 26 (.pick (.t 11) (.t 25) (.c (.a (.p (.b false)))))]) (.cond (.t 26) (.seq (.reg [
  ia 4 (.mv (ci 2))]) .ret) .skip)) (.seq (.seq (.reg [
  ia 5 (.mv (ci 0))]) (.block 0 (.loop F148b0))) (.seq (.reg [
  ia 4 (.mv (ci 0))]) .ret)))),[(.tmp 4)]⟩
theorem cc148 : ccF Tryz.prog [(42,[0,0]),(107,[1,0]),(74,[0,0]),(36,[0,0,0,0,0,0,0,0,0]),(160,[0,0]),(42,[9]),(105,[8]),(107,[8]),(75,[8]),(106,[8]),(79,[8])] Tryz.f148 = some (stripF F148) := by kernel_rfl
def F149b0 : C := (.seq (.seq (.reg [
  ia 5 (.mv (.t 4)),
 ia 6 (.mv (.t 0)),
 ia 7 (.len true (.t 6)),
 ia 8 (.bin .lss (.t 5) (.t 7))]) (.cond (.t 8) .skip (.exit 0))) (.seq (.block 1 (.reg [
  ia 11 (.mv (.t 3)),
 ia 12 (.bin .mul (ci 10) (.t 11)),
 ia 13 (.mv (.t 0)),
 ia 14 (.mv (.t 4)),
 ia 15 (.ixs (.t 13) (.t 14)),
 ia 16 (.cvi .i64 (.t 15)),
 ia 17 (.bin .add (.t 12) (.t 16)),
 ia 18 (.bin .sub (.t 17) (ci 48)),
 ia 3 (.mv (.t 18))])) (.reg [
  ia 9 (.mv (.t 4)),
 ia 10 (.bin .add (.t 9) (ci 1)),
 ia 4 (.mv (.t 10))])))
def F149 : FnC := ⟨1,(.seq (.reg [
  ia 2 (.mv (ci 0))]) (.seq (.reg [
  ia 3 (.mv (ci 0))]) (.seq (.seq (.reg [
  ia 4 (.mv (ci 0))]) (.block 0 (.loop F149b0))) (.seq (.reg [
  ia 19 (.mv (.t 3)),
 ia 2 (.mv (.t 19))]) .ret)))),[(.tmp 2)]⟩
theorem cc149 : ccF Tryz.prog [(42,[0,0]),(107,[1,0]),(74,[0,0]),(36,[0,0,0,0,0,0,0,0,0]),(160,[0,0]),(42,[9]),(105,[8]),(107,[8]),(75,[8]),(106,[8]),(79,[8])] Tryz.f149 = some (stripF F149) := by kernel_rfl
def F150 : FnC := ⟨1,(.seq (.reg [
  ia 2 (.mv (.c (.a (.p (.b false)))))]) (.seq (.reg [
  ia 3 (.mv (.t 0)),
 ia 4 (.bin .eql (.t 3) (.c (.a (.p (.s [108,101,116]))))),
 ia 5 (.mv (.t 4)),
 ig 6 5 false (.mv (.t 0)),
 ig 7 5 false (.bin .eql (.t 6) (.c (.a (.p (.s [108,101,116,114,101,99]))))),
 ia 8 (.pick (.t 5) (.c (.a (.p (.b true)))) (.t 7)),
 ia 9 (.mv (.t 8)),
 ig 10 9 false (.mv (.t 0)),
 ig 11 9 false (.bin .eql (.t 10) (.c (.a (.p (.s [105,110]))))),
 ia 12 (.pick (.t 9) (.c (.a (.p (.b true)))) (.t 11)),
 ia 13 (.mv (.t 12)),
 ig 14 13 false (.mv (.t 0)),
 ig 15 13 false (.bin .eql (.t 14) (.c (.a (.p (.s [99,97,115,101]))))),
 ia 16 (.pick (.t 13) (.c (.a (.p (.b true)))) (.t 15)),
 ia 17 (.mv (.t 16)),
 ig 18 17 false (.mv (.t 0)),
 ig 19 17 false (.bin .eql (.t 18) (.c (.a (.p (.s [111,102]))))),
 ia 20 (.pick (.t 17) (.c (.a (.p (.b true)))) (.t 19)),
 ia 2 (.mv (.t 20))]) .ret)),[(.tmp 2)]⟩
theorem cc150 : ccF Tryz.prog [(42,[0,0]),(107,[1,0]),(74,[0,0]),(36,[0,0,0,0,0,0,0,0,0]),(160,[0,0]),(42,[9]),(105,[8]),(107,[8]),(75,[8]),(106,[8]),(79,[8])] Tryz.f150 = some (stripF F150) := by kernel_rfl
def F151 : FnC := ⟨2,(.seq (.reg [
  ia 4 (.mv (ci 0))]) (.seq (.seq (.reg [
  ia 5 (.mv (.t 1)),
 ia 6 (.mv (.t 0)),
 ia 7 (.len false (.t 6)),
 ia 8 (.bin .lss (.t 5) (.t 7))]) (.cond (.t 8) (.seq (.reg [
  ia 9 (.mv (.t 0)),
 ia 10 (.mv (.t 1)),
 ia 11 (.ias 4 (.t 9) (.t 10)),
 ia 12 (.fad 0 (.t 11)),
 ia 13 (.ld 1 false (.t 12)),
 ia 4 (.mv (.t 13))]) .ret) .skip)) (.seq (.reg [
  ia 4 (.mv (ci 0))]) .ret))),[(.tmp 4)]⟩
theorem cc151 : ccF Tryz.prog [(42,[0,0]),(107,[1,0]),(74,[0,0]),(36,[0,0,0,0,0,0,0,0,0]),(160,[0,0]),(42,[9]),(105,[8]),(107,[8]),(75,[8]),(106,[8]),(79,[8])] Tryz.f151 = some (stripF F151) := by kernel_rfl
def F152 : FnC := ⟨1,(.seq (.reg [
  ia 2 (.new [(.p (.i .i64 0)),(.p (.s [])),(.p (.i .i64 0)),(.p (.i .i64 0)),.nil,(.p (.i .i64 0)),(.p (.b false))])]) (.seq (.reg [
  ia 3 (.mv (.t 0)),
 ia 4 (.build [(.p (.i .i64 0)),(.p (.s [])),(.p (.i .i64 0)),(.p (.i .i64 0)),.nil,(.p (.i .i64 0)),(.p (.b false))] [(5,(1,(.t 3)))]),
 io (.st 7 (.t 2) (.t 4))]) .ret)),[(.cell 2 7 true)]⟩
theorem cc152 : ccF Tryz.prog [(42,[0,0]),(107,[1,0]),(74,[0,0]),(36,[0,0,0,0,0,0,0,0,0]),(160,[0,0]),(42,[9]),(105,[8]),(107,[8]),(75,[8]),(106,[8]),(79,[8])] Tryz.f152 = some (stripF F152) := by kernel_rfl
def F153 : FnC := ⟨2,(.seq (.reg [
  ia 2 (.box 5 (.t 0)),
 ia 4 (.new [(.p (.i .i64 0)),(.p (.s [])),(.p (.i .i64 0)),(.p (.i .i64 0)),.nil,(.p (.i .i64 0)),(.p (.b false))])]) (.seq (.reg [
  ia 5 (.ld 5 true (.t 2)),
 ia 6 (.mv (.t 1)),
 ia 7 (.build [(.p (.i .i64 0)),(.p (.s [])),(.p (.i .i64 0)),(.p (.i .i64 0)),.nil,(.p (.i .i64 0)),(.p (.b false))] [(0,(5,(.t 5))),(5,(1,(.t 6))),(6,(1,(.c (.a (.p (.b true))))))]),
 io (.st 7 (.t 4) (.t 7))]) .ret)),[(.cell 4 7 true)]⟩
theorem cc153 : ccF Tryz.prog [(42,[0,0]),(107,[1,0]),(74,[0,0]),(36,[0,0,0,0,0,0,0,0,0]),(160,[0,0]),(42,[9]),(105,[8]),(107,[8]),(75,[8]),(106,[8]),(79,[8])] Tryz.f153 = some (stripF F153) := by kernel_rfl
def F154b0 : C := (.seq (.seq (.reg [
  ia 27 (.mv (.t 0)),
 ia 28 (.mv (.t 6)),
 ia 29 (.call (.f 151) [(.t 27),(.t 28)]),
 ia 30 (.bin .eql (.t 29) (ci 1))]) (.cond (.t 30) .skip (.exit 0))) (.block 1 (.seq (.seq (.reg [
  ia 31 (.fad 2 (.t 5)),
 ia 32 (.ld 1 false (.t 31)),
 ia 33 (.bin .eql (.t 32) (ci 8))]) (.cond (.t 33) (.seq (.reg [
  ia 34 (.mv (.t 6)),
 ia 35 (.call (.f 152) [(.t 34)]),
 io (.st 7 (.t 4) (.t 35))]) .ret) .skip)) (.seq (.reg [
  ia 36 (.fad 2 (.t 5)),
 ia 37 (.ld 1 false (.t 36)),
 ia 38 (.bin .add (.t 37) (ci 1)),
 ia 39 (.fad 2 (.t 5)),
 io (.st 1 (.t 39) (.t 38))]) (.seq (.reg [
  ir 40 (.fad 4 (.t 5)),
 ir 41 (.ld 1 false (.t 40)),
 ir 42 (.mv (.t 0)),
 ir 43 (.mv (.t 6)),
 ir 44 (.ias 4 (.t 42) (.t 43)),
 ir 45 (.fad 1 (.t 44)),
 ir 46 (.ld 1 false (.t 45)),
 ir 47 (.mv (.t 0)),
 ir 48 (.mv (.t 6)),
 ir 49 (.ias 4 (.t 47) (.t 48)),
 ir 50 (.fad 3 (.t 49)),
 ir 51 (.ld 1 false (.t 50)),
 ir 52 (.build [(.p (.i .i64 0)),(.p (.s [])),(.p (.i .i64 0)),(.p (.i .i64 0)),.nil] [(0,(1,(ci 1))),(1,(1,(.t 46))),(3,(1,(.t 51)))]),
 ⟨(.some 53),.none,(.bsl 5 96 [(.p (.i .i64 0)),(.p (.s [])),(.p (.i .i64 0)),(.p (.i .i64 0)),.nil] 1 [(0,(.t 52))]),.ad⟩,
 ia 54 (.app 5 96 64 (.t 41) (.t 53)),
 ia 55 (.fad 4 (.t 5)),
 io (.st 1 (.t 55) (.t 54))]) (.reg [
  ia 56 (.mv (.t 6)),
 ia 57 (.bin .add (.t 56) (ci 1)),
 ia 6 (.mv (.t 57))]))))))
def F154 : FnC := ⟨2,(.seq (.reg [
  ia 4 (.new [(.p (.i .i64 0)),(.p (.s [])),(.p (.i .i64 0)),(.p (.i .i64 0)),.nil,(.p (.i .i64 0)),(.p (.b false))])]) (.seq (.seq (.reg [
  ia 8 (.mv (.t 0)),
 ia 9 (.mv (.t 1)),
 ia 10 (.call (.f 151) [(.t 8),(.t 9)]),
 ia 11 (.bin .neq (.t 10) (ci 2))]) (.cond (.t 11) (.seq (.reg [
  ia 12 (.mv (.t 1)),
 ia 13 (.call (.f 152) [(.t 12)]),
 io (.st 7 (.t 4) (.t 13))]) .ret) .skip)) (.seq (.reg [
  ir 14 (.mv (.t 0)),
 ir 15 (.mv (.t 1)),
 ir 16 (.ias 4 (.t 14) (.t 15)),
 ir 17 (.fad 1 (.t 16)),
 ir 18 (.ld 1 false (.t 17)),
 ir 19 (.mv (.t 0)),
 ir 20 (.mv (.t 1)),
 ir 21 (.ias 4 (.t 19) (.t 20)),
 ir 22 (.fad 3 (.t 21)),
 ir 23 (.ld 1 false (.t 22)),
 ir 24 (.build [(.p (.i .i64 0)),(.p (.s [])),(.p (.i .i64 0)),(.p (.i .i64 0)),.nil] [(0,(1,(ci 8))),(1,(1,(.t 18))),(3,(1,(.t 23)))]),
 ⟨(.some 5),.none,(.new [(.p (.i .i64 0)),(.p (.s [])),(.p (.i .i64 0)),(.p (.i .i64 0)),.nil]),.ad⟩,
 io (.st 5 (.t 5) (.t 24))]) (.seq (.reg [
  ia 25 (.mv (.t 1)),
 ia 26 (.bin .add (.t 25) (ci 1)),
 ia 6 (.mv (.t 26))]) (.seq (.block 0 (.loop F154b0)) (.seq (.seq (.reg [
  ia 58 (.mv (.t 0)),
 ia 59 (.mv (.t 6)),
 ia 60 (.call (.f 114) [(.t 58),(.t 59)]),
 ia 61 (.bin .neq (.t 60) (.c (.a (.p (.s [45,62])))))]) (.cond (.t 61) (.seq (.reg [
  ia 62 (.mv (.t 6)),
 ia 63 (.call (.f 152) [(.t 62)]),
 io (.st 7 (.t 4) (.t 63))]) .ret) .skip)) (.seq (.reg [
  ia 64 (.mv (.t 0)),
 ia 65 (.mv (.t 6)),
 ia 66 (.bin .add (.t 65) (ci 1)),
 ia 67 (.call (.f 82) [(.t 64),(.t 66)]),
 ia 7 (.new [(.p (.i .i64 0)),(.p (.s [])),(.p (.i .i64 0)),(.p (.i .i64 0)),.nil,(.p (.i .i64 0)),(.p (.b false))]),
 io (.st 7 (.t 7) (.t 67))]) (.seq (.seq (.reg [
  ia 68 (.fad 6 (.t 7)),
 ia 69 (.ld 1 false (.t 68)),
 ia 70 (.not (.t 69))]) (.cond (.t 70) (.seq (.reg [
  ia 71 (.ld 7 true (.t 7)),
 io (.st 7 (.t 4) (.t 71))]) .ret) .skip)) (.seq (.reg [
  ia 72 (.fad 4 (.t 5)),
 ia 73 (.ld 1 false (.t 72)),
 ia 74 (.fad 0 (.t 7)),
 ia 75 (.ld 5 true (.t 74)),
 ia 76 (.bsl 5 96 [(.p (.i .i64 0)),(.p (.s [])),(.p (.i .i64 0)),(.p (.i .i64 0)),.nil] 1 [(0,(.t 75))]),
 ia 77 (.app 5 96 64 (.t 73) (.t 76)),
 ia 78 (.fad 4 (.t 5)),
 io (.st 1 (.t 78) (.t 77))]) (.seq (.reg [
  ia 79 (.ld 5 true (.t 5)),
 ia 80 (.fad 5 (.t 7)),
 ia 81 (.ld 1 false (.t 80)),
 ia 82 (.call (.f 153) [(.t 79),(.t 81)]),
 io (.st 7 (.t 4) (.t 82))]) .ret)))))))))),[(.cell 4 7 true)]⟩
theorem cc154 : ccF Tryz.prog [(42,[0,0]),(107,[1,0]),(74,[0,0]),(36,[0,0,0,0,0,0,0,0,0]),(160,[0,0]),(42,[9]),(105,[8]),(107,[8]),(75,[8]),(106,[8]),(79,[8])] Tryz.f154 = some (stripF F154) := by kernel_rfl
def F155b0 : C := (.seq (.seq (.reg [
  ia 15 (.fad 6 (.t 5)),
 ia 16 (.ld 1 false (.t 15)),
 ia 17 (.mv (.t 16)),
 ig 18 17 true (.mv (.t 0)),
 ig 19 17 true (.fad 5 (.t 5)),
 ig 20 17 true (.ld 1 false (.t 19)),
 ig 21 17 true (.call (.f 169) [(.t 18),(.t 20)]),
 ia 22 (.pick (.t 17) (.t 21) (.c (.a (.p (.b false)))))]) (.cond (.t 22) .skip (.exit 0))) (.block 1 (.seq (.seq (.reg [
  ia 23 (.mv (.t 6)),
 ia 24 (.mv (.t 23)),
 ig 25 24 true (.fad 0 (.t 5)),
 ig 26 24 true (.fad 4 (.t 25)),
 ig 27 24 true (.ld 1 false (.t 26)),
 ig 28 24 true (.len false (.t 27)),
 ig 29 24 true (.bin .eql (.t 28) (ci 8)),
 ia 30 (.pick (.t 24) (.t 29) (.c (.a (.p (.b false)))))]) (.cond (.t 30) (.seq (.reg [
  ia 31 (.fad 5 (.t 5)),
 ia 32 (.ld 1 false (.t 31)),
 ia 33 (.call (.f 152) [(.t 32)]),
 io (.st 7 (.t 4) (.t 33))]) .ret) .skip)) (.seq (.reg [
  ia 34 (.mv (.t 0)),
 ia 35 (.fad 5 (.t 5)),
 ia 36 (.ld 1 false (.t 35)),
 ia 37 (.call (.f 168) [(.t 34),(.t 36)]),
 ia 7 (.new [(.p (.i .i64 0)),(.p (.s [])),(.p (.i .i64 0)),(.p (.i .i64 0)),.nil,(.p (.i .i64 0)),(.p (.b false))]),
 io (.st 7 (.t 7) (.t 37))]) (.seq (.seq (.reg [
  ia 38 (.fad 6 (.t 7)),
 ia 39 (.ld 1 false (.t 38)),
 ia 40 (.not (.t 39))]) (.cond (.t 40) (.seq (.reg [
  ia 41 (.ld 7 true (.t 7)),
 io (.st 7 (.t 4) (.t 41))]) .ret) .skip)) (.seq (.reg [
  ia 42 (.mv (.t 6))]) (.cond (.t 42) (.seq (.reg [
  ia 43 (.fad 0 (.t 5)),
 ia 44 (.fad 4 (.t 43)),
 ia 45 (.ld 1 false (.t 44)),
 ia 46 (.fad 0 (.t 7)),
 ia 47 (.ld 5 true (.t 46)),
 ia 48 (.bsl 5 96 [(.p (.i .i64 0)),(.p (.s [])),(.p (.i .i64 0)),(.p (.i .i64 0)),.nil] 1 [(0,(.t 47))]),
 ia 49 (.app 5 96 64 (.t 45) (.t 48)),
 ia 50 (.fad 0 (.t 5)),
 ia 51 (.fad 4 (.t 50)),
 io (.st 1 (.t 51) (.t 49))]) (.reg [
  ia 52 (.fad 5 (.t 7)),
 ia 53 (.ld 1 false (.t 52)),
 ia 54 (.fad 5 (.t 5)),
 io (.st 1 (.t 54) (.t 53))])) (.reg [
  ia 55 (.fad 0 (.t 5)),
 ia 56 (.fad 3 (.t 55)),
 ia 57 (.ld 1 false (.t 56)),
 ia 58 (.fad 0 (.t 5)),
 ia 59 (.ld 5 true (.t 58)),
 ia 60 (.fad 0 (.t 7)),
 ia 61 (.ld 5 true (.t 60)),
 ia 62 (.bsl 5 96 [(.p (.i .i64 0)),(.p (.s [])),(.p (.i .i64 0)),(.p (.i .i64 0)),.nil] 2 [(0,(.t 59)),(1,(.t 61))]),
 ia 63 (.build [(.p (.i .i64 0)),(.p (.s [])),(.p (.i .i64 0)),(.p (.i .i64 0)),.nil] [(0,(1,(ci 3))),(3,(1,(.t 57))),(4,(1,(.t 62)))]),
 ia 64 (.fad 5 (.t 7)),
 ia 65 (.ld 1 false (.t 64)),
 ia 66 (.call (.f 153) [(.t 63),(.t 65)]),
 io (.st 7 (.t 5) (.t 66))]))))))))
def F155 : FnC := ⟨2,(.seq (.reg [
  ia 4 (.new [(.p (.i .i64 0)),(.p (.s [])),(.p (.i .i64 0)),(.p (.i .i64 0)),.nil,(.p (.i .i64 0)),(.p (.b false))])]) (.seq (.reg [
  ia 8 (.mv (.t 0)),
 ia 9 (.mv (.t 1)),
 ia 10 (.call (.f 168) [(.t 8),(.t 9)]),
 ia 5 (.new [(.p (.i .i64 0)),(.p (.s [])),(.p (.i .i64 0)),(.p (.i .i64 0)),.nil,(.p (.i .i64 0)),(.p (.b false))]),
 io (.st 7 (.t 5) (.t 10))]) (.seq (.reg [
  ia 11 (.mv (.t 0)),
 ia 12 (.mv (.t 1)),
 ia 13 (.call (.f 151) [(.t 11),(.t 12)]),
 ia 14 (.bin .eql (.t 13) (ci 2)),
 ia 6 (.mv (.t 14))]) (.seq (.block 0 (.loop F155b0)) (.seq (.reg [
  ia 67 (.ld 7 true (.t 5)),
 io (.st 7 (.t 4) (.t 67))]) .ret))))),[(.cell 4 7 true)]⟩
theorem cc155 : ccF Tryz.prog [(42,[0,0]),(107,[1,0]),(74,[0,0]),(36,[0,0,0,0,0,0,0,0,0]),(160,[0,0]),(42,[9]),(105,[8]),(107,[8]),(75,[8]),(106,[8]),(79,[8])] Tryz.f155 = some (stripF F155) := by kernel_rfl
def F156 : FnC := ⟨3,(.seq (.reg [
  ia 6 (.mv (.c (.a (.p (.b false)))))]) (.seq (.reg [
  ia 8 (.mv (.t 0)),
 ia 9 (.mv (.t 1)),
 ia 10 (.call (.f 114) [(.t 8),(.t 9)]),
 ia 7 (.mv (.t 10))]) (.seq (.seq (.reg [
  ia 11 (.mv (.t 2))]) (.block 0 (.seq (.reg [
  ia 13 (.bin .eql (.t 11) (ci 0)),
 ia 12 (.mv (.t 13))]) (.cond (.t 12) (.seq (.reg [
  ia 14 (.mv (.t 7)),
 ia 15 (.bin .eql (.t 14) (.c (.a (.p (.s [60]))))),
 ia 16 (.mv (.t 15)),
 ig 17 16 false (.mv (.t 7)),
 ig 18 16 false (.bin .eql (.t 17) (.c (.a (.p (.s [61,61]))))),
 ia 19 (.pick (.t 16) (.c (.a (.p (.b true)))) (.t 18)),
 ia 6 (.mv (.t 19))]) .ret) (.seq (.reg [
  ia 21 (.bin .eql (.t 11) (ci 1)),
 ia 20 (.mv (.t 21))]) (.cond (.t 20) (.seq (.reg [
  ia 22 (.mv (.t 7)),
 ia 23 (.bin .eql (.t 22) (.c (.a (.p (.s [43]))))),
 ia 24 (.mv (.t 23)),
 ig 25 24 false (.mv (.t 7)),
 ig 26 24 false (.bin .eql (.t 25) (.c (.a (.p (.s [45]))))),
 ia 27 (.pick (.t 24) (.c (.a (.p (.b true)))) (.t 26)),
 ia 6 (.mv (.t 27))]) .ret) .skip)))))) (.seq (.reg [
  ia 28 (.mv (.t 7)),
 ia 29 (.bin .eql (.t 28) (.c (.a (.p (.s [42]))))),
 ia 30 (.mv (.t 29)),
 ig 31 30 false (.mv (.t 7)),
 ig 32 30 false (.bin .eql (.t 31) (.c (.a (.p (.s [47]))))),
 ia 33 (.pick (.t 30) (.c (.a (.p (.b true)))) (.t 32)),
 ia 6 (.mv (.t 33))]) .ret)))),[(.tmp 6)]⟩
theorem cc156 : ccF Tryz.prog [(42,[0,0]),(107,[1,0]),(74,[0,0]),(36,[0,0,0,0,0,0,0,0,0]),(160,[0,0]),(42,[9]),(105,[8]),(107,[8]),(75,[8]),(106,[8]),(79,[8])] Tryz.f156 = some (stripF F156) := by kernel_rfl
def F157b0 : C := (.seq (.seq (.reg [
  ia 26 (.mv (.t 5)),
 ia 27 (.fad 4 (.t 2)),
 ia 28 (.ld 1 false (.t 27)),
 ia 29 (.len false (.t 28)),
 ia 30 (.bin .lss (.t 26) (.t 29))]) (.cond (.t 30) .skip (.exit 0))) (.seq (.block 1 (.seq (.seq (.reg [
  ia 33 (.fad 0 (.t 2)),
 ia 34 (.ld 1 false (.t 33)),
 ia 35 (.bin .eql (.t 34) (ci 8)),
 ia 36 (.mv (.t 35)),
 ig 37 36 true (.mv (.t 5)),
 ig 38 36 true (.fad 2 (.t 2)),
 ig 39 36 true (.ld 1 false (.t 38)),
 ig 40 36 true (.bin .lss (.t 37) (.t 39)),
 ia 41 (.pick (.t 36) (.t 40) (.c (.a (.p (.b false))))),
 ia 42 (.mv (.t 41)),
 ig 43 42 true (.fad 4 (.t 2)),
 ig 44 42 true (.ld 1 false (.t 43)),
 ig 45 42 true (.mv (.t 5)),
 ig 46 42 true (.ias 5 (.t 44) (.t 45)),
 ig 47 42 true (.fad 0 (.t 46)),
 ig 48 42 true (.ld 1 false (.t 47)),
 ig 49 42 true (.bin .neq (.t 48) (ci 1)),
 ia 50 (.pick (.t 42) (.t 49) (.c (.a (.p (.b false)))))]) (.cond (.t 50) (.seq (.reg [
  ia 4 (.mv (.c (.a (.p (.b false)))))]) .ret) .skip)) (.seq (.reg [
  ir 51 (.fad 4 (.t 2)),
 ir 52 (.ld 1 false (.t 51)),
 ir 53 (.mv (.t 5)),
 ir 54 (.ias 5 (.t 52) (.t 53)),
 ir 55 (.ld 5 true (.t 54)),
 ir 56 (.fad 0 (.t 2)),
 ir 57 (.ld 1 false (.t 56)),
 ir 58 (.bin .eql (.t 57) (ci 7)),
 ir 59 (.mv (.t 58)),
 ih 60 59 true (.mv (.t 5)),
 ih 61 59 true (.bin .gtr (.t 60) (ci 0)),
 ir 62 (.pick (.t 59) (.t 61) (.c (.a (.p (.b false))))),
 ia 63 (.call (.f 157) [(.t 55),(.t 62)]),
 ia 64 (.not (.t 63))]) (.cond (.t 64) (.seq (.reg [
  ia 4 (.mv (.c (.a (.p (.b false)))))]) .ret) .skip)))) (.reg [
  ia 31 (.mv (.t 5)),
 ia 32 (.bin .add (.t 31) (ci 1)),
 ia 5 (.mv (.t 32))])))
def F157 : FnC := ⟨2,(.seq (.reg [
  ia 2 (.box 5 (.t 0)),
 ia 4 (.mv (.c (.a (.p (.b false)))))]) (.seq (.seq (.reg [
  ia 6 (.fad 0 (.t 2)),
 ia 7 (.ld 1 false (.t 6)),
 ia 8 (.bin .eql (.t 7) (ci 8)),
 ia 9 (.mv (.t 1)),
 ia 10 (.eqb true (.t 8) (.t 9)),
 ia 11 (.mv (.t 10)),
 ig 12 11 false (.ld 5 true (.t 2)),
 ig 13 11 false (.call (.f 170) [(.t 12)]),
 ig 14 11 false (.not (.t 13)),
 ia 15 (.pick (.t 11) (.c (.a (.p (.b true)))) (.t 14)),
 ia 16 (.mv (.t 15)),
 ig 17 16 false (.ld 5 true (.t 2)),
 ig 18 16 false (.call (.f 171) [(.t 17)]),
 ig 19 16 false (.not (.t 18)),
 ia 20 (.pick (.t 16) (.c (.a (.p (.b true)))) (.t 19)),
 ia 21 (.mv (.t 20)),
 ig 22 21 false (.fad 3 (.t 2)),
 ig 23 21 false (.ld 1 false (.t 22)),
 ig 24 21 false (.bin .lss (.t 23) (ci 0)),
 ia 25 (.pick (.t 21) (.c (.a (.p (.b true)))) (.t 24))]) (.cond (.t 25) (.seq (.reg [
  ia 4 (.mv (.c (.a (.p (.b false)))))]) .ret) .skip)) (.seq (.seq (.reg [
  ia 5 (.mv (ci 0))]) (.block 0 (.loop F157b0))) (.seq (.reg [
  ia 4 (.mv (.c (.a (.p (.b true)))))]) .ret)))),[(.tmp 4)]⟩
theorem cc157 : ccF Tryz.prog [(42,[0,0]),(107,[1,0]),(74,[0,0]),(36,[0,0,0,0,0,0,0,0,0]),(160,[0,0]),(42,[9]),(105,[8]),(107,[8]),(75,[8]),(106,[8]),(79,[8])] Tryz.f157 = some (stripF F157) := by kernel_rfl
def F158b0 : C := (.seq (.seq (.reg [
  ia 6 (.mv (.t 5)),
 ia 7 (.mv (.t 0)),
 ia 8 (.len false (.t 7)),
 ia 9 (.bin .lss (.t 6) (.t 8))]) (.cond (.t 9) .skip (.exit 0))) (.seq (.block 1 (.seq (.reg [
  ia 12 (.mv (.t 0)),
 ia 13 (.mv (.t 5)),
 ia 14 (.ias 1 (.t 12) (.t 13)),
 ia 15 (.ld 1 false (.t 14)),
 ia 16 (.mv (.t 1)),
 ia 17 (.bin .eql (.t 15) (.t 16))]) (.cond (.t 17) (.seq (.reg [
  ia 4 (.mv (.c (.a (.p (.b true)))))]) .ret) .skip))) (.reg [
  ia 10 (.mv (.t 5)),
 ia 11 (.bin .add (.t 10) (ci 1)),
 ia 5 (.mv (.t 11))])))
def F158 : FnC := ⟨2,(.seq (.reg [
  ia 4 (.mv (.c (.a (.p (.b false)))))]) (.seq (.seq (.reg [
  ia 5 (.mv (ci 0))]) (.block 0 (.loop F158b0))) (.seq (.reg [
  ia 4 (.mv (.c (.a (.p (.b false)))))]) .ret))),[(.tmp 4)]⟩
theorem cc158 : ccF Tryz.prog [(42,[0,0]),(107,[1,0]),(74,[0,0]),(36,[0,0,0,0,0,0,0,0,0]),(160,[0,0]),(42,[9]),(105,[8]),(107,[8]),(75,[8]),(106,[8]),(79,[8])] Tryz.f158 = some (stripF F158) := by kernel_rfl
def F159 : FnC := ⟨1,(.seq (.reg [
  ia 1 (.box 5 (.t 0)),
 ia 2 (.mv (ci 0))]) (.seq (.seq (.reg [
  ia 3 (.fad 0 (.t 1)),
 ia 4 (.ld 1 false (.t 3)),
 ia 5 (.bin .eql (.t 4) (ci 6))]) (.cond (.t 5) (.seq (.reg [
  ia 6 (.fad 4 (.t 1)),
 ia 7 (.ld 1 false (.t 6)),
 ia 8 (.len false (.t 7)),
 ia 2 (.mv (.t 8))]) .ret) .skip)) (.seq (.seq (.reg [
  ia 9 (.fad 0 (.t 1)),
 ia 10 (.ld 1 false (.t 9)),
 ia 11 (.bin .eql (.t 10) (ci 8))]) (.cond (.t 11) (.seq (.reg [
  ia 12 (.fad 2 (.t 1)),
 ia 13 (.ld 1 false (.t 12)),
 ia 2 (.mv (.t 13))]) .ret) .skip)) (.seq (.reg [
  ia 2 (.mv (.c (.a (.p (.i .i64 (-1))))))]) .ret)))),[(.tmp 2)]⟩
theorem cc159 : ccF Tryz.prog [(42,[0,0]),(107,[1,0]),(74,[0,0]),(36,[0,0,0,0,0,0,0,0,0]),(160,[0,0]),(42,[9]),(105,[8]),(107,[8]),(75,[8]),(106,[8]),(79,[8])] Tryz.f159 = some (stripF F159) := by kernel_rfl
def F160b0 : C := (.seq (.seq (.reg [
  ia 6 (.mv (.t 5)),
 ia 7 (.mv (.t 0)),
 ia 8 (.len false (.t 7)),
 ia 9 (.bin .lss (.t 6) (.t 8))]) (.cond (.t 9) .skip (.exit 0))) (.seq (.block 1 (.seq (.reg [
  ia 12 (.mv (.t 0)),
 ia 13 (.mv (.t 5)),
 ia 14 (.ias 2 (.t 12) (.t 13)),
 ia 15 (.fad 0 (.t 14)),
 ia 16 (.ld 1 false (.t 15)),
 ia 17 (.mv (.t 1)),
 ia 18 (.bin .eql (.t 16) (.t 17))]) (.cond (.t 18) (.seq (.reg [
  ia 19 (.mv (.t 0)),
 ia 20 (.mv (.t 5)),
 ia 21 (.ias 2 (.t 19) (.t 20)),
 ia 22 (.fad 1 (.t 21)),
 ia 23 (.ld 1 false (.t 22)),
 ia 4 (.mv (.t 23))]) .ret) .skip))) (.reg [
  ia 10 (.mv (.t 5)),
 ia 11 (.bin .add (.t 10) (ci 1)),
 ia 5 (.mv (.t 11))])))
def F160 : FnC := ⟨2,(.seq (.reg [
  ia 4 (.mv (ci 0))]) (.seq (.seq (.reg [
  ia 5 (.mv (ci 0))]) (.block 0 (.loop F160b0))) (.seq (.reg [
  ia 4 (.mv (.c (.a (.p (.i .i64 (-1))))))]) .ret))),[(.tmp 4)]⟩
theorem cc160 : ccF Tryz.prog [(42,[0,0]),(107,[1,0]),(74,[0,0]),(36,[0,0,0,0,0,0,0,0,0]),(160,[0,0]),(42,[9]),(105,[8]),(107,[8]),(75,[8]),(106,[8]),(79,[8])] Tryz.f160 = some (stripF F160) := by kernel_rfl
def F161b1 : C := (.seq (.seq (.reg [
  ia 11 (.mv (.t 4)),
 ia 12 (.mv (.t 3)),
 ia 13 (.bin .lss (.t 11) (.t 12))]) (.cond (.t 13) .skip (.exit 2))) (.seq (.block 3 (.seq (.reg [
  ir 16 (.fad 4 (.t 1)),
 ir 17 (.ld 1 false (.t 16)),
 ir 18 (.mv (.t 3)),
 ir 19 (.ias 5 (.t 17) (.t 18)),
 ir 20 (.fad 1 (.t 19)),
 ir 21 (.ld 1 false (.t 20)),
 ir 22 (.fad 4 (.t 1)),
 ir 23 (.ld 1 false (.t 22)),
 ir 24 (.mv (.t 4)),
 ir 25 (.ias 5 (.t 23) (.t 24)),
 ir 26 (.fad 1 (.t 25)),
 ir 27 (.ld 1 false (.t 26)),
 ia 28 (.bin .eql (.t 21) (.t 27))]) (.cond (.t 28) (.seq (.reg [
  ia 2 (.mv (.c (.a (.p (.b true)))))]) .ret) .skip))) (.reg [
  ia 14 (.mv (.t 4)),
 ia 15 (.bin .add (.t 14) (ci 1)),
 ia 4 (.mv (.t 15))])))
def F161b0 : C := (.seq (.seq (.reg [
  ia 5 (.mv (.t 3)),
 ia 6 (.fad 2 (.t 1)),
 ia 7 (.ld 1 false (.t 6)),
 ia 8 (.bin .lss (.t 5) (.t 7))]) (.cond (.t 8) .skip (.exit 0))) (.seq (.block 1 (.seq (.reg [
  ia 4 (.mv (ci 0))]) (.block 2 (.loop F161b1)))) (.reg [
  ia 9 (.mv (.t 3)),
 ia 10 (.bin .add (.t 9) (ci 1)),
 ia 3 (.mv (.t 10))])))
def F161 : FnC := ⟨1,(.seq (.reg [
  ia 1 (.box 5 (.t 0)),
 ia 2 (.mv (.c (.a (.p (.b false)))))]) (.seq (.seq (.reg [
  ia 3 (.mv (ci 0))]) (.block 0 (.loop F161b0))) (.seq (.reg [
  ia 2 (.mv (.c (.a (.p (.b false)))))]) .ret))),[(.tmp 2)]⟩
theorem cc161 : ccF Tryz.prog [(42,[0,0]),(107,[1,0]),(74,[0,0]),(36,[0,0,0,0,0,0,0,0,0]),(160,[0,0]),(42,[9]),(105,[8]),(107,[8]),(75,[8]),(106,[8]),(79,[8])] Tryz.f161 = some (stripF F161) := by kernel_rfl
def F162 : FnC := ⟨1,(.seq (.reg [
  ia 1 (.box 5 (.t 0)),
 ia 2 (.mv (ci 0))]) (.seq (.seq (.reg [
  ia 3 (.fad 0 (.t 1)),
 ia 4 (.ld 1 false (.t 3)),
 ia 5 (.bin .eql (.t 4) (ci 8))]) (.cond (.t 5) (.seq (.reg [
  ia 6 (.fad 2 (.t 1)),
 ia 7 (.ld 1 false (.t 6)),
 ia 2 (.mv (.t 7))]) .ret) .skip)) (.seq (.reg [
  ia 2 (.mv (ci 0))]) .ret))),[(.tmp 2)]⟩
theorem cc162 : ccF Tryz.prog [(42,[0,0]),(107,[1,0]),(74,[0,0]),(36,[0,0,0,0,0,0,0,0,0]),(160,[0,0]),(42,[9]),(105,[8]),(107,[8]),(75,[8]),(106,[8]),(79,[8])] Tryz.f162 = some (stripF F162) := by kernel_rfl
def F163b0 : C := (.seq (.seq (.reg [
  ia 27 (.mv (.t 7)),
 ia 28 (.fad 2 (.t 3)),
 ia 29 (.ld 1 false (.t 28)),
 ia 30 (.bin .lss (.t 27) (.t 29))]) (.cond (.t 30) .skip (.exit 1))) (.seq (.block 2 (.reg [
  ia 33 (.mv (.t 2)),
 ia 34 (.fad 4 (.t 3)),
 ia 35 (.ld 1 false (.t 34)),
 ia 36 (.mv (.t 7)),
 ia 37 (.ias 5 (.t 35) (.t 36)),
 ia 38 (.fad 1 (.t 37)),
 ia 39 (.ld 1 false (.t 38)),
 ia 40 (.call (.f 172) [(.t 33),(.t 39)]),
 ia 2 (.mv (.t 40))])) (.reg [
  ia 31 (.mv (.t 7)),
 ia 32 (.bin .add (.t 31) (ci 1)),
 ia 7 (.mv (.t 32))])))
def F163 : FnC := ⟨3,(.seq (.reg [
  ia 3 (.box 5 (.t 0)),
 ia 6 (.mv (.c (.a .nil)))]) (.seq (.seq (.reg [
  ia 8 (.fad 0 (.t 3)),
 ia 9 (.ld 1 false (.t 8))]) (.block 0 (.seq (.seq (.reg [
  ia 11 (.bin .eql (.t 9) (ci 2)),
 ia 10 (.mv (.t 11))]) (.cond (.t 10) .skip (.reg [
  ia 12 (.bin .eql (.t 9) (ci 5)),
 ia 10 (.mv (.t 12))]))) (.cond (.t 10) (.seq (.reg [
  ia 13 (.mv (.t 2)),
 ia 14 (.fad 1 (.t 3)),
 ia 15 (.ld 1 false (.t 14)),
 ia 16 (.call (.f 172) [(.t 13),(.t 15)]),
 ia 6 (.mv (.t 16))]) .ret) (.seq (.reg [
  ia 18 (.bin .eql (.t 9) (ci 4)),
 ia 17 (.mv (.t 18))]) (.cond (.t 17) (.seq (.reg [
  ia 19 (.mv (.t 1)),
 ia 20 (.bin .eql (.t 19) (ci 1))]) (.cond (.t 20) (.seq (.reg [
  ia 21 (.mv (.t 2)),
 ia 22 (.fad 1 (.t 3)),
 ia 23 (.ld 1 false (.t 22)),
 ia 24 (.call (.f 172) [(.t 21),(.t 23)]),
 ia 6 (.mv (.t 24))]) .ret) .skip)) (.seq (.reg [
  ia 26 (.bin .eql (.t 9) (ci 8)),
 ia 25 (.mv (.t 26))]) (.cond (.t 25) (.seq (.reg [
  ia 7 (.mv (ci 0))]) (.block 1 (.loop F163b0))) .skip)))))))) (.seq (.reg [
  ia 41 (.mv (.t 2)),
 ia 6 (.mv (.t 41))]) .ret))),[(.tmp 6)]⟩
theorem cc163 : ccF Tryz.prog [(42,[0,0]),(107,[1,0]),(74,[0,0]),(36,[0,0,0,0,0,0,0,0,0]),(160,[0,0]),(42,[9]),(105,[8]),(107,[8]),(75,[8]),(106,[8]),(79,[8])] Tryz.f163 = some (stripF F163) := by kernel_rfl
def F164b0 : C := (.seq (.seq (.reg [
  ia 28 (.mv (.t 5)),
 ia 29 (.fad 4 (.t 2)),
 ia 30 (.ld 1 false (.t 29)),
 ia 31 (.len false (.t 30)),
 ia 32 (.bin .lss (.t 28) (.t 31))]) (.cond (.t 32) .skip (.exit 0))) (.seq (.block 1 (.reg [
  ia 35 (.fad 4 (.t 2)),
 ia 36 (.ld 1 false (.t 35)),
 ia 37 (.mv (.t 5)),
 ia 38 (.ias 5 (.t 36) (.t 37)),
 ia 39 (.ld 5 true (.t 38)),
 ia 40 (.mv (.t 1)),
 ia 41 (.call (.f 164) [(.t 39),(.t 40)]),
 ia 1 (.mv (.t 41))])) (.reg [
  ia 33 (.mv (.t 5)),
 ia 34 (.bin .add (.t 33) (ci 1)),
 ia 5 (.mv (.t 34))])))
def F164 : FnC := ⟨2,(.seq (.reg [
  ia 2 (.box 5 (.t 0)),
 ia 4 (.mv (.c (.a .nil)))]) (.seq (.seq (.reg [
  ia 6 (.ld 5 true (.t 2)),
 ia 7 (.call (.f 159) [(.t 6)]),
 ia 8 (.bin .geq (.t 7) (ci 0)),
 ia 9 (.mv (.t 8)),
 ig 10 9 true (.mv (.t 1)),
 ig 11 9 true (.fad 1 (.t 2)),
 ig 12 9 true (.ld 1 false (.t 11)),
 ig 13 9 true (.call (.f 160) [(.t 10),(.t 12)]),
 ig 14 9 true (.bin .lss (.t 13) (ci 0)),
 ia 15 (.pick (.t 9) (.t 14) (.c (.a (.p (.b false)))))]) (.cond (.t 15) (.reg [
  ⟨(.some 16),.none,(.bsl 2 107 [(.p (.s [])),(.p (.i .i64 0))] 0 []),.ad⟩,
 ir 17 (.mv (.t 1)),
 ir 19 (.fad 1 (.t 2)),
 ir 20 (.ld 1 false (.t 19)),
 ir 21 (.ld 5 true (.t 2)),
 ⟨(.some 18),.none,(.app 2 107 24 (.t 16) (.t 17)),(.cl [(1,19),(5,2)] [])⟩,
 ir 22 (.call (.f 159) [(.t 21)]),
 ia 23 (.build [(.p (.s [])),(.p (.i .i64 0))] [(0,(1,(.t 20))),(1,(1,(.t 22)))]),
 ia 24 (.bsl 2 107 [(.p (.s [])),(.p (.i .i64 0))] 1 [(0,(.t 23))]),
 ia 25 (.app 2 107 24 (.t 18) (.t 24)),
 ia 1 (.mv (.t 25))]) .skip)) (.seq (.seq (.reg [
  ia 26 (.ld 5 true (.t 2)),
 ia 27 (.call (.f 162) [(.t 26)]),
 ia 5 (.mv (.t 27))]) (.block 0 (.loop F164b0))) (.seq (.reg [
  ia 42 (.mv (.t 1)),
 ia 4 (.mv (.t 42))]) .ret)))),[(.tmp 4)]⟩
theorem cc164 : ccF Tryz.prog [(42,[0,0]),(107,[1,0]),(74,[0,0]),(36,[0,0,0,0,0,0,0,0,0]),(160,[0,0]),(42,[9]),(105,[8]),(107,[8]),(75,[8]),(106,[8]),(79,[8])] Tryz.f164 = some (stripF F164) := by kernel_rfl
def tblC : List (FuncId × FnC) := [(115,F115),(116,F116),(117,F117),(118,F118),(119,F119),(120,F120),(121,F121),(122,F122),(123,F123),(124,F124),(125,F125),(126,F126),(127,F127),(128,F128),(129,F129),(130,F130),(131,F131),(132,F132),(133,F133),(134,F134),(135,F135),(136,F136),(137,F137),(138,F138),(139,F139),(140,F140),(141,F141),(142,F142),(143,F143),(144,F144),(145,F145),(146,F146),(147,F147),(148,F148),(149,F149),(150,F150),(151,F151),(152,F152),(153,F153),(154,F154),(155,F155),(156,F156),(157,F157),(158,F158),(159,F159),(160,F160),(161,F161),(162,F162),(163,F163),(164,F164)]
theorem tblOkC : ∀ x,x ∈ tblC → ∃ fn,Tryz.prog.funcs[x.1]? = some fn ∧ ccF Tryz.prog [(42,[0,0]),(107,[1,0]),(74,[0,0]),(36,[0,0,0,0,0,0,0,0,0]),(160,[0,0]),(42,[9]),(105,[8]),(107,[8]),(75,[8]),(106,[8]),(79,[8])] fn = some (stripF x.2) := by
  intro x hx
  simp only [tblC,List.mem_cons,List.not_mem_nil,or_false] at hx
  rcases hx with rfl | rfl | rfl | rfl | rfl | rfl | rfl | rfl | rfl | rfl | rfl | rfl | rfl | rfl | rfl | rfl | rfl | rfl | rfl | rfl | rfl | rfl | rfl | rfl | rfl | rfl | rfl | rfl | rfl | rfl | rfl | rfl | rfl | rfl | rfl | rfl | rfl | rfl | rfl | rfl | rfl | rfl | rfl | rfl | rfl | rfl | rfl | rfl | rfl | rfl
  · exact ⟨_,Tryz.func115,cc115⟩
  · exact ⟨_,Tryz.func116,cc116⟩
  · exact ⟨_,Tryz.func117,cc117⟩
  · exact ⟨_,Tryz.func118,cc118⟩
  · exact ⟨_,Tryz.func119,cc119⟩
  · exact ⟨_,Tryz.func120,cc120⟩
  · exact ⟨_,Tryz.func121,cc121⟩
  · exact ⟨_,Tryz.func122,cc122⟩
  · exact ⟨_,Tryz.func123,cc123⟩
  · exact ⟨_,Tryz.func124,cc124⟩
  · exact ⟨_,Tryz.func125,cc125⟩
  · exact ⟨_,Tryz.func126,cc126⟩
  · exact ⟨_,Tryz.func127,cc127⟩
  · exact ⟨_,Tryz.func128,cc128⟩
  · exact ⟨_,Tryz.func129,cc129⟩
  · exact ⟨_,Tryz.func130,cc130⟩
  · exact ⟨_,Tryz.func131,cc131⟩
  · exact ⟨_,Tryz.func132,cc132⟩
  · exact ⟨_,Tryz.func133,cc133⟩
  · exact ⟨_,Tryz.func134,cc134⟩
  · exact ⟨_,Tryz.func135,cc135⟩
  · exact ⟨_,Tryz.func136,cc136⟩
  · exact ⟨_,Tryz.func137,cc137⟩
  · exact ⟨_,Tryz.func138,cc138⟩
  · exact ⟨_,Tryz.func139,cc139⟩
  · exact ⟨_,Tryz.func140,cc140⟩
  · exact ⟨_,Tryz.func141,cc141⟩
  · exact ⟨_,Tryz.func142,cc142⟩
  · exact ⟨_,Tryz.func143,cc143⟩
  · exact ⟨_,Tryz.func144,cc144⟩
  · exact ⟨_,Tryz.func145,cc145⟩
  · exact ⟨_,Tryz.func146,cc146⟩
  · exact ⟨_,Tryz.func147,cc147⟩
  · exact ⟨_,Tryz.func148,cc148⟩
  · exact ⟨_,Tryz.func149,cc149⟩
  · exact ⟨_,Tryz.func150,cc150⟩
  · exact ⟨_,Tryz.func151,cc151⟩
  · exact ⟨_,Tryz.func152,cc152⟩
  · exact ⟨_,Tryz.func153,cc153⟩
  · exact ⟨_,Tryz.func154,cc154⟩
  · exact ⟨_,Tryz.func155,cc155⟩
  · exact ⟨_,Tryz.func156,cc156⟩
  · exact ⟨_,Tryz.func157,cc157⟩
  · exact ⟨_,Tryz.func158,cc158⟩
  · exact ⟨_,Tryz.func159,cc159⟩
  · exact ⟨_,Tryz.func160,cc160⟩
  · exact ⟨_,Tryz.func161,cc161⟩
  · exact ⟨_,Tryz.func162,cc162⟩
  · exact ⟨_,Tryz.func163,cc163⟩
  · exact ⟨_,Tryz.func164,cc164⟩
end Go.Proofs.YtmlhgalboabjcaaGreat
namespace Go.Proofs.YtmlhgalboabjcaaGreat
open Go.Fx
def F165b0 : C := (.seq (.reg [
  ia 9 (.bin .lss (.t 8) (.t 7))]) (.seq (.cond (.t 9) .skip (.exit 0)) (.seq (.block 1 (.seq (.reg [
  ia 10 (.mv (.t 8)),
 ia 5 (.mv (.t 10))]) (.seq (.reg [
  ia 11 (.mv (.t 1)),
 ia 12 (.mv (.t 0)),
 ia 13 (.mv (.t 5)),
 ia 14 (.ias 1 (.t 12) (.t 13)),
 ia 15 (.ld 1 false (.t 14)),
 ia 16 (.bin .eql (.t 11) (.t 15))]) (.cond (.t 16) (.seq (.reg [
  ia 17 (.mv (.t 5)),
 ia 4 (.mv (.t 17))]) .ret) .skip)))) (.reg [
  ia 18 (.bin .add (.t 8) (ci 1)),
 ia 8 (.mv (.t 18))]))))
def F165 : FnC := ⟨2,(.seq (.reg [
  ia 4 (.mv (ci 0))]) (.seq (.seq (.reg [
  ia 6 (.mv (.t 0)),
 ia 7 (.len false (.t 6)),
 ia 8 (.mv (ci 0))]) (.block 0 (.loop F165b0))) (.seq (.reg [
  ia 4 (.mv (.c (.a (.p (.i .i64 (-1))))))]) .ret))),[(.tmp 4)]⟩
theorem cc165 : ccF Tryz.prog [(42,[0,0]),(107,[1,0]),(74,[0,0]),(36,[0,0,0,0,0,0,0,0,0]),(160,[0,0]),(42,[9]),(105,[8]),(107,[8]),(75,[8]),(106,[8]),(79,[8])] Tryz.f165 = some (stripF F165) := by kernel_rfl
def F166b0 : C := (.seq (.reg [
  ia 9 (.bin .lss (.t 8) (.t 7))]) (.seq (.cond (.t 9) .skip (.exit 0)) (.seq (.block 1 (.seq (.reg [
  ia 10 (.mv (.t 8)),
 ia 5 (.mv (.t 10))]) (.seq (.reg [
  ia 11 (.mv (.t 1)),
 ia 12 (.mv (.t 0)),
 ia 13 (.mv (.t 5)),
 ia 14 (.ias 2 (.t 12) (.t 13)),
 ia 15 (.ld 2 true (.t 14)),
 ia 16 (.call (.t 11) [(.t 15)])]) (.cond (.t 16) (.seq (.reg [
  ia 17 (.mv (.t 5)),
 ia 4 (.mv (.t 17))]) .ret) .skip)))) (.reg [
  ia 18 (.bin .add (.t 8) (ci 1)),
 ia 8 (.mv (.t 18))]))))
def F166 : FnC := ⟨2,(.seq (.reg [
  ia 4 (.mv (ci 0))]) (.seq (.seq (.reg [
  ia 6 (.mv (.t 0)),
 ia 7 (.len false (.t 6)),
 ia 8 (.mv (ci 0))]) (.block 0 (.loop F166b0))) (.seq (.reg [
  ia 4 (.mv (.c (.a (.p (.i .i64 (-1))))))]) .ret))),[(.tmp 4)]⟩
theorem cc166 : ccF Tryz.prog [(42,[0,0]),(107,[1,0]),(74,[0,0]),(36,[0,0,0,0,0,0,0,0,0]),(160,[0,0]),(42,[9]),(105,[8]),(107,[8]),(75,[8]),(106,[8]),(79,[8])] Tryz.f166 = some (stripF F166) := by kernel_rfl
def F167 : FnC := ⟨3,(.seq (.reg [
  ia 3 (.box 2 (.t 0)),
 ia 4 (.box 2 (.t 1)),
 ia 5 (.box 2 (.t 2)),
 ia 6 (.new [.nil,(.p (.i .i64 0))])]) (.seq (.reg [
  ia 8 (.fad 0 (.t 3)),
 ia 9 (.fad 0 (.t 8)),
 ia 10 (.ld 1 false (.t 9)),
 ia 11 (.fad 0 (.t 4)),
 ia 12 (.ld 1 false (.t 11)),
 ia 13 (.ias 6 (.t 10) (.t 12)),
 ia 14 (.ld 6 true (.t 13)),
 ia 7 (.new [(.p (.i .i64 0)),(.p (.i .i64 0)),(.p (.i .i64 0)),(.p (.s [])),.nil,.nil]),
 io (.st 6 (.t 7) (.t 14))]) (.seq (.reg [
  ia 15 (.fad 5 (.t 7)),
 ia 16 (.ld 1 false (.t 15)),
 ia 17 (.call (.f 173) [(.t 16)]),
 ia 18 (.fad 5 (.t 7)),
 io (.st 1 (.t 18) (.t 17))]) (.seq (.reg [
  ia 19 (.fad 5 (.t 7)),
 ia 20 (.ld 1 false (.t 19)),
 ia 21 (.fad 1 (.t 4)),
 ia 22 (.ld 1 false (.t 21)),
 ia 23 (.ld 2 true (.t 5)),
 ia 24 (.ias 2 (.t 20) (.t 22)),
 io (.st 2 (.t 24) (.t 23))]) (.seq (.reg [
  ia 25 (.fad 0 (.t 3)),
 ia 26 (.fad 0 (.t 25)),
 ia 27 (.ld 1 false (.t 26)),
 ia 28 (.call (.f 174) [(.t 27)]),
 ia 29 (.fad 0 (.t 3)),
 ia 30 (.fad 0 (.t 29)),
 io (.st 1 (.t 30) (.t 28))]) (.seq (.reg [
  ia 31 (.fad 0 (.t 3)),
 ia 32 (.fad 0 (.t 31)),
 ia 33 (.ld 1 false (.t 32)),
 ia 34 (.fad 0 (.t 4)),
 ia 35 (.ld 1 false (.t 34)),
 ia 36 (.ld 6 true (.t 7)),
 ia 37 (.ias 6 (.t 33) (.t 35)),
 io (.st 6 (.t 37) (.t 36))]) (.seq (.reg [
  ia 38 (.ld 2 true (.t 3)),
 io (.st 2 (.t 6) (.t 38))]) .ret))))))),[(.cell 6 2 true)]⟩
theorem cc167 : ccF Tryz.prog [(42,[0,0]),(107,[1,0]),(74,[0,0]),(36,[0,0,0,0,0,0,0,0,0]),(160,[0,0]),(42,[9]),(105,[8]),(107,[8]),(75,[8]),(106,[8]),(79,[8])] Tryz.f167 = some (stripF F167) := by kernel_rfl
def F168 : FnC := ⟨2,(.seq (.reg [
  ia 4 (.new [(.p (.i .i64 0)),(.p (.s [])),(.p (.i .i64 0)),(.p (.i .i64 0)),.nil,(.p (.i .i64 0)),(.p (.b false))])]) (.seq (.seq (.reg [
  ia 6 (.mv (.t 0)),
 ia 7 (.mv (.t 1)),
 ia 8 (.call (.f 114) [(.t 6),(.t 7)]),
 ia 9 (.bin .eql (.t 8) (.c (.a (.p (.s [40])))))]) (.cond (.t 9) (.seq (.reg [
  ia 10 (.mv (.t 0)),
 ia 11 (.mv (.t 1)),
 ia 12 (.bin .add (.t 11) (ci 1)),
 ia 13 (.call (.f 82) [(.t 10),(.t 12)]),
 ia 5 (.new [(.p (.i .i64 0)),(.p (.s [])),(.p (.i .i64 0)),(.p (.i .i64 0)),.nil,(.p (.i .i64 0)),(.p (.b false))]),
 io (.st 7 (.t 5) (.t 13))]) (.seq (.seq (.reg [
  ia 14 (.fad 6 (.t 5)),
 ia 15 (.ld 1 false (.t 14)),
 ia 16 (.mv (.t 15)),
 ig 17 16 true (.mv (.t 0)),
 ig 18 16 true (.fad 5 (.t 5)),
 ig 19 16 true (.ld 1 false (.t 18)),
 ig 20 16 true (.call (.f 114) [(.t 17),(.t 19)]),
 ig 21 16 true (.bin .neq (.t 20) (.c (.a (.p (.s [41]))))),
 ia 22 (.pick (.t 16) (.t 21) (.c (.a (.p (.b false)))))]) (.cond (.t 22) (.seq (.reg [
  ia 23 (.fad 5 (.t 5)),
 ia 24 (.ld 1 false (.t 23)),
 ia 25 (.call (.f 152) [(.t 24)]),
 io (.st 7 (.t 4) (.t 25))]) .ret) .skip)) (.seq (.reg [
  ia 26 (.fad 5 (.t 5)),
 ia 27 (.ld 1 false (.t 26)),
 ia 28 (.bin .add (.t 27) (ci 1)),
 ia 29 (.fad 5 (.t 5)),
 io (.st 1 (.t 29) (.t 28))]) (.seq (.seq (.reg [
  ia 30 (.fad 6 (.t 5)),
 ia 31 (.ld 1 false (.t 30)),
 ia 32 (.not (.t 31))]) (.cond (.t 32) (.reg [
  ia 33 (.fad 5 (.t 5)),
 ia 34 (.ld 1 false (.t 33)),
 ia 35 (.bin .sub (.t 34) (ci 1)),
 ia 36 (.fad 5 (.t 5)),
 io (.st 1 (.t 36) (.t 35))]) .skip)) (.seq (.reg [
  ia 37 (.ld 7 true (.t 5)),
 io (.st 7 (.t 4) (.t 37))]) .ret))))) .skip)) (.seq (.seq (.reg [
  ia 38 (.mv (.t 0)),
 ia 39 (.mv (.t 1)),
 ia 40 (.call (.f 151) [(.t 38),(.t 39)])]) (.block 0 (.seq (.reg [
  ia 42 (.bin .eql (.t 40) (ci 1)),
 ia 41 (.mv (.t 42))]) (.cond (.t 41) (.seq (.reg [
  ir 43 (.mv (.t 0)),
 ir 44 (.mv (.t 1)),
 ir 45 (.ias 4 (.t 43) (.t 44)),
 ir 46 (.fad 1 (.t 45)),
 ir 47 (.ld 1 false (.t 46)),
 ir 48 (.mv (.t 0)),
 ir 49 (.mv (.t 1)),
 ir 50 (.ias 4 (.t 48) (.t 49)),
 ir 51 (.fad 3 (.t 50)),
 ir 52 (.ld 1 false (.t 51)),
 ir 53 (.build [(.p (.i .i64 0)),(.p (.s [])),(.p (.i .i64 0)),(.p (.i .i64 0)),.nil] [(0,(1,(ci 1))),(1,(1,(.t 47))),(3,(1,(.t 52)))]),
 ir 54 (.mv (.t 1)),
 ir 55 (.bin .add (.t 54) (ci 1)),
 ia 56 (.call (.f 153) [(.t 53),(.t 55)]),
 io (.st 7 (.t 4) (.t 56))]) .ret) (.seq (.reg [
  ia 58 (.bin .eql (.t 40) (ci 2)),
 ia 57 (.mv (.t 58))]) (.cond (.t 57) (.seq (.reg [
  ir 59 (.mv (.t 0)),
 ir 60 (.mv (.t 1)),
 ir 61 (.ias 4 (.t 59) (.t 60)),
 ir 62 (.fad 1 (.t 61)),
 ir 63 (.ld 1 false (.t 62)),
 ir 64 (.mv (.t 0)),
 ir 65 (.mv (.t 1)),
 ir 66 (.ias 4 (.t 64) (.t 65)),
 ir 67 (.fad 3 (.t 66)),
 ir 68 (.ld 1 false (.t 67)),
 ir 69 (.build [(.p (.i .i64 0)),(.p (.s [])),(.p (.i .i64 0)),(.p (.i .i64 0)),.nil] [(0,(1,(ci 6))),(1,(1,(.t 63))),(3,(1,(.t 68)))]),
 ir 70 (.mv (.t 1)),
 ir 71 (.bin .add (.t 70) (ci 1)),
 ia 72 (.call (.f 153) [(.t 69),(.t 71)]),
 io (.st 7 (.t 4) (.t 72))]) .ret) (.seq (.reg [
  ia 74 (.bin .eql (.t 40) (ci 3)),
 ia 73 (.mv (.t 74))]) (.cond (.t 73) (.seq (.reg [
  ir 75 (.mv (.t 0)),
 ir 76 (.mv (.t 1)),
 ir 77 (.ias 4 (.t 75) (.t 76)),
 ir 78 (.fad 2 (.t 77)),
 ir 79 (.ld 1 false (.t 78)),
 ir 80 (.mv (.t 0)),
 ir 81 (.mv (.t 1)),
 ir 82 (.ias 4 (.t 80) (.t 81)),
 ir 83 (.fad 3 (.t 82)),
 ir 84 (.ld 1 false (.t 83)),
 ir 85 (.build [(.p (.i .i64 0)),(.p (.s [])),(.p (.i .i64 0)),(.p (.i .i64 0)),.nil] [(0,(1,(ci 9))),(2,(1,(.t 79))),(3,(1,(.t 84)))]),
 ir 86 (.mv (.t 1)),
 ir 87 (.bin .add (.t 86) (ci 1)),
 ia 88 (.call (.f 153) [(.t 85),(.t 87)]),
 io (.st 7 (.t 4) (.t 88))]) .ret) .skip)))))))) (.seq (.reg [
  ia 89 (.mv (.t 1)),
 ia 90 (.call (.f 152) [(.t 89)]),
 io (.st 7 (.t 4) (.t 90))]) .ret)))),[(.cell 4 7 true)]⟩
theorem cc168 : ccF Tryz.prog [(42,[0,0]),(107,[1,0]),(74,[0,0]),(36,[0,0,0,0,0,0,0,0,0]),(160,[0,0]),(42,[9]),(105,[8]),(107,[8]),(75,[8]),(106,[8]),(79,[8])] Tryz.f168 = some (stripF F168) := by kernel_rfl
def F169 : FnC := ⟨2,(.seq (.reg [
  ia 4 (.mv (.c (.a (.p (.b false)))))]) (.seq (.reg [
  ia 6 (.mv (.t 0)),
 ia 7 (.mv (.t 1)),
 ia 8 (.call (.f 151) [(.t 6),(.t 7)]),
 ia 5 (.mv (.t 8))]) (.seq (.reg [
  ia 9 (.mv (.t 5)),
 ia 10 (.bin .geq (.t 9) (ci 1)),
 ia 11 (.mv (.t 10)),
 ig 12 11 true (.mv (.t 5)),
 ig 13 11 true (.bin .leq (.t 12) (ci 3)),
 ia 14 (.pick (.t 11) (.t 13) (.c (.a (.p (.b false))))),
 ia 15 (.mv (.t 14)),
 ig 16 15 false (.mv (.t 0)),
 ig 17 15 false (.mv (.t 1)),
 ig 18 15 false (.call (.f 114) [(.t 16),(.t 17)]),
 ig 19 15 false (.bin .eql (.t 18) (.c (.a (.p (.s [40]))))),
 ia 20 (.pick (.t 15) (.c (.a (.p (.b true)))) (.t 19)),
 ia 4 (.mv (.t 20))]) .ret))),[(.tmp 4)]⟩
theorem cc169 : ccF Tryz.prog [(42,[0,0]),(107,[1,0]),(74,[0,0]),(36,[0,0,0,0,0,0,0,0,0]),(160,[0,0]),(42,[9]),(105,[8]),(107,[8]),(75,[8]),(106,[8]),(79,[8])] Tryz.f169 = some (stripF F169) := by kernel_rfl
def F170 : FnC := ⟨1,(.seq (.reg [
  ia 1 (.box 5 (.t 0)),
 ia 2 (.mv (.c (.a (.p (.b false)))))]) (.seq (.seq (.reg [
  ia 3 (.fad 0 (.t 1)),
 ia 4 (.ld 1 false (.t 3))]) (.block 0 (.seq (.seq (.reg [
  ia 6 (.bin .eql (.t 4) (ci 1)),
 ia 5 (.mv (.t 6))]) (.cond (.t 5) .skip (.seq (.reg [
  ia 7 (.bin .eql (.t 4) (ci 2)),
 ia 5 (.mv (.t 7))]) (.cond (.t 5) .skip (.seq (.reg [
  ia 8 (.bin .eql (.t 4) (ci 4)),
 ia 5 (.mv (.t 8))]) (.cond (.t 5) .skip (.reg [
  ia 9 (.bin .eql (.t 4) (ci 5)),
 ia 5 (.mv (.t 9))]))))))) (.cond (.t 5) (.seq (.reg [
  ia 10 (.fad 1 (.t 1)),
 ia 11 (.ld 1 false (.t 10)),
 ia 12 (.call (.f 175) [(.t 11),(ci 1)]),
 ia 2 (.mv (.t 12))]) .ret) (.seq (.seq (.reg [
  ia 14 (.bin .eql (.t 4) (ci 6)),
 ia 13 (.mv (.t 14))]) (.cond (.t 13) .skip (.reg [
  ia 15 (.bin .eql (.t 4) (ci 8)),
 ia 13 (.mv (.t 15))]))) (.cond (.t 13) (.seq (.reg [
  ia 16 (.fad 1 (.t 1)),
 ia 17 (.ld 1 false (.t 16)),
 ia 18 (.call (.f 175) [(.t 17),(ci 2)]),
 ia 2 (.mv (.t 18))]) .ret) (.seq (.reg [
  ia 20 (.bin .eql (.t 4) (ci 10)),
 ia 19 (.mv (.t 20))]) (.cond (.t 19) (.seq (.reg [
  ia 21 (.fad 1 (.t 1)),
 ia 22 (.ld 1 false (.t 21)),
 ia 23 (.bin .eql (.t 22) (.c (.a (.p (.s [43]))))),
 ia 24 (.mv (.t 23)),
 ig 25 24 false (.fad 1 (.t 1)),
 ig 26 24 false (.ld 1 false (.t 25)),
 ig 27 24 false (.bin .eql (.t 26) (.c (.a (.p (.s [45]))))),
 ia 28 (.pick (.t 24) (.c (.a (.p (.b true)))) (.t 27)),
 ia 29 (.mv (.t 28)),
 ig 30 29 false (.fad 1 (.t 1)),
 ig 31 29 false (.ld 1 false (.t 30)),
 ig 32 29 false (.bin .eql (.t 31) (.c (.a (.p (.s [42]))))),
 ia 33 (.pick (.t 29) (.c (.a (.p (.b true)))) (.t 32)),
 ia 34 (.mv (.t 33)),
 ig 35 34 false (.fad 1 (.t 1)),
 ig 36 34 false (.ld 1 false (.t 35)),
 ig 37 34 false (.bin .eql (.t 36) (.c (.a (.p (.s [47]))))),
 ia 38 (.pick (.t 34) (.c (.a (.p (.b true)))) (.t 37)),
 ia 39 (.mv (.t 38)),
 ig 40 39 false (.fad 1 (.t 1)),
 ig 41 39 false (.ld 1 false (.t 40)),
 ig 42 39 false (.bin .eql (.t 41) (.c (.a (.p (.s [60]))))),
 ia 43 (.pick (.t 39) (.c (.a (.p (.b true)))) (.t 42)),
 ia 44 (.mv (.t 43)),
 ig 45 44 false (.fad 1 (.t 1)),
 ig 46 44 false (.ld 1 false (.t 45)),
 ig 47 44 false (.bin .eql (.t 46) (.c (.a (.p (.s [61,61]))))),
 ia 48 (.pick (.t 44) (.c (.a (.p (.b true)))) (.t 47)),
 ia 2 (.mv (.t 48))]) .ret) .skip)))))))) (.seq (.reg [
  ia 49 (.fad 1 (.t 1)),
 ia 50 (.ld 1 false (.t 49)),
 ia 51 (.bin .eql (.t 50) (.c (.a (.p (.s []))))),
 ia 2 (.mv (.t 51))]) .ret))),[(.tmp 2)]⟩
theorem cc170 : ccF Tryz.prog [(42,[0,0]),(107,[1,0]),(74,[0,0]),(36,[0,0,0,0,0,0,0,0,0]),(160,[0,0]),(42,[9]),(105,[8]),(107,[8]),(75,[8]),(106,[8]),(79,[8])] Tryz.f170 = some (stripF F170) := by kernel_rfl
def F171 : FnC := ⟨1,(.seq (.reg [
  ia 1 (.box 5 (.t 0)),
 ia 2 (.mv (.c (.a (.p (.b false)))))]) (.seq (.reg [
  ia 4 (.fad 4 (.t 1)),
 ia 5 (.ld 1 false (.t 4)),
 ia 6 (.len false (.t 5)),
 ia 3 (.mv (.t 6))]) (.seq (.seq (.reg [
  ia 7 (.fad 0 (.t 1)),
 ia 8 (.ld 1 false (.t 7))]) (.block 0 (.seq (.reg [
  ia 10 (.bin .eql (.t 8) (ci 1)),
 ia 9 (.mv (.t 10))]) (.cond (.t 9) (.seq (.reg [
  ia 11 (.mv (.t 3)),
 ia 12 (.bin .eql (.t 11) (ci 0)),
 ia 13 (.mv (.t 12)),
 ig 14 13 true (.fad 2 (.t 1)),
 ig 15 13 true (.ld 1 false (.t 14)),
 ig 16 13 true (.bin .eql (.t 15) (ci 0)),
 ia 17 (.pick (.t 13) (.t 16) (.c (.a (.p (.b false))))),
 ia 2 (.mv (.t 17))]) .ret) (.seq (.reg [
  ia 19 (.bin .eql (.t 8) (ci 2)),
 ia 18 (.mv (.t 19))]) (.cond (.t 18) (.seq (.reg [
  ia 20 (.mv (.t 3)),
 ia 21 (.bin .eql (.t 20) (ci 1)),
 ia 22 (.mv (.t 21)),
 ig 23 22 true (.fad 2 (.t 1)),
 ig 24 22 true (.ld 1 false (.t 23)),
 ig 25 22 true (.bin .eql (.t 24) (ci 0)),
 ia 26 (.pick (.t 22) (.t 25) (.c (.a (.p (.b false))))),
 ia 2 (.mv (.t 26))]) .ret) (.seq (.seq (.reg [
  ia 28 (.bin .eql (.t 8) (ci 3)),
 ia 27 (.mv (.t 28))]) (.cond (.t 27) .skip (.seq (.reg [
  ia 29 (.bin .eql (.t 8) (ci 4)),
 ia 27 (.mv (.t 29))]) (.cond (.t 27) .skip (.seq (.reg [
  ia 30 (.bin .eql (.t 8) (ci 5)),
 ia 27 (.mv (.t 30))]) (.cond (.t 27) .skip (.reg [
  ia 31 (.bin .eql (.t 8) (ci 10)),
 ia 27 (.mv (.t 31))]))))))) (.cond (.t 27) (.seq (.reg [
  ia 32 (.mv (.t 3)),
 ia 33 (.bin .eql (.t 32) (ci 2)),
 ia 34 (.mv (.t 33)),
 ig 35 34 true (.fad 2 (.t 1)),
 ig 36 34 true (.ld 1 false (.t 35)),
 ig 37 34 true (.bin .eql (.t 36) (ci 0)),
 ia 38 (.pick (.t 34) (.t 37) (.c (.a (.p (.b false))))),
 ia 2 (.mv (.t 38))]) .ret) (.seq (.reg [
  ia 40 (.bin .eql (.t 8) (ci 6)),
 ia 39 (.mv (.t 40))]) (.cond (.t 39) (.seq (.reg [
  ia 41 (.mv (.t 3)),
 ia 42 (.bin .leq (.t 41) (ci 8)),
 ia 43 (.mv (.t 42)),
 ig 44 43 true (.fad 2 (.t 1)),
 ig 45 43 true (.ld 1 false (.t 44)),
 ig 46 43 true (.bin .eql (.t 45) (ci 0)),
 ia 47 (.pick (.t 43) (.t 46) (.c (.a (.p (.b false))))),
 ia 2 (.mv (.t 47))]) .ret) (.seq (.reg [
  ia 49 (.bin .eql (.t 8) (ci 7)),
 ia 48 (.mv (.t 49))]) (.cond (.t 48) (.seq (.reg [
  ia 50 (.mv (.t 3)),
 ia 51 (.bin .geq (.t 50) (ci 2)),
 ia 52 (.mv (.t 51)),
 ig 53 52 true (.mv (.t 3)),
 ig 54 52 true (.bin .leq (.t 53) (ci 9)),
 ia 55 (.pick (.t 52) (.t 54) (.c (.a (.p (.b false))))),
 ia 56 (.mv (.t 55)),
 ig 57 56 true (.fad 2 (.t 1)),
 ig 58 56 true (.ld 1 false (.t 57)),
 ig 59 56 true (.bin .eql (.t 58) (ci 0)),
 ia 60 (.pick (.t 56) (.t 59) (.c (.a (.p (.b false))))),
 ia 2 (.mv (.t 60))]) .ret) (.seq (.reg [
  ia 62 (.bin .eql (.t 8) (ci 8)),
 ia 61 (.mv (.t 62))]) (.cond (.t 61) (.seq (.reg [
  ia 63 (.fad 2 (.t 1)),
 ia 64 (.ld 1 false (.t 63)),
 ia 65 (.bin .geq (.t 64) (ci 0)),
 ia 66 (.mv (.t 65)),
 ig 67 66 true (.fad 2 (.t 1)),
 ig 68 66 true (.ld 1 false (.t 67)),
 ig 69 66 true (.bin .leq (.t 68) (ci 8)),
 ia 70 (.pick (.t 66) (.t 69) (.c (.a (.p (.b false))))),
 ia 71 (.mv (.t 70)),
 ig 72 71 true (.mv (.t 3)),
 ig 73 71 true (.fad 2 (.t 1)),
 ig 74 71 true (.ld 1 false (.t 73)),
 ig 75 71 true (.bin .add (.t 74) (ci 1)),
 ig 76 71 true (.bin .eql (.t 72) (.t 75)),
 ia 77 (.pick (.t 71) (.t 76) (.c (.a (.p (.b false))))),
 ia 2 (.mv (.t 77))]) .ret) (.seq (.reg [
  ia 79 (.bin .eql (.t 8) (ci 9)),
 ia 78 (.mv (.t 79))]) (.cond (.t 78) (.seq (.reg [
  ia 80 (.mv (.t 3)),
 ia 81 (.bin .eql (.t 80) (ci 0)),
 ia 82 (.mv (.t 81)),
 ig 83 82 true (.fad 2 (.t 1)),
 ig 84 82 true (.ld 1 false (.t 83)),
 ig 85 82 true (.bin .geq (.t 84) (ci 0)),
 ia 86 (.pick (.t 82) (.t 85) (.c (.a (.p (.b false))))),
 ia 87 (.mv (.t 86)),
 ig 88 87 true (.fad 2 (.t 1)),
 ig 89 87 true (.ld 1 false (.t 88)),
 ig 90 87 true (.bin .lss (.t 89) (ci 1000000000000000000)),
 ia 91 (.pick (.t 87) (.t 90) (.c (.a (.p (.b false))))),
 ia 2 (.mv (.t 91))]) .ret) .skip)))))))))))))))) (.seq (.reg [
  ia 2 (.mv (.c (.a (.p (.b false)))))]) .ret)))),[(.tmp 2)]⟩
theorem cc171 : ccF Tryz.prog [(42,[0,0]),(107,[1,0]),(74,[0,0]),(36,[0,0,0,0,0,0,0,0,0]),(160,[0,0]),(42,[9]),(105,[8]),(107,[8]),(75,[8]),(106,[8]),(79,[8])] Tryz.f171 = some (stripF F171) := by kernel_rfl
def F172 : FnC := ⟨2,(.seq (.reg [
  ia 4 (.mv (.c (.a .nil)))]) (.seq (.reg [
  ia 5 (.bsl 1 9 [(.p (.s []))] 0 []),
 ia 6 (.mv (.t 0)),
 ia 7 (.app 1 9 16 (.t 5) (.t 6)),
 ia 8 (.mv (.t 1)),
 ia 9 (.bsl 1 9 [(.p (.s []))] 1 [(0,(.t 8))]),
 ia 10 (.app 1 9 16 (.t 7) (.t 9)),
 ia 4 (.mv (.t 10))]) .ret)),[(.tmp 4)]⟩
theorem cc172 : ccF Tryz.prog [(42,[0,0]),(107,[1,0]),(74,[0,0]),(36,[0,0,0,0,0,0,0,0,0]),(160,[0,0]),(42,[9]),(105,[8]),(107,[8]),(75,[8]),(106,[8]),(79,[8])] Tryz.f172 = some (stripF F172) := by kernel_rfl
def F173 : FnC := ⟨1,(.seq (.reg [
  ia 2 (.mv (.c (.a .nil)))]) (.seq (.seq (.reg [
  ia 3 (.mv (.t 0)),
 ia 4 (.nq false (.t 3))]) (.cond (.t 4) (.seq (.reg [
  ia 2 (.mv (.c (.a .nil)))]) .ret) .skip)) (.seq (.reg [
  ia 5 (.bsl 2 42 [(.p (.i .i64 0)),(.p (.i .i64 0))] 0 []),
 ia 6 (.mv (.t 0)),
 ia 7 (.app 2 42 16 (.t 5) (.t 6)),
 ia 2 (.mv (.t 7))]) .ret))),[(.tmp 2)]⟩
theorem cc173 : ccF Tryz.prog [(42,[0,0]),(107,[1,0]),(74,[0,0]),(36,[0,0,0,0,0,0,0,0,0]),(160,[0,0]),(42,[9]),(105,[8]),(107,[8]),(75,[8]),(106,[8]),(79,[8])] Tryz.f173 = some (stripF F173) := by kernel_rfl
def F174 : FnC := ⟨1,(.seq (.reg [
  ia 2 (.mv (.c (.a .nil)))]) (.seq (.seq (.reg [
  ia 3 (.mv (.t 0)),
 ia 4 (.nq false (.t 3))]) (.cond (.t 4) (.seq (.reg [
  ia 2 (.mv (.c (.a .nil)))]) .ret) .skip)) (.seq (.reg [
  ia 5 (.bsl 6 46 [(.p (.i .i64 0)),(.p (.i .i64 0)),(.p (.i .i64 0)),(.p (.s [])),.nil,.nil] 0 []),
 ia 6 (.mv (.t 0)),
 ia 7 (.app 6 46 88 (.t 5) (.t 6)),
 ia 2 (.mv (.t 7))]) .ret))),[(.tmp 2)]⟩
theorem cc174 : ccF Tryz.prog [(42,[0,0]),(107,[1,0]),(74,[0,0]),(36,[0,0,0,0,0,0,0,0,0]),(160,[0,0]),(42,[9]),(105,[8]),(107,[8]),(75,[8]),(106,[8]),(79,[8])] Tryz.f174 = some (stripF F174) := by kernel_rfl
def F175 : FnC := ⟨2,(.seq (.reg [
  ia 4 (.mv (.c (.a (.p (.b false)))))]) (.seq (.seq (.reg [
  ia 7 (.mv (.t 0)),
 ia 8 (.bin .eql (.t 7) (.c (.a (.p (.s [])))))]) (.cond (.t 8) (.seq (.reg [
  ia 4 (.mv (.c (.a (.p (.b false)))))]) .ret) .skip)) (.seq (.reg [
  ia 10 (.mv (.t 0)),
 ia 11 (.call (.f 113) [(.t 10),(ci 0)]),
 ia 9 (.mv (.t 11)),
 ia 12 (.ext (.t 9) 0),
 ia 13 (.ext (.t 9) 1),
 ia 5 (.new [(.p (.i .i64 0)),(.p (.s [])),(.p (.i .i64 0)),(.p (.i .i64 0))]),
 io (.st 4 (.t 5) (.t 12)),
 ia 6 (.mv (.t 13))]) (.seq (.reg [
  ia 14 (.mv (.t 6)),
 ia 15 (.bin .eql (.t 14) (ci 0)),
 ia 16 (.mv (.t 15)),
 ig 17 16 true (.fad 0 (.t 5)),
 ig 18 16 true (.ld 1 false (.t 17)),
 ig 19 16 true (.mv (.t 1)),
 ig 20 16 true (.bin .eql (.t 18) (.t 19)),
 ia 21 (.pick (.t 16) (.t 20) (.c (.a (.p (.b false))))),
 ia 22 (.mv (.t 21)),
 ig 23 22 true (.fad 1 (.t 5)),
 ig 24 22 true (.ld 1 false (.t 23)),
 ig 25 22 true (.mv (.t 0)),
 ig 26 22 true (.bin .eql (.t 24) (.t 25)),
 ia 27 (.pick (.t 22) (.t 26) (.c (.a (.p (.b false))))),
 ia 4 (.mv (.t 27))]) .ret)))),[(.tmp 4)]⟩
theorem cc175 : ccF Tryz.prog [(42,[0,0]),(107,[1,0]),(74,[0,0]),(36,[0,0,0,0,0,0,0,0,0]),(160,[0,0]),(42,[9]),(105,[8]),(107,[8]),(75,[8]),(106,[8]),(79,[8])] Tryz.f175 = some (stripF F175) := by kernel_rfl
def tblD : List (FuncId × FnC) := [(165,F165),(166,F166),(167,F167),(168,F168),(169,F169),(170,F170),(171,F171),(172,F172),(173,F173),(174,F174),(175,F175)]
theorem tblOkD : ∀ x,x ∈ tblD → ∃ fn,Tryz.prog.funcs[x.1]? = some fn ∧ ccF Tryz.prog [(42,[0,0]),(107,[1,0]),(74,[0,0]),(36,[0,0,0,0,0,0,0,0,0]),(160,[0,0]),(42,[9]),(105,[8]),(107,[8]),(75,[8]),(106,[8]),(79,[8])] fn = some (stripF x.2) := by
  intro x hx
  simp only [tblD,List.mem_cons,List.not_mem_nil,or_false] at hx
  rcases hx with rfl | rfl | rfl | rfl | rfl | rfl | rfl | rfl | rfl | rfl | rfl
  · exact ⟨_,Tryz.func165,cc165⟩
  · exact ⟨_,Tryz.func166,cc166⟩
  · exact ⟨_,Tryz.func167,cc167⟩
  · exact ⟨_,Tryz.func168,cc168⟩
  · exact ⟨_,Tryz.func169,cc169⟩
  · exact ⟨_,Tryz.func170,cc170⟩
  · exact ⟨_,Tryz.func171,cc171⟩
  · exact ⟨_,Tryz.func172,cc172⟩
  · exact ⟨_,Tryz.func173,cc173⟩
  · exact ⟨_,Tryz.func174,cc174⟩
  · exact ⟨_,Tryz.func175,cc175⟩
end Go.Proofs.YtmlhgalboabjcaaGreat
namespace Go.Proofs.YtmlhgalboabjcaaGreat
open Go.Fx
def tbl : List (FuncId × FnC) := tblA ++ tblB ++ tblC ++ tblD
theorem tblOk : ∀ x,x ∈ tbl → ∃ fn,Tryz.prog.funcs[x.1]? = some fn ∧ ccF Tryz.prog [(42,[0,0]),(107,[1,0]),(74,[0,0]),(36,[0,0,0,0,0,0,0,0,0]),(160,[0,0]),(42,[9]),(105,[8]),(107,[8]),(75,[8]),(106,[8]),(79,[8])] fn = some (stripF x.2) := by
  intro x hx
  simp only [tbl,List.mem_append,or_assoc] at hx
  rcases hx with hx | hx | hx | hx
  · exact tblOkA x hx
  · exact tblOkB x hx
  · exact tblOkC x hx
  · exact tblOkD x hx
end Go.Proofs.YtmlhgalboabjcaaGreat
section
set_option linter.unusedSimpArgs false
set_option linter.unusedVariables false
set_option maxHeartbeats 4000000
set_option maxRecDepth 10000
namespace Go.Proofs.YtmlhgalboabjcaaGreat
open Go.Fx
def spN (f : FuncId) : Bool := f == 173 || f == 174 || f == 97 || f == 128 || f == 93
def orcN (f : FuncId) (ps : List PT) : Option PT := if f = 145 then (match ps with | [.a (.l [])] => some (.a (.l [])) | _ => none) else none
def S : Seat := { fb := fun f => (tbl.find? (·.1 == f)).map (·.2),sp := spN,orc := orcN }
theorem spS (f : FuncId) : S.sp f = spN f := rfl
theorem orcS {f : FuncId} (h : f ≠ 145) (ps : List PT) : S.orc f ps = none := by show orcN f ps = none; unfold orcN; rw [if_neg h]
structure Pt where
  n : Int
  s : Int
  deriving DecidableEq
structure Ar where
  s : List UInt8
  n : Int
  deriving DecidableEq
structure Nd where
  k : Int
  lv : Int
  n : Int
  s : List UInt8
  al : List Ar
  to : List Pt
  deriving DecidableEq
structure Nt where
  ns : List Nd
  cap : Int
  deriving DecidableEq
def encP (p : Pt) : List PV := [.i .i64 p.n,.i .i64 p.s]
def encA (a : Ar) : List PV := [.s a.s,.i .i64 a.n]
def encN (x : Nd) : List PV := [.i .i64 x.k,.i .i64 x.lv,.i .i64 x.n,.s x.s,.l (x.al.map encA),.l (x.to.map encP)]
def encT (n : Nt) : List PV := [.l (n.ns.map encN),.i .i64 n.cap]
theorem allP (l : List Pt) : ((l.map encP).all fun r => decide (r.length = 2)) = true := by simp [encP]
theorem allA (l : List Ar) : ((l.map encA).all fun r => decide (r.length = 2)) = true := by simp [encA]
theorem allN (l : List Nd) : ((l.map encN).all fun r => decide (r.length = 6)) = true := by simp [encN]
def zP : Pt := ⟨0,0⟩
def zA : Ar := ⟨[],0⟩
def zN : Nd := ⟨0,0,0,[],[],[]⟩
theorem getP {l : List Pt} {i : Int} (h0 : 0 ≤ i) (h1 : i < l.length) : (l.map encP)[i.toNat]? = some (encP (l.getD i.toNat zP)) := by
  rw [List.getElem?_map,List.getD_eq_getElem?_getD,List.getElem?_eq_getElem (by omega)]; rfl
theorem getA {l : List Ar} {i : Int} (h0 : 0 ≤ i) (h1 : i < l.length) : (l.map encA)[i.toNat]? = some (encA (l.getD i.toNat zA)) := by
  rw [List.getElem?_map,List.getD_eq_getElem?_getD,List.getElem?_eq_getElem (by omega)]; rfl
theorem getN {l : List Nd} {i : Int} (h0 : 0 ≤ i) (h1 : i < l.length) : (l.map encN)[i.toNat]? = some (encN (l.getD i.toNat zN)) := by
  rw [List.getElem?_map,List.getD_eq_getElem?_getD,List.getElem?_eq_getElem (by omega)]; rfl
def Nt.nd (n : Nt) (i : Int) : Nd := n.ns.getD i.toNat zN
def Nd.tt (x : Nd) (i : Int) : Pt := x.to.getD i.toNat zP
def Nt.lk (n : Nt) (p : Pt) : Pt := (n.nd p.n).tt p.s
def Nt.has (n : Nt) (p : Pt) : Bool := decide (p.n ≥ 0) && decide (p.n < n.ns.length) && decide (p.s ≥ 0) && decide (p.s < (n.nd p.n).to.length)
def wf (i : Int) : Prop := -9223372036854775808 ≤ i ∧ i ≤ 9223372036854775807
theorem wrap_in (n : Int) (h : -9223372036854775808 ≤ n ∧ n ≤ 9223372036854775807) : IntKind.i64.wrap n = n := IntWalk.i64_in n h
theorem wrap_succ (n : Nat) (h : n < 9223372036854775807) : IntKind.i64.wrap ((n : Int) + 1) = ((n + 1 : Nat) : Int) := by rw [wrap_in _ (by omega)]; omega
structure Nd.Ok (x : Nd) : Prop where
  k : wf x.k
  lv : wf x.lv
  n : wf x.n
  s : x.s.length ≤ 140737488355328
  al : x.al.length * 24 ≤ 140737488355328
  to : x.to.length * 16 ≤ 140737488355328
  ap : ∀ a,a ∈ x.al → wf a.n
  tp : ∀ p,p ∈ x.to → wf p.n ∧ wf p.s
structure Nt.Ok (n : Nt) : Prop where
  ns : n.ns.length * 88 ≤ 140737488355328
  cap : wf n.cap
  nd : ∀ x,x ∈ n.ns → x.Ok
theorem seatEqs : EqOk Tryz.prog [(42,[0,0]),(107,[1,0]),(74,[0,0]),(36,[0,0,0,0,0,0,0,0,0]),(160,[0,0]),(42,[9]),(105,[8]),(107,[8]),(75,[8]),(106,[8]),(79,[8])] := by
  intro t sh h xa ya r he m σ w xs ys hx hy
  simp only [List.mem_cons,Prod.mk.injEq,List.not_mem_nil,or_false] at h
  rcases h with ⟨rfl,rfl⟩ | ⟨rfl,rfl⟩ | ⟨rfl,rfl⟩ | ⟨rfl,rfl⟩ | ⟨rfl,rfl⟩ | ⟨rfl,rfl⟩ | ⟨rfl,rfl⟩ | ⟨rfl,rfl⟩ | ⟨rfl,rfl⟩ | ⟨rfl,rfl⟩ | ⟨rfl,rfl⟩
  · exact eq_struct (sh := [0,0]) Tryz.underlying42 (by kernel_rfl) (by kernel_rfl) ⟨by decide,rfl,⟨_,Tryz.underlying3⟩,by decide,rfl,⟨_,Tryz.underlying3⟩,trivial⟩ xa ya r he m σ w xs ys hx hy
  · exact eq_struct (sh := [1,0]) Tryz.underlying107 (by kernel_rfl) (by kernel_rfl) ⟨by decide,rfl,Tryz.underlying9,by decide,rfl,⟨_,Tryz.underlying3⟩,trivial⟩ xa ya r he m σ w xs ys hx hy
  · exact eq_struct (sh := [0,0]) Tryz.underlying74 (by kernel_rfl) (by kernel_rfl) ⟨by decide,rfl,⟨_,Tryz.underlying3⟩,by decide,rfl,⟨_,Tryz.underlying3⟩,trivial⟩ xa ya r he m σ w xs ys hx hy
  · exact eq_arr (k := .i64) Tryz.underlying36 Tryz.underlying3 (by kernel_rfl) (by kernel_rfl) rfl (by kernel_rfl) xa ya r he m σ w xs ys hx hy
  · exact eq_arr (k := .i64) Tryz.underlying160 Tryz.underlying3 (by kernel_rfl) (by kernel_rfl) rfl (by kernel_rfl) xa ya r he m σ w xs ys hx hy
  · have h0 : ∀ (a c : List AV),eqCells [9] a c = none := fun a c => by cases a <;> cases c <;> rfl
    rw [h0] at he; cases he
  · have h0 : ∀ (a c : List AV),eqCells [8] a c = none := fun a c => by cases a <;> cases c <;> rfl
    rw [h0] at he; cases he
  · have h0 : ∀ (a c : List AV),eqCells [8] a c = none := fun a c => by cases a <;> cases c <;> rfl
    rw [h0] at he; cases he
  · have h0 : ∀ (a c : List AV),eqCells [8] a c = none := fun a c => by cases a <;> cases c <;> rfl
    rw [h0] at he; cases he
  · have h0 : ∀ (a c : List AV),eqCells [8] a c = none := fun a c => by cases a <;> cases c <;> rfl
    rw [h0] at he; cases he
  · have h0 : ∀ (a c : List AV),eqCells [8] a c = none := fun a c => by cases a <;> cases c <;> rfl
    rw [h0] at he; cases he
set_option linter.defProp false in
def nxE := And.intro (@encT.eq_1) (And.intro (@encN.eq_1) (And.intro (@encP.eq_1) (And.intro (@encA.eq_1) (And.intro (@spN.eq_1) (And.intro (@spS) (And.intro (@allP) (And.intro (@allA) (@allN))))))))
theorem clone_empty (P : Program) (eqs : List (TypeId × List Nat)) {fn : Func} {fc : FnC} (hm : P.follows .mixedOrders = true) (hE : EqOk P eqs) {f : FuncId} (hf : P.funcs[f]? = some fn) (hc : ccF P eqs fn = some (stripF fc))
    (hfc : ∃ k el b,fc = ⟨1,(.seq (.reg [⟨(.some 2),.none,(.mv (.c (.a .nil))),.any⟩]) (.seq (.seq (.reg [⟨(.some 3),.none,(.mv (.t 0)),.any⟩,⟨(.some 4),.none,(.nq false (.t 3)),.any⟩]) (.cond (.t 4) (.seq (.reg [⟨(.some 2),.none,(.mv (.c (.a .nil))),.any⟩]) .ret) .skip)) (.seq (.reg [
      ⟨(.some 5),.none,(.bsl k el b 0 []),.any⟩,⟨(.some 6),.none,(.mv (.t 0)),.any⟩,⟨(.some 7),.none,(.app k el 24 (.t 5) (.t 6)),.any⟩,⟨(.some 2),.none,(.mv (.t 7)),.any⟩]) .ret))),[(.tmp 2)]⟩ ∧ ∃ z,frL .empty b = some z ∧ ∀ σ,frL σ b = some z) :
    Ent P f ∧ SndP1 P f [.a (.l [])] (.a (.l [])) := by
  obtain ⟨k,el,b,rfl,z,hz0,hz⟩ := hfc
  have key : ∀ a c,∃ v σ',Ent P f ∧ (∀ m w vals,SR (CRP P eqs) m .empty w → F2 (RT m .empty w) [.a (.raw (.slice a 0 c))] vals → ∀ rr n,CallsIn (FW rr) n P f vals.toArray w (PostS (CRP P eqs) m .empty w v σ')) ∧ frT σ' v = some (.a (.l [])) := by
    intro a c
    cases a with
    | none =>
      have := fn_ok (cp := fun _ _ => none) (cs := fun _ _ _ => none) (sp := fun _ => false) (σ := .empty) hm hE (fun _ _ _ h => by cases h) (fun _ _ _ _ _ h => by cases h) hf hc (args := [.a (.raw (.slice none 0 c))]) (fuel := 0) rfl rfl (.inr rfl) rfl rfl
      exact ⟨_,_,this.1,this.2,rfl⟩
    | some a =>
      have hev : evC (fun _ _ => none) (fun _ _ _ => none) (fun _ => false) 0 false (.seq (.reg [⟨(.some 2),.none,(.mv (.c (.a .nil))),.any⟩]) (.seq (.seq (.reg [⟨(.some 3),.none,(.mv (.t 0)),.any⟩,⟨(.some 4),.none,(.nq false (.t 3)),.any⟩]) (.cond (.t 4) (.seq (.reg [⟨(.some 2),.none,(.mv (.c (.a .nil))),.any⟩]) .ret) .skip)) (.seq (.reg [
          ⟨(.some 5),.none,(.bsl k el b 0 []),.any⟩,⟨(.some 6),.none,(.mv (.t 0)),.any⟩,⟨(.some 7),.none,(.app k el 24 (.t 5) (.t 6)),.any⟩,⟨(.some 2),.none,(.mv (.t 7)),.any⟩]) .ret))) (Env.init [.a (.raw (.slice (some a) 0 c))]) .empty =
          some (.ret,((((((Env.init [.a (.raw (.slice (some a) 0 c))]).put 2 (.a .nil)).put 3 (.a (.raw (.slice (some a) 0 c)))).put 4 (.a (.p (.b false)))).put 5 (.a (.own (5,0) 0 0))).put 6 (.a (.raw (.slice (some a) 0 c)))).put 7 (.a (.own (7,1) 0 0)) |>.put 2 (.a (.own (7,1) 0 0)),(((St.empty.add 5 (.row k el [])).kill (5,0)).add 7 (.row k el []))) := by
        simp [evC,evIs,evI,evO,evR,ev,Env.init,Env.put,Env.putD,nilA,hz,evO.bslRows,St.add,St.put,St.kill,St.empty,rowsA,frA,rawE]
        try rfl
      have := fn_ok (cp := fun _ _ => none) (cs := fun _ _ _ => none) (sp := fun _ => false) (σ := .empty) hm hE (fun _ _ _ h => by cases h) (fun _ _ _ _ _ h => by cases h) hf hc (args := [.a (.raw (.slice (some a) 0 c))]) (fuel := 0) rfl hev (.inr rfl) rfl rfl
      exact ⟨_,_,this.1,this.2,by simp [frT,frA,St.add,St.put,St.kill,St.empty]⟩
  obtain ⟨_,_,hent,_,_⟩ := key none 0
  refine ⟨hent,fun w D vs hD hps rr n => ?_⟩
  cases hps with
  | cons x r =>
    cases r
    rename_i v
    have x : RP w D (.l []) v := x
    obtain ⟨a,c,rfl⟩ := x.slice
    obtain ⟨v,σ',_,hcall,hfr⟩ := key a c
    let m : Mt := { mu := fun _ => none,la := fun _ => 0,D := D }
    have hno : ∀ b,¬ InS m .empty b := by
      rintro b (⟨s,bl,c,hs,_⟩ | ⟨l,hl,_⟩)
      · simp [St.empty] at hs
      · simp [St.empty] at hl
    have hR : SR (CRP P eqs) m .empty w :=
      { blk := fun s b hs => by simp [St.empty] at hs,gen := fun s b hs => by simp [St.empty] at hs,inj := fun s s' b b' B c c' hs => by simp [St.empty] at hs
        dj := fun b hb => absurd hb (hno b),dlt := hD,lrs := fun l r hl => by simp [St.empty] at hl,linj := fun l l' hl => by simp [St.empty] at hl }
    refine (hcall m w [.slice a 0 c] hR (.cons ⟨rfl,rfl⟩ .nil) rr n).mono ?_
    rintro e w' ⟨v,m',rfl,j1,j2,j3⟩
    refine ⟨v,rfl,?_,?_⟩
    · refine RPT.mono (fun b hb => ⟨?_,rfl⟩) (frT_ok j1 j2 hfr)
      rcases hb with hb | hb
      · rcases j3.new b hb with h5 | h5 | h5
        · exact .inl h5
        · exact .inr ⟨h5,j1.dlt b hb⟩
        · exact absurd h5 (hno b)
      · rcases j3.img b hb with h5 | h5
        · exact absurd h5 (hno b)
        · exact .inr ⟨h5,j1.inS_lt hb⟩
    · exact { size := j3.size,block := fun b hb => j3.kept b hb (hno b),os := j3.os,tape := j3.tape,output := j3.output }
theorem seatOk : SeatOk Tryz.prog [(42,[0,0]),(107,[1,0]),(74,[0,0]),(36,[0,0,0,0,0,0,0,0,0]),(160,[0,0]),(42,[9]),(105,[8]),(107,[8]),(75,[8]),(106,[8]),(79,[8])] S where
  mixed := by kernel_rfl
  eql := seatEqs
  fb f fc h := by
    simp only [S,Option.map_eq_some_iff] at h
    obtain ⟨x,h1,rfl⟩ := h
    have h2 := List.find?_some h1
    have h3 := tblOk x (List.mem_of_find?_eq_some h1)
    simp only [beq_iff_eq] at h2
    rw [← h2]; exact h3
  orc f ps r h := by
    have h2 : orcN f ps = some r := h
    clear h
    unfold orcN at h2
    split at h2
    · rename_i hf
      subst hf
      split at h2
      · simp only [Option.some.injEq] at h2; subst h2
        exact clone_empty Tryz.prog _ (by kernel_rfl) seatEqs Tryz.func145 cc145 ⟨2,107,_,rfl,_,rfl,fun _ => rfl⟩
      · cases h2
    · cases h2
end Go.Proofs.YtmlhgalboabjcaaGreat
end
section
set_option linter.unusedSimpArgs false
set_option linter.unusedVariables false
set_option maxHeartbeats 4000000
set_option maxRecDepth 10000
namespace Go.Proofs.YtmlhgalboabjcaaGreat
open Go.Fx
theorem Has_ok (n : Nt) (p : Pt) : eP S 35 [.g (encT n),.g (encP p)] = some (.a (.b (n.has p))) := by
  refine x_fn (orcS (by decide)) (fc := F35) rfl rfl ?_
  by_cases h1 : p.n ≥ 0
  · by_cases h2 : p.n < n.ns.length
    · have g := getN (l := n.ns) h1 h2
      have h1' : 0 ≤ p.n := h1
      by_cases h3 : p.s ≥ 0
      · simp only [F35,Nt.has,Nt.nd,h1,h1',h2,h3,g,fxa,fxc,fxE,fxL,fxI,nxE,evO,evR,cellsT,ldCells,mkT,lenA,binPV,Env.init,resV,resT,frT,klT,ownT,intT,O.adds,ownA,rowsA,over,wrOk,keysT,keysA,ne_eq,if_true,if_false,ite_self,Nat.reduceLT,Nat.reduceSub,Nat.reduceBEq,Nat.reduceEqDiff,Nat.reduceAdd,Nat.reduceLeDiff,reduceCtorEq,Nat.reduceMul]
        rfl
      · simp only [F35,Nt.has,Nt.nd,h1,h1',h2,h3,g,fxa,fxc,fxE,fxL,fxI,nxE,evO,evR,cellsT,ldCells,mkT,lenA,binPV,Env.init,resV,resT,frT,klT,ownT,intT,O.adds,ownA,rowsA,over,wrOk,keysT,keysA,ne_eq,if_true,if_false,ite_self,Nat.reduceLT,Nat.reduceSub,Nat.reduceBEq,Nat.reduceEqDiff,Nat.reduceAdd,Nat.reduceLeDiff,reduceCtorEq,Nat.reduceMul]
    · simp only [F35,Nt.has,h1,h2,fxa,fxc,fxE,fxL,fxI,nxE,evO,evR,cellsT,ldCells,mkT,lenA,binPV,Env.init,resV,resT,frT,klT,ownT,intT,O.adds,ownA,rowsA,over,wrOk,keysT,keysA,ne_eq,if_true,if_false,ite_self,Nat.reduceLT,Nat.reduceSub,Nat.reduceBEq,Nat.reduceEqDiff,Nat.reduceAdd,Nat.reduceLeDiff,reduceCtorEq,Nat.reduceMul]
  · simp only [F35,Nt.has,h1,fxa,fxc,fxE,fxL,fxI,nxE,evO,evR,cellsT,ldCells,mkT,lenA,binPV,Env.init,resV,resT,frT,klT,ownT,intT,O.adds,ownA,rowsA,over,wrOk,keysT,keysA,ne_eq,if_true,if_false,ite_self,Nat.reduceLT,Nat.reduceSub,Nat.reduceBEq,Nat.reduceEqDiff,Nat.reduceAdd,Nat.reduceLeDiff,reduceCtorEq,Nat.reduceMul]
theorem there1_ok (n : Nt) (p : Pt) (k : Key) (σ : St) (hk : σ.bs k = some (.var ((encT n).map .p))) (hlt : k.2 < σ.clk) :
    eS S (.f 138) [.g ((encP p).map .p),.a (.ptr k 0 0)] σ = some (.a (.p (.b (!n.has p))),σ.add 2 (.var ((encP p).map .p))) := by
  have hne : ¬ k = (2,σ.clk) := by rintro rfl; exact Nat.lt_irrefl _ hlt
  simp only [encT,List.map_cons,List.map_nil] at hk
  refine x_fnX (fc := F138) rfl rfl ?_
  by_cases h1 : p.n < 0
  · have h1' : ¬ p.n ≥ 0 := by omega
    simp only [F138,Nt.has,h1,h1',hk,hne,fxa,fxc,fxE,fxL,fxI,nxE,evO,evR,cellsT,ldCells,mkT,lenA,binPV,Env.init,resV,resT,frT,klT,ownT,intT,O.adds,ownA,rowsA,over,wrOk,keysT,keysA,ne_eq,if_true,if_false,ite_self,Nat.reduceLT,Nat.reduceSub,Nat.reduceBEq,Nat.reduceEqDiff,Nat.reduceAdd,Nat.reduceLeDiff,reduceCtorEq,Nat.reduceMul]
  · have h1' : p.n ≥ 0 := by omega
    have h1'' : 0 ≤ p.n := by omega
    by_cases h2 : p.n ≥ n.ns.length
    · have h2' : ¬ p.n < n.ns.length := by omega
      simp only [F138,Nt.has,h1,h1',h2,h2',hk,hne,fxa,fxc,fxE,fxL,fxI,nxE,evO,evR,cellsT,ldCells,mkT,lenA,binPV,Env.init,resV,resT,frT,klT,ownT,intT,O.adds,ownA,rowsA,over,wrOk,keysT,keysA,ne_eq,if_true,if_false,ite_self,Nat.reduceLT,Nat.reduceSub,Nat.reduceBEq,Nat.reduceEqDiff,Nat.reduceAdd,Nat.reduceLeDiff,reduceCtorEq,Nat.reduceMul]
    · have h2' : p.n < n.ns.length := by omega
      have g := getN (l := n.ns) h1'' h2'
      by_cases h3 : p.s < 0
      · have h3' : ¬ p.s ≥ 0 := by omega
        simp only [F138,Nt.has,h1,h1',h1'',h2,h2',h3,h3',g,hk,hne,fxa,fxc,fxE,fxL,fxI,nxE,evO,evR,cellsT,ldCells,mkT,lenA,binPV,Env.init,resV,resT,frT,klT,ownT,intT,O.adds,ownA,rowsA,over,wrOk,keysT,keysA,ne_eq,if_true,if_false,ite_self,Nat.reduceLT,Nat.reduceSub,Nat.reduceBEq,Nat.reduceEqDiff,Nat.reduceAdd,Nat.reduceLeDiff,reduceCtorEq,Nat.reduceMul]
      · have h3' : p.s ≥ 0 := by omega
        by_cases h4 : p.s ≥ (n.nd p.n).to.length
        · have h4' : ¬ p.s < (n.nd p.n).to.length := by omega
          simp only [Nt.nd] at h4 h4'
          simp only [F138,Nt.has,Nt.nd,h1,h1',h1'',h2,h2',h3,h3',h4,h4',g,hk,hne,fxa,fxc,fxE,fxL,fxI,nxE,evO,evR,cellsT,ldCells,mkT,lenA,binPV,Env.init,resV,resT,frT,klT,ownT,intT,O.adds,ownA,rowsA,over,wrOk,keysT,keysA,ne_eq,if_true,if_false,ite_self,Nat.reduceLT,Nat.reduceSub,Nat.reduceBEq,Nat.reduceEqDiff,Nat.reduceAdd,Nat.reduceLeDiff,reduceCtorEq,Nat.reduceMul]
        · have h4' : p.s < (n.nd p.n).to.length := by omega
          simp only [Nt.nd] at h4 h4'
          simp only [F138,Nt.has,Nt.nd,h1,h1',h1'',h2,h2',h3,h3',h4,h4',g,hk,hne,fxa,fxc,fxE,fxL,fxI,nxE,evO,evR,cellsT,ldCells,mkT,lenA,binPV,Env.init,resV,resT,frT,klT,ownT,intT,O.adds,ownA,rowsA,over,wrOk,keysT,keysA,ne_eq,if_true,if_false,ite_self,Nat.reduceLT,Nat.reduceSub,Nat.reduceBEq,Nat.reduceEqDiff,Nat.reduceAdd,Nat.reduceLeDiff,reduceCtorEq,Nat.reduceMul]
def idx {α : Type} (f : α → Bool) (l : List α) : Int := match l.findIdx? f with | some i => (i : Int) | none => -1
theorem indexP_ok (l : List Pt) (hl : l.length * 16 ≤ 140737488355328) (g : FuncId) (caps : List Key) (hc : caps ≠ []) (hsp : spN g = false) (f : Pt → Bool) (R : St → Prop)
    (hR : ∀ p σ,R σ → ∃ σ',eS S (.f g) ([.g ((encP p).map .p)] ++ caps.map fun s => .a (.ptr s 0 0)) σ = some (.a (.p (.b (f p))),σ') ∧ R σ') (σ : St) (h0 : R σ) :
    ∃ σ',eS S (.f 166) [.a (.p (.l (l.map encP))),.a (.fn g caps)] σ = some (.a (.p (.i .i64 (idx f l))),σ') ∧ R σ' := by
  obtain ⟨c1,cr,rfl⟩ : ∃ c1 cr,caps = c1 :: cr := by
    cases caps with
    | nil => exact absurd rfl hc
    | cons c1 cr => exact ⟨c1,cr,rfl⟩
  refine x_fnR (fc := F166) rfl rfl ?_
  simp only [F166,fxa,fxc,fxE,fxL,fxI,nxE,evO,evR,cellsT,ldCells,mkT,lenA,binPV,Env.init,resV,resT,frT,klT,ownT,intT,O.adds,ownA,rowsA,over,wrOk,keysT,keysA,ne_eq,if_true,if_false,ite_self,Nat.reduceLT,Nat.reduceSub,Nat.reduceBEq,Nat.reduceEqDiff,Nat.reduceAdd,Nat.reduceLeDiff,reduceCtorEq,Nat.reduceMul]
  refine loop_nat l.length (fun i e σ => e 0 = .a (.p (.l (l.map encP))) ∧ e 1 = .a (.fn g (c1 :: cr)) ∧ e 7 = .a (.p (.i .i64 l.length)) ∧ e 8 = .a (.p (.i .i64 (i : Nat))) ∧ R σ ∧ ∀ j x,j < i → l[j]? = some x → f x = false) (i0 := 0) (Nat.zero_le _) ?_ ?_ ?_
  · refine ⟨?_,?_,?_,?_,h0,fun j x hj => by omega⟩ <;> simp only [fxa,fxc,fxE,fxL,fxI,nxE,evO,evR,cellsT,ldCells,mkT,lenA,binPV,Env.init,resV,resT,frT,klT,ownT,intT,O.adds,ownA,rowsA,over,wrOk,keysT,keysA,ne_eq,if_true,if_false,ite_self,Nat.reduceLT,Nat.reduceSub,Nat.reduceBEq,Nat.reduceEqDiff,Nat.reduceAdd,Nat.reduceLeDiff,reduceCtorEq,Nat.reduceMul]
    rfl
  · rintro i e σ hi ⟨e0,e1,e7,e8,hRσ,hall⟩
    have hlt : ((i : Nat) : Int) < (l.length : Int) := by omega
    have hge : (0 : Int) ≤ ((i : Nat) : Int) := by omega
    obtain ⟨x,hx⟩ : ∃ x,l[i]? = some x := ⟨_,List.getElem?_eq_getElem hi⟩
    have hx' : (l.map encP)[i]? = some (encP x) := by simp only [List.getElem?_map,hx,Option.map_some]
    obtain ⟨σ2,hcall,hR2⟩ := hR x σ hRσ
    simp only [encP,List.map_cons,List.map_nil,List.cons_append,List.nil_append] at hcall
    simp only [F166b0,e0,e1,e7,e8,hlt,hge,hx',hsp,hcall,Bool.false_eq_true,fxa,fxc,fxE,fxL,fxI,nxE,evO,evR,cellsT,ldCells,mkT,lenA,binPV,Env.init,resV,resT,frT,klT,ownT,intT,O.adds,ownA,rowsA,over,wrOk,keysT,keysA,ne_eq,if_true,if_false,ite_self,Nat.reduceLT,Nat.reduceSub,Nat.reduceBEq,Nat.reduceEqDiff,Nat.reduceAdd,Nat.reduceLeDiff,reduceCtorEq,Nat.reduceMul]
    refine wpC_split (fun hf => ?_) (fun hf => ?_)
    · simp only [fxa,fxc,fxE,fxL,fxI,nxE,evO,evR,cellsT,ldCells,mkT,lenA,binPV,Env.init,resV,resT,frT,klT,ownT,intT,O.adds,ownA,rowsA,over,wrOk,keysT,keysA,ne_eq,if_true,if_false,ite_self,Nat.reduceLT,Nat.reduceSub,Nat.reduceBEq,Nat.reduceEqDiff,Nat.reduceAdd,Nat.reduceLeDiff,reduceCtorEq,Nat.reduceMul]
      refine ⟨?_,hR2⟩
      have : l.findIdx? f = some i := by
        rw [List.findIdx?_eq_some_iff_getElem]
        refine ⟨hi,?_,fun j hj => ?_⟩
        · rw [List.getElem?_eq_getElem hi] at hx; rw [Option.some.inj hx]; exact hf
        · rw [hall j _ hj (List.getElem?_eq_getElem (by omega))]; simp
      simp only [idx,this]
    · simp only [e0,e1,e7,e8,fxa,fxc,fxE,fxL,fxI,nxE,evO,evR,cellsT,ldCells,mkT,lenA,binPV,Env.init,resV,resT,frT,klT,ownT,intT,O.adds,ownA,rowsA,over,wrOk,keysT,keysA,ne_eq,if_true,if_false,ite_self,Nat.reduceLT,Nat.reduceSub,Nat.reduceBEq,Nat.reduceEqDiff,Nat.reduceAdd,Nat.reduceLeDiff,reduceCtorEq,Nat.reduceMul]
      refine ⟨by rw [wrap_succ i (by omega)],hR2,fun j y hj hy => ?_⟩
      by_cases e : j = i
      · subst e; rw [hx] at hy; rw [← Option.some.inj hy]; exact hf
      · exact hall j y (by omega) hy
  · rintro e σ ⟨e0,e1,e7,e8,hRσ,hall⟩
    have hlt : ¬ ((l.length : Nat) : Int) < (l.length : Int) := by omega
    simp only [F166b0,e0,e1,e7,e8,hlt,fxa,fxc,fxE,fxL,fxI,nxE,evO,evR,cellsT,ldCells,mkT,lenA,binPV,Env.init,resV,resT,frT,klT,ownT,intT,O.adds,ownA,rowsA,over,wrOk,keysT,keysA,ne_eq,if_true,if_false,ite_self,Nat.reduceLT,Nat.reduceSub,Nat.reduceBEq,Nat.reduceEqDiff,Nat.reduceAdd,Nat.reduceLeDiff,reduceCtorEq,Nat.reduceMul]
    refine ⟨?_,hRσ⟩
    have : l.findIdx? f = none := by
      rw [List.findIdx?_eq_none_iff]
      intro x hx
      obtain ⟨j,hj⟩ := List.getElem?_of_mem hx
      exact hall j x (List.getElem?_eq_some_iff.1 hj).1 hj
    simp only [idx,this]
theorem idx_any {α : Type} (f : α → Bool) (l : List α) : decide (idx f l ≥ 0) = l.any f := by
  unfold idx
  cases h : l.findIdx? f with
  | none =>
    rw [List.findIdx?_eq_none_iff] at h
    have : l.any f = false := by rw [List.any_eq_false]; intro x hx; simp [h x hx]
    rw [this]; rfl
  | some i =>
    rw [List.findIdx?_eq_some_iff_getElem] at h
    obtain ⟨hi,hf,_⟩ := h
    have : l.any f = true := by rw [List.any_eq_true]; exact ⟨_,List.getElem_mem hi,hf⟩
    rw [this]; simp
theorem there_ok (n : Nt) (l : List Pt) (hl : l.length * 16 ≤ 140737488355328) : eP S 100 [.g (encT n),.a (.l (l.map encP))] = some (.a (.b (l.all n.has))) := by
  refine x_fn (orcS (by decide)) (fc := F100) rfl rfl ?_
  have key : ∀ σ : St,σ.bs (2,0) = some (.var ((encT n).map .p)) → 1 ≤ σ.clk → ∃ σ',eS S (.f 137) [.a (.p (.l (l.map encP))),.a (.fn 138 [(2,0)])] σ = some (.a (.p (.b (l.any fun p => !n.has p))),σ') := by
    intro σ h2 hc
    obtain ⟨σ',h,_⟩ := indexP_ok l hl 138 [(2,0)] (by simp) (by decide) (fun p => !n.has p) (fun σ => σ.bs (2,0) = some (.var ((encT n).map .p)) ∧ 1 ≤ σ.clk) (fun p σ hσ => ⟨_,there1_ok n p (2,0) σ hσ.1 (by have := hσ.2; simp; omega),by
      refine ⟨?_,?_⟩
      · simp only [add_bs]; rw [if_neg (by rintro h; have := hσ.2; simp at h; omega)]; exact hσ.1
      · simp only [add_clk]; omega⟩) σ ⟨h2,hc⟩
    obtain ⟨v,σ2,h2,rfl,_⟩ := x_fnS (S := S) (g := 137) (fc := F137) rfl (args := [.a (.p (.l (l.map encP))),.a (.fn 138 [(2,0)])]) rfl (σ := σ) (K := fun v σ2 => v = .a (.p (.b (l.any fun p => !n.has p))) ∧ True) (by
      simp only [F137,h,idx_any,fxa,fxc,fxE,fxL,fxI,nxE,evO,evR,cellsT,ldCells,mkT,lenA,binPV,Env.init,resV,resT,frT,klT,ownT,intT,O.adds,ownA,rowsA,over,wrOk,keysT,keysA,ne_eq,if_true,if_false,ite_self,Nat.reduceLT,Nat.reduceSub,Nat.reduceBEq,Nat.reduceEqDiff,Nat.reduceAdd,Nat.reduceLeDiff,reduceCtorEq,Nat.reduceMul])
    exact ⟨σ2,h2⟩
  obtain ⟨σ',hcall⟩ := key (((St.empty.add 2 (.var ((encT n).map .p))))) (by simp [add_bs,empty_clk]) (by simp [add_clk,empty_clk])
  have hall : (!l.any fun p => !n.has p) = l.all n.has := by simp [List.all_eq_not_any_not]
  simp only [encT,List.map_cons,List.map_nil] at hcall
  simp only [F100,capsOf,hcall,hall,fxa,fxc,fxE,fxL,fxI,nxE,evO,evR,cellsT,ldCells,mkT,lenA,binPV,Env.init,resV,resT,frT,klT,ownT,intT,O.adds,ownA,rowsA,over,wrOk,keysT,keysA,ne_eq,if_true,if_false,ite_self,Nat.reduceLT,Nat.reduceSub,Nat.reduceBEq,Nat.reduceEqDiff,Nat.reduceAdd,Nat.reduceLeDiff,reduceCtorEq,Nat.reduceMul]
theorem peer_ok {n : Nt} {p : Pt} (h : n.has p = true) : eP S 101 [.g (encT n),.g (encP p)] = some (.g (encP (n.lk p))) := by
  simp only [Nt.has,Bool.and_eq_true,decide_eq_true_eq] at h
  obtain ⟨⟨⟨h1,h2⟩,h3⟩,h4⟩ := h
  have g := getN (l := n.ns) h1 h2
  have g2 := getP (l := (n.nd p.n).to) h3 h4
  have h1' : 0 ≤ p.n := h1
  have h3' : 0 ≤ p.s := h3
  simp only [Nt.nd] at h4 g2
  refine x_fn (orcS (by decide)) (fc := F101) rfl rfl ?_
  simp only [F101,Nt.lk,Nt.nd,Nd.tt,h1',h2,h3',h4,g,g2,fxa,fxc,fxE,fxL,fxI,nxE,evO,evR,cellsT,ldCells,mkT,lenA,binPV,Env.init,resV,resT,frT,klT,ownT,intT,O.adds,ownA,rowsA,over,wrOk,keysT,keysA,ne_eq,if_true,if_false,ite_self,Nat.reduceLT,Nat.reduceSub,Nat.reduceBEq,Nat.reduceEqDiff,Nat.reduceAdd,Nat.reduceLeDiff,reduceCtorEq,Nat.reduceMul]
def Nt.set (n : Nt) (p q : Pt) : Nt := { n with ns := n.ns.set p.n.toNat { n.nd p.n with to := (n.nd p.n).to.set p.s.toNat q } }
theorem cloneP_ok (rows : List (List PV)) (hne : rows ≠ []) (hl : rows.length * 16 ≤ 140737488355328) (h2 : (rows.all fun r => decide (r.length = 2)) = true) (σ : St) :
    eS S (.f 173) [.a (.p (.l rows))] σ = some (.a (.own (7,σ.clk + 1) 0 rows.length),((σ.add 5 (.row 2 42 [])).kill (5,σ.clk)).add 7 (.row 2 42 rows)) := by
  cases rows with
  | nil => exact absurd rfl hne
  | cons r rows =>
    refine x_fnX (fc := F173) rfl rfl ?_
    have hl' : (rows.length + 1) * 16 ≤ 140737488355328 := hl
    simp only [List.all_cons] at h2
    simp only [F173,nilA,hl',h2,fxa,fxc,fxE,fxL,fxI,nxE,evO,evR,cellsT,ldCells,mkT,lenA,binPV,Env.init,resV,resT,frT,klT,ownT,intT,O.adds,ownA,rowsA,over,wrOk,keysT,keysA,ne_eq,if_true,if_false,ite_self,Nat.reduceLT,Nat.reduceSub,Nat.reduceBEq,Nat.reduceEqDiff,Nat.reduceAdd,Nat.reduceLeDiff,reduceCtorEq,Nat.reduceMul]
theorem cloneN_ok (rows : List (List PV)) (hne : rows ≠ []) (hl : rows.length * 88 ≤ 140737488355328) (h2 : (rows.all fun r => decide (r.length = 6)) = true) (σ : St) :
    eS S (.f 174) [.a (.p (.l rows))] σ = some (.a (.own (7,σ.clk + 1) 0 rows.length),((σ.add 5 (.row 6 46 [])).kill (5,σ.clk)).add 7 (.row 6 46 rows)) := by
  cases rows with
  | nil => exact absurd rfl hne
  | cons r rows =>
    refine x_fnX (fc := F174) rfl rfl ?_
    have hl' : (rows.length + 1) * 88 ≤ 140737488355328 := hl
    simp only [List.all_cons] at h2
    simp only [F174,nilA,hl',h2,fxa,fxc,fxE,fxL,fxI,nxE,evO,evR,cellsT,ldCells,mkT,lenA,binPV,Env.init,resV,resT,frT,klT,ownT,intT,O.adds,ownA,rowsA,over,wrOk,keysT,keysA,ne_eq,if_true,if_false,ite_self,Nat.reduceLT,Nat.reduceSub,Nat.reduceBEq,Nat.reduceEqDiff,Nat.reduceAdd,Nat.reduceLeDiff,reduceCtorEq,Nat.reduceMul]
theorem take_mapset {α : Type} (l : List α) (f : α → List PV) (j : Nat) (z : List PV) : List.take l.length ((l.map f).set j z) = (l.map f).set j z := List.take_of_length_le (by simp)
theorem with_ok {n : Nt} {p : Pt} (q : Pt) (hn : n.Ok) (h : n.has p = true) : eP S 167 [.g (encT n),.g (encP p),.g (encP q)] = some (.g (encT (n.set p q))) := by
  simp only [Nt.has,Bool.and_eq_true,decide_eq_true_eq] at h
  obtain ⟨⟨⟨h1,h2⟩,h3⟩,h4⟩ := h
  have g := getN (l := n.ns) h1 h2
  have h1' : 0 ≤ p.n := h1
  have h3' : 0 ≤ p.s := h3
  have hx : (n.nd p.n).Ok := hn.nd _ (by unfold Nt.nd; rw [List.getD_eq_getElem?_getD,List.getElem?_eq_getElem (by omega)]; exact List.getElem_mem _)
  have hto := hx.to
  have hns := hn.ns
  have g2 := getP (l := (n.nd p.n).to) h3 h4
  have c1 := cloneP_ok ((n.nd p.n).to.map encP) (by intro h; simp at h; rw [h] at h4; simp at h4; omega) (by simpa using hto) (allP _)
  have c2 := cloneN_ok (n.ns.map encN) (by intro h; simp at h; rw [h] at h2; simp at h2; omega) (by simpa using hns) (allN _)
  obtain ⟨x,hxe⟩ : ∃ x,n.ns.getD p.n.toNat zN = x := ⟨_,rfl⟩
  simp only [Nt.nd,hxe,List.length_map] at h4 g g2 c1 c2
  refine x_fn (orcS (by decide)) (fc := F167) rfl rfl ?_
  simp only [F167,h1',h2,h3',h4,g,g2,c1,c2,rowK,take_mapset,List.length_set,ne_eq,not_false_eq_true,fxa,fxc,fxE,fxL,fxI,nxE,evO,evR,cellsT,ldCells,mkT,lenA,binPV,Env.init,resV,resT,frT,klT,ownT,intT,O.adds,ownA,rowsA,over,wrOk,keysT,keysA,ne_eq,if_true,if_false,ite_self,Nat.reduceLT,Nat.reduceSub,Nat.reduceBEq,Nat.reduceEqDiff,Nat.reduceAdd,Nat.reduceLeDiff,reduceCtorEq,Nat.reduceMul]
  simp only [Nt.set,Nt.nd,hxe,List.map_set,encN,encP]
end Go.Proofs.YtmlhgalboabjcaaGreat
end
section
set_option linter.unusedSimpArgs false
set_option linter.unusedVariables false
set_option maxHeartbeats 4000000
set_option maxRecDepth 10000
namespace Go.Proofs.YtmlhgalboabjcaaGreat
open Go.Fx
theorem ptEq (p q : Pt) : (decide (p.n = q.n) && decide (p.s = q.s)) = decide (p = q) := by
  obtain ⟨a,b⟩ := p
  obtain ⟨c,d⟩ := q
  rw [Bool.eq_iff_iff]; simp
theorem has_iff {n : Nt} {p : Pt} : n.has p = true ↔ 0 ≤ p.n ∧ p.n < n.ns.length ∧ 0 ≤ p.s ∧ p.s < (n.nd p.n).to.length := by
  simp only [Nt.has,Bool.and_eq_true,decide_eq_true_eq,ge_iff_le,and_assoc]
theorem nd_set (n : Nt) (p q : Pt) (hp : n.has p = true) (i : Int) (hi : 0 ≤ i) : (n.set p q).nd i = if i = p.n then { n.nd p.n with to := (n.nd p.n).to.set p.s.toNat q } else n.nd i := by
  rw [has_iff] at hp
  unfold Nt.set Nt.nd
  simp only
  rw [List.getD_eq_getElem?_getD,List.getElem?_set,List.getD_eq_getElem?_getD,List.getD_eq_getElem?_getD]
  by_cases h : i = p.n
  · subst h; rw [if_pos rfl,if_pos rfl,if_pos (by omega)]; rfl
  · rw [if_neg h,if_neg (by omega)]
theorem len_set (n : Nt) (p q : Pt) : (n.set p q).ns.length = n.ns.length := by simp [Nt.set]
theorem has_set {n : Nt} {p : Pt} (q r : Pt) (hp : n.has p = true) : (n.set p q).has r = n.has r := by
  rw [Bool.eq_iff_iff,has_iff,has_iff,len_set]
  constructor
  · rintro ⟨h1,h2,h3,h4⟩
    rw [nd_set n p q hp _ h1] at h4
    refine ⟨h1,h2,h3,?_⟩
    split at h4
    · rename_i e; rw [e]; simpa using h4
    · exact h4
  · rintro ⟨h1,h2,h3,h4⟩
    refine ⟨h1,h2,h3,?_⟩
    rw [nd_set n p q hp _ h1]
    split
    · rename_i e; rw [e] at h4; simpa using h4
    · exact h4
theorem nd_mem {n : Nt} {i : Int} (h0 : 0 ≤ i) (h1 : i < n.ns.length) : n.nd i ∈ n.ns := by
  unfold Nt.nd; rw [List.getD_eq_getElem?_getD,List.getElem?_eq_getElem (by omega)]; exact List.getElem_mem _
theorem Ok_set {n : Nt} {p q : Pt} (hn : n.Ok) (hp : n.has p = true) (hq : wf q.n ∧ wf q.s) : (n.set p q).Ok := by
  rw [has_iff] at hp
  have hx := hn.nd _ (nd_mem hp.1 hp.2.1)
  refine ⟨by rw [len_set]; exact hn.ns,hn.cap,fun x hx' => ?_⟩
  rcases List.mem_or_eq_of_mem_set hx' with h | rfl
  · exact hn.nd x h
  · exact ⟨hx.k,hx.lv,hx.n,hx.s,hx.al,by simpa using hx.to,hx.ap,fun r hr => by
      rcases List.mem_or_eq_of_mem_set hr with h | rfl
      · exact hx.tp r h
      · exact hq⟩
theorem lk_set {n : Nt} {p : Pt} (q r : Pt) (hp : n.has p = true) (hr : n.has r = true) : (n.set p q).lk r = if r = p then q else n.lk r := by
  have hr' := has_iff.1 hr
  have hp' := has_iff.1 hp
  unfold Nt.lk
  rw [nd_set n p q hp _ hr'.1]
  by_cases h : r = p
  · subst h; rw [if_pos rfl,if_pos rfl]
    simp only [Nd.tt,List.getD_eq_getElem?_getD,List.getElem?_set]
    rw [if_pos trivial,if_pos (by omega)]; rfl
  · rw [if_neg h]
    split
    · rename_i e
      have hs : r.s ≠ p.s := by intro h2; apply h; obtain ⟨a,b⟩ := r; obtain ⟨c,d⟩ := p; simp only at e h2; subst e h2; rfl
      simp only [Nd.tt,List.getD_eq_getElem?_getD,List.getElem?_set]
      rw [if_neg (by omega),e]
    · rfl
def linkR (n : Nt) (p q : Pt) : Nt × Int := if (n.has p && n.has q && !decide (p = q)) = true then ((n.set p q).set q p,0) else (n,130)
def moveR (n : Nt) (p q : Pt) : Nt × Int := if (n.has p && n.has q && !decide (p = q) && n.has (n.lk p)) = true then (if n.lk p = q then (n,0) else linkR n q (n.lk p)) else (n,130)
def joinR (n : Nt) (p q : Pt) : Nt × Int := if (n.has p && n.has q && !decide (p = q) && n.has (n.lk p) && n.has (n.lk q)) = true then (if n.lk p = q then (n,0) else linkR n (n.lk p) (n.lk q)) else (n,130)
def encTE (x : Nt × Int) : PT := .t [(true,encT x.1),(false,[.i .i64 x.2])]
theorem there1 (n : Nt) (p : Pt) : eP S 100 [.g (encT n),.a (.l [encP p])] = some (.a (.b (n.has p))) := by
  have := there_ok n [p] (by simp); simpa using this
theorem there2 (n : Nt) (p q : Pt) : eP S 100 [.g (encT n),.a (.l [encP p,encP q])] = some (.a (.b (n.has p && n.has q))) := by
  have := there_ok n [p,q] (by simp); simpa using this
theorem lnk_ok {n : Nt} {p q : Pt} (hn : n.Ok) (hp : wf p.n ∧ wf p.s) (hq : wf q.n ∧ wf q.s) : eP S 144 [.g (encT n),.g (encP p),.g (encP q)] = some (encTE (linkR n p q)) := by
  have a1 := there2 n p q
  refine x_fn (orcS (by decide)) (fc := F144) rfl rfl ?_
  simp only [encT,encP] at a1
  unfold linkR
  cases h1 : (n.has p && n.has q) with
  | false => simp only [F144,a1,h1,encTE,fxa,fxc,fxE,fxL,fxI,nxE,evO,evR,cellsT,ldCells,mkT,lenA,binPV,Env.init,resV,resT,frT,klT,ownT,intT,O.adds,ownA,rowsA,over,wrOk,keysT,keysA,ne_eq,if_true,if_false,ite_self,Nat.reduceLT,Nat.reduceSub,Nat.reduceBEq,Nat.reduceEqDiff,Nat.reduceAdd,Nat.reduceLeDiff,reduceCtorEq,Nat.reduceMul]
  | true =>
    rw [Bool.and_eq_true] at h1
    by_cases h2 : p = q
    · subst h2
      simp only [F144,a1,h1.1,encTE,ptEq,Bool.not_true,fxa,fxc,fxE,fxL,fxI,nxE,evO,evR,cellsT,ldCells,mkT,lenA,binPV,Env.init,resV,resT,frT,klT,ownT,intT,O.adds,ownA,rowsA,over,wrOk,keysT,keysA,ne_eq,if_true,if_false,ite_self,Nat.reduceLT,Nat.reduceSub,Nat.reduceBEq,Nat.reduceEqDiff,Nat.reduceAdd,Nat.reduceLeDiff,reduceCtorEq,Nat.reduceMul]
    · have a2 := with_ok q hn h1.1
      have a3 := with_ok p (Ok_set hn h1.1 hq) (by rw [has_set q q h1.1]; exact h1.2)
      simp only [encT,encP] at a2 a3
      simp only [F144,a1,a2,a3,h1.1,h1.2,h2,encTE,ptEq,fxa,fxc,fxE,fxL,fxI,nxE,evO,evR,cellsT,ldCells,mkT,lenA,binPV,Env.init,resV,resT,frT,klT,ownT,intT,O.adds,ownA,rowsA,over,wrOk,keysT,keysA,ne_eq,if_true,if_false,ite_self,Nat.reduceLT,Nat.reduceSub,Nat.reduceBEq,Nat.reduceEqDiff,Nat.reduceAdd,Nat.reduceLeDiff,reduceCtorEq,Nat.reduceMul]
theorem Peer_ok (n : Nt) (p : Pt) : eP S 60 [.g (encT n),.g (encP p)] = some (.t [(true,encP (if n.has p then n.lk p else zP)),(false,[.i .i64 (if n.has p then 0 else 130)])]) := by
  have a1 := there1 n p
  refine x_fn (orcS (by decide)) (fc := F60) rfl rfl ?_
  simp only [encT,encP] at a1
  cases h1 : n.has p with
  | false => simp only [F60,a1,h1,zP,Bool.false_eq_true,fxa,fxc,fxE,fxL,fxI,nxE,evO,evR,cellsT,ldCells,mkT,lenA,binPV,Env.init,resV,resT,frT,klT,ownT,intT,O.adds,ownA,rowsA,over,wrOk,keysT,keysA,ne_eq,if_true,if_false,ite_self,Nat.reduceLT,Nat.reduceSub,Nat.reduceBEq,Nat.reduceEqDiff,Nat.reduceAdd,Nat.reduceLeDiff,reduceCtorEq,Nat.reduceMul]
  | true =>
    have a2 := peer_ok h1
    simp only [encT,encP] at a2
    simp only [F60,a1,a2,h1,fxa,fxc,fxE,fxL,fxI,nxE,evO,evR,cellsT,ldCells,mkT,lenA,binPV,Env.init,resV,resT,frT,klT,ownT,intT,O.adds,ownA,rowsA,over,wrOk,keysT,keysA,ne_eq,if_true,if_false,ite_self,Nat.reduceLT,Nat.reduceSub,Nat.reduceBEq,Nat.reduceEqDiff,Nat.reduceAdd,Nat.reduceLeDiff,reduceCtorEq,Nat.reduceMul]
theorem Link_ok {n : Nt} {p q : Pt} (hn : n.Ok) (hp : wf p.n ∧ wf p.s) (hq : wf q.n ∧ wf q.s) : eP S 143 [.g (encT n),.g (encP p),.g (encP q)] = some (encTE (linkR n p q)) := by
  have a1 := lnk_ok hn hp hq
  refine x_fn (orcS (by decide)) (fc := F143) rfl rfl ?_
  obtain ⟨m,hm⟩ : ∃ m,linkR n p q = m := ⟨_,rfl⟩
  obtain ⟨⟨ms,mc⟩,me⟩ := m
  rw [hm] at a1 ⊢
  simp only [encTE,encT,encP] at a1
  simp only [F143,a1,encTE,fxa,fxc,fxE,fxL,fxI,nxE,evO,evR,cellsT,ldCells,mkT,lenA,binPV,Env.init,resV,resT,frT,klT,ownT,intT,O.adds,ownA,rowsA,over,wrOk,keysT,keysA,ne_eq,if_true,if_false,ite_self,Nat.reduceLT,Nat.reduceSub,Nat.reduceBEq,Nat.reduceEqDiff,Nat.reduceAdd,Nat.reduceLeDiff,reduceCtorEq,Nat.reduceMul]
theorem lk_wf {n : Nt} {p : Pt} (hn : n.Ok) (h : n.has p = true) : wf (n.lk p).n ∧ wf (n.lk p).s := by
  rw [has_iff] at h
  refine (hn.nd _ (nd_mem h.1 h.2.1)).tp _ ?_
  unfold Nt.lk Nd.tt
  rw [List.getD_eq_getElem?_getD,List.getElem?_eq_getElem (by omega)]; exact List.getElem_mem _
theorem Move_ok {n : Nt} {p q : Pt} (hn : n.Ok) (hp : wf p.n ∧ wf p.s) (hq : wf q.n ∧ wf q.s) : eP S 109 [.g (encT n),.g (encP p),.g (encP q)] = some (encTE (moveR n p q)) := by
  have a1 := there2 n p q
  refine x_fn (orcS (by decide)) (fc := F109) rfl rfl ?_
  simp only [encT,encP] at a1
  unfold moveR
  cases h1 : (n.has p && n.has q) with
  | false => simp only [F109,a1,h1,encTE,Bool.false_eq_true,fxa,fxc,fxE,fxL,fxI,nxE,evO,evR,cellsT,ldCells,mkT,lenA,binPV,Env.init,resV,resT,frT,klT,ownT,intT,O.adds,ownA,rowsA,over,wrOk,keysT,keysA,ne_eq,if_true,if_false,ite_self,Nat.reduceLT,Nat.reduceSub,Nat.reduceBEq,Nat.reduceEqDiff,Nat.reduceAdd,Nat.reduceLeDiff,reduceCtorEq,Nat.reduceMul]
  | true =>
    rw [Bool.and_eq_true] at h1
    by_cases h2 : p = q
    · subst h2
      simp only [F109,a1,h1.1,encTE,ptEq,Bool.false_eq_true,Bool.not_true,fxa,fxc,fxE,fxL,fxI,nxE,evO,evR,cellsT,ldCells,mkT,lenA,binPV,Env.init,resV,resT,frT,klT,ownT,intT,O.adds,ownA,rowsA,over,wrOk,keysT,keysA,ne_eq,if_true,if_false,ite_self,Nat.reduceLT,Nat.reduceSub,Nat.reduceBEq,Nat.reduceEqDiff,Nat.reduceAdd,Nat.reduceLeDiff,reduceCtorEq,Nat.reduceMul]
    · have a2 := peer_ok h1.1
      have a3 := there1 n (n.lk p)
      simp only [encT,encP] at a2 a3
      cases h3 : n.has (n.lk p) with
      | false => simp only [F109,a1,a2,a3,h1.1,h1.2,h2,h3,encTE,ptEq,Bool.false_eq_true,fxa,fxc,fxE,fxL,fxI,nxE,evO,evR,cellsT,ldCells,mkT,lenA,binPV,Env.init,resV,resT,frT,klT,ownT,intT,O.adds,ownA,rowsA,over,wrOk,keysT,keysA,ne_eq,if_true,if_false,ite_self,Nat.reduceLT,Nat.reduceSub,Nat.reduceBEq,Nat.reduceEqDiff,Nat.reduceAdd,Nat.reduceLeDiff,reduceCtorEq,Nat.reduceMul]
      | true =>
        by_cases h4 : n.lk p = q
        · subst h4
          simp only [F109,a1,a2,a3,h1.1,h1.2,h2,encTE,ptEq,Bool.false_eq_true,fxa,fxc,fxE,fxL,fxI,nxE,evO,evR,cellsT,ldCells,mkT,lenA,binPV,Env.init,resV,resT,frT,klT,ownT,intT,O.adds,ownA,rowsA,over,wrOk,keysT,keysA,ne_eq,if_true,if_false,ite_self,Nat.reduceLT,Nat.reduceSub,Nat.reduceBEq,Nat.reduceEqDiff,Nat.reduceAdd,Nat.reduceLeDiff,reduceCtorEq,Nat.reduceMul]
        · have a4 := lnk_ok hn hq (lk_wf hn h1.1)
          obtain ⟨m,hm⟩ : ∃ m,linkR n q (n.lk p) = m := ⟨_,rfl⟩
          obtain ⟨⟨ms,mc⟩,me⟩ := m
          rw [hm] at a4 ⊢
          simp only [encTE,encT,encP] at a4
          simp only [F109,a1,a2,a3,a4,h1.1,h1.2,h2,h3,h4,encTE,ptEq,Bool.false_eq_true,fxa,fxc,fxE,fxL,fxI,nxE,evO,evR,cellsT,ldCells,mkT,lenA,binPV,Env.init,resV,resT,frT,klT,ownT,intT,O.adds,ownA,rowsA,over,wrOk,keysT,keysA,ne_eq,if_true,if_false,ite_self,Nat.reduceLT,Nat.reduceSub,Nat.reduceBEq,Nat.reduceEqDiff,Nat.reduceAdd,Nat.reduceLeDiff,reduceCtorEq,Nat.reduceMul]
theorem Join_ok {n : Nt} {p q : Pt} (hn : n.Ok) (hp : wf p.n ∧ wf p.s) (hq : wf q.n ∧ wf q.s) : eP S 142 [.g (encT n),.g (encP p),.g (encP q)] = some (encTE (joinR n p q)) := by
  have a1 := there2 n p q
  refine x_fn (orcS (by decide)) (fc := F142) rfl rfl ?_
  simp only [encT,encP] at a1
  unfold joinR
  cases h1 : (n.has p && n.has q) with
  | false => simp only [F142,a1,h1,encTE,Bool.false_eq_true,fxa,fxc,fxE,fxL,fxI,nxE,evO,evR,cellsT,ldCells,mkT,lenA,binPV,Env.init,resV,resT,frT,klT,ownT,intT,O.adds,ownA,rowsA,over,wrOk,keysT,keysA,ne_eq,if_true,if_false,ite_self,Nat.reduceLT,Nat.reduceSub,Nat.reduceBEq,Nat.reduceEqDiff,Nat.reduceAdd,Nat.reduceLeDiff,reduceCtorEq,Nat.reduceMul]
  | true =>
    rw [Bool.and_eq_true] at h1
    by_cases h2 : p = q
    · subst h2
      simp only [F142,a1,h1.1,encTE,ptEq,Bool.false_eq_true,Bool.not_true,fxa,fxc,fxE,fxL,fxI,nxE,evO,evR,cellsT,ldCells,mkT,lenA,binPV,Env.init,resV,resT,frT,klT,ownT,intT,O.adds,ownA,rowsA,over,wrOk,keysT,keysA,ne_eq,if_true,if_false,ite_self,Nat.reduceLT,Nat.reduceSub,Nat.reduceBEq,Nat.reduceEqDiff,Nat.reduceAdd,Nat.reduceLeDiff,reduceCtorEq,Nat.reduceMul]
    · have a2 := peer_ok h1.1
      have a2' := peer_ok h1.2
      have a3 := there2 n (n.lk p) (n.lk q)
      simp only [encT,encP] at a2 a2' a3
      cases h3 : (n.has (n.lk p) && n.has (n.lk q)) with
      | false =>
        have h3' : (true && true && true && n.has (n.lk p) && n.has (n.lk q)) = false := by simpa using h3
        simp only [F142,a1,a2,a2',a3,h1.1,h1.2,h2,h3,h3',encTE,ptEq,Bool.false_eq_true,Bool.and_assoc,fxa,fxc,fxE,fxL,fxI,nxE,evO,evR,cellsT,ldCells,mkT,lenA,binPV,Env.init,resV,resT,frT,klT,ownT,intT,O.adds,ownA,rowsA,over,wrOk,keysT,keysA,ne_eq,if_true,if_false,ite_self,Nat.reduceLT,Nat.reduceSub,Nat.reduceBEq,Nat.reduceEqDiff,Nat.reduceAdd,Nat.reduceLeDiff,reduceCtorEq,Nat.reduceMul]
      | true =>
        rw [Bool.and_eq_true] at h3
        by_cases h4 : n.lk p = q
        · subst h4
          simp only [F142,a1,a2,a2',a3,h1.1,h1.2,h2,h3.2,encTE,ptEq,Bool.false_eq_true,fxa,fxc,fxE,fxL,fxI,nxE,evO,evR,cellsT,ldCells,mkT,lenA,binPV,Env.init,resV,resT,frT,klT,ownT,intT,O.adds,ownA,rowsA,over,wrOk,keysT,keysA,ne_eq,if_true,if_false,ite_self,Nat.reduceLT,Nat.reduceSub,Nat.reduceBEq,Nat.reduceEqDiff,Nat.reduceAdd,Nat.reduceLeDiff,reduceCtorEq,Nat.reduceMul]
        · have a4 := lnk_ok hn (lk_wf hn h1.1) (lk_wf hn h1.2)
          obtain ⟨m,hm⟩ : ∃ m,linkR n (n.lk p) (n.lk q) = m := ⟨_,rfl⟩
          obtain ⟨⟨ms,mc⟩,me⟩ := m
          rw [hm] at a4 ⊢
          simp only [encTE,encT,encP] at a4
          simp only [F142,a1,a2,a2',a3,a4,h1.1,h1.2,h2,h3.1,h3.2,h4,encTE,ptEq,Bool.false_eq_true,fxa,fxc,fxE,fxL,fxI,nxE,evO,evR,cellsT,ldCells,mkT,lenA,binPV,Env.init,resV,resT,frT,klT,ownT,intT,O.adds,ownA,rowsA,over,wrOk,keysT,keysA,ne_eq,if_true,if_false,ite_self,Nat.reduceLT,Nat.reduceSub,Nat.reduceBEq,Nat.reduceEqDiff,Nat.reduceAdd,Nat.reduceLeDiff,reduceCtorEq,Nat.reduceMul]
end Go.Proofs.YtmlhgalboabjcaaGreat
end
section
set_option linter.unusedSimpArgs false
set_option linter.unusedVariables false
set_option maxHeartbeats 4000000
set_option maxRecDepth 10000
namespace Go.Proofs.YtmlhgalboabjcaaGreat
open Go.Fx
theorem arEq (p q : Ar) : (decide (p.s = q.s) && decide (p.n = q.n)) = decide (p = q) := by
  obtain ⟨a,b⟩ := p
  obtain ⟨c,d⟩ := q
  rw [Bool.eq_iff_iff]; simp
theorem mapGet {α : Type} {l : List α} {i : Nat} {x : α} (f : α → List PV) (h : l[i]? = some x) : (l.map f)[i]? = some (f x) := by rw [List.getElem?_map,h]; rfl
theorem list_ext {α : Type} {l l' : List α} (hl : l.length = l'.length) (h : ∀ j,j < l.length → l[j]? = l'[j]?) : l = l' := by
  apply List.ext_getElem?
  intro j
  by_cases hj : j < l.length
  · exact h j hj
  · rw [List.getElem?_eq_none (by omega),List.getElem?_eq_none (by omega)]
theorem One_ok {a b : Nd} (ha : a.Ok) : eP S 32 [.g (encN a),.g (encN b)] = some (.a (.b (bool (a = b)))) := by
  refine x_fnB (orcS (by decide)) (fc := F32) rfl rfl ?_
  have hal := ha.al
  have hto := ha.to
  by_cases h1 : a.k = b.k
  case neg => simp only [F32,h1,fxa,fxc,fxE,fxL,fxI,nxE,evO,evR,cellsT,ldCells,mkT,lenA,binPV,Env.init,resV,resT,frT,klT,ownT,intT,O.adds,ownA,rowsA,over,wrOk,keysT,keysA,ne_eq,if_true,if_false,ite_self,Nat.reduceLT,Nat.reduceSub,Nat.reduceBEq,Nat.reduceEqDiff,Nat.reduceAdd,Nat.reduceLeDiff,reduceCtorEq,Nat.reduceMul]; intro h; exact h1 (by rw [h])
  by_cases h2 : a.lv = b.lv
  case neg => simp only [F32,h1,h2,fxa,fxc,fxE,fxL,fxI,nxE,evO,evR,cellsT,ldCells,mkT,lenA,binPV,Env.init,resV,resT,frT,klT,ownT,intT,O.adds,ownA,rowsA,over,wrOk,keysT,keysA,ne_eq,if_true,if_false,ite_self,Nat.reduceLT,Nat.reduceSub,Nat.reduceBEq,Nat.reduceEqDiff,Nat.reduceAdd,Nat.reduceLeDiff,reduceCtorEq,Nat.reduceMul]; intro h; exact h2 (by rw [h])
  by_cases h3 : a.n = b.n
  case neg => simp only [F32,h1,h2,h3,fxa,fxc,fxE,fxL,fxI,nxE,evO,evR,cellsT,ldCells,mkT,lenA,binPV,Env.init,resV,resT,frT,klT,ownT,intT,O.adds,ownA,rowsA,over,wrOk,keysT,keysA,ne_eq,if_true,if_false,ite_self,Nat.reduceLT,Nat.reduceSub,Nat.reduceBEq,Nat.reduceEqDiff,Nat.reduceAdd,Nat.reduceLeDiff,reduceCtorEq,Nat.reduceMul]; intro h; exact h3 (by rw [h])
  by_cases h4 : a.s = b.s
  case neg => simp only [F32,h1,h2,h3,h4,fxa,fxc,fxE,fxL,fxI,nxE,evO,evR,cellsT,ldCells,mkT,lenA,binPV,Env.init,resV,resT,frT,klT,ownT,intT,O.adds,ownA,rowsA,over,wrOk,keysT,keysA,ne_eq,if_true,if_false,ite_self,Nat.reduceLT,Nat.reduceSub,Nat.reduceBEq,Nat.reduceEqDiff,Nat.reduceAdd,Nat.reduceLeDiff,reduceCtorEq,Nat.reduceMul]; intro h; exact h4 (by rw [h])
  by_cases h5 : a.al.length = b.al.length
  case neg =>
    have h5' : ¬ (a.al.length : Int) = b.al.length := by omega
    simp only [F32,h1,h2,h3,h4,h5',fxa,fxc,fxE,fxL,fxI,nxE,evO,evR,cellsT,ldCells,mkT,lenA,binPV,Env.init,resV,resT,frT,klT,ownT,intT,O.adds,ownA,rowsA,over,wrOk,keysT,keysA,ne_eq,if_true,if_false,ite_self,Nat.reduceLT,Nat.reduceSub,Nat.reduceBEq,Nat.reduceEqDiff,Nat.reduceAdd,Nat.reduceLeDiff,reduceCtorEq,Nat.reduceMul]; intro h; exact h5 (by rw [h])
  by_cases h6 : a.to.length = b.to.length
  case neg =>
    have h6' : ¬ (a.to.length : Int) = b.to.length := by omega
    simp only [F32,h1,h2,h3,h4,h5,h6',fxa,fxc,fxE,fxL,fxI,nxE,evO,evR,cellsT,ldCells,mkT,lenA,binPV,Env.init,resV,resT,frT,klT,ownT,intT,O.adds,ownA,rowsA,over,wrOk,keysT,keysA,ne_eq,if_true,if_false,ite_self,Nat.reduceLT,Nat.reduceSub,Nat.reduceBEq,Nat.reduceEqDiff,Nat.reduceAdd,Nat.reduceLeDiff,reduceCtorEq,Nat.reduceMul]; intro h; exact h6 (by rw [h])
  simp only [F32,h1,h2,h3,h4,h5,h6,fxa,fxc,fxE,fxL,fxI,nxE,evO,evR,cellsT,ldCells,mkT,lenA,binPV,Env.init,resV,resT,frT,klT,ownT,intT,O.adds,ownA,rowsA,over,wrOk,keysT,keysA,ne_eq,if_true,if_false,ite_self,Nat.reduceLT,Nat.reduceSub,Nat.reduceBEq,Nat.reduceEqDiff,Nat.reduceAdd,Nat.reduceLeDiff,reduceCtorEq,Nat.reduceMul]
  refine loop_nat b.al.length (fun i e σ => e 2 = .a (.ptr (2,0) 0 0) ∧ e 3 = .a (.ptr (3,1) 0 0) ∧ e 5 = .a (.p (.i .i64 (i : Nat))) ∧ σ.bs (2,0) = some (.var ((encN a).map .p)) ∧ σ.bs (3,1) = some (.var ((encN b).map .p)) ∧ ∀ j,j < i → a.al[j]? = b.al[j]?) (i0 := 0) (Nat.zero_le _) ?_ ?_ ?_
  · refine ⟨?_,?_,?_,?_,?_,fun j hj => by omega⟩ <;> simp only [h1,h2,h3,h4,fxa,fxc,fxE,fxL,fxI,nxE,evO,evR,cellsT,ldCells,mkT,lenA,binPV,Env.init,resV,resT,frT,klT,ownT,intT,O.adds,ownA,rowsA,over,wrOk,keysT,keysA,ne_eq,if_true,if_false,ite_self,Nat.reduceLT,Nat.reduceSub,Nat.reduceBEq,Nat.reduceEqDiff,Nat.reduceAdd,Nat.reduceLeDiff,reduceCtorEq,Nat.reduceMul]
    rfl
  · rintro i e σ hi ⟨e2,e3,e5,s2,s3,hall⟩
    obtain ⟨x,hx⟩ : ∃ x,a.al[i]? = some x := ⟨_,List.getElem?_eq_getElem (by omega)⟩
    obtain ⟨y,hy⟩ : ∃ y,b.al[i]? = some y := ⟨_,List.getElem?_eq_getElem (by omega)⟩
    have hx' := mapGet encA hx
    have hy' := mapGet encA hy
    have hlt : ((i : Nat) : Int) < (a.al.length : Int) := by omega
    have hlt' : ((i : Nat) : Int) < (b.al.length : Int) := by omega
    have hge : (0 : Int) ≤ ((i : Nat) : Int) := by omega
    simp only [encN,List.map_cons,List.map_nil] at s2 s3
    by_cases hxy : x = y
    · subst hxy
      simp only [F32b0,e2,e3,e5,s2,s3,hlt,hlt',hge,hx',hy',arEq,fxa,fxc,fxE,fxL,fxI,nxE,evO,evR,cellsT,ldCells,mkT,lenA,binPV,Env.init,resV,resT,frT,klT,ownT,intT,O.adds,ownA,rowsA,over,wrOk,keysT,keysA,ne_eq,if_true,if_false,ite_self,Nat.reduceLT,Nat.reduceSub,Nat.reduceBEq,Nat.reduceEqDiff,Nat.reduceAdd,Nat.reduceLeDiff,reduceCtorEq,Nat.reduceMul]
      refine ⟨by rw [wrap_succ i (by omega)],fun j hj => ?_⟩
      by_cases e : j = i
      · rw [e,hx,hy]
      · exact hall j (by omega)
    · simp only [F32b0,e2,e3,e5,s2,s3,hlt,hlt',hge,hx',hy',arEq,hxy,fxa,fxc,fxE,fxL,fxI,nxE,evO,evR,cellsT,ldCells,mkT,lenA,binPV,Env.init,resV,resT,frT,klT,ownT,intT,O.adds,ownA,rowsA,over,wrOk,keysT,keysA,ne_eq,if_true,if_false,ite_self,Nat.reduceLT,Nat.reduceSub,Nat.reduceBEq,Nat.reduceEqDiff,Nat.reduceAdd,Nat.reduceLeDiff,reduceCtorEq,Nat.reduceMul]
      intro h; subst h; rw [hx] at hy; exact hxy (Option.some.inj hy)
  · rintro e σ ⟨e2,e3,e5,s2,s3,hall⟩
    have hlt : ¬ ((b.al.length : Nat) : Int) < (a.al.length : Int) := by omega
    have hal2 : a.al = b.al := list_ext h5 fun j hj => hall j (by omega)
    simp only [encN,List.map_cons,List.map_nil] at s2 s3
    simp only [F32b0,e2,e3,e5,s2,s3,hlt,fxa,fxc,fxE,fxL,fxI,nxE,evO,evR,cellsT,ldCells,mkT,lenA,binPV,Env.init,resV,resT,frT,klT,ownT,intT,O.adds,ownA,rowsA,over,wrOk,keysT,keysA,ne_eq,if_true,if_false,ite_self,Nat.reduceLT,Nat.reduceSub,Nat.reduceBEq,Nat.reduceEqDiff,Nat.reduceAdd,Nat.reduceLeDiff,reduceCtorEq,Nat.reduceMul]
    refine loop_nat b.to.length (fun i e σ => e 2 = .a (.ptr (2,0) 0 0) ∧ e 3 = .a (.ptr (3,1) 0 0) ∧ e 6 = .a (.p (.i .i64 (i : Nat))) ∧ σ.bs (2,0) = some (.var ((encN a).map .p)) ∧ σ.bs (3,1) = some (.var ((encN b).map .p)) ∧ ∀ j,j < i → a.to[j]? = b.to[j]?) (i0 := 0) (Nat.zero_le _) ?_ ?_ ?_
    · refine ⟨?_,?_,?_,?_,?_,fun j hj => by omega⟩ <;> simp only [e2,e3,s2,s3,fxa,fxc,fxE,fxL,fxI,nxE,evO,evR,cellsT,ldCells,mkT,lenA,binPV,Env.init,resV,resT,frT,klT,ownT,intT,O.adds,ownA,rowsA,over,wrOk,keysT,keysA,ne_eq,if_true,if_false,ite_self,Nat.reduceLT,Nat.reduceSub,Nat.reduceBEq,Nat.reduceEqDiff,Nat.reduceAdd,Nat.reduceLeDiff,reduceCtorEq,Nat.reduceMul]
      rfl
    · rintro i e σ hi ⟨e2,e3,e6,s2,s3,hall⟩
      obtain ⟨x,hx⟩ : ∃ x,a.to[i]? = some x := ⟨_,List.getElem?_eq_getElem (by omega)⟩
      obtain ⟨y,hy⟩ : ∃ y,b.to[i]? = some y := ⟨_,List.getElem?_eq_getElem (by omega)⟩
      have hx' := mapGet encP hx
      have hy' := mapGet encP hy
      have hlt : ((i : Nat) : Int) < (a.to.length : Int) := by omega
      have hlt' : ((i : Nat) : Int) < (b.to.length : Int) := by omega
      have hge : (0 : Int) ≤ ((i : Nat) : Int) := by omega
      simp only [encN,List.map_cons,List.map_nil] at s2 s3
      by_cases hxy : x = y
      · subst hxy
        simp only [F32b1,e2,e3,e6,s2,s3,hlt,hlt',hge,hx',hy',ptEq,fxa,fxc,fxE,fxL,fxI,nxE,evO,evR,cellsT,ldCells,mkT,lenA,binPV,Env.init,resV,resT,frT,klT,ownT,intT,O.adds,ownA,rowsA,over,wrOk,keysT,keysA,ne_eq,if_true,if_false,ite_self,Nat.reduceLT,Nat.reduceSub,Nat.reduceBEq,Nat.reduceEqDiff,Nat.reduceAdd,Nat.reduceLeDiff,reduceCtorEq,Nat.reduceMul]
        refine ⟨by rw [wrap_succ i (by omega)],fun j hj => ?_⟩
        by_cases e : j = i
        · rw [e,hx,hy]
        · exact hall j (by omega)
      · simp only [F32b1,e2,e3,e6,s2,s3,hlt,hlt',hge,hx',hy',ptEq,hxy,fxa,fxc,fxE,fxL,fxI,nxE,evO,evR,cellsT,ldCells,mkT,lenA,binPV,Env.init,resV,resT,frT,klT,ownT,intT,O.adds,ownA,rowsA,over,wrOk,keysT,keysA,ne_eq,if_true,if_false,ite_self,Nat.reduceLT,Nat.reduceSub,Nat.reduceBEq,Nat.reduceEqDiff,Nat.reduceAdd,Nat.reduceLeDiff,reduceCtorEq,Nat.reduceMul]
        intro h; subst h; rw [hx] at hy; exact hxy (Option.some.inj hy)
    · rintro e σ ⟨e2,e3,e6,s2,s3,hall⟩
      have hlt : ¬ ((b.to.length : Nat) : Int) < (a.to.length : Int) := by omega
      have hto2 : a.to = b.to := list_ext h6 fun j hj => hall j (by omega)
      simp only [encN,List.map_cons,List.map_nil] at s2 s3
      simp only [F32b1,e2,e3,e6,s2,s3,hlt,fxa,fxc,fxE,fxL,fxI,nxE,evO,evR,cellsT,ldCells,mkT,lenA,binPV,Env.init,resV,resT,frT,klT,ownT,intT,O.adds,ownA,rowsA,over,wrOk,keysT,keysA,ne_eq,if_true,if_false,ite_self,Nat.reduceLT,Nat.reduceSub,Nat.reduceBEq,Nat.reduceEqDiff,Nat.reduceAdd,Nat.reduceLeDiff,reduceCtorEq,Nat.reduceMul]
      obtain ⟨ak,al,an,at0,aa,at1⟩ := a
      obtain ⟨bk,bl,bn,bt0,ba,bt1⟩ := b
      simp only at h1 h2 h3 h4 hal2 hto2
      subst h1 h2 h3 h4 hal2 hto2
      rfl
theorem Same_ok {a b : Nt} (ha : a.Ok) : eP S 15 [.g (encT a),.g (encT b)] = some (.a (.b (bool (a = b)))) := by
  refine x_fnB (orcS (by decide)) (fc := F15) rfl rfl ?_
  have hns := ha.ns
  by_cases h1 : a.cap = b.cap
  case neg => simp only [F15,h1,fxa,fxc,fxE,fxL,fxI,nxE,evO,evR,cellsT,ldCells,mkT,lenA,binPV,Env.init,resV,resT,frT,klT,ownT,intT,O.adds,ownA,rowsA,over,wrOk,keysT,keysA,ne_eq,if_true,if_false,ite_self,Nat.reduceLT,Nat.reduceSub,Nat.reduceBEq,Nat.reduceEqDiff,Nat.reduceAdd,Nat.reduceLeDiff,reduceCtorEq,Nat.reduceMul]; intro h; exact h1 (by rw [h])
  by_cases h2 : a.ns.length = b.ns.length
  case neg =>
    have h2' : ¬ (a.ns.length : Int) = b.ns.length := by omega
    simp only [F15,h1,h2',fxa,fxc,fxE,fxL,fxI,nxE,evO,evR,cellsT,ldCells,mkT,lenA,binPV,Env.init,resV,resT,frT,klT,ownT,intT,O.adds,ownA,rowsA,over,wrOk,keysT,keysA,ne_eq,if_true,if_false,ite_self,Nat.reduceLT,Nat.reduceSub,Nat.reduceBEq,Nat.reduceEqDiff,Nat.reduceAdd,Nat.reduceLeDiff,reduceCtorEq,Nat.reduceMul]; intro h; exact h2 (by rw [h])
  simp only [F15,h1,h2,fxa,fxc,fxE,fxL,fxI,nxE,evO,evR,cellsT,ldCells,mkT,lenA,binPV,Env.init,resV,resT,frT,klT,ownT,intT,O.adds,ownA,rowsA,over,wrOk,keysT,keysA,ne_eq,if_true,if_false,ite_self,Nat.reduceLT,Nat.reduceSub,Nat.reduceBEq,Nat.reduceEqDiff,Nat.reduceAdd,Nat.reduceLeDiff,reduceCtorEq,Nat.reduceMul]
  refine loop_nat b.ns.length (fun i e σ => e 2 = .a (.ptr (2,0) 0 0) ∧ e 3 = .a (.ptr (3,1) 0 0) ∧ e 5 = .a (.p (.i .i64 (i : Nat))) ∧ σ.bs (2,0) = some (.var ((encT a).map .p)) ∧ σ.bs (3,1) = some (.var ((encT b).map .p)) ∧ ∀ j,j < i → a.ns[j]? = b.ns[j]?) (i0 := 0) (Nat.zero_le _) ?_ ?_ ?_
  · refine ⟨?_,?_,?_,?_,?_,fun j hj => by omega⟩ <;> simp only [h1,fxa,fxc,fxE,fxL,fxI,nxE,evO,evR,cellsT,ldCells,mkT,lenA,binPV,Env.init,resV,resT,frT,klT,ownT,intT,O.adds,ownA,rowsA,over,wrOk,keysT,keysA,ne_eq,if_true,if_false,ite_self,Nat.reduceLT,Nat.reduceSub,Nat.reduceBEq,Nat.reduceEqDiff,Nat.reduceAdd,Nat.reduceLeDiff,reduceCtorEq,Nat.reduceMul]
    rfl
  · rintro i e σ hi ⟨e2,e3,e5,s2,s3,hall⟩
    obtain ⟨x,hx⟩ : ∃ x,a.ns[i]? = some x := ⟨_,List.getElem?_eq_getElem (by omega)⟩
    obtain ⟨y,hy⟩ : ∃ y,b.ns[i]? = some y := ⟨_,List.getElem?_eq_getElem (by omega)⟩
    have hx' := mapGet encN hx
    have hy' := mapGet encN hy
    have hlt : ((i : Nat) : Int) < (a.ns.length : Int) := by omega
    have hlt' : ((i : Nat) : Int) < (b.ns.length : Int) := by omega
    have hge : (0 : Int) ≤ ((i : Nat) : Int) := by omega
    have c1 := One_ok (b := y) (ha.nd x (List.mem_of_getElem? hx))
    simp only [encT,List.map_cons,List.map_nil] at s2 s3
    simp only [encN] at c1
    by_cases hxy : x = y
    · rw [bool_t hxy] at c1
      simp only [F15b0,e2,e3,e5,s2,s3,hlt,hlt',hge,hx',hy',c1,fxa,fxc,fxE,fxL,fxI,nxE,evO,evR,cellsT,ldCells,mkT,lenA,binPV,Env.init,resV,resT,frT,klT,ownT,intT,O.adds,ownA,rowsA,over,wrOk,keysT,keysA,ne_eq,if_true,if_false,ite_self,Nat.reduceLT,Nat.reduceSub,Nat.reduceBEq,Nat.reduceEqDiff,Nat.reduceAdd,Nat.reduceLeDiff,reduceCtorEq,Nat.reduceMul]
      refine ⟨by rw [wrap_succ i (by omega)],fun j hj => ?_⟩
      by_cases e : j = i
      · rw [e,hx,hy,hxy]
      · exact hall j (by omega)
    · rw [bool_f hxy] at c1
      simp only [F15b0,e2,e3,e5,s2,s3,hlt,hlt',hge,hx',hy',c1,fxa,fxc,fxE,fxL,fxI,nxE,evO,evR,cellsT,ldCells,mkT,lenA,binPV,Env.init,resV,resT,frT,klT,ownT,intT,O.adds,ownA,rowsA,over,wrOk,keysT,keysA,ne_eq,if_true,if_false,ite_self,Nat.reduceLT,Nat.reduceSub,Nat.reduceBEq,Nat.reduceEqDiff,Nat.reduceAdd,Nat.reduceLeDiff,reduceCtorEq,Nat.reduceMul]
      intro h; subst h; rw [hx] at hy; exact hxy (Option.some.inj hy)
  · rintro e σ ⟨e2,e3,e5,s2,s3,hall⟩
    have hlt : ¬ ((b.ns.length : Nat) : Int) < (a.ns.length : Int) := by omega
    have hns2 : a.ns = b.ns := list_ext h2 fun j hj => hall j (by omega)
    simp only [encT,List.map_cons,List.map_nil] at s2 s3
    simp only [F15b0,e2,e3,e5,s2,s3,hlt,fxa,fxc,fxE,fxL,fxI,nxE,evO,evR,cellsT,ldCells,mkT,lenA,binPV,Env.init,resV,resT,frT,klT,ownT,intT,O.adds,ownA,rowsA,over,wrOk,keysT,keysA,ne_eq,if_true,if_false,ite_self,Nat.reduceLT,Nat.reduceSub,Nat.reduceBEq,Nat.reduceEqDiff,Nat.reduceAdd,Nat.reduceLeDiff,reduceCtorEq,Nat.reduceMul]
    obtain ⟨an,ac⟩ := a
    obtain ⟨bn,bc⟩ := b
    simp only at h1 hns2
    subst h1 hns2
    rfl
def Nt.small (n : Nt) (m : Int) : Prop := (∀ x,x ∈ n.ns → x.to.length ≤ 12 ∧ x.al.length ≤ 12) ∧ (n.ns.length : Int) ≤ m
theorem Small_ok {n : Nt} (hn : n.Ok) (m : Int) : eP S 17 [.g (encT n),.a (.i .i64 m)] = some (.a (.b (bool (n.small m)))) := by
  refine x_fnB (orcS (by decide)) (fc := F17) rfl rfl ?_
  have hns := hn.ns
  simp only [F17,fxa,fxc,fxE,fxL,fxI,nxE,evO,evR,cellsT,ldCells,mkT,lenA,binPV,Env.init,resV,resT,frT,klT,ownT,intT,O.adds,ownA,rowsA,over,wrOk,keysT,keysA,ne_eq,if_true,if_false,ite_self,Nat.reduceLT,Nat.reduceSub,Nat.reduceBEq,Nat.reduceEqDiff,Nat.reduceAdd,Nat.reduceLeDiff,reduceCtorEq,Nat.reduceMul]
  refine loop_nat n.ns.length (fun i e σ => e 1 = .a (.p (.i .i64 m)) ∧ e 2 = .a (.ptr (2,0) 0 0) ∧ e 5 = .a (.p (.i .i64 (i : Nat))) ∧ σ.bs (2,0) = some (.var ((encT n).map .p)) ∧ ∀ j x,j < i → n.ns[j]? = some x → x.to.length ≤ 12 ∧ x.al.length ≤ 12) (i0 := 0) (Nat.zero_le _) ?_ ?_ ?_
  · refine ⟨?_,?_,?_,?_,fun j x hj => by omega⟩ <;> simp only [fxa,fxc,fxE,fxL,fxI,nxE,evO,evR,cellsT,ldCells,mkT,lenA,binPV,Env.init,resV,resT,frT,klT,ownT,intT,O.adds,ownA,rowsA,over,wrOk,keysT,keysA,ne_eq,if_true,if_false,ite_self,Nat.reduceLT,Nat.reduceSub,Nat.reduceBEq,Nat.reduceEqDiff,Nat.reduceAdd,Nat.reduceLeDiff,reduceCtorEq,Nat.reduceMul]
    rfl
  · rintro i e σ hi ⟨e1,e2,e5,s2,hall⟩
    obtain ⟨x,hx⟩ : ∃ x,n.ns[i]? = some x := ⟨_,List.getElem?_eq_getElem (by omega)⟩
    have hx' := mapGet encN hx
    have hlt : ((i : Nat) : Int) < (n.ns.length : Int) := by omega
    have hge : (0 : Int) ≤ ((i : Nat) : Int) := by omega
    simp only [encT,List.map_cons,List.map_nil] at s2
    by_cases h1 : (x.to.length : Int) > 12
    · simp only [F17b0,e1,e2,e5,s2,hlt,hge,hx',h1,fxa,fxc,fxE,fxL,fxI,nxE,evO,evR,cellsT,ldCells,mkT,lenA,binPV,Env.init,resV,resT,frT,klT,ownT,intT,O.adds,ownA,rowsA,over,wrOk,keysT,keysA,ne_eq,if_true,if_false,ite_self,Nat.reduceLT,Nat.reduceSub,Nat.reduceBEq,Nat.reduceEqDiff,Nat.reduceAdd,Nat.reduceLeDiff,reduceCtorEq,Nat.reduceMul]
      intro h; have := h.1 x (List.mem_of_getElem? hx); omega
    · by_cases h2 : (x.al.length : Int) > 12
      · simp only [F17b0,e1,e2,e5,s2,hlt,hge,hx',h1,h2,fxa,fxc,fxE,fxL,fxI,nxE,evO,evR,cellsT,ldCells,mkT,lenA,binPV,Env.init,resV,resT,frT,klT,ownT,intT,O.adds,ownA,rowsA,over,wrOk,keysT,keysA,ne_eq,if_true,if_false,ite_self,Nat.reduceLT,Nat.reduceSub,Nat.reduceBEq,Nat.reduceEqDiff,Nat.reduceAdd,Nat.reduceLeDiff,reduceCtorEq,Nat.reduceMul]
        intro h; have := h.1 x (List.mem_of_getElem? hx); omega
      · simp only [F17b0,e1,e2,e5,s2,hlt,hge,hx',h1,h2,fxa,fxc,fxE,fxL,fxI,nxE,evO,evR,cellsT,ldCells,mkT,lenA,binPV,Env.init,resV,resT,frT,klT,ownT,intT,O.adds,ownA,rowsA,over,wrOk,keysT,keysA,ne_eq,if_true,if_false,ite_self,Nat.reduceLT,Nat.reduceSub,Nat.reduceBEq,Nat.reduceEqDiff,Nat.reduceAdd,Nat.reduceLeDiff,reduceCtorEq,Nat.reduceMul]
        refine ⟨by rw [wrap_succ i (by omega)],fun j y hj hy => ?_⟩
        by_cases e : j = i
        · subst e; rw [hx] at hy; rw [← Option.some.inj hy]; omega
        · exact hall j y (by omega) hy
  · rintro e σ ⟨e1,e2,e5,s2,hall⟩
    have hlt : ¬ ((n.ns.length : Nat) : Int) < (n.ns.length : Int) := by omega
    simp only [encT,List.map_cons,List.map_nil] at s2
    simp only [F17b0,e1,e2,e5,s2,hlt,fxa,fxc,fxE,fxL,fxI,nxE,evO,evR,cellsT,ldCells,mkT,lenA,binPV,Env.init,resV,resT,frT,klT,ownT,intT,O.adds,ownA,rowsA,over,wrOk,keysT,keysA,ne_eq,if_true,if_false,ite_self,Nat.reduceLT,Nat.reduceSub,Nat.reduceBEq,Nat.reduceEqDiff,Nat.reduceAdd,Nat.reduceLeDiff,reduceCtorEq,Nat.reduceMul]
    rw [decide_eq_true_iff]
    refine ⟨fun h => ⟨fun x hx => ?_,h⟩,fun h => h.2⟩
    obtain ⟨j,hj⟩ := List.getElem?_of_mem hx
    exact hall j x (List.getElem?_eq_some_iff.1 hj).1 hj
end Go.Proofs.YtmlhgalboabjcaaGreat
end
section
set_option linter.unusedSimpArgs false
set_option linter.unusedVariables false
set_option maxHeartbeats 4000000
set_option maxRecDepth 10000
namespace Go.Proofs.YtmlhgalboabjcaaGreat
open Go.Fx
theorem x_cutR {rd : Bool} {a b : C} {e : Env} {σ : St} {Q : Ex → Env → St → Prop} (M : Env → St → Prop) (h : wp S rd a e σ (LQ M Q)) (k : ∀ e' σ',M e' σ' → wp S rd b e' σ' Q) : wp S rd (.seq a b) e σ Q := by
  rw [x_seq]
  refine Go.Fx.wp_mono h fun x e' σ' q => ?_
  cases x with
  | norm => exact k e' σ' q
  | exit id => exact q
  | ret => exact q
def Nd.ports (x : Nd) : Int :=
  if x.k = 1 ∨ x.k = 7 ∨ x.k = 10 ∨ x.k = 13 then 1 else if x.k = 5 ∨ x.k = 6 ∨ x.k = 12 then 2 else if x.k = 2 ∨ x.k = 3 ∨ x.k = 4 ∨ x.k = 11 then 3 else if x.k = 8 then x.to.length else if x.k = 9 then 2 + x.al.length else 0
theorem RPorts_ok {x : Nd} (hx : x.Ok) : eP S 34 [.g (encN x)] = some (.a (.i .i64 x.ports)) := by
  refine x_fn (orcS (by decide)) (fc := F34) rfl rfl ?_
  have hal := hx.al
  have hw : IntKind.i64.wrap (2 + (x.al.length : Int)) = 2 + x.al.length := wrap_in _ (by omega)
  unfold Nd.ports
  by_cases h1 : x.k = 1
  · simp only [F34,h1,Int.reduceEq,or_true,true_or,or_false,false_or,fxa,fxc,fxE,fxL,fxI,nxE,evO,evR,cellsT,ldCells,mkT,lenA,binPV,Env.init,resV,resT,frT,klT,ownT,intT,O.adds,ownA,rowsA,over,wrOk,keysT,keysA,ne_eq,if_true,if_false,ite_self,Nat.reduceLT,Nat.reduceSub,Nat.reduceBEq,Nat.reduceEqDiff,Nat.reduceAdd,Nat.reduceLeDiff,reduceCtorEq,Nat.reduceMul]
  by_cases h2 : x.k = 7
  · simp only [F34,h2,Int.reduceEq,or_true,true_or,or_false,false_or,fxa,fxc,fxE,fxL,fxI,nxE,evO,evR,cellsT,ldCells,mkT,lenA,binPV,Env.init,resV,resT,frT,klT,ownT,intT,O.adds,ownA,rowsA,over,wrOk,keysT,keysA,ne_eq,if_true,if_false,ite_self,Nat.reduceLT,Nat.reduceSub,Nat.reduceBEq,Nat.reduceEqDiff,Nat.reduceAdd,Nat.reduceLeDiff,reduceCtorEq,Nat.reduceMul]
  by_cases h3 : x.k = 10
  · simp only [F34,h3,Int.reduceEq,or_true,true_or,or_false,false_or,fxa,fxc,fxE,fxL,fxI,nxE,evO,evR,cellsT,ldCells,mkT,lenA,binPV,Env.init,resV,resT,frT,klT,ownT,intT,O.adds,ownA,rowsA,over,wrOk,keysT,keysA,ne_eq,if_true,if_false,ite_self,Nat.reduceLT,Nat.reduceSub,Nat.reduceBEq,Nat.reduceEqDiff,Nat.reduceAdd,Nat.reduceLeDiff,reduceCtorEq,Nat.reduceMul]
  by_cases h4 : x.k = 13
  · simp only [F34,h4,Int.reduceEq,or_true,true_or,or_false,false_or,fxa,fxc,fxE,fxL,fxI,nxE,evO,evR,cellsT,ldCells,mkT,lenA,binPV,Env.init,resV,resT,frT,klT,ownT,intT,O.adds,ownA,rowsA,over,wrOk,keysT,keysA,ne_eq,if_true,if_false,ite_self,Nat.reduceLT,Nat.reduceSub,Nat.reduceBEq,Nat.reduceEqDiff,Nat.reduceAdd,Nat.reduceLeDiff,reduceCtorEq,Nat.reduceMul]
  by_cases h5 : x.k = 5
  · simp only [F34,h5,Int.reduceEq,or_true,true_or,or_false,false_or,fxa,fxc,fxE,fxL,fxI,nxE,evO,evR,cellsT,ldCells,mkT,lenA,binPV,Env.init,resV,resT,frT,klT,ownT,intT,O.adds,ownA,rowsA,over,wrOk,keysT,keysA,ne_eq,if_true,if_false,ite_self,Nat.reduceLT,Nat.reduceSub,Nat.reduceBEq,Nat.reduceEqDiff,Nat.reduceAdd,Nat.reduceLeDiff,reduceCtorEq,Nat.reduceMul]
  by_cases h6 : x.k = 6
  · simp only [F34,h6,Int.reduceEq,or_true,true_or,or_false,false_or,fxa,fxc,fxE,fxL,fxI,nxE,evO,evR,cellsT,ldCells,mkT,lenA,binPV,Env.init,resV,resT,frT,klT,ownT,intT,O.adds,ownA,rowsA,over,wrOk,keysT,keysA,ne_eq,if_true,if_false,ite_self,Nat.reduceLT,Nat.reduceSub,Nat.reduceBEq,Nat.reduceEqDiff,Nat.reduceAdd,Nat.reduceLeDiff,reduceCtorEq,Nat.reduceMul]
  by_cases h7 : x.k = 12
  · simp only [F34,h7,Int.reduceEq,or_true,true_or,or_false,false_or,fxa,fxc,fxE,fxL,fxI,nxE,evO,evR,cellsT,ldCells,mkT,lenA,binPV,Env.init,resV,resT,frT,klT,ownT,intT,O.adds,ownA,rowsA,over,wrOk,keysT,keysA,ne_eq,if_true,if_false,ite_self,Nat.reduceLT,Nat.reduceSub,Nat.reduceBEq,Nat.reduceEqDiff,Nat.reduceAdd,Nat.reduceLeDiff,reduceCtorEq,Nat.reduceMul]
  by_cases h8 : x.k = 2
  · simp only [F34,h8,Int.reduceEq,or_true,true_or,or_false,false_or,fxa,fxc,fxE,fxL,fxI,nxE,evO,evR,cellsT,ldCells,mkT,lenA,binPV,Env.init,resV,resT,frT,klT,ownT,intT,O.adds,ownA,rowsA,over,wrOk,keysT,keysA,ne_eq,if_true,if_false,ite_self,Nat.reduceLT,Nat.reduceSub,Nat.reduceBEq,Nat.reduceEqDiff,Nat.reduceAdd,Nat.reduceLeDiff,reduceCtorEq,Nat.reduceMul]
  by_cases h9 : x.k = 3
  · simp only [F34,h9,Int.reduceEq,or_true,true_or,or_false,false_or,fxa,fxc,fxE,fxL,fxI,nxE,evO,evR,cellsT,ldCells,mkT,lenA,binPV,Env.init,resV,resT,frT,klT,ownT,intT,O.adds,ownA,rowsA,over,wrOk,keysT,keysA,ne_eq,if_true,if_false,ite_self,Nat.reduceLT,Nat.reduceSub,Nat.reduceBEq,Nat.reduceEqDiff,Nat.reduceAdd,Nat.reduceLeDiff,reduceCtorEq,Nat.reduceMul]
  by_cases h10 : x.k = 4
  · simp only [F34,h10,Int.reduceEq,or_true,true_or,or_false,false_or,fxa,fxc,fxE,fxL,fxI,nxE,evO,evR,cellsT,ldCells,mkT,lenA,binPV,Env.init,resV,resT,frT,klT,ownT,intT,O.adds,ownA,rowsA,over,wrOk,keysT,keysA,ne_eq,if_true,if_false,ite_self,Nat.reduceLT,Nat.reduceSub,Nat.reduceBEq,Nat.reduceEqDiff,Nat.reduceAdd,Nat.reduceLeDiff,reduceCtorEq,Nat.reduceMul]
  by_cases h11 : x.k = 11
  · simp only [F34,h11,Int.reduceEq,or_true,true_or,or_false,false_or,fxa,fxc,fxE,fxL,fxI,nxE,evO,evR,cellsT,ldCells,mkT,lenA,binPV,Env.init,resV,resT,frT,klT,ownT,intT,O.adds,ownA,rowsA,over,wrOk,keysT,keysA,ne_eq,if_true,if_false,ite_self,Nat.reduceLT,Nat.reduceSub,Nat.reduceBEq,Nat.reduceEqDiff,Nat.reduceAdd,Nat.reduceLeDiff,reduceCtorEq,Nat.reduceMul]
  by_cases h12 : x.k = 8
  · simp only [F34,h12,Int.reduceEq,or_true,true_or,or_false,false_or,fxa,fxc,fxE,fxL,fxI,nxE,evO,evR,cellsT,ldCells,mkT,lenA,binPV,Env.init,resV,resT,frT,klT,ownT,intT,O.adds,ownA,rowsA,over,wrOk,keysT,keysA,ne_eq,if_true,if_false,ite_self,Nat.reduceLT,Nat.reduceSub,Nat.reduceBEq,Nat.reduceEqDiff,Nat.reduceAdd,Nat.reduceLeDiff,reduceCtorEq,Nat.reduceMul]
  by_cases h13 : x.k = 9
  · simp only [F34,h13,hw,Int.reduceEq,or_true,true_or,or_false,false_or,fxa,fxc,fxE,fxL,fxI,nxE,evO,evR,cellsT,ldCells,mkT,lenA,binPV,Env.init,resV,resT,frT,klT,ownT,intT,O.adds,ownA,rowsA,over,wrOk,keysT,keysA,ne_eq,if_true,if_false,ite_self,Nat.reduceLT,Nat.reduceSub,Nat.reduceBEq,Nat.reduceEqDiff,Nat.reduceAdd,Nat.reduceLeDiff,reduceCtorEq,Nat.reduceMul]
  · simp only [F34,h1,h2,h3,h4,h5,h6,h7,h8,h9,h10,h11,h12,h13,or_false,false_or,fxa,fxc,fxE,fxL,fxI,nxE,evO,evR,cellsT,ldCells,mkT,lenA,binPV,Env.init,resV,resT,frT,klT,ownT,intT,O.adds,ownA,rowsA,over,wrOk,keysT,keysA,ne_eq,if_true,if_false,ite_self,Nat.reduceLT,Nat.reduceSub,Nat.reduceBEq,Nat.reduceEqDiff,Nat.reduceAdd,Nat.reduceLeDiff,reduceCtorEq,Nat.reduceMul]
def altOk (l : List Ar) : Prop := ∀ (i : Nat) (a : Ar),l[i]? = some a → a.s ≠ [] ∧ 0 ≤ a.n ∧ a.n ≤ 8 ∧ ∀ (j : Nat) (b : Ar),j < i → l[j]? = some b → b.s ≠ a.s
structure Nd.may (x : Nd) : Prop where
  k0 : 0 ≤ x.k
  k1 : x.k ≤ 13
  lv0 : 0 ≤ x.lv
  lv1 : x.lv ≤ 60
  lv2 : x.k < 2 → x.lv ≤ 0
  nm : x.s ≠ [] ↔ (x.k = 8 ∨ x.k = 11 ∨ x.k = 12)
  nn : x.n ≠ 0 → x.k = 10 ∨ x.k = 12
  to8 : x.k = 8 → 1 ≤ (x.to.length : Int) ∧ (x.to.length : Int) ≤ 9
  al9 : x.k = 9 → 1 ≤ (x.al.length : Int)
  aln : x.k ≠ 9 → (x.al.length : Int) ≤ 0
  al8 : (x.al.length : Int) ≤ 8
  alt : altOk x.al
def NdM (x : Nd) (e : Env) (σ : St) : Prop := e 1 = .a (.ptr (1,0) 0 0) ∧ σ.bs (1,0) = some (.var [.p (.i .i64 x.k),.p (.i .i64 x.lv),.p (.i .i64 x.n),.p (.s x.s),.p (.l (x.al.map encA)),.p (.l (x.to.map encP))])
theorem RNode_ok {x : Nd} (hx : x.Ok) : eP S 33 [.g (encN x)] = some (.a (.b (bool x.may))) := by
  refine x_fnB (orcS (by decide)) (fc := F33) rfl rfl ?_
  have hal := hx.al
  unfold F33
  simp only [encN,List.map_cons,List.map_nil,ofPT_g]
  refine x_cutR (NdM x) ?_ fun e σ hM => ?_
  · simp only [fxa,fxc,fxE,fxL,fxI,nxE,evO,evR,cellsT,ldCells,mkT,lenA,binPV,Env.init,resV,resT,frT,klT,ownT,intT,O.adds,ownA,rowsA,over,wrOk,keysT,keysA,ne_eq,if_true,if_false,ite_self,Nat.reduceLT,Nat.reduceSub,Nat.reduceBEq,Nat.reduceEqDiff,Nat.reduceAdd,Nat.reduceLeDiff,reduceCtorEq,Nat.reduceMul]
    exact ⟨by simp only [fxa,fxc,fxE,fxL,fxI,nxE,evO,evR,cellsT,ldCells,mkT,lenA,binPV,Env.init,resV,resT,frT,klT,ownT,intT,O.adds,ownA,rowsA,over,wrOk,keysT,keysA,ne_eq,if_true,if_false,ite_self,Nat.reduceLT,Nat.reduceSub,Nat.reduceBEq,Nat.reduceEqDiff,Nat.reduceAdd,Nat.reduceLeDiff,reduceCtorEq,Nat.reduceMul],by simp only [fxa,fxc,fxE,fxL,fxI,nxE,evO,evR,cellsT,ldCells,mkT,lenA,binPV,Env.init,resV,resT,frT,klT,ownT,intT,O.adds,ownA,rowsA,over,wrOk,keysT,keysA,ne_eq,if_true,if_false,ite_self,Nat.reduceLT,Nat.reduceSub,Nat.reduceBEq,Nat.reduceEqDiff,Nat.reduceAdd,Nat.reduceLeDiff,reduceCtorEq,Nat.reduceMul]⟩
  obtain ⟨e1,s1⟩ := hM
  refine x_cutR (fun e σ => NdM x e σ ∧ 0 ≤ x.k ∧ x.k ≤ 13 ∧ 0 ≤ x.lv ∧ x.lv ≤ 60 ∧ (x.k < 2 → x.lv ≤ 0)) ?_ fun e' σ' hM => ?_
  · simp only [e1,s1,fxa,fxc,fxE,fxL,fxI,nxE,evO,evR,cellsT,ldCells,mkT,lenA,binPV,Env.init,resV,resT,frT,klT,ownT,intT,O.adds,ownA,rowsA,over,wrOk,keysT,keysA,ne_eq,if_true,if_false,ite_self,Nat.reduceLT,Nat.reduceSub,Nat.reduceBEq,Nat.reduceEqDiff,Nat.reduceAdd,Nat.reduceLeDiff,reduceCtorEq,Nat.reduceMul]
    iterate 7
      all_goals try (first
        | (refine wpX_bsplit (fun h => ?_) (fun h => ?_) <;> simp only [h,e1,s1,fxa,fxc,fxE,fxL,fxI,nxE,evO,evR,cellsT,ldCells,mkT,lenA,binPV,Env.init,resV,resT,frT,klT,ownT,intT,O.adds,ownA,rowsA,over,wrOk,keysT,keysA,ne_eq,if_true,if_false,ite_self,Nat.reduceLT,Nat.reduceSub,Nat.reduceBEq,Nat.reduceEqDiff,Nat.reduceAdd,Nat.reduceLeDiff,reduceCtorEq,Nat.reduceMul])
        | (refine wpC_split (fun h => ?_) (fun h => ?_) <;> simp only [h,e1,s1,fxa,fxc,fxE,fxL,fxI,nxE,evO,evR,cellsT,ldCells,mkT,lenA,binPV,Env.init,resV,resT,frT,klT,ownT,intT,O.adds,ownA,rowsA,over,wrOk,keysT,keysA,ne_eq,if_true,if_false,ite_self,Nat.reduceLT,Nat.reduceSub,Nat.reduceBEq,Nat.reduceEqDiff,Nat.reduceAdd,Nat.reduceLeDiff,reduceCtorEq,Nat.reduceMul]))
    all_goals simp only [Bool.not_eq_false',Bool.not_eq_true',Bool.not_false,Bool.not_true,decide_eq_true_eq,decide_eq_false_iff_not,Int.natCast_inj] at *
    all_goals first
      | (intro hP; have p1 := hP.k0; have p2 := hP.k1; have p3 := hP.lv0; have p4 := hP.lv1; have p5 := hP.lv2; omega)
      | (refine ⟨⟨by simp only [e1,fxa,fxc,fxE,fxL,fxI,nxE,evO,evR,cellsT,ldCells,mkT,lenA,binPV,Env.init,resV,resT,frT,klT,ownT,intT,O.adds,ownA,rowsA,over,wrOk,keysT,keysA,ne_eq,if_true,if_false,ite_self,Nat.reduceLT,Nat.reduceSub,Nat.reduceBEq,Nat.reduceEqDiff,Nat.reduceAdd,Nat.reduceLeDiff,reduceCtorEq,Nat.reduceMul],by simp only [s1,fxa,fxc,fxE,fxL,fxI,nxE,evO,evR,cellsT,ldCells,mkT,lenA,binPV,Env.init,resV,resT,frT,klT,ownT,intT,O.adds,ownA,rowsA,over,wrOk,keysT,keysA,ne_eq,if_true,if_false,ite_self,Nat.reduceLT,Nat.reduceSub,Nat.reduceBEq,Nat.reduceEqDiff,Nat.reduceAdd,Nat.reduceLeDiff,reduceCtorEq,Nat.reduceMul]⟩,?_⟩; omega)
  clear e1 s1
  obtain ⟨⟨e1,s1⟩,hA⟩ := hM
  refine x_cutR (fun e σ => NdM x e σ ∧ (x.s ≠ [] ↔ (x.k = 8 ∨ x.k = 11 ∨ x.k = 12)) ∧ (x.n ≠ 0 → x.k = 10 ∨ x.k = 12)) ?_ fun e' σ' hM => ?_
  · simp only [e1,s1,fxa,fxc,fxE,fxL,fxI,nxE,evO,evR,cellsT,ldCells,mkT,lenA,binPV,Env.init,resV,resT,frT,klT,ownT,intT,O.adds,ownA,rowsA,over,wrOk,keysT,keysA,ne_eq,if_true,if_false,ite_self,Nat.reduceLT,Nat.reduceSub,Nat.reduceBEq,Nat.reduceEqDiff,Nat.reduceAdd,Nat.reduceLeDiff,reduceCtorEq,Nat.reduceMul]
    cases hs : decide (x.s = []) with
    | true =>
      have hs' : x.s = [] := by simpa using hs
      simp only [hs,e1,s1,fxa,fxc,fxE,fxL,fxI,nxE,evO,evR,cellsT,ldCells,mkT,lenA,binPV,Env.init,resV,resT,frT,klT,ownT,intT,O.adds,ownA,rowsA,over,wrOk,keysT,keysA,ne_eq,if_true,if_false,ite_self,Nat.reduceLT,Nat.reduceSub,Nat.reduceBEq,Nat.reduceEqDiff,Nat.reduceAdd,Nat.reduceLeDiff,reduceCtorEq,Nat.reduceMul]
      iterate 8
        all_goals try (first
          | (refine wpX_bsplit (fun h => ?_) (fun h => ?_) <;> simp only [h,e1,s1,fxa,fxc,fxE,fxL,fxI,nxE,evO,evR,cellsT,ldCells,mkT,lenA,binPV,Env.init,resV,resT,frT,klT,ownT,intT,O.adds,ownA,rowsA,over,wrOk,keysT,keysA,ne_eq,if_true,if_false,ite_self,Nat.reduceLT,Nat.reduceSub,Nat.reduceBEq,Nat.reduceEqDiff,Nat.reduceAdd,Nat.reduceLeDiff,reduceCtorEq,Nat.reduceMul])
          | (refine wpC_split (fun h => ?_) (fun h => ?_) <;> simp only [h,e1,s1,fxa,fxc,fxE,fxL,fxI,nxE,evO,evR,cellsT,ldCells,mkT,lenA,binPV,Env.init,resV,resT,frT,klT,ownT,intT,O.adds,ownA,rowsA,over,wrOk,keysT,keysA,ne_eq,if_true,if_false,ite_self,Nat.reduceLT,Nat.reduceSub,Nat.reduceBEq,Nat.reduceEqDiff,Nat.reduceAdd,Nat.reduceLeDiff,reduceCtorEq,Nat.reduceMul]))
      all_goals simp only [Bool.not_eq_false',Bool.not_eq_true',Bool.not_false,Bool.not_true,decide_eq_true_eq,decide_eq_false_iff_not,Int.natCast_inj] at *
      all_goals try simp only [Bool.false_eq,Bool.true_eq,Bool.not_eq_false',Bool.not_eq_true',Bool.not_false,Bool.not_true,decide_eq_true_eq,decide_eq_false_iff_not,Int.natCast_inj] at *
      all_goals first
        | (intro hP; have p1 := hP.nm; have p2 := hP.nn; simp only [hs',ne_eq,not_true_eq_false,false_iff] at p1; omega)
        | (refine ⟨⟨by simp only [e1,fxa,fxc,fxE,fxL,fxI,nxE,evO,evR,cellsT,ldCells,mkT,lenA,binPV,Env.init,resV,resT,frT,klT,ownT,intT,O.adds,ownA,rowsA,over,wrOk,keysT,keysA,ne_eq,if_true,if_false,ite_self,Nat.reduceLT,Nat.reduceSub,Nat.reduceBEq,Nat.reduceEqDiff,Nat.reduceAdd,Nat.reduceLeDiff,reduceCtorEq,Nat.reduceMul],by simp only [s1,fxa,fxc,fxE,fxL,fxI,nxE,evO,evR,cellsT,ldCells,mkT,lenA,binPV,Env.init,resV,resT,frT,klT,ownT,intT,O.adds,ownA,rowsA,over,wrOk,keysT,keysA,ne_eq,if_true,if_false,ite_self,Nat.reduceLT,Nat.reduceSub,Nat.reduceBEq,Nat.reduceEqDiff,Nat.reduceAdd,Nat.reduceLeDiff,reduceCtorEq,Nat.reduceMul]⟩,?_⟩; simp only [hs',ne_eq,not_true_eq_false,false_iff]; omega)
    | false =>
      have hs' : ¬ x.s = [] := by simpa using hs
      simp only [hs,e1,s1,fxa,fxc,fxE,fxL,fxI,nxE,evO,evR,cellsT,ldCells,mkT,lenA,binPV,Env.init,resV,resT,frT,klT,ownT,intT,O.adds,ownA,rowsA,over,wrOk,keysT,keysA,ne_eq,if_true,if_false,ite_self,Nat.reduceLT,Nat.reduceSub,Nat.reduceBEq,Nat.reduceEqDiff,Nat.reduceAdd,Nat.reduceLeDiff,reduceCtorEq,Nat.reduceMul]
      iterate 8
        all_goals try (first
          | (refine wpX_bsplit (fun h => ?_) (fun h => ?_) <;> simp only [h,e1,s1,fxa,fxc,fxE,fxL,fxI,nxE,evO,evR,cellsT,ldCells,mkT,lenA,binPV,Env.init,resV,resT,frT,klT,ownT,intT,O.adds,ownA,rowsA,over,wrOk,keysT,keysA,ne_eq,if_true,if_false,ite_self,Nat.reduceLT,Nat.reduceSub,Nat.reduceBEq,Nat.reduceEqDiff,Nat.reduceAdd,Nat.reduceLeDiff,reduceCtorEq,Nat.reduceMul])
          | (refine wpC_split (fun h => ?_) (fun h => ?_) <;> simp only [h,e1,s1,fxa,fxc,fxE,fxL,fxI,nxE,evO,evR,cellsT,ldCells,mkT,lenA,binPV,Env.init,resV,resT,frT,klT,ownT,intT,O.adds,ownA,rowsA,over,wrOk,keysT,keysA,ne_eq,if_true,if_false,ite_self,Nat.reduceLT,Nat.reduceSub,Nat.reduceBEq,Nat.reduceEqDiff,Nat.reduceAdd,Nat.reduceLeDiff,reduceCtorEq,Nat.reduceMul]))
      all_goals simp only [Bool.not_eq_false',Bool.not_eq_true',Bool.not_false,Bool.not_true,decide_eq_true_eq,decide_eq_false_iff_not,Int.natCast_inj] at *
      all_goals try simp only [Bool.false_eq,Bool.true_eq,Bool.not_eq_false',Bool.not_eq_true',Bool.not_false,Bool.not_true,decide_eq_true_eq,decide_eq_false_iff_not,Int.natCast_inj] at *
      all_goals first
        | (intro hP; have p1 := hP.nm; have p2 := hP.nn; simp only [hs',ne_eq,not_false_eq_true,true_iff] at p1; omega)
        | (refine ⟨⟨by simp only [e1,fxa,fxc,fxE,fxL,fxI,nxE,evO,evR,cellsT,ldCells,mkT,lenA,binPV,Env.init,resV,resT,frT,klT,ownT,intT,O.adds,ownA,rowsA,over,wrOk,keysT,keysA,ne_eq,if_true,if_false,ite_self,Nat.reduceLT,Nat.reduceSub,Nat.reduceBEq,Nat.reduceEqDiff,Nat.reduceAdd,Nat.reduceLeDiff,reduceCtorEq,Nat.reduceMul],by simp only [s1,fxa,fxc,fxE,fxL,fxI,nxE,evO,evR,cellsT,ldCells,mkT,lenA,binPV,Env.init,resV,resT,frT,klT,ownT,intT,O.adds,ownA,rowsA,over,wrOk,keysT,keysA,ne_eq,if_true,if_false,ite_self,Nat.reduceLT,Nat.reduceSub,Nat.reduceBEq,Nat.reduceEqDiff,Nat.reduceAdd,Nat.reduceLeDiff,reduceCtorEq,Nat.reduceMul]⟩,?_⟩; simp only [hs',ne_eq,not_false_eq_true,true_iff]; omega)
  clear e1 s1
  obtain ⟨⟨e1,s1⟩,hB⟩ := hM
  refine x_cutR (fun e σ => NdM x e σ ∧ (x.k = 8 → 1 ≤ (x.to.length : Int) ∧ (x.to.length : Int) ≤ 9) ∧ (x.k = 9 → 1 ≤ (x.al.length : Int)) ∧ (x.k ≠ 9 → (x.al.length : Int) ≤ 0) ∧ (x.al.length : Int) ≤ 8) ?_ fun e' σ' hM => ?_
  · simp only [e1,s1,fxa,fxc,fxE,fxL,fxI,nxE,evO,evR,cellsT,ldCells,mkT,lenA,binPV,Env.init,resV,resT,frT,klT,ownT,intT,O.adds,ownA,rowsA,over,wrOk,keysT,keysA,ne_eq,if_true,if_false,ite_self,Nat.reduceLT,Nat.reduceSub,Nat.reduceBEq,Nat.reduceEqDiff,Nat.reduceAdd,Nat.reduceLeDiff,reduceCtorEq,Nat.reduceMul]
    iterate 9
      all_goals try (first
        | (refine wpX_bsplit (fun h => ?_) (fun h => ?_) <;> simp only [h,e1,s1,fxa,fxc,fxE,fxL,fxI,nxE,evO,evR,cellsT,ldCells,mkT,lenA,binPV,Env.init,resV,resT,frT,klT,ownT,intT,O.adds,ownA,rowsA,over,wrOk,keysT,keysA,ne_eq,if_true,if_false,ite_self,Nat.reduceLT,Nat.reduceSub,Nat.reduceBEq,Nat.reduceEqDiff,Nat.reduceAdd,Nat.reduceLeDiff,reduceCtorEq,Nat.reduceMul])
        | (refine wpC_split (fun h => ?_) (fun h => ?_) <;> simp only [h,e1,s1,fxa,fxc,fxE,fxL,fxI,nxE,evO,evR,cellsT,ldCells,mkT,lenA,binPV,Env.init,resV,resT,frT,klT,ownT,intT,O.adds,ownA,rowsA,over,wrOk,keysT,keysA,ne_eq,if_true,if_false,ite_self,Nat.reduceLT,Nat.reduceSub,Nat.reduceBEq,Nat.reduceEqDiff,Nat.reduceAdd,Nat.reduceLeDiff,reduceCtorEq,Nat.reduceMul]))
    all_goals simp only [Bool.not_eq_false',Bool.not_eq_true',Bool.not_false,Bool.not_true,decide_eq_true_eq,decide_eq_false_iff_not,Int.natCast_inj] at *
    all_goals first
      | (intro hP; have p1 := hP.to8; have p2 := hP.al9; have p3 := hP.aln; have p4 := hP.al8; omega)
      | (refine ⟨⟨by simp only [e1,fxa,fxc,fxE,fxL,fxI,nxE,evO,evR,cellsT,ldCells,mkT,lenA,binPV,Env.init,resV,resT,frT,klT,ownT,intT,O.adds,ownA,rowsA,over,wrOk,keysT,keysA,ne_eq,if_true,if_false,ite_self,Nat.reduceLT,Nat.reduceSub,Nat.reduceBEq,Nat.reduceEqDiff,Nat.reduceAdd,Nat.reduceLeDiff,reduceCtorEq,Nat.reduceMul],by simp only [s1,fxa,fxc,fxE,fxL,fxI,nxE,evO,evR,cellsT,ldCells,mkT,lenA,binPV,Env.init,resV,resT,frT,klT,ownT,intT,O.adds,ownA,rowsA,over,wrOk,keysT,keysA,ne_eq,if_true,if_false,ite_self,Nat.reduceLT,Nat.reduceSub,Nat.reduceBEq,Nat.reduceEqDiff,Nat.reduceAdd,Nat.reduceLeDiff,reduceCtorEq,Nat.reduceMul]⟩,?_⟩; omega)
  clear e1 s1
  obtain ⟨⟨e1,s1⟩,hC⟩ := hM
  refine x_cutR (fun e σ => altOk x.al) ?_ fun e' σ' hM => ?_
  · simp only [e1,s1,fxa,fxc,fxE,fxL,fxI,nxE,evO,evR,cellsT,ldCells,mkT,lenA,binPV,Env.init,resV,resT,frT,klT,ownT,intT,O.adds,ownA,rowsA,over,wrOk,keysT,keysA,ne_eq,if_true,if_false,ite_self,Nat.reduceLT,Nat.reduceSub,Nat.reduceBEq,Nat.reduceEqDiff,Nat.reduceAdd,Nat.reduceLeDiff,reduceCtorEq,Nat.reduceMul]
    refine loop_nat x.al.length (fun i e σ => NdM x e σ ∧ e 3 = .a (.p (.i .i64 (i : Nat))) ∧ ∀ m a,m < i → x.al[m]? = some a → a.s ≠ [] ∧ 0 ≤ a.n ∧ a.n ≤ 8 ∧ ∀ j b,j < m → x.al[j]? = some b → b.s ≠ a.s) (i0 := 0) (Nat.zero_le _) ?_ ?_ ?_
    · exact ⟨⟨by simp only [e1,fxa,fxc,fxE,fxL,fxI,nxE,evO,evR,cellsT,ldCells,mkT,lenA,binPV,Env.init,resV,resT,frT,klT,ownT,intT,O.adds,ownA,rowsA,over,wrOk,keysT,keysA,ne_eq,if_true,if_false,ite_self,Nat.reduceLT,Nat.reduceSub,Nat.reduceBEq,Nat.reduceEqDiff,Nat.reduceAdd,Nat.reduceLeDiff,reduceCtorEq,Nat.reduceMul],by simp only [s1,fxa,fxc,fxE,fxL,fxI,nxE,evO,evR,cellsT,ldCells,mkT,lenA,binPV,Env.init,resV,resT,frT,klT,ownT,intT,O.adds,ownA,rowsA,over,wrOk,keysT,keysA,ne_eq,if_true,if_false,ite_self,Nat.reduceLT,Nat.reduceSub,Nat.reduceBEq,Nat.reduceEqDiff,Nat.reduceAdd,Nat.reduceLeDiff,reduceCtorEq,Nat.reduceMul]⟩,by simp only [fxa,fxc,fxE,fxL,fxI,nxE,evO,evR,cellsT,ldCells,mkT,lenA,binPV,Env.init,resV,resT,frT,klT,ownT,intT,O.adds,ownA,rowsA,over,wrOk,keysT,keysA,ne_eq,if_true,if_false,ite_self,Nat.reduceLT,Nat.reduceSub,Nat.reduceBEq,Nat.reduceEqDiff,Nat.reduceAdd,Nat.reduceLeDiff,reduceCtorEq,Nat.reduceMul]; rfl,fun j a hj => by omega⟩
    · rintro i e σ hi ⟨⟨e1,s1⟩,e3,hall⟩
      obtain ⟨a,ha⟩ : ∃ a,x.al[i]? = some a := ⟨_,List.getElem?_eq_getElem hi⟩
      have ha' := mapGet encA ha
      have hlt : ((i : Nat) : Int) < (x.al.length : Int) := by omega
      have hge : (0 : Int) ≤ ((i : Nat) : Int) := by omega
      by_cases h1 : a.s = []
      · simp only [F33b0,e1,e3,s1,hlt,hge,ha',h1,fxa,fxc,fxE,fxL,fxI,nxE,evO,evR,cellsT,ldCells,mkT,lenA,binPV,Env.init,resV,resT,frT,klT,ownT,intT,O.adds,ownA,rowsA,over,wrOk,keysT,keysA,ne_eq,if_true,if_false,ite_self,Nat.reduceLT,Nat.reduceSub,Nat.reduceBEq,Nat.reduceEqDiff,Nat.reduceAdd,Nat.reduceLeDiff,reduceCtorEq,Nat.reduceMul]
        intro hP; exact (hP.alt i a ha).1 h1
      by_cases h2 : a.n < 0
      · simp only [F33b0,e1,e3,s1,hlt,hge,ha',h1,h2,fxa,fxc,fxE,fxL,fxI,nxE,evO,evR,cellsT,ldCells,mkT,lenA,binPV,Env.init,resV,resT,frT,klT,ownT,intT,O.adds,ownA,rowsA,over,wrOk,keysT,keysA,ne_eq,if_true,if_false,ite_self,Nat.reduceLT,Nat.reduceSub,Nat.reduceBEq,Nat.reduceEqDiff,Nat.reduceAdd,Nat.reduceLeDiff,reduceCtorEq,Nat.reduceMul]
        intro hP; have := hP.alt i a ha; omega
      by_cases h3 : a.n > 8
      · simp only [F33b0,e1,e3,s1,hlt,hge,ha',h1,h2,h3,fxa,fxc,fxE,fxL,fxI,nxE,evO,evR,cellsT,ldCells,mkT,lenA,binPV,Env.init,resV,resT,frT,klT,ownT,intT,O.adds,ownA,rowsA,over,wrOk,keysT,keysA,ne_eq,if_true,if_false,ite_self,Nat.reduceLT,Nat.reduceSub,Nat.reduceBEq,Nat.reduceEqDiff,Nat.reduceAdd,Nat.reduceLeDiff,reduceCtorEq,Nat.reduceMul]
        intro hP; have := hP.alt i a ha; omega
      simp only [F33b0,e1,e3,s1,hlt,hge,ha',h1,h2,h3,fxa,fxc,fxE,fxL,fxI,nxE,evO,evR,cellsT,ldCells,mkT,lenA,binPV,Env.init,resV,resT,frT,klT,ownT,intT,O.adds,ownA,rowsA,over,wrOk,keysT,keysA,ne_eq,if_true,if_false,ite_self,Nat.reduceLT,Nat.reduceSub,Nat.reduceBEq,Nat.reduceEqDiff,Nat.reduceAdd,Nat.reduceLeDiff,reduceCtorEq,Nat.reduceMul]
      refine loop_nat i (fun j e σ => NdM x e σ ∧ e 3 = .a (.p (.i .i64 (i : Nat))) ∧ e 4 = .a (.p (.i .i64 (j : Nat))) ∧ ∀ m b,m < j → x.al[m]? = some b → b.s ≠ a.s) (i0 := 0) (Nat.zero_le _) ?_ ?_ ?_
      · exact ⟨⟨by simp only [e1,fxa,fxc,fxE,fxL,fxI,nxE,evO,evR,cellsT,ldCells,mkT,lenA,binPV,Env.init,resV,resT,frT,klT,ownT,intT,O.adds,ownA,rowsA,over,wrOk,keysT,keysA,ne_eq,if_true,if_false,ite_self,Nat.reduceLT,Nat.reduceSub,Nat.reduceBEq,Nat.reduceEqDiff,Nat.reduceAdd,Nat.reduceLeDiff,reduceCtorEq,Nat.reduceMul],by simp only [s1,fxa,fxc,fxE,fxL,fxI,nxE,evO,evR,cellsT,ldCells,mkT,lenA,binPV,Env.init,resV,resT,frT,klT,ownT,intT,O.adds,ownA,rowsA,over,wrOk,keysT,keysA,ne_eq,if_true,if_false,ite_self,Nat.reduceLT,Nat.reduceSub,Nat.reduceBEq,Nat.reduceEqDiff,Nat.reduceAdd,Nat.reduceLeDiff,reduceCtorEq,Nat.reduceMul]⟩,by simp only [e3,fxa,fxc,fxE,fxL,fxI,nxE,evO,evR,cellsT,ldCells,mkT,lenA,binPV,Env.init,resV,resT,frT,klT,ownT,intT,O.adds,ownA,rowsA,over,wrOk,keysT,keysA,ne_eq,if_true,if_false,ite_self,Nat.reduceLT,Nat.reduceSub,Nat.reduceBEq,Nat.reduceEqDiff,Nat.reduceAdd,Nat.reduceLeDiff,reduceCtorEq,Nat.reduceMul],by simp only [fxa,fxc,fxE,fxL,fxI,nxE,evO,evR,cellsT,ldCells,mkT,lenA,binPV,Env.init,resV,resT,frT,klT,ownT,intT,O.adds,ownA,rowsA,over,wrOk,keysT,keysA,ne_eq,if_true,if_false,ite_self,Nat.reduceLT,Nat.reduceSub,Nat.reduceBEq,Nat.reduceEqDiff,Nat.reduceAdd,Nat.reduceLeDiff,reduceCtorEq,Nat.reduceMul]; rfl,fun j a hj => by omega⟩
      · rintro j e σ hj ⟨⟨e1,s1⟩,e3,e4,hj2⟩
        obtain ⟨b,hb⟩ : ∃ b,x.al[j]? = some b := ⟨_,List.getElem?_eq_getElem (by omega)⟩
        have hb' := mapGet encA hb
        have hlt2 : ((j : Nat) : Int) < ((i : Nat) : Int) := by omega
        have hlt3 : ((j : Nat) : Int) < (x.al.length : Int) := by omega
        have hge2 : (0 : Int) ≤ ((j : Nat) : Int) := by omega
        by_cases h4 : b.s = a.s
        · simp only [F33b1,e1,e3,e4,s1,hlt,hge,hlt2,hlt3,hge2,ha',hb',h4,fxa,fxc,fxE,fxL,fxI,nxE,evO,evR,cellsT,ldCells,mkT,lenA,binPV,Env.init,resV,resT,frT,klT,ownT,intT,O.adds,ownA,rowsA,over,wrOk,keysT,keysA,ne_eq,if_true,if_false,ite_self,Nat.reduceLT,Nat.reduceSub,Nat.reduceBEq,Nat.reduceEqDiff,Nat.reduceAdd,Nat.reduceLeDiff,reduceCtorEq,Nat.reduceMul]
          intro hP; exact (hP.alt i a ha).2.2.2 j b hj hb h4
        · simp only [F33b1,e1,e3,e4,s1,hlt,hge,hlt2,hlt3,hge2,ha',hb',h4,fxa,fxc,fxE,fxL,fxI,nxE,evO,evR,cellsT,ldCells,mkT,lenA,binPV,Env.init,resV,resT,frT,klT,ownT,intT,O.adds,ownA,rowsA,over,wrOk,keysT,keysA,ne_eq,if_true,if_false,ite_self,Nat.reduceLT,Nat.reduceSub,Nat.reduceBEq,Nat.reduceEqDiff,Nat.reduceAdd,Nat.reduceLeDiff,reduceCtorEq,Nat.reduceMul]
          refine ⟨⟨by simp only [e1,fxa,fxc,fxE,fxL,fxI,nxE,evO,evR,cellsT,ldCells,mkT,lenA,binPV,Env.init,resV,resT,frT,klT,ownT,intT,O.adds,ownA,rowsA,over,wrOk,keysT,keysA,ne_eq,if_true,if_false,ite_self,Nat.reduceLT,Nat.reduceSub,Nat.reduceBEq,Nat.reduceEqDiff,Nat.reduceAdd,Nat.reduceLeDiff,reduceCtorEq,Nat.reduceMul],by simp only [s1,fxa,fxc,fxE,fxL,fxI,nxE,evO,evR,cellsT,ldCells,mkT,lenA,binPV,Env.init,resV,resT,frT,klT,ownT,intT,O.adds,ownA,rowsA,over,wrOk,keysT,keysA,ne_eq,if_true,if_false,ite_self,Nat.reduceLT,Nat.reduceSub,Nat.reduceBEq,Nat.reduceEqDiff,Nat.reduceAdd,Nat.reduceLeDiff,reduceCtorEq,Nat.reduceMul]⟩,by rw [wrap_succ j (by omega)],fun m c hm hc => ?_⟩
          by_cases e : m = j
          · subst e; rw [hb] at hc; rw [← Option.some.inj hc]; exact h4
          · exact hj2 m c (by omega) hc
      · rintro e σ ⟨⟨e1,s1⟩,e3,e4,hj2⟩
        have hlt2 : ¬ ((i : Nat) : Int) < ((i : Nat) : Int) := by omega
        simp only [F33b1,e1,e3,e4,s1,hlt2,fxa,fxc,fxE,fxL,fxI,nxE,evO,evR,cellsT,ldCells,mkT,lenA,binPV,Env.init,resV,resT,frT,klT,ownT,intT,O.adds,ownA,rowsA,over,wrOk,keysT,keysA,ne_eq,if_true,if_false,ite_self,Nat.reduceLT,Nat.reduceSub,Nat.reduceBEq,Nat.reduceEqDiff,Nat.reduceAdd,Nat.reduceLeDiff,reduceCtorEq,Nat.reduceMul]
        refine ⟨⟨by simp only [e1,fxa,fxc,fxE,fxL,fxI,nxE,evO,evR,cellsT,ldCells,mkT,lenA,binPV,Env.init,resV,resT,frT,klT,ownT,intT,O.adds,ownA,rowsA,over,wrOk,keysT,keysA,ne_eq,if_true,if_false,ite_self,Nat.reduceLT,Nat.reduceSub,Nat.reduceBEq,Nat.reduceEqDiff,Nat.reduceAdd,Nat.reduceLeDiff,reduceCtorEq,Nat.reduceMul],by simp only [s1,fxa,fxc,fxE,fxL,fxI,nxE,evO,evR,cellsT,ldCells,mkT,lenA,binPV,Env.init,resV,resT,frT,klT,ownT,intT,O.adds,ownA,rowsA,over,wrOk,keysT,keysA,ne_eq,if_true,if_false,ite_self,Nat.reduceLT,Nat.reduceSub,Nat.reduceBEq,Nat.reduceEqDiff,Nat.reduceAdd,Nat.reduceLeDiff,reduceCtorEq,Nat.reduceMul]⟩,by rw [wrap_succ i (by omega)],fun m c hm hc => ?_⟩
        by_cases e : m = i
        · subst e; rw [ha] at hc; rw [← Option.some.inj hc]; exact ⟨h1,by omega,by omega,hj2⟩
        · exact hall m c (by omega) hc
    · rintro e σ ⟨⟨e1,s1⟩,e3,hall⟩
      have hlt : ¬ ((x.al.length : Nat) : Int) < (x.al.length : Int) := by omega
      simp only [F33b0,e1,e3,s1,hlt,fxa,fxc,fxE,fxL,fxI,nxE,evO,evR,cellsT,ldCells,mkT,lenA,binPV,Env.init,resV,resT,frT,klT,ownT,intT,O.adds,ownA,rowsA,over,wrOk,keysT,keysA,ne_eq,if_true,if_false,ite_self,Nat.reduceLT,Nat.reduceSub,Nat.reduceBEq,Nat.reduceEqDiff,Nat.reduceAdd,Nat.reduceLeDiff,reduceCtorEq,Nat.reduceMul]
      exact fun i a hi => hall i a (List.getElem?_eq_some_iff.1 hi).1 hi
  simp only [fxa,fxc,fxE,fxL,fxI,nxE,evO,evR,cellsT,ldCells,mkT,lenA,binPV,Env.init,resV,resT,frT,klT,ownT,intT,O.adds,ownA,rowsA,over,wrOk,keysT,keysA,ne_eq,if_true,if_false,ite_self,Nat.reduceLT,Nat.reduceSub,Nat.reduceBEq,Nat.reduceEqDiff,Nat.reduceAdd,Nat.reduceLeDiff,reduceCtorEq,Nat.reduceMul]
  exact ⟨hA.1,hA.2.1,hA.2.2.1,hA.2.2.2.1,hA.2.2.2.2,hB.1,hB.2,hC.1,hC.2.1,hC.2.2.1,hC.2.2.2,hM⟩
end Go.Proofs.YtmlhgalboabjcaaGreat
end
section
set_option linter.unusedSimpArgs false
set_option linter.unusedVariables false
set_option maxHeartbeats 4000000
set_option maxRecDepth 10000
namespace Go.Proofs.YtmlhgalboabjcaaGreat
open Go.Fx
structure Nt.Good (n : Nt) : Prop where
  cap1 : 1 ≤ n.cap
  cap2 : n.cap ≤ 4000
  ln1 : 1 ≤ (n.ns.length : Int)
  ln2 : (n.ns.length : Int) ≤ n.cap
  last : (n.nd (n.ns.length - 1)).k ≠ 0
  nds : ∀ (i : Nat) (x : Nd),n.ns[i]? = some x → x.may ∧ (x.to.length : Int) = x.ports ∧ ((i : Int) = 0 ↔ x.k = 1) ∧
    ∀ (j : Nat) (q : Pt),x.to[j]? = some q → q ≠ ⟨i,j⟩ ∧ n.has q = true ∧ n.lk q = ⟨i,j⟩
def RE (P : Prop) (r : PT) : Prop := r = .a (.i .i64 (if bool P = true then 0 else 120))
theorem RE_0 (P : Prop) : RE P (.a (.i .i64 0)) = P := by
  unfold RE
  by_cases h : P
  · rw [bool_t h]; simp [h]
  · rw [bool_f h]; simp [h]
theorem RE_120 (P : Prop) : RE P (.a (.i .i64 120)) = ¬ P := by
  unfold RE
  by_cases h : P
  · rw [bool_t h]; simp [h]
  · rw [bool_f h]; simp [h]
theorem RCheck_ok {n : Nt} (hn : n.Ok) : eP S 18 [.g (encT n)] = some (.a (.i .i64 (if bool n.Good = true then 0 else 120))) := by
  obtain ⟨r,h1,h2⟩ := x_fnE (S := S) (g := 18) (orcS (by decide)) (fc := F18) rfl (ps := [.g (encT n)]) rfl (K := RE n.Good) (by
    have hns := hn.ns
    by_cases h1 : n.cap < 1
    · simp only [F18,h1,RE_120,fxa,fxc,fxE,fxL,fxI,nxE,evO,evR,cellsT,ldCells,mkT,lenA,binPV,Env.init,resV,resT,frT,klT,ownT,intT,O.adds,ownA,rowsA,over,wrOk,keysT,keysA,ne_eq,if_true,if_false,ite_self,Nat.reduceLT,Nat.reduceSub,Nat.reduceBEq,Nat.reduceEqDiff,Nat.reduceAdd,Nat.reduceLeDiff,reduceCtorEq,Nat.reduceMul]; intro hG; have := hG.cap1; omega
    by_cases h2 : n.cap > 4000
    · simp only [F18,h1,h2,RE_120,fxa,fxc,fxE,fxL,fxI,nxE,evO,evR,cellsT,ldCells,mkT,lenA,binPV,Env.init,resV,resT,frT,klT,ownT,intT,O.adds,ownA,rowsA,over,wrOk,keysT,keysA,ne_eq,if_true,if_false,ite_self,Nat.reduceLT,Nat.reduceSub,Nat.reduceBEq,Nat.reduceEqDiff,Nat.reduceAdd,Nat.reduceLeDiff,reduceCtorEq,Nat.reduceMul]; intro hG; have := hG.cap2; omega
    by_cases h3 : (n.ns.length : Int) < 1
    · simp only [F18,h1,h2,h3,RE_120,fxa,fxc,fxE,fxL,fxI,nxE,evO,evR,cellsT,ldCells,mkT,lenA,binPV,Env.init,resV,resT,frT,klT,ownT,intT,O.adds,ownA,rowsA,over,wrOk,keysT,keysA,ne_eq,if_true,if_false,ite_self,Nat.reduceLT,Nat.reduceSub,Nat.reduceBEq,Nat.reduceEqDiff,Nat.reduceAdd,Nat.reduceLeDiff,reduceCtorEq,Nat.reduceMul]; intro hG; have := hG.ln1; omega
    by_cases h4 : (n.ns.length : Int) > n.cap
    · simp only [F18,h1,h2,h3,h4,RE_120,fxa,fxc,fxE,fxL,fxI,nxE,evO,evR,cellsT,ldCells,mkT,lenA,binPV,Env.init,resV,resT,frT,klT,ownT,intT,O.adds,ownA,rowsA,over,wrOk,keysT,keysA,ne_eq,if_true,if_false,ite_self,Nat.reduceLT,Nat.reduceSub,Nat.reduceBEq,Nat.reduceEqDiff,Nat.reduceAdd,Nat.reduceLeDiff,reduceCtorEq,Nat.reduceMul]; intro hG; have := hG.ln2; omega
    have hw : IntKind.i64.wrap ((n.ns.length : Int) - 1) = n.ns.length - 1 := wrap_in _ (by omega)
    have g := getN (l := n.ns) (i := (n.ns.length : Int) - 1) (by omega) (by omega)
    have hge0 : 0 ≤ (n.ns.length : Int) - 1 := by omega
    have hlt0 : (n.ns.length : Int) - 1 < n.ns.length := by omega
    by_cases h5 : (n.nd (n.ns.length - 1)).k = 0
    · unfold Nt.nd at h5
      simp only [F18,h1,h2,h3,h4,h5,hw,g,hge0,hlt0,RE_120,fxa,fxc,fxE,fxL,fxI,nxE,evO,evR,cellsT,ldCells,mkT,lenA,binPV,Env.init,resV,resT,frT,klT,ownT,intT,O.adds,ownA,rowsA,over,wrOk,keysT,keysA,ne_eq,if_true,if_false,ite_self,Nat.reduceLT,Nat.reduceSub,Nat.reduceBEq,Nat.reduceEqDiff,Nat.reduceAdd,Nat.reduceLeDiff,reduceCtorEq,Nat.reduceMul]; intro hG; exact hG.last h5
    have h5' := h5
    unfold Nt.nd at h5'
    simp only [F18,h1,h2,h3,h4,h5',hw,g,hge0,hlt0,fxa,fxc,fxE,fxL,fxI,nxE,evO,evR,cellsT,ldCells,mkT,lenA,binPV,Env.init,resV,resT,frT,klT,ownT,intT,O.adds,ownA,rowsA,over,wrOk,keysT,keysA,ne_eq,if_true,if_false,ite_self,Nat.reduceLT,Nat.reduceSub,Nat.reduceBEq,Nat.reduceEqDiff,Nat.reduceAdd,Nat.reduceLeDiff,reduceCtorEq,Nat.reduceMul]
    refine loop_nat n.ns.length (fun i e σ => e 1 = .a (.ptr (1,0) 0 0) ∧ e 3 = .a (.p (.i .i64 (i : Nat))) ∧ σ.bs (1,0) = some (.var ((encT n).map .p)) ∧
      ∀ (m : Nat) (x : Nd),m < i → n.ns[m]? = some x → x.may ∧ (x.to.length : Int) = x.ports ∧ ((m : Int) = 0 ↔ x.k = 1) ∧ ∀ (j : Nat) (q : Pt),x.to[j]? = some q → q ≠ ⟨m,j⟩ ∧ n.has q = true ∧ n.lk q = ⟨m,j⟩) (i0 := 0) (Nat.zero_le _) ?_ ?_ ?_
    · refine ⟨?_,?_,?_,fun m x hm => by omega⟩ <;> simp only [fxa,fxc,fxE,fxL,fxI,nxE,evO,evR,cellsT,ldCells,mkT,lenA,binPV,Env.init,resV,resT,frT,klT,ownT,intT,O.adds,ownA,rowsA,over,wrOk,keysT,keysA,ne_eq,if_true,if_false,ite_self,Nat.reduceLT,Nat.reduceSub,Nat.reduceBEq,Nat.reduceEqDiff,Nat.reduceAdd,Nat.reduceLeDiff,reduceCtorEq,Nat.reduceMul]
      rfl
    · rintro i e σ hi ⟨e1,e3,s1,hall⟩
      obtain ⟨x,hx⟩ : ∃ x,n.ns[i]? = some x := ⟨_,List.getElem?_eq_getElem hi⟩
      have hx' := mapGet encN hx
      have hlt : ((i : Nat) : Int) < (n.ns.length : Int) := by omega
      have hge : (0 : Int) ≤ ((i : Nat) : Int) := by omega
      have hxo := hn.nd x (List.mem_of_getElem? hx)
      have hto := hxo.to
      have c1 := RNode_ok hxo
      have c2 := RPorts_ok hxo
      simp only [encN] at c1 c2
      simp only [encT,List.map_cons,List.map_nil] at s1
      by_cases k1 : x.may
      case neg =>
        rw [bool_f k1] at c1
        simp only [F18b0,e1,e3,s1,hlt,hge,hx',c1,RE_120,fxa,fxc,fxE,fxL,fxI,nxE,evO,evR,cellsT,ldCells,mkT,lenA,binPV,Env.init,resV,resT,frT,klT,ownT,intT,O.adds,ownA,rowsA,over,wrOk,keysT,keysA,ne_eq,if_true,if_false,ite_self,Nat.reduceLT,Nat.reduceSub,Nat.reduceBEq,Nat.reduceEqDiff,Nat.reduceAdd,Nat.reduceLeDiff,reduceCtorEq,Nat.reduceMul]
        intro hG; exact k1 (hG.nds i x hx).1
      rw [bool_t k1] at c1
      by_cases k2 : (x.to.length : Int) = x.ports
      case neg =>
        simp only [F18b0,e1,e3,s1,hlt,hge,hx',c1,c2,k2,RE_120,fxa,fxc,fxE,fxL,fxI,nxE,evO,evR,cellsT,ldCells,mkT,lenA,binPV,Env.init,resV,resT,frT,klT,ownT,intT,O.adds,ownA,rowsA,over,wrOk,keysT,keysA,ne_eq,if_true,if_false,ite_self,Nat.reduceLT,Nat.reduceSub,Nat.reduceBEq,Nat.reduceEqDiff,Nat.reduceAdd,Nat.reduceLeDiff,reduceCtorEq,Nat.reduceMul]
        intro hG; exact k2 (hG.nds i x hx).2.1
      by_cases k3 : (((i : Nat) : Int) = 0 ↔ x.k = 1)
      case neg =>
        have hd : (decide (((i : Nat) : Int) = 0) = decide (x.k = 1)) = False := by simp only [decide_eq_decide,eq_iff_iff,iff_false]; exact k3
        simp only [F18b0,e1,e3,s1,hlt,hge,hx',c1,c2,k2,hd,RE_120,fxa,fxc,fxE,fxL,fxI,nxE,evO,evR,cellsT,ldCells,mkT,lenA,binPV,Env.init,resV,resT,frT,klT,ownT,intT,O.adds,ownA,rowsA,over,wrOk,keysT,keysA,ne_eq,if_true,if_false,ite_self,Nat.reduceLT,Nat.reduceSub,Nat.reduceBEq,Nat.reduceEqDiff,Nat.reduceAdd,Nat.reduceLeDiff,reduceCtorEq,Nat.reduceMul]
        intro hG; exact k3 (hG.nds i x hx).2.2.1
      have hd : (decide (((i : Nat) : Int) = 0) = decide (x.k = 1)) = True := by simp only [decide_eq_decide,eq_iff_iff,iff_true]; exact k3
      simp only [F18b0,e1,e3,s1,hlt,hge,hx',c1,c2,k2,hd,fxa,fxc,fxE,fxL,fxI,nxE,evO,evR,cellsT,ldCells,mkT,lenA,binPV,Env.init,resV,resT,frT,klT,ownT,intT,O.adds,ownA,rowsA,over,wrOk,keysT,keysA,ne_eq,if_true,if_false,ite_self,Nat.reduceLT,Nat.reduceSub,Nat.reduceBEq,Nat.reduceEqDiff,Nat.reduceAdd,Nat.reduceLeDiff,reduceCtorEq,Nat.reduceMul]
      refine loop_nat x.to.length (fun j e σ' => e 1 = .a (.ptr (1,0) 0 0) ∧ e 3 = .a (.p (.i .i64 (i : Nat))) ∧ e 4 = .a (.ptr (4,σ.clk) 0 0) ∧ e 5 = .a (.p (.i .i64 (j : Nat))) ∧ σ'.bs (1,0) = some (.var ((encT n).map .p)) ∧ σ'.bs (4,σ.clk) = some (.var ((encN x).map .p)) ∧
        ∀ (m : Nat) (q : Pt),m < j → x.to[m]? = some q → q ≠ ⟨i,m⟩ ∧ n.has q = true ∧ n.lk q = ⟨i,m⟩) (i0 := 0) (Nat.zero_le _) ?_ ?_ ?_
      · refine ⟨?_,?_,?_,?_,?_,?_,fun m x hm => by omega⟩ <;> simp only [e1,e3,s1,fxa,fxc,fxE,fxL,fxI,nxE,evO,evR,cellsT,ldCells,mkT,lenA,binPV,Env.init,resV,resT,frT,klT,ownT,intT,O.adds,ownA,rowsA,over,wrOk,keysT,keysA,ne_eq,if_true,if_false,ite_self,Nat.reduceLT,Nat.reduceSub,Nat.reduceBEq,Nat.reduceEqDiff,Nat.reduceAdd,Nat.reduceLeDiff,reduceCtorEq,Nat.reduceMul]
        rfl
      · rintro j e σ' hj ⟨e1,e3,e4,e5,s1,s4,hall2⟩
        obtain ⟨q,hq⟩ : ∃ q,x.to[j]? = some q := ⟨_,List.getElem?_eq_getElem hj⟩
        have hq' := mapGet encP hq
        have hlt2 : ((j : Nat) : Int) < (x.to.length : Int) := by omega
        have hge2 : (0 : Int) ≤ ((j : Nat) : Int) := by omega
        have c3 := Has_ok n q
        simp only [encT,encN,encP,List.map_cons,List.map_nil] at s1 s4 c3
        by_cases m1 : q = ⟨i,j⟩
        · have hd : (decide (q.n = (i : Int)) && decide (q.s = (j : Int))) = true := by rw [m1]; simp
          simp only [F18b1,e1,e3,e4,e5,s1,s4,hlt2,hge2,hq',hd,RE_120,fxa,fxc,fxE,fxL,fxI,nxE,evO,evR,cellsT,ldCells,mkT,lenA,binPV,Env.init,resV,resT,frT,klT,ownT,intT,O.adds,ownA,rowsA,over,wrOk,keysT,keysA,ne_eq,if_true,if_false,ite_self,Nat.reduceLT,Nat.reduceSub,Nat.reduceBEq,Nat.reduceEqDiff,Nat.reduceAdd,Nat.reduceLeDiff,reduceCtorEq,Nat.reduceMul]
          intro hG; exact ((hG.nds i x hx).2.2.2 j q hq).1 m1
        have hd : (decide (q.n = (i : Int)) && decide (q.s = (j : Int))) = false := by
          have := ptEq q ⟨i,j⟩; rw [this]; simpa using m1
        by_cases m2 : n.has q = true
        case neg =>
          have m2' : n.has q = false := by simpa using m2
          rw [m2'] at c3
          simp only [F18b1,e1,e3,e4,e5,s1,s4,hlt2,hge2,hq',hd,c3,RE_120,fxa,fxc,fxE,fxL,fxI,nxE,evO,evR,cellsT,ldCells,mkT,lenA,binPV,Env.init,resV,resT,frT,klT,ownT,intT,O.adds,ownA,rowsA,over,wrOk,keysT,keysA,ne_eq,if_true,if_false,ite_self,Nat.reduceLT,Nat.reduceSub,Nat.reduceBEq,Nat.reduceEqDiff,Nat.reduceAdd,Nat.reduceLeDiff,reduceCtorEq,Nat.reduceMul]
          intro hG; exact m2 ((hG.nds i x hx).2.2.2 j q hq).2.1
        rw [m2] at c3
        have m2' := has_iff.1 m2
        have g1 := getN (l := n.ns) m2'.1 m2'.2.1
        have g2 := getP (l := (n.nd q.n).to) m2'.2.2.1 m2'.2.2.2
        have g3 := m2'.2.2.2
        obtain ⟨y,hy⟩ : ∃ y,n.lk q = y := ⟨_,rfl⟩
        have hy2 : (n.ns.getD q.n.toNat zN).to.getD q.s.toNat zP = y := hy
        unfold Nt.nd at g2 g3
        rw [hy2] at g2
        by_cases m3 : n.lk q = ⟨i,j⟩
        case neg =>
          have hd2 : (decide (y.n = (i : Int)) && decide (y.s = (j : Int))) = false := by
            have := ptEq y ⟨i,j⟩; rw [this,← hy]; simpa using m3
          simp only [F18b1,e1,e3,e4,e5,s1,s4,hlt2,hge2,hq',hd,hd2,c3,g1,g2,g3,m2'.1,m2'.2.1,m2'.2.2.1,RE_120,fxa,fxc,fxE,fxL,fxI,nxE,evO,evR,cellsT,ldCells,mkT,lenA,binPV,Env.init,resV,resT,frT,klT,ownT,intT,O.adds,ownA,rowsA,over,wrOk,keysT,keysA,ne_eq,if_true,if_false,ite_self,Nat.reduceLT,Nat.reduceSub,Nat.reduceBEq,Nat.reduceEqDiff,Nat.reduceAdd,Nat.reduceLeDiff,reduceCtorEq,Nat.reduceMul]
          intro hG; exact m3 ((hG.nds i x hx).2.2.2 j q hq).2.2
        have hd2 : (decide (y.n = (i : Int)) && decide (y.s = (j : Int))) = true := by
          rw [← hy,m3]; simp
        simp only [F18b1,e1,e3,e4,e5,s1,s4,hlt2,hge2,hq',hd,hd2,c3,g1,g2,g3,m2'.1,m2'.2.1,m2'.2.2.1,fxa,fxc,fxE,fxL,fxI,nxE,evO,evR,cellsT,ldCells,mkT,lenA,binPV,Env.init,resV,resT,frT,klT,ownT,intT,O.adds,ownA,rowsA,over,wrOk,keysT,keysA,ne_eq,if_true,if_false,ite_self,Nat.reduceLT,Nat.reduceSub,Nat.reduceBEq,Nat.reduceEqDiff,Nat.reduceAdd,Nat.reduceLeDiff,reduceCtorEq,Nat.reduceMul]
        refine ⟨by rw [wrap_succ j (by omega)],fun m c hm hc => ?_⟩
        by_cases e : m = j
        · subst e; rw [hq] at hc; rw [← Option.some.inj hc]; exact ⟨m1,m2,m3⟩
        · exact hall2 m c (by omega) hc
      · rintro e σ' ⟨e1,e3,e4,e5,s1,s4,hall2⟩
        have hlt2 : ¬ ((x.to.length : Nat) : Int) < (x.to.length : Int) := by omega
        simp only [encT,encN,encP,List.map_cons,List.map_nil] at s1 s4
        simp only [F18b1,e1,e3,e4,e5,s1,s4,hlt2,fxa,fxc,fxE,fxL,fxI,nxE,evO,evR,cellsT,ldCells,mkT,lenA,binPV,Env.init,resV,resT,frT,klT,ownT,intT,O.adds,ownA,rowsA,over,wrOk,keysT,keysA,ne_eq,if_true,if_false,ite_self,Nat.reduceLT,Nat.reduceSub,Nat.reduceBEq,Nat.reduceEqDiff,Nat.reduceAdd,Nat.reduceLeDiff,reduceCtorEq,Nat.reduceMul]
        refine ⟨by rw [wrap_succ i (by omega)],fun m y hm hy => ?_⟩
        by_cases e : m = i
        · subst e; rw [hx] at hy; rw [← Option.some.inj hy]
          exact ⟨k1,k2,k3,fun j q hq => hall2 j q (List.getElem?_eq_some_iff.1 hq).1 hq⟩
        · exact hall m y (by omega) hy
    · rintro e σ ⟨e1,e3,s1,hall⟩
      have hlt : ¬ ((n.ns.length : Nat) : Int) < (n.ns.length : Int) := by omega
      simp only [encT,List.map_cons,List.map_nil] at s1
      simp only [F18b0,e1,e3,s1,hlt,RE_0,fxa,fxc,fxE,fxL,fxI,nxE,evO,evR,cellsT,ldCells,mkT,lenA,binPV,Env.init,resV,resT,frT,klT,ownT,intT,O.adds,ownA,rowsA,over,wrOk,keysT,keysA,ne_eq,if_true,if_false,ite_self,Nat.reduceLT,Nat.reduceSub,Nat.reduceBEq,Nat.reduceEqDiff,Nat.reduceAdd,Nat.reduceLeDiff,reduceCtorEq,Nat.reduceMul]
      exact ⟨by omega,by omega,by omega,by omega,h5,fun i x hi => hall i x (List.getElem?_eq_some_iff.1 hi).1 hi⟩)
  rw [h1,h2]
end Go.Proofs.YtmlhgalboabjcaaGreat
end
section
set_option linter.unusedSimpArgs false
set_option linter.unusedVariables false
set_option maxHeartbeats 4000000
set_option maxRecDepth 10000
namespace Go.Proofs.YtmlhgalboabjcaaGreat
open Go.Fx
theorem in_ok (a b c : Int) : eP S 56 [.a (.i .i64 a),.a (.i .i64 b),.a (.i .i64 c)] = some (.a (.b (decide (a ≥ b) && decide (a ≤ c)))) := by
  refine x_fn (orcS (by decide)) (fc := F56) rfl rfl ?_
  by_cases h : a ≥ b
  · simp only [F56,h,fxa,fxc,fxE,fxL,fxI,nxE,evO,evR,cellsT,ldCells,mkT,lenA,binPV,Env.init,resV,resT,frT,klT,ownT,intT,O.adds,ownA,rowsA,over,wrOk,keysT,keysA,ne_eq,if_true,if_false,ite_self,Nat.reduceLT,Nat.reduceSub,Nat.reduceBEq,Nat.reduceEqDiff,Nat.reduceAdd,Nat.reduceLeDiff,reduceCtorEq,Nat.reduceMul]
  · simp only [F56,h,fxa,fxc,fxE,fxL,fxI,nxE,evO,evR,cellsT,ldCells,mkT,lenA,binPV,Env.init,resV,resT,frT,klT,ownT,intT,O.adds,ownA,rowsA,over,wrOk,keysT,keysA,ne_eq,if_true,if_false,ite_self,Nat.reduceLT,Nat.reduceSub,Nat.reduceBEq,Nat.reduceEqDiff,Nat.reduceAdd,Nat.reduceLeDiff,reduceCtorEq,Nat.reduceMul]
theorem in_is {a b c : Int} (h : b ≤ a ∧ a ≤ c) : eP S 56 [.a (.i .i64 a),.a (.i .i64 b),.a (.i .i64 c)] = some (.a (.b true)) := by
  rw [in_ok,decide_eq_true (h.1 : a ≥ b),decide_eq_true h.2]; rfl
theorem in_no {a b c : Int} (h : ¬ (b ≤ a ∧ a ≤ c)) : eP S 56 [.a (.i .i64 a),.a (.i .i64 b),.a (.i .i64 c)] = some (.a (.b false)) := by
  rw [in_ok]
  have : (decide (a ≥ b) && decide (a ≤ c)) = false := by
    rw [Bool.and_eq_false_iff,decide_eq_false_iff_not,decide_eq_false_iff_not]; omega
  rw [this]
theorem sfree_ok (x : Nd) : eP S 69 [.g (encN x)] = some (.a (.b (decide (x.k = 0)))) := by
  refine x_fn (orcS (by decide)) (fc := F69) rfl rfl ?_
  simp only [F69,fxa,fxc,fxE,fxL,fxI,nxE,evO,evR,cellsT,ldCells,mkT,lenA,binPV,Env.init,resV,resT,frT,klT,ownT,intT,O.adds,ownA,rowsA,over,wrOk,keysT,keysA,ne_eq,if_true,if_false,ite_self,Nat.reduceLT,Nat.reduceSub,Nat.reduceBEq,Nat.reduceEqDiff,Nat.reduceAdd,Nat.reduceLeDiff,reduceCtorEq,Nat.reduceMul]
def usedL (l : List Nd) : Int := (l.countP fun x => decide (x.k ≠ 0) : Nat)
def Nt.used (n : Nt) : Int := usedL n.ns
theorem usedL_take {l : List Nd} {i : Nat} {x : Nd} (h : l[i]? = some x) : usedL (l.take (i + 1)) = usedL (l.take i) + (if x.k = 0 then 0 else 1) := by
  unfold usedL
  rw [List.take_add_one,h]
  simp only [Option.toList_some,List.countP_append,List.countP_cons,List.countP_nil]
  by_cases hk : x.k = 0
  · simp [hk]
  · simp [hk]
theorem usedL_le (l : List Nd) : 0 ≤ usedL l ∧ usedL l ≤ l.length := by
  unfold usedL
  have := List.countP_le_length (p := fun x : Nd => decide (x.k ≠ 0)) (l := l)
  omega
theorem sUsed_ok {n : Nt} (hn : n.Ok) : eP S 40 [.g (encT n)] = some (.a (.i .i64 n.used)) := by
  refine x_fn (orcS (by decide)) (fc := F40) rfl rfl ?_
  have hns := hn.ns
  simp only [F40,fxa,fxc,fxE,fxL,fxI,nxE,evO,evR,cellsT,ldCells,mkT,lenA,binPV,Env.init,resV,resT,frT,klT,ownT,intT,O.adds,ownA,rowsA,over,wrOk,keysT,keysA,ne_eq,if_true,if_false,ite_self,Nat.reduceLT,Nat.reduceSub,Nat.reduceBEq,Nat.reduceEqDiff,Nat.reduceAdd,Nat.reduceLeDiff,reduceCtorEq,Nat.reduceMul]
  refine loop_nat n.ns.length (fun i e σ => e 7 = .a (.p (.l (n.ns.map encN))) ∧ e 8 = .a (.p (.i .i64 n.ns.length)) ∧ e 9 = .a (.p (.i .i64 (i : Nat))) ∧ e 3 = .a (.p (.i .i64 (usedL (n.ns.take i))))) (i0 := 0) (Nat.zero_le _) ?_ ?_ ?_
  · refine ⟨?_,?_,?_,?_⟩ <;> simp only [fxa,fxc,fxE,fxL,fxI,nxE,evO,evR,cellsT,ldCells,mkT,lenA,binPV,Env.init,resV,resT,frT,klT,ownT,intT,O.adds,ownA,rowsA,over,wrOk,keysT,keysA,ne_eq,if_true,if_false,ite_self,Nat.reduceLT,Nat.reduceSub,Nat.reduceBEq,Nat.reduceEqDiff,Nat.reduceAdd,Nat.reduceLeDiff,reduceCtorEq,Nat.reduceMul]
    all_goals rfl
  · rintro i e σ hi ⟨e7,e8,e9,e3⟩
    obtain ⟨x,hx⟩ : ∃ x,n.ns[i]? = some x := ⟨_,List.getElem?_eq_getElem hi⟩
    have hx' := mapGet encN hx
    have hlt : ((i : Nat) : Int) < (n.ns.length : Int) := by omega
    have hge : (0 : Int) ≤ ((i : Nat) : Int) := by omega
    have c1 := sfree_ok x
    have hu := usedL_take hx
    have hb := usedL_le (n.ns.take i)
    simp only [List.length_take] at hb
    simp only [encN] at c1
    by_cases hk : x.k = 0
    · rw [if_pos hk,Int.add_zero] at hu
      rw [hk] at c1
      simp only [F40b0,e7,e8,e9,e3,hlt,hge,hx',c1,hk,hu,fxa,fxc,fxE,fxL,fxI,nxE,evO,evR,cellsT,ldCells,mkT,lenA,binPV,Env.init,resV,resT,frT,klT,ownT,intT,O.adds,ownA,rowsA,over,wrOk,keysT,keysA,ne_eq,if_true,if_false,ite_self,Nat.reduceLT,Nat.reduceSub,Nat.reduceBEq,Nat.reduceEqDiff,Nat.reduceAdd,Nat.reduceLeDiff,reduceCtorEq,Nat.reduceMul]
      rw [wrap_succ i (by omega)]
    · rw [if_neg hk] at hu
      have hw : IntKind.i64.wrap (usedL (n.ns.take i) + 1) = usedL (n.ns.take i) + 1 := wrap_in _ (by omega)
      simp only [F40b0,e7,e8,e9,e3,hlt,hge,hx',c1,hk,hu,hw,fxa,fxc,fxE,fxL,fxI,nxE,evO,evR,cellsT,ldCells,mkT,lenA,binPV,Env.init,resV,resT,frT,klT,ownT,intT,O.adds,ownA,rowsA,over,wrOk,keysT,keysA,ne_eq,if_true,if_false,ite_self,Nat.reduceLT,Nat.reduceSub,Nat.reduceBEq,Nat.reduceEqDiff,Nat.reduceAdd,Nat.reduceLeDiff,reduceCtorEq,Nat.reduceMul]
      rw [wrap_succ i (by omega)]
  · rintro e σ ⟨e7,e8,e9,e3⟩
    have hlt : ¬ ((n.ns.length : Nat) : Int) < (n.ns.length : Int) := by omega
    rw [List.take_length] at e3
    simp only [F40b0,e7,e8,e9,e3,hlt,Nt.used,fxa,fxc,fxE,fxL,fxI,nxE,evO,evR,cellsT,ldCells,mkT,lenA,binPV,Env.init,resV,resT,frT,klT,ownT,intT,O.adds,ownA,rowsA,over,wrOk,keysT,keysA,ne_eq,if_true,if_false,ite_self,Nat.reduceLT,Nat.reduceSub,Nat.reduceBEq,Nat.reduceEqDiff,Nat.reduceAdd,Nat.reduceLeDiff,reduceCtorEq,Nat.reduceMul]
theorem sfixed_ok : eP S 99 [] = some (.g [.i .i64 0,.i .i64 1,.i .i64 3,.i .i64 3,.i .i64 3,.i .i64 2,.i .i64 2,.i .i64 1,.i .i64 0,.i .i64 0,.i .i64 1,.i .i64 3,.i .i64 2,.i .i64 1]) := (eP_some S).2 ⟨3,by kernel_rfl⟩
theorem sPorts_ok {x : Nd} (hx : x.Ok) : eP S 58 [.g (encN x)] = some (.a (.i .i64 x.ports)) := by
  refine x_fn (orcS (by decide)) (fc := F58) rfl rfl ?_
  have hal := hx.al
  have hw : IntKind.i64.wrap (2 + (x.al.length : Int)) = 2 + x.al.length := wrap_in _ (by omega)
  have f := sfixed_ok
  by_cases h8 : x.k = 8
  · have e : x.ports = x.to.length := by unfold Nd.ports; rw [h8]; simp
    rw [e]
    simp only [F58,h8,Int.reduceEq,fxa,fxc,fxE,fxL,fxI,nxE,evO,evR,cellsT,ldCells,mkT,lenA,binPV,Env.init,resV,resT,frT,klT,ownT,intT,O.adds,ownA,rowsA,over,wrOk,keysT,keysA,ne_eq,if_true,if_false,ite_self,Nat.reduceLT,Nat.reduceSub,Nat.reduceBEq,Nat.reduceEqDiff,Nat.reduceAdd,Nat.reduceLeDiff,reduceCtorEq,Nat.reduceMul]
  by_cases h9 : x.k = 9
  · have e : x.ports = 2 + x.al.length := by unfold Nd.ports; rw [h9]; simp
    rw [e]
    simp only [F58,h9,hw,Int.reduceEq,fxa,fxc,fxE,fxL,fxI,nxE,evO,evR,cellsT,ldCells,mkT,lenA,binPV,Env.init,resV,resT,frT,klT,ownT,intT,O.adds,ownA,rowsA,over,wrOk,keysT,keysA,ne_eq,if_true,if_false,ite_self,Nat.reduceLT,Nat.reduceSub,Nat.reduceBEq,Nat.reduceEqDiff,Nat.reduceAdd,Nat.reduceLeDiff,reduceCtorEq,Nat.reduceMul]
  by_cases hin : 0 ≤ x.k ∧ x.k ≤ 13
  · have c1 := in_is (a := x.k) (b := 0) (c := 13) hin
    obtain ⟨k,hk⟩ : ∃ k : Nat,x.k = k := ⟨x.k.toNat,by omega⟩
    unfold Nd.ports
    rw [hk] at c1 h8 h9
    have hk13 : k ≤ 13 := by omega
    simp only [F58,hk,h8,h9,c1,f,fxa,fxc,fxE,fxL,fxI,nxE,evO,evR,cellsT,ldCells,mkT,lenA,binPV,Env.init,resV,resT,frT,klT,ownT,intT,O.adds,ownA,rowsA,over,wrOk,keysT,keysA,ne_eq,if_true,if_false,ite_self,Nat.reduceLT,Nat.reduceSub,Nat.reduceBEq,Nat.reduceEqDiff,Nat.reduceAdd,Nat.reduceLeDiff,reduceCtorEq,Nat.reduceMul]
    have : k = 0 ∨ k = 1 ∨ k = 2 ∨ k = 3 ∨ k = 4 ∨ k = 5 ∨ k = 6 ∨ k = 7 ∨ k = 10 ∨ k = 11 ∨ k = 12 ∨ k = 13 := by omega
    rcases this with rfl | rfl | rfl | rfl | rfl | rfl | rfl | rfl | rfl | rfl | rfl | rfl <;> simp only [Int.reduceToNat,Int.reduceEq,Int.reduceLT,Int.reduceLE,Int.cast_ofNat_Int,List.drop_succ_cons,List.drop_zero,or_true,true_or,or_false,false_or,or_self,fxa,fxc,fxE,fxL,fxI,nxE,evO,evR,cellsT,ldCells,mkT,lenA,binPV,Env.init,resV,resT,frT,klT,ownT,intT,O.adds,ownA,rowsA,over,wrOk,keysT,keysA,ne_eq,if_true,if_false,ite_self,Nat.reduceLT,Nat.reduceSub,Nat.reduceBEq,Nat.reduceEqDiff,Nat.reduceAdd,Nat.reduceLeDiff,reduceCtorEq,Nat.reduceMul]
  · have c1 := in_no (a := x.k) (b := 0) (c := 13) hin
    have e : x.ports = 0 := by
      unfold Nd.ports
      rw [if_neg (by omega),if_neg (by omega),if_neg (by omega),if_neg (by omega),if_neg (by omega)]
    rw [e]
    simp only [F58,h8,h9,c1,fxa,fxc,fxE,fxL,fxI,nxE,evO,evR,cellsT,ldCells,mkT,lenA,binPV,Env.init,resV,resT,frT,klT,ownT,intT,O.adds,ownA,rowsA,over,wrOk,keysT,keysA,ne_eq,if_true,if_false,ite_self,Nat.reduceLT,Nat.reduceSub,Nat.reduceBEq,Nat.reduceEqDiff,Nat.reduceAdd,Nat.reduceLeDiff,reduceCtorEq,Nat.reduceMul]
theorem alt1_ok (b a : Ar) (k : Key) (σ : St) (hk : σ.bs k = some (.var ((encA a).map .p))) (hlt : k.2 < σ.clk) :
    eS S (.f 135) [.g ((encA b).map .p),.a (.ptr k 0 0)] σ = some (.a (.p (.b (decide (b.s = a.s)))),σ.add 2 (.var ((encA b).map .p))) := by
  have hne : ¬ k = (2,σ.clk) := by rintro rfl; exact Nat.lt_irrefl _ hlt
  simp only [encA,List.map_cons,List.map_nil] at hk
  refine x_fnX (fc := F135) rfl rfl ?_
  simp only [F135,hk,hne,fxa,fxc,fxE,fxL,fxI,nxE,evO,evR,cellsT,ldCells,mkT,lenA,binPV,Env.init,resV,resT,frT,klT,ownT,intT,O.adds,ownA,rowsA,over,wrOk,keysT,keysA,ne_eq,if_true,if_false,ite_self,Nat.reduceLT,Nat.reduceSub,Nat.reduceBEq,Nat.reduceEqDiff,Nat.reduceAdd,Nat.reduceLeDiff,reduceCtorEq,Nat.reduceMul]
theorem indexA_ok (l : List Ar) (hl : l.length * 24 ≤ 140737488355328) (g : FuncId) (caps : List Key) (hc : caps ≠ []) (hsp : spN g = false) (f : Ar → Bool) (R : St → Prop)
    (hR : ∀ p σ,R σ → ∃ σ',eS S (.f g) ([.g ((encA p).map .p)] ++ caps.map fun s => .a (.ptr s 0 0)) σ = some (.a (.p (.b (f p))),σ') ∧ R σ') (σ : St) (h0 : R σ) :
    ∃ σ',eS S (.f 139) [.a (.p (.l (l.map encA))),.a (.fn g caps)] σ = some (.a (.p (.i .i64 (idx f l))),σ') ∧ R σ' := by
  obtain ⟨c1,cr,rfl⟩ : ∃ c1 cr,caps = c1 :: cr := by
    cases caps with
    | nil => exact absurd rfl hc
    | cons c1 cr => exact ⟨c1,cr,rfl⟩
  refine x_fnR (fc := F139) rfl rfl ?_
  simp only [F139,fxa,fxc,fxE,fxL,fxI,nxE,evO,evR,cellsT,ldCells,mkT,lenA,binPV,Env.init,resV,resT,frT,klT,ownT,intT,O.adds,ownA,rowsA,over,wrOk,keysT,keysA,ne_eq,if_true,if_false,ite_self,Nat.reduceLT,Nat.reduceSub,Nat.reduceBEq,Nat.reduceEqDiff,Nat.reduceAdd,Nat.reduceLeDiff,reduceCtorEq,Nat.reduceMul]
  refine loop_nat l.length (fun i e σ => e 0 = .a (.p (.l (l.map encA))) ∧ e 1 = .a (.fn g (c1 :: cr)) ∧ e 7 = .a (.p (.i .i64 l.length)) ∧ e 8 = .a (.p (.i .i64 (i : Nat))) ∧ R σ ∧ ∀ j x,j < i → l[j]? = some x → f x = false) (i0 := 0) (Nat.zero_le _) ?_ ?_ ?_
  · refine ⟨?_,?_,?_,?_,h0,fun j x hj => by omega⟩ <;> simp only [fxa,fxc,fxE,fxL,fxI,nxE,evO,evR,cellsT,ldCells,mkT,lenA,binPV,Env.init,resV,resT,frT,klT,ownT,intT,O.adds,ownA,rowsA,over,wrOk,keysT,keysA,ne_eq,if_true,if_false,ite_self,Nat.reduceLT,Nat.reduceSub,Nat.reduceBEq,Nat.reduceEqDiff,Nat.reduceAdd,Nat.reduceLeDiff,reduceCtorEq,Nat.reduceMul]
    rfl
  · rintro i e σ hi ⟨e0,e1,e7,e8,hRσ,hall⟩
    have hlt : ((i : Nat) : Int) < (l.length : Int) := by omega
    have hge : (0 : Int) ≤ ((i : Nat) : Int) := by omega
    obtain ⟨x,hx⟩ : ∃ x,l[i]? = some x := ⟨_,List.getElem?_eq_getElem hi⟩
    have hx' := mapGet encA hx
    obtain ⟨σ2,hcall,hR2⟩ := hR x σ hRσ
    simp only [encA,List.map_cons,List.map_nil,List.cons_append,List.nil_append] at hcall
    simp only [F139b0,e0,e1,e7,e8,hlt,hge,hx',hsp,hcall,Bool.false_eq_true,fxa,fxc,fxE,fxL,fxI,nxE,evO,evR,cellsT,ldCells,mkT,lenA,binPV,Env.init,resV,resT,frT,klT,ownT,intT,O.adds,ownA,rowsA,over,wrOk,keysT,keysA,ne_eq,if_true,if_false,ite_self,Nat.reduceLT,Nat.reduceSub,Nat.reduceBEq,Nat.reduceEqDiff,Nat.reduceAdd,Nat.reduceLeDiff,reduceCtorEq,Nat.reduceMul]
    refine wpC_split (fun hf => ?_) (fun hf => ?_)
    · simp only [fxa,fxc,fxE,fxL,fxI,nxE,evO,evR,cellsT,ldCells,mkT,lenA,binPV,Env.init,resV,resT,frT,klT,ownT,intT,O.adds,ownA,rowsA,over,wrOk,keysT,keysA,ne_eq,if_true,if_false,ite_self,Nat.reduceLT,Nat.reduceSub,Nat.reduceBEq,Nat.reduceEqDiff,Nat.reduceAdd,Nat.reduceLeDiff,reduceCtorEq,Nat.reduceMul]
      refine ⟨?_,hR2⟩
      have : l.findIdx? f = some i := by
        rw [List.findIdx?_eq_some_iff_getElem]
        refine ⟨hi,?_,fun j hj => ?_⟩
        · rw [List.getElem?_eq_getElem hi] at hx; rw [Option.some.inj hx]; exact hf
        · rw [hall j _ hj (List.getElem?_eq_getElem (by omega))]; simp
      simp only [idx,this]
    · simp only [e0,e1,e7,e8,fxa,fxc,fxE,fxL,fxI,nxE,evO,evR,cellsT,ldCells,mkT,lenA,binPV,Env.init,resV,resT,frT,klT,ownT,intT,O.adds,ownA,rowsA,over,wrOk,keysT,keysA,ne_eq,if_true,if_false,ite_self,Nat.reduceLT,Nat.reduceSub,Nat.reduceBEq,Nat.reduceEqDiff,Nat.reduceAdd,Nat.reduceLeDiff,reduceCtorEq,Nat.reduceMul]
      refine ⟨by rw [wrap_succ i (by omega)],hR2,fun j y hj hy => ?_⟩
      by_cases e : j = i
      · subst e; rw [hx] at hy; rw [← Option.some.inj hy]; exact hf
      · exact hall j y (by omega) hy
  · rintro e σ ⟨e0,e1,e7,e8,hRσ,hall⟩
    have hlt : ¬ ((l.length : Nat) : Int) < (l.length : Int) := by omega
    simp only [F139b0,e0,e1,e7,e8,hlt,fxa,fxc,fxE,fxL,fxI,nxE,evO,evR,cellsT,ldCells,mkT,lenA,binPV,Env.init,resV,resT,frT,klT,ownT,intT,O.adds,ownA,rowsA,over,wrOk,keysT,keysA,ne_eq,if_true,if_false,ite_self,Nat.reduceLT,Nat.reduceSub,Nat.reduceBEq,Nat.reduceEqDiff,Nat.reduceAdd,Nat.reduceLeDiff,reduceCtorEq,Nat.reduceMul]
    refine ⟨?_,hRσ⟩
    have : l.findIdx? f = none := by
      rw [List.findIdx?_eq_none_iff]
      intro x hx
      obtain ⟨j,hj⟩ := List.getElem?_of_mem hx
      exact hall j x (List.getElem?_eq_some_iff.1 hj).1 hj
    simp only [idx,this]
theorem containsA_ok (l : List Ar) (hl : l.length * 24 ≤ 140737488355328) (a : Ar) (k : Key) (R : St → Prop) (hRk : ∀ σ,R σ → σ.bs k = some (.var ((encA a).map .p)) ∧ k.2 < σ.clk) (hRa : ∀ σ b,R σ → R (σ.add 2 b)) (σ : St) (h0 : R σ) :
    ∃ σ',eS S (.f 136) [.a (.p (.l (l.map encA))),.a (.fn 135 [k])] σ = some (.a (.p (.b (l.any fun b => decide (b.s = a.s)))),σ') ∧ R σ' := by
  obtain ⟨σ',h,hR⟩ := indexA_ok l hl 135 [k] (by simp) (by decide) (fun b => decide (b.s = a.s)) R (fun b σ hσ => ⟨_,alt1_ok b a k σ (hRk σ hσ).1 (hRk σ hσ).2,hRa σ _ hσ⟩) σ h0
  refine x_fnR (fc := F136) rfl rfl ?_
  simp only [F136,h,idx_any,fxa,fxc,fxE,fxL,fxI,nxE,evO,evR,cellsT,ldCells,mkT,lenA,binPV,Env.init,resV,resT,frT,klT,ownT,intT,O.adds,ownA,rowsA,over,wrOk,keysT,keysA,ne_eq,if_true,if_false,ite_self,Nat.reduceLT,Nat.reduceSub,Nat.reduceBEq,Nat.reduceEqDiff,Nat.reduceAdd,Nat.reduceLeDiff,reduceCtorEq,Nat.reduceMul]
  exact hR
def altsP (x : Nd) : Prop := (x.k ≠ 9 → x.al.length = 0) ∧ (x.k = 9 → altOk x.al ∧ 1 ≤ (x.al.length : Int) ∧ (x.al.length : Int) ≤ 8)
theorem alts_ok {x : Nd} (hx : x.Ok) : eP S 98 [.g (encN x)] = some (.a (.b (bool (altsP x)))) := by
  refine x_fnB (orcS (by decide)) (fc := F98) rfl rfl ?_
  have hal := hx.al
  by_cases h9 : x.k = 9
  case neg =>
    simp only [F98,h9,fxa,fxc,fxE,fxL,fxI,nxE,evO,evR,cellsT,ldCells,mkT,lenA,binPV,Env.init,resV,resT,frT,klT,ownT,intT,O.adds,ownA,rowsA,over,wrOk,keysT,keysA,ne_eq,if_true,if_false,ite_self,Nat.reduceLT,Nat.reduceSub,Nat.reduceBEq,Nat.reduceEqDiff,Nat.reduceAdd,Nat.reduceLeDiff,reduceCtorEq,Nat.reduceMul]
    rw [decide_eq_true_iff]
    exact ⟨fun h => ⟨fun _ => by omega,fun h2 => absurd h2 h9⟩,fun h => by have := h.1 h9; omega⟩
  simp only [F98,h9,fxa,fxc,fxE,fxL,fxI,nxE,evO,evR,cellsT,ldCells,mkT,lenA,binPV,Env.init,resV,resT,frT,klT,ownT,intT,O.adds,ownA,rowsA,over,wrOk,keysT,keysA,ne_eq,if_true,if_false,ite_self,Nat.reduceLT,Nat.reduceSub,Nat.reduceBEq,Nat.reduceEqDiff,Nat.reduceAdd,Nat.reduceLeDiff,reduceCtorEq,Nat.reduceMul]
  refine loop_nat x.al.length (fun i e σ => e 1 = .a (.ptr (1,0) 0 0) ∧ e 14 = .a (.p (.l (x.al.map encA))) ∧ e 15 = .a (.p (.i .i64 x.al.length)) ∧ e 16 = .a (.p (.i .i64 (i : Nat))) ∧ σ.bs (1,0) = some (.var ((encN x).map .p)) ∧ 1 ≤ σ.clk ∧
    ∀ (m : Nat) (a : Ar),m < i → x.al[m]? = some a → a.s ≠ [] ∧ 0 ≤ a.n ∧ a.n ≤ 8 ∧ ∀ (j : Nat) (b : Ar),j < m → x.al[j]? = some b → b.s ≠ a.s) (i0 := 0) (Nat.zero_le _) ?_ ?_ ?_
  · refine ⟨?_,?_,?_,?_,?_,?_,fun j a hj => by omega⟩ <;> simp only [h9,fxa,fxc,fxE,fxL,fxI,nxE,evO,evR,cellsT,ldCells,mkT,lenA,binPV,Env.init,resV,resT,frT,klT,ownT,intT,O.adds,ownA,rowsA,over,wrOk,keysT,keysA,ne_eq,if_true,if_false,ite_self,Nat.reduceLT,Nat.reduceSub,Nat.reduceBEq,Nat.reduceEqDiff,Nat.reduceAdd,Nat.reduceLeDiff,reduceCtorEq,Nat.reduceMul]
    all_goals first | rfl | omega
  · rintro i e σ hi ⟨e1,e14,e15,e16,s1,hc,hall⟩
    obtain ⟨a,ha⟩ : ∃ a,x.al[i]? = some a := ⟨_,List.getElem?_eq_getElem hi⟩
    have ha' := mapGet encA ha
    have hlt : ((i : Nat) : Int) < (x.al.length : Int) := by omega
    have hle : ((i : Nat) : Int) ≤ (x.al.length : Int) := by omega
    have hge : (0 : Int) ≤ ((i : Nat) : Int) := by omega
    simp only [encN,List.map_cons,List.map_nil] at s1
    have htk : List.take i (x.al.map encA) = (x.al.take i).map encA := List.map_take.symm
    have hall2 : ((x.al.take i).map encA).all (fun r => decide (r.length = 2)) = true := allA _
    by_cases h1 : a.s = []
    · simp only [F98b0,e1,e14,e15,e16,s1,hlt,hle,hge,ha',h1,capsOf,optInt,subRows,htk,hall2,Int.reduceToNat,Nat.sub_zero,Int.toNat_zero,Int.le_refl,List.drop_zero,fxa,fxc,fxE,fxL,fxI,nxE,evO,evR,cellsT,ldCells,mkT,lenA,binPV,Env.init,resV,resT,frT,klT,ownT,intT,O.adds,ownA,rowsA,over,wrOk,keysT,keysA,ne_eq,if_true,if_false,ite_self,Nat.reduceLT,Nat.reduceSub,Nat.reduceBEq,Nat.reduceEqDiff,Nat.reduceAdd,Nat.reduceLeDiff,reduceCtorEq,Nat.reduceMul]
      intro hP; exact ((hP.2 h9).1 i a ha).1 h1
    by_cases h2 : 0 ≤ a.n ∧ a.n ≤ 8
    case neg =>
      have c1 := in_no h2
      simp only [F98b0,e1,e14,e15,e16,s1,hlt,hle,hge,ha',h1,c1,capsOf,optInt,subRows,htk,hall2,Int.reduceToNat,Nat.sub_zero,Int.toNat_zero,Int.le_refl,List.drop_zero,fxa,fxc,fxE,fxL,fxI,nxE,evO,evR,cellsT,ldCells,mkT,lenA,binPV,Env.init,resV,resT,frT,klT,ownT,intT,O.adds,ownA,rowsA,over,wrOk,keysT,keysA,ne_eq,if_true,if_false,ite_self,Nat.reduceLT,Nat.reduceSub,Nat.reduceBEq,Nat.reduceEqDiff,Nat.reduceAdd,Nat.reduceLeDiff,reduceCtorEq,Nat.reduceMul]
      intro hP; have := (hP.2 h9).1 i a ha; omega
    have c1 := in_is h2
    have hne : ∀ d : Nat,∀ s : Key,s.2 < σ.clk → ¬ s = (d,σ.clk) := by rintro d s hs rfl; exact Nat.lt_irrefl _ hs
    obtain ⟨σ0,hσ0⟩ : ∃ σ0,σ0 = ((σ.add 4 (.var [.p (.s []),.p (.i .i64 0)])).put (4,σ.clk) (.var [.p (.s a.s),.p (.i .i64 a.n)])) := ⟨_,rfl⟩
    obtain ⟨σ2,hcall,hR2⟩ := containsA_ok (x.al.take i) (by simp; omega) a (4,σ.clk) (fun σ' => σ'.bs (1,0) = some (.var ((encN x).map .p)) ∧ σ'.bs (4,σ.clk) = some (.var ((encA a).map .p)) ∧ σ.clk < σ'.clk)
      (fun σ' h => ⟨h.2.1,h.2.2⟩) (fun σ' b h => ⟨by simp only [add_bs]; rw [if_neg (by simp)]; exact h.1,by simp only [add_bs]; rw [if_neg (by simp)]; exact h.2.1,by simp only [add_clk]; omega⟩) σ0
      (by rw [hσ0]; refine ⟨?_,?_,?_⟩ <;> simp only [s1,encN,encA,List.map_cons,List.map_nil,fxa,fxc,fxE,fxL,fxI,nxE,evO,evR,cellsT,ldCells,mkT,lenA,binPV,Env.init,resV,resT,frT,klT,ownT,intT,O.adds,ownA,rowsA,over,wrOk,keysT,keysA,ne_eq,if_true,if_false,ite_self,Nat.reduceLT,Nat.reduceSub,Nat.reduceBEq,Nat.reduceEqDiff,Nat.reduceAdd,Nat.reduceLeDiff,reduceCtorEq,Nat.reduceMul])
    simp only [encN,List.map_cons,List.map_nil] at hR2
    rw [hσ0] at hcall
    simp only [F98b0,e1,e14,e15,e16,s1,hlt,hle,hge,ha',h1,c1,capsOf,optInt,subRows,htk,hall2,hcall,Int.reduceToNat,Nat.sub_zero,Int.toNat_zero,Int.le_refl,List.drop_zero,fxa,fxc,fxE,fxL,fxI,nxE,evO,evR,cellsT,ldCells,mkT,lenA,binPV,Env.init,resV,resT,frT,klT,ownT,intT,O.adds,ownA,rowsA,over,wrOk,keysT,keysA,ne_eq,if_true,if_false,ite_self,Nat.reduceLT,Nat.reduceSub,Nat.reduceBEq,Nat.reduceEqDiff,Nat.reduceAdd,Nat.reduceLeDiff,reduceCtorEq,Nat.reduceMul]
    cases hany : (x.al.take i).any fun b => decide (b.s = a.s) with
    | true =>
      simp only [hany,fxa,fxc,fxE,fxL,fxI,nxE,evO,evR,cellsT,ldCells,mkT,lenA,binPV,Env.init,resV,resT,frT,klT,ownT,intT,O.adds,ownA,rowsA,over,wrOk,keysT,keysA,ne_eq,if_true,if_false,ite_self,Nat.reduceLT,Nat.reduceSub,Nat.reduceBEq,Nat.reduceEqDiff,Nat.reduceAdd,Nat.reduceLeDiff,reduceCtorEq,Nat.reduceMul]
      intro hP
      rw [List.any_eq_true] at hany
      obtain ⟨b,hb,hb2⟩ := hany
      obtain ⟨j,hj⟩ := List.getElem?_of_mem hb
      have hjl := (List.getElem?_eq_some_iff.1 hj).1
      simp at hjl
      rw [List.getElem?_take_of_lt (by omega)] at hj
      exact ((hP.2 h9).1 i a ha).2.2.2 j b (by omega) hj (by simpa using hb2)
    | false =>
      simp only [hany,e1,e14,e15,e16,fxa,fxc,fxE,fxL,fxI,nxE,evO,evR,cellsT,ldCells,mkT,lenA,binPV,Env.init,resV,resT,frT,klT,ownT,intT,O.adds,ownA,rowsA,over,wrOk,keysT,keysA,ne_eq,if_true,if_false,ite_self,Nat.reduceLT,Nat.reduceSub,Nat.reduceBEq,Nat.reduceEqDiff,Nat.reduceAdd,Nat.reduceLeDiff,reduceCtorEq,Nat.reduceMul]
      refine ⟨by rw [wrap_succ i (by omega)],hR2.1,by omega,fun m c hm hcc => ?_⟩
      by_cases e : m = i
      · subst e; rw [ha] at hcc; rw [← Option.some.inj hcc]
        refine ⟨h1,h2.1,h2.2,fun j b hj hb hs => ?_⟩
        rw [List.any_eq_false] at hany
        exact hany b (by rw [List.mem_take_iff_getElem]; obtain ⟨hl,hg⟩ := List.getElem?_eq_some_iff.1 hb; exact ⟨j,by omega,hg⟩) (by simpa using hs)
      · exact hall m c (by omega) hcc
  · rintro e σ ⟨e1,e14,e15,e16,s1,hc,hall⟩
    have hlt : ¬ ((x.al.length : Nat) : Int) < (x.al.length : Int) := by omega
    have c1 := in_ok (x.al.length : Int) 1 8
    simp only [encN,List.map_cons,List.map_nil] at s1
    simp only [F98b0,e1,e14,e15,e16,s1,hlt,c1,fxa,fxc,fxE,fxL,fxI,nxE,evO,evR,cellsT,ldCells,mkT,lenA,binPV,Env.init,resV,resT,frT,klT,ownT,intT,O.adds,ownA,rowsA,over,wrOk,keysT,keysA,ne_eq,if_true,if_false,ite_self,Nat.reduceLT,Nat.reduceSub,Nat.reduceBEq,Nat.reduceEqDiff,Nat.reduceAdd,Nat.reduceLeDiff,reduceCtorEq,Nat.reduceMul]
    rw [Bool.and_eq_true,decide_eq_true_eq,decide_eq_true_eq]
    exact ⟨fun h => ⟨fun h2 => absurd h9 h2,fun _ => ⟨fun i a hi => hall i a (List.getElem?_eq_some_iff.1 hi).1 hi,h.1,h.2⟩⟩,fun h => (h.2 h9).2⟩
end Go.Proofs.YtmlhgalboabjcaaGreat
end
section
set_option linter.unusedSimpArgs false
set_option linter.unusedVariables false
set_option maxHeartbeats 4000000
set_option maxRecDepth 10000
namespace Go.Proofs.YtmlhgalboabjcaaGreat
open Go.Fx
theorem may_iff (x : Nd) : x.may ↔ ((0 ≤ x.k ∧ x.k ≤ 13) ∧ altsP x) ∧ (0 ≤ x.lv ∧ x.lv ≤ (if x.k = 0 ∨ x.k = 1 then 0 else 60)) ∧ (x.s ≠ [] ↔ (x.k = 8 ∨ x.k = 11 ∨ x.k = 12)) ∧ (x.n = 0 ∨ (x.k = 10 ∨ x.k = 12)) ∧ (x.k ≠ 8 ∨ (1 ≤ (x.to.length : Int) ∧ (x.to.length : Int) ≤ 9)) := by
  constructor
  · intro h
    refine ⟨⟨⟨h.k0,h.k1⟩,fun h9 => by have := h.aln h9; omega,fun h9 => ⟨h.alt,h.al9 h9,h.al8⟩⟩,⟨h.lv0,?_⟩,h.nm,?_,?_⟩
    · have := h.lv2; have := h.lv1; split <;> omega
    · have := h.nn; omega
    · have := h.to8; omega
  · rintro ⟨⟨⟨h1,h2⟩,h3,h4⟩,⟨h5,h6⟩,h7,h8,h9⟩
    refine ⟨h1,h2,h5,by split at h6 <;> omega,fun h => by rw [if_pos (by omega)] at h6; exact h6,h7,fun h => by omega,fun h => by omega,fun h => (h4 h).2.1,fun h => by have := h3 h; omega,?_,?_⟩
    · by_cases h : x.k = 9
      · exact (h4 h).2.2
      · have := h3 h; omega
    · by_cases h : x.k = 9
      · exact (h4 h).1
      · have := h3 h
        have : x.al = [] := List.eq_nil_of_length_eq_zero this
        rw [this]; intro i a hi; simp at hi
theorem sNode_ok {x : Nd} (hx : x.Ok) : eP S 57 [.g (encN x)] = some (.a (.b (bool x.may))) := by
  rw [bool_congr (may_iff x)]
  refine x_fnB (orcS (by decide)) (fc := F57) rfl rfl ?_
  have hal := hx.al
  have c0 := alts_ok hx
  simp only [encN] at c0
  unfold F57
  simp only [encN,List.map_cons,List.map_nil,ofPT_g]
  refine x_cutR (NdM x) ?_ fun e σ hM => ?_
  · simp only [fxa,fxc,fxE,fxL,fxI,nxE,evO,evR,cellsT,ldCells,mkT,lenA,binPV,Env.init,resV,resT,frT,klT,ownT,intT,O.adds,ownA,rowsA,over,wrOk,keysT,keysA,ne_eq,if_true,if_false,ite_self,Nat.reduceLT,Nat.reduceSub,Nat.reduceBEq,Nat.reduceEqDiff,Nat.reduceAdd,Nat.reduceLeDiff,reduceCtorEq,Nat.reduceMul]
    exact ⟨by simp only [fxa,fxc,fxE,fxL,fxI,nxE,evO,evR,cellsT,ldCells,mkT,lenA,binPV,Env.init,resV,resT,frT,klT,ownT,intT,O.adds,ownA,rowsA,over,wrOk,keysT,keysA,ne_eq,if_true,if_false,ite_self,Nat.reduceLT,Nat.reduceSub,Nat.reduceBEq,Nat.reduceEqDiff,Nat.reduceAdd,Nat.reduceLeDiff,reduceCtorEq,Nat.reduceMul],by simp only [fxa,fxc,fxE,fxL,fxI,nxE,evO,evR,cellsT,ldCells,mkT,lenA,binPV,Env.init,resV,resT,frT,klT,ownT,intT,O.adds,ownA,rowsA,over,wrOk,keysT,keysA,ne_eq,if_true,if_false,ite_self,Nat.reduceLT,Nat.reduceSub,Nat.reduceBEq,Nat.reduceEqDiff,Nat.reduceAdd,Nat.reduceLeDiff,reduceCtorEq,Nat.reduceMul]⟩
  obtain ⟨e1,s1⟩ := hM
  by_cases hk : 0 ≤ x.k ∧ x.k ≤ 13
  case neg =>
    have c1 := in_no (a := x.k) (b := 0) (c := 13) hk
    simp only [e1,s1,c1,fxa,fxc,fxE,fxL,fxI,nxE,evO,evR,cellsT,ldCells,mkT,lenA,binPV,Env.init,resV,resT,frT,klT,ownT,intT,O.adds,ownA,rowsA,over,wrOk,keysT,keysA,ne_eq,if_true,if_false,ite_self,Nat.reduceLT,Nat.reduceSub,Nat.reduceBEq,Nat.reduceEqDiff,Nat.reduceAdd,Nat.reduceLeDiff,reduceCtorEq,Nat.reduceMul]
    exact fun h => hk h.1.1
  have c1 := in_is (a := x.k) (b := 0) (c := 13) hk
  by_cases ha : altsP x
  case neg =>
    rw [bool_f ha] at c0
    simp only [e1,s1,c1,c0,fxa,fxc,fxE,fxL,fxI,nxE,evO,evR,cellsT,ldCells,mkT,lenA,binPV,Env.init,resV,resT,frT,klT,ownT,intT,O.adds,ownA,rowsA,over,wrOk,keysT,keysA,ne_eq,if_true,if_false,ite_self,Nat.reduceLT,Nat.reduceSub,Nat.reduceBEq,Nat.reduceEqDiff,Nat.reduceAdd,Nat.reduceLeDiff,reduceCtorEq,Nat.reduceMul]
    exact fun h => ha h.1.2
  rw [bool_t ha] at c0
  refine x_cutR (NdM x) ?_ fun e' σ' hM => ?_
  · simp only [e1,s1,c1,c0,fxa,fxc,fxE,fxL,fxI,nxE,evO,evR,cellsT,ldCells,mkT,lenA,binPV,Env.init,resV,resT,frT,klT,ownT,intT,O.adds,ownA,rowsA,over,wrOk,keysT,keysA,ne_eq,if_true,if_false,ite_self,Nat.reduceLT,Nat.reduceSub,Nat.reduceBEq,Nat.reduceEqDiff,Nat.reduceAdd,Nat.reduceLeDiff,reduceCtorEq,Nat.reduceMul]
    exact ⟨by simp only [e1,fxa,fxc,fxE,fxL,fxI,nxE,evO,evR,cellsT,ldCells,mkT,lenA,binPV,Env.init,resV,resT,frT,klT,ownT,intT,O.adds,ownA,rowsA,over,wrOk,keysT,keysA,ne_eq,if_true,if_false,ite_self,Nat.reduceLT,Nat.reduceSub,Nat.reduceBEq,Nat.reduceEqDiff,Nat.reduceAdd,Nat.reduceLeDiff,reduceCtorEq,Nat.reduceMul],by simp only [s1,fxa,fxc,fxE,fxL,fxI,nxE,evO,evR,cellsT,ldCells,mkT,lenA,binPV,Env.init,resV,resT,frT,klT,ownT,intT,O.adds,ownA,rowsA,over,wrOk,keysT,keysA,ne_eq,if_true,if_false,ite_self,Nat.reduceLT,Nat.reduceSub,Nat.reduceBEq,Nat.reduceEqDiff,Nat.reduceAdd,Nat.reduceLeDiff,reduceCtorEq,Nat.reduceMul]⟩
  clear e1 s1
  obtain ⟨e1,s1⟩ := hM
  refine x_cutR (fun e σ => NdM x e σ ∧ e 3 = .a (.p (.b (decide (x.k = 8 ∨ x.k = 11 ∨ x.k = 12))))) ?_ fun e' σ' hM => ?_
  · by_cases k8 : x.k = 8
    · simp only [e1,s1,k8,fxa,fxc,fxE,fxL,fxI,nxE,evO,evR,cellsT,ldCells,mkT,lenA,binPV,Env.init,resV,resT,frT,klT,ownT,intT,O.adds,ownA,rowsA,over,wrOk,keysT,keysA,ne_eq,if_true,if_false,ite_self,Nat.reduceLT,Nat.reduceSub,Nat.reduceBEq,Nat.reduceEqDiff,Nat.reduceAdd,Nat.reduceLeDiff,reduceCtorEq,Nat.reduceMul]
      exact ⟨⟨by simp only [e1,fxa,fxc,fxE,fxL,fxI,nxE,evO,evR,cellsT,ldCells,mkT,lenA,binPV,Env.init,resV,resT,frT,klT,ownT,intT,O.adds,ownA,rowsA,over,wrOk,keysT,keysA,ne_eq,if_true,if_false,ite_self,Nat.reduceLT,Nat.reduceSub,Nat.reduceBEq,Nat.reduceEqDiff,Nat.reduceAdd,Nat.reduceLeDiff,reduceCtorEq,Nat.reduceMul],by simp only [s1,k8,fxa,fxc,fxE,fxL,fxI,nxE,evO,evR,cellsT,ldCells,mkT,lenA,binPV,Env.init,resV,resT,frT,klT,ownT,intT,O.adds,ownA,rowsA,over,wrOk,keysT,keysA,ne_eq,if_true,if_false,ite_self,Nat.reduceLT,Nat.reduceSub,Nat.reduceBEq,Nat.reduceEqDiff,Nat.reduceAdd,Nat.reduceLeDiff,reduceCtorEq,Nat.reduceMul]⟩,by simp [k8]⟩
    by_cases k11 : x.k = 11
    · simp only [e1,s1,k8,k11,Int.reduceEq,fxa,fxc,fxE,fxL,fxI,nxE,evO,evR,cellsT,ldCells,mkT,lenA,binPV,Env.init,resV,resT,frT,klT,ownT,intT,O.adds,ownA,rowsA,over,wrOk,keysT,keysA,ne_eq,if_true,if_false,ite_self,Nat.reduceLT,Nat.reduceSub,Nat.reduceBEq,Nat.reduceEqDiff,Nat.reduceAdd,Nat.reduceLeDiff,reduceCtorEq,Nat.reduceMul]
      exact ⟨⟨by simp only [e1,fxa,fxc,fxE,fxL,fxI,nxE,evO,evR,cellsT,ldCells,mkT,lenA,binPV,Env.init,resV,resT,frT,klT,ownT,intT,O.adds,ownA,rowsA,over,wrOk,keysT,keysA,ne_eq,if_true,if_false,ite_self,Nat.reduceLT,Nat.reduceSub,Nat.reduceBEq,Nat.reduceEqDiff,Nat.reduceAdd,Nat.reduceLeDiff,reduceCtorEq,Nat.reduceMul],by simp only [s1,k11,fxa,fxc,fxE,fxL,fxI,nxE,evO,evR,cellsT,ldCells,mkT,lenA,binPV,Env.init,resV,resT,frT,klT,ownT,intT,O.adds,ownA,rowsA,over,wrOk,keysT,keysA,ne_eq,if_true,if_false,ite_self,Nat.reduceLT,Nat.reduceSub,Nat.reduceBEq,Nat.reduceEqDiff,Nat.reduceAdd,Nat.reduceLeDiff,reduceCtorEq,Nat.reduceMul]⟩,by simp [k11]⟩
    simp only [e1,s1,k8,k11,fxa,fxc,fxE,fxL,fxI,nxE,evO,evR,cellsT,ldCells,mkT,lenA,binPV,Env.init,resV,resT,frT,klT,ownT,intT,O.adds,ownA,rowsA,over,wrOk,keysT,keysA,ne_eq,if_true,if_false,ite_self,Nat.reduceLT,Nat.reduceSub,Nat.reduceBEq,Nat.reduceEqDiff,Nat.reduceAdd,Nat.reduceLeDiff,reduceCtorEq,Nat.reduceMul]
    refine ⟨⟨by simp only [e1,fxa,fxc,fxE,fxL,fxI,nxE,evO,evR,cellsT,ldCells,mkT,lenA,binPV,Env.init,resV,resT,frT,klT,ownT,intT,O.adds,ownA,rowsA,over,wrOk,keysT,keysA,ne_eq,if_true,if_false,ite_self,Nat.reduceLT,Nat.reduceSub,Nat.reduceBEq,Nat.reduceEqDiff,Nat.reduceAdd,Nat.reduceLeDiff,reduceCtorEq,Nat.reduceMul],by simp only [s1,fxa,fxc,fxE,fxL,fxI,nxE,evO,evR,cellsT,ldCells,mkT,lenA,binPV,Env.init,resV,resT,frT,klT,ownT,intT,O.adds,ownA,rowsA,over,wrOk,keysT,keysA,ne_eq,if_true,if_false,ite_self,Nat.reduceLT,Nat.reduceSub,Nat.reduceBEq,Nat.reduceEqDiff,Nat.reduceAdd,Nat.reduceLeDiff,reduceCtorEq,Nat.reduceMul]⟩,?_⟩
    simp [k8,k11]
  clear e1 s1
  obtain ⟨⟨e1,s1⟩,e3⟩ := hM
  refine x_cutR (fun e σ => NdM x e σ ∧ e 3 = .a (.p (.b (decide (x.k = 8 ∨ x.k = 11 ∨ x.k = 12)))) ∧ e 4 = .a (.p (.b (decide (x.k = 10 ∨ x.k = 12))))) ?_ fun e' σ' hM => ?_
  · by_cases k10 : x.k = 10
    · simp only [e1,s1,e3,k10,fxa,fxc,fxE,fxL,fxI,nxE,evO,evR,cellsT,ldCells,mkT,lenA,binPV,Env.init,resV,resT,frT,klT,ownT,intT,O.adds,ownA,rowsA,over,wrOk,keysT,keysA,ne_eq,if_true,if_false,ite_self,Nat.reduceLT,Nat.reduceSub,Nat.reduceBEq,Nat.reduceEqDiff,Nat.reduceAdd,Nat.reduceLeDiff,reduceCtorEq,Nat.reduceMul]
      unfold NdM
      repeat' apply And.intro
      all_goals first | (simp only [e1,s1,e3,k10,fxa,fxc,fxE,fxL,fxI,nxE,evO,evR,cellsT,ldCells,mkT,lenA,binPV,Env.init,resV,resT,frT,klT,ownT,intT,O.adds,ownA,rowsA,over,wrOk,keysT,keysA,ne_eq,if_true,if_false,ite_self,Nat.reduceLT,Nat.reduceSub,Nat.reduceBEq,Nat.reduceEqDiff,Nat.reduceAdd,Nat.reduceLeDiff,reduceCtorEq,Nat.reduceMul]; done) | (simp [put_at,e1,s1,e3,k10]; done)
    simp only [e1,s1,e3,k10,fxa,fxc,fxE,fxL,fxI,nxE,evO,evR,cellsT,ldCells,mkT,lenA,binPV,Env.init,resV,resT,frT,klT,ownT,intT,O.adds,ownA,rowsA,over,wrOk,keysT,keysA,ne_eq,if_true,if_false,ite_self,Nat.reduceLT,Nat.reduceSub,Nat.reduceBEq,Nat.reduceEqDiff,Nat.reduceAdd,Nat.reduceLeDiff,reduceCtorEq,Nat.reduceMul]
    unfold NdM
    repeat' apply And.intro
    all_goals first | (simp only [e1,s1,e3,k10,fxa,fxc,fxE,fxL,fxI,nxE,evO,evR,cellsT,ldCells,mkT,lenA,binPV,Env.init,resV,resT,frT,klT,ownT,intT,O.adds,ownA,rowsA,over,wrOk,keysT,keysA,ne_eq,if_true,if_false,ite_self,Nat.reduceLT,Nat.reduceSub,Nat.reduceBEq,Nat.reduceEqDiff,Nat.reduceAdd,Nat.reduceLeDiff,reduceCtorEq,Nat.reduceMul]; done) | (simp [put_at,e1,s1,e3,k10]; done)
  clear e1 s1 e3
  obtain ⟨⟨e1,s1⟩,e3,e4⟩ := hM
  refine x_cutR (fun e σ => NdM x e σ ∧ e 3 = .a (.p (.b (decide (x.k = 8 ∨ x.k = 11 ∨ x.k = 12)))) ∧ e 4 = .a (.p (.b (decide (x.k = 10 ∨ x.k = 12)))) ∧ e 5 = .a (.p (.i .i64 60))) ?_ fun e' σ' hM => ?_
  · simp only [e1,s1,e3,e4,fxa,fxc,fxE,fxL,fxI,nxE,evO,evR,cellsT,ldCells,mkT,lenA,binPV,Env.init,resV,resT,frT,klT,ownT,intT,O.adds,ownA,rowsA,over,wrOk,keysT,keysA,ne_eq,if_true,if_false,ite_self,Nat.reduceLT,Nat.reduceSub,Nat.reduceBEq,Nat.reduceEqDiff,Nat.reduceAdd,Nat.reduceLeDiff,reduceCtorEq,Nat.reduceMul]
    unfold NdM
    repeat' apply And.intro
    all_goals first | (simp only [e1,s1,e3,e4,fxa,fxc,fxE,fxL,fxI,nxE,evO,evR,cellsT,ldCells,mkT,lenA,binPV,Env.init,resV,resT,frT,klT,ownT,intT,O.adds,ownA,rowsA,over,wrOk,keysT,keysA,ne_eq,if_true,if_false,ite_self,Nat.reduceLT,Nat.reduceSub,Nat.reduceBEq,Nat.reduceEqDiff,Nat.reduceAdd,Nat.reduceLeDiff,reduceCtorEq,Nat.reduceMul]; done) | (simp [put_at,e1,s1,e3,e4]; done)
  clear e1 s1 e3 e4
  obtain ⟨⟨e1,s1⟩,e3,e4,e5⟩ := hM
  refine x_cutR (fun e σ => NdM x e σ ∧ e 3 = .a (.p (.b (decide (x.k = 8 ∨ x.k = 11 ∨ x.k = 12)))) ∧ e 4 = .a (.p (.b (decide (x.k = 10 ∨ x.k = 12)))) ∧ e 5 = .a (.p (.i .i64 (if x.k = 0 ∨ x.k = 1 then 0 else 60)))) ?_ fun e' σ' hM => ?_
  · by_cases k0 : x.k = 0
    · simp only [e1,s1,e3,e4,e5,k0,fxa,fxc,fxE,fxL,fxI,nxE,evO,evR,cellsT,ldCells,mkT,lenA,binPV,Env.init,resV,resT,frT,klT,ownT,intT,O.adds,ownA,rowsA,over,wrOk,keysT,keysA,ne_eq,if_true,if_false,ite_self,Nat.reduceLT,Nat.reduceSub,Nat.reduceBEq,Nat.reduceEqDiff,Nat.reduceAdd,Nat.reduceLeDiff,reduceCtorEq,Nat.reduceMul]
      unfold NdM
      repeat' apply And.intro
      all_goals first | (simp only [e1,s1,e3,e4,e5,k0,fxa,fxc,fxE,fxL,fxI,nxE,evO,evR,cellsT,ldCells,mkT,lenA,binPV,Env.init,resV,resT,frT,klT,ownT,intT,O.adds,ownA,rowsA,over,wrOk,keysT,keysA,ne_eq,if_true,if_false,ite_self,Nat.reduceLT,Nat.reduceSub,Nat.reduceBEq,Nat.reduceEqDiff,Nat.reduceAdd,Nat.reduceLeDiff,reduceCtorEq,Nat.reduceMul]; done) | (simp [put_at,e1,s1,e3,e4,e5,k0]; done)
    by_cases k1 : x.k = 1
    · simp only [e1,s1,e3,e4,e5,k0,k1,Int.reduceEq,fxa,fxc,fxE,fxL,fxI,nxE,evO,evR,cellsT,ldCells,mkT,lenA,binPV,Env.init,resV,resT,frT,klT,ownT,intT,O.adds,ownA,rowsA,over,wrOk,keysT,keysA,ne_eq,if_true,if_false,ite_self,Nat.reduceLT,Nat.reduceSub,Nat.reduceBEq,Nat.reduceEqDiff,Nat.reduceAdd,Nat.reduceLeDiff,reduceCtorEq,Nat.reduceMul]
      unfold NdM
      repeat' apply And.intro
      all_goals first | (simp only [e1,s1,e3,e4,e5,k0,k1,fxa,fxc,fxE,fxL,fxI,nxE,evO,evR,cellsT,ldCells,mkT,lenA,binPV,Env.init,resV,resT,frT,klT,ownT,intT,O.adds,ownA,rowsA,over,wrOk,keysT,keysA,ne_eq,if_true,if_false,ite_self,Nat.reduceLT,Nat.reduceSub,Nat.reduceBEq,Nat.reduceEqDiff,Nat.reduceAdd,Nat.reduceLeDiff,reduceCtorEq,Nat.reduceMul]; done) | (simp [put_at,e1,s1,e3,e4,e5,k0,k1]; done)
    simp only [e1,s1,e3,e4,e5,k0,k1,fxa,fxc,fxE,fxL,fxI,nxE,evO,evR,cellsT,ldCells,mkT,lenA,binPV,Env.init,resV,resT,frT,klT,ownT,intT,O.adds,ownA,rowsA,over,wrOk,keysT,keysA,ne_eq,if_true,if_false,ite_self,Nat.reduceLT,Nat.reduceSub,Nat.reduceBEq,Nat.reduceEqDiff,Nat.reduceAdd,Nat.reduceLeDiff,reduceCtorEq,Nat.reduceMul]
    unfold NdM
    repeat' apply And.intro
    all_goals first | (simp only [e1,s1,e3,e4,e5,k0,k1,fxa,fxc,fxE,fxL,fxI,nxE,evO,evR,cellsT,ldCells,mkT,lenA,binPV,Env.init,resV,resT,frT,klT,ownT,intT,O.adds,ownA,rowsA,over,wrOk,keysT,keysA,ne_eq,if_true,if_false,ite_self,Nat.reduceLT,Nat.reduceSub,Nat.reduceBEq,Nat.reduceEqDiff,Nat.reduceAdd,Nat.reduceLeDiff,reduceCtorEq,Nat.reduceMul]; done) | (simp [put_at,e1,s1,e3,e4,e5,k0,k1]; done)
  clear e1 s1 e3 e4 e5
  obtain ⟨⟨e1,s1⟩,e3,e4,e5⟩ := hM
  obtain ⟨most,hmost⟩ : ∃ z : Int,(if x.k = 0 ∨ x.k = 1 then 0 else 60) = z := ⟨_,rfl⟩
  rw [hmost] at e5 ⊢
  obtain ⟨b3,hb3⟩ : ∃ b : Bool,decide (x.k = 8 ∨ x.k = 11 ∨ x.k = 12) = b := ⟨_,rfl⟩
  obtain ⟨b4,hb4⟩ : ∃ b : Bool,decide (x.k = 10 ∨ x.k = 12) = b := ⟨_,rfl⟩
  rw [hb3] at e3
  rw [hb4] at e4
  obtain ⟨p,hp⟩ : ∃ p : Prop,(((0 ≤ x.k ∧ x.k ≤ 13) ∧ altsP x) ∧ (0 ≤ x.lv ∧ x.lv ≤ most) ∧ (x.s ≠ [] ↔ (x.k = 8 ∨ x.k = 11 ∨ x.k = 12)) ∧ (x.n = 0 ∨ (x.k = 10 ∨ x.k = 12)) ∧ (x.k ≠ 8 ∨ (1 ≤ (x.to.length : Int) ∧ (x.to.length : Int) ≤ 9))) = p := ⟨_,rfl⟩
  have hp1 := hp
  rw [hp]
  by_cases hA : 0 ≤ x.lv ∧ x.lv ≤ most
  case neg =>
    have c2 := in_no hA
    simp only [e1,s1,e3,e4,e5,c2,fxa,fxc,fxE,fxL,fxI,nxE,evO,evR,cellsT,ldCells,mkT,lenA,binPV,Env.init,resV,resT,frT,klT,ownT,intT,O.adds,ownA,rowsA,over,wrOk,keysT,keysA,ne_eq,if_true,if_false,ite_self,Nat.reduceLT,Nat.reduceSub,Nat.reduceBEq,Nat.reduceEqDiff,Nat.reduceAdd,Nat.reduceLeDiff,reduceCtorEq,Nat.reduceMul]
    rw [← hp1]
    exact fun h => hA h.2.1
  have c2 := in_is hA
  by_cases hB : x.s ≠ [] ↔ (x.k = 8 ∨ x.k = 11 ∨ x.k = 12)
  case neg =>
    have hd : ((!decide (x.s = [])) = b3) = False := by
      rw [← hb3]
      refine propext ⟨fun h => hB ?_,fun h => h.elim⟩
      rw [Bool.eq_iff_iff] at h; simpa using h
    simp only [e1,s1,e3,e4,e5,c2,hd,fxa,fxc,fxE,fxL,fxI,nxE,evO,evR,cellsT,ldCells,mkT,lenA,binPV,Env.init,resV,resT,frT,klT,ownT,intT,O.adds,ownA,rowsA,over,wrOk,keysT,keysA,ne_eq,if_true,if_false,ite_self,Nat.reduceLT,Nat.reduceSub,Nat.reduceBEq,Nat.reduceEqDiff,Nat.reduceAdd,Nat.reduceLeDiff,reduceCtorEq,Nat.reduceMul]
    rw [← hp1]
    exact fun h => hB h.2.2.1
  have hd : ((!decide (x.s = [])) = b3) = True := by
    rw [← hb3]
    refine propext ⟨fun _ => trivial,fun _ => ?_⟩
    rw [Bool.eq_iff_iff]; simpa using hB
  by_cases hn : x.n = 0
  · by_cases h8 : x.k = 8
    · have c3 := in_ok (x.to.length : Int) 1 9
      simp only [e1,s1,e3,e4,e5,c2,hd,hn,h8,c3,fxa,fxc,fxE,fxL,fxI,nxE,evO,evR,cellsT,ldCells,mkT,lenA,binPV,Env.init,resV,resT,frT,klT,ownT,intT,O.adds,ownA,rowsA,over,wrOk,keysT,keysA,ne_eq,if_true,if_false,ite_self,Nat.reduceLT,Nat.reduceSub,Nat.reduceBEq,Nat.reduceEqDiff,Nat.reduceAdd,Nat.reduceLeDiff,reduceCtorEq,Nat.reduceMul]
      rw [← hp1,Bool.and_eq_true,decide_eq_true_eq,decide_eq_true_eq]
      exact ⟨fun h => ⟨⟨hk,ha⟩,hA,hB,.inl hn,.inr h⟩,fun h => by have := h.2.2.2.2; omega⟩
    · simp only [e1,s1,e3,e4,e5,c2,hd,hn,h8,fxa,fxc,fxE,fxL,fxI,nxE,evO,evR,cellsT,ldCells,mkT,lenA,binPV,Env.init,resV,resT,frT,klT,ownT,intT,O.adds,ownA,rowsA,over,wrOk,keysT,keysA,ne_eq,if_true,if_false,ite_self,Nat.reduceLT,Nat.reduceSub,Nat.reduceBEq,Nat.reduceEqDiff,Nat.reduceAdd,Nat.reduceLeDiff,reduceCtorEq,Nat.reduceMul]
      rw [← hp1]
      exact ⟨⟨hk,ha⟩,hA,hB,.inl hn,.inl h8⟩
  · by_cases hN : x.k = 10 ∨ x.k = 12
    · have h8 : ¬ x.k = 8 := by omega
      rw [decide_eq_true hN] at hb4; subst hb4
      simp only [e1,s1,e3,e4,e5,c2,hd,hn,h8,fxa,fxc,fxE,fxL,fxI,nxE,evO,evR,cellsT,ldCells,mkT,lenA,binPV,Env.init,resV,resT,frT,klT,ownT,intT,O.adds,ownA,rowsA,over,wrOk,keysT,keysA,ne_eq,if_true,if_false,ite_self,Nat.reduceLT,Nat.reduceSub,Nat.reduceBEq,Nat.reduceEqDiff,Nat.reduceAdd,Nat.reduceLeDiff,reduceCtorEq,Nat.reduceMul]
      rw [← hp1]
      exact ⟨⟨hk,ha⟩,hA,hB,.inr hN,.inl h8⟩
    · rw [decide_eq_false hN] at hb4; subst hb4
      simp only [e1,s1,e3,e4,e5,c2,hd,hn,fxa,fxc,fxE,fxL,fxI,nxE,evO,evR,cellsT,ldCells,mkT,lenA,binPV,Env.init,resV,resT,frT,klT,ownT,intT,O.adds,ownA,rowsA,over,wrOk,keysT,keysA,ne_eq,if_true,if_false,ite_self,Nat.reduceLT,Nat.reduceSub,Nat.reduceBEq,Nat.reduceEqDiff,Nat.reduceAdd,Nat.reduceLeDiff,reduceCtorEq,Nat.reduceMul]
      rw [← hp1]
      rintro ⟨_,_,_,h,_⟩
      rcases h with h | h
      · exact hn h
      · exact hN h
theorem copied_ok {n : Nt} (hn : n.ns.length * 88 + 88 ≤ 140737488355328) (σ : St) :
    ∃ σ',eS S (.f 97) [.g ((encT n).map .p)] σ = some (.g [.own (10,σ.clk + 3) 0 n.ns.length,.p (.i .i64 n.cap)],σ') ∧
      (σ'.bs (10,σ.clk + 3) = some (.row 6 46 (n.ns.map encN)) ∧ σ'.clk = σ.clk + 4 ∧ σ'.ls = σ.ls ∧ ∀ s : Key,s.2 < σ.clk → σ'.bs s = σ.bs s) := by
  refine x_fnR (fc := F97) rfl rfl ?_
  have hw : IntKind.i64.wrap ((n.ns.length : Int) + 1) = n.ns.length + 1 := wrap_in _ (by omega)
  have hb : (n.ns.length + 1 : Int) * 88 ≤ 140737488355328 := by omega
  have hb2 : n.ns.length * 88 ≤ 140737488355328 := by omega
  have h0 : (0 : Int) ≤ n.ns.length + 1 := by omega
  simp only [F97,hw,hb,hb2,h0,Int.cast_ofNat_Int,Int.le_refl,Int.toNat_zero,Nat.not_lt_zero,Nat.add_assoc,Nat.reduceAdd,fxa,fxc,fxE,fxL,fxI,nxE,evO,evR,cellsT,ldCells,mkT,lenA,binPV,Env.init,resV,resT,frT,klT,ownT,intT,O.adds,ownA,rowsA,over,wrOk,keysT,keysA,ne_eq,if_true,if_false,ite_self,Nat.reduceLT,Nat.reduceSub,Nat.reduceBEq,Nat.reduceEqDiff,Nat.reduceAdd,Nat.reduceLeDiff,reduceCtorEq,Nat.reduceMul]
  intro s hs
  have hne : ∀ d k : Nat,¬ s = (d,σ.clk + k) := by rintro d k rfl; simp at hs; omega
  have hne0 : ∀ d : Nat,¬ s = (d,σ.clk) := by rintro d rfl; simp at hs
  simp only [hne,hne0,if_false]
theorem cloneA_ok (l : List Ar) (hl : l.length * 24 ≤ 140737488355328) : eP S 145 [.a (.l (l.map encA))] = some (.a (.l (l.map encA))) := by
  cases l with
  | nil => exact (eP_some S).2 ⟨1,rfl⟩
  | cons a r =>
    have key : ∀ σ : St,eS S (.f 145) [.a (.p (.l ((a :: r).map encA)))] σ = some (.a (.own (7,σ.clk + 1) 0 (r.length + 1)),((σ.add 5 (.row 2 107 [])).kill (5,σ.clk)).add 7 (.row 2 107 ((a :: r).map encA))) := by
      intro σ
      refine x_fnX (fc := F145) rfl rfl ?_
      have hl' : (r.length + 1) * 24 ≤ 140737488355328 := hl
      have h2 := allA (a :: r)
      simp only [List.map_cons,List.all_cons,encA] at h2
      simp only [F145,nilA,hl',h2,fxa,fxc,fxE,fxL,fxI,nxE,evO,evR,cellsT,ldCells,mkT,lenA,binPV,Env.init,resV,resT,frT,klT,ownT,intT,O.adds,ownA,rowsA,over,wrOk,keysT,keysA,ne_eq,if_true,if_false,ite_self,Nat.reduceLT,Nat.reduceSub,Nat.reduceBEq,Nat.reduceEqDiff,Nat.reduceAdd,Nat.reduceLeDiff,reduceCtorEq,Nat.reduceMul]
    obtain ⟨k,hk⟩ := (eS_some S).1 (key .empty)
    refine (eP_some S).2 ⟨k + 1,?_⟩
    have ho : S.orc 145 [.a (.l ((a :: r).map encA))] = none := rfl
    have hk' : evS S k (.f 145) ([PT.a (.l ((a :: r).map encA))].map ofPT) .empty = _ := hk
    simp only [evP,ho,hk',Option.bind_some]
    simp [frT,frA,St.add,St.put,St.kill,St.empty]
    exact List.take_of_length_le (by simp)
theorem indexN_ok (l : List Nd) (hl : l.length * 88 ≤ 140737488355328) (k : Key) (σ : St) (hk : σ.bs k = some (.row 6 46 (l.map encN))) :
    eS S (.f 146) [.a (.own k 0 l.length),.a (.fn 69 [])] σ = some (.a (.p (.i .i64 (idx (fun x : Nd => decide (x.k = 0)) l))),σ) := by
  refine x_fnX (fc := F146) rfl rfl ?_
  simp only [F146,fxa,fxc,fxE,fxL,fxI,nxE,evO,evR,cellsT,ldCells,mkT,lenA,binPV,Env.init,resV,resT,frT,klT,ownT,intT,O.adds,ownA,rowsA,over,wrOk,keysT,keysA,ne_eq,if_true,if_false,ite_self,Nat.reduceLT,Nat.reduceSub,Nat.reduceBEq,Nat.reduceEqDiff,Nat.reduceAdd,Nat.reduceLeDiff,reduceCtorEq,Nat.reduceMul]
  refine loop_nat l.length (fun i e σ' => σ' = σ ∧ e 0 = .a (.own k 0 l.length) ∧ e 1 = .a (.fn 69 []) ∧ e 7 = .a (.p (.i .i64 l.length)) ∧ e 8 = .a (.p (.i .i64 (i : Nat))) ∧ ∀ j x,j < i → l[j]? = some x → decide (x.k = 0) = false) (i0 := 0) (Nat.zero_le _) ?_ ?_ ?_
  · refine ⟨rfl,?_,?_,?_,?_,fun j x hj => by omega⟩ <;> simp only [fxa,fxc,fxE,fxL,fxI,nxE,evO,evR,cellsT,ldCells,mkT,lenA,binPV,Env.init,resV,resT,frT,klT,ownT,intT,O.adds,ownA,rowsA,over,wrOk,keysT,keysA,ne_eq,if_true,if_false,ite_self,Nat.reduceLT,Nat.reduceSub,Nat.reduceBEq,Nat.reduceEqDiff,Nat.reduceAdd,Nat.reduceLeDiff,reduceCtorEq,Nat.reduceMul]
    rfl
  · rintro i e σ' hi ⟨rfl,e0,e1,e7,e8,hall⟩
    have hlt : ((i : Nat) : Int) < (l.length : Int) := by omega
    have hge : (0 : Int) ≤ ((i : Nat) : Int) := by omega
    obtain ⟨x,hx⟩ : ∃ x,l[i]? = some x := ⟨_,List.getElem?_eq_getElem hi⟩
    have hx' := mapGet encN hx
    have c1 := sfree_ok x
    simp only [encN] at c1
    by_cases hf : x.k = 0
    · rw [hf] at c1
      simp only [F146b0,e0,e1,e7,e8,hk,hlt,hge,hx',c1,hf,rowK,fxa,fxc,fxE,fxL,fxI,nxE,evO,evR,cellsT,ldCells,mkT,lenA,binPV,Env.init,resV,resT,frT,klT,ownT,intT,O.adds,ownA,rowsA,over,wrOk,keysT,keysA,ne_eq,if_true,if_false,ite_self,Nat.reduceLT,Nat.reduceSub,Nat.reduceBEq,Nat.reduceEqDiff,Nat.reduceAdd,Nat.reduceLeDiff,reduceCtorEq,Nat.reduceMul]
      have : l.findIdx? (fun x : Nd => decide (x.k = 0)) = some i := by
        rw [List.findIdx?_eq_some_iff_getElem]
        refine ⟨hi,?_,fun j hj => ?_⟩
        · rw [List.getElem?_eq_getElem hi] at hx; rw [Option.some.inj hx]; simpa using hf
        · rw [hall j _ hj (List.getElem?_eq_getElem (by omega))]; simp
      simp only [idx,this]
    · simp only [F146b0,e0,e1,e7,e8,hk,hlt,hge,hx',c1,hf,rowK,fxa,fxc,fxE,fxL,fxI,nxE,evO,evR,cellsT,ldCells,mkT,lenA,binPV,Env.init,resV,resT,frT,klT,ownT,intT,O.adds,ownA,rowsA,over,wrOk,keysT,keysA,ne_eq,if_true,if_false,ite_self,Nat.reduceLT,Nat.reduceSub,Nat.reduceBEq,Nat.reduceEqDiff,Nat.reduceAdd,Nat.reduceLeDiff,reduceCtorEq,Nat.reduceMul]
      refine ⟨by rw [wrap_succ i (by omega)],fun j y hj hy => ?_⟩
      by_cases e : j = i
      · subst e; rw [hx] at hy; rw [← Option.some.inj hy]; simpa using hf
      · exact hall j y (by omega) hy
  · rintro e σ' ⟨rfl,e0,e1,e7,e8,hall⟩
    have hlt : ¬ ((l.length : Nat) : Int) < (l.length : Int) := by omega
    simp only [F146b0,e0,e1,e7,e8,hlt,fxa,fxc,fxE,fxL,fxI,nxE,evO,evR,cellsT,ldCells,mkT,lenA,binPV,Env.init,resV,resT,frT,klT,ownT,intT,O.adds,ownA,rowsA,over,wrOk,keysT,keysA,ne_eq,if_true,if_false,ite_self,Nat.reduceLT,Nat.reduceSub,Nat.reduceBEq,Nat.reduceEqDiff,Nat.reduceAdd,Nat.reduceLeDiff,reduceCtorEq,Nat.reduceMul]
    have : l.findIdx? (fun x : Nd => decide (x.k = 0)) = none := by
      rw [List.findIdx?_eq_none_iff]
      intro x hx
      obtain ⟨j,hj⟩ := List.getElem?_of_mem hx
      exact hall j x (List.getElem?_eq_some_iff.1 hj).1 hj
    simp only [idx,this]
end Go.Proofs.YtmlhgalboabjcaaGreat
end
section
set_option linter.unusedSimpArgs false
set_option linter.unusedVariables false
set_option maxHeartbeats 4000000
set_option maxRecDepth 10000
namespace Go.Proofs.YtmlhgalboabjcaaGreat
open Go.Fx
def isFree (x : Nd) : Bool := decide (x.k = 0)
def Nt.at (n : Nt) : Nat := match n.ns.findIdx? isFree with | some i => i | none => n.ns.length
def Nd.fresh (x : Nd) : Nd := { x with to := List.replicate x.ports.toNat zP }
def Nt.make (n : Nt) (x : Nd) : Nt := { n with ns := match n.ns.findIdx? isFree with | some i => n.ns.set i x.fresh | none => n.ns ++ [x.fresh] }
noncomputable def makeR (n : Nt) (x : Nd) : Nt × Int × Int :=
  if (x.k = 0 ∨ x.k = 1) ∨ bool x.may = false then (n,0,122) else if n.used ≥ n.cap then (n,0,121) else (n.make x,n.at,0)
def encTIE (x : Nt × Int × Int) : PT := .t [(true,encT x.1),(false,[.i .i64 x.2.1]),(false,[.i .i64 x.2.2])]
theorem ports_b {x : Nd} (hx : x.Ok) : 0 ≤ x.ports ∧ x.ports * 16 ≤ 140737488355328 := by
  have h1 := hx.to
  have h2 := hx.al
  unfold Nd.ports
  repeat' split
  all_goals omega
theorem sMake_ok {n : Nt} {x : Nd} (hn : n.Ok) (hbig : n.ns.length * 88 + 88 ≤ 140737488355328) (hx : x.Ok) : eP S 110 [.g (encT n),.g (encN x)] = some (encTIE (makeR n x)) := by
  have c1 := sNode_ok hx
  have c2 := sUsed_ok hn
  have c3 := sPorts_ok hx
  have c4 := cloneA_ok x.al hx.al
  have hp := ports_b hx
  refine x_fn (orcS (by decide)) (fc := F110) rfl rfl ?_
  unfold makeR
  by_cases k0 : x.k = 0
  · simp only [F110,k0,encTIE,true_or,fxa,fxc,fxE,fxL,fxI,nxE,evO,evR,cellsT,ldCells,mkT,lenA,binPV,Env.init,resV,resT,frT,klT,ownT,intT,O.adds,ownA,rowsA,over,wrOk,keysT,keysA,ne_eq,if_true,if_false,ite_self,Nat.reduceLT,Nat.reduceSub,Nat.reduceBEq,Nat.reduceEqDiff,Nat.reduceAdd,Nat.reduceLeDiff,reduceCtorEq,Nat.reduceMul]
  by_cases k1 : x.k = 1
  · simp only [F110,k0,k1,Int.reduceEq,encTIE,true_or,or_true,fxa,fxc,fxE,fxL,fxI,nxE,evO,evR,cellsT,ldCells,mkT,lenA,binPV,Env.init,resV,resT,frT,klT,ownT,intT,O.adds,ownA,rowsA,over,wrOk,keysT,keysA,ne_eq,if_true,if_false,ite_self,Nat.reduceLT,Nat.reduceSub,Nat.reduceBEq,Nat.reduceEqDiff,Nat.reduceAdd,Nat.reduceLeDiff,reduceCtorEq,Nat.reduceMul]
  by_cases hm : x.may
  case neg =>
    rw [bool_f hm] at c1 ⊢
    simp only [encN] at c1
    simp only [F110,k0,k1,c1,encTIE,or_true,fxa,fxc,fxE,fxL,fxI,nxE,evO,evR,cellsT,ldCells,mkT,lenA,binPV,Env.init,resV,resT,frT,klT,ownT,intT,O.adds,ownA,rowsA,over,wrOk,keysT,keysA,ne_eq,if_true,if_false,ite_self,Nat.reduceLT,Nat.reduceSub,Nat.reduceBEq,Nat.reduceEqDiff,Nat.reduceAdd,Nat.reduceLeDiff,reduceCtorEq,Nat.reduceMul]
  rw [bool_t hm] at c1 ⊢
  by_cases hu : n.used ≥ n.cap
  · simp only [encN,encT] at c1 c2
    simp only [F110,k0,k1,c1,c2,hu,encTIE,or_self,Bool.true_eq_false,fxa,fxc,fxE,fxL,fxI,nxE,evO,evR,cellsT,ldCells,mkT,lenA,binPV,Env.init,resV,resT,frT,klT,ownT,intT,O.adds,ownA,rowsA,over,wrOk,keysT,keysA,ne_eq,if_true,if_false,ite_self,Nat.reduceLT,Nat.reduceSub,Nat.reduceBEq,Nat.reduceEqDiff,Nat.reduceAdd,Nat.reduceLeDiff,reduceCtorEq,Nat.reduceMul]
  obtain ⟨σ1,hcall,s10,hclk,hls,hold⟩ := copied_ok hbig (((St.empty.add 2 (.var ((encT n).map .p))).add 3 (.var ((encN x).map .p))).add 4 (.var [.nil,.p (.i .i64 0)]))
  have h2 := hold (2,0) (by simp [add_clk,empty_clk])
  have h3 := hold (3,1) (by simp [add_clk,empty_clk])
  have h4 := hold (4,2) (by simp [add_clk,empty_clk])
  simp only [encT,encN,List.map_cons,List.map_nil,add_clk,empty_clk,add_bs,empty_bs,Nat.zero_add,Nat.reduceAdd,if_true,if_false,Prod.mk.injEq,Nat.reduceEqDiff,false_and,and_false,and_self,Nat.succ_ne_self] at hcall s10 hclk h2 h3 h4
  simp only [encN,encT] at c1 c2 c3
  have hidx := indexN_ok n.ns hn.ns
  cases hf : n.ns.findIdx? isFree with
  | some i =>
    have hi : idx (fun x : Nd => decide (x.k = 0)) n.ns = (i : Int) := by
      have : n.ns.findIdx? (fun x : Nd => decide (x.k = 0)) = some i := hf
      simp only [idx,this]
    rw [hi] at hidx
    have hil : i < n.ns.length := by
      have := List.findIdx?_eq_some_iff_getElem.1 hf
      exact this.1
    obtain ⟨y,hy⟩ : ∃ y,n.ns[i]? = some y := ⟨_,List.getElem?_eq_getElem hil⟩
    have hy' := mapGet encN hy
    have hlt : ((i : Nat) : Int) < (n.ns.length : Int) := by omega
    have hneg : ¬ ((i : Nat) : Int) < 0 := by omega
    have hge : (0 : Int) ≤ ((i : Nat) : Int) := by omega
    simp only [F110,k0,k1,c1,c2,c3,c4,hu,hcall,s10,hclk,h2,h3,h4,hp.1,hp.2,hidx,hlt,hneg,hge,hy',rowK,Int.cast_ofNat_Int,encTIE,or_self,Bool.true_eq_false,Int.le_refl,fxa,fxc,fxE,fxL,fxI,nxE,evO,evR,cellsT,ldCells,mkT,lenA,binPV,Env.init,resV,resT,frT,klT,ownT,intT,O.adds,ownA,rowsA,over,wrOk,keysT,keysA,ne_eq,if_true,if_false,ite_self,Nat.reduceLT,Nat.reduceSub,Nat.reduceBEq,Nat.reduceEqDiff,Nat.reduceAdd,Nat.reduceLeDiff,reduceCtorEq,Nat.reduceMul]
    have hset : (n.ns.map encN).set i [.i .i64 x.k,.i .i64 x.lv,.i .i64 x.n,.s x.s,.l (x.al.map encA),.l (List.replicate x.ports.toNat [.i .i64 0,.i .i64 0])] = (n.ns.set i x.fresh).map encN := by
      rw [List.map_set]; simp [encN,Nd.fresh,zP,encP]
    rw [hset]
    have hlen : n.ns.length ≤ (n.ns.set i x.fresh).length := by simp
    have htk : List.take n.ns.length ((n.ns.set i x.fresh).map encN) = (n.ns.set i x.fresh).map encN := List.take_of_length_le (by simp)
    simp only [hlen,htk,Nt.make,Nt.at,hf,fxa,fxc,fxE,fxL,fxI,nxE,evO,evR,cellsT,ldCells,mkT,lenA,binPV,Env.init,resV,resT,frT,klT,ownT,intT,O.adds,ownA,rowsA,over,wrOk,keysT,keysA,ne_eq,if_true,if_false,ite_self,Nat.reduceLT,Nat.reduceSub,Nat.reduceBEq,Nat.reduceEqDiff,Nat.reduceAdd,Nat.reduceLeDiff,reduceCtorEq,Nat.reduceMul]
  | none =>
    have hi : idx (fun x : Nd => decide (x.k = 0)) n.ns = -1 := by
      have : n.ns.findIdx? (fun x : Nd => decide (x.k = 0)) = none := hf
      simp only [idx,this]
    rw [hi] at hidx
    have htk0 : List.take n.ns.length (n.ns.map encN) = n.ns.map encN := List.take_of_length_le (by simp)
    have hat : ∀ r : List PV,(n.ns.map encN ++ [r])[n.ns.length]? = some r := by intro r; rw [List.getElem?_append_right (by simp)]; simp
    have hset : ∀ r r' : List PV,(n.ns.map encN ++ [r]).set n.ns.length r' = n.ns.map encN ++ [r'] := by intro r r'; rw [List.set_append_right _ _ (by simp)]; simp
    have hb1 : (n.ns.length + 1) * 88 ≤ 140737488355328 := by omega
    have hlt : ((n.ns.length : Nat) : Int) < ((n.ns.length + 1 : Nat) : Int) := by omega
    have hge : (0 : Int) ≤ ((n.ns.length : Nat) : Int) := by omega
    simp only [F110,k0,k1,c1,c2,c3,c4,hu,hcall,s10,hclk,h2,h3,h4,hp.1,hp.2,hidx,Int.reduceNeg,Int.reduceLT,hb1,hlt,hge,htk0,hat,hset,rowK,encTIE,or_self,Bool.true_eq_false,Int.le_refl,Int.cast_ofNat_Int,fxa,fxc,fxE,fxL,fxI,nxE,evO,evR,cellsT,ldCells,mkT,lenA,binPV,Env.init,resV,resT,frT,klT,ownT,intT,O.adds,ownA,rowsA,over,wrOk,keysT,keysA,ne_eq,if_true,if_false,ite_self,Nat.reduceLT,Nat.reduceSub,Nat.reduceBEq,Nat.reduceEqDiff,Nat.reduceAdd,Nat.reduceLeDiff,reduceCtorEq,Nat.reduceMul]
    have hmk : n.ns.map encN ++ [[.i .i64 x.k,.i .i64 x.lv,.i .i64 x.n,.s x.s,.l (x.al.map encA),.l (List.replicate x.ports.toNat [.i .i64 0,.i .i64 0])]] = (n.ns ++ [x.fresh]).map encN := by
      simp [encN,Nd.fresh,zP,encP]
    rw [hmk]
    have hlen : n.ns.length + 1 ≤ (n.ns ++ [x.fresh]).length := by simp
    have htk : List.take (n.ns.length + 1) ((n.ns ++ [x.fresh]).map encN) = (n.ns ++ [x.fresh]).map encN := List.take_of_length_le (by simp)
    have hmake : (n.make x).ns = n.ns ++ [x.fresh] ∧ (n.make x).cap = n.cap ∧ n.at = n.ns.length := by simp only [Nt.make,Nt.at,hf,and_self]
    rw [hmake.1,hmake.2.1,hmake.2.2]
    simp only [List.length_map,hlen,htk,fxa,fxc,fxE,fxL,fxI,nxE,evO,evR,cellsT,ldCells,mkT,lenA,binPV,Env.init,resV,resT,frT,klT,ownT,intT,O.adds,ownA,rowsA,over,wrOk,keysT,keysA,ne_eq,if_true,if_false,ite_self,Nat.reduceLT,Nat.reduceSub,Nat.reduceBEq,Nat.reduceEqDiff,Nat.reduceAdd,Nat.reduceLeDiff,reduceCtorEq,Nat.reduceMul]
end Go.Proofs.YtmlhgalboabjcaaGreat
end
