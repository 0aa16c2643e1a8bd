/- The functions of the seat, turned into instructions: each is what the compiler text makes of the given program, by the kernel. -/
import Derived.Test.YtkpfjolcmkikeaaProg
import Derived.Test.YtkpfjolcmkikeaaFb
namespace Go.Proofs.Ytkpfjolcmkikeaa
open Go.Fx


/- (*gossamer/act.stage).move -/
def F107 : FnC := ⟨3, (.seq (.reg [
  ia 4 (.box 2 (.t 1)),
ia 5 (.box 2 (.t 2))]) (.reg [
  ir 7 (.mv (.t 0)),
ir 8 (.mv (.t 0)),
ir 9 (.nck (.t 8)),
ir 10 (.fad 0 (.t 9)),
ir 11 (.ld 2 true (.t 10)),
ir 12 (.ld 2 true (.t 4)),
ir 13 (.ld 2 true (.t 5)),
ir 14 (.call (.f 138) [(.t 11), (.t 12), (.t 13)]),
ir 6 (.mv (.t 14)),
ir 15 (.ext (.t 6) 0),
ir 16 (.ext (.t 6) 1),
ir 17 (.nck (.t 7)),
ir 18 (.fad 0 (.t 17)),
⟨.none, .none, (.st 2 (.t 18) (.t 15)), (.wr [])⟩])), []⟩
theorem cc107 : ccF Try.prog [(43, [0, 0]), (79, [1, 0]), (60, [0, 0]), (140, [0, 0]), (43, [9])] Try.f107 = some (stripF F107) := by kernel_rfl

/- (*gossamer/act.stage).made -/
def F108 : FnC := ⟨2, (.seq (.reg [
  ia 3 (.box 6 (.t 1)),
ia 4 (.mv (ci 0))]) (.seq (.reg [
  ia 5 (.mv (ci 0))]) (.seq (.reg [
  ir 7 (.mv (.t 0)),
ir 8 (.mv (.t 0)),
ir 9 (.nck (.t 8)),
ir 10 (.fad 0 (.t 9)),
ir 11 (.ld 2 true (.t 10)),
ir 12 (.ld 6 true (.t 3)),
ir 13 (.call (.f 139) [(.t 11), (.t 12)]),
ir 6 (.mv (.t 13)),
ir 14 (.ext (.t 6) 0),
ir 15 (.ext (.t 6) 1),
ir 16 (.ext (.t 6) 2),
ir 17 (.nck (.t 7)),
ir 18 (.fad 0 (.t 17)),
⟨.none, .none, (.st 2 (.t 18) (.t 14)), (.wr [])⟩,
ir 5 (.mv (.t 15))]) (.seq (.reg [
  ia 19 (.mv (.t 5)),
ia 4 (.mv (.t 19))]) .ret)))), [(.tmp 4)]⟩
theorem cc108 : ccF Try.prog [(43, [0, 0]), (79, [1, 0]), (60, [0, 0]), (140, [0, 0]), (43, [9])] Try.f108 = some (stripF F108) := by kernel_rfl

/- (*gossamer/act.stage).fail -/
def F109 : FnC := ⟨1, (.seq (.reg [
  ia 4 (.mv (.t 0)),
ia 5 (.mv (.t 0)),
ia 6 (.call (.f 136) [(.t 5)]),
ia 7 (.build [(.p (.i .i64 0)), (.p (.i .i64 0)), (.p (.i .i64 0)), (.p (.s [])), .nil, .nil] [(0, (1, (ci 13))), (1, (1, (.t 6)))]),
ia 8 (.call (.f 108) [(.t 4), (.t 7)]),
ia 2 (.mv (.t 8))]) (.seq (.reg [
  ir 9 (.mv (.t 0)),
ir 10 (.mv (.t 0)),
ir 11 (.mv (.t 0)),
ir 12 (.nck (.t 11)),
ir 13 (.fad 12 (.t 12)),
ir 14 (.ld 1 false (.t 13)),
ir 15 (.call (.f 112) [(.t 10), (.t 14), (ci 2)]),
ir 16 (.mv (.t 0)),
ir 17 (.mv (.t 0)),
ir 18 (.nck (.t 17)),
ir 19 (.fad 13 (.t 18)),
ir 20 (.ld 1 false (.t 19)),
ir 21 (.call (.f 112) [(.t 16), (.t 20), (ci 1)]),
ir 22 (.app 2 43 16 (.t 15) (.t 21)),
ia 23 (.call (.f 111) [(.t 9), (.t 22)]),
ia 3 (.mv (.t 23))]) (.seq (.reg [
  ia 24 (.mv (.t 0)),
ia 25 (.mv (.t 0)),
ia 26 (.nck (.t 25)),
ia 27 (.fad 12 (.t 26)),
ia 28 (.ld 1 false (.t 27)),
ia 29 (.call (.f 95) [(.t 28), (ci 1)]),
ia 30 (.mv (.t 2)),
ia 31 (.call (.f 95) [(.t 30), (ci 0)]),
ia 32 (.call (.f 107) [(.t 24), (.t 29), (.t 31)])]) (.reg [
  ia 33 (.mv (.t 3)),
ia 34 (.call (.t 33) [])])))), []⟩
theorem cc109 : ccF Try.prog [(43, [0, 0]), (79, [1, 0]), (60, [0, 0]), (140, [0, 0]), (43, [9])] Try.f109 = some (stripF F109) := by kernel_rfl

/- (*gossamer/act.stage).pass -/
def F110b0 : C := (.seq (.reg [
  ia 47 (.bin .lss (.t 46) (.t 45))]) (.seq (.cond (.t 47) .skip (.exit 0)) (.seq (.block 1 (.seq (.reg [
  ia 48 (.mv (.t 46)),
ia 49 (.ias 1 (.t 44) (.t 46)),
ia 50 (.ld 1 false (.t 49)),
ia 6 (.mv (.t 48)),
ia 7 (.mv (.t 50))]) (.reg [
  ia 51 (.mv (.t 0)),
ia 52 (.mv (.t 0)),
ia 53 (.nck (.t 52)),
ia 54 (.fad 12 (.t 53)),
ia 55 (.ld 1 false (.t 54)),
ia 56 (.mv (.t 6)),
ia 57 (.bin .add (.t 56) (ci 1)),
ia 58 (.call (.f 95) [(.t 55), (.t 57)]),
ia 59 (.mv (.t 7)),
ia 60 (.call (.f 95) [(.t 59), (ci 0)]),
ia 61 (.call (.f 107) [(.t 51), (.t 58), (.t 60)])]))) (.reg [
  ia 62 (.bin .add (.t 46) (ci 1)),
ia 46 (.mv (.t 62))]))))
def F110b2 : C := (.seq (.reg [
  ia 84 (.bin .lss (.t 83) (.t 82))]) (.seq (.cond (.t 84) .skip (.exit 4)) (.seq (.block 5 (.seq (.reg [
  ia 85 (.mv (.t 83)),
ia 86 (.ias 1 (.t 81) (.t 83)),
ia 87 (.ld 1 false (.t 86)),
ia 10 (.mv (.t 85)),
ia 11 (.mv (.t 87))]) (.reg [
  ia 88 (.mv (.t 0)),
ia 89 (.mv (.t 9)),
ia 90 (.mv (.t 10)),
ia 91 (.bin .add (.t 90) (ci 1)),
ia 92 (.call (.f 95) [(.t 89), (.t 91)]),
ia 93 (.mv (.t 11)),
ia 94 (.mv (.t 8)),
ia 95 (.bin .add (.t 94) (ci 1)),
ia 96 (.call (.f 95) [(.t 93), (.t 95)]),
ia 97 (.call (.f 137) [(.t 88), (.t 92), (.t 96)])]))) (.reg [
  ia 98 (.bin .add (.t 83) (ci 1)),
ia 83 (.mv (.t 98))]))))
def F110b1 : C := (.seq (.reg [
  ia 66 (.bin .lss (.t 65) (.t 64))]) (.seq (.cond (.t 66) .skip (.exit 2)) (.seq (.block 3 (.seq (.reg [
  ia 67 (.mv (.t 65)),
ia 68 (.ias 1 (.t 63) (.t 65)),
ia 69 (.ld 1 false (.t 68)),
ia 8 (.mv (.t 67)),
ia 9 (.mv (.t 69))]) (.seq (.reg [
  ia 70 (.mv (.t 0)),
ia 71 (.mv (.t 0)),
ia 72 (.nck (.t 71)),
ia 73 (.fad 13 (.t 72)),
ia 74 (.ld 1 false (.t 73)),
ia 75 (.mv (.t 8)),
ia 76 (.bin .add (.t 75) (ci 1)),
ia 77 (.call (.f 95) [(.t 74), (.t 76)]),
ia 78 (.mv (.t 9)),
ia 79 (.call (.f 95) [(.t 78), (ci 0)]),
ia 80 (.call (.f 107) [(.t 70), (.t 77), (.t 79)])]) (.seq (.reg [
  ia 81 (.mv (.t 4)),
ia 82 (.len false (.t 81)),
ia 83 (.mv (ci 0))]) (.block 4 (.loop F110b2)))))) (.reg [
  ia 99 (.bin .add (.t 65) (ci 1)),
ia 65 (.mv (.t 99))]))))
def F110 : FnC := ⟨1, (.seq (.reg [
  ir 12 (.mv (.t 0)),
ir 13 (.mv (.t 0)),
ir 14 (.nck (.t 13)),
ir 15 (.fad 12 (.t 14)),
ir 16 (.ld 1 false (.t 15)),
ir 17 (.call (.f 134) [(.t 12), (.t 16)]),
ir 18 (.mv (.t 0)),
ir 19 (.mv (.t 0)),
ir 20 (.nck (.t 19)),
ir 21 (.fad 13 (.t 20)),
ir 22 (.ld 1 false (.t 21)),
ir 23 (.call (.f 134) [(.t 18), (.t 22)]),
⟨(.some 2), .none, (.new [(.p (.i .i64 0)), (.p (.i .i64 0)), (.p (.i .i64 0)), (.p (.s [])), .nil, .nil]), .ad⟩,
⟨(.some 3), .none, (.new [(.p (.i .i64 0)), (.p (.i .i64 0)), (.p (.i .i64 0)), (.p (.s [])), .nil, .nil]), .ad⟩,
io (.st 6 (.t 2) (.t 17)),
io (.st 6 (.t 3) (.t 23))]) (.seq (.reg [
  ia 24 (.mv (.t 0)),
ia 25 (.nck (.t 24)),
ia 26 (.fad 2 (.t 25)),
ia 27 (.fad 2 (.t 26)),
ia 28 (.ld 1 false (.t 27)),
ia 29 (.fad 1 (.t 3)),
io (.st 1 (.t 29) (.t 28))]) (.seq (.reg [
  ia 30 (.mv (.t 0)),
ia 31 (.ld 6 true (.t 3)),
ia 32 (.fad 5 (.t 2)),
ia 33 (.ld 1 false (.t 32)),
ia 34 (.len false (.t 33)),
ia 35 (.bin .sub (.t 34) (ci 1)),
ia 36 (.call (.f 135) [(.t 30), (.t 31), (.t 35)]),
ia 4 (.mv (.t 36))]) (.seq (.reg [
  ia 37 (.mv (.t 0)),
ia 38 (.ld 6 true (.t 2)),
ia 39 (.fad 5 (.t 3)),
ia 40 (.ld 1 false (.t 39)),
ia 41 (.len false (.t 40)),
ia 42 (.bin .sub (.t 41) (ci 1)),
ia 43 (.call (.f 135) [(.t 37), (.t 38), (.t 42)]),
ia 5 (.mv (.t 43))]) (.seq (.seq (.reg [
  ia 44 (.mv (.t 4)),
ia 45 (.len false (.t 44)),
ia 46 (.mv (ci 0))]) (.block 0 (.loop F110b0))) (.seq (.reg [
  ia 63 (.mv (.t 5)),
ia 64 (.len false (.t 63)),
ia 65 (.mv (ci 0))]) (.block 2 (.loop F110b1)))))))), []⟩
theorem cc110 : ccF Try.prog [(43, [0, 0]), (79, [1, 0]), (60, [0, 0]), (140, [0, 0]), (43, [9])] Try.f110 = some (stripF F110) := by kernel_rfl

/- (*gossamer/act.stage).drop -/
def F111 : FnC := ⟨2, (.seq (.reg [
  ia 2 (.box 1 (.t 0)),
ia 3 (.box 1 (.t 1)),
ia 4 (.mv (.c (.a (.raw .nilFunc))))]) (.seq (.reg [
  ir 6 (.ld 1 false (.t 2)),
ir 7 (.ld 1 false (.t 2)),
ir 8 (.call (.f 136) [(.t 7)]),
ir 9 (.build [(.p (.i .i64 0)), (.p (.i .i64 0)), (.p (.i .i64 0)), (.p (.s [])), .nil, .nil] [(0, (1, (ci 7))), (1, (1, (.t 8)))]),
ir 10 (.ld 1 false (.t 3)),
ir 11 (.len false (.t 10)),
ir 12 (.call (.f 135) [(.t 6), (.t 9), (.t 11)]),
⟨(.some 5), .none, (.new [.nil]), .ad⟩,
io (.st 1 (.t 5) (.t 12))]) (.seq (.reg [
  ia 13 (.fn 140 [(.t 3), (.t 2), (.t 5)]),
ia 4 (.mv (.t 13))]) .ret))), [(.tmp 4)]⟩
theorem cc111 : ccF Try.prog [(43, [0, 0]), (79, [1, 0]), (60, [0, 0]), (140, [0, 0]), (43, [9])] Try.f111 = some (stripF F111) := by kernel_rfl

/- (*gossamer/act.stage).others -/
def F112b0 : C := (.seq (.seq (.reg [
  ia 10 (.mv (.t 8)),
ia 11 (.mv (.t 0)),
ia 12 (.mv (.t 1)),
ia 13 (.call (.f 134) [(.t 11), (.t 12)]),
ia 14 (.fld 5 1 false (.t 13)),
ia 15 (.len false (.t 14)),
ia 16 (.bin .lss (.t 10) (.t 15))]) (.cond (.t 16) .skip (.exit 0))) (.seq (.block 1 (.reg [
  ia 19 (.mv (.t 7)),
ia 20 (.mv (.t 1)),
ia 21 (.mv (.t 8)),
ia 22 (.call (.f 95) [(.t 20), (.t 21)]),
ia 23 (.bsl 2 43 [(.p (.i .i64 0)), (.p (.i .i64 0))] 1 [(0, (.t 22))]),
ia 24 (.app 2 43 16 (.t 19) (.t 23)),
ia 7 (.mv (.t 24))])) (.reg [
  ia 17 (.mv (.t 8)),
ia 18 (.bin .add (.t 17) (ci 1)),
ia 8 (.mv (.t 18))])))
def F112 : FnC := ⟨3, (.seq (.reg [
  ia 6 (.mv (.c (.a .nil)))]) (.seq (.reg [
  ia 7 (.mv (.c (.a .nil)))]) (.seq (.seq (.reg [
  ia 9 (.mv (.t 2)),
ia 8 (.mv (.t 9))]) (.block 0 (.loop F112b0))) (.seq (.reg [
  ia 25 (.mv (.t 7)),
ia 6 (.mv (.t 25))]) .ret)))), [(.tmp 6)]⟩
theorem cc112 : ccF Try.prog [(43, [0, 0]), (79, [1, 0]), (60, [0, 0]), (140, [0, 0]), (43, [9])] Try.f112 = some (stripF F112) := by kernel_rfl

/- gossamer/store.alternatives -/
def F113b0 : C := (.seq (.reg [
  ia 17 (.bin .lss (.t 16) (.t 15))]) (.seq (.cond (.t 17) .skip (.exit 0)) (.seq (.block 1 (.seq (.reg [
  ia 18 (.mv (.t 16)),
ia 19 (.ias 2 (.t 14) (.t 16)),
ia 20 (.ld 2 true (.t 19)),
ia 4 (.new [(.p (.s [])), (.p (.i .i64 0))]),
ia 3 (.mv (.t 18)),
io (.st 2 (.t 4) (.t 20))]) (.seq (.reg [
  ia 21 (.fn 141 [(.t 4)]),
ia 5 (.mv (.t 21))]) (.seq (.reg [
  ia 22 (.fad 0 (.t 4)),
ia 23 (.ld 1 false (.t 22)),
ia 24 (.bin .eql (.t 23) (.c (.a (.p (.s []))))),
ia 25 (.mv (.t 24)),
ig 26 25 false (.fad 1 (.t 4)),
ig 27 25 false (.ld 1 false (.t 26)),
ig 28 25 false (.call (.f 74) [(.t 27), (ci 0), (ci 8)]),
ig 29 25 false (.not (.t 28)),
ia 30 (.pick (.t 25) (.c (.a (.p (.b true)))) (.t 29)),
ia 31 (.mv (.t 30)),
ig 32 31 false (.fad 4 (.t 1)),
ig 33 31 false (.ld 1 false (.t 32)),
ig 34 31 false (.mv (.t 3)),
ig 35 31 false (.slc 2 79 (.t 33) .none (.some (.t 34)) .none),
ig 36 31 false (.mv (.t 5)),
ig 37 31 false (.call (.f 142) [(.t 35), (.t 36)]),
ia 38 (.pick (.t 31) (.c (.a (.p (.b true)))) (.t 37))]) (.cond (.t 38) (.seq (.reg [
  ia 2 (.mv (.c (.a (.p (.b false)))))]) .ret) .skip))))) (.reg [
  ia 39 (.bin .add (.t 16) (ci 1)),
ia 16 (.mv (.t 39))]))))
def F113 : FnC := ⟨1, (.seq (.reg [
  ia 1 (.box 6 (.t 0)),
ia 2 (.mv (.c (.a (.p (.b false)))))]) (.seq (.seq (.reg [
  ia 6 (.fad 0 (.t 1)),
ia 7 (.ld 1 false (.t 6)),
ia 8 (.bin .neq (.t 7) (ci 9))]) (.cond (.t 8) (.seq (.reg [
  ia 9 (.fad 4 (.t 1)),
ia 10 (.ld 1 false (.t 9)),
ia 11 (.len false (.t 10)),
ia 12 (.bin .eql (.t 11) (ci 0)),
ia 2 (.mv (.t 12))]) .ret) .skip)) (.seq (.seq (.reg [
  ia 13 (.fad 4 (.t 1)),
ia 14 (.ld 1 false (.t 13)),
ia 15 (.len false (.t 14)),
ia 16 (.mv (ci 0))]) (.block 0 (.loop F113b0))) (.seq (.reg [
  ia 40 (.fad 4 (.t 1)),
ia 41 (.ld 1 false (.t 40)),
ia 42 (.len false (.t 41)),
ia 43 (.call (.f 74) [(.t 42), (ci 1), (ci 8)]),
ia 2 (.mv (.t 43))]) .ret)))), [(.tmp 2)]⟩
theorem cc113 : ccF Try.prog [(43, [0, 0]), (79, [1, 0]), (60, [0, 0]), (140, [0, 0]), (43, [9])] Try.f113 = some (stripF F113) := by kernel_rfl

/- gossamer/store.fixed -/
def F114 : FnC := ⟨0, (.seq (.reg [
  ia 0 (.new [(.p (.i .i64 0)), (.p (.i .i64 0)), (.p (.i .i64 0)), (.p (.i .i64 0)), (.p (.i .i64 0)), (.p (.i .i64 0)), (.p (.i .i64 0)), (.p (.i .i64 0)), (.p (.i .i64 0)), (.p (.i .i64 0)), (.p (.i .i64 0)), (.p (.i .i64 0)), (.p (.i .i64 0)), (.p (.i .i64 0))])]) (.seq (.reg [
  ia 1 (.build [(.p (.i .i64 0)), (.p (.i .i64 0)), (.p (.i .i64 0)), (.p (.i .i64 0)), (.p (.i .i64 0)), (.p (.i .i64 0)), (.p (.i .i64 0)), (.p (.i .i64 0)), (.p (.i .i64 0)), (.p (.i .i64 0)), (.p (.i .i64 0)), (.p (.i .i64 0)), (.p (.i .i64 0)), (.p (.i .i64 0))] [(1, (1, (ci 1))), (2, (1, (ci 3))), (3, (1, (ci 3))), (4, (1, (ci 3))), (5, (1, (ci 2))), (6, (1, (ci 2))), (7, (1, (ci 1))), (10, (1, (ci 1))), (11, (1, (ci 3))), (12, (1, (ci 2))), (13, (1, (ci 1)))]),
io (.st 14 (.t 0) (.t 1))]) .ret)), [(.cell 0 14 true)]⟩
theorem cc114 : ccF Try.prog [(43, [0, 0]), (79, [1, 0]), (60, [0, 0]), (140, [0, 0]), (43, [9])] Try.f114 = some (stripF F114) := by kernel_rfl

/- (*gossamer/sweep.marker).mark -/
def F115 : FnC := ⟨2, (.seq (.seq (.reg [
  ia 4 (.mv (.t 0)),
ia 5 (.nck (.t 4)),
ia 6 (.fad 1 (.t 5)),
ia 7 (.ld 1 false (.t 6)),
ia 8 (.mv (.t 1)),
ia 9 (.ias 1 (.t 7) (.t 8)),
ia 10 (.ld 1 false (.t 9))]) (.cond (.t 10) .ret .skip)) (.seq (.reg [
  ia 11 (.mv (.t 0)),
ia 12 (.nck (.t 11)),
ia 13 (.fad 1 (.t 12)),
ia 14 (.ld 1 false (.t 13)),
ia 15 (.mv (.t 1)),
ia 16 (.ias 1 (.t 14) (.t 15)),
io (.st 1 (.t 16) (.c (.a (.p (.b true)))))]) (.reg [
  ia 17 (.mv (.t 0)),
ia 18 (.mv (.t 0)),
ia 19 (.nck (.t 18)),
ia 20 (.fad 2 (.t 19)),
ia 21 (.ld 1 false (.t 20)),
ia 22 (.mv (.t 1)),
ia 23 (.bsl 1 3 [(.p (.i .i64 0))] 1 [(0, (.t 22))]),
ia 24 (.app 1 3 8 (.t 21) (.t 23)),
ia 25 (.nck (.t 17)),
ia 26 (.fad 2 (.t 25)),
io (.st 1 (.t 26) (.t 24))]))), []⟩
theorem cc115 : ccF Try.prog [(43, [0, 0]), (79, [1, 0]), (60, [0, 0]), (140, [0, 0]), (43, [9])] Try.f115 = some (stripF F115) := by kernel_rfl

/- gossamer/gossamerref06.con -/
def F116 : FnC := ⟨1, (.seq (.reg [
  ia 2 (.mv (.c (.a (.p (.b false)))))]) (.seq (.seq (.reg [
  ia 5 (.mv (.t 0)),
ia 6 (.bin .eql (.t 5) (.c (.a (.p (.s [])))))]) (.cond (.t 6) (.seq (.reg [
  ia 2 (.mv (.c (.a (.p (.b false)))))]) .ret) .skip)) (.seq (.reg [
  ia 8 (.mv (.t 0)),
ia 9 (.call (.f 143) [(.t 8), (ci 0)]),
ia 7 (.mv (.t 9)),
ia 10 (.ext (.t 7) 0),
ia 11 (.ext (.t 7) 1),
ia 3 (.new [(.p (.i .i64 0)), (.p (.s [])), (.p (.i .i64 0)), (.p (.i .i64 0))]),
io (.st 4 (.t 3) (.t 10)),
ia 4 (.mv (.t 11))]) (.seq (.reg [
  ia 12 (.mv (.t 4)),
ia 13 (.bin .eql (.t 12) (ci 0)),
ia 14 (.mv (.t 13)),
ig 15 14 true (.fad 0 (.t 3)),
ig 16 14 true (.ld 1 false (.t 15)),
ig 17 14 true (.bin .eql (.t 16) (ci 2)),
ia 18 (.pick (.t 14) (.t 17) (.c (.a (.p (.b false))))),
ia 19 (.mv (.t 18)),
ig 20 19 true (.fad 1 (.t 3)),
ig 21 19 true (.ld 1 false (.t 20)),
ig 22 19 true (.mv (.t 0)),
ig 23 19 true (.bin .eql (.t 21) (.t 22)),
ia 24 (.pick (.t 19) (.t 23) (.c (.a (.p (.b false))))),
ia 2 (.mv (.t 24))]) .ret)))), [(.tmp 2)]⟩
theorem cc116 : ccF Try.prog [(43, [0, 0]), (79, [1, 0]), (60, [0, 0]), (140, [0, 0]), (43, [9])] Try.f116 = some (stripF F116) := by kernel_rfl

/- gossamer/gossamerref16.bad -/
def F117 : FnC := ⟨1, (.seq (.reg [
  ia 2 (.new [.nil, (.p (.i .i64 0)), (.p (.i .i64 0)), (.p (.i .i64 0)), .nil, (.p (.i .i64 0))])]) (.seq (.reg [
  ia 3 (.mv (.t 0)),
ia 4 (.build [.nil, (.p (.i .i64 0)), (.p (.i .i64 0)), (.p (.i .i64 0)), .nil, (.p (.i .i64 0))] [(5, (1, (.t 3)))]),
io (.st 6 (.t 2) (.t 4))]) .ret)), [(.cell 2 6 true)]⟩
theorem cc117 : ccF Try.prog [(43, [0, 0]), (79, [1, 0]), (60, [0, 0]), (140, [0, 0]), (43, [9])] Try.f117 = some (stripF F117) := by kernel_rfl

/- gossamer/gossamerref16.find -/
def F118b0 : C := (.seq (.seq (.reg [
  ia 6 (.mv (.t 5)),
ia 7 (.mv (.t 0)),
ia 8 (.len false (.t 7)),
ia 9 (.bin .lss (.t 6) (.t 8))]) (.cond (.t 9) .skip (.exit 0))) (.seq (.block 1 (.seq (.reg [
  ia 12 (.mv (.t 0)),
ia 13 (.mv (.t 5)),
ia 14 (.ias 3 (.t 12) (.t 13)),
ia 15 (.fad 0 (.t 14)),
ia 16 (.ld 1 false (.t 15)),
ia 17 (.mv (.t 1)),
ia 18 (.bin .eql (.t 16) (.t 17))]) (.cond (.t 18) (.seq (.reg [
  ia 19 (.mv (.t 5)),
ia 4 (.mv (.t 19))]) .ret) .skip))) (.reg [
  ia 10 (.mv (.t 5)),
ia 11 (.bin .add (.t 10) (ci 1)),
ia 5 (.mv (.t 11))])))
def F118 : FnC := ⟨2, (.seq (.reg [
  ia 4 (.mv (ci 0))]) (.seq (.seq (.reg [
  ia 5 (.mv (ci 0))]) (.block 0 (.loop F118b0))) (.seq (.reg [
  ia 4 (.mv (.c (.a (.p (.i .i64 (-1))))))]) .ret))), [(.tmp 4)]⟩
theorem cc118 : ccF Try.prog [(43, [0, 0]), (79, [1, 0]), (60, [0, 0]), (140, [0, 0]), (43, [9])] Try.f118 = some (stripF F118) := by kernel_rfl

/- gossamer/gossamerref16.sub -/
def F119 : FnC := ⟨4, (.seq (.reg [
  ia 4 (.box 2 (.t 0)),
ia 5 (.box 4 (.t 1)),
ia 8 (.new [.nil, (.p (.i .i64 0)), (.p (.i .i64 0)), (.p (.i .i64 0)), .nil, (.p (.i .i64 0))])]) (.seq (.reg [
  ia 10 (.fad 3 (.t 5)),
ia 11 (.ld 1 false (.t 10)),
ia 12 (.mv (.t 2)),
ia 13 (.ias 4 (.t 11) (.t 12)),
ia 14 (.ld 4 true (.t 13)),
ia 9 (.new [(.p (.i .i64 0)), (.p (.i .i64 0)), (.p (.s [])), .nil]),
io (.st 4 (.t 9) (.t 14))]) (.seq (.seq (.reg [
  ia 15 (.fad 0 (.t 5)),
ia 16 (.ld 1 false (.t 15)),
ia 17 (.bin .eql (.t 16) (ci 4)),
ia 18 (.mv (.t 17)),
ig 19 18 false (.fad 0 (.t 5)),
ig 20 18 false (.ld 1 false (.t 19)),
ig 21 18 false (.bin .eql (.t 20) (ci 3)),
ig 22 18 false (.mv (.t 21)),
ig 23 22 true (.mv (.t 2)),
ig 24 22 true (.bin .eql (.t 23) (ci 1)),
ig 25 18 false (.pick (.t 22) (.t 24) (.c (.a (.p (.b false))))),
ia 26 (.pick (.t 18) (.c (.a (.p (.b true)))) (.t 25))]) (.cond (.t 26) (.seq (.reg [
  ia 27 (.ld 2 true (.t 4)),
ia 28 (.ld 4 true (.t 9)),
ia 29 (.mv (.t 3)),
ia 30 (.bin .add (.t 29) (ci 1)),
ia 31 (.call (.f 60) [(.t 27), (.t 28), (.t 30)]),
ia 32 (.mv (.t 3)),
ia 33 (.call (.f 144) [(.t 31), (.t 32)]),
io (.st 6 (.t 8) (.t 33))]) .ret) .skip)) (.seq (.seq (.reg [
  ia 34 (.fad 0 (.t 5)),
ia 35 (.ld 1 false (.t 34)),
ia 36 (.bin .eql (.t 35) (ci 5)),
ia 37 (.mv (.t 36)),
ig 38 37 true (.mv (.t 2)),
ig 39 37 true (.bin .gtr (.t 38) (ci 0)),
ia 40 (.pick (.t 37) (.t 39) (.c (.a (.p (.b false)))))]) (.cond (.t 40) (.seq (.reg [
  ir 41 (.ld 2 true (.t 4)),
ir 42 (.fad 3 (.t 9)),
ir 43 (.ld 1 false (.t 42)),
ir 44 (.ias 4 (.t 43) (ci 0)),
ir 45 (.ld 4 true (.t 44)),
ir 46 (.fad 1 (.t 9)),
ir 47 (.ld 1 false (.t 46)),
ir 48 (.mv (.t 3)),
ia 49 (.call (.f 83) [(.t 41), (.t 45), (.t 47), (.t 48)]),
io (.st 6 (.t 8) (.t 49))]) .ret) .skip)) (.seq (.reg [
  ia 50 (.ld 2 true (.t 4)),
ia 51 (.ld 4 true (.t 9)),
ia 52 (.mv (.t 3)),
ia 53 (.call (.f 60) [(.t 50), (.t 51), (.t 52)]),
io (.st 6 (.t 8) (.t 53))]) .ret))))), [(.cell 8 6 true)]⟩
theorem cc119 : ccF Try.prog [(43, [0, 0]), (79, [1, 0]), (60, [0, 0]), (140, [0, 0]), (43, [9])] Try.f119 = some (stripF F119) := by kernel_rfl

/- gossamer/gossamerref16.merged -/
def F120b0 : C := (.seq (.seq (.reg [
  ia 12 (.mv (.t 7)),
ia 13 (.fad 4 (.t 3)),
ia 14 (.ld 1 false (.t 13)),
ia 15 (.len false (.t 14)),
ia 16 (.bin .lss (.t 12) (.t 15)),
ia 17 (.mv (.t 16)),
ig 18 17 true (.fad 5 (.t 3)),
ig 19 17 true (.ld 1 false (.t 18)),
ig 20 17 true (.bin .eql (.t 19) (ci 0)),
ia 21 (.pick (.t 17) (.t 20) (.c (.a (.p (.b false)))))]) (.cond (.t 21) .skip (.exit 0))) (.seq (.block 1 (.seq (.reg [
  ia 24 (.mv (.t 1)),
ia 25 (.fad 4 (.t 3)),
ia 26 (.ld 1 false (.t 25)),
ia 27 (.mv (.t 7)),
ia 28 (.ias 3 (.t 26) (.t 27)),
ia 29 (.fad 0 (.t 28)),
ia 30 (.ld 1 false (.t 29)),
ia 31 (.call (.f 118) [(.t 24), (.t 30)]),
ia 8 (.mv (.t 31))]) (.seq (.seq (.reg [
  ia 32 (.mv (.t 8)),
ia 33 (.bin .lss (.t 32) (ci 0))]) (.cond (.t 33) (.seq (.reg [
  ia 34 (.mv (.t 1)),
ia 35 (.fad 4 (.t 3)),
ia 36 (.ld 1 false (.t 35)),
ia 37 (.mv (.t 7)),
ia 38 (.ias 3 (.t 36) (.t 37)),
ia 39 (.ld 3 true (.t 38)),
ia 40 (.call (.f 145) [(.t 34), (.t 39)]),
ia 1 (.mv (.t 40))]) (.exit 1)) .skip)) (.seq (.reg [
  ia 42 (.fad 0 (.t 3)),
ia 43 (.ld 2 true (.t 42)),
ia 44 (.mv (.t 2)),
ia 45 (.build [(.p (.i .i64 0)), (.p (.i .i64 0)), (.p (.i .i64 0)), (.p (.s [])), .nil, .nil] [(0, (1, (ci 4))), (1, (1, (.t 44)))]),
ia 46 (.call (.f 82) [(.t 43), (.t 45)]),
ia 41 (.mv (.t 46)),
ia 47 (.ext (.t 41) 0),
ia 48 (.ext (.t 41) 1),
ia 49 (.ext (.t 41) 2),
ia 9 (.new [.nil, (.p (.i .i64 0))]),
io (.st 2 (.t 9) (.t 47)),
ia 10 (.mv (.t 48)),
ia 11 (.mv (.t 49))]) (.seq (.reg [
  ia 50 (.mv (.t 11)),
ia 51 (.fad 5 (.t 3)),
io (.st 1 (.t 51) (.t 50))]) (.seq (.reg [
  ir 52 (.ld 2 true (.t 9)),
ir 53 (.mv (.t 10)),
ir 54 (.call (.f 62) [(.t 53), (ci 1)]),
ir 55 (.mv (.t 1)),
ir 56 (.mv (.t 8)),
ir 57 (.ias 3 (.t 55) (.t 56)),
ir 58 (.fad 1 (.t 57)),
ir 59 (.ld 2 true (.t 58)),
ir 60 (.call (.f 61) [(.t 52), (.t 54), (.t 59)]),
ir 61 (.mv (.t 10)),
ir 62 (.call (.f 62) [(.t 61), (ci 2)]),
ir 63 (.fad 4 (.t 3)),
ir 64 (.ld 1 false (.t 63)),
ir 65 (.mv (.t 7)),
ir 66 (.ias 3 (.t 64) (.t 65)),
ir 67 (.fad 1 (.t 66)),
ir 68 (.ld 2 true (.t 67)),
ia 69 (.call (.f 61) [(.t 60), (.t 62), (.t 68)]),
ia 70 (.fad 0 (.t 3)),
io (.st 2 (.t 70) (.t 69))]) (.seq (.reg [
  ia 71 (.bsl 3 108 [(.p (.i .i64 0)), (.p (.i .i64 0)), (.p (.i .i64 0))] 0 []),
ia 72 (.mv (.t 1)),
ia 73 (.app 3 108 24 (.t 71) (.t 72)),
ia 1 (.mv (.t 73))]) (.reg [
  ia 74 (.mv (.t 1)),
ia 75 (.mv (.t 8)),
ia 76 (.mv (.t 10)),
ia 77 (.call (.f 62) [(.t 76), (ci 0)]),
ia 78 (.ias 3 (.t 74) (.t 75)),
ia 79 (.fad 1 (.t 78)),
io (.st 2 (.t 79) (.t 77))])))))))) (.reg [
  ia 22 (.mv (.t 7)),
ia 23 (.bin .add (.t 22) (ci 1)),
ia 7 (.mv (.t 23))])))
def F120 : FnC := ⟨3, (.seq (.reg [
  ia 3 (.box 6 (.t 0)),
ia 6 (.new [.nil, (.p (.i .i64 0)), (.p (.i .i64 0)), (.p (.i .i64 0)), .nil, (.p (.i .i64 0))])]) (.seq (.seq (.reg [
  ia 7 (.mv (ci 0))]) (.block 0 (.loop F120b0))) (.seq (.reg [
  ia 80 (.mv (.t 1)),
ia 81 (.fad 4 (.t 3)),
io (.st 1 (.t 81) (.t 80))]) (.seq (.reg [
  ia 82 (.ld 6 true (.t 3)),
io (.st 6 (.t 6) (.t 82))]) .ret)))), [(.cell 6 6 true)]⟩
theorem cc120 : ccF Try.prog [(43, [0, 0]), (79, [1, 0]), (60, [0, 0]), (140, [0, 0]), (43, [9])] Try.f120 = some (stripF F120) := by kernel_rfl

/- gossamer/gossamerref13.set -/
def F121 : FnC := ⟨3, (.seq (.reg [
  ia 3 (.box 2 (.t 0)),
ia 4 (.box 2 (.t 1)),
ia 5 (.box 2 (.t 2)),
ia 6 (.new [.nil, (.p (.i .i64 0))])]) (.seq (.reg [
  ia 9 (.ld 2 true (.t 3)),
ia 10 (.call (.f 51) [(.t 9)]),
ia 7 (.new [.nil, (.p (.i .i64 0))]),
io (.st 2 (.t 7) (.t 10))]) (.seq (.reg [
  ia 11 (.bsl 2 43 [(.p (.i .i64 0)), (.p (.i .i64 0))] 0 []),
ia 12 (.fad 0 (.t 7)),
ia 13 (.ld 1 false (.t 12)),
ia 14 (.fad 0 (.t 4)),
ia 15 (.ld 1 false (.t 14)),
ia 16 (.ias 6 (.t 13) (.t 15)),
ia 17 (.fad 5 (.t 16)),
ia 18 (.ld 1 false (.t 17)),
ia 19 (.app 2 43 16 (.t 11) (.t 18)),
ia 8 (.mv (.t 19))]) (.seq (.reg [
  ia 20 (.mv (.t 8)),
ia 21 (.fad 1 (.t 4)),
ia 22 (.ld 1 false (.t 21)),
ia 23 (.ld 2 true (.t 5)),
ia 24 (.ias 2 (.t 20) (.t 22)),
io (.st 2 (.t 24) (.t 23))]) (.seq (.reg [
  ia 25 (.fad 0 (.t 7)),
ia 26 (.ld 1 false (.t 25)),
ia 27 (.fad 0 (.t 4)),
ia 28 (.ld 1 false (.t 27)),
ia 29 (.mv (.t 8)),
ia 30 (.ias 6 (.t 26) (.t 28)),
ia 31 (.fad 5 (.t 30)),
io (.st 1 (.t 31) (.t 29))]) (.seq (.reg [
  ia 32 (.ld 2 true (.t 7)),
io (.st 2 (.t 6) (.t 32))]) .ret)))))), [(.cell 6 2 true)]⟩
theorem cc121 : ccF Try.prog [(43, [0, 0]), (79, [1, 0]), (60, [0, 0]), (140, [0, 0]), (43, [9])] Try.f121 = some (stripF F121) := by kernel_rfl

/- (gossamer/wire.net).there -/
def F122 : FnC := ⟨2, (.seq (.reg [
  ia 2 (.box 2 (.t 0)),
ia 4 (.mv (.c (.a (.p (.b false)))))]) (.seq (.reg [
  ia 5 (.mv (.t 1)),
ia 6 (.fn 147 [(.t 2)]),
ia 7 (.call (.f 146) [(.t 5), (.t 6)]),
ia 8 (.not (.t 7)),
ia 4 (.mv (.t 8))]) .ret)), [(.tmp 4)]⟩
theorem cc122 : ccF Try.prog [(43, [0, 0]), (79, [1, 0]), (60, [0, 0]), (140, [0, 0]), (43, [9])] Try.f122 = some (stripF F122) := by kernel_rfl

/- (gossamer/wire.net).peer -/
def F123 : FnC := ⟨2, (.seq (.reg [
  ia 2 (.box 2 (.t 0)),
ia 3 (.box 2 (.t 1)),
ia 4 (.new [(.p (.i .i64 0)), (.p (.i .i64 0))])]) (.seq (.reg [
  ir 5 (.fad 0 (.t 2)),
ir 6 (.fad 0 (.t 5)),
ir 7 (.ld 1 false (.t 6)),
ir 8 (.fad 0 (.t 3)),
ir 9 (.ld 1 false (.t 8)),
ir 10 (.ias 6 (.t 7) (.t 9)),
ir 11 (.fad 5 (.t 10)),
ir 12 (.ld 1 false (.t 11)),
ir 13 (.fad 1 (.t 3)),
ir 14 (.ld 1 false (.t 13)),
ia 15 (.ias 2 (.t 12) (.t 14)),
ia 16 (.ld 2 true (.t 15)),
io (.st 2 (.t 4) (.t 16))]) .ret)), [(.cell 4 2 true)]⟩
theorem cc123 : ccF Try.prog [(43, [0, 0]), (79, [1, 0]), (60, [0, 0]), (140, [0, 0]), (43, [9])] Try.f123 = some (stripF F123) := by kernel_rfl

/- slices.Index[[]int,int] -/
def F124b0 : C := (.seq (.reg [
  ia 9 (.bin .lss (.t 8) (.t 7))]) (.seq (.cond (.t 9) .skip (.exit 0)) (.seq (.block 1 (.seq (.reg [
  ia 10 (.mv (.t 8)),
ia 5 (.mv (.t 10))]) (.seq (.reg [
  ia 11 (.mv (.t 1)),
ia 12 (.mv (.t 0)),
ia 13 (.mv (.t 5)),
ia 14 (.ias 1 (.t 12) (.t 13)),
ia 15 (.ld 1 false (.t 14)),
ia 16 (.bin .eql (.t 11) (.t 15))]) (.cond (.t 16) (.seq (.reg [
  ia 17 (.mv (.t 5)),
ia 4 (.mv (.t 17))]) .ret) .skip)))) (.reg [
  ia 18 (.bin .add (.t 8) (ci 1)),
ia 8 (.mv (.t 18))]))))
def F124 : FnC := ⟨2, (.seq (.reg [
  ia 4 (.mv (ci 0))]) (.seq (.seq (.reg [
  ia 6 (.mv (.t 0)),
ia 7 (.len false (.t 6)),
ia 8 (.mv (ci 0))]) (.block 0 (.loop F124b0))) (.seq (.reg [
  ia 4 (.mv (.c (.a (.p (.i .i64 (-1))))))]) .ret))), [(.tmp 4)]⟩
theorem cc124 : ccF Try.prog [(43, [0, 0]), (79, [1, 0]), (60, [0, 0]), (140, [0, 0]), (43, [9])] Try.f124 = some (stripF F124) := by kernel_rfl

/- gossamer/gossamerref13.to -/
def F125 : FnC := ⟨2, (.seq (.reg [
  ia 2 (.box 2 (.t 0)),
ia 3 (.box 2 (.t 1)),
ia 4 (.new [(.p (.i .i64 0)), (.p (.i .i64 0))])]) (.seq (.reg [
  ir 5 (.fad 0 (.t 2)),
ir 6 (.ld 1 false (.t 5)),
ir 7 (.fad 0 (.t 3)),
ir 8 (.ld 1 false (.t 7)),
ir 9 (.ias 6 (.t 6) (.t 8)),
ir 10 (.fad 5 (.t 9)),
ir 11 (.ld 1 false (.t 10)),
ir 12 (.fad 1 (.t 3)),
ir 13 (.ld 1 false (.t 12)),
ia 14 (.ias 2 (.t 11) (.t 13)),
ia 15 (.ld 2 true (.t 14)),
io (.st 2 (.t 4) (.t 15))]) .ret)), [(.cell 4 2 true)]⟩
theorem cc125 : ccF Try.prog [(43, [0, 0]), (79, [1, 0]), (60, [0, 0]), (140, [0, 0]), (43, [9])] Try.f125 = some (stripF F125) := by kernel_rfl

/- gossamer/gossamerref14.Asks -/
def F126 : FnC := ⟨1, (.seq (.reg [
  ia 2 (.mv (.c (.a (.p (.b false)))))]) (.seq (.reg [
  ia 3 (.mv (.t 0)),
ia 4 (.bin .eql (.t 3) (ci 3)),
ia 5 (.mv (.t 4)),
ig 6 5 false (.mv (.t 0)),
ig 7 5 false (.bin .eql (.t 6) (ci 9)),
ia 8 (.pick (.t 5) (.c (.a (.p (.b true)))) (.t 7)),
ia 9 (.mv (.t 8)),
ig 10 9 false (.mv (.t 0)),
ig 11 9 false (.bin .eql (.t 10) (ci 11)),
ia 12 (.pick (.t 9) (.c (.a (.p (.b true)))) (.t 11)),
ia 13 (.mv (.t 12)),
ig 14 13 false (.mv (.t 0)),
ig 15 13 false (.bin .eql (.t 14) (ci 12)),
ia 16 (.pick (.t 13) (.c (.a (.p (.b true)))) (.t 15)),
ia 2 (.mv (.t 16))]) .ret)), [(.tmp 2)]⟩
theorem cc126 : ccF Try.prog [(43, [0, 0]), (79, [1, 0]), (60, [0, 0]), (140, [0, 0]), (43, [9])] Try.f126 = some (stripF F126) := by kernel_rfl

/- gossamer/gossamerref14.Told -/
def F127 : FnC := ⟨1, (.seq (.reg [
  ia 2 (.mv (.c (.a (.p (.b false)))))]) (.seq (.reg [
  ia 3 (.mv (.t 0)),
ia 4 (.bin .eql (.t 3) (ci 2)),
ia 5 (.mv (.t 4)),
ig 6 5 false (.mv (.t 0)),
ig 7 5 false (.bin .eql (.t 6) (ci 8)),
ia 8 (.pick (.t 5) (.c (.a (.p (.b true)))) (.t 7)),
ia 9 (.mv (.t 8)),
ig 10 9 false (.mv (.t 0)),
ig 11 9 false (.bin .eql (.t 10) (ci 10)),
ia 12 (.pick (.t 9) (.c (.a (.p (.b true)))) (.t 11)),
ia 13 (.mv (.t 12)),
ig 14 13 false (.mv (.t 0)),
ig 15 13 false (.bin .eql (.t 14) (ci 13)),
ia 16 (.pick (.t 13) (.c (.a (.p (.b true)))) (.t 15)),
ia 2 (.mv (.t 16))]) .ret)), [(.tmp 2)]⟩
theorem cc127 : ccF Try.prog [(43, [0, 0]), (79, [1, 0]), (60, [0, 0]), (140, [0, 0]), (43, [9])] Try.f127 = some (stripF F127) := by kernel_rfl

/- gossamer/gossamerref14.Control -/
def F128 : FnC := ⟨1, (.seq (.reg [
  ia 2 (.mv (.c (.a (.p (.b false)))))]) (.seq (.reg [
  ia 3 (.mv (.t 0)),
ia 4 (.bin .eql (.t 3) (ci 4)),
ia 5 (.mv (.t 4)),
ig 6 5 false (.mv (.t 0)),
ig 7 5 false (.bin .eql (.t 6) (ci 5)),
ia 8 (.pick (.t 5) (.c (.a (.p (.b true)))) (.t 7)),
ia 9 (.mv (.t 8)),
ig 10 9 false (.mv (.t 0)),
ig 11 9 false (.bin .eql (.t 10) (ci 6)),
ia 12 (.pick (.t 9) (.c (.a (.p (.b true)))) (.t 11)),
ia 2 (.mv (.t 12))]) .ret)), [(.tmp 2)]⟩
theorem cc128 : ccF Try.prog [(43, [0, 0]), (79, [1, 0]), (60, [0, 0]), (140, [0, 0]), (43, [9])] Try.f128 = some (stripF F128) := by kernel_rfl

/- gossamer/gossamerref14.passed -/
def F129 : FnC := ⟨2, (.seq (.reg [
  ia 2 (.box 6 (.t 0)),
ia 3 (.box 6 (.t 1)),
ia 4 (.new [(.p (.i .i64 0)), (.p (.b false)), (.p (.i .i64 0)), (.p (.i .i64 0)), (.p (.i .i64 0)), (.p (.i .i64 0)), (.p (.i .i64 0)), (.p (.s [])), .nil, .nil]),
ia 5 (.mv (ci 0))]) (.seq (.seq (.reg [
  ia 7 (.fad 1 (.t 2)),
ia 8 (.ld 1 false (.t 7)),
ia 9 (.fad 1 (.t 3)),
ia 10 (.ld 1 false (.t 9)),
ia 11 (.bin .geq (.t 8) (.t 10))]) (.cond (.t 11) (.seq (.reg [
  ia 12 (.build [(.p (.i .i64 0)), (.p (.b false)), (.p (.i .i64 0)), (.p (.i .i64 0)), (.p (.i .i64 0)), (.p (.i .i64 0)), (.p (.i .i64 0)), (.p (.s [])), .nil, .nil] []),
io (.st 10 (.t 4) (.t 12)),
ia 5 (.mv (ci 140))]) .ret) .skip)) (.seq (.reg [
  ia 13 (.fad 1 (.t 3)),
ia 14 (.ld 1 false (.t 13)),
ia 6 (.mv (.t 14))]) (.seq (.seq (.reg [
  ia 15 (.fad 0 (.t 2)),
ia 16 (.ld 1 false (.t 15)),
ia 17 (.bin .eql (.t 16) (ci 5))]) (.cond (.t 17) (.reg [
  ia 18 (.mv (.t 6)),
ia 19 (.bin .sub (.t 18) (ci 1)),
ia 6 (.mv (.t 19))]) .skip)) (.seq (.seq (.reg [
  ia 20 (.fad 0 (.t 2)),
ia 21 (.ld 1 false (.t 20)),
ia 22 (.bin .eql (.t 21) (ci 6))]) (.cond (.t 22) (.reg [
  ia 23 (.mv (.t 6)),
ia 24 (.bin .add (.t 23) (ci 1)),
ia 6 (.mv (.t 24))]) .skip)) (.seq (.seq (.reg [
  ia 25 (.mv (.t 6)),
ia 26 (.bin .gtr (.t 25) (ci 60))]) (.cond (.t 26) (.seq (.reg [
  ia 27 (.build [(.p (.i .i64 0)), (.p (.b false)), (.p (.i .i64 0)), (.p (.i .i64 0)), (.p (.i .i64 0)), (.p (.i .i64 0)), (.p (.i .i64 0)), (.p (.s [])), .nil, .nil] []),
io (.st 10 (.t 4) (.t 27)),
ia 5 (.mv (ci 141))]) .ret) .skip)) (.seq (.reg [
  ia 28 (.mv (.t 6)),
ia 29 (.build [(.p (.i .i64 0)), (.p (.b false)), (.p (.i .i64 0)), (.p (.i .i64 0)), (.p (.i .i64 0)), (.p (.i .i64 0)), (.p (.i .i64 0)), (.p (.s [])), .nil, .nil] [(0, (1, (ci 7))), (2, (1, (.t 28)))]),
io (.st 10 (.t 4) (.t 29)),
ia 5 (.mv (ci 0))]) .ret))))))), [(.cell 4 10 true), (.tmp 5)]⟩
theorem cc129 : ccF Try.prog [(43, [0, 0]), (79, [1, 0]), (60, [0, 0]), (140, [0, 0]), (43, [9])] Try.f129 = some (stripF F129) := by kernel_rfl

/- gossamer/gossamerref14.asked -/
def F130b0 : C := (.seq (.seq (.reg [
  ia 42 (.mv (.t 6)),
ia 43 (.fad 4 (.t 2)),
ia 44 (.ld 1 false (.t 43)),
ia 45 (.len false (.t 44)),
ia 46 (.bin .lss (.t 42) (.t 45)),
ia 47 (.mv (.t 46)),
ig 48 47 true (.fad 0 (.t 2)),
ig 49 47 true (.ld 1 false (.t 48)),
ig 50 47 true (.bin .eql (.t 49) (ci 9)),
ia 51 (.pick (.t 47) (.t 50) (.c (.a (.p (.b false))))),
ia 52 (.mv (.t 51)),
ig 53 52 true (.fad 0 (.t 3)),
ig 54 52 true (.ld 1 false (.t 53)),
ig 55 52 true (.bin .eql (.t 54) (ci 8)),
ia 56 (.pick (.t 52) (.t 55) (.c (.a (.p (.b false)))))]) (.cond (.t 56) .skip (.exit 0))) (.seq (.block 1 (.seq (.reg [
  ir 59 (.fad 4 (.t 2)),
ir 60 (.ld 1 false (.t 59)),
ir 61 (.mv (.t 6)),
ir 62 (.ias 2 (.t 60) (.t 61)),
ir 63 (.fad 0 (.t 62)),
ir 64 (.ld 1 false (.t 63)),
ir 65 (.fad 3 (.t 3)),
ir 66 (.ld 1 false (.t 65)),
ia 67 (.bin .eql (.t 64) (.t 66)),
ia 68 (.mv (.t 67)),
ih 69 68 true (.fad 4 (.t 2)),
ih 70 68 true (.ld 1 false (.t 69)),
ih 71 68 true (.mv (.t 6)),
ih 72 68 true (.ias 2 (.t 70) (.t 71)),
ih 73 68 true (.fad 1 (.t 72)),
ih 74 68 true (.ld 1 false (.t 73)),
ih 75 68 true (.fad 5 (.t 3)),
ih 76 68 true (.ld 1 false (.t 75)),
ih 77 68 true (.len false (.t 76)),
ih 78 68 true (.bin .sub (.t 77) (ci 1)),
ig 79 68 true (.bin .eql (.t 74) (.t 78)),
ia 80 (.pick (.t 68) (.t 79) (.c (.a (.p (.b false)))))]) (.cond (.t 80) (.seq (.reg [
  ia 81 (.mv (.t 6)),
ia 82 (.build [(.p (.i .i64 0)), (.p (.b false)), (.p (.i .i64 0)), (.p (.i .i64 0)), (.p (.i .i64 0)), (.p (.i .i64 0)), (.p (.i .i64 0)), (.p (.s [])), .nil, .nil] [(0, (1, (ci 2))), (3, (1, (.t 81)))]),
io (.st 10 (.t 4) (.t 82)),
ia 5 (.mv (ci 0))]) .ret) .skip))) (.reg [
  ia 57 (.mv (.t 6)),
ia 58 (.bin .add (.t 57) (ci 1)),
ia 6 (.mv (.t 58))])))
def F130 : FnC := ⟨2, (.seq (.reg [
  ia 2 (.box 6 (.t 0)),
ia 3 (.box 6 (.t 1)),
ia 4 (.new [(.p (.i .i64 0)), (.p (.b false)), (.p (.i .i64 0)), (.p (.i .i64 0)), (.p (.i .i64 0)), (.p (.i .i64 0)), (.p (.i .i64 0)), (.p (.s [])), .nil, .nil]),
ia 5 (.mv (ci 0))]) (.seq (.seq (.reg [
  ia 7 (.fad 0 (.t 2)),
ia 8 (.ld 1 false (.t 7)),
ia 9 (.bin .eql (.t 8) (ci 3)),
ia 10 (.mv (.t 9)),
ig 11 10 true (.fad 0 (.t 3)),
ig 12 10 true (.ld 1 false (.t 11)),
ig 13 10 true (.bin .eql (.t 12) (ci 2)),
ia 14 (.pick (.t 10) (.t 13) (.c (.a (.p (.b false))))),
ia 15 (.mv (.t 14)),
ig 16 15 false (.fad 0 (.t 2)),
ig 17 15 false (.ld 1 false (.t 16)),
ig 18 15 false (.bin .eql (.t 17) (ci 9)),
ig 19 15 false (.mv (.t 18)),
ig 20 19 true (.fad 0 (.t 3)),
ig 21 19 true (.ld 1 false (.t 20)),
ig 22 19 true (.bin .eql (.t 21) (ci 8)),
ig 23 15 false (.pick (.t 19) (.t 22) (.c (.a (.p (.b false))))),
ia 24 (.pick (.t 15) (.c (.a (.p (.b true)))) (.t 23)),
ia 25 (.mv (.t 24)),
ig 26 25 true (.fad 1 (.t 2)),
ig 27 25 true (.ld 1 false (.t 26)),
ig 28 25 true (.fad 1 (.t 3)),
ig 29 25 true (.ld 1 false (.t 28)),
ig 30 25 true (.bin .neq (.t 27) (.t 29)),
ia 31 (.pick (.t 25) (.t 30) (.c (.a (.p (.b false)))))]) (.cond (.t 31) (.seq (.reg [
  ia 32 (.build [(.p (.i .i64 0)), (.p (.b false)), (.p (.i .i64 0)), (.p (.i .i64 0)), (.p (.i .i64 0)), (.p (.i .i64 0)), (.p (.i .i64 0)), (.p (.s [])), .nil, .nil] []),
io (.st 10 (.t 4) (.t 32)),
ia 5 (.mv (ci 140))]) .ret) .skip)) (.seq (.seq (.reg [
  ia 33 (.fad 0 (.t 2)),
ia 34 (.ld 1 false (.t 33)),
ia 35 (.bin .eql (.t 34) (ci 3)),
ia 36 (.mv (.t 35)),
ig 37 36 true (.fad 0 (.t 3)),
ig 38 36 true (.ld 1 false (.t 37)),
ig 39 36 true (.bin .eql (.t 38) (ci 2)),
ia 40 (.pick (.t 36) (.t 39) (.c (.a (.p (.b false)))))]) (.cond (.t 40) (.seq (.reg [
  ia 41 (.build [(.p (.i .i64 0)), (.p (.b false)), (.p (.i .i64 0)), (.p (.i .i64 0)), (.p (.i .i64 0)), (.p (.i .i64 0)), (.p (.i .i64 0)), (.p (.s [])), .nil, .nil] [(0, (1, (ci 1)))]),
io (.st 10 (.t 4) (.t 41)),
ia 5 (.mv (ci 0))]) .ret) .skip)) (.seq (.seq (.reg [
  ia 6 (.mv (ci 0))]) (.block 0 (.loop F130b0))) (.seq (.seq (.reg [
  ia 83 (.fad 0 (.t 2)),
ia 84 (.ld 1 false (.t 83)),
ia 85 (.bin .eql (.t 84) (ci 11)),
ia 86 (.mv (.t 85)),
ig 87 86 true (.fad 0 (.t 3)),
ig 88 86 true (.ld 1 false (.t 87)),
ig 89 86 true (.bin .eql (.t 88) (ci 10)),
ia 90 (.pick (.t 86) (.t 89) (.c (.a (.p (.b false)))))]) (.cond (.t 90) (.seq (.reg [
  ia 91 (.build [(.p (.i .i64 0)), (.p (.b false)), (.p (.i .i64 0)), (.p (.i .i64 0)), (.p (.i .i64 0)), (.p (.i .i64 0)), (.p (.i .i64 0)), (.p (.s [])), .nil, .nil] [(0, (1, (ci 3)))]),
io (.st 10 (.t 4) (.t 91)),
ia 5 (.mv (ci 0))]) .ret) .skip)) (.seq (.seq (.reg [
  ia 92 (.fad 0 (.t 2)),
ia 93 (.ld 1 false (.t 92)),
ia 94 (.bin .eql (.t 93) (ci 12)),
ia 95 (.mv (.t 94)),
ig 96 95 true (.fad 0 (.t 3)),
ig 97 95 true (.ld 1 false (.t 96)),
ig 98 95 true (.bin .eql (.t 97) (ci 10)),
ia 99 (.pick (.t 95) (.t 98) (.c (.a (.p (.b false)))))]) (.cond (.t 99) (.seq (.reg [
  ia 100 (.ld 6 true (.t 2)),
ia 101 (.ld 6 true (.t 3)),
ia 102 (.call (.f 148) [(.t 100), (.t 101)]),
ia 103 (.ext (.t 102) 0),
ia 104 (.ext (.t 102) 1),
io (.st 10 (.t 4) (.t 103)),
ia 5 (.mv (.t 104))]) .ret) .skip)) (.seq (.reg [
  ia 105 (.build [(.p (.i .i64 0)), (.p (.b false)), (.p (.i .i64 0)), (.p (.i .i64 0)), (.p (.i .i64 0)), (.p (.i .i64 0)), (.p (.i .i64 0)), (.p (.s [])), .nil, .nil] [(0, (1, (ci 5)))]),
io (.st 10 (.t 4) (.t 105)),
ia 5 (.mv (ci 0))]) .ret))))))), [(.cell 4 10 true), (.tmp 5)]⟩
theorem cc130 : ccF Try.prog [(43, [0, 0]), (79, [1, 0]), (60, [0, 0]), (140, [0, 0]), (43, [9])] Try.f130 = some (stripF F130) := by kernel_rfl

/- gossamer/rule.pick -/
def F131 : FnC := ⟨2, (.seq (.reg [
  ia 2 (.box 6 (.t 0)),
ia 3 (.box 6 (.t 1)),
ia 4 (.new [(.p (.i .i64 0)), (.p (.b false)), (.p (.i .i64 0)), (.p (.i .i64 0)), (.p (.i .i64 0)), (.p (.i .i64 0)), (.p (.i .i64 0)), (.p (.s [])), .nil, .nil]),
ia 5 (.mv (ci 0))]) (.seq (.seq (.reg [
  ia 7 (.fad 1 (.t 2)),
ia 8 (.ld 1 false (.t 7)),
ia 9 (.fad 1 (.t 3)),
ia 10 (.ld 1 false (.t 9)),
ia 11 (.bin .neq (.t 8) (.t 10))]) (.cond (.t 11) (.seq (.reg [
  ia 12 (.build [(.p (.i .i64 0)), (.p (.b false)), (.p (.i .i64 0)), (.p (.i .i64 0)), (.p (.i .i64 0)), (.p (.i .i64 0)), (.p (.i .i64 0)), (.p (.s [])), .nil, .nil] []),
io (.st 10 (.t 4) (.t 12)),
ia 5 (.mv (ci 140))]) .ret) .skip)) (.seq (.reg [
  ia 13 (.fad 4 (.t 2)),
ia 14 (.ld 1 false (.t 13)),
ia 15 (.fn 150 [(.t 3)]),
ia 16 (.call (.f 149) [(.t 14), (.t 15)]),
ia 6 (.mv (.t 16))]) (.seq (.seq (.reg [
  ia 17 (.mv (.t 6)),
ia 18 (.bin .lss (.t 17) (ci 0))]) (.cond (.t 18) (.seq (.reg [
  ia 19 (.call (.f 99) [(ci 5)]),
ia 20 (.ext (.t 19) 0),
ia 21 (.ext (.t 19) 1),
io (.st 10 (.t 4) (.t 20)),
ia 5 (.mv (.t 21))]) .ret) .skip)) (.seq (.reg [
  ia 22 (.mv (.t 6)),
ia 23 (.build [(.p (.i .i64 0)), (.p (.b false)), (.p (.i .i64 0)), (.p (.i .i64 0)), (.p (.i .i64 0)), (.p (.i .i64 0)), (.p (.i .i64 0)), (.p (.s [])), .nil, .nil] [(0, (1, (ci 2))), (3, (1, (.t 22)))]),
io (.st 10 (.t 4) (.t 23)),
ia 5 (.mv (ci 0))]) .ret))))), [(.cell 4 10 true), (.tmp 5)]⟩
theorem cc131 : ccF Try.prog [(43, [0, 0]), (79, [1, 0]), (60, [0, 0]), (140, [0, 0]), (43, [9])] Try.f131 = some (stripF F131) := by kernel_rfl

/- gossamer/rule.out -/
def F132 : FnC := ⟨2, (.seq (.reg [
  ia 2 (.box 6 (.t 0)),
ia 3 (.box 6 (.t 1)),
ia 4 (.new [(.p (.i .i64 0)), (.p (.b false)), (.p (.i .i64 0)), (.p (.i .i64 0)), (.p (.i .i64 0)), (.p (.i .i64 0)), (.p (.i .i64 0)), (.p (.s [])), .nil, .nil]),
ia 5 (.mv (ci 0))]) (.seq (.reg [
  ia 7 (.build [(.p (.i .i64 0)), (.p (.i .i64 0)), (.p (.i .i64 0)), (.p (.s [])), .nil, .nil] [(0, (1, (ci 10)))]),
ia 6 (.new [(.p (.i .i64 0)), (.p (.i .i64 0)), (.p (.i .i64 0)), (.p (.s [])), .nil, .nil]),
io (.st 6 (.t 6) (.t 7))]) (.seq (.seq (.reg [
  ia 8 (.fad 3 (.t 2)),
ia 9 (.ld 1 false (.t 8))]) (.block 0 (.seq (.reg [
  ia 11 (.bin .eql (.t 9) (.c (.a (.p (.s [43]))))),
ia 10 (.mv (.t 11))]) (.cond (.t 10) (.reg [
  ia 12 (.fad 2 (.t 2)),
ia 13 (.ld 1 false (.t 12)),
ia 14 (.fad 2 (.t 3)),
ia 15 (.ld 1 false (.t 14)),
ia 16 (.bin .add (.t 13) (.t 15)),
ia 17 (.fad 2 (.t 6)),
io (.st 1 (.t 17) (.t 16))]) (.seq (.reg [
  ia 19 (.bin .eql (.t 9) (.c (.a (.p (.s [45]))))),
ia 18 (.mv (.t 19))]) (.cond (.t 18) (.reg [
  ia 20 (.fad 2 (.t 2)),
ia 21 (.ld 1 false (.t 20)),
ia 22 (.fad 2 (.t 3)),
ia 23 (.ld 1 false (.t 22)),
ia 24 (.bin .sub (.t 21) (.t 23)),
ia 25 (.fad 2 (.t 6)),
io (.st 1 (.t 25) (.t 24))]) (.seq (.reg [
  ia 27 (.bin .eql (.t 9) (.c (.a (.p (.s [42]))))),
ia 26 (.mv (.t 27))]) (.cond (.t 26) (.reg [
  ia 28 (.fad 2 (.t 2)),
ia 29 (.ld 1 false (.t 28)),
ia 30 (.fad 2 (.t 3)),
ia 31 (.ld 1 false (.t 30)),
ia 32 (.bin .mul (.t 29) (.t 31)),
ia 33 (.fad 2 (.t 6)),
io (.st 1 (.t 33) (.t 32))]) (.seq (.reg [
  ia 35 (.bin .eql (.t 9) (.c (.a (.p (.s [47]))))),
ia 34 (.mv (.t 35))]) (.cond (.t 34) (.seq (.seq (.reg [
  ia 36 (.fad 2 (.t 3)),
ia 37 (.ld 1 false (.t 36)),
ia 38 (.bin .eql (.t 37) (ci 0))]) (.cond (.t 38) (.seq (.reg [
  ia 39 (.call (.f 99) [(ci 5)]),
ia 40 (.ext (.t 39) 0),
ia 41 (.ext (.t 39) 1),
io (.st 10 (.t 4) (.t 40)),
ia 5 (.mv (.t 41))]) .ret) .skip)) (.reg [
  ia 42 (.fad 2 (.t 2)),
ia 43 (.ld 1 false (.t 42)),
ia 44 (.fad 2 (.t 3)),
ia 45 (.ld 1 false (.t 44)),
ia 46 (.bin .quo (.t 43) (.t 45)),
ia 47 (.fad 2 (.t 6)),
io (.st 1 (.t 47) (.t 46))])) (.seq (.reg [
  ia 49 (.bin .eql (.t 9) (.c (.a (.p (.s [60]))))),
ia 48 (.mv (.t 49))]) (.cond (.t 48) (.reg [
  ia 50 (.fad 2 (.t 2)),
ia 51 (.ld 1 false (.t 50)),
ia 52 (.fad 2 (.t 3)),
ia 53 (.ld 1 false (.t 52)),
ia 54 (.bin .lss (.t 51) (.t 53)),
ia 55 (.call (.f 151) [(.t 54)]),
io (.st 6 (.t 6) (.t 55))]) (.seq (.reg [
  ia 57 (.bin .eql (.t 9) (.c (.a (.p (.s [61, 61]))))),
ia 56 (.mv (.t 57))]) (.cond (.t 56) (.reg [
  ia 58 (.fad 2 (.t 2)),
ia 59 (.ld 1 false (.t 58)),
ia 60 (.fad 2 (.t 3)),
ia 61 (.ld 1 false (.t 60)),
ia 62 (.bin .eql (.t 59) (.t 61)),
ia 63 (.call (.f 151) [(.t 62)]),
io (.st 6 (.t 6) (.t 63))]) .skip)))))))))))))) (.seq (.reg [
  ia 64 (.fad 1 (.t 2)),
ia 65 (.ld 1 false (.t 64)),
ia 66 (.fad 1 (.t 6)),
io (.st 1 (.t 66) (.t 65))]) (.seq (.reg [
  ia 67 (.ld 6 true (.t 6)),
ia 68 (.build [(.p (.i .i64 0)), (.p (.b false)), (.p (.i .i64 0)), (.p (.i .i64 0)), (.p (.i .i64 0)), (.p (.i .i64 0)), (.p (.i .i64 0)), (.p (.s [])), .nil, .nil] [(0, (1, (ci 4))), (4, (6, (.t 67)))]),
io (.st 10 (.t 4) (.t 68)),
ia 5 (.mv (ci 0))]) .ret))))), [(.cell 4 10 true), (.tmp 5)]⟩
theorem cc132 : ccF Try.prog [(43, [0, 0]), (79, [1, 0]), (60, [0, 0]), (140, [0, 0]), (43, [9])] Try.f132 = some (stripF F132) := by kernel_rfl

/- (*gossamer/act.stage).join -/
def F133 : FnC := ⟨3, (.seq (.reg [
  ia 4 (.box 2 (.t 1)),
ia 5 (.box 2 (.t 2))]) (.reg [
  ir 7 (.mv (.t 0)),
ir 8 (.mv (.t 0)),
ir 9 (.nck (.t 8)),
ir 10 (.fad 0 (.t 9)),
ir 11 (.ld 2 true (.t 10)),
ir 12 (.ld 2 true (.t 4)),
ir 13 (.ld 2 true (.t 5)),
ir 14 (.call (.f 152) [(.t 11), (.t 12), (.t 13)]),
ir 6 (.mv (.t 14)),
ir 15 (.ext (.t 6) 0),
ir 16 (.ext (.t 6) 1),
ir 17 (.nck (.t 7)),
ir 18 (.fad 0 (.t 17)),
⟨.none, .none, (.st 2 (.t 18) (.t 15)), (.wr [])⟩])), []⟩
theorem cc133 : ccF Try.prog [(43, [0, 0]), (79, [1, 0]), (60, [0, 0]), (140, [0, 0]), (43, [9])] Try.f133 = some (stripF F133) := by kernel_rfl

/- (*gossamer/act.stage).node -/
def F134 : FnC := ⟨2, (.seq (.reg [
  ia 4 (.new [(.p (.i .i64 0)), (.p (.i .i64 0)), (.p (.i .i64 0)), (.p (.s [])), .nil, .nil])]) (.seq (.reg [
  ia 5 (.mv (.t 0)),
ia 6 (.nck (.t 5)),
ia 7 (.fad 0 (.t 6)),
ia 8 (.fad 0 (.t 7)),
ia 9 (.ld 1 false (.t 8)),
ia 10 (.mv (.t 1)),
ia 11 (.ias 6 (.t 9) (.t 10)),
ia 12 (.ld 6 true (.t 11)),
io (.st 6 (.t 4) (.t 12))]) .ret)), [(.cell 4 6 true)]⟩
theorem cc134 : ccF Try.prog [(43, [0, 0]), (79, [1, 0]), (60, [0, 0]), (140, [0, 0]), (43, [9])] Try.f134 = some (stripF F134) := by kernel_rfl

/- (*gossamer/act.stage).like -/
def F135b0 : C := (.seq (.reg [
  ia 10 (.bin .lss (.t 9) (.t 8))]) (.seq (.cond (.t 10) .skip (.exit 0)) (.seq (.block 1 (.reg [
  ia 11 (.mv (.t 7)),
ia 12 (.mv (.t 0)),
ia 13 (.ld 6 true (.t 4)),
ia 14 (.call (.f 108) [(.t 12), (.t 13)]),
ia 15 (.bsl 1 3 [(.p (.i .i64 0))] 1 [(0, (.t 14))]),
ia 16 (.app 1 3 8 (.t 11) (.t 15)),
ia 7 (.mv (.t 16))])) (.reg [
  ia 17 (.bin .add (.t 9) (ci 1)),
ia 9 (.mv (.t 17))]))))
def F135 : FnC := ⟨3, (.seq (.reg [
  ia 4 (.box 6 (.t 1)),
ia 6 (.mv (.c (.a .nil)))]) (.seq (.reg [
  ia 7 (.mv (.c (.a .nil)))]) (.seq (.seq (.reg [
  ia 8 (.mv (.t 2)),
ia 9 (.mv (ci 0))]) (.block 0 (.loop F135b0))) (.seq (.reg [
  ia 18 (.mv (.t 7)),
ia 6 (.mv (.t 18))]) .ret)))), [(.tmp 6)]⟩
theorem cc135 : ccF Try.prog [(43, [0, 0]), (79, [1, 0]), (60, [0, 0]), (140, [0, 0]), (43, [9])] Try.f135 = some (stripF F135) := by kernel_rfl

/- (*gossamer/act.stage).level -/
def F136 : FnC := ⟨1, (.seq (.reg [
  ia 2 (.mv (ci 0))]) (.seq (.reg [
  ia 3 (.mv (.t 0)),
ia 4 (.mv (.t 0)),
ia 5 (.nck (.t 4)),
ia 6 (.fad 12 (.t 5)),
ia 7 (.ld 1 false (.t 6)),
ia 8 (.call (.f 134) [(.t 3), (.t 7)]),
ia 9 (.fld 1 1 false (.t 8)),
ia 2 (.mv (.t 9))]) .ret)), [(.tmp 2)]⟩
theorem cc136 : ccF Try.prog [(43, [0, 0]), (79, [1, 0]), (60, [0, 0]), (140, [0, 0]), (43, [9])] Try.f136 = some (stripF F136) := by kernel_rfl

/- (*gossamer/act.stage).link -/
def F137 : FnC := ⟨3, (.seq (.reg [
  ia 4 (.box 2 (.t 1)),
ia 5 (.box 2 (.t 2))]) (.reg [
  ir 7 (.mv (.t 0)),
ir 8 (.mv (.t 0)),
ir 9 (.nck (.t 8)),
ir 10 (.fad 0 (.t 9)),
ir 11 (.ld 2 true (.t 10)),
ir 12 (.ld 2 true (.t 4)),
ir 13 (.ld 2 true (.t 5)),
ir 14 (.call (.f 153) [(.t 11), (.t 12), (.t 13)]),
ir 6 (.mv (.t 14)),
ir 15 (.ext (.t 6) 0),
ir 16 (.ext (.t 6) 1),
ir 17 (.nck (.t 7)),
ir 18 (.fad 0 (.t 17)),
⟨.none, .none, (.st 2 (.t 18) (.t 15)), (.wr [])⟩])), []⟩
theorem cc137 : ccF Try.prog [(43, [0, 0]), (79, [1, 0]), (60, [0, 0]), (140, [0, 0]), (43, [9])] Try.f137 = some (stripF F137) := by kernel_rfl

/- gossamer/wire.Move -/
def F138 : FnC := ⟨3, (.seq (.reg [
  ia 3 (.box 2 (.t 0)),
ia 4 (.box 2 (.t 1)),
ia 5 (.box 2 (.t 2)),
ia 6 (.new [.nil, (.p (.i .i64 0))]),
ia 7 (.mv (ci 0))]) (.seq (.reg [
  ia 9 (.ld 2 true (.t 3)),
ia 10 (.build [.nil, (.p (.i .i64 0))] [(0, (2, (.t 9)))]),
ia 8 (.new [.nil, (.p (.i .i64 0))]),
io (.st 2 (.t 8) (.t 10))]) (.seq (.block 0 (.seq (.reg [
  ir 12 (.ld 2 true (.t 8)),
ir 13 (.ld 2 true (.t 4)),
ir 14 (.ld 2 true (.t 5)),
⟨(.some 15), .none, (.bsl 2 43 [(.p (.i .i64 0)), (.p (.i .i64 0))] 2 [(0, (.t 13)), (1, (.t 14))]), .ad⟩,
ia 16 (.call (.f 122) [(.t 12), (.t 15)]),
ia 17 (.not (.t 16)),
ia 18 (.mv (.t 17)),
ih 19 18 false (.ld 2 true (.t 4)),
ih 20 18 false (.ld 2 true (.t 5)),
ig 21 18 false (.eqg false [0, 0] (.t 19) (.t 20)),
ia 22 (.pick (.t 18) (.c (.a (.p (.b true)))) (.t 21)),
ia 23 (.mv (.t 22)),
ih 24 23 false (.ld 2 true (.t 8)),
ih 25 23 false (.ld 2 true (.t 8)),
ih 26 23 false (.ld 2 true (.t 4)),
ih 27 23 false (.call (.f 123) [(.t 25), (.t 26)]),
⟨(.some 28), (.some (23, false)), (.bsl 2 43 [(.p (.i .i64 0)), (.p (.i .i64 0))] 1 [(0, (.t 27))]), .ad⟩,
ig 29 23 false (.call (.f 122) [(.t 24), (.t 28)]),
ig 30 23 false (.not (.t 29)),
ia 31 (.pick (.t 23) (.c (.a (.p (.b true)))) (.t 30)),
ia 11 (.mv (.t 31))]) (.cond (.t 11) (.seq (.reg [
  ia 32 (.ld 2 true (.t 3)),
io (.st 2 (.t 6) (.t 32)),
ia 7 (.mv (ci 130))]) .ret) (.seq (.reg [
  ir 34 (.ld 2 true (.t 8)),
ir 35 (.ld 2 true (.t 4)),
ir 36 (.call (.f 123) [(.t 34), (.t 35)]),
ir 37 (.ld 2 true (.t 5)),
ia 38 (.eqg false [0, 0] (.t 36) (.t 37)),
ia 33 (.mv (.t 38))]) (.cond (.t 33) (.seq (.reg [
  ia 39 (.ld 2 true (.t 3)),
io (.st 2 (.t 6) (.t 39)),
ia 7 (.mv (ci 0))]) .ret) .skip))))) (.seq (.reg [
  ir 40 (.ld 2 true (.t 8)),
ir 41 (.ld 2 true (.t 5)),
ir 42 (.ld 2 true (.t 8)),
ir 43 (.ld 2 true (.t 4)),
ir 44 (.call (.f 123) [(.t 42), (.t 43)]),
ia 45 (.call (.f 154) [(.t 40), (.t 41), (.t 44)]),
ir 46 (.ext (.t 45) 0),
ir 47 (.ext (.t 45) 1),
io (.st 2 (.t 6) (.t 46)),
ia 7 (.mv (.t 47))]) .ret)))), [(.cell 6 2 true), (.tmp 7)]⟩
theorem cc138 : ccF Try.prog [(43, [0, 0]), (79, [1, 0]), (60, [0, 0]), (140, [0, 0]), (43, [9])] Try.f138 = some (stripF F138) := by kernel_rfl

/- gossamer/store.Make -/
def F139 : FnC := ⟨2, (.seq (.reg [
  ia 2 (.box 2 (.t 0)),
ia 3 (.box 6 (.t 1)),
ia 4 (.new [.nil, (.p (.i .i64 0))]),
ia 5 (.mv (ci 0)),
ia 6 (.mv (ci 0))]) (.seq (.block 0 (.seq (.reg [
  ia 9 (.fad 0 (.t 3)),
ia 10 (.ld 1 false (.t 9)),
ia 11 (.bin .eql (.t 10) (ci 0)),
ia 12 (.mv (.t 11)),
ig 13 12 false (.fad 0 (.t 3)),
ig 14 12 false (.ld 1 false (.t 13)),
ig 15 12 false (.bin .eql (.t 14) (ci 1)),
ia 16 (.pick (.t 12) (.c (.a (.p (.b true)))) (.t 15)),
ia 17 (.mv (.t 16)),
ig 18 17 false (.ld 6 true (.t 3)),
ig 19 17 false (.call (.f 75) [(.t 18)]),
ig 20 17 false (.not (.t 19)),
ia 21 (.pick (.t 17) (.c (.a (.p (.b true)))) (.t 20)),
ia 8 (.mv (.t 21))]) (.cond (.t 8) (.seq (.reg [
  ia 22 (.ld 2 true (.t 2)),
io (.st 2 (.t 4) (.t 22)),
ia 5 (.mv (ci 0)),
ia 6 (.mv (ci 122))]) .ret) (.seq (.reg [
  ir 24 (.ld 2 true (.t 2)),
ir 25 (.call (.f 71) [(.t 24)]),
ir 26 (.fad 1 (.t 2)),
ir 27 (.ld 1 false (.t 26)),
ia 28 (.bin .geq (.t 25) (.t 27)),
ia 23 (.mv (.t 28))]) (.cond (.t 23) (.seq (.reg [
  ia 29 (.ld 2 true (.t 2)),
io (.st 2 (.t 4) (.t 29)),
ia 5 (.mv (ci 0)),
ia 6 (.mv (ci 121))]) .ret) .skip))))) (.seq (.reg [
  ia 30 (.ld 2 true (.t 2)),
ia 31 (.call (.f 80) [(.t 30)]),
io (.st 2 (.t 2) (.t 31))]) (.seq (.reg [
  ir 32 (.ld 6 true (.t 3)),
ir 33 (.call (.f 76) [(.t 32)]),
⟨(.some 34), .none, (.mslF 2 43 16 [(.p (.i .i64 0)), (.p (.i .i64 0))] (.t 33) (.t 33)), .ad⟩,
ir 35 (.fad 4 (.t 3)),
ir 36 (.ld 1 false (.t 35)),
ir 37 (.call (.f 155) [(.t 36)]),
ir 38 (.fad 5 (.t 3)),
io (.st 1 (.t 38) (.t 34)),
ia 39 (.fad 4 (.t 3)),
io (.st 1 (.t 39) (.t 37))]) (.seq (.reg [
  ia 40 (.fad 0 (.t 2)),
ia 41 (.ld 1 false (.t 40)),
ia 42 (.call (.f 156) [(.t 41), (.f 79)]),
ia 7 (.mv (.t 42))]) (.seq (.seq (.reg [
  ia 43 (.mv (.t 7)),
ia 44 (.bin .lss (.t 43) (ci 0))]) (.cond (.t 44) (.seq (.reg [
  ia 45 (.fad 0 (.t 2)),
ia 46 (.ld 1 false (.t 45)),
ia 47 (.len false (.t 46)),
ia 7 (.mv (.t 47))]) (.reg [
  ia 48 (.fad 0 (.t 2)),
ia 49 (.ld 1 false (.t 48)),
ia 50 (.ld 6 true (.t 3)),
ia 51 (.bsl 6 41 [(.p (.i .i64 0)), (.p (.i .i64 0)), (.p (.i .i64 0)), (.p (.s [])), .nil, .nil] 1 [(0, (.t 50))]),
ia 52 (.app 6 41 88 (.t 49) (.t 51)),
ia 53 (.fad 0 (.t 2)),
io (.st 1 (.t 53) (.t 52))])) .skip)) (.seq (.reg [
  ia 54 (.fad 0 (.t 2)),
ia 55 (.ld 1 false (.t 54)),
ia 56 (.mv (.t 7)),
ia 57 (.ld 6 true (.t 3)),
ia 58 (.ias 6 (.t 55) (.t 56)),
io (.st 6 (.t 58) (.t 57))]) (.seq (.reg [
  ia 59 (.ld 2 true (.t 2)),
ia 60 (.mv (.t 7)),
io (.st 2 (.t 4) (.t 59)),
ia 5 (.mv (.t 60)),
ia 6 (.mv (ci 0))]) .ret)))))))), [(.cell 4 2 true), (.tmp 5), (.tmp 6)]⟩
theorem cc139 : ccF Try.prog [(43, [0, 0]), (79, [1, 0]), (60, [0, 0]), (140, [0, 0]), (43, [9])] Try.f139 = some (stripF F139) := by kernel_rfl

/- (*gossamer/act.stage).drop$1 -/
def F140b0 : C := (.seq (.reg [
  ia 8 (.bin .lss (.t 7) (.t 6))]) (.seq (.cond (.t 8) .skip (.exit 0)) (.seq (.block 1 (.seq (.reg [
  ia 9 (.mv (.t 7)),
ia 10 (.ias 2 (.t 5) (.t 7)),
ia 11 (.ld 2 true (.t 10)),
ia 4 (.new [(.p (.i .i64 0)), (.p (.i .i64 0))]),
ia 3 (.mv (.t 9)),
io (.st 2 (.t 4) (.t 11))]) (.reg [
  ir 12 (.ld 1 false (.t 1)),
ir 13 (.ld 2 true (.t 4)),
ir 14 (.ld 1 false (.t 2)),
ir 15 (.mv (.t 3)),
ir 16 (.ias 1 (.t 14) (.t 15)),
ir 17 (.ld 1 false (.t 16)),
ir 18 (.call (.f 95) [(.t 17), (ci 0)]),
ia 19 (.call (.f 107) [(.t 12), (.t 13), (.t 18)])]))) (.reg [
  ia 20 (.bin .add (.t 7) (ci 1)),
ia 7 (.mv (.t 20))]))))
def F140 : FnC := ⟨3, (.seq (.reg [
  ia 5 (.ld 1 false (.t 0)),
ia 6 (.len false (.t 5)),
ia 7 (.mv (ci 0))]) (.block 0 (.loop F140b0))), []⟩
theorem cc140 : ccF Try.prog [(43, [0, 0]), (79, [1, 0]), (60, [0, 0]), (140, [0, 0]), (43, [9])] Try.f140 = some (stripF F140) := by kernel_rfl

/- gossamer/store.alternatives$1 -/
def F141 : FnC := ⟨2, (.seq (.reg [
  ia 2 (.box 2 (.t 0)),
ia 3 (.mv (.c (.a (.p (.b false)))))]) (.seq (.reg [
  ia 4 (.fad 0 (.t 2)),
ia 5 (.ld 1 false (.t 4)),
ia 6 (.fad 0 (.t 1)),
ia 7 (.ld 1 false (.t 6)),
ia 8 (.bin .eql (.t 5) (.t 7)),
ia 3 (.mv (.t 8))]) .ret)), [(.tmp 3)]⟩
theorem cc141 : ccF Try.prog [(43, [0, 0]), (79, [1, 0]), (60, [0, 0]), (140, [0, 0]), (43, [9])] Try.f141 = some (stripF F141) := by kernel_rfl

/- slices.ContainsFunc[[]gossamer/api.Arity,gossamer/api.Arity] -/
def F142 : FnC := ⟨2, (.seq (.reg [
  ia 4 (.mv (.c (.a (.p (.b false)))))]) (.seq (.reg [
  ia 5 (.mv (.t 0)),
ia 6 (.mv (.t 1)),
ia 7 (.call (.f 149) [(.t 5), (.t 6)]),
ia 8 (.bin .geq (.t 7) (ci 0)),
ia 4 (.mv (.t 8))]) .ret)), [(.tmp 4)]⟩
theorem cc142 : ccF Try.prog [(43, [0, 0]), (79, [1, 0]), (60, [0, 0]), (140, [0, 0]), (43, [9])] Try.f142 = some (stripF F142) := by kernel_rfl

/- gossamer/gossamerref01.One -/
def F143 : FnC := ⟨2, (.seq (.reg [
  ia 4 (.new [(.p (.i .i64 0)), (.p (.s [])), (.p (.i .i64 0)), (.p (.i .i64 0))]),
ia 5 (.mv (ci 0))]) (.seq (.reg [
  ia 12 (.mv (.t 0)),
ia 13 (.mv (.t 1)),
ia 14 (.call (.f 157) [(.t 12), (.t 13)]),
ia 11 (.mv (.t 14)),
ia 15 (.ext (.t 11) 0),
ia 16 (.ext (.t 11) 1),
ia 6 (.mv (.t 15)),
ia 7 (.mv (.t 16))]) (.seq (.seq (.reg [
  ia 17 (.mv (.t 6)),
ia 18 (.bin .eql (.t 17) (ci 0))]) (.cond (.t 18) (.seq (.reg [
  ia 19 (.mv (.t 0)),
ia 20 (.mv (.t 1)),
ia 21 (.call (.f 158) [(.t 19), (.t 20)]),
ia 8 (.mv (.t 21))]) (.seq (.seq (.reg [
  ia 22 (.mv (.t 8)),
ia 23 (.bin .eql (.t 22) (ci 0))]) (.cond (.t 23) (.seq (.reg [
  ia 24 (.build [(.p (.i .i64 0)), (.p (.s [])), (.p (.i .i64 0)), (.p (.i .i64 0))] []),
io (.st 4 (.t 4) (.t 24)),
ia 5 (.mv (ci 10))]) .ret) .skip)) (.seq (.reg [
  ia 25 (.mv (.t 0)),
ia 26 (.mv (.t 1)),
ia 27 (.mv (.t 1)),
ia 28 (.mv (.t 8)),
ia 29 (.bin .add (.t 27) (.t 28)),
ia 30 (.sub (.t 25) (.some (.t 26)) (.some (.t 29))),
ia 31 (.mv (.t 1)),
ia 32 (.build [(.p (.i .i64 0)), (.p (.s [])), (.p (.i .i64 0)), (.p (.i .i64 0))] [(0, (1, (ci 5))), (1, (1, (.t 30))), (3, (1, (.t 31)))]),
io (.st 4 (.t 4) (.t 32)),
ia 5 (.mv (ci 0))]) .ret))) .skip)) (.seq (.reg [
  ia 33 (.mv (.t 0)),
ia 34 (.mv (.t 1)),
ia 35 (.mv (.t 1)),
ia 36 (.mv (.t 6)),
ia 37 (.bin .add (.t 35) (.t 36)),
ia 38 (.sub (.t 33) (.some (.t 34)) (.some (.t 37))),
ia 39 (.mv (.t 1)),
ia 40 (.build [(.p (.i .i64 0)), (.p (.s [])), (.p (.i .i64 0)), (.p (.i .i64 0))] [(1, (1, (.t 38))), (3, (1, (.t 39)))]),
ia 9 (.new [(.p (.i .i64 0)), (.p (.s [])), (.p (.i .i64 0)), (.p (.i .i64 0))]),
io (.st 4 (.t 9) (.t 40))]) (.seq (.reg [
  ia 41 (.mv (.t 0)),
ia 42 (.mv (.t 1)),
ia 43 (.ixs (.t 41) (.t 42)),
ia 44 (.call (.f 159) [(.t 43)]),
ia 10 (.mv (.t 44))]) (.seq (.seq (.reg [
  ia 45 (.mv (.t 10)),
ia 46 (.bin .eql (.t 45) (ci 3))]) (.cond (.t 46) (.seq (.seq (.reg [
  ia 47 (.mv (.t 7))]) (.cond (.t 47) (.seq (.reg [
  ia 48 (.build [(.p (.i .i64 0)), (.p (.s [])), (.p (.i .i64 0)), (.p (.i .i64 0))] []),
io (.st 4 (.t 4) (.t 48)),
ia 5 (.mv (ci 10))]) .ret) .skip)) (.seq (.seq (.reg [
  ia 49 (.mv (.t 6)),
ia 50 (.bin .gtr (.t 49) (ci 18)),
ia 51 (.mv (.t 50)),
ig 52 51 false (.mv (.t 6)),
ig 53 51 false (.bin .gtr (.t 52) (ci 1)),
ig 54 51 false (.mv (.t 53)),
ig 55 54 true (.mv (.t 0)),
ig 56 54 true (.mv (.t 1)),
ig 57 54 true (.ixs (.t 55) (.t 56)),
ig 58 54 true (.bin .eql (.t 57) (.c (.a (.p (.i .u8 48))))),
ig 59 51 false (.pick (.t 54) (.t 58) (.c (.a (.p (.b false))))),
ia 60 (.pick (.t 51) (.c (.a (.p (.b true)))) (.t 59))]) (.cond (.t 60) (.seq (.reg [
  ia 61 (.build [(.p (.i .i64 0)), (.p (.s [])), (.p (.i .i64 0)), (.p (.i .i64 0))] []),
io (.st 4 (.t 4) (.t 61)),
ia 5 (.mv (ci 11))]) .ret) .skip)) (.seq (.reg [
  ia 62 (.fad 0 (.t 9)),
io (.st 1 (.t 62) (ci 3))]) (.seq (.reg [
  ia 63 (.fad 1 (.t 9)),
ia 64 (.ld 1 false (.t 63)),
ia 65 (.call (.f 160) [(.t 64)]),
ia 66 (.fad 2 (.t 9)),
io (.st 1 (.t 66) (.t 65))]) (.seq (.reg [
  ia 67 (.ld 4 true (.t 9)),
io (.st 4 (.t 4) (.t 67)),
ia 5 (.mv (ci 0))]) .ret))))) .skip)) (.seq (.seq (.reg [
  ia 68 (.mv (.t 6)),
ia 69 (.bin .gtr (.t 68) (ci 16))]) (.cond (.t 69) (.seq (.reg [
  ia 70 (.build [(.p (.i .i64 0)), (.p (.s [])), (.p (.i .i64 0)), (.p (.i .i64 0))] []),
io (.st 4 (.t 4) (.t 70)),
ia 5 (.mv (ci 11))]) .ret) .skip)) (.seq (.reg [
  ia 71 (.mv (.t 10)),
ia 72 (.fad 0 (.t 9)),
io (.st 1 (.t 72) (.t 71))]) (.seq (.seq (.reg [
  ia 73 (.fad 1 (.t 9)),
ia 74 (.ld 1 false (.t 73)),
ia 75 (.call (.f 161) [(.t 74)])]) (.cond (.t 75) (.reg [
  ia 76 (.fad 0 (.t 9)),
io (.st 1 (.t 76) (ci 4))]) .skip)) (.seq (.reg [
  ia 77 (.ld 4 true (.t 9)),
io (.st 4 (.t 4) (.t 77)),
ia 5 (.mv (ci 0))]) .ret)))))))))), [(.cell 4 4 true), (.tmp 5)]⟩
theorem cc143 : ccF Try.prog [(43, [0, 0]), (79, [1, 0]), (60, [0, 0]), (140, [0, 0]), (43, [9])] Try.f143 = some (stripF F143) := by kernel_rfl

/- gossamer/gossamerref16.box -/
def F144b0 : C := (.seq (.seq (.reg [
  ia 9 (.mv (.t 5)),
ia 10 (.fad 4 (.t 2)),
ia 11 (.ld 1 false (.t 10)),
ia 12 (.len false (.t 11)),
ia 13 (.bin .lss (.t 9) (.t 12)),
ia 14 (.mv (.t 13)),
ig 15 14 true (.fad 5 (.t 2)),
ig 16 14 true (.ld 1 false (.t 15)),
ig 17 14 true (.bin .eql (.t 16) (ci 0)),
ia 18 (.pick (.t 14) (.t 17) (.c (.a (.p (.b false)))))]) (.cond (.t 18) .skip (.exit 0))) (.seq (.block 1 (.seq (.reg [
  ia 22 (.fad 0 (.t 2)),
ia 23 (.ld 2 true (.t 22)),
ia 24 (.mv (.t 1)),
ia 25 (.build [(.p (.i .i64 0)), (.p (.i .i64 0)), (.p (.i .i64 0)), (.p (.s [])), .nil, .nil] [(0, (1, (ci 6))), (1, (1, (.t 24)))]),
ia 26 (.call (.f 82) [(.t 23), (.t 25)]),
ia 21 (.mv (.t 26)),
ia 27 (.ext (.t 21) 0),
ia 28 (.ext (.t 21) 1),
ia 29 (.ext (.t 21) 2),
ia 6 (.new [.nil, (.p (.i .i64 0))]),
io (.st 2 (.t 6) (.t 27)),
ia 7 (.mv (.t 28)),
ia 8 (.mv (.t 29))]) (.seq (.reg [
  ia 30 (.mv (.t 8)),
ia 31 (.fad 5 (.t 2)),
io (.st 1 (.t 31) (.t 30))]) (.seq (.reg [
  ir 32 (.ld 2 true (.t 6)),
ir 33 (.mv (.t 7)),
ir 34 (.call (.f 62) [(.t 33), (ci 1)]),
ir 35 (.fad 4 (.t 2)),
ir 36 (.ld 1 false (.t 35)),
ir 37 (.mv (.t 5)),
ir 38 (.ias 3 (.t 36) (.t 37)),
ir 39 (.fad 1 (.t 38)),
ir 40 (.ld 2 true (.t 39)),
ia 41 (.call (.f 61) [(.t 32), (.t 34), (.t 40)]),
ia 42 (.fad 0 (.t 2)),
io (.st 2 (.t 42) (.t 41))]) (.reg [
  ir 43 (.fad 4 (.t 2)),
ir 44 (.ld 1 false (.t 43)),
ir 45 (.mv (.t 5)),
ir 46 (.mv (.t 7)),
ir 47 (.call (.f 62) [(.t 46), (ci 0)]),
ia 48 (.ias 3 (.t 44) (.t 45)),
ia 49 (.fad 1 (.t 48)),
io (.st 2 (.t 49) (.t 47))]))))) (.reg [
  ia 19 (.mv (.t 5)),
ia 20 (.bin .add (.t 19) (ci 1)),
ia 5 (.mv (.t 20))])))
def F144 : FnC := ⟨2, (.seq (.reg [
  ia 2 (.box 6 (.t 0)),
ia 4 (.new [.nil, (.p (.i .i64 0)), (.p (.i .i64 0)), (.p (.i .i64 0)), .nil, (.p (.i .i64 0))])]) (.seq (.seq (.reg [
  ia 5 (.mv (ci 0))]) (.block 0 (.loop F144b0))) (.seq (.reg [
  ia 50 (.ld 6 true (.t 2)),
io (.st 6 (.t 4) (.t 50))]) .ret))), [(.cell 4 6 true)]⟩
theorem cc144 : ccF Try.prog [(43, [0, 0]), (79, [1, 0]), (60, [0, 0]), (140, [0, 0]), (43, [9])] Try.f144 = some (stripF F144) := by kernel_rfl

/- gossamer/gossamerref16.with -/
def F145b0 : C := (.seq (.seq (.reg [
  ia 9 (.mv (.t 7)),
ia 10 (.mv (.t 0)),
ia 11 (.len false (.t 10)),
ia 12 (.bin .lss (.t 9) (.t 11))]) (.cond (.t 12) .skip (.exit 0))) (.seq (.block 1 (.seq (.seq (.reg [
  ia 15 (.mv (.t 6)),
ia 16 (.not (.t 15)),
ia 17 (.mv (.t 16)),
ih 18 17 true (.mv (.t 0)),
ih 19 17 true (.mv (.t 7)),
ih 20 17 true (.ias 3 (.t 18) (.t 19)),
ih 21 17 true (.fad 0 (.t 20)),
ih 22 17 true (.ld 1 false (.t 21)),
ih 23 17 true (.fad 0 (.t 3)),
ih 24 17 true (.ld 1 false (.t 23)),
ig 25 17 true (.bin .gtr (.t 22) (.t 24)),
ia 26 (.pick (.t 17) (.t 25) (.c (.a (.p (.b false)))))]) (.cond (.t 26) (.seq (.reg [
  ia 27 (.mv (.t 5)),
ia 28 (.ld 3 true (.t 3)),
ia 29 (.bsl 3 108 [(.p (.i .i64 0)), (.p (.i .i64 0)), (.p (.i .i64 0))] 1 [(0, (.t 28))]),
ia 30 (.app 3 108 24 (.t 27) (.t 29)),
ia 5 (.mv (.t 30))]) (.reg [
  ia 6 (.mv (.c (.a (.p (.b true)))))])) .skip)) (.reg [
  ia 31 (.mv (.t 5)),
ia 32 (.mv (.t 0)),
ia 33 (.mv (.t 7)),
ia 34 (.ias 3 (.t 32) (.t 33)),
ia 35 (.ld 3 true (.t 34)),
ia 36 (.bsl 3 108 [(.p (.i .i64 0)), (.p (.i .i64 0)), (.p (.i .i64 0))] 1 [(0, (.t 35))]),
ia 37 (.app 3 108 24 (.t 31) (.t 36)),
ia 5 (.mv (.t 37))]))) (.reg [
  ia 13 (.mv (.t 7)),
ia 14 (.bin .add (.t 13) (ci 1)),
ia 7 (.mv (.t 14))])))
def F145 : FnC := ⟨2, (.seq (.reg [
  ia 3 (.box 3 (.t 1)),
ia 4 (.mv (.c (.a .nil)))]) (.seq (.reg [
  ia 8 (.bsl 3 108 [(.p (.i .i64 0)), (.p (.i .i64 0)), (.p (.i .i64 0))] 0 []),
ia 5 (.mv (.t 8))]) (.seq (.reg [
  ia 6 (.mv (.c (.a (.p (.b false)))))]) (.seq (.seq (.reg [
  ia 7 (.mv (ci 0))]) (.block 0 (.loop F145b0))) (.seq (.seq (.reg [
  ia 38 (.mv (.t 6)),
ia 39 (.not (.t 38))]) (.cond (.t 39) (.reg [
  ia 40 (.mv (.t 5)),
ia 41 (.ld 3 true (.t 3)),
ia 42 (.bsl 3 108 [(.p (.i .i64 0)), (.p (.i .i64 0)), (.p (.i .i64 0))] 1 [(0, (.t 41))]),
ia 43 (.app 3 108 24 (.t 40) (.t 42)),
ia 5 (.mv (.t 43))]) .skip)) (.seq (.reg [
  ia 44 (.mv (.t 5)),
ia 4 (.mv (.t 44))]) .ret)))))), [(.tmp 4)]⟩
theorem cc145 : ccF Try.prog [(43, [0, 0]), (79, [1, 0]), (60, [0, 0]), (140, [0, 0]), (43, [9])] Try.f145 = some (stripF F145) := by kernel_rfl

/- slices.ContainsFunc[[]gossamer/api.Port,gossamer/api.Port] -/
def F146 : FnC := ⟨2, (.seq (.reg [
  ia 4 (.mv (.c (.a (.p (.b false)))))]) (.seq (.reg [
  ia 5 (.mv (.t 0)),
ia 6 (.mv (.t 1)),
ia 7 (.call (.f 162) [(.t 5), (.t 6)]),
ia 8 (.bin .geq (.t 7) (ci 0)),
ia 4 (.mv (.t 8))]) .ret)), [(.tmp 4)]⟩
theorem cc146 : ccF Try.prog [(43, [0, 0]), (79, [1, 0]), (60, [0, 0]), (140, [0, 0]), (43, [9])] Try.f146 = some (stripF F146) := by kernel_rfl

/- (gossamer/wire.net).there$1 -/
def F147 : FnC := ⟨2, (.seq (.reg [
  ia 2 (.box 2 (.t 0)),
ia 3 (.mv (.c (.a (.p (.b false)))))]) (.seq (.reg [
  ia 4 (.fad 0 (.t 2)),
ia 5 (.ld 1 false (.t 4)),
ia 6 (.bin .lss (.t 5) (ci 0)),
ia 7 (.mv (.t 6)),
ih 8 7 false (.fad 0 (.t 2)),
ih 9 7 false (.ld 1 false (.t 8)),
ih 10 7 false (.fad 0 (.t 1)),
ih 11 7 false (.fad 0 (.t 10)),
ih 12 7 false (.ld 1 false (.t 11)),
ih 13 7 false (.len false (.t 12)),
ig 14 7 false (.bin .geq (.t 9) (.t 13)),
ia 15 (.pick (.t 7) (.c (.a (.p (.b true)))) (.t 14)),
ia 16 (.mv (.t 15)),
ig 17 16 false (.fad 1 (.t 2)),
ig 18 16 false (.ld 1 false (.t 17)),
ig 19 16 false (.bin .lss (.t 18) (ci 0)),
ia 20 (.pick (.t 16) (.c (.a (.p (.b true)))) (.t 19)),
ia 21 (.mv (.t 20)),
ih 22 21 false (.fad 1 (.t 2)),
ih 23 21 false (.ld 1 false (.t 22)),
ih 24 21 false (.fad 0 (.t 1)),
ih 25 21 false (.fad 0 (.t 24)),
ih 26 21 false (.ld 1 false (.t 25)),
ih 27 21 false (.fad 0 (.t 2)),
ih 28 21 false (.ld 1 false (.t 27)),
ih 29 21 false (.ias 6 (.t 26) (.t 28)),
ih 30 21 false (.fad 5 (.t 29)),
ih 31 21 false (.ld 1 false (.t 30)),
ih 32 21 false (.len false (.t 31)),
ig 33 21 false (.bin .geq (.t 23) (.t 32)),
ia 34 (.pick (.t 21) (.c (.a (.p (.b true)))) (.t 33)),
ia 3 (.mv (.t 34))]) .ret)), [(.tmp 3)]⟩
theorem cc147 : ccF Try.prog [(43, [0, 0]), (79, [1, 0]), (60, [0, 0]), (140, [0, 0]), (43, [9])] Try.f147 = some (stripF F147) := by kernel_rfl

/- gossamer/gossamerref14.half -/
def F148 : FnC := ⟨2, (.seq (.reg [
  ia 2 (.box 6 (.t 0)),
ia 3 (.box 6 (.t 1)),
ia 4 (.new [(.p (.i .i64 0)), (.p (.b false)), (.p (.i .i64 0)), (.p (.i .i64 0)), (.p (.i .i64 0)), (.p (.i .i64 0)), (.p (.i .i64 0)), (.p (.s [])), .nil, .nil]),
ia 5 (.mv (ci 0))]) (.seq (.reg [
  ia 9 (.fad 1 (.t 2)),
ia 10 (.ld 1 false (.t 9)),
ia 11 (.build [(.p (.i .i64 0)), (.p (.i .i64 0)), (.p (.i .i64 0)), (.p (.s [])), .nil, .nil] [(0, (1, (ci 10))), (1, (1, (.t 10)))]),
ia 6 (.new [(.p (.i .i64 0)), (.p (.i .i64 0)), (.p (.i .i64 0)), (.p (.s [])), .nil, .nil]),
io (.st 6 (.t 6) (.t 11))]) (.seq (.seq (.reg [
  ia 12 (.fad 3 (.t 2)),
ia 13 (.ld 1 false (.t 12)),
ia 14 (.bin .eql (.t 13) (.c (.a (.p (.s [43]))))),
ia 15 (.mv (.t 14)),
ig 16 15 false (.fad 3 (.t 2)),
ig 17 15 false (.ld 1 false (.t 16)),
ig 18 15 false (.bin .eql (.t 17) (.c (.a (.p (.s [45]))))),
ia 19 (.pick (.t 15) (.c (.a (.p (.b true)))) (.t 18)),
ia 20 (.mv (.t 19)),
ig 21 20 false (.fad 3 (.t 2)),
ig 22 20 false (.ld 1 false (.t 21)),
ig 23 20 false (.bin .eql (.t 22) (.c (.a (.p (.s [42]))))),
ia 24 (.pick (.t 20) (.c (.a (.p (.b true)))) (.t 23)),
ia 25 (.mv (.t 24)),
ig 26 25 false (.fad 3 (.t 2)),
ig 27 25 false (.ld 1 false (.t 26)),
ig 28 25 false (.bin .eql (.t 27) (.c (.a (.p (.s [47]))))),
ia 29 (.pick (.t 25) (.c (.a (.p (.b true)))) (.t 28)),
ia 30 (.mv (.t 29)),
ig 31 30 false (.fad 3 (.t 2)),
ig 32 30 false (.ld 1 false (.t 31)),
ig 33 30 false (.bin .eql (.t 32) (.c (.a (.p (.s [60]))))),
ia 34 (.pick (.t 30) (.c (.a (.p (.b true)))) (.t 33)),
ia 35 (.mv (.t 34)),
ig 36 35 false (.fad 3 (.t 2)),
ig 37 35 false (.ld 1 false (.t 36)),
ig 38 35 false (.bin .eql (.t 37) (.c (.a (.p (.s [61, 61]))))),
ia 39 (.pick (.t 35) (.c (.a (.p (.b true)))) (.t 38))]) (.cond (.t 39) (.seq (.reg [
  ia 41 (.fad 3 (.t 2)),
ia 42 (.ld 1 false (.t 41)),
ia 43 (.fad 2 (.t 2)),
ia 44 (.ld 1 false (.t 43)),
ia 45 (.build [(.p (.i .i64 0)), (.p (.i .i64 0)), (.p (.s [])), .nil] [(0, (1, (ci 7))), (1, (1, (.t 44)))]),
ia 46 (.fad 2 (.t 3)),
ia 47 (.ld 1 false (.t 46)),
ia 48 (.build [(.p (.i .i64 0)), (.p (.i .i64 0)), (.p (.s [])), .nil] [(0, (1, (ci 7))), (1, (1, (.t 47)))]),
ia 49 (.bsl 4 46 [(.p (.i .i64 0)), (.p (.i .i64 0)), (.p (.s [])), .nil] 2 [(0, (.t 45)), (1, (.t 48))]),
ia 50 (.build [(.p (.i .i64 0)), (.p (.i .i64 0)), (.p (.s [])), .nil] [(0, (1, (ci 8))), (2, (1, (.t 42))), (3, (1, (.t 49)))]),
ia 51 (.call (.f 163) [(.t 50)]),
ia 40 (.mv (.t 51)),
ia 52 (.ext (.t 40) 0),
ia 53 (.ext (.t 40) 1),
ia 7 (.new [(.p (.i .i64 0)), (.p (.i .i64 0)), (.p (.s [])), .nil]),
io (.st 4 (.t 7) (.t 52)),
ia 8 (.mv (.t 53))]) (.seq (.seq (.reg [
  ia 54 (.mv (.t 8)),
ia 55 (.bin .eql (.t 54) (ci 4))]) (.cond (.t 55) (.seq (.reg [
  ia 56 (.build [(.p (.i .i64 0)), (.p (.b false)), (.p (.i .i64 0)), (.p (.i .i64 0)), (.p (.i .i64 0)), (.p (.i .i64 0)), (.p (.i .i64 0)), (.p (.s [])), .nil, .nil] [(0, (1, (ci 5)))]),
io (.st 10 (.t 4) (.t 56)),
ia 5 (.mv (ci 0))]) .ret) .skip)) (.seq (.reg [
  ia 57 (.fad 1 (.t 7)),
ia 58 (.ld 1 false (.t 57)),
ia 59 (.fad 2 (.t 6)),
io (.st 1 (.t 59) (.t 58))]) (.seq (.reg [
  ia 60 (.fad 0 (.t 7)),
ia 61 (.ld 1 false (.t 60)),
ia 62 (.bin .eql (.t 61) (ci 4))]) (.cond (.t 62) (.reg [
  ia 63 (.fad 1 (.t 2)),
ia 64 (.ld 1 false (.t 63)),
ia 65 (.fad 2 (.t 7)),
ia 66 (.ld 1 false (.t 65)),
ia 67 (.build [(.p (.i .i64 0)), (.p (.i .i64 0))] []),
ia 68 (.bsl 2 43 [(.p (.i .i64 0)), (.p (.i .i64 0))] 1 [(0, (.t 67))]),
ia 69 (.build [(.p (.i .i64 0)), (.p (.i .i64 0)), (.p (.i .i64 0)), (.p (.s [])), .nil, .nil] [(0, (1, (ci 8))), (1, (1, (.t 64))), (3, (1, (.t 66))), (5, (1, (.t 68)))]),
io (.st 6 (.t 6) (.t 69))]) .skip))))) .skip)) (.seq (.reg [
  ia 70 (.ld 6 true (.t 6)),
ia 71 (.build [(.p (.i .i64 0)), (.p (.b false)), (.p (.i .i64 0)), (.p (.i .i64 0)), (.p (.i .i64 0)), (.p (.i .i64 0)), (.p (.i .i64 0)), (.p (.s [])), .nil, .nil] [(0, (1, (ci 4))), (4, (6, (.t 70)))]),
io (.st 10 (.t 4) (.t 71)),
ia 5 (.mv (ci 0))]) .ret)))), [(.cell 4 10 true), (.tmp 5)]⟩
theorem cc148 : ccF Try.prog [(43, [0, 0]), (79, [1, 0]), (60, [0, 0]), (140, [0, 0]), (43, [9])] Try.f148 = some (stripF F148) := by kernel_rfl

/- slices.IndexFunc[[]gossamer/api.Arity,gossamer/api.Arity] -/
def F149b0 : C := (.seq (.reg [
  ia 9 (.bin .lss (.t 8) (.t 7))]) (.seq (.cond (.t 9) .skip (.exit 0)) (.seq (.block 1 (.seq (.reg [
  ia 10 (.mv (.t 8)),
ia 5 (.mv (.t 10))]) (.seq (.reg [
  ia 11 (.mv (.t 1)),
ia 12 (.mv (.t 0)),
ia 13 (.mv (.t 5)),
ia 14 (.ias 2 (.t 12) (.t 13)),
ia 15 (.ld 2 true (.t 14)),
ia 16 (.call (.t 11) [(.t 15)])]) (.cond (.t 16) (.seq (.reg [
  ia 17 (.mv (.t 5)),
ia 4 (.mv (.t 17))]) .ret) .skip)))) (.reg [
  ia 18 (.bin .add (.t 8) (ci 1)),
ia 8 (.mv (.t 18))]))))
def F149 : FnC := ⟨2, (.seq (.reg [
  ia 4 (.mv (ci 0))]) (.seq (.seq (.reg [
  ia 6 (.mv (.t 0)),
ia 7 (.len false (.t 6)),
ia 8 (.mv (ci 0))]) (.block 0 (.loop F149b0))) (.seq (.reg [
  ia 4 (.mv (.c (.a (.p (.i .i64 (-1))))))]) .ret))), [(.tmp 4)]⟩
theorem cc149 : ccF Try.prog [(43, [0, 0]), (79, [1, 0]), (60, [0, 0]), (140, [0, 0]), (43, [9])] Try.f149 = some (stripF F149) := by kernel_rfl

/- gossamer/rule.pick$1 -/
def F150 : FnC := ⟨2, (.seq (.reg [
  ia 2 (.box 2 (.t 0)),
ia 3 (.mv (.c (.a (.p (.b false)))))]) (.seq (.reg [
  ia 4 (.fad 0 (.t 2)),
ia 5 (.ld 1 false (.t 4)),
ia 6 (.fad 3 (.t 1)),
ia 7 (.ld 1 false (.t 6)),
ia 8 (.bin .eql (.t 5) (.t 7)),
ia 9 (.mv (.t 8)),
ig 10 9 true (.fad 1 (.t 2)),
ig 11 9 true (.ld 1 false (.t 10)),
ig 12 9 true (.fad 5 (.t 1)),
ig 13 9 true (.ld 1 false (.t 12)),
ig 14 9 true (.len false (.t 13)),
ig 15 9 true (.bin .sub (.t 14) (ci 1)),
ig 16 9 true (.bin .eql (.t 11) (.t 15)),
ia 17 (.pick (.t 9) (.t 16) (.c (.a (.p (.b false))))),
ia 3 (.mv (.t 17))]) .ret)), [(.tmp 3)]⟩
theorem cc150 : ccF Try.prog [(43, [0, 0]), (79, [1, 0]), (60, [0, 0]), (140, [0, 0]), (43, [9])] Try.f150 = some (stripF F150) := by kernel_rfl

/- gossamer/rule.truth -/
def F151 : FnC := ⟨1, (.seq (.reg [
  ia 2 (.new [(.p (.i .i64 0)), (.p (.i .i64 0)), (.p (.i .i64 0)), (.p (.s [])), .nil, .nil])]) (.seq (.reg [
  ia 3 (.mv (.c (.a (.p (.s [70, 97, 108, 115, 101])))))]) (.seq (.seq (.reg [
  ia 4 (.mv (.t 0))]) (.cond (.t 4) (.reg [
  ia 3 (.mv (.c (.a (.p (.s [84, 114, 117, 101])))))]) .skip)) (.seq (.reg [
  ia 5 (.mv (.t 3)),
ia 6 (.mslF 2 43 16 [(.p (.i .i64 0)), (.p (.i .i64 0))] (ci 1) (ci 1)),
ia 7 (.build [(.p (.i .i64 0)), (.p (.i .i64 0)), (.p (.i .i64 0)), (.p (.s [])), .nil, .nil] [(0, (1, (ci 8))), (3, (1, (.t 5))), (5, (1, (.t 6)))]),
io (.st 6 (.t 2) (.t 7))]) .ret)))), [(.cell 2 6 true)]⟩
theorem cc151 : ccF Try.prog [(43, [0, 0]), (79, [1, 0]), (60, [0, 0]), (140, [0, 0]), (43, [9])] Try.f151 = some (stripF F151) := by kernel_rfl

/- gossamer/wire.Join -/
def F152 : FnC := ⟨3, (.seq (.reg [
  ia 3 (.box 2 (.t 0)),
ia 4 (.box 2 (.t 1)),
ia 5 (.box 2 (.t 2)),
ia 6 (.new [.nil, (.p (.i .i64 0))]),
ia 7 (.mv (ci 0))]) (.seq (.reg [
  ia 9 (.ld 2 true (.t 3)),
ia 10 (.build [.nil, (.p (.i .i64 0))] [(0, (2, (.t 9)))]),
ia 8 (.new [.nil, (.p (.i .i64 0))]),
io (.st 2 (.t 8) (.t 10))]) (.seq (.block 0 (.seq (.reg [
  ir 12 (.ld 2 true (.t 8)),
ir 13 (.ld 2 true (.t 4)),
ir 14 (.ld 2 true (.t 5)),
⟨(.some 15), .none, (.bsl 2 43 [(.p (.i .i64 0)), (.p (.i .i64 0))] 2 [(0, (.t 13)), (1, (.t 14))]), .ad⟩,
ia 16 (.call (.f 122) [(.t 12), (.t 15)]),
ia 17 (.not (.t 16)),
ia 18 (.mv (.t 17)),
ih 19 18 false (.ld 2 true (.t 4)),
ih 20 18 false (.ld 2 true (.t 5)),
ig 21 18 false (.eqg false [0, 0] (.t 19) (.t 20)),
ia 22 (.pick (.t 18) (.c (.a (.p (.b true)))) (.t 21)),
ia 23 (.mv (.t 22)),
ih 24 23 false (.ld 2 true (.t 8)),
ih 25 23 false (.ld 2 true (.t 8)),
ih 26 23 false (.ld 2 true (.t 4)),
ih 27 23 false (.call (.f 123) [(.t 25), (.t 26)]),
ih 28 23 false (.ld 2 true (.t 8)),
ih 29 23 false (.ld 2 true (.t 5)),
ih 30 23 false (.call (.f 123) [(.t 28), (.t 29)]),
⟨(.some 31), (.some (23, false)), (.bsl 2 43 [(.p (.i .i64 0)), (.p (.i .i64 0))] 2 [(0, (.t 27)), (1, (.t 30))]), .ad⟩,
ig 32 23 false (.call (.f 122) [(.t 24), (.t 31)]),
ig 33 23 false (.not (.t 32)),
ia 34 (.pick (.t 23) (.c (.a (.p (.b true)))) (.t 33)),
ia 11 (.mv (.t 34))]) (.cond (.t 11) (.seq (.reg [
  ia 35 (.ld 2 true (.t 3)),
io (.st 2 (.t 6) (.t 35)),
ia 7 (.mv (ci 130))]) .ret) (.seq (.reg [
  ir 37 (.ld 2 true (.t 8)),
ir 38 (.ld 2 true (.t 4)),
ir 39 (.call (.f 123) [(.t 37), (.t 38)]),
ir 40 (.ld 2 true (.t 5)),
ia 41 (.eqg false [0, 0] (.t 39) (.t 40)),
ia 36 (.mv (.t 41))]) (.cond (.t 36) (.seq (.reg [
  ia 42 (.ld 2 true (.t 3)),
io (.st 2 (.t 6) (.t 42)),
ia 7 (.mv (ci 0))]) .ret) .skip))))) (.seq (.reg [
  ir 43 (.ld 2 true (.t 8)),
ir 44 (.ld 2 true (.t 8)),
ir 45 (.ld 2 true (.t 4)),
ir 46 (.call (.f 123) [(.t 44), (.t 45)]),
ir 47 (.ld 2 true (.t 8)),
ir 48 (.ld 2 true (.t 5)),
ir 49 (.call (.f 123) [(.t 47), (.t 48)]),
ia 50 (.call (.f 154) [(.t 43), (.t 46), (.t 49)]),
ir 51 (.ext (.t 50) 0),
ir 52 (.ext (.t 50) 1),
io (.st 2 (.t 6) (.t 51)),
ia 7 (.mv (.t 52))]) .ret)))), [(.cell 6 2 true), (.tmp 7)]⟩
theorem cc152 : ccF Try.prog [(43, [0, 0]), (79, [1, 0]), (60, [0, 0]), (140, [0, 0]), (43, [9])] Try.f152 = some (stripF F152) := by kernel_rfl

/- gossamer/wire.Link -/
def F153 : FnC := ⟨3, (.seq (.reg [
  ia 3 (.box 2 (.t 0)),
ia 4 (.box 2 (.t 1)),
ia 5 (.box 2 (.t 2)),
ia 6 (.new [.nil, (.p (.i .i64 0))]),
ia 7 (.mv (ci 0))]) (.seq (.reg [
  ia 8 (.ld 2 true (.t 3)),
ia 9 (.build [.nil, (.p (.i .i64 0))] [(0, (2, (.t 8)))]),
ia 10 (.ld 2 true (.t 4)),
ia 11 (.ld 2 true (.t 5)),
ia 12 (.call (.f 154) [(.t 9), (.t 10), (.t 11)]),
ia 13 (.ext (.t 12) 0),
ia 14 (.ext (.t 12) 1),
io (.st 2 (.t 6) (.t 13)),
ia 7 (.mv (.t 14))]) .ret)), [(.cell 6 2 true), (.tmp 7)]⟩
theorem cc153 : ccF Try.prog [(43, [0, 0]), (79, [1, 0]), (60, [0, 0]), (140, [0, 0]), (43, [9])] Try.f153 = some (stripF F153) := by kernel_rfl

/- (gossamer/wire.net).link -/
def F154 : FnC := ⟨3, (.seq (.reg [
  ia 3 (.box 2 (.t 0)),
ia 4 (.box 2 (.t 1)),
ia 5 (.box 2 (.t 2)),
ia 6 (.new [.nil, (.p (.i .i64 0))]),
ia 7 (.mv (ci 0))]) (.seq (.seq (.reg [
  ia 8 (.ld 2 true (.t 3)),
ia 9 (.ld 2 true (.t 4)),
ia 10 (.ld 2 true (.t 5)),
ia 11 (.bsl 2 43 [(.p (.i .i64 0)), (.p (.i .i64 0))] 2 [(0, (.t 9)), (1, (.t 10))]),
ia 12 (.call (.f 122) [(.t 8), (.t 11)]),
ia 13 (.not (.t 12)),
ia 14 (.mv (.t 13)),
ig 15 14 false (.ld 2 true (.t 4)),
ig 16 14 false (.ld 2 true (.t 5)),
ig 17 14 false (.eqg false [0, 0] (.t 15) (.t 16)),
ia 18 (.pick (.t 14) (.c (.a (.p (.b true)))) (.t 17))]) (.cond (.t 18) (.seq (.reg [
  ia 19 (.fad 0 (.t 3)),
ia 20 (.ld 2 true (.t 19)),
io (.st 2 (.t 6) (.t 20)),
ia 7 (.mv (ci 130))]) .ret) .skip)) (.seq (.reg [
  ir 21 (.ld 2 true (.t 3)),
ir 22 (.ld 2 true (.t 4)),
ir 23 (.ld 2 true (.t 5)),
ir 24 (.call (.f 164) [(.t 21), (.t 22), (.t 23)]),
ir 25 (.ld 2 true (.t 5)),
ir 26 (.ld 2 true (.t 4)),
ia 27 (.call (.f 164) [(.t 24), (.t 25), (.t 26)]),
ia 28 (.fld 0 2 true (.t 27)),
io (.st 2 (.t 6) (.t 28)),
ia 7 (.mv (ci 0))]) .ret))), [(.cell 6 2 true), (.tmp 7)]⟩
theorem cc154 : ccF Try.prog [(43, [0, 0]), (79, [1, 0]), (60, [0, 0]), (140, [0, 0]), (43, [9])] Try.f154 = some (stripF F154) := by kernel_rfl

/- slices.Clone[[]gossamer/api.Arity,gossamer/api.Arity] -/
def F155 : FnC := ⟨1, (.seq (.reg [
  ia 2 (.mv (.c (.a .nil)))]) (.seq (.seq (.reg [
  ia 3 (.mv (.t 0)),
ia 4 (.nq false (.t 3))]) (.cond (.t 4) (.seq (.reg [
  ia 2 (.mv (.c (.a .nil)))]) .ret) .skip)) (.seq (.reg [
  ia 5 (.bsl 2 79 [(.p (.s [])), (.p (.i .i64 0))] 0 []),
ia 6 (.mv (.t 0)),
ia 7 (.app 2 79 24 (.t 5) (.t 6)),
ia 2 (.mv (.t 7))]) .ret))), [(.tmp 2)]⟩
theorem cc155 : ccF Try.prog [(43, [0, 0]), (79, [1, 0]), (60, [0, 0]), (140, [0, 0]), (43, [9])] Try.f155 = some (stripF F155) := by kernel_rfl

/- slices.IndexFunc[[]gossamer/api.Node,gossamer/api.Node] -/
def F156b0 : C := (.seq (.reg [
  ia 9 (.bin .lss (.t 8) (.t 7))]) (.seq (.cond (.t 9) .skip (.exit 0)) (.seq (.block 1 (.seq (.reg [
  ia 10 (.mv (.t 8)),
ia 5 (.mv (.t 10))]) (.seq (.reg [
  ia 11 (.mv (.t 1)),
ia 12 (.mv (.t 0)),
ia 13 (.mv (.t 5)),
ia 14 (.ias 6 (.t 12) (.t 13)),
ia 15 (.ld 6 true (.t 14)),
ia 16 (.call (.t 11) [(.t 15)])]) (.cond (.t 16) (.seq (.reg [
  ia 17 (.mv (.t 5)),
ia 4 (.mv (.t 17))]) .ret) .skip)))) (.reg [
  ia 18 (.bin .add (.t 8) (ci 1)),
ia 8 (.mv (.t 18))]))))
def F156 : FnC := ⟨2, (.seq (.reg [
  ia 4 (.mv (ci 0))]) (.seq (.seq (.reg [
  ia 6 (.mv (.t 0)),
ia 7 (.len false (.t 6)),
ia 8 (.mv (ci 0))]) (.block 0 (.loop F156b0))) (.seq (.reg [
  ia 4 (.mv (.c (.a (.p (.i .i64 (-1))))))]) .ret))), [(.tmp 4)]⟩
theorem cc156 : ccF Try.prog [(43, [0, 0]), (79, [1, 0]), (60, [0, 0]), (140, [0, 0]), (43, [9])] Try.f156 = some (stripF F156) := by kernel_rfl

/- gossamer/gossamerref01.run -/
def F157b0 : C := (.seq (.seq (.reg [
  ia 9 (.mv (.t 1)),
ia 10 (.mv (.t 6)),
ia 11 (.bin .add (.t 9) (.t 10)),
ia 12 (.mv (.t 0)),
ia 13 (.len true (.t 12)),
ia 14 (.bin .lss (.t 11) (.t 13))]) (.cond (.t 14) .skip (.exit 0))) (.block 1 (.seq (.reg [
  ia 15 (.mv (.t 0)),
ia 16 (.mv (.t 1)),
ia 17 (.mv (.t 6)),
ia 18 (.bin .add (.t 16) (.t 17)),
ia 19 (.ixs (.t 15) (.t 18)),
ia 20 (.call (.f 159) [(.t 19)]),
ia 8 (.mv (.t 20))]) (.seq (.seq (.reg [
  ia 21 (.mv (.t 8)),
ia 22 (.bin .lss (.t 21) (ci 1)),
ia 23 (.mv (.t 22)),
ig 24 23 false (.mv (.t 8)),
ig 25 23 false (.bin .gtr (.t 24) (ci 3)),
ia 26 (.pick (.t 23) (.c (.a (.p (.b true)))) (.t 25))]) (.cond (.t 26) (.seq (.reg [
  ia 27 (.mv (.t 6)),
ia 28 (.mv (.t 7)),
ia 4 (.mv (.t 27)),
ia 5 (.mv (.t 28))]) .ret) .skip)) (.seq (.reg [
  ia 29 (.mv (.t 7)),
ia 30 (.mv (.t 29)),
ig 31 30 false (.mv (.t 8)),
ig 32 30 false (.bin .lss (.t 31) (ci 3)),
ia 33 (.pick (.t 30) (.c (.a (.p (.b true)))) (.t 32)),
ia 7 (.mv (.t 33))]) (.reg [
  ia 34 (.mv (.t 6)),
ia 35 (.bin .add (.t 34) (ci 1)),
ia 6 (.mv (.t 35))]))))))
def F157 : FnC := ⟨2, (.seq (.reg [
  ia 4 (.mv (ci 0)),
ia 5 (.mv (.c (.a (.p (.b false)))))]) (.seq (.reg [
  ia 6 (.mv (ci 0)),
ia 7 (.mv (.c (.a (.p (.b false)))))]) (.seq (.block 0 (.loop F157b0)) (.seq (.reg [
  ia 36 (.mv (.t 6)),
ia 37 (.mv (.t 7)),
ia 4 (.mv (.t 36)),
ia 5 (.mv (.t 37))]) .ret)))), [(.tmp 4), (.tmp 5)]⟩
theorem cc157 : ccF Try.prog [(43, [0, 0]), (79, [1, 0]), (60, [0, 0]), (140, [0, 0]), (43, [9])] Try.f157 = some (stripF F157) := by kernel_rfl

/- gossamer/gossamerref01.sign -/
def F158b0 : C := (.seq (.seq (.reg [
  ia 27 (.mv (.t 5)),
ia 28 (.bin .lss (.t 27) (ci 13))]) (.cond (.t 28) .skip (.exit 0))) (.seq (.block 1 (.seq (.reg [
  ir 31 (.mv (.t 5)),
ir 32 (.ixs (.c (.a (.p (.s [92, 46, 40, 41, 61, 123, 125, 124, 43, 45, 42, 47, 60])))) (.t 31)),
ir 33 (.mv (.t 0)),
ir 34 (.mv (.t 1)),
ir 35 (.ixs (.t 33) (.t 34)),
ia 36 (.bin .eql (.t 32) (.t 35))]) (.cond (.t 36) (.seq (.reg [
  ia 4 (.mv (ci 1))]) .ret) .skip))) (.reg [
  ia 29 (.mv (.t 5)),
ia 30 (.bin .add (.t 29) (ci 1)),
ia 5 (.mv (.t 30))])))
def F158 : FnC := ⟨2, (.seq (.reg [
  ia 4 (.mv (ci 0))]) (.seq (.seq (.reg [
  ia 6 (.mv (.t 1)),
ia 7 (.bin .add (.t 6) (ci 1)),
ia 8 (.mv (.t 0)),
ia 9 (.len true (.t 8)),
ia 10 (.bin .lss (.t 7) (.t 9)),
ia 11 (.mv (.t 10)),
ig 12 11 true (.mv (.t 0)),
ig 13 11 true (.mv (.t 1)),
ig 14 11 true (.mv (.t 1)),
ig 15 11 true (.bin .add (.t 14) (ci 2)),
ig 16 11 true (.sub (.t 12) (.some (.t 13)) (.some (.t 15))),
ig 17 11 true (.bin .eql (.t 16) (.c (.a (.p (.s [45, 62]))))),
ig 18 11 true (.mv (.t 17)),
ig 19 18 false (.mv (.t 0)),
ig 20 18 false (.mv (.t 1)),
ig 21 18 false (.mv (.t 1)),
ig 22 18 false (.bin .add (.t 21) (ci 2)),
ig 23 18 false (.sub (.t 19) (.some (.t 20)) (.some (.t 22))),
ig 24 18 false (.bin .eql (.t 23) (.c (.a (.p (.s [61, 61]))))),
ig 25 11 true (.pick (.t 18) (.c (.a (.p (.b true)))) (.t 24)),
ia 26 (.pick (.t 11) (.t 25) (.c (.a (.p (.b false)))))]) (.cond (.t 26) (.seq (.reg [
  ia 4 (.mv (ci 2))]) .ret) .skip)) (.seq (.seq (.reg [
  ia 5 (.mv (ci 0))]) (.block 0 (.loop F158b0))) (.seq (.reg [
  ia 4 (.mv (ci 0))]) .ret)))), [(.tmp 4)]⟩
theorem cc158 : ccF Try.prog [(43, [0, 0]), (79, [1, 0]), (60, [0, 0]), (140, [0, 0]), (43, [9])] Try.f158 = some (stripF F158) := by kernel_rfl

/- gossamer/gossamerref01.class -/
def F159 : FnC := ⟨1, (.seq (.reg [
  ia 2 (.mv (ci 0))]) (.seq (.seq (.reg [
  ia 3 (.mv (.t 0)),
ia 4 (.bin .geq (.t 3) (.c (.a (.p (.i .u8 97))))),
ia 5 (.mv (.t 4)),
ig 6 5 true (.mv (.t 0)),
ig 7 5 true (.bin .leq (.t 6) (.c (.a (.p (.i .u8 122))))),
ia 8 (.pick (.t 5) (.t 7) (.c (.a (.p (.b false)))))]) (.cond (.t 8) (.seq (.reg [
  ia 2 (.mv (ci 1))]) .ret) .skip)) (.seq (.seq (.reg [
  ia 9 (.mv (.t 0)),
ia 10 (.bin .geq (.t 9) (.c (.a (.p (.i .u8 65))))),
ia 11 (.mv (.t 10)),
ig 12 11 true (.mv (.t 0)),
ig 13 11 true (.bin .leq (.t 12) (.c (.a (.p (.i .u8 90))))),
ia 14 (.pick (.t 11) (.t 13) (.c (.a (.p (.b false)))))]) (.cond (.t 14) (.seq (.reg [
  ia 2 (.mv (ci 2))]) .ret) .skip)) (.seq (.seq (.reg [
  ia 15 (.mv (.t 0)),
ia 16 (.bin .geq (.t 15) (.c (.a (.p (.i .u8 48))))),
ia 17 (.mv (.t 16)),
ig 18 17 true (.mv (.t 0)),
ig 19 17 true (.bin .leq (.t 18) (.c (.a (.p (.i .u8 57))))),
ia 20 (.pick (.t 17) (.t 19) (.c (.a (.p (.b false)))))]) (.cond (.t 20) (.seq (.reg [
  ia 2 (.mv (ci 3))]) .ret) .skip)) (.seq (.seq (.reg [
  ia 21 (.mv (.t 0)),
ia 22 (.bin .eql (.t 21) (.c (.a (.p (.i .u8 32))))),
ia 23 (.mv (.t 22)),
ig 24 23 false (.mv (.t 0)),
ig 25 23 false (.bin .eql (.t 24) (.c (.a (.p (.i .u8 10))))),
ia 26 (.pick (.t 23) (.c (.a (.p (.b true)))) (.t 25)),
ia 27 (.mv (.t 26)),
ig 28 27 false (.mv (.t 0)),
ig 29 27 false (.bin .eql (.t 28) (.c (.a (.p (.i .u8 9))))),
ia 30 (.pick (.t 27) (.c (.a (.p (.b true)))) (.t 29))]) (.cond (.t 30) (.seq (.reg [
  ia 2 (.mv (ci 4))]) .ret) .skip)) (.seq (.reg [
  ia 2 (.mv (ci 0))]) .ret)))))), [(.tmp 2)]⟩
theorem cc159 : ccF Try.prog [(43, [0, 0]), (79, [1, 0]), (60, [0, 0]), (140, [0, 0]), (43, [9])] Try.f159 = some (stripF F159) := by kernel_rfl

/- gossamer/gossamerref01.number -/
def F160b0 : C := (.seq (.seq (.reg [
  ia 5 (.mv (.t 4)),
ia 6 (.mv (.t 0)),
ia 7 (.len true (.t 6)),
ia 8 (.bin .lss (.t 5) (.t 7))]) (.cond (.t 8) .skip (.exit 0))) (.seq (.block 1 (.reg [
  ia 11 (.mv (.t 3)),
ia 12 (.bin .mul (ci 10) (.t 11)),
ia 13 (.mv (.t 0)),
ia 14 (.mv (.t 4)),
ia 15 (.ixs (.t 13) (.t 14)),
ia 16 (.cvi .i64 (.t 15)),
ia 17 (.bin .add (.t 12) (.t 16)),
ia 18 (.bin .sub (.t 17) (ci 48)),
ia 3 (.mv (.t 18))])) (.reg [
  ia 9 (.mv (.t 4)),
ia 10 (.bin .add (.t 9) (ci 1)),
ia 4 (.mv (.t 10))])))
def F160 : FnC := ⟨1, (.seq (.reg [
  ia 2 (.mv (ci 0))]) (.seq (.reg [
  ia 3 (.mv (ci 0))]) (.seq (.seq (.reg [
  ia 4 (.mv (ci 0))]) (.block 0 (.loop F160b0))) (.seq (.reg [
  ia 19 (.mv (.t 3)),
ia 2 (.mv (.t 19))]) .ret)))), [(.tmp 2)]⟩
theorem cc160 : ccF Try.prog [(43, [0, 0]), (79, [1, 0]), (60, [0, 0]), (140, [0, 0]), (43, [9])] Try.f160 = some (stripF F160) := by kernel_rfl

/- gossamer/gossamerref01.Word -/
def F161 : FnC := ⟨1, (.seq (.reg [
  ia 2 (.mv (.c (.a (.p (.b false)))))]) (.seq (.reg [
  ia 3 (.mv (.t 0)),
ia 4 (.bin .eql (.t 3) (.c (.a (.p (.s [108, 101, 116]))))),
ia 5 (.mv (.t 4)),
ig 6 5 false (.mv (.t 0)),
ig 7 5 false (.bin .eql (.t 6) (.c (.a (.p (.s [108, 101, 116, 114, 101, 99]))))),
ia 8 (.pick (.t 5) (.c (.a (.p (.b true)))) (.t 7)),
ia 9 (.mv (.t 8)),
ig 10 9 false (.mv (.t 0)),
ig 11 9 false (.bin .eql (.t 10) (.c (.a (.p (.s [105, 110]))))),
ia 12 (.pick (.t 9) (.c (.a (.p (.b true)))) (.t 11)),
ia 13 (.mv (.t 12)),
ig 14 13 false (.mv (.t 0)),
ig 15 13 false (.bin .eql (.t 14) (.c (.a (.p (.s [99, 97, 115, 101]))))),
ia 16 (.pick (.t 13) (.c (.a (.p (.b true)))) (.t 15)),
ia 17 (.mv (.t 16)),
ig 18 17 false (.mv (.t 0)),
ig 19 17 false (.bin .eql (.t 18) (.c (.a (.p (.s [111, 102]))))),
ia 20 (.pick (.t 17) (.c (.a (.p (.b true)))) (.t 19)),
ia 2 (.mv (.t 20))]) .ret)), [(.tmp 2)]⟩
theorem cc161 : ccF Try.prog [(43, [0, 0]), (79, [1, 0]), (60, [0, 0]), (140, [0, 0]), (43, [9])] Try.f161 = some (stripF F161) := by kernel_rfl

/- slices.IndexFunc[[]gossamer/api.Port,gossamer/api.Port] -/
def F162b0 : C := (.seq (.reg [
  ia 9 (.bin .lss (.t 8) (.t 7))]) (.seq (.cond (.t 9) .skip (.exit 0)) (.seq (.block 1 (.seq (.reg [
  ia 10 (.mv (.t 8)),
ia 5 (.mv (.t 10))]) (.seq (.reg [
  ia 11 (.mv (.t 1)),
ia 12 (.mv (.t 0)),
ia 13 (.mv (.t 5)),
ia 14 (.ias 2 (.t 12) (.t 13)),
ia 15 (.ld 2 true (.t 14)),
ia 16 (.call (.t 11) [(.t 15)])]) (.cond (.t 16) (.seq (.reg [
  ia 17 (.mv (.t 5)),
ia 4 (.mv (.t 17))]) .ret) .skip)))) (.reg [
  ia 18 (.bin .add (.t 8) (ci 1)),
ia 8 (.mv (.t 18))]))))
def F162 : FnC := ⟨2, (.seq (.reg [
  ia 4 (.mv (ci 0))]) (.seq (.seq (.reg [
  ia 6 (.mv (.t 0)),
ia 7 (.len false (.t 6)),
ia 8 (.mv (ci 0))]) (.block 0 (.loop F162b0))) (.seq (.reg [
  ia 4 (.mv (.c (.a (.p (.i .i64 (-1))))))]) .ret))), [(.tmp 4)]⟩
theorem cc162 : ccF Try.prog [(43, [0, 0]), (79, [1, 0]), (60, [0, 0]), (140, [0, 0]), (43, [9])] Try.f162 = some (stripF F162) := by kernel_rfl

/- gossamer/gossamerref09.Step -/
def F163 : FnC := ⟨1, (.seq (.reg [
  ia 1 (.box 4 (.t 0)),
ia 2 (.new [(.p (.i .i64 0)), (.p (.i .i64 0)), (.p (.s [])), .nil]),
ia 3 (.mv (ci 0))]) (.seq (.seq (.reg [
  ia 4 (.ld 4 true (.t 1)),
ia 5 (.call (.f 31) [(.t 4), (ci 4611686018427387904)]),
ia 6 (.not (.t 5))]) (.cond (.t 6) (.seq (.reg [
  ia 7 (.ld 4 true (.t 1)),
io (.st 4 (.t 2) (.t 7)),
ia 3 (.mv (ci 0))]) .ret) .skip)) (.seq (.reg [
  ia 8 (.ld 4 true (.t 1)),
ia 9 (.call (.f 165) [(.t 8)]),
ia 10 (.ext (.t 9) 0),
ia 11 (.ext (.t 9) 1),
io (.st 4 (.t 2) (.t 10)),
ia 3 (.mv (.t 11))]) .ret))), [(.cell 2 4 true), (.tmp 3)]⟩
theorem cc163 : ccF Try.prog [(43, [0, 0]), (79, [1, 0]), (60, [0, 0]), (140, [0, 0]), (43, [9])] Try.f163 = some (stripF F163) := by kernel_rfl

/- (gossamer/wire.net).with -/
def F164 : FnC := ⟨3, (.seq (.reg [
  ia 3 (.box 2 (.t 0)),
ia 4 (.box 2 (.t 1)),
ia 5 (.box 2 (.t 2)),
ia 6 (.new [.nil, (.p (.i .i64 0))])]) (.seq (.reg [
  ia 8 (.fad 0 (.t 3)),
ia 9 (.fad 0 (.t 8)),
ia 10 (.ld 1 false (.t 9)),
ia 11 (.fad 0 (.t 4)),
ia 12 (.ld 1 false (.t 11)),
ia 13 (.ias 6 (.t 10) (.t 12)),
ia 14 (.ld 6 true (.t 13)),
ia 7 (.new [(.p (.i .i64 0)), (.p (.i .i64 0)), (.p (.i .i64 0)), (.p (.s [])), .nil, .nil]),
io (.st 6 (.t 7) (.t 14))]) (.seq (.reg [
  ia 15 (.fad 5 (.t 7)),
ia 16 (.ld 1 false (.t 15)),
ia 17 (.call (.f 166) [(.t 16)]),
ia 18 (.fad 5 (.t 7)),
io (.st 1 (.t 18) (.t 17))]) (.seq (.reg [
  ia 19 (.fad 5 (.t 7)),
ia 20 (.ld 1 false (.t 19)),
ia 21 (.fad 1 (.t 4)),
ia 22 (.ld 1 false (.t 21)),
ia 23 (.ld 2 true (.t 5)),
ia 24 (.ias 2 (.t 20) (.t 22)),
io (.st 2 (.t 24) (.t 23))]) (.seq (.reg [
  ia 25 (.fad 0 (.t 3)),
ia 26 (.fad 0 (.t 25)),
ia 27 (.ld 1 false (.t 26)),
ia 28 (.call (.f 167) [(.t 27)]),
ia 29 (.fad 0 (.t 3)),
ia 30 (.fad 0 (.t 29)),
io (.st 1 (.t 30) (.t 28))]) (.seq (.reg [
  ia 31 (.fad 0 (.t 3)),
ia 32 (.fad 0 (.t 31)),
ia 33 (.ld 1 false (.t 32)),
ia 34 (.fad 0 (.t 4)),
ia 35 (.ld 1 false (.t 34)),
ia 36 (.ld 6 true (.t 7)),
ia 37 (.ias 6 (.t 33) (.t 35)),
io (.st 6 (.t 37) (.t 36))]) (.seq (.reg [
  ia 38 (.ld 2 true (.t 3)),
io (.st 2 (.t 6) (.t 38))]) .ret))))))), [(.cell 6 2 true)]⟩
theorem cc164 : ccF Try.prog [(43, [0, 0]), (79, [1, 0]), (60, [0, 0]), (140, [0, 0]), (43, [9])] Try.f164 = some (stripF F164) := by kernel_rfl

/- gossamer/gossamerref09.step -/
def F165 : FnC := ⟨1, (.seq (.reg [
  ia 1 (.box 4 (.t 0)),
ia 2 (.new [(.p (.i .i64 0)), (.p (.i .i64 0)), (.p (.s [])), .nil]),
ia 3 (.mv (ci 0))]) (.seq (.seq (.reg [
  ia 6 (.fad 0 (.t 1)),
ia 7 (.ld 1 false (.t 6)),
ia 8 (.bin .neq (.t 7) (ci 3)),
ia 9 (.mv (.t 8)),
ig 10 9 true (.fad 0 (.t 1)),
ig 11 9 true (.ld 1 false (.t 10)),
ig 12 9 true (.bin .neq (.t 11) (ci 5)),
ia 13 (.pick (.t 9) (.t 12) (.c (.a (.p (.b false))))),
ia 14 (.mv (.t 13)),
ig 15 14 true (.fad 0 (.t 1)),
ig 16 14 true (.ld 1 false (.t 15)),
ig 17 14 true (.bin .neq (.t 16) (ci 8)),
ia 18 (.pick (.t 14) (.t 17) (.c (.a (.p (.b false)))))]) (.cond (.t 18) (.seq (.reg [
  ia 19 (.ld 4 true (.t 1)),
io (.st 4 (.t 2) (.t 19)),
ia 3 (.mv (ci 0))]) .ret) .skip)) (.seq (.reg [
  ia 20 (.fad 3 (.t 1)),
ia 21 (.ld 1 false (.t 20)),
ia 22 (.ias 4 (.t 21) (ci 0)),
ia 23 (.ld 4 true (.t 22)),
ia 4 (.new [(.p (.i .i64 0)), (.p (.i .i64 0)), (.p (.s [])), .nil]),
io (.st 4 (.t 4) (.t 23))]) (.seq (.seq (.reg [
  ia 24 (.ld 4 true (.t 4)),
ia 25 (.call (.f 168) [(.t 24)]),
ia 26 (.not (.t 25))]) (.cond (.t 26) (.seq (.reg [
  ia 27 (.ld 4 true (.t 1)),
ia 28 (.call (.f 169) [(.t 27), (ci 0)]),
ia 29 (.ext (.t 28) 0),
ia 30 (.ext (.t 28) 1),
io (.st 4 (.t 2) (.t 29)),
ia 3 (.mv (.t 30))]) .ret) .skip)) (.seq (.seq (.reg [
  ia 31 (.fad 0 (.t 1)),
ia 32 (.ld 1 false (.t 31)),
ia 33 (.bin .eql (.t 32) (ci 5))]) (.cond (.t 33) (.seq (.reg [
  ia 34 (.ld 4 true (.t 1)),
ia 35 (.call (.f 170) [(.t 34)]),
ia 36 (.ext (.t 35) 0),
ia 37 (.ext (.t 35) 1),
io (.st 4 (.t 2) (.t 36)),
ia 3 (.mv (.t 37))]) .ret) .skip)) (.seq (.seq (.reg [
  ia 38 (.fad 0 (.t 1)),
ia 39 (.ld 1 false (.t 38)),
ia 40 (.bin .eql (.t 39) (ci 3))]) (.cond (.t 40) (.seq (.seq (.reg [
  ia 41 (.fad 0 (.t 4)),
ia 42 (.ld 1 false (.t 41)),
ia 43 (.bin .eql (.t 42) (ci 2))]) (.cond (.t 43) (.seq (.reg [
  ir 44 (.fad 3 (.t 4)),
ir 45 (.ld 1 false (.t 44)),
ir 46 (.ias 4 (.t 45) (ci 0)),
ir 47 (.ld 4 true (.t 46)),
ir 48 (.fad 3 (.t 1)),
ir 49 (.ld 1 false (.t 48)),
ir 50 (.ias 4 (.t 49) (ci 1)),
ir 51 (.ld 4 true (.t 50)),
ia 52 (.call (.f 171) [(.t 47), (ci 0), (.t 51)]),
io (.st 4 (.t 2) (.t 52)),
ia 3 (.mv (ci 1))]) .ret) .skip)) (.seq (.reg [
  ia 53 (.call (.f 172) []),
ia 54 (.ext (.t 53) 0),
ia 55 (.ext (.t 53) 1),
io (.st 4 (.t 2) (.t 54)),
ia 3 (.mv (.t 55))]) .ret)) .skip)) (.seq (.reg [
  ia 56 (.fad 3 (.t 1)),
ia 57 (.ld 1 false (.t 56)),
ia 58 (.ias 4 (.t 57) (ci 1)),
ia 59 (.ld 4 true (.t 58)),
ia 5 (.new [(.p (.i .i64 0)), (.p (.i .i64 0)), (.p (.s [])), .nil]),
io (.st 4 (.t 5) (.t 59))]) (.seq (.seq (.reg [
  ia 60 (.fad 0 (.t 4)),
ia 61 (.ld 1 false (.t 60)),
ia 62 (.bin .neq (.t 61) (ci 7))]) (.cond (.t 62) (.seq (.reg [
  ia 63 (.call (.f 172) []),
ia 64 (.ext (.t 63) 0),
ia 65 (.ext (.t 63) 1),
io (.st 4 (.t 2) (.t 64)),
ia 3 (.mv (.t 65))]) .ret) .skip)) (.seq (.seq (.reg [
  ia 66 (.ld 4 true (.t 5)),
ia 67 (.call (.f 168) [(.t 66)]),
ia 68 (.not (.t 67))]) (.cond (.t 68) (.seq (.reg [
  ia 69 (.ld 4 true (.t 1)),
ia 70 (.call (.f 169) [(.t 69), (ci 1)]),
ia 71 (.ext (.t 70) 0),
ia 72 (.ext (.t 70) 1),
io (.st 4 (.t 2) (.t 71)),
ia 3 (.mv (.t 72))]) .ret) .skip)) (.seq (.seq (.reg [
  ia 73 (.fad 0 (.t 5)),
ia 74 (.ld 1 false (.t 73)),
ia 75 (.bin .neq (.t 74) (ci 7))]) (.cond (.t 75) (.seq (.reg [
  ia 76 (.call (.f 172) []),
ia 77 (.ext (.t 76) 0),
ia 78 (.ext (.t 76) 1),
io (.st 4 (.t 2) (.t 77)),
ia 3 (.mv (.t 78))]) .ret) .skip)) (.seq (.reg [
  ia 79 (.fad 2 (.t 1)),
ia 80 (.ld 1 false (.t 79)),
ia 81 (.fad 1 (.t 4)),
ia 82 (.ld 1 false (.t 81)),
ia 83 (.fad 1 (.t 5)),
ia 84 (.ld 1 false (.t 83)),
ia 85 (.call (.f 173) [(.t 80), (.t 82), (.t 84)]),
ia 86 (.ext (.t 85) 0),
ia 87 (.ext (.t 85) 1),
io (.st 4 (.t 2) (.t 86)),
ia 3 (.mv (.t 87))]) .ret))))))))))), [(.cell 2 4 true), (.tmp 3)]⟩
theorem cc165 : ccF Try.prog [(43, [0, 0]), (79, [1, 0]), (60, [0, 0]), (140, [0, 0]), (43, [9])] Try.f165 = some (stripF F165) := by kernel_rfl

/- slices.Clone[[]gossamer/api.Port,gossamer/api.Port] -/
def F166 : FnC := ⟨1, (.seq (.reg [
  ia 2 (.mv (.c (.a .nil)))]) (.seq (.seq (.reg [
  ia 3 (.mv (.t 0)),
ia 4 (.nq false (.t 3))]) (.cond (.t 4) (.seq (.reg [
  ia 2 (.mv (.c (.a .nil)))]) .ret) .skip)) (.seq (.reg [
  ia 5 (.bsl 2 43 [(.p (.i .i64 0)), (.p (.i .i64 0))] 0 []),
ia 6 (.mv (.t 0)),
ia 7 (.app 2 43 16 (.t 5) (.t 6)),
ia 2 (.mv (.t 7))]) .ret))), [(.tmp 2)]⟩
theorem cc166 : ccF Try.prog [(43, [0, 0]), (79, [1, 0]), (60, [0, 0]), (140, [0, 0]), (43, [9])] Try.f166 = some (stripF F166) := by kernel_rfl

/- slices.Clone[[]gossamer/api.Node,gossamer/api.Node] -/
def F167 : FnC := ⟨1, (.seq (.reg [
  ia 2 (.mv (.c (.a .nil)))]) (.seq (.seq (.reg [
  ia 3 (.mv (.t 0)),
ia 4 (.nq false (.t 3))]) (.cond (.t 4) (.seq (.reg [
  ia 2 (.mv (.c (.a .nil)))]) .ret) .skip)) (.seq (.reg [
  ia 5 (.bsl 6 41 [(.p (.i .i64 0)), (.p (.i .i64 0)), (.p (.i .i64 0)), (.p (.s [])), .nil, .nil] 0 []),
ia 6 (.mv (.t 0)),
ia 7 (.app 6 41 88 (.t 5) (.t 6)),
ia 2 (.mv (.t 7))]) .ret))), [(.tmp 2)]⟩
theorem cc167 : ccF Try.prog [(43, [0, 0]), (79, [1, 0]), (60, [0, 0]), (140, [0, 0]), (43, [9])] Try.f167 = some (stripF F167) := by kernel_rfl

/- gossamer/gossamerref09.value -/
def F168 : FnC := ⟨1, (.seq (.reg [
  ia 1 (.box 4 (.t 0)),
ia 2 (.mv (.c (.a (.p (.b false)))))]) (.seq (.reg [
  ia 3 (.fad 0 (.t 1)),
ia 4 (.ld 1 false (.t 3)),
ia 5 (.bin .eql (.t 4) (ci 2)),
ia 6 (.mv (.t 5)),
ig 7 6 false (.fad 0 (.t 1)),
ig 8 6 false (.ld 1 false (.t 7)),
ig 9 6 false (.bin .eql (.t 8) (ci 4)),
ia 10 (.pick (.t 6) (.c (.a (.p (.b true)))) (.t 9)),
ia 11 (.mv (.t 10)),
ig 12 11 false (.fad 0 (.t 1)),
ig 13 11 false (.ld 1 false (.t 12)),
ig 14 11 false (.bin .eql (.t 13) (ci 7)),
ia 15 (.pick (.t 11) (.c (.a (.p (.b true)))) (.t 14)),
ia 16 (.mv (.t 15)),
ig 17 16 false (.fad 0 (.t 1)),
ig 18 16 false (.ld 1 false (.t 17)),
ig 19 16 false (.bin .eql (.t 18) (ci 9)),
ia 20 (.pick (.t 16) (.c (.a (.p (.b true)))) (.t 19)),
ia 2 (.mv (.t 20))]) .ret)), [(.tmp 2)]⟩
theorem cc168 : ccF Try.prog [(43, [0, 0]), (79, [1, 0]), (60, [0, 0]), (140, [0, 0]), (43, [9])] Try.f168 = some (stripF F168) := by kernel_rfl

/- gossamer/gossamerref09.within -/
def F169 : FnC := ⟨2, (.seq (.reg [
  ia 2 (.box 4 (.t 0)),
ia 4 (.new [(.p (.i .i64 0)), (.p (.i .i64 0)), (.p (.s [])), .nil]),
ia 5 (.mv (ci 0))]) (.seq (.reg [
  ia 10 (.fad 3 (.t 2)),
ia 11 (.ld 1 false (.t 10)),
ia 12 (.mv (.t 1)),
ia 13 (.ias 4 (.t 11) (.t 12)),
ia 14 (.ld 4 true (.t 13)),
ia 15 (.call (.f 165) [(.t 14)]),
ia 9 (.mv (.t 15)),
ia 16 (.ext (.t 9) 0),
ia 17 (.ext (.t 9) 1),
ia 6 (.new [(.p (.i .i64 0)), (.p (.i .i64 0)), (.p (.s [])), .nil]),
io (.st 4 (.t 6) (.t 16)),
ia 7 (.mv (.t 17))]) (.seq (.seq (.reg [
  ia 18 (.mv (.t 7)),
ia 19 (.bin .eql (.t 18) (ci 0))]) (.cond (.t 19) (.seq (.reg [
  ia 20 (.ld 4 true (.t 2)),
io (.st 4 (.t 4) (.t 20)),
ia 5 (.mv (ci 0))]) .ret) .skip)) (.seq (.reg [
  ia 21 (.fad 0 (.t 2)),
ia 22 (.ld 1 false (.t 21)),
ia 23 (.fad 1 (.t 2)),
ia 24 (.ld 1 false (.t 23)),
ia 25 (.fad 2 (.t 2)),
ia 26 (.ld 1 false (.t 25)),
ia 27 (.build [(.p (.i .i64 0)), (.p (.i .i64 0)), (.p (.s [])), .nil] [(0, (1, (.t 22))), (1, (1, (.t 24))), (2, (1, (.t 26)))]),
ia 8 (.new [(.p (.i .i64 0)), (.p (.i .i64 0)), (.p (.s [])), .nil]),
io (.st 4 (.t 8) (.t 27))]) (.seq (.reg [
  ia 28 (.fad 3 (.t 8)),
ia 29 (.ld 1 false (.t 28)),
ia 30 (.fad 3 (.t 2)),
ia 31 (.ld 1 false (.t 30)),
ia 32 (.app 4 46 56 (.t 29) (.t 31)),
ia 33 (.fad 3 (.t 8)),
io (.st 1 (.t 33) (.t 32))]) (.seq (.reg [
  ia 34 (.fad 3 (.t 8)),
ia 35 (.ld 1 false (.t 34)),
ia 36 (.mv (.t 1)),
ia 37 (.ld 4 true (.t 6)),
ia 38 (.ias 4 (.t 35) (.t 36)),
io (.st 4 (.t 38) (.t 37))]) (.seq (.reg [
  ia 39 (.ld 4 true (.t 8)),
ia 40 (.mv (.t 7)),
io (.st 4 (.t 4) (.t 39)),
ia 5 (.mv (.t 40))]) .ret))))))), [(.cell 4 4 true), (.tmp 5)]⟩
theorem cc169 : ccF Try.prog [(43, [0, 0]), (79, [1, 0]), (60, [0, 0]), (140, [0, 0]), (43, [9])] Try.f169 = some (stripF F169) := by kernel_rfl

/- gossamer/gossamerref09.pick -/
def F170b0 : C := (.seq (.seq (.reg [
  ia 10 (.mv (.t 5)),
ia 11 (.fad 3 (.t 1)),
ia 12 (.ld 1 false (.t 11)),
ia 13 (.len false (.t 12)),
ia 14 (.bin .lss (.t 10) (.t 13)),
ia 15 (.mv (.t 14)),
ig 16 15 true (.fad 0 (.t 4)),
ig 17 15 true (.ld 1 false (.t 16)),
ig 18 15 true (.bin .eql (.t 17) (ci 4)),
ia 19 (.pick (.t 15) (.t 18) (.c (.a (.p (.b false)))))]) (.cond (.t 19) .skip (.exit 0))) (.seq (.block 1 (.seq (.reg [
  ir 22 (.fad 3 (.t 1)),
ir 23 (.ld 1 false (.t 22)),
ir 24 (.mv (.t 5)),
ir 25 (.ias 4 (.t 23) (.t 24)),
ir 26 (.fad 2 (.t 25)),
ir 27 (.ld 1 false (.t 26)),
ir 28 (.fad 2 (.t 4)),
ir 29 (.ld 1 false (.t 28)),
ia 30 (.bin .eql (.t 27) (.t 29)),
ia 31 (.mv (.t 30)),
ih 32 31 true (.fad 3 (.t 1)),
ih 33 31 true (.ld 1 false (.t 32)),
ih 34 31 true (.mv (.t 5)),
ih 35 31 true (.ias 4 (.t 33) (.t 34)),
ih 36 31 true (.fad 1 (.t 35)),
ih 37 31 true (.ld 1 false (.t 36)),
ih 38 31 true (.fad 3 (.t 4)),
ih 39 31 true (.ld 1 false (.t 38)),
ih 40 31 true (.len false (.t 39)),
ig 41 31 true (.bin .eql (.t 37) (.t 40)),
ia 42 (.pick (.t 31) (.t 41) (.c (.a (.p (.b false)))))]) (.cond (.t 42) (.seq (.reg [
  ir 43 (.fad 3 (.t 1)),
ir 44 (.ld 1 false (.t 43)),
ir 45 (.mv (.t 5)),
ir 46 (.ias 4 (.t 44) (.t 45)),
ir 47 (.fad 3 (.t 46)),
ir 48 (.ld 1 false (.t 47)),
ir 49 (.ias 4 (.t 48) (ci 0)),
ir 50 (.ld 4 true (.t 49)),
ir 51 (.fad 3 (.t 4)),
ir 52 (.ld 1 false (.t 51)),
ia 53 (.call (.f 174) [(.t 50), (.t 52)]),
io (.st 4 (.t 2) (.t 53)),
ia 3 (.mv (ci 2))]) .ret) .skip))) (.reg [
  ia 20 (.mv (.t 5)),
ia 21 (.bin .add (.t 20) (ci 1)),
ia 5 (.mv (.t 21))])))
def F170 : FnC := ⟨1, (.seq (.reg [
  ia 1 (.box 4 (.t 0)),
ia 2 (.new [(.p (.i .i64 0)), (.p (.i .i64 0)), (.p (.s [])), .nil]),
ia 3 (.mv (ci 0))]) (.seq (.reg [
  ia 6 (.fad 3 (.t 1)),
ia 7 (.ld 1 false (.t 6)),
ia 8 (.ias 4 (.t 7) (ci 0)),
ia 9 (.ld 4 true (.t 8)),
ia 4 (.new [(.p (.i .i64 0)), (.p (.i .i64 0)), (.p (.s [])), .nil]),
io (.st 4 (.t 4) (.t 9))]) (.seq (.seq (.reg [
  ia 5 (.mv (ci 1))]) (.block 0 (.loop F170b0))) (.seq (.reg [
  ia 54 (.call (.f 172) []),
ia 55 (.ext (.t 54) 0),
ia 56 (.ext (.t 54) 1),
io (.st 4 (.t 2) (.t 55)),
ia 3 (.mv (.t 56))]) .ret)))), [(.cell 2 4 true), (.tmp 3)]⟩
theorem cc170 : ccF Try.prog [(43, [0, 0]), (79, [1, 0]), (60, [0, 0]), (140, [0, 0]), (43, [9])] Try.f170 = some (stripF F170) := by kernel_rfl

/- gossamer/gossamerref08.Put -/
def F171 : FnC := ⟨3, (.seq (.reg [
  ia 3 (.box 4 (.t 0)),
ia 5 (.box 4 (.t 2)),
ia 6 (.new [(.p (.i .i64 0)), (.p (.i .i64 0)), (.p (.s [])), .nil])]) (.seq (.reg [
  ia 7 (.ld 4 true (.t 3)),
ia 8 (.mv (.t 1)),
ia 9 (.ld 4 true (.t 5)),
ia 10 (.call (.f 175) [(.t 7), (.t 8), (.t 9), (ci 0)]),
io (.st 4 (.t 6) (.t 10))]) .ret)), [(.cell 6 4 true)]⟩
theorem cc171 : ccF Try.prog [(43, [0, 0]), (79, [1, 0]), (60, [0, 0]), (140, [0, 0]), (43, [9])] Try.f171 = some (stripF F171) := by kernel_rfl

/- gossamer/gossamerref09.fail -/
def F172 : FnC := ⟨0, (.seq (.reg [
  ia 0 (.new [(.p (.i .i64 0)), (.p (.i .i64 0)), (.p (.s [])), .nil]),
ia 1 (.mv (ci 0))]) (.seq (.reg [
  ia 2 (.build [(.p (.i .i64 0)), (.p (.i .i64 0)), (.p (.s [])), .nil] [(0, (1, (ci 9)))]),
io (.st 4 (.t 0) (.t 2)),
ia 1 (.mv (ci 4))]) .ret)), [(.cell 0 4 true), (.tmp 1)]⟩
theorem cc172 : ccF Try.prog [(43, [0, 0]), (79, [1, 0]), (60, [0, 0]), (140, [0, 0]), (43, [9])] Try.f172 = some (stripF F172) := by kernel_rfl

/- gossamer/gossamerref09.op -/
def F173 : FnC := ⟨3, (.seq (.reg [
  ia 6 (.new [(.p (.i .i64 0)), (.p (.i .i64 0)), (.p (.s [])), .nil]),
ia 7 (.mv (ci 0))]) (.seq (.seq (.reg [
  ia 8 (.mv (.t 0))]) (.block 0 (.seq (.reg [
  ia 10 (.bin .eql (.t 8) (.c (.a (.p (.s [43]))))),
ia 9 (.mv (.t 10))]) (.cond (.t 9) (.seq (.reg [
  ia 11 (.mv (.t 1)),
ia 12 (.mv (.t 2)),
ia 13 (.bin .add (.t 11) (.t 12)),
ia 14 (.call (.f 176) [(.t 13)]),
ia 15 (.ext (.t 14) 0),
ia 16 (.ext (.t 14) 1),
io (.st 4 (.t 6) (.t 15)),
ia 7 (.mv (.t 16))]) .ret) (.seq (.reg [
  ia 18 (.bin .eql (.t 8) (.c (.a (.p (.s [45]))))),
ia 17 (.mv (.t 18))]) (.cond (.t 17) (.seq (.reg [
  ia 19 (.mv (.t 1)),
ia 20 (.mv (.t 2)),
ia 21 (.bin .sub (.t 19) (.t 20)),
ia 22 (.call (.f 176) [(.t 21)]),
ia 23 (.ext (.t 22) 0),
ia 24 (.ext (.t 22) 1),
io (.st 4 (.t 6) (.t 23)),
ia 7 (.mv (.t 24))]) .ret) (.seq (.reg [
  ia 26 (.bin .eql (.t 8) (.c (.a (.p (.s [42]))))),
ia 25 (.mv (.t 26))]) (.cond (.t 25) (.seq (.reg [
  ia 27 (.mv (.t 1)),
ia 28 (.mv (.t 2)),
ia 29 (.bin .mul (.t 27) (.t 28)),
ia 30 (.call (.f 176) [(.t 29)]),
ia 31 (.ext (.t 30) 0),
ia 32 (.ext (.t 30) 1),
io (.st 4 (.t 6) (.t 31)),
ia 7 (.mv (.t 32))]) .ret) (.seq (.reg [
  ia 34 (.bin .eql (.t 8) (.c (.a (.p (.s [47]))))),
ia 33 (.mv (.t 34))]) (.cond (.t 33) (.seq (.seq (.reg [
  ia 35 (.mv (.t 2)),
ia 36 (.bin .eql (.t 35) (ci 0))]) (.cond (.t 36) (.seq (.reg [
  ia 37 (.call (.f 172) []),
ia 38 (.ext (.t 37) 0),
ia 39 (.ext (.t 37) 1),
io (.st 4 (.t 6) (.t 38)),
ia 7 (.mv (.t 39))]) .ret) .skip)) (.seq (.seq (.reg [
  ia 40 (.mv (.t 2)),
ia 41 (.bin .eql (.t 40) (.c (.a (.p (.i .i64 (-1))))))]) (.cond (.t 41) (.seq (.reg [
  ia 42 (.mv (.t 1)),
ia 43 (.neg (.t 42)),
ia 44 (.call (.f 176) [(.t 43)]),
ia 45 (.ext (.t 44) 0),
ia 46 (.ext (.t 44) 1),
io (.st 4 (.t 6) (.t 45)),
ia 7 (.mv (.t 46))]) .ret) .skip)) (.seq (.reg [
  ia 47 (.mv (.t 1)),
ia 48 (.mv (.t 2)),
ia 49 (.bin .quo (.t 47) (.t 48)),
ia 50 (.call (.f 176) [(.t 49)]),
ia 51 (.ext (.t 50) 0),
ia 52 (.ext (.t 50) 1),
io (.st 4 (.t 6) (.t 51)),
ia 7 (.mv (.t 52))]) .ret))) .skip)))))))))) (.seq (.seq (.reg [
  ia 53 (.mv (.t 0)),
ia 54 (.bin .eql (.t 53) (.c (.a (.p (.s [60]))))),
ia 55 (.mv (.t 54)),
ig 56 55 true (.mv (.t 1)),
ig 57 55 true (.mv (.t 2)),
ig 58 55 true (.bin .lss (.t 56) (.t 57)),
ia 59 (.pick (.t 55) (.t 58) (.c (.a (.p (.b false))))),
ia 60 (.mv (.t 59)),
ig 61 60 false (.mv (.t 0)),
ig 62 60 false (.bin .eql (.t 61) (.c (.a (.p (.s [61, 61]))))),
ig 63 60 false (.mv (.t 62)),
ig 64 63 true (.mv (.t 1)),
ig 65 63 true (.mv (.t 2)),
ig 66 63 true (.bin .eql (.t 64) (.t 65)),
ig 67 60 false (.pick (.t 63) (.t 66) (.c (.a (.p (.b false))))),
ia 68 (.pick (.t 60) (.c (.a (.p (.b true)))) (.t 67))]) (.cond (.t 68) (.seq (.reg [
  ia 69 (.build [(.p (.i .i64 0)), (.p (.i .i64 0)), (.p (.s [])), .nil] [(0, (1, (ci 4))), (2, (1, (.c (.a (.p (.s [84, 114, 117, 101]))))))]),
io (.st 4 (.t 6) (.t 69)),
ia 7 (.mv (ci 3))]) .ret) .skip)) (.seq (.reg [
  ia 70 (.build [(.p (.i .i64 0)), (.p (.i .i64 0)), (.p (.s [])), .nil] [(0, (1, (ci 4))), (2, (1, (.c (.a (.p (.s [70, 97, 108, 115, 101]))))))]),
io (.st 4 (.t 6) (.t 70)),
ia 7 (.mv (ci 3))]) .ret)))), [(.cell 6 4 true), (.tmp 7)]⟩
theorem cc173 : ccF Try.prog [(43, [0, 0]), (79, [1, 0]), (60, [0, 0]), (140, [0, 0]), (43, [9])] Try.f173 = some (stripF F173) := by kernel_rfl

/- gossamer/gossamerref08.Inst -/
def F174 : FnC := ⟨2, (.seq (.reg [
  ia 2 (.box 4 (.t 0)),
ia 4 (.new [(.p (.i .i64 0)), (.p (.i .i64 0)), (.p (.s [])), .nil])]) (.seq (.reg [
  ia 5 (.ld 4 true (.t 2)),
ia 6 (.mv (.t 1)),
ia 7 (.call (.f 177) [(.t 5), (.t 6), (ci 0)]),
io (.st 4 (.t 4) (.t 7))]) .ret)), [(.cell 4 4 true)]⟩
theorem cc174 : ccF Try.prog [(43, [0, 0]), (79, [1, 0]), (60, [0, 0]), (140, [0, 0]), (43, [9])] Try.f174 = some (stripF F174) := by kernel_rfl

/- gossamer/gossamerref08.put -/
def F175b0 : C := (.seq (.seq (.reg [
  ia 41 (.mv (.t 10)),
ia 42 (.fad 3 (.t 4)),
ia 43 (.ld 1 false (.t 42)),
ia 44 (.len false (.t 43)),
ia 45 (.bin .lss (.t 41) (.t 44))]) (.cond (.t 45) .skip (.exit 0))) (.seq (.block 1 (.reg [
  ir 48 (.fad 3 (.t 9)),
ir 49 (.ld 1 false (.t 48)),
ir 50 (.fad 3 (.t 4)),
ir 51 (.ld 1 false (.t 50)),
ir 52 (.mv (.t 10)),
ir 53 (.ias 4 (.t 51) (.t 52)),
ir 54 (.ld 4 true (.t 53)),
ir 55 (.mv (.t 1)),
ir 56 (.ld 4 true (.t 6)),
ir 57 (.mv (.t 3)),
ir 58 (.ld 4 true (.t 4)),
ir 59 (.call (.f 179) [(.t 58)]),
ir 60 (.bin .add (.t 57) (.t 59)),
ir 61 (.call (.f 175) [(.t 54), (.t 55), (.t 56), (.t 60)]),
⟨(.some 62), .none, (.bsl 4 46 [(.p (.i .i64 0)), (.p (.i .i64 0)), (.p (.s [])), .nil] 1 [(0, (.t 61))]), .ad⟩,
ia 63 (.app 4 46 56 (.t 49) (.t 62)),
ia 64 (.fad 3 (.t 9)),
io (.st 1 (.t 64) (.t 63))])) (.reg [
  ia 46 (.mv (.t 10)),
ia 47 (.bin .add (.t 46) (ci 1)),
ia 10 (.mv (.t 47))])))
def F175 : FnC := ⟨4, (.seq (.reg [
  ia 4 (.box 4 (.t 0)),
ia 6 (.box 4 (.t 2)),
ia 8 (.new [(.p (.i .i64 0)), (.p (.i .i64 0)), (.p (.s [])), .nil])]) (.seq (.seq (.reg [
  ia 11 (.fad 0 (.t 4)),
ia 12 (.ld 1 false (.t 11)),
ia 13 (.bin .eql (.t 12) (ci 1))]) (.cond (.t 13) (.seq (.seq (.reg [
  ia 14 (.fad 1 (.t 4)),
ia 15 (.ld 1 false (.t 14)),
ia 16 (.mv (.t 1)),
ia 17 (.mv (.t 3)),
ia 18 (.bin .add (.t 16) (.t 17)),
ia 19 (.bin .eql (.t 15) (.t 18))]) (.cond (.t 19) (.seq (.reg [
  ia 20 (.ld 4 true (.t 6)),
ia 21 (.mv (.t 3)),
ia 22 (.call (.f 178) [(.t 20), (.t 21), (ci 0)]),
io (.st 4 (.t 8) (.t 22))]) .ret) .skip)) (.seq (.seq (.reg [
  ia 23 (.fad 1 (.t 4)),
ia 24 (.ld 1 false (.t 23)),
ia 25 (.mv (.t 1)),
ia 26 (.mv (.t 3)),
ia 27 (.bin .add (.t 25) (.t 26)),
ia 28 (.bin .gtr (.t 24) (.t 27))]) (.cond (.t 28) (.reg [
  ia 29 (.fad 1 (.t 4)),
ia 30 (.ld 1 false (.t 29)),
ia 31 (.bin .sub (.t 30) (ci 1)),
ia 32 (.fad 1 (.t 4)),
io (.st 1 (.t 32) (.t 31))]) .skip)) (.seq (.reg [
  ia 33 (.ld 4 true (.t 4)),
io (.st 4 (.t 8) (.t 33))]) .ret))) .skip)) (.seq (.reg [
  ia 34 (.fad 0 (.t 4)),
ia 35 (.ld 1 false (.t 34)),
ia 36 (.fad 1 (.t 4)),
ia 37 (.ld 1 false (.t 36)),
ia 38 (.fad 2 (.t 4)),
ia 39 (.ld 1 false (.t 38)),
ia 40 (.build [(.p (.i .i64 0)), (.p (.i .i64 0)), (.p (.s [])), .nil] [(0, (1, (.t 35))), (1, (1, (.t 37))), (2, (1, (.t 39)))]),
ia 9 (.new [(.p (.i .i64 0)), (.p (.i .i64 0)), (.p (.s [])), .nil]),
io (.st 4 (.t 9) (.t 40))]) (.seq (.seq (.reg [
  ia 10 (.mv (ci 0))]) (.block 0 (.loop F175b0))) (.seq (.reg [
  ia 65 (.ld 4 true (.t 9)),
io (.st 4 (.t 8) (.t 65))]) .ret))))), [(.cell 8 4 true)]⟩
theorem cc175 : ccF Try.prog [(43, [0, 0]), (79, [1, 0]), (60, [0, 0]), (140, [0, 0]), (43, [9])] Try.f175 = some (stripF F175) := by kernel_rfl

/- gossamer/gossamerref09.number -/
def F176 : FnC := ⟨1, (.seq (.reg [
  ia 2 (.new [(.p (.i .i64 0)), (.p (.i .i64 0)), (.p (.s [])), .nil]),
ia 3 (.mv (ci 0))]) (.seq (.reg [
  ia 4 (.mv (.t 0)),
ia 5 (.build [(.p (.i .i64 0)), (.p (.i .i64 0)), (.p (.s [])), .nil] [(0, (1, (ci 7))), (1, (1, (.t 4)))]),
io (.st 4 (.t 2) (.t 5)),
ia 3 (.mv (ci 3))]) .ret)), [(.cell 2 4 true), (.tmp 3)]⟩
theorem cc176 : ccF Try.prog [(43, [0, 0]), (79, [1, 0]), (60, [0, 0]), (140, [0, 0]), (43, [9])] Try.f176 = some (stripF F176) := by kernel_rfl

/- gossamer/gossamerref08.inst -/
def F177b0 : C := (.seq (.seq (.reg [
  ia 51 (.mv (.t 8)),
ia 52 (.fad 3 (.t 3)),
ia 53 (.ld 1 false (.t 52)),
ia 54 (.len false (.t 53)),
ia 55 (.bin .lss (.t 51) (.t 54))]) (.cond (.t 55) .skip (.exit 0))) (.seq (.block 1 (.reg [
  ir 58 (.fad 3 (.t 7)),
ir 59 (.ld 1 false (.t 58)),
ir 60 (.fad 3 (.t 3)),
ir 61 (.ld 1 false (.t 60)),
ir 62 (.mv (.t 8)),
ir 63 (.ias 4 (.t 61) (.t 62)),
ir 64 (.ld 4 true (.t 63)),
ir 65 (.mv (.t 1)),
ir 66 (.mv (.t 2)),
ir 67 (.ld 4 true (.t 3)),
ir 68 (.call (.f 179) [(.t 67)]),
ir 69 (.bin .add (.t 66) (.t 68)),
ir 70 (.call (.f 177) [(.t 64), (.t 65), (.t 69)]),
⟨(.some 71), .none, (.bsl 4 46 [(.p (.i .i64 0)), (.p (.i .i64 0)), (.p (.s [])), .nil] 1 [(0, (.t 70))]), .ad⟩,
ia 72 (.app 4 46 56 (.t 59) (.t 71)),
ia 73 (.fad 3 (.t 7)),
io (.st 1 (.t 73) (.t 72))])) (.reg [
  ia 56 (.mv (.t 8)),
ia 57 (.bin .add (.t 56) (ci 1)),
ia 8 (.mv (.t 57))])))
def F177 : FnC := ⟨3, (.seq (.reg [
  ia 3 (.box 4 (.t 0)),
ia 6 (.new [(.p (.i .i64 0)), (.p (.i .i64 0)), (.p (.s [])), .nil])]) (.seq (.seq (.reg [
  ia 9 (.fad 0 (.t 3)),
ia 10 (.ld 1 false (.t 9)),
ia 11 (.bin .eql (.t 10) (ci 1))]) (.cond (.t 11) (.seq (.seq (.reg [
  ia 12 (.fad 1 (.t 3)),
ia 13 (.ld 1 false (.t 12)),
ia 14 (.mv (.t 2)),
ia 15 (.bin .lss (.t 13) (.t 14))]) (.cond (.t 15) (.seq (.reg [
  ia 16 (.ld 4 true (.t 3)),
io (.st 4 (.t 6) (.t 16))]) .ret) .skip)) (.seq (.seq (.reg [
  ia 17 (.fad 1 (.t 3)),
ia 18 (.ld 1 false (.t 17)),
ia 19 (.mv (.t 2)),
ia 20 (.mv (.t 1)),
ia 21 (.len false (.t 20)),
ia 22 (.bin .add (.t 19) (.t 21)),
ia 23 (.bin .lss (.t 18) (.t 22))]) (.cond (.t 23) (.seq (.reg [
  ia 24 (.mv (.t 1)),
ia 25 (.mv (.t 1)),
ia 26 (.len false (.t 25)),
ia 27 (.bin .sub (.t 26) (ci 1)),
ia 28 (.fad 1 (.t 3)),
ia 29 (.ld 1 false (.t 28)),
ia 30 (.mv (.t 2)),
ia 31 (.bin .sub (.t 29) (.t 30)),
ia 32 (.bin .sub (.t 27) (.t 31)),
ia 33 (.ias 4 (.t 24) (.t 32)),
ia 34 (.ld 4 true (.t 33)),
ia 35 (.mv (.t 2)),
ia 36 (.call (.f 178) [(.t 34), (.t 35), (ci 0)]),
io (.st 4 (.t 6) (.t 36))]) .ret) .skip)) (.seq (.reg [
  ia 37 (.fad 1 (.t 3)),
ia 38 (.ld 1 false (.t 37)),
ia 39 (.mv (.t 1)),
ia 40 (.len false (.t 39)),
ia 41 (.bin .sub (.t 38) (.t 40)),
ia 42 (.fad 1 (.t 3)),
io (.st 1 (.t 42) (.t 41))]) (.seq (.reg [
  ia 43 (.ld 4 true (.t 3)),
io (.st 4 (.t 6) (.t 43))]) .ret)))) .skip)) (.seq (.reg [
  ia 44 (.fad 0 (.t 3)),
ia 45 (.ld 1 false (.t 44)),
ia 46 (.fad 1 (.t 3)),
ia 47 (.ld 1 false (.t 46)),
ia 48 (.fad 2 (.t 3)),
ia 49 (.ld 1 false (.t 48)),
ia 50 (.build [(.p (.i .i64 0)), (.p (.i .i64 0)), (.p (.s [])), .nil] [(0, (1, (.t 45))), (1, (1, (.t 47))), (2, (1, (.t 49)))]),
ia 7 (.new [(.p (.i .i64 0)), (.p (.i .i64 0)), (.p (.s [])), .nil]),
io (.st 4 (.t 7) (.t 50))]) (.seq (.seq (.reg [
  ia 8 (.mv (ci 0))]) (.block 0 (.loop F177b0))) (.seq (.reg [
  ia 74 (.ld 4 true (.t 7)),
io (.st 4 (.t 6) (.t 74))]) .ret))))), [(.cell 6 4 true)]⟩
theorem cc177 : ccF Try.prog [(43, [0, 0]), (79, [1, 0]), (60, [0, 0]), (140, [0, 0]), (43, [9])] Try.f177 = some (stripF F177) := by kernel_rfl

/- gossamer/gossamerref08.Up -/
def F178b0 : C := (.seq (.seq (.reg [
  ia 29 (.mv (.t 8)),
ia 30 (.fad 3 (.t 3)),
ia 31 (.ld 1 false (.t 30)),
ia 32 (.len false (.t 31)),
ia 33 (.bin .lss (.t 29) (.t 32))]) (.cond (.t 33) .skip (.exit 0))) (.seq (.block 1 (.reg [
  ir 36 (.fad 3 (.t 7)),
ir 37 (.ld 1 false (.t 36)),
ir 38 (.fad 3 (.t 3)),
ir 39 (.ld 1 false (.t 38)),
ir 40 (.mv (.t 8)),
ir 41 (.ias 4 (.t 39) (.t 40)),
ir 42 (.ld 4 true (.t 41)),
ir 43 (.mv (.t 1)),
ir 44 (.mv (.t 2)),
ir 45 (.ld 4 true (.t 3)),
ir 46 (.call (.f 179) [(.t 45)]),
ir 47 (.bin .add (.t 44) (.t 46)),
ir 48 (.call (.f 178) [(.t 42), (.t 43), (.t 47)]),
⟨(.some 49), .none, (.bsl 4 46 [(.p (.i .i64 0)), (.p (.i .i64 0)), (.p (.s [])), .nil] 1 [(0, (.t 48))]), .ad⟩,
ia 50 (.app 4 46 56 (.t 37) (.t 49)),
ia 51 (.fad 3 (.t 7)),
io (.st 1 (.t 51) (.t 50))])) (.reg [
  ia 34 (.mv (.t 8)),
ia 35 (.bin .add (.t 34) (ci 1)),
ia 8 (.mv (.t 35))])))
def F178 : FnC := ⟨3, (.seq (.reg [
  ia 3 (.box 4 (.t 0)),
ia 6 (.new [(.p (.i .i64 0)), (.p (.i .i64 0)), (.p (.s [])), .nil])]) (.seq (.seq (.reg [
  ia 9 (.fad 0 (.t 3)),
ia 10 (.ld 1 false (.t 9)),
ia 11 (.bin .eql (.t 10) (ci 1))]) (.cond (.t 11) (.seq (.seq (.reg [
  ia 12 (.fad 1 (.t 3)),
ia 13 (.ld 1 false (.t 12)),
ia 14 (.mv (.t 2)),
ia 15 (.bin .geq (.t 13) (.t 14))]) (.cond (.t 15) (.reg [
  ia 16 (.fad 1 (.t 3)),
ia 17 (.ld 1 false (.t 16)),
ia 18 (.mv (.t 1)),
ia 19 (.bin .add (.t 17) (.t 18)),
ia 20 (.fad 1 (.t 3)),
io (.st 1 (.t 20) (.t 19))]) .skip)) (.seq (.reg [
  ia 21 (.ld 4 true (.t 3)),
io (.st 4 (.t 6) (.t 21))]) .ret)) .skip)) (.seq (.reg [
  ia 22 (.fad 0 (.t 3)),
ia 23 (.ld 1 false (.t 22)),
ia 24 (.fad 1 (.t 3)),
ia 25 (.ld 1 false (.t 24)),
ia 26 (.fad 2 (.t 3)),
ia 27 (.ld 1 false (.t 26)),
ia 28 (.build [(.p (.i .i64 0)), (.p (.i .i64 0)), (.p (.s [])), .nil] [(0, (1, (.t 23))), (1, (1, (.t 25))), (2, (1, (.t 27)))]),
ia 7 (.new [(.p (.i .i64 0)), (.p (.i .i64 0)), (.p (.s [])), .nil]),
io (.st 4 (.t 7) (.t 28))]) (.seq (.seq (.reg [
  ia 8 (.mv (ci 0))]) (.block 0 (.loop F178b0))) (.seq (.reg [
  ia 52 (.ld 4 true (.t 7)),
io (.st 4 (.t 6) (.t 52))]) .ret))))), [(.cell 6 4 true)]⟩
theorem cc178 : ccF Try.prog [(43, [0, 0]), (79, [1, 0]), (60, [0, 0]), (140, [0, 0]), (43, [9])] Try.f178 = some (stripF F178) := by kernel_rfl

/- gossamer/gossamerref08.more -/
def F179 : FnC := ⟨1, (.seq (.reg [
  ia 1 (.box 4 (.t 0)),
ia 2 (.mv (ci 0))]) (.seq (.seq (.reg [
  ia 3 (.fad 0 (.t 1)),
ia 4 (.ld 1 false (.t 3)),
ia 5 (.bin .eql (.t 4) (ci 2))]) (.cond (.t 5) (.seq (.reg [
  ia 2 (.mv (ci 1))]) .ret) .skip)) (.seq (.seq (.reg [
  ia 6 (.fad 0 (.t 1)),
ia 7 (.ld 1 false (.t 6)),
ia 8 (.bin .eql (.t 7) (ci 6))]) (.cond (.t 8) (.seq (.reg [
  ia 9 (.fad 1 (.t 1)),
ia 10 (.ld 1 false (.t 9)),
ia 2 (.mv (.t 10))]) .ret) .skip)) (.seq (.reg [
  ia 2 (.mv (ci 0))]) .ret)))), [(.tmp 2)]⟩
theorem cc179 : ccF Try.prog [(43, [0, 0]), (79, [1, 0]), (60, [0, 0]), (140, [0, 0]), (43, [9])] Try.f179 = some (stripF F179) := by kernel_rfl

def tblC : List (FuncId × FnC) := [(107, F107), (108, F108), (109, F109), (110, F110), (111, F111), (112, F112), (113, F113), (114, F114), (115, F115), (116, F116), (117, F117), (118, F118), (119, F119), (120, F120), (121, F121), (122, F122), (123, F123), (124, F124), (125, F125), (126, F126), (127, F127), (128, F128), (129, F129), (130, F130), (131, F131), (132, F132), (133, F133), (134, F134), (135, F135), (136, F136), (137, F137), (138, F138), (139, F139), (140, F140), (141, F141), (142, F142), (143, F143), (144, F144), (145, F145), (146, F146), (147, F147), (148, F148), (149, F149), (150, F150), (151, F151), (152, F152), (153, F153), (154, F154), (155, F155), (156, F156), (157, F157), (158, F158), (159, F159), (160, F160), (161, F161), (162, F162), (163, F163), (164, F164), (165, F165), (166, F166), (167, F167), (168, F168), (169, F169), (170, F170), (171, F171), (172, F172), (173, F173), (174, F174), (175, F175), (176, F176), (177, F177), (178, F178), (179, F179)]

theorem tblOkC : ∀ x, x ∈ tblC → ∃ fn, Try.prog.funcs[x.1]? = some fn ∧ ccF Try.prog [(43, [0, 0]), (79, [1, 0]), (60, [0, 0]), (140, [0, 0]), (43, [9])] fn = some (stripF x.2) := by
  intro x hx
  simp only [tblC, List.mem_cons, List.not_mem_nil, or_false] at hx
  rcases hx with rfl | rfl | rfl | rfl | rfl | rfl | rfl | rfl | rfl | rfl | rfl | rfl | rfl | rfl | rfl | rfl | rfl | rfl | rfl | rfl | rfl | rfl | rfl | rfl | rfl | rfl | rfl | rfl | rfl | rfl | rfl | rfl | rfl | rfl | rfl | rfl | rfl | rfl | rfl | rfl | rfl | rfl | rfl | rfl | rfl | rfl | rfl | rfl | rfl | rfl | rfl | rfl | rfl | rfl | rfl | rfl | rfl | rfl | rfl | rfl | rfl | rfl | rfl | rfl | rfl | rfl | rfl | rfl | rfl | rfl | rfl | rfl | rfl
  · exact ⟨_, Try.func107, cc107⟩
  · exact ⟨_, Try.func108, cc108⟩
  · exact ⟨_, Try.func109, cc109⟩
  · exact ⟨_, Try.func110, cc110⟩
  · exact ⟨_, Try.func111, cc111⟩
  · exact ⟨_, Try.func112, cc112⟩
  · exact ⟨_, Try.func113, cc113⟩
  · exact ⟨_, Try.func114, cc114⟩
  · exact ⟨_, Try.func115, cc115⟩
  · exact ⟨_, Try.func116, cc116⟩
  · exact ⟨_, Try.func117, cc117⟩
  · exact ⟨_, Try.func118, cc118⟩
  · exact ⟨_, Try.func119, cc119⟩
  · exact ⟨_, Try.func120, cc120⟩
  · exact ⟨_, Try.func121, cc121⟩
  · exact ⟨_, Try.func122, cc122⟩
  · exact ⟨_, Try.func123, cc123⟩
  · exact ⟨_, Try.func124, cc124⟩
  · exact ⟨_, Try.func125, cc125⟩
  · exact ⟨_, Try.func126, cc126⟩
  · exact ⟨_, Try.func127, cc127⟩
  · exact ⟨_, Try.func128, cc128⟩
  · exact ⟨_, Try.func129, cc129⟩
  · exact ⟨_, Try.func130, cc130⟩
  · exact ⟨_, Try.func131, cc131⟩
  · exact ⟨_, Try.func132, cc132⟩
  · exact ⟨_, Try.func133, cc133⟩
  · exact ⟨_, Try.func134, cc134⟩
  · exact ⟨_, Try.func135, cc135⟩
  · exact ⟨_, Try.func136, cc136⟩
  · exact ⟨_, Try.func137, cc137⟩
  · exact ⟨_, Try.func138, cc138⟩
  · exact ⟨_, Try.func139, cc139⟩
  · exact ⟨_, Try.func140, cc140⟩
  · exact ⟨_, Try.func141, cc141⟩
  · exact ⟨_, Try.func142, cc142⟩
  · exact ⟨_, Try.func143, cc143⟩
  · exact ⟨_, Try.func144, cc144⟩
  · exact ⟨_, Try.func145, cc145⟩
  · exact ⟨_, Try.func146, cc146⟩
  · exact ⟨_, Try.func147, cc147⟩
  · exact ⟨_, Try.func148, cc148⟩
  · exact ⟨_, Try.func149, cc149⟩
  · exact ⟨_, Try.func150, cc150⟩
  · exact ⟨_, Try.func151, cc151⟩
  · exact ⟨_, Try.func152, cc152⟩
  · exact ⟨_, Try.func153, cc153⟩
  · exact ⟨_, Try.func154, cc154⟩
  · exact ⟨_, Try.func155, cc155⟩
  · exact ⟨_, Try.func156, cc156⟩
  · exact ⟨_, Try.func157, cc157⟩
  · exact ⟨_, Try.func158, cc158⟩
  · exact ⟨_, Try.func159, cc159⟩
  · exact ⟨_, Try.func160, cc160⟩
  · exact ⟨_, Try.func161, cc161⟩
  · exact ⟨_, Try.func162, cc162⟩
  · exact ⟨_, Try.func163, cc163⟩
  · exact ⟨_, Try.func164, cc164⟩
  · exact ⟨_, Try.func165, cc165⟩
  · exact ⟨_, Try.func166, cc166⟩
  · exact ⟨_, Try.func167, cc167⟩
  · exact ⟨_, Try.func168, cc168⟩
  · exact ⟨_, Try.func169, cc169⟩
  · exact ⟨_, Try.func170, cc170⟩
  · exact ⟨_, Try.func171, cc171⟩
  · exact ⟨_, Try.func172, cc172⟩
  · exact ⟨_, Try.func173, cc173⟩
  · exact ⟨_, Try.func174, cc174⟩
  · exact ⟨_, Try.func175, cc175⟩
  · exact ⟨_, Try.func176, cc176⟩
  · exact ⟨_, Try.func177, cc177⟩
  · exact ⟨_, Try.func178, cc178⟩
  · exact ⟨_, Try.func179, cc179⟩

end Go.Proofs.Ytkpfjolcmkikeaa
