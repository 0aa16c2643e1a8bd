/- The functions of the seat, turned into instructions: each is what the compiler text makes of the given program, by the kernel. -/
import Derived.Test.YtomcceambpneiaaProg
import Derived.Test.YtomcceambpneiaaFb
namespace Go.Proofs.Ytomcceambpneiaa
open Go.Fx


/- gossamer/gossamerlaw15.id -/
def F43 : FnC := ⟨0, (.seq (.reg [
  ia 0 (.new [.nil, (.p (.i .i64 0))])]) (.seq (.reg [
  ia 1 (.call (.f 44) [(ci 1), (ci 1)]),
ia 2 (.bsl 2 58 [(.p (.i .i64 0)), (.p (.i .i64 0))] 1 [(0, (.t 1))]),
ia 3 (.build [(.p (.i .i64 0)), (.p (.i .i64 0)), (.p (.i .i64 0)), (.p (.s [])), .nil, .nil] [(0, (1, (ci 1))), (5, (1, (.t 2)))]),
ia 4 (.call (.f 44) [(ci 2), (ci 0)]),
ia 5 (.call (.f 44) [(ci 0), (ci 0)]),
ia 6 (.call (.f 44) [(ci 3), (ci 0)]),
ia 7 (.bsl 2 58 [(.p (.i .i64 0)), (.p (.i .i64 0))] 3 [(0, (.t 4)), (1, (.t 5)), (2, (.t 6))]),
ia 8 (.build [(.p (.i .i64 0)), (.p (.i .i64 0)), (.p (.i .i64 0)), (.p (.s [])), .nil, .nil] [(0, (1, (ci 3))), (5, (1, (.t 7)))]),
ia 9 (.call (.f 44) [(ci 1), (ci 0)]),
ia 10 (.call (.f 44) [(ci 2), (ci 2)]),
ia 11 (.call (.f 44) [(ci 2), (ci 1)]),
ia 12 (.bsl 2 58 [(.p (.i .i64 0)), (.p (.i .i64 0))] 3 [(0, (.t 9)), (1, (.t 10)), (2, (.t 11))]),
ia 13 (.build [(.p (.i .i64 0)), (.p (.i .i64 0)), (.p (.i .i64 0)), (.p (.s [])), .nil, .nil] [(0, (1, (ci 2))), (5, (1, (.t 12)))]),
ia 14 (.call (.f 44) [(ci 1), (ci 2)]),
ia 15 (.bsl 2 58 [(.p (.i .i64 0)), (.p (.i .i64 0))] 1 [(0, (.t 14))]),
ia 16 (.build [(.p (.i .i64 0)), (.p (.i .i64 0)), (.p (.i .i64 0)), (.p (.s [])), .nil, .nil] [(0, (1, (ci 10))), (1, (1, (ci 1))), (2, (1, (ci 7))), (5, (1, (.t 15)))]),
ia 17 (.bsl 6 25 [(.p (.i .i64 0)), (.p (.i .i64 0)), (.p (.i .i64 0)), (.p (.s [])), .nil, .nil] 4 [(0, (.t 3)), (1, (.t 8)), (2, (.t 13)), (3, (.t 16))]),
ia 18 (.build [.nil, (.p (.i .i64 0))] [(1, (1, (ci 9))), (0, (1, (.t 17)))]),
io (.st 2 (.t 0) (.t 18))]) .ret)), [(.cell 0 2 true)]⟩
theorem cc43 : ccF Try.prog [(58, [0, 0]), (61, [1, 0]), (75, [0, 0]), (58, [9]), (91, [8]), (93, [8]), (72, [8]), (92, [8]), (76, [8])] Try.f43 = some (stripF F43) := by kernel_rfl

/- gossamer/gossamerlaw15.at -/
def F44 : FnC := ⟨2, (.seq (.reg [
  ia 4 (.new [(.p (.i .i64 0)), (.p (.i .i64 0))])]) (.seq (.reg [
  ia 5 (.mv (.t 0)),
ia 6 (.mv (.t 1)),
ia 7 (.build [(.p (.i .i64 0)), (.p (.i .i64 0))] [(0, (1, (.t 5))), (1, (1, (.t 6)))]),
io (.st 2 (.t 4) (.t 7))]) .ret)), [(.cell 4 2 true)]⟩
theorem cc44 : ccF Try.prog [(58, [0, 0]), (61, [1, 0]), (75, [0, 0]), (58, [9]), (91, [8]), (93, [8]), (72, [8]), (92, [8]), (76, [8])] Try.f44 = some (stripF F44) := by kernel_rfl

/- gossamer/gossamerref12.Has -/
def F45 : FnC := ⟨2, (.seq (.reg [
  ia 2 (.box 2 (.t 0)),
ia 3 (.box 2 (.t 1)),
ia 4 (.mv (.c (.a (.p (.b false)))))]) (.seq (.reg [
  ia 5 (.fad 0 (.t 3)),
ia 6 (.ld 1 false (.t 5)),
ia 7 (.bin .geq (.t 6) (ci 0)),
ia 8 (.mv (.t 7)),
ih 9 8 true (.fad 0 (.t 3)),
ih 10 8 true (.ld 1 false (.t 9)),
ih 11 8 true (.fad 0 (.t 2)),
ih 12 8 true (.ld 1 false (.t 11)),
ih 13 8 true (.len false (.t 12)),
ig 14 8 true (.bin .lss (.t 10) (.t 13)),
ia 15 (.pick (.t 8) (.t 14) (.c (.a (.p (.b false))))),
ia 16 (.mv (.t 15)),
ig 17 16 true (.fad 1 (.t 3)),
ig 18 16 true (.ld 1 false (.t 17)),
ig 19 16 true (.bin .geq (.t 18) (ci 0)),
ia 20 (.pick (.t 16) (.t 19) (.c (.a (.p (.b false))))),
ia 21 (.mv (.t 20)),
ih 22 21 true (.fad 1 (.t 3)),
ih 23 21 true (.ld 1 false (.t 22)),
ih 24 21 true (.fad 0 (.t 2)),
ih 25 21 true (.ld 1 false (.t 24)),
ih 26 21 true (.fad 0 (.t 3)),
ih 27 21 true (.ld 1 false (.t 26)),
ih 28 21 true (.ias 6 (.t 25) (.t 27)),
ih 29 21 true (.fad 5 (.t 28)),
ih 30 21 true (.ld 1 false (.t 29)),
ih 31 21 true (.len false (.t 30)),
ig 32 21 true (.bin .lss (.t 23) (.t 31)),
ia 33 (.pick (.t 21) (.t 32) (.c (.a (.p (.b false))))),
ia 4 (.mv (.t 33))]) .ret)), [(.tmp 4)]⟩
theorem cc45 : ccF Try.prog [(58, [0, 0]), (61, [1, 0]), (75, [0, 0]), (58, [9]), (91, [8]), (93, [8]), (72, [8]), (92, [8]), (76, [8])] Try.f45 = some (stripF F45) := by kernel_rfl

/- gossamer/store.Check -/
def F46b1 : C := (.seq (.reg [
  ia 63 (.bin .lss (.t 62) (.t 61))]) (.seq (.cond (.t 63) .skip (.exit 2)) (.seq (.block 3 (.seq (.reg [
  ia 64 (.mv (.t 62)),
ia 6 (.mv (.t 64))]) (.seq (.reg [
  ia 65 (.ld 2 true (.t 1)),
ia 66 (.mv (.t 4)),
ia 67 (.mv (.t 6)),
ia 68 (.build [(.p (.i .i64 0)), (.p (.i .i64 0))] [(0, (1, (.t 66))), (1, (1, (.t 67)))]),
ia 69 (.call (.f 64) [(.t 65), (.t 68)]),
ia 70 (.not (.t 69))]) (.cond (.t 70) (.seq (.reg [
  ia 2 (.mv (ci 120))]) .ret) .skip)))) (.reg [
  ia 71 (.bin .add (.t 62) (ci 1)),
ia 62 (.mv (.t 71))]))))
def F46b0 : C := (.seq (.reg [
  ia 36 (.bin .lss (.t 35) (.t 34))]) (.seq (.cond (.t 36) .skip (.exit 0)) (.seq (.block 1 (.seq (.reg [
  ia 37 (.mv (.t 35)),
ia 38 (.ias 6 (.t 33) (.t 35)),
ia 39 (.ld 6 true (.t 38)),
ia 5 (.new [(.p (.i .i64 0)), (.p (.i .i64 0)), (.p (.i .i64 0)), (.p (.s [])), .nil, .nil]),
ia 4 (.mv (.t 37)),
io (.st 6 (.t 5) (.t 39))]) (.seq (.seq (.reg [
  ia 40 (.ld 6 true (.t 5)),
ia 41 (.call (.f 62) [(.t 40)]),
ia 42 (.not (.t 41)),
ia 43 (.mv (.t 42)),
ih 44 43 false (.fad 5 (.t 5)),
ih 45 43 false (.ld 1 false (.t 44)),
ih 46 43 false (.len false (.t 45)),
ih 47 43 false (.ld 6 true (.t 5)),
ih 48 43 false (.call (.f 63) [(.t 47)]),
ig 49 43 false (.bin .neq (.t 46) (.t 48)),
ia 50 (.pick (.t 43) (.c (.a (.p (.b true)))) (.t 49)),
ia 51 (.mv (.t 50)),
ih 52 51 false (.fad 0 (.t 5)),
ih 53 51 false (.ld 1 false (.t 52)),
ih 54 51 false (.bin .eql (.t 53) (ci 1)),
ih 55 51 false (.mv (.t 4)),
ih 56 51 false (.bin .eql (.t 55) (ci 0)),
ig 57 51 false (.eqb true (.t 54) (.t 56)),
ia 58 (.pick (.t 51) (.c (.a (.p (.b true)))) (.t 57))]) (.cond (.t 58) (.seq (.reg [
  ia 2 (.mv (ci 120))]) .ret) .skip)) (.seq (.reg [
  ia 59 (.fad 5 (.t 5)),
ia 60 (.ld 1 false (.t 59)),
ia 61 (.len false (.t 60)),
ia 62 (.mv (ci 0))]) (.block 2 (.loop F46b1)))))) (.reg [
  ia 72 (.bin .add (.t 35) (ci 1)),
ia 35 (.mv (.t 72))]))))
def F46 : FnC := ⟨1, (.seq (.reg [
  ia 1 (.box 2 (.t 0)),
ia 2 (.mv (ci 0))]) (.seq (.reg [
  ia 7 (.fad 0 (.t 1)),
ia 8 (.ld 1 false (.t 7)),
ia 9 (.len false (.t 8)),
ia 10 (.bin .sub (.t 9) (ci 1)),
ia 3 (.mv (.t 10))]) (.seq (.seq (.reg [
  ia 11 (.fad 1 (.t 1)),
ia 12 (.ld 1 false (.t 11)),
ia 13 (.call (.f 61) [(.t 12), (ci 1), (ci 4000)]),
ia 14 (.not (.t 13)),
ia 15 (.mv (.t 14)),
ig 16 15 false (.mv (.t 3)),
ig 17 15 false (.bin .add (.t 16) (ci 1)),
ig 18 15 false (.fad 1 (.t 1)),
ig 19 15 false (.ld 1 false (.t 18)),
ig 20 15 false (.call (.f 61) [(.t 17), (ci 1), (.t 19)]),
ig 21 15 false (.not (.t 20)),
ia 22 (.pick (.t 15) (.c (.a (.p (.b true)))) (.t 21)),
ia 23 (.mv (.t 22)),
ig 24 23 false (.fad 0 (.t 1)),
ig 25 23 false (.ld 1 false (.t 24)),
ig 26 23 false (.mv (.t 3)),
ig 27 23 false (.ias 6 (.t 25) (.t 26)),
ig 28 23 false (.fad 0 (.t 27)),
ig 29 23 false (.ld 1 false (.t 28)),
ig 30 23 false (.bin .eql (.t 29) (ci 0)),
ia 31 (.pick (.t 23) (.c (.a (.p (.b true)))) (.t 30))]) (.cond (.t 31) (.seq (.reg [
  ia 2 (.mv (ci 120))]) .ret) .skip)) (.seq (.seq (.reg [
  ia 32 (.fad 0 (.t 1)),
ia 33 (.ld 1 false (.t 32)),
ia 34 (.len false (.t 33)),
ia 35 (.mv (ci 0))]) (.block 0 (.loop F46b0))) (.seq (.reg [
  ia 2 (.mv (ci 0))]) .ret))))), [(.tmp 2)]⟩
theorem cc46 : ccF Try.prog [(58, [0, 0]), (61, [1, 0]), (75, [0, 0]), (58, [9]), (91, [8]), (93, [8]), (72, [8]), (92, [8]), (76, [8])] Try.f46 = some (stripF F46) := by kernel_rfl

/- gossamer/act.meets -/
def F47 : FnC := ⟨2, (.seq (.reg [
  ia 2 (.box 2 (.t 0)),
ia 4 (.mv (ci 0))]) (.seq (.reg [
  ir 8 (.ld 2 true (.t 2)),
ir 9 (.mv (.t 1)),
ir 10 (.call (.f 66) [(.t 9), (ci 0)]),
ir 11 (.call (.f 65) [(.t 8), (.t 10)]),
ir 7 (.mv (.t 11)),
ir 12 (.ext (.t 7) 0),
ir 13 (.ext (.t 7) 1),
⟨(.some 5), .none, (.new [(.p (.i .i64 0)), (.p (.i .i64 0))]), .ad⟩,
⟨.none, .none, (.st 2 (.t 5) (.t 12)), (.wr [])⟩,
ia 6 (.mv (.t 13))]) (.seq (.seq (.reg [
  ia 14 (.mv (.t 6)),
ia 15 (.bin .neq (.t 14) (ci 0)),
ia 16 (.mv (.t 15)),
ig 17 16 false (.fad 1 (.t 5)),
ig 18 16 false (.ld 1 false (.t 17)),
ig 19 16 false (.bin .neq (.t 18) (ci 0)),
ia 20 (.pick (.t 16) (.c (.a (.p (.b true)))) (.t 19))]) (.cond (.t 20) (.seq (.reg [
  ia 4 (.mv (.c (.a (.p (.i .i64 (-1))))))]) .ret) .skip)) (.seq (.reg [
  ia 21 (.fad 0 (.t 5)),
ia 22 (.ld 1 false (.t 21)),
ia 4 (.mv (.t 22))]) .ret)))), [(.tmp 4)]⟩
theorem cc47 : ccF Try.prog [(58, [0, 0]), (61, [1, 0]), (75, [0, 0]), (58, [9]), (91, [8]), (93, [8]), (72, [8]), (92, [8]), (76, [8])] Try.f47 = some (stripF F47) := by kernel_rfl

/- gossamer/store.Used -/
def F48b0 : C := (.seq (.reg [
  ia 10 (.bin .lss (.t 9) (.t 8))]) (.seq (.cond (.t 10) .skip (.exit 0)) (.seq (.block 1 (.seq (.reg [
  ia 11 (.ias 6 (.t 7) (.t 9)),
ia 12 (.ld 6 true (.t 11)),
ia 5 (.new [(.p (.i .i64 0)), (.p (.i .i64 0)), (.p (.i .i64 0)), (.p (.s [])), .nil, .nil]),
io (.st 6 (.t 5) (.t 12))]) (.seq (.reg [
  ia 13 (.ld 6 true (.t 5)),
ia 14 (.call (.f 67) [(.t 13)]),
ia 15 (.not (.t 14))]) (.cond (.t 15) (.reg [
  ia 16 (.mv (.t 3)),
ia 17 (.bin .add (.t 16) (ci 1)),
ia 3 (.mv (.t 17))]) .skip)))) (.reg [
  ia 18 (.bin .add (.t 9) (ci 1)),
ia 9 (.mv (.t 18))]))))
def F48 : FnC := ⟨1, (.seq (.reg [
  ia 1 (.box 2 (.t 0)),
ia 2 (.mv (ci 0))]) (.seq (.reg [
  ia 3 (.mv (ci 0))]) (.seq (.seq (.reg [
  ia 6 (.fad 0 (.t 1)),
ia 7 (.ld 1 false (.t 6)),
ia 8 (.len false (.t 7)),
ia 9 (.mv (ci 0))]) (.block 0 (.loop F48b0))) (.seq (.reg [
  ia 19 (.mv (.t 3)),
ia 2 (.mv (.t 19))]) .ret)))), [(.tmp 2)]⟩
theorem cc48 : ccF Try.prog [(58, [0, 0]), (61, [1, 0]), (75, [0, 0]), (58, [9]), (91, [8]), (93, [8]), (72, [8]), (92, [8]), (76, [8])] Try.f48 = some (stripF F48) := by kernel_rfl

/- (*gossamer/act.stage).do -/
def F49b0 : C := (.seq (.reg [
  ia 79 (.bin .lss (.t 78) (.t 77))]) (.seq (.cond (.t 79) .skip (.exit 1)) (.seq (.block 2 (.seq (.reg [
  ia 80 (.ias 1 (.t 76) (.t 78)),
ia 81 (.ld 1 false (.t 80)),
ia 3 (.mv (.t 81))]) (.reg [
  ia 83 (.mv (.t 0)),
ia 84 (.mv (.t 0)),
ia 85 (.nck (.t 84)),
ia 86 (.fad 0 (.t 85)),
ia 87 (.ld 2 true (.t 86)),
ia 88 (.mv (.t 3)),
ia 89 (.call (.f 77) [(.t 87), (.t 88)]),
ia 82 (.mv (.t 89)),
ia 90 (.ext (.t 82) 0),
ia 91 (.ext (.t 82) 1),
ia 92 (.nck (.t 83)),
ia 93 (.fad 0 (.t 92)),
io (.st 2 (.t 93) (.t 90))]))) (.reg [
  ia 94 (.bin .add (.t 78) (ci 1)),
ia 78 (.mv (.t 94))]))))
def F49 : FnC := ⟨1, (.seq (.seq (.reg [
  ia 4 (.mv (.t 0)),
ia 5 (.nck (.t 4)),
ia 6 (.fad 2 (.t 5)),
ia 7 (.fad 0 (.t 6)),
ia 8 (.ld 1 false (.t 7))]) (.block 0 (.seq (.seq (.reg [
  ia 10 (.bin .eql (.t 8) (ci 1)),
ia 9 (.mv (.t 10))]) (.cond (.t 9) .skip (.reg [
  ia 11 (.bin .eql (.t 8) (ci 6)),
ia 9 (.mv (.t 11))]))) (.cond (.t 9) (.reg [
  ia 12 (.mv (.t 0)),
ia 13 (.call (.f 68) [(.t 12)])]) (.seq (.reg [
  ia 15 (.bin .eql (.t 8) (ci 2)),
ia 14 (.mv (.t 15))]) (.cond (.t 14) (.reg [
  ia 16 (.mv (.t 0)),
ia 17 (.call (.f 69) [(.t 16)])]) (.seq (.reg [
  ia 19 (.bin .eql (.t 8) (ci 3)),
ia 18 (.mv (.t 19))]) (.cond (.t 18) (.reg [
  ia 20 (.mv (.t 0)),
ia 21 (.call (.f 70) [(.t 20)])]) (.seq (.reg [
  ia 23 (.bin .eql (.t 8) (ci 4)),
ia 22 (.mv (.t 23))]) (.cond (.t 22) (.reg [
  ir 24 (.mv (.t 0)),
ir 25 (.mv (.t 0)),
ir 26 (.nck (.t 25)),
ir 27 (.fad 12 (.t 26)),
ir 28 (.ld 1 false (.t 27)),
ir 29 (.call (.f 66) [(.t 28), (ci 1)]),
ir 30 (.mv (.t 0)),
ir 31 (.mv (.t 0)),
ir 32 (.nck (.t 31)),
ir 33 (.fad 2 (.t 32)),
ir 34 (.fad 4 (.t 33)),
ir 35 (.ld 6 true (.t 34)),
⟨(.some 36), .none, (.call (.f 72) [(.t 30), (.t 35)]), (.cl [] [])⟩,
ir 37 (.call (.f 66) [(.t 36), (ci 0)]),
ia 38 (.call (.f 71) [(.t 24), (.t 29), (.t 37)])]) (.seq (.reg [
  ia 40 (.bin .eql (.t 8) (ci 5)),
ia 39 (.mv (.t 40))]) (.cond (.t 39) (.reg [
  ia 41 (.mv (.t 0)),
ia 42 (.call (.f 73) [(.t 41)])]) (.seq (.reg [
  ia 44 (.bin .eql (.t 8) (ci 7)),
ia 43 (.mv (.t 44))]) (.cond (.t 43) (.reg [
  ia 45 (.mv (.t 0)),
ia 46 (.call (.f 74) [(.t 45)])]) (.seq (.reg [
  ia 48 (.bin .eql (.t 8) (ci 8)),
ia 47 (.mv (.t 48))]) (.cond (.t 47) (.reg [
  ia 49 (.mv (.t 0)),
ia 50 (.mv (.t 0)),
ia 51 (.mv (.t 0)),
ia 52 (.nck (.t 51)),
ia 53 (.fad 13 (.t 52)),
ia 54 (.ld 1 false (.t 53)),
ia 55 (.call (.f 76) [(.t 50), (.t 54), (ci 1)]),
ia 56 (.call (.f 75) [(.t 49), (.t 55)]),
ia 57 (.call (.t 56) [])]) .skip)))))))))))))))) (.seq (.reg [
  ir 58 (.mv (.t 0)),
ir 59 (.nck (.t 58)),
ir 60 (.fad 12 (.t 59)),
ir 61 (.ld 1 false (.t 60)),
ir 62 (.mv (.t 0)),
ir 63 (.nck (.t 62)),
ir 64 (.fad 13 (.t 63)),
ir 65 (.ld 1 false (.t 64)),
ir 66 (.mx (.t 61) (.t 65)),
ir 67 (.mv (.t 0)),
ir 68 (.nck (.t 67)),
ir 69 (.fad 12 (.t 68)),
ir 70 (.ld 1 false (.t 69)),
ir 71 (.mv (.t 0)),
ir 72 (.nck (.t 71)),
ir 73 (.fad 13 (.t 72)),
ir 74 (.ld 1 false (.t 73)),
ir 75 (.mn (.t 70) (.t 74)),
⟨(.some 76), .none, (.bsl 1 3 [(.p (.i .i64 0))] 2 [(0, (.t 66)), (1, (.t 75))]), .ad⟩,
ir 77 (.len false (.t 76)),
ir 78 (.mv (ci 0))]) (.block 1 (.loop F49b0)))), []⟩
theorem cc49 : ccF Try.prog [(58, [0, 0]), (61, [1, 0]), (75, [0, 0]), (58, [9]), (91, [8]), (93, [8]), (72, [8]), (92, [8]), (76, [8])] Try.f49 = some (stripF F49) := by kernel_rfl

/- gossamer/gossamerref13.Peer -/
def F50 : FnC := ⟨2, (.seq (.reg [
  ia 2 (.box 2 (.t 0)),
ia 3 (.box 2 (.t 1)),
ia 4 (.new [(.p (.i .i64 0)), (.p (.i .i64 0))]),
ia 5 (.mv (ci 0))]) (.seq (.seq (.reg [
  ia 6 (.ld 2 true (.t 2)),
ia 7 (.ld 2 true (.t 3)),
ia 8 (.call (.f 45) [(.t 6), (.t 7)]),
ia 9 (.not (.t 8))]) (.cond (.t 9) (.seq (.reg [
  ia 10 (.build [(.p (.i .i64 0)), (.p (.i .i64 0))] []),
io (.st 2 (.t 4) (.t 10)),
ia 5 (.mv (ci 130))]) .ret) .skip)) (.seq (.reg [
  ia 11 (.ld 2 true (.t 2)),
ia 12 (.ld 2 true (.t 3)),
ia 13 (.call (.f 78) [(.t 11), (.t 12)]),
io (.st 2 (.t 4) (.t 13)),
ia 5 (.mv (ci 0))]) .ret))), [(.cell 4 2 true), (.tmp 5)]⟩
theorem cc50 : ccF Try.prog [(58, [0, 0]), (61, [1, 0]), (75, [0, 0]), (58, [9]), (91, [8]), (93, [8]), (72, [8]), (92, [8]), (76, [8])] Try.f50 = some (stripF F50) := by kernel_rfl

/- gossamer/gossamerref15.at -/
def F51 : FnC := ⟨2, (.seq (.reg [
  ia 4 (.new [(.p (.i .i64 0)), (.p (.i .i64 0))])]) (.seq (.reg [
  ia 5 (.mv (.t 0)),
ia 6 (.mv (.t 1)),
ia 7 (.build [(.p (.i .i64 0)), (.p (.i .i64 0))] [(0, (1, (.t 5))), (1, (1, (.t 6)))]),
io (.st 2 (.t 4) (.t 7))]) .ret)), [(.cell 4 2 true)]⟩
theorem cc51 : ccF Try.prog [(58, [0, 0]), (61, [1, 0]), (75, [0, 0]), (58, [9]), (91, [8]), (93, [8]), (72, [8]), (92, [8]), (76, [8])] Try.f51 = some (stripF F51) := by kernel_rfl

/- gossamer/rule.pick -/
def F52 : FnC := ⟨2, (.seq (.reg [
  ia 2 (.box 6 (.t 0)),
ia 3 (.box 6 (.t 1)),
ia 4 (.new [(.p (.i .i64 0)), (.p (.b false)), (.p (.i .i64 0)), (.p (.i .i64 0)), (.p (.i .i64 0)), (.p (.i .i64 0)), (.p (.i .i64 0)), (.p (.s [])), .nil, .nil]),
ia 5 (.mv (ci 0))]) (.seq (.seq (.reg [
  ia 7 (.fad 1 (.t 2)),
ia 8 (.ld 1 false (.t 7)),
ia 9 (.fad 1 (.t 3)),
ia 10 (.ld 1 false (.t 9)),
ia 11 (.bin .neq (.t 8) (.t 10))]) (.cond (.t 11) (.seq (.reg [
  ia 12 (.build [(.p (.i .i64 0)), (.p (.b false)), (.p (.i .i64 0)), (.p (.i .i64 0)), (.p (.i .i64 0)), (.p (.i .i64 0)), (.p (.i .i64 0)), (.p (.s [])), .nil, .nil] []),
io (.st 10 (.t 4) (.t 12)),
ia 5 (.mv (ci 140))]) .ret) .skip)) (.seq (.reg [
  ia 13 (.fad 4 (.t 2)),
ia 14 (.ld 1 false (.t 13)),
ia 15 (.fn 80 [(.t 3)]),
ia 16 (.call (.f 79) [(.t 14), (.t 15)]),
ia 6 (.mv (.t 16))]) (.seq (.seq (.reg [
  ia 17 (.mv (.t 6)),
ia 18 (.bin .lss (.t 17) (ci 0))]) (.cond (.t 18) (.seq (.reg [
  ia 19 (.call (.f 36) [(ci 5)]),
ia 20 (.ext (.t 19) 0),
ia 21 (.ext (.t 19) 1),
io (.st 10 (.t 4) (.t 20)),
ia 5 (.mv (.t 21))]) .ret) .skip)) (.seq (.reg [
  ia 22 (.mv (.t 6)),
ia 23 (.build [(.p (.i .i64 0)), (.p (.b false)), (.p (.i .i64 0)), (.p (.i .i64 0)), (.p (.i .i64 0)), (.p (.i .i64 0)), (.p (.i .i64 0)), (.p (.s [])), .nil, .nil] [(0, (1, (ci 2))), (3, (1, (.t 22)))]),
io (.st 10 (.t 4) (.t 23)),
ia 5 (.mv (ci 0))]) .ret))))), [(.cell 4 10 true), (.tmp 5)]⟩
theorem cc52 : ccF Try.prog [(58, [0, 0]), (61, [1, 0]), (75, [0, 0]), (58, [9]), (91, [8]), (93, [8]), (72, [8]), (92, [8]), (76, [8])] Try.f52 = some (stripF F52) := by kernel_rfl

/- gossamer/rule.out -/
def F53 : FnC := ⟨2, (.seq (.reg [
  ia 2 (.box 6 (.t 0)),
ia 3 (.box 6 (.t 1)),
ia 4 (.new [(.p (.i .i64 0)), (.p (.b false)), (.p (.i .i64 0)), (.p (.i .i64 0)), (.p (.i .i64 0)), (.p (.i .i64 0)), (.p (.i .i64 0)), (.p (.s [])), .nil, .nil]),
ia 5 (.mv (ci 0))]) (.seq (.reg [
  ia 7 (.build [(.p (.i .i64 0)), (.p (.i .i64 0)), (.p (.i .i64 0)), (.p (.s [])), .nil, .nil] [(0, (1, (ci 10)))]),
ia 6 (.new [(.p (.i .i64 0)), (.p (.i .i64 0)), (.p (.i .i64 0)), (.p (.s [])), .nil, .nil]),
io (.st 6 (.t 6) (.t 7))]) (.seq (.seq (.reg [
  ia 8 (.fad 3 (.t 2)),
ia 9 (.ld 1 false (.t 8))]) (.block 0 (.seq (.reg [
  ia 11 (.bin .eql (.t 9) (.c (.a (.p (.s [43]))))),
ia 10 (.mv (.t 11))]) (.cond (.t 10) (.reg [
  ia 12 (.fad 2 (.t 2)),
ia 13 (.ld 1 false (.t 12)),
ia 14 (.fad 2 (.t 3)),
ia 15 (.ld 1 false (.t 14)),
ia 16 (.bin .add (.t 13) (.t 15)),
ia 17 (.fad 2 (.t 6)),
io (.st 1 (.t 17) (.t 16))]) (.seq (.reg [
  ia 19 (.bin .eql (.t 9) (.c (.a (.p (.s [45]))))),
ia 18 (.mv (.t 19))]) (.cond (.t 18) (.reg [
  ia 20 (.fad 2 (.t 2)),
ia 21 (.ld 1 false (.t 20)),
ia 22 (.fad 2 (.t 3)),
ia 23 (.ld 1 false (.t 22)),
ia 24 (.bin .sub (.t 21) (.t 23)),
ia 25 (.fad 2 (.t 6)),
io (.st 1 (.t 25) (.t 24))]) (.seq (.reg [
  ia 27 (.bin .eql (.t 9) (.c (.a (.p (.s [42]))))),
ia 26 (.mv (.t 27))]) (.cond (.t 26) (.reg [
  ia 28 (.fad 2 (.t 2)),
ia 29 (.ld 1 false (.t 28)),
ia 30 (.fad 2 (.t 3)),
ia 31 (.ld 1 false (.t 30)),
ia 32 (.bin .mul (.t 29) (.t 31)),
ia 33 (.fad 2 (.t 6)),
io (.st 1 (.t 33) (.t 32))]) (.seq (.reg [
  ia 35 (.bin .eql (.t 9) (.c (.a (.p (.s [47]))))),
ia 34 (.mv (.t 35))]) (.cond (.t 34) (.seq (.seq (.reg [
  ia 36 (.fad 2 (.t 3)),
ia 37 (.ld 1 false (.t 36)),
ia 38 (.bin .eql (.t 37) (ci 0))]) (.cond (.t 38) (.seq (.reg [
  ia 39 (.call (.f 36) [(ci 5)]),
ia 40 (.ext (.t 39) 0),
ia 41 (.ext (.t 39) 1),
io (.st 10 (.t 4) (.t 40)),
ia 5 (.mv (.t 41))]) .ret) .skip)) (.reg [
  ia 42 (.fad 2 (.t 2)),
ia 43 (.ld 1 false (.t 42)),
ia 44 (.fad 2 (.t 3)),
ia 45 (.ld 1 false (.t 44)),
ia 46 (.bin .quo (.t 43) (.t 45)),
ia 47 (.fad 2 (.t 6)),
io (.st 1 (.t 47) (.t 46))])) (.seq (.reg [
  ia 49 (.bin .eql (.t 9) (.c (.a (.p (.s [60]))))),
ia 48 (.mv (.t 49))]) (.cond (.t 48) (.reg [
  ia 50 (.fad 2 (.t 2)),
ia 51 (.ld 1 false (.t 50)),
ia 52 (.fad 2 (.t 3)),
ia 53 (.ld 1 false (.t 52)),
ia 54 (.bin .lss (.t 51) (.t 53)),
ia 55 (.call (.f 81) [(.t 54)]),
io (.st 6 (.t 6) (.t 55))]) (.seq (.reg [
  ia 57 (.bin .eql (.t 9) (.c (.a (.p (.s [61, 61]))))),
ia 56 (.mv (.t 57))]) (.cond (.t 56) (.reg [
  ia 58 (.fad 2 (.t 2)),
ia 59 (.ld 1 false (.t 58)),
ia 60 (.fad 2 (.t 3)),
ia 61 (.ld 1 false (.t 60)),
ia 62 (.bin .eql (.t 59) (.t 61)),
ia 63 (.call (.f 81) [(.t 62)]),
io (.st 6 (.t 6) (.t 63))]) .skip)))))))))))))) (.seq (.reg [
  ia 64 (.fad 1 (.t 2)),
ia 65 (.ld 1 false (.t 64)),
ia 66 (.fad 1 (.t 6)),
io (.st 1 (.t 66) (.t 65))]) (.seq (.reg [
  ia 67 (.ld 6 true (.t 6)),
ia 68 (.build [(.p (.i .i64 0)), (.p (.b false)), (.p (.i .i64 0)), (.p (.i .i64 0)), (.p (.i .i64 0)), (.p (.i .i64 0)), (.p (.i .i64 0)), (.p (.s [])), .nil, .nil] [(0, (1, (ci 4))), (4, (6, (.t 67)))]),
io (.st 10 (.t 4) (.t 68)),
ia 5 (.mv (ci 0))]) .ret))))), [(.cell 4 10 true), (.tmp 5)]⟩
theorem cc53 : ccF Try.prog [(58, [0, 0]), (61, [1, 0]), (75, [0, 0]), (58, [9]), (91, [8]), (93, [8]), (72, [8]), (92, [8]), (76, [8])] Try.f53 = some (stripF F53) := by kernel_rfl

/- gossamer/gossamerref06.may -/
def F54b1 : C := (.seq (.seq (.reg [
  ia 52 (.mv (.t 8)),
ia 53 (.mv (.t 7)),
ia 54 (.bin .lss (.t 52) (.t 53)),
ia 55 (.mv (.t 54)),
ig 56 55 true (.fad 0 (.t 3)),
ig 57 55 true (.ld 1 false (.t 56)),
ig 58 55 true (.bin .eql (.t 57) (ci 5)),
ia 59 (.pick (.t 55) (.t 58) (.c (.a (.p (.b false)))))]) (.cond (.t 59) .skip (.exit 2))) (.seq (.block 3 (.seq (.reg [
  ir 62 (.fad 3 (.t 3)),
ir 63 (.ld 1 false (.t 62)),
ir 64 (.mv (.t 8)),
ir 65 (.ias 4 (.t 63) (.t 64)),
ir 66 (.fad 2 (.t 65)),
ir 67 (.ld 1 false (.t 66)),
ir 68 (.fad 3 (.t 3)),
ir 69 (.ld 1 false (.t 68)),
ir 70 (.mv (.t 7)),
ir 71 (.ias 4 (.t 69) (.t 70)),
ir 72 (.fad 2 (.t 71)),
ir 73 (.ld 1 false (.t 72)),
ia 74 (.bin .eql (.t 67) (.t 73))]) (.cond (.t 74) (.seq (.reg [
  ia 6 (.mv (.c (.a (.p (.b false)))))]) .ret) .skip))) (.reg [
  ia 60 (.mv (.t 8)),
ia 61 (.bin .add (.t 60) (ci 1)),
ia 8 (.mv (.t 61))])))
def F54b0 : C := (.seq (.seq (.reg [
  ia 30 (.mv (.t 7)),
ia 31 (.fad 3 (.t 3)),
ia 32 (.ld 1 false (.t 31)),
ia 33 (.len false (.t 32)),
ia 34 (.bin .lss (.t 30) (.t 33))]) (.cond (.t 34) .skip (.exit 0))) (.seq (.block 1 (.seq (.seq (.reg [
  ir 37 (.fad 3 (.t 3)),
ir 38 (.ld 1 false (.t 37)),
ir 39 (.mv (.t 7)),
ir 40 (.ias 4 (.t 38) (.t 39)),
ir 41 (.ld 4 true (.t 40)),
ir 42 (.mv (.t 1)),
ir 43 (.fad 0 (.t 3)),
ir 44 (.ld 1 false (.t 43)),
ir 45 (.bin .eql (.t 44) (ci 5)),
ir 46 (.mv (.t 45)),
ih 47 46 true (.mv (.t 7)),
ih 48 46 true (.bin .gtr (.t 47) (ci 0)),
ir 49 (.pick (.t 46) (.t 48) (.c (.a (.p (.b false))))),
ia 50 (.call (.f 54) [(.t 41), (.t 42), (.t 49)]),
ia 51 (.not (.t 50))]) (.cond (.t 51) (.seq (.reg [
  ia 6 (.mv (.c (.a (.p (.b false)))))]) .ret) .skip)) (.seq (.reg [
  ia 8 (.mv (ci 1))]) (.block 2 (.loop F54b1))))) (.reg [
  ia 35 (.mv (.t 7)),
ia 36 (.bin .add (.t 35) (ci 1)),
ia 7 (.mv (.t 36))])))
def F54 : FnC := ⟨3, (.seq (.reg [
  ia 3 (.box 4 (.t 0)),
ia 6 (.mv (.c (.a (.p (.b false)))))]) (.seq (.seq (.reg [
  ia 9 (.mv (.t 1)),
ia 10 (.bin .lss (.t 9) (ci 0)),
ia 11 (.mv (.t 10)),
ig 12 11 false (.ld 4 true (.t 3)),
ig 13 11 false (.mv (.t 1)),
ig 14 11 false (.mv (.t 2)),
ig 15 11 false (.call (.f 82) [(.t 12), (.t 13), (.t 14)]),
ig 16 11 false (.not (.t 15)),
ia 17 (.pick (.t 11) (.c (.a (.p (.b true)))) (.t 16))]) (.cond (.t 17) (.seq (.reg [
  ia 6 (.mv (.c (.a (.p (.b false)))))]) .ret) .skip)) (.seq (.seq (.reg [
  ia 18 (.fad 0 (.t 3)),
ia 19 (.ld 1 false (.t 18)),
ia 20 (.bin .eql (.t 19) (ci 2))]) (.cond (.t 20) (.reg [
  ia 21 (.mv (.t 1)),
ia 22 (.bin .add (.t 21) (ci 1)),
ia 1 (.mv (.t 22))]) .skip)) (.seq (.seq (.reg [
  ia 23 (.fad 0 (.t 3)),
ia 24 (.ld 1 false (.t 23)),
ia 25 (.bin .eql (.t 24) (ci 6))]) (.cond (.t 25) (.reg [
  ia 26 (.mv (.t 1)),
ia 27 (.fad 1 (.t 3)),
ia 28 (.ld 1 false (.t 27)),
ia 29 (.bin .add (.t 26) (.t 28)),
ia 1 (.mv (.t 29))]) .skip)) (.seq (.seq (.reg [
  ia 7 (.mv (ci 0))]) (.block 0 (.loop F54b0))) (.seq (.reg [
  ia 6 (.mv (.c (.a (.p (.b true)))))]) .ret)))))), [(.tmp 6)]⟩
theorem cc54 : ccF Try.prog [(58, [0, 0]), (61, [1, 0]), (75, [0, 0]), (58, [9]), (91, [8]), (93, [8]), (72, [8]), (92, [8]), (76, [8])] Try.f54 = some (stripF F54) := by kernel_rfl

/- gossamer/gossamerref09.value -/
def F55 : FnC := ⟨1, (.seq (.reg [
  ia 1 (.box 4 (.t 0)),
ia 2 (.mv (.c (.a (.p (.b false)))))]) (.seq (.reg [
  ia 3 (.fad 0 (.t 1)),
ia 4 (.ld 1 false (.t 3)),
ia 5 (.bin .eql (.t 4) (ci 2)),
ia 6 (.mv (.t 5)),
ig 7 6 false (.fad 0 (.t 1)),
ig 8 6 false (.ld 1 false (.t 7)),
ig 9 6 false (.bin .eql (.t 8) (ci 4)),
ia 10 (.pick (.t 6) (.c (.a (.p (.b true)))) (.t 9)),
ia 11 (.mv (.t 10)),
ig 12 11 false (.fad 0 (.t 1)),
ig 13 11 false (.ld 1 false (.t 12)),
ig 14 11 false (.bin .eql (.t 13) (ci 7)),
ia 15 (.pick (.t 11) (.c (.a (.p (.b true)))) (.t 14)),
ia 16 (.mv (.t 15)),
ig 17 16 false (.fad 0 (.t 1)),
ig 18 16 false (.ld 1 false (.t 17)),
ig 19 16 false (.bin .eql (.t 18) (ci 9)),
ia 20 (.pick (.t 16) (.c (.a (.p (.b true)))) (.t 19)),
ia 2 (.mv (.t 20))]) .ret)), [(.tmp 2)]⟩
theorem cc55 : ccF Try.prog [(58, [0, 0]), (61, [1, 0]), (75, [0, 0]), (58, [9]), (91, [8]), (93, [8]), (72, [8]), (92, [8]), (76, [8])] Try.f55 = some (stripF F55) := by kernel_rfl

/- gossamer/gossamerref09.within -/
def F56 : FnC := ⟨2, (.seq (.reg [
  ia 2 (.box 4 (.t 0)),
ia 4 (.new [(.p (.i .i64 0)), (.p (.i .i64 0)), (.p (.s [])), .nil]),
ia 5 (.mv (ci 0))]) (.seq (.reg [
  ia 10 (.fad 3 (.t 2)),
ia 11 (.ld 1 false (.t 10)),
ia 12 (.mv (.t 1)),
ia 13 (.ias 4 (.t 11) (.t 12)),
ia 14 (.ld 4 true (.t 13)),
ia 15 (.call (.f 42) [(.t 14)]),
ia 9 (.mv (.t 15)),
ia 16 (.ext (.t 9) 0),
ia 17 (.ext (.t 9) 1),
ia 6 (.new [(.p (.i .i64 0)), (.p (.i .i64 0)), (.p (.s [])), .nil]),
io (.st 4 (.t 6) (.t 16)),
ia 7 (.mv (.t 17))]) (.seq (.seq (.reg [
  ia 18 (.mv (.t 7)),
ia 19 (.bin .eql (.t 18) (ci 0))]) (.cond (.t 19) (.seq (.reg [
  ia 20 (.ld 4 true (.t 2)),
io (.st 4 (.t 4) (.t 20)),
ia 5 (.mv (ci 0))]) .ret) .skip)) (.seq (.reg [
  ia 21 (.fad 0 (.t 2)),
ia 22 (.ld 1 false (.t 21)),
ia 23 (.fad 1 (.t 2)),
ia 24 (.ld 1 false (.t 23)),
ia 25 (.fad 2 (.t 2)),
ia 26 (.ld 1 false (.t 25)),
ia 27 (.build [(.p (.i .i64 0)), (.p (.i .i64 0)), (.p (.s [])), .nil] [(0, (1, (.t 22))), (1, (1, (.t 24))), (2, (1, (.t 26)))]),
ia 8 (.new [(.p (.i .i64 0)), (.p (.i .i64 0)), (.p (.s [])), .nil]),
io (.st 4 (.t 8) (.t 27))]) (.seq (.reg [
  ia 28 (.fad 3 (.t 8)),
ia 29 (.ld 1 false (.t 28)),
ia 30 (.fad 3 (.t 2)),
ia 31 (.ld 1 false (.t 30)),
ia 32 (.app 4 43 56 (.t 29) (.t 31)),
ia 33 (.fad 3 (.t 8)),
io (.st 1 (.t 33) (.t 32))]) (.seq (.reg [
  ia 34 (.fad 3 (.t 8)),
ia 35 (.ld 1 false (.t 34)),
ia 36 (.mv (.t 1)),
ia 37 (.ld 4 true (.t 6)),
ia 38 (.ias 4 (.t 35) (.t 36)),
io (.st 4 (.t 38) (.t 37))]) (.seq (.reg [
  ia 39 (.ld 4 true (.t 8)),
ia 40 (.mv (.t 7)),
io (.st 4 (.t 4) (.t 39)),
ia 5 (.mv (.t 40))]) .ret))))))), [(.cell 4 4 true), (.tmp 5)]⟩
theorem cc56 : ccF Try.prog [(58, [0, 0]), (61, [1, 0]), (75, [0, 0]), (58, [9]), (91, [8]), (93, [8]), (72, [8]), (92, [8]), (76, [8])] Try.f56 = some (stripF F56) := by kernel_rfl

/- gossamer/gossamerref09.pick -/
def F57b0 : C := (.seq (.seq (.reg [
  ia 10 (.mv (.t 5)),
ia 11 (.fad 3 (.t 1)),
ia 12 (.ld 1 false (.t 11)),
ia 13 (.len false (.t 12)),
ia 14 (.bin .lss (.t 10) (.t 13)),
ia 15 (.mv (.t 14)),
ig 16 15 true (.fad 0 (.t 4)),
ig 17 15 true (.ld 1 false (.t 16)),
ig 18 15 true (.bin .eql (.t 17) (ci 4)),
ia 19 (.pick (.t 15) (.t 18) (.c (.a (.p (.b false)))))]) (.cond (.t 19) .skip (.exit 0))) (.seq (.block 1 (.seq (.reg [
  ir 22 (.fad 3 (.t 1)),
ir 23 (.ld 1 false (.t 22)),
ir 24 (.mv (.t 5)),
ir 25 (.ias 4 (.t 23) (.t 24)),
ir 26 (.fad 2 (.t 25)),
ir 27 (.ld 1 false (.t 26)),
ir 28 (.fad 2 (.t 4)),
ir 29 (.ld 1 false (.t 28)),
ia 30 (.bin .eql (.t 27) (.t 29)),
ia 31 (.mv (.t 30)),
ih 32 31 true (.fad 3 (.t 1)),
ih 33 31 true (.ld 1 false (.t 32)),
ih 34 31 true (.mv (.t 5)),
ih 35 31 true (.ias 4 (.t 33) (.t 34)),
ih 36 31 true (.fad 1 (.t 35)),
ih 37 31 true (.ld 1 false (.t 36)),
ih 38 31 true (.fad 3 (.t 4)),
ih 39 31 true (.ld 1 false (.t 38)),
ih 40 31 true (.len false (.t 39)),
ig 41 31 true (.bin .eql (.t 37) (.t 40)),
ia 42 (.pick (.t 31) (.t 41) (.c (.a (.p (.b false)))))]) (.cond (.t 42) (.seq (.reg [
  ir 43 (.fad 3 (.t 1)),
ir 44 (.ld 1 false (.t 43)),
ir 45 (.mv (.t 5)),
ir 46 (.ias 4 (.t 44) (.t 45)),
ir 47 (.fad 3 (.t 46)),
ir 48 (.ld 1 false (.t 47)),
ir 49 (.ias 4 (.t 48) (ci 0)),
ir 50 (.ld 4 true (.t 49)),
ir 51 (.fad 3 (.t 4)),
ir 52 (.ld 1 false (.t 51)),
ia 53 (.call (.f 83) [(.t 50), (.t 52)]),
io (.st 4 (.t 2) (.t 53)),
ia 3 (.mv (ci 2))]) .ret) .skip))) (.reg [
  ia 20 (.mv (.t 5)),
ia 21 (.bin .add (.t 20) (ci 1)),
ia 5 (.mv (.t 21))])))
def F57 : FnC := ⟨1, (.seq (.reg [
  ia 1 (.box 4 (.t 0)),
ia 2 (.new [(.p (.i .i64 0)), (.p (.i .i64 0)), (.p (.s [])), .nil]),
ia 3 (.mv (ci 0))]) (.seq (.reg [
  ia 6 (.fad 3 (.t 1)),
ia 7 (.ld 1 false (.t 6)),
ia 8 (.ias 4 (.t 7) (ci 0)),
ia 9 (.ld 4 true (.t 8)),
ia 4 (.new [(.p (.i .i64 0)), (.p (.i .i64 0)), (.p (.s [])), .nil]),
io (.st 4 (.t 4) (.t 9))]) (.seq (.seq (.reg [
  ia 5 (.mv (ci 1))]) (.block 0 (.loop F57b0))) (.seq (.reg [
  ia 54 (.call (.f 59) []),
ia 55 (.ext (.t 54) 0),
ia 56 (.ext (.t 54) 1),
io (.st 4 (.t 2) (.t 55)),
ia 3 (.mv (.t 56))]) .ret)))), [(.cell 2 4 true), (.tmp 3)]⟩
theorem cc57 : ccF Try.prog [(58, [0, 0]), (61, [1, 0]), (75, [0, 0]), (58, [9]), (91, [8]), (93, [8]), (72, [8]), (92, [8]), (76, [8])] Try.f57 = some (stripF F57) := by kernel_rfl

/- gossamer/gossamerref08.Put -/
def F58 : FnC := ⟨3, (.seq (.reg [
  ia 3 (.box 4 (.t 0)),
ia 5 (.box 4 (.t 2)),
ia 6 (.new [(.p (.i .i64 0)), (.p (.i .i64 0)), (.p (.s [])), .nil])]) (.seq (.reg [
  ia 7 (.ld 4 true (.t 3)),
ia 8 (.mv (.t 1)),
ia 9 (.ld 4 true (.t 5)),
ia 10 (.call (.f 84) [(.t 7), (.t 8), (.t 9), (ci 0)]),
io (.st 4 (.t 6) (.t 10))]) .ret)), [(.cell 6 4 true)]⟩
theorem cc58 : ccF Try.prog [(58, [0, 0]), (61, [1, 0]), (75, [0, 0]), (58, [9]), (91, [8]), (93, [8]), (72, [8]), (92, [8]), (76, [8])] Try.f58 = some (stripF F58) := by kernel_rfl

/- gossamer/gossamerref09.fail -/
def F59 : FnC := ⟨0, (.seq (.reg [
  ia 0 (.new [(.p (.i .i64 0)), (.p (.i .i64 0)), (.p (.s [])), .nil]),
ia 1 (.mv (ci 0))]) (.seq (.reg [
  ia 2 (.build [(.p (.i .i64 0)), (.p (.i .i64 0)), (.p (.s [])), .nil] [(0, (1, (ci 9)))]),
io (.st 4 (.t 0) (.t 2)),
ia 1 (.mv (ci 4))]) .ret)), [(.cell 0 4 true), (.tmp 1)]⟩
theorem cc59 : ccF Try.prog [(58, [0, 0]), (61, [1, 0]), (75, [0, 0]), (58, [9]), (91, [8]), (93, [8]), (72, [8]), (92, [8]), (76, [8])] Try.f59 = some (stripF F59) := by kernel_rfl

/- gossamer/gossamerref09.op -/
def F60 : FnC := ⟨3, (.seq (.reg [
  ia 6 (.new [(.p (.i .i64 0)), (.p (.i .i64 0)), (.p (.s [])), .nil]),
ia 7 (.mv (ci 0))]) (.seq (.seq (.reg [
  ia 8 (.mv (.t 0))]) (.block 0 (.seq (.reg [
  ia 10 (.bin .eql (.t 8) (.c (.a (.p (.s [43]))))),
ia 9 (.mv (.t 10))]) (.cond (.t 9) (.seq (.reg [
  ia 11 (.mv (.t 1)),
ia 12 (.mv (.t 2)),
ia 13 (.bin .add (.t 11) (.t 12)),
ia 14 (.call (.f 85) [(.t 13)]),
ia 15 (.ext (.t 14) 0),
ia 16 (.ext (.t 14) 1),
io (.st 4 (.t 6) (.t 15)),
ia 7 (.mv (.t 16))]) .ret) (.seq (.reg [
  ia 18 (.bin .eql (.t 8) (.c (.a (.p (.s [45]))))),
ia 17 (.mv (.t 18))]) (.cond (.t 17) (.seq (.reg [
  ia 19 (.mv (.t 1)),
ia 20 (.mv (.t 2)),
ia 21 (.bin .sub (.t 19) (.t 20)),
ia 22 (.call (.f 85) [(.t 21)]),
ia 23 (.ext (.t 22) 0),
ia 24 (.ext (.t 22) 1),
io (.st 4 (.t 6) (.t 23)),
ia 7 (.mv (.t 24))]) .ret) (.seq (.reg [
  ia 26 (.bin .eql (.t 8) (.c (.a (.p (.s [42]))))),
ia 25 (.mv (.t 26))]) (.cond (.t 25) (.seq (.reg [
  ia 27 (.mv (.t 1)),
ia 28 (.mv (.t 2)),
ia 29 (.bin .mul (.t 27) (.t 28)),
ia 30 (.call (.f 85) [(.t 29)]),
ia 31 (.ext (.t 30) 0),
ia 32 (.ext (.t 30) 1),
io (.st 4 (.t 6) (.t 31)),
ia 7 (.mv (.t 32))]) .ret) (.seq (.reg [
  ia 34 (.bin .eql (.t 8) (.c (.a (.p (.s [47]))))),
ia 33 (.mv (.t 34))]) (.cond (.t 33) (.seq (.seq (.reg [
  ia 35 (.mv (.t 2)),
ia 36 (.bin .eql (.t 35) (ci 0))]) (.cond (.t 36) (.seq (.reg [
  ia 37 (.call (.f 59) []),
ia 38 (.ext (.t 37) 0),
ia 39 (.ext (.t 37) 1),
io (.st 4 (.t 6) (.t 38)),
ia 7 (.mv (.t 39))]) .ret) .skip)) (.seq (.seq (.reg [
  ia 40 (.mv (.t 2)),
ia 41 (.bin .eql (.t 40) (.c (.a (.p (.i .i64 (-1))))))]) (.cond (.t 41) (.seq (.reg [
  ia 42 (.mv (.t 1)),
ia 43 (.neg (.t 42)),
ia 44 (.call (.f 85) [(.t 43)]),
ia 45 (.ext (.t 44) 0),
ia 46 (.ext (.t 44) 1),
io (.st 4 (.t 6) (.t 45)),
ia 7 (.mv (.t 46))]) .ret) .skip)) (.seq (.reg [
  ia 47 (.mv (.t 1)),
ia 48 (.mv (.t 2)),
ia 49 (.bin .quo (.t 47) (.t 48)),
ia 50 (.call (.f 85) [(.t 49)]),
ia 51 (.ext (.t 50) 0),
ia 52 (.ext (.t 50) 1),
io (.st 4 (.t 6) (.t 51)),
ia 7 (.mv (.t 52))]) .ret))) .skip)))))))))) (.seq (.seq (.reg [
  ia 53 (.mv (.t 0)),
ia 54 (.bin .eql (.t 53) (.c (.a (.p (.s [60]))))),
ia 55 (.mv (.t 54)),
ig 56 55 true (.mv (.t 1)),
ig 57 55 true (.mv (.t 2)),
ig 58 55 true (.bin .lss (.t 56) (.t 57)),
ia 59 (.pick (.t 55) (.t 58) (.c (.a (.p (.b false))))),
ia 60 (.mv (.t 59)),
ig 61 60 false (.mv (.t 0)),
ig 62 60 false (.bin .eql (.t 61) (.c (.a (.p (.s [61, 61]))))),
ig 63 60 false (.mv (.t 62)),
ig 64 63 true (.mv (.t 1)),
ig 65 63 true (.mv (.t 2)),
ig 66 63 true (.bin .eql (.t 64) (.t 65)),
ig 67 60 false (.pick (.t 63) (.t 66) (.c (.a (.p (.b false))))),
ia 68 (.pick (.t 60) (.c (.a (.p (.b true)))) (.t 67))]) (.cond (.t 68) (.seq (.reg [
  ia 69 (.build [(.p (.i .i64 0)), (.p (.i .i64 0)), (.p (.s [])), .nil] [(0, (1, (ci 4))), (2, (1, (.c (.a (.p (.s [84, 114, 117, 101]))))))]),
io (.st 4 (.t 6) (.t 69)),
ia 7 (.mv (ci 3))]) .ret) .skip)) (.seq (.reg [
  ia 70 (.build [(.p (.i .i64 0)), (.p (.i .i64 0)), (.p (.s [])), .nil] [(0, (1, (ci 4))), (2, (1, (.c (.a (.p (.s [70, 97, 108, 115, 101]))))))]),
io (.st 4 (.t 6) (.t 70)),
ia 7 (.mv (ci 3))]) .ret)))), [(.cell 6 4 true), (.tmp 7)]⟩
theorem cc60 : ccF Try.prog [(58, [0, 0]), (61, [1, 0]), (75, [0, 0]), (58, [9]), (91, [8]), (93, [8]), (72, [8]), (92, [8]), (76, [8])] Try.f60 = some (stripF F60) := by kernel_rfl

/- gossamer/store.in -/
def F61 : FnC := ⟨3, (.seq (.reg [
  ia 6 (.mv (.c (.a (.p (.b false)))))]) (.seq (.reg [
  ia 7 (.mv (.t 0)),
ia 8 (.mv (.t 1)),
ia 9 (.bin .geq (.t 7) (.t 8)),
ia 10 (.mv (.t 9)),
ig 11 10 true (.mv (.t 0)),
ig 12 10 true (.mv (.t 2)),
ig 13 10 true (.bin .leq (.t 11) (.t 12)),
ia 14 (.pick (.t 10) (.t 13) (.c (.a (.p (.b false))))),
ia 6 (.mv (.t 14))]) .ret)), [(.tmp 6)]⟩
theorem cc61 : ccF Try.prog [(58, [0, 0]), (61, [1, 0]), (75, [0, 0]), (58, [9]), (91, [8]), (93, [8]), (72, [8]), (92, [8]), (76, [8])] Try.f61 = some (stripF F61) := by kernel_rfl

/- gossamer/store.node -/
def F62 : FnC := ⟨1, (.seq (.reg [
  ia 1 (.box 6 (.t 0)),
ia 2 (.mv (.c (.a (.p (.b false)))))]) (.seq (.seq (.reg [
  ia 6 (.fad 0 (.t 1)),
ia 7 (.ld 1 false (.t 6)),
ia 8 (.call (.f 61) [(.t 7), (ci 0), (ci 13)]),
ia 9 (.not (.t 8)),
ia 10 (.mv (.t 9)),
ig 11 10 false (.ld 6 true (.t 1)),
ig 12 10 false (.call (.f 86) [(.t 11)]),
ig 13 10 false (.not (.t 12)),
ia 14 (.pick (.t 10) (.c (.a (.p (.b true)))) (.t 13))]) (.cond (.t 14) (.seq (.reg [
  ia 2 (.mv (.c (.a (.p (.b false)))))]) .ret) .skip)) (.seq (.reg [
  ia 15 (.fad 0 (.t 1)),
ia 16 (.ld 1 false (.t 15)),
ia 17 (.bin .eql (.t 16) (ci 8)),
ia 18 (.mv (.t 17)),
ig 19 18 false (.fad 0 (.t 1)),
ig 20 18 false (.ld 1 false (.t 19)),
ig 21 18 false (.bin .eql (.t 20) (ci 11)),
ia 22 (.pick (.t 18) (.c (.a (.p (.b true)))) (.t 21)),
ia 23 (.mv (.t 22)),
ig 24 23 false (.fad 0 (.t 1)),
ig 25 23 false (.ld 1 false (.t 24)),
ig 26 23 false (.bin .eql (.t 25) (ci 12)),
ia 27 (.pick (.t 23) (.c (.a (.p (.b true)))) (.t 26)),
ia 3 (.mv (.t 27))]) (.seq (.reg [
  ia 28 (.fad 0 (.t 1)),
ia 29 (.ld 1 false (.t 28)),
ia 30 (.bin .eql (.t 29) (ci 10)),
ia 31 (.mv (.t 30)),
ig 32 31 false (.fad 0 (.t 1)),
ig 33 31 false (.ld 1 false (.t 32)),
ig 34 31 false (.bin .eql (.t 33) (ci 12)),
ia 35 (.pick (.t 31) (.c (.a (.p (.b true)))) (.t 34)),
ia 4 (.mv (.t 35))]) (.seq (.reg [
  ia 5 (.mv (ci 60))]) (.seq (.seq (.reg [
  ia 36 (.fad 0 (.t 1)),
ia 37 (.ld 1 false (.t 36)),
ia 38 (.bin .eql (.t 37) (ci 0)),
ia 39 (.mv (.t 38)),
ig 40 39 false (.fad 0 (.t 1)),
ig 41 39 false (.ld 1 false (.t 40)),
ig 42 39 false (.bin .eql (.t 41) (ci 1)),
ia 43 (.pick (.t 39) (.c (.a (.p (.b true)))) (.t 42))]) (.cond (.t 43) (.reg [
  ia 5 (.mv (ci 0))]) .skip)) (.seq (.reg [
  ia 44 (.fad 1 (.t 1)),
ia 45 (.ld 1 false (.t 44)),
ia 46 (.mv (.t 5)),
ia 47 (.call (.f 61) [(.t 45), (ci 0), (.t 46)]),
ia 48 (.mv (.t 47)),
ig 49 48 true (.fad 3 (.t 1)),
ig 50 48 true (.ld 1 false (.t 49)),
ig 51 48 true (.bin .neq (.t 50) (.c (.a (.p (.s []))))),
ig 52 48 true (.mv (.t 3)),
ig 53 48 true (.eqb false (.t 51) (.t 52)),
ia 54 (.pick (.t 48) (.t 53) (.c (.a (.p (.b false))))),
ia 55 (.mv (.t 54)),
ig 56 55 true (.fad 2 (.t 1)),
ig 57 55 true (.ld 1 false (.t 56)),
ig 58 55 true (.bin .eql (.t 57) (ci 0)),
ig 59 55 true (.mv (.t 58)),
ig 60 59 false (.mv (.t 4)),
ig 61 55 true (.pick (.t 59) (.c (.a (.p (.b true)))) (.t 60)),
ia 62 (.pick (.t 55) (.t 61) (.c (.a (.p (.b false))))),
ia 63 (.mv (.t 62)),
ig 64 63 true (.fad 0 (.t 1)),
ig 65 63 true (.ld 1 false (.t 64)),
ig 66 63 true (.bin .neq (.t 65) (ci 8)),
ig 67 63 true (.mv (.t 66)),
ig 68 67 false (.fad 5 (.t 1)),
ig 69 67 false (.ld 1 false (.t 68)),
ig 70 67 false (.len false (.t 69)),
ig 71 67 false (.call (.f 61) [(.t 70), (ci 1), (ci 9)]),
ig 72 63 true (.pick (.t 67) (.c (.a (.p (.b true)))) (.t 71)),
ia 73 (.pick (.t 63) (.t 72) (.c (.a (.p (.b false))))),
ia 2 (.mv (.t 73))]) .ret))))))), [(.tmp 2)]⟩
theorem cc62 : ccF Try.prog [(58, [0, 0]), (61, [1, 0]), (75, [0, 0]), (58, [9]), (91, [8]), (93, [8]), (72, [8]), (92, [8]), (76, [8])] Try.f62 = some (stripF F62) := by kernel_rfl

/- gossamer/store.Ports -/
def F63 : FnC := ⟨1, (.seq (.reg [
  ia 1 (.box 6 (.t 0)),
ia 2 (.mv (ci 0))]) (.seq (.block 0 (.seq (.reg [
  ia 4 (.fad 0 (.t 1)),
ia 5 (.ld 1 false (.t 4)),
ia 6 (.bin .eql (.t 5) (ci 8)),
ia 3 (.mv (.t 6))]) (.cond (.t 3) (.seq (.reg [
  ia 7 (.fad 5 (.t 1)),
ia 8 (.ld 1 false (.t 7)),
ia 9 (.len false (.t 8)),
ia 2 (.mv (.t 9))]) .ret) (.seq (.reg [
  ia 11 (.fad 0 (.t 1)),
ia 12 (.ld 1 false (.t 11)),
ia 13 (.bin .eql (.t 12) (ci 9)),
ia 10 (.mv (.t 13))]) (.cond (.t 10) (.seq (.reg [
  ia 14 (.fad 4 (.t 1)),
ia 15 (.ld 1 false (.t 14)),
ia 16 (.len false (.t 15)),
ia 17 (.bin .add (ci 2) (.t 16)),
ia 2 (.mv (.t 17))]) .ret) (.seq (.reg [
  ia 19 (.fad 0 (.t 1)),
ia 20 (.ld 1 false (.t 19)),
ia 21 (.call (.f 61) [(.t 20), (ci 0), (ci 13)]),
ia 18 (.mv (.t 21))]) (.cond (.t 18) (.seq (.reg [
  ir 22 (.call (.f 87) []),
ir 23 (.fad 0 (.t 1)),
ir 24 (.ld 1 false (.t 23)),
ia 25 (.ixa 14 1 false (.t 22) (.t 24)),
ia 2 (.mv (.t 25))]) .ret) .skip))))))) (.seq (.reg [
  ia 2 (.mv (ci 0))]) .ret))), [(.tmp 2)]⟩
theorem cc63 : ccF Try.prog [(58, [0, 0]), (61, [1, 0]), (75, [0, 0]), (58, [9]), (91, [8]), (93, [8]), (72, [8]), (92, [8]), (76, [8])] Try.f63 = some (stripF F63) := by kernel_rfl

/- gossamer/store.linked -/
def F64 : FnC := ⟨2, (.seq (.reg [
  ia 2 (.box 2 (.t 0)),
ia 3 (.box 2 (.t 1)),
ia 4 (.mv (.c (.a (.p (.b false)))))]) (.seq (.reg [
  ir 6 (.fad 0 (.t 2)),
ir 7 (.ld 1 false (.t 6)),
ir 8 (.fad 0 (.t 3)),
ir 9 (.ld 1 false (.t 8)),
ir 10 (.ias 6 (.t 7) (.t 9)),
ir 11 (.fad 5 (.t 10)),
ir 12 (.ld 1 false (.t 11)),
ir 13 (.fad 1 (.t 3)),
ir 14 (.ld 1 false (.t 13)),
ir 15 (.ias 2 (.t 12) (.t 14)),
ir 16 (.ld 2 true (.t 15)),
⟨(.some 5), .none, (.new [(.p (.i .i64 0)), (.p (.i .i64 0))]), .ad⟩,
io (.st 2 (.t 5) (.t 16))]) (.seq (.seq (.reg [
  ir 17 (.ld 2 true (.t 5)),
ir 18 (.ld 2 true (.t 3)),
ia 19 (.eqg false [0, 0] (.t 17) (.t 18)),
ia 20 (.mv (.t 19)),
ih 21 20 false (.fad 0 (.t 5)),
ih 22 20 false (.ld 1 false (.t 21)),
ih 23 20 false (.fad 0 (.t 2)),
ih 24 20 false (.ld 1 false (.t 23)),
ih 25 20 false (.len false (.t 24)),
ih 26 20 false (.bin .sub (.t 25) (ci 1)),
ig 27 20 false (.call (.f 61) [(.t 22), (ci 0), (.t 26)]),
ig 28 20 false (.not (.t 27)),
ia 29 (.pick (.t 20) (.c (.a (.p (.b true)))) (.t 28)),
ia 30 (.mv (.t 29)),
ih 31 30 false (.fad 1 (.t 5)),
ih 32 30 false (.ld 1 false (.t 31)),
ih 33 30 false (.fad 0 (.t 2)),
ih 34 30 false (.ld 1 false (.t 33)),
ih 35 30 false (.fad 0 (.t 5)),
ih 36 30 false (.ld 1 false (.t 35)),
ih 37 30 false (.ias 6 (.t 34) (.t 36)),
ih 38 30 false (.fad 5 (.t 37)),
ih 39 30 false (.ld 1 false (.t 38)),
ih 40 30 false (.len false (.t 39)),
ih 41 30 false (.bin .sub (.t 40) (ci 1)),
ig 42 30 false (.call (.f 61) [(.t 32), (ci 0), (.t 41)]),
ig 43 30 false (.not (.t 42)),
ia 44 (.pick (.t 30) (.c (.a (.p (.b true)))) (.t 43))]) (.cond (.t 44) (.seq (.reg [
  ia 4 (.mv (.c (.a (.p (.b false)))))]) .ret) .skip)) (.seq (.reg [
  ir 45 (.fad 0 (.t 2)),
ir 46 (.ld 1 false (.t 45)),
ir 47 (.fad 0 (.t 5)),
ir 48 (.ld 1 false (.t 47)),
ir 49 (.ias 6 (.t 46) (.t 48)),
ir 50 (.fad 5 (.t 49)),
ir 51 (.ld 1 false (.t 50)),
ir 52 (.fad 1 (.t 5)),
ir 53 (.ld 1 false (.t 52)),
ir 54 (.ias 2 (.t 51) (.t 53)),
ir 55 (.ld 2 true (.t 54)),
ir 56 (.ld 2 true (.t 3)),
ia 57 (.eqg false [0, 0] (.t 55) (.t 56)),
ia 4 (.mv (.t 57))]) .ret)))), [(.tmp 4)]⟩
theorem cc64 : ccF Try.prog [(58, [0, 0]), (61, [1, 0]), (75, [0, 0]), (58, [9]), (91, [8]), (93, [8]), (72, [8]), (92, [8]), (76, [8])] Try.f64 = some (stripF F64) := by kernel_rfl

/- gossamer/wire.Peer -/
def F65 : FnC := ⟨2, (.seq (.reg [
  ia 2 (.box 2 (.t 0)),
ia 3 (.box 2 (.t 1)),
ia 4 (.new [(.p (.i .i64 0)), (.p (.i .i64 0))]),
ia 5 (.mv (ci 0))]) (.seq (.reg [
  ia 7 (.ld 2 true (.t 2)),
ia 8 (.build [.nil, (.p (.i .i64 0))] [(0, (2, (.t 7)))]),
ia 6 (.new [.nil, (.p (.i .i64 0))]),
io (.st 2 (.t 6) (.t 8))]) (.seq (.seq (.reg [
  ia 9 (.ld 2 true (.t 6)),
ia 10 (.ld 2 true (.t 3)),
ia 11 (.bsl 2 58 [(.p (.i .i64 0)), (.p (.i .i64 0))] 1 [(0, (.t 10))]),
ia 12 (.call (.f 88) [(.t 9), (.t 11)]),
ia 13 (.not (.t 12))]) (.cond (.t 13) (.seq (.reg [
  ia 14 (.build [(.p (.i .i64 0)), (.p (.i .i64 0))] []),
io (.st 2 (.t 4) (.t 14)),
ia 5 (.mv (ci 130))]) .ret) .skip)) (.seq (.reg [
  ia 15 (.ld 2 true (.t 6)),
ia 16 (.ld 2 true (.t 3)),
ia 17 (.call (.f 89) [(.t 15), (.t 16)]),
io (.st 2 (.t 4) (.t 17)),
ia 5 (.mv (ci 0))]) .ret)))), [(.cell 4 2 true), (.tmp 5)]⟩
theorem cc65 : ccF Try.prog [(58, [0, 0]), (61, [1, 0]), (75, [0, 0]), (58, [9]), (91, [8]), (93, [8]), (72, [8]), (92, [8]), (76, [8])] Try.f65 = some (stripF F65) := by kernel_rfl

/- gossamer/act.port -/
def F66 : FnC := ⟨2, (.seq (.reg [
  ia 4 (.new [(.p (.i .i64 0)), (.p (.i .i64 0))])]) (.seq (.reg [
  ia 5 (.mv (.t 0)),
ia 6 (.mv (.t 1)),
ia 7 (.build [(.p (.i .i64 0)), (.p (.i .i64 0))] [(0, (1, (.t 5))), (1, (1, (.t 6)))]),
io (.st 2 (.t 4) (.t 7))]) .ret)), [(.cell 4 2 true)]⟩
theorem cc66 : ccF Try.prog [(58, [0, 0]), (61, [1, 0]), (75, [0, 0]), (58, [9]), (91, [8]), (93, [8]), (72, [8]), (92, [8]), (76, [8])] Try.f66 = some (stripF F66) := by kernel_rfl

/- gossamer/store.free -/
def F67 : FnC := ⟨1, (.seq (.reg [
  ia 1 (.box 6 (.t 0)),
ia 2 (.mv (.c (.a (.p (.b false)))))]) (.seq (.reg [
  ia 3 (.fad 0 (.t 1)),
ia 4 (.ld 1 false (.t 3)),
ia 5 (.bin .eql (.t 4) (ci 0)),
ia 2 (.mv (.t 5))]) .ret)), [(.tmp 2)]⟩
theorem cc67 : ccF Try.prog [(58, [0, 0]), (61, [1, 0]), (75, [0, 0]), (58, [9]), (91, [8]), (93, [8]), (72, [8]), (92, [8]), (76, [8])] Try.f67 = some (stripF F67) := by kernel_rfl

/- (*gossamer/act.stage).joinAll -/
def F68b0 : C := (.seq (.reg [
  ia 11 (.bin .lss (.t 10) (.t 9))]) (.seq (.cond (.t 11) .skip (.exit 0)) (.seq (.block 1 (.seq (.reg [
  ia 12 (.mv (.t 10)),
ia 2 (.mv (.t 12))]) (.reg [
  ir 13 (.mv (.t 0)),
ir 14 (.mv (.t 0)),
ir 15 (.nck (.t 14)),
ir 16 (.fad 12 (.t 15)),
ir 17 (.ld 1 false (.t 16)),
ir 18 (.mv (.t 2)),
ir 19 (.bin .add (.t 18) (ci 1)),
ir 20 (.call (.f 66) [(.t 17), (.t 19)]),
ir 21 (.mv (.t 0)),
ir 22 (.nck (.t 21)),
ir 23 (.fad 13 (.t 22)),
ir 24 (.ld 1 false (.t 23)),
ir 25 (.mv (.t 2)),
ir 26 (.bin .add (.t 25) (ci 1)),
ir 27 (.call (.f 66) [(.t 24), (.t 26)]),
ia 28 (.call (.f 90) [(.t 13), (.t 20), (.t 27)])]))) (.reg [
  ia 29 (.bin .add (.t 10) (ci 1)),
ia 10 (.mv (.t 29))]))))
def F68 : FnC := ⟨1, (.seq (.reg [
  ia 3 (.mv (.t 0)),
ia 4 (.mv (.t 0)),
ia 5 (.nck (.t 4)),
ia 6 (.fad 12 (.t 5)),
ia 7 (.ld 1 false (.t 6)),
ia 8 (.call (.f 76) [(.t 3), (.t 7), (ci 1)]),
ia 9 (.len false (.t 8)),
ia 10 (.mv (ci 0))]) (.block 0 (.loop F68b0))), []⟩
theorem cc68 : ccF Try.prog [(58, [0, 0]), (61, [1, 0]), (75, [0, 0]), (58, [9]), (91, [8]), (93, [8]), (72, [8]), (92, [8]), (76, [8])] Try.f68 = some (stripF F68) := by kernel_rfl

/- (*gossamer/act.stage).pick -/
def F69b0 : C := (.seq (.reg [
  ia 51 (.bin .lss (.t 50) (.t 49))]) (.seq (.cond (.t 51) .skip (.exit 0)) (.seq (.block 1 (.seq (.reg [
  ia 52 (.ias 2 (.t 48) (.t 50)),
ia 53 (.ld 2 true (.t 52)),
ia 7 (.new [(.p (.i .i64 0)), (.p (.i .i64 0))]),
io (.st 2 (.t 7) (.t 53))]) (.seq (.reg [
  ia 54 (.ld 2 true (.t 7)),
ia 55 (.ld 2 true (.t 3)),
ia 56 (.eqg true [0, 0] (.t 54) (.t 55))]) (.cond (.t 56) (.reg [
  ia 57 (.mv (.t 5)),
ia 58 (.ld 2 true (.t 7)),
ia 59 (.bsl 2 58 [(.p (.i .i64 0)), (.p (.i .i64 0))] 1 [(0, (.t 58))]),
ia 60 (.app 2 58 16 (.t 57) (.t 59)),
ia 5 (.mv (.t 60))]) .skip)))) (.reg [
  ia 61 (.bin .add (.t 50) (ci 1)),
ia 50 (.mv (.t 61))]))))
def F69b1 : C := (.seq (.reg [
  ia 85 (.bin .lss (.t 84) (.t 83))]) (.seq (.cond (.t 85) .skip (.exit 2)) (.seq (.block 3 (.seq (.reg [
  ia 86 (.mv (.t 84)),
ia 87 (.ias 1 (.t 82) (.t 84)),
ia 88 (.ld 1 false (.t 87)),
ia 9 (.mv (.t 86)),
ia 10 (.mv (.t 88))]) (.seq (.reg [
  ia 89 (.mv (.t 0)),
ia 90 (.mv (.t 0)),
ia 91 (.nck (.t 90)),
ia 92 (.fad 13 (.t 91)),
ia 93 (.ld 1 false (.t 92)),
ia 94 (.mv (.t 9)),
ia 95 (.bin .add (.t 94) (ci 1)),
ia 96 (.call (.f 66) [(.t 93), (.t 95)]),
ia 97 (.mv (.t 10)),
ia 98 (.call (.f 66) [(.t 97), (ci 2)]),
ia 99 (.call (.f 71) [(.t 89), (.t 96), (.t 98)])]) (.seq (.reg [
  ia 100 (.mv (.t 9)),
ia 101 (.bin .add (.t 100) (ci 1)),
ia 102 (.mv (.t 2)),
ia 103 (.bin .lss (.t 101) (.t 102))]) (.cond (.t 103) (.reg [
  ir 104 (.mv (.t 0)),
ir 105 (.mv (.t 10)),
ir 106 (.call (.f 66) [(.t 105), (ci 1)]),
ir 107 (.mv (.t 4)),
ir 108 (.mv (.t 9)),
ir 109 (.bin .add (.t 108) (ci 1)),
ir 110 (.ias 1 (.t 107) (.t 109)),
ir 111 (.ld 1 false (.t 110)),
ir 112 (.call (.f 66) [(.t 111), (ci 0)]),
ia 113 (.call (.f 94) [(.t 104), (.t 106), (.t 112)])]) (.reg [
  ia 114 (.mv (.t 0)),
ia 115 (.mv (.t 0)),
ia 116 (.nck (.t 115)),
ia 117 (.fad 12 (.t 116)),
ia 118 (.ld 1 false (.t 117)),
ia 119 (.call (.f 66) [(.t 118), (ci 1)]),
ia 120 (.mv (.t 10)),
ia 121 (.call (.f 66) [(.t 120), (ci 1)]),
ia 122 (.call (.f 71) [(.t 114), (.t 119), (.t 121)])])))))) (.reg [
  ia 123 (.bin .add (.t 84) (ci 1)),
ia 84 (.mv (.t 123))]))))
def F69 : FnC := ⟨1, (.seq (.reg [
  ir 11 (.mv (.t 0)),
ir 12 (.mv (.t 0)),
ir 13 (.nck (.t 12)),
ir 14 (.fad 12 (.t 13)),
ir 15 (.ld 1 false (.t 14)),
ir 18 (.mv (.t 0)),
ir 19 (.nck (.t 18)),
ir 20 (.fad 2 (.t 19)),
ir 21 (.fad 3 (.t 20)),
ir 22 (.ld 1 false (.t 21)),
ir 26 (.mv (.t 0)),
ir 27 (.nck (.t 26)),
ir 28 (.fad 12 (.t 27)),
ir 29 (.ld 1 false (.t 28)),
ir 30 (.mv (.t 0)),
ir 31 (.nck (.t 30)),
ir 32 (.fad 2 (.t 31)),
ir 33 (.fad 3 (.t 32)),
ir 34 (.ld 1 false (.t 33)),
ir 35 (.bin .add (.t 34) (ci 2)),
⟨(.some 3), .none, (.new [(.p (.i .i64 0)), (.p (.i .i64 0))]), .ad⟩,
⟨(.some 16), .none, (.call (.f 91) [(.t 11), (.t 15)]), (.cl [(1, 21), (1, 28), (1, 33)] [3])⟩,
ir 17 (.fld 4 1 false (.t 16)),
ir 23 (.ias 2 (.t 17) (.t 22)),
ir 24 (.fad 1 (.t 23)),
ir 25 (.ld 1 false (.t 24)),
ir 36 (.call (.f 66) [(.t 29), (.t 35)]),
ia 2 (.mv (.t 25)),
io (.st 2 (.t 3) (.t 36))]) (.seq (.reg [
  ia 37 (.mv (.t 0)),
ia 38 (.mv (.t 0)),
ia 39 (.call (.f 93) [(.t 38)]),
ia 40 (.build [(.p (.i .i64 0)), (.p (.i .i64 0)), (.p (.i .i64 0)), (.p (.s [])), .nil, .nil] [(0, (1, (ci 3))), (1, (1, (.t 39)))]),
ia 41 (.mv (.t 2)),
ia 42 (.call (.f 92) [(.t 37), (.t 40), (.t 41)]),
ia 4 (.mv (.t 42))]) (.seq (.reg [
  ia 5 (.mv (.c (.a .nil)))]) (.seq (.seq (.reg [
  ia 43 (.mv (.t 0)),
ia 44 (.mv (.t 0)),
ia 45 (.nck (.t 44)),
ia 46 (.fad 12 (.t 45)),
ia 47 (.ld 1 false (.t 46)),
ia 48 (.call (.f 76) [(.t 43), (.t 47), (ci 2)]),
ia 49 (.len false (.t 48)),
ia 50 (.mv (ci 0))]) (.block 0 (.loop F69b0))) (.seq (.reg [
  ia 62 (.mv (.t 0)),
ia 63 (.mv (.t 5)),
ia 64 (.call (.f 75) [(.t 62), (.t 63)]),
ia 8 (.mv (.t 64))]) (.seq (.seq (.reg [
  ia 65 (.mv (.t 2)),
ia 66 (.bin .eql (.t 65) (ci 0))]) (.cond (.t 66) (.reg [
  ir 67 (.mv (.t 0)),
ir 68 (.ld 2 true (.t 3)),
ir 69 (.mv (.t 0)),
ir 70 (.nck (.t 69)),
ir 71 (.fad 12 (.t 70)),
ir 72 (.ld 1 false (.t 71)),
ir 73 (.call (.f 66) [(.t 72), (ci 1)]),
ia 74 (.call (.f 90) [(.t 67), (.t 68), (.t 73)])]) (.reg [
  ir 75 (.mv (.t 0)),
ir 76 (.ld 2 true (.t 3)),
ir 77 (.mv (.t 4)),
ir 78 (.ias 1 (.t 77) (ci 0)),
ir 79 (.ld 1 false (.t 78)),
ir 80 (.call (.f 66) [(.t 79), (ci 0)]),
ia 81 (.call (.f 71) [(.t 75), (.t 76), (.t 80)])]))) (.seq (.seq (.reg [
  ia 82 (.mv (.t 4)),
ia 83 (.len false (.t 82)),
ia 84 (.mv (ci 0))]) (.block 2 (.loop F69b1))) (.reg [
  ia 124 (.mv (.t 8)),
ia 125 (.call (.t 124) [])])))))))), []⟩
theorem cc69 : ccF Try.prog [(58, [0, 0]), (61, [1, 0]), (75, [0, 0]), (58, [9]), (91, [8]), (93, [8]), (72, [8]), (92, [8]), (76, [8])] Try.f69 = some (stripF F69) := by kernel_rfl

/- (*gossamer/act.stage).half -/
def F70 : FnC := ⟨1, (.seq (.reg [
  ia 4 (.mv (.t 0)),
ia 5 (.mv (.t 0)),
ia 6 (.nck (.t 5)),
ia 7 (.fad 12 (.t 6)),
ia 8 (.ld 1 false (.t 7)),
ia 9 (.call (.f 91) [(.t 4), (.t 8)]),
ia 2 (.new [(.p (.i .i64 0)), (.p (.i .i64 0)), (.p (.i .i64 0)), (.p (.s [])), .nil, .nil]),
io (.st 6 (.t 2) (.t 9))]) (.seq (.reg [
  ir 10 (.mv (.t 0)),
ir 11 (.fad 1 (.t 2)),
ir 12 (.ld 1 false (.t 11)),
ir 13 (.fad 3 (.t 2)),
ir 14 (.ld 1 false (.t 13)),
ir 15 (.mv (.t 0)),
ir 16 (.mv (.t 0)),
ir 17 (.nck (.t 16)),
ir 18 (.fad 13 (.t 17)),
ir 19 (.ld 1 false (.t 18)),
⟨(.some 20), .none, (.call (.f 91) [(.t 15), (.t 19)]), (.cl [(1, 11), (1, 13)] [])⟩,
ir 21 (.fld 2 1 false (.t 20)),
ir 22 (.build [(.p (.i .i64 0)), (.p (.i .i64 0)), (.p (.i .i64 0)), (.p (.s [])), .nil, .nil] [(0, (1, (ci 12))), (1, (1, (.t 12))), (3, (1, (.t 14))), (2, (1, (.t 21)))]),
ia 23 (.call (.f 72) [(.t 10), (.t 22)]),
ia 3 (.mv (.t 23))]) (.seq (.reg [
  ia 24 (.mv (.t 0)),
ia 25 (.mv (.t 0)),
ia 26 (.nck (.t 25)),
ia 27 (.fad 12 (.t 26)),
ia 28 (.ld 1 false (.t 27)),
ia 29 (.call (.f 66) [(.t 28), (ci 2)]),
ia 30 (.mv (.t 3)),
ia 31 (.call (.f 66) [(.t 30), (ci 0)]),
ia 32 (.call (.f 71) [(.t 24), (.t 29), (.t 31)])]) (.reg [
  ia 33 (.mv (.t 0)),
ia 34 (.mv (.t 0)),
ia 35 (.nck (.t 34)),
ia 36 (.fad 12 (.t 35)),
ia 37 (.ld 1 false (.t 36)),
ia 38 (.call (.f 66) [(.t 37), (ci 1)]),
ia 39 (.mv (.t 3)),
ia 40 (.call (.f 66) [(.t 39), (ci 1)]),
ia 41 (.call (.f 71) [(.t 33), (.t 38), (.t 40)])])))), []⟩
theorem cc70 : ccF Try.prog [(58, [0, 0]), (61, [1, 0]), (75, [0, 0]), (58, [9]), (91, [8]), (93, [8]), (72, [8]), (92, [8]), (76, [8])] Try.f70 = some (stripF F70) := by kernel_rfl

/- (*gossamer/act.stage).move -/
def F71 : FnC := ⟨3, (.seq (.reg [
  ia 4 (.box 2 (.t 1)),
ia 5 (.box 2 (.t 2))]) (.reg [
  ir 7 (.mv (.t 0)),
ir 8 (.mv (.t 0)),
ir 9 (.nck (.t 8)),
ir 10 (.fad 0 (.t 9)),
ir 11 (.ld 2 true (.t 10)),
ir 12 (.ld 2 true (.t 4)),
ir 13 (.ld 2 true (.t 5)),
ir 14 (.call (.f 95) [(.t 11), (.t 12), (.t 13)]),
ir 6 (.mv (.t 14)),
ir 15 (.ext (.t 6) 0),
ir 16 (.ext (.t 6) 1),
ir 17 (.nck (.t 7)),
ir 18 (.fad 0 (.t 17)),
⟨.none, .none, (.st 2 (.t 18) (.t 15)), (.wr [])⟩])), []⟩
theorem cc71 : ccF Try.prog [(58, [0, 0]), (61, [1, 0]), (75, [0, 0]), (58, [9]), (91, [8]), (93, [8]), (72, [8]), (92, [8]), (76, [8])] Try.f71 = some (stripF F71) := by kernel_rfl

/- (*gossamer/act.stage).made -/
def F72 : FnC := ⟨2, (.seq (.reg [
  ia 3 (.box 6 (.t 1)),
ia 4 (.mv (ci 0))]) (.seq (.reg [
  ia 5 (.mv (ci 0))]) (.seq (.reg [
  ir 7 (.mv (.t 0)),
ir 8 (.mv (.t 0)),
ir 9 (.nck (.t 8)),
ir 10 (.fad 0 (.t 9)),
ir 11 (.ld 2 true (.t 10)),
ir 12 (.ld 6 true (.t 3)),
ir 13 (.call (.f 96) [(.t 11), (.t 12)]),
ir 6 (.mv (.t 13)),
ir 14 (.ext (.t 6) 0),
ir 15 (.ext (.t 6) 1),
ir 16 (.ext (.t 6) 2),
ir 17 (.nck (.t 7)),
ir 18 (.fad 0 (.t 17)),
⟨.none, .none, (.st 2 (.t 18) (.t 14)), (.wr [])⟩,
ir 5 (.mv (.t 15))]) (.seq (.reg [
  ia 19 (.mv (.t 5)),
ia 4 (.mv (.t 19))]) .ret)))), [(.tmp 4)]⟩
theorem cc72 : ccF Try.prog [(58, [0, 0]), (61, [1, 0]), (75, [0, 0]), (58, [9]), (91, [8]), (93, [8]), (72, [8]), (92, [8]), (76, [8])] Try.f72 = some (stripF F72) := by kernel_rfl

/- (*gossamer/act.stage).fail -/
def F73 : FnC := ⟨1, (.seq (.reg [
  ia 4 (.mv (.t 0)),
ia 5 (.mv (.t 0)),
ia 6 (.call (.f 93) [(.t 5)]),
ia 7 (.build [(.p (.i .i64 0)), (.p (.i .i64 0)), (.p (.i .i64 0)), (.p (.s [])), .nil, .nil] [(0, (1, (ci 13))), (1, (1, (.t 6)))]),
ia 8 (.call (.f 72) [(.t 4), (.t 7)]),
ia 2 (.mv (.t 8))]) (.seq (.reg [
  ir 9 (.mv (.t 0)),
ir 10 (.mv (.t 0)),
ir 11 (.mv (.t 0)),
ir 12 (.nck (.t 11)),
ir 13 (.fad 12 (.t 12)),
ir 14 (.ld 1 false (.t 13)),
ir 16 (.mv (.t 0)),
ir 17 (.mv (.t 0)),
ir 18 (.nck (.t 17)),
ir 19 (.fad 13 (.t 18)),
ir 20 (.ld 1 false (.t 19)),
⟨(.some 15), .none, (.call (.f 76) [(.t 10), (.t 14), (ci 2)]), (.cl [(1, 19)] [])⟩,
⟨(.some 21), .none, (.call (.f 76) [(.t 16), (.t 20), (ci 1)]), (.cl [] [])⟩,
⟨(.some 22), .none, (.app 2 58 16 (.t 15) (.t 21)), (.cl [] [])⟩,
ia 23 (.call (.f 75) [(.t 9), (.t 22)]),
ia 3 (.mv (.t 23))]) (.seq (.reg [
  ia 24 (.mv (.t 0)),
ia 25 (.mv (.t 0)),
ia 26 (.nck (.t 25)),
ia 27 (.fad 12 (.t 26)),
ia 28 (.ld 1 false (.t 27)),
ia 29 (.call (.f 66) [(.t 28), (ci 1)]),
ia 30 (.mv (.t 2)),
ia 31 (.call (.f 66) [(.t 30), (ci 0)]),
ia 32 (.call (.f 71) [(.t 24), (.t 29), (.t 31)])]) (.reg [
  ia 33 (.mv (.t 3)),
ia 34 (.call (.t 33) [])])))), []⟩
theorem cc73 : ccF Try.prog [(58, [0, 0]), (61, [1, 0]), (75, [0, 0]), (58, [9]), (91, [8]), (93, [8]), (72, [8]), (92, [8]), (76, [8])] Try.f73 = some (stripF F73) := by kernel_rfl

/- (*gossamer/act.stage).pass -/
def F74b0 : C := (.seq (.reg [
  ia 47 (.bin .lss (.t 46) (.t 45))]) (.seq (.cond (.t 47) .skip (.exit 0)) (.seq (.block 1 (.seq (.reg [
  ia 48 (.mv (.t 46)),
ia 49 (.ias 1 (.t 44) (.t 46)),
ia 50 (.ld 1 false (.t 49)),
ia 6 (.mv (.t 48)),
ia 7 (.mv (.t 50))]) (.reg [
  ia 51 (.mv (.t 0)),
ia 52 (.mv (.t 0)),
ia 53 (.nck (.t 52)),
ia 54 (.fad 12 (.t 53)),
ia 55 (.ld 1 false (.t 54)),
ia 56 (.mv (.t 6)),
ia 57 (.bin .add (.t 56) (ci 1)),
ia 58 (.call (.f 66) [(.t 55), (.t 57)]),
ia 59 (.mv (.t 7)),
ia 60 (.call (.f 66) [(.t 59), (ci 0)]),
ia 61 (.call (.f 71) [(.t 51), (.t 58), (.t 60)])]))) (.reg [
  ia 62 (.bin .add (.t 46) (ci 1)),
ia 46 (.mv (.t 62))]))))
def F74b2 : C := (.seq (.reg [
  ia 84 (.bin .lss (.t 83) (.t 82))]) (.seq (.cond (.t 84) .skip (.exit 4)) (.seq (.block 5 (.seq (.reg [
  ia 85 (.mv (.t 83)),
ia 86 (.ias 1 (.t 81) (.t 83)),
ia 87 (.ld 1 false (.t 86)),
ia 10 (.mv (.t 85)),
ia 11 (.mv (.t 87))]) (.reg [
  ia 88 (.mv (.t 0)),
ia 89 (.mv (.t 9)),
ia 90 (.mv (.t 10)),
ia 91 (.bin .add (.t 90) (ci 1)),
ia 92 (.call (.f 66) [(.t 89), (.t 91)]),
ia 93 (.mv (.t 11)),
ia 94 (.mv (.t 8)),
ia 95 (.bin .add (.t 94) (ci 1)),
ia 96 (.call (.f 66) [(.t 93), (.t 95)]),
ia 97 (.call (.f 94) [(.t 88), (.t 92), (.t 96)])]))) (.reg [
  ia 98 (.bin .add (.t 83) (ci 1)),
ia 83 (.mv (.t 98))]))))
def F74b1 : C := (.seq (.reg [
  ia 66 (.bin .lss (.t 65) (.t 64))]) (.seq (.cond (.t 66) .skip (.exit 2)) (.seq (.block 3 (.seq (.reg [
  ia 67 (.mv (.t 65)),
ia 68 (.ias 1 (.t 63) (.t 65)),
ia 69 (.ld 1 false (.t 68)),
ia 8 (.mv (.t 67)),
ia 9 (.mv (.t 69))]) (.seq (.reg [
  ia 70 (.mv (.t 0)),
ia 71 (.mv (.t 0)),
ia 72 (.nck (.t 71)),
ia 73 (.fad 13 (.t 72)),
ia 74 (.ld 1 false (.t 73)),
ia 75 (.mv (.t 8)),
ia 76 (.bin .add (.t 75) (ci 1)),
ia 77 (.call (.f 66) [(.t 74), (.t 76)]),
ia 78 (.mv (.t 9)),
ia 79 (.call (.f 66) [(.t 78), (ci 0)]),
ia 80 (.call (.f 71) [(.t 70), (.t 77), (.t 79)])]) (.seq (.reg [
  ia 81 (.mv (.t 4)),
ia 82 (.len false (.t 81)),
ia 83 (.mv (ci 0))]) (.block 4 (.loop F74b2)))))) (.reg [
  ia 99 (.bin .add (.t 65) (ci 1)),
ia 65 (.mv (.t 99))]))))
def F74 : FnC := ⟨1, (.seq (.reg [
  ir 12 (.mv (.t 0)),
ir 13 (.mv (.t 0)),
ir 14 (.nck (.t 13)),
ir 15 (.fad 12 (.t 14)),
ir 16 (.ld 1 false (.t 15)),
ir 18 (.mv (.t 0)),
ir 19 (.mv (.t 0)),
ir 20 (.nck (.t 19)),
ir 21 (.fad 13 (.t 20)),
ir 22 (.ld 1 false (.t 21)),
⟨(.some 2), .none, (.new [(.p (.i .i64 0)), (.p (.i .i64 0)), (.p (.i .i64 0)), (.p (.s [])), .nil, .nil]), .ad⟩,
⟨(.some 3), .none, (.new [(.p (.i .i64 0)), (.p (.i .i64 0)), (.p (.i .i64 0)), (.p (.s [])), .nil, .nil]), .ad⟩,
⟨(.some 17), .none, (.call (.f 91) [(.t 12), (.t 16)]), (.cl [(1, 21)] [2, 3])⟩,
⟨(.some 23), .none, (.call (.f 91) [(.t 18), (.t 22)]), (.cl [] [2, 3])⟩,
io (.st 6 (.t 2) (.t 17)),
io (.st 6 (.t 3) (.t 23))]) (.seq (.reg [
  ia 24 (.mv (.t 0)),
ia 25 (.nck (.t 24)),
ia 26 (.fad 2 (.t 25)),
ia 27 (.fad 2 (.t 26)),
ia 28 (.ld 1 false (.t 27)),
ia 29 (.fad 1 (.t 3)),
io (.st 1 (.t 29) (.t 28))]) (.seq (.reg [
  ia 30 (.mv (.t 0)),
ia 31 (.ld 6 true (.t 3)),
ia 32 (.fad 5 (.t 2)),
ia 33 (.ld 1 false (.t 32)),
ia 34 (.len false (.t 33)),
ia 35 (.bin .sub (.t 34) (ci 1)),
ia 36 (.call (.f 92) [(.t 30), (.t 31), (.t 35)]),
ia 4 (.mv (.t 36))]) (.seq (.reg [
  ia 37 (.mv (.t 0)),
ia 38 (.ld 6 true (.t 2)),
ia 39 (.fad 5 (.t 3)),
ia 40 (.ld 1 false (.t 39)),
ia 41 (.len false (.t 40)),
ia 42 (.bin .sub (.t 41) (ci 1)),
ia 43 (.call (.f 92) [(.t 37), (.t 38), (.t 42)]),
ia 5 (.mv (.t 43))]) (.seq (.seq (.reg [
  ia 44 (.mv (.t 4)),
ia 45 (.len false (.t 44)),
ia 46 (.mv (ci 0))]) (.block 0 (.loop F74b0))) (.seq (.reg [
  ia 63 (.mv (.t 5)),
ia 64 (.len false (.t 63)),
ia 65 (.mv (ci 0))]) (.block 2 (.loop F74b1)))))))), []⟩
theorem cc74 : ccF Try.prog [(58, [0, 0]), (61, [1, 0]), (75, [0, 0]), (58, [9]), (91, [8]), (93, [8]), (72, [8]), (92, [8]), (76, [8])] Try.f74 = some (stripF F74) := by kernel_rfl

/- (*gossamer/act.stage).drop -/
def F75 : FnC := ⟨2, (.seq (.reg [
  ia 2 (.box 1 (.t 0)),
ia 3 (.box 1 (.t 1)),
ia 4 (.mv (.c (.a (.raw .nilFunc))))]) (.seq (.reg [
  ir 6 (.ld 1 false (.t 2)),
ir 7 (.ld 1 false (.t 2)),
ir 10 (.ld 1 false (.t 3)),
ir 11 (.len false (.t 10)),
⟨(.some 5), .none, (.new [.nil]), .ad⟩,
⟨(.some 8), .none, (.call (.f 93) [(.t 7)]), (.cl [(1, 2), (1, 3)] [5])⟩,
ir 9 (.build [(.p (.i .i64 0)), (.p (.i .i64 0)), (.p (.i .i64 0)), (.p (.s [])), .nil, .nil] [(0, (1, (ci 7))), (1, (1, (.t 8)))]),
⟨(.some 12), .none, (.call (.f 92) [(.t 6), (.t 9), (.t 11)]), (.cl [] [5])⟩,
io (.st 1 (.t 5) (.t 12))]) (.seq (.reg [
  ia 13 (.fn 97 [(.t 3), (.t 2), (.t 5)]),
ia 4 (.mv (.t 13))]) .ret))), [(.tmp 4)]⟩
theorem cc75 : ccF Try.prog [(58, [0, 0]), (61, [1, 0]), (75, [0, 0]), (58, [9]), (91, [8]), (93, [8]), (72, [8]), (92, [8]), (76, [8])] Try.f75 = some (stripF F75) := by kernel_rfl

/- (*gossamer/act.stage).others -/
def F76b0 : C := (.seq (.seq (.reg [
  ia 10 (.mv (.t 8)),
ia 11 (.mv (.t 0)),
ia 12 (.mv (.t 1)),
ia 13 (.call (.f 91) [(.t 11), (.t 12)]),
ia 14 (.fld 5 1 false (.t 13)),
ia 15 (.len false (.t 14)),
ia 16 (.bin .lss (.t 10) (.t 15))]) (.cond (.t 16) .skip (.exit 0))) (.seq (.block 1 (.reg [
  ia 19 (.mv (.t 7)),
ia 20 (.mv (.t 1)),
ia 21 (.mv (.t 8)),
ia 22 (.call (.f 66) [(.t 20), (.t 21)]),
ia 23 (.bsl 2 58 [(.p (.i .i64 0)), (.p (.i .i64 0))] 1 [(0, (.t 22))]),
ia 24 (.app 2 58 16 (.t 19) (.t 23)),
ia 7 (.mv (.t 24))])) (.reg [
  ia 17 (.mv (.t 8)),
ia 18 (.bin .add (.t 17) (ci 1)),
ia 8 (.mv (.t 18))])))
def F76 : FnC := ⟨3, (.seq (.reg [
  ia 6 (.mv (.c (.a .nil)))]) (.seq (.reg [
  ia 7 (.mv (.c (.a .nil)))]) (.seq (.seq (.reg [
  ia 9 (.mv (.t 2)),
ia 8 (.mv (.t 9))]) (.block 0 (.loop F76b0))) (.seq (.reg [
  ia 25 (.mv (.t 7)),
ia 6 (.mv (.t 25))]) .ret)))), [(.tmp 6)]⟩
theorem cc76 : ccF Try.prog [(58, [0, 0]), (61, [1, 0]), (75, [0, 0]), (58, [9]), (91, [8]), (93, [8]), (72, [8]), (92, [8]), (76, [8])] Try.f76 = some (stripF F76) := by kernel_rfl

/- gossamer/store.Free -/
def F77b0 : C := (.seq (.seq (.reg [
  ia 29 (.fad 0 (.t 2)),
ia 30 (.ld 1 false (.t 29)),
ia 31 (.len false (.t 30)),
ia 32 (.bin .gtr (.t 31) (ci 0)),
ia 33 (.mv (.t 32)),
ig 34 33 true (.fad 0 (.t 2)),
ig 35 33 true (.ld 1 false (.t 34)),
ig 36 33 true (.fad 0 (.t 2)),
ig 37 33 true (.ld 1 false (.t 36)),
ig 38 33 true (.len false (.t 37)),
ig 39 33 true (.bin .sub (.t 38) (ci 1)),
ig 40 33 true (.ias 6 (.t 35) (.t 39)),
ig 41 33 true (.ld 6 true (.t 40)),
ig 42 33 true (.call (.f 67) [(.t 41)]),
ia 43 (.pick (.t 33) (.t 42) (.c (.a (.p (.b false)))))]) (.cond (.t 43) .skip (.exit 0))) (.block 1 (.reg [
  ia 44 (.fad 0 (.t 2)),
ia 45 (.ld 1 false (.t 44)),
ia 46 (.fad 0 (.t 2)),
ia 47 (.ld 1 false (.t 46)),
ia 48 (.len false (.t 47)),
ia 49 (.bin .sub (.t 48) (ci 1)),
ia 50 (.slc 6 25 (.t 45) .none (.some (.t 49)) .none),
ia 51 (.fad 0 (.t 2)),
io (.st 1 (.t 51) (.t 50))])))
def F77 : FnC := ⟨2, (.seq (.reg [
  ia 2 (.box 2 (.t 0)),
ia 4 (.new [.nil, (.p (.i .i64 0))]),
ia 5 (.mv (ci 0))]) (.seq (.seq (.reg [
  ia 6 (.mv (.t 1)),
ia 7 (.fad 0 (.t 2)),
ia 8 (.ld 1 false (.t 7)),
ia 9 (.len false (.t 8)),
ia 10 (.bin .sub (.t 9) (ci 1)),
ia 11 (.call (.f 61) [(.t 6), (ci 0), (.t 10)]),
ia 12 (.not (.t 11)),
ia 13 (.mv (.t 12)),
ig 14 13 false (.fad 0 (.t 2)),
ig 15 13 false (.ld 1 false (.t 14)),
ig 16 13 false (.mv (.t 1)),
ig 17 13 false (.ias 6 (.t 15) (.t 16)),
ig 18 13 false (.ld 6 true (.t 17)),
ig 19 13 false (.call (.f 67) [(.t 18)]),
ia 20 (.pick (.t 13) (.c (.a (.p (.b true)))) (.t 19))]) (.cond (.t 20) (.seq (.reg [
  ia 21 (.ld 2 true (.t 2)),
io (.st 2 (.t 4) (.t 21)),
ia 5 (.mv (ci 122))]) .ret) .skip)) (.seq (.reg [
  ia 22 (.ld 2 true (.t 2)),
ia 23 (.call (.f 98) [(.t 22)]),
io (.st 2 (.t 2) (.t 23))]) (.seq (.reg [
  ia 24 (.fad 0 (.t 2)),
ia 25 (.ld 1 false (.t 24)),
ia 26 (.mv (.t 1)),
ia 27 (.build [(.p (.i .i64 0)), (.p (.i .i64 0)), (.p (.i .i64 0)), (.p (.s [])), .nil, .nil] []),
ia 28 (.ias 6 (.t 25) (.t 26)),
io (.st 6 (.t 28) (.t 27))]) (.seq (.block 0 (.loop F77b0)) (.seq (.reg [
  ia 52 (.ld 2 true (.t 2)),
io (.st 2 (.t 4) (.t 52)),
ia 5 (.mv (ci 0))]) .ret)))))), [(.cell 4 2 true), (.tmp 5)]⟩
theorem cc77 : ccF Try.prog [(58, [0, 0]), (61, [1, 0]), (75, [0, 0]), (58, [9]), (91, [8]), (93, [8]), (72, [8]), (92, [8]), (76, [8])] Try.f77 = some (stripF F77) := by kernel_rfl

/- gossamer/gossamerref13.to -/
def F78 : FnC := ⟨2, (.seq (.reg [
  ia 2 (.box 2 (.t 0)),
ia 3 (.box 2 (.t 1)),
ia 4 (.new [(.p (.i .i64 0)), (.p (.i .i64 0))])]) (.seq (.reg [
  ir 5 (.fad 0 (.t 2)),
ir 6 (.ld 1 false (.t 5)),
ir 7 (.fad 0 (.t 3)),
ir 8 (.ld 1 false (.t 7)),
ir 9 (.ias 6 (.t 6) (.t 8)),
ir 10 (.fad 5 (.t 9)),
ir 11 (.ld 1 false (.t 10)),
ir 12 (.fad 1 (.t 3)),
ir 13 (.ld 1 false (.t 12)),
ia 14 (.ias 2 (.t 11) (.t 13)),
ia 15 (.ld 2 true (.t 14)),
io (.st 2 (.t 4) (.t 15))]) .ret)), [(.cell 4 2 true)]⟩
theorem cc78 : ccF Try.prog [(58, [0, 0]), (61, [1, 0]), (75, [0, 0]), (58, [9]), (91, [8]), (93, [8]), (72, [8]), (92, [8]), (76, [8])] Try.f78 = some (stripF F78) := by kernel_rfl

/- slices.IndexFunc[[]gossamer/api.Arity,gossamer/api.Arity] -/
def F79b0 : C := (.seq (.reg [
  ia 9 (.bin .lss (.t 8) (.t 7))]) (.seq (.cond (.t 9) .skip (.exit 0)) (.seq (.block 1 (.seq (.reg [
  ia 10 (.mv (.t 8)),
ia 5 (.mv (.t 10))]) (.seq (.reg [
  ia 11 (.mv (.t 1)),
ia 12 (.mv (.t 0)),
ia 13 (.mv (.t 5)),
ia 14 (.ias 2 (.t 12) (.t 13)),
ia 15 (.ld 2 true (.t 14)),
ia 16 (.call (.t 11) [(.t 15)])]) (.cond (.t 16) (.seq (.reg [
  ia 17 (.mv (.t 5)),
ia 4 (.mv (.t 17))]) .ret) .skip)))) (.reg [
  ia 18 (.bin .add (.t 8) (ci 1)),
ia 8 (.mv (.t 18))]))))
def F79 : FnC := ⟨2, (.seq (.reg [
  ia 4 (.mv (ci 0))]) (.seq (.seq (.reg [
  ia 6 (.mv (.t 0)),
ia 7 (.len false (.t 6)),
ia 8 (.mv (ci 0))]) (.block 0 (.loop F79b0))) (.seq (.reg [
  ia 4 (.mv (.c (.a (.p (.i .i64 (-1))))))]) .ret))), [(.tmp 4)]⟩
theorem cc79 : ccF Try.prog [(58, [0, 0]), (61, [1, 0]), (75, [0, 0]), (58, [9]), (91, [8]), (93, [8]), (72, [8]), (92, [8]), (76, [8])] Try.f79 = some (stripF F79) := by kernel_rfl

/- gossamer/rule.pick$1 -/
def F80 : FnC := ⟨2, (.seq (.reg [
  ia 2 (.box 2 (.t 0)),
ia 3 (.mv (.c (.a (.p (.b false)))))]) (.seq (.reg [
  ia 4 (.fad 0 (.t 2)),
ia 5 (.ld 1 false (.t 4)),
ia 6 (.fad 3 (.t 1)),
ia 7 (.ld 1 false (.t 6)),
ia 8 (.bin .eql (.t 5) (.t 7)),
ia 9 (.mv (.t 8)),
ig 10 9 true (.fad 1 (.t 2)),
ig 11 9 true (.ld 1 false (.t 10)),
ig 12 9 true (.fad 5 (.t 1)),
ig 13 9 true (.ld 1 false (.t 12)),
ig 14 9 true (.len false (.t 13)),
ig 15 9 true (.bin .sub (.t 14) (ci 1)),
ig 16 9 true (.bin .eql (.t 11) (.t 15)),
ia 17 (.pick (.t 9) (.t 16) (.c (.a (.p (.b false))))),
ia 3 (.mv (.t 17))]) .ret)), [(.tmp 3)]⟩
theorem cc80 : ccF Try.prog [(58, [0, 0]), (61, [1, 0]), (75, [0, 0]), (58, [9]), (91, [8]), (93, [8]), (72, [8]), (92, [8]), (76, [8])] Try.f80 = some (stripF F80) := by kernel_rfl

/- gossamer/rule.truth -/
def F81 : FnC := ⟨1, (.seq (.reg [
  ia 2 (.new [(.p (.i .i64 0)), (.p (.i .i64 0)), (.p (.i .i64 0)), (.p (.s [])), .nil, .nil])]) (.seq (.reg [
  ia 3 (.mv (.c (.a (.p (.s [70, 97, 108, 115, 101])))))]) (.seq (.seq (.reg [
  ia 4 (.mv (.t 0))]) (.cond (.t 4) (.reg [
  ia 3 (.mv (.c (.a (.p (.s [84, 114, 117, 101])))))]) .skip)) (.seq (.reg [
  ia 5 (.mv (.t 3)),
ia 6 (.mslF 2 58 16 [(.p (.i .i64 0)), (.p (.i .i64 0))] (ci 1) (ci 1)),
ia 7 (.build [(.p (.i .i64 0)), (.p (.i .i64 0)), (.p (.i .i64 0)), (.p (.s [])), .nil, .nil] [(0, (1, (ci 8))), (3, (1, (.t 5))), (5, (1, (.t 6)))]),
io (.st 6 (.t 2) (.t 7))]) .ret)))), [(.cell 2 6 true)]⟩
theorem cc81 : ccF Try.prog [(58, [0, 0]), (61, [1, 0]), (75, [0, 0]), (58, [9]), (91, [8]), (93, [8]), (72, [8]), (92, [8]), (76, [8])] Try.f81 = some (stripF F81) := by kernel_rfl

/- gossamer/gossamerref06.head -/
def F82 : FnC := ⟨3, (.seq (.reg [
  ia 3 (.box 4 (.t 0)),
ia 6 (.mv (.c (.a (.p (.b false)))))]) (.seq (.reg [
  ia 10 (.fad 3 (.t 3)),
ia 11 (.ld 1 false (.t 10)),
ia 12 (.len false (.t 11)),
ia 7 (.mv (.t 12))]) (.seq (.reg [
  ia 13 (.fad 2 (.t 3)),
ia 14 (.ld 1 false (.t 13)),
ia 15 (.bin .eql (.t 14) (.c (.a (.p (.s [43]))))),
ia 16 (.mv (.t 15)),
ig 17 16 false (.fad 2 (.t 3)),
ig 18 16 false (.ld 1 false (.t 17)),
ig 19 16 false (.bin .eql (.t 18) (.c (.a (.p (.s [45]))))),
ia 20 (.pick (.t 16) (.c (.a (.p (.b true)))) (.t 19)),
ia 21 (.mv (.t 20)),
ig 22 21 false (.fad 2 (.t 3)),
ig 23 21 false (.ld 1 false (.t 22)),
ig 24 21 false (.bin .eql (.t 23) (.c (.a (.p (.s [42]))))),
ia 25 (.pick (.t 21) (.c (.a (.p (.b true)))) (.t 24)),
ia 26 (.mv (.t 25)),
ig 27 26 false (.fad 2 (.t 3)),
ig 28 26 false (.ld 1 false (.t 27)),
ig 29 26 false (.bin .eql (.t 28) (.c (.a (.p (.s [47]))))),
ia 30 (.pick (.t 26) (.c (.a (.p (.b true)))) (.t 29)),
ia 31 (.mv (.t 30)),
ig 32 31 false (.fad 2 (.t 3)),
ig 33 31 false (.ld 1 false (.t 32)),
ig 34 31 false (.bin .eql (.t 33) (.c (.a (.p (.s [60]))))),
ia 35 (.pick (.t 31) (.c (.a (.p (.b true)))) (.t 34)),
ia 36 (.mv (.t 35)),
ig 37 36 false (.fad 2 (.t 3)),
ig 38 36 false (.ld 1 false (.t 37)),
ig 39 36 false (.bin .eql (.t 38) (.c (.a (.p (.s [61, 61]))))),
ia 40 (.pick (.t 36) (.c (.a (.p (.b true)))) (.t 39)),
ia 8 (.mv (.t 40))]) (.seq (.reg [
  ia 41 (.fad 2 (.t 3)),
ia 42 (.ld 1 false (.t 41)),
ia 43 (.bin .eql (.t 42) (.c (.a (.p (.s []))))),
ia 44 (.mv (.t 43)),
ig 45 44 true (.fad 1 (.t 3)),
ig 46 44 true (.ld 1 false (.t 45)),
ig 47 44 true (.bin .eql (.t 46) (ci 0)),
ia 48 (.pick (.t 44) (.t 47) (.c (.a (.p (.b false))))),
ia 9 (.mv (.t 48))]) (.seq (.seq (.reg [
  ia 49 (.mv (.t 2))]) (.cond (.t 49) (.seq (.reg [
  ia 50 (.fad 0 (.t 3)),
ia 51 (.ld 1 false (.t 50)),
ia 52 (.bin .eql (.t 51) (ci 6)),
ia 53 (.mv (.t 52)),
ig 54 53 true (.fad 2 (.t 3)),
ig 55 53 true (.ld 1 false (.t 54)),
ig 56 53 true (.call (.f 99) [(.t 55)]),
ia 57 (.pick (.t 53) (.t 56) (.c (.a (.p (.b false))))),
ia 58 (.mv (.t 57)),
ig 59 58 true (.fad 1 (.t 3)),
ig 60 58 true (.ld 1 false (.t 59)),
ig 61 58 true (.bin .geq (.t 60) (ci 0)),
ia 62 (.pick (.t 58) (.t 61) (.c (.a (.p (.b false))))),
ia 63 (.mv (.t 62)),
ig 64 63 true (.fad 1 (.t 3)),
ig 65 63 true (.ld 1 false (.t 64)),
ig 66 63 true (.bin .leq (.t 65) (ci 8)),
ia 67 (.pick (.t 63) (.t 66) (.c (.a (.p (.b false))))),
ia 68 (.mv (.t 67)),
ig 69 68 true (.mv (.t 7)),
ig 70 68 true (.bin .eql (.t 69) (ci 1)),
ia 71 (.pick (.t 68) (.t 70) (.c (.a (.p (.b false))))),
ia 6 (.mv (.t 71))]) .ret) .skip)) (.seq (.seq (.reg [
  ia 72 (.fad 0 (.t 3)),
ia 73 (.ld 1 false (.t 72))]) (.block 0 (.seq (.reg [
  ia 75 (.bin .eql (.t 73) (ci 1)),
ia 74 (.mv (.t 75))]) (.cond (.t 74) (.seq (.reg [
  ia 76 (.fad 2 (.t 3)),
ia 77 (.ld 1 false (.t 76)),
ia 78 (.bin .eql (.t 77) (.c (.a (.p (.s []))))),
ia 79 (.mv (.t 78)),
ig 80 79 true (.mv (.t 7)),
ig 81 79 true (.bin .eql (.t 80) (ci 0)),
ia 82 (.pick (.t 79) (.t 81) (.c (.a (.p (.b false))))),
ia 83 (.mv (.t 82)),
ig 84 83 true (.fad 1 (.t 3)),
ig 85 83 true (.ld 1 false (.t 84)),
ig 86 83 true (.bin .geq (.t 85) (ci 0)),
ia 87 (.pick (.t 83) (.t 86) (.c (.a (.p (.b false))))),
ia 88 (.mv (.t 87)),
ig 89 88 true (.fad 1 (.t 3)),
ig 90 88 true (.ld 1 false (.t 89)),
ig 91 88 true (.mv (.t 1)),
ig 92 88 true (.bin .lss (.t 90) (.t 91)),
ia 93 (.pick (.t 88) (.t 92) (.c (.a (.p (.b false))))),
ia 6 (.mv (.t 93))]) .ret) (.seq (.reg [
  ia 95 (.bin .eql (.t 73) (ci 2)),
ia 94 (.mv (.t 95))]) (.cond (.t 94) (.seq (.reg [
  ia 96 (.mv (.t 9)),
ia 97 (.mv (.t 96)),
ig 98 97 true (.mv (.t 7)),
ig 99 97 true (.bin .eql (.t 98) (ci 1)),
ia 100 (.pick (.t 97) (.t 99) (.c (.a (.p (.b false))))),
ia 6 (.mv (.t 100))]) .ret) (.seq (.reg [
  ia 102 (.bin .eql (.t 73) (ci 3)),
ia 101 (.mv (.t 102))]) (.cond (.t 101) (.seq (.reg [
  ia 103 (.mv (.t 9)),
ia 104 (.mv (.t 103)),
ig 105 104 true (.mv (.t 7)),
ig 106 104 true (.bin .eql (.t 105) (ci 2)),
ia 107 (.pick (.t 104) (.t 106) (.c (.a (.p (.b false))))),
ia 6 (.mv (.t 107))]) .ret) (.seq (.reg [
  ia 109 (.bin .eql (.t 73) (ci 4)),
ia 108 (.mv (.t 109))]) (.cond (.t 108) (.seq (.reg [
  ia 110 (.fad 2 (.t 3)),
ia 111 (.ld 1 false (.t 110)),
ia 112 (.call (.f 99) [(.t 111)]),
ia 113 (.mv (.t 112)),
ig 114 113 true (.fad 1 (.t 3)),
ig 115 113 true (.ld 1 false (.t 114)),
ig 116 113 true (.bin .eql (.t 115) (ci 0)),
ia 117 (.pick (.t 113) (.t 116) (.c (.a (.p (.b false))))),
ia 118 (.mv (.t 117)),
ig 119 118 true (.mv (.t 7)),
ig 120 118 true (.bin .leq (.t 119) (ci 8)),
ia 121 (.pick (.t 118) (.t 120) (.c (.a (.p (.b false))))),
ia 6 (.mv (.t 121))]) .ret) (.seq (.reg [
  ia 123 (.bin .eql (.t 73) (ci 5)),
ia 122 (.mv (.t 123))]) (.cond (.t 122) (.seq (.reg [
  ia 124 (.mv (.t 9)),
ia 125 (.mv (.t 124)),
ig 126 125 true (.mv (.t 7)),
ig 127 125 true (.bin .geq (.t 126) (ci 2)),
ia 128 (.pick (.t 125) (.t 127) (.c (.a (.p (.b false))))),
ia 129 (.mv (.t 128)),
ig 130 129 true (.mv (.t 7)),
ig 131 129 true (.bin .leq (.t 130) (ci 9)),
ia 132 (.pick (.t 129) (.t 131) (.c (.a (.p (.b false))))),
ia 6 (.mv (.t 132))]) .ret) (.seq (.reg [
  ia 134 (.bin .eql (.t 73) (ci 7)),
ia 133 (.mv (.t 134))]) (.cond (.t 133) (.seq (.reg [
  ia 135 (.fad 2 (.t 3)),
ia 136 (.ld 1 false (.t 135)),
ia 137 (.bin .eql (.t 136) (.c (.a (.p (.s []))))),
ia 138 (.mv (.t 137)),
ig 139 138 true (.mv (.t 7)),
ig 140 138 true (.bin .eql (.t 139) (ci 0)),
ia 141 (.pick (.t 138) (.t 140) (.c (.a (.p (.b false))))),
ia 6 (.mv (.t 141))]) .ret) (.seq (.reg [
  ia 143 (.bin .eql (.t 73) (ci 8)),
ia 142 (.mv (.t 143))]) (.cond (.t 142) (.seq (.reg [
  ia 144 (.mv (.t 8)),
ia 145 (.mv (.t 144)),
ig 146 145 true (.fad 1 (.t 3)),
ig 147 145 true (.ld 1 false (.t 146)),
ig 148 145 true (.bin .eql (.t 147) (ci 0)),
ia 149 (.pick (.t 145) (.t 148) (.c (.a (.p (.b false))))),
ia 150 (.mv (.t 149)),
ig 151 150 true (.mv (.t 7)),
ig 152 150 true (.bin .eql (.t 151) (ci 2)),
ia 153 (.pick (.t 150) (.t 152) (.c (.a (.p (.b false))))),
ia 6 (.mv (.t 153))]) .ret) (.seq (.reg [
  ia 155 (.bin .eql (.t 73) (ci 9)),
ia 154 (.mv (.t 155))]) (.cond (.t 154) (.seq (.reg [
  ia 156 (.mv (.t 9)),
ia 157 (.mv (.t 156)),
ig 158 157 true (.mv (.t 7)),
ig 159 157 true (.bin .eql (.t 158) (ci 0)),
ia 160 (.pick (.t 157) (.t 159) (.c (.a (.p (.b false))))),
ia 6 (.mv (.t 160))]) .ret) .skip)))))))))))))))))) (.seq (.reg [
  ia 6 (.mv (.c (.a (.p (.b false)))))]) .ret))))))), [(.tmp 6)]⟩
theorem cc82 : ccF Try.prog [(58, [0, 0]), (61, [1, 0]), (75, [0, 0]), (58, [9]), (91, [8]), (93, [8]), (72, [8]), (92, [8]), (76, [8])] Try.f82 = some (stripF F82) := by kernel_rfl

/- gossamer/gossamerref08.Inst -/
def F83 : FnC := ⟨2, (.seq (.reg [
  ia 2 (.box 4 (.t 0)),
ia 4 (.new [(.p (.i .i64 0)), (.p (.i .i64 0)), (.p (.s [])), .nil])]) (.seq (.reg [
  ia 5 (.ld 4 true (.t 2)),
ia 6 (.mv (.t 1)),
ia 7 (.call (.f 100) [(.t 5), (.t 6), (ci 0)]),
io (.st 4 (.t 4) (.t 7))]) .ret)), [(.cell 4 4 true)]⟩
theorem cc83 : ccF Try.prog [(58, [0, 0]), (61, [1, 0]), (75, [0, 0]), (58, [9]), (91, [8]), (93, [8]), (72, [8]), (92, [8]), (76, [8])] Try.f83 = some (stripF F83) := by kernel_rfl

/- gossamer/gossamerref08.put -/
def F84b0 : C := (.seq (.seq (.reg [
  ia 41 (.mv (.t 10)),
ia 42 (.fad 3 (.t 4)),
ia 43 (.ld 1 false (.t 42)),
ia 44 (.len false (.t 43)),
ia 45 (.bin .lss (.t 41) (.t 44))]) (.cond (.t 45) .skip (.exit 0))) (.seq (.block 1 (.reg [
  ir 48 (.fad 3 (.t 9)),
ir 49 (.ld 1 false (.t 48)),
ir 50 (.fad 3 (.t 4)),
ir 51 (.ld 1 false (.t 50)),
ir 52 (.mv (.t 10)),
ir 53 (.ias 4 (.t 51) (.t 52)),
ir 54 (.ld 4 true (.t 53)),
ir 55 (.mv (.t 1)),
ir 56 (.ld 4 true (.t 6)),
ir 57 (.mv (.t 3)),
ir 58 (.ld 4 true (.t 4)),
ir 59 (.call (.f 102) [(.t 58)]),
ir 60 (.bin .add (.t 57) (.t 59)),
ir 61 (.call (.f 84) [(.t 54), (.t 55), (.t 56), (.t 60)]),
⟨(.some 62), .none, (.bsl 4 43 [(.p (.i .i64 0)), (.p (.i .i64 0)), (.p (.s [])), .nil] 1 [(0, (.t 61))]), .ad⟩,
ia 63 (.app 4 43 56 (.t 49) (.t 62)),
ia 64 (.fad 3 (.t 9)),
io (.st 1 (.t 64) (.t 63))])) (.reg [
  ia 46 (.mv (.t 10)),
ia 47 (.bin .add (.t 46) (ci 1)),
ia 10 (.mv (.t 47))])))
def F84 : FnC := ⟨4, (.seq (.reg [
  ia 4 (.box 4 (.t 0)),
ia 6 (.box 4 (.t 2)),
ia 8 (.new [(.p (.i .i64 0)), (.p (.i .i64 0)), (.p (.s [])), .nil])]) (.seq (.seq (.reg [
  ia 11 (.fad 0 (.t 4)),
ia 12 (.ld 1 false (.t 11)),
ia 13 (.bin .eql (.t 12) (ci 1))]) (.cond (.t 13) (.seq (.seq (.reg [
  ia 14 (.fad 1 (.t 4)),
ia 15 (.ld 1 false (.t 14)),
ia 16 (.mv (.t 1)),
ia 17 (.mv (.t 3)),
ia 18 (.bin .add (.t 16) (.t 17)),
ia 19 (.bin .eql (.t 15) (.t 18))]) (.cond (.t 19) (.seq (.reg [
  ia 20 (.ld 4 true (.t 6)),
ia 21 (.mv (.t 3)),
ia 22 (.call (.f 101) [(.t 20), (.t 21), (ci 0)]),
io (.st 4 (.t 8) (.t 22))]) .ret) .skip)) (.seq (.seq (.reg [
  ia 23 (.fad 1 (.t 4)),
ia 24 (.ld 1 false (.t 23)),
ia 25 (.mv (.t 1)),
ia 26 (.mv (.t 3)),
ia 27 (.bin .add (.t 25) (.t 26)),
ia 28 (.bin .gtr (.t 24) (.t 27))]) (.cond (.t 28) (.reg [
  ia 29 (.fad 1 (.t 4)),
ia 30 (.ld 1 false (.t 29)),
ia 31 (.bin .sub (.t 30) (ci 1)),
ia 32 (.fad 1 (.t 4)),
io (.st 1 (.t 32) (.t 31))]) .skip)) (.seq (.reg [
  ia 33 (.ld 4 true (.t 4)),
io (.st 4 (.t 8) (.t 33))]) .ret))) .skip)) (.seq (.reg [
  ia 34 (.fad 0 (.t 4)),
ia 35 (.ld 1 false (.t 34)),
ia 36 (.fad 1 (.t 4)),
ia 37 (.ld 1 false (.t 36)),
ia 38 (.fad 2 (.t 4)),
ia 39 (.ld 1 false (.t 38)),
ia 40 (.build [(.p (.i .i64 0)), (.p (.i .i64 0)), (.p (.s [])), .nil] [(0, (1, (.t 35))), (1, (1, (.t 37))), (2, (1, (.t 39)))]),
ia 9 (.new [(.p (.i .i64 0)), (.p (.i .i64 0)), (.p (.s [])), .nil]),
io (.st 4 (.t 9) (.t 40))]) (.seq (.seq (.reg [
  ia 10 (.mv (ci 0))]) (.block 0 (.loop F84b0))) (.seq (.reg [
  ia 65 (.ld 4 true (.t 9)),
io (.st 4 (.t 8) (.t 65))]) .ret))))), [(.cell 8 4 true)]⟩
theorem cc84 : ccF Try.prog [(58, [0, 0]), (61, [1, 0]), (75, [0, 0]), (58, [9]), (91, [8]), (93, [8]), (72, [8]), (92, [8]), (76, [8])] Try.f84 = some (stripF F84) := by kernel_rfl

/- gossamer/gossamerref09.number -/
def F85 : FnC := ⟨1, (.seq (.reg [
  ia 2 (.new [(.p (.i .i64 0)), (.p (.i .i64 0)), (.p (.s [])), .nil]),
ia 3 (.mv (ci 0))]) (.seq (.reg [
  ia 4 (.mv (.t 0)),
ia 5 (.build [(.p (.i .i64 0)), (.p (.i .i64 0)), (.p (.s [])), .nil] [(0, (1, (ci 7))), (1, (1, (.t 4)))]),
io (.st 4 (.t 2) (.t 5)),
ia 3 (.mv (ci 3))]) .ret)), [(.cell 2 4 true), (.tmp 3)]⟩
theorem cc85 : ccF Try.prog [(58, [0, 0]), (61, [1, 0]), (75, [0, 0]), (58, [9]), (91, [8]), (93, [8]), (72, [8]), (92, [8]), (76, [8])] Try.f85 = some (stripF F85) := by kernel_rfl

/- gossamer/store.alternatives -/
def F86b0 : C := (.seq (.reg [
  ia 17 (.bin .lss (.t 16) (.t 15))]) (.seq (.cond (.t 17) .skip (.exit 0)) (.seq (.block 1 (.seq (.reg [
  ia 18 (.mv (.t 16)),
ia 19 (.ias 2 (.t 14) (.t 16)),
ia 20 (.ld 2 true (.t 19)),
ia 4 (.new [(.p (.s [])), (.p (.i .i64 0))]),
ia 3 (.mv (.t 18)),
io (.st 2 (.t 4) (.t 20))]) (.seq (.reg [
  ia 21 (.fn 103 [(.t 4)]),
ia 5 (.mv (.t 21))]) (.seq (.reg [
  ia 22 (.fad 0 (.t 4)),
ia 23 (.ld 1 false (.t 22)),
ia 24 (.bin .eql (.t 23) (.c (.a (.p (.s []))))),
ia 25 (.mv (.t 24)),
ig 26 25 false (.fad 1 (.t 4)),
ig 27 25 false (.ld 1 false (.t 26)),
ig 28 25 false (.call (.f 61) [(.t 27), (ci 0), (ci 8)]),
ig 29 25 false (.not (.t 28)),
ia 30 (.pick (.t 25) (.c (.a (.p (.b true)))) (.t 29)),
ia 31 (.mv (.t 30)),
ig 32 31 false (.fad 4 (.t 1)),
ig 33 31 false (.ld 1 false (.t 32)),
ig 34 31 false (.mv (.t 3)),
ig 35 31 false (.slc 2 61 (.t 33) .none (.some (.t 34)) .none),
ig 36 31 false (.mv (.t 5)),
ig 37 31 false (.call (.f 104) [(.t 35), (.t 36)]),
ia 38 (.pick (.t 31) (.c (.a (.p (.b true)))) (.t 37))]) (.cond (.t 38) (.seq (.reg [
  ia 2 (.mv (.c (.a (.p (.b false)))))]) .ret) .skip))))) (.reg [
  ia 39 (.bin .add (.t 16) (ci 1)),
ia 16 (.mv (.t 39))]))))
def F86 : FnC := ⟨1, (.seq (.reg [
  ia 1 (.box 6 (.t 0)),
ia 2 (.mv (.c (.a (.p (.b false)))))]) (.seq (.seq (.reg [
  ia 6 (.fad 0 (.t 1)),
ia 7 (.ld 1 false (.t 6)),
ia 8 (.bin .neq (.t 7) (ci 9))]) (.cond (.t 8) (.seq (.reg [
  ia 9 (.fad 4 (.t 1)),
ia 10 (.ld 1 false (.t 9)),
ia 11 (.len false (.t 10)),
ia 12 (.bin .eql (.t 11) (ci 0)),
ia 2 (.mv (.t 12))]) .ret) .skip)) (.seq (.seq (.reg [
  ia 13 (.fad 4 (.t 1)),
ia 14 (.ld 1 false (.t 13)),
ia 15 (.len false (.t 14)),
ia 16 (.mv (ci 0))]) (.block 0 (.loop F86b0))) (.seq (.reg [
  ia 40 (.fad 4 (.t 1)),
ia 41 (.ld 1 false (.t 40)),
ia 42 (.len false (.t 41)),
ia 43 (.call (.f 61) [(.t 42), (ci 1), (ci 8)]),
ia 2 (.mv (.t 43))]) .ret)))), [(.tmp 2)]⟩
theorem cc86 : ccF Try.prog [(58, [0, 0]), (61, [1, 0]), (75, [0, 0]), (58, [9]), (91, [8]), (93, [8]), (72, [8]), (92, [8]), (76, [8])] Try.f86 = some (stripF F86) := by kernel_rfl

/- gossamer/store.fixed -/
def F87 : FnC := ⟨0, (.seq (.reg [
  ia 0 (.new [(.p (.i .i64 0)), (.p (.i .i64 0)), (.p (.i .i64 0)), (.p (.i .i64 0)), (.p (.i .i64 0)), (.p (.i .i64 0)), (.p (.i .i64 0)), (.p (.i .i64 0)), (.p (.i .i64 0)), (.p (.i .i64 0)), (.p (.i .i64 0)), (.p (.i .i64 0)), (.p (.i .i64 0)), (.p (.i .i64 0))])]) (.seq (.reg [
  ia 1 (.build [(.p (.i .i64 0)), (.p (.i .i64 0)), (.p (.i .i64 0)), (.p (.i .i64 0)), (.p (.i .i64 0)), (.p (.i .i64 0)), (.p (.i .i64 0)), (.p (.i .i64 0)), (.p (.i .i64 0)), (.p (.i .i64 0)), (.p (.i .i64 0)), (.p (.i .i64 0)), (.p (.i .i64 0)), (.p (.i .i64 0))] [(1, (1, (ci 1))), (2, (1, (ci 3))), (3, (1, (ci 3))), (4, (1, (ci 3))), (5, (1, (ci 2))), (6, (1, (ci 2))), (7, (1, (ci 1))), (10, (1, (ci 1))), (11, (1, (ci 3))), (12, (1, (ci 2))), (13, (1, (ci 1)))]),
io (.st 14 (.t 0) (.t 1))]) .ret)), [(.cell 0 14 true)]⟩
theorem cc87 : ccF Try.prog [(58, [0, 0]), (61, [1, 0]), (75, [0, 0]), (58, [9]), (91, [8]), (93, [8]), (72, [8]), (92, [8]), (76, [8])] Try.f87 = some (stripF F87) := by kernel_rfl

/- (gossamer/wire.net).there -/
def F88 : FnC := ⟨2, (.seq (.reg [
  ia 2 (.box 2 (.t 0)),
ia 4 (.mv (.c (.a (.p (.b false)))))]) (.seq (.reg [
  ia 5 (.mv (.t 1)),
ia 6 (.fn 106 [(.t 2)]),
ia 7 (.call (.f 105) [(.t 5), (.t 6)]),
ia 8 (.not (.t 7)),
ia 4 (.mv (.t 8))]) .ret)), [(.tmp 4)]⟩
theorem cc88 : ccF Try.prog [(58, [0, 0]), (61, [1, 0]), (75, [0, 0]), (58, [9]), (91, [8]), (93, [8]), (72, [8]), (92, [8]), (76, [8])] Try.f88 = some (stripF F88) := by kernel_rfl

/- (gossamer/wire.net).peer -/
def F89 : FnC := ⟨2, (.seq (.reg [
  ia 2 (.box 2 (.t 0)),
ia 3 (.box 2 (.t 1)),
ia 4 (.new [(.p (.i .i64 0)), (.p (.i .i64 0))])]) (.seq (.reg [
  ir 5 (.fad 0 (.t 2)),
ir 6 (.fad 0 (.t 5)),
ir 7 (.ld 1 false (.t 6)),
ir 8 (.fad 0 (.t 3)),
ir 9 (.ld 1 false (.t 8)),
ir 10 (.ias 6 (.t 7) (.t 9)),
ir 11 (.fad 5 (.t 10)),
ir 12 (.ld 1 false (.t 11)),
ir 13 (.fad 1 (.t 3)),
ir 14 (.ld 1 false (.t 13)),
ia 15 (.ias 2 (.t 12) (.t 14)),
ia 16 (.ld 2 true (.t 15)),
io (.st 2 (.t 4) (.t 16))]) .ret)), [(.cell 4 2 true)]⟩
theorem cc89 : ccF Try.prog [(58, [0, 0]), (61, [1, 0]), (75, [0, 0]), (58, [9]), (91, [8]), (93, [8]), (72, [8]), (92, [8]), (76, [8])] Try.f89 = some (stripF F89) := by kernel_rfl

/- (*gossamer/act.stage).join -/
def F90 : FnC := ⟨3, (.seq (.reg [
  ia 4 (.box 2 (.t 1)),
ia 5 (.box 2 (.t 2))]) (.reg [
  ir 7 (.mv (.t 0)),
ir 8 (.mv (.t 0)),
ir 9 (.nck (.t 8)),
ir 10 (.fad 0 (.t 9)),
ir 11 (.ld 2 true (.t 10)),
ir 12 (.ld 2 true (.t 4)),
ir 13 (.ld 2 true (.t 5)),
ir 14 (.call (.f 107) [(.t 11), (.t 12), (.t 13)]),
ir 6 (.mv (.t 14)),
ir 15 (.ext (.t 6) 0),
ir 16 (.ext (.t 6) 1),
ir 17 (.nck (.t 7)),
ir 18 (.fad 0 (.t 17)),
⟨.none, .none, (.st 2 (.t 18) (.t 15)), (.wr [])⟩])), []⟩
theorem cc90 : ccF Try.prog [(58, [0, 0]), (61, [1, 0]), (75, [0, 0]), (58, [9]), (91, [8]), (93, [8]), (72, [8]), (92, [8]), (76, [8])] Try.f90 = some (stripF F90) := by kernel_rfl

/- (*gossamer/act.stage).node -/
def F91 : FnC := ⟨2, (.seq (.reg [
  ia 4 (.new [(.p (.i .i64 0)), (.p (.i .i64 0)), (.p (.i .i64 0)), (.p (.s [])), .nil, .nil])]) (.seq (.reg [
  ia 5 (.mv (.t 0)),
ia 6 (.nck (.t 5)),
ia 7 (.fad 0 (.t 6)),
ia 8 (.fad 0 (.t 7)),
ia 9 (.ld 1 false (.t 8)),
ia 10 (.mv (.t 1)),
ia 11 (.ias 6 (.t 9) (.t 10)),
ia 12 (.ld 6 true (.t 11)),
io (.st 6 (.t 4) (.t 12))]) .ret)), [(.cell 4 6 true)]⟩
theorem cc91 : ccF Try.prog [(58, [0, 0]), (61, [1, 0]), (75, [0, 0]), (58, [9]), (91, [8]), (93, [8]), (72, [8]), (92, [8]), (76, [8])] Try.f91 = some (stripF F91) := by kernel_rfl

/- (*gossamer/act.stage).like -/
def F92b0 : C := (.seq (.reg [
  ia 10 (.bin .lss (.t 9) (.t 8))]) (.seq (.cond (.t 10) .skip (.exit 0)) (.seq (.block 1 (.reg [
  ia 11 (.mv (.t 7)),
ia 12 (.mv (.t 0)),
ia 13 (.ld 6 true (.t 4)),
ia 14 (.call (.f 72) [(.t 12), (.t 13)]),
ia 15 (.bsl 1 3 [(.p (.i .i64 0))] 1 [(0, (.t 14))]),
ia 16 (.app 1 3 8 (.t 11) (.t 15)),
ia 7 (.mv (.t 16))])) (.reg [
  ia 17 (.bin .add (.t 9) (ci 1)),
ia 9 (.mv (.t 17))]))))
def F92 : FnC := ⟨3, (.seq (.reg [
  ia 4 (.box 6 (.t 1)),
ia 6 (.mv (.c (.a .nil)))]) (.seq (.reg [
  ia 7 (.mv (.c (.a .nil)))]) (.seq (.seq (.reg [
  ia 8 (.mv (.t 2)),
ia 9 (.mv (ci 0))]) (.block 0 (.loop F92b0))) (.seq (.reg [
  ia 18 (.mv (.t 7)),
ia 6 (.mv (.t 18))]) .ret)))), [(.tmp 6)]⟩
theorem cc92 : ccF Try.prog [(58, [0, 0]), (61, [1, 0]), (75, [0, 0]), (58, [9]), (91, [8]), (93, [8]), (72, [8]), (92, [8]), (76, [8])] Try.f92 = some (stripF F92) := by kernel_rfl

/- (*gossamer/act.stage).level -/
def F93 : FnC := ⟨1, (.seq (.reg [
  ia 2 (.mv (ci 0))]) (.seq (.reg [
  ia 3 (.mv (.t 0)),
ia 4 (.mv (.t 0)),
ia 5 (.nck (.t 4)),
ia 6 (.fad 12 (.t 5)),
ia 7 (.ld 1 false (.t 6)),
ia 8 (.call (.f 91) [(.t 3), (.t 7)]),
ia 9 (.fld 1 1 false (.t 8)),
ia 2 (.mv (.t 9))]) .ret)), [(.tmp 2)]⟩
theorem cc93 : ccF Try.prog [(58, [0, 0]), (61, [1, 0]), (75, [0, 0]), (58, [9]), (91, [8]), (93, [8]), (72, [8]), (92, [8]), (76, [8])] Try.f93 = some (stripF F93) := by kernel_rfl

/- (*gossamer/act.stage).link -/
def F94 : FnC := ⟨3, (.seq (.reg [
  ia 4 (.box 2 (.t 1)),
ia 5 (.box 2 (.t 2))]) (.reg [
  ir 7 (.mv (.t 0)),
ir 8 (.mv (.t 0)),
ir 9 (.nck (.t 8)),
ir 10 (.fad 0 (.t 9)),
ir 11 (.ld 2 true (.t 10)),
ir 12 (.ld 2 true (.t 4)),
ir 13 (.ld 2 true (.t 5)),
ir 14 (.call (.f 108) [(.t 11), (.t 12), (.t 13)]),
ir 6 (.mv (.t 14)),
ir 15 (.ext (.t 6) 0),
ir 16 (.ext (.t 6) 1),
ir 17 (.nck (.t 7)),
ir 18 (.fad 0 (.t 17)),
⟨.none, .none, (.st 2 (.t 18) (.t 15)), (.wr [])⟩])), []⟩
theorem cc94 : ccF Try.prog [(58, [0, 0]), (61, [1, 0]), (75, [0, 0]), (58, [9]), (91, [8]), (93, [8]), (72, [8]), (92, [8]), (76, [8])] Try.f94 = some (stripF F94) := by kernel_rfl

/- gossamer/wire.Move -/
def F95 : FnC := ⟨3, (.seq (.reg [
  ia 3 (.box 2 (.t 0)),
ia 4 (.box 2 (.t 1)),
ia 5 (.box 2 (.t 2)),
ia 6 (.new [.nil, (.p (.i .i64 0))]),
ia 7 (.mv (ci 0))]) (.seq (.reg [
  ia 9 (.ld 2 true (.t 3)),
ia 10 (.build [.nil, (.p (.i .i64 0))] [(0, (2, (.t 9)))]),
ia 8 (.new [.nil, (.p (.i .i64 0))]),
io (.st 2 (.t 8) (.t 10))]) (.seq (.block 0 (.seq (.reg [
  ir 12 (.ld 2 true (.t 8)),
ir 13 (.ld 2 true (.t 4)),
ir 14 (.ld 2 true (.t 5)),
⟨(.some 15), .none, (.bsl 2 58 [(.p (.i .i64 0)), (.p (.i .i64 0))] 2 [(0, (.t 13)), (1, (.t 14))]), .ad⟩,
ia 16 (.call (.f 88) [(.t 12), (.t 15)]),
ia 17 (.not (.t 16)),
ia 18 (.mv (.t 17)),
ih 19 18 false (.ld 2 true (.t 4)),
ih 20 18 false (.ld 2 true (.t 5)),
ig 21 18 false (.eqg false [0, 0] (.t 19) (.t 20)),
ia 22 (.pick (.t 18) (.c (.a (.p (.b true)))) (.t 21)),
ia 23 (.mv (.t 22)),
ih 24 23 false (.ld 2 true (.t 8)),
ih 25 23 false (.ld 2 true (.t 8)),
ih 26 23 false (.ld 2 true (.t 4)),
ih 27 23 false (.call (.f 89) [(.t 25), (.t 26)]),
⟨(.some 28), (.some (23, false)), (.bsl 2 58 [(.p (.i .i64 0)), (.p (.i .i64 0))] 1 [(0, (.t 27))]), .ad⟩,
ig 29 23 false (.call (.f 88) [(.t 24), (.t 28)]),
ig 30 23 false (.not (.t 29)),
ia 31 (.pick (.t 23) (.c (.a (.p (.b true)))) (.t 30)),
ia 11 (.mv (.t 31))]) (.cond (.t 11) (.seq (.reg [
  ia 32 (.ld 2 true (.t 3)),
io (.st 2 (.t 6) (.t 32)),
ia 7 (.mv (ci 130))]) .ret) (.seq (.reg [
  ir 34 (.ld 2 true (.t 8)),
ir 35 (.ld 2 true (.t 4)),
ir 36 (.call (.f 89) [(.t 34), (.t 35)]),
ir 37 (.ld 2 true (.t 5)),
ia 38 (.eqg false [0, 0] (.t 36) (.t 37)),
ia 33 (.mv (.t 38))]) (.cond (.t 33) (.seq (.reg [
  ia 39 (.ld 2 true (.t 3)),
io (.st 2 (.t 6) (.t 39)),
ia 7 (.mv (ci 0))]) .ret) .skip))))) (.seq (.reg [
  ir 40 (.ld 2 true (.t 8)),
ir 41 (.ld 2 true (.t 5)),
ir 42 (.ld 2 true (.t 8)),
ir 43 (.ld 2 true (.t 4)),
ir 44 (.call (.f 89) [(.t 42), (.t 43)]),
ia 45 (.call (.f 109) [(.t 40), (.t 41), (.t 44)]),
ir 46 (.ext (.t 45) 0),
ir 47 (.ext (.t 45) 1),
io (.st 2 (.t 6) (.t 46)),
ia 7 (.mv (.t 47))]) .ret)))), [(.cell 6 2 true), (.tmp 7)]⟩
theorem cc95 : ccF Try.prog [(58, [0, 0]), (61, [1, 0]), (75, [0, 0]), (58, [9]), (91, [8]), (93, [8]), (72, [8]), (92, [8]), (76, [8])] Try.f95 = some (stripF F95) := by kernel_rfl

/- gossamer/store.Make -/
def F96 : FnC := ⟨2, (.seq (.reg [
  ia 2 (.box 2 (.t 0)),
ia 3 (.box 6 (.t 1)),
ia 4 (.new [.nil, (.p (.i .i64 0))]),
ia 5 (.mv (ci 0)),
ia 6 (.mv (ci 0))]) (.seq (.block 0 (.seq (.reg [
  ia 9 (.fad 0 (.t 3)),
ia 10 (.ld 1 false (.t 9)),
ia 11 (.bin .eql (.t 10) (ci 0)),
ia 12 (.mv (.t 11)),
ig 13 12 false (.fad 0 (.t 3)),
ig 14 12 false (.ld 1 false (.t 13)),
ig 15 12 false (.bin .eql (.t 14) (ci 1)),
ia 16 (.pick (.t 12) (.c (.a (.p (.b true)))) (.t 15)),
ia 17 (.mv (.t 16)),
ig 18 17 false (.ld 6 true (.t 3)),
ig 19 17 false (.call (.f 62) [(.t 18)]),
ig 20 17 false (.not (.t 19)),
ia 21 (.pick (.t 17) (.c (.a (.p (.b true)))) (.t 20)),
ia 8 (.mv (.t 21))]) (.cond (.t 8) (.seq (.reg [
  ia 22 (.ld 2 true (.t 2)),
io (.st 2 (.t 4) (.t 22)),
ia 5 (.mv (ci 0)),
ia 6 (.mv (ci 122))]) .ret) (.seq (.reg [
  ir 24 (.ld 2 true (.t 2)),
ir 25 (.call (.f 48) [(.t 24)]),
ir 26 (.fad 1 (.t 2)),
ir 27 (.ld 1 false (.t 26)),
ia 28 (.bin .geq (.t 25) (.t 27)),
ia 23 (.mv (.t 28))]) (.cond (.t 23) (.seq (.reg [
  ia 29 (.ld 2 true (.t 2)),
io (.st 2 (.t 4) (.t 29)),
ia 5 (.mv (ci 0)),
ia 6 (.mv (ci 121))]) .ret) .skip))))) (.seq (.reg [
  ia 30 (.ld 2 true (.t 2)),
ia 31 (.call (.f 98) [(.t 30)]),
io (.st 2 (.t 2) (.t 31))]) (.seq (.reg [
  ir 32 (.ld 6 true (.t 3)),
ir 33 (.call (.f 63) [(.t 32)]),
⟨(.some 34), .none, (.mslF 2 58 16 [(.p (.i .i64 0)), (.p (.i .i64 0))] (.t 33) (.t 33)), .ad⟩,
ir 35 (.fad 4 (.t 3)),
ir 36 (.ld 1 false (.t 35)),
ir 37 (.call (.f 110) [(.t 36)]),
ir 38 (.fad 5 (.t 3)),
io (.st 1 (.t 38) (.t 34)),
ia 39 (.fad 4 (.t 3)),
io (.st 1 (.t 39) (.t 37))]) (.seq (.reg [
  ia 40 (.fad 0 (.t 2)),
ia 41 (.ld 1 false (.t 40)),
ia 42 (.call (.f 111) [(.t 41), (.f 67)]),
ia 7 (.mv (.t 42))]) (.seq (.seq (.reg [
  ia 43 (.mv (.t 7)),
ia 44 (.bin .lss (.t 43) (ci 0))]) (.cond (.t 44) (.seq (.reg [
  ia 45 (.fad 0 (.t 2)),
ia 46 (.ld 1 false (.t 45)),
ia 47 (.len false (.t 46)),
ia 7 (.mv (.t 47))]) (.reg [
  ia 48 (.fad 0 (.t 2)),
ia 49 (.ld 1 false (.t 48)),
ia 50 (.ld 6 true (.t 3)),
ia 51 (.bsl 6 25 [(.p (.i .i64 0)), (.p (.i .i64 0)), (.p (.i .i64 0)), (.p (.s [])), .nil, .nil] 1 [(0, (.t 50))]),
ia 52 (.app 6 25 88 (.t 49) (.t 51)),
ia 53 (.fad 0 (.t 2)),
io (.st 1 (.t 53) (.t 52))])) .skip)) (.seq (.reg [
  ia 54 (.fad 0 (.t 2)),
ia 55 (.ld 1 false (.t 54)),
ia 56 (.mv (.t 7)),
ia 57 (.ld 6 true (.t 3)),
ia 58 (.ias 6 (.t 55) (.t 56)),
io (.st 6 (.t 58) (.t 57))]) (.seq (.reg [
  ia 59 (.ld 2 true (.t 2)),
ia 60 (.mv (.t 7)),
io (.st 2 (.t 4) (.t 59)),
ia 5 (.mv (.t 60)),
ia 6 (.mv (ci 0))]) .ret)))))))), [(.cell 4 2 true), (.tmp 5), (.tmp 6)]⟩
theorem cc96 : ccF Try.prog [(58, [0, 0]), (61, [1, 0]), (75, [0, 0]), (58, [9]), (91, [8]), (93, [8]), (72, [8]), (92, [8]), (76, [8])] Try.f96 = some (stripF F96) := by kernel_rfl

/- (*gossamer/act.stage).drop$1 -/
def F97b0 : C := (.seq (.reg [
  ia 8 (.bin .lss (.t 7) (.t 6))]) (.seq (.cond (.t 8) .skip (.exit 0)) (.seq (.block 1 (.seq (.reg [
  ia 9 (.mv (.t 7)),
ia 10 (.ias 2 (.t 5) (.t 7)),
ia 11 (.ld 2 true (.t 10)),
ia 4 (.new [(.p (.i .i64 0)), (.p (.i .i64 0))]),
ia 3 (.mv (.t 9)),
io (.st 2 (.t 4) (.t 11))]) (.reg [
  ir 12 (.ld 1 false (.t 1)),
ir 13 (.ld 2 true (.t 4)),
ir 14 (.ld 1 false (.t 2)),
ir 15 (.mv (.t 3)),
ir 16 (.ias 1 (.t 14) (.t 15)),
ir 17 (.ld 1 false (.t 16)),
ir 18 (.call (.f 66) [(.t 17), (ci 0)]),
ia 19 (.call (.f 71) [(.t 12), (.t 13), (.t 18)])]))) (.reg [
  ia 20 (.bin .add (.t 7) (ci 1)),
ia 7 (.mv (.t 20))]))))
def F97 : FnC := ⟨3, (.seq (.reg [
  ia 5 (.ld 1 false (.t 0)),
ia 6 (.len false (.t 5)),
ia 7 (.mv (ci 0))]) (.block 0 (.loop F97b0))), []⟩
theorem cc97 : ccF Try.prog [(58, [0, 0]), (61, [1, 0]), (75, [0, 0]), (58, [9]), (91, [8]), (93, [8]), (72, [8]), (92, [8]), (76, [8])] Try.f97 = some (stripF F97) := by kernel_rfl

/- gossamer/store.copied -/
def F98 : FnC := ⟨1, (.seq (.reg [
  ia 1 (.box 2 (.t 0)),
ia 2 (.new [.nil, (.p (.i .i64 0))])]) (.seq (.reg [
  ir 3 (.fad 0 (.t 1)),
ir 4 (.ld 1 false (.t 3)),
ir 5 (.len false (.t 4)),
ir 6 (.bin .add (.t 5) (ci 1)),
⟨(.some 7), .none, (.msl 6 25 88 [(.p (.i .i64 0)), (.p (.i .i64 0)), (.p (.i .i64 0)), (.p (.s [])), .nil, .nil] (ci 0) (.t 6)), .ad⟩,
ir 8 (.fad 0 (.t 1)),
ir 9 (.ld 1 false (.t 8)),
ia 10 (.app 6 25 88 (.t 7) (.t 9)),
ia 11 (.fad 0 (.t 1)),
io (.st 1 (.t 11) (.t 10))]) (.seq (.reg [
  ia 12 (.ld 2 true (.t 1)),
io (.st 2 (.t 2) (.t 12))]) .ret))), [(.cell 2 2 true)]⟩
theorem cc98 : ccF Try.prog [(58, [0, 0]), (61, [1, 0]), (75, [0, 0]), (58, [9]), (91, [8]), (93, [8]), (72, [8]), (92, [8]), (76, [8])] Try.f98 = some (stripF F98) := by kernel_rfl

/- gossamer/gossamerref06.con -/
def F99 : FnC := ⟨1, (.seq (.reg [
  ia 2 (.mv (.c (.a (.p (.b false)))))]) (.seq (.seq (.reg [
  ia 5 (.mv (.t 0)),
ia 6 (.bin .eql (.t 5) (.c (.a (.p (.s [])))))]) (.cond (.t 6) (.seq (.reg [
  ia 2 (.mv (.c (.a (.p (.b false)))))]) .ret) .skip)) (.seq (.reg [
  ia 8 (.mv (.t 0)),
ia 9 (.call (.f 112) [(.t 8), (ci 0)]),
ia 7 (.mv (.t 9)),
ia 10 (.ext (.t 7) 0),
ia 11 (.ext (.t 7) 1),
ia 3 (.new [(.p (.i .i64 0)), (.p (.s [])), (.p (.i .i64 0)), (.p (.i .i64 0))]),
io (.st 4 (.t 3) (.t 10)),
ia 4 (.mv (.t 11))]) (.seq (.reg [
  ia 12 (.mv (.t 4)),
ia 13 (.bin .eql (.t 12) (ci 0)),
ia 14 (.mv (.t 13)),
ig 15 14 true (.fad 0 (.t 3)),
ig 16 14 true (.ld 1 false (.t 15)),
ig 17 14 true (.bin .eql (.t 16) (ci 2)),
ia 18 (.pick (.t 14) (.t 17) (.c (.a (.p (.b false))))),
ia 19 (.mv (.t 18)),
ig 20 19 true (.fad 1 (.t 3)),
ig 21 19 true (.ld 1 false (.t 20)),
ig 22 19 true (.mv (.t 0)),
ig 23 19 true (.bin .eql (.t 21) (.t 22)),
ia 24 (.pick (.t 19) (.t 23) (.c (.a (.p (.b false))))),
ia 2 (.mv (.t 24))]) .ret)))), [(.tmp 2)]⟩
theorem cc99 : ccF Try.prog [(58, [0, 0]), (61, [1, 0]), (75, [0, 0]), (58, [9]), (91, [8]), (93, [8]), (72, [8]), (92, [8]), (76, [8])] Try.f99 = some (stripF F99) := by kernel_rfl

/- gossamer/gossamerref08.inst -/
def F100b0 : C := (.seq (.seq (.reg [
  ia 51 (.mv (.t 8)),
ia 52 (.fad 3 (.t 3)),
ia 53 (.ld 1 false (.t 52)),
ia 54 (.len false (.t 53)),
ia 55 (.bin .lss (.t 51) (.t 54))]) (.cond (.t 55) .skip (.exit 0))) (.seq (.block 1 (.reg [
  ir 58 (.fad 3 (.t 7)),
ir 59 (.ld 1 false (.t 58)),
ir 60 (.fad 3 (.t 3)),
ir 61 (.ld 1 false (.t 60)),
ir 62 (.mv (.t 8)),
ir 63 (.ias 4 (.t 61) (.t 62)),
ir 64 (.ld 4 true (.t 63)),
ir 65 (.mv (.t 1)),
ir 66 (.mv (.t 2)),
ir 67 (.ld 4 true (.t 3)),
ir 68 (.call (.f 102) [(.t 67)]),
ir 69 (.bin .add (.t 66) (.t 68)),
ir 70 (.call (.f 100) [(.t 64), (.t 65), (.t 69)]),
⟨(.some 71), .none, (.bsl 4 43 [(.p (.i .i64 0)), (.p (.i .i64 0)), (.p (.s [])), .nil] 1 [(0, (.t 70))]), .ad⟩,
ia 72 (.app 4 43 56 (.t 59) (.t 71)),
ia 73 (.fad 3 (.t 7)),
io (.st 1 (.t 73) (.t 72))])) (.reg [
  ia 56 (.mv (.t 8)),
ia 57 (.bin .add (.t 56) (ci 1)),
ia 8 (.mv (.t 57))])))
def F100 : FnC := ⟨3, (.seq (.reg [
  ia 3 (.box 4 (.t 0)),
ia 6 (.new [(.p (.i .i64 0)), (.p (.i .i64 0)), (.p (.s [])), .nil])]) (.seq (.seq (.reg [
  ia 9 (.fad 0 (.t 3)),
ia 10 (.ld 1 false (.t 9)),
ia 11 (.bin .eql (.t 10) (ci 1))]) (.cond (.t 11) (.seq (.seq (.reg [
  ia 12 (.fad 1 (.t 3)),
ia 13 (.ld 1 false (.t 12)),
ia 14 (.mv (.t 2)),
ia 15 (.bin .lss (.t 13) (.t 14))]) (.cond (.t 15) (.seq (.reg [
  ia 16 (.ld 4 true (.t 3)),
io (.st 4 (.t 6) (.t 16))]) .ret) .skip)) (.seq (.seq (.reg [
  ia 17 (.fad 1 (.t 3)),
ia 18 (.ld 1 false (.t 17)),
ia 19 (.mv (.t 2)),
ia 20 (.mv (.t 1)),
ia 21 (.len false (.t 20)),
ia 22 (.bin .add (.t 19) (.t 21)),
ia 23 (.bin .lss (.t 18) (.t 22))]) (.cond (.t 23) (.seq (.reg [
  ia 24 (.mv (.t 1)),
ia 25 (.mv (.t 1)),
ia 26 (.len false (.t 25)),
ia 27 (.bin .sub (.t 26) (ci 1)),
ia 28 (.fad 1 (.t 3)),
ia 29 (.ld 1 false (.t 28)),
ia 30 (.mv (.t 2)),
ia 31 (.bin .sub (.t 29) (.t 30)),
ia 32 (.bin .sub (.t 27) (.t 31)),
ia 33 (.ias 4 (.t 24) (.t 32)),
ia 34 (.ld 4 true (.t 33)),
ia 35 (.mv (.t 2)),
ia 36 (.call (.f 101) [(.t 34), (.t 35), (ci 0)]),
io (.st 4 (.t 6) (.t 36))]) .ret) .skip)) (.seq (.reg [
  ia 37 (.fad 1 (.t 3)),
ia 38 (.ld 1 false (.t 37)),
ia 39 (.mv (.t 1)),
ia 40 (.len false (.t 39)),
ia 41 (.bin .sub (.t 38) (.t 40)),
ia 42 (.fad 1 (.t 3)),
io (.st 1 (.t 42) (.t 41))]) (.seq (.reg [
  ia 43 (.ld 4 true (.t 3)),
io (.st 4 (.t 6) (.t 43))]) .ret)))) .skip)) (.seq (.reg [
  ia 44 (.fad 0 (.t 3)),
ia 45 (.ld 1 false (.t 44)),
ia 46 (.fad 1 (.t 3)),
ia 47 (.ld 1 false (.t 46)),
ia 48 (.fad 2 (.t 3)),
ia 49 (.ld 1 false (.t 48)),
ia 50 (.build [(.p (.i .i64 0)), (.p (.i .i64 0)), (.p (.s [])), .nil] [(0, (1, (.t 45))), (1, (1, (.t 47))), (2, (1, (.t 49)))]),
ia 7 (.new [(.p (.i .i64 0)), (.p (.i .i64 0)), (.p (.s [])), .nil]),
io (.st 4 (.t 7) (.t 50))]) (.seq (.seq (.reg [
  ia 8 (.mv (ci 0))]) (.block 0 (.loop F100b0))) (.seq (.reg [
  ia 74 (.ld 4 true (.t 7)),
io (.st 4 (.t 6) (.t 74))]) .ret))))), [(.cell 6 4 true)]⟩
theorem cc100 : ccF Try.prog [(58, [0, 0]), (61, [1, 0]), (75, [0, 0]), (58, [9]), (91, [8]), (93, [8]), (72, [8]), (92, [8]), (76, [8])] Try.f100 = some (stripF F100) := by kernel_rfl

/- gossamer/gossamerref08.Up -/
def F101b0 : C := (.seq (.seq (.reg [
  ia 29 (.mv (.t 8)),
ia 30 (.fad 3 (.t 3)),
ia 31 (.ld 1 false (.t 30)),
ia 32 (.len false (.t 31)),
ia 33 (.bin .lss (.t 29) (.t 32))]) (.cond (.t 33) .skip (.exit 0))) (.seq (.block 1 (.reg [
  ir 36 (.fad 3 (.t 7)),
ir 37 (.ld 1 false (.t 36)),
ir 38 (.fad 3 (.t 3)),
ir 39 (.ld 1 false (.t 38)),
ir 40 (.mv (.t 8)),
ir 41 (.ias 4 (.t 39) (.t 40)),
ir 42 (.ld 4 true (.t 41)),
ir 43 (.mv (.t 1)),
ir 44 (.mv (.t 2)),
ir 45 (.ld 4 true (.t 3)),
ir 46 (.call (.f 102) [(.t 45)]),
ir 47 (.bin .add (.t 44) (.t 46)),
ir 48 (.call (.f 101) [(.t 42), (.t 43), (.t 47)]),
⟨(.some 49), .none, (.bsl 4 43 [(.p (.i .i64 0)), (.p (.i .i64 0)), (.p (.s [])), .nil] 1 [(0, (.t 48))]), .ad⟩,
ia 50 (.app 4 43 56 (.t 37) (.t 49)),
ia 51 (.fad 3 (.t 7)),
io (.st 1 (.t 51) (.t 50))])) (.reg [
  ia 34 (.mv (.t 8)),
ia 35 (.bin .add (.t 34) (ci 1)),
ia 8 (.mv (.t 35))])))
def F101 : FnC := ⟨3, (.seq (.reg [
  ia 3 (.box 4 (.t 0)),
ia 6 (.new [(.p (.i .i64 0)), (.p (.i .i64 0)), (.p (.s [])), .nil])]) (.seq (.seq (.reg [
  ia 9 (.fad 0 (.t 3)),
ia 10 (.ld 1 false (.t 9)),
ia 11 (.bin .eql (.t 10) (ci 1))]) (.cond (.t 11) (.seq (.seq (.reg [
  ia 12 (.fad 1 (.t 3)),
ia 13 (.ld 1 false (.t 12)),
ia 14 (.mv (.t 2)),
ia 15 (.bin .geq (.t 13) (.t 14))]) (.cond (.t 15) (.reg [
  ia 16 (.fad 1 (.t 3)),
ia 17 (.ld 1 false (.t 16)),
ia 18 (.mv (.t 1)),
ia 19 (.bin .add (.t 17) (.t 18)),
ia 20 (.fad 1 (.t 3)),
io (.st 1 (.t 20) (.t 19))]) .skip)) (.seq (.reg [
  ia 21 (.ld 4 true (.t 3)),
io (.st 4 (.t 6) (.t 21))]) .ret)) .skip)) (.seq (.reg [
  ia 22 (.fad 0 (.t 3)),
ia 23 (.ld 1 false (.t 22)),
ia 24 (.fad 1 (.t 3)),
ia 25 (.ld 1 false (.t 24)),
ia 26 (.fad 2 (.t 3)),
ia 27 (.ld 1 false (.t 26)),
ia 28 (.build [(.p (.i .i64 0)), (.p (.i .i64 0)), (.p (.s [])), .nil] [(0, (1, (.t 23))), (1, (1, (.t 25))), (2, (1, (.t 27)))]),
ia 7 (.new [(.p (.i .i64 0)), (.p (.i .i64 0)), (.p (.s [])), .nil]),
io (.st 4 (.t 7) (.t 28))]) (.seq (.seq (.reg [
  ia 8 (.mv (ci 0))]) (.block 0 (.loop F101b0))) (.seq (.reg [
  ia 52 (.ld 4 true (.t 7)),
io (.st 4 (.t 6) (.t 52))]) .ret))))), [(.cell 6 4 true)]⟩
theorem cc101 : ccF Try.prog [(58, [0, 0]), (61, [1, 0]), (75, [0, 0]), (58, [9]), (91, [8]), (93, [8]), (72, [8]), (92, [8]), (76, [8])] Try.f101 = some (stripF F101) := by kernel_rfl

/- gossamer/gossamerref08.more -/
def F102 : FnC := ⟨1, (.seq (.reg [
  ia 1 (.box 4 (.t 0)),
ia 2 (.mv (ci 0))]) (.seq (.seq (.reg [
  ia 3 (.fad 0 (.t 1)),
ia 4 (.ld 1 false (.t 3)),
ia 5 (.bin .eql (.t 4) (ci 2))]) (.cond (.t 5) (.seq (.reg [
  ia 2 (.mv (ci 1))]) .ret) .skip)) (.seq (.seq (.reg [
  ia 6 (.fad 0 (.t 1)),
ia 7 (.ld 1 false (.t 6)),
ia 8 (.bin .eql (.t 7) (ci 6))]) (.cond (.t 8) (.seq (.reg [
  ia 9 (.fad 1 (.t 1)),
ia 10 (.ld 1 false (.t 9)),
ia 2 (.mv (.t 10))]) .ret) .skip)) (.seq (.reg [
  ia 2 (.mv (ci 0))]) .ret)))), [(.tmp 2)]⟩
theorem cc102 : ccF Try.prog [(58, [0, 0]), (61, [1, 0]), (75, [0, 0]), (58, [9]), (91, [8]), (93, [8]), (72, [8]), (92, [8]), (76, [8])] Try.f102 = some (stripF F102) := by kernel_rfl

/- gossamer/store.alternatives$1 -/
def F103 : FnC := ⟨2, (.seq (.reg [
  ia 2 (.box 2 (.t 0)),
ia 3 (.mv (.c (.a (.p (.b false)))))]) (.seq (.reg [
  ia 4 (.fad 0 (.t 2)),
ia 5 (.ld 1 false (.t 4)),
ia 6 (.fad 0 (.t 1)),
ia 7 (.ld 1 false (.t 6)),
ia 8 (.bin .eql (.t 5) (.t 7)),
ia 3 (.mv (.t 8))]) .ret)), [(.tmp 3)]⟩
theorem cc103 : ccF Try.prog [(58, [0, 0]), (61, [1, 0]), (75, [0, 0]), (58, [9]), (91, [8]), (93, [8]), (72, [8]), (92, [8]), (76, [8])] Try.f103 = some (stripF F103) := by kernel_rfl

/- slices.ContainsFunc[[]gossamer/api.Arity,gossamer/api.Arity] -/
def F104 : FnC := ⟨2, (.seq (.reg [
  ia 4 (.mv (.c (.a (.p (.b false)))))]) (.seq (.reg [
  ia 5 (.mv (.t 0)),
ia 6 (.mv (.t 1)),
ia 7 (.call (.f 79) [(.t 5), (.t 6)]),
ia 8 (.bin .geq (.t 7) (ci 0)),
ia 4 (.mv (.t 8))]) .ret)), [(.tmp 4)]⟩
theorem cc104 : ccF Try.prog [(58, [0, 0]), (61, [1, 0]), (75, [0, 0]), (58, [9]), (91, [8]), (93, [8]), (72, [8]), (92, [8]), (76, [8])] Try.f104 = some (stripF F104) := by kernel_rfl

/- slices.ContainsFunc[[]gossamer/api.Port,gossamer/api.Port] -/
def F105 : FnC := ⟨2, (.seq (.reg [
  ia 4 (.mv (.c (.a (.p (.b false)))))]) (.seq (.reg [
  ia 5 (.mv (.t 0)),
ia 6 (.mv (.t 1)),
ia 7 (.call (.f 113) [(.t 5), (.t 6)]),
ia 8 (.bin .geq (.t 7) (ci 0)),
ia 4 (.mv (.t 8))]) .ret)), [(.tmp 4)]⟩
theorem cc105 : ccF Try.prog [(58, [0, 0]), (61, [1, 0]), (75, [0, 0]), (58, [9]), (91, [8]), (93, [8]), (72, [8]), (92, [8]), (76, [8])] Try.f105 = some (stripF F105) := by kernel_rfl

/- (gossamer/wire.net).there$1 -/
def F106 : FnC := ⟨2, (.seq (.reg [
  ia 2 (.box 2 (.t 0)),
ia 3 (.mv (.c (.a (.p (.b false)))))]) (.seq (.reg [
  ia 4 (.fad 0 (.t 2)),
ia 5 (.ld 1 false (.t 4)),
ia 6 (.bin .lss (.t 5) (ci 0)),
ia 7 (.mv (.t 6)),
ih 8 7 false (.fad 0 (.t 2)),
ih 9 7 false (.ld 1 false (.t 8)),
ih 10 7 false (.fad 0 (.t 1)),
ih 11 7 false (.fad 0 (.t 10)),
ih 12 7 false (.ld 1 false (.t 11)),
ih 13 7 false (.len false (.t 12)),
ig 14 7 false (.bin .geq (.t 9) (.t 13)),
ia 15 (.pick (.t 7) (.c (.a (.p (.b true)))) (.t 14)),
ia 16 (.mv (.t 15)),
ig 17 16 false (.fad 1 (.t 2)),
ig 18 16 false (.ld 1 false (.t 17)),
ig 19 16 false (.bin .lss (.t 18) (ci 0)),
ia 20 (.pick (.t 16) (.c (.a (.p (.b true)))) (.t 19)),
ia 21 (.mv (.t 20)),
ih 22 21 false (.fad 1 (.t 2)),
ih 23 21 false (.ld 1 false (.t 22)),
ih 24 21 false (.fad 0 (.t 1)),
ih 25 21 false (.fad 0 (.t 24)),
ih 26 21 false (.ld 1 false (.t 25)),
ih 27 21 false (.fad 0 (.t 2)),
ih 28 21 false (.ld 1 false (.t 27)),
ih 29 21 false (.ias 6 (.t 26) (.t 28)),
ih 30 21 false (.fad 5 (.t 29)),
ih 31 21 false (.ld 1 false (.t 30)),
ih 32 21 false (.len false (.t 31)),
ig 33 21 false (.bin .geq (.t 23) (.t 32)),
ia 34 (.pick (.t 21) (.c (.a (.p (.b true)))) (.t 33)),
ia 3 (.mv (.t 34))]) .ret)), [(.tmp 3)]⟩
theorem cc106 : ccF Try.prog [(58, [0, 0]), (61, [1, 0]), (75, [0, 0]), (58, [9]), (91, [8]), (93, [8]), (72, [8]), (92, [8]), (76, [8])] Try.f106 = some (stripF F106) := by kernel_rfl

/- gossamer/wire.Join -/
def F107 : FnC := ⟨3, (.seq (.reg [
  ia 3 (.box 2 (.t 0)),
ia 4 (.box 2 (.t 1)),
ia 5 (.box 2 (.t 2)),
ia 6 (.new [.nil, (.p (.i .i64 0))]),
ia 7 (.mv (ci 0))]) (.seq (.reg [
  ia 9 (.ld 2 true (.t 3)),
ia 10 (.build [.nil, (.p (.i .i64 0))] [(0, (2, (.t 9)))]),
ia 8 (.new [.nil, (.p (.i .i64 0))]),
io (.st 2 (.t 8) (.t 10))]) (.seq (.block 0 (.seq (.reg [
  ir 12 (.ld 2 true (.t 8)),
ir 13 (.ld 2 true (.t 4)),
ir 14 (.ld 2 true (.t 5)),
⟨(.some 15), .none, (.bsl 2 58 [(.p (.i .i64 0)), (.p (.i .i64 0))] 2 [(0, (.t 13)), (1, (.t 14))]), .ad⟩,
ia 16 (.call (.f 88) [(.t 12), (.t 15)]),
ia 17 (.not (.t 16)),
ia 18 (.mv (.t 17)),
ih 19 18 false (.ld 2 true (.t 4)),
ih 20 18 false (.ld 2 true (.t 5)),
ig 21 18 false (.eqg false [0, 0] (.t 19) (.t 20)),
ia 22 (.pick (.t 18) (.c (.a (.p (.b true)))) (.t 21)),
ia 23 (.mv (.t 22)),
ih 24 23 false (.ld 2 true (.t 8)),
ih 25 23 false (.ld 2 true (.t 8)),
ih 26 23 false (.ld 2 true (.t 4)),
ih 27 23 false (.call (.f 89) [(.t 25), (.t 26)]),
ih 28 23 false (.ld 2 true (.t 8)),
ih 29 23 false (.ld 2 true (.t 5)),
ih 30 23 false (.call (.f 89) [(.t 28), (.t 29)]),
⟨(.some 31), (.some (23, false)), (.bsl 2 58 [(.p (.i .i64 0)), (.p (.i .i64 0))] 2 [(0, (.t 27)), (1, (.t 30))]), .ad⟩,
ig 32 23 false (.call (.f 88) [(.t 24), (.t 31)]),
ig 33 23 false (.not (.t 32)),
ia 34 (.pick (.t 23) (.c (.a (.p (.b true)))) (.t 33)),
ia 11 (.mv (.t 34))]) (.cond (.t 11) (.seq (.reg [
  ia 35 (.ld 2 true (.t 3)),
io (.st 2 (.t 6) (.t 35)),
ia 7 (.mv (ci 130))]) .ret) (.seq (.reg [
  ir 37 (.ld 2 true (.t 8)),
ir 38 (.ld 2 true (.t 4)),
ir 39 (.call (.f 89) [(.t 37), (.t 38)]),
ir 40 (.ld 2 true (.t 5)),
ia 41 (.eqg false [0, 0] (.t 39) (.t 40)),
ia 36 (.mv (.t 41))]) (.cond (.t 36) (.seq (.reg [
  ia 42 (.ld 2 true (.t 3)),
io (.st 2 (.t 6) (.t 42)),
ia 7 (.mv (ci 0))]) .ret) .skip))))) (.seq (.reg [
  ir 43 (.ld 2 true (.t 8)),
ir 44 (.ld 2 true (.t 8)),
ir 45 (.ld 2 true (.t 4)),
ir 46 (.call (.f 89) [(.t 44), (.t 45)]),
ir 47 (.ld 2 true (.t 8)),
ir 48 (.ld 2 true (.t 5)),
ir 49 (.call (.f 89) [(.t 47), (.t 48)]),
ia 50 (.call (.f 109) [(.t 43), (.t 46), (.t 49)]),
ir 51 (.ext (.t 50) 0),
ir 52 (.ext (.t 50) 1),
io (.st 2 (.t 6) (.t 51)),
ia 7 (.mv (.t 52))]) .ret)))), [(.cell 6 2 true), (.tmp 7)]⟩
theorem cc107 : ccF Try.prog [(58, [0, 0]), (61, [1, 0]), (75, [0, 0]), (58, [9]), (91, [8]), (93, [8]), (72, [8]), (92, [8]), (76, [8])] Try.f107 = some (stripF F107) := by kernel_rfl

/- gossamer/wire.Link -/
def F108 : FnC := ⟨3, (.seq (.reg [
  ia 3 (.box 2 (.t 0)),
ia 4 (.box 2 (.t 1)),
ia 5 (.box 2 (.t 2)),
ia 6 (.new [.nil, (.p (.i .i64 0))]),
ia 7 (.mv (ci 0))]) (.seq (.reg [
  ia 8 (.ld 2 true (.t 3)),
ia 9 (.build [.nil, (.p (.i .i64 0))] [(0, (2, (.t 8)))]),
ia 10 (.ld 2 true (.t 4)),
ia 11 (.ld 2 true (.t 5)),
ia 12 (.call (.f 109) [(.t 9), (.t 10), (.t 11)]),
ia 13 (.ext (.t 12) 0),
ia 14 (.ext (.t 12) 1),
io (.st 2 (.t 6) (.t 13)),
ia 7 (.mv (.t 14))]) .ret)), [(.cell 6 2 true), (.tmp 7)]⟩
theorem cc108 : ccF Try.prog [(58, [0, 0]), (61, [1, 0]), (75, [0, 0]), (58, [9]), (91, [8]), (93, [8]), (72, [8]), (92, [8]), (76, [8])] Try.f108 = some (stripF F108) := by kernel_rfl

/- (gossamer/wire.net).link -/
def F109 : FnC := ⟨3, (.seq (.reg [
  ia 3 (.box 2 (.t 0)),
ia 4 (.box 2 (.t 1)),
ia 5 (.box 2 (.t 2)),
ia 6 (.new [.nil, (.p (.i .i64 0))]),
ia 7 (.mv (ci 0))]) (.seq (.seq (.reg [
  ia 8 (.ld 2 true (.t 3)),
ia 9 (.ld 2 true (.t 4)),
ia 10 (.ld 2 true (.t 5)),
ia 11 (.bsl 2 58 [(.p (.i .i64 0)), (.p (.i .i64 0))] 2 [(0, (.t 9)), (1, (.t 10))]),
ia 12 (.call (.f 88) [(.t 8), (.t 11)]),
ia 13 (.not (.t 12)),
ia 14 (.mv (.t 13)),
ig 15 14 false (.ld 2 true (.t 4)),
ig 16 14 false (.ld 2 true (.t 5)),
ig 17 14 false (.eqg false [0, 0] (.t 15) (.t 16)),
ia 18 (.pick (.t 14) (.c (.a (.p (.b true)))) (.t 17))]) (.cond (.t 18) (.seq (.reg [
  ia 19 (.fad 0 (.t 3)),
ia 20 (.ld 2 true (.t 19)),
io (.st 2 (.t 6) (.t 20)),
ia 7 (.mv (ci 130))]) .ret) .skip)) (.seq (.reg [
  ir 21 (.ld 2 true (.t 3)),
ir 22 (.ld 2 true (.t 4)),
ir 23 (.ld 2 true (.t 5)),
ir 24 (.call (.f 114) [(.t 21), (.t 22), (.t 23)]),
ir 25 (.ld 2 true (.t 5)),
ir 26 (.ld 2 true (.t 4)),
ia 27 (.call (.f 114) [(.t 24), (.t 25), (.t 26)]),
ia 28 (.fld 0 2 true (.t 27)),
io (.st 2 (.t 6) (.t 28)),
ia 7 (.mv (ci 0))]) .ret))), [(.cell 6 2 true), (.tmp 7)]⟩
theorem cc109 : ccF Try.prog [(58, [0, 0]), (61, [1, 0]), (75, [0, 0]), (58, [9]), (91, [8]), (93, [8]), (72, [8]), (92, [8]), (76, [8])] Try.f109 = some (stripF F109) := by kernel_rfl

/- slices.Clone[[]gossamer/api.Arity,gossamer/api.Arity] -/
def F110 : FnC := ⟨1, (.seq (.reg [
  ia 2 (.mv (.c (.a .nil)))]) (.seq (.seq (.reg [
  ia 3 (.mv (.t 0)),
ia 4 (.nq false (.t 3))]) (.cond (.t 4) (.seq (.reg [
  ia 2 (.mv (.c (.a .nil)))]) .ret) .skip)) (.seq (.reg [
  ia 5 (.bsl 2 61 [(.p (.s [])), (.p (.i .i64 0))] 0 []),
ia 6 (.mv (.t 0)),
ia 7 (.app 2 61 24 (.t 5) (.t 6)),
ia 2 (.mv (.t 7))]) .ret))), [(.tmp 2)]⟩
theorem cc110 : ccF Try.prog [(58, [0, 0]), (61, [1, 0]), (75, [0, 0]), (58, [9]), (91, [8]), (93, [8]), (72, [8]), (92, [8]), (76, [8])] Try.f110 = some (stripF F110) := by kernel_rfl

/- slices.IndexFunc[[]gossamer/api.Node,gossamer/api.Node] -/
def F111b0 : C := (.seq (.reg [
  ia 9 (.bin .lss (.t 8) (.t 7))]) (.seq (.cond (.t 9) .skip (.exit 0)) (.seq (.block 1 (.seq (.reg [
  ia 10 (.mv (.t 8)),
ia 5 (.mv (.t 10))]) (.seq (.reg [
  ia 11 (.mv (.t 1)),
ia 12 (.mv (.t 0)),
ia 13 (.mv (.t 5)),
ia 14 (.ias 6 (.t 12) (.t 13)),
ia 15 (.ld 6 true (.t 14)),
ia 16 (.call (.t 11) [(.t 15)])]) (.cond (.t 16) (.seq (.reg [
  ia 17 (.mv (.t 5)),
ia 4 (.mv (.t 17))]) .ret) .skip)))) (.reg [
  ia 18 (.bin .add (.t 8) (ci 1)),
ia 8 (.mv (.t 18))]))))
def F111 : FnC := ⟨2, (.seq (.reg [
  ia 4 (.mv (ci 0))]) (.seq (.seq (.reg [
  ia 6 (.mv (.t 0)),
ia 7 (.len false (.t 6)),
ia 8 (.mv (ci 0))]) (.block 0 (.loop F111b0))) (.seq (.reg [
  ia 4 (.mv (.c (.a (.p (.i .i64 (-1))))))]) .ret))), [(.tmp 4)]⟩
theorem cc111 : ccF Try.prog [(58, [0, 0]), (61, [1, 0]), (75, [0, 0]), (58, [9]), (91, [8]), (93, [8]), (72, [8]), (92, [8]), (76, [8])] Try.f111 = some (stripF F111) := by kernel_rfl

/- gossamer/gossamerref01.One -/
def F112 : FnC := ⟨2, (.seq (.reg [
  ia 4 (.new [(.p (.i .i64 0)), (.p (.s [])), (.p (.i .i64 0)), (.p (.i .i64 0))]),
ia 5 (.mv (ci 0))]) (.seq (.reg [
  ia 12 (.mv (.t 0)),
ia 13 (.mv (.t 1)),
ia 14 (.call (.f 115) [(.t 12), (.t 13)]),
ia 11 (.mv (.t 14)),
ia 15 (.ext (.t 11) 0),
ia 16 (.ext (.t 11) 1),
ia 6 (.mv (.t 15)),
ia 7 (.mv (.t 16))]) (.seq (.seq (.reg [
  ia 17 (.mv (.t 6)),
ia 18 (.bin .eql (.t 17) (ci 0))]) (.cond (.t 18) (.seq (.reg [
  ia 19 (.mv (.t 0)),
ia 20 (.mv (.t 1)),
ia 21 (.call (.f 116) [(.t 19), (.t 20)]),
ia 8 (.mv (.t 21))]) (.seq (.seq (.reg [
  ia 22 (.mv (.t 8)),
ia 23 (.bin .eql (.t 22) (ci 0))]) (.cond (.t 23) (.seq (.reg [
  ia 24 (.build [(.p (.i .i64 0)), (.p (.s [])), (.p (.i .i64 0)), (.p (.i .i64 0))] []),
io (.st 4 (.t 4) (.t 24)),
ia 5 (.mv (ci 10))]) .ret) .skip)) (.seq (.reg [
  ia 25 (.mv (.t 0)),
ia 26 (.mv (.t 1)),
ia 27 (.mv (.t 1)),
ia 28 (.mv (.t 8)),
ia 29 (.bin .add (.t 27) (.t 28)),
ia 30 (.sub (.t 25) (.some (.t 26)) (.some (.t 29))),
ia 31 (.mv (.t 1)),
ia 32 (.build [(.p (.i .i64 0)), (.p (.s [])), (.p (.i .i64 0)), (.p (.i .i64 0))] [(0, (1, (ci 5))), (1, (1, (.t 30))), (3, (1, (.t 31)))]),
io (.st 4 (.t 4) (.t 32)),
ia 5 (.mv (ci 0))]) .ret))) .skip)) (.seq (.reg [
  ia 33 (.mv (.t 0)),
ia 34 (.mv (.t 1)),
ia 35 (.mv (.t 1)),
ia 36 (.mv (.t 6)),
ia 37 (.bin .add (.t 35) (.t 36)),
ia 38 (.sub (.t 33) (.some (.t 34)) (.some (.t 37))),
ia 39 (.mv (.t 1)),
ia 40 (.build [(.p (.i .i64 0)), (.p (.s [])), (.p (.i .i64 0)), (.p (.i .i64 0))] [(1, (1, (.t 38))), (3, (1, (.t 39)))]),
ia 9 (.new [(.p (.i .i64 0)), (.p (.s [])), (.p (.i .i64 0)), (.p (.i .i64 0))]),
io (.st 4 (.t 9) (.t 40))]) (.seq (.reg [
  ia 41 (.mv (.t 0)),
ia 42 (.mv (.t 1)),
ia 43 (.ixs (.t 41) (.t 42)),
ia 44 (.call (.f 117) [(.t 43)]),
ia 10 (.mv (.t 44))]) (.seq (.seq (.reg [
  ia 45 (.mv (.t 10)),
ia 46 (.bin .eql (.t 45) (ci 3))]) (.cond (.t 46) (.seq (.seq (.reg [
  ia 47 (.mv (.t 7))]) (.cond (.t 47) (.seq (.reg [
  ia 48 (.build [(.p (.i .i64 0)), (.p (.s [])), (.p (.i .i64 0)), (.p (.i .i64 0))] []),
io (.st 4 (.t 4) (.t 48)),
ia 5 (.mv (ci 10))]) .ret) .skip)) (.seq (.seq (.reg [
  ia 49 (.mv (.t 6)),
ia 50 (.bin .gtr (.t 49) (ci 18)),
ia 51 (.mv (.t 50)),
ig 52 51 false (.mv (.t 6)),
ig 53 51 false (.bin .gtr (.t 52) (ci 1)),
ig 54 51 false (.mv (.t 53)),
ig 55 54 true (.mv (.t 0)),
ig 56 54 true (.mv (.t 1)),
ig 57 54 true (.ixs (.t 55) (.t 56)),
ig 58 54 true (.bin .eql (.t 57) (.c (.a (.p (.i .u8 48))))),
ig 59 51 false (.pick (.t 54) (.t 58) (.c (.a (.p (.b false))))),
ia 60 (.pick (.t 51) (.c (.a (.p (.b true)))) (.t 59))]) (.cond (.t 60) (.seq (.reg [
  ia 61 (.build [(.p (.i .i64 0)), (.p (.s [])), (.p (.i .i64 0)), (.p (.i .i64 0))] []),
io (.st 4 (.t 4) (.t 61)),
ia 5 (.mv (ci 11))]) .ret) .skip)) (.seq (.reg [
  ia 62 (.fad 0 (.t 9)),
io (.st 1 (.t 62) (ci 3))]) (.seq (.reg [
  ia 63 (.fad 1 (.t 9)),
ia 64 (.ld 1 false (.t 63)),
ia 65 (.call (.f 118) [(.t 64)]),
ia 66 (.fad 2 (.t 9)),
io (.st 1 (.t 66) (.t 65))]) (.seq (.reg [
  ia 67 (.ld 4 true (.t 9)),
io (.st 4 (.t 4) (.t 67)),
ia 5 (.mv (ci 0))]) .ret))))) .skip)) (.seq (.seq (.reg [
  ia 68 (.mv (.t 6)),
ia 69 (.bin .gtr (.t 68) (ci 16))]) (.cond (.t 69) (.seq (.reg [
  ia 70 (.build [(.p (.i .i64 0)), (.p (.s [])), (.p (.i .i64 0)), (.p (.i .i64 0))] []),
io (.st 4 (.t 4) (.t 70)),
ia 5 (.mv (ci 11))]) .ret) .skip)) (.seq (.reg [
  ia 71 (.mv (.t 10)),
ia 72 (.fad 0 (.t 9)),
io (.st 1 (.t 72) (.t 71))]) (.seq (.seq (.reg [
  ia 73 (.fad 1 (.t 9)),
ia 74 (.ld 1 false (.t 73)),
ia 75 (.call (.f 119) [(.t 74)])]) (.cond (.t 75) (.reg [
  ia 76 (.fad 0 (.t 9)),
io (.st 1 (.t 76) (ci 4))]) .skip)) (.seq (.reg [
  ia 77 (.ld 4 true (.t 9)),
io (.st 4 (.t 4) (.t 77)),
ia 5 (.mv (ci 0))]) .ret)))))))))), [(.cell 4 4 true), (.tmp 5)]⟩
theorem cc112 : ccF Try.prog [(58, [0, 0]), (61, [1, 0]), (75, [0, 0]), (58, [9]), (91, [8]), (93, [8]), (72, [8]), (92, [8]), (76, [8])] Try.f112 = some (stripF F112) := by kernel_rfl

/- slices.IndexFunc[[]gossamer/api.Port,gossamer/api.Port] -/
def F113b0 : C := (.seq (.reg [
  ia 9 (.bin .lss (.t 8) (.t 7))]) (.seq (.cond (.t 9) .skip (.exit 0)) (.seq (.block 1 (.seq (.reg [
  ia 10 (.mv (.t 8)),
ia 5 (.mv (.t 10))]) (.seq (.reg [
  ia 11 (.mv (.t 1)),
ia 12 (.mv (.t 0)),
ia 13 (.mv (.t 5)),
ia 14 (.ias 2 (.t 12) (.t 13)),
ia 15 (.ld 2 true (.t 14)),
ia 16 (.call (.t 11) [(.t 15)])]) (.cond (.t 16) (.seq (.reg [
  ia 17 (.mv (.t 5)),
ia 4 (.mv (.t 17))]) .ret) .skip)))) (.reg [
  ia 18 (.bin .add (.t 8) (ci 1)),
ia 8 (.mv (.t 18))]))))
def F113 : FnC := ⟨2, (.seq (.reg [
  ia 4 (.mv (ci 0))]) (.seq (.seq (.reg [
  ia 6 (.mv (.t 0)),
ia 7 (.len false (.t 6)),
ia 8 (.mv (ci 0))]) (.block 0 (.loop F113b0))) (.seq (.reg [
  ia 4 (.mv (.c (.a (.p (.i .i64 (-1))))))]) .ret))), [(.tmp 4)]⟩
theorem cc113 : ccF Try.prog [(58, [0, 0]), (61, [1, 0]), (75, [0, 0]), (58, [9]), (91, [8]), (93, [8]), (72, [8]), (92, [8]), (76, [8])] Try.f113 = some (stripF F113) := by kernel_rfl

/- (gossamer/wire.net).with -/
def F114 : FnC := ⟨3, (.seq (.reg [
  ia 3 (.box 2 (.t 0)),
ia 4 (.box 2 (.t 1)),
ia 5 (.box 2 (.t 2)),
ia 6 (.new [.nil, (.p (.i .i64 0))])]) (.seq (.reg [
  ia 8 (.fad 0 (.t 3)),
ia 9 (.fad 0 (.t 8)),
ia 10 (.ld 1 false (.t 9)),
ia 11 (.fad 0 (.t 4)),
ia 12 (.ld 1 false (.t 11)),
ia 13 (.ias 6 (.t 10) (.t 12)),
ia 14 (.ld 6 true (.t 13)),
ia 7 (.new [(.p (.i .i64 0)), (.p (.i .i64 0)), (.p (.i .i64 0)), (.p (.s [])), .nil, .nil]),
io (.st 6 (.t 7) (.t 14))]) (.seq (.reg [
  ia 15 (.fad 5 (.t 7)),
ia 16 (.ld 1 false (.t 15)),
ia 17 (.call (.f 120) [(.t 16)]),
ia 18 (.fad 5 (.t 7)),
io (.st 1 (.t 18) (.t 17))]) (.seq (.reg [
  ia 19 (.fad 5 (.t 7)),
ia 20 (.ld 1 false (.t 19)),
ia 21 (.fad 1 (.t 4)),
ia 22 (.ld 1 false (.t 21)),
ia 23 (.ld 2 true (.t 5)),
ia 24 (.ias 2 (.t 20) (.t 22)),
io (.st 2 (.t 24) (.t 23))]) (.seq (.reg [
  ia 25 (.fad 0 (.t 3)),
ia 26 (.fad 0 (.t 25)),
ia 27 (.ld 1 false (.t 26)),
ia 28 (.call (.f 121) [(.t 27)]),
ia 29 (.fad 0 (.t 3)),
ia 30 (.fad 0 (.t 29)),
io (.st 1 (.t 30) (.t 28))]) (.seq (.reg [
  ia 31 (.fad 0 (.t 3)),
ia 32 (.fad 0 (.t 31)),
ia 33 (.ld 1 false (.t 32)),
ia 34 (.fad 0 (.t 4)),
ia 35 (.ld 1 false (.t 34)),
ia 36 (.ld 6 true (.t 7)),
ia 37 (.ias 6 (.t 33) (.t 35)),
io (.st 6 (.t 37) (.t 36))]) (.seq (.reg [
  ia 38 (.ld 2 true (.t 3)),
io (.st 2 (.t 6) (.t 38))]) .ret))))))), [(.cell 6 2 true)]⟩
theorem cc114 : ccF Try.prog [(58, [0, 0]), (61, [1, 0]), (75, [0, 0]), (58, [9]), (91, [8]), (93, [8]), (72, [8]), (92, [8]), (76, [8])] Try.f114 = some (stripF F114) := by kernel_rfl

/- gossamer/gossamerref01.run -/
def F115b0 : C := (.seq (.seq (.reg [
  ia 9 (.mv (.t 1)),
ia 10 (.mv (.t 6)),
ia 11 (.bin .add (.t 9) (.t 10)),
ia 12 (.mv (.t 0)),
ia 13 (.len true (.t 12)),
ia 14 (.bin .lss (.t 11) (.t 13))]) (.cond (.t 14) .skip (.exit 0))) (.block 1 (.seq (.reg [
  ia 15 (.mv (.t 0)),
ia 16 (.mv (.t 1)),
ia 17 (.mv (.t 6)),
ia 18 (.bin .add (.t 16) (.t 17)),
ia 19 (.ixs (.t 15) (.t 18)),
ia 20 (.call (.f 117) [(.t 19)]),
ia 8 (.mv (.t 20))]) (.seq (.seq (.reg [
  ia 21 (.mv (.t 8)),
ia 22 (.bin .lss (.t 21) (ci 1)),
ia 23 (.mv (.t 22)),
ig 24 23 false (.mv (.t 8)),
ig 25 23 false (.bin .gtr (.t 24) (ci 3)),
ia 26 (.pick (.t 23) (.c (.a (.p (.b true)))) (.t 25))]) (.cond (.t 26) (.seq (.reg [
  ia 27 (.mv (.t 6)),
ia 28 (.mv (.t 7)),
ia 4 (.mv (.t 27)),
ia 5 (.mv (.t 28))]) .ret) .skip)) (.seq (.reg [
  ia 29 (.mv (.t 7)),
ia 30 (.mv (.t 29)),
ig 31 30 false (.mv (.t 8)),
ig 32 30 false (.bin .lss (.t 31) (ci 3)),
ia 33 (.pick (.t 30) (.c (.a (.p (.b true)))) (.t 32)),
ia 7 (.mv (.t 33))]) (.reg [
  ia 34 (.mv (.t 6)),
ia 35 (.bin .add (.t 34) (ci 1)),
ia 6 (.mv (.t 35))]))))))
def F115 : FnC := ⟨2, (.seq (.reg [
  ia 4 (.mv (ci 0)),
ia 5 (.mv (.c (.a (.p (.b false)))))]) (.seq (.reg [
  ia 6 (.mv (ci 0)),
ia 7 (.mv (.c (.a (.p (.b false)))))]) (.seq (.block 0 (.loop F115b0)) (.seq (.reg [
  ia 36 (.mv (.t 6)),
ia 37 (.mv (.t 7)),
ia 4 (.mv (.t 36)),
ia 5 (.mv (.t 37))]) .ret)))), [(.tmp 4), (.tmp 5)]⟩
theorem cc115 : ccF Try.prog [(58, [0, 0]), (61, [1, 0]), (75, [0, 0]), (58, [9]), (91, [8]), (93, [8]), (72, [8]), (92, [8]), (76, [8])] Try.f115 = some (stripF F115) := by kernel_rfl

/- gossamer/gossamerref01.sign -/
def F116b0 : C := (.seq (.seq (.reg [
  ia 27 (.mv (.t 5)),
ia 28 (.bin .lss (.t 27) (ci 13))]) (.cond (.t 28) .skip (.exit 0))) (.seq (.block 1 (.seq (.reg [
  ir 31 (.mv (.t 5)),
ir 32 (.ixs (.c (.a (.p (.s [92, 46, 40, 41, 61, 123, 125, 124, 43, 45, 42, 47, 60])))) (.t 31)),
ir 33 (.mv (.t 0)),
ir 34 (.mv (.t 1)),
ir 35 (.ixs (.t 33) (.t 34)),
ia 36 (.bin .eql (.t 32) (.t 35))]) (.cond (.t 36) (.seq (.reg [
  ia 4 (.mv (ci 1))]) .ret) .skip))) (.reg [
  ia 29 (.mv (.t 5)),
ia 30 (.bin .add (.t 29) (ci 1)),
ia 5 (.mv (.t 30))])))
def F116 : FnC := ⟨2, (.seq (.reg [
  ia 4 (.mv (ci 0))]) (.seq (.seq (.reg [
  ia 6 (.mv (.t 1)),
ia 7 (.bin .add (.t 6) (ci 1)),
ia 8 (.mv (.t 0)),
ia 9 (.len true (.t 8)),
ia 10 (.bin .lss (.t 7) (.t 9)),
ia 11 (.mv (.t 10)),
ig 12 11 true (.mv (.t 0)),
ig 13 11 true (.mv (.t 1)),
ig 14 11 true (.mv (.t 1)),
ig 15 11 true (.bin .add (.t 14) (ci 2)),
ig 16 11 true (.sub (.t 12) (.some (.t 13)) (.some (.t 15))),
ig 17 11 true (.bin .eql (.t 16) (.c (.a (.p (.s [45, 62]))))),
ig 18 11 true (.mv (.t 17)),
ig 19 18 false (.mv (.t 0)),
ig 20 18 false (.mv (.t 1)),
ig 21 18 false (.mv (.t 1)),
ig 22 18 false (.bin .add (.t 21) (ci 2)),
ig 23 18 false (.sub (.t 19) (.some (.t 20)) (.some (.t 22))),
ig 24 18 false (.bin .eql (.t 23) (.c (.a (.p (.s [61, 61]))))),
ig 25 11 true (.pick (.t 18) (.c (.a (.p (.b true)))) (.t 24)),
ia 26 (.pick (.t 11) (.t 25) (.c (.a (.p (.b false)))))]) (.cond (.t 26) (.seq (.reg [
  ia 4 (.mv (ci 2))]) .ret) .skip)) (.seq (.seq (.reg [
  ia 5 (.mv (ci 0))]) (.block 0 (.loop F116b0))) (.seq (.reg [
  ia 4 (.mv (ci 0))]) .ret)))), [(.tmp 4)]⟩
theorem cc116 : ccF Try.prog [(58, [0, 0]), (61, [1, 0]), (75, [0, 0]), (58, [9]), (91, [8]), (93, [8]), (72, [8]), (92, [8]), (76, [8])] Try.f116 = some (stripF F116) := by kernel_rfl

/- gossamer/gossamerref01.class -/
def F117 : FnC := ⟨1, (.seq (.reg [
  ia 2 (.mv (ci 0))]) (.seq (.seq (.reg [
  ia 3 (.mv (.t 0)),
ia 4 (.bin .geq (.t 3) (.c (.a (.p (.i .u8 97))))),
ia 5 (.mv (.t 4)),
ig 6 5 true (.mv (.t 0)),
ig 7 5 true (.bin .leq (.t 6) (.c (.a (.p (.i .u8 122))))),
ia 8 (.pick (.t 5) (.t 7) (.c (.a (.p (.b false)))))]) (.cond (.t 8) (.seq (.reg [
  ia 2 (.mv (ci 1))]) .ret) .skip)) (.seq (.seq (.reg [
  ia 9 (.mv (.t 0)),
ia 10 (.bin .geq (.t 9) (.c (.a (.p (.i .u8 65))))),
ia 11 (.mv (.t 10)),
ig 12 11 true (.mv (.t 0)),
ig 13 11 true (.bin .leq (.t 12) (.c (.a (.p (.i .u8 90))))),
ia 14 (.pick (.t 11) (.t 13) (.c (.a (.p (.b false)))))]) (.cond (.t 14) (.seq (.reg [
  ia 2 (.mv (ci 2))]) .ret) .skip)) (.seq (.seq (.reg [
  ia 15 (.mv (.t 0)),
ia 16 (.bin .geq (.t 15) (.c (.a (.p (.i .u8 48))))),
ia 17 (.mv (.t 16)),
ig 18 17 true (.mv (.t 0)),
ig 19 17 true (.bin .leq (.t 18) (.c (.a (.p (.i .u8 57))))),
ia 20 (.pick (.t 17) (.t 19) (.c (.a (.p (.b false)))))]) (.cond (.t 20) (.seq (.reg [
  ia 2 (.mv (ci 3))]) .ret) .skip)) (.seq (.seq (.reg [
  ia 21 (.mv (.t 0)),
ia 22 (.bin .eql (.t 21) (.c (.a (.p (.i .u8 32))))),
ia 23 (.mv (.t 22)),
ig 24 23 false (.mv (.t 0)),
ig 25 23 false (.bin .eql (.t 24) (.c (.a (.p (.i .u8 10))))),
ia 26 (.pick (.t 23) (.c (.a (.p (.b true)))) (.t 25)),
ia 27 (.mv (.t 26)),
ig 28 27 false (.mv (.t 0)),
ig 29 27 false (.bin .eql (.t 28) (.c (.a (.p (.i .u8 9))))),
ia 30 (.pick (.t 27) (.c (.a (.p (.b true)))) (.t 29))]) (.cond (.t 30) (.seq (.reg [
  ia 2 (.mv (ci 4))]) .ret) .skip)) (.seq (.reg [
  ia 2 (.mv (ci 0))]) .ret)))))), [(.tmp 2)]⟩
theorem cc117 : ccF Try.prog [(58, [0, 0]), (61, [1, 0]), (75, [0, 0]), (58, [9]), (91, [8]), (93, [8]), (72, [8]), (92, [8]), (76, [8])] Try.f117 = some (stripF F117) := by kernel_rfl

/- gossamer/gossamerref01.number -/
def F118b0 : C := (.seq (.seq (.reg [
  ia 5 (.mv (.t 4)),
ia 6 (.mv (.t 0)),
ia 7 (.len true (.t 6)),
ia 8 (.bin .lss (.t 5) (.t 7))]) (.cond (.t 8) .skip (.exit 0))) (.seq (.block 1 (.reg [
  ia 11 (.mv (.t 3)),
ia 12 (.bin .mul (ci 10) (.t 11)),
ia 13 (.mv (.t 0)),
ia 14 (.mv (.t 4)),
ia 15 (.ixs (.t 13) (.t 14)),
ia 16 (.cvi .i64 (.t 15)),
ia 17 (.bin .add (.t 12) (.t 16)),
ia 18 (.bin .sub (.t 17) (ci 48)),
ia 3 (.mv (.t 18))])) (.reg [
  ia 9 (.mv (.t 4)),
ia 10 (.bin .add (.t 9) (ci 1)),
ia 4 (.mv (.t 10))])))
def F118 : FnC := ⟨1, (.seq (.reg [
  ia 2 (.mv (ci 0))]) (.seq (.reg [
  ia 3 (.mv (ci 0))]) (.seq (.seq (.reg [
  ia 4 (.mv (ci 0))]) (.block 0 (.loop F118b0))) (.seq (.reg [
  ia 19 (.mv (.t 3)),
ia 2 (.mv (.t 19))]) .ret)))), [(.tmp 2)]⟩
theorem cc118 : ccF Try.prog [(58, [0, 0]), (61, [1, 0]), (75, [0, 0]), (58, [9]), (91, [8]), (93, [8]), (72, [8]), (92, [8]), (76, [8])] Try.f118 = some (stripF F118) := by kernel_rfl

/- gossamer/gossamerref01.Word -/
def F119 : FnC := ⟨1, (.seq (.reg [
  ia 2 (.mv (.c (.a (.p (.b false)))))]) (.seq (.reg [
  ia 3 (.mv (.t 0)),
ia 4 (.bin .eql (.t 3) (.c (.a (.p (.s [108, 101, 116]))))),
ia 5 (.mv (.t 4)),
ig 6 5 false (.mv (.t 0)),
ig 7 5 false (.bin .eql (.t 6) (.c (.a (.p (.s [108, 101, 116, 114, 101, 99]))))),
ia 8 (.pick (.t 5) (.c (.a (.p (.b true)))) (.t 7)),
ia 9 (.mv (.t 8)),
ig 10 9 false (.mv (.t 0)),
ig 11 9 false (.bin .eql (.t 10) (.c (.a (.p (.s [105, 110]))))),
ia 12 (.pick (.t 9) (.c (.a (.p (.b true)))) (.t 11)),
ia 13 (.mv (.t 12)),
ig 14 13 false (.mv (.t 0)),
ig 15 13 false (.bin .eql (.t 14) (.c (.a (.p (.s [99, 97, 115, 101]))))),
ia 16 (.pick (.t 13) (.c (.a (.p (.b true)))) (.t 15)),
ia 17 (.mv (.t 16)),
ig 18 17 false (.mv (.t 0)),
ig 19 17 false (.bin .eql (.t 18) (.c (.a (.p (.s [111, 102]))))),
ia 20 (.pick (.t 17) (.c (.a (.p (.b true)))) (.t 19)),
ia 2 (.mv (.t 20))]) .ret)), [(.tmp 2)]⟩
theorem cc119 : ccF Try.prog [(58, [0, 0]), (61, [1, 0]), (75, [0, 0]), (58, [9]), (91, [8]), (93, [8]), (72, [8]), (92, [8]), (76, [8])] Try.f119 = some (stripF F119) := by kernel_rfl

/- slices.Clone[[]gossamer/api.Port,gossamer/api.Port] -/
def F120 : FnC := ⟨1, (.seq (.reg [
  ia 2 (.mv (.c (.a .nil)))]) (.seq (.seq (.reg [
  ia 3 (.mv (.t 0)),
ia 4 (.nq false (.t 3))]) (.cond (.t 4) (.seq (.reg [
  ia 2 (.mv (.c (.a .nil)))]) .ret) .skip)) (.seq (.reg [
  ia 5 (.bsl 2 58 [(.p (.i .i64 0)), (.p (.i .i64 0))] 0 []),
ia 6 (.mv (.t 0)),
ia 7 (.app 2 58 16 (.t 5) (.t 6)),
ia 2 (.mv (.t 7))]) .ret))), [(.tmp 2)]⟩
theorem cc120 : ccF Try.prog [(58, [0, 0]), (61, [1, 0]), (75, [0, 0]), (58, [9]), (91, [8]), (93, [8]), (72, [8]), (92, [8]), (76, [8])] Try.f120 = some (stripF F120) := by kernel_rfl

/- slices.Clone[[]gossamer/api.Node,gossamer/api.Node] -/
def F121 : FnC := ⟨1, (.seq (.reg [
  ia 2 (.mv (.c (.a .nil)))]) (.seq (.seq (.reg [
  ia 3 (.mv (.t 0)),
ia 4 (.nq false (.t 3))]) (.cond (.t 4) (.seq (.reg [
  ia 2 (.mv (.c (.a .nil)))]) .ret) .skip)) (.seq (.reg [
  ia 5 (.bsl 6 25 [(.p (.i .i64 0)), (.p (.i .i64 0)), (.p (.i .i64 0)), (.p (.s [])), .nil, .nil] 0 []),
ia 6 (.mv (.t 0)),
ia 7 (.app 6 25 88 (.t 5) (.t 6)),
ia 2 (.mv (.t 7))]) .ret))), [(.tmp 2)]⟩
theorem cc121 : ccF Try.prog [(58, [0, 0]), (61, [1, 0]), (75, [0, 0]), (58, [9]), (91, [8]), (93, [8]), (72, [8]), (92, [8]), (76, [8])] Try.f121 = some (stripF F121) := by kernel_rfl

def tblB : List (FuncId × FnC) := [(43, F43), (44, F44), (45, F45), (46, F46), (47, F47), (48, F48), (49, F49), (50, F50), (51, F51), (52, F52), (53, F53), (54, F54), (55, F55), (56, F56), (57, F57), (58, F58), (59, F59), (60, F60), (61, F61), (62, F62), (63, F63), (64, F64), (65, F65), (66, F66), (67, F67), (68, F68), (69, F69), (70, F70), (71, F71), (72, F72), (73, F73), (74, F74), (75, F75), (76, F76), (77, F77), (78, F78), (79, F79), (80, F80), (81, F81), (82, F82), (83, F83), (84, F84), (85, F85), (86, F86), (87, F87), (88, F88), (89, F89), (90, F90), (91, F91), (92, F92), (93, F93), (94, F94), (95, F95), (96, F96), (97, F97), (98, F98), (99, F99), (100, F100), (101, F101), (102, F102), (103, F103), (104, F104), (105, F105), (106, F106), (107, F107), (108, F108), (109, F109), (110, F110), (111, F111), (112, F112), (113, F113), (114, F114), (115, F115), (116, F116), (117, F117), (118, F118), (119, F119), (120, F120), (121, F121)]

theorem tblOkB : ∀ x, x ∈ tblB → ∃ fn, Try.prog.funcs[x.1]? = some fn ∧ ccF Try.prog [(58, [0, 0]), (61, [1, 0]), (75, [0, 0]), (58, [9]), (91, [8]), (93, [8]), (72, [8]), (92, [8]), (76, [8])] fn = some (stripF x.2) := by
  intro x hx
  simp only [tblB, List.mem_cons, List.not_mem_nil, or_false] at hx
  rcases hx with rfl | rfl | rfl | rfl | rfl | rfl | rfl | rfl | rfl | rfl | rfl | rfl | rfl | rfl | rfl | rfl | rfl | rfl | rfl | rfl | rfl | rfl | rfl | rfl | rfl | rfl | rfl | rfl | rfl | rfl | rfl | rfl | rfl | rfl | rfl | rfl | rfl | rfl | rfl | rfl | rfl | rfl | rfl | rfl | rfl | rfl | rfl | rfl | rfl | rfl | rfl | rfl | rfl | rfl | rfl | rfl | rfl | rfl | rfl | rfl | rfl | rfl | rfl | rfl | rfl | rfl | rfl | rfl | rfl | rfl | rfl | rfl | rfl | rfl | rfl | rfl | rfl | rfl | rfl
  · exact ⟨_, Try.func43, cc43⟩
  · exact ⟨_, Try.func44, cc44⟩
  · exact ⟨_, Try.func45, cc45⟩
  · exact ⟨_, Try.func46, cc46⟩
  · exact ⟨_, Try.func47, cc47⟩
  · exact ⟨_, Try.func48, cc48⟩
  · exact ⟨_, Try.func49, cc49⟩
  · exact ⟨_, Try.func50, cc50⟩
  · exact ⟨_, Try.func51, cc51⟩
  · exact ⟨_, Try.func52, cc52⟩
  · exact ⟨_, Try.func53, cc53⟩
  · exact ⟨_, Try.func54, cc54⟩
  · exact ⟨_, Try.func55, cc55⟩
  · exact ⟨_, Try.func56, cc56⟩
  · exact ⟨_, Try.func57, cc57⟩
  · exact ⟨_, Try.func58, cc58⟩
  · exact ⟨_, Try.func59, cc59⟩
  · exact ⟨_, Try.func60, cc60⟩
  · exact ⟨_, Try.func61, cc61⟩
  · exact ⟨_, Try.func62, cc62⟩
  · exact ⟨_, Try.func63, cc63⟩
  · exact ⟨_, Try.func64, cc64⟩
  · exact ⟨_, Try.func65, cc65⟩
  · exact ⟨_, Try.func66, cc66⟩
  · exact ⟨_, Try.func67, cc67⟩
  · exact ⟨_, Try.func68, cc68⟩
  · exact ⟨_, Try.func69, cc69⟩
  · exact ⟨_, Try.func70, cc70⟩
  · exact ⟨_, Try.func71, cc71⟩
  · exact ⟨_, Try.func72, cc72⟩
  · exact ⟨_, Try.func73, cc73⟩
  · exact ⟨_, Try.func74, cc74⟩
  · exact ⟨_, Try.func75, cc75⟩
  · exact ⟨_, Try.func76, cc76⟩
  · exact ⟨_, Try.func77, cc77⟩
  · exact ⟨_, Try.func78, cc78⟩
  · exact ⟨_, Try.func79, cc79⟩
  · exact ⟨_, Try.func80, cc80⟩
  · exact ⟨_, Try.func81, cc81⟩
  · exact ⟨_, Try.func82, cc82⟩
  · exact ⟨_, Try.func83, cc83⟩
  · exact ⟨_, Try.func84, cc84⟩
  · exact ⟨_, Try.func85, cc85⟩
  · exact ⟨_, Try.func86, cc86⟩
  · exact ⟨_, Try.func87, cc87⟩
  · exact ⟨_, Try.func88, cc88⟩
  · exact ⟨_, Try.func89, cc89⟩
  · exact ⟨_, Try.func90, cc90⟩
  · exact ⟨_, Try.func91, cc91⟩
  · exact ⟨_, Try.func92, cc92⟩
  · exact ⟨_, Try.func93, cc93⟩
  · exact ⟨_, Try.func94, cc94⟩
  · exact ⟨_, Try.func95, cc95⟩
  · exact ⟨_, Try.func96, cc96⟩
  · exact ⟨_, Try.func97, cc97⟩
  · exact ⟨_, Try.func98, cc98⟩
  · exact ⟨_, Try.func99, cc99⟩
  · exact ⟨_, Try.func100, cc100⟩
  · exact ⟨_, Try.func101, cc101⟩
  · exact ⟨_, Try.func102, cc102⟩
  · exact ⟨_, Try.func103, cc103⟩
  · exact ⟨_, Try.func104, cc104⟩
  · exact ⟨_, Try.func105, cc105⟩
  · exact ⟨_, Try.func106, cc106⟩
  · exact ⟨_, Try.func107, cc107⟩
  · exact ⟨_, Try.func108, cc108⟩
  · exact ⟨_, Try.func109, cc109⟩
  · exact ⟨_, Try.func110, cc110⟩
  · exact ⟨_, Try.func111, cc111⟩
  · exact ⟨_, Try.func112, cc112⟩
  · exact ⟨_, Try.func113, cc113⟩
  · exact ⟨_, Try.func114, cc114⟩
  · exact ⟨_, Try.func115, cc115⟩
  · exact ⟨_, Try.func116, cc116⟩
  · exact ⟨_, Try.func117, cc117⟩
  · exact ⟨_, Try.func118, cc118⟩
  · exact ⟨_, Try.func119, cc119⟩
  · exact ⟨_, Try.func120, cc120⟩
  · exact ⟨_, Try.func121, cc121⟩

end Go.Proofs.Ytomcceambpneiaa
