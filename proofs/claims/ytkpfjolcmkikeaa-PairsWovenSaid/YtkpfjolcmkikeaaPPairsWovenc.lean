/- Part 3 of what is proved for the law PairsWoven: it returns true,whatever the input. No condition. -/
import Derived.Test.YtkpfjolcmkikeaaProg
import Derived.IntWalk
import Derived.Test.YtkpfjolcmkikeaaPPairsWovenb
namespace Go.Proofs.Ytkpfjolcmkikeaa
open Go.Fx
def F13b0 : C := (.seq (.seq (.reg [
  ia 33 (.mv (.t 7)),
ia 34 (.mv (.t 5)),
ia 35 (.len false (.t 34)),
ia 36 (.bin .lss (.t 33) (.t 35))]) (.cond (.t 36) .skip (.exit 0))) (.seq (.block 1 (.seq (.reg [
  ir 39 (.fad 0 (.t 3)),
ir 40 (.ld 1 false (.t 39)),
ir 41 (.mv (.t 5)),
ir 42 (.mv (.t 7)),
ir 43 (.ias 2 (.t 41) (.t 42)),
ir 44 (.fad 0 (.t 43)),
ir 45 (.ld 1 false (.t 44)),
ia 46 (.ias 6 (.t 40) (.t 45)),
ia 47 (.fad 0 (.t 46)),
ia 48 (.ld 1 false (.t 47)),
ia 49 (.bin .neq (.t 48) (ci 7)),
ia 50 (.mv (.t 49)),
ih 51 50 true (.fad 0 (.t 3)),
ih 52 50 true (.ld 1 false (.t 51)),
ih 53 50 true (.mv (.t 5)),
ih 54 50 true (.mv (.t 7)),
ih 55 50 true (.ias 2 (.t 53) (.t 54)),
ih 56 50 true (.fad 1 (.t 55)),
ih 57 50 true (.ld 1 false (.t 56)),
ig 58 50 true (.ias 6 (.t 52) (.t 57)),
ig 59 50 true (.fad 0 (.t 58)),
ig 60 50 true (.ld 1 false (.t 59)),
ig 61 50 true (.bin .neq (.t 60) (ci 7)),
ia 62 (.pick (.t 50) (.t 61) (.c (.a (.p (.b false)))))]) (.cond (.t 62) (.reg [
  ia 63 (.mv (.t 6)),
ia 64 (.bin .add (.t 63) (ci 1)),
ia 6 (.mv (.t 64))]) .skip))) (.reg [
  ia 37 (.mv (.t 7)),
ia 38 (.bin .add (.t 37) (ci 1)),
ia 7 (.mv (.t 38))])))
def F13 : FnC := ⟨1,(.seq (.reg [
  ia 1 (.box 4 (.t 0)),
ia 2 (.mv (.c (.a (.p (.b false)))))]) (.seq (.seq (.reg [
  ia 8 (.call (.f 39) []),
ia 9 (.not (.t 8)),
ia 10 (.mv (.t 9)),
ig 11 10 false (.ld 4 true (.t 1)),
ig 12 10 false (.call (.f 29) [(.t 11),(ci 80)]),
ig 13 10 false (.not (.t 12)),
ia 14 (.pick (.t 10) (.c (.a (.p (.b true)))) (.t 13)),
ia 15 (.mv (.t 14)),
ig 16 15 false (.ld 4 true (.t 1)),
ig 17 15 false (.call (.f 30) [(.t 16)]),
ig 18 15 false (.bin .gtr (.t 17) (ci 50)),
ia 19 (.pick (.t 15) (.c (.a (.p (.b true)))) (.t 18)),
ia 20 (.mv (.t 19)),
ig 21 20 false (.ld 4 true (.t 1)),
ig 22 20 false (.call (.f 31) [(.t 21),(ci 0)]),
ig 23 20 false (.not (.t 22)),
ia 24 (.pick (.t 20) (.c (.a (.p (.b true)))) (.t 23))]) (.cond (.t 24) (.seq (.reg [
  ia 25 (.call (.f 39) []),
ia 2 (.mv (.t 25))]) .ret) .skip)) (.seq (.reg [
  ia 27 (.ld 4 true (.t 1)),
ia 28 (.call (.f 32) [(.t 27),(ci 4000)]),
ia 26 (.mv (.t 28)),
ia 29 (.ext (.t 26) 0),
ia 30 (.ext (.t 26) 1),
ia 3 (.new [.nil,(.p (.i .i64 0))]),
io (.st 2 (.t 3) (.t 29)),
ia 4 (.mv (.t 30))]) (.seq (.reg [
  ia 31 (.ld 2 true (.t 3)),
ia 32 (.call (.f 45) [(.t 31)]),
ia 5 (.mv (.t 32))]) (.seq (.reg [
  ia 6 (.mv (ci 0))]) (.seq (.seq (.reg [
  ia 7 (.mv (ci 0))]) (.block 0 (.loop F13b0))) (.seq (.reg [
  ia 65 (.mv (.t 4)),
ia 66 (.bin .eql (.t 65) (ci 0)),
ia 67 (.mv (.t 66)),
ig 68 67 true (.mv (.t 6)),
ig 69 67 true (.ld 4 true (.t 1)),
ig 70 67 true (.call (.f 48) [(.t 69)]),
ig 71 67 true (.bin .eql (.t 68) (.t 70)),
ia 72 (.pick (.t 67) (.t 71) (.c (.a (.p (.b false))))),
ia 2 (.mv (.t 72))]) .ret))))))),[(.tmp 2)]⟩
theorem cc13 : ccF Try.prog [(43,[0,0]),(79,[1,0]),(60,[0,0]),(140,[0,0]),(43,[9]),(134,[8]),(136,[8]),(108,[8]),(135,[8]),(112,[8])] Try.f13 = some (stripF F13) := by kernel_rfl
def F26b0 : C := (.seq (.seq (.reg [
  ia 5 (.mv (.t 4)),
ia 6 (.fad 0 (.t 1)),
ia 7 (.ld 1 false (.t 6)),
ia 8 (.len false (.t 7)),
ia 9 (.bin .lss (.t 5) (.t 8))]) (.cond (.t 9) .skip (.exit 0))) (.seq (.block 1 (.seq (.reg [
  ia 12 (.fad 0 (.t 1)),
ia 13 (.ld 1 false (.t 12)),
ia 14 (.mv (.t 4)),
ia 15 (.ias 6 (.t 13) (.t 14)),
ia 16 (.fad 0 (.t 15)),
ia 17 (.ld 1 false (.t 16)),
ia 18 (.bin .neq (.t 17) (ci 0))]) (.cond (.t 18) (.reg [
  ia 19 (.mv (.t 3)),
ia 20 (.bin .add (.t 19) (ci 1)),
ia 3 (.mv (.t 20))]) .skip))) (.reg [
  ia 10 (.mv (.t 4)),
ia 11 (.bin .add (.t 10) (ci 1)),
ia 4 (.mv (.t 11))])))
def F26 : FnC := ⟨1,(.seq (.reg [
  ia 1 (.box 2 (.t 0)),
ia 2 (.mv (ci 0))]) (.seq (.reg [
  ia 3 (.mv (ci 0))]) (.seq (.seq (.reg [
  ia 4 (.mv (ci 0))]) (.block 0 (.loop F26b0))) (.seq (.reg [
  ia 21 (.mv (.t 3)),
ia 2 (.mv (.t 21))]) .ret)))),[(.tmp 2)]⟩
theorem cc26 : ccF Try.prog [(43,[0,0]),(79,[1,0]),(60,[0,0]),(140,[0,0]),(43,[9]),(134,[8]),(136,[8]),(108,[8]),(135,[8]),(112,[8])] Try.f26 = some (stripF F26) := by kernel_rfl
def F29 : FnC := ⟨2,(.seq (.reg [
  ia 2 (.box 4 (.t 0)),
ia 4 (.mv (.c (.a (.p (.b false)))))]) (.seq (.reg [
  ia 5 (.ld 4 true (.t 2)),
ia 6 (.mv (.t 1)),
ia 7 (.call (.f 58) [(.t 5),(.t 6),(ci 600)]),
ia 8 (.bin .geq (.t 7) (ci 0)),
ia 4 (.mv (.t 8))]) .ret)),[(.tmp 4)]⟩
theorem cc29 : ccF Try.prog [(43,[0,0]),(79,[1,0]),(60,[0,0]),(140,[0,0]),(43,[9]),(134,[8]),(136,[8]),(108,[8]),(135,[8]),(112,[8])] Try.f29 = some (stripF F29) := by kernel_rfl
def F30b0 : C := (.seq (.seq (.reg [
  ia 5 (.mv (.t 4)),
ia 6 (.fad 3 (.t 1)),
ia 7 (.ld 1 false (.t 6)),
ia 8 (.len false (.t 7)),
ia 9 (.bin .lss (.t 5) (.t 8))]) (.cond (.t 9) .skip (.exit 0))) (.seq (.block 1 (.reg [
  ia 12 (.mv (.t 3)),
ia 13 (.fad 3 (.t 1)),
ia 14 (.ld 1 false (.t 13)),
ia 15 (.mv (.t 4)),
ia 16 (.ias 4 (.t 14) (.t 15)),
ia 17 (.ld 4 true (.t 16)),
ia 18 (.call (.f 30) [(.t 17)]),
ia 19 (.mx (.t 12) (.t 18)),
ia 3 (.mv (.t 19))])) (.reg [
  ia 10 (.mv (.t 4)),
ia 11 (.bin .add (.t 10) (ci 1)),
ia 4 (.mv (.t 11))])))
def F30 : FnC := ⟨1,(.seq (.reg [
  ia 1 (.box 4 (.t 0)),
ia 2 (.mv (ci 0))]) (.seq (.reg [
  ia 3 (.mv (ci 0))]) (.seq (.seq (.reg [
  ia 4 (.mv (ci 0))]) (.block 0 (.loop F30b0))) (.seq (.reg [
  ia 20 (.mv (.t 3)),
ia 21 (.bin .add (.t 20) (ci 1)),
ia 2 (.mv (.t 21))]) .ret)))),[(.tmp 2)]⟩
theorem cc30 : ccF Try.prog [(43,[0,0]),(79,[1,0]),(60,[0,0]),(140,[0,0]),(43,[9]),(134,[8]),(136,[8]),(108,[8]),(135,[8]),(112,[8])] Try.f30 = some (stripF F30) := by kernel_rfl
def F31 : FnC := ⟨2,(.seq (.reg [
  ia 2 (.box 4 (.t 0)),
ia 4 (.mv (.c (.a (.p (.b false)))))]) (.seq (.reg [
  ia 5 (.ld 4 true (.t 2)),
ia 6 (.mv (.t 1)),
ia 7 (.call (.f 59) [(.t 5),(.t 6),(.c (.a (.p (.b false))))]),
ia 4 (.mv (.t 7))]) .ret)),[(.tmp 4)]⟩
theorem cc31 : ccF Try.prog [(43,[0,0]),(79,[1,0]),(60,[0,0]),(140,[0,0]),(43,[9]),(134,[8]),(136,[8]),(108,[8]),(135,[8]),(112,[8])] Try.f31 = some (stripF F31) := by kernel_rfl
def F32 : FnC := ⟨2,(.seq (.reg [
  ia 2 (.box 4 (.t 0)),
ia 4 (.new [.nil,(.p (.i .i64 0))]),
ia 5 (.mv (ci 0))]) (.seq (.seq (.reg [
  ia 7 (.ld 4 true (.t 2)),
ia 8 (.call (.f 31) [(.t 7),(ci 0)]),
ia 9 (.not (.t 8)),
ia 10 (.mv (.t 9)),
ig 11 10 false (.mv (.t 1)),
ig 12 10 false (.bin .lss (.t 11) (ci 2)),
ia 13 (.pick (.t 10) (.c (.a (.p (.b true)))) (.t 12)),
ia 14 (.mv (.t 13)),
ig 15 14 false (.mv (.t 1)),
ig 16 14 false (.bin .gtr (.t 15) (ci 4000)),
ia 17 (.pick (.t 14) (.c (.a (.p (.b true)))) (.t 16))]) (.cond (.t 17) (.seq (.reg [
  ia 18 (.build [.nil,(.p (.i .i64 0))] []),
io (.st 2 (.t 4) (.t 18)),
ia 5 (.mv (ci 1))]) .ret) .skip)) (.seq (.reg [
  ia 19 (.mv (.t 1)),
ia 20 (.build [(.p (.i .i64 0)),(.p (.i .i64 0))] []),
ia 21 (.bsl 2 43 [(.p (.i .i64 0)),(.p (.i .i64 0))] 1 [(0,(.t 20))]),
ia 22 (.build [(.p (.i .i64 0)),(.p (.i .i64 0)),(.p (.i .i64 0)),(.p (.s [])),.nil,.nil] [(0,(1,(ci 1))),(5,(1,(.t 21)))]),
ia 23 (.bsl 6 41 [(.p (.i .i64 0)),(.p (.i .i64 0)),(.p (.i .i64 0)),(.p (.s [])),.nil,.nil] 1 [(0,(.t 22))]),
ia 24 (.build [.nil,(.p (.i .i64 0))] [(1,(1,(.t 19))),(0,(1,(.t 23)))]),
ia 25 (.ld 4 true (.t 2)),
ia 26 (.call (.f 60) [(.t 24),(.t 25),(ci 0)]),
ia 6 (.new [.nil,(.p (.i .i64 0)),(.p (.i .i64 0)),(.p (.i .i64 0)),.nil,(.p (.i .i64 0))]),
io (.st 6 (.t 6) (.t 26))]) (.seq (.seq (.reg [
  ia 27 (.fad 5 (.t 6)),
ia 28 (.ld 1 false (.t 27)),
ia 29 (.bin .neq (.t 28) (ci 0))]) (.cond (.t 29) (.seq (.reg [
  ir 30 (.build [.nil,(.p (.i .i64 0))] []),
ir 31 (.fad 5 (.t 6)),
ir 32 (.ld 1 false (.t 31)),
⟨.none,.none,(.st 2 (.t 4) (.t 30)),(.wr [31])⟩,
ia 5 (.mv (.t 32))]) .ret) .skip)) (.seq (.reg [
  ir 33 (.fad 0 (.t 6)),
ir 34 (.ld 2 true (.t 33)),
ir 35 (.fad 2 (.t 6)),
ir 36 (.ld 2 true (.t 35)),
ir 37 (.call (.f 62) [(ci 0),(ci 0)]),
ia 38 (.call (.f 61) [(.t 34),(.t 36),(.t 37)]),
io (.st 2 (.t 4) (.t 38)),
ia 5 (.mv (ci 0))]) .ret))))),[(.cell 4 2 true),(.tmp 5)]⟩
theorem cc32 : ccF Try.prog [(43,[0,0]),(79,[1,0]),(60,[0,0]),(140,[0,0]),(43,[9]),(134,[8]),(136,[8]),(108,[8]),(135,[8]),(112,[8])] Try.f32 = some (stripF F32) := by kernel_rfl
def F33b0 : C := (.seq (.seq (.reg [
  ia 35 (.mv (.t 8)),
ia 36 (.fad 0 (.t 7)),
ia 37 (.ld 1 false (.t 36)),
ia 38 (.len false (.t 37)),
ia 39 (.bin .lss (.t 35) (.t 38))]) (.cond (.t 39) .skip (.exit 0))) (.seq (.block 1 (.seq (.reg [
  ia 42 (.fad 0 (.t 7)),
ia 43 (.ld 1 false (.t 42)),
ia 44 (.mv (.t 8)),
ia 45 (.ias 6 (.t 43) (.t 44)),
ia 46 (.fad 0 (.t 45)),
ia 47 (.ld 1 false (.t 46)),
ia 48 (.bin .eql (.t 47) (ci 0))]) (.cond (.t 48) (.seq (.reg [
  ia 49 (.fad 0 (.t 7)),
ia 50 (.ld 1 false (.t 49)),
ia 51 (.mv (.t 8)),
ia 52 (.ld 6 true (.t 3)),
ia 53 (.ias 6 (.t 50) (.t 51)),
io (.st 6 (.t 53) (.t 52))]) (.seq (.reg [
  ia 54 (.ld 2 true (.t 7)),
ia 55 (.mv (.t 8)),
io (.st 2 (.t 4) (.t 54)),
ia 5 (.mv (.t 55)),
ia 6 (.mv (ci 0))]) .ret)) .skip))) (.reg [
  ia 40 (.mv (.t 8)),
ia 41 (.bin .add (.t 40) (ci 1)),
ia 8 (.mv (.t 41))])))
def F33 : FnC := ⟨2,(.seq (.reg [
  ia 2 (.box 2 (.t 0)),
ia 3 (.box 6 (.t 1)),
ia 4 (.new [.nil,(.p (.i .i64 0))]),
ia 5 (.mv (ci 0)),
ia 6 (.mv (ci 0))]) (.seq (.seq (.reg [
  ia 9 (.fad 0 (.t 3)),
ia 10 (.ld 1 false (.t 9)),
ia 11 (.bin .lss (.t 10) (ci 2)),
ia 12 (.mv (.t 11)),
ig 13 12 false (.ld 6 true (.t 3)),
ig 14 12 false (.call (.f 56) [(.t 13)]),
ig 15 12 false (.not (.t 14)),
ia 16 (.pick (.t 12) (.c (.a (.p (.b true)))) (.t 15))]) (.cond (.t 16) (.seq (.reg [
  ia 17 (.ld 2 true (.t 2)),
io (.st 2 (.t 4) (.t 17)),
ia 5 (.mv (ci 0)),
ia 6 (.mv (ci 122))]) .ret) .skip)) (.seq (.seq (.reg [
  ir 18 (.ld 2 true (.t 2)),
ir 19 (.call (.f 26) [(.t 18)]),
ir 20 (.fad 1 (.t 2)),
ir 21 (.ld 1 false (.t 20)),
ia 22 (.bin .geq (.t 19) (.t 21))]) (.cond (.t 22) (.seq (.reg [
  ia 23 (.ld 2 true (.t 2)),
io (.st 2 (.t 4) (.t 23)),
ia 5 (.mv (ci 0)),
ia 6 (.mv (ci 121))]) .ret) .skip)) (.seq (.reg [
  ia 24 (.ld 2 true (.t 2)),
ia 25 (.call (.f 51) [(.t 24)]),
ia 7 (.new [.nil,(.p (.i .i64 0))]),
io (.st 2 (.t 7) (.t 25))]) (.seq (.reg [
  ia 26 (.ld 6 true (.t 3)),
ia 27 (.call (.f 57) [(.t 26)]),
ia 28 (.mslF 2 43 16 [(.p (.i .i64 0)),(.p (.i .i64 0))] (.t 27) (.t 27)),
ia 29 (.fad 5 (.t 3)),
io (.st 1 (.t 29) (.t 28))]) (.seq (.reg [
  ia 30 (.bsl 2 79 [(.p (.s [])),(.p (.i .i64 0))] 0 []),
ia 31 (.fad 4 (.t 3)),
ia 32 (.ld 1 false (.t 31)),
ia 33 (.app 2 79 24 (.t 30) (.t 32)),
ia 34 (.fad 4 (.t 3)),
io (.st 1 (.t 34) (.t 33))]) (.seq (.seq (.reg [
  ia 8 (.mv (ci 0))]) (.block 0 (.loop F33b0))) (.seq (.reg [
  ia 56 (.fad 0 (.t 7)),
ia 57 (.ld 1 false (.t 56)),
ia 58 (.ld 6 true (.t 3)),
ia 59 (.bsl 6 41 [(.p (.i .i64 0)),(.p (.i .i64 0)),(.p (.i .i64 0)),(.p (.s [])),.nil,.nil] 1 [(0,(.t 58))]),
ia 60 (.app 6 41 88 (.t 57) (.t 59)),
ia 61 (.fad 0 (.t 7)),
io (.st 1 (.t 61) (.t 60))]) (.seq (.reg [
  ir 62 (.ld 2 true (.t 7)),
ir 63 (.fad 0 (.t 7)),
ir 64 (.ld 1 false (.t 63)),
ir 65 (.len false (.t 64)),
ir 66 (.bin .sub (.t 65) (ci 1)),
⟨.none,.none,(.st 2 (.t 4) (.t 62)),(.wr [63])⟩,
ia 5 (.mv (.t 66)),
ia 6 (.mv (ci 0))]) .ret))))))))),[(.cell 4 2 true),(.tmp 5),(.tmp 6)]⟩
theorem cc33 : ccF Try.prog [(43,[0,0]),(79,[1,0]),(60,[0,0]),(140,[0,0]),(43,[9]),(134,[8]),(136,[8]),(108,[8]),(135,[8]),(112,[8])] Try.f33 = some (stripF F33) := by kernel_rfl
def F35 : FnC := ⟨2,(.seq (.reg [
  ia 2 (.box 2 (.t 0)),
ia 3 (.box 2 (.t 1)),
ia 4 (.mv (.c (.a (.p (.b false)))))]) (.seq (.reg [
  ia 5 (.fad 0 (.t 3)),
ia 6 (.ld 1 false (.t 5)),
ia 7 (.bin .geq (.t 6) (ci 0)),
ia 8 (.mv (.t 7)),
ih 9 8 true (.fad 0 (.t 3)),
ih 10 8 true (.ld 1 false (.t 9)),
ih 11 8 true (.fad 0 (.t 2)),
ih 12 8 true (.ld 1 false (.t 11)),
ih 13 8 true (.len false (.t 12)),
ig 14 8 true (.bin .lss (.t 10) (.t 13)),
ia 15 (.pick (.t 8) (.t 14) (.c (.a (.p (.b false))))),
ia 16 (.mv (.t 15)),
ig 17 16 true (.fad 1 (.t 3)),
ig 18 16 true (.ld 1 false (.t 17)),
ig 19 16 true (.bin .geq (.t 18) (ci 0)),
ia 20 (.pick (.t 16) (.t 19) (.c (.a (.p (.b false))))),
ia 21 (.mv (.t 20)),
ih 22 21 true (.fad 1 (.t 3)),
ih 23 21 true (.ld 1 false (.t 22)),
ih 24 21 true (.fad 0 (.t 2)),
ih 25 21 true (.ld 1 false (.t 24)),
ih 26 21 true (.fad 0 (.t 3)),
ih 27 21 true (.ld 1 false (.t 26)),
ih 28 21 true (.ias 6 (.t 25) (.t 27)),
ih 29 21 true (.fad 5 (.t 28)),
ih 30 21 true (.ld 1 false (.t 29)),
ih 31 21 true (.len false (.t 30)),
ig 32 21 true (.bin .lss (.t 23) (.t 31)),
ia 33 (.pick (.t 21) (.t 32) (.c (.a (.p (.b false))))),
ia 4 (.mv (.t 33))]) .ret)),[(.tmp 4)]⟩
theorem cc35 : ccF Try.prog [(43,[0,0]),(79,[1,0]),(60,[0,0]),(140,[0,0]),(43,[9]),(134,[8]),(136,[8]),(108,[8]),(135,[8]),(112,[8])] Try.f35 = some (stripF F35) := by kernel_rfl
def F39 : FnC := ⟨0,(.seq (.reg [
  ia 0 (.mv (.c (.a (.p (.b false)))))]) (.seq (.reg [
  ia 9 (.call (.f 50) [(ci 5)]),
ia 8 (.mv (.t 9)),
ia 10 (.ext (.t 8) 0),
ia 11 (.ext (.t 8) 1),
ia 1 (.new [.nil,(.p (.i .i64 0))]),
io (.st 2 (.t 1) (.t 10)),
ia 2 (.mv (.t 11))]) (.fz [1] (.seq (.reg [
  ia 13 (.ld 2 true (.t 1)),
ia 14 (.call (.f 40) [(.t 13),(ci 3)]),
ia 12 (.mv (.t 14)),
ia 15 (.ext (.t 12) 0),
ia 16 (.ext (.t 12) 1),
ia 3 (.new [(.p (.i .i64 0)),(.p (.i .i64 0))]),
io (.st 2 (.t 3) (.t 15)),
ia 4 (.mv (.t 16))]) (.fz [1] (.seq (.reg [
  ia 17 (.build [(.p (.i .i64 0)),(.p (.i .i64 0))] [(0,(1,(ci 1))),(1,(1,(ci 1)))]),
ia 18 (.bsl 2 43 [(.p (.i .i64 0)),(.p (.i .i64 0))] 1 [(0,(.t 17))]),
ia 19 (.build [(.p (.i .i64 0)),(.p (.i .i64 0)),(.p (.i .i64 0)),(.p (.s [])),.nil,.nil] [(0,(1,(ci 1))),(5,(1,(.t 18)))]),
ia 20 (.build [(.p (.i .i64 0)),(.p (.i .i64 0))] [(0,(1,(ci 2)))]),
ia 21 (.build [(.p (.i .i64 0)),(.p (.i .i64 0))] []),
ia 22 (.build [(.p (.i .i64 0)),(.p (.i .i64 0))] [(0,(1,(ci 3)))]),
ia 23 (.bsl 2 43 [(.p (.i .i64 0)),(.p (.i .i64 0))] 3 [(0,(.t 20)),(1,(.t 21)),(2,(.t 22))]),
ia 24 (.build [(.p (.i .i64 0)),(.p (.i .i64 0)),(.p (.i .i64 0)),(.p (.s [])),.nil,.nil] [(0,(1,(ci 3))),(5,(1,(.t 23)))]),
ia 25 (.build [(.p (.i .i64 0)),(.p (.i .i64 0))] [(0,(1,(ci 1)))]),
ia 26 (.build [(.p (.i .i64 0)),(.p (.i .i64 0))] [(0,(1,(ci 2))),(1,(1,(ci 2)))]),
ia 27 (.build [(.p (.i .i64 0)),(.p (.i .i64 0))] [(0,(1,(ci 2))),(1,(1,(ci 1)))]),
ia 28 (.bsl 2 43 [(.p (.i .i64 0)),(.p (.i .i64 0))] 3 [(0,(.t 25)),(1,(.t 26)),(2,(.t 27))]),
ia 29 (.build [(.p (.i .i64 0)),(.p (.i .i64 0)),(.p (.i .i64 0)),(.p (.s [])),.nil,.nil] [(0,(1,(ci 2))),(5,(1,(.t 28)))]),
ia 30 (.build [(.p (.i .i64 0)),(.p (.i .i64 0))] [(0,(1,(ci 1))),(1,(1,(ci 2)))]),
ia 31 (.bsl 2 43 [(.p (.i .i64 0)),(.p (.i .i64 0))] 1 [(0,(.t 30))]),
ia 32 (.build [(.p (.i .i64 0)),(.p (.i .i64 0)),(.p (.i .i64 0)),(.p (.s [])),.nil,.nil] [(0,(1,(ci 10))),(1,(1,(ci 1))),(2,(1,(ci 7))),(5,(1,(.t 31)))]),
ia 33 (.bsl 6 41 [(.p (.i .i64 0)),(.p (.i .i64 0)),(.p (.i .i64 0)),(.p (.s [])),.nil,.nil] 4 [(0,(.t 19)),(1,(.t 24)),(2,(.t 29)),(3,(.t 32))]),
ia 34 (.build [.nil,(.p (.i .i64 0))] [(1,(1,(ci 9))),(0,(1,(.t 33)))]),
ia 5 (.new [.nil,(.p (.i .i64 0))]),
io (.st 2 (.t 5) (.t 34))]) (.fz [1,5] (.seq (.reg [
  ia 36 (.ld 2 true (.t 5)),
ia 37 (.call (.f 40) [(.t 36),(.c (.a (.p (.i .i64 (-8)))))]),
ia 35 (.mv (.t 37)),
ia 38 (.ext (.t 35) 0),
ia 39 (.ext (.t 35) 1),
ia 6 (.new [(.p (.i .i64 0)),(.p (.i .i64 0))]),
io (.st 2 (.t 6) (.t 38)),
ia 7 (.mv (.t 39))]) (.fz [1,5] (.seq (.reg [
  ia 40 (.ld 2 true (.t 1)),
ia 41 (.call (.f 43) [(.t 40)]),
ia 42 (.build [(.p (.i .i64 0)),(.p (.i .i64 0))] [(1,(1,(ci 1)))]),
ia 43 (.bsl 2 60 [(.p (.i .i64 0)),(.p (.i .i64 0))] 1 [(0,(.t 42))]),
ia 44 (.call (.f 42) [(.t 41),(.t 43)]),
ia 45 (.mv (.t 44)),
ig 46 45 true (.ld 2 true (.t 1)),
ig 47 45 true (.call (.f 45) [(.t 46)]),
ig 48 45 true (.len false (.t 47)),
ig 49 45 true (.bin .eql (.t 48) (ci 0)),
ia 50 (.pick (.t 45) (.t 49) (.c (.a (.p (.b false))))),
ia 51 (.mv (.t 50)),
ig 52 51 true (.mv (.t 4)),
ig 53 51 true (.not (.t 52)),
ia 54 (.pick (.t 51) (.t 53) (.c (.a (.p (.b false))))),
ia 55 (.mv (.t 54)),
ig 56 55 true (.ld 2 true (.t 5)),
ig 57 55 true (.call (.f 43) [(.t 56)]),
ig 58 55 true (.build [(.p (.i .i64 0)),(.p (.i .i64 0))] [(0,(1,(ci 1))),(1,(1,(ci 2)))]),
ig 59 55 true (.bsl 2 60 [(.p (.i .i64 0)),(.p (.i .i64 0))] 1 [(0,(.t 58))]),
ig 60 55 true (.call (.f 42) [(.t 57),(.t 59)]),
ia 61 (.pick (.t 55) (.t 60) (.c (.a (.p (.b false))))),
ia 62 (.mv (.t 61)),
ig 63 62 true (.ld 2 true (.t 5)),
ig 64 62 true (.call (.f 45) [(.t 63)]),
ig 65 62 true (.build [(.p (.i .i64 0)),(.p (.i .i64 0))] [(0,(1,(ci 1))),(1,(1,(ci 2)))]),
ig 66 62 true (.bsl 2 60 [(.p (.i .i64 0)),(.p (.i .i64 0))] 1 [(0,(.t 65))]),
ig 67 62 true (.call (.f 42) [(.t 64),(.t 66)]),
ia 68 (.pick (.t 62) (.t 67) (.c (.a (.p (.b false))))),
ia 69 (.mv (.t 68)),
ig 70 69 true (.ld 2 true (.t 6)),
ig 71 69 true (.build [(.p (.i .i64 0)),(.p (.i .i64 0))] [(0,(1,(ci 1))),(1,(1,(ci 2)))]),
ig 72 69 true (.eqg false [0,0] (.t 70) (.t 71)),
ia 73 (.pick (.t 69) (.t 72) (.c (.a (.p (.b false))))),
ia 74 (.mv (.t 73)),
ig 75 74 true (.mv (.t 7)),
ia 76 (.pick (.t 74) (.t 75) (.c (.a (.p (.b false))))),
ia 77 (.mv (.t 76)),
ig 78 77 true (.build [.nil,(.p (.i .i64 0))] []),
ig 79 77 true (.call (.f 43) [(.t 78)]),
ig 80 77 true (.len false (.t 79)),
ig 81 77 true (.bin .eql (.t 80) (ci 0)),
ia 82 (.pick (.t 77) (.t 81) (.c (.a (.p (.b false))))),
ia 0 (.mv (.t 82))]) .ret)))))))))),[(.tmp 0)]⟩
theorem cc39 : ccF Try.prog [(43,[0,0]),(79,[1,0]),(60,[0,0]),(140,[0,0]),(43,[9]),(134,[8]),(136,[8]),(108,[8]),(135,[8]),(112,[8])] Try.f39 = some (stripF F39) := by kernel_rfl
def F40 : FnC := ⟨2,(.seq (.reg [
  ia 2 (.box 2 (.t 0)),
ia 4 (.new [(.p (.i .i64 0)),(.p (.i .i64 0))]),
ia 5 (.mv (.c (.a (.p (.b false)))))]) (.seq (.reg [
  ia 8 (.ld 2 true (.t 2)),
ia 9 (.call (.f 45) [(.t 8)]),
ia 6 (.mv (.t 9))]) (.seq (.reg [
  ia 10 (.mv (.t 6)),
ia 11 (.len false (.t 10)),
ia 7 (.mv (.t 11))]) (.seq (.seq (.reg [
  ia 12 (.mv (.t 7)),
ia 13 (.bin .eql (.t 12) (ci 0))]) (.cond (.t 13) (.seq (.reg [
  ia 14 (.build [(.p (.i .i64 0)),(.p (.i .i64 0))] []),
io (.st 2 (.t 4) (.t 14)),
ia 5 (.mv (.c (.a (.p (.b false)))))]) .ret) .skip)) (.seq (.reg [
  ia 15 (.mv (.t 6)),
ia 16 (.mv (.t 1)),
ia 17 (.mv (.t 7)),
ia 18 (.bin .rem (.t 16) (.t 17)),
ia 19 (.mv (.t 7)),
ia 20 (.bin .add (.t 18) (.t 19)),
ia 21 (.mv (.t 7)),
ia 22 (.bin .rem (.t 20) (.t 21)),
ia 23 (.ias 2 (.t 15) (.t 22)),
ia 24 (.ld 2 true (.t 23)),
io (.st 2 (.t 4) (.t 24)),
ia 5 (.mv (.c (.a (.p (.b true)))))]) .ret))))),[(.cell 4 2 true),(.tmp 5)]⟩
theorem cc40 : ccF Try.prog [(43,[0,0]),(79,[1,0]),(60,[0,0]),(140,[0,0]),(43,[9]),(134,[8]),(136,[8]),(108,[8]),(135,[8]),(112,[8])] Try.f40 = some (stripF F40) := by kernel_rfl
def F42b0 : C := (.seq (.seq (.reg [
  ia 11 (.mv (.t 5)),
ia 12 (.mv (.t 0)),
ia 13 (.len false (.t 12)),
ia 14 (.bin .lss (.t 11) (.t 13))]) (.cond (.t 14) .skip (.exit 0))) (.seq (.block 1 (.seq (.reg [
  ir 17 (.mv (.t 0)),
ir 18 (.mv (.t 5)),
ir 19 (.ias 2 (.t 17) (.t 18)),
ir 20 (.ld 2 true (.t 19)),
ir 21 (.mv (.t 1)),
ir 22 (.mv (.t 5)),
ir 23 (.ias 2 (.t 21) (.t 22)),
ir 24 (.ld 2 true (.t 23)),
ia 25 (.eqg true [0,0] (.t 20) (.t 24))]) (.cond (.t 25) (.seq (.reg [
  ia 4 (.mv (.c (.a (.p (.b false)))))]) .ret) .skip))) (.reg [
  ia 15 (.mv (.t 5)),
ia 16 (.bin .add (.t 15) (ci 1)),
ia 5 (.mv (.t 16))])))
def F42 : FnC := ⟨2,(.seq (.reg [
  ia 4 (.mv (.c (.a (.p (.b false)))))]) (.seq (.seq (.reg [
  ia 6 (.mv (.t 0)),
ia 7 (.len false (.t 6)),
ia 8 (.mv (.t 1)),
ia 9 (.len false (.t 8)),
ia 10 (.bin .neq (.t 7) (.t 9))]) (.cond (.t 10) (.seq (.reg [
  ia 4 (.mv (.c (.a (.p (.b false)))))]) .ret) .skip)) (.seq (.seq (.reg [
  ia 5 (.mv (ci 0))]) (.block 0 (.loop F42b0))) (.seq (.reg [
  ia 4 (.mv (.c (.a (.p (.b true)))))]) .ret)))),[(.tmp 4)]⟩
theorem cc42 : ccF Try.prog [(43,[0,0]),(79,[1,0]),(60,[0,0]),(140,[0,0]),(43,[9]),(134,[8]),(136,[8]),(108,[8]),(135,[8]),(112,[8])] Try.f42 = some (stripF F42) := by kernel_rfl
def F43 : FnC := ⟨1,(.seq (.reg [
  ia 1 (.box 2 (.t 0)),
ia 2 (.mv (.c (.a .nil)))]) (.seq (.reg [
  ia 3 (.ld 2 true (.t 1)),
ia 4 (.call (.f 65) [(.t 3)]),
ia 5 (.call (.f 64) [(.t 4)]),
ia 2 (.mv (.t 5))]) .ret)),[(.tmp 2)]⟩
theorem cc43 : ccF Try.prog [(43,[0,0]),(79,[1,0]),(60,[0,0]),(140,[0,0]),(43,[9]),(134,[8]),(136,[8]),(108,[8]),(135,[8]),(112,[8])] Try.f43 = some (stripF F43) := by kernel_rfl
def F45 : FnC := ⟨1,(.seq (.reg [
  ia 1 (.box 2 (.t 0)),
ia 2 (.mv (.c (.a .nil)))]) (.seq (.reg [
  ia 3 (.new [.nil])]) (.seq (.seq (.reg [
  ia 5 (.ld 2 true (.t 1)),
ia 6 (.call (.f 65) [(.t 5)])]) (.block 0 (.rng (.t 6) [7] (.reg [
  ia 4 (.new [(.p (.i .i64 0)),(.p (.i .i64 0))]),
io (.st 2 (.t 4) (.t 7))]) (.block 1 (.seq (.reg [
  ia 8 (.ld 2 true (.t 1)),
ia 9 (.ld 2 true (.t 4)),
ia 10 (.call (.f 67) [(.t 8),(.t 9)])]) (.cond (.t 10) (.reg [
  ia 11 (.ld 1 false (.t 3)),
ia 12 (.ld 2 true (.t 4)),
ia 13 (.bsl 2 60 [(.p (.i .i64 0)),(.p (.i .i64 0))] 1 [(0,(.t 12))]),
ia 14 (.app 2 60 16 (.t 11) (.t 13)),
io (.st 1 (.t 3) (.t 14))]) .skip)))))) (.seq (.reg [
  ia 15 (.ld 1 false (.t 3)),
ia 2 (.mv (.t 15))]) .ret)))),[(.tmp 2)]⟩
theorem cc45 : ccF Try.prog [(43,[0,0]),(79,[1,0]),(60,[0,0]),(140,[0,0]),(43,[9]),(134,[8]),(136,[8]),(108,[8]),(135,[8]),(112,[8])] Try.f45 = some (stripF F45) := by kernel_rfl
def F48b0 : C := (.seq (.seq (.reg [
  ia 38 (.mv (.t 5)),
ia 39 (.fad 3 (.t 1)),
ia 40 (.ld 1 false (.t 39)),
ia 41 (.len false (.t 40)),
ia 42 (.bin .lss (.t 38) (.t 41))]) (.cond (.t 42) .skip (.exit 0))) (.seq (.block 1 (.reg [
  ia 45 (.mv (.t 3)),
ia 46 (.fad 3 (.t 1)),
ia 47 (.ld 1 false (.t 46)),
ia 48 (.mv (.t 5)),
ia 49 (.ias 4 (.t 47) (.t 48)),
ia 50 (.ld 4 true (.t 49)),
ia 51 (.call (.f 48) [(.t 50)]),
ia 52 (.bin .add (.t 45) (.t 51)),
ia 3 (.mv (.t 52))])) (.reg [
  ia 43 (.mv (.t 5)),
ia 44 (.bin .add (.t 43) (ci 1)),
ia 5 (.mv (.t 44))])))
def F48 : FnC := ⟨1,(.seq (.reg [
  ia 1 (.box 4 (.t 0)),
ia 2 (.mv (ci 0))]) (.seq (.reg [
  ia 3 (.mv (ci 0))]) (.seq (.seq (.reg [
  ia 6 (.fad 0 (.t 1)),
ia 7 (.ld 1 false (.t 6)),
ia 8 (.bin .eql (.t 7) (ci 3)),
ia 9 (.mv (.t 8)),
ig 10 9 false (.fad 0 (.t 1)),
ig 11 9 false (.ld 1 false (.t 10)),
ig 12 9 false (.bin .eql (.t 11) (ci 5)),
ia 13 (.pick (.t 9) (.c (.a (.p (.b true)))) (.t 12)),
ia 14 (.mv (.t 13)),
ig 15 14 false (.fad 0 (.t 1)),
ig 16 14 false (.ld 1 false (.t 15)),
ig 17 14 false (.bin .eql (.t 16) (ci 8)),
ia 18 (.pick (.t 14) (.c (.a (.p (.b true)))) (.t 17))]) (.cond (.t 18) (.seq (.reg [
  ia 19 (.fad 3 (.t 1)),
ia 20 (.ld 1 false (.t 19)),
ia 21 (.ias 4 (.t 20) (ci 0)),
ia 22 (.fad 0 (.t 21)),
ia 23 (.ld 1 false (.t 22)),
ia 4 (.mv (.t 23))]) (.seq (.reg [
  ia 24 (.mv (.t 4)),
ia 25 (.bin .eql (.t 24) (ci 2)),
ia 26 (.mv (.t 25)),
ig 27 26 false (.mv (.t 4)),
ig 28 26 false (.bin .eql (.t 27) (ci 4)),
ia 29 (.pick (.t 26) (.c (.a (.p (.b true)))) (.t 28)),
ia 30 (.mv (.t 29)),
ig 31 30 false (.mv (.t 4)),
ig 32 30 false (.bin .eql (.t 31) (ci 7)),
ia 33 (.pick (.t 30) (.c (.a (.p (.b true)))) (.t 32)),
ia 34 (.mv (.t 33)),
ig 35 34 false (.mv (.t 4)),
ig 36 34 false (.bin .eql (.t 35) (ci 9)),
ia 37 (.pick (.t 34) (.c (.a (.p (.b true)))) (.t 36))]) (.cond (.t 37) (.reg [
  ia 3 (.mv (ci 1))]) .skip))) .skip)) (.seq (.seq (.reg [
  ia 5 (.mv (ci 0))]) (.block 0 (.loop F48b0))) (.seq (.reg [
  ia 53 (.mv (.t 3)),
ia 2 (.mv (.t 53))]) .ret))))),[(.tmp 2)]⟩
theorem cc48 : ccF Try.prog [(43,[0,0]),(79,[1,0]),(60,[0,0]),(140,[0,0]),(43,[9]),(134,[8]),(136,[8]),(108,[8]),(135,[8]),(112,[8])] Try.f48 = some (stripF F48) := by kernel_rfl
def F50 : FnC := ⟨1,(.seq (.reg [
  ia 2 (.new [.nil,(.p (.i .i64 0))]),
ia 3 (.mv (ci 0))]) (.seq (.seq (.reg [
  ia 4 (.mv (.t 0)),
ia 5 (.bin .lss (.t 4) (ci 2)),
ia 6 (.mv (.t 5)),
ig 7 6 false (.mv (.t 0)),
ig 8 6 false (.bin .gtr (.t 7) (ci 4000)),
ia 9 (.pick (.t 6) (.c (.a (.p (.b true)))) (.t 8))]) (.cond (.t 9) (.seq (.reg [
  ia 10 (.build [.nil,(.p (.i .i64 0))] []),
io (.st 2 (.t 2) (.t 10)),
ia 3 (.mv (ci 1))]) .ret) .skip)) (.seq (.reg [
  ia 11 (.mv (.t 0)),
ia 12 (.build [(.p (.i .i64 0)),(.p (.i .i64 0))] [(0,(1,(ci 1)))]),
ia 13 (.bsl 2 43 [(.p (.i .i64 0)),(.p (.i .i64 0))] 1 [(0,(.t 12))]),
ia 14 (.build [(.p (.i .i64 0)),(.p (.i .i64 0)),(.p (.i .i64 0)),(.p (.s [])),.nil,.nil] [(0,(1,(ci 1))),(5,(1,(.t 13)))]),
ia 15 (.build [(.p (.i .i64 0)),(.p (.i .i64 0))] []),
ia 16 (.bsl 2 43 [(.p (.i .i64 0)),(.p (.i .i64 0))] 1 [(0,(.t 15))]),
ia 17 (.build [(.p (.i .i64 0)),(.p (.i .i64 0)),(.p (.i .i64 0)),(.p (.s [])),.nil,.nil] [(0,(1,(ci 13))),(5,(1,(.t 16)))]),
ia 18 (.bsl 6 41 [(.p (.i .i64 0)),(.p (.i .i64 0)),(.p (.i .i64 0)),(.p (.s [])),.nil,.nil] 2 [(0,(.t 14)),(1,(.t 17))]),
ia 19 (.build [.nil,(.p (.i .i64 0))] [(1,(1,(.t 11))),(0,(1,(.t 18)))]),
io (.st 2 (.t 2) (.t 19)),
ia 3 (.mv (ci 0))]) .ret))),[(.cell 2 2 true),(.tmp 3)]⟩
theorem cc50 : ccF Try.prog [(43,[0,0]),(79,[1,0]),(60,[0,0]),(140,[0,0]),(43,[9]),(134,[8]),(136,[8]),(108,[8]),(135,[8]),(112,[8])] Try.f50 = some (stripF F50) := by kernel_rfl
def F51b0 : C := (.seq (.seq (.reg [
  ia 8 (.mv (.t 4)),
ia 9 (.fad 0 (.t 1)),
ia 10 (.ld 1 false (.t 9)),
ia 11 (.len false (.t 10)),
ia 12 (.bin .lss (.t 8) (.t 11))]) (.cond (.t 12) .skip (.exit 0))) (.seq (.block 1 (.reg [
  ir 15 (.fad 0 (.t 3)),
ir 16 (.ld 1 false (.t 15)),
ir 17 (.fad 0 (.t 1)),
ir 18 (.ld 1 false (.t 17)),
ir 19 (.mv (.t 4)),
ir 20 (.ias 6 (.t 18) (.t 19)),
ir 21 (.ld 6 true (.t 20)),
⟨(.some 22),.none,(.bsl 6 41 [(.p (.i .i64 0)),(.p (.i .i64 0)),(.p (.i .i64 0)),(.p (.s [])),.nil,.nil] 1 [(0,(.t 21))]),.ad⟩,
ia 23 (.app 6 41 88 (.t 16) (.t 22)),
ia 24 (.fad 0 (.t 3)),
io (.st 1 (.t 24) (.t 23))])) (.reg [
  ia 13 (.mv (.t 4)),
ia 14 (.bin .add (.t 13) (ci 1)),
ia 4 (.mv (.t 14))])))
def F51 : FnC := ⟨1,(.seq (.reg [
  ia 1 (.box 2 (.t 0)),
ia 2 (.new [.nil,(.p (.i .i64 0))])]) (.seq (.reg [
  ia 5 (.fad 1 (.t 1)),
ia 6 (.ld 1 false (.t 5)),
ia 7 (.build [.nil,(.p (.i .i64 0))] [(1,(1,(.t 6)))]),
ia 3 (.new [.nil,(.p (.i .i64 0))]),
io (.st 2 (.t 3) (.t 7))]) (.seq (.seq (.reg [
  ia 4 (.mv (ci 0))]) (.block 0 (.loop F51b0))) (.seq (.reg [
  ia 25 (.ld 2 true (.t 3)),
io (.st 2 (.t 2) (.t 25))]) .ret)))),[(.cell 2 2 true)]⟩
theorem cc51 : ccF Try.prog [(43,[0,0]),(79,[1,0]),(60,[0,0]),(140,[0,0]),(43,[9]),(134,[8]),(136,[8]),(108,[8]),(135,[8]),(112,[8])] Try.f51 = some (stripF F51) := by kernel_rfl
def F52b1 : C := (.seq (.reg [
  ia 63 (.bin .lss (.t 62) (.t 61))]) (.seq (.cond (.t 63) .skip (.exit 2)) (.seq (.block 3 (.seq (.reg [
  ia 64 (.mv (.t 62)),
ia 6 (.mv (.t 64))]) (.seq (.reg [
  ia 65 (.ld 2 true (.t 1)),
ia 66 (.mv (.t 4)),
ia 67 (.mv (.t 6)),
ia 68 (.build [(.p (.i .i64 0)),(.p (.i .i64 0))] [(0,(1,(.t 66))),(1,(1,(.t 67)))]),
ia 69 (.call (.f 77) [(.t 65),(.t 68)]),
ia 70 (.not (.t 69))]) (.cond (.t 70) (.seq (.reg [
  ia 2 (.mv (ci 120))]) .ret) .skip)))) (.reg [
  ia 71 (.bin .add (.t 62) (ci 1)),
ia 62 (.mv (.t 71))]))))
def F52b0 : C := (.seq (.reg [
  ia 36 (.bin .lss (.t 35) (.t 34))]) (.seq (.cond (.t 36) .skip (.exit 0)) (.seq (.block 1 (.seq (.reg [
  ia 37 (.mv (.t 35)),
ia 38 (.ias 6 (.t 33) (.t 35)),
ia 39 (.ld 6 true (.t 38)),
ia 5 (.new [(.p (.i .i64 0)),(.p (.i .i64 0)),(.p (.i .i64 0)),(.p (.s [])),.nil,.nil]),
ia 4 (.mv (.t 37)),
io (.st 6 (.t 5) (.t 39))]) (.seq (.seq (.reg [
  ia 40 (.ld 6 true (.t 5)),
ia 41 (.call (.f 75) [(.t 40)]),
ia 42 (.not (.t 41)),
ia 43 (.mv (.t 42)),
ih 44 43 false (.fad 5 (.t 5)),
ih 45 43 false (.ld 1 false (.t 44)),
ih 46 43 false (.len false (.t 45)),
ih 47 43 false (.ld 6 true (.t 5)),
ih 48 43 false (.call (.f 76) [(.t 47)]),
ig 49 43 false (.bin .neq (.t 46) (.t 48)),
ia 50 (.pick (.t 43) (.c (.a (.p (.b true)))) (.t 49)),
ia 51 (.mv (.t 50)),
ih 52 51 false (.fad 0 (.t 5)),
ih 53 51 false (.ld 1 false (.t 52)),
ih 54 51 false (.bin .eql (.t 53) (ci 1)),
ih 55 51 false (.mv (.t 4)),
ih 56 51 false (.bin .eql (.t 55) (ci 0)),
ig 57 51 false (.eqb true (.t 54) (.t 56)),
ia 58 (.pick (.t 51) (.c (.a (.p (.b true)))) (.t 57))]) (.cond (.t 58) (.seq (.reg [
  ia 2 (.mv (ci 120))]) .ret) .skip)) (.seq (.reg [
  ia 59 (.fad 5 (.t 5)),
ia 60 (.ld 1 false (.t 59)),
ia 61 (.len false (.t 60)),
ia 62 (.mv (ci 0))]) (.block 2 (.loop F52b1)))))) (.reg [
  ia 72 (.bin .add (.t 35) (ci 1)),
ia 35 (.mv (.t 72))]))))
def F52 : FnC := ⟨1,(.seq (.reg [
  ia 1 (.box 2 (.t 0)),
ia 2 (.mv (ci 0))]) (.seq (.reg [
  ia 7 (.fad 0 (.t 1)),
ia 8 (.ld 1 false (.t 7)),
ia 9 (.len false (.t 8)),
ia 10 (.bin .sub (.t 9) (ci 1)),
ia 3 (.mv (.t 10))]) (.seq (.seq (.reg [
  ia 11 (.fad 1 (.t 1)),
ia 12 (.ld 1 false (.t 11)),
ia 13 (.call (.f 74) [(.t 12),(ci 1),(ci 4000)]),
ia 14 (.not (.t 13)),
ia 15 (.mv (.t 14)),
ig 16 15 false (.mv (.t 3)),
ig 17 15 false (.bin .add (.t 16) (ci 1)),
ig 18 15 false (.fad 1 (.t 1)),
ig 19 15 false (.ld 1 false (.t 18)),
ig 20 15 false (.call (.f 74) [(.t 17),(ci 1),(.t 19)]),
ig 21 15 false (.not (.t 20)),
ia 22 (.pick (.t 15) (.c (.a (.p (.b true)))) (.t 21)),
ia 23 (.mv (.t 22)),
ig 24 23 false (.fad 0 (.t 1)),
ig 25 23 false (.ld 1 false (.t 24)),
ig 26 23 false (.mv (.t 3)),
ig 27 23 false (.ias 6 (.t 25) (.t 26)),
ig 28 23 false (.fad 0 (.t 27)),
ig 29 23 false (.ld 1 false (.t 28)),
ig 30 23 false (.bin .eql (.t 29) (ci 0)),
ia 31 (.pick (.t 23) (.c (.a (.p (.b true)))) (.t 30))]) (.cond (.t 31) (.seq (.reg [
  ia 2 (.mv (ci 120))]) .ret) .skip)) (.seq (.seq (.reg [
  ia 32 (.fad 0 (.t 1)),
ia 33 (.ld 1 false (.t 32)),
ia 34 (.len false (.t 33)),
ia 35 (.mv (ci 0))]) (.block 0 (.loop F52b0))) (.seq (.reg [
  ia 2 (.mv (ci 0))]) .ret))))),[(.tmp 2)]⟩
theorem cc52 : ccF Try.prog [(43,[0,0]),(79,[1,0]),(60,[0,0]),(140,[0,0]),(43,[9]),(134,[8]),(136,[8]),(108,[8]),(135,[8]),(112,[8])] Try.f52 = some (stripF F52) := by kernel_rfl
def F56b1 : C := (.seq (.seq (.reg [
  ia 140 (.mv (.t 4)),
ia 141 (.mv (.t 3)),
ia 142 (.bin .lss (.t 140) (.t 141))]) (.cond (.t 142) .skip (.exit 2))) (.seq (.block 3 (.seq (.reg [
  ir 145 (.fad 4 (.t 1)),
ir 146 (.ld 1 false (.t 145)),
ir 147 (.mv (.t 4)),
ir 148 (.ias 2 (.t 146) (.t 147)),
ir 149 (.fad 0 (.t 148)),
ir 150 (.ld 1 false (.t 149)),
ir 151 (.fad 4 (.t 1)),
ir 152 (.ld 1 false (.t 151)),
ir 153 (.mv (.t 3)),
ir 154 (.ias 2 (.t 152) (.t 153)),
ir 155 (.fad 0 (.t 154)),
ir 156 (.ld 1 false (.t 155)),
ia 157 (.bin .eql (.t 150) (.t 156))]) (.cond (.t 157) (.seq (.reg [
  ia 2 (.mv (.c (.a (.p (.b false)))))]) .ret) .skip))) (.reg [
  ia 143 (.mv (.t 4)),
ia 144 (.bin .add (.t 143) (ci 1)),
ia 4 (.mv (.t 144))])))
def F56b0 : C := (.seq (.seq (.reg [
  ia 108 (.mv (.t 3)),
ia 109 (.fad 4 (.t 1)),
ia 110 (.ld 1 false (.t 109)),
ia 111 (.len false (.t 110)),
ia 112 (.bin .lss (.t 108) (.t 111))]) (.cond (.t 112) .skip (.exit 0))) (.seq (.block 1 (.seq (.seq (.reg [
  ia 115 (.fad 4 (.t 1)),
ia 116 (.ld 1 false (.t 115)),
ia 117 (.mv (.t 3)),
ia 118 (.ias 2 (.t 116) (.t 117)),
ia 119 (.fad 0 (.t 118)),
ia 120 (.ld 1 false (.t 119)),
ia 121 (.bin .eql (.t 120) (.c (.a (.p (.s []))))),
ia 122 (.mv (.t 121)),
ig 123 122 false (.fad 4 (.t 1)),
ig 124 122 false (.ld 1 false (.t 123)),
ig 125 122 false (.mv (.t 3)),
ig 126 122 false (.ias 2 (.t 124) (.t 125)),
ig 127 122 false (.fad 1 (.t 126)),
ig 128 122 false (.ld 1 false (.t 127)),
ig 129 122 false (.bin .lss (.t 128) (ci 0)),
ia 130 (.pick (.t 122) (.c (.a (.p (.b true)))) (.t 129)),
ia 131 (.mv (.t 130)),
ig 132 131 false (.fad 4 (.t 1)),
ig 133 131 false (.ld 1 false (.t 132)),
ig 134 131 false (.mv (.t 3)),
ig 135 131 false (.ias 2 (.t 133) (.t 134)),
ig 136 131 false (.fad 1 (.t 135)),
ig 137 131 false (.ld 1 false (.t 136)),
ig 138 131 false (.bin .gtr (.t 137) (ci 8)),
ia 139 (.pick (.t 131) (.c (.a (.p (.b true)))) (.t 138))]) (.cond (.t 139) (.seq (.reg [
  ia 2 (.mv (.c (.a (.p (.b false)))))]) .ret) .skip)) (.seq (.reg [
  ia 4 (.mv (ci 0))]) (.block 2 (.loop F56b1))))) (.reg [
  ia 113 (.mv (.t 3)),
ia 114 (.bin .add (.t 113) (ci 1)),
ia 3 (.mv (.t 114))])))
def F56 : FnC := ⟨1,(.seq (.reg [
  ia 1 (.box 6 (.t 0)),
ia 2 (.mv (.c (.a (.p (.b false)))))]) (.seq (.seq (.reg [
  ia 5 (.fad 0 (.t 1)),
ia 6 (.ld 1 false (.t 5)),
ia 7 (.bin .lss (.t 6) (ci 0)),
ia 8 (.mv (.t 7)),
ig 9 8 false (.fad 0 (.t 1)),
ig 10 8 false (.ld 1 false (.t 9)),
ig 11 8 false (.bin .gtr (.t 10) (ci 13)),
ia 12 (.pick (.t 8) (.c (.a (.p (.b true)))) (.t 11)),
ia 13 (.mv (.t 12)),
ig 14 13 false (.fad 1 (.t 1)),
ig 15 13 false (.ld 1 false (.t 14)),
ig 16 13 false (.bin .lss (.t 15) (ci 0)),
ia 17 (.pick (.t 13) (.c (.a (.p (.b true)))) (.t 16)),
ia 18 (.mv (.t 17)),
ig 19 18 false (.fad 1 (.t 1)),
ig 20 18 false (.ld 1 false (.t 19)),
ig 21 18 false (.bin .gtr (.t 20) (ci 60)),
ia 22 (.pick (.t 18) (.c (.a (.p (.b true)))) (.t 21)),
ia 23 (.mv (.t 22)),
ig 24 23 false (.fad 0 (.t 1)),
ig 25 23 false (.ld 1 false (.t 24)),
ig 26 23 false (.bin .lss (.t 25) (ci 2)),
ig 27 23 false (.mv (.t 26)),
ig 28 27 true (.fad 1 (.t 1)),
ig 29 27 true (.ld 1 false (.t 28)),
ig 30 27 true (.bin .gtr (.t 29) (ci 0)),
ig 31 23 false (.pick (.t 27) (.t 30) (.c (.a (.p (.b false))))),
ia 32 (.pick (.t 23) (.c (.a (.p (.b true)))) (.t 31))]) (.cond (.t 32) (.seq (.reg [
  ia 2 (.mv (.c (.a (.p (.b false)))))]) .ret) .skip)) (.seq (.seq (.reg [
  ia 33 (.fad 3 (.t 1)),
ia 34 (.ld 1 false (.t 33)),
ia 35 (.bin .neq (.t 34) (.c (.a (.p (.s []))))),
ia 36 (.fad 0 (.t 1)),
ia 37 (.ld 1 false (.t 36)),
ia 38 (.bin .eql (.t 37) (ci 8)),
ia 39 (.mv (.t 38)),
ig 40 39 false (.fad 0 (.t 1)),
ig 41 39 false (.ld 1 false (.t 40)),
ig 42 39 false (.bin .eql (.t 41) (ci 11)),
ia 43 (.pick (.t 39) (.c (.a (.p (.b true)))) (.t 42)),
ia 44 (.mv (.t 43)),
ig 45 44 false (.fad 0 (.t 1)),
ig 46 44 false (.ld 1 false (.t 45)),
ig 47 44 false (.bin .eql (.t 46) (ci 12)),
ia 48 (.pick (.t 44) (.c (.a (.p (.b true)))) (.t 47)),
ia 49 (.eqb true (.t 35) (.t 48)),
ia 50 (.mv (.t 49)),
ig 51 50 false (.fad 2 (.t 1)),
ig 52 50 false (.ld 1 false (.t 51)),
ig 53 50 false (.bin .neq (.t 52) (ci 0)),
ig 54 50 false (.mv (.t 53)),
ig 55 54 true (.fad 0 (.t 1)),
ig 56 54 true (.ld 1 false (.t 55)),
ig 57 54 true (.bin .neq (.t 56) (ci 10)),
ig 58 50 false (.pick (.t 54) (.t 57) (.c (.a (.p (.b false))))),
ig 59 50 false (.mv (.t 58)),
ig 60 59 true (.fad 0 (.t 1)),
ig 61 59 true (.ld 1 false (.t 60)),
ig 62 59 true (.bin .neq (.t 61) (ci 12)),
ig 63 50 false (.pick (.t 59) (.t 62) (.c (.a (.p (.b false))))),
ia 64 (.pick (.t 50) (.c (.a (.p (.b true)))) (.t 63))]) (.cond (.t 64) (.seq (.reg [
  ia 2 (.mv (.c (.a (.p (.b false)))))]) .ret) .skip)) (.seq (.seq (.reg [
  ia 65 (.fad 0 (.t 1)),
ia 66 (.ld 1 false (.t 65)),
ia 67 (.bin .eql (.t 66) (ci 8)),
ia 68 (.mv (.t 67)),
ig 69 68 true (.fad 5 (.t 1)),
ig 70 68 true (.ld 1 false (.t 69)),
ig 71 68 true (.len false (.t 70)),
ig 72 68 true (.bin .lss (.t 71) (ci 1)),
ig 73 68 true (.mv (.t 72)),
ig 74 73 false (.fad 5 (.t 1)),
ig 75 73 false (.ld 1 false (.t 74)),
ig 76 73 false (.len false (.t 75)),
ig 77 73 false (.bin .gtr (.t 76) (ci 9)),
ig 78 68 true (.pick (.t 73) (.c (.a (.p (.b true)))) (.t 77)),
ia 79 (.pick (.t 68) (.t 78) (.c (.a (.p (.b false))))),
ia 80 (.mv (.t 79)),
ig 81 80 false (.fad 0 (.t 1)),
ig 82 80 false (.ld 1 false (.t 81)),
ig 83 80 false (.bin .eql (.t 82) (ci 9)),
ig 84 80 false (.mv (.t 83)),
ig 85 84 true (.fad 4 (.t 1)),
ig 86 84 true (.ld 1 false (.t 85)),
ig 87 84 true (.len false (.t 86)),
ig 88 84 true (.bin .lss (.t 87) (ci 1)),
ig 89 80 false (.pick (.t 84) (.t 88) (.c (.a (.p (.b false))))),
ia 90 (.pick (.t 80) (.c (.a (.p (.b true)))) (.t 89)),
ia 91 (.mv (.t 90)),
ig 92 91 false (.fad 0 (.t 1)),
ig 93 91 false (.ld 1 false (.t 92)),
ig 94 91 false (.bin .neq (.t 93) (ci 9)),
ig 95 91 false (.mv (.t 94)),
ig 96 95 true (.fad 4 (.t 1)),
ig 97 95 true (.ld 1 false (.t 96)),
ig 98 95 true (.len false (.t 97)),
ig 99 95 true (.bin .gtr (.t 98) (ci 0)),
ig 100 91 false (.pick (.t 95) (.t 99) (.c (.a (.p (.b false))))),
ia 101 (.pick (.t 91) (.c (.a (.p (.b true)))) (.t 100)),
ia 102 (.mv (.t 101)),
ig 103 102 false (.fad 4 (.t 1)),
ig 104 102 false (.ld 1 false (.t 103)),
ig 105 102 false (.len false (.t 104)),
ig 106 102 false (.bin .gtr (.t 105) (ci 8)),
ia 107 (.pick (.t 102) (.c (.a (.p (.b true)))) (.t 106))]) (.cond (.t 107) (.seq (.reg [
  ia 2 (.mv (.c (.a (.p (.b false)))))]) .ret) .skip)) (.seq (.seq (.reg [
  ia 3 (.mv (ci 0))]) (.block 0 (.loop F56b0))) (.seq (.reg [
  ia 2 (.mv (.c (.a (.p (.b true)))))]) .ret)))))),[(.tmp 2)]⟩
theorem cc56 : ccF Try.prog [(43,[0,0]),(79,[1,0]),(60,[0,0]),(140,[0,0]),(43,[9]),(134,[8]),(136,[8]),(108,[8]),(135,[8]),(112,[8])] Try.f56 = some (stripF F56) := by kernel_rfl
def F57 : FnC := ⟨1,(.seq (.reg [
  ia 1 (.box 6 (.t 0)),
ia 2 (.mv (ci 0))]) (.seq (.seq (.reg [
  ia 3 (.fad 0 (.t 1)),
ia 4 (.ld 1 false (.t 3))]) (.block 0 (.seq (.seq (.reg [
  ia 6 (.bin .eql (.t 4) (ci 1)),
ia 5 (.mv (.t 6))]) (.cond (.t 5) .skip (.seq (.reg [
  ia 7 (.bin .eql (.t 4) (ci 7)),
ia 5 (.mv (.t 7))]) (.cond (.t 5) .skip (.seq (.reg [
  ia 8 (.bin .eql (.t 4) (ci 10)),
ia 5 (.mv (.t 8))]) (.cond (.t 5) .skip (.reg [
  ia 9 (.bin .eql (.t 4) (ci 13)),
ia 5 (.mv (.t 9))]))))))) (.cond (.t 5) (.seq (.reg [
  ia 2 (.mv (ci 1))]) .ret) (.seq (.seq (.reg [
  ia 11 (.bin .eql (.t 4) (ci 5)),
ia 10 (.mv (.t 11))]) (.cond (.t 10) .skip (.seq (.reg [
  ia 12 (.bin .eql (.t 4) (ci 6)),
ia 10 (.mv (.t 12))]) (.cond (.t 10) .skip (.reg [
  ia 13 (.bin .eql (.t 4) (ci 12)),
ia 10 (.mv (.t 13))]))))) (.cond (.t 10) (.seq (.reg [
  ia 2 (.mv (ci 2))]) .ret) (.seq (.seq (.reg [
  ia 15 (.bin .eql (.t 4) (ci 2)),
ia 14 (.mv (.t 15))]) (.cond (.t 14) .skip (.seq (.reg [
  ia 16 (.bin .eql (.t 4) (ci 3)),
ia 14 (.mv (.t 16))]) (.cond (.t 14) .skip (.seq (.reg [
  ia 17 (.bin .eql (.t 4) (ci 4)),
ia 14 (.mv (.t 17))]) (.cond (.t 14) .skip (.reg [
  ia 18 (.bin .eql (.t 4) (ci 11)),
ia 14 (.mv (.t 18))]))))))) (.cond (.t 14) (.seq (.reg [
  ia 2 (.mv (ci 3))]) .ret) (.seq (.reg [
  ia 20 (.bin .eql (.t 4) (ci 8)),
ia 19 (.mv (.t 20))]) (.cond (.t 19) (.seq (.reg [
  ia 21 (.fad 5 (.t 1)),
ia 22 (.ld 1 false (.t 21)),
ia 23 (.len false (.t 22)),
ia 2 (.mv (.t 23))]) .ret) (.seq (.reg [
  ia 25 (.bin .eql (.t 4) (ci 9)),
ia 24 (.mv (.t 25))]) (.cond (.t 24) (.seq (.reg [
  ia 26 (.fad 4 (.t 1)),
ia 27 (.ld 1 false (.t 26)),
ia 28 (.len false (.t 27)),
ia 29 (.bin .add (ci 2) (.t 28)),
ia 2 (.mv (.t 29))]) .ret) .skip)))))))))))) (.seq (.reg [
  ia 2 (.mv (ci 0))]) .ret))),[(.tmp 2)]⟩
theorem cc57 : ccF Try.prog [(43,[0,0]),(79,[1,0]),(60,[0,0]),(140,[0,0]),(43,[9]),(134,[8]),(136,[8]),(108,[8]),(135,[8]),(112,[8])] Try.f57 = some (stripF F57) := by kernel_rfl
def F58b0 : C := (.seq (.seq (.reg [
  ia 16 (.mv (.t 7)),
ia 17 (.fad 3 (.t 3)),
ia 18 (.ld 1 false (.t 17)),
ia 19 (.len false (.t 18)),
ia 20 (.bin .lss (.t 16) (.t 19))]) (.cond (.t 20) .skip (.exit 0))) (.seq (.block 1 (.seq (.reg [
  ia 23 (.fad 3 (.t 3)),
ia 24 (.ld 1 false (.t 23)),
ia 25 (.mv (.t 7)),
ia 26 (.ias 4 (.t 24) (.t 25)),
ia 27 (.ld 4 true (.t 26)),
ia 28 (.mv (.t 1)),
ia 29 (.mv (.t 2)),
ia 30 (.bin .sub (.t 29) (ci 1)),
ia 31 (.call (.f 58) [(.t 27),(.t 28),(.t 30)]),
ia 1 (.mv (.t 31))]) (.seq (.reg [
  ia 32 (.mv (.t 1)),
ia 33 (.bin .lss (.t 32) (ci 0))]) (.cond (.t 33) (.seq (.reg [
  ia 6 (.mv (.c (.a (.p (.i .i64 (-1))))))]) .ret) .skip)))) (.reg [
  ia 21 (.mv (.t 7)),
ia 22 (.bin .add (.t 21) (ci 1)),
ia 7 (.mv (.t 22))])))
def F58 : FnC := ⟨3,(.seq (.reg [
  ia 3 (.box 4 (.t 0)),
ia 6 (.mv (ci 0))]) (.seq (.seq (.reg [
  ia 8 (.mv (.t 1)),
ia 9 (.bin .lss (.t 8) (ci 1)),
ia 10 (.mv (.t 9)),
ig 11 10 false (.mv (.t 2)),
ig 12 10 false (.bin .lss (.t 11) (ci 1)),
ia 13 (.pick (.t 10) (.c (.a (.p (.b true)))) (.t 12))]) (.cond (.t 13) (.seq (.reg [
  ia 6 (.mv (.c (.a (.p (.i .i64 (-1))))))]) .ret) .skip)) (.seq (.reg [
  ia 14 (.mv (.t 1)),
ia 15 (.bin .sub (.t 14) (ci 1)),
ia 1 (.mv (.t 15))]) (.seq (.seq (.reg [
  ia 7 (.mv (ci 0))]) (.block 0 (.loop F58b0))) (.seq (.reg [
  ia 34 (.mv (.t 1)),
ia 6 (.mv (.t 34))]) .ret))))),[(.tmp 6)]⟩
theorem cc58 : ccF Try.prog [(43,[0,0]),(79,[1,0]),(60,[0,0]),(140,[0,0]),(43,[9]),(134,[8]),(136,[8]),(108,[8]),(135,[8]),(112,[8])] Try.f58 = some (stripF F58) := by kernel_rfl
def F59b1 : C := (.seq (.seq (.reg [
  ia 52 (.mv (.t 8)),
ia 53 (.mv (.t 7)),
ia 54 (.bin .lss (.t 52) (.t 53)),
ia 55 (.mv (.t 54)),
ig 56 55 true (.fad 0 (.t 3)),
ig 57 55 true (.ld 1 false (.t 56)),
ig 58 55 true (.bin .eql (.t 57) (ci 5)),
ia 59 (.pick (.t 55) (.t 58) (.c (.a (.p (.b false)))))]) (.cond (.t 59) .skip (.exit 2))) (.seq (.block 3 (.seq (.reg [
  ir 62 (.fad 3 (.t 3)),
ir 63 (.ld 1 false (.t 62)),
ir 64 (.mv (.t 8)),
ir 65 (.ias 4 (.t 63) (.t 64)),
ir 66 (.fad 2 (.t 65)),
ir 67 (.ld 1 false (.t 66)),
ir 68 (.fad 3 (.t 3)),
ir 69 (.ld 1 false (.t 68)),
ir 70 (.mv (.t 7)),
ir 71 (.ias 4 (.t 69) (.t 70)),
ir 72 (.fad 2 (.t 71)),
ir 73 (.ld 1 false (.t 72)),
ia 74 (.bin .eql (.t 67) (.t 73))]) (.cond (.t 74) (.seq (.reg [
  ia 6 (.mv (.c (.a (.p (.b false)))))]) .ret) .skip))) (.reg [
  ia 60 (.mv (.t 8)),
ia 61 (.bin .add (.t 60) (ci 1)),
ia 8 (.mv (.t 61))])))
def F59b0 : C := (.seq (.seq (.reg [
  ia 30 (.mv (.t 7)),
ia 31 (.fad 3 (.t 3)),
ia 32 (.ld 1 false (.t 31)),
ia 33 (.len false (.t 32)),
ia 34 (.bin .lss (.t 30) (.t 33))]) (.cond (.t 34) .skip (.exit 0))) (.seq (.block 1 (.seq (.seq (.reg [
  ir 37 (.fad 3 (.t 3)),
ir 38 (.ld 1 false (.t 37)),
ir 39 (.mv (.t 7)),
ir 40 (.ias 4 (.t 38) (.t 39)),
ir 41 (.ld 4 true (.t 40)),
ir 42 (.mv (.t 1)),
ir 43 (.fad 0 (.t 3)),
ir 44 (.ld 1 false (.t 43)),
ir 45 (.bin .eql (.t 44) (ci 5)),
ir 46 (.mv (.t 45)),
ih 47 46 true (.mv (.t 7)),
ih 48 46 true (.bin .gtr (.t 47) (ci 0)),
ir 49 (.pick (.t 46) (.t 48) (.c (.a (.p (.b false))))),
ia 50 (.call (.f 59) [(.t 41),(.t 42),(.t 49)]),
ia 51 (.not (.t 50))]) (.cond (.t 51) (.seq (.reg [
  ia 6 (.mv (.c (.a (.p (.b false)))))]) .ret) .skip)) (.seq (.reg [
  ia 8 (.mv (ci 1))]) (.block 2 (.loop F59b1))))) (.reg [
  ia 35 (.mv (.t 7)),
ia 36 (.bin .add (.t 35) (ci 1)),
ia 7 (.mv (.t 36))])))
def F59 : FnC := ⟨3,(.seq (.reg [
  ia 3 (.box 4 (.t 0)),
ia 6 (.mv (.c (.a (.p (.b false)))))]) (.seq (.seq (.reg [
  ia 9 (.mv (.t 1)),
ia 10 (.bin .lss (.t 9) (ci 0)),
ia 11 (.mv (.t 10)),
ig 12 11 false (.ld 4 true (.t 3)),
ig 13 11 false (.mv (.t 1)),
ig 14 11 false (.mv (.t 2)),
ig 15 11 false (.call (.f 81) [(.t 12),(.t 13),(.t 14)]),
ig 16 11 false (.not (.t 15)),
ia 17 (.pick (.t 11) (.c (.a (.p (.b true)))) (.t 16))]) (.cond (.t 17) (.seq (.reg [
  ia 6 (.mv (.c (.a (.p (.b false)))))]) .ret) .skip)) (.seq (.seq (.reg [
  ia 18 (.fad 0 (.t 3)),
ia 19 (.ld 1 false (.t 18)),
ia 20 (.bin .eql (.t 19) (ci 2))]) (.cond (.t 20) (.reg [
  ia 21 (.mv (.t 1)),
ia 22 (.bin .add (.t 21) (ci 1)),
ia 1 (.mv (.t 22))]) .skip)) (.seq (.seq (.reg [
  ia 23 (.fad 0 (.t 3)),
ia 24 (.ld 1 false (.t 23)),
ia 25 (.bin .eql (.t 24) (ci 6))]) (.cond (.t 25) (.reg [
  ia 26 (.mv (.t 1)),
ia 27 (.fad 1 (.t 3)),
ia 28 (.ld 1 false (.t 27)),
ia 29 (.bin .add (.t 26) (.t 28)),
ia 1 (.mv (.t 29))]) .skip)) (.seq (.seq (.reg [
  ia 7 (.mv (ci 0))]) (.block 0 (.loop F59b0))) (.seq (.reg [
  ia 6 (.mv (.c (.a (.p (.b true)))))]) .ret)))))),[(.tmp 6)]⟩
theorem cc59 : ccF Try.prog [(43,[0,0]),(79,[1,0]),(60,[0,0]),(140,[0,0]),(43,[9]),(134,[8]),(136,[8]),(108,[8]),(135,[8]),(112,[8])] Try.f59 = some (stripF F59) := by kernel_rfl
def F60b0 : C := (.seq (.seq (.reg [
  ia 85 (.mv (.t 11)),
ia 86 (.fad 3 (.t 4)),
ia 87 (.ld 1 false (.t 86)),
ia 88 (.len false (.t 87)),
ia 89 (.bin .lss (.t 85) (.t 88))]) (.cond (.t 89) .skip (.exit 1))) (.seq (.block 2 (.reg [
  ir 92 (.fad 4 (.t 7)),
ir 93 (.ld 1 false (.t 92)),
ir 94 (.fad 3 (.t 4)),
ir 95 (.ld 1 false (.t 94)),
ir 96 (.mv (.t 11)),
ir 97 (.ias 4 (.t 95) (.t 96)),
ir 98 (.fad 2 (.t 97)),
ir 99 (.ld 1 false (.t 98)),
ir 100 (.fad 3 (.t 4)),
ir 101 (.ld 1 false (.t 100)),
ir 102 (.mv (.t 11)),
ir 103 (.ias 4 (.t 101) (.t 102)),
ir 104 (.fad 1 (.t 103)),
ir 105 (.ld 1 false (.t 104)),
ir 106 (.build [(.p (.s [])),(.p (.i .i64 0))] [(0,(1,(.t 99))),(1,(1,(.t 105)))]),
⟨(.some 107),.none,(.bsl 2 79 [(.p (.s [])),(.p (.i .i64 0))] 1 [(0,(.t 106))]),.ad⟩,
ia 108 (.app 2 79 24 (.t 93) (.t 107)),
ia 109 (.fad 4 (.t 7)),
io (.st 1 (.t 109) (.t 108))])) (.reg [
  ia 90 (.mv (.t 11)),
ia 91 (.bin .add (.t 90) (ci 1)),
ia 11 (.mv (.t 91))])))
def F60r0 : C := (.seq (.reg [
  ia 12 (.mv (.t 2)),
ia 13 (.build [(.p (.i .i64 0)),(.p (.i .i64 0)),(.p (.i .i64 0)),(.p (.s [])),.nil,.nil] [(1,(1,(.t 12)))]),
ia 7 (.new [(.p (.i .i64 0)),(.p (.i .i64 0)),(.p (.i .i64 0)),(.p (.s [])),.nil,.nil]),
io (.st 6 (.t 7) (.t 13))]) (.seq (.seq (.reg [
  ia 14 (.fad 0 (.t 4)),
ia 15 (.ld 1 false (.t 14))]) (.block 0 (.seq (.seq (.reg [
  ia 17 (.bin .eql (.t 15) (ci 1)),
ia 16 (.mv (.t 17))]) (.cond (.t 16) .skip (.seq (.reg [
  ia 18 (.bin .eql (.t 15) (ci 7)),
ia 16 (.mv (.t 18))]) (.cond (.t 16) .skip (.reg [
  ia 19 (.bin .eql (.t 15) (ci 9)),
ia 16 (.mv (.t 19))]))))) (.cond (.t 16) (.seq (.reg [
  ia 20 (.fad 0 (.t 7)),
io (.st 1 (.t 20) (ci 13))]) (.seq (.seq (.reg [
  ia 21 (.fad 0 (.t 4)),
ia 22 (.ld 1 false (.t 21)),
ia 23 (.bin .eql (.t 22) (ci 1))]) (.cond (.t 23) (.reg [
  ia 24 (.fad 0 (.t 7)),
io (.st 1 (.t 24) (ci 5))]) .skip)) (.seq (.seq (.reg [
  ia 25 (.fad 0 (.t 4)),
ia 26 (.ld 1 false (.t 25)),
ia 27 (.bin .eql (.t 26) (ci 7))]) (.cond (.t 27) (.seq (.reg [
  ia 28 (.fad 0 (.t 7)),
io (.st 1 (.t 28) (ci 10))]) (.reg [
  ia 29 (.fad 1 (.t 4)),
ia 30 (.ld 1 false (.t 29)),
ia 31 (.fad 2 (.t 7)),
io (.st 1 (.t 31) (.t 30))])) .skip)) (.seq (.reg [
  ia 33 (.ld 2 true (.t 3)),
ia 34 (.ld 6 true (.t 7)),
ia 35 (.call (.f 82) [(.t 33),(.t 34)]),
ia 32 (.mv (.t 35)),
ia 36 (.ext (.t 32) 0),
ia 37 (.ext (.t 32) 1),
ia 38 (.ext (.t 32) 2),
ia 8 (.new [.nil,(.p (.i .i64 0))]),
io (.st 2 (.t 8) (.t 36)),
ia 9 (.mv (.t 37)),
ia 10 (.mv (.t 38))]) (.seq (.seq (.reg [
  ia 39 (.fad 0 (.t 4)),
ia 40 (.ld 1 false (.t 39)),
ia 41 (.bin .eql (.t 40) (ci 1))]) (.cond (.t 41) (.seq (.reg [
  ir 42 (.ld 2 true (.t 8)),
ir 43 (.mv (.t 9)),
ir 44 (.call (.f 62) [(.t 43),(ci 1)]),
ir 45 (.fad 1 (.t 4)),
ir 46 (.ld 1 false (.t 45)),
ir 47 (.mv (.t 9)),
ir 48 (.call (.f 62) [(.t 47),(ci 0)]),
ir 49 (.build [(.p (.i .i64 0)),(.p (.i .i64 0)),(.p (.i .i64 0))] [(0,(1,(.t 46))),(1,(2,(.t 48)))]),
⟨(.some 50),.none,(.bsl 3 108 [(.p (.i .i64 0)),(.p (.i .i64 0)),(.p (.i .i64 0))] 1 [(0,(.t 49))]),.ad⟩,
ir 51 (.mv (.t 10)),
ia 52 (.build [.nil,(.p (.i .i64 0)),(.p (.i .i64 0)),(.p (.i .i64 0)),.nil,(.p (.i .i64 0))] [(0,(2,(.t 42))),(2,(2,(.t 44))),(4,(1,(.t 50))),(5,(1,(.t 51)))]),
io (.st 6 (.t 6) (.t 52))]) .ret) .skip)) (.seq (.reg [
  ir 53 (.ld 2 true (.t 8)),
ir 54 (.mv (.t 9)),
ir 55 (.call (.f 62) [(.t 54),(ci 0)]),
ir 56 (.mv (.t 10)),
ia 57 (.build [.nil,(.p (.i .i64 0)),(.p (.i .i64 0)),(.p (.i .i64 0)),.nil,(.p (.i .i64 0))] [(0,(2,(.t 53))),(2,(2,(.t 55))),(5,(1,(.t 56)))]),
io (.st 6 (.t 6) (.t 57))]) .ret)))))) (.seq (.reg [
  ia 59 (.bin .eql (.t 15) (ci 2)),
ia 58 (.mv (.t 59))]) (.cond (.t 58) (.seq (.reg [
  ir 60 (.ld 2 true (.t 3)),
ir 61 (.fad 3 (.t 4)),
ir 62 (.ld 1 false (.t 61)),
ir 63 (.ias 4 (.t 62) (ci 0)),
ir 64 (.ld 4 true (.t 63)),
ir 65 (.mv (.t 2)),
ia 66 (.call (.f 83) [(.t 60),(.t 64),(ci 1),(.t 65)]),
io (.st 6 (.t 6) (.t 66))]) .ret) (.seq (.reg [
  ia 68 (.bin .eql (.t 15) (ci 3)),
ia 67 (.mv (.t 68))]) (.cond (.t 67) (.reg [
  ia 69 (.fad 0 (.t 7)),
io (.st 1 (.t 69) (ci 3))]) (.seq (.reg [
  ia 71 (.bin .eql (.t 15) (ci 4)),
ia 70 (.mv (.t 71))]) (.cond (.t 70) (.seq (.reg [
  ia 72 (.fad 0 (.t 7)),
io (.st 1 (.t 72) (ci 8))]) (.seq (.reg [
  ia 73 (.fad 2 (.t 4)),
ia 74 (.ld 1 false (.t 73)),
ia 75 (.fad 3 (.t 7)),
io (.st 1 (.t 75) (.t 74))]) (.reg [
  ia 76 (.fad 3 (.t 4)),
ia 77 (.ld 1 false (.t 76)),
ia 78 (.len false (.t 77)),
ia 79 (.bin .add (.t 78) (ci 1)),
ia 80 (.mslF 2 43 16 [(.p (.i .i64 0)),(.p (.i .i64 0))] (.t 79) (.t 79)),
ia 81 (.fad 5 (.t 7)),
io (.st 1 (.t 81) (.t 80))]))) (.seq (.reg [
  ia 83 (.bin .eql (.t 15) (ci 5)),
ia 82 (.mv (.t 83))]) (.cond (.t 82) (.seq (.reg [
  ia 84 (.fad 0 (.t 7)),
io (.st 1 (.t 84) (ci 9))]) (.seq (.reg [
  ia 11 (.mv (ci 1))]) (.block 1 (.loop F60b0)))) (.seq (.reg [
  ia 111 (.bin .eql (.t 15) (ci 8)),
ia 110 (.mv (.t 111))]) (.cond (.t 110) (.seq (.reg [
  ia 112 (.fad 0 (.t 7)),
io (.st 1 (.t 112) (ci 11))]) (.reg [
  ia 113 (.fad 2 (.t 4)),
ia 114 (.ld 1 false (.t 113)),
ia 115 (.fad 3 (.t 7)),
io (.st 1 (.t 115) (.t 114))])) .skip)))))))))))))) (.seq (.reg [
  ia 116 (.ld 2 true (.t 3)),
ia 117 (.ld 4 true (.t 4)),
ia 118 (.ld 6 true (.t 7)),
ia 119 (.call (.f 84) [(.t 116),(.t 117),(.t 118)]),
io (.st 6 (.t 6) (.t 119))]) .ret)))
def F60 : FnC := ⟨3,(.seq (.reg [
  ia 3 (.box 2 (.t 0)),
ia 4 (.box 4 (.t 1)),
ia 6 (.new [.nil,(.p (.i .i64 0)),(.p (.i .i64 0)),(.p (.i .i64 0)),.nil,(.p (.i .i64 0))])]) (.fz [3] F60r0)),[(.cell 6 6 true)]⟩
theorem cc60 : ccF Try.prog [(43,[0,0]),(79,[1,0]),(60,[0,0]),(140,[0,0]),(43,[9]),(134,[8]),(136,[8]),(108,[8]),(135,[8]),(112,[8])] Try.f60 = some (stripF F60) := by kernel_rfl
def F61 : FnC := ⟨3,(.seq (.reg [
  ia 3 (.box 2 (.t 0)),
ia 4 (.box 2 (.t 1)),
ia 5 (.box 2 (.t 2)),
ia 6 (.new [.nil,(.p (.i .i64 0))])]) (.seq (.reg [
  ia 10 (.ld 2 true (.t 3)),
ia 11 (.ld 2 true (.t 4)),
ia 12 (.ld 2 true (.t 5)),
ia 13 (.call (.f 85) [(.t 10),(.t 11),(.t 12)]),
ia 9 (.mv (.t 13)),
ia 14 (.ext (.t 9) 0),
ia 15 (.ext (.t 9) 1),
ia 7 (.new [.nil,(.p (.i .i64 0))]),
io (.st 2 (.t 7) (.t 14)),
ia 8 (.mv (.t 15))]) (.seq (.reg [
  ia 16 (.ld 2 true (.t 7)),
io (.st 2 (.t 6) (.t 16))]) .ret))),[(.cell 6 2 true)]⟩
theorem cc61 : ccF Try.prog [(43,[0,0]),(79,[1,0]),(60,[0,0]),(140,[0,0]),(43,[9]),(134,[8]),(136,[8]),(108,[8]),(135,[8]),(112,[8])] Try.f61 = some (stripF F61) := by kernel_rfl
def F62 : FnC := ⟨2,(.seq (.reg [
  ia 4 (.new [(.p (.i .i64 0)),(.p (.i .i64 0))])]) (.seq (.reg [
  ia 5 (.mv (.t 0)),
ia 6 (.mv (.t 1)),
ia 7 (.build [(.p (.i .i64 0)),(.p (.i .i64 0))] [(0,(1,(.t 5))),(1,(1,(.t 6)))]),
io (.st 2 (.t 4) (.t 7))]) .ret)),[(.cell 4 2 true)]⟩
theorem cc62 : ccF Try.prog [(43,[0,0]),(79,[1,0]),(60,[0,0]),(140,[0,0]),(43,[9]),(134,[8]),(136,[8]),(108,[8]),(135,[8]),(112,[8])] Try.f62 = some (stripF F62) := by kernel_rfl
def F64 : FnC := ⟨1,(.seq (.reg [
  ia 2 (.mv (.c (.a .nil)))]) (.seq (.reg [
  ia 3 (.mv (.t 0)),
ia 4 (.call (.f 89) [(.c (.a .nil)),(.t 3)]),
ia 2 (.mv (.t 4))]) .ret)),[(.tmp 2)]⟩
theorem cc64 : ccF Try.prog [(43,[0,0]),(79,[1,0]),(60,[0,0]),(140,[0,0]),(43,[9]),(134,[8]),(136,[8]),(108,[8]),(135,[8]),(112,[8])] Try.f64 = some (stripF F64) := by kernel_rfl
def F65 : FnC := ⟨1,(.seq (.reg [
  ia 1 (.box 2 (.t 0)),
ia 2 (.mv (.c (.a (.raw .nilFunc))))]) (.seq (.reg [
  ia 3 (.fn 90 [(.t 1)]),
ia 2 (.mv (.t 3))]) .ret)),[(.tmp 2)]⟩
theorem cc65 : ccF Try.prog [(43,[0,0]),(79,[1,0]),(60,[0,0]),(140,[0,0]),(43,[9]),(134,[8]),(136,[8]),(108,[8]),(135,[8]),(112,[8])] Try.f65 = some (stripF F65) := by kernel_rfl
def F67 : FnC := ⟨2,(.seq (.reg [
  ia 2 (.box 2 (.t 0)),
ia 3 (.box 2 (.t 1)),
ia 4 (.mv (.c (.a (.p (.b false)))))]) (.seq (.reg [
  ir 8 (.fad 0 (.t 2)),
ir 9 (.ld 1 false (.t 8)),
ir 10 (.fad 0 (.t 3)),
ir 11 (.ld 1 false (.t 10)),
ir 12 (.ias 6 (.t 9) (.t 11)),
ir 13 (.ld 6 true (.t 12)),
ir 14 (.fad 0 (.t 2)),
ir 15 (.ld 1 false (.t 14)),
ir 16 (.fad 1 (.t 3)),
ir 17 (.ld 1 false (.t 16)),
ir 18 (.ias 6 (.t 15) (.t 17)),
ir 19 (.ld 6 true (.t 18)),
ir 20 (.call (.f 70) [(.t 13),(.t 19)]),
ir 7 (.mv (.t 20)),
ir 21 (.ext (.t 7) 0),
ir 22 (.ext (.t 7) 1),
⟨(.some 5),.none,(.new [(.p (.i .i64 0)),(.p (.b false)),(.p (.i .i64 0)),(.p (.i .i64 0)),(.p (.i .i64 0)),(.p (.i .i64 0)),(.p (.i .i64 0)),(.p (.s [])),.nil,.nil]),.ad⟩,
⟨.none,.none,(.st 10 (.t 5) (.t 21)),(.wr [])⟩,
ia 6 (.mv (.t 22))]) (.seq (.reg [
  ia 23 (.mv (.t 6)),
ia 24 (.bin .eql (.t 23) (ci 0)),
ia 4 (.mv (.t 24))]) .ret))),[(.tmp 4)]⟩
theorem cc67 : ccF Try.prog [(43,[0,0]),(79,[1,0]),(60,[0,0]),(140,[0,0]),(43,[9]),(134,[8]),(136,[8]),(108,[8]),(135,[8]),(112,[8])] Try.f67 = some (stripF F67) := by kernel_rfl
def F70 : FnC := ⟨2,(.seq (.reg [
  ia 2 (.box 6 (.t 0)),
ia 3 (.box 6 (.t 1)),
ia 4 (.new [(.p (.i .i64 0)),(.p (.b false)),(.p (.i .i64 0)),(.p (.i .i64 0)),(.p (.i .i64 0)),(.p (.i .i64 0)),(.p (.i .i64 0)),(.p (.s [])),.nil,.nil]),
ia 5 (.mv (ci 0))]) (.seq (.reg [
  ia 8 (.fn 96 [(.t 2),(.t 3)]),
ia 6 (.mv (.t 8))]) (.seq (.reg [
  ia 9 (.fn 98 [(.t 2),(.t 3)]),
ia 7 (.mv (.t 9))]) (.seq (.block 0 (.seq (.reg [
  ia 11 (.mv (.t 7)),
ia 12 (.call (.t 11) [(ci 0)]),
ia 10 (.mv (.t 12))]) (.cond (.t 10) (.seq (.reg [
  ia 13 (.build [(.p (.i .i64 0)),(.p (.b false)),(.p (.i .i64 0)),(.p (.i .i64 0)),(.p (.i .i64 0)),(.p (.i .i64 0)),(.p (.i .i64 0)),(.p (.s [])),.nil,.nil] []),
io (.st 10 (.t 4) (.t 13)),
ia 5 (.mv (ci 140))]) .ret) (.seq (.reg [
  ia 15 (.fad 0 (.t 2)),
ia 16 (.ld 1 false (.t 15)),
ia 17 (.call (.f 97) [(.t 16)]),
ia 18 (.bin .eql (.t 17) (ci 4)),
ia 14 (.mv (.t 18))]) (.cond (.t 14) (.seq (.reg [
  ia 19 (.call (.f 99) [(ci 8)]),
ia 20 (.ext (.t 19) 0),
ia 21 (.ext (.t 19) 1),
io (.st 10 (.t 4) (.t 20)),
ia 5 (.mv (.t 21))]) .ret) (.seq (.reg [
  ia 23 (.fad 0 (.t 3)),
ia 24 (.ld 1 false (.t 23)),
ia 25 (.call (.f 97) [(.t 24)]),
ia 26 (.bin .eql (.t 25) (ci 4)),
ia 22 (.mv (.t 26))]) (.cond (.t 22) (.seq (.reg [
  ia 27 (.call (.f 99) [(ci 8)]),
ia 28 (.ext (.t 27) 0),
ia 29 (.ext (.t 27) 1),
ia 30 (.call (.f 100) [(.t 28),(.t 29)]),
ia 31 (.ext (.t 30) 0),
ia 32 (.ext (.t 30) 1),
io (.st 10 (.t 4) (.t 31)),
ia 5 (.mv (.t 32))]) .ret) (.seq (.reg [
  ia 34 (.mv (.t 6)),
ia 35 (.call (.t 34) [(ci 3),(ci 3)]),
ia 36 (.mv (.t 35)),
ig 37 36 true (.fad 1 (.t 2)),
ig 38 36 true (.ld 1 false (.t 37)),
ig 39 36 true (.fad 1 (.t 3)),
ig 40 36 true (.ld 1 false (.t 39)),
ig 41 36 true (.bin .eql (.t 38) (.t 40)),
ia 42 (.pick (.t 36) (.t 41) (.c (.a (.p (.b false))))),
ia 43 (.mv (.t 42)),
ig 44 43 true (.fad 0 (.t 2)),
ig 45 43 true (.ld 1 false (.t 44)),
ig 46 43 true (.fad 0 (.t 3)),
ig 47 43 true (.ld 1 false (.t 46)),
ig 48 43 true (.bin .eql (.t 45) (.t 47)),
ia 49 (.pick (.t 43) (.t 48) (.c (.a (.p (.b false))))),
ia 33 (.mv (.t 49))]) (.cond (.t 33) (.seq (.reg [
  ia 50 (.call (.f 99) [(ci 6)]),
ia 51 (.ext (.t 50) 0),
ia 52 (.ext (.t 50) 1),
io (.st 10 (.t 4) (.t 51)),
ia 5 (.mv (.t 52))]) .ret) (.seq (.reg [
  ia 54 (.fad 0 (.t 2)),
ia 55 (.ld 1 false (.t 54)),
ia 56 (.call (.f 97) [(.t 55)]),
ia 57 (.bin .eql (.t 56) (ci 3)),
ia 58 (.mv (.t 57)),
ig 59 58 true (.fad 0 (.t 3)),
ig 60 58 true (.ld 1 false (.t 59)),
ig 61 58 true (.call (.f 97) [(.t 60)]),
ig 62 58 true (.bin .neq (.t 61) (ci 3)),
ig 63 58 true (.mv (.t 62)),
ig 64 63 false (.fad 1 (.t 2)),
ig 65 63 false (.ld 1 false (.t 64)),
ig 66 63 false (.fad 1 (.t 3)),
ig 67 63 false (.ld 1 false (.t 66)),
ig 68 63 false (.bin .leq (.t 65) (.t 67)),
ig 69 58 true (.pick (.t 63) (.c (.a (.p (.b true)))) (.t 68)),
ia 70 (.pick (.t 58) (.t 69) (.c (.a (.p (.b false))))),
ia 53 (.mv (.t 70))]) (.cond (.t 53) (.seq (.reg [
  ia 71 (.ld 6 true (.t 2)),
ia 72 (.ld 6 true (.t 3)),
ia 73 (.call (.f 101) [(.t 71),(.t 72)]),
ia 74 (.ext (.t 73) 0),
ia 75 (.ext (.t 73) 1),
io (.st 10 (.t 4) (.t 74)),
ia 5 (.mv (.t 75))]) .ret) (.seq (.reg [
  ia 77 (.fad 0 (.t 3)),
ia 78 (.ld 1 false (.t 77)),
ia 79 (.call (.f 97) [(.t 78)]),
ia 80 (.bin .eql (.t 79) (ci 3)),
ia 76 (.mv (.t 80))]) (.cond (.t 76) (.seq (.reg [
  ia 81 (.ld 6 true (.t 3)),
ia 82 (.ld 6 true (.t 2)),
ia 83 (.call (.f 101) [(.t 81),(.t 82)]),
ia 84 (.ext (.t 83) 0),
ia 85 (.ext (.t 83) 1),
ia 86 (.call (.f 100) [(.t 84),(.t 85)]),
ia 87 (.ext (.t 86) 0),
ia 88 (.ext (.t 86) 1),
io (.st 10 (.t 4) (.t 87)),
ia 5 (.mv (.t 88))]) .ret) (.seq (.reg [
  ia 90 (.mv (.t 6)),
ia 91 (.call (.t 90) [(ci 1),(ci 2)]),
ia 89 (.mv (.t 91))]) (.cond (.t 89) (.seq (.reg [
  ia 92 (.ld 6 true (.t 2)),
ia 93 (.ld 6 true (.t 3)),
ia 94 (.call (.f 102) [(.t 92),(.t 93)]),
ia 95 (.ext (.t 94) 0),
ia 96 (.ext (.t 94) 1),
io (.st 10 (.t 4) (.t 95)),
ia 5 (.mv (.t 96))]) .ret) (.seq (.reg [
  ia 98 (.mv (.t 6)),
ia 99 (.call (.t 98) [(ci 2),(ci 1)]),
ia 97 (.mv (.t 99))]) (.cond (.t 97) (.seq (.reg [
  ia 100 (.ld 6 true (.t 3)),
ia 101 (.ld 6 true (.t 2)),
ia 102 (.call (.f 102) [(.t 100),(.t 101)]),
ia 103 (.ext (.t 102) 0),
ia 104 (.ext (.t 102) 1),
ia 105 (.call (.f 100) [(.t 103),(.t 104)]),
ia 106 (.ext (.t 105) 0),
ia 107 (.ext (.t 105) 1),
io (.st 10 (.t 4) (.t 106)),
ia 5 (.mv (.t 107))]) .ret) .skip))))))))))))))))) (.seq (.reg [
  ia 108 (.build [(.p (.i .i64 0)),(.p (.b false)),(.p (.i .i64 0)),(.p (.i .i64 0)),(.p (.i .i64 0)),(.p (.i .i64 0)),(.p (.i .i64 0)),(.p (.s [])),.nil,.nil] []),
io (.st 10 (.t 4) (.t 108)),
ia 5 (.mv (ci 140))]) .ret))))),[(.cell 4 10 true),(.tmp 5)]⟩
theorem cc70 : ccF Try.prog [(43,[0,0]),(79,[1,0]),(60,[0,0]),(140,[0,0]),(43,[9]),(134,[8]),(136,[8]),(108,[8]),(135,[8]),(112,[8])] Try.f70 = some (stripF F70) := by kernel_rfl
def F74 : FnC := ⟨3,(.seq (.reg [
  ia 6 (.mv (.c (.a (.p (.b false)))))]) (.seq (.reg [
  ia 7 (.mv (.t 0)),
ia 8 (.mv (.t 1)),
ia 9 (.bin .geq (.t 7) (.t 8)),
ia 10 (.mv (.t 9)),
ig 11 10 true (.mv (.t 0)),
ig 12 10 true (.mv (.t 2)),
ig 13 10 true (.bin .leq (.t 11) (.t 12)),
ia 14 (.pick (.t 10) (.t 13) (.c (.a (.p (.b false))))),
ia 6 (.mv (.t 14))]) .ret)),[(.tmp 6)]⟩
theorem cc74 : ccF Try.prog [(43,[0,0]),(79,[1,0]),(60,[0,0]),(140,[0,0]),(43,[9]),(134,[8]),(136,[8]),(108,[8]),(135,[8]),(112,[8])] Try.f74 = some (stripF F74) := by kernel_rfl
def F75 : FnC := ⟨1,(.seq (.reg [
  ia 1 (.box 6 (.t 0)),
ia 2 (.mv (.c (.a (.p (.b false)))))]) (.seq (.seq (.reg [
  ia 6 (.fad 0 (.t 1)),
ia 7 (.ld 1 false (.t 6)),
ia 8 (.call (.f 74) [(.t 7),(ci 0),(ci 13)]),
ia 9 (.not (.t 8)),
ia 10 (.mv (.t 9)),
ig 11 10 false (.ld 6 true (.t 1)),
ig 12 10 false (.call (.f 113) [(.t 11)]),
ig 13 10 false (.not (.t 12)),
ia 14 (.pick (.t 10) (.c (.a (.p (.b true)))) (.t 13))]) (.cond (.t 14) (.seq (.reg [
  ia 2 (.mv (.c (.a (.p (.b false)))))]) .ret) .skip)) (.seq (.reg [
  ia 15 (.fad 0 (.t 1)),
ia 16 (.ld 1 false (.t 15)),
ia 17 (.bin .eql (.t 16) (ci 8)),
ia 18 (.mv (.t 17)),
ig 19 18 false (.fad 0 (.t 1)),
ig 20 18 false (.ld 1 false (.t 19)),
ig 21 18 false (.bin .eql (.t 20) (ci 11)),
ia 22 (.pick (.t 18) (.c (.a (.p (.b true)))) (.t 21)),
ia 23 (.mv (.t 22)),
ig 24 23 false (.fad 0 (.t 1)),
ig 25 23 false (.ld 1 false (.t 24)),
ig 26 23 false (.bin .eql (.t 25) (ci 12)),
ia 27 (.pick (.t 23) (.c (.a (.p (.b true)))) (.t 26)),
ia 3 (.mv (.t 27))]) (.seq (.reg [
  ia 28 (.fad 0 (.t 1)),
ia 29 (.ld 1 false (.t 28)),
ia 30 (.bin .eql (.t 29) (ci 10)),
ia 31 (.mv (.t 30)),
ig 32 31 false (.fad 0 (.t 1)),
ig 33 31 false (.ld 1 false (.t 32)),
ig 34 31 false (.bin .eql (.t 33) (ci 12)),
ia 35 (.pick (.t 31) (.c (.a (.p (.b true)))) (.t 34)),
ia 4 (.mv (.t 35))]) (.seq (.reg [
  ia 5 (.mv (ci 60))]) (.seq (.seq (.reg [
  ia 36 (.fad 0 (.t 1)),
ia 37 (.ld 1 false (.t 36)),
ia 38 (.bin .eql (.t 37) (ci 0)),
ia 39 (.mv (.t 38)),
ig 40 39 false (.fad 0 (.t 1)),
ig 41 39 false (.ld 1 false (.t 40)),
ig 42 39 false (.bin .eql (.t 41) (ci 1)),
ia 43 (.pick (.t 39) (.c (.a (.p (.b true)))) (.t 42))]) (.cond (.t 43) (.reg [
  ia 5 (.mv (ci 0))]) .skip)) (.seq (.reg [
  ia 44 (.fad 1 (.t 1)),
ia 45 (.ld 1 false (.t 44)),
ia 46 (.mv (.t 5)),
ia 47 (.call (.f 74) [(.t 45),(ci 0),(.t 46)]),
ia 48 (.mv (.t 47)),
ig 49 48 true (.fad 3 (.t 1)),
ig 50 48 true (.ld 1 false (.t 49)),
ig 51 48 true (.bin .neq (.t 50) (.c (.a (.p (.s []))))),
ig 52 48 true (.mv (.t 3)),
ig 53 48 true (.eqb false (.t 51) (.t 52)),
ia 54 (.pick (.t 48) (.t 53) (.c (.a (.p (.b false))))),
ia 55 (.mv (.t 54)),
ig 56 55 true (.fad 2 (.t 1)),
ig 57 55 true (.ld 1 false (.t 56)),
ig 58 55 true (.bin .eql (.t 57) (ci 0)),
ig 59 55 true (.mv (.t 58)),
ig 60 59 false (.mv (.t 4)),
ig 61 55 true (.pick (.t 59) (.c (.a (.p (.b true)))) (.t 60)),
ia 62 (.pick (.t 55) (.t 61) (.c (.a (.p (.b false))))),
ia 63 (.mv (.t 62)),
ig 64 63 true (.fad 0 (.t 1)),
ig 65 63 true (.ld 1 false (.t 64)),
ig 66 63 true (.bin .neq (.t 65) (ci 8)),
ig 67 63 true (.mv (.t 66)),
ig 68 67 false (.fad 5 (.t 1)),
ig 69 67 false (.ld 1 false (.t 68)),
ig 70 67 false (.len false (.t 69)),
ig 71 67 false (.call (.f 74) [(.t 70),(ci 1),(ci 9)]),
ig 72 63 true (.pick (.t 67) (.c (.a (.p (.b true)))) (.t 71)),
ia 73 (.pick (.t 63) (.t 72) (.c (.a (.p (.b false))))),
ia 2 (.mv (.t 73))]) .ret))))))),[(.tmp 2)]⟩
theorem cc75 : ccF Try.prog [(43,[0,0]),(79,[1,0]),(60,[0,0]),(140,[0,0]),(43,[9]),(134,[8]),(136,[8]),(108,[8]),(135,[8]),(112,[8])] Try.f75 = some (stripF F75) := by kernel_rfl
def F76 : FnC := ⟨1,(.seq (.reg [
  ia 1 (.box 6 (.t 0)),
ia 2 (.mv (ci 0))]) (.seq (.block 0 (.seq (.reg [
  ia 4 (.fad 0 (.t 1)),
ia 5 (.ld 1 false (.t 4)),
ia 6 (.bin .eql (.t 5) (ci 8)),
ia 3 (.mv (.t 6))]) (.cond (.t 3) (.seq (.reg [
  ia 7 (.fad 5 (.t 1)),
ia 8 (.ld 1 false (.t 7)),
ia 9 (.len false (.t 8)),
ia 2 (.mv (.t 9))]) .ret) (.seq (.reg [
  ia 11 (.fad 0 (.t 1)),
ia 12 (.ld 1 false (.t 11)),
ia 13 (.bin .eql (.t 12) (ci 9)),
ia 10 (.mv (.t 13))]) (.cond (.t 10) (.seq (.reg [
  ia 14 (.fad 4 (.t 1)),
ia 15 (.ld 1 false (.t 14)),
ia 16 (.len false (.t 15)),
ia 17 (.bin .add (ci 2) (.t 16)),
ia 2 (.mv (.t 17))]) .ret) (.seq (.reg [
  ia 19 (.fad 0 (.t 1)),
ia 20 (.ld 1 false (.t 19)),
ia 21 (.call (.f 74) [(.t 20),(ci 0),(ci 13)]),
ia 18 (.mv (.t 21))]) (.cond (.t 18) (.seq (.reg [
  ir 22 (.call (.f 114) []),
ir 23 (.fad 0 (.t 1)),
ir 24 (.ld 1 false (.t 23)),
ia 25 (.ixa 14 1 false (.t 22) (.t 24)),
ia 2 (.mv (.t 25))]) .ret) .skip))))))) (.seq (.reg [
  ia 2 (.mv (ci 0))]) .ret))),[(.tmp 2)]⟩
theorem cc76 : ccF Try.prog [(43,[0,0]),(79,[1,0]),(60,[0,0]),(140,[0,0]),(43,[9]),(134,[8]),(136,[8]),(108,[8]),(135,[8]),(112,[8])] Try.f76 = some (stripF F76) := by kernel_rfl
def F77 : FnC := ⟨2,(.seq (.reg [
  ia 2 (.box 2 (.t 0)),
ia 3 (.box 2 (.t 1)),
ia 4 (.mv (.c (.a (.p (.b false)))))]) (.seq (.reg [
  ir 6 (.fad 0 (.t 2)),
ir 7 (.ld 1 false (.t 6)),
ir 8 (.fad 0 (.t 3)),
ir 9 (.ld 1 false (.t 8)),
ir 10 (.ias 6 (.t 7) (.t 9)),
ir 11 (.fad 5 (.t 10)),
ir 12 (.ld 1 false (.t 11)),
ir 13 (.fad 1 (.t 3)),
ir 14 (.ld 1 false (.t 13)),
ir 15 (.ias 2 (.t 12) (.t 14)),
ir 16 (.ld 2 true (.t 15)),
⟨(.some 5),.none,(.new [(.p (.i .i64 0)),(.p (.i .i64 0))]),.ad⟩,
io (.st 2 (.t 5) (.t 16))]) (.seq (.seq (.reg [
  ir 17 (.ld 2 true (.t 5)),
ir 18 (.ld 2 true (.t 3)),
ia 19 (.eqg false [0,0] (.t 17) (.t 18)),
ia 20 (.mv (.t 19)),
ih 21 20 false (.fad 0 (.t 5)),
ih 22 20 false (.ld 1 false (.t 21)),
ih 23 20 false (.fad 0 (.t 2)),
ih 24 20 false (.ld 1 false (.t 23)),
ih 25 20 false (.len false (.t 24)),
ih 26 20 false (.bin .sub (.t 25) (ci 1)),
ig 27 20 false (.call (.f 74) [(.t 22),(ci 0),(.t 26)]),
ig 28 20 false (.not (.t 27)),
ia 29 (.pick (.t 20) (.c (.a (.p (.b true)))) (.t 28)),
ia 30 (.mv (.t 29)),
ih 31 30 false (.fad 1 (.t 5)),
ih 32 30 false (.ld 1 false (.t 31)),
ih 33 30 false (.fad 0 (.t 2)),
ih 34 30 false (.ld 1 false (.t 33)),
ih 35 30 false (.fad 0 (.t 5)),
ih 36 30 false (.ld 1 false (.t 35)),
ih 37 30 false (.ias 6 (.t 34) (.t 36)),
ih 38 30 false (.fad 5 (.t 37)),
ih 39 30 false (.ld 1 false (.t 38)),
ih 40 30 false (.len false (.t 39)),
ih 41 30 false (.bin .sub (.t 40) (ci 1)),
ig 42 30 false (.call (.f 74) [(.t 32),(ci 0),(.t 41)]),
ig 43 30 false (.not (.t 42)),
ia 44 (.pick (.t 30) (.c (.a (.p (.b true)))) (.t 43))]) (.cond (.t 44) (.seq (.reg [
  ia 4 (.mv (.c (.a (.p (.b false)))))]) .ret) .skip)) (.seq (.reg [
  ir 45 (.fad 0 (.t 2)),
ir 46 (.ld 1 false (.t 45)),
ir 47 (.fad 0 (.t 5)),
ir 48 (.ld 1 false (.t 47)),
ir 49 (.ias 6 (.t 46) (.t 48)),
ir 50 (.fad 5 (.t 49)),
ir 51 (.ld 1 false (.t 50)),
ir 52 (.fad 1 (.t 5)),
ir 53 (.ld 1 false (.t 52)),
ir 54 (.ias 2 (.t 51) (.t 53)),
ir 55 (.ld 2 true (.t 54)),
ir 56 (.ld 2 true (.t 3)),
ia 57 (.eqg false [0,0] (.t 55) (.t 56)),
ia 4 (.mv (.t 57))]) .ret)))),[(.tmp 4)]⟩
theorem cc77 : ccF Try.prog [(43,[0,0]),(79,[1,0]),(60,[0,0]),(140,[0,0]),(43,[9]),(134,[8]),(136,[8]),(108,[8]),(135,[8]),(112,[8])] Try.f77 = some (stripF F77) := by kernel_rfl
def F81 : FnC := ⟨3,(.seq (.reg [
  ia 3 (.box 4 (.t 0)),
ia 6 (.mv (.c (.a (.p (.b false)))))]) (.seq (.reg [
  ia 10 (.fad 3 (.t 3)),
ia 11 (.ld 1 false (.t 10)),
ia 12 (.len false (.t 11)),
ia 7 (.mv (.t 12))]) (.seq (.reg [
  ia 13 (.fad 2 (.t 3)),
ia 14 (.ld 1 false (.t 13)),
ia 15 (.bin .eql (.t 14) (.c (.a (.p (.s [43]))))),
ia 16 (.mv (.t 15)),
ig 17 16 false (.fad 2 (.t 3)),
ig 18 16 false (.ld 1 false (.t 17)),
ig 19 16 false (.bin .eql (.t 18) (.c (.a (.p (.s [45]))))),
ia 20 (.pick (.t 16) (.c (.a (.p (.b true)))) (.t 19)),
ia 21 (.mv (.t 20)),
ig 22 21 false (.fad 2 (.t 3)),
ig 23 21 false (.ld 1 false (.t 22)),
ig 24 21 false (.bin .eql (.t 23) (.c (.a (.p (.s [42]))))),
ia 25 (.pick (.t 21) (.c (.a (.p (.b true)))) (.t 24)),
ia 26 (.mv (.t 25)),
ig 27 26 false (.fad 2 (.t 3)),
ig 28 26 false (.ld 1 false (.t 27)),
ig 29 26 false (.bin .eql (.t 28) (.c (.a (.p (.s [47]))))),
ia 30 (.pick (.t 26) (.c (.a (.p (.b true)))) (.t 29)),
ia 31 (.mv (.t 30)),
ig 32 31 false (.fad 2 (.t 3)),
ig 33 31 false (.ld 1 false (.t 32)),
ig 34 31 false (.bin .eql (.t 33) (.c (.a (.p (.s [60]))))),
ia 35 (.pick (.t 31) (.c (.a (.p (.b true)))) (.t 34)),
ia 36 (.mv (.t 35)),
ig 37 36 false (.fad 2 (.t 3)),
ig 38 36 false (.ld 1 false (.t 37)),
ig 39 36 false (.bin .eql (.t 38) (.c (.a (.p (.s [61,61]))))),
ia 40 (.pick (.t 36) (.c (.a (.p (.b true)))) (.t 39)),
ia 8 (.mv (.t 40))]) (.seq (.reg [
  ia 41 (.fad 2 (.t 3)),
ia 42 (.ld 1 false (.t 41)),
ia 43 (.bin .eql (.t 42) (.c (.a (.p (.s []))))),
ia 44 (.mv (.t 43)),
ig 45 44 true (.fad 1 (.t 3)),
ig 46 44 true (.ld 1 false (.t 45)),
ig 47 44 true (.bin .eql (.t 46) (ci 0)),
ia 48 (.pick (.t 44) (.t 47) (.c (.a (.p (.b false))))),
ia 9 (.mv (.t 48))]) (.seq (.seq (.reg [
  ia 49 (.mv (.t 2))]) (.cond (.t 49) (.seq (.reg [
  ia 50 (.fad 0 (.t 3)),
ia 51 (.ld 1 false (.t 50)),
ia 52 (.bin .eql (.t 51) (ci 6)),
ia 53 (.mv (.t 52)),
ig 54 53 true (.fad 2 (.t 3)),
ig 55 53 true (.ld 1 false (.t 54)),
ig 56 53 true (.call (.f 116) [(.t 55)]),
ia 57 (.pick (.t 53) (.t 56) (.c (.a (.p (.b false))))),
ia 58 (.mv (.t 57)),
ig 59 58 true (.fad 1 (.t 3)),
ig 60 58 true (.ld 1 false (.t 59)),
ig 61 58 true (.bin .geq (.t 60) (ci 0)),
ia 62 (.pick (.t 58) (.t 61) (.c (.a (.p (.b false))))),
ia 63 (.mv (.t 62)),
ig 64 63 true (.fad 1 (.t 3)),
ig 65 63 true (.ld 1 false (.t 64)),
ig 66 63 true (.bin .leq (.t 65) (ci 8)),
ia 67 (.pick (.t 63) (.t 66) (.c (.a (.p (.b false))))),
ia 68 (.mv (.t 67)),
ig 69 68 true (.mv (.t 7)),
ig 70 68 true (.bin .eql (.t 69) (ci 1)),
ia 71 (.pick (.t 68) (.t 70) (.c (.a (.p (.b false))))),
ia 6 (.mv (.t 71))]) .ret) .skip)) (.seq (.seq (.reg [
  ia 72 (.fad 0 (.t 3)),
ia 73 (.ld 1 false (.t 72))]) (.block 0 (.seq (.reg [
  ia 75 (.bin .eql (.t 73) (ci 1)),
ia 74 (.mv (.t 75))]) (.cond (.t 74) (.seq (.reg [
  ia 76 (.fad 2 (.t 3)),
ia 77 (.ld 1 false (.t 76)),
ia 78 (.bin .eql (.t 77) (.c (.a (.p (.s []))))),
ia 79 (.mv (.t 78)),
ig 80 79 true (.mv (.t 7)),
ig 81 79 true (.bin .eql (.t 80) (ci 0)),
ia 82 (.pick (.t 79) (.t 81) (.c (.a (.p (.b false))))),
ia 83 (.mv (.t 82)),
ig 84 83 true (.fad 1 (.t 3)),
ig 85 83 true (.ld 1 false (.t 84)),
ig 86 83 true (.bin .geq (.t 85) (ci 0)),
ia 87 (.pick (.t 83) (.t 86) (.c (.a (.p (.b false))))),
ia 88 (.mv (.t 87)),
ig 89 88 true (.fad 1 (.t 3)),
ig 90 88 true (.ld 1 false (.t 89)),
ig 91 88 true (.mv (.t 1)),
ig 92 88 true (.bin .lss (.t 90) (.t 91)),
ia 93 (.pick (.t 88) (.t 92) (.c (.a (.p (.b false))))),
ia 6 (.mv (.t 93))]) .ret) (.seq (.reg [
  ia 95 (.bin .eql (.t 73) (ci 2)),
ia 94 (.mv (.t 95))]) (.cond (.t 94) (.seq (.reg [
  ia 96 (.mv (.t 9)),
ia 97 (.mv (.t 96)),
ig 98 97 true (.mv (.t 7)),
ig 99 97 true (.bin .eql (.t 98) (ci 1)),
ia 100 (.pick (.t 97) (.t 99) (.c (.a (.p (.b false))))),
ia 6 (.mv (.t 100))]) .ret) (.seq (.reg [
  ia 102 (.bin .eql (.t 73) (ci 3)),
ia 101 (.mv (.t 102))]) (.cond (.t 101) (.seq (.reg [
  ia 103 (.mv (.t 9)),
ia 104 (.mv (.t 103)),
ig 105 104 true (.mv (.t 7)),
ig 106 104 true (.bin .eql (.t 105) (ci 2)),
ia 107 (.pick (.t 104) (.t 106) (.c (.a (.p (.b false))))),
ia 6 (.mv (.t 107))]) .ret) (.seq (.reg [
  ia 109 (.bin .eql (.t 73) (ci 4)),
ia 108 (.mv (.t 109))]) (.cond (.t 108) (.seq (.reg [
  ia 110 (.fad 2 (.t 3)),
ia 111 (.ld 1 false (.t 110)),
ia 112 (.call (.f 116) [(.t 111)]),
ia 113 (.mv (.t 112)),
ig 114 113 true (.fad 1 (.t 3)),
ig 115 113 true (.ld 1 false (.t 114)),
ig 116 113 true (.bin .eql (.t 115) (ci 0)),
ia 117 (.pick (.t 113) (.t 116) (.c (.a (.p (.b false))))),
ia 118 (.mv (.t 117)),
ig 119 118 true (.mv (.t 7)),
ig 120 118 true (.bin .leq (.t 119) (ci 8)),
ia 121 (.pick (.t 118) (.t 120) (.c (.a (.p (.b false))))),
ia 6 (.mv (.t 121))]) .ret) (.seq (.reg [
  ia 123 (.bin .eql (.t 73) (ci 5)),
ia 122 (.mv (.t 123))]) (.cond (.t 122) (.seq (.reg [
  ia 124 (.mv (.t 9)),
ia 125 (.mv (.t 124)),
ig 126 125 true (.mv (.t 7)),
ig 127 125 true (.bin .geq (.t 126) (ci 2)),
ia 128 (.pick (.t 125) (.t 127) (.c (.a (.p (.b false))))),
ia 129 (.mv (.t 128)),
ig 130 129 true (.mv (.t 7)),
ig 131 129 true (.bin .leq (.t 130) (ci 9)),
ia 132 (.pick (.t 129) (.t 131) (.c (.a (.p (.b false))))),
ia 6 (.mv (.t 132))]) .ret) (.seq (.reg [
  ia 134 (.bin .eql (.t 73) (ci 7)),
ia 133 (.mv (.t 134))]) (.cond (.t 133) (.seq (.reg [
  ia 135 (.fad 2 (.t 3)),
ia 136 (.ld 1 false (.t 135)),
ia 137 (.bin .eql (.t 136) (.c (.a (.p (.s []))))),
ia 138 (.mv (.t 137)),
ig 139 138 true (.mv (.t 7)),
ig 140 138 true (.bin .eql (.t 139) (ci 0)),
ia 141 (.pick (.t 138) (.t 140) (.c (.a (.p (.b false))))),
ia 6 (.mv (.t 141))]) .ret) (.seq (.reg [
  ia 143 (.bin .eql (.t 73) (ci 8)),
ia 142 (.mv (.t 143))]) (.cond (.t 142) (.seq (.reg [
  ia 144 (.mv (.t 8)),
ia 145 (.mv (.t 144)),
ig 146 145 true (.fad 1 (.t 3)),
ig 147 145 true (.ld 1 false (.t 146)),
ig 148 145 true (.bin .eql (.t 147) (ci 0)),
ia 149 (.pick (.t 145) (.t 148) (.c (.a (.p (.b false))))),
ia 150 (.mv (.t 149)),
ig 151 150 true (.mv (.t 7)),
ig 152 150 true (.bin .eql (.t 151) (ci 2)),
ia 153 (.pick (.t 150) (.t 152) (.c (.a (.p (.b false))))),
ia 6 (.mv (.t 153))]) .ret) (.seq (.reg [
  ia 155 (.bin .eql (.t 73) (ci 9)),
ia 154 (.mv (.t 155))]) (.cond (.t 154) (.seq (.reg [
  ia 156 (.mv (.t 9)),
ia 157 (.mv (.t 156)),
ig 158 157 true (.mv (.t 7)),
ig 159 157 true (.bin .eql (.t 158) (ci 0)),
ia 160 (.pick (.t 157) (.t 159) (.c (.a (.p (.b false))))),
ia 6 (.mv (.t 160))]) .ret) .skip)))))))))))))))))) (.seq (.reg [
  ia 6 (.mv (.c (.a (.p (.b false)))))]) .ret))))))),[(.tmp 6)]⟩
theorem cc81 : ccF Try.prog [(43,[0,0]),(79,[1,0]),(60,[0,0]),(140,[0,0]),(43,[9]),(134,[8]),(136,[8]),(108,[8]),(135,[8]),(112,[8])] Try.f81 = some (stripF F81) := by kernel_rfl
def F82 : FnC := ⟨2,(.seq (.reg [
  ia 2 (.box 2 (.t 0)),
ia 3 (.box 6 (.t 1)),
ia 4 (.new [.nil,(.p (.i .i64 0))]),
ia 5 (.mv (ci 0)),
ia 6 (.mv (ci 0))]) (.seq (.seq (.reg [
  ia 7 (.fad 1 (.t 3)),
ia 8 (.ld 1 false (.t 7)),
ia 9 (.bin .gtr (.t 8) (ci 60))]) (.cond (.t 9) (.seq (.reg [
  ia 10 (.ld 2 true (.t 2)),
io (.st 2 (.t 4) (.t 10)),
ia 5 (.mv (ci 0)),
ia 6 (.mv (ci 141))]) .ret) .skip)) (.seq (.reg [
  ia 11 (.ld 2 true (.t 2)),
ia 12 (.ld 6 true (.t 3)),
ia 13 (.call (.f 33) [(.t 11),(.t 12)]),
ia 14 (.ext (.t 13) 0),
ia 15 (.ext (.t 13) 1),
ia 16 (.ext (.t 13) 2),
io (.st 2 (.t 4) (.t 14)),
ia 5 (.mv (.t 15)),
ia 6 (.mv (.t 16))]) .ret))),[(.cell 4 2 true),(.tmp 5),(.tmp 6)]⟩
theorem cc82 : ccF Try.prog [(43,[0,0]),(79,[1,0]),(60,[0,0]),(140,[0,0]),(43,[9]),(134,[8]),(136,[8]),(108,[8]),(135,[8]),(112,[8])] Try.f82 = some (stripF F82) := by kernel_rfl
def F83b0 : C := (.seq (.seq (.reg [
  ia 95 (.mv (.t 17)),
ia 96 (.fad 4 (.t 11)),
ia 97 (.ld 1 false (.t 96)),
ia 98 (.len false (.t 97)),
ia 99 (.bin .lss (.t 95) (.t 98))]) (.cond (.t 99) .skip (.exit 0))) (.seq (.block 1 (.seq (.reg [
  ia 102 (.fad 4 (.t 11)),
ia 103 (.ld 1 false (.t 102)),
ia 104 (.mv (.t 17)),
ia 105 (.ias 3 (.t 103) (.t 104)),
ia 106 (.fad 0 (.t 105)),
ia 107 (.ld 1 false (.t 106)),
ia 108 (.bin .gtr (.t 107) (ci 0))]) (.cond (.t 108) (.reg [
  ir 109 (.mv (.t 16)),
ir 110 (.fad 4 (.t 11)),
ir 111 (.ld 1 false (.t 110)),
ir 112 (.mv (.t 17)),
ir 113 (.ias 3 (.t 111) (.t 112)),
ir 114 (.fad 0 (.t 113)),
ir 115 (.ld 1 false (.t 114)),
ir 116 (.bin .sub (.t 115) (ci 1)),
ir 117 (.fad 4 (.t 11)),
ir 118 (.ld 1 false (.t 117)),
ir 119 (.mv (.t 17)),
ir 120 (.ias 3 (.t 118) (.t 119)),
ir 121 (.fad 1 (.t 120)),
ir 122 (.ld 2 true (.t 121)),
ir 123 (.build [(.p (.i .i64 0)),(.p (.i .i64 0)),(.p (.i .i64 0))] [(0,(1,(.t 116))),(1,(2,(.t 122)))]),
⟨(.some 124),.none,(.bsl 3 108 [(.p (.i .i64 0)),(.p (.i .i64 0)),(.p (.i .i64 0))] 1 [(0,(.t 123))]),.ad⟩,
ia 125 (.app 3 108 24 (.t 109) (.t 124)),
ia 16 (.mv (.t 125))]) .skip))) (.reg [
  ia 100 (.mv (.t 17)),
ia 101 (.bin .add (.t 100) (ci 1)),
ia 17 (.mv (.t 101))])))
def F83 : FnC := ⟨4,(.seq (.reg [
  ia 4 (.box 2 (.t 0)),
ia 5 (.box 4 (.t 1)),
ia 8 (.new [.nil,(.p (.i .i64 0)),(.p (.i .i64 0)),(.p (.i .i64 0)),.nil,(.p (.i .i64 0))])]) (.seq (.seq (.reg [
  ia 18 (.mv (.t 2)),
ia 19 (.bin .eql (.t 18) (ci 0))]) (.cond (.t 19) (.seq (.reg [
  ia 20 (.ld 2 true (.t 4)),
ia 21 (.ld 4 true (.t 5)),
ia 22 (.mv (.t 3)),
ia 23 (.call (.f 60) [(.t 20),(.t 21),(.t 22)]),
io (.st 6 (.t 8) (.t 23))]) .ret) .skip)) (.seq (.reg [
  ia 25 (.ld 2 true (.t 4)),
ia 26 (.mv (.t 3)),
ia 27 (.build [(.p (.i .i64 0)),(.p (.i .i64 0)),(.p (.i .i64 0)),(.p (.s [])),.nil,.nil] [(0,(1,(ci 2))),(1,(1,(.t 26)))]),
ia 28 (.call (.f 82) [(.t 25),(.t 27)]),
ia 24 (.mv (.t 28)),
ia 29 (.ext (.t 24) 0),
ia 30 (.ext (.t 24) 1),
ia 31 (.ext (.t 24) 2),
io (.st 2 (.t 4) (.t 29)),
ia 9 (.mv (.t 30)),
ia 10 (.mv (.t 31))]) (.seq (.seq (.reg [
  ia 32 (.mv (.t 10)),
ia 33 (.bin .neq (.t 32) (ci 0))]) (.cond (.t 33) (.seq (.reg [
  ia 34 (.mv (.t 10)),
ia 35 (.call (.f 117) [(.t 34)]),
io (.st 6 (.t 8) (.t 35))]) .ret) .skip)) (.seq (.reg [
  ia 36 (.ld 2 true (.t 4)),
ia 37 (.ld 4 true (.t 5)),
ia 38 (.mv (.t 2)),
ia 39 (.bin .sub (.t 38) (ci 1)),
ia 40 (.mv (.t 3)),
ia 41 (.call (.f 83) [(.t 36),(.t 37),(.t 39),(.t 40)]),
ia 11 (.new [.nil,(.p (.i .i64 0)),(.p (.i .i64 0)),(.p (.i .i64 0)),.nil,(.p (.i .i64 0))]),
io (.st 6 (.t 11) (.t 41))]) (.seq (.seq (.reg [
  ia 42 (.fad 5 (.t 11)),
ia 43 (.ld 1 false (.t 42)),
ia 44 (.bin .neq (.t 43) (ci 0))]) (.cond (.t 44) (.seq (.reg [
  ia 45 (.ld 6 true (.t 11)),
io (.st 6 (.t 8) (.t 45))]) .ret) .skip)) (.seq (.reg [
  ir 46 (.fad 0 (.t 11)),
ir 47 (.ld 2 true (.t 46)),
ir 48 (.fad 2 (.t 11)),
ir 49 (.ld 2 true (.t 48)),
ir 50 (.mv (.t 9)),
ir 51 (.call (.f 62) [(.t 50),(ci 1)]),
ia 52 (.call (.f 61) [(.t 47),(.t 49),(.t 51)]),
ia 53 (.fad 0 (.t 11)),
io (.st 2 (.t 53) (.t 52))]) (.seq (.reg [
  ia 54 (.mv (.t 9)),
ia 55 (.call (.f 62) [(.t 54),(ci 0)]),
ia 56 (.fad 2 (.t 11)),
io (.st 2 (.t 56) (.t 55))]) (.seq (.reg [
  ia 57 (.fad 4 (.t 11)),
ia 58 (.ld 1 false (.t 57)),
ia 59 (.call (.f 118) [(.t 58),(ci 0)]),
ia 12 (.mv (.t 59))]) (.seq (.seq (.reg [
  ia 60 (.mv (.t 12)),
ia 61 (.bin .geq (.t 60) (ci 0))]) (.cond (.t 61) (.reg [
  ir 62 (.fad 0 (.t 11)),
ir 63 (.ld 2 true (.t 62)),
ir 64 (.fad 4 (.t 11)),
ir 65 (.ld 1 false (.t 64)),
ir 66 (.mv (.t 12)),
ir 67 (.ias 3 (.t 65) (.t 66)),
ir 68 (.fad 1 (.t 67)),
ir 69 (.ld 2 true (.t 68)),
ir 70 (.mv (.t 9)),
ir 71 (.call (.f 62) [(.t 70),(ci 2)]),
ia 72 (.call (.f 61) [(.t 63),(.t 69),(.t 71)]),
ia 73 (.fad 0 (.t 11)),
io (.st 2 (.t 73) (.t 72))]) (.seq (.reg [
  ia 75 (.fad 0 (.t 11)),
ia 76 (.ld 2 true (.t 75)),
ia 77 (.mv (.t 3)),
ia 78 (.build [(.p (.i .i64 0)),(.p (.i .i64 0)),(.p (.i .i64 0)),(.p (.s [])),.nil,.nil] [(0,(1,(ci 7))),(1,(1,(.t 77)))]),
ia 79 (.call (.f 82) [(.t 76),(.t 78)]),
ia 74 (.mv (.t 79)),
ia 80 (.ext (.t 74) 0),
ia 81 (.ext (.t 74) 1),
ia 82 (.ext (.t 74) 2),
ia 13 (.new [.nil,(.p (.i .i64 0))]),
io (.st 2 (.t 13) (.t 80)),
ia 14 (.mv (.t 81)),
ia 15 (.mv (.t 82))]) (.seq (.seq (.reg [
  ia 83 (.mv (.t 15)),
ia 84 (.bin .neq (.t 83) (ci 0))]) (.cond (.t 84) (.seq (.reg [
  ia 85 (.mv (.t 15)),
ia 86 (.call (.f 117) [(.t 85)]),
io (.st 6 (.t 8) (.t 86))]) .ret) .skip)) (.reg [
  ir 87 (.ld 2 true (.t 13)),
ir 88 (.mv (.t 14)),
ir 89 (.call (.f 62) [(.t 88),(ci 0)]),
ir 90 (.mv (.t 9)),
ir 91 (.call (.f 62) [(.t 90),(ci 2)]),
ia 92 (.call (.f 61) [(.t 87),(.t 89),(.t 91)]),
ia 93 (.fad 0 (.t 11)),
io (.st 2 (.t 93) (.t 92))]))))) (.seq (.reg [
  ia 94 (.bsl 3 108 [(.p (.i .i64 0)),(.p (.i .i64 0)),(.p (.i .i64 0))] 0 []),
ia 16 (.mv (.t 94))]) (.seq (.seq (.reg [
  ia 17 (.mv (ci 0))]) (.block 0 (.loop F83b0))) (.seq (.reg [
  ia 126 (.mv (.t 16)),
ia 127 (.fad 4 (.t 11)),
io (.st 1 (.t 127) (.t 126))]) (.seq (.reg [
  ia 128 (.ld 6 true (.t 11)),
io (.st 6 (.t 8) (.t 128))]) .ret)))))))))))))),[(.cell 8 6 true)]⟩
theorem cc83 : ccF Try.prog [(43,[0,0]),(79,[1,0]),(60,[0,0]),(140,[0,0]),(43,[9]),(134,[8]),(136,[8]),(108,[8]),(135,[8]),(112,[8])] Try.f83 = some (stripF F83) := by kernel_rfl
def F84b0 : C := (.seq (.seq (.reg [
  ia 26 (.mv (.t 10)),
ia 27 (.fad 3 (.t 4)),
ia 28 (.ld 1 false (.t 27)),
ia 29 (.len false (.t 28)),
ia 30 (.bin .lss (.t 26) (.t 29))]) (.cond (.t 30) .skip (.exit 0))) (.seq (.block 1 (.seq (.reg [
  ia 33 (.fad 0 (.t 9)),
ia 34 (.ld 2 true (.t 33)),
ia 35 (.ld 4 true (.t 4)),
ia 36 (.mv (.t 10)),
ia 37 (.fad 1 (.t 5)),
ia 38 (.ld 1 false (.t 37)),
ia 39 (.call (.f 119) [(.t 34),(.t 35),(.t 36),(.t 38)]),
ia 11 (.new [.nil,(.p (.i .i64 0)),(.p (.i .i64 0)),(.p (.i .i64 0)),.nil,(.p (.i .i64 0))]),
io (.st 6 (.t 11) (.t 39))]) (.seq (.seq (.reg [
  ia 40 (.fad 5 (.t 11)),
ia 41 (.ld 1 false (.t 40)),
ia 42 (.bin .neq (.t 41) (ci 0))]) (.cond (.t 42) (.seq (.reg [
  ia 43 (.fad 5 (.t 11)),
ia 44 (.ld 1 false (.t 43)),
ia 45 (.call (.f 117) [(.t 44)]),
io (.st 6 (.t 6) (.t 45))]) .ret) .skip)) (.seq (.reg [
  ia 46 (.mv (.t 10)),
ia 47 (.bin .add (.t 46) (ci 1)),
ia 12 (.mv (.t 47))]) (.seq (.seq (.reg [
  ia 48 (.mv (.t 10)),
ia 49 (.bin .eql (.t 48) (ci 0)),
ia 50 (.mv (.t 49)),
ig 51 50 true (.fad 0 (.t 4)),
ig 52 50 true (.ld 1 false (.t 51)),
ig 53 50 true (.bin .neq (.t 52) (ci 4)),
ia 54 (.pick (.t 50) (.t 53) (.c (.a (.p (.b false)))))]) (.cond (.t 54) (.reg [
  ia 12 (.mv (ci 0))]) .skip)) (.seq (.reg [
  ir 55 (.fad 0 (.t 11)),
ir 56 (.ld 2 true (.t 55)),
ir 57 (.fad 2 (.t 11)),
ir 58 (.ld 2 true (.t 57)),
ir 59 (.mv (.t 7)),
ir 60 (.mv (.t 12)),
ir 61 (.call (.f 62) [(.t 59),(.t 60)]),
ia 62 (.call (.f 61) [(.t 56),(.t 58),(.t 61)]),
ia 63 (.fad 0 (.t 11)),
io (.st 2 (.t 63) (.t 62))]) (.seq (.reg [
  ia 64 (.ld 6 true (.t 11)),
ia 65 (.fad 4 (.t 9)),
ia 66 (.ld 1 false (.t 65)),
ia 67 (.fad 1 (.t 5)),
ia 68 (.ld 1 false (.t 67)),
ia 69 (.call (.f 120) [(.t 64),(.t 66),(.t 68)]),
io (.st 6 (.t 9) (.t 69))]) (.seq (.reg [
  ia 70 (.fad 5 (.t 9)),
ia 71 (.ld 1 false (.t 70)),
ia 72 (.bin .neq (.t 71) (ci 0))]) (.cond (.t 72) (.seq (.reg [
  ia 73 (.fad 5 (.t 9)),
ia 74 (.ld 1 false (.t 73)),
ia 75 (.call (.f 117) [(.t 74)]),
io (.st 6 (.t 6) (.t 75))]) .ret) .skip))))))))) (.reg [
  ia 31 (.mv (.t 10)),
ia 32 (.bin .add (.t 31) (ci 1)),
ia 10 (.mv (.t 32))])))
def F84 : FnC := ⟨3,(.seq (.reg [
  ia 3 (.box 2 (.t 0)),
ia 4 (.box 4 (.t 1)),
ia 5 (.box 6 (.t 2)),
ia 6 (.new [.nil,(.p (.i .i64 0)),(.p (.i .i64 0)),(.p (.i .i64 0)),.nil,(.p (.i .i64 0))])]) (.seq (.reg [
  ia 14 (.ld 2 true (.t 3)),
ia 15 (.ld 6 true (.t 5)),
ia 16 (.call (.f 82) [(.t 14),(.t 15)]),
ia 13 (.mv (.t 16)),
ia 17 (.ext (.t 13) 0),
ia 18 (.ext (.t 13) 1),
ia 19 (.ext (.t 13) 2),
io (.st 2 (.t 3) (.t 17)),
ia 7 (.mv (.t 18)),
ia 8 (.mv (.t 19))]) (.seq (.seq (.reg [
  ia 20 (.mv (.t 8)),
ia 21 (.bin .neq (.t 20) (ci 0))]) (.cond (.t 21) (.seq (.reg [
  ia 22 (.mv (.t 8)),
ia 23 (.call (.f 117) [(.t 22)]),
io (.st 6 (.t 6) (.t 23))]) .ret) .skip)) (.seq (.reg [
  ia 24 (.ld 2 true (.t 3)),
ia 25 (.build [.nil,(.p (.i .i64 0)),(.p (.i .i64 0)),(.p (.i .i64 0)),.nil,(.p (.i .i64 0))] [(0,(2,(.t 24)))]),
ia 9 (.new [.nil,(.p (.i .i64 0)),(.p (.i .i64 0)),(.p (.i .i64 0)),.nil,(.p (.i .i64 0))]),
io (.st 6 (.t 9) (.t 25))]) (.seq (.seq (.reg [
  ia 10 (.mv (ci 0))]) (.block 0 (.loop F84b0))) (.seq (.reg [
  ia 76 (.mv (.t 7)),
ia 77 (.call (.f 62) [(.t 76),(ci 1)]),
ia 78 (.fad 2 (.t 9)),
io (.st 2 (.t 78) (.t 77))]) (.seq (.seq (.reg [
  ia 79 (.fad 0 (.t 4)),
ia 80 (.ld 1 false (.t 79)),
ia 81 (.bin .eql (.t 80) (ci 4))]) (.cond (.t 81) (.reg [
  ia 82 (.mv (.t 7)),
ia 83 (.call (.f 62) [(.t 82),(ci 0)]),
ia 84 (.fad 2 (.t 9)),
io (.st 2 (.t 84) (.t 83))]) .skip)) (.seq (.reg [
  ia 85 (.ld 6 true (.t 9)),
io (.st 6 (.t 6) (.t 85))]) .ret)))))))),[(.cell 6 6 true)]⟩
theorem cc84 : ccF Try.prog [(43,[0,0]),(79,[1,0]),(60,[0,0]),(140,[0,0]),(43,[9]),(134,[8]),(136,[8]),(108,[8]),(135,[8]),(112,[8])] Try.f84 = some (stripF F84) := by kernel_rfl
def F85 : FnC := ⟨3,(.seq (.reg [
  ia 3 (.box 2 (.t 0)),
ia 4 (.box 2 (.t 1)),
ia 5 (.box 2 (.t 2)),
ia 6 (.new [.nil,(.p (.i .i64 0))]),
ia 7 (.mv (ci 0))]) (.seq (.seq (.reg [
  ia 8 (.ld 2 true (.t 3)),
ia 9 (.ld 2 true (.t 4)),
ia 10 (.call (.f 35) [(.t 8),(.t 9)]),
ia 11 (.not (.t 10)),
ia 12 (.mv (.t 11)),
ig 13 12 false (.ld 2 true (.t 3)),
ig 14 12 false (.ld 2 true (.t 5)),
ig 15 12 false (.call (.f 35) [(.t 13),(.t 14)]),
ig 16 12 false (.not (.t 15)),
ia 17 (.pick (.t 12) (.c (.a (.p (.b true)))) (.t 16)),
ia 18 (.mv (.t 17)),
ig 19 18 false (.ld 2 true (.t 4)),
ig 20 18 false (.ld 2 true (.t 5)),
ig 21 18 false (.eqg false [0,0] (.t 19) (.t 20)),
ia 22 (.pick (.t 18) (.c (.a (.p (.b true)))) (.t 21))]) (.cond (.t 22) (.seq (.reg [
  ia 23 (.ld 2 true (.t 3)),
io (.st 2 (.t 6) (.t 23)),
ia 7 (.mv (ci 130))]) .ret) .skip)) (.seq (.reg [
  ir 24 (.ld 2 true (.t 3)),
ir 25 (.ld 2 true (.t 4)),
ir 26 (.ld 2 true (.t 5)),
ir 27 (.call (.f 121) [(.t 24),(.t 25),(.t 26)]),
ir 28 (.ld 2 true (.t 5)),
ir 29 (.ld 2 true (.t 4)),
ia 30 (.call (.f 121) [(.t 27),(.t 28),(.t 29)]),
io (.st 2 (.t 6) (.t 30)),
ia 7 (.mv (ci 0))]) .ret))),[(.cell 6 2 true),(.tmp 7)]⟩
theorem cc85 : ccF Try.prog [(43,[0,0]),(79,[1,0]),(60,[0,0]),(140,[0,0]),(43,[9]),(134,[8]),(136,[8]),(108,[8]),(135,[8]),(112,[8])] Try.f85 = some (stripF F85) := by kernel_rfl
def F86 : FnC := ⟨2,(.seq (.reg [
  ia 2 (.box 2 (.t 0)),
ia 3 (.box 2 (.t 1)),
ia 4 (.new [(.p (.i .i64 0)),(.p (.i .i64 0))]),
ia 5 (.mv (ci 0))]) (.seq (.reg [
  ia 7 (.ld 2 true (.t 2)),
ia 8 (.build [.nil,(.p (.i .i64 0))] [(0,(2,(.t 7)))]),
ia 6 (.new [.nil,(.p (.i .i64 0))]),
io (.st 2 (.t 6) (.t 8))]) (.seq (.seq (.reg [
  ia 9 (.ld 2 true (.t 6)),
ia 10 (.ld 2 true (.t 3)),
ia 11 (.bsl 2 43 [(.p (.i .i64 0)),(.p (.i .i64 0))] 1 [(0,(.t 10))]),
ia 12 (.call (.f 122) [(.t 9),(.t 11)]),
ia 13 (.not (.t 12))]) (.cond (.t 13) (.seq (.reg [
  ia 14 (.build [(.p (.i .i64 0)),(.p (.i .i64 0))] []),
io (.st 2 (.t 4) (.t 14)),
ia 5 (.mv (ci 130))]) .ret) .skip)) (.seq (.reg [
  ia 15 (.ld 2 true (.t 6)),
ia 16 (.ld 2 true (.t 3)),
ia 17 (.call (.f 123) [(.t 15),(.t 16)]),
io (.st 2 (.t 4) (.t 17)),
ia 5 (.mv (ci 0))]) .ret)))),[(.cell 4 2 true),(.tmp 5)]⟩
theorem cc86 : ccF Try.prog [(43,[0,0]),(79,[1,0]),(60,[0,0]),(140,[0,0]),(43,[9]),(134,[8]),(136,[8]),(108,[8]),(135,[8]),(112,[8])] Try.f86 = some (stripF F86) := by kernel_rfl
def F89 : FnC := ⟨2,(.seq (.reg [
  ia 2 (.box 1 (.t 0)),
ia 4 (.mv (.c (.a .nil)))]) (.seq (.seq (.reg [
  ia 6 (.mv (.t 1))]) (.block 0 (.rng (.t 6) [7] (.reg [
  ia 5 (.new [(.p (.i .i64 0)),(.p (.i .i64 0))]),
io (.st 2 (.t 5) (.t 7))]) (.block 1 (.reg [
  ia 8 (.ld 1 false (.t 2)),
ia 9 (.ld 2 true (.t 5)),
ia 10 (.bsl 2 60 [(.p (.i .i64 0)),(.p (.i .i64 0))] 1 [(0,(.t 9))]),
ia 11 (.app 2 60 16 (.t 8) (.t 10)),
io (.st 1 (.t 2) (.t 11))]))))) (.seq (.reg [
  ia 12 (.ld 1 false (.t 2)),
ia 4 (.mv (.t 12))]) .ret))),[(.tmp 4)]⟩
theorem cc89 : ccF Try.prog [(43,[0,0]),(79,[1,0]),(60,[0,0]),(140,[0,0]),(43,[9]),(134,[8]),(136,[8]),(108,[8]),(135,[8]),(112,[8])] Try.f89 = some (stripF F89) := by kernel_rfl
def F90b0 : C := (.seq (.reg [
  ia 13 (.bin .lss (.t 12) (.t 11))]) (.seq (.cond (.t 13) .skip (.exit 0)) (.seq (.block 1 (.seq (.reg [
  ia 14 (.mv (.t 12)),
ia 3 (.mv (.t 14))]) (.seq (.reg [
  ia 16 (.ld 2 true (.t 1)),
ia 17 (.mv (.t 3)),
ia 18 (.build [(.p (.i .i64 0)),(.p (.i .i64 0))] [(0,(1,(.t 17)))]),
ia 19 (.call (.f 86) [(.t 16),(.t 18)]),
ia 15 (.mv (.t 19)),
ia 20 (.ext (.t 15) 0),
ia 21 (.ext (.t 15) 1),
ia 4 (.new [(.p (.i .i64 0)),(.p (.i .i64 0))]),
io (.st 2 (.t 4) (.t 20)),
ia 5 (.mv (.t 21))]) (.seq (.seq (.reg [
  ia 22 (.mv (.t 5)),
ia 23 (.bin .neq (.t 22) (ci 0)),
ia 24 (.mv (.t 23)),
ig 25 24 false (.fad 1 (.t 4)),
ig 26 24 false (.ld 1 false (.t 25)),
ig 27 24 false (.bin .neq (.t 26) (ci 0)),
ia 28 (.pick (.t 24) (.c (.a (.p (.b true)))) (.t 27)),
ia 29 (.mv (.t 28)),
ig 30 29 false (.fad 0 (.t 4)),
ig 31 29 false (.ld 1 false (.t 30)),
ig 32 29 false (.mv (.t 3)),
ig 33 29 false (.bin .leq (.t 31) (.t 32)),
ia 34 (.pick (.t 29) (.c (.a (.p (.b true)))) (.t 33))]) (.cond (.t 34) (.exit 1) .skip)) (.seq (.reg [
  ia 35 (.mv (.t 0)),
ia 36 (.mv (.t 3)),
ia 37 (.fad 0 (.t 4)),
ia 38 (.ld 1 false (.t 37)),
ia 39 (.build [(.p (.i .i64 0)),(.p (.i .i64 0))] [(0,(1,(.t 36))),(1,(1,(.t 38)))]),
ia 40 (.call (.t 35) [(.t 39)]),
ia 41 (.not (.t 40))]) (.cond (.t 41) .ret .skip)))))) (.reg [
  ia 42 (.bin .add (.t 12) (ci 1)),
ia 12 (.mv (.t 42))]))))
def F90 : FnC := ⟨2,(.seq (.seq (.reg [
  ia 6 (.ld 2 true (.t 1)),
ia 7 (.call (.f 52) [(.t 6)]),
ia 8 (.bin .neq (.t 7) (ci 0))]) (.cond (.t 8) .ret .skip)) (.seq (.reg [
  ia 9 (.fad 0 (.t 1)),
ia 10 (.ld 1 false (.t 9)),
ia 11 (.len false (.t 10)),
ia 12 (.mv (ci 0))]) (.block 0 (.loop F90b0)))),[]⟩
theorem cc90 : ccF Try.prog [(43,[0,0]),(79,[1,0]),(60,[0,0]),(140,[0,0]),(43,[9]),(134,[8]),(136,[8]),(108,[8]),(135,[8]),(112,[8])] Try.f90 = some (stripF F90) := by kernel_rfl
def F96 : FnC := ⟨4,(.seq (.reg [
  ia 6 (.mv (.c (.a (.p (.b false)))))]) (.seq (.reg [
  ia 7 (.fad 0 (.t 2)),
ia 8 (.ld 1 false (.t 7)),
ia 9 (.call (.f 97) [(.t 8)]),
ia 10 (.mv (.t 0)),
ia 11 (.bin .eql (.t 9) (.t 10)),
ia 12 (.mv (.t 11)),
ig 13 12 true (.fad 0 (.t 3)),
ig 14 12 true (.ld 1 false (.t 13)),
ig 15 12 true (.call (.f 97) [(.t 14)]),
ig 16 12 true (.mv (.t 1)),
ig 17 12 true (.bin .eql (.t 15) (.t 16)),
ia 18 (.pick (.t 12) (.t 17) (.c (.a (.p (.b false))))),
ia 6 (.mv (.t 18))]) .ret)),[(.tmp 6)]⟩
theorem cc96 : ccF Try.prog [(43,[0,0]),(79,[1,0]),(60,[0,0]),(140,[0,0]),(43,[9]),(134,[8]),(136,[8]),(108,[8]),(135,[8]),(112,[8])] Try.f96 = some (stripF F96) := by kernel_rfl
def F97 : FnC := ⟨1,(.seq (.reg [
  ia 2 (.mv (ci 0))]) (.seq (.seq (.reg [
  ia 3 (.mv (.t 0))]) (.block 0 (.seq (.seq (.reg [
  ia 5 (.bin .eql (.t 3) (ci 3)),
ia 4 (.mv (.t 5))]) (.cond (.t 4) .skip (.seq (.reg [
  ia 6 (.bin .eql (.t 3) (ci 9)),
ia 4 (.mv (.t 6))]) (.cond (.t 4) .skip (.seq (.reg [
  ia 7 (.bin .eql (.t 3) (ci 11)),
ia 4 (.mv (.t 7))]) (.cond (.t 4) .skip (.reg [
  ia 8 (.bin .eql (.t 3) (ci 12)),
ia 4 (.mv (.t 8))]))))))) (.cond (.t 4) (.seq (.reg [
  ia 2 (.mv (ci 1))]) .ret) (.seq (.seq (.reg [
  ia 10 (.bin .eql (.t 3) (ci 2)),
ia 9 (.mv (.t 10))]) (.cond (.t 9) .skip (.seq (.reg [
  ia 11 (.bin .eql (.t 3) (ci 8)),
ia 9 (.mv (.t 11))]) (.cond (.t 9) .skip (.seq (.reg [
  ia 12 (.bin .eql (.t 3) (ci 10)),
ia 9 (.mv (.t 12))]) (.cond (.t 9) .skip (.reg [
  ia 13 (.bin .eql (.t 3) (ci 13)),
ia 9 (.mv (.t 13))]))))))) (.cond (.t 9) (.seq (.reg [
  ia 2 (.mv (ci 2))]) .ret) (.seq (.seq (.reg [
  ia 15 (.bin .eql (.t 3) (ci 4)),
ia 14 (.mv (.t 15))]) (.cond (.t 14) .skip (.seq (.reg [
  ia 16 (.bin .eql (.t 3) (ci 5)),
ia 14 (.mv (.t 16))]) (.cond (.t 14) .skip (.reg [
  ia 17 (.bin .eql (.t 3) (ci 6)),
ia 14 (.mv (.t 17))]))))) (.cond (.t 14) (.seq (.reg [
  ia 2 (.mv (ci 3))]) .ret) (.seq (.reg [
  ia 19 (.bin .eql (.t 3) (ci 7)),
ia 18 (.mv (.t 19))]) (.cond (.t 18) (.seq (.reg [
  ia 2 (.mv (ci 4))]) .ret) .skip)))))))))) (.seq (.reg [
  ia 2 (.mv (ci 0))]) .ret))),[(.tmp 2)]⟩
theorem cc97 : ccF Try.prog [(43,[0,0]),(79,[1,0]),(60,[0,0]),(140,[0,0]),(43,[9]),(134,[8]),(136,[8]),(108,[8]),(135,[8]),(112,[8])] Try.f97 = some (stripF F97) := by kernel_rfl
def F98 : FnC := ⟨3,(.seq (.reg [
  ia 4 (.mv (.c (.a (.p (.b false)))))]) (.seq (.reg [
  ia 5 (.fad 0 (.t 1)),
ia 6 (.ld 1 false (.t 5)),
ia 7 (.call (.f 97) [(.t 6)]),
ia 8 (.mv (.t 0)),
ia 9 (.bin .eql (.t 7) (.t 8)),
ia 10 (.mv (.t 9)),
ig 11 10 false (.fad 0 (.t 2)),
ig 12 10 false (.ld 1 false (.t 11)),
ig 13 10 false (.call (.f 97) [(.t 12)]),
ig 14 10 false (.mv (.t 0)),
ig 15 10 false (.bin .eql (.t 13) (.t 14)),
ia 16 (.pick (.t 10) (.c (.a (.p (.b true)))) (.t 15)),
ia 4 (.mv (.t 16))]) .ret)),[(.tmp 4)]⟩
theorem cc98 : ccF Try.prog [(43,[0,0]),(79,[1,0]),(60,[0,0]),(140,[0,0]),(43,[9]),(134,[8]),(136,[8]),(108,[8]),(135,[8]),(112,[8])] Try.f98 = some (stripF F98) := by kernel_rfl
def F99 : FnC := ⟨1,(.seq (.reg [
  ia 2 (.new [(.p (.i .i64 0)),(.p (.b false)),(.p (.i .i64 0)),(.p (.i .i64 0)),(.p (.i .i64 0)),(.p (.i .i64 0)),(.p (.i .i64 0)),(.p (.s [])),.nil,.nil]),
ia 3 (.mv (ci 0))]) (.seq (.reg [
  ia 4 (.mv (.t 0)),
ia 5 (.build [(.p (.i .i64 0)),(.p (.b false)),(.p (.i .i64 0)),(.p (.i .i64 0)),(.p (.i .i64 0)),(.p (.i .i64 0)),(.p (.i .i64 0)),(.p (.s [])),.nil,.nil] [(0,(1,(.t 4)))]),
io (.st 10 (.t 2) (.t 5)),
ia 3 (.mv (ci 0))]) .ret)),[(.cell 2 10 true),(.tmp 3)]⟩
theorem cc99 : ccF Try.prog [(43,[0,0]),(79,[1,0]),(60,[0,0]),(140,[0,0]),(43,[9]),(134,[8]),(136,[8]),(108,[8]),(135,[8]),(112,[8])] Try.f99 = some (stripF F99) := by kernel_rfl
def F100 : FnC := ⟨2,(.seq (.reg [
  ia 2 (.box 10 (.t 0)),
ia 4 (.new [(.p (.i .i64 0)),(.p (.b false)),(.p (.i .i64 0)),(.p (.i .i64 0)),(.p (.i .i64 0)),(.p (.i .i64 0)),(.p (.i .i64 0)),(.p (.s [])),.nil,.nil]),
ia 5 (.mv (ci 0))]) (.seq (.seq (.reg [
  ia 6 (.mv (.t 1)),
ia 7 (.bin .eql (.t 6) (ci 0))]) (.cond (.t 7) (.reg [
  ia 8 (.fad 1 (.t 2)),
io (.st 1 (.t 8) (.c (.a (.p (.b true)))))]) .skip)) (.seq (.reg [
  ia 9 (.ld 10 true (.t 2)),
ia 10 (.mv (.t 1)),
io (.st 10 (.t 4) (.t 9)),
ia 5 (.mv (.t 10))]) .ret))),[(.cell 4 10 true),(.tmp 5)]⟩
theorem cc100 : ccF Try.prog [(43,[0,0]),(79,[1,0]),(60,[0,0]),(140,[0,0]),(43,[9]),(134,[8]),(136,[8]),(108,[8]),(135,[8]),(112,[8])] Try.f100 = some (stripF F100) := by kernel_rfl
def F101 : FnC := ⟨2,(.seq (.reg [
  ia 2 (.box 6 (.t 0)),
ia 3 (.box 6 (.t 1)),
ia 4 (.new [(.p (.i .i64 0)),(.p (.b false)),(.p (.i .i64 0)),(.p (.i .i64 0)),(.p (.i .i64 0)),(.p (.i .i64 0)),(.p (.i .i64 0)),(.p (.s [])),.nil,.nil]),
ia 5 (.mv (ci 0))]) (.seq (.reg [
  ia 7 (.fad 1 (.t 3)),
ia 8 (.ld 1 false (.t 7)),
ia 9 (.build [(.p (.i .i64 0)),(.p (.b false)),(.p (.i .i64 0)),(.p (.i .i64 0)),(.p (.i .i64 0)),(.p (.i .i64 0)),(.p (.i .i64 0)),(.p (.s [])),.nil,.nil] [(0,(1,(ci 7))),(2,(1,(.t 8)))]),
ia 6 (.new [(.p (.i .i64 0)),(.p (.b false)),(.p (.i .i64 0)),(.p (.i .i64 0)),(.p (.i .i64 0)),(.p (.i .i64 0)),(.p (.i .i64 0)),(.p (.s [])),.nil,.nil]),
io (.st 10 (.t 6) (.t 9))]) (.seq (.seq (.reg [
  ia 10 (.fad 0 (.t 2)),
ia 11 (.ld 1 false (.t 10))]) (.block 0 (.seq (.reg [
  ia 13 (.bin .eql (.t 11) (ci 5)),
ia 12 (.mv (.t 13))]) (.cond (.t 12) (.reg [
  ia 14 (.fad 2 (.t 6)),
ia 15 (.ld 1 false (.t 14)),
ia 16 (.bin .sub (.t 15) (ci 1)),
ia 17 (.fad 2 (.t 6)),
io (.st 1 (.t 17) (.t 16))]) (.seq (.reg [
  ia 19 (.bin .eql (.t 11) (ci 6)),
ia 18 (.mv (.t 19))]) (.cond (.t 18) (.reg [
  ia 20 (.fad 2 (.t 6)),
ia 21 (.ld 1 false (.t 20)),
ia 22 (.bin .add (.t 21) (ci 1)),
ia 23 (.fad 2 (.t 6)),
io (.st 1 (.t 23) (.t 22))]) .skip)))))) (.seq (.block 1 (.seq (.reg [
  ia 25 (.fad 1 (.t 2)),
ia 26 (.ld 1 false (.t 25)),
ia 27 (.fad 1 (.t 3)),
ia 28 (.ld 1 false (.t 27)),
ia 29 (.bin .geq (.t 26) (.t 28)),
ia 24 (.mv (.t 29))]) (.cond (.t 24) (.seq (.reg [
  ia 30 (.build [(.p (.i .i64 0)),(.p (.b false)),(.p (.i .i64 0)),(.p (.i .i64 0)),(.p (.i .i64 0)),(.p (.i .i64 0)),(.p (.i .i64 0)),(.p (.s [])),.nil,.nil] []),
io (.st 10 (.t 4) (.t 30)),
ia 5 (.mv (ci 140))]) .ret) (.seq (.reg [
  ia 32 (.fad 2 (.t 6)),
ia 33 (.ld 1 false (.t 32)),
ia 34 (.bin .gtr (.t 33) (ci 60)),
ia 31 (.mv (.t 34))]) (.cond (.t 31) (.seq (.reg [
  ia 35 (.build [(.p (.i .i64 0)),(.p (.b false)),(.p (.i .i64 0)),(.p (.i .i64 0)),(.p (.i .i64 0)),(.p (.i .i64 0)),(.p (.i .i64 0)),(.p (.s [])),.nil,.nil] []),
io (.st 10 (.t 4) (.t 35)),
ia 5 (.mv (ci 141))]) .ret) .skip))))) (.seq (.reg [
  ia 36 (.ld 10 true (.t 6)),
io (.st 10 (.t 4) (.t 36)),
ia 5 (.mv (ci 0))]) .ret))))),[(.cell 4 10 true),(.tmp 5)]⟩
theorem cc101 : ccF Try.prog [(43,[0,0]),(79,[1,0]),(60,[0,0]),(140,[0,0]),(43,[9]),(134,[8]),(136,[8]),(108,[8]),(135,[8]),(112,[8])] Try.f101 = some (stripF F101) := by kernel_rfl
def F102 : FnC := ⟨2,(.seq (.reg [
  ia 2 (.box 6 (.t 0)),
ia 3 (.box 6 (.t 1)),
ia 4 (.new [(.p (.i .i64 0)),(.p (.b false)),(.p (.i .i64 0)),(.p (.i .i64 0)),(.p (.i .i64 0)),(.p (.i .i64 0)),(.p (.i .i64 0)),(.p (.s [])),.nil,.nil]),
ia 5 (.mv (ci 0))]) (.seq (.seq (.reg [
  ia 7 (.fad 0 (.t 2)),
ia 8 (.ld 1 false (.t 7)),
ia 9 (.fad 0 (.t 3)),
ia 10 (.ld 1 false (.t 9)),
ia 11 (.build [(.p (.i .i64 0)),(.p (.i .i64 0))] [(0,(1,(.t 8))),(1,(1,(.t 10)))]),
ia 6 (.new [(.p (.i .i64 0)),(.p (.i .i64 0))]),
io (.st 2 (.t 6) (.t 11))]) (.block 0 (.seq (.reg [
  ia 13 (.ld 2 true (.t 6)),
ia 14 (.build [(.p (.i .i64 0)),(.p (.i .i64 0))] [(0,(1,(ci 3))),(1,(1,(ci 2)))]),
ia 15 (.eqg false [0,0] (.t 13) (.t 14)),
ia 12 (.mv (.t 15))]) (.cond (.t 12) (.seq (.seq (.reg [
  ia 16 (.fad 1 (.t 2)),
ia 17 (.ld 1 false (.t 16)),
ia 18 (.fad 1 (.t 3)),
ia 19 (.ld 1 false (.t 18)),
ia 20 (.bin .neq (.t 17) (.t 19))]) (.cond (.t 20) (.seq (.reg [
  ia 21 (.build [(.p (.i .i64 0)),(.p (.b false)),(.p (.i .i64 0)),(.p (.i .i64 0)),(.p (.i .i64 0)),(.p (.i .i64 0)),(.p (.i .i64 0)),(.p (.s [])),.nil,.nil] []),
io (.st 10 (.t 4) (.t 21)),
ia 5 (.mv (ci 140))]) .ret) .skip)) (.seq (.reg [
  ia 22 (.call (.f 99) [(ci 1)]),
ia 23 (.ext (.t 22) 0),
ia 24 (.ext (.t 22) 1),
io (.st 10 (.t 4) (.t 23)),
ia 5 (.mv (.t 24))]) .ret)) (.seq (.reg [
  ia 26 (.ld 2 true (.t 6)),
ia 27 (.build [(.p (.i .i64 0)),(.p (.i .i64 0))] [(0,(1,(ci 9))),(1,(1,(ci 8)))]),
ia 28 (.eqg false [0,0] (.t 26) (.t 27)),
ia 25 (.mv (.t 28))]) (.cond (.t 25) (.seq (.reg [
  ia 29 (.ld 6 true (.t 2)),
ia 30 (.ld 6 true (.t 3)),
ia 31 (.call (.f 131) [(.t 29),(.t 30)]),
ia 32 (.ext (.t 31) 0),
ia 33 (.ext (.t 31) 1),
io (.st 10 (.t 4) (.t 32)),
ia 5 (.mv (.t 33))]) .ret) (.seq (.reg [
  ia 35 (.ld 2 true (.t 6)),
ia 36 (.build [(.p (.i .i64 0)),(.p (.i .i64 0))] [(0,(1,(ci 11))),(1,(1,(ci 10)))]),
ia 37 (.eqg false [0,0] (.t 35) (.t 36)),
ia 34 (.mv (.t 37))]) (.cond (.t 34) (.seq (.reg [
  ia 38 (.call (.f 99) [(ci 3)]),
ia 39 (.ext (.t 38) 0),
ia 40 (.ext (.t 38) 1),
io (.st 10 (.t 4) (.t 39)),
ia 5 (.mv (.t 40))]) .ret) (.seq (.reg [
  ia 42 (.ld 2 true (.t 6)),
ia 43 (.build [(.p (.i .i64 0)),(.p (.i .i64 0))] [(0,(1,(ci 12))),(1,(1,(ci 10)))]),
ia 44 (.eqg false [0,0] (.t 42) (.t 43)),
ia 41 (.mv (.t 44))]) (.cond (.t 41) (.seq (.reg [
  ia 45 (.ld 6 true (.t 2)),
ia 46 (.ld 6 true (.t 3)),
ia 47 (.call (.f 132) [(.t 45),(.t 46)]),
ia 48 (.ext (.t 47) 0),
ia 49 (.ext (.t 47) 1),
io (.st 10 (.t 4) (.t 48)),
ia 5 (.mv (.t 49))]) .ret) .skip)))))))))) (.seq (.reg [
  ia 50 (.call (.f 99) [(ci 5)]),
ia 51 (.ext (.t 50) 0),
ia 52 (.ext (.t 50) 1),
io (.st 10 (.t 4) (.t 51)),
ia 5 (.mv (.t 52))]) .ret))),[(.cell 4 10 true),(.tmp 5)]⟩
theorem cc102 : ccF Try.prog [(43,[0,0]),(79,[1,0]),(60,[0,0]),(140,[0,0]),(43,[9]),(134,[8]),(136,[8]),(108,[8]),(135,[8]),(112,[8])] Try.f102 = some (stripF F102) := by kernel_rfl
def F113b0 : C := (.seq (.reg [
  ia 17 (.bin .lss (.t 16) (.t 15))]) (.seq (.cond (.t 17) .skip (.exit 0)) (.seq (.block 1 (.seq (.reg [
  ia 18 (.mv (.t 16)),
ia 19 (.ias 2 (.t 14) (.t 16)),
ia 20 (.ld 2 true (.t 19)),
ia 4 (.new [(.p (.s [])),(.p (.i .i64 0))]),
ia 3 (.mv (.t 18)),
io (.st 2 (.t 4) (.t 20))]) (.seq (.reg [
  ia 21 (.fn 141 [(.t 4)]),
ia 5 (.mv (.t 21))]) (.seq (.reg [
  ia 22 (.fad 0 (.t 4)),
ia 23 (.ld 1 false (.t 22)),
ia 24 (.bin .eql (.t 23) (.c (.a (.p (.s []))))),
ia 25 (.mv (.t 24)),
ig 26 25 false (.fad 1 (.t 4)),
ig 27 25 false (.ld 1 false (.t 26)),
ig 28 25 false (.call (.f 74) [(.t 27),(ci 0),(ci 8)]),
ig 29 25 false (.not (.t 28)),
ia 30 (.pick (.t 25) (.c (.a (.p (.b true)))) (.t 29)),
ia 31 (.mv (.t 30)),
ig 32 31 false (.fad 4 (.t 1)),
ig 33 31 false (.ld 1 false (.t 32)),
ig 34 31 false (.mv (.t 3)),
ig 35 31 false (.slc 2 79 (.t 33) .none (.some (.t 34)) .none),
ig 36 31 false (.mv (.t 5)),
ig 37 31 false (.call (.f 142) [(.t 35),(.t 36)]),
ia 38 (.pick (.t 31) (.c (.a (.p (.b true)))) (.t 37))]) (.cond (.t 38) (.seq (.reg [
  ia 2 (.mv (.c (.a (.p (.b false)))))]) .ret) .skip))))) (.reg [
  ia 39 (.bin .add (.t 16) (ci 1)),
ia 16 (.mv (.t 39))]))))
def F113 : FnC := ⟨1,(.seq (.reg [
  ia 1 (.box 6 (.t 0)),
ia 2 (.mv (.c (.a (.p (.b false)))))]) (.seq (.seq (.reg [
  ia 6 (.fad 0 (.t 1)),
ia 7 (.ld 1 false (.t 6)),
ia 8 (.bin .neq (.t 7) (ci 9))]) (.cond (.t 8) (.seq (.reg [
  ia 9 (.fad 4 (.t 1)),
ia 10 (.ld 1 false (.t 9)),
ia 11 (.len false (.t 10)),
ia 12 (.bin .eql (.t 11) (ci 0)),
ia 2 (.mv (.t 12))]) .ret) .skip)) (.seq (.seq (.reg [
  ia 13 (.fad 4 (.t 1)),
ia 14 (.ld 1 false (.t 13)),
ia 15 (.len false (.t 14)),
ia 16 (.mv (ci 0))]) (.block 0 (.loop F113b0))) (.seq (.reg [
  ia 40 (.fad 4 (.t 1)),
ia 41 (.ld 1 false (.t 40)),
ia 42 (.len false (.t 41)),
ia 43 (.call (.f 74) [(.t 42),(ci 1),(ci 8)]),
ia 2 (.mv (.t 43))]) .ret)))),[(.tmp 2)]⟩
theorem cc113 : ccF Try.prog [(43,[0,0]),(79,[1,0]),(60,[0,0]),(140,[0,0]),(43,[9]),(134,[8]),(136,[8]),(108,[8]),(135,[8]),(112,[8])] Try.f113 = some (stripF F113) := by kernel_rfl
def F114 : FnC := ⟨0,(.seq (.reg [
  ia 0 (.new [(.p (.i .i64 0)),(.p (.i .i64 0)),(.p (.i .i64 0)),(.p (.i .i64 0)),(.p (.i .i64 0)),(.p (.i .i64 0)),(.p (.i .i64 0)),(.p (.i .i64 0)),(.p (.i .i64 0)),(.p (.i .i64 0)),(.p (.i .i64 0)),(.p (.i .i64 0)),(.p (.i .i64 0)),(.p (.i .i64 0))])]) (.seq (.reg [
  ia 1 (.build [(.p (.i .i64 0)),(.p (.i .i64 0)),(.p (.i .i64 0)),(.p (.i .i64 0)),(.p (.i .i64 0)),(.p (.i .i64 0)),(.p (.i .i64 0)),(.p (.i .i64 0)),(.p (.i .i64 0)),(.p (.i .i64 0)),(.p (.i .i64 0)),(.p (.i .i64 0)),(.p (.i .i64 0)),(.p (.i .i64 0))] [(1,(1,(ci 1))),(2,(1,(ci 3))),(3,(1,(ci 3))),(4,(1,(ci 3))),(5,(1,(ci 2))),(6,(1,(ci 2))),(7,(1,(ci 1))),(10,(1,(ci 1))),(11,(1,(ci 3))),(12,(1,(ci 2))),(13,(1,(ci 1)))]),
io (.st 14 (.t 0) (.t 1))]) .ret)),[(.cell 0 14 true)]⟩
theorem cc114 : ccF Try.prog [(43,[0,0]),(79,[1,0]),(60,[0,0]),(140,[0,0]),(43,[9]),(134,[8]),(136,[8]),(108,[8]),(135,[8]),(112,[8])] Try.f114 = some (stripF F114) := by kernel_rfl
def F116 : FnC := ⟨1,(.seq (.reg [
  ia 2 (.mv (.c (.a (.p (.b false)))))]) (.seq (.seq (.reg [
  ia 5 (.mv (.t 0)),
ia 6 (.bin .eql (.t 5) (.c (.a (.p (.s [])))))]) (.cond (.t 6) (.seq (.reg [
  ia 2 (.mv (.c (.a (.p (.b false)))))]) .ret) .skip)) (.seq (.reg [
  ia 8 (.mv (.t 0)),
ia 9 (.call (.f 143) [(.t 8),(ci 0)]),
ia 7 (.mv (.t 9)),
ia 10 (.ext (.t 7) 0),
ia 11 (.ext (.t 7) 1),
ia 3 (.new [(.p (.i .i64 0)),(.p (.s [])),(.p (.i .i64 0)),(.p (.i .i64 0))]),
io (.st 4 (.t 3) (.t 10)),
ia 4 (.mv (.t 11))]) (.seq (.reg [
  ia 12 (.mv (.t 4)),
ia 13 (.bin .eql (.t 12) (ci 0)),
ia 14 (.mv (.t 13)),
ig 15 14 true (.fad 0 (.t 3)),
ig 16 14 true (.ld 1 false (.t 15)),
ig 17 14 true (.bin .eql (.t 16) (ci 2)),
ia 18 (.pick (.t 14) (.t 17) (.c (.a (.p (.b false))))),
ia 19 (.mv (.t 18)),
ig 20 19 true (.fad 1 (.t 3)),
ig 21 19 true (.ld 1 false (.t 20)),
ig 22 19 true (.mv (.t 0)),
ig 23 19 true (.bin .eql (.t 21) (.t 22)),
ia 24 (.pick (.t 19) (.t 23) (.c (.a (.p (.b false))))),
ia 2 (.mv (.t 24))]) .ret)))),[(.tmp 2)]⟩
theorem cc116 : ccF Try.prog [(43,[0,0]),(79,[1,0]),(60,[0,0]),(140,[0,0]),(43,[9]),(134,[8]),(136,[8]),(108,[8]),(135,[8]),(112,[8])] Try.f116 = some (stripF F116) := by kernel_rfl
def tblA : List (FuncId × FnC) := [(13,F13),(26,F26),(29,F29),(30,F30),(31,F31),(32,F32),(33,F33),(35,F35),(39,F39),(40,F40),(42,F42),(43,F43),(45,F45),(48,F48),(50,F50),(51,F51),(52,F52),(56,F56),(57,F57),(58,F58),(59,F59),(60,F60),(61,F61),(62,F62),(64,F64),(65,F65),(67,F67),(70,F70),(74,F74),(75,F75),(76,F76),(77,F77),(81,F81),(82,F82),(83,F83),(84,F84),(85,F85),(86,F86),(89,F89),(90,F90),(96,F96),(97,F97),(98,F98),(99,F99),(100,F100),(101,F101),(102,F102),(113,F113),(114,F114),(116,F116)]
theorem tblOkA : ∀ x,x ∈ tblA → ∃ fn,Try.prog.funcs[x.1]? = some fn ∧ ccF Try.prog [(43,[0,0]),(79,[1,0]),(60,[0,0]),(140,[0,0]),(43,[9]),(134,[8]),(136,[8]),(108,[8]),(135,[8]),(112,[8])] fn = some (stripF x.2) := by
  intro x hx
  simp only [tblA,List.mem_cons,List.not_mem_nil,or_false] at hx
  rcases hx with rfl | rfl | rfl | rfl | rfl | rfl | rfl | rfl | rfl | rfl | rfl | rfl | rfl | rfl | rfl | rfl | rfl | rfl | rfl | rfl | rfl | rfl | rfl | rfl | rfl | rfl | rfl | rfl | rfl | rfl | rfl | rfl | rfl | rfl | rfl | rfl | rfl | rfl | rfl | rfl | rfl | rfl | rfl | rfl | rfl | rfl | rfl | rfl | rfl | rfl
  · exact ⟨_,Try.func13,cc13⟩
  · exact ⟨_,Try.func26,cc26⟩
  · exact ⟨_,Try.func29,cc29⟩
  · exact ⟨_,Try.func30,cc30⟩
  · exact ⟨_,Try.func31,cc31⟩
  · exact ⟨_,Try.func32,cc32⟩
  · exact ⟨_,Try.func33,cc33⟩
  · exact ⟨_,Try.func35,cc35⟩
  · exact ⟨_,Try.func39,cc39⟩
  · exact ⟨_,Try.func40,cc40⟩
  · exact ⟨_,Try.func42,cc42⟩
  · exact ⟨_,Try.func43,cc43⟩
  · exact ⟨_,Try.func45,cc45⟩
  · exact ⟨_,Try.func48,cc48⟩
  · exact ⟨_,Try.func50,cc50⟩
  · exact ⟨_,Try.func51,cc51⟩
  · exact ⟨_,Try.func52,cc52⟩
  · exact ⟨_,Try.func56,cc56⟩
  · exact ⟨_,Try.func57,cc57⟩
  · exact ⟨_,Try.func58,cc58⟩
  · exact ⟨_,Try.func59,cc59⟩
  · exact ⟨_,Try.func60,cc60⟩
  · exact ⟨_,Try.func61,cc61⟩
  · exact ⟨_,Try.func62,cc62⟩
  · exact ⟨_,Try.func64,cc64⟩
  · exact ⟨_,Try.func65,cc65⟩
  · exact ⟨_,Try.func67,cc67⟩
  · exact ⟨_,Try.func70,cc70⟩
  · exact ⟨_,Try.func74,cc74⟩
  · exact ⟨_,Try.func75,cc75⟩
  · exact ⟨_,Try.func76,cc76⟩
  · exact ⟨_,Try.func77,cc77⟩
  · exact ⟨_,Try.func81,cc81⟩
  · exact ⟨_,Try.func82,cc82⟩
  · exact ⟨_,Try.func83,cc83⟩
  · exact ⟨_,Try.func84,cc84⟩
  · exact ⟨_,Try.func85,cc85⟩
  · exact ⟨_,Try.func86,cc86⟩
  · exact ⟨_,Try.func89,cc89⟩
  · exact ⟨_,Try.func90,cc90⟩
  · exact ⟨_,Try.func96,cc96⟩
  · exact ⟨_,Try.func97,cc97⟩
  · exact ⟨_,Try.func98,cc98⟩
  · exact ⟨_,Try.func99,cc99⟩
  · exact ⟨_,Try.func100,cc100⟩
  · exact ⟨_,Try.func101,cc101⟩
  · exact ⟨_,Try.func102,cc102⟩
  · exact ⟨_,Try.func113,cc113⟩
  · exact ⟨_,Try.func114,cc114⟩
  · exact ⟨_,Try.func116,cc116⟩
end Go.Proofs.Ytkpfjolcmkikeaa
namespace Go.Proofs.Ytkpfjolcmkikeaa
open Go.Fx
def F117 : FnC := ⟨1,(.seq (.reg [
  ia 2 (.new [.nil,(.p (.i .i64 0)),(.p (.i .i64 0)),(.p (.i .i64 0)),.nil,(.p (.i .i64 0))])]) (.seq (.reg [
  ia 3 (.mv (.t 0)),
ia 4 (.build [.nil,(.p (.i .i64 0)),(.p (.i .i64 0)),(.p (.i .i64 0)),.nil,(.p (.i .i64 0))] [(5,(1,(.t 3)))]),
io (.st 6 (.t 2) (.t 4))]) .ret)),[(.cell 2 6 true)]⟩
theorem cc117 : ccF Try.prog [(43,[0,0]),(79,[1,0]),(60,[0,0]),(140,[0,0]),(43,[9]),(134,[8]),(136,[8]),(108,[8]),(135,[8]),(112,[8])] Try.f117 = some (stripF F117) := by kernel_rfl
def F118b0 : C := (.seq (.seq (.reg [
  ia 6 (.mv (.t 5)),
ia 7 (.mv (.t 0)),
ia 8 (.len false (.t 7)),
ia 9 (.bin .lss (.t 6) (.t 8))]) (.cond (.t 9) .skip (.exit 0))) (.seq (.block 1 (.seq (.reg [
  ia 12 (.mv (.t 0)),
ia 13 (.mv (.t 5)),
ia 14 (.ias 3 (.t 12) (.t 13)),
ia 15 (.fad 0 (.t 14)),
ia 16 (.ld 1 false (.t 15)),
ia 17 (.mv (.t 1)),
ia 18 (.bin .eql (.t 16) (.t 17))]) (.cond (.t 18) (.seq (.reg [
  ia 19 (.mv (.t 5)),
ia 4 (.mv (.t 19))]) .ret) .skip))) (.reg [
  ia 10 (.mv (.t 5)),
ia 11 (.bin .add (.t 10) (ci 1)),
ia 5 (.mv (.t 11))])))
def F118 : FnC := ⟨2,(.seq (.reg [
  ia 4 (.mv (ci 0))]) (.seq (.seq (.reg [
  ia 5 (.mv (ci 0))]) (.block 0 (.loop F118b0))) (.seq (.reg [
  ia 4 (.mv (.c (.a (.p (.i .i64 (-1))))))]) .ret))),[(.tmp 4)]⟩
theorem cc118 : ccF Try.prog [(43,[0,0]),(79,[1,0]),(60,[0,0]),(140,[0,0]),(43,[9]),(134,[8]),(136,[8]),(108,[8]),(135,[8]),(112,[8])] Try.f118 = some (stripF F118) := by kernel_rfl
def F119 : FnC := ⟨4,(.seq (.reg [
  ia 4 (.box 2 (.t 0)),
ia 5 (.box 4 (.t 1)),
ia 8 (.new [.nil,(.p (.i .i64 0)),(.p (.i .i64 0)),(.p (.i .i64 0)),.nil,(.p (.i .i64 0))])]) (.seq (.reg [
  ia 10 (.fad 3 (.t 5)),
ia 11 (.ld 1 false (.t 10)),
ia 12 (.mv (.t 2)),
ia 13 (.ias 4 (.t 11) (.t 12)),
ia 14 (.ld 4 true (.t 13)),
ia 9 (.new [(.p (.i .i64 0)),(.p (.i .i64 0)),(.p (.s [])),.nil]),
io (.st 4 (.t 9) (.t 14))]) (.seq (.seq (.reg [
  ia 15 (.fad 0 (.t 5)),
ia 16 (.ld 1 false (.t 15)),
ia 17 (.bin .eql (.t 16) (ci 4)),
ia 18 (.mv (.t 17)),
ig 19 18 false (.fad 0 (.t 5)),
ig 20 18 false (.ld 1 false (.t 19)),
ig 21 18 false (.bin .eql (.t 20) (ci 3)),
ig 22 18 false (.mv (.t 21)),
ig 23 22 true (.mv (.t 2)),
ig 24 22 true (.bin .eql (.t 23) (ci 1)),
ig 25 18 false (.pick (.t 22) (.t 24) (.c (.a (.p (.b false))))),
ia 26 (.pick (.t 18) (.c (.a (.p (.b true)))) (.t 25))]) (.cond (.t 26) (.seq (.reg [
  ia 27 (.ld 2 true (.t 4)),
ia 28 (.ld 4 true (.t 9)),
ia 29 (.mv (.t 3)),
ia 30 (.bin .add (.t 29) (ci 1)),
ia 31 (.call (.f 60) [(.t 27),(.t 28),(.t 30)]),
ia 32 (.mv (.t 3)),
ia 33 (.call (.f 144) [(.t 31),(.t 32)]),
io (.st 6 (.t 8) (.t 33))]) .ret) .skip)) (.seq (.seq (.reg [
  ia 34 (.fad 0 (.t 5)),
ia 35 (.ld 1 false (.t 34)),
ia 36 (.bin .eql (.t 35) (ci 5)),
ia 37 (.mv (.t 36)),
ig 38 37 true (.mv (.t 2)),
ig 39 37 true (.bin .gtr (.t 38) (ci 0)),
ia 40 (.pick (.t 37) (.t 39) (.c (.a (.p (.b false)))))]) (.cond (.t 40) (.seq (.reg [
  ir 41 (.ld 2 true (.t 4)),
ir 42 (.fad 3 (.t 9)),
ir 43 (.ld 1 false (.t 42)),
ir 44 (.ias 4 (.t 43) (ci 0)),
ir 45 (.ld 4 true (.t 44)),
ir 46 (.fad 1 (.t 9)),
ir 47 (.ld 1 false (.t 46)),
ir 48 (.mv (.t 3)),
ia 49 (.call (.f 83) [(.t 41),(.t 45),(.t 47),(.t 48)]),
io (.st 6 (.t 8) (.t 49))]) .ret) .skip)) (.seq (.reg [
  ia 50 (.ld 2 true (.t 4)),
ia 51 (.ld 4 true (.t 9)),
ia 52 (.mv (.t 3)),
ia 53 (.call (.f 60) [(.t 50),(.t 51),(.t 52)]),
io (.st 6 (.t 8) (.t 53))]) .ret))))),[(.cell 8 6 true)]⟩
theorem cc119 : ccF Try.prog [(43,[0,0]),(79,[1,0]),(60,[0,0]),(140,[0,0]),(43,[9]),(134,[8]),(136,[8]),(108,[8]),(135,[8]),(112,[8])] Try.f119 = some (stripF F119) := by kernel_rfl
def F120b0 : C := (.seq (.seq (.reg [
  ia 12 (.mv (.t 7)),
ia 13 (.fad 4 (.t 3)),
ia 14 (.ld 1 false (.t 13)),
ia 15 (.len false (.t 14)),
ia 16 (.bin .lss (.t 12) (.t 15)),
ia 17 (.mv (.t 16)),
ig 18 17 true (.fad 5 (.t 3)),
ig 19 17 true (.ld 1 false (.t 18)),
ig 20 17 true (.bin .eql (.t 19) (ci 0)),
ia 21 (.pick (.t 17) (.t 20) (.c (.a (.p (.b false)))))]) (.cond (.t 21) .skip (.exit 0))) (.seq (.block 1 (.seq (.reg [
  ia 24 (.mv (.t 1)),
ia 25 (.fad 4 (.t 3)),
ia 26 (.ld 1 false (.t 25)),
ia 27 (.mv (.t 7)),
ia 28 (.ias 3 (.t 26) (.t 27)),
ia 29 (.fad 0 (.t 28)),
ia 30 (.ld 1 false (.t 29)),
ia 31 (.call (.f 118) [(.t 24),(.t 30)]),
ia 8 (.mv (.t 31))]) (.seq (.seq (.reg [
  ia 32 (.mv (.t 8)),
ia 33 (.bin .lss (.t 32) (ci 0))]) (.cond (.t 33) (.seq (.reg [
  ia 34 (.mv (.t 1)),
ia 35 (.fad 4 (.t 3)),
ia 36 (.ld 1 false (.t 35)),
ia 37 (.mv (.t 7)),
ia 38 (.ias 3 (.t 36) (.t 37)),
ia 39 (.ld 3 true (.t 38)),
ia 40 (.call (.f 145) [(.t 34),(.t 39)]),
ia 1 (.mv (.t 40))]) (.exit 1)) .skip)) (.seq (.reg [
  ia 42 (.fad 0 (.t 3)),
ia 43 (.ld 2 true (.t 42)),
ia 44 (.mv (.t 2)),
ia 45 (.build [(.p (.i .i64 0)),(.p (.i .i64 0)),(.p (.i .i64 0)),(.p (.s [])),.nil,.nil] [(0,(1,(ci 4))),(1,(1,(.t 44)))]),
ia 46 (.call (.f 82) [(.t 43),(.t 45)]),
ia 41 (.mv (.t 46)),
ia 47 (.ext (.t 41) 0),
ia 48 (.ext (.t 41) 1),
ia 49 (.ext (.t 41) 2),
ia 9 (.new [.nil,(.p (.i .i64 0))]),
io (.st 2 (.t 9) (.t 47)),
ia 10 (.mv (.t 48)),
ia 11 (.mv (.t 49))]) (.seq (.reg [
  ia 50 (.mv (.t 11)),
ia 51 (.fad 5 (.t 3)),
io (.st 1 (.t 51) (.t 50))]) (.seq (.reg [
  ir 52 (.ld 2 true (.t 9)),
ir 53 (.mv (.t 10)),
ir 54 (.call (.f 62) [(.t 53),(ci 1)]),
ir 55 (.mv (.t 1)),
ir 56 (.mv (.t 8)),
ir 57 (.ias 3 (.t 55) (.t 56)),
ir 58 (.fad 1 (.t 57)),
ir 59 (.ld 2 true (.t 58)),
ir 60 (.call (.f 61) [(.t 52),(.t 54),(.t 59)]),
ir 61 (.mv (.t 10)),
ir 62 (.call (.f 62) [(.t 61),(ci 2)]),
ir 63 (.fad 4 (.t 3)),
ir 64 (.ld 1 false (.t 63)),
ir 65 (.mv (.t 7)),
ir 66 (.ias 3 (.t 64) (.t 65)),
ir 67 (.fad 1 (.t 66)),
ir 68 (.ld 2 true (.t 67)),
ia 69 (.call (.f 61) [(.t 60),(.t 62),(.t 68)]),
ia 70 (.fad 0 (.t 3)),
io (.st 2 (.t 70) (.t 69))]) (.seq (.reg [
  ia 71 (.bsl 3 108 [(.p (.i .i64 0)),(.p (.i .i64 0)),(.p (.i .i64 0))] 0 []),
ia 72 (.mv (.t 1)),
ia 73 (.app 3 108 24 (.t 71) (.t 72)),
ia 1 (.mv (.t 73))]) (.reg [
  ia 74 (.mv (.t 1)),
ia 75 (.mv (.t 8)),
ia 76 (.mv (.t 10)),
ia 77 (.call (.f 62) [(.t 76),(ci 0)]),
ia 78 (.ias 3 (.t 74) (.t 75)),
ia 79 (.fad 1 (.t 78)),
io (.st 2 (.t 79) (.t 77))])))))))) (.reg [
  ia 22 (.mv (.t 7)),
ia 23 (.bin .add (.t 22) (ci 1)),
ia 7 (.mv (.t 23))])))
def F120 : FnC := ⟨3,(.seq (.reg [
  ia 3 (.box 6 (.t 0)),
ia 6 (.new [.nil,(.p (.i .i64 0)),(.p (.i .i64 0)),(.p (.i .i64 0)),.nil,(.p (.i .i64 0))])]) (.seq (.seq (.reg [
  ia 7 (.mv (ci 0))]) (.block 0 (.loop F120b0))) (.seq (.reg [
  ia 80 (.mv (.t 1)),
ia 81 (.fad 4 (.t 3)),
io (.st 1 (.t 81) (.t 80))]) (.seq (.reg [
  ia 82 (.ld 6 true (.t 3)),
io (.st 6 (.t 6) (.t 82))]) .ret)))),[(.cell 6 6 true)]⟩
theorem cc120 : ccF Try.prog [(43,[0,0]),(79,[1,0]),(60,[0,0]),(140,[0,0]),(43,[9]),(134,[8]),(136,[8]),(108,[8]),(135,[8]),(112,[8])] Try.f120 = some (stripF F120) := by kernel_rfl
def F121 : FnC := ⟨3,(.seq (.reg [
  ia 3 (.box 2 (.t 0)),
ia 4 (.box 2 (.t 1)),
ia 5 (.box 2 (.t 2)),
ia 6 (.new [.nil,(.p (.i .i64 0))])]) (.seq (.reg [
  ia 9 (.ld 2 true (.t 3)),
ia 10 (.call (.f 51) [(.t 9)]),
ia 7 (.new [.nil,(.p (.i .i64 0))]),
io (.st 2 (.t 7) (.t 10))]) (.seq (.reg [
  ia 11 (.bsl 2 43 [(.p (.i .i64 0)),(.p (.i .i64 0))] 0 []),
ia 12 (.fad 0 (.t 7)),
ia 13 (.ld 1 false (.t 12)),
ia 14 (.fad 0 (.t 4)),
ia 15 (.ld 1 false (.t 14)),
ia 16 (.ias 6 (.t 13) (.t 15)),
ia 17 (.fad 5 (.t 16)),
ia 18 (.ld 1 false (.t 17)),
ia 19 (.app 2 43 16 (.t 11) (.t 18)),
ia 8 (.mv (.t 19))]) (.seq (.reg [
  ia 20 (.mv (.t 8)),
ia 21 (.fad 1 (.t 4)),
ia 22 (.ld 1 false (.t 21)),
ia 23 (.ld 2 true (.t 5)),
ia 24 (.ias 2 (.t 20) (.t 22)),
io (.st 2 (.t 24) (.t 23))]) (.seq (.reg [
  ia 25 (.fad 0 (.t 7)),
ia 26 (.ld 1 false (.t 25)),
ia 27 (.fad 0 (.t 4)),
ia 28 (.ld 1 false (.t 27)),
ia 29 (.mv (.t 8)),
ia 30 (.ias 6 (.t 26) (.t 28)),
ia 31 (.fad 5 (.t 30)),
io (.st 1 (.t 31) (.t 29))]) (.seq (.reg [
  ia 32 (.ld 2 true (.t 7)),
io (.st 2 (.t 6) (.t 32))]) .ret)))))),[(.cell 6 2 true)]⟩
theorem cc121 : ccF Try.prog [(43,[0,0]),(79,[1,0]),(60,[0,0]),(140,[0,0]),(43,[9]),(134,[8]),(136,[8]),(108,[8]),(135,[8]),(112,[8])] Try.f121 = some (stripF F121) := by kernel_rfl
def F122 : FnC := ⟨2,(.seq (.reg [
  ia 2 (.box 2 (.t 0)),
ia 4 (.mv (.c (.a (.p (.b false)))))]) (.seq (.reg [
  ia 5 (.mv (.t 1)),
ia 6 (.fn 147 [(.t 2)]),
ia 7 (.call (.f 146) [(.t 5),(.t 6)]),
ia 8 (.not (.t 7)),
ia 4 (.mv (.t 8))]) .ret)),[(.tmp 4)]⟩
theorem cc122 : ccF Try.prog [(43,[0,0]),(79,[1,0]),(60,[0,0]),(140,[0,0]),(43,[9]),(134,[8]),(136,[8]),(108,[8]),(135,[8]),(112,[8])] Try.f122 = some (stripF F122) := by kernel_rfl
def F123 : FnC := ⟨2,(.seq (.reg [
  ia 2 (.box 2 (.t 0)),
ia 3 (.box 2 (.t 1)),
ia 4 (.new [(.p (.i .i64 0)),(.p (.i .i64 0))])]) (.seq (.reg [
  ir 5 (.fad 0 (.t 2)),
ir 6 (.fad 0 (.t 5)),
ir 7 (.ld 1 false (.t 6)),
ir 8 (.fad 0 (.t 3)),
ir 9 (.ld 1 false (.t 8)),
ir 10 (.ias 6 (.t 7) (.t 9)),
ir 11 (.fad 5 (.t 10)),
ir 12 (.ld 1 false (.t 11)),
ir 13 (.fad 1 (.t 3)),
ir 14 (.ld 1 false (.t 13)),
ia 15 (.ias 2 (.t 12) (.t 14)),
ia 16 (.ld 2 true (.t 15)),
io (.st 2 (.t 4) (.t 16))]) .ret)),[(.cell 4 2 true)]⟩
theorem cc123 : ccF Try.prog [(43,[0,0]),(79,[1,0]),(60,[0,0]),(140,[0,0]),(43,[9]),(134,[8]),(136,[8]),(108,[8]),(135,[8]),(112,[8])] Try.f123 = some (stripF F123) := by kernel_rfl
def F131 : FnC := ⟨2,(.seq (.reg [
  ia 2 (.box 6 (.t 0)),
ia 3 (.box 6 (.t 1)),
ia 4 (.new [(.p (.i .i64 0)),(.p (.b false)),(.p (.i .i64 0)),(.p (.i .i64 0)),(.p (.i .i64 0)),(.p (.i .i64 0)),(.p (.i .i64 0)),(.p (.s [])),.nil,.nil]),
ia 5 (.mv (ci 0))]) (.seq (.seq (.reg [
  ia 7 (.fad 1 (.t 2)),
ia 8 (.ld 1 false (.t 7)),
ia 9 (.fad 1 (.t 3)),
ia 10 (.ld 1 false (.t 9)),
ia 11 (.bin .neq (.t 8) (.t 10))]) (.cond (.t 11) (.seq (.reg [
  ia 12 (.build [(.p (.i .i64 0)),(.p (.b false)),(.p (.i .i64 0)),(.p (.i .i64 0)),(.p (.i .i64 0)),(.p (.i .i64 0)),(.p (.i .i64 0)),(.p (.s [])),.nil,.nil] []),
io (.st 10 (.t 4) (.t 12)),
ia 5 (.mv (ci 140))]) .ret) .skip)) (.seq (.reg [
  ia 13 (.fad 4 (.t 2)),
ia 14 (.ld 1 false (.t 13)),
ia 15 (.fn 150 [(.t 3)]),
ia 16 (.call (.f 149) [(.t 14),(.t 15)]),
ia 6 (.mv (.t 16))]) (.seq (.seq (.reg [
  ia 17 (.mv (.t 6)),
ia 18 (.bin .lss (.t 17) (ci 0))]) (.cond (.t 18) (.seq (.reg [
  ia 19 (.call (.f 99) [(ci 5)]),
ia 20 (.ext (.t 19) 0),
ia 21 (.ext (.t 19) 1),
io (.st 10 (.t 4) (.t 20)),
ia 5 (.mv (.t 21))]) .ret) .skip)) (.seq (.reg [
  ia 22 (.mv (.t 6)),
ia 23 (.build [(.p (.i .i64 0)),(.p (.b false)),(.p (.i .i64 0)),(.p (.i .i64 0)),(.p (.i .i64 0)),(.p (.i .i64 0)),(.p (.i .i64 0)),(.p (.s [])),.nil,.nil] [(0,(1,(ci 2))),(3,(1,(.t 22)))]),
io (.st 10 (.t 4) (.t 23)),
ia 5 (.mv (ci 0))]) .ret))))),[(.cell 4 10 true),(.tmp 5)]⟩
theorem cc131 : ccF Try.prog [(43,[0,0]),(79,[1,0]),(60,[0,0]),(140,[0,0]),(43,[9]),(134,[8]),(136,[8]),(108,[8]),(135,[8]),(112,[8])] Try.f131 = some (stripF F131) := by kernel_rfl
def F132 : FnC := ⟨2,(.seq (.reg [
  ia 2 (.box 6 (.t 0)),
ia 3 (.box 6 (.t 1)),
ia 4 (.new [(.p (.i .i64 0)),(.p (.b false)),(.p (.i .i64 0)),(.p (.i .i64 0)),(.p (.i .i64 0)),(.p (.i .i64 0)),(.p (.i .i64 0)),(.p (.s [])),.nil,.nil]),
ia 5 (.mv (ci 0))]) (.seq (.reg [
  ia 7 (.build [(.p (.i .i64 0)),(.p (.i .i64 0)),(.p (.i .i64 0)),(.p (.s [])),.nil,.nil] [(0,(1,(ci 10)))]),
ia 6 (.new [(.p (.i .i64 0)),(.p (.i .i64 0)),(.p (.i .i64 0)),(.p (.s [])),.nil,.nil]),
io (.st 6 (.t 6) (.t 7))]) (.seq (.seq (.reg [
  ia 8 (.fad 3 (.t 2)),
ia 9 (.ld 1 false (.t 8))]) (.block 0 (.seq (.reg [
  ia 11 (.bin .eql (.t 9) (.c (.a (.p (.s [43]))))),
ia 10 (.mv (.t 11))]) (.cond (.t 10) (.reg [
  ia 12 (.fad 2 (.t 2)),
ia 13 (.ld 1 false (.t 12)),
ia 14 (.fad 2 (.t 3)),
ia 15 (.ld 1 false (.t 14)),
ia 16 (.bin .add (.t 13) (.t 15)),
ia 17 (.fad 2 (.t 6)),
io (.st 1 (.t 17) (.t 16))]) (.seq (.reg [
  ia 19 (.bin .eql (.t 9) (.c (.a (.p (.s [45]))))),
ia 18 (.mv (.t 19))]) (.cond (.t 18) (.reg [
  ia 20 (.fad 2 (.t 2)),
ia 21 (.ld 1 false (.t 20)),
ia 22 (.fad 2 (.t 3)),
ia 23 (.ld 1 false (.t 22)),
ia 24 (.bin .sub (.t 21) (.t 23)),
ia 25 (.fad 2 (.t 6)),
io (.st 1 (.t 25) (.t 24))]) (.seq (.reg [
  ia 27 (.bin .eql (.t 9) (.c (.a (.p (.s [42]))))),
ia 26 (.mv (.t 27))]) (.cond (.t 26) (.reg [
  ia 28 (.fad 2 (.t 2)),
ia 29 (.ld 1 false (.t 28)),
ia 30 (.fad 2 (.t 3)),
ia 31 (.ld 1 false (.t 30)),
ia 32 (.bin .mul (.t 29) (.t 31)),
ia 33 (.fad 2 (.t 6)),
io (.st 1 (.t 33) (.t 32))]) (.seq (.reg [
  ia 35 (.bin .eql (.t 9) (.c (.a (.p (.s [47]))))),
ia 34 (.mv (.t 35))]) (.cond (.t 34) (.seq (.seq (.reg [
  ia 36 (.fad 2 (.t 3)),
ia 37 (.ld 1 false (.t 36)),
ia 38 (.bin .eql (.t 37) (ci 0))]) (.cond (.t 38) (.seq (.reg [
  ia 39 (.call (.f 99) [(ci 5)]),
ia 40 (.ext (.t 39) 0),
ia 41 (.ext (.t 39) 1),
io (.st 10 (.t 4) (.t 40)),
ia 5 (.mv (.t 41))]) .ret) .skip)) (.reg [
  ia 42 (.fad 2 (.t 2)),
ia 43 (.ld 1 false (.t 42)),
ia 44 (.fad 2 (.t 3)),
ia 45 (.ld 1 false (.t 44)),
ia 46 (.bin .quo (.t 43) (.t 45)),
ia 47 (.fad 2 (.t 6)),
io (.st 1 (.t 47) (.t 46))])) (.seq (.reg [
  ia 49 (.bin .eql (.t 9) (.c (.a (.p (.s [60]))))),
ia 48 (.mv (.t 49))]) (.cond (.t 48) (.reg [
  ia 50 (.fad 2 (.t 2)),
ia 51 (.ld 1 false (.t 50)),
ia 52 (.fad 2 (.t 3)),
ia 53 (.ld 1 false (.t 52)),
ia 54 (.bin .lss (.t 51) (.t 53)),
ia 55 (.call (.f 151) [(.t 54)]),
io (.st 6 (.t 6) (.t 55))]) (.seq (.reg [
  ia 57 (.bin .eql (.t 9) (.c (.a (.p (.s [61,61]))))),
ia 56 (.mv (.t 57))]) (.cond (.t 56) (.reg [
  ia 58 (.fad 2 (.t 2)),
ia 59 (.ld 1 false (.t 58)),
ia 60 (.fad 2 (.t 3)),
ia 61 (.ld 1 false (.t 60)),
ia 62 (.bin .eql (.t 59) (.t 61)),
ia 63 (.call (.f 151) [(.t 62)]),
io (.st 6 (.t 6) (.t 63))]) .skip)))))))))))))) (.seq (.reg [
  ia 64 (.fad 1 (.t 2)),
ia 65 (.ld 1 false (.t 64)),
ia 66 (.fad 1 (.t 6)),
io (.st 1 (.t 66) (.t 65))]) (.seq (.reg [
  ia 67 (.ld 6 true (.t 6)),
ia 68 (.build [(.p (.i .i64 0)),(.p (.b false)),(.p (.i .i64 0)),(.p (.i .i64 0)),(.p (.i .i64 0)),(.p (.i .i64 0)),(.p (.i .i64 0)),(.p (.s [])),.nil,.nil] [(0,(1,(ci 4))),(4,(6,(.t 67)))]),
io (.st 10 (.t 4) (.t 68)),
ia 5 (.mv (ci 0))]) .ret))))),[(.cell 4 10 true),(.tmp 5)]⟩
theorem cc132 : ccF Try.prog [(43,[0,0]),(79,[1,0]),(60,[0,0]),(140,[0,0]),(43,[9]),(134,[8]),(136,[8]),(108,[8]),(135,[8]),(112,[8])] Try.f132 = some (stripF F132) := by kernel_rfl
def F141 : FnC := ⟨2,(.seq (.reg [
  ia 2 (.box 2 (.t 0)),
ia 3 (.mv (.c (.a (.p (.b false)))))]) (.seq (.reg [
  ia 4 (.fad 0 (.t 2)),
ia 5 (.ld 1 false (.t 4)),
ia 6 (.fad 0 (.t 1)),
ia 7 (.ld 1 false (.t 6)),
ia 8 (.bin .eql (.t 5) (.t 7)),
ia 3 (.mv (.t 8))]) .ret)),[(.tmp 3)]⟩
theorem cc141 : ccF Try.prog [(43,[0,0]),(79,[1,0]),(60,[0,0]),(140,[0,0]),(43,[9]),(134,[8]),(136,[8]),(108,[8]),(135,[8]),(112,[8])] Try.f141 = some (stripF F141) := by kernel_rfl
def F142 : FnC := ⟨2,(.seq (.reg [
  ia 4 (.mv (.c (.a (.p (.b false)))))]) (.seq (.reg [
  ia 5 (.mv (.t 0)),
ia 6 (.mv (.t 1)),
ia 7 (.call (.f 149) [(.t 5),(.t 6)]),
ia 8 (.bin .geq (.t 7) (ci 0)),
ia 4 (.mv (.t 8))]) .ret)),[(.tmp 4)]⟩
theorem cc142 : ccF Try.prog [(43,[0,0]),(79,[1,0]),(60,[0,0]),(140,[0,0]),(43,[9]),(134,[8]),(136,[8]),(108,[8]),(135,[8]),(112,[8])] Try.f142 = some (stripF F142) := by kernel_rfl
def F143 : FnC := ⟨2,(.seq (.reg [
  ia 4 (.new [(.p (.i .i64 0)),(.p (.s [])),(.p (.i .i64 0)),(.p (.i .i64 0))]),
ia 5 (.mv (ci 0))]) (.seq (.reg [
  ia 12 (.mv (.t 0)),
ia 13 (.mv (.t 1)),
ia 14 (.call (.f 157) [(.t 12),(.t 13)]),
ia 11 (.mv (.t 14)),
ia 15 (.ext (.t 11) 0),
ia 16 (.ext (.t 11) 1),
ia 6 (.mv (.t 15)),
ia 7 (.mv (.t 16))]) (.seq (.seq (.reg [
  ia 17 (.mv (.t 6)),
ia 18 (.bin .eql (.t 17) (ci 0))]) (.cond (.t 18) (.seq (.reg [
  ia 19 (.mv (.t 0)),
ia 20 (.mv (.t 1)),
ia 21 (.call (.f 158) [(.t 19),(.t 20)]),
ia 8 (.mv (.t 21))]) (.seq (.seq (.reg [
  ia 22 (.mv (.t 8)),
ia 23 (.bin .eql (.t 22) (ci 0))]) (.cond (.t 23) (.seq (.reg [
  ia 24 (.build [(.p (.i .i64 0)),(.p (.s [])),(.p (.i .i64 0)),(.p (.i .i64 0))] []),
io (.st 4 (.t 4) (.t 24)),
ia 5 (.mv (ci 10))]) .ret) .skip)) (.seq (.reg [
  ia 25 (.mv (.t 0)),
ia 26 (.mv (.t 1)),
ia 27 (.mv (.t 1)),
ia 28 (.mv (.t 8)),
ia 29 (.bin .add (.t 27) (.t 28)),
ia 30 (.sub (.t 25) (.some (.t 26)) (.some (.t 29))),
ia 31 (.mv (.t 1)),
ia 32 (.build [(.p (.i .i64 0)),(.p (.s [])),(.p (.i .i64 0)),(.p (.i .i64 0))] [(0,(1,(ci 5))),(1,(1,(.t 30))),(3,(1,(.t 31)))]),
io (.st 4 (.t 4) (.t 32)),
ia 5 (.mv (ci 0))]) .ret))) .skip)) (.seq (.reg [
  ia 33 (.mv (.t 0)),
ia 34 (.mv (.t 1)),
ia 35 (.mv (.t 1)),
ia 36 (.mv (.t 6)),
ia 37 (.bin .add (.t 35) (.t 36)),
ia 38 (.sub (.t 33) (.some (.t 34)) (.some (.t 37))),
ia 39 (.mv (.t 1)),
ia 40 (.build [(.p (.i .i64 0)),(.p (.s [])),(.p (.i .i64 0)),(.p (.i .i64 0))] [(1,(1,(.t 38))),(3,(1,(.t 39)))]),
ia 9 (.new [(.p (.i .i64 0)),(.p (.s [])),(.p (.i .i64 0)),(.p (.i .i64 0))]),
io (.st 4 (.t 9) (.t 40))]) (.seq (.reg [
  ia 41 (.mv (.t 0)),
ia 42 (.mv (.t 1)),
ia 43 (.ixs (.t 41) (.t 42)),
ia 44 (.call (.f 159) [(.t 43)]),
ia 10 (.mv (.t 44))]) (.seq (.seq (.reg [
  ia 45 (.mv (.t 10)),
ia 46 (.bin .eql (.t 45) (ci 3))]) (.cond (.t 46) (.seq (.seq (.reg [
  ia 47 (.mv (.t 7))]) (.cond (.t 47) (.seq (.reg [
  ia 48 (.build [(.p (.i .i64 0)),(.p (.s [])),(.p (.i .i64 0)),(.p (.i .i64 0))] []),
io (.st 4 (.t 4) (.t 48)),
ia 5 (.mv (ci 10))]) .ret) .skip)) (.seq (.seq (.reg [
  ia 49 (.mv (.t 6)),
ia 50 (.bin .gtr (.t 49) (ci 18)),
ia 51 (.mv (.t 50)),
ig 52 51 false (.mv (.t 6)),
ig 53 51 false (.bin .gtr (.t 52) (ci 1)),
ig 54 51 false (.mv (.t 53)),
ig 55 54 true (.mv (.t 0)),
ig 56 54 true (.mv (.t 1)),
ig 57 54 true (.ixs (.t 55) (.t 56)),
ig 58 54 true (.bin .eql (.t 57) (.c (.a (.p (.i .u8 48))))),
ig 59 51 false (.pick (.t 54) (.t 58) (.c (.a (.p (.b false))))),
ia 60 (.pick (.t 51) (.c (.a (.p (.b true)))) (.t 59))]) (.cond (.t 60) (.seq (.reg [
  ia 61 (.build [(.p (.i .i64 0)),(.p (.s [])),(.p (.i .i64 0)),(.p (.i .i64 0))] []),
io (.st 4 (.t 4) (.t 61)),
ia 5 (.mv (ci 11))]) .ret) .skip)) (.seq (.reg [
  ia 62 (.fad 0 (.t 9)),
io (.st 1 (.t 62) (ci 3))]) (.seq (.reg [
  ia 63 (.fad 1 (.t 9)),
ia 64 (.ld 1 false (.t 63)),
ia 65 (.call (.f 160) [(.t 64)]),
ia 66 (.fad 2 (.t 9)),
io (.st 1 (.t 66) (.t 65))]) (.seq (.reg [
  ia 67 (.ld 4 true (.t 9)),
io (.st 4 (.t 4) (.t 67)),
ia 5 (.mv (ci 0))]) .ret))))) .skip)) (.seq (.seq (.reg [
  ia 68 (.mv (.t 6)),
ia 69 (.bin .gtr (.t 68) (ci 16))]) (.cond (.t 69) (.seq (.reg [
  ia 70 (.build [(.p (.i .i64 0)),(.p (.s [])),(.p (.i .i64 0)),(.p (.i .i64 0))] []),
io (.st 4 (.t 4) (.t 70)),
ia 5 (.mv (ci 11))]) .ret) .skip)) (.seq (.reg [
  ia 71 (.mv (.t 10)),
ia 72 (.fad 0 (.t 9)),
io (.st 1 (.t 72) (.t 71))]) (.seq (.seq (.reg [
  ia 73 (.fad 1 (.t 9)),
ia 74 (.ld 1 false (.t 73)),
ia 75 (.call (.f 161) [(.t 74)])]) (.cond (.t 75) (.reg [
  ia 76 (.fad 0 (.t 9)),
io (.st 1 (.t 76) (ci 4))]) .skip)) (.seq (.reg [
  ia 77 (.ld 4 true (.t 9)),
io (.st 4 (.t 4) (.t 77)),
ia 5 (.mv (ci 0))]) .ret)))))))))),[(.cell 4 4 true),(.tmp 5)]⟩
theorem cc143 : ccF Try.prog [(43,[0,0]),(79,[1,0]),(60,[0,0]),(140,[0,0]),(43,[9]),(134,[8]),(136,[8]),(108,[8]),(135,[8]),(112,[8])] Try.f143 = some (stripF F143) := by kernel_rfl
def F144b0 : C := (.seq (.seq (.reg [
  ia 9 (.mv (.t 5)),
ia 10 (.fad 4 (.t 2)),
ia 11 (.ld 1 false (.t 10)),
ia 12 (.len false (.t 11)),
ia 13 (.bin .lss (.t 9) (.t 12)),
ia 14 (.mv (.t 13)),
ig 15 14 true (.fad 5 (.t 2)),
ig 16 14 true (.ld 1 false (.t 15)),
ig 17 14 true (.bin .eql (.t 16) (ci 0)),
ia 18 (.pick (.t 14) (.t 17) (.c (.a (.p (.b false)))))]) (.cond (.t 18) .skip (.exit 0))) (.seq (.block 1 (.seq (.reg [
  ia 22 (.fad 0 (.t 2)),
ia 23 (.ld 2 true (.t 22)),
ia 24 (.mv (.t 1)),
ia 25 (.build [(.p (.i .i64 0)),(.p (.i .i64 0)),(.p (.i .i64 0)),(.p (.s [])),.nil,.nil] [(0,(1,(ci 6))),(1,(1,(.t 24)))]),
ia 26 (.call (.f 82) [(.t 23),(.t 25)]),
ia 21 (.mv (.t 26)),
ia 27 (.ext (.t 21) 0),
ia 28 (.ext (.t 21) 1),
ia 29 (.ext (.t 21) 2),
ia 6 (.new [.nil,(.p (.i .i64 0))]),
io (.st 2 (.t 6) (.t 27)),
ia 7 (.mv (.t 28)),
ia 8 (.mv (.t 29))]) (.seq (.reg [
  ia 30 (.mv (.t 8)),
ia 31 (.fad 5 (.t 2)),
io (.st 1 (.t 31) (.t 30))]) (.seq (.reg [
  ir 32 (.ld 2 true (.t 6)),
ir 33 (.mv (.t 7)),
ir 34 (.call (.f 62) [(.t 33),(ci 1)]),
ir 35 (.fad 4 (.t 2)),
ir 36 (.ld 1 false (.t 35)),
ir 37 (.mv (.t 5)),
ir 38 (.ias 3 (.t 36) (.t 37)),
ir 39 (.fad 1 (.t 38)),
ir 40 (.ld 2 true (.t 39)),
ia 41 (.call (.f 61) [(.t 32),(.t 34),(.t 40)]),
ia 42 (.fad 0 (.t 2)),
io (.st 2 (.t 42) (.t 41))]) (.reg [
  ir 43 (.fad 4 (.t 2)),
ir 44 (.ld 1 false (.t 43)),
ir 45 (.mv (.t 5)),
ir 46 (.mv (.t 7)),
ir 47 (.call (.f 62) [(.t 46),(ci 0)]),
ia 48 (.ias 3 (.t 44) (.t 45)),
ia 49 (.fad 1 (.t 48)),
io (.st 2 (.t 49) (.t 47))]))))) (.reg [
  ia 19 (.mv (.t 5)),
ia 20 (.bin .add (.t 19) (ci 1)),
ia 5 (.mv (.t 20))])))
def F144 : FnC := ⟨2,(.seq (.reg [
  ia 2 (.box 6 (.t 0)),
ia 4 (.new [.nil,(.p (.i .i64 0)),(.p (.i .i64 0)),(.p (.i .i64 0)),.nil,(.p (.i .i64 0))])]) (.seq (.seq (.reg [
  ia 5 (.mv (ci 0))]) (.block 0 (.loop F144b0))) (.seq (.reg [
  ia 50 (.ld 6 true (.t 2)),
io (.st 6 (.t 4) (.t 50))]) .ret))),[(.cell 4 6 true)]⟩
theorem cc144 : ccF Try.prog [(43,[0,0]),(79,[1,0]),(60,[0,0]),(140,[0,0]),(43,[9]),(134,[8]),(136,[8]),(108,[8]),(135,[8]),(112,[8])] Try.f144 = some (stripF F144) := by kernel_rfl
def F145b0 : C := (.seq (.seq (.reg [
  ia 9 (.mv (.t 7)),
ia 10 (.mv (.t 0)),
ia 11 (.len false (.t 10)),
ia 12 (.bin .lss (.t 9) (.t 11))]) (.cond (.t 12) .skip (.exit 0))) (.seq (.block 1 (.seq (.seq (.reg [
  ia 15 (.mv (.t 6)),
ia 16 (.not (.t 15)),
ia 17 (.mv (.t 16)),
ih 18 17 true (.mv (.t 0)),
ih 19 17 true (.mv (.t 7)),
ih 20 17 true (.ias 3 (.t 18) (.t 19)),
ih 21 17 true (.fad 0 (.t 20)),
ih 22 17 true (.ld 1 false (.t 21)),
ih 23 17 true (.fad 0 (.t 3)),
ih 24 17 true (.ld 1 false (.t 23)),
ig 25 17 true (.bin .gtr (.t 22) (.t 24)),
ia 26 (.pick (.t 17) (.t 25) (.c (.a (.p (.b false)))))]) (.cond (.t 26) (.seq (.reg [
  ia 27 (.mv (.t 5)),
ia 28 (.ld 3 true (.t 3)),
ia 29 (.bsl 3 108 [(.p (.i .i64 0)),(.p (.i .i64 0)),(.p (.i .i64 0))] 1 [(0,(.t 28))]),
ia 30 (.app 3 108 24 (.t 27) (.t 29)),
ia 5 (.mv (.t 30))]) (.reg [
  ia 6 (.mv (.c (.a (.p (.b true)))))])) .skip)) (.reg [
  ia 31 (.mv (.t 5)),
ia 32 (.mv (.t 0)),
ia 33 (.mv (.t 7)),
ia 34 (.ias 3 (.t 32) (.t 33)),
ia 35 (.ld 3 true (.t 34)),
ia 36 (.bsl 3 108 [(.p (.i .i64 0)),(.p (.i .i64 0)),(.p (.i .i64 0))] 1 [(0,(.t 35))]),
ia 37 (.app 3 108 24 (.t 31) (.t 36)),
ia 5 (.mv (.t 37))]))) (.reg [
  ia 13 (.mv (.t 7)),
ia 14 (.bin .add (.t 13) (ci 1)),
ia 7 (.mv (.t 14))])))
def F145 : FnC := ⟨2,(.seq (.reg [
  ia 3 (.box 3 (.t 1)),
ia 4 (.mv (.c (.a .nil)))]) (.seq (.reg [
  ia 8 (.bsl 3 108 [(.p (.i .i64 0)),(.p (.i .i64 0)),(.p (.i .i64 0))] 0 []),
ia 5 (.mv (.t 8))]) (.seq (.reg [
  ia 6 (.mv (.c (.a (.p (.b false)))))]) (.seq (.seq (.reg [
  ia 7 (.mv (ci 0))]) (.block 0 (.loop F145b0))) (.seq (.seq (.reg [
  ia 38 (.mv (.t 6)),
ia 39 (.not (.t 38))]) (.cond (.t 39) (.reg [
  ia 40 (.mv (.t 5)),
ia 41 (.ld 3 true (.t 3)),
ia 42 (.bsl 3 108 [(.p (.i .i64 0)),(.p (.i .i64 0)),(.p (.i .i64 0))] 1 [(0,(.t 41))]),
ia 43 (.app 3 108 24 (.t 40) (.t 42)),
ia 5 (.mv (.t 43))]) .skip)) (.seq (.reg [
  ia 44 (.mv (.t 5)),
ia 4 (.mv (.t 44))]) .ret)))))),[(.tmp 4)]⟩
theorem cc145 : ccF Try.prog [(43,[0,0]),(79,[1,0]),(60,[0,0]),(140,[0,0]),(43,[9]),(134,[8]),(136,[8]),(108,[8]),(135,[8]),(112,[8])] Try.f145 = some (stripF F145) := by kernel_rfl
def F146 : FnC := ⟨2,(.seq (.reg [
  ia 4 (.mv (.c (.a (.p (.b false)))))]) (.seq (.reg [
  ia 5 (.mv (.t 0)),
ia 6 (.mv (.t 1)),
ia 7 (.call (.f 162) [(.t 5),(.t 6)]),
ia 8 (.bin .geq (.t 7) (ci 0)),
ia 4 (.mv (.t 8))]) .ret)),[(.tmp 4)]⟩
theorem cc146 : ccF Try.prog [(43,[0,0]),(79,[1,0]),(60,[0,0]),(140,[0,0]),(43,[9]),(134,[8]),(136,[8]),(108,[8]),(135,[8]),(112,[8])] Try.f146 = some (stripF F146) := by kernel_rfl
def F147 : FnC := ⟨2,(.seq (.reg [
  ia 2 (.box 2 (.t 0)),
ia 3 (.mv (.c (.a (.p (.b false)))))]) (.seq (.reg [
  ia 4 (.fad 0 (.t 2)),
ia 5 (.ld 1 false (.t 4)),
ia 6 (.bin .lss (.t 5) (ci 0)),
ia 7 (.mv (.t 6)),
ih 8 7 false (.fad 0 (.t 2)),
ih 9 7 false (.ld 1 false (.t 8)),
ih 10 7 false (.fad 0 (.t 1)),
ih 11 7 false (.fad 0 (.t 10)),
ih 12 7 false (.ld 1 false (.t 11)),
ih 13 7 false (.len false (.t 12)),
ig 14 7 false (.bin .geq (.t 9) (.t 13)),
ia 15 (.pick (.t 7) (.c (.a (.p (.b true)))) (.t 14)),
ia 16 (.mv (.t 15)),
ig 17 16 false (.fad 1 (.t 2)),
ig 18 16 false (.ld 1 false (.t 17)),
ig 19 16 false (.bin .lss (.t 18) (ci 0)),
ia 20 (.pick (.t 16) (.c (.a (.p (.b true)))) (.t 19)),
ia 21 (.mv (.t 20)),
ih 22 21 false (.fad 1 (.t 2)),
ih 23 21 false (.ld 1 false (.t 22)),
ih 24 21 false (.fad 0 (.t 1)),
ih 25 21 false (.fad 0 (.t 24)),
ih 26 21 false (.ld 1 false (.t 25)),
ih 27 21 false (.fad 0 (.t 2)),
ih 28 21 false (.ld 1 false (.t 27)),
ih 29 21 false (.ias 6 (.t 26) (.t 28)),
ih 30 21 false (.fad 5 (.t 29)),
ih 31 21 false (.ld 1 false (.t 30)),
ih 32 21 false (.len false (.t 31)),
ig 33 21 false (.bin .geq (.t 23) (.t 32)),
ia 34 (.pick (.t 21) (.c (.a (.p (.b true)))) (.t 33)),
ia 3 (.mv (.t 34))]) .ret)),[(.tmp 3)]⟩
theorem cc147 : ccF Try.prog [(43,[0,0]),(79,[1,0]),(60,[0,0]),(140,[0,0]),(43,[9]),(134,[8]),(136,[8]),(108,[8]),(135,[8]),(112,[8])] Try.f147 = some (stripF F147) := by kernel_rfl
def F149b0 : C := (.seq (.reg [
  ia 9 (.bin .lss (.t 8) (.t 7))]) (.seq (.cond (.t 9) .skip (.exit 0)) (.seq (.block 1 (.seq (.reg [
  ia 10 (.mv (.t 8)),
ia 5 (.mv (.t 10))]) (.seq (.reg [
  ia 11 (.mv (.t 1)),
ia 12 (.mv (.t 0)),
ia 13 (.mv (.t 5)),
ia 14 (.ias 2 (.t 12) (.t 13)),
ia 15 (.ld 2 true (.t 14)),
ia 16 (.call (.t 11) [(.t 15)])]) (.cond (.t 16) (.seq (.reg [
  ia 17 (.mv (.t 5)),
ia 4 (.mv (.t 17))]) .ret) .skip)))) (.reg [
  ia 18 (.bin .add (.t 8) (ci 1)),
ia 8 (.mv (.t 18))]))))
def F149 : FnC := ⟨2,(.seq (.reg [
  ia 4 (.mv (ci 0))]) (.seq (.seq (.reg [
  ia 6 (.mv (.t 0)),
ia 7 (.len false (.t 6)),
ia 8 (.mv (ci 0))]) (.block 0 (.loop F149b0))) (.seq (.reg [
  ia 4 (.mv (.c (.a (.p (.i .i64 (-1))))))]) .ret))),[(.tmp 4)]⟩
theorem cc149 : ccF Try.prog [(43,[0,0]),(79,[1,0]),(60,[0,0]),(140,[0,0]),(43,[9]),(134,[8]),(136,[8]),(108,[8]),(135,[8]),(112,[8])] Try.f149 = some (stripF F149) := by kernel_rfl
def F150 : FnC := ⟨2,(.seq (.reg [
  ia 2 (.box 2 (.t 0)),
ia 3 (.mv (.c (.a (.p (.b false)))))]) (.seq (.reg [
  ia 4 (.fad 0 (.t 2)),
ia 5 (.ld 1 false (.t 4)),
ia 6 (.fad 3 (.t 1)),
ia 7 (.ld 1 false (.t 6)),
ia 8 (.bin .eql (.t 5) (.t 7)),
ia 9 (.mv (.t 8)),
ig 10 9 true (.fad 1 (.t 2)),
ig 11 9 true (.ld 1 false (.t 10)),
ig 12 9 true (.fad 5 (.t 1)),
ig 13 9 true (.ld 1 false (.t 12)),
ig 14 9 true (.len false (.t 13)),
ig 15 9 true (.bin .sub (.t 14) (ci 1)),
ig 16 9 true (.bin .eql (.t 11) (.t 15)),
ia 17 (.pick (.t 9) (.t 16) (.c (.a (.p (.b false))))),
ia 3 (.mv (.t 17))]) .ret)),[(.tmp 3)]⟩
theorem cc150 : ccF Try.prog [(43,[0,0]),(79,[1,0]),(60,[0,0]),(140,[0,0]),(43,[9]),(134,[8]),(136,[8]),(108,[8]),(135,[8]),(112,[8])] Try.f150 = some (stripF F150) := by kernel_rfl
def F151 : FnC := ⟨1,(.seq (.reg [
  ia 2 (.new [(.p (.i .i64 0)),(.p (.i .i64 0)),(.p (.i .i64 0)),(.p (.s [])),.nil,.nil])]) (.seq (.reg [
  ia 3 (.mv (.c (.a (.p (.s [70,97,108,115,101])))))]) (.seq (.seq (.reg [
  ia 4 (.mv (.t 0))]) (.cond (.t 4) (.reg [
  ia 3 (.mv (.c (.a (.p (.s [84,114,117,101])))))]) .skip)) (.seq (.reg [
  ia 5 (.mv (.t 3)),
ia 6 (.mslF 2 43 16 [(.p (.i .i64 0)),(.p (.i .i64 0))] (ci 1) (ci 1)),
ia 7 (.build [(.p (.i .i64 0)),(.p (.i .i64 0)),(.p (.i .i64 0)),(.p (.s [])),.nil,.nil] [(0,(1,(ci 8))),(3,(1,(.t 5))),(5,(1,(.t 6)))]),
io (.st 6 (.t 2) (.t 7))]) .ret)))),[(.cell 2 6 true)]⟩
theorem cc151 : ccF Try.prog [(43,[0,0]),(79,[1,0]),(60,[0,0]),(140,[0,0]),(43,[9]),(134,[8]),(136,[8]),(108,[8]),(135,[8]),(112,[8])] Try.f151 = some (stripF F151) := by kernel_rfl
def F155 : FnC := ⟨1,(.seq (.reg [
  ia 2 (.mv (.c (.a .nil)))]) (.seq (.seq (.reg [
  ia 3 (.mv (.t 0)),
ia 4 (.nq false (.t 3))]) (.cond (.t 4) (.seq (.reg [
  ia 2 (.mv (.c (.a .nil)))]) .ret) .skip)) (.seq (.reg [
  ia 5 (.bsl 2 79 [(.p (.s [])),(.p (.i .i64 0))] 0 []),
ia 6 (.mv (.t 0)),
ia 7 (.app 2 79 24 (.t 5) (.t 6)),
ia 2 (.mv (.t 7))]) .ret))),[(.tmp 2)]⟩
theorem cc155 : ccF Try.prog [(43,[0,0]),(79,[1,0]),(60,[0,0]),(140,[0,0]),(43,[9]),(134,[8]),(136,[8]),(108,[8]),(135,[8]),(112,[8])] Try.f155 = some (stripF F155) := by kernel_rfl
def F157b0 : C := (.seq (.seq (.reg [
  ia 9 (.mv (.t 1)),
ia 10 (.mv (.t 6)),
ia 11 (.bin .add (.t 9) (.t 10)),
ia 12 (.mv (.t 0)),
ia 13 (.len true (.t 12)),
ia 14 (.bin .lss (.t 11) (.t 13))]) (.cond (.t 14) .skip (.exit 0))) (.block 1 (.seq (.reg [
  ia 15 (.mv (.t 0)),
ia 16 (.mv (.t 1)),
ia 17 (.mv (.t 6)),
ia 18 (.bin .add (.t 16) (.t 17)),
ia 19 (.ixs (.t 15) (.t 18)),
ia 20 (.call (.f 159) [(.t 19)]),
ia 8 (.mv (.t 20))]) (.seq (.seq (.reg [
  ia 21 (.mv (.t 8)),
ia 22 (.bin .lss (.t 21) (ci 1)),
ia 23 (.mv (.t 22)),
ig 24 23 false (.mv (.t 8)),
ig 25 23 false (.bin .gtr (.t 24) (ci 3)),
ia 26 (.pick (.t 23) (.c (.a (.p (.b true)))) (.t 25))]) (.cond (.t 26) (.seq (.reg [
  ia 27 (.mv (.t 6)),
ia 28 (.mv (.t 7)),
ia 4 (.mv (.t 27)),
ia 5 (.mv (.t 28))]) .ret) .skip)) (.seq (.reg [
  ia 29 (.mv (.t 7)),
ia 30 (.mv (.t 29)),
ig 31 30 false (.mv (.t 8)),
ig 32 30 false (.bin .lss (.t 31) (ci 3)),
ia 33 (.pick (.t 30) (.c (.a (.p (.b true)))) (.t 32)),
ia 7 (.mv (.t 33))]) (.reg [
  ia 34 (.mv (.t 6)),
ia 35 (.bin .add (.t 34) (ci 1)),
ia 6 (.mv (.t 35))]))))))
def F157 : FnC := ⟨2,(.seq (.reg [
  ia 4 (.mv (ci 0)),
ia 5 (.mv (.c (.a (.p (.b false)))))]) (.seq (.reg [
  ia 6 (.mv (ci 0)),
ia 7 (.mv (.c (.a (.p (.b false)))))]) (.seq (.block 0 (.loop F157b0)) (.seq (.reg [
  ia 36 (.mv (.t 6)),
ia 37 (.mv (.t 7)),
ia 4 (.mv (.t 36)),
ia 5 (.mv (.t 37))]) .ret)))),[(.tmp 4),(.tmp 5)]⟩
theorem cc157 : ccF Try.prog [(43,[0,0]),(79,[1,0]),(60,[0,0]),(140,[0,0]),(43,[9]),(134,[8]),(136,[8]),(108,[8]),(135,[8]),(112,[8])] Try.f157 = some (stripF F157) := by kernel_rfl
def F158b0 : C := (.seq (.seq (.reg [
  ia 27 (.mv (.t 5)),
ia 28 (.bin .lss (.t 27) (ci 13))]) (.cond (.t 28) .skip (.exit 0))) (.seq (.block 1 (.seq (.reg [
  ir 31 (.mv (.t 5)),
ir 32 (.ixs (.c (.a (.p (.s [92,46,40,41,61,123,125,124,43,45,42,47,60])))) (.t 31)),
ir 33 (.mv (.t 0)),
ir 34 (.mv (.t 1)),
ir 35 (.ixs (.t 33) (.t 34)),
ia 36 (.bin .eql (.t 32) (.t 35))]) (.cond (.t 36) (.seq (.reg [
  ia 4 (.mv (ci 1))]) .ret) .skip))) (.reg [
  ia 29 (.mv (.t 5)),
ia 30 (.bin .add (.t 29) (ci 1)),
ia 5 (.mv (.t 30))])))
def F158 : FnC := ⟨2,(.seq (.reg [
  ia 4 (.mv (ci 0))]) (.seq (.seq (.reg [
  ia 6 (.mv (.t 1)),
ia 7 (.bin .add (.t 6) (ci 1)),
ia 8 (.mv (.t 0)),
ia 9 (.len true (.t 8)),
ia 10 (.bin .lss (.t 7) (.t 9)),
ia 11 (.mv (.t 10)),
ig 12 11 true (.mv (.t 0)),
ig 13 11 true (.mv (.t 1)),
ig 14 11 true (.mv (.t 1)),
ig 15 11 true (.bin .add (.t 14) (ci 2)),
ig 16 11 true (.sub (.t 12) (.some (.t 13)) (.some (.t 15))),
ig 17 11 true (.bin .eql (.t 16) (.c (.a (.p (.s [45,62]))))),
ig 18 11 true (.mv (.t 17)),
ig 19 18 false (.mv (.t 0)),
ig 20 18 false (.mv (.t 1)),
ig 21 18 false (.mv (.t 1)),
ig 22 18 false (.bin .add (.t 21) (ci 2)),
ig 23 18 false (.sub (.t 19) (.some (.t 20)) (.some (.t 22))),
ig 24 18 false (.bin .eql (.t 23) (.c (.a (.p (.s [61,61]))))),
ig 25 11 true (.pick (.t 18) (.c (.a (.p (.b true)))) (.t 24)),
ia 26 (.pick (.t 11) (.t 25) (.c (.a (.p (.b false)))))]) (.cond (.t 26) (.seq (.reg [
  ia 4 (.mv (ci 2))]) .ret) .skip)) (.seq (.seq (.reg [
  ia 5 (.mv (ci 0))]) (.block 0 (.loop F158b0))) (.seq (.reg [
  ia 4 (.mv (ci 0))]) .ret)))),[(.tmp 4)]⟩
theorem cc158 : ccF Try.prog [(43,[0,0]),(79,[1,0]),(60,[0,0]),(140,[0,0]),(43,[9]),(134,[8]),(136,[8]),(108,[8]),(135,[8]),(112,[8])] Try.f158 = some (stripF F158) := by kernel_rfl
def F159 : FnC := ⟨1,(.seq (.reg [
  ia 2 (.mv (ci 0))]) (.seq (.seq (.reg [
  ia 3 (.mv (.t 0)),
ia 4 (.bin .geq (.t 3) (.c (.a (.p (.i .u8 97))))),
ia 5 (.mv (.t 4)),
ig 6 5 true (.mv (.t 0)),
ig 7 5 true (.bin .leq (.t 6) (.c (.a (.p (.i .u8 122))))),
ia 8 (.pick (.t 5) (.t 7) (.c (.a (.p (.b false)))))]) (.cond (.t 8) (.seq (.reg [
  ia 2 (.mv (ci 1))]) .ret) .skip)) (.seq (.seq (.reg [
  ia 9 (.mv (.t 0)),
ia 10 (.bin .geq (.t 9) (.c (.a (.p (.i .u8 65))))),
ia 11 (.mv (.t 10)),
ig 12 11 true (.mv (.t 0)),
ig 13 11 true (.bin .leq (.t 12) (.c (.a (.p (.i .u8 90))))),
ia 14 (.pick (.t 11) (.t 13) (.c (.a (.p (.b false)))))]) (.cond (.t 14) (.seq (.reg [
  ia 2 (.mv (ci 2))]) .ret) .skip)) (.seq (.seq (.reg [
  ia 15 (.mv (.t 0)),
ia 16 (.bin .geq (.t 15) (.c (.a (.p (.i .u8 48))))),
ia 17 (.mv (.t 16)),
ig 18 17 true (.mv (.t 0)),
ig 19 17 true (.bin .leq (.t 18) (.c (.a (.p (.i .u8 57))))),
ia 20 (.pick (.t 17) (.t 19) (.c (.a (.p (.b false)))))]) (.cond (.t 20) (.seq (.reg [
  ia 2 (.mv (ci 3))]) .ret) .skip)) (.seq (.seq (.reg [
  ia 21 (.mv (.t 0)),
ia 22 (.bin .eql (.t 21) (.c (.a (.p (.i .u8 32))))),
ia 23 (.mv (.t 22)),
ig 24 23 false (.mv (.t 0)),
ig 25 23 false (.bin .eql (.t 24) (.c (.a (.p (.i .u8 10))))),
ia 26 (.pick (.t 23) (.c (.a (.p (.b true)))) (.t 25)),
ia 27 (.mv (.t 26)),
ig 28 27 false (.mv (.t 0)),
ig 29 27 false (.bin .eql (.t 28) (.c (.a (.p (.i .u8 9))))),
ia 30 (.pick (.t 27) (.c (.a (.p (.b true)))) (.t 29))]) (.cond (.t 30) (.seq (.reg [
  ia 2 (.mv (ci 4))]) .ret) .skip)) (.seq (.reg [
  ia 2 (.mv (ci 0))]) .ret)))))),[(.tmp 2)]⟩
theorem cc159 : ccF Try.prog [(43,[0,0]),(79,[1,0]),(60,[0,0]),(140,[0,0]),(43,[9]),(134,[8]),(136,[8]),(108,[8]),(135,[8]),(112,[8])] Try.f159 = some (stripF F159) := by kernel_rfl
def F160b0 : C := (.seq (.seq (.reg [
  ia 5 (.mv (.t 4)),
ia 6 (.mv (.t 0)),
ia 7 (.len true (.t 6)),
ia 8 (.bin .lss (.t 5) (.t 7))]) (.cond (.t 8) .skip (.exit 0))) (.seq (.block 1 (.reg [
  ia 11 (.mv (.t 3)),
ia 12 (.bin .mul (ci 10) (.t 11)),
ia 13 (.mv (.t 0)),
ia 14 (.mv (.t 4)),
ia 15 (.ixs (.t 13) (.t 14)),
ia 16 (.cvi .i64 (.t 15)),
ia 17 (.bin .add (.t 12) (.t 16)),
ia 18 (.bin .sub (.t 17) (ci 48)),
ia 3 (.mv (.t 18))])) (.reg [
  ia 9 (.mv (.t 4)),
ia 10 (.bin .add (.t 9) (ci 1)),
ia 4 (.mv (.t 10))])))
def F160 : FnC := ⟨1,(.seq (.reg [
  ia 2 (.mv (ci 0))]) (.seq (.reg [
  ia 3 (.mv (ci 0))]) (.seq (.seq (.reg [
  ia 4 (.mv (ci 0))]) (.block 0 (.loop F160b0))) (.seq (.reg [
  ia 19 (.mv (.t 3)),
ia 2 (.mv (.t 19))]) .ret)))),[(.tmp 2)]⟩
theorem cc160 : ccF Try.prog [(43,[0,0]),(79,[1,0]),(60,[0,0]),(140,[0,0]),(43,[9]),(134,[8]),(136,[8]),(108,[8]),(135,[8]),(112,[8])] Try.f160 = some (stripF F160) := by kernel_rfl
def F161 : FnC := ⟨1,(.seq (.reg [
  ia 2 (.mv (.c (.a (.p (.b false)))))]) (.seq (.reg [
  ia 3 (.mv (.t 0)),
ia 4 (.bin .eql (.t 3) (.c (.a (.p (.s [108,101,116]))))),
ia 5 (.mv (.t 4)),
ig 6 5 false (.mv (.t 0)),
ig 7 5 false (.bin .eql (.t 6) (.c (.a (.p (.s [108,101,116,114,101,99]))))),
ia 8 (.pick (.t 5) (.c (.a (.p (.b true)))) (.t 7)),
ia 9 (.mv (.t 8)),
ig 10 9 false (.mv (.t 0)),
ig 11 9 false (.bin .eql (.t 10) (.c (.a (.p (.s [105,110]))))),
ia 12 (.pick (.t 9) (.c (.a (.p (.b true)))) (.t 11)),
ia 13 (.mv (.t 12)),
ig 14 13 false (.mv (.t 0)),
ig 15 13 false (.bin .eql (.t 14) (.c (.a (.p (.s [99,97,115,101]))))),
ia 16 (.pick (.t 13) (.c (.a (.p (.b true)))) (.t 15)),
ia 17 (.mv (.t 16)),
ig 18 17 false (.mv (.t 0)),
ig 19 17 false (.bin .eql (.t 18) (.c (.a (.p (.s [111,102]))))),
ia 20 (.pick (.t 17) (.c (.a (.p (.b true)))) (.t 19)),
ia 2 (.mv (.t 20))]) .ret)),[(.tmp 2)]⟩
theorem cc161 : ccF Try.prog [(43,[0,0]),(79,[1,0]),(60,[0,0]),(140,[0,0]),(43,[9]),(134,[8]),(136,[8]),(108,[8]),(135,[8]),(112,[8])] Try.f161 = some (stripF F161) := by kernel_rfl
def F162b0 : C := (.seq (.reg [
  ia 9 (.bin .lss (.t 8) (.t 7))]) (.seq (.cond (.t 9) .skip (.exit 0)) (.seq (.block 1 (.seq (.reg [
  ia 10 (.mv (.t 8)),
ia 5 (.mv (.t 10))]) (.seq (.reg [
  ia 11 (.mv (.t 1)),
ia 12 (.mv (.t 0)),
ia 13 (.mv (.t 5)),
ia 14 (.ias 2 (.t 12) (.t 13)),
ia 15 (.ld 2 true (.t 14)),
ia 16 (.call (.t 11) [(.t 15)])]) (.cond (.t 16) (.seq (.reg [
  ia 17 (.mv (.t 5)),
ia 4 (.mv (.t 17))]) .ret) .skip)))) (.reg [
  ia 18 (.bin .add (.t 8) (ci 1)),
ia 8 (.mv (.t 18))]))))
def F162 : FnC := ⟨2,(.seq (.reg [
  ia 4 (.mv (ci 0))]) (.seq (.seq (.reg [
  ia 6 (.mv (.t 0)),
ia 7 (.len false (.t 6)),
ia 8 (.mv (ci 0))]) (.block 0 (.loop F162b0))) (.seq (.reg [
  ia 4 (.mv (.c (.a (.p (.i .i64 (-1))))))]) .ret))),[(.tmp 4)]⟩
theorem cc162 : ccF Try.prog [(43,[0,0]),(79,[1,0]),(60,[0,0]),(140,[0,0]),(43,[9]),(134,[8]),(136,[8]),(108,[8]),(135,[8]),(112,[8])] Try.f162 = some (stripF F162) := by kernel_rfl
def F164 : FnC := ⟨3,(.seq (.reg [
  ia 3 (.box 2 (.t 0)),
ia 4 (.box 2 (.t 1)),
ia 5 (.box 2 (.t 2)),
ia 6 (.new [.nil,(.p (.i .i64 0))])]) (.seq (.reg [
  ia 8 (.fad 0 (.t 3)),
ia 9 (.fad 0 (.t 8)),
ia 10 (.ld 1 false (.t 9)),
ia 11 (.fad 0 (.t 4)),
ia 12 (.ld 1 false (.t 11)),
ia 13 (.ias 6 (.t 10) (.t 12)),
ia 14 (.ld 6 true (.t 13)),
ia 7 (.new [(.p (.i .i64 0)),(.p (.i .i64 0)),(.p (.i .i64 0)),(.p (.s [])),.nil,.nil]),
io (.st 6 (.t 7) (.t 14))]) (.seq (.reg [
  ia 15 (.fad 5 (.t 7)),
ia 16 (.ld 1 false (.t 15)),
ia 17 (.call (.f 166) [(.t 16)]),
ia 18 (.fad 5 (.t 7)),
io (.st 1 (.t 18) (.t 17))]) (.seq (.reg [
  ia 19 (.fad 5 (.t 7)),
ia 20 (.ld 1 false (.t 19)),
ia 21 (.fad 1 (.t 4)),
ia 22 (.ld 1 false (.t 21)),
ia 23 (.ld 2 true (.t 5)),
ia 24 (.ias 2 (.t 20) (.t 22)),
io (.st 2 (.t 24) (.t 23))]) (.seq (.reg [
  ia 25 (.fad 0 (.t 3)),
ia 26 (.fad 0 (.t 25)),
ia 27 (.ld 1 false (.t 26)),
ia 28 (.call (.f 167) [(.t 27)]),
ia 29 (.fad 0 (.t 3)),
ia 30 (.fad 0 (.t 29)),
io (.st 1 (.t 30) (.t 28))]) (.seq (.reg [
  ia 31 (.fad 0 (.t 3)),
ia 32 (.fad 0 (.t 31)),
ia 33 (.ld 1 false (.t 32)),
ia 34 (.fad 0 (.t 4)),
ia 35 (.ld 1 false (.t 34)),
ia 36 (.ld 6 true (.t 7)),
ia 37 (.ias 6 (.t 33) (.t 35)),
io (.st 6 (.t 37) (.t 36))]) (.seq (.reg [
  ia 38 (.ld 2 true (.t 3)),
io (.st 2 (.t 6) (.t 38))]) .ret))))))),[(.cell 6 2 true)]⟩
theorem cc164 : ccF Try.prog [(43,[0,0]),(79,[1,0]),(60,[0,0]),(140,[0,0]),(43,[9]),(134,[8]),(136,[8]),(108,[8]),(135,[8]),(112,[8])] Try.f164 = some (stripF F164) := by kernel_rfl
def F166 : FnC := ⟨1,(.seq (.reg [
  ia 2 (.mv (.c (.a .nil)))]) (.seq (.seq (.reg [
  ia 3 (.mv (.t 0)),
ia 4 (.nq false (.t 3))]) (.cond (.t 4) (.seq (.reg [
  ia 2 (.mv (.c (.a .nil)))]) .ret) .skip)) (.seq (.reg [
  ia 5 (.bsl 2 43 [(.p (.i .i64 0)),(.p (.i .i64 0))] 0 []),
ia 6 (.mv (.t 0)),
ia 7 (.app 2 43 16 (.t 5) (.t 6)),
ia 2 (.mv (.t 7))]) .ret))),[(.tmp 2)]⟩
theorem cc166 : ccF Try.prog [(43,[0,0]),(79,[1,0]),(60,[0,0]),(140,[0,0]),(43,[9]),(134,[8]),(136,[8]),(108,[8]),(135,[8]),(112,[8])] Try.f166 = some (stripF F166) := by kernel_rfl
def F167 : FnC := ⟨1,(.seq (.reg [
  ia 2 (.mv (.c (.a .nil)))]) (.seq (.seq (.reg [
  ia 3 (.mv (.t 0)),
ia 4 (.nq false (.t 3))]) (.cond (.t 4) (.seq (.reg [
  ia 2 (.mv (.c (.a .nil)))]) .ret) .skip)) (.seq (.reg [
  ia 5 (.bsl 6 41 [(.p (.i .i64 0)),(.p (.i .i64 0)),(.p (.i .i64 0)),(.p (.s [])),.nil,.nil] 0 []),
ia 6 (.mv (.t 0)),
ia 7 (.app 6 41 88 (.t 5) (.t 6)),
ia 2 (.mv (.t 7))]) .ret))),[(.tmp 2)]⟩
theorem cc167 : ccF Try.prog [(43,[0,0]),(79,[1,0]),(60,[0,0]),(140,[0,0]),(43,[9]),(134,[8]),(136,[8]),(108,[8]),(135,[8]),(112,[8])] Try.f167 = some (stripF F167) := by kernel_rfl
def tblB : List (FuncId × FnC) := [(117,F117),(118,F118),(119,F119),(120,F120),(121,F121),(122,F122),(123,F123),(131,F131),(132,F132),(141,F141),(142,F142),(143,F143),(144,F144),(145,F145),(146,F146),(147,F147),(149,F149),(150,F150),(151,F151),(155,F155),(157,F157),(158,F158),(159,F159),(160,F160),(161,F161),(162,F162),(164,F164),(166,F166),(167,F167)]
theorem tblOkB : ∀ x,x ∈ tblB → ∃ fn,Try.prog.funcs[x.1]? = some fn ∧ ccF Try.prog [(43,[0,0]),(79,[1,0]),(60,[0,0]),(140,[0,0]),(43,[9]),(134,[8]),(136,[8]),(108,[8]),(135,[8]),(112,[8])] fn = some (stripF x.2) := by
  intro x hx
  simp only [tblB,List.mem_cons,List.not_mem_nil,or_false] at hx
  rcases hx with rfl | rfl | rfl | rfl | rfl | rfl | rfl | rfl | rfl | rfl | rfl | rfl | rfl | rfl | rfl | rfl | rfl | rfl | rfl | rfl | rfl | rfl | rfl | rfl | rfl | rfl | rfl | rfl | rfl
  · exact ⟨_,Try.func117,cc117⟩
  · exact ⟨_,Try.func118,cc118⟩
  · exact ⟨_,Try.func119,cc119⟩
  · exact ⟨_,Try.func120,cc120⟩
  · exact ⟨_,Try.func121,cc121⟩
  · exact ⟨_,Try.func122,cc122⟩
  · exact ⟨_,Try.func123,cc123⟩
  · exact ⟨_,Try.func131,cc131⟩
  · exact ⟨_,Try.func132,cc132⟩
  · exact ⟨_,Try.func141,cc141⟩
  · exact ⟨_,Try.func142,cc142⟩
  · exact ⟨_,Try.func143,cc143⟩
  · exact ⟨_,Try.func144,cc144⟩
  · exact ⟨_,Try.func145,cc145⟩
  · exact ⟨_,Try.func146,cc146⟩
  · exact ⟨_,Try.func147,cc147⟩
  · exact ⟨_,Try.func149,cc149⟩
  · exact ⟨_,Try.func150,cc150⟩
  · exact ⟨_,Try.func151,cc151⟩
  · exact ⟨_,Try.func155,cc155⟩
  · exact ⟨_,Try.func157,cc157⟩
  · exact ⟨_,Try.func158,cc158⟩
  · exact ⟨_,Try.func159,cc159⟩
  · exact ⟨_,Try.func160,cc160⟩
  · exact ⟨_,Try.func161,cc161⟩
  · exact ⟨_,Try.func162,cc162⟩
  · exact ⟨_,Try.func164,cc164⟩
  · exact ⟨_,Try.func166,cc166⟩
  · exact ⟨_,Try.func167,cc167⟩
end Go.Proofs.Ytkpfjolcmkikeaa
namespace Go.Proofs.Ytkpfjolcmkikeaa
open Go.Fx
def tbl : List (FuncId × FnC) := tblA ++ tblB
theorem tblOk : ∀ x,x ∈ tbl → ∃ fn,Try.prog.funcs[x.1]? = some fn ∧ ccF Try.prog [(43,[0,0]),(79,[1,0]),(60,[0,0]),(140,[0,0]),(43,[9]),(134,[8]),(136,[8]),(108,[8]),(135,[8]),(112,[8])] fn = some (stripF x.2) := by
  intro x hx
  simp only [tbl,List.mem_append] at hx
  rcases hx with hx | hx
  · exact tblOkA x hx
  · exact tblOkB x hx
end Go.Proofs.Ytkpfjolcmkikeaa
section
set_option linter.unusedSimpArgs false
set_option linter.unusedVariables false
set_option maxHeartbeats 4000000
set_option maxRecDepth 10000
namespace Go.Proofs.Ytkpfjolcmkikeaa
open Go.Fx
def spN (f : FuncId) : Bool := f == 166 || f == 167 || f == 80 || f == 51 || f == 65 || f == 33 || f == 60 || f == 83 || f == 84 || f == 120 || f == 144 || f == 145
def orcN (f : FuncId) (ps : List PT) : Option PT := if f = 155 then (match ps with | [.a (.l [])] => some (.a (.l [])) | _ => none) else none
def S : Seat := { fb := fun f => (tbl.find? (·.1 == f)).map (·.2),sp := spN,orc := orcN }
theorem spS (f : FuncId) : S.sp f = spN f := rfl
theorem orcS {f : FuncId} (h : f ≠ 155) (ps : List PT) : S.orc f ps = none := by show orcN f ps = none; unfold orcN; rw [if_neg h]
structure Pt where
  n : Int
  s : Int
  deriving DecidableEq
structure Ar where
  s : List UInt8
  n : Int
  deriving DecidableEq
structure Nd where
  k : Int
  lv : Int
  n : Int
  s : List UInt8
  al : List Ar
  to : List Pt
  deriving DecidableEq
structure Nt where
  ns : List Nd
  cap : Int
  deriving DecidableEq
def encP (p : Pt) : List PV := [.i .i64 p.n,.i .i64 p.s]
def encA (a : Ar) : List PV := [.s a.s,.i .i64 a.n]
def encN (x : Nd) : List PV := [.i .i64 x.k,.i .i64 x.lv,.i .i64 x.n,.s x.s,.l (x.al.map encA),.l (x.to.map encP)]
def encT (n : Nt) : List PV := [.l (n.ns.map encN),.i .i64 n.cap]
theorem allP (l : List Pt) : ((l.map encP).all fun r => decide (r.length = 2)) = true := by simp [encP]
theorem allA (l : List Ar) : ((l.map encA).all fun r => decide (r.length = 2)) = true := by simp [encA]
theorem allN (l : List Nd) : ((l.map encN).all fun r => decide (r.length = 6)) = true := by simp [encN]
theorem lenN (x : Nd) : (encN x).length = 6 := rfl
def zP : Pt := ⟨0,0⟩
def zN : Nd := ⟨0,0,0,[],[],[]⟩
theorem getP {l : List Pt} {i : Int} (h0 : 0 ≤ i) (h1 : i < l.length) : (l.map encP)[i.toNat]? = some (encP (l.getD i.toNat zP)) := by
  rw [List.getElem?_map,List.getD_eq_getElem?_getD,List.getElem?_eq_getElem (by omega)]; rfl
theorem getN {l : List Nd} {i : Int} (h0 : 0 ≤ i) (h1 : i < l.length) : (l.map encN)[i.toNat]? = some (encN (l.getD i.toNat zN)) := by
  rw [List.getElem?_map,List.getD_eq_getElem?_getD,List.getElem?_eq_getElem (by omega)]; rfl
def Nt.nd (n : Nt) (i : Int) : Nd := n.ns.getD i.toNat zN
def Nd.tt (x : Nd) (i : Int) : Pt := x.to.getD i.toNat zP
def Nt.lk (n : Nt) (p : Pt) : Pt := (n.nd p.n).tt p.s
def Nt.has (n : Nt) (p : Pt) : Bool := decide (p.n ≥ 0) && decide (p.n < n.ns.length) && decide (p.s ≥ 0) && decide (p.s < (n.nd p.n).to.length)
def wf (i : Int) : Prop := -9223372036854775808 ≤ i ∧ i ≤ 9223372036854775807
theorem wrap_in (n : Int) (h : -9223372036854775808 ≤ n ∧ n ≤ 9223372036854775807) : IntKind.i64.wrap n = n := IntWalk.i64_in n h
theorem wrap_succ (n : Nat) (h : n < 9223372036854775807) : IntKind.i64.wrap ((n : Int) + 1) = ((n + 1 : Nat) : Int) := by rw [wrap_in _ (by omega)]; omega
structure Nd.Ok (x : Nd) : Prop where
  k : wf x.k
  lv : wf x.lv
  n : wf x.n
  s : x.s.length ≤ 140737488355328
  al : x.al.length * 24 ≤ 140737488355328
  to : x.to.length * 16 ≤ 140737488355328
  ap : ∀ a,a ∈ x.al → wf a.n
  tp : ∀ p,p ∈ x.to → wf p.n ∧ wf p.s
structure Nt.Ok (n : Nt) : Prop where
  ns : n.ns.length * 88 ≤ 140737488355328
  cap : wf n.cap
  nd : ∀ x,x ∈ n.ns → x.Ok
theorem seatEqs : EqOk Try.prog [(43,[0,0]),(79,[1,0]),(60,[0,0]),(140,[0,0]),(43,[9]),(134,[8]),(136,[8]),(108,[8]),(135,[8]),(112,[8])] := by
  intro t sh h xa ya r he m σ w xs ys hx hy
  simp only [List.mem_cons,Prod.mk.injEq,List.not_mem_nil,or_false] at h
  rcases h with ⟨rfl,rfl⟩ | ⟨rfl,rfl⟩ | ⟨rfl,rfl⟩ | ⟨rfl,rfl⟩ | ⟨rfl,rfl⟩ | ⟨rfl,rfl⟩ | ⟨rfl,rfl⟩ | ⟨rfl,rfl⟩ | ⟨rfl,rfl⟩ | ⟨rfl,rfl⟩
  · exact eq_struct (sh := [0,0]) Try.underlying43 (by kernel_rfl) (by kernel_rfl) ⟨by decide,rfl,⟨_,Try.underlying3⟩,by decide,rfl,⟨_,Try.underlying3⟩,trivial⟩ xa ya r he m σ w xs ys hx hy
  · exact eq_struct (sh := [1,0]) Try.underlying79 (by kernel_rfl) (by kernel_rfl) ⟨by decide,rfl,Try.underlying9,by decide,rfl,⟨_,Try.underlying3⟩,trivial⟩ xa ya r he m σ w xs ys hx hy
  · exact eq_struct (sh := [0,0]) Try.underlying60 (by kernel_rfl) (by kernel_rfl) ⟨by decide,rfl,⟨_,Try.underlying3⟩,by decide,rfl,⟨_,Try.underlying3⟩,trivial⟩ xa ya r he m σ w xs ys hx hy
  · exact eq_arr (k := .i64) Try.underlying140 Try.underlying3 (by kernel_rfl) (by kernel_rfl) rfl (by kernel_rfl) xa ya r he m σ w xs ys hx hy
  · have h0 : ∀ (a c : List AV),eqCells [9] a c = none := fun a c => by cases a <;> cases c <;> rfl
    rw [h0] at he; cases he
  · have h0 : ∀ (a c : List AV),eqCells [8] a c = none := fun a c => by cases a <;> cases c <;> rfl
    rw [h0] at he; cases he
  · have h0 : ∀ (a c : List AV),eqCells [8] a c = none := fun a c => by cases a <;> cases c <;> rfl
    rw [h0] at he; cases he
  · have h0 : ∀ (a c : List AV),eqCells [8] a c = none := fun a c => by cases a <;> cases c <;> rfl
    rw [h0] at he; cases he
  · have h0 : ∀ (a c : List AV),eqCells [8] a c = none := fun a c => by cases a <;> cases c <;> rfl
    rw [h0] at he; cases he
  · have h0 : ∀ (a c : List AV),eqCells [8] a c = none := fun a c => by cases a <;> cases c <;> rfl
    rw [h0] at he; cases he
set_option linter.defProp false in
def nxE := And.intro (@encT.eq_1) (And.intro (@encN.eq_1) (And.intro (@encP.eq_1) (And.intro (@encA.eq_1) (And.intro (@spN.eq_1) (And.intro (@spS) (And.intro (@allP) (And.intro (@allA) (@allN))))))))
theorem clone_empty (P : Program) (eqs : List (TypeId × List Nat)) {fn : Func} {fc : FnC} (hm : P.follows .mixedOrders = true) (hE : EqOk P eqs) {f : FuncId} (hf : P.funcs[f]? = some fn) (hc : ccF P eqs fn = some (stripF fc))
    (hfc : ∃ k el b,fc = ⟨1,(.seq (.reg [⟨(.some 2),.none,(.mv (.c (.a .nil))),.any⟩]) (.seq (.seq (.reg [⟨(.some 3),.none,(.mv (.t 0)),.any⟩,⟨(.some 4),.none,(.nq false (.t 3)),.any⟩]) (.cond (.t 4) (.seq (.reg [⟨(.some 2),.none,(.mv (.c (.a .nil))),.any⟩]) .ret) .skip)) (.seq (.reg [
      ⟨(.some 5),.none,(.bsl k el b 0 []),.any⟩,⟨(.some 6),.none,(.mv (.t 0)),.any⟩,⟨(.some 7),.none,(.app k el 24 (.t 5) (.t 6)),.any⟩,⟨(.some 2),.none,(.mv (.t 7)),.any⟩]) .ret))),[(.tmp 2)]⟩ ∧ ∃ z,frL .empty b = some z ∧ ∀ σ,frL σ b = some z) :
    Ent P f ∧ SndP1 P f [.a (.l [])] (.a (.l [])) := by
  obtain ⟨k,el,b,rfl,z,hz0,hz⟩ := hfc
  have key : ∀ a c,∃ v σ',Ent P f ∧ (∀ m w vals,SR (CRP P eqs) m .empty w → F2 (RT m .empty w) [.a (.raw (.slice a 0 c))] vals → ∀ rr n,CallsIn (FW rr) n P f vals.toArray w (PostS (CRP P eqs) m .empty w v σ')) ∧ frT σ' v = some (.a (.l [])) := by
    intro a c
    cases a with
    | none =>
      have := fn_ok (cp := fun _ _ => none) (cs := fun _ _ _ => none) (sp := fun _ => false) (σ := .empty) hm hE (fun _ _ _ h => by cases h) (fun _ _ _ _ _ h => by cases h) hf hc (args := [.a (.raw (.slice none 0 c))]) (fuel := 0) rfl rfl (.inr rfl) rfl rfl
      exact ⟨_,_,this.1,this.2,rfl⟩
    | some a =>
      have hev : evC (fun _ _ => none) (fun _ _ _ => none) (fun _ => false) 0 false (.seq (.reg [⟨(.some 2),.none,(.mv (.c (.a .nil))),.any⟩]) (.seq (.seq (.reg [⟨(.some 3),.none,(.mv (.t 0)),.any⟩,⟨(.some 4),.none,(.nq false (.t 3)),.any⟩]) (.cond (.t 4) (.seq (.reg [⟨(.some 2),.none,(.mv (.c (.a .nil))),.any⟩]) .ret) .skip)) (.seq (.reg [
          ⟨(.some 5),.none,(.bsl k el b 0 []),.any⟩,⟨(.some 6),.none,(.mv (.t 0)),.any⟩,⟨(.some 7),.none,(.app k el 24 (.t 5) (.t 6)),.any⟩,⟨(.some 2),.none,(.mv (.t 7)),.any⟩]) .ret))) (Env.init [.a (.raw (.slice (some a) 0 c))]) .empty =
          some (.ret,((((((Env.init [.a (.raw (.slice (some a) 0 c))]).put 2 (.a .nil)).put 3 (.a (.raw (.slice (some a) 0 c)))).put 4 (.a (.p (.b false)))).put 5 (.a (.own (5,0) 0 0))).put 6 (.a (.raw (.slice (some a) 0 c)))).put 7 (.a (.own (7,1) 0 0)) |>.put 2 (.a (.own (7,1) 0 0)),(((St.empty.add 5 (.row k el [])).kill (5,0)).add 7 (.row k el []))) := by
        simp [evC,evIs,evI,evO,evR,ev,Env.init,Env.put,Env.putD,nilA,hz,evO.bslRows,St.add,St.put,St.kill,St.empty,rowsA,frA,rawE]
        try rfl
      have := fn_ok (cp := fun _ _ => none) (cs := fun _ _ _ => none) (sp := fun _ => false) (σ := .empty) hm hE (fun _ _ _ h => by cases h) (fun _ _ _ _ _ h => by cases h) hf hc (args := [.a (.raw (.slice (some a) 0 c))]) (fuel := 0) rfl hev (.inr rfl) rfl rfl
      exact ⟨_,_,this.1,this.2,by simp [frT,frA,St.add,St.put,St.kill,St.empty]⟩
  obtain ⟨_,_,hent,_,_⟩ := key none 0
  refine ⟨hent,fun w D vs hD hps rr n => ?_⟩
  cases hps with
  | cons x r =>
    cases r
    rename_i v
    have x : RP w D (.l []) v := x
    obtain ⟨a,c,rfl⟩ := x.slice
    obtain ⟨v,σ',_,hcall,hfr⟩ := key a c
    let m : Mt := { mu := fun _ => none,la := fun _ => 0,D := D }
    have hno : ∀ b,¬ InS m .empty b := by
      rintro b (⟨s,bl,c,hs,_⟩ | ⟨l,hl,_⟩)
      · simp [St.empty] at hs
      · simp [St.empty] at hl
    have hR : SR (CRP P eqs) m .empty w :=
      { blk := fun s b hs => by simp [St.empty] at hs,gen := fun s b hs => by simp [St.empty] at hs,inj := fun s s' b b' B c c' hs => by simp [St.empty] at hs
        dj := fun b hb => absurd hb (hno b),dlt := hD,lrs := fun l r hl => by simp [St.empty] at hl,linj := fun l l' hl => by simp [St.empty] at hl }
    refine (hcall m w [.slice a 0 c] hR (.cons ⟨rfl,rfl⟩ .nil) rr n).mono ?_
    rintro e w' ⟨v,m',rfl,j1,j2,j3⟩
    refine ⟨v,rfl,?_,?_⟩
    · refine RPT.mono (fun b hb => ⟨?_,rfl⟩) (frT_ok j1 j2 hfr)
      rcases hb with hb | hb
      · rcases j3.new b hb with h5 | h5 | h5
        · exact .inl h5
        · exact .inr ⟨h5,j1.dlt b hb⟩
        · exact absurd h5 (hno b)
      · rcases j3.img b hb with h5 | h5
        · exact absurd h5 (hno b)
        · exact .inr ⟨h5,j1.inS_lt hb⟩
    · exact { size := j3.size,block := fun b hb => j3.kept b hb (hno b),os := j3.os,tape := j3.tape,output := j3.output }
theorem seatOk : SeatOk Try.prog [(43,[0,0]),(79,[1,0]),(60,[0,0]),(140,[0,0]),(43,[9]),(134,[8]),(136,[8]),(108,[8]),(135,[8]),(112,[8])] S where
  mixed := by kernel_rfl
  eql := seatEqs
  fb f fc h := by
    simp only [S,Option.map_eq_some_iff] at h
    obtain ⟨x,h1,rfl⟩ := h
    have h2 := List.find?_some h1
    have h3 := tblOk x (List.mem_of_find?_eq_some h1)
    simp only [beq_iff_eq] at h2
    rw [← h2]; exact h3
  orc f ps r h := by
    have h2 : orcN f ps = some r := h
    clear h
    unfold orcN at h2
    split at h2
    · rename_i hf
      subst hf
      split at h2
      · simp only [Option.some.injEq] at h2; subst h2
        exact clone_empty Try.prog _ (by kernel_rfl) seatEqs Try.func155 cc155 ⟨2,79,_,rfl,_,rfl,fun _ => rfl⟩
      · cases h2
    · cases h2
end Go.Proofs.Ytkpfjolcmkikeaa
end
section
set_option linter.unusedSimpArgs false
set_option linter.unusedVariables false
set_option maxHeartbeats 4000000
set_option maxRecDepth 10000
namespace Go.Proofs.Ytkpfjolcmkikeaa
open Go.Fx
theorem Has_ok (n : Nt) (p : Pt) : eP S 35 [.g (encT n),.g (encP p)] = some (.a (.b (n.has p))) := by
  refine x_fn (orcS (by decide)) (fc := F35) rfl rfl ?_
  by_cases h1 : p.n ≥ 0
  · by_cases h2 : p.n < n.ns.length
    · have g := getN (l := n.ns) h1 h2
      have h1' : 0 ≤ p.n := h1
      by_cases h3 : p.s ≥ 0
      · simp only [F35,Nt.has,Nt.nd,h1,h1',h2,h3,g,fxa,fxc,fxE,fxL,fxI,nxE,evO,evR,cellsT,ldCells,mkT,lenA,binPV,Env.init,resV,resT,frT,klT,ownT,intT,O.adds,ownA,rowsA,over,wrOk,keysT,keysA,ne_eq,if_true,if_false,ite_self,Nat.reduceLT,Nat.reduceSub,Nat.reduceBEq,Nat.reduceEqDiff,Nat.reduceAdd,Nat.reduceLeDiff,reduceCtorEq,Nat.reduceMul]
        rfl
      · simp only [F35,Nt.has,Nt.nd,h1,h1',h2,h3,g,fxa,fxc,fxE,fxL,fxI,nxE,evO,evR,cellsT,ldCells,mkT,lenA,binPV,Env.init,resV,resT,frT,klT,ownT,intT,O.adds,ownA,rowsA,over,wrOk,keysT,keysA,ne_eq,if_true,if_false,ite_self,Nat.reduceLT,Nat.reduceSub,Nat.reduceBEq,Nat.reduceEqDiff,Nat.reduceAdd,Nat.reduceLeDiff,reduceCtorEq,Nat.reduceMul]
    · simp only [F35,Nt.has,h1,h2,fxa,fxc,fxE,fxL,fxI,nxE,evO,evR,cellsT,ldCells,mkT,lenA,binPV,Env.init,resV,resT,frT,klT,ownT,intT,O.adds,ownA,rowsA,over,wrOk,keysT,keysA,ne_eq,if_true,if_false,ite_self,Nat.reduceLT,Nat.reduceSub,Nat.reduceBEq,Nat.reduceEqDiff,Nat.reduceAdd,Nat.reduceLeDiff,reduceCtorEq,Nat.reduceMul]
  · simp only [F35,Nt.has,h1,fxa,fxc,fxE,fxL,fxI,nxE,evO,evR,cellsT,ldCells,mkT,lenA,binPV,Env.init,resV,resT,frT,klT,ownT,intT,O.adds,ownA,rowsA,over,wrOk,keysT,keysA,ne_eq,if_true,if_false,ite_self,Nat.reduceLT,Nat.reduceSub,Nat.reduceBEq,Nat.reduceEqDiff,Nat.reduceAdd,Nat.reduceLeDiff,reduceCtorEq,Nat.reduceMul]
theorem there1_ok (n : Nt) (p : Pt) (k : Key) (σ : St) (hk : σ.bs k = some (.var ((encT n).map .p))) (hlt : k.2 < σ.clk) :
    eS S (.f 147) [.g ((encP p).map .p),.a (.ptr k 0 0)] σ = some (.a (.p (.b (!n.has p))),σ.add 2 (.var ((encP p).map .p))) := by
  have hne : ¬ k = (2,σ.clk) := by rintro rfl; exact Nat.lt_irrefl _ hlt
  simp only [encT,List.map_cons,List.map_nil] at hk
  refine x_fnX (fc := F147) rfl rfl ?_
  by_cases h1 : p.n < 0
  · have h1' : ¬ p.n ≥ 0 := by omega
    simp only [F147,Nt.has,h1,h1',hk,hne,fxa,fxc,fxE,fxL,fxI,nxE,evO,evR,cellsT,ldCells,mkT,lenA,binPV,Env.init,resV,resT,frT,klT,ownT,intT,O.adds,ownA,rowsA,over,wrOk,keysT,keysA,ne_eq,if_true,if_false,ite_self,Nat.reduceLT,Nat.reduceSub,Nat.reduceBEq,Nat.reduceEqDiff,Nat.reduceAdd,Nat.reduceLeDiff,reduceCtorEq,Nat.reduceMul]
  · have h1' : p.n ≥ 0 := by omega
    have h1'' : 0 ≤ p.n := by omega
    by_cases h2 : p.n ≥ n.ns.length
    · have h2' : ¬ p.n < n.ns.length := by omega
      simp only [F147,Nt.has,h1,h1',h2,h2',hk,hne,fxa,fxc,fxE,fxL,fxI,nxE,evO,evR,cellsT,ldCells,mkT,lenA,binPV,Env.init,resV,resT,frT,klT,ownT,intT,O.adds,ownA,rowsA,over,wrOk,keysT,keysA,ne_eq,if_true,if_false,ite_self,Nat.reduceLT,Nat.reduceSub,Nat.reduceBEq,Nat.reduceEqDiff,Nat.reduceAdd,Nat.reduceLeDiff,reduceCtorEq,Nat.reduceMul]
    · have h2' : p.n < n.ns.length := by omega
      have g := getN (l := n.ns) h1'' h2'
      by_cases h3 : p.s < 0
      · have h3' : ¬ p.s ≥ 0 := by omega
        simp only [F147,Nt.has,h1,h1',h1'',h2,h2',h3,h3',g,hk,hne,fxa,fxc,fxE,fxL,fxI,nxE,evO,evR,cellsT,ldCells,mkT,lenA,binPV,Env.init,resV,resT,frT,klT,ownT,intT,O.adds,ownA,rowsA,over,wrOk,keysT,keysA,ne_eq,if_true,if_false,ite_self,Nat.reduceLT,Nat.reduceSub,Nat.reduceBEq,Nat.reduceEqDiff,Nat.reduceAdd,Nat.reduceLeDiff,reduceCtorEq,Nat.reduceMul]
      · have h3' : p.s ≥ 0 := by omega
        by_cases h4 : p.s ≥ (n.nd p.n).to.length
        · have h4' : ¬ p.s < (n.nd p.n).to.length := by omega
          simp only [Nt.nd] at h4 h4'
          simp only [F147,Nt.has,Nt.nd,h1,h1',h1'',h2,h2',h3,h3',h4,h4',g,hk,hne,fxa,fxc,fxE,fxL,fxI,nxE,evO,evR,cellsT,ldCells,mkT,lenA,binPV,Env.init,resV,resT,frT,klT,ownT,intT,O.adds,ownA,rowsA,over,wrOk,keysT,keysA,ne_eq,if_true,if_false,ite_self,Nat.reduceLT,Nat.reduceSub,Nat.reduceBEq,Nat.reduceEqDiff,Nat.reduceAdd,Nat.reduceLeDiff,reduceCtorEq,Nat.reduceMul]
        · have h4' : p.s < (n.nd p.n).to.length := by omega
          simp only [Nt.nd] at h4 h4'
          simp only [F147,Nt.has,Nt.nd,h1,h1',h1'',h2,h2',h3,h3',h4,h4',g,hk,hne,fxa,fxc,fxE,fxL,fxI,nxE,evO,evR,cellsT,ldCells,mkT,lenA,binPV,Env.init,resV,resT,frT,klT,ownT,intT,O.adds,ownA,rowsA,over,wrOk,keysT,keysA,ne_eq,if_true,if_false,ite_self,Nat.reduceLT,Nat.reduceSub,Nat.reduceBEq,Nat.reduceEqDiff,Nat.reduceAdd,Nat.reduceLeDiff,reduceCtorEq,Nat.reduceMul]
def idx {α : Type} (f : α → Bool) (l : List α) : Int := match l.findIdx? f with | some i => (i : Int) | none => -1
theorem indexP_ok (l : List Pt) (hl : l.length * 16 ≤ 140737488355328) (g : FuncId) (caps : List Key) (hc : caps ≠ []) (hsp : spN g = false) (f : Pt → Bool) (R : St → Prop)
    (hR : ∀ p σ,R σ → ∃ σ',eS S (.f g) ([.g ((encP p).map .p)] ++ caps.map fun s => .a (.ptr s 0 0)) σ = some (.a (.p (.b (f p))),σ') ∧ R σ') (σ : St) (h0 : R σ) :
    ∃ σ',eS S (.f 162) [.a (.p (.l (l.map encP))),.a (.fn g caps)] σ = some (.a (.p (.i .i64 (idx f l))),σ') ∧ R σ' := by
  obtain ⟨c1,cr,rfl⟩ : ∃ c1 cr,caps = c1 :: cr := by
    cases caps with
    | nil => exact absurd rfl hc
    | cons c1 cr => exact ⟨c1,cr,rfl⟩
  refine x_fnR (fc := F162) rfl rfl ?_
  simp only [F162,fxa,fxc,fxE,fxL,fxI,nxE,evO,evR,cellsT,ldCells,mkT,lenA,binPV,Env.init,resV,resT,frT,klT,ownT,intT,O.adds,ownA,rowsA,over,wrOk,keysT,keysA,ne_eq,if_true,if_false,ite_self,Nat.reduceLT,Nat.reduceSub,Nat.reduceBEq,Nat.reduceEqDiff,Nat.reduceAdd,Nat.reduceLeDiff,reduceCtorEq,Nat.reduceMul]
  refine loop_nat l.length (fun i e σ => e 0 = .a (.p (.l (l.map encP))) ∧ e 1 = .a (.fn g (c1 :: cr)) ∧ e 7 = .a (.p (.i .i64 l.length)) ∧ e 8 = .a (.p (.i .i64 (i : Nat))) ∧ R σ ∧ ∀ j x,j < i → l[j]? = some x → f x = false) (i0 := 0) (Nat.zero_le _) ?_ ?_ ?_
  · refine ⟨?_,?_,?_,?_,h0,fun j x hj => by omega⟩ <;> simp only [fxa,fxc,fxE,fxL,fxI,nxE,evO,evR,cellsT,ldCells,mkT,lenA,binPV,Env.init,resV,resT,frT,klT,ownT,intT,O.adds,ownA,rowsA,over,wrOk,keysT,keysA,ne_eq,if_true,if_false,ite_self,Nat.reduceLT,Nat.reduceSub,Nat.reduceBEq,Nat.reduceEqDiff,Nat.reduceAdd,Nat.reduceLeDiff,reduceCtorEq,Nat.reduceMul]
    rfl
  · rintro i e σ hi ⟨e0,e1,e7,e8,hRσ,hall⟩
    have hlt : ((i : Nat) : Int) < (l.length : Int) := by omega
    have hge : (0 : Int) ≤ ((i : Nat) : Int) := by omega
    obtain ⟨x,hx⟩ : ∃ x,l[i]? = some x := ⟨_,List.getElem?_eq_getElem hi⟩
    have hx' : (l.map encP)[i]? = some (encP x) := by simp only [List.getElem?_map,hx,Option.map_some]
    obtain ⟨σ2,hcall,hR2⟩ := hR x σ hRσ
    simp only [encP,List.map_cons,List.map_nil,List.cons_append,List.nil_append] at hcall
    simp only [F162b0,e0,e1,e7,e8,hlt,hge,hx',hsp,hcall,Bool.false_eq_true,fxa,fxc,fxE,fxL,fxI,nxE,evO,evR,cellsT,ldCells,mkT,lenA,binPV,Env.init,resV,resT,frT,klT,ownT,intT,O.adds,ownA,rowsA,over,wrOk,keysT,keysA,ne_eq,if_true,if_false,ite_self,Nat.reduceLT,Nat.reduceSub,Nat.reduceBEq,Nat.reduceEqDiff,Nat.reduceAdd,Nat.reduceLeDiff,reduceCtorEq,Nat.reduceMul]
    refine wpC_split (fun hf => ?_) (fun hf => ?_)
    · simp only [fxa,fxc,fxE,fxL,fxI,nxE,evO,evR,cellsT,ldCells,mkT,lenA,binPV,Env.init,resV,resT,frT,klT,ownT,intT,O.adds,ownA,rowsA,over,wrOk,keysT,keysA,ne_eq,if_true,if_false,ite_self,Nat.reduceLT,Nat.reduceSub,Nat.reduceBEq,Nat.reduceEqDiff,Nat.reduceAdd,Nat.reduceLeDiff,reduceCtorEq,Nat.reduceMul]
      refine ⟨?_,hR2⟩
      have : l.findIdx? f = some i := by
        rw [List.findIdx?_eq_some_iff_getElem]
        refine ⟨hi,?_,fun j hj => ?_⟩
        · rw [List.getElem?_eq_getElem hi] at hx; rw [Option.some.inj hx]; exact hf
        · rw [hall j _ hj (List.getElem?_eq_getElem (by omega))]; simp
      simp only [idx,this]
    · simp only [e0,e1,e7,e8,fxa,fxc,fxE,fxL,fxI,nxE,evO,evR,cellsT,ldCells,mkT,lenA,binPV,Env.init,resV,resT,frT,klT,ownT,intT,O.adds,ownA,rowsA,over,wrOk,keysT,keysA,ne_eq,if_true,if_false,ite_self,Nat.reduceLT,Nat.reduceSub,Nat.reduceBEq,Nat.reduceEqDiff,Nat.reduceAdd,Nat.reduceLeDiff,reduceCtorEq,Nat.reduceMul]
      refine ⟨by rw [wrap_succ i (by omega)],hR2,fun j y hj hy => ?_⟩
      by_cases e : j = i
      · subst e; rw [hx] at hy; rw [← Option.some.inj hy]; exact hf
      · exact hall j y (by omega) hy
  · rintro e σ ⟨e0,e1,e7,e8,hRσ,hall⟩
    have hlt : ¬ ((l.length : Nat) : Int) < (l.length : Int) := by omega
    simp only [F162b0,e0,e1,e7,e8,hlt,fxa,fxc,fxE,fxL,fxI,nxE,evO,evR,cellsT,ldCells,mkT,lenA,binPV,Env.init,resV,resT,frT,klT,ownT,intT,O.adds,ownA,rowsA,over,wrOk,keysT,keysA,ne_eq,if_true,if_false,ite_self,Nat.reduceLT,Nat.reduceSub,Nat.reduceBEq,Nat.reduceEqDiff,Nat.reduceAdd,Nat.reduceLeDiff,reduceCtorEq,Nat.reduceMul]
    refine ⟨?_,hRσ⟩
    have : l.findIdx? f = none := by
      rw [List.findIdx?_eq_none_iff]
      intro x hx
      obtain ⟨j,hj⟩ := List.getElem?_of_mem hx
      exact hall j x (List.getElem?_eq_some_iff.1 hj).1 hj
    simp only [idx,this]
theorem idx_any {α : Type} (f : α → Bool) (l : List α) : decide (idx f l ≥ 0) = l.any f := by
  unfold idx
  cases h : l.findIdx? f with
  | none =>
    rw [List.findIdx?_eq_none_iff] at h
    have : l.any f = false := by rw [List.any_eq_false]; intro x hx; simp [h x hx]
    rw [this]; rfl
  | some i =>
    rw [List.findIdx?_eq_some_iff_getElem] at h
    obtain ⟨hi,hf,_⟩ := h
    have : l.any f = true := by rw [List.any_eq_true]; exact ⟨_,List.getElem_mem hi,hf⟩
    rw [this]; simp
theorem there_ok (n : Nt) (l : List Pt) (hl : l.length * 16 ≤ 140737488355328) : eP S 122 [.g (encT n),.a (.l (l.map encP))] = some (.a (.b (l.all n.has))) := by
  refine x_fn (orcS (by decide)) (fc := F122) rfl rfl ?_
  have key : ∀ σ : St,σ.bs (2,0) = some (.var ((encT n).map .p)) → 1 ≤ σ.clk → ∃ σ',eS S (.f 146) [.a (.p (.l (l.map encP))),.a (.fn 147 [(2,0)])] σ = some (.a (.p (.b (l.any fun p => !n.has p))),σ') := by
    intro σ h2 hc
    obtain ⟨σ',h,_⟩ := indexP_ok l hl 147 [(2,0)] (by simp) (by decide) (fun p => !n.has p) (fun σ => σ.bs (2,0) = some (.var ((encT n).map .p)) ∧ 1 ≤ σ.clk) (fun p σ hσ => ⟨_,there1_ok n p (2,0) σ hσ.1 (by have := hσ.2; simp; omega),by
      refine ⟨?_,?_⟩
      · simp only [add_bs]; rw [if_neg (by rintro h; have := hσ.2; simp at h; omega)]; exact hσ.1
      · simp only [add_clk]; omega⟩) σ ⟨h2,hc⟩
    obtain ⟨v,σ2,h2,rfl,_⟩ := x_fnS (S := S) (g := 146) (fc := F146) rfl (args := [.a (.p (.l (l.map encP))),.a (.fn 147 [(2,0)])]) rfl (σ := σ) (K := fun v σ2 => v = .a (.p (.b (l.any fun p => !n.has p))) ∧ True) (by
      simp only [F146,h,idx_any,fxa,fxc,fxE,fxL,fxI,nxE,evO,evR,cellsT,ldCells,mkT,lenA,binPV,Env.init,resV,resT,frT,klT,ownT,intT,O.adds,ownA,rowsA,over,wrOk,keysT,keysA,ne_eq,if_true,if_false,ite_self,Nat.reduceLT,Nat.reduceSub,Nat.reduceBEq,Nat.reduceEqDiff,Nat.reduceAdd,Nat.reduceLeDiff,reduceCtorEq,Nat.reduceMul])
    exact ⟨σ2,h2⟩
  obtain ⟨σ',hcall⟩ := key (((St.empty.add 2 (.var ((encT n).map .p))))) (by simp [add_bs,empty_clk]) (by simp [add_clk,empty_clk])
  have hall : (!l.any fun p => !n.has p) = l.all n.has := by simp [List.all_eq_not_any_not]
  simp only [encT,List.map_cons,List.map_nil] at hcall
  simp only [F122,capsOf,hcall,hall,fxa,fxc,fxE,fxL,fxI,nxE,evO,evR,cellsT,ldCells,mkT,lenA,binPV,Env.init,resV,resT,frT,klT,ownT,intT,O.adds,ownA,rowsA,over,wrOk,keysT,keysA,ne_eq,if_true,if_false,ite_self,Nat.reduceLT,Nat.reduceSub,Nat.reduceBEq,Nat.reduceEqDiff,Nat.reduceAdd,Nat.reduceLeDiff,reduceCtorEq,Nat.reduceMul]
theorem peer_ok {n : Nt} {p : Pt} (h : n.has p = true) : eP S 123 [.g (encT n),.g (encP p)] = some (.g (encP (n.lk p))) := by
  simp only [Nt.has,Bool.and_eq_true,decide_eq_true_eq] at h
  obtain ⟨⟨⟨h1,h2⟩,h3⟩,h4⟩ := h
  have g := getN (l := n.ns) h1 h2
  have g2 := getP (l := (n.nd p.n).to) h3 h4
  have h1' : 0 ≤ p.n := h1
  have h3' : 0 ≤ p.s := h3
  simp only [Nt.nd] at h4 g2
  refine x_fn (orcS (by decide)) (fc := F123) rfl rfl ?_
  simp only [F123,Nt.lk,Nt.nd,Nd.tt,h1',h2,h3',h4,g,g2,fxa,fxc,fxE,fxL,fxI,nxE,evO,evR,cellsT,ldCells,mkT,lenA,binPV,Env.init,resV,resT,frT,klT,ownT,intT,O.adds,ownA,rowsA,over,wrOk,keysT,keysA,ne_eq,if_true,if_false,ite_self,Nat.reduceLT,Nat.reduceSub,Nat.reduceBEq,Nat.reduceEqDiff,Nat.reduceAdd,Nat.reduceLeDiff,reduceCtorEq,Nat.reduceMul]
def Nt.set (n : Nt) (p q : Pt) : Nt := { n with ns := n.ns.set p.n.toNat { n.nd p.n with to := (n.nd p.n).to.set p.s.toNat q } }
theorem cloneP_ok (rows : List (List PV)) (hne : rows ≠ []) (hl : rows.length * 16 ≤ 140737488355328) (h2 : (rows.all fun r => decide (r.length = 2)) = true) (σ : St) :
    eS S (.f 166) [.a (.p (.l rows))] σ = some (.a (.own (7,σ.clk + 1) 0 rows.length),((σ.add 5 (.row 2 43 [])).kill (5,σ.clk)).add 7 (.row 2 43 rows)) := by
  cases rows with
  | nil => exact absurd rfl hne
  | cons r rows =>
    refine x_fnX (fc := F166) rfl rfl ?_
    have hl' : (rows.length + 1) * 16 ≤ 140737488355328 := hl
    simp only [List.all_cons] at h2
    simp only [F166,nilA,hl',h2,fxa,fxc,fxE,fxL,fxI,nxE,evO,evR,cellsT,ldCells,mkT,lenA,binPV,Env.init,resV,resT,frT,klT,ownT,intT,O.adds,ownA,rowsA,over,wrOk,keysT,keysA,ne_eq,if_true,if_false,ite_self,Nat.reduceLT,Nat.reduceSub,Nat.reduceBEq,Nat.reduceEqDiff,Nat.reduceAdd,Nat.reduceLeDiff,reduceCtorEq,Nat.reduceMul]
theorem cloneN_ok (rows : List (List PV)) (hne : rows ≠ []) (hl : rows.length * 88 ≤ 140737488355328) (h2 : (rows.all fun r => decide (r.length = 6)) = true) (σ : St) :
    eS S (.f 167) [.a (.p (.l rows))] σ = some (.a (.own (7,σ.clk + 1) 0 rows.length),((σ.add 5 (.row 6 41 [])).kill (5,σ.clk)).add 7 (.row 6 41 rows)) := by
  cases rows with
  | nil => exact absurd rfl hne
  | cons r rows =>
    refine x_fnX (fc := F167) rfl rfl ?_
    have hl' : (rows.length + 1) * 88 ≤ 140737488355328 := hl
    simp only [List.all_cons] at h2
    simp only [F167,nilA,hl',h2,fxa,fxc,fxE,fxL,fxI,nxE,evO,evR,cellsT,ldCells,mkT,lenA,binPV,Env.init,resV,resT,frT,klT,ownT,intT,O.adds,ownA,rowsA,over,wrOk,keysT,keysA,ne_eq,if_true,if_false,ite_self,Nat.reduceLT,Nat.reduceSub,Nat.reduceBEq,Nat.reduceEqDiff,Nat.reduceAdd,Nat.reduceLeDiff,reduceCtorEq,Nat.reduceMul]
theorem take_mapset {α : Type} (l : List α) (f : α → List PV) (j : Nat) (z : List PV) : List.take l.length ((l.map f).set j z) = (l.map f).set j z := List.take_of_length_le (by simp)
theorem with_ok {n : Nt} {p : Pt} (q : Pt) (hn : n.Ok) (h : n.has p = true) : eP S 164 [.g (encT n),.g (encP p),.g (encP q)] = some (.g (encT (n.set p q))) := by
  simp only [Nt.has,Bool.and_eq_true,decide_eq_true_eq] at h
  obtain ⟨⟨⟨h1,h2⟩,h3⟩,h4⟩ := h
  have g := getN (l := n.ns) h1 h2
  have h1' : 0 ≤ p.n := h1
  have h3' : 0 ≤ p.s := h3
  have hx : (n.nd p.n).Ok := hn.nd _ (by unfold Nt.nd; rw [List.getD_eq_getElem?_getD,List.getElem?_eq_getElem (by omega)]; exact List.getElem_mem _)
  have hto := hx.to
  have hns := hn.ns
  have g2 := getP (l := (n.nd p.n).to) h3 h4
  have c1 := cloneP_ok ((n.nd p.n).to.map encP) (by intro h; simp at h; rw [h] at h4; simp at h4; omega) (by simpa using hto) (allP _)
  have c2 := cloneN_ok (n.ns.map encN) (by intro h; simp at h; rw [h] at h2; simp at h2; omega) (by simpa using hns) (allN _)
  obtain ⟨x,hxe⟩ : ∃ x,n.ns.getD p.n.toNat zN = x := ⟨_,rfl⟩
  simp only [Nt.nd,hxe,List.length_map] at h4 g g2 c1 c2
  refine x_fn (orcS (by decide)) (fc := F164) rfl rfl ?_
  simp only [F164,h1',h2,h3',h4,g,g2,c1,c2,rowK,take_mapset,List.length_set,ne_eq,not_false_eq_true,fxa,fxc,fxE,fxL,fxI,nxE,evO,evR,cellsT,ldCells,mkT,lenA,binPV,Env.init,resV,resT,frT,klT,ownT,intT,O.adds,ownA,rowsA,over,wrOk,keysT,keysA,ne_eq,if_true,if_false,ite_self,Nat.reduceLT,Nat.reduceSub,Nat.reduceBEq,Nat.reduceEqDiff,Nat.reduceAdd,Nat.reduceLeDiff,reduceCtorEq,Nat.reduceMul]
  simp only [Nt.set,Nt.nd,hxe,List.map_set,encN,encP]
end Go.Proofs.Ytkpfjolcmkikeaa
end
section
set_option linter.unusedSimpArgs false
set_option linter.unusedVariables false
set_option maxHeartbeats 4000000
set_option maxRecDepth 10000
namespace Go.Proofs.Ytkpfjolcmkikeaa
open Go.Fx
theorem ptEq (p q : Pt) : (decide (p.n = q.n) && decide (p.s = q.s)) = decide (p = q) := by
  obtain ⟨a,b⟩ := p
  obtain ⟨c,d⟩ := q
  rw [Bool.eq_iff_iff]; simp
theorem has_iff {n : Nt} {p : Pt} : n.has p = true ↔ 0 ≤ p.n ∧ p.n < n.ns.length ∧ 0 ≤ p.s ∧ p.s < (n.nd p.n).to.length := by
  simp only [Nt.has,Bool.and_eq_true,decide_eq_true_eq,ge_iff_le,and_assoc]
theorem nd_set (n : Nt) (p q : Pt) (hp : n.has p = true) (i : Int) (hi : 0 ≤ i) : (n.set p q).nd i = if i = p.n then { n.nd p.n with to := (n.nd p.n).to.set p.s.toNat q } else n.nd i := by
  rw [has_iff] at hp
  unfold Nt.set Nt.nd
  simp only
  rw [List.getD_eq_getElem?_getD,List.getElem?_set,List.getD_eq_getElem?_getD,List.getD_eq_getElem?_getD]
  by_cases h : i = p.n
  · subst h; rw [if_pos rfl,if_pos rfl,if_pos (by omega)]; rfl
  · rw [if_neg h,if_neg (by omega)]
theorem len_set (n : Nt) (p q : Pt) : (n.set p q).ns.length = n.ns.length := by simp [Nt.set]
theorem has_set {n : Nt} {p : Pt} (q r : Pt) (hp : n.has p = true) : (n.set p q).has r = n.has r := by
  rw [Bool.eq_iff_iff,has_iff,has_iff,len_set]
  constructor
  · rintro ⟨h1,h2,h3,h4⟩
    rw [nd_set n p q hp _ h1] at h4
    refine ⟨h1,h2,h3,?_⟩
    split at h4
    · rename_i e; rw [e]; simpa using h4
    · exact h4
  · rintro ⟨h1,h2,h3,h4⟩
    refine ⟨h1,h2,h3,?_⟩
    rw [nd_set n p q hp _ h1]
    split
    · rename_i e; rw [e] at h4; simpa using h4
    · exact h4
theorem nd_mem {n : Nt} {i : Int} (h0 : 0 ≤ i) (h1 : i < n.ns.length) : n.nd i ∈ n.ns := by
  unfold Nt.nd; rw [List.getD_eq_getElem?_getD,List.getElem?_eq_getElem (by omega)]; exact List.getElem_mem _
theorem Ok_set {n : Nt} {p q : Pt} (hn : n.Ok) (hp : n.has p = true) (hq : wf q.n ∧ wf q.s) : (n.set p q).Ok := by
  rw [has_iff] at hp
  have hx := hn.nd _ (nd_mem hp.1 hp.2.1)
  refine ⟨by rw [len_set]; exact hn.ns,hn.cap,fun x hx' => ?_⟩
  rcases List.mem_or_eq_of_mem_set hx' with h | rfl
  · exact hn.nd x h
  · exact ⟨hx.k,hx.lv,hx.n,hx.s,hx.al,by simpa using hx.to,hx.ap,fun r hr => by
      rcases List.mem_or_eq_of_mem_set hr with h | rfl
      · exact hx.tp r h
      · exact hq⟩
theorem lk_set {n : Nt} {p : Pt} (q r : Pt) (hp : n.has p = true) (hr : n.has r = true) : (n.set p q).lk r = if r = p then q else n.lk r := by
  have hr' := has_iff.1 hr
  have hp' := has_iff.1 hp
  unfold Nt.lk
  rw [nd_set n p q hp _ hr'.1]
  by_cases h : r = p
  · subst h; rw [if_pos rfl,if_pos rfl]
    simp only [Nd.tt,List.getD_eq_getElem?_getD,List.getElem?_set]
    rw [if_pos trivial,if_pos (by omega)]; rfl
  · rw [if_neg h]
    split
    · rename_i e
      have hs : r.s ≠ p.s := by intro h2; apply h; obtain ⟨a,b⟩ := r; obtain ⟨c,d⟩ := p; simp only at e h2; subst e h2; rfl
      simp only [Nd.tt,List.getD_eq_getElem?_getD,List.getElem?_set]
      rw [if_neg (by omega),e]
    · rfl
def linkR (n : Nt) (p q : Pt) : Nt × Int := if (n.has p && n.has q && !decide (p = q)) = true then ((n.set p q).set q p,0) else (n,130)
def moveR (n : Nt) (p q : Pt) : Nt × Int := if (n.has p && n.has q && !decide (p = q) && n.has (n.lk p)) = true then (if n.lk p = q then (n,0) else linkR n q (n.lk p)) else (n,130)
def encTE (x : Nt × Int) : PT := .t [(true,encT x.1),(false,[.i .i64 x.2])]
theorem there1 (n : Nt) (p : Pt) : eP S 122 [.g (encT n),.a (.l [encP p])] = some (.a (.b (n.has p))) := by
  have := there_ok n [p] (by simp); simpa using this
theorem Peer_ok (n : Nt) (p : Pt) : eP S 86 [.g (encT n),.g (encP p)] = some (.t [(true,encP (if n.has p then n.lk p else zP)),(false,[.i .i64 (if n.has p then 0 else 130)])]) := by
  have a1 := there1 n p
  refine x_fn (orcS (by decide)) (fc := F86) rfl rfl ?_
  simp only [encT,encP] at a1
  cases h1 : n.has p with
  | false => simp only [F86,a1,h1,zP,Bool.false_eq_true,fxa,fxc,fxE,fxL,fxI,nxE,evO,evR,cellsT,ldCells,mkT,lenA,binPV,Env.init,resV,resT,frT,klT,ownT,intT,O.adds,ownA,rowsA,over,wrOk,keysT,keysA,ne_eq,if_true,if_false,ite_self,Nat.reduceLT,Nat.reduceSub,Nat.reduceBEq,Nat.reduceEqDiff,Nat.reduceAdd,Nat.reduceLeDiff,reduceCtorEq,Nat.reduceMul]
  | true =>
    have a2 := peer_ok h1
    simp only [encT,encP] at a2
    simp only [F86,a1,a2,h1,fxa,fxc,fxE,fxL,fxI,nxE,evO,evR,cellsT,ldCells,mkT,lenA,binPV,Env.init,resV,resT,frT,klT,ownT,intT,O.adds,ownA,rowsA,over,wrOk,keysT,keysA,ne_eq,if_true,if_false,ite_self,Nat.reduceLT,Nat.reduceSub,Nat.reduceBEq,Nat.reduceEqDiff,Nat.reduceAdd,Nat.reduceLeDiff,reduceCtorEq,Nat.reduceMul]
end Go.Proofs.Ytkpfjolcmkikeaa
end
section
set_option linter.unusedSimpArgs false
set_option linter.unusedVariables false
set_option maxHeartbeats 4000000
set_option maxRecDepth 10000
namespace Go.Proofs.Ytkpfjolcmkikeaa
open Go.Fx
theorem mapGet {α : Type} {l : List α} {i : Nat} {x : α} (f : α → List PV) (h : l[i]? = some x) : (l.map f)[i]? = some (f x) := by rw [List.getElem?_map,h]; rfl
theorem list_ext {α : Type} {l l' : List α} (hl : l.length = l'.length) (h : ∀ j,j < l.length → l[j]? = l'[j]?) : l = l' := by
  apply List.ext_getElem?
  intro j
  by_cases hj : j < l.length
  · exact h j hj
  · rw [List.getElem?_eq_none (by omega),List.getElem?_eq_none (by omega)]
def Nt.small (n : Nt) (m : Int) : Prop := (∀ x,x ∈ n.ns → x.to.length ≤ 12 ∧ x.al.length ≤ 12) ∧ (n.ns.length : Int) ≤ m
end Go.Proofs.Ytkpfjolcmkikeaa
end
section
set_option linter.unusedSimpArgs false
set_option linter.unusedVariables false
set_option maxHeartbeats 4000000
set_option maxRecDepth 10000
namespace Go.Proofs.Ytkpfjolcmkikeaa.Tm
open Go.Fx
inductive T where
  | mk (k n : Int) (s : List UInt8) (l : List T)
namespace T
def k : T → Int | mk k _ _ _ => k
def n : T → Int | mk _ n _ _ => n
def s : T → List UInt8 | mk _ _ s _ => s
def l : T → List T | mk _ _ _ l => l
end T
mutual
def enc : T → List PV
  | .mk k n s l => [.i .i64 k,.i .i64 n,.s s,.l (encL l)]
def encL : List T → List (List PV)
  | [] => []
  | t :: r => enc t :: encL r
end
theorem encL_map (l : List T) : encL l = l.map enc := by
  induction l with
  | nil => rfl
  | cons t l ih => simp [encL,ih]
theorem enc_eq (t : T) : enc t = [.i .i64 t.k,.i .i64 t.n,.s t.s,.l (t.l.map enc)] := by
  cases t; simp [enc,T.k,T.n,T.s,T.l,encL_map]
inductive T.Ok : T → Prop
  | mk (k n : Int) (s : List UInt8) (l : List T) (hk : (Lit.int .i64 k).wf = true) (hn : (Lit.int .i64 n).wf = true) (hs : s.length ≤ reachBytes) (hl : l.length * 56 ≤ reachBytes) (h : ∀ t,t ∈ l → T.Ok t) : T.Ok (.mk k n s l)
theorem enc_len (t : T) : (enc t).length = 4 := by rw [enc_eq]; rfl
theorem enc_take (t : T) : (enc t).take 4 = enc t := by rw [List.take_of_length_le]; simp [enc_len]
theorem enc_all (l : List T) : ((l.map enc).all fun r => decide (r.length = 4)) = true := by simp [enc_len]
abbrev w (n : Int) : Int := IntKind.i64.wrap n
theorem w_id (x : Int) (h : -9223372036854775808 ≤ x ∧ x ≤ 9223372036854775807) : w x = x := wrap_in x h
theorem enc_flat (t : T) : (enc t).all PV.flat = false := by rw [enc_eq]; rfl
theorem enc_takep (t : T) : ((enc t).map AV.p).take 4 = (enc t).map AV.p := by rw [List.take_of_length_le]; simp [enc_len]
mutual
def few : T → Int → Int → Int
  | .mk k n s l,left,deep => if left < 1 then -1 else if deep < 1 then -1 else fewL l (w (left - 1)) (w (deep - 1))
def fewL : List T → Int → Int → Int
  | [],left,_ => left
  | t :: r,left,deep => if few t left deep < 0 then -1 else fewL r (few t left deep) deep
end
theorem loop49 (t : T) (d : Int) (hl : t.l.length * 56 ≤ reachBytes) (Q : Ex → Env → St → Prop) :
    ∀ (rem : List T) (i : Nat) (a : Int) (e : Env) (σ : St),t.l.drop i = rem → i + rem.length = t.l.length → (∀ u,u ∈ rem → ∀ x y,eP S 58 [.g (enc u),.a (.i .i64 x),.a (.i .i64 y)] = some (.a (.i .i64 (few u x y)))) →
      e 1 = .a (.p (.i .i64 a)) → e 2 = .a (.p (.i .i64 d)) → e 3 = .a (.ptr (3,0) 0 0) → e 7 = .a (.p (.i .i64 (i : Nat))) → σ.bs (3,0) = some (.var [.p (.i .i64 t.k),.p (.i .i64 t.n),.p (.s t.s),.p (.l (t.l.map enc))]) →
      (∀ e',e' 1 = .a (.p (.i .i64 (fewL rem a (w (d - 1))))) → Q (.exit 0) e' σ) → (fewL rem a (w (d - 1)) = -1 → ∀ e',e' 6 = .a (.p (.i .i64 (-1))) → Q .ret e' σ) → wp S false (.loop F58b0) e σ Q := by
  intro rem
  induction rem with
  | nil =>
    intro i a e σ hd hi hu e1 e2 e3 e7 h3 hQ hR
    have hlt : ¬ ((i : Int) < (t.l.length : Int)) := by simp at hi; omega
    rw [x_loop,F58b0]
    simp only [e1,e2,e3,e7,h3,hlt,fxa,fxc,fxE,fxL,fxI,nxE,evO,evR,cellsT,ldCells,mkT,lenA,binPV,Env.init,resV,resT,frT,klT,ownT,intT,O.adds,ownA,rowsA,over,wrOk,keysT,keysA,ne_eq,if_true,if_false,ite_self,Nat.reduceLT,Nat.reduceSub,Nat.reduceBEq,Nat.reduceEqDiff,Nat.reduceAdd,Nat.reduceLeDiff,reduceCtorEq,Nat.reduceMul]
    exact hQ _ (by simp only [e1,fewL,fxa,fxc,fxE,fxL,fxI,nxE,evO,evR,cellsT,ldCells,mkT,lenA,binPV,Env.init,resV,resT,frT,klT,ownT,intT,O.adds,ownA,rowsA,over,wrOk,keysT,keysA,ne_eq,if_true,if_false,ite_self,Nat.reduceLT,Nat.reduceSub,Nat.reduceBEq,Nat.reduceEqDiff,Nat.reduceAdd,Nat.reduceLeDiff,reduceCtorEq,Nat.reduceMul])
  | cons x rem ih =>
    intro i a e σ hd hi hu e1 e2 e3 e7 h3 hQ hR
    simp only [List.length_cons] at hi
    have hlt : ((i : Int) < (t.l.length : Int)) := by omega
    have h0 : (0 : Int) ≤ (i : Int) := by omega
    have hx : t.l[i]? = some x := by rw [← List.head?_drop,hd]; rfl
    have hx' : (t.l.map enc)[i]? = some (enc x) := by simp [hx]
    have hux := hu x (by simp) a (w (d - 1))
    have hlb : t.l.length < 9223372036854775807 := by simp only [reachBytes] at hl; omega
    rw [x_loop,F58b0]
    simp only [e1,e2,e3,e7,h3,hlt,h0,Int.toNat_natCast,hx',enc_len,enc_all,enc_take,enc_takep,hux,fxa,fxc,fxE,fxL,fxI,nxE,evO,evR,cellsT,ldCells,mkT,lenA,binPV,Env.init,resV,resT,frT,klT,ownT,intT,O.adds,ownA,rowsA,over,wrOk,keysT,keysA,ne_eq,if_true,if_false,ite_self,Nat.reduceLT,Nat.reduceSub,Nat.reduceBEq,Nat.reduceEqDiff,Nat.reduceAdd,Nat.reduceLeDiff,reduceCtorEq,Nat.reduceMul]
    refine wpC_split (fun h1 => ?_) (fun h1 => ?_)
    · have h1' : few x a (w (d - 1)) < 0 := by simpa using h1
      simp only [h1,fxa,fxc,fxE,fxL,fxI,nxE,evO,evR,cellsT,ldCells,mkT,lenA,binPV,Env.init,resV,resT,frT,klT,ownT,intT,O.adds,ownA,rowsA,over,wrOk,keysT,keysA,ne_eq,if_true,if_false,ite_self,Nat.reduceLT,Nat.reduceSub,Nat.reduceBEq,Nat.reduceEqDiff,Nat.reduceAdd,Nat.reduceLeDiff,reduceCtorEq,Nat.reduceMul]
      exact hR (by simp only [fewL]; rw [if_pos h1']) _ (by simp only [fxa,fxc,fxE,fxL,fxI,nxE,evO,evR,cellsT,ldCells,mkT,lenA,binPV,Env.init,resV,resT,frT,klT,ownT,intT,O.adds,ownA,rowsA,over,wrOk,keysT,keysA,ne_eq,if_true,if_false,ite_self,Nat.reduceLT,Nat.reduceSub,Nat.reduceBEq,Nat.reduceEqDiff,Nat.reduceAdd,Nat.reduceLeDiff,reduceCtorEq,Nat.reduceMul])
    · have h1' : ¬ few x a (w (d - 1)) < 0 := by simpa using h1
      simp only [e7,h1,fxa,fxc,fxE,fxL,fxI,nxE,evO,evR,cellsT,ldCells,mkT,lenA,binPV,Env.init,resV,resT,frT,klT,ownT,intT,O.adds,ownA,rowsA,over,wrOk,keysT,keysA,ne_eq,if_true,if_false,ite_self,Nat.reduceLT,Nat.reduceSub,Nat.reduceBEq,Nat.reduceEqDiff,Nat.reduceAdd,Nat.reduceLeDiff,reduceCtorEq,Nat.reduceMul]
      refine ih (i + 1) (few x a (w (d - 1))) _ σ (by rw [← List.drop_drop,hd]; rfl) (by omega) (fun u hu' => hu u (by simp [hu'])) ?_ ?_ ?_ ?_ h3 ?_ ?_
      all_goals try simp only [e1,e2,e3,e7,fxa,fxc,fxE,fxL,fxI,nxE,evO,evR,cellsT,ldCells,mkT,lenA,binPV,Env.init,resV,resT,frT,klT,ownT,intT,O.adds,ownA,rowsA,over,wrOk,keysT,keysA,ne_eq,if_true,if_false,ite_self,Nat.reduceLT,Nat.reduceSub,Nat.reduceBEq,Nat.reduceEqDiff,Nat.reduceAdd,Nat.reduceLeDiff,reduceCtorEq,Nat.reduceMul]
      · rw [wrap_succ i (by omega)]
      · intro e' he'; exact hQ e' (by rw [he']; simp only [fewL]; rw [if_neg h1'])
      · intro hm e' he'; exact hR (by simp only [fewL]; rw [if_neg h1']; exact hm) e' he'
theorem few_ok {t : T} (ht : T.Ok t) : ∀ x y : Int,eP S 58 [.g (enc t),.a (.i .i64 x),.a (.i .i64 y)] = some (.a (.i .i64 (few t x y))) := by
  induction ht with
  | mk k n s l hk hn hs hl h ih =>
    intro x y
    have e0 : few (.mk k n s l) x y = if x < 1 then -1 else if y < 1 then -1 else fewL l (w (x - 1)) (w (y - 1)) := rfl
    rw [e0]
    refine x_fn (orcS (by decide)) (fc := F58) rfl rfl ?_
    simp only [F58,enc,encL_map,fxa,fxc,fxE,fxL,fxI,nxE,evO,evR,cellsT,ldCells,mkT,lenA,binPV,Env.init,resV,resT,frT,klT,ownT,intT,O.adds,ownA,rowsA,over,wrOk,keysT,keysA,ne_eq,if_true,if_false,ite_self,Nat.reduceLT,Nat.reduceSub,Nat.reduceBEq,Nat.reduceEqDiff,Nat.reduceAdd,Nat.reduceLeDiff,reduceCtorEq,Nat.reduceMul]
    refine wpX_bsplit (fun h1 => ?_) (fun h1 => ?_)
    · have h1' : ¬ x < 1 := by simpa using h1
      rw [if_neg h1']
      simp only [h1,fxa,fxc,fxE,fxL,fxI,nxE,evO,evR,cellsT,ldCells,mkT,lenA,binPV,Env.init,resV,resT,frT,klT,ownT,intT,O.adds,ownA,rowsA,over,wrOk,keysT,keysA,ne_eq,if_true,if_false,ite_self,Nat.reduceLT,Nat.reduceSub,Nat.reduceBEq,Nat.reduceEqDiff,Nat.reduceAdd,Nat.reduceLeDiff,reduceCtorEq,Nat.reduceMul]
      refine wpC_split (fun h2 => ?_) (fun h2 => ?_)
      · have h2' : y < 1 := by simpa using h2
        simp only [h1,h2,if_pos h2',fxa,fxc,fxE,fxL,fxI,nxE,evO,evR,cellsT,ldCells,mkT,lenA,binPV,Env.init,resV,resT,frT,klT,ownT,intT,O.adds,ownA,rowsA,over,wrOk,keysT,keysA,ne_eq,if_true,if_false,ite_self,Nat.reduceLT,Nat.reduceSub,Nat.reduceBEq,Nat.reduceEqDiff,Nat.reduceAdd,Nat.reduceLeDiff,reduceCtorEq,Nat.reduceMul]
      · have h2' : ¬ y < 1 := by simpa using h2
        rw [if_neg h2']
        simp only [h1,h2,fxa,fxc,fxE,fxL,fxI,nxE,evO,evR,cellsT,ldCells,mkT,lenA,binPV,Env.init,resV,resT,frT,klT,ownT,intT,O.adds,ownA,rowsA,over,wrOk,keysT,keysA,ne_eq,if_true,if_false,ite_self,Nat.reduceLT,Nat.reduceSub,Nat.reduceBEq,Nat.reduceEqDiff,Nat.reduceAdd,Nat.reduceLeDiff,reduceCtorEq,Nat.reduceMul]
        refine loop49 (.mk k n s l) y hl _ l 0 (w (x - 1)) _ _ rfl (by simp [T.l]) (fun u hu x y => ih u hu x y) ?_ ?_ ?_ ?_ ?_ ?_ ?_
        all_goals simp only [T.k,T.n,T.s,T.l,fxa,fxc,fxE,fxL,fxI,nxE,evO,evR,cellsT,ldCells,mkT,lenA,binPV,Env.init,resV,resT,frT,klT,ownT,intT,O.adds,ownA,rowsA,over,wrOk,keysT,keysA,ne_eq,if_true,if_false,ite_self,Nat.reduceLT,Nat.reduceSub,Nat.reduceBEq,Nat.reduceEqDiff,Nat.reduceAdd,Nat.reduceLeDiff,reduceCtorEq,Nat.reduceMul]
        · rfl
        · intro e' he'; simp only [he',fxa,fxc,fxE,fxL,fxI,nxE,evO,evR,cellsT,ldCells,mkT,lenA,binPV,Env.init,resV,resT,frT,klT,ownT,intT,O.adds,ownA,rowsA,over,wrOk,keysT,keysA,ne_eq,if_true,if_false,ite_self,Nat.reduceLT,Nat.reduceSub,Nat.reduceBEq,Nat.reduceEqDiff,Nat.reduceAdd,Nat.reduceLeDiff,reduceCtorEq,Nat.reduceMul]
        · intro hm e' he'; simp only [he',hm,fxa,fxc,fxE,fxL,fxI,nxE,evO,evR,cellsT,ldCells,mkT,lenA,binPV,Env.init,resV,resT,frT,klT,ownT,intT,O.adds,ownA,rowsA,over,wrOk,keysT,keysA,ne_eq,if_true,if_false,ite_self,Nat.reduceLT,Nat.reduceSub,Nat.reduceBEq,Nat.reduceEqDiff,Nat.reduceAdd,Nat.reduceLeDiff,reduceCtorEq,Nat.reduceMul]
    · have h1' : x < 1 := by simpa using h1
      rw [if_pos h1']
      simp only [h1,fxa,fxc,fxE,fxL,fxI,nxE,evO,evR,cellsT,ldCells,mkT,lenA,binPV,Env.init,resV,resT,frT,klT,ownT,intT,O.adds,ownA,rowsA,over,wrOk,keysT,keysA,ne_eq,if_true,if_false,ite_self,Nat.reduceLT,Nat.reduceSub,Nat.reduceBEq,Nat.reduceEqDiff,Nat.reduceAdd,Nat.reduceLeDiff,reduceCtorEq,Nat.reduceMul]
def small (t : T) (n : Int) : Bool := decide (few t n 600 ≥ 0)
theorem small_ok {t : T} (ht : T.Ok t) (n : Int) : eP S 29 [.g (enc t),.a (.i .i64 n)] = some (.a (.b (small t n))) := by
  have h := few_ok ht n 600
  refine x_fn (orcS (by decide)) (fc := F29) rfl rfl ?_
  simp only [F29,enc_len,enc_takep,enc_flat,h,small,fxa,fxc,fxE,fxL,fxI,nxE,evO,evR,cellsT,ldCells,mkT,lenA,binPV,Env.init,resV,resT,frT,klT,ownT,intT,O.adds,ownA,rowsA,over,wrOk,keysT,keysA,ne_eq,if_true,if_false,ite_self,Nat.reduceLT,Nat.reduceSub,Nat.reduceBEq,Nat.reduceEqDiff,Nat.reduceAdd,Nat.reduceLeDiff,reduceCtorEq,Nat.reduceMul]
mutual
def dep : T → Nat
  | .mk _ _ _ l => depL l + 1
def depL : List T → Nat
  | [] => 0
  | t :: r => max (dep t) (depL r)
end
theorem depL_mem {l : List T} {t : T} (h : t ∈ l) : dep t ≤ depL l := by
  induction l with
  | nil => simp at h
  | cons x l ih =>
    simp only [depL]
    rcases List.mem_cons.1 h with rfl | h
    · omega
    · have := ih h; omega
theorem T.ind {P : T → Prop} (h : ∀ k n s l,(∀ t,t ∈ l → P t) → P (.mk k n s l)) : ∀ t,P t := by
  intro t
  refine T.rec (motive_1 := P) (motive_2 := fun l => ∀ t,t ∈ l → P t) (fun k n s l ih => h k n s l ih) (by simp) (fun t l h1 h2 u hu => ?_) t
  rcases List.mem_cons.1 hu with rfl | hu
  · exact h1
  · exact h2 u hu
mutual
def sizeZ : T → Int
  | .mk _ _ _ l => sizeLZ l + 1
def sizeLZ : List T → Int
  | [] => 0
  | t :: r => sizeZ t + sizeLZ r
end
theorem sizeLZ_pos {l : List T} (h : ∀ t,t ∈ l → 1 ≤ sizeZ t) : 0 ≤ sizeLZ l := by
  induction l with
  | nil => simp [sizeLZ]
  | cons t l ih => have := h t (by simp); have := ih fun u hu => h u (by simp [hu]); simp only [sizeLZ]; omega
theorem sizeZ_pos (t : T) : 1 ≤ sizeZ t := by
  induction t using T.ind with
  | h k n s l ih => have := sizeLZ_pos ih; simp only [sizeZ]; omega
theorem sizeLZ_nn (l : List T) : 0 ≤ sizeLZ l := sizeLZ_pos fun t _ => sizeZ_pos t
theorem sizeLZ_mem {l : List T} {t : T} (h : t ∈ l) : sizeZ t ≤ sizeLZ l := by
  induction l with
  | nil => simp at h
  | cons x l ih =>
    have := sizeLZ_nn l; have := sizeZ_pos x
    simp only [sizeLZ]
    rcases List.mem_cons.1 h with rfl | h
    · omega
    · have := ih h; omega
mutual
theorem few_all : ∀ (t : T) (x y : Int),x ≤ 1099511627776 → y ≤ 1000 → few t x y ≥ 0 → (dep t : Int) ≤ y ∧ few t x y = x - sizeZ t
  | .mk k n s l,x,y,hx,hy,h => by
    simp only [few] at h ⊢
    split at h
    · omega
    · rename_i h1
      split at h
      · omega
      · rename_i h2
        rw [if_neg h1,if_neg h2]
        rw [w_id _ (by omega),w_id _ (by omega)] at h ⊢
        obtain ⟨h3,h4⟩ := few_allL l (x - 1) (y - 1) (by omega) (by omega) (by omega) h
        simp only [dep,sizeZ]; omega
theorem few_allL : ∀ (l : List T) (x y : Int),x ≤ 1099511627776 → 0 ≤ y → y ≤ 1000 → fewL l x y ≥ 0 → (depL l : Int) ≤ y ∧ fewL l x y = x - sizeLZ l
  | [],x,y,hx,hy0,hy,h => by simp only [fewL,depL,sizeLZ]; omega
  | t :: l,x,y,hx,hy0,hy,h => by
    simp only [fewL] at h ⊢
    split at h
    · omega
    · rename_i h1
      rw [if_neg h1]
      obtain ⟨h3,h4⟩ := few_all t x y hx hy (by omega)
      have := sizeZ_pos t
      obtain ⟨h5,h6⟩ := few_allL l (few t x y) y (by omega) hy0 hy h
      simp only [depL,sizeLZ]; omega
end
theorem small_all {t : T} {x : Int} (hx : x ≤ 1099511627776) (h : small t x = true) : dep t ≤ 600 ∧ sizeZ t ≤ x := by
  unfold small at h
  obtain ⟨h1,h2⟩ := few_all t x 600 hx (by omega) (by simpa using h)
  have : few t x 600 ≥ 0 := by simpa using h
  omega
theorem drop_consT {l : List T} {i : Nat} {x : T} (h : l[i]? = some x) : l.drop i = x :: l.drop (i + 1) := by
  obtain ⟨hi,rfl⟩ := List.getElem?_eq_some_iff.1 h
  rw [List.drop_eq_getElem_cons hi]
theorem take_succT {l : List T} {i : Nat} {x : T} (h : l[i]? = some x) : l.take (i + 1) = l.take i ++ [x] := by
  rw [List.take_add_one,h]; rfl
theorem depL_app : ∀ (l r : List T),depL (l ++ r) = max (depL l) (depL r)
  | [],r => by simp [depL]
  | t :: l,r => by simp only [List.cons_append,depL,depL_app l r,Nat.max_assoc]
theorem Depth_ok : ∀ {t : T},T.Ok t → dep t ≤ 1099511627776 → eP S 30 [.g (enc t)] = some (.a (.i .i64 (dep t : Nat))) := by
  intro t ht
  induction ht with
  | mk k n s l hk hn hs hl h ih =>
    intro hd
    simp only [dep] at hd
    refine x_fn (orcS (by decide)) (fc := F30) rfl rfl ?_
    simp only [F30,enc,encL_map,spS,fxa,fxc,fxE,fxL,fxI,nxE,evO,evR,cellsT,ldCells,mkT,lenA,binPV,Env.init,resV,resT,frT,klT,ownT,intT,O.adds,ownA,rowsA,over,wrOk,keysT,keysA,ne_eq,if_true,if_false,ite_self,Nat.reduceLT,Nat.reduceSub,Nat.reduceBEq,Nat.reduceEqDiff,Nat.reduceAdd,Nat.reduceLeDiff,reduceCtorEq,Nat.reduceMul]
    refine loop_nat l.length (fun i e τ => e 1 = .a (.ptr (1,0) 0 0) ∧ e 3 = .a (.p (.i .i64 (depL (l.take i) : Nat))) ∧ e 4 = .a (.p (.i .i64 (i : Nat))) ∧ τ.bs (1,0) = some (.var [.p (.i .i64 k),.p (.i .i64 n),.p (.s s),.p (.l (l.map enc))])) (i0 := 0) (Nat.zero_le _) ⟨rfl,rfl,rfl,rfl⟩ ?_ ?_
    · rintro i e τ hi ⟨e1,e3,e4,b1⟩
      obtain ⟨x,hx⟩ : ∃ x,l[i]? = some x := ⟨_,List.getElem?_eq_getElem hi⟩
      have hx' : (l.map enc)[i]? = some (enc x) := by simp [hx]
      have hxm := List.mem_of_getElem? hx
      have hlt : ((i : Nat) : Int) < (l.length : Int) := by omega
      have hge : (0 : Int) ≤ ((i : Nat) : Int) := by omega
      have hlb : i < 9223372036854775807 := by simp only [reachBytes] at hl; omega
      have hw := wrap_succ i hlb
      have c1 := ih x hxm (by have := depL_mem hxm; omega)
      have hs1 : depL (l.take (i + 1)) = max (depL (l.take i)) (dep x) := by rw [take_succT hx,depL_app]; simp [depL]
      rw [hs1]
      by_cases hm : (dep x : Int) > (depL (l.take i) : Int)
      · have : max (depL (l.take i)) (dep x) = dep x := by omega
        rw [this]
        simp only [F30b0,e1,e3,e4,b1,hlt,hge,hw,hx',hm,enc_len,enc_take,enc_all,c1,Int.toNat_natCast,List.length_map,spS,fxa,fxc,fxE,fxL,fxI,nxE,evO,evR,cellsT,ldCells,mkT,lenA,binPV,Env.init,resV,resT,frT,klT,ownT,intT,O.adds,ownA,rowsA,over,wrOk,keysT,keysA,ne_eq,if_true,if_false,ite_self,Nat.reduceLT,Nat.reduceSub,Nat.reduceBEq,Nat.reduceEqDiff,Nat.reduceAdd,Nat.reduceLeDiff,reduceCtorEq,Nat.reduceMul]
      · have : max (depL (l.take i)) (dep x) = depL (l.take i) := by omega
        rw [this]
        simp only [F30b0,e1,e3,e4,b1,hlt,hge,hw,hx',hm,enc_len,enc_take,enc_all,c1,Int.toNat_natCast,List.length_map,spS,fxa,fxc,fxE,fxL,fxI,nxE,evO,evR,cellsT,ldCells,mkT,lenA,binPV,Env.init,resV,resT,frT,klT,ownT,intT,O.adds,ownA,rowsA,over,wrOk,keysT,keysA,ne_eq,if_true,if_false,ite_self,Nat.reduceLT,Nat.reduceSub,Nat.reduceBEq,Nat.reduceEqDiff,Nat.reduceAdd,Nat.reduceLeDiff,reduceCtorEq,Nat.reduceMul]
    · rintro e τ ⟨e1,e3,e4,b1⟩
      have hlt : ¬ ((l.length : Nat) : Int) < (l.length : Int) := by omega
      have hw := wrap_succ (depL l) (by omega)
      rw [List.take_length] at e3
      simp only [F30b0,e1,e3,e4,b1,hlt,hw,dep,List.length_map,spS,fxa,fxc,fxE,fxL,fxI,nxE,evO,evR,cellsT,ldCells,mkT,lenA,binPV,Env.init,resV,resT,frT,klT,ownT,intT,O.adds,ownA,rowsA,over,wrOk,keysT,keysA,ne_eq,if_true,if_false,ite_self,Nat.reduceLT,Nat.reduceSub,Nat.reduceBEq,Nat.reduceEqDiff,Nat.reduceAdd,Nat.reduceLeDiff,reduceCtorEq,Nat.reduceMul]
end Go.Proofs.Ytkpfjolcmkikeaa.Tm
end
section
set_option linter.unusedSimpArgs false
set_option linter.unusedVariables false
set_option maxHeartbeats 4000000
set_option maxRecDepth 10000
namespace Go.Proofs.Ytkpfjolcmkikeaa.Tm
open Go.Fx
theorem class_ex (n : Int) : ∃ r,eP S 159 [.a (.i .u8 n)] = some r ∧ ∃ c,r = .a (.i .i64 c) ∧ 0 ≤ c ∧ c ≤ 4 := by
  refine x_fnE (orcS (by decide)) (fc := F159) rfl rfl ?_
  simp only [F159,fxa,fxc,fxE,fxL,fxI,nxE,evO,evR,cellsT,ldCells,mkT,lenA,binPV,Env.init,resV,resT,frT,klT,ownT,intT,O.adds,ownA,rowsA,over,wrOk,keysT,keysA,ne_eq,if_true,if_false,ite_self,Nat.reduceLT,Nat.reduceSub,Nat.reduceBEq,Nat.reduceEqDiff,Nat.reduceAdd,Nat.reduceLeDiff,reduceCtorEq,Nat.reduceMul]
  iterate 14
    all_goals try (first
      | (refine wpX_bsplit (fun h => ?_) (fun h => ?_) <;> simp only [h,fxa,fxc,fxE,fxL,fxI,nxE,evO,evR,cellsT,ldCells,mkT,lenA,binPV,Env.init,resV,resT,frT,klT,ownT,intT,O.adds,ownA,rowsA,over,wrOk,keysT,keysA,ne_eq,if_true,if_false,ite_self,Nat.reduceLT,Nat.reduceSub,Nat.reduceBEq,Nat.reduceEqDiff,Nat.reduceAdd,Nat.reduceLeDiff,reduceCtorEq,Nat.reduceMul])
      | (refine wpC_split (fun h => ?_) (fun h => ?_) <;> simp only [h,fxa,fxc,fxE,fxL,fxI,nxE,evO,evR,cellsT,ldCells,mkT,lenA,binPV,Env.init,resV,resT,frT,klT,ownT,intT,O.adds,ownA,rowsA,over,wrOk,keysT,keysA,ne_eq,if_true,if_false,ite_self,Nat.reduceLT,Nat.reduceSub,Nat.reduceBEq,Nat.reduceEqDiff,Nat.reduceAdd,Nat.reduceLeDiff,reduceCtorEq,Nat.reduceMul]))
  all_goals exact ⟨_,rfl,by omega,by omega⟩
theorem word_ok (s : List UInt8) : ∃ r,eP S 161 [.a (.s s)] = some r ∧ ∃ b,r = .a (.b b) := by
  refine x_fnE (orcS (by decide)) (fc := F161) rfl rfl ?_
  simp only [F161,fxa,fxc,fxE,fxL,fxI,nxE,evO,evR,cellsT,ldCells,mkT,lenA,binPV,Env.init,resV,resT,frT,klT,ownT,intT,O.adds,ownA,rowsA,over,wrOk,keysT,keysA,ne_eq,if_true,if_false,ite_self,Nat.reduceLT,Nat.reduceSub,Nat.reduceBEq,Nat.reduceEqDiff,Nat.reduceAdd,Nat.reduceLeDiff,reduceCtorEq,Nat.reduceMul]
  iterate 6
    all_goals try (refine wpX_bsplit (fun h => ?_) (fun h => ?_) <;> simp only [h,fxa,fxc,fxE,fxL,fxI,nxE,evO,evR,cellsT,ldCells,mkT,lenA,binPV,Env.init,resV,resT,frT,klT,ownT,intT,O.adds,ownA,rowsA,over,wrOk,keysT,keysA,ne_eq,if_true,if_false,ite_self,Nat.reduceLT,Nat.reduceSub,Nat.reduceBEq,Nat.reduceEqDiff,Nat.reduceAdd,Nat.reduceLeDiff,reduceCtorEq,Nat.reduceMul])
  all_goals exact ⟨_,rfl⟩
theorem run_ex (s : List UInt8) (at_ : Nat) (hs : s.length ≤ reachBytes) (ha : at_ ≤ s.length) : ∃ r,eP S 157 [.a (.s s),.a (.i .i64 at_)] = some r ∧ ∃ (n : Nat) (b : Bool),r = .t [(false,[.i .i64 n]),(false,[.b b])] ∧ at_ + n ≤ s.length := by
  refine x_fnE (orcS (by decide)) (fc := F157) rfl rfl ?_
  simp only [F157,fxa,fxc,fxE,fxL,fxI,nxE,evO,evR,cellsT,ldCells,mkT,lenA,binPV,Env.init,resV,resT,frT,klT,ownT,intT,O.adds,ownA,rowsA,over,wrOk,keysT,keysA,ne_eq,if_true,if_false,ite_self,Nat.reduceLT,Nat.reduceSub,Nat.reduceBEq,Nat.reduceEqDiff,Nat.reduceAdd,Nat.reduceLeDiff,reduceCtorEq,Nat.reduceMul]
  have hsl : s.length ≤ 140737488351232 := by simpa only [reachBytes] using hs
  refine wp_loop_ind (fun k e σ => e 0 = .a (.p (.s s)) ∧ e 1 = .a (.p (.i .i64 at_)) ∧ ∃ (n : Nat) (b : Bool),e 6 = .a (.p (.i .i64 n)) ∧ e 7 = .a (.p (.b b)) ∧ at_ + n + k = s.length) ?_ (s.length - at_) _ _ ⟨?_,?_,0,false,?_,?_,by omega⟩
  · rintro k e σ ⟨e0,e1,n,b,e6,e7,hk⟩
    have hw : IntKind.i64.wrap ((at_ : Int) + (n : Int)) = ((at_ + n : Nat) : Int) := by rw [wrap_in _ (by omega)]; omega
    rw [F157b0]
    cases k with
    | zero =>
      have hlt : ¬ ((at_ + n : Nat) : Int) < (s.length : Int) := by omega
      simp only [e0,e1,e6,e7,hw,hlt,frV,fxa,fxc,fxE,fxL,fxI,nxE,evO,evR,cellsT,ldCells,mkT,lenA,binPV,Env.init,resV,resT,frT,klT,ownT,intT,O.adds,ownA,rowsA,over,wrOk,keysT,keysA,ne_eq,if_true,if_false,ite_self,Nat.reduceLT,Nat.reduceSub,Nat.reduceBEq,Nat.reduceEqDiff,Nat.reduceAdd,Nat.reduceLeDiff,reduceCtorEq,Nat.reduceMul]
      exact ⟨n,b,rfl,by omega⟩
    | succ k =>
      have hlt : ((at_ + n : Nat) : Int) < (s.length : Int) := by omega
      have h0 : (0 : Int) ≤ ((at_ + n : Nat) : Int) := by omega
      obtain ⟨c,hc⟩ : ∃ c,s[at_ + n]? = some c := ⟨_,List.getElem?_eq_getElem (by omega)⟩
      obtain ⟨r,hr,q,rfl,hq0,hq4⟩ := class_ex (c.toNat : Int)
      simp only [e0,e1,e6,e7,hw,hlt,h0,Int.toNat_natCast,hc,hr,fxa,fxc,fxE,fxL,fxI,nxE,evO,evR,cellsT,ldCells,mkT,lenA,binPV,Env.init,resV,resT,frT,klT,ownT,intT,O.adds,ownA,rowsA,over,wrOk,keysT,keysA,ne_eq,if_true,if_false,ite_self,Nat.reduceLT,Nat.reduceSub,Nat.reduceBEq,Nat.reduceEqDiff,Nat.reduceAdd,Nat.reduceLeDiff,reduceCtorEq,Nat.reduceMul]
      iterate 3
        all_goals try (first
          | (refine wpX_bsplit (fun h => ?_) (fun h => ?_) <;> simp only [h,e0,e1,e6,e7,frV,fxa,fxc,fxE,fxL,fxI,nxE,evO,evR,cellsT,ldCells,mkT,lenA,binPV,Env.init,resV,resT,frT,klT,ownT,intT,O.adds,ownA,rowsA,over,wrOk,keysT,keysA,ne_eq,if_true,if_false,ite_self,Nat.reduceLT,Nat.reduceSub,Nat.reduceBEq,Nat.reduceEqDiff,Nat.reduceAdd,Nat.reduceLeDiff,reduceCtorEq,Nat.reduceMul])
          | (refine wpC_split (fun h => ?_) (fun h => ?_) <;> simp only [h,e0,e1,e6,e7,frV,fxa,fxc,fxE,fxL,fxI,nxE,evO,evR,cellsT,ldCells,mkT,lenA,binPV,Env.init,resV,resT,frT,klT,ownT,intT,O.adds,ownA,rowsA,over,wrOk,keysT,keysA,ne_eq,if_true,if_false,ite_self,Nat.reduceLT,Nat.reduceSub,Nat.reduceBEq,Nat.reduceEqDiff,Nat.reduceAdd,Nat.reduceLeDiff,reduceCtorEq,Nat.reduceMul]))
      all_goals first
        | exact ⟨n,b,rfl,by omega⟩
        | exact ⟨k,by omega,n + 1,_,by rw [wrap_succ n (by omega)],rfl,by omega⟩
  all_goals simp only [fxa,fxc,fxE,fxL,fxI,nxE,evO,evR,cellsT,ldCells,mkT,lenA,binPV,Env.init,resV,resT,frT,klT,ownT,intT,O.adds,ownA,rowsA,over,wrOk,keysT,keysA,ne_eq,if_true,if_false,ite_self,Nat.reduceLT,Nat.reduceSub,Nat.reduceBEq,Nat.reduceEqDiff,Nat.reduceAdd,Nat.reduceLeDiff,reduceCtorEq,Nat.reduceMul]
  all_goals rfl
theorem number_ex (s : List UInt8) (hs : s.length ≤ reachBytes) : ∃ r,eP S 160 [.a (.s s)] = some r ∧ ∃ n,r = .a (.i .i64 n) := by
  refine x_fnE (orcS (by decide)) (fc := F160) rfl rfl ?_
  simp only [F160,fxa,fxc,fxE,fxL,fxI,nxE,evO,evR,cellsT,ldCells,mkT,lenA,binPV,Env.init,resV,resT,frT,klT,ownT,intT,O.adds,ownA,rowsA,over,wrOk,keysT,keysA,ne_eq,if_true,if_false,ite_self,Nat.reduceLT,Nat.reduceSub,Nat.reduceBEq,Nat.reduceEqDiff,Nat.reduceAdd,Nat.reduceLeDiff,reduceCtorEq,Nat.reduceMul]
  have hsl : s.length ≤ 140737488351232 := by simpa only [reachBytes] using hs
  refine wp_loop_ind (fun k e σ => e 0 = .a (.p (.s s)) ∧ ∃ (i : Nat) (n : Int),e 4 = .a (.p (.i .i64 i)) ∧ e 3 = .a (.p (.i .i64 n)) ∧ i + k = s.length) ?_ s.length _ _ ⟨?_,0,0,?_,?_,by omega⟩
  · rintro k e σ ⟨e0,i,n,e4,e3,hk⟩
    rw [F160b0]
    cases k with
    | zero =>
      have hlt : ¬ (i : Int) < (s.length : Int) := by omega
      simp only [e0,e3,e4,hlt,fxa,fxc,fxE,fxL,fxI,nxE,evO,evR,cellsT,ldCells,mkT,lenA,binPV,Env.init,resV,resT,frT,klT,ownT,intT,O.adds,ownA,rowsA,over,wrOk,keysT,keysA,ne_eq,if_true,if_false,ite_self,Nat.reduceLT,Nat.reduceSub,Nat.reduceBEq,Nat.reduceEqDiff,Nat.reduceAdd,Nat.reduceLeDiff,reduceCtorEq,Nat.reduceMul]
      exact ⟨n,rfl⟩
    | succ k =>
      have hlt : (i : Int) < (s.length : Int) := by omega
      have h0 : (0 : Int) ≤ (i : Int) := by omega
      obtain ⟨c,hc⟩ : ∃ c,s[i]? = some c := ⟨_,List.getElem?_eq_getElem (by omega)⟩
      simp only [e0,e3,e4,hlt,h0,Int.toNat_natCast,hc,fxa,fxc,fxE,fxL,fxI,nxE,evO,evR,cellsT,ldCells,mkT,lenA,binPV,Env.init,resV,resT,frT,klT,ownT,intT,O.adds,ownA,rowsA,over,wrOk,keysT,keysA,ne_eq,if_true,if_false,ite_self,Nat.reduceLT,Nat.reduceSub,Nat.reduceBEq,Nat.reduceEqDiff,Nat.reduceAdd,Nat.reduceLeDiff,reduceCtorEq,Nat.reduceMul]
      exact ⟨k,by omega,i + 1,_,by rw [wrap_succ i (by omega)],rfl,by omega⟩
  all_goals simp only [fxa,fxc,fxE,fxL,fxI,nxE,evO,evR,cellsT,ldCells,mkT,lenA,binPV,Env.init,resV,resT,frT,klT,ownT,intT,O.adds,ownA,rowsA,over,wrOk,keysT,keysA,ne_eq,if_true,if_false,ite_self,Nat.reduceLT,Nat.reduceSub,Nat.reduceBEq,Nat.reduceEqDiff,Nat.reduceAdd,Nat.reduceLeDiff,reduceCtorEq,Nat.reduceMul]
  all_goals rfl
theorem sign_ex (s : List UInt8) (at_ : Nat) (hs : s.length ≤ reachBytes) (ha : at_ < s.length) : ∃ r,eP S 158 [.a (.s s),.a (.i .i64 at_)] = some r ∧ ∃ n : Nat,r = .a (.i .i64 n) ∧ at_ + n ≤ s.length := by
  refine x_fnE (orcS (by decide)) (fc := F158) rfl rfl ?_
  have hsl : s.length ≤ 140737488351232 := by simpa only [reachBytes] using hs
  obtain ⟨c,hc⟩ : ∃ c,s[at_]? = some c := ⟨_,List.getElem?_eq_getElem ha⟩
  have h0 : (0 : Int) ≤ (at_ : Int) := by omega
  have hw1 : IntKind.i64.wrap ((at_ : Int) + 1) = ((at_ + 1 : Nat) : Int) := wrap_succ at_ (by omega)
  have hw2 : IntKind.i64.wrap ((at_ : Int) + 2) = ((at_ + 2 : Nat) : Int) := by rw [wrap_in _ (by omega)]; omega
  have loop : ∀ (e : Env) (σ : St),e 0 = .a (.p (.s s)) → e 1 = .a (.p (.i .i64 at_)) → e 5 = .a (.p (.i .i64 0)) →
      wp S false (.loop F158b0) e σ (blkQ 0 (seqQ S false ((C.reg [⟨some 4,none,.mv (.c (.a (.p (.i .i64 0)))),.any⟩]).seq C.ret) (RetE [Rs.tmp 4] fun r => ∃ n : Nat,r = .a (.i .i64 n) ∧ at_ + n ≤ s.length))) := by
    intro e σ e0 e1 e5
    refine wp_loop_ind (fun k e σ => e 0 = .a (.p (.s s)) ∧ e 1 = .a (.p (.i .i64 at_)) ∧ ∃ i : Nat,e 5 = .a (.p (.i .i64 i)) ∧ i + k = 13) ?_ 13 _ _ ⟨e0,e1,0,e5,rfl⟩
    rintro k e σ ⟨e0,e1,i,e5,hk⟩
    rw [F158b0]
    cases k with
    | zero =>
      have hlt : ¬ (i : Int) < 13 := by omega
      simp only [e0,e1,e5,hlt,fxa,fxc,fxE,fxL,fxI,nxE,evO,evR,cellsT,ldCells,mkT,lenA,binPV,Env.init,resV,resT,frT,klT,ownT,intT,O.adds,ownA,rowsA,over,wrOk,keysT,keysA,ne_eq,if_true,if_false,ite_self,Nat.reduceLT,Nat.reduceSub,Nat.reduceBEq,Nat.reduceEqDiff,Nat.reduceAdd,Nat.reduceLeDiff,reduceCtorEq,Nat.reduceMul]
      exact ⟨0,rfl,by omega⟩
    | succ k =>
      have hlt : (i : Int) < 13 := by omega
      have hi0 : (0 : Int) ≤ (i : Int) := by omega
      obtain ⟨d,hd⟩ : ∃ d,([92,46,40,41,61,123,125,124,43,45,42,47,60] : List UInt8)[i]? = some d := ⟨_,List.getElem?_eq_getElem (by simp; omega)⟩
      simp only [e0,e1,e5,hlt,hi0,h0,Int.toNat_natCast,hc,hd,fxa,fxc,fxE,fxL,fxI,nxE,evO,evR,cellsT,ldCells,mkT,lenA,binPV,Env.init,resV,resT,frT,klT,ownT,intT,O.adds,ownA,rowsA,over,wrOk,keysT,keysA,ne_eq,if_true,if_false,ite_self,Nat.reduceLT,Nat.reduceSub,Nat.reduceBEq,Nat.reduceEqDiff,Nat.reduceAdd,Nat.reduceLeDiff,reduceCtorEq,Nat.reduceMul]
      refine wpC_split (fun h => ?_) (fun h => ?_) <;> simp only [h,e0,e1,e5,fxa,fxc,fxE,fxL,fxI,nxE,evO,evR,cellsT,ldCells,mkT,lenA,binPV,Env.init,resV,resT,frT,klT,ownT,intT,O.adds,ownA,rowsA,over,wrOk,keysT,keysA,ne_eq,if_true,if_false,ite_self,Nat.reduceLT,Nat.reduceSub,Nat.reduceBEq,Nat.reduceEqDiff,Nat.reduceAdd,Nat.reduceLeDiff,reduceCtorEq,Nat.reduceMul]
      · exact ⟨1,rfl,by omega⟩
      · exact ⟨k,by omega,i + 1,by rw [wrap_succ i (by omega)],by omega⟩
  simp only [F158,hw1,hw2,fxa,fxc,fxE,fxL,fxI,nxE,evO,evR,cellsT,ldCells,mkT,lenA,binPV,Env.init,resV,resT,frT,klT,ownT,intT,O.adds,ownA,rowsA,over,wrOk,keysT,keysA,ne_eq,if_true,if_false,ite_self,Nat.reduceLT,Nat.reduceSub,Nat.reduceBEq,Nat.reduceEqDiff,Nat.reduceAdd,Nat.reduceLeDiff,reduceCtorEq,Nat.reduceMul]
  refine wpX_bsplit (fun h => ?_) (fun h => ?_)
  · have hlt : ((at_ + 1 : Nat) : Int) < (s.length : Int) := by simpa using h
    have hle : ((at_ + 2 : Nat) : Int) ≤ (s.length : Int) := by omega
    have hle2 : (at_ : Int) ≤ ((at_ + 2 : Nat) : Int) := by omega
    simp only [h,optInt,hw1,hw2,h0,hle,hle2,fxa,fxc,fxE,fxL,fxI,nxE,evO,evR,cellsT,ldCells,mkT,lenA,binPV,Env.init,resV,resT,frT,klT,ownT,intT,O.adds,ownA,rowsA,over,wrOk,keysT,keysA,ne_eq,if_true,if_false,ite_self,Nat.reduceLT,Nat.reduceSub,Nat.reduceBEq,Nat.reduceEqDiff,Nat.reduceAdd,Nat.reduceLeDiff,reduceCtorEq,Nat.reduceMul]
    refine wpX_bsplit (fun h2 => ?_) (fun h2 => ?_) <;> simp only [h,h2,optInt,hw1,hw2,h0,hle,hle2,fxa,fxc,fxE,fxL,fxI,nxE,evO,evR,cellsT,ldCells,mkT,lenA,binPV,Env.init,resV,resT,frT,klT,ownT,intT,O.adds,ownA,rowsA,over,wrOk,keysT,keysA,ne_eq,if_true,if_false,ite_self,Nat.reduceLT,Nat.reduceSub,Nat.reduceBEq,Nat.reduceEqDiff,Nat.reduceAdd,Nat.reduceLeDiff,reduceCtorEq,Nat.reduceMul]
    · refine wpC_split (fun h3 => ?_) (fun h3 => ?_) <;> simp only [h,h2,h3,fxa,fxc,fxE,fxL,fxI,nxE,evO,evR,cellsT,ldCells,mkT,lenA,binPV,Env.init,resV,resT,frT,klT,ownT,intT,O.adds,ownA,rowsA,over,wrOk,keysT,keysA,ne_eq,if_true,if_false,ite_self,Nat.reduceLT,Nat.reduceSub,Nat.reduceBEq,Nat.reduceEqDiff,Nat.reduceAdd,Nat.reduceLeDiff,reduceCtorEq,Nat.reduceMul]
      · exact ⟨2,rfl,by omega⟩
      · exact loop _ _ (by simp only [fxa,fxc,fxE,fxL,fxI,nxE,evO,evR,cellsT,ldCells,mkT,lenA,binPV,Env.init,resV,resT,frT,klT,ownT,intT,O.adds,ownA,rowsA,over,wrOk,keysT,keysA,ne_eq,if_true,if_false,ite_self,Nat.reduceLT,Nat.reduceSub,Nat.reduceBEq,Nat.reduceEqDiff,Nat.reduceAdd,Nat.reduceLeDiff,reduceCtorEq,Nat.reduceMul]) (by simp only [fxa,fxc,fxE,fxL,fxI,nxE,evO,evR,cellsT,ldCells,mkT,lenA,binPV,Env.init,resV,resT,frT,klT,ownT,intT,O.adds,ownA,rowsA,over,wrOk,keysT,keysA,ne_eq,if_true,if_false,ite_self,Nat.reduceLT,Nat.reduceSub,Nat.reduceBEq,Nat.reduceEqDiff,Nat.reduceAdd,Nat.reduceLeDiff,reduceCtorEq,Nat.reduceMul]) (by simp only [fxa,fxc,fxE,fxL,fxI,nxE,evO,evR,cellsT,ldCells,mkT,lenA,binPV,Env.init,resV,resT,frT,klT,ownT,intT,O.adds,ownA,rowsA,over,wrOk,keysT,keysA,ne_eq,if_true,if_false,ite_self,Nat.reduceLT,Nat.reduceSub,Nat.reduceBEq,Nat.reduceEqDiff,Nat.reduceAdd,Nat.reduceLeDiff,reduceCtorEq,Nat.reduceMul])
    · exact ⟨2,rfl,by omega⟩
  · simp only [h,fxa,fxc,fxE,fxL,fxI,nxE,evO,evR,cellsT,ldCells,mkT,lenA,binPV,Env.init,resV,resT,frT,klT,ownT,intT,O.adds,ownA,rowsA,over,wrOk,keysT,keysA,ne_eq,if_true,if_false,ite_self,Nat.reduceLT,Nat.reduceSub,Nat.reduceBEq,Nat.reduceEqDiff,Nat.reduceAdd,Nat.reduceLeDiff,reduceCtorEq,Nat.reduceMul]
    exact loop _ _ (by simp only [fxa,fxc,fxE,fxL,fxI,nxE,evO,evR,cellsT,ldCells,mkT,lenA,binPV,Env.init,resV,resT,frT,klT,ownT,intT,O.adds,ownA,rowsA,over,wrOk,keysT,keysA,ne_eq,if_true,if_false,ite_self,Nat.reduceLT,Nat.reduceSub,Nat.reduceBEq,Nat.reduceEqDiff,Nat.reduceAdd,Nat.reduceLeDiff,reduceCtorEq,Nat.reduceMul]) (by simp only [fxa,fxc,fxE,fxL,fxI,nxE,evO,evR,cellsT,ldCells,mkT,lenA,binPV,Env.init,resV,resT,frT,klT,ownT,intT,O.adds,ownA,rowsA,over,wrOk,keysT,keysA,ne_eq,if_true,if_false,ite_self,Nat.reduceLT,Nat.reduceSub,Nat.reduceBEq,Nat.reduceEqDiff,Nat.reduceAdd,Nat.reduceLeDiff,reduceCtorEq,Nat.reduceMul]) (by simp only [fxa,fxc,fxE,fxL,fxI,nxE,evO,evR,cellsT,ldCells,mkT,lenA,binPV,Env.init,resV,resT,frT,klT,ownT,intT,O.adds,ownA,rowsA,over,wrOk,keysT,keysA,ne_eq,if_true,if_false,ite_self,Nat.reduceLT,Nat.reduceSub,Nat.reduceBEq,Nat.reduceEqDiff,Nat.reduceAdd,Nat.reduceLeDiff,reduceCtorEq,Nat.reduceMul])
def TokenP (r : PT) : Prop := ∃ (k : Int) (x : List UInt8) (n a e : Int),r = .t [(true,[.i .i64 k,.s x,.i .i64 n,.i .i64 a]),(false,[.i .i64 e])]
theorem one_ex (s : List UInt8) (at_ : Nat) (hs : s.length ≤ reachBytes) (ha : at_ < s.length) : ∃ r,eP S 143 [.a (.s s),.a (.i .i64 at_)] = some r ∧ TokenP r := by
  have hsl : s.length ≤ 140737488351232 := by simpa only [reachBytes] using hs
  obtain ⟨c,hc⟩ : ∃ c,s[at_]? = some c := ⟨_,List.getElem?_eq_getElem ha⟩
  have h0 : (0 : Int) ≤ (at_ : Int) := by omega
  obtain ⟨_,hrun,n,b,rfl,hn⟩ := run_ex s at_ hs (by omega)
  obtain ⟨_,hsign,m,rfl,hm⟩ := sign_ex s at_ hs ha
  obtain ⟨_,hclass,q,rfl,hq0,hq4⟩ := class_ex (c.toNat : Int)
  have hwn : IntKind.i64.wrap ((at_ : Int) + (n : Int)) = ((at_ + n : Nat) : Int) := by rw [wrap_in _ (by omega)]; omega
  have hwm : IntKind.i64.wrap ((at_ : Int) + (m : Int)) = ((at_ + m : Nat) : Int) := by rw [wrap_in _ (by omega)]; omega
  have l1 : (at_ : Int) ≤ ((at_ + n : Nat) : Int) := by omega
  have l2 : ((at_ + n : Nat) : Int) ≤ (s.length : Int) := by omega
  have l3 : (at_ : Int) ≤ ((at_ + m : Nat) : Int) := by omega
  have l4 : ((at_ + m : Nat) : Int) ≤ (s.length : Int) := by omega
  obtain ⟨x,hx⟩ : ∃ x,x = (s.drop at_).take (at_ + n - at_) := ⟨_,rfl⟩
  have hxl : x.length ≤ reachBytes := by rw [hx]; simp only [List.length_take,List.length_drop]; omega
  obtain ⟨_,hnum,z,rfl⟩ := number_ex x hxl
  obtain ⟨_,hword,y,rfl⟩ := word_ok x
  refine x_fnE (orcS (by decide)) (fc := F143) rfl rfl ?_
  simp only [F143,hrun,hsign,hclass,hnum,hword,hwn,hwm,l1,l2,l3,l4,h0,hc,optInt,← hx,Int.toNat_natCast,frV,List.getElem?_cons_zero,List.getElem?_cons_succ,fxa,fxc,fxE,fxL,fxI,nxE,evO,evR,cellsT,ldCells,mkT,lenA,binPV,Env.init,resV,resT,frT,klT,ownT,intT,O.adds,ownA,rowsA,over,wrOk,keysT,keysA,ne_eq,if_true,if_false,ite_self,Nat.reduceLT,Nat.reduceSub,Nat.reduceBEq,Nat.reduceEqDiff,Nat.reduceAdd,Nat.reduceLeDiff,reduceCtorEq,Nat.reduceMul]
  iterate 9
    all_goals try (first
      | (refine wpX_bsplit (fun h => ?_) (fun h => ?_) <;> simp only [h,hrun,hsign,hclass,hnum,hword,hwn,hwm,l1,l2,l3,l4,h0,hc,optInt,← hx,Int.toNat_natCast,frV,List.getElem?_cons_zero,List.getElem?_cons_succ,fxa,fxc,fxE,fxL,fxI,nxE,evO,evR,cellsT,ldCells,mkT,lenA,binPV,Env.init,resV,resT,frT,klT,ownT,intT,O.adds,ownA,rowsA,over,wrOk,keysT,keysA,ne_eq,if_true,if_false,ite_self,Nat.reduceLT,Nat.reduceSub,Nat.reduceBEq,Nat.reduceEqDiff,Nat.reduceAdd,Nat.reduceLeDiff,reduceCtorEq,Nat.reduceMul])
      | (refine wpC_split (fun h => ?_) (fun h => ?_) <;> simp only [h,hrun,hsign,hclass,hnum,hword,hwn,hwm,l1,l2,l3,l4,h0,hc,optInt,← hx,Int.toNat_natCast,frV,List.getElem?_cons_zero,List.getElem?_cons_succ,fxa,fxc,fxE,fxL,fxI,nxE,evO,evR,cellsT,ldCells,mkT,lenA,binPV,Env.init,resV,resT,frT,klT,ownT,intT,O.adds,ownA,rowsA,over,wrOk,keysT,keysA,ne_eq,if_true,if_false,ite_self,Nat.reduceLT,Nat.reduceSub,Nat.reduceBEq,Nat.reduceEqDiff,Nat.reduceAdd,Nat.reduceLeDiff,reduceCtorEq,Nat.reduceMul]))
  all_goals first
    | exact ⟨_,_,_,_,_,rfl⟩
theorem con_ex (s : List UInt8) (hs : s.length ≤ reachBytes) : ∃ r,eP S 116 [.a (.s s)] = some r ∧ ∃ b,r = .a (.b b) := by
  refine x_fnE (orcS (by decide)) (fc := F116) rfl rfl ?_
  simp only [F116,fxa,fxc,fxE,fxL,fxI,nxE,evO,evR,cellsT,ldCells,mkT,lenA,binPV,Env.init,resV,resT,frT,klT,ownT,intT,O.adds,ownA,rowsA,over,wrOk,keysT,keysA,ne_eq,if_true,if_false,ite_self,Nat.reduceLT,Nat.reduceSub,Nat.reduceBEq,Nat.reduceEqDiff,Nat.reduceAdd,Nat.reduceLeDiff,reduceCtorEq,Nat.reduceMul]
  refine wpC_split (fun h => ?_) (fun h => ?_)
  · simp only [h,fxa,fxc,fxE,fxL,fxI,nxE,evO,evR,cellsT,ldCells,mkT,lenA,binPV,Env.init,resV,resT,frT,klT,ownT,intT,O.adds,ownA,rowsA,over,wrOk,keysT,keysA,ne_eq,if_true,if_false,ite_self,Nat.reduceLT,Nat.reduceSub,Nat.reduceBEq,Nat.reduceEqDiff,Nat.reduceAdd,Nat.reduceLeDiff,reduceCtorEq,Nat.reduceMul]; exact ⟨_,rfl⟩
  · have hne : 0 < s.length := by
      have : s ≠ [] := by simpa using h
      exact List.length_pos_iff.2 this
    obtain ⟨_,hone,k,x,n,a,e,rfl⟩ := one_ex s 0 hs hne
    have hone' : eP S 143 [.a (.s s),.a (.i .i64 0)] = some (.t [(true,[.i .i64 k,.s x,.i .i64 n,.i .i64 a]),(false,[.i .i64 e])]) := hone
    simp only [h,hone',List.getElem?_cons_zero,List.getElem?_cons_succ,fxa,fxc,fxE,fxL,fxI,nxE,evO,evR,cellsT,ldCells,mkT,lenA,binPV,Env.init,resV,resT,frT,klT,ownT,intT,O.adds,ownA,rowsA,over,wrOk,keysT,keysA,ne_eq,if_true,if_false,ite_self,Nat.reduceLT,Nat.reduceSub,Nat.reduceBEq,Nat.reduceEqDiff,Nat.reduceAdd,Nat.reduceLeDiff,reduceCtorEq,Nat.reduceMul]
    iterate 3
      all_goals try (first
        | (refine wpX_bsplit (fun h => ?_) (fun h => ?_) <;> simp only [h,List.getElem?_cons_zero,List.getElem?_cons_succ,fxa,fxc,fxE,fxL,fxI,nxE,evO,evR,cellsT,ldCells,mkT,lenA,binPV,Env.init,resV,resT,frT,klT,ownT,intT,O.adds,ownA,rowsA,over,wrOk,keysT,keysA,ne_eq,if_true,if_false,ite_self,Nat.reduceLT,Nat.reduceSub,Nat.reduceBEq,Nat.reduceEqDiff,Nat.reduceAdd,Nat.reduceLeDiff,reduceCtorEq,Nat.reduceMul])
        | (refine wpC_split (fun h => ?_) (fun h => ?_) <;> simp only [h,fxa,fxc,fxE,fxL,fxI,nxE,evO,evR,cellsT,ldCells,mkT,lenA,binPV,Env.init,resV,resT,frT,klT,ownT,intT,O.adds,ownA,rowsA,over,wrOk,keysT,keysA,ne_eq,if_true,if_false,ite_self,Nat.reduceLT,Nat.reduceSub,Nat.reduceBEq,Nat.reduceEqDiff,Nat.reduceAdd,Nat.reduceLeDiff,reduceCtorEq,Nat.reduceMul]))
    all_goals first
      | exact ⟨_,rfl⟩
noncomputable def con (s : List UInt8) : Bool := if h : s.length ≤ reachBytes then Classical.choose (Classical.choose_spec (con_ex s h)).2 else false
theorem con_ok (s : List UInt8) (h : s.length ≤ reachBytes) : eP S 116 [.a (.s s)] = some (.a (.b (con s))) := by
  have h1 := (Classical.choose_spec (con_ex s h)).1
  have h2 := Classical.choose_spec (Classical.choose_spec (con_ex s h)).2
  have h3 : con s = Classical.choose (Classical.choose_spec (con_ex s h)).2 := dif_pos h
  rw [h3,← h2]; exact h1
def isOp (s : List UInt8) : Bool := decide (s = [43]) || decide (s = [45]) || decide (s = [42]) || decide (s = [47]) || decide (s = [60]) || decide (s = [61,61])
noncomputable def headC (k n : Int) (s : List UInt8) (len : Int) (free : Int) (alt : Bool) : Bool :=
  if alt then decide (k = 6) && con s && decide (n ≥ 0) && decide (n ≤ 8) && decide (len = 1)
  else if k = 1 then decide (s = []) && decide (len = 0) && decide (n ≥ 0) && decide (n < free)
  else if k = 2 then decide (s = []) && decide (n = 0) && decide (len = 1)
  else if k = 3 then decide (s = []) && decide (n = 0) && decide (len = 2)
  else if k = 4 then con s && decide (n = 0) && decide (len ≤ 8)
  else if k = 5 then decide (s = []) && decide (n = 0) && decide (len ≥ 2) && decide (len ≤ 9)
  else if k = 7 then decide (s = []) && decide (len = 0)
  else if k = 8 then isOp s && decide (n = 0) && decide (len = 2)
  else if k = 9 then decide (s = []) && decide (n = 0) && decide (len = 0)
  else false
noncomputable def head (t : T) (free : Int) (alt : Bool) : Bool := headC t.k t.n t.s t.l.length free alt
def HeadM (free : Int) (alt : Bool) (k n : Int) (s : List UInt8) (l : List T) (e : Env) (σ : St) : Prop :=
  e 1 = .a (.p (.i .i64 free)) ∧ e 2 = .a (.p (.b alt)) ∧ e 3 = .a (.ptr (3,0) 0 0) ∧ σ.bs (3,0) = some (.var [.p (.i .i64 k),.p (.i .i64 n),.p (.s s),.p (.l (l.map enc))])
theorem head_ok {t : T} (ht : T.Ok t) (free : Int) (alt : Bool) : eP S 81 [.g (enc t),.a (.i .i64 free),.a (.b alt)] = some (.a (.b (head t free alt))) := by
  cases ht with
  | mk k n s l hk hn hs hl h =>
    have hc := con_ok s hs
    have e0 : head (.mk k n s l) free alt = headC k n s l.length free alt := rfl
    rw [e0]
    refine x_fn (orcS (by decide)) (fc := F81) rfl rfl ?_
    unfold F81
    simp only [enc,encL_map,List.map_cons,List.map_nil,ofPT_g,ofPT_a]
    refine x_cut (HeadM free alt k n s l) ?_ fun e σ hM => ?_
    · simp only [fxa,fxc,fxE,fxL,fxI,nxE,evO,evR,cellsT,ldCells,mkT,lenA,binPV,Env.init,resV,resT,frT,klT,ownT,intT,O.adds,ownA,rowsA,over,wrOk,keysT,keysA,ne_eq,if_true,if_false,ite_self,Nat.reduceLT,Nat.reduceSub,Nat.reduceBEq,Nat.reduceEqDiff,Nat.reduceAdd,Nat.reduceLeDiff,reduceCtorEq,Nat.reduceMul]
      exact ⟨by simp only [fxa,fxc,fxE,fxL,fxI,nxE,evO,evR,cellsT,ldCells,mkT,lenA,binPV,Env.init,resV,resT,frT,klT,ownT,intT,O.adds,ownA,rowsA,over,wrOk,keysT,keysA,ne_eq,if_true,if_false,ite_self,Nat.reduceLT,Nat.reduceSub,Nat.reduceBEq,Nat.reduceEqDiff,Nat.reduceAdd,Nat.reduceLeDiff,reduceCtorEq,Nat.reduceMul],by simp only [fxa,fxc,fxE,fxL,fxI,nxE,evO,evR,cellsT,ldCells,mkT,lenA,binPV,Env.init,resV,resT,frT,klT,ownT,intT,O.adds,ownA,rowsA,over,wrOk,keysT,keysA,ne_eq,if_true,if_false,ite_self,Nat.reduceLT,Nat.reduceSub,Nat.reduceBEq,Nat.reduceEqDiff,Nat.reduceAdd,Nat.reduceLeDiff,reduceCtorEq,Nat.reduceMul],by simp only [fxa,fxc,fxE,fxL,fxI,nxE,evO,evR,cellsT,ldCells,mkT,lenA,binPV,Env.init,resV,resT,frT,klT,ownT,intT,O.adds,ownA,rowsA,over,wrOk,keysT,keysA,ne_eq,if_true,if_false,ite_self,Nat.reduceLT,Nat.reduceSub,Nat.reduceBEq,Nat.reduceEqDiff,Nat.reduceAdd,Nat.reduceLeDiff,reduceCtorEq,Nat.reduceMul],by simp only [fxa,fxc,fxE,fxL,fxI,nxE,evO,evR,cellsT,ldCells,mkT,lenA,binPV,Env.init,resV,resT,frT,klT,ownT,intT,O.adds,ownA,rowsA,over,wrOk,keysT,keysA,ne_eq,if_true,if_false,ite_self,Nat.reduceLT,Nat.reduceSub,Nat.reduceBEq,Nat.reduceEqDiff,Nat.reduceAdd,Nat.reduceLeDiff,reduceCtorEq,Nat.reduceMul]⟩
    obtain ⟨e1,e2,e3,h3⟩ := hM
    refine x_cut (fun e σ => HeadM free alt k n s l e σ ∧ e 7 = .a (.p (.i .i64 l.length))) ?_ fun e' σ' hM => ?_
    · simp only [e1,e2,e3,h3,fxa,fxc,fxE,fxL,fxI,nxE,evO,evR,cellsT,ldCells,mkT,lenA,binPV,Env.init,resV,resT,frT,klT,ownT,intT,O.adds,ownA,rowsA,over,wrOk,keysT,keysA,ne_eq,if_true,if_false,ite_self,Nat.reduceLT,Nat.reduceSub,Nat.reduceBEq,Nat.reduceEqDiff,Nat.reduceAdd,Nat.reduceLeDiff,reduceCtorEq,Nat.reduceMul]
      exact ⟨by simp only [e1,fxa,fxc,fxE,fxL,fxI,nxE,evO,evR,cellsT,ldCells,mkT,lenA,binPV,Env.init,resV,resT,frT,klT,ownT,intT,O.adds,ownA,rowsA,over,wrOk,keysT,keysA,ne_eq,if_true,if_false,ite_self,Nat.reduceLT,Nat.reduceSub,Nat.reduceBEq,Nat.reduceEqDiff,Nat.reduceAdd,Nat.reduceLeDiff,reduceCtorEq,Nat.reduceMul],by simp only [e2,fxa,fxc,fxE,fxL,fxI,nxE,evO,evR,cellsT,ldCells,mkT,lenA,binPV,Env.init,resV,resT,frT,klT,ownT,intT,O.adds,ownA,rowsA,over,wrOk,keysT,keysA,ne_eq,if_true,if_false,ite_self,Nat.reduceLT,Nat.reduceSub,Nat.reduceBEq,Nat.reduceEqDiff,Nat.reduceAdd,Nat.reduceLeDiff,reduceCtorEq,Nat.reduceMul],by simp only [e3,fxa,fxc,fxE,fxL,fxI,nxE,evO,evR,cellsT,ldCells,mkT,lenA,binPV,Env.init,resV,resT,frT,klT,ownT,intT,O.adds,ownA,rowsA,over,wrOk,keysT,keysA,ne_eq,if_true,if_false,ite_self,Nat.reduceLT,Nat.reduceSub,Nat.reduceBEq,Nat.reduceEqDiff,Nat.reduceAdd,Nat.reduceLeDiff,reduceCtorEq,Nat.reduceMul],by simp only [h3,fxa,fxc,fxE,fxL,fxI,nxE,evO,evR,cellsT,ldCells,mkT,lenA,binPV,Env.init,resV,resT,frT,klT,ownT,intT,O.adds,ownA,rowsA,over,wrOk,keysT,keysA,ne_eq,if_true,if_false,ite_self,Nat.reduceLT,Nat.reduceSub,Nat.reduceBEq,Nat.reduceEqDiff,Nat.reduceAdd,Nat.reduceLeDiff,reduceCtorEq,Nat.reduceMul]⟩
    clear e1 e2 e3 h3
    obtain ⟨⟨e1,e2,e3,h3⟩,e7⟩ := hM
    refine x_cut (fun e σ => HeadM free alt k n s l e σ ∧ e 7 = .a (.p (.i .i64 l.length)) ∧ e 8 = .a (.p (.b (isOp s)))) ?_ fun e'' σ'' hM => ?_
    · simp only [e1,e2,e3,e7,h3,fxa,fxc,fxE,fxL,fxI,nxE,evO,evR,cellsT,ldCells,mkT,lenA,binPV,Env.init,resV,resT,frT,klT,ownT,intT,O.adds,ownA,rowsA,over,wrOk,keysT,keysA,ne_eq,if_true,if_false,ite_self,Nat.reduceLT,Nat.reduceSub,Nat.reduceBEq,Nat.reduceEqDiff,Nat.reduceAdd,Nat.reduceLeDiff,reduceCtorEq,Nat.reduceMul]
      iterate 5
        all_goals try (refine wpX_bsplit (fun h => ?_) (fun h => ?_) <;> simp only [h,e1,e2,e3,e7,h3,fxa,fxc,fxE,fxL,fxI,nxE,evO,evR,cellsT,ldCells,mkT,lenA,binPV,Env.init,resV,resT,frT,klT,ownT,intT,O.adds,ownA,rowsA,over,wrOk,keysT,keysA,ne_eq,if_true,if_false,ite_self,Nat.reduceLT,Nat.reduceSub,Nat.reduceBEq,Nat.reduceEqDiff,Nat.reduceAdd,Nat.reduceLeDiff,reduceCtorEq,Nat.reduceMul])
      all_goals refine ⟨⟨by simp only [e1,fxa,fxc,fxE,fxL,fxI,nxE,evO,evR,cellsT,ldCells,mkT,lenA,binPV,Env.init,resV,resT,frT,klT,ownT,intT,O.adds,ownA,rowsA,over,wrOk,keysT,keysA,ne_eq,if_true,if_false,ite_self,Nat.reduceLT,Nat.reduceSub,Nat.reduceBEq,Nat.reduceEqDiff,Nat.reduceAdd,Nat.reduceLeDiff,reduceCtorEq,Nat.reduceMul],by simp only [e2,fxa,fxc,fxE,fxL,fxI,nxE,evO,evR,cellsT,ldCells,mkT,lenA,binPV,Env.init,resV,resT,frT,klT,ownT,intT,O.adds,ownA,rowsA,over,wrOk,keysT,keysA,ne_eq,if_true,if_false,ite_self,Nat.reduceLT,Nat.reduceSub,Nat.reduceBEq,Nat.reduceEqDiff,Nat.reduceAdd,Nat.reduceLeDiff,reduceCtorEq,Nat.reduceMul],by simp only [e3,fxa,fxc,fxE,fxL,fxI,nxE,evO,evR,cellsT,ldCells,mkT,lenA,binPV,Env.init,resV,resT,frT,klT,ownT,intT,O.adds,ownA,rowsA,over,wrOk,keysT,keysA,ne_eq,if_true,if_false,ite_self,Nat.reduceLT,Nat.reduceSub,Nat.reduceBEq,Nat.reduceEqDiff,Nat.reduceAdd,Nat.reduceLeDiff,reduceCtorEq,Nat.reduceMul],by simp only [h3,fxa,fxc,fxE,fxL,fxI,nxE,evO,evR,cellsT,ldCells,mkT,lenA,binPV,Env.init,resV,resT,frT,klT,ownT,intT,O.adds,ownA,rowsA,over,wrOk,keysT,keysA,ne_eq,if_true,if_false,ite_self,Nat.reduceLT,Nat.reduceSub,Nat.reduceBEq,Nat.reduceEqDiff,Nat.reduceAdd,Nat.reduceLeDiff,reduceCtorEq,Nat.reduceMul]⟩,?_⟩
      all_goals simp only [isOp, *,fxa,fxc,fxE,fxL,fxI,nxE,evO,evR,cellsT,ldCells,mkT,lenA,binPV,Env.init,resV,resT,frT,klT,ownT,intT,O.adds,ownA,rowsA,over,wrOk,keysT,keysA,ne_eq,if_true,if_false,ite_self,Nat.reduceLT,Nat.reduceSub,Nat.reduceBEq,Nat.reduceEqDiff,Nat.reduceAdd,Nat.reduceLeDiff,reduceCtorEq,Nat.reduceMul]
    clear e1 e2 e3 e7 h3
    obtain ⟨⟨e1,e2,e3,h3⟩,e7,e8⟩ := hM
    refine x_cut (fun e σ => HeadM free alt k n s l e σ ∧ e 7 = .a (.p (.i .i64 l.length)) ∧ e 8 = .a (.p (.b (isOp s))) ∧ e 9 = .a (.p (.b (decide (s = []) && decide (n = 0))))) ?_ fun e3' σ3' hM => ?_
    · simp only [e1,e2,e3,e7,e8,h3,fxa,fxc,fxE,fxL,fxI,nxE,evO,evR,cellsT,ldCells,mkT,lenA,binPV,Env.init,resV,resT,frT,klT,ownT,intT,O.adds,ownA,rowsA,over,wrOk,keysT,keysA,ne_eq,if_true,if_false,ite_self,Nat.reduceLT,Nat.reduceSub,Nat.reduceBEq,Nat.reduceEqDiff,Nat.reduceAdd,Nat.reduceLeDiff,reduceCtorEq,Nat.reduceMul]
      refine wpX_bsplit (fun h => ?_) (fun h => ?_) <;> simp only [h,e1,e2,e3,e7,e8,h3,fxa,fxc,fxE,fxL,fxI,nxE,evO,evR,cellsT,ldCells,mkT,lenA,binPV,Env.init,resV,resT,frT,klT,ownT,intT,O.adds,ownA,rowsA,over,wrOk,keysT,keysA,ne_eq,if_true,if_false,ite_self,Nat.reduceLT,Nat.reduceSub,Nat.reduceBEq,Nat.reduceEqDiff,Nat.reduceAdd,Nat.reduceLeDiff,reduceCtorEq,Nat.reduceMul]
      all_goals refine ⟨by simp only [e1,fxa,fxc,fxE,fxL,fxI,nxE,evO,evR,cellsT,ldCells,mkT,lenA,binPV,Env.init,resV,resT,frT,klT,ownT,intT,O.adds,ownA,rowsA,over,wrOk,keysT,keysA,ne_eq,if_true,if_false,ite_self,Nat.reduceLT,Nat.reduceSub,Nat.reduceBEq,Nat.reduceEqDiff,Nat.reduceAdd,Nat.reduceLeDiff,reduceCtorEq,Nat.reduceMul],by simp only [e2,fxa,fxc,fxE,fxL,fxI,nxE,evO,evR,cellsT,ldCells,mkT,lenA,binPV,Env.init,resV,resT,frT,klT,ownT,intT,O.adds,ownA,rowsA,over,wrOk,keysT,keysA,ne_eq,if_true,if_false,ite_self,Nat.reduceLT,Nat.reduceSub,Nat.reduceBEq,Nat.reduceEqDiff,Nat.reduceAdd,Nat.reduceLeDiff,reduceCtorEq,Nat.reduceMul],by simp only [e3,fxa,fxc,fxE,fxL,fxI,nxE,evO,evR,cellsT,ldCells,mkT,lenA,binPV,Env.init,resV,resT,frT,klT,ownT,intT,O.adds,ownA,rowsA,over,wrOk,keysT,keysA,ne_eq,if_true,if_false,ite_self,Nat.reduceLT,Nat.reduceSub,Nat.reduceBEq,Nat.reduceEqDiff,Nat.reduceAdd,Nat.reduceLeDiff,reduceCtorEq,Nat.reduceMul],by simp only [h3,fxa,fxc,fxE,fxL,fxI,nxE,evO,evR,cellsT,ldCells,mkT,lenA,binPV,Env.init,resV,resT,frT,klT,ownT,intT,O.adds,ownA,rowsA,over,wrOk,keysT,keysA,ne_eq,if_true,if_false,ite_self,Nat.reduceLT,Nat.reduceSub,Nat.reduceBEq,Nat.reduceEqDiff,Nat.reduceAdd,Nat.reduceLeDiff,reduceCtorEq,Nat.reduceMul]⟩
    clear e1 e2 e3 e7 e8 h3
    obtain ⟨⟨e1,e2,e3,h3⟩,e7,e8,e9⟩ := hM
    cases alt with
    | true =>
      simp only [e1,e2,e3,e7,e8,e9,h3,hc,fxa,fxc,fxE,fxL,fxI,nxE,evO,evR,cellsT,ldCells,mkT,lenA,binPV,Env.init,resV,resT,frT,klT,ownT,intT,O.adds,ownA,rowsA,over,wrOk,keysT,keysA,ne_eq,if_true,if_false,ite_self,Nat.reduceLT,Nat.reduceSub,Nat.reduceBEq,Nat.reduceEqDiff,Nat.reduceAdd,Nat.reduceLeDiff,reduceCtorEq,Nat.reduceMul]
      iterate 5
        all_goals try (refine wpX_bsplit (fun h => ?_) (fun h => ?_) <;> simp only [h,e1,e2,e3,e7,e8,e9,h3,hc,fxa,fxc,fxE,fxL,fxI,nxE,evO,evR,cellsT,ldCells,mkT,lenA,binPV,Env.init,resV,resT,frT,klT,ownT,intT,O.adds,ownA,rowsA,over,wrOk,keysT,keysA,ne_eq,if_true,if_false,ite_self,Nat.reduceLT,Nat.reduceSub,Nat.reduceBEq,Nat.reduceEqDiff,Nat.reduceAdd,Nat.reduceLeDiff,reduceCtorEq,Nat.reduceMul])
      all_goals clear e1 e2 e3 e7 e8 e9 h3 hc hl hs hk hn
      all_goals simp only [Bool.not_eq_false',Bool.not_eq_true',Bool.not_false,Bool.not_true,decide_eq_true_eq,decide_eq_false_iff_not,Int.natCast_inj] at *
      all_goals (refine congrArg (fun z => some (PT.a (PV.b z))) (Bool.eq_iff_iff.2 ?_); simp_all [headC] <;> omega)
    | false =>
      simp only [e1,e2,e3,e7,e8,e9,h3,hc,fxa,fxc,fxE,fxL,fxI,nxE,evO,evR,cellsT,ldCells,mkT,lenA,binPV,Env.init,resV,resT,frT,klT,ownT,intT,O.adds,ownA,rowsA,over,wrOk,keysT,keysA,ne_eq,if_true,if_false,ite_self,Nat.reduceLT,Nat.reduceSub,Nat.reduceBEq,Nat.reduceEqDiff,Nat.reduceAdd,Nat.reduceLeDiff,reduceCtorEq,Nat.reduceMul]
      iterate 12
        all_goals try (first
          | (refine wpX_bsplit (fun h => ?_) (fun h => ?_) <;> simp only [h,e1,e2,e3,e7,e8,e9,h3,hc,fxa,fxc,fxE,fxL,fxI,nxE,evO,evR,cellsT,ldCells,mkT,lenA,binPV,Env.init,resV,resT,frT,klT,ownT,intT,O.adds,ownA,rowsA,over,wrOk,keysT,keysA,ne_eq,if_true,if_false,ite_self,Nat.reduceLT,Nat.reduceSub,Nat.reduceBEq,Nat.reduceEqDiff,Nat.reduceAdd,Nat.reduceLeDiff,reduceCtorEq,Nat.reduceMul])
          | (refine wpC_split (fun h => ?_) (fun h => ?_) <;> simp only [h,e1,e2,e3,e7,e8,e9,h3,hc,fxa,fxc,fxE,fxL,fxI,nxE,evO,evR,cellsT,ldCells,mkT,lenA,binPV,Env.init,resV,resT,frT,klT,ownT,intT,O.adds,ownA,rowsA,over,wrOk,keysT,keysA,ne_eq,if_true,if_false,ite_self,Nat.reduceLT,Nat.reduceSub,Nat.reduceBEq,Nat.reduceEqDiff,Nat.reduceAdd,Nat.reduceLeDiff,reduceCtorEq,Nat.reduceMul]))
      all_goals clear e1 e2 e3 e7 e8 e9 h3 hc hl hs hk hn
      all_goals simp only [Bool.not_eq_false',Bool.not_eq_true',Bool.not_false,Bool.not_true,decide_eq_true_eq,decide_eq_false_iff_not,Int.natCast_inj] at *
      all_goals (refine congrArg (fun z => some (PT.a (PV.b z))) (Bool.eq_iff_iff.2 ?_); simp_all [headC] <;> omega)
def dup (l : List T) (i : Nat) (s : List UInt8) : Bool := ((l.take i).drop 1).any fun u => decide (u.s = s)
mutual
noncomputable def may : T → Int → Bool → Bool
  | .mk k n s l,free,alt => if free < 0 then false else if head (.mk k n s l) free alt then mayL k l l 0 (if k = 2 then w (free + 1) else if k = 6 then w (free + n) else free) else false
noncomputable def mayL (k : Int) (all : List T) : List T → Nat → Int → Bool
  | [],_,_ => true
  | t :: r,i,free => may t free (decide (k = 5) && decide ((i : Int) > 0)) && !(decide (k = 5) && dup all i t.s) && mayL k all r (i + 1) free
end
theorem loop60b (t : T) (hl : t.l.length * 56 ≤ reachBytes) (i : Nat) (x : T) (hi : i < t.l.length) (hx : t.l[i]? = some x) (Q : Ex → Env → St → Prop) :
    ∀ (m : Nat) (j : Nat) (e : Env) (σ : St),m + j = max i j → 1 ≤ j →
      e 3 = .a (.ptr (3,0) 0 0) → e 7 = .a (.p (.i .i64 (i : Nat))) → e 8 = .a (.p (.i .i64 (j : Nat))) → σ.bs (3,0) = some (.var [.p (.i .i64 t.k),.p (.i .i64 t.n),.p (.s t.s),.p (.l (t.l.map enc))]) →
      ((decide (t.k = 5) && ((t.l.take i).drop j).any fun u => decide (u.s = x.s)) = false → ∀ e',e' 1 = e 1 → e' 3 = e 3 → e' 7 = e 7 → Q (.exit 2) e' σ) →
      ((decide (t.k = 5) && ((t.l.take i).drop j).any fun u => decide (u.s = x.s)) = true → ∀ e',e' 6 = .a (.p (.b false)) → Q .ret e' σ) → wp S false (.loop F59b1) e σ Q := by
  intro m
  induction m with
  | zero =>
    intro j e σ hm hj e3 e7 e8 h3 hQ hR
    have hlt : ¬ ((j : Int) < (i : Int)) := by omega
    rw [x_loop,F59b1]
    simp only [e3,e7,e8,h3,hlt,fxa,fxc,fxE,fxL,fxI,nxE,evO,evR,cellsT,ldCells,mkT,lenA,binPV,Env.init,resV,resT,frT,klT,ownT,intT,O.adds,ownA,rowsA,over,wrOk,keysT,keysA,ne_eq,if_true,if_false,ite_self,Nat.reduceLT,Nat.reduceSub,Nat.reduceBEq,Nat.reduceEqDiff,Nat.reduceAdd,Nat.reduceLeDiff,reduceCtorEq,Nat.reduceMul]
    refine hQ ?_ _ ?_ ?_ ?_
    · rw [List.drop_eq_nil_of_le (by simp; omega)]; simp
    all_goals simp only [fxa,fxc,fxE,fxL,fxI,nxE,evO,evR,cellsT,ldCells,mkT,lenA,binPV,Env.init,resV,resT,frT,klT,ownT,intT,O.adds,ownA,rowsA,over,wrOk,keysT,keysA,ne_eq,if_true,if_false,ite_self,Nat.reduceLT,Nat.reduceSub,Nat.reduceBEq,Nat.reduceEqDiff,Nat.reduceAdd,Nat.reduceLeDiff,reduceCtorEq,Nat.reduceMul]
  | succ m ih =>
    intro j e σ hm hj e3 e7 e8 h3 hQ hR
    have hlt : ((j : Int) < (i : Int)) := by omega
    have h0 : (0 : Int) ≤ (j : Int) := by omega
    have h0' : (0 : Int) ≤ (i : Int) := by omega
    have hlt2 : ((j : Int) < (t.l.length : Int)) := by omega
    have hlt3 : ((i : Int) < (t.l.length : Int)) := by omega
    obtain ⟨y,hy⟩ : ∃ y,t.l[j]? = some y := ⟨_,List.getElem?_eq_getElem (by omega)⟩
    have hx' : (t.l.map enc)[i]? = some (enc x) := by simp [hx]
    have hy' : (t.l.map enc)[j]? = some (enc y) := by simp [hy]
    have hlb : t.l.length < 9223372036854775807 := by simp only [reachBytes] at hl; omega
    have hdr : (t.l.take i).drop j = y :: (t.l.take i).drop (j + 1) := by
      rw [List.drop_eq_getElem_cons (by simp; omega)]
      congr 1
      rw [List.getElem_take]
      rw [List.getElem?_eq_getElem (by omega)] at hy
      exact Option.some.inj hy
    rw [hdr,List.any_cons] at hQ hR
    have hxe : ∀ z : T,enc z = [.i .i64 z.k,.i .i64 z.n,.s z.s,.l (z.l.map enc)] := enc_eq
    rw [x_loop,F59b1]
    simp only [e3,e7,e8,h3,hlt,fxa,fxc,fxE,fxL,fxI,nxE,evO,evR,cellsT,ldCells,mkT,lenA,binPV,Env.init,resV,resT,frT,klT,ownT,intT,O.adds,ownA,rowsA,over,wrOk,keysT,keysA,ne_eq,if_true,if_false,ite_self,Nat.reduceLT,Nat.reduceSub,Nat.reduceBEq,Nat.reduceEqDiff,Nat.reduceAdd,Nat.reduceLeDiff,reduceCtorEq,Nat.reduceMul]
    refine wpC_split (fun h1 => ?_) (fun h1 => ?_)
    · simp only [e3,e7,e8,h3,h1,hlt2,hlt3,h0,h0',Int.toNat_natCast,hx',hy',enc_len,enc_all,hxe,fxa,fxc,fxE,fxL,fxI,nxE,evO,evR,cellsT,ldCells,mkT,lenA,binPV,Env.init,resV,resT,frT,klT,ownT,intT,O.adds,ownA,rowsA,over,wrOk,keysT,keysA,ne_eq,if_true,if_false,ite_self,Nat.reduceLT,Nat.reduceSub,Nat.reduceBEq,Nat.reduceEqDiff,Nat.reduceAdd,Nat.reduceLeDiff,reduceCtorEq,Nat.reduceMul]
      simp only [h1,Bool.true_and] at hQ hR ih
      refine wpC_split (fun h2 => ?_) (fun h2 => ?_)
      · simp only [h2,fxa,fxc,fxE,fxL,fxI,nxE,evO,evR,cellsT,ldCells,mkT,lenA,binPV,Env.init,resV,resT,frT,klT,ownT,intT,O.adds,ownA,rowsA,over,wrOk,keysT,keysA,ne_eq,if_true,if_false,ite_self,Nat.reduceLT,Nat.reduceSub,Nat.reduceBEq,Nat.reduceEqDiff,Nat.reduceAdd,Nat.reduceLeDiff,reduceCtorEq,Nat.reduceMul]
        exact hR (by simp only [h2,Bool.true_or]) _ (by simp only [fxa,fxc,fxE,fxL,fxI,nxE,evO,evR,cellsT,ldCells,mkT,lenA,binPV,Env.init,resV,resT,frT,klT,ownT,intT,O.adds,ownA,rowsA,over,wrOk,keysT,keysA,ne_eq,if_true,if_false,ite_self,Nat.reduceLT,Nat.reduceSub,Nat.reduceBEq,Nat.reduceEqDiff,Nat.reduceAdd,Nat.reduceLeDiff,reduceCtorEq,Nat.reduceMul])
      · simp only [e3,e7,e8,h3,h2,fxa,fxc,fxE,fxL,fxI,nxE,evO,evR,cellsT,ldCells,mkT,lenA,binPV,Env.init,resV,resT,frT,klT,ownT,intT,O.adds,ownA,rowsA,over,wrOk,keysT,keysA,ne_eq,if_true,if_false,ite_self,Nat.reduceLT,Nat.reduceSub,Nat.reduceBEq,Nat.reduceEqDiff,Nat.reduceAdd,Nat.reduceLeDiff,reduceCtorEq,Nat.reduceMul]
        refine ih (j + 1) _ σ (by omega) (by omega) ?_ ?_ ?_ h3 ?_ ?_
        all_goals try simp only [e3,e7,e8,fxa,fxc,fxE,fxL,fxI,nxE,evO,evR,cellsT,ldCells,mkT,lenA,binPV,Env.init,resV,resT,frT,klT,ownT,intT,O.adds,ownA,rowsA,over,wrOk,keysT,keysA,ne_eq,if_true,if_false,ite_self,Nat.reduceLT,Nat.reduceSub,Nat.reduceBEq,Nat.reduceEqDiff,Nat.reduceAdd,Nat.reduceLeDiff,reduceCtorEq,Nat.reduceMul]
        · rw [wrap_succ j (by omega)]
        · intro hf e' f1 f3 f7
          exact hQ (by rw [h2,Bool.false_or,hf]) e' f1 (f3.trans e3.symm) (f7.trans e7.symm)
        · intro hf; exact hR (by rw [h2,Bool.false_or,hf])
    · simp only [h1,fxa,fxc,fxE,fxL,fxI,nxE,evO,evR,cellsT,ldCells,mkT,lenA,binPV,Env.init,resV,resT,frT,klT,ownT,intT,O.adds,ownA,rowsA,over,wrOk,keysT,keysA,ne_eq,if_true,if_false,ite_self,Nat.reduceLT,Nat.reduceSub,Nat.reduceBEq,Nat.reduceEqDiff,Nat.reduceAdd,Nat.reduceLeDiff,reduceCtorEq,Nat.reduceMul]
      refine hQ (by simp only [h1,Bool.false_and]) _ ?_ ?_ ?_
      all_goals simp only [fxa,fxc,fxE,fxL,fxI,nxE,evO,evR,cellsT,ldCells,mkT,lenA,binPV,Env.init,resV,resT,frT,klT,ownT,intT,O.adds,ownA,rowsA,over,wrOk,keysT,keysA,ne_eq,if_true,if_false,ite_self,Nat.reduceLT,Nat.reduceSub,Nat.reduceBEq,Nat.reduceEqDiff,Nat.reduceAdd,Nat.reduceLeDiff,reduceCtorEq,Nat.reduceMul]
theorem loop60 (t : T) (free : Int) (hl : t.l.length * 56 ≤ reachBytes) (Q : Ex → Env → St → Prop) :
    ∀ (rem : List T) (i : Nat) (e : Env) (σ : St),t.l.drop i = rem → i + rem.length = t.l.length → (∀ u,u ∈ rem → ∀ f a,eP S 59 [.g (enc u),.a (.i .i64 f),.a (.b a)] = some (.a (.b (may u f a)))) →
      e 1 = .a (.p (.i .i64 free)) → e 3 = .a (.ptr (3,0) 0 0) → e 7 = .a (.p (.i .i64 (i : Nat))) → σ.bs (3,0) = some (.var [.p (.i .i64 t.k),.p (.i .i64 t.n),.p (.s t.s),.p (.l (t.l.map enc))]) →
      (mayL t.k t.l rem i free = true → ∀ e',Q (.exit 0) e' σ) → (mayL t.k t.l rem i free = false → ∀ e',e' 6 = .a (.p (.b false)) → Q .ret e' σ) → wp S false (.loop F59b0) e σ Q := by
  intro rem
  induction rem with
  | nil =>
    intro i e σ hd hi hu e1 e3 e7 h3 hQ hR
    have hlt : ¬ ((i : Int) < (t.l.length : Int)) := by simp at hi; omega
    rw [x_loop,F59b0]
    simp only [e1,e3,e7,h3,hlt,fxa,fxc,fxE,fxL,fxI,nxE,evO,evR,cellsT,ldCells,mkT,lenA,binPV,Env.init,resV,resT,frT,klT,ownT,intT,O.adds,ownA,rowsA,over,wrOk,keysT,keysA,ne_eq,if_true,if_false,ite_self,Nat.reduceLT,Nat.reduceSub,Nat.reduceBEq,Nat.reduceEqDiff,Nat.reduceAdd,Nat.reduceLeDiff,reduceCtorEq,Nat.reduceMul]
    exact hQ rfl _
  | cons x rem ih =>
    intro i e σ hd hi hu e1 e3 e7 h3 hQ hR
    simp only [List.length_cons] at hi
    have hlt : ((i : Int) < (t.l.length : Int)) := by omega
    have h0 : (0 : Int) ≤ (i : Int) := by omega
    have hx : t.l[i]? = some x := by rw [← List.head?_drop,hd]; rfl
    have hx' : (t.l.map enc)[i]? = some (enc x) := by simp [hx]
    have hux := hu x (by simp)
    have hlb : t.l.length < 9223372036854775807 := by simp only [reachBytes] at hl; omega
    have e0 : mayL t.k t.l (x :: rem) i free = (may x free (decide (t.k = 5) && decide ((i : Int) > 0)) && !(decide (t.k = 5) && dup t.l i x.s) && mayL t.k t.l rem (i + 1) free) := rfl
    rw [e0] at hQ hR
    rw [x_loop,F59b0]
    simp only [e1,e3,e7,h3,hlt,h0,Int.toNat_natCast,hx',enc_len,enc_all,enc_take,enc_takep,hux,fxa,fxc,fxE,fxL,fxI,nxE,evO,evR,cellsT,ldCells,mkT,lenA,binPV,Env.init,resV,resT,frT,klT,ownT,intT,O.adds,ownA,rowsA,over,wrOk,keysT,keysA,ne_eq,if_true,if_false,ite_self,Nat.reduceLT,Nat.reduceSub,Nat.reduceBEq,Nat.reduceEqDiff,Nat.reduceAdd,Nat.reduceLeDiff,reduceCtorEq,Nat.reduceMul]
    have fin : ∀ (b : Bool),(decide (t.k = 5) && decide ((i : Int) > 0)) = b → ∀ (e : Env),e 1 = .a (.p (.i .i64 free)) → e 3 = .a (.ptr (3,0) 0 0) → e 7 = .a (.p (.i .i64 (i : Nat))) →
        (may x free b = false → ∀ e',e' 6 = .a (.p (.b false)) → Q .ret e' σ) → True := fun _ _ _ _ _ _ _ => trivial
    have step : ∀ (e : Env),may x free (decide (t.k = 5) && decide ((i : Int) > 0)) = true → e 1 = .a (.p (.i .i64 free)) → e 3 = .a (.ptr (3,0) 0 0) → e 7 = .a (.p (.i .i64 (i : Nat))) → e 8 = .a (.p (.i .i64 1)) →
        wp S false (.loop F59b1) e σ (blkQ 2 (blkQ 1 (seqQ S false (.reg [⟨some 35,none,.mv (.t 7),.any⟩,⟨some 36,none,.bin .add (.t 35) (.c (.a (.p (.i .i64 1)))),.any⟩,⟨some 7,none,.mv (.t 36),.any⟩]) (loopQ S false F59b0 Q)))) := by
      intro e hm e1 e3 e7 e8
      refine loop60b t hl i x (by omega) hx _ (max i 1 - 1) 1 e σ (by omega) (by omega) e3 e7 e8 h3 (fun hf e' f1 f3 f7 => ?_) (fun hf e' he' => ?_)
      · rw [e1] at f1; rw [e3] at f3; rw [e7] at f7
        simp only [f1,f3,f7,fxa,fxc,fxE,fxL,fxI,nxE,evO,evR,cellsT,ldCells,mkT,lenA,binPV,Env.init,resV,resT,frT,klT,ownT,intT,O.adds,ownA,rowsA,over,wrOk,keysT,keysA,ne_eq,if_true,if_false,ite_self,Nat.reduceLT,Nat.reduceSub,Nat.reduceBEq,Nat.reduceEqDiff,Nat.reduceAdd,Nat.reduceLeDiff,reduceCtorEq,Nat.reduceMul]
        refine ih (i + 1) _ σ (by rw [← List.drop_drop,hd]; rfl) (by omega) (fun u hu' => hu u (by simp [hu'])) ?_ ?_ ?_ h3 ?_ ?_
        all_goals try simp only [f1,f3,f7,fxa,fxc,fxE,fxL,fxI,nxE,evO,evR,cellsT,ldCells,mkT,lenA,binPV,Env.init,resV,resT,frT,klT,ownT,intT,O.adds,ownA,rowsA,over,wrOk,keysT,keysA,ne_eq,if_true,if_false,ite_self,Nat.reduceLT,Nat.reduceSub,Nat.reduceBEq,Nat.reduceEqDiff,Nat.reduceAdd,Nat.reduceLeDiff,reduceCtorEq,Nat.reduceMul]
        · rw [wrap_succ i (by omega)]
        · intro hm'; exact hQ (by rw [hm,dup,hf,hm']; rfl)
        · intro hm'; exact hR (by rw [hm,dup,hf,hm']; rfl)
      · simp only [he',fxa,fxc,fxE,fxL,fxI,nxE,evO,evR,cellsT,ldCells,mkT,lenA,binPV,Env.init,resV,resT,frT,klT,ownT,intT,O.adds,ownA,rowsA,over,wrOk,keysT,keysA,ne_eq,if_true,if_false,ite_self,Nat.reduceLT,Nat.reduceSub,Nat.reduceBEq,Nat.reduceEqDiff,Nat.reduceAdd,Nat.reduceLeDiff,reduceCtorEq,Nat.reduceMul]
        exact hR (by rw [hm,dup,hf]; rfl) _ he'
    refine wpX_bsplit (fun h1 => ?_) (fun h1 => ?_)
    all_goals try simp only [Bool.not_true] at h1
    all_goals simp only [h1,Bool.true_and,Bool.false_and] at step hQ hR ⊢
    all_goals simp only [e1,e3,e7,h3,h1,hlt,h0,Int.toNat_natCast,hx',enc_len,enc_all,enc_take,enc_takep,hux,fxa,fxc,fxE,fxL,fxI,nxE,evO,evR,cellsT,ldCells,mkT,lenA,binPV,Env.init,resV,resT,frT,klT,ownT,intT,O.adds,ownA,rowsA,over,wrOk,keysT,keysA,ne_eq,if_true,if_false,ite_self,Nat.reduceLT,Nat.reduceSub,Nat.reduceBEq,Nat.reduceEqDiff,Nat.reduceAdd,Nat.reduceLeDiff,reduceCtorEq,Nat.reduceMul]
    all_goals refine wpC_split (fun h2 => ?_) (fun h2 => ?_)
    all_goals simp only [Bool.not_eq_false',Bool.not_eq_true',Bool.not_false,Bool.not_true,decide_eq_true_eq,decide_eq_false_iff_not,Int.natCast_inj] at h2
    all_goals try (simp only [fxa,fxc,fxE,fxL,fxI,nxE,evO,evR,cellsT,ldCells,mkT,lenA,binPV,Env.init,resV,resT,frT,klT,ownT,intT,O.adds,ownA,rowsA,over,wrOk,keysT,keysA,ne_eq,if_true,if_false,ite_self,Nat.reduceLT,Nat.reduceSub,Nat.reduceBEq,Nat.reduceEqDiff,Nat.reduceAdd,Nat.reduceLeDiff,reduceCtorEq,Nat.reduceMul]; exact hR (by rw [h2]; rfl) _ (by simp only [fxa,fxc,fxE,fxL,fxI,nxE,evO,evR,cellsT,ldCells,mkT,lenA,binPV,Env.init,resV,resT,frT,klT,ownT,intT,O.adds,ownA,rowsA,over,wrOk,keysT,keysA,ne_eq,if_true,if_false,ite_self,Nat.reduceLT,Nat.reduceSub,Nat.reduceBEq,Nat.reduceEqDiff,Nat.reduceAdd,Nat.reduceLeDiff,reduceCtorEq,Nat.reduceMul]))
    all_goals simp only [fxa,fxc,fxE,fxL,fxI,nxE,evO,evR,cellsT,ldCells,mkT,lenA,binPV,Env.init,resV,resT,frT,klT,ownT,intT,O.adds,ownA,rowsA,over,wrOk,keysT,keysA,ne_eq,if_true,if_false,ite_self,Nat.reduceLT,Nat.reduceSub,Nat.reduceBEq,Nat.reduceEqDiff,Nat.reduceAdd,Nat.reduceLeDiff,reduceCtorEq,Nat.reduceMul]
    all_goals exact step _ h2 (by simp only [e1,fxa,fxc,fxE,fxL,fxI,nxE,evO,evR,cellsT,ldCells,mkT,lenA,binPV,Env.init,resV,resT,frT,klT,ownT,intT,O.adds,ownA,rowsA,over,wrOk,keysT,keysA,ne_eq,if_true,if_false,ite_self,Nat.reduceLT,Nat.reduceSub,Nat.reduceBEq,Nat.reduceEqDiff,Nat.reduceAdd,Nat.reduceLeDiff,reduceCtorEq,Nat.reduceMul]) (by simp only [e3,fxa,fxc,fxE,fxL,fxI,nxE,evO,evR,cellsT,ldCells,mkT,lenA,binPV,Env.init,resV,resT,frT,klT,ownT,intT,O.adds,ownA,rowsA,over,wrOk,keysT,keysA,ne_eq,if_true,if_false,ite_self,Nat.reduceLT,Nat.reduceSub,Nat.reduceBEq,Nat.reduceEqDiff,Nat.reduceAdd,Nat.reduceLeDiff,reduceCtorEq,Nat.reduceMul]) (by simp only [e7,fxa,fxc,fxE,fxL,fxI,nxE,evO,evR,cellsT,ldCells,mkT,lenA,binPV,Env.init,resV,resT,frT,klT,ownT,intT,O.adds,ownA,rowsA,over,wrOk,keysT,keysA,ne_eq,if_true,if_false,ite_self,Nat.reduceLT,Nat.reduceSub,Nat.reduceBEq,Nat.reduceEqDiff,Nat.reduceAdd,Nat.reduceLeDiff,reduceCtorEq,Nat.reduceMul]) (by simp only [fxa,fxc,fxE,fxL,fxI,nxE,evO,evR,cellsT,ldCells,mkT,lenA,binPV,Env.init,resV,resT,frT,klT,ownT,intT,O.adds,ownA,rowsA,over,wrOk,keysT,keysA,ne_eq,if_true,if_false,ite_self,Nat.reduceLT,Nat.reduceSub,Nat.reduceBEq,Nat.reduceEqDiff,Nat.reduceAdd,Nat.reduceLeDiff,reduceCtorEq,Nat.reduceMul])
theorem may_ok {t : T} (ht : T.Ok t) : ∀ (free : Int) (alt : Bool),eP S 59 [.g (enc t),.a (.i .i64 free),.a (.b alt)] = some (.a (.b (may t free alt))) := by
  induction ht with
  | mk k n s l hk hn hs hl h ih =>
    intro free alt
    have hh := head_ok (.mk k n s l hk hn hs hl h) free alt
    have e0 : may (.mk k n s l) free alt = if free < 0 then false else if head (.mk k n s l) free alt then mayL k l l 0 (if k = 2 then w (free + 1) else if k = 6 then w (free + n) else free) else false := rfl
    rw [e0]
    rw [enc,encL_map] at hh
    refine x_fn (orcS (by decide)) (fc := F59) rfl rfl ?_
    simp only [F59,enc,encL_map,fxa,fxc,fxE,fxL,fxI,nxE,evO,evR,cellsT,ldCells,mkT,lenA,binPV,Env.init,resV,resT,frT,klT,ownT,intT,O.adds,ownA,rowsA,over,wrOk,keysT,keysA,ne_eq,if_true,if_false,ite_self,Nat.reduceLT,Nat.reduceSub,Nat.reduceBEq,Nat.reduceEqDiff,Nat.reduceAdd,Nat.reduceLeDiff,reduceCtorEq,Nat.reduceMul]
    have fin : ∀ (f : Int) (e : Env) (σ : St),e 1 = .a (.p (.i .i64 f)) → e 3 = .a (.ptr (3,0) 0 0) → e 7 = .a (.p (.i .i64 0)) → σ.bs (3,0) = some (.var [.p (.i .i64 k),.p (.i .i64 n),.p (.s s),.p (.l (l.map enc))]) →
        wp S false (.loop F59b0) e σ (blkQ 0 (seqQ S false ((C.reg [⟨some 6,none,.mv (.c (.a (.p (.b true)))),.any⟩]).seq C.ret) (RetP [Rs.tmp 6] (PT.a (PV.b (mayL k l l 0 f)))))) := by
      intro f e σ e1 e3 e7 h3
      refine loop60 (.mk k n s l) f hl _ l 0 e σ rfl (by simp [T.l]) (fun u hu => ih u hu) e1 e3 e7 h3 (fun hm e' => ?_) (fun hm e' he' => ?_)
      · simp only [T.k,T.l] at hm; simp only [hm,fxa,fxc,fxE,fxL,fxI,nxE,evO,evR,cellsT,ldCells,mkT,lenA,binPV,Env.init,resV,resT,frT,klT,ownT,intT,O.adds,ownA,rowsA,over,wrOk,keysT,keysA,ne_eq,if_true,if_false,ite_self,Nat.reduceLT,Nat.reduceSub,Nat.reduceBEq,Nat.reduceEqDiff,Nat.reduceAdd,Nat.reduceLeDiff,reduceCtorEq,Nat.reduceMul]
      · simp only [T.k,T.l] at hm; simp only [hm,he',fxa,fxc,fxE,fxL,fxI,nxE,evO,evR,cellsT,ldCells,mkT,lenA,binPV,Env.init,resV,resT,frT,klT,ownT,intT,O.adds,ownA,rowsA,over,wrOk,keysT,keysA,ne_eq,if_true,if_false,ite_self,Nat.reduceLT,Nat.reduceSub,Nat.reduceBEq,Nat.reduceEqDiff,Nat.reduceAdd,Nat.reduceLeDiff,reduceCtorEq,Nat.reduceMul]
    refine wpX_bsplit (fun h1 => ?_) (fun h1 => ?_)
    all_goals simp only [h1,hh,fxa,fxc,fxE,fxL,fxI,nxE,evO,evR,cellsT,ldCells,mkT,lenA,binPV,Env.init,resV,resT,frT,klT,ownT,intT,O.adds,ownA,rowsA,over,wrOk,keysT,keysA,ne_eq,if_true,if_false,ite_self,Nat.reduceLT,Nat.reduceSub,Nat.reduceBEq,Nat.reduceEqDiff,Nat.reduceAdd,Nat.reduceLeDiff,reduceCtorEq,Nat.reduceMul]
    · simp only [Bool.not_eq_false',Bool.not_eq_true',Bool.not_false,Bool.not_true,decide_eq_true_eq,decide_eq_false_iff_not,Int.natCast_inj] at h1
      rw [if_neg (by omega)]
      refine wpC_split (fun h2 => ?_) (fun h2 => ?_)
      · simp only [Bool.not_eq_false',Bool.not_eq_true',Bool.not_false,Bool.not_true,decide_eq_true_eq,decide_eq_false_iff_not,Int.natCast_inj] at h2; simp only [h2,fxa,fxc,fxE,fxL,fxI,nxE,evO,evR,cellsT,ldCells,mkT,lenA,binPV,Env.init,resV,resT,frT,klT,ownT,intT,O.adds,ownA,rowsA,over,wrOk,keysT,keysA,ne_eq,if_true,if_false,ite_self,Nat.reduceLT,Nat.reduceSub,Nat.reduceBEq,Nat.reduceEqDiff,Nat.reduceAdd,Nat.reduceLeDiff,reduceCtorEq,Nat.reduceMul]
      · simp only [Bool.not_eq_false',Bool.not_eq_true',Bool.not_false,Bool.not_true,decide_eq_true_eq,decide_eq_false_iff_not,Int.natCast_inj] at h2; simp only [h2,fxa,fxc,fxE,fxL,fxI,nxE,evO,evR,cellsT,ldCells,mkT,lenA,binPV,Env.init,resV,resT,frT,klT,ownT,intT,O.adds,ownA,rowsA,over,wrOk,keysT,keysA,ne_eq,if_true,if_false,ite_self,Nat.reduceLT,Nat.reduceSub,Nat.reduceBEq,Nat.reduceEqDiff,Nat.reduceAdd,Nat.reduceLeDiff,reduceCtorEq,Nat.reduceMul]
        refine wpC_split (fun h3 => ?_) (fun h3 => ?_)
        · simp only [Bool.not_eq_false',Bool.not_eq_true',Bool.not_false,Bool.not_true,decide_eq_true_eq,decide_eq_false_iff_not,Int.natCast_inj] at h3
          subst h3
          simp only [Int.reduceEq,fxa,fxc,fxE,fxL,fxI,nxE,evO,evR,cellsT,ldCells,mkT,lenA,binPV,Env.init,resV,resT,frT,klT,ownT,intT,O.adds,ownA,rowsA,over,wrOk,keysT,keysA,ne_eq,if_true,if_false,ite_self,Nat.reduceLT,Nat.reduceSub,Nat.reduceBEq,Nat.reduceEqDiff,Nat.reduceAdd,Nat.reduceLeDiff,reduceCtorEq,Nat.reduceMul]
          exact fin _ _ _ (by simp only [fxa,fxc,fxE,fxL,fxI,nxE,evO,evR,cellsT,ldCells,mkT,lenA,binPV,Env.init,resV,resT,frT,klT,ownT,intT,O.adds,ownA,rowsA,over,wrOk,keysT,keysA,ne_eq,if_true,if_false,ite_self,Nat.reduceLT,Nat.reduceSub,Nat.reduceBEq,Nat.reduceEqDiff,Nat.reduceAdd,Nat.reduceLeDiff,reduceCtorEq,Nat.reduceMul]) (by simp only [fxa,fxc,fxE,fxL,fxI,nxE,evO,evR,cellsT,ldCells,mkT,lenA,binPV,Env.init,resV,resT,frT,klT,ownT,intT,O.adds,ownA,rowsA,over,wrOk,keysT,keysA,ne_eq,if_true,if_false,ite_self,Nat.reduceLT,Nat.reduceSub,Nat.reduceBEq,Nat.reduceEqDiff,Nat.reduceAdd,Nat.reduceLeDiff,reduceCtorEq,Nat.reduceMul]) (by simp only [fxa,fxc,fxE,fxL,fxI,nxE,evO,evR,cellsT,ldCells,mkT,lenA,binPV,Env.init,resV,resT,frT,klT,ownT,intT,O.adds,ownA,rowsA,over,wrOk,keysT,keysA,ne_eq,if_true,if_false,ite_self,Nat.reduceLT,Nat.reduceSub,Nat.reduceBEq,Nat.reduceEqDiff,Nat.reduceAdd,Nat.reduceLeDiff,reduceCtorEq,Nat.reduceMul]) (by simp only [fxa,fxc,fxE,fxL,fxI,nxE,evO,evR,cellsT,ldCells,mkT,lenA,binPV,Env.init,resV,resT,frT,klT,ownT,intT,O.adds,ownA,rowsA,over,wrOk,keysT,keysA,ne_eq,if_true,if_false,ite_self,Nat.reduceLT,Nat.reduceSub,Nat.reduceBEq,Nat.reduceEqDiff,Nat.reduceAdd,Nat.reduceLeDiff,reduceCtorEq,Nat.reduceMul])
        · simp only [Bool.not_eq_false',Bool.not_eq_true',Bool.not_false,Bool.not_true,decide_eq_true_eq,decide_eq_false_iff_not,Int.natCast_inj] at h3
          rw [if_neg h3]
          simp only [fxa,fxc,fxE,fxL,fxI,nxE,evO,evR,cellsT,ldCells,mkT,lenA,binPV,Env.init,resV,resT,frT,klT,ownT,intT,O.adds,ownA,rowsA,over,wrOk,keysT,keysA,ne_eq,if_true,if_false,ite_self,Nat.reduceLT,Nat.reduceSub,Nat.reduceBEq,Nat.reduceEqDiff,Nat.reduceAdd,Nat.reduceLeDiff,reduceCtorEq,Nat.reduceMul]
          refine wpC_split (fun h4 => ?_) (fun h4 => ?_)
          · simp only [Bool.not_eq_false',Bool.not_eq_true',Bool.not_false,Bool.not_true,decide_eq_true_eq,decide_eq_false_iff_not,Int.natCast_inj] at h4
            rw [if_pos h4]
            simp only [fxa,fxc,fxE,fxL,fxI,nxE,evO,evR,cellsT,ldCells,mkT,lenA,binPV,Env.init,resV,resT,frT,klT,ownT,intT,O.adds,ownA,rowsA,over,wrOk,keysT,keysA,ne_eq,if_true,if_false,ite_self,Nat.reduceLT,Nat.reduceSub,Nat.reduceBEq,Nat.reduceEqDiff,Nat.reduceAdd,Nat.reduceLeDiff,reduceCtorEq,Nat.reduceMul]
            exact fin _ _ _ (by simp only [fxa,fxc,fxE,fxL,fxI,nxE,evO,evR,cellsT,ldCells,mkT,lenA,binPV,Env.init,resV,resT,frT,klT,ownT,intT,O.adds,ownA,rowsA,over,wrOk,keysT,keysA,ne_eq,if_true,if_false,ite_self,Nat.reduceLT,Nat.reduceSub,Nat.reduceBEq,Nat.reduceEqDiff,Nat.reduceAdd,Nat.reduceLeDiff,reduceCtorEq,Nat.reduceMul]) (by simp only [fxa,fxc,fxE,fxL,fxI,nxE,evO,evR,cellsT,ldCells,mkT,lenA,binPV,Env.init,resV,resT,frT,klT,ownT,intT,O.adds,ownA,rowsA,over,wrOk,keysT,keysA,ne_eq,if_true,if_false,ite_self,Nat.reduceLT,Nat.reduceSub,Nat.reduceBEq,Nat.reduceEqDiff,Nat.reduceAdd,Nat.reduceLeDiff,reduceCtorEq,Nat.reduceMul]) (by simp only [fxa,fxc,fxE,fxL,fxI,nxE,evO,evR,cellsT,ldCells,mkT,lenA,binPV,Env.init,resV,resT,frT,klT,ownT,intT,O.adds,ownA,rowsA,over,wrOk,keysT,keysA,ne_eq,if_true,if_false,ite_self,Nat.reduceLT,Nat.reduceSub,Nat.reduceBEq,Nat.reduceEqDiff,Nat.reduceAdd,Nat.reduceLeDiff,reduceCtorEq,Nat.reduceMul]) (by simp only [fxa,fxc,fxE,fxL,fxI,nxE,evO,evR,cellsT,ldCells,mkT,lenA,binPV,Env.init,resV,resT,frT,klT,ownT,intT,O.adds,ownA,rowsA,over,wrOk,keysT,keysA,ne_eq,if_true,if_false,ite_self,Nat.reduceLT,Nat.reduceSub,Nat.reduceBEq,Nat.reduceEqDiff,Nat.reduceAdd,Nat.reduceLeDiff,reduceCtorEq,Nat.reduceMul])
          · simp only [Bool.not_eq_false',Bool.not_eq_true',Bool.not_false,Bool.not_true,decide_eq_true_eq,decide_eq_false_iff_not,Int.natCast_inj] at h4
            rw [if_neg h4]
            simp only [fxa,fxc,fxE,fxL,fxI,nxE,evO,evR,cellsT,ldCells,mkT,lenA,binPV,Env.init,resV,resT,frT,klT,ownT,intT,O.adds,ownA,rowsA,over,wrOk,keysT,keysA,ne_eq,if_true,if_false,ite_self,Nat.reduceLT,Nat.reduceSub,Nat.reduceBEq,Nat.reduceEqDiff,Nat.reduceAdd,Nat.reduceLeDiff,reduceCtorEq,Nat.reduceMul]
            exact fin _ _ _ (by simp only [fxa,fxc,fxE,fxL,fxI,nxE,evO,evR,cellsT,ldCells,mkT,lenA,binPV,Env.init,resV,resT,frT,klT,ownT,intT,O.adds,ownA,rowsA,over,wrOk,keysT,keysA,ne_eq,if_true,if_false,ite_self,Nat.reduceLT,Nat.reduceSub,Nat.reduceBEq,Nat.reduceEqDiff,Nat.reduceAdd,Nat.reduceLeDiff,reduceCtorEq,Nat.reduceMul]) (by simp only [fxa,fxc,fxE,fxL,fxI,nxE,evO,evR,cellsT,ldCells,mkT,lenA,binPV,Env.init,resV,resT,frT,klT,ownT,intT,O.adds,ownA,rowsA,over,wrOk,keysT,keysA,ne_eq,if_true,if_false,ite_self,Nat.reduceLT,Nat.reduceSub,Nat.reduceBEq,Nat.reduceEqDiff,Nat.reduceAdd,Nat.reduceLeDiff,reduceCtorEq,Nat.reduceMul]) (by simp only [fxa,fxc,fxE,fxL,fxI,nxE,evO,evR,cellsT,ldCells,mkT,lenA,binPV,Env.init,resV,resT,frT,klT,ownT,intT,O.adds,ownA,rowsA,over,wrOk,keysT,keysA,ne_eq,if_true,if_false,ite_self,Nat.reduceLT,Nat.reduceSub,Nat.reduceBEq,Nat.reduceEqDiff,Nat.reduceAdd,Nat.reduceLeDiff,reduceCtorEq,Nat.reduceMul]) (by simp only [fxa,fxc,fxE,fxL,fxI,nxE,evO,evR,cellsT,ldCells,mkT,lenA,binPV,Env.init,resV,resT,frT,klT,ownT,intT,O.adds,ownA,rowsA,over,wrOk,keysT,keysA,ne_eq,if_true,if_false,ite_self,Nat.reduceLT,Nat.reduceSub,Nat.reduceBEq,Nat.reduceEqDiff,Nat.reduceAdd,Nat.reduceLeDiff,reduceCtorEq,Nat.reduceMul])
    · simp only [Bool.not_eq_false',Bool.not_eq_true',Bool.not_false,Bool.not_true,decide_eq_true_eq,decide_eq_false_iff_not,Int.natCast_inj] at h1
      rw [if_pos h1]
theorem May_ok {t : T} (ht : T.Ok t) (f : Int) : eP S 31 [.g (enc t),.a (.i .i64 f)] = some (.a (.b (may t f false))) := by
  have h := may_ok ht f false
  refine x_fn (orcS (by decide)) (fc := F31) rfl rfl ?_
  simp only [F31,enc_len,enc_takep,enc_flat,h,fxa,fxc,fxE,fxL,fxI,nxE,evO,evR,cellsT,ldCells,mkT,lenA,binPV,Env.init,resV,resT,frT,klT,ownT,intT,O.adds,ownA,rowsA,over,wrOk,keysT,keysA,ne_eq,if_true,if_false,ite_self,Nat.reduceLT,Nat.reduceSub,Nat.reduceBEq,Nat.reduceEqDiff,Nat.reduceAdd,Nat.reduceLeDiff,reduceCtorEq,Nat.reduceMul]
def T.more (t : T) : Int := if t.k = 2 then 1 else if t.k = 6 then t.n else 0
theorem head_var {k n : Int} {s : List UInt8} {l : List T} {f : Int} {a : Bool} (h : head (.mk k n s l) f a = true) : (k = 1 → a = false ∧ 0 ≤ n ∧ n < f ∧ s = [] ∧ l = []) ∧ (k = 6 ↔ a = true) ∧ 0 ≤ T.more (.mk k n s l) ∧ T.more (.mk k n s l) ≤ 8 := by
  have e : head (.mk k n s l) f a = headC k n s l.length f a := rfl
  have em : T.more (.mk k n s l) = if k = 2 then 1 else if k = 6 then n else 0 := rfl
  rw [e] at h
  rw [em]
  unfold headC at h
  split at h
  · simp only [Bool.and_eq_true,decide_eq_true_eq] at h
    rename_i ha
    subst ha
    obtain ⟨⟨⟨⟨h1,h2⟩,h3⟩,h4⟩,h5⟩ := h
    subst h1
    simp; omega
  · rename_i ha
    have ha : a = false := by simpa using ha
    subst ha
    by_cases h1 : k = 1
    · subst h1
      simp at h
      simp
      exact ⟨h.1.2,h.2,h.1.1.1,h.1.1.2⟩
    · have h6 : k ≠ 6 := by
        rintro rfl
        simp at h
      simp [h1,h6]
      split <;> omega
theorem mayL_iff (k : Int) (all : List T) (free : Int) : ∀ (l : List T) (i : Nat),mayL k all l i free = true ↔ ∀ j t,l[j]? = some t → may t free (decide (k = 5) && decide (((i + j : Nat) : Int) > 0)) = true ∧ (k = 5 → dup all (i + j) t.s = false)
  | [],i => by simp [mayL]
  | t :: r,i => by
    simp only [mayL,Bool.and_eq_true]
    rw [mayL_iff k all free r (i + 1)]
    constructor
    · rintro ⟨⟨h1,h2⟩,h3⟩ j u hj
      cases j with
      | zero =>
        simp only [List.getElem?_cons_zero,Option.some.injEq] at hj
        subst hj
        refine ⟨by simpa using h1,fun hk => ?_⟩
        simpa [hk] using h2
      | succ j =>
        simp only [List.getElem?_cons_succ] at hj
        have := h3 j u hj
        rwa [show i + 1 + j = i + (j + 1) by omega] at this
    · intro h
      refine ⟨⟨?_,?_⟩,fun j u hj => ?_⟩
      · simpa using (h 0 t rfl).1
      · by_cases hk : k = 5
        · have := (h 0 t rfl).2 hk
          simp [hk]; simpa using this
        · simp [hk]
      · have := h (j + 1) u (by simpa using hj)
        rwa [show i + (j + 1) = i + 1 + j by omega] at this
theorem may_iff {k n : Int} {s : List UInt8} {l : List T} {f : Int} {a : Bool} (hf : 0 ≤ f) (hb : f + 8 ≤ 9223372036854775807) : may (.mk k n s l) f a = true ↔ head (.mk k n s l) f a = true ∧ ∀ j t,l[j]? = some t → may t (f + T.more (.mk k n s l)) (decide (k = 5) && decide (((j : Nat) : Int) > 0)) = true ∧ (k = 5 → dup l j t.s = false) := by
  have e : may (.mk k n s l) f a = if f < 0 then false else if head (.mk k n s l) f a then mayL k l l 0 (if k = 2 then w (f + 1) else if k = 6 then w (f + n) else f) else false := rfl
  rw [e,if_neg (by omega)]
  by_cases hh : head (.mk k n s l) f a = true
  · rw [if_pos hh,mayL_iff]
    have hm := (head_var hh).2.2
    have em : T.more (.mk k n s l) = if k = 2 then 1 else if k = 6 then n else 0 := rfl
    have hw : (if k = 2 then w (f + 1) else if k = 6 then w (f + n) else f) = f + T.more (.mk k n s l) := by
      rw [em] at hm ⊢
      split
      · rw [w_id _ (by omega)]
      · rename_i h2
        rw [if_neg h2] at hm
        split
        · rename_i h6; rw [if_pos h6] at hm; rw [w_id _ (by omega)]
        · omega
    rw [hw]
    simp only [hh,true_and,Nat.zero_add]
  · simp only [hh,if_false,false_and]; simp
end Go.Proofs.Ytkpfjolcmkikeaa.Tm
end
