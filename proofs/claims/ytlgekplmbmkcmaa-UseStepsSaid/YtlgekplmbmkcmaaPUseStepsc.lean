/- Part 3 of what is proved for the law UseSteps: it returns true,whatever the input. No condition. -/
import Derived.Test.YtlgekplmbmkcmaaProg
import Derived.IntWalk
import Derived.Shelf.SlIterI.Nil
import Derived.Shelf.SortM.Plain
import Derived.Shelf.SortM.SortNone
import Derived.Maps.OwnSet
import Derived.Test.YtlgekplmbmkcmaaPUseStepsb
namespace Go.Proofs.Ytlgekplmbmkcmaa
open Go.Fx
def F14 : FnC := ⟨1,(.seq (.reg [
  ia 1 (.box 4 (.t 0)),
ia 2 (.mv (.c (.a (.p (.b false)))))]) (.seq (.seq (.reg [
  ia 5 (.call (.f 33) []),
ia 6 (.not (.t 5)),
ia 7 (.mv (.t 6)),
ig 8 7 false (.ld 4 true (.t 1)),
ig 9 7 false (.call (.f 15) [(.t 8),(ci 150)]),
ig 10 7 false (.not (.t 9)),
ia 11 (.pick (.t 7) (.c (.a (.p (.b true)))) (.t 10)),
ia 12 (.mv (.t 11)),
ig 13 12 false (.ld 4 true (.t 1)),
ig 14 12 false (.call (.f 32) [(.t 13)]),
ig 15 12 false (.bin .gtr (.t 14) (ci 200)),
ia 16 (.pick (.t 12) (.c (.a (.p (.b true)))) (.t 15)),
ia 17 (.mv (.t 16)),
ig 18 17 false (.ld 4 true (.t 1)),
ig 19 17 false (.call (.f 27) [(.t 18),(ci 0)]),
ig 20 17 false (.not (.t 19)),
ia 21 (.pick (.t 17) (.c (.a (.p (.b true)))) (.t 20)),
ia 22 (.mv (.t 21)),
ig 23 22 false (.ld 4 true (.t 1)),
ig 24 22 false (.call (.f 39) [(.t 23)]),
ig 25 22 false (.not (.t 24)),
ia 26 (.pick (.t 22) (.c (.a (.p (.b true)))) (.t 25))]) (.cond (.t 26) (.seq (.reg [
  ia 27 (.call (.f 33) []),
ia 2 (.mv (.t 27))]) .ret) .skip)) (.seq (.reg [
  ia 29 (.ld 4 true (.t 1)),
ia 30 (.call (.f 48) [(.t 29)]),
ia 28 (.mv (.t 30)),
ia 31 (.ext (.t 28) 0),
ia 32 (.ext (.t 28) 1),
ia 3 (.new [(.p (.i .i64 0)),(.p (.i .i64 0)),(.p (.s [])),.nil]),
io (.st 4 (.t 3) (.t 31)),
ia 4 (.mv (.t 32))]) (.seq (.reg [
  ia 33 (.ld 4 true (.t 3)),
ia 34 (.call (.f 39) [(.t 33)]),
ia 35 (.mv (.t 34)),
ih 36 35 true (.ld 4 true (.t 3)),
ih 37 35 true (.call (.f 28) [(.t 36)]),
ih 38 35 true (.ld 4 true (.t 1)),
ig 39 35 true (.call (.f 28) [(.t 38)]),
ig 40 35 true (.bin .leq (.t 37) (.t 39)),
ia 41 (.pick (.t 35) (.t 40) (.c (.a (.p (.b false))))),
ia 42 (.mv (.t 41)),
ig 43 42 true (.mv (.t 4)),
ig 44 42 true (.bin .eql (.t 43) (ci 0)),
ig 45 42 true (.mv (.t 44)),
ih 46 45 false (.ld 4 true (.t 3)),
ih 47 45 false (.call (.f 28) [(.t 46)]),
ih 48 45 false (.ld 4 true (.t 1)),
ig 49 45 false (.call (.f 28) [(.t 48)]),
ig 50 45 false (.bin .lss (.t 47) (.t 49)),
ig 51 42 true (.pick (.t 45) (.c (.a (.p (.b true)))) (.t 50)),
ia 52 (.pick (.t 42) (.t 51) (.c (.a (.p (.b false))))),
ia 2 (.mv (.t 52))]) .ret)))),[(.tmp 2)]⟩
theorem cc14 : ccF Try.prog [] Try.f14 = some (stripF F14) := by kernel_rfl
def F15 : FnC := ⟨2,(.seq (.reg [
  ia 2 (.box 4 (.t 0)),
ia 4 (.mv (.c (.a (.p (.b false)))))]) (.seq (.reg [
  ia 5 (.ld 4 true (.t 2)),
ia 6 (.mv (.t 1)),
ia 7 (.call (.f 49) [(.t 5),(.t 6),(ci 600)]),
ia 8 (.bin .geq (.t 7) (ci 0)),
ia 4 (.mv (.t 8))]) .ret)),[(.tmp 4)]⟩
theorem cc15 : ccF Try.prog [] Try.f15 = some (stripF F15) := by kernel_rfl
def F20b0 : C := (.seq (.seq (.reg [
  ia 29 (.mv (.t 8)),
ia 30 (.fad 3 (.t 3)),
ia 31 (.ld 1 false (.t 30)),
ia 32 (.len false (.t 31)),
ia 33 (.bin .lss (.t 29) (.t 32))]) (.cond (.t 33) .skip (.exit 0))) (.seq (.block 1 (.reg [
  ir 36 (.fad 3 (.t 7)),
ir 37 (.ld 1 false (.t 36)),
ir 38 (.fad 3 (.t 3)),
ir 39 (.ld 1 false (.t 38)),
ir 40 (.mv (.t 8)),
ir 41 (.ias 4 (.t 39) (.t 40)),
ir 42 (.ld 4 true (.t 41)),
ir 43 (.mv (.t 1)),
ir 44 (.mv (.t 2)),
ir 45 (.ld 4 true (.t 3)),
ir 46 (.call (.f 54) [(.t 45)]),
ir 47 (.bin .add (.t 44) (.t 46)),
ir 48 (.call (.f 20) [(.t 42),(.t 43),(.t 47)]),
⟨(.some 49),.none,(.bsl 4 24 [(.p (.i .i64 0)),(.p (.i .i64 0)),(.p (.s [])),.nil] 1 [(0,(.t 48))]),.ad⟩,
ia 50 (.app 4 24 56 (.t 37) (.t 49)),
ia 51 (.fad 3 (.t 7)),
io (.st 1 (.t 51) (.t 50))])) (.reg [
  ia 34 (.mv (.t 8)),
ia 35 (.bin .add (.t 34) (ci 1)),
ia 8 (.mv (.t 35))])))
def F20 : FnC := ⟨3,(.seq (.reg [
  ia 3 (.box 4 (.t 0)),
ia 6 (.new [(.p (.i .i64 0)),(.p (.i .i64 0)),(.p (.s [])),.nil])]) (.seq (.seq (.reg [
  ia 9 (.fad 0 (.t 3)),
ia 10 (.ld 1 false (.t 9)),
ia 11 (.bin .eql (.t 10) (ci 1))]) (.cond (.t 11) (.seq (.seq (.reg [
  ia 12 (.fad 1 (.t 3)),
ia 13 (.ld 1 false (.t 12)),
ia 14 (.mv (.t 2)),
ia 15 (.bin .geq (.t 13) (.t 14))]) (.cond (.t 15) (.reg [
  ia 16 (.fad 1 (.t 3)),
ia 17 (.ld 1 false (.t 16)),
ia 18 (.mv (.t 1)),
ia 19 (.bin .add (.t 17) (.t 18)),
ia 20 (.fad 1 (.t 3)),
io (.st 1 (.t 20) (.t 19))]) .skip)) (.seq (.reg [
  ia 21 (.ld 4 true (.t 3)),
io (.st 4 (.t 6) (.t 21))]) .ret)) .skip)) (.seq (.reg [
  ia 22 (.fad 0 (.t 3)),
ia 23 (.ld 1 false (.t 22)),
ia 24 (.fad 1 (.t 3)),
ia 25 (.ld 1 false (.t 24)),
ia 26 (.fad 2 (.t 3)),
ia 27 (.ld 1 false (.t 26)),
ia 28 (.build [(.p (.i .i64 0)),(.p (.i .i64 0)),(.p (.s [])),.nil] [(0,(1,(.t 23))),(1,(1,(.t 25))),(2,(1,(.t 27)))]),
ia 7 (.new [(.p (.i .i64 0)),(.p (.i .i64 0)),(.p (.s [])),.nil]),
io (.st 4 (.t 7) (.t 28))]) (.seq (.seq (.reg [
  ia 8 (.mv (ci 0))]) (.block 0 (.loop F20b0))) (.seq (.reg [
  ia 52 (.ld 4 true (.t 7)),
io (.st 4 (.t 6) (.t 52))]) .ret))))),[(.cell 6 4 true)]⟩
theorem cc20 : ccF Try.prog [] Try.f20 = some (stripF F20) := by kernel_rfl
def F22 : FnC := ⟨3,(.seq (.reg [
  ia 3 (.box 4 (.t 0)),
ia 5 (.box 4 (.t 2)),
ia 6 (.new [(.p (.i .i64 0)),(.p (.i .i64 0)),(.p (.s [])),.nil])]) (.seq (.reg [
  ia 7 (.ld 4 true (.t 3)),
ia 8 (.mv (.t 1)),
ia 9 (.ld 4 true (.t 5)),
ia 10 (.call (.f 56) [(.t 7),(.t 8),(.t 9),(ci 0)]),
io (.st 4 (.t 6) (.t 10))]) .ret)),[(.cell 6 4 true)]⟩
theorem cc22 : ccF Try.prog [] Try.f22 = some (stripF F22) := by kernel_rfl
def F23 : FnC := ⟨2,(.seq (.reg [
  ia 2 (.box 4 (.t 0)),
ia 3 (.box 1 (.t 1)),
ia 4 (.mv (ci 0))]) (.seq (.reg [
  ia 5 (.new [(.p (.i .i64 0))]),
io (.st 1 (.t 5) (ci 0))]) (.seq (.reg [
  ia 6 (.ld 4 true (.t 2)),
ia 7 (.fn 57 [(.t 3),(.t 5)]),
ia 8 (.call (.f 51) [(.t 6),(ci 0),(.t 7)])]) (.seq (.reg [
  ia 9 (.ld 1 false (.t 5)),
ia 4 (.mv (.t 9))]) .ret)))),[(.tmp 4)]⟩
theorem cc23 : ccF Try.prog [] Try.f23 = some (stripF F23) := by kernel_rfl
def F26 : FnC := ⟨2,(.seq (.reg [
  ia 2 (.box 4 (.t 0)),
ia 4 (.new [(.p (.i .i64 0)),(.p (.i .i64 0)),(.p (.s [])),.nil])]) (.seq (.reg [
  ia 5 (.ld 4 true (.t 2)),
ia 6 (.mv (.t 1)),
ia 7 (.call (.f 59) [(.t 5),(.t 6),(ci 0)]),
io (.st 4 (.t 4) (.t 7))]) .ret)),[(.cell 4 4 true)]⟩
theorem cc26 : ccF Try.prog [] Try.f26 = some (stripF F26) := by kernel_rfl
def F27 : FnC := ⟨2,(.seq (.reg [
  ia 2 (.box 4 (.t 0)),
ia 4 (.mv (.c (.a (.p (.b false)))))]) (.seq (.reg [
  ia 5 (.ld 4 true (.t 2)),
ia 6 (.mv (.t 1)),
ia 7 (.call (.f 60) [(.t 5),(.t 6),(.c (.a (.p (.b false))))]),
ia 4 (.mv (.t 7))]) .ret)),[(.tmp 4)]⟩
theorem cc27 : ccF Try.prog [] Try.f27 = some (stripF F27) := by kernel_rfl
def F28b0 : C := (.seq (.seq (.reg [
  ia 5 (.mv (.t 4)),
ia 6 (.fad 3 (.t 1)),
ia 7 (.ld 1 false (.t 6)),
ia 8 (.len false (.t 7)),
ia 9 (.bin .lss (.t 5) (.t 8))]) (.cond (.t 9) .skip (.exit 0))) (.seq (.block 1 (.reg [
  ia 12 (.mv (.t 3)),
ia 13 (.fad 3 (.t 1)),
ia 14 (.ld 1 false (.t 13)),
ia 15 (.mv (.t 4)),
ia 16 (.ias 4 (.t 14) (.t 15)),
ia 17 (.ld 4 true (.t 16)),
ia 18 (.call (.f 28) [(.t 17)]),
ia 19 (.bin .add (.t 12) (.t 18)),
ia 3 (.mv (.t 19))])) (.reg [
  ia 10 (.mv (.t 4)),
ia 11 (.bin .add (.t 10) (ci 1)),
ia 4 (.mv (.t 11))])))
def F28 : FnC := ⟨1,(.seq (.reg [
  ia 1 (.box 4 (.t 0)),
ia 2 (.mv (ci 0))]) (.seq (.reg [
  ia 3 (.mv (ci 1))]) (.seq (.seq (.reg [
  ia 4 (.mv (ci 0))]) (.block 0 (.loop F28b0))) (.seq (.reg [
  ia 20 (.mv (.t 3)),
ia 2 (.mv (.t 20))]) .ret)))),[(.tmp 2)]⟩
theorem cc28 : ccF Try.prog [] Try.f28 = some (stripF F28) := by kernel_rfl
def F31 : FnC := ⟨2,(.seq (.reg [
  ia 2 (.box 4 (.t 0)),
ia 3 (.box 4 (.t 1)),
ia 4 (.new [(.p (.i .i64 0)),(.p (.i .i64 0)),(.p (.s [])),.nil])]) (.seq (.reg [
  ia 5 (.ld 4 true (.t 2)),
ia 6 (.ld 4 true (.t 3)),
ia 7 (.bsl 4 24 [(.p (.i .i64 0)),(.p (.i .i64 0)),(.p (.s [])),.nil] 2 [(0,(.t 5)),(1,(.t 6))]),
ia 8 (.build [(.p (.i .i64 0)),(.p (.i .i64 0)),(.p (.s [])),.nil] [(0,(1,(ci 3))),(3,(1,(.t 7)))]),
io (.st 4 (.t 4) (.t 8))]) .ret)),[(.cell 4 4 true)]⟩
theorem cc31 : ccF Try.prog [] Try.f31 = some (stripF F31) := by kernel_rfl
def F32b0 : C := (.seq (.seq (.reg [
  ia 5 (.mv (.t 4)),
ia 6 (.fad 3 (.t 1)),
ia 7 (.ld 1 false (.t 6)),
ia 8 (.len false (.t 7)),
ia 9 (.bin .lss (.t 5) (.t 8))]) (.cond (.t 9) .skip (.exit 0))) (.seq (.block 1 (.reg [
  ia 12 (.mv (.t 3)),
ia 13 (.fad 3 (.t 1)),
ia 14 (.ld 1 false (.t 13)),
ia 15 (.mv (.t 4)),
ia 16 (.ias 4 (.t 14) (.t 15)),
ia 17 (.ld 4 true (.t 16)),
ia 18 (.call (.f 32) [(.t 17)]),
ia 19 (.mx (.t 12) (.t 18)),
ia 3 (.mv (.t 19))])) (.reg [
  ia 10 (.mv (.t 4)),
ia 11 (.bin .add (.t 10) (ci 1)),
ia 4 (.mv (.t 11))])))
def F32 : FnC := ⟨1,(.seq (.reg [
  ia 1 (.box 4 (.t 0)),
ia 2 (.mv (ci 0))]) (.seq (.reg [
  ia 3 (.mv (ci 0))]) (.seq (.seq (.reg [
  ia 4 (.mv (ci 0))]) (.block 0 (.loop F32b0))) (.seq (.reg [
  ia 20 (.mv (.t 3)),
ia 21 (.bin .add (.t 20) (ci 1)),
ia 2 (.mv (.t 21))]) .ret)))),[(.tmp 2)]⟩
theorem cc32 : ccF Try.prog [] Try.f32 = some (stripF F32) := by kernel_rfl
def F33 : FnC := ⟨0,(.seq (.reg [
  ia 0 (.mv (.c (.a (.p (.b false)))))]) (.seq (.reg [
  ia 3 (.call (.f 61) [(ci 1)]),
ia 4 (.call (.f 61) [(ci 1)]),
ia 5 (.call (.f 46) [(.t 3),(.t 4)]),
ia 6 (.call (.f 45) [(.t 5)]),
ia 7 (.call (.f 45) [(.t 6)]),
ia 1 (.new [(.p (.i .i64 0)),(.p (.i .i64 0)),(.p (.s [])),.nil]),
io (.st 4 (.t 1) (.t 7))]) (.seq (.reg [
  ia 8 (.call (.f 61) [(ci 0)]),
ia 9 (.call (.f 61) [(ci 0)]),
ia 10 (.call (.f 61) [(ci 5)]),
ia 11 (.call (.f 46) [(.t 9),(.t 10)]),
ia 12 (.call (.f 46) [(.t 8),(.t 11)]),
ia 13 (.bsl 4 24 [(.p (.i .i64 0)),(.p (.i .i64 0)),(.p (.s [])),.nil] 1 [(0,(.t 12))]),
ia 14 (.build [(.p (.i .i64 0)),(.p (.i .i64 0)),(.p (.s [])),.nil] [(0,(1,(ci 6))),(2,(1,(.c (.a (.p (.s [65])))))),(1,(1,(ci 2))),(3,(1,(.t 13)))]),
ia 2 (.new [(.p (.i .i64 0)),(.p (.i .i64 0)),(.p (.s [])),.nil]),
io (.st 4 (.t 2) (.t 14))]) (.fz [1,2] (.seq (.reg [
  ia 15 (.ld 4 true (.t 1)),
ia 16 (.call (.f 37) [(.t 15)]),
ia 17 (.bsl 1 3 [(.p (.i .i64 0))] 2 [(0,(ci 2)),(1,(ci 0))]),
ia 18 (.call (.f 34) [(.t 16),(.t 17)]),
ia 19 (.mv (.t 18)),
ig 20 19 true (.ld 4 true (.t 1)),
ig 21 19 true (.call (.f 41) [(.t 20)]),
ig 22 19 true (.bin .eql (.t 21) (ci 1)),
ia 23 (.pick (.t 19) (.t 22) (.c (.a (.p (.b false))))),
ia 24 (.mv (.t 23)),
ig 25 24 true (.ld 4 true (.t 1)),
ig 26 24 true (.call (.f 42) [(.t 25)]),
ig 27 24 true (.bin .eql (.t 26) (ci 1)),
ia 28 (.pick (.t 24) (.t 27) (.c (.a (.p (.b false))))),
ia 29 (.mv (.t 28)),
ig 30 29 true (.ld 4 true (.t 1)),
ig 31 29 true (.call (.f 39) [(.t 30)]),
ig 32 29 true (.not (.t 31)),
ia 33 (.pick (.t 29) (.t 32) (.c (.a (.p (.b false))))),
ia 34 (.mv (.t 33)),
ig 35 34 true (.call (.f 61) [(ci 0)]),
ig 36 34 true (.call (.f 45) [(.t 35)]),
ig 37 34 true (.call (.f 39) [(.t 36)]),
ia 38 (.pick (.t 34) (.t 37) (.c (.a (.p (.b false))))),
ia 39 (.mv (.t 38)),
ig 40 39 true (.ld 4 true (.t 2)),
ig 41 39 true (.call (.f 37) [(.t 40)]),
ig 42 39 true (.bsl 1 3 [(.p (.i .i64 0))] 2 [(0,(ci 0)),(1,(ci 2))]),
ig 43 39 true (.call (.f 34) [(.t 41),(.t 42)]),
ia 44 (.pick (.t 39) (.t 43) (.c (.a (.p (.b false))))),
ia 45 (.mv (.t 44)),
ig 46 45 true (.ld 4 true (.t 2)),
ig 47 45 true (.call (.f 35) [(.t 46)]),
ig 48 45 true (.bsl 1 3 [(.p (.i .i64 0))] 1 [(0,(ci 3))]),
ig 49 45 true (.call (.f 34) [(.t 47),(.t 48)]),
ia 50 (.pick (.t 45) (.t 49) (.c (.a (.p (.b false))))),
ia 51 (.mv (.t 50)),
ig 52 51 true (.call (.f 61) [(ci 4)]),
ig 53 51 true (.call (.f 61) [(ci 1)]),
ig 54 51 true (.call (.f 61) [(ci 4)]),
ig 55 51 true (.call (.f 46) [(.t 53),(.t 54)]),
ig 56 51 true (.call (.f 46) [(.t 52),(.t 55)]),
ig 57 51 true (.call (.f 35) [(.t 56)]),
ig 58 51 true (.bsl 1 3 [(.p (.i .i64 0))] 2 [(0,(ci 1)),(1,(ci 4))]),
ig 59 51 true (.call (.f 34) [(.t 57),(.t 58)]),
ia 60 (.pick (.t 51) (.t 59) (.c (.a (.p (.b false))))),
ia 61 (.mv (.t 60)),
ig 62 61 true (.ld 4 true (.t 1)),
ig 63 61 true (.call (.f 35) [(.t 62)]),
ig 64 61 true (.len false (.t 63)),
ig 65 61 true (.bin .eql (.t 64) (ci 0)),
ia 66 (.pick (.t 61) (.t 65) (.c (.a (.p (.b false))))),
ia 0 (.mv (.t 66))]) .ret))))),[(.tmp 0)]⟩
theorem cc33 : ccF Try.prog [] Try.f33 = some (stripF F33) := by kernel_rfl
def F34b0 : C := (.seq (.seq (.reg [
  ia 11 (.mv (.t 5)),
ia 12 (.mv (.t 0)),
ia 13 (.len false (.t 12)),
ia 14 (.bin .lss (.t 11) (.t 13))]) (.cond (.t 14) .skip (.exit 0))) (.seq (.block 1 (.seq (.reg [
  ir 17 (.mv (.t 0)),
ir 18 (.mv (.t 5)),
ir 19 (.ias 1 (.t 17) (.t 18)),
ir 20 (.ld 1 false (.t 19)),
ir 21 (.mv (.t 1)),
ir 22 (.mv (.t 5)),
ir 23 (.ias 1 (.t 21) (.t 22)),
ir 24 (.ld 1 false (.t 23)),
ia 25 (.bin .neq (.t 20) (.t 24))]) (.cond (.t 25) (.seq (.reg [
  ia 4 (.mv (.c (.a (.p (.b false)))))]) .ret) .skip))) (.reg [
  ia 15 (.mv (.t 5)),
ia 16 (.bin .add (.t 15) (ci 1)),
ia 5 (.mv (.t 16))])))
def F34 : FnC := ⟨2,(.seq (.reg [
  ia 4 (.mv (.c (.a (.p (.b false)))))]) (.seq (.seq (.reg [
  ia 6 (.mv (.t 0)),
ia 7 (.len false (.t 6)),
ia 8 (.mv (.t 1)),
ia 9 (.len false (.t 8)),
ia 10 (.bin .neq (.t 7) (.t 9))]) (.cond (.t 10) (.seq (.reg [
  ia 4 (.mv (.c (.a (.p (.b false)))))]) .ret) .skip)) (.seq (.seq (.reg [
  ia 5 (.mv (ci 0))]) (.block 0 (.loop F34b0))) (.seq (.reg [
  ia 4 (.mv (.c (.a (.p (.b true)))))]) .ret)))),[(.tmp 4)]⟩
theorem cc34 : ccF Try.prog [] Try.f34 = some (stripF F34) := by kernel_rfl
def F37 : FnC := ⟨1,(.seq (.reg [
  ia 1 (.box 4 (.t 0)),
ia 2 (.mv (.c (.a .nil)))]) (.seq (.reg [
  ia 3 (.ld 4 true (.t 1)),
ia 4 (.call (.f 67) [(.t 3)]),
ia 5 (.call (.f 66) [(.t 4)]),
ia 2 (.mv (.t 5))]) .ret)),[(.tmp 2)]⟩
theorem cc37 : ccF Try.prog [] Try.f37 = some (stripF F37) := by kernel_rfl
def F39 : FnC := ⟨1,(.seq (.reg [
  ia 1 (.box 4 (.t 0)),
ia 2 (.mv (.c (.a (.p (.b false)))))]) (.seq (.reg [
  ia 3 (.ld 4 true (.t 1)),
ia 4 (.call (.f 41) [(.t 3)]),
ia 5 (.bin .eql (.t 4) (ci 0)),
ia 2 (.mv (.t 5))]) .ret)),[(.tmp 2)]⟩
theorem cc39 : ccF Try.prog [] Try.f39 = some (stripF F39) := by kernel_rfl
def F41 : FnC := ⟨1,(.seq (.reg [
  ia 1 (.box 4 (.t 0)),
ia 2 (.mv (ci 0))]) (.seq (.reg [
  ia 3 (.new [(.p (.i .i64 0))]),
io (.st 1 (.t 3) (ci 0))]) (.seq (.seq (.reg [
  ia 5 (.ld 4 true (.t 1)),
ia 6 (.call (.f 67) [(.t 5)])]) (.block 0 (.rng (.t 6) [7] (.reg [
  ia 4 (.mv (.t 7))]) (.block 1 (.reg [
  ia 8 (.ld 1 false (.t 3)),
ia 9 (.mv (.t 4)),
ia 10 (.bin .sub (.t 9) (ci 1)),
ia 11 (.mx (.t 10) (ci 0)),
ia 12 (.bin .add (.t 8) (.t 11)),
io (.st 1 (.t 3) (.t 12))]))))) (.seq (.reg [
  ia 13 (.ld 1 false (.t 3)),
ia 2 (.mv (.t 13))]) .ret)))),[(.tmp 2)]⟩
theorem cc41 : ccF Try.prog [] Try.f41 = some (stripF F41) := by kernel_rfl
def F42 : FnC := ⟨1,(.seq (.reg [
  ia 1 (.box 4 (.t 0)),
ia 2 (.mv (ci 0))]) (.seq (.reg [
  ia 3 (.new [(.p (.i .i64 0))]),
io (.st 1 (.t 3) (ci 0))]) (.seq (.seq (.reg [
  ia 5 (.ld 4 true (.t 1)),
ia 6 (.call (.f 67) [(.t 5)])]) (.block 0 (.rng (.t 6) [7] (.reg [
  ia 4 (.mv (.t 7))]) (.block 1 (.seq (.reg [
  ia 8 (.mv (.t 4)),
ia 9 (.bin .eql (.t 8) (ci 0))]) (.cond (.t 9) (.reg [
  ia 10 (.ld 1 false (.t 3)),
ia 11 (.bin .add (.t 10) (ci 1)),
io (.st 1 (.t 3) (.t 11))]) .skip)))))) (.seq (.reg [
  ia 12 (.ld 1 false (.t 3)),
ia 2 (.mv (.t 12))]) .ret)))),[(.tmp 2)]⟩
theorem cc42 : ccF Try.prog [] Try.f42 = some (stripF F42) := by kernel_rfl
def F45 : FnC := ⟨1,(.seq (.reg [
  ia 1 (.box 4 (.t 0)),
ia 2 (.new [(.p (.i .i64 0)),(.p (.i .i64 0)),(.p (.s [])),.nil])]) (.seq (.reg [
  ia 3 (.ld 4 true (.t 1)),
ia 4 (.bsl 4 24 [(.p (.i .i64 0)),(.p (.i .i64 0)),(.p (.s [])),.nil] 1 [(0,(.t 3))]),
ia 5 (.build [(.p (.i .i64 0)),(.p (.i .i64 0)),(.p (.s [])),.nil] [(0,(1,(ci 2))),(3,(1,(.t 4)))]),
io (.st 4 (.t 2) (.t 5))]) .ret)),[(.cell 2 4 true)]⟩
theorem cc45 : ccF Try.prog [] Try.f45 = some (stripF F45) := by kernel_rfl
def F46 : FnC := ⟨2,(.seq (.reg [
  ia 2 (.box 4 (.t 0)),
ia 3 (.box 4 (.t 1)),
ia 4 (.new [(.p (.i .i64 0)),(.p (.i .i64 0)),(.p (.s [])),.nil])]) (.seq (.reg [
  ia 5 (.ld 4 true (.t 2)),
ia 6 (.ld 4 true (.t 3)),
ia 7 (.bsl 4 24 [(.p (.i .i64 0)),(.p (.i .i64 0)),(.p (.s [])),.nil] 2 [(0,(.t 5)),(1,(.t 6))]),
ia 8 (.build [(.p (.i .i64 0)),(.p (.i .i64 0)),(.p (.s [])),.nil] [(0,(1,(ci 3))),(3,(1,(.t 7)))]),
io (.st 4 (.t 4) (.t 8))]) .ret)),[(.cell 4 4 true)]⟩
theorem cc46 : ccF Try.prog [] Try.f46 = some (stripF F46) := by kernel_rfl
def F48 : FnC := ⟨1,(.seq (.reg [
  ia 1 (.box 4 (.t 0)),
ia 2 (.new [(.p (.i .i64 0)),(.p (.i .i64 0)),(.p (.s [])),.nil]),
ia 3 (.mv (ci 0))]) (.seq (.seq (.reg [
  ia 4 (.ld 4 true (.t 1)),
ia 5 (.call (.f 27) [(.t 4),(ci 4611686018427387904)]),
ia 6 (.not (.t 5))]) (.cond (.t 6) (.seq (.reg [
  ia 7 (.ld 4 true (.t 1)),
io (.st 4 (.t 2) (.t 7)),
ia 3 (.mv (ci 0))]) .ret) .skip)) (.seq (.reg [
  ia 8 (.ld 4 true (.t 1)),
ia 9 (.call (.f 68) [(.t 8)]),
ia 10 (.ext (.t 9) 0),
ia 11 (.ext (.t 9) 1),
io (.st 4 (.t 2) (.t 10)),
ia 3 (.mv (.t 11))]) .ret))),[(.cell 2 4 true),(.tmp 3)]⟩
theorem cc48 : ccF Try.prog [] Try.f48 = some (stripF F48) := by kernel_rfl
def F49b0 : C := (.seq (.seq (.reg [
  ia 16 (.mv (.t 7)),
ia 17 (.fad 3 (.t 3)),
ia 18 (.ld 1 false (.t 17)),
ia 19 (.len false (.t 18)),
ia 20 (.bin .lss (.t 16) (.t 19))]) (.cond (.t 20) .skip (.exit 0))) (.seq (.block 1 (.seq (.reg [
  ia 23 (.fad 3 (.t 3)),
ia 24 (.ld 1 false (.t 23)),
ia 25 (.mv (.t 7)),
ia 26 (.ias 4 (.t 24) (.t 25)),
ia 27 (.ld 4 true (.t 26)),
ia 28 (.mv (.t 1)),
ia 29 (.mv (.t 2)),
ia 30 (.bin .sub (.t 29) (ci 1)),
ia 31 (.call (.f 49) [(.t 27),(.t 28),(.t 30)]),
ia 1 (.mv (.t 31))]) (.seq (.reg [
  ia 32 (.mv (.t 1)),
ia 33 (.bin .lss (.t 32) (ci 0))]) (.cond (.t 33) (.seq (.reg [
  ia 6 (.mv (.c (.a (.p (.i .i64 (-1))))))]) .ret) .skip)))) (.reg [
  ia 21 (.mv (.t 7)),
ia 22 (.bin .add (.t 21) (ci 1)),
ia 7 (.mv (.t 22))])))
def F49 : FnC := ⟨3,(.seq (.reg [
  ia 3 (.box 4 (.t 0)),
ia 6 (.mv (ci 0))]) (.seq (.seq (.reg [
  ia 8 (.mv (.t 1)),
ia 9 (.bin .lss (.t 8) (ci 1)),
ia 10 (.mv (.t 9)),
ig 11 10 false (.mv (.t 2)),
ig 12 10 false (.bin .lss (.t 11) (ci 1)),
ia 13 (.pick (.t 10) (.c (.a (.p (.b true)))) (.t 12))]) (.cond (.t 13) (.seq (.reg [
  ia 6 (.mv (.c (.a (.p (.i .i64 (-1))))))]) .ret) .skip)) (.seq (.reg [
  ia 14 (.mv (.t 1)),
ia 15 (.bin .sub (.t 14) (ci 1)),
ia 1 (.mv (.t 15))]) (.seq (.seq (.reg [
  ia 7 (.mv (ci 0))]) (.block 0 (.loop F49b0))) (.seq (.reg [
  ia 34 (.mv (.t 1)),
ia 6 (.mv (.t 34))]) .ret))))),[(.tmp 6)]⟩
theorem cc49 : ccF Try.prog [] Try.f49 = some (stripF F49) := by kernel_rfl
def F51b0 : C := (.seq (.reg [
  ia 36 (.bin .lss (.t 35) (.t 34))]) (.seq (.cond (.t 36) .skip (.exit 1)) (.seq (.block 2 (.seq (.reg [
  ia 37 (.mv (.t 35)),
ia 38 (.ias 4 (.t 33) (.t 35)),
ia 39 (.ld 4 true (.t 38)),
ia 9 (.new [(.p (.i .i64 0)),(.p (.i .i64 0)),(.p (.s [])),.nil]),
ia 8 (.mv (.t 37)),
io (.st 4 (.t 9) (.t 39))]) (.reg [
  ia 40 (.mv (.t 7)),
ia 41 (.mv (.t 8)),
ia 42 (.ld 4 true (.t 9)),
ia 43 (.mv (.t 1)),
ia 44 (.mv (.t 2)),
ia 45 (.call (.f 51) [(.t 42),(.t 43),(.t 44)]),
ia 46 (.ias 4 (.t 40) (.t 41)),
io (.st 4 (.t 46) (.t 45))]))) (.reg [
  ia 47 (.bin .add (.t 35) (ci 1)),
ia 35 (.mv (.t 47))]))))
def F51 : FnC := ⟨3,(.seq (.reg [
  ia 3 (.box 4 (.t 0)),
ia 6 (.new [(.p (.i .i64 0)),(.p (.i .i64 0)),(.p (.s [])),.nil])]) (.seq (.seq (.reg [
  ia 10 (.fad 0 (.t 3)),
ia 11 (.ld 1 false (.t 10))]) (.block 0 (.seq (.reg [
  ia 13 (.bin .eql (.t 11) (ci 1)),
ia 12 (.mv (.t 13))]) (.cond (.t 12) (.seq (.reg [
  ia 14 (.mv (.t 2)),
ia 15 (.ld 4 true (.t 3)),
ia 16 (.mv (.t 1)),
ia 17 (.call (.t 14) [(.t 15),(.t 16)]),
io (.st 4 (.t 6) (.t 17))]) .ret) (.seq (.reg [
  ia 19 (.bin .eql (.t 11) (ci 2)),
ia 18 (.mv (.t 19))]) (.cond (.t 18) (.reg [
  ia 20 (.mv (.t 1)),
ia 21 (.bin .add (.t 20) (ci 1)),
ia 1 (.mv (.t 21))]) (.seq (.reg [
  ia 23 (.bin .eql (.t 11) (ci 6)),
ia 22 (.mv (.t 23))]) (.cond (.t 22) (.reg [
  ia 24 (.mv (.t 1)),
ia 25 (.fad 1 (.t 3)),
ia 26 (.ld 1 false (.t 25)),
ia 27 (.bin .add (.t 24) (.t 26)),
ia 1 (.mv (.t 27))]) .skip)))))))) (.seq (.reg [
  ia 28 (.fad 3 (.t 3)),
ia 29 (.ld 1 false (.t 28)),
ia 30 (.len false (.t 29)),
ia 31 (.msl 4 24 56 [(.p (.i .i64 0)),(.p (.i .i64 0)),(.p (.s [])),.nil] (.t 30) (.t 30)),
ia 7 (.mv (.t 31))]) (.seq (.seq (.reg [
  ia 32 (.fad 3 (.t 3)),
ia 33 (.ld 1 false (.t 32)),
ia 34 (.len false (.t 33)),
ia 35 (.mv (ci 0))]) (.block 1 (.loop F51b0))) (.seq (.reg [
  ia 48 (.mv (.t 7)),
ia 49 (.fad 3 (.t 3)),
io (.st 1 (.t 49) (.t 48))]) (.seq (.reg [
  ia 50 (.ld 4 true (.t 3)),
io (.st 4 (.t 6) (.t 50))]) .ret)))))),[(.cell 6 4 true)]⟩
theorem cc51 : ccF Try.prog [] Try.f51 = some (stripF F51) := by kernel_rfl
def F54 : FnC := ⟨1,(.seq (.reg [
  ia 1 (.box 4 (.t 0)),
ia 2 (.mv (ci 0))]) (.seq (.seq (.reg [
  ia 3 (.fad 0 (.t 1)),
ia 4 (.ld 1 false (.t 3)),
ia 5 (.bin .eql (.t 4) (ci 2))]) (.cond (.t 5) (.seq (.reg [
  ia 2 (.mv (ci 1))]) .ret) .skip)) (.seq (.seq (.reg [
  ia 6 (.fad 0 (.t 1)),
ia 7 (.ld 1 false (.t 6)),
ia 8 (.bin .eql (.t 7) (ci 6))]) (.cond (.t 8) (.seq (.reg [
  ia 9 (.fad 1 (.t 1)),
ia 10 (.ld 1 false (.t 9)),
ia 2 (.mv (.t 10))]) .ret) .skip)) (.seq (.reg [
  ia 2 (.mv (ci 0))]) .ret)))),[(.tmp 2)]⟩
theorem cc54 : ccF Try.prog [] Try.f54 = some (stripF F54) := by kernel_rfl
def F56b0 : C := (.seq (.seq (.reg [
  ia 41 (.mv (.t 10)),
ia 42 (.fad 3 (.t 4)),
ia 43 (.ld 1 false (.t 42)),
ia 44 (.len false (.t 43)),
ia 45 (.bin .lss (.t 41) (.t 44))]) (.cond (.t 45) .skip (.exit 0))) (.seq (.block 1 (.reg [
  ir 48 (.fad 3 (.t 9)),
ir 49 (.ld 1 false (.t 48)),
ir 50 (.fad 3 (.t 4)),
ir 51 (.ld 1 false (.t 50)),
ir 52 (.mv (.t 10)),
ir 53 (.ias 4 (.t 51) (.t 52)),
ir 54 (.ld 4 true (.t 53)),
ir 55 (.mv (.t 1)),
ir 56 (.ld 4 true (.t 6)),
ir 57 (.mv (.t 3)),
ir 58 (.ld 4 true (.t 4)),
ir 59 (.call (.f 54) [(.t 58)]),
ir 60 (.bin .add (.t 57) (.t 59)),
ir 61 (.call (.f 56) [(.t 54),(.t 55),(.t 56),(.t 60)]),
⟨(.some 62),.none,(.bsl 4 24 [(.p (.i .i64 0)),(.p (.i .i64 0)),(.p (.s [])),.nil] 1 [(0,(.t 61))]),.ad⟩,
ia 63 (.app 4 24 56 (.t 49) (.t 62)),
ia 64 (.fad 3 (.t 9)),
io (.st 1 (.t 64) (.t 63))])) (.reg [
  ia 46 (.mv (.t 10)),
ia 47 (.bin .add (.t 46) (ci 1)),
ia 10 (.mv (.t 47))])))
def F56 : FnC := ⟨4,(.seq (.reg [
  ia 4 (.box 4 (.t 0)),
ia 6 (.box 4 (.t 2)),
ia 8 (.new [(.p (.i .i64 0)),(.p (.i .i64 0)),(.p (.s [])),.nil])]) (.seq (.seq (.reg [
  ia 11 (.fad 0 (.t 4)),
ia 12 (.ld 1 false (.t 11)),
ia 13 (.bin .eql (.t 12) (ci 1))]) (.cond (.t 13) (.seq (.seq (.reg [
  ia 14 (.fad 1 (.t 4)),
ia 15 (.ld 1 false (.t 14)),
ia 16 (.mv (.t 1)),
ia 17 (.mv (.t 3)),
ia 18 (.bin .add (.t 16) (.t 17)),
ia 19 (.bin .eql (.t 15) (.t 18))]) (.cond (.t 19) (.seq (.reg [
  ia 20 (.ld 4 true (.t 6)),
ia 21 (.mv (.t 3)),
ia 22 (.call (.f 20) [(.t 20),(.t 21),(ci 0)]),
io (.st 4 (.t 8) (.t 22))]) .ret) .skip)) (.seq (.seq (.reg [
  ia 23 (.fad 1 (.t 4)),
ia 24 (.ld 1 false (.t 23)),
ia 25 (.mv (.t 1)),
ia 26 (.mv (.t 3)),
ia 27 (.bin .add (.t 25) (.t 26)),
ia 28 (.bin .gtr (.t 24) (.t 27))]) (.cond (.t 28) (.reg [
  ia 29 (.fad 1 (.t 4)),
ia 30 (.ld 1 false (.t 29)),
ia 31 (.bin .sub (.t 30) (ci 1)),
ia 32 (.fad 1 (.t 4)),
io (.st 1 (.t 32) (.t 31))]) .skip)) (.seq (.reg [
  ia 33 (.ld 4 true (.t 4)),
io (.st 4 (.t 8) (.t 33))]) .ret))) .skip)) (.seq (.reg [
  ia 34 (.fad 0 (.t 4)),
ia 35 (.ld 1 false (.t 34)),
ia 36 (.fad 1 (.t 4)),
ia 37 (.ld 1 false (.t 36)),
ia 38 (.fad 2 (.t 4)),
ia 39 (.ld 1 false (.t 38)),
ia 40 (.build [(.p (.i .i64 0)),(.p (.i .i64 0)),(.p (.s [])),.nil] [(0,(1,(.t 35))),(1,(1,(.t 37))),(2,(1,(.t 39)))]),
ia 9 (.new [(.p (.i .i64 0)),(.p (.i .i64 0)),(.p (.s [])),.nil]),
io (.st 4 (.t 9) (.t 40))]) (.seq (.seq (.reg [
  ia 10 (.mv (ci 0))]) (.block 0 (.loop F56b0))) (.seq (.reg [
  ia 65 (.ld 4 true (.t 9)),
io (.st 4 (.t 8) (.t 65))]) .ret))))),[(.cell 8 4 true)]⟩
theorem cc56 : ccF Try.prog [] Try.f56 = some (stripF F56) := by kernel_rfl
def F57 : FnC := ⟨4,(.seq (.reg [
  ia 4 (.box 4 (.t 0)),
ia 6 (.new [(.p (.i .i64 0)),(.p (.i .i64 0)),(.p (.s [])),.nil])]) (.seq (.seq (.reg [
  ia 7 (.fad 1 (.t 4)),
ia 8 (.ld 1 false (.t 7)),
ia 9 (.ld 1 false (.t 2)),
ia 10 (.mv (.t 1)),
ia 11 (.bin .add (.t 9) (.t 10)),
ia 12 (.bin .eql (.t 8) (.t 11))]) (.cond (.t 12) (.reg [
  ia 13 (.ld 1 false (.t 3)),
ia 14 (.bin .add (.t 13) (ci 1)),
io (.st 1 (.t 3) (.t 14))]) .skip)) (.seq (.reg [
  ia 15 (.ld 4 true (.t 4)),
io (.st 4 (.t 6) (.t 15))]) .ret))),[(.cell 6 4 true)]⟩
theorem cc57 : ccF Try.prog [] Try.f57 = some (stripF F57) := by kernel_rfl
def F59b0 : C := (.seq (.seq (.reg [
  ia 51 (.mv (.t 8)),
ia 52 (.fad 3 (.t 3)),
ia 53 (.ld 1 false (.t 52)),
ia 54 (.len false (.t 53)),
ia 55 (.bin .lss (.t 51) (.t 54))]) (.cond (.t 55) .skip (.exit 0))) (.seq (.block 1 (.reg [
  ir 58 (.fad 3 (.t 7)),
ir 59 (.ld 1 false (.t 58)),
ir 60 (.fad 3 (.t 3)),
ir 61 (.ld 1 false (.t 60)),
ir 62 (.mv (.t 8)),
ir 63 (.ias 4 (.t 61) (.t 62)),
ir 64 (.ld 4 true (.t 63)),
ir 65 (.mv (.t 1)),
ir 66 (.mv (.t 2)),
ir 67 (.ld 4 true (.t 3)),
ir 68 (.call (.f 54) [(.t 67)]),
ir 69 (.bin .add (.t 66) (.t 68)),
ir 70 (.call (.f 59) [(.t 64),(.t 65),(.t 69)]),
⟨(.some 71),.none,(.bsl 4 24 [(.p (.i .i64 0)),(.p (.i .i64 0)),(.p (.s [])),.nil] 1 [(0,(.t 70))]),.ad⟩,
ia 72 (.app 4 24 56 (.t 59) (.t 71)),
ia 73 (.fad 3 (.t 7)),
io (.st 1 (.t 73) (.t 72))])) (.reg [
  ia 56 (.mv (.t 8)),
ia 57 (.bin .add (.t 56) (ci 1)),
ia 8 (.mv (.t 57))])))
def F59 : FnC := ⟨3,(.seq (.reg [
  ia 3 (.box 4 (.t 0)),
ia 6 (.new [(.p (.i .i64 0)),(.p (.i .i64 0)),(.p (.s [])),.nil])]) (.seq (.seq (.reg [
  ia 9 (.fad 0 (.t 3)),
ia 10 (.ld 1 false (.t 9)),
ia 11 (.bin .eql (.t 10) (ci 1))]) (.cond (.t 11) (.seq (.seq (.reg [
  ia 12 (.fad 1 (.t 3)),
ia 13 (.ld 1 false (.t 12)),
ia 14 (.mv (.t 2)),
ia 15 (.bin .lss (.t 13) (.t 14))]) (.cond (.t 15) (.seq (.reg [
  ia 16 (.ld 4 true (.t 3)),
io (.st 4 (.t 6) (.t 16))]) .ret) .skip)) (.seq (.seq (.reg [
  ia 17 (.fad 1 (.t 3)),
ia 18 (.ld 1 false (.t 17)),
ia 19 (.mv (.t 2)),
ia 20 (.mv (.t 1)),
ia 21 (.len false (.t 20)),
ia 22 (.bin .add (.t 19) (.t 21)),
ia 23 (.bin .lss (.t 18) (.t 22))]) (.cond (.t 23) (.seq (.reg [
  ia 24 (.mv (.t 1)),
ia 25 (.mv (.t 1)),
ia 26 (.len false (.t 25)),
ia 27 (.bin .sub (.t 26) (ci 1)),
ia 28 (.fad 1 (.t 3)),
ia 29 (.ld 1 false (.t 28)),
ia 30 (.mv (.t 2)),
ia 31 (.bin .sub (.t 29) (.t 30)),
ia 32 (.bin .sub (.t 27) (.t 31)),
ia 33 (.ias 4 (.t 24) (.t 32)),
ia 34 (.ld 4 true (.t 33)),
ia 35 (.mv (.t 2)),
ia 36 (.call (.f 20) [(.t 34),(.t 35),(ci 0)]),
io (.st 4 (.t 6) (.t 36))]) .ret) .skip)) (.seq (.reg [
  ia 37 (.fad 1 (.t 3)),
ia 38 (.ld 1 false (.t 37)),
ia 39 (.mv (.t 1)),
ia 40 (.len false (.t 39)),
ia 41 (.bin .sub (.t 38) (.t 40)),
ia 42 (.fad 1 (.t 3)),
io (.st 1 (.t 42) (.t 41))]) (.seq (.reg [
  ia 43 (.ld 4 true (.t 3)),
io (.st 4 (.t 6) (.t 43))]) .ret)))) .skip)) (.seq (.reg [
  ia 44 (.fad 0 (.t 3)),
ia 45 (.ld 1 false (.t 44)),
ia 46 (.fad 1 (.t 3)),
ia 47 (.ld 1 false (.t 46)),
ia 48 (.fad 2 (.t 3)),
ia 49 (.ld 1 false (.t 48)),
ia 50 (.build [(.p (.i .i64 0)),(.p (.i .i64 0)),(.p (.s [])),.nil] [(0,(1,(.t 45))),(1,(1,(.t 47))),(2,(1,(.t 49)))]),
ia 7 (.new [(.p (.i .i64 0)),(.p (.i .i64 0)),(.p (.s [])),.nil]),
io (.st 4 (.t 7) (.t 50))]) (.seq (.seq (.reg [
  ia 8 (.mv (ci 0))]) (.block 0 (.loop F59b0))) (.seq (.reg [
  ia 74 (.ld 4 true (.t 7)),
io (.st 4 (.t 6) (.t 74))]) .ret))))),[(.cell 6 4 true)]⟩
theorem cc59 : ccF Try.prog [] Try.f59 = some (stripF F59) := by kernel_rfl
def F60b1 : C := (.seq (.seq (.reg [
  ia 52 (.mv (.t 8)),
ia 53 (.mv (.t 7)),
ia 54 (.bin .lss (.t 52) (.t 53)),
ia 55 (.mv (.t 54)),
ig 56 55 true (.fad 0 (.t 3)),
ig 57 55 true (.ld 1 false (.t 56)),
ig 58 55 true (.bin .eql (.t 57) (ci 5)),
ia 59 (.pick (.t 55) (.t 58) (.c (.a (.p (.b false)))))]) (.cond (.t 59) .skip (.exit 2))) (.seq (.block 3 (.seq (.reg [
  ir 62 (.fad 3 (.t 3)),
ir 63 (.ld 1 false (.t 62)),
ir 64 (.mv (.t 8)),
ir 65 (.ias 4 (.t 63) (.t 64)),
ir 66 (.fad 2 (.t 65)),
ir 67 (.ld 1 false (.t 66)),
ir 68 (.fad 3 (.t 3)),
ir 69 (.ld 1 false (.t 68)),
ir 70 (.mv (.t 7)),
ir 71 (.ias 4 (.t 69) (.t 70)),
ir 72 (.fad 2 (.t 71)),
ir 73 (.ld 1 false (.t 72)),
ia 74 (.bin .eql (.t 67) (.t 73))]) (.cond (.t 74) (.seq (.reg [
  ia 6 (.mv (.c (.a (.p (.b false)))))]) .ret) .skip))) (.reg [
  ia 60 (.mv (.t 8)),
ia 61 (.bin .add (.t 60) (ci 1)),
ia 8 (.mv (.t 61))])))
def F60b0 : C := (.seq (.seq (.reg [
  ia 30 (.mv (.t 7)),
ia 31 (.fad 3 (.t 3)),
ia 32 (.ld 1 false (.t 31)),
ia 33 (.len false (.t 32)),
ia 34 (.bin .lss (.t 30) (.t 33))]) (.cond (.t 34) .skip (.exit 0))) (.seq (.block 1 (.seq (.seq (.reg [
  ir 37 (.fad 3 (.t 3)),
ir 38 (.ld 1 false (.t 37)),
ir 39 (.mv (.t 7)),
ir 40 (.ias 4 (.t 38) (.t 39)),
ir 41 (.ld 4 true (.t 40)),
ir 42 (.mv (.t 1)),
ir 43 (.fad 0 (.t 3)),
ir 44 (.ld 1 false (.t 43)),
ir 45 (.bin .eql (.t 44) (ci 5)),
ir 46 (.mv (.t 45)),
ih 47 46 true (.mv (.t 7)),
ih 48 46 true (.bin .gtr (.t 47) (ci 0)),
ir 49 (.pick (.t 46) (.t 48) (.c (.a (.p (.b false))))),
ia 50 (.call (.f 60) [(.t 41),(.t 42),(.t 49)]),
ia 51 (.not (.t 50))]) (.cond (.t 51) (.seq (.reg [
  ia 6 (.mv (.c (.a (.p (.b false)))))]) .ret) .skip)) (.seq (.reg [
  ia 8 (.mv (ci 1))]) (.block 2 (.loop F60b1))))) (.reg [
  ia 35 (.mv (.t 7)),
ia 36 (.bin .add (.t 35) (ci 1)),
ia 7 (.mv (.t 36))])))
def F60 : FnC := ⟨3,(.seq (.reg [
  ia 3 (.box 4 (.t 0)),
ia 6 (.mv (.c (.a (.p (.b false)))))]) (.seq (.seq (.reg [
  ia 9 (.mv (.t 1)),
ia 10 (.bin .lss (.t 9) (ci 0)),
ia 11 (.mv (.t 10)),
ig 12 11 false (.ld 4 true (.t 3)),
ig 13 11 false (.mv (.t 1)),
ig 14 11 false (.mv (.t 2)),
ig 15 11 false (.call (.f 70) [(.t 12),(.t 13),(.t 14)]),
ig 16 11 false (.not (.t 15)),
ia 17 (.pick (.t 11) (.c (.a (.p (.b true)))) (.t 16))]) (.cond (.t 17) (.seq (.reg [
  ia 6 (.mv (.c (.a (.p (.b false)))))]) .ret) .skip)) (.seq (.seq (.reg [
  ia 18 (.fad 0 (.t 3)),
ia 19 (.ld 1 false (.t 18)),
ia 20 (.bin .eql (.t 19) (ci 2))]) (.cond (.t 20) (.reg [
  ia 21 (.mv (.t 1)),
ia 22 (.bin .add (.t 21) (ci 1)),
ia 1 (.mv (.t 22))]) .skip)) (.seq (.seq (.reg [
  ia 23 (.fad 0 (.t 3)),
ia 24 (.ld 1 false (.t 23)),
ia 25 (.bin .eql (.t 24) (ci 6))]) (.cond (.t 25) (.reg [
  ia 26 (.mv (.t 1)),
ia 27 (.fad 1 (.t 3)),
ia 28 (.ld 1 false (.t 27)),
ia 29 (.bin .add (.t 26) (.t 28)),
ia 1 (.mv (.t 29))]) .skip)) (.seq (.seq (.reg [
  ia 7 (.mv (ci 0))]) (.block 0 (.loop F60b0))) (.seq (.reg [
  ia 6 (.mv (.c (.a (.p (.b true)))))]) .ret)))))),[(.tmp 6)]⟩
theorem cc60 : ccF Try.prog [] Try.f60 = some (stripF F60) := by kernel_rfl
def F61 : FnC := ⟨1,(.seq (.reg [
  ia 2 (.new [(.p (.i .i64 0)),(.p (.i .i64 0)),(.p (.s [])),.nil])]) (.seq (.reg [
  ia 3 (.mv (.t 0)),
ia 4 (.build [(.p (.i .i64 0)),(.p (.i .i64 0)),(.p (.s [])),.nil] [(0,(1,(ci 1))),(1,(1,(.t 3)))]),
io (.st 4 (.t 2) (.t 4))]) .ret)),[(.cell 2 4 true)]⟩
theorem cc61 : ccF Try.prog [] Try.f61 = some (stripF F61) := by kernel_rfl
def F62b0 : C := (.seq (.reg [
  ia 36 (.bin .lss (.t 35) (.t 34))]) (.seq (.cond (.t 36) .skip (.exit 1)) (.seq (.block 2 (.seq (.reg [
  ia 37 (.ias 4 (.t 33) (.t 35)),
ia 38 (.ld 4 true (.t 37)),
ia 7 (.new [(.p (.i .i64 0)),(.p (.i .i64 0)),(.p (.s [])),.nil]),
io (.st 4 (.t 7) (.t 38))]) (.reg [
  ia 39 (.ld 4 true (.t 7)),
ia 40 (.mv (.t 1)),
ia 41 (.mv (.t 2)),
ia 42 (.call (.f 62) [(.t 39),(.t 40),(.t 41)])]))) (.reg [
  ia 43 (.bin .add (.t 35) (ci 1)),
ia 35 (.mv (.t 43))]))))
def F62 : FnC := ⟨3,(.seq (.reg [
  ia 3 (.box 4 (.t 0))]) (.seq (.seq (.reg [
  ia 8 (.fad 0 (.t 3)),
ia 9 (.ld 1 false (.t 8))]) (.block 0 (.seq (.reg [
  ia 11 (.bin .eql (.t 9) (ci 1)),
ia 10 (.mv (.t 11))]) (.cond (.t 10) (.seq (.seq (.reg [
  ia 12 (.fad 1 (.t 3)),
ia 13 (.ld 1 false (.t 12)),
ia 14 (.mv (.t 1)),
ia 15 (.bin .geq (.t 13) (.t 14))]) (.cond (.t 15) (.reg [
  ia 16 (.mv (.t 2)),
ia 17 (.fad 1 (.t 3)),
ia 18 (.ld 1 false (.t 17)),
ia 19 (.mv (.t 1)),
ia 20 (.bin .sub (.t 18) (.t 19)),
ia 21 (.build [] []),
io (.mpt 3 (.t 16) (.t 20) (.t 21))]) .skip)) .ret) (.seq (.reg [
  ia 23 (.bin .eql (.t 9) (ci 2)),
ia 22 (.mv (.t 23))]) (.cond (.t 22) (.reg [
  ia 24 (.mv (.t 1)),
ia 25 (.bin .add (.t 24) (ci 1)),
ia 1 (.mv (.t 25))]) (.seq (.reg [
  ia 27 (.bin .eql (.t 9) (ci 6)),
ia 26 (.mv (.t 27))]) (.cond (.t 26) (.reg [
  ia 28 (.mv (.t 1)),
ia 29 (.fad 1 (.t 3)),
ia 30 (.ld 1 false (.t 29)),
ia 31 (.bin .add (.t 28) (.t 30)),
ia 1 (.mv (.t 31))]) .skip)))))))) (.seq (.reg [
  ia 32 (.fad 3 (.t 3)),
ia 33 (.ld 1 false (.t 32)),
ia 34 (.len false (.t 33)),
ia 35 (.mv (ci 0))]) (.block 1 (.loop F62b0))))),[]⟩
theorem cc62 : ccF Try.prog [] Try.f62 = some (stripF F62) := by kernel_rfl
def F66 : FnC := ⟨1,(.seq (.reg [
  ia 2 (.mv (.c (.a .nil)))]) (.seq (.reg [
  ia 3 (.mv (.t 0)),
ia 4 (.call (.f 74) [(.c (.a .nil)),(.t 3)]),
ia 2 (.mv (.t 4))]) .ret)),[(.tmp 2)]⟩
theorem cc66 : ccF Try.prog [] Try.f66 = some (stripF F66) := by kernel_rfl
def F67 : FnC := ⟨1,(.seq (.reg [
  ia 1 (.box 4 (.t 0)),
ia 2 (.mv (.c (.a (.raw .nilFunc))))]) (.seq (.reg [
  ia 3 (.fn 75 [(.t 1)]),
ia 2 (.mv (.t 3))]) .ret)),[(.tmp 2)]⟩
theorem cc67 : ccF Try.prog [] Try.f67 = some (stripF F67) := by kernel_rfl
def F68 : FnC := ⟨1,(.seq (.reg [
  ia 1 (.box 4 (.t 0)),
ia 2 (.new [(.p (.i .i64 0)),(.p (.i .i64 0)),(.p (.s [])),.nil]),
ia 3 (.mv (ci 0))]) (.seq (.seq (.reg [
  ia 6 (.fad 0 (.t 1)),
ia 7 (.ld 1 false (.t 6)),
ia 8 (.bin .neq (.t 7) (ci 3)),
ia 9 (.mv (.t 8)),
ig 10 9 true (.fad 0 (.t 1)),
ig 11 9 true (.ld 1 false (.t 10)),
ig 12 9 true (.bin .neq (.t 11) (ci 5)),
ia 13 (.pick (.t 9) (.t 12) (.c (.a (.p (.b false))))),
ia 14 (.mv (.t 13)),
ig 15 14 true (.fad 0 (.t 1)),
ig 16 14 true (.ld 1 false (.t 15)),
ig 17 14 true (.bin .neq (.t 16) (ci 8)),
ia 18 (.pick (.t 14) (.t 17) (.c (.a (.p (.b false)))))]) (.cond (.t 18) (.seq (.reg [
  ia 19 (.ld 4 true (.t 1)),
io (.st 4 (.t 2) (.t 19)),
ia 3 (.mv (ci 0))]) .ret) .skip)) (.seq (.reg [
  ia 20 (.fad 3 (.t 1)),
ia 21 (.ld 1 false (.t 20)),
ia 22 (.ias 4 (.t 21) (ci 0)),
ia 23 (.ld 4 true (.t 22)),
ia 4 (.new [(.p (.i .i64 0)),(.p (.i .i64 0)),(.p (.s [])),.nil]),
io (.st 4 (.t 4) (.t 23))]) (.seq (.seq (.reg [
  ia 24 (.ld 4 true (.t 4)),
ia 25 (.call (.f 79) [(.t 24)]),
ia 26 (.not (.t 25))]) (.cond (.t 26) (.seq (.reg [
  ia 27 (.ld 4 true (.t 1)),
ia 28 (.call (.f 80) [(.t 27),(ci 0)]),
ia 29 (.ext (.t 28) 0),
ia 30 (.ext (.t 28) 1),
io (.st 4 (.t 2) (.t 29)),
ia 3 (.mv (.t 30))]) .ret) .skip)) (.seq (.seq (.reg [
  ia 31 (.fad 0 (.t 1)),
ia 32 (.ld 1 false (.t 31)),
ia 33 (.bin .eql (.t 32) (ci 5))]) (.cond (.t 33) (.seq (.reg [
  ia 34 (.ld 4 true (.t 1)),
ia 35 (.call (.f 81) [(.t 34)]),
ia 36 (.ext (.t 35) 0),
ia 37 (.ext (.t 35) 1),
io (.st 4 (.t 2) (.t 36)),
ia 3 (.mv (.t 37))]) .ret) .skip)) (.seq (.seq (.reg [
  ia 38 (.fad 0 (.t 1)),
ia 39 (.ld 1 false (.t 38)),
ia 40 (.bin .eql (.t 39) (ci 3))]) (.cond (.t 40) (.seq (.seq (.reg [
  ia 41 (.fad 0 (.t 4)),
ia 42 (.ld 1 false (.t 41)),
ia 43 (.bin .eql (.t 42) (ci 2))]) (.cond (.t 43) (.seq (.reg [
  ir 44 (.fad 3 (.t 4)),
ir 45 (.ld 1 false (.t 44)),
ir 46 (.ias 4 (.t 45) (ci 0)),
ir 47 (.ld 4 true (.t 46)),
ir 48 (.fad 3 (.t 1)),
ir 49 (.ld 1 false (.t 48)),
ir 50 (.ias 4 (.t 49) (ci 1)),
ir 51 (.ld 4 true (.t 50)),
ia 52 (.call (.f 22) [(.t 47),(ci 0),(.t 51)]),
io (.st 4 (.t 2) (.t 52)),
ia 3 (.mv (ci 1))]) .ret) .skip)) (.seq (.reg [
  ia 53 (.call (.f 82) []),
ia 54 (.ext (.t 53) 0),
ia 55 (.ext (.t 53) 1),
io (.st 4 (.t 2) (.t 54)),
ia 3 (.mv (.t 55))]) .ret)) .skip)) (.seq (.reg [
  ia 56 (.fad 3 (.t 1)),
ia 57 (.ld 1 false (.t 56)),
ia 58 (.ias 4 (.t 57) (ci 1)),
ia 59 (.ld 4 true (.t 58)),
ia 5 (.new [(.p (.i .i64 0)),(.p (.i .i64 0)),(.p (.s [])),.nil]),
io (.st 4 (.t 5) (.t 59))]) (.seq (.seq (.reg [
  ia 60 (.fad 0 (.t 4)),
ia 61 (.ld 1 false (.t 60)),
ia 62 (.bin .neq (.t 61) (ci 7))]) (.cond (.t 62) (.seq (.reg [
  ia 63 (.call (.f 82) []),
ia 64 (.ext (.t 63) 0),
ia 65 (.ext (.t 63) 1),
io (.st 4 (.t 2) (.t 64)),
ia 3 (.mv (.t 65))]) .ret) .skip)) (.seq (.seq (.reg [
  ia 66 (.ld 4 true (.t 5)),
ia 67 (.call (.f 79) [(.t 66)]),
ia 68 (.not (.t 67))]) (.cond (.t 68) (.seq (.reg [
  ia 69 (.ld 4 true (.t 1)),
ia 70 (.call (.f 80) [(.t 69),(ci 1)]),
ia 71 (.ext (.t 70) 0),
ia 72 (.ext (.t 70) 1),
io (.st 4 (.t 2) (.t 71)),
ia 3 (.mv (.t 72))]) .ret) .skip)) (.seq (.seq (.reg [
  ia 73 (.fad 0 (.t 5)),
ia 74 (.ld 1 false (.t 73)),
ia 75 (.bin .neq (.t 74) (ci 7))]) (.cond (.t 75) (.seq (.reg [
  ia 76 (.call (.f 82) []),
ia 77 (.ext (.t 76) 0),
ia 78 (.ext (.t 76) 1),
io (.st 4 (.t 2) (.t 77)),
ia 3 (.mv (.t 78))]) .ret) .skip)) (.seq (.reg [
  ia 79 (.fad 2 (.t 1)),
ia 80 (.ld 1 false (.t 79)),
ia 81 (.fad 1 (.t 4)),
ia 82 (.ld 1 false (.t 81)),
ia 83 (.fad 1 (.t 5)),
ia 84 (.ld 1 false (.t 83)),
ia 85 (.call (.f 83) [(.t 80),(.t 82),(.t 84)]),
ia 86 (.ext (.t 85) 0),
ia 87 (.ext (.t 85) 1),
io (.st 4 (.t 2) (.t 86)),
ia 3 (.mv (.t 87))]) .ret))))))))))),[(.cell 2 4 true),(.tmp 3)]⟩
theorem cc68 : ccF Try.prog [] Try.f68 = some (stripF F68) := by kernel_rfl
def F70 : FnC := ⟨3,(.seq (.reg [
  ia 3 (.box 4 (.t 0)),
ia 6 (.mv (.c (.a (.p (.b false)))))]) (.seq (.reg [
  ia 10 (.fad 3 (.t 3)),
ia 11 (.ld 1 false (.t 10)),
ia 12 (.len false (.t 11)),
ia 7 (.mv (.t 12))]) (.seq (.reg [
  ia 13 (.fad 2 (.t 3)),
ia 14 (.ld 1 false (.t 13)),
ia 15 (.bin .eql (.t 14) (.c (.a (.p (.s [43]))))),
ia 16 (.mv (.t 15)),
ig 17 16 false (.fad 2 (.t 3)),
ig 18 16 false (.ld 1 false (.t 17)),
ig 19 16 false (.bin .eql (.t 18) (.c (.a (.p (.s [45]))))),
ia 20 (.pick (.t 16) (.c (.a (.p (.b true)))) (.t 19)),
ia 21 (.mv (.t 20)),
ig 22 21 false (.fad 2 (.t 3)),
ig 23 21 false (.ld 1 false (.t 22)),
ig 24 21 false (.bin .eql (.t 23) (.c (.a (.p (.s [42]))))),
ia 25 (.pick (.t 21) (.c (.a (.p (.b true)))) (.t 24)),
ia 26 (.mv (.t 25)),
ig 27 26 false (.fad 2 (.t 3)),
ig 28 26 false (.ld 1 false (.t 27)),
ig 29 26 false (.bin .eql (.t 28) (.c (.a (.p (.s [47]))))),
ia 30 (.pick (.t 26) (.c (.a (.p (.b true)))) (.t 29)),
ia 31 (.mv (.t 30)),
ig 32 31 false (.fad 2 (.t 3)),
ig 33 31 false (.ld 1 false (.t 32)),
ig 34 31 false (.bin .eql (.t 33) (.c (.a (.p (.s [60]))))),
ia 35 (.pick (.t 31) (.c (.a (.p (.b true)))) (.t 34)),
ia 36 (.mv (.t 35)),
ig 37 36 false (.fad 2 (.t 3)),
ig 38 36 false (.ld 1 false (.t 37)),
ig 39 36 false (.bin .eql (.t 38) (.c (.a (.p (.s [61,61]))))),
ia 40 (.pick (.t 36) (.c (.a (.p (.b true)))) (.t 39)),
ia 8 (.mv (.t 40))]) (.seq (.reg [
  ia 41 (.fad 2 (.t 3)),
ia 42 (.ld 1 false (.t 41)),
ia 43 (.bin .eql (.t 42) (.c (.a (.p (.s []))))),
ia 44 (.mv (.t 43)),
ig 45 44 true (.fad 1 (.t 3)),
ig 46 44 true (.ld 1 false (.t 45)),
ig 47 44 true (.bin .eql (.t 46) (ci 0)),
ia 48 (.pick (.t 44) (.t 47) (.c (.a (.p (.b false))))),
ia 9 (.mv (.t 48))]) (.seq (.seq (.reg [
  ia 49 (.mv (.t 2))]) (.cond (.t 49) (.seq (.reg [
  ia 50 (.fad 0 (.t 3)),
ia 51 (.ld 1 false (.t 50)),
ia 52 (.bin .eql (.t 51) (ci 6)),
ia 53 (.mv (.t 52)),
ig 54 53 true (.fad 2 (.t 3)),
ig 55 53 true (.ld 1 false (.t 54)),
ig 56 53 true (.call (.f 84) [(.t 55)]),
ia 57 (.pick (.t 53) (.t 56) (.c (.a (.p (.b false))))),
ia 58 (.mv (.t 57)),
ig 59 58 true (.fad 1 (.t 3)),
ig 60 58 true (.ld 1 false (.t 59)),
ig 61 58 true (.bin .geq (.t 60) (ci 0)),
ia 62 (.pick (.t 58) (.t 61) (.c (.a (.p (.b false))))),
ia 63 (.mv (.t 62)),
ig 64 63 true (.fad 1 (.t 3)),
ig 65 63 true (.ld 1 false (.t 64)),
ig 66 63 true (.bin .leq (.t 65) (ci 8)),
ia 67 (.pick (.t 63) (.t 66) (.c (.a (.p (.b false))))),
ia 68 (.mv (.t 67)),
ig 69 68 true (.mv (.t 7)),
ig 70 68 true (.bin .eql (.t 69) (ci 1)),
ia 71 (.pick (.t 68) (.t 70) (.c (.a (.p (.b false))))),
ia 6 (.mv (.t 71))]) .ret) .skip)) (.seq (.seq (.reg [
  ia 72 (.fad 0 (.t 3)),
ia 73 (.ld 1 false (.t 72))]) (.block 0 (.seq (.reg [
  ia 75 (.bin .eql (.t 73) (ci 1)),
ia 74 (.mv (.t 75))]) (.cond (.t 74) (.seq (.reg [
  ia 76 (.fad 2 (.t 3)),
ia 77 (.ld 1 false (.t 76)),
ia 78 (.bin .eql (.t 77) (.c (.a (.p (.s []))))),
ia 79 (.mv (.t 78)),
ig 80 79 true (.mv (.t 7)),
ig 81 79 true (.bin .eql (.t 80) (ci 0)),
ia 82 (.pick (.t 79) (.t 81) (.c (.a (.p (.b false))))),
ia 83 (.mv (.t 82)),
ig 84 83 true (.fad 1 (.t 3)),
ig 85 83 true (.ld 1 false (.t 84)),
ig 86 83 true (.bin .geq (.t 85) (ci 0)),
ia 87 (.pick (.t 83) (.t 86) (.c (.a (.p (.b false))))),
ia 88 (.mv (.t 87)),
ig 89 88 true (.fad 1 (.t 3)),
ig 90 88 true (.ld 1 false (.t 89)),
ig 91 88 true (.mv (.t 1)),
ig 92 88 true (.bin .lss (.t 90) (.t 91)),
ia 93 (.pick (.t 88) (.t 92) (.c (.a (.p (.b false))))),
ia 6 (.mv (.t 93))]) .ret) (.seq (.reg [
  ia 95 (.bin .eql (.t 73) (ci 2)),
ia 94 (.mv (.t 95))]) (.cond (.t 94) (.seq (.reg [
  ia 96 (.mv (.t 9)),
ia 97 (.mv (.t 96)),
ig 98 97 true (.mv (.t 7)),
ig 99 97 true (.bin .eql (.t 98) (ci 1)),
ia 100 (.pick (.t 97) (.t 99) (.c (.a (.p (.b false))))),
ia 6 (.mv (.t 100))]) .ret) (.seq (.reg [
  ia 102 (.bin .eql (.t 73) (ci 3)),
ia 101 (.mv (.t 102))]) (.cond (.t 101) (.seq (.reg [
  ia 103 (.mv (.t 9)),
ia 104 (.mv (.t 103)),
ig 105 104 true (.mv (.t 7)),
ig 106 104 true (.bin .eql (.t 105) (ci 2)),
ia 107 (.pick (.t 104) (.t 106) (.c (.a (.p (.b false))))),
ia 6 (.mv (.t 107))]) .ret) (.seq (.reg [
  ia 109 (.bin .eql (.t 73) (ci 4)),
ia 108 (.mv (.t 109))]) (.cond (.t 108) (.seq (.reg [
  ia 110 (.fad 2 (.t 3)),
ia 111 (.ld 1 false (.t 110)),
ia 112 (.call (.f 84) [(.t 111)]),
ia 113 (.mv (.t 112)),
ig 114 113 true (.fad 1 (.t 3)),
ig 115 113 true (.ld 1 false (.t 114)),
ig 116 113 true (.bin .eql (.t 115) (ci 0)),
ia 117 (.pick (.t 113) (.t 116) (.c (.a (.p (.b false))))),
ia 118 (.mv (.t 117)),
ig 119 118 true (.mv (.t 7)),
ig 120 118 true (.bin .leq (.t 119) (ci 8)),
ia 121 (.pick (.t 118) (.t 120) (.c (.a (.p (.b false))))),
ia 6 (.mv (.t 121))]) .ret) (.seq (.reg [
  ia 123 (.bin .eql (.t 73) (ci 5)),
ia 122 (.mv (.t 123))]) (.cond (.t 122) (.seq (.reg [
  ia 124 (.mv (.t 9)),
ia 125 (.mv (.t 124)),
ig 126 125 true (.mv (.t 7)),
ig 127 125 true (.bin .geq (.t 126) (ci 2)),
ia 128 (.pick (.t 125) (.t 127) (.c (.a (.p (.b false))))),
ia 129 (.mv (.t 128)),
ig 130 129 true (.mv (.t 7)),
ig 131 129 true (.bin .leq (.t 130) (ci 9)),
ia 132 (.pick (.t 129) (.t 131) (.c (.a (.p (.b false))))),
ia 6 (.mv (.t 132))]) .ret) (.seq (.reg [
  ia 134 (.bin .eql (.t 73) (ci 7)),
ia 133 (.mv (.t 134))]) (.cond (.t 133) (.seq (.reg [
  ia 135 (.fad 2 (.t 3)),
ia 136 (.ld 1 false (.t 135)),
ia 137 (.bin .eql (.t 136) (.c (.a (.p (.s []))))),
ia 138 (.mv (.t 137)),
ig 139 138 true (.mv (.t 7)),
ig 140 138 true (.bin .eql (.t 139) (ci 0)),
ia 141 (.pick (.t 138) (.t 140) (.c (.a (.p (.b false))))),
ia 6 (.mv (.t 141))]) .ret) (.seq (.reg [
  ia 143 (.bin .eql (.t 73) (ci 8)),
ia 142 (.mv (.t 143))]) (.cond (.t 142) (.seq (.reg [
  ia 144 (.mv (.t 8)),
ia 145 (.mv (.t 144)),
ig 146 145 true (.fad 1 (.t 3)),
ig 147 145 true (.ld 1 false (.t 146)),
ig 148 145 true (.bin .eql (.t 147) (ci 0)),
ia 149 (.pick (.t 145) (.t 148) (.c (.a (.p (.b false))))),
ia 150 (.mv (.t 149)),
ig 151 150 true (.mv (.t 7)),
ig 152 150 true (.bin .eql (.t 151) (ci 2)),
ia 153 (.pick (.t 150) (.t 152) (.c (.a (.p (.b false))))),
ia 6 (.mv (.t 153))]) .ret) (.seq (.reg [
  ia 155 (.bin .eql (.t 73) (ci 9)),
ia 154 (.mv (.t 155))]) (.cond (.t 154) (.seq (.reg [
  ia 156 (.mv (.t 9)),
ia 157 (.mv (.t 156)),
ig 158 157 true (.mv (.t 7)),
ig 159 157 true (.bin .eql (.t 158) (ci 0)),
ia 160 (.pick (.t 157) (.t 159) (.c (.a (.p (.b false))))),
ia 6 (.mv (.t 160))]) .ret) .skip)))))))))))))))))) (.seq (.reg [
  ia 6 (.mv (.c (.a (.p (.b false)))))]) .ret))))))),[(.tmp 6)]⟩
theorem cc70 : ccF Try.prog [] Try.f70 = some (stripF F70) := by kernel_rfl
def F74 : FnC := ⟨2,(.seq (.reg [
  ia 2 (.box 1 (.t 0)),
ia 4 (.mv (.c (.a .nil)))]) (.seq (.seq (.reg [
  ia 6 (.mv (.t 1))]) (.block 0 (.rng (.t 6) [7] (.reg [
  ia 5 (.mv (.t 7))]) (.block 1 (.reg [
  ia 8 (.ld 1 false (.t 2)),
ia 9 (.mv (.t 5)),
ia 10 (.bsl 1 3 [(.p (.i .i64 0))] 1 [(0,(.t 9))]),
ia 11 (.app 1 3 8 (.t 8) (.t 10)),
io (.st 1 (.t 2) (.t 11))]))))) (.seq (.reg [
  ia 12 (.ld 1 false (.t 2)),
ia 4 (.mv (.t 12))]) .ret))),[(.tmp 4)]⟩
theorem cc74 : ccF Try.prog [] Try.f74 = some (stripF F74) := by kernel_rfl
def F75 : FnC := ⟨2,(.seq (.reg [
  ia 2 (.box 1 (.t 0))]) (.reg [
  ia 3 (.ld 4 true (.t 1)),
ia 4 (.fn 77 [(.t 2)]),
ia 5 (.call (.f 76) [(.t 3),(.t 4)])])),[]⟩
theorem cc75 : ccF Try.prog [] Try.f75 = some (stripF F75) := by kernel_rfl
def F76b0 : C := (.seq (.reg [
  ia 15 (.bin .lss (.t 14) (.t 13))]) (.seq (.cond (.t 15) .skip (.exit 0)) (.seq (.block 1 (.seq (.reg [
  ia 16 (.ias 4 (.t 12) (.t 14)),
ia 17 (.ld 4 true (.t 16)),
ia 6 (.new [(.p (.i .i64 0)),(.p (.i .i64 0)),(.p (.s [])),.nil]),
io (.st 4 (.t 6) (.t 17))]) (.seq (.reg [
  ia 18 (.ld 4 true (.t 6)),
ia 19 (.mv (.t 1)),
ia 20 (.call (.f 76) [(.t 18),(.t 19)]),
ia 21 (.not (.t 20))]) (.cond (.t 21) (.seq (.reg [
  ia 4 (.mv (.c (.a (.p (.b false)))))]) .ret) .skip)))) (.reg [
  ia 22 (.bin .add (.t 14) (ci 1)),
ia 14 (.mv (.t 22))]))))
def F76 : FnC := ⟨2,(.seq (.reg [
  ia 2 (.box 4 (.t 0)),
ia 4 (.mv (.c (.a (.p (.b false)))))]) (.seq (.seq (.reg [
  ia 7 (.mv (.t 1)),
ia 8 (.ld 4 true (.t 2)),
ia 9 (.call (.t 7) [(.t 8)]),
ia 10 (.not (.t 9))]) (.cond (.t 10) (.seq (.reg [
  ia 4 (.mv (.c (.a (.p (.b false)))))]) .ret) .skip)) (.seq (.seq (.reg [
  ia 11 (.fad 3 (.t 2)),
ia 12 (.ld 1 false (.t 11)),
ia 13 (.len false (.t 12)),
ia 14 (.mv (ci 0))]) (.block 0 (.loop F76b0))) (.seq (.reg [
  ia 4 (.mv (.c (.a (.p (.b true)))))]) .ret)))),[(.tmp 4)]⟩
theorem cc76 : ccF Try.prog [] Try.f76 = some (stripF F76) := by kernel_rfl
def F77b0 : C := (.seq (.seq (.reg [
  ia 18 (.mv (.t 6)),
ia 19 (.bin .geq (.t 18) (ci 0))]) (.cond (.t 19) .skip (.exit 0))) (.seq (.block 1 (.seq (.reg [
  ir 22 (.ld 1 false (.t 1)),
ir 23 (.fad 3 (.t 2)),
ir 24 (.ld 1 false (.t 23)),
ir 25 (.ias 4 (.t 24) (ci 0)),
ir 26 (.ld 4 true (.t 25)),
ir 27 (.mv (.t 5)),
ir 28 (.mv (.t 6)),
ir 29 (.bin .add (.t 27) (.t 28)),
ir 30 (.call (.f 23) [(.t 26),(.t 29)]),
ia 31 (.call (.t 22) [(.t 30)]),
ia 32 (.not (.t 31))]) (.cond (.t 32) (.seq (.reg [
  ia 3 (.mv (.c (.a (.p (.b false)))))]) .ret) .skip))) (.reg [
  ia 20 (.mv (.t 6)),
ia 21 (.bin .sub (.t 20) (ci 1)),
ia 6 (.mv (.t 21))])))
def F77 : FnC := ⟨2,(.seq (.reg [
  ia 2 (.box 4 (.t 0)),
ia 3 (.mv (.c (.a (.p (.b false)))))]) (.seq (.reg [
  ia 7 (.ld 4 true (.t 2)),
ia 8 (.call (.f 78) [(.t 7)]),
ia 4 (.mv (.t 8))]) (.seq (.reg [
  ia 5 (.mv (ci 0))]) (.seq (.seq (.reg [
  ia 9 (.fad 0 (.t 2)),
ia 10 (.ld 1 false (.t 9)),
ia 11 (.bin .eql (.t 10) (ci 6))]) (.cond (.t 11) (.reg [
  ia 12 (.fad 1 (.t 2)),
ia 13 (.ld 1 false (.t 12)),
ia 14 (.mv (.t 4)),
ia 15 (.bin .sub (.t 13) (.t 14)),
ia 5 (.mv (.t 15))]) .skip)) (.seq (.seq (.reg [
  ia 16 (.mv (.t 4)),
ia 17 (.bin .sub (.t 16) (ci 1)),
ia 6 (.mv (.t 17))]) (.block 0 (.loop F77b0))) (.seq (.reg [
  ia 3 (.mv (.c (.a (.p (.b true)))))]) .ret)))))),[(.tmp 3)]⟩
theorem cc77 : ccF Try.prog [] Try.f77 = some (stripF F77) := by kernel_rfl
def F78 : FnC := ⟨1,(.seq (.reg [
  ia 1 (.box 4 (.t 0)),
ia 2 (.mv (ci 0))]) (.seq (.block 0 (.seq (.reg [
  ia 4 (.fad 3 (.t 1)),
ia 5 (.ld 1 false (.t 4)),
ia 6 (.len false (.t 5)),
ia 7 (.bin .eql (.t 6) (ci 0)),
ia 3 (.mv (.t 7))]) (.cond (.t 3) (.seq (.reg [
  ia 2 (.mv (ci 0))]) .ret) (.seq (.reg [
  ia 9 (.fad 0 (.t 1)),
ia 10 (.ld 1 false (.t 9)),
ia 11 (.bin .eql (.t 10) (ci 2)),
ia 8 (.mv (.t 11))]) (.cond (.t 8) (.seq (.reg [
  ia 2 (.mv (ci 1))]) .ret) (.seq (.reg [
  ia 13 (.fad 0 (.t 1)),
ia 14 (.ld 1 false (.t 13)),
ia 15 (.bin .eql (.t 14) (ci 6)),
ia 12 (.mv (.t 15))]) (.cond (.t 12) (.seq (.reg [
  ia 16 (.fad 1 (.t 1)),
ia 17 (.ld 1 false (.t 16)),
ia 18 (.mx (.t 17) (ci 0)),
ia 19 (.mn (.t 18) (ci 8)),
ia 2 (.mv (.t 19))]) .ret) .skip))))))) (.seq (.reg [
  ia 2 (.mv (ci 0))]) .ret))),[(.tmp 2)]⟩
theorem cc78 : ccF Try.prog [] Try.f78 = some (stripF F78) := by kernel_rfl
def F79 : FnC := ⟨1,(.seq (.reg [
  ia 1 (.box 4 (.t 0)),
ia 2 (.mv (.c (.a (.p (.b false)))))]) (.seq (.reg [
  ia 3 (.fad 0 (.t 1)),
ia 4 (.ld 1 false (.t 3)),
ia 5 (.bin .eql (.t 4) (ci 2)),
ia 6 (.mv (.t 5)),
ig 7 6 false (.fad 0 (.t 1)),
ig 8 6 false (.ld 1 false (.t 7)),
ig 9 6 false (.bin .eql (.t 8) (ci 4)),
ia 10 (.pick (.t 6) (.c (.a (.p (.b true)))) (.t 9)),
ia 11 (.mv (.t 10)),
ig 12 11 false (.fad 0 (.t 1)),
ig 13 11 false (.ld 1 false (.t 12)),
ig 14 11 false (.bin .eql (.t 13) (ci 7)),
ia 15 (.pick (.t 11) (.c (.a (.p (.b true)))) (.t 14)),
ia 16 (.mv (.t 15)),
ig 17 16 false (.fad 0 (.t 1)),
ig 18 16 false (.ld 1 false (.t 17)),
ig 19 16 false (.bin .eql (.t 18) (ci 9)),
ia 20 (.pick (.t 16) (.c (.a (.p (.b true)))) (.t 19)),
ia 2 (.mv (.t 20))]) .ret)),[(.tmp 2)]⟩
theorem cc79 : ccF Try.prog [] Try.f79 = some (stripF F79) := by kernel_rfl
def F80 : FnC := ⟨2,(.seq (.reg [
  ia 2 (.box 4 (.t 0)),
ia 4 (.new [(.p (.i .i64 0)),(.p (.i .i64 0)),(.p (.s [])),.nil]),
ia 5 (.mv (ci 0))]) (.seq (.reg [
  ia 10 (.fad 3 (.t 2)),
ia 11 (.ld 1 false (.t 10)),
ia 12 (.mv (.t 1)),
ia 13 (.ias 4 (.t 11) (.t 12)),
ia 14 (.ld 4 true (.t 13)),
ia 15 (.call (.f 68) [(.t 14)]),
ia 9 (.mv (.t 15)),
ia 16 (.ext (.t 9) 0),
ia 17 (.ext (.t 9) 1),
ia 6 (.new [(.p (.i .i64 0)),(.p (.i .i64 0)),(.p (.s [])),.nil]),
io (.st 4 (.t 6) (.t 16)),
ia 7 (.mv (.t 17))]) (.seq (.seq (.reg [
  ia 18 (.mv (.t 7)),
ia 19 (.bin .eql (.t 18) (ci 0))]) (.cond (.t 19) (.seq (.reg [
  ia 20 (.ld 4 true (.t 2)),
io (.st 4 (.t 4) (.t 20)),
ia 5 (.mv (ci 0))]) .ret) .skip)) (.seq (.reg [
  ia 21 (.fad 0 (.t 2)),
ia 22 (.ld 1 false (.t 21)),
ia 23 (.fad 1 (.t 2)),
ia 24 (.ld 1 false (.t 23)),
ia 25 (.fad 2 (.t 2)),
ia 26 (.ld 1 false (.t 25)),
ia 27 (.build [(.p (.i .i64 0)),(.p (.i .i64 0)),(.p (.s [])),.nil] [(0,(1,(.t 22))),(1,(1,(.t 24))),(2,(1,(.t 26)))]),
ia 8 (.new [(.p (.i .i64 0)),(.p (.i .i64 0)),(.p (.s [])),.nil]),
io (.st 4 (.t 8) (.t 27))]) (.seq (.reg [
  ia 28 (.fad 3 (.t 8)),
ia 29 (.ld 1 false (.t 28)),
ia 30 (.fad 3 (.t 2)),
ia 31 (.ld 1 false (.t 30)),
ia 32 (.app 4 24 56 (.t 29) (.t 31)),
ia 33 (.fad 3 (.t 8)),
io (.st 1 (.t 33) (.t 32))]) (.seq (.reg [
  ia 34 (.fad 3 (.t 8)),
ia 35 (.ld 1 false (.t 34)),
ia 36 (.mv (.t 1)),
ia 37 (.ld 4 true (.t 6)),
ia 38 (.ias 4 (.t 35) (.t 36)),
io (.st 4 (.t 38) (.t 37))]) (.seq (.reg [
  ia 39 (.ld 4 true (.t 8)),
ia 40 (.mv (.t 7)),
io (.st 4 (.t 4) (.t 39)),
ia 5 (.mv (.t 40))]) .ret))))))),[(.cell 4 4 true),(.tmp 5)]⟩
theorem cc80 : ccF Try.prog [] Try.f80 = some (stripF F80) := by kernel_rfl
def F81b0 : C := (.seq (.seq (.reg [
  ia 10 (.mv (.t 5)),
ia 11 (.fad 3 (.t 1)),
ia 12 (.ld 1 false (.t 11)),
ia 13 (.len false (.t 12)),
ia 14 (.bin .lss (.t 10) (.t 13)),
ia 15 (.mv (.t 14)),
ig 16 15 true (.fad 0 (.t 4)),
ig 17 15 true (.ld 1 false (.t 16)),
ig 18 15 true (.bin .eql (.t 17) (ci 4)),
ia 19 (.pick (.t 15) (.t 18) (.c (.a (.p (.b false)))))]) (.cond (.t 19) .skip (.exit 0))) (.seq (.block 1 (.seq (.reg [
  ir 22 (.fad 3 (.t 1)),
ir 23 (.ld 1 false (.t 22)),
ir 24 (.mv (.t 5)),
ir 25 (.ias 4 (.t 23) (.t 24)),
ir 26 (.fad 2 (.t 25)),
ir 27 (.ld 1 false (.t 26)),
ir 28 (.fad 2 (.t 4)),
ir 29 (.ld 1 false (.t 28)),
ia 30 (.bin .eql (.t 27) (.t 29)),
ia 31 (.mv (.t 30)),
ih 32 31 true (.fad 3 (.t 1)),
ih 33 31 true (.ld 1 false (.t 32)),
ih 34 31 true (.mv (.t 5)),
ih 35 31 true (.ias 4 (.t 33) (.t 34)),
ih 36 31 true (.fad 1 (.t 35)),
ih 37 31 true (.ld 1 false (.t 36)),
ih 38 31 true (.fad 3 (.t 4)),
ih 39 31 true (.ld 1 false (.t 38)),
ih 40 31 true (.len false (.t 39)),
ig 41 31 true (.bin .eql (.t 37) (.t 40)),
ia 42 (.pick (.t 31) (.t 41) (.c (.a (.p (.b false)))))]) (.cond (.t 42) (.seq (.reg [
  ir 43 (.fad 3 (.t 1)),
ir 44 (.ld 1 false (.t 43)),
ir 45 (.mv (.t 5)),
ir 46 (.ias 4 (.t 44) (.t 45)),
ir 47 (.fad 3 (.t 46)),
ir 48 (.ld 1 false (.t 47)),
ir 49 (.ias 4 (.t 48) (ci 0)),
ir 50 (.ld 4 true (.t 49)),
ir 51 (.fad 3 (.t 4)),
ir 52 (.ld 1 false (.t 51)),
ia 53 (.call (.f 26) [(.t 50),(.t 52)]),
io (.st 4 (.t 2) (.t 53)),
ia 3 (.mv (ci 2))]) .ret) .skip))) (.reg [
  ia 20 (.mv (.t 5)),
ia 21 (.bin .add (.t 20) (ci 1)),
ia 5 (.mv (.t 21))])))
def F81 : FnC := ⟨1,(.seq (.reg [
  ia 1 (.box 4 (.t 0)),
ia 2 (.new [(.p (.i .i64 0)),(.p (.i .i64 0)),(.p (.s [])),.nil]),
ia 3 (.mv (ci 0))]) (.seq (.reg [
  ia 6 (.fad 3 (.t 1)),
ia 7 (.ld 1 false (.t 6)),
ia 8 (.ias 4 (.t 7) (ci 0)),
ia 9 (.ld 4 true (.t 8)),
ia 4 (.new [(.p (.i .i64 0)),(.p (.i .i64 0)),(.p (.s [])),.nil]),
io (.st 4 (.t 4) (.t 9))]) (.seq (.seq (.reg [
  ia 5 (.mv (ci 1))]) (.block 0 (.loop F81b0))) (.seq (.reg [
  ia 54 (.call (.f 82) []),
ia 55 (.ext (.t 54) 0),
ia 56 (.ext (.t 54) 1),
io (.st 4 (.t 2) (.t 55)),
ia 3 (.mv (.t 56))]) .ret)))),[(.cell 2 4 true),(.tmp 3)]⟩
theorem cc81 : ccF Try.prog [] Try.f81 = some (stripF F81) := by kernel_rfl
def F82 : FnC := ⟨0,(.seq (.reg [
  ia 0 (.new [(.p (.i .i64 0)),(.p (.i .i64 0)),(.p (.s [])),.nil]),
ia 1 (.mv (ci 0))]) (.seq (.reg [
  ia 2 (.build [(.p (.i .i64 0)),(.p (.i .i64 0)),(.p (.s [])),.nil] [(0,(1,(ci 9)))]),
io (.st 4 (.t 0) (.t 2)),
ia 1 (.mv (ci 4))]) .ret)),[(.cell 0 4 true),(.tmp 1)]⟩
theorem cc82 : ccF Try.prog [] Try.f82 = some (stripF F82) := by kernel_rfl
def F83 : FnC := ⟨3,(.seq (.reg [
  ia 6 (.new [(.p (.i .i64 0)),(.p (.i .i64 0)),(.p (.s [])),.nil]),
ia 7 (.mv (ci 0))]) (.seq (.seq (.reg [
  ia 8 (.mv (.t 0))]) (.block 0 (.seq (.reg [
  ia 10 (.bin .eql (.t 8) (.c (.a (.p (.s [43]))))),
ia 9 (.mv (.t 10))]) (.cond (.t 9) (.seq (.reg [
  ia 11 (.mv (.t 1)),
ia 12 (.mv (.t 2)),
ia 13 (.bin .add (.t 11) (.t 12)),
ia 14 (.call (.f 87) [(.t 13)]),
ia 15 (.ext (.t 14) 0),
ia 16 (.ext (.t 14) 1),
io (.st 4 (.t 6) (.t 15)),
ia 7 (.mv (.t 16))]) .ret) (.seq (.reg [
  ia 18 (.bin .eql (.t 8) (.c (.a (.p (.s [45]))))),
ia 17 (.mv (.t 18))]) (.cond (.t 17) (.seq (.reg [
  ia 19 (.mv (.t 1)),
ia 20 (.mv (.t 2)),
ia 21 (.bin .sub (.t 19) (.t 20)),
ia 22 (.call (.f 87) [(.t 21)]),
ia 23 (.ext (.t 22) 0),
ia 24 (.ext (.t 22) 1),
io (.st 4 (.t 6) (.t 23)),
ia 7 (.mv (.t 24))]) .ret) (.seq (.reg [
  ia 26 (.bin .eql (.t 8) (.c (.a (.p (.s [42]))))),
ia 25 (.mv (.t 26))]) (.cond (.t 25) (.seq (.reg [
  ia 27 (.mv (.t 1)),
ia 28 (.mv (.t 2)),
ia 29 (.bin .mul (.t 27) (.t 28)),
ia 30 (.call (.f 87) [(.t 29)]),
ia 31 (.ext (.t 30) 0),
ia 32 (.ext (.t 30) 1),
io (.st 4 (.t 6) (.t 31)),
ia 7 (.mv (.t 32))]) .ret) (.seq (.reg [
  ia 34 (.bin .eql (.t 8) (.c (.a (.p (.s [47]))))),
ia 33 (.mv (.t 34))]) (.cond (.t 33) (.seq (.seq (.reg [
  ia 35 (.mv (.t 2)),
ia 36 (.bin .eql (.t 35) (ci 0))]) (.cond (.t 36) (.seq (.reg [
  ia 37 (.call (.f 82) []),
ia 38 (.ext (.t 37) 0),
ia 39 (.ext (.t 37) 1),
io (.st 4 (.t 6) (.t 38)),
ia 7 (.mv (.t 39))]) .ret) .skip)) (.seq (.seq (.reg [
  ia 40 (.mv (.t 2)),
ia 41 (.bin .eql (.t 40) (.c (.a (.p (.i .i64 (-1))))))]) (.cond (.t 41) (.seq (.reg [
  ia 42 (.mv (.t 1)),
ia 43 (.neg (.t 42)),
ia 44 (.call (.f 87) [(.t 43)]),
ia 45 (.ext (.t 44) 0),
ia 46 (.ext (.t 44) 1),
io (.st 4 (.t 6) (.t 45)),
ia 7 (.mv (.t 46))]) .ret) .skip)) (.seq (.reg [
  ia 47 (.mv (.t 1)),
ia 48 (.mv (.t 2)),
ia 49 (.bin .quo (.t 47) (.t 48)),
ia 50 (.call (.f 87) [(.t 49)]),
ia 51 (.ext (.t 50) 0),
ia 52 (.ext (.t 50) 1),
io (.st 4 (.t 6) (.t 51)),
ia 7 (.mv (.t 52))]) .ret))) .skip)))))))))) (.seq (.seq (.reg [
  ia 53 (.mv (.t 0)),
ia 54 (.bin .eql (.t 53) (.c (.a (.p (.s [60]))))),
ia 55 (.mv (.t 54)),
ig 56 55 true (.mv (.t 1)),
ig 57 55 true (.mv (.t 2)),
ig 58 55 true (.bin .lss (.t 56) (.t 57)),
ia 59 (.pick (.t 55) (.t 58) (.c (.a (.p (.b false))))),
ia 60 (.mv (.t 59)),
ig 61 60 false (.mv (.t 0)),
ig 62 60 false (.bin .eql (.t 61) (.c (.a (.p (.s [61,61]))))),
ig 63 60 false (.mv (.t 62)),
ig 64 63 true (.mv (.t 1)),
ig 65 63 true (.mv (.t 2)),
ig 66 63 true (.bin .eql (.t 64) (.t 65)),
ig 67 60 false (.pick (.t 63) (.t 66) (.c (.a (.p (.b false))))),
ia 68 (.pick (.t 60) (.c (.a (.p (.b true)))) (.t 67))]) (.cond (.t 68) (.seq (.reg [
  ia 69 (.build [(.p (.i .i64 0)),(.p (.i .i64 0)),(.p (.s [])),.nil] [(0,(1,(ci 4))),(2,(1,(.c (.a (.p (.s [84,114,117,101]))))))]),
io (.st 4 (.t 6) (.t 69)),
ia 7 (.mv (ci 3))]) .ret) .skip)) (.seq (.reg [
  ia 70 (.build [(.p (.i .i64 0)),(.p (.i .i64 0)),(.p (.s [])),.nil] [(0,(1,(ci 4))),(2,(1,(.c (.a (.p (.s [70,97,108,115,101]))))))]),
io (.st 4 (.t 6) (.t 70)),
ia 7 (.mv (ci 3))]) .ret)))),[(.cell 6 4 true),(.tmp 7)]⟩
theorem cc83 : ccF Try.prog [] Try.f83 = some (stripF F83) := by kernel_rfl
def F84 : FnC := ⟨1,(.seq (.reg [
  ia 2 (.mv (.c (.a (.p (.b false)))))]) (.seq (.seq (.reg [
  ia 5 (.mv (.t 0)),
ia 6 (.bin .eql (.t 5) (.c (.a (.p (.s [])))))]) (.cond (.t 6) (.seq (.reg [
  ia 2 (.mv (.c (.a (.p (.b false)))))]) .ret) .skip)) (.seq (.reg [
  ia 8 (.mv (.t 0)),
ia 9 (.call (.f 88) [(.t 8),(ci 0)]),
ia 7 (.mv (.t 9)),
ia 10 (.ext (.t 7) 0),
ia 11 (.ext (.t 7) 1),
ia 3 (.new [(.p (.i .i64 0)),(.p (.s [])),(.p (.i .i64 0)),(.p (.i .i64 0))]),
io (.st 4 (.t 3) (.t 10)),
ia 4 (.mv (.t 11))]) (.seq (.reg [
  ia 12 (.mv (.t 4)),
ia 13 (.bin .eql (.t 12) (ci 0)),
ia 14 (.mv (.t 13)),
ig 15 14 true (.fad 0 (.t 3)),
ig 16 14 true (.ld 1 false (.t 15)),
ig 17 14 true (.bin .eql (.t 16) (ci 2)),
ia 18 (.pick (.t 14) (.t 17) (.c (.a (.p (.b false))))),
ia 19 (.mv (.t 18)),
ig 20 19 true (.fad 1 (.t 3)),
ig 21 19 true (.ld 1 false (.t 20)),
ig 22 19 true (.mv (.t 0)),
ig 23 19 true (.bin .eql (.t 21) (.t 22)),
ia 24 (.pick (.t 19) (.t 23) (.c (.a (.p (.b false))))),
ia 2 (.mv (.t 24))]) .ret)))),[(.tmp 2)]⟩
theorem cc84 : ccF Try.prog [] Try.f84 = some (stripF F84) := by kernel_rfl
def F87 : FnC := ⟨1,(.seq (.reg [
  ia 2 (.new [(.p (.i .i64 0)),(.p (.i .i64 0)),(.p (.s [])),.nil]),
ia 3 (.mv (ci 0))]) (.seq (.reg [
  ia 4 (.mv (.t 0)),
ia 5 (.build [(.p (.i .i64 0)),(.p (.i .i64 0)),(.p (.s [])),.nil] [(0,(1,(ci 7))),(1,(1,(.t 4)))]),
io (.st 4 (.t 2) (.t 5)),
ia 3 (.mv (ci 3))]) .ret)),[(.cell 2 4 true),(.tmp 3)]⟩
theorem cc87 : ccF Try.prog [] Try.f87 = some (stripF F87) := by kernel_rfl
def F88 : FnC := ⟨2,(.seq (.reg [
  ia 4 (.new [(.p (.i .i64 0)),(.p (.s [])),(.p (.i .i64 0)),(.p (.i .i64 0))]),
ia 5 (.mv (ci 0))]) (.seq (.reg [
  ia 12 (.mv (.t 0)),
ia 13 (.mv (.t 1)),
ia 14 (.call (.f 100) [(.t 12),(.t 13)]),
ia 11 (.mv (.t 14)),
ia 15 (.ext (.t 11) 0),
ia 16 (.ext (.t 11) 1),
ia 6 (.mv (.t 15)),
ia 7 (.mv (.t 16))]) (.seq (.seq (.reg [
  ia 17 (.mv (.t 6)),
ia 18 (.bin .eql (.t 17) (ci 0))]) (.cond (.t 18) (.seq (.reg [
  ia 19 (.mv (.t 0)),
ia 20 (.mv (.t 1)),
ia 21 (.call (.f 101) [(.t 19),(.t 20)]),
ia 8 (.mv (.t 21))]) (.seq (.seq (.reg [
  ia 22 (.mv (.t 8)),
ia 23 (.bin .eql (.t 22) (ci 0))]) (.cond (.t 23) (.seq (.reg [
  ia 24 (.build [(.p (.i .i64 0)),(.p (.s [])),(.p (.i .i64 0)),(.p (.i .i64 0))] []),
io (.st 4 (.t 4) (.t 24)),
ia 5 (.mv (ci 10))]) .ret) .skip)) (.seq (.reg [
  ia 25 (.mv (.t 0)),
ia 26 (.mv (.t 1)),
ia 27 (.mv (.t 1)),
ia 28 (.mv (.t 8)),
ia 29 (.bin .add (.t 27) (.t 28)),
ia 30 (.sub (.t 25) (.some (.t 26)) (.some (.t 29))),
ia 31 (.mv (.t 1)),
ia 32 (.build [(.p (.i .i64 0)),(.p (.s [])),(.p (.i .i64 0)),(.p (.i .i64 0))] [(0,(1,(ci 5))),(1,(1,(.t 30))),(3,(1,(.t 31)))]),
io (.st 4 (.t 4) (.t 32)),
ia 5 (.mv (ci 0))]) .ret))) .skip)) (.seq (.reg [
  ia 33 (.mv (.t 0)),
ia 34 (.mv (.t 1)),
ia 35 (.mv (.t 1)),
ia 36 (.mv (.t 6)),
ia 37 (.bin .add (.t 35) (.t 36)),
ia 38 (.sub (.t 33) (.some (.t 34)) (.some (.t 37))),
ia 39 (.mv (.t 1)),
ia 40 (.build [(.p (.i .i64 0)),(.p (.s [])),(.p (.i .i64 0)),(.p (.i .i64 0))] [(1,(1,(.t 38))),(3,(1,(.t 39)))]),
ia 9 (.new [(.p (.i .i64 0)),(.p (.s [])),(.p (.i .i64 0)),(.p (.i .i64 0))]),
io (.st 4 (.t 9) (.t 40))]) (.seq (.reg [
  ia 41 (.mv (.t 0)),
ia 42 (.mv (.t 1)),
ia 43 (.ixs (.t 41) (.t 42)),
ia 44 (.call (.f 102) [(.t 43)]),
ia 10 (.mv (.t 44))]) (.seq (.seq (.reg [
  ia 45 (.mv (.t 10)),
ia 46 (.bin .eql (.t 45) (ci 3))]) (.cond (.t 46) (.seq (.seq (.reg [
  ia 47 (.mv (.t 7))]) (.cond (.t 47) (.seq (.reg [
  ia 48 (.build [(.p (.i .i64 0)),(.p (.s [])),(.p (.i .i64 0)),(.p (.i .i64 0))] []),
io (.st 4 (.t 4) (.t 48)),
ia 5 (.mv (ci 10))]) .ret) .skip)) (.seq (.seq (.reg [
  ia 49 (.mv (.t 6)),
ia 50 (.bin .gtr (.t 49) (ci 18)),
ia 51 (.mv (.t 50)),
ig 52 51 false (.mv (.t 6)),
ig 53 51 false (.bin .gtr (.t 52) (ci 1)),
ig 54 51 false (.mv (.t 53)),
ig 55 54 true (.mv (.t 0)),
ig 56 54 true (.mv (.t 1)),
ig 57 54 true (.ixs (.t 55) (.t 56)),
ig 58 54 true (.bin .eql (.t 57) (.c (.a (.p (.i .u8 48))))),
ig 59 51 false (.pick (.t 54) (.t 58) (.c (.a (.p (.b false))))),
ia 60 (.pick (.t 51) (.c (.a (.p (.b true)))) (.t 59))]) (.cond (.t 60) (.seq (.reg [
  ia 61 (.build [(.p (.i .i64 0)),(.p (.s [])),(.p (.i .i64 0)),(.p (.i .i64 0))] []),
io (.st 4 (.t 4) (.t 61)),
ia 5 (.mv (ci 11))]) .ret) .skip)) (.seq (.reg [
  ia 62 (.fad 0 (.t 9)),
io (.st 1 (.t 62) (ci 3))]) (.seq (.reg [
  ia 63 (.fad 1 (.t 9)),
ia 64 (.ld 1 false (.t 63)),
ia 65 (.call (.f 103) [(.t 64)]),
ia 66 (.fad 2 (.t 9)),
io (.st 1 (.t 66) (.t 65))]) (.seq (.reg [
  ia 67 (.ld 4 true (.t 9)),
io (.st 4 (.t 4) (.t 67)),
ia 5 (.mv (ci 0))]) .ret))))) .skip)) (.seq (.seq (.reg [
  ia 68 (.mv (.t 6)),
ia 69 (.bin .gtr (.t 68) (ci 16))]) (.cond (.t 69) (.seq (.reg [
  ia 70 (.build [(.p (.i .i64 0)),(.p (.s [])),(.p (.i .i64 0)),(.p (.i .i64 0))] []),
io (.st 4 (.t 4) (.t 70)),
ia 5 (.mv (ci 11))]) .ret) .skip)) (.seq (.reg [
  ia 71 (.mv (.t 10)),
ia 72 (.fad 0 (.t 9)),
io (.st 1 (.t 72) (.t 71))]) (.seq (.seq (.reg [
  ia 73 (.fad 1 (.t 9)),
ia 74 (.ld 1 false (.t 73)),
ia 75 (.call (.f 104) [(.t 74)])]) (.cond (.t 75) (.reg [
  ia 76 (.fad 0 (.t 9)),
io (.st 1 (.t 76) (ci 4))]) .skip)) (.seq (.reg [
  ia 77 (.ld 4 true (.t 9)),
io (.st 4 (.t 4) (.t 77)),
ia 5 (.mv (ci 0))]) .ret)))))))))),[(.cell 4 4 true),(.tmp 5)]⟩
theorem cc88 : ccF Try.prog [] Try.f88 = some (stripF F88) := by kernel_rfl
def F100b0 : C := (.seq (.seq (.reg [
  ia 9 (.mv (.t 1)),
ia 10 (.mv (.t 6)),
ia 11 (.bin .add (.t 9) (.t 10)),
ia 12 (.mv (.t 0)),
ia 13 (.len true (.t 12)),
ia 14 (.bin .lss (.t 11) (.t 13))]) (.cond (.t 14) .skip (.exit 0))) (.block 1 (.seq (.reg [
  ia 15 (.mv (.t 0)),
ia 16 (.mv (.t 1)),
ia 17 (.mv (.t 6)),
ia 18 (.bin .add (.t 16) (.t 17)),
ia 19 (.ixs (.t 15) (.t 18)),
ia 20 (.call (.f 102) [(.t 19)]),
ia 8 (.mv (.t 20))]) (.seq (.seq (.reg [
  ia 21 (.mv (.t 8)),
ia 22 (.bin .lss (.t 21) (ci 1)),
ia 23 (.mv (.t 22)),
ig 24 23 false (.mv (.t 8)),
ig 25 23 false (.bin .gtr (.t 24) (ci 3)),
ia 26 (.pick (.t 23) (.c (.a (.p (.b true)))) (.t 25))]) (.cond (.t 26) (.seq (.reg [
  ia 27 (.mv (.t 6)),
ia 28 (.mv (.t 7)),
ia 4 (.mv (.t 27)),
ia 5 (.mv (.t 28))]) .ret) .skip)) (.seq (.reg [
  ia 29 (.mv (.t 7)),
ia 30 (.mv (.t 29)),
ig 31 30 false (.mv (.t 8)),
ig 32 30 false (.bin .lss (.t 31) (ci 3)),
ia 33 (.pick (.t 30) (.c (.a (.p (.b true)))) (.t 32)),
ia 7 (.mv (.t 33))]) (.reg [
  ia 34 (.mv (.t 6)),
ia 35 (.bin .add (.t 34) (ci 1)),
ia 6 (.mv (.t 35))]))))))
def F100 : FnC := ⟨2,(.seq (.reg [
  ia 4 (.mv (ci 0)),
ia 5 (.mv (.c (.a (.p (.b false)))))]) (.seq (.reg [
  ia 6 (.mv (ci 0)),
ia 7 (.mv (.c (.a (.p (.b false)))))]) (.seq (.block 0 (.loop F100b0)) (.seq (.reg [
  ia 36 (.mv (.t 6)),
ia 37 (.mv (.t 7)),
ia 4 (.mv (.t 36)),
ia 5 (.mv (.t 37))]) .ret)))),[(.tmp 4),(.tmp 5)]⟩
theorem cc100 : ccF Try.prog [] Try.f100 = some (stripF F100) := by kernel_rfl
def F101b0 : C := (.seq (.seq (.reg [
  ia 27 (.mv (.t 5)),
ia 28 (.bin .lss (.t 27) (ci 13))]) (.cond (.t 28) .skip (.exit 0))) (.seq (.block 1 (.seq (.reg [
  ir 31 (.mv (.t 5)),
ir 32 (.ixs (.c (.a (.p (.s [92,46,40,41,61,123,125,124,43,45,42,47,60])))) (.t 31)),
ir 33 (.mv (.t 0)),
ir 34 (.mv (.t 1)),
ir 35 (.ixs (.t 33) (.t 34)),
ia 36 (.bin .eql (.t 32) (.t 35))]) (.cond (.t 36) (.seq (.reg [
  ia 4 (.mv (ci 1))]) .ret) .skip))) (.reg [
  ia 29 (.mv (.t 5)),
ia 30 (.bin .add (.t 29) (ci 1)),
ia 5 (.mv (.t 30))])))
def F101 : FnC := ⟨2,(.seq (.reg [
  ia 4 (.mv (ci 0))]) (.seq (.seq (.reg [
  ia 6 (.mv (.t 1)),
ia 7 (.bin .add (.t 6) (ci 1)),
ia 8 (.mv (.t 0)),
ia 9 (.len true (.t 8)),
ia 10 (.bin .lss (.t 7) (.t 9)),
ia 11 (.mv (.t 10)),
ig 12 11 true (.mv (.t 0)),
ig 13 11 true (.mv (.t 1)),
ig 14 11 true (.mv (.t 1)),
ig 15 11 true (.bin .add (.t 14) (ci 2)),
ig 16 11 true (.sub (.t 12) (.some (.t 13)) (.some (.t 15))),
ig 17 11 true (.bin .eql (.t 16) (.c (.a (.p (.s [45,62]))))),
ig 18 11 true (.mv (.t 17)),
ig 19 18 false (.mv (.t 0)),
ig 20 18 false (.mv (.t 1)),
ig 21 18 false (.mv (.t 1)),
ig 22 18 false (.bin .add (.t 21) (ci 2)),
ig 23 18 false (.sub (.t 19) (.some (.t 20)) (.some (.t 22))),
ig 24 18 false (.bin .eql (.t 23) (.c (.a (.p (.s [61,61]))))),
ig 25 11 true (.pick (.t 18) (.c (.a (.p (.b true)))) (.t 24)),
ia 26 (.pick (.t 11) (.t 25) (.c (.a (.p (.b false)))))]) (.cond (.t 26) (.seq (.reg [
  ia 4 (.mv (ci 2))]) .ret) .skip)) (.seq (.seq (.reg [
  ia 5 (.mv (ci 0))]) (.block 0 (.loop F101b0))) (.seq (.reg [
  ia 4 (.mv (ci 0))]) .ret)))),[(.tmp 4)]⟩
theorem cc101 : ccF Try.prog [] Try.f101 = some (stripF F101) := by kernel_rfl
def F102 : FnC := ⟨1,(.seq (.reg [
  ia 2 (.mv (ci 0))]) (.seq (.seq (.reg [
  ia 3 (.mv (.t 0)),
ia 4 (.bin .geq (.t 3) (.c (.a (.p (.i .u8 97))))),
ia 5 (.mv (.t 4)),
ig 6 5 true (.mv (.t 0)),
ig 7 5 true (.bin .leq (.t 6) (.c (.a (.p (.i .u8 122))))),
ia 8 (.pick (.t 5) (.t 7) (.c (.a (.p (.b false)))))]) (.cond (.t 8) (.seq (.reg [
  ia 2 (.mv (ci 1))]) .ret) .skip)) (.seq (.seq (.reg [
  ia 9 (.mv (.t 0)),
ia 10 (.bin .geq (.t 9) (.c (.a (.p (.i .u8 65))))),
ia 11 (.mv (.t 10)),
ig 12 11 true (.mv (.t 0)),
ig 13 11 true (.bin .leq (.t 12) (.c (.a (.p (.i .u8 90))))),
ia 14 (.pick (.t 11) (.t 13) (.c (.a (.p (.b false)))))]) (.cond (.t 14) (.seq (.reg [
  ia 2 (.mv (ci 2))]) .ret) .skip)) (.seq (.seq (.reg [
  ia 15 (.mv (.t 0)),
ia 16 (.bin .geq (.t 15) (.c (.a (.p (.i .u8 48))))),
ia 17 (.mv (.t 16)),
ig 18 17 true (.mv (.t 0)),
ig 19 17 true (.bin .leq (.t 18) (.c (.a (.p (.i .u8 57))))),
ia 20 (.pick (.t 17) (.t 19) (.c (.a (.p (.b false)))))]) (.cond (.t 20) (.seq (.reg [
  ia 2 (.mv (ci 3))]) .ret) .skip)) (.seq (.seq (.reg [
  ia 21 (.mv (.t 0)),
ia 22 (.bin .eql (.t 21) (.c (.a (.p (.i .u8 32))))),
ia 23 (.mv (.t 22)),
ig 24 23 false (.mv (.t 0)),
ig 25 23 false (.bin .eql (.t 24) (.c (.a (.p (.i .u8 10))))),
ia 26 (.pick (.t 23) (.c (.a (.p (.b true)))) (.t 25)),
ia 27 (.mv (.t 26)),
ig 28 27 false (.mv (.t 0)),
ig 29 27 false (.bin .eql (.t 28) (.c (.a (.p (.i .u8 9))))),
ia 30 (.pick (.t 27) (.c (.a (.p (.b true)))) (.t 29))]) (.cond (.t 30) (.seq (.reg [
  ia 2 (.mv (ci 4))]) .ret) .skip)) (.seq (.reg [
  ia 2 (.mv (ci 0))]) .ret)))))),[(.tmp 2)]⟩
theorem cc102 : ccF Try.prog [] Try.f102 = some (stripF F102) := by kernel_rfl
def F103b0 : C := (.seq (.seq (.reg [
  ia 5 (.mv (.t 4)),
ia 6 (.mv (.t 0)),
ia 7 (.len true (.t 6)),
ia 8 (.bin .lss (.t 5) (.t 7))]) (.cond (.t 8) .skip (.exit 0))) (.seq (.block 1 (.reg [
  ia 11 (.mv (.t 3)),
ia 12 (.bin .mul (ci 10) (.t 11)),
ia 13 (.mv (.t 0)),
ia 14 (.mv (.t 4)),
ia 15 (.ixs (.t 13) (.t 14)),
ia 16 (.cvi .i64 (.t 15)),
ia 17 (.bin .add (.t 12) (.t 16)),
ia 18 (.bin .sub (.t 17) (ci 48)),
ia 3 (.mv (.t 18))])) (.reg [
  ia 9 (.mv (.t 4)),
ia 10 (.bin .add (.t 9) (ci 1)),
ia 4 (.mv (.t 10))])))
def F103 : FnC := ⟨1,(.seq (.reg [
  ia 2 (.mv (ci 0))]) (.seq (.reg [
  ia 3 (.mv (ci 0))]) (.seq (.seq (.reg [
  ia 4 (.mv (ci 0))]) (.block 0 (.loop F103b0))) (.seq (.reg [
  ia 19 (.mv (.t 3)),
ia 2 (.mv (.t 19))]) .ret)))),[(.tmp 2)]⟩
theorem cc103 : ccF Try.prog [] Try.f103 = some (stripF F103) := by kernel_rfl
def F104 : FnC := ⟨1,(.seq (.reg [
  ia 2 (.mv (.c (.a (.p (.b false)))))]) (.seq (.reg [
  ia 3 (.mv (.t 0)),
ia 4 (.bin .eql (.t 3) (.c (.a (.p (.s [108,101,116]))))),
ia 5 (.mv (.t 4)),
ig 6 5 false (.mv (.t 0)),
ig 7 5 false (.bin .eql (.t 6) (.c (.a (.p (.s [108,101,116,114,101,99]))))),
ia 8 (.pick (.t 5) (.c (.a (.p (.b true)))) (.t 7)),
ia 9 (.mv (.t 8)),
ig 10 9 false (.mv (.t 0)),
ig 11 9 false (.bin .eql (.t 10) (.c (.a (.p (.s [105,110]))))),
ia 12 (.pick (.t 9) (.c (.a (.p (.b true)))) (.t 11)),
ia 13 (.mv (.t 12)),
ig 14 13 false (.mv (.t 0)),
ig 15 13 false (.bin .eql (.t 14) (.c (.a (.p (.s [99,97,115,101]))))),
ia 16 (.pick (.t 13) (.c (.a (.p (.b true)))) (.t 15)),
ia 17 (.mv (.t 16)),
ig 18 17 false (.mv (.t 0)),
ig 19 17 false (.bin .eql (.t 18) (.c (.a (.p (.s [111,102]))))),
ia 20 (.pick (.t 17) (.c (.a (.p (.b true)))) (.t 19)),
ia 2 (.mv (.t 20))]) .ret)),[(.tmp 2)]⟩
theorem cc104 : ccF Try.prog [] Try.f104 = some (stripF F104) := by kernel_rfl
def tblA : List (FuncId × FnC) := [(14,F14),(15,F15),(20,F20),(22,F22),(23,F23),(26,F26),(27,F27),(28,F28),(31,F31),(32,F32),(33,F33),(34,F34),(37,F37),(39,F39),(41,F41),(42,F42),(45,F45),(46,F46),(48,F48),(49,F49),(51,F51),(54,F54),(56,F56),(57,F57),(59,F59),(60,F60),(61,F61),(62,F62),(66,F66),(67,F67),(68,F68),(70,F70),(74,F74),(75,F75),(76,F76),(77,F77),(78,F78),(79,F79),(80,F80),(81,F81),(82,F82),(83,F83),(84,F84),(87,F87),(88,F88),(100,F100),(101,F101),(102,F102),(103,F103),(104,F104)]
theorem tblOkA : ∀ x,x ∈ tblA → ∃ fn,Try.prog.funcs[x.1]? = some fn ∧ ccF Try.prog [] fn = some (stripF x.2) := by
  intro x hx
  simp only [tblA,List.mem_cons,List.not_mem_nil,or_false] at hx
  rcases hx with rfl | rfl | rfl | rfl | rfl | rfl | rfl | rfl | rfl | rfl | rfl | rfl | rfl | rfl | rfl | rfl | rfl | rfl | rfl | rfl | rfl | rfl | rfl | rfl | rfl | rfl | rfl | rfl | rfl | rfl | rfl | rfl | rfl | rfl | rfl | rfl | rfl | rfl | rfl | rfl | rfl | rfl | rfl | rfl | rfl | rfl | rfl | rfl | rfl | rfl
  · exact ⟨_,Try.func14,cc14⟩
  · exact ⟨_,Try.func15,cc15⟩
  · exact ⟨_,Try.func20,cc20⟩
  · exact ⟨_,Try.func22,cc22⟩
  · exact ⟨_,Try.func23,cc23⟩
  · exact ⟨_,Try.func26,cc26⟩
  · exact ⟨_,Try.func27,cc27⟩
  · exact ⟨_,Try.func28,cc28⟩
  · exact ⟨_,Try.func31,cc31⟩
  · exact ⟨_,Try.func32,cc32⟩
  · exact ⟨_,Try.func33,cc33⟩
  · exact ⟨_,Try.func34,cc34⟩
  · exact ⟨_,Try.func37,cc37⟩
  · exact ⟨_,Try.func39,cc39⟩
  · exact ⟨_,Try.func41,cc41⟩
  · exact ⟨_,Try.func42,cc42⟩
  · exact ⟨_,Try.func45,cc45⟩
  · exact ⟨_,Try.func46,cc46⟩
  · exact ⟨_,Try.func48,cc48⟩
  · exact ⟨_,Try.func49,cc49⟩
  · exact ⟨_,Try.func51,cc51⟩
  · exact ⟨_,Try.func54,cc54⟩
  · exact ⟨_,Try.func56,cc56⟩
  · exact ⟨_,Try.func57,cc57⟩
  · exact ⟨_,Try.func59,cc59⟩
  · exact ⟨_,Try.func60,cc60⟩
  · exact ⟨_,Try.func61,cc61⟩
  · exact ⟨_,Try.func62,cc62⟩
  · exact ⟨_,Try.func66,cc66⟩
  · exact ⟨_,Try.func67,cc67⟩
  · exact ⟨_,Try.func68,cc68⟩
  · exact ⟨_,Try.func70,cc70⟩
  · exact ⟨_,Try.func74,cc74⟩
  · exact ⟨_,Try.func75,cc75⟩
  · exact ⟨_,Try.func76,cc76⟩
  · exact ⟨_,Try.func77,cc77⟩
  · exact ⟨_,Try.func78,cc78⟩
  · exact ⟨_,Try.func79,cc79⟩
  · exact ⟨_,Try.func80,cc80⟩
  · exact ⟨_,Try.func81,cc81⟩
  · exact ⟨_,Try.func82,cc82⟩
  · exact ⟨_,Try.func83,cc83⟩
  · exact ⟨_,Try.func84,cc84⟩
  · exact ⟨_,Try.func87,cc87⟩
  · exact ⟨_,Try.func88,cc88⟩
  · exact ⟨_,Try.func100,cc100⟩
  · exact ⟨_,Try.func101,cc101⟩
  · exact ⟨_,Try.func102,cc102⟩
  · exact ⟨_,Try.func103,cc103⟩
  · exact ⟨_,Try.func104,cc104⟩
end Go.Proofs.Ytlgekplmbmkcmaa
namespace Go.Proofs.Ytlgekplmbmkcmaa
open Go.Fx
def tbl : List (FuncId × FnC) := tblA
theorem tblOk : ∀ x,x ∈ tbl → ∃ fn,Try.prog.funcs[x.1]? = some fn ∧ ccF Try.prog [] fn = some (stripF x.2) := by
  intro x hx
  simp only [tbl] at hx
  exact tblOkA x hx
end Go.Proofs.Ytlgekplmbmkcmaa
section
set_option linter.unusedSimpArgs false
set_option linter.unusedVariables false
namespace Go.Proofs.Ytlgekplmbmkcmaa
open Go.Fx
inductive T where
  | mk (k n : Int) (s : List UInt8) (l : List T)
namespace T
def k : T → Int | mk k _ _ _ => k
def n : T → Int | mk _ n _ _ => n
def s : T → List UInt8 | mk _ _ s _ => s
def l : T → List T | mk _ _ _ l => l
end T
mutual
def enc : T → List PV
  | .mk k n s l => [.i .i64 k,.i .i64 n,.s s,.l (encL l)]
def encL : List T → List (List PV)
  | [] => []
  | t :: r => enc t :: encL r
end
theorem encL_map (l : List T) : encL l = l.map enc := by
  induction l with
  | nil => rfl
  | cons t l ih => simp [encL,ih]
theorem enc_eq (t : T) : enc t = [.i .i64 t.k,.i .i64 t.n,.s t.s,.l (t.l.map enc)] := by
  cases t; simp [enc,T.k,T.n,T.s,T.l,encL_map]
inductive T.Ok : T → Prop
  | mk (k n : Int) (s : List UInt8) (l : List T) (hk : (Lit.int .i64 k).wf = true) (hn : (Lit.int .i64 n).wf = true) (hs : s.length ≤ reachBytes) (hl : l.length * 56 ≤ reachBytes) (h : ∀ t,t ∈ l → T.Ok t) : T.Ok (.mk k n s l)
mutual
def same : T → T → Bool
  | .mk k n s l,.mk k' n' s' l' => decide (k = k') && decide (s = s') && decide (n = n') && sameL l l'
def sameL : List T → List T → Bool
  | [],[] => true
  | t :: r,t' :: r' => same t t' && sameL r r'
  | _,_ => false
end
theorem enc_len (t : T) : (enc t).length = 4 := by rw [enc_eq]; rfl
theorem enc_take (t : T) : (enc t).take 4 = enc t := by rw [List.take_of_length_le]; simp [enc_len]
theorem enc_all (l : List T) : ((l.map enc).all fun r => decide (r.length = 4)) = true := by simp [enc_len]
theorem wrap_in (n : Int) (h : -9223372036854775808 ≤ n ∧ n ≤ 9223372036854775807) : IntKind.i64.wrap n = n := IntWalk.i64_in n h
abbrev w (n : Int) : Int := IntKind.i64.wrap n
theorem wrap_succ (n : Nat) (h : n < 9223372036854775807) : IntKind.i64.wrap ((n : Int) + 1) = ((n + 1 : Nat) : Int) := by rw [wrap_in _ (by omega)]; omega
theorem nxE : (∀ t : T,(enc t).length = 4) ∧ (∀ t : T,(enc t).take 4 = enc t) := And.intro enc_len enc_take
end Go.Proofs.Ytlgekplmbmkcmaa
end
section
set_option linter.unusedSimpArgs false
set_option linter.unusedVariables false
set_option maxHeartbeats 4000000
set_option maxRecDepth 10000
namespace Go.Proofs.Ytlgekplmbmkcmaa
open Go.Fx
def S0 : Seat := { fb := fun f => if f = 62 then some F62 else none,sp := fun _ => false,orc := fun _ _ => none }
theorem seatOk0 : SeatOk Try.prog [] S0 where
  mixed := by kernel_rfl
  eql := fun t sh h => by simp at h
  fb f fc h := by
    simp only [S0] at h
    split at h
    · rename_i hf
      simp only [Option.some.injEq] at h
      subst h
      rw [hf]
      exact ⟨_,Try.func62,cc62⟩
    · cases h
  orc f ps r h := by simp [S0] at h
theorem spS0 (f : FuncId) : S0.sp f = false := rfl
structure FM (s : Key) (ks : List Int) (σ : St) : Prop where
  bs : σ.bs s = some (.map 3 ks)
  lt : s.2 < σ.clk
structure Fr (ks : Key) (σ σ' : St) : Prop where
  clk : σ.clk ≤ σ'.clk
  ls : σ'.ls = σ.ls
  bs : ∀ k : Key,k.2 < σ.clk → k ≠ ks → σ'.bs k = σ.bs k
theorem Fr.refl (ks : Key) (σ : St) : Fr ks σ σ := ⟨Nat.le_refl _,rfl,fun _ _ _ => rfl⟩
theorem Fr.trans {ks : Key} {σ τ υ : St} (h : Fr ks σ τ) (g : Fr ks τ υ) : Fr ks σ υ :=
  ⟨Nat.le_trans h.clk g.clk,g.ls.trans h.ls,fun k h1 h2 => (g.bs k (Nat.lt_of_lt_of_le h1 h.clk) h2).trans (h.bs k h1 h2)⟩
theorem Fr.add {ks : Key} {σ τ : St} (h : Fr ks σ τ) (d : Nat) (b : Blk) : Fr ks σ (τ.add d b) :=
  ⟨Nat.le_trans h.clk (by simp only [add_clk]; omega),h.ls,fun k h1 h2 => by
    have h3 := h.clk
    have : ¬ k = (d,τ.clk) := by rintro rfl; simp at h1; omega
    simp only [add_bs,this,if_false]; exact h.bs k h1 h2⟩
theorem Fr.put {ks : Key} {σ τ : St} (h : Fr ks σ τ) {k : Key} (hk : k = ks ∨ σ.clk ≤ k.2) (b : Blk) : Fr ks σ (τ.put k b) :=
  ⟨h.clk,h.ls,fun j h1 h2 => by
    have : ¬ j = k := by rintro rfl; rcases hk with hk | hk; exact h2 hk; omega
    simp only [put_bs,this,if_false]; exact h.bs j h1 h2⟩
theorem FM.add {s : Key} {ks : List Int} {σ : St} (h : FM s ks σ) (d : Nat) (x : Blk) : FM s ks (σ.add d x) := by
  have hl := h.lt
  have : ¬ s = (d,σ.clk) := by rintro rfl; simp at hl
  exact ⟨by simp only [add_bs,this,if_false]; exact h.bs,by simp only [add_clk]; omega⟩
theorem FM.put {s : Key} {ks : List Int} {σ : St} (h : FM s ks σ) {k : Key} (hk : ¬ s = k) (x : Blk) : FM s ks (σ.put k x) :=
  ⟨by simp only [put_bs,hk,if_false]; exact h.bs,h.lt⟩
theorem FM.set {s : Key} {ks : List Int} {σ : St} (h : s.2 < σ.clk) : FM s ks (σ.put s (.map 3 ks)) := ⟨by simp only [put_bs,if_true],h⟩
mutual

def fre : T → Int → List Int → List Int
  | .mk k n _ l,b,ks => if k = 1 then (if n ≥ b then w (n - b) :: ks else ks) else freL l (if k = 2 then w (b + 1) else if k = 6 then w (b + n) else b) ks
def freL : List T → Int → List Int → List Int
  | [],_,ks => ks
  | t :: r,b,ks => freL r b (fre t b ks)
end
mutual

def vn : T → Nat
  | .mk k _ _ l => if k = 1 then 1 else vnL l
def vnL : List T → Nat
  | [] => 0
  | t :: r => vn t + vnL r
end
mutual
theorem fre_len : ∀ (t : T) (b : Int) (ks : List Int),(fre t b ks).length ≤ ks.length + vn t
  | .mk k n s l,b,ks => by
    unfold fre vn
    split
    · split
      · simp
      · simp
    · exact freL_len l _ ks
theorem freL_len : ∀ (l : List T) (b : Int) (ks : List Int),(freL l b ks).length ≤ ks.length + vnL l
  | [],b,ks => by simp [freL,vnL]
  | t :: r,b,ks => by
    unfold freL vnL
    have h1 := fre_len t b ks
    have h2 := freL_len r b (fre t b ks)
    omega
end
theorem w_range (x : Int) : -9223372036854775808 ≤ w x ∧ w x ≤ 9223372036854775807 := by
  simp only [w,IntKind.wrap_i64]; omega
theorem freL_app : ∀ (l r : List T) (b : Int) (ks : List Int),freL (l ++ r) b ks = freL r b (freL l b ks)
  | [],r,b,ks => by simp [freL]
  | t :: l,r,b,ks => by simp only [List.cons_append,freL]; exact freL_app l r b _
theorem vnL_app : ∀ (l r : List T),vnL (l ++ r) = vnL l + vnL r
  | [],r => by simp [vnL]
  | t :: l,r => by simp only [List.cons_append,vnL,vnL_app l r]; omega
theorem frA_mp (σ : St) (s : Key) : frA σ (.mp s) = none := rfl
theorem drop_consT {l : List T} {i : Nat} {x : T} (h : l[i]? = some x) : l.drop i = x :: l.drop (i + 1) := by
  obtain ⟨hi,rfl⟩ := List.getElem?_eq_some_iff.1 h
  rw [List.drop_eq_getElem_cons hi]
theorem take_succT {l : List T} {i : Nat} {x : T} (h : l[i]? = some x) : l.take (i + 1) = l.take i ++ [x] := by
  rw [List.take_add_one,h]; rfl
theorem freLoop {l : List T} {b : Int} {s : Key} {ks : List Int} (hl : l.length * 56 ≤ reachBytes) (hn : ks.length + vnL l ≤ 1099511627776)
    (ih : ∀ t ∈ l,∀ (ks : List Int) (σ : St),FM s ks σ → ks.length + vn t ≤ 1099511627776 → ∃ σ',eS S0 (.f 62) [.g ((enc t).map .p),.a (.p (.i .i64 b)),.a (.mp s)] σ = some (.u,σ') ∧ FM s (fre t b ks) σ' ∧ Fr s σ σ')
    {σ : St} (h : FM s ks σ) (e : Env) (e1 : e 1 = .a (.p (.i .i64 b))) (e2 : e 2 = .a (.mp s)) (e33 : e 33 = .a (.p (.l (l.map enc)))) (e34 : e 34 = .a (.p (.i .i64 (l.length : Nat)))) (e35 : e 35 = .a (.p (.i .i64 0))) :
    wp S0 false (.loop F62b0) e σ (fun x e' σ' => x = .exit 1 ∧ FM s (freL l b ks) σ' ∧ Fr s σ σ') := by
  refine loop_nat l.length (fun i e τ => e 1 = .a (.p (.i .i64 b)) ∧ e 2 = .a (.mp s) ∧ e 33 = .a (.p (.l (l.map enc))) ∧ e 34 = .a (.p (.i .i64 (l.length : Nat))) ∧ e 35 = .a (.p (.i .i64 (i : Nat))) ∧ FM s (freL (l.take i) b ks) τ ∧ Fr s σ τ) (i0 := 0) (Nat.zero_le _) ⟨e1,e2,e33,e34,e35,h,Fr.refl _ _⟩ ?_ ?_
  · rintro i e τ hi ⟨e1,e2,e33,e34,e35,hM,hF⟩
    obtain ⟨x,hx⟩ : ∃ x,l[i]? = some x := ⟨_,List.getElem?_eq_getElem hi⟩
    have hx' : (l.map enc)[i]? = some (enc x) := by simp [hx]
    have hxm := List.mem_of_getElem? hx
    have hlt : ((i : Nat) : Int) < (l.length : Int) := by omega
    have hge : (0 : Int) ≤ ((i : Nat) : Int) := by omega
    have hlb : i < 9223372036854775807 := by simp only [reachBytes] at hl; omega
    have hw := wrap_succ i hlb
    have hmt := hM.lt
    have ne0 : ¬ s = (7,τ.clk) := by rintro rfl; simp at hmt
    have e4 : (enc x).map AV.p = [.p (.i .i64 x.k),.p (.i .i64 x.n),.p (.s x.s),.p (.l (x.l.map enc))] := by rw [enc_eq]; rfl
    have hvl : vnL (l.take (i + 1)) ≤ vnL l := by
      have := vnL_app (l.take (i + 1)) (l.drop (i + 1))
      rw [List.take_append_drop] at this; omega
    rw [take_succT hx,vnL_app] at hvl
    simp only [vnL] at hvl
    have hfl := freL_len (l.take i) b ks
    obtain ⟨τ1,c1,hM1,hF1⟩ := ih x hxm (freL (l.take i) b ks) ((τ.add 7 (.var [.p (.i .i64 0),.p (.i .i64 0),.p (.s []),.nil])).put (7,τ.clk) (.var ((enc x).map .p))) ((hM.add _ _).put ne0 _) (by omega)
    have hs1 : freL (l.take (i + 1)) b ks = fre x b (freL (l.take i) b ks) := by rw [take_succT hx,freL_app]; simp [freL]
    rw [hs1]
    rw [e4] at c1
    simp only [F62b0,e1,e2,e33,e34,e35,hlt,hge,hw,hx',e4,enc_len,enc_take,enc_all,frA_mp,c1,spS0,Int.toNat_natCast,List.length_map,fxa,fxc,fxE,fxL,fxI,nxE,evO,evR,cellsT,ldCells,mkT,lenA,binPV,Env.init,resV,resT,frT,klT,ownT,intT,O.adds,ownA,rowsA,over,wrOk,keysT,keysA,ne_eq,if_true,if_false,ite_self,Nat.reduceLT,Nat.reduceSub,Nat.reduceBEq,Nat.reduceEqDiff,Nat.reduceAdd,Nat.reduceLeDiff,reduceCtorEq,Nat.reduceMul]
    exact ⟨hM1,(((hF.add _ _).put (.inr hF.clk) _).trans hF1)⟩
  · rintro e τ ⟨e1,e2,e33,e34,e35,hM,hF⟩
    have hlt : ¬ ((l.length : Nat) : Int) < (l.length : Int) := by omega
    rw [List.take_length] at hM
    simp only [F62b0,e1,e2,e33,e34,e35,hlt,fxa,fxc,fxE,fxL,fxI,nxE,evO,evR,cellsT,ldCells,mkT,lenA,binPV,Env.init,resV,resT,frT,klT,ownT,intT,O.adds,ownA,rowsA,over,wrOk,keysT,keysA,ne_eq,if_true,if_false,ite_self,Nat.reduceLT,Nat.reduceSub,Nat.reduceBEq,Nat.reduceEqDiff,Nat.reduceAdd,Nat.reduceLeDiff,reduceCtorEq,Nat.reduceMul]
    exact ⟨hM,hF⟩
theorem free_ok : ∀ {t : T},T.Ok t → ∀ (b : Int) (s : Key) (ks : List Int) (σ : St),FM s ks σ → ks.length + vn t ≤ 1099511627776 →
    ∃ σ',eS S0 (.f 62) [.g ((enc t).map .p),.a (.p (.i .i64 b)),.a (.mp s)] σ = some (.u,σ') ∧ FM s (fre t b ks) σ' ∧ Fr s σ σ' := by
  intro t ht
  induction ht with
  | mk k n str l hk hn hs hl h ih =>
    intro b s ks σ hM hv
    refine x_fnR (fc := F62) rfl rfl ?_
    have hmt := hM.lt
    have ne0 : ¬ s = (3,σ.clk) := by rintro rfl; simp at hmt
    have ne1 : ¬ (3,σ.clk) = s := fun e => ne0 e.symm
    have e4 : (enc (.mk k n str l)).map AV.p = [.p (.i .i64 k),.p (.i .i64 n),.p (.s str),.p (.l (l.map enc))] := by rw [enc_eq]; rfl
    have s1 := hM.bs
    rw [e4]
    simp only [vn] at hv
    by_cases h1 : k = 1
    · subst h1
      by_cases h2 : n ≥ b
      · have hr := w_range (n - b)
        have hl2 : ks.length < 140737488355328 := by omega
        simp only [F62,s1,ne0,ne1,h2,hr,hl2,fre,spS0,w,fxa,fxc,fxE,fxL,fxI,nxE,evO,evR,cellsT,ldCells,mkT,lenA,binPV,Env.init,resV,resT,frT,klT,ownT,intT,O.adds,ownA,rowsA,over,wrOk,keysT,keysA,ne_eq,if_true,if_false,ite_self,Nat.reduceLT,Nat.reduceSub,Nat.reduceBEq,Nat.reduceEqDiff,Nat.reduceAdd,Nat.reduceLeDiff,reduceCtorEq,Nat.reduceMul]
        exact ⟨FM.set (by simp only [add_clk]; omega),((Fr.refl s σ).add _ _).put (.inl rfl) _⟩
      · simp only [F62,s1,ne0,ne1,h2,fre,spS0,fxa,fxc,fxE,fxL,fxI,nxE,evO,evR,cellsT,ldCells,mkT,lenA,binPV,Env.init,resV,resT,frT,klT,ownT,intT,O.adds,ownA,rowsA,over,wrOk,keysT,keysA,ne_eq,if_true,if_false,ite_self,Nat.reduceLT,Nat.reduceSub,Nat.reduceBEq,Nat.reduceEqDiff,Nat.reduceAdd,Nat.reduceLeDiff,reduceCtorEq,Nat.reduceMul]
        exact ⟨hM.add _ _,(Fr.refl s σ).add _ _⟩
    · rw [if_neg h1] at hv
      by_cases h2 : k = 2
      · subst h2
        simp only [F62,s1,ne0,ne1,h1,fre,spS0,List.length_map,Int.reduceEq,fxa,fxc,fxE,fxL,fxI,nxE,evO,evR,cellsT,ldCells,mkT,lenA,binPV,Env.init,resV,resT,frT,klT,ownT,intT,O.adds,ownA,rowsA,over,wrOk,keysT,keysA,ne_eq,if_true,if_false,ite_self,Nat.reduceLT,Nat.reduceSub,Nat.reduceBEq,Nat.reduceEqDiff,Nat.reduceAdd,Nat.reduceLeDiff,reduceCtorEq,Nat.reduceMul]
        refine Go.Fx.wp_mono (freLoop (b := w (b + 1)) hl hv (fun t ht ks σ hM hv => ih t ht (w (b + 1)) s ks σ hM hv) (hM.add _ _) _ ?_ ?_ ?_ ?_ ?_) ?_
        all_goals first
          | rfl
          | (rintro x e' τ ⟨rfl,hM1,hF1⟩
             simp only [fxa,fxc,fxE,fxL,fxI,nxE,evO,evR,cellsT,ldCells,mkT,lenA,binPV,Env.init,resV,resT,frT,klT,ownT,intT,O.adds,ownA,rowsA,over,wrOk,keysT,keysA,ne_eq,if_true,if_false,ite_self,Nat.reduceLT,Nat.reduceSub,Nat.reduceBEq,Nat.reduceEqDiff,Nat.reduceAdd,Nat.reduceLeDiff,reduceCtorEq,Nat.reduceMul]
             exact ⟨hM1,((Fr.refl s σ).add _ _).trans hF1⟩)
      · by_cases h3 : k = 6
        · subst h3
          simp only [F62,s1,ne0,ne1,h1,h2,fre,spS0,List.length_map,Int.reduceEq,fxa,fxc,fxE,fxL,fxI,nxE,evO,evR,cellsT,ldCells,mkT,lenA,binPV,Env.init,resV,resT,frT,klT,ownT,intT,O.adds,ownA,rowsA,over,wrOk,keysT,keysA,ne_eq,if_true,if_false,ite_self,Nat.reduceLT,Nat.reduceSub,Nat.reduceBEq,Nat.reduceEqDiff,Nat.reduceAdd,Nat.reduceLeDiff,reduceCtorEq,Nat.reduceMul]
          refine Go.Fx.wp_mono (freLoop (b := w (b + n)) hl hv (fun t ht ks σ hM hv => ih t ht (w (b + n)) s ks σ hM hv) (hM.add _ _) _ ?_ ?_ ?_ ?_ ?_) ?_
          all_goals first
            | rfl
            | (rintro x e' τ ⟨rfl,hM1,hF1⟩
               simp only [fxa,fxc,fxE,fxL,fxI,nxE,evO,evR,cellsT,ldCells,mkT,lenA,binPV,Env.init,resV,resT,frT,klT,ownT,intT,O.adds,ownA,rowsA,over,wrOk,keysT,keysA,ne_eq,if_true,if_false,ite_self,Nat.reduceLT,Nat.reduceSub,Nat.reduceBEq,Nat.reduceEqDiff,Nat.reduceAdd,Nat.reduceLeDiff,reduceCtorEq,Nat.reduceMul]
               exact ⟨hM1,((Fr.refl s σ).add _ _).trans hF1⟩)
        · simp only [F62,s1,ne0,ne1,h1,h2,h3,fre,spS0,List.length_map,Int.reduceEq,fxa,fxc,fxE,fxL,fxI,nxE,evO,evR,cellsT,ldCells,mkT,lenA,binPV,Env.init,resV,resT,frT,klT,ownT,intT,O.adds,ownA,rowsA,over,wrOk,keysT,keysA,ne_eq,if_true,if_false,ite_self,Nat.reduceLT,Nat.reduceSub,Nat.reduceBEq,Nat.reduceEqDiff,Nat.reduceAdd,Nat.reduceLeDiff,reduceCtorEq,Nat.reduceMul]
          refine Go.Fx.wp_mono (freLoop (b := b) hl hv (fun t ht ks σ hM hv => ih t ht b s ks σ hM hv) (hM.add _ _) _ ?_ ?_ ?_ ?_ ?_) ?_
          all_goals first
            | rfl
            | (rintro x e' τ ⟨rfl,hM1,hF1⟩
               simp only [fxa,fxc,fxE,fxL,fxI,nxE,evO,evR,cellsT,ldCells,mkT,lenA,binPV,Env.init,resV,resT,frT,klT,ownT,intT,O.adds,ownA,rowsA,over,wrOk,keysT,keysA,ne_eq,if_true,if_false,ite_self,Nat.reduceLT,Nat.reduceSub,Nat.reduceBEq,Nat.reduceEqDiff,Nat.reduceAdd,Nat.reduceLeDiff,reduceCtorEq,Nat.reduceMul]
               exact ⟨hM1,((Fr.refl s σ).add _ _).trans hF1⟩)
end Go.Proofs.Ytlgekplmbmkcmaa
end
section
set_option linter.unusedSimpArgs false
set_option linter.unusedVariables false
namespace Go.Proofs.Ytlgekplmbmkcmaa
open Go.Fx
def withL (n : Int) : Bool → List Int → List Int
  | laid,[] => if laid = true then [] else [n]
  | laid,x :: r => (if laid = false ∧ x ≥ n then [n] else []) ++ ((if x ≠ n then [x] else []) ++ withL n (laid || decide (x ≥ n)) r)
mutual
def refF : T → Int → List Int → List Int
  | .mk k n _ l,b,ks => if k = 1 then (if n ≥ b then withL (w (n - b)) false ks else ks) else refFL l (if k = 2 then w (b + 1) else if k = 6 then w (b + n) else b) ks
def refFL : List T → Int → List Int → List Int
  | [],_,ks => ks
  | t :: r,b,ks => refFL r b (refF t b ks)
end
theorem withL_t {n m : Int} : ∀ {l : List Int},m ∈ withL n true l ↔ m ∈ l ∧ m ≠ n
  | [] => by simp [withL]
  | x :: r => by
    have := withL_t (n := n) (m := m) (l := r)
    simp only [withL,Bool.true_eq_false,false_and,if_false,List.nil_append,Bool.true_or,List.mem_append,this,List.mem_cons]
    by_cases hx : x = n
    · simp only [hx,ne_eq,not_true_eq_false,if_false,List.not_mem_nil,false_or]
      constructor
      · rintro ⟨h,h2⟩; exact ⟨.inr h,h2⟩
      · rintro ⟨h | h,h2⟩
        · exact absurd h h2
        · exact ⟨h,h2⟩
    · simp only [ne_eq,hx,not_false_eq_true,if_true,List.mem_singleton]
      constructor
      · rintro (rfl | h)
        · exact ⟨.inl rfl,hx⟩
        · exact ⟨.inr h.1,h.2⟩
      · rintro ⟨rfl | h,h2⟩
        · exact .inl rfl
        · exact .inr ⟨h,h2⟩
theorem withL_f {n m : Int} : ∀ {l : List Int},m ∈ withL n false l ↔ m = n ∨ m ∈ l
  | [] => by simp [withL]
  | x :: r => by
    have h1 := withL_f (n := n) (m := m) (l := r)
    have h2 := withL_t (n := n) (m := m) (l := r)
    simp only [withL,true_and,Bool.false_or,List.mem_append,List.mem_cons]
    by_cases hge : x ≥ n
    · simp only [hge,if_true,decide_true,h2,List.mem_singleton]
      by_cases hx : x = n
      · simp only [hx,ne_eq,not_true_eq_false,if_false,List.not_mem_nil,false_or]
        constructor
        · rintro (h | h)
          · exact .inl h
          · exact .inr (.inr h.1)
        · rintro (h | h | h)
          · exact .inl h
          · exact .inl h
          · by_cases e : m = n
            · exact .inl e
            · exact .inr ⟨h,e⟩
      · simp only [ne_eq,hx,not_false_eq_true,if_true,List.mem_singleton]
        constructor
        · rintro (h | h | h)
          · exact .inl h
          · exact .inr (.inl h)
          · exact .inr (.inr h.1)
        · rintro (h | h | h)
          · exact .inl h
          · exact .inr (.inl h)
          · by_cases e : m = n
            · exact .inl e
            · exact .inr (.inr ⟨h,e⟩)
    · have hx : x ≠ n := by omega
      simp only [hge,if_false,List.not_mem_nil,false_or,decide_false,h1,ne_eq,hx,not_false_eq_true,if_true,List.mem_singleton]
      constructor
      · rintro (h | h | h)
        · exact .inr (.inl h)
        · exact .inl h
        · exact .inr (.inr h)
      · rintro (h | h | h)
        · exact .inr (.inl h)
        · exact .inl h
        · exact .inr (.inr h)
theorem withL_st {n : Int} : ∀ {l : List Int},l.Pairwise (· < ·) → (withL n true l).Pairwise (· < ·)
  | [],_ => by simp [withL]
  | x :: r,h => by
    obtain ⟨h1,h2⟩ := List.pairwise_cons.1 h
    have ih := withL_st (n := n) h2
    simp only [withL,Bool.true_eq_false,false_and,if_false,List.nil_append,Bool.true_or]
    by_cases hx : x = n
    · simpa [hx] using ih
    · simp only [ne_eq,hx,not_false_eq_true,if_true,List.singleton_append,List.pairwise_cons]
      exact ⟨fun y hy => h1 y (withL_t.1 hy).1,ih⟩
theorem withL_sf {n : Int} : ∀ {l : List Int},l.Pairwise (· < ·) → (withL n false l).Pairwise (· < ·)
  | [],_ => by simp [withL]
  | x :: r,h => by
    obtain ⟨h1,h2⟩ := List.pairwise_cons.1 h
    have ih := withL_sf (n := n) h2
    have it := withL_st (n := n) h2
    simp only [withL,true_and,Bool.false_or]
    by_cases hge : x ≥ n
    · simp only [hge,if_true,decide_true,List.singleton_append,List.pairwise_cons]
      by_cases hx : x = n
      · subst hx
        simp only [ne_eq,not_true_eq_false,if_false,List.nil_append]
        exact ⟨fun y hy => h1 y (withL_t.1 hy).1,it⟩
      · simp only [ne_eq,hx,not_false_eq_true,if_true,List.singleton_append,List.pairwise_cons,List.mem_cons]
        refine ⟨?_,fun y hy => h1 y (withL_t.1 hy).1,it⟩
        rintro y (rfl | hy)
        · omega
        · have := h1 y (withL_t.1 hy).1; omega
    · have hx : x ≠ n := by omega
      simp only [hge,if_false,List.nil_append,decide_false,ne_eq,hx,not_false_eq_true,if_true,List.singleton_append,List.pairwise_cons]
      refine ⟨fun y hy => ?_,ih⟩
      rcases withL_f.1 hy with rfl | hy
      · omega
      · exact h1 y hy
mutual
theorem refF_mem : ∀ (t : T) (b : Int) (l ks : List Int),(∀ m,m ∈ l ↔ m ∈ ks) → ∀ m,m ∈ refF t b l ↔ m ∈ fre t b ks
  | .mk k n s r,b,l,ks,h => by
    intro m
    unfold refF fre
    split
    · split
      · rw [withL_f,List.mem_cons,h]
      · exact h m
    · exact refFL_mem r _ l ks h m
theorem refFL_mem : ∀ (r : List T) (b : Int) (l ks : List Int),(∀ m,m ∈ l ↔ m ∈ ks) → ∀ m,m ∈ refFL r b l ↔ m ∈ freL r b ks
  | [],b,l,ks,h => by intro m; unfold refFL freL; exact h m
  | t :: r,b,l,ks,h => by intro m; unfold refFL freL; exact refFL_mem r b _ _ (refF_mem t b l ks h) m
end
mutual
theorem refF_lt : ∀ (t : T) (b : Int) (l : List Int),l.Pairwise (· < ·) → (refF t b l).Pairwise (· < ·)
  | .mk k n s r,b,l,h => by
    unfold refF
    split
    · split
      · exact withL_sf h
      · exact h
    · exact refFL_lt r _ l h
theorem refFL_lt : ∀ (r : List T) (b : Int) (l : List Int),l.Pairwise (· < ·) → (refFL r b l).Pairwise (· < ·)
  | [],b,l,h => by unfold refFL; exact h
  | t :: r,b,l,h => by unfold refFL; exact refFL_lt r b _ (refF_lt t b l h)
end
theorem lt_ext : ∀ {l l' : List Int},l.Pairwise (· < ·) → l'.Pairwise (· < ·) → (∀ m,m ∈ l ↔ m ∈ l') → l = l'
  | [],[],_,_,_ => rfl
  | [],y :: r',_,_,h => by have := (h y).2 (by simp); simp at this
  | x :: r,[],_,_,h => by have := (h x).1 (by simp); simp at this
  | x :: r,y :: r',h1,h2,h => by
    obtain ⟨a1,a2⟩ := List.pairwise_cons.1 h1
    obtain ⟨b1,b2⟩ := List.pairwise_cons.1 h2
    have hxy : x = y := by
      have p := (h x).1 (by simp)
      have q := (h y).2 (by simp)
      rcases List.mem_cons.1 p with rfl | p
      · rfl
      · rcases List.mem_cons.1 q with rfl | q
        · rfl
        · have := b1 x p; have := a1 y q; omega
    subst hxy
    refine congrArg (x :: ·) (lt_ext a2 b2 fun m => ?_)
    constructor
    · intro hm
      rcases List.mem_cons.1 ((h m).1 (by simp [hm])) with rfl | h'
      · have := a1 m hm; omega
      · exact h'
    · intro hm
      rcases List.mem_cons.1 ((h m).2 (by simp [hm])) with rfl | h'
      · have := b1 m hm; omega
      · exact h'
def freeT (t : T) : List Int := refF t 0 []
theorem sorted_freeT {t : T} {ss : List Int} (hn : ss.Nodup) (hm : ∀ m,m ∈ ss ↔ m ∈ fre t 0 []) : ss.mergeSort (fun x y => decide (x ≤ y)) = freeT t := by
  have hp := List.mergeSort_perm ss (fun x y => decide (x ≤ y))
  have hs := List.pairwise_mergeSort (le := fun x y : Int => decide (x ≤ y)) (fun a b c => by simp; omega) (fun a b => by simp; omega) ss
  refine lt_ext ?_ (refF_lt t 0 [] (by simp)) fun m => ?_
  · have hnd : (ss.mergeSort (fun x y => decide (x ≤ y))).Nodup := hp.nodup_iff.2 hn
    have := hs.and hnd
    exact this.imp fun h => by
      simp only [decide_eq_true_eq] at h
      obtain ⟨h1,h2⟩ := h
      have : _ ≠ _ := h2
      omega
  · rw [hp.mem_iff,hm,freeT]
    exact (refF_mem t 0 [] [] (fun _ => Iff.rfl) m).symm
end Go.Proofs.Ytlgekplmbmkcmaa
end
section
set_option maxRecDepth 100000
namespace Go.Proofs.Ytlgekplmbmkcmaa
open Go.Shelf Go.Proofs
def layK_ren : Go.Shelf.Ren := ⟨fun | 7 => 64 | 10 => 72 | n => n,fun | 23 => 57 | 26 => 3 | 3 => 63 | 28 => 61 | 0 => 0 | 27 => 60 | 33 => 68 | 4 => 4 | n => n,fun | n => n⟩
theorem layK : Go.Proofs.SlLaysZI.n7 Try.prog layK_ren := {
  mixed := by kernel_rfl,
  f7 := ⟨Try.f64.name,by decide,Try.func64.trans (congrArg some (by kernel_rfl))⟩,
  f10 := ⟨Try.f72.name,by decide,Try.func72.trans (congrArg some (by kernel_rfl))⟩,
  t0 := Try.underlying0,
  a0 := Try.isAgg0,
  z0 := Try.sizeOf0,
  v0 := Try.zeroValue0,
  t4 := Try.underlying4,
  a4 := Try.isAgg4,
  z4 := Try.sizeOf4,
  v4 := Try.zeroValue4,
  t23 := Try.underlying57,
  a23 := Try.isAgg57,
  z23 := Try.sizeOf57,
  v23 := Try.zeroValue57,
  t26 := Try.underlying3,
  a26 := Try.isAgg3,
  z26 := Try.sizeOf3,
  v26 := Try.zeroValue3,
  t27 := Try.underlying60,
  a27 := Try.isAgg60,
  z27 := Try.sizeOf60,
  v27 := Try.zeroValue60,
  t28 := Try.underlying61,
  a28 := Try.isAgg61,
  z28 := Try.sizeOf61,
  v28 := Try.zeroValue61,
  t33 := Try.underlying68,
  a33 := Try.isAgg68,
  z33 := Try.sizeOf68,
  v33 := Try.zeroValue68 }
def layS_ren : Go.Shelf.Ren := ⟨fun | 6 => 63 | 8 => 66 | 9 => 71 | 11 => 74 | 13 => 86 | 12 => 85 | 23 => 98 | 24 => 99 | 14 => 89 | 15 => 90 | 16 => 91 | 17 => 92 | 18 => 93 | 19 => 94 | 20 => 95 | 21 => 96 | 22 => 97 | 25 => 105 | 26 => 106 | 27 => 107 | 28 => 108 | 29 => 109 | 30 => 110 | 31 => 111 | n => n,fun | 26 => 3 | 28 => 61 | 24 => 45 | 0 => 0 | 3 => 3 | 37 => 79 | 48 => 96 | 50 => 98 | 4 => 4 | 40 => 88 | 39 => 87 | 45 => 93 | 5 => 5 | 9 => 9 | 51 => 103 | 55 => 107 | 57 => 109 | 58 => 110 | 33 => 68 | n => n,fun | n => n⟩
theorem layS : Go.Proofs.SlLaysZI.n6 Try.prog layS_ren := {
  mixed := by kernel_rfl,
  f6 := ⟨Try.f63.name,by decide,Try.func63.trans (congrArg some (by kernel_rfl))⟩,
  f8 := ⟨Try.f66.name,by decide,Try.func66.trans (congrArg some (by kernel_rfl))⟩,
  f11 := ⟨Try.f74.name,by decide,Try.func74.trans (congrArg some (by kernel_rfl))⟩,
  t0 := Try.underlying0,
  a0 := Try.isAgg0,
  z0 := Try.sizeOf0,
  v0 := Try.zeroValue0,
  t24 := Try.underlying45,
  a24 := Try.isAgg45,
  z24 := Try.sizeOf45,
  v24 := Try.zeroValue45,
  t26 := Try.underlying3,
  a26 := Try.isAgg3,
  z26 := Try.sizeOf3,
  v26 := Try.zeroValue3,
  t28 := Try.underlying61,
  a28 := Try.isAgg61,
  z28 := Try.sizeOf61,
  v28 := Try.zeroValue61,
  i26 := by kernel_rfl }
def layT_ren : Go.Shelf.Ren := ⟨fun | 5 => 71 | 8 => 86 | 7 => 85 | 19 => 98 | 20 => 99 | 10 => 89 | 11 => 90 | 12 => 91 | 13 => 92 | 14 => 93 | 15 => 94 | 16 => 95 | 17 => 96 | 18 => 97 | 30 => 105 | 31 => 106 | 32 => 107 | 33 => 108 | 34 => 109 | 35 => 110 | 40 => 111 | n => n,fun | 23 => 45 | 25 => 3 | 3 => 3 | 32 => 79 | 22 => 45 | 0 => 0 | 44 => 96 | 46 => 98 | 4 => 4 | 36 => 88 | 35 => 87 | 41 => 93 | 5 => 5 | 9 => 9 | 53 => 103 | 57 => 107 | 63 => 109 | 64 => 110 | n => n,fun | n => n⟩
theorem layT : Go.Proofs.SlLaysM.n5 Try.prog layT_ren := {
  mixed := by kernel_rfl,
  f5 := ⟨Try.f71.name,by decide,Try.func71.trans (congrArg some (by kernel_rfl))⟩,
  f7 := ⟨Try.f85.name,by decide,Try.func85.trans (congrArg some (by kernel_rfl))⟩,
  f8 := Try.func86.trans (congrArg some (by kernel_rfl)),
  f10 := ⟨Try.f89.name,by decide,Try.func89.trans (congrArg some (by kernel_rfl))⟩,
  f11 := ⟨Try.f90.name,by decide,Try.func90.trans (congrArg some (by kernel_rfl))⟩,
  f12 := ⟨Try.f91.name,by decide,Try.func91.trans (congrArg some (by kernel_rfl))⟩,
  f13 := ⟨Try.f92.name,by decide,Try.func92.trans (congrArg some (by kernel_rfl))⟩,
  f14 := ⟨Try.f93.name,by decide,Try.func93.trans (congrArg some (by kernel_rfl))⟩,
  f15 := ⟨Try.f94.name,by decide,Try.func94.trans (congrArg some (by kernel_rfl))⟩,
  f16 := ⟨Try.f95.name,by decide,Try.func95.trans (congrArg some (by kernel_rfl))⟩,
  f17 := ⟨Try.f96.name,by decide,Try.func96.trans (congrArg some (by kernel_rfl))⟩,
  f18 := ⟨Try.f97.name,by decide,Try.func97.trans (congrArg some (by kernel_rfl))⟩,
  f19 := Try.func98.trans (congrArg some (by kernel_rfl)),
  f20 := Try.func99.trans (congrArg some (by kernel_rfl)),
  f30 := ⟨Try.f105.name,by decide,Try.func105.trans (congrArg some (by kernel_rfl))⟩,
  f31 := Try.func106.trans (congrArg some (by kernel_rfl)),
  f32 := Try.func107.trans (congrArg some (by kernel_rfl)),
  f33 := ⟨Try.f108.name,by decide,Try.func108.trans (congrArg some (by kernel_rfl))⟩,
  f34 := ⟨Try.f109.name,by decide,Try.func109.trans (congrArg some (by kernel_rfl))⟩,
  f35 := ⟨Try.f110.name,by decide,Try.func110.trans (congrArg some (by kernel_rfl))⟩,
  f40 := ⟨Try.f111.name,by decide,Try.func111.trans (congrArg some (by kernel_rfl))⟩,
  t0 := Try.underlying0,
  a0 := Try.isAgg0,
  z0 := Try.sizeOf0,
  v0 := Try.zeroValue0,
  t3 := Try.underlying3,
  a3 := Try.isAgg3,
  z3 := Try.sizeOf3,
  v3 := Try.zeroValue3,
  t4 := Try.underlying4,
  a4 := Try.isAgg4,
  z4 := Try.sizeOf4,
  v4 := Try.zeroValue4,
  t5 := Try.underlying5,
  a5 := Try.isAgg5,
  z5 := Try.sizeOf5,
  v5 := Try.zeroValue5,
  t9 := Try.underlying9,
  a9 := Try.isAgg9,
  z9 := Try.sizeOf9,
  v9 := Try.zeroValue9,
  t22 := Try.underlying45,
  a22 := Try.isAgg45,
  z22 := Try.sizeOf45,
  v22 := Try.zeroValue45,
  t23 := Try.underlying45,
  a23 := Try.isAgg45,
  z23 := Try.sizeOf45,
  v23 := Try.zeroValue45,
  t25 := Try.underlying3,
  a25 := Try.isAgg3,
  z25 := Try.sizeOf3,
  v25 := Try.zeroValue3,
  t32 := Try.underlying79,
  a32 := Try.isAgg79,
  z32 := Try.sizeOf79,
  v32 := Try.zeroValue79,
  t35 := Try.underlying87,
  a35 := Try.isAgg87,
  z35 := Try.sizeOf87,
  v35 := Try.zeroValue87,
  t36 := Try.underlying88,
  a36 := Try.isAgg88,
  z36 := Try.sizeOf88,
  v36 := Try.zeroValue88,
  t41 := Try.underlying93,
  a41 := Try.isAgg93,
  z41 := Try.sizeOf93,
  v41 := Try.zeroValue93,
  t44 := Try.underlying96,
  a44 := Try.isAgg96,
  z44 := Try.sizeOf96,
  v44 := Try.zeroValue96,
  t46 := Try.underlying98,
  a46 := Try.isAgg98,
  z46 := Try.sizeOf98,
  v46 := Try.zeroValue98,
  t53 := Try.underlying103,
  a53 := Try.isAgg103,
  z53 := Try.sizeOf103,
  v53 := Try.zeroValue103,
  t57 := Try.underlying107,
  a57 := Try.isAgg107,
  z57 := Try.sizeOf107,
  v57 := Try.zeroValue107,
  t63 := Try.underlying109,
  a63 := Try.isAgg109,
  z63 := Try.sizeOf109,
  v63 := Try.zeroValue109,
  t64 := Try.underlying110,
  a64 := Try.isAgg110,
  z64 := Try.sizeOf110,
  v64 := Try.zeroValue110 }
end Go.Proofs.Ytlgekplmbmkcmaa
end
section
set_option linter.unusedSimpArgs false
set_option linter.unusedVariables false
namespace Go.Proofs.Ytlgekplmbmkcmaa
open Go.Fx Go.RowKit Go.Maps Go.Sort Go.Shelf Go.Proofs
open Go.WideElems (Fit rd rg)
theorem im_owns {P : Program} {k : TypeId} (hk : P.underlying k = some (.int .i64)) {w : World} {b : Nat} {es : Array MapEntry} {clock : Nat} {ks : List Int} (hb : w.heap[b]? = some (.map es clock)) (I : IM es clock ks) :
    ∃ D0 : DataW Unit,w.ownsMap P k unitElem b ks.length D0 ∧ (intKeys D0).Nodup ∧ ∀ m,m ∈ intKeys D0 ↔ m ∈ ks := by
  have hsz := I.size
  have hln := I.len
  have rd1 : ∀ x ∈ es.toList,∃ n : Int,x.key = .int .i64 n ∧ n ∈ ks ∧ rd P k (unitElem (H := Unit)) x = some (.int .i64 n,.agg []) := by
    intro x hx
    obtain ⟨n,h1,h2,h3,h4⟩ := I.reads x hx
    refine ⟨n,h2,h4,?_⟩
    have := WideElems.rd_mk (P := P) (k := k) (R := unitElem (H := Unit)) (key := x.key) (val := x.val) (born := x.born) (kl := .int .i64 n) (yv := (.agg [],[])) (by rw [h2]; exact keyOf_int_mk hk h1) (by rw [h3]; exact unitElem_mk)
    cases x
    exact this
  have F : Fit P k (unitElem (H := Unit)) es clock := ⟨by simp only [maxLen]; omega,I.stamped,fun x hx => by obtain ⟨n,_,_,h⟩ := rd1 x hx; exact ⟨_,h⟩⟩
  refine ⟨.map ((es.toList.map (rg P k unitElem)).foldr DataW.insert []),⟨es,clock,hb,F,hsz,rfl⟩,?_,?_⟩
  all_goals
    have hp : (intKeys (DataW.map ((es.toList.map (rg P k (unitElem (H := Unit)))).foldr DataW.insert []))).Perm (es.toList.map fun x => Go.intOf (rg P k (unitElem (H := Unit)) x).1) := by
      have := (WideShapes.sorted_perm (es.toList.map (rg P k (unitElem (H := Unit))))).map fun p => Go.intOf p.1
      rw [List.map_map] at this
      exact this
  · rw [hp.nodup_iff]
    refine List.pairwise_map.2 ((((MapKept.stamped_iff es clock).1 I.stamped).2.2).imp_of_mem fun {p q} hp' hq' hne e => hne ?_)
    obtain ⟨a,ha,_,ra⟩ := rd1 p hp'
    obtain ⟨c,hc,_,rc⟩ := rd1 q hq'
    rw [WideElems.rg_of ra,WideElems.rg_of rc] at e
    have e : a = c := e
    rw [ha,hc,e]
  · intro m
    rw [hp.mem_iff,List.mem_map]
    constructor
    · rintro ⟨x,hx,e⟩
      obtain ⟨a,ha,hm,ra⟩ := rd1 x hx
      rw [WideElems.rg_of ra] at e
      have e : a = m := e
      rw [← e]; exact hm
    · intro hm
      obtain ⟨x,hx,hk2⟩ := I.all m hm
      obtain ⟨a,ha,_,ra⟩ := rd1 x hx
      refine ⟨x,hx,?_⟩
      rw [WideElems.rg_of ra]
      rw [hk2] at ha
      simp only [Value.int.injEq,true_and] at ha
      exact ha.symm
theorem sortsA (m : Nat) : AnyZI.SortsIn Try.prog layS_ren Fence.wide m :=
  ⟨fun blk off cap ss W hH hblk hsz => callsIn_wide.2 (AnyM.slices_Sort_int layT blk off cap ss W hH hblk hsz),
   fun p cap W => callsIn_wide.2 (AnyM.slices_Sort_int_none layT p cap W)⟩
theorem free_call {t : T} (ht : T.Ok t) (hv : vn t ≤ 1073741824) {w : World} {D : Nat → Prop} (hD : ∀ b,D b → b < w.heap.size) {vs : List Value} (hvs : F2 (RP w D) (enc t) vs) {b : Nat} (hbD : ¬ D b) (hb : w.heap[b]? = some (.map #[] 0)) :
    Calls Try.prog 62 #[.agg vs.toArray,.int .i64 0,.map (some b)] w fun e w' => e = .returned undef ∧ ∃ es clock,w'.heap[b]? = some (.map es clock) ∧ IM es clock (fre t 0 []) ∧ w.grownBy w' (some b) := by
  let σ0 : St := St.empty.add 1 (.map 3 [])
  obtain ⟨σ',h1,hM,hF⟩ := free_ok ht 0 (1,0) [] σ0 ⟨rfl,by show 0 < 1; omega⟩ (by simp only [List.length_nil]; omega)
  obtain ⟨k,hk⟩ := (eS_some S0).1 h1
  obtain ⟨hen,hc⟩ := (sound seatOk0 k).1 _ _ _ _ _ hk
  let m : Mt := { mu := fun s => if s = (1,0) then some (b,0) else none,la := fun _ => 0,D := D }
  have hbs : ∀ s blk,σ0.bs s = some blk → s = (1,0) ∧ blk = .map 3 [] := by
    intro s blk h
    have h : (if s = (1,St.empty.clk) then some (Blk.map 3 []) else St.empty.bs s) = some blk := h
    by_cases e : s = (1,St.empty.clk)
    · rw [if_pos e] at h; exact ⟨e,(Option.some.inj h).symm⟩
    · rw [if_neg e] at h; cases h
  have hin : ∀ b',InS m σ0 b' → b' = b := by
    rintro b' (⟨s,bl,c,hs,hm⟩ | ⟨l,hl,_⟩)
    · obtain ⟨rfl,_⟩ := hbs s bl hs
      simp only [m,if_true,Option.some.injEq,Prod.mk.injEq] at hm
      exact hm.1.symm
    · simp [σ0,St.add,St.put,St.empty] at hl
  have hlt : b < w.heap.size := (Array.getElem?_eq_some_iff.1 hb).1
  have hR : SR (CRP Try.prog []) m σ0 w :=
    { blk := fun s bl hs => by
        obtain ⟨rfl,rfl⟩ := hbs s bl hs
        exact ⟨b,#[],0,by simp [m],hb,⟨by simp,by simp,MapKept.stamped_empty 0,by simp,by simp⟩⟩
      gen := fun s bl hs => by obtain ⟨rfl,_⟩ := hbs s bl hs; show 0 < 1; omega
      inj := fun s s' bl bl' B c c' hs hs' _ _ => by obtain ⟨rfl,_⟩ := hbs s bl hs; obtain ⟨rfl,_⟩ := hbs s' bl' hs'; rfl
      dj := fun b' hb' => by rw [hin b' hb']; exact hbD
      dlt := hD
      lrs := fun l r hl => by simp [σ0,St.add,St.put,St.empty] at hl
      linj := fun l l' hl => by simp [σ0,St.add,St.put,St.empty] at hl }
  have hargs : F2 (RT m σ0 w) [.g ((enc t).map .p),.a (.p (.i .i64 0)),.a (.mp (1,0))] [.agg vs.toArray,.int .i64 0,.map (some b)] := by
    refine .cons ⟨vs,rfl,?_⟩ (.cons (RP.i _ _) (.cons ⟨⟨by show 0 < 1; omega,fun bl hbl => ⟨b,0,by simp [m],rfl⟩⟩,_,rfl⟩ .nil))
    exact F2_p rfl hvs
  refine (callsIn_wide.1 (hc m w _ hR hargs none 0)).mono ?_
  rintro e w' ⟨v,m',rfl,hR',hv',hX⟩
  have hv' : v = undef := hv'
  subst hv'
  refine ⟨rfl,?_⟩
  obtain ⟨B,es,clock,hm,hbl,hI⟩ := hR'.blk _ _ hM.bs
  rw [hX.mu (1,0) (by show 0 < 1; omega)] at hm
  simp only [m,if_true,Option.some.injEq,Prod.mk.injEq,and_true] at hm
  subst hm
  refine ⟨es,clock,hbl,hI,⟨hX.os,hX.tape,hX.output,hX.size,fun i hi hne => hX.kept i hi fun h => hne (by rw [hin i h])⟩⟩
def encI (i : Int) : List PV := [.i .i64 i]
theorem row_rp {w : World} {base : Nat} {v : Value} {l : List Int} (h : w.ownsRow base 3 1 v l.length (l.map encZ)) {D : Nat → Prop} (hD : ∀ g,base ≤ g → g < w.heap.size → D g) : RP w D (.l (l.map encI)) v := by
  rcases h.2 with ⟨rfl,hz⟩ | ⟨g,cap,cur,rfl,hbase,hg,hn,hc,hsz,htk⟩
  · have : l = [] := List.eq_nil_of_length_eq_zero hz
    subst this
    exact .e _ _
  · have hgl : g < w.heap.size := (Array.getElem?_eq_some_iff.1 hg).1
    have key := RP.l (w := w) (D := D) (l.map encI) ⟨g,0,none⟩ 1 cap (fun i _ => .int .i64 (l.getD i 0)) rfl (hD g hbase hgl) (by simpa using hn)
      (fun i r hr => by
        rw [List.getElem?_map] at hr
        obtain ⟨x,_,rfl⟩ := Option.map_eq_some_iff.1 hr
        rfl)
      (fun i r j p hr hj => by
        rw [List.getElem?_map] at hr
        obtain ⟨x,hx,rfl⟩ := Option.map_eq_some_iff.1 hr
        have hj0 : j = 0 := by
          cases j with
          | zero => rfl
          | succ j => simp [encI] at hj
        subst hj0
        have hil : i < l.length := (List.getElem?_eq_some_iff.1 hx).1
        have h2 : (cur.toList.take (l.length * 1))[i]? = some (.int .i64 x) := by rw [htk]; simp [hx]
        rw [List.getElem?_take_of_lt (by omega)] at h2
        simp only [World.cell?,hg,Option.isSome_none,Bool.false_eq_true,if_false,Nat.zero_add,Nat.mul_one,Nat.add_zero,List.getD_eq_getElem?_getD,hx,Option.getD_some]
        simpa using h2)
      (fun i r j p hr hj => by
        rw [List.getElem?_map] at hr
        obtain ⟨x,hx,rfl⟩ := Option.map_eq_some_iff.1 hr
        have hj0 : j = 0 := by
          cases j with
          | zero => rfl
          | succ j => simp [encI] at hj
        subst hj0
        simp only [encI,List.getElem?_cons_zero,Option.some.injEq] at hj
        subst hj
        simp only [List.getD_eq_getElem?_getD,hx,Option.getD_some]
        exact .i _ _)
    rw [List.length_map] at key
    exact key
theorem sorted_call {t : T} {w : World} {b : Nat} {es : Array MapEntry} {clock : Nat} (hv : vn t ≤ 1073741824) (hb : w.heap[b]? = some (.map es clock)) (hI : IM es clock (fre t 0 [])) :
    CallsIn Fence.wide 5 Try.prog 63 #[.func (.func 72) #[] #[.pointer (some ⟨w.heap.size,0,none⟩)]] (w.alloc (.cells #[.map (some b)] 57)) fun e w' =>
      ∃ v,e = .returned v ∧ w'.ownsRow (w.heap.size + 1) 3 1 v (freeT t).length ((freeT t).map encZ) ∧ Below (w.heap.size + 1) (w.alloc (.cells #[.map (some b)] 57)) w' := by
  obtain ⟨D0,hown,hnd,hmem⟩ := im_owns (k := 3) Try.underlying3 hb hI
  have hlen := fre_len t 0 []
  simp only [List.length_nil,Nat.zero_add] at hlen
  have hsz : Maps.size D0 ≤ (fre t 0 []).length := by
    obtain ⟨es',clock',h1,h2,h3,h4⟩ := hown
    subst h4
    simp only [Maps.size]
    rw [length_sorted]
    simpa using h3
  have hbl := hown.lt
  have hseq : SeqGives Fence.wide 2 Try.prog 72 #[.pointer (some ⟨w.heap.size,0,none⟩)] encZ (fun ss => ss.Perm (intKeys D0)) (Maps.size D0) (w.alloc (.cells #[.map (some b)] 57)) :=
    AnyZI.keys_gives (ρ := layK_ren) { layK with } Fence.wide _ trivial rfl (by omega) w.heap.size b (fre t 0 []).length D0 _ (by simp) (by simp) (by
      obtain ⟨es,clock,hb,Ft,hs,hD⟩ := hown
      exact ⟨es,clock,(Below.heap_alloc _ _ b hbl).trans hb,Ft,hs,hD⟩)
  have cS := AnyZI.sorted_in layS Fence.wide 5 trivial trivial trivial trivial rfl (by omega) (sortsA _) (enters_of Try.func71 (by kernel_rfl) rfl) 72 #[.pointer (some ⟨w.heap.size,0,none⟩)] trivial (enters_of Try.func72 (by kernel_rfl) rfl) _ _ (by simp only [maxLen]; omega) (by omega) _ hseq
  change CallsIn _ _ Try.prog 63 _ _ _ at cS
  refine cS.mono ?_
  rintro e w' ⟨v,ss,rfl,hS,hrow,hnil,hbw⟩
  have hss := sorted_freeT (t := t) (ss := ss) (hS.nodup_iff.2 hnd) (fun m => by rw [hS.mem_iff,hmem])
  have hl : ss.length = (freeT t).length := by rw [← hss,List.length_mergeSort]
  rw [hss,hl] at hrow
  have hsz1 : (w.alloc (.cells #[.map (some b)] 57)).heap.size = w.heap.size + 1 := by simp
  rw [hsz1] at hrow hbw
  exact ⟨v,rfl,hrow,hbw⟩
end Go.Proofs.Ytlgekplmbmkcmaa
end
section
set_option linter.unusedSimpArgs false
set_option linter.unusedVariables false
namespace Go.Proofs.Ytlgekplmbmkcmaa
open Go.Fx Go.RowKit Go.Maps Go.Sort Go.Shelf Go.Proofs
set_option maxHeartbeats 4000000 in
theorem free_machine {t : T} (ht : T.Ok t) (hv : vn t ≤ 1073741824) {w : World} {D : Nat → Prop} (hD : ∀ b,D b → b < w.heap.size) {v : Value} (hr : RPT w D (.g (enc t)) v) :
    Calls Try.prog 35 #[v] w fun e w' => ∃ u,e = .returned u ∧ RPT w' (fun b => D b ∨ (w.heap.size ≤ b ∧ b < w'.heap.size)) (.a (.l ((freeT t).map encI))) u ∧ Below w.heap.size w w' := by
  obtain ⟨us,rfl,hus⟩ := hr
  have hul := hus.length
  rw [enc_len] at hul
  obtain ⟨v0,v1,v2,v3,rfl⟩ : ∃ a b c d,us = [a,b,c,d] := by
    match us,hul with
    | [a,b,c,d],_ => exact ⟨_,_,_,_,rfl⟩
  refine (callsIn_wide (n := 6)).1 ?_
  have hmm := @run_makeMap Try.prog
  have hbW : ((w.alloc (.cells #[v0,v1,v2,v3] 24)).alloc (.map #[] 0)).heap[w.heap.size + 1]? = some (.map #[] 0) := by
    have := World.alloc_heap_new (w.alloc (.cells #[v0,v1,v2,v3] 24)) (.map #[] 0)
    simpa using this
  have cF := (callsIn_wide (n := 5)).2 (free_call ht hv (w := (w.alloc (.cells #[v0,v1,v2,v3] 24)).alloc (.map #[] 0)) (D := D) (fun b hb => by have := hD b hb; simp; omega) (vs := [v0,v1,v2,v3])
    (hus.imp fun _ _ hx => hx.mono fun b hb => ⟨hb,(Below.heap_alloc _ _ b (by have := hD b hb; simp; omega)).trans (Below.heap_alloc _ _ b (hD b hb))⟩) (b := w.heap.size + 1) (fun h => by have := hD _ h; omega) hbW)
  have cK : ∀ mb W,CallsIn Fence.wide 5 Try.prog 64 #[.map mb] W fun e w' => e = .returned (.func (.func 72) #[] #[.pointer (some ⟨W.heap.size,0,none⟩)]) ∧ w' = W.alloc (.cells #[.map mb] 57) := fun mb W => AnyZI.keys_in layK Fence.wide 5 trivial rfl mb W
  have hf1 : Fence.wide.fn 62 := trivial
  have hf2 : Fence.wide.fn 64 := trivial
  have hf3 : Fence.wide.fn 63 := trivial
  refine callsIn_of_wp Try.func35 rfl trivial ?_ rfl
  simp only [Try.ntmps35,List.size_toArray,List.length_cons,List.length_nil,Nat.reduceAdd,Nat.reduceSub,Array.replicate_succ,Array.replicate_zero,List.push_toArray,List.append_toArray,List.nil_append,List.cons_append]
  gi_wp2_with (first
    | (gi_at_call 62; refine cF.mono ?_; rintro e w2 ⟨rfl,es,clock,hb2,hI,hg⟩)
    | (gi_at_call 64; refine (cK _ _).mono ?_; rintro e w' ⟨rfl,rfl⟩)
    | (gi_at_call 63; refine (sorted_call hv hb2 hI).mono ?_; rintro e w3 ⟨u,rfl,hrow,hbw⟩))
  go_ret
  have hgs := hg.size
  simp only [World.alloc,Array.size_push] at hgs
  have B1 : RowKit.Below w.heap.size w ((w.alloc (.cells #[v0,v1,v2,v3] 24)).alloc (.map #[] 0)) := ((Below.refl _ w).alloc (Nat.le_refl _) _).alloc (by simp) _
  have B2 : RowKit.Below w.heap.size w w2 :=
    { size := Nat.le_trans B1.size hg.size,block := fun k hk => (hg.block k (by simp; omega) (by simp; omega)).trans (B1.block k hk),os := hg.os.trans B1.os,tape := hg.tape.trans B1.tape,output := hg.output.trans B1.output }
  exact ⟨u,rfl,row_rp hrow (fun g h1 h2 => .inr ⟨by omega,h2⟩),(B2.alloc (by omega) _).trans (hbw.mono (by omega))⟩
theorem free_orc {t : T} (ht : T.Ok t) (hv : vn t ≤ 1073741824) : Ent Try.prog 35 ∧ SndP1 Try.prog 35 [.g (enc t)] (.a (.l ((freeT t).map encI))) := by
  refine ⟨⟨_,Try.func35,rfl,by kernel_rfl⟩,fun w D vs hD hps rr n => ?_⟩
  cases hps with
  | cons x r =>
    cases r
    have h := free_machine ht hv hD x
    cases rr with
    | none => exact callsIn_wide.2 h
    | some l => exact CallsIn.inRound l (callsIn_wide.2 h)
end Go.Proofs.Ytlgekplmbmkcmaa
end
section
set_option linter.unusedSimpArgs false
set_option linter.unusedVariables false
namespace Go.Proofs.Ytlgekplmbmkcmaa
open Go.Fx
mutual
theorem enc_inj : ∀ {t u : T},enc t = enc u → t = u
  | .mk k n s l,.mk k' n' s' l',h => by
    simp only [enc,List.cons.injEq,PV.i.injEq,true_and,PV.s.injEq,PV.l.injEq,and_true] at h
    obtain ⟨rfl,rfl,rfl,h4⟩ := h
    rw [encL_inj h4]
theorem encL_inj : ∀ {l m : List T},encL l = encL m → l = m
  | [],[],_ => rfl
  | t :: l,u :: m,h => by
    simp only [encL,List.cons.injEq] at h
    rw [enc_inj h.1,encL_inj h.2]
  | [],_ :: _,h => by simp [encL] at h
  | _ :: _,[],h => by simp [encL] at h
end
open Classical in
noncomputable def orcF (ps : List PT) : Option PT := if h : ∃ t,T.Ok t ∧ vn t ≤ 1073741824 ∧ ps = [.g (enc t)] then some (.a (.l ((freeT h.choose).map encI))) else none
theorem orcF_mk {t : T} (ht : T.Ok t) (hv : vn t ≤ 1073741824) : orcF [.g (enc t)] = some (.a (.l ((freeT t).map encI))) := by
  have h : ∃ u,T.Ok u ∧ vn u ≤ 1073741824 ∧ [PT.g (enc t)] = [.g (enc u)] := ⟨t,ht,hv,rfl⟩
  unfold orcF
  rw [dif_pos h]
  have := h.choose_spec.2.2
  injection this with h1 h2
  injection h1 with h1
  exact congrArg (fun u => some (PT.a (PV.l ((freeT u).map encI)))) (enc_inj h1).symm
noncomputable def S : Seat := { fb := fun f => (tbl.find? (·.1 == f)).map (·.2),sp := fun f => f == 67,orc := fun f ps => if f = 35 then orcF ps else none }
theorem seatOk : SeatOk Try.prog [] S where
  mixed := by kernel_rfl
  eql := fun t sh h => by simp at h
  fb f fc h := by
    simp only [S,Option.map_eq_some_iff] at h
    obtain ⟨x,h1,rfl⟩ := h
    have h2 := List.find?_some h1
    have h3 := tblOk x (List.mem_of_find?_eq_some h1)
    simp only [beq_iff_eq] at h2
    rw [← h2]; exact h3
  orc f ps r h := by
    have h2 : (if f = 35 then orcF ps else none) = some r := h
    clear h
    by_cases hf : f = 35
    · rw [if_pos hf] at h2
      subst hf
      unfold orcF at h2
      by_cases hx : ∃ t,T.Ok t ∧ vn t ≤ 1073741824 ∧ ps = [.g (enc t)]
      · rw [dif_pos hx] at h2
        obtain ⟨ht,hv,hps⟩ := hx.choose_spec
        have h3 := Option.some.inj h2
        rw [hps,← h3]
        exact free_orc ht hv
      · rw [dif_neg hx] at h2; cases h2
    · rw [if_neg hf] at h2; cases h2
theorem Free_ok {t : T} (ht : T.Ok t) (hv : vn t ≤ 1073741824) : eP S 35 [.g (enc t)] = some (.a (.l ((freeT t).map encI))) :=
  (eP_some S).2 ⟨1,by
    have : S.orc 35 [.g (enc t)] = some (.a (.l ((freeT t).map encI))) := by show (if 35 = 35 then orcF [.g (enc t)] else none) = _; rw [if_pos rfl]; exact orcF_mk ht hv
    rw [evP,this]⟩
theorem orcS (f : FuncId) (h : f ≠ 35 := by decide) (ps : List PT) : S.orc f ps = none := if_neg h
theorem spS (f : FuncId) : S.sp f = (f == 67) := rfl
end Go.Proofs.Ytlgekplmbmkcmaa
end
section
set_option linter.unusedSimpArgs false
set_option linter.unusedVariables false
namespace Go.Proofs.Ytlgekplmbmkcmaa
open Go.Fx
def T.more (t : T) : Int := if t.k = 2 then 1 else if t.k = 6 then t.n else 0
mutual
def up (by_ from_ : Int) : T → T
  | .mk k n s l => if k = 1 then (if n ≥ from_ then .mk k (w (n + by_)) s l else .mk k n s l) else .mk k n s (upL by_ (w (from_ + T.more (.mk k n s l))) l)
def upL (by_ from_ : Int) : List T → List T
  | [] => []
  | t :: r => up by_ from_ t :: upL by_ from_ r
end
theorem upL_map (b f : Int) (l : List T) : upL b f l = l.map (up b f) := by
  induction l with
  | nil => rfl
  | cons t l ih => simp [upL,ih]
theorem more_ok (t : T) : eP S 54 [.g (enc t)] = some (.a (.i .i64 t.more)) := by
  obtain ⟨k,n,s,l⟩ := t
  refine x_fn (orcS 54) (fc := F54) rfl rfl ?_
  simp only [F54,enc,encL_map,T.more,T.k,T.n,x_seq,x_reg,x_skip,x_exit,x_ret,x_block,x_if,wpC_t,wpC_f,wpI_cons,wpI_nil,wpX_some,evI_any,evI_rd,evI_ad,evI_g,evG_u,evG_b,evG_tt,evG_ff,evG_tf,evG_ft,evO,evR,ev_t,ev_c,ev_f,putD_some,putD_none,put_at,cellsT,ldCells,mkT,lenA,binPV,add_bs,add_clk,add_ls,put_bs,put_clk,put_ls,kill_bs,kill_clk,kill_ls,empty_clk,empty_bs,Env.init,seqQ_norm,seqQ_exit,seqQ_ret,blkQ_norm,blkQ_exit,blkQ_ret,loopQ_norm,loopQ_exit,loopQ_ret,retP_ret,retP_norm,retE_ret,retE_norm,retS_ret,retS_norm,wpO_some,frA_fn,klA_p,klA_nil,klA_own,resVs,resV,resT,Option.bind_some,Option.bind_none,Option.map_some,List.getD_cons_zero,List.getD_cons_succ,List.getD_nil,List.length_cons,List.length_nil,List.length_map,List.map_cons,List.map_nil,List.drop_zero,List.drop_succ_cons,List.take_succ_cons,List.take_zero,List.drop_nil,List.take_nil,Nat.reduceEqDiff,Nat.reduceAdd,Nat.reduceLeDiff,Nat.zero_add,Nat.add_zero,Prod.mk.injEq,and_true,true_and,and_false,false_and,and_self,if_true,if_false,ite_true,ite_false,Bool.not_true,Bool.not_false,Bool.not_eq_true',reduceCtorEq,decide_true,decide_false,frTs,frT,frL_p,spS,ofPT_a,ofPT_g,ofPT_t,flat_i,flat_b,flat_s,flat_l,flat_g,flatp_i,flatp_b,flatp_s,flatp_l,klTs,klT,Bool.and_false,Bool.false_and,frL,frA_p,frA_nil,frA_own,ownT,intT,Bool.or_true,Bool.true_or,Bool.false_eq_true,frL_p,klL_p,ownT_p,O.adds,List.all_cons,List.all_nil,List.any_cons,List.any_nil,ownA,evO.bslRows,List.replicate_succ,List.replicate_zero,List.set_cons_zero,rowsA,over,List.cons_append,List.nil_append,List.append_nil,fillA,Bool.and_self,Bool.and_true,Bool.true_and,Bool.or_self,Bool.or_false,Bool.false_or,Nat.reduceMul,Nat.one_mul,Nat.lt_add_one,klL,Nat.le_refl,ite_self,Nat.reduceBEq]
  refine wpC_split (fun h1 => by simp only [h1,x_seq,x_reg,x_skip,x_exit,x_ret,x_block,x_if,wpC_t,wpC_f,wpI_cons,wpI_nil,wpX_some,evI_any,evI_rd,evI_ad,evI_g,evG_u,evG_b,evG_tt,evG_ff,evG_tf,evG_ft,evO,evR,ev_t,ev_c,ev_f,putD_some,putD_none,put_at,cellsT,ldCells,mkT,lenA,binPV,add_bs,add_clk,add_ls,put_bs,put_clk,put_ls,kill_bs,kill_clk,kill_ls,empty_clk,empty_bs,Env.init,seqQ_norm,seqQ_exit,seqQ_ret,blkQ_norm,blkQ_exit,blkQ_ret,loopQ_norm,loopQ_exit,loopQ_ret,retP_ret,retP_norm,retE_ret,retE_norm,retS_ret,retS_norm,wpO_some,frA_fn,klA_p,klA_nil,klA_own,resVs,resV,resT,Option.bind_some,Option.bind_none,Option.map_some,List.getD_cons_zero,List.getD_cons_succ,List.getD_nil,List.length_cons,List.length_nil,List.length_map,List.map_cons,List.map_nil,List.drop_zero,List.drop_succ_cons,List.take_succ_cons,List.take_zero,List.drop_nil,List.take_nil,Nat.reduceEqDiff,Nat.reduceAdd,Nat.reduceLeDiff,Nat.zero_add,Nat.add_zero,Prod.mk.injEq,and_true,true_and,and_false,false_and,and_self,if_true,if_false,ite_true,ite_false,Bool.not_true,Bool.not_false,Bool.not_eq_true',reduceCtorEq,decide_true,decide_false,frTs,frT,frL_p,spS,ofPT_a,ofPT_g,ofPT_t,flat_i,flat_b,flat_s,flat_l,flat_g,flatp_i,flatp_b,flatp_s,flatp_l,klTs,klT,Bool.and_false,Bool.false_and,frL,frA_p,frA_nil,frA_own,ownT,intT,Bool.or_true,Bool.true_or,Bool.false_eq_true,frL_p,klL_p,ownT_p,O.adds,List.all_cons,List.all_nil,List.any_cons,List.any_nil,ownA,evO.bslRows,List.replicate_succ,List.replicate_zero,List.set_cons_zero,rowsA,over,List.cons_append,List.nil_append,List.append_nil,fillA,Bool.and_self,Bool.and_true,Bool.true_and,Bool.or_self,Bool.or_false,Bool.false_or,Nat.reduceMul,Nat.one_mul,Nat.lt_add_one,klL,Nat.le_refl,ite_self,Nat.reduceBEq]; simp only [Bool.not_eq_false',Bool.not_eq_true',Bool.not_false,Bool.not_true,decide_eq_true_eq,decide_eq_false_iff_not,Int.natCast_inj] at h1; simp [h1]) (fun h1 => ?_)
  simp only [h1,x_seq,x_reg,x_skip,x_exit,x_ret,x_block,x_if,wpC_t,wpC_f,wpI_cons,wpI_nil,wpX_some,evI_any,evI_rd,evI_ad,evI_g,evG_u,evG_b,evG_tt,evG_ff,evG_tf,evG_ft,evO,evR,ev_t,ev_c,ev_f,putD_some,putD_none,put_at,cellsT,ldCells,mkT,lenA,binPV,add_bs,add_clk,add_ls,put_bs,put_clk,put_ls,kill_bs,kill_clk,kill_ls,empty_clk,empty_bs,Env.init,seqQ_norm,seqQ_exit,seqQ_ret,blkQ_norm,blkQ_exit,blkQ_ret,loopQ_norm,loopQ_exit,loopQ_ret,retP_ret,retP_norm,retE_ret,retE_norm,retS_ret,retS_norm,wpO_some,frA_fn,klA_p,klA_nil,klA_own,resVs,resV,resT,Option.bind_some,Option.bind_none,Option.map_some,List.getD_cons_zero,List.getD_cons_succ,List.getD_nil,List.length_cons,List.length_nil,List.length_map,List.map_cons,List.map_nil,List.drop_zero,List.drop_succ_cons,List.take_succ_cons,List.take_zero,List.drop_nil,List.take_nil,Nat.reduceEqDiff,Nat.reduceAdd,Nat.reduceLeDiff,Nat.zero_add,Nat.add_zero,Prod.mk.injEq,and_true,true_and,and_false,false_and,and_self,if_true,if_false,ite_true,ite_false,Bool.not_true,Bool.not_false,Bool.not_eq_true',reduceCtorEq,decide_true,decide_false,frTs,frT,frL_p,spS,ofPT_a,ofPT_g,ofPT_t,flat_i,flat_b,flat_s,flat_l,flat_g,flatp_i,flatp_b,flatp_s,flatp_l,klTs,klT,Bool.and_false,Bool.false_and,frL,frA_p,frA_nil,frA_own,ownT,intT,Bool.or_true,Bool.true_or,Bool.false_eq_true,frL_p,klL_p,ownT_p,O.adds,List.all_cons,List.all_nil,List.any_cons,List.any_nil,ownA,evO.bslRows,List.replicate_succ,List.replicate_zero,List.set_cons_zero,rowsA,over,List.cons_append,List.nil_append,List.append_nil,fillA,Bool.and_self,Bool.and_true,Bool.true_and,Bool.or_self,Bool.or_false,Bool.false_or,Nat.reduceMul,Nat.one_mul,Nat.lt_add_one,klL,Nat.le_refl,ite_self,Nat.reduceBEq]
  refine wpC_split (fun h2 => by simp only [h1,h2,x_seq,x_reg,x_skip,x_exit,x_ret,x_block,x_if,wpC_t,wpC_f,wpI_cons,wpI_nil,wpX_some,evI_any,evI_rd,evI_ad,evI_g,evG_u,evG_b,evG_tt,evG_ff,evG_tf,evG_ft,evO,evR,ev_t,ev_c,ev_f,putD_some,putD_none,put_at,cellsT,ldCells,mkT,lenA,binPV,add_bs,add_clk,add_ls,put_bs,put_clk,put_ls,kill_bs,kill_clk,kill_ls,empty_clk,empty_bs,Env.init,seqQ_norm,seqQ_exit,seqQ_ret,blkQ_norm,blkQ_exit,blkQ_ret,loopQ_norm,loopQ_exit,loopQ_ret,retP_ret,retP_norm,retE_ret,retE_norm,retS_ret,retS_norm,wpO_some,frA_fn,klA_p,klA_nil,klA_own,resVs,resV,resT,Option.bind_some,Option.bind_none,Option.map_some,List.getD_cons_zero,List.getD_cons_succ,List.getD_nil,List.length_cons,List.length_nil,List.length_map,List.map_cons,List.map_nil,List.drop_zero,List.drop_succ_cons,List.take_succ_cons,List.take_zero,List.drop_nil,List.take_nil,Nat.reduceEqDiff,Nat.reduceAdd,Nat.reduceLeDiff,Nat.zero_add,Nat.add_zero,Prod.mk.injEq,and_true,true_and,and_false,false_and,and_self,if_true,if_false,ite_true,ite_false,Bool.not_true,Bool.not_false,Bool.not_eq_true',reduceCtorEq,decide_true,decide_false,frTs,frT,frL_p,spS,ofPT_a,ofPT_g,ofPT_t,flat_i,flat_b,flat_s,flat_l,flat_g,flatp_i,flatp_b,flatp_s,flatp_l,klTs,klT,Bool.and_false,Bool.false_and,frL,frA_p,frA_nil,frA_own,ownT,intT,Bool.or_true,Bool.true_or,Bool.false_eq_true,frL_p,klL_p,ownT_p,O.adds,List.all_cons,List.all_nil,List.any_cons,List.any_nil,ownA,evO.bslRows,List.replicate_succ,List.replicate_zero,List.set_cons_zero,rowsA,over,List.cons_append,List.nil_append,List.append_nil,fillA,Bool.and_self,Bool.and_true,Bool.true_and,Bool.or_self,Bool.or_false,Bool.false_or,Nat.reduceMul,Nat.one_mul,Nat.lt_add_one,klL,Nat.le_refl,ite_self,Nat.reduceBEq]; simp only [Bool.not_eq_false',Bool.not_eq_true',Bool.not_false,Bool.not_true,decide_eq_true_eq,decide_eq_false_iff_not,Int.natCast_inj] at h1 h2; simp [h1,h2]) (fun h2 => ?_)
  simp only [h1,h2,x_seq,x_reg,x_skip,x_exit,x_ret,x_block,x_if,wpC_t,wpC_f,wpI_cons,wpI_nil,wpX_some,evI_any,evI_rd,evI_ad,evI_g,evG_u,evG_b,evG_tt,evG_ff,evG_tf,evG_ft,evO,evR,ev_t,ev_c,ev_f,putD_some,putD_none,put_at,cellsT,ldCells,mkT,lenA,binPV,add_bs,add_clk,add_ls,put_bs,put_clk,put_ls,kill_bs,kill_clk,kill_ls,empty_clk,empty_bs,Env.init,seqQ_norm,seqQ_exit,seqQ_ret,blkQ_norm,blkQ_exit,blkQ_ret,loopQ_norm,loopQ_exit,loopQ_ret,retP_ret,retP_norm,retE_ret,retE_norm,retS_ret,retS_norm,wpO_some,frA_fn,klA_p,klA_nil,klA_own,resVs,resV,resT,Option.bind_some,Option.bind_none,Option.map_some,List.getD_cons_zero,List.getD_cons_succ,List.getD_nil,List.length_cons,List.length_nil,List.length_map,List.map_cons,List.map_nil,List.drop_zero,List.drop_succ_cons,List.take_succ_cons,List.take_zero,List.drop_nil,List.take_nil,Nat.reduceEqDiff,Nat.reduceAdd,Nat.reduceLeDiff,Nat.zero_add,Nat.add_zero,Prod.mk.injEq,and_true,true_and,and_false,false_and,and_self,if_true,if_false,ite_true,ite_false,Bool.not_true,Bool.not_false,Bool.not_eq_true',reduceCtorEq,decide_true,decide_false,frTs,frT,frL_p,spS,ofPT_a,ofPT_g,ofPT_t,flat_i,flat_b,flat_s,flat_l,flat_g,flatp_i,flatp_b,flatp_s,flatp_l,klTs,klT,Bool.and_false,Bool.false_and,frL,frA_p,frA_nil,frA_own,ownT,intT,Bool.or_true,Bool.true_or,Bool.false_eq_true,frL_p,klL_p,ownT_p,O.adds,List.all_cons,List.all_nil,List.any_cons,List.any_nil,ownA,evO.bslRows,List.replicate_succ,List.replicate_zero,List.set_cons_zero,rowsA,over,List.cons_append,List.nil_append,List.append_nil,fillA,Bool.and_self,Bool.and_true,Bool.true_and,Bool.or_self,Bool.or_false,Bool.false_or,Nat.reduceMul,Nat.one_mul,Nat.lt_add_one,klL,Nat.le_refl,ite_self,Nat.reduceBEq]
  simp only [Bool.not_eq_false',Bool.not_eq_true',Bool.not_false,Bool.not_true,decide_eq_true_eq,decide_eq_false_iff_not,Int.natCast_inj] at h1 h2; simp [h1,h2]
theorem loop20 (t : T) (b f : Int) (hl : t.l.length * 56 ≤ reachBytes) (ih : ∀ u,u ∈ t.l → ∀ f,eP S 20 [.g (enc u),.a (.i .i64 b),.a (.i .i64 f)] = some (.g (enc (up b f u)))) (Q : Ex → Env → St → Prop)
    (hQ : ∀ e' σ' X,σ'.bs (7,2) = some (.var [.p (.i .i64 t.k),.p (.i .i64 t.n),.p (.s t.s),X]) → frA σ' X = some (.l ((t.l.map (up b (w (f + t.more)))).map enc)) → σ'.bs (6,1) = some (.var [.p (.i .i64 0),.p (.i .i64 0),.p (.s []),.nil]) → 3 ≤ σ'.clk →
      e' 6 = .a (.ptr (6,1) 0 0) → e' 7 = .a (.ptr (7,2) 0 0) → Q (.exit 0) e' σ') :
    ∀ n i e (σ : St) X,i + n = t.l.length → e 1 = .a (.p (.i .i64 b)) → e 2 = .a (.p (.i .i64 f)) → e 3 = .a (.ptr (3,0) 0 0) → e 6 = .a (.ptr (6,1) 0 0) → e 7 = .a (.ptr (7,2) 0 0) → e 8 = .a (.p (.i .i64 (i : Nat))) → 3 ≤ σ.clk →
      σ.bs (3,0) = some (.var [.p (.i .i64 t.k),.p (.i .i64 t.n),.p (.s t.s),.p (.l (t.l.map enc))]) → σ.bs (6,1) = some (.var [.p (.i .i64 0),.p (.i .i64 0),.p (.s []),.nil]) →
      σ.bs (7,2) = some (.var [.p (.i .i64 t.k),.p (.i .i64 t.n),.p (.s t.s),X]) →
      ((i = 0 ∧ X = .nil) ∨ ∃ c,X = .own (50,c) 0 i ∧ c < σ.clk ∧ σ.bs (50,c) = some (.row 4 24 (((t.l.take i).map (up b (w (f + t.more)))).map enc))) → wp S false (.loop F20b0) e σ Q := by
  intro n
  induction n with
  | zero =>
    intro i e σ X hi e1 e2 e3 e6 e7 e8 hc h3 h6 h7 hX
    have hlt : ¬ ((i : Int) < (t.l.length : Int)) := by omega
    rw [x_loop,F20b0]
    simp only [e1,e2,e3,e6,e7,e8,h3,hlt,x_seq,x_reg,x_skip,x_exit,x_ret,x_block,x_if,wpC_t,wpC_f,wpI_cons,wpI_nil,wpX_some,evI_any,evI_rd,evI_ad,evI_g,evG_u,evG_b,evG_tt,evG_ff,evG_tf,evG_ft,evO,evR,ev_t,ev_c,ev_f,putD_some,putD_none,put_at,cellsT,ldCells,mkT,lenA,binPV,add_bs,add_clk,add_ls,put_bs,put_clk,put_ls,kill_bs,kill_clk,kill_ls,empty_clk,empty_bs,Env.init,seqQ_norm,seqQ_exit,seqQ_ret,blkQ_norm,blkQ_exit,blkQ_ret,loopQ_norm,loopQ_exit,loopQ_ret,retP_ret,retP_norm,retE_ret,retE_norm,retS_ret,retS_norm,wpO_some,frA_fn,klA_p,klA_nil,klA_own,resVs,resV,resT,Option.bind_some,Option.bind_none,Option.map_some,List.getD_cons_zero,List.getD_cons_succ,List.getD_nil,List.length_cons,List.length_nil,List.length_map,List.map_cons,List.map_nil,List.drop_zero,List.drop_succ_cons,List.take_succ_cons,List.take_zero,List.drop_nil,List.take_nil,Nat.reduceEqDiff,Nat.reduceAdd,Nat.reduceLeDiff,Nat.zero_add,Nat.add_zero,Prod.mk.injEq,and_true,true_and,and_false,false_and,and_self,if_true,if_false,ite_true,ite_false,Bool.not_true,Bool.not_false,Bool.not_eq_true',reduceCtorEq,decide_true,decide_false,frTs,frT,frL_p,spS,ofPT_a,ofPT_g,ofPT_t,flat_i,flat_b,flat_s,flat_l,flat_g,flatp_i,flatp_b,flatp_s,flatp_l,klTs,klT,Bool.and_false,Bool.false_and,frL,frA_p,frA_nil,frA_own,ownT,intT,Bool.or_true,Bool.true_or,Bool.false_eq_true,frL_p,klL_p,ownT_p,O.adds,List.all_cons,List.all_nil,List.any_cons,List.any_nil,ownA,evO.bslRows,List.replicate_succ,List.replicate_zero,List.set_cons_zero,rowsA,over,List.cons_append,List.nil_append,List.append_nil,fillA,Bool.and_self,Bool.and_true,Bool.true_and,Bool.or_self,Bool.or_false,Bool.false_or,Nat.reduceMul,Nat.one_mul,Nat.lt_add_one,klL,Nat.le_refl,ite_self,Nat.reduceBEq]
    refine hQ _ σ X h7 ?_ h6 hc ?_ ?_
    · rcases hX with ⟨rfl,rfl⟩ | ⟨c,rfl,hcl,hrow⟩
      · have : t.l = [] := List.eq_nil_of_length_eq_zero (by omega)
        simp [frA,this]
      · have : i = t.l.length := by omega
        subst this
        simp only [List.take_length] at hrow
        simp only [frA,hrow]
        simp [List.take_of_length_le]
    · simp only [e6,x_seq,x_reg,x_skip,x_exit,x_ret,x_block,x_if,wpC_t,wpC_f,wpI_cons,wpI_nil,wpX_some,evI_any,evI_rd,evI_ad,evI_g,evG_u,evG_b,evG_tt,evG_ff,evG_tf,evG_ft,evO,evR,ev_t,ev_c,ev_f,putD_some,putD_none,put_at,cellsT,ldCells,mkT,lenA,binPV,add_bs,add_clk,add_ls,put_bs,put_clk,put_ls,kill_bs,kill_clk,kill_ls,empty_clk,empty_bs,Env.init,seqQ_norm,seqQ_exit,seqQ_ret,blkQ_norm,blkQ_exit,blkQ_ret,loopQ_norm,loopQ_exit,loopQ_ret,retP_ret,retP_norm,retE_ret,retE_norm,retS_ret,retS_norm,wpO_some,frA_fn,klA_p,klA_nil,klA_own,resVs,resV,resT,Option.bind_some,Option.bind_none,Option.map_some,List.getD_cons_zero,List.getD_cons_succ,List.getD_nil,List.length_cons,List.length_nil,List.length_map,List.map_cons,List.map_nil,List.drop_zero,List.drop_succ_cons,List.take_succ_cons,List.take_zero,List.drop_nil,List.take_nil,Nat.reduceEqDiff,Nat.reduceAdd,Nat.reduceLeDiff,Nat.zero_add,Nat.add_zero,Prod.mk.injEq,and_true,true_and,and_false,false_and,and_self,if_true,if_false,ite_true,ite_false,Bool.not_true,Bool.not_false,Bool.not_eq_true',reduceCtorEq,decide_true,decide_false,frTs,frT,frL_p,spS,ofPT_a,ofPT_g,ofPT_t,flat_i,flat_b,flat_s,flat_l,flat_g,flatp_i,flatp_b,flatp_s,flatp_l,klTs,klT,Bool.and_false,Bool.false_and,frL,frA_p,frA_nil,frA_own,ownT,intT,Bool.or_true,Bool.true_or,Bool.false_eq_true,frL_p,klL_p,ownT_p,O.adds,List.all_cons,List.all_nil,List.any_cons,List.any_nil,ownA,evO.bslRows,List.replicate_succ,List.replicate_zero,List.set_cons_zero,rowsA,over,List.cons_append,List.nil_append,List.append_nil,fillA,Bool.and_self,Bool.and_true,Bool.true_and,Bool.or_self,Bool.or_false,Bool.false_or,Nat.reduceMul,Nat.one_mul,Nat.lt_add_one,klL,Nat.le_refl,ite_self,Nat.reduceBEq]
    · simp only [e7,x_seq,x_reg,x_skip,x_exit,x_ret,x_block,x_if,wpC_t,wpC_f,wpI_cons,wpI_nil,wpX_some,evI_any,evI_rd,evI_ad,evI_g,evG_u,evG_b,evG_tt,evG_ff,evG_tf,evG_ft,evO,evR,ev_t,ev_c,ev_f,putD_some,putD_none,put_at,cellsT,ldCells,mkT,lenA,binPV,add_bs,add_clk,add_ls,put_bs,put_clk,put_ls,kill_bs,kill_clk,kill_ls,empty_clk,empty_bs,Env.init,seqQ_norm,seqQ_exit,seqQ_ret,blkQ_norm,blkQ_exit,blkQ_ret,loopQ_norm,loopQ_exit,loopQ_ret,retP_ret,retP_norm,retE_ret,retE_norm,retS_ret,retS_norm,wpO_some,frA_fn,klA_p,klA_nil,klA_own,resVs,resV,resT,Option.bind_some,Option.bind_none,Option.map_some,List.getD_cons_zero,List.getD_cons_succ,List.getD_nil,List.length_cons,List.length_nil,List.length_map,List.map_cons,List.map_nil,List.drop_zero,List.drop_succ_cons,List.take_succ_cons,List.take_zero,List.drop_nil,List.take_nil,Nat.reduceEqDiff,Nat.reduceAdd,Nat.reduceLeDiff,Nat.zero_add,Nat.add_zero,Prod.mk.injEq,and_true,true_and,and_false,false_and,and_self,if_true,if_false,ite_true,ite_false,Bool.not_true,Bool.not_false,Bool.not_eq_true',reduceCtorEq,decide_true,decide_false,frTs,frT,frL_p,spS,ofPT_a,ofPT_g,ofPT_t,flat_i,flat_b,flat_s,flat_l,flat_g,flatp_i,flatp_b,flatp_s,flatp_l,klTs,klT,Bool.and_false,Bool.false_and,frL,frA_p,frA_nil,frA_own,ownT,intT,Bool.or_true,Bool.true_or,Bool.false_eq_true,frL_p,klL_p,ownT_p,O.adds,List.all_cons,List.all_nil,List.any_cons,List.any_nil,ownA,evO.bslRows,List.replicate_succ,List.replicate_zero,List.set_cons_zero,rowsA,over,List.cons_append,List.nil_append,List.append_nil,fillA,Bool.and_self,Bool.and_true,Bool.true_and,Bool.or_self,Bool.or_false,Bool.false_or,Nat.reduceMul,Nat.one_mul,Nat.lt_add_one,klL,Nat.le_refl,ite_self,Nat.reduceBEq]
  | succ n ihn =>
    intro i e σ X hi e1 e2 e3 e6 e7 e8 hc h3 h6 h7 hX
    have hlt : ((i : Int) < (t.l.length : Int)) := by omega
    have h0 : (0 : Int) ≤ (i : Int) := by omega
    obtain ⟨x,hx⟩ : ∃ x,t.l[i]? = some x := ⟨_,List.getElem?_eq_getElem (by omega)⟩
    have hx' : (t.l.map enc)[i]? = some (enc x) := by simp [hx]
    have het : [PV.i IntKind.i64 t.k,PV.i IntKind.i64 t.n,PV.s t.s,PV.l (t.l.map enc)] = enc t := (enc_eq t).symm
    have hm := more_ok t
    have hu := ih x (List.mem_of_getElem? hx) (w (f + t.more))
    have hbs : (i + 1) * 56 ≤ 140737488355328 := by simp only [reachBytes] at hl; omega
    rw [x_loop,F20b0]
    have hen := enc_len (up b (w (f + t.more)) x)
    have hkeys : ∀ d,((50,σ.clk + d) : Key) = (50,σ.clk + d) := fun _ => rfl
    rcases hX with ⟨rfl,rfl⟩ | ⟨c,rfl,hcl,hrow⟩
    · simp only [e1,e2,e3,e6,e7,e8,h3,h6,h7,hlt,h0,Int.toNat_natCast,hx',enc_len,enc_all,enc_take,het,hm,hu,hen,Nat.succ_ne_self,Nat.reduceLeDiff,x_seq,x_reg,x_skip,x_exit,x_ret,x_block,x_if,wpC_t,wpC_f,wpI_cons,wpI_nil,wpX_some,evI_any,evI_rd,evI_ad,evI_g,evG_u,evG_b,evG_tt,evG_ff,evG_tf,evG_ft,evO,evR,ev_t,ev_c,ev_f,putD_some,putD_none,put_at,cellsT,ldCells,mkT,lenA,binPV,add_bs,add_clk,add_ls,put_bs,put_clk,put_ls,kill_bs,kill_clk,kill_ls,empty_clk,empty_bs,Env.init,seqQ_norm,seqQ_exit,seqQ_ret,blkQ_norm,blkQ_exit,blkQ_ret,loopQ_norm,loopQ_exit,loopQ_ret,retP_ret,retP_norm,retE_ret,retE_norm,retS_ret,retS_norm,wpO_some,frA_fn,klA_p,klA_nil,klA_own,resVs,resV,resT,Option.bind_some,Option.bind_none,Option.map_some,List.getD_cons_zero,List.getD_cons_succ,List.getD_nil,List.length_cons,List.length_nil,List.length_map,List.map_cons,List.map_nil,List.drop_zero,List.drop_succ_cons,List.take_succ_cons,List.take_zero,List.drop_nil,List.take_nil,Nat.reduceEqDiff,Nat.reduceAdd,Nat.reduceLeDiff,Nat.zero_add,Nat.add_zero,Prod.mk.injEq,and_true,true_and,and_false,false_and,and_self,if_true,if_false,ite_true,ite_false,Bool.not_true,Bool.not_false,Bool.not_eq_true',reduceCtorEq,decide_true,decide_false,frTs,frT,frL_p,spS,ofPT_a,ofPT_g,ofPT_t,flat_i,flat_b,flat_s,flat_l,flat_g,flatp_i,flatp_b,flatp_s,flatp_l,klTs,klT,Bool.and_false,Bool.false_and,frL,frA_p,frA_nil,frA_own,ownT,intT,Bool.or_true,Bool.true_or,Bool.false_eq_true,frL_p,klL_p,ownT_p,O.adds,List.all_cons,List.all_nil,List.any_cons,List.any_nil,ownA,evO.bslRows,List.replicate_succ,List.replicate_zero,List.set_cons_zero,rowsA,over,List.cons_append,List.nil_append,List.append_nil,fillA,Bool.and_self,Bool.and_true,Bool.true_and,Bool.or_self,Bool.or_false,Bool.false_or,Nat.reduceMul,Nat.one_mul,Nat.lt_add_one,klL,Nat.le_refl,ite_self,Nat.reduceBEq]
      refine ihn 1 _ _ (.own (50,σ.clk + 1) 0 1) (by omega) ?_ ?_ ?_ ?_ ?_ ?_ ?_ ?_ ?_ ?_ (.inr ⟨σ.clk + 1,rfl,?_,?_⟩)
      all_goals try simp only [e1,e2,e3,e6,e7,e8,h3,h6,h7,x_seq,x_reg,x_skip,x_exit,x_ret,x_block,x_if,wpC_t,wpC_f,wpI_cons,wpI_nil,wpX_some,evI_any,evI_rd,evI_ad,evI_g,evG_u,evG_b,evG_tt,evG_ff,evG_tf,evG_ft,evO,evR,ev_t,ev_c,ev_f,putD_some,putD_none,put_at,cellsT,ldCells,mkT,lenA,binPV,add_bs,add_clk,add_ls,put_bs,put_clk,put_ls,kill_bs,kill_clk,kill_ls,empty_clk,empty_bs,Env.init,seqQ_norm,seqQ_exit,seqQ_ret,blkQ_norm,blkQ_exit,blkQ_ret,loopQ_norm,loopQ_exit,loopQ_ret,retP_ret,retP_norm,retE_ret,retE_norm,retS_ret,retS_norm,wpO_some,frA_fn,klA_p,klA_nil,klA_own,resVs,resV,resT,Option.bind_some,Option.bind_none,Option.map_some,List.getD_cons_zero,List.getD_cons_succ,List.getD_nil,List.length_cons,List.length_nil,List.length_map,List.map_cons,List.map_nil,List.drop_zero,List.drop_succ_cons,List.take_succ_cons,List.take_zero,List.drop_nil,List.take_nil,Nat.reduceEqDiff,Nat.reduceAdd,Nat.reduceLeDiff,Nat.zero_add,Nat.add_zero,Prod.mk.injEq,and_true,true_and,and_false,false_and,and_self,if_true,if_false,ite_true,ite_false,Bool.not_true,Bool.not_false,Bool.not_eq_true',reduceCtorEq,decide_true,decide_false,frTs,frT,frL_p,spS,ofPT_a,ofPT_g,ofPT_t,flat_i,flat_b,flat_s,flat_l,flat_g,flatp_i,flatp_b,flatp_s,flatp_l,klTs,klT,Bool.and_false,Bool.false_and,frL,frA_p,frA_nil,frA_own,ownT,intT,Bool.or_true,Bool.true_or,Bool.false_eq_true,frL_p,klL_p,ownT_p,O.adds,List.all_cons,List.all_nil,List.any_cons,List.any_nil,ownA,evO.bslRows,List.replicate_succ,List.replicate_zero,List.set_cons_zero,rowsA,over,List.cons_append,List.nil_append,List.append_nil,fillA,Bool.and_self,Bool.and_true,Bool.true_and,Bool.or_self,Bool.or_false,Bool.false_or,Nat.reduceMul,Nat.one_mul,Nat.lt_add_one,klL,Nat.le_refl,ite_self,Nat.reduceBEq]
      · exact congrArg (fun z => TV.a (AV.p (PV.i .i64 z))) (wrap_succ 0 (by omega))
      · omega
      · simp [List.take_add_one,hx]
    · have hmin : (List.take i t.l).length = i := by simp; omega
      have htk : List.take i (((t.l.take i).map (up b (w (f + t.more)))).map enc) = ((t.l.take i).map (up b (w (f + t.more)))).map enc := List.take_of_length_le (by simp; omega)
      have hne : ¬ c = σ.clk := by omega
      have hne1 : ¬ c = σ.clk + 1 := by omega
      simp only [e1,e2,e3,e6,e7,e8,h3,h6,h7,hrow,hlt,h0,Int.toNat_natCast,hx',enc_len,enc_all,enc_take,het,hm,hu,hen,hmin,htk,hbs,hne,hne1,Nat.reduceLeDiff,x_seq,x_reg,x_skip,x_exit,x_ret,x_block,x_if,wpC_t,wpC_f,wpI_cons,wpI_nil,wpX_some,evI_any,evI_rd,evI_ad,evI_g,evG_u,evG_b,evG_tt,evG_ff,evG_tf,evG_ft,evO,evR,ev_t,ev_c,ev_f,putD_some,putD_none,put_at,cellsT,ldCells,mkT,lenA,binPV,add_bs,add_clk,add_ls,put_bs,put_clk,put_ls,kill_bs,kill_clk,kill_ls,empty_clk,empty_bs,Env.init,seqQ_norm,seqQ_exit,seqQ_ret,blkQ_norm,blkQ_exit,blkQ_ret,loopQ_norm,loopQ_exit,loopQ_ret,retP_ret,retP_norm,retE_ret,retE_norm,retS_ret,retS_norm,wpO_some,frA_fn,klA_p,klA_nil,klA_own,resVs,resV,resT,Option.bind_some,Option.bind_none,Option.map_some,List.getD_cons_zero,List.getD_cons_succ,List.getD_nil,List.length_cons,List.length_nil,List.length_map,List.map_cons,List.map_nil,List.drop_zero,List.drop_succ_cons,List.take_succ_cons,List.take_zero,List.drop_nil,List.take_nil,Nat.reduceEqDiff,Nat.reduceAdd,Nat.reduceLeDiff,Nat.zero_add,Nat.add_zero,Prod.mk.injEq,and_true,true_and,and_false,false_and,and_self,if_true,if_false,ite_true,ite_false,Bool.not_true,Bool.not_false,Bool.not_eq_true',reduceCtorEq,decide_true,decide_false,frTs,frT,frL_p,spS,ofPT_a,ofPT_g,ofPT_t,flat_i,flat_b,flat_s,flat_l,flat_g,flatp_i,flatp_b,flatp_s,flatp_l,klTs,klT,Bool.and_false,Bool.false_and,frL,frA_p,frA_nil,frA_own,ownT,intT,Bool.or_true,Bool.true_or,Bool.false_eq_true,frL_p,klL_p,ownT_p,O.adds,List.all_cons,List.all_nil,List.any_cons,List.any_nil,ownA,evO.bslRows,List.replicate_succ,List.replicate_zero,List.set_cons_zero,rowsA,over,List.cons_append,List.nil_append,List.append_nil,fillA,Bool.and_self,Bool.and_true,Bool.true_and,Bool.or_self,Bool.or_false,Bool.false_or,Nat.reduceMul,Nat.one_mul,Nat.lt_add_one,klL,Nat.le_refl,ite_self,Nat.reduceBEq]
      refine ihn (i + 1) _ _ (.own (50,σ.clk + 1) 0 (i + 1)) (by omega) ?_ ?_ ?_ ?_ ?_ ?_ ?_ ?_ ?_ ?_ (.inr ⟨σ.clk + 1,rfl,?_,?_⟩)
      all_goals try simp only [e1,e2,e3,e6,e7,e8,h3,h6,h7,x_seq,x_reg,x_skip,x_exit,x_ret,x_block,x_if,wpC_t,wpC_f,wpI_cons,wpI_nil,wpX_some,evI_any,evI_rd,evI_ad,evI_g,evG_u,evG_b,evG_tt,evG_ff,evG_tf,evG_ft,evO,evR,ev_t,ev_c,ev_f,putD_some,putD_none,put_at,cellsT,ldCells,mkT,lenA,binPV,add_bs,add_clk,add_ls,put_bs,put_clk,put_ls,kill_bs,kill_clk,kill_ls,empty_clk,empty_bs,Env.init,seqQ_norm,seqQ_exit,seqQ_ret,blkQ_norm,blkQ_exit,blkQ_ret,loopQ_norm,loopQ_exit,loopQ_ret,retP_ret,retP_norm,retE_ret,retE_norm,retS_ret,retS_norm,wpO_some,frA_fn,klA_p,klA_nil,klA_own,resVs,resV,resT,Option.bind_some,Option.bind_none,Option.map_some,List.getD_cons_zero,List.getD_cons_succ,List.getD_nil,List.length_cons,List.length_nil,List.length_map,List.map_cons,List.map_nil,List.drop_zero,List.drop_succ_cons,List.take_succ_cons,List.take_zero,List.drop_nil,List.take_nil,Nat.reduceEqDiff,Nat.reduceAdd,Nat.reduceLeDiff,Nat.zero_add,Nat.add_zero,Prod.mk.injEq,and_true,true_and,and_false,false_and,and_self,if_true,if_false,ite_true,ite_false,Bool.not_true,Bool.not_false,Bool.not_eq_true',reduceCtorEq,decide_true,decide_false,frTs,frT,frL_p,spS,ofPT_a,ofPT_g,ofPT_t,flat_i,flat_b,flat_s,flat_l,flat_g,flatp_i,flatp_b,flatp_s,flatp_l,klTs,klT,Bool.and_false,Bool.false_and,frL,frA_p,frA_nil,frA_own,ownT,intT,Bool.or_true,Bool.true_or,Bool.false_eq_true,frL_p,klL_p,ownT_p,O.adds,List.all_cons,List.all_nil,List.any_cons,List.any_nil,ownA,evO.bslRows,List.replicate_succ,List.replicate_zero,List.set_cons_zero,rowsA,over,List.cons_append,List.nil_append,List.append_nil,fillA,Bool.and_self,Bool.and_true,Bool.true_and,Bool.or_self,Bool.or_false,Bool.false_or,Nat.reduceMul,Nat.one_mul,Nat.lt_add_one,klL,Nat.le_refl,ite_self,Nat.reduceBEq]
      · exact congrArg (fun z => TV.a (AV.p (PV.i .i64 z))) (wrap_succ i (by simp only [reachBytes] at hl; omega))
      · omega
      · simp [List.take_add_one,hx]
theorem up_ok {t : T} (ht : T.Ok t) : ∀ b f : Int,eP S 20 [.g (enc t),.a (.i .i64 b),.a (.i .i64 f)] = some (.g (enc (up b f t))) := by
  induction ht with
  | mk k n s l hk hn hs hl h ih =>
    intro b f
    refine x_fn (orcS 20) (fc := F20) rfl rfl ?_
    simp only [F20,enc,encL_map,up,upL_map,x_seq,x_reg,x_skip,x_exit,x_ret,x_block,x_if,wpC_t,wpC_f,wpI_cons,wpI_nil,wpX_some,evI_any,evI_rd,evI_ad,evI_g,evG_u,evG_b,evG_tt,evG_ff,evG_tf,evG_ft,evO,evR,ev_t,ev_c,ev_f,putD_some,putD_none,put_at,cellsT,ldCells,mkT,lenA,binPV,add_bs,add_clk,add_ls,put_bs,put_clk,put_ls,kill_bs,kill_clk,kill_ls,empty_clk,empty_bs,Env.init,seqQ_norm,seqQ_exit,seqQ_ret,blkQ_norm,blkQ_exit,blkQ_ret,loopQ_norm,loopQ_exit,loopQ_ret,retP_ret,retP_norm,retE_ret,retE_norm,retS_ret,retS_norm,wpO_some,frA_fn,klA_p,klA_nil,klA_own,resVs,resV,resT,Option.bind_some,Option.bind_none,Option.map_some,List.getD_cons_zero,List.getD_cons_succ,List.getD_nil,List.length_cons,List.length_nil,List.length_map,List.map_cons,List.map_nil,List.drop_zero,List.drop_succ_cons,List.take_succ_cons,List.take_zero,List.drop_nil,List.take_nil,Nat.reduceEqDiff,Nat.reduceAdd,Nat.reduceLeDiff,Nat.zero_add,Nat.add_zero,Prod.mk.injEq,and_true,true_and,and_false,false_and,and_self,if_true,if_false,ite_true,ite_false,Bool.not_true,Bool.not_false,Bool.not_eq_true',reduceCtorEq,decide_true,decide_false,frTs,frT,frL_p,spS,ofPT_a,ofPT_g,ofPT_t,flat_i,flat_b,flat_s,flat_l,flat_g,flatp_i,flatp_b,flatp_s,flatp_l,klTs,klT,Bool.and_false,Bool.false_and,frL,frA_p,frA_nil,frA_own,ownT,intT,Bool.or_true,Bool.true_or,Bool.false_eq_true,frL_p,klL_p,ownT_p,O.adds,List.all_cons,List.all_nil,List.any_cons,List.any_nil,ownA,evO.bslRows,List.replicate_succ,List.replicate_zero,List.set_cons_zero,rowsA,over,List.cons_append,List.nil_append,List.append_nil,fillA,Bool.and_self,Bool.and_true,Bool.true_and,Bool.or_self,Bool.or_false,Bool.false_or,Nat.reduceMul,Nat.one_mul,Nat.lt_add_one,klL,Nat.le_refl,ite_self,Nat.reduceBEq]
    refine wpC_split (fun h1 => ?_) (fun h1 => ?_)
    · simp only [h1,x_seq,x_reg,x_skip,x_exit,x_ret,x_block,x_if,wpC_t,wpC_f,wpI_cons,wpI_nil,wpX_some,evI_any,evI_rd,evI_ad,evI_g,evG_u,evG_b,evG_tt,evG_ff,evG_tf,evG_ft,evO,evR,ev_t,ev_c,ev_f,putD_some,putD_none,put_at,cellsT,ldCells,mkT,lenA,binPV,add_bs,add_clk,add_ls,put_bs,put_clk,put_ls,kill_bs,kill_clk,kill_ls,empty_clk,empty_bs,Env.init,seqQ_norm,seqQ_exit,seqQ_ret,blkQ_norm,blkQ_exit,blkQ_ret,loopQ_norm,loopQ_exit,loopQ_ret,retP_ret,retP_norm,retE_ret,retE_norm,retS_ret,retS_norm,wpO_some,frA_fn,klA_p,klA_nil,klA_own,resVs,resV,resT,Option.bind_some,Option.bind_none,Option.map_some,List.getD_cons_zero,List.getD_cons_succ,List.getD_nil,List.length_cons,List.length_nil,List.length_map,List.map_cons,List.map_nil,List.drop_zero,List.drop_succ_cons,List.take_succ_cons,List.take_zero,List.drop_nil,List.take_nil,Nat.reduceEqDiff,Nat.reduceAdd,Nat.reduceLeDiff,Nat.zero_add,Nat.add_zero,Prod.mk.injEq,and_true,true_and,and_false,false_and,and_self,if_true,if_false,ite_true,ite_false,Bool.not_true,Bool.not_false,Bool.not_eq_true',reduceCtorEq,decide_true,decide_false,frTs,frT,frL_p,spS,ofPT_a,ofPT_g,ofPT_t,flat_i,flat_b,flat_s,flat_l,flat_g,flatp_i,flatp_b,flatp_s,flatp_l,klTs,klT,Bool.and_false,Bool.false_and,frL,frA_p,frA_nil,frA_own,ownT,intT,Bool.or_true,Bool.true_or,Bool.false_eq_true,frL_p,klL_p,ownT_p,O.adds,List.all_cons,List.all_nil,List.any_cons,List.any_nil,ownA,evO.bslRows,List.replicate_succ,List.replicate_zero,List.set_cons_zero,rowsA,over,List.cons_append,List.nil_append,List.append_nil,fillA,Bool.and_self,Bool.and_true,Bool.true_and,Bool.or_self,Bool.or_false,Bool.false_or,Nat.reduceMul,Nat.one_mul,Nat.lt_add_one,klL,Nat.le_refl,ite_self,Nat.reduceBEq]
      refine wpC_split (fun h2 => ?_) (fun h2 => ?_)
      · simp only [h1,h2,x_seq,x_reg,x_skip,x_exit,x_ret,x_block,x_if,wpC_t,wpC_f,wpI_cons,wpI_nil,wpX_some,evI_any,evI_rd,evI_ad,evI_g,evG_u,evG_b,evG_tt,evG_ff,evG_tf,evG_ft,evO,evR,ev_t,ev_c,ev_f,putD_some,putD_none,put_at,cellsT,ldCells,mkT,lenA,binPV,add_bs,add_clk,add_ls,put_bs,put_clk,put_ls,kill_bs,kill_clk,kill_ls,empty_clk,empty_bs,Env.init,seqQ_norm,seqQ_exit,seqQ_ret,blkQ_norm,blkQ_exit,blkQ_ret,loopQ_norm,loopQ_exit,loopQ_ret,retP_ret,retP_norm,retE_ret,retE_norm,retS_ret,retS_norm,wpO_some,frA_fn,klA_p,klA_nil,klA_own,resVs,resV,resT,Option.bind_some,Option.bind_none,Option.map_some,List.getD_cons_zero,List.getD_cons_succ,List.getD_nil,List.length_cons,List.length_nil,List.length_map,List.map_cons,List.map_nil,List.drop_zero,List.drop_succ_cons,List.take_succ_cons,List.take_zero,List.drop_nil,List.take_nil,Nat.reduceEqDiff,Nat.reduceAdd,Nat.reduceLeDiff,Nat.zero_add,Nat.add_zero,Prod.mk.injEq,and_true,true_and,and_false,false_and,and_self,if_true,if_false,ite_true,ite_false,Bool.not_true,Bool.not_false,Bool.not_eq_true',reduceCtorEq,decide_true,decide_false,frTs,frT,frL_p,spS,ofPT_a,ofPT_g,ofPT_t,flat_i,flat_b,flat_s,flat_l,flat_g,flatp_i,flatp_b,flatp_s,flatp_l,klTs,klT,Bool.and_false,Bool.false_and,frL,frA_p,frA_nil,frA_own,ownT,intT,Bool.or_true,Bool.true_or,Bool.false_eq_true,frL_p,klL_p,ownT_p,O.adds,List.all_cons,List.all_nil,List.any_cons,List.any_nil,ownA,evO.bslRows,List.replicate_succ,List.replicate_zero,List.set_cons_zero,rowsA,over,List.cons_append,List.nil_append,List.append_nil,fillA,Bool.and_self,Bool.and_true,Bool.true_and,Bool.or_self,Bool.or_false,Bool.false_or,Nat.reduceMul,Nat.one_mul,Nat.lt_add_one,klL,Nat.le_refl,ite_self,Nat.reduceBEq]
        simp only [Bool.not_eq_false',Bool.not_eq_true',Bool.not_false,Bool.not_true,decide_eq_true_eq,decide_eq_false_iff_not,Int.natCast_inj] at h1 h2; simp [h1,h2,enc,encL_map]
      · simp only [h1,h2,x_seq,x_reg,x_skip,x_exit,x_ret,x_block,x_if,wpC_t,wpC_f,wpI_cons,wpI_nil,wpX_some,evI_any,evI_rd,evI_ad,evI_g,evG_u,evG_b,evG_tt,evG_ff,evG_tf,evG_ft,evO,evR,ev_t,ev_c,ev_f,putD_some,putD_none,put_at,cellsT,ldCells,mkT,lenA,binPV,add_bs,add_clk,add_ls,put_bs,put_clk,put_ls,kill_bs,kill_clk,kill_ls,empty_clk,empty_bs,Env.init,seqQ_norm,seqQ_exit,seqQ_ret,blkQ_norm,blkQ_exit,blkQ_ret,loopQ_norm,loopQ_exit,loopQ_ret,retP_ret,retP_norm,retE_ret,retE_norm,retS_ret,retS_norm,wpO_some,frA_fn,klA_p,klA_nil,klA_own,resVs,resV,resT,Option.bind_some,Option.bind_none,Option.map_some,List.getD_cons_zero,List.getD_cons_succ,List.getD_nil,List.length_cons,List.length_nil,List.length_map,List.map_cons,List.map_nil,List.drop_zero,List.drop_succ_cons,List.take_succ_cons,List.take_zero,List.drop_nil,List.take_nil,Nat.reduceEqDiff,Nat.reduceAdd,Nat.reduceLeDiff,Nat.zero_add,Nat.add_zero,Prod.mk.injEq,and_true,true_and,and_false,false_and,and_self,if_true,if_false,ite_true,ite_false,Bool.not_true,Bool.not_false,Bool.not_eq_true',reduceCtorEq,decide_true,decide_false,frTs,frT,frL_p,spS,ofPT_a,ofPT_g,ofPT_t,flat_i,flat_b,flat_s,flat_l,flat_g,flatp_i,flatp_b,flatp_s,flatp_l,klTs,klT,Bool.and_false,Bool.false_and,frL,frA_p,frA_nil,frA_own,ownT,intT,Bool.or_true,Bool.true_or,Bool.false_eq_true,frL_p,klL_p,ownT_p,O.adds,List.all_cons,List.all_nil,List.any_cons,List.any_nil,ownA,evO.bslRows,List.replicate_succ,List.replicate_zero,List.set_cons_zero,rowsA,over,List.cons_append,List.nil_append,List.append_nil,fillA,Bool.and_self,Bool.and_true,Bool.true_and,Bool.or_self,Bool.or_false,Bool.false_or,Nat.reduceMul,Nat.one_mul,Nat.lt_add_one,klL,Nat.le_refl,ite_self,Nat.reduceBEq]
        simp only [Bool.not_eq_false',Bool.not_eq_true',Bool.not_false,Bool.not_true,decide_eq_true_eq,decide_eq_false_iff_not,Int.natCast_inj] at h1 h2; simp [h1,h2,enc,encL_map]
    · simp only [h1,x_seq,x_reg,x_skip,x_exit,x_ret,x_block,x_if,wpC_t,wpC_f,wpI_cons,wpI_nil,wpX_some,evI_any,evI_rd,evI_ad,evI_g,evG_u,evG_b,evG_tt,evG_ff,evG_tf,evG_ft,evO,evR,ev_t,ev_c,ev_f,putD_some,putD_none,put_at,cellsT,ldCells,mkT,lenA,binPV,add_bs,add_clk,add_ls,put_bs,put_clk,put_ls,kill_bs,kill_clk,kill_ls,empty_clk,empty_bs,Env.init,seqQ_norm,seqQ_exit,seqQ_ret,blkQ_norm,blkQ_exit,blkQ_ret,loopQ_norm,loopQ_exit,loopQ_ret,retP_ret,retP_norm,retE_ret,retE_norm,retS_ret,retS_norm,wpO_some,frA_fn,klA_p,klA_nil,klA_own,resVs,resV,resT,Option.bind_some,Option.bind_none,Option.map_some,List.getD_cons_zero,List.getD_cons_succ,List.getD_nil,List.length_cons,List.length_nil,List.length_map,List.map_cons,List.map_nil,List.drop_zero,List.drop_succ_cons,List.take_succ_cons,List.take_zero,List.drop_nil,List.take_nil,Nat.reduceEqDiff,Nat.reduceAdd,Nat.reduceLeDiff,Nat.zero_add,Nat.add_zero,Prod.mk.injEq,and_true,true_and,and_false,false_and,and_self,if_true,if_false,ite_true,ite_false,Bool.not_true,Bool.not_false,Bool.not_eq_true',reduceCtorEq,decide_true,decide_false,frTs,frT,frL_p,spS,ofPT_a,ofPT_g,ofPT_t,flat_i,flat_b,flat_s,flat_l,flat_g,flatp_i,flatp_b,flatp_s,flatp_l,klTs,klT,Bool.and_false,Bool.false_and,frL,frA_p,frA_nil,frA_own,ownT,intT,Bool.or_true,Bool.true_or,Bool.false_eq_true,frL_p,klL_p,ownT_p,O.adds,List.all_cons,List.all_nil,List.any_cons,List.any_nil,ownA,evO.bslRows,List.replicate_succ,List.replicate_zero,List.set_cons_zero,rowsA,over,List.cons_append,List.nil_append,List.append_nil,fillA,Bool.and_self,Bool.and_true,Bool.true_and,Bool.or_self,Bool.or_false,Bool.false_or,Nat.reduceMul,Nat.one_mul,Nat.lt_add_one,klL,Nat.le_refl,ite_self,Nat.reduceBEq]
      simp only [Bool.not_eq_false',Bool.not_eq_true',Bool.not_false,Bool.not_true,decide_eq_true_eq,decide_eq_false_iff_not,Int.natCast_inj] at h1
      rw [if_neg h1]
      refine loop20 (.mk k n s l) b f hl (fun u hu f => ih u hu b f) _ ?_ l.length 0 _ _ .nil (by simp [T.l]) ?_ ?_ ?_ ?_ ?_ ?_ ?_ ?_ ?_ ?_ (.inl ⟨rfl,rfl⟩)
      · intro e' σ' X g1 g2 g3 g4 g5 g6
        simp only [T.k,T.n,T.s,T.l] at g1 g2
        simp only [g1,g3,g4,g5,g6,x_seq,x_reg,x_skip,x_exit,x_ret,x_block,x_if,wpC_t,wpC_f,wpI_cons,wpI_nil,wpX_some,evI_any,evI_rd,evI_ad,evI_g,evG_u,evG_b,evG_tt,evG_ff,evG_tf,evG_ft,evO,evR,ev_t,ev_c,ev_f,putD_some,putD_none,put_at,cellsT,ldCells,mkT,lenA,binPV,add_bs,add_clk,add_ls,put_bs,put_clk,put_ls,kill_bs,kill_clk,kill_ls,empty_clk,empty_bs,Env.init,seqQ_norm,seqQ_exit,seqQ_ret,blkQ_norm,blkQ_exit,blkQ_ret,loopQ_norm,loopQ_exit,loopQ_ret,retP_ret,retP_norm,retE_ret,retE_norm,retS_ret,retS_norm,wpO_some,frA_fn,klA_p,klA_nil,klA_own,resVs,resV,resT,Option.bind_some,Option.bind_none,Option.map_some,List.getD_cons_zero,List.getD_cons_succ,List.getD_nil,List.length_cons,List.length_nil,List.length_map,List.map_cons,List.map_nil,List.drop_zero,List.drop_succ_cons,List.take_succ_cons,List.take_zero,List.drop_nil,List.take_nil,Nat.reduceEqDiff,Nat.reduceAdd,Nat.reduceLeDiff,Nat.zero_add,Nat.add_zero,Prod.mk.injEq,and_true,true_and,and_false,false_and,and_self,if_true,if_false,ite_true,ite_false,Bool.not_true,Bool.not_false,Bool.not_eq_true',reduceCtorEq,decide_true,decide_false,frTs,frT,frL_p,spS,ofPT_a,ofPT_g,ofPT_t,flat_i,flat_b,flat_s,flat_l,flat_g,flatp_i,flatp_b,flatp_s,flatp_l,klTs,klT,Bool.and_false,Bool.false_and,frL,frA_p,frA_nil,frA_own,ownT,intT,Bool.or_true,Bool.true_or,Bool.false_eq_true,frL_p,klL_p,ownT_p,O.adds,List.all_cons,List.all_nil,List.any_cons,List.any_nil,ownA,evO.bslRows,List.replicate_succ,List.replicate_zero,List.set_cons_zero,rowsA,over,List.cons_append,List.nil_append,List.append_nil,fillA,Bool.and_self,Bool.and_true,Bool.true_and,Bool.or_self,Bool.or_false,Bool.false_or,Nat.reduceMul,Nat.one_mul,Nat.lt_add_one,klL,Nat.le_refl,ite_self,Nat.reduceBEq]
        simp only [frA_put_var g3,g2,x_seq,x_reg,x_skip,x_exit,x_ret,x_block,x_if,wpC_t,wpC_f,wpI_cons,wpI_nil,wpX_some,evI_any,evI_rd,evI_ad,evI_g,evG_u,evG_b,evG_tt,evG_ff,evG_tf,evG_ft,evO,evR,ev_t,ev_c,ev_f,putD_some,putD_none,put_at,cellsT,ldCells,mkT,lenA,binPV,add_bs,add_clk,add_ls,put_bs,put_clk,put_ls,kill_bs,kill_clk,kill_ls,empty_clk,empty_bs,Env.init,seqQ_norm,seqQ_exit,seqQ_ret,blkQ_norm,blkQ_exit,blkQ_ret,loopQ_norm,loopQ_exit,loopQ_ret,retP_ret,retP_norm,retE_ret,retE_norm,retS_ret,retS_norm,wpO_some,frA_fn,klA_p,klA_nil,klA_own,resVs,resV,resT,Option.bind_some,Option.bind_none,Option.map_some,List.getD_cons_zero,List.getD_cons_succ,List.getD_nil,List.length_cons,List.length_nil,List.length_map,List.map_cons,List.map_nil,List.drop_zero,List.drop_succ_cons,List.take_succ_cons,List.take_zero,List.drop_nil,List.take_nil,Nat.reduceEqDiff,Nat.reduceAdd,Nat.reduceLeDiff,Nat.zero_add,Nat.add_zero,Prod.mk.injEq,and_true,true_and,and_false,false_and,and_self,if_true,if_false,ite_true,ite_false,Bool.not_true,Bool.not_false,Bool.not_eq_true',reduceCtorEq,decide_true,decide_false,frTs,frT,frL_p,spS,ofPT_a,ofPT_g,ofPT_t,flat_i,flat_b,flat_s,flat_l,flat_g,flatp_i,flatp_b,flatp_s,flatp_l,klTs,klT,Bool.and_false,Bool.false_and,frL,frA_p,frA_nil,frA_own,ownT,intT,Bool.or_true,Bool.true_or,Bool.false_eq_true,frL_p,klL_p,ownT_p,O.adds,List.all_cons,List.all_nil,List.any_cons,List.any_nil,ownA,evO.bslRows,List.replicate_succ,List.replicate_zero,List.set_cons_zero,rowsA,over,List.cons_append,List.nil_append,List.append_nil,fillA,Bool.and_self,Bool.and_true,Bool.true_and,Bool.or_self,Bool.or_false,Bool.false_or,Nat.reduceMul,Nat.one_mul,Nat.lt_add_one,klL,Nat.le_refl,ite_self,Nat.reduceBEq]
        simp [enc,encL_map]
      all_goals simp only [T.k,T.n,T.s,T.l,x_seq,x_reg,x_skip,x_exit,x_ret,x_block,x_if,wpC_t,wpC_f,wpI_cons,wpI_nil,wpX_some,evI_any,evI_rd,evI_ad,evI_g,evG_u,evG_b,evG_tt,evG_ff,evG_tf,evG_ft,evO,evR,ev_t,ev_c,ev_f,putD_some,putD_none,put_at,cellsT,ldCells,mkT,lenA,binPV,add_bs,add_clk,add_ls,put_bs,put_clk,put_ls,kill_bs,kill_clk,kill_ls,empty_clk,empty_bs,Env.init,seqQ_norm,seqQ_exit,seqQ_ret,blkQ_norm,blkQ_exit,blkQ_ret,loopQ_norm,loopQ_exit,loopQ_ret,retP_ret,retP_norm,retE_ret,retE_norm,retS_ret,retS_norm,wpO_some,frA_fn,klA_p,klA_nil,klA_own,resVs,resV,resT,Option.bind_some,Option.bind_none,Option.map_some,List.getD_cons_zero,List.getD_cons_succ,List.getD_nil,List.length_cons,List.length_nil,List.length_map,List.map_cons,List.map_nil,List.drop_zero,List.drop_succ_cons,List.take_succ_cons,List.take_zero,List.drop_nil,List.take_nil,Nat.reduceEqDiff,Nat.reduceAdd,Nat.reduceLeDiff,Nat.zero_add,Nat.add_zero,Prod.mk.injEq,and_true,true_and,and_false,false_and,and_self,if_true,if_false,ite_true,ite_false,Bool.not_true,Bool.not_false,Bool.not_eq_true',reduceCtorEq,decide_true,decide_false,frTs,frT,frL_p,spS,ofPT_a,ofPT_g,ofPT_t,flat_i,flat_b,flat_s,flat_l,flat_g,flatp_i,flatp_b,flatp_s,flatp_l,klTs,klT,Bool.and_false,Bool.false_and,frL,frA_p,frA_nil,frA_own,ownT,intT,Bool.or_true,Bool.true_or,Bool.false_eq_true,frL_p,klL_p,ownT_p,O.adds,List.all_cons,List.all_nil,List.any_cons,List.any_nil,ownA,evO.bslRows,List.replicate_succ,List.replicate_zero,List.set_cons_zero,rowsA,over,List.cons_append,List.nil_append,List.append_nil,fillA,Bool.and_self,Bool.and_true,Bool.true_and,Bool.or_self,Bool.or_false,Bool.false_or,Nat.reduceMul,Nat.one_mul,Nat.lt_add_one,klL,Nat.le_refl,ite_self,Nat.reduceBEq]
      · rfl
      all_goals omega
end Go.Proofs.Ytlgekplmbmkcmaa
end
section
set_option linter.unusedSimpArgs false
set_option linter.unusedVariables false
namespace Go.Proofs.Ytlgekplmbmkcmaa
open Go.Fx
theorem enc_takep (t : T) : ((enc t).map AV.p).take 4 = (enc t).map AV.p := by rw [List.take_of_length_le]; simp [enc_len]
def TermV (lo : Nat) (σ : St) (t : T) (v : TV) : Prop :=
  ∃ X,v = .g [.p (.i .i64 t.k),.p (.i .i64 t.n),.p (.s t.s),X] ∧ frA σ X = some (.l (t.l.map enc)) ∧ ∀ s,s ∈ keysA X → lo ≤ s.2 ∧ s.2 < σ.clk
section
variable {α : Type} (step : α → T → Int → T × α)
mutual
def turn : T → Int → α → T × α
  | .mk k n s l,b,a => if k = 1 then step a (.mk k n s l) b else
      let r := turnL l (if k = 2 then w (b + 1) else if k = 6 then w (b + n) else b) a
      (.mk k n s r.1,r.2)
def turnL : List T → Int → α → List T × α
  | [],_,a => ([],a)
  | t :: r,b,a => ((turn t b a).1 :: (turnL r b (turn t b a).2).1,(turnL r b (turn t b a).2).2)
end
theorem turnL_len : ∀ (l : List T) (b : Int) (a : α),(turnL step l b a).1.length = l.length
  | [],_,_ => rfl
  | x :: l,b,a => by simp [turnL,turnL_len l]
structure Clo (c0 : Nat) (g : FuncId) (caps : List Key) (R : α → St → Prop) : Prop where
  ne : caps ≠ []
  stable : ∀ a σ σ',R a σ → (∀ s : Key,s.2 < c0 → σ'.bs s = σ.bs s) → R a σ'
  call : ∀ a v b σ,v.k = 1 → T.Ok v → R a σ → c0 ≤ σ.clk → ∃ tv σ',eS S (.f g) ([.g ((enc v).map .p),.a (.p (.i .i64 b))] ++ caps.map fun s => .a (.ptr s 0 0)) σ = some (tv,σ') ∧
    (TermV σ.clk σ' (step a v b).1 tv ∧ R (step a v b).2 σ' ∧ Grow c0 σ σ')
def zrow : List PV := [.i .i64 0,.i .i64 0,.s [],.l []]
variable {step} {c0 : Nat} {g : FuncId} {caps : List Key} {R : α → St → Prop}
def TurnOk (step : α → T → Int → T × α) (c0 : Nat) (g : FuncId) (caps : List Key) (R : α → St → Prop) (t : T) : Prop :=
  ∀ a b σ,R a σ → c0 ≤ σ.clk → ∃ tv σ',eS S (.f 51) [.g ((enc t).map .p),.a (.p (.i .i64 b)),.a (.fn g caps)] σ = some (tv,σ') ∧ (TermV σ.clk σ' (turn step t b a).1 tv ∧ R (turn step t b a).2 σ' ∧ Grow c0 σ σ')
theorem loop51 (hC : Clo step c0 g caps R) (t : T) (b : Int) (c : Nat) (hc0 : c0 ≤ c) (hl : t.l.length * 56 ≤ reachBytes) (Q : Ex → Env → St → Prop) :
    ∀ (rem : List T) (i : Nat) (done : List T) (a : α) (e : Env) (σ : St),t.l.drop i = rem → i + rem.length = t.l.length → done.length = i → (∀ u,u ∈ rem → T.Ok u ∧ TurnOk step c0 g caps R u) →
      e 1 = .a (.p (.i .i64 b)) → e 2 = .a (.fn g caps) → e 3 = .a (.ptr (3,c) 0 0) → e 6 = .a (.ptr (6,c + 1) 0 0) → e 7 = .a (.own (31,c + 2) 0 t.l.length) → e 33 = .a (.p (.l (t.l.map enc))) → e 34 = .a (.p (.i .i64 t.l.length)) → e 35 = .a (.p (.i .i64 (i : Nat))) →
      c + 3 ≤ σ.clk → σ.bs (3,c) = some (.var [.p (.i .i64 t.k),.p (.i .i64 t.n),.p (.s t.s),.p (.l (t.l.map enc))]) → σ.bs (6,c + 1) = some (.var [.p (.i .i64 0),.p (.i .i64 0),.p (.s []),.nil]) →
      σ.bs (31,c + 2) = some (.row 4 24 (done.map enc ++ List.replicate rem.length zrow)) → R a σ →
      (∀ e' σ',e' 3 = .a (.ptr (3,c) 0 0) → e' 6 = .a (.ptr (6,c + 1) 0 0) → e' 7 = .a (.own (31,c + 2) 0 t.l.length) → σ.clk ≤ σ'.clk → σ'.ls = σ.ls → (∀ s : Key,c0 ≤ s.2 → s.2 < c + 2 → σ'.bs s = σ.bs s) →
        σ'.bs (31,c + 2) = some (.row 4 24 ((done ++ (turnL step rem b a).1).map enc)) → R (turnL step rem b a).2 σ' → Q (.exit 1) e' σ') → wp S false (.loop F51b0) e σ Q := by
  intro rem
  induction rem with
  | nil =>
    intro i done a e σ hd hi hdl hu e1 e2 e3 e6 e7 e33 e34 e35 hc h3 h6 h31 hR hQ
    have hlt : ¬ ((i : Int) < (t.l.length : Int)) := by simp at hi; omega
    rw [x_loop,F51b0]
    simp only [e1,e2,e3,e6,e7,e33,e34,e35,hlt,x_seq,x_reg,x_skip,x_exit,x_ret,x_block,x_if,wpC_t,wpC_f,wpI_cons,wpI_nil,wpX_some,evI_any,evI_rd,evI_ad,evI_g,evG_u,evG_b,evG_tt,evG_ff,evG_tf,evG_ft,evO,evR,ev_t,ev_c,ev_f,putD_some,putD_none,put_at,cellsT,ldCells,mkT,lenA,binPV,add_bs,add_clk,add_ls,put_bs,put_clk,put_ls,kill_bs,kill_clk,kill_ls,empty_clk,empty_bs,Env.init,seqQ_norm,seqQ_exit,seqQ_ret,blkQ_norm,blkQ_exit,blkQ_ret,loopQ_norm,loopQ_exit,loopQ_ret,retP_ret,retP_norm,retE_ret,retE_norm,retS_ret,retS_norm,wpO_some,frA_fn,klA_p,klA_nil,klA_own,resVs,resV,resT,Option.bind_some,Option.bind_none,Option.map_some,List.getD_cons_zero,List.getD_cons_succ,List.getD_nil,List.length_cons,List.length_nil,List.length_map,List.map_cons,List.map_nil,List.drop_zero,List.drop_succ_cons,List.take_succ_cons,List.take_zero,List.drop_nil,List.take_nil,Nat.reduceEqDiff,Nat.reduceAdd,Nat.reduceLeDiff,Nat.zero_add,Nat.add_zero,Prod.mk.injEq,and_true,true_and,and_false,false_and,and_self,if_true,if_false,ite_true,ite_false,Bool.not_true,Bool.not_false,Bool.not_eq_true',reduceCtorEq,decide_true,decide_false,frTs,frT,frL_p,spS,ofPT_a,ofPT_g,ofPT_t,flat_i,flat_b,flat_s,flat_l,flat_g,flatp_i,flatp_b,flatp_s,flatp_l,klTs,klT,Bool.and_false,Bool.false_and,frL,frA_p,frA_nil,frA_own,ownT,intT,Bool.or_true,Bool.true_or,Bool.false_eq_true,frL_p,klL_p,ownT_p,O.adds,List.all_cons,List.all_nil,List.any_cons,List.any_nil,ownA,evO.bslRows,List.replicate_succ,List.replicate_zero,List.set_cons_zero,rowsA,over,List.cons_append,List.nil_append,List.append_nil,fillA,Bool.and_self,Bool.and_true,Bool.true_and,Bool.or_self,Bool.or_false,Bool.false_or,Nat.reduceMul,Nat.one_mul,Nat.lt_add_one,klL,Nat.le_refl,ite_self,Nat.reduceBEq]
    refine hQ _ σ ?_ ?_ ?_ (Nat.le_refl _) rfl (fun _ _ _ => rfl) (by simpa [turnL] using h31) (by simpa [turnL] using hR)
    all_goals simp only [e3,e6,e7,x_seq,x_reg,x_skip,x_exit,x_ret,x_block,x_if,wpC_t,wpC_f,wpI_cons,wpI_nil,wpX_some,evI_any,evI_rd,evI_ad,evI_g,evG_u,evG_b,evG_tt,evG_ff,evG_tf,evG_ft,evO,evR,ev_t,ev_c,ev_f,putD_some,putD_none,put_at,cellsT,ldCells,mkT,lenA,binPV,add_bs,add_clk,add_ls,put_bs,put_clk,put_ls,kill_bs,kill_clk,kill_ls,empty_clk,empty_bs,Env.init,seqQ_norm,seqQ_exit,seqQ_ret,blkQ_norm,blkQ_exit,blkQ_ret,loopQ_norm,loopQ_exit,loopQ_ret,retP_ret,retP_norm,retE_ret,retE_norm,retS_ret,retS_norm,wpO_some,frA_fn,klA_p,klA_nil,klA_own,resVs,resV,resT,Option.bind_some,Option.bind_none,Option.map_some,List.getD_cons_zero,List.getD_cons_succ,List.getD_nil,List.length_cons,List.length_nil,List.length_map,List.map_cons,List.map_nil,List.drop_zero,List.drop_succ_cons,List.take_succ_cons,List.take_zero,List.drop_nil,List.take_nil,Nat.reduceEqDiff,Nat.reduceAdd,Nat.reduceLeDiff,Nat.zero_add,Nat.add_zero,Prod.mk.injEq,and_true,true_and,and_false,false_and,and_self,if_true,if_false,ite_true,ite_false,Bool.not_true,Bool.not_false,Bool.not_eq_true',reduceCtorEq,decide_true,decide_false,frTs,frT,frL_p,spS,ofPT_a,ofPT_g,ofPT_t,flat_i,flat_b,flat_s,flat_l,flat_g,flatp_i,flatp_b,flatp_s,flatp_l,klTs,klT,Bool.and_false,Bool.false_and,frL,frA_p,frA_nil,frA_own,ownT,intT,Bool.or_true,Bool.true_or,Bool.false_eq_true,frL_p,klL_p,ownT_p,O.adds,List.all_cons,List.all_nil,List.any_cons,List.any_nil,ownA,evO.bslRows,List.replicate_succ,List.replicate_zero,List.set_cons_zero,rowsA,over,List.cons_append,List.nil_append,List.append_nil,fillA,Bool.and_self,Bool.and_true,Bool.true_and,Bool.or_self,Bool.or_false,Bool.false_or,Nat.reduceMul,Nat.one_mul,Nat.lt_add_one,klL,Nat.le_refl,ite_self,Nat.reduceBEq]
  | cons x rem ih =>
    intro i done a e σ hd hi hdl hu e1 e2 e3 e6 e7 e33 e34 e35 hc h3 h6 h31 hR hQ
    simp only [List.length_cons] at hi
    have hlt : ((i : Int) < (t.l.length : Int)) := by omega
    have h0 : (0 : Int) ≤ (i : Int) := by omega
    have hx : t.l[i]? = some x := by rw [← List.head?_drop,hd]; rfl
    have hx' : (t.l.map enc)[i]? = some (enc x) := by simp [hx]
    obtain ⟨hxo,hxt⟩ := hu x (by simp)
    rw [x_loop,F51b0]
    simp only [e1,e2,e3,e6,e7,e33,e34,e35,h3,h6,h31,hlt,h0,Int.toNat_natCast,hx',enc_len,enc_all,enc_take,enc_takep,rowK,x_seq,x_reg,x_skip,x_exit,x_ret,x_block,x_if,wpC_t,wpC_f,wpI_cons,wpI_nil,wpX_some,evI_any,evI_rd,evI_ad,evI_g,evG_u,evG_b,evG_tt,evG_ff,evG_tf,evG_ft,evO,evR,ev_t,ev_c,ev_f,putD_some,putD_none,put_at,cellsT,ldCells,mkT,lenA,binPV,add_bs,add_clk,add_ls,put_bs,put_clk,put_ls,kill_bs,kill_clk,kill_ls,empty_clk,empty_bs,Env.init,seqQ_norm,seqQ_exit,seqQ_ret,blkQ_norm,blkQ_exit,blkQ_ret,loopQ_norm,loopQ_exit,loopQ_ret,retP_ret,retP_norm,retE_ret,retE_norm,retS_ret,retS_norm,wpO_some,frA_fn,klA_p,klA_nil,klA_own,resVs,resV,resT,Option.bind_some,Option.bind_none,Option.map_some,List.getD_cons_zero,List.getD_cons_succ,List.getD_nil,List.length_cons,List.length_nil,List.length_map,List.map_cons,List.map_nil,List.drop_zero,List.drop_succ_cons,List.take_succ_cons,List.take_zero,List.drop_nil,List.take_nil,Nat.reduceEqDiff,Nat.reduceAdd,Nat.reduceLeDiff,Nat.zero_add,Nat.add_zero,Prod.mk.injEq,and_true,true_and,and_false,false_and,and_self,if_true,if_false,ite_true,ite_false,Bool.not_true,Bool.not_false,Bool.not_eq_true',reduceCtorEq,decide_true,decide_false,frTs,frT,frL_p,spS,ofPT_a,ofPT_g,ofPT_t,flat_i,flat_b,flat_s,flat_l,flat_g,flatp_i,flatp_b,flatp_s,flatp_l,klTs,klT,Bool.and_false,Bool.false_and,frL,frA_p,frA_nil,frA_own,ownT,intT,Bool.or_true,Bool.true_or,Bool.false_eq_true,frL_p,klL_p,ownT_p,O.adds,List.all_cons,List.all_nil,List.any_cons,List.any_nil,ownA,evO.bslRows,List.replicate_succ,List.replicate_zero,List.set_cons_zero,rowsA,over,List.cons_append,List.nil_append,List.append_nil,fillA,Bool.and_self,Bool.and_true,Bool.true_and,Bool.or_self,Bool.or_false,Bool.false_or,Nat.reduceMul,Nat.one_mul,Nat.lt_add_one,klL,Nat.le_refl,ite_self,Nat.reduceBEq]
    have hne : ∀ s : Key,s.2 < σ.clk → ¬ s = (9,σ.clk) := by rintro s hs rfl; exact Nat.lt_irrefl _ hs
    refine wpX_call (hxt a b _ (hC.stable _ σ _ hR fun s hs => ?_) ?_) fun tv σ2 hK => ?_
    · simp only [put_bs,add_bs,hne s (by omega),if_false]
    · simp only [put_clk,add_clk]; omega
    obtain ⟨⟨X,rfl,hX,hk⟩,hR2,hG⟩ := hK
    obtain ⟨hG1,hG2,hG3⟩ := hG
    simp only [put_clk,add_clk,put_ls,add_ls,put_bs,add_bs] at hG1 hG2 hG3 hk
    have h3' : σ2.bs (3,c) = some (.var [.p (.i .i64 t.k),.p (.i .i64 t.n),.p (.s t.s),.p (.l (t.l.map enc))]) := by
      rw [hG3 _ (by simpa using hc0) (by simp; omega)]; simp [h3]
    have h6' : σ2.bs (6,c + 1) = some (.var [.p (.i .i64 0),.p (.i .i64 0),.p (.s []),.nil]) := by
      rw [hG3 _ (by simp; omega) (by simp; omega)]; simp [h6]
    obtain ⟨tl,htl⟩ : ∃ tl,tl = List.replicate rem.length zrow := ⟨_,rfl⟩
    have h31' : σ2.bs (31,c + 2) = some (.row 4 24 (done.map enc ++ zrow :: tl)) := by
      rw [hG3 _ (by simp; omega) (by simp; omega)]; simp [h31,htl,List.replicate_succ]
    have hri : (done.map enc ++ zrow :: tl)[i]? = some zrow := by
      rw [List.getElem?_append_right (by simp [hdl])]; simp [hdl]
    have hset : ∀ z,(done.map enc ++ zrow :: tl).set i z = done.map enc ++ z :: tl := by
      intro z
      rw [List.set_append_right _ _ (by simp [hdl])]
      simp [hdl]
    have hil : 0 + i = i := Nat.zero_add i
    have hzl : zrow.length = 4 := rfl
    have hzd : zrow.drop 4 = [] := rfl
    have hty : [PV.i .i64 (turn step x b a).1.k,PV.i .i64 (turn step x b a).1.n,PV.s (turn step x b a).1.s,PV.l ((turn step x b a).1.l.map enc)] = enc (turn step x b a).1 := (enc_eq _).symm
    have fin : ∀ (e' : Env) (σ3 : St),e' 1 = .a (.p (.i .i64 b)) → e' 2 = .a (.fn g caps) → e' 3 = .a (.ptr (3,c) 0 0) → e' 6 = .a (.ptr (6,c + 1) 0 0) → e' 7 = .a (.own (31,c + 2) 0 t.l.length) → e' 33 = .a (.p (.l (t.l.map enc))) → e' 34 = .a (.p (.i .i64 t.l.length)) →
        e' 35 = .a (.p (.i .i64 (IntKind.i64.wrap ((i : Int) + 1)))) → σ3.clk = σ2.clk → σ3.ls = σ2.ls → (∀ s : Key,s.2 < c + 2 → σ3.bs s = σ2.bs s) → σ3.bs (31,c + 2) = some (.row 4 24 (done.map enc ++ enc (turn step x b a).1 :: tl)) → wp S false (.loop F51b0) e' σ3 Q := by
      intro e' σ3 f1 f2 f3 f6 f7 f33 f34 f35 k1 k2 k3 k4
      have hlb : t.l.length < 9223372036854775807 := by simp only [reachBytes] at hl; omega
      refine ih (i + 1) (done ++ [(turn step x b a).1]) (turn step x b a).2 e' σ3 ?_ (by omega) (by simp [hdl]) (fun u hu' => hu u (by simp [hu'])) f1 f2 f3 f6 f7 f33 f34 (by rw [f35,wrap_succ i (by omega)]) (by omega) ?_ ?_ ?_ (hC.stable _ σ2 _ hR2 fun s hs => k3 s (by omega)) ?_
      · rw [← List.drop_drop,hd]; rfl
      · rw [k3 _ (by simp)]; exact h3'
      · rw [k3 _ (by simp)]; exact h6'
      · rw [k4,htl]; simp
      · intro e'' σ4 q3 q6 q7 q8 q9 q10 q11 q12
        refine hQ e'' σ4 q3 q6 q7 (by omega) (by rw [q9,k2]; exact hG2) (fun s hs1 hs2 => ?_) ?_ ?_
        · rw [q10 s hs1 hs2,k3 s hs2,hG3 s hs1 (by omega)]
          simp only [hne s (by omega),if_false]
        · rw [q11]; simp [turnL]
        · simpa [turnL] using q12
    cases X with
    | p v =>
      simp only [frA,Option.some.injEq] at hX
      subst hX
      simp only [h31',rowK,Int.toNat_natCast,hlt,h0,hil,hri,hset,hzl,hzd,hty,e1,e2,e3,e6,e7,e33,e34,e35,Nat.reduceLeDiff,x_seq,x_reg,x_skip,x_exit,x_ret,x_block,x_if,wpC_t,wpC_f,wpI_cons,wpI_nil,wpX_some,evI_any,evI_rd,evI_ad,evI_g,evG_u,evG_b,evG_tt,evG_ff,evG_tf,evG_ft,evO,evR,ev_t,ev_c,ev_f,putD_some,putD_none,put_at,cellsT,ldCells,mkT,lenA,binPV,add_bs,add_clk,add_ls,put_bs,put_clk,put_ls,kill_bs,kill_clk,kill_ls,empty_clk,empty_bs,Env.init,seqQ_norm,seqQ_exit,seqQ_ret,blkQ_norm,blkQ_exit,blkQ_ret,loopQ_norm,loopQ_exit,loopQ_ret,retP_ret,retP_norm,retE_ret,retE_norm,retS_ret,retS_norm,wpO_some,frA_fn,klA_p,klA_nil,klA_own,resVs,resV,resT,Option.bind_some,Option.bind_none,Option.map_some,List.getD_cons_zero,List.getD_cons_succ,List.getD_nil,List.length_cons,List.length_nil,List.length_map,List.map_cons,List.map_nil,List.drop_zero,List.drop_succ_cons,List.take_succ_cons,List.take_zero,List.drop_nil,List.take_nil,Nat.reduceEqDiff,Nat.reduceAdd,Nat.reduceLeDiff,Nat.zero_add,Nat.add_zero,Prod.mk.injEq,and_true,true_and,and_false,false_and,and_self,if_true,if_false,ite_true,ite_false,Bool.not_true,Bool.not_false,Bool.not_eq_true',reduceCtorEq,decide_true,decide_false,frTs,frT,frL_p,spS,ofPT_a,ofPT_g,ofPT_t,flat_i,flat_b,flat_s,flat_l,flat_g,flatp_i,flatp_b,flatp_s,flatp_l,klTs,klT,Bool.and_false,Bool.false_and,frL,frA_p,frA_nil,frA_own,ownT,intT,Bool.or_true,Bool.true_or,Bool.false_eq_true,frL_p,klL_p,ownT_p,O.adds,List.all_cons,List.all_nil,List.any_cons,List.any_nil,ownA,evO.bslRows,List.replicate_succ,List.replicate_zero,List.set_cons_zero,rowsA,over,List.cons_append,List.nil_append,List.append_nil,fillA,Bool.and_self,Bool.and_true,Bool.true_and,Bool.or_self,Bool.or_false,Bool.false_or,Nat.reduceMul,Nat.one_mul,Nat.lt_add_one,klL,Nat.le_refl,ite_self,Nat.reduceBEq]
      refine fin _ _ ?_ ?_ ?_ ?_ ?_ ?_ ?_ ?_ ?_ ?_ ?_ ?_
      all_goals try simp only [e1,e2,e3,e6,e7,e33,e34,e35,h31',x_seq,x_reg,x_skip,x_exit,x_ret,x_block,x_if,wpC_t,wpC_f,wpI_cons,wpI_nil,wpX_some,evI_any,evI_rd,evI_ad,evI_g,evG_u,evG_b,evG_tt,evG_ff,evG_tf,evG_ft,evO,evR,ev_t,ev_c,ev_f,putD_some,putD_none,put_at,cellsT,ldCells,mkT,lenA,binPV,add_bs,add_clk,add_ls,put_bs,put_clk,put_ls,kill_bs,kill_clk,kill_ls,empty_clk,empty_bs,Env.init,seqQ_norm,seqQ_exit,seqQ_ret,blkQ_norm,blkQ_exit,blkQ_ret,loopQ_norm,loopQ_exit,loopQ_ret,retP_ret,retP_norm,retE_ret,retE_norm,retS_ret,retS_norm,wpO_some,frA_fn,klA_p,klA_nil,klA_own,resVs,resV,resT,Option.bind_some,Option.bind_none,Option.map_some,List.getD_cons_zero,List.getD_cons_succ,List.getD_nil,List.length_cons,List.length_nil,List.length_map,List.map_cons,List.map_nil,List.drop_zero,List.drop_succ_cons,List.take_succ_cons,List.take_zero,List.drop_nil,List.take_nil,Nat.reduceEqDiff,Nat.reduceAdd,Nat.reduceLeDiff,Nat.zero_add,Nat.add_zero,Prod.mk.injEq,and_true,true_and,and_false,false_and,and_self,if_true,if_false,ite_true,ite_false,Bool.not_true,Bool.not_false,Bool.not_eq_true',reduceCtorEq,decide_true,decide_false,frTs,frT,frL_p,spS,ofPT_a,ofPT_g,ofPT_t,flat_i,flat_b,flat_s,flat_l,flat_g,flatp_i,flatp_b,flatp_s,flatp_l,klTs,klT,Bool.and_false,Bool.false_and,frL,frA_p,frA_nil,frA_own,ownT,intT,Bool.or_true,Bool.true_or,Bool.false_eq_true,frL_p,klL_p,ownT_p,O.adds,List.all_cons,List.all_nil,List.any_cons,List.any_nil,ownA,evO.bslRows,List.replicate_succ,List.replicate_zero,List.set_cons_zero,rowsA,over,List.cons_append,List.nil_append,List.append_nil,fillA,Bool.and_self,Bool.and_true,Bool.true_and,Bool.or_self,Bool.or_false,Bool.false_or,Nat.reduceMul,Nat.one_mul,Nat.lt_add_one,klL,Nat.le_refl,ite_self,Nat.reduceBEq]
      · intro s hs; rw [if_neg]; rintro rfl; simp at hs
      · simp only [if_true,enc_len,hzd,List.append_nil]
    | own s2 o2 l2 =>
      have hs2 := hk s2 (by simp [keysA])
      have hsn : ¬ s2 = (31,c + 2) := by rintro rfl; simp at hs2; omega
      have hsn' : ¬ (31,c + 2) = s2 := fun h => hsn h.symm
      have hX' := hX
      simp only [frA_own] at hX'
      simp only [h31',rowK,Int.toNat_natCast,hlt,h0,hil,hri,hset,hzl,hzd,hX',hsn,hsn',hty,e1,e2,e3,e6,e7,e33,e34,e35,Nat.reduceLeDiff,ne_eq,not_false_eq_true,x_seq,x_reg,x_skip,x_exit,x_ret,x_block,x_if,wpC_t,wpC_f,wpI_cons,wpI_nil,wpX_some,evI_any,evI_rd,evI_ad,evI_g,evG_u,evG_b,evG_tt,evG_ff,evG_tf,evG_ft,evO,evR,ev_t,ev_c,ev_f,putD_some,putD_none,put_at,cellsT,ldCells,mkT,lenA,binPV,add_bs,add_clk,add_ls,put_bs,put_clk,put_ls,kill_bs,kill_clk,kill_ls,empty_clk,empty_bs,Env.init,seqQ_norm,seqQ_exit,seqQ_ret,blkQ_norm,blkQ_exit,blkQ_ret,loopQ_norm,loopQ_exit,loopQ_ret,retP_ret,retP_norm,retE_ret,retE_norm,retS_ret,retS_norm,wpO_some,frA_fn,klA_p,klA_nil,klA_own,resVs,resV,resT,Option.bind_some,Option.bind_none,Option.map_some,List.getD_cons_zero,List.getD_cons_succ,List.getD_nil,List.length_cons,List.length_nil,List.length_map,List.map_cons,List.map_nil,List.drop_zero,List.drop_succ_cons,List.take_succ_cons,List.take_zero,List.drop_nil,List.take_nil,Nat.reduceEqDiff,Nat.reduceAdd,Nat.reduceLeDiff,Nat.zero_add,Nat.add_zero,Prod.mk.injEq,and_true,true_and,and_false,false_and,and_self,if_true,if_false,ite_true,ite_false,Bool.not_true,Bool.not_false,Bool.not_eq_true',reduceCtorEq,decide_true,decide_false,frTs,frT,frL_p,spS,ofPT_a,ofPT_g,ofPT_t,flat_i,flat_b,flat_s,flat_l,flat_g,flatp_i,flatp_b,flatp_s,flatp_l,klTs,klT,Bool.and_false,Bool.false_and,frL,frA_p,frA_nil,frA_own,ownT,intT,Bool.or_true,Bool.true_or,Bool.false_eq_true,frL_p,klL_p,ownT_p,O.adds,List.all_cons,List.all_nil,List.any_cons,List.any_nil,ownA,evO.bslRows,List.replicate_succ,List.replicate_zero,List.set_cons_zero,rowsA,over,List.cons_append,List.nil_append,List.append_nil,fillA,Bool.and_self,Bool.and_true,Bool.true_and,Bool.or_self,Bool.or_false,Bool.false_or,Nat.reduceMul,Nat.one_mul,Nat.lt_add_one,klL,Nat.le_refl,ite_self,Nat.reduceBEq]
      refine fin _ _ ?_ ?_ ?_ ?_ ?_ ?_ ?_ ?_ ?_ ?_ ?_ ?_
      all_goals try simp only [e1,e2,e3,e6,e7,e33,e34,e35,h31',x_seq,x_reg,x_skip,x_exit,x_ret,x_block,x_if,wpC_t,wpC_f,wpI_cons,wpI_nil,wpX_some,evI_any,evI_rd,evI_ad,evI_g,evG_u,evG_b,evG_tt,evG_ff,evG_tf,evG_ft,evO,evR,ev_t,ev_c,ev_f,putD_some,putD_none,put_at,cellsT,ldCells,mkT,lenA,binPV,add_bs,add_clk,add_ls,put_bs,put_clk,put_ls,kill_bs,kill_clk,kill_ls,empty_clk,empty_bs,Env.init,seqQ_norm,seqQ_exit,seqQ_ret,blkQ_norm,blkQ_exit,blkQ_ret,loopQ_norm,loopQ_exit,loopQ_ret,retP_ret,retP_norm,retE_ret,retE_norm,retS_ret,retS_norm,wpO_some,frA_fn,klA_p,klA_nil,klA_own,resVs,resV,resT,Option.bind_some,Option.bind_none,Option.map_some,List.getD_cons_zero,List.getD_cons_succ,List.getD_nil,List.length_cons,List.length_nil,List.length_map,List.map_cons,List.map_nil,List.drop_zero,List.drop_succ_cons,List.take_succ_cons,List.take_zero,List.drop_nil,List.take_nil,Nat.reduceEqDiff,Nat.reduceAdd,Nat.reduceLeDiff,Nat.zero_add,Nat.add_zero,Prod.mk.injEq,and_true,true_and,and_false,false_and,and_self,if_true,if_false,ite_true,ite_false,Bool.not_true,Bool.not_false,Bool.not_eq_true',reduceCtorEq,decide_true,decide_false,frTs,frT,frL_p,spS,ofPT_a,ofPT_g,ofPT_t,flat_i,flat_b,flat_s,flat_l,flat_g,flatp_i,flatp_b,flatp_s,flatp_l,klTs,klT,Bool.and_false,Bool.false_and,frL,frA_p,frA_nil,frA_own,ownT,intT,Bool.or_true,Bool.true_or,Bool.false_eq_true,frL_p,klL_p,ownT_p,O.adds,List.all_cons,List.all_nil,List.any_cons,List.any_nil,ownA,evO.bslRows,List.replicate_succ,List.replicate_zero,List.set_cons_zero,rowsA,over,List.cons_append,List.nil_append,List.append_nil,fillA,Bool.and_self,Bool.and_true,Bool.true_and,Bool.or_self,Bool.or_false,Bool.false_or,Nat.reduceMul,Nat.one_mul,Nat.lt_add_one,klL,Nat.le_refl,ite_self,Nat.reduceBEq]
      · intro s hs; rw [if_neg (by rintro rfl; simp at hs),if_neg (by rintro rfl; omega)]
      · simp only [if_true,enc_len,hzd,List.append_nil]
    | nil =>
      simp only [frA,Option.some.injEq,PV.l.injEq] at hX
      rw [← hX] at hty
      simp only [h31',rowK,Int.toNat_natCast,hlt,h0,hil,hri,hset,hzl,hzd,hty,e1,e2,e3,e6,e7,e33,e34,e35,Nat.reduceLeDiff,x_seq,x_reg,x_skip,x_exit,x_ret,x_block,x_if,wpC_t,wpC_f,wpI_cons,wpI_nil,wpX_some,evI_any,evI_rd,evI_ad,evI_g,evG_u,evG_b,evG_tt,evG_ff,evG_tf,evG_ft,evO,evR,ev_t,ev_c,ev_f,putD_some,putD_none,put_at,cellsT,ldCells,mkT,lenA,binPV,add_bs,add_clk,add_ls,put_bs,put_clk,put_ls,kill_bs,kill_clk,kill_ls,empty_clk,empty_bs,Env.init,seqQ_norm,seqQ_exit,seqQ_ret,blkQ_norm,blkQ_exit,blkQ_ret,loopQ_norm,loopQ_exit,loopQ_ret,retP_ret,retP_norm,retE_ret,retE_norm,retS_ret,retS_norm,wpO_some,frA_fn,klA_p,klA_nil,klA_own,resVs,resV,resT,Option.bind_some,Option.bind_none,Option.map_some,List.getD_cons_zero,List.getD_cons_succ,List.getD_nil,List.length_cons,List.length_nil,List.length_map,List.map_cons,List.map_nil,List.drop_zero,List.drop_succ_cons,List.take_succ_cons,List.take_zero,List.drop_nil,List.take_nil,Nat.reduceEqDiff,Nat.reduceAdd,Nat.reduceLeDiff,Nat.zero_add,Nat.add_zero,Prod.mk.injEq,and_true,true_and,and_false,false_and,and_self,if_true,if_false,ite_true,ite_false,Bool.not_true,Bool.not_false,Bool.not_eq_true',reduceCtorEq,decide_true,decide_false,frTs,frT,frL_p,spS,ofPT_a,ofPT_g,ofPT_t,flat_i,flat_b,flat_s,flat_l,flat_g,flatp_i,flatp_b,flatp_s,flatp_l,klTs,klT,Bool.and_false,Bool.false_and,frL,frA_p,frA_nil,frA_own,ownT,intT,Bool.or_true,Bool.true_or,Bool.false_eq_true,frL_p,klL_p,ownT_p,O.adds,List.all_cons,List.all_nil,List.any_cons,List.any_nil,ownA,evO.bslRows,List.replicate_succ,List.replicate_zero,List.set_cons_zero,rowsA,over,List.cons_append,List.nil_append,List.append_nil,fillA,Bool.and_self,Bool.and_true,Bool.true_and,Bool.or_self,Bool.or_false,Bool.false_or,Nat.reduceMul,Nat.one_mul,Nat.lt_add_one,klL,Nat.le_refl,ite_self,Nat.reduceBEq]
      refine fin _ _ ?_ ?_ ?_ ?_ ?_ ?_ ?_ ?_ ?_ ?_ ?_ ?_
      all_goals try simp only [e1,e2,e3,e6,e7,e33,e34,e35,h31',x_seq,x_reg,x_skip,x_exit,x_ret,x_block,x_if,wpC_t,wpC_f,wpI_cons,wpI_nil,wpX_some,evI_any,evI_rd,evI_ad,evI_g,evG_u,evG_b,evG_tt,evG_ff,evG_tf,evG_ft,evO,evR,ev_t,ev_c,ev_f,putD_some,putD_none,put_at,cellsT,ldCells,mkT,lenA,binPV,add_bs,add_clk,add_ls,put_bs,put_clk,put_ls,kill_bs,kill_clk,kill_ls,empty_clk,empty_bs,Env.init,seqQ_norm,seqQ_exit,seqQ_ret,blkQ_norm,blkQ_exit,blkQ_ret,loopQ_norm,loopQ_exit,loopQ_ret,retP_ret,retP_norm,retE_ret,retE_norm,retS_ret,retS_norm,wpO_some,frA_fn,klA_p,klA_nil,klA_own,resVs,resV,resT,Option.bind_some,Option.bind_none,Option.map_some,List.getD_cons_zero,List.getD_cons_succ,List.getD_nil,List.length_cons,List.length_nil,List.length_map,List.map_cons,List.map_nil,List.drop_zero,List.drop_succ_cons,List.take_succ_cons,List.take_zero,List.drop_nil,List.take_nil,Nat.reduceEqDiff,Nat.reduceAdd,Nat.reduceLeDiff,Nat.zero_add,Nat.add_zero,Prod.mk.injEq,and_true,true_and,and_false,false_and,and_self,if_true,if_false,ite_true,ite_false,Bool.not_true,Bool.not_false,Bool.not_eq_true',reduceCtorEq,decide_true,decide_false,frTs,frT,frL_p,spS,ofPT_a,ofPT_g,ofPT_t,flat_i,flat_b,flat_s,flat_l,flat_g,flatp_i,flatp_b,flatp_s,flatp_l,klTs,klT,Bool.and_false,Bool.false_and,frL,frA_p,frA_nil,frA_own,ownT,intT,Bool.or_true,Bool.true_or,Bool.false_eq_true,frL_p,klL_p,ownT_p,O.adds,List.all_cons,List.all_nil,List.any_cons,List.any_nil,ownA,evO.bslRows,List.replicate_succ,List.replicate_zero,List.set_cons_zero,rowsA,over,List.cons_append,List.nil_append,List.append_nil,fillA,Bool.and_self,Bool.and_true,Bool.true_and,Bool.or_self,Bool.or_false,Bool.false_or,Nat.reduceMul,Nat.one_mul,Nat.lt_add_one,klL,Nat.le_refl,ite_self,Nat.reduceBEq]
      · intro s hs; rw [if_neg]; rintro rfl; simp at hs
      · simp only [if_true,enc_len,hzd,List.append_nil]
    | raw v =>
      cases v with
      | slice a0 n0 p0 =>
        cases n0 with
        | zero =>
          have hrw : ∀ τ : St,frA τ (.raw (.slice a0 0 p0)) = some (.l []) := fun _ => rfl
          have hkl : ∀ τ : St,klA τ (.raw (.slice a0 0 p0)) = τ := fun _ => rfl
          simp only [hrw,Option.some.injEq,PV.l.injEq] at hX
          rw [← hX] at hty
          simp only [h31',rowK,Int.toNat_natCast,hlt,h0,hil,hri,hset,hzl,hzd,hty,hrw,hkl,e1,e2,e3,e6,e7,e33,e34,e35,Nat.reduceLeDiff,x_seq,x_reg,x_skip,x_exit,x_ret,x_block,x_if,wpC_t,wpC_f,wpI_cons,wpI_nil,wpX_some,evI_any,evI_rd,evI_ad,evI_g,evG_u,evG_b,evG_tt,evG_ff,evG_tf,evG_ft,evO,evR,ev_t,ev_c,ev_f,putD_some,putD_none,put_at,cellsT,ldCells,mkT,lenA,binPV,add_bs,add_clk,add_ls,put_bs,put_clk,put_ls,kill_bs,kill_clk,kill_ls,empty_clk,empty_bs,Env.init,seqQ_norm,seqQ_exit,seqQ_ret,blkQ_norm,blkQ_exit,blkQ_ret,loopQ_norm,loopQ_exit,loopQ_ret,retP_ret,retP_norm,retE_ret,retE_norm,retS_ret,retS_norm,wpO_some,frA_fn,klA_p,klA_nil,klA_own,resVs,resV,resT,Option.bind_some,Option.bind_none,Option.map_some,List.getD_cons_zero,List.getD_cons_succ,List.getD_nil,List.length_cons,List.length_nil,List.length_map,List.map_cons,List.map_nil,List.drop_zero,List.drop_succ_cons,List.take_succ_cons,List.take_zero,List.drop_nil,List.take_nil,Nat.reduceEqDiff,Nat.reduceAdd,Nat.reduceLeDiff,Nat.zero_add,Nat.add_zero,Prod.mk.injEq,and_true,true_and,and_false,false_and,and_self,if_true,if_false,ite_true,ite_false,Bool.not_true,Bool.not_false,Bool.not_eq_true',reduceCtorEq,decide_true,decide_false,frTs,frT,frL_p,spS,ofPT_a,ofPT_g,ofPT_t,flat_i,flat_b,flat_s,flat_l,flat_g,flatp_i,flatp_b,flatp_s,flatp_l,klTs,klT,Bool.and_false,Bool.false_and,frL,frA_p,frA_nil,frA_own,ownT,intT,Bool.or_true,Bool.true_or,Bool.false_eq_true,frL_p,klL_p,ownT_p,O.adds,List.all_cons,List.all_nil,List.any_cons,List.any_nil,ownA,evO.bslRows,List.replicate_succ,List.replicate_zero,List.set_cons_zero,rowsA,over,List.cons_append,List.nil_append,List.append_nil,fillA,Bool.and_self,Bool.and_true,Bool.true_and,Bool.or_self,Bool.or_false,Bool.false_or,Nat.reduceMul,Nat.one_mul,Nat.lt_add_one,klL,Nat.le_refl,ite_self,Nat.reduceBEq]
          refine fin _ _ ?_ ?_ ?_ ?_ ?_ ?_ ?_ ?_ ?_ ?_ ?_ ?_
          all_goals try simp only [e1,e2,e3,e6,e7,e33,e34,e35,h31',x_seq,x_reg,x_skip,x_exit,x_ret,x_block,x_if,wpC_t,wpC_f,wpI_cons,wpI_nil,wpX_some,evI_any,evI_rd,evI_ad,evI_g,evG_u,evG_b,evG_tt,evG_ff,evG_tf,evG_ft,evO,evR,ev_t,ev_c,ev_f,putD_some,putD_none,put_at,cellsT,ldCells,mkT,lenA,binPV,add_bs,add_clk,add_ls,put_bs,put_clk,put_ls,kill_bs,kill_clk,kill_ls,empty_clk,empty_bs,Env.init,seqQ_norm,seqQ_exit,seqQ_ret,blkQ_norm,blkQ_exit,blkQ_ret,loopQ_norm,loopQ_exit,loopQ_ret,retP_ret,retP_norm,retE_ret,retE_norm,retS_ret,retS_norm,wpO_some,frA_fn,klA_p,klA_nil,klA_own,resVs,resV,resT,Option.bind_some,Option.bind_none,Option.map_some,List.getD_cons_zero,List.getD_cons_succ,List.getD_nil,List.length_cons,List.length_nil,List.length_map,List.map_cons,List.map_nil,List.drop_zero,List.drop_succ_cons,List.take_succ_cons,List.take_zero,List.drop_nil,List.take_nil,Nat.reduceEqDiff,Nat.reduceAdd,Nat.reduceLeDiff,Nat.zero_add,Nat.add_zero,Prod.mk.injEq,and_true,true_and,and_false,false_and,and_self,if_true,if_false,ite_true,ite_false,Bool.not_true,Bool.not_false,Bool.not_eq_true',reduceCtorEq,decide_true,decide_false,frTs,frT,frL_p,spS,ofPT_a,ofPT_g,ofPT_t,flat_i,flat_b,flat_s,flat_l,flat_g,flatp_i,flatp_b,flatp_s,flatp_l,klTs,klT,Bool.and_false,Bool.false_and,frL,frA_p,frA_nil,frA_own,ownT,intT,Bool.or_true,Bool.true_or,Bool.false_eq_true,frL_p,klL_p,ownT_p,O.adds,List.all_cons,List.all_nil,List.any_cons,List.any_nil,ownA,evO.bslRows,List.replicate_succ,List.replicate_zero,List.set_cons_zero,rowsA,over,List.cons_append,List.nil_append,List.append_nil,fillA,Bool.and_self,Bool.and_true,Bool.true_and,Bool.or_self,Bool.or_false,Bool.false_or,Nat.reduceMul,Nat.one_mul,Nat.lt_add_one,klL,Nat.le_refl,ite_self,Nat.reduceBEq]
          · intro s hs; rw [if_neg]; rintro rfl; simp at hs
          · simp only [if_true,enc_len,hzd,List.append_nil]
        | succ n0 => simp [frA,rawE] at hX
      | _ => simp [frA,rawE] at hX
    | _ => simp [frA] at hX
theorem turn_ok (hC : Clo step c0 g caps R) {t : T} (ht : T.Ok t) : TurnOk step c0 g caps R t := by
  induction ht with
  | mk k n s l hk hn hs hl h ih =>
    intro a b σ hR hc
    obtain ⟨c1,cr,hcaps⟩ : ∃ c1 cr,caps = c1 :: cr := by
      cases hcc : caps with
      | nil => exact absurd hcc hC.ne
      | cons c1 cr => exact ⟨c1,cr,rfl⟩
    have hne : ∀ s : Key,s.2 < σ.clk → ∀ d k,¬ s = (d,σ.clk + k) := by rintro s hs d k rfl; simp at hs; omega
    have hne0 : ∀ s : Key,s.2 < σ.clk → ∀ d,¬ s = (d,σ.clk) := by rintro s hs d rfl; simp at hs
    refine x_fnS (fc := F51) rfl rfl ?_
    simp only [F51,enc,encL_map,turn,x_seq,x_reg,x_skip,x_exit,x_ret,x_block,x_if,wpC_t,wpC_f,wpI_cons,wpI_nil,wpX_some,evI_any,evI_rd,evI_ad,evI_g,evG_u,evG_b,evG_tt,evG_ff,evG_tf,evG_ft,evO,evR,ev_t,ev_c,ev_f,putD_some,putD_none,put_at,cellsT,ldCells,mkT,lenA,binPV,add_bs,add_clk,add_ls,put_bs,put_clk,put_ls,kill_bs,kill_clk,kill_ls,empty_clk,empty_bs,Env.init,seqQ_norm,seqQ_exit,seqQ_ret,blkQ_norm,blkQ_exit,blkQ_ret,loopQ_norm,loopQ_exit,loopQ_ret,retP_ret,retP_norm,retE_ret,retE_norm,retS_ret,retS_norm,wpO_some,frA_fn,klA_p,klA_nil,klA_own,resVs,resV,resT,Option.bind_some,Option.bind_none,Option.map_some,List.getD_cons_zero,List.getD_cons_succ,List.getD_nil,List.length_cons,List.length_nil,List.length_map,List.map_cons,List.map_nil,List.drop_zero,List.drop_succ_cons,List.take_succ_cons,List.take_zero,List.drop_nil,List.take_nil,Nat.reduceEqDiff,Nat.reduceAdd,Nat.reduceLeDiff,Nat.zero_add,Nat.add_zero,Prod.mk.injEq,and_true,true_and,and_false,false_and,and_self,if_true,if_false,ite_true,ite_false,Bool.not_true,Bool.not_false,Bool.not_eq_true',reduceCtorEq,decide_true,decide_false,frTs,frT,frL_p,spS,ofPT_a,ofPT_g,ofPT_t,flat_i,flat_b,flat_s,flat_l,flat_g,flatp_i,flatp_b,flatp_s,flatp_l,klTs,klT,Bool.and_false,Bool.false_and,frL,frA_p,frA_nil,frA_own,ownT,intT,Bool.or_true,Bool.true_or,Bool.false_eq_true,frL_p,klL_p,ownT_p,O.adds,List.all_cons,List.all_nil,List.any_cons,List.any_nil,ownA,evO.bslRows,List.replicate_succ,List.replicate_zero,List.set_cons_zero,rowsA,over,List.cons_append,List.nil_append,List.append_nil,fillA,Bool.and_self,Bool.and_true,Bool.true_and,Bool.or_self,Bool.or_false,Bool.false_or,Nat.reduceMul,Nat.one_mul,Nat.lt_add_one,klL,Nat.le_refl,ite_self,Nat.reduceBEq]
    refine wpC_split (fun h1 => ?_) (fun h1 => ?_)
    · have hk1 : k = 1 := by simpa using h1
      have hst : ∀ (s' : Key),s'.2 < c0 → ((σ.add 3 (.var [.p (.i .i64 k),.p (.i .i64 n),.p (.s s),.p (.l (l.map enc))])).add 6 (.var [.p (.i .i64 0),.p (.i .i64 0),.p (.s []),.nil])).bs s' = σ.bs s' := by
        intro s' hs'
        simp only [add_bs,add_clk,hne s' (by omega),hne0 s' (by omega),if_false]
      obtain ⟨tv,σ2,hcall,⟨X,rfl,hX,hkk⟩,hR2,hG1,hG2,hG3⟩ := hC.call a (.mk k n s l) b _ hk1 (.mk k n s l hk hn hs hl h) (hC.stable a σ _ hR hst) (by simp only [add_clk]; omega)
      simp only [hcaps,enc,encL_map,List.map_cons,List.map_nil,List.cons_append,List.nil_append] at hcall
      have h6 := hG3 (6,σ.clk + 1) (by simp; omega) (by simp [add_clk])
      simp only [x_seq,x_reg,x_skip,x_exit,x_ret,x_block,x_if,wpC_t,wpC_f,wpI_cons,wpI_nil,wpX_some,evI_any,evI_rd,evI_ad,evI_g,evG_u,evG_b,evG_tt,evG_ff,evG_tf,evG_ft,evO,evR,ev_t,ev_c,ev_f,putD_some,putD_none,put_at,cellsT,ldCells,mkT,lenA,binPV,add_bs,add_clk,add_ls,put_bs,put_clk,put_ls,kill_bs,kill_clk,kill_ls,empty_clk,empty_bs,Env.init,seqQ_norm,seqQ_exit,seqQ_ret,blkQ_norm,blkQ_exit,blkQ_ret,loopQ_norm,loopQ_exit,loopQ_ret,retP_ret,retP_norm,retE_ret,retE_norm,retS_ret,retS_norm,wpO_some,frA_fn,klA_p,klA_nil,klA_own,resVs,resV,resT,Option.bind_some,Option.bind_none,Option.map_some,List.getD_cons_zero,List.getD_cons_succ,List.getD_nil,List.length_cons,List.length_nil,List.length_map,List.map_cons,List.map_nil,List.drop_zero,List.drop_succ_cons,List.take_succ_cons,List.take_zero,List.drop_nil,List.take_nil,Nat.reduceEqDiff,Nat.reduceAdd,Nat.reduceLeDiff,Nat.zero_add,Nat.add_zero,Prod.mk.injEq,and_true,true_and,and_false,false_and,and_self,if_true,if_false,ite_true,ite_false,Bool.not_true,Bool.not_false,Bool.not_eq_true',reduceCtorEq,decide_true,decide_false,frTs,frT,frL_p,spS,ofPT_a,ofPT_g,ofPT_t,flat_i,flat_b,flat_s,flat_l,flat_g,flatp_i,flatp_b,flatp_s,flatp_l,klTs,klT,Bool.and_false,Bool.false_and,frL,frA_p,frA_nil,frA_own,ownT,intT,Bool.or_true,Bool.true_or,Bool.false_eq_true,frL_p,klL_p,ownT_p,O.adds,List.all_cons,List.all_nil,List.any_cons,List.any_nil,ownA,evO.bslRows,List.replicate_succ,List.replicate_zero,List.set_cons_zero,rowsA,over,List.cons_append,List.nil_append,List.append_nil,fillA,Bool.and_self,Bool.and_true,Bool.true_and,Bool.or_self,Bool.or_false,Bool.false_or,Nat.reduceMul,Nat.one_mul,Nat.lt_add_one,klL,Nat.le_refl,ite_self,Nat.reduceBEq] at h6 hG1 hG2 hkk
      simp only [h1,hcaps,hcall,h6,x_seq,x_reg,x_skip,x_exit,x_ret,x_block,x_if,wpC_t,wpC_f,wpI_cons,wpI_nil,wpX_some,evI_any,evI_rd,evI_ad,evI_g,evG_u,evG_b,evG_tt,evG_ff,evG_tf,evG_ft,evO,evR,ev_t,ev_c,ev_f,putD_some,putD_none,put_at,cellsT,ldCells,mkT,lenA,binPV,add_bs,add_clk,add_ls,put_bs,put_clk,put_ls,kill_bs,kill_clk,kill_ls,empty_clk,empty_bs,Env.init,seqQ_norm,seqQ_exit,seqQ_ret,blkQ_norm,blkQ_exit,blkQ_ret,loopQ_norm,loopQ_exit,loopQ_ret,retP_ret,retP_norm,retE_ret,retE_norm,retS_ret,retS_norm,wpO_some,frA_fn,klA_p,klA_nil,klA_own,resVs,resV,resT,Option.bind_some,Option.bind_none,Option.map_some,List.getD_cons_zero,List.getD_cons_succ,List.getD_nil,List.length_cons,List.length_nil,List.length_map,List.map_cons,List.map_nil,List.drop_zero,List.drop_succ_cons,List.take_succ_cons,List.take_zero,List.drop_nil,List.take_nil,Nat.reduceEqDiff,Nat.reduceAdd,Nat.reduceLeDiff,Nat.zero_add,Nat.add_zero,Prod.mk.injEq,and_true,true_and,and_false,false_and,and_self,if_true,if_false,ite_true,ite_false,Bool.not_true,Bool.not_false,Bool.not_eq_true',reduceCtorEq,decide_true,decide_false,frTs,frT,frL_p,spS,ofPT_a,ofPT_g,ofPT_t,flat_i,flat_b,flat_s,flat_l,flat_g,flatp_i,flatp_b,flatp_s,flatp_l,klTs,klT,Bool.and_false,Bool.false_and,frL,frA_p,frA_nil,frA_own,ownT,intT,Bool.or_true,Bool.true_or,Bool.false_eq_true,frL_p,klL_p,ownT_p,O.adds,List.all_cons,List.all_nil,List.any_cons,List.any_nil,ownA,evO.bslRows,List.replicate_succ,List.replicate_zero,List.set_cons_zero,rowsA,over,List.cons_append,List.nil_append,List.append_nil,fillA,Bool.and_self,Bool.and_true,Bool.true_and,Bool.or_self,Bool.or_false,Bool.false_or,Nat.reduceMul,Nat.one_mul,Nat.lt_add_one,klL,Nat.le_refl,ite_self,Nat.reduceBEq]
      rw [if_pos hk1]
      refine ⟨⟨X,rfl,by rw [frA_put_var h6]; exact hX,fun s' hs' => ?_⟩,hC.stable _ σ2 _ hR2 fun s' hs' => ?_,?_,?_,fun s' hs1 hs2 => ?_⟩
      · have := hkk s' hs'; simp only [put_clk]; omega
      · rw [put_bs,if_neg (hne s' (by omega) 6 1)]
      · simp only [put_clk]; omega
      · simp only [put_ls]; exact hG2
      · rw [put_bs,if_neg (hne s' hs2 6 1),hG3 s' hs1 (by simp only [add_clk]; omega)]
        simp only [add_bs,add_clk,hne s' hs2,hne0 s' hs2,if_false]
    · have hk1 : ¬ k = 1 := by simpa using h1
      have hi0 : (0 : Int) ≤ (l.length : Int) := by omega
      have hi2 : (l.length : Int) * ((56 : Nat) : Int) ≤ 140737488355328 := by simp only [reachBytes] at hl; omega
      have hz : [PV.i .i64 0,PV.i .i64 0,PV.s [],PV.l []] = zrow := rfl
      rw [if_neg hk1]
      have hst : ∀ (s' : Key),s'.2 < σ.clk → (((σ.add 3 (.var [.p (.i .i64 k),.p (.i .i64 n),.p (.s s),.p (.l (l.map enc))])).add 6 (.var [.p (.i .i64 0),.p (.i .i64 0),.p (.s []),.nil])).add 31 (.row 4 24 (List.replicate l.length zrow))).bs s' = σ.bs s' := by
        intro s' hs'
        simp only [add_bs,add_clk,hne s' hs',hne0 s' hs',Nat.add_assoc,if_false]
      have fin : ∀ (b' : Int) (e' : Env) (σ' : St),e' 3 = .a (.ptr (3,σ.clk) 0 0) → e' 6 = .a (.ptr (6,σ.clk + 1) 0 0) → e' 7 = .a (.own (31,σ.clk + 2) 0 l.length) → σ.clk + 3 ≤ σ'.clk → σ'.ls = σ.ls →
          (∀ s' : Key,c0 ≤ s'.2 → s'.2 < σ.clk → σ'.bs s' = σ.bs s') → σ'.bs (3,σ.clk) = some (.var [.p (.i .i64 k),.p (.i .i64 n),.p (.s s),.p (.l (l.map enc))]) → σ'.bs (6,σ.clk + 1) = some (.var [.p (.i .i64 0),.p (.i .i64 0),.p (.s []),.nil]) →
          σ'.bs (31,σ.clk + 2) = some (.row 4 24 ((turnL step l b' a).1.map enc)) → R (turnL step l b' a).2 σ' →
          wp S false (.seq (.reg [⟨(.some 48),.none,(.mv (.t 7)),.any⟩,⟨(.some 49),.none,(.fad 3 (.t 3)),.any⟩,⟨.none,.none,(.st 1 (.t 49) (.t 48)),.any⟩]) (.seq (.reg [⟨(.some 50),.none,(.ld 4 true (.t 3)),.any⟩,⟨.none,.none,(.st 4 (.t 6) (.t 50)),.any⟩]) .ret)) e' σ'
            (RetS [Rs.cell 6 4 true] fun tv σ' => TermV σ.clk σ' (T.mk k n s (turnL step l b' a).1) tv ∧ R (turnL step l b' a).2 σ' ∧ Grow c0 σ σ') := by
        intro b' e' σ' f3 f6 f7 g1 g2 g3 g4 g5 g6 g7
        have hll : (turnL step l b' a).1.length = l.length := turnL_len step l b' a
        simp only [f3,f6,f7,g4,g5,x_seq,x_reg,x_skip,x_exit,x_ret,x_block,x_if,wpC_t,wpC_f,wpI_cons,wpI_nil,wpX_some,evI_any,evI_rd,evI_ad,evI_g,evG_u,evG_b,evG_tt,evG_ff,evG_tf,evG_ft,evO,evR,ev_t,ev_c,ev_f,putD_some,putD_none,put_at,cellsT,ldCells,mkT,lenA,binPV,add_bs,add_clk,add_ls,put_bs,put_clk,put_ls,kill_bs,kill_clk,kill_ls,empty_clk,empty_bs,Env.init,seqQ_norm,seqQ_exit,seqQ_ret,blkQ_norm,blkQ_exit,blkQ_ret,loopQ_norm,loopQ_exit,loopQ_ret,retP_ret,retP_norm,retE_ret,retE_norm,retS_ret,retS_norm,wpO_some,frA_fn,klA_p,klA_nil,klA_own,resVs,resV,resT,Option.bind_some,Option.bind_none,Option.map_some,List.getD_cons_zero,List.getD_cons_succ,List.getD_nil,List.length_cons,List.length_nil,List.length_map,List.map_cons,List.map_nil,List.drop_zero,List.drop_succ_cons,List.take_succ_cons,List.take_zero,List.drop_nil,List.take_nil,Nat.reduceEqDiff,Nat.reduceAdd,Nat.reduceLeDiff,Nat.zero_add,Nat.add_zero,Prod.mk.injEq,and_true,true_and,and_false,false_and,and_self,if_true,if_false,ite_true,ite_false,Bool.not_true,Bool.not_false,Bool.not_eq_true',reduceCtorEq,decide_true,decide_false,frTs,frT,frL_p,spS,ofPT_a,ofPT_g,ofPT_t,flat_i,flat_b,flat_s,flat_l,flat_g,flatp_i,flatp_b,flatp_s,flatp_l,klTs,klT,Bool.and_false,Bool.false_and,frL,frA_p,frA_nil,frA_own,ownT,intT,Bool.or_true,Bool.true_or,Bool.false_eq_true,frL_p,klL_p,ownT_p,O.adds,List.all_cons,List.all_nil,List.any_cons,List.any_nil,ownA,evO.bslRows,List.replicate_succ,List.replicate_zero,List.set_cons_zero,rowsA,over,List.cons_append,List.nil_append,List.append_nil,fillA,Bool.and_self,Bool.and_true,Bool.true_and,Bool.or_self,Bool.or_false,Bool.false_or,Nat.reduceMul,Nat.one_mul,Nat.lt_add_one,klL,Nat.le_refl,ite_self,Nat.reduceBEq]
        refine ⟨⟨.own (31,σ.clk + 2) 0 l.length,rfl,?_,fun s' hs' => ?_⟩,hC.stable _ σ' _ g7 fun s' hs' => ?_,?_,?_,fun s' hs1 hs2 => ?_⟩
        · simp only [g6,x_seq,x_reg,x_skip,x_exit,x_ret,x_block,x_if,wpC_t,wpC_f,wpI_cons,wpI_nil,wpX_some,evI_any,evI_rd,evI_ad,evI_g,evG_u,evG_b,evG_tt,evG_ff,evG_tf,evG_ft,evO,evR,ev_t,ev_c,ev_f,putD_some,putD_none,put_at,cellsT,ldCells,mkT,lenA,binPV,add_bs,add_clk,add_ls,put_bs,put_clk,put_ls,kill_bs,kill_clk,kill_ls,empty_clk,empty_bs,Env.init,seqQ_norm,seqQ_exit,seqQ_ret,blkQ_norm,blkQ_exit,blkQ_ret,loopQ_norm,loopQ_exit,loopQ_ret,retP_ret,retP_norm,retE_ret,retE_norm,retS_ret,retS_norm,wpO_some,frA_fn,klA_p,klA_nil,klA_own,resVs,resV,resT,Option.bind_some,Option.bind_none,Option.map_some,List.getD_cons_zero,List.getD_cons_succ,List.getD_nil,List.length_cons,List.length_nil,List.length_map,List.map_cons,List.map_nil,List.drop_zero,List.drop_succ_cons,List.take_succ_cons,List.take_zero,List.drop_nil,List.take_nil,Nat.reduceEqDiff,Nat.reduceAdd,Nat.reduceLeDiff,Nat.zero_add,Nat.add_zero,Prod.mk.injEq,and_true,true_and,and_false,false_and,and_self,if_true,if_false,ite_true,ite_false,Bool.not_true,Bool.not_false,Bool.not_eq_true',reduceCtorEq,decide_true,decide_false,frTs,frT,frL_p,spS,ofPT_a,ofPT_g,ofPT_t,flat_i,flat_b,flat_s,flat_l,flat_g,flatp_i,flatp_b,flatp_s,flatp_l,klTs,klT,Bool.and_false,Bool.false_and,frL,frA_p,frA_nil,frA_own,ownT,intT,Bool.or_true,Bool.true_or,Bool.false_eq_true,frL_p,klL_p,ownT_p,O.adds,List.all_cons,List.all_nil,List.any_cons,List.any_nil,ownA,evO.bslRows,List.replicate_succ,List.replicate_zero,List.set_cons_zero,rowsA,over,List.cons_append,List.nil_append,List.append_nil,fillA,Bool.and_self,Bool.and_true,Bool.true_and,Bool.or_self,Bool.or_false,Bool.false_or,Nat.reduceMul,Nat.one_mul,Nat.lt_add_one,klL,Nat.le_refl,ite_self,Nat.reduceBEq]
          simp [T.l,hll,List.take_of_length_le]
        · simp only [keysA,List.mem_singleton] at hs'
          subst hs'
          simp only [put_clk]; omega
        · simp only [put_bs,hne s' (by omega),hne0 s' (by omega),if_false]
        · simp only [put_clk]; omega
        · simp only [put_ls]; exact g2
        · simp only [put_bs,hne s' hs2,hne0 s' hs2,if_false]; exact g3 s' hs1 hs2
      have go : ∀ (b' : Int) (e : Env),e 1 = .a (.p (.i .i64 b')) → e 2 = .a (.fn g caps) → e 3 = .a (.ptr (3,σ.clk) 0 0) → e 6 = .a (.ptr (6,σ.clk + 1) 0 0) → e 7 = .a (.own (31,σ.clk + 2) 0 l.length) → e 33 = .a (.p (.l (l.map enc))) → e 34 = .a (.p (.i .i64 l.length)) →
          e 35 = .a (.p (.i .i64 (0 : Int))) → wp S false (.loop F51b0) e (((σ.add 3 (.var [.p (.i .i64 k),.p (.i .i64 n),.p (.s s),.p (.l (l.map enc))])).add 6 (.var [.p (.i .i64 0),.p (.i .i64 0),.p (.s []),.nil])).add 31 (.row 4 24 (List.replicate l.length zrow)))
            (blkQ 1 (seqQ S false (.seq (.reg [⟨(.some 48),.none,(.mv (.t 7)),.any⟩,⟨(.some 49),.none,(.fad 3 (.t 3)),.any⟩,⟨.none,.none,(.st 1 (.t 49) (.t 48)),.any⟩]) (.seq (.reg [⟨(.some 50),.none,(.ld 4 true (.t 3)),.any⟩,⟨.none,.none,(.st 4 (.t 6) (.t 50)),.any⟩]) .ret))
              (RetS [Rs.cell 6 4 true] fun tv σ' => TermV σ.clk σ' (T.mk k n s (turnL step l b' a).1) tv ∧ R (turnL step l b' a).2 σ' ∧ Grow c0 σ σ'))) := by
        intro b' e e1 e2 e3 e6 e7 e33 e34 e35
        refine loop51 hC (.mk k n s l) b' σ.clk hc hl _ l 0 [] a e _ rfl (by simp [T.l]) rfl (fun u hu => ⟨h u hu,ih u hu⟩) e1 e2 e3 e6 e7 e33 e34 e35 ?_ ?_ ?_ ?_ (hC.stable a σ _ hR fun s' hs' => hst s' (by omega)) ?_
        · simp only [add_clk]; omega
        · simp [add_bs,add_clk,T.k,T.n,T.s,T.l]
        · simp [add_bs,add_clk]
        · simp [add_bs,add_clk]
        · intro e' σ' q3 q6 q7 q8 q9 q10 q11 q12
          simp only [blkQ_exit,if_true,seqQ_norm]
          simp only [add_clk] at q8
          refine fin b' e' σ' q3 q6 q7 (by omega) (by rw [q9]; rfl) (fun s' hs1 hs2 => by rw [q10 s' hs1 (by omega),hst s' hs2]) ?_ ?_ (by simpa using q11) q12
          · rw [q10 _ (by simpa using hc) (by simp)]; simp [add_bs,add_clk]
          · rw [q10 _ (by simp; omega) (by simp)]; simp [add_bs,add_clk]
      simp only [h1,x_seq,x_reg,x_skip,x_exit,x_ret,x_block,x_if,wpC_t,wpC_f,wpI_cons,wpI_nil,wpX_some,evI_any,evI_rd,evI_ad,evI_g,evG_u,evG_b,evG_tt,evG_ff,evG_tf,evG_ft,evO,evR,ev_t,ev_c,ev_f,putD_some,putD_none,put_at,cellsT,ldCells,mkT,lenA,binPV,add_bs,add_clk,add_ls,put_bs,put_clk,put_ls,kill_bs,kill_clk,kill_ls,empty_clk,empty_bs,Env.init,seqQ_norm,seqQ_exit,seqQ_ret,blkQ_norm,blkQ_exit,blkQ_ret,loopQ_norm,loopQ_exit,loopQ_ret,retP_ret,retP_norm,retE_ret,retE_norm,retS_ret,retS_norm,wpO_some,frA_fn,klA_p,klA_nil,klA_own,resVs,resV,resT,Option.bind_some,Option.bind_none,Option.map_some,List.getD_cons_zero,List.getD_cons_succ,List.getD_nil,List.length_cons,List.length_nil,List.length_map,List.map_cons,List.map_nil,List.drop_zero,List.drop_succ_cons,List.take_succ_cons,List.take_zero,List.drop_nil,List.take_nil,Nat.reduceEqDiff,Nat.reduceAdd,Nat.reduceLeDiff,Nat.zero_add,Nat.add_zero,Prod.mk.injEq,and_true,true_and,and_false,false_and,and_self,if_true,if_false,ite_true,ite_false,Bool.not_true,Bool.not_false,Bool.not_eq_true',reduceCtorEq,decide_true,decide_false,frTs,frT,frL_p,spS,ofPT_a,ofPT_g,ofPT_t,flat_i,flat_b,flat_s,flat_l,flat_g,flatp_i,flatp_b,flatp_s,flatp_l,klTs,klT,Bool.and_false,Bool.false_and,frL,frA_p,frA_nil,frA_own,ownT,intT,Bool.or_true,Bool.true_or,Bool.false_eq_true,frL_p,klL_p,ownT_p,O.adds,List.all_cons,List.all_nil,List.any_cons,List.any_nil,ownA,evO.bslRows,List.replicate_succ,List.replicate_zero,List.set_cons_zero,rowsA,over,List.cons_append,List.nil_append,List.append_nil,fillA,Bool.and_self,Bool.and_true,Bool.true_and,Bool.or_self,Bool.or_false,Bool.false_or,Nat.reduceMul,Nat.one_mul,Nat.lt_add_one,klL,Nat.le_refl,ite_self,Nat.reduceBEq]
      refine wpC_split (fun h2 => ?_) (fun h2 => ?_)
      · have hk2 : k = 2 := by simpa using h2
        simp only [if_pos hk2]
        simp only [h1,h2,hi0,hi2,hz,Int.le_refl,Int.toNat_natCast,x_seq,x_reg,x_skip,x_exit,x_ret,x_block,x_if,wpC_t,wpC_f,wpI_cons,wpI_nil,wpX_some,evI_any,evI_rd,evI_ad,evI_g,evG_u,evG_b,evG_tt,evG_ff,evG_tf,evG_ft,evO,evR,ev_t,ev_c,ev_f,putD_some,putD_none,put_at,cellsT,ldCells,mkT,lenA,binPV,add_bs,add_clk,add_ls,put_bs,put_clk,put_ls,kill_bs,kill_clk,kill_ls,empty_clk,empty_bs,Env.init,seqQ_norm,seqQ_exit,seqQ_ret,blkQ_norm,blkQ_exit,blkQ_ret,loopQ_norm,loopQ_exit,loopQ_ret,retP_ret,retP_norm,retE_ret,retE_norm,retS_ret,retS_norm,wpO_some,frA_fn,klA_p,klA_nil,klA_own,resVs,resV,resT,Option.bind_some,Option.bind_none,Option.map_some,List.getD_cons_zero,List.getD_cons_succ,List.getD_nil,List.length_cons,List.length_nil,List.length_map,List.map_cons,List.map_nil,List.drop_zero,List.drop_succ_cons,List.take_succ_cons,List.take_zero,List.drop_nil,List.take_nil,Nat.reduceEqDiff,Nat.reduceAdd,Nat.reduceLeDiff,Nat.zero_add,Nat.add_zero,Prod.mk.injEq,and_true,true_and,and_false,false_and,and_self,if_true,if_false,ite_true,ite_false,Bool.not_true,Bool.not_false,Bool.not_eq_true',reduceCtorEq,decide_true,decide_false,frTs,frT,frL_p,spS,ofPT_a,ofPT_g,ofPT_t,flat_i,flat_b,flat_s,flat_l,flat_g,flatp_i,flatp_b,flatp_s,flatp_l,klTs,klT,Bool.and_false,Bool.false_and,frL,frA_p,frA_nil,frA_own,ownT,intT,Bool.or_true,Bool.true_or,Bool.false_eq_true,frL_p,klL_p,ownT_p,O.adds,List.all_cons,List.all_nil,List.any_cons,List.any_nil,ownA,evO.bslRows,List.replicate_succ,List.replicate_zero,List.set_cons_zero,rowsA,over,List.cons_append,List.nil_append,List.append_nil,fillA,Bool.and_self,Bool.and_true,Bool.true_and,Bool.or_self,Bool.or_false,Bool.false_or,Nat.reduceMul,Nat.one_mul,Nat.lt_add_one,klL,Nat.le_refl,ite_self,Nat.reduceBEq]
        refine go _ _ ?_ ?_ ?_ ?_ ?_ ?_ ?_ ?_
        all_goals simp only [x_seq,x_reg,x_skip,x_exit,x_ret,x_block,x_if,wpC_t,wpC_f,wpI_cons,wpI_nil,wpX_some,evI_any,evI_rd,evI_ad,evI_g,evG_u,evG_b,evG_tt,evG_ff,evG_tf,evG_ft,evO,evR,ev_t,ev_c,ev_f,putD_some,putD_none,put_at,cellsT,ldCells,mkT,lenA,binPV,add_bs,add_clk,add_ls,put_bs,put_clk,put_ls,kill_bs,kill_clk,kill_ls,empty_clk,empty_bs,Env.init,seqQ_norm,seqQ_exit,seqQ_ret,blkQ_norm,blkQ_exit,blkQ_ret,loopQ_norm,loopQ_exit,loopQ_ret,retP_ret,retP_norm,retE_ret,retE_norm,retS_ret,retS_norm,wpO_some,frA_fn,klA_p,klA_nil,klA_own,resVs,resV,resT,Option.bind_some,Option.bind_none,Option.map_some,List.getD_cons_zero,List.getD_cons_succ,List.getD_nil,List.length_cons,List.length_nil,List.length_map,List.map_cons,List.map_nil,List.drop_zero,List.drop_succ_cons,List.take_succ_cons,List.take_zero,List.drop_nil,List.take_nil,Nat.reduceEqDiff,Nat.reduceAdd,Nat.reduceLeDiff,Nat.zero_add,Nat.add_zero,Prod.mk.injEq,and_true,true_and,and_false,false_and,and_self,if_true,if_false,ite_true,ite_false,Bool.not_true,Bool.not_false,Bool.not_eq_true',reduceCtorEq,decide_true,decide_false,frTs,frT,frL_p,spS,ofPT_a,ofPT_g,ofPT_t,flat_i,flat_b,flat_s,flat_l,flat_g,flatp_i,flatp_b,flatp_s,flatp_l,klTs,klT,Bool.and_false,Bool.false_and,frL,frA_p,frA_nil,frA_own,ownT,intT,Bool.or_true,Bool.true_or,Bool.false_eq_true,frL_p,klL_p,ownT_p,O.adds,List.all_cons,List.all_nil,List.any_cons,List.any_nil,ownA,evO.bslRows,List.replicate_succ,List.replicate_zero,List.set_cons_zero,rowsA,over,List.cons_append,List.nil_append,List.append_nil,fillA,Bool.and_self,Bool.and_true,Bool.true_and,Bool.or_self,Bool.or_false,Bool.false_or,Nat.reduceMul,Nat.one_mul,Nat.lt_add_one,klL,Nat.le_refl,ite_self,Nat.reduceBEq]
      · have hk2 : ¬ k = 2 := by simpa using h2
        simp only [if_neg hk2]
        simp only [h1,h2,hi0,hi2,hz,Int.le_refl,Int.toNat_natCast,x_seq,x_reg,x_skip,x_exit,x_ret,x_block,x_if,wpC_t,wpC_f,wpI_cons,wpI_nil,wpX_some,evI_any,evI_rd,evI_ad,evI_g,evG_u,evG_b,evG_tt,evG_ff,evG_tf,evG_ft,evO,evR,ev_t,ev_c,ev_f,putD_some,putD_none,put_at,cellsT,ldCells,mkT,lenA,binPV,add_bs,add_clk,add_ls,put_bs,put_clk,put_ls,kill_bs,kill_clk,kill_ls,empty_clk,empty_bs,Env.init,seqQ_norm,seqQ_exit,seqQ_ret,blkQ_norm,blkQ_exit,blkQ_ret,loopQ_norm,loopQ_exit,loopQ_ret,retP_ret,retP_norm,retE_ret,retE_norm,retS_ret,retS_norm,wpO_some,frA_fn,klA_p,klA_nil,klA_own,resVs,resV,resT,Option.bind_some,Option.bind_none,Option.map_some,List.getD_cons_zero,List.getD_cons_succ,List.getD_nil,List.length_cons,List.length_nil,List.length_map,List.map_cons,List.map_nil,List.drop_zero,List.drop_succ_cons,List.take_succ_cons,List.take_zero,List.drop_nil,List.take_nil,Nat.reduceEqDiff,Nat.reduceAdd,Nat.reduceLeDiff,Nat.zero_add,Nat.add_zero,Prod.mk.injEq,and_true,true_and,and_false,false_and,and_self,if_true,if_false,ite_true,ite_false,Bool.not_true,Bool.not_false,Bool.not_eq_true',reduceCtorEq,decide_true,decide_false,frTs,frT,frL_p,spS,ofPT_a,ofPT_g,ofPT_t,flat_i,flat_b,flat_s,flat_l,flat_g,flatp_i,flatp_b,flatp_s,flatp_l,klTs,klT,Bool.and_false,Bool.false_and,frL,frA_p,frA_nil,frA_own,ownT,intT,Bool.or_true,Bool.true_or,Bool.false_eq_true,frL_p,klL_p,ownT_p,O.adds,List.all_cons,List.all_nil,List.any_cons,List.any_nil,ownA,evO.bslRows,List.replicate_succ,List.replicate_zero,List.set_cons_zero,rowsA,over,List.cons_append,List.nil_append,List.append_nil,fillA,Bool.and_self,Bool.and_true,Bool.true_and,Bool.or_self,Bool.or_false,Bool.false_or,Nat.reduceMul,Nat.one_mul,Nat.lt_add_one,klL,Nat.le_refl,ite_self,Nat.reduceBEq]
        refine wpC_split (fun h3 => ?_) (fun h3 => ?_)
        · have hk3 : k = 6 := by simpa using h3
          simp only [if_pos hk3]
          simp only [h1,h2,h3,hi0,hi2,hz,Int.le_refl,Int.toNat_natCast,x_seq,x_reg,x_skip,x_exit,x_ret,x_block,x_if,wpC_t,wpC_f,wpI_cons,wpI_nil,wpX_some,evI_any,evI_rd,evI_ad,evI_g,evG_u,evG_b,evG_tt,evG_ff,evG_tf,evG_ft,evO,evR,ev_t,ev_c,ev_f,putD_some,putD_none,put_at,cellsT,ldCells,mkT,lenA,binPV,add_bs,add_clk,add_ls,put_bs,put_clk,put_ls,kill_bs,kill_clk,kill_ls,empty_clk,empty_bs,Env.init,seqQ_norm,seqQ_exit,seqQ_ret,blkQ_norm,blkQ_exit,blkQ_ret,loopQ_norm,loopQ_exit,loopQ_ret,retP_ret,retP_norm,retE_ret,retE_norm,retS_ret,retS_norm,wpO_some,frA_fn,klA_p,klA_nil,klA_own,resVs,resV,resT,Option.bind_some,Option.bind_none,Option.map_some,List.getD_cons_zero,List.getD_cons_succ,List.getD_nil,List.length_cons,List.length_nil,List.length_map,List.map_cons,List.map_nil,List.drop_zero,List.drop_succ_cons,List.take_succ_cons,List.take_zero,List.drop_nil,List.take_nil,Nat.reduceEqDiff,Nat.reduceAdd,Nat.reduceLeDiff,Nat.zero_add,Nat.add_zero,Prod.mk.injEq,and_true,true_and,and_false,false_and,and_self,if_true,if_false,ite_true,ite_false,Bool.not_true,Bool.not_false,Bool.not_eq_true',reduceCtorEq,decide_true,decide_false,frTs,frT,frL_p,spS,ofPT_a,ofPT_g,ofPT_t,flat_i,flat_b,flat_s,flat_l,flat_g,flatp_i,flatp_b,flatp_s,flatp_l,klTs,klT,Bool.and_false,Bool.false_and,frL,frA_p,frA_nil,frA_own,ownT,intT,Bool.or_true,Bool.true_or,Bool.false_eq_true,frL_p,klL_p,ownT_p,O.adds,List.all_cons,List.all_nil,List.any_cons,List.any_nil,ownA,evO.bslRows,List.replicate_succ,List.replicate_zero,List.set_cons_zero,rowsA,over,List.cons_append,List.nil_append,List.append_nil,fillA,Bool.and_self,Bool.and_true,Bool.true_and,Bool.or_self,Bool.or_false,Bool.false_or,Nat.reduceMul,Nat.one_mul,Nat.lt_add_one,klL,Nat.le_refl,ite_self,Nat.reduceBEq]
          refine go _ _ ?_ ?_ ?_ ?_ ?_ ?_ ?_ ?_
          all_goals simp only [x_seq,x_reg,x_skip,x_exit,x_ret,x_block,x_if,wpC_t,wpC_f,wpI_cons,wpI_nil,wpX_some,evI_any,evI_rd,evI_ad,evI_g,evG_u,evG_b,evG_tt,evG_ff,evG_tf,evG_ft,evO,evR,ev_t,ev_c,ev_f,putD_some,putD_none,put_at,cellsT,ldCells,mkT,lenA,binPV,add_bs,add_clk,add_ls,put_bs,put_clk,put_ls,kill_bs,kill_clk,kill_ls,empty_clk,empty_bs,Env.init,seqQ_norm,seqQ_exit,seqQ_ret,blkQ_norm,blkQ_exit,blkQ_ret,loopQ_norm,loopQ_exit,loopQ_ret,retP_ret,retP_norm,retE_ret,retE_norm,retS_ret,retS_norm,wpO_some,frA_fn,klA_p,klA_nil,klA_own,resVs,resV,resT,Option.bind_some,Option.bind_none,Option.map_some,List.getD_cons_zero,List.getD_cons_succ,List.getD_nil,List.length_cons,List.length_nil,List.length_map,List.map_cons,List.map_nil,List.drop_zero,List.drop_succ_cons,List.take_succ_cons,List.take_zero,List.drop_nil,List.take_nil,Nat.reduceEqDiff,Nat.reduceAdd,Nat.reduceLeDiff,Nat.zero_add,Nat.add_zero,Prod.mk.injEq,and_true,true_and,and_false,false_and,and_self,if_true,if_false,ite_true,ite_false,Bool.not_true,Bool.not_false,Bool.not_eq_true',reduceCtorEq,decide_true,decide_false,frTs,frT,frL_p,spS,ofPT_a,ofPT_g,ofPT_t,flat_i,flat_b,flat_s,flat_l,flat_g,flatp_i,flatp_b,flatp_s,flatp_l,klTs,klT,Bool.and_false,Bool.false_and,frL,frA_p,frA_nil,frA_own,ownT,intT,Bool.or_true,Bool.true_or,Bool.false_eq_true,frL_p,klL_p,ownT_p,O.adds,List.all_cons,List.all_nil,List.any_cons,List.any_nil,ownA,evO.bslRows,List.replicate_succ,List.replicate_zero,List.set_cons_zero,rowsA,over,List.cons_append,List.nil_append,List.append_nil,fillA,Bool.and_self,Bool.and_true,Bool.true_and,Bool.or_self,Bool.or_false,Bool.false_or,Nat.reduceMul,Nat.one_mul,Nat.lt_add_one,klL,Nat.le_refl,ite_self,Nat.reduceBEq]
        · have hk3 : ¬ k = 6 := by simpa using h3
          simp only [if_neg hk3]
          simp only [h1,h2,h3,hi0,hi2,hz,Int.le_refl,Int.toNat_natCast,x_seq,x_reg,x_skip,x_exit,x_ret,x_block,x_if,wpC_t,wpC_f,wpI_cons,wpI_nil,wpX_some,evI_any,evI_rd,evI_ad,evI_g,evG_u,evG_b,evG_tt,evG_ff,evG_tf,evG_ft,evO,evR,ev_t,ev_c,ev_f,putD_some,putD_none,put_at,cellsT,ldCells,mkT,lenA,binPV,add_bs,add_clk,add_ls,put_bs,put_clk,put_ls,kill_bs,kill_clk,kill_ls,empty_clk,empty_bs,Env.init,seqQ_norm,seqQ_exit,seqQ_ret,blkQ_norm,blkQ_exit,blkQ_ret,loopQ_norm,loopQ_exit,loopQ_ret,retP_ret,retP_norm,retE_ret,retE_norm,retS_ret,retS_norm,wpO_some,frA_fn,klA_p,klA_nil,klA_own,resVs,resV,resT,Option.bind_some,Option.bind_none,Option.map_some,List.getD_cons_zero,List.getD_cons_succ,List.getD_nil,List.length_cons,List.length_nil,List.length_map,List.map_cons,List.map_nil,List.drop_zero,List.drop_succ_cons,List.take_succ_cons,List.take_zero,List.drop_nil,List.take_nil,Nat.reduceEqDiff,Nat.reduceAdd,Nat.reduceLeDiff,Nat.zero_add,Nat.add_zero,Prod.mk.injEq,and_true,true_and,and_false,false_and,and_self,if_true,if_false,ite_true,ite_false,Bool.not_true,Bool.not_false,Bool.not_eq_true',reduceCtorEq,decide_true,decide_false,frTs,frT,frL_p,spS,ofPT_a,ofPT_g,ofPT_t,flat_i,flat_b,flat_s,flat_l,flat_g,flatp_i,flatp_b,flatp_s,flatp_l,klTs,klT,Bool.and_false,Bool.false_and,frL,frA_p,frA_nil,frA_own,ownT,intT,Bool.or_true,Bool.true_or,Bool.false_eq_true,frL_p,klL_p,ownT_p,O.adds,List.all_cons,List.all_nil,List.any_cons,List.any_nil,ownA,evO.bslRows,List.replicate_succ,List.replicate_zero,List.set_cons_zero,rowsA,over,List.cons_append,List.nil_append,List.append_nil,fillA,Bool.and_self,Bool.and_true,Bool.true_and,Bool.or_self,Bool.or_false,Bool.false_or,Nat.reduceMul,Nat.one_mul,Nat.lt_add_one,klL,Nat.le_refl,ite_self,Nat.reduceBEq]
          refine go _ _ ?_ ?_ ?_ ?_ ?_ ?_ ?_ ?_
          all_goals simp only [x_seq,x_reg,x_skip,x_exit,x_ret,x_block,x_if,wpC_t,wpC_f,wpI_cons,wpI_nil,wpX_some,evI_any,evI_rd,evI_ad,evI_g,evG_u,evG_b,evG_tt,evG_ff,evG_tf,evG_ft,evO,evR,ev_t,ev_c,ev_f,putD_some,putD_none,put_at,cellsT,ldCells,mkT,lenA,binPV,add_bs,add_clk,add_ls,put_bs,put_clk,put_ls,kill_bs,kill_clk,kill_ls,empty_clk,empty_bs,Env.init,seqQ_norm,seqQ_exit,seqQ_ret,blkQ_norm,blkQ_exit,blkQ_ret,loopQ_norm,loopQ_exit,loopQ_ret,retP_ret,retP_norm,retE_ret,retE_norm,retS_ret,retS_norm,wpO_some,frA_fn,klA_p,klA_nil,klA_own,resVs,resV,resT,Option.bind_some,Option.bind_none,Option.map_some,List.getD_cons_zero,List.getD_cons_succ,List.getD_nil,List.length_cons,List.length_nil,List.length_map,List.map_cons,List.map_nil,List.drop_zero,List.drop_succ_cons,List.take_succ_cons,List.take_zero,List.drop_nil,List.take_nil,Nat.reduceEqDiff,Nat.reduceAdd,Nat.reduceLeDiff,Nat.zero_add,Nat.add_zero,Prod.mk.injEq,and_true,true_and,and_false,false_and,and_self,if_true,if_false,ite_true,ite_false,Bool.not_true,Bool.not_false,Bool.not_eq_true',reduceCtorEq,decide_true,decide_false,frTs,frT,frL_p,spS,ofPT_a,ofPT_g,ofPT_t,flat_i,flat_b,flat_s,flat_l,flat_g,flatp_i,flatp_b,flatp_s,flatp_l,klTs,klT,Bool.and_false,Bool.false_and,frL,frA_p,frA_nil,frA_own,ownT,intT,Bool.or_true,Bool.true_or,Bool.false_eq_true,frL_p,klL_p,ownT_p,O.adds,List.all_cons,List.all_nil,List.any_cons,List.any_nil,ownA,evO.bslRows,List.replicate_succ,List.replicate_zero,List.set_cons_zero,rowsA,over,List.cons_append,List.nil_append,List.append_nil,fillA,Bool.and_self,Bool.and_true,Bool.true_and,Bool.or_self,Bool.or_false,Bool.false_or,Nat.reduceMul,Nat.one_mul,Nat.lt_add_one,klL,Nat.le_refl,ite_self,Nat.reduceBEq]
end
end Go.Proofs.Ytlgekplmbmkcmaa
end
section
set_option linter.unusedSimpArgs false
set_option linter.unusedVariables false
namespace Go.Proofs.Ytlgekplmbmkcmaa
open Go.Fx
theorem w_left (x y : Int) : w (w x + y) = w (x + y) := by simp only [w,IntKind.wrap_i64]; omega
theorem w_right (x y : Int) : w (x + w y) = w (x + y) := by simp only [w,IntKind.wrap_i64]; omega
theorem w_id (x : Int) (h : -9223372036854775808 ≤ x ∧ x ≤ 9223372036854775807) : w x = x := wrap_in x h
end Go.Proofs.Ytlgekplmbmkcmaa
end
section
set_option linter.unusedSimpArgs false
set_option linter.unusedVariables false
namespace Go.Proofs.Ytlgekplmbmkcmaa
open Go.Fx
mutual
def put (p : Int) (u : T) : T → Int → T
  | .mk k n s l,b => if k = 1 then (if n = w (p + b) then up b 0 u else if n > w (p + b) then .mk k (w (n - 1)) s l else .mk k n s l) else .mk k n s (putL p u l (w (b + T.more (.mk k n s l))))
def putL (p : Int) (u : T) : List T → Int → List T
  | [],_ => []
  | t :: r,b => put p u t b :: putL p u r b
end
theorem putL_map (p : Int) (u : T) (l : List T) (b : Int) : putL p u l b = l.map fun t => put p u t b := by
  induction l with
  | nil => rfl
  | cons t l ih => simp [putL,ih]
theorem enc_flat (t : T) : (enc t).all PV.flat = false := by rw [enc_eq]; rfl
theorem loop56 (t u : T) (p b : Int) (hl : t.l.length * 56 ≤ reachBytes) (ih : ∀ v,v ∈ t.l → ∀ b,eP S 56 [.g (enc v),.a (.i .i64 p),.g (enc u),.a (.i .i64 b)] = some (.g (enc (put p u v b)))) (Q : Ex → Env → St → Prop)
    (hQ : ∀ e' σ' X,σ'.bs (9,3) = some (.var [.p (.i .i64 t.k),.p (.i .i64 t.n),.p (.s t.s),X]) → frA σ' X = some (.l ((t.l.map fun v => put p u v (w (b + t.more))).map enc)) → σ'.bs (8,2) = some (.var [.p (.i .i64 0),.p (.i .i64 0),.p (.s []),.nil]) → 4 ≤ σ'.clk →
      e' 8 = .a (.ptr (8,2) 0 0) → e' 9 = .a (.ptr (9,3) 0 0) → Q (.exit 0) e' σ') :
    ∀ n i e (σ : St) X,i + n = t.l.length → e 1 = .a (.p (.i .i64 p)) → e 3 = .a (.p (.i .i64 b)) → e 4 = .a (.ptr (4,0) 0 0) → e 6 = .a (.ptr (6,1) 0 0) → e 8 = .a (.ptr (8,2) 0 0) → e 9 = .a (.ptr (9,3) 0 0) → e 10 = .a (.p (.i .i64 (i : Nat))) → 4 ≤ σ.clk →
      σ.bs (4,0) = some (.var [.p (.i .i64 t.k),.p (.i .i64 t.n),.p (.s t.s),.p (.l (t.l.map enc))]) → σ.bs (6,1) = some (.var ((enc u).map .p)) → σ.bs (8,2) = some (.var [.p (.i .i64 0),.p (.i .i64 0),.p (.s []),.nil]) →
      σ.bs (9,3) = some (.var [.p (.i .i64 t.k),.p (.i .i64 t.n),.p (.s t.s),X]) →
      ((i = 0 ∧ X = .nil) ∨ ∃ c,X = .own (63,c) 0 i ∧ c < σ.clk ∧ σ.bs (63,c) = some (.row 4 24 (((t.l.take i).map fun v => put p u v (w (b + t.more))).map enc))) → wp S false (.loop F56b0) e σ Q := by
  intro n
  induction n with
  | zero =>
    intro i e σ X hi e1 e3 e4 e6 e8 e9 e10 hc h4 h6 h8 h9 hX
    have hlt : ¬ ((i : Int) < (t.l.length : Int)) := by omega
    rw [x_loop,F56b0]
    simp only [e1,e3,e4,e6,e8,e9,e10,h4,hlt,x_seq,x_reg,x_skip,x_exit,x_ret,x_block,x_if,wpC_t,wpC_f,wpI_cons,wpI_nil,wpX_some,evI_any,evI_rd,evI_ad,evI_g,evG_u,evG_b,evG_tt,evG_ff,evG_tf,evG_ft,evO,evR,ev_t,ev_c,ev_f,putD_some,putD_none,put_at,cellsT,ldCells,mkT,lenA,binPV,add_bs,add_clk,add_ls,put_bs,put_clk,put_ls,kill_bs,kill_clk,kill_ls,empty_clk,empty_bs,Env.init,seqQ_norm,seqQ_exit,seqQ_ret,blkQ_norm,blkQ_exit,blkQ_ret,loopQ_norm,loopQ_exit,loopQ_ret,retP_ret,retP_norm,retE_ret,retE_norm,retS_ret,retS_norm,wpO_some,frA_fn,klA_p,klA_nil,klA_own,resVs,resV,resT,Option.bind_some,Option.bind_none,Option.map_some,List.getD_cons_zero,List.getD_cons_succ,List.getD_nil,List.length_cons,List.length_nil,List.length_map,List.map_cons,List.map_nil,List.drop_zero,List.drop_succ_cons,List.take_succ_cons,List.take_zero,List.drop_nil,List.take_nil,Nat.reduceEqDiff,Nat.reduceAdd,Nat.reduceLeDiff,Nat.zero_add,Nat.add_zero,Prod.mk.injEq,and_true,true_and,and_false,false_and,and_self,if_true,if_false,ite_true,ite_false,Bool.not_true,Bool.not_false,Bool.not_eq_true',reduceCtorEq,decide_true,decide_false,frTs,frT,frL_p,spS,ofPT_a,ofPT_g,ofPT_t,flat_i,flat_b,flat_s,flat_l,flat_g,flatp_i,flatp_b,flatp_s,flatp_l,klTs,klT,Bool.and_false,Bool.false_and,frL,frA_p,frA_nil,frA_own,ownT,intT,Bool.or_true,Bool.true_or,Bool.false_eq_true,frL_p,klL_p,ownT_p,O.adds,List.all_cons,List.all_nil,List.any_cons,List.any_nil,ownA,evO.bslRows,List.replicate_succ,List.replicate_zero,List.set_cons_zero,rowsA,over,List.cons_append,List.nil_append,List.append_nil,fillA,Bool.and_self,Bool.and_true,Bool.true_and,Bool.or_self,Bool.or_false,Bool.false_or,Nat.reduceMul,Nat.one_mul,Nat.lt_add_one,klL,Nat.le_refl,ite_self,Nat.reduceBEq]
    refine hQ _ σ X h9 ?_ h8 hc ?_ ?_
    · rcases hX with ⟨rfl,rfl⟩ | ⟨c,rfl,hcl,hrow⟩
      · have : t.l = [] := List.eq_nil_of_length_eq_zero (by omega)
        simp [frA,this]
      · have : i = t.l.length := by omega
        subst this
        simp only [List.take_length] at hrow
        simp only [frA,hrow]
        simp [List.take_of_length_le]
    · simp only [e8,x_seq,x_reg,x_skip,x_exit,x_ret,x_block,x_if,wpC_t,wpC_f,wpI_cons,wpI_nil,wpX_some,evI_any,evI_rd,evI_ad,evI_g,evG_u,evG_b,evG_tt,evG_ff,evG_tf,evG_ft,evO,evR,ev_t,ev_c,ev_f,putD_some,putD_none,put_at,cellsT,ldCells,mkT,lenA,binPV,add_bs,add_clk,add_ls,put_bs,put_clk,put_ls,kill_bs,kill_clk,kill_ls,empty_clk,empty_bs,Env.init,seqQ_norm,seqQ_exit,seqQ_ret,blkQ_norm,blkQ_exit,blkQ_ret,loopQ_norm,loopQ_exit,loopQ_ret,retP_ret,retP_norm,retE_ret,retE_norm,retS_ret,retS_norm,wpO_some,frA_fn,klA_p,klA_nil,klA_own,resVs,resV,resT,Option.bind_some,Option.bind_none,Option.map_some,List.getD_cons_zero,List.getD_cons_succ,List.getD_nil,List.length_cons,List.length_nil,List.length_map,List.map_cons,List.map_nil,List.drop_zero,List.drop_succ_cons,List.take_succ_cons,List.take_zero,List.drop_nil,List.take_nil,Nat.reduceEqDiff,Nat.reduceAdd,Nat.reduceLeDiff,Nat.zero_add,Nat.add_zero,Prod.mk.injEq,and_true,true_and,and_false,false_and,and_self,if_true,if_false,ite_true,ite_false,Bool.not_true,Bool.not_false,Bool.not_eq_true',reduceCtorEq,decide_true,decide_false,frTs,frT,frL_p,spS,ofPT_a,ofPT_g,ofPT_t,flat_i,flat_b,flat_s,flat_l,flat_g,flatp_i,flatp_b,flatp_s,flatp_l,klTs,klT,Bool.and_false,Bool.false_and,frL,frA_p,frA_nil,frA_own,ownT,intT,Bool.or_true,Bool.true_or,Bool.false_eq_true,frL_p,klL_p,ownT_p,O.adds,List.all_cons,List.all_nil,List.any_cons,List.any_nil,ownA,evO.bslRows,List.replicate_succ,List.replicate_zero,List.set_cons_zero,rowsA,over,List.cons_append,List.nil_append,List.append_nil,fillA,Bool.and_self,Bool.and_true,Bool.true_and,Bool.or_self,Bool.or_false,Bool.false_or,Nat.reduceMul,Nat.one_mul,Nat.lt_add_one,klL,Nat.le_refl,ite_self,Nat.reduceBEq]
    · simp only [e9,x_seq,x_reg,x_skip,x_exit,x_ret,x_block,x_if,wpC_t,wpC_f,wpI_cons,wpI_nil,wpX_some,evI_any,evI_rd,evI_ad,evI_g,evG_u,evG_b,evG_tt,evG_ff,evG_tf,evG_ft,evO,evR,ev_t,ev_c,ev_f,putD_some,putD_none,put_at,cellsT,ldCells,mkT,lenA,binPV,add_bs,add_clk,add_ls,put_bs,put_clk,put_ls,kill_bs,kill_clk,kill_ls,empty_clk,empty_bs,Env.init,seqQ_norm,seqQ_exit,seqQ_ret,blkQ_norm,blkQ_exit,blkQ_ret,loopQ_norm,loopQ_exit,loopQ_ret,retP_ret,retP_norm,retE_ret,retE_norm,retS_ret,retS_norm,wpO_some,frA_fn,klA_p,klA_nil,klA_own,resVs,resV,resT,Option.bind_some,Option.bind_none,Option.map_some,List.getD_cons_zero,List.getD_cons_succ,List.getD_nil,List.length_cons,List.length_nil,List.length_map,List.map_cons,List.map_nil,List.drop_zero,List.drop_succ_cons,List.take_succ_cons,List.take_zero,List.drop_nil,List.take_nil,Nat.reduceEqDiff,Nat.reduceAdd,Nat.reduceLeDiff,Nat.zero_add,Nat.add_zero,Prod.mk.injEq,and_true,true_and,and_false,false_and,and_self,if_true,if_false,ite_true,ite_false,Bool.not_true,Bool.not_false,Bool.not_eq_true',reduceCtorEq,decide_true,decide_false,frTs,frT,frL_p,spS,ofPT_a,ofPT_g,ofPT_t,flat_i,flat_b,flat_s,flat_l,flat_g,flatp_i,flatp_b,flatp_s,flatp_l,klTs,klT,Bool.and_false,Bool.false_and,frL,frA_p,frA_nil,frA_own,ownT,intT,Bool.or_true,Bool.true_or,Bool.false_eq_true,frL_p,klL_p,ownT_p,O.adds,List.all_cons,List.all_nil,List.any_cons,List.any_nil,ownA,evO.bslRows,List.replicate_succ,List.replicate_zero,List.set_cons_zero,rowsA,over,List.cons_append,List.nil_append,List.append_nil,fillA,Bool.and_self,Bool.and_true,Bool.true_and,Bool.or_self,Bool.or_false,Bool.false_or,Nat.reduceMul,Nat.one_mul,Nat.lt_add_one,klL,Nat.le_refl,ite_self,Nat.reduceBEq]
  | succ n ihn =>
    intro i e σ X hi e1 e3 e4 e6 e8 e9 e10 hc h4 h6 h8 h9 hX
    have hlt : ((i : Int) < (t.l.length : Int)) := by omega
    have h0 : (0 : Int) ≤ (i : Int) := by omega
    obtain ⟨x,hx⟩ : ∃ x,t.l[i]? = some x := ⟨_,List.getElem?_eq_getElem (by omega)⟩
    have hx' : (t.l.map enc)[i]? = some (enc x) := by simp [hx]
    have het : [PV.i IntKind.i64 t.k,PV.i IntKind.i64 t.n,PV.s t.s,PV.l (t.l.map enc)] = enc t := (enc_eq t).symm
    have hm := more_ok t
    have hu := ih x (List.mem_of_getElem? hx) (w (b + t.more))
    have hbs : (i + 1) * 56 ≤ 140737488355328 := by simp only [reachBytes] at hl; omega
    have hlb : i < 9223372036854775807 := by simp only [reachBytes] at hl; omega
    rw [x_loop,F56b0]
    rcases hX with ⟨rfl,rfl⟩ | ⟨c,rfl,hcl,hrow⟩
    · simp only [e1,e3,e4,e6,e8,e9,e10,h4,h6,h8,h9,hlt,h0,Int.toNat_natCast,hx',enc_len,enc_all,enc_take,enc_takep,het,hm,hu,Nat.reduceLeDiff,x_seq,x_reg,x_skip,x_exit,x_ret,x_block,x_if,wpC_t,wpC_f,wpI_cons,wpI_nil,wpX_some,evI_any,evI_rd,evI_ad,evI_g,evG_u,evG_b,evG_tt,evG_ff,evG_tf,evG_ft,evO,evR,ev_t,ev_c,ev_f,putD_some,putD_none,put_at,cellsT,ldCells,mkT,lenA,binPV,add_bs,add_clk,add_ls,put_bs,put_clk,put_ls,kill_bs,kill_clk,kill_ls,empty_clk,empty_bs,Env.init,seqQ_norm,seqQ_exit,seqQ_ret,blkQ_norm,blkQ_exit,blkQ_ret,loopQ_norm,loopQ_exit,loopQ_ret,retP_ret,retP_norm,retE_ret,retE_norm,retS_ret,retS_norm,wpO_some,frA_fn,klA_p,klA_nil,klA_own,resVs,resV,resT,Option.bind_some,Option.bind_none,Option.map_some,List.getD_cons_zero,List.getD_cons_succ,List.getD_nil,List.length_cons,List.length_nil,List.length_map,List.map_cons,List.map_nil,List.drop_zero,List.drop_succ_cons,List.take_succ_cons,List.take_zero,List.drop_nil,List.take_nil,Nat.reduceEqDiff,Nat.reduceAdd,Nat.reduceLeDiff,Nat.zero_add,Nat.add_zero,Prod.mk.injEq,and_true,true_and,and_false,false_and,and_self,if_true,if_false,ite_true,ite_false,Bool.not_true,Bool.not_false,Bool.not_eq_true',reduceCtorEq,decide_true,decide_false,frTs,frT,frL_p,spS,ofPT_a,ofPT_g,ofPT_t,flat_i,flat_b,flat_s,flat_l,flat_g,flatp_i,flatp_b,flatp_s,flatp_l,klTs,klT,Bool.and_false,Bool.false_and,frL,frA_p,frA_nil,frA_own,ownT,intT,Bool.or_true,Bool.true_or,Bool.false_eq_true,frL_p,klL_p,ownT_p,O.adds,List.all_cons,List.all_nil,List.any_cons,List.any_nil,ownA,evO.bslRows,List.replicate_succ,List.replicate_zero,List.set_cons_zero,rowsA,over,List.cons_append,List.nil_append,List.append_nil,fillA,Bool.and_self,Bool.and_true,Bool.true_and,Bool.or_self,Bool.or_false,Bool.false_or,Nat.reduceMul,Nat.one_mul,Nat.lt_add_one,klL,Nat.le_refl,ite_self,Nat.reduceBEq]
      refine ihn 1 _ _ (.own (63,σ.clk + 1) 0 1) (by omega) ?_ ?_ ?_ ?_ ?_ ?_ ?_ ?_ ?_ ?_ ?_ ?_ (.inr ⟨σ.clk + 1,rfl,?_,?_⟩)
      all_goals try simp only [e1,e3,e4,e6,e8,e9,e10,h4,h6,h8,h9,x_seq,x_reg,x_skip,x_exit,x_ret,x_block,x_if,wpC_t,wpC_f,wpI_cons,wpI_nil,wpX_some,evI_any,evI_rd,evI_ad,evI_g,evG_u,evG_b,evG_tt,evG_ff,evG_tf,evG_ft,evO,evR,ev_t,ev_c,ev_f,putD_some,putD_none,put_at,cellsT,ldCells,mkT,lenA,binPV,add_bs,add_clk,add_ls,put_bs,put_clk,put_ls,kill_bs,kill_clk,kill_ls,empty_clk,empty_bs,Env.init,seqQ_norm,seqQ_exit,seqQ_ret,blkQ_norm,blkQ_exit,blkQ_ret,loopQ_norm,loopQ_exit,loopQ_ret,retP_ret,retP_norm,retE_ret,retE_norm,retS_ret,retS_norm,wpO_some,frA_fn,klA_p,klA_nil,klA_own,resVs,resV,resT,Option.bind_some,Option.bind_none,Option.map_some,List.getD_cons_zero,List.getD_cons_succ,List.getD_nil,List.length_cons,List.length_nil,List.length_map,List.map_cons,List.map_nil,List.drop_zero,List.drop_succ_cons,List.take_succ_cons,List.take_zero,List.drop_nil,List.take_nil,Nat.reduceEqDiff,Nat.reduceAdd,Nat.reduceLeDiff,Nat.zero_add,Nat.add_zero,Prod.mk.injEq,and_true,true_and,and_false,false_and,and_self,if_true,if_false,ite_true,ite_false,Bool.not_true,Bool.not_false,Bool.not_eq_true',reduceCtorEq,decide_true,decide_false,frTs,frT,frL_p,spS,ofPT_a,ofPT_g,ofPT_t,flat_i,flat_b,flat_s,flat_l,flat_g,flatp_i,flatp_b,flatp_s,flatp_l,klTs,klT,Bool.and_false,Bool.false_and,frL,frA_p,frA_nil,frA_own,ownT,intT,Bool.or_true,Bool.true_or,Bool.false_eq_true,frL_p,klL_p,ownT_p,O.adds,List.all_cons,List.all_nil,List.any_cons,List.any_nil,ownA,evO.bslRows,List.replicate_succ,List.replicate_zero,List.set_cons_zero,rowsA,over,List.cons_append,List.nil_append,List.append_nil,fillA,Bool.and_self,Bool.and_true,Bool.true_and,Bool.or_self,Bool.or_false,Bool.false_or,Nat.reduceMul,Nat.one_mul,Nat.lt_add_one,klL,Nat.le_refl,ite_self,Nat.reduceBEq]
      · exact congrArg (fun z => TV.a (AV.p (PV.i .i64 z))) (wrap_succ 0 (by omega))
      · omega
      · simp [List.take_add_one,hx]
    · have hmin : (List.take i t.l).length = i := by simp; omega
      have htk : List.take i (((t.l.take i).map fun v => put p u v (w (b + t.more))).map enc) = ((t.l.take i).map fun v => put p u v (w (b + t.more))).map enc := List.take_of_length_le (by simp; omega)
      have hne : ¬ c = σ.clk := by omega
      have hne1 : ¬ c = σ.clk + 1 := by omega
      simp only [e1,e3,e4,e6,e8,e9,e10,h4,h6,h8,h9,hrow,hlt,h0,Int.toNat_natCast,hx',enc_len,enc_all,enc_take,enc_takep,het,hm,hu,hmin,htk,hbs,hne,hne1,Nat.reduceLeDiff,x_seq,x_reg,x_skip,x_exit,x_ret,x_block,x_if,wpC_t,wpC_f,wpI_cons,wpI_nil,wpX_some,evI_any,evI_rd,evI_ad,evI_g,evG_u,evG_b,evG_tt,evG_ff,evG_tf,evG_ft,evO,evR,ev_t,ev_c,ev_f,putD_some,putD_none,put_at,cellsT,ldCells,mkT,lenA,binPV,add_bs,add_clk,add_ls,put_bs,put_clk,put_ls,kill_bs,kill_clk,kill_ls,empty_clk,empty_bs,Env.init,seqQ_norm,seqQ_exit,seqQ_ret,blkQ_norm,blkQ_exit,blkQ_ret,loopQ_norm,loopQ_exit,loopQ_ret,retP_ret,retP_norm,retE_ret,retE_norm,retS_ret,retS_norm,wpO_some,frA_fn,klA_p,klA_nil,klA_own,resVs,resV,resT,Option.bind_some,Option.bind_none,Option.map_some,List.getD_cons_zero,List.getD_cons_succ,List.getD_nil,List.length_cons,List.length_nil,List.length_map,List.map_cons,List.map_nil,List.drop_zero,List.drop_succ_cons,List.take_succ_cons,List.take_zero,List.drop_nil,List.take_nil,Nat.reduceEqDiff,Nat.reduceAdd,Nat.reduceLeDiff,Nat.zero_add,Nat.add_zero,Prod.mk.injEq,and_true,true_and,and_false,false_and,and_self,if_true,if_false,ite_true,ite_false,Bool.not_true,Bool.not_false,Bool.not_eq_true',reduceCtorEq,decide_true,decide_false,frTs,frT,frL_p,spS,ofPT_a,ofPT_g,ofPT_t,flat_i,flat_b,flat_s,flat_l,flat_g,flatp_i,flatp_b,flatp_s,flatp_l,klTs,klT,Bool.and_false,Bool.false_and,frL,frA_p,frA_nil,frA_own,ownT,intT,Bool.or_true,Bool.true_or,Bool.false_eq_true,frL_p,klL_p,ownT_p,O.adds,List.all_cons,List.all_nil,List.any_cons,List.any_nil,ownA,evO.bslRows,List.replicate_succ,List.replicate_zero,List.set_cons_zero,rowsA,over,List.cons_append,List.nil_append,List.append_nil,fillA,Bool.and_self,Bool.and_true,Bool.true_and,Bool.or_self,Bool.or_false,Bool.false_or,Nat.reduceMul,Nat.one_mul,Nat.lt_add_one,klL,Nat.le_refl,ite_self,Nat.reduceBEq]
      refine ihn (i + 1) _ _ (.own (63,σ.clk + 1) 0 (i + 1)) (by omega) ?_ ?_ ?_ ?_ ?_ ?_ ?_ ?_ ?_ ?_ ?_ ?_ (.inr ⟨σ.clk + 1,rfl,?_,?_⟩)
      all_goals try simp only [e1,e3,e4,e6,e8,e9,e10,h4,h6,h8,h9,x_seq,x_reg,x_skip,x_exit,x_ret,x_block,x_if,wpC_t,wpC_f,wpI_cons,wpI_nil,wpX_some,evI_any,evI_rd,evI_ad,evI_g,evG_u,evG_b,evG_tt,evG_ff,evG_tf,evG_ft,evO,evR,ev_t,ev_c,ev_f,putD_some,putD_none,put_at,cellsT,ldCells,mkT,lenA,binPV,add_bs,add_clk,add_ls,put_bs,put_clk,put_ls,kill_bs,kill_clk,kill_ls,empty_clk,empty_bs,Env.init,seqQ_norm,seqQ_exit,seqQ_ret,blkQ_norm,blkQ_exit,blkQ_ret,loopQ_norm,loopQ_exit,loopQ_ret,retP_ret,retP_norm,retE_ret,retE_norm,retS_ret,retS_norm,wpO_some,frA_fn,klA_p,klA_nil,klA_own,resVs,resV,resT,Option.bind_some,Option.bind_none,Option.map_some,List.getD_cons_zero,List.getD_cons_succ,List.getD_nil,List.length_cons,List.length_nil,List.length_map,List.map_cons,List.map_nil,List.drop_zero,List.drop_succ_cons,List.take_succ_cons,List.take_zero,List.drop_nil,List.take_nil,Nat.reduceEqDiff,Nat.reduceAdd,Nat.reduceLeDiff,Nat.zero_add,Nat.add_zero,Prod.mk.injEq,and_true,true_and,and_false,false_and,and_self,if_true,if_false,ite_true,ite_false,Bool.not_true,Bool.not_false,Bool.not_eq_true',reduceCtorEq,decide_true,decide_false,frTs,frT,frL_p,spS,ofPT_a,ofPT_g,ofPT_t,flat_i,flat_b,flat_s,flat_l,flat_g,flatp_i,flatp_b,flatp_s,flatp_l,klTs,klT,Bool.and_false,Bool.false_and,frL,frA_p,frA_nil,frA_own,ownT,intT,Bool.or_true,Bool.true_or,Bool.false_eq_true,frL_p,klL_p,ownT_p,O.adds,List.all_cons,List.all_nil,List.any_cons,List.any_nil,ownA,evO.bslRows,List.replicate_succ,List.replicate_zero,List.set_cons_zero,rowsA,over,List.cons_append,List.nil_append,List.append_nil,fillA,Bool.and_self,Bool.and_true,Bool.true_and,Bool.or_self,Bool.or_false,Bool.false_or,Nat.reduceMul,Nat.one_mul,Nat.lt_add_one,klL,Nat.le_refl,ite_self,Nat.reduceBEq]
      · exact congrArg (fun z => TV.a (AV.p (PV.i .i64 z))) (wrap_succ i hlb)
      · omega
      · simp [List.take_add_one,hx]
theorem putb_ok {t : T} (ht : T.Ok t) {u : T} (hu : T.Ok u) (p : Int) : ∀ b : Int,eP S 56 [.g (enc t),.a (.i .i64 p),.g (enc u),.a (.i .i64 b)] = some (.g (enc (put p u t b))) := by
  induction ht with
  | mk k n s l hk hn hs hl h ih =>
    intro b
    have hup := up_ok hu b 0
    have e0 : put p u (.mk k n s l) b = if k = 1 then (if n = w (p + b) then up b 0 u else if n > w (p + b) then .mk k (w (n - 1)) s l else .mk k n s l) else .mk k n s ((l.map fun t => put p u t (w (b + T.more (.mk k n s l))))) := by rw [← putL_map]; rfl
    rw [e0]
    refine x_fn (orcS 56) (fc := F56) rfl rfl ?_
    simp only [F56,enc,encL_map,enc_len,x_seq,x_reg,x_skip,x_exit,x_ret,x_block,x_if,wpC_t,wpC_f,wpI_cons,wpI_nil,wpX_some,evI_any,evI_rd,evI_ad,evI_g,evG_u,evG_b,evG_tt,evG_ff,evG_tf,evG_ft,evO,evR,ev_t,ev_c,ev_f,putD_some,putD_none,put_at,cellsT,ldCells,mkT,lenA,binPV,add_bs,add_clk,add_ls,put_bs,put_clk,put_ls,kill_bs,kill_clk,kill_ls,empty_clk,empty_bs,Env.init,seqQ_norm,seqQ_exit,seqQ_ret,blkQ_norm,blkQ_exit,blkQ_ret,loopQ_norm,loopQ_exit,loopQ_ret,retP_ret,retP_norm,retE_ret,retE_norm,retS_ret,retS_norm,wpO_some,frA_fn,klA_p,klA_nil,klA_own,resVs,resV,resT,Option.bind_some,Option.bind_none,Option.map_some,List.getD_cons_zero,List.getD_cons_succ,List.getD_nil,List.length_cons,List.length_nil,List.length_map,List.map_cons,List.map_nil,List.drop_zero,List.drop_succ_cons,List.take_succ_cons,List.take_zero,List.drop_nil,List.take_nil,Nat.reduceEqDiff,Nat.reduceAdd,Nat.reduceLeDiff,Nat.zero_add,Nat.add_zero,Prod.mk.injEq,and_true,true_and,and_false,false_and,and_self,if_true,if_false,ite_true,ite_false,Bool.not_true,Bool.not_false,Bool.not_eq_true',reduceCtorEq,decide_true,decide_false,frTs,frT,frL_p,spS,ofPT_a,ofPT_g,ofPT_t,flat_i,flat_b,flat_s,flat_l,flat_g,flatp_i,flatp_b,flatp_s,flatp_l,klTs,klT,Bool.and_false,Bool.false_and,frL,frA_p,frA_nil,frA_own,ownT,intT,Bool.or_true,Bool.true_or,Bool.false_eq_true,frL_p,klL_p,ownT_p,O.adds,List.all_cons,List.all_nil,List.any_cons,List.any_nil,ownA,evO.bslRows,List.replicate_succ,List.replicate_zero,List.set_cons_zero,rowsA,over,List.cons_append,List.nil_append,List.append_nil,fillA,Bool.and_self,Bool.and_true,Bool.true_and,Bool.or_self,Bool.or_false,Bool.false_or,Nat.reduceMul,Nat.one_mul,Nat.lt_add_one,klL,Nat.le_refl,ite_self,Nat.reduceBEq]
    refine wpC_split (fun h1 => ?_) (fun h1 => ?_)
    · have hk1 : k = 1 := by simpa using h1
      rw [if_pos hk1]
      simp only [h1,x_seq,x_reg,x_skip,x_exit,x_ret,x_block,x_if,wpC_t,wpC_f,wpI_cons,wpI_nil,wpX_some,evI_any,evI_rd,evI_ad,evI_g,evG_u,evG_b,evG_tt,evG_ff,evG_tf,evG_ft,evO,evR,ev_t,ev_c,ev_f,putD_some,putD_none,put_at,cellsT,ldCells,mkT,lenA,binPV,add_bs,add_clk,add_ls,put_bs,put_clk,put_ls,kill_bs,kill_clk,kill_ls,empty_clk,empty_bs,Env.init,seqQ_norm,seqQ_exit,seqQ_ret,blkQ_norm,blkQ_exit,blkQ_ret,loopQ_norm,loopQ_exit,loopQ_ret,retP_ret,retP_norm,retE_ret,retE_norm,retS_ret,retS_norm,wpO_some,frA_fn,klA_p,klA_nil,klA_own,resVs,resV,resT,Option.bind_some,Option.bind_none,Option.map_some,List.getD_cons_zero,List.getD_cons_succ,List.getD_nil,List.length_cons,List.length_nil,List.length_map,List.map_cons,List.map_nil,List.drop_zero,List.drop_succ_cons,List.take_succ_cons,List.take_zero,List.drop_nil,List.take_nil,Nat.reduceEqDiff,Nat.reduceAdd,Nat.reduceLeDiff,Nat.zero_add,Nat.add_zero,Prod.mk.injEq,and_true,true_and,and_false,false_and,and_self,if_true,if_false,ite_true,ite_false,Bool.not_true,Bool.not_false,Bool.not_eq_true',reduceCtorEq,decide_true,decide_false,frTs,frT,frL_p,spS,ofPT_a,ofPT_g,ofPT_t,flat_i,flat_b,flat_s,flat_l,flat_g,flatp_i,flatp_b,flatp_s,flatp_l,klTs,klT,Bool.and_false,Bool.false_and,frL,frA_p,frA_nil,frA_own,ownT,intT,Bool.or_true,Bool.true_or,Bool.false_eq_true,frL_p,klL_p,ownT_p,O.adds,List.all_cons,List.all_nil,List.any_cons,List.any_nil,ownA,evO.bslRows,List.replicate_succ,List.replicate_zero,List.set_cons_zero,rowsA,over,List.cons_append,List.nil_append,List.append_nil,fillA,Bool.and_self,Bool.and_true,Bool.true_and,Bool.or_self,Bool.or_false,Bool.false_or,Nat.reduceMul,Nat.one_mul,Nat.lt_add_one,klL,Nat.le_refl,ite_self,Nat.reduceBEq]
      refine wpC_split (fun h2 => ?_) (fun h2 => ?_)
      · have hk2 : n = w (p + b) := by simpa using h2
        rw [if_pos hk2]
        have hfl := enc_eq (up b 0 u)
        simp only [h1,h2,enc_len,enc_takep,enc_flat,hup,x_seq,x_reg,x_skip,x_exit,x_ret,x_block,x_if,wpC_t,wpC_f,wpI_cons,wpI_nil,wpX_some,evI_any,evI_rd,evI_ad,evI_g,evG_u,evG_b,evG_tt,evG_ff,evG_tf,evG_ft,evO,evR,ev_t,ev_c,ev_f,putD_some,putD_none,put_at,cellsT,ldCells,mkT,lenA,binPV,add_bs,add_clk,add_ls,put_bs,put_clk,put_ls,kill_bs,kill_clk,kill_ls,empty_clk,empty_bs,Env.init,seqQ_norm,seqQ_exit,seqQ_ret,blkQ_norm,blkQ_exit,blkQ_ret,loopQ_norm,loopQ_exit,loopQ_ret,retP_ret,retP_norm,retE_ret,retE_norm,retS_ret,retS_norm,wpO_some,frA_fn,klA_p,klA_nil,klA_own,resVs,resV,resT,Option.bind_some,Option.bind_none,Option.map_some,List.getD_cons_zero,List.getD_cons_succ,List.getD_nil,List.length_cons,List.length_nil,List.length_map,List.map_cons,List.map_nil,List.drop_zero,List.drop_succ_cons,List.take_succ_cons,List.take_zero,List.drop_nil,List.take_nil,Nat.reduceEqDiff,Nat.reduceAdd,Nat.reduceLeDiff,Nat.zero_add,Nat.add_zero,Prod.mk.injEq,and_true,true_and,and_false,false_and,and_self,if_true,if_false,ite_true,ite_false,Bool.not_true,Bool.not_false,Bool.not_eq_true',reduceCtorEq,decide_true,decide_false,frTs,frT,frL_p,spS,ofPT_a,ofPT_g,ofPT_t,flat_i,flat_b,flat_s,flat_l,flat_g,flatp_i,flatp_b,flatp_s,flatp_l,klTs,klT,Bool.and_false,Bool.false_and,frL,frA_p,frA_nil,frA_own,ownT,intT,Bool.or_true,Bool.true_or,Bool.false_eq_true,frL_p,klL_p,ownT_p,O.adds,List.all_cons,List.all_nil,List.any_cons,List.any_nil,ownA,evO.bslRows,List.replicate_succ,List.replicate_zero,List.set_cons_zero,rowsA,over,List.cons_append,List.nil_append,List.append_nil,fillA,Bool.and_self,Bool.and_true,Bool.true_and,Bool.or_self,Bool.or_false,Bool.false_or,Nat.reduceMul,Nat.one_mul,Nat.lt_add_one,klL,Nat.le_refl,ite_self,Nat.reduceBEq]
      · have hk2 : ¬ n = w (p + b) := by simpa using h2
        rw [if_neg hk2]
        simp only [h1,h2,x_seq,x_reg,x_skip,x_exit,x_ret,x_block,x_if,wpC_t,wpC_f,wpI_cons,wpI_nil,wpX_some,evI_any,evI_rd,evI_ad,evI_g,evG_u,evG_b,evG_tt,evG_ff,evG_tf,evG_ft,evO,evR,ev_t,ev_c,ev_f,putD_some,putD_none,put_at,cellsT,ldCells,mkT,lenA,binPV,add_bs,add_clk,add_ls,put_bs,put_clk,put_ls,kill_bs,kill_clk,kill_ls,empty_clk,empty_bs,Env.init,seqQ_norm,seqQ_exit,seqQ_ret,blkQ_norm,blkQ_exit,blkQ_ret,loopQ_norm,loopQ_exit,loopQ_ret,retP_ret,retP_norm,retE_ret,retE_norm,retS_ret,retS_norm,wpO_some,frA_fn,klA_p,klA_nil,klA_own,resVs,resV,resT,Option.bind_some,Option.bind_none,Option.map_some,List.getD_cons_zero,List.getD_cons_succ,List.getD_nil,List.length_cons,List.length_nil,List.length_map,List.map_cons,List.map_nil,List.drop_zero,List.drop_succ_cons,List.take_succ_cons,List.take_zero,List.drop_nil,List.take_nil,Nat.reduceEqDiff,Nat.reduceAdd,Nat.reduceLeDiff,Nat.zero_add,Nat.add_zero,Prod.mk.injEq,and_true,true_and,and_false,false_and,and_self,if_true,if_false,ite_true,ite_false,Bool.not_true,Bool.not_false,Bool.not_eq_true',reduceCtorEq,decide_true,decide_false,frTs,frT,frL_p,spS,ofPT_a,ofPT_g,ofPT_t,flat_i,flat_b,flat_s,flat_l,flat_g,flatp_i,flatp_b,flatp_s,flatp_l,klTs,klT,Bool.and_false,Bool.false_and,frL,frA_p,frA_nil,frA_own,ownT,intT,Bool.or_true,Bool.true_or,Bool.false_eq_true,frL_p,klL_p,ownT_p,O.adds,List.all_cons,List.all_nil,List.any_cons,List.any_nil,ownA,evO.bslRows,List.replicate_succ,List.replicate_zero,List.set_cons_zero,rowsA,over,List.cons_append,List.nil_append,List.append_nil,fillA,Bool.and_self,Bool.and_true,Bool.true_and,Bool.or_self,Bool.or_false,Bool.false_or,Nat.reduceMul,Nat.one_mul,Nat.lt_add_one,klL,Nat.le_refl,ite_self,Nat.reduceBEq]
        refine wpC_split (fun h3 => ?_) (fun h3 => ?_)
        · have hk3 : n > w (p + b) := by simpa using h3
          rw [if_pos hk3]
          simp only [h1,h2,h3,enc,encL_map,x_seq,x_reg,x_skip,x_exit,x_ret,x_block,x_if,wpC_t,wpC_f,wpI_cons,wpI_nil,wpX_some,evI_any,evI_rd,evI_ad,evI_g,evG_u,evG_b,evG_tt,evG_ff,evG_tf,evG_ft,evO,evR,ev_t,ev_c,ev_f,putD_some,putD_none,put_at,cellsT,ldCells,mkT,lenA,binPV,add_bs,add_clk,add_ls,put_bs,put_clk,put_ls,kill_bs,kill_clk,kill_ls,empty_clk,empty_bs,Env.init,seqQ_norm,seqQ_exit,seqQ_ret,blkQ_norm,blkQ_exit,blkQ_ret,loopQ_norm,loopQ_exit,loopQ_ret,retP_ret,retP_norm,retE_ret,retE_norm,retS_ret,retS_norm,wpO_some,frA_fn,klA_p,klA_nil,klA_own,resVs,resV,resT,Option.bind_some,Option.bind_none,Option.map_some,List.getD_cons_zero,List.getD_cons_succ,List.getD_nil,List.length_cons,List.length_nil,List.length_map,List.map_cons,List.map_nil,List.drop_zero,List.drop_succ_cons,List.take_succ_cons,List.take_zero,List.drop_nil,List.take_nil,Nat.reduceEqDiff,Nat.reduceAdd,Nat.reduceLeDiff,Nat.zero_add,Nat.add_zero,Prod.mk.injEq,and_true,true_and,and_false,false_and,and_self,if_true,if_false,ite_true,ite_false,Bool.not_true,Bool.not_false,Bool.not_eq_true',reduceCtorEq,decide_true,decide_false,frTs,frT,frL_p,spS,ofPT_a,ofPT_g,ofPT_t,flat_i,flat_b,flat_s,flat_l,flat_g,flatp_i,flatp_b,flatp_s,flatp_l,klTs,klT,Bool.and_false,Bool.false_and,frL,frA_p,frA_nil,frA_own,ownT,intT,Bool.or_true,Bool.true_or,Bool.false_eq_true,frL_p,klL_p,ownT_p,O.adds,List.all_cons,List.all_nil,List.any_cons,List.any_nil,ownA,evO.bslRows,List.replicate_succ,List.replicate_zero,List.set_cons_zero,rowsA,over,List.cons_append,List.nil_append,List.append_nil,fillA,Bool.and_self,Bool.and_true,Bool.true_and,Bool.or_self,Bool.or_false,Bool.false_or,Nat.reduceMul,Nat.one_mul,Nat.lt_add_one,klL,Nat.le_refl,ite_self,Nat.reduceBEq]
        · have hk3 : ¬ n > w (p + b) := by simpa using h3
          rw [if_neg hk3]
          simp only [h1,h2,h3,enc,encL_map,x_seq,x_reg,x_skip,x_exit,x_ret,x_block,x_if,wpC_t,wpC_f,wpI_cons,wpI_nil,wpX_some,evI_any,evI_rd,evI_ad,evI_g,evG_u,evG_b,evG_tt,evG_ff,evG_tf,evG_ft,evO,evR,ev_t,ev_c,ev_f,putD_some,putD_none,put_at,cellsT,ldCells,mkT,lenA,binPV,add_bs,add_clk,add_ls,put_bs,put_clk,put_ls,kill_bs,kill_clk,kill_ls,empty_clk,empty_bs,Env.init,seqQ_norm,seqQ_exit,seqQ_ret,blkQ_norm,blkQ_exit,blkQ_ret,loopQ_norm,loopQ_exit,loopQ_ret,retP_ret,retP_norm,retE_ret,retE_norm,retS_ret,retS_norm,wpO_some,frA_fn,klA_p,klA_nil,klA_own,resVs,resV,resT,Option.bind_some,Option.bind_none,Option.map_some,List.getD_cons_zero,List.getD_cons_succ,List.getD_nil,List.length_cons,List.length_nil,List.length_map,List.map_cons,List.map_nil,List.drop_zero,List.drop_succ_cons,List.take_succ_cons,List.take_zero,List.drop_nil,List.take_nil,Nat.reduceEqDiff,Nat.reduceAdd,Nat.reduceLeDiff,Nat.zero_add,Nat.add_zero,Prod.mk.injEq,and_true,true_and,and_false,false_and,and_self,if_true,if_false,ite_true,ite_false,Bool.not_true,Bool.not_false,Bool.not_eq_true',reduceCtorEq,decide_true,decide_false,frTs,frT,frL_p,spS,ofPT_a,ofPT_g,ofPT_t,flat_i,flat_b,flat_s,flat_l,flat_g,flatp_i,flatp_b,flatp_s,flatp_l,klTs,klT,Bool.and_false,Bool.false_and,frL,frA_p,frA_nil,frA_own,ownT,intT,Bool.or_true,Bool.true_or,Bool.false_eq_true,frL_p,klL_p,ownT_p,O.adds,List.all_cons,List.all_nil,List.any_cons,List.any_nil,ownA,evO.bslRows,List.replicate_succ,List.replicate_zero,List.set_cons_zero,rowsA,over,List.cons_append,List.nil_append,List.append_nil,fillA,Bool.and_self,Bool.and_true,Bool.true_and,Bool.or_self,Bool.or_false,Bool.false_or,Nat.reduceMul,Nat.one_mul,Nat.lt_add_one,klL,Nat.le_refl,ite_self,Nat.reduceBEq]
    · have hk1 : ¬ k = 1 := by simpa using h1
      rw [if_neg hk1]
      simp only [h1,x_seq,x_reg,x_skip,x_exit,x_ret,x_block,x_if,wpC_t,wpC_f,wpI_cons,wpI_nil,wpX_some,evI_any,evI_rd,evI_ad,evI_g,evG_u,evG_b,evG_tt,evG_ff,evG_tf,evG_ft,evO,evR,ev_t,ev_c,ev_f,putD_some,putD_none,put_at,cellsT,ldCells,mkT,lenA,binPV,add_bs,add_clk,add_ls,put_bs,put_clk,put_ls,kill_bs,kill_clk,kill_ls,empty_clk,empty_bs,Env.init,seqQ_norm,seqQ_exit,seqQ_ret,blkQ_norm,blkQ_exit,blkQ_ret,loopQ_norm,loopQ_exit,loopQ_ret,retP_ret,retP_norm,retE_ret,retE_norm,retS_ret,retS_norm,wpO_some,frA_fn,klA_p,klA_nil,klA_own,resVs,resV,resT,Option.bind_some,Option.bind_none,Option.map_some,List.getD_cons_zero,List.getD_cons_succ,List.getD_nil,List.length_cons,List.length_nil,List.length_map,List.map_cons,List.map_nil,List.drop_zero,List.drop_succ_cons,List.take_succ_cons,List.take_zero,List.drop_nil,List.take_nil,Nat.reduceEqDiff,Nat.reduceAdd,Nat.reduceLeDiff,Nat.zero_add,Nat.add_zero,Prod.mk.injEq,and_true,true_and,and_false,false_and,and_self,if_true,if_false,ite_true,ite_false,Bool.not_true,Bool.not_false,Bool.not_eq_true',reduceCtorEq,decide_true,decide_false,frTs,frT,frL_p,spS,ofPT_a,ofPT_g,ofPT_t,flat_i,flat_b,flat_s,flat_l,flat_g,flatp_i,flatp_b,flatp_s,flatp_l,klTs,klT,Bool.and_false,Bool.false_and,frL,frA_p,frA_nil,frA_own,ownT,intT,Bool.or_true,Bool.true_or,Bool.false_eq_true,frL_p,klL_p,ownT_p,O.adds,List.all_cons,List.all_nil,List.any_cons,List.any_nil,ownA,evO.bslRows,List.replicate_succ,List.replicate_zero,List.set_cons_zero,rowsA,over,List.cons_append,List.nil_append,List.append_nil,fillA,Bool.and_self,Bool.and_true,Bool.true_and,Bool.or_self,Bool.or_false,Bool.false_or,Nat.reduceMul,Nat.one_mul,Nat.lt_add_one,klL,Nat.le_refl,ite_self,Nat.reduceBEq]
      refine loop56 (.mk k n s l) u p b hl (fun v hv b => ih v hv b) _ ?_ l.length 0 _ _ .nil (by simp [T.l]) ?_ ?_ ?_ ?_ ?_ ?_ ?_ ?_ ?_ ?_ ?_ ?_ (.inl ⟨rfl,rfl⟩)
      · intro e' σ' X g1 g2 g3 g4 g5 g6
        simp only [T.k,T.n,T.s,T.l] at g1 g2
        simp only [g1,g3,g4,g5,g6,x_seq,x_reg,x_skip,x_exit,x_ret,x_block,x_if,wpC_t,wpC_f,wpI_cons,wpI_nil,wpX_some,evI_any,evI_rd,evI_ad,evI_g,evG_u,evG_b,evG_tt,evG_ff,evG_tf,evG_ft,evO,evR,ev_t,ev_c,ev_f,putD_some,putD_none,put_at,cellsT,ldCells,mkT,lenA,binPV,add_bs,add_clk,add_ls,put_bs,put_clk,put_ls,kill_bs,kill_clk,kill_ls,empty_clk,empty_bs,Env.init,seqQ_norm,seqQ_exit,seqQ_ret,blkQ_norm,blkQ_exit,blkQ_ret,loopQ_norm,loopQ_exit,loopQ_ret,retP_ret,retP_norm,retE_ret,retE_norm,retS_ret,retS_norm,wpO_some,frA_fn,klA_p,klA_nil,klA_own,resVs,resV,resT,Option.bind_some,Option.bind_none,Option.map_some,List.getD_cons_zero,List.getD_cons_succ,List.getD_nil,List.length_cons,List.length_nil,List.length_map,List.map_cons,List.map_nil,List.drop_zero,List.drop_succ_cons,List.take_succ_cons,List.take_zero,List.drop_nil,List.take_nil,Nat.reduceEqDiff,Nat.reduceAdd,Nat.reduceLeDiff,Nat.zero_add,Nat.add_zero,Prod.mk.injEq,and_true,true_and,and_false,false_and,and_self,if_true,if_false,ite_true,ite_false,Bool.not_true,Bool.not_false,Bool.not_eq_true',reduceCtorEq,decide_true,decide_false,frTs,frT,frL_p,spS,ofPT_a,ofPT_g,ofPT_t,flat_i,flat_b,flat_s,flat_l,flat_g,flatp_i,flatp_b,flatp_s,flatp_l,klTs,klT,Bool.and_false,Bool.false_and,frL,frA_p,frA_nil,frA_own,ownT,intT,Bool.or_true,Bool.true_or,Bool.false_eq_true,frL_p,klL_p,ownT_p,O.adds,List.all_cons,List.all_nil,List.any_cons,List.any_nil,ownA,evO.bslRows,List.replicate_succ,List.replicate_zero,List.set_cons_zero,rowsA,over,List.cons_append,List.nil_append,List.append_nil,fillA,Bool.and_self,Bool.and_true,Bool.true_and,Bool.or_self,Bool.or_false,Bool.false_or,Nat.reduceMul,Nat.one_mul,Nat.lt_add_one,klL,Nat.le_refl,ite_self,Nat.reduceBEq]
        simp only [frA_put_var g3,g2,x_seq,x_reg,x_skip,x_exit,x_ret,x_block,x_if,wpC_t,wpC_f,wpI_cons,wpI_nil,wpX_some,evI_any,evI_rd,evI_ad,evI_g,evG_u,evG_b,evG_tt,evG_ff,evG_tf,evG_ft,evO,evR,ev_t,ev_c,ev_f,putD_some,putD_none,put_at,cellsT,ldCells,mkT,lenA,binPV,add_bs,add_clk,add_ls,put_bs,put_clk,put_ls,kill_bs,kill_clk,kill_ls,empty_clk,empty_bs,Env.init,seqQ_norm,seqQ_exit,seqQ_ret,blkQ_norm,blkQ_exit,blkQ_ret,loopQ_norm,loopQ_exit,loopQ_ret,retP_ret,retP_norm,retE_ret,retE_norm,retS_ret,retS_norm,wpO_some,frA_fn,klA_p,klA_nil,klA_own,resVs,resV,resT,Option.bind_some,Option.bind_none,Option.map_some,List.getD_cons_zero,List.getD_cons_succ,List.getD_nil,List.length_cons,List.length_nil,List.length_map,List.map_cons,List.map_nil,List.drop_zero,List.drop_succ_cons,List.take_succ_cons,List.take_zero,List.drop_nil,List.take_nil,Nat.reduceEqDiff,Nat.reduceAdd,Nat.reduceLeDiff,Nat.zero_add,Nat.add_zero,Prod.mk.injEq,and_true,true_and,and_false,false_and,and_self,if_true,if_false,ite_true,ite_false,Bool.not_true,Bool.not_false,Bool.not_eq_true',reduceCtorEq,decide_true,decide_false,frTs,frT,frL_p,spS,ofPT_a,ofPT_g,ofPT_t,flat_i,flat_b,flat_s,flat_l,flat_g,flatp_i,flatp_b,flatp_s,flatp_l,klTs,klT,Bool.and_false,Bool.false_and,frL,frA_p,frA_nil,frA_own,ownT,intT,Bool.or_true,Bool.true_or,Bool.false_eq_true,frL_p,klL_p,ownT_p,O.adds,List.all_cons,List.all_nil,List.any_cons,List.any_nil,ownA,evO.bslRows,List.replicate_succ,List.replicate_zero,List.set_cons_zero,rowsA,over,List.cons_append,List.nil_append,List.append_nil,fillA,Bool.and_self,Bool.and_true,Bool.true_and,Bool.or_self,Bool.or_false,Bool.false_or,Nat.reduceMul,Nat.one_mul,Nat.lt_add_one,klL,Nat.le_refl,ite_self,Nat.reduceBEq]
        simp [enc,encL_map]
      all_goals simp only [T.k,T.n,T.s,T.l,x_seq,x_reg,x_skip,x_exit,x_ret,x_block,x_if,wpC_t,wpC_f,wpI_cons,wpI_nil,wpX_some,evI_any,evI_rd,evI_ad,evI_g,evG_u,evG_b,evG_tt,evG_ff,evG_tf,evG_ft,evO,evR,ev_t,ev_c,ev_f,putD_some,putD_none,put_at,cellsT,ldCells,mkT,lenA,binPV,add_bs,add_clk,add_ls,put_bs,put_clk,put_ls,kill_bs,kill_clk,kill_ls,empty_clk,empty_bs,Env.init,seqQ_norm,seqQ_exit,seqQ_ret,blkQ_norm,blkQ_exit,blkQ_ret,loopQ_norm,loopQ_exit,loopQ_ret,retP_ret,retP_norm,retE_ret,retE_norm,retS_ret,retS_norm,wpO_some,frA_fn,klA_p,klA_nil,klA_own,resVs,resV,resT,Option.bind_some,Option.bind_none,Option.map_some,List.getD_cons_zero,List.getD_cons_succ,List.getD_nil,List.length_cons,List.length_nil,List.length_map,List.map_cons,List.map_nil,List.drop_zero,List.drop_succ_cons,List.take_succ_cons,List.take_zero,List.drop_nil,List.take_nil,Nat.reduceEqDiff,Nat.reduceAdd,Nat.reduceLeDiff,Nat.zero_add,Nat.add_zero,Prod.mk.injEq,and_true,true_and,and_false,false_and,and_self,if_true,if_false,ite_true,ite_false,Bool.not_true,Bool.not_false,Bool.not_eq_true',reduceCtorEq,decide_true,decide_false,frTs,frT,frL_p,spS,ofPT_a,ofPT_g,ofPT_t,flat_i,flat_b,flat_s,flat_l,flat_g,flatp_i,flatp_b,flatp_s,flatp_l,klTs,klT,Bool.and_false,Bool.false_and,frL,frA_p,frA_nil,frA_own,ownT,intT,Bool.or_true,Bool.true_or,Bool.false_eq_true,frL_p,klL_p,ownT_p,O.adds,List.all_cons,List.all_nil,List.any_cons,List.any_nil,ownA,evO.bslRows,List.replicate_succ,List.replicate_zero,List.set_cons_zero,rowsA,over,List.cons_append,List.nil_append,List.append_nil,fillA,Bool.and_self,Bool.and_true,Bool.true_and,Bool.or_self,Bool.or_false,Bool.false_or,Nat.reduceMul,Nat.one_mul,Nat.lt_add_one,klL,Nat.le_refl,ite_self,Nat.reduceBEq]
      · rfl
      all_goals omega
theorem put_ok {t : T} (ht : T.Ok t) {u : T} (hu : T.Ok u) (p : Int) : eP S 22 [.g (enc t),.a (.i .i64 p),.g (enc u)] = some (.g (enc (put p u t 0))) := by
  have h := putb_ok ht hu p 0
  refine x_fn (orcS 22) (fc := F22) rfl rfl ?_
  simp only [F22,enc_len,enc_takep,enc_flat,h,x_seq,x_reg,x_skip,x_exit,x_ret,x_block,x_if,wpC_t,wpC_f,wpI_cons,wpI_nil,wpX_some,evI_any,evI_rd,evI_ad,evI_g,evG_u,evG_b,evG_tt,evG_ff,evG_tf,evG_ft,evO,evR,ev_t,ev_c,ev_f,putD_some,putD_none,put_at,cellsT,ldCells,mkT,lenA,binPV,add_bs,add_clk,add_ls,put_bs,put_clk,put_ls,kill_bs,kill_clk,kill_ls,empty_clk,empty_bs,Env.init,seqQ_norm,seqQ_exit,seqQ_ret,blkQ_norm,blkQ_exit,blkQ_ret,loopQ_norm,loopQ_exit,loopQ_ret,retP_ret,retP_norm,retE_ret,retE_norm,retS_ret,retS_norm,wpO_some,frA_fn,klA_p,klA_nil,klA_own,resVs,resV,resT,Option.bind_some,Option.bind_none,Option.map_some,List.getD_cons_zero,List.getD_cons_succ,List.getD_nil,List.length_cons,List.length_nil,List.length_map,List.map_cons,List.map_nil,List.drop_zero,List.drop_succ_cons,List.take_succ_cons,List.take_zero,List.drop_nil,List.take_nil,Nat.reduceEqDiff,Nat.reduceAdd,Nat.reduceLeDiff,Nat.zero_add,Nat.add_zero,Prod.mk.injEq,and_true,true_and,and_false,false_and,and_self,if_true,if_false,ite_true,ite_false,Bool.not_true,Bool.not_false,Bool.not_eq_true',reduceCtorEq,decide_true,decide_false,frTs,frT,frL_p,spS,ofPT_a,ofPT_g,ofPT_t,flat_i,flat_b,flat_s,flat_l,flat_g,flatp_i,flatp_b,flatp_s,flatp_l,klTs,klT,Bool.and_false,Bool.false_and,frL,frA_p,frA_nil,frA_own,ownT,intT,Bool.or_true,Bool.true_or,Bool.false_eq_true,frL_p,klL_p,ownT_p,O.adds,List.all_cons,List.all_nil,List.any_cons,List.any_nil,ownA,evO.bslRows,List.replicate_succ,List.replicate_zero,List.set_cons_zero,rowsA,over,List.cons_append,List.nil_append,List.append_nil,fillA,Bool.and_self,Bool.and_true,Bool.true_and,Bool.or_self,Bool.or_false,Bool.false_or,Nat.reduceMul,Nat.one_mul,Nat.lt_add_one,klL,Nat.le_refl,ite_self,Nat.reduceBEq]
mutual
def uses : T → Int → Int
  | .mk k n s l,q => if k = 1 then (if n = q then 1 else 0) else usesL l (w (q + T.more (.mk k n s l))) 0
def usesL : List T → Int → Int → Int
  | [],_,a => a
  | t :: r,q,a => usesL r q (w (a + uses t q))
end
end Go.Proofs.Ytlgekplmbmkcmaa
end
