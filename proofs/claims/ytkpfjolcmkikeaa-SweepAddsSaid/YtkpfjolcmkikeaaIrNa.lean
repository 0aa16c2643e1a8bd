/- The functions of the seat, turned into instructions: each is what the compiler text makes of the given program, by the kernel. -/
import Derived.Test.YtkpfjolcmkikeaaProg
import Derived.Test.YtkpfjolcmkikeaaFb
namespace Go.Proofs.Ytkpfjolcmkikeaa
open Go.Fx


/- gossamer/gossamerlaw18.SweepTells -/
def F3 : FnC := ⟨1, (.seq (.reg [
  ia 1 (.box 2 (.t 0)),
ia 2 (.mv (.c (.a (.p (.b false)))))]) (.seq (.seq (.reg [
  ia 3 (.ld 2 true (.t 1)),
ia 4 (.call (.f 17) [(.t 3), (ci 150)]),
ia 5 (.not (.t 4))]) (.cond (.t 5) (.seq (.reg [
  ia 6 (.call (.f 18) []),
ia 2 (.mv (.t 6))]) .ret) .skip)) (.seq (.reg [
  ia 7 (.call (.f 18) []),
ia 8 (.mv (.t 7)),
ih 9 8 true (.ld 2 true (.t 1)),
ih 10 8 true (.call (.f 20) [(.t 9)]),
ih 11 8 true (.ld 2 true (.t 1)),
ig 12 8 true (.call (.f 21) [(.t 11)]),
ig 13 8 true (.call (.f 19) [(.t 10), (.t 12)]),
ia 14 (.pick (.t 8) (.t 13) (.c (.a (.p (.b false))))),
ia 15 (.mv (.t 14)),
ih 16 15 true (.ld 2 true (.t 1)),
ih 17 15 true (.call (.f 23) [(.t 16)]),
ih 18 15 true (.ld 2 true (.t 1)),
ig 19 15 true (.call (.f 24) [(.t 18)]),
ig 20 15 true (.call (.f 22) [(.t 17), (.t 19)]),
ia 21 (.pick (.t 15) (.t 20) (.c (.a (.p (.b false))))),
ia 2 (.mv (.t 21))]) .ret))), [(.tmp 2)]⟩
theorem cc3 : ccF Try.prog [(43, [0, 0]), (79, [1, 0]), (60, [0, 0]), (140, [0, 0]), (43, [9])] Try.f3 = some (stripF F3) := by kernel_rfl

/- gossamer/gossamerlaw18.SweepCloses -/
def F4b1 : C := (.seq (.seq (.reg [
  ia 92 (.mv (.t 7)),
ia 93 (.fad 0 (.t 1)),
ia 94 (.ld 1 false (.t 93)),
ia 95 (.mv (.t 5)),
ia 96 (.ias 6 (.t 94) (.t 95)),
ia 97 (.fad 5 (.t 96)),
ia 98 (.ld 1 false (.t 97)),
ia 99 (.len false (.t 98)),
ia 100 (.bin .lss (.t 92) (.t 99))]) (.cond (.t 100) .skip (.exit 2))) (.seq (.block 3 (.seq (.reg [
  ia 103 (.mv (.t 3)),
ia 104 (.fad 0 (.t 1)),
ia 105 (.ld 1 false (.t 104)),
ia 106 (.mv (.t 5)),
ia 107 (.ias 6 (.t 105) (.t 106)),
ia 108 (.fad 5 (.t 107)),
ia 109 (.ld 1 false (.t 108)),
ia 110 (.mv (.t 7)),
ia 111 (.ias 2 (.t 109) (.t 110)),
ia 112 (.fad 0 (.t 111)),
ia 113 (.ld 1 false (.t 112)),
ia 114 (.call (.f 27) [(.t 103), (.t 113)]),
ia 115 (.mv (.t 6)),
ia 116 (.eqb true (.t 114) (.t 115))]) (.cond (.t 116) (.seq (.reg [
  ia 2 (.mv (.c (.a (.p (.b false)))))]) .ret) .skip))) (.reg [
  ia 101 (.mv (.t 7)),
ia 102 (.bin .add (.t 101) (ci 1)),
ia 7 (.mv (.t 102))])))
def F4b0 : C := (.seq (.seq (.reg [
  ia 60 (.mv (.t 5)),
ia 61 (.fad 0 (.t 1)),
ia 62 (.ld 1 false (.t 61)),
ia 63 (.len false (.t 62)),
ia 64 (.bin .lss (.t 60) (.t 63))]) (.cond (.t 64) .skip (.exit 0))) (.seq (.block 1 (.seq (.reg [
  ia 67 (.mv (.t 3)),
ia 68 (.mv (.t 5)),
ia 69 (.call (.f 27) [(.t 67), (.t 68)]),
ia 6 (.mv (.t 69))]) (.seq (.seq (.reg [
  ia 70 (.mv (.t 6)),
ia 71 (.mv (.t 70)),
ih 72 71 true (.mv (.t 5)),
ih 73 71 true (.fad 0 (.t 4)),
ih 74 71 true (.ld 1 false (.t 73)),
ih 75 71 true (.len false (.t 74)),
ig 76 71 true (.bin .geq (.t 72) (.t 75)),
ig 77 71 true (.mv (.t 76)),
ih 78 77 false (.fad 0 (.t 4)),
ih 79 77 false (.ld 1 false (.t 78)),
ih 80 77 false (.mv (.t 5)),
ih 81 77 false (.ias 6 (.t 79) (.t 80)),
ih 82 77 false (.ld 6 true (.t 81)),
ih 83 77 false (.fad 0 (.t 1)),
ih 84 77 false (.ld 1 false (.t 83)),
ih 85 77 false (.mv (.t 5)),
ih 86 77 false (.ias 6 (.t 84) (.t 85)),
ih 87 77 false (.ld 6 true (.t 86)),
ig 88 77 false (.call (.f 28) [(.t 82), (.t 87)]),
ig 89 77 false (.not (.t 88)),
ig 90 71 true (.pick (.t 77) (.c (.a (.p (.b true)))) (.t 89)),
ia 91 (.pick (.t 71) (.t 90) (.c (.a (.p (.b false)))))]) (.cond (.t 91) (.seq (.reg [
  ia 2 (.mv (.c (.a (.p (.b false)))))]) .ret) .skip)) (.seq (.reg [
  ia 7 (.mv (ci 0))]) (.block 2 (.loop F4b1)))))) (.reg [
  ia 65 (.mv (.t 5)),
ia 66 (.bin .add (.t 65) (ci 1)),
ia 5 (.mv (.t 66))])))
def F4 : FnC := ⟨1, (.seq (.reg [
  ia 1 (.box 2 (.t 0)),
ia 2 (.mv (.c (.a (.p (.b false)))))]) (.seq (.seq (.reg [
  ia 8 (.call (.f 18) []),
ia 9 (.not (.t 8)),
ia 10 (.mv (.t 9)),
ig 11 10 false (.ld 2 true (.t 1)),
ig 12 10 false (.call (.f 17) [(.t 11), (ci 150)]),
ig 13 10 false (.not (.t 12)),
ia 14 (.pick (.t 10) (.c (.a (.p (.b true)))) (.t 13)),
ia 15 (.mv (.t 14)),
ig 16 15 false (.ld 2 true (.t 1)),
ig 17 15 false (.call (.f 25) [(.t 16)]),
ig 18 15 false (.bin .neq (.t 17) (ci 0)),
ia 19 (.pick (.t 15) (.c (.a (.p (.b true)))) (.t 18))]) (.cond (.t 19) (.seq (.reg [
  ia 20 (.call (.f 18) []),
ia 2 (.mv (.t 20))]) .ret) .skip)) (.seq (.reg [
  ia 21 (.ld 2 true (.t 1)),
ia 22 (.call (.f 20) [(.t 21)]),
ia 3 (.mv (.t 22))]) (.seq (.reg [
  ia 23 (.ld 2 true (.t 1)),
ia 24 (.call (.f 23) [(.t 23)]),
ia 4 (.new [.nil, (.p (.i .i64 0))]),
io (.st 2 (.t 4) (.t 24))]) (.seq (.seq (.reg [
  ia 25 (.ld 2 true (.t 4)),
ia 26 (.call (.f 25) [(.t 25)]),
ia 27 (.bin .neq (.t 26) (ci 0)),
ia 28 (.mv (.t 27)),
ih 29 28 false (.ld 2 true (.t 4)),
ih 30 28 false (.call (.f 26) [(.t 29)]),
ih 31 28 false (.mv (.t 3)),
ih 32 28 false (.len false (.t 31)),
ig 33 28 false (.bin .neq (.t 30) (.t 32)),
ia 34 (.pick (.t 28) (.c (.a (.p (.b true)))) (.t 33)),
ia 35 (.mv (.t 34)),
ih 36 35 false (.ld 2 true (.t 4)),
ih 37 35 false (.call (.f 23) [(.t 36)]),
ih 38 35 false (.ld 2 true (.t 4)),
ig 39 35 false (.call (.f 22) [(.t 37), (.t 38)]),
ig 40 35 false (.not (.t 39)),
ia 41 (.pick (.t 35) (.c (.a (.p (.b true)))) (.t 40)),
ia 42 (.mv (.t 41)),
ih 43 42 false (.ld 2 true (.t 4)),
ih 44 42 false (.call (.f 20) [(.t 43)]),
ih 45 42 false (.mv (.t 3)),
ig 46 42 false (.call (.f 19) [(.t 44), (.t 45)]),
ig 47 42 false (.not (.t 46)),
ia 48 (.pick (.t 42) (.c (.a (.p (.b true)))) (.t 47)),
ia 49 (.mv (.t 48)),
ig 50 49 false (.mv (.t 3)),
ig 51 49 false (.len false (.t 50)),
ig 52 49 false (.bin .lss (.t 51) (ci 1)),
ia 53 (.pick (.t 49) (.c (.a (.p (.b true)))) (.t 52)),
ia 54 (.mv (.t 53)),
ig 55 54 false (.mv (.t 3)),
ig 56 54 false (.ias 1 (.t 55) (ci 0)),
ig 57 54 false (.ld 1 false (.t 56)),
ig 58 54 false (.bin .neq (.t 57) (ci 0)),
ia 59 (.pick (.t 54) (.c (.a (.p (.b true)))) (.t 58))]) (.cond (.t 59) (.seq (.reg [
  ia 2 (.mv (.c (.a (.p (.b false)))))]) .ret) .skip)) (.seq (.seq (.reg [
  ia 5 (.mv (ci 0))]) (.block 0 (.loop F4b0))) (.seq (.reg [
  ia 117 (.fad 1 (.t 4)),
ia 118 (.ld 1 false (.t 117)),
ia 119 (.fad 1 (.t 1)),
ia 120 (.ld 1 false (.t 119)),
ia 121 (.bin .eql (.t 118) (.t 120)),
ia 2 (.mv (.t 121))]) .ret))))))), [(.tmp 2)]⟩
theorem cc4 : ccF Try.prog [(43, [0, 0]), (79, [1, 0]), (60, [0, 0]), (140, [0, 0]), (43, [9])] Try.f4 = some (stripF F4) := by kernel_rfl

/- gossamer/gossamerlaw18.SweepWoven -/
def F5 : FnC := ⟨1, (.seq (.reg [
  ia 1 (.box 4 (.t 0)),
ia 2 (.mv (.c (.a (.p (.b false)))))]) (.seq (.seq (.reg [
  ia 5 (.call (.f 18) []),
ia 6 (.not (.t 5)),
ia 7 (.mv (.t 6)),
ig 8 7 false (.ld 4 true (.t 1)),
ig 9 7 false (.call (.f 29) [(.t 8), (ci 80)]),
ig 10 7 false (.not (.t 9)),
ia 11 (.pick (.t 7) (.c (.a (.p (.b true)))) (.t 10)),
ia 12 (.mv (.t 11)),
ig 13 12 false (.ld 4 true (.t 1)),
ig 14 12 false (.call (.f 30) [(.t 13)]),
ig 15 12 false (.bin .gtr (.t 14) (ci 50)),
ia 16 (.pick (.t 12) (.c (.a (.p (.b true)))) (.t 15)),
ia 17 (.mv (.t 16)),
ig 18 17 false (.ld 4 true (.t 1)),
ig 19 17 false (.call (.f 31) [(.t 18), (ci 0)]),
ig 20 17 false (.not (.t 19)),
ia 21 (.pick (.t 17) (.c (.a (.p (.b true)))) (.t 20))]) (.cond (.t 21) (.seq (.reg [
  ia 22 (.call (.f 18) []),
ia 2 (.mv (.t 22))]) .ret) .skip)) (.seq (.reg [
  ia 24 (.ld 4 true (.t 1)),
ia 25 (.call (.f 32) [(.t 24), (ci 4000)]),
ia 23 (.mv (.t 25)),
ia 26 (.ext (.t 23) 0),
ia 27 (.ext (.t 23) 1),
ia 3 (.new [.nil, (.p (.i .i64 0))]),
io (.st 2 (.t 3) (.t 26)),
ia 4 (.mv (.t 27))]) (.seq (.reg [
  ia 28 (.mv (.t 4)),
ia 29 (.bin .eql (.t 28) (ci 0)),
ia 30 (.mv (.t 29)),
ih 31 30 true (.ld 2 true (.t 3)),
ih 32 30 true (.call (.f 20) [(.t 31)]),
ih 33 30 true (.len false (.t 32)),
ih 34 30 true (.fad 0 (.t 3)),
ih 35 30 true (.ld 1 false (.t 34)),
ih 36 30 true (.len false (.t 35)),
ig 37 30 true (.bin .eql (.t 33) (.t 36)),
ia 38 (.pick (.t 30) (.t 37) (.c (.a (.p (.b false))))),
ia 39 (.mv (.t 38)),
ih 40 39 true (.ld 2 true (.t 3)),
ih 41 39 true (.call (.f 23) [(.t 40)]),
ih 42 39 true (.ld 2 true (.t 3)),
ig 43 39 true (.call (.f 22) [(.t 41), (.t 42)]),
ia 44 (.pick (.t 39) (.t 43) (.c (.a (.p (.b false))))),
ia 2 (.mv (.t 44))]) .ret)))), [(.tmp 2)]⟩
theorem cc5 : ccF Try.prog [(43, [0, 0]), (79, [1, 0]), (60, [0, 0]), (140, [0, 0]), (43, [9])] Try.f5 = some (stripF F5) := by kernel_rfl

/- gossamer/gossamerlaw18.SweepAdds -/
def F6 : FnC := ⟨2, (.seq (.reg [
  ia 2 (.box 2 (.t 0)),
ia 4 (.mv (.c (.a (.p (.b false)))))]) (.seq (.seq (.reg [
  ia 13 (.call (.f 18) []),
ia 14 (.not (.t 13)),
ia 15 (.mv (.t 14)),
ig 16 15 false (.ld 2 true (.t 2)),
ig 17 15 false (.call (.f 17) [(.t 16), (ci 100)]),
ig 18 15 false (.not (.t 17)),
ia 19 (.pick (.t 15) (.c (.a (.p (.b true)))) (.t 18)),
ia 20 (.mv (.t 19)),
ig 21 20 false (.ld 2 true (.t 2)),
ig 22 20 false (.call (.f 25) [(.t 21)]),
ig 23 20 false (.bin .neq (.t 22) (ci 0)),
ia 24 (.pick (.t 20) (.c (.a (.p (.b true)))) (.t 23)),
ia 25 (.mv (.t 24)),
ig 26 25 false (.mv (.t 1)),
ig 27 25 false (.bin .lss (.t 26) (ci 0)),
ia 28 (.pick (.t 25) (.c (.a (.p (.b true)))) (.t 27)),
ia 29 (.mv (.t 28)),
ig 30 29 false (.mv (.t 1)),
ig 31 29 false (.bin .gtr (.t 30) (ci 60)),
ia 32 (.pick (.t 29) (.c (.a (.p (.b true)))) (.t 31))]) (.cond (.t 32) (.seq (.reg [
  ia 33 (.call (.f 18) []),
ia 4 (.mv (.t 33))]) .ret) .skip)) (.seq (.reg [
  ia 34 (.fad 1 (.t 2)),
ia 35 (.ld 1 false (.t 34)),
ia 36 (.fad 0 (.t 2)),
ia 37 (.ld 1 false (.t 36)),
ia 38 (.len false (.t 37)),
ia 39 (.bin .add (.t 38) (ci 2)),
ia 40 (.mx (.t 35) (.t 39)),
ia 41 (.fad 1 (.t 2)),
io (.st 1 (.t 41) (.t 40))]) (.seq (.reg [
  ia 43 (.ld 2 true (.t 2)),
ia 44 (.mv (.t 1)),
ia 45 (.build [(.p (.i .i64 0)), (.p (.i .i64 0)), (.p (.i .i64 0)), (.p (.s [])), .nil, .nil] [(0, (1, (ci 7))), (1, (1, (.t 44)))]),
ia 46 (.call (.f 33) [(.t 43), (.t 45)]),
ia 42 (.mv (.t 46)),
ia 47 (.ext (.t 42) 0),
ia 48 (.ext (.t 42) 1),
ia 49 (.ext (.t 42) 2),
ia 5 (.new [.nil, (.p (.i .i64 0))]),
io (.st 2 (.t 5) (.t 47)),
ia 6 (.mv (.t 48)),
ia 7 (.mv (.t 49))]) (.fz [5] (.seq (.reg [
  ia 51 (.ld 2 true (.t 5)),
ia 52 (.mv (.t 1)),
ia 53 (.build [(.p (.i .i64 0)), (.p (.i .i64 0)), (.p (.i .i64 0)), (.p (.s [])), .nil, .nil] [(0, (1, (ci 10))), (1, (1, (.t 52))), (2, (1, (ci 3)))]),
ia 54 (.call (.f 33) [(.t 51), (.t 53)]),
ia 50 (.mv (.t 54)),
ia 55 (.ext (.t 50) 0),
ia 56 (.ext (.t 50) 1),
ia 57 (.ext (.t 50) 2),
ia 8 (.new [.nil, (.p (.i .i64 0))]),
io (.st 2 (.t 8) (.t 55)),
ia 9 (.mv (.t 56)),
ia 10 (.mv (.t 57))]) (.seq (.seq (.reg [
  ia 58 (.mv (.t 7)),
ia 59 (.bin .neq (.t 58) (ci 0)),
ia 60 (.mv (.t 59)),
ig 61 60 false (.mv (.t 10)),
ig 62 60 false (.bin .neq (.t 61) (ci 0)),
ia 63 (.pick (.t 60) (.c (.a (.p (.b true)))) (.t 62))]) (.cond (.t 63) (.seq (.reg [
  ia 4 (.mv (.c (.a (.p (.b false)))))]) .ret) .skip)) (.seq (.reg [
  ia 64 (.fad 0 (.t 8)),
ia 65 (.ld 1 false (.t 64)),
ia 66 (.mv (.t 6)),
ia 67 (.ias 6 (.t 65) (.t 66)),
ia 68 (.ld 6 true (.t 67)),
ia 11 (.new [(.p (.i .i64 0)), (.p (.i .i64 0)), (.p (.i .i64 0)), (.p (.s [])), .nil, .nil]),
io (.st 6 (.t 11) (.t 68))]) (.seq (.reg [
  ia 69 (.mv (.t 9)),
ia 70 (.build [(.p (.i .i64 0)), (.p (.i .i64 0))] [(0, (1, (.t 69)))]),
ia 71 (.bsl 2 43 [(.p (.i .i64 0)), (.p (.i .i64 0))] 1 [(0, (.t 70))]),
ia 72 (.fad 5 (.t 11)),
io (.st 1 (.t 72) (.t 71))]) (.seq (.reg [
  ia 73 (.fad 0 (.t 8)),
ia 74 (.ld 1 false (.t 73)),
ia 75 (.mv (.t 6)),
ia 76 (.ld 6 true (.t 11)),
ia 77 (.ias 6 (.t 74) (.t 75)),
io (.st 6 (.t 77) (.t 76))]) (.seq (.reg [
  ia 78 (.fad 0 (.t 8)),
ia 79 (.ld 1 false (.t 78)),
ia 80 (.mv (.t 9)),
ia 81 (.ias 6 (.t 79) (.t 80)),
ia 82 (.ld 6 true (.t 81)),
ia 12 (.new [(.p (.i .i64 0)), (.p (.i .i64 0)), (.p (.i .i64 0)), (.p (.s [])), .nil, .nil]),
io (.st 6 (.t 12) (.t 82))]) (.seq (.reg [
  ia 83 (.mv (.t 6)),
ia 84 (.build [(.p (.i .i64 0)), (.p (.i .i64 0))] [(0, (1, (.t 83)))]),
ia 85 (.bsl 2 43 [(.p (.i .i64 0)), (.p (.i .i64 0))] 1 [(0, (.t 84))]),
ia 86 (.fad 5 (.t 12)),
io (.st 1 (.t 86) (.t 85))]) (.seq (.reg [
  ia 87 (.fad 0 (.t 8)),
ia 88 (.ld 1 false (.t 87)),
ia 89 (.mv (.t 9)),
ia 90 (.ld 6 true (.t 12)),
ia 91 (.ias 6 (.t 88) (.t 89)),
io (.st 6 (.t 91) (.t 90))]) (.fz [8] (.seq (.reg [
  ia 92 (.ld 2 true (.t 8)),
ia 93 (.call (.f 25) [(.t 92)]),
ia 94 (.bin .eql (.t 93) (ci 0)),
ia 95 (.mv (.t 94)),
ih 96 95 true (.ld 2 true (.t 8)),
ih 97 95 true (.call (.f 23) [(.t 96)]),
ih 98 95 true (.ld 2 true (.t 2)),
ig 99 95 true (.call (.f 23) [(.t 98)]),
ig 100 95 true (.call (.f 22) [(.t 97), (.t 99)]),
ia 101 (.pick (.t 95) (.t 100) (.c (.a (.p (.b false))))),
ia 102 (.mv (.t 101)),
ih 103 102 true (.ld 2 true (.t 8)),
ih 104 102 true (.call (.f 20) [(.t 103)]),
ih 105 102 true (.ld 2 true (.t 2)),
ig 106 102 true (.call (.f 20) [(.t 105)]),
ig 107 102 true (.call (.f 19) [(.t 104), (.t 106)]),
ia 108 (.pick (.t 102) (.t 107) (.c (.a (.p (.b false))))),
ia 4 (.mv (.t 108))]) .ret))))))))))))))), [(.tmp 4)]⟩
theorem cc6 : ccF Try.prog [(43, [0, 0]), (79, [1, 0]), (60, [0, 0]), (140, [0, 0]), (43, [9])] Try.f6 = some (stripF F6) := by kernel_rfl

/- gossamer/gossamerlaw19.WalkThere -/
def F7 : FnC := ⟨2, (.seq (.reg [
  ia 2 (.box 2 (.t 0)),
ia 3 (.box 2 (.t 1)),
ia 4 (.mv (.c (.a (.p (.b false)))))]) (.seq (.seq (.reg [
  ia 15 (.call (.f 34) []),
ia 16 (.not (.t 15)),
ia 17 (.mv (.t 16)),
ig 18 17 false (.ld 2 true (.t 2)),
ig 19 17 false (.call (.f 17) [(.t 18), (ci 150)]),
ig 20 17 false (.not (.t 19)),
ia 21 (.pick (.t 17) (.c (.a (.p (.b true)))) (.t 20)),
ia 22 (.mv (.t 21)),
ig 23 22 false (.ld 2 true (.t 2)),
ig 24 22 false (.call (.f 25) [(.t 23)]),
ig 25 22 false (.bin .neq (.t 24) (ci 0)),
ia 26 (.pick (.t 22) (.c (.a (.p (.b true)))) (.t 25)),
ia 27 (.mv (.t 26)),
ig 28 27 false (.ld 2 true (.t 2)),
ig 29 27 false (.ld 2 true (.t 3)),
ig 30 27 false (.call (.f 35) [(.t 28), (.t 29)]),
ig 31 27 false (.not (.t 30)),
ia 32 (.pick (.t 27) (.c (.a (.p (.b true)))) (.t 31))]) (.cond (.t 32) (.seq (.reg [
  ia 33 (.call (.f 34) []),
ia 4 (.mv (.t 33))]) .ret) .skip)) (.seq (.reg [
  ia 35 (.ld 2 true (.t 2)),
ia 36 (.ld 2 true (.t 3)),
ia 37 (.call (.f 36) [(.t 35), (.t 36)]),
ia 34 (.mv (.t 37)),
ia 38 (.ext (.t 34) 0),
ia 39 (.ext (.t 34) 1),
ia 40 (.ext (.t 34) 2),
ia 5 (.mv (.t 38)),
ia 6 (.mv (.t 39)),
ia 7 (.mv (.t 40))]) (.seq (.seq (.reg [
  ia 41 (.mv (.t 7)),
ia 42 (.bin .neq (.t 41) (ci 0))]) (.cond (.t 42) (.seq (.reg [
  ia 43 (.mv (.t 6)),
ia 44 (.not (.t 43)),
ia 4 (.mv (.t 44))]) .ret) .skip)) (.seq (.reg [
  ia 45 (.fad 0 (.t 2)),
ia 46 (.ld 1 false (.t 45)),
ia 47 (.mv (.t 5)),
ia 48 (.ias 6 (.t 46) (.t 47)),
ia 49 (.fad 5 (.t 48)),
ia 50 (.ld 1 false (.t 49)),
ia 51 (.ias 2 (.t 50) (ci 0)),
ia 52 (.ld 2 true (.t 51)),
ia 8 (.new [(.p (.i .i64 0)), (.p (.i .i64 0))]),
io (.st 2 (.t 8) (.t 52))]) (.seq (.seq (.reg [
  ia 53 (.mv (.t 6)),
ia 54 (.not (.t 53))]) (.cond (.t 54) (.seq (.reg [
  ia 55 (.ld 2 true (.t 8)),
ia 56 (.ld 2 true (.t 3)),
ia 57 (.eqg false [0, 0] (.t 55) (.t 56)),
ia 58 (.mv (.t 57)),
ig 59 58 true (.ld 2 true (.t 2)),
ig 60 58 true (.ld 2 true (.t 3)),
ig 61 58 true (.call (.f 37) [(.t 59), (.t 60)]),
ig 62 58 true (.len false (.t 61)),
ig 63 58 true (.bin .eql (.t 62) (ci 1)),
ia 64 (.pick (.t 58) (.t 63) (.c (.a (.p (.b false))))),
ia 4 (.mv (.t 64))]) .ret) .skip)) (.seq (.reg [
  ir 66 (.ld 2 true (.t 2)),
ir 67 (.mv (.t 5)),
ir 68 (.call (.f 38) [(.t 67), (ci 0)]),
ia 69 (.call (.f 36) [(.t 66), (.t 68)]),
ia 65 (.mv (.t 69)),
ir 70 (.ext (.t 65) 0),
ir 71 (.ext (.t 65) 1),
ir 72 (.ext (.t 65) 2),
ir 9 (.mv (.t 70)),
ir 10 (.mv (.t 71)),
ia 11 (.mv (.t 72))]) (.seq (.reg [
  ia 74 (.ld 2 true (.t 2)),
ia 75 (.ld 2 true (.t 8)),
ia 76 (.call (.f 36) [(.t 74), (.t 75)]),
ia 73 (.mv (.t 76)),
ia 77 (.ext (.t 73) 0),
ia 78 (.ext (.t 73) 1),
ia 79 (.ext (.t 73) 2),
ia 12 (.mv (.t 77)),
ia 13 (.mv (.t 78)),
ia 14 (.mv (.t 79))]) (.seq (.reg [
  ia 80 (.fad 1 (.t 8)),
ia 81 (.ld 1 false (.t 80)),
ia 82 (.bin .eql (.t 81) (ci 0)),
ia 83 (.mv (.t 82)),
ig 84 83 true (.mv (.t 9)),
ig 85 83 true (.fad 0 (.t 8)),
ig 86 83 true (.ld 1 false (.t 85)),
ig 87 83 true (.bin .eql (.t 84) (.t 86)),
ia 88 (.pick (.t 83) (.t 87) (.c (.a (.p (.b false))))),
ia 89 (.mv (.t 88)),
ig 90 89 true (.mv (.t 10)),
ig 91 89 true (.not (.t 90)),
ia 92 (.pick (.t 89) (.t 91) (.c (.a (.p (.b false))))),
ia 93 (.mv (.t 92)),
ig 94 93 true (.mv (.t 11)),
ig 95 93 true (.bin .eql (.t 94) (ci 0)),
ia 96 (.pick (.t 93) (.t 95) (.c (.a (.p (.b false))))),
ia 97 (.mv (.t 96)),
ig 98 97 true (.mv (.t 12)),
ig 99 97 true (.mv (.t 5)),
ig 100 97 true (.bin .eql (.t 98) (.t 99)),
ia 101 (.pick (.t 97) (.t 100) (.c (.a (.p (.b false))))),
ia 102 (.mv (.t 101)),
ig 103 102 true (.mv (.t 13)),
ig 104 102 true (.not (.t 103)),
ia 105 (.pick (.t 102) (.t 104) (.c (.a (.p (.b false))))),
ia 106 (.mv (.t 105)),
ig 107 106 true (.mv (.t 14)),
ig 108 106 true (.bin .eql (.t 107) (ci 0)),
ia 109 (.pick (.t 106) (.t 108) (.c (.a (.p (.b false))))),
ia 4 (.mv (.t 109))]) .ret))))))))), [(.tmp 4)]⟩
theorem cc7 : ccF Try.prog [(43, [0, 0]), (79, [1, 0]), (60, [0, 0]), (140, [0, 0]), (43, [9])] Try.f7 = some (stripF F7) := by kernel_rfl

/- gossamer/gossamerlaw19.WalkWoven -/
def F8 : FnC := ⟨1, (.seq (.reg [
  ia 1 (.box 4 (.t 0)),
ia 2 (.mv (.c (.a (.p (.b false)))))]) (.seq (.seq (.reg [
  ia 9 (.call (.f 34) []),
ia 10 (.not (.t 9)),
ia 11 (.mv (.t 10)),
ig 12 11 false (.ld 4 true (.t 1)),
ig 13 11 false (.call (.f 29) [(.t 12), (ci 80)]),
ig 14 11 false (.not (.t 13)),
ia 15 (.pick (.t 11) (.c (.a (.p (.b true)))) (.t 14)),
ia 16 (.mv (.t 15)),
ig 17 16 false (.ld 4 true (.t 1)),
ig 18 16 false (.call (.f 30) [(.t 17)]),
ig 19 16 false (.bin .gtr (.t 18) (ci 50)),
ia 20 (.pick (.t 16) (.c (.a (.p (.b true)))) (.t 19)),
ia 21 (.mv (.t 20)),
ig 22 21 false (.ld 4 true (.t 1)),
ig 23 21 false (.call (.f 31) [(.t 22), (ci 0)]),
ig 24 21 false (.not (.t 23)),
ia 25 (.pick (.t 21) (.c (.a (.p (.b true)))) (.t 24))]) (.cond (.t 25) (.seq (.reg [
  ia 26 (.call (.f 34) []),
ia 2 (.mv (.t 26))]) .ret) .skip)) (.seq (.reg [
  ia 28 (.ld 4 true (.t 1)),
ia 29 (.call (.f 32) [(.t 28), (ci 4000)]),
ia 27 (.mv (.t 29)),
ia 30 (.ext (.t 27) 0),
ia 31 (.ext (.t 27) 1),
ia 3 (.new [.nil, (.p (.i .i64 0))]),
io (.st 2 (.t 3) (.t 30)),
ia 4 (.mv (.t 31))]) (.seq (.seq (.reg [
  ia 32 (.mv (.t 4)),
ia 33 (.bin .neq (.t 32) (ci 0))]) (.cond (.t 33) (.seq (.reg [
  ia 2 (.mv (.c (.a (.p (.b false)))))]) .ret) .skip)) (.seq (.reg [
  ia 35 (.ld 2 true (.t 3)),
ia 36 (.build [(.p (.i .i64 0)), (.p (.i .i64 0))] []),
ia 37 (.call (.f 36) [(.t 35), (.t 36)]),
ia 34 (.mv (.t 37)),
ia 38 (.ext (.t 34) 0),
ia 39 (.ext (.t 34) 1),
ia 40 (.ext (.t 34) 2),
ia 5 (.mv (.t 38)),
ia 6 (.mv (.t 39)),
ia 7 (.mv (.t 40))]) (.seq (.reg [
  ia 41 (.fad 0 (.t 1)),
ia 42 (.ld 1 false (.t 41)),
ia 43 (.bin .eql (.t 42) (ci 2)),
ia 44 (.mv (.t 43)),
ig 45 44 false (.fad 0 (.t 1)),
ig 46 44 false (.ld 1 false (.t 45)),
ig 47 44 false (.bin .eql (.t 46) (ci 4)),
ia 48 (.pick (.t 44) (.c (.a (.p (.b true)))) (.t 47)),
ia 49 (.mv (.t 48)),
ig 50 49 false (.fad 0 (.t 1)),
ig 51 49 false (.ld 1 false (.t 50)),
ig 52 49 false (.bin .eql (.t 51) (ci 7)),
ia 53 (.pick (.t 49) (.c (.a (.p (.b true)))) (.t 52)),
ia 54 (.mv (.t 53)),
ig 55 54 false (.fad 0 (.t 1)),
ig 56 54 false (.ld 1 false (.t 55)),
ig 57 54 false (.bin .eql (.t 56) (ci 9)),
ia 58 (.pick (.t 54) (.c (.a (.p (.b true)))) (.t 57)),
ia 8 (.mv (.t 58))]) (.seq (.reg [
  ia 59 (.mv (.t 7)),
ia 60 (.bin .eql (.t 59) (ci 0)),
ia 61 (.mv (.t 60)),
ig 62 61 true (.mv (.t 6)),
ig 63 61 true (.mv (.t 8)),
ig 64 61 true (.eqb true (.t 62) (.t 63)),
ia 65 (.pick (.t 61) (.t 64) (.c (.a (.p (.b false))))),
ia 66 (.mv (.t 65)),
ig 67 66 true (.mv (.t 5)),
ig 68 66 true (.bin .gtr (.t 67) (ci 0)),
ia 69 (.pick (.t 66) (.t 68) (.c (.a (.p (.b false))))),
ia 70 (.mv (.t 69)),
ig 71 70 true (.mv (.t 5)),
ig 72 70 true (.fad 0 (.t 3)),
ig 73 70 true (.ld 1 false (.t 72)),
ig 74 70 true (.len false (.t 73)),
ig 75 70 true (.bin .lss (.t 71) (.t 74)),
ia 76 (.pick (.t 70) (.t 75) (.c (.a (.p (.b false))))),
ia 2 (.mv (.t 76))]) .ret))))))), [(.tmp 2)]⟩
theorem cc8 : ccF Try.prog [(43, [0, 0]), (79, [1, 0]), (60, [0, 0]), (140, [0, 0]), (43, [9])] Try.f8 = some (stripF F8) := by kernel_rfl

/- gossamer/gossamerlaw19.WalkNone -/
def F9 : FnC := ⟨2, (.seq (.reg [
  ia 2 (.box 2 (.t 0)),
ia 3 (.box 2 (.t 1)),
ia 4 (.mv (.c (.a (.p (.b false)))))]) (.seq (.seq (.reg [
  ia 9 (.call (.f 34) []),
ia 10 (.not (.t 9)),
ia 11 (.mv (.t 10)),
ig 12 11 false (.ld 2 true (.t 2)),
ig 13 11 false (.call (.f 17) [(.t 12), (ci 150)]),
ig 14 11 false (.not (.t 13)),
ia 15 (.pick (.t 11) (.c (.a (.p (.b true)))) (.t 14))]) (.cond (.t 15) (.seq (.reg [
  ia 16 (.call (.f 34) []),
ia 4 (.mv (.t 16))]) .ret) .skip)) (.seq (.reg [
  ia 18 (.ld 2 true (.t 2)),
ia 19 (.ld 2 true (.t 3)),
ia 20 (.call (.f 36) [(.t 18), (.t 19)]),
ia 17 (.mv (.t 20)),
ia 21 (.ext (.t 17) 0),
ia 22 (.ext (.t 17) 1),
ia 23 (.ext (.t 17) 2),
ia 5 (.mv (.t 21)),
ia 6 (.mv (.t 22)),
ia 7 (.mv (.t 23))]) (.seq (.reg [
  ia 24 (.ld 2 true (.t 2)),
ia 25 (.ld 2 true (.t 3)),
ia 26 (.call (.f 37) [(.t 24), (.t 25)]),
ia 8 (.mv (.t 26))]) (.seq (.seq (.reg [
  ia 27 (.ld 2 true (.t 2)),
ia 28 (.call (.f 25) [(.t 27)]),
ia 29 (.bin .neq (.t 28) (ci 0))]) (.cond (.t 29) (.seq (.reg [
  ia 30 (.mv (.t 7)),
ia 31 (.bin .eql (.t 30) (ci 120)),
ia 32 (.mv (.t 31)),
ig 33 32 true (.mv (.t 8)),
ig 34 32 true (.len false (.t 33)),
ig 35 32 true (.bin .eql (.t 34) (ci 0)),
ia 36 (.pick (.t 32) (.t 35) (.c (.a (.p (.b false))))),
ia 4 (.mv (.t 36))]) .ret) .skip)) (.seq (.seq (.reg [
  ia 37 (.ld 2 true (.t 2)),
ia 38 (.ld 2 true (.t 3)),
ia 39 (.call (.f 35) [(.t 37), (.t 38)]),
ia 40 (.not (.t 39))]) (.cond (.t 40) (.seq (.reg [
  ia 41 (.mv (.t 7)),
ia 42 (.bin .eql (.t 41) (ci 130)),
ia 43 (.mv (.t 42)),
ig 44 43 true (.mv (.t 8)),
ig 45 43 true (.len false (.t 44)),
ig 46 43 true (.bin .eql (.t 45) (ci 0)),
ia 47 (.pick (.t 43) (.t 46) (.c (.a (.p (.b false))))),
ia 4 (.mv (.t 47))]) .ret) .skip)) (.seq (.reg [
  ia 48 (.mv (.t 7)),
ia 49 (.bin .neq (.t 48) (ci 120)),
ia 50 (.mv (.t 49)),
ig 51 50 true (.mv (.t 7)),
ig 52 50 true (.bin .neq (.t 51) (ci 130)),
ia 53 (.pick (.t 50) (.t 52) (.c (.a (.p (.b false))))),
ia 54 (.mv (.t 53)),
ig 55 54 true (.mv (.t 8)),
ig 56 54 true (.len false (.t 55)),
ig 57 54 true (.bin .geq (.t 56) (ci 1)),
ia 58 (.pick (.t 54) (.t 57) (.c (.a (.p (.b false))))),
ia 59 (.mv (.t 58)),
ig 60 59 true (.mv (.t 8)),
ig 61 59 true (.len false (.t 60)),
ig 62 59 true (.ld 2 true (.t 2)),
ig 63 59 true (.call (.f 26) [(.t 62)]),
ig 64 59 true (.bin .leq (.t 61) (.t 63)),
ia 65 (.pick (.t 59) (.t 64) (.c (.a (.p (.b false))))),
ia 4 (.mv (.t 65))]) .ret))))))), [(.tmp 4)]⟩
theorem cc9 : ccF Try.prog [(43, [0, 0]), (79, [1, 0]), (60, [0, 0]), (140, [0, 0]), (43, [9])] Try.f9 = some (stripF F9) := by kernel_rfl

/- gossamer/gossamerlaw17.PairsTell -/
def F10 : FnC := ⟨2, (.seq (.reg [
  ia 2 (.box 2 (.t 0)),
ia 4 (.mv (.c (.a (.p (.b false)))))]) (.seq (.seq (.reg [
  ia 9 (.ld 2 true (.t 2)),
ia 10 (.call (.f 17) [(.t 9), (ci 150)]),
ia 11 (.not (.t 10))]) (.cond (.t 11) (.seq (.reg [
  ia 12 (.call (.f 39) []),
ia 4 (.mv (.t 12))]) .ret) .skip)) (.seq (.reg [
  ia 14 (.ld 2 true (.t 2)),
ia 15 (.mv (.t 1)),
ia 16 (.call (.f 40) [(.t 14), (.t 15)]),
ia 13 (.mv (.t 16)),
ia 17 (.ext (.t 13) 0),
ia 18 (.ext (.t 13) 1),
ia 5 (.new [(.p (.i .i64 0)), (.p (.i .i64 0))]),
io (.st 2 (.t 5) (.t 17)),
ia 6 (.mv (.t 18))]) (.seq (.reg [
  ia 20 (.ld 2 true (.t 2)),
ia 21 (.mv (.t 1)),
ia 22 (.call (.f 41) [(.t 20), (.t 21)]),
ia 19 (.mv (.t 22)),
ia 23 (.ext (.t 19) 0),
ia 24 (.ext (.t 19) 1),
ia 7 (.new [(.p (.i .i64 0)), (.p (.i .i64 0))]),
io (.st 2 (.t 7) (.t 23)),
ia 8 (.mv (.t 24))]) (.seq (.reg [
  ia 25 (.call (.f 39) []),
ia 26 (.mv (.t 25)),
ih 27 26 true (.ld 2 true (.t 2)),
ih 28 26 true (.call (.f 43) [(.t 27)]),
ih 29 26 true (.ld 2 true (.t 2)),
ig 30 26 true (.call (.f 44) [(.t 29)]),
ig 31 26 true (.call (.f 42) [(.t 28), (.t 30)]),
ia 32 (.pick (.t 26) (.t 31) (.c (.a (.p (.b false))))),
ia 33 (.mv (.t 32)),
ih 34 33 true (.ld 2 true (.t 2)),
ih 35 33 true (.call (.f 45) [(.t 34)]),
ih 36 33 true (.ld 2 true (.t 2)),
ig 37 33 true (.call (.f 46) [(.t 36)]),
ig 38 33 true (.call (.f 42) [(.t 35), (.t 37)]),
ia 39 (.pick (.t 33) (.t 38) (.c (.a (.p (.b false))))),
ia 40 (.mv (.t 39)),
ih 41 40 true (.ld 2 true (.t 5)),
ih 42 40 true (.ld 2 true (.t 7)),
ig 43 40 true (.eqg false [0, 0] (.t 41) (.t 42)),
ia 44 (.pick (.t 40) (.t 43) (.c (.a (.p (.b false))))),
ia 45 (.mv (.t 44)),
ih 46 45 true (.mv (.t 6)),
ih 47 45 true (.mv (.t 8)),
ig 48 45 true (.eqb false (.t 46) (.t 47)),
ia 49 (.pick (.t 45) (.t 48) (.c (.a (.p (.b false))))),
ia 4 (.mv (.t 49))]) .ret))))), [(.tmp 4)]⟩
theorem cc10 : ccF Try.prog [(43, [0, 0]), (79, [1, 0]), (60, [0, 0]), (140, [0, 0]), (43, [9])] Try.f10 = some (stripF F10) := by kernel_rfl

/- gossamer/gossamerlaw17.PairsPick -/
def F11b0 : C := (.seq (.seq (.reg [
  ia 68 (.mv (.t 12)),
ia 69 (.mv (.t 5)),
ia 70 (.len false (.t 69)),
ia 71 (.bin .lss (.t 68) (.t 70))]) (.cond (.t 71) .skip (.exit 0))) (.seq (.block 1 (.seq (.reg [
  ia 75 (.ld 2 true (.t 2)),
ia 76 (.mv (.t 12)),
ia 77 (.call (.f 40) [(.t 75), (.t 76)]),
ia 74 (.mv (.t 77)),
ia 78 (.ext (.t 74) 0),
ia 79 (.ext (.t 74) 1),
ia 13 (.new [(.p (.i .i64 0)), (.p (.i .i64 0))]),
io (.st 2 (.t 13) (.t 78)),
ia 14 (.mv (.t 79))]) (.seq (.reg [
  ia 80 (.mv (.t 14)),
ia 81 (.not (.t 80)),
ia 82 (.mv (.t 81)),
ih 83 82 false (.ld 2 true (.t 13)),
ih 84 82 false (.mv (.t 5)),
ih 85 82 false (.mv (.t 12)),
ih 86 82 false (.ias 2 (.t 84) (.t 85)),
ih 87 82 false (.ld 2 true (.t 86)),
ig 88 82 false (.eqg true [0, 0] (.t 83) (.t 87)),
ia 89 (.pick (.t 82) (.c (.a (.p (.b true)))) (.t 88))]) (.cond (.t 89) (.seq (.reg [
  ia 4 (.mv (.c (.a (.p (.b false)))))]) .ret) .skip)))) (.reg [
  ia 72 (.mv (.t 12)),
ia 73 (.bin .add (.t 72) (ci 1)),
ia 12 (.mv (.t 73))])))
def F11 : FnC := ⟨2, (.seq (.reg [
  ia 2 (.box 2 (.t 0)),
ia 4 (.mv (.c (.a (.p (.b false)))))]) (.seq (.seq (.reg [
  ia 15 (.call (.f 39) []),
ia 16 (.not (.t 15)),
ia 17 (.mv (.t 16)),
ig 18 17 false (.ld 2 true (.t 2)),
ig 19 17 false (.call (.f 17) [(.t 18), (ci 120)]),
ig 20 17 false (.not (.t 19)),
ia 21 (.pick (.t 17) (.c (.a (.p (.b true)))) (.t 20)),
ia 22 (.mv (.t 21)),
ig 23 22 false (.ld 2 true (.t 2)),
ig 24 22 false (.call (.f 25) [(.t 23)]),
ig 25 22 false (.bin .neq (.t 24) (ci 0)),
ia 26 (.pick (.t 22) (.c (.a (.p (.b true)))) (.t 25)),
ia 27 (.mv (.t 26)),
ig 28 27 false (.mv (.t 1)),
ig 29 27 false (.bin .lss (.t 28) (.c (.a (.p (.i .i64 (-100000)))))),
ia 30 (.pick (.t 27) (.c (.a (.p (.b true)))) (.t 29)),
ia 31 (.mv (.t 30)),
ig 32 31 false (.mv (.t 1)),
ig 33 31 false (.bin .gtr (.t 32) (ci 100000)),
ia 34 (.pick (.t 31) (.c (.a (.p (.b true)))) (.t 33))]) (.cond (.t 34) (.seq (.reg [
  ia 35 (.call (.f 39) []),
ia 4 (.mv (.t 35))]) .ret) .skip)) (.seq (.reg [
  ia 36 (.ld 2 true (.t 2)),
ia 37 (.call (.f 45) [(.t 36)]),
ia 5 (.mv (.t 37))]) (.seq (.reg [
  ia 39 (.ld 2 true (.t 2)),
ia 40 (.mv (.t 1)),
ia 41 (.call (.f 40) [(.t 39), (.t 40)]),
ia 38 (.mv (.t 41)),
ia 42 (.ext (.t 38) 0),
ia 43 (.ext (.t 38) 1),
ia 6 (.new [(.p (.i .i64 0)), (.p (.i .i64 0))]),
io (.st 2 (.t 6) (.t 42)),
ia 7 (.mv (.t 43))]) (.seq (.seq (.reg [
  ia 44 (.mv (.t 7)),
ia 45 (.not (.t 44))]) (.cond (.t 45) (.seq (.reg [
  ia 46 (.mv (.t 5)),
ia 47 (.len false (.t 46)),
ia 48 (.bin .eql (.t 47) (ci 0)),
ia 4 (.mv (.t 48))]) .ret) .skip)) (.seq (.reg [
  ia 50 (.ld 2 true (.t 2)),
ia 51 (.mv (.t 1)),
ia 52 (.mv (.t 5)),
ia 53 (.len false (.t 52)),
ia 54 (.bin .add (.t 51) (.t 53)),
ia 55 (.call (.f 40) [(.t 50), (.t 54)]),
ia 49 (.mv (.t 55)),
ia 56 (.ext (.t 49) 0),
ia 57 (.ext (.t 49) 1),
ia 8 (.new [(.p (.i .i64 0)), (.p (.i .i64 0))]),
io (.st 2 (.t 8) (.t 56)),
ia 9 (.mv (.t 57))]) (.seq (.reg [
  ia 59 (.ld 2 true (.t 2)),
ia 60 (.mv (.t 1)),
ia 61 (.mv (.t 5)),
ia 62 (.len false (.t 61)),
ia 63 (.bin .mul (ci 7) (.t 62)),
ia 64 (.bin .sub (.t 60) (.t 63)),
ia 65 (.call (.f 40) [(.t 59), (.t 64)]),
ia 58 (.mv (.t 65)),
ia 66 (.ext (.t 58) 0),
ia 67 (.ext (.t 58) 1),
ia 10 (.new [(.p (.i .i64 0)), (.p (.i .i64 0))]),
io (.st 2 (.t 10) (.t 66)),
ia 11 (.mv (.t 67))]) (.seq (.seq (.reg [
  ia 12 (.mv (ci 0))]) (.block 0 (.loop F11b0))) (.seq (.reg [
  ia 90 (.mv (.t 5)),
ia 91 (.ld 2 true (.t 6)),
ia 92 (.call (.f 47) [(.t 90), (.t 91)]),
ia 93 (.mv (.t 92)),
ig 94 93 true (.ld 2 true (.t 6)),
ig 95 93 true (.ld 2 true (.t 8)),
ig 96 93 true (.eqg false [0, 0] (.t 94) (.t 95)),
ia 97 (.pick (.t 93) (.t 96) (.c (.a (.p (.b false))))),
ia 98 (.mv (.t 97)),
ig 99 98 true (.ld 2 true (.t 6)),
ig 100 98 true (.ld 2 true (.t 10)),
ig 101 98 true (.eqg false [0, 0] (.t 99) (.t 100)),
ia 102 (.pick (.t 98) (.t 101) (.c (.a (.p (.b false))))),
ia 4 (.mv (.t 102))]) .ret))))))))), [(.tmp 4)]⟩
theorem cc11 : ccF Try.prog [(43, [0, 0]), (79, [1, 0]), (60, [0, 0]), (140, [0, 0]), (43, [9])] Try.f11 = some (stripF F11) := by kernel_rfl

/- gossamer/gossamerlaw17.PairsMeet -/
def F12b0 : C := (.seq (.seq (.reg [
  ia 31 (.mv (.t 5)),
ia 32 (.mv (.t 3)),
ia 33 (.len false (.t 32)),
ia 34 (.bin .lss (.t 31) (.t 33))]) (.cond (.t 34) .skip (.exit 0))) (.seq (.block 1 (.seq (.reg [
  ir 37 (.mv (.t 3)),
ir 38 (.mv (.t 5)),
ir 39 (.ias 2 (.t 37) (.t 38)),
ir 40 (.fad 0 (.t 39)),
ir 41 (.ld 1 false (.t 40)),
ir 42 (.mv (.t 3)),
ir 43 (.mv (.t 5)),
ir 44 (.ias 2 (.t 42) (.t 43)),
ir 45 (.fad 1 (.t 44)),
ir 46 (.ld 1 false (.t 45)),
ir 6 (.mv (.t 41)),
ia 7 (.mv (.t 46))]) (.seq (.seq (.reg [
  ia 47 (.mv (.t 6)),
ia 48 (.bin .lss (.t 47) (ci 0)),
ia 49 (.mv (.t 48)),
ig 50 49 false (.mv (.t 6)),
ig 51 49 false (.mv (.t 7)),
ig 52 49 false (.bin .geq (.t 50) (.t 51)),
ia 53 (.pick (.t 49) (.c (.a (.p (.b true)))) (.t 52)),
ia 54 (.mv (.t 53)),
ig 55 54 false (.mv (.t 7)),
ig 56 54 false (.fad 0 (.t 1)),
ig 57 54 false (.ld 1 false (.t 56)),
ig 58 54 false (.len false (.t 57)),
ig 59 54 false (.bin .geq (.t 55) (.t 58)),
ia 60 (.pick (.t 54) (.c (.a (.p (.b true)))) (.t 59)),
ia 61 (.mv (.t 60)),
ig 62 61 false (.fad 0 (.t 1)),
ig 63 61 false (.ld 1 false (.t 62)),
ig 64 61 false (.mv (.t 6)),
ig 65 61 false (.ias 6 (.t 63) (.t 64)),
ig 66 61 false (.fad 5 (.t 65)),
ig 67 61 false (.ld 1 false (.t 66)),
ig 68 61 false (.ias 2 (.t 67) (ci 0)),
ig 69 61 false (.ld 2 true (.t 68)),
ig 70 61 false (.mv (.t 7)),
ig 71 61 false (.build [(.p (.i .i64 0)), (.p (.i .i64 0))] [(0, (1, (.t 70)))]),
ig 72 61 false (.eqg true [0, 0] (.t 69) (.t 71)),
ia 73 (.pick (.t 61) (.c (.a (.p (.b true)))) (.t 72)),
ia 74 (.mv (.t 73)),
ig 75 74 false (.fad 0 (.t 1)),
ig 76 74 false (.ld 1 false (.t 75)),
ig 77 74 false (.mv (.t 7)),
ig 78 74 false (.ias 6 (.t 76) (.t 77)),
ig 79 74 false (.fad 5 (.t 78)),
ig 80 74 false (.ld 1 false (.t 79)),
ig 81 74 false (.ias 2 (.t 80) (ci 0)),
ig 82 74 false (.ld 2 true (.t 81)),
ig 83 74 false (.mv (.t 6)),
ig 84 74 false (.build [(.p (.i .i64 0)), (.p (.i .i64 0))] [(0, (1, (.t 83)))]),
ig 85 74 false (.eqg true [0, 0] (.t 82) (.t 84)),
ia 86 (.pick (.t 74) (.c (.a (.p (.b true)))) (.t 85)),
ia 87 (.mv (.t 86)),
ig 88 87 false (.mv (.t 5)),
ig 89 87 false (.bin .gtr (.t 88) (ci 0)),
ig 90 87 false (.mv (.t 89)),
ig 91 90 true (.mv (.t 3)),
ig 92 90 true (.mv (.t 5)),
ig 93 90 true (.bin .sub (.t 92) (ci 1)),
ig 94 90 true (.ias 2 (.t 91) (.t 93)),
ig 95 90 true (.fad 0 (.t 94)),
ig 96 90 true (.ld 1 false (.t 95)),
ig 97 90 true (.mv (.t 6)),
ig 98 90 true (.bin .geq (.t 96) (.t 97)),
ig 99 87 false (.pick (.t 90) (.t 98) (.c (.a (.p (.b false))))),
ia 100 (.pick (.t 87) (.c (.a (.p (.b true)))) (.t 99))]) (.cond (.t 100) (.seq (.reg [
  ia 2 (.mv (.c (.a (.p (.b false)))))]) .ret) .skip)) (.seq (.reg [
  ia 101 (.mv (.t 4)),
ia 102 (.mv (.t 6)),
ia 103 (.ias 1 (.t 101) (.t 102)),
io (.st 1 (.t 103) (.c (.a (.p (.b true)))))]) (.reg [
  ia 104 (.mv (.t 4)),
ia 105 (.mv (.t 7)),
ia 106 (.ias 1 (.t 104) (.t 105)),
io (.st 1 (.t 106) (.c (.a (.p (.b true)))))]))))) (.reg [
  ia 35 (.mv (.t 5)),
ia 36 (.bin .add (.t 35) (ci 1)),
ia 5 (.mv (.t 36))])))
def F12b1 : C := (.seq (.seq (.reg [
  ia 107 (.mv (.t 8)),
ia 108 (.fad 0 (.t 1)),
ia 109 (.ld 1 false (.t 108)),
ia 110 (.len false (.t 109)),
ia 111 (.bin .lss (.t 107) (.t 110))]) (.cond (.t 111) .skip (.exit 2))) (.seq (.block 3 (.seq (.reg [
  ia 114 (.fad 0 (.t 1)),
ia 115 (.ld 1 false (.t 114)),
ia 116 (.mv (.t 8)),
ia 117 (.ias 6 (.t 115) (.t 116)),
ia 118 (.fad 5 (.t 117)),
ia 119 (.ld 1 false (.t 118)),
ia 120 (.len false (.t 119)),
ia 121 (.bin .gtr (.t 120) (ci 0)),
ia 122 (.mv (.t 121)),
ig 123 122 true (.fad 0 (.t 1)),
ig 124 122 true (.ld 1 false (.t 123)),
ig 125 122 true (.mv (.t 8)),
ig 126 122 true (.ias 6 (.t 124) (.t 125)),
ig 127 122 true (.fad 5 (.t 126)),
ig 128 122 true (.ld 1 false (.t 127)),
ig 129 122 true (.ias 2 (.t 128) (ci 0)),
ig 130 122 true (.fad 1 (.t 129)),
ig 131 122 true (.ld 1 false (.t 130)),
ig 132 122 true (.bin .eql (.t 131) (ci 0)),
ia 133 (.pick (.t 122) (.t 132) (.c (.a (.p (.b false))))),
ia 9 (.mv (.t 133))]) (.seq (.reg [
  ia 134 (.mv (.t 9)),
ia 135 (.mv (.t 4)),
ia 136 (.mv (.t 8)),
ia 137 (.ias 1 (.t 135) (.t 136)),
ia 138 (.ld 1 false (.t 137)),
ia 139 (.eqb true (.t 134) (.t 138))]) (.cond (.t 139) (.seq (.reg [
  ia 2 (.mv (.c (.a (.p (.b false)))))]) .ret) .skip)))) (.reg [
  ia 112 (.mv (.t 8)),
ia 113 (.bin .add (.t 112) (ci 1)),
ia 8 (.mv (.t 113))])))
def F12b2 : C := (.seq (.seq (.reg [
  ia 142 (.mv (.t 11)),
ia 143 (.mv (.t 10)),
ia 144 (.len false (.t 143)),
ia 145 (.bin .lss (.t 142) (.t 144))]) (.cond (.t 145) .skip (.exit 4))) (.seq (.block 5 (.seq (.reg [
  ia 148 (.mv (.t 3)),
ia 149 (.mv (.t 10)),
ia 150 (.mv (.t 11)),
ia 151 (.ias 2 (.t 149) (.t 150)),
ia 152 (.ld 2 true (.t 151)),
ia 153 (.call (.f 47) [(.t 148), (.t 152)]),
ia 154 (.not (.t 153))]) (.cond (.t 154) (.seq (.reg [
  ia 2 (.mv (.c (.a (.p (.b false)))))]) .ret) .skip))) (.reg [
  ia 146 (.mv (.t 11)),
ia 147 (.bin .add (.t 146) (ci 1)),
ia 11 (.mv (.t 147))])))
def F12 : FnC := ⟨1, (.seq (.reg [
  ia 1 (.box 2 (.t 0)),
ia 2 (.mv (.c (.a (.p (.b false)))))]) (.seq (.seq (.reg [
  ia 12 (.call (.f 39) []),
ia 13 (.not (.t 12)),
ia 14 (.mv (.t 13)),
ig 15 14 false (.ld 2 true (.t 1)),
ig 16 14 false (.call (.f 17) [(.t 15), (ci 150)]),
ig 17 14 false (.not (.t 16)),
ia 18 (.pick (.t 14) (.c (.a (.p (.b true)))) (.t 17)),
ia 19 (.mv (.t 18)),
ig 20 19 false (.ld 2 true (.t 1)),
ig 21 19 false (.call (.f 25) [(.t 20)]),
ig 22 19 false (.bin .neq (.t 21) (ci 0)),
ia 23 (.pick (.t 19) (.c (.a (.p (.b true)))) (.t 22))]) (.cond (.t 23) (.seq (.reg [
  ia 24 (.call (.f 39) []),
ia 2 (.mv (.t 24))]) .ret) .skip)) (.seq (.reg [
  ia 25 (.ld 2 true (.t 1)),
ia 26 (.call (.f 43) [(.t 25)]),
ia 3 (.mv (.t 26))]) (.seq (.reg [
  ia 27 (.fad 0 (.t 1)),
ia 28 (.ld 1 false (.t 27)),
ia 29 (.len false (.t 28)),
ia 30 (.msl 1 4 1 [(.p (.b false))] (.t 29) (.t 29)),
ia 4 (.mv (.t 30))]) (.seq (.seq (.reg [
  ia 5 (.mv (ci 0))]) (.block 0 (.loop F12b0))) (.seq (.seq (.reg [
  ia 8 (.mv (ci 0))]) (.block 2 (.loop F12b1))) (.seq (.reg [
  ia 140 (.ld 2 true (.t 1)),
ia 141 (.call (.f 45) [(.t 140)]),
ia 10 (.mv (.t 141))]) (.seq (.seq (.reg [
  ia 11 (.mv (ci 0))]) (.block 4 (.loop F12b2))) (.seq (.reg [
  ia 2 (.mv (.c (.a (.p (.b true)))))]) .ret))))))))), [(.tmp 2)]⟩
theorem cc12 : ccF Try.prog [(43, [0, 0]), (79, [1, 0]), (60, [0, 0]), (140, [0, 0]), (43, [9])] Try.f12 = some (stripF F12) := by kernel_rfl

/- gossamer/gossamerlaw17.PairsWoven -/
def F13b0 : C := (.seq (.seq (.reg [
  ia 33 (.mv (.t 7)),
ia 34 (.mv (.t 5)),
ia 35 (.len false (.t 34)),
ia 36 (.bin .lss (.t 33) (.t 35))]) (.cond (.t 36) .skip (.exit 0))) (.seq (.block 1 (.seq (.reg [
  ir 39 (.fad 0 (.t 3)),
ir 40 (.ld 1 false (.t 39)),
ir 41 (.mv (.t 5)),
ir 42 (.mv (.t 7)),
ir 43 (.ias 2 (.t 41) (.t 42)),
ir 44 (.fad 0 (.t 43)),
ir 45 (.ld 1 false (.t 44)),
ia 46 (.ias 6 (.t 40) (.t 45)),
ia 47 (.fad 0 (.t 46)),
ia 48 (.ld 1 false (.t 47)),
ia 49 (.bin .neq (.t 48) (ci 7)),
ia 50 (.mv (.t 49)),
ih 51 50 true (.fad 0 (.t 3)),
ih 52 50 true (.ld 1 false (.t 51)),
ih 53 50 true (.mv (.t 5)),
ih 54 50 true (.mv (.t 7)),
ih 55 50 true (.ias 2 (.t 53) (.t 54)),
ih 56 50 true (.fad 1 (.t 55)),
ih 57 50 true (.ld 1 false (.t 56)),
ig 58 50 true (.ias 6 (.t 52) (.t 57)),
ig 59 50 true (.fad 0 (.t 58)),
ig 60 50 true (.ld 1 false (.t 59)),
ig 61 50 true (.bin .neq (.t 60) (ci 7)),
ia 62 (.pick (.t 50) (.t 61) (.c (.a (.p (.b false)))))]) (.cond (.t 62) (.reg [
  ia 63 (.mv (.t 6)),
ia 64 (.bin .add (.t 63) (ci 1)),
ia 6 (.mv (.t 64))]) .skip))) (.reg [
  ia 37 (.mv (.t 7)),
ia 38 (.bin .add (.t 37) (ci 1)),
ia 7 (.mv (.t 38))])))
def F13 : FnC := ⟨1, (.seq (.reg [
  ia 1 (.box 4 (.t 0)),
ia 2 (.mv (.c (.a (.p (.b false)))))]) (.seq (.seq (.reg [
  ia 8 (.call (.f 39) []),
ia 9 (.not (.t 8)),
ia 10 (.mv (.t 9)),
ig 11 10 false (.ld 4 true (.t 1)),
ig 12 10 false (.call (.f 29) [(.t 11), (ci 80)]),
ig 13 10 false (.not (.t 12)),
ia 14 (.pick (.t 10) (.c (.a (.p (.b true)))) (.t 13)),
ia 15 (.mv (.t 14)),
ig 16 15 false (.ld 4 true (.t 1)),
ig 17 15 false (.call (.f 30) [(.t 16)]),
ig 18 15 false (.bin .gtr (.t 17) (ci 50)),
ia 19 (.pick (.t 15) (.c (.a (.p (.b true)))) (.t 18)),
ia 20 (.mv (.t 19)),
ig 21 20 false (.ld 4 true (.t 1)),
ig 22 20 false (.call (.f 31) [(.t 21), (ci 0)]),
ig 23 20 false (.not (.t 22)),
ia 24 (.pick (.t 20) (.c (.a (.p (.b true)))) (.t 23))]) (.cond (.t 24) (.seq (.reg [
  ia 25 (.call (.f 39) []),
ia 2 (.mv (.t 25))]) .ret) .skip)) (.seq (.reg [
  ia 27 (.ld 4 true (.t 1)),
ia 28 (.call (.f 32) [(.t 27), (ci 4000)]),
ia 26 (.mv (.t 28)),
ia 29 (.ext (.t 26) 0),
ia 30 (.ext (.t 26) 1),
ia 3 (.new [.nil, (.p (.i .i64 0))]),
io (.st 2 (.t 3) (.t 29)),
ia 4 (.mv (.t 30))]) (.seq (.reg [
  ia 31 (.ld 2 true (.t 3)),
ia 32 (.call (.f 45) [(.t 31)]),
ia 5 (.mv (.t 32))]) (.seq (.reg [
  ia 6 (.mv (ci 0))]) (.seq (.seq (.reg [
  ia 7 (.mv (ci 0))]) (.block 0 (.loop F13b0))) (.seq (.reg [
  ia 65 (.mv (.t 4)),
ia 66 (.bin .eql (.t 65) (ci 0)),
ia 67 (.mv (.t 66)),
ig 68 67 true (.mv (.t 6)),
ig 69 67 true (.ld 4 true (.t 1)),
ig 70 67 true (.call (.f 48) [(.t 69)]),
ig 71 67 true (.bin .eql (.t 68) (.t 70)),
ia 72 (.pick (.t 67) (.t 71) (.c (.a (.p (.b false))))),
ia 2 (.mv (.t 72))]) .ret))))))), [(.tmp 2)]⟩
theorem cc13 : ccF Try.prog [(43, [0, 0]), (79, [1, 0]), (60, [0, 0]), (140, [0, 0]), (43, [9])] Try.f13 = some (stripF F13) := by kernel_rfl

/- gossamer/gossamerlaw18.SweepPairs -/
def F14b0 : C := (.seq (.seq (.reg [
  ia 25 (.mv (.t 6)),
ia 26 (.mv (.t 4)),
ia 27 (.len false (.t 26)),
ia 28 (.bin .lss (.t 25) (.t 27))]) (.cond (.t 28) .skip (.exit 0))) (.seq (.block 1 (.seq (.reg [
  ia 31 (.mv (.t 3)),
ia 32 (.mv (.t 4)),
ia 33 (.mv (.t 6)),
ia 34 (.ias 2 (.t 32) (.t 33)),
ia 35 (.fad 0 (.t 34)),
ia 36 (.ld 1 false (.t 35)),
ia 37 (.call (.f 27) [(.t 31), (.t 36)])]) (.cond (.t 37) (.reg [
  ia 38 (.mv (.t 5)),
ia 39 (.mv (.t 4)),
ia 40 (.mv (.t 6)),
ia 41 (.ias 2 (.t 39) (.t 40)),
ia 42 (.ld 2 true (.t 41)),
ia 43 (.bsl 2 60 [(.p (.i .i64 0)), (.p (.i .i64 0))] 1 [(0, (.t 42))]),
ia 44 (.app 2 60 16 (.t 38) (.t 43)),
ia 5 (.mv (.t 44))]) .skip))) (.reg [
  ia 29 (.mv (.t 6)),
ia 30 (.bin .add (.t 29) (ci 1)),
ia 6 (.mv (.t 30))])))
def F14 : FnC := ⟨1, (.seq (.reg [
  ia 1 (.box 2 (.t 0)),
ia 2 (.mv (.c (.a (.p (.b false)))))]) (.seq (.seq (.reg [
  ia 7 (.call (.f 18) []),
ia 8 (.not (.t 7)),
ia 9 (.mv (.t 8)),
ig 10 9 false (.ld 2 true (.t 1)),
ig 11 9 false (.call (.f 17) [(.t 10), (ci 150)]),
ig 12 9 false (.not (.t 11)),
ia 13 (.pick (.t 9) (.c (.a (.p (.b true)))) (.t 12)),
ia 14 (.mv (.t 13)),
ig 15 14 false (.ld 2 true (.t 1)),
ig 16 14 false (.call (.f 25) [(.t 15)]),
ig 17 14 false (.bin .neq (.t 16) (ci 0)),
ia 18 (.pick (.t 14) (.c (.a (.p (.b true)))) (.t 17))]) (.cond (.t 18) (.seq (.reg [
  ia 19 (.call (.f 18) []),
ia 2 (.mv (.t 19))]) .ret) .skip)) (.seq (.reg [
  ia 20 (.ld 2 true (.t 1)),
ia 21 (.call (.f 20) [(.t 20)]),
ia 3 (.mv (.t 21))]) (.seq (.reg [
  ia 22 (.ld 2 true (.t 1)),
ia 23 (.call (.f 45) [(.t 22)]),
ia 4 (.mv (.t 23))]) (.seq (.reg [
  ia 24 (.bsl 2 60 [(.p (.i .i64 0)), (.p (.i .i64 0))] 0 []),
ia 5 (.mv (.t 24))]) (.seq (.seq (.reg [
  ia 6 (.mv (ci 0))]) (.block 0 (.loop F14b0))) (.seq (.reg [
  ia 45 (.ld 2 true (.t 1)),
ia 46 (.call (.f 23) [(.t 45)]),
ia 47 (.call (.f 45) [(.t 46)]),
ia 48 (.mv (.t 5)),
ia 49 (.call (.f 42) [(.t 47), (.t 48)]),
ia 2 (.mv (.t 49))]) .ret))))))), [(.tmp 2)]⟩
theorem cc14 : ccF Try.prog [(43, [0, 0]), (79, [1, 0]), (60, [0, 0]), (140, [0, 0]), (43, [9])] Try.f14 = some (stripF F14) := by kernel_rfl

/- gossamer/gossamerlaw17.PairsApart -/
def F15b1 : C := (.seq (.seq (.reg [
  ia 45 (.mv (.t 7)),
ia 46 (.mv (.t 6)),
ia 47 (.bin .lss (.t 45) (.t 46))]) (.cond (.t 47) .skip (.exit 2))) (.seq (.block 3 (.seq (.reg [
  ir 50 (.mv (.t 5)),
ir 51 (.mv (.t 6)),
ir 52 (.ias 2 (.t 50) (.t 51)),
ir 53 (.fad 0 (.t 52)),
ir 54 (.ld 1 false (.t 53)),
ir 55 (.mv (.t 5)),
ir 56 (.mv (.t 7)),
ir 57 (.ias 2 (.t 55) (.t 56)),
ir 58 (.fad 0 (.t 57)),
ir 59 (.ld 1 false (.t 58)),
ia 60 (.bin .eql (.t 54) (.t 59)),
ia 61 (.mv (.t 60)),
ih 62 61 false (.mv (.t 5)),
ih 63 61 false (.mv (.t 6)),
ih 64 61 false (.ias 2 (.t 62) (.t 63)),
ih 65 61 false (.fad 0 (.t 64)),
ih 66 61 false (.ld 1 false (.t 65)),
ih 67 61 false (.mv (.t 5)),
ih 68 61 false (.mv (.t 7)),
ih 69 61 false (.ias 2 (.t 67) (.t 68)),
ih 70 61 false (.fad 1 (.t 69)),
ih 71 61 false (.ld 1 false (.t 70)),
ig 72 61 false (.bin .eql (.t 66) (.t 71)),
ia 73 (.pick (.t 61) (.c (.a (.p (.b true)))) (.t 72)),
ia 74 (.mv (.t 73)),
ih 75 74 false (.mv (.t 5)),
ih 76 74 false (.mv (.t 6)),
ih 77 74 false (.ias 2 (.t 75) (.t 76)),
ih 78 74 false (.fad 1 (.t 77)),
ih 79 74 false (.ld 1 false (.t 78)),
ih 80 74 false (.mv (.t 5)),
ih 81 74 false (.mv (.t 7)),
ih 82 74 false (.ias 2 (.t 80) (.t 81)),
ih 83 74 false (.fad 0 (.t 82)),
ih 84 74 false (.ld 1 false (.t 83)),
ig 85 74 false (.bin .eql (.t 79) (.t 84)),
ia 86 (.pick (.t 74) (.c (.a (.p (.b true)))) (.t 85)),
ia 87 (.mv (.t 86)),
ih 88 87 false (.mv (.t 5)),
ih 89 87 false (.mv (.t 6)),
ih 90 87 false (.ias 2 (.t 88) (.t 89)),
ih 91 87 false (.fad 1 (.t 90)),
ih 92 87 false (.ld 1 false (.t 91)),
ih 93 87 false (.mv (.t 5)),
ih 94 87 false (.mv (.t 7)),
ih 95 87 false (.ias 2 (.t 93) (.t 94)),
ih 96 87 false (.fad 1 (.t 95)),
ih 97 87 false (.ld 1 false (.t 96)),
ig 98 87 false (.bin .eql (.t 92) (.t 97)),
ia 99 (.pick (.t 87) (.c (.a (.p (.b true)))) (.t 98))]) (.cond (.t 99) (.seq (.reg [
  ia 4 (.mv (.c (.a (.p (.b false)))))]) .ret) .skip))) (.reg [
  ia 48 (.mv (.t 7)),
ia 49 (.bin .add (.t 48) (ci 1)),
ia 7 (.mv (.t 49))])))
def F15b0 : C := (.seq (.seq (.reg [
  ia 39 (.mv (.t 6)),
ia 40 (.mv (.t 5)),
ia 41 (.len false (.t 40)),
ia 42 (.bin .lss (.t 39) (.t 41))]) (.cond (.t 42) .skip (.exit 0))) (.seq (.block 1 (.seq (.reg [
  ia 7 (.mv (ci 0))]) (.block 2 (.loop F15b1)))) (.reg [
  ia 43 (.mv (.t 6)),
ia 44 (.bin .add (.t 43) (ci 1)),
ia 6 (.mv (.t 44))])))
def F15b2 : C := (.seq (.seq (.reg [
  ia 131 (.mv (.t 15)),
ia 132 (.mv (.t 13)),
ia 133 (.len false (.t 132)),
ia 134 (.bin .lss (.t 131) (.t 133))]) (.cond (.t 134) .skip (.exit 4))) (.seq (.block 5 (.seq (.reg [
  ir 137 (.mv (.t 13)),
ir 138 (.mv (.t 15)),
ir 139 (.ias 2 (.t 137) (.t 138)),
ir 140 (.ld 2 true (.t 139)),
ir 141 (.ld 2 true (.t 8)),
ia 142 (.eqg true [0, 0] (.t 140) (.t 141)),
ia 143 (.mv (.t 142)),
ih 144 143 true (.mv (.t 14)),
ih 145 143 true (.mv (.t 13)),
ih 146 143 true (.mv (.t 15)),
ih 147 143 true (.ias 2 (.t 145) (.t 146)),
ih 148 143 true (.ld 2 true (.t 147)),
ig 149 143 true (.call (.f 47) [(.t 144), (.t 148)]),
ig 150 143 true (.not (.t 149)),
ia 151 (.pick (.t 143) (.t 150) (.c (.a (.p (.b false)))))]) (.cond (.t 151) (.seq (.reg [
  ia 4 (.mv (.c (.a (.p (.b false)))))]) .ret) .skip))) (.reg [
  ia 135 (.mv (.t 15)),
ia 136 (.bin .add (.t 135) (ci 1)),
ia 15 (.mv (.t 136))])))
def F15 : FnC := ⟨2, (.seq (.reg [
  ia 2 (.box 2 (.t 0)),
ia 4 (.mv (.c (.a (.p (.b false)))))]) (.seq (.seq (.reg [
  ia 16 (.call (.f 39) []),
ia 17 (.not (.t 16)),
ia 18 (.mv (.t 17)),
ig 19 18 false (.ld 2 true (.t 2)),
ig 20 18 false (.call (.f 17) [(.t 19), (ci 100)]),
ig 21 18 false (.not (.t 20)),
ia 22 (.pick (.t 18) (.c (.a (.p (.b true)))) (.t 21)),
ia 23 (.mv (.t 22)),
ig 24 23 false (.ld 2 true (.t 2)),
ig 25 23 false (.call (.f 25) [(.t 24)]),
ig 26 23 false (.bin .neq (.t 25) (ci 0)),
ia 27 (.pick (.t 23) (.c (.a (.p (.b true)))) (.t 26))]) (.cond (.t 27) (.seq (.reg [
  ia 28 (.call (.f 39) []),
ia 4 (.mv (.t 28))]) .ret) .skip)) (.seq (.reg [
  ia 29 (.fad 1 (.t 2)),
ia 30 (.ld 1 false (.t 29)),
ia 31 (.fad 0 (.t 2)),
ia 32 (.ld 1 false (.t 31)),
ia 33 (.len false (.t 32)),
ia 34 (.bin .add (.t 33) (ci 30)),
ia 35 (.mx (.t 30) (.t 34)),
ia 36 (.fad 1 (.t 2)),
io (.st 1 (.t 36) (.t 35))]) (.seq (.reg [
  ia 37 (.ld 2 true (.t 2)),
ia 38 (.call (.f 43) [(.t 37)]),
ia 5 (.mv (.t 38))]) (.seq (.seq (.reg [
  ia 6 (.mv (ci 0))]) (.block 0 (.loop F15b0))) (.seq (.reg [
  ia 101 (.ld 2 true (.t 2)),
ia 102 (.mv (.t 1)),
ia 103 (.call (.f 40) [(.t 101), (.t 102)]),
ia 100 (.mv (.t 103)),
ia 104 (.ext (.t 100) 0),
ia 105 (.ext (.t 100) 1),
ia 8 (.new [(.p (.i .i64 0)), (.p (.i .i64 0))]),
io (.st 2 (.t 8) (.t 104)),
ia 9 (.mv (.t 105))]) (.seq (.seq (.reg [
  ia 106 (.mv (.t 9)),
ia 107 (.not (.t 106))]) (.cond (.t 107) (.seq (.reg [
  ia 108 (.ld 2 true (.t 2)),
ia 109 (.call (.f 45) [(.t 108)]),
ia 110 (.len false (.t 109)),
ia 111 (.bin .eql (.t 110) (ci 0)),
ia 4 (.mv (.t 111))]) .ret) .skip)) (.seq (.reg [
  ia 113 (.ld 2 true (.t 2)),
ia 114 (.fad 0 (.t 8)),
ia 115 (.ld 1 false (.t 114)),
ia 116 (.call (.f 49) [(.t 113), (.t 115)]),
ia 112 (.mv (.t 116)),
ia 117 (.ext (.t 112) 0),
ia 118 (.ext (.t 112) 1),
ia 119 (.ext (.t 112) 2),
ia 10 (.new [.nil, (.p (.i .i64 0))]),
ia 11 (.new [(.p (.i .i64 0)), (.p (.b false)), (.p (.i .i64 0)), (.p (.i .i64 0)), (.p (.i .i64 0)), (.p (.i .i64 0)), (.p (.i .i64 0)), (.p (.s [])), .nil, .nil]),
io (.st 2 (.t 10) (.t 117)),
io (.st 10 (.t 11) (.t 118)),
ia 12 (.mv (.t 119))]) (.seq (.seq (.reg [
  ia 120 (.mv (.t 12)),
ia 121 (.bin .neq (.t 120) (ci 0)),
ia 122 (.mv (.t 121)),
ig 123 122 false (.fad 0 (.t 8)),
ig 124 122 false (.ld 1 false (.t 123)),
ig 125 122 false (.bin .lss (.t 124) (ci 1)),
ia 126 (.pick (.t 122) (.c (.a (.p (.b true)))) (.t 125))]) (.cond (.t 126) (.seq (.reg [
  ia 4 (.mv (.c (.a (.p (.b false)))))]) .ret) .skip)) (.seq (.reg [
  ir 127 (.ld 2 true (.t 2)),
ir 128 (.call (.f 45) [(.t 127)]),
ir 129 (.ld 2 true (.t 10)),
ia 130 (.call (.f 45) [(.t 129)]),
ia 13 (.mv (.t 128)),
ia 14 (.mv (.t 130))]) (.seq (.seq (.reg [
  ia 15 (.mv (ci 0))]) (.block 4 (.loop F15b2))) (.seq (.reg [
  ia 4 (.mv (.c (.a (.p (.b true)))))]) .ret)))))))))))), [(.tmp 4)]⟩
theorem cc15 : ccF Try.prog [(43, [0, 0]), (79, [1, 0]), (60, [0, 0]), (140, [0, 0]), (43, [9])] Try.f15 = some (stripF F15) := by kernel_rfl

/- gossamer/gossamerlaw17.PairsOrder -/
def F16 : FnC := ⟨3, (.seq (.reg [
  ia 3 (.box 2 (.t 0)),
ia 6 (.mv (.c (.a (.p (.b false)))))]) (.seq (.seq (.reg [
  ia 23 (.call (.f 39) []),
ia 24 (.not (.t 23)),
ia 25 (.mv (.t 24)),
ig 26 25 false (.ld 2 true (.t 3)),
ig 27 25 false (.call (.f 17) [(.t 26), (ci 100)]),
ig 28 25 false (.not (.t 27)),
ia 29 (.pick (.t 25) (.c (.a (.p (.b true)))) (.t 28)),
ia 30 (.mv (.t 29)),
ig 31 30 false (.ld 2 true (.t 3)),
ig 32 30 false (.call (.f 25) [(.t 31)]),
ig 33 30 false (.bin .neq (.t 32) (ci 0)),
ia 34 (.pick (.t 30) (.c (.a (.p (.b true)))) (.t 33))]) (.cond (.t 34) (.seq (.reg [
  ia 35 (.call (.f 39) []),
ia 6 (.mv (.t 35))]) .ret) .skip)) (.seq (.reg [
  ia 36 (.fad 1 (.t 3)),
ia 37 (.ld 1 false (.t 36)),
ia 38 (.fad 0 (.t 3)),
ia 39 (.ld 1 false (.t 38)),
ia 40 (.len false (.t 39)),
ia 41 (.bin .add (.t 40) (ci 60)),
ia 42 (.mx (.t 37) (.t 41)),
ia 43 (.fad 1 (.t 3)),
io (.st 1 (.t 43) (.t 42))]) (.seq (.reg [
  ia 45 (.ld 2 true (.t 3)),
ia 46 (.mv (.t 1)),
ia 47 (.call (.f 40) [(.t 45), (.t 46)]),
ia 44 (.mv (.t 47)),
ia 48 (.ext (.t 44) 0),
ia 49 (.ext (.t 44) 1),
ia 7 (.new [(.p (.i .i64 0)), (.p (.i .i64 0))]),
io (.st 2 (.t 7) (.t 48)),
ia 8 (.mv (.t 49))]) (.seq (.reg [
  ia 51 (.ld 2 true (.t 3)),
ia 52 (.mv (.t 2)),
ia 53 (.call (.f 40) [(.t 51), (.t 52)]),
ia 50 (.mv (.t 53)),
ia 54 (.ext (.t 50) 0),
ia 55 (.ext (.t 50) 1),
ia 9 (.new [(.p (.i .i64 0)), (.p (.i .i64 0))]),
io (.st 2 (.t 9) (.t 54)),
ia 10 (.mv (.t 55))]) (.seq (.seq (.reg [
  ia 56 (.mv (.t 8)),
ia 57 (.not (.t 56)),
ia 58 (.mv (.t 57)),
ig 59 58 false (.mv (.t 10)),
ig 60 58 false (.not (.t 59)),
ia 61 (.pick (.t 58) (.c (.a (.p (.b true)))) (.t 60)),
ia 62 (.mv (.t 61)),
ig 63 62 false (.ld 2 true (.t 7)),
ig 64 62 false (.ld 2 true (.t 9)),
ig 65 62 false (.eqg false [0, 0] (.t 63) (.t 64)),
ia 66 (.pick (.t 62) (.c (.a (.p (.b true)))) (.t 65))]) (.cond (.t 66) (.seq (.reg [
  ia 6 (.mv (.c (.a (.p (.b true)))))]) .ret) .skip)) (.seq (.reg [
  ia 68 (.ld 2 true (.t 3)),
ia 69 (.fad 0 (.t 7)),
ia 70 (.ld 1 false (.t 69)),
ia 71 (.call (.f 49) [(.t 68), (.t 70)]),
ia 67 (.mv (.t 71)),
ia 72 (.ext (.t 67) 0),
ia 73 (.ext (.t 67) 1),
ia 74 (.ext (.t 67) 2),
ia 11 (.new [.nil, (.p (.i .i64 0))]),
ia 12 (.new [(.p (.i .i64 0)), (.p (.b false)), (.p (.i .i64 0)), (.p (.i .i64 0)), (.p (.i .i64 0)), (.p (.i .i64 0)), (.p (.i .i64 0)), (.p (.s [])), .nil, .nil]),
io (.st 2 (.t 11) (.t 72)),
io (.st 10 (.t 12) (.t 73)),
ia 13 (.mv (.t 74))]) (.seq (.reg [
  ia 76 (.ld 2 true (.t 11)),
ia 77 (.fad 0 (.t 9)),
ia 78 (.ld 1 false (.t 77)),
ia 79 (.call (.f 49) [(.t 76), (.t 78)]),
ia 75 (.mv (.t 79)),
ia 80 (.ext (.t 75) 0),
ia 81 (.ext (.t 75) 1),
ia 82 (.ext (.t 75) 2),
ia 14 (.new [.nil, (.p (.i .i64 0))]),
ia 15 (.new [(.p (.i .i64 0)), (.p (.b false)), (.p (.i .i64 0)), (.p (.i .i64 0)), (.p (.i .i64 0)), (.p (.i .i64 0)), (.p (.i .i64 0)), (.p (.s [])), .nil, .nil]),
io (.st 2 (.t 14) (.t 80)),
io (.st 10 (.t 15) (.t 81)),
ia 16 (.mv (.t 82))]) (.seq (.reg [
  ia 84 (.ld 2 true (.t 3)),
ia 85 (.fad 0 (.t 9)),
ia 86 (.ld 1 false (.t 85)),
ia 87 (.call (.f 49) [(.t 84), (.t 86)]),
ia 83 (.mv (.t 87)),
ia 88 (.ext (.t 83) 0),
ia 89 (.ext (.t 83) 1),
ia 90 (.ext (.t 83) 2),
ia 17 (.new [.nil, (.p (.i .i64 0))]),
ia 18 (.new [(.p (.i .i64 0)), (.p (.b false)), (.p (.i .i64 0)), (.p (.i .i64 0)), (.p (.i .i64 0)), (.p (.i .i64 0)), (.p (.i .i64 0)), (.p (.s [])), .nil, .nil]),
io (.st 2 (.t 17) (.t 88)),
io (.st 10 (.t 18) (.t 89)),
ia 19 (.mv (.t 90))]) (.seq (.reg [
  ia 92 (.ld 2 true (.t 17)),
ia 93 (.fad 0 (.t 7)),
ia 94 (.ld 1 false (.t 93)),
ia 95 (.call (.f 49) [(.t 92), (.t 94)]),
ia 91 (.mv (.t 95)),
ia 96 (.ext (.t 91) 0),
ia 97 (.ext (.t 91) 1),
ia 98 (.ext (.t 91) 2),
ia 20 (.new [.nil, (.p (.i .i64 0))]),
ia 21 (.new [(.p (.i .i64 0)), (.p (.b false)), (.p (.i .i64 0)), (.p (.i .i64 0)), (.p (.i .i64 0)), (.p (.i .i64 0)), (.p (.i .i64 0)), (.p (.s [])), .nil, .nil]),
io (.st 2 (.t 20) (.t 96)),
io (.st 10 (.t 21) (.t 97)),
ia 22 (.mv (.t 98))]) (.seq (.reg [
  ia 99 (.mv (.t 13)),
ia 100 (.bin .eql (.t 99) (ci 0)),
ia 101 (.mv (.t 100)),
ig 102 101 true (.mv (.t 16)),
ig 103 101 true (.bin .eql (.t 102) (ci 0)),
ia 104 (.pick (.t 101) (.t 103) (.c (.a (.p (.b false))))),
ia 105 (.mv (.t 104)),
ig 106 105 true (.mv (.t 19)),
ig 107 105 true (.bin .eql (.t 106) (ci 0)),
ia 108 (.pick (.t 105) (.t 107) (.c (.a (.p (.b false))))),
ia 109 (.mv (.t 108)),
ig 110 109 true (.mv (.t 22)),
ig 111 109 true (.bin .eql (.t 110) (ci 0)),
ia 112 (.pick (.t 109) (.t 111) (.c (.a (.p (.b false))))),
ia 113 (.mv (.t 112)),
ih 114 113 true (.ld 2 true (.t 14)),
ih 115 113 true (.call (.f 26) [(.t 114)]),
ih 116 113 true (.ld 2 true (.t 20)),
ig 117 113 true (.call (.f 26) [(.t 116)]),
ig 118 113 true (.bin .eql (.t 115) (.t 117)),
ia 119 (.pick (.t 113) (.t 118) (.c (.a (.p (.b false))))),
ia 120 (.mv (.t 119)),
ih 121 120 true (.ld 2 true (.t 14)),
ih 122 120 true (.call (.f 43) [(.t 121)]),
ih 123 120 true (.len false (.t 122)),
ih 124 120 true (.ld 2 true (.t 20)),
ih 125 120 true (.call (.f 43) [(.t 124)]),
ih 126 120 true (.len false (.t 125)),
ig 127 120 true (.bin .eql (.t 123) (.t 126)),
ia 128 (.pick (.t 120) (.t 127) (.c (.a (.p (.b false))))),
ia 129 (.mv (.t 128)),
ih 130 129 true (.ld 2 true (.t 14)),
ih 131 129 true (.call (.f 45) [(.t 130)]),
ih 132 129 true (.len false (.t 131)),
ih 133 129 true (.ld 2 true (.t 20)),
ih 134 129 true (.call (.f 45) [(.t 133)]),
ih 135 129 true (.len false (.t 134)),
ig 136 129 true (.bin .eql (.t 132) (.t 135)),
ia 137 (.pick (.t 129) (.t 136) (.c (.a (.p (.b false))))),
ia 6 (.mv (.t 137))]) .ret))))))))))), [(.tmp 6)]⟩
theorem cc16 : ccF Try.prog [(43, [0, 0]), (79, [1, 0]), (60, [0, 0]), (140, [0, 0]), (43, [9])] Try.f16 = some (stripF F16) := by kernel_rfl

/- gossamer/gossamerref12.Small -/
def F17b0 : C := (.seq (.seq (.reg [
  ia 6 (.mv (.t 5)),
ia 7 (.fad 0 (.t 2)),
ia 8 (.ld 1 false (.t 7)),
ia 9 (.len false (.t 8)),
ia 10 (.bin .lss (.t 6) (.t 9))]) (.cond (.t 10) .skip (.exit 0))) (.seq (.block 1 (.seq (.reg [
  ia 13 (.fad 0 (.t 2)),
ia 14 (.ld 1 false (.t 13)),
ia 15 (.mv (.t 5)),
ia 16 (.ias 6 (.t 14) (.t 15)),
ia 17 (.fad 5 (.t 16)),
ia 18 (.ld 1 false (.t 17)),
ia 19 (.len false (.t 18)),
ia 20 (.bin .gtr (.t 19) (ci 12)),
ia 21 (.mv (.t 20)),
ig 22 21 false (.fad 0 (.t 2)),
ig 23 21 false (.ld 1 false (.t 22)),
ig 24 21 false (.mv (.t 5)),
ig 25 21 false (.ias 6 (.t 23) (.t 24)),
ig 26 21 false (.fad 4 (.t 25)),
ig 27 21 false (.ld 1 false (.t 26)),
ig 28 21 false (.len false (.t 27)),
ig 29 21 false (.bin .gtr (.t 28) (ci 12)),
ia 30 (.pick (.t 21) (.c (.a (.p (.b true)))) (.t 29))]) (.cond (.t 30) (.seq (.reg [
  ia 4 (.mv (.c (.a (.p (.b false)))))]) .ret) .skip))) (.reg [
  ia 11 (.mv (.t 5)),
ia 12 (.bin .add (.t 11) (ci 1)),
ia 5 (.mv (.t 12))])))
def F17 : FnC := ⟨2, (.seq (.reg [
  ia 2 (.box 2 (.t 0)),
ia 4 (.mv (.c (.a (.p (.b false)))))]) (.seq (.seq (.reg [
  ia 5 (.mv (ci 0))]) (.block 0 (.loop F17b0))) (.seq (.reg [
  ia 31 (.fad 0 (.t 2)),
ia 32 (.ld 1 false (.t 31)),
ia 33 (.len false (.t 32)),
ia 34 (.mv (.t 1)),
ia 35 (.bin .leq (.t 33) (.t 34)),
ia 4 (.mv (.t 35))]) .ret))), [(.tmp 4)]⟩
theorem cc17 : ccF Try.prog [(43, [0, 0]), (79, [1, 0]), (60, [0, 0]), (140, [0, 0]), (43, [9])] Try.f17 = some (stripF F17) := by kernel_rfl

/- gossamer/gossamerlaw18.fixed -/
def F18 : FnC := ⟨0, (.seq (.reg [
  ia 0 (.mv (.c (.a (.p (.b false)))))]) (.seq (.reg [
  ia 5 (.call (.f 50) [(ci 9)]),
ia 4 (.mv (.t 5)),
ia 6 (.ext (.t 4) 0),
ia 7 (.ext (.t 4) 1),
ia 1 (.new [.nil, (.p (.i .i64 0))]),
io (.st 2 (.t 1) (.t 6)),
ia 2 (.mv (.t 7))]) (.seq (.reg [
  ia 8 (.ld 2 true (.t 1)),
ia 9 (.call (.f 51) [(.t 8)]),
ia 3 (.new [.nil, (.p (.i .i64 0))]),
io (.st 2 (.t 3) (.t 9))]) (.seq (.reg [
  ia 10 (.fad 0 (.t 3)),
ia 11 (.ld 1 false (.t 10)),
ia 12 (.build [(.p (.i .i64 0)), (.p (.i .i64 0))] [(0, (1, (ci 3)))]),
ia 13 (.bsl 2 43 [(.p (.i .i64 0)), (.p (.i .i64 0))] 1 [(0, (.t 12))]),
ia 14 (.build [(.p (.i .i64 0)), (.p (.i .i64 0)), (.p (.i .i64 0)), (.p (.s [])), .nil, .nil] [(0, (1, (ci 7))), (5, (1, (.t 13)))]),
ia 15 (.build [(.p (.i .i64 0)), (.p (.i .i64 0))] [(0, (1, (ci 2)))]),
ia 16 (.bsl 2 43 [(.p (.i .i64 0)), (.p (.i .i64 0))] 1 [(0, (.t 15))]),
ia 17 (.build [(.p (.i .i64 0)), (.p (.i .i64 0)), (.p (.i .i64 0)), (.p (.s [])), .nil, .nil] [(0, (1, (ci 10))), (5, (1, (.t 16)))]),
ia 18 (.bsl 6 41 [(.p (.i .i64 0)), (.p (.i .i64 0)), (.p (.i .i64 0)), (.p (.s [])), .nil, .nil] 2 [(0, (.t 14)), (1, (.t 17))]),
ia 19 (.app 6 41 88 (.t 11) (.t 18)),
ia 20 (.fad 0 (.t 3)),
io (.st 1 (.t 20) (.t 19))]) (.fz [1, 3] (.seq (.reg [
  ir 21 (.ld 2 true (.t 1)),
ir 22 (.call (.f 20) [(.t 21)]),
⟨(.some 23), .none, (.bsl 1 3 [(.p (.i .i64 0))] 2 [(0, (ci 0)), (1, (ci 1))]), .ad⟩,
ia 24 (.call (.f 19) [(.t 22), (.t 23)]),
ia 25 (.mv (.t 24)),
ih 26 25 true (.ld 2 true (.t 1)),
ih 27 25 true (.call (.f 23) [(.t 26)]),
ih 28 25 true (.ld 2 true (.t 1)),
ig 29 25 true (.call (.f 22) [(.t 27), (.t 28)]),
ia 30 (.pick (.t 25) (.t 29) (.c (.a (.p (.b false))))),
ia 31 (.mv (.t 30)),
ih 32 31 true (.ld 2 true (.t 3)),
ih 33 31 true (.call (.f 20) [(.t 32)]),
⟨(.some 34), (.some (31, true)), (.bsl 1 3 [(.p (.i .i64 0))] 2 [(0, (ci 0)), (1, (ci 1))]), .ad⟩,
ig 35 31 true (.call (.f 19) [(.t 33), (.t 34)]),
ia 36 (.pick (.t 31) (.t 35) (.c (.a (.p (.b false))))),
ia 37 (.mv (.t 36)),
ih 38 37 true (.ld 2 true (.t 3)),
ih 39 37 true (.call (.f 23) [(.t 38)]),
ih 40 37 true (.ld 2 true (.t 1)),
ig 41 37 true (.call (.f 22) [(.t 39), (.t 40)]),
ia 42 (.pick (.t 37) (.t 41) (.c (.a (.p (.b false))))),
ia 43 (.mv (.t 42)),
ig 44 43 true (.build [.nil, (.p (.i .i64 0))] []),
ig 45 43 true (.call (.f 20) [(.t 44)]),
ig 46 43 true (.len false (.t 45)),
ig 47 43 true (.bin .eql (.t 46) (ci 0)),
ia 48 (.pick (.t 43) (.t 47) (.c (.a (.p (.b false))))),
ia 49 (.mv (.t 48)),
ih 50 49 true (.build [.nil, (.p (.i .i64 0))] [(1, (1, (ci 3)))]),
ih 51 49 true (.call (.f 23) [(.t 50)]),
ih 52 49 true (.build [.nil, (.p (.i .i64 0))] [(1, (1, (ci 3)))]),
ig 53 49 true (.call (.f 22) [(.t 51), (.t 52)]),
ia 54 (.pick (.t 49) (.t 53) (.c (.a (.p (.b false))))),
ia 0 (.mv (.t 54))]) .ret)))))), [(.tmp 0)]⟩
theorem cc18 : ccF Try.prog [(43, [0, 0]), (79, [1, 0]), (60, [0, 0]), (140, [0, 0]), (43, [9])] Try.f18 = some (stripF F18) := by kernel_rfl

/- gossamer/gossamerref11.Ints -/
def F19b0 : C := (.seq (.seq (.reg [
  ia 11 (.mv (.t 5)),
ia 12 (.mv (.t 0)),
ia 13 (.len false (.t 12)),
ia 14 (.bin .lss (.t 11) (.t 13))]) (.cond (.t 14) .skip (.exit 0))) (.seq (.block 1 (.seq (.reg [
  ir 17 (.mv (.t 0)),
ir 18 (.mv (.t 5)),
ir 19 (.ias 1 (.t 17) (.t 18)),
ir 20 (.ld 1 false (.t 19)),
ir 21 (.mv (.t 1)),
ir 22 (.mv (.t 5)),
ir 23 (.ias 1 (.t 21) (.t 22)),
ir 24 (.ld 1 false (.t 23)),
ia 25 (.bin .neq (.t 20) (.t 24))]) (.cond (.t 25) (.seq (.reg [
  ia 4 (.mv (.c (.a (.p (.b false)))))]) .ret) .skip))) (.reg [
  ia 15 (.mv (.t 5)),
ia 16 (.bin .add (.t 15) (ci 1)),
ia 5 (.mv (.t 16))])))
def F19 : FnC := ⟨2, (.seq (.reg [
  ia 4 (.mv (.c (.a (.p (.b false)))))]) (.seq (.seq (.reg [
  ia 6 (.mv (.t 0)),
ia 7 (.len false (.t 6)),
ia 8 (.mv (.t 1)),
ia 9 (.len false (.t 8)),
ia 10 (.bin .neq (.t 7) (.t 9))]) (.cond (.t 10) (.seq (.reg [
  ia 4 (.mv (.c (.a (.p (.b false)))))]) .ret) .skip)) (.seq (.seq (.reg [
  ia 5 (.mv (ci 0))]) (.block 0 (.loop F19b0))) (.seq (.reg [
  ia 4 (.mv (.c (.a (.p (.b true)))))]) .ret)))), [(.tmp 4)]⟩
theorem cc19 : ccF Try.prog [(43, [0, 0]), (79, [1, 0]), (60, [0, 0]), (140, [0, 0]), (43, [9])] Try.f19 = some (stripF F19) := by kernel_rfl

/- gossamer/sweep.Live -/
def F20b0 : C := (.seq (.reg [
  ia 13 (.bin .lss (.t 12) (.t 11))]) (.seq (.cond (.t 13) .skip (.exit 0)) (.seq (.block 1 (.seq (.reg [
  ia 14 (.mv (.t 12)),
ia 15 (.ias 1 (.t 10) (.t 12)),
ia 16 (.ld 1 false (.t 15)),
ia 4 (.mv (.t 14)),
ia 5 (.mv (.t 16))]) (.seq (.reg [
  ia 17 (.mv (.t 5))]) (.cond (.t 17) (.reg [
  ia 18 (.mv (.t 3)),
ia 19 (.mv (.t 4)),
ia 20 (.bsl 1 3 [(.p (.i .i64 0))] 1 [(0, (.t 19))]),
ia 21 (.app 1 3 8 (.t 18) (.t 20)),
ia 3 (.mv (.t 21))]) .skip)))) (.reg [
  ia 22 (.bin .add (.t 12) (ci 1)),
ia 12 (.mv (.t 22))]))))
def F20 : FnC := ⟨1, (.seq (.reg [
  ia 1 (.box 2 (.t 0)),
ia 2 (.mv (.c (.a .nil)))]) (.seq (.seq (.reg [
  ia 6 (.ld 2 true (.t 1)),
ia 7 (.call (.f 52) [(.t 6)]),
ia 8 (.bin .neq (.t 7) (ci 0))]) (.cond (.t 8) (.seq (.reg [
  ia 2 (.mv (.c (.a .nil)))]) .ret) .skip)) (.seq (.reg [
  ia 3 (.mv (.c (.a .nil)))]) (.seq (.seq (.reg [
  ia 9 (.ld 2 true (.t 1)),
ia 10 (.call (.f 53) [(.t 9)]),
ia 11 (.len false (.t 10)),
ia 12 (.mv (ci 0))]) (.block 0 (.loop F20b0))) (.seq (.reg [
  ia 23 (.mv (.t 3)),
ia 2 (.mv (.t 23))]) .ret))))), [(.tmp 2)]⟩
theorem cc20 : ccF Try.prog [(43, [0, 0]), (79, [1, 0]), (60, [0, 0]), (140, [0, 0]), (43, [9])] Try.f20 = some (stripF F20) := by kernel_rfl

/- gossamer/gossamerref18.Live -/
def F21b0 : C := (.seq (.seq (.reg [
  ia 13 (.mv (.t 5)),
ia 14 (.mv (.t 4)),
ia 15 (.len false (.t 14)),
ia 16 (.bin .lss (.t 13) (.t 15))]) (.cond (.t 16) .skip (.exit 0))) (.seq (.block 1 (.seq (.reg [
  ia 19 (.mv (.t 4)),
ia 20 (.mv (.t 5)),
ia 21 (.ias 1 (.t 19) (.t 20)),
ia 22 (.ld 1 false (.t 21))]) (.cond (.t 22) (.reg [
  ia 23 (.mv (.t 3)),
ia 24 (.mv (.t 5)),
ia 25 (.bsl 1 3 [(.p (.i .i64 0))] 1 [(0, (.t 24))]),
ia 26 (.app 1 3 8 (.t 23) (.t 25)),
ia 3 (.mv (.t 26))]) .skip))) (.reg [
  ia 17 (.mv (.t 5)),
ia 18 (.bin .add (.t 17) (ci 1)),
ia 5 (.mv (.t 18))])))
def F21 : FnC := ⟨1, (.seq (.reg [
  ia 1 (.box 2 (.t 0)),
ia 2 (.mv (.c (.a .nil)))]) (.seq (.reg [
  ia 6 (.bsl 1 3 [(.p (.i .i64 0))] 0 []),
ia 3 (.mv (.t 6))]) (.seq (.seq (.reg [
  ia 7 (.ld 2 true (.t 1)),
ia 8 (.call (.f 25) [(.t 7)]),
ia 9 (.bin .neq (.t 8) (ci 0))]) (.cond (.t 9) (.seq (.reg [
  ia 10 (.mv (.t 3)),
ia 2 (.mv (.t 10))]) .ret) .skip)) (.seq (.reg [
  ia 11 (.ld 2 true (.t 1)),
ia 12 (.call (.f 54) [(.t 11)]),
ia 4 (.mv (.t 12))]) (.seq (.seq (.reg [
  ia 5 (.mv (ci 0))]) (.block 0 (.loop F21b0))) (.seq (.reg [
  ia 27 (.mv (.t 3)),
ia 2 (.mv (.t 27))]) .ret)))))), [(.tmp 2)]⟩
theorem cc21 : ccF Try.prog [(43, [0, 0]), (79, [1, 0]), (60, [0, 0]), (140, [0, 0]), (43, [9])] Try.f21 = some (stripF F21) := by kernel_rfl

/- gossamer/gossamerref12.Same -/
def F22b0 : C := (.seq (.seq (.reg [
  ia 20 (.mv (.t 5)),
ia 21 (.fad 0 (.t 2)),
ia 22 (.ld 1 false (.t 21)),
ia 23 (.len false (.t 22)),
ia 24 (.bin .lss (.t 20) (.t 23))]) (.cond (.t 24) .skip (.exit 0))) (.seq (.block 1 (.seq (.reg [
  ir 27 (.fad 0 (.t 2)),
ir 28 (.ld 1 false (.t 27)),
ir 29 (.mv (.t 5)),
ir 30 (.ias 6 (.t 28) (.t 29)),
ir 31 (.ld 6 true (.t 30)),
ir 32 (.fad 0 (.t 3)),
ir 33 (.ld 1 false (.t 32)),
ir 34 (.mv (.t 5)),
ir 35 (.ias 6 (.t 33) (.t 34)),
ir 36 (.ld 6 true (.t 35)),
ia 37 (.call (.f 28) [(.t 31), (.t 36)]),
ia 38 (.not (.t 37))]) (.cond (.t 38) (.seq (.reg [
  ia 4 (.mv (.c (.a (.p (.b false)))))]) .ret) .skip))) (.reg [
  ia 25 (.mv (.t 5)),
ia 26 (.bin .add (.t 25) (ci 1)),
ia 5 (.mv (.t 26))])))
def F22 : FnC := ⟨2, (.seq (.reg [
  ia 2 (.box 2 (.t 0)),
ia 3 (.box 2 (.t 1)),
ia 4 (.mv (.c (.a (.p (.b false)))))]) (.seq (.seq (.reg [
  ia 6 (.fad 1 (.t 2)),
ia 7 (.ld 1 false (.t 6)),
ia 8 (.fad 1 (.t 3)),
ia 9 (.ld 1 false (.t 8)),
ia 10 (.bin .neq (.t 7) (.t 9)),
ia 11 (.mv (.t 10)),
ig 12 11 false (.fad 0 (.t 2)),
ig 13 11 false (.ld 1 false (.t 12)),
ig 14 11 false (.len false (.t 13)),
ig 15 11 false (.fad 0 (.t 3)),
ig 16 11 false (.ld 1 false (.t 15)),
ig 17 11 false (.len false (.t 16)),
ig 18 11 false (.bin .neq (.t 14) (.t 17)),
ia 19 (.pick (.t 11) (.c (.a (.p (.b true)))) (.t 18))]) (.cond (.t 19) (.seq (.reg [
  ia 4 (.mv (.c (.a (.p (.b false)))))]) .ret) .skip)) (.seq (.seq (.reg [
  ia 5 (.mv (ci 0))]) (.block 0 (.loop F22b0))) (.seq (.reg [
  ia 4 (.mv (.c (.a (.p (.b true)))))]) .ret)))), [(.tmp 4)]⟩
theorem cc22 : ccF Try.prog [(43, [0, 0]), (79, [1, 0]), (60, [0, 0]), (140, [0, 0]), (43, [9])] Try.f22 = some (stripF F22) := by kernel_rfl

/- gossamer/sweep.Sweep -/
def F23b0 : C := (.seq (.seq (.reg [
  ia 17 (.mv (.t 5)),
ia 18 (.bin .gtr (.t 17) (ci 0))]) (.cond (.t 18) .skip (.exit 0))) (.seq (.block 1 (.seq (.reg [
  ia 21 (.mv (.t 4)),
ia 22 (.mv (.t 5)),
ia 23 (.ias 1 (.t 21) (.t 22)),
ia 24 (.ld 1 false (.t 23)),
ia 25 (.not (.t 24)),
ia 26 (.mv (.t 25)),
ig 27 26 true (.mv (.t 3)),
ig 28 26 true (.mv (.t 5)),
ig 29 26 true (.ias 6 (.t 27) (.t 28)),
ig 30 26 true (.fad 0 (.t 29)),
ig 31 26 true (.ld 1 false (.t 30)),
ig 32 26 true (.bin .neq (.t 31) (ci 0)),
ia 33 (.pick (.t 26) (.t 32) (.c (.a (.p (.b false)))))]) (.cond (.t 33) (.reg [
  ia 35 (.ld 2 true (.t 1)),
ia 36 (.mv (.t 5)),
ia 37 (.call (.f 55) [(.t 35), (.t 36)]),
ia 34 (.mv (.t 37)),
ia 38 (.ext (.t 34) 0),
ia 39 (.ext (.t 34) 1),
io (.st 2 (.t 1) (.t 38))]) .skip))) (.reg [
  ia 19 (.mv (.t 5)),
ia 20 (.bin .sub (.t 19) (ci 1)),
ia 5 (.mv (.t 20))])))
def F23 : FnC := ⟨1, (.seq (.reg [
  ia 1 (.box 2 (.t 0)),
ia 2 (.new [.nil, (.p (.i .i64 0))])]) (.seq (.seq (.reg [
  ia 6 (.ld 2 true (.t 1)),
ia 7 (.call (.f 52) [(.t 6)]),
ia 8 (.bin .neq (.t 7) (ci 0))]) (.cond (.t 8) (.seq (.reg [
  ia 9 (.ld 2 true (.t 1)),
io (.st 2 (.t 2) (.t 9))]) .ret) .skip)) (.seq (.reg [
  ir 10 (.fad 0 (.t 1)),
ir 11 (.ld 1 false (.t 10)),
ir 12 (.ld 2 true (.t 1)),
ir 13 (.call (.f 53) [(.t 12)]),
ia 3 (.mv (.t 11)),
ia 4 (.mv (.t 13))]) (.seq (.seq (.reg [
  ia 14 (.mv (.t 4)),
ia 15 (.len false (.t 14)),
ia 16 (.bin .sub (.t 15) (ci 1)),
ia 5 (.mv (.t 16))]) (.block 0 (.loop F23b0))) (.seq (.reg [
  ia 40 (.ld 2 true (.t 1)),
io (.st 2 (.t 2) (.t 40))]) .ret))))), [(.cell 2 2 true)]⟩
theorem cc23 : ccF Try.prog [(43, [0, 0]), (79, [1, 0]), (60, [0, 0]), (140, [0, 0]), (43, [9])] Try.f23 = some (stripF F23) := by kernel_rfl

/- gossamer/gossamerref18.Sweep -/
def F24b0 : C := (.seq (.seq (.reg [
  ia 15 (.mv (.t 5)),
ia 16 (.mv (.t 3)),
ia 17 (.mv (.t 3)),
ia 18 (.len false (.t 17)),
ia 19 (.bin .sub (.t 18) (ci 1)),
ia 20 (.ias 1 (.t 16) (.t 19)),
ia 21 (.ld 1 false (.t 20)),
ia 22 (.bin .leq (.t 15) (.t 21))]) (.cond (.t 22) .skip (.exit 0))) (.seq (.block 1 (.seq (.reg [
  ia 25 (.mv (.t 3)),
ia 26 (.mv (.t 5)),
ia 27 (.call (.f 27) [(.t 25), (.t 26)])]) (.cond (.t 27) (.reg [
  ir 28 (.fad 0 (.t 4)),
ir 29 (.ld 1 false (.t 28)),
ir 30 (.fad 0 (.t 1)),
ir 31 (.ld 1 false (.t 30)),
ir 32 (.mv (.t 5)),
ir 33 (.ias 6 (.t 31) (.t 32)),
ir 34 (.ld 6 true (.t 33)),
⟨(.some 35), .none, (.bsl 6 41 [(.p (.i .i64 0)), (.p (.i .i64 0)), (.p (.i .i64 0)), (.p (.s [])), .nil, .nil] 1 [(0, (.t 34))]), .ad⟩,
ia 36 (.app 6 41 88 (.t 29) (.t 35)),
ia 37 (.fad 0 (.t 4)),
io (.st 1 (.t 37) (.t 36))]) (.reg [
  ia 38 (.fad 0 (.t 4)),
ia 39 (.ld 1 false (.t 38)),
ia 40 (.build [(.p (.i .i64 0)), (.p (.i .i64 0)), (.p (.i .i64 0)), (.p (.s [])), .nil, .nil] []),
ia 41 (.bsl 6 41 [(.p (.i .i64 0)), (.p (.i .i64 0)), (.p (.i .i64 0)), (.p (.s [])), .nil, .nil] 1 [(0, (.t 40))]),
ia 42 (.app 6 41 88 (.t 39) (.t 41)),
ia 43 (.fad 0 (.t 4)),
io (.st 1 (.t 43) (.t 42))])))) (.reg [
  ia 23 (.mv (.t 5)),
ia 24 (.bin .add (.t 23) (ci 1)),
ia 5 (.mv (.t 24))])))
def F24 : FnC := ⟨1, (.seq (.reg [
  ia 1 (.box 2 (.t 0)),
ia 2 (.new [.nil, (.p (.i .i64 0))])]) (.seq (.seq (.reg [
  ia 6 (.ld 2 true (.t 1)),
ia 7 (.call (.f 25) [(.t 6)]),
ia 8 (.bin .neq (.t 7) (ci 0))]) (.cond (.t 8) (.seq (.reg [
  ia 9 (.ld 2 true (.t 1)),
io (.st 2 (.t 2) (.t 9))]) .ret) .skip)) (.seq (.reg [
  ia 10 (.ld 2 true (.t 1)),
ia 11 (.call (.f 21) [(.t 10)]),
ia 3 (.mv (.t 11))]) (.seq (.reg [
  ia 12 (.fad 1 (.t 1)),
ia 13 (.ld 1 false (.t 12)),
ia 14 (.build [.nil, (.p (.i .i64 0))] [(1, (1, (.t 13)))]),
ia 4 (.new [.nil, (.p (.i .i64 0))]),
io (.st 2 (.t 4) (.t 14))]) (.seq (.seq (.reg [
  ia 5 (.mv (ci 0))]) (.block 0 (.loop F24b0))) (.seq (.reg [
  ia 44 (.ld 2 true (.t 4)),
io (.st 2 (.t 2) (.t 44))]) .ret)))))), [(.cell 2 2 true)]⟩
theorem cc24 : ccF Try.prog [(43, [0, 0]), (79, [1, 0]), (60, [0, 0]), (140, [0, 0]), (43, [9])] Try.f24 = some (stripF F24) := by kernel_rfl

/- gossamer/gossamerref12.Check -/
def F25b1 : C := (.seq (.seq (.reg [
  ia 73 (.mv (.t 5)),
ia 74 (.fad 5 (.t 4)),
ia 75 (.ld 1 false (.t 74)),
ia 76 (.len false (.t 75)),
ia 77 (.bin .lss (.t 73) (.t 76))]) (.cond (.t 77) .skip (.exit 2))) (.seq (.block 3 (.seq (.reg [
  ia 80 (.mv (.t 3)),
ia 81 (.mv (.t 5)),
ia 82 (.build [(.p (.i .i64 0)), (.p (.i .i64 0))] [(0, (1, (.t 80))), (1, (1, (.t 81)))]),
ia 6 (.new [(.p (.i .i64 0)), (.p (.i .i64 0))]),
io (.st 2 (.t 6) (.t 82))]) (.seq (.reg [
  ia 83 (.fad 5 (.t 4)),
ia 84 (.ld 1 false (.t 83)),
ia 85 (.mv (.t 5)),
ia 86 (.ias 2 (.t 84) (.t 85)),
ia 87 (.ld 2 true (.t 86)),
ia 7 (.new [(.p (.i .i64 0)), (.p (.i .i64 0))]),
io (.st 2 (.t 7) (.t 87))]) (.seq (.reg [
  ir 88 (.ld 2 true (.t 7)),
ir 89 (.ld 2 true (.t 6)),
ia 90 (.eqg false [0, 0] (.t 88) (.t 89)),
ia 91 (.mv (.t 90)),
ih 92 91 false (.ld 2 true (.t 1)),
ih 93 91 false (.ld 2 true (.t 7)),
ig 94 91 false (.call (.f 35) [(.t 92), (.t 93)]),
ig 95 91 false (.not (.t 94)),
ia 96 (.pick (.t 91) (.c (.a (.p (.b true)))) (.t 95)),
ia 97 (.mv (.t 96)),
ih 98 97 false (.fad 0 (.t 1)),
ih 99 97 false (.ld 1 false (.t 98)),
ih 100 97 false (.fad 0 (.t 7)),
ih 101 97 false (.ld 1 false (.t 100)),
ih 102 97 false (.ias 6 (.t 99) (.t 101)),
ih 103 97 false (.fad 5 (.t 102)),
ih 104 97 false (.ld 1 false (.t 103)),
ih 105 97 false (.fad 1 (.t 7)),
ih 106 97 false (.ld 1 false (.t 105)),
ih 107 97 false (.ias 2 (.t 104) (.t 106)),
ih 108 97 false (.ld 2 true (.t 107)),
ih 109 97 false (.ld 2 true (.t 6)),
ig 110 97 false (.eqg true [0, 0] (.t 108) (.t 109)),
ia 111 (.pick (.t 97) (.c (.a (.p (.b true)))) (.t 110))]) (.cond (.t 111) (.seq (.reg [
  ia 2 (.mv (ci 120))]) .ret) .skip))))) (.reg [
  ia 78 (.mv (.t 5)),
ia 79 (.bin .add (.t 78) (ci 1)),
ia 5 (.mv (.t 79))])))
def F25b0 : C := (.seq (.seq (.reg [
  ia 42 (.mv (.t 3)),
ia 43 (.fad 0 (.t 1)),
ia 44 (.ld 1 false (.t 43)),
ia 45 (.len false (.t 44)),
ia 46 (.bin .lss (.t 42) (.t 45))]) (.cond (.t 46) .skip (.exit 0))) (.seq (.block 1 (.seq (.reg [
  ia 49 (.fad 0 (.t 1)),
ia 50 (.ld 1 false (.t 49)),
ia 51 (.mv (.t 3)),
ia 52 (.ias 6 (.t 50) (.t 51)),
ia 53 (.ld 6 true (.t 52)),
ia 4 (.new [(.p (.i .i64 0)), (.p (.i .i64 0)), (.p (.i .i64 0)), (.p (.s [])), .nil, .nil]),
io (.st 6 (.t 4) (.t 53))]) (.seq (.seq (.reg [
  ia 54 (.ld 6 true (.t 4)),
ia 55 (.call (.f 56) [(.t 54)]),
ia 56 (.not (.t 55)),
ia 57 (.mv (.t 56)),
ih 58 57 false (.fad 5 (.t 4)),
ih 59 57 false (.ld 1 false (.t 58)),
ih 60 57 false (.len false (.t 59)),
ih 61 57 false (.ld 6 true (.t 4)),
ih 62 57 false (.call (.f 57) [(.t 61)]),
ig 63 57 false (.bin .neq (.t 60) (.t 62)),
ia 64 (.pick (.t 57) (.c (.a (.p (.b true)))) (.t 63)),
ia 65 (.mv (.t 64)),
ih 66 65 false (.mv (.t 3)),
ih 67 65 false (.bin .eql (.t 66) (ci 0)),
ih 68 65 false (.fad 0 (.t 4)),
ih 69 65 false (.ld 1 false (.t 68)),
ih 70 65 false (.bin .eql (.t 69) (ci 1)),
ig 71 65 false (.eqb true (.t 67) (.t 70)),
ia 72 (.pick (.t 65) (.c (.a (.p (.b true)))) (.t 71))]) (.cond (.t 72) (.seq (.reg [
  ia 2 (.mv (ci 120))]) .ret) .skip)) (.seq (.reg [
  ia 5 (.mv (ci 0))]) (.block 2 (.loop F25b1)))))) (.reg [
  ia 47 (.mv (.t 3)),
ia 48 (.bin .add (.t 47) (ci 1)),
ia 3 (.mv (.t 48))])))
def F25 : FnC := ⟨1, (.seq (.reg [
  ia 1 (.box 2 (.t 0)),
ia 2 (.mv (ci 0))]) (.seq (.seq (.reg [
  ia 8 (.fad 1 (.t 1)),
ia 9 (.ld 1 false (.t 8)),
ia 10 (.bin .lss (.t 9) (ci 1)),
ia 11 (.mv (.t 10)),
ig 12 11 false (.fad 1 (.t 1)),
ig 13 11 false (.ld 1 false (.t 12)),
ig 14 11 false (.bin .gtr (.t 13) (ci 4000)),
ia 15 (.pick (.t 11) (.c (.a (.p (.b true)))) (.t 14)),
ia 16 (.mv (.t 15)),
ig 17 16 false (.fad 0 (.t 1)),
ig 18 16 false (.ld 1 false (.t 17)),
ig 19 16 false (.len false (.t 18)),
ig 20 16 false (.bin .lss (.t 19) (ci 1)),
ia 21 (.pick (.t 16) (.c (.a (.p (.b true)))) (.t 20)),
ia 22 (.mv (.t 21)),
ig 23 22 false (.fad 0 (.t 1)),
ig 24 22 false (.ld 1 false (.t 23)),
ig 25 22 false (.len false (.t 24)),
ig 26 22 false (.fad 1 (.t 1)),
ig 27 22 false (.ld 1 false (.t 26)),
ig 28 22 false (.bin .gtr (.t 25) (.t 27)),
ia 29 (.pick (.t 22) (.c (.a (.p (.b true)))) (.t 28)),
ia 30 (.mv (.t 29)),
ig 31 30 false (.fad 0 (.t 1)),
ig 32 30 false (.ld 1 false (.t 31)),
ig 33 30 false (.fad 0 (.t 1)),
ig 34 30 false (.ld 1 false (.t 33)),
ig 35 30 false (.len false (.t 34)),
ig 36 30 false (.bin .sub (.t 35) (ci 1)),
ig 37 30 false (.ias 6 (.t 32) (.t 36)),
ig 38 30 false (.fad 0 (.t 37)),
ig 39 30 false (.ld 1 false (.t 38)),
ig 40 30 false (.bin .eql (.t 39) (ci 0)),
ia 41 (.pick (.t 30) (.c (.a (.p (.b true)))) (.t 40))]) (.cond (.t 41) (.seq (.reg [
  ia 2 (.mv (ci 120))]) .ret) .skip)) (.seq (.seq (.reg [
  ia 3 (.mv (ci 0))]) (.block 0 (.loop F25b0))) (.seq (.reg [
  ia 2 (.mv (ci 0))]) .ret)))), [(.tmp 2)]⟩
theorem cc25 : ccF Try.prog [(43, [0, 0]), (79, [1, 0]), (60, [0, 0]), (140, [0, 0]), (43, [9])] Try.f25 = some (stripF F25) := by kernel_rfl

/- gossamer/gossamerref12.Used -/
def F26b0 : C := (.seq (.seq (.reg [
  ia 5 (.mv (.t 4)),
ia 6 (.fad 0 (.t 1)),
ia 7 (.ld 1 false (.t 6)),
ia 8 (.len false (.t 7)),
ia 9 (.bin .lss (.t 5) (.t 8))]) (.cond (.t 9) .skip (.exit 0))) (.seq (.block 1 (.seq (.reg [
  ia 12 (.fad 0 (.t 1)),
ia 13 (.ld 1 false (.t 12)),
ia 14 (.mv (.t 4)),
ia 15 (.ias 6 (.t 13) (.t 14)),
ia 16 (.fad 0 (.t 15)),
ia 17 (.ld 1 false (.t 16)),
ia 18 (.bin .neq (.t 17) (ci 0))]) (.cond (.t 18) (.reg [
  ia 19 (.mv (.t 3)),
ia 20 (.bin .add (.t 19) (ci 1)),
ia 3 (.mv (.t 20))]) .skip))) (.reg [
  ia 10 (.mv (.t 4)),
ia 11 (.bin .add (.t 10) (ci 1)),
ia 4 (.mv (.t 11))])))
def F26 : FnC := ⟨1, (.seq (.reg [
  ia 1 (.box 2 (.t 0)),
ia 2 (.mv (ci 0))]) (.seq (.reg [
  ia 3 (.mv (ci 0))]) (.seq (.seq (.reg [
  ia 4 (.mv (ci 0))]) (.block 0 (.loop F26b0))) (.seq (.reg [
  ia 21 (.mv (.t 3)),
ia 2 (.mv (.t 21))]) .ret)))), [(.tmp 2)]⟩
theorem cc26 : ccF Try.prog [(43, [0, 0]), (79, [1, 0]), (60, [0, 0]), (140, [0, 0]), (43, [9])] Try.f26 = some (stripF F26) := by kernel_rfl

/- gossamer/gossamerref18.In -/
def F27b0 : C := (.seq (.seq (.reg [
  ia 6 (.mv (.t 5)),
ia 7 (.mv (.t 0)),
ia 8 (.len false (.t 7)),
ia 9 (.bin .lss (.t 6) (.t 8))]) (.cond (.t 9) .skip (.exit 0))) (.seq (.block 1 (.seq (.reg [
  ia 12 (.mv (.t 0)),
ia 13 (.mv (.t 5)),
ia 14 (.ias 1 (.t 12) (.t 13)),
ia 15 (.ld 1 false (.t 14)),
ia 16 (.mv (.t 1)),
ia 17 (.bin .eql (.t 15) (.t 16))]) (.cond (.t 17) (.seq (.reg [
  ia 4 (.mv (.c (.a (.p (.b true)))))]) .ret) .skip))) (.reg [
  ia 10 (.mv (.t 5)),
ia 11 (.bin .add (.t 10) (ci 1)),
ia 5 (.mv (.t 11))])))
def F27 : FnC := ⟨2, (.seq (.reg [
  ia 4 (.mv (.c (.a (.p (.b false)))))]) (.seq (.seq (.reg [
  ia 5 (.mv (ci 0))]) (.block 0 (.loop F27b0))) (.seq (.reg [
  ia 4 (.mv (.c (.a (.p (.b false)))))]) .ret))), [(.tmp 4)]⟩
theorem cc27 : ccF Try.prog [(43, [0, 0]), (79, [1, 0]), (60, [0, 0]), (140, [0, 0]), (43, [9])] Try.f27 = some (stripF F27) := by kernel_rfl

/- gossamer/gossamerref12.One -/
def F28b0 : C := (.seq (.seq (.reg [
  ia 51 (.mv (.t 5)),
ia 52 (.fad 4 (.t 2)),
ia 53 (.ld 1 false (.t 52)),
ia 54 (.len false (.t 53)),
ia 55 (.bin .lss (.t 51) (.t 54))]) (.cond (.t 55) .skip (.exit 0))) (.seq (.block 1 (.seq (.reg [
  ir 58 (.fad 4 (.t 2)),
ir 59 (.ld 1 false (.t 58)),
ir 60 (.mv (.t 5)),
ir 61 (.ias 2 (.t 59) (.t 60)),
ir 62 (.ld 2 true (.t 61)),
ir 63 (.fad 4 (.t 3)),
ir 64 (.ld 1 false (.t 63)),
ir 65 (.mv (.t 5)),
ir 66 (.ias 2 (.t 64) (.t 65)),
ir 67 (.ld 2 true (.t 66)),
ia 68 (.eqg true [1, 0] (.t 62) (.t 67))]) (.cond (.t 68) (.seq (.reg [
  ia 4 (.mv (.c (.a (.p (.b false)))))]) .ret) .skip))) (.reg [
  ia 56 (.mv (.t 5)),
ia 57 (.bin .add (.t 56) (ci 1)),
ia 5 (.mv (.t 57))])))
def F28b1 : C := (.seq (.seq (.reg [
  ia 69 (.mv (.t 6)),
ia 70 (.fad 5 (.t 2)),
ia 71 (.ld 1 false (.t 70)),
ia 72 (.len false (.t 71)),
ia 73 (.bin .lss (.t 69) (.t 72))]) (.cond (.t 73) .skip (.exit 2))) (.seq (.block 3 (.seq (.reg [
  ir 76 (.fad 5 (.t 2)),
ir 77 (.ld 1 false (.t 76)),
ir 78 (.mv (.t 6)),
ir 79 (.ias 2 (.t 77) (.t 78)),
ir 80 (.ld 2 true (.t 79)),
ir 81 (.fad 5 (.t 3)),
ir 82 (.ld 1 false (.t 81)),
ir 83 (.mv (.t 6)),
ir 84 (.ias 2 (.t 82) (.t 83)),
ir 85 (.ld 2 true (.t 84)),
ia 86 (.eqg true [0, 0] (.t 80) (.t 85))]) (.cond (.t 86) (.seq (.reg [
  ia 4 (.mv (.c (.a (.p (.b false)))))]) .ret) .skip))) (.reg [
  ia 74 (.mv (.t 6)),
ia 75 (.bin .add (.t 74) (ci 1)),
ia 6 (.mv (.t 75))])))
def F28 : FnC := ⟨2, (.seq (.reg [
  ia 2 (.box 6 (.t 0)),
ia 3 (.box 6 (.t 1)),
ia 4 (.mv (.c (.a (.p (.b false)))))]) (.seq (.seq (.reg [
  ia 7 (.fad 0 (.t 2)),
ia 8 (.ld 1 false (.t 7)),
ia 9 (.fad 0 (.t 3)),
ia 10 (.ld 1 false (.t 9)),
ia 11 (.bin .neq (.t 8) (.t 10)),
ia 12 (.mv (.t 11)),
ig 13 12 false (.fad 1 (.t 2)),
ig 14 12 false (.ld 1 false (.t 13)),
ig 15 12 false (.fad 1 (.t 3)),
ig 16 12 false (.ld 1 false (.t 15)),
ig 17 12 false (.bin .neq (.t 14) (.t 16)),
ia 18 (.pick (.t 12) (.c (.a (.p (.b true)))) (.t 17)),
ia 19 (.mv (.t 18)),
ig 20 19 false (.fad 2 (.t 2)),
ig 21 19 false (.ld 1 false (.t 20)),
ig 22 19 false (.fad 2 (.t 3)),
ig 23 19 false (.ld 1 false (.t 22)),
ig 24 19 false (.bin .neq (.t 21) (.t 23)),
ia 25 (.pick (.t 19) (.c (.a (.p (.b true)))) (.t 24)),
ia 26 (.mv (.t 25)),
ig 27 26 false (.fad 3 (.t 2)),
ig 28 26 false (.ld 1 false (.t 27)),
ig 29 26 false (.fad 3 (.t 3)),
ig 30 26 false (.ld 1 false (.t 29)),
ig 31 26 false (.bin .neq (.t 28) (.t 30)),
ia 32 (.pick (.t 26) (.c (.a (.p (.b true)))) (.t 31)),
ia 33 (.mv (.t 32)),
ig 34 33 false (.fad 4 (.t 2)),
ig 35 33 false (.ld 1 false (.t 34)),
ig 36 33 false (.len false (.t 35)),
ig 37 33 false (.fad 4 (.t 3)),
ig 38 33 false (.ld 1 false (.t 37)),
ig 39 33 false (.len false (.t 38)),
ig 40 33 false (.bin .neq (.t 36) (.t 39)),
ia 41 (.pick (.t 33) (.c (.a (.p (.b true)))) (.t 40)),
ia 42 (.mv (.t 41)),
ig 43 42 false (.fad 5 (.t 2)),
ig 44 42 false (.ld 1 false (.t 43)),
ig 45 42 false (.len false (.t 44)),
ig 46 42 false (.fad 5 (.t 3)),
ig 47 42 false (.ld 1 false (.t 46)),
ig 48 42 false (.len false (.t 47)),
ig 49 42 false (.bin .neq (.t 45) (.t 48)),
ia 50 (.pick (.t 42) (.c (.a (.p (.b true)))) (.t 49))]) (.cond (.t 50) (.seq (.reg [
  ia 4 (.mv (.c (.a (.p (.b false)))))]) .ret) .skip)) (.seq (.seq (.reg [
  ia 5 (.mv (ci 0))]) (.block 0 (.loop F28b0))) (.seq (.seq (.reg [
  ia 6 (.mv (ci 0))]) (.block 2 (.loop F28b1))) (.seq (.reg [
  ia 4 (.mv (.c (.a (.p (.b true)))))]) .ret))))), [(.tmp 4)]⟩
theorem cc28 : ccF Try.prog [(43, [0, 0]), (79, [1, 0]), (60, [0, 0]), (140, [0, 0]), (43, [9])] Try.f28 = some (stripF F28) := by kernel_rfl

/- gossamer/gossamerref06.Small -/
def F29 : FnC := ⟨2, (.seq (.reg [
  ia 2 (.box 4 (.t 0)),
ia 4 (.mv (.c (.a (.p (.b false)))))]) (.seq (.reg [
  ia 5 (.ld 4 true (.t 2)),
ia 6 (.mv (.t 1)),
ia 7 (.call (.f 58) [(.t 5), (.t 6), (ci 600)]),
ia 8 (.bin .geq (.t 7) (ci 0)),
ia 4 (.mv (.t 8))]) .ret)), [(.tmp 4)]⟩
theorem cc29 : ccF Try.prog [(43, [0, 0]), (79, [1, 0]), (60, [0, 0]), (140, [0, 0]), (43, [9])] Try.f29 = some (stripF F29) := by kernel_rfl

/- gossamer/gossamerref06.Depth -/
def F30b0 : C := (.seq (.seq (.reg [
  ia 5 (.mv (.t 4)),
ia 6 (.fad 3 (.t 1)),
ia 7 (.ld 1 false (.t 6)),
ia 8 (.len false (.t 7)),
ia 9 (.bin .lss (.t 5) (.t 8))]) (.cond (.t 9) .skip (.exit 0))) (.seq (.block 1 (.reg [
  ia 12 (.mv (.t 3)),
ia 13 (.fad 3 (.t 1)),
ia 14 (.ld 1 false (.t 13)),
ia 15 (.mv (.t 4)),
ia 16 (.ias 4 (.t 14) (.t 15)),
ia 17 (.ld 4 true (.t 16)),
ia 18 (.call (.f 30) [(.t 17)]),
ia 19 (.mx (.t 12) (.t 18)),
ia 3 (.mv (.t 19))])) (.reg [
  ia 10 (.mv (.t 4)),
ia 11 (.bin .add (.t 10) (ci 1)),
ia 4 (.mv (.t 11))])))
def F30 : FnC := ⟨1, (.seq (.reg [
  ia 1 (.box 4 (.t 0)),
ia 2 (.mv (ci 0))]) (.seq (.reg [
  ia 3 (.mv (ci 0))]) (.seq (.seq (.reg [
  ia 4 (.mv (ci 0))]) (.block 0 (.loop F30b0))) (.seq (.reg [
  ia 20 (.mv (.t 3)),
ia 21 (.bin .add (.t 20) (ci 1)),
ia 2 (.mv (.t 21))]) .ret)))), [(.tmp 2)]⟩
theorem cc30 : ccF Try.prog [(43, [0, 0]), (79, [1, 0]), (60, [0, 0]), (140, [0, 0]), (43, [9])] Try.f30 = some (stripF F30) := by kernel_rfl

/- gossamer/gossamerref06.May -/
def F31 : FnC := ⟨2, (.seq (.reg [
  ia 2 (.box 4 (.t 0)),
ia 4 (.mv (.c (.a (.p (.b false)))))]) (.seq (.reg [
  ia 5 (.ld 4 true (.t 2)),
ia 6 (.mv (.t 1)),
ia 7 (.call (.f 59) [(.t 5), (.t 6), (.c (.a (.p (.b false))))]),
ia 4 (.mv (.t 7))]) .ret)), [(.tmp 4)]⟩
theorem cc31 : ccF Try.prog [(43, [0, 0]), (79, [1, 0]), (60, [0, 0]), (140, [0, 0]), (43, [9])] Try.f31 = some (stripF F31) := by kernel_rfl

/- gossamer/gossamerref16.Net -/
def F32 : FnC := ⟨2, (.seq (.reg [
  ia 2 (.box 4 (.t 0)),
ia 4 (.new [.nil, (.p (.i .i64 0))]),
ia 5 (.mv (ci 0))]) (.seq (.seq (.reg [
  ia 7 (.ld 4 true (.t 2)),
ia 8 (.call (.f 31) [(.t 7), (ci 0)]),
ia 9 (.not (.t 8)),
ia 10 (.mv (.t 9)),
ig 11 10 false (.mv (.t 1)),
ig 12 10 false (.bin .lss (.t 11) (ci 2)),
ia 13 (.pick (.t 10) (.c (.a (.p (.b true)))) (.t 12)),
ia 14 (.mv (.t 13)),
ig 15 14 false (.mv (.t 1)),
ig 16 14 false (.bin .gtr (.t 15) (ci 4000)),
ia 17 (.pick (.t 14) (.c (.a (.p (.b true)))) (.t 16))]) (.cond (.t 17) (.seq (.reg [
  ia 18 (.build [.nil, (.p (.i .i64 0))] []),
io (.st 2 (.t 4) (.t 18)),
ia 5 (.mv (ci 1))]) .ret) .skip)) (.seq (.reg [
  ia 19 (.mv (.t 1)),
ia 20 (.build [(.p (.i .i64 0)), (.p (.i .i64 0))] []),
ia 21 (.bsl 2 43 [(.p (.i .i64 0)), (.p (.i .i64 0))] 1 [(0, (.t 20))]),
ia 22 (.build [(.p (.i .i64 0)), (.p (.i .i64 0)), (.p (.i .i64 0)), (.p (.s [])), .nil, .nil] [(0, (1, (ci 1))), (5, (1, (.t 21)))]),
ia 23 (.bsl 6 41 [(.p (.i .i64 0)), (.p (.i .i64 0)), (.p (.i .i64 0)), (.p (.s [])), .nil, .nil] 1 [(0, (.t 22))]),
ia 24 (.build [.nil, (.p (.i .i64 0))] [(1, (1, (.t 19))), (0, (1, (.t 23)))]),
ia 25 (.ld 4 true (.t 2)),
ia 26 (.call (.f 60) [(.t 24), (.t 25), (ci 0)]),
ia 6 (.new [.nil, (.p (.i .i64 0)), (.p (.i .i64 0)), (.p (.i .i64 0)), .nil, (.p (.i .i64 0))]),
io (.st 6 (.t 6) (.t 26))]) (.seq (.seq (.reg [
  ia 27 (.fad 5 (.t 6)),
ia 28 (.ld 1 false (.t 27)),
ia 29 (.bin .neq (.t 28) (ci 0))]) (.cond (.t 29) (.seq (.reg [
  ir 30 (.build [.nil, (.p (.i .i64 0))] []),
ir 31 (.fad 5 (.t 6)),
ir 32 (.ld 1 false (.t 31)),
⟨.none, .none, (.st 2 (.t 4) (.t 30)), (.wr [31])⟩,
ia 5 (.mv (.t 32))]) .ret) .skip)) (.seq (.reg [
  ir 33 (.fad 0 (.t 6)),
ir 34 (.ld 2 true (.t 33)),
ir 35 (.fad 2 (.t 6)),
ir 36 (.ld 2 true (.t 35)),
ir 37 (.call (.f 62) [(ci 0), (ci 0)]),
ia 38 (.call (.f 61) [(.t 34), (.t 36), (.t 37)]),
io (.st 2 (.t 4) (.t 38)),
ia 5 (.mv (ci 0))]) .ret))))), [(.cell 4 2 true), (.tmp 5)]⟩
theorem cc32 : ccF Try.prog [(43, [0, 0]), (79, [1, 0]), (60, [0, 0]), (140, [0, 0]), (43, [9])] Try.f32 = some (stripF F32) := by kernel_rfl

/- gossamer/gossamerref12.Make -/
def F33b0 : C := (.seq (.seq (.reg [
  ia 35 (.mv (.t 8)),
ia 36 (.fad 0 (.t 7)),
ia 37 (.ld 1 false (.t 36)),
ia 38 (.len false (.t 37)),
ia 39 (.bin .lss (.t 35) (.t 38))]) (.cond (.t 39) .skip (.exit 0))) (.seq (.block 1 (.seq (.reg [
  ia 42 (.fad 0 (.t 7)),
ia 43 (.ld 1 false (.t 42)),
ia 44 (.mv (.t 8)),
ia 45 (.ias 6 (.t 43) (.t 44)),
ia 46 (.fad 0 (.t 45)),
ia 47 (.ld 1 false (.t 46)),
ia 48 (.bin .eql (.t 47) (ci 0))]) (.cond (.t 48) (.seq (.reg [
  ia 49 (.fad 0 (.t 7)),
ia 50 (.ld 1 false (.t 49)),
ia 51 (.mv (.t 8)),
ia 52 (.ld 6 true (.t 3)),
ia 53 (.ias 6 (.t 50) (.t 51)),
io (.st 6 (.t 53) (.t 52))]) (.seq (.reg [
  ia 54 (.ld 2 true (.t 7)),
ia 55 (.mv (.t 8)),
io (.st 2 (.t 4) (.t 54)),
ia 5 (.mv (.t 55)),
ia 6 (.mv (ci 0))]) .ret)) .skip))) (.reg [
  ia 40 (.mv (.t 8)),
ia 41 (.bin .add (.t 40) (ci 1)),
ia 8 (.mv (.t 41))])))
def F33 : FnC := ⟨2, (.seq (.reg [
  ia 2 (.box 2 (.t 0)),
ia 3 (.box 6 (.t 1)),
ia 4 (.new [.nil, (.p (.i .i64 0))]),
ia 5 (.mv (ci 0)),
ia 6 (.mv (ci 0))]) (.seq (.seq (.reg [
  ia 9 (.fad 0 (.t 3)),
ia 10 (.ld 1 false (.t 9)),
ia 11 (.bin .lss (.t 10) (ci 2)),
ia 12 (.mv (.t 11)),
ig 13 12 false (.ld 6 true (.t 3)),
ig 14 12 false (.call (.f 56) [(.t 13)]),
ig 15 12 false (.not (.t 14)),
ia 16 (.pick (.t 12) (.c (.a (.p (.b true)))) (.t 15))]) (.cond (.t 16) (.seq (.reg [
  ia 17 (.ld 2 true (.t 2)),
io (.st 2 (.t 4) (.t 17)),
ia 5 (.mv (ci 0)),
ia 6 (.mv (ci 122))]) .ret) .skip)) (.seq (.seq (.reg [
  ir 18 (.ld 2 true (.t 2)),
ir 19 (.call (.f 26) [(.t 18)]),
ir 20 (.fad 1 (.t 2)),
ir 21 (.ld 1 false (.t 20)),
ia 22 (.bin .geq (.t 19) (.t 21))]) (.cond (.t 22) (.seq (.reg [
  ia 23 (.ld 2 true (.t 2)),
io (.st 2 (.t 4) (.t 23)),
ia 5 (.mv (ci 0)),
ia 6 (.mv (ci 121))]) .ret) .skip)) (.seq (.reg [
  ia 24 (.ld 2 true (.t 2)),
ia 25 (.call (.f 51) [(.t 24)]),
ia 7 (.new [.nil, (.p (.i .i64 0))]),
io (.st 2 (.t 7) (.t 25))]) (.seq (.reg [
  ia 26 (.ld 6 true (.t 3)),
ia 27 (.call (.f 57) [(.t 26)]),
ia 28 (.mslF 2 43 16 [(.p (.i .i64 0)), (.p (.i .i64 0))] (.t 27) (.t 27)),
ia 29 (.fad 5 (.t 3)),
io (.st 1 (.t 29) (.t 28))]) (.seq (.reg [
  ia 30 (.bsl 2 79 [(.p (.s [])), (.p (.i .i64 0))] 0 []),
ia 31 (.fad 4 (.t 3)),
ia 32 (.ld 1 false (.t 31)),
ia 33 (.app 2 79 24 (.t 30) (.t 32)),
ia 34 (.fad 4 (.t 3)),
io (.st 1 (.t 34) (.t 33))]) (.seq (.seq (.reg [
  ia 8 (.mv (ci 0))]) (.block 0 (.loop F33b0))) (.seq (.reg [
  ia 56 (.fad 0 (.t 7)),
ia 57 (.ld 1 false (.t 56)),
ia 58 (.ld 6 true (.t 3)),
ia 59 (.bsl 6 41 [(.p (.i .i64 0)), (.p (.i .i64 0)), (.p (.i .i64 0)), (.p (.s [])), .nil, .nil] 1 [(0, (.t 58))]),
ia 60 (.app 6 41 88 (.t 57) (.t 59)),
ia 61 (.fad 0 (.t 7)),
io (.st 1 (.t 61) (.t 60))]) (.seq (.reg [
  ir 62 (.ld 2 true (.t 7)),
ir 63 (.fad 0 (.t 7)),
ir 64 (.ld 1 false (.t 63)),
ir 65 (.len false (.t 64)),
ir 66 (.bin .sub (.t 65) (ci 1)),
⟨.none, .none, (.st 2 (.t 4) (.t 62)), (.wr [63])⟩,
ia 5 (.mv (.t 66)),
ia 6 (.mv (ci 0))]) .ret))))))))), [(.cell 4 2 true), (.tmp 5), (.tmp 6)]⟩
theorem cc33 : ccF Try.prog [(43, [0, 0]), (79, [1, 0]), (60, [0, 0]), (140, [0, 0]), (43, [9])] Try.f33 = some (stripF F33) := by kernel_rfl

/- gossamer/gossamerlaw19.fixed -/
def F34 : FnC := ⟨0, (.seq (.reg [
  ia 0 (.mv (.c (.a (.p (.b false)))))]) (.seq (.reg [
  ia 27 (.call (.f 50) [(ci 5)]),
ia 26 (.mv (.t 27)),
ia 28 (.ext (.t 26) 0),
ia 29 (.ext (.t 26) 1),
ia 1 (.new [.nil, (.p (.i .i64 0))]),
io (.st 2 (.t 1) (.t 28)),
ia 2 (.mv (.t 29))]) (.fz [1] (.seq (.reg [
  ir 31 (.ld 2 true (.t 1)),
ir 32 (.call (.f 38) [(ci 0), (ci 0)]),
ia 33 (.call (.f 36) [(.t 31), (.t 32)]),
ia 30 (.mv (.t 33)),
ir 34 (.ext (.t 30) 0),
ir 35 (.ext (.t 30) 1),
ir 36 (.ext (.t 30) 2),
ir 3 (.mv (.t 34)),
ir 4 (.mv (.t 35)),
ia 5 (.mv (.t 36))]) (.fz [1] (.seq (.reg [
  ia 37 (.call (.f 38) [(ci 1), (ci 1)]),
ia 38 (.bsl 2 43 [(.p (.i .i64 0)), (.p (.i .i64 0))] 1 [(0, (.t 37))]),
ia 39 (.build [(.p (.i .i64 0)), (.p (.i .i64 0)), (.p (.i .i64 0)), (.p (.s [])), .nil, .nil] [(0, (1, (ci 1))), (5, (1, (.t 38)))]),
ia 40 (.call (.f 38) [(ci 2), (ci 1)]),
ia 41 (.call (.f 38) [(ci 0), (ci 0)]),
ia 42 (.bsl 2 43 [(.p (.i .i64 0)), (.p (.i .i64 0))] 2 [(0, (.t 40)), (1, (.t 41))]),
ia 43 (.build [(.p (.i .i64 0)), (.p (.i .i64 0)), (.p (.i .i64 0)), (.p (.s [])), .nil, .nil] [(0, (1, (ci 5))), (5, (1, (.t 42)))]),
ia 44 (.call (.f 38) [(ci 3), (ci 0)]),
ia 45 (.call (.f 38) [(ci 1), (ci 0)]),
ia 46 (.call (.f 38) [(ci 4), (ci 0)]),
ia 47 (.bsl 2 43 [(.p (.i .i64 0)), (.p (.i .i64 0))] 3 [(0, (.t 44)), (1, (.t 45)), (2, (.t 46))]),
ia 48 (.build [(.p (.i .i64 0)), (.p (.i .i64 0)), (.p (.i .i64 0)), (.p (.s [])), .nil, .nil] [(0, (1, (ci 3))), (5, (1, (.t 47)))]),
ia 49 (.call (.f 38) [(ci 2), (ci 0)]),
ia 50 (.call (.f 38) [(ci 3), (ci 2)]),
ia 51 (.call (.f 38) [(ci 3), (ci 1)]),
ia 52 (.bsl 2 43 [(.p (.i .i64 0)), (.p (.i .i64 0))] 3 [(0, (.t 49)), (1, (.t 50)), (2, (.t 51))]),
ia 53 (.build [(.p (.i .i64 0)), (.p (.i .i64 0)), (.p (.i .i64 0)), (.p (.s [])), .nil, .nil] [(0, (1, (ci 2))), (5, (1, (.t 52)))]),
ia 54 (.call (.f 38) [(ci 2), (ci 2)]),
ia 55 (.bsl 2 43 [(.p (.i .i64 0)), (.p (.i .i64 0))] 1 [(0, (.t 54))]),
ia 56 (.build [(.p (.i .i64 0)), (.p (.i .i64 0)), (.p (.i .i64 0)), (.p (.s [])), .nil, .nil] [(0, (1, (ci 10))), (1, (1, (ci 1))), (2, (1, (ci 7))), (5, (1, (.t 55)))]),
ia 57 (.bsl 6 41 [(.p (.i .i64 0)), (.p (.i .i64 0)), (.p (.i .i64 0)), (.p (.s [])), .nil, .nil] 5 [(0, (.t 39)), (1, (.t 43)), (2, (.t 48)), (3, (.t 53)), (4, (.t 56))]),
ia 58 (.build [.nil, (.p (.i .i64 0))] [(1, (1, (ci 9))), (0, (1, (.t 57)))]),
ia 6 (.new [.nil, (.p (.i .i64 0))]),
io (.st 2 (.t 6) (.t 58))]) (.fz [1, 6] (.seq (.reg [
  ir 60 (.ld 2 true (.t 6)),
ir 61 (.call (.f 38) [(ci 0), (ci 0)]),
ia 62 (.call (.f 36) [(.t 60), (.t 61)]),
ia 59 (.mv (.t 62)),
ir 63 (.ext (.t 59) 0),
ir 64 (.ext (.t 59) 1),
ir 65 (.ext (.t 59) 2),
ir 7 (.mv (.t 63)),
ir 8 (.mv (.t 64)),
ia 9 (.mv (.t 65))]) (.fz [1, 6] (.seq (.reg [
  ir 67 (.ld 2 true (.t 6)),
ir 68 (.call (.f 38) [(ci 2), (ci 2)]),
ia 69 (.call (.f 36) [(.t 67), (.t 68)]),
ia 66 (.mv (.t 69)),
ir 70 (.ext (.t 66) 0),
ir 71 (.ext (.t 66) 1),
ir 72 (.ext (.t 66) 2),
ir 10 (.mv (.t 70)),
ir 11 (.mv (.t 71)),
ia 12 (.mv (.t 72))]) (.fz [1, 6] (.seq (.reg [
  ir 74 (.ld 2 true (.t 6)),
ir 75 (.call (.f 38) [(ci 3), (ci 1)]),
ia 76 (.call (.f 36) [(.t 74), (.t 75)]),
ia 73 (.mv (.t 76)),
ir 77 (.ext (.t 73) 0),
ir 78 (.ext (.t 73) 1),
ir 79 (.ext (.t 73) 2),
ir 13 (.mv (.t 77)),
ir 14 (.mv (.t 78)),
ia 15 (.mv (.t 79))]) (.fz [1, 6] (.seq (.reg [
  ir 81 (.ld 2 true (.t 6)),
ir 82 (.call (.f 38) [(ci 9), (ci 0)]),
ia 83 (.call (.f 36) [(.t 81), (.t 82)]),
ia 80 (.mv (.t 83)),
ir 84 (.ext (.t 80) 0),
ir 85 (.ext (.t 80) 1),
ir 86 (.ext (.t 80) 2),
ir 16 (.mv (.t 84)),
ir 17 (.mv (.t 85)),
ia 18 (.mv (.t 86))]) (.fz [1, 6] (.seq (.reg [
  ia 88 (.build [.nil, (.p (.i .i64 0))] []),
ia 89 (.call (.f 38) [(ci 0), (ci 0)]),
ia 90 (.call (.f 36) [(.t 88), (.t 89)]),
ia 87 (.mv (.t 90)),
ia 91 (.ext (.t 87) 0),
ia 92 (.ext (.t 87) 1),
ia 93 (.ext (.t 87) 2),
ia 19 (.mv (.t 91)),
ia 20 (.mv (.t 92)),
ia 21 (.mv (.t 93))]) (.fz [1, 6] (.seq (.reg [
  ia 94 (.call (.f 38) [(ci 1), (ci 2)]),
ia 95 (.bsl 2 43 [(.p (.i .i64 0)), (.p (.i .i64 0))] 1 [(0, (.t 94))]),
ia 96 (.build [(.p (.i .i64 0)), (.p (.i .i64 0)), (.p (.i .i64 0)), (.p (.s [])), .nil, .nil] [(0, (1, (ci 1))), (5, (1, (.t 95)))]),
ia 97 (.call (.f 38) [(ci 1), (ci 1)]),
ia 98 (.call (.f 38) [(ci 1), (ci 0)]),
ia 99 (.call (.f 38) [(ci 0), (ci 0)]),
ia 100 (.bsl 2 43 [(.p (.i .i64 0)), (.p (.i .i64 0))] 3 [(0, (.t 97)), (1, (.t 98)), (2, (.t 99))]),
ia 101 (.build [(.p (.i .i64 0)), (.p (.i .i64 0)), (.p (.i .i64 0)), (.p (.s [])), .nil, .nil] [(0, (1, (ci 4))), (5, (1, (.t 100)))]),
ia 102 (.bsl 6 41 [(.p (.i .i64 0)), (.p (.i .i64 0)), (.p (.i .i64 0)), (.p (.s [])), .nil, .nil] 2 [(0, (.t 96)), (1, (.t 101))]),
ia 103 (.build [.nil, (.p (.i .i64 0))] [(1, (1, (ci 9))), (0, (1, (.t 102)))]),
ia 22 (.new [.nil, (.p (.i .i64 0))]),
io (.st 2 (.t 22) (.t 103))]) (.fz [1, 6, 22] (.seq (.reg [
  ir 105 (.ld 2 true (.t 22)),
ir 106 (.call (.f 38) [(ci 0), (ci 0)]),
ia 107 (.call (.f 36) [(.t 105), (.t 106)]),
ia 104 (.mv (.t 107)),
ir 108 (.ext (.t 104) 0),
ir 109 (.ext (.t 104) 1),
ir 110 (.ext (.t 104) 2),
ir 23 (.mv (.t 108)),
ir 24 (.mv (.t 109)),
ia 25 (.mv (.t 110))]) (.fz [1, 6, 22] (.seq (.reg [
  ia 111 (.mv (.t 3)),
ia 112 (.bin .eql (.t 111) (ci 1)),
ia 113 (.mv (.t 112)),
ig 114 113 true (.mv (.t 4)),
ig 115 113 true (.not (.t 114)),
ia 116 (.pick (.t 113) (.t 115) (.c (.a (.p (.b false))))),
ia 117 (.mv (.t 116)),
ig 118 117 true (.mv (.t 5)),
ig 119 117 true (.bin .eql (.t 118) (ci 0)),
ia 120 (.pick (.t 117) (.t 119) (.c (.a (.p (.b false))))),
ia 121 (.mv (.t 120)),
ig 122 121 true (.mv (.t 7)),
ig 123 121 true (.bin .eql (.t 122) (ci 2)),
ia 124 (.pick (.t 121) (.t 123) (.c (.a (.p (.b false))))),
ia 125 (.mv (.t 124)),
ig 126 125 true (.mv (.t 8)),
ia 127 (.pick (.t 125) (.t 126) (.c (.a (.p (.b false))))),
ia 128 (.mv (.t 127)),
ig 129 128 true (.mv (.t 9)),
ig 130 128 true (.bin .eql (.t 129) (ci 0)),
ia 131 (.pick (.t 128) (.t 130) (.c (.a (.p (.b false))))),
ia 132 (.mv (.t 131)),
ih 133 132 true (.ld 2 true (.t 6)),
ih 134 132 true (.call (.f 38) [(ci 0), (ci 0)]),
ih 135 132 true (.call (.f 37) [(.t 133), (.t 134)]),
⟨(.some 136), (.some (132, true)), (.bsl 1 3 [(.p (.i .i64 0))] 2 [(0, (ci 1)), (1, (ci 2))]), .ad⟩,
ig 137 132 true (.call (.f 19) [(.t 135), (.t 136)]),
ia 138 (.pick (.t 132) (.t 137) (.c (.a (.p (.b false))))),
ia 139 (.mv (.t 138)),
ig 140 139 true (.mv (.t 10)),
ig 141 139 true (.bin .eql (.t 140) (ci 4)),
ia 142 (.pick (.t 139) (.t 141) (.c (.a (.p (.b false))))),
ia 143 (.mv (.t 142)),
ig 144 143 true (.mv (.t 12)),
ig 145 143 true (.bin .eql (.t 144) (ci 0)),
ia 146 (.pick (.t 143) (.t 145) (.c (.a (.p (.b false))))),
ia 147 (.mv (.t 146)),
ig 148 147 true (.mv (.t 13)),
ig 149 147 true (.bin .eql (.t 148) (ci 3)),
ia 150 (.pick (.t 147) (.t 149) (.c (.a (.p (.b false))))),
ia 151 (.mv (.t 150)),
ig 152 151 true (.mv (.t 15)),
ig 153 151 true (.bin .eql (.t 152) (ci 190)),
ia 154 (.pick (.t 151) (.t 153) (.c (.a (.p (.b false))))),
ia 155 (.mv (.t 154)),
ig 156 155 true (.mv (.t 18)),
ig 157 155 true (.bin .eql (.t 156) (ci 130)),
ia 158 (.pick (.t 155) (.t 157) (.c (.a (.p (.b false))))),
ia 159 (.mv (.t 158)),
ig 160 159 true (.mv (.t 21)),
ig 161 159 true (.bin .eql (.t 160) (ci 120)),
ia 162 (.pick (.t 159) (.t 161) (.c (.a (.p (.b false))))),
ia 163 (.mv (.t 162)),
ig 164 163 true (.mv (.t 23)),
ig 165 163 true (.bin .eql (.t 164) (ci 1)),
ia 166 (.pick (.t 163) (.t 165) (.c (.a (.p (.b false))))),
ia 167 (.mv (.t 166)),
ig 168 167 true (.mv (.t 25)),
ig 169 167 true (.bin .eql (.t 168) (ci 191)),
ia 170 (.pick (.t 167) (.t 169) (.c (.a (.p (.b false))))),
ia 0 (.mv (.t 170))]) .ret)))))))))))))))))))))), [(.tmp 0)]⟩
theorem cc34 : ccF Try.prog [(43, [0, 0]), (79, [1, 0]), (60, [0, 0]), (140, [0, 0]), (43, [9])] Try.f34 = some (stripF F34) := by kernel_rfl

/- gossamer/gossamerref12.Has -/
def F35 : FnC := ⟨2, (.seq (.reg [
  ia 2 (.box 2 (.t 0)),
ia 3 (.box 2 (.t 1)),
ia 4 (.mv (.c (.a (.p (.b false)))))]) (.seq (.reg [
  ia 5 (.fad 0 (.t 3)),
ia 6 (.ld 1 false (.t 5)),
ia 7 (.bin .geq (.t 6) (ci 0)),
ia 8 (.mv (.t 7)),
ih 9 8 true (.fad 0 (.t 3)),
ih 10 8 true (.ld 1 false (.t 9)),
ih 11 8 true (.fad 0 (.t 2)),
ih 12 8 true (.ld 1 false (.t 11)),
ih 13 8 true (.len false (.t 12)),
ig 14 8 true (.bin .lss (.t 10) (.t 13)),
ia 15 (.pick (.t 8) (.t 14) (.c (.a (.p (.b false))))),
ia 16 (.mv (.t 15)),
ig 17 16 true (.fad 1 (.t 3)),
ig 18 16 true (.ld 1 false (.t 17)),
ig 19 16 true (.bin .geq (.t 18) (ci 0)),
ia 20 (.pick (.t 16) (.t 19) (.c (.a (.p (.b false))))),
ia 21 (.mv (.t 20)),
ih 22 21 true (.fad 1 (.t 3)),
ih 23 21 true (.ld 1 false (.t 22)),
ih 24 21 true (.fad 0 (.t 2)),
ih 25 21 true (.ld 1 false (.t 24)),
ih 26 21 true (.fad 0 (.t 3)),
ih 27 21 true (.ld 1 false (.t 26)),
ih 28 21 true (.ias 6 (.t 25) (.t 27)),
ih 29 21 true (.fad 5 (.t 28)),
ih 30 21 true (.ld 1 false (.t 29)),
ih 31 21 true (.len false (.t 30)),
ig 32 21 true (.bin .lss (.t 23) (.t 31)),
ia 33 (.pick (.t 21) (.t 32) (.c (.a (.p (.b false))))),
ia 4 (.mv (.t 33))]) .ret)), [(.tmp 4)]⟩
theorem cc35 : ccF Try.prog [(43, [0, 0]), (79, [1, 0]), (60, [0, 0]), (140, [0, 0]), (43, [9])] Try.f35 = some (stripF F35) := by kernel_rfl

/- gossamer/walk.Next -/
def F36 : FnC := ⟨2, (.seq (.reg [
  ia 2 (.box 2 (.t 0)),
ia 3 (.box 2 (.t 1)),
ia 4 (.mv (ci 0)),
ia 5 (.mv (.c (.a (.p (.b false))))),
ia 6 (.mv (ci 0))]) (.seq (.reg [
  ia 8 (.ld 2 true (.t 2)),
ia 9 (.ld 2 true (.t 3)),
ia 10 (.call (.f 63) [(.t 8), (.t 9)]),
ia 7 (.new [.nil, (.p (.i .i64 0)), (.p (.b false)), (.p (.i .i64 0))]),
io (.st 4 (.t 7) (.t 10))]) (.seq (.reg [
  ir 11 (.fad 1 (.t 7)),
ir 12 (.ld 1 false (.t 11)),
ir 13 (.fad 2 (.t 7)),
ir 14 (.ld 1 false (.t 13)),
ir 15 (.fad 3 (.t 7)),
ir 16 (.ld 1 false (.t 15)),
ir 4 (.mv (.t 12)),
ir 5 (.mv (.t 14)),
ia 6 (.mv (.t 16))]) .ret))), [(.tmp 4), (.tmp 5), (.tmp 6)]⟩
theorem cc36 : ccF Try.prog [(43, [0, 0]), (79, [1, 0]), (60, [0, 0]), (140, [0, 0]), (43, [9])] Try.f36 = some (stripF F36) := by kernel_rfl

/- gossamer/walk.Path -/
def F37 : FnC := ⟨2, (.seq (.reg [
  ia 2 (.box 2 (.t 0)),
ia 3 (.box 2 (.t 1)),
ia 4 (.mv (.c (.a .nil)))]) (.seq (.reg [
  ia 5 (.ld 2 true (.t 2)),
ia 6 (.ld 2 true (.t 3)),
ia 7 (.call (.f 63) [(.t 5), (.t 6)]),
ia 8 (.fld 0 1 false (.t 7)),
ia 4 (.mv (.t 8))]) .ret)), [(.tmp 4)]⟩
theorem cc37 : ccF Try.prog [(43, [0, 0]), (79, [1, 0]), (60, [0, 0]), (140, [0, 0]), (43, [9])] Try.f37 = some (stripF F37) := by kernel_rfl

/- gossamer/gossamerlaw19.at -/
def F38 : FnC := ⟨2, (.seq (.reg [
  ia 4 (.new [(.p (.i .i64 0)), (.p (.i .i64 0))])]) (.seq (.reg [
  ia 5 (.mv (.t 0)),
ia 6 (.mv (.t 1)),
ia 7 (.build [(.p (.i .i64 0)), (.p (.i .i64 0))] [(0, (1, (.t 5))), (1, (1, (.t 6)))]),
io (.st 2 (.t 4) (.t 7))]) .ret)), [(.cell 4 2 true)]⟩
theorem cc38 : ccF Try.prog [(43, [0, 0]), (79, [1, 0]), (60, [0, 0]), (140, [0, 0]), (43, [9])] Try.f38 = some (stripF F38) := by kernel_rfl

/- gossamer/gossamerlaw17.fixed -/
def F39 : FnC := ⟨0, (.seq (.reg [
  ia 0 (.mv (.c (.a (.p (.b false)))))]) (.seq (.reg [
  ia 9 (.call (.f 50) [(ci 5)]),
ia 8 (.mv (.t 9)),
ia 10 (.ext (.t 8) 0),
ia 11 (.ext (.t 8) 1),
ia 1 (.new [.nil, (.p (.i .i64 0))]),
io (.st 2 (.t 1) (.t 10)),
ia 2 (.mv (.t 11))]) (.fz [1] (.seq (.reg [
  ia 13 (.ld 2 true (.t 1)),
ia 14 (.call (.f 40) [(.t 13), (ci 3)]),
ia 12 (.mv (.t 14)),
ia 15 (.ext (.t 12) 0),
ia 16 (.ext (.t 12) 1),
ia 3 (.new [(.p (.i .i64 0)), (.p (.i .i64 0))]),
io (.st 2 (.t 3) (.t 15)),
ia 4 (.mv (.t 16))]) (.fz [1] (.seq (.reg [
  ia 17 (.build [(.p (.i .i64 0)), (.p (.i .i64 0))] [(0, (1, (ci 1))), (1, (1, (ci 1)))]),
ia 18 (.bsl 2 43 [(.p (.i .i64 0)), (.p (.i .i64 0))] 1 [(0, (.t 17))]),
ia 19 (.build [(.p (.i .i64 0)), (.p (.i .i64 0)), (.p (.i .i64 0)), (.p (.s [])), .nil, .nil] [(0, (1, (ci 1))), (5, (1, (.t 18)))]),
ia 20 (.build [(.p (.i .i64 0)), (.p (.i .i64 0))] [(0, (1, (ci 2)))]),
ia 21 (.build [(.p (.i .i64 0)), (.p (.i .i64 0))] []),
ia 22 (.build [(.p (.i .i64 0)), (.p (.i .i64 0))] [(0, (1, (ci 3)))]),
ia 23 (.bsl 2 43 [(.p (.i .i64 0)), (.p (.i .i64 0))] 3 [(0, (.t 20)), (1, (.t 21)), (2, (.t 22))]),
ia 24 (.build [(.p (.i .i64 0)), (.p (.i .i64 0)), (.p (.i .i64 0)), (.p (.s [])), .nil, .nil] [(0, (1, (ci 3))), (5, (1, (.t 23)))]),
ia 25 (.build [(.p (.i .i64 0)), (.p (.i .i64 0))] [(0, (1, (ci 1)))]),
ia 26 (.build [(.p (.i .i64 0)), (.p (.i .i64 0))] [(0, (1, (ci 2))), (1, (1, (ci 2)))]),
ia 27 (.build [(.p (.i .i64 0)), (.p (.i .i64 0))] [(0, (1, (ci 2))), (1, (1, (ci 1)))]),
ia 28 (.bsl 2 43 [(.p (.i .i64 0)), (.p (.i .i64 0))] 3 [(0, (.t 25)), (1, (.t 26)), (2, (.t 27))]),
ia 29 (.build [(.p (.i .i64 0)), (.p (.i .i64 0)), (.p (.i .i64 0)), (.p (.s [])), .nil, .nil] [(0, (1, (ci 2))), (5, (1, (.t 28)))]),
ia 30 (.build [(.p (.i .i64 0)), (.p (.i .i64 0))] [(0, (1, (ci 1))), (1, (1, (ci 2)))]),
ia 31 (.bsl 2 43 [(.p (.i .i64 0)), (.p (.i .i64 0))] 1 [(0, (.t 30))]),
ia 32 (.build [(.p (.i .i64 0)), (.p (.i .i64 0)), (.p (.i .i64 0)), (.p (.s [])), .nil, .nil] [(0, (1, (ci 10))), (1, (1, (ci 1))), (2, (1, (ci 7))), (5, (1, (.t 31)))]),
ia 33 (.bsl 6 41 [(.p (.i .i64 0)), (.p (.i .i64 0)), (.p (.i .i64 0)), (.p (.s [])), .nil, .nil] 4 [(0, (.t 19)), (1, (.t 24)), (2, (.t 29)), (3, (.t 32))]),
ia 34 (.build [.nil, (.p (.i .i64 0))] [(1, (1, (ci 9))), (0, (1, (.t 33)))]),
ia 5 (.new [.nil, (.p (.i .i64 0))]),
io (.st 2 (.t 5) (.t 34))]) (.fz [1, 5] (.seq (.reg [
  ia 36 (.ld 2 true (.t 5)),
ia 37 (.call (.f 40) [(.t 36), (.c (.a (.p (.i .i64 (-8)))))]),
ia 35 (.mv (.t 37)),
ia 38 (.ext (.t 35) 0),
ia 39 (.ext (.t 35) 1),
ia 6 (.new [(.p (.i .i64 0)), (.p (.i .i64 0))]),
io (.st 2 (.t 6) (.t 38)),
ia 7 (.mv (.t 39))]) (.fz [1, 5] (.seq (.reg [
  ia 40 (.ld 2 true (.t 1)),
ia 41 (.call (.f 43) [(.t 40)]),
ia 42 (.build [(.p (.i .i64 0)), (.p (.i .i64 0))] [(1, (1, (ci 1)))]),
ia 43 (.bsl 2 60 [(.p (.i .i64 0)), (.p (.i .i64 0))] 1 [(0, (.t 42))]),
ia 44 (.call (.f 42) [(.t 41), (.t 43)]),
ia 45 (.mv (.t 44)),
ig 46 45 true (.ld 2 true (.t 1)),
ig 47 45 true (.call (.f 45) [(.t 46)]),
ig 48 45 true (.len false (.t 47)),
ig 49 45 true (.bin .eql (.t 48) (ci 0)),
ia 50 (.pick (.t 45) (.t 49) (.c (.a (.p (.b false))))),
ia 51 (.mv (.t 50)),
ig 52 51 true (.mv (.t 4)),
ig 53 51 true (.not (.t 52)),
ia 54 (.pick (.t 51) (.t 53) (.c (.a (.p (.b false))))),
ia 55 (.mv (.t 54)),
ig 56 55 true (.ld 2 true (.t 5)),
ig 57 55 true (.call (.f 43) [(.t 56)]),
ig 58 55 true (.build [(.p (.i .i64 0)), (.p (.i .i64 0))] [(0, (1, (ci 1))), (1, (1, (ci 2)))]),
ig 59 55 true (.bsl 2 60 [(.p (.i .i64 0)), (.p (.i .i64 0))] 1 [(0, (.t 58))]),
ig 60 55 true (.call (.f 42) [(.t 57), (.t 59)]),
ia 61 (.pick (.t 55) (.t 60) (.c (.a (.p (.b false))))),
ia 62 (.mv (.t 61)),
ig 63 62 true (.ld 2 true (.t 5)),
ig 64 62 true (.call (.f 45) [(.t 63)]),
ig 65 62 true (.build [(.p (.i .i64 0)), (.p (.i .i64 0))] [(0, (1, (ci 1))), (1, (1, (ci 2)))]),
ig 66 62 true (.bsl 2 60 [(.p (.i .i64 0)), (.p (.i .i64 0))] 1 [(0, (.t 65))]),
ig 67 62 true (.call (.f 42) [(.t 64), (.t 66)]),
ia 68 (.pick (.t 62) (.t 67) (.c (.a (.p (.b false))))),
ia 69 (.mv (.t 68)),
ig 70 69 true (.ld 2 true (.t 6)),
ig 71 69 true (.build [(.p (.i .i64 0)), (.p (.i .i64 0))] [(0, (1, (ci 1))), (1, (1, (ci 2)))]),
ig 72 69 true (.eqg false [0, 0] (.t 70) (.t 71)),
ia 73 (.pick (.t 69) (.t 72) (.c (.a (.p (.b false))))),
ia 74 (.mv (.t 73)),
ig 75 74 true (.mv (.t 7)),
ia 76 (.pick (.t 74) (.t 75) (.c (.a (.p (.b false))))),
ia 77 (.mv (.t 76)),
ig 78 77 true (.build [.nil, (.p (.i .i64 0))] []),
ig 79 77 true (.call (.f 43) [(.t 78)]),
ig 80 77 true (.len false (.t 79)),
ig 81 77 true (.bin .eql (.t 80) (ci 0)),
ia 82 (.pick (.t 77) (.t 81) (.c (.a (.p (.b false))))),
ia 0 (.mv (.t 82))]) .ret)))))))))), [(.tmp 0)]⟩
theorem cc39 : ccF Try.prog [(43, [0, 0]), (79, [1, 0]), (60, [0, 0]), (140, [0, 0]), (43, [9])] Try.f39 = some (stripF F39) := by kernel_rfl

/- gossamer/pairs.Pick -/
def F40 : FnC := ⟨2, (.seq (.reg [
  ia 2 (.box 2 (.t 0)),
ia 4 (.new [(.p (.i .i64 0)), (.p (.i .i64 0))]),
ia 5 (.mv (.c (.a (.p (.b false)))))]) (.seq (.reg [
  ia 8 (.ld 2 true (.t 2)),
ia 9 (.call (.f 45) [(.t 8)]),
ia 6 (.mv (.t 9))]) (.seq (.reg [
  ia 10 (.mv (.t 6)),
ia 11 (.len false (.t 10)),
ia 7 (.mv (.t 11))]) (.seq (.seq (.reg [
  ia 12 (.mv (.t 7)),
ia 13 (.bin .eql (.t 12) (ci 0))]) (.cond (.t 13) (.seq (.reg [
  ia 14 (.build [(.p (.i .i64 0)), (.p (.i .i64 0))] []),
io (.st 2 (.t 4) (.t 14)),
ia 5 (.mv (.c (.a (.p (.b false)))))]) .ret) .skip)) (.seq (.reg [
  ia 15 (.mv (.t 6)),
ia 16 (.mv (.t 1)),
ia 17 (.mv (.t 7)),
ia 18 (.bin .rem (.t 16) (.t 17)),
ia 19 (.mv (.t 7)),
ia 20 (.bin .add (.t 18) (.t 19)),
ia 21 (.mv (.t 7)),
ia 22 (.bin .rem (.t 20) (.t 21)),
ia 23 (.ias 2 (.t 15) (.t 22)),
ia 24 (.ld 2 true (.t 23)),
io (.st 2 (.t 4) (.t 24)),
ia 5 (.mv (.c (.a (.p (.b true)))))]) .ret))))), [(.cell 4 2 true), (.tmp 5)]⟩
theorem cc40 : ccF Try.prog [(43, [0, 0]), (79, [1, 0]), (60, [0, 0]), (140, [0, 0]), (43, [9])] Try.f40 = some (stripF F40) := by kernel_rfl

/- gossamer/gossamerref17.Pick -/
def F41 : FnC := ⟨2, (.seq (.reg [
  ia 2 (.box 2 (.t 0)),
ia 4 (.new [(.p (.i .i64 0)), (.p (.i .i64 0))]),
ia 5 (.mv (.c (.a (.p (.b false)))))]) (.seq (.reg [
  ia 8 (.ld 2 true (.t 2)),
ia 9 (.call (.f 46) [(.t 8)]),
ia 6 (.mv (.t 9))]) (.seq (.seq (.reg [
  ia 10 (.mv (.t 6)),
ia 11 (.len false (.t 10)),
ia 12 (.bin .eql (.t 11) (ci 0))]) (.cond (.t 12) (.seq (.reg [
  ia 13 (.build [(.p (.i .i64 0)), (.p (.i .i64 0))] []),
io (.st 2 (.t 4) (.t 13)),
ia 5 (.mv (.c (.a (.p (.b false)))))]) .ret) .skip)) (.seq (.reg [
  ia 14 (.mv (.t 1)),
ia 15 (.mv (.t 6)),
ia 16 (.len false (.t 15)),
ia 17 (.bin .rem (.t 14) (.t 16)),
ia 7 (.mv (.t 17))]) (.seq (.seq (.reg [
  ia 18 (.mv (.t 7)),
ia 19 (.bin .lss (.t 18) (ci 0))]) (.cond (.t 19) (.reg [
  ia 20 (.mv (.t 7)),
ia 21 (.mv (.t 6)),
ia 22 (.len false (.t 21)),
ia 23 (.bin .add (.t 20) (.t 22)),
ia 7 (.mv (.t 23))]) .skip)) (.seq (.reg [
  ia 24 (.mv (.t 6)),
ia 25 (.mv (.t 7)),
ia 26 (.ias 2 (.t 24) (.t 25)),
ia 27 (.ld 2 true (.t 26)),
io (.st 2 (.t 4) (.t 27)),
ia 5 (.mv (.c (.a (.p (.b true)))))]) .ret)))))), [(.cell 4 2 true), (.tmp 5)]⟩
theorem cc41 : ccF Try.prog [(43, [0, 0]), (79, [1, 0]), (60, [0, 0]), (140, [0, 0]), (43, [9])] Try.f41 = some (stripF F41) := by kernel_rfl

/- gossamer/gossamerref17.Same -/
def F42b0 : C := (.seq (.seq (.reg [
  ia 11 (.mv (.t 5)),
ia 12 (.mv (.t 0)),
ia 13 (.len false (.t 12)),
ia 14 (.bin .lss (.t 11) (.t 13))]) (.cond (.t 14) .skip (.exit 0))) (.seq (.block 1 (.seq (.reg [
  ir 17 (.mv (.t 0)),
ir 18 (.mv (.t 5)),
ir 19 (.ias 2 (.t 17) (.t 18)),
ir 20 (.ld 2 true (.t 19)),
ir 21 (.mv (.t 1)),
ir 22 (.mv (.t 5)),
ir 23 (.ias 2 (.t 21) (.t 22)),
ir 24 (.ld 2 true (.t 23)),
ia 25 (.eqg true [0, 0] (.t 20) (.t 24))]) (.cond (.t 25) (.seq (.reg [
  ia 4 (.mv (.c (.a (.p (.b false)))))]) .ret) .skip))) (.reg [
  ia 15 (.mv (.t 5)),
ia 16 (.bin .add (.t 15) (ci 1)),
ia 5 (.mv (.t 16))])))
def F42 : FnC := ⟨2, (.seq (.reg [
  ia 4 (.mv (.c (.a (.p (.b false)))))]) (.seq (.seq (.reg [
  ia 6 (.mv (.t 0)),
ia 7 (.len false (.t 6)),
ia 8 (.mv (.t 1)),
ia 9 (.len false (.t 8)),
ia 10 (.bin .neq (.t 7) (.t 9))]) (.cond (.t 10) (.seq (.reg [
  ia 4 (.mv (.c (.a (.p (.b false)))))]) .ret) .skip)) (.seq (.seq (.reg [
  ia 5 (.mv (ci 0))]) (.block 0 (.loop F42b0))) (.seq (.reg [
  ia 4 (.mv (.c (.a (.p (.b true)))))]) .ret)))), [(.tmp 4)]⟩
theorem cc42 : ccF Try.prog [(43, [0, 0]), (79, [1, 0]), (60, [0, 0]), (140, [0, 0]), (43, [9])] Try.f42 = some (stripF F42) := by kernel_rfl

/- gossamer/pairs.All -/
def F43 : FnC := ⟨1, (.seq (.reg [
  ia 1 (.box 2 (.t 0)),
ia 2 (.mv (.c (.a .nil)))]) (.seq (.reg [
  ia 3 (.ld 2 true (.t 1)),
ia 4 (.call (.f 65) [(.t 3)]),
ia 5 (.call (.f 64) [(.t 4)]),
ia 2 (.mv (.t 5))]) .ret)), [(.tmp 2)]⟩
theorem cc43 : ccF Try.prog [(43, [0, 0]), (79, [1, 0]), (60, [0, 0]), (140, [0, 0]), (43, [9])] Try.f43 = some (stripF F43) := by kernel_rfl

/- gossamer/gossamerref17.All -/
def F44b0 : C := (.seq (.seq (.reg [
  ia 11 (.mv (.t 4)),
ia 12 (.fad 0 (.t 1)),
ia 13 (.ld 1 false (.t 12)),
ia 14 (.len false (.t 13)),
ia 15 (.bin .lss (.t 11) (.t 14))]) (.cond (.t 15) .skip (.exit 0))) (.seq (.block 1 (.seq (.reg [
  ia 18 (.ld 2 true (.t 1)),
ia 19 (.mv (.t 4)),
ia 20 (.call (.f 66) [(.t 18), (.t 19)]),
ia 5 (.mv (.t 20))]) (.seq (.reg [
  ia 21 (.mv (.t 5)),
ia 22 (.mv (.t 4)),
ia 23 (.bin .gtr (.t 21) (.t 22))]) (.cond (.t 23) (.reg [
  ia 24 (.mv (.t 3)),
ia 25 (.mv (.t 4)),
ia 26 (.mv (.t 5)),
ia 27 (.build [(.p (.i .i64 0)), (.p (.i .i64 0))] [(0, (1, (.t 25))), (1, (1, (.t 26)))]),
ia 28 (.bsl 2 60 [(.p (.i .i64 0)), (.p (.i .i64 0))] 1 [(0, (.t 27))]),
ia 29 (.app 2 60 16 (.t 24) (.t 28)),
ia 3 (.mv (.t 29))]) .skip)))) (.reg [
  ia 16 (.mv (.t 4)),
ia 17 (.bin .add (.t 16) (ci 1)),
ia 4 (.mv (.t 17))])))
def F44 : FnC := ⟨1, (.seq (.reg [
  ia 1 (.box 2 (.t 0)),
ia 2 (.mv (.c (.a .nil)))]) (.seq (.reg [
  ia 6 (.bsl 2 60 [(.p (.i .i64 0)), (.p (.i .i64 0))] 0 []),
ia 3 (.mv (.t 6))]) (.seq (.seq (.reg [
  ia 7 (.ld 2 true (.t 1)),
ia 8 (.call (.f 25) [(.t 7)]),
ia 9 (.bin .neq (.t 8) (ci 0))]) (.cond (.t 9) (.seq (.reg [
  ia 10 (.mv (.t 3)),
ia 2 (.mv (.t 10))]) .ret) .skip)) (.seq (.seq (.reg [
  ia 4 (.mv (ci 0))]) (.block 0 (.loop F44b0))) (.seq (.reg [
  ia 30 (.mv (.t 3)),
ia 2 (.mv (.t 30))]) .ret))))), [(.tmp 2)]⟩
theorem cc44 : ccF Try.prog [(43, [0, 0]), (79, [1, 0]), (60, [0, 0]), (140, [0, 0]), (43, [9])] Try.f44 = some (stripF F44) := by kernel_rfl

/- gossamer/pairs.Ready -/
def F45 : FnC := ⟨1, (.seq (.reg [
  ia 1 (.box 2 (.t 0)),
ia 2 (.mv (.c (.a .nil)))]) (.seq (.reg [
  ia 3 (.new [.nil])]) (.seq (.seq (.reg [
  ia 5 (.ld 2 true (.t 1)),
ia 6 (.call (.f 65) [(.t 5)])]) (.block 0 (.rng (.t 6) [7] (.reg [
  ia 4 (.new [(.p (.i .i64 0)), (.p (.i .i64 0))]),
io (.st 2 (.t 4) (.t 7))]) (.block 1 (.seq (.reg [
  ia 8 (.ld 2 true (.t 1)),
ia 9 (.ld 2 true (.t 4)),
ia 10 (.call (.f 67) [(.t 8), (.t 9)])]) (.cond (.t 10) (.reg [
  ia 11 (.ld 1 false (.t 3)),
ia 12 (.ld 2 true (.t 4)),
ia 13 (.bsl 2 60 [(.p (.i .i64 0)), (.p (.i .i64 0))] 1 [(0, (.t 12))]),
ia 14 (.app 2 60 16 (.t 11) (.t 13)),
io (.st 1 (.t 3) (.t 14))]) .skip)))))) (.seq (.reg [
  ia 15 (.ld 1 false (.t 3)),
ia 2 (.mv (.t 15))]) .ret)))), [(.tmp 2)]⟩
theorem cc45 : ccF Try.prog [(43, [0, 0]), (79, [1, 0]), (60, [0, 0]), (140, [0, 0]), (43, [9])] Try.f45 = some (stripF F45) := by kernel_rfl

/- gossamer/gossamerref17.Ready -/
def F46b0 : C := (.seq (.seq (.reg [
  ia 11 (.mv (.t 5)),
ia 12 (.mv (.t 4)),
ia 13 (.len false (.t 12)),
ia 14 (.bin .lss (.t 11) (.t 13))]) (.cond (.t 14) .skip (.exit 0))) (.seq (.block 1 (.seq (.reg [
  ir 18 (.fad 0 (.t 1)),
ir 19 (.ld 1 false (.t 18)),
ir 20 (.mv (.t 4)),
ir 21 (.mv (.t 5)),
ir 22 (.ias 2 (.t 20) (.t 21)),
ir 23 (.fad 0 (.t 22)),
ir 24 (.ld 1 false (.t 23)),
ir 25 (.ias 6 (.t 19) (.t 24)),
ir 26 (.ld 6 true (.t 25)),
ir 27 (.fad 0 (.t 1)),
ir 28 (.ld 1 false (.t 27)),
ir 29 (.mv (.t 4)),
ir 30 (.mv (.t 5)),
ir 31 (.ias 2 (.t 29) (.t 30)),
ir 32 (.fad 1 (.t 31)),
ir 33 (.ld 1 false (.t 32)),
ir 34 (.ias 6 (.t 28) (.t 33)),
ir 35 (.ld 6 true (.t 34)),
ir 36 (.call (.f 68) [(.t 26), (.t 35)]),
ir 17 (.mv (.t 36)),
ir 37 (.ext (.t 17) 0),
ir 38 (.ext (.t 17) 1),
⟨(.some 6), .none, (.new [(.p (.i .i64 0)), (.p (.b false)), (.p (.i .i64 0)), (.p (.i .i64 0)), (.p (.i .i64 0)), (.p (.i .i64 0)), (.p (.i .i64 0)), (.p (.s [])), .nil, .nil]), .ad⟩,
⟨.none, .none, (.st 10 (.t 6) (.t 37)), (.wr [])⟩,
ia 7 (.mv (.t 38))]) (.seq (.reg [
  ia 39 (.mv (.t 7)),
ia 40 (.bin .eql (.t 39) (ci 0))]) (.cond (.t 40) (.reg [
  ia 41 (.mv (.t 3)),
ia 42 (.mv (.t 4)),
ia 43 (.mv (.t 5)),
ia 44 (.ias 2 (.t 42) (.t 43)),
ia 45 (.ld 2 true (.t 44)),
ia 46 (.bsl 2 60 [(.p (.i .i64 0)), (.p (.i .i64 0))] 1 [(0, (.t 45))]),
ia 47 (.app 2 60 16 (.t 41) (.t 46)),
ia 3 (.mv (.t 47))]) .skip)))) (.reg [
  ia 15 (.mv (.t 5)),
ia 16 (.bin .add (.t 15) (ci 1)),
ia 5 (.mv (.t 16))])))
def F46 : FnC := ⟨1, (.seq (.reg [
  ia 1 (.box 2 (.t 0)),
ia 2 (.mv (.c (.a .nil)))]) (.seq (.reg [
  ia 8 (.bsl 2 60 [(.p (.i .i64 0)), (.p (.i .i64 0))] 0 []),
ia 3 (.mv (.t 8))]) (.seq (.reg [
  ia 9 (.ld 2 true (.t 1)),
ia 10 (.call (.f 44) [(.t 9)]),
ia 4 (.mv (.t 10))]) (.seq (.seq (.reg [
  ia 5 (.mv (ci 0))]) (.block 0 (.loop F46b0))) (.seq (.reg [
  ia 48 (.mv (.t 3)),
ia 2 (.mv (.t 48))]) .ret))))), [(.tmp 2)]⟩
theorem cc46 : ccF Try.prog [(43, [0, 0]), (79, [1, 0]), (60, [0, 0]), (140, [0, 0]), (43, [9])] Try.f46 = some (stripF F46) := by kernel_rfl

/- gossamer/gossamerlaw17.in -/
def F47b0 : C := (.seq (.seq (.reg [
  ia 6 (.mv (.t 5)),
ia 7 (.mv (.t 0)),
ia 8 (.len false (.t 7)),
ia 9 (.bin .lss (.t 6) (.t 8))]) (.cond (.t 9) .skip (.exit 0))) (.seq (.block 1 (.seq (.reg [
  ir 12 (.mv (.t 0)),
ir 13 (.mv (.t 5)),
ir 14 (.ias 2 (.t 12) (.t 13)),
ir 15 (.ld 2 true (.t 14)),
ir 16 (.ld 2 true (.t 3)),
ia 17 (.eqg false [0, 0] (.t 15) (.t 16))]) (.cond (.t 17) (.seq (.reg [
  ia 4 (.mv (.c (.a (.p (.b true)))))]) .ret) .skip))) (.reg [
  ia 10 (.mv (.t 5)),
ia 11 (.bin .add (.t 10) (ci 1)),
ia 5 (.mv (.t 11))])))
def F47 : FnC := ⟨2, (.seq (.reg [
  ia 3 (.box 2 (.t 1)),
ia 4 (.mv (.c (.a (.p (.b false)))))]) (.seq (.seq (.reg [
  ia 5 (.mv (ci 0))]) (.block 0 (.loop F47b0))) (.seq (.reg [
  ia 4 (.mv (.c (.a (.p (.b false)))))]) .ret))), [(.tmp 4)]⟩
theorem cc47 : ccF Try.prog [(43, [0, 0]), (79, [1, 0]), (60, [0, 0]), (140, [0, 0]), (43, [9])] Try.f47 = some (stripF F47) := by kernel_rfl

/- gossamer/gossamerlaw17.redexes -/
def F48b0 : C := (.seq (.seq (.reg [
  ia 38 (.mv (.t 5)),
ia 39 (.fad 3 (.t 1)),
ia 40 (.ld 1 false (.t 39)),
ia 41 (.len false (.t 40)),
ia 42 (.bin .lss (.t 38) (.t 41))]) (.cond (.t 42) .skip (.exit 0))) (.seq (.block 1 (.reg [
  ia 45 (.mv (.t 3)),
ia 46 (.fad 3 (.t 1)),
ia 47 (.ld 1 false (.t 46)),
ia 48 (.mv (.t 5)),
ia 49 (.ias 4 (.t 47) (.t 48)),
ia 50 (.ld 4 true (.t 49)),
ia 51 (.call (.f 48) [(.t 50)]),
ia 52 (.bin .add (.t 45) (.t 51)),
ia 3 (.mv (.t 52))])) (.reg [
  ia 43 (.mv (.t 5)),
ia 44 (.bin .add (.t 43) (ci 1)),
ia 5 (.mv (.t 44))])))
def F48 : FnC := ⟨1, (.seq (.reg [
  ia 1 (.box 4 (.t 0)),
ia 2 (.mv (ci 0))]) (.seq (.reg [
  ia 3 (.mv (ci 0))]) (.seq (.seq (.reg [
  ia 6 (.fad 0 (.t 1)),
ia 7 (.ld 1 false (.t 6)),
ia 8 (.bin .eql (.t 7) (ci 3)),
ia 9 (.mv (.t 8)),
ig 10 9 false (.fad 0 (.t 1)),
ig 11 9 false (.ld 1 false (.t 10)),
ig 12 9 false (.bin .eql (.t 11) (ci 5)),
ia 13 (.pick (.t 9) (.c (.a (.p (.b true)))) (.t 12)),
ia 14 (.mv (.t 13)),
ig 15 14 false (.fad 0 (.t 1)),
ig 16 14 false (.ld 1 false (.t 15)),
ig 17 14 false (.bin .eql (.t 16) (ci 8)),
ia 18 (.pick (.t 14) (.c (.a (.p (.b true)))) (.t 17))]) (.cond (.t 18) (.seq (.reg [
  ia 19 (.fad 3 (.t 1)),
ia 20 (.ld 1 false (.t 19)),
ia 21 (.ias 4 (.t 20) (ci 0)),
ia 22 (.fad 0 (.t 21)),
ia 23 (.ld 1 false (.t 22)),
ia 4 (.mv (.t 23))]) (.seq (.reg [
  ia 24 (.mv (.t 4)),
ia 25 (.bin .eql (.t 24) (ci 2)),
ia 26 (.mv (.t 25)),
ig 27 26 false (.mv (.t 4)),
ig 28 26 false (.bin .eql (.t 27) (ci 4)),
ia 29 (.pick (.t 26) (.c (.a (.p (.b true)))) (.t 28)),
ia 30 (.mv (.t 29)),
ig 31 30 false (.mv (.t 4)),
ig 32 30 false (.bin .eql (.t 31) (ci 7)),
ia 33 (.pick (.t 30) (.c (.a (.p (.b true)))) (.t 32)),
ia 34 (.mv (.t 33)),
ig 35 34 false (.mv (.t 4)),
ig 36 34 false (.bin .eql (.t 35) (ci 9)),
ia 37 (.pick (.t 34) (.c (.a (.p (.b true)))) (.t 36))]) (.cond (.t 37) (.reg [
  ia 3 (.mv (ci 1))]) .skip))) .skip)) (.seq (.seq (.reg [
  ia 5 (.mv (ci 0))]) (.block 0 (.loop F48b0))) (.seq (.reg [
  ia 53 (.mv (.t 3)),
ia 2 (.mv (.t 53))]) .ret))))), [(.tmp 2)]⟩
theorem cc48 : ccF Try.prog [(43, [0, 0]), (79, [1, 0]), (60, [0, 0]), (140, [0, 0]), (43, [9])] Try.f48 = some (stripF F48) := by kernel_rfl

/- gossamer/act.Do -/
def F49 : FnC := ⟨2, (.seq (.reg [
  ia 2 (.box 2 (.t 0)),
ia 4 (.new [.nil, (.p (.i .i64 0))]),
ia 5 (.new [(.p (.i .i64 0)), (.p (.b false)), (.p (.i .i64 0)), (.p (.i .i64 0)), (.p (.i .i64 0)), (.p (.i .i64 0)), (.p (.i .i64 0)), (.p (.s [])), .nil, .nil]),
ia 6 (.mv (ci 0))]) (.seq (.seq (.reg [
  ia 12 (.ld 2 true (.t 2)),
ia 13 (.call (.f 52) [(.t 12)]),
ia 7 (.mv (.t 13))]) (.seq (.reg [
  ia 14 (.mv (.t 7)),
ia 15 (.bin .neq (.t 14) (ci 0))]) (.cond (.t 15) (.seq (.reg [
  ia 16 (.ld 2 true (.t 2)),
ia 17 (.build [(.p (.i .i64 0)), (.p (.b false)), (.p (.i .i64 0)), (.p (.i .i64 0)), (.p (.i .i64 0)), (.p (.i .i64 0)), (.p (.i .i64 0)), (.p (.s [])), .nil, .nil] []),
ia 18 (.mv (.t 7)),
io (.st 2 (.t 4) (.t 16)),
io (.st 10 (.t 5) (.t 17)),
ia 6 (.mv (.t 18))]) .ret) .skip))) (.seq (.reg [
  ia 19 (.ld 2 true (.t 2)),
ia 20 (.mv (.t 1)),
ia 21 (.call (.f 69) [(.t 19), (.t 20)]),
ia 8 (.mv (.t 21))]) (.seq (.seq (.reg [
  ia 22 (.mv (.t 8)),
ia 23 (.bin .lss (.t 22) (ci 0))]) (.cond (.t 23) (.seq (.reg [
  ia 24 (.ld 2 true (.t 2)),
ia 25 (.build [(.p (.i .i64 0)), (.p (.b false)), (.p (.i .i64 0)), (.p (.i .i64 0)), (.p (.i .i64 0)), (.p (.i .i64 0)), (.p (.i .i64 0)), (.p (.s [])), .nil, .nil] []),
io (.st 2 (.t 4) (.t 24)),
io (.st 10 (.t 5) (.t 25)),
ia 6 (.mv (ci 122))]) .ret) .skip)) (.seq (.reg [
  ir 27 (.fad 0 (.t 2)),
ir 28 (.ld 1 false (.t 27)),
ir 29 (.mv (.t 1)),
ir 30 (.ias 6 (.t 28) (.t 29)),
ir 31 (.ld 6 true (.t 30)),
ir 32 (.fad 0 (.t 2)),
ir 33 (.ld 1 false (.t 32)),
ir 34 (.mv (.t 8)),
ir 35 (.ias 6 (.t 33) (.t 34)),
ir 36 (.ld 6 true (.t 35)),
ir 37 (.call (.f 70) [(.t 31), (.t 36)]),
ir 26 (.mv (.t 37)),
ir 38 (.ext (.t 26) 0),
ir 39 (.ext (.t 26) 1),
⟨(.some 9), .none, (.new [(.p (.i .i64 0)), (.p (.b false)), (.p (.i .i64 0)), (.p (.i .i64 0)), (.p (.i .i64 0)), (.p (.i .i64 0)), (.p (.i .i64 0)), (.p (.s [])), .nil, .nil]), .ad⟩,
⟨.none, .none, (.st 10 (.t 9) (.t 38)), (.wr [])⟩,
ia 10 (.mv (.t 39))]) (.seq (.block 0 (.seq (.reg [
  ia 41 (.mv (.t 10)),
ia 42 (.bin .neq (.t 41) (ci 0)),
ia 40 (.mv (.t 42))]) (.cond (.t 40) (.seq (.reg [
  ia 43 (.ld 2 true (.t 2)),
ia 44 (.build [(.p (.i .i64 0)), (.p (.b false)), (.p (.i .i64 0)), (.p (.i .i64 0)), (.p (.i .i64 0)), (.p (.i .i64 0)), (.p (.i .i64 0)), (.p (.s [])), .nil, .nil] []),
ia 45 (.mv (.t 10)),
io (.st 2 (.t 4) (.t 43)),
io (.st 10 (.t 5) (.t 44)),
ia 6 (.mv (.t 45))]) .ret) (.seq (.reg [
  ir 47 (.ld 2 true (.t 2)),
ir 48 (.call (.f 71) [(.t 47)]),
ir 49 (.ld 10 true (.t 9)),
ir 50 (.fad 0 (.t 2)),
ir 51 (.ld 1 false (.t 50)),
ir 52 (.mv (.t 1)),
ir 53 (.ias 6 (.t 51) (.t 52)),
ir 54 (.ld 6 true (.t 53)),
ir 55 (.fad 0 (.t 2)),
ir 56 (.ld 1 false (.t 55)),
ir 57 (.mv (.t 8)),
ir 58 (.ias 6 (.t 56) (.t 57)),
ir 59 (.ld 6 true (.t 58)),
ir 60 (.call (.f 72) [(.t 49), (.t 54), (.t 59)]),
ir 61 (.bin .add (.t 48) (.t 60)),
ir 62 (.fad 1 (.t 2)),
ir 63 (.ld 1 false (.t 62)),
ia 64 (.bin .gtr (.t 61) (.t 63)),
ia 46 (.mv (.t 64))]) (.cond (.t 46) (.seq (.reg [
  ia 65 (.ld 2 true (.t 2)),
ia 66 (.build [(.p (.i .i64 0)), (.p (.b false)), (.p (.i .i64 0)), (.p (.i .i64 0)), (.p (.i .i64 0)), (.p (.i .i64 0)), (.p (.i .i64 0)), (.p (.s [])), .nil, .nil] []),
io (.st 2 (.t 4) (.t 65)),
io (.st 10 (.t 5) (.t 66)),
ia 6 (.mv (ci 121))]) .ret) .skip))))) (.seq (.reg [
  ia 67 (.ld 2 true (.t 2)),
ia 68 (.ld 10 true (.t 9)),
ia 69 (.mv (.t 1)),
ia 70 (.mv (.t 8)),
ia 71 (.build [.nil, (.p (.i .i64 0)), (.p (.i .i64 0)), (.p (.b false)), (.p (.i .i64 0)), (.p (.i .i64 0)), (.p (.i .i64 0)), (.p (.i .i64 0)), (.p (.i .i64 0)), (.p (.s [])), .nil, .nil, (.p (.i .i64 0)), (.p (.i .i64 0))] [(0, (2, (.t 67))), (2, (10, (.t 68))), (12, (1, (.t 69))), (13, (1, (.t 70)))]),
ia 72 (.box 14 (.t 71)),
ia 11 (.mv (.t 72))]) (.seq (.seq (.reg [
  ia 73 (.fad 1 (.t 9)),
ia 74 (.ld 1 false (.t 73))]) (.cond (.t 74) (.reg [
  ia 75 (.mv (.t 11)),
ia 76 (.mv (.t 11)),
ia 77 (.mv (.t 8)),
ia 78 (.mv (.t 1)),
ia 79 (.nck (.t 75)),
ia 80 (.fad 12 (.t 79)),
io (.st 1 (.t 80) (.t 77)),
ia 81 (.nck (.t 76)),
ia 82 (.fad 13 (.t 81)),
io (.st 1 (.t 82) (.t 78))]) .skip)) (.seq (.reg [
  ia 83 (.mv (.t 11)),
ia 84 (.call (.f 73) [(.t 83)])]) (.seq (.reg [
  ir 85 (.mv (.t 11)),
ir 86 (.nck (.t 85)),
ir 87 (.fad 0 (.t 86)),
ir 88 (.ld 2 true (.t 87)),
ir 89 (.ld 10 true (.t 9)),
⟨.none, .none, (.st 2 (.t 4) (.t 88)), (.wr [9])⟩,
io (.st 10 (.t 5) (.t 89)),
ia 6 (.mv (ci 0))]) .ret)))))))))), [(.cell 4 2 true), (.cell 5 10 true), (.tmp 6)]⟩
theorem cc49 : ccF Try.prog [(43, [0, 0]), (79, [1, 0]), (60, [0, 0]), (140, [0, 0]), (43, [9])] Try.f49 = some (stripF F49) := by kernel_rfl

def tblA : List (FuncId × FnC) := [(3, F3), (4, F4), (5, F5), (6, F6), (7, F7), (8, F8), (9, F9), (10, F10), (11, F11), (12, F12), (13, F13), (14, F14), (15, F15), (16, F16), (17, F17), (18, F18), (19, F19), (20, F20), (21, F21), (22, F22), (23, F23), (24, F24), (25, F25), (26, F26), (27, F27), (28, F28), (29, F29), (30, F30), (31, F31), (32, F32), (33, F33), (34, F34), (35, F35), (36, F36), (37, F37), (38, F38), (39, F39), (40, F40), (41, F41), (42, F42), (43, F43), (44, F44), (45, F45), (46, F46), (47, F47), (48, F48), (49, F49)]

theorem tblOkA : ∀ x, x ∈ tblA → ∃ fn, Try.prog.funcs[x.1]? = some fn ∧ ccF Try.prog [(43, [0, 0]), (79, [1, 0]), (60, [0, 0]), (140, [0, 0]), (43, [9])] fn = some (stripF x.2) := by
  intro x hx
  simp only [tblA, List.mem_cons, List.not_mem_nil, or_false] at hx
  rcases hx with rfl | rfl | rfl | rfl | rfl | rfl | rfl | rfl | rfl | rfl | rfl | rfl | rfl | rfl | rfl | rfl | rfl | rfl | rfl | rfl | rfl | rfl | rfl | rfl | rfl | rfl | rfl | rfl | rfl | rfl | rfl | rfl | rfl | rfl | rfl | rfl | rfl | rfl | rfl | rfl | rfl | rfl | rfl | rfl | rfl | rfl | rfl
  · exact ⟨_, Try.func3, cc3⟩
  · exact ⟨_, Try.func4, cc4⟩
  · exact ⟨_, Try.func5, cc5⟩
  · exact ⟨_, Try.func6, cc6⟩
  · exact ⟨_, Try.func7, cc7⟩
  · exact ⟨_, Try.func8, cc8⟩
  · exact ⟨_, Try.func9, cc9⟩
  · exact ⟨_, Try.func10, cc10⟩
  · exact ⟨_, Try.func11, cc11⟩
  · exact ⟨_, Try.func12, cc12⟩
  · exact ⟨_, Try.func13, cc13⟩
  · exact ⟨_, Try.func14, cc14⟩
  · exact ⟨_, Try.func15, cc15⟩
  · exact ⟨_, Try.func16, cc16⟩
  · exact ⟨_, Try.func17, cc17⟩
  · exact ⟨_, Try.func18, cc18⟩
  · exact ⟨_, Try.func19, cc19⟩
  · exact ⟨_, Try.func20, cc20⟩
  · exact ⟨_, Try.func21, cc21⟩
  · exact ⟨_, Try.func22, cc22⟩
  · exact ⟨_, Try.func23, cc23⟩
  · exact ⟨_, Try.func24, cc24⟩
  · exact ⟨_, Try.func25, cc25⟩
  · exact ⟨_, Try.func26, cc26⟩
  · exact ⟨_, Try.func27, cc27⟩
  · exact ⟨_, Try.func28, cc28⟩
  · exact ⟨_, Try.func29, cc29⟩
  · exact ⟨_, Try.func30, cc30⟩
  · exact ⟨_, Try.func31, cc31⟩
  · exact ⟨_, Try.func32, cc32⟩
  · exact ⟨_, Try.func33, cc33⟩
  · exact ⟨_, Try.func34, cc34⟩
  · exact ⟨_, Try.func35, cc35⟩
  · exact ⟨_, Try.func36, cc36⟩
  · exact ⟨_, Try.func37, cc37⟩
  · exact ⟨_, Try.func38, cc38⟩
  · exact ⟨_, Try.func39, cc39⟩
  · exact ⟨_, Try.func40, cc40⟩
  · exact ⟨_, Try.func41, cc41⟩
  · exact ⟨_, Try.func42, cc42⟩
  · exact ⟨_, Try.func43, cc43⟩
  · exact ⟨_, Try.func44, cc44⟩
  · exact ⟨_, Try.func45, cc45⟩
  · exact ⟨_, Try.func46, cc46⟩
  · exact ⟨_, Try.func47, cc47⟩
  · exact ⟨_, Try.func48, cc48⟩
  · exact ⟨_, Try.func49, cc49⟩

end Go.Proofs.Ytkpfjolcmkikeaa
