/- The functions of the seat, turned into instructions: each is what the compiler text makes of the given program, by the kernel. -/
import Derived.Test.YtlgekplmbmkcmaaProg
import Derived.Test.YtlgekplmbmkcmaaFx22
namespace Go.Proofs.Ytlgekplmbmkcmaa
open Go.Fx

/- gossamer/gossamerlaw08.SubstTells -/
def F3 : FnC := ⟨3, (.seq (.reg [
  ⟨(.some 3), .none, (.box 4 (.t 0)), .any⟩, 
  ⟨(.some 4), .none, (.box 4 (.t 1)), .any⟩, 
  ⟨(.some 5), .none, (.box 2 (.t 2)), .any⟩, 
  ⟨(.some 6), .none, (.mv (.c (.a (.p (.b false))))), .any⟩]) (.seq (.reg [
  ⟨(.some 9), .none, (.iaa 2 1 (.t 5) (.c (.a (.p (.i .i64 0))))), .rd⟩, 
  ⟨(.some 10), .none, (.ld 1 false (.t 9)), .rd⟩, 
  ⟨(.some 11), .none, (.iaa 2 1 (.t 5) (.c (.a (.p (.i .i64 1))))), .rd⟩, 
  ⟨(.some 12), .none, (.ld 1 false (.t 11)), .rd⟩, 
  ⟨(.some 7), .none, (.mv (.t 10)), .rd⟩, 
  ⟨(.some 8), .none, (.mv (.t 12)), .any⟩]) (.seq (.seq (.reg [
  ⟨(.some 13), .none, (.ld 4 true (.t 3)), .any⟩, 
  ⟨(.some 14), .none, (.call (.f 15) [(.t 13), (.c (.a (.p (.i .i64 200))))]), .any⟩, 
  ⟨(.some 15), .none, (.not (.t 14)), .any⟩, 
  ⟨(.some 16), .none, (.mv (.t 15)), .any⟩, 
  ⟨(.some 17), (.some (16, false)), (.ld 4 true (.t 4)), .any⟩, 
  ⟨(.some 18), (.some (16, false)), (.call (.f 15) [(.t 17), (.c (.a (.p (.i .i64 200))))]), .any⟩, 
  ⟨(.some 19), (.some (16, false)), (.not (.t 18)), .any⟩, 
  ⟨(.some 20), .none, (.pick (.t 16) (.c (.a (.p (.b true)))) (.t 19)), .any⟩, 
  ⟨(.some 21), .none, (.mv (.t 20)), .any⟩, 
  ⟨(.some 22), (.some (21, false)), (.ld 4 true (.t 3)), .any⟩, 
  ⟨(.some 23), (.some (21, false)), (.call (.f 16) [(.t 22)]), .any⟩, 
  ⟨(.some 24), (.some (21, false)), (.not (.t 23)), .any⟩, 
  ⟨(.some 25), .none, (.pick (.t 21) (.c (.a (.p (.b true)))) (.t 24)), .any⟩, 
  ⟨(.some 26), .none, (.mv (.t 25)), .any⟩, 
  ⟨(.some 27), (.some (26, false)), (.ld 4 true (.t 4)), .any⟩, 
  ⟨(.some 28), (.some (26, false)), (.call (.f 16) [(.t 27)]), .any⟩, 
  ⟨(.some 29), (.some (26, false)), (.not (.t 28)), .any⟩, 
  ⟨(.some 30), .none, (.pick (.t 26) (.c (.a (.p (.b true)))) (.t 29)), .any⟩, 
  ⟨(.some 31), .none, (.mv (.t 30)), .any⟩, 
  ⟨(.some 32), (.some (31, false)), (.mv (.t 7)), .any⟩, 
  ⟨(.some 33), (.some (31, false)), (.bin .gtr (.t 32) (.c (.a (.p (.i .i64 1099511627776))))), .any⟩, 
  ⟨(.some 34), .none, (.pick (.t 31) (.c (.a (.p (.b true)))) (.t 33)), .any⟩, 
  ⟨(.some 35), .none, (.mv (.t 34)), .any⟩, 
  ⟨(.some 36), (.some (35, false)), (.mv (.t 7)), .any⟩, 
  ⟨(.some 37), (.some (35, false)), (.bin .lss (.t 36) (.c (.a (.p (.i .i64 (-1099511627776)))))), .any⟩, 
  ⟨(.some 38), .none, (.pick (.t 35) (.c (.a (.p (.b true)))) (.t 37)), .any⟩, 
  ⟨(.some 39), .none, (.mv (.t 38)), .any⟩, 
  ⟨(.some 40), (.some (39, false)), (.mv (.t 8)), .any⟩, 
  ⟨(.some 41), (.some (39, false)), (.bin .gtr (.t 40) (.c (.a (.p (.i .i64 1099511627776))))), .any⟩, 
  ⟨(.some 42), .none, (.pick (.t 39) (.c (.a (.p (.b true)))) (.t 41)), .any⟩, 
  ⟨(.some 43), .none, (.mv (.t 42)), .any⟩, 
  ⟨(.some 44), (.some (43, false)), (.mv (.t 8)), .any⟩, 
  ⟨(.some 45), (.some (43, false)), (.bin .lss (.t 44) (.c (.a (.p (.i .i64 (-1099511627776)))))), .any⟩, 
  ⟨(.some 46), .none, (.pick (.t 43) (.c (.a (.p (.b true)))) (.t 45)), .any⟩]) (.cond (.t 46) (.seq (.reg [
  ⟨(.some 47), .none, (.call (.f 17) []), .any⟩, 
  ⟨(.some 6), .none, (.mv (.t 47)), .any⟩]) .ret) .skip)) (.seq (.reg [
  ⟨(.some 48), .none, (.call (.f 17) []), .any⟩, 
  ⟨(.some 49), .none, (.mv (.t 48)), .any⟩, 
  ⟨(.some 50), (.some (49, true)), (.ld 4 true (.t 3)), .rd⟩, 
  ⟨(.some 51), (.some (49, true)), (.mv (.t 7)), .rd⟩, 
  ⟨(.some 52), (.some (49, true)), (.mv (.t 8)), .rd⟩, 
  ⟨(.some 53), (.some (49, true)), (.call (.f 19) [(.t 50), (.t 51), (.t 52)]), .rd⟩, 
  ⟨(.some 54), (.some (49, true)), (.ld 4 true (.t 3)), .rd⟩, 
  ⟨(.some 55), (.some (49, true)), (.mv (.t 7)), .rd⟩, 
  ⟨(.some 56), (.some (49, true)), (.mv (.t 8)), .rd⟩, 
  ⟨(.some 57), (.some (49, true)), (.call (.f 20) [(.t 54), (.t 55), (.t 56)]), .any⟩, 
  ⟨(.some 58), (.some (49, true)), (.call (.f 18) [(.t 53), (.t 57)]), .any⟩, 
  ⟨(.some 59), .none, (.pick (.t 49) (.t 58) (.c (.a (.p (.b false))))), .any⟩, 
  ⟨(.some 60), .none, (.mv (.t 59)), .any⟩, 
  ⟨(.some 61), (.some (60, true)), (.ld 4 true (.t 3)), .rd⟩, 
  ⟨(.some 62), (.some (60, true)), (.mv (.t 8)), .rd⟩, 
  ⟨(.some 63), (.some (60, true)), (.ld 4 true (.t 4)), .rd⟩, 
  ⟨(.some 64), (.some (60, true)), (.call (.f 21) [(.t 61), (.t 62), (.t 63)]), .rd⟩, 
  ⟨(.some 65), (.some (60, true)), (.ld 4 true (.t 3)), .rd⟩, 
  ⟨(.some 66), (.some (60, true)), (.mv (.t 8)), .rd⟩, 
  ⟨(.some 67), (.some (60, true)), (.ld 4 true (.t 4)), .rd⟩, 
  ⟨(.some 68), (.some (60, true)), (.call (.f 22) [(.t 65), (.t 66), (.t 67)]), .any⟩, 
  ⟨(.some 69), (.some (60, true)), (.call (.f 18) [(.t 64), (.t 68)]), .any⟩, 
  ⟨(.some 70), .none, (.pick (.t 60) (.t 69) (.c (.a (.p (.b false))))), .any⟩, 
  ⟨(.some 71), .none, (.mv (.t 70)), .any⟩, 
  ⟨(.some 72), (.some (71, true)), (.ld 4 true (.t 3)), .rd⟩, 
  ⟨(.some 73), (.some (71, true)), (.mv (.t 8)), .rd⟩, 
  ⟨(.some 74), (.some (71, true)), (.call (.f 23) [(.t 72), (.t 73)]), .rd⟩, 
  ⟨(.some 75), (.some (71, true)), (.ld 4 true (.t 3)), .rd⟩, 
  ⟨(.some 76), (.some (71, true)), (.mv (.t 8)), .rd⟩, 
  ⟨(.some 77), (.some (71, true)), (.call (.f 24) [(.t 75), (.t 76)]), .any⟩, 
  ⟨(.some 78), (.some (71, true)), (.bin .eql (.t 74) (.t 77)), .any⟩, 
  ⟨(.some 79), .none, (.pick (.t 71) (.t 78) (.c (.a (.p (.b false))))), .any⟩, 
  ⟨(.some 6), .none, (.mv (.t 79)), .any⟩]) .ret)))), [(.tmp 6)]⟩
theorem cc3 : ccF Try.prog [] Try.f3 = some F3 := by kernel_rfl

/- gossamer/gossamerlaw08.SubstInst -/
def F4b0 : C := (.seq (.seq (.reg [
  ⟨(.some 23), .none, (.mv (.t 5)), .any⟩, 
  ⟨(.some 24), .none, (.mv (.t 1)), .any⟩, 
  ⟨(.some 25), .none, (.len false (.t 24)), .any⟩, 
  ⟨(.some 26), .none, (.bin .lss (.t 23) (.t 25)), .any⟩]) (.cond (.t 26) .skip (.exit 0))) (.seq (.block 1 (.seq (.reg [
  ⟨(.some 29), .none, (.mv (.t 1)), .any⟩, 
  ⟨(.some 30), .none, (.mv (.t 5)), .any⟩, 
  ⟨(.some 31), .none, (.ias 4 (.t 29) (.t 30)), .any⟩, 
  ⟨(.some 32), .none, (.ld 4 true (.t 31)), .any⟩, 
  ⟨(.some 33), .none, (.call (.f 15) [(.t 32), (.c (.a (.p (.i .i64 100))))]), .any⟩, 
  ⟨(.some 34), .none, (.not (.t 33)), .any⟩, 
  ⟨(.some 35), .none, (.mv (.t 34)), .any⟩, 
  ⟨(.some 36), (.some (35, false)), (.mv (.t 1)), .any⟩, 
  ⟨(.some 37), (.some (35, false)), (.mv (.t 5)), .any⟩, 
  ⟨(.some 38), (.some (35, false)), (.ias 4 (.t 36) (.t 37)), .any⟩, 
  ⟨(.some 39), (.some (35, false)), (.ld 4 true (.t 38)), .any⟩, 
  ⟨(.some 40), (.some (35, false)), (.call (.f 16) [(.t 39)]), .any⟩, 
  ⟨(.some 41), (.some (35, false)), (.not (.t 40)), .any⟩, 
  ⟨(.some 42), .none, (.pick (.t 35) (.c (.a (.p (.b true)))) (.t 41)), .any⟩]) (.cond (.t 42) (.seq (.reg [
  ⟨(.some 43), .none, (.call (.f 17) []), .any⟩, 
  ⟨(.some 4), .none, (.mv (.t 43)), .any⟩]) .ret) .skip))) (.reg [
  ⟨(.some 27), .none, (.mv (.t 5)), .any⟩, 
  ⟨(.some 28), .none, (.bin .add (.t 27) (.c (.a (.p (.i .i64 1))))), .any⟩, 
  ⟨(.some 5), .none, (.mv (.t 28)), .any⟩])))
def F4b1 : C := (.seq (.seq (.reg [
  ⟨(.some 70), .none, (.mv (.t 8)), .any⟩, 
  ⟨(.some 71), .none, (.bin .geq (.t 70) (.c (.a (.p (.i .i64 0))))), .any⟩]) (.cond (.t 71) .skip (.exit 2))) (.seq (.block 3 (.seq (.seq (.reg [
  ⟨(.some 74), .none, (.mv (.t 1)), .any⟩, 
  ⟨(.some 75), .none, (.mv (.t 8)), .any⟩, 
  ⟨(.some 76), .none, (.ias 4 (.t 74) (.t 75)), .any⟩, 
  ⟨(.some 77), .none, (.ld 4 true (.t 76)), .any⟩, 
  ⟨(.some 78), .none, (.call (.f 27) [(.t 77), (.c (.a (.p (.i .i64 5))))]), .any⟩, 
  ⟨(.some 79), .none, (.not (.t 78)), .any⟩]) (.cond (.t 79) (.seq (.reg [
  ⟨(.some 80), .none, (.call (.f 17) []), .any⟩, 
  ⟨(.some 4), .none, (.mv (.t 80)), .any⟩]) .ret) .skip)) (.reg [
  ⟨(.some 81), .none, (.ld 4 true (.t 7)), .rd⟩, 
  ⟨(.some 82), .none, (.mv (.t 1)), .rd⟩, 
  ⟨(.some 83), .none, (.mv (.t 8)), .rd⟩, 
  ⟨(.some 84), .none, (.ias 4 (.t 82) (.t 83)), .rd⟩, 
  ⟨(.some 85), .none, (.ld 4 true (.t 84)), .rd⟩, 
  ⟨(.some 86), .none, (.mv (.t 8)), .rd⟩, 
  ⟨(.some 87), .none, (.call (.f 19) [(.t 85), (.t 86), (.c (.a (.p (.i .i64 0))))]), .rd⟩, 
  ⟨(.some 88), .none, (.call (.f 21) [(.t 81), (.c (.a (.p (.i .i64 0)))), (.t 87)]), .any⟩, 
  ⟨.none, .none, (.st 4 (.t 7) (.t 88)), .any⟩]))) (.reg [
  ⟨(.some 72), .none, (.mv (.t 8)), .any⟩, 
  ⟨(.some 73), .none, (.bin .sub (.t 72) (.c (.a (.p (.i .i64 1))))), .any⟩, 
  ⟨(.some 8), .none, (.mv (.t 73)), .any⟩])))
def F4 : FnC := ⟨2, (.seq (.reg [
  ⟨(.some 2), .none, (.box 4 (.t 0)), .any⟩, 
  ⟨(.some 4), .none, (.mv (.c (.a (.p (.b false))))), .any⟩]) (.seq (.seq (.reg [
  ⟨(.some 9), .none, (.ld 4 true (.t 2)), .any⟩, 
  ⟨(.some 10), .none, (.call (.f 15) [(.t 9), (.c (.a (.p (.i .i64 100))))]), .any⟩, 
  ⟨(.some 11), .none, (.not (.t 10)), .any⟩, 
  ⟨(.some 12), .none, (.mv (.t 11)), .any⟩, 
  ⟨(.some 13), (.some (12, false)), (.ld 4 true (.t 2)), .any⟩, 
  ⟨(.some 14), (.some (12, false)), (.call (.f 16) [(.t 13)]), .any⟩, 
  ⟨(.some 15), (.some (12, false)), (.not (.t 14)), .any⟩, 
  ⟨(.some 16), .none, (.pick (.t 12) (.c (.a (.p (.b true)))) (.t 15)), .any⟩, 
  ⟨(.some 17), .none, (.mv (.t 16)), .any⟩, 
  ⟨(.some 18), (.some (17, false)), (.mv (.t 1)), .any⟩, 
  ⟨(.some 19), (.some (17, false)), (.len false (.t 18)), .any⟩, 
  ⟨(.some 20), (.some (17, false)), (.bin .gtr (.t 19) (.c (.a (.p (.i .i64 5))))), .any⟩, 
  ⟨(.some 21), .none, (.pick (.t 17) (.c (.a (.p (.b true)))) (.t 20)), .any⟩]) (.cond (.t 21) (.seq (.reg [
  ⟨(.some 22), .none, (.call (.f 17) []), .any⟩, 
  ⟨(.some 4), .none, (.mv (.t 22)), .any⟩]) .ret) .skip)) (.seq (.seq (.reg [
  ⟨(.some 5), .none, (.mv (.c (.a (.p (.i .i64 0))))), .any⟩]) (.block 0 (.loop F4b0))) (.seq (.reg [
  ⟨(.some 44), .none, (.ld 4 true (.t 2)), .any⟩, 
  ⟨(.some 45), .none, (.mv (.t 1)), .any⟩, 
  ⟨(.some 46), .none, (.call (.f 25) [(.t 44), (.t 45)]), .any⟩, 
  ⟨(.some 6), .none, (.new [(.p (.i .i64 0)), (.p (.i .i64 0)), (.p (.s [])), .nil]), .any⟩, 
  ⟨.none, .none, (.st 4 (.t 6) (.t 46)), .any⟩]) (.seq (.seq (.reg [
  ⟨(.some 47), .none, (.ld 4 true (.t 6)), .rd⟩, 
  ⟨(.some 48), .none, (.ld 4 true (.t 2)), .rd⟩, 
  ⟨(.some 49), .none, (.mv (.t 1)), .rd⟩, 
  ⟨(.some 50), .none, (.call (.f 26) [(.t 48), (.t 49)]), .rd⟩, 
  ⟨(.some 51), .none, (.call (.f 18) [(.t 47), (.t 50)]), .any⟩, 
  ⟨(.some 52), .none, (.not (.t 51)), .any⟩, 
  ⟨(.some 53), .none, (.mv (.t 52)), .any⟩, 
  ⟨(.some 54), (.some (53, false)), (.ld 4 true (.t 2)), .any⟩, 
  ⟨(.some 55), (.some (53, false)), (.call (.f 27) [(.t 54), (.c (.a (.p (.i .i64 5))))]), .any⟩, 
  ⟨(.some 56), (.some (53, false)), (.not (.t 55)), .any⟩, 
  ⟨(.some 57), .none, (.pick (.t 53) (.c (.a (.p (.b true)))) (.t 56)), .any⟩]) (.cond (.t 57) (.seq (.reg [
  ⟨(.some 58), .none, (.call (.f 17) []), .any⟩, 
  ⟨(.some 59), .none, (.mv (.t 58)), .any⟩, 
  ⟨(.some 60), (.some (59, true)), (.ld 4 true (.t 6)), .rd⟩, 
  ⟨(.some 61), (.some (59, true)), (.ld 4 true (.t 2)), .rd⟩, 
  ⟨(.some 62), (.some (59, true)), (.mv (.t 1)), .rd⟩, 
  ⟨(.some 63), (.some (59, true)), (.call (.f 26) [(.t 61), (.t 62)]), .rd⟩, 
  ⟨(.some 64), (.some (59, true)), (.call (.f 18) [(.t 60), (.t 63)]), .any⟩, 
  ⟨(.some 65), .none, (.pick (.t 59) (.t 64) (.c (.a (.p (.b false))))), .any⟩, 
  ⟨(.some 4), .none, (.mv (.t 65)), .any⟩]) .ret) .skip)) (.seq (.reg [
  ⟨(.some 66), .none, (.ld 4 true (.t 2)), .any⟩, 
  ⟨(.some 7), .none, (.new [(.p (.i .i64 0)), (.p (.i .i64 0)), (.p (.s [])), .nil]), .any⟩, 
  ⟨.none, .none, (.st 4 (.t 7) (.t 66)), .any⟩]) (.seq (.seq (.reg [
  ⟨(.some 67), .none, (.mv (.t 1)), .any⟩, 
  ⟨(.some 68), .none, (.len false (.t 67)), .any⟩, 
  ⟨(.some 69), .none, (.bin .sub (.t 68) (.c (.a (.p (.i .i64 1))))), .any⟩, 
  ⟨(.some 8), .none, (.mv (.t 69)), .any⟩]) (.block 2 (.loop F4b1))) (.seq (.reg [
  ⟨(.some 89), .none, (.call (.f 17) []), .any⟩, 
  ⟨(.some 90), .none, (.mv (.t 89)), .any⟩, 
  ⟨(.some 91), (.some (90, true)), (.ld 4 true (.t 6)), .rd⟩, 
  ⟨(.some 92), (.some (90, true)), (.ld 4 true (.t 7)), .rd⟩, 
  ⟨(.some 93), (.some (90, true)), (.call (.f 18) [(.t 91), (.t 92)]), .any⟩, 
  ⟨(.some 94), .none, (.pick (.t 90) (.t 93) (.c (.a (.p (.b false))))), .any⟩, 
  ⟨(.some 95), .none, (.mv (.t 94)), .any⟩, 
  ⟨(.some 96), (.some (95, true)), (.mv (.t 1)), .any⟩, 
  ⟨(.some 97), (.some (95, true)), (.len false (.t 96)), .any⟩, 
  ⟨(.some 98), (.some (95, true)), (.bin .neq (.t 97) (.c (.a (.p (.i .i64 1))))), .any⟩, 
  ⟨(.some 99), (.some (95, true)), (.mv (.t 98)), .any⟩, 
  ⟨(.some 100), (.some (99, false)), (.ld 4 true (.t 6)), .rd⟩, 
  ⟨(.some 101), (.some (99, false)), (.ld 4 true (.t 2)), .rd⟩, 
  ⟨(.some 102), (.some (99, false)), (.mv (.t 1)), .rd⟩, 
  ⟨(.some 103), (.some (99, false)), (.ias 4 (.t 102) (.c (.a (.p (.i .i64 0))))), .rd⟩, 
  ⟨(.some 104), (.some (99, false)), (.ld 4 true (.t 103)), .rd⟩, 
  ⟨(.some 105), (.some (99, false)), (.call (.f 21) [(.t 101), (.c (.a (.p (.i .i64 0)))), (.t 104)]), .rd⟩, 
  ⟨(.some 106), (.some (99, false)), (.call (.f 18) [(.t 100), (.t 105)]), .any⟩, 
  ⟨(.some 107), (.some (95, true)), (.pick (.t 99) (.c (.a (.p (.b true)))) (.t 106)), .any⟩, 
  ⟨(.some 108), .none, (.pick (.t 95) (.t 107) (.c (.a (.p (.b false))))), .any⟩, 
  ⟨(.some 4), .none, (.mv (.t 108)), .any⟩]) .ret)))))))), [(.tmp 4)]⟩
theorem cc4 : ccF Try.prog [] Try.f4 = some F4 := by kernel_rfl

/- gossamer/gossamerlaw08.SubstSwaps -/
def F5 : FnC := ⟨3, (.seq (.reg [
  ⟨(.some 3), .none, (.box 4 (.t 0)), .any⟩, 
  ⟨(.some 4), .none, (.box 4 (.t 1)), .any⟩, 
  ⟨(.some 5), .none, (.box 4 (.t 2)), .any⟩, 
  ⟨(.some 6), .none, (.mv (.c (.a (.p (.b false))))), .any⟩]) (.seq (.seq (.reg [
  ⟨(.some 9), .none, (.call (.f 17) []), .any⟩, 
  ⟨(.some 10), .none, (.not (.t 9)), .any⟩, 
  ⟨(.some 11), .none, (.mv (.t 10)), .any⟩, 
  ⟨(.some 12), (.some (11, false)), (.ld 4 true (.t 3)), .any⟩, 
  ⟨(.some 13), (.some (11, false)), (.call (.f 15) [(.t 12), (.c (.a (.p (.i .i64 60))))]), .any⟩, 
  ⟨(.some 14), (.some (11, false)), (.not (.t 13)), .any⟩, 
  ⟨(.some 15), .none, (.pick (.t 11) (.c (.a (.p (.b true)))) (.t 14)), .any⟩, 
  ⟨(.some 16), .none, (.mv (.t 15)), .any⟩, 
  ⟨(.some 17), (.some (16, false)), (.ld 4 true (.t 4)), .any⟩, 
  ⟨(.some 18), (.some (16, false)), (.call (.f 15) [(.t 17), (.c (.a (.p (.i .i64 60))))]), .any⟩, 
  ⟨(.some 19), (.some (16, false)), (.not (.t 18)), .any⟩, 
  ⟨(.some 20), .none, (.pick (.t 16) (.c (.a (.p (.b true)))) (.t 19)), .any⟩, 
  ⟨(.some 21), .none, (.mv (.t 20)), .any⟩, 
  ⟨(.some 22), (.some (21, false)), (.ld 4 true (.t 5)), .any⟩, 
  ⟨(.some 23), (.some (21, false)), (.call (.f 15) [(.t 22), (.c (.a (.p (.i .i64 60))))]), .any⟩, 
  ⟨(.some 24), (.some (21, false)), (.not (.t 23)), .any⟩, 
  ⟨(.some 25), .none, (.pick (.t 21) (.c (.a (.p (.b true)))) (.t 24)), .any⟩, 
  ⟨(.some 26), .none, (.mv (.t 25)), .any⟩, 
  ⟨(.some 27), (.some (26, false)), (.ld 4 true (.t 3)), .any⟩, 
  ⟨(.some 28), (.some (26, false)), (.call (.f 27) [(.t 27), (.c (.a (.p (.i .i64 5))))]), .any⟩, 
  ⟨(.some 29), (.some (26, false)), (.not (.t 28)), .any⟩, 
  ⟨(.some 30), .none, (.pick (.t 26) (.c (.a (.p (.b true)))) (.t 29)), .any⟩, 
  ⟨(.some 31), .none, (.mv (.t 30)), .any⟩, 
  ⟨(.some 32), (.some (31, false)), (.ld 4 true (.t 4)), .any⟩, 
  ⟨(.some 33), (.some (31, false)), (.call (.f 27) [(.t 32), (.c (.a (.p (.i .i64 5))))]), .any⟩, 
  ⟨(.some 34), (.some (31, false)), (.not (.t 33)), .any⟩, 
  ⟨(.some 35), .none, (.pick (.t 31) (.c (.a (.p (.b true)))) (.t 34)), .any⟩, 
  ⟨(.some 36), .none, (.mv (.t 35)), .any⟩, 
  ⟨(.some 37), (.some (36, false)), (.ld 4 true (.t 5)), .any⟩, 
  ⟨(.some 38), (.some (36, false)), (.call (.f 27) [(.t 37), (.c (.a (.p (.i .i64 5))))]), .any⟩, 
  ⟨(.some 39), (.some (36, false)), (.not (.t 38)), .any⟩, 
  ⟨(.some 40), .none, (.pick (.t 36) (.c (.a (.p (.b true)))) (.t 39)), .any⟩]) (.cond (.t 40) (.seq (.reg [
  ⟨(.some 41), .none, (.call (.f 17) []), .any⟩, 
  ⟨(.some 6), .none, (.mv (.t 41)), .any⟩]) .ret) .skip)) (.seq (.reg [
  ⟨(.some 42), .none, (.ld 4 true (.t 3)), .rd⟩, 
  ⟨(.some 43), .none, (.ld 4 true (.t 4)), .rd⟩, 
  ⟨(.some 44), .none, (.call (.f 21) [(.t 42), (.c (.a (.p (.i .i64 0)))), (.t 43)]), .rd⟩, 
  ⟨(.some 45), .none, (.ld 4 true (.t 5)), .rd⟩, 
  ⟨(.some 46), .none, (.call (.f 21) [(.t 44), (.c (.a (.p (.i .i64 0)))), (.t 45)]), .rd⟩, 
  ⟨(.some 7), .none, (.new [(.p (.i .i64 0)), (.p (.i .i64 0)), (.p (.s [])), .nil]), .ad⟩, 
  ⟨.none, .none, (.st 4 (.t 7) (.t 46)), .any⟩]) (.seq (.reg [
  ⟨(.some 47), .none, (.ld 4 true (.t 3)), .rd⟩, 
  ⟨(.some 48), .none, (.ld 4 true (.t 5)), .rd⟩, 
  ⟨(.some 49), .none, (.call (.f 19) [(.t 48), (.c (.a (.p (.i .i64 1)))), (.c (.a (.p (.i .i64 0))))]), .rd⟩, 
  ⟨(.some 50), .none, (.call (.f 21) [(.t 47), (.c (.a (.p (.i .i64 1)))), (.t 49)]), .rd⟩, 
  ⟨(.some 51), .none, (.ld 4 true (.t 4)), .rd⟩, 
  ⟨(.some 52), .none, (.ld 4 true (.t 5)), .rd⟩, 
  ⟨(.some 53), .none, (.call (.f 21) [(.t 51), (.c (.a (.p (.i .i64 0)))), (.t 52)]), .rd⟩, 
  ⟨(.some 54), .none, (.call (.f 21) [(.t 50), (.c (.a (.p (.i .i64 0)))), (.t 53)]), .rd⟩, 
  ⟨(.some 8), .none, (.new [(.p (.i .i64 0)), (.p (.i .i64 0)), (.p (.s [])), .nil]), .ad⟩, 
  ⟨.none, .none, (.st 4 (.t 8) (.t 54)), .any⟩]) (.seq (.reg [
  ⟨(.some 55), .none, (.ld 4 true (.t 7)), .rd⟩, 
  ⟨(.some 56), .none, (.ld 4 true (.t 8)), .rd⟩, 
  ⟨(.some 57), .none, (.call (.f 18) [(.t 55), (.t 56)]), .any⟩, 
  ⟨(.some 58), .none, (.mv (.t 57)), .any⟩, 
  ⟨(.some 59), (.some (58, true)), (.ld 4 true (.t 3)), .rd⟩, 
  ⟨(.some 60), (.some (58, true)), (.call (.f 19) [(.t 59), (.c (.a (.p (.i .i64 1)))), (.c (.a (.p (.i .i64 0))))]), .rd⟩, 
  ⟨(.some 61), (.some (58, true)), (.ld 4 true (.t 4)), .rd⟩, 
  ⟨(.some 62), (.some (58, true)), (.call (.f 21) [(.t 60), (.c (.a (.p (.i .i64 0)))), (.t 61)]), .rd⟩, 
  ⟨(.some 63), (.some (58, true)), (.ld 4 true (.t 3)), .rd⟩, 
  ⟨(.some 64), (.some (58, true)), (.call (.f 18) [(.t 62), (.t 63)]), .any⟩, 
  ⟨(.some 65), .none, (.pick (.t 58) (.t 64) (.c (.a (.p (.b false))))), .any⟩, 
  ⟨(.some 66), .none, (.mv (.t 65)), .any⟩, 
  ⟨(.some 67), (.some (66, true)), (.ld 4 true (.t 3)), .rd⟩, 
  ⟨(.some 68), (.some (66, true)), (.call (.f 19) [(.t 67), (.c (.a (.p (.i .i64 1)))), (.c (.a (.p (.i .i64 2))))]), .rd⟩, 
  ⟨(.some 69), (.some (66, true)), (.ld 4 true (.t 4)), .rd⟩, 
  ⟨(.some 70), (.some (66, true)), (.call (.f 21) [(.t 68), (.c (.a (.p (.i .i64 2)))), (.t 69)]), .rd⟩, 
  ⟨(.some 71), (.some (66, true)), (.ld 4 true (.t 3)), .rd⟩, 
  ⟨(.some 72), (.some (66, true)), (.call (.f 18) [(.t 70), (.t 71)]), .any⟩, 
  ⟨(.some 73), .none, (.pick (.t 66) (.t 72) (.c (.a (.p (.b false))))), .any⟩, 
  ⟨(.some 74), .none, (.mv (.t 73)), .any⟩, 
  ⟨(.some 75), (.some (74, true)), (.ld 4 true (.t 3)), .rd⟩, 
  ⟨(.some 76), (.some (74, true)), (.call (.f 19) [(.t 75), (.c (.a (.p (.i .i64 0)))), (.c (.a (.p (.i .i64 0))))]), .rd⟩, 
  ⟨(.some 77), (.some (74, true)), (.ld 4 true (.t 3)), .rd⟩, 
  ⟨(.some 78), (.some (74, true)), (.call (.f 18) [(.t 76), (.t 77)]), .any⟩, 
  ⟨(.some 79), .none, (.pick (.t 74) (.t 78) (.c (.a (.p (.b false))))), .any⟩, 
  ⟨(.some 6), .none, (.mv (.t 79)), .any⟩]) .ret))))), [(.tmp 6)]⟩
theorem cc5 : ccF Try.prog [] Try.f5 = some F5 := by kernel_rfl

/- gossamer/gossamerlaw08.SubstUses -/
def F6 : FnC := ⟨3, (.seq (.reg [
  ⟨(.some 3), .none, (.box 4 (.t 0)), .any⟩, 
  ⟨(.some 4), .none, (.box 4 (.t 1)), .any⟩, 
  ⟨(.some 6), .none, (.mv (.c (.a (.p (.b false))))), .any⟩]) (.seq (.seq (.reg [
  ⟨(.some 9), .none, (.call (.f 17) []), .any⟩, 
  ⟨(.some 10), .none, (.not (.t 9)), .any⟩, 
  ⟨(.some 11), .none, (.mv (.t 10)), .any⟩, 
  ⟨(.some 12), (.some (11, false)), (.ld 4 true (.t 3)), .any⟩, 
  ⟨(.some 13), (.some (11, false)), (.call (.f 15) [(.t 12), (.c (.a (.p (.i .i64 100))))]), .any⟩, 
  ⟨(.some 14), (.some (11, false)), (.not (.t 13)), .any⟩, 
  ⟨(.some 15), .none, (.pick (.t 11) (.c (.a (.p (.b true)))) (.t 14)), .any⟩, 
  ⟨(.some 16), .none, (.mv (.t 15)), .any⟩, 
  ⟨(.some 17), (.some (16, false)), (.ld 4 true (.t 4)), .any⟩, 
  ⟨(.some 18), (.some (16, false)), (.call (.f 15) [(.t 17), (.c (.a (.p (.i .i64 100))))]), .any⟩, 
  ⟨(.some 19), (.some (16, false)), (.not (.t 18)), .any⟩, 
  ⟨(.some 20), .none, (.pick (.t 16) (.c (.a (.p (.b true)))) (.t 19)), .any⟩, 
  ⟨(.some 21), .none, (.mv (.t 20)), .any⟩, 
  ⟨(.some 22), (.some (21, false)), (.mv (.t 2)), .any⟩, 
  ⟨(.some 23), (.some (21, false)), (.bin .lss (.t 22) (.c (.a (.p (.i .i64 0))))), .any⟩, 
  ⟨(.some 24), .none, (.pick (.t 21) (.c (.a (.p (.b true)))) (.t 23)), .any⟩, 
  ⟨(.some 25), .none, (.mv (.t 24)), .any⟩, 
  ⟨(.some 26), (.some (25, false)), (.mv (.t 2)), .any⟩, 
  ⟨(.some 27), (.some (25, false)), (.bin .gtr (.t 26) (.c (.a (.p (.i .i64 4))))), .any⟩, 
  ⟨(.some 28), .none, (.pick (.t 25) (.c (.a (.p (.b true)))) (.t 27)), .any⟩, 
  ⟨(.some 29), .none, (.mv (.t 28)), .any⟩, 
  ⟨(.some 30), (.some (29, false)), (.ld 4 true (.t 3)), .any⟩, 
  ⟨(.some 31), (.some (29, false)), (.call (.f 27) [(.t 30), (.c (.a (.p (.i .i64 5))))]), .any⟩, 
  ⟨(.some 32), (.some (29, false)), (.not (.t 31)), .any⟩, 
  ⟨(.some 33), .none, (.pick (.t 29) (.c (.a (.p (.b true)))) (.t 32)), .any⟩, 
  ⟨(.some 34), .none, (.mv (.t 33)), .any⟩, 
  ⟨(.some 35), (.some (34, false)), (.ld 4 true (.t 4)), .any⟩, 
  ⟨(.some 36), (.some (34, false)), (.call (.f 27) [(.t 35), (.c (.a (.p (.i .i64 4))))]), .any⟩, 
  ⟨(.some 37), (.some (34, false)), (.not (.t 36)), .any⟩, 
  ⟨(.some 38), .none, (.pick (.t 34) (.c (.a (.p (.b true)))) (.t 37)), .any⟩]) (.cond (.t 38) (.seq (.reg [
  ⟨(.some 39), .none, (.call (.f 17) []), .any⟩, 
  ⟨(.some 6), .none, (.mv (.t 39)), .any⟩]) .ret) .skip)) (.seq (.reg [
  ⟨(.some 40), .none, (.ld 4 true (.t 3)), .any⟩, 
  ⟨(.some 41), .none, (.mv (.t 2)), .any⟩, 
  ⟨(.some 42), .none, (.ld 4 true (.t 4)), .any⟩, 
  ⟨(.some 43), .none, (.call (.f 21) [(.t 40), (.t 41), (.t 42)]), .any⟩, 
  ⟨(.some 7), .none, (.new [(.p (.i .i64 0)), (.p (.i .i64 0)), (.p (.s [])), .nil]), .any⟩, 
  ⟨.none, .none, (.st 4 (.t 7) (.t 43)), .any⟩]) (.seq (.reg [
  ⟨(.some 44), .none, (.ld 4 true (.t 3)), .any⟩, 
  ⟨(.some 45), .none, (.mv (.t 2)), .any⟩, 
  ⟨(.some 46), .none, (.call (.f 23) [(.t 44), (.t 45)]), .any⟩, 
  ⟨(.some 8), .none, (.mv (.t 46)), .any⟩]) (.seq (.seq (.reg [
  ⟨(.some 47), .none, (.ld 4 true (.t 7)), .any⟩, 
  ⟨(.some 48), .none, (.call (.f 27) [(.t 47), (.c (.a (.p (.i .i64 4))))]), .any⟩, 
  ⟨(.some 49), .none, (.not (.t 48)), .any⟩, 
  ⟨(.some 50), .none, (.mv (.t 49)), .any⟩, 
  ⟨(.some 51), (.some (50, false)), (.ld 4 true (.t 7)), .rd⟩, 
  ⟨(.some 52), (.some (50, false)), (.call (.f 28) [(.t 51)]), .rd⟩, 
  ⟨(.some 53), (.some (50, false)), (.ld 4 true (.t 3)), .rd⟩, 
  ⟨(.some 54), (.some (50, false)), (.call (.f 28) [(.t 53)]), .rd⟩, 
  ⟨(.some 55), (.some (50, false)), (.mv (.t 8)), .rd⟩, 
  ⟨(.some 56), (.some (50, false)), (.ld 4 true (.t 4)), .rd⟩, 
  ⟨(.some 57), (.some (50, false)), (.call (.f 28) [(.t 56)]), .rd⟩, 
  ⟨(.some 58), (.some (50, false)), (.bin .sub (.t 57) (.c (.a (.p (.i .i64 1))))), .rd⟩, 
  ⟨(.some 59), (.some (50, false)), (.bin .mul (.t 55) (.t 58)), .any⟩, 
  ⟨(.some 60), (.some (50, false)), (.bin .add (.t 54) (.t 59)), .any⟩, 
  ⟨(.some 61), (.some (50, false)), (.bin .neq (.t 52) (.t 60)), .any⟩, 
  ⟨(.some 62), .none, (.pick (.t 50) (.c (.a (.p (.b true)))) (.t 61)), .any⟩, 
  ⟨(.some 63), .none, (.mv (.t 62)), .any⟩, 
  ⟨(.some 64), (.some (63, false)), (.ld 4 true (.t 3)), .any⟩, 
  ⟨(.some 65), (.some (63, false)), (.call (.f 27) [(.t 64), (.c (.a (.p (.i .i64 0))))]), .any⟩, 
  ⟨(.some 66), (.some (63, false)), (.mv (.t 65)), .any⟩, 
  ⟨(.some 67), (.some (66, true)), (.ld 4 true (.t 7)), .rd⟩, 
  ⟨(.some 68), (.some (66, true)), (.ld 4 true (.t 3)), .rd⟩, 
  ⟨(.some 69), (.some (66, true)), (.call (.f 18) [(.t 67), (.t 68)]), .any⟩, 
  ⟨(.some 70), (.some (66, true)), (.not (.t 69)), .any⟩, 
  ⟨(.some 71), (.some (63, false)), (.pick (.t 66) (.t 70) (.c (.a (.p (.b false))))), .any⟩, 
  ⟨(.some 72), .none, (.pick (.t 63) (.c (.a (.p (.b true)))) (.t 71)), .any⟩]) (.cond (.t 72) (.seq (.reg [
  ⟨(.some 6), .none, (.mv (.c (.a (.p (.b false))))), .any⟩]) .ret) .skip)) (.seq (.reg [
  ⟨(.some 73), .none, (.mv (.t 8)), .any⟩, 
  ⟨(.some 74), .none, (.bin .gtr (.t 73) (.c (.a (.p (.i .i64 0))))), .any⟩, 
  ⟨(.some 75), .none, (.mv (.t 74)), .any⟩, 
  ⟨(.some 76), (.some (75, false)), (.ld 4 true (.t 7)), .rd⟩, 
  ⟨(.some 77), (.some (75, false)), (.ld 4 true (.t 3)), .rd⟩, 
  ⟨(.some 78), (.some (75, false)), (.mv (.t 2)), .rd⟩, 
  ⟨(.some 79), (.some (75, false)), (.call (.f 29) [(.c (.a (.p (.i .i64 0))))]), .rd⟩, 
  ⟨(.some 80), (.some (75, false)), (.call (.f 21) [(.t 77), (.t 78), (.t 79)]), .rd⟩, 
  ⟨(.some 81), (.some (75, false)), (.call (.f 18) [(.t 76), (.t 80)]), .any⟩, 
  ⟨(.some 82), .none, (.pick (.t 75) (.c (.a (.p (.b true)))) (.t 81)), .any⟩, 
  ⟨(.some 6), .none, (.mv (.t 82)), .any⟩]) .ret)))))), [(.tmp 6)]⟩
theorem cc6 : ccF Try.prog [] Try.f6 = some F6 := by kernel_rfl

/- gossamer/gossamerlaw08.SubstUps -/
def F7 : FnC := ⟨2, (.seq (.reg [
  ⟨(.some 2), .none, (.box 4 (.t 0)), .any⟩, 
  ⟨(.some 3), .none, (.box 3 (.t 1)), .any⟩, 
  ⟨(.some 4), .none, (.mv (.c (.a (.p (.b false))))), .any⟩]) (.seq (.seq (.reg [
  ⟨(.some 11), .none, (.call (.f 17) []), .any⟩, 
  ⟨(.some 12), .none, (.not (.t 11)), .any⟩]) (.cond (.t 12) (.seq (.reg [
  ⟨(.some 4), .none, (.mv (.c (.a (.p (.b false))))), .any⟩]) .ret) .skip)) (.seq (.reg [
  ⟨(.some 13), .none, (.iaa 3 1 (.t 3) (.c (.a (.p (.i .i64 0))))), .rd⟩, 
  ⟨(.some 14), .none, (.ld 1 false (.t 13)), .rd⟩, 
  ⟨(.some 15), .none, (.iaa 3 1 (.t 3) (.c (.a (.p (.i .i64 1))))), .rd⟩, 
  ⟨(.some 16), .none, (.ld 1 false (.t 15)), .rd⟩, 
  ⟨(.some 17), .none, (.iaa 3 1 (.t 3) (.c (.a (.p (.i .i64 2))))), .rd⟩, 
  ⟨(.some 18), .none, (.ld 1 false (.t 17)), .rd⟩, 
  ⟨(.some 5), .none, (.mv (.t 14)), .rd⟩, 
  ⟨(.some 6), .none, (.mv (.t 16)), .rd⟩, 
  ⟨(.some 7), .none, (.mv (.t 18)), .any⟩]) (.seq (.seq (.reg [
  ⟨(.some 19), .none, (.call (.f 17) []), .any⟩, 
  ⟨(.some 20), .none, (.not (.t 19)), .any⟩, 
  ⟨(.some 21), .none, (.mv (.t 20)), .any⟩, 
  ⟨(.some 22), (.some (21, false)), (.ld 4 true (.t 2)), .any⟩, 
  ⟨(.some 23), (.some (21, false)), (.call (.f 15) [(.t 22), (.c (.a (.p (.i .i64 100))))]), .any⟩, 
  ⟨(.some 24), (.some (21, false)), (.not (.t 23)), .any⟩, 
  ⟨(.some 25), .none, (.pick (.t 21) (.c (.a (.p (.b true)))) (.t 24)), .any⟩, 
  ⟨(.some 26), .none, (.mv (.t 25)), .any⟩, 
  ⟨(.some 27), (.some (26, false)), (.ld 4 true (.t 2)), .any⟩, 
  ⟨(.some 28), (.some (26, false)), (.call (.f 27) [(.t 27), (.c (.a (.p (.i .i64 5))))]), .any⟩, 
  ⟨(.some 29), (.some (26, false)), (.not (.t 28)), .any⟩, 
  ⟨(.some 30), .none, (.pick (.t 26) (.c (.a (.p (.b true)))) (.t 29)), .any⟩, 
  ⟨(.some 31), .none, (.mv (.t 30)), .any⟩, 
  ⟨(.some 32), (.some (31, false)), (.mv (.t 5)), .any⟩, 
  ⟨(.some 33), (.some (31, false)), (.bin .lss (.t 32) (.c (.a (.p (.i .i64 0))))), .any⟩, 
  ⟨(.some 34), .none, (.pick (.t 31) (.c (.a (.p (.b true)))) (.t 33)), .any⟩, 
  ⟨(.some 35), .none, (.mv (.t 34)), .any⟩, 
  ⟨(.some 36), (.some (35, false)), (.mv (.t 6)), .any⟩, 
  ⟨(.some 37), (.some (35, false)), (.bin .lss (.t 36) (.c (.a (.p (.i .i64 0))))), .any⟩, 
  ⟨(.some 38), .none, (.pick (.t 35) (.c (.a (.p (.b true)))) (.t 37)), .any⟩, 
  ⟨(.some 39), .none, (.mv (.t 38)), .any⟩, 
  ⟨(.some 40), (.some (39, false)), (.mv (.t 7)), .any⟩, 
  ⟨(.some 41), (.some (39, false)), (.bin .lss (.t 40) (.c (.a (.p (.i .i64 0))))), .any⟩, 
  ⟨(.some 42), .none, (.pick (.t 39) (.c (.a (.p (.b true)))) (.t 41)), .any⟩, 
  ⟨(.some 43), .none, (.mv (.t 42)), .any⟩, 
  ⟨(.some 44), (.some (43, false)), (.mv (.t 5)), .any⟩, 
  ⟨(.some 45), (.some (43, false)), (.bin .gtr (.t 44) (.c (.a (.p (.i .i64 1000))))), .any⟩, 
  ⟨(.some 46), .none, (.pick (.t 43) (.c (.a (.p (.b true)))) (.t 45)), .any⟩, 
  ⟨(.some 47), .none, (.mv (.t 46)), .any⟩, 
  ⟨(.some 48), (.some (47, false)), (.mv (.t 6)), .any⟩, 
  ⟨(.some 49), (.some (47, false)), (.bin .gtr (.t 48) (.c (.a (.p (.i .i64 1000))))), .any⟩, 
  ⟨(.some 50), .none, (.pick (.t 47) (.c (.a (.p (.b true)))) (.t 49)), .any⟩, 
  ⟨(.some 51), .none, (.mv (.t 50)), .any⟩, 
  ⟨(.some 52), (.some (51, false)), (.mv (.t 7)), .any⟩, 
  ⟨(.some 53), (.some (51, false)), (.bin .gtr (.t 52) (.c (.a (.p (.i .i64 10))))), .any⟩, 
  ⟨(.some 54), .none, (.pick (.t 51) (.c (.a (.p (.b true)))) (.t 53)), .any⟩]) (.cond (.t 54) (.seq (.reg [
  ⟨(.some 55), .none, (.call (.f 17) []), .any⟩, 
  ⟨(.some 4), .none, (.mv (.t 55)), .any⟩]) .ret) .skip)) (.seq (.reg [
  ⟨(.some 56), .none, (.ld 4 true (.t 2)), .any⟩, 
  ⟨(.some 57), .none, (.mv (.t 5)), .any⟩, 
  ⟨(.some 58), .none, (.mv (.t 7)), .any⟩, 
  ⟨(.some 59), .none, (.call (.f 19) [(.t 56), (.t 57), (.t 58)]), .any⟩, 
  ⟨(.some 60), .none, (.mv (.t 6)), .any⟩, 
  ⟨(.some 61), .none, (.mv (.t 7)), .any⟩, 
  ⟨(.some 62), .none, (.call (.f 19) [(.t 59), (.t 60), (.t 61)]), .any⟩, 
  ⟨(.some 8), .none, (.new [(.p (.i .i64 0)), (.p (.i .i64 0)), (.p (.s [])), .nil]), .any⟩, 
  ⟨.none, .none, (.st 4 (.t 8) (.t 62)), .any⟩]) (.seq (.reg [
  ⟨(.some 63), .none, (.ld 4 true (.t 2)), .any⟩, 
  ⟨(.some 64), .none, (.mv (.t 5)), .any⟩, 
  ⟨(.some 65), .none, (.mv (.t 7)), .any⟩, 
  ⟨(.some 66), .none, (.call (.f 19) [(.t 63), (.t 64), (.t 65)]), .any⟩, 
  ⟨(.some 67), .none, (.mv (.t 6)), .any⟩, 
  ⟨(.some 68), .none, (.call (.f 19) [(.t 66), (.t 67), (.c (.a (.p (.i .i64 0))))]), .any⟩, 
  ⟨(.some 9), .none, (.new [(.p (.i .i64 0)), (.p (.i .i64 0)), (.p (.s [])), .nil]), .any⟩, 
  ⟨.none, .none, (.st 4 (.t 9) (.t 68)), .any⟩]) (.seq (.reg [
  ⟨(.some 69), .none, (.ld 4 true (.t 2)), .any⟩, 
  ⟨(.some 70), .none, (.mv (.t 6)), .any⟩, 
  ⟨(.some 71), .none, (.call (.f 19) [(.t 69), (.t 70), (.c (.a (.p (.i .i64 0))))]), .any⟩, 
  ⟨(.some 72), .none, (.mv (.t 5)), .any⟩, 
  ⟨(.some 73), .none, (.mv (.t 7)), .any⟩, 
  ⟨(.some 74), .none, (.mv (.t 6)), .any⟩, 
  ⟨(.some 75), .none, (.bin .add (.t 73) (.t 74)), .any⟩, 
  ⟨(.some 76), .none, (.call (.f 19) [(.t 71), (.t 72), (.t 75)]), .any⟩, 
  ⟨(.some 10), .none, (.new [(.p (.i .i64 0)), (.p (.i .i64 0)), (.p (.s [])), .nil]), .any⟩, 
  ⟨.none, .none, (.st 4 (.t 10) (.t 76)), .any⟩]) (.seq (.reg [
  ⟨(.some 77), .none, (.ld 4 true (.t 8)), .rd⟩, 
  ⟨(.some 78), .none, (.ld 4 true (.t 2)), .rd⟩, 
  ⟨(.some 79), .none, (.mv (.t 5)), .rd⟩, 
  ⟨(.some 80), .none, (.mv (.t 6)), .rd⟩, 
  ⟨(.some 81), .none, (.bin .add (.t 79) (.t 80)), .rd⟩, 
  ⟨(.some 82), .none, (.mv (.t 7)), .rd⟩, 
  ⟨(.some 83), .none, (.call (.f 19) [(.t 78), (.t 81), (.t 82)]), .rd⟩, 
  ⟨(.some 84), .none, (.call (.f 18) [(.t 77), (.t 83)]), .any⟩, 
  ⟨(.some 85), .none, (.mv (.t 84)), .any⟩, 
  ⟨(.some 86), (.some (85, true)), (.ld 4 true (.t 9)), .rd⟩, 
  ⟨(.some 87), (.some (85, true)), (.ld 4 true (.t 10)), .rd⟩, 
  ⟨(.some 88), (.some (85, true)), (.call (.f 18) [(.t 86), (.t 87)]), .any⟩, 
  ⟨(.some 89), .none, (.pick (.t 85) (.t 88) (.c (.a (.p (.b false))))), .any⟩, 
  ⟨(.some 90), .none, (.mv (.t 89)), .any⟩, 
  ⟨(.some 91), (.some (90, true)), (.mv (.t 7)), .any⟩, 
  ⟨(.some 92), (.some (90, true)), (.bin .lss (.t 91) (.c (.a (.p (.i .i64 5))))), .any⟩, 
  ⟨(.some 93), (.some (90, true)), (.mv (.t 92)), .any⟩, 
  ⟨(.some 94), (.some (93, false)), (.ld 4 true (.t 2)), .rd⟩, 
  ⟨(.some 95), (.some (93, false)), (.mv (.t 5)), .rd⟩, 
  ⟨(.some 96), (.some (93, false)), (.mv (.t 7)), .rd⟩, 
  ⟨(.some 97), (.some (93, false)), (.call (.f 19) [(.t 94), (.t 95), (.t 96)]), .rd⟩, 
  ⟨(.some 98), (.some (93, false)), (.ld 4 true (.t 2)), .rd⟩, 
  ⟨(.some 99), (.some (93, false)), (.call (.f 18) [(.t 97), (.t 98)]), .any⟩, 
  ⟨(.some 100), (.some (90, true)), (.pick (.t 93) (.c (.a (.p (.b true)))) (.t 99)), .any⟩, 
  ⟨(.some 101), .none, (.pick (.t 90) (.t 100) (.c (.a (.p (.b false))))), .any⟩, 
  ⟨(.some 102), .none, (.mv (.t 101)), .any⟩, 
  ⟨(.some 103), (.some (102, true)), (.ld 4 true (.t 8)), .rd⟩, 
  ⟨(.some 104), (.some (102, true)), (.call (.f 28) [(.t 103)]), .rd⟩, 
  ⟨(.some 105), (.some (102, true)), (.ld 4 true (.t 2)), .rd⟩, 
  ⟨(.some 106), (.some (102, true)), (.call (.f 28) [(.t 105)]), .any⟩, 
  ⟨(.some 107), (.some (102, true)), (.bin .eql (.t 104) (.t 106)), .any⟩, 
  ⟨(.some 108), .none, (.pick (.t 102) (.t 107) (.c (.a (.p (.b false))))), .any⟩, 
  ⟨(.some 4), .none, (.mv (.t 108)), .any⟩]) .ret)))))))), [(.tmp 4)]⟩
theorem cc7 : ccF Try.prog [] Try.f7 = some F7 := by kernel_rfl

/- gossamer/gossamerlaw08.SubstBinds -/
def F8 : FnC := ⟨3, (.seq (.reg [
  ⟨(.some 3), .none, (.box 4 (.t 0)), .any⟩, 
  ⟨(.some 4), .none, (.box 4 (.t 1)), .any⟩, 
  ⟨(.some 6), .none, (.mv (.c (.a (.p (.b false))))), .any⟩]) (.seq (.seq (.reg [
  ⟨(.some 11), .none, (.call (.f 17) []), .any⟩, 
  ⟨(.some 12), .none, (.not (.t 11)), .any⟩, 
  ⟨(.some 13), .none, (.mv (.t 12)), .any⟩, 
  ⟨(.some 14), (.some (13, false)), (.ld 4 true (.t 3)), .any⟩, 
  ⟨(.some 15), (.some (13, false)), (.call (.f 15) [(.t 14), (.c (.a (.p (.i .i64 100))))]), .any⟩, 
  ⟨(.some 16), (.some (13, false)), (.not (.t 15)), .any⟩, 
  ⟨(.some 17), .none, (.pick (.t 13) (.c (.a (.p (.b true)))) (.t 16)), .any⟩, 
  ⟨(.some 18), .none, (.mv (.t 17)), .any⟩, 
  ⟨(.some 19), (.some (18, false)), (.ld 4 true (.t 4)), .any⟩, 
  ⟨(.some 20), (.some (18, false)), (.call (.f 15) [(.t 19), (.c (.a (.p (.i .i64 100))))]), .any⟩, 
  ⟨(.some 21), (.some (18, false)), (.not (.t 20)), .any⟩, 
  ⟨(.some 22), .none, (.pick (.t 18) (.c (.a (.p (.b true)))) (.t 21)), .any⟩, 
  ⟨(.some 23), .none, (.mv (.t 22)), .any⟩, 
  ⟨(.some 24), (.some (23, false)), (.ld 4 true (.t 3)), .any⟩, 
  ⟨(.some 25), (.some (23, false)), (.call (.f 27) [(.t 24), (.c (.a (.p (.i .i64 5))))]), .any⟩, 
  ⟨(.some 26), (.some (23, false)), (.not (.t 25)), .any⟩, 
  ⟨(.some 27), .none, (.pick (.t 23) (.c (.a (.p (.b true)))) (.t 26)), .any⟩, 
  ⟨(.some 28), .none, (.mv (.t 27)), .any⟩, 
  ⟨(.some 29), (.some (28, false)), (.ld 4 true (.t 4)), .any⟩, 
  ⟨(.some 30), (.some (28, false)), (.call (.f 27) [(.t 29), (.c (.a (.p (.i .i64 5))))]), .any⟩, 
  ⟨(.some 31), (.some (28, false)), (.not (.t 30)), .any⟩, 
  ⟨(.some 32), .none, (.pick (.t 28) (.c (.a (.p (.b true)))) (.t 31)), .any⟩, 
  ⟨(.some 33), .none, (.mv (.t 32)), .any⟩, 
  ⟨(.some 34), (.some (33, false)), (.mv (.t 2)), .any⟩, 
  ⟨(.some 35), (.some (33, false)), (.bin .lss (.t 34) (.c (.a (.p (.i .i64 0))))), .any⟩, 
  ⟨(.some 36), .none, (.pick (.t 33) (.c (.a (.p (.b true)))) (.t 35)), .any⟩, 
  ⟨(.some 37), .none, (.mv (.t 36)), .any⟩, 
  ⟨(.some 38), (.some (37, false)), (.mv (.t 2)), .any⟩, 
  ⟨(.some 39), (.some (37, false)), (.bin .gtr (.t 38) (.c (.a (.p (.i .i64 4))))), .any⟩, 
  ⟨(.some 40), .none, (.pick (.t 37) (.c (.a (.p (.b true)))) (.t 39)), .any⟩]) (.cond (.t 40) (.seq (.reg [
  ⟨(.some 41), .none, (.call (.f 17) []), .any⟩, 
  ⟨(.some 6), .none, (.mv (.t 41)), .any⟩]) .ret) .skip)) (.seq (.reg [
  ⟨(.some 42), .none, (.ld 4 true (.t 3)), .rd⟩, 
  ⟨(.some 43), .none, (.call (.f 30) [(.t 42)]), .rd⟩, 
  ⟨(.some 44), .none, (.mv (.t 2)), .rd⟩, 
  ⟨(.some 45), .none, (.ld 4 true (.t 4)), .rd⟩, 
  ⟨(.some 46), .none, (.call (.f 21) [(.t 43), (.t 44), (.t 45)]), .rd⟩, 
  ⟨(.some 7), .none, (.new [(.p (.i .i64 0)), (.p (.i .i64 0)), (.p (.s [])), .nil]), .ad⟩, 
  ⟨.none, .none, (.st 4 (.t 7) (.t 46)), .any⟩]) (.seq (.reg [
  ⟨(.some 47), .none, (.ld 4 true (.t 3)), .rd⟩, 
  ⟨(.some 48), .none, (.mv (.t 2)), .rd⟩, 
  ⟨(.some 49), .none, (.bin .add (.t 48) (.c (.a (.p (.i .i64 1))))), .rd⟩, 
  ⟨(.some 50), .none, (.ld 4 true (.t 4)), .rd⟩, 
  ⟨(.some 51), .none, (.call (.f 19) [(.t 50), (.c (.a (.p (.i .i64 1)))), (.c (.a (.p (.i .i64 0))))]), .rd⟩, 
  ⟨(.some 52), .none, (.call (.f 21) [(.t 47), (.t 49), (.t 51)]), .rd⟩, 
  ⟨(.some 53), .none, (.call (.f 30) [(.t 52)]), .rd⟩, 
  ⟨(.some 8), .none, (.new [(.p (.i .i64 0)), (.p (.i .i64 0)), (.p (.s [])), .nil]), .ad⟩, 
  ⟨.none, .none, (.st 4 (.t 8) (.t 53)), .any⟩]) (.seq (.reg [
  ⟨(.some 54), .none, (.ld 4 true (.t 3)), .rd⟩, 
  ⟨(.some 55), .none, (.ld 4 true (.t 3)), .rd⟩, 
  ⟨(.some 56), .none, (.call (.f 31) [(.t 54), (.t 55)]), .rd⟩, 
  ⟨(.some 57), .none, (.mv (.t 2)), .rd⟩, 
  ⟨(.some 58), .none, (.ld 4 true (.t 4)), .rd⟩, 
  ⟨(.some 59), .none, (.call (.f 21) [(.t 56), (.t 57), (.t 58)]), .rd⟩, 
  ⟨(.some 9), .none, (.new [(.p (.i .i64 0)), (.p (.i .i64 0)), (.p (.s [])), .nil]), .ad⟩, 
  ⟨.none, .none, (.st 4 (.t 9) (.t 59)), .any⟩]) (.seq (.reg [
  ⟨(.some 60), .none, (.ld 4 true (.t 3)), .any⟩, 
  ⟨(.some 61), .none, (.mv (.t 2)), .any⟩, 
  ⟨(.some 62), .none, (.ld 4 true (.t 4)), .any⟩, 
  ⟨(.some 63), .none, (.call (.f 21) [(.t 60), (.t 61), (.t 62)]), .any⟩, 
  ⟨(.some 10), .none, (.new [(.p (.i .i64 0)), (.p (.i .i64 0)), (.p (.s [])), .nil]), .any⟩, 
  ⟨.none, .none, (.st 4 (.t 10) (.t 63)), .any⟩]) (.seq (.reg [
  ⟨(.some 64), .none, (.ld 4 true (.t 7)), .rd⟩, 
  ⟨(.some 65), .none, (.ld 4 true (.t 8)), .rd⟩, 
  ⟨(.some 66), .none, (.call (.f 18) [(.t 64), (.t 65)]), .any⟩, 
  ⟨(.some 67), .none, (.mv (.t 66)), .any⟩, 
  ⟨(.some 68), (.some (67, true)), (.ld 4 true (.t 9)), .rd⟩, 
  ⟨(.some 69), (.some (67, true)), (.ld 4 true (.t 10)), .rd⟩, 
  ⟨(.some 70), (.some (67, true)), (.ld 4 true (.t 10)), .rd⟩, 
  ⟨(.some 71), (.some (67, true)), (.call (.f 31) [(.t 69), (.t 70)]), .rd⟩, 
  ⟨(.some 72), (.some (67, true)), (.call (.f 18) [(.t 68), (.t 71)]), .any⟩, 
  ⟨(.some 73), .none, (.pick (.t 67) (.t 72) (.c (.a (.p (.b false))))), .any⟩, 
  ⟨(.some 74), .none, (.mv (.t 73)), .any⟩, 
  ⟨(.some 75), (.some (74, true)), (.ld 4 true (.t 3)), .rd⟩, 
  ⟨(.some 76), (.some (74, true)), (.call (.f 30) [(.t 75)]), .rd⟩, 
  ⟨(.some 77), (.some (74, true)), (.mv (.t 2)), .rd⟩, 
  ⟨(.some 78), (.some (74, true)), (.call (.f 23) [(.t 76), (.t 77)]), .rd⟩, 
  ⟨(.some 79), (.some (74, true)), (.ld 4 true (.t 3)), .rd⟩, 
  ⟨(.some 80), (.some (74, true)), (.mv (.t 2)), .rd⟩, 
  ⟨(.some 81), (.some (74, true)), (.bin .add (.t 80) (.c (.a (.p (.i .i64 1))))), .rd⟩, 
  ⟨(.some 82), (.some (74, true)), (.call (.f 23) [(.t 79), (.t 81)]), .any⟩, 
  ⟨(.some 83), (.some (74, true)), (.bin .eql (.t 78) (.t 82)), .any⟩, 
  ⟨(.some 84), .none, (.pick (.t 74) (.t 83) (.c (.a (.p (.b false))))), .any⟩, 
  ⟨(.some 85), .none, (.mv (.t 84)), .any⟩, 
  ⟨(.some 86), (.some (85, true)), (.ld 4 true (.t 3)), .rd⟩, 
  ⟨(.some 87), (.some (85, true)), (.ld 4 true (.t 4)), .rd⟩, 
  ⟨(.some 88), (.some (85, true)), (.call (.f 31) [(.t 86), (.t 87)]), .rd⟩, 
  ⟨(.some 89), (.some (85, true)), (.mv (.t 2)), .rd⟩, 
  ⟨(.some 90), (.some (85, true)), (.call (.f 23) [(.t 88), (.t 89)]), .rd⟩, 
  ⟨(.some 91), (.some (85, true)), (.ld 4 true (.t 3)), .rd⟩, 
  ⟨(.some 92), (.some (85, true)), (.mv (.t 2)), .rd⟩, 
  ⟨(.some 93), (.some (85, true)), (.call (.f 23) [(.t 91), (.t 92)]), .rd⟩, 
  ⟨(.some 94), (.some (85, true)), (.ld 4 true (.t 4)), .rd⟩, 
  ⟨(.some 95), (.some (85, true)), (.mv (.t 2)), .rd⟩, 
  ⟨(.some 96), (.some (85, true)), (.call (.f 23) [(.t 94), (.t 95)]), .any⟩, 
  ⟨(.some 97), (.some (85, true)), (.bin .add (.t 93) (.t 96)), .any⟩, 
  ⟨(.some 98), (.some (85, true)), (.bin .eql (.t 90) (.t 97)), .any⟩, 
  ⟨(.some 99), .none, (.pick (.t 85) (.t 98) (.c (.a (.p (.b false))))), .any⟩, 
  ⟨(.some 6), .none, (.mv (.t 99)), .any⟩]) .ret))))))), [(.tmp 6)]⟩
theorem cc8 : ccF Try.prog [] Try.f8 = some F8 := by kernel_rfl

/- gossamer/gossamerref06.Small -/
def F15 : FnC := ⟨2, (.seq (.reg [
  ⟨(.some 2), .none, (.box 4 (.t 0)), .any⟩, 
  ⟨(.some 4), .none, (.mv (.c (.a (.p (.b false))))), .any⟩]) (.seq (.reg [
  ⟨(.some 5), .none, (.ld 4 true (.t 2)), .any⟩, 
  ⟨(.some 6), .none, (.mv (.t 1)), .any⟩, 
  ⟨(.some 7), .none, (.call (.f 49) [(.t 5), (.t 6), (.c (.a (.p (.i .i64 600))))]), .any⟩, 
  ⟨(.some 8), .none, (.bin .geq (.t 7) (.c (.a (.p (.i .i64 0))))), .any⟩, 
  ⟨(.some 4), .none, (.mv (.t 8)), .any⟩]) .ret)), [(.tmp 4)]⟩
theorem cc15 : ccF Try.prog [] Try.f15 = some F15 := by kernel_rfl

/- gossamer/gossamerref08.Tame -/
def F16b0 : C := (.seq (.seq (.reg [
  ⟨(.some 28), .none, (.mv (.t 3)), .any⟩, 
  ⟨(.some 29), .none, (.fad 3 (.t 1)), .any⟩, 
  ⟨(.some 30), .none, (.ld 1 false (.t 29)), .any⟩, 
  ⟨(.some 31), .none, (.len false (.t 30)), .any⟩, 
  ⟨(.some 32), .none, (.bin .lss (.t 28) (.t 31)), .any⟩]) (.cond (.t 32) .skip (.exit 0))) (.seq (.block 1 (.seq (.reg [
  ⟨(.some 35), .none, (.fad 3 (.t 1)), .any⟩, 
  ⟨(.some 36), .none, (.ld 1 false (.t 35)), .any⟩, 
  ⟨(.some 37), .none, (.mv (.t 3)), .any⟩, 
  ⟨(.some 38), .none, (.ias 4 (.t 36) (.t 37)), .any⟩, 
  ⟨(.some 39), .none, (.ld 4 true (.t 38)), .any⟩, 
  ⟨(.some 40), .none, (.call (.f 16) [(.t 39)]), .any⟩, 
  ⟨(.some 41), .none, (.not (.t 40)), .any⟩]) (.cond (.t 41) (.seq (.reg [
  ⟨(.some 2), .none, (.mv (.c (.a (.p (.b false))))), .any⟩]) .ret) .skip))) (.reg [
  ⟨(.some 33), .none, (.mv (.t 3)), .any⟩, 
  ⟨(.some 34), .none, (.bin .add (.t 33) (.c (.a (.p (.i .i64 1))))), .any⟩, 
  ⟨(.some 3), .none, (.mv (.t 34)), .any⟩])))
def F16 : FnC := ⟨1, (.seq (.reg [
  ⟨(.some 1), .none, (.box 4 (.t 0)), .any⟩, 
  ⟨(.some 2), .none, (.mv (.c (.a (.p (.b false))))), .any⟩]) (.seq (.seq (.reg [
  ⟨(.some 4), .none, (.fad 0 (.t 1)), .any⟩, 
  ⟨(.some 5), .none, (.ld 1 false (.t 4)), .any⟩, 
  ⟨(.some 6), .none, (.bin .neq (.t 5) (.c (.a (.p (.i .i64 7))))), .any⟩, 
  ⟨(.some 7), .none, (.mv (.t 6)), .any⟩, 
  ⟨(.some 8), (.some (7, true)), (.fad 1 (.t 1)), .any⟩, 
  ⟨(.some 9), (.some (7, true)), (.ld 1 false (.t 8)), .any⟩, 
  ⟨(.some 10), (.some (7, true)), (.bin .gtr (.t 9) (.c (.a (.p (.i .i64 1099511627776))))), .any⟩, 
  ⟨(.some 11), (.some (7, true)), (.mv (.t 10)), .any⟩, 
  ⟨(.some 12), (.some (11, false)), (.fad 1 (.t 1)), .any⟩, 
  ⟨(.some 13), (.some (11, false)), (.ld 1 false (.t 12)), .any⟩, 
  ⟨(.some 14), (.some (11, false)), (.bin .lss (.t 13) (.c (.a (.p (.i .i64 (-1099511627776)))))), .any⟩, 
  ⟨(.some 15), (.some (7, true)), (.pick (.t 11) (.c (.a (.p (.b true)))) (.t 14)), .any⟩, 
  ⟨(.some 16), .none, (.pick (.t 7) (.t 15) (.c (.a (.p (.b false))))), .any⟩, 
  ⟨(.some 17), .none, (.mv (.t 16)), .any⟩, 
  ⟨(.some 18), (.some (17, false)), (.fad 0 (.t 1)), .any⟩, 
  ⟨(.some 19), (.some (17, false)), (.ld 1 false (.t 18)), .any⟩, 
  ⟨(.some 20), (.some (17, false)), (.bin .eql (.t 19) (.c (.a (.p (.i .i64 1))))), .any⟩, 
  ⟨(.some 21), (.some (17, false)), (.mv (.t 20)), .any⟩, 
  ⟨(.some 22), (.some (21, true)), (.fad 3 (.t 1)), .any⟩, 
  ⟨(.some 23), (.some (21, true)), (.ld 1 false (.t 22)), .any⟩, 
  ⟨(.some 24), (.some (21, true)), (.len false (.t 23)), .any⟩, 
  ⟨(.some 25), (.some (21, true)), (.bin .gtr (.t 24) (.c (.a (.p (.i .i64 0))))), .any⟩, 
  ⟨(.some 26), (.some (17, false)), (.pick (.t 21) (.t 25) (.c (.a (.p (.b false))))), .any⟩, 
  ⟨(.some 27), .none, (.pick (.t 17) (.c (.a (.p (.b true)))) (.t 26)), .any⟩]) (.cond (.t 27) (.seq (.reg [
  ⟨(.some 2), .none, (.mv (.c (.a (.p (.b false))))), .any⟩]) .ret) .skip)) (.seq (.seq (.reg [
  ⟨(.some 3), .none, (.mv (.c (.a (.p (.i .i64 0))))), .any⟩]) (.block 0 (.loop F16b0))) (.seq (.reg [
  ⟨(.some 2), .none, (.mv (.c (.a (.p (.b true))))), .any⟩]) .ret)))), [(.tmp 2)]⟩
theorem cc16 : ccF Try.prog [] Try.f16 = some F16 := by kernel_rfl

/- gossamer/gossamerlaw08.fixed -/
def F17 : FnC := ⟨0, (.seq (.reg [
  ⟨(.some 0), .none, (.mv (.c (.a (.p (.b false))))), .any⟩]) (.seq (.reg [
  ⟨(.some 4), .none, (.call (.f 29) [(.c (.a (.p (.i .i64 1))))]), .any⟩, 
  ⟨(.some 5), .none, (.call (.f 29) [(.c (.a (.p (.i .i64 0))))]), .any⟩, 
  ⟨(.some 6), .none, (.call (.f 31) [(.t 4), (.t 5)]), .any⟩, 
  ⟨(.some 7), .none, (.call (.f 30) [(.t 6)]), .any⟩, 
  ⟨(.some 1), .none, (.new [(.p (.i .i64 0)), (.p (.i .i64 0)), (.p (.s [])), .nil]), .any⟩, 
  ⟨.none, .none, (.st 4 (.t 1) (.t 7)), .any⟩]) (.seq (.reg [
  ⟨(.some 8), .none, (.build [(.p (.i .i64 0)), (.p (.i .i64 0)), (.p (.s [])), .nil] [(0, (1, (.c (.a (.p (.i .i64 7)))))), (1, (1, (.c (.a (.p (.i .i64 7))))))]), .any⟩, 
  ⟨(.some 2), .none, (.new [(.p (.i .i64 0)), (.p (.i .i64 0)), (.p (.s [])), .nil]), .any⟩, 
  ⟨.none, .none, (.st 4 (.t 2) (.t 8)), .any⟩]) (.seq (.reg [
  ⟨(.some 9), .none, (.call (.f 29) [(.c (.a (.p (.i .i64 2))))]), .any⟩, 
  ⟨(.some 10), .none, (.call (.f 29) [(.c (.a (.p (.i .i64 1))))]), .any⟩, 
  ⟨(.some 11), .none, (.call (.f 31) [(.t 9), (.t 10)]), .any⟩, 
  ⟨(.some 12), .none, (.bsl 4 24 [(.p (.i .i64 0)), (.p (.i .i64 0)), (.p (.s [])), .nil] 1 [(0, (.t 11))]), .any⟩, 
  ⟨(.some 13), .none, (.build [(.p (.i .i64 0)), (.p (.i .i64 0)), (.p (.s [])), .nil] [(0, (1, (.c (.a (.p (.i .i64 6)))))), (2, (1, (.c (.a (.p (.s [65])))))), (1, (1, (.c (.a (.p (.i .i64 2)))))), (3, (1, (.t 12)))]), .any⟩, 
  ⟨(.some 3), .none, (.new [(.p (.i .i64 0)), (.p (.i .i64 0)), (.p (.s [])), .nil]), .any⟩, 
  ⟨.none, .none, (.st 4 (.t 3) (.t 13)), .any⟩]) (.seq (.reg [
  ⟨(.some 14), .none, (.ld 4 true (.t 1)), .rd⟩, 
  ⟨(.some 15), .none, (.ld 4 true (.t 2)), .rd⟩, 
  ⟨(.some 16), .none, (.call (.f 21) [(.t 14), (.c (.a (.p (.i .i64 0)))), (.t 15)]), .any⟩, 
  ⟨(.some 17), .none, (.call (.f 50) [(.t 16)]), .any⟩, 
  ⟨(.some 18), .none, (.bin .eql (.t 17) (.c (.a (.p (.s [40, 92, 32, 40, 64, 32, 55, 32, 35, 48, 41, 41]))))), .any⟩, 
  ⟨(.some 19), .none, (.mv (.t 18)), .any⟩, 
  ⟨(.some 20), (.some (19, true)), (.ld 4 true (.t 1)), .rd⟩, 
  ⟨(.some 21), (.some (19, true)), (.call (.f 29) [(.c (.a (.p (.i .i64 4))))]), .rd⟩, 
  ⟨(.some 22), (.some (19, true)), (.call (.f 21) [(.t 20), (.c (.a (.p (.i .i64 0)))), (.t 21)]), .any⟩, 
  ⟨(.some 23), (.some (19, true)), (.call (.f 50) [(.t 22)]), .any⟩, 
  ⟨(.some 24), (.some (19, true)), (.bin .eql (.t 23) (.c (.a (.p (.s [40, 92, 32, 40, 64, 32, 35, 53, 32, 35, 48, 41, 41]))))), .any⟩, 
  ⟨(.some 25), .none, (.pick (.t 19) (.t 24) (.c (.a (.p (.b false))))), .any⟩, 
  ⟨(.some 26), .none, (.mv (.t 25)), .any⟩, 
  ⟨(.some 27), (.some (26, true)), (.ld 4 true (.t 1)), .any⟩, 
  ⟨(.some 28), (.some (26, true)), (.call (.f 19) [(.t 27), (.c (.a (.p (.i .i64 3)))), (.c (.a (.p (.i .i64 0))))]), .any⟩, 
  ⟨(.some 29), (.some (26, true)), (.call (.f 50) [(.t 28)]), .any⟩, 
  ⟨(.some 30), (.some (26, true)), (.bin .eql (.t 29) (.c (.a (.p (.s [40, 92, 32, 40, 64, 32, 35, 52, 32, 35, 48, 41, 41]))))), .any⟩, 
  ⟨(.some 31), .none, (.pick (.t 26) (.t 30) (.c (.a (.p (.b false))))), .any⟩, 
  ⟨(.some 32), .none, (.mv (.t 31)), .any⟩, 
  ⟨(.some 33), (.some (32, true)), (.ld 4 true (.t 3)), .any⟩, 
  ⟨(.some 34), (.some (32, true)), (.call (.f 19) [(.t 33), (.c (.a (.p (.i .i64 3)))), (.c (.a (.p (.i .i64 0))))]), .any⟩, 
  ⟨(.some 35), (.some (32, true)), (.call (.f 50) [(.t 34)]), .any⟩, 
  ⟨(.some 36), (.some (32, true)), (.bin .eql (.t 35) (.c (.a (.p (.s [40, 65, 58, 50, 32, 40, 64, 32, 35, 53, 32, 35, 49, 41, 41]))))), .any⟩, 
  ⟨(.some 37), .none, (.pick (.t 32) (.t 36) (.c (.a (.p (.b false))))), .any⟩, 
  ⟨(.some 38), .none, (.mv (.t 37)), .any⟩, 
  ⟨(.some 39), (.some (38, true)), (.ld 4 true (.t 1)), .any⟩, 
  ⟨(.some 40), (.some (38, true)), (.call (.f 23) [(.t 39), (.c (.a (.p (.i .i64 0))))]), .any⟩, 
  ⟨(.some 41), (.some (38, true)), (.bin .eql (.t 40) (.c (.a (.p (.i .i64 1))))), .any⟩, 
  ⟨(.some 42), .none, (.pick (.t 38) (.t 41) (.c (.a (.p (.b false))))), .any⟩, 
  ⟨(.some 43), .none, (.mv (.t 42)), .any⟩, 
  ⟨(.some 44), (.some (43, true)), (.ld 4 true (.t 1)), .rd⟩, 
  ⟨(.some 45), (.some (43, true)), (.call (.f 29) [(.c (.a (.p (.i .i64 0))))]), .rd⟩, 
  ⟨(.some 46), (.some (43, true)), (.call (.f 31) [(.t 44), (.t 45)]), .any⟩, 
  ⟨(.some 47), (.some (43, true)), (.call (.f 23) [(.t 46), (.c (.a (.p (.i .i64 0))))]), .any⟩, 
  ⟨(.some 48), (.some (43, true)), (.bin .eql (.t 47) (.c (.a (.p (.i .i64 2))))), .any⟩, 
  ⟨(.some 49), .none, (.pick (.t 43) (.t 48) (.c (.a (.p (.b false))))), .any⟩, 
  ⟨(.some 50), .none, (.mv (.t 49)), .any⟩, 
  ⟨(.some 51), (.some (50, true)), (.call (.f 29) [(.c (.a (.p (.i .i64 0))))]), .rd⟩, 
  ⟨(.some 52), (.some (50, true)), (.call (.f 29) [(.c (.a (.p (.i .i64 1))))]), .rd⟩, 
  ⟨(.some 53), (.some (50, true)), (.call (.f 31) [(.t 51), (.t 52)]), .rd⟩, 
  ⟨(.some 54), (.some (50, true)), (.call (.f 29) [(.c (.a (.p (.i .i64 2))))]), .rd⟩, 
  ⟨(.some 55), (.some (50, true)), (.call (.f 31) [(.t 53), (.t 54)]), .rd⟩, 
  ⟨(.some 56), (.some (50, true)), (.ld 4 true (.t 2)), .rd⟩, 
  ⟨(.some 57), (.some (50, true)), (.ld 4 true (.t 1)), .rd⟩, 
  ⟨(.some 58), (.some (50, true)), (.bsl 4 24 [(.p (.i .i64 0)), (.p (.i .i64 0)), (.p (.s [])), .nil] 2 [(0, (.t 56)), (1, (.t 57))]), .ad⟩, 
  ⟨(.some 59), (.some (50, true)), (.call (.f 25) [(.t 55), (.t 58)]), .any⟩, 
  ⟨(.some 60), (.some (50, true)), (.call (.f 50) [(.t 59)]), .any⟩, 
  ⟨(.some 61), (.some (50, true)), (.bin .eql (.t 60) (.c (.a (.p (.s [40, 64, 32, 40, 64, 32, 40, 92, 32, 40, 64, 32, 35, 49, 32, 35, 48, 41, 41, 32, 55, 41, 32, 35, 48, 41]))))), .any⟩, 
  ⟨(.some 62), .none, (.pick (.t 50) (.t 61) (.c (.a (.p (.b false))))), .any⟩, 
  ⟨(.some 0), .none, (.mv (.t 62)), .any⟩]) .ret))))), [(.tmp 0)]⟩
theorem cc17 : ccF Try.prog [] Try.f17 = some F17 := by kernel_rfl

/- gossamer/gossamerref06.Same -/
def F18b0 : C := (.seq (.seq (.reg [
  ⟨(.some 34), .none, (.mv (.t 5)), .any⟩, 
  ⟨(.some 35), .none, (.fad 3 (.t 2)), .any⟩, 
  ⟨(.some 36), .none, (.ld 1 false (.t 35)), .any⟩, 
  ⟨(.some 37), .none, (.len false (.t 36)), .any⟩, 
  ⟨(.some 38), .none, (.bin .lss (.t 34) (.t 37)), .any⟩]) (.cond (.t 38) .skip (.exit 0))) (.seq (.block 1 (.seq (.reg [
  ⟨(.some 41), .none, (.fad 3 (.t 2)), .rd⟩, 
  ⟨(.some 42), .none, (.ld 1 false (.t 41)), .rd⟩, 
  ⟨(.some 43), .none, (.mv (.t 5)), .rd⟩, 
  ⟨(.some 44), .none, (.ias 4 (.t 42) (.t 43)), .rd⟩, 
  ⟨(.some 45), .none, (.ld 4 true (.t 44)), .rd⟩, 
  ⟨(.some 46), .none, (.fad 3 (.t 3)), .rd⟩, 
  ⟨(.some 47), .none, (.ld 1 false (.t 46)), .rd⟩, 
  ⟨(.some 48), .none, (.mv (.t 5)), .rd⟩, 
  ⟨(.some 49), .none, (.ias 4 (.t 47) (.t 48)), .rd⟩, 
  ⟨(.some 50), .none, (.ld 4 true (.t 49)), .rd⟩, 
  ⟨(.some 51), .none, (.call (.f 18) [(.t 45), (.t 50)]), .any⟩, 
  ⟨(.some 52), .none, (.not (.t 51)), .any⟩]) (.cond (.t 52) (.seq (.reg [
  ⟨(.some 4), .none, (.mv (.c (.a (.p (.b false))))), .any⟩]) .ret) .skip))) (.reg [
  ⟨(.some 39), .none, (.mv (.t 5)), .any⟩, 
  ⟨(.some 40), .none, (.bin .add (.t 39) (.c (.a (.p (.i .i64 1))))), .any⟩, 
  ⟨(.some 5), .none, (.mv (.t 40)), .any⟩])))
def F18 : FnC := ⟨2, (.seq (.reg [
  ⟨(.some 2), .none, (.box 4 (.t 0)), .any⟩, 
  ⟨(.some 3), .none, (.box 4 (.t 1)), .any⟩, 
  ⟨(.some 4), .none, (.mv (.c (.a (.p (.b false))))), .any⟩]) (.seq (.seq (.reg [
  ⟨(.some 6), .none, (.fad 0 (.t 2)), .any⟩, 
  ⟨(.some 7), .none, (.ld 1 false (.t 6)), .any⟩, 
  ⟨(.some 8), .none, (.fad 0 (.t 3)), .any⟩, 
  ⟨(.some 9), .none, (.ld 1 false (.t 8)), .any⟩, 
  ⟨(.some 10), .none, (.bin .neq (.t 7) (.t 9)), .any⟩, 
  ⟨(.some 11), .none, (.mv (.t 10)), .any⟩, 
  ⟨(.some 12), (.some (11, false)), (.fad 2 (.t 2)), .any⟩, 
  ⟨(.some 13), (.some (11, false)), (.ld 1 false (.t 12)), .any⟩, 
  ⟨(.some 14), (.some (11, false)), (.fad 2 (.t 3)), .any⟩, 
  ⟨(.some 15), (.some (11, false)), (.ld 1 false (.t 14)), .any⟩, 
  ⟨(.some 16), (.some (11, false)), (.bin .neq (.t 13) (.t 15)), .any⟩, 
  ⟨(.some 17), .none, (.pick (.t 11) (.c (.a (.p (.b true)))) (.t 16)), .any⟩, 
  ⟨(.some 18), .none, (.mv (.t 17)), .any⟩, 
  ⟨(.some 19), (.some (18, false)), (.fad 1 (.t 2)), .any⟩, 
  ⟨(.some 20), (.some (18, false)), (.ld 1 false (.t 19)), .any⟩, 
  ⟨(.some 21), (.some (18, false)), (.fad 1 (.t 3)), .any⟩, 
  ⟨(.some 22), (.some (18, false)), (.ld 1 false (.t 21)), .any⟩, 
  ⟨(.some 23), (.some (18, false)), (.bin .neq (.t 20) (.t 22)), .any⟩, 
  ⟨(.some 24), .none, (.pick (.t 18) (.c (.a (.p (.b true)))) (.t 23)), .any⟩, 
  ⟨(.some 25), .none, (.mv (.t 24)), .any⟩, 
  ⟨(.some 26), (.some (25, false)), (.fad 3 (.t 2)), .any⟩, 
  ⟨(.some 27), (.some (25, false)), (.ld 1 false (.t 26)), .any⟩, 
  ⟨(.some 28), (.some (25, false)), (.len false (.t 27)), .any⟩, 
  ⟨(.some 29), (.some (25, false)), (.fad 3 (.t 3)), .any⟩, 
  ⟨(.some 30), (.some (25, false)), (.ld 1 false (.t 29)), .any⟩, 
  ⟨(.some 31), (.some (25, false)), (.len false (.t 30)), .any⟩, 
  ⟨(.some 32), (.some (25, false)), (.bin .neq (.t 28) (.t 31)), .any⟩, 
  ⟨(.some 33), .none, (.pick (.t 25) (.c (.a (.p (.b true)))) (.t 32)), .any⟩]) (.cond (.t 33) (.seq (.reg [
  ⟨(.some 4), .none, (.mv (.c (.a (.p (.b false))))), .any⟩]) .ret) .skip)) (.seq (.seq (.reg [
  ⟨(.some 5), .none, (.mv (.c (.a (.p (.i .i64 0))))), .any⟩]) (.block 0 (.loop F18b0))) (.seq (.reg [
  ⟨(.some 4), .none, (.mv (.c (.a (.p (.b true))))), .any⟩]) .ret)))), [(.tmp 4)]⟩
theorem cc18 : ccF Try.prog [] Try.f18 = some F18 := by kernel_rfl

/- gossamer/subst.Up -/
def F19 : FnC := ⟨3, (.seq (.reg [
  ⟨(.some 3), .none, (.box 4 (.t 0)), .any⟩, 
  ⟨(.some 4), .none, (.box 1 (.t 1)), .any⟩, 
  ⟨(.some 5), .none, (.box 1 (.t 2)), .any⟩, 
  ⟨(.some 6), .none, (.new [(.p (.i .i64 0)), (.p (.i .i64 0)), (.p (.s [])), .nil]), .any⟩]) (.seq (.reg [
  ⟨(.some 7), .none, (.ld 4 true (.t 3)), .any⟩, 
  ⟨(.some 8), .none, (.fn 52 [(.t 5), (.t 4)]), .any⟩, 
  ⟨(.some 9), .none, (.call (.f 51) [(.t 7), (.c (.a (.p (.i .i64 0)))), (.t 8)]), .any⟩, 
  ⟨.none, .none, (.st 4 (.t 6) (.t 9)), .any⟩]) .ret)), [(.cell 6 4 true)]⟩
theorem cc19 : ccF Try.prog [] Try.f19 = some F19 := by kernel_rfl

/- gossamer/gossamerref08.Up -/
def F20b0 : C := (.seq (.seq (.reg [
  ⟨(.some 29), .none, (.mv (.t 8)), .any⟩, 
  ⟨(.some 30), .none, (.fad 3 (.t 3)), .any⟩, 
  ⟨(.some 31), .none, (.ld 1 false (.t 30)), .any⟩, 
  ⟨(.some 32), .none, (.len false (.t 31)), .any⟩, 
  ⟨(.some 33), .none, (.bin .lss (.t 29) (.t 32)), .any⟩]) (.cond (.t 33) .skip (.exit 0))) (.seq (.block 1 (.reg [
  ⟨(.some 36), .none, (.fad 3 (.t 7)), .rd⟩, 
  ⟨(.some 37), .none, (.ld 1 false (.t 36)), .rd⟩, 
  ⟨(.some 38), .none, (.fad 3 (.t 3)), .rd⟩, 
  ⟨(.some 39), .none, (.ld 1 false (.t 38)), .rd⟩, 
  ⟨(.some 40), .none, (.mv (.t 8)), .rd⟩, 
  ⟨(.some 41), .none, (.ias 4 (.t 39) (.t 40)), .rd⟩, 
  ⟨(.some 42), .none, (.ld 4 true (.t 41)), .rd⟩, 
  ⟨(.some 43), .none, (.mv (.t 1)), .rd⟩, 
  ⟨(.some 44), .none, (.mv (.t 2)), .rd⟩, 
  ⟨(.some 45), .none, (.ld 4 true (.t 3)), .rd⟩, 
  ⟨(.some 46), .none, (.call (.f 54) [(.t 45)]), .rd⟩, 
  ⟨(.some 47), .none, (.bin .add (.t 44) (.t 46)), .rd⟩, 
  ⟨(.some 48), .none, (.call (.f 20) [(.t 42), (.t 43), (.t 47)]), .rd⟩, 
  ⟨(.some 49), .none, (.bsl 4 24 [(.p (.i .i64 0)), (.p (.i .i64 0)), (.p (.s [])), .nil] 1 [(0, (.t 48))]), .ad⟩, 
  ⟨(.some 50), .none, (.app 4 24 56 (.t 37) (.t 49)), .any⟩, 
  ⟨(.some 51), .none, (.fad 3 (.t 7)), .any⟩, 
  ⟨.none, .none, (.st 1 (.t 51) (.t 50)), .any⟩])) (.reg [
  ⟨(.some 34), .none, (.mv (.t 8)), .any⟩, 
  ⟨(.some 35), .none, (.bin .add (.t 34) (.c (.a (.p (.i .i64 1))))), .any⟩, 
  ⟨(.some 8), .none, (.mv (.t 35)), .any⟩])))
def F20 : FnC := ⟨3, (.seq (.reg [
  ⟨(.some 3), .none, (.box 4 (.t 0)), .any⟩, 
  ⟨(.some 6), .none, (.new [(.p (.i .i64 0)), (.p (.i .i64 0)), (.p (.s [])), .nil]), .any⟩]) (.seq (.seq (.reg [
  ⟨(.some 9), .none, (.fad 0 (.t 3)), .any⟩, 
  ⟨(.some 10), .none, (.ld 1 false (.t 9)), .any⟩, 
  ⟨(.some 11), .none, (.bin .eql (.t 10) (.c (.a (.p (.i .i64 1))))), .any⟩]) (.cond (.t 11) (.seq (.seq (.reg [
  ⟨(.some 12), .none, (.fad 1 (.t 3)), .any⟩, 
  ⟨(.some 13), .none, (.ld 1 false (.t 12)), .any⟩, 
  ⟨(.some 14), .none, (.mv (.t 2)), .any⟩, 
  ⟨(.some 15), .none, (.bin .geq (.t 13) (.t 14)), .any⟩]) (.cond (.t 15) (.reg [
  ⟨(.some 16), .none, (.fad 1 (.t 3)), .any⟩, 
  ⟨(.some 17), .none, (.ld 1 false (.t 16)), .any⟩, 
  ⟨(.some 18), .none, (.mv (.t 1)), .any⟩, 
  ⟨(.some 19), .none, (.bin .add (.t 17) (.t 18)), .any⟩, 
  ⟨(.some 20), .none, (.fad 1 (.t 3)), .any⟩, 
  ⟨.none, .none, (.st 1 (.t 20) (.t 19)), .any⟩]) .skip)) (.seq (.reg [
  ⟨(.some 21), .none, (.ld 4 true (.t 3)), .any⟩, 
  ⟨.none, .none, (.st 4 (.t 6) (.t 21)), .any⟩]) .ret)) .skip)) (.seq (.reg [
  ⟨(.some 22), .none, (.fad 0 (.t 3)), .any⟩, 
  ⟨(.some 23), .none, (.ld 1 false (.t 22)), .any⟩, 
  ⟨(.some 24), .none, (.fad 1 (.t 3)), .any⟩, 
  ⟨(.some 25), .none, (.ld 1 false (.t 24)), .any⟩, 
  ⟨(.some 26), .none, (.fad 2 (.t 3)), .any⟩, 
  ⟨(.some 27), .none, (.ld 1 false (.t 26)), .any⟩, 
  ⟨(.some 28), .none, (.build [(.p (.i .i64 0)), (.p (.i .i64 0)), (.p (.s [])), .nil] [(0, (1, (.t 23))), (1, (1, (.t 25))), (2, (1, (.t 27)))]), .any⟩, 
  ⟨(.some 7), .none, (.new [(.p (.i .i64 0)), (.p (.i .i64 0)), (.p (.s [])), .nil]), .any⟩, 
  ⟨.none, .none, (.st 4 (.t 7) (.t 28)), .any⟩]) (.seq (.seq (.reg [
  ⟨(.some 8), .none, (.mv (.c (.a (.p (.i .i64 0))))), .any⟩]) (.block 0 (.loop F20b0))) (.seq (.reg [
  ⟨(.some 52), .none, (.ld 4 true (.t 7)), .any⟩, 
  ⟨.none, .none, (.st 4 (.t 6) (.t 52)), .any⟩]) .ret))))), [(.cell 6 4 true)]⟩
theorem cc20 : ccF Try.prog [] Try.f20 = some F20 := by kernel_rfl

/- gossamer/subst.Put -/
def F21 : FnC := ⟨3, (.seq (.reg [
  ⟨(.some 3), .none, (.box 4 (.t 0)), .any⟩, 
  ⟨(.some 4), .none, (.box 1 (.t 1)), .any⟩, 
  ⟨(.some 5), .none, (.box 4 (.t 2)), .any⟩, 
  ⟨(.some 6), .none, (.new [(.p (.i .i64 0)), (.p (.i .i64 0)), (.p (.s [])), .nil]), .any⟩]) (.seq (.reg [
  ⟨(.some 7), .none, (.ld 4 true (.t 3)), .any⟩, 
  ⟨(.some 8), .none, (.fn 55 [(.t 4), (.t 5)]), .any⟩, 
  ⟨(.some 9), .none, (.call (.f 51) [(.t 7), (.c (.a (.p (.i .i64 0)))), (.t 8)]), .any⟩, 
  ⟨.none, .none, (.st 4 (.t 6) (.t 9)), .any⟩]) .ret)), [(.cell 6 4 true)]⟩
theorem cc21 : ccF Try.prog [] Try.f21 = some F21 := by kernel_rfl

/- gossamer/gossamerref08.Put -/
def F22 : FnC := ⟨3, (.seq (.reg [
  ⟨(.some 3), .none, (.box 4 (.t 0)), .any⟩, 
  ⟨(.some 5), .none, (.box 4 (.t 2)), .any⟩, 
  ⟨(.some 6), .none, (.new [(.p (.i .i64 0)), (.p (.i .i64 0)), (.p (.s [])), .nil]), .any⟩]) (.seq (.reg [
  ⟨(.some 7), .none, (.ld 4 true (.t 3)), .any⟩, 
  ⟨(.some 8), .none, (.mv (.t 1)), .any⟩, 
  ⟨(.some 9), .none, (.ld 4 true (.t 5)), .any⟩, 
  ⟨(.some 10), .none, (.call (.f 56) [(.t 7), (.t 8), (.t 9), (.c (.a (.p (.i .i64 0))))]), .any⟩, 
  ⟨.none, .none, (.st 4 (.t 6) (.t 10)), .any⟩]) .ret)), [(.cell 6 4 true)]⟩
theorem cc22 : ccF Try.prog [] Try.f22 = some F22 := by kernel_rfl

/- gossamer/subst.Uses -/
def F23 : FnC := ⟨2, (.seq (.reg [
  ⟨(.some 2), .none, (.box 4 (.t 0)), .any⟩, 
  ⟨(.some 3), .none, (.box 1 (.t 1)), .any⟩, 
  ⟨(.some 4), .none, (.mv (.c (.a (.p (.i .i64 0))))), .any⟩]) (.seq (.reg [
  ⟨(.some 5), .none, (.new [(.p (.i .i64 0))]), .any⟩, 
  ⟨.none, .none, (.st 1 (.t 5) (.c (.a (.p (.i .i64 0))))), .any⟩]) (.seq (.reg [
  ⟨(.some 6), .none, (.ld 4 true (.t 2)), .any⟩, 
  ⟨(.some 7), .none, (.fn 57 [(.t 3), (.t 5)]), .any⟩, 
  ⟨(.some 8), .none, (.call (.f 51) [(.t 6), (.c (.a (.p (.i .i64 0)))), (.t 7)]), .any⟩]) (.seq (.reg [
  ⟨(.some 9), .none, (.ld 1 false (.t 5)), .any⟩, 
  ⟨(.some 4), .none, (.mv (.t 9)), .any⟩]) .ret)))), [(.tmp 4)]⟩
theorem cc23 : ccF Try.prog [] Try.f23 = some F23 := by kernel_rfl

/- gossamer/gossamerref08.Uses -/
def F24b0 : C := (.seq (.seq (.reg [
  ⟨(.some 14), .none, (.mv (.t 6)), .any⟩, 
  ⟨(.some 15), .none, (.fad 3 (.t 2)), .any⟩, 
  ⟨(.some 16), .none, (.ld 1 false (.t 15)), .any⟩, 
  ⟨(.some 17), .none, (.len false (.t 16)), .any⟩, 
  ⟨(.some 18), .none, (.bin .lss (.t 14) (.t 17)), .any⟩]) (.cond (.t 18) .skip (.exit 0))) (.seq (.block 1 (.reg [
  ⟨(.some 21), .none, (.mv (.t 5)), .rd⟩, 
  ⟨(.some 22), .none, (.fad 3 (.t 2)), .rd⟩, 
  ⟨(.some 23), .none, (.ld 1 false (.t 22)), .rd⟩, 
  ⟨(.some 24), .none, (.mv (.t 6)), .rd⟩, 
  ⟨(.some 25), .none, (.ias 4 (.t 23) (.t 24)), .rd⟩, 
  ⟨(.some 26), .none, (.ld 4 true (.t 25)), .rd⟩, 
  ⟨(.some 27), .none, (.mv (.t 1)), .rd⟩, 
  ⟨(.some 28), .none, (.ld 4 true (.t 2)), .rd⟩, 
  ⟨(.some 29), .none, (.call (.f 54) [(.t 28)]), .rd⟩, 
  ⟨(.some 30), .none, (.bin .add (.t 27) (.t 29)), .rd⟩, 
  ⟨(.some 31), .none, (.call (.f 24) [(.t 26), (.t 30)]), .rd⟩, 
  ⟨(.some 32), .none, (.bin .add (.t 21) (.t 31)), .any⟩, 
  ⟨(.some 5), .none, (.mv (.t 32)), .any⟩])) (.reg [
  ⟨(.some 19), .none, (.mv (.t 6)), .any⟩, 
  ⟨(.some 20), .none, (.bin .add (.t 19) (.c (.a (.p (.i .i64 1))))), .any⟩, 
  ⟨(.some 6), .none, (.mv (.t 20)), .any⟩])))
def F24 : FnC := ⟨2, (.seq (.reg [
  ⟨(.some 2), .none, (.box 4 (.t 0)), .any⟩, 
  ⟨(.some 4), .none, (.mv (.c (.a (.p (.i .i64 0))))), .any⟩]) (.seq (.seq (.reg [
  ⟨(.some 7), .none, (.fad 0 (.t 2)), .any⟩, 
  ⟨(.some 8), .none, (.ld 1 false (.t 7)), .any⟩, 
  ⟨(.some 9), .none, (.bin .eql (.t 8) (.c (.a (.p (.i .i64 1))))), .any⟩]) (.cond (.t 9) (.seq (.seq (.reg [
  ⟨(.some 10), .none, (.fad 1 (.t 2)), .any⟩, 
  ⟨(.some 11), .none, (.ld 1 false (.t 10)), .any⟩, 
  ⟨(.some 12), .none, (.mv (.t 1)), .any⟩, 
  ⟨(.some 13), .none, (.bin .eql (.t 11) (.t 12)), .any⟩]) (.cond (.t 13) (.seq (.reg [
  ⟨(.some 4), .none, (.mv (.c (.a (.p (.i .i64 1))))), .any⟩]) .ret) .skip)) (.seq (.reg [
  ⟨(.some 4), .none, (.mv (.c (.a (.p (.i .i64 0))))), .any⟩]) .ret)) .skip)) (.seq (.reg [
  ⟨(.some 5), .none, (.mv (.c (.a (.p (.i .i64 0))))), .any⟩]) (.seq (.seq (.reg [
  ⟨(.some 6), .none, (.mv (.c (.a (.p (.i .i64 0))))), .any⟩]) (.block 0 (.loop F24b0))) (.seq (.reg [
  ⟨(.some 33), .none, (.mv (.t 5)), .any⟩, 
  ⟨(.some 4), .none, (.mv (.t 33)), .any⟩]) .ret))))), [(.tmp 4)]⟩
theorem cc24 : ccF Try.prog [] Try.f24 = some F24 := by kernel_rfl

/- gossamer/subst.Inst -/
def F25 : FnC := ⟨2, (.seq (.reg [
  ⟨(.some 2), .none, (.box 4 (.t 0)), .any⟩, 
  ⟨(.some 3), .none, (.box 1 (.t 1)), .any⟩, 
  ⟨(.some 4), .none, (.new [(.p (.i .i64 0)), (.p (.i .i64 0)), (.p (.s [])), .nil]), .any⟩]) (.seq (.reg [
  ⟨(.some 5), .none, (.ld 4 true (.t 2)), .any⟩, 
  ⟨(.some 6), .none, (.fn 58 [(.t 3)]), .any⟩, 
  ⟨(.some 7), .none, (.call (.f 51) [(.t 5), (.c (.a (.p (.i .i64 0)))), (.t 6)]), .any⟩, 
  ⟨.none, .none, (.st 4 (.t 4) (.t 7)), .any⟩]) .ret)), [(.cell 4 4 true)]⟩
theorem cc25 : ccF Try.prog [] Try.f25 = some F25 := by kernel_rfl

/- gossamer/gossamerref08.Inst -/
def F26 : FnC := ⟨2, (.seq (.reg [
  ⟨(.some 2), .none, (.box 4 (.t 0)), .any⟩, 
  ⟨(.some 4), .none, (.new [(.p (.i .i64 0)), (.p (.i .i64 0)), (.p (.s [])), .nil]), .any⟩]) (.seq (.reg [
  ⟨(.some 5), .none, (.ld 4 true (.t 2)), .any⟩, 
  ⟨(.some 6), .none, (.mv (.t 1)), .any⟩, 
  ⟨(.some 7), .none, (.call (.f 59) [(.t 5), (.t 6), (.c (.a (.p (.i .i64 0))))]), .any⟩, 
  ⟨.none, .none, (.st 4 (.t 4) (.t 7)), .any⟩]) .ret)), [(.cell 4 4 true)]⟩
theorem cc26 : ccF Try.prog [] Try.f26 = some F26 := by kernel_rfl

/- gossamer/gossamerref06.May -/
def F27 : FnC := ⟨2, (.seq (.reg [
  ⟨(.some 2), .none, (.box 4 (.t 0)), .any⟩, 
  ⟨(.some 4), .none, (.mv (.c (.a (.p (.b false))))), .any⟩]) (.seq (.reg [
  ⟨(.some 5), .none, (.ld 4 true (.t 2)), .any⟩, 
  ⟨(.some 6), .none, (.mv (.t 1)), .any⟩, 
  ⟨(.some 7), .none, (.call (.f 60) [(.t 5), (.t 6), (.c (.a (.p (.b false))))]), .any⟩, 
  ⟨(.some 4), .none, (.mv (.t 7)), .any⟩]) .ret)), [(.tmp 4)]⟩
theorem cc27 : ccF Try.prog [] Try.f27 = some F27 := by kernel_rfl

/- gossamer/gossamerref06.Size -/
def F28b0 : C := (.seq (.seq (.reg [
  ⟨(.some 5), .none, (.mv (.t 4)), .any⟩, 
  ⟨(.some 6), .none, (.fad 3 (.t 1)), .any⟩, 
  ⟨(.some 7), .none, (.ld 1 false (.t 6)), .any⟩, 
  ⟨(.some 8), .none, (.len false (.t 7)), .any⟩, 
  ⟨(.some 9), .none, (.bin .lss (.t 5) (.t 8)), .any⟩]) (.cond (.t 9) .skip (.exit 0))) (.seq (.block 1 (.reg [
  ⟨(.some 12), .none, (.mv (.t 3)), .any⟩, 
  ⟨(.some 13), .none, (.fad 3 (.t 1)), .any⟩, 
  ⟨(.some 14), .none, (.ld 1 false (.t 13)), .any⟩, 
  ⟨(.some 15), .none, (.mv (.t 4)), .any⟩, 
  ⟨(.some 16), .none, (.ias 4 (.t 14) (.t 15)), .any⟩, 
  ⟨(.some 17), .none, (.ld 4 true (.t 16)), .any⟩, 
  ⟨(.some 18), .none, (.call (.f 28) [(.t 17)]), .any⟩, 
  ⟨(.some 19), .none, (.bin .add (.t 12) (.t 18)), .any⟩, 
  ⟨(.some 3), .none, (.mv (.t 19)), .any⟩])) (.reg [
  ⟨(.some 10), .none, (.mv (.t 4)), .any⟩, 
  ⟨(.some 11), .none, (.bin .add (.t 10) (.c (.a (.p (.i .i64 1))))), .any⟩, 
  ⟨(.some 4), .none, (.mv (.t 11)), .any⟩])))
def F28 : FnC := ⟨1, (.seq (.reg [
  ⟨(.some 1), .none, (.box 4 (.t 0)), .any⟩, 
  ⟨(.some 2), .none, (.mv (.c (.a (.p (.i .i64 0))))), .any⟩]) (.seq (.reg [
  ⟨(.some 3), .none, (.mv (.c (.a (.p (.i .i64 1))))), .any⟩]) (.seq (.seq (.reg [
  ⟨(.some 4), .none, (.mv (.c (.a (.p (.i .i64 0))))), .any⟩]) (.block 0 (.loop F28b0))) (.seq (.reg [
  ⟨(.some 20), .none, (.mv (.t 3)), .any⟩, 
  ⟨(.some 2), .none, (.mv (.t 20)), .any⟩]) .ret)))), [(.tmp 2)]⟩
theorem cc28 : ccF Try.prog [] Try.f28 = some F28 := by kernel_rfl

/- gossamer/gossamerlaw08.v -/
def F29 : FnC := ⟨1, (.seq (.reg [
  ⟨(.some 2), .none, (.new [(.p (.i .i64 0)), (.p (.i .i64 0)), (.p (.s [])), .nil]), .any⟩]) (.seq (.reg [
  ⟨(.some 3), .none, (.mv (.t 0)), .any⟩, 
  ⟨(.some 4), .none, (.build [(.p (.i .i64 0)), (.p (.i .i64 0)), (.p (.s [])), .nil] [(0, (1, (.c (.a (.p (.i .i64 1)))))), (1, (1, (.t 3)))]), .any⟩, 
  ⟨.none, .none, (.st 4 (.t 2) (.t 4)), .any⟩]) .ret)), [(.cell 2 4 true)]⟩
theorem cc29 : ccF Try.prog [] Try.f29 = some F29 := by kernel_rfl

/- gossamer/gossamerlaw08.lam -/
def F30 : FnC := ⟨1, (.seq (.reg [
  ⟨(.some 1), .none, (.box 4 (.t 0)), .any⟩, 
  ⟨(.some 2), .none, (.new [(.p (.i .i64 0)), (.p (.i .i64 0)), (.p (.s [])), .nil]), .any⟩]) (.seq (.reg [
  ⟨(.some 3), .none, (.ld 4 true (.t 1)), .any⟩, 
  ⟨(.some 4), .none, (.bsl 4 24 [(.p (.i .i64 0)), (.p (.i .i64 0)), (.p (.s [])), .nil] 1 [(0, (.t 3))]), .any⟩, 
  ⟨(.some 5), .none, (.build [(.p (.i .i64 0)), (.p (.i .i64 0)), (.p (.s [])), .nil] [(0, (1, (.c (.a (.p (.i .i64 2)))))), (3, (1, (.t 4)))]), .any⟩, 
  ⟨.none, .none, (.st 4 (.t 2) (.t 5)), .any⟩]) .ret)), [(.cell 2 4 true)]⟩
theorem cc30 : ccF Try.prog [] Try.f30 = some F30 := by kernel_rfl

/- gossamer/gossamerlaw08.app -/
def F31 : FnC := ⟨2, (.seq (.reg [
  ⟨(.some 2), .none, (.box 4 (.t 0)), .any⟩, 
  ⟨(.some 3), .none, (.box 4 (.t 1)), .any⟩, 
  ⟨(.some 4), .none, (.new [(.p (.i .i64 0)), (.p (.i .i64 0)), (.p (.s [])), .nil]), .any⟩]) (.seq (.reg [
  ⟨(.some 5), .none, (.ld 4 true (.t 2)), .any⟩, 
  ⟨(.some 6), .none, (.ld 4 true (.t 3)), .any⟩, 
  ⟨(.some 7), .none, (.bsl 4 24 [(.p (.i .i64 0)), (.p (.i .i64 0)), (.p (.s [])), .nil] 2 [(0, (.t 5)), (1, (.t 6))]), .any⟩, 
  ⟨(.some 8), .none, (.build [(.p (.i .i64 0)), (.p (.i .i64 0)), (.p (.s [])), .nil] [(0, (1, (.c (.a (.p (.i .i64 3)))))), (3, (1, (.t 7)))]), .any⟩, 
  ⟨.none, .none, (.st 4 (.t 4) (.t 8)), .any⟩]) .ret)), [(.cell 4 4 true)]⟩
theorem cc31 : ccF Try.prog [] Try.f31 = some F31 := by kernel_rfl

/- gossamer/gossamerref06.few -/
def F49b0 : C := (.seq (.seq (.reg [
  ⟨(.some 16), .none, (.mv (.t 7)), .any⟩, 
  ⟨(.some 17), .none, (.fad 3 (.t 3)), .any⟩, 
  ⟨(.some 18), .none, (.ld 1 false (.t 17)), .any⟩, 
  ⟨(.some 19), .none, (.len false (.t 18)), .any⟩, 
  ⟨(.some 20), .none, (.bin .lss (.t 16) (.t 19)), .any⟩]) (.cond (.t 20) .skip (.exit 0))) (.seq (.block 1 (.seq (.reg [
  ⟨(.some 23), .none, (.fad 3 (.t 3)), .any⟩, 
  ⟨(.some 24), .none, (.ld 1 false (.t 23)), .any⟩, 
  ⟨(.some 25), .none, (.mv (.t 7)), .any⟩, 
  ⟨(.some 26), .none, (.ias 4 (.t 24) (.t 25)), .any⟩, 
  ⟨(.some 27), .none, (.ld 4 true (.t 26)), .any⟩, 
  ⟨(.some 28), .none, (.mv (.t 1)), .any⟩, 
  ⟨(.some 29), .none, (.mv (.t 2)), .any⟩, 
  ⟨(.some 30), .none, (.bin .sub (.t 29) (.c (.a (.p (.i .i64 1))))), .any⟩, 
  ⟨(.some 31), .none, (.call (.f 49) [(.t 27), (.t 28), (.t 30)]), .any⟩, 
  ⟨(.some 1), .none, (.mv (.t 31)), .any⟩]) (.seq (.reg [
  ⟨(.some 32), .none, (.mv (.t 1)), .any⟩, 
  ⟨(.some 33), .none, (.bin .lss (.t 32) (.c (.a (.p (.i .i64 0))))), .any⟩]) (.cond (.t 33) (.seq (.reg [
  ⟨(.some 6), .none, (.mv (.c (.a (.p (.i .i64 (-1)))))), .any⟩]) .ret) .skip)))) (.reg [
  ⟨(.some 21), .none, (.mv (.t 7)), .any⟩, 
  ⟨(.some 22), .none, (.bin .add (.t 21) (.c (.a (.p (.i .i64 1))))), .any⟩, 
  ⟨(.some 7), .none, (.mv (.t 22)), .any⟩])))
def F49 : FnC := ⟨3, (.seq (.reg [
  ⟨(.some 3), .none, (.box 4 (.t 0)), .any⟩, 
  ⟨(.some 6), .none, (.mv (.c (.a (.p (.i .i64 0))))), .any⟩]) (.seq (.seq (.reg [
  ⟨(.some 8), .none, (.mv (.t 1)), .any⟩, 
  ⟨(.some 9), .none, (.bin .lss (.t 8) (.c (.a (.p (.i .i64 1))))), .any⟩, 
  ⟨(.some 10), .none, (.mv (.t 9)), .any⟩, 
  ⟨(.some 11), (.some (10, false)), (.mv (.t 2)), .any⟩, 
  ⟨(.some 12), (.some (10, false)), (.bin .lss (.t 11) (.c (.a (.p (.i .i64 1))))), .any⟩, 
  ⟨(.some 13), .none, (.pick (.t 10) (.c (.a (.p (.b true)))) (.t 12)), .any⟩]) (.cond (.t 13) (.seq (.reg [
  ⟨(.some 6), .none, (.mv (.c (.a (.p (.i .i64 (-1)))))), .any⟩]) .ret) .skip)) (.seq (.reg [
  ⟨(.some 14), .none, (.mv (.t 1)), .any⟩, 
  ⟨(.some 15), .none, (.bin .sub (.t 14) (.c (.a (.p (.i .i64 1))))), .any⟩, 
  ⟨(.some 1), .none, (.mv (.t 15)), .any⟩]) (.seq (.seq (.reg [
  ⟨(.some 7), .none, (.mv (.c (.a (.p (.i .i64 0))))), .any⟩]) (.block 0 (.loop F49b0))) (.seq (.reg [
  ⟨(.some 34), .none, (.mv (.t 1)), .any⟩, 
  ⟨(.some 6), .none, (.mv (.t 34)), .any⟩]) .ret))))), [(.tmp 6)]⟩
theorem cc49 : ccF Try.prog [] Try.f49 = some F49 := by kernel_rfl

/- gossamer/gossamerref06.Text -/
def F50b0 : C := (.seq (.seq (.reg [
  ⟨(.some 40), .none, (.mv (.t 4)), .any⟩, 
  ⟨(.some 41), .none, (.fad 3 (.t 1)), .any⟩, 
  ⟨(.some 42), .none, (.ld 1 false (.t 41)), .any⟩, 
  ⟨(.some 43), .none, (.len false (.t 42)), .any⟩, 
  ⟨(.some 44), .none, (.bin .lss (.t 40) (.t 43)), .any⟩]) (.cond (.t 44) .skip (.exit 1))) (.seq (.block 2 (.reg [
  ⟨(.some 47), .none, (.mv (.t 3)), .any⟩, 
  ⟨(.some 48), .none, (.fad 3 (.t 1)), .any⟩, 
  ⟨(.some 49), .none, (.ld 1 false (.t 48)), .any⟩, 
  ⟨(.some 50), .none, (.mv (.t 4)), .any⟩, 
  ⟨(.some 51), .none, (.ias 4 (.t 49) (.t 50)), .any⟩, 
  ⟨(.some 52), .none, (.ld 4 true (.t 51)), .any⟩, 
  ⟨(.some 53), .none, (.call (.f 50) [(.t 52)]), .any⟩, 
  ⟨(.some 54), .none, (.bin .add (.c (.a (.p (.s [32])))) (.t 53)), .any⟩, 
  ⟨(.some 55), .none, (.bin .add (.t 47) (.t 54)), .any⟩, 
  ⟨(.some 3), .none, (.mv (.t 55)), .any⟩])) (.reg [
  ⟨(.some 45), .none, (.mv (.t 4)), .any⟩, 
  ⟨(.some 46), .none, (.bin .add (.t 45) (.c (.a (.p (.i .i64 1))))), .any⟩, 
  ⟨(.some 4), .none, (.mv (.t 46)), .any⟩])))
def F50 : FnC := ⟨1, (.seq (.reg [
  ⟨(.some 1), .none, (.box 4 (.t 0)), .any⟩, 
  ⟨(.some 2), .none, (.mv (.c (.a (.p (.s []))))), .any⟩]) (.seq (.reg [
  ⟨(.some 3), .none, (.mv (.c (.a (.p (.s []))))), .any⟩]) (.seq (.seq (.reg [
  ⟨(.some 5), .none, (.fad 0 (.t 1)), .any⟩, 
  ⟨(.some 6), .none, (.ld 1 false (.t 5)), .any⟩]) (.block 0 (.seq (.reg [
  ⟨(.some 8), .none, (.bin .eql (.t 6) (.c (.a (.p (.i .i64 1))))), .any⟩, 
  ⟨(.some 7), .none, (.mv (.t 8)), .any⟩]) (.cond (.t 7) (.seq (.reg [
  ⟨(.some 9), .none, (.fad 1 (.t 1)), .any⟩, 
  ⟨(.some 10), .none, (.ld 1 false (.t 9)), .any⟩, 
  ⟨(.some 11), .none, (.call (.f 69) [(.t 10)]), .any⟩, 
  ⟨(.some 12), .none, (.bin .add (.c (.a (.p (.s [35])))) (.t 11)), .any⟩, 
  ⟨(.some 2), .none, (.mv (.t 12)), .any⟩]) .ret) (.seq (.reg [
  ⟨(.some 14), .none, (.bin .eql (.t 6) (.c (.a (.p (.i .i64 7))))), .any⟩, 
  ⟨(.some 13), .none, (.mv (.t 14)), .any⟩]) (.cond (.t 13) (.seq (.reg [
  ⟨(.some 15), .none, (.fad 1 (.t 1)), .any⟩, 
  ⟨(.some 16), .none, (.ld 1 false (.t 15)), .any⟩, 
  ⟨(.some 17), .none, (.call (.f 69) [(.t 16)]), .any⟩, 
  ⟨(.some 2), .none, (.mv (.t 17)), .any⟩]) .ret) (.seq (.reg [
  ⟨(.some 19), .none, (.bin .eql (.t 6) (.c (.a (.p (.i .i64 9))))), .any⟩, 
  ⟨(.some 18), .none, (.mv (.t 19)), .any⟩]) (.cond (.t 18) (.seq (.reg [
  ⟨(.some 2), .none, (.mv (.c (.a (.p (.s [33]))))), .any⟩]) .ret) (.seq (.reg [
  ⟨(.some 21), .none, (.bin .eql (.t 6) (.c (.a (.p (.i .i64 2))))), .any⟩, 
  ⟨(.some 20), .none, (.mv (.t 21)), .any⟩]) (.cond (.t 20) (.reg [
  ⟨(.some 3), .none, (.mv (.c (.a (.p (.s [92]))))), .any⟩]) (.seq (.reg [
  ⟨(.some 23), .none, (.bin .eql (.t 6) (.c (.a (.p (.i .i64 3))))), .any⟩, 
  ⟨(.some 22), .none, (.mv (.t 23)), .any⟩]) (.cond (.t 22) (.reg [
  ⟨(.some 3), .none, (.mv (.c (.a (.p (.s [64]))))), .any⟩]) (.seq (.reg [
  ⟨(.some 25), .none, (.bin .eql (.t 6) (.c (.a (.p (.i .i64 5))))), .any⟩, 
  ⟨(.some 24), .none, (.mv (.t 25)), .any⟩]) (.cond (.t 24) (.reg [
  ⟨(.some 3), .none, (.mv (.c (.a (.p (.s [63]))))), .any⟩]) (.seq (.seq (.reg [
  ⟨(.some 27), .none, (.bin .eql (.t 6) (.c (.a (.p (.i .i64 4))))), .any⟩, 
  ⟨(.some 26), .none, (.mv (.t 27)), .any⟩]) (.cond (.t 26) .skip (.reg [
  ⟨(.some 28), .none, (.bin .eql (.t 6) (.c (.a (.p (.i .i64 8))))), .any⟩, 
  ⟨(.some 26), .none, (.mv (.t 28)), .any⟩]))) (.cond (.t 26) (.reg [
  ⟨(.some 29), .none, (.fad 2 (.t 1)), .any⟩, 
  ⟨(.some 30), .none, (.ld 1 false (.t 29)), .any⟩, 
  ⟨(.some 3), .none, (.mv (.t 30)), .any⟩]) (.seq (.reg [
  ⟨(.some 32), .none, (.bin .eql (.t 6) (.c (.a (.p (.i .i64 6))))), .any⟩, 
  ⟨(.some 31), .none, (.mv (.t 32)), .any⟩]) (.cond (.t 31) (.reg [
  ⟨(.some 33), .none, (.fad 2 (.t 1)), .rd⟩, 
  ⟨(.some 34), .none, (.ld 1 false (.t 33)), .rd⟩, 
  ⟨(.some 35), .none, (.bin .add (.t 34) (.c (.a (.p (.s [58]))))), .rd⟩, 
  ⟨(.some 36), .none, (.fad 1 (.t 1)), .rd⟩, 
  ⟨(.some 37), .none, (.ld 1 false (.t 36)), .rd⟩, 
  ⟨(.some 38), .none, (.call (.f 69) [(.t 37)]), .rd⟩, 
  ⟨(.some 39), .none, (.bin .add (.t 35) (.t 38)), .any⟩, 
  ⟨(.some 3), .none, (.mv (.t 39)), .any⟩]) .skip)))))))))))))))))) (.seq (.seq (.reg [
  ⟨(.some 4), .none, (.mv (.c (.a (.p (.i .i64 0))))), .any⟩]) (.block 1 (.loop F50b0))) (.seq (.reg [
  ⟨(.some 56), .none, (.mv (.t 3)), .any⟩, 
  ⟨(.some 57), .none, (.bin .add (.c (.a (.p (.s [40])))) (.t 56)), .any⟩, 
  ⟨(.some 58), .none, (.bin .add (.t 57) (.c (.a (.p (.s [41]))))), .any⟩, 
  ⟨(.some 2), .none, (.mv (.t 58)), .any⟩]) .ret))))), [(.tmp 2)]⟩
theorem cc50 : ccF Try.prog [] Try.f50 = some F50 := by kernel_rfl

/- gossamer/subst.turned -/
def F51b0 : C := (.seq (.reg [
  ⟨(.some 36), .none, (.bin .lss (.t 35) (.t 34)), .any⟩]) (.seq (.cond (.t 36) .skip (.exit 1)) (.seq (.block 2 (.seq (.reg [
  ⟨(.some 37), .none, (.mv (.t 35)), .any⟩, 
  ⟨(.some 38), .none, (.ias 4 (.t 33) (.t 35)), .any⟩, 
  ⟨(.some 39), .none, (.ld 4 true (.t 38)), .any⟩, 
  ⟨(.some 9), .none, (.new [(.p (.i .i64 0)), (.p (.i .i64 0)), (.p (.s [])), .nil]), .any⟩, 
  ⟨(.some 8), .none, (.mv (.t 37)), .any⟩, 
  ⟨.none, .none, (.st 4 (.t 9) (.t 39)), .any⟩]) (.reg [
  ⟨(.some 40), .none, (.mv (.t 7)), .any⟩, 
  ⟨(.some 41), .none, (.mv (.t 8)), .any⟩, 
  ⟨(.some 42), .none, (.ld 4 true (.t 9)), .any⟩, 
  ⟨(.some 43), .none, (.mv (.t 1)), .any⟩, 
  ⟨(.some 44), .none, (.mv (.t 2)), .any⟩, 
  ⟨(.some 45), .none, (.call (.f 51) [(.t 42), (.t 43), (.t 44)]), .any⟩, 
  ⟨(.some 46), .none, (.ias 4 (.t 40) (.t 41)), .any⟩, 
  ⟨.none, .none, (.st 4 (.t 46) (.t 45)), .any⟩]))) (.reg [
  ⟨(.some 47), .none, (.bin .add (.t 35) (.c (.a (.p (.i .i64 1))))), .any⟩, 
  ⟨(.some 35), .none, (.mv (.t 47)), .any⟩]))))
def F51 : FnC := ⟨3, (.seq (.reg [
  ⟨(.some 3), .none, (.box 4 (.t 0)), .any⟩, 
  ⟨(.some 6), .none, (.new [(.p (.i .i64 0)), (.p (.i .i64 0)), (.p (.s [])), .nil]), .any⟩]) (.seq (.seq (.reg [
  ⟨(.some 10), .none, (.fad 0 (.t 3)), .any⟩, 
  ⟨(.some 11), .none, (.ld 1 false (.t 10)), .any⟩]) (.block 0 (.seq (.reg [
  ⟨(.some 13), .none, (.bin .eql (.t 11) (.c (.a (.p (.i .i64 1))))), .any⟩, 
  ⟨(.some 12), .none, (.mv (.t 13)), .any⟩]) (.cond (.t 12) (.seq (.reg [
  ⟨(.some 14), .none, (.mv (.t 2)), .any⟩, 
  ⟨(.some 15), .none, (.ld 4 true (.t 3)), .any⟩, 
  ⟨(.some 16), .none, (.mv (.t 1)), .any⟩, 
  ⟨(.some 17), .none, (.call (.t 14) [(.t 15), (.t 16)]), .any⟩, 
  ⟨.none, .none, (.st 4 (.t 6) (.t 17)), .any⟩]) .ret) (.seq (.reg [
  ⟨(.some 19), .none, (.bin .eql (.t 11) (.c (.a (.p (.i .i64 2))))), .any⟩, 
  ⟨(.some 18), .none, (.mv (.t 19)), .any⟩]) (.cond (.t 18) (.reg [
  ⟨(.some 20), .none, (.mv (.t 1)), .any⟩, 
  ⟨(.some 21), .none, (.bin .add (.t 20) (.c (.a (.p (.i .i64 1))))), .any⟩, 
  ⟨(.some 1), .none, (.mv (.t 21)), .any⟩]) (.seq (.reg [
  ⟨(.some 23), .none, (.bin .eql (.t 11) (.c (.a (.p (.i .i64 6))))), .any⟩, 
  ⟨(.some 22), .none, (.mv (.t 23)), .any⟩]) (.cond (.t 22) (.reg [
  ⟨(.some 24), .none, (.mv (.t 1)), .any⟩, 
  ⟨(.some 25), .none, (.fad 1 (.t 3)), .any⟩, 
  ⟨(.some 26), .none, (.ld 1 false (.t 25)), .any⟩, 
  ⟨(.some 27), .none, (.bin .add (.t 24) (.t 26)), .any⟩, 
  ⟨(.some 1), .none, (.mv (.t 27)), .any⟩]) .skip)))))))) (.seq (.reg [
  ⟨(.some 28), .none, (.fad 3 (.t 3)), .any⟩, 
  ⟨(.some 29), .none, (.ld 1 false (.t 28)), .any⟩, 
  ⟨(.some 30), .none, (.len false (.t 29)), .any⟩, 
  ⟨(.some 31), .none, (.msl 4 24 56 [(.p (.i .i64 0)), (.p (.i .i64 0)), (.p (.s [])), .nil] (.t 30) (.t 30)), .any⟩, 
  ⟨(.some 7), .none, (.mv (.t 31)), .any⟩]) (.seq (.seq (.reg [
  ⟨(.some 32), .none, (.fad 3 (.t 3)), .any⟩, 
  ⟨(.some 33), .none, (.ld 1 false (.t 32)), .any⟩, 
  ⟨(.some 34), .none, (.len false (.t 33)), .any⟩, 
  ⟨(.some 35), .none, (.mv (.c (.a (.p (.i .i64 0))))), .any⟩]) (.block 1 (.loop F51b0))) (.seq (.reg [
  ⟨(.some 48), .none, (.mv (.t 7)), .any⟩, 
  ⟨(.some 49), .none, (.fad 3 (.t 3)), .any⟩, 
  ⟨.none, .none, (.st 1 (.t 49) (.t 48)), .any⟩]) (.seq (.reg [
  ⟨(.some 50), .none, (.ld 4 true (.t 3)), .any⟩, 
  ⟨.none, .none, (.st 4 (.t 6) (.t 50)), .any⟩]) .ret)))))), [(.cell 6 4 true)]⟩
theorem cc51 : ccF Try.prog [] Try.f51 = some F51 := by kernel_rfl

/- gossamer/subst.Up$1 -/
def F52 : FnC := ⟨4, (.seq (.reg [
  ⟨(.some 4), .none, (.box 4 (.t 0)), .any⟩, 
  ⟨(.some 6), .none, (.new [(.p (.i .i64 0)), (.p (.i .i64 0)), (.p (.s [])), .nil]), .any⟩]) (.seq (.seq (.reg [
  ⟨(.some 7), .none, (.fad 1 (.t 4)), .any⟩, 
  ⟨(.some 8), .none, (.ld 1 false (.t 7)), .any⟩, 
  ⟨(.some 9), .none, (.ld 1 false (.t 2)), .any⟩, 
  ⟨(.some 10), .none, (.mv (.t 1)), .any⟩, 
  ⟨(.some 11), .none, (.bin .add (.t 9) (.t 10)), .any⟩, 
  ⟨(.some 12), .none, (.bin .geq (.t 8) (.t 11)), .any⟩]) (.cond (.t 12) (.seq (.reg [
  ⟨(.some 13), .none, (.ld 4 true (.t 4)), .any⟩, 
  ⟨(.some 14), .none, (.ld 1 false (.t 3)), .any⟩, 
  ⟨(.some 15), .none, (.call (.f 53) [(.t 13), (.t 14)]), .any⟩, 
  ⟨.none, .none, (.st 4 (.t 6) (.t 15)), .any⟩]) .ret) .skip)) (.seq (.reg [
  ⟨(.some 16), .none, (.ld 4 true (.t 4)), .any⟩, 
  ⟨.none, .none, (.st 4 (.t 6) (.t 16)), .any⟩]) .ret))), [(.cell 6 4 true)]⟩
theorem cc52 : ccF Try.prog [] Try.f52 = some F52 := by kernel_rfl

/- gossamer/subst.copied -/
def F53 : FnC := ⟨2, (.seq (.reg [
  ⟨(.some 2), .none, (.box 4 (.t 0)), .any⟩, 
  ⟨(.some 4), .none, (.new [(.p (.i .i64 0)), (.p (.i .i64 0)), (.p (.s [])), .nil]), .any⟩]) (.seq (.reg [
  ⟨(.some 5), .none, (.fad 1 (.t 2)), .any⟩, 
  ⟨(.some 6), .none, (.ld 1 false (.t 5)), .any⟩, 
  ⟨(.some 7), .none, (.mv (.t 1)), .any⟩, 
  ⟨(.some 8), .none, (.bin .add (.t 6) (.t 7)), .any⟩, 
  ⟨(.some 9), .none, (.fad 1 (.t 2)), .any⟩, 
  ⟨.none, .none, (.st 1 (.t 9) (.t 8)), .any⟩]) (.seq (.reg [
  ⟨(.some 10), .none, (.ld 4 true (.t 2)), .any⟩, 
  ⟨.none, .none, (.st 4 (.t 4) (.t 10)), .any⟩]) .ret))), [(.cell 4 4 true)]⟩
theorem cc53 : ccF Try.prog [] Try.f53 = some F53 := by kernel_rfl

/- gossamer/gossamerref08.more -/
def F54 : FnC := ⟨1, (.seq (.reg [
  ⟨(.some 1), .none, (.box 4 (.t 0)), .any⟩, 
  ⟨(.some 2), .none, (.mv (.c (.a (.p (.i .i64 0))))), .any⟩]) (.seq (.seq (.reg [
  ⟨(.some 3), .none, (.fad 0 (.t 1)), .any⟩, 
  ⟨(.some 4), .none, (.ld 1 false (.t 3)), .any⟩, 
  ⟨(.some 5), .none, (.bin .eql (.t 4) (.c (.a (.p (.i .i64 2))))), .any⟩]) (.cond (.t 5) (.seq (.reg [
  ⟨(.some 2), .none, (.mv (.c (.a (.p (.i .i64 1))))), .any⟩]) .ret) .skip)) (.seq (.seq (.reg [
  ⟨(.some 6), .none, (.fad 0 (.t 1)), .any⟩, 
  ⟨(.some 7), .none, (.ld 1 false (.t 6)), .any⟩, 
  ⟨(.some 8), .none, (.bin .eql (.t 7) (.c (.a (.p (.i .i64 6))))), .any⟩]) (.cond (.t 8) (.seq (.reg [
  ⟨(.some 9), .none, (.fad 1 (.t 1)), .any⟩, 
  ⟨(.some 10), .none, (.ld 1 false (.t 9)), .any⟩, 
  ⟨(.some 2), .none, (.mv (.t 10)), .any⟩]) .ret) .skip)) (.seq (.reg [
  ⟨(.some 2), .none, (.mv (.c (.a (.p (.i .i64 0))))), .any⟩]) .ret)))), [(.tmp 2)]⟩
theorem cc54 : ccF Try.prog [] Try.f54 = some F54 := by kernel_rfl

/- gossamer/subst.Put$1 -/
def F55 : FnC := ⟨4, (.seq (.reg [
  ⟨(.some 4), .none, (.box 4 (.t 0)), .any⟩, 
  ⟨(.some 6), .none, (.new [(.p (.i .i64 0)), (.p (.i .i64 0)), (.p (.s [])), .nil]), .any⟩]) (.seq (.block 0 (.seq (.reg [
  ⟨(.some 8), .none, (.fad 1 (.t 4)), .any⟩, 
  ⟨(.some 9), .none, (.ld 1 false (.t 8)), .any⟩, 
  ⟨(.some 10), .none, (.ld 1 false (.t 2)), .any⟩, 
  ⟨(.some 11), .none, (.mv (.t 1)), .any⟩, 
  ⟨(.some 12), .none, (.bin .add (.t 10) (.t 11)), .any⟩, 
  ⟨(.some 13), .none, (.bin .eql (.t 9) (.t 12)), .any⟩, 
  ⟨(.some 7), .none, (.mv (.t 13)), .any⟩]) (.cond (.t 7) (.seq (.reg [
  ⟨(.some 14), .none, (.ld 4 true (.t 3)), .any⟩, 
  ⟨(.some 15), .none, (.mv (.t 1)), .any⟩, 
  ⟨(.some 16), .none, (.call (.f 19) [(.t 14), (.t 15), (.c (.a (.p (.i .i64 0))))]), .any⟩, 
  ⟨.none, .none, (.st 4 (.t 6) (.t 16)), .any⟩]) .ret) (.seq (.reg [
  ⟨(.some 18), .none, (.fad 1 (.t 4)), .any⟩, 
  ⟨(.some 19), .none, (.ld 1 false (.t 18)), .any⟩, 
  ⟨(.some 20), .none, (.ld 1 false (.t 2)), .any⟩, 
  ⟨(.some 21), .none, (.mv (.t 1)), .any⟩, 
  ⟨(.some 22), .none, (.bin .add (.t 20) (.t 21)), .any⟩, 
  ⟨(.some 23), .none, (.bin .gtr (.t 19) (.t 22)), .any⟩, 
  ⟨(.some 17), .none, (.mv (.t 23)), .any⟩]) (.cond (.t 17) (.seq (.reg [
  ⟨(.some 24), .none, (.ld 4 true (.t 4)), .any⟩, 
  ⟨(.some 25), .none, (.call (.f 53) [(.t 24), (.c (.a (.p (.i .i64 (-1)))))]), .any⟩, 
  ⟨.none, .none, (.st 4 (.t 6) (.t 25)), .any⟩]) .ret) .skip))))) (.seq (.reg [
  ⟨(.some 26), .none, (.ld 4 true (.t 4)), .any⟩, 
  ⟨.none, .none, (.st 4 (.t 6) (.t 26)), .any⟩]) .ret))), [(.cell 6 4 true)]⟩
theorem cc55 : ccF Try.prog [] Try.f55 = some F55 := by kernel_rfl

/- gossamer/gossamerref08.put -/
def F56b0 : C := (.seq (.seq (.reg [
  ⟨(.some 41), .none, (.mv (.t 10)), .any⟩, 
  ⟨(.some 42), .none, (.fad 3 (.t 4)), .any⟩, 
  ⟨(.some 43), .none, (.ld 1 false (.t 42)), .any⟩, 
  ⟨(.some 44), .none, (.len false (.t 43)), .any⟩, 
  ⟨(.some 45), .none, (.bin .lss (.t 41) (.t 44)), .any⟩]) (.cond (.t 45) .skip (.exit 0))) (.seq (.block 1 (.reg [
  ⟨(.some 48), .none, (.fad 3 (.t 9)), .rd⟩, 
  ⟨(.some 49), .none, (.ld 1 false (.t 48)), .rd⟩, 
  ⟨(.some 50), .none, (.fad 3 (.t 4)), .rd⟩, 
  ⟨(.some 51), .none, (.ld 1 false (.t 50)), .rd⟩, 
  ⟨(.some 52), .none, (.mv (.t 10)), .rd⟩, 
  ⟨(.some 53), .none, (.ias 4 (.t 51) (.t 52)), .rd⟩, 
  ⟨(.some 54), .none, (.ld 4 true (.t 53)), .rd⟩, 
  ⟨(.some 55), .none, (.mv (.t 1)), .rd⟩, 
  ⟨(.some 56), .none, (.ld 4 true (.t 6)), .rd⟩, 
  ⟨(.some 57), .none, (.mv (.t 3)), .rd⟩, 
  ⟨(.some 58), .none, (.ld 4 true (.t 4)), .rd⟩, 
  ⟨(.some 59), .none, (.call (.f 54) [(.t 58)]), .rd⟩, 
  ⟨(.some 60), .none, (.bin .add (.t 57) (.t 59)), .rd⟩, 
  ⟨(.some 61), .none, (.call (.f 56) [(.t 54), (.t 55), (.t 56), (.t 60)]), .rd⟩, 
  ⟨(.some 62), .none, (.bsl 4 24 [(.p (.i .i64 0)), (.p (.i .i64 0)), (.p (.s [])), .nil] 1 [(0, (.t 61))]), .ad⟩, 
  ⟨(.some 63), .none, (.app 4 24 56 (.t 49) (.t 62)), .any⟩, 
  ⟨(.some 64), .none, (.fad 3 (.t 9)), .any⟩, 
  ⟨.none, .none, (.st 1 (.t 64) (.t 63)), .any⟩])) (.reg [
  ⟨(.some 46), .none, (.mv (.t 10)), .any⟩, 
  ⟨(.some 47), .none, (.bin .add (.t 46) (.c (.a (.p (.i .i64 1))))), .any⟩, 
  ⟨(.some 10), .none, (.mv (.t 47)), .any⟩])))
def F56 : FnC := ⟨4, (.seq (.reg [
  ⟨(.some 4), .none, (.box 4 (.t 0)), .any⟩, 
  ⟨(.some 6), .none, (.box 4 (.t 2)), .any⟩, 
  ⟨(.some 8), .none, (.new [(.p (.i .i64 0)), (.p (.i .i64 0)), (.p (.s [])), .nil]), .any⟩]) (.seq (.seq (.reg [
  ⟨(.some 11), .none, (.fad 0 (.t 4)), .any⟩, 
  ⟨(.some 12), .none, (.ld 1 false (.t 11)), .any⟩, 
  ⟨(.some 13), .none, (.bin .eql (.t 12) (.c (.a (.p (.i .i64 1))))), .any⟩]) (.cond (.t 13) (.seq (.seq (.reg [
  ⟨(.some 14), .none, (.fad 1 (.t 4)), .any⟩, 
  ⟨(.some 15), .none, (.ld 1 false (.t 14)), .any⟩, 
  ⟨(.some 16), .none, (.mv (.t 1)), .any⟩, 
  ⟨(.some 17), .none, (.mv (.t 3)), .any⟩, 
  ⟨(.some 18), .none, (.bin .add (.t 16) (.t 17)), .any⟩, 
  ⟨(.some 19), .none, (.bin .eql (.t 15) (.t 18)), .any⟩]) (.cond (.t 19) (.seq (.reg [
  ⟨(.some 20), .none, (.ld 4 true (.t 6)), .any⟩, 
  ⟨(.some 21), .none, (.mv (.t 3)), .any⟩, 
  ⟨(.some 22), .none, (.call (.f 20) [(.t 20), (.t 21), (.c (.a (.p (.i .i64 0))))]), .any⟩, 
  ⟨.none, .none, (.st 4 (.t 8) (.t 22)), .any⟩]) .ret) .skip)) (.seq (.seq (.reg [
  ⟨(.some 23), .none, (.fad 1 (.t 4)), .any⟩, 
  ⟨(.some 24), .none, (.ld 1 false (.t 23)), .any⟩, 
  ⟨(.some 25), .none, (.mv (.t 1)), .any⟩, 
  ⟨(.some 26), .none, (.mv (.t 3)), .any⟩, 
  ⟨(.some 27), .none, (.bin .add (.t 25) (.t 26)), .any⟩, 
  ⟨(.some 28), .none, (.bin .gtr (.t 24) (.t 27)), .any⟩]) (.cond (.t 28) (.reg [
  ⟨(.some 29), .none, (.fad 1 (.t 4)), .any⟩, 
  ⟨(.some 30), .none, (.ld 1 false (.t 29)), .any⟩, 
  ⟨(.some 31), .none, (.bin .sub (.t 30) (.c (.a (.p (.i .i64 1))))), .any⟩, 
  ⟨(.some 32), .none, (.fad 1 (.t 4)), .any⟩, 
  ⟨.none, .none, (.st 1 (.t 32) (.t 31)), .any⟩]) .skip)) (.seq (.reg [
  ⟨(.some 33), .none, (.ld 4 true (.t 4)), .any⟩, 
  ⟨.none, .none, (.st 4 (.t 8) (.t 33)), .any⟩]) .ret))) .skip)) (.seq (.reg [
  ⟨(.some 34), .none, (.fad 0 (.t 4)), .any⟩, 
  ⟨(.some 35), .none, (.ld 1 false (.t 34)), .any⟩, 
  ⟨(.some 36), .none, (.fad 1 (.t 4)), .any⟩, 
  ⟨(.some 37), .none, (.ld 1 false (.t 36)), .any⟩, 
  ⟨(.some 38), .none, (.fad 2 (.t 4)), .any⟩, 
  ⟨(.some 39), .none, (.ld 1 false (.t 38)), .any⟩, 
  ⟨(.some 40), .none, (.build [(.p (.i .i64 0)), (.p (.i .i64 0)), (.p (.s [])), .nil] [(0, (1, (.t 35))), (1, (1, (.t 37))), (2, (1, (.t 39)))]), .any⟩, 
  ⟨(.some 9), .none, (.new [(.p (.i .i64 0)), (.p (.i .i64 0)), (.p (.s [])), .nil]), .any⟩, 
  ⟨.none, .none, (.st 4 (.t 9) (.t 40)), .any⟩]) (.seq (.seq (.reg [
  ⟨(.some 10), .none, (.mv (.c (.a (.p (.i .i64 0))))), .any⟩]) (.block 0 (.loop F56b0))) (.seq (.reg [
  ⟨(.some 65), .none, (.ld 4 true (.t 9)), .any⟩, 
  ⟨.none, .none, (.st 4 (.t 8) (.t 65)), .any⟩]) .ret))))), [(.cell 8 4 true)]⟩
theorem cc56 : ccF Try.prog [] Try.f56 = some F56 := by kernel_rfl

/- gossamer/subst.Uses$1 -/
def F57 : FnC := ⟨4, (.seq (.reg [
  ⟨(.some 4), .none, (.box 4 (.t 0)), .any⟩, 
  ⟨(.some 6), .none, (.new [(.p (.i .i64 0)), (.p (.i .i64 0)), (.p (.s [])), .nil]), .any⟩]) (.seq (.seq (.reg [
  ⟨(.some 7), .none, (.fad 1 (.t 4)), .any⟩, 
  ⟨(.some 8), .none, (.ld 1 false (.t 7)), .any⟩, 
  ⟨(.some 9), .none, (.ld 1 false (.t 2)), .any⟩, 
  ⟨(.some 10), .none, (.mv (.t 1)), .any⟩, 
  ⟨(.some 11), .none, (.bin .add (.t 9) (.t 10)), .any⟩, 
  ⟨(.some 12), .none, (.bin .eql (.t 8) (.t 11)), .any⟩]) (.cond (.t 12) (.reg [
  ⟨(.some 13), .none, (.ld 1 false (.t 3)), .any⟩, 
  ⟨(.some 14), .none, (.bin .add (.t 13) (.c (.a (.p (.i .i64 1))))), .any⟩, 
  ⟨.none, .none, (.st 1 (.t 3) (.t 14)), .any⟩]) .skip)) (.seq (.reg [
  ⟨(.some 15), .none, (.ld 4 true (.t 4)), .any⟩, 
  ⟨.none, .none, (.st 4 (.t 6) (.t 15)), .any⟩]) .ret))), [(.cell 6 4 true)]⟩
theorem cc57 : ccF Try.prog [] Try.f57 = some F57 := by kernel_rfl

/- gossamer/subst.Inst$1 -/
def F58 : FnC := ⟨3, (.seq (.reg [
  ⟨(.some 3), .none, (.box 4 (.t 0)), .any⟩, 
  ⟨(.some 5), .none, (.new [(.p (.i .i64 0)), (.p (.i .i64 0)), (.p (.s [])), .nil]), .any⟩]) (.seq (.reg [
  ⟨(.some 7), .none, (.fad 1 (.t 3)), .any⟩, 
  ⟨(.some 8), .none, (.ld 1 false (.t 7)), .any⟩, 
  ⟨(.some 9), .none, (.mv (.t 1)), .any⟩, 
  ⟨(.some 10), .none, (.bin .sub (.t 8) (.t 9)), .any⟩, 
  ⟨(.some 6), .none, (.mv (.t 10)), .any⟩]) (.seq (.block 0 (.seq (.reg [
  ⟨(.some 12), .none, (.mv (.t 6)), .any⟩, 
  ⟨(.some 13), .none, (.bin .lss (.t 12) (.c (.a (.p (.i .i64 0))))), .any⟩, 
  ⟨(.some 11), .none, (.mv (.t 13)), .any⟩]) (.cond (.t 11) (.seq (.reg [
  ⟨(.some 14), .none, (.ld 4 true (.t 3)), .any⟩, 
  ⟨.none, .none, (.st 4 (.t 5) (.t 14)), .any⟩]) .ret) (.seq (.reg [
  ⟨(.some 16), .none, (.mv (.t 6)), .any⟩, 
  ⟨(.some 17), .none, (.ld 1 false (.t 2)), .any⟩, 
  ⟨(.some 18), .none, (.len false (.t 17)), .any⟩, 
  ⟨(.some 19), .none, (.bin .lss (.t 16) (.t 18)), .any⟩, 
  ⟨(.some 15), .none, (.mv (.t 19)), .any⟩]) (.cond (.t 15) (.seq (.reg [
  ⟨(.some 20), .none, (.ld 1 false (.t 2)), .any⟩, 
  ⟨(.some 21), .none, (.ld 1 false (.t 2)), .any⟩, 
  ⟨(.some 22), .none, (.len false (.t 21)), .any⟩, 
  ⟨(.some 23), .none, (.bin .sub (.t 22) (.c (.a (.p (.i .i64 1))))), .any⟩, 
  ⟨(.some 24), .none, (.mv (.t 6)), .any⟩, 
  ⟨(.some 25), .none, (.bin .sub (.t 23) (.t 24)), .any⟩, 
  ⟨(.some 26), .none, (.ias 4 (.t 20) (.t 25)), .any⟩, 
  ⟨(.some 27), .none, (.ld 4 true (.t 26)), .any⟩, 
  ⟨(.some 28), .none, (.mv (.t 1)), .any⟩, 
  ⟨(.some 29), .none, (.call (.f 19) [(.t 27), (.t 28), (.c (.a (.p (.i .i64 0))))]), .any⟩, 
  ⟨.none, .none, (.st 4 (.t 5) (.t 29)), .any⟩]) .ret) .skip))))) (.seq (.reg [
  ⟨(.some 30), .none, (.ld 4 true (.t 3)), .any⟩, 
  ⟨(.some 31), .none, (.ld 1 false (.t 2)), .any⟩, 
  ⟨(.some 32), .none, (.len false (.t 31)), .any⟩, 
  ⟨(.some 33), .none, (.neg (.t 32)), .any⟩, 
  ⟨(.some 34), .none, (.call (.f 53) [(.t 30), (.t 33)]), .any⟩, 
  ⟨.none, .none, (.st 4 (.t 5) (.t 34)), .any⟩]) .ret)))), [(.cell 5 4 true)]⟩
theorem cc58 : ccF Try.prog [] Try.f58 = some F58 := by kernel_rfl

/- gossamer/gossamerref08.inst -/
def F59b0 : C := (.seq (.seq (.reg [
  ⟨(.some 51), .none, (.mv (.t 8)), .any⟩, 
  ⟨(.some 52), .none, (.fad 3 (.t 3)), .any⟩, 
  ⟨(.some 53), .none, (.ld 1 false (.t 52)), .any⟩, 
  ⟨(.some 54), .none, (.len false (.t 53)), .any⟩, 
  ⟨(.some 55), .none, (.bin .lss (.t 51) (.t 54)), .any⟩]) (.cond (.t 55) .skip (.exit 0))) (.seq (.block 1 (.reg [
  ⟨(.some 58), .none, (.fad 3 (.t 7)), .rd⟩, 
  ⟨(.some 59), .none, (.ld 1 false (.t 58)), .rd⟩, 
  ⟨(.some 60), .none, (.fad 3 (.t 3)), .rd⟩, 
  ⟨(.some 61), .none, (.ld 1 false (.t 60)), .rd⟩, 
  ⟨(.some 62), .none, (.mv (.t 8)), .rd⟩, 
  ⟨(.some 63), .none, (.ias 4 (.t 61) (.t 62)), .rd⟩, 
  ⟨(.some 64), .none, (.ld 4 true (.t 63)), .rd⟩, 
  ⟨(.some 65), .none, (.mv (.t 1)), .rd⟩, 
  ⟨(.some 66), .none, (.mv (.t 2)), .rd⟩, 
  ⟨(.some 67), .none, (.ld 4 true (.t 3)), .rd⟩, 
  ⟨(.some 68), .none, (.call (.f 54) [(.t 67)]), .rd⟩, 
  ⟨(.some 69), .none, (.bin .add (.t 66) (.t 68)), .rd⟩, 
  ⟨(.some 70), .none, (.call (.f 59) [(.t 64), (.t 65), (.t 69)]), .rd⟩, 
  ⟨(.some 71), .none, (.bsl 4 24 [(.p (.i .i64 0)), (.p (.i .i64 0)), (.p (.s [])), .nil] 1 [(0, (.t 70))]), .ad⟩, 
  ⟨(.some 72), .none, (.app 4 24 56 (.t 59) (.t 71)), .any⟩, 
  ⟨(.some 73), .none, (.fad 3 (.t 7)), .any⟩, 
  ⟨.none, .none, (.st 1 (.t 73) (.t 72)), .any⟩])) (.reg [
  ⟨(.some 56), .none, (.mv (.t 8)), .any⟩, 
  ⟨(.some 57), .none, (.bin .add (.t 56) (.c (.a (.p (.i .i64 1))))), .any⟩, 
  ⟨(.some 8), .none, (.mv (.t 57)), .any⟩])))
def F59 : FnC := ⟨3, (.seq (.reg [
  ⟨(.some 3), .none, (.box 4 (.t 0)), .any⟩, 
  ⟨(.some 6), .none, (.new [(.p (.i .i64 0)), (.p (.i .i64 0)), (.p (.s [])), .nil]), .any⟩]) (.seq (.seq (.reg [
  ⟨(.some 9), .none, (.fad 0 (.t 3)), .any⟩, 
  ⟨(.some 10), .none, (.ld 1 false (.t 9)), .any⟩, 
  ⟨(.some 11), .none, (.bin .eql (.t 10) (.c (.a (.p (.i .i64 1))))), .any⟩]) (.cond (.t 11) (.seq (.seq (.reg [
  ⟨(.some 12), .none, (.fad 1 (.t 3)), .any⟩, 
  ⟨(.some 13), .none, (.ld 1 false (.t 12)), .any⟩, 
  ⟨(.some 14), .none, (.mv (.t 2)), .any⟩, 
  ⟨(.some 15), .none, (.bin .lss (.t 13) (.t 14)), .any⟩]) (.cond (.t 15) (.seq (.reg [
  ⟨(.some 16), .none, (.ld 4 true (.t 3)), .any⟩, 
  ⟨.none, .none, (.st 4 (.t 6) (.t 16)), .any⟩]) .ret) .skip)) (.seq (.seq (.reg [
  ⟨(.some 17), .none, (.fad 1 (.t 3)), .any⟩, 
  ⟨(.some 18), .none, (.ld 1 false (.t 17)), .any⟩, 
  ⟨(.some 19), .none, (.mv (.t 2)), .any⟩, 
  ⟨(.some 20), .none, (.mv (.t 1)), .any⟩, 
  ⟨(.some 21), .none, (.len false (.t 20)), .any⟩, 
  ⟨(.some 22), .none, (.bin .add (.t 19) (.t 21)), .any⟩, 
  ⟨(.some 23), .none, (.bin .lss (.t 18) (.t 22)), .any⟩]) (.cond (.t 23) (.seq (.reg [
  ⟨(.some 24), .none, (.mv (.t 1)), .any⟩, 
  ⟨(.some 25), .none, (.mv (.t 1)), .any⟩, 
  ⟨(.some 26), .none, (.len false (.t 25)), .any⟩, 
  ⟨(.some 27), .none, (.bin .sub (.t 26) (.c (.a (.p (.i .i64 1))))), .any⟩, 
  ⟨(.some 28), .none, (.fad 1 (.t 3)), .any⟩, 
  ⟨(.some 29), .none, (.ld 1 false (.t 28)), .any⟩, 
  ⟨(.some 30), .none, (.mv (.t 2)), .any⟩, 
  ⟨(.some 31), .none, (.bin .sub (.t 29) (.t 30)), .any⟩, 
  ⟨(.some 32), .none, (.bin .sub (.t 27) (.t 31)), .any⟩, 
  ⟨(.some 33), .none, (.ias 4 (.t 24) (.t 32)), .any⟩, 
  ⟨(.some 34), .none, (.ld 4 true (.t 33)), .any⟩, 
  ⟨(.some 35), .none, (.mv (.t 2)), .any⟩, 
  ⟨(.some 36), .none, (.call (.f 20) [(.t 34), (.t 35), (.c (.a (.p (.i .i64 0))))]), .any⟩, 
  ⟨.none, .none, (.st 4 (.t 6) (.t 36)), .any⟩]) .ret) .skip)) (.seq (.reg [
  ⟨(.some 37), .none, (.fad 1 (.t 3)), .any⟩, 
  ⟨(.some 38), .none, (.ld 1 false (.t 37)), .any⟩, 
  ⟨(.some 39), .none, (.mv (.t 1)), .any⟩, 
  ⟨(.some 40), .none, (.len false (.t 39)), .any⟩, 
  ⟨(.some 41), .none, (.bin .sub (.t 38) (.t 40)), .any⟩, 
  ⟨(.some 42), .none, (.fad 1 (.t 3)), .any⟩, 
  ⟨.none, .none, (.st 1 (.t 42) (.t 41)), .any⟩]) (.seq (.reg [
  ⟨(.some 43), .none, (.ld 4 true (.t 3)), .any⟩, 
  ⟨.none, .none, (.st 4 (.t 6) (.t 43)), .any⟩]) .ret)))) .skip)) (.seq (.reg [
  ⟨(.some 44), .none, (.fad 0 (.t 3)), .any⟩, 
  ⟨(.some 45), .none, (.ld 1 false (.t 44)), .any⟩, 
  ⟨(.some 46), .none, (.fad 1 (.t 3)), .any⟩, 
  ⟨(.some 47), .none, (.ld 1 false (.t 46)), .any⟩, 
  ⟨(.some 48), .none, (.fad 2 (.t 3)), .any⟩, 
  ⟨(.some 49), .none, (.ld 1 false (.t 48)), .any⟩, 
  ⟨(.some 50), .none, (.build [(.p (.i .i64 0)), (.p (.i .i64 0)), (.p (.s [])), .nil] [(0, (1, (.t 45))), (1, (1, (.t 47))), (2, (1, (.t 49)))]), .any⟩, 
  ⟨(.some 7), .none, (.new [(.p (.i .i64 0)), (.p (.i .i64 0)), (.p (.s [])), .nil]), .any⟩, 
  ⟨.none, .none, (.st 4 (.t 7) (.t 50)), .any⟩]) (.seq (.seq (.reg [
  ⟨(.some 8), .none, (.mv (.c (.a (.p (.i .i64 0))))), .any⟩]) (.block 0 (.loop F59b0))) (.seq (.reg [
  ⟨(.some 74), .none, (.ld 4 true (.t 7)), .any⟩, 
  ⟨.none, .none, (.st 4 (.t 6) (.t 74)), .any⟩]) .ret))))), [(.cell 6 4 true)]⟩
theorem cc59 : ccF Try.prog [] Try.f59 = some F59 := by kernel_rfl

/- gossamer/gossamerref06.may -/
def F60b1 : C := (.seq (.seq (.reg [
  ⟨(.some 52), .none, (.mv (.t 8)), .any⟩, 
  ⟨(.some 53), .none, (.mv (.t 7)), .any⟩, 
  ⟨(.some 54), .none, (.bin .lss (.t 52) (.t 53)), .any⟩, 
  ⟨(.some 55), .none, (.mv (.t 54)), .any⟩, 
  ⟨(.some 56), (.some (55, true)), (.fad 0 (.t 3)), .any⟩, 
  ⟨(.some 57), (.some (55, true)), (.ld 1 false (.t 56)), .any⟩, 
  ⟨(.some 58), (.some (55, true)), (.bin .eql (.t 57) (.c (.a (.p (.i .i64 5))))), .any⟩, 
  ⟨(.some 59), .none, (.pick (.t 55) (.t 58) (.c (.a (.p (.b false))))), .any⟩]) (.cond (.t 59) .skip (.exit 2))) (.seq (.block 3 (.seq (.reg [
  ⟨(.some 62), .none, (.fad 3 (.t 3)), .rd⟩, 
  ⟨(.some 63), .none, (.ld 1 false (.t 62)), .rd⟩, 
  ⟨(.some 64), .none, (.mv (.t 8)), .rd⟩, 
  ⟨(.some 65), .none, (.ias 4 (.t 63) (.t 64)), .rd⟩, 
  ⟨(.some 66), .none, (.fad 2 (.t 65)), .rd⟩, 
  ⟨(.some 67), .none, (.ld 1 false (.t 66)), .rd⟩, 
  ⟨(.some 68), .none, (.fad 3 (.t 3)), .rd⟩, 
  ⟨(.some 69), .none, (.ld 1 false (.t 68)), .rd⟩, 
  ⟨(.some 70), .none, (.mv (.t 7)), .rd⟩, 
  ⟨(.some 71), .none, (.ias 4 (.t 69) (.t 70)), .rd⟩, 
  ⟨(.some 72), .none, (.fad 2 (.t 71)), .rd⟩, 
  ⟨(.some 73), .none, (.ld 1 false (.t 72)), .rd⟩, 
  ⟨(.some 74), .none, (.bin .eql (.t 67) (.t 73)), .any⟩]) (.cond (.t 74) (.seq (.reg [
  ⟨(.some 6), .none, (.mv (.c (.a (.p (.b false))))), .any⟩]) .ret) .skip))) (.reg [
  ⟨(.some 60), .none, (.mv (.t 8)), .any⟩, 
  ⟨(.some 61), .none, (.bin .add (.t 60) (.c (.a (.p (.i .i64 1))))), .any⟩, 
  ⟨(.some 8), .none, (.mv (.t 61)), .any⟩])))
def F60b0 : C := (.seq (.seq (.reg [
  ⟨(.some 30), .none, (.mv (.t 7)), .any⟩, 
  ⟨(.some 31), .none, (.fad 3 (.t 3)), .any⟩, 
  ⟨(.some 32), .none, (.ld 1 false (.t 31)), .any⟩, 
  ⟨(.some 33), .none, (.len false (.t 32)), .any⟩, 
  ⟨(.some 34), .none, (.bin .lss (.t 30) (.t 33)), .any⟩]) (.cond (.t 34) .skip (.exit 0))) (.seq (.block 1 (.seq (.seq (.reg [
  ⟨(.some 37), .none, (.fad 3 (.t 3)), .rd⟩, 
  ⟨(.some 38), .none, (.ld 1 false (.t 37)), .rd⟩, 
  ⟨(.some 39), .none, (.mv (.t 7)), .rd⟩, 
  ⟨(.some 40), .none, (.ias 4 (.t 38) (.t 39)), .rd⟩, 
  ⟨(.some 41), .none, (.ld 4 true (.t 40)), .rd⟩, 
  ⟨(.some 42), .none, (.mv (.t 1)), .rd⟩, 
  ⟨(.some 43), .none, (.fad 0 (.t 3)), .rd⟩, 
  ⟨(.some 44), .none, (.ld 1 false (.t 43)), .rd⟩, 
  ⟨(.some 45), .none, (.bin .eql (.t 44) (.c (.a (.p (.i .i64 5))))), .rd⟩, 
  ⟨(.some 46), .none, (.mv (.t 45)), .rd⟩, 
  ⟨(.some 47), (.some (46, true)), (.mv (.t 7)), .rd⟩, 
  ⟨(.some 48), (.some (46, true)), (.bin .gtr (.t 47) (.c (.a (.p (.i .i64 0))))), .rd⟩, 
  ⟨(.some 49), .none, (.pick (.t 46) (.t 48) (.c (.a (.p (.b false))))), .rd⟩, 
  ⟨(.some 50), .none, (.call (.f 60) [(.t 41), (.t 42), (.t 49)]), .any⟩, 
  ⟨(.some 51), .none, (.not (.t 50)), .any⟩]) (.cond (.t 51) (.seq (.reg [
  ⟨(.some 6), .none, (.mv (.c (.a (.p (.b false))))), .any⟩]) .ret) .skip)) (.seq (.reg [
  ⟨(.some 8), .none, (.mv (.c (.a (.p (.i .i64 1))))), .any⟩]) (.block 2 (.loop F60b1))))) (.reg [
  ⟨(.some 35), .none, (.mv (.t 7)), .any⟩, 
  ⟨(.some 36), .none, (.bin .add (.t 35) (.c (.a (.p (.i .i64 1))))), .any⟩, 
  ⟨(.some 7), .none, (.mv (.t 36)), .any⟩])))
def F60 : FnC := ⟨3, (.seq (.reg [
  ⟨(.some 3), .none, (.box 4 (.t 0)), .any⟩, 
  ⟨(.some 6), .none, (.mv (.c (.a (.p (.b false))))), .any⟩]) (.seq (.seq (.reg [
  ⟨(.some 9), .none, (.mv (.t 1)), .any⟩, 
  ⟨(.some 10), .none, (.bin .lss (.t 9) (.c (.a (.p (.i .i64 0))))), .any⟩, 
  ⟨(.some 11), .none, (.mv (.t 10)), .any⟩, 
  ⟨(.some 12), (.some (11, false)), (.ld 4 true (.t 3)), .any⟩, 
  ⟨(.some 13), (.some (11, false)), (.mv (.t 1)), .any⟩, 
  ⟨(.some 14), (.some (11, false)), (.mv (.t 2)), .any⟩, 
  ⟨(.some 15), (.some (11, false)), (.call (.f 70) [(.t 12), (.t 13), (.t 14)]), .any⟩, 
  ⟨(.some 16), (.some (11, false)), (.not (.t 15)), .any⟩, 
  ⟨(.some 17), .none, (.pick (.t 11) (.c (.a (.p (.b true)))) (.t 16)), .any⟩]) (.cond (.t 17) (.seq (.reg [
  ⟨(.some 6), .none, (.mv (.c (.a (.p (.b false))))), .any⟩]) .ret) .skip)) (.seq (.seq (.reg [
  ⟨(.some 18), .none, (.fad 0 (.t 3)), .any⟩, 
  ⟨(.some 19), .none, (.ld 1 false (.t 18)), .any⟩, 
  ⟨(.some 20), .none, (.bin .eql (.t 19) (.c (.a (.p (.i .i64 2))))), .any⟩]) (.cond (.t 20) (.reg [
  ⟨(.some 21), .none, (.mv (.t 1)), .any⟩, 
  ⟨(.some 22), .none, (.bin .add (.t 21) (.c (.a (.p (.i .i64 1))))), .any⟩, 
  ⟨(.some 1), .none, (.mv (.t 22)), .any⟩]) .skip)) (.seq (.seq (.reg [
  ⟨(.some 23), .none, (.fad 0 (.t 3)), .any⟩, 
  ⟨(.some 24), .none, (.ld 1 false (.t 23)), .any⟩, 
  ⟨(.some 25), .none, (.bin .eql (.t 24) (.c (.a (.p (.i .i64 6))))), .any⟩]) (.cond (.t 25) (.reg [
  ⟨(.some 26), .none, (.mv (.t 1)), .any⟩, 
  ⟨(.some 27), .none, (.fad 1 (.t 3)), .any⟩, 
  ⟨(.some 28), .none, (.ld 1 false (.t 27)), .any⟩, 
  ⟨(.some 29), .none, (.bin .add (.t 26) (.t 28)), .any⟩, 
  ⟨(.some 1), .none, (.mv (.t 29)), .any⟩]) .skip)) (.seq (.seq (.reg [
  ⟨(.some 7), .none, (.mv (.c (.a (.p (.i .i64 0))))), .any⟩]) (.block 0 (.loop F60b0))) (.seq (.reg [
  ⟨(.some 6), .none, (.mv (.c (.a (.p (.b true))))), .any⟩]) .ret)))))), [(.tmp 6)]⟩
theorem cc60 : ccF Try.prog [] Try.f60 = some F60 := by kernel_rfl

/- gossamer/gossamerref06.Digits -/
def F69 : FnC := ⟨1, (.seq (.reg [
  ⟨(.some 2), .none, (.mv (.c (.a (.p (.s []))))), .any⟩]) (.seq (.seq (.reg [
  ⟨(.some 5), .none, (.mv (.t 0)), .any⟩, 
  ⟨(.some 6), .none, (.bin .lss (.t 5) (.c (.a (.p (.i .i64 0))))), .any⟩]) (.cond (.t 6) (.seq (.reg [
  ⟨(.some 3), .none, (.mv (.c (.a (.p (.s []))))), .any⟩]) (.seq (.seq (.reg [
  ⟨(.some 7), .none, (.mv (.t 0)), .any⟩, 
  ⟨(.some 8), .none, (.bin .quo (.t 7) (.c (.a (.p (.i .i64 10))))), .any⟩, 
  ⟨(.some 9), .none, (.bin .lss (.t 8) (.c (.a (.p (.i .i64 0))))), .any⟩]) (.cond (.t 9) (.reg [
  ⟨(.some 10), .none, (.mv (.t 0)), .any⟩, 
  ⟨(.some 11), .none, (.bin .quo (.t 10) (.c (.a (.p (.i .i64 10))))), .any⟩, 
  ⟨(.some 12), .none, (.neg (.t 11)), .any⟩, 
  ⟨(.some 13), .none, (.call (.f 69) [(.t 12)]), .any⟩, 
  ⟨(.some 3), .none, (.mv (.t 13)), .any⟩]) .skip)) (.seq (.reg [
  ⟨(.some 14), .none, (.mv (.t 3)), .any⟩, 
  ⟨(.some 15), .none, (.bin .add (.c (.a (.p (.s [45])))) (.t 14)), .any⟩, 
  ⟨(.some 16), .none, (.mv (.t 0)), .any⟩, 
  ⟨(.some 17), .none, (.bin .rem (.t 16) (.c (.a (.p (.i .i64 10))))), .any⟩, 
  ⟨(.some 18), .none, (.bin .sub (.c (.a (.p (.i .i64 48)))) (.t 17)), .any⟩, 
  ⟨(.some 19), .none, (.cvi .u8 (.t 18)), .any⟩, 
  ⟨(.some 20), .none, (.bsl 1 5 [(.p (.i .u8 0))] 1 [(0, (.t 19))]), .any⟩, 
  ⟨(.some 21), .none, (.cvs (.t 20)), .any⟩, 
  ⟨(.some 22), .none, (.bin .add (.t 15) (.t 21)), .any⟩, 
  ⟨(.some 2), .none, (.mv (.t 22)), .any⟩]) .ret))) .skip)) (.seq (.reg [
  ⟨(.some 23), .none, (.mv (.t 0)), .any⟩, 
  ⟨(.some 24), .none, (.bin .rem (.t 23) (.c (.a (.p (.i .i64 10))))), .any⟩, 
  ⟨(.some 25), .none, (.bin .add (.c (.a (.p (.i .i64 48)))) (.t 24)), .any⟩, 
  ⟨(.some 26), .none, (.cvi .u8 (.t 25)), .any⟩, 
  ⟨(.some 27), .none, (.bsl 1 5 [(.p (.i .u8 0))] 1 [(0, (.t 26))]), .any⟩, 
  ⟨(.some 28), .none, (.cvs (.t 27)), .any⟩, 
  ⟨(.some 4), .none, (.mv (.t 28)), .any⟩]) (.seq (.seq (.reg [
  ⟨(.some 29), .none, (.mv (.t 0)), .any⟩, 
  ⟨(.some 30), .none, (.bin .geq (.t 29) (.c (.a (.p (.i .i64 10))))), .any⟩]) (.cond (.t 30) (.reg [
  ⟨(.some 31), .none, (.mv (.t 0)), .any⟩, 
  ⟨(.some 32), .none, (.bin .quo (.t 31) (.c (.a (.p (.i .i64 10))))), .any⟩, 
  ⟨(.some 33), .none, (.call (.f 69) [(.t 32)]), .any⟩, 
  ⟨(.some 34), .none, (.mv (.t 4)), .any⟩, 
  ⟨(.some 35), .none, (.bin .add (.t 33) (.t 34)), .any⟩, 
  ⟨(.some 4), .none, (.mv (.t 35)), .any⟩]) .skip)) (.seq (.reg [
  ⟨(.some 36), .none, (.mv (.t 4)), .any⟩, 
  ⟨(.some 2), .none, (.mv (.t 36)), .any⟩]) .ret))))), [(.tmp 2)]⟩
theorem cc69 : ccF Try.prog [] Try.f69 = some F69 := by kernel_rfl

/- gossamer/gossamerref06.head -/
def F70 : FnC := ⟨3, (.seq (.reg [
  ⟨(.some 3), .none, (.box 4 (.t 0)), .any⟩, 
  ⟨(.some 6), .none, (.mv (.c (.a (.p (.b false))))), .any⟩]) (.seq (.reg [
  ⟨(.some 10), .none, (.fad 3 (.t 3)), .any⟩, 
  ⟨(.some 11), .none, (.ld 1 false (.t 10)), .any⟩, 
  ⟨(.some 12), .none, (.len false (.t 11)), .any⟩, 
  ⟨(.some 7), .none, (.mv (.t 12)), .any⟩]) (.seq (.reg [
  ⟨(.some 13), .none, (.fad 2 (.t 3)), .any⟩, 
  ⟨(.some 14), .none, (.ld 1 false (.t 13)), .any⟩, 
  ⟨(.some 15), .none, (.bin .eql (.t 14) (.c (.a (.p (.s [43]))))), .any⟩, 
  ⟨(.some 16), .none, (.mv (.t 15)), .any⟩, 
  ⟨(.some 17), (.some (16, false)), (.fad 2 (.t 3)), .any⟩, 
  ⟨(.some 18), (.some (16, false)), (.ld 1 false (.t 17)), .any⟩, 
  ⟨(.some 19), (.some (16, false)), (.bin .eql (.t 18) (.c (.a (.p (.s [45]))))), .any⟩, 
  ⟨(.some 20), .none, (.pick (.t 16) (.c (.a (.p (.b true)))) (.t 19)), .any⟩, 
  ⟨(.some 21), .none, (.mv (.t 20)), .any⟩, 
  ⟨(.some 22), (.some (21, false)), (.fad 2 (.t 3)), .any⟩, 
  ⟨(.some 23), (.some (21, false)), (.ld 1 false (.t 22)), .any⟩, 
  ⟨(.some 24), (.some (21, false)), (.bin .eql (.t 23) (.c (.a (.p (.s [42]))))), .any⟩, 
  ⟨(.some 25), .none, (.pick (.t 21) (.c (.a (.p (.b true)))) (.t 24)), .any⟩, 
  ⟨(.some 26), .none, (.mv (.t 25)), .any⟩, 
  ⟨(.some 27), (.some (26, false)), (.fad 2 (.t 3)), .any⟩, 
  ⟨(.some 28), (.some (26, false)), (.ld 1 false (.t 27)), .any⟩, 
  ⟨(.some 29), (.some (26, false)), (.bin .eql (.t 28) (.c (.a (.p (.s [47]))))), .any⟩, 
  ⟨(.some 30), .none, (.pick (.t 26) (.c (.a (.p (.b true)))) (.t 29)), .any⟩, 
  ⟨(.some 31), .none, (.mv (.t 30)), .any⟩, 
  ⟨(.some 32), (.some (31, false)), (.fad 2 (.t 3)), .any⟩, 
  ⟨(.some 33), (.some (31, false)), (.ld 1 false (.t 32)), .any⟩, 
  ⟨(.some 34), (.some (31, false)), (.bin .eql (.t 33) (.c (.a (.p (.s [60]))))), .any⟩, 
  ⟨(.some 35), .none, (.pick (.t 31) (.c (.a (.p (.b true)))) (.t 34)), .any⟩, 
  ⟨(.some 36), .none, (.mv (.t 35)), .any⟩, 
  ⟨(.some 37), (.some (36, false)), (.fad 2 (.t 3)), .any⟩, 
  ⟨(.some 38), (.some (36, false)), (.ld 1 false (.t 37)), .any⟩, 
  ⟨(.some 39), (.some (36, false)), (.bin .eql (.t 38) (.c (.a (.p (.s [61, 61]))))), .any⟩, 
  ⟨(.some 40), .none, (.pick (.t 36) (.c (.a (.p (.b true)))) (.t 39)), .any⟩, 
  ⟨(.some 8), .none, (.mv (.t 40)), .any⟩]) (.seq (.reg [
  ⟨(.some 41), .none, (.fad 2 (.t 3)), .any⟩, 
  ⟨(.some 42), .none, (.ld 1 false (.t 41)), .any⟩, 
  ⟨(.some 43), .none, (.bin .eql (.t 42) (.c (.a (.p (.s []))))), .any⟩, 
  ⟨(.some 44), .none, (.mv (.t 43)), .any⟩, 
  ⟨(.some 45), (.some (44, true)), (.fad 1 (.t 3)), .any⟩, 
  ⟨(.some 46), (.some (44, true)), (.ld 1 false (.t 45)), .any⟩, 
  ⟨(.some 47), (.some (44, true)), (.bin .eql (.t 46) (.c (.a (.p (.i .i64 0))))), .any⟩, 
  ⟨(.some 48), .none, (.pick (.t 44) (.t 47) (.c (.a (.p (.b false))))), .any⟩, 
  ⟨(.some 9), .none, (.mv (.t 48)), .any⟩]) (.seq (.seq (.reg [
  ⟨(.some 49), .none, (.mv (.t 2)), .any⟩]) (.cond (.t 49) (.seq (.reg [
  ⟨(.some 50), .none, (.fad 0 (.t 3)), .any⟩, 
  ⟨(.some 51), .none, (.ld 1 false (.t 50)), .any⟩, 
  ⟨(.some 52), .none, (.bin .eql (.t 51) (.c (.a (.p (.i .i64 6))))), .any⟩, 
  ⟨(.some 53), .none, (.mv (.t 52)), .any⟩, 
  ⟨(.some 54), (.some (53, true)), (.fad 2 (.t 3)), .any⟩, 
  ⟨(.some 55), (.some (53, true)), (.ld 1 false (.t 54)), .any⟩, 
  ⟨(.some 56), (.some (53, true)), (.call (.f 84) [(.t 55)]), .any⟩, 
  ⟨(.some 57), .none, (.pick (.t 53) (.t 56) (.c (.a (.p (.b false))))), .any⟩, 
  ⟨(.some 58), .none, (.mv (.t 57)), .any⟩, 
  ⟨(.some 59), (.some (58, true)), (.fad 1 (.t 3)), .any⟩, 
  ⟨(.some 60), (.some (58, true)), (.ld 1 false (.t 59)), .any⟩, 
  ⟨(.some 61), (.some (58, true)), (.bin .geq (.t 60) (.c (.a (.p (.i .i64 0))))), .any⟩, 
  ⟨(.some 62), .none, (.pick (.t 58) (.t 61) (.c (.a (.p (.b false))))), .any⟩, 
  ⟨(.some 63), .none, (.mv (.t 62)), .any⟩, 
  ⟨(.some 64), (.some (63, true)), (.fad 1 (.t 3)), .any⟩, 
  ⟨(.some 65), (.some (63, true)), (.ld 1 false (.t 64)), .any⟩, 
  ⟨(.some 66), (.some (63, true)), (.bin .leq (.t 65) (.c (.a (.p (.i .i64 8))))), .any⟩, 
  ⟨(.some 67), .none, (.pick (.t 63) (.t 66) (.c (.a (.p (.b false))))), .any⟩, 
  ⟨(.some 68), .none, (.mv (.t 67)), .any⟩, 
  ⟨(.some 69), (.some (68, true)), (.mv (.t 7)), .any⟩, 
  ⟨(.some 70), (.some (68, true)), (.bin .eql (.t 69) (.c (.a (.p (.i .i64 1))))), .any⟩, 
  ⟨(.some 71), .none, (.pick (.t 68) (.t 70) (.c (.a (.p (.b false))))), .any⟩, 
  ⟨(.some 6), .none, (.mv (.t 71)), .any⟩]) .ret) .skip)) (.seq (.seq (.reg [
  ⟨(.some 72), .none, (.fad 0 (.t 3)), .any⟩, 
  ⟨(.some 73), .none, (.ld 1 false (.t 72)), .any⟩]) (.block 0 (.seq (.reg [
  ⟨(.some 75), .none, (.bin .eql (.t 73) (.c (.a (.p (.i .i64 1))))), .any⟩, 
  ⟨(.some 74), .none, (.mv (.t 75)), .any⟩]) (.cond (.t 74) (.seq (.reg [
  ⟨(.some 76), .none, (.fad 2 (.t 3)), .any⟩, 
  ⟨(.some 77), .none, (.ld 1 false (.t 76)), .any⟩, 
  ⟨(.some 78), .none, (.bin .eql (.t 77) (.c (.a (.p (.s []))))), .any⟩, 
  ⟨(.some 79), .none, (.mv (.t 78)), .any⟩, 
  ⟨(.some 80), (.some (79, true)), (.mv (.t 7)), .any⟩, 
  ⟨(.some 81), (.some (79, true)), (.bin .eql (.t 80) (.c (.a (.p (.i .i64 0))))), .any⟩, 
  ⟨(.some 82), .none, (.pick (.t 79) (.t 81) (.c (.a (.p (.b false))))), .any⟩, 
  ⟨(.some 83), .none, (.mv (.t 82)), .any⟩, 
  ⟨(.some 84), (.some (83, true)), (.fad 1 (.t 3)), .any⟩, 
  ⟨(.some 85), (.some (83, true)), (.ld 1 false (.t 84)), .any⟩, 
  ⟨(.some 86), (.some (83, true)), (.bin .geq (.t 85) (.c (.a (.p (.i .i64 0))))), .any⟩, 
  ⟨(.some 87), .none, (.pick (.t 83) (.t 86) (.c (.a (.p (.b false))))), .any⟩, 
  ⟨(.some 88), .none, (.mv (.t 87)), .any⟩, 
  ⟨(.some 89), (.some (88, true)), (.fad 1 (.t 3)), .any⟩, 
  ⟨(.some 90), (.some (88, true)), (.ld 1 false (.t 89)), .any⟩, 
  ⟨(.some 91), (.some (88, true)), (.mv (.t 1)), .any⟩, 
  ⟨(.some 92), (.some (88, true)), (.bin .lss (.t 90) (.t 91)), .any⟩, 
  ⟨(.some 93), .none, (.pick (.t 88) (.t 92) (.c (.a (.p (.b false))))), .any⟩, 
  ⟨(.some 6), .none, (.mv (.t 93)), .any⟩]) .ret) (.seq (.reg [
  ⟨(.some 95), .none, (.bin .eql (.t 73) (.c (.a (.p (.i .i64 2))))), .any⟩, 
  ⟨(.some 94), .none, (.mv (.t 95)), .any⟩]) (.cond (.t 94) (.seq (.reg [
  ⟨(.some 96), .none, (.mv (.t 9)), .any⟩, 
  ⟨(.some 97), .none, (.mv (.t 96)), .any⟩, 
  ⟨(.some 98), (.some (97, true)), (.mv (.t 7)), .any⟩, 
  ⟨(.some 99), (.some (97, true)), (.bin .eql (.t 98) (.c (.a (.p (.i .i64 1))))), .any⟩, 
  ⟨(.some 100), .none, (.pick (.t 97) (.t 99) (.c (.a (.p (.b false))))), .any⟩, 
  ⟨(.some 6), .none, (.mv (.t 100)), .any⟩]) .ret) (.seq (.reg [
  ⟨(.some 102), .none, (.bin .eql (.t 73) (.c (.a (.p (.i .i64 3))))), .any⟩, 
  ⟨(.some 101), .none, (.mv (.t 102)), .any⟩]) (.cond (.t 101) (.seq (.reg [
  ⟨(.some 103), .none, (.mv (.t 9)), .any⟩, 
  ⟨(.some 104), .none, (.mv (.t 103)), .any⟩, 
  ⟨(.some 105), (.some (104, true)), (.mv (.t 7)), .any⟩, 
  ⟨(.some 106), (.some (104, true)), (.bin .eql (.t 105) (.c (.a (.p (.i .i64 2))))), .any⟩, 
  ⟨(.some 107), .none, (.pick (.t 104) (.t 106) (.c (.a (.p (.b false))))), .any⟩, 
  ⟨(.some 6), .none, (.mv (.t 107)), .any⟩]) .ret) (.seq (.reg [
  ⟨(.some 109), .none, (.bin .eql (.t 73) (.c (.a (.p (.i .i64 4))))), .any⟩, 
  ⟨(.some 108), .none, (.mv (.t 109)), .any⟩]) (.cond (.t 108) (.seq (.reg [
  ⟨(.some 110), .none, (.fad 2 (.t 3)), .any⟩, 
  ⟨(.some 111), .none, (.ld 1 false (.t 110)), .any⟩, 
  ⟨(.some 112), .none, (.call (.f 84) [(.t 111)]), .any⟩, 
  ⟨(.some 113), .none, (.mv (.t 112)), .any⟩, 
  ⟨(.some 114), (.some (113, true)), (.fad 1 (.t 3)), .any⟩, 
  ⟨(.some 115), (.some (113, true)), (.ld 1 false (.t 114)), .any⟩, 
  ⟨(.some 116), (.some (113, true)), (.bin .eql (.t 115) (.c (.a (.p (.i .i64 0))))), .any⟩, 
  ⟨(.some 117), .none, (.pick (.t 113) (.t 116) (.c (.a (.p (.b false))))), .any⟩, 
  ⟨(.some 118), .none, (.mv (.t 117)), .any⟩, 
  ⟨(.some 119), (.some (118, true)), (.mv (.t 7)), .any⟩, 
  ⟨(.some 120), (.some (118, true)), (.bin .leq (.t 119) (.c (.a (.p (.i .i64 8))))), .any⟩, 
  ⟨(.some 121), .none, (.pick (.t 118) (.t 120) (.c (.a (.p (.b false))))), .any⟩, 
  ⟨(.some 6), .none, (.mv (.t 121)), .any⟩]) .ret) (.seq (.reg [
  ⟨(.some 123), .none, (.bin .eql (.t 73) (.c (.a (.p (.i .i64 5))))), .any⟩, 
  ⟨(.some 122), .none, (.mv (.t 123)), .any⟩]) (.cond (.t 122) (.seq (.reg [
  ⟨(.some 124), .none, (.mv (.t 9)), .any⟩, 
  ⟨(.some 125), .none, (.mv (.t 124)), .any⟩, 
  ⟨(.some 126), (.some (125, true)), (.mv (.t 7)), .any⟩, 
  ⟨(.some 127), (.some (125, true)), (.bin .geq (.t 126) (.c (.a (.p (.i .i64 2))))), .any⟩, 
  ⟨(.some 128), .none, (.pick (.t 125) (.t 127) (.c (.a (.p (.b false))))), .any⟩, 
  ⟨(.some 129), .none, (.mv (.t 128)), .any⟩, 
  ⟨(.some 130), (.some (129, true)), (.mv (.t 7)), .any⟩, 
  ⟨(.some 131), (.some (129, true)), (.bin .leq (.t 130) (.c (.a (.p (.i .i64 9))))), .any⟩, 
  ⟨(.some 132), .none, (.pick (.t 129) (.t 131) (.c (.a (.p (.b false))))), .any⟩, 
  ⟨(.some 6), .none, (.mv (.t 132)), .any⟩]) .ret) (.seq (.reg [
  ⟨(.some 134), .none, (.bin .eql (.t 73) (.c (.a (.p (.i .i64 7))))), .any⟩, 
  ⟨(.some 133), .none, (.mv (.t 134)), .any⟩]) (.cond (.t 133) (.seq (.reg [
  ⟨(.some 135), .none, (.fad 2 (.t 3)), .any⟩, 
  ⟨(.some 136), .none, (.ld 1 false (.t 135)), .any⟩, 
  ⟨(.some 137), .none, (.bin .eql (.t 136) (.c (.a (.p (.s []))))), .any⟩, 
  ⟨(.some 138), .none, (.mv (.t 137)), .any⟩, 
  ⟨(.some 139), (.some (138, true)), (.mv (.t 7)), .any⟩, 
  ⟨(.some 140), (.some (138, true)), (.bin .eql (.t 139) (.c (.a (.p (.i .i64 0))))), .any⟩, 
  ⟨(.some 141), .none, (.pick (.t 138) (.t 140) (.c (.a (.p (.b false))))), .any⟩, 
  ⟨(.some 6), .none, (.mv (.t 141)), .any⟩]) .ret) (.seq (.reg [
  ⟨(.some 143), .none, (.bin .eql (.t 73) (.c (.a (.p (.i .i64 8))))), .any⟩, 
  ⟨(.some 142), .none, (.mv (.t 143)), .any⟩]) (.cond (.t 142) (.seq (.reg [
  ⟨(.some 144), .none, (.mv (.t 8)), .any⟩, 
  ⟨(.some 145), .none, (.mv (.t 144)), .any⟩, 
  ⟨(.some 146), (.some (145, true)), (.fad 1 (.t 3)), .any⟩, 
  ⟨(.some 147), (.some (145, true)), (.ld 1 false (.t 146)), .any⟩, 
  ⟨(.some 148), (.some (145, true)), (.bin .eql (.t 147) (.c (.a (.p (.i .i64 0))))), .any⟩, 
  ⟨(.some 149), .none, (.pick (.t 145) (.t 148) (.c (.a (.p (.b false))))), .any⟩, 
  ⟨(.some 150), .none, (.mv (.t 149)), .any⟩, 
  ⟨(.some 151), (.some (150, true)), (.mv (.t 7)), .any⟩, 
  ⟨(.some 152), (.some (150, true)), (.bin .eql (.t 151) (.c (.a (.p (.i .i64 2))))), .any⟩, 
  ⟨(.some 153), .none, (.pick (.t 150) (.t 152) (.c (.a (.p (.b false))))), .any⟩, 
  ⟨(.some 6), .none, (.mv (.t 153)), .any⟩]) .ret) (.seq (.reg [
  ⟨(.some 155), .none, (.bin .eql (.t 73) (.c (.a (.p (.i .i64 9))))), .any⟩, 
  ⟨(.some 154), .none, (.mv (.t 155)), .any⟩]) (.cond (.t 154) (.seq (.reg [
  ⟨(.some 156), .none, (.mv (.t 9)), .any⟩, 
  ⟨(.some 157), .none, (.mv (.t 156)), .any⟩, 
  ⟨(.some 158), (.some (157, true)), (.mv (.t 7)), .any⟩, 
  ⟨(.some 159), (.some (157, true)), (.bin .eql (.t 158) (.c (.a (.p (.i .i64 0))))), .any⟩, 
  ⟨(.some 160), .none, (.pick (.t 157) (.t 159) (.c (.a (.p (.b false))))), .any⟩, 
  ⟨(.some 6), .none, (.mv (.t 160)), .any⟩]) .ret) .skip)))))))))))))))))) (.seq (.reg [
  ⟨(.some 6), .none, (.mv (.c (.a (.p (.b false))))), .any⟩]) .ret))))))), [(.tmp 6)]⟩
theorem cc70 : ccF Try.prog [] Try.f70 = some F70 := by kernel_rfl

/- gossamer/gossamerref06.con -/
def F84 : FnC := ⟨1, (.seq (.reg [
  ⟨(.some 2), .none, (.mv (.c (.a (.p (.b false))))), .any⟩]) (.seq (.seq (.reg [
  ⟨(.some 5), .none, (.mv (.t 0)), .any⟩, 
  ⟨(.some 6), .none, (.bin .eql (.t 5) (.c (.a (.p (.s []))))), .any⟩]) (.cond (.t 6) (.seq (.reg [
  ⟨(.some 2), .none, (.mv (.c (.a (.p (.b false))))), .any⟩]) .ret) .skip)) (.seq (.reg [
  ⟨(.some 8), .none, (.mv (.t 0)), .any⟩, 
  ⟨(.some 9), .none, (.call (.f 88) [(.t 8), (.c (.a (.p (.i .i64 0))))]), .any⟩, 
  ⟨(.some 7), .none, (.mv (.t 9)), .any⟩, 
  ⟨(.some 10), .none, (.ext (.t 7) 0), .any⟩, 
  ⟨(.some 11), .none, (.ext (.t 7) 1), .any⟩, 
  ⟨(.some 3), .none, (.new [(.p (.i .i64 0)), (.p (.s [])), (.p (.i .i64 0)), (.p (.i .i64 0))]), .any⟩, 
  ⟨.none, .none, (.st 4 (.t 3) (.t 10)), .any⟩, 
  ⟨(.some 4), .none, (.mv (.t 11)), .any⟩]) (.seq (.reg [
  ⟨(.some 12), .none, (.mv (.t 4)), .any⟩, 
  ⟨(.some 13), .none, (.bin .eql (.t 12) (.c (.a (.p (.i .i64 0))))), .any⟩, 
  ⟨(.some 14), .none, (.mv (.t 13)), .any⟩, 
  ⟨(.some 15), (.some (14, true)), (.fad 0 (.t 3)), .any⟩, 
  ⟨(.some 16), (.some (14, true)), (.ld 1 false (.t 15)), .any⟩, 
  ⟨(.some 17), (.some (14, true)), (.bin .eql (.t 16) (.c (.a (.p (.i .i64 2))))), .any⟩, 
  ⟨(.some 18), .none, (.pick (.t 14) (.t 17) (.c (.a (.p (.b false))))), .any⟩, 
  ⟨(.some 19), .none, (.mv (.t 18)), .any⟩, 
  ⟨(.some 20), (.some (19, true)), (.fad 1 (.t 3)), .any⟩, 
  ⟨(.some 21), (.some (19, true)), (.ld 1 false (.t 20)), .any⟩, 
  ⟨(.some 22), (.some (19, true)), (.mv (.t 0)), .any⟩, 
  ⟨(.some 23), (.some (19, true)), (.bin .eql (.t 21) (.t 22)), .any⟩, 
  ⟨(.some 24), .none, (.pick (.t 19) (.t 23) (.c (.a (.p (.b false))))), .any⟩, 
  ⟨(.some 2), .none, (.mv (.t 24)), .any⟩]) .ret)))), [(.tmp 2)]⟩
theorem cc84 : ccF Try.prog [] Try.f84 = some F84 := by kernel_rfl

/- gossamer/gossamerref01.One -/
def F88 : FnC := ⟨2, (.seq (.reg [
  ⟨(.some 4), .none, (.new [(.p (.i .i64 0)), (.p (.s [])), (.p (.i .i64 0)), (.p (.i .i64 0))]), .any⟩, 
  ⟨(.some 5), .none, (.mv (.c (.a (.p (.i .i64 0))))), .any⟩]) (.seq (.reg [
  ⟨(.some 12), .none, (.mv (.t 0)), .any⟩, 
  ⟨(.some 13), .none, (.mv (.t 1)), .any⟩, 
  ⟨(.some 14), .none, (.call (.f 100) [(.t 12), (.t 13)]), .any⟩, 
  ⟨(.some 11), .none, (.mv (.t 14)), .any⟩, 
  ⟨(.some 15), .none, (.ext (.t 11) 0), .any⟩, 
  ⟨(.some 16), .none, (.ext (.t 11) 1), .any⟩, 
  ⟨(.some 6), .none, (.mv (.t 15)), .any⟩, 
  ⟨(.some 7), .none, (.mv (.t 16)), .any⟩]) (.seq (.seq (.reg [
  ⟨(.some 17), .none, (.mv (.t 6)), .any⟩, 
  ⟨(.some 18), .none, (.bin .eql (.t 17) (.c (.a (.p (.i .i64 0))))), .any⟩]) (.cond (.t 18) (.seq (.reg [
  ⟨(.some 19), .none, (.mv (.t 0)), .any⟩, 
  ⟨(.some 20), .none, (.mv (.t 1)), .any⟩, 
  ⟨(.some 21), .none, (.call (.f 101) [(.t 19), (.t 20)]), .any⟩, 
  ⟨(.some 8), .none, (.mv (.t 21)), .any⟩]) (.seq (.seq (.reg [
  ⟨(.some 22), .none, (.mv (.t 8)), .any⟩, 
  ⟨(.some 23), .none, (.bin .eql (.t 22) (.c (.a (.p (.i .i64 0))))), .any⟩]) (.cond (.t 23) (.seq (.reg [
  ⟨(.some 24), .none, (.build [(.p (.i .i64 0)), (.p (.s [])), (.p (.i .i64 0)), (.p (.i .i64 0))] []), .any⟩, 
  ⟨.none, .none, (.st 4 (.t 4) (.t 24)), .any⟩, 
  ⟨(.some 5), .none, (.mv (.c (.a (.p (.i .i64 10))))), .any⟩]) .ret) .skip)) (.seq (.reg [
  ⟨(.some 25), .none, (.mv (.t 0)), .any⟩, 
  ⟨(.some 26), .none, (.mv (.t 1)), .any⟩, 
  ⟨(.some 27), .none, (.mv (.t 1)), .any⟩, 
  ⟨(.some 28), .none, (.mv (.t 8)), .any⟩, 
  ⟨(.some 29), .none, (.bin .add (.t 27) (.t 28)), .any⟩, 
  ⟨(.some 30), .none, (.sub (.t 25) (.some (.t 26)) (.some (.t 29))), .any⟩, 
  ⟨(.some 31), .none, (.mv (.t 1)), .any⟩, 
  ⟨(.some 32), .none, (.build [(.p (.i .i64 0)), (.p (.s [])), (.p (.i .i64 0)), (.p (.i .i64 0))] [(0, (1, (.c (.a (.p (.i .i64 5)))))), (1, (1, (.t 30))), (3, (1, (.t 31)))]), .any⟩, 
  ⟨.none, .none, (.st 4 (.t 4) (.t 32)), .any⟩, 
  ⟨(.some 5), .none, (.mv (.c (.a (.p (.i .i64 0))))), .any⟩]) .ret))) .skip)) (.seq (.reg [
  ⟨(.some 33), .none, (.mv (.t 0)), .any⟩, 
  ⟨(.some 34), .none, (.mv (.t 1)), .any⟩, 
  ⟨(.some 35), .none, (.mv (.t 1)), .any⟩, 
  ⟨(.some 36), .none, (.mv (.t 6)), .any⟩, 
  ⟨(.some 37), .none, (.bin .add (.t 35) (.t 36)), .any⟩, 
  ⟨(.some 38), .none, (.sub (.t 33) (.some (.t 34)) (.some (.t 37))), .any⟩, 
  ⟨(.some 39), .none, (.mv (.t 1)), .any⟩, 
  ⟨(.some 40), .none, (.build [(.p (.i .i64 0)), (.p (.s [])), (.p (.i .i64 0)), (.p (.i .i64 0))] [(1, (1, (.t 38))), (3, (1, (.t 39)))]), .any⟩, 
  ⟨(.some 9), .none, (.new [(.p (.i .i64 0)), (.p (.s [])), (.p (.i .i64 0)), (.p (.i .i64 0))]), .any⟩, 
  ⟨.none, .none, (.st 4 (.t 9) (.t 40)), .any⟩]) (.seq (.reg [
  ⟨(.some 41), .none, (.mv (.t 0)), .any⟩, 
  ⟨(.some 42), .none, (.mv (.t 1)), .any⟩, 
  ⟨(.some 43), .none, (.ixs (.t 41) (.t 42)), .any⟩, 
  ⟨(.some 44), .none, (.call (.f 102) [(.t 43)]), .any⟩, 
  ⟨(.some 10), .none, (.mv (.t 44)), .any⟩]) (.seq (.seq (.reg [
  ⟨(.some 45), .none, (.mv (.t 10)), .any⟩, 
  ⟨(.some 46), .none, (.bin .eql (.t 45) (.c (.a (.p (.i .i64 3))))), .any⟩]) (.cond (.t 46) (.seq (.seq (.reg [
  ⟨(.some 47), .none, (.mv (.t 7)), .any⟩]) (.cond (.t 47) (.seq (.reg [
  ⟨(.some 48), .none, (.build [(.p (.i .i64 0)), (.p (.s [])), (.p (.i .i64 0)), (.p (.i .i64 0))] []), .any⟩, 
  ⟨.none, .none, (.st 4 (.t 4) (.t 48)), .any⟩, 
  ⟨(.some 5), .none, (.mv (.c (.a (.p (.i .i64 10))))), .any⟩]) .ret) .skip)) (.seq (.seq (.reg [
  ⟨(.some 49), .none, (.mv (.t 6)), .any⟩, 
  ⟨(.some 50), .none, (.bin .gtr (.t 49) (.c (.a (.p (.i .i64 18))))), .any⟩, 
  ⟨(.some 51), .none, (.mv (.t 50)), .any⟩, 
  ⟨(.some 52), (.some (51, false)), (.mv (.t 6)), .any⟩, 
  ⟨(.some 53), (.some (51, false)), (.bin .gtr (.t 52) (.c (.a (.p (.i .i64 1))))), .any⟩, 
  ⟨(.some 54), (.some (51, false)), (.mv (.t 53)), .any⟩, 
  ⟨(.some 55), (.some (54, true)), (.mv (.t 0)), .any⟩, 
  ⟨(.some 56), (.some (54, true)), (.mv (.t 1)), .any⟩, 
  ⟨(.some 57), (.some (54, true)), (.ixs (.t 55) (.t 56)), .any⟩, 
  ⟨(.some 58), (.some (54, true)), (.bin .eql (.t 57) (.c (.a (.p (.i .u8 48))))), .any⟩, 
  ⟨(.some 59), (.some (51, false)), (.pick (.t 54) (.t 58) (.c (.a (.p (.b false))))), .any⟩, 
  ⟨(.some 60), .none, (.pick (.t 51) (.c (.a (.p (.b true)))) (.t 59)), .any⟩]) (.cond (.t 60) (.seq (.reg [
  ⟨(.some 61), .none, (.build [(.p (.i .i64 0)), (.p (.s [])), (.p (.i .i64 0)), (.p (.i .i64 0))] []), .any⟩, 
  ⟨.none, .none, (.st 4 (.t 4) (.t 61)), .any⟩, 
  ⟨(.some 5), .none, (.mv (.c (.a (.p (.i .i64 11))))), .any⟩]) .ret) .skip)) (.seq (.reg [
  ⟨(.some 62), .none, (.fad 0 (.t 9)), .any⟩, 
  ⟨.none, .none, (.st 1 (.t 62) (.c (.a (.p (.i .i64 3))))), .any⟩]) (.seq (.reg [
  ⟨(.some 63), .none, (.fad 1 (.t 9)), .any⟩, 
  ⟨(.some 64), .none, (.ld 1 false (.t 63)), .any⟩, 
  ⟨(.some 65), .none, (.call (.f 103) [(.t 64)]), .any⟩, 
  ⟨(.some 66), .none, (.fad 2 (.t 9)), .any⟩, 
  ⟨.none, .none, (.st 1 (.t 66) (.t 65)), .any⟩]) (.seq (.reg [
  ⟨(.some 67), .none, (.ld 4 true (.t 9)), .any⟩, 
  ⟨.none, .none, (.st 4 (.t 4) (.t 67)), .any⟩, 
  ⟨(.some 5), .none, (.mv (.c (.a (.p (.i .i64 0))))), .any⟩]) .ret))))) .skip)) (.seq (.seq (.reg [
  ⟨(.some 68), .none, (.mv (.t 6)), .any⟩, 
  ⟨(.some 69), .none, (.bin .gtr (.t 68) (.c (.a (.p (.i .i64 16))))), .any⟩]) (.cond (.t 69) (.seq (.reg [
  ⟨(.some 70), .none, (.build [(.p (.i .i64 0)), (.p (.s [])), (.p (.i .i64 0)), (.p (.i .i64 0))] []), .any⟩, 
  ⟨.none, .none, (.st 4 (.t 4) (.t 70)), .any⟩, 
  ⟨(.some 5), .none, (.mv (.c (.a (.p (.i .i64 11))))), .any⟩]) .ret) .skip)) (.seq (.reg [
  ⟨(.some 71), .none, (.mv (.t 10)), .any⟩, 
  ⟨(.some 72), .none, (.fad 0 (.t 9)), .any⟩, 
  ⟨.none, .none, (.st 1 (.t 72) (.t 71)), .any⟩]) (.seq (.seq (.reg [
  ⟨(.some 73), .none, (.fad 1 (.t 9)), .any⟩, 
  ⟨(.some 74), .none, (.ld 1 false (.t 73)), .any⟩, 
  ⟨(.some 75), .none, (.call (.f 104) [(.t 74)]), .any⟩]) (.cond (.t 75) (.reg [
  ⟨(.some 76), .none, (.fad 0 (.t 9)), .any⟩, 
  ⟨.none, .none, (.st 1 (.t 76) (.c (.a (.p (.i .i64 4))))), .any⟩]) .skip)) (.seq (.reg [
  ⟨(.some 77), .none, (.ld 4 true (.t 9)), .any⟩, 
  ⟨.none, .none, (.st 4 (.t 4) (.t 77)), .any⟩, 
  ⟨(.some 5), .none, (.mv (.c (.a (.p (.i .i64 0))))), .any⟩]) .ret)))))))))), [(.cell 4 4 true), (.tmp 5)]⟩
theorem cc88 : ccF Try.prog [] Try.f88 = some F88 := by kernel_rfl

/- gossamer/gossamerref01.run -/
def F100b0 : C := (.seq (.seq (.reg [
  ⟨(.some 9), .none, (.mv (.t 1)), .any⟩, 
  ⟨(.some 10), .none, (.mv (.t 6)), .any⟩, 
  ⟨(.some 11), .none, (.bin .add (.t 9) (.t 10)), .any⟩, 
  ⟨(.some 12), .none, (.mv (.t 0)), .any⟩, 
  ⟨(.some 13), .none, (.len true (.t 12)), .any⟩, 
  ⟨(.some 14), .none, (.bin .lss (.t 11) (.t 13)), .any⟩]) (.cond (.t 14) .skip (.exit 0))) (.block 1 (.seq (.reg [
  ⟨(.some 15), .none, (.mv (.t 0)), .any⟩, 
  ⟨(.some 16), .none, (.mv (.t 1)), .any⟩, 
  ⟨(.some 17), .none, (.mv (.t 6)), .any⟩, 
  ⟨(.some 18), .none, (.bin .add (.t 16) (.t 17)), .any⟩, 
  ⟨(.some 19), .none, (.ixs (.t 15) (.t 18)), .any⟩, 
  ⟨(.some 20), .none, (.call (.f 102) [(.t 19)]), .any⟩, 
  ⟨(.some 8), .none, (.mv (.t 20)), .any⟩]) (.seq (.seq (.reg [
  ⟨(.some 21), .none, (.mv (.t 8)), .any⟩, 
  ⟨(.some 22), .none, (.bin .lss (.t 21) (.c (.a (.p (.i .i64 1))))), .any⟩, 
  ⟨(.some 23), .none, (.mv (.t 22)), .any⟩, 
  ⟨(.some 24), (.some (23, false)), (.mv (.t 8)), .any⟩, 
  ⟨(.some 25), (.some (23, false)), (.bin .gtr (.t 24) (.c (.a (.p (.i .i64 3))))), .any⟩, 
  ⟨(.some 26), .none, (.pick (.t 23) (.c (.a (.p (.b true)))) (.t 25)), .any⟩]) (.cond (.t 26) (.seq (.reg [
  ⟨(.some 27), .none, (.mv (.t 6)), .any⟩, 
  ⟨(.some 28), .none, (.mv (.t 7)), .any⟩, 
  ⟨(.some 4), .none, (.mv (.t 27)), .any⟩, 
  ⟨(.some 5), .none, (.mv (.t 28)), .any⟩]) .ret) .skip)) (.seq (.reg [
  ⟨(.some 29), .none, (.mv (.t 7)), .any⟩, 
  ⟨(.some 30), .none, (.mv (.t 29)), .any⟩, 
  ⟨(.some 31), (.some (30, false)), (.mv (.t 8)), .any⟩, 
  ⟨(.some 32), (.some (30, false)), (.bin .lss (.t 31) (.c (.a (.p (.i .i64 3))))), .any⟩, 
  ⟨(.some 33), .none, (.pick (.t 30) (.c (.a (.p (.b true)))) (.t 32)), .any⟩, 
  ⟨(.some 7), .none, (.mv (.t 33)), .any⟩]) (.reg [
  ⟨(.some 34), .none, (.mv (.t 6)), .any⟩, 
  ⟨(.some 35), .none, (.bin .add (.t 34) (.c (.a (.p (.i .i64 1))))), .any⟩, 
  ⟨(.some 6), .none, (.mv (.t 35)), .any⟩]))))))
def F100 : FnC := ⟨2, (.seq (.reg [
  ⟨(.some 4), .none, (.mv (.c (.a (.p (.i .i64 0))))), .any⟩, 
  ⟨(.some 5), .none, (.mv (.c (.a (.p (.b false))))), .any⟩]) (.seq (.reg [
  ⟨(.some 6), .none, (.mv (.c (.a (.p (.i .i64 0))))), .any⟩, 
  ⟨(.some 7), .none, (.mv (.c (.a (.p (.b false))))), .any⟩]) (.seq (.block 0 (.loop F100b0)) (.seq (.reg [
  ⟨(.some 36), .none, (.mv (.t 6)), .any⟩, 
  ⟨(.some 37), .none, (.mv (.t 7)), .any⟩, 
  ⟨(.some 4), .none, (.mv (.t 36)), .any⟩, 
  ⟨(.some 5), .none, (.mv (.t 37)), .any⟩]) .ret)))), [(.tmp 4), (.tmp 5)]⟩
theorem cc100 : ccF Try.prog [] Try.f100 = some F100 := by kernel_rfl

/- gossamer/gossamerref01.sign -/
def F101b0 : C := (.seq (.seq (.reg [
  ⟨(.some 27), .none, (.mv (.t 5)), .any⟩, 
  ⟨(.some 28), .none, (.bin .lss (.t 27) (.c (.a (.p (.i .i64 13))))), .any⟩]) (.cond (.t 28) .skip (.exit 0))) (.seq (.block 1 (.seq (.reg [
  ⟨(.some 31), .none, (.mv (.t 5)), .rd⟩, 
  ⟨(.some 32), .none, (.ixs (.c (.a (.p (.s [92, 46, 40, 41, 61, 123, 125, 124, 43, 45, 42, 47, 60])))) (.t 31)), .rd⟩, 
  ⟨(.some 33), .none, (.mv (.t 0)), .rd⟩, 
  ⟨(.some 34), .none, (.mv (.t 1)), .rd⟩, 
  ⟨(.some 35), .none, (.ixs (.t 33) (.t 34)), .rd⟩, 
  ⟨(.some 36), .none, (.bin .eql (.t 32) (.t 35)), .any⟩]) (.cond (.t 36) (.seq (.reg [
  ⟨(.some 4), .none, (.mv (.c (.a (.p (.i .i64 1))))), .any⟩]) .ret) .skip))) (.reg [
  ⟨(.some 29), .none, (.mv (.t 5)), .any⟩, 
  ⟨(.some 30), .none, (.bin .add (.t 29) (.c (.a (.p (.i .i64 1))))), .any⟩, 
  ⟨(.some 5), .none, (.mv (.t 30)), .any⟩])))
def F101 : FnC := ⟨2, (.seq (.reg [
  ⟨(.some 4), .none, (.mv (.c (.a (.p (.i .i64 0))))), .any⟩]) (.seq (.seq (.reg [
  ⟨(.some 6), .none, (.mv (.t 1)), .any⟩, 
  ⟨(.some 7), .none, (.bin .add (.t 6) (.c (.a (.p (.i .i64 1))))), .any⟩, 
  ⟨(.some 8), .none, (.mv (.t 0)), .any⟩, 
  ⟨(.some 9), .none, (.len true (.t 8)), .any⟩, 
  ⟨(.some 10), .none, (.bin .lss (.t 7) (.t 9)), .any⟩, 
  ⟨(.some 11), .none, (.mv (.t 10)), .any⟩, 
  ⟨(.some 12), (.some (11, true)), (.mv (.t 0)), .any⟩, 
  ⟨(.some 13), (.some (11, true)), (.mv (.t 1)), .any⟩, 
  ⟨(.some 14), (.some (11, true)), (.mv (.t 1)), .any⟩, 
  ⟨(.some 15), (.some (11, true)), (.bin .add (.t 14) (.c (.a (.p (.i .i64 2))))), .any⟩, 
  ⟨(.some 16), (.some (11, true)), (.sub (.t 12) (.some (.t 13)) (.some (.t 15))), .any⟩, 
  ⟨(.some 17), (.some (11, true)), (.bin .eql (.t 16) (.c (.a (.p (.s [45, 62]))))), .any⟩, 
  ⟨(.some 18), (.some (11, true)), (.mv (.t 17)), .any⟩, 
  ⟨(.some 19), (.some (18, false)), (.mv (.t 0)), .any⟩, 
  ⟨(.some 20), (.some (18, false)), (.mv (.t 1)), .any⟩, 
  ⟨(.some 21), (.some (18, false)), (.mv (.t 1)), .any⟩, 
  ⟨(.some 22), (.some (18, false)), (.bin .add (.t 21) (.c (.a (.p (.i .i64 2))))), .any⟩, 
  ⟨(.some 23), (.some (18, false)), (.sub (.t 19) (.some (.t 20)) (.some (.t 22))), .any⟩, 
  ⟨(.some 24), (.some (18, false)), (.bin .eql (.t 23) (.c (.a (.p (.s [61, 61]))))), .any⟩, 
  ⟨(.some 25), (.some (11, true)), (.pick (.t 18) (.c (.a (.p (.b true)))) (.t 24)), .any⟩, 
  ⟨(.some 26), .none, (.pick (.t 11) (.t 25) (.c (.a (.p (.b false))))), .any⟩]) (.cond (.t 26) (.seq (.reg [
  ⟨(.some 4), .none, (.mv (.c (.a (.p (.i .i64 2))))), .any⟩]) .ret) .skip)) (.seq (.seq (.reg [
  ⟨(.some 5), .none, (.mv (.c (.a (.p (.i .i64 0))))), .any⟩]) (.block 0 (.loop F101b0))) (.seq (.reg [
  ⟨(.some 4), .none, (.mv (.c (.a (.p (.i .i64 0))))), .any⟩]) .ret)))), [(.tmp 4)]⟩
theorem cc101 : ccF Try.prog [] Try.f101 = some F101 := by kernel_rfl

/- gossamer/gossamerref01.class -/
def F102 : FnC := ⟨1, (.seq (.reg [
  ⟨(.some 2), .none, (.mv (.c (.a (.p (.i .i64 0))))), .any⟩]) (.seq (.seq (.reg [
  ⟨(.some 3), .none, (.mv (.t 0)), .any⟩, 
  ⟨(.some 4), .none, (.bin .geq (.t 3) (.c (.a (.p (.i .u8 97))))), .any⟩, 
  ⟨(.some 5), .none, (.mv (.t 4)), .any⟩, 
  ⟨(.some 6), (.some (5, true)), (.mv (.t 0)), .any⟩, 
  ⟨(.some 7), (.some (5, true)), (.bin .leq (.t 6) (.c (.a (.p (.i .u8 122))))), .any⟩, 
  ⟨(.some 8), .none, (.pick (.t 5) (.t 7) (.c (.a (.p (.b false))))), .any⟩]) (.cond (.t 8) (.seq (.reg [
  ⟨(.some 2), .none, (.mv (.c (.a (.p (.i .i64 1))))), .any⟩]) .ret) .skip)) (.seq (.seq (.reg [
  ⟨(.some 9), .none, (.mv (.t 0)), .any⟩, 
  ⟨(.some 10), .none, (.bin .geq (.t 9) (.c (.a (.p (.i .u8 65))))), .any⟩, 
  ⟨(.some 11), .none, (.mv (.t 10)), .any⟩, 
  ⟨(.some 12), (.some (11, true)), (.mv (.t 0)), .any⟩, 
  ⟨(.some 13), (.some (11, true)), (.bin .leq (.t 12) (.c (.a (.p (.i .u8 90))))), .any⟩, 
  ⟨(.some 14), .none, (.pick (.t 11) (.t 13) (.c (.a (.p (.b false))))), .any⟩]) (.cond (.t 14) (.seq (.reg [
  ⟨(.some 2), .none, (.mv (.c (.a (.p (.i .i64 2))))), .any⟩]) .ret) .skip)) (.seq (.seq (.reg [
  ⟨(.some 15), .none, (.mv (.t 0)), .any⟩, 
  ⟨(.some 16), .none, (.bin .geq (.t 15) (.c (.a (.p (.i .u8 48))))), .any⟩, 
  ⟨(.some 17), .none, (.mv (.t 16)), .any⟩, 
  ⟨(.some 18), (.some (17, true)), (.mv (.t 0)), .any⟩, 
  ⟨(.some 19), (.some (17, true)), (.bin .leq (.t 18) (.c (.a (.p (.i .u8 57))))), .any⟩, 
  ⟨(.some 20), .none, (.pick (.t 17) (.t 19) (.c (.a (.p (.b false))))), .any⟩]) (.cond (.t 20) (.seq (.reg [
  ⟨(.some 2), .none, (.mv (.c (.a (.p (.i .i64 3))))), .any⟩]) .ret) .skip)) (.seq (.seq (.reg [
  ⟨(.some 21), .none, (.mv (.t 0)), .any⟩, 
  ⟨(.some 22), .none, (.bin .eql (.t 21) (.c (.a (.p (.i .u8 32))))), .any⟩, 
  ⟨(.some 23), .none, (.mv (.t 22)), .any⟩, 
  ⟨(.some 24), (.some (23, false)), (.mv (.t 0)), .any⟩, 
  ⟨(.some 25), (.some (23, false)), (.bin .eql (.t 24) (.c (.a (.p (.i .u8 10))))), .any⟩, 
  ⟨(.some 26), .none, (.pick (.t 23) (.c (.a (.p (.b true)))) (.t 25)), .any⟩, 
  ⟨(.some 27), .none, (.mv (.t 26)), .any⟩, 
  ⟨(.some 28), (.some (27, false)), (.mv (.t 0)), .any⟩, 
  ⟨(.some 29), (.some (27, false)), (.bin .eql (.t 28) (.c (.a (.p (.i .u8 9))))), .any⟩, 
  ⟨(.some 30), .none, (.pick (.t 27) (.c (.a (.p (.b true)))) (.t 29)), .any⟩]) (.cond (.t 30) (.seq (.reg [
  ⟨(.some 2), .none, (.mv (.c (.a (.p (.i .i64 4))))), .any⟩]) .ret) .skip)) (.seq (.reg [
  ⟨(.some 2), .none, (.mv (.c (.a (.p (.i .i64 0))))), .any⟩]) .ret)))))), [(.tmp 2)]⟩
theorem cc102 : ccF Try.prog [] Try.f102 = some F102 := by kernel_rfl

/- gossamer/gossamerref01.number -/
def F103b0 : C := (.seq (.seq (.reg [
  ⟨(.some 5), .none, (.mv (.t 4)), .any⟩, 
  ⟨(.some 6), .none, (.mv (.t 0)), .any⟩, 
  ⟨(.some 7), .none, (.len true (.t 6)), .any⟩, 
  ⟨(.some 8), .none, (.bin .lss (.t 5) (.t 7)), .any⟩]) (.cond (.t 8) .skip (.exit 0))) (.seq (.block 1 (.reg [
  ⟨(.some 11), .none, (.mv (.t 3)), .any⟩, 
  ⟨(.some 12), .none, (.bin .mul (.c (.a (.p (.i .i64 10)))) (.t 11)), .any⟩, 
  ⟨(.some 13), .none, (.mv (.t 0)), .any⟩, 
  ⟨(.some 14), .none, (.mv (.t 4)), .any⟩, 
  ⟨(.some 15), .none, (.ixs (.t 13) (.t 14)), .any⟩, 
  ⟨(.some 16), .none, (.cvi .i64 (.t 15)), .any⟩, 
  ⟨(.some 17), .none, (.bin .add (.t 12) (.t 16)), .any⟩, 
  ⟨(.some 18), .none, (.bin .sub (.t 17) (.c (.a (.p (.i .i64 48))))), .any⟩, 
  ⟨(.some 3), .none, (.mv (.t 18)), .any⟩])) (.reg [
  ⟨(.some 9), .none, (.mv (.t 4)), .any⟩, 
  ⟨(.some 10), .none, (.bin .add (.t 9) (.c (.a (.p (.i .i64 1))))), .any⟩, 
  ⟨(.some 4), .none, (.mv (.t 10)), .any⟩])))
def F103 : FnC := ⟨1, (.seq (.reg [
  ⟨(.some 2), .none, (.mv (.c (.a (.p (.i .i64 0))))), .any⟩]) (.seq (.reg [
  ⟨(.some 3), .none, (.mv (.c (.a (.p (.i .i64 0))))), .any⟩]) (.seq (.seq (.reg [
  ⟨(.some 4), .none, (.mv (.c (.a (.p (.i .i64 0))))), .any⟩]) (.block 0 (.loop F103b0))) (.seq (.reg [
  ⟨(.some 19), .none, (.mv (.t 3)), .any⟩, 
  ⟨(.some 2), .none, (.mv (.t 19)), .any⟩]) .ret)))), [(.tmp 2)]⟩
theorem cc103 : ccF Try.prog [] Try.f103 = some F103 := by kernel_rfl

/- gossamer/gossamerref01.Word -/
def F104 : FnC := ⟨1, (.seq (.reg [
  ⟨(.some 2), .none, (.mv (.c (.a (.p (.b false))))), .any⟩]) (.seq (.reg [
  ⟨(.some 3), .none, (.mv (.t 0)), .any⟩, 
  ⟨(.some 4), .none, (.bin .eql (.t 3) (.c (.a (.p (.s [108, 101, 116]))))), .any⟩, 
  ⟨(.some 5), .none, (.mv (.t 4)), .any⟩, 
  ⟨(.some 6), (.some (5, false)), (.mv (.t 0)), .any⟩, 
  ⟨(.some 7), (.some (5, false)), (.bin .eql (.t 6) (.c (.a (.p (.s [108, 101, 116, 114, 101, 99]))))), .any⟩, 
  ⟨(.some 8), .none, (.pick (.t 5) (.c (.a (.p (.b true)))) (.t 7)), .any⟩, 
  ⟨(.some 9), .none, (.mv (.t 8)), .any⟩, 
  ⟨(.some 10), (.some (9, false)), (.mv (.t 0)), .any⟩, 
  ⟨(.some 11), (.some (9, false)), (.bin .eql (.t 10) (.c (.a (.p (.s [105, 110]))))), .any⟩, 
  ⟨(.some 12), .none, (.pick (.t 9) (.c (.a (.p (.b true)))) (.t 11)), .any⟩, 
  ⟨(.some 13), .none, (.mv (.t 12)), .any⟩, 
  ⟨(.some 14), (.some (13, false)), (.mv (.t 0)), .any⟩, 
  ⟨(.some 15), (.some (13, false)), (.bin .eql (.t 14) (.c (.a (.p (.s [99, 97, 115, 101]))))), .any⟩, 
  ⟨(.some 16), .none, (.pick (.t 13) (.c (.a (.p (.b true)))) (.t 15)), .any⟩, 
  ⟨(.some 17), .none, (.mv (.t 16)), .any⟩, 
  ⟨(.some 18), (.some (17, false)), (.mv (.t 0)), .any⟩, 
  ⟨(.some 19), (.some (17, false)), (.bin .eql (.t 18) (.c (.a (.p (.s [111, 102]))))), .any⟩, 
  ⟨(.some 20), .none, (.pick (.t 17) (.c (.a (.p (.b true)))) (.t 19)), .any⟩, 
  ⟨(.some 2), .none, (.mv (.t 20)), .any⟩]) .ret)), [(.tmp 2)]⟩
theorem cc104 : ccF Try.prog [] Try.f104 = some F104 := by kernel_rfl

def tbl : List (FuncId × FnC) := [(3, F3), (4, F4), (5, F5), (6, F6), (7, F7), (8, F8), (15, F15), (16, F16), (17, F17), (18, F18), (19, F19), (20, F20), (21, F21), (22, F22), (23, F23), (24, F24), (25, F25), (26, F26), (27, F27), (28, F28), (29, F29), (30, F30), (31, F31), (49, F49), (50, F50), (51, F51), (52, F52), (53, F53), (54, F54), (55, F55), (56, F56), (57, F57), (58, F58), (59, F59), (60, F60), (69, F69), (70, F70), (84, F84), (88, F88), (100, F100), (101, F101), (102, F102), (103, F103), (104, F104)]

theorem tblOk : ∀ x, x ∈ tbl → ∃ fn, Try.prog.funcs[x.1]? = some fn ∧ ccF Try.prog [] fn = some x.2 := by
  intro x hx
  simp only [tbl, List.mem_cons, List.not_mem_nil, or_false] at hx
  rcases hx with rfl | rfl | rfl | rfl | rfl | rfl | rfl | rfl | rfl | rfl | rfl | rfl | rfl | rfl | rfl | rfl | rfl | rfl | rfl | rfl | rfl | rfl | rfl | rfl | rfl | rfl | rfl | rfl | rfl | rfl | rfl | rfl | rfl | rfl | rfl | rfl | rfl | rfl | rfl | rfl | rfl | rfl | rfl | rfl
  · exact ⟨_, Try.func3, cc3⟩
  · exact ⟨_, Try.func4, cc4⟩
  · exact ⟨_, Try.func5, cc5⟩
  · exact ⟨_, Try.func6, cc6⟩
  · exact ⟨_, Try.func7, cc7⟩
  · exact ⟨_, Try.func8, cc8⟩
  · exact ⟨_, Try.func15, cc15⟩
  · exact ⟨_, Try.func16, cc16⟩
  · exact ⟨_, Try.func17, cc17⟩
  · exact ⟨_, Try.func18, cc18⟩
  · exact ⟨_, Try.func19, cc19⟩
  · exact ⟨_, Try.func20, cc20⟩
  · exact ⟨_, Try.func21, cc21⟩
  · exact ⟨_, Try.func22, cc22⟩
  · exact ⟨_, Try.func23, cc23⟩
  · exact ⟨_, Try.func24, cc24⟩
  · exact ⟨_, Try.func25, cc25⟩
  · exact ⟨_, Try.func26, cc26⟩
  · exact ⟨_, Try.func27, cc27⟩
  · exact ⟨_, Try.func28, cc28⟩
  · exact ⟨_, Try.func29, cc29⟩
  · exact ⟨_, Try.func30, cc30⟩
  · exact ⟨_, Try.func31, cc31⟩
  · exact ⟨_, Try.func49, cc49⟩
  · exact ⟨_, Try.func50, cc50⟩
  · exact ⟨_, Try.func51, cc51⟩
  · exact ⟨_, Try.func52, cc52⟩
  · exact ⟨_, Try.func53, cc53⟩
  · exact ⟨_, Try.func54, cc54⟩
  · exact ⟨_, Try.func55, cc55⟩
  · exact ⟨_, Try.func56, cc56⟩
  · exact ⟨_, Try.func57, cc57⟩
  · exact ⟨_, Try.func58, cc58⟩
  · exact ⟨_, Try.func59, cc59⟩
  · exact ⟨_, Try.func60, cc60⟩
  · exact ⟨_, Try.func69, cc69⟩
  · exact ⟨_, Try.func70, cc70⟩
  · exact ⟨_, Try.func84, cc84⟩
  · exact ⟨_, Try.func88, cc88⟩
  · exact ⟨_, Try.func100, cc100⟩
  · exact ⟨_, Try.func101, cc101⟩
  · exact ⟨_, Try.func102, cc102⟩
  · exact ⟨_, Try.func103, cc103⟩
  · exact ⟨_, Try.func104, cc104⟩

end Go.Proofs.Ytlgekplmbmkcmaa
