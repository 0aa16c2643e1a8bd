/- The functions of the seat, turned into instructions: each is what the compiler text makes of the given program, by the kernel. -/
import Derived.Test.YtgdaanehmdgmeaaProg
import Derived.Test.YtgdaanehmdgmeaaFx22
namespace Go.Proofs.Ytgdaanehmdgmeaa
open Go.Fx

/- gossamer/gossamerlaw13.WireTells -/
def F3 : FnC := ⟨2, (.seq (.reg [
  ⟨(.some 2), .none, (.box 2 (.t 0)), .any⟩, 
  ⟨(.some 3), .none, (.box 4 (.t 1)), .any⟩, 
  ⟨(.some 4), .none, (.mv (.c (.a (.p (.b false))))), .any⟩]) (.seq (.seq (.reg [
  ⟨(.some 21), .none, (.ld 2 true (.t 2)), .any⟩, 
  ⟨(.some 22), .none, (.call (.f 13) [(.t 21), (.c (.a (.p (.i .i64 150))))]), .any⟩, 
  ⟨(.some 23), .none, (.not (.t 22)), .any⟩]) (.cond (.t 23) (.seq (.reg [
  ⟨(.some 24), .none, (.call (.f 14) []), .any⟩, 
  ⟨(.some 4), .none, (.mv (.t 24)), .any⟩]) .ret) .skip)) (.seq (.reg [
  ⟨(.some 26), .none, (.ld 2 true (.t 2)), .any⟩, 
  ⟨(.some 27), .none, (.fad 0 (.t 3)), .any⟩, 
  ⟨(.some 28), .none, (.ld 2 true (.t 27)), .any⟩, 
  ⟨(.some 29), .none, (.call (.f 15) [(.t 26), (.t 28)]), .any⟩, 
  ⟨(.some 25), .none, (.mv (.t 29)), .any⟩, 
  ⟨(.some 30), .none, (.ext (.t 25) 0), .any⟩, 
  ⟨(.some 31), .none, (.ext (.t 25) 1), .any⟩, 
  ⟨(.some 5), .none, (.new [(.p (.i .i64 0)), (.p (.i .i64 0))]), .any⟩, 
  ⟨.none, .none, (.st 2 (.t 5) (.t 30)), .any⟩, 
  ⟨(.some 6), .none, (.mv (.t 31)), .any⟩]) (.seq (.reg [
  ⟨(.some 33), .none, (.ld 2 true (.t 2)), .any⟩, 
  ⟨(.some 34), .none, (.fad 0 (.t 3)), .any⟩, 
  ⟨(.some 35), .none, (.ld 2 true (.t 34)), .any⟩, 
  ⟨(.some 36), .none, (.call (.f 16) [(.t 33), (.t 35)]), .any⟩, 
  ⟨(.some 32), .none, (.mv (.t 36)), .any⟩, 
  ⟨(.some 37), .none, (.ext (.t 32) 0), .any⟩, 
  ⟨(.some 38), .none, (.ext (.t 32) 1), .any⟩, 
  ⟨(.some 7), .none, (.new [(.p (.i .i64 0)), (.p (.i .i64 0))]), .any⟩, 
  ⟨.none, .none, (.st 2 (.t 7) (.t 37)), .any⟩, 
  ⟨(.some 8), .none, (.mv (.t 38)), .any⟩]) (.seq (.reg [
  ⟨(.some 40), .none, (.ld 2 true (.t 2)), .any⟩, 
  ⟨(.some 41), .none, (.fad 0 (.t 3)), .any⟩, 
  ⟨(.some 42), .none, (.ld 2 true (.t 41)), .any⟩, 
  ⟨(.some 43), .none, (.fad 2 (.t 3)), .any⟩, 
  ⟨(.some 44), .none, (.ld 2 true (.t 43)), .any⟩, 
  ⟨(.some 45), .none, (.call (.f 17) [(.t 40), (.t 42), (.t 44)]), .any⟩, 
  ⟨(.some 39), .none, (.mv (.t 45)), .any⟩, 
  ⟨(.some 46), .none, (.ext (.t 39) 0), .any⟩, 
  ⟨(.some 47), .none, (.ext (.t 39) 1), .any⟩, 
  ⟨(.some 9), .none, (.new [.nil, (.p (.i .i64 0))]), .any⟩, 
  ⟨.none, .none, (.st 2 (.t 9) (.t 46)), .any⟩, 
  ⟨(.some 10), .none, (.mv (.t 47)), .any⟩]) (.seq (.reg [
  ⟨(.some 49), .none, (.ld 2 true (.t 2)), .any⟩, 
  ⟨(.some 50), .none, (.fad 0 (.t 3)), .any⟩, 
  ⟨(.some 51), .none, (.ld 2 true (.t 50)), .any⟩, 
  ⟨(.some 52), .none, (.fad 2 (.t 3)), .any⟩, 
  ⟨(.some 53), .none, (.ld 2 true (.t 52)), .any⟩, 
  ⟨(.some 54), .none, (.call (.f 18) [(.t 49), (.t 51), (.t 53)]), .any⟩, 
  ⟨(.some 48), .none, (.mv (.t 54)), .any⟩, 
  ⟨(.some 55), .none, (.ext (.t 48) 0), .any⟩, 
  ⟨(.some 56), .none, (.ext (.t 48) 1), .any⟩, 
  ⟨(.some 11), .none, (.new [.nil, (.p (.i .i64 0))]), .any⟩, 
  ⟨.none, .none, (.st 2 (.t 11) (.t 55)), .any⟩, 
  ⟨(.some 12), .none, (.mv (.t 56)), .any⟩]) (.seq (.reg [
  ⟨(.some 58), .none, (.ld 2 true (.t 2)), .any⟩, 
  ⟨(.some 59), .none, (.fad 0 (.t 3)), .any⟩, 
  ⟨(.some 60), .none, (.ld 2 true (.t 59)), .any⟩, 
  ⟨(.some 61), .none, (.fad 2 (.t 3)), .any⟩, 
  ⟨(.some 62), .none, (.ld 2 true (.t 61)), .any⟩, 
  ⟨(.some 63), .none, (.call (.f 19) [(.t 58), (.t 60), (.t 62)]), .any⟩, 
  ⟨(.some 57), .none, (.mv (.t 63)), .any⟩, 
  ⟨(.some 64), .none, (.ext (.t 57) 0), .any⟩, 
  ⟨(.some 65), .none, (.ext (.t 57) 1), .any⟩, 
  ⟨(.some 13), .none, (.new [.nil, (.p (.i .i64 0))]), .any⟩, 
  ⟨.none, .none, (.st 2 (.t 13) (.t 64)), .any⟩, 
  ⟨(.some 14), .none, (.mv (.t 65)), .any⟩]) (.seq (.reg [
  ⟨(.some 67), .none, (.ld 2 true (.t 2)), .any⟩, 
  ⟨(.some 68), .none, (.fad 0 (.t 3)), .any⟩, 
  ⟨(.some 69), .none, (.ld 2 true (.t 68)), .any⟩, 
  ⟨(.some 70), .none, (.fad 2 (.t 3)), .any⟩, 
  ⟨(.some 71), .none, (.ld 2 true (.t 70)), .any⟩, 
  ⟨(.some 72), .none, (.call (.f 20) [(.t 67), (.t 69), (.t 71)]), .any⟩, 
  ⟨(.some 66), .none, (.mv (.t 72)), .any⟩, 
  ⟨(.some 73), .none, (.ext (.t 66) 0), .any⟩, 
  ⟨(.some 74), .none, (.ext (.t 66) 1), .any⟩, 
  ⟨(.some 15), .none, (.new [.nil, (.p (.i .i64 0))]), .any⟩, 
  ⟨.none, .none, (.st 2 (.t 15) (.t 73)), .any⟩, 
  ⟨(.some 16), .none, (.mv (.t 74)), .any⟩]) (.seq (.reg [
  ⟨(.some 76), .none, (.ld 2 true (.t 2)), .any⟩, 
  ⟨(.some 77), .none, (.fad 0 (.t 3)), .any⟩, 
  ⟨(.some 78), .none, (.ld 2 true (.t 77)), .any⟩, 
  ⟨(.some 79), .none, (.fad 2 (.t 3)), .any⟩, 
  ⟨(.some 80), .none, (.ld 2 true (.t 79)), .any⟩, 
  ⟨(.some 81), .none, (.call (.f 21) [(.t 76), (.t 78), (.t 80)]), .any⟩, 
  ⟨(.some 75), .none, (.mv (.t 81)), .any⟩, 
  ⟨(.some 82), .none, (.ext (.t 75) 0), .any⟩, 
  ⟨(.some 83), .none, (.ext (.t 75) 1), .any⟩, 
  ⟨(.some 17), .none, (.new [.nil, (.p (.i .i64 0))]), .any⟩, 
  ⟨.none, .none, (.st 2 (.t 17) (.t 82)), .any⟩, 
  ⟨(.some 18), .none, (.mv (.t 83)), .any⟩]) (.seq (.reg [
  ⟨(.some 85), .none, (.ld 2 true (.t 2)), .any⟩, 
  ⟨(.some 86), .none, (.fad 0 (.t 3)), .any⟩, 
  ⟨(.some 87), .none, (.ld 2 true (.t 86)), .any⟩, 
  ⟨(.some 88), .none, (.fad 2 (.t 3)), .any⟩, 
  ⟨(.some 89), .none, (.ld 2 true (.t 88)), .any⟩, 
  ⟨(.some 90), .none, (.call (.f 22) [(.t 85), (.t 87), (.t 89)]), .any⟩, 
  ⟨(.some 84), .none, (.mv (.t 90)), .any⟩, 
  ⟨(.some 91), .none, (.ext (.t 84) 0), .any⟩, 
  ⟨(.some 92), .none, (.ext (.t 84) 1), .any⟩, 
  ⟨(.some 19), .none, (.new [.nil, (.p (.i .i64 0))]), .any⟩, 
  ⟨.none, .none, (.st 2 (.t 19) (.t 91)), .any⟩, 
  ⟨(.some 20), .none, (.mv (.t 92)), .any⟩]) (.seq (.reg [
  ⟨(.some 93), .none, (.call (.f 14) []), .any⟩, 
  ⟨(.some 94), .none, (.mv (.t 93)), .any⟩, 
  ⟨(.some 95), (.some (94, true)), (.ld 2 true (.t 5)), .any⟩, 
  ⟨(.some 96), (.some (94, true)), (.ld 2 true (.t 7)), .any⟩, 
  ⟨(.some 97), (.some (94, true)), (.eqg false [0, 0] (.t 95) (.t 96)), .any⟩, 
  ⟨(.some 98), .none, (.pick (.t 94) (.t 97) (.c (.a (.p (.b false))))), .any⟩, 
  ⟨(.some 99), .none, (.mv (.t 98)), .any⟩, 
  ⟨(.some 100), (.some (99, true)), (.mv (.t 6)), .any⟩, 
  ⟨(.some 101), (.some (99, true)), (.mv (.t 8)), .any⟩, 
  ⟨(.some 102), (.some (99, true)), (.bin .eql (.t 100) (.t 101)), .any⟩, 
  ⟨(.some 103), .none, (.pick (.t 99) (.t 102) (.c (.a (.p (.b false))))), .any⟩, 
  ⟨(.some 104), .none, (.mv (.t 103)), .any⟩, 
  ⟨(.some 105), (.some (104, true)), (.ld 2 true (.t 9)), .any⟩, 
  ⟨(.some 106), (.some (104, true)), (.ld 2 true (.t 11)), .any⟩, 
  ⟨(.some 107), (.some (104, true)), (.call (.f 23) [(.t 105), (.t 106)]), .any⟩, 
  ⟨(.some 108), .none, (.pick (.t 104) (.t 107) (.c (.a (.p (.b false))))), .any⟩, 
  ⟨(.some 109), .none, (.mv (.t 108)), .any⟩, 
  ⟨(.some 110), (.some (109, true)), (.mv (.t 10)), .any⟩, 
  ⟨(.some 111), (.some (109, true)), (.mv (.t 12)), .any⟩, 
  ⟨(.some 112), (.some (109, true)), (.bin .eql (.t 110) (.t 111)), .any⟩, 
  ⟨(.some 113), .none, (.pick (.t 109) (.t 112) (.c (.a (.p (.b false))))), .any⟩, 
  ⟨(.some 114), .none, (.mv (.t 113)), .any⟩, 
  ⟨(.some 115), (.some (114, true)), (.ld 2 true (.t 13)), .any⟩, 
  ⟨(.some 116), (.some (114, true)), (.ld 2 true (.t 15)), .any⟩, 
  ⟨(.some 117), (.some (114, true)), (.call (.f 23) [(.t 115), (.t 116)]), .any⟩, 
  ⟨(.some 118), .none, (.pick (.t 114) (.t 117) (.c (.a (.p (.b false))))), .any⟩, 
  ⟨(.some 119), .none, (.mv (.t 118)), .any⟩, 
  ⟨(.some 120), (.some (119, true)), (.mv (.t 14)), .any⟩, 
  ⟨(.some 121), (.some (119, true)), (.mv (.t 16)), .any⟩, 
  ⟨(.some 122), (.some (119, true)), (.bin .eql (.t 120) (.t 121)), .any⟩, 
  ⟨(.some 123), .none, (.pick (.t 119) (.t 122) (.c (.a (.p (.b false))))), .any⟩, 
  ⟨(.some 124), .none, (.mv (.t 123)), .any⟩, 
  ⟨(.some 125), (.some (124, true)), (.ld 2 true (.t 17)), .any⟩, 
  ⟨(.some 126), (.some (124, true)), (.ld 2 true (.t 19)), .any⟩, 
  ⟨(.some 127), (.some (124, true)), (.call (.f 23) [(.t 125), (.t 126)]), .any⟩, 
  ⟨(.some 128), .none, (.pick (.t 124) (.t 127) (.c (.a (.p (.b false))))), .any⟩, 
  ⟨(.some 129), .none, (.mv (.t 128)), .any⟩, 
  ⟨(.some 130), (.some (129, true)), (.mv (.t 18)), .any⟩, 
  ⟨(.some 131), (.some (129, true)), (.mv (.t 20)), .any⟩, 
  ⟨(.some 132), (.some (129, true)), (.bin .eql (.t 130) (.t 131)), .any⟩, 
  ⟨(.some 133), .none, (.pick (.t 129) (.t 132) (.c (.a (.p (.b false))))), .any⟩, 
  ⟨(.some 4), .none, (.mv (.t 133)), .any⟩]) .ret))))))))))), [(.tmp 4)]⟩
theorem cc3 : ccF Try.prog [(26, [0, 0]), (66, [1, 0]), (26, [9])] Try.f3 = some F3 := by kernel_rfl

/- gossamer/gossamerlaw13.WireMoves -/
def F4 : FnC := ⟨2, (.seq (.reg [
  ⟨(.some 2), .none, (.box 2 (.t 0)), .any⟩, 
  ⟨(.some 3), .none, (.box 4 (.t 1)), .any⟩, 
  ⟨(.some 4), .none, (.mv (.c (.a (.p (.b false))))), .any⟩]) (.seq (.seq (.reg [
  ⟨(.some 19), .none, (.call (.f 14) []), .any⟩, 
  ⟨(.some 20), .none, (.not (.t 19)), .any⟩, 
  ⟨(.some 21), .none, (.mv (.t 20)), .any⟩, 
  ⟨(.some 22), (.some (21, false)), (.ld 2 true (.t 2)), .any⟩, 
  ⟨(.some 23), (.some (21, false)), (.call (.f 13) [(.t 22), (.c (.a (.p (.i .i64 150))))]), .any⟩, 
  ⟨(.some 24), (.some (21, false)), (.not (.t 23)), .any⟩, 
  ⟨(.some 25), .none, (.pick (.t 21) (.c (.a (.p (.b true)))) (.t 24)), .any⟩, 
  ⟨(.some 26), .none, (.mv (.t 25)), .any⟩, 
  ⟨(.some 27), (.some (26, false)), (.ld 2 true (.t 2)), .any⟩, 
  ⟨(.some 28), (.some (26, false)), (.call (.f 24) [(.t 27)]), .any⟩, 
  ⟨(.some 29), (.some (26, false)), (.bin .neq (.t 28) (.c (.a (.p (.i .i64 0))))), .any⟩, 
  ⟨(.some 30), .none, (.pick (.t 26) (.c (.a (.p (.b true)))) (.t 29)), .any⟩, 
  ⟨(.some 31), .none, (.mv (.t 30)), .any⟩, 
  ⟨(.some 32), (.some (31, false)), (.ld 2 true (.t 2)), .any⟩, 
  ⟨(.some 33), (.some (31, false)), (.fad 0 (.t 3)), .any⟩, 
  ⟨(.some 34), (.some (31, false)), (.ld 2 true (.t 33)), .any⟩, 
  ⟨(.some 35), (.some (31, false)), (.call (.f 25) [(.t 32), (.t 34)]), .any⟩, 
  ⟨(.some 36), (.some (31, false)), (.not (.t 35)), .any⟩, 
  ⟨(.some 37), .none, (.pick (.t 31) (.c (.a (.p (.b true)))) (.t 36)), .any⟩, 
  ⟨(.some 38), .none, (.mv (.t 37)), .any⟩, 
  ⟨(.some 39), (.some (38, false)), (.ld 2 true (.t 2)), .any⟩, 
  ⟨(.some 40), (.some (38, false)), (.fad 2 (.t 3)), .any⟩, 
  ⟨(.some 41), (.some (38, false)), (.ld 2 true (.t 40)), .any⟩, 
  ⟨(.some 42), (.some (38, false)), (.call (.f 25) [(.t 39), (.t 41)]), .any⟩, 
  ⟨(.some 43), (.some (38, false)), (.not (.t 42)), .any⟩, 
  ⟨(.some 44), .none, (.pick (.t 38) (.c (.a (.p (.b true)))) (.t 43)), .any⟩, 
  ⟨(.some 45), .none, (.mv (.t 44)), .any⟩, 
  ⟨(.some 46), (.some (45, false)), (.fad 0 (.t 3)), .any⟩, 
  ⟨(.some 47), (.some (45, false)), (.ld 2 true (.t 46)), .any⟩, 
  ⟨(.some 48), (.some (45, false)), (.fad 2 (.t 3)), .any⟩, 
  ⟨(.some 49), (.some (45, false)), (.ld 2 true (.t 48)), .any⟩, 
  ⟨(.some 50), (.some (45, false)), (.eqg false [0, 0] (.t 47) (.t 49)), .any⟩, 
  ⟨(.some 51), .none, (.pick (.t 45) (.c (.a (.p (.b true)))) (.t 50)), .any⟩]) (.cond (.t 51) (.seq (.reg [
  ⟨(.some 52), .none, (.call (.f 14) []), .any⟩, 
  ⟨(.some 4), .none, (.mv (.t 52)), .any⟩]) .ret) .skip)) (.seq (.reg [
  ⟨(.some 53), .none, (.fad 0 (.t 2)), .rd⟩, 
  ⟨(.some 54), .none, (.ld 1 false (.t 53)), .rd⟩, 
  ⟨(.some 55), .none, (.fad 0 (.t 3)), .rd⟩, 
  ⟨(.some 56), .none, (.fad 0 (.t 55)), .rd⟩, 
  ⟨(.some 57), .none, (.ld 1 false (.t 56)), .rd⟩, 
  ⟨(.some 58), .none, (.ias 6 (.t 54) (.t 57)), .rd⟩, 
  ⟨(.some 59), .none, (.fad 5 (.t 58)), .rd⟩, 
  ⟨(.some 60), .none, (.ld 1 false (.t 59)), .rd⟩, 
  ⟨(.some 61), .none, (.fad 0 (.t 3)), .rd⟩, 
  ⟨(.some 62), .none, (.fad 1 (.t 61)), .rd⟩, 
  ⟨(.some 63), .none, (.ld 1 false (.t 62)), .rd⟩, 
  ⟨(.some 64), .none, (.ias 2 (.t 60) (.t 63)), .rd⟩, 
  ⟨(.some 65), .none, (.ld 2 true (.t 64)), .rd⟩, 
  ⟨(.some 66), .none, (.fad 0 (.t 2)), .rd⟩, 
  ⟨(.some 67), .none, (.ld 1 false (.t 66)), .rd⟩, 
  ⟨(.some 68), .none, (.fad 2 (.t 3)), .rd⟩, 
  ⟨(.some 69), .none, (.fad 0 (.t 68)), .rd⟩, 
  ⟨(.some 70), .none, (.ld 1 false (.t 69)), .rd⟩, 
  ⟨(.some 71), .none, (.ias 6 (.t 67) (.t 70)), .rd⟩, 
  ⟨(.some 72), .none, (.fad 5 (.t 71)), .rd⟩, 
  ⟨(.some 73), .none, (.ld 1 false (.t 72)), .rd⟩, 
  ⟨(.some 74), .none, (.fad 2 (.t 3)), .rd⟩, 
  ⟨(.some 75), .none, (.fad 1 (.t 74)), .rd⟩, 
  ⟨(.some 76), .none, (.ld 1 false (.t 75)), .rd⟩, 
  ⟨(.some 77), .none, (.ias 2 (.t 73) (.t 76)), .rd⟩, 
  ⟨(.some 78), .none, (.ld 2 true (.t 77)), .rd⟩, 
  ⟨(.some 5), .none, (.new [(.p (.i .i64 0)), (.p (.i .i64 0))]), .ad⟩, 
  ⟨(.some 6), .none, (.new [(.p (.i .i64 0)), (.p (.i .i64 0))]), .ad⟩, 
  ⟨.none, .none, (.st 2 (.t 5) (.t 65)), (.wr [66, 69, 67, 70, 72, 75, 73, 76, 77])⟩, 
  ⟨.none, .none, (.st 2 (.t 6) (.t 78)), .any⟩]) (.seq (.reg [
  ⟨(.some 80), .none, (.ld 2 true (.t 2)), .any⟩, 
  ⟨(.some 81), .none, (.fad 0 (.t 3)), .any⟩, 
  ⟨(.some 82), .none, (.ld 2 true (.t 81)), .any⟩, 
  ⟨(.some 83), .none, (.fad 2 (.t 3)), .any⟩, 
  ⟨(.some 84), .none, (.ld 2 true (.t 83)), .any⟩, 
  ⟨(.some 85), .none, (.call (.f 19) [(.t 80), (.t 82), (.t 84)]), .any⟩, 
  ⟨(.some 79), .none, (.mv (.t 85)), .any⟩, 
  ⟨(.some 86), .none, (.ext (.t 79) 0), .any⟩, 
  ⟨(.some 87), .none, (.ext (.t 79) 1), .any⟩, 
  ⟨(.some 7), .none, (.new [.nil, (.p (.i .i64 0))]), .any⟩, 
  ⟨.none, .none, (.st 2 (.t 7) (.t 86)), .any⟩, 
  ⟨(.some 8), .none, (.mv (.t 87)), .any⟩]) (.seq (.reg [
  ⟨(.some 89), .none, (.ld 2 true (.t 2)), .any⟩, 
  ⟨(.some 90), .none, (.fad 0 (.t 3)), .any⟩, 
  ⟨(.some 91), .none, (.ld 2 true (.t 90)), .any⟩, 
  ⟨(.some 92), .none, (.fad 2 (.t 3)), .any⟩, 
  ⟨(.some 93), .none, (.ld 2 true (.t 92)), .any⟩, 
  ⟨(.some 94), .none, (.call (.f 21) [(.t 89), (.t 91), (.t 93)]), .any⟩, 
  ⟨(.some 88), .none, (.mv (.t 94)), .any⟩, 
  ⟨(.some 95), .none, (.ext (.t 88) 0), .any⟩, 
  ⟨(.some 96), .none, (.ext (.t 88) 1), .any⟩, 
  ⟨(.some 9), .none, (.new [.nil, (.p (.i .i64 0))]), .any⟩, 
  ⟨.none, .none, (.st 2 (.t 9) (.t 95)), .any⟩, 
  ⟨(.some 10), .none, (.mv (.t 96)), .any⟩]) (.seq (.seq (.reg [
  ⟨(.some 97), .none, (.mv (.t 8)), .any⟩, 
  ⟨(.some 98), .none, (.bin .neq (.t 97) (.c (.a (.p (.i .i64 0))))), .any⟩, 
  ⟨(.some 99), .none, (.mv (.t 98)), .any⟩, 
  ⟨(.some 100), (.some (99, false)), (.mv (.t 10)), .any⟩, 
  ⟨(.some 101), (.some (99, false)), (.bin .neq (.t 100) (.c (.a (.p (.i .i64 0))))), .any⟩, 
  ⟨(.some 102), .none, (.pick (.t 99) (.c (.a (.p (.b true)))) (.t 101)), .any⟩]) (.cond (.t 102) (.seq (.reg [
  ⟨(.some 4), .none, (.mv (.c (.a (.p (.b false))))), .any⟩]) .ret) .skip)) (.seq (.seq (.reg [
  ⟨(.some 103), .none, (.ld 2 true (.t 5)), .any⟩, 
  ⟨(.some 104), .none, (.fad 2 (.t 3)), .any⟩, 
  ⟨(.some 105), .none, (.ld 2 true (.t 104)), .any⟩, 
  ⟨(.some 106), .none, (.eqg false [0, 0] (.t 103) (.t 105)), .any⟩]) (.cond (.t 106) (.seq (.reg [
  ⟨(.some 107), .none, (.ld 2 true (.t 7)), .any⟩, 
  ⟨(.some 108), .none, (.ld 2 true (.t 2)), .any⟩, 
  ⟨(.some 109), .none, (.call (.f 23) [(.t 107), (.t 108)]), .any⟩, 
  ⟨(.some 110), .none, (.mv (.t 109)), .any⟩, 
  ⟨(.some 111), (.some (110, true)), (.ld 2 true (.t 9)), .any⟩, 
  ⟨(.some 112), (.some (110, true)), (.ld 2 true (.t 2)), .any⟩, 
  ⟨(.some 113), (.some (110, true)), (.call (.f 23) [(.t 111), (.t 112)]), .any⟩, 
  ⟨(.some 114), .none, (.pick (.t 110) (.t 113) (.c (.a (.p (.b false))))), .any⟩, 
  ⟨(.some 4), .none, (.mv (.t 114)), .any⟩]) .ret) .skip)) (.seq (.reg [
  ⟨(.some 116), .none, (.ld 2 true (.t 7)), .any⟩, 
  ⟨(.some 117), .none, (.ld 2 true (.t 5)), .any⟩, 
  ⟨(.some 118), .none, (.call (.f 15) [(.t 116), (.t 117)]), .any⟩, 
  ⟨(.some 115), .none, (.mv (.t 118)), .any⟩, 
  ⟨(.some 119), .none, (.ext (.t 115) 0), .any⟩, 
  ⟨(.some 120), .none, (.ext (.t 115) 1), .any⟩, 
  ⟨(.some 11), .none, (.new [(.p (.i .i64 0)), (.p (.i .i64 0))]), .any⟩, 
  ⟨.none, .none, (.st 2 (.t 11) (.t 119)), .any⟩, 
  ⟨(.some 12), .none, (.mv (.t 120)), .any⟩]) (.seq (.reg [
  ⟨(.some 122), .none, (.ld 2 true (.t 7)), .any⟩, 
  ⟨(.some 123), .none, (.fad 2 (.t 3)), .any⟩, 
  ⟨(.some 124), .none, (.ld 2 true (.t 123)), .any⟩, 
  ⟨(.some 125), .none, (.call (.f 15) [(.t 122), (.t 124)]), .any⟩, 
  ⟨(.some 121), .none, (.mv (.t 125)), .any⟩, 
  ⟨(.some 126), .none, (.ext (.t 121) 0), .any⟩, 
  ⟨(.some 127), .none, (.ext (.t 121) 1), .any⟩, 
  ⟨(.some 13), .none, (.new [(.p (.i .i64 0)), (.p (.i .i64 0))]), .any⟩, 
  ⟨.none, .none, (.st 2 (.t 13) (.t 126)), .any⟩, 
  ⟨(.some 14), .none, (.mv (.t 127)), .any⟩]) (.seq (.reg [
  ⟨(.some 129), .none, (.ld 2 true (.t 9)), .any⟩, 
  ⟨(.some 130), .none, (.ld 2 true (.t 5)), .any⟩, 
  ⟨(.some 131), .none, (.call (.f 15) [(.t 129), (.t 130)]), .any⟩, 
  ⟨(.some 128), .none, (.mv (.t 131)), .any⟩, 
  ⟨(.some 132), .none, (.ext (.t 128) 0), .any⟩, 
  ⟨(.some 133), .none, (.ext (.t 128) 1), .any⟩, 
  ⟨(.some 15), .none, (.new [(.p (.i .i64 0)), (.p (.i .i64 0))]), .any⟩, 
  ⟨.none, .none, (.st 2 (.t 15) (.t 132)), .any⟩, 
  ⟨(.some 16), .none, (.mv (.t 133)), .any⟩]) (.seq (.reg [
  ⟨(.some 135), .none, (.ld 2 true (.t 9)), .any⟩, 
  ⟨(.some 136), .none, (.ld 2 true (.t 6)), .any⟩, 
  ⟨(.some 137), .none, (.call (.f 15) [(.t 135), (.t 136)]), .any⟩, 
  ⟨(.some 134), .none, (.mv (.t 137)), .any⟩, 
  ⟨(.some 138), .none, (.ext (.t 134) 0), .any⟩, 
  ⟨(.some 139), .none, (.ext (.t 134) 1), .any⟩, 
  ⟨(.some 17), .none, (.new [(.p (.i .i64 0)), (.p (.i .i64 0))]), .any⟩, 
  ⟨.none, .none, (.st 2 (.t 17) (.t 138)), .any⟩, 
  ⟨(.some 18), .none, (.mv (.t 139)), .any⟩]) (.seq (.reg [
  ⟨(.some 140), .none, (.ld 2 true (.t 11)), .any⟩, 
  ⟨(.some 141), .none, (.fad 2 (.t 3)), .any⟩, 
  ⟨(.some 142), .none, (.ld 2 true (.t 141)), .any⟩, 
  ⟨(.some 143), .none, (.eqg false [0, 0] (.t 140) (.t 142)), .any⟩, 
  ⟨(.some 144), .none, (.mv (.t 143)), .any⟩, 
  ⟨(.some 145), (.some (144, true)), (.ld 2 true (.t 13)), .any⟩, 
  ⟨(.some 146), (.some (144, true)), (.ld 2 true (.t 5)), .any⟩, 
  ⟨(.some 147), (.some (144, true)), (.eqg false [0, 0] (.t 145) (.t 146)), .any⟩, 
  ⟨(.some 148), .none, (.pick (.t 144) (.t 147) (.c (.a (.p (.b false))))), .any⟩, 
  ⟨(.some 149), .none, (.mv (.t 148)), .any⟩, 
  ⟨(.some 150), (.some (149, true)), (.ld 2 true (.t 15)), .any⟩, 
  ⟨(.some 151), (.some (149, true)), (.ld 2 true (.t 6)), .any⟩, 
  ⟨(.some 152), (.some (149, true)), (.eqg false [0, 0] (.t 150) (.t 151)), .any⟩, 
  ⟨(.some 153), .none, (.pick (.t 149) (.t 152) (.c (.a (.p (.b false))))), .any⟩, 
  ⟨(.some 154), .none, (.mv (.t 153)), .any⟩, 
  ⟨(.some 155), (.some (154, true)), (.ld 2 true (.t 17)), .any⟩, 
  ⟨(.some 156), (.some (154, true)), (.ld 2 true (.t 5)), .any⟩, 
  ⟨(.some 157), (.some (154, true)), (.eqg false [0, 0] (.t 155) (.t 156)), .any⟩, 
  ⟨(.some 158), .none, (.pick (.t 154) (.t 157) (.c (.a (.p (.b false))))), .any⟩, 
  ⟨(.some 159), .none, (.mv (.t 158)), .any⟩, 
  ⟨(.some 160), (.some (159, true)), (.ld 2 true (.t 2)), .any⟩, 
  ⟨(.some 161), (.some (159, true)), (.ld 2 true (.t 7)), .any⟩, 
  ⟨(.some 162), (.some (159, true)), (.fad 2 (.t 3)), .any⟩, 
  ⟨(.some 163), (.some (159, true)), (.ld 2 true (.t 162)), .any⟩, 
  ⟨(.some 164), (.some (159, true)), (.ld 2 true (.t 5)), .any⟩, 
  ⟨(.some 165), (.some (159, true)), (.bsl 2 26 [(.p (.i .i64 0)), (.p (.i .i64 0))] 2 [(0, (.t 163)), (1, (.t 164))]), .any⟩, 
  ⟨(.some 166), (.some (159, true)), (.call (.f 26) [(.t 160), (.t 161), (.t 165)]), .any⟩, 
  ⟨(.some 167), .none, (.pick (.t 159) (.t 166) (.c (.a (.p (.b false))))), .any⟩, 
  ⟨(.some 168), .none, (.mv (.t 167)), .any⟩, 
  ⟨(.some 169), (.some (168, true)), (.ld 2 true (.t 2)), .any⟩, 
  ⟨(.some 170), (.some (168, true)), (.ld 2 true (.t 9)), .any⟩, 
  ⟨(.some 171), (.some (168, true)), (.ld 2 true (.t 5)), .any⟩, 
  ⟨(.some 172), (.some (168, true)), (.ld 2 true (.t 6)), .any⟩, 
  ⟨(.some 173), (.some (168, true)), (.bsl 2 26 [(.p (.i .i64 0)), (.p (.i .i64 0))] 2 [(0, (.t 171)), (1, (.t 172))]), .any⟩, 
  ⟨(.some 174), (.some (168, true)), (.call (.f 26) [(.t 169), (.t 170), (.t 173)]), .any⟩, 
  ⟨(.some 175), .none, (.pick (.t 168) (.t 174) (.c (.a (.p (.b false))))), .any⟩, 
  ⟨(.some 4), .none, (.mv (.t 175)), .any⟩]) .ret)))))))))))), [(.tmp 4)]⟩
theorem cc4 : ccF Try.prog [(26, [0, 0]), (66, [1, 0]), (26, [9])] Try.f4 = some F4 := by kernel_rfl

/- gossamer/gossamerlaw13.WireLinks -/
def F5 : FnC := ⟨2, (.seq (.reg [
  ⟨(.some 2), .none, (.box 2 (.t 0)), .any⟩, 
  ⟨(.some 3), .none, (.box 4 (.t 1)), .any⟩, 
  ⟨(.some 4), .none, (.mv (.c (.a (.p (.b false))))), .any⟩]) (.seq (.seq (.reg [
  ⟨(.some 13), .none, (.call (.f 14) []), .any⟩, 
  ⟨(.some 14), .none, (.not (.t 13)), .any⟩, 
  ⟨(.some 15), .none, (.mv (.t 14)), .any⟩, 
  ⟨(.some 16), (.some (15, false)), (.ld 2 true (.t 2)), .any⟩, 
  ⟨(.some 17), (.some (15, false)), (.call (.f 13) [(.t 16), (.c (.a (.p (.i .i64 150))))]), .any⟩, 
  ⟨(.some 18), (.some (15, false)), (.not (.t 17)), .any⟩, 
  ⟨(.some 19), .none, (.pick (.t 15) (.c (.a (.p (.b true)))) (.t 18)), .any⟩]) (.cond (.t 19) (.seq (.reg [
  ⟨(.some 20), .none, (.call (.f 14) []), .any⟩, 
  ⟨(.some 4), .none, (.mv (.t 20)), .any⟩]) .ret) .skip)) (.seq (.reg [
  ⟨(.some 22), .none, (.ld 2 true (.t 2)), .any⟩, 
  ⟨(.some 23), .none, (.fad 0 (.t 3)), .any⟩, 
  ⟨(.some 24), .none, (.ld 2 true (.t 23)), .any⟩, 
  ⟨(.some 25), .none, (.fad 2 (.t 3)), .any⟩, 
  ⟨(.some 26), .none, (.ld 2 true (.t 25)), .any⟩, 
  ⟨(.some 27), .none, (.call (.f 17) [(.t 22), (.t 24), (.t 26)]), .any⟩, 
  ⟨(.some 21), .none, (.mv (.t 27)), .any⟩, 
  ⟨(.some 28), .none, (.ext (.t 21) 0), .any⟩, 
  ⟨(.some 29), .none, (.ext (.t 21) 1), .any⟩, 
  ⟨(.some 5), .none, (.new [.nil, (.p (.i .i64 0))]), .any⟩, 
  ⟨.none, .none, (.st 2 (.t 5) (.t 28)), .any⟩, 
  ⟨(.some 6), .none, (.mv (.t 29)), .any⟩]) (.seq (.seq (.reg [
  ⟨(.some 30), .none, (.mv (.t 6)), .any⟩, 
  ⟨(.some 31), .none, (.bin .neq (.t 30) (.c (.a (.p (.i .i64 0))))), .any⟩]) (.cond (.t 31) (.seq (.reg [
  ⟨(.some 32), .none, (.ld 2 true (.t 5)), .any⟩, 
  ⟨(.some 33), .none, (.ld 2 true (.t 2)), .any⟩, 
  ⟨(.some 34), .none, (.call (.f 23) [(.t 32), (.t 33)]), .any⟩, 
  ⟨(.some 4), .none, (.mv (.t 34)), .any⟩]) .ret) .skip)) (.seq (.reg [
  ⟨(.some 36), .none, (.ld 2 true (.t 5)), .any⟩, 
  ⟨(.some 37), .none, (.fad 0 (.t 3)), .any⟩, 
  ⟨(.some 38), .none, (.ld 2 true (.t 37)), .any⟩, 
  ⟨(.some 39), .none, (.call (.f 15) [(.t 36), (.t 38)]), .any⟩, 
  ⟨(.some 35), .none, (.mv (.t 39)), .any⟩, 
  ⟨(.some 40), .none, (.ext (.t 35) 0), .any⟩, 
  ⟨(.some 41), .none, (.ext (.t 35) 1), .any⟩, 
  ⟨(.some 7), .none, (.new [(.p (.i .i64 0)), (.p (.i .i64 0))]), .any⟩, 
  ⟨.none, .none, (.st 2 (.t 7) (.t 40)), .any⟩, 
  ⟨(.some 8), .none, (.mv (.t 41)), .any⟩]) (.seq (.reg [
  ⟨(.some 43), .none, (.ld 2 true (.t 5)), .any⟩, 
  ⟨(.some 44), .none, (.fad 2 (.t 3)), .any⟩, 
  ⟨(.some 45), .none, (.ld 2 true (.t 44)), .any⟩, 
  ⟨(.some 46), .none, (.call (.f 15) [(.t 43), (.t 45)]), .any⟩, 
  ⟨(.some 42), .none, (.mv (.t 46)), .any⟩, 
  ⟨(.some 47), .none, (.ext (.t 42) 0), .any⟩, 
  ⟨(.some 48), .none, (.ext (.t 42) 1), .any⟩, 
  ⟨(.some 9), .none, (.new [(.p (.i .i64 0)), (.p (.i .i64 0))]), .any⟩, 
  ⟨.none, .none, (.st 2 (.t 9) (.t 47)), .any⟩, 
  ⟨(.some 10), .none, (.mv (.t 48)), .any⟩]) (.seq (.reg [
  ⟨(.some 50), .none, (.ld 2 true (.t 5)), .any⟩, 
  ⟨(.some 51), .none, (.fad 2 (.t 3)), .any⟩, 
  ⟨(.some 52), .none, (.ld 2 true (.t 51)), .any⟩, 
  ⟨(.some 53), .none, (.fad 0 (.t 3)), .any⟩, 
  ⟨(.some 54), .none, (.ld 2 true (.t 53)), .any⟩, 
  ⟨(.some 55), .none, (.call (.f 17) [(.t 50), (.t 52), (.t 54)]), .any⟩, 
  ⟨(.some 49), .none, (.mv (.t 55)), .any⟩, 
  ⟨(.some 56), .none, (.ext (.t 49) 0), .any⟩, 
  ⟨(.some 57), .none, (.ext (.t 49) 1), .any⟩, 
  ⟨(.some 11), .none, (.new [.nil, (.p (.i .i64 0))]), .any⟩, 
  ⟨.none, .none, (.st 2 (.t 11) (.t 56)), .any⟩, 
  ⟨(.some 12), .none, (.mv (.t 57)), .any⟩]) (.seq (.reg [
  ⟨(.some 58), .none, (.mv (.t 8)), .any⟩, 
  ⟨(.some 59), .none, (.bin .eql (.t 58) (.c (.a (.p (.i .i64 0))))), .any⟩, 
  ⟨(.some 60), .none, (.mv (.t 59)), .any⟩, 
  ⟨(.some 61), (.some (60, true)), (.mv (.t 10)), .any⟩, 
  ⟨(.some 62), (.some (60, true)), (.bin .eql (.t 61) (.c (.a (.p (.i .i64 0))))), .any⟩, 
  ⟨(.some 63), .none, (.pick (.t 60) (.t 62) (.c (.a (.p (.b false))))), .any⟩, 
  ⟨(.some 64), .none, (.mv (.t 63)), .any⟩, 
  ⟨(.some 65), (.some (64, true)), (.ld 2 true (.t 7)), .any⟩, 
  ⟨(.some 66), (.some (64, true)), (.fad 2 (.t 3)), .any⟩, 
  ⟨(.some 67), (.some (64, true)), (.ld 2 true (.t 66)), .any⟩, 
  ⟨(.some 68), (.some (64, true)), (.eqg false [0, 0] (.t 65) (.t 67)), .any⟩, 
  ⟨(.some 69), .none, (.pick (.t 64) (.t 68) (.c (.a (.p (.b false))))), .any⟩, 
  ⟨(.some 70), .none, (.mv (.t 69)), .any⟩, 
  ⟨(.some 71), (.some (70, true)), (.ld 2 true (.t 9)), .any⟩, 
  ⟨(.some 72), (.some (70, true)), (.fad 0 (.t 3)), .any⟩, 
  ⟨(.some 73), (.some (70, true)), (.ld 2 true (.t 72)), .any⟩, 
  ⟨(.some 74), (.some (70, true)), (.eqg false [0, 0] (.t 71) (.t 73)), .any⟩, 
  ⟨(.some 75), .none, (.pick (.t 70) (.t 74) (.c (.a (.p (.b false))))), .any⟩, 
  ⟨(.some 76), .none, (.mv (.t 75)), .any⟩, 
  ⟨(.some 77), (.some (76, true)), (.mv (.t 12)), .any⟩, 
  ⟨(.some 78), (.some (76, true)), (.bin .eql (.t 77) (.c (.a (.p (.i .i64 0))))), .any⟩, 
  ⟨(.some 79), .none, (.pick (.t 76) (.t 78) (.c (.a (.p (.b false))))), .any⟩, 
  ⟨(.some 80), .none, (.mv (.t 79)), .any⟩, 
  ⟨(.some 81), (.some (80, true)), (.ld 2 true (.t 11)), .any⟩, 
  ⟨(.some 82), (.some (80, true)), (.ld 2 true (.t 5)), .any⟩, 
  ⟨(.some 83), (.some (80, true)), (.call (.f 23) [(.t 81), (.t 82)]), .any⟩, 
  ⟨(.some 84), .none, (.pick (.t 80) (.t 83) (.c (.a (.p (.b false))))), .any⟩, 
  ⟨(.some 85), .none, (.mv (.t 84)), .any⟩, 
  ⟨(.some 86), (.some (85, true)), (.ld 2 true (.t 2)), .any⟩, 
  ⟨(.some 87), (.some (85, true)), (.ld 2 true (.t 5)), .any⟩, 
  ⟨(.some 88), (.some (85, true)), (.fad 0 (.t 3)), .any⟩, 
  ⟨(.some 89), (.some (85, true)), (.ld 2 true (.t 88)), .any⟩, 
  ⟨(.some 90), (.some (85, true)), (.fad 2 (.t 3)), .any⟩, 
  ⟨(.some 91), (.some (85, true)), (.ld 2 true (.t 90)), .any⟩, 
  ⟨(.some 92), (.some (85, true)), (.bsl 2 26 [(.p (.i .i64 0)), (.p (.i .i64 0))] 2 [(0, (.t 89)), (1, (.t 91))]), .any⟩, 
  ⟨(.some 93), (.some (85, true)), (.call (.f 26) [(.t 86), (.t 87), (.t 92)]), .any⟩, 
  ⟨(.some 94), .none, (.pick (.t 85) (.t 93) (.c (.a (.p (.b false))))), .any⟩, 
  ⟨(.some 4), .none, (.mv (.t 94)), .any⟩]) .ret)))))))), [(.tmp 4)]⟩
theorem cc5 : ccF Try.prog [(26, [0, 0]), (66, [1, 0]), (26, [9])] Try.f5 = some F5 := by kernel_rfl

/- gossamer/gossamerlaw13.WireBack -/
def F6 : FnC := ⟨2, (.seq (.reg [
  ⟨(.some 2), .none, (.box 2 (.t 0)), .any⟩, 
  ⟨(.some 3), .none, (.box 4 (.t 1)), .any⟩, 
  ⟨(.some 4), .none, (.mv (.c (.a (.p (.b false))))), .any⟩]) (.seq (.seq (.reg [
  ⟨(.some 14), .none, (.call (.f 14) []), .any⟩, 
  ⟨(.some 15), .none, (.not (.t 14)), .any⟩, 
  ⟨(.some 16), .none, (.mv (.t 15)), .any⟩, 
  ⟨(.some 17), (.some (16, false)), (.ld 2 true (.t 2)), .any⟩, 
  ⟨(.some 18), (.some (16, false)), (.call (.f 13) [(.t 17), (.c (.a (.p (.i .i64 150))))]), .any⟩, 
  ⟨(.some 19), (.some (16, false)), (.not (.t 18)), .any⟩, 
  ⟨(.some 20), .none, (.pick (.t 16) (.c (.a (.p (.b true)))) (.t 19)), .any⟩, 
  ⟨(.some 21), .none, (.mv (.t 20)), .any⟩, 
  ⟨(.some 22), (.some (21, false)), (.ld 2 true (.t 2)), .any⟩, 
  ⟨(.some 23), (.some (21, false)), (.call (.f 24) [(.t 22)]), .any⟩, 
  ⟨(.some 24), (.some (21, false)), (.bin .neq (.t 23) (.c (.a (.p (.i .i64 0))))), .any⟩, 
  ⟨(.some 25), .none, (.pick (.t 21) (.c (.a (.p (.b true)))) (.t 24)), .any⟩, 
  ⟨(.some 26), .none, (.mv (.t 25)), .any⟩, 
  ⟨(.some 27), (.some (26, false)), (.ld 2 true (.t 2)), .any⟩, 
  ⟨(.some 28), (.some (26, false)), (.fad 0 (.t 3)), .any⟩, 
  ⟨(.some 29), (.some (26, false)), (.ld 2 true (.t 28)), .any⟩, 
  ⟨(.some 30), (.some (26, false)), (.call (.f 25) [(.t 27), (.t 29)]), .any⟩, 
  ⟨(.some 31), (.some (26, false)), (.not (.t 30)), .any⟩, 
  ⟨(.some 32), .none, (.pick (.t 26) (.c (.a (.p (.b true)))) (.t 31)), .any⟩, 
  ⟨(.some 33), .none, (.mv (.t 32)), .any⟩, 
  ⟨(.some 34), (.some (33, false)), (.ld 2 true (.t 2)), .any⟩, 
  ⟨(.some 35), (.some (33, false)), (.fad 2 (.t 3)), .any⟩, 
  ⟨(.some 36), (.some (33, false)), (.ld 2 true (.t 35)), .any⟩, 
  ⟨(.some 37), (.some (33, false)), (.call (.f 25) [(.t 34), (.t 36)]), .any⟩, 
  ⟨(.some 38), (.some (33, false)), (.not (.t 37)), .any⟩, 
  ⟨(.some 39), .none, (.pick (.t 33) (.c (.a (.p (.b true)))) (.t 38)), .any⟩, 
  ⟨(.some 40), .none, (.mv (.t 39)), .any⟩, 
  ⟨(.some 41), (.some (40, false)), (.fad 0 (.t 3)), .any⟩, 
  ⟨(.some 42), (.some (40, false)), (.ld 2 true (.t 41)), .any⟩, 
  ⟨(.some 43), (.some (40, false)), (.fad 2 (.t 3)), .any⟩, 
  ⟨(.some 44), (.some (40, false)), (.ld 2 true (.t 43)), .any⟩, 
  ⟨(.some 45), (.some (40, false)), (.eqg false [0, 0] (.t 42) (.t 44)), .any⟩, 
  ⟨(.some 46), .none, (.pick (.t 40) (.c (.a (.p (.b true)))) (.t 45)), .any⟩]) (.cond (.t 46) (.seq (.reg [
  ⟨(.some 47), .none, (.call (.f 14) []), .any⟩, 
  ⟨(.some 4), .none, (.mv (.t 47)), .any⟩]) .ret) .skip)) (.seq (.reg [
  ⟨(.some 48), .none, (.fad 0 (.t 2)), .rd⟩, 
  ⟨(.some 49), .none, (.ld 1 false (.t 48)), .rd⟩, 
  ⟨(.some 50), .none, (.fad 0 (.t 3)), .rd⟩, 
  ⟨(.some 51), .none, (.fad 0 (.t 50)), .rd⟩, 
  ⟨(.some 52), .none, (.ld 1 false (.t 51)), .rd⟩, 
  ⟨(.some 53), .none, (.ias 6 (.t 49) (.t 52)), .rd⟩, 
  ⟨(.some 54), .none, (.fad 5 (.t 53)), .rd⟩, 
  ⟨(.some 55), .none, (.ld 1 false (.t 54)), .rd⟩, 
  ⟨(.some 56), .none, (.fad 0 (.t 3)), .rd⟩, 
  ⟨(.some 57), .none, (.fad 1 (.t 56)), .rd⟩, 
  ⟨(.some 58), .none, (.ld 1 false (.t 57)), .rd⟩, 
  ⟨(.some 59), .none, (.ias 2 (.t 55) (.t 58)), .rd⟩, 
  ⟨(.some 60), .none, (.ld 2 true (.t 59)), .rd⟩, 
  ⟨(.some 5), .none, (.new [(.p (.i .i64 0)), (.p (.i .i64 0))]), .ad⟩, 
  ⟨.none, .none, (.st 2 (.t 5) (.t 60)), .any⟩]) (.seq (.reg [
  ⟨(.some 62), .none, (.ld 2 true (.t 2)), .any⟩, 
  ⟨(.some 63), .none, (.fad 0 (.t 3)), .any⟩, 
  ⟨(.some 64), .none, (.ld 2 true (.t 63)), .any⟩, 
  ⟨(.some 65), .none, (.fad 2 (.t 3)), .any⟩, 
  ⟨(.some 66), .none, (.ld 2 true (.t 65)), .any⟩, 
  ⟨(.some 67), .none, (.call (.f 19) [(.t 62), (.t 64), (.t 66)]), .any⟩, 
  ⟨(.some 61), .none, (.mv (.t 67)), .any⟩, 
  ⟨(.some 68), .none, (.ext (.t 61) 0), .any⟩, 
  ⟨(.some 69), .none, (.ext (.t 61) 1), .any⟩, 
  ⟨(.some 6), .none, (.new [.nil, (.p (.i .i64 0))]), .any⟩, 
  ⟨.none, .none, (.st 2 (.t 6) (.t 68)), .any⟩, 
  ⟨(.some 7), .none, (.mv (.t 69)), .any⟩]) (.seq (.seq (.reg [
  ⟨(.some 70), .none, (.ld 2 true (.t 5)), .any⟩, 
  ⟨(.some 71), .none, (.fad 2 (.t 3)), .any⟩, 
  ⟨(.some 72), .none, (.ld 2 true (.t 71)), .any⟩, 
  ⟨(.some 73), .none, (.eqg false [0, 0] (.t 70) (.t 72)), .any⟩]) (.cond (.t 73) (.seq (.reg [
  ⟨(.some 74), .none, (.mv (.t 7)), .any⟩, 
  ⟨(.some 75), .none, (.bin .eql (.t 74) (.c (.a (.p (.i .i64 0))))), .any⟩, 
  ⟨(.some 76), .none, (.mv (.t 75)), .any⟩, 
  ⟨(.some 77), (.some (76, true)), (.ld 2 true (.t 6)), .any⟩, 
  ⟨(.some 78), (.some (76, true)), (.ld 2 true (.t 2)), .any⟩, 
  ⟨(.some 79), (.some (76, true)), (.call (.f 23) [(.t 77), (.t 78)]), .any⟩, 
  ⟨(.some 80), .none, (.pick (.t 76) (.t 79) (.c (.a (.p (.b false))))), .any⟩, 
  ⟨(.some 4), .none, (.mv (.t 80)), .any⟩]) .ret) .skip)) (.seq (.reg [
  ⟨(.some 82), .none, (.ld 2 true (.t 6)), .any⟩, 
  ⟨(.some 83), .none, (.fad 2 (.t 3)), .any⟩, 
  ⟨(.some 84), .none, (.ld 2 true (.t 83)), .any⟩, 
  ⟨(.some 85), .none, (.fad 0 (.t 3)), .any⟩, 
  ⟨(.some 86), .none, (.ld 2 true (.t 85)), .any⟩, 
  ⟨(.some 87), .none, (.call (.f 19) [(.t 82), (.t 84), (.t 86)]), .any⟩, 
  ⟨(.some 81), .none, (.mv (.t 87)), .any⟩, 
  ⟨(.some 88), .none, (.ext (.t 81) 0), .any⟩, 
  ⟨(.some 89), .none, (.ext (.t 81) 1), .any⟩, 
  ⟨(.some 8), .none, (.new [.nil, (.p (.i .i64 0))]), .any⟩, 
  ⟨.none, .none, (.st 2 (.t 8) (.t 88)), .any⟩, 
  ⟨(.some 9), .none, (.mv (.t 89)), .any⟩]) (.seq (.reg [
  ⟨(.some 91), .none, (.ld 2 true (.t 8)), .any⟩, 
  ⟨(.some 92), .none, (.fad 0 (.t 3)), .any⟩, 
  ⟨(.some 93), .none, (.ld 2 true (.t 92)), .any⟩, 
  ⟨(.some 94), .none, (.call (.f 15) [(.t 91), (.t 93)]), .any⟩, 
  ⟨(.some 90), .none, (.mv (.t 94)), .any⟩, 
  ⟨(.some 95), .none, (.ext (.t 90) 0), .any⟩, 
  ⟨(.some 96), .none, (.ext (.t 90) 1), .any⟩, 
  ⟨(.some 10), .none, (.new [(.p (.i .i64 0)), (.p (.i .i64 0))]), .any⟩, 
  ⟨.none, .none, (.st 2 (.t 10) (.t 95)), .any⟩, 
  ⟨(.some 11), .none, (.mv (.t 96)), .any⟩]) (.seq (.reg [
  ⟨(.some 98), .none, (.ld 2 true (.t 8)), .any⟩, 
  ⟨(.some 99), .none, (.ld 2 true (.t 5)), .any⟩, 
  ⟨(.some 100), .none, (.call (.f 15) [(.t 98), (.t 99)]), .any⟩, 
  ⟨(.some 97), .none, (.mv (.t 100)), .any⟩, 
  ⟨(.some 101), .none, (.ext (.t 97) 0), .any⟩, 
  ⟨(.some 102), .none, (.ext (.t 97) 1), .any⟩, 
  ⟨(.some 12), .none, (.new [(.p (.i .i64 0)), (.p (.i .i64 0))]), .any⟩, 
  ⟨.none, .none, (.st 2 (.t 12) (.t 101)), .any⟩, 
  ⟨(.some 13), .none, (.mv (.t 102)), .any⟩]) (.seq (.reg [
  ⟨(.some 103), .none, (.mv (.t 7)), .any⟩, 
  ⟨(.some 104), .none, (.bin .eql (.t 103) (.c (.a (.p (.i .i64 0))))), .any⟩, 
  ⟨(.some 105), .none, (.mv (.t 104)), .any⟩, 
  ⟨(.some 106), (.some (105, true)), (.mv (.t 9)), .any⟩, 
  ⟨(.some 107), (.some (105, true)), (.bin .eql (.t 106) (.c (.a (.p (.i .i64 0))))), .any⟩, 
  ⟨(.some 108), .none, (.pick (.t 105) (.t 107) (.c (.a (.p (.b false))))), .any⟩, 
  ⟨(.some 109), .none, (.mv (.t 108)), .any⟩, 
  ⟨(.some 110), (.some (109, true)), (.ld 2 true (.t 10)), .any⟩, 
  ⟨(.some 111), (.some (109, true)), (.ld 2 true (.t 5)), .any⟩, 
  ⟨(.some 112), (.some (109, true)), (.eqg false [0, 0] (.t 110) (.t 111)), .any⟩, 
  ⟨(.some 113), .none, (.pick (.t 109) (.t 112) (.c (.a (.p (.b false))))), .any⟩, 
  ⟨(.some 114), .none, (.mv (.t 113)), .any⟩, 
  ⟨(.some 115), (.some (114, true)), (.ld 2 true (.t 12)), .any⟩, 
  ⟨(.some 116), (.some (114, true)), (.fad 0 (.t 3)), .any⟩, 
  ⟨(.some 117), (.some (114, true)), (.ld 2 true (.t 116)), .any⟩, 
  ⟨(.some 118), (.some (114, true)), (.eqg false [0, 0] (.t 115) (.t 117)), .any⟩, 
  ⟨(.some 119), .none, (.pick (.t 114) (.t 118) (.c (.a (.p (.b false))))), .any⟩, 
  ⟨(.some 120), .none, (.mv (.t 119)), .any⟩, 
  ⟨(.some 121), (.some (120, true)), (.ld 2 true (.t 2)), .any⟩, 
  ⟨(.some 122), (.some (120, true)), (.ld 2 true (.t 8)), .any⟩, 
  ⟨(.some 123), (.some (120, true)), (.fad 2 (.t 3)), .any⟩, 
  ⟨(.some 124), (.some (120, true)), (.ld 2 true (.t 123)), .any⟩, 
  ⟨(.some 125), (.some (120, true)), (.bsl 2 26 [(.p (.i .i64 0)), (.p (.i .i64 0))] 1 [(0, (.t 124))]), .any⟩, 
  ⟨(.some 126), (.some (120, true)), (.call (.f 26) [(.t 121), (.t 122), (.t 125)]), .any⟩, 
  ⟨(.some 127), .none, (.pick (.t 120) (.t 126) (.c (.a (.p (.b false))))), .any⟩, 
  ⟨(.some 4), .none, (.mv (.t 127)), .any⟩]) .ret))))))))), [(.tmp 4)]⟩
theorem cc6 : ccF Try.prog [(26, [0, 0]), (66, [1, 0]), (26, [9])] Try.f6 = some F6 := by kernel_rfl

/- gossamer/gossamerlaw13.WireNone -/
def F7 : FnC := ⟨2, (.seq (.reg [
  ⟨(.some 2), .none, (.box 2 (.t 0)), .any⟩, 
  ⟨(.some 3), .none, (.box 4 (.t 1)), .any⟩, 
  ⟨(.some 4), .none, (.mv (.c (.a (.p (.b false))))), .any⟩]) (.seq (.seq (.reg [
  ⟨(.some 15), .none, (.call (.f 14) []), .any⟩, 
  ⟨(.some 16), .none, (.not (.t 15)), .any⟩, 
  ⟨(.some 17), .none, (.mv (.t 16)), .any⟩, 
  ⟨(.some 18), (.some (17, false)), (.ld 2 true (.t 2)), .any⟩, 
  ⟨(.some 19), (.some (17, false)), (.call (.f 13) [(.t 18), (.c (.a (.p (.i .i64 150))))]), .any⟩, 
  ⟨(.some 20), (.some (17, false)), (.not (.t 19)), .any⟩, 
  ⟨(.some 21), .none, (.pick (.t 17) (.c (.a (.p (.b true)))) (.t 20)), .any⟩]) (.cond (.t 21) (.seq (.reg [
  ⟨(.some 22), .none, (.call (.f 14) []), .any⟩, 
  ⟨(.some 4), .none, (.mv (.t 22)), .any⟩]) .ret) .skip)) (.seq (.reg [
  ⟨(.some 23), .none, (.ld 2 true (.t 2)), .rd⟩, 
  ⟨(.some 24), .none, (.fad 0 (.t 3)), .rd⟩, 
  ⟨(.some 25), .none, (.ld 2 true (.t 24)), .rd⟩, 
  ⟨(.some 26), .none, (.call (.f 25) [(.t 23), (.t 25)]), .rd⟩, 
  ⟨(.some 27), .none, (.ld 2 true (.t 2)), .rd⟩, 
  ⟨(.some 28), .none, (.fad 2 (.t 3)), .rd⟩, 
  ⟨(.some 29), .none, (.ld 2 true (.t 28)), .rd⟩, 
  ⟨(.some 30), .none, (.call (.f 25) [(.t 27), (.t 29)]), .any⟩, 
  ⟨(.some 5), .none, (.mv (.t 26)), .any⟩, 
  ⟨(.some 6), .none, (.mv (.t 30)), .any⟩]) (.seq (.reg [
  ⟨(.some 32), .none, (.ld 2 true (.t 2)), .any⟩, 
  ⟨(.some 33), .none, (.fad 0 (.t 3)), .any⟩, 
  ⟨(.some 34), .none, (.ld 2 true (.t 33)), .any⟩, 
  ⟨(.some 35), .none, (.call (.f 15) [(.t 32), (.t 34)]), .any⟩, 
  ⟨(.some 31), .none, (.mv (.t 35)), .any⟩, 
  ⟨(.some 36), .none, (.ext (.t 31) 0), .any⟩, 
  ⟨(.some 37), .none, (.ext (.t 31) 1), .any⟩, 
  ⟨(.some 7), .none, (.new [(.p (.i .i64 0)), (.p (.i .i64 0))]), .any⟩, 
  ⟨.none, .none, (.st 2 (.t 7) (.t 36)), .any⟩, 
  ⟨(.some 8), .none, (.mv (.t 37)), .any⟩]) (.seq (.reg [
  ⟨(.some 39), .none, (.ld 2 true (.t 2)), .any⟩, 
  ⟨(.some 40), .none, (.fad 0 (.t 3)), .any⟩, 
  ⟨(.some 41), .none, (.ld 2 true (.t 40)), .any⟩, 
  ⟨(.some 42), .none, (.fad 2 (.t 3)), .any⟩, 
  ⟨(.some 43), .none, (.ld 2 true (.t 42)), .any⟩, 
  ⟨(.some 44), .none, (.call (.f 17) [(.t 39), (.t 41), (.t 43)]), .any⟩, 
  ⟨(.some 38), .none, (.mv (.t 44)), .any⟩, 
  ⟨(.some 45), .none, (.ext (.t 38) 0), .any⟩, 
  ⟨(.some 46), .none, (.ext (.t 38) 1), .any⟩, 
  ⟨(.some 9), .none, (.new [.nil, (.p (.i .i64 0))]), .any⟩, 
  ⟨.none, .none, (.st 2 (.t 9) (.t 45)), .any⟩, 
  ⟨(.some 10), .none, (.mv (.t 46)), .any⟩]) (.seq (.reg [
  ⟨(.some 48), .none, (.ld 2 true (.t 2)), .any⟩, 
  ⟨(.some 49), .none, (.fad 0 (.t 3)), .any⟩, 
  ⟨(.some 50), .none, (.ld 2 true (.t 49)), .any⟩, 
  ⟨(.some 51), .none, (.fad 2 (.t 3)), .any⟩, 
  ⟨(.some 52), .none, (.ld 2 true (.t 51)), .any⟩, 
  ⟨(.some 53), .none, (.call (.f 19) [(.t 48), (.t 50), (.t 52)]), .any⟩, 
  ⟨(.some 47), .none, (.mv (.t 53)), .any⟩, 
  ⟨(.some 54), .none, (.ext (.t 47) 0), .any⟩, 
  ⟨(.some 55), .none, (.ext (.t 47) 1), .any⟩, 
  ⟨(.some 11), .none, (.new [.nil, (.p (.i .i64 0))]), .any⟩, 
  ⟨.none, .none, (.st 2 (.t 11) (.t 54)), .any⟩, 
  ⟨(.some 12), .none, (.mv (.t 55)), .any⟩]) (.seq (.reg [
  ⟨(.some 57), .none, (.ld 2 true (.t 2)), .any⟩, 
  ⟨(.some 58), .none, (.fad 0 (.t 3)), .any⟩, 
  ⟨(.some 59), .none, (.ld 2 true (.t 58)), .any⟩, 
  ⟨(.some 60), .none, (.fad 2 (.t 3)), .any⟩, 
  ⟨(.some 61), .none, (.ld 2 true (.t 60)), .any⟩, 
  ⟨(.some 62), .none, (.call (.f 21) [(.t 57), (.t 59), (.t 61)]), .any⟩, 
  ⟨(.some 56), .none, (.mv (.t 62)), .any⟩, 
  ⟨(.some 63), .none, (.ext (.t 56) 0), .any⟩, 
  ⟨(.some 64), .none, (.ext (.t 56) 1), .any⟩, 
  ⟨(.some 13), .none, (.new [.nil, (.p (.i .i64 0))]), .any⟩, 
  ⟨.none, .none, (.st 2 (.t 13) (.t 63)), .any⟩, 
  ⟨(.some 14), .none, (.mv (.t 64)), .any⟩]) (.seq (.seq (.reg [
  ⟨(.some 65), .none, (.mv (.t 8)), .any⟩, 
  ⟨(.some 66), .none, (.bin .eql (.t 65) (.c (.a (.p (.i .i64 0))))), .any⟩, 
  ⟨(.some 67), .none, (.mv (.t 5)), .any⟩, 
  ⟨(.some 68), .none, (.eqb true (.t 66) (.t 67)), .any⟩, 
  ⟨(.some 69), .none, (.mv (.t 68)), .any⟩, 
  ⟨(.some 70), (.some (69, false)), (.mv (.t 10)), .any⟩, 
  ⟨(.some 71), (.some (69, false)), (.bin .eql (.t 70) (.c (.a (.p (.i .i64 0))))), .any⟩, 
  ⟨(.some 72), (.some (69, false)), (.mv (.t 5)), .any⟩, 
  ⟨(.some 73), (.some (69, false)), (.mv (.t 72)), .any⟩, 
  ⟨(.some 74), (.some (73, true)), (.mv (.t 6)), .any⟩, 
  ⟨(.some 75), (.some (69, false)), (.pick (.t 73) (.t 74) (.c (.a (.p (.b false))))), .any⟩, 
  ⟨(.some 76), (.some (69, false)), (.mv (.t 75)), .any⟩, 
  ⟨(.some 77), (.some (76, true)), (.fad 0 (.t 3)), .any⟩, 
  ⟨(.some 78), (.some (76, true)), (.ld 2 true (.t 77)), .any⟩, 
  ⟨(.some 79), (.some (76, true)), (.fad 2 (.t 3)), .any⟩, 
  ⟨(.some 80), (.some (76, true)), (.ld 2 true (.t 79)), .any⟩, 
  ⟨(.some 81), (.some (76, true)), (.eqg true [0, 0] (.t 78) (.t 80)), .any⟩, 
  ⟨(.some 82), (.some (69, false)), (.pick (.t 76) (.t 81) (.c (.a (.p (.b false))))), .any⟩, 
  ⟨(.some 83), (.some (69, false)), (.eqb true (.t 71) (.t 82)), .any⟩, 
  ⟨(.some 84), .none, (.pick (.t 69) (.c (.a (.p (.b true)))) (.t 83)), .any⟩]) (.cond (.t 84) (.seq (.reg [
  ⟨(.some 4), .none, (.mv (.c (.a (.p (.b false))))), .any⟩]) .ret) .skip)) (.seq (.seq (.reg [
  ⟨(.some 85), .none, (.mv (.t 5)), .any⟩, 
  ⟨(.some 86), .none, (.mv (.t 85)), .any⟩, 
  ⟨(.some 87), (.some (86, true)), (.mv (.t 6)), .any⟩, 
  ⟨(.some 88), .none, (.pick (.t 86) (.t 87) (.c (.a (.p (.b false))))), .any⟩, 
  ⟨(.some 89), .none, (.mv (.t 88)), .any⟩, 
  ⟨(.some 90), (.some (89, true)), (.fad 0 (.t 3)), .any⟩, 
  ⟨(.some 91), (.some (89, true)), (.ld 2 true (.t 90)), .any⟩, 
  ⟨(.some 92), (.some (89, true)), (.fad 2 (.t 3)), .any⟩, 
  ⟨(.some 93), (.some (89, true)), (.ld 2 true (.t 92)), .any⟩, 
  ⟨(.some 94), (.some (89, true)), (.eqg true [0, 0] (.t 91) (.t 93)), .any⟩, 
  ⟨(.some 95), .none, (.pick (.t 89) (.t 94) (.c (.a (.p (.b false))))), .any⟩]) (.cond (.t 95) (.seq (.reg [
  ⟨(.some 4), .none, (.mv (.c (.a (.p (.b true))))), .any⟩]) .ret) .skip)) (.seq (.reg [
  ⟨(.some 96), .none, (.mv (.t 10)), .any⟩, 
  ⟨(.some 97), .none, (.bin .eql (.t 96) (.c (.a (.p (.i .i64 130))))), .any⟩, 
  ⟨(.some 98), .none, (.mv (.t 97)), .any⟩, 
  ⟨(.some 99), (.some (98, true)), (.mv (.t 12)), .any⟩, 
  ⟨(.some 100), (.some (98, true)), (.bin .eql (.t 99) (.c (.a (.p (.i .i64 130))))), .any⟩, 
  ⟨(.some 101), .none, (.pick (.t 98) (.t 100) (.c (.a (.p (.b false))))), .any⟩, 
  ⟨(.some 102), .none, (.mv (.t 101)), .any⟩, 
  ⟨(.some 103), (.some (102, true)), (.mv (.t 14)), .any⟩, 
  ⟨(.some 104), (.some (102, true)), (.bin .eql (.t 103) (.c (.a (.p (.i .i64 130))))), .any⟩, 
  ⟨(.some 105), .none, (.pick (.t 102) (.t 104) (.c (.a (.p (.b false))))), .any⟩, 
  ⟨(.some 106), .none, (.mv (.t 105)), .any⟩, 
  ⟨(.some 107), (.some (106, true)), (.ld 2 true (.t 9)), .any⟩, 
  ⟨(.some 108), (.some (106, true)), (.ld 2 true (.t 2)), .any⟩, 
  ⟨(.some 109), (.some (106, true)), (.call (.f 23) [(.t 107), (.t 108)]), .any⟩, 
  ⟨(.some 110), .none, (.pick (.t 106) (.t 109) (.c (.a (.p (.b false))))), .any⟩, 
  ⟨(.some 111), .none, (.mv (.t 110)), .any⟩, 
  ⟨(.some 112), (.some (111, true)), (.ld 2 true (.t 11)), .any⟩, 
  ⟨(.some 113), (.some (111, true)), (.ld 2 true (.t 2)), .any⟩, 
  ⟨(.some 114), (.some (111, true)), (.call (.f 23) [(.t 112), (.t 113)]), .any⟩, 
  ⟨(.some 115), .none, (.pick (.t 111) (.t 114) (.c (.a (.p (.b false))))), .any⟩, 
  ⟨(.some 116), .none, (.mv (.t 115)), .any⟩, 
  ⟨(.some 117), (.some (116, true)), (.ld 2 true (.t 13)), .any⟩, 
  ⟨(.some 118), (.some (116, true)), (.ld 2 true (.t 2)), .any⟩, 
  ⟨(.some 119), (.some (116, true)), (.call (.f 23) [(.t 117), (.t 118)]), .any⟩, 
  ⟨(.some 120), .none, (.pick (.t 116) (.t 119) (.c (.a (.p (.b false))))), .any⟩, 
  ⟨(.some 4), .none, (.mv (.t 120)), .any⟩]) .ret)))))))))), [(.tmp 4)]⟩
theorem cc7 : ccF Try.prog [(26, [0, 0]), (66, [1, 0]), (26, [9])] Try.f7 = some F7 := by kernel_rfl

/- gossamer/gossamerlaw12.StoreBack -/
def F8b0 : C := (.seq (.seq (.reg [
  ⟨(.some 121), .none, (.mv (.t 8)), .any⟩, 
  ⟨(.some 122), .none, (.fad 0 (.t 5)), .any⟩, 
  ⟨(.some 123), .none, (.ld 1 false (.t 122)), .any⟩, 
  ⟨(.some 124), .none, (.len false (.t 123)), .any⟩, 
  ⟨(.some 125), .none, (.bin .lss (.t 121) (.t 124)), .any⟩]) (.cond (.t 125) .skip (.exit 0))) (.seq (.block 1 (.seq (.reg [
  ⟨(.some 128), .none, (.mv (.t 8)), .rd⟩, 
  ⟨(.some 129), .none, (.mv (.t 6)), .rd⟩, 
  ⟨(.some 130), .none, (.bin .neq (.t 128) (.t 129)), .any⟩, 
  ⟨(.some 131), .none, (.mv (.t 130)), .any⟩, 
  ⟨(.some 132), (.some (131, true)), (.mv (.t 8)), .rd⟩, 
  ⟨(.some 133), (.some (131, true)), (.fad 0 (.t 2)), .rd⟩, 
  ⟨(.some 134), (.some (131, true)), (.ld 1 false (.t 133)), .rd⟩, 
  ⟨(.some 135), (.some (131, true)), (.len false (.t 134)), .rd⟩, 
  ⟨(.some 136), (.some (131, true)), (.bin .geq (.t 132) (.t 135)), .any⟩, 
  ⟨(.some 137), (.some (131, true)), (.mv (.t 136)), .any⟩, 
  ⟨(.some 138), (.some (137, false)), (.fad 0 (.t 5)), .rd⟩, 
  ⟨(.some 139), (.some (137, false)), (.ld 1 false (.t 138)), .rd⟩, 
  ⟨(.some 140), (.some (137, false)), (.mv (.t 8)), .rd⟩, 
  ⟨(.some 141), (.some (137, false)), (.ias 6 (.t 139) (.t 140)), .rd⟩, 
  ⟨(.some 142), (.some (137, false)), (.ld 6 true (.t 141)), .rd⟩, 
  ⟨(.some 143), (.some (137, false)), (.fad 0 (.t 2)), .rd⟩, 
  ⟨(.some 144), (.some (137, false)), (.ld 1 false (.t 143)), .rd⟩, 
  ⟨(.some 145), (.some (137, false)), (.mv (.t 8)), .rd⟩, 
  ⟨(.some 146), (.some (137, false)), (.ias 6 (.t 144) (.t 145)), .rd⟩, 
  ⟨(.some 147), (.some (137, false)), (.ld 6 true (.t 146)), .rd⟩, 
  ⟨(.some 148), (.some (137, false)), (.call (.f 32) [(.t 142), (.t 147)]), .any⟩, 
  ⟨(.some 149), (.some (137, false)), (.not (.t 148)), .any⟩, 
  ⟨(.some 150), (.some (131, true)), (.pick (.t 137) (.c (.a (.p (.b true)))) (.t 149)), .any⟩, 
  ⟨(.some 151), .none, (.pick (.t 131) (.t 150) (.c (.a (.p (.b false))))), .any⟩]) (.cond (.t 151) (.seq (.reg [
  ⟨(.some 4), .none, (.mv (.c (.a (.p (.b false))))), .any⟩]) .ret) .skip))) (.reg [
  ⟨(.some 126), .none, (.mv (.t 8)), .any⟩, 
  ⟨(.some 127), .none, (.bin .add (.t 126) (.c (.a (.p (.i .i64 1))))), .any⟩, 
  ⟨(.some 8), .none, (.mv (.t 127)), .any⟩])))
def F8 : FnC := ⟨2, (.seq (.reg [
  ⟨(.some 2), .none, (.box 2 (.t 0)), .any⟩, 
  ⟨(.some 3), .none, (.box 6 (.t 1)), .any⟩, 
  ⟨(.some 4), .none, (.mv (.c (.a (.p (.b false))))), .any⟩]) (.seq (.seq (.reg [
  ⟨(.some 11), .none, (.call (.f 27) []), .any⟩, 
  ⟨(.some 12), .none, (.not (.t 11)), .any⟩, 
  ⟨(.some 13), .none, (.mv (.t 12)), .any⟩, 
  ⟨(.some 14), (.some (13, false)), (.ld 2 true (.t 2)), .any⟩, 
  ⟨(.some 15), (.some (13, false)), (.call (.f 13) [(.t 14), (.c (.a (.p (.i .i64 150))))]), .any⟩, 
  ⟨(.some 16), (.some (13, false)), (.not (.t 15)), .any⟩, 
  ⟨(.some 17), .none, (.pick (.t 13) (.c (.a (.p (.b true)))) (.t 16)), .any⟩, 
  ⟨(.some 18), .none, (.mv (.t 17)), .any⟩, 
  ⟨(.some 19), (.some (18, false)), (.ld 2 true (.t 2)), .any⟩, 
  ⟨(.some 20), (.some (18, false)), (.call (.f 24) [(.t 19)]), .any⟩, 
  ⟨(.some 21), (.some (18, false)), (.bin .neq (.t 20) (.c (.a (.p (.i .i64 0))))), .any⟩, 
  ⟨(.some 22), .none, (.pick (.t 18) (.c (.a (.p (.b true)))) (.t 21)), .any⟩, 
  ⟨(.some 23), .none, (.mv (.t 22)), .any⟩, 
  ⟨(.some 24), (.some (23, false)), (.fad 5 (.t 3)), .any⟩, 
  ⟨(.some 25), (.some (23, false)), (.ld 1 false (.t 24)), .any⟩, 
  ⟨(.some 26), (.some (23, false)), (.len false (.t 25)), .any⟩, 
  ⟨(.some 27), (.some (23, false)), (.bin .gtr (.t 26) (.c (.a (.p (.i .i64 20))))), .any⟩, 
  ⟨(.some 28), .none, (.pick (.t 23) (.c (.a (.p (.b true)))) (.t 27)), .any⟩, 
  ⟨(.some 29), .none, (.mv (.t 28)), .any⟩, 
  ⟨(.some 30), (.some (29, false)), (.fad 4 (.t 3)), .any⟩, 
  ⟨(.some 31), (.some (29, false)), (.ld 1 false (.t 30)), .any⟩, 
  ⟨(.some 32), (.some (29, false)), (.len false (.t 31)), .any⟩, 
  ⟨(.some 33), (.some (29, false)), (.bin .gtr (.t 32) (.c (.a (.p (.i .i64 20))))), .any⟩, 
  ⟨(.some 34), .none, (.pick (.t 29) (.c (.a (.p (.b true)))) (.t 33)), .any⟩, 
  ⟨(.some 35), .none, (.mv (.t 34)), .any⟩, 
  ⟨(.some 36), (.some (35, false)), (.fad 0 (.t 3)), .any⟩, 
  ⟨(.some 37), (.some (35, false)), (.ld 1 false (.t 36)), .any⟩, 
  ⟨(.some 38), (.some (35, false)), (.bin .lss (.t 37) (.c (.a (.p (.i .i64 2))))), .any⟩, 
  ⟨(.some 39), .none, (.pick (.t 35) (.c (.a (.p (.b true)))) (.t 38)), .any⟩, 
  ⟨(.some 40), .none, (.mv (.t 39)), .any⟩, 
  ⟨(.some 41), (.some (40, false)), (.ld 6 true (.t 3)), .any⟩, 
  ⟨(.some 42), (.some (40, false)), (.call (.f 28) [(.t 41)]), .any⟩, 
  ⟨(.some 43), (.some (40, false)), (.not (.t 42)), .any⟩, 
  ⟨(.some 44), .none, (.pick (.t 40) (.c (.a (.p (.b true)))) (.t 43)), .any⟩]) (.cond (.t 44) (.seq (.reg [
  ⟨(.some 45), .none, (.call (.f 27) []), .any⟩, 
  ⟨(.some 4), .none, (.mv (.t 45)), .any⟩]) .ret) .skip)) (.seq (.reg [
  ⟨(.some 47), .none, (.ld 2 true (.t 2)), .any⟩, 
  ⟨(.some 48), .none, (.ld 6 true (.t 3)), .any⟩, 
  ⟨(.some 49), .none, (.call (.f 29) [(.t 47), (.t 48)]), .any⟩, 
  ⟨(.some 46), .none, (.mv (.t 49)), .any⟩, 
  ⟨(.some 50), .none, (.ext (.t 46) 0), .any⟩, 
  ⟨(.some 51), .none, (.ext (.t 46) 1), .any⟩, 
  ⟨(.some 52), .none, (.ext (.t 46) 2), .any⟩, 
  ⟨(.some 5), .none, (.new [.nil, (.p (.i .i64 0))]), .any⟩, 
  ⟨.none, .none, (.st 2 (.t 5) (.t 50)), .any⟩, 
  ⟨(.some 6), .none, (.mv (.t 51)), .any⟩, 
  ⟨(.some 7), .none, (.mv (.t 52)), .any⟩]) (.seq (.seq (.reg [
  ⟨(.some 53), .none, (.mv (.t 7)), .rd⟩, 
  ⟨(.some 54), .none, (.bin .eql (.t 53) (.c (.a (.p (.i .i64 0))))), .rd⟩, 
  ⟨(.some 55), .none, (.ld 2 true (.t 2)), .rd⟩, 
  ⟨(.some 56), .none, (.call (.f 30) [(.t 55)]), .rd⟩, 
  ⟨(.some 57), .none, (.fad 1 (.t 2)), .rd⟩, 
  ⟨(.some 58), .none, (.ld 1 false (.t 57)), .rd⟩, 
  ⟨(.some 59), .none, (.bin .lss (.t 56) (.t 58)), .rd⟩, 
  ⟨(.some 60), .none, (.eqb true (.t 54) (.t 59)), .any⟩]) (.cond (.t 60) (.seq (.reg [
  ⟨(.some 4), .none, (.mv (.c (.a (.p (.b false))))), .any⟩]) .ret) .skip)) (.seq (.seq (.reg [
  ⟨(.some 61), .none, (.mv (.t 7)), .any⟩, 
  ⟨(.some 62), .none, (.bin .neq (.t 61) (.c (.a (.p (.i .i64 0))))), .any⟩]) (.cond (.t 62) (.seq (.reg [
  ⟨(.some 63), .none, (.mv (.t 7)), .any⟩, 
  ⟨(.some 64), .none, (.bin .eql (.t 63) (.c (.a (.p (.i .i64 121))))), .any⟩, 
  ⟨(.some 65), .none, (.mv (.t 64)), .any⟩, 
  ⟨(.some 66), (.some (65, true)), (.ld 2 true (.t 5)), .any⟩, 
  ⟨(.some 67), (.some (65, true)), (.ld 2 true (.t 2)), .any⟩, 
  ⟨(.some 68), (.some (65, true)), (.call (.f 23) [(.t 66), (.t 67)]), .any⟩, 
  ⟨(.some 69), .none, (.pick (.t 65) (.t 68) (.c (.a (.p (.b false))))), .any⟩, 
  ⟨(.some 4), .none, (.mv (.t 69)), .any⟩]) .ret) .skip)) (.seq (.seq (.reg [
  ⟨(.some 70), .none, (.mv (.t 6)), .any⟩, 
  ⟨(.some 71), .none, (.bin .lss (.t 70) (.c (.a (.p (.i .i64 1))))), .any⟩, 
  ⟨(.some 72), .none, (.mv (.t 71)), .any⟩, 
  ⟨(.some 73), (.some (72, false)), (.mv (.t 6)), .rd⟩, 
  ⟨(.some 74), (.some (72, false)), (.fad 0 (.t 5)), .rd⟩, 
  ⟨(.some 75), (.some (72, false)), (.ld 1 false (.t 74)), .rd⟩, 
  ⟨(.some 76), (.some (72, false)), (.len false (.t 75)), .rd⟩, 
  ⟨(.some 77), (.some (72, false)), (.bin .geq (.t 73) (.t 76)), .any⟩, 
  ⟨(.some 78), .none, (.pick (.t 72) (.c (.a (.p (.b true)))) (.t 77)), .any⟩, 
  ⟨(.some 79), .none, (.mv (.t 78)), .any⟩, 
  ⟨(.some 80), (.some (79, false)), (.mv (.t 6)), .rd⟩, 
  ⟨(.some 81), (.some (79, false)), (.fad 0 (.t 2)), .rd⟩, 
  ⟨(.some 82), (.some (79, false)), (.ld 1 false (.t 81)), .rd⟩, 
  ⟨(.some 83), (.some (79, false)), (.len false (.t 82)), .rd⟩, 
  ⟨(.some 84), (.some (79, false)), (.bin .lss (.t 80) (.t 83)), .any⟩, 
  ⟨(.some 85), (.some (79, false)), (.mv (.t 84)), .any⟩, 
  ⟨(.some 86), (.some (85, true)), (.fad 0 (.t 2)), .rd⟩, 
  ⟨(.some 87), (.some (85, true)), (.ld 1 false (.t 86)), .rd⟩, 
  ⟨(.some 88), (.some (85, true)), (.mv (.t 6)), .rd⟩, 
  ⟨(.some 89), (.some (85, true)), (.ias 6 (.t 87) (.t 88)), .any⟩, 
  ⟨(.some 90), (.some (85, true)), (.fad 0 (.t 89)), .any⟩, 
  ⟨(.some 91), (.some (85, true)), (.ld 1 false (.t 90)), .any⟩, 
  ⟨(.some 92), (.some (85, true)), (.bin .neq (.t 91) (.c (.a (.p (.i .i64 0))))), .any⟩, 
  ⟨(.some 93), (.some (79, false)), (.pick (.t 85) (.t 92) (.c (.a (.p (.b false))))), .any⟩, 
  ⟨(.some 94), .none, (.pick (.t 79) (.c (.a (.p (.b true)))) (.t 93)), .any⟩, 
  ⟨(.some 95), .none, (.mv (.t 94)), .any⟩, 
  ⟨(.some 96), (.some (95, false)), (.fad 0 (.t 5)), .rd⟩, 
  ⟨(.some 97), (.some (95, false)), (.ld 1 false (.t 96)), .rd⟩, 
  ⟨(.some 98), (.some (95, false)), (.mv (.t 6)), .rd⟩, 
  ⟨(.some 99), (.some (95, false)), (.ias 6 (.t 97) (.t 98)), .rd⟩, 
  ⟨(.some 100), (.some (95, false)), (.fad 0 (.t 99)), .rd⟩, 
  ⟨(.some 101), (.some (95, false)), (.ld 1 false (.t 100)), .rd⟩, 
  ⟨(.some 102), (.some (95, false)), (.fad 0 (.t 3)), .rd⟩, 
  ⟨(.some 103), (.some (95, false)), (.ld 1 false (.t 102)), .rd⟩, 
  ⟨(.some 104), (.some (95, false)), (.bin .neq (.t 101) (.t 103)), .any⟩, 
  ⟨(.some 105), .none, (.pick (.t 95) (.c (.a (.p (.b true)))) (.t 104)), .any⟩, 
  ⟨(.some 106), .none, (.mv (.t 105)), .any⟩, 
  ⟨(.some 107), (.some (106, false)), (.ld 2 true (.t 5)), .rd⟩, 
  ⟨(.some 108), (.some (106, false)), (.call (.f 31) [(.t 107)]), .rd⟩, 
  ⟨(.some 109), (.some (106, false)), (.ld 2 true (.t 2)), .rd⟩, 
  ⟨(.some 110), (.some (106, false)), (.call (.f 31) [(.t 109)]), .any⟩, 
  ⟨(.some 111), (.some (106, false)), (.bin .add (.t 110) (.c (.a (.p (.i .i64 1))))), .any⟩, 
  ⟨(.some 112), (.some (106, false)), (.bin .neq (.t 108) (.t 111)), .any⟩, 
  ⟨(.some 113), .none, (.pick (.t 106) (.c (.a (.p (.b true)))) (.t 112)), .any⟩, 
  ⟨(.some 114), .none, (.mv (.t 113)), .any⟩, 
  ⟨(.some 115), (.some (114, false)), (.ld 2 true (.t 5)), .rd⟩, 
  ⟨(.some 116), (.some (114, false)), (.call (.f 31) [(.t 115)]), .rd⟩, 
  ⟨(.some 117), (.some (114, false)), (.fad 1 (.t 5)), .rd⟩, 
  ⟨(.some 118), (.some (114, false)), (.ld 1 false (.t 117)), .rd⟩, 
  ⟨(.some 119), (.some (114, false)), (.bin .gtr (.t 116) (.t 118)), .any⟩, 
  ⟨(.some 120), .none, (.pick (.t 114) (.c (.a (.p (.b true)))) (.t 119)), .any⟩]) (.cond (.t 120) (.seq (.reg [
  ⟨(.some 4), .none, (.mv (.c (.a (.p (.b false))))), .any⟩]) .ret) .skip)) (.seq (.seq (.reg [
  ⟨(.some 8), .none, (.mv (.c (.a (.p (.i .i64 0))))), .any⟩]) (.block 0 (.loop F8b0))) (.seq (.reg [
  ⟨(.some 153), .none, (.ld 2 true (.t 5)), .any⟩, 
  ⟨(.some 154), .none, (.mv (.t 6)), .any⟩, 
  ⟨(.some 155), .none, (.call (.f 33) [(.t 153), (.t 154)]), .any⟩, 
  ⟨(.some 152), .none, (.mv (.t 155)), .any⟩, 
  ⟨(.some 156), .none, (.ext (.t 152) 0), .any⟩, 
  ⟨(.some 157), .none, (.ext (.t 152) 1), .any⟩, 
  ⟨(.some 9), .none, (.new [.nil, (.p (.i .i64 0))]), .any⟩, 
  ⟨.none, .none, (.st 2 (.t 9) (.t 156)), .any⟩, 
  ⟨(.some 10), .none, (.mv (.t 157)), .any⟩]) (.seq (.reg [
  ⟨(.some 158), .none, (.mv (.t 10)), .any⟩, 
  ⟨(.some 159), .none, (.bin .eql (.t 158) (.c (.a (.p (.i .i64 0))))), .any⟩, 
  ⟨(.some 160), .none, (.mv (.t 159)), .any⟩, 
  ⟨(.some 161), (.some (160, true)), (.ld 2 true (.t 9)), .any⟩, 
  ⟨(.some 162), (.some (160, true)), (.ld 2 true (.t 2)), .any⟩, 
  ⟨(.some 163), (.some (160, true)), (.call (.f 23) [(.t 161), (.t 162)]), .any⟩, 
  ⟨(.some 164), .none, (.pick (.t 160) (.t 163) (.c (.a (.p (.b false))))), .any⟩, 
  ⟨(.some 4), .none, (.mv (.t 164)), .any⟩]) .ret))))))))), [(.tmp 4)]⟩
theorem cc8 : ccF Try.prog [(26, [0, 0]), (66, [1, 0]), (26, [9])] Try.f8 = some F8 := by kernel_rfl

/- gossamer/gossamerlaw12.StoreParts -/
def F9 : FnC := ⟨2, (.seq (.reg [
  ⟨(.some 2), .none, (.box 2 (.t 0)), .any⟩, 
  ⟨(.some 4), .none, (.mv (.c (.a (.p (.b false))))), .any⟩]) (.seq (.seq (.reg [
  ⟨(.some 12), .none, (.call (.f 27) []), .any⟩, 
  ⟨(.some 13), .none, (.not (.t 12)), .any⟩, 
  ⟨(.some 14), .none, (.mv (.t 13)), .any⟩, 
  ⟨(.some 15), (.some (14, false)), (.ld 2 true (.t 2)), .any⟩, 
  ⟨(.some 16), (.some (14, false)), (.call (.f 13) [(.t 15), (.c (.a (.p (.i .i64 150))))]), .any⟩, 
  ⟨(.some 17), (.some (14, false)), (.not (.t 16)), .any⟩, 
  ⟨(.some 18), .none, (.pick (.t 14) (.c (.a (.p (.b true)))) (.t 17)), .any⟩, 
  ⟨(.some 19), .none, (.mv (.t 18)), .any⟩, 
  ⟨(.some 20), (.some (19, false)), (.ld 2 true (.t 2)), .any⟩, 
  ⟨(.some 21), (.some (19, false)), (.call (.f 24) [(.t 20)]), .any⟩, 
  ⟨(.some 22), (.some (19, false)), (.bin .neq (.t 21) (.c (.a (.p (.i .i64 0))))), .any⟩, 
  ⟨(.some 23), .none, (.pick (.t 19) (.c (.a (.p (.b true)))) (.t 22)), .any⟩, 
  ⟨(.some 24), .none, (.mv (.t 23)), .any⟩, 
  ⟨(.some 25), (.some (24, false)), (.mv (.t 1)), .any⟩, 
  ⟨(.some 26), (.some (24, false)), (.bin .lss (.t 25) (.c (.a (.p (.i .i64 1))))), .any⟩, 
  ⟨(.some 27), .none, (.pick (.t 24) (.c (.a (.p (.b true)))) (.t 26)), .any⟩]) (.cond (.t 27) (.seq (.reg [
  ⟨(.some 28), .none, (.call (.f 27) []), .any⟩, 
  ⟨(.some 4), .none, (.mv (.t 28)), .any⟩]) .ret) .skip)) (.seq (.reg [
  ⟨(.some 30), .none, (.ld 2 true (.t 2)), .any⟩, 
  ⟨(.some 31), .none, (.mv (.t 1)), .any⟩, 
  ⟨(.some 32), .none, (.call (.f 33) [(.t 30), (.t 31)]), .any⟩, 
  ⟨(.some 29), .none, (.mv (.t 32)), .any⟩, 
  ⟨(.some 33), .none, (.ext (.t 29) 0), .any⟩, 
  ⟨(.some 34), .none, (.ext (.t 29) 1), .any⟩, 
  ⟨(.some 5), .none, (.new [.nil, (.p (.i .i64 0))]), .any⟩, 
  ⟨.none, .none, (.st 2 (.t 5) (.t 33)), .any⟩, 
  ⟨(.some 6), .none, (.mv (.t 34)), .any⟩]) (.seq (.seq (.reg [
  ⟨(.some 35), .none, (.mv (.t 6)), .any⟩, 
  ⟨(.some 36), .none, (.bin .eql (.t 35) (.c (.a (.p (.i .i64 0))))), .any⟩, 
  ⟨(.some 37), .none, (.mv (.t 1)), .any⟩, 
  ⟨(.some 38), .none, (.fad 0 (.t 2)), .any⟩, 
  ⟨(.some 39), .none, (.ld 1 false (.t 38)), .any⟩, 
  ⟨(.some 40), .none, (.len false (.t 39)), .any⟩, 
  ⟨(.some 41), .none, (.bin .lss (.t 37) (.t 40)), .any⟩, 
  ⟨(.some 42), .none, (.mv (.t 41)), .any⟩, 
  ⟨(.some 43), (.some (42, true)), (.fad 0 (.t 2)), .any⟩, 
  ⟨(.some 44), (.some (42, true)), (.ld 1 false (.t 43)), .any⟩, 
  ⟨(.some 45), (.some (42, true)), (.mv (.t 1)), .any⟩, 
  ⟨(.some 46), (.some (42, true)), (.ias 6 (.t 44) (.t 45)), .any⟩, 
  ⟨(.some 47), (.some (42, true)), (.fad 0 (.t 46)), .any⟩, 
  ⟨(.some 48), (.some (42, true)), (.ld 1 false (.t 47)), .any⟩, 
  ⟨(.some 49), (.some (42, true)), (.bin .neq (.t 48) (.c (.a (.p (.i .i64 0))))), .any⟩, 
  ⟨(.some 50), .none, (.pick (.t 42) (.t 49) (.c (.a (.p (.b false))))), .any⟩, 
  ⟨(.some 51), .none, (.eqb true (.t 36) (.t 50)), .any⟩]) (.cond (.t 51) (.seq (.reg [
  ⟨(.some 4), .none, (.mv (.c (.a (.p (.b false))))), .any⟩]) .ret) .skip)) (.seq (.seq (.reg [
  ⟨(.some 52), .none, (.mv (.t 6)), .any⟩, 
  ⟨(.some 53), .none, (.bin .neq (.t 52) (.c (.a (.p (.i .i64 0))))), .any⟩]) (.cond (.t 53) (.seq (.reg [
  ⟨(.some 54), .none, (.mv (.t 6)), .any⟩, 
  ⟨(.some 55), .none, (.bin .eql (.t 54) (.c (.a (.p (.i .i64 122))))), .any⟩, 
  ⟨(.some 56), .none, (.mv (.t 55)), .any⟩, 
  ⟨(.some 57), (.some (56, true)), (.ld 2 true (.t 5)), .any⟩, 
  ⟨(.some 58), (.some (56, true)), (.ld 2 true (.t 2)), .any⟩, 
  ⟨(.some 59), (.some (56, true)), (.call (.f 23) [(.t 57), (.t 58)]), .any⟩, 
  ⟨(.some 60), .none, (.pick (.t 56) (.t 59) (.c (.a (.p (.b false))))), .any⟩, 
  ⟨(.some 4), .none, (.mv (.t 60)), .any⟩]) .ret) .skip)) (.seq (.reg [
  ⟨(.some 62), .none, (.ld 2 true (.t 5)), .any⟩, 
  ⟨(.some 63), .none, (.mv (.t 1)), .any⟩, 
  ⟨(.some 64), .none, (.call (.f 33) [(.t 62), (.t 63)]), .any⟩, 
  ⟨(.some 61), .none, (.mv (.t 64)), .any⟩, 
  ⟨(.some 65), .none, (.ext (.t 61) 0), .any⟩, 
  ⟨(.some 66), .none, (.ext (.t 61) 1), .any⟩, 
  ⟨(.some 7), .none, (.new [.nil, (.p (.i .i64 0))]), .any⟩, 
  ⟨.none, .none, (.st 2 (.t 7) (.t 65)), .any⟩, 
  ⟨(.some 8), .none, (.mv (.t 66)), .any⟩]) (.seq (.reg [
  ⟨(.some 68), .none, (.ld 2 true (.t 5)), .rd⟩, 
  ⟨(.some 69), .none, (.fad 0 (.t 2)), .rd⟩, 
  ⟨(.some 70), .none, (.ld 1 false (.t 69)), .rd⟩, 
  ⟨(.some 71), .none, (.mv (.t 1)), .rd⟩, 
  ⟨(.some 72), .none, (.ias 6 (.t 70) (.t 71)), .rd⟩, 
  ⟨(.some 73), .none, (.ld 6 true (.t 72)), .rd⟩, 
  ⟨(.some 74), .none, (.call (.f 29) [(.t 68), (.t 73)]), .rd⟩, 
  ⟨(.some 67), .none, (.mv (.t 74)), .rd⟩, 
  ⟨(.some 75), .none, (.ext (.t 67) 0), .rd⟩, 
  ⟨(.some 76), .none, (.ext (.t 67) 1), .rd⟩, 
  ⟨(.some 77), .none, (.ext (.t 67) 2), .rd⟩, 
  ⟨(.some 9), .none, (.new [.nil, (.p (.i .i64 0))]), .ad⟩, 
  ⟨.none, .none, (.st 2 (.t 9) (.t 75)), (.wr [])⟩, 
  ⟨(.some 10), .none, (.mv (.t 76)), .rd⟩, 
  ⟨(.some 11), .none, (.mv (.t 77)), .any⟩]) (.seq (.reg [
  ⟨(.some 78), .none, (.ld 2 true (.t 5)), .rd⟩, 
  ⟨(.some 79), .none, (.call (.f 31) [(.t 78)]), .rd⟩, 
  ⟨(.some 80), .none, (.ld 2 true (.t 2)), .rd⟩, 
  ⟨(.some 81), .none, (.call (.f 31) [(.t 80)]), .any⟩, 
  ⟨(.some 82), .none, (.bin .sub (.t 81) (.c (.a (.p (.i .i64 1))))), .any⟩, 
  ⟨(.some 83), .none, (.bin .eql (.t 79) (.t 82)), .any⟩, 
  ⟨(.some 84), .none, (.mv (.t 83)), .any⟩, 
  ⟨(.some 85), (.some (84, true)), (.mv (.t 8)), .any⟩, 
  ⟨(.some 86), (.some (84, true)), (.bin .eql (.t 85) (.c (.a (.p (.i .i64 122))))), .any⟩, 
  ⟨(.some 87), .none, (.pick (.t 84) (.t 86) (.c (.a (.p (.b false))))), .any⟩, 
  ⟨(.some 88), .none, (.mv (.t 87)), .any⟩, 
  ⟨(.some 89), (.some (88, true)), (.mv (.t 11)), .any⟩, 
  ⟨(.some 90), (.some (88, true)), (.bin .eql (.t 89) (.c (.a (.p (.i .i64 0))))), .any⟩, 
  ⟨(.some 91), .none, (.pick (.t 88) (.t 90) (.c (.a (.p (.b false))))), .any⟩, 
  ⟨(.some 92), .none, (.mv (.t 91)), .any⟩, 
  ⟨(.some 93), (.some (92, true)), (.mv (.t 10)), .rd⟩, 
  ⟨(.some 94), (.some (92, true)), (.mv (.t 1)), .rd⟩, 
  ⟨(.some 95), (.some (92, true)), (.bin .leq (.t 93) (.t 94)), .any⟩, 
  ⟨(.some 96), .none, (.pick (.t 92) (.t 95) (.c (.a (.p (.b false))))), .any⟩, 
  ⟨(.some 97), .none, (.mv (.t 96)), .any⟩, 
  ⟨(.some 98), (.some (97, true)), (.ld 2 true (.t 9)), .rd⟩, 
  ⟨(.some 99), (.some (97, true)), (.call (.f 31) [(.t 98)]), .rd⟩, 
  ⟨(.some 100), (.some (97, true)), (.ld 2 true (.t 2)), .rd⟩, 
  ⟨(.some 101), (.some (97, true)), (.call (.f 31) [(.t 100)]), .any⟩, 
  ⟨(.some 102), (.some (97, true)), (.bin .eql (.t 99) (.t 101)), .any⟩, 
  ⟨(.some 103), .none, (.pick (.t 97) (.t 102) (.c (.a (.p (.b false))))), .any⟩, 
  ⟨(.some 104), .none, (.mv (.t 103)), .any⟩, 
  ⟨(.some 105), (.some (104, true)), (.fad 0 (.t 5)), .rd⟩, 
  ⟨(.some 106), (.some (104, true)), (.ld 1 false (.t 105)), .rd⟩, 
  ⟨(.some 107), (.some (104, true)), (.len false (.t 106)), .rd⟩, 
  ⟨(.some 108), (.some (104, true)), (.fad 0 (.t 2)), .rd⟩, 
  ⟨(.some 109), (.some (104, true)), (.ld 1 false (.t 108)), .rd⟩, 
  ⟨(.some 110), (.some (104, true)), (.len false (.t 109)), .rd⟩, 
  ⟨(.some 111), (.some (104, true)), (.bin .leq (.t 107) (.t 110)), .any⟩, 
  ⟨(.some 112), .none, (.pick (.t 104) (.t 111) (.c (.a (.p (.b false))))), .any⟩, 
  ⟨(.some 4), .none, (.mv (.t 112)), .any⟩]) .ret)))))))), [(.tmp 4)]⟩
theorem cc9 : ccF Try.prog [(26, [0, 0]), (66, [1, 0]), (26, [9])] Try.f9 = some F9 := by kernel_rfl

/- gossamer/gossamerlaw12.StoreFills -/
def F10b0 : C := (.seq (.seq (.reg [
  ⟨(.some 58), .none, (.mv (.t 7)), .any⟩, 
  ⟨(.some 59), .none, (.mv (.t 0)), .any⟩, 
  ⟨(.some 60), .none, (.bin .lss (.t 58) (.t 59)), .any⟩]) (.cond (.t 60) .skip (.exit 0))) (.seq (.block 1 (.seq (.reg [
  ⟨(.some 64), .none, (.ld 2 true (.t 5)), .any⟩, 
  ⟨(.some 65), .none, (.ld 6 true (.t 3)), .any⟩, 
  ⟨(.some 66), .none, (.call (.f 29) [(.t 64), (.t 65)]), .any⟩, 
  ⟨(.some 63), .none, (.mv (.t 66)), .any⟩, 
  ⟨(.some 67), .none, (.ext (.t 63) 0), .any⟩, 
  ⟨(.some 68), .none, (.ext (.t 63) 1), .any⟩, 
  ⟨(.some 69), .none, (.ext (.t 63) 2), .any⟩, 
  ⟨(.some 8), .none, (.new [.nil, (.p (.i .i64 0))]), .any⟩, 
  ⟨.none, .none, (.st 2 (.t 8) (.t 67)), .any⟩, 
  ⟨(.some 9), .none, (.mv (.t 68)), .any⟩, 
  ⟨(.some 10), .none, (.mv (.t 69)), .any⟩]) (.seq (.seq (.reg [
  ⟨(.some 70), .none, (.mv (.t 10)), .any⟩, 
  ⟨(.some 71), .none, (.bin .neq (.t 70) (.c (.a (.p (.i .i64 0))))), .any⟩, 
  ⟨(.some 72), .none, (.mv (.t 71)), .any⟩, 
  ⟨(.some 73), (.some (72, false)), (.mv (.t 9)), .any⟩, 
  ⟨(.some 74), (.some (72, false)), (.mv (.t 7)), .any⟩, 
  ⟨(.some 75), (.some (72, false)), (.bin .neq (.t 73) (.t 74)), .any⟩, 
  ⟨(.some 76), .none, (.pick (.t 72) (.c (.a (.p (.b true)))) (.t 75)), .any⟩, 
  ⟨(.some 77), .none, (.mv (.t 76)), .any⟩, 
  ⟨(.some 78), (.some (77, false)), (.ld 2 true (.t 8)), .any⟩, 
  ⟨(.some 79), (.some (77, false)), (.call (.f 31) [(.t 78)]), .any⟩, 
  ⟨(.some 80), (.some (77, false)), (.mv (.t 7)), .any⟩, 
  ⟨(.some 81), (.some (77, false)), (.bin .add (.t 80) (.c (.a (.p (.i .i64 1))))), .any⟩, 
  ⟨(.some 82), (.some (77, false)), (.bin .neq (.t 79) (.t 81)), .any⟩, 
  ⟨(.some 83), .none, (.pick (.t 77) (.c (.a (.p (.b true)))) (.t 82)), .any⟩]) (.cond (.t 83) (.seq (.reg [
  ⟨(.some 4), .none, (.mv (.c (.a (.p (.b false))))), .any⟩]) .ret) .skip)) (.reg [
  ⟨(.some 84), .none, (.ld 2 true (.t 8)), .any⟩, 
  ⟨.none, .none, (.st 2 (.t 5) (.t 84)), .any⟩])))) (.reg [
  ⟨(.some 61), .none, (.mv (.t 7)), .any⟩, 
  ⟨(.some 62), .none, (.bin .add (.t 61) (.c (.a (.p (.i .i64 1))))), .any⟩, 
  ⟨(.some 7), .none, (.mv (.t 62)), .any⟩])))
def F10b1 : C := (.seq (.seq (.reg [
  ⟨(.some 101), .none, (.mv (.t 17)), .any⟩, 
  ⟨(.some 102), .none, (.bin .geq (.t 101) (.c (.a (.p (.i .i64 2))))), .any⟩]) (.cond (.t 102) .skip (.exit 2))) (.seq (.block 3 (.seq (.reg [
  ⟨(.some 106), .none, (.ld 2 true (.t 5)), .any⟩, 
  ⟨(.some 107), .none, (.mv (.t 17)), .any⟩, 
  ⟨(.some 108), .none, (.call (.f 33) [(.t 106), (.t 107)]), .any⟩, 
  ⟨(.some 105), .none, (.mv (.t 108)), .any⟩, 
  ⟨(.some 109), .none, (.ext (.t 105) 0), .any⟩, 
  ⟨(.some 110), .none, (.ext (.t 105) 1), .any⟩, 
  ⟨(.some 18), .none, (.new [.nil, (.p (.i .i64 0))]), .any⟩, 
  ⟨.none, .none, (.st 2 (.t 18) (.t 109)), .any⟩, 
  ⟨(.some 19), .none, (.mv (.t 110)), .any⟩]) (.seq (.seq (.reg [
  ⟨(.some 111), .none, (.mv (.t 19)), .any⟩, 
  ⟨(.some 112), .none, (.bin .neq (.t 111) (.c (.a (.p (.i .i64 0))))), .any⟩, 
  ⟨(.some 113), .none, (.mv (.t 112)), .any⟩, 
  ⟨(.some 114), (.some (113, false)), (.fad 0 (.t 18)), .any⟩, 
  ⟨(.some 115), (.some (113, false)), (.ld 1 false (.t 114)), .any⟩, 
  ⟨(.some 116), (.some (113, false)), (.len false (.t 115)), .any⟩, 
  ⟨(.some 117), (.some (113, false)), (.mv (.t 17)), .any⟩, 
  ⟨(.some 118), (.some (113, false)), (.bin .neq (.t 116) (.t 117)), .any⟩, 
  ⟨(.some 119), .none, (.pick (.t 113) (.c (.a (.p (.b true)))) (.t 118)), .any⟩]) (.cond (.t 119) (.seq (.reg [
  ⟨(.some 4), .none, (.mv (.c (.a (.p (.b false))))), .any⟩]) .ret) .skip)) (.reg [
  ⟨(.some 120), .none, (.ld 2 true (.t 18)), .any⟩, 
  ⟨.none, .none, (.st 2 (.t 5) (.t 120)), .any⟩])))) (.reg [
  ⟨(.some 103), .none, (.mv (.t 17)), .any⟩, 
  ⟨(.some 104), .none, (.bin .sub (.t 103) (.c (.a (.p (.i .i64 1))))), .any⟩, 
  ⟨(.some 17), .none, (.mv (.t 104)), .any⟩])))
def F10 : FnC := ⟨2, (.seq (.reg [
  ⟨(.some 3), .none, (.box 6 (.t 1)), .any⟩, 
  ⟨(.some 4), .none, (.mv (.c (.a (.p (.b false))))), .any⟩]) (.seq (.seq (.reg [
  ⟨(.some 20), .none, (.call (.f 27) []), .any⟩, 
  ⟨(.some 21), .none, (.not (.t 20)), .any⟩, 
  ⟨(.some 22), .none, (.mv (.t 21)), .any⟩, 
  ⟨(.some 23), (.some (22, false)), (.mv (.t 0)), .any⟩, 
  ⟨(.some 24), (.some (22, false)), (.bin .lss (.t 23) (.c (.a (.p (.i .i64 2))))), .any⟩, 
  ⟨(.some 25), .none, (.pick (.t 22) (.c (.a (.p (.b true)))) (.t 24)), .any⟩, 
  ⟨(.some 26), .none, (.mv (.t 25)), .any⟩, 
  ⟨(.some 27), (.some (26, false)), (.mv (.t 0)), .any⟩, 
  ⟨(.some 28), (.some (26, false)), (.bin .gtr (.t 27) (.c (.a (.p (.i .i64 40))))), .any⟩, 
  ⟨(.some 29), .none, (.pick (.t 26) (.c (.a (.p (.b true)))) (.t 28)), .any⟩, 
  ⟨(.some 30), .none, (.mv (.t 29)), .any⟩, 
  ⟨(.some 31), (.some (30, false)), (.fad 0 (.t 3)), .any⟩, 
  ⟨(.some 32), (.some (30, false)), (.ld 1 false (.t 31)), .any⟩, 
  ⟨(.some 33), (.some (30, false)), (.bin .lss (.t 32) (.c (.a (.p (.i .i64 2))))), .any⟩, 
  ⟨(.some 34), .none, (.pick (.t 30) (.c (.a (.p (.b true)))) (.t 33)), .any⟩, 
  ⟨(.some 35), .none, (.mv (.t 34)), .any⟩, 
  ⟨(.some 36), (.some (35, false)), (.fad 5 (.t 3)), .any⟩, 
  ⟨(.some 37), (.some (35, false)), (.ld 1 false (.t 36)), .any⟩, 
  ⟨(.some 38), (.some (35, false)), (.len false (.t 37)), .any⟩, 
  ⟨(.some 39), (.some (35, false)), (.bin .gtr (.t 38) (.c (.a (.p (.i .i64 20))))), .any⟩, 
  ⟨(.some 40), .none, (.pick (.t 35) (.c (.a (.p (.b true)))) (.t 39)), .any⟩, 
  ⟨(.some 41), .none, (.mv (.t 40)), .any⟩, 
  ⟨(.some 42), (.some (41, false)), (.fad 4 (.t 3)), .any⟩, 
  ⟨(.some 43), (.some (41, false)), (.ld 1 false (.t 42)), .any⟩, 
  ⟨(.some 44), (.some (41, false)), (.len false (.t 43)), .any⟩, 
  ⟨(.some 45), (.some (41, false)), (.bin .gtr (.t 44) (.c (.a (.p (.i .i64 20))))), .any⟩, 
  ⟨(.some 46), .none, (.pick (.t 41) (.c (.a (.p (.b true)))) (.t 45)), .any⟩, 
  ⟨(.some 47), .none, (.mv (.t 46)), .any⟩, 
  ⟨(.some 48), (.some (47, false)), (.ld 6 true (.t 3)), .any⟩, 
  ⟨(.some 49), (.some (47, false)), (.call (.f 28) [(.t 48)]), .any⟩, 
  ⟨(.some 50), (.some (47, false)), (.not (.t 49)), .any⟩, 
  ⟨(.some 51), .none, (.pick (.t 47) (.c (.a (.p (.b true)))) (.t 50)), .any⟩]) (.cond (.t 51) (.seq (.reg [
  ⟨(.some 52), .none, (.call (.f 27) []), .any⟩, 
  ⟨(.some 4), .none, (.mv (.t 52)), .any⟩]) .ret) .skip)) (.seq (.reg [
  ⟨(.some 54), .none, (.mv (.t 0)), .any⟩, 
  ⟨(.some 55), .none, (.call (.f 34) [(.t 54)]), .any⟩, 
  ⟨(.some 53), .none, (.mv (.t 55)), .any⟩, 
  ⟨(.some 56), .none, (.ext (.t 53) 0), .any⟩, 
  ⟨(.some 57), .none, (.ext (.t 53) 1), .any⟩, 
  ⟨(.some 5), .none, (.new [.nil, (.p (.i .i64 0))]), .any⟩, 
  ⟨.none, .none, (.st 2 (.t 5) (.t 56)), .any⟩, 
  ⟨(.some 6), .none, (.mv (.t 57)), .any⟩]) (.seq (.seq (.reg [
  ⟨(.some 7), .none, (.mv (.c (.a (.p (.i .i64 2))))), .any⟩]) (.block 0 (.loop F10b0))) (.seq (.reg [
  ⟨(.some 86), .none, (.ld 2 true (.t 5)), .any⟩, 
  ⟨(.some 87), .none, (.ld 6 true (.t 3)), .any⟩, 
  ⟨(.some 88), .none, (.call (.f 29) [(.t 86), (.t 87)]), .any⟩, 
  ⟨(.some 85), .none, (.mv (.t 88)), .any⟩, 
  ⟨(.some 89), .none, (.ext (.t 85) 0), .any⟩, 
  ⟨(.some 90), .none, (.ext (.t 85) 1), .any⟩, 
  ⟨(.some 91), .none, (.ext (.t 85) 2), .any⟩, 
  ⟨(.some 11), .none, (.new [.nil, (.p (.i .i64 0))]), .any⟩, 
  ⟨.none, .none, (.st 2 (.t 11) (.t 89)), .any⟩, 
  ⟨(.some 12), .none, (.mv (.t 90)), .any⟩, 
  ⟨(.some 13), .none, (.mv (.t 91)), .any⟩]) (.seq (.reg [
  ⟨(.some 93), .none, (.ld 2 true (.t 5)), .any⟩, 
  ⟨(.some 94), .none, (.build [(.p (.i .i64 0)), (.p (.i .i64 0)), (.p (.i .i64 0)), (.p (.s [])), .nil, .nil] [(0, (1, (.c (.a (.p (.i .i64 1))))))]), .any⟩, 
  ⟨(.some 95), .none, (.call (.f 29) [(.t 93), (.t 94)]), .any⟩, 
  ⟨(.some 92), .none, (.mv (.t 95)), .any⟩, 
  ⟨(.some 96), .none, (.ext (.t 92) 0), .any⟩, 
  ⟨(.some 97), .none, (.ext (.t 92) 1), .any⟩, 
  ⟨(.some 98), .none, (.ext (.t 92) 2), .any⟩, 
  ⟨(.some 14), .none, (.new [.nil, (.p (.i .i64 0))]), .any⟩, 
  ⟨.none, .none, (.st 2 (.t 14) (.t 96)), .any⟩, 
  ⟨(.some 15), .none, (.mv (.t 97)), .any⟩, 
  ⟨(.some 16), .none, (.mv (.t 98)), .any⟩]) (.seq (.seq (.reg [
  ⟨(.some 99), .none, (.mv (.t 0)), .any⟩, 
  ⟨(.some 100), .none, (.bin .sub (.t 99) (.c (.a (.p (.i .i64 1))))), .any⟩, 
  ⟨(.some 17), .none, (.mv (.t 100)), .any⟩]) (.block 2 (.loop F10b1))) (.seq (.reg [
  ⟨(.some 121), .none, (.mv (.t 13)), .any⟩, 
  ⟨(.some 122), .none, (.bin .eql (.t 121) (.c (.a (.p (.i .i64 121))))), .any⟩, 
  ⟨(.some 123), .none, (.mv (.t 122)), .any⟩, 
  ⟨(.some 124), (.some (123, true)), (.mv (.t 16)), .any⟩, 
  ⟨(.some 125), (.some (123, true)), (.bin .eql (.t 124) (.c (.a (.p (.i .i64 122))))), .any⟩, 
  ⟨(.some 126), .none, (.pick (.t 123) (.t 125) (.c (.a (.p (.b false))))), .any⟩, 
  ⟨(.some 127), .none, (.mv (.t 126)), .any⟩, 
  ⟨(.some 128), (.some (127, true)), (.ld 2 true (.t 5)), .any⟩, 
  ⟨(.some 129), (.some (127, true)), (.call (.f 35) [(.t 128)]), .any⟩, 
  ⟨(.some 130), (.some (127, true)), (.bin .eql (.t 129) (.c (.a (.p (.i .i64 0))))), .any⟩, 
  ⟨(.some 131), .none, (.pick (.t 127) (.t 130) (.c (.a (.p (.b false))))), .any⟩, 
  ⟨(.some 132), .none, (.mv (.t 131)), .any⟩, 
  ⟨(.some 133), (.some (132, true)), (.ld 2 true (.t 5)), .any⟩, 
  ⟨(.some 134), (.some (132, true)), (.call (.f 31) [(.t 133)]), .any⟩, 
  ⟨(.some 135), (.some (132, true)), (.bin .eql (.t 134) (.c (.a (.p (.i .i64 2))))), .any⟩, 
  ⟨(.some 136), .none, (.pick (.t 132) (.t 135) (.c (.a (.p (.b false))))), .any⟩, 
  ⟨(.some 4), .none, (.mv (.t 136)), .any⟩]) .ret)))))))), [(.tmp 4)]⟩
theorem cc10 : ccF Try.prog [(26, [0, 0]), (66, [1, 0]), (26, [9])] Try.f10 = some F10 := by kernel_rfl

/- gossamer/gossamerlaw12.StoreLinks -/
def F11b0 : C := (.seq (.seq (.reg [
  ⟨(.some 56), .none, (.mv (.t 9)), .any⟩, 
  ⟨(.some 57), .none, (.fad 0 (.t 3)), .any⟩, 
  ⟨(.some 58), .none, (.ld 1 false (.t 57)), .any⟩, 
  ⟨(.some 59), .none, (.mv (.t 1)), .any⟩, 
  ⟨(.some 60), .none, (.ias 6 (.t 58) (.t 59)), .any⟩, 
  ⟨(.some 61), .none, (.fad 5 (.t 60)), .any⟩, 
  ⟨(.some 62), .none, (.ld 1 false (.t 61)), .any⟩, 
  ⟨(.some 63), .none, (.len false (.t 62)), .any⟩, 
  ⟨(.some 64), .none, (.bin .lss (.t 56) (.t 63)), .any⟩]) (.cond (.t 64) .skip (.exit 0))) (.seq (.block 1 (.reg [
  ⟨(.some 67), .none, (.mv (.t 8)), .any⟩, 
  ⟨(.some 68), .none, (.fad 0 (.t 3)), .any⟩, 
  ⟨(.some 69), .none, (.ld 1 false (.t 68)), .any⟩, 
  ⟨(.some 70), .none, (.mv (.t 1)), .any⟩, 
  ⟨(.some 71), .none, (.ias 6 (.t 69) (.t 70)), .any⟩, 
  ⟨(.some 72), .none, (.fad 5 (.t 71)), .any⟩, 
  ⟨(.some 73), .none, (.ld 1 false (.t 72)), .any⟩, 
  ⟨(.some 74), .none, (.mv (.t 9)), .any⟩, 
  ⟨(.some 75), .none, (.ias 2 (.t 73) (.t 74)), .any⟩, 
  ⟨(.some 76), .none, (.ld 2 true (.t 75)), .any⟩, 
  ⟨(.some 77), .none, (.bsl 2 26 [(.p (.i .i64 0)), (.p (.i .i64 0))] 1 [(0, (.t 76))]), .any⟩, 
  ⟨(.some 78), .none, (.app 2 26 16 (.t 67) (.t 77)), .any⟩, 
  ⟨(.some 8), .none, (.mv (.t 78)), .any⟩])) (.reg [
  ⟨(.some 65), .none, (.mv (.t 9)), .any⟩, 
  ⟨(.some 66), .none, (.bin .add (.t 65) (.c (.a (.p (.i .i64 1))))), .any⟩, 
  ⟨(.some 9), .none, (.mv (.t 66)), .any⟩])))
def F11b1 : C := (.seq (.seq (.reg [
  ⟨(.some 97), .none, (.mv (.t 13)), .any⟩, 
  ⟨(.some 98), .none, (.fad 0 (.t 3)), .any⟩, 
  ⟨(.some 99), .none, (.ld 1 false (.t 98)), .any⟩, 
  ⟨(.some 100), .none, (.mv (.t 1)), .any⟩, 
  ⟨(.some 101), .none, (.ias 6 (.t 99) (.t 100)), .any⟩, 
  ⟨(.some 102), .none, (.fad 5 (.t 101)), .any⟩, 
  ⟨(.some 103), .none, (.ld 1 false (.t 102)), .any⟩, 
  ⟨(.some 104), .none, (.len false (.t 103)), .any⟩, 
  ⟨(.some 105), .none, (.bin .lss (.t 97) (.t 104)), .any⟩]) (.cond (.t 105) .skip (.exit 2))) (.seq (.block 3 (.reg [
  ⟨(.some 108), .none, (.mv (.t 12)), .any⟩, 
  ⟨(.some 109), .none, (.mv (.t 108)), .any⟩, 
  ⟨(.some 110), (.some (109, true)), (.fad 0 (.t 3)), .any⟩, 
  ⟨(.some 111), (.some (109, true)), (.ld 1 false (.t 110)), .any⟩, 
  ⟨(.some 112), (.some (109, true)), (.mv (.t 1)), .any⟩, 
  ⟨(.some 113), (.some (109, true)), (.ias 6 (.t 111) (.t 112)), .any⟩, 
  ⟨(.some 114), (.some (109, true)), (.fad 5 (.t 113)), .any⟩, 
  ⟨(.some 115), (.some (109, true)), (.ld 1 false (.t 114)), .any⟩, 
  ⟨(.some 116), (.some (109, true)), (.mv (.t 13)), .any⟩, 
  ⟨(.some 117), (.some (109, true)), (.ias 2 (.t 115) (.t 116)), .any⟩, 
  ⟨(.some 118), (.some (109, true)), (.fad 0 (.t 117)), .any⟩, 
  ⟨(.some 119), (.some (109, true)), (.ld 1 false (.t 118)), .any⟩, 
  ⟨(.some 120), (.some (109, true)), (.mv (.t 1)), .any⟩, 
  ⟨(.some 121), (.some (109, true)), (.bin .eql (.t 119) (.t 120)), .any⟩, 
  ⟨(.some 122), .none, (.pick (.t 109) (.t 121) (.c (.a (.p (.b false))))), .any⟩, 
  ⟨(.some 12), .none, (.mv (.t 122)), .any⟩])) (.reg [
  ⟨(.some 106), .none, (.mv (.t 13)), .any⟩, 
  ⟨(.some 107), .none, (.bin .add (.t 106) (.c (.a (.p (.i .i64 1))))), .any⟩, 
  ⟨(.some 13), .none, (.mv (.t 107)), .any⟩])))
def F11 : FnC := ⟨3, (.seq (.reg [
  ⟨(.some 3), .none, (.box 2 (.t 0)), .any⟩, 
  ⟨(.some 6), .none, (.mv (.c (.a (.p (.b false))))), .any⟩]) (.seq (.seq (.reg [
  ⟨(.some 14), .none, (.call (.f 27) []), .any⟩, 
  ⟨(.some 15), .none, (.not (.t 14)), .any⟩, 
  ⟨(.some 16), .none, (.mv (.t 15)), .any⟩, 
  ⟨(.some 17), (.some (16, false)), (.ld 2 true (.t 3)), .any⟩, 
  ⟨(.some 18), (.some (16, false)), (.call (.f 13) [(.t 17), (.c (.a (.p (.i .i64 150))))]), .any⟩, 
  ⟨(.some 19), (.some (16, false)), (.not (.t 18)), .any⟩, 
  ⟨(.some 20), .none, (.pick (.t 16) (.c (.a (.p (.b true)))) (.t 19)), .any⟩, 
  ⟨(.some 21), .none, (.mv (.t 20)), .any⟩, 
  ⟨(.some 22), (.some (21, false)), (.ld 2 true (.t 3)), .any⟩, 
  ⟨(.some 23), (.some (21, false)), (.call (.f 24) [(.t 22)]), .any⟩, 
  ⟨(.some 24), (.some (21, false)), (.bin .neq (.t 23) (.c (.a (.p (.i .i64 0))))), .any⟩, 
  ⟨(.some 25), .none, (.pick (.t 21) (.c (.a (.p (.b true)))) (.t 24)), .any⟩, 
  ⟨(.some 26), .none, (.mv (.t 25)), .any⟩, 
  ⟨(.some 27), (.some (26, false)), (.mv (.t 1)), .any⟩, 
  ⟨(.some 28), (.some (26, false)), (.bin .lss (.t 27) (.c (.a (.p (.i .i64 0))))), .any⟩, 
  ⟨(.some 29), .none, (.pick (.t 26) (.c (.a (.p (.b true)))) (.t 28)), .any⟩, 
  ⟨(.some 30), .none, (.mv (.t 29)), .any⟩, 
  ⟨(.some 31), (.some (30, false)), (.mv (.t 1)), .any⟩, 
  ⟨(.some 32), (.some (30, false)), (.fad 0 (.t 3)), .any⟩, 
  ⟨(.some 33), (.some (30, false)), (.ld 1 false (.t 32)), .any⟩, 
  ⟨(.some 34), (.some (30, false)), (.len false (.t 33)), .any⟩, 
  ⟨(.some 35), (.some (30, false)), (.bin .geq (.t 31) (.t 34)), .any⟩, 
  ⟨(.some 36), .none, (.pick (.t 30) (.c (.a (.p (.b true)))) (.t 35)), .any⟩, 
  ⟨(.some 37), .none, (.mv (.t 36)), .any⟩, 
  ⟨(.some 38), (.some (37, false)), (.mv (.t 2)), .any⟩, 
  ⟨(.some 39), (.some (37, false)), (.bin .lss (.t 38) (.c (.a (.p (.i .i64 0))))), .any⟩, 
  ⟨(.some 40), .none, (.pick (.t 37) (.c (.a (.p (.b true)))) (.t 39)), .any⟩, 
  ⟨(.some 41), .none, (.mv (.t 40)), .any⟩, 
  ⟨(.some 42), (.some (41, false)), (.mv (.t 2)), .any⟩, 
  ⟨(.some 43), (.some (41, false)), (.fad 0 (.t 3)), .any⟩, 
  ⟨(.some 44), (.some (41, false)), (.ld 1 false (.t 43)), .any⟩, 
  ⟨(.some 45), (.some (41, false)), (.mv (.t 1)), .any⟩, 
  ⟨(.some 46), (.some (41, false)), (.ias 6 (.t 44) (.t 45)), .any⟩, 
  ⟨(.some 47), (.some (41, false)), (.fad 5 (.t 46)), .any⟩, 
  ⟨(.some 48), (.some (41, false)), (.ld 1 false (.t 47)), .any⟩, 
  ⟨(.some 49), (.some (41, false)), (.len false (.t 48)), .any⟩, 
  ⟨(.some 50), (.some (41, false)), (.bin .geq (.t 42) (.t 49)), .any⟩, 
  ⟨(.some 51), .none, (.pick (.t 41) (.c (.a (.p (.b true)))) (.t 50)), .any⟩]) (.cond (.t 51) (.seq (.reg [
  ⟨(.some 52), .none, (.call (.f 27) []), .any⟩, 
  ⟨(.some 6), .none, (.mv (.t 52)), .any⟩]) .ret) .skip)) (.seq (.reg [
  ⟨(.some 53), .none, (.ld 2 true (.t 3)), .any⟩, 
  ⟨(.some 54), .none, (.call (.f 36) [(.t 53)]), .any⟩, 
  ⟨(.some 7), .none, (.new [.nil, (.p (.i .i64 0))]), .any⟩, 
  ⟨.none, .none, (.st 2 (.t 7) (.t 54)), .any⟩]) (.seq (.reg [
  ⟨(.some 55), .none, (.bsl 2 26 [(.p (.i .i64 0)), (.p (.i .i64 0))] 0 []), .any⟩, 
  ⟨(.some 8), .none, (.mv (.t 55)), .any⟩]) (.seq (.seq (.reg [
  ⟨(.some 9), .none, (.mv (.c (.a (.p (.i .i64 0))))), .any⟩]) (.block 0 (.loop F11b0))) (.seq (.reg [
  ⟨(.some 79), .none, (.mv (.t 8)), .any⟩, 
  ⟨(.some 80), .none, (.mv (.t 2)), .any⟩, 
  ⟨(.some 81), .none, (.mv (.t 1)), .any⟩, 
  ⟨(.some 82), .none, (.mv (.t 2)), .any⟩, 
  ⟨(.some 83), .none, (.build [(.p (.i .i64 0)), (.p (.i .i64 0))] [(0, (1, (.t 81))), (1, (1, (.t 82)))]), .any⟩, 
  ⟨(.some 84), .none, (.ias 2 (.t 79) (.t 80)), .any⟩, 
  ⟨.none, .none, (.st 2 (.t 84) (.t 83)), .any⟩]) (.seq (.reg [
  ⟨(.some 85), .none, (.fad 0 (.t 7)), .any⟩, 
  ⟨(.some 86), .none, (.ld 1 false (.t 85)), .any⟩, 
  ⟨(.some 87), .none, (.mv (.t 1)), .any⟩, 
  ⟨(.some 88), .none, (.mv (.t 8)), .any⟩, 
  ⟨(.some 89), .none, (.ias 6 (.t 86) (.t 87)), .any⟩, 
  ⟨(.some 90), .none, (.fad 5 (.t 89)), .any⟩, 
  ⟨.none, .none, (.st 1 (.t 90) (.t 88)), .any⟩]) (.seq (.reg [
  ⟨(.some 92), .none, (.ld 2 true (.t 3)), .any⟩, 
  ⟨(.some 93), .none, (.mv (.t 1)), .any⟩, 
  ⟨(.some 94), .none, (.call (.f 33) [(.t 92), (.t 93)]), .any⟩, 
  ⟨(.some 91), .none, (.mv (.t 94)), .any⟩, 
  ⟨(.some 95), .none, (.ext (.t 91) 0), .any⟩, 
  ⟨(.some 96), .none, (.ext (.t 91) 1), .any⟩, 
  ⟨(.some 10), .none, (.new [.nil, (.p (.i .i64 0))]), .any⟩, 
  ⟨.none, .none, (.st 2 (.t 10) (.t 95)), .any⟩, 
  ⟨(.some 11), .none, (.mv (.t 96)), .any⟩]) (.seq (.reg [
  ⟨(.some 12), .none, (.mv (.c (.a (.p (.b true))))), .any⟩]) (.seq (.seq (.reg [
  ⟨(.some 13), .none, (.mv (.c (.a (.p (.i .i64 0))))), .any⟩]) (.block 2 (.loop F11b1))) (.seq (.reg [
  ⟨(.some 123), .none, (.ld 2 true (.t 7)), .any⟩, 
  ⟨(.some 124), .none, (.call (.f 35) [(.t 123)]), .any⟩, 
  ⟨(.some 125), .none, (.bin .eql (.t 124) (.c (.a (.p (.i .i64 120))))), .any⟩, 
  ⟨(.some 126), .none, (.mv (.t 125)), .any⟩, 
  ⟨(.some 127), (.some (126, true)), (.mv (.t 11)), .any⟩, 
  ⟨(.some 128), (.some (126, true)), (.bin .eql (.t 127) (.c (.a (.p (.i .i64 0))))), .any⟩, 
  ⟨(.some 129), .none, (.pick (.t 126) (.t 128) (.c (.a (.p (.b false))))), .any⟩, 
  ⟨(.some 130), .none, (.mv (.t 129)), .any⟩, 
  ⟨(.some 131), (.some (130, true)), (.ld 2 true (.t 10)), .any⟩, 
  ⟨(.some 132), (.some (130, true)), (.call (.f 35) [(.t 131)]), .any⟩, 
  ⟨(.some 133), (.some (130, true)), (.bin .eql (.t 132) (.c (.a (.p (.i .i64 0))))), .any⟩, 
  ⟨(.some 134), (.some (130, true)), (.mv (.t 12)), .any⟩, 
  ⟨(.some 135), (.some (130, true)), (.mv (.t 134)), .any⟩, 
  ⟨(.some 136), (.some (135, true)), (.mv (.t 1)), .any⟩, 
  ⟨(.some 137), (.some (135, true)), (.bin .gtr (.t 136) (.c (.a (.p (.i .i64 0))))), .any⟩, 
  ⟨(.some 138), (.some (130, true)), (.pick (.t 135) (.t 137) (.c (.a (.p (.b false))))), .any⟩, 
  ⟨(.some 139), (.some (130, true)), (.mv (.t 138)), .any⟩, 
  ⟨(.some 140), (.some (139, true)), (.fad 0 (.t 10)), .any⟩, 
  ⟨(.some 141), (.some (139, true)), (.ld 1 false (.t 140)), .any⟩, 
  ⟨(.some 142), (.some (139, true)), (.len false (.t 141)), .any⟩, 
  ⟨(.some 143), (.some (139, true)), (.bin .gtr (.t 142) (.c (.a (.p (.i .i64 0))))), .any⟩, 
  ⟨(.some 144), (.some (130, true)), (.pick (.t 139) (.t 143) (.c (.a (.p (.b false))))), .any⟩, 
  ⟨(.some 145), (.some (130, true)), (.eqb false (.t 133) (.t 144)), .any⟩, 
  ⟨(.some 146), .none, (.pick (.t 130) (.t 145) (.c (.a (.p (.b false))))), .any⟩, 
  ⟨(.some 6), .none, (.mv (.t 146)), .any⟩]) .ret))))))))))), [(.tmp 6)]⟩
theorem cc11 : ccF Try.prog [(26, [0, 0]), (66, [1, 0]), (26, [9])] Try.f11 = some F11 := by kernel_rfl

/- gossamer/gossamerlaw12.StorePorts -/
def F12b0 : C := (.seq (.seq (.reg [
  ⟨(.some 63), .none, (.mv (.t 9)), .any⟩, 
  ⟨(.some 64), .none, (.fad 5 (.t 8)), .any⟩, 
  ⟨(.some 65), .none, (.ld 1 false (.t 64)), .any⟩, 
  ⟨(.some 66), .none, (.len false (.t 65)), .any⟩, 
  ⟨(.some 67), .none, (.bin .lss (.t 63) (.t 66)), .any⟩]) (.cond (.t 67) .skip (.exit 0))) (.seq (.block 1 (.seq (.reg [
  ⟨(.some 70), .none, (.fad 5 (.t 8)), .any⟩, 
  ⟨(.some 71), .none, (.ld 1 false (.t 70)), .any⟩, 
  ⟨(.some 72), .none, (.mv (.t 9)), .any⟩, 
  ⟨(.some 73), .none, (.ias 2 (.t 71) (.t 72)), .any⟩, 
  ⟨(.some 74), .none, (.ld 2 true (.t 73)), .any⟩, 
  ⟨(.some 75), .none, (.build [(.p (.i .i64 0)), (.p (.i .i64 0))] []), .any⟩, 
  ⟨(.some 76), .none, (.eqg true [0, 0] (.t 74) (.t 75)), .any⟩]) (.cond (.t 76) (.seq (.reg [
  ⟨(.some 2), .none, (.mv (.c (.a (.p (.b false))))), .any⟩]) .ret) .skip))) (.reg [
  ⟨(.some 68), .none, (.mv (.t 9)), .any⟩, 
  ⟨(.some 69), .none, (.bin .add (.t 68) (.c (.a (.p (.i .i64 1))))), .any⟩, 
  ⟨(.some 9), .none, (.mv (.t 69)), .any⟩])))
def F12 : FnC := ⟨1, (.seq (.reg [
  ⟨(.some 1), .none, (.box 6 (.t 0)), .any⟩, 
  ⟨(.some 2), .none, (.mv (.c (.a (.p (.b false))))), .any⟩]) (.seq (.seq (.reg [
  ⟨(.some 11), .none, (.call (.f 27) []), .any⟩, 
  ⟨(.some 12), .none, (.not (.t 11)), .any⟩, 
  ⟨(.some 13), .none, (.mv (.t 12)), .any⟩, 
  ⟨(.some 14), (.some (13, false)), (.fad 5 (.t 1)), .any⟩, 
  ⟨(.some 15), (.some (13, false)), (.ld 1 false (.t 14)), .any⟩, 
  ⟨(.some 16), (.some (13, false)), (.len false (.t 15)), .any⟩, 
  ⟨(.some 17), (.some (13, false)), (.bin .gtr (.t 16) (.c (.a (.p (.i .i64 20))))), .any⟩, 
  ⟨(.some 18), .none, (.pick (.t 13) (.c (.a (.p (.b true)))) (.t 17)), .any⟩, 
  ⟨(.some 19), .none, (.mv (.t 18)), .any⟩, 
  ⟨(.some 20), (.some (19, false)), (.fad 4 (.t 1)), .any⟩, 
  ⟨(.some 21), (.some (19, false)), (.ld 1 false (.t 20)), .any⟩, 
  ⟨(.some 22), (.some (19, false)), (.len false (.t 21)), .any⟩, 
  ⟨(.some 23), (.some (19, false)), (.bin .gtr (.t 22) (.c (.a (.p (.i .i64 20))))), .any⟩, 
  ⟨(.some 24), .none, (.pick (.t 19) (.c (.a (.p (.b true)))) (.t 23)), .any⟩, 
  ⟨(.some 25), .none, (.mv (.t 24)), .any⟩, 
  ⟨(.some 26), (.some (25, false)), (.fad 0 (.t 1)), .any⟩, 
  ⟨(.some 27), (.some (25, false)), (.ld 1 false (.t 26)), .any⟩, 
  ⟨(.some 28), (.some (25, false)), (.bin .lss (.t 27) (.c (.a (.p (.i .i64 2))))), .any⟩, 
  ⟨(.some 29), .none, (.pick (.t 25) (.c (.a (.p (.b true)))) (.t 28)), .any⟩, 
  ⟨(.some 30), .none, (.mv (.t 29)), .any⟩, 
  ⟨(.some 31), (.some (30, false)), (.ld 6 true (.t 1)), .any⟩, 
  ⟨(.some 32), (.some (30, false)), (.call (.f 28) [(.t 31)]), .any⟩, 
  ⟨(.some 33), (.some (30, false)), (.not (.t 32)), .any⟩, 
  ⟨(.some 34), .none, (.pick (.t 30) (.c (.a (.p (.b true)))) (.t 33)), .any⟩]) (.cond (.t 34) (.seq (.reg [
  ⟨(.some 35), .none, (.call (.f 27) []), .any⟩, 
  ⟨(.some 2), .none, (.mv (.t 35)), .any⟩]) .ret) .skip)) (.seq (.reg [
  ⟨(.some 37), .none, (.call (.f 34) [(.c (.a (.p (.i .i64 9))))]), .any⟩, 
  ⟨(.some 36), .none, (.mv (.t 37)), .any⟩, 
  ⟨(.some 38), .none, (.ext (.t 36) 0), .any⟩, 
  ⟨(.some 39), .none, (.ext (.t 36) 1), .any⟩, 
  ⟨(.some 3), .none, (.new [.nil, (.p (.i .i64 0))]), .any⟩, 
  ⟨.none, .none, (.st 2 (.t 3) (.t 38)), .any⟩, 
  ⟨(.some 4), .none, (.mv (.t 39)), .any⟩]) (.seq (.reg [
  ⟨(.some 41), .none, (.ld 2 true (.t 3)), .any⟩, 
  ⟨(.some 42), .none, (.ld 6 true (.t 1)), .any⟩, 
  ⟨(.some 43), .none, (.call (.f 29) [(.t 41), (.t 42)]), .any⟩, 
  ⟨(.some 40), .none, (.mv (.t 43)), .any⟩, 
  ⟨(.some 44), .none, (.ext (.t 40) 0), .any⟩, 
  ⟨(.some 45), .none, (.ext (.t 40) 1), .any⟩, 
  ⟨(.some 46), .none, (.ext (.t 40) 2), .any⟩, 
  ⟨(.some 5), .none, (.new [.nil, (.p (.i .i64 0))]), .any⟩, 
  ⟨.none, .none, (.st 2 (.t 5) (.t 44)), .any⟩, 
  ⟨(.some 6), .none, (.mv (.t 45)), .any⟩, 
  ⟨(.some 7), .none, (.mv (.t 46)), .any⟩]) (.seq (.seq (.reg [
  ⟨(.some 47), .none, (.mv (.t 7)), .any⟩, 
  ⟨(.some 48), .none, (.bin .neq (.t 47) (.c (.a (.p (.i .i64 0))))), .any⟩, 
  ⟨(.some 49), .none, (.mv (.t 48)), .any⟩, 
  ⟨(.some 50), (.some (49, false)), (.mv (.t 6)), .any⟩, 
  ⟨(.some 51), (.some (49, false)), (.bin .neq (.t 50) (.c (.a (.p (.i .i64 2))))), .any⟩, 
  ⟨(.some 52), .none, (.pick (.t 49) (.c (.a (.p (.b true)))) (.t 51)), .any⟩, 
  ⟨(.some 53), .none, (.mv (.t 52)), .any⟩, 
  ⟨(.some 54), (.some (53, false)), (.fad 0 (.t 5)), .any⟩, 
  ⟨(.some 55), (.some (53, false)), (.ld 1 false (.t 54)), .any⟩, 
  ⟨(.some 56), (.some (53, false)), (.len false (.t 55)), .any⟩, 
  ⟨(.some 57), (.some (53, false)), (.bin .neq (.t 56) (.c (.a (.p (.i .i64 3))))), .any⟩, 
  ⟨(.some 58), .none, (.pick (.t 53) (.c (.a (.p (.b true)))) (.t 57)), .any⟩]) (.cond (.t 58) (.seq (.reg [
  ⟨(.some 2), .none, (.mv (.c (.a (.p (.b false))))), .any⟩]) .ret) .skip)) (.seq (.reg [
  ⟨(.some 59), .none, (.fad 0 (.t 5)), .any⟩, 
  ⟨(.some 60), .none, (.ld 1 false (.t 59)), .any⟩, 
  ⟨(.some 61), .none, (.ias 6 (.t 60) (.c (.a (.p (.i .i64 2))))), .any⟩, 
  ⟨(.some 62), .none, (.ld 6 true (.t 61)), .any⟩, 
  ⟨(.some 8), .none, (.new [(.p (.i .i64 0)), (.p (.i .i64 0)), (.p (.i .i64 0)), (.p (.s [])), .nil, .nil]), .any⟩, 
  ⟨.none, .none, (.st 6 (.t 8) (.t 62)), .any⟩]) (.seq (.seq (.reg [
  ⟨(.some 9), .none, (.mv (.c (.a (.p (.i .i64 0))))), .any⟩]) (.block 0 (.loop F12b0))) (.seq (.reg [
  ⟨(.some 77), .none, (.ld 6 true (.t 1)), .any⟩, 
  ⟨(.some 10), .none, (.new [(.p (.i .i64 0)), (.p (.i .i64 0)), (.p (.i .i64 0)), (.p (.s [])), .nil, .nil]), .any⟩, 
  ⟨.none, .none, (.st 6 (.t 10) (.t 77)), .any⟩]) (.seq (.reg [
  ⟨(.some 78), .none, (.fad 1 (.t 10)), .any⟩, 
  ⟨.none, .none, (.st 1 (.t 78) (.c (.a (.p (.i .i64 0))))), .any⟩]) (.seq (.reg [
  ⟨(.some 79), .none, (.fad 2 (.t 10)), .any⟩, 
  ⟨.none, .none, (.st 1 (.t 79) (.c (.a (.p (.i .i64 0))))), .any⟩]) (.seq (.reg [
  ⟨(.some 80), .none, (.fad 5 (.t 8)), .rd⟩, 
  ⟨(.some 81), .none, (.ld 1 false (.t 80)), .rd⟩, 
  ⟨(.some 82), .none, (.len false (.t 81)), .rd⟩, 
  ⟨(.some 83), .none, (.ld 6 true (.t 1)), .rd⟩, 
  ⟨(.some 84), .none, (.call (.f 37) [(.t 83)]), .rd⟩, 
  ⟨(.some 85), .none, (.bin .eql (.t 82) (.t 84)), .any⟩, 
  ⟨(.some 86), .none, (.mv (.t 85)), .any⟩, 
  ⟨(.some 87), (.some (86, true)), (.ld 6 true (.t 1)), .rd⟩, 
  ⟨(.some 88), (.some (86, true)), (.call (.f 37) [(.t 87)]), .rd⟩, 
  ⟨(.some 89), (.some (86, true)), (.ld 6 true (.t 10)), .rd⟩, 
  ⟨(.some 90), (.some (86, true)), (.call (.f 37) [(.t 89)]), .any⟩, 
  ⟨(.some 91), (.some (86, true)), (.bin .eql (.t 88) (.t 90)), .any⟩, 
  ⟨(.some 92), .none, (.pick (.t 86) (.t 91) (.c (.a (.p (.b false))))), .any⟩, 
  ⟨(.some 93), .none, (.mv (.t 92)), .any⟩, 
  ⟨(.some 94), (.some (93, true)), (.ld 6 true (.t 8)), .rd⟩, 
  ⟨(.some 95), (.some (93, true)), (.call (.f 37) [(.t 94)]), .rd⟩, 
  ⟨(.some 96), (.some (93, true)), (.ld 6 true (.t 1)), .rd⟩, 
  ⟨(.some 97), (.some (93, true)), (.call (.f 37) [(.t 96)]), .any⟩, 
  ⟨(.some 98), (.some (93, true)), (.bin .eql (.t 95) (.t 97)), .any⟩, 
  ⟨(.some 99), .none, (.pick (.t 93) (.t 98) (.c (.a (.p (.b false))))), .any⟩, 
  ⟨(.some 100), .none, (.mv (.t 99)), .any⟩, 
  ⟨(.some 101), (.some (100, true)), (.ld 6 true (.t 1)), .any⟩, 
  ⟨(.some 102), (.some (100, true)), (.call (.f 37) [(.t 101)]), .any⟩, 
  ⟨(.some 103), (.some (100, true)), (.bin .geq (.t 102) (.c (.a (.p (.i .i64 1))))), .any⟩, 
  ⟨(.some 104), .none, (.pick (.t 100) (.t 103) (.c (.a (.p (.b false))))), .any⟩, 
  ⟨(.some 105), .none, (.mv (.t 104)), .any⟩, 
  ⟨(.some 106), (.some (105, true)), (.fad 1 (.t 8)), .rd⟩, 
  ⟨(.some 107), (.some (105, true)), (.ld 1 false (.t 106)), .rd⟩, 
  ⟨(.some 108), (.some (105, true)), (.fad 1 (.t 1)), .rd⟩, 
  ⟨(.some 109), (.some (105, true)), (.ld 1 false (.t 108)), .rd⟩, 
  ⟨(.some 110), (.some (105, true)), (.bin .eql (.t 107) (.t 109)), .any⟩, 
  ⟨(.some 111), .none, (.pick (.t 105) (.t 110) (.c (.a (.p (.b false))))), .any⟩, 
  ⟨(.some 112), .none, (.mv (.t 111)), .any⟩, 
  ⟨(.some 113), (.some (112, true)), (.fad 2 (.t 8)), .rd⟩, 
  ⟨(.some 114), (.some (112, true)), (.ld 1 false (.t 113)), .rd⟩, 
  ⟨(.some 115), (.some (112, true)), (.fad 2 (.t 1)), .rd⟩, 
  ⟨(.some 116), (.some (112, true)), (.ld 1 false (.t 115)), .rd⟩, 
  ⟨(.some 117), (.some (112, true)), (.bin .eql (.t 114) (.t 116)), .any⟩, 
  ⟨(.some 118), .none, (.pick (.t 112) (.t 117) (.c (.a (.p (.b false))))), .any⟩, 
  ⟨(.some 119), .none, (.mv (.t 118)), .any⟩, 
  ⟨(.some 120), (.some (119, true)), (.fad 3 (.t 8)), .rd⟩, 
  ⟨(.some 121), (.some (119, true)), (.ld 1 false (.t 120)), .rd⟩, 
  ⟨(.some 122), (.some (119, true)), (.fad 3 (.t 1)), .rd⟩, 
  ⟨(.some 123), (.some (119, true)), (.ld 1 false (.t 122)), .rd⟩, 
  ⟨(.some 124), (.some (119, true)), (.bin .eql (.t 121) (.t 123)), .any⟩, 
  ⟨(.some 125), .none, (.pick (.t 119) (.t 124) (.c (.a (.p (.b false))))), .any⟩, 
  ⟨(.some 2), .none, (.mv (.t 125)), .any⟩]) .ret))))))))))), [(.tmp 2)]⟩
theorem cc12 : ccF Try.prog [(26, [0, 0]), (66, [1, 0]), (26, [9])] Try.f12 = some F12 := by kernel_rfl

/- gossamer/gossamerref12.Small -/
def F13b0 : C := (.seq (.seq (.reg [
  ⟨(.some 6), .none, (.mv (.t 5)), .any⟩, 
  ⟨(.some 7), .none, (.fad 0 (.t 2)), .any⟩, 
  ⟨(.some 8), .none, (.ld 1 false (.t 7)), .any⟩, 
  ⟨(.some 9), .none, (.len false (.t 8)), .any⟩, 
  ⟨(.some 10), .none, (.bin .lss (.t 6) (.t 9)), .any⟩]) (.cond (.t 10) .skip (.exit 0))) (.seq (.block 1 (.seq (.reg [
  ⟨(.some 13), .none, (.fad 0 (.t 2)), .any⟩, 
  ⟨(.some 14), .none, (.ld 1 false (.t 13)), .any⟩, 
  ⟨(.some 15), .none, (.mv (.t 5)), .any⟩, 
  ⟨(.some 16), .none, (.ias 6 (.t 14) (.t 15)), .any⟩, 
  ⟨(.some 17), .none, (.fad 5 (.t 16)), .any⟩, 
  ⟨(.some 18), .none, (.ld 1 false (.t 17)), .any⟩, 
  ⟨(.some 19), .none, (.len false (.t 18)), .any⟩, 
  ⟨(.some 20), .none, (.bin .gtr (.t 19) (.c (.a (.p (.i .i64 12))))), .any⟩, 
  ⟨(.some 21), .none, (.mv (.t 20)), .any⟩, 
  ⟨(.some 22), (.some (21, false)), (.fad 0 (.t 2)), .any⟩, 
  ⟨(.some 23), (.some (21, false)), (.ld 1 false (.t 22)), .any⟩, 
  ⟨(.some 24), (.some (21, false)), (.mv (.t 5)), .any⟩, 
  ⟨(.some 25), (.some (21, false)), (.ias 6 (.t 23) (.t 24)), .any⟩, 
  ⟨(.some 26), (.some (21, false)), (.fad 4 (.t 25)), .any⟩, 
  ⟨(.some 27), (.some (21, false)), (.ld 1 false (.t 26)), .any⟩, 
  ⟨(.some 28), (.some (21, false)), (.len false (.t 27)), .any⟩, 
  ⟨(.some 29), (.some (21, false)), (.bin .gtr (.t 28) (.c (.a (.p (.i .i64 12))))), .any⟩, 
  ⟨(.some 30), .none, (.pick (.t 21) (.c (.a (.p (.b true)))) (.t 29)), .any⟩]) (.cond (.t 30) (.seq (.reg [
  ⟨(.some 4), .none, (.mv (.c (.a (.p (.b false))))), .any⟩]) .ret) .skip))) (.reg [
  ⟨(.some 11), .none, (.mv (.t 5)), .any⟩, 
  ⟨(.some 12), .none, (.bin .add (.t 11) (.c (.a (.p (.i .i64 1))))), .any⟩, 
  ⟨(.some 5), .none, (.mv (.t 12)), .any⟩])))
def F13 : FnC := ⟨2, (.seq (.reg [
  ⟨(.some 2), .none, (.box 2 (.t 0)), .any⟩, 
  ⟨(.some 4), .none, (.mv (.c (.a (.p (.b false))))), .any⟩]) (.seq (.seq (.reg [
  ⟨(.some 5), .none, (.mv (.c (.a (.p (.i .i64 0))))), .any⟩]) (.block 0 (.loop F13b0))) (.seq (.reg [
  ⟨(.some 31), .none, (.fad 0 (.t 2)), .any⟩, 
  ⟨(.some 32), .none, (.ld 1 false (.t 31)), .any⟩, 
  ⟨(.some 33), .none, (.len false (.t 32)), .any⟩, 
  ⟨(.some 34), .none, (.mv (.t 1)), .any⟩, 
  ⟨(.some 35), .none, (.bin .leq (.t 33) (.t 34)), .any⟩, 
  ⟨(.some 4), .none, (.mv (.t 35)), .any⟩]) .ret))), [(.tmp 4)]⟩
theorem cc13 : ccF Try.prog [(26, [0, 0]), (66, [1, 0]), (26, [9])] Try.f13 = some F13 := by kernel_rfl

/- gossamer/gossamerlaw13.fixed -/
def F14 : FnC := ⟨0, (.seq (.reg [
  ⟨(.some 0), .none, (.mv (.c (.a (.p (.b false))))), .any⟩]) (.seq (.reg [
  ⟨(.some 24), .none, (.call (.f 38) [(.c (.a (.p (.i .i64 9))))]), .any⟩, 
  ⟨(.some 23), .none, (.mv (.t 24)), .any⟩, 
  ⟨(.some 25), .none, (.ext (.t 23) 0), .any⟩, 
  ⟨(.some 26), .none, (.ext (.t 23) 1), .any⟩, 
  ⟨(.some 1), .none, (.new [.nil, (.p (.i .i64 0))]), .any⟩, 
  ⟨.none, .none, (.st 2 (.t 1) (.t 25)), .any⟩, 
  ⟨(.some 2), .none, (.mv (.t 26)), .any⟩]) (.seq (.reg [
  ⟨(.some 28), .none, (.ld 2 true (.t 1)), .any⟩, 
  ⟨(.some 29), .none, (.build [(.p (.i .i64 0)), (.p (.i .i64 0)), (.p (.i .i64 0)), (.p (.s [])), .nil, .nil] [(0, (1, (.c (.a (.p (.i .i64 2))))))]), .any⟩, 
  ⟨(.some 30), .none, (.call (.f 39) [(.t 28), (.t 29)]), .any⟩, 
  ⟨(.some 27), .none, (.mv (.t 30)), .any⟩, 
  ⟨(.some 31), .none, (.ext (.t 27) 0), .any⟩, 
  ⟨(.some 32), .none, (.ext (.t 27) 1), .any⟩, 
  ⟨(.some 33), .none, (.ext (.t 27) 2), .any⟩, 
  ⟨.none, .none, (.st 2 (.t 1) (.t 31)), .any⟩]) (.seq (.reg [
  ⟨(.some 35), .none, (.ld 2 true (.t 1)), .rd⟩, 
  ⟨(.some 36), .none, (.call (.f 40) [(.c (.a (.p (.i .i64 0)))), (.c (.a (.p (.i .i64 0))))]), .rd⟩, 
  ⟨(.some 37), .none, (.call (.f 15) [(.t 35), (.t 36)]), .rd⟩, 
  ⟨(.some 34), .none, (.mv (.t 37)), .rd⟩, 
  ⟨(.some 38), .none, (.ext (.t 34) 0), .rd⟩, 
  ⟨(.some 39), .none, (.ext (.t 34) 1), .rd⟩, 
  ⟨(.some 3), .none, (.new [(.p (.i .i64 0)), (.p (.i .i64 0))]), .ad⟩, 
  ⟨.none, .none, (.st 2 (.t 3) (.t 38)), (.wr [])⟩, 
  ⟨(.some 4), .none, (.mv (.t 39)), .any⟩]) (.seq (.reg [
  ⟨(.some 41), .none, (.ld 2 true (.t 1)), .rd⟩, 
  ⟨(.some 42), .none, (.call (.f 40) [(.c (.a (.p (.i .i64 2)))), (.c (.a (.p (.i .i64 1))))]), .rd⟩, 
  ⟨(.some 43), .none, (.call (.f 40) [(.c (.a (.p (.i .i64 2)))), (.c (.a (.p (.i .i64 2))))]), .rd⟩, 
  ⟨(.some 44), .none, (.call (.f 17) [(.t 41), (.t 42), (.t 43)]), .rd⟩, 
  ⟨(.some 40), .none, (.mv (.t 44)), .rd⟩, 
  ⟨(.some 45), .none, (.ext (.t 40) 0), .rd⟩, 
  ⟨(.some 46), .none, (.ext (.t 40) 1), .rd⟩, 
  ⟨(.some 5), .none, (.new [.nil, (.p (.i .i64 0))]), .ad⟩, 
  ⟨.none, .none, (.st 2 (.t 5) (.t 45)), (.wr [])⟩, 
  ⟨(.some 6), .none, (.mv (.t 46)), .any⟩]) (.seq (.reg [
  ⟨(.some 48), .none, (.ld 2 true (.t 5)), .rd⟩, 
  ⟨(.some 49), .none, (.call (.f 40) [(.c (.a (.p (.i .i64 2)))), (.c (.a (.p (.i .i64 2))))]), .rd⟩, 
  ⟨(.some 50), .none, (.call (.f 15) [(.t 48), (.t 49)]), .rd⟩, 
  ⟨(.some 47), .none, (.mv (.t 50)), .rd⟩, 
  ⟨(.some 51), .none, (.ext (.t 47) 0), .rd⟩, 
  ⟨(.some 52), .none, (.ext (.t 47) 1), .rd⟩, 
  ⟨(.some 7), .none, (.new [(.p (.i .i64 0)), (.p (.i .i64 0))]), .ad⟩, 
  ⟨.none, .none, (.st 2 (.t 7) (.t 51)), (.wr [])⟩, 
  ⟨(.some 8), .none, (.mv (.t 52)), .any⟩]) (.seq (.reg [
  ⟨(.some 54), .none, (.ld 2 true (.t 5)), .rd⟩, 
  ⟨(.some 55), .none, (.call (.f 40) [(.c (.a (.p (.i .i64 0)))), (.c (.a (.p (.i .i64 0))))]), .rd⟩, 
  ⟨(.some 56), .none, (.call (.f 40) [(.c (.a (.p (.i .i64 2)))), (.c (.a (.p (.i .i64 0))))]), .rd⟩, 
  ⟨(.some 57), .none, (.call (.f 19) [(.t 54), (.t 55), (.t 56)]), .rd⟩, 
  ⟨(.some 53), .none, (.mv (.t 57)), .rd⟩, 
  ⟨(.some 58), .none, (.ext (.t 53) 0), .rd⟩, 
  ⟨(.some 59), .none, (.ext (.t 53) 1), .rd⟩, 
  ⟨(.some 9), .none, (.new [.nil, (.p (.i .i64 0))]), .ad⟩, 
  ⟨.none, .none, (.st 2 (.t 9) (.t 58)), (.wr [])⟩, 
  ⟨(.some 10), .none, (.mv (.t 59)), .any⟩]) (.seq (.reg [
  ⟨(.some 61), .none, (.ld 2 true (.t 9)), .rd⟩, 
  ⟨(.some 62), .none, (.call (.f 40) [(.c (.a (.p (.i .i64 1)))), (.c (.a (.p (.i .i64 0))))]), .rd⟩, 
  ⟨(.some 63), .none, (.call (.f 15) [(.t 61), (.t 62)]), .rd⟩, 
  ⟨(.some 60), .none, (.mv (.t 63)), .rd⟩, 
  ⟨(.some 64), .none, (.ext (.t 60) 0), .rd⟩, 
  ⟨(.some 65), .none, (.ext (.t 60) 1), .rd⟩, 
  ⟨(.some 11), .none, (.new [(.p (.i .i64 0)), (.p (.i .i64 0))]), .ad⟩, 
  ⟨.none, .none, (.st 2 (.t 11) (.t 64)), (.wr [])⟩, 
  ⟨(.some 12), .none, (.mv (.t 65)), .any⟩]) (.seq (.reg [
  ⟨(.some 67), .none, (.ld 2 true (.t 9)), .rd⟩, 
  ⟨(.some 68), .none, (.call (.f 40) [(.c (.a (.p (.i .i64 2)))), (.c (.a (.p (.i .i64 1))))]), .rd⟩, 
  ⟨(.some 69), .none, (.call (.f 40) [(.c (.a (.p (.i .i64 2)))), (.c (.a (.p (.i .i64 2))))]), .rd⟩, 
  ⟨(.some 70), .none, (.call (.f 21) [(.t 67), (.t 68), (.t 69)]), .rd⟩, 
  ⟨(.some 66), .none, (.mv (.t 70)), .rd⟩, 
  ⟨(.some 71), .none, (.ext (.t 66) 0), .rd⟩, 
  ⟨(.some 72), .none, (.ext (.t 66) 1), .rd⟩, 
  ⟨(.some 13), .none, (.new [.nil, (.p (.i .i64 0))]), .ad⟩, 
  ⟨.none, .none, (.st 2 (.t 13) (.t 71)), (.wr [])⟩, 
  ⟨(.some 14), .none, (.mv (.t 72)), .any⟩]) (.seq (.reg [
  ⟨(.some 74), .none, (.ld 2 true (.t 1)), .rd⟩, 
  ⟨(.some 75), .none, (.call (.f 40) [(.c (.a (.p (.i .i64 0)))), (.c (.a (.p (.i .i64 0))))]), .rd⟩, 
  ⟨(.some 76), .none, (.call (.f 40) [(.c (.a (.p (.i .i64 0)))), (.c (.a (.p (.i .i64 1))))]), .rd⟩, 
  ⟨(.some 77), .none, (.call (.f 17) [(.t 74), (.t 75), (.t 76)]), .rd⟩, 
  ⟨(.some 73), .none, (.mv (.t 77)), .rd⟩, 
  ⟨(.some 78), .none, (.ext (.t 73) 0), .rd⟩, 
  ⟨(.some 79), .none, (.ext (.t 73) 1), .rd⟩, 
  ⟨(.some 15), .none, (.new [.nil, (.p (.i .i64 0))]), .ad⟩, 
  ⟨.none, .none, (.st 2 (.t 15) (.t 78)), (.wr [])⟩, 
  ⟨(.some 16), .none, (.mv (.t 79)), .any⟩]) (.seq (.reg [
  ⟨(.some 81), .none, (.ld 2 true (.t 1)), .rd⟩, 
  ⟨(.some 82), .none, (.call (.f 40) [(.c (.a (.p (.i .i64 3)))), (.c (.a (.p (.i .i64 0))))]), .rd⟩, 
  ⟨(.some 83), .none, (.call (.f 15) [(.t 81), (.t 82)]), .rd⟩, 
  ⟨(.some 80), .none, (.mv (.t 83)), .rd⟩, 
  ⟨(.some 84), .none, (.ext (.t 80) 0), .rd⟩, 
  ⟨(.some 85), .none, (.ext (.t 80) 1), .rd⟩, 
  ⟨(.some 17), .none, (.new [(.p (.i .i64 0)), (.p (.i .i64 0))]), .ad⟩, 
  ⟨.none, .none, (.st 2 (.t 17) (.t 84)), (.wr [])⟩, 
  ⟨(.some 18), .none, (.mv (.t 85)), .any⟩]) (.seq (.reg [
  ⟨(.some 87), .none, (.ld 2 true (.t 9)), .rd⟩, 
  ⟨(.some 88), .none, (.call (.f 40) [(.c (.a (.p (.i .i64 2)))), (.c (.a (.p (.i .i64 0))))]), .rd⟩, 
  ⟨(.some 89), .none, (.call (.f 40) [(.c (.a (.p (.i .i64 2)))), (.c (.a (.p (.i .i64 1))))]), .rd⟩, 
  ⟨(.some 90), .none, (.call (.f 21) [(.t 87), (.t 88), (.t 89)]), .rd⟩, 
  ⟨(.some 86), .none, (.mv (.t 90)), .rd⟩, 
  ⟨(.some 91), .none, (.ext (.t 86) 0), .rd⟩, 
  ⟨(.some 92), .none, (.ext (.t 86) 1), .rd⟩, 
  ⟨(.some 19), .none, (.new [.nil, (.p (.i .i64 0))]), .ad⟩, 
  ⟨.none, .none, (.st 2 (.t 19) (.t 91)), (.wr [])⟩, 
  ⟨(.some 20), .none, (.mv (.t 92)), .any⟩]) (.seq (.reg [
  ⟨(.some 94), .none, (.ld 2 true (.t 19)), .rd⟩, 
  ⟨(.some 95), .none, (.call (.f 40) [(.c (.a (.p (.i .i64 1)))), (.c (.a (.p (.i .i64 0))))]), .rd⟩, 
  ⟨(.some 96), .none, (.call (.f 15) [(.t 94), (.t 95)]), .rd⟩, 
  ⟨(.some 93), .none, (.mv (.t 96)), .rd⟩, 
  ⟨(.some 97), .none, (.ext (.t 93) 0), .rd⟩, 
  ⟨(.some 98), .none, (.ext (.t 93) 1), .rd⟩, 
  ⟨(.some 21), .none, (.new [(.p (.i .i64 0)), (.p (.i .i64 0))]), .ad⟩, 
  ⟨.none, .none, (.st 2 (.t 21) (.t 97)), (.wr [])⟩, 
  ⟨(.some 22), .none, (.mv (.t 98)), .any⟩]) (.seq (.reg [
  ⟨(.some 99), .none, (.ld 2 true (.t 3)), .rd⟩, 
  ⟨(.some 100), .none, (.call (.f 40) [(.c (.a (.p (.i .i64 1)))), (.c (.a (.p (.i .i64 0))))]), .rd⟩, 
  ⟨(.some 101), .none, (.eqg false [0, 0] (.t 99) (.t 100)), .any⟩, 
  ⟨(.some 102), .none, (.mv (.t 101)), .any⟩, 
  ⟨(.some 103), (.some (102, true)), (.mv (.t 4)), .any⟩, 
  ⟨(.some 104), (.some (102, true)), (.bin .eql (.t 103) (.c (.a (.p (.i .i64 0))))), .any⟩, 
  ⟨(.some 105), .none, (.pick (.t 102) (.t 104) (.c (.a (.p (.b false))))), .any⟩, 
  ⟨(.some 106), .none, (.mv (.t 105)), .any⟩, 
  ⟨(.some 107), (.some (106, true)), (.mv (.t 6)), .any⟩, 
  ⟨(.some 108), (.some (106, true)), (.bin .eql (.t 107) (.c (.a (.p (.i .i64 0))))), .any⟩, 
  ⟨(.some 109), .none, (.pick (.t 106) (.t 108) (.c (.a (.p (.b false))))), .any⟩, 
  ⟨(.some 110), .none, (.mv (.t 109)), .any⟩, 
  ⟨(.some 111), (.some (110, true)), (.ld 2 true (.t 7)), .rd⟩, 
  ⟨(.some 112), (.some (110, true)), (.call (.f 40) [(.c (.a (.p (.i .i64 2)))), (.c (.a (.p (.i .i64 1))))]), .rd⟩, 
  ⟨(.some 113), (.some (110, true)), (.eqg false [0, 0] (.t 111) (.t 112)), .any⟩, 
  ⟨(.some 114), .none, (.pick (.t 110) (.t 113) (.c (.a (.p (.b false))))), .any⟩, 
  ⟨(.some 115), .none, (.mv (.t 114)), .any⟩, 
  ⟨(.some 116), (.some (115, true)), (.mv (.t 10)), .any⟩, 
  ⟨(.some 117), (.some (115, true)), (.bin .eql (.t 116) (.c (.a (.p (.i .i64 0))))), .any⟩, 
  ⟨(.some 118), .none, (.pick (.t 115) (.t 117) (.c (.a (.p (.b false))))), .any⟩, 
  ⟨(.some 119), .none, (.mv (.t 118)), .any⟩, 
  ⟨(.some 120), (.some (119, true)), (.ld 2 true (.t 11)), .rd⟩, 
  ⟨(.some 121), (.some (119, true)), (.call (.f 40) [(.c (.a (.p (.i .i64 2)))), (.c (.a (.p (.i .i64 0))))]), .rd⟩, 
  ⟨(.some 122), (.some (119, true)), (.eqg false [0, 0] (.t 120) (.t 121)), .any⟩, 
  ⟨(.some 123), .none, (.pick (.t 119) (.t 122) (.c (.a (.p (.b false))))), .any⟩, 
  ⟨(.some 124), .none, (.mv (.t 123)), .any⟩, 
  ⟨(.some 125), (.some (124, true)), (.mv (.t 14)), .any⟩, 
  ⟨(.some 126), (.some (124, true)), (.bin .eql (.t 125) (.c (.a (.p (.i .i64 0))))), .any⟩, 
  ⟨(.some 127), .none, (.pick (.t 124) (.t 126) (.c (.a (.p (.b false))))), .any⟩, 
  ⟨(.some 128), .none, (.mv (.t 127)), .any⟩, 
  ⟨(.some 129), (.some (128, true)), (.ld 2 true (.t 13)), .rd⟩, 
  ⟨(.some 130), (.some (128, true)), (.ld 2 true (.t 9)), .rd⟩, 
  ⟨(.some 131), (.some (128, true)), (.call (.f 23) [(.t 129), (.t 130)]), .any⟩, 
  ⟨(.some 132), .none, (.pick (.t 128) (.t 131) (.c (.a (.p (.b false))))), .any⟩, 
  ⟨(.some 133), .none, (.mv (.t 132)), .any⟩, 
  ⟨(.some 134), (.some (133, true)), (.mv (.t 16)), .any⟩, 
  ⟨(.some 135), (.some (133, true)), (.bin .eql (.t 134) (.c (.a (.p (.i .i64 130))))), .any⟩, 
  ⟨(.some 136), .none, (.pick (.t 133) (.t 135) (.c (.a (.p (.b false))))), .any⟩, 
  ⟨(.some 137), .none, (.mv (.t 136)), .any⟩, 
  ⟨(.some 138), (.some (137, true)), (.mv (.t 18)), .any⟩, 
  ⟨(.some 139), (.some (137, true)), (.bin .eql (.t 138) (.c (.a (.p (.i .i64 130))))), .any⟩, 
  ⟨(.some 140), .none, (.pick (.t 137) (.t 139) (.c (.a (.p (.b false))))), .any⟩, 
  ⟨(.some 141), .none, (.mv (.t 140)), .any⟩, 
  ⟨(.some 142), (.some (141, true)), (.mv (.t 20)), .any⟩, 
  ⟨(.some 143), (.some (141, true)), (.bin .eql (.t 142) (.c (.a (.p (.i .i64 0))))), .any⟩, 
  ⟨(.some 144), .none, (.pick (.t 141) (.t 143) (.c (.a (.p (.b false))))), .any⟩, 
  ⟨(.some 145), .none, (.mv (.t 144)), .any⟩, 
  ⟨(.some 146), (.some (145, true)), (.ld 2 true (.t 21)), .rd⟩, 
  ⟨(.some 147), (.some (145, true)), (.call (.f 40) [(.c (.a (.p (.i .i64 2)))), (.c (.a (.p (.i .i64 2))))]), .rd⟩, 
  ⟨(.some 148), (.some (145, true)), (.eqg false [0, 0] (.t 146) (.t 147)), .any⟩, 
  ⟨(.some 149), .none, (.pick (.t 145) (.t 148) (.c (.a (.p (.b false))))), .any⟩, 
  ⟨(.some 0), .none, (.mv (.t 149)), .any⟩]) .ret)))))))))))))), [(.tmp 0)]⟩
theorem cc14 : ccF Try.prog [(26, [0, 0]), (66, [1, 0]), (26, [9])] Try.f14 = some F14 := by kernel_rfl

/- gossamer/wire.Peer -/
def F15 : FnC := ⟨2, (.seq (.reg [
  ⟨(.some 2), .none, (.box 2 (.t 0)), .any⟩, 
  ⟨(.some 3), .none, (.box 2 (.t 1)), .any⟩, 
  ⟨(.some 4), .none, (.new [(.p (.i .i64 0)), (.p (.i .i64 0))]), .any⟩, 
  ⟨(.some 5), .none, (.mv (.c (.a (.p (.i .i64 0))))), .any⟩]) (.seq (.reg [
  ⟨(.some 7), .none, (.ld 2 true (.t 2)), .any⟩, 
  ⟨(.some 8), .none, (.build [.nil, (.p (.i .i64 0))] [(0, (2, (.t 7)))]), .any⟩, 
  ⟨(.some 6), .none, (.new [.nil, (.p (.i .i64 0))]), .any⟩, 
  ⟨.none, .none, (.st 2 (.t 6) (.t 8)), .any⟩]) (.seq (.seq (.reg [
  ⟨(.some 9), .none, (.ld 2 true (.t 6)), .any⟩, 
  ⟨(.some 10), .none, (.ld 2 true (.t 3)), .any⟩, 
  ⟨(.some 11), .none, (.bsl 2 26 [(.p (.i .i64 0)), (.p (.i .i64 0))] 1 [(0, (.t 10))]), .any⟩, 
  ⟨(.some 12), .none, (.call (.f 41) [(.t 9), (.t 11)]), .any⟩, 
  ⟨(.some 13), .none, (.not (.t 12)), .any⟩]) (.cond (.t 13) (.seq (.reg [
  ⟨(.some 14), .none, (.build [(.p (.i .i64 0)), (.p (.i .i64 0))] []), .any⟩, 
  ⟨.none, .none, (.st 2 (.t 4) (.t 14)), .any⟩, 
  ⟨(.some 5), .none, (.mv (.c (.a (.p (.i .i64 130))))), .any⟩]) .ret) .skip)) (.seq (.reg [
  ⟨(.some 15), .none, (.ld 2 true (.t 6)), .any⟩, 
  ⟨(.some 16), .none, (.ld 2 true (.t 3)), .any⟩, 
  ⟨(.some 17), .none, (.call (.f 42) [(.t 15), (.t 16)]), .any⟩, 
  ⟨.none, .none, (.st 2 (.t 4) (.t 17)), .any⟩, 
  ⟨(.some 5), .none, (.mv (.c (.a (.p (.i .i64 0))))), .any⟩]) .ret)))), [(.cell 4 2 true), (.tmp 5)]⟩
theorem cc15 : ccF Try.prog [(26, [0, 0]), (66, [1, 0]), (26, [9])] Try.f15 = some F15 := by kernel_rfl

/- gossamer/gossamerref13.Peer -/
def F16 : FnC := ⟨2, (.seq (.reg [
  ⟨(.some 2), .none, (.box 2 (.t 0)), .any⟩, 
  ⟨(.some 3), .none, (.box 2 (.t 1)), .any⟩, 
  ⟨(.some 4), .none, (.new [(.p (.i .i64 0)), (.p (.i .i64 0))]), .any⟩, 
  ⟨(.some 5), .none, (.mv (.c (.a (.p (.i .i64 0))))), .any⟩]) (.seq (.seq (.reg [
  ⟨(.some 6), .none, (.ld 2 true (.t 2)), .any⟩, 
  ⟨(.some 7), .none, (.ld 2 true (.t 3)), .any⟩, 
  ⟨(.some 8), .none, (.call (.f 25) [(.t 6), (.t 7)]), .any⟩, 
  ⟨(.some 9), .none, (.not (.t 8)), .any⟩]) (.cond (.t 9) (.seq (.reg [
  ⟨(.some 10), .none, (.build [(.p (.i .i64 0)), (.p (.i .i64 0))] []), .any⟩, 
  ⟨.none, .none, (.st 2 (.t 4) (.t 10)), .any⟩, 
  ⟨(.some 5), .none, (.mv (.c (.a (.p (.i .i64 130))))), .any⟩]) .ret) .skip)) (.seq (.reg [
  ⟨(.some 11), .none, (.ld 2 true (.t 2)), .any⟩, 
  ⟨(.some 12), .none, (.ld 2 true (.t 3)), .any⟩, 
  ⟨(.some 13), .none, (.call (.f 43) [(.t 11), (.t 12)]), .any⟩, 
  ⟨.none, .none, (.st 2 (.t 4) (.t 13)), .any⟩, 
  ⟨(.some 5), .none, (.mv (.c (.a (.p (.i .i64 0))))), .any⟩]) .ret))), [(.cell 4 2 true), (.tmp 5)]⟩
theorem cc16 : ccF Try.prog [(26, [0, 0]), (66, [1, 0]), (26, [9])] Try.f16 = some F16 := by kernel_rfl

/- gossamer/wire.Link -/
def F17 : FnC := ⟨3, (.seq (.reg [
  ⟨(.some 3), .none, (.box 2 (.t 0)), .any⟩, 
  ⟨(.some 4), .none, (.box 2 (.t 1)), .any⟩, 
  ⟨(.some 5), .none, (.box 2 (.t 2)), .any⟩, 
  ⟨(.some 6), .none, (.new [.nil, (.p (.i .i64 0))]), .any⟩, 
  ⟨(.some 7), .none, (.mv (.c (.a (.p (.i .i64 0))))), .any⟩]) (.seq (.reg [
  ⟨(.some 8), .none, (.ld 2 true (.t 3)), .any⟩, 
  ⟨(.some 9), .none, (.build [.nil, (.p (.i .i64 0))] [(0, (2, (.t 8)))]), .any⟩, 
  ⟨(.some 10), .none, (.ld 2 true (.t 4)), .any⟩, 
  ⟨(.some 11), .none, (.ld 2 true (.t 5)), .any⟩, 
  ⟨(.some 12), .none, (.call (.f 44) [(.t 9), (.t 10), (.t 11)]), .any⟩, 
  ⟨(.some 13), .none, (.ext (.t 12) 0), .any⟩, 
  ⟨(.some 14), .none, (.ext (.t 12) 1), .any⟩, 
  ⟨.none, .none, (.st 2 (.t 6) (.t 13)), .any⟩, 
  ⟨(.some 7), .none, (.mv (.t 14)), .any⟩]) .ret)), [(.cell 6 2 true), (.tmp 7)]⟩
theorem cc17 : ccF Try.prog [(26, [0, 0]), (66, [1, 0]), (26, [9])] Try.f17 = some F17 := by kernel_rfl

/- gossamer/gossamerref13.Link -/
def F18 : FnC := ⟨3, (.seq (.reg [
  ⟨(.some 3), .none, (.box 2 (.t 0)), .any⟩, 
  ⟨(.some 4), .none, (.box 2 (.t 1)), .any⟩, 
  ⟨(.some 5), .none, (.box 2 (.t 2)), .any⟩, 
  ⟨(.some 6), .none, (.new [.nil, (.p (.i .i64 0))]), .any⟩, 
  ⟨(.some 7), .none, (.mv (.c (.a (.p (.i .i64 0))))), .any⟩]) (.seq (.seq (.reg [
  ⟨(.some 8), .none, (.ld 2 true (.t 3)), .any⟩, 
  ⟨(.some 9), .none, (.ld 2 true (.t 4)), .any⟩, 
  ⟨(.some 10), .none, (.call (.f 25) [(.t 8), (.t 9)]), .any⟩, 
  ⟨(.some 11), .none, (.not (.t 10)), .any⟩, 
  ⟨(.some 12), .none, (.mv (.t 11)), .any⟩, 
  ⟨(.some 13), (.some (12, false)), (.ld 2 true (.t 3)), .any⟩, 
  ⟨(.some 14), (.some (12, false)), (.ld 2 true (.t 5)), .any⟩, 
  ⟨(.some 15), (.some (12, false)), (.call (.f 25) [(.t 13), (.t 14)]), .any⟩, 
  ⟨(.some 16), (.some (12, false)), (.not (.t 15)), .any⟩, 
  ⟨(.some 17), .none, (.pick (.t 12) (.c (.a (.p (.b true)))) (.t 16)), .any⟩, 
  ⟨(.some 18), .none, (.mv (.t 17)), .any⟩, 
  ⟨(.some 19), (.some (18, false)), (.ld 2 true (.t 4)), .any⟩, 
  ⟨(.some 20), (.some (18, false)), (.ld 2 true (.t 5)), .any⟩, 
  ⟨(.some 21), (.some (18, false)), (.eqg false [0, 0] (.t 19) (.t 20)), .any⟩, 
  ⟨(.some 22), .none, (.pick (.t 18) (.c (.a (.p (.b true)))) (.t 21)), .any⟩]) (.cond (.t 22) (.seq (.reg [
  ⟨(.some 23), .none, (.ld 2 true (.t 3)), .any⟩, 
  ⟨.none, .none, (.st 2 (.t 6) (.t 23)), .any⟩, 
  ⟨(.some 7), .none, (.mv (.c (.a (.p (.i .i64 130))))), .any⟩]) .ret) .skip)) (.seq (.reg [
  ⟨(.some 24), .none, (.ld 2 true (.t 3)), .rd⟩, 
  ⟨(.some 25), .none, (.ld 2 true (.t 4)), .rd⟩, 
  ⟨(.some 26), .none, (.ld 2 true (.t 5)), .rd⟩, 
  ⟨(.some 27), .none, (.call (.f 45) [(.t 24), (.t 25), (.t 26)]), .rd⟩, 
  ⟨(.some 28), .none, (.ld 2 true (.t 5)), .rd⟩, 
  ⟨(.some 29), .none, (.ld 2 true (.t 4)), .rd⟩, 
  ⟨(.some 30), .none, (.call (.f 45) [(.t 27), (.t 28), (.t 29)]), .any⟩, 
  ⟨.none, .none, (.st 2 (.t 6) (.t 30)), .any⟩, 
  ⟨(.some 7), .none, (.mv (.c (.a (.p (.i .i64 0))))), .any⟩]) .ret))), [(.cell 6 2 true), (.tmp 7)]⟩
theorem cc18 : ccF Try.prog [(26, [0, 0]), (66, [1, 0]), (26, [9])] Try.f18 = some F18 := by kernel_rfl

/- gossamer/wire.Move -/
def F19 : FnC := ⟨3, (.seq (.reg [
  ⟨(.some 3), .none, (.box 2 (.t 0)), .any⟩, 
  ⟨(.some 4), .none, (.box 2 (.t 1)), .any⟩, 
  ⟨(.some 5), .none, (.box 2 (.t 2)), .any⟩, 
  ⟨(.some 6), .none, (.new [.nil, (.p (.i .i64 0))]), .any⟩, 
  ⟨(.some 7), .none, (.mv (.c (.a (.p (.i .i64 0))))), .any⟩]) (.seq (.reg [
  ⟨(.some 9), .none, (.ld 2 true (.t 3)), .any⟩, 
  ⟨(.some 10), .none, (.build [.nil, (.p (.i .i64 0))] [(0, (2, (.t 9)))]), .any⟩, 
  ⟨(.some 8), .none, (.new [.nil, (.p (.i .i64 0))]), .any⟩, 
  ⟨.none, .none, (.st 2 (.t 8) (.t 10)), .any⟩]) (.seq (.block 0 (.seq (.reg [
  ⟨(.some 12), .none, (.ld 2 true (.t 8)), .rd⟩, 
  ⟨(.some 13), .none, (.ld 2 true (.t 4)), .rd⟩, 
  ⟨(.some 14), .none, (.ld 2 true (.t 5)), .rd⟩, 
  ⟨(.some 15), .none, (.bsl 2 26 [(.p (.i .i64 0)), (.p (.i .i64 0))] 2 [(0, (.t 13)), (1, (.t 14))]), .ad⟩, 
  ⟨(.some 16), .none, (.call (.f 41) [(.t 12), (.t 15)]), .any⟩, 
  ⟨(.some 17), .none, (.not (.t 16)), .any⟩, 
  ⟨(.some 18), .none, (.mv (.t 17)), .any⟩, 
  ⟨(.some 19), (.some (18, false)), (.ld 2 true (.t 4)), .rd⟩, 
  ⟨(.some 20), (.some (18, false)), (.ld 2 true (.t 5)), .rd⟩, 
  ⟨(.some 21), (.some (18, false)), (.eqg false [0, 0] (.t 19) (.t 20)), .any⟩, 
  ⟨(.some 22), .none, (.pick (.t 18) (.c (.a (.p (.b true)))) (.t 21)), .any⟩, 
  ⟨(.some 23), .none, (.mv (.t 22)), .any⟩, 
  ⟨(.some 24), (.some (23, false)), (.ld 2 true (.t 8)), .rd⟩, 
  ⟨(.some 25), (.some (23, false)), (.ld 2 true (.t 8)), .rd⟩, 
  ⟨(.some 26), (.some (23, false)), (.ld 2 true (.t 4)), .rd⟩, 
  ⟨(.some 27), (.some (23, false)), (.call (.f 42) [(.t 25), (.t 26)]), .rd⟩, 
  ⟨(.some 28), (.some (23, false)), (.bsl 2 26 [(.p (.i .i64 0)), (.p (.i .i64 0))] 1 [(0, (.t 27))]), .ad⟩, 
  ⟨(.some 29), (.some (23, false)), (.call (.f 41) [(.t 24), (.t 28)]), .any⟩, 
  ⟨(.some 30), (.some (23, false)), (.not (.t 29)), .any⟩, 
  ⟨(.some 31), .none, (.pick (.t 23) (.c (.a (.p (.b true)))) (.t 30)), .any⟩, 
  ⟨(.some 11), .none, (.mv (.t 31)), .any⟩]) (.cond (.t 11) (.seq (.reg [
  ⟨(.some 32), .none, (.ld 2 true (.t 3)), .any⟩, 
  ⟨.none, .none, (.st 2 (.t 6) (.t 32)), .any⟩, 
  ⟨(.some 7), .none, (.mv (.c (.a (.p (.i .i64 130))))), .any⟩]) .ret) (.seq (.reg [
  ⟨(.some 34), .none, (.ld 2 true (.t 8)), .rd⟩, 
  ⟨(.some 35), .none, (.ld 2 true (.t 4)), .rd⟩, 
  ⟨(.some 36), .none, (.call (.f 42) [(.t 34), (.t 35)]), .rd⟩, 
  ⟨(.some 37), .none, (.ld 2 true (.t 5)), .rd⟩, 
  ⟨(.some 38), .none, (.eqg false [0, 0] (.t 36) (.t 37)), .any⟩, 
  ⟨(.some 33), .none, (.mv (.t 38)), .any⟩]) (.cond (.t 33) (.seq (.reg [
  ⟨(.some 39), .none, (.ld 2 true (.t 3)), .any⟩, 
  ⟨.none, .none, (.st 2 (.t 6) (.t 39)), .any⟩, 
  ⟨(.some 7), .none, (.mv (.c (.a (.p (.i .i64 0))))), .any⟩]) .ret) .skip))))) (.seq (.reg [
  ⟨(.some 40), .none, (.ld 2 true (.t 8)), .rd⟩, 
  ⟨(.some 41), .none, (.ld 2 true (.t 5)), .rd⟩, 
  ⟨(.some 42), .none, (.ld 2 true (.t 8)), .rd⟩, 
  ⟨(.some 43), .none, (.ld 2 true (.t 4)), .rd⟩, 
  ⟨(.some 44), .none, (.call (.f 42) [(.t 42), (.t 43)]), .rd⟩, 
  ⟨(.some 45), .none, (.call (.f 44) [(.t 40), (.t 41), (.t 44)]), .any⟩, 
  ⟨(.some 46), .none, (.ext (.t 45) 0), .rd⟩, 
  ⟨(.some 47), .none, (.ext (.t 45) 1), .rd⟩, 
  ⟨.none, .none, (.st 2 (.t 6) (.t 46)), .any⟩, 
  ⟨(.some 7), .none, (.mv (.t 47)), .any⟩]) .ret)))), [(.cell 6 2 true), (.tmp 7)]⟩
theorem cc19 : ccF Try.prog [(26, [0, 0]), (66, [1, 0]), (26, [9])] Try.f19 = some F19 := by kernel_rfl

/- gossamer/gossamerref13.Move -/
def F20 : FnC := ⟨3, (.seq (.reg [
  ⟨(.some 3), .none, (.box 2 (.t 0)), .any⟩, 
  ⟨(.some 4), .none, (.box 2 (.t 1)), .any⟩, 
  ⟨(.some 5), .none, (.box 2 (.t 2)), .any⟩, 
  ⟨(.some 6), .none, (.new [.nil, (.p (.i .i64 0))]), .any⟩, 
  ⟨(.some 7), .none, (.mv (.c (.a (.p (.i .i64 0))))), .any⟩]) (.seq (.reg [
  ⟨(.some 11), .none, (.ld 2 true (.t 3)), .any⟩, 
  ⟨(.some 12), .none, (.ld 2 true (.t 4)), .any⟩, 
  ⟨(.some 13), .none, (.call (.f 16) [(.t 11), (.t 12)]), .any⟩, 
  ⟨(.some 10), .none, (.mv (.t 13)), .any⟩, 
  ⟨(.some 14), .none, (.ext (.t 10) 0), .any⟩, 
  ⟨(.some 15), .none, (.ext (.t 10) 1), .any⟩, 
  ⟨(.some 8), .none, (.new [(.p (.i .i64 0)), (.p (.i .i64 0))]), .any⟩, 
  ⟨.none, .none, (.st 2 (.t 8) (.t 14)), .any⟩, 
  ⟨(.some 9), .none, (.mv (.t 15)), .any⟩]) (.seq (.seq (.reg [
  ⟨(.some 16), .none, (.mv (.t 9)), .any⟩, 
  ⟨(.some 17), .none, (.bin .neq (.t 16) (.c (.a (.p (.i .i64 0))))), .any⟩, 
  ⟨(.some 18), .none, (.mv (.t 17)), .any⟩, 
  ⟨(.some 19), (.some (18, false)), (.ld 2 true (.t 3)), .any⟩, 
  ⟨(.some 20), (.some (18, false)), (.ld 2 true (.t 5)), .any⟩, 
  ⟨(.some 21), (.some (18, false)), (.call (.f 25) [(.t 19), (.t 20)]), .any⟩, 
  ⟨(.some 22), (.some (18, false)), (.not (.t 21)), .any⟩, 
  ⟨(.some 23), .none, (.pick (.t 18) (.c (.a (.p (.b true)))) (.t 22)), .any⟩, 
  ⟨(.some 24), .none, (.mv (.t 23)), .any⟩, 
  ⟨(.some 25), (.some (24, false)), (.ld 2 true (.t 4)), .any⟩, 
  ⟨(.some 26), (.some (24, false)), (.ld 2 true (.t 5)), .any⟩, 
  ⟨(.some 27), (.some (24, false)), (.eqg false [0, 0] (.t 25) (.t 26)), .any⟩, 
  ⟨(.some 28), .none, (.pick (.t 24) (.c (.a (.p (.b true)))) (.t 27)), .any⟩, 
  ⟨(.some 29), .none, (.mv (.t 28)), .any⟩, 
  ⟨(.some 30), (.some (29, false)), (.ld 2 true (.t 3)), .any⟩, 
  ⟨(.some 31), (.some (29, false)), (.ld 2 true (.t 8)), .any⟩, 
  ⟨(.some 32), (.some (29, false)), (.call (.f 25) [(.t 30), (.t 31)]), .any⟩, 
  ⟨(.some 33), (.some (29, false)), (.not (.t 32)), .any⟩, 
  ⟨(.some 34), .none, (.pick (.t 29) (.c (.a (.p (.b true)))) (.t 33)), .any⟩]) (.cond (.t 34) (.seq (.reg [
  ⟨(.some 35), .none, (.ld 2 true (.t 3)), .any⟩, 
  ⟨.none, .none, (.st 2 (.t 6) (.t 35)), .any⟩, 
  ⟨(.some 7), .none, (.mv (.c (.a (.p (.i .i64 130))))), .any⟩]) .ret) .skip)) (.seq (.seq (.reg [
  ⟨(.some 36), .none, (.ld 2 true (.t 8)), .any⟩, 
  ⟨(.some 37), .none, (.ld 2 true (.t 5)), .any⟩, 
  ⟨(.some 38), .none, (.eqg false [0, 0] (.t 36) (.t 37)), .any⟩]) (.cond (.t 38) (.seq (.reg [
  ⟨(.some 39), .none, (.ld 2 true (.t 3)), .any⟩, 
  ⟨.none, .none, (.st 2 (.t 6) (.t 39)), .any⟩, 
  ⟨(.some 7), .none, (.mv (.c (.a (.p (.i .i64 0))))), .any⟩]) .ret) .skip)) (.seq (.reg [
  ⟨(.some 40), .none, (.ld 2 true (.t 3)), .any⟩, 
  ⟨(.some 41), .none, (.ld 2 true (.t 5)), .any⟩, 
  ⟨(.some 42), .none, (.ld 2 true (.t 8)), .any⟩, 
  ⟨(.some 43), .none, (.call (.f 18) [(.t 40), (.t 41), (.t 42)]), .any⟩, 
  ⟨(.some 44), .none, (.ext (.t 43) 0), .any⟩, 
  ⟨(.some 45), .none, (.ext (.t 43) 1), .any⟩, 
  ⟨.none, .none, (.st 2 (.t 6) (.t 44)), .any⟩, 
  ⟨(.some 7), .none, (.mv (.t 45)), .any⟩]) .ret))))), [(.cell 6 2 true), (.tmp 7)]⟩
theorem cc20 : ccF Try.prog [(26, [0, 0]), (66, [1, 0]), (26, [9])] Try.f20 = some F20 := by kernel_rfl

/- gossamer/wire.Join -/
def F21 : FnC := ⟨3, (.seq (.reg [
  ⟨(.some 3), .none, (.box 2 (.t 0)), .any⟩, 
  ⟨(.some 4), .none, (.box 2 (.t 1)), .any⟩, 
  ⟨(.some 5), .none, (.box 2 (.t 2)), .any⟩, 
  ⟨(.some 6), .none, (.new [.nil, (.p (.i .i64 0))]), .any⟩, 
  ⟨(.some 7), .none, (.mv (.c (.a (.p (.i .i64 0))))), .any⟩]) (.seq (.reg [
  ⟨(.some 9), .none, (.ld 2 true (.t 3)), .any⟩, 
  ⟨(.some 10), .none, (.build [.nil, (.p (.i .i64 0))] [(0, (2, (.t 9)))]), .any⟩, 
  ⟨(.some 8), .none, (.new [.nil, (.p (.i .i64 0))]), .any⟩, 
  ⟨.none, .none, (.st 2 (.t 8) (.t 10)), .any⟩]) (.seq (.block 0 (.seq (.reg [
  ⟨(.some 12), .none, (.ld 2 true (.t 8)), .rd⟩, 
  ⟨(.some 13), .none, (.ld 2 true (.t 4)), .rd⟩, 
  ⟨(.some 14), .none, (.ld 2 true (.t 5)), .rd⟩, 
  ⟨(.some 15), .none, (.bsl 2 26 [(.p (.i .i64 0)), (.p (.i .i64 0))] 2 [(0, (.t 13)), (1, (.t 14))]), .ad⟩, 
  ⟨(.some 16), .none, (.call (.f 41) [(.t 12), (.t 15)]), .any⟩, 
  ⟨(.some 17), .none, (.not (.t 16)), .any⟩, 
  ⟨(.some 18), .none, (.mv (.t 17)), .any⟩, 
  ⟨(.some 19), (.some (18, false)), (.ld 2 true (.t 4)), .rd⟩, 
  ⟨(.some 20), (.some (18, false)), (.ld 2 true (.t 5)), .rd⟩, 
  ⟨(.some 21), (.some (18, false)), (.eqg false [0, 0] (.t 19) (.t 20)), .any⟩, 
  ⟨(.some 22), .none, (.pick (.t 18) (.c (.a (.p (.b true)))) (.t 21)), .any⟩, 
  ⟨(.some 23), .none, (.mv (.t 22)), .any⟩, 
  ⟨(.some 24), (.some (23, false)), (.ld 2 true (.t 8)), .rd⟩, 
  ⟨(.some 25), (.some (23, false)), (.ld 2 true (.t 8)), .rd⟩, 
  ⟨(.some 26), (.some (23, false)), (.ld 2 true (.t 4)), .rd⟩, 
  ⟨(.some 27), (.some (23, false)), (.call (.f 42) [(.t 25), (.t 26)]), .rd⟩, 
  ⟨(.some 28), (.some (23, false)), (.ld 2 true (.t 8)), .rd⟩, 
  ⟨(.some 29), (.some (23, false)), (.ld 2 true (.t 5)), .rd⟩, 
  ⟨(.some 30), (.some (23, false)), (.call (.f 42) [(.t 28), (.t 29)]), .rd⟩, 
  ⟨(.some 31), (.some (23, false)), (.bsl 2 26 [(.p (.i .i64 0)), (.p (.i .i64 0))] 2 [(0, (.t 27)), (1, (.t 30))]), .ad⟩, 
  ⟨(.some 32), (.some (23, false)), (.call (.f 41) [(.t 24), (.t 31)]), .any⟩, 
  ⟨(.some 33), (.some (23, false)), (.not (.t 32)), .any⟩, 
  ⟨(.some 34), .none, (.pick (.t 23) (.c (.a (.p (.b true)))) (.t 33)), .any⟩, 
  ⟨(.some 11), .none, (.mv (.t 34)), .any⟩]) (.cond (.t 11) (.seq (.reg [
  ⟨(.some 35), .none, (.ld 2 true (.t 3)), .any⟩, 
  ⟨.none, .none, (.st 2 (.t 6) (.t 35)), .any⟩, 
  ⟨(.some 7), .none, (.mv (.c (.a (.p (.i .i64 130))))), .any⟩]) .ret) (.seq (.reg [
  ⟨(.some 37), .none, (.ld 2 true (.t 8)), .rd⟩, 
  ⟨(.some 38), .none, (.ld 2 true (.t 4)), .rd⟩, 
  ⟨(.some 39), .none, (.call (.f 42) [(.t 37), (.t 38)]), .rd⟩, 
  ⟨(.some 40), .none, (.ld 2 true (.t 5)), .rd⟩, 
  ⟨(.some 41), .none, (.eqg false [0, 0] (.t 39) (.t 40)), .any⟩, 
  ⟨(.some 36), .none, (.mv (.t 41)), .any⟩]) (.cond (.t 36) (.seq (.reg [
  ⟨(.some 42), .none, (.ld 2 true (.t 3)), .any⟩, 
  ⟨.none, .none, (.st 2 (.t 6) (.t 42)), .any⟩, 
  ⟨(.some 7), .none, (.mv (.c (.a (.p (.i .i64 0))))), .any⟩]) .ret) .skip))))) (.seq (.reg [
  ⟨(.some 43), .none, (.ld 2 true (.t 8)), .rd⟩, 
  ⟨(.some 44), .none, (.ld 2 true (.t 8)), .rd⟩, 
  ⟨(.some 45), .none, (.ld 2 true (.t 4)), .rd⟩, 
  ⟨(.some 46), .none, (.call (.f 42) [(.t 44), (.t 45)]), .rd⟩, 
  ⟨(.some 47), .none, (.ld 2 true (.t 8)), .rd⟩, 
  ⟨(.some 48), .none, (.ld 2 true (.t 5)), .rd⟩, 
  ⟨(.some 49), .none, (.call (.f 42) [(.t 47), (.t 48)]), .rd⟩, 
  ⟨(.some 50), .none, (.call (.f 44) [(.t 43), (.t 46), (.t 49)]), .any⟩, 
  ⟨(.some 51), .none, (.ext (.t 50) 0), .rd⟩, 
  ⟨(.some 52), .none, (.ext (.t 50) 1), .rd⟩, 
  ⟨.none, .none, (.st 2 (.t 6) (.t 51)), .any⟩, 
  ⟨(.some 7), .none, (.mv (.t 52)), .any⟩]) .ret)))), [(.cell 6 2 true), (.tmp 7)]⟩
theorem cc21 : ccF Try.prog [(26, [0, 0]), (66, [1, 0]), (26, [9])] Try.f21 = some F21 := by kernel_rfl

/- gossamer/gossamerref13.Join -/
def F22 : FnC := ⟨3, (.seq (.reg [
  ⟨(.some 3), .none, (.box 2 (.t 0)), .any⟩, 
  ⟨(.some 4), .none, (.box 2 (.t 1)), .any⟩, 
  ⟨(.some 5), .none, (.box 2 (.t 2)), .any⟩, 
  ⟨(.some 6), .none, (.new [.nil, (.p (.i .i64 0))]), .any⟩, 
  ⟨(.some 7), .none, (.mv (.c (.a (.p (.i .i64 0))))), .any⟩]) (.seq (.reg [
  ⟨(.some 13), .none, (.ld 2 true (.t 3)), .any⟩, 
  ⟨(.some 14), .none, (.ld 2 true (.t 4)), .any⟩, 
  ⟨(.some 15), .none, (.call (.f 16) [(.t 13), (.t 14)]), .any⟩, 
  ⟨(.some 12), .none, (.mv (.t 15)), .any⟩, 
  ⟨(.some 16), .none, (.ext (.t 12) 0), .any⟩, 
  ⟨(.some 17), .none, (.ext (.t 12) 1), .any⟩, 
  ⟨(.some 8), .none, (.new [(.p (.i .i64 0)), (.p (.i .i64 0))]), .any⟩, 
  ⟨.none, .none, (.st 2 (.t 8) (.t 16)), .any⟩, 
  ⟨(.some 9), .none, (.mv (.t 17)), .any⟩]) (.seq (.reg [
  ⟨(.some 19), .none, (.ld 2 true (.t 3)), .any⟩, 
  ⟨(.some 20), .none, (.ld 2 true (.t 5)), .any⟩, 
  ⟨(.some 21), .none, (.call (.f 16) [(.t 19), (.t 20)]), .any⟩, 
  ⟨(.some 18), .none, (.mv (.t 21)), .any⟩, 
  ⟨(.some 22), .none, (.ext (.t 18) 0), .any⟩, 
  ⟨(.some 23), .none, (.ext (.t 18) 1), .any⟩, 
  ⟨(.some 10), .none, (.new [(.p (.i .i64 0)), (.p (.i .i64 0))]), .any⟩, 
  ⟨.none, .none, (.st 2 (.t 10) (.t 22)), .any⟩, 
  ⟨(.some 11), .none, (.mv (.t 23)), .any⟩]) (.seq (.seq (.reg [
  ⟨(.some 24), .none, (.mv (.t 9)), .any⟩, 
  ⟨(.some 25), .none, (.bin .neq (.t 24) (.c (.a (.p (.i .i64 0))))), .any⟩, 
  ⟨(.some 26), .none, (.mv (.t 25)), .any⟩, 
  ⟨(.some 27), (.some (26, false)), (.mv (.t 11)), .any⟩, 
  ⟨(.some 28), (.some (26, false)), (.bin .neq (.t 27) (.c (.a (.p (.i .i64 0))))), .any⟩, 
  ⟨(.some 29), .none, (.pick (.t 26) (.c (.a (.p (.b true)))) (.t 28)), .any⟩, 
  ⟨(.some 30), .none, (.mv (.t 29)), .any⟩, 
  ⟨(.some 31), (.some (30, false)), (.ld 2 true (.t 4)), .any⟩, 
  ⟨(.some 32), (.some (30, false)), (.ld 2 true (.t 5)), .any⟩, 
  ⟨(.some 33), (.some (30, false)), (.eqg false [0, 0] (.t 31) (.t 32)), .any⟩, 
  ⟨(.some 34), .none, (.pick (.t 30) (.c (.a (.p (.b true)))) (.t 33)), .any⟩, 
  ⟨(.some 35), .none, (.mv (.t 34)), .any⟩, 
  ⟨(.some 36), (.some (35, false)), (.ld 2 true (.t 3)), .any⟩, 
  ⟨(.some 37), (.some (35, false)), (.ld 2 true (.t 8)), .any⟩, 
  ⟨(.some 38), (.some (35, false)), (.call (.f 25) [(.t 36), (.t 37)]), .any⟩, 
  ⟨(.some 39), (.some (35, false)), (.not (.t 38)), .any⟩, 
  ⟨(.some 40), .none, (.pick (.t 35) (.c (.a (.p (.b true)))) (.t 39)), .any⟩, 
  ⟨(.some 41), .none, (.mv (.t 40)), .any⟩, 
  ⟨(.some 42), (.some (41, false)), (.ld 2 true (.t 3)), .any⟩, 
  ⟨(.some 43), (.some (41, false)), (.ld 2 true (.t 10)), .any⟩, 
  ⟨(.some 44), (.some (41, false)), (.call (.f 25) [(.t 42), (.t 43)]), .any⟩, 
  ⟨(.some 45), (.some (41, false)), (.not (.t 44)), .any⟩, 
  ⟨(.some 46), .none, (.pick (.t 41) (.c (.a (.p (.b true)))) (.t 45)), .any⟩]) (.cond (.t 46) (.seq (.reg [
  ⟨(.some 47), .none, (.ld 2 true (.t 3)), .any⟩, 
  ⟨.none, .none, (.st 2 (.t 6) (.t 47)), .any⟩, 
  ⟨(.some 7), .none, (.mv (.c (.a (.p (.i .i64 130))))), .any⟩]) .ret) .skip)) (.seq (.seq (.reg [
  ⟨(.some 48), .none, (.ld 2 true (.t 8)), .any⟩, 
  ⟨(.some 49), .none, (.ld 2 true (.t 5)), .any⟩, 
  ⟨(.some 50), .none, (.eqg false [0, 0] (.t 48) (.t 49)), .any⟩]) (.cond (.t 50) (.seq (.reg [
  ⟨(.some 51), .none, (.ld 2 true (.t 3)), .any⟩, 
  ⟨.none, .none, (.st 2 (.t 6) (.t 51)), .any⟩, 
  ⟨(.some 7), .none, (.mv (.c (.a (.p (.i .i64 0))))), .any⟩]) .ret) .skip)) (.seq (.reg [
  ⟨(.some 52), .none, (.ld 2 true (.t 3)), .any⟩, 
  ⟨(.some 53), .none, (.ld 2 true (.t 8)), .any⟩, 
  ⟨(.some 54), .none, (.ld 2 true (.t 10)), .any⟩, 
  ⟨(.some 55), .none, (.call (.f 18) [(.t 52), (.t 53), (.t 54)]), .any⟩, 
  ⟨(.some 56), .none, (.ext (.t 55) 0), .any⟩, 
  ⟨(.some 57), .none, (.ext (.t 55) 1), .any⟩, 
  ⟨.none, .none, (.st 2 (.t 6) (.t 56)), .any⟩, 
  ⟨(.some 7), .none, (.mv (.t 57)), .any⟩]) .ret)))))), [(.cell 6 2 true), (.tmp 7)]⟩
theorem cc22 : ccF Try.prog [(26, [0, 0]), (66, [1, 0]), (26, [9])] Try.f22 = some F22 := by kernel_rfl

/- gossamer/gossamerref12.Same -/
def F23b0 : C := (.seq (.seq (.reg [
  ⟨(.some 20), .none, (.mv (.t 5)), .any⟩, 
  ⟨(.some 21), .none, (.fad 0 (.t 2)), .any⟩, 
  ⟨(.some 22), .none, (.ld 1 false (.t 21)), .any⟩, 
  ⟨(.some 23), .none, (.len false (.t 22)), .any⟩, 
  ⟨(.some 24), .none, (.bin .lss (.t 20) (.t 23)), .any⟩]) (.cond (.t 24) .skip (.exit 0))) (.seq (.block 1 (.seq (.reg [
  ⟨(.some 27), .none, (.fad 0 (.t 2)), .rd⟩, 
  ⟨(.some 28), .none, (.ld 1 false (.t 27)), .rd⟩, 
  ⟨(.some 29), .none, (.mv (.t 5)), .rd⟩, 
  ⟨(.some 30), .none, (.ias 6 (.t 28) (.t 29)), .rd⟩, 
  ⟨(.some 31), .none, (.ld 6 true (.t 30)), .rd⟩, 
  ⟨(.some 32), .none, (.fad 0 (.t 3)), .rd⟩, 
  ⟨(.some 33), .none, (.ld 1 false (.t 32)), .rd⟩, 
  ⟨(.some 34), .none, (.mv (.t 5)), .rd⟩, 
  ⟨(.some 35), .none, (.ias 6 (.t 33) (.t 34)), .rd⟩, 
  ⟨(.some 36), .none, (.ld 6 true (.t 35)), .rd⟩, 
  ⟨(.some 37), .none, (.call (.f 32) [(.t 31), (.t 36)]), .any⟩, 
  ⟨(.some 38), .none, (.not (.t 37)), .any⟩]) (.cond (.t 38) (.seq (.reg [
  ⟨(.some 4), .none, (.mv (.c (.a (.p (.b false))))), .any⟩]) .ret) .skip))) (.reg [
  ⟨(.some 25), .none, (.mv (.t 5)), .any⟩, 
  ⟨(.some 26), .none, (.bin .add (.t 25) (.c (.a (.p (.i .i64 1))))), .any⟩, 
  ⟨(.some 5), .none, (.mv (.t 26)), .any⟩])))
def F23 : FnC := ⟨2, (.seq (.reg [
  ⟨(.some 2), .none, (.box 2 (.t 0)), .any⟩, 
  ⟨(.some 3), .none, (.box 2 (.t 1)), .any⟩, 
  ⟨(.some 4), .none, (.mv (.c (.a (.p (.b false))))), .any⟩]) (.seq (.seq (.reg [
  ⟨(.some 6), .none, (.fad 1 (.t 2)), .any⟩, 
  ⟨(.some 7), .none, (.ld 1 false (.t 6)), .any⟩, 
  ⟨(.some 8), .none, (.fad 1 (.t 3)), .any⟩, 
  ⟨(.some 9), .none, (.ld 1 false (.t 8)), .any⟩, 
  ⟨(.some 10), .none, (.bin .neq (.t 7) (.t 9)), .any⟩, 
  ⟨(.some 11), .none, (.mv (.t 10)), .any⟩, 
  ⟨(.some 12), (.some (11, false)), (.fad 0 (.t 2)), .any⟩, 
  ⟨(.some 13), (.some (11, false)), (.ld 1 false (.t 12)), .any⟩, 
  ⟨(.some 14), (.some (11, false)), (.len false (.t 13)), .any⟩, 
  ⟨(.some 15), (.some (11, false)), (.fad 0 (.t 3)), .any⟩, 
  ⟨(.some 16), (.some (11, false)), (.ld 1 false (.t 15)), .any⟩, 
  ⟨(.some 17), (.some (11, false)), (.len false (.t 16)), .any⟩, 
  ⟨(.some 18), (.some (11, false)), (.bin .neq (.t 14) (.t 17)), .any⟩, 
  ⟨(.some 19), .none, (.pick (.t 11) (.c (.a (.p (.b true)))) (.t 18)), .any⟩]) (.cond (.t 19) (.seq (.reg [
  ⟨(.some 4), .none, (.mv (.c (.a (.p (.b false))))), .any⟩]) .ret) .skip)) (.seq (.seq (.reg [
  ⟨(.some 5), .none, (.mv (.c (.a (.p (.i .i64 0))))), .any⟩]) (.block 0 (.loop F23b0))) (.seq (.reg [
  ⟨(.some 4), .none, (.mv (.c (.a (.p (.b true))))), .any⟩]) .ret)))), [(.tmp 4)]⟩
theorem cc23 : ccF Try.prog [(26, [0, 0]), (66, [1, 0]), (26, [9])] Try.f23 = some F23 := by kernel_rfl

/- gossamer/gossamerref12.Check -/
def F24b1 : C := (.seq (.seq (.reg [
  ⟨(.some 73), .none, (.mv (.t 5)), .any⟩, 
  ⟨(.some 74), .none, (.fad 5 (.t 4)), .any⟩, 
  ⟨(.some 75), .none, (.ld 1 false (.t 74)), .any⟩, 
  ⟨(.some 76), .none, (.len false (.t 75)), .any⟩, 
  ⟨(.some 77), .none, (.bin .lss (.t 73) (.t 76)), .any⟩]) (.cond (.t 77) .skip (.exit 2))) (.seq (.block 3 (.seq (.reg [
  ⟨(.some 80), .none, (.mv (.t 3)), .any⟩, 
  ⟨(.some 81), .none, (.mv (.t 5)), .any⟩, 
  ⟨(.some 82), .none, (.build [(.p (.i .i64 0)), (.p (.i .i64 0))] [(0, (1, (.t 80))), (1, (1, (.t 81)))]), .any⟩, 
  ⟨(.some 6), .none, (.new [(.p (.i .i64 0)), (.p (.i .i64 0))]), .any⟩, 
  ⟨.none, .none, (.st 2 (.t 6) (.t 82)), .any⟩]) (.seq (.reg [
  ⟨(.some 83), .none, (.fad 5 (.t 4)), .any⟩, 
  ⟨(.some 84), .none, (.ld 1 false (.t 83)), .any⟩, 
  ⟨(.some 85), .none, (.mv (.t 5)), .any⟩, 
  ⟨(.some 86), .none, (.ias 2 (.t 84) (.t 85)), .any⟩, 
  ⟨(.some 87), .none, (.ld 2 true (.t 86)), .any⟩, 
  ⟨(.some 7), .none, (.new [(.p (.i .i64 0)), (.p (.i .i64 0))]), .any⟩, 
  ⟨.none, .none, (.st 2 (.t 7) (.t 87)), .any⟩]) (.seq (.reg [
  ⟨(.some 88), .none, (.ld 2 true (.t 7)), .rd⟩, 
  ⟨(.some 89), .none, (.ld 2 true (.t 6)), .rd⟩, 
  ⟨(.some 90), .none, (.eqg false [0, 0] (.t 88) (.t 89)), .any⟩, 
  ⟨(.some 91), .none, (.mv (.t 90)), .any⟩, 
  ⟨(.some 92), (.some (91, false)), (.ld 2 true (.t 1)), .rd⟩, 
  ⟨(.some 93), (.some (91, false)), (.ld 2 true (.t 7)), .rd⟩, 
  ⟨(.some 94), (.some (91, false)), (.call (.f 25) [(.t 92), (.t 93)]), .any⟩, 
  ⟨(.some 95), (.some (91, false)), (.not (.t 94)), .any⟩, 
  ⟨(.some 96), .none, (.pick (.t 91) (.c (.a (.p (.b true)))) (.t 95)), .any⟩, 
  ⟨(.some 97), .none, (.mv (.t 96)), .any⟩, 
  ⟨(.some 98), (.some (97, false)), (.fad 0 (.t 1)), .rd⟩, 
  ⟨(.some 99), (.some (97, false)), (.ld 1 false (.t 98)), .rd⟩, 
  ⟨(.some 100), (.some (97, false)), (.fad 0 (.t 7)), .rd⟩, 
  ⟨(.some 101), (.some (97, false)), (.ld 1 false (.t 100)), .rd⟩, 
  ⟨(.some 102), (.some (97, false)), (.ias 6 (.t 99) (.t 101)), .rd⟩, 
  ⟨(.some 103), (.some (97, false)), (.fad 5 (.t 102)), .rd⟩, 
  ⟨(.some 104), (.some (97, false)), (.ld 1 false (.t 103)), .rd⟩, 
  ⟨(.some 105), (.some (97, false)), (.fad 1 (.t 7)), .rd⟩, 
  ⟨(.some 106), (.some (97, false)), (.ld 1 false (.t 105)), .rd⟩, 
  ⟨(.some 107), (.some (97, false)), (.ias 2 (.t 104) (.t 106)), .rd⟩, 
  ⟨(.some 108), (.some (97, false)), (.ld 2 true (.t 107)), .rd⟩, 
  ⟨(.some 109), (.some (97, false)), (.ld 2 true (.t 6)), .rd⟩, 
  ⟨(.some 110), (.some (97, false)), (.eqg true [0, 0] (.t 108) (.t 109)), .any⟩, 
  ⟨(.some 111), .none, (.pick (.t 97) (.c (.a (.p (.b true)))) (.t 110)), .any⟩]) (.cond (.t 111) (.seq (.reg [
  ⟨(.some 2), .none, (.mv (.c (.a (.p (.i .i64 120))))), .any⟩]) .ret) .skip))))) (.reg [
  ⟨(.some 78), .none, (.mv (.t 5)), .any⟩, 
  ⟨(.some 79), .none, (.bin .add (.t 78) (.c (.a (.p (.i .i64 1))))), .any⟩, 
  ⟨(.some 5), .none, (.mv (.t 79)), .any⟩])))
def F24b0 : C := (.seq (.seq (.reg [
  ⟨(.some 42), .none, (.mv (.t 3)), .any⟩, 
  ⟨(.some 43), .none, (.fad 0 (.t 1)), .any⟩, 
  ⟨(.some 44), .none, (.ld 1 false (.t 43)), .any⟩, 
  ⟨(.some 45), .none, (.len false (.t 44)), .any⟩, 
  ⟨(.some 46), .none, (.bin .lss (.t 42) (.t 45)), .any⟩]) (.cond (.t 46) .skip (.exit 0))) (.seq (.block 1 (.seq (.reg [
  ⟨(.some 49), .none, (.fad 0 (.t 1)), .any⟩, 
  ⟨(.some 50), .none, (.ld 1 false (.t 49)), .any⟩, 
  ⟨(.some 51), .none, (.mv (.t 3)), .any⟩, 
  ⟨(.some 52), .none, (.ias 6 (.t 50) (.t 51)), .any⟩, 
  ⟨(.some 53), .none, (.ld 6 true (.t 52)), .any⟩, 
  ⟨(.some 4), .none, (.new [(.p (.i .i64 0)), (.p (.i .i64 0)), (.p (.i .i64 0)), (.p (.s [])), .nil, .nil]), .any⟩, 
  ⟨.none, .none, (.st 6 (.t 4) (.t 53)), .any⟩]) (.seq (.seq (.reg [
  ⟨(.some 54), .none, (.ld 6 true (.t 4)), .any⟩, 
  ⟨(.some 55), .none, (.call (.f 28) [(.t 54)]), .any⟩, 
  ⟨(.some 56), .none, (.not (.t 55)), .any⟩, 
  ⟨(.some 57), .none, (.mv (.t 56)), .any⟩, 
  ⟨(.some 58), (.some (57, false)), (.fad 5 (.t 4)), .rd⟩, 
  ⟨(.some 59), (.some (57, false)), (.ld 1 false (.t 58)), .rd⟩, 
  ⟨(.some 60), (.some (57, false)), (.len false (.t 59)), .rd⟩, 
  ⟨(.some 61), (.some (57, false)), (.ld 6 true (.t 4)), .rd⟩, 
  ⟨(.some 62), (.some (57, false)), (.call (.f 46) [(.t 61)]), .rd⟩, 
  ⟨(.some 63), (.some (57, false)), (.bin .neq (.t 60) (.t 62)), .any⟩, 
  ⟨(.some 64), .none, (.pick (.t 57) (.c (.a (.p (.b true)))) (.t 63)), .any⟩, 
  ⟨(.some 65), .none, (.mv (.t 64)), .any⟩, 
  ⟨(.some 66), (.some (65, false)), (.mv (.t 3)), .rd⟩, 
  ⟨(.some 67), (.some (65, false)), (.bin .eql (.t 66) (.c (.a (.p (.i .i64 0))))), .rd⟩, 
  ⟨(.some 68), (.some (65, false)), (.fad 0 (.t 4)), .rd⟩, 
  ⟨(.some 69), (.some (65, false)), (.ld 1 false (.t 68)), .rd⟩, 
  ⟨(.some 70), (.some (65, false)), (.bin .eql (.t 69) (.c (.a (.p (.i .i64 1))))), .rd⟩, 
  ⟨(.some 71), (.some (65, false)), (.eqb true (.t 67) (.t 70)), .any⟩, 
  ⟨(.some 72), .none, (.pick (.t 65) (.c (.a (.p (.b true)))) (.t 71)), .any⟩]) (.cond (.t 72) (.seq (.reg [
  ⟨(.some 2), .none, (.mv (.c (.a (.p (.i .i64 120))))), .any⟩]) .ret) .skip)) (.seq (.reg [
  ⟨(.some 5), .none, (.mv (.c (.a (.p (.i .i64 0))))), .any⟩]) (.block 2 (.loop F24b1)))))) (.reg [
  ⟨(.some 47), .none, (.mv (.t 3)), .any⟩, 
  ⟨(.some 48), .none, (.bin .add (.t 47) (.c (.a (.p (.i .i64 1))))), .any⟩, 
  ⟨(.some 3), .none, (.mv (.t 48)), .any⟩])))
def F24 : FnC := ⟨1, (.seq (.reg [
  ⟨(.some 1), .none, (.box 2 (.t 0)), .any⟩, 
  ⟨(.some 2), .none, (.mv (.c (.a (.p (.i .i64 0))))), .any⟩]) (.seq (.seq (.reg [
  ⟨(.some 8), .none, (.fad 1 (.t 1)), .any⟩, 
  ⟨(.some 9), .none, (.ld 1 false (.t 8)), .any⟩, 
  ⟨(.some 10), .none, (.bin .lss (.t 9) (.c (.a (.p (.i .i64 1))))), .any⟩, 
  ⟨(.some 11), .none, (.mv (.t 10)), .any⟩, 
  ⟨(.some 12), (.some (11, false)), (.fad 1 (.t 1)), .any⟩, 
  ⟨(.some 13), (.some (11, false)), (.ld 1 false (.t 12)), .any⟩, 
  ⟨(.some 14), (.some (11, false)), (.bin .gtr (.t 13) (.c (.a (.p (.i .i64 4000))))), .any⟩, 
  ⟨(.some 15), .none, (.pick (.t 11) (.c (.a (.p (.b true)))) (.t 14)), .any⟩, 
  ⟨(.some 16), .none, (.mv (.t 15)), .any⟩, 
  ⟨(.some 17), (.some (16, false)), (.fad 0 (.t 1)), .any⟩, 
  ⟨(.some 18), (.some (16, false)), (.ld 1 false (.t 17)), .any⟩, 
  ⟨(.some 19), (.some (16, false)), (.len false (.t 18)), .any⟩, 
  ⟨(.some 20), (.some (16, false)), (.bin .lss (.t 19) (.c (.a (.p (.i .i64 1))))), .any⟩, 
  ⟨(.some 21), .none, (.pick (.t 16) (.c (.a (.p (.b true)))) (.t 20)), .any⟩, 
  ⟨(.some 22), .none, (.mv (.t 21)), .any⟩, 
  ⟨(.some 23), (.some (22, false)), (.fad 0 (.t 1)), .any⟩, 
  ⟨(.some 24), (.some (22, false)), (.ld 1 false (.t 23)), .any⟩, 
  ⟨(.some 25), (.some (22, false)), (.len false (.t 24)), .any⟩, 
  ⟨(.some 26), (.some (22, false)), (.fad 1 (.t 1)), .any⟩, 
  ⟨(.some 27), (.some (22, false)), (.ld 1 false (.t 26)), .any⟩, 
  ⟨(.some 28), (.some (22, false)), (.bin .gtr (.t 25) (.t 27)), .any⟩, 
  ⟨(.some 29), .none, (.pick (.t 22) (.c (.a (.p (.b true)))) (.t 28)), .any⟩, 
  ⟨(.some 30), .none, (.mv (.t 29)), .any⟩, 
  ⟨(.some 31), (.some (30, false)), (.fad 0 (.t 1)), .any⟩, 
  ⟨(.some 32), (.some (30, false)), (.ld 1 false (.t 31)), .any⟩, 
  ⟨(.some 33), (.some (30, false)), (.fad 0 (.t 1)), .any⟩, 
  ⟨(.some 34), (.some (30, false)), (.ld 1 false (.t 33)), .any⟩, 
  ⟨(.some 35), (.some (30, false)), (.len false (.t 34)), .any⟩, 
  ⟨(.some 36), (.some (30, false)), (.bin .sub (.t 35) (.c (.a (.p (.i .i64 1))))), .any⟩, 
  ⟨(.some 37), (.some (30, false)), (.ias 6 (.t 32) (.t 36)), .any⟩, 
  ⟨(.some 38), (.some (30, false)), (.fad 0 (.t 37)), .any⟩, 
  ⟨(.some 39), (.some (30, false)), (.ld 1 false (.t 38)), .any⟩, 
  ⟨(.some 40), (.some (30, false)), (.bin .eql (.t 39) (.c (.a (.p (.i .i64 0))))), .any⟩, 
  ⟨(.some 41), .none, (.pick (.t 30) (.c (.a (.p (.b true)))) (.t 40)), .any⟩]) (.cond (.t 41) (.seq (.reg [
  ⟨(.some 2), .none, (.mv (.c (.a (.p (.i .i64 120))))), .any⟩]) .ret) .skip)) (.seq (.seq (.reg [
  ⟨(.some 3), .none, (.mv (.c (.a (.p (.i .i64 0))))), .any⟩]) (.block 0 (.loop F24b0))) (.seq (.reg [
  ⟨(.some 2), .none, (.mv (.c (.a (.p (.i .i64 0))))), .any⟩]) .ret)))), [(.tmp 2)]⟩
theorem cc24 : ccF Try.prog [(26, [0, 0]), (66, [1, 0]), (26, [9])] Try.f24 = some F24 := by kernel_rfl

/- gossamer/gossamerref12.Has -/
def F25 : FnC := ⟨2, (.seq (.reg [
  ⟨(.some 2), .none, (.box 2 (.t 0)), .any⟩, 
  ⟨(.some 3), .none, (.box 2 (.t 1)), .any⟩, 
  ⟨(.some 4), .none, (.mv (.c (.a (.p (.b false))))), .any⟩]) (.seq (.reg [
  ⟨(.some 5), .none, (.fad 0 (.t 3)), .any⟩, 
  ⟨(.some 6), .none, (.ld 1 false (.t 5)), .any⟩, 
  ⟨(.some 7), .none, (.bin .geq (.t 6) (.c (.a (.p (.i .i64 0))))), .any⟩, 
  ⟨(.some 8), .none, (.mv (.t 7)), .any⟩, 
  ⟨(.some 9), (.some (8, true)), (.fad 0 (.t 3)), .rd⟩, 
  ⟨(.some 10), (.some (8, true)), (.ld 1 false (.t 9)), .rd⟩, 
  ⟨(.some 11), (.some (8, true)), (.fad 0 (.t 2)), .rd⟩, 
  ⟨(.some 12), (.some (8, true)), (.ld 1 false (.t 11)), .rd⟩, 
  ⟨(.some 13), (.some (8, true)), (.len false (.t 12)), .rd⟩, 
  ⟨(.some 14), (.some (8, true)), (.bin .lss (.t 10) (.t 13)), .any⟩, 
  ⟨(.some 15), .none, (.pick (.t 8) (.t 14) (.c (.a (.p (.b false))))), .any⟩, 
  ⟨(.some 16), .none, (.mv (.t 15)), .any⟩, 
  ⟨(.some 17), (.some (16, true)), (.fad 1 (.t 3)), .any⟩, 
  ⟨(.some 18), (.some (16, true)), (.ld 1 false (.t 17)), .any⟩, 
  ⟨(.some 19), (.some (16, true)), (.bin .geq (.t 18) (.c (.a (.p (.i .i64 0))))), .any⟩, 
  ⟨(.some 20), .none, (.pick (.t 16) (.t 19) (.c (.a (.p (.b false))))), .any⟩, 
  ⟨(.some 21), .none, (.mv (.t 20)), .any⟩, 
  ⟨(.some 22), (.some (21, true)), (.fad 1 (.t 3)), .rd⟩, 
  ⟨(.some 23), (.some (21, true)), (.ld 1 false (.t 22)), .rd⟩, 
  ⟨(.some 24), (.some (21, true)), (.fad 0 (.t 2)), .rd⟩, 
  ⟨(.some 25), (.some (21, true)), (.ld 1 false (.t 24)), .rd⟩, 
  ⟨(.some 26), (.some (21, true)), (.fad 0 (.t 3)), .rd⟩, 
  ⟨(.some 27), (.some (21, true)), (.ld 1 false (.t 26)), .rd⟩, 
  ⟨(.some 28), (.some (21, true)), (.ias 6 (.t 25) (.t 27)), .rd⟩, 
  ⟨(.some 29), (.some (21, true)), (.fad 5 (.t 28)), .rd⟩, 
  ⟨(.some 30), (.some (21, true)), (.ld 1 false (.t 29)), .rd⟩, 
  ⟨(.some 31), (.some (21, true)), (.len false (.t 30)), .rd⟩, 
  ⟨(.some 32), (.some (21, true)), (.bin .lss (.t 23) (.t 31)), .any⟩, 
  ⟨(.some 33), .none, (.pick (.t 21) (.t 32) (.c (.a (.p (.b false))))), .any⟩, 
  ⟨(.some 4), .none, (.mv (.t 33)), .any⟩]) .ret)), [(.tmp 4)]⟩
theorem cc25 : ccF Try.prog [(26, [0, 0]), (66, [1, 0]), (26, [9])] Try.f25 = some F25 := by kernel_rfl

/- gossamer/gossamerlaw13.others -/
def F26b2 : C := (.seq (.seq (.reg [
  ⟨(.some 70), .none, (.mv (.t 11)), .any⟩, 
  ⟨(.some 71), .none, (.mv (.t 2)), .any⟩, 
  ⟨(.some 72), .none, (.len false (.t 71)), .any⟩, 
  ⟨(.some 73), .none, (.bin .lss (.t 70) (.t 72)), .any⟩]) (.cond (.t 73) .skip (.exit 4))) (.seq (.block 5 (.reg [
  ⟨(.some 76), .none, (.mv (.t 10)), .any⟩, 
  ⟨(.some 77), .none, (.mv (.t 76)), .any⟩, 
  ⟨(.some 78), (.some (77, false)), (.mv (.t 2)), .rd⟩, 
  ⟨(.some 79), (.some (77, false)), (.mv (.t 11)), .rd⟩, 
  ⟨(.some 80), (.some (77, false)), (.ias 2 (.t 78) (.t 79)), .rd⟩, 
  ⟨(.some 81), (.some (77, false)), (.ld 2 true (.t 80)), .rd⟩, 
  ⟨(.some 82), (.some (77, false)), (.ld 2 true (.t 9)), .rd⟩, 
  ⟨(.some 83), (.some (77, false)), (.eqg false [0, 0] (.t 81) (.t 82)), .any⟩, 
  ⟨(.some 84), .none, (.pick (.t 77) (.c (.a (.p (.b true)))) (.t 83)), .any⟩, 
  ⟨(.some 10), .none, (.mv (.t 84)), .any⟩])) (.reg [
  ⟨(.some 74), .none, (.mv (.t 11)), .any⟩, 
  ⟨(.some 75), .none, (.bin .add (.t 74) (.c (.a (.p (.i .i64 1))))), .any⟩, 
  ⟨(.some 11), .none, (.mv (.t 75)), .any⟩])))
def F26b1 : C := (.seq (.seq (.reg [
  ⟨(.some 56), .none, (.mv (.t 8)), .any⟩, 
  ⟨(.some 57), .none, (.fad 0 (.t 3)), .any⟩, 
  ⟨(.some 58), .none, (.ld 1 false (.t 57)), .any⟩, 
  ⟨(.some 59), .none, (.mv (.t 7)), .any⟩, 
  ⟨(.some 60), .none, (.ias 6 (.t 58) (.t 59)), .any⟩, 
  ⟨(.some 61), .none, (.fad 5 (.t 60)), .any⟩, 
  ⟨(.some 62), .none, (.ld 1 false (.t 61)), .any⟩, 
  ⟨(.some 63), .none, (.len false (.t 62)), .any⟩, 
  ⟨(.some 64), .none, (.bin .lss (.t 56) (.t 63)), .any⟩]) (.cond (.t 64) .skip (.exit 2))) (.seq (.block 3 (.seq (.reg [
  ⟨(.some 67), .none, (.mv (.t 7)), .any⟩, 
  ⟨(.some 68), .none, (.mv (.t 8)), .any⟩, 
  ⟨(.some 69), .none, (.call (.f 40) [(.t 67), (.t 68)]), .any⟩, 
  ⟨(.some 9), .none, (.new [(.p (.i .i64 0)), (.p (.i .i64 0))]), .any⟩, 
  ⟨.none, .none, (.st 2 (.t 9) (.t 69)), .any⟩]) (.seq (.reg [
  ⟨(.some 10), .none, (.mv (.c (.a (.p (.b false))))), .any⟩]) (.seq (.seq (.reg [
  ⟨(.some 11), .none, (.mv (.c (.a (.p (.i .i64 0))))), .any⟩]) (.block 4 (.loop F26b2))) (.seq (.reg [
  ⟨(.some 85), .none, (.mv (.t 10)), .any⟩, 
  ⟨(.some 86), .none, (.not (.t 85)), .any⟩, 
  ⟨(.some 87), .none, (.mv (.t 86)), .any⟩, 
  ⟨(.some 88), (.some (87, true)), (.fad 0 (.t 3)), .rd⟩, 
  ⟨(.some 89), (.some (87, true)), (.ld 1 false (.t 88)), .rd⟩, 
  ⟨(.some 90), (.some (87, true)), (.mv (.t 7)), .rd⟩, 
  ⟨(.some 91), (.some (87, true)), (.ias 6 (.t 89) (.t 90)), .rd⟩, 
  ⟨(.some 92), (.some (87, true)), (.fad 5 (.t 91)), .rd⟩, 
  ⟨(.some 93), (.some (87, true)), (.ld 1 false (.t 92)), .rd⟩, 
  ⟨(.some 94), (.some (87, true)), (.mv (.t 8)), .rd⟩, 
  ⟨(.some 95), (.some (87, true)), (.ias 2 (.t 93) (.t 94)), .rd⟩, 
  ⟨(.some 96), (.some (87, true)), (.ld 2 true (.t 95)), .rd⟩, 
  ⟨(.some 97), (.some (87, true)), (.fad 0 (.t 4)), .rd⟩, 
  ⟨(.some 98), (.some (87, true)), (.ld 1 false (.t 97)), .rd⟩, 
  ⟨(.some 99), (.some (87, true)), (.mv (.t 7)), .rd⟩, 
  ⟨(.some 100), (.some (87, true)), (.ias 6 (.t 98) (.t 99)), .rd⟩, 
  ⟨(.some 101), (.some (87, true)), (.fad 5 (.t 100)), .rd⟩, 
  ⟨(.some 102), (.some (87, true)), (.ld 1 false (.t 101)), .rd⟩, 
  ⟨(.some 103), (.some (87, true)), (.mv (.t 8)), .rd⟩, 
  ⟨(.some 104), (.some (87, true)), (.ias 2 (.t 102) (.t 103)), .rd⟩, 
  ⟨(.some 105), (.some (87, true)), (.ld 2 true (.t 104)), .rd⟩, 
  ⟨(.some 106), (.some (87, true)), (.eqg true [0, 0] (.t 96) (.t 105)), .any⟩, 
  ⟨(.some 107), .none, (.pick (.t 87) (.t 106) (.c (.a (.p (.b false))))), .any⟩]) (.cond (.t 107) (.seq (.reg [
  ⟨(.some 6), .none, (.mv (.c (.a (.p (.b false))))), .any⟩]) .ret) .skip)))))) (.reg [
  ⟨(.some 65), .none, (.mv (.t 8)), .any⟩, 
  ⟨(.some 66), .none, (.bin .add (.t 65) (.c (.a (.p (.i .i64 1))))), .any⟩, 
  ⟨(.some 8), .none, (.mv (.t 66)), .any⟩])))
def F26b0 : C := (.seq (.seq (.reg [
  ⟨(.some 19), .none, (.mv (.t 7)), .any⟩, 
  ⟨(.some 20), .none, (.fad 0 (.t 3)), .any⟩, 
  ⟨(.some 21), .none, (.ld 1 false (.t 20)), .any⟩, 
  ⟨(.some 22), .none, (.len false (.t 21)), .any⟩, 
  ⟨(.some 23), .none, (.bin .lss (.t 19) (.t 22)), .any⟩]) (.cond (.t 23) .skip (.exit 0))) (.seq (.block 1 (.seq (.seq (.reg [
  ⟨(.some 26), .none, (.fad 0 (.t 3)), .rd⟩, 
  ⟨(.some 27), .none, (.ld 1 false (.t 26)), .rd⟩, 
  ⟨(.some 28), .none, (.mv (.t 7)), .rd⟩, 
  ⟨(.some 29), .none, (.ias 6 (.t 27) (.t 28)), .rd⟩, 
  ⟨(.some 30), .none, (.fad 5 (.t 29)), .rd⟩, 
  ⟨(.some 31), .none, (.ld 1 false (.t 30)), .rd⟩, 
  ⟨(.some 32), .none, (.len false (.t 31)), .rd⟩, 
  ⟨(.some 33), .none, (.fad 0 (.t 4)), .rd⟩, 
  ⟨(.some 34), .none, (.ld 1 false (.t 33)), .rd⟩, 
  ⟨(.some 35), .none, (.mv (.t 7)), .rd⟩, 
  ⟨(.some 36), .none, (.ias 6 (.t 34) (.t 35)), .rd⟩, 
  ⟨(.some 37), .none, (.fad 5 (.t 36)), .rd⟩, 
  ⟨(.some 38), .none, (.ld 1 false (.t 37)), .rd⟩, 
  ⟨(.some 39), .none, (.len false (.t 38)), .rd⟩, 
  ⟨(.some 40), .none, (.bin .neq (.t 32) (.t 39)), .any⟩, 
  ⟨(.some 41), .none, (.mv (.t 40)), .any⟩, 
  ⟨(.some 42), (.some (41, false)), (.fad 0 (.t 3)), .rd⟩, 
  ⟨(.some 43), (.some (41, false)), (.ld 1 false (.t 42)), .rd⟩, 
  ⟨(.some 44), (.some (41, false)), (.mv (.t 7)), .rd⟩, 
  ⟨(.some 45), (.some (41, false)), (.ias 6 (.t 43) (.t 44)), .rd⟩, 
  ⟨(.some 46), (.some (41, false)), (.fad 0 (.t 45)), .rd⟩, 
  ⟨(.some 47), (.some (41, false)), (.ld 1 false (.t 46)), .rd⟩, 
  ⟨(.some 48), (.some (41, false)), (.fad 0 (.t 4)), .rd⟩, 
  ⟨(.some 49), (.some (41, false)), (.ld 1 false (.t 48)), .rd⟩, 
  ⟨(.some 50), (.some (41, false)), (.mv (.t 7)), .rd⟩, 
  ⟨(.some 51), (.some (41, false)), (.ias 6 (.t 49) (.t 50)), .rd⟩, 
  ⟨(.some 52), (.some (41, false)), (.fad 0 (.t 51)), .rd⟩, 
  ⟨(.some 53), (.some (41, false)), (.ld 1 false (.t 52)), .rd⟩, 
  ⟨(.some 54), (.some (41, false)), (.bin .neq (.t 47) (.t 53)), .any⟩, 
  ⟨(.some 55), .none, (.pick (.t 41) (.c (.a (.p (.b true)))) (.t 54)), .any⟩]) (.cond (.t 55) (.seq (.reg [
  ⟨(.some 6), .none, (.mv (.c (.a (.p (.b false))))), .any⟩]) .ret) .skip)) (.seq (.reg [
  ⟨(.some 8), .none, (.mv (.c (.a (.p (.i .i64 0))))), .any⟩]) (.block 2 (.loop F26b1))))) (.reg [
  ⟨(.some 24), .none, (.mv (.t 7)), .any⟩, 
  ⟨(.some 25), .none, (.bin .add (.t 24) (.c (.a (.p (.i .i64 1))))), .any⟩, 
  ⟨(.some 7), .none, (.mv (.t 25)), .any⟩])))
def F26 : FnC := ⟨3, (.seq (.reg [
  ⟨(.some 3), .none, (.box 2 (.t 0)), .any⟩, 
  ⟨(.some 4), .none, (.box 2 (.t 1)), .any⟩, 
  ⟨(.some 6), .none, (.mv (.c (.a (.p (.b false))))), .any⟩]) (.seq (.seq (.reg [
  ⟨(.some 12), .none, (.fad 0 (.t 3)), .any⟩, 
  ⟨(.some 13), .none, (.ld 1 false (.t 12)), .any⟩, 
  ⟨(.some 14), .none, (.len false (.t 13)), .any⟩, 
  ⟨(.some 15), .none, (.fad 0 (.t 4)), .any⟩, 
  ⟨(.some 16), .none, (.ld 1 false (.t 15)), .any⟩, 
  ⟨(.some 17), .none, (.len false (.t 16)), .any⟩, 
  ⟨(.some 18), .none, (.bin .neq (.t 14) (.t 17)), .any⟩]) (.cond (.t 18) (.seq (.reg [
  ⟨(.some 6), .none, (.mv (.c (.a (.p (.b false))))), .any⟩]) .ret) .skip)) (.seq (.seq (.reg [
  ⟨(.some 7), .none, (.mv (.c (.a (.p (.i .i64 0))))), .any⟩]) (.block 0 (.loop F26b0))) (.seq (.reg [
  ⟨(.some 6), .none, (.mv (.c (.a (.p (.b true))))), .any⟩]) .ret)))), [(.tmp 6)]⟩
theorem cc26 : ccF Try.prog [(26, [0, 0]), (66, [1, 0]), (26, [9])] Try.f26 = some F26 := by kernel_rfl

/- gossamer/gossamerlaw12.fixed -/
def F27 : FnC := ⟨0, (.seq (.reg [
  ⟨(.some 0), .none, (.mv (.c (.a (.p (.b false))))), .any⟩]) (.seq (.reg [
  ⟨(.some 22), .none, (.call (.f 34) [(.c (.a (.p (.i .i64 3))))]), .any⟩, 
  ⟨(.some 21), .none, (.mv (.t 22)), .any⟩, 
  ⟨(.some 23), .none, (.ext (.t 21) 0), .any⟩, 
  ⟨(.some 24), .none, (.ext (.t 21) 1), .any⟩, 
  ⟨(.some 1), .none, (.new [.nil, (.p (.i .i64 0))]), .any⟩, 
  ⟨.none, .none, (.st 2 (.t 1) (.t 23)), .any⟩, 
  ⟨(.some 2), .none, (.mv (.t 24)), .any⟩]) (.seq (.reg [
  ⟨(.some 26), .none, (.ld 2 true (.t 1)), .any⟩, 
  ⟨(.some 27), .none, (.build [(.p (.i .i64 0)), (.p (.i .i64 0)), (.p (.i .i64 0)), (.p (.s [])), .nil, .nil] [(0, (1, (.c (.a (.p (.i .i64 2)))))), (1, (1, (.c (.a (.p (.i .i64 2))))))]), .any⟩, 
  ⟨(.some 28), .none, (.call (.f 29) [(.t 26), (.t 27)]), .any⟩, 
  ⟨(.some 25), .none, (.mv (.t 28)), .any⟩, 
  ⟨(.some 29), .none, (.ext (.t 25) 0), .any⟩, 
  ⟨(.some 30), .none, (.ext (.t 25) 1), .any⟩, 
  ⟨(.some 31), .none, (.ext (.t 25) 2), .any⟩, 
  ⟨(.some 3), .none, (.new [.nil, (.p (.i .i64 0))]), .any⟩, 
  ⟨.none, .none, (.st 2 (.t 3) (.t 29)), .any⟩, 
  ⟨(.some 4), .none, (.mv (.t 30)), .any⟩, 
  ⟨(.some 5), .none, (.mv (.t 31)), .any⟩]) (.seq (.reg [
  ⟨(.some 33), .none, (.ld 2 true (.t 3)), .any⟩, 
  ⟨(.some 34), .none, (.build [(.p (.i .i64 0)), (.p (.i .i64 0)), (.p (.i .i64 0)), (.p (.s [])), .nil, .nil] [(0, (1, (.c (.a (.p (.i .i64 7))))))]), .any⟩, 
  ⟨(.some 35), .none, (.call (.f 29) [(.t 33), (.t 34)]), .any⟩, 
  ⟨(.some 32), .none, (.mv (.t 35)), .any⟩, 
  ⟨(.some 36), .none, (.ext (.t 32) 0), .any⟩, 
  ⟨(.some 37), .none, (.ext (.t 32) 1), .any⟩, 
  ⟨(.some 38), .none, (.ext (.t 32) 2), .any⟩, 
  ⟨(.some 6), .none, (.new [.nil, (.p (.i .i64 0))]), .any⟩, 
  ⟨.none, .none, (.st 2 (.t 6) (.t 36)), .any⟩, 
  ⟨(.some 7), .none, (.mv (.t 37)), .any⟩, 
  ⟨(.some 8), .none, (.mv (.t 38)), .any⟩]) (.seq (.reg [
  ⟨(.some 40), .none, (.ld 2 true (.t 1)), .any⟩, 
  ⟨(.some 41), .none, (.build [(.p (.i .i64 0)), (.p (.i .i64 0)), (.p (.i .i64 0)), (.p (.s [])), .nil, .nil] [(0, (1, (.c (.a (.p (.i .i64 8))))))]), .any⟩, 
  ⟨(.some 42), .none, (.call (.f 29) [(.t 40), (.t 41)]), .any⟩, 
  ⟨(.some 39), .none, (.mv (.t 42)), .any⟩, 
  ⟨(.some 43), .none, (.ext (.t 39) 0), .any⟩, 
  ⟨(.some 44), .none, (.ext (.t 39) 1), .any⟩, 
  ⟨(.some 45), .none, (.ext (.t 39) 2), .any⟩, 
  ⟨(.some 9), .none, (.new [.nil, (.p (.i .i64 0))]), .any⟩, 
  ⟨.none, .none, (.st 2 (.t 9) (.t 43)), .any⟩, 
  ⟨(.some 10), .none, (.mv (.t 44)), .any⟩, 
  ⟨(.some 11), .none, (.mv (.t 45)), .any⟩]) (.seq (.reg [
  ⟨(.some 47), .none, (.ld 2 true (.t 3)), .any⟩, 
  ⟨(.some 48), .none, (.call (.f 33) [(.t 47), (.c (.a (.p (.i .i64 2))))]), .any⟩, 
  ⟨(.some 46), .none, (.mv (.t 48)), .any⟩, 
  ⟨(.some 49), .none, (.ext (.t 46) 0), .any⟩, 
  ⟨(.some 50), .none, (.ext (.t 46) 1), .any⟩, 
  ⟨(.some 12), .none, (.new [.nil, (.p (.i .i64 0))]), .any⟩, 
  ⟨.none, .none, (.st 2 (.t 12) (.t 49)), .any⟩, 
  ⟨(.some 13), .none, (.mv (.t 50)), .any⟩]) (.seq (.reg [
  ⟨(.some 52), .none, (.call (.f 34) [(.c (.a (.p (.i .i64 1))))]), .any⟩, 
  ⟨(.some 51), .none, (.mv (.t 52)), .any⟩, 
  ⟨(.some 53), .none, (.ext (.t 51) 0), .any⟩, 
  ⟨(.some 54), .none, (.ext (.t 51) 1), .any⟩, 
  ⟨(.some 14), .none, (.new [.nil, (.p (.i .i64 0))]), .any⟩, 
  ⟨.none, .none, (.st 2 (.t 14) (.t 53)), .any⟩, 
  ⟨(.some 15), .none, (.mv (.t 54)), .any⟩]) (.seq (.reg [
  ⟨(.some 56), .none, (.ld 2 true (.t 3)), .any⟩, 
  ⟨(.some 57), .none, (.call (.f 33) [(.t 56), (.c (.a (.p (.i .i64 1))))]), .any⟩, 
  ⟨(.some 55), .none, (.mv (.t 57)), .any⟩, 
  ⟨(.some 58), .none, (.ext (.t 55) 0), .any⟩, 
  ⟨(.some 59), .none, (.ext (.t 55) 1), .any⟩, 
  ⟨(.some 16), .none, (.new [.nil, (.p (.i .i64 0))]), .any⟩, 
  ⟨.none, .none, (.st 2 (.t 16) (.t 58)), .any⟩, 
  ⟨(.some 17), .none, (.mv (.t 59)), .any⟩]) (.seq (.reg [
  ⟨(.some 61), .none, (.ld 2 true (.t 16)), .any⟩, 
  ⟨(.some 62), .none, (.build [(.p (.i .i64 0)), (.p (.i .i64 0)), (.p (.i .i64 0)), (.p (.s [])), .nil, .nil] [(0, (1, (.c (.a (.p (.i .i64 10)))))), (2, (1, (.c (.a (.p (.i .i64 5))))))]), .any⟩, 
  ⟨(.some 63), .none, (.call (.f 29) [(.t 61), (.t 62)]), .any⟩, 
  ⟨(.some 60), .none, (.mv (.t 63)), .any⟩, 
  ⟨(.some 64), .none, (.ext (.t 60) 0), .any⟩, 
  ⟨(.some 65), .none, (.ext (.t 60) 1), .any⟩, 
  ⟨(.some 66), .none, (.ext (.t 60) 2), .any⟩, 
  ⟨(.some 18), .none, (.new [.nil, (.p (.i .i64 0))]), .any⟩, 
  ⟨.none, .none, (.st 2 (.t 18) (.t 64)), .any⟩, 
  ⟨(.some 19), .none, (.mv (.t 65)), .any⟩, 
  ⟨(.some 20), .none, (.mv (.t 66)), .any⟩]) (.seq (.reg [
  ⟨(.some 67), .none, (.mv (.t 2)), .any⟩, 
  ⟨(.some 68), .none, (.bin .eql (.t 67) (.c (.a (.p (.i .i64 0))))), .any⟩, 
  ⟨(.some 69), .none, (.mv (.t 68)), .any⟩, 
  ⟨(.some 70), (.some (69, true)), (.ld 2 true (.t 1)), .any⟩, 
  ⟨(.some 71), (.some (69, true)), (.call (.f 35) [(.t 70)]), .any⟩, 
  ⟨(.some 72), (.some (69, true)), (.bin .eql (.t 71) (.c (.a (.p (.i .i64 0))))), .any⟩, 
  ⟨(.some 73), .none, (.pick (.t 69) (.t 72) (.c (.a (.p (.b false))))), .any⟩, 
  ⟨(.some 74), .none, (.mv (.t 73)), .any⟩, 
  ⟨(.some 75), (.some (74, true)), (.ld 2 true (.t 1)), .any⟩, 
  ⟨(.some 76), (.some (74, true)), (.call (.f 31) [(.t 75)]), .any⟩, 
  ⟨(.some 77), (.some (74, true)), (.bin .eql (.t 76) (.c (.a (.p (.i .i64 2))))), .any⟩, 
  ⟨(.some 78), .none, (.pick (.t 74) (.t 77) (.c (.a (.p (.b false))))), .any⟩, 
  ⟨(.some 79), .none, (.mv (.t 78)), .any⟩, 
  ⟨(.some 80), (.some (79, true)), (.mv (.t 4)), .any⟩, 
  ⟨(.some 81), (.some (79, true)), (.bin .eql (.t 80) (.c (.a (.p (.i .i64 2))))), .any⟩, 
  ⟨(.some 82), .none, (.pick (.t 79) (.t 81) (.c (.a (.p (.b false))))), .any⟩, 
  ⟨(.some 83), .none, (.mv (.t 82)), .any⟩, 
  ⟨(.some 84), (.some (83, true)), (.mv (.t 5)), .any⟩, 
  ⟨(.some 85), (.some (83, true)), (.bin .eql (.t 84) (.c (.a (.p (.i .i64 0))))), .any⟩, 
  ⟨(.some 86), .none, (.pick (.t 83) (.t 85) (.c (.a (.p (.b false))))), .any⟩, 
  ⟨(.some 87), .none, (.mv (.t 86)), .any⟩, 
  ⟨(.some 88), (.some (87, true)), (.ld 2 true (.t 3)), .any⟩, 
  ⟨(.some 89), (.some (87, true)), (.call (.f 31) [(.t 88)]), .any⟩, 
  ⟨(.some 90), (.some (87, true)), (.bin .eql (.t 89) (.c (.a (.p (.i .i64 3))))), .any⟩, 
  ⟨(.some 91), .none, (.pick (.t 87) (.t 90) (.c (.a (.p (.b false))))), .any⟩, 
  ⟨(.some 92), .none, (.mv (.t 91)), .any⟩, 
  ⟨(.some 93), (.some (92, true)), (.mv (.t 8)), .any⟩, 
  ⟨(.some 94), (.some (92, true)), (.bin .eql (.t 93) (.c (.a (.p (.i .i64 121))))), .any⟩, 
  ⟨(.some 95), .none, (.pick (.t 92) (.t 94) (.c (.a (.p (.b false))))), .any⟩, 
  ⟨(.some 96), .none, (.mv (.t 95)), .any⟩, 
  ⟨(.some 97), (.some (96, true)), (.mv (.t 11)), .any⟩, 
  ⟨(.some 98), (.some (96, true)), (.bin .eql (.t 97) (.c (.a (.p (.i .i64 122))))), .any⟩, 
  ⟨(.some 99), .none, (.pick (.t 96) (.t 98) (.c (.a (.p (.b false))))), .any⟩, 
  ⟨(.some 100), .none, (.mv (.t 99)), .any⟩, 
  ⟨(.some 101), (.some (100, true)), (.mv (.t 13)), .any⟩, 
  ⟨(.some 102), (.some (100, true)), (.bin .eql (.t 101) (.c (.a (.p (.i .i64 0))))), .any⟩, 
  ⟨(.some 103), .none, (.pick (.t 100) (.t 102) (.c (.a (.p (.b false))))), .any⟩, 
  ⟨(.some 104), .none, (.mv (.t 103)), .any⟩, 
  ⟨(.some 105), (.some (104, true)), (.ld 2 true (.t 12)), .any⟩, 
  ⟨(.some 106), (.some (104, true)), (.ld 2 true (.t 1)), .any⟩, 
  ⟨(.some 107), (.some (104, true)), (.call (.f 23) [(.t 105), (.t 106)]), .any⟩, 
  ⟨(.some 108), .none, (.pick (.t 104) (.t 107) (.c (.a (.p (.b false))))), .any⟩, 
  ⟨(.some 109), .none, (.mv (.t 108)), .any⟩, 
  ⟨(.some 110), (.some (109, true)), (.mv (.t 15)), .any⟩, 
  ⟨(.some 111), (.some (109, true)), (.bin .eql (.t 110) (.c (.a (.p (.i .i64 1))))), .any⟩, 
  ⟨(.some 112), .none, (.pick (.t 109) (.t 111) (.c (.a (.p (.b false))))), .any⟩, 
  ⟨(.some 113), .none, (.mv (.t 112)), .any⟩, 
  ⟨(.some 114), (.some (113, true)), (.mv (.t 17)), .any⟩, 
  ⟨(.some 115), (.some (113, true)), (.bin .eql (.t 114) (.c (.a (.p (.i .i64 0))))), .any⟩, 
  ⟨(.some 116), .none, (.pick (.t 113) (.t 115) (.c (.a (.p (.b false))))), .any⟩, 
  ⟨(.some 117), .none, (.mv (.t 116)), .any⟩, 
  ⟨(.some 118), (.some (117, true)), (.fad 0 (.t 16)), .any⟩, 
  ⟨(.some 119), (.some (117, true)), (.ld 1 false (.t 118)), .any⟩, 
  ⟨(.some 120), (.some (117, true)), (.len false (.t 119)), .any⟩, 
  ⟨(.some 121), (.some (117, true)), (.bin .eql (.t 120) (.c (.a (.p (.i .i64 3))))), .any⟩, 
  ⟨(.some 122), .none, (.pick (.t 117) (.t 121) (.c (.a (.p (.b false))))), .any⟩, 
  ⟨(.some 123), .none, (.mv (.t 122)), .any⟩, 
  ⟨(.some 124), (.some (123, true)), (.mv (.t 19)), .any⟩, 
  ⟨(.some 125), (.some (123, true)), (.bin .eql (.t 124) (.c (.a (.p (.i .i64 1))))), .any⟩, 
  ⟨(.some 126), .none, (.pick (.t 123) (.t 125) (.c (.a (.p (.b false))))), .any⟩, 
  ⟨(.some 127), .none, (.mv (.t 126)), .any⟩, 
  ⟨(.some 128), (.some (127, true)), (.mv (.t 20)), .any⟩, 
  ⟨(.some 129), (.some (127, true)), (.bin .eql (.t 128) (.c (.a (.p (.i .i64 0))))), .any⟩, 
  ⟨(.some 130), .none, (.pick (.t 127) (.t 129) (.c (.a (.p (.b false))))), .any⟩, 
  ⟨(.some 131), .none, (.mv (.t 130)), .any⟩, 
  ⟨(.some 132), (.some (131, true)), (.fad 0 (.t 18)), .any⟩, 
  ⟨(.some 133), (.some (131, true)), (.ld 1 false (.t 132)), .any⟩, 
  ⟨(.some 134), (.some (131, true)), (.len false (.t 133)), .any⟩, 
  ⟨(.some 135), (.some (131, true)), (.bin .eql (.t 134) (.c (.a (.p (.i .i64 3))))), .any⟩, 
  ⟨(.some 136), .none, (.pick (.t 131) (.t 135) (.c (.a (.p (.b false))))), .any⟩, 
  ⟨(.some 137), .none, (.mv (.t 136)), .any⟩, 
  ⟨(.some 138), (.some (137, true)), (.fad 0 (.t 18)), .any⟩, 
  ⟨(.some 139), (.some (137, true)), (.ld 1 false (.t 138)), .any⟩, 
  ⟨(.some 140), (.some (137, true)), (.ias 6 (.t 139) (.c (.a (.p (.i .i64 1))))), .any⟩, 
  ⟨(.some 141), (.some (137, true)), (.fad 2 (.t 140)), .any⟩, 
  ⟨(.some 142), (.some (137, true)), (.ld 1 false (.t 141)), .any⟩, 
  ⟨(.some 143), (.some (137, true)), (.bin .eql (.t 142) (.c (.a (.p (.i .i64 5))))), .any⟩, 
  ⟨(.some 144), .none, (.pick (.t 137) (.t 143) (.c (.a (.p (.b false))))), .any⟩, 
  ⟨(.some 145), .none, (.mv (.t 144)), .any⟩, 
  ⟨(.some 146), (.some (145, true)), (.ld 2 true (.t 3)), .any⟩, 
  ⟨(.some 147), (.some (145, true)), (.call (.f 35) [(.t 146)]), .any⟩, 
  ⟨(.some 148), (.some (145, true)), (.bin .eql (.t 147) (.c (.a (.p (.i .i64 120))))), .any⟩, 
  ⟨(.some 149), .none, (.pick (.t 145) (.t 148) (.c (.a (.p (.b false))))), .any⟩, 
  ⟨(.some 150), .none, (.mv (.t 149)), .any⟩, 
  ⟨(.some 151), (.some (150, true)), (.build [(.p (.s [])), (.p (.i .i64 0))] [(0, (1, (.c (.a (.p (.s [65]))))))]), .any⟩, 
  ⟨(.some 152), (.some (150, true)), (.bsl 2 66 [(.p (.s [])), (.p (.i .i64 0))] 1 [(0, (.t 151))]), .any⟩, 
  ⟨(.some 153), (.some (150, true)), (.build [(.p (.i .i64 0)), (.p (.i .i64 0)), (.p (.i .i64 0)), (.p (.s [])), .nil, .nil] [(0, (1, (.c (.a (.p (.i .i64 9)))))), (4, (1, (.t 152)))]), .any⟩, 
  ⟨(.some 154), (.some (150, true)), (.call (.f 37) [(.t 153)]), .any⟩, 
  ⟨(.some 155), (.some (150, true)), (.bin .eql (.t 154) (.c (.a (.p (.i .i64 3))))), .any⟩, 
  ⟨(.some 156), .none, (.pick (.t 150) (.t 155) (.c (.a (.p (.b false))))), .any⟩, 
  ⟨(.some 0), .none, (.mv (.t 156)), .any⟩]) .ret)))))))))), [(.tmp 0)]⟩
theorem cc27 : ccF Try.prog [(26, [0, 0]), (66, [1, 0]), (26, [9])] Try.f27 = some F27 := by kernel_rfl

/- gossamer/gossamerref12.Node -/
def F28b1 : C := (.seq (.seq (.reg [
  ⟨(.some 140), .none, (.mv (.t 4)), .any⟩, 
  ⟨(.some 141), .none, (.mv (.t 3)), .any⟩, 
  ⟨(.some 142), .none, (.bin .lss (.t 140) (.t 141)), .any⟩]) (.cond (.t 142) .skip (.exit 2))) (.seq (.block 3 (.seq (.reg [
  ⟨(.some 145), .none, (.fad 4 (.t 1)), .rd⟩, 
  ⟨(.some 146), .none, (.ld 1 false (.t 145)), .rd⟩, 
  ⟨(.some 147), .none, (.mv (.t 4)), .rd⟩, 
  ⟨(.some 148), .none, (.ias 2 (.t 146) (.t 147)), .rd⟩, 
  ⟨(.some 149), .none, (.fad 0 (.t 148)), .rd⟩, 
  ⟨(.some 150), .none, (.ld 1 false (.t 149)), .rd⟩, 
  ⟨(.some 151), .none, (.fad 4 (.t 1)), .rd⟩, 
  ⟨(.some 152), .none, (.ld 1 false (.t 151)), .rd⟩, 
  ⟨(.some 153), .none, (.mv (.t 3)), .rd⟩, 
  ⟨(.some 154), .none, (.ias 2 (.t 152) (.t 153)), .rd⟩, 
  ⟨(.some 155), .none, (.fad 0 (.t 154)), .rd⟩, 
  ⟨(.some 156), .none, (.ld 1 false (.t 155)), .rd⟩, 
  ⟨(.some 157), .none, (.bin .eql (.t 150) (.t 156)), .any⟩]) (.cond (.t 157) (.seq (.reg [
  ⟨(.some 2), .none, (.mv (.c (.a (.p (.b false))))), .any⟩]) .ret) .skip))) (.reg [
  ⟨(.some 143), .none, (.mv (.t 4)), .any⟩, 
  ⟨(.some 144), .none, (.bin .add (.t 143) (.c (.a (.p (.i .i64 1))))), .any⟩, 
  ⟨(.some 4), .none, (.mv (.t 144)), .any⟩])))
def F28b0 : C := (.seq (.seq (.reg [
  ⟨(.some 108), .none, (.mv (.t 3)), .any⟩, 
  ⟨(.some 109), .none, (.fad 4 (.t 1)), .any⟩, 
  ⟨(.some 110), .none, (.ld 1 false (.t 109)), .any⟩, 
  ⟨(.some 111), .none, (.len false (.t 110)), .any⟩, 
  ⟨(.some 112), .none, (.bin .lss (.t 108) (.t 111)), .any⟩]) (.cond (.t 112) .skip (.exit 0))) (.seq (.block 1 (.seq (.seq (.reg [
  ⟨(.some 115), .none, (.fad 4 (.t 1)), .any⟩, 
  ⟨(.some 116), .none, (.ld 1 false (.t 115)), .any⟩, 
  ⟨(.some 117), .none, (.mv (.t 3)), .any⟩, 
  ⟨(.some 118), .none, (.ias 2 (.t 116) (.t 117)), .any⟩, 
  ⟨(.some 119), .none, (.fad 0 (.t 118)), .any⟩, 
  ⟨(.some 120), .none, (.ld 1 false (.t 119)), .any⟩, 
  ⟨(.some 121), .none, (.bin .eql (.t 120) (.c (.a (.p (.s []))))), .any⟩, 
  ⟨(.some 122), .none, (.mv (.t 121)), .any⟩, 
  ⟨(.some 123), (.some (122, false)), (.fad 4 (.t 1)), .any⟩, 
  ⟨(.some 124), (.some (122, false)), (.ld 1 false (.t 123)), .any⟩, 
  ⟨(.some 125), (.some (122, false)), (.mv (.t 3)), .any⟩, 
  ⟨(.some 126), (.some (122, false)), (.ias 2 (.t 124) (.t 125)), .any⟩, 
  ⟨(.some 127), (.some (122, false)), (.fad 1 (.t 126)), .any⟩, 
  ⟨(.some 128), (.some (122, false)), (.ld 1 false (.t 127)), .any⟩, 
  ⟨(.some 129), (.some (122, false)), (.bin .lss (.t 128) (.c (.a (.p (.i .i64 0))))), .any⟩, 
  ⟨(.some 130), .none, (.pick (.t 122) (.c (.a (.p (.b true)))) (.t 129)), .any⟩, 
  ⟨(.some 131), .none, (.mv (.t 130)), .any⟩, 
  ⟨(.some 132), (.some (131, false)), (.fad 4 (.t 1)), .any⟩, 
  ⟨(.some 133), (.some (131, false)), (.ld 1 false (.t 132)), .any⟩, 
  ⟨(.some 134), (.some (131, false)), (.mv (.t 3)), .any⟩, 
  ⟨(.some 135), (.some (131, false)), (.ias 2 (.t 133) (.t 134)), .any⟩, 
  ⟨(.some 136), (.some (131, false)), (.fad 1 (.t 135)), .any⟩, 
  ⟨(.some 137), (.some (131, false)), (.ld 1 false (.t 136)), .any⟩, 
  ⟨(.some 138), (.some (131, false)), (.bin .gtr (.t 137) (.c (.a (.p (.i .i64 8))))), .any⟩, 
  ⟨(.some 139), .none, (.pick (.t 131) (.c (.a (.p (.b true)))) (.t 138)), .any⟩]) (.cond (.t 139) (.seq (.reg [
  ⟨(.some 2), .none, (.mv (.c (.a (.p (.b false))))), .any⟩]) .ret) .skip)) (.seq (.reg [
  ⟨(.some 4), .none, (.mv (.c (.a (.p (.i .i64 0))))), .any⟩]) (.block 2 (.loop F28b1))))) (.reg [
  ⟨(.some 113), .none, (.mv (.t 3)), .any⟩, 
  ⟨(.some 114), .none, (.bin .add (.t 113) (.c (.a (.p (.i .i64 1))))), .any⟩, 
  ⟨(.some 3), .none, (.mv (.t 114)), .any⟩])))
def F28 : FnC := ⟨1, (.seq (.reg [
  ⟨(.some 1), .none, (.box 6 (.t 0)), .any⟩, 
  ⟨(.some 2), .none, (.mv (.c (.a (.p (.b false))))), .any⟩]) (.seq (.seq (.reg [
  ⟨(.some 5), .none, (.fad 0 (.t 1)), .any⟩, 
  ⟨(.some 6), .none, (.ld 1 false (.t 5)), .any⟩, 
  ⟨(.some 7), .none, (.bin .lss (.t 6) (.c (.a (.p (.i .i64 0))))), .any⟩, 
  ⟨(.some 8), .none, (.mv (.t 7)), .any⟩, 
  ⟨(.some 9), (.some (8, false)), (.fad 0 (.t 1)), .any⟩, 
  ⟨(.some 10), (.some (8, false)), (.ld 1 false (.t 9)), .any⟩, 
  ⟨(.some 11), (.some (8, false)), (.bin .gtr (.t 10) (.c (.a (.p (.i .i64 13))))), .any⟩, 
  ⟨(.some 12), .none, (.pick (.t 8) (.c (.a (.p (.b true)))) (.t 11)), .any⟩, 
  ⟨(.some 13), .none, (.mv (.t 12)), .any⟩, 
  ⟨(.some 14), (.some (13, false)), (.fad 1 (.t 1)), .any⟩, 
  ⟨(.some 15), (.some (13, false)), (.ld 1 false (.t 14)), .any⟩, 
  ⟨(.some 16), (.some (13, false)), (.bin .lss (.t 15) (.c (.a (.p (.i .i64 0))))), .any⟩, 
  ⟨(.some 17), .none, (.pick (.t 13) (.c (.a (.p (.b true)))) (.t 16)), .any⟩, 
  ⟨(.some 18), .none, (.mv (.t 17)), .any⟩, 
  ⟨(.some 19), (.some (18, false)), (.fad 1 (.t 1)), .any⟩, 
  ⟨(.some 20), (.some (18, false)), (.ld 1 false (.t 19)), .any⟩, 
  ⟨(.some 21), (.some (18, false)), (.bin .gtr (.t 20) (.c (.a (.p (.i .i64 60))))), .any⟩, 
  ⟨(.some 22), .none, (.pick (.t 18) (.c (.a (.p (.b true)))) (.t 21)), .any⟩, 
  ⟨(.some 23), .none, (.mv (.t 22)), .any⟩, 
  ⟨(.some 24), (.some (23, false)), (.fad 0 (.t 1)), .any⟩, 
  ⟨(.some 25), (.some (23, false)), (.ld 1 false (.t 24)), .any⟩, 
  ⟨(.some 26), (.some (23, false)), (.bin .lss (.t 25) (.c (.a (.p (.i .i64 2))))), .any⟩, 
  ⟨(.some 27), (.some (23, false)), (.mv (.t 26)), .any⟩, 
  ⟨(.some 28), (.some (27, true)), (.fad 1 (.t 1)), .any⟩, 
  ⟨(.some 29), (.some (27, true)), (.ld 1 false (.t 28)), .any⟩, 
  ⟨(.some 30), (.some (27, true)), (.bin .gtr (.t 29) (.c (.a (.p (.i .i64 0))))), .any⟩, 
  ⟨(.some 31), (.some (23, false)), (.pick (.t 27) (.t 30) (.c (.a (.p (.b false))))), .any⟩, 
  ⟨(.some 32), .none, (.pick (.t 23) (.c (.a (.p (.b true)))) (.t 31)), .any⟩]) (.cond (.t 32) (.seq (.reg [
  ⟨(.some 2), .none, (.mv (.c (.a (.p (.b false))))), .any⟩]) .ret) .skip)) (.seq (.seq (.reg [
  ⟨(.some 33), .none, (.fad 3 (.t 1)), .any⟩, 
  ⟨(.some 34), .none, (.ld 1 false (.t 33)), .any⟩, 
  ⟨(.some 35), .none, (.bin .neq (.t 34) (.c (.a (.p (.s []))))), .any⟩, 
  ⟨(.some 36), .none, (.fad 0 (.t 1)), .any⟩, 
  ⟨(.some 37), .none, (.ld 1 false (.t 36)), .any⟩, 
  ⟨(.some 38), .none, (.bin .eql (.t 37) (.c (.a (.p (.i .i64 8))))), .any⟩, 
  ⟨(.some 39), .none, (.mv (.t 38)), .any⟩, 
  ⟨(.some 40), (.some (39, false)), (.fad 0 (.t 1)), .any⟩, 
  ⟨(.some 41), (.some (39, false)), (.ld 1 false (.t 40)), .any⟩, 
  ⟨(.some 42), (.some (39, false)), (.bin .eql (.t 41) (.c (.a (.p (.i .i64 11))))), .any⟩, 
  ⟨(.some 43), .none, (.pick (.t 39) (.c (.a (.p (.b true)))) (.t 42)), .any⟩, 
  ⟨(.some 44), .none, (.mv (.t 43)), .any⟩, 
  ⟨(.some 45), (.some (44, false)), (.fad 0 (.t 1)), .any⟩, 
  ⟨(.some 46), (.some (44, false)), (.ld 1 false (.t 45)), .any⟩, 
  ⟨(.some 47), (.some (44, false)), (.bin .eql (.t 46) (.c (.a (.p (.i .i64 12))))), .any⟩, 
  ⟨(.some 48), .none, (.pick (.t 44) (.c (.a (.p (.b true)))) (.t 47)), .any⟩, 
  ⟨(.some 49), .none, (.eqb true (.t 35) (.t 48)), .any⟩, 
  ⟨(.some 50), .none, (.mv (.t 49)), .any⟩, 
  ⟨(.some 51), (.some (50, false)), (.fad 2 (.t 1)), .any⟩, 
  ⟨(.some 52), (.some (50, false)), (.ld 1 false (.t 51)), .any⟩, 
  ⟨(.some 53), (.some (50, false)), (.bin .neq (.t 52) (.c (.a (.p (.i .i64 0))))), .any⟩, 
  ⟨(.some 54), (.some (50, false)), (.mv (.t 53)), .any⟩, 
  ⟨(.some 55), (.some (54, true)), (.fad 0 (.t 1)), .any⟩, 
  ⟨(.some 56), (.some (54, true)), (.ld 1 false (.t 55)), .any⟩, 
  ⟨(.some 57), (.some (54, true)), (.bin .neq (.t 56) (.c (.a (.p (.i .i64 10))))), .any⟩, 
  ⟨(.some 58), (.some (50, false)), (.pick (.t 54) (.t 57) (.c (.a (.p (.b false))))), .any⟩, 
  ⟨(.some 59), (.some (50, false)), (.mv (.t 58)), .any⟩, 
  ⟨(.some 60), (.some (59, true)), (.fad 0 (.t 1)), .any⟩, 
  ⟨(.some 61), (.some (59, true)), (.ld 1 false (.t 60)), .any⟩, 
  ⟨(.some 62), (.some (59, true)), (.bin .neq (.t 61) (.c (.a (.p (.i .i64 12))))), .any⟩, 
  ⟨(.some 63), (.some (50, false)), (.pick (.t 59) (.t 62) (.c (.a (.p (.b false))))), .any⟩, 
  ⟨(.some 64), .none, (.pick (.t 50) (.c (.a (.p (.b true)))) (.t 63)), .any⟩]) (.cond (.t 64) (.seq (.reg [
  ⟨(.some 2), .none, (.mv (.c (.a (.p (.b false))))), .any⟩]) .ret) .skip)) (.seq (.seq (.reg [
  ⟨(.some 65), .none, (.fad 0 (.t 1)), .any⟩, 
  ⟨(.some 66), .none, (.ld 1 false (.t 65)), .any⟩, 
  ⟨(.some 67), .none, (.bin .eql (.t 66) (.c (.a (.p (.i .i64 8))))), .any⟩, 
  ⟨(.some 68), .none, (.mv (.t 67)), .any⟩, 
  ⟨(.some 69), (.some (68, true)), (.fad 5 (.t 1)), .any⟩, 
  ⟨(.some 70), (.some (68, true)), (.ld 1 false (.t 69)), .any⟩, 
  ⟨(.some 71), (.some (68, true)), (.len false (.t 70)), .any⟩, 
  ⟨(.some 72), (.some (68, true)), (.bin .lss (.t 71) (.c (.a (.p (.i .i64 1))))), .any⟩, 
  ⟨(.some 73), (.some (68, true)), (.mv (.t 72)), .any⟩, 
  ⟨(.some 74), (.some (73, false)), (.fad 5 (.t 1)), .any⟩, 
  ⟨(.some 75), (.some (73, false)), (.ld 1 false (.t 74)), .any⟩, 
  ⟨(.some 76), (.some (73, false)), (.len false (.t 75)), .any⟩, 
  ⟨(.some 77), (.some (73, false)), (.bin .gtr (.t 76) (.c (.a (.p (.i .i64 9))))), .any⟩, 
  ⟨(.some 78), (.some (68, true)), (.pick (.t 73) (.c (.a (.p (.b true)))) (.t 77)), .any⟩, 
  ⟨(.some 79), .none, (.pick (.t 68) (.t 78) (.c (.a (.p (.b false))))), .any⟩, 
  ⟨(.some 80), .none, (.mv (.t 79)), .any⟩, 
  ⟨(.some 81), (.some (80, false)), (.fad 0 (.t 1)), .any⟩, 
  ⟨(.some 82), (.some (80, false)), (.ld 1 false (.t 81)), .any⟩, 
  ⟨(.some 83), (.some (80, false)), (.bin .eql (.t 82) (.c (.a (.p (.i .i64 9))))), .any⟩, 
  ⟨(.some 84), (.some (80, false)), (.mv (.t 83)), .any⟩, 
  ⟨(.some 85), (.some (84, true)), (.fad 4 (.t 1)), .any⟩, 
  ⟨(.some 86), (.some (84, true)), (.ld 1 false (.t 85)), .any⟩, 
  ⟨(.some 87), (.some (84, true)), (.len false (.t 86)), .any⟩, 
  ⟨(.some 88), (.some (84, true)), (.bin .lss (.t 87) (.c (.a (.p (.i .i64 1))))), .any⟩, 
  ⟨(.some 89), (.some (80, false)), (.pick (.t 84) (.t 88) (.c (.a (.p (.b false))))), .any⟩, 
  ⟨(.some 90), .none, (.pick (.t 80) (.c (.a (.p (.b true)))) (.t 89)), .any⟩, 
  ⟨(.some 91), .none, (.mv (.t 90)), .any⟩, 
  ⟨(.some 92), (.some (91, false)), (.fad 0 (.t 1)), .any⟩, 
  ⟨(.some 93), (.some (91, false)), (.ld 1 false (.t 92)), .any⟩, 
  ⟨(.some 94), (.some (91, false)), (.bin .neq (.t 93) (.c (.a (.p (.i .i64 9))))), .any⟩, 
  ⟨(.some 95), (.some (91, false)), (.mv (.t 94)), .any⟩, 
  ⟨(.some 96), (.some (95, true)), (.fad 4 (.t 1)), .any⟩, 
  ⟨(.some 97), (.some (95, true)), (.ld 1 false (.t 96)), .any⟩, 
  ⟨(.some 98), (.some (95, true)), (.len false (.t 97)), .any⟩, 
  ⟨(.some 99), (.some (95, true)), (.bin .gtr (.t 98) (.c (.a (.p (.i .i64 0))))), .any⟩, 
  ⟨(.some 100), (.some (91, false)), (.pick (.t 95) (.t 99) (.c (.a (.p (.b false))))), .any⟩, 
  ⟨(.some 101), .none, (.pick (.t 91) (.c (.a (.p (.b true)))) (.t 100)), .any⟩, 
  ⟨(.some 102), .none, (.mv (.t 101)), .any⟩, 
  ⟨(.some 103), (.some (102, false)), (.fad 4 (.t 1)), .any⟩, 
  ⟨(.some 104), (.some (102, false)), (.ld 1 false (.t 103)), .any⟩, 
  ⟨(.some 105), (.some (102, false)), (.len false (.t 104)), .any⟩, 
  ⟨(.some 106), (.some (102, false)), (.bin .gtr (.t 105) (.c (.a (.p (.i .i64 8))))), .any⟩, 
  ⟨(.some 107), .none, (.pick (.t 102) (.c (.a (.p (.b true)))) (.t 106)), .any⟩]) (.cond (.t 107) (.seq (.reg [
  ⟨(.some 2), .none, (.mv (.c (.a (.p (.b false))))), .any⟩]) .ret) .skip)) (.seq (.seq (.reg [
  ⟨(.some 3), .none, (.mv (.c (.a (.p (.i .i64 0))))), .any⟩]) (.block 0 (.loop F28b0))) (.seq (.reg [
  ⟨(.some 2), .none, (.mv (.c (.a (.p (.b true))))), .any⟩]) .ret)))))), [(.tmp 2)]⟩
theorem cc28 : ccF Try.prog [(26, [0, 0]), (66, [1, 0]), (26, [9])] Try.f28 = some F28 := by kernel_rfl

/- gossamer/store.Make -/
def F29 : FnC := ⟨2, (.seq (.reg [
  ⟨(.some 2), .none, (.box 2 (.t 0)), .any⟩, 
  ⟨(.some 3), .none, (.box 6 (.t 1)), .any⟩, 
  ⟨(.some 4), .none, (.new [.nil, (.p (.i .i64 0))]), .any⟩, 
  ⟨(.some 5), .none, (.mv (.c (.a (.p (.i .i64 0))))), .any⟩, 
  ⟨(.some 6), .none, (.mv (.c (.a (.p (.i .i64 0))))), .any⟩]) (.seq (.block 0 (.seq (.reg [
  ⟨(.some 9), .none, (.fad 0 (.t 3)), .any⟩, 
  ⟨(.some 10), .none, (.ld 1 false (.t 9)), .any⟩, 
  ⟨(.some 11), .none, (.bin .eql (.t 10) (.c (.a (.p (.i .i64 0))))), .any⟩, 
  ⟨(.some 12), .none, (.mv (.t 11)), .any⟩, 
  ⟨(.some 13), (.some (12, false)), (.fad 0 (.t 3)), .any⟩, 
  ⟨(.some 14), (.some (12, false)), (.ld 1 false (.t 13)), .any⟩, 
  ⟨(.some 15), (.some (12, false)), (.bin .eql (.t 14) (.c (.a (.p (.i .i64 1))))), .any⟩, 
  ⟨(.some 16), .none, (.pick (.t 12) (.c (.a (.p (.b true)))) (.t 15)), .any⟩, 
  ⟨(.some 17), .none, (.mv (.t 16)), .any⟩, 
  ⟨(.some 18), (.some (17, false)), (.ld 6 true (.t 3)), .any⟩, 
  ⟨(.some 19), (.some (17, false)), (.call (.f 47) [(.t 18)]), .any⟩, 
  ⟨(.some 20), (.some (17, false)), (.not (.t 19)), .any⟩, 
  ⟨(.some 21), .none, (.pick (.t 17) (.c (.a (.p (.b true)))) (.t 20)), .any⟩, 
  ⟨(.some 8), .none, (.mv (.t 21)), .any⟩]) (.cond (.t 8) (.seq (.reg [
  ⟨(.some 22), .none, (.ld 2 true (.t 2)), .any⟩, 
  ⟨.none, .none, (.st 2 (.t 4) (.t 22)), .any⟩, 
  ⟨(.some 5), .none, (.mv (.c (.a (.p (.i .i64 0))))), .any⟩, 
  ⟨(.some 6), .none, (.mv (.c (.a (.p (.i .i64 122))))), .any⟩]) .ret) (.seq (.reg [
  ⟨(.some 24), .none, (.ld 2 true (.t 2)), .rd⟩, 
  ⟨(.some 25), .none, (.call (.f 31) [(.t 24)]), .rd⟩, 
  ⟨(.some 26), .none, (.fad 1 (.t 2)), .rd⟩, 
  ⟨(.some 27), .none, (.ld 1 false (.t 26)), .rd⟩, 
  ⟨(.some 28), .none, (.bin .geq (.t 25) (.t 27)), .any⟩, 
  ⟨(.some 23), .none, (.mv (.t 28)), .any⟩]) (.cond (.t 23) (.seq (.reg [
  ⟨(.some 29), .none, (.ld 2 true (.t 2)), .any⟩, 
  ⟨.none, .none, (.st 2 (.t 4) (.t 29)), .any⟩, 
  ⟨(.some 5), .none, (.mv (.c (.a (.p (.i .i64 0))))), .any⟩, 
  ⟨(.some 6), .none, (.mv (.c (.a (.p (.i .i64 121))))), .any⟩]) .ret) .skip))))) (.seq (.reg [
  ⟨(.some 30), .none, (.ld 2 true (.t 2)), .any⟩, 
  ⟨(.some 31), .none, (.call (.f 48) [(.t 30)]), .any⟩, 
  ⟨.none, .none, (.st 2 (.t 2) (.t 31)), .any⟩]) (.seq (.reg [
  ⟨(.some 32), .none, (.ld 6 true (.t 3)), .rd⟩, 
  ⟨(.some 33), .none, (.call (.f 37) [(.t 32)]), .rd⟩, 
  ⟨(.some 34), .none, (.mslF 2 26 16 [(.p (.i .i64 0)), (.p (.i .i64 0))] (.t 33) (.t 33)), .ad⟩, 
  ⟨(.some 35), .none, (.fad 4 (.t 3)), .rd⟩, 
  ⟨(.some 36), .none, (.ld 1 false (.t 35)), .rd⟩, 
  ⟨(.some 37), .none, (.call (.f 49) [(.t 36)]), .rd⟩, 
  ⟨(.some 38), .none, (.fad 5 (.t 3)), .rd⟩, 
  ⟨.none, .none, (.st 1 (.t 38) (.t 34)), .any⟩, 
  ⟨(.some 39), .none, (.fad 4 (.t 3)), .any⟩, 
  ⟨.none, .none, (.st 1 (.t 39) (.t 37)), .any⟩]) (.seq (.reg [
  ⟨(.some 40), .none, (.fad 0 (.t 2)), .any⟩, 
  ⟨(.some 41), .none, (.ld 1 false (.t 40)), .any⟩, 
  ⟨(.some 42), .none, (.call (.f 50) [(.t 41), (.f 51)]), .any⟩, 
  ⟨(.some 7), .none, (.mv (.t 42)), .any⟩]) (.seq (.seq (.reg [
  ⟨(.some 43), .none, (.mv (.t 7)), .any⟩, 
  ⟨(.some 44), .none, (.bin .lss (.t 43) (.c (.a (.p (.i .i64 0))))), .any⟩]) (.cond (.t 44) (.seq (.reg [
  ⟨(.some 45), .none, (.fad 0 (.t 2)), .any⟩, 
  ⟨(.some 46), .none, (.ld 1 false (.t 45)), .any⟩, 
  ⟨(.some 47), .none, (.len false (.t 46)), .any⟩, 
  ⟨(.some 7), .none, (.mv (.t 47)), .any⟩]) (.reg [
  ⟨(.some 48), .none, (.fad 0 (.t 2)), .any⟩, 
  ⟨(.some 49), .none, (.ld 1 false (.t 48)), .any⟩, 
  ⟨(.some 50), .none, (.ld 6 true (.t 3)), .any⟩, 
  ⟨(.some 51), .none, (.bsl 6 43 [(.p (.i .i64 0)), (.p (.i .i64 0)), (.p (.i .i64 0)), (.p (.s [])), .nil, .nil] 1 [(0, (.t 50))]), .any⟩, 
  ⟨(.some 52), .none, (.app 6 43 88 (.t 49) (.t 51)), .any⟩, 
  ⟨(.some 53), .none, (.fad 0 (.t 2)), .any⟩, 
  ⟨.none, .none, (.st 1 (.t 53) (.t 52)), .any⟩])) .skip)) (.seq (.reg [
  ⟨(.some 54), .none, (.fad 0 (.t 2)), .any⟩, 
  ⟨(.some 55), .none, (.ld 1 false (.t 54)), .any⟩, 
  ⟨(.some 56), .none, (.mv (.t 7)), .any⟩, 
  ⟨(.some 57), .none, (.ld 6 true (.t 3)), .any⟩, 
  ⟨(.some 58), .none, (.ias 6 (.t 55) (.t 56)), .any⟩, 
  ⟨.none, .none, (.st 6 (.t 58) (.t 57)), .any⟩]) (.seq (.reg [
  ⟨(.some 59), .none, (.ld 2 true (.t 2)), .any⟩, 
  ⟨(.some 60), .none, (.mv (.t 7)), .any⟩, 
  ⟨.none, .none, (.st 2 (.t 4) (.t 59)), .any⟩, 
  ⟨(.some 5), .none, (.mv (.t 60)), .any⟩, 
  ⟨(.some 6), .none, (.mv (.c (.a (.p (.i .i64 0))))), .any⟩]) .ret)))))))), [(.cell 4 2 true), (.tmp 5), (.tmp 6)]⟩
theorem cc29 : ccF Try.prog [(26, [0, 0]), (66, [1, 0]), (26, [9])] Try.f29 = some F29 := by kernel_rfl

/- gossamer/gossamerref12.Used -/
def F30b0 : C := (.seq (.seq (.reg [
  ⟨(.some 5), .none, (.mv (.t 4)), .any⟩, 
  ⟨(.some 6), .none, (.fad 0 (.t 1)), .any⟩, 
  ⟨(.some 7), .none, (.ld 1 false (.t 6)), .any⟩, 
  ⟨(.some 8), .none, (.len false (.t 7)), .any⟩, 
  ⟨(.some 9), .none, (.bin .lss (.t 5) (.t 8)), .any⟩]) (.cond (.t 9) .skip (.exit 0))) (.seq (.block 1 (.seq (.reg [
  ⟨(.some 12), .none, (.fad 0 (.t 1)), .any⟩, 
  ⟨(.some 13), .none, (.ld 1 false (.t 12)), .any⟩, 
  ⟨(.some 14), .none, (.mv (.t 4)), .any⟩, 
  ⟨(.some 15), .none, (.ias 6 (.t 13) (.t 14)), .any⟩, 
  ⟨(.some 16), .none, (.fad 0 (.t 15)), .any⟩, 
  ⟨(.some 17), .none, (.ld 1 false (.t 16)), .any⟩, 
  ⟨(.some 18), .none, (.bin .neq (.t 17) (.c (.a (.p (.i .i64 0))))), .any⟩]) (.cond (.t 18) (.reg [
  ⟨(.some 19), .none, (.mv (.t 3)), .any⟩, 
  ⟨(.some 20), .none, (.bin .add (.t 19) (.c (.a (.p (.i .i64 1))))), .any⟩, 
  ⟨(.some 3), .none, (.mv (.t 20)), .any⟩]) .skip))) (.reg [
  ⟨(.some 10), .none, (.mv (.t 4)), .any⟩, 
  ⟨(.some 11), .none, (.bin .add (.t 10) (.c (.a (.p (.i .i64 1))))), .any⟩, 
  ⟨(.some 4), .none, (.mv (.t 11)), .any⟩])))
def F30 : FnC := ⟨1, (.seq (.reg [
  ⟨(.some 1), .none, (.box 2 (.t 0)), .any⟩, 
  ⟨(.some 2), .none, (.mv (.c (.a (.p (.i .i64 0))))), .any⟩]) (.seq (.reg [
  ⟨(.some 3), .none, (.mv (.c (.a (.p (.i .i64 0))))), .any⟩]) (.seq (.seq (.reg [
  ⟨(.some 4), .none, (.mv (.c (.a (.p (.i .i64 0))))), .any⟩]) (.block 0 (.loop F30b0))) (.seq (.reg [
  ⟨(.some 21), .none, (.mv (.t 3)), .any⟩, 
  ⟨(.some 2), .none, (.mv (.t 21)), .any⟩]) .ret)))), [(.tmp 2)]⟩
theorem cc30 : ccF Try.prog [(26, [0, 0]), (66, [1, 0]), (26, [9])] Try.f30 = some F30 := by kernel_rfl

/- gossamer/store.Used -/
def F31b0 : C := (.seq (.reg [
  ⟨(.some 10), .none, (.bin .lss (.t 9) (.t 8)), .any⟩]) (.seq (.cond (.t 10) .skip (.exit 0)) (.seq (.block 1 (.seq (.reg [
  ⟨(.some 11), .none, (.ias 6 (.t 7) (.t 9)), .any⟩, 
  ⟨(.some 12), .none, (.ld 6 true (.t 11)), .any⟩, 
  ⟨(.some 5), .none, (.new [(.p (.i .i64 0)), (.p (.i .i64 0)), (.p (.i .i64 0)), (.p (.s [])), .nil, .nil]), .any⟩, 
  ⟨.none, .none, (.st 6 (.t 5) (.t 12)), .any⟩]) (.seq (.reg [
  ⟨(.some 13), .none, (.ld 6 true (.t 5)), .any⟩, 
  ⟨(.some 14), .none, (.call (.f 51) [(.t 13)]), .any⟩, 
  ⟨(.some 15), .none, (.not (.t 14)), .any⟩]) (.cond (.t 15) (.reg [
  ⟨(.some 16), .none, (.mv (.t 3)), .any⟩, 
  ⟨(.some 17), .none, (.bin .add (.t 16) (.c (.a (.p (.i .i64 1))))), .any⟩, 
  ⟨(.some 3), .none, (.mv (.t 17)), .any⟩]) .skip)))) (.reg [
  ⟨(.some 18), .none, (.bin .add (.t 9) (.c (.a (.p (.i .i64 1))))), .any⟩, 
  ⟨(.some 9), .none, (.mv (.t 18)), .any⟩]))))
def F31 : FnC := ⟨1, (.seq (.reg [
  ⟨(.some 1), .none, (.box 2 (.t 0)), .any⟩, 
  ⟨(.some 2), .none, (.mv (.c (.a (.p (.i .i64 0))))), .any⟩]) (.seq (.reg [
  ⟨(.some 3), .none, (.mv (.c (.a (.p (.i .i64 0))))), .any⟩]) (.seq (.seq (.reg [
  ⟨(.some 6), .none, (.fad 0 (.t 1)), .any⟩, 
  ⟨(.some 7), .none, (.ld 1 false (.t 6)), .any⟩, 
  ⟨(.some 8), .none, (.len false (.t 7)), .any⟩, 
  ⟨(.some 9), .none, (.mv (.c (.a (.p (.i .i64 0))))), .any⟩]) (.block 0 (.loop F31b0))) (.seq (.reg [
  ⟨(.some 19), .none, (.mv (.t 3)), .any⟩, 
  ⟨(.some 2), .none, (.mv (.t 19)), .any⟩]) .ret)))), [(.tmp 2)]⟩
theorem cc31 : ccF Try.prog [(26, [0, 0]), (66, [1, 0]), (26, [9])] Try.f31 = some F31 := by kernel_rfl

/- gossamer/gossamerref12.One -/
def F32b0 : C := (.seq (.seq (.reg [
  ⟨(.some 51), .none, (.mv (.t 5)), .any⟩, 
  ⟨(.some 52), .none, (.fad 4 (.t 2)), .any⟩, 
  ⟨(.some 53), .none, (.ld 1 false (.t 52)), .any⟩, 
  ⟨(.some 54), .none, (.len false (.t 53)), .any⟩, 
  ⟨(.some 55), .none, (.bin .lss (.t 51) (.t 54)), .any⟩]) (.cond (.t 55) .skip (.exit 0))) (.seq (.block 1 (.seq (.reg [
  ⟨(.some 58), .none, (.fad 4 (.t 2)), .rd⟩, 
  ⟨(.some 59), .none, (.ld 1 false (.t 58)), .rd⟩, 
  ⟨(.some 60), .none, (.mv (.t 5)), .rd⟩, 
  ⟨(.some 61), .none, (.ias 2 (.t 59) (.t 60)), .rd⟩, 
  ⟨(.some 62), .none, (.ld 2 true (.t 61)), .rd⟩, 
  ⟨(.some 63), .none, (.fad 4 (.t 3)), .rd⟩, 
  ⟨(.some 64), .none, (.ld 1 false (.t 63)), .rd⟩, 
  ⟨(.some 65), .none, (.mv (.t 5)), .rd⟩, 
  ⟨(.some 66), .none, (.ias 2 (.t 64) (.t 65)), .rd⟩, 
  ⟨(.some 67), .none, (.ld 2 true (.t 66)), .rd⟩, 
  ⟨(.some 68), .none, (.eqg true [1, 0] (.t 62) (.t 67)), .any⟩]) (.cond (.t 68) (.seq (.reg [
  ⟨(.some 4), .none, (.mv (.c (.a (.p (.b false))))), .any⟩]) .ret) .skip))) (.reg [
  ⟨(.some 56), .none, (.mv (.t 5)), .any⟩, 
  ⟨(.some 57), .none, (.bin .add (.t 56) (.c (.a (.p (.i .i64 1))))), .any⟩, 
  ⟨(.some 5), .none, (.mv (.t 57)), .any⟩])))
def F32b1 : C := (.seq (.seq (.reg [
  ⟨(.some 69), .none, (.mv (.t 6)), .any⟩, 
  ⟨(.some 70), .none, (.fad 5 (.t 2)), .any⟩, 
  ⟨(.some 71), .none, (.ld 1 false (.t 70)), .any⟩, 
  ⟨(.some 72), .none, (.len false (.t 71)), .any⟩, 
  ⟨(.some 73), .none, (.bin .lss (.t 69) (.t 72)), .any⟩]) (.cond (.t 73) .skip (.exit 2))) (.seq (.block 3 (.seq (.reg [
  ⟨(.some 76), .none, (.fad 5 (.t 2)), .rd⟩, 
  ⟨(.some 77), .none, (.ld 1 false (.t 76)), .rd⟩, 
  ⟨(.some 78), .none, (.mv (.t 6)), .rd⟩, 
  ⟨(.some 79), .none, (.ias 2 (.t 77) (.t 78)), .rd⟩, 
  ⟨(.some 80), .none, (.ld 2 true (.t 79)), .rd⟩, 
  ⟨(.some 81), .none, (.fad 5 (.t 3)), .rd⟩, 
  ⟨(.some 82), .none, (.ld 1 false (.t 81)), .rd⟩, 
  ⟨(.some 83), .none, (.mv (.t 6)), .rd⟩, 
  ⟨(.some 84), .none, (.ias 2 (.t 82) (.t 83)), .rd⟩, 
  ⟨(.some 85), .none, (.ld 2 true (.t 84)), .rd⟩, 
  ⟨(.some 86), .none, (.eqg true [0, 0] (.t 80) (.t 85)), .any⟩]) (.cond (.t 86) (.seq (.reg [
  ⟨(.some 4), .none, (.mv (.c (.a (.p (.b false))))), .any⟩]) .ret) .skip))) (.reg [
  ⟨(.some 74), .none, (.mv (.t 6)), .any⟩, 
  ⟨(.some 75), .none, (.bin .add (.t 74) (.c (.a (.p (.i .i64 1))))), .any⟩, 
  ⟨(.some 6), .none, (.mv (.t 75)), .any⟩])))
def F32 : FnC := ⟨2, (.seq (.reg [
  ⟨(.some 2), .none, (.box 6 (.t 0)), .any⟩, 
  ⟨(.some 3), .none, (.box 6 (.t 1)), .any⟩, 
  ⟨(.some 4), .none, (.mv (.c (.a (.p (.b false))))), .any⟩]) (.seq (.seq (.reg [
  ⟨(.some 7), .none, (.fad 0 (.t 2)), .any⟩, 
  ⟨(.some 8), .none, (.ld 1 false (.t 7)), .any⟩, 
  ⟨(.some 9), .none, (.fad 0 (.t 3)), .any⟩, 
  ⟨(.some 10), .none, (.ld 1 false (.t 9)), .any⟩, 
  ⟨(.some 11), .none, (.bin .neq (.t 8) (.t 10)), .any⟩, 
  ⟨(.some 12), .none, (.mv (.t 11)), .any⟩, 
  ⟨(.some 13), (.some (12, false)), (.fad 1 (.t 2)), .any⟩, 
  ⟨(.some 14), (.some (12, false)), (.ld 1 false (.t 13)), .any⟩, 
  ⟨(.some 15), (.some (12, false)), (.fad 1 (.t 3)), .any⟩, 
  ⟨(.some 16), (.some (12, false)), (.ld 1 false (.t 15)), .any⟩, 
  ⟨(.some 17), (.some (12, false)), (.bin .neq (.t 14) (.t 16)), .any⟩, 
  ⟨(.some 18), .none, (.pick (.t 12) (.c (.a (.p (.b true)))) (.t 17)), .any⟩, 
  ⟨(.some 19), .none, (.mv (.t 18)), .any⟩, 
  ⟨(.some 20), (.some (19, false)), (.fad 2 (.t 2)), .any⟩, 
  ⟨(.some 21), (.some (19, false)), (.ld 1 false (.t 20)), .any⟩, 
  ⟨(.some 22), (.some (19, false)), (.fad 2 (.t 3)), .any⟩, 
  ⟨(.some 23), (.some (19, false)), (.ld 1 false (.t 22)), .any⟩, 
  ⟨(.some 24), (.some (19, false)), (.bin .neq (.t 21) (.t 23)), .any⟩, 
  ⟨(.some 25), .none, (.pick (.t 19) (.c (.a (.p (.b true)))) (.t 24)), .any⟩, 
  ⟨(.some 26), .none, (.mv (.t 25)), .any⟩, 
  ⟨(.some 27), (.some (26, false)), (.fad 3 (.t 2)), .any⟩, 
  ⟨(.some 28), (.some (26, false)), (.ld 1 false (.t 27)), .any⟩, 
  ⟨(.some 29), (.some (26, false)), (.fad 3 (.t 3)), .any⟩, 
  ⟨(.some 30), (.some (26, false)), (.ld 1 false (.t 29)), .any⟩, 
  ⟨(.some 31), (.some (26, false)), (.bin .neq (.t 28) (.t 30)), .any⟩, 
  ⟨(.some 32), .none, (.pick (.t 26) (.c (.a (.p (.b true)))) (.t 31)), .any⟩, 
  ⟨(.some 33), .none, (.mv (.t 32)), .any⟩, 
  ⟨(.some 34), (.some (33, false)), (.fad 4 (.t 2)), .any⟩, 
  ⟨(.some 35), (.some (33, false)), (.ld 1 false (.t 34)), .any⟩, 
  ⟨(.some 36), (.some (33, false)), (.len false (.t 35)), .any⟩, 
  ⟨(.some 37), (.some (33, false)), (.fad 4 (.t 3)), .any⟩, 
  ⟨(.some 38), (.some (33, false)), (.ld 1 false (.t 37)), .any⟩, 
  ⟨(.some 39), (.some (33, false)), (.len false (.t 38)), .any⟩, 
  ⟨(.some 40), (.some (33, false)), (.bin .neq (.t 36) (.t 39)), .any⟩, 
  ⟨(.some 41), .none, (.pick (.t 33) (.c (.a (.p (.b true)))) (.t 40)), .any⟩, 
  ⟨(.some 42), .none, (.mv (.t 41)), .any⟩, 
  ⟨(.some 43), (.some (42, false)), (.fad 5 (.t 2)), .any⟩, 
  ⟨(.some 44), (.some (42, false)), (.ld 1 false (.t 43)), .any⟩, 
  ⟨(.some 45), (.some (42, false)), (.len false (.t 44)), .any⟩, 
  ⟨(.some 46), (.some (42, false)), (.fad 5 (.t 3)), .any⟩, 
  ⟨(.some 47), (.some (42, false)), (.ld 1 false (.t 46)), .any⟩, 
  ⟨(.some 48), (.some (42, false)), (.len false (.t 47)), .any⟩, 
  ⟨(.some 49), (.some (42, false)), (.bin .neq (.t 45) (.t 48)), .any⟩, 
  ⟨(.some 50), .none, (.pick (.t 42) (.c (.a (.p (.b true)))) (.t 49)), .any⟩]) (.cond (.t 50) (.seq (.reg [
  ⟨(.some 4), .none, (.mv (.c (.a (.p (.b false))))), .any⟩]) .ret) .skip)) (.seq (.seq (.reg [
  ⟨(.some 5), .none, (.mv (.c (.a (.p (.i .i64 0))))), .any⟩]) (.block 0 (.loop F32b0))) (.seq (.seq (.reg [
  ⟨(.some 6), .none, (.mv (.c (.a (.p (.i .i64 0))))), .any⟩]) (.block 2 (.loop F32b1))) (.seq (.reg [
  ⟨(.some 4), .none, (.mv (.c (.a (.p (.b true))))), .any⟩]) .ret))))), [(.tmp 4)]⟩
theorem cc32 : ccF Try.prog [(26, [0, 0]), (66, [1, 0]), (26, [9])] Try.f32 = some F32 := by kernel_rfl

/- gossamer/store.Free -/
def F33b0 : C := (.seq (.seq (.reg [
  ⟨(.some 29), .none, (.fad 0 (.t 2)), .any⟩, 
  ⟨(.some 30), .none, (.ld 1 false (.t 29)), .any⟩, 
  ⟨(.some 31), .none, (.len false (.t 30)), .any⟩, 
  ⟨(.some 32), .none, (.bin .gtr (.t 31) (.c (.a (.p (.i .i64 0))))), .any⟩, 
  ⟨(.some 33), .none, (.mv (.t 32)), .any⟩, 
  ⟨(.some 34), (.some (33, true)), (.fad 0 (.t 2)), .any⟩, 
  ⟨(.some 35), (.some (33, true)), (.ld 1 false (.t 34)), .any⟩, 
  ⟨(.some 36), (.some (33, true)), (.fad 0 (.t 2)), .any⟩, 
  ⟨(.some 37), (.some (33, true)), (.ld 1 false (.t 36)), .any⟩, 
  ⟨(.some 38), (.some (33, true)), (.len false (.t 37)), .any⟩, 
  ⟨(.some 39), (.some (33, true)), (.bin .sub (.t 38) (.c (.a (.p (.i .i64 1))))), .any⟩, 
  ⟨(.some 40), (.some (33, true)), (.ias 6 (.t 35) (.t 39)), .any⟩, 
  ⟨(.some 41), (.some (33, true)), (.ld 6 true (.t 40)), .any⟩, 
  ⟨(.some 42), (.some (33, true)), (.call (.f 51) [(.t 41)]), .any⟩, 
  ⟨(.some 43), .none, (.pick (.t 33) (.t 42) (.c (.a (.p (.b false))))), .any⟩]) (.cond (.t 43) .skip (.exit 0))) (.block 1 (.reg [
  ⟨(.some 44), .none, (.fad 0 (.t 2)), .any⟩, 
  ⟨(.some 45), .none, (.ld 1 false (.t 44)), .any⟩, 
  ⟨(.some 46), .none, (.fad 0 (.t 2)), .any⟩, 
  ⟨(.some 47), .none, (.ld 1 false (.t 46)), .any⟩, 
  ⟨(.some 48), .none, (.len false (.t 47)), .any⟩, 
  ⟨(.some 49), .none, (.bin .sub (.t 48) (.c (.a (.p (.i .i64 1))))), .any⟩, 
  ⟨(.some 50), .none, (.slc 6 43 (.t 45) .none (.some (.t 49)) .none), .any⟩, 
  ⟨(.some 51), .none, (.fad 0 (.t 2)), .any⟩, 
  ⟨.none, .none, (.st 1 (.t 51) (.t 50)), .any⟩])))
def F33 : FnC := ⟨2, (.seq (.reg [
  ⟨(.some 2), .none, (.box 2 (.t 0)), .any⟩, 
  ⟨(.some 4), .none, (.new [.nil, (.p (.i .i64 0))]), .any⟩, 
  ⟨(.some 5), .none, (.mv (.c (.a (.p (.i .i64 0))))), .any⟩]) (.seq (.seq (.reg [
  ⟨(.some 6), .none, (.mv (.t 1)), .any⟩, 
  ⟨(.some 7), .none, (.fad 0 (.t 2)), .any⟩, 
  ⟨(.some 8), .none, (.ld 1 false (.t 7)), .any⟩, 
  ⟨(.some 9), .none, (.len false (.t 8)), .any⟩, 
  ⟨(.some 10), .none, (.bin .sub (.t 9) (.c (.a (.p (.i .i64 1))))), .any⟩, 
  ⟨(.some 11), .none, (.call (.f 52) [(.t 6), (.c (.a (.p (.i .i64 0)))), (.t 10)]), .any⟩, 
  ⟨(.some 12), .none, (.not (.t 11)), .any⟩, 
  ⟨(.some 13), .none, (.mv (.t 12)), .any⟩, 
  ⟨(.some 14), (.some (13, false)), (.fad 0 (.t 2)), .any⟩, 
  ⟨(.some 15), (.some (13, false)), (.ld 1 false (.t 14)), .any⟩, 
  ⟨(.some 16), (.some (13, false)), (.mv (.t 1)), .any⟩, 
  ⟨(.some 17), (.some (13, false)), (.ias 6 (.t 15) (.t 16)), .any⟩, 
  ⟨(.some 18), (.some (13, false)), (.ld 6 true (.t 17)), .any⟩, 
  ⟨(.some 19), (.some (13, false)), (.call (.f 51) [(.t 18)]), .any⟩, 
  ⟨(.some 20), .none, (.pick (.t 13) (.c (.a (.p (.b true)))) (.t 19)), .any⟩]) (.cond (.t 20) (.seq (.reg [
  ⟨(.some 21), .none, (.ld 2 true (.t 2)), .any⟩, 
  ⟨.none, .none, (.st 2 (.t 4) (.t 21)), .any⟩, 
  ⟨(.some 5), .none, (.mv (.c (.a (.p (.i .i64 122))))), .any⟩]) .ret) .skip)) (.seq (.reg [
  ⟨(.some 22), .none, (.ld 2 true (.t 2)), .any⟩, 
  ⟨(.some 23), .none, (.call (.f 48) [(.t 22)]), .any⟩, 
  ⟨.none, .none, (.st 2 (.t 2) (.t 23)), .any⟩]) (.seq (.reg [
  ⟨(.some 24), .none, (.fad 0 (.t 2)), .any⟩, 
  ⟨(.some 25), .none, (.ld 1 false (.t 24)), .any⟩, 
  ⟨(.some 26), .none, (.mv (.t 1)), .any⟩, 
  ⟨(.some 27), .none, (.build [(.p (.i .i64 0)), (.p (.i .i64 0)), (.p (.i .i64 0)), (.p (.s [])), .nil, .nil] []), .any⟩, 
  ⟨(.some 28), .none, (.ias 6 (.t 25) (.t 26)), .any⟩, 
  ⟨.none, .none, (.st 6 (.t 28) (.t 27)), .any⟩]) (.seq (.block 0 (.loop F33b0)) (.seq (.reg [
  ⟨(.some 52), .none, (.ld 2 true (.t 2)), .any⟩, 
  ⟨.none, .none, (.st 2 (.t 4) (.t 52)), .any⟩, 
  ⟨(.some 5), .none, (.mv (.c (.a (.p (.i .i64 0))))), .any⟩]) .ret)))))), [(.cell 4 2 true), (.tmp 5)]⟩
theorem cc33 : ccF Try.prog [(26, [0, 0]), (66, [1, 0]), (26, [9])] Try.f33 = some F33 := by kernel_rfl

/- gossamer/store.New -/
def F34 : FnC := ⟨1, (.seq (.reg [
  ⟨(.some 2), .none, (.new [.nil, (.p (.i .i64 0))]), .any⟩, 
  ⟨(.some 3), .none, (.mv (.c (.a (.p (.i .i64 0))))), .any⟩]) (.seq (.seq (.reg [
  ⟨(.some 6), .none, (.mv (.t 0)), .any⟩, 
  ⟨(.some 7), .none, (.call (.f 52) [(.t 6), (.c (.a (.p (.i .i64 2)))), (.c (.a (.p (.i .i64 4000))))]), .any⟩, 
  ⟨(.some 8), .none, (.not (.t 7)), .any⟩]) (.cond (.t 8) (.seq (.reg [
  ⟨(.some 9), .none, (.build [.nil, (.p (.i .i64 0))] []), .any⟩, 
  ⟨.none, .none, (.st 2 (.t 2) (.t 9)), .any⟩, 
  ⟨(.some 3), .none, (.mv (.c (.a (.p (.i .i64 1))))), .any⟩]) .ret) .skip)) (.seq (.reg [
  ⟨(.some 10), .none, (.build [(.p (.i .i64 0)), (.p (.i .i64 0))] [(0, (1, (.c (.a (.p (.i .i64 1))))))]), .any⟩, 
  ⟨(.some 11), .none, (.bsl 2 26 [(.p (.i .i64 0)), (.p (.i .i64 0))] 1 [(0, (.t 10))]), .any⟩, 
  ⟨(.some 12), .none, (.build [(.p (.i .i64 0)), (.p (.i .i64 0)), (.p (.i .i64 0)), (.p (.s [])), .nil, .nil] [(0, (1, (.c (.a (.p (.i .i64 1)))))), (5, (1, (.t 11)))]), .any⟩, 
  ⟨(.some 4), .none, (.new [(.p (.i .i64 0)), (.p (.i .i64 0)), (.p (.i .i64 0)), (.p (.s [])), .nil, .nil]), .any⟩, 
  ⟨.none, .none, (.st 6 (.t 4) (.t 12)), .any⟩]) (.seq (.reg [
  ⟨(.some 13), .none, (.build [(.p (.i .i64 0)), (.p (.i .i64 0))] []), .any⟩, 
  ⟨(.some 14), .none, (.bsl 2 26 [(.p (.i .i64 0)), (.p (.i .i64 0))] 1 [(0, (.t 13))]), .any⟩, 
  ⟨(.some 15), .none, (.build [(.p (.i .i64 0)), (.p (.i .i64 0)), (.p (.i .i64 0)), (.p (.s [])), .nil, .nil] [(0, (1, (.c (.a (.p (.i .i64 13)))))), (5, (1, (.t 14)))]), .any⟩, 
  ⟨(.some 5), .none, (.new [(.p (.i .i64 0)), (.p (.i .i64 0)), (.p (.i .i64 0)), (.p (.s [])), .nil, .nil]), .any⟩, 
  ⟨.none, .none, (.st 6 (.t 5) (.t 15)), .any⟩]) (.seq (.reg [
  ⟨(.some 16), .none, (.mv (.t 0)), .any⟩, 
  ⟨(.some 17), .none, (.ld 6 true (.t 4)), .any⟩, 
  ⟨(.some 18), .none, (.ld 6 true (.t 5)), .any⟩, 
  ⟨(.some 19), .none, (.bsl 6 43 [(.p (.i .i64 0)), (.p (.i .i64 0)), (.p (.i .i64 0)), (.p (.s [])), .nil, .nil] 2 [(0, (.t 17)), (1, (.t 18))]), .any⟩, 
  ⟨(.some 20), .none, (.build [.nil, (.p (.i .i64 0))] [(1, (1, (.t 16))), (0, (1, (.t 19)))]), .any⟩, 
  ⟨.none, .none, (.st 2 (.t 2) (.t 20)), .any⟩, 
  ⟨(.some 3), .none, (.mv (.c (.a (.p (.i .i64 0))))), .any⟩]) .ret))))), [(.cell 2 2 true), (.tmp 3)]⟩
theorem cc34 : ccF Try.prog [(26, [0, 0]), (66, [1, 0]), (26, [9])] Try.f34 = some F34 := by kernel_rfl

/- gossamer/store.Check -/
def F35b1 : C := (.seq (.reg [
  ⟨(.some 63), .none, (.bin .lss (.t 62) (.t 61)), .any⟩]) (.seq (.cond (.t 63) .skip (.exit 2)) (.seq (.block 3 (.seq (.reg [
  ⟨(.some 64), .none, (.mv (.t 62)), .any⟩, 
  ⟨(.some 6), .none, (.mv (.t 64)), .any⟩]) (.seq (.reg [
  ⟨(.some 65), .none, (.ld 2 true (.t 1)), .any⟩, 
  ⟨(.some 66), .none, (.mv (.t 4)), .any⟩, 
  ⟨(.some 67), .none, (.mv (.t 6)), .any⟩, 
  ⟨(.some 68), .none, (.build [(.p (.i .i64 0)), (.p (.i .i64 0))] [(0, (1, (.t 66))), (1, (1, (.t 67)))]), .any⟩, 
  ⟨(.some 69), .none, (.call (.f 53) [(.t 65), (.t 68)]), .any⟩, 
  ⟨(.some 70), .none, (.not (.t 69)), .any⟩]) (.cond (.t 70) (.seq (.reg [
  ⟨(.some 2), .none, (.mv (.c (.a (.p (.i .i64 120))))), .any⟩]) .ret) .skip)))) (.reg [
  ⟨(.some 71), .none, (.bin .add (.t 62) (.c (.a (.p (.i .i64 1))))), .any⟩, 
  ⟨(.some 62), .none, (.mv (.t 71)), .any⟩]))))
def F35b0 : C := (.seq (.reg [
  ⟨(.some 36), .none, (.bin .lss (.t 35) (.t 34)), .any⟩]) (.seq (.cond (.t 36) .skip (.exit 0)) (.seq (.block 1 (.seq (.reg [
  ⟨(.some 37), .none, (.mv (.t 35)), .any⟩, 
  ⟨(.some 38), .none, (.ias 6 (.t 33) (.t 35)), .any⟩, 
  ⟨(.some 39), .none, (.ld 6 true (.t 38)), .any⟩, 
  ⟨(.some 5), .none, (.new [(.p (.i .i64 0)), (.p (.i .i64 0)), (.p (.i .i64 0)), (.p (.s [])), .nil, .nil]), .any⟩, 
  ⟨(.some 4), .none, (.mv (.t 37)), .any⟩, 
  ⟨.none, .none, (.st 6 (.t 5) (.t 39)), .any⟩]) (.seq (.seq (.reg [
  ⟨(.some 40), .none, (.ld 6 true (.t 5)), .any⟩, 
  ⟨(.some 41), .none, (.call (.f 47) [(.t 40)]), .any⟩, 
  ⟨(.some 42), .none, (.not (.t 41)), .any⟩, 
  ⟨(.some 43), .none, (.mv (.t 42)), .any⟩, 
  ⟨(.some 44), (.some (43, false)), (.fad 5 (.t 5)), .rd⟩, 
  ⟨(.some 45), (.some (43, false)), (.ld 1 false (.t 44)), .rd⟩, 
  ⟨(.some 46), (.some (43, false)), (.len false (.t 45)), .rd⟩, 
  ⟨(.some 47), (.some (43, false)), (.ld 6 true (.t 5)), .rd⟩, 
  ⟨(.some 48), (.some (43, false)), (.call (.f 37) [(.t 47)]), .rd⟩, 
  ⟨(.some 49), (.some (43, false)), (.bin .neq (.t 46) (.t 48)), .any⟩, 
  ⟨(.some 50), .none, (.pick (.t 43) (.c (.a (.p (.b true)))) (.t 49)), .any⟩, 
  ⟨(.some 51), .none, (.mv (.t 50)), .any⟩, 
  ⟨(.some 52), (.some (51, false)), (.fad 0 (.t 5)), .rd⟩, 
  ⟨(.some 53), (.some (51, false)), (.ld 1 false (.t 52)), .rd⟩, 
  ⟨(.some 54), (.some (51, false)), (.bin .eql (.t 53) (.c (.a (.p (.i .i64 1))))), .rd⟩, 
  ⟨(.some 55), (.some (51, false)), (.mv (.t 4)), .rd⟩, 
  ⟨(.some 56), (.some (51, false)), (.bin .eql (.t 55) (.c (.a (.p (.i .i64 0))))), .rd⟩, 
  ⟨(.some 57), (.some (51, false)), (.eqb true (.t 54) (.t 56)), .any⟩, 
  ⟨(.some 58), .none, (.pick (.t 51) (.c (.a (.p (.b true)))) (.t 57)), .any⟩]) (.cond (.t 58) (.seq (.reg [
  ⟨(.some 2), .none, (.mv (.c (.a (.p (.i .i64 120))))), .any⟩]) .ret) .skip)) (.seq (.reg [
  ⟨(.some 59), .none, (.fad 5 (.t 5)), .any⟩, 
  ⟨(.some 60), .none, (.ld 1 false (.t 59)), .any⟩, 
  ⟨(.some 61), .none, (.len false (.t 60)), .any⟩, 
  ⟨(.some 62), .none, (.mv (.c (.a (.p (.i .i64 0))))), .any⟩]) (.block 2 (.loop F35b1)))))) (.reg [
  ⟨(.some 72), .none, (.bin .add (.t 35) (.c (.a (.p (.i .i64 1))))), .any⟩, 
  ⟨(.some 35), .none, (.mv (.t 72)), .any⟩]))))
def F35 : FnC := ⟨1, (.seq (.reg [
  ⟨(.some 1), .none, (.box 2 (.t 0)), .any⟩, 
  ⟨(.some 2), .none, (.mv (.c (.a (.p (.i .i64 0))))), .any⟩]) (.seq (.reg [
  ⟨(.some 7), .none, (.fad 0 (.t 1)), .any⟩, 
  ⟨(.some 8), .none, (.ld 1 false (.t 7)), .any⟩, 
  ⟨(.some 9), .none, (.len false (.t 8)), .any⟩, 
  ⟨(.some 10), .none, (.bin .sub (.t 9) (.c (.a (.p (.i .i64 1))))), .any⟩, 
  ⟨(.some 3), .none, (.mv (.t 10)), .any⟩]) (.seq (.seq (.reg [
  ⟨(.some 11), .none, (.fad 1 (.t 1)), .any⟩, 
  ⟨(.some 12), .none, (.ld 1 false (.t 11)), .any⟩, 
  ⟨(.some 13), .none, (.call (.f 52) [(.t 12), (.c (.a (.p (.i .i64 1)))), (.c (.a (.p (.i .i64 4000))))]), .any⟩, 
  ⟨(.some 14), .none, (.not (.t 13)), .any⟩, 
  ⟨(.some 15), .none, (.mv (.t 14)), .any⟩, 
  ⟨(.some 16), (.some (15, false)), (.mv (.t 3)), .any⟩, 
  ⟨(.some 17), (.some (15, false)), (.bin .add (.t 16) (.c (.a (.p (.i .i64 1))))), .any⟩, 
  ⟨(.some 18), (.some (15, false)), (.fad 1 (.t 1)), .any⟩, 
  ⟨(.some 19), (.some (15, false)), (.ld 1 false (.t 18)), .any⟩, 
  ⟨(.some 20), (.some (15, false)), (.call (.f 52) [(.t 17), (.c (.a (.p (.i .i64 1)))), (.t 19)]), .any⟩, 
  ⟨(.some 21), (.some (15, false)), (.not (.t 20)), .any⟩, 
  ⟨(.some 22), .none, (.pick (.t 15) (.c (.a (.p (.b true)))) (.t 21)), .any⟩, 
  ⟨(.some 23), .none, (.mv (.t 22)), .any⟩, 
  ⟨(.some 24), (.some (23, false)), (.fad 0 (.t 1)), .any⟩, 
  ⟨(.some 25), (.some (23, false)), (.ld 1 false (.t 24)), .any⟩, 
  ⟨(.some 26), (.some (23, false)), (.mv (.t 3)), .any⟩, 
  ⟨(.some 27), (.some (23, false)), (.ias 6 (.t 25) (.t 26)), .any⟩, 
  ⟨(.some 28), (.some (23, false)), (.fad 0 (.t 27)), .any⟩, 
  ⟨(.some 29), (.some (23, false)), (.ld 1 false (.t 28)), .any⟩, 
  ⟨(.some 30), (.some (23, false)), (.bin .eql (.t 29) (.c (.a (.p (.i .i64 0))))), .any⟩, 
  ⟨(.some 31), .none, (.pick (.t 23) (.c (.a (.p (.b true)))) (.t 30)), .any⟩]) (.cond (.t 31) (.seq (.reg [
  ⟨(.some 2), .none, (.mv (.c (.a (.p (.i .i64 120))))), .any⟩]) .ret) .skip)) (.seq (.seq (.reg [
  ⟨(.some 32), .none, (.fad 0 (.t 1)), .any⟩, 
  ⟨(.some 33), .none, (.ld 1 false (.t 32)), .any⟩, 
  ⟨(.some 34), .none, (.len false (.t 33)), .any⟩, 
  ⟨(.some 35), .none, (.mv (.c (.a (.p (.i .i64 0))))), .any⟩]) (.block 0 (.loop F35b0))) (.seq (.reg [
  ⟨(.some 2), .none, (.mv (.c (.a (.p (.i .i64 0))))), .any⟩]) .ret))))), [(.tmp 2)]⟩
theorem cc35 : ccF Try.prog [(26, [0, 0]), (66, [1, 0]), (26, [9])] Try.f35 = some F35 := by kernel_rfl

/- gossamer/gossamerref12.Copy -/
def F36b0 : C := (.seq (.seq (.reg [
  ⟨(.some 8), .none, (.mv (.t 4)), .any⟩, 
  ⟨(.some 9), .none, (.fad 0 (.t 1)), .any⟩, 
  ⟨(.some 10), .none, (.ld 1 false (.t 9)), .any⟩, 
  ⟨(.some 11), .none, (.len false (.t 10)), .any⟩, 
  ⟨(.some 12), .none, (.bin .lss (.t 8) (.t 11)), .any⟩]) (.cond (.t 12) .skip (.exit 0))) (.seq (.block 1 (.reg [
  ⟨(.some 15), .none, (.fad 0 (.t 3)), .rd⟩, 
  ⟨(.some 16), .none, (.ld 1 false (.t 15)), .rd⟩, 
  ⟨(.some 17), .none, (.fad 0 (.t 1)), .rd⟩, 
  ⟨(.some 18), .none, (.ld 1 false (.t 17)), .rd⟩, 
  ⟨(.some 19), .none, (.mv (.t 4)), .rd⟩, 
  ⟨(.some 20), .none, (.ias 6 (.t 18) (.t 19)), .rd⟩, 
  ⟨(.some 21), .none, (.ld 6 true (.t 20)), .rd⟩, 
  ⟨(.some 22), .none, (.bsl 6 43 [(.p (.i .i64 0)), (.p (.i .i64 0)), (.p (.i .i64 0)), (.p (.s [])), .nil, .nil] 1 [(0, (.t 21))]), .ad⟩, 
  ⟨(.some 23), .none, (.app 6 43 88 (.t 16) (.t 22)), .any⟩, 
  ⟨(.some 24), .none, (.fad 0 (.t 3)), .any⟩, 
  ⟨.none, .none, (.st 1 (.t 24) (.t 23)), .any⟩])) (.reg [
  ⟨(.some 13), .none, (.mv (.t 4)), .any⟩, 
  ⟨(.some 14), .none, (.bin .add (.t 13) (.c (.a (.p (.i .i64 1))))), .any⟩, 
  ⟨(.some 4), .none, (.mv (.t 14)), .any⟩])))
def F36 : FnC := ⟨1, (.seq (.reg [
  ⟨(.some 1), .none, (.box 2 (.t 0)), .any⟩, 
  ⟨(.some 2), .none, (.new [.nil, (.p (.i .i64 0))]), .any⟩]) (.seq (.reg [
  ⟨(.some 5), .none, (.fad 1 (.t 1)), .any⟩, 
  ⟨(.some 6), .none, (.ld 1 false (.t 5)), .any⟩, 
  ⟨(.some 7), .none, (.build [.nil, (.p (.i .i64 0))] [(1, (1, (.t 6)))]), .any⟩, 
  ⟨(.some 3), .none, (.new [.nil, (.p (.i .i64 0))]), .any⟩, 
  ⟨.none, .none, (.st 2 (.t 3) (.t 7)), .any⟩]) (.seq (.seq (.reg [
  ⟨(.some 4), .none, (.mv (.c (.a (.p (.i .i64 0))))), .any⟩]) (.block 0 (.loop F36b0))) (.seq (.reg [
  ⟨(.some 25), .none, (.ld 2 true (.t 3)), .any⟩, 
  ⟨.none, .none, (.st 2 (.t 2) (.t 25)), .any⟩]) .ret)))), [(.cell 2 2 true)]⟩
theorem cc36 : ccF Try.prog [(26, [0, 0]), (66, [1, 0]), (26, [9])] Try.f36 = some F36 := by kernel_rfl

/- gossamer/store.Ports -/
def F37 : FnC := ⟨1, (.seq (.reg [
  ⟨(.some 1), .none, (.box 6 (.t 0)), .any⟩, 
  ⟨(.some 2), .none, (.mv (.c (.a (.p (.i .i64 0))))), .any⟩]) (.seq (.block 0 (.seq (.reg [
  ⟨(.some 4), .none, (.fad 0 (.t 1)), .any⟩, 
  ⟨(.some 5), .none, (.ld 1 false (.t 4)), .any⟩, 
  ⟨(.some 6), .none, (.bin .eql (.t 5) (.c (.a (.p (.i .i64 8))))), .any⟩, 
  ⟨(.some 3), .none, (.mv (.t 6)), .any⟩]) (.cond (.t 3) (.seq (.reg [
  ⟨(.some 7), .none, (.fad 5 (.t 1)), .any⟩, 
  ⟨(.some 8), .none, (.ld 1 false (.t 7)), .any⟩, 
  ⟨(.some 9), .none, (.len false (.t 8)), .any⟩, 
  ⟨(.some 2), .none, (.mv (.t 9)), .any⟩]) .ret) (.seq (.reg [
  ⟨(.some 11), .none, (.fad 0 (.t 1)), .any⟩, 
  ⟨(.some 12), .none, (.ld 1 false (.t 11)), .any⟩, 
  ⟨(.some 13), .none, (.bin .eql (.t 12) (.c (.a (.p (.i .i64 9))))), .any⟩, 
  ⟨(.some 10), .none, (.mv (.t 13)), .any⟩]) (.cond (.t 10) (.seq (.reg [
  ⟨(.some 14), .none, (.fad 4 (.t 1)), .any⟩, 
  ⟨(.some 15), .none, (.ld 1 false (.t 14)), .any⟩, 
  ⟨(.some 16), .none, (.len false (.t 15)), .any⟩, 
  ⟨(.some 17), .none, (.bin .add (.c (.a (.p (.i .i64 2)))) (.t 16)), .any⟩, 
  ⟨(.some 2), .none, (.mv (.t 17)), .any⟩]) .ret) (.seq (.reg [
  ⟨(.some 19), .none, (.fad 0 (.t 1)), .any⟩, 
  ⟨(.some 20), .none, (.ld 1 false (.t 19)), .any⟩, 
  ⟨(.some 21), .none, (.call (.f 52) [(.t 20), (.c (.a (.p (.i .i64 0)))), (.c (.a (.p (.i .i64 13))))]), .any⟩, 
  ⟨(.some 18), .none, (.mv (.t 21)), .any⟩]) (.cond (.t 18) (.seq (.reg [
  ⟨(.some 22), .none, (.call (.f 54) []), .rd⟩, 
  ⟨(.some 23), .none, (.fad 0 (.t 1)), .rd⟩, 
  ⟨(.some 24), .none, (.ld 1 false (.t 23)), .rd⟩, 
  ⟨(.some 25), .none, (.ixa 14 1 false (.t 22) (.t 24)), .any⟩, 
  ⟨(.some 2), .none, (.mv (.t 25)), .any⟩]) .ret) .skip))))))) (.seq (.reg [
  ⟨(.some 2), .none, (.mv (.c (.a (.p (.i .i64 0))))), .any⟩]) .ret))), [(.tmp 2)]⟩
theorem cc37 : ccF Try.prog [(26, [0, 0]), (66, [1, 0]), (26, [9])] Try.f37 = some F37 := by kernel_rfl

/- gossamer/gossamerref12.New -/
def F38 : FnC := ⟨1, (.seq (.reg [
  ⟨(.some 2), .none, (.new [.nil, (.p (.i .i64 0))]), .any⟩, 
  ⟨(.some 3), .none, (.mv (.c (.a (.p (.i .i64 0))))), .any⟩]) (.seq (.seq (.reg [
  ⟨(.some 4), .none, (.mv (.t 0)), .any⟩, 
  ⟨(.some 5), .none, (.bin .lss (.t 4) (.c (.a (.p (.i .i64 2))))), .any⟩, 
  ⟨(.some 6), .none, (.mv (.t 5)), .any⟩, 
  ⟨(.some 7), (.some (6, false)), (.mv (.t 0)), .any⟩, 
  ⟨(.some 8), (.some (6, false)), (.bin .gtr (.t 7) (.c (.a (.p (.i .i64 4000))))), .any⟩, 
  ⟨(.some 9), .none, (.pick (.t 6) (.c (.a (.p (.b true)))) (.t 8)), .any⟩]) (.cond (.t 9) (.seq (.reg [
  ⟨(.some 10), .none, (.build [.nil, (.p (.i .i64 0))] []), .any⟩, 
  ⟨.none, .none, (.st 2 (.t 2) (.t 10)), .any⟩, 
  ⟨(.some 3), .none, (.mv (.c (.a (.p (.i .i64 1))))), .any⟩]) .ret) .skip)) (.seq (.reg [
  ⟨(.some 11), .none, (.mv (.t 0)), .any⟩, 
  ⟨(.some 12), .none, (.build [(.p (.i .i64 0)), (.p (.i .i64 0))] [(0, (1, (.c (.a (.p (.i .i64 1))))))]), .any⟩, 
  ⟨(.some 13), .none, (.bsl 2 26 [(.p (.i .i64 0)), (.p (.i .i64 0))] 1 [(0, (.t 12))]), .any⟩, 
  ⟨(.some 14), .none, (.build [(.p (.i .i64 0)), (.p (.i .i64 0)), (.p (.i .i64 0)), (.p (.s [])), .nil, .nil] [(0, (1, (.c (.a (.p (.i .i64 1)))))), (5, (1, (.t 13)))]), .any⟩, 
  ⟨(.some 15), .none, (.build [(.p (.i .i64 0)), (.p (.i .i64 0))] []), .any⟩, 
  ⟨(.some 16), .none, (.bsl 2 26 [(.p (.i .i64 0)), (.p (.i .i64 0))] 1 [(0, (.t 15))]), .any⟩, 
  ⟨(.some 17), .none, (.build [(.p (.i .i64 0)), (.p (.i .i64 0)), (.p (.i .i64 0)), (.p (.s [])), .nil, .nil] [(0, (1, (.c (.a (.p (.i .i64 13)))))), (5, (1, (.t 16)))]), .any⟩, 
  ⟨(.some 18), .none, (.bsl 6 43 [(.p (.i .i64 0)), (.p (.i .i64 0)), (.p (.i .i64 0)), (.p (.s [])), .nil, .nil] 2 [(0, (.t 14)), (1, (.t 17))]), .any⟩, 
  ⟨(.some 19), .none, (.build [.nil, (.p (.i .i64 0))] [(1, (1, (.t 11))), (0, (1, (.t 18)))]), .any⟩, 
  ⟨.none, .none, (.st 2 (.t 2) (.t 19)), .any⟩, 
  ⟨(.some 3), .none, (.mv (.c (.a (.p (.i .i64 0))))), .any⟩]) .ret))), [(.cell 2 2 true), (.tmp 3)]⟩
theorem cc38 : ccF Try.prog [(26, [0, 0]), (66, [1, 0]), (26, [9])] Try.f38 = some F38 := by kernel_rfl

/- gossamer/gossamerref12.Make -/
def F39b0 : C := (.seq (.seq (.reg [
  ⟨(.some 35), .none, (.mv (.t 8)), .any⟩, 
  ⟨(.some 36), .none, (.fad 0 (.t 7)), .any⟩, 
  ⟨(.some 37), .none, (.ld 1 false (.t 36)), .any⟩, 
  ⟨(.some 38), .none, (.len false (.t 37)), .any⟩, 
  ⟨(.some 39), .none, (.bin .lss (.t 35) (.t 38)), .any⟩]) (.cond (.t 39) .skip (.exit 0))) (.seq (.block 1 (.seq (.reg [
  ⟨(.some 42), .none, (.fad 0 (.t 7)), .any⟩, 
  ⟨(.some 43), .none, (.ld 1 false (.t 42)), .any⟩, 
  ⟨(.some 44), .none, (.mv (.t 8)), .any⟩, 
  ⟨(.some 45), .none, (.ias 6 (.t 43) (.t 44)), .any⟩, 
  ⟨(.some 46), .none, (.fad 0 (.t 45)), .any⟩, 
  ⟨(.some 47), .none, (.ld 1 false (.t 46)), .any⟩, 
  ⟨(.some 48), .none, (.bin .eql (.t 47) (.c (.a (.p (.i .i64 0))))), .any⟩]) (.cond (.t 48) (.seq (.reg [
  ⟨(.some 49), .none, (.fad 0 (.t 7)), .any⟩, 
  ⟨(.some 50), .none, (.ld 1 false (.t 49)), .any⟩, 
  ⟨(.some 51), .none, (.mv (.t 8)), .any⟩, 
  ⟨(.some 52), .none, (.ld 6 true (.t 3)), .any⟩, 
  ⟨(.some 53), .none, (.ias 6 (.t 50) (.t 51)), .any⟩, 
  ⟨.none, .none, (.st 6 (.t 53) (.t 52)), .any⟩]) (.seq (.reg [
  ⟨(.some 54), .none, (.ld 2 true (.t 7)), .any⟩, 
  ⟨(.some 55), .none, (.mv (.t 8)), .any⟩, 
  ⟨.none, .none, (.st 2 (.t 4) (.t 54)), .any⟩, 
  ⟨(.some 5), .none, (.mv (.t 55)), .any⟩, 
  ⟨(.some 6), .none, (.mv (.c (.a (.p (.i .i64 0))))), .any⟩]) .ret)) .skip))) (.reg [
  ⟨(.some 40), .none, (.mv (.t 8)), .any⟩, 
  ⟨(.some 41), .none, (.bin .add (.t 40) (.c (.a (.p (.i .i64 1))))), .any⟩, 
  ⟨(.some 8), .none, (.mv (.t 41)), .any⟩])))
def F39 : FnC := ⟨2, (.seq (.reg [
  ⟨(.some 2), .none, (.box 2 (.t 0)), .any⟩, 
  ⟨(.some 3), .none, (.box 6 (.t 1)), .any⟩, 
  ⟨(.some 4), .none, (.new [.nil, (.p (.i .i64 0))]), .any⟩, 
  ⟨(.some 5), .none, (.mv (.c (.a (.p (.i .i64 0))))), .any⟩, 
  ⟨(.some 6), .none, (.mv (.c (.a (.p (.i .i64 0))))), .any⟩]) (.seq (.seq (.reg [
  ⟨(.some 9), .none, (.fad 0 (.t 3)), .any⟩, 
  ⟨(.some 10), .none, (.ld 1 false (.t 9)), .any⟩, 
  ⟨(.some 11), .none, (.bin .lss (.t 10) (.c (.a (.p (.i .i64 2))))), .any⟩, 
  ⟨(.some 12), .none, (.mv (.t 11)), .any⟩, 
  ⟨(.some 13), (.some (12, false)), (.ld 6 true (.t 3)), .any⟩, 
  ⟨(.some 14), (.some (12, false)), (.call (.f 28) [(.t 13)]), .any⟩, 
  ⟨(.some 15), (.some (12, false)), (.not (.t 14)), .any⟩, 
  ⟨(.some 16), .none, (.pick (.t 12) (.c (.a (.p (.b true)))) (.t 15)), .any⟩]) (.cond (.t 16) (.seq (.reg [
  ⟨(.some 17), .none, (.ld 2 true (.t 2)), .any⟩, 
  ⟨.none, .none, (.st 2 (.t 4) (.t 17)), .any⟩, 
  ⟨(.some 5), .none, (.mv (.c (.a (.p (.i .i64 0))))), .any⟩, 
  ⟨(.some 6), .none, (.mv (.c (.a (.p (.i .i64 122))))), .any⟩]) .ret) .skip)) (.seq (.seq (.reg [
  ⟨(.some 18), .none, (.ld 2 true (.t 2)), .rd⟩, 
  ⟨(.some 19), .none, (.call (.f 30) [(.t 18)]), .rd⟩, 
  ⟨(.some 20), .none, (.fad 1 (.t 2)), .rd⟩, 
  ⟨(.some 21), .none, (.ld 1 false (.t 20)), .rd⟩, 
  ⟨(.some 22), .none, (.bin .geq (.t 19) (.t 21)), .any⟩]) (.cond (.t 22) (.seq (.reg [
  ⟨(.some 23), .none, (.ld 2 true (.t 2)), .any⟩, 
  ⟨.none, .none, (.st 2 (.t 4) (.t 23)), .any⟩, 
  ⟨(.some 5), .none, (.mv (.c (.a (.p (.i .i64 0))))), .any⟩, 
  ⟨(.some 6), .none, (.mv (.c (.a (.p (.i .i64 121))))), .any⟩]) .ret) .skip)) (.seq (.reg [
  ⟨(.some 24), .none, (.ld 2 true (.t 2)), .any⟩, 
  ⟨(.some 25), .none, (.call (.f 36) [(.t 24)]), .any⟩, 
  ⟨(.some 7), .none, (.new [.nil, (.p (.i .i64 0))]), .any⟩, 
  ⟨.none, .none, (.st 2 (.t 7) (.t 25)), .any⟩]) (.seq (.reg [
  ⟨(.some 26), .none, (.ld 6 true (.t 3)), .any⟩, 
  ⟨(.some 27), .none, (.call (.f 46) [(.t 26)]), .any⟩, 
  ⟨(.some 28), .none, (.mslF 2 26 16 [(.p (.i .i64 0)), (.p (.i .i64 0))] (.t 27) (.t 27)), .any⟩, 
  ⟨(.some 29), .none, (.fad 5 (.t 3)), .any⟩, 
  ⟨.none, .none, (.st 1 (.t 29) (.t 28)), .any⟩]) (.seq (.reg [
  ⟨(.some 30), .none, (.bsl 2 66 [(.p (.s [])), (.p (.i .i64 0))] 0 []), .any⟩, 
  ⟨(.some 31), .none, (.fad 4 (.t 3)), .any⟩, 
  ⟨(.some 32), .none, (.ld 1 false (.t 31)), .any⟩, 
  ⟨(.some 33), .none, (.app 2 66 24 (.t 30) (.t 32)), .any⟩, 
  ⟨(.some 34), .none, (.fad 4 (.t 3)), .any⟩, 
  ⟨.none, .none, (.st 1 (.t 34) (.t 33)), .any⟩]) (.seq (.seq (.reg [
  ⟨(.some 8), .none, (.mv (.c (.a (.p (.i .i64 0))))), .any⟩]) (.block 0 (.loop F39b0))) (.seq (.reg [
  ⟨(.some 56), .none, (.fad 0 (.t 7)), .any⟩, 
  ⟨(.some 57), .none, (.ld 1 false (.t 56)), .any⟩, 
  ⟨(.some 58), .none, (.ld 6 true (.t 3)), .any⟩, 
  ⟨(.some 59), .none, (.bsl 6 43 [(.p (.i .i64 0)), (.p (.i .i64 0)), (.p (.i .i64 0)), (.p (.s [])), .nil, .nil] 1 [(0, (.t 58))]), .any⟩, 
  ⟨(.some 60), .none, (.app 6 43 88 (.t 57) (.t 59)), .any⟩, 
  ⟨(.some 61), .none, (.fad 0 (.t 7)), .any⟩, 
  ⟨.none, .none, (.st 1 (.t 61) (.t 60)), .any⟩]) (.seq (.reg [
  ⟨(.some 62), .none, (.ld 2 true (.t 7)), .rd⟩, 
  ⟨(.some 63), .none, (.fad 0 (.t 7)), .rd⟩, 
  ⟨(.some 64), .none, (.ld 1 false (.t 63)), .rd⟩, 
  ⟨(.some 65), .none, (.len false (.t 64)), .rd⟩, 
  ⟨(.some 66), .none, (.bin .sub (.t 65) (.c (.a (.p (.i .i64 1))))), .rd⟩, 
  ⟨.none, .none, (.st 2 (.t 4) (.t 62)), (.wr [63])⟩, 
  ⟨(.some 5), .none, (.mv (.t 66)), .any⟩, 
  ⟨(.some 6), .none, (.mv (.c (.a (.p (.i .i64 0))))), .any⟩]) .ret))))))))), [(.cell 4 2 true), (.tmp 5), (.tmp 6)]⟩
theorem cc39 : ccF Try.prog [(26, [0, 0]), (66, [1, 0]), (26, [9])] Try.f39 = some F39 := by kernel_rfl

/- gossamer/gossamerlaw13.at -/
def F40 : FnC := ⟨2, (.seq (.reg [
  ⟨(.some 4), .none, (.new [(.p (.i .i64 0)), (.p (.i .i64 0))]), .any⟩]) (.seq (.reg [
  ⟨(.some 5), .none, (.mv (.t 0)), .any⟩, 
  ⟨(.some 6), .none, (.mv (.t 1)), .any⟩, 
  ⟨(.some 7), .none, (.build [(.p (.i .i64 0)), (.p (.i .i64 0))] [(0, (1, (.t 5))), (1, (1, (.t 6)))]), .any⟩, 
  ⟨.none, .none, (.st 2 (.t 4) (.t 7)), .any⟩]) .ret)), [(.cell 4 2 true)]⟩
theorem cc40 : ccF Try.prog [(26, [0, 0]), (66, [1, 0]), (26, [9])] Try.f40 = some F40 := by kernel_rfl

/- (gossamer/wire.net).there -/
def F41 : FnC := ⟨2, (.seq (.reg [
  ⟨(.some 2), .none, (.box 2 (.t 0)), .any⟩, 
  ⟨(.some 4), .none, (.mv (.c (.a (.p (.b false))))), .any⟩]) (.seq (.reg [
  ⟨(.some 5), .none, (.mv (.t 1)), .any⟩, 
  ⟨(.some 6), .none, (.fn 56 [(.t 2)]), .any⟩, 
  ⟨(.some 7), .none, (.call (.f 55) [(.t 5), (.t 6)]), .any⟩, 
  ⟨(.some 8), .none, (.not (.t 7)), .any⟩, 
  ⟨(.some 4), .none, (.mv (.t 8)), .any⟩]) .ret)), [(.tmp 4)]⟩
theorem cc41 : ccF Try.prog [(26, [0, 0]), (66, [1, 0]), (26, [9])] Try.f41 = some F41 := by kernel_rfl

/- (gossamer/wire.net).peer -/
def F42 : FnC := ⟨2, (.seq (.reg [
  ⟨(.some 2), .none, (.box 2 (.t 0)), .any⟩, 
  ⟨(.some 3), .none, (.box 2 (.t 1)), .any⟩, 
  ⟨(.some 4), .none, (.new [(.p (.i .i64 0)), (.p (.i .i64 0))]), .any⟩]) (.seq (.reg [
  ⟨(.some 5), .none, (.fad 0 (.t 2)), .rd⟩, 
  ⟨(.some 6), .none, (.fad 0 (.t 5)), .rd⟩, 
  ⟨(.some 7), .none, (.ld 1 false (.t 6)), .rd⟩, 
  ⟨(.some 8), .none, (.fad 0 (.t 3)), .rd⟩, 
  ⟨(.some 9), .none, (.ld 1 false (.t 8)), .rd⟩, 
  ⟨(.some 10), .none, (.ias 6 (.t 7) (.t 9)), .rd⟩, 
  ⟨(.some 11), .none, (.fad 5 (.t 10)), .rd⟩, 
  ⟨(.some 12), .none, (.ld 1 false (.t 11)), .rd⟩, 
  ⟨(.some 13), .none, (.fad 1 (.t 3)), .rd⟩, 
  ⟨(.some 14), .none, (.ld 1 false (.t 13)), .rd⟩, 
  ⟨(.some 15), .none, (.ias 2 (.t 12) (.t 14)), .any⟩, 
  ⟨(.some 16), .none, (.ld 2 true (.t 15)), .any⟩, 
  ⟨.none, .none, (.st 2 (.t 4) (.t 16)), .any⟩]) .ret)), [(.cell 4 2 true)]⟩
theorem cc42 : ccF Try.prog [(26, [0, 0]), (66, [1, 0]), (26, [9])] Try.f42 = some F42 := by kernel_rfl

/- gossamer/gossamerref13.to -/
def F43 : FnC := ⟨2, (.seq (.reg [
  ⟨(.some 2), .none, (.box 2 (.t 0)), .any⟩, 
  ⟨(.some 3), .none, (.box 2 (.t 1)), .any⟩, 
  ⟨(.some 4), .none, (.new [(.p (.i .i64 0)), (.p (.i .i64 0))]), .any⟩]) (.seq (.reg [
  ⟨(.some 5), .none, (.fad 0 (.t 2)), .rd⟩, 
  ⟨(.some 6), .none, (.ld 1 false (.t 5)), .rd⟩, 
  ⟨(.some 7), .none, (.fad 0 (.t 3)), .rd⟩, 
  ⟨(.some 8), .none, (.ld 1 false (.t 7)), .rd⟩, 
  ⟨(.some 9), .none, (.ias 6 (.t 6) (.t 8)), .rd⟩, 
  ⟨(.some 10), .none, (.fad 5 (.t 9)), .rd⟩, 
  ⟨(.some 11), .none, (.ld 1 false (.t 10)), .rd⟩, 
  ⟨(.some 12), .none, (.fad 1 (.t 3)), .rd⟩, 
  ⟨(.some 13), .none, (.ld 1 false (.t 12)), .rd⟩, 
  ⟨(.some 14), .none, (.ias 2 (.t 11) (.t 13)), .any⟩, 
  ⟨(.some 15), .none, (.ld 2 true (.t 14)), .any⟩, 
  ⟨.none, .none, (.st 2 (.t 4) (.t 15)), .any⟩]) .ret)), [(.cell 4 2 true)]⟩
theorem cc43 : ccF Try.prog [(26, [0, 0]), (66, [1, 0]), (26, [9])] Try.f43 = some F43 := by kernel_rfl

/- (gossamer/wire.net).link -/
def F44 : FnC := ⟨3, (.seq (.reg [
  ⟨(.some 3), .none, (.box 2 (.t 0)), .any⟩, 
  ⟨(.some 4), .none, (.box 2 (.t 1)), .any⟩, 
  ⟨(.some 5), .none, (.box 2 (.t 2)), .any⟩, 
  ⟨(.some 6), .none, (.new [.nil, (.p (.i .i64 0))]), .any⟩, 
  ⟨(.some 7), .none, (.mv (.c (.a (.p (.i .i64 0))))), .any⟩]) (.seq (.seq (.reg [
  ⟨(.some 8), .none, (.ld 2 true (.t 3)), .any⟩, 
  ⟨(.some 9), .none, (.ld 2 true (.t 4)), .any⟩, 
  ⟨(.some 10), .none, (.ld 2 true (.t 5)), .any⟩, 
  ⟨(.some 11), .none, (.bsl 2 26 [(.p (.i .i64 0)), (.p (.i .i64 0))] 2 [(0, (.t 9)), (1, (.t 10))]), .any⟩, 
  ⟨(.some 12), .none, (.call (.f 41) [(.t 8), (.t 11)]), .any⟩, 
  ⟨(.some 13), .none, (.not (.t 12)), .any⟩, 
  ⟨(.some 14), .none, (.mv (.t 13)), .any⟩, 
  ⟨(.some 15), (.some (14, false)), (.ld 2 true (.t 4)), .any⟩, 
  ⟨(.some 16), (.some (14, false)), (.ld 2 true (.t 5)), .any⟩, 
  ⟨(.some 17), (.some (14, false)), (.eqg false [0, 0] (.t 15) (.t 16)), .any⟩, 
  ⟨(.some 18), .none, (.pick (.t 14) (.c (.a (.p (.b true)))) (.t 17)), .any⟩]) (.cond (.t 18) (.seq (.reg [
  ⟨(.some 19), .none, (.fad 0 (.t 3)), .any⟩, 
  ⟨(.some 20), .none, (.ld 2 true (.t 19)), .any⟩, 
  ⟨.none, .none, (.st 2 (.t 6) (.t 20)), .any⟩, 
  ⟨(.some 7), .none, (.mv (.c (.a (.p (.i .i64 130))))), .any⟩]) .ret) .skip)) (.seq (.reg [
  ⟨(.some 21), .none, (.ld 2 true (.t 3)), .rd⟩, 
  ⟨(.some 22), .none, (.ld 2 true (.t 4)), .rd⟩, 
  ⟨(.some 23), .none, (.ld 2 true (.t 5)), .rd⟩, 
  ⟨(.some 24), .none, (.call (.f 57) [(.t 21), (.t 22), (.t 23)]), .rd⟩, 
  ⟨(.some 25), .none, (.ld 2 true (.t 5)), .rd⟩, 
  ⟨(.some 26), .none, (.ld 2 true (.t 4)), .rd⟩, 
  ⟨(.some 27), .none, (.call (.f 57) [(.t 24), (.t 25), (.t 26)]), .any⟩, 
  ⟨(.some 28), .none, (.fld 0 2 true (.t 27)), .any⟩, 
  ⟨.none, .none, (.st 2 (.t 6) (.t 28)), .any⟩, 
  ⟨(.some 7), .none, (.mv (.c (.a (.p (.i .i64 0))))), .any⟩]) .ret))), [(.cell 6 2 true), (.tmp 7)]⟩
theorem cc44 : ccF Try.prog [(26, [0, 0]), (66, [1, 0]), (26, [9])] Try.f44 = some F44 := by kernel_rfl

/- gossamer/gossamerref13.set -/
def F45 : FnC := ⟨3, (.seq (.reg [
  ⟨(.some 3), .none, (.box 2 (.t 0)), .any⟩, 
  ⟨(.some 4), .none, (.box 2 (.t 1)), .any⟩, 
  ⟨(.some 5), .none, (.box 2 (.t 2)), .any⟩, 
  ⟨(.some 6), .none, (.new [.nil, (.p (.i .i64 0))]), .any⟩]) (.seq (.reg [
  ⟨(.some 9), .none, (.ld 2 true (.t 3)), .any⟩, 
  ⟨(.some 10), .none, (.call (.f 36) [(.t 9)]), .any⟩, 
  ⟨(.some 7), .none, (.new [.nil, (.p (.i .i64 0))]), .any⟩, 
  ⟨.none, .none, (.st 2 (.t 7) (.t 10)), .any⟩]) (.seq (.reg [
  ⟨(.some 11), .none, (.bsl 2 26 [(.p (.i .i64 0)), (.p (.i .i64 0))] 0 []), .any⟩, 
  ⟨(.some 12), .none, (.fad 0 (.t 7)), .any⟩, 
  ⟨(.some 13), .none, (.ld 1 false (.t 12)), .any⟩, 
  ⟨(.some 14), .none, (.fad 0 (.t 4)), .any⟩, 
  ⟨(.some 15), .none, (.ld 1 false (.t 14)), .any⟩, 
  ⟨(.some 16), .none, (.ias 6 (.t 13) (.t 15)), .any⟩, 
  ⟨(.some 17), .none, (.fad 5 (.t 16)), .any⟩, 
  ⟨(.some 18), .none, (.ld 1 false (.t 17)), .any⟩, 
  ⟨(.some 19), .none, (.app 2 26 16 (.t 11) (.t 18)), .any⟩, 
  ⟨(.some 8), .none, (.mv (.t 19)), .any⟩]) (.seq (.reg [
  ⟨(.some 20), .none, (.mv (.t 8)), .any⟩, 
  ⟨(.some 21), .none, (.fad 1 (.t 4)), .any⟩, 
  ⟨(.some 22), .none, (.ld 1 false (.t 21)), .any⟩, 
  ⟨(.some 23), .none, (.ld 2 true (.t 5)), .any⟩, 
  ⟨(.some 24), .none, (.ias 2 (.t 20) (.t 22)), .any⟩, 
  ⟨.none, .none, (.st 2 (.t 24) (.t 23)), .any⟩]) (.seq (.reg [
  ⟨(.some 25), .none, (.fad 0 (.t 7)), .any⟩, 
  ⟨(.some 26), .none, (.ld 1 false (.t 25)), .any⟩, 
  ⟨(.some 27), .none, (.fad 0 (.t 4)), .any⟩, 
  ⟨(.some 28), .none, (.ld 1 false (.t 27)), .any⟩, 
  ⟨(.some 29), .none, (.mv (.t 8)), .any⟩, 
  ⟨(.some 30), .none, (.ias 6 (.t 26) (.t 28)), .any⟩, 
  ⟨(.some 31), .none, (.fad 5 (.t 30)), .any⟩, 
  ⟨.none, .none, (.st 1 (.t 31) (.t 29)), .any⟩]) (.seq (.reg [
  ⟨(.some 32), .none, (.ld 2 true (.t 7)), .any⟩, 
  ⟨.none, .none, (.st 2 (.t 6) (.t 32)), .any⟩]) .ret)))))), [(.cell 6 2 true)]⟩
theorem cc45 : ccF Try.prog [(26, [0, 0]), (66, [1, 0]), (26, [9])] Try.f45 = some F45 := by kernel_rfl

/- gossamer/gossamerref12.Ports -/
def F46 : FnC := ⟨1, (.seq (.reg [
  ⟨(.some 1), .none, (.box 6 (.t 0)), .any⟩, 
  ⟨(.some 2), .none, (.mv (.c (.a (.p (.i .i64 0))))), .any⟩]) (.seq (.seq (.reg [
  ⟨(.some 3), .none, (.fad 0 (.t 1)), .any⟩, 
  ⟨(.some 4), .none, (.ld 1 false (.t 3)), .any⟩]) (.block 0 (.seq (.seq (.reg [
  ⟨(.some 6), .none, (.bin .eql (.t 4) (.c (.a (.p (.i .i64 1))))), .any⟩, 
  ⟨(.some 5), .none, (.mv (.t 6)), .any⟩]) (.cond (.t 5) .skip (.seq (.reg [
  ⟨(.some 7), .none, (.bin .eql (.t 4) (.c (.a (.p (.i .i64 7))))), .any⟩, 
  ⟨(.some 5), .none, (.mv (.t 7)), .any⟩]) (.cond (.t 5) .skip (.seq (.reg [
  ⟨(.some 8), .none, (.bin .eql (.t 4) (.c (.a (.p (.i .i64 10))))), .any⟩, 
  ⟨(.some 5), .none, (.mv (.t 8)), .any⟩]) (.cond (.t 5) .skip (.reg [
  ⟨(.some 9), .none, (.bin .eql (.t 4) (.c (.a (.p (.i .i64 13))))), .any⟩, 
  ⟨(.some 5), .none, (.mv (.t 9)), .any⟩]))))))) (.cond (.t 5) (.seq (.reg [
  ⟨(.some 2), .none, (.mv (.c (.a (.p (.i .i64 1))))), .any⟩]) .ret) (.seq (.seq (.reg [
  ⟨(.some 11), .none, (.bin .eql (.t 4) (.c (.a (.p (.i .i64 5))))), .any⟩, 
  ⟨(.some 10), .none, (.mv (.t 11)), .any⟩]) (.cond (.t 10) .skip (.seq (.reg [
  ⟨(.some 12), .none, (.bin .eql (.t 4) (.c (.a (.p (.i .i64 6))))), .any⟩, 
  ⟨(.some 10), .none, (.mv (.t 12)), .any⟩]) (.cond (.t 10) .skip (.reg [
  ⟨(.some 13), .none, (.bin .eql (.t 4) (.c (.a (.p (.i .i64 12))))), .any⟩, 
  ⟨(.some 10), .none, (.mv (.t 13)), .any⟩]))))) (.cond (.t 10) (.seq (.reg [
  ⟨(.some 2), .none, (.mv (.c (.a (.p (.i .i64 2))))), .any⟩]) .ret) (.seq (.seq (.reg [
  ⟨(.some 15), .none, (.bin .eql (.t 4) (.c (.a (.p (.i .i64 2))))), .any⟩, 
  ⟨(.some 14), .none, (.mv (.t 15)), .any⟩]) (.cond (.t 14) .skip (.seq (.reg [
  ⟨(.some 16), .none, (.bin .eql (.t 4) (.c (.a (.p (.i .i64 3))))), .any⟩, 
  ⟨(.some 14), .none, (.mv (.t 16)), .any⟩]) (.cond (.t 14) .skip (.seq (.reg [
  ⟨(.some 17), .none, (.bin .eql (.t 4) (.c (.a (.p (.i .i64 4))))), .any⟩, 
  ⟨(.some 14), .none, (.mv (.t 17)), .any⟩]) (.cond (.t 14) .skip (.reg [
  ⟨(.some 18), .none, (.bin .eql (.t 4) (.c (.a (.p (.i .i64 11))))), .any⟩, 
  ⟨(.some 14), .none, (.mv (.t 18)), .any⟩]))))))) (.cond (.t 14) (.seq (.reg [
  ⟨(.some 2), .none, (.mv (.c (.a (.p (.i .i64 3))))), .any⟩]) .ret) (.seq (.reg [
  ⟨(.some 20), .none, (.bin .eql (.t 4) (.c (.a (.p (.i .i64 8))))), .any⟩, 
  ⟨(.some 19), .none, (.mv (.t 20)), .any⟩]) (.cond (.t 19) (.seq (.reg [
  ⟨(.some 21), .none, (.fad 5 (.t 1)), .any⟩, 
  ⟨(.some 22), .none, (.ld 1 false (.t 21)), .any⟩, 
  ⟨(.some 23), .none, (.len false (.t 22)), .any⟩, 
  ⟨(.some 2), .none, (.mv (.t 23)), .any⟩]) .ret) (.seq (.reg [
  ⟨(.some 25), .none, (.bin .eql (.t 4) (.c (.a (.p (.i .i64 9))))), .any⟩, 
  ⟨(.some 24), .none, (.mv (.t 25)), .any⟩]) (.cond (.t 24) (.seq (.reg [
  ⟨(.some 26), .none, (.fad 4 (.t 1)), .any⟩, 
  ⟨(.some 27), .none, (.ld 1 false (.t 26)), .any⟩, 
  ⟨(.some 28), .none, (.len false (.t 27)), .any⟩, 
  ⟨(.some 29), .none, (.bin .add (.c (.a (.p (.i .i64 2)))) (.t 28)), .any⟩, 
  ⟨(.some 2), .none, (.mv (.t 29)), .any⟩]) .ret) .skip)))))))))))) (.seq (.reg [
  ⟨(.some 2), .none, (.mv (.c (.a (.p (.i .i64 0))))), .any⟩]) .ret))), [(.tmp 2)]⟩
theorem cc46 : ccF Try.prog [(26, [0, 0]), (66, [1, 0]), (26, [9])] Try.f46 = some F46 := by kernel_rfl

/- gossamer/store.node -/
def F47 : FnC := ⟨1, (.seq (.reg [
  ⟨(.some 1), .none, (.box 6 (.t 0)), .any⟩, 
  ⟨(.some 2), .none, (.mv (.c (.a (.p (.b false))))), .any⟩]) (.seq (.seq (.reg [
  ⟨(.some 6), .none, (.fad 0 (.t 1)), .any⟩, 
  ⟨(.some 7), .none, (.ld 1 false (.t 6)), .any⟩, 
  ⟨(.some 8), .none, (.call (.f 52) [(.t 7), (.c (.a (.p (.i .i64 0)))), (.c (.a (.p (.i .i64 13))))]), .any⟩, 
  ⟨(.some 9), .none, (.not (.t 8)), .any⟩, 
  ⟨(.some 10), .none, (.mv (.t 9)), .any⟩, 
  ⟨(.some 11), (.some (10, false)), (.ld 6 true (.t 1)), .any⟩, 
  ⟨(.some 12), (.some (10, false)), (.call (.f 58) [(.t 11)]), .any⟩, 
  ⟨(.some 13), (.some (10, false)), (.not (.t 12)), .any⟩, 
  ⟨(.some 14), .none, (.pick (.t 10) (.c (.a (.p (.b true)))) (.t 13)), .any⟩]) (.cond (.t 14) (.seq (.reg [
  ⟨(.some 2), .none, (.mv (.c (.a (.p (.b false))))), .any⟩]) .ret) .skip)) (.seq (.reg [
  ⟨(.some 15), .none, (.fad 0 (.t 1)), .any⟩, 
  ⟨(.some 16), .none, (.ld 1 false (.t 15)), .any⟩, 
  ⟨(.some 17), .none, (.bin .eql (.t 16) (.c (.a (.p (.i .i64 8))))), .any⟩, 
  ⟨(.some 18), .none, (.mv (.t 17)), .any⟩, 
  ⟨(.some 19), (.some (18, false)), (.fad 0 (.t 1)), .any⟩, 
  ⟨(.some 20), (.some (18, false)), (.ld 1 false (.t 19)), .any⟩, 
  ⟨(.some 21), (.some (18, false)), (.bin .eql (.t 20) (.c (.a (.p (.i .i64 11))))), .any⟩, 
  ⟨(.some 22), .none, (.pick (.t 18) (.c (.a (.p (.b true)))) (.t 21)), .any⟩, 
  ⟨(.some 23), .none, (.mv (.t 22)), .any⟩, 
  ⟨(.some 24), (.some (23, false)), (.fad 0 (.t 1)), .any⟩, 
  ⟨(.some 25), (.some (23, false)), (.ld 1 false (.t 24)), .any⟩, 
  ⟨(.some 26), (.some (23, false)), (.bin .eql (.t 25) (.c (.a (.p (.i .i64 12))))), .any⟩, 
  ⟨(.some 27), .none, (.pick (.t 23) (.c (.a (.p (.b true)))) (.t 26)), .any⟩, 
  ⟨(.some 3), .none, (.mv (.t 27)), .any⟩]) (.seq (.reg [
  ⟨(.some 28), .none, (.fad 0 (.t 1)), .any⟩, 
  ⟨(.some 29), .none, (.ld 1 false (.t 28)), .any⟩, 
  ⟨(.some 30), .none, (.bin .eql (.t 29) (.c (.a (.p (.i .i64 10))))), .any⟩, 
  ⟨(.some 31), .none, (.mv (.t 30)), .any⟩, 
  ⟨(.some 32), (.some (31, false)), (.fad 0 (.t 1)), .any⟩, 
  ⟨(.some 33), (.some (31, false)), (.ld 1 false (.t 32)), .any⟩, 
  ⟨(.some 34), (.some (31, false)), (.bin .eql (.t 33) (.c (.a (.p (.i .i64 12))))), .any⟩, 
  ⟨(.some 35), .none, (.pick (.t 31) (.c (.a (.p (.b true)))) (.t 34)), .any⟩, 
  ⟨(.some 4), .none, (.mv (.t 35)), .any⟩]) (.seq (.reg [
  ⟨(.some 5), .none, (.mv (.c (.a (.p (.i .i64 60))))), .any⟩]) (.seq (.seq (.reg [
  ⟨(.some 36), .none, (.fad 0 (.t 1)), .any⟩, 
  ⟨(.some 37), .none, (.ld 1 false (.t 36)), .any⟩, 
  ⟨(.some 38), .none, (.bin .eql (.t 37) (.c (.a (.p (.i .i64 0))))), .any⟩, 
  ⟨(.some 39), .none, (.mv (.t 38)), .any⟩, 
  ⟨(.some 40), (.some (39, false)), (.fad 0 (.t 1)), .any⟩, 
  ⟨(.some 41), (.some (39, false)), (.ld 1 false (.t 40)), .any⟩, 
  ⟨(.some 42), (.some (39, false)), (.bin .eql (.t 41) (.c (.a (.p (.i .i64 1))))), .any⟩, 
  ⟨(.some 43), .none, (.pick (.t 39) (.c (.a (.p (.b true)))) (.t 42)), .any⟩]) (.cond (.t 43) (.reg [
  ⟨(.some 5), .none, (.mv (.c (.a (.p (.i .i64 0))))), .any⟩]) .skip)) (.seq (.reg [
  ⟨(.some 44), .none, (.fad 1 (.t 1)), .any⟩, 
  ⟨(.some 45), .none, (.ld 1 false (.t 44)), .any⟩, 
  ⟨(.some 46), .none, (.mv (.t 5)), .any⟩, 
  ⟨(.some 47), .none, (.call (.f 52) [(.t 45), (.c (.a (.p (.i .i64 0)))), (.t 46)]), .any⟩, 
  ⟨(.some 48), .none, (.mv (.t 47)), .any⟩, 
  ⟨(.some 49), (.some (48, true)), (.fad 3 (.t 1)), .any⟩, 
  ⟨(.some 50), (.some (48, true)), (.ld 1 false (.t 49)), .any⟩, 
  ⟨(.some 51), (.some (48, true)), (.bin .neq (.t 50) (.c (.a (.p (.s []))))), .any⟩, 
  ⟨(.some 52), (.some (48, true)), (.mv (.t 3)), .any⟩, 
  ⟨(.some 53), (.some (48, true)), (.eqb false (.t 51) (.t 52)), .any⟩, 
  ⟨(.some 54), .none, (.pick (.t 48) (.t 53) (.c (.a (.p (.b false))))), .any⟩, 
  ⟨(.some 55), .none, (.mv (.t 54)), .any⟩, 
  ⟨(.some 56), (.some (55, true)), (.fad 2 (.t 1)), .any⟩, 
  ⟨(.some 57), (.some (55, true)), (.ld 1 false (.t 56)), .any⟩, 
  ⟨(.some 58), (.some (55, true)), (.bin .eql (.t 57) (.c (.a (.p (.i .i64 0))))), .any⟩, 
  ⟨(.some 59), (.some (55, true)), (.mv (.t 58)), .any⟩, 
  ⟨(.some 60), (.some (59, false)), (.mv (.t 4)), .any⟩, 
  ⟨(.some 61), (.some (55, true)), (.pick (.t 59) (.c (.a (.p (.b true)))) (.t 60)), .any⟩, 
  ⟨(.some 62), .none, (.pick (.t 55) (.t 61) (.c (.a (.p (.b false))))), .any⟩, 
  ⟨(.some 63), .none, (.mv (.t 62)), .any⟩, 
  ⟨(.some 64), (.some (63, true)), (.fad 0 (.t 1)), .any⟩, 
  ⟨(.some 65), (.some (63, true)), (.ld 1 false (.t 64)), .any⟩, 
  ⟨(.some 66), (.some (63, true)), (.bin .neq (.t 65) (.c (.a (.p (.i .i64 8))))), .any⟩, 
  ⟨(.some 67), (.some (63, true)), (.mv (.t 66)), .any⟩, 
  ⟨(.some 68), (.some (67, false)), (.fad 5 (.t 1)), .any⟩, 
  ⟨(.some 69), (.some (67, false)), (.ld 1 false (.t 68)), .any⟩, 
  ⟨(.some 70), (.some (67, false)), (.len false (.t 69)), .any⟩, 
  ⟨(.some 71), (.some (67, false)), (.call (.f 52) [(.t 70), (.c (.a (.p (.i .i64 1)))), (.c (.a (.p (.i .i64 9))))]), .any⟩, 
  ⟨(.some 72), (.some (63, true)), (.pick (.t 67) (.c (.a (.p (.b true)))) (.t 71)), .any⟩, 
  ⟨(.some 73), .none, (.pick (.t 63) (.t 72) (.c (.a (.p (.b false))))), .any⟩, 
  ⟨(.some 2), .none, (.mv (.t 73)), .any⟩]) .ret))))))), [(.tmp 2)]⟩
theorem cc47 : ccF Try.prog [(26, [0, 0]), (66, [1, 0]), (26, [9])] Try.f47 = some F47 := by kernel_rfl

/- gossamer/store.copied -/
def F48 : FnC := ⟨1, (.seq (.reg [
  ⟨(.some 1), .none, (.box 2 (.t 0)), .any⟩, 
  ⟨(.some 2), .none, (.new [.nil, (.p (.i .i64 0))]), .any⟩]) (.seq (.reg [
  ⟨(.some 3), .none, (.fad 0 (.t 1)), .rd⟩, 
  ⟨(.some 4), .none, (.ld 1 false (.t 3)), .rd⟩, 
  ⟨(.some 5), .none, (.len false (.t 4)), .rd⟩, 
  ⟨(.some 6), .none, (.bin .add (.t 5) (.c (.a (.p (.i .i64 1))))), .rd⟩, 
  ⟨(.some 7), .none, (.msl 6 43 88 [(.p (.i .i64 0)), (.p (.i .i64 0)), (.p (.i .i64 0)), (.p (.s [])), .nil, .nil] (.c (.a (.p (.i .i64 0)))) (.t 6)), .ad⟩, 
  ⟨(.some 8), .none, (.fad 0 (.t 1)), .rd⟩, 
  ⟨(.some 9), .none, (.ld 1 false (.t 8)), .rd⟩, 
  ⟨(.some 10), .none, (.app 6 43 88 (.t 7) (.t 9)), .any⟩, 
  ⟨(.some 11), .none, (.fad 0 (.t 1)), .any⟩, 
  ⟨.none, .none, (.st 1 (.t 11) (.t 10)), .any⟩]) (.seq (.reg [
  ⟨(.some 12), .none, (.ld 2 true (.t 1)), .any⟩, 
  ⟨.none, .none, (.st 2 (.t 2) (.t 12)), .any⟩]) .ret))), [(.cell 2 2 true)]⟩
theorem cc48 : ccF Try.prog [(26, [0, 0]), (66, [1, 0]), (26, [9])] Try.f48 = some F48 := by kernel_rfl

/- slices.Clone[[]gossamer/api.Arity,gossamer/api.Arity] -/
def F49 : FnC := ⟨1, (.seq (.reg [
  ⟨(.some 2), .none, (.mv (.c (.a .nil))), .any⟩]) (.seq (.seq (.reg [
  ⟨(.some 3), .none, (.mv (.t 0)), .any⟩, 
  ⟨(.some 4), .none, (.nq false (.t 3)), .any⟩]) (.cond (.t 4) (.seq (.reg [
  ⟨(.some 2), .none, (.mv (.c (.a .nil))), .any⟩]) .ret) .skip)) (.seq (.reg [
  ⟨(.some 5), .none, (.bsl 2 66 [(.p (.s [])), (.p (.i .i64 0))] 0 []), .any⟩, 
  ⟨(.some 6), .none, (.mv (.t 0)), .any⟩, 
  ⟨(.some 7), .none, (.app 2 66 24 (.t 5) (.t 6)), .any⟩, 
  ⟨(.some 2), .none, (.mv (.t 7)), .any⟩]) .ret))), [(.tmp 2)]⟩
theorem cc49 : ccF Try.prog [(26, [0, 0]), (66, [1, 0]), (26, [9])] Try.f49 = some F49 := by kernel_rfl

/- slices.IndexFunc[[]gossamer/api.Node,gossamer/api.Node] -/
def F50b0 : C := (.seq (.reg [
  ⟨(.some 9), .none, (.bin .lss (.t 8) (.t 7)), .any⟩]) (.seq (.cond (.t 9) .skip (.exit 0)) (.seq (.block 1 (.seq (.reg [
  ⟨(.some 10), .none, (.mv (.t 8)), .any⟩, 
  ⟨(.some 5), .none, (.mv (.t 10)), .any⟩]) (.seq (.reg [
  ⟨(.some 11), .none, (.mv (.t 1)), .any⟩, 
  ⟨(.some 12), .none, (.mv (.t 0)), .any⟩, 
  ⟨(.some 13), .none, (.mv (.t 5)), .any⟩, 
  ⟨(.some 14), .none, (.ias 6 (.t 12) (.t 13)), .any⟩, 
  ⟨(.some 15), .none, (.ld 6 true (.t 14)), .any⟩, 
  ⟨(.some 16), .none, (.call (.t 11) [(.t 15)]), .any⟩]) (.cond (.t 16) (.seq (.reg [
  ⟨(.some 17), .none, (.mv (.t 5)), .any⟩, 
  ⟨(.some 4), .none, (.mv (.t 17)), .any⟩]) .ret) .skip)))) (.reg [
  ⟨(.some 18), .none, (.bin .add (.t 8) (.c (.a (.p (.i .i64 1))))), .any⟩, 
  ⟨(.some 8), .none, (.mv (.t 18)), .any⟩]))))
def F50 : FnC := ⟨2, (.seq (.reg [
  ⟨(.some 4), .none, (.mv (.c (.a (.p (.i .i64 0))))), .any⟩]) (.seq (.seq (.reg [
  ⟨(.some 6), .none, (.mv (.t 0)), .any⟩, 
  ⟨(.some 7), .none, (.len false (.t 6)), .any⟩, 
  ⟨(.some 8), .none, (.mv (.c (.a (.p (.i .i64 0))))), .any⟩]) (.block 0 (.loop F50b0))) (.seq (.reg [
  ⟨(.some 4), .none, (.mv (.c (.a (.p (.i .i64 (-1)))))), .any⟩]) .ret))), [(.tmp 4)]⟩
theorem cc50 : ccF Try.prog [(26, [0, 0]), (66, [1, 0]), (26, [9])] Try.f50 = some F50 := by kernel_rfl

/- gossamer/store.free -/
def F51 : FnC := ⟨1, (.seq (.reg [
  ⟨(.some 1), .none, (.box 6 (.t 0)), .any⟩, 
  ⟨(.some 2), .none, (.mv (.c (.a (.p (.b false))))), .any⟩]) (.seq (.reg [
  ⟨(.some 3), .none, (.fad 0 (.t 1)), .any⟩, 
  ⟨(.some 4), .none, (.ld 1 false (.t 3)), .any⟩, 
  ⟨(.some 5), .none, (.bin .eql (.t 4) (.c (.a (.p (.i .i64 0))))), .any⟩, 
  ⟨(.some 2), .none, (.mv (.t 5)), .any⟩]) .ret)), [(.tmp 2)]⟩
theorem cc51 : ccF Try.prog [(26, [0, 0]), (66, [1, 0]), (26, [9])] Try.f51 = some F51 := by kernel_rfl

/- gossamer/store.in -/
def F52 : FnC := ⟨3, (.seq (.reg [
  ⟨(.some 6), .none, (.mv (.c (.a (.p (.b false))))), .any⟩]) (.seq (.reg [
  ⟨(.some 7), .none, (.mv (.t 0)), .any⟩, 
  ⟨(.some 8), .none, (.mv (.t 1)), .any⟩, 
  ⟨(.some 9), .none, (.bin .geq (.t 7) (.t 8)), .any⟩, 
  ⟨(.some 10), .none, (.mv (.t 9)), .any⟩, 
  ⟨(.some 11), (.some (10, true)), (.mv (.t 0)), .any⟩, 
  ⟨(.some 12), (.some (10, true)), (.mv (.t 2)), .any⟩, 
  ⟨(.some 13), (.some (10, true)), (.bin .leq (.t 11) (.t 12)), .any⟩, 
  ⟨(.some 14), .none, (.pick (.t 10) (.t 13) (.c (.a (.p (.b false))))), .any⟩, 
  ⟨(.some 6), .none, (.mv (.t 14)), .any⟩]) .ret)), [(.tmp 6)]⟩
theorem cc52 : ccF Try.prog [(26, [0, 0]), (66, [1, 0]), (26, [9])] Try.f52 = some F52 := by kernel_rfl

/- gossamer/store.linked -/
def F53 : FnC := ⟨2, (.seq (.reg [
  ⟨(.some 2), .none, (.box 2 (.t 0)), .any⟩, 
  ⟨(.some 3), .none, (.box 2 (.t 1)), .any⟩, 
  ⟨(.some 4), .none, (.mv (.c (.a (.p (.b false))))), .any⟩]) (.seq (.reg [
  ⟨(.some 6), .none, (.fad 0 (.t 2)), .rd⟩, 
  ⟨(.some 7), .none, (.ld 1 false (.t 6)), .rd⟩, 
  ⟨(.some 8), .none, (.fad 0 (.t 3)), .rd⟩, 
  ⟨(.some 9), .none, (.ld 1 false (.t 8)), .rd⟩, 
  ⟨(.some 10), .none, (.ias 6 (.t 7) (.t 9)), .rd⟩, 
  ⟨(.some 11), .none, (.fad 5 (.t 10)), .rd⟩, 
  ⟨(.some 12), .none, (.ld 1 false (.t 11)), .rd⟩, 
  ⟨(.some 13), .none, (.fad 1 (.t 3)), .rd⟩, 
  ⟨(.some 14), .none, (.ld 1 false (.t 13)), .rd⟩, 
  ⟨(.some 15), .none, (.ias 2 (.t 12) (.t 14)), .rd⟩, 
  ⟨(.some 16), .none, (.ld 2 true (.t 15)), .rd⟩, 
  ⟨(.some 5), .none, (.new [(.p (.i .i64 0)), (.p (.i .i64 0))]), .ad⟩, 
  ⟨.none, .none, (.st 2 (.t 5) (.t 16)), .any⟩]) (.seq (.seq (.reg [
  ⟨(.some 17), .none, (.ld 2 true (.t 5)), .rd⟩, 
  ⟨(.some 18), .none, (.ld 2 true (.t 3)), .rd⟩, 
  ⟨(.some 19), .none, (.eqg false [0, 0] (.t 17) (.t 18)), .any⟩, 
  ⟨(.some 20), .none, (.mv (.t 19)), .any⟩, 
  ⟨(.some 21), (.some (20, false)), (.fad 0 (.t 5)), .rd⟩, 
  ⟨(.some 22), (.some (20, false)), (.ld 1 false (.t 21)), .rd⟩, 
  ⟨(.some 23), (.some (20, false)), (.fad 0 (.t 2)), .rd⟩, 
  ⟨(.some 24), (.some (20, false)), (.ld 1 false (.t 23)), .rd⟩, 
  ⟨(.some 25), (.some (20, false)), (.len false (.t 24)), .rd⟩, 
  ⟨(.some 26), (.some (20, false)), (.bin .sub (.t 25) (.c (.a (.p (.i .i64 1))))), .rd⟩, 
  ⟨(.some 27), (.some (20, false)), (.call (.f 52) [(.t 22), (.c (.a (.p (.i .i64 0)))), (.t 26)]), .any⟩, 
  ⟨(.some 28), (.some (20, false)), (.not (.t 27)), .any⟩, 
  ⟨(.some 29), .none, (.pick (.t 20) (.c (.a (.p (.b true)))) (.t 28)), .any⟩, 
  ⟨(.some 30), .none, (.mv (.t 29)), .any⟩, 
  ⟨(.some 31), (.some (30, false)), (.fad 1 (.t 5)), .rd⟩, 
  ⟨(.some 32), (.some (30, false)), (.ld 1 false (.t 31)), .rd⟩, 
  ⟨(.some 33), (.some (30, false)), (.fad 0 (.t 2)), .rd⟩, 
  ⟨(.some 34), (.some (30, false)), (.ld 1 false (.t 33)), .rd⟩, 
  ⟨(.some 35), (.some (30, false)), (.fad 0 (.t 5)), .rd⟩, 
  ⟨(.some 36), (.some (30, false)), (.ld 1 false (.t 35)), .rd⟩, 
  ⟨(.some 37), (.some (30, false)), (.ias 6 (.t 34) (.t 36)), .rd⟩, 
  ⟨(.some 38), (.some (30, false)), (.fad 5 (.t 37)), .rd⟩, 
  ⟨(.some 39), (.some (30, false)), (.ld 1 false (.t 38)), .rd⟩, 
  ⟨(.some 40), (.some (30, false)), (.len false (.t 39)), .rd⟩, 
  ⟨(.some 41), (.some (30, false)), (.bin .sub (.t 40) (.c (.a (.p (.i .i64 1))))), .rd⟩, 
  ⟨(.some 42), (.some (30, false)), (.call (.f 52) [(.t 32), (.c (.a (.p (.i .i64 0)))), (.t 41)]), .any⟩, 
  ⟨(.some 43), (.some (30, false)), (.not (.t 42)), .any⟩, 
  ⟨(.some 44), .none, (.pick (.t 30) (.c (.a (.p (.b true)))) (.t 43)), .any⟩]) (.cond (.t 44) (.seq (.reg [
  ⟨(.some 4), .none, (.mv (.c (.a (.p (.b false))))), .any⟩]) .ret) .skip)) (.seq (.reg [
  ⟨(.some 45), .none, (.fad 0 (.t 2)), .rd⟩, 
  ⟨(.some 46), .none, (.ld 1 false (.t 45)), .rd⟩, 
  ⟨(.some 47), .none, (.fad 0 (.t 5)), .rd⟩, 
  ⟨(.some 48), .none, (.ld 1 false (.t 47)), .rd⟩, 
  ⟨(.some 49), .none, (.ias 6 (.t 46) (.t 48)), .rd⟩, 
  ⟨(.some 50), .none, (.fad 5 (.t 49)), .rd⟩, 
  ⟨(.some 51), .none, (.ld 1 false (.t 50)), .rd⟩, 
  ⟨(.some 52), .none, (.fad 1 (.t 5)), .rd⟩, 
  ⟨(.some 53), .none, (.ld 1 false (.t 52)), .rd⟩, 
  ⟨(.some 54), .none, (.ias 2 (.t 51) (.t 53)), .rd⟩, 
  ⟨(.some 55), .none, (.ld 2 true (.t 54)), .rd⟩, 
  ⟨(.some 56), .none, (.ld 2 true (.t 3)), .rd⟩, 
  ⟨(.some 57), .none, (.eqg false [0, 0] (.t 55) (.t 56)), .any⟩, 
  ⟨(.some 4), .none, (.mv (.t 57)), .any⟩]) .ret)))), [(.tmp 4)]⟩
theorem cc53 : ccF Try.prog [(26, [0, 0]), (66, [1, 0]), (26, [9])] Try.f53 = some F53 := by kernel_rfl

/- gossamer/store.fixed -/
def F54 : FnC := ⟨0, (.seq (.reg [
  ⟨(.some 0), .none, (.new [(.p (.i .i64 0)), (.p (.i .i64 0)), (.p (.i .i64 0)), (.p (.i .i64 0)), (.p (.i .i64 0)), (.p (.i .i64 0)), (.p (.i .i64 0)), (.p (.i .i64 0)), (.p (.i .i64 0)), (.p (.i .i64 0)), (.p (.i .i64 0)), (.p (.i .i64 0)), (.p (.i .i64 0)), (.p (.i .i64 0))]), .any⟩]) (.seq (.reg [
  ⟨(.some 1), .none, (.build [(.p (.i .i64 0)), (.p (.i .i64 0)), (.p (.i .i64 0)), (.p (.i .i64 0)), (.p (.i .i64 0)), (.p (.i .i64 0)), (.p (.i .i64 0)), (.p (.i .i64 0)), (.p (.i .i64 0)), (.p (.i .i64 0)), (.p (.i .i64 0)), (.p (.i .i64 0)), (.p (.i .i64 0)), (.p (.i .i64 0))] [(1, (1, (.c (.a (.p (.i .i64 1)))))), (2, (1, (.c (.a (.p (.i .i64 3)))))), (3, (1, (.c (.a (.p (.i .i64 3)))))), (4, (1, (.c (.a (.p (.i .i64 3)))))), (5, (1, (.c (.a (.p (.i .i64 2)))))), (6, (1, (.c (.a (.p (.i .i64 2)))))), (7, (1, (.c (.a (.p (.i .i64 1)))))), (10, (1, (.c (.a (.p (.i .i64 1)))))), (11, (1, (.c (.a (.p (.i .i64 3)))))), (12, (1, (.c (.a (.p (.i .i64 2)))))), (13, (1, (.c (.a (.p (.i .i64 1))))))]), .any⟩, 
  ⟨.none, .none, (.st 14 (.t 0) (.t 1)), .any⟩]) .ret)), [(.cell 0 14 true)]⟩
theorem cc54 : ccF Try.prog [(26, [0, 0]), (66, [1, 0]), (26, [9])] Try.f54 = some F54 := by kernel_rfl

/- slices.ContainsFunc[[]gossamer/api.Port,gossamer/api.Port] -/
def F55 : FnC := ⟨2, (.seq (.reg [
  ⟨(.some 4), .none, (.mv (.c (.a (.p (.b false))))), .any⟩]) (.seq (.reg [
  ⟨(.some 5), .none, (.mv (.t 0)), .any⟩, 
  ⟨(.some 6), .none, (.mv (.t 1)), .any⟩, 
  ⟨(.some 7), .none, (.call (.f 59) [(.t 5), (.t 6)]), .any⟩, 
  ⟨(.some 8), .none, (.bin .geq (.t 7) (.c (.a (.p (.i .i64 0))))), .any⟩, 
  ⟨(.some 4), .none, (.mv (.t 8)), .any⟩]) .ret)), [(.tmp 4)]⟩
theorem cc55 : ccF Try.prog [(26, [0, 0]), (66, [1, 0]), (26, [9])] Try.f55 = some F55 := by kernel_rfl

/- (gossamer/wire.net).there$1 -/
def F56 : FnC := ⟨2, (.seq (.reg [
  ⟨(.some 2), .none, (.box 2 (.t 0)), .any⟩, 
  ⟨(.some 3), .none, (.mv (.c (.a (.p (.b false))))), .any⟩]) (.seq (.reg [
  ⟨(.some 4), .none, (.fad 0 (.t 2)), .any⟩, 
  ⟨(.some 5), .none, (.ld 1 false (.t 4)), .any⟩, 
  ⟨(.some 6), .none, (.bin .lss (.t 5) (.c (.a (.p (.i .i64 0))))), .any⟩, 
  ⟨(.some 7), .none, (.mv (.t 6)), .any⟩, 
  ⟨(.some 8), (.some (7, false)), (.fad 0 (.t 2)), .rd⟩, 
  ⟨(.some 9), (.some (7, false)), (.ld 1 false (.t 8)), .rd⟩, 
  ⟨(.some 10), (.some (7, false)), (.fad 0 (.t 1)), .rd⟩, 
  ⟨(.some 11), (.some (7, false)), (.fad 0 (.t 10)), .rd⟩, 
  ⟨(.some 12), (.some (7, false)), (.ld 1 false (.t 11)), .rd⟩, 
  ⟨(.some 13), (.some (7, false)), (.len false (.t 12)), .rd⟩, 
  ⟨(.some 14), (.some (7, false)), (.bin .geq (.t 9) (.t 13)), .any⟩, 
  ⟨(.some 15), .none, (.pick (.t 7) (.c (.a (.p (.b true)))) (.t 14)), .any⟩, 
  ⟨(.some 16), .none, (.mv (.t 15)), .any⟩, 
  ⟨(.some 17), (.some (16, false)), (.fad 1 (.t 2)), .any⟩, 
  ⟨(.some 18), (.some (16, false)), (.ld 1 false (.t 17)), .any⟩, 
  ⟨(.some 19), (.some (16, false)), (.bin .lss (.t 18) (.c (.a (.p (.i .i64 0))))), .any⟩, 
  ⟨(.some 20), .none, (.pick (.t 16) (.c (.a (.p (.b true)))) (.t 19)), .any⟩, 
  ⟨(.some 21), .none, (.mv (.t 20)), .any⟩, 
  ⟨(.some 22), (.some (21, false)), (.fad 1 (.t 2)), .rd⟩, 
  ⟨(.some 23), (.some (21, false)), (.ld 1 false (.t 22)), .rd⟩, 
  ⟨(.some 24), (.some (21, false)), (.fad 0 (.t 1)), .rd⟩, 
  ⟨(.some 25), (.some (21, false)), (.fad 0 (.t 24)), .rd⟩, 
  ⟨(.some 26), (.some (21, false)), (.ld 1 false (.t 25)), .rd⟩, 
  ⟨(.some 27), (.some (21, false)), (.fad 0 (.t 2)), .rd⟩, 
  ⟨(.some 28), (.some (21, false)), (.ld 1 false (.t 27)), .rd⟩, 
  ⟨(.some 29), (.some (21, false)), (.ias 6 (.t 26) (.t 28)), .rd⟩, 
  ⟨(.some 30), (.some (21, false)), (.fad 5 (.t 29)), .rd⟩, 
  ⟨(.some 31), (.some (21, false)), (.ld 1 false (.t 30)), .rd⟩, 
  ⟨(.some 32), (.some (21, false)), (.len false (.t 31)), .rd⟩, 
  ⟨(.some 33), (.some (21, false)), (.bin .geq (.t 23) (.t 32)), .any⟩, 
  ⟨(.some 34), .none, (.pick (.t 21) (.c (.a (.p (.b true)))) (.t 33)), .any⟩, 
  ⟨(.some 3), .none, (.mv (.t 34)), .any⟩]) .ret)), [(.tmp 3)]⟩
theorem cc56 : ccF Try.prog [(26, [0, 0]), (66, [1, 0]), (26, [9])] Try.f56 = some F56 := by kernel_rfl

/- (gossamer/wire.net).with -/
def F57 : FnC := ⟨3, (.seq (.reg [
  ⟨(.some 3), .none, (.box 2 (.t 0)), .any⟩, 
  ⟨(.some 4), .none, (.box 2 (.t 1)), .any⟩, 
  ⟨(.some 5), .none, (.box 2 (.t 2)), .any⟩, 
  ⟨(.some 6), .none, (.new [.nil, (.p (.i .i64 0))]), .any⟩]) (.seq (.reg [
  ⟨(.some 8), .none, (.fad 0 (.t 3)), .any⟩, 
  ⟨(.some 9), .none, (.fad 0 (.t 8)), .any⟩, 
  ⟨(.some 10), .none, (.ld 1 false (.t 9)), .any⟩, 
  ⟨(.some 11), .none, (.fad 0 (.t 4)), .any⟩, 
  ⟨(.some 12), .none, (.ld 1 false (.t 11)), .any⟩, 
  ⟨(.some 13), .none, (.ias 6 (.t 10) (.t 12)), .any⟩, 
  ⟨(.some 14), .none, (.ld 6 true (.t 13)), .any⟩, 
  ⟨(.some 7), .none, (.new [(.p (.i .i64 0)), (.p (.i .i64 0)), (.p (.i .i64 0)), (.p (.s [])), .nil, .nil]), .any⟩, 
  ⟨.none, .none, (.st 6 (.t 7) (.t 14)), .any⟩]) (.seq (.reg [
  ⟨(.some 15), .none, (.fad 5 (.t 7)), .any⟩, 
  ⟨(.some 16), .none, (.ld 1 false (.t 15)), .any⟩, 
  ⟨(.some 17), .none, (.call (.f 60) [(.t 16)]), .any⟩, 
  ⟨(.some 18), .none, (.fad 5 (.t 7)), .any⟩, 
  ⟨.none, .none, (.st 1 (.t 18) (.t 17)), .any⟩]) (.seq (.reg [
  ⟨(.some 19), .none, (.fad 5 (.t 7)), .any⟩, 
  ⟨(.some 20), .none, (.ld 1 false (.t 19)), .any⟩, 
  ⟨(.some 21), .none, (.fad 1 (.t 4)), .any⟩, 
  ⟨(.some 22), .none, (.ld 1 false (.t 21)), .any⟩, 
  ⟨(.some 23), .none, (.ld 2 true (.t 5)), .any⟩, 
  ⟨(.some 24), .none, (.ias 2 (.t 20) (.t 22)), .any⟩, 
  ⟨.none, .none, (.st 2 (.t 24) (.t 23)), .any⟩]) (.seq (.reg [
  ⟨(.some 25), .none, (.fad 0 (.t 3)), .any⟩, 
  ⟨(.some 26), .none, (.fad 0 (.t 25)), .any⟩, 
  ⟨(.some 27), .none, (.ld 1 false (.t 26)), .any⟩, 
  ⟨(.some 28), .none, (.call (.f 61) [(.t 27)]), .any⟩, 
  ⟨(.some 29), .none, (.fad 0 (.t 3)), .any⟩, 
  ⟨(.some 30), .none, (.fad 0 (.t 29)), .any⟩, 
  ⟨.none, .none, (.st 1 (.t 30) (.t 28)), .any⟩]) (.seq (.reg [
  ⟨(.some 31), .none, (.fad 0 (.t 3)), .any⟩, 
  ⟨(.some 32), .none, (.fad 0 (.t 31)), .any⟩, 
  ⟨(.some 33), .none, (.ld 1 false (.t 32)), .any⟩, 
  ⟨(.some 34), .none, (.fad 0 (.t 4)), .any⟩, 
  ⟨(.some 35), .none, (.ld 1 false (.t 34)), .any⟩, 
  ⟨(.some 36), .none, (.ld 6 true (.t 7)), .any⟩, 
  ⟨(.some 37), .none, (.ias 6 (.t 33) (.t 35)), .any⟩, 
  ⟨.none, .none, (.st 6 (.t 37) (.t 36)), .any⟩]) (.seq (.reg [
  ⟨(.some 38), .none, (.ld 2 true (.t 3)), .any⟩, 
  ⟨.none, .none, (.st 2 (.t 6) (.t 38)), .any⟩]) .ret))))))), [(.cell 6 2 true)]⟩
theorem cc57 : ccF Try.prog [(26, [0, 0]), (66, [1, 0]), (26, [9])] Try.f57 = some F57 := by kernel_rfl

/- gossamer/store.alternatives -/
def F58b0 : C := (.seq (.reg [
  ⟨(.some 17), .none, (.bin .lss (.t 16) (.t 15)), .any⟩]) (.seq (.cond (.t 17) .skip (.exit 0)) (.seq (.block 1 (.seq (.reg [
  ⟨(.some 18), .none, (.mv (.t 16)), .any⟩, 
  ⟨(.some 19), .none, (.ias 2 (.t 14) (.t 16)), .any⟩, 
  ⟨(.some 20), .none, (.ld 2 true (.t 19)), .any⟩, 
  ⟨(.some 4), .none, (.new [(.p (.s [])), (.p (.i .i64 0))]), .any⟩, 
  ⟨(.some 3), .none, (.mv (.t 18)), .any⟩, 
  ⟨.none, .none, (.st 2 (.t 4) (.t 20)), .any⟩]) (.seq (.reg [
  ⟨(.some 21), .none, (.fn 62 [(.t 4)]), .any⟩, 
  ⟨(.some 5), .none, (.mv (.t 21)), .any⟩]) (.seq (.reg [
  ⟨(.some 22), .none, (.fad 0 (.t 4)), .any⟩, 
  ⟨(.some 23), .none, (.ld 1 false (.t 22)), .any⟩, 
  ⟨(.some 24), .none, (.bin .eql (.t 23) (.c (.a (.p (.s []))))), .any⟩, 
  ⟨(.some 25), .none, (.mv (.t 24)), .any⟩, 
  ⟨(.some 26), (.some (25, false)), (.fad 1 (.t 4)), .any⟩, 
  ⟨(.some 27), (.some (25, false)), (.ld 1 false (.t 26)), .any⟩, 
  ⟨(.some 28), (.some (25, false)), (.call (.f 52) [(.t 27), (.c (.a (.p (.i .i64 0)))), (.c (.a (.p (.i .i64 8))))]), .any⟩, 
  ⟨(.some 29), (.some (25, false)), (.not (.t 28)), .any⟩, 
  ⟨(.some 30), .none, (.pick (.t 25) (.c (.a (.p (.b true)))) (.t 29)), .any⟩, 
  ⟨(.some 31), .none, (.mv (.t 30)), .any⟩, 
  ⟨(.some 32), (.some (31, false)), (.fad 4 (.t 1)), .any⟩, 
  ⟨(.some 33), (.some (31, false)), (.ld 1 false (.t 32)), .any⟩, 
  ⟨(.some 34), (.some (31, false)), (.mv (.t 3)), .any⟩, 
  ⟨(.some 35), (.some (31, false)), (.slc 2 66 (.t 33) .none (.some (.t 34)) .none), .any⟩, 
  ⟨(.some 36), (.some (31, false)), (.mv (.t 5)), .any⟩, 
  ⟨(.some 37), (.some (31, false)), (.call (.f 63) [(.t 35), (.t 36)]), .any⟩, 
  ⟨(.some 38), .none, (.pick (.t 31) (.c (.a (.p (.b true)))) (.t 37)), .any⟩]) (.cond (.t 38) (.seq (.reg [
  ⟨(.some 2), .none, (.mv (.c (.a (.p (.b false))))), .any⟩]) .ret) .skip))))) (.reg [
  ⟨(.some 39), .none, (.bin .add (.t 16) (.c (.a (.p (.i .i64 1))))), .any⟩, 
  ⟨(.some 16), .none, (.mv (.t 39)), .any⟩]))))
def F58 : FnC := ⟨1, (.seq (.reg [
  ⟨(.some 1), .none, (.box 6 (.t 0)), .any⟩, 
  ⟨(.some 2), .none, (.mv (.c (.a (.p (.b false))))), .any⟩]) (.seq (.seq (.reg [
  ⟨(.some 6), .none, (.fad 0 (.t 1)), .any⟩, 
  ⟨(.some 7), .none, (.ld 1 false (.t 6)), .any⟩, 
  ⟨(.some 8), .none, (.bin .neq (.t 7) (.c (.a (.p (.i .i64 9))))), .any⟩]) (.cond (.t 8) (.seq (.reg [
  ⟨(.some 9), .none, (.fad 4 (.t 1)), .any⟩, 
  ⟨(.some 10), .none, (.ld 1 false (.t 9)), .any⟩, 
  ⟨(.some 11), .none, (.len false (.t 10)), .any⟩, 
  ⟨(.some 12), .none, (.bin .eql (.t 11) (.c (.a (.p (.i .i64 0))))), .any⟩, 
  ⟨(.some 2), .none, (.mv (.t 12)), .any⟩]) .ret) .skip)) (.seq (.seq (.reg [
  ⟨(.some 13), .none, (.fad 4 (.t 1)), .any⟩, 
  ⟨(.some 14), .none, (.ld 1 false (.t 13)), .any⟩, 
  ⟨(.some 15), .none, (.len false (.t 14)), .any⟩, 
  ⟨(.some 16), .none, (.mv (.c (.a (.p (.i .i64 0))))), .any⟩]) (.block 0 (.loop F58b0))) (.seq (.reg [
  ⟨(.some 40), .none, (.fad 4 (.t 1)), .any⟩, 
  ⟨(.some 41), .none, (.ld 1 false (.t 40)), .any⟩, 
  ⟨(.some 42), .none, (.len false (.t 41)), .any⟩, 
  ⟨(.some 43), .none, (.call (.f 52) [(.t 42), (.c (.a (.p (.i .i64 1)))), (.c (.a (.p (.i .i64 8))))]), .any⟩, 
  ⟨(.some 2), .none, (.mv (.t 43)), .any⟩]) .ret)))), [(.tmp 2)]⟩
theorem cc58 : ccF Try.prog [(26, [0, 0]), (66, [1, 0]), (26, [9])] Try.f58 = some F58 := by kernel_rfl

/- slices.IndexFunc[[]gossamer/api.Port,gossamer/api.Port] -/
def F59b0 : C := (.seq (.reg [
  ⟨(.some 9), .none, (.bin .lss (.t 8) (.t 7)), .any⟩]) (.seq (.cond (.t 9) .skip (.exit 0)) (.seq (.block 1 (.seq (.reg [
  ⟨(.some 10), .none, (.mv (.t 8)), .any⟩, 
  ⟨(.some 5), .none, (.mv (.t 10)), .any⟩]) (.seq (.reg [
  ⟨(.some 11), .none, (.mv (.t 1)), .any⟩, 
  ⟨(.some 12), .none, (.mv (.t 0)), .any⟩, 
  ⟨(.some 13), .none, (.mv (.t 5)), .any⟩, 
  ⟨(.some 14), .none, (.ias 2 (.t 12) (.t 13)), .any⟩, 
  ⟨(.some 15), .none, (.ld 2 true (.t 14)), .any⟩, 
  ⟨(.some 16), .none, (.call (.t 11) [(.t 15)]), .any⟩]) (.cond (.t 16) (.seq (.reg [
  ⟨(.some 17), .none, (.mv (.t 5)), .any⟩, 
  ⟨(.some 4), .none, (.mv (.t 17)), .any⟩]) .ret) .skip)))) (.reg [
  ⟨(.some 18), .none, (.bin .add (.t 8) (.c (.a (.p (.i .i64 1))))), .any⟩, 
  ⟨(.some 8), .none, (.mv (.t 18)), .any⟩]))))
def F59 : FnC := ⟨2, (.seq (.reg [
  ⟨(.some 4), .none, (.mv (.c (.a (.p (.i .i64 0))))), .any⟩]) (.seq (.seq (.reg [
  ⟨(.some 6), .none, (.mv (.t 0)), .any⟩, 
  ⟨(.some 7), .none, (.len false (.t 6)), .any⟩, 
  ⟨(.some 8), .none, (.mv (.c (.a (.p (.i .i64 0))))), .any⟩]) (.block 0 (.loop F59b0))) (.seq (.reg [
  ⟨(.some 4), .none, (.mv (.c (.a (.p (.i .i64 (-1)))))), .any⟩]) .ret))), [(.tmp 4)]⟩
theorem cc59 : ccF Try.prog [(26, [0, 0]), (66, [1, 0]), (26, [9])] Try.f59 = some F59 := by kernel_rfl

/- slices.Clone[[]gossamer/api.Port,gossamer/api.Port] -/
def F60 : FnC := ⟨1, (.seq (.reg [
  ⟨(.some 2), .none, (.mv (.c (.a .nil))), .any⟩]) (.seq (.seq (.reg [
  ⟨(.some 3), .none, (.mv (.t 0)), .any⟩, 
  ⟨(.some 4), .none, (.nq false (.t 3)), .any⟩]) (.cond (.t 4) (.seq (.reg [
  ⟨(.some 2), .none, (.mv (.c (.a .nil))), .any⟩]) .ret) .skip)) (.seq (.reg [
  ⟨(.some 5), .none, (.bsl 2 26 [(.p (.i .i64 0)), (.p (.i .i64 0))] 0 []), .any⟩, 
  ⟨(.some 6), .none, (.mv (.t 0)), .any⟩, 
  ⟨(.some 7), .none, (.app 2 26 16 (.t 5) (.t 6)), .any⟩, 
  ⟨(.some 2), .none, (.mv (.t 7)), .any⟩]) .ret))), [(.tmp 2)]⟩
theorem cc60 : ccF Try.prog [(26, [0, 0]), (66, [1, 0]), (26, [9])] Try.f60 = some F60 := by kernel_rfl

/- slices.Clone[[]gossamer/api.Node,gossamer/api.Node] -/
def F61 : FnC := ⟨1, (.seq (.reg [
  ⟨(.some 2), .none, (.mv (.c (.a .nil))), .any⟩]) (.seq (.seq (.reg [
  ⟨(.some 3), .none, (.mv (.t 0)), .any⟩, 
  ⟨(.some 4), .none, (.nq false (.t 3)), .any⟩]) (.cond (.t 4) (.seq (.reg [
  ⟨(.some 2), .none, (.mv (.c (.a .nil))), .any⟩]) .ret) .skip)) (.seq (.reg [
  ⟨(.some 5), .none, (.bsl 6 43 [(.p (.i .i64 0)), (.p (.i .i64 0)), (.p (.i .i64 0)), (.p (.s [])), .nil, .nil] 0 []), .any⟩, 
  ⟨(.some 6), .none, (.mv (.t 0)), .any⟩, 
  ⟨(.some 7), .none, (.app 6 43 88 (.t 5) (.t 6)), .any⟩, 
  ⟨(.some 2), .none, (.mv (.t 7)), .any⟩]) .ret))), [(.tmp 2)]⟩
theorem cc61 : ccF Try.prog [(26, [0, 0]), (66, [1, 0]), (26, [9])] Try.f61 = some F61 := by kernel_rfl

/- gossamer/store.alternatives$1 -/
def F62 : FnC := ⟨2, (.seq (.reg [
  ⟨(.some 2), .none, (.box 2 (.t 0)), .any⟩, 
  ⟨(.some 3), .none, (.mv (.c (.a (.p (.b false))))), .any⟩]) (.seq (.reg [
  ⟨(.some 4), .none, (.fad 0 (.t 2)), .any⟩, 
  ⟨(.some 5), .none, (.ld 1 false (.t 4)), .any⟩, 
  ⟨(.some 6), .none, (.fad 0 (.t 1)), .any⟩, 
  ⟨(.some 7), .none, (.ld 1 false (.t 6)), .any⟩, 
  ⟨(.some 8), .none, (.bin .eql (.t 5) (.t 7)), .any⟩, 
  ⟨(.some 3), .none, (.mv (.t 8)), .any⟩]) .ret)), [(.tmp 3)]⟩
theorem cc62 : ccF Try.prog [(26, [0, 0]), (66, [1, 0]), (26, [9])] Try.f62 = some F62 := by kernel_rfl

/- slices.ContainsFunc[[]gossamer/api.Arity,gossamer/api.Arity] -/
def F63 : FnC := ⟨2, (.seq (.reg [
  ⟨(.some 4), .none, (.mv (.c (.a (.p (.b false))))), .any⟩]) (.seq (.reg [
  ⟨(.some 5), .none, (.mv (.t 0)), .any⟩, 
  ⟨(.some 6), .none, (.mv (.t 1)), .any⟩, 
  ⟨(.some 7), .none, (.call (.f 64) [(.t 5), (.t 6)]), .any⟩, 
  ⟨(.some 8), .none, (.bin .geq (.t 7) (.c (.a (.p (.i .i64 0))))), .any⟩, 
  ⟨(.some 4), .none, (.mv (.t 8)), .any⟩]) .ret)), [(.tmp 4)]⟩
theorem cc63 : ccF Try.prog [(26, [0, 0]), (66, [1, 0]), (26, [9])] Try.f63 = some F63 := by kernel_rfl

/- slices.IndexFunc[[]gossamer/api.Arity,gossamer/api.Arity] -/
def F64b0 : C := (.seq (.reg [
  ⟨(.some 9), .none, (.bin .lss (.t 8) (.t 7)), .any⟩]) (.seq (.cond (.t 9) .skip (.exit 0)) (.seq (.block 1 (.seq (.reg [
  ⟨(.some 10), .none, (.mv (.t 8)), .any⟩, 
  ⟨(.some 5), .none, (.mv (.t 10)), .any⟩]) (.seq (.reg [
  ⟨(.some 11), .none, (.mv (.t 1)), .any⟩, 
  ⟨(.some 12), .none, (.mv (.t 0)), .any⟩, 
  ⟨(.some 13), .none, (.mv (.t 5)), .any⟩, 
  ⟨(.some 14), .none, (.ias 2 (.t 12) (.t 13)), .any⟩, 
  ⟨(.some 15), .none, (.ld 2 true (.t 14)), .any⟩, 
  ⟨(.some 16), .none, (.call (.t 11) [(.t 15)]), .any⟩]) (.cond (.t 16) (.seq (.reg [
  ⟨(.some 17), .none, (.mv (.t 5)), .any⟩, 
  ⟨(.some 4), .none, (.mv (.t 17)), .any⟩]) .ret) .skip)))) (.reg [
  ⟨(.some 18), .none, (.bin .add (.t 8) (.c (.a (.p (.i .i64 1))))), .any⟩, 
  ⟨(.some 8), .none, (.mv (.t 18)), .any⟩]))))
def F64 : FnC := ⟨2, (.seq (.reg [
  ⟨(.some 4), .none, (.mv (.c (.a (.p (.i .i64 0))))), .any⟩]) (.seq (.seq (.reg [
  ⟨(.some 6), .none, (.mv (.t 0)), .any⟩, 
  ⟨(.some 7), .none, (.len false (.t 6)), .any⟩, 
  ⟨(.some 8), .none, (.mv (.c (.a (.p (.i .i64 0))))), .any⟩]) (.block 0 (.loop F64b0))) (.seq (.reg [
  ⟨(.some 4), .none, (.mv (.c (.a (.p (.i .i64 (-1)))))), .any⟩]) .ret))), [(.tmp 4)]⟩
theorem cc64 : ccF Try.prog [(26, [0, 0]), (66, [1, 0]), (26, [9])] Try.f64 = some F64 := by kernel_rfl

def tbl : List (FuncId × FnC) := [(3, F3), (4, F4), (5, F5), (6, F6), (7, F7), (8, F8), (9, F9), (10, F10), (11, F11), (12, F12), (13, F13), (14, F14), (15, F15), (16, F16), (17, F17), (18, F18), (19, F19), (20, F20), (21, F21), (22, F22), (23, F23), (24, F24), (25, F25), (26, F26), (27, F27), (28, F28), (29, F29), (30, F30), (31, F31), (32, F32), (33, F33), (34, F34), (35, F35), (36, F36), (37, F37), (38, F38), (39, F39), (40, F40), (41, F41), (42, F42), (43, F43), (44, F44), (45, F45), (46, F46), (47, F47), (48, F48), (49, F49), (50, F50), (51, F51), (52, F52), (53, F53), (54, F54), (55, F55), (56, F56), (57, F57), (58, F58), (59, F59), (60, F60), (61, F61), (62, F62), (63, F63), (64, F64)]

theorem tblOk : ∀ x, x ∈ tbl → ∃ fn, Try.prog.funcs[x.1]? = some fn ∧ ccF Try.prog [(26, [0, 0]), (66, [1, 0]), (26, [9])] fn = some x.2 := by
  intro x hx
  simp only [tbl, List.mem_cons, List.not_mem_nil, or_false] at hx
  rcases hx with rfl | rfl | rfl | rfl | rfl | rfl | rfl | rfl | rfl | rfl | rfl | rfl | rfl | rfl | rfl | rfl | rfl | rfl | rfl | rfl | rfl | rfl | rfl | rfl | rfl | rfl | rfl | rfl | rfl | rfl | rfl | rfl | rfl | rfl | rfl | rfl | rfl | rfl | rfl | rfl | rfl | rfl | rfl | rfl | rfl | rfl | rfl | rfl | rfl | rfl | rfl | rfl | rfl | rfl | rfl | rfl | rfl | rfl | rfl | rfl | rfl | rfl
  · exact ⟨_, Try.func3, cc3⟩
  · exact ⟨_, Try.func4, cc4⟩
  · exact ⟨_, Try.func5, cc5⟩
  · exact ⟨_, Try.func6, cc6⟩
  · exact ⟨_, Try.func7, cc7⟩
  · exact ⟨_, Try.func8, cc8⟩
  · exact ⟨_, Try.func9, cc9⟩
  · exact ⟨_, Try.func10, cc10⟩
  · exact ⟨_, Try.func11, cc11⟩
  · exact ⟨_, Try.func12, cc12⟩
  · exact ⟨_, Try.func13, cc13⟩
  · exact ⟨_, Try.func14, cc14⟩
  · exact ⟨_, Try.func15, cc15⟩
  · exact ⟨_, Try.func16, cc16⟩
  · exact ⟨_, Try.func17, cc17⟩
  · exact ⟨_, Try.func18, cc18⟩
  · exact ⟨_, Try.func19, cc19⟩
  · exact ⟨_, Try.func20, cc20⟩
  · exact ⟨_, Try.func21, cc21⟩
  · exact ⟨_, Try.func22, cc22⟩
  · exact ⟨_, Try.func23, cc23⟩
  · exact ⟨_, Try.func24, cc24⟩
  · exact ⟨_, Try.func25, cc25⟩
  · exact ⟨_, Try.func26, cc26⟩
  · exact ⟨_, Try.func27, cc27⟩
  · exact ⟨_, Try.func28, cc28⟩
  · exact ⟨_, Try.func29, cc29⟩
  · exact ⟨_, Try.func30, cc30⟩
  · exact ⟨_, Try.func31, cc31⟩
  · exact ⟨_, Try.func32, cc32⟩
  · exact ⟨_, Try.func33, cc33⟩
  · exact ⟨_, Try.func34, cc34⟩
  · exact ⟨_, Try.func35, cc35⟩
  · exact ⟨_, Try.func36, cc36⟩
  · exact ⟨_, Try.func37, cc37⟩
  · exact ⟨_, Try.func38, cc38⟩
  · exact ⟨_, Try.func39, cc39⟩
  · exact ⟨_, Try.func40, cc40⟩
  · exact ⟨_, Try.func41, cc41⟩
  · exact ⟨_, Try.func42, cc42⟩
  · exact ⟨_, Try.func43, cc43⟩
  · exact ⟨_, Try.func44, cc44⟩
  · exact ⟨_, Try.func45, cc45⟩
  · exact ⟨_, Try.func46, cc46⟩
  · exact ⟨_, Try.func47, cc47⟩
  · exact ⟨_, Try.func48, cc48⟩
  · exact ⟨_, Try.func49, cc49⟩
  · exact ⟨_, Try.func50, cc50⟩
  · exact ⟨_, Try.func51, cc51⟩
  · exact ⟨_, Try.func52, cc52⟩
  · exact ⟨_, Try.func53, cc53⟩
  · exact ⟨_, Try.func54, cc54⟩
  · exact ⟨_, Try.func55, cc55⟩
  · exact ⟨_, Try.func56, cc56⟩
  · exact ⟨_, Try.func57, cc57⟩
  · exact ⟨_, Try.func58, cc58⟩
  · exact ⟨_, Try.func59, cc59⟩
  · exact ⟨_, Try.func60, cc60⟩
  · exact ⟨_, Try.func61, cc61⟩
  · exact ⟨_, Try.func62, cc62⟩
  · exact ⟨_, Try.func63, cc63⟩
  · exact ⟨_, Try.func64, cc64⟩

end Go.Proofs.Ytgdaanehmdgmeaa
