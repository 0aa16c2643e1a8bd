/- Part 3 of what is proved for the law TurnLast: it returns true, whatever the input. No condition. -/
import Derived.Test.YtmlhgalboabjcaaGreatProg
import Derived.IntWalk
import Derived.Test.YtmlhgalboabjcaaGreatPTurnLastb
set_option maxHeartbeats 8000000
set_option maxRecDepth 100000
set_option linter.unusedSimpArgs false
set_option linter.unusedVariables false
namespace Go.Proofs.YtmlhgalboabjcaaGreat
open Go.Fx
noncomputable abbrev CK(f:Func):=ccF Tryz.prog [(42,[0,0]),(107,[1,0]),(74,[0,0]),(36,[0,0,0,0,0,0,0,0,0]),(160,[0,0]),(42,[9]),(105,[8]),(107,[8]),(75,[8]),(106,[8]),(79,[8])] f
def F3:FnC:=⟨3,(HX [ia 3 (bA 4 0),ia 6 (.mv xF)] (.seq (HX [ia 21 (cA 7),ia 22 (oA 21),ia 23 (mA 22),ig 24 23 false (lB 4 3),ig 25 23 false (.call (.f 8) [(.t 24),(ci 60)]),ig 26 23 false (oA 25),ia 27 (pA 23 26),ia 28 (mA 27),ig 29 28 false (lB 4 3),ig 30 28 false (cB 9 29),ig 31 28 false (bC .gtr 30 30),
 ia 32 (pA 28 31),ia 33 (mA 32),ig 34 33 false (lB 4 3),ig 35 33 false (.call (.f 10) [(.t 34),(ci 0)]),ig 36 33 false (oA 35),ia 37 (pA 33 36),ia 38 (mA 37),ig 39 38 false (mA 1),ig 40 38 false (nA 39),ig 41 38 false (bC .gtr 40 10),ia 42 (pA 38 41),ia 43 (mA 42),ig 44 43 false (mA 2),ig 45 43 false (bC .lss 44 0),
 ia 46 (pA 43 45),ia 47 (mA 46),ig 48 47 false (mA 2),ig 49 47 false (bC .gtr 48 60),ia 50 (pA 47 49)] (HW 50 (HX [ia 51 (cA 7),ia 6 (mA 51)] .ret) .skip)) (HX [ia 53 (lB 4 3),ia 54 (.call (.f 11) [(.t 53),(ci 4000)]),ia 52 (mA 54),ia 55 (eA 52 0),ia 56 (eA 52 1),ia 7 (.new [.nil,(.p (.i .i64 0))]),
 io (sA 2 7 55),ia 8 (mA 56)] (HX [ia 58 (lB 2 7),ia 59 (mA 1),ia 60 (cC 12 58 59),ia 57 (mA 60),ia 61 (eA 57 0),ia 62 (eA 57 1),ia 63 (eA 57 2),ia 9 (.new [.nil,(.p (.i .i64 0))]),ia 10 (.new [(.p (.i .i64 0)),(.p (.i .i64 0)),(.p (.i .i64 0)),(.p (.i .i64 0)),(.p (.i .i64 0)),(.p (.i .i64 0)),(.p (.i .i64 0)),(.p (.i .i64 0)),(.p (.i .i64 0))]),
 io (sA 2 9 61),io (sA 9 10 62),ia 11 (mA 63)] (HX [ia 65 (lB 2 9),ia 66 (.build [(.p (.i .i64 0)),(.p (.i .i64 0))] []),ia 67 (mA 2),ia 68 (cD 13 65 66 67),ia 64 (mA 68),ia 69 (eA 64 0),ia 70 (eA 64 1),ia 71 (eA 64 2),ia 72 (eA 64 3),ia 12 (.new [.nil,(.p (.i .i64 0))]),ia 14 (.new [(.p (.i .i64 0)),(.p (.i .i64 0)),(.p (.i .i64 0)),(.p (.i .i64 0)),(.p (.i .i64 0)),(.p (.i .i64 0)),(.p (.i .i64 0)),(.p (.i .i64 0)),(.p (.i .i64 0))]),
 io (sA 2 12 69),ia 13 (mA 70),io (sA 9 14 71),ia 15 (mA 72)] (.seq (HX [ia 73 (mA 11),ia 74 (bC .neq 73 0),ia 75 (mA 74),ig 76 75 false (mA 15),ig 77 75 false (bC .neq 76 0),ia 78 (pA 75 77)] (HW 78 (HX [ia 79 (mA 11),ia 80 (bC .eql 79 0),ia 81 (mA 80),ig 82 81 true (mA 15),ig 83 81 true (bC .eql 82 90),
 ig 84 81 true (mA 83),ig 85 84 false (mA 15),ig 86 84 false (bC .eql 85 121),ig 87 81 true (pA 84 86),ig 88 81 true (mA 87),ig 89 88 false (mA 15),ig 90 88 false (bC .eql 89 141),ig 91 81 true (pA 88 90),ia 92 (pB 81 91),ia 93 (mA 92),ig 94 93 false (mA 11),ig 95 93 false (bC .eql 94 121),ia 96 (pA 93 95),
 ia 6 (mA 96)] .ret) .skip)) (HX [ia 98 (lB 2 12),ia 99 (.build [(.p (.i .i64 0)),(.p (.i .i64 0))] []),ia 100 (.call (.f 13) [(.t 98),(.t 99),(ci 0)]),ia 97 (mA 100),ia 101 (eA 97 0),ia 102 (eA 97 1),ia 103 (eA 97 2),ia 104 (eA 97 3),ia 16 (.new [.nil,(.p (.i .i64 0))]),ia 18 (.new [(.p (.i .i64 0)),(.p (.i .i64 0)),(.p (.i .i64 0)),(.p (.i .i64 0)),(.p (.i .i64 0)),(.p (.i .i64 0)),(.p (.i .i64 0)),(.p (.i .i64 0)),(.p (.i .i64 0))]),
 io (sA 2 16 101),ia 17 (mA 102),io (sA 9 18 103),ia 19 (mA 104)] (.seq (HX [ia 105 (mA 13),ia 106 (bC .lss 105 1),ia 107 (mA 106),ig 108 107 false (mA 13),ig 109 107 false (fA 0 12),ig 110 107 false (lA 1 109),ig 111 107 false (nA 110),ig 112 107 false (bB .geq 108 111),ia 113 (pA 107 112)] (HW 113 (HX [
 ia 6 (.mv xF)] .ret) .skip)) (HX [ia 114 (fA 0 12),ia 115 (lA 1 114),ia 116 (mA 13),ia 117 (aA 6 115 116),ia 118 (fA 0 117),ia 119 (lA 1 118),ia 20 (mA 119)] (HX [ia 120 (mA 20),ia 121 (cB 14 120),ia 122 (mA 121),ig 123 122 true (lB 2 12),ig 124 122 true (lB 2 16),ig 125 122 true (cC 15 123 124),ia 126 (pB 122 125),
 ia 127 (mA 126),ig 128 127 true (mA 17),ig 129 127 true (mA 13),ig 130 127 true (bB .eql 128 129),ia 131 (pB 127 130),ia 132 (mA 131),ig 133 132 true (lB 9 18),ig 134 132 true (cB 16 133),ig 135 132 true (bC .eql 134 0),ia 136 (pB 132 135),ia 137 (mA 136),ig 138 137 true (mA 19),ig 139 137 true (bC .eql 138 0),
 ia 140 (pB 137 139),ia 6 (mA 140)] .ret)))))))))),[(.tmp 6)]⟩
theorem cc3:CK Tryz.f3=some (lH F3):=by kernel_rfl
def F5b0:C:=(.seq (HX [ia 111 (mA 19),ia 112 (bC .lss 111 9)] (HW 112 .skip (.exit 0))) (.seq (.block 1 (.reg [ir 115 (mA 19),ir 116 (.iaa 9 1 (.t 17) (.t 115)),ir 117 (lA 1 116),ir 118 (mA 19),ir 119 (.iaa 9 1 (.t 9) (.t 118)),ir 120 (lA 1 119),ia 121 (bB .add 117 120),ia 122 (.iaa 9 1 (.t 17) (.t 115)),
 io (sA 1 122 121)])) (.reg [ia 113 (mA 19),ia 114 (bC .add 113 1),ia 19 (mA 114)])))
def F5:FnC:=⟨3,(HX [ia 3 (bA 2 0),ia 6 (.mv xF)] (.seq (HX [ia 20 (cA 7),ia 21 (oA 20),ia 22 (mA 21),ig 23 22 false (lB 2 3),ig 24 22 false (.call (.f 17) [(.t 23),(ci 120)]),ig 25 22 false (oA 24),ia 26 (pA 22 25),ia 27 (mA 26),ig 28 27 false (lB 2 3),ig 29 27 false (cB 18 28),ig 30 27 false (bC .neq 29 0),
 ia 31 (pA 27 30),ia 32 (mA 31),ig 33 32 false (mA 1),ig 34 32 false (bC .lss 33 0),ia 35 (pA 32 34),ia 36 (mA 35),ig 37 36 false (mA 2),ig 38 36 false (mA 1),ig 39 36 false (bB .lss 37 38),ia 40 (pA 36 39),ia 41 (mA 40),ig 42 41 false (mA 2),ig 43 41 false (bC .gtr 42 40),ia 44 (pA 41 43)] (HW 44 (HX [
 ia 45 (cA 7),ia 6 (mA 45)] .ret) .skip)) (HX [ia 47 (lB 2 3),ia 48 (.build [(.p (.i .i64 0)),(.p (.i .i64 0))] []),ia 49 (mA 1),ia 50 (cD 13 47 48 49),ia 46 (mA 50),ia 51 (eA 46 0),ia 52 (eA 46 1),ia 53 (eA 46 2),ia 54 (eA 46 3),ia 7 (.new [.nil,(.p (.i .i64 0))]),ia 9 (.new [(.p (.i .i64 0)),(.p (.i .i64 0)),(.p (.i .i64 0)),(.p (.i .i64 0)),(.p (.i .i64 0)),(.p (.i .i64 0)),(.p (.i .i64 0)),(.p (.i .i64 0)),(.p (.i .i64 0))]),
 io (sA 2 7 51),ia 8 (mA 52),io (sA 9 9 53),ia 10 (mA 54)] (.seq (HX [ia 55 (lB 2 7),ia 56 (cB 18 55),ia 57 (bC .neq 56 0),ia 58 (mA 57),ig 59 58 false (fA 1 7),ig 60 58 false (lA 1 59),ig 61 58 false (fA 1 3),ig 62 58 false (lA 1 61),ig 63 58 false (bB .neq 60 62),ia 64 (pA 58 63),ia 65 (mA 64),ig 66 65 false (lB 9 9),
 ig 67 65 false (cB 16 66),ig 68 65 false (mA 1),ig 69 65 false (bB .gtr 67 68),ia 70 (pA 65 69)] (HW 70 (HX [ia 6 (.mv xF)] .ret) .skip)) (HX [ia 72 (lB 2 3),ia 73 (.build [(.p (.i .i64 0)),(.p (.i .i64 0))] []),ia 74 (mA 2),ia 75 (cD 13 72 73 74),ia 71 (mA 75),ia 76 (eA 71 0),ia 77 (eA 71 1),ia 78 (eA 71 2),
 ia 79 (eA 71 3),ia 11 (.new [.nil,(.p (.i .i64 0))]),ia 13 (.new [(.p (.i .i64 0)),(.p (.i .i64 0)),(.p (.i .i64 0)),(.p (.i .i64 0)),(.p (.i .i64 0)),(.p (.i .i64 0)),(.p (.i .i64 0)),(.p (.i .i64 0)),(.p (.i .i64 0))]),io (sA 2 11 76),ia 12 (mA 77),io (sA 9 13 78),ia 14 (mA 79)] (.seq (HX [
 ia 80 (mA 10),ia 81 (bC .neq 80 90)] (HW 81 (HX [ia 82 (lB 2 7),ia 83 (lB 2 11),ia 84 (cC 15 82 83),ia 85 (mA 84),ig 86 85 true (mA 8),ig 87 85 true (mA 12),ig 88 85 true (bB .eql 86 87),ia 89 (pB 85 88),ia 90 (mA 89),ig 91 90 true (lB 9 9),ig 92 90 true (lB 9 13),ig 93 90 true (.eqg false [0,0,0,0,0,0,0,0,0] (.t 91) (.t 92)),
 ia 94 (pB 90 93),ia 95 (mA 94),ig 96 95 true (mA 10),ig 97 95 true (mA 14),ig 98 95 true (bB .eql 96 97),ia 99 (pB 95 98),ia 6 (mA 99)] .ret) .skip)) (HX [ia 101 (lB 2 7),ia 102 (.build [(.p (.i .i64 0)),(.p (.i .i64 0))] []),ia 103 (mA 2),ia 104 (mA 1),ia 105 (bB .sub 103 104),ia 106 (cD 13 101 102 105),
 ia 100 (mA 106),ia 107 (eA 100 0),ia 108 (eA 100 1),ia 109 (eA 100 2),ia 110 (eA 100 3),ia 15 (.new [.nil,(.p (.i .i64 0))]),ia 17 (.new [(.p (.i .i64 0)),(.p (.i .i64 0)),(.p (.i .i64 0)),(.p (.i .i64 0)),(.p (.i .i64 0)),(.p (.i .i64 0)),(.p (.i .i64 0)),(.p (.i .i64 0)),(.p (.i .i64 0))]),
 io (sA 2 15 107),ia 16 (mA 108),io (sA 9 17 109),ia 18 (mA 110)] (.seq (HX [ia 19 (mI 0)] (.block 0 (.loop F5b0))) (HX [ia 123 (lB 9 9),ia 124 (cB 16 123),ia 125 (mA 1),ia 126 (bB .eql 124 125),ia 127 (mA 126),ig 128 127 true (lB 2 11),ig 129 127 true (lB 2 15),ig 130 127 true (cC 15 128 129),ia 131 (pB 127 130),
 ia 132 (mA 131),ig 133 132 true (mA 12),ig 134 132 true (mA 16),ig 135 132 true (bB .eql 133 134),ia 136 (pB 132 135),ia 137 (mA 136),ig 138 137 true (lB 9 13),ig 139 137 true (lB 9 17),ig 140 137 true (.eqg false [0,0,0,0,0,0,0,0,0] (.t 138) (.t 139)),ia 141 (pB 137 140),ia 142 (mA 141),ig 143 142 true (mA 14),
 ig 144 142 true (mA 18),ig 145 142 true (bB .eql 143 144),ia 146 (pB 142 145),ia 147 (mA 146),ig 148 147 true (lB 2 11),ig 149 147 true (cB 18 148),ig 150 147 true (bC .eql 149 0),ia 151 (pB 147 150),ia 6 (mA 151)] .ret))))))))),[(.tmp 6)]⟩
theorem cc5:CK Tryz.f5=some (lH F5):=by kernel_rfl
def F7:FnC:=⟨0,(HX [ia 0 (.mv xF)] (HX [ia 25 (.call (.f 23) [(.c (.a (.p (.s [40,92,120,46,32,120,41,32,55])))),(ci 99)]),ia 26 (.build [(.p (.i .i64 0)),(.p (.i .i64 0))] []),ia 27 (.call (.f 13) [(.t 25),(.t 26),(ci 9)]),ia 24 (mA 27),ia 28 (eA 24 0),ia 29 (eA 24 1),ia 30 (eA 24 2),
 ia 31 (eA 24 3),ia 1 (.new [.nil,(.p (.i .i64 0))]),ia 3 (.new [(.p (.i .i64 0)),(.p (.i .i64 0)),(.p (.i .i64 0)),(.p (.i .i64 0)),(.p (.i .i64 0)),(.p (.i .i64 0)),(.p (.i .i64 0)),(.p (.i .i64 0)),(.p (.i .i64 0))]),io (sA 2 1 28),ia 2 (mA 29),io (sA 9 3 30),ia 4 (mA 31)] (HX [ia 33 (.call (.f 23) [(.c (.a (.p (.s [50,32,43,32,51])))),(ci 99)]),
 ia 34 (.build [(.p (.i .i64 0)),(.p (.i .i64 0))] []),ia 35 (.call (.f 13) [(.t 33),(.t 34),(ci 1)]),ia 32 (mA 35),ia 36 (eA 32 0),ia 37 (eA 32 1),ia 38 (eA 32 2),ia 39 (eA 32 3),ia 5 (.new [.nil,(.p (.i .i64 0))]),ia 7 (.new [(.p (.i .i64 0)),(.p (.i .i64 0)),(.p (.i .i64 0)),(.p (.i .i64 0)),(.p (.i .i64 0)),(.p (.i .i64 0)),(.p (.i .i64 0)),(.p (.i .i64 0)),(.p (.i .i64 0))]),
 io (sA 2 5 36),ia 6 (mA 37),io (sA 9 7 38),ia 8 (mA 39)] (HX [ia 41 (.call (.f 23) [(.c (.a (.p (.s [50,32,43,32,51])))),(ci 99)]),ia 42 (.build [(.p (.i .i64 0)),(.p (.i .i64 0))] []),ia 43 (.call (.f 13) [(.t 41),(.t 42),(ci 2)]),ia 40 (mA 43),ia 44 (eA 40 0),ia 45 (eA 40 1),ia 46 (eA 40 2),
 ia 47 (eA 40 3),ia 9 (.new [.nil,(.p (.i .i64 0))]),ia 11 (.new [(.p (.i .i64 0)),(.p (.i .i64 0)),(.p (.i .i64 0)),(.p (.i .i64 0)),(.p (.i .i64 0)),(.p (.i .i64 0)),(.p (.i .i64 0)),(.p (.i .i64 0)),(.p (.i .i64 0))]),io (sA 2 9 44),ia 10 (mA 45),io (sA 9 11 46),ia 12 (mA 47)] (HX [ia 49 (.call (.f 23) [(.c (.a (.p (.s [50,32,43,32,51])))),(ci 99)]),
 ia 50 (.build [(.p (.i .i64 0)),(.p (.i .i64 0))] []),ia 51 (.call (.f 13) [(.t 49),(.t 50),(.c (.a (.p (.i .i64 (-1)))))]),ia 48 (mA 51),ia 52 (eA 48 0),ia 53 (eA 48 1),ia 54 (eA 48 2),ia 55 (eA 48 3),ia 13 (.new [.nil,(.p (.i .i64 0))]),ia 15 (.new [(.p (.i .i64 0)),(.p (.i .i64 0)),(.p (.i .i64 0)),(.p (.i .i64 0)),(.p (.i .i64 0)),(.p (.i .i64 0)),(.p (.i .i64 0)),(.p (.i .i64 0)),(.p (.i .i64 0))]),
 io (sA 2 13 52),ia 14 (mA 53),io (sA 9 15 54),ia 16 (mA 55)] (HX [ia 57 (.call (.f 23) [(.c (.a (.p (.s [49,32,43,32,40,50,32,43,32,51,41])))),(ci 99)]),ia 58 (.bsl 1 3 [(.p (.i .i64 0))] 6 [(0,(ci 4)),(1,(.c (.a (.p (.i .i64 (-3)))))),(2,(ci 0)),(3,(ci 9)),(4,(ci 9)),(5,(ci 9))]),
 ia 59 (cC 12 57 58),ia 56 (mA 59),ia 60 (eA 56 0),ia 61 (eA 56 1),ia 62 (eA 56 2),ia 17 (.new [.nil,(.p (.i .i64 0))]),ia 18 (.new [(.p (.i .i64 0)),(.p (.i .i64 0)),(.p (.i .i64 0)),(.p (.i .i64 0)),(.p (.i .i64 0)),(.p (.i .i64 0)),(.p (.i .i64 0)),(.p (.i .i64 0)),(.p (.i .i64 0))]),io (sA 2 17 60),
 io (sA 9 18 61),ia 19 (mA 62)] (HX [ia 64 (.call (.f 23) [(.c (.a (.p (.s [99,97,115,101,32,65,32,111,102,32,123,32,65,32,45,62,32,49,32,47,32,48,32,125])))),(ci 99)]),ia 65 (.build [(.p (.i .i64 0)),(.p (.i .i64 0))] []),ia 66 (.call (.f 13) [(.t 64),(.t 65),(ci 99)]),ia 63 (mA 66),
 ia 67 (eA 63 0),ia 68 (eA 63 1),ia 69 (eA 63 2),ia 70 (eA 63 3),ia 20 (.new [.nil,(.p (.i .i64 0))]),ia 22 (.new [(.p (.i .i64 0)),(.p (.i .i64 0)),(.p (.i .i64 0)),(.p (.i .i64 0)),(.p (.i .i64 0)),(.p (.i .i64 0)),(.p (.i .i64 0)),(.p (.i .i64 0)),(.p (.i .i64 0))]),io (sA 2 20 67),ia 21 (mA 68),
 io (sA 9 22 69),ia 23 (mA 70)] (HX [ia 71 (mA 4),ia 72 (bC .eql 71 0),ia 73 (mA 72),ig 74 73 true (mA 2),ig 75 73 true (fA 0 1),ig 76 73 true (lA 1 75),ig 77 73 true (nA 76),ig 78 73 true (bB .lss 74 77),ia 79 (pB 73 78),ia 80 (mA 79),ig 81 80 true (mA 2),ig 82 80 true (bC .gtr 81 0),ia 83 (pB 80 82),
 ia 84 (mA 83),ig 85 84 true (fA 0 1),ig 86 84 true (lA 1 85),ig 87 84 true (mA 2),ig 88 84 true (aA 6 86 87),ig 89 84 true (fA 0 88),ig 90 84 true (lA 1 89),ig 91 84 true (bC .eql 90 10),ia 92 (pB 84 91),ia 93 (mA 92),ig 94 93 true (fA 0 1),ig 95 93 true (lA 1 94),ig 96 93 true (mA 2),ig 97 93 true (aA 6 95 96),
 ig 98 93 true (fA 2 97),ig 99 93 true (lA 1 98),ig 100 93 true (bC .eql 99 7),ia 101 (pB 93 100),ia 102 (mA 101),ig 103 102 true (.iaa 9 1 (.t 3) (ci 1)),ig 104 102 true (lA 1 103),ig 105 102 true (bC .eql 104 1),ia 106 (pB 102 105),ia 107 (mA 106),ig 108 107 true (.iaa 9 1 (.t 3) (ci 7)),ig 109 107 true (lA 1 108),
 ig 110 107 true (bC .eql 109 1),ia 111 (pB 107 110),ia 112 (mA 111),ig 113 112 true (lB 9 3),ig 114 112 true (cB 16 113),ig 115 112 true (bC .eql 114 2),ia 116 (pB 112 115),ia 117 (mA 116),ig 118 117 true (mA 8),ig 119 117 true (bC .eql 118 90),ia 120 (pB 117 119),ia 121 (mA 120),ig 122 121 true (.iaa 9 1 (.t 7) (ci 3)),
 ig 123 121 true (lA 1 122),ig 124 121 true (bC .eql 123 1),ia 125 (pB 121 124),ia 126 (mA 125),ig 127 126 true (mA 12),ig 128 126 true (bC .eql 127 0),ia 129 (pB 126 128),ia 130 (mA 129),ig 131 130 true (mA 10),ig 132 130 true (bC .gtr 131 0),ia 133 (pB 130 132),ia 134 (mA 133),ig 135 134 true (fA 0 9),
 ig 136 134 true (lA 1 135),ig 137 134 true (mA 10),ig 138 134 true (aA 6 136 137),ig 139 134 true (fA 2 138),ig 140 134 true (lA 1 139),ig 141 134 true (bC .eql 140 5),ia 142 (pB 134 141),ia 143 (mA 142),ig 144 143 true (.iaa 9 1 (.t 11) (ci 4)),ig 145 143 true (lA 1 144),ig 146 143 true (bC .eql 145 1),
 ia 147 (pB 143 146),ia 148 (mA 147),ig 149 148 true (mA 16),ig 150 148 true (bC .eql 149 1),ia 151 (pB 148 150),ia 152 (mA 151),ig 153 152 true (mA 19),ig 154 152 true (bC .eql 153 0),ia 155 (pB 152 154),ia 156 (mA 155),ig 157 156 true (lB 9 18),ig 158 156 true (cB 16 157),ig 159 156 true (bC .eql 158 4),
 ia 160 (pB 156 159),ia 161 (mA 160),ig 162 161 true (mA 23),ig 163 161 true (bC .eql 162 0),ia 164 (pB 161 163),ia 165 (mA 164),ig 166 165 true (mA 21),ig 167 165 true (bC .gtr 166 0),ia 168 (pB 165 167),ia 169 (mA 168),ig 170 169 true (.iaa 9 1 (.t 22) (ci 2)),ig 171 169 true (lA 1 170),ig 172 169 true (bC .eql 171 1),
 ia 173 (pB 169 172),ia 174 (mA 173),ig 175 174 true (.iaa 9 1 (.t 22) (ci 5)),ig 176 174 true (lA 1 175),ig 177 174 true (bC .eql 176 1),ia 178 (pB 174 177),ia 0 (mA 178)] .ret)))))))),[(.tmp 0)]⟩
theorem cc7:CK Tryz.f7=some (lH F7):=by kernel_rfl
def F8:FnC:=⟨2,(HX [ia 2 (bA 4 0),ia 4 (.mv xF)] (HX [ia 5 (lB 4 2),ia 6 (mA 1),ia 7 (.call (.f 24) [(.t 5),(.t 6),(ci 600)]),ia 8 (bC .geq 7 0),ia 4 (mA 8)] .ret)),[(.tmp 4)]⟩
theorem cc8:CK Tryz.f8=some (lH F8):=by kernel_rfl
def F9b0:C:=(.seq (HX [ia 5 (mA 4),ia 6 (fA 3 1),ia 7 (lA 1 6),ia 8 (nA 7),ia 9 (bB .lss 5 8)] (HW 9 .skip (.exit 0))) (.seq (.block 1 (.reg [ia 12 (mA 3),ia 13 (fA 3 1),ia 14 (lA 1 13),ia 15 (mA 4),ia 16 (aA 4 14 15),ia 17 (lB 4 16),ia 18 (cB 9 17),ia 19 (.mx (.t 12) (.t 18)),ia 3 (mA 19)])) (.reg [
 ia 10 (mA 4),ia 11 (bC .add 10 1),ia 4 (mA 11)])))
def F9:FnC:=⟨1,(HX [ia 1 (bA 4 0),ia 2 (mI 0)] (HX [ia 3 (mI 0)] (.seq (HX [ia 4 (mI 0)] (.block 0 (.loop F9b0))) (HX [ia 20 (mA 3),ia 21 (bC .add 20 1),ia 2 (mA 21)] .ret)))),[(.tmp 2)]⟩
theorem cc9:CK Tryz.f9=some (lH F9):=by kernel_rfl
def F10:FnC:=⟨2,(HX [ia 2 (bA 4 0),ia 4 (.mv xF)] (HX [ia 5 (lB 4 2),ia 6 (mA 1),ia 7 (.call (.f 25) [(.t 5),(.t 6),xF]),ia 4 (mA 7)] .ret)),[(.tmp 4)]⟩
theorem cc10:CK Tryz.f10=some (lH F10):=by kernel_rfl
def F11:FnC:=⟨2,(HX [ia 2 (bA 4 0),ia 4 (.new [.nil,(.p (.i .i64 0))]),ia 5 (mI 0)] (.seq (HX [ia 7 (lB 4 2),ia 8 (.call (.f 10) [(.t 7),(ci 0)]),ia 9 (oA 8),ia 10 (mA 9),ig 11 10 false (mA 1),ig 12 10 false (bC .lss 11 2),ia 13 (pA 10 12),ia 14 (mA 13),ig 15 14 false (mA 1),ig 16 14 false (bC .gtr 15 4000),
 ia 17 (pA 14 16)] (HW 17 (HX [ia 18 (.build [.nil,(.p (.i .i64 0))] []),io (sA 2 4 18),ia 5 (mI 1)] .ret) .skip)) (HX [ia 19 (mA 1),ia 20 (.build [(.p (.i .i64 0)),(.p (.i .i64 0))] []),ia 21 (.bsl 2 42 [(.p (.i .i64 0)),(.p (.i .i64 0))] 1 [(0,(.t 20))]),ia 22 (.build [(.p (.i .i64 0)),(.p (.i .i64 0)),(.p (.i .i64 0)),(.p (.s [])),.nil,.nil] [(0,(1,(ci 1))),(5,(1,(.t 21)))]),
 ia 23 (.bsl 6 46 [(.p (.i .i64 0)),(.p (.i .i64 0)),(.p (.i .i64 0)),(.p (.s [])),.nil,.nil] 1 [(0,(.t 22))]),ia 24 (.build [.nil,(.p (.i .i64 0))] [(1,(1,(.t 19))),(0,(1,(.t 23)))]),ia 25 (lB 4 2),ia 26 (.call (.f 26) [(.t 24),(.t 25),(ci 0)]),ia 6 (.new [.nil,(.p (.i .i64 0)),(.p (.i .i64 0)),(.p (.i .i64 0)),.nil,(.p (.i .i64 0))]),
 io (sA 6 6 26)] (.seq (HX [ia 27 (fA 5 6),ia 28 (lA 1 27),ia 29 (bC .neq 28 0)] (HW 29 (HX [ir 30 (.build [.nil,(.p (.i .i64 0))] []),ir 31 (fA 5 6),ir 32 (lA 1 31),⟨.none,.none,(sA 2 4 30),(.wr [31])⟩,ia 5 (mA 32)] .ret) .skip)) (HX [ir 33 (fA 0 6),ir 34 (lB 2 33),ir 35 (fA 2 6),ir 36 (lB 2 35),
 ir 37 (.call (.f 28) [(ci 0),(ci 0)]),ia 38 (cD 27 34 36 37),io (sA 2 4 38),ia 5 (mI 0)] .ret))))),[(.cell 4 2 true),(.tmp 5)]⟩
theorem cc11:CK Tryz.f11=some (lH F11):=by kernel_rfl
def F12b0:C:=(HX [ia 19 (bB .lss 18 17)] (.seq (HW 19 .skip (.exit 0)) (.seq (.block 1 (HX [ia 20 (aA 1 16 18),ia 21 (lA 1 20),ia 9 (mA 21)] (HX [ia 23 (mA 7),ia 24 (HY 23),ia 25 (fA 0 24),ia 26 (lB 2 25),ia 27 (mA 9),ia 28 (cC 29 26 27),ia 22 (mA 28),ia 29 (eA 22 0),ia 30 (eA 22 1),ia 10 (.new [(.p (.i .i64 0)),(.p (.i .i64 0))]),
 io (sA 2 10 29),ia 11 (mA 30)] (.seq (HX [ia 31 (mA 11),ia 32 (oA 31)] (HW 32 (.exit 0) .skip)) (HX [ia 33 (mA 7),ia 34 (fA 0 10),ia 35 (lA 1 34),ia 36 (cC 30 33 35),ia 12 (mA 36)] (HX [ia 37 (mA 12),ia 38 (bC .neq 37 0)] (HW 38 (HX [ir 39 (mA 7),ir 40 (HY 39),ir 41 (fA 0 40),ir 42 (lB 2 41),ir 43 (mA 7),
 ir 44 (HY 43),ir 45 (fA 2 44),ir 46 (lB 9 45),ir 47 (mA 12),⟨.none,.none,(sA 2 4 42),(.wr [45])⟩,⟨.none,.none,(sA 9 5 46),(.wr [])⟩,ia 6 (mA 47)] .ret) .skip))))))) (.reg [ia 48 (bC .add 18 1),ia 18 (mA 48)]))))
def F12:FnC:=⟨2,(HX [ia 2 (bA 2 0),ia 4 (.new [.nil,(.p (.i .i64 0))]),ia 5 (.new [(.p (.i .i64 0)),(.p (.i .i64 0)),(.p (.i .i64 0)),(.p (.i .i64 0)),(.p (.i .i64 0)),(.p (.i .i64 0)),(.p (.i .i64 0)),(.p (.i .i64 0)),(.p (.i .i64 0))]),ia 6 (mI 0)] (HX [ia 13 (lB 2 2),ia 14 (.build [.nil,(.p (.i .i64 0)),(.p (.i .i64 0)),(.p (.i .i64 0)),(.p (.i .i64 0)),(.p (.i .i64 0)),(.p (.i .i64 0)),(.p (.i .i64 0)),(.p (.i .i64 0)),(.p (.i .i64 0)),(.p (.i .i64 0)),(.p (.i .i64 0))] [(0,(2,(.t 13)))]),
 ia 15 (bA 12 14),ia 7 (mA 15)] (.seq (HX [ia 16 (mA 1),ia 17 (nA 16),ia 18 (mI 0)] (.block 0 (.loop F12b0))) (HX [ir 49 (mA 7),ir 50 (HY 49),ir 51 (fA 0 50),ir 52 (lB 2 51),ir 53 (mA 7),ir 54 (HY 53),ir 55 (fA 2 54),ir 56 (lB 9 55),⟨.none,.none,(sA 2 4 52),(.wr [55])⟩,io (sA 9 5 56),ia 6 (mI 0)] .ret)))),[(.cell 4 2 true),(.cell 5 9 true),(.tmp 6)]⟩
theorem cc12:CK Tryz.f12=some (lH F12):=by kernel_rfl
def F13:FnC:=⟨3,(HX [ia 3 (bA 2 0),ia 4 (bA 2 1),ia 6 (.new [.nil,(.p (.i .i64 0))]),ia 7 (mI 0),ia 8 (.new [(.p (.i .i64 0)),(.p (.i .i64 0)),(.p (.i .i64 0)),(.p (.i .i64 0)),(.p (.i .i64 0)),(.p (.i .i64 0)),(.p (.i .i64 0)),(.p (.i .i64 0)),(.p (.i .i64 0))]),ia 9 (mI 0)] (.seq (HX [
 ia 13 (mA 2),ia 14 (bC .lss 13 0),ia 15 (mA 14),ig 16 15 false (mA 2),ig 17 15 false (bC .gtr 16 100000),ia 18 (pA 15 17)] (HW 18 (HX [ia 19 (lB 2 3),ia 20 (.build [(.p (.i .i64 0)),(.p (.i .i64 0)),(.p (.i .i64 0)),(.p (.i .i64 0)),(.p (.i .i64 0)),(.p (.i .i64 0)),(.p (.i .i64 0)),(.p (.i .i64 0)),(.p (.i .i64 0))] []),
 io (sA 2 6 19),ia 7 (mI 0),io (sA 9 8 20),ia 9 (mI 1)] .ret) .skip)) (HX [ia 21 (lB 2 3),ia 22 (.build [.nil,(.p (.i .i64 0)),(.p (.i .i64 0)),(.p (.i .i64 0)),(.p (.i .i64 0)),(.p (.i .i64 0)),(.p (.i .i64 0)),(.p (.i .i64 0)),(.p (.i .i64 0)),(.p (.i .i64 0)),(.p (.i .i64 0)),(.p (.i .i64 0))] [(0,(2,(.t 21)))]),
 ia 23 (bA 12 22),ia 10 (mA 23)] (HX [ia 25 (mA 10),ia 26 (lB 2 4),ia 27 (mA 2),ia 28 (cD 31 25 26 27),ia 24 (mA 28),ia 29 (eA 24 0),ia 30 (eA 24 1),ia 11 (mA 29),ia 12 (mA 30)] (HX [ir 31 (mA 10),ir 32 (HY 31),ir 33 (fA 0 32),ir 34 (lB 2 33),ir 35 (mA 11),ir 36 (mA 10),ir 37 (HY 36),ir 38 (fA 2 37),
 ir 39 (lB 9 38),ir 40 (mA 12),⟨.none,.none,(sA 2 6 34),(.wr [38])⟩,ir 7 (mA 35),⟨.none,.none,(sA 9 8 39),(.wr [])⟩,ia 9 (mA 40)] .ret))))),[(.cell 6 2 true),(.tmp 7),(.cell 8 9 true),(.tmp 9)]⟩
theorem cc13:CK Tryz.f13=some (lH F13):=by kernel_rfl
def F14:FnC:=⟨1,(HX [ia 2 (.mv xF)] (HX [ia 3 (mA 0),ia 4 (bC .eql 3 2),ia 5 (mA 4),ig 6 5 false (mA 0),ig 7 5 false (bC .eql 6 8),ia 8 (pA 5 7),ia 9 (mA 8),ig 10 9 false (mA 0),ig 11 9 false (bC .eql 10 10),ia 12 (pA 9 11),ia 13 (mA 12),ig 14 13 false (mA 0),ig 15 13 false (bC .eql 14 13),ia 16 (pA 13 15),
 ia 2 (mA 16)] .ret)),[(.tmp 2)]⟩
theorem cc14:CK Tryz.f14=some (lH F14):=by kernel_rfl
def F15b0:C:=(.seq (HX [ia 20 (mA 5),ia 21 (fA 0 2),ia 22 (lA 1 21),ia 23 (nA 22),ia 24 (bB .lss 20 23)] (HW 24 .skip (.exit 0))) (.seq (.block 1 (HX [ir 27 (fA 0 2),ir 28 (lA 1 27),ir 29 (mA 5),ir 30 (aA 6 28 29),ir 31 (lB 6 30),ir 32 (fA 0 3),ir 33 (lA 1 32),ir 34 (mA 5),ir 35 (aA 6 33 34),ir 36 (lB 6 35),
 ia 37 (cC 32 31 36),ia 38 (oA 37)] (HW 38 (HX [ia 4 (.mv xF)] .ret) .skip))) (.reg [ia 25 (mA 5),ia 26 (bC .add 25 1),ia 5 (mA 26)])))
def F15:FnC:=⟨2,(HX [ia 2 (bA 2 0),ia 3 (bA 2 1),ia 4 (.mv xF)] (.seq (HX [ia 6 (fA 1 2),ia 7 (lA 1 6),ia 8 (fA 1 3),ia 9 (lA 1 8),ia 10 (bB .neq 7 9),ia 11 (mA 10),ig 12 11 false (fA 0 2),ig 13 11 false (lA 1 12),ig 14 11 false (nA 13),ig 15 11 false (fA 0 3),ig 16 11 false (lA 1 15),ig 17 11 false (nA 16),
 ig 18 11 false (bB .neq 14 17),ia 19 (pA 11 18)] (HW 19 (HX [ia 4 (.mv xF)] .ret) .skip)) (.seq (HX [ia 5 (mI 0)] (.block 0 (.loop F15b0))) (HX [ia 4 (.mv HZ)] .ret)))),[(.tmp 4)]⟩
theorem cc15:CK Tryz.f15=some (lH F15):=by kernel_rfl
def F16b0:C:=(.seq (HX [ia 5 (mA 4),ia 6 (bC .lss 5 9)] (HW 6 .skip (.exit 0))) (.seq (.block 1 (.reg [ia 9 (mA 3),ia 10 (mA 4),ia 11 (.iaa 9 1 (.t 1) (.t 10)),ia 12 (lA 1 11),ia 13 (bB .add 9 12),ia 3 (mA 13)])) (.reg [ia 7 (mA 4),ia 8 (bC .add 7 1),ia 4 (mA 8)])))
def F16:FnC:=⟨1,(HX [ia 1 (bA 9 0),ia 2 (mI 0)] (HX [ia 3 (mI 0)] (.seq (HX [ia 4 (mI 0)] (.block 0 (.loop F16b0))) (HX [ia 14 (mA 3),ia 2 (mA 14)] .ret)))),[(.tmp 2)]⟩
theorem cc16:CK Tryz.f16=some (lH F16):=by kernel_rfl
def F19:FnC:=⟨2,(HX [ia 2 (bA 2 0),ia 4 (.new [.nil,(.p (.i .i64 0))]),ia 5 (.new [(.p (.i .i64 0)),(.p (.b false)),(.p (.i .i64 0)),(.p (.i .i64 0)),(.p (.i .i64 0)),(.p (.i .i64 0)),(.p (.i .i64 0)),(.p (.s [])),.nil,.nil]),ia 6 (mI 0)] (HX [ia 11 (lB 2 2),ia 12 (mA 1),ia 13 (cC 21 11 12),
 ia 10 (mA 13),ia 14 (eA 10 0),ia 15 (eA 10 1),ia 16 (eA 10 2),ia 7 (.new [.nil,(.p (.i .i64 0))]),ia 8 (.new [(.p (.i .i64 0)),(.p (.b false)),(.p (.i .i64 0)),(.p (.i .i64 0)),(.p (.i .i64 0)),(.p (.i .i64 0)),(.p (.i .i64 0)),(.p (.s [])),.nil,.nil]),io (sA 2 7 14),io (sA 10 8 15),ia 9 (mA 16)] (.seq (HX [
 ia 17 (mA 9),ia 18 (bC .neq 17 121)] (HW 18 (HX [ir 19 (lB 2 7),ir 20 (lB 10 8),ir 21 (mA 9),⟨.none,.none,(sA 2 4 19),(.wr [8])⟩,⟨.none,.none,(sA 10 5 20),(.wr [])⟩,ia 6 (mA 21)] .ret) .skip)) (.seq (HX [ia 23 (lB 2 2),ia 24 (cB 36 23),ia 25 (mA 1),ia 26 (cC 21 24 25),ia 22 (mA 26),ia 27 (eA 22 0),
 ia 28 (eA 22 1),ia 29 (eA 22 2),io (sA 2 7 27),io (sA 10 8 28),ia 9 (mA 29)] (HX [ia 30 (mA 9),ia 31 (bC .neq 30 0)] (HW 31 (HX [ia 32 (lB 2 2),ia 33 (.build [(.p (.i .i64 0)),(.p (.b false)),(.p (.i .i64 0)),(.p (.i .i64 0)),(.p (.i .i64 0)),(.p (.i .i64 0)),(.p (.i .i64 0)),(.p (.s [])),.nil,.nil] []),
 io (sA 2 4 32),io (sA 10 5 33),ia 6 (mI 121)] .ret) .skip))) (HX [ir 34 (lB 2 7),ir 35 (lB 10 8),ir 36 (mA 9),⟨.none,.none,(sA 2 4 34),(.wr [8])⟩,⟨.none,.none,(sA 10 5 35),(.wr [])⟩,ia 6 (mA 36)] .ret))))),[(.cell 4 2 true),(.cell 5 10 true),(.tmp 6)]⟩
theorem cc19:CK Tryz.f19=some (lH F19):=by kernel_rfl
def F21:FnC:=⟨2,(HX [ia 2 (bA 2 0),ia 4 (.new [.nil,(.p (.i .i64 0))]),ia 5 (.new [(.p (.i .i64 0)),(.p (.b false)),(.p (.i .i64 0)),(.p (.i .i64 0)),(.p (.i .i64 0)),(.p (.i .i64 0)),(.p (.i .i64 0)),(.p (.s [])),.nil,.nil]),ia 6 (mI 0)] (.seq (HX [ia 12 (lB 2 2),ia 13 (cB 37 12),ia 7 (mA 13)] (HX [
 ia 14 (mA 7),ia 15 (bC .neq 14 0)] (HW 15 (HX [ia 16 (lB 2 2),ia 17 (.build [(.p (.i .i64 0)),(.p (.b false)),(.p (.i .i64 0)),(.p (.i .i64 0)),(.p (.i .i64 0)),(.p (.i .i64 0)),(.p (.i .i64 0)),(.p (.s [])),.nil,.nil] []),ia 18 (mA 7),io (sA 2 4 16),io (sA 10 5 17),ia 6 (mA 18)] .ret) .skip))) (HX [
 ia 19 (lB 2 2),ia 20 (mA 1),ia 21 (cC 38 19 20),ia 8 (mA 21)] (.seq (HX [ia 22 (mA 8),ia 23 (bC .lss 22 0)] (HW 23 (HX [ia 24 (lB 2 2),ia 25 (.build [(.p (.i .i64 0)),(.p (.b false)),(.p (.i .i64 0)),(.p (.i .i64 0)),(.p (.i .i64 0)),(.p (.i .i64 0)),(.p (.i .i64 0)),(.p (.s [])),.nil,.nil] []),
 io (sA 2 4 24),io (sA 10 5 25),ia 6 (mI 122)] .ret) .skip)) (HX [ir 27 (fA 0 2),ir 28 (lA 1 27),ir 29 (mA 1),ir 30 (aA 6 28 29),ir 31 (lB 6 30),ir 32 (fA 0 2),ir 33 (lA 1 32),ir 34 (mA 8),ir 35 (aA 6 33 34),ir 36 (lB 6 35),ir 37 (cC 39 31 36),ir 26 (mA 37),ir 38 (eA 26 0),ir 39 (eA 26 1),⟨(.some 9),.none,(.new [(.p (.i .i64 0)),(.p (.b false)),(.p (.i .i64 0)),(.p (.i .i64 0)),(.p (.i .i64 0)),(.p (.i .i64 0)),(.p (.i .i64 0)),(.p (.s [])),.nil,.nil]),.ad⟩,
 ⟨.none,.none,(sA 10 9 38),(.wr [])⟩,ia 10 (mA 39)] (.seq (.block 0 (HX [ia 41 (mA 10),ia 42 (bC .neq 41 0),ia 40 (mA 42)] (HW 40 (HX [ia 43 (lB 2 2),ia 44 (.build [(.p (.i .i64 0)),(.p (.b false)),(.p (.i .i64 0)),(.p (.i .i64 0)),(.p (.i .i64 0)),(.p (.i .i64 0)),(.p (.i .i64 0)),(.p (.s [])),.nil,.nil] []),
 ia 45 (mA 10),io (sA 2 4 43),io (sA 10 5 44),ia 6 (mA 45)] .ret) (HX [ir 47 (lB 2 2),ir 48 (cB 40 47),ir 49 (lB 10 9),ir 50 (fA 0 2),ir 51 (lA 1 50),ir 52 (mA 1),ir 53 (aA 6 51 52),ir 54 (lB 6 53),ir 55 (fA 0 2),ir 56 (lA 1 55),ir 57 (mA 8),ir 58 (aA 6 56 57),ir 59 (lB 6 58),ir 60 (cD 41 49 54 59),
 ir 61 (bB .add 48 60),ir 62 (fA 1 2),ir 63 (lA 1 62),ia 64 (bB .gtr 61 63),ia 46 (mA 64)] (HW 46 (HX [ia 65 (lB 2 2),ia 66 (.build [(.p (.i .i64 0)),(.p (.b false)),(.p (.i .i64 0)),(.p (.i .i64 0)),(.p (.i .i64 0)),(.p (.i .i64 0)),(.p (.i .i64 0)),(.p (.s [])),.nil,.nil] []),io (sA 2 4 65),
 io (sA 10 5 66),ia 6 (mI 121)] .ret) .skip))))) (HX [ia 67 (lB 2 2),ia 68 (lB 10 9),ia 69 (mA 1),ia 70 (mA 8),ia 71 (.build [.nil,(.p (.i .i64 0)),(.p (.i .i64 0)),(.p (.b false)),(.p (.i .i64 0)),(.p (.i .i64 0)),(.p (.i .i64 0)),(.p (.i .i64 0)),(.p (.i .i64 0)),(.p (.s [])),.nil,.nil,(.p (.i .i64 0)),(.p (.i .i64 0))] [(0,(2,(.t 67))),(2,(10,(.t 68))),(12,(1,(.t 69))),(13,(1,(.t 70)))]),
 ia 72 (bA 14 71),ia 11 (mA 72)] (.seq (HX [ia 73 (fA 1 9),ia 74 (lA 1 73)] (HW 74 (.reg [ia 75 (mA 11),ia 76 (mA 11),ia 77 (mA 8),ia 78 (mA 1),ia 79 (HY 75),ia 80 (fA 12 79),io (sA 1 80 77),ia 81 (HY 76),ia 82 (fA 13 81),io (sA 1 82 78)]) .skip)) (HX [ia 83 (mA 11),ia 84 (cB 42 83)] (HX [ir 85 (mA 11),
 ir 86 (HY 85),ir 87 (fA 0 86),ir 88 (lB 2 87),ir 89 (lB 10 9),⟨.none,.none,(sA 2 4 88),(.wr [9])⟩,io (sA 10 5 89),ia 6 (mI 0)] .ret)))))))))),[(.cell 4 2 true),(.cell 5 10 true),(.tmp 6)]⟩
theorem cc21:CK Tryz.f21=some (lH F21):=by kernel_rfl
def F23:FnC:=⟨2,(HX [ia 4 (.new [.nil,(.p (.i .i64 0))])] (HX [ia 14 (mA 0),ia 15 (.call (.f 45) [(.t 14),(ci 150)]),ia 13 (mA 15),ia 16 (eA 13 0),ia 17 (eA 13 1),ia 18 (eA 13 2),ia 5 (.new [(.p (.i .i64 0)),(.p (.s [])),(.p (.i .i64 0)),(.p (.i .i64 0)),.nil]),io (sA 5 5 16),ia 6 (mA 17),
 ia 7 (mA 18)] (HX [ia 20 (lB 5 5),ia 21 (cB 46 20),ia 19 (mA 21),ia 22 (eA 19 0),ia 23 (eA 19 1),ia 24 (eA 19 2),ia 8 (.new [(.p (.i .i64 0)),(.p (.i .i64 0)),(.p (.s [])),.nil]),io (sA 4 8 22),ia 9 (mA 23),ia 10 (mA 24)] (HX [ia 26 (lB 4 8),ia 27 (mA 1),ia 28 (cC 11 26 27),ia 25 (mA 28),ia 29 (eA 25 0),
 ia 30 (eA 25 1),ia 11 (.new [.nil,(.p (.i .i64 0))]),io (sA 2 11 29),ia 12 (mA 30)] (HX [ia 31 (lB 2 11),io (sA 2 4 31)] .ret))))),[(.cell 4 2 true)]⟩
theorem cc23:CK Tryz.f23=some (lH F23):=by kernel_rfl
def F24b0:C:=(.seq (HX [ia 16 (mA 7),ia 17 (fA 3 3),ia 18 (lA 1 17),ia 19 (nA 18),ia 20 (bB .lss 16 19)] (HW 20 .skip (.exit 0))) (.seq (.block 1 (HX [ia 23 (fA 3 3),ia 24 (lA 1 23),ia 25 (mA 7),ia 26 (aA 4 24 25),ia 27 (lB 4 26),ia 28 (mA 1),ia 29 (mA 2),ia 30 (bC .sub 29 1),ia 31 (cD 24 27 28 30),
 ia 1 (mA 31)] (HX [ia 32 (mA 1),ia 33 (bC .lss 32 0)] (HW 33 (HX [ia 6 (.mv (.c (.a (.p (.i .i64 (-1))))))] .ret) .skip)))) (.reg [ia 21 (mA 7),ia 22 (bC .add 21 1),ia 7 (mA 22)])))
def F24:FnC:=⟨3,(HX [ia 3 (bA 4 0),ia 6 (mI 0)] (.seq (HX [ia 8 (mA 1),ia 9 (bC .lss 8 1),ia 10 (mA 9),ig 11 10 false (mA 2),ig 12 10 false (bC .lss 11 1),ia 13 (pA 10 12)] (HW 13 (HX [ia 6 (.mv (.c (.a (.p (.i .i64 (-1))))))] .ret) .skip)) (HX [ia 14 (mA 1),ia 15 (bC .sub 14 1),ia 1 (mA 15)] (.seq (HX [
 ia 7 (mI 0)] (.block 0 (.loop F24b0))) (HX [ia 34 (mA 1),ia 6 (mA 34)] .ret))))),[(.tmp 6)]⟩
theorem cc24:CK Tryz.f24=some (lH F24):=by kernel_rfl
def F25b1:C:=(.seq (HX [ia 52 (mA 8),ia 53 (mA 7),ia 54 (bB .lss 52 53),ia 55 (mA 54),ig 56 55 true (fA 0 3),ig 57 55 true (lA 1 56),ig 58 55 true (bC .eql 57 5),ia 59 (pB 55 58)] (HW 59 .skip (.exit 2))) (.seq (.block 3 (HX [ir 62 (fA 3 3),ir 63 (lA 1 62),ir 64 (mA 8),ir 65 (aA 4 63 64),ir 66 (fA 2 65),
 ir 67 (lA 1 66),ir 68 (fA 3 3),ir 69 (lA 1 68),ir 70 (mA 7),ir 71 (aA 4 69 70),ir 72 (fA 2 71),ir 73 (lA 1 72),ia 74 (bB .eql 67 73)] (HW 74 (HX [ia 6 (.mv xF)] .ret) .skip))) (.reg [ia 60 (mA 8),ia 61 (bC .add 60 1),ia 8 (mA 61)])))
def F25b0:C:=(.seq (HX [ia 30 (mA 7),ia 31 (fA 3 3),ia 32 (lA 1 31),ia 33 (nA 32),ia 34 (bB .lss 30 33)] (HW 34 .skip (.exit 0))) (.seq (.block 1 (.seq (HX [ir 37 (fA 3 3),ir 38 (lA 1 37),ir 39 (mA 7),ir 40 (aA 4 38 39),ir 41 (lB 4 40),ir 42 (mA 1),ir 43 (fA 0 3),ir 44 (lA 1 43),ir 45 (bC .eql 44 5),
 ir 46 (mA 45),ih 47 46 true (mA 7),ih 48 46 true (bC .gtr 47 0),ir 49 (pB 46 48),ia 50 (cD 25 41 42 49),ia 51 (oA 50)] (HW 51 (HX [ia 6 (.mv xF)] .ret) .skip)) (HX [ia 8 (mI 1)] (.block 2 (.loop F25b1))))) (.reg [ia 35 (mA 7),ia 36 (bC .add 35 1),ia 7 (mA 36)])))
def F25:FnC:=⟨3,(HX [ia 3 (bA 4 0),ia 6 (.mv xF)] (.seq (HX [ia 9 (mA 1),ia 10 (bC .lss 9 0),ia 11 (mA 10),ig 12 11 false (lB 4 3),ig 13 11 false (mA 1),ig 14 11 false (mA 2),ig 15 11 false (cD 47 12 13 14),ig 16 11 false (oA 15),ia 17 (pA 11 16)] (HW 17 (HX [ia 6 (.mv xF)] .ret) .skip)) (.seq (HX [
 ia 18 (fA 0 3),ia 19 (lA 1 18),ia 20 (bC .eql 19 2)] (HW 20 (.reg [ia 21 (mA 1),ia 22 (bC .add 21 1),ia 1 (mA 22)]) .skip)) (.seq (HX [ia 23 (fA 0 3),ia 24 (lA 1 23),ia 25 (bC .eql 24 6)] (HW 25 (.reg [ia 26 (mA 1),ia 27 (fA 1 3),ia 28 (lA 1 27),ia 29 (bB .add 26 28),ia 1 (mA 29)]) .skip)) (.seq (HX [
 ia 7 (mI 0)] (.block 0 (.loop F25b0))) (HX [ia 6 (.mv HZ)] .ret)))))),[(.tmp 6)]⟩
theorem cc25:CK Tryz.f25=some (lH F25):=by kernel_rfl
def F26b0:C:=(.seq (HX [ia 85 (mA 11),ia 86 (fA 3 4),ia 87 (lA 1 86),ia 88 (nA 87),ia 89 (bB .lss 85 88)] (HW 89 .skip (.exit 1))) (.seq (.block 2 (.reg [ir 92 (fA 4 7),ir 93 (lA 1 92),ir 94 (fA 3 4),ir 95 (lA 1 94),ir 96 (mA 11),ir 97 (aA 4 95 96),ir 98 (fA 2 97),ir 99 (lA 1 98),ir 100 (fA 3 4),
 ir 101 (lA 1 100),ir 102 (mA 11),ir 103 (aA 4 101 102),ir 104 (fA 1 103),ir 105 (lA 1 104),ir 106 (.build [(.p (.s [])),(.p (.i .i64 0))] [(0,(1,(.t 99))),(1,(1,(.t 105)))]),⟨(.some 107),.none,(.bsl 2 107 [(.p (.s [])),(.p (.i .i64 0))] 1 [(0,(.t 106))]),.ad⟩,ia 108 (.app 2 107 24 (.t 93) (.t 107)),
 ia 109 (fA 4 7),io (sA 1 109 108)])) (.reg [ia 90 (mA 11),ia 91 (bC .add 90 1),ia 11 (mA 91)])))
def F26r0:C:=(HX [ia 12 (mA 2),ia 13 (.build [(.p (.i .i64 0)),(.p (.i .i64 0)),(.p (.i .i64 0)),(.p (.s [])),.nil,.nil] [(1,(1,(.t 12)))]),ia 7 (.new [(.p (.i .i64 0)),(.p (.i .i64 0)),(.p (.i .i64 0)),(.p (.s [])),.nil,.nil]),io (sA 6 7 13)] (.seq (HX [ia 14 (fA 0 4),ia 15 (lA 1 14)] (.block 0 (.seq (HX [
 ia 17 (bC .eql 15 1),ia 16 (mA 17)] (HW 16 .skip (HX [ia 18 (bC .eql 15 7),ia 16 (mA 18)] (HW 16 .skip (.reg [ia 19 (bC .eql 15 9),ia 16 (mA 19)]))))) (HW 16 (HX [ia 20 (fA 0 7),io (.st 1 (.t 20) (ci 13))] (.seq (HX [ia 21 (fA 0 4),ia 22 (lA 1 21),ia 23 (bC .eql 22 1)] (HW 23 (.reg [ia 24 (fA 0 7),
 io (.st 1 (.t 24) (ci 5))]) .skip)) (.seq (HX [ia 25 (fA 0 4),ia 26 (lA 1 25),ia 27 (bC .eql 26 7)] (HW 27 (HX [ia 28 (fA 0 7),io (.st 1 (.t 28) (ci 10))] (.reg [ia 29 (fA 1 4),ia 30 (lA 1 29),ia 31 (fA 2 7),io (sA 1 31 30)])) .skip)) (HX [ia 33 (lB 2 3),ia 34 (lB 6 7),ia 35 (cC 48 33 34),ia 32 (mA 35),
 ia 36 (eA 32 0),ia 37 (eA 32 1),ia 38 (eA 32 2),ia 8 (.new [.nil,(.p (.i .i64 0))]),io (sA 2 8 36),ia 9 (mA 37),ia 10 (mA 38)] (.seq (HX [ia 39 (fA 0 4),ia 40 (lA 1 39),ia 41 (bC .eql 40 1)] (HW 41 (HX [ir 42 (lB 2 8),ir 43 (mA 9),ir 44 (.call (.f 28) [(.t 43),(ci 1)]),ir 45 (fA 1 4),ir 46 (lA 1 45),
 ir 47 (mA 9),ir 48 (.call (.f 28) [(.t 47),(ci 0)]),ir 49 (.build [(.p (.i .i64 0)),(.p (.i .i64 0)),(.p (.i .i64 0))] [(0,(1,(.t 46))),(1,(2,(.t 48)))]),⟨(.some 50),.none,(.bsl 3 104 [(.p (.i .i64 0)),(.p (.i .i64 0)),(.p (.i .i64 0))] 1 [(0,(.t 49))]),.ad⟩,ir 51 (mA 10),ia 52 (.build [.nil,(.p (.i .i64 0)),(.p (.i .i64 0)),(.p (.i .i64 0)),.nil,(.p (.i .i64 0))] [(0,(2,(.t 42))),(2,(2,(.t 44))),(4,(1,(.t 50))),(5,(1,(.t 51)))]),
 io (sA 6 6 52)] .ret) .skip)) (HX [ir 53 (lB 2 8),ir 54 (mA 9),ir 55 (.call (.f 28) [(.t 54),(ci 0)]),ir 56 (mA 10),ia 57 (.build [.nil,(.p (.i .i64 0)),(.p (.i .i64 0)),(.p (.i .i64 0)),.nil,(.p (.i .i64 0))] [(0,(2,(.t 53))),(2,(2,(.t 55))),(5,(1,(.t 56)))]),io (sA 6 6 57)] .ret)))))) (HX [
 ia 59 (bC .eql 15 2),ia 58 (mA 59)] (HW 58 (HX [ir 60 (lB 2 3),ir 61 (fA 3 4),ir 62 (lA 1 61),ir 63 (.ias 4 (.t 62) (ci 0)),ir 64 (lB 4 63),ir 65 (mA 2),ia 66 (.call (.f 49) [(.t 60),(.t 64),(ci 1),(.t 65)]),io (sA 6 6 66)] .ret) (HX [ia 68 (bC .eql 15 3),ia 67 (mA 68)] (HW 67 (.reg [ia 69 (fA 0 7),
 io (.st 1 (.t 69) (ci 3))]) (HX [ia 71 (bC .eql 15 4),ia 70 (mA 71)] (HW 70 (HX [ia 72 (fA 0 7),io (.st 1 (.t 72) (ci 8))] (HX [ia 73 (fA 2 4),ia 74 (lA 1 73),ia 75 (fA 3 7),io (sA 1 75 74)] (.reg [ia 76 (fA 3 4),ia 77 (lA 1 76),ia 78 (nA 77),ia 79 (bC .add 78 1),ia 80 (.mslF 2 42 16 [(.p (.i .i64 0)),(.p (.i .i64 0))] (.t 79) (.t 79)),
 ia 81 (fA 5 7),io (sA 1 81 80)]))) (HX [ia 83 (bC .eql 15 5),ia 82 (mA 83)] (HW 82 (HX [ia 84 (fA 0 7),io (.st 1 (.t 84) (ci 9))] (HX [ia 11 (mI 1)] (.block 1 (.loop F26b0)))) (HX [ia 111 (bC .eql 15 8),ia 110 (mA 111)] (HW 110 (HX [ia 112 (fA 0 7),io (.st 1 (.t 112) (ci 11))] (.reg [ia 113 (fA 2 4),
 ia 114 (lA 1 113),ia 115 (fA 3 7),io (sA 1 115 114)])) .skip)))))))))))))) (HX [ia 116 (lB 2 3),ia 117 (lB 4 4),ia 118 (lB 6 7),ia 119 (cD 50 116 117 118),io (sA 6 6 119)] .ret)))
def F26:FnC:=⟨3,(HX [ia 3 (bA 2 0),ia 4 (bA 4 1),ia 6 (.new [.nil,(.p (.i .i64 0)),(.p (.i .i64 0)),(.p (.i .i64 0)),.nil,(.p (.i .i64 0))])] (.fz [3] F26r0)),[(.cell 6 6 true)]⟩
theorem cc26:CK Tryz.f26=some (lH F26):=by kernel_rfl
def F27:FnC:=⟨3,(HX [ia 3 (bA 2 0),ia 4 (bA 2 1),ia 5 (bA 2 2),ia 6 (.new [.nil,(.p (.i .i64 0))])] (HX [ia 10 (lB 2 3),ia 11 (lB 2 4),ia 12 (lB 2 5),ia 13 (cD 51 10 11 12),ia 9 (mA 13),ia 14 (eA 9 0),ia 15 (eA 9 1),ia 7 (.new [.nil,(.p (.i .i64 0))]),io (sA 2 7 14),ia 8 (mA 15)] (HX [ia 16 (lB 2 7),
 io (sA 2 6 16)] .ret))),[(.cell 6 2 true)]⟩
theorem cc27:CK Tryz.f27=some (lH F27):=by kernel_rfl
def F28:FnC:=⟨2,(HX [ia 4 (.new [(.p (.i .i64 0)),(.p (.i .i64 0))])] (HX [ia 5 (mA 0),ia 6 (mA 1),ia 7 (.build [(.p (.i .i64 0)),(.p (.i .i64 0))] [(0,(1,(.t 5))),(1,(1,(.t 6)))]),io (sA 2 4 7)] .ret)),[(.cell 4 2 true)]⟩
theorem cc28:CK Tryz.f28=some (lH F28):=by kernel_rfl
def F29:FnC:=⟨2,(HX [ia 2 (bA 2 0),ia 4 (.new [(.p (.i .i64 0)),(.p (.i .i64 0))]),ia 5 (.mv xF)] (HX [ia 8 (lB 2 2),ia 9 (cB 52 8),ia 6 (mA 9)] (HX [ia 10 (mA 6),ia 11 (nA 10),ia 7 (mA 11)] (.seq (HX [ia 12 (mA 7),ia 13 (bC .eql 12 0)] (HW 13 (HX [ia 14 (.build [(.p (.i .i64 0)),(.p (.i .i64 0))] []),
 io (sA 2 4 14),ia 5 (.mv xF)] .ret) .skip)) (HX [ia 15 (mA 6),ia 16 (mA 1),ia 17 (mA 7),ia 18 (bB .rem 16 17),ia 19 (mA 7),ia 20 (bB .add 18 19),ia 21 (mA 7),ia 22 (bB .rem 20 21),ia 23 (aA 2 15 22),ia 24 (lB 2 23),io (sA 2 4 24),ia 5 (.mv HZ)] .ret))))),[(.cell 4 2 true),(.tmp 5)]⟩
theorem cc29:CK Tryz.f29=some (lH F29):=by kernel_rfl
def F30:FnC:=⟨2,(HX [ia 4 (mI 0)] (HX [ia 9 (mA 0),ia 10 (HY 9),ia 11 (fA 0 10),ia 12 (lB 2 11),ia 13 (mA 1),ia 14 (cC 19 12 13),ia 8 (mA 14),ia 15 (eA 8 0),ia 16 (eA 8 1),ia 17 (eA 8 2),ia 5 (.new [.nil,(.p (.i .i64 0))]),ia 6 (.new [(.p (.i .i64 0)),(.p (.b false)),(.p (.i .i64 0)),(.p (.i .i64 0)),(.p (.i .i64 0)),(.p (.i .i64 0)),(.p (.i .i64 0)),(.p (.s [])),.nil,.nil]),
 io (sA 2 5 15),io (sA 10 6 16),ia 7 (mA 17)] (.seq (HX [ia 18 (mA 7),ia 19 (bC .eql 18 0)] (HW 19 (HX [ia 20 (mA 0),ia 21 (lB 2 5),ia 22 (HY 20),ia 23 (fA 0 22),io (sA 2 23 21)] (HX [ir 24 (mA 0),ir 25 (fA 0 6),ir 26 (lA 1 25),ir 27 (HY 24),ir 28 (fA 2 27),ir 29 (.iaa 9 1 (.t 28) (.t 26)),ir 30 (lA 1 29),
 ir 31 (bC .add 30 1),ir 32 (HY 24),ir 33 (fA 2 32),ia 34 (.iaa 9 1 (.t 33) (.t 26)),io (sA 1 34 31)] (.reg [ia 35 (mA 0),ia 36 (HY 35),ia 37 (fA 11 36),ia 38 (lA 1 37),ia 39 (bC .add 38 1),ia 40 (HY 35),ia 41 (fA 11 40),io (sA 1 41 39)]))) .skip)) (HX [ia 42 (mA 7),ia 4 (mA 42)] .ret)))),[(.tmp 4)]⟩
theorem cc30:CK Tryz.f30=some (lH F30):=by kernel_rfl
def F31b0:C:=(.block 1 (HX [ir 13 (mA 0),ir 14 (HY 13),ir 15 (fA 0 14),ir 16 (lB 2 15),ir 17 (lB 2 4),ia 18 (cC 53 16 17),ia 12 (mA 18),ir 19 (eA 12 0),ir 20 (eA 12 1),ir 21 (eA 12 2),ir 8 (mA 19),ir 9 (mA 20),ia 10 (mA 21)] (.seq (.block 2 (HX [ia 23 (mA 10),ia 24 (bC .neq 23 0),ia 22 (mA 24)] (HW 22 (HX [
 ia 25 (mA 10),ia 6 (mI 0),ia 7 (mA 25)] .ret) (HX [ia 27 (mA 9),ia 28 (oA 27),ia 26 (mA 28)] (HW 26 (HX [ia 29 (mA 8),ia 6 (mA 29),ia 7 (mI 0)] .ret) (HX [ia 31 (mA 0),ia 32 (HY 31),ia 33 (fA 11 32),ia 34 (lA 1 33),ia 35 (mA 2),ia 36 (bB .eql 34 35),ia 30 (mA 36)] (HW 30 (HX [ia 6 (mI 0),ia 7 (mI 90)] .ret) .skip))))))) (HX [
 ia 37 (mA 0),ia 38 (mA 8),ia 39 (cC 30 37 38),ia 11 (mA 39)] (HX [ia 40 (mA 11),ia 41 (bC .neq 40 0)] (HW 41 (HX [ia 42 (mA 11),ia 6 (mI 0),ia 7 (mA 42)] .ret) .skip))))))
def F31:FnC:=⟨3,(HX [ia 4 (bA 2 1),ia 6 (mI 0),ia 7 (mI 0)] (.block 0 (.loop F31b0))),[(.tmp 6),(.tmp 7)]⟩
theorem cc31:CK Tryz.f31=some (lH F31):=by kernel_rfl
def F32b0:C:=(.seq (HX [ia 51 (mA 5),ia 52 (fA 4 2),ia 53 (lA 1 52),ia 54 (nA 53),ia 55 (bB .lss 51 54)] (HW 55 .skip (.exit 0))) (.seq (.block 1 (HX [ir 58 (fA 4 2),ir 59 (lA 1 58),ir 60 (mA 5),ir 61 (aA 2 59 60),ir 62 (lB 2 61),ir 63 (fA 4 3),ir 64 (lA 1 63),ir 65 (mA 5),ir 66 (aA 2 64 65),ir 67 (lB 2 66),
 ia 68 (.eqg true [1,0] (.t 62) (.t 67))] (HW 68 (HX [ia 4 (.mv xF)] .ret) .skip))) (.reg [ia 56 (mA 5),ia 57 (bC .add 56 1),ia 5 (mA 57)])))
def F32b1:C:=(.seq (HX [ia 69 (mA 6),ia 70 (fA 5 2),ia 71 (lA 1 70),ia 72 (nA 71),ia 73 (bB .lss 69 72)] (HW 73 .skip (.exit 2))) (.seq (.block 3 (HX [ir 76 (fA 5 2),ir 77 (lA 1 76),ir 78 (mA 6),ir 79 (aA 2 77 78),ir 80 (lB 2 79),ir 81 (fA 5 3),ir 82 (lA 1 81),ir 83 (mA 6),ir 84 (aA 2 82 83),ir 85 (lB 2 84),
 ia 86 (.eqg true [0,0] (.t 80) (.t 85))] (HW 86 (HX [ia 4 (.mv xF)] .ret) .skip))) (.reg [ia 74 (mA 6),ia 75 (bC .add 74 1),ia 6 (mA 75)])))
def F32:FnC:=⟨2,(HX [ia 2 (bA 6 0),ia 3 (bA 6 1),ia 4 (.mv xF)] (.seq (HX [ia 7 (fA 0 2),ia 8 (lA 1 7),ia 9 (fA 0 3),ia 10 (lA 1 9),ia 11 (bB .neq 8 10),ia 12 (mA 11),ig 13 12 false (fA 1 2),ig 14 12 false (lA 1 13),ig 15 12 false (fA 1 3),ig 16 12 false (lA 1 15),ig 17 12 false (bB .neq 14 16),
 ia 18 (pA 12 17),ia 19 (mA 18),ig 20 19 false (fA 2 2),ig 21 19 false (lA 1 20),ig 22 19 false (fA 2 3),ig 23 19 false (lA 1 22),ig 24 19 false (bB .neq 21 23),ia 25 (pA 19 24),ia 26 (mA 25),ig 27 26 false (fA 3 2),ig 28 26 false (lA 1 27),ig 29 26 false (fA 3 3),ig 30 26 false (lA 1 29),ig 31 26 false (bB .neq 28 30),
 ia 32 (pA 26 31),ia 33 (mA 32),ig 34 33 false (fA 4 2),ig 35 33 false (lA 1 34),ig 36 33 false (nA 35),ig 37 33 false (fA 4 3),ig 38 33 false (lA 1 37),ig 39 33 false (nA 38),ig 40 33 false (bB .neq 36 39),ia 41 (pA 33 40),ia 42 (mA 41),ig 43 42 false (fA 5 2),ig 44 42 false (lA 1 43),ig 45 42 false (nA 44),
 ig 46 42 false (fA 5 3),ig 47 42 false (lA 1 46),ig 48 42 false (nA 47),ig 49 42 false (bB .neq 45 48),ia 50 (pA 42 49)] (HW 50 (HX [ia 4 (.mv xF)] .ret) .skip)) (.seq (HX [ia 5 (mI 0)] (.block 0 (.loop F32b0))) (.seq (HX [ia 6 (mI 0)] (.block 2 (.loop F32b1))) (HX [ia 4 (.mv HZ)] .ret))))),[(.tmp 4)]⟩
theorem cc32:CK Tryz.f32=some (lH F32):=by kernel_rfl
def F33b1:C:=(.seq (HX [ia 140 (mA 4),ia 141 (mA 3),ia 142 (bB .lss 140 141)] (HW 142 .skip (.exit 2))) (.seq (.block 3 (HX [ir 145 (fA 4 1),ir 146 (lA 1 145),ir 147 (mA 4),ir 148 (aA 2 146 147),ir 149 (fA 0 148),ir 150 (lA 1 149),ir 151 (fA 4 1),ir 152 (lA 1 151),ir 153 (mA 3),ir 154 (aA 2 152 153),
 ir 155 (fA 0 154),ir 156 (lA 1 155),ia 157 (bB .eql 150 156)] (HW 157 (HX [ia 2 (.mv xF)] .ret) .skip))) (.reg [ia 143 (mA 4),ia 144 (bC .add 143 1),ia 4 (mA 144)])))
def F33b0:C:=(.seq (HX [ia 108 (mA 3),ia 109 (fA 4 1),ia 110 (lA 1 109),ia 111 (nA 110),ia 112 (bB .lss 108 111)] (HW 112 .skip (.exit 0))) (.seq (.block 1 (.seq (HX [ia 115 (fA 4 1),ia 116 (lA 1 115),ia 117 (mA 3),ia 118 (aA 2 116 117),ia 119 (fA 0 118),ia 120 (lA 1 119),ia 121 (.bin .eql (.t 120) (.c (.a (.p (.s []))))),
 ia 122 (mA 121),ig 123 122 false (fA 4 1),ig 124 122 false (lA 1 123),ig 125 122 false (mA 3),ig 126 122 false (aA 2 124 125),ig 127 122 false (fA 1 126),ig 128 122 false (lA 1 127),ig 129 122 false (bC .lss 128 0),ia 130 (pA 122 129),ia 131 (mA 130),ig 132 131 false (fA 4 1),ig 133 131 false (lA 1 132),
 ig 134 131 false (mA 3),ig 135 131 false (aA 2 133 134),ig 136 131 false (fA 1 135),ig 137 131 false (lA 1 136),ig 138 131 false (bC .gtr 137 8),ia 139 (pA 131 138)] (HW 139 (HX [ia 2 (.mv xF)] .ret) .skip)) (HX [ia 4 (mI 0)] (.block 2 (.loop F33b1))))) (.reg [ia 113 (mA 3),ia 114 (bC .add 113 1),ia 3 (mA 114)])))
def F33:FnC:=⟨1,(HX [ia 1 (bA 6 0),ia 2 (.mv xF)] (.seq (HX [ia 5 (fA 0 1),ia 6 (lA 1 5),ia 7 (bC .lss 6 0),ia 8 (mA 7),ig 9 8 false (fA 0 1),ig 10 8 false (lA 1 9),ig 11 8 false (bC .gtr 10 13),ia 12 (pA 8 11),ia 13 (mA 12),ig 14 13 false (fA 1 1),ig 15 13 false (lA 1 14),ig 16 13 false (bC .lss 15 0),
 ia 17 (pA 13 16),ia 18 (mA 17),ig 19 18 false (fA 1 1),ig 20 18 false (lA 1 19),ig 21 18 false (bC .gtr 20 60),ia 22 (pA 18 21),ia 23 (mA 22),ig 24 23 false (fA 0 1),ig 25 23 false (lA 1 24),ig 26 23 false (bC .lss 25 2),ig 27 23 false (mA 26),ig 28 27 true (fA 1 1),ig 29 27 true (lA 1 28),ig 30 27 true (bC .gtr 29 0),
 ig 31 23 false (pB 27 30),ia 32 (pA 23 31)] (HW 32 (HX [ia 2 (.mv xF)] .ret) .skip)) (.seq (HX [ia 33 (fA 3 1),ia 34 (lA 1 33),ia 35 (.bin .neq (.t 34) (.c (.a (.p (.s []))))),ia 36 (fA 0 1),ia 37 (lA 1 36),ia 38 (bC .eql 37 8),ia 39 (mA 38),ig 40 39 false (fA 0 1),ig 41 39 false (lA 1 40),ig 42 39 false (bC .eql 41 11),
 ia 43 (pA 39 42),ia 44 (mA 43),ig 45 44 false (fA 0 1),ig 46 44 false (lA 1 45),ig 47 44 false (bC .eql 46 12),ia 48 (pA 44 47),ia 49 (.eqb true (.t 35) (.t 48)),ia 50 (mA 49),ig 51 50 false (fA 2 1),ig 52 50 false (lA 1 51),ig 53 50 false (bC .neq 52 0),ig 54 50 false (mA 53),ig 55 54 true (fA 0 1),
 ig 56 54 true (lA 1 55),ig 57 54 true (bC .neq 56 10),ig 58 50 false (pB 54 57),ig 59 50 false (mA 58),ig 60 59 true (fA 0 1),ig 61 59 true (lA 1 60),ig 62 59 true (bC .neq 61 12),ig 63 50 false (pB 59 62),ia 64 (pA 50 63)] (HW 64 (HX [ia 2 (.mv xF)] .ret) .skip)) (.seq (HX [ia 65 (fA 0 1),ia 66 (lA 1 65),
 ia 67 (bC .eql 66 8),ia 68 (mA 67),ig 69 68 true (fA 5 1),ig 70 68 true (lA 1 69),ig 71 68 true (nA 70),ig 72 68 true (bC .lss 71 1),ig 73 68 true (mA 72),ig 74 73 false (fA 5 1),ig 75 73 false (lA 1 74),ig 76 73 false (nA 75),ig 77 73 false (bC .gtr 76 9),ig 78 68 true (pA 73 77),ia 79 (pB 68 78),
 ia 80 (mA 79),ig 81 80 false (fA 0 1),ig 82 80 false (lA 1 81),ig 83 80 false (bC .eql 82 9),ig 84 80 false (mA 83),ig 85 84 true (fA 4 1),ig 86 84 true (lA 1 85),ig 87 84 true (nA 86),ig 88 84 true (bC .lss 87 1),ig 89 80 false (pB 84 88),ia 90 (pA 80 89),ia 91 (mA 90),ig 92 91 false (fA 0 1),ig 93 91 false (lA 1 92),
 ig 94 91 false (bC .neq 93 9),ig 95 91 false (mA 94),ig 96 95 true (fA 4 1),ig 97 95 true (lA 1 96),ig 98 95 true (nA 97),ig 99 95 true (bC .gtr 98 0),ig 100 91 false (pB 95 99),ia 101 (pA 91 100),ia 102 (mA 101),ig 103 102 false (fA 4 1),ig 104 102 false (lA 1 103),ig 105 102 false (nA 104),ig 106 102 false (bC .gtr 105 8),
 ia 107 (pA 102 106)] (HW 107 (HX [ia 2 (.mv xF)] .ret) .skip)) (.seq (HX [ia 3 (mI 0)] (.block 0 (.loop F33b0))) (HX [ia 2 (.mv HZ)] .ret)))))),[(.tmp 2)]⟩
theorem cc33:CK Tryz.f33=some (lH F33):=by kernel_rfl
def F34:FnC:=⟨1,(HX [ia 1 (bA 6 0),ia 2 (mI 0)] (.seq (HX [ia 3 (fA 0 1),ia 4 (lA 1 3)] (.block 0 (.seq (HX [ia 6 (bC .eql 4 1),ia 5 (mA 6)] (HW 5 .skip (HX [ia 7 (bC .eql 4 7),ia 5 (mA 7)] (HW 5 .skip (HX [ia 8 (bC .eql 4 10),ia 5 (mA 8)] (HW 5 .skip (.reg [ia 9 (bC .eql 4 13),ia 5 (mA 9)]))))))) (HW 5 (HX [
 ia 2 (mI 1)] .ret) (.seq (HX [ia 11 (bC .eql 4 5),ia 10 (mA 11)] (HW 10 .skip (HX [ia 12 (bC .eql 4 6),ia 10 (mA 12)] (HW 10 .skip (.reg [ia 13 (bC .eql 4 12),ia 10 (mA 13)]))))) (HW 10 (HX [ia 2 (mI 2)] .ret) (.seq (HX [ia 15 (bC .eql 4 2),ia 14 (mA 15)] (HW 14 .skip (HX [ia 16 (bC .eql 4 3),ia 14 (mA 16)] (HW 14 .skip (HX [
 ia 17 (bC .eql 4 4),ia 14 (mA 17)] (HW 14 .skip (.reg [ia 18 (bC .eql 4 11),ia 14 (mA 18)]))))))) (HW 14 (HX [ia 2 (mI 3)] .ret) (HX [ia 20 (bC .eql 4 8),ia 19 (mA 20)] (HW 19 (HX [ia 21 (fA 5 1),ia 22 (lA 1 21),ia 23 (nA 22),ia 2 (mA 23)] .ret) (HX [ia 25 (bC .eql 4 9),ia 24 (mA 25)] (HW 24 (HX [ia 26 (fA 4 1),
 ia 27 (lA 1 26),ia 28 (nA 27),ia 29 (.bin .add (ci 2) (.t 28)),ia 2 (mA 29)] .ret) .skip)))))))))))) (HX [ia 2 (mI 0)] .ret))),[(.tmp 2)]⟩
theorem cc34:CK Tryz.f34=some (lH F34):=by kernel_rfl
def F35:FnC:=⟨2,(HX [ia 2 (bA 2 0),ia 3 (bA 2 1),ia 4 (.mv xF)] (HX [ia 5 (fA 0 3),ia 6 (lA 1 5),ia 7 (bC .geq 6 0),ia 8 (mA 7),ih 9 8 true (fA 0 3),ih 10 8 true (lA 1 9),ih 11 8 true (fA 0 2),ih 12 8 true (lA 1 11),ih 13 8 true (nA 12),ig 14 8 true (bB .lss 10 13),ia 15 (pB 8 14),ia 16 (mA 15),
 ig 17 16 true (fA 1 3),ig 18 16 true (lA 1 17),ig 19 16 true (bC .geq 18 0),ia 20 (pB 16 19),ia 21 (mA 20),ih 22 21 true (fA 1 3),ih 23 21 true (lA 1 22),ih 24 21 true (fA 0 2),ih 25 21 true (lA 1 24),ih 26 21 true (fA 0 3),ih 27 21 true (lA 1 26),ih 28 21 true (aA 6 25 27),ih 29 21 true (fA 5 28),
 ih 30 21 true (lA 1 29),ih 31 21 true (nA 30),ig 32 21 true (bB .lss 23 31),ia 33 (pB 21 32),ia 4 (mA 33)] .ret)),[(.tmp 4)]⟩
theorem cc35:CK Tryz.f35=some (lH F35):=by kernel_rfl
def F36b0:C:=(.seq (HX [ia 17 (mA 5),ia 18 (bC .gtr 17 0)] (HW 18 .skip (.exit 0))) (.seq (.block 1 (HX [ia 21 (mA 4),ia 22 (mA 5),ia 23 (aA 1 21 22),ia 24 (lA 1 23),ia 25 (oA 24),ia 26 (mA 25),ig 27 26 true (mA 3),ig 28 26 true (mA 5),ig 29 26 true (aA 6 27 28),ig 30 26 true (fA 0 29),ig 31 26 true (lA 1 30),
 ig 32 26 true (bC .neq 31 0),ia 33 (pB 26 32)] (HW 33 (.reg [ia 35 (lB 2 1),ia 36 (mA 5),ia 37 (cC 55 35 36),ia 34 (mA 37),ia 38 (eA 34 0),ia 39 (eA 34 1),io (sA 2 1 38)]) .skip))) (.reg [ia 19 (mA 5),ia 20 (bC .sub 19 1),ia 5 (mA 20)])))
def F36:FnC:=⟨1,(HX [ia 1 (bA 2 0),ia 2 (.new [.nil,(.p (.i .i64 0))])] (.seq (HX [ia 6 (lB 2 1),ia 7 (cB 37 6),ia 8 (bC .neq 7 0)] (HW 8 (HX [ia 9 (lB 2 1),io (sA 2 2 9)] .ret) .skip)) (HX [ir 10 (fA 0 1),ir 11 (lA 1 10),ir 12 (lB 2 1),ir 13 (cB 54 12),ia 3 (mA 11),ia 4 (mA 13)] (.seq (HX [ia 14 (mA 4),
 ia 15 (nA 14),ia 16 (bC .sub 15 1),ia 5 (mA 16)] (.block 0 (.loop F36b0))) (HX [ia 40 (lB 2 1),io (sA 2 2 40)] .ret))))),[(.cell 2 2 true)]⟩
theorem cc36:CK Tryz.f36=some (lH F36):=by kernel_rfl
def F37b1:C:=(HX [ia 63 (bB .lss 62 61)] (.seq (HW 63 .skip (.exit 2)) (.seq (.block 3 (HX [ia 64 (mA 62),ia 6 (mA 64)] (HX [ia 65 (lB 2 1),ia 66 (mA 4),ia 67 (mA 6),ia 68 (.build [(.p (.i .i64 0)),(.p (.i .i64 0))] [(0,(1,(.t 66))),(1,(1,(.t 67)))]),ia 69 (cC 59 65 68),ia 70 (oA 69)] (HW 70 (HX [
 ia 2 (mI 120)] .ret) .skip)))) (.reg [ia 71 (bC .add 62 1),ia 62 (mA 71)]))))
def F37b0:C:=(HX [ia 36 (bB .lss 35 34)] (.seq (HW 36 .skip (.exit 0)) (.seq (.block 1 (HX [ia 37 (mA 35),ia 38 (aA 6 33 35),ia 39 (lB 6 38),ia 5 (.new [(.p (.i .i64 0)),(.p (.i .i64 0)),(.p (.i .i64 0)),(.p (.s [])),.nil,.nil]),ia 4 (mA 37),io (sA 6 5 39)] (.seq (HX [ia 40 (lB 6 5),ia 41 (cB 57 40),
 ia 42 (oA 41),ia 43 (mA 42),ih 44 43 false (fA 5 5),ih 45 43 false (lA 1 44),ih 46 43 false (nA 45),ih 47 43 false (lB 6 5),ih 48 43 false (cB 58 47),ig 49 43 false (bB .neq 46 48),ia 50 (pA 43 49),ia 51 (mA 50),ih 52 51 false (fA 0 5),ih 53 51 false (lA 1 52),ih 54 51 false (bC .eql 53 1),ih 55 51 false (mA 4),
 ih 56 51 false (bC .eql 55 0),ig 57 51 false (.eqb true (.t 54) (.t 56)),ia 58 (pA 51 57)] (HW 58 (HX [ia 2 (mI 120)] .ret) .skip)) (HX [ia 59 (fA 5 5),ia 60 (lA 1 59),ia 61 (nA 60),ia 62 (mI 0)] (.block 2 (.loop F37b1)))))) (.reg [ia 72 (bC .add 35 1),ia 35 (mA 72)]))))
def F37:FnC:=⟨1,(HX [ia 1 (bA 2 0),ia 2 (mI 0)] (HX [ia 7 (fA 0 1),ia 8 (lA 1 7),ia 9 (nA 8),ia 10 (bC .sub 9 1),ia 3 (mA 10)] (.seq (HX [ia 11 (fA 1 1),ia 12 (lA 1 11),ia 13 (.call (.f 56) [(.t 12),(ci 1),(ci 4000)]),ia 14 (oA 13),ia 15 (mA 14),ig 16 15 false (mA 3),ig 17 15 false (bC .add 16 1),
 ig 18 15 false (fA 1 1),ig 19 15 false (lA 1 18),ig 20 15 false (.call (.f 56) [(.t 17),(ci 1),(.t 19)]),ig 21 15 false (oA 20),ia 22 (pA 15 21),ia 23 (mA 22),ig 24 23 false (fA 0 1),ig 25 23 false (lA 1 24),ig 26 23 false (mA 3),ig 27 23 false (aA 6 25 26),ig 28 23 false (fA 0 27),ig 29 23 false (lA 1 28),
 ig 30 23 false (bC .eql 29 0),ia 31 (pA 23 30)] (HW 31 (HX [ia 2 (mI 120)] .ret) .skip)) (.seq (HX [ia 32 (fA 0 1),ia 33 (lA 1 32),ia 34 (nA 33),ia 35 (mI 0)] (.block 0 (.loop F37b0))) (HX [ia 2 (mI 0)] .ret))))),[(.tmp 2)]⟩
theorem cc37:CK Tryz.f37=some (lH F37):=by kernel_rfl
def F38:FnC:=⟨2,(HX [ia 2 (bA 2 0),ia 4 (mI 0)] (HX [ir 8 (lB 2 2),ir 9 (mA 1),ir 10 (.call (.f 61) [(.t 9),(ci 0)]),ir 11 (cC 60 8 10),ir 7 (mA 11),ir 12 (eA 7 0),ir 13 (eA 7 1),⟨(.some 5),.none,(.new [(.p (.i .i64 0)),(.p (.i .i64 0))]),.ad⟩,⟨.none,.none,(sA 2 5 12),(.wr [])⟩,ia 6 (mA 13)] (.seq (HX [
 ia 14 (mA 6),ia 15 (bC .neq 14 0),ia 16 (mA 15),ig 17 16 false (fA 1 5),ig 18 16 false (lA 1 17),ig 19 16 false (bC .neq 18 0),ia 20 (pA 16 19)] (HW 20 (HX [ia 4 (.mv (.c (.a (.p (.i .i64 (-1))))))] .ret) .skip)) (HX [ia 21 (fA 0 5),ia 22 (lA 1 21),ia 4 (mA 22)] .ret)))),[(.tmp 4)]⟩
theorem cc38:CK Tryz.f38=some (lH F38):=by kernel_rfl
def F39:FnC:=⟨2,(HX [ia 2 (bA 6 0),ia 3 (bA 6 1),ia 4 (.new [(.p (.i .i64 0)),(.p (.b false)),(.p (.i .i64 0)),(.p (.i .i64 0)),(.p (.i .i64 0)),(.p (.i .i64 0)),(.p (.i .i64 0)),(.p (.s [])),.nil,.nil]),ia 5 (mI 0)] (HX [ia 8 (.fn 62 [(.t 2),(.t 3)]),ia 6 (mA 8)] (HX [ia 9 (.fn 64 [(.t 2),(.t 3)]),
 ia 7 (mA 9)] (.seq (.block 0 (HX [ia 11 (mA 7),ia 12 (.call (.t 11) [(ci 0)]),ia 10 (mA 12)] (HW 10 (HX [ia 13 (.build [(.p (.i .i64 0)),(.p (.b false)),(.p (.i .i64 0)),(.p (.i .i64 0)),(.p (.i .i64 0)),(.p (.i .i64 0)),(.p (.i .i64 0)),(.p (.s [])),.nil,.nil] []),io (sA 10 4 13),ia 5 (mI 140)] .ret) (HX [
 ia 15 (fA 0 2),ia 16 (lA 1 15),ia 17 (cB 63 16),ia 18 (bC .eql 17 4),ia 14 (mA 18)] (HW 14 (HX [ia 19 (.call (.f 65) [(ci 8)]),ia 20 (eA 19 0),ia 21 (eA 19 1),io (sA 10 4 20),ia 5 (mA 21)] .ret) (HX [ia 23 (fA 0 3),ia 24 (lA 1 23),ia 25 (cB 63 24),ia 26 (bC .eql 25 4),ia 22 (mA 26)] (HW 22 (HX [ia 27 (.call (.f 65) [(ci 8)]),
 ia 28 (eA 27 0),ia 29 (eA 27 1),ia 30 (cC 66 28 29),ia 31 (eA 30 0),ia 32 (eA 30 1),io (sA 10 4 31),ia 5 (mA 32)] .ret) (HX [ia 34 (mA 6),ia 35 (.call (.t 34) [(ci 3),(ci 3)]),ia 36 (mA 35),ig 37 36 true (fA 1 2),ig 38 36 true (lA 1 37),ig 39 36 true (fA 1 3),ig 40 36 true (lA 1 39),ig 41 36 true (bB .eql 38 40),
 ia 42 (pB 36 41),ia 43 (mA 42),ig 44 43 true (fA 0 2),ig 45 43 true (lA 1 44),ig 46 43 true (fA 0 3),ig 47 43 true (lA 1 46),ig 48 43 true (bB .eql 45 47),ia 49 (pB 43 48),ia 33 (mA 49)] (HW 33 (HX [ia 50 (.call (.f 65) [(ci 6)]),ia 51 (eA 50 0),ia 52 (eA 50 1),io (sA 10 4 51),ia 5 (mA 52)] .ret) (HX [
 ia 54 (fA 0 2),ia 55 (lA 1 54),ia 56 (cB 63 55),ia 57 (bC .eql 56 3),ia 58 (mA 57),ig 59 58 true (fA 0 3),ig 60 58 true (lA 1 59),ig 61 58 true (cB 63 60),ig 62 58 true (bC .neq 61 3),ig 63 58 true (mA 62),ig 64 63 false (fA 1 2),ig 65 63 false (lA 1 64),ig 66 63 false (fA 1 3),ig 67 63 false (lA 1 66),
 ig 68 63 false (bB .leq 65 67),ig 69 58 true (pA 63 68),ia 70 (pB 58 69),ia 53 (mA 70)] (HW 53 (HX [ia 71 (lB 6 2),ia 72 (lB 6 3),ia 73 (cC 67 71 72),ia 74 (eA 73 0),ia 75 (eA 73 1),io (sA 10 4 74),ia 5 (mA 75)] .ret) (HX [ia 77 (fA 0 3),ia 78 (lA 1 77),ia 79 (cB 63 78),ia 80 (bC .eql 79 3),ia 76 (mA 80)] (HW 76 (HX [
 ia 81 (lB 6 3),ia 82 (lB 6 2),ia 83 (cC 67 81 82),ia 84 (eA 83 0),ia 85 (eA 83 1),ia 86 (cC 66 84 85),ia 87 (eA 86 0),ia 88 (eA 86 1),io (sA 10 4 87),ia 5 (mA 88)] .ret) (HX [ia 90 (mA 6),ia 91 (.call (.t 90) [(ci 1),(ci 2)]),ia 89 (mA 91)] (HW 89 (HX [ia 92 (lB 6 2),ia 93 (lB 6 3),ia 94 (cC 68 92 93),
 ia 95 (eA 94 0),ia 96 (eA 94 1),io (sA 10 4 95),ia 5 (mA 96)] .ret) (HX [ia 98 (mA 6),ia 99 (.call (.t 98) [(ci 2),(ci 1)]),ia 97 (mA 99)] (HW 97 (HX [ia 100 (lB 6 3),ia 101 (lB 6 2),ia 102 (cC 68 100 101),ia 103 (eA 102 0),ia 104 (eA 102 1),ia 105 (cC 66 103 104),ia 106 (eA 105 0),ia 107 (eA 105 1),
 io (sA 10 4 106),ia 5 (mA 107)] .ret) .skip))))))))))))))))) (HX [ia 108 (.build [(.p (.i .i64 0)),(.p (.b false)),(.p (.i .i64 0)),(.p (.i .i64 0)),(.p (.i .i64 0)),(.p (.i .i64 0)),(.p (.i .i64 0)),(.p (.s [])),.nil,.nil] []),io (sA 10 4 108),ia 5 (mI 140)] .ret))))),[(.cell 4 10 true),(.tmp 5)]⟩
theorem cc39:CK Tryz.f39=some (lH F39):=by kernel_rfl
def F40b0:C:=(HX [ia 10 (bB .lss 9 8)] (.seq (HW 10 .skip (.exit 0)) (.seq (.block 1 (HX [ia 11 (aA 6 7 9),ia 12 (lB 6 11),ia 5 (.new [(.p (.i .i64 0)),(.p (.i .i64 0)),(.p (.i .i64 0)),(.p (.s [])),.nil,.nil]),io (sA 6 5 12)] (HX [ia 13 (lB 6 5),ia 14 (cB 69 13),ia 15 (oA 14)] (HW 15 (.reg [
 ia 16 (mA 3),ia 17 (bC .add 16 1),ia 3 (mA 17)]) .skip)))) (.reg [ia 18 (bC .add 9 1),ia 9 (mA 18)]))))
def F40:FnC:=⟨1,(HX [ia 1 (bA 2 0),ia 2 (mI 0)] (HX [ia 3 (mI 0)] (.seq (HX [ia 6 (fA 0 1),ia 7 (lA 1 6),ia 8 (nA 7),ia 9 (mI 0)] (.block 0 (.loop F40b0))) (HX [ia 19 (mA 3),ia 2 (mA 19)] .ret)))),[(.tmp 2)]⟩
theorem cc40:CK Tryz.f40=some (lH F40):=by kernel_rfl
def F41:FnC:=⟨3,(HX [ia 3 (bA 10 0),ia 4 (bA 6 1),ia 5 (bA 6 2),ia 6 (mI 0)] (HX [ir 9 (lB 6 4),ir 10 (lB 6 5),⟨(.some 7),.none,(.new [(.p (.i .i64 0)),(.p (.i .i64 0)),(.p (.i .i64 0)),(.p (.s [])),.nil,.nil]),.ad⟩,⟨(.some 8),.none,(.new [(.p (.i .i64 0)),(.p (.i .i64 0)),(.p (.i .i64 0)),(.p (.s [])),.nil,.nil]),.ad⟩,
 ⟨.none,.none,(sA 6 7 9),(.wr [5])⟩,io (sA 6 8 10)] (.seq (HX [ia 11 (fA 1 3),ia 12 (lA 1 11)] (HW 12 (.reg [ir 13 (lB 6 5),ir 14 (lB 6 4),⟨.none,.none,(sA 6 7 13),(.wr [4])⟩,io (sA 6 8 14)]) .skip)) (.seq (HX [ia 15 (fA 0 3),ia 16 (lA 1 15)] (.block 0 (HX [ia 18 (bC .eql 16 2),ia 17 (mA 18)] (HW 17 (.seq (HX [
 ia 19 (fA 3 3),ia 20 (lA 1 19),ia 21 (bC .lss 20 0),ia 22 (mA 21),ig 23 22 false (fA 3 3),ig 24 22 false (lA 1 23),ig 25 22 false (fA 4 7),ig 26 22 false (lA 1 25),ig 27 22 false (nA 26),ig 28 22 false (bB .geq 24 27),ia 29 (pA 22 28)] (HW 29 (HX [ia 6 (mI 0)] .ret) .skip)) (HX [ir 30 (fA 4 7),ir 31 (lA 1 30),
 ir 32 (fA 3 3),ir 33 (lA 1 32),ir 34 (aA 2 31 33),ir 35 (fA 1 34),ir 36 (lA 1 35),ir 37 (fA 4 7),ir 38 (lA 1 37),ir 39 (nA 38),ia 40 (bB .add 36 39),ia 41 (bC .sub 40 1),ia 6 (mA 41)] .ret)) (.seq (HX [ia 43 (bC .eql 16 3),ia 42 (mA 43)] (HW 42 .skip (.reg [ia 44 (bC .eql 16 4),ia 42 (mA 44)]))) (HW 42 (HX [
 ia 6 (mI 1)] .ret) (HX [ia 46 (bC .eql 16 5),ia 45 (mA 46)] (HW 45 (HX [ir 47 (lB 6 7),ir 48 (cB 70 47),ir 49 (bC .sub 48 1),ir 50 (.mx (.t 49) (ci 0)),ir 51 (.bin .add (ci 1) (.t 50)),ir 52 (lB 6 8),ir 53 (cB 70 52),ia 54 (bB .add 51 53),ia 6 (mA 54)] .ret) (HX [ia 56 (bC .eql 16 7),ia 55 (mA 56)] (HW 55 (.seq (HX [
 ia 57 (fA 0 7),ia 58 (lA 1 57),ia 59 (bC .eql 58 4)] (HW 59 (HX [ia 60 (lB 6 8),ia 61 (cB 70 60),ia 62 (.bin .add (ci 2) (.t 61)),ia 6 (mA 62)] .ret) .skip)) (HX [ia 63 (lB 6 8),ia 64 (cB 70 63),ia 65 (.bin .add (ci 1) (.t 64)),ia 6 (mA 65)] .ret)) (HX [ia 67 (bC .eql 16 8),ia 66 (mA 67)] (HW 66 (HX [
 ia 68 (lB 6 8),ia 69 (cB 70 68),ia 6 (mA 69)] .ret) .skip)))))))))))) (HX [ia 6 (mI 0)] .ret))))),[(.tmp 6)]⟩
theorem cc41:CK Tryz.f41=some (lH F41):=by kernel_rfl
def F42b0:C:=(HX [ia 79 (bB .lss 78 77)] (.seq (HW 79 .skip (.exit 1)) (.seq (.block 2 (HX [ia 80 (aA 1 76 78),ia 81 (lA 1 80),ia 3 (mA 81)] (.reg [ia 83 (mA 0),ia 84 (mA 0),ia 85 (HY 84),ia 86 (fA 0 85),ia 87 (lB 2 86),ia 88 (mA 3),ia 89 (cC 55 87 88),ia 82 (mA 89),ia 90 (eA 82 0),ia 91 (eA 82 1),
 ia 92 (HY 83),ia 93 (fA 0 92),io (sA 2 93 90)]))) (.reg [ia 94 (bC .add 78 1),ia 78 (mA 94)]))))
def F42:FnC:=⟨1,(.seq (HX [ia 4 (mA 0),ia 5 (HY 4),ia 6 (fA 2 5),ia 7 (fA 0 6),ia 8 (lA 1 7)] (.block 0 (.seq (HX [ia 10 (bC .eql 8 1),ia 9 (mA 10)] (HW 9 .skip (.reg [ia 11 (bC .eql 8 6),ia 9 (mA 11)]))) (HW 9 (.reg [ia 12 (mA 0),ia 13 (cB 71 12)]) (HX [ia 15 (bC .eql 8 2),ia 14 (mA 15)] (HW 14 (.reg [
 ia 16 (mA 0),ia 17 (cB 72 16)]) (HX [ia 19 (bC .eql 8 3),ia 18 (mA 19)] (HW 18 (.reg [ia 20 (mA 0),ia 21 (cB 73 20)]) (HX [ia 23 (bC .eql 8 4),ia 22 (mA 23)] (HW 22 (.reg [ir 24 (mA 0),ir 25 (mA 0),ir 26 (HY 25),ir 27 (fA 12 26),ir 28 (lA 1 27),ir 29 (.call (.f 61) [(.t 28),(ci 1)]),ir 30 (mA 0),ir 31 (mA 0),
 ir 32 (HY 31),ir 33 (fA 2 32),ir 34 (fA 4 33),ir 35 (lB 6 34),⟨(.some 36),.none,(cC 75 30 35),(.cl [] [])⟩,ir 37 (.call (.f 61) [(.t 36),(ci 0)]),ia 38 (cD 74 24 29 37)]) (HX [ia 40 (bC .eql 8 5),ia 39 (mA 40)] (HW 39 (.reg [ia 41 (mA 0),ia 42 (cB 76 41)]) (HX [ia 44 (bC .eql 8 7),ia 43 (mA 44)] (HW 43 (.reg [
 ia 45 (mA 0),ia 46 (cB 77 45)]) (HX [ia 48 (bC .eql 8 8),ia 47 (mA 48)] (HW 47 (.reg [ia 49 (mA 0),ia 50 (mA 0),ia 51 (mA 0),ia 52 (HY 51),ia 53 (fA 13 52),ia 54 (lA 1 53),ia 55 (.call (.f 79) [(.t 50),(.t 54),(ci 1)]),ia 56 (cC 78 49 55),ia 57 (.call (.t 56) [])]) .skip)))))))))))))))) (HX [ir 58 (mA 0),
 ir 59 (HY 58),ir 60 (fA 12 59),ir 61 (lA 1 60),ir 62 (mA 0),ir 63 (HY 62),ir 64 (fA 13 63),ir 65 (lA 1 64),ir 66 (.mx (.t 61) (.t 65)),ir 67 (mA 0),ir 68 (HY 67),ir 69 (fA 12 68),ir 70 (lA 1 69),ir 71 (mA 0),ir 72 (HY 71),ir 73 (fA 13 72),ir 74 (lA 1 73),ir 75 (.mn (.t 70) (.t 74)),⟨(.some 76),.none,(.bsl 1 3 [(.p (.i .i64 0))] 2 [(0,(.t 66)),(1,(.t 75))]),.ad⟩,
 ir 77 (nA 76),ir 78 (mI 0)] (.block 1 (.loop F42b0)))),[]⟩
theorem cc42:CK Tryz.f42=some (lH F42):=by kernel_rfl
def F45:FnC:=⟨2,(HX [ia 4 (.new [(.p (.i .i64 0)),(.p (.s [])),(.p (.i .i64 0)),(.p (.i .i64 0)),.nil]),ia 5 (mI 0),ia 6 (mI 0)] (.seq (HX [ia 11 (mA 1),ia 12 (bC .lss 11 1),ia 13 (mA 12),ig 14 13 false (mA 1),ig 15 13 false (bC .gtr 14 200),ia 16 (pA 13 15)] (HW 16 (HX [ia 17 (.build [(.p (.i .i64 0)),(.p (.s [])),(.p (.i .i64 0)),(.p (.i .i64 0)),.nil] []),
 io (sA 5 4 17),ia 5 (mI 0),ia 6 (mI 1)] .ret) .skip)) (.seq (HX [ia 18 (mA 0),ia 19 (.len true (.t 18)),ia 20 (bC .gtr 19 4096)] (HW 20 (HX [ia 21 (.build [(.p (.i .i64 0)),(.p (.s [])),(.p (.i .i64 0)),(.p (.i .i64 0)),.nil] []),io (sA 5 4 21),ia 5 (mI 0),ia 6 (mI 32)] .ret) .skip)) (HX [ia 23 (mA 0),
 ia 24 (cB 81 23),ia 22 (mA 24),ia 25 (eA 22 0),ia 26 (eA 22 1),ia 27 (eA 22 2),ia 7 (mA 25),ia 8 (mA 26),ia 9 (mA 27)] (.seq (HX [ia 28 (mA 9),ia 29 (bC .neq 28 0)] (HW 29 (HX [ia 30 (.build [(.p (.i .i64 0)),(.p (.s [])),(.p (.i .i64 0)),(.p (.i .i64 0)),.nil] []),ia 31 (mA 8),ia 32 (mA 9),io (sA 5 4 30),
 ia 5 (mA 31),ia 6 (mA 32)] .ret) .skip)) (HX [ia 33 (mA 7),ia 34 (.call (.f 82) [(.t 33),(ci 0)]),ia 10 (.new [(.p (.i .i64 0)),(.p (.s [])),(.p (.i .i64 0)),(.p (.i .i64 0)),.nil,(.p (.i .i64 0)),(.p (.b false))]),io (sA 7 10 34)] (.seq (HX [ia 35 (fA 6 10),ia 36 (lA 1 35),ia 37 (oA 36),ia 38 (mA 37),
 ig 39 38 false (fA 5 10),ig 40 38 false (lA 1 39),ig 41 38 false (mA 7),ig 42 38 false (nA 41),ig 43 38 false (bB .lss 40 42),ia 44 (pA 38 43)] (HW 44 (.seq (HX [ia 45 (fA 5 10),ia 46 (lA 1 45),ia 47 (mA 7),ia 48 (nA 47),ia 49 (bB .lss 46 48)] (HW 49 (HX [ir 50 (.build [(.p (.i .i64 0)),(.p (.s [])),(.p (.i .i64 0)),(.p (.i .i64 0)),.nil] []),
 ir 51 (mA 7),ir 52 (fA 5 10),ir 53 (lA 1 52),ir 54 (aA 4 51 53),ir 55 (fA 3 54),ir 56 (lA 1 55),⟨.none,.none,(sA 5 4 50),(.wr [52,51,53,55])⟩,ia 5 (mA 56),ia 6 (mI 30)] .ret) .skip)) (HX [ia 57 (.build [(.p (.i .i64 0)),(.p (.s [])),(.p (.i .i64 0)),(.p (.i .i64 0)),.nil] []),ia 58 (mA 0),
 ia 59 (.len true (.t 58)),io (sA 5 4 57),ia 5 (mA 59),ia 6 (mI 30)] .ret)) .skip)) (.seq (HX [ia 60 (fA 0 10),ia 61 (lB 5 60),ia 62 (cB 83 61),ia 63 (mA 1),ia 64 (bB .gtr 62 63)] (HW 64 (HX [ia 65 (.build [(.p (.i .i64 0)),(.p (.s [])),(.p (.i .i64 0)),(.p (.i .i64 0)),.nil] []),io (sA 5 4 65),
 ia 5 (mI 0),ia 6 (mI 31)] .ret) .skip)) (HX [ia 66 (fA 0 10),ia 67 (lB 5 66),io (sA 5 4 67),ia 5 (mI 0),ia 6 (mI 0)] .ret))))))))),[(.cell 4 5 true),(.tmp 5),(.tmp 6)]⟩
theorem cc45:CK Tryz.f45=some (lH F45):=by kernel_rfl
def F46:FnC:=⟨1,(HX [ia 1 (bA 5 0),ia 2 (.new [(.p (.i .i64 0)),(.p (.i .i64 0)),(.p (.s [])),.nil]),ia 3 (mI 0),ia 4 (mI 0)] (HX [ia 8 (lB 5 1),ia 9 (cB 84 8),ia 7 (mA 9),ia 10 (eA 7 0),ia 11 (eA 7 1),ia 5 (mA 10),ia 6 (mA 11)] (.seq (HX [ia 12 (mA 6),ia 13 (bC .neq 12 0)] (HW 13 (HX [ia 14 (.build [(.p (.i .i64 0)),(.p (.i .i64 0)),(.p (.s [])),.nil] []),
 ia 15 (mA 5),ia 16 (mA 6),io (sA 4 2 14),ia 3 (mA 15),ia 4 (mA 16)] .ret) .skip)) (HX [ia 17 (lB 5 1),ia 18 (.call (.f 85) [(.t 17),(.c (.a .nil))]),io (sA 4 2 18),ia 3 (mI 0),ia 4 (mI 0)] .ret)))),[(.cell 2 4 true),(.tmp 3),(.tmp 4)]⟩
theorem cc46:CK Tryz.f46=some (lH F46):=by kernel_rfl
def F47:FnC:=⟨3,(HX [ia 3 (bA 4 0),ia 6 (.mv xF)] (HX [ia 10 (fA 3 3),ia 11 (lA 1 10),ia 12 (nA 11),ia 7 (mA 12)] (HX [ia 13 (fA 2 3),ia 14 (lA 1 13),ia 15 (.bin .eql (.t 14) (.c (.a (.p (.s [43]))))),ia 16 (mA 15),ig 17 16 false (fA 2 3),ig 18 16 false (lA 1 17),ig 19 16 false (.bin .eql (.t 18) (.c (.a (.p (.s [45]))))),
 ia 20 (pA 16 19),ia 21 (mA 20),ig 22 21 false (fA 2 3),ig 23 21 false (lA 1 22),ig 24 21 false (.bin .eql (.t 23) (.c (.a (.p (.s [42]))))),ia 25 (pA 21 24),ia 26 (mA 25),ig 27 26 false (fA 2 3),ig 28 26 false (lA 1 27),ig 29 26 false (.bin .eql (.t 28) (.c (.a (.p (.s [47]))))),ia 30 (pA 26 29),ia 31 (mA 30),
 ig 32 31 false (fA 2 3),ig 33 31 false (lA 1 32),ig 34 31 false (.bin .eql (.t 33) (.c (.a (.p (.s [60]))))),ia 35 (pA 31 34),ia 36 (mA 35),ig 37 36 false (fA 2 3),ig 38 36 false (lA 1 37),ig 39 36 false (.bin .eql (.t 38) (.c (.a (.p (.s [61,61]))))),ia 40 (pA 36 39),ia 8 (mA 40)] (HX [ia 41 (fA 2 3),
 ia 42 (lA 1 41),ia 43 (.bin .eql (.t 42) (.c (.a (.p (.s []))))),ia 44 (mA 43),ig 45 44 true (fA 1 3),ig 46 44 true (lA 1 45),ig 47 44 true (bC .eql 46 0),ia 48 (pB 44 47),ia 9 (mA 48)] (.seq (HX [ia 49 (mA 2)] (HW 49 (HX [ia 50 (fA 0 3),ia 51 (lA 1 50),ia 52 (bC .eql 51 6),ia 53 (mA 52),ig 54 53 true (fA 2 3),
 ig 55 53 true (lA 1 54),ig 56 53 true (cB 86 55),ia 57 (pB 53 56),ia 58 (mA 57),ig 59 58 true (fA 1 3),ig 60 58 true (lA 1 59),ig 61 58 true (bC .geq 60 0),ia 62 (pB 58 61),ia 63 (mA 62),ig 64 63 true (fA 1 3),ig 65 63 true (lA 1 64),ig 66 63 true (bC .leq 65 8),ia 67 (pB 63 66),ia 68 (mA 67),ig 69 68 true (mA 7),
 ig 70 68 true (bC .eql 69 1),ia 71 (pB 68 70),ia 6 (mA 71)] .ret) .skip)) (.seq (HX [ia 72 (fA 0 3),ia 73 (lA 1 72)] (.block 0 (HX [ia 75 (bC .eql 73 1),ia 74 (mA 75)] (HW 74 (HX [ia 76 (fA 2 3),ia 77 (lA 1 76),ia 78 (.bin .eql (.t 77) (.c (.a (.p (.s []))))),ia 79 (mA 78),ig 80 79 true (mA 7),ig 81 79 true (bC .eql 80 0),
 ia 82 (pB 79 81),ia 83 (mA 82),ig 84 83 true (fA 1 3),ig 85 83 true (lA 1 84),ig 86 83 true (bC .geq 85 0),ia 87 (pB 83 86),ia 88 (mA 87),ig 89 88 true (fA 1 3),ig 90 88 true (lA 1 89),ig 91 88 true (mA 1),ig 92 88 true (bB .lss 90 91),ia 93 (pB 88 92),ia 6 (mA 93)] .ret) (HX [ia 95 (bC .eql 73 2),
 ia 94 (mA 95)] (HW 94 (HX [ia 96 (mA 9),ia 97 (mA 96),ig 98 97 true (mA 7),ig 99 97 true (bC .eql 98 1),ia 100 (pB 97 99),ia 6 (mA 100)] .ret) (HX [ia 102 (bC .eql 73 3),ia 101 (mA 102)] (HW 101 (HX [ia 103 (mA 9),ia 104 (mA 103),ig 105 104 true (mA 7),ig 106 104 true (bC .eql 105 2),ia 107 (pB 104 106),
 ia 6 (mA 107)] .ret) (HX [ia 109 (bC .eql 73 4),ia 108 (mA 109)] (HW 108 (HX [ia 110 (fA 2 3),ia 111 (lA 1 110),ia 112 (cB 86 111),ia 113 (mA 112),ig 114 113 true (fA 1 3),ig 115 113 true (lA 1 114),ig 116 113 true (bC .eql 115 0),ia 117 (pB 113 116),ia 118 (mA 117),ig 119 118 true (mA 7),ig 120 118 true (bC .leq 119 8),
 ia 121 (pB 118 120),ia 6 (mA 121)] .ret) (HX [ia 123 (bC .eql 73 5),ia 122 (mA 123)] (HW 122 (HX [ia 124 (mA 9),ia 125 (mA 124),ig 126 125 true (mA 7),ig 127 125 true (bC .geq 126 2),ia 128 (pB 125 127),ia 129 (mA 128),ig 130 129 true (mA 7),ig 131 129 true (bC .leq 130 9),ia 132 (pB 129 131),ia 6 (mA 132)] .ret) (HX [
 ia 134 (bC .eql 73 7),ia 133 (mA 134)] (HW 133 (HX [ia 135 (fA 2 3),ia 136 (lA 1 135),ia 137 (.bin .eql (.t 136) (.c (.a (.p (.s []))))),ia 138 (mA 137),ig 139 138 true (mA 7),ig 140 138 true (bC .eql 139 0),ia 141 (pB 138 140),ia 6 (mA 141)] .ret) (HX [ia 143 (bC .eql 73 8),ia 142 (mA 143)] (HW 142 (HX [
 ia 144 (mA 8),ia 145 (mA 144),ig 146 145 true (fA 1 3),ig 147 145 true (lA 1 146),ig 148 145 true (bC .eql 147 0),ia 149 (pB 145 148),ia 150 (mA 149),ig 151 150 true (mA 7),ig 152 150 true (bC .eql 151 2),ia 153 (pB 150 152),ia 6 (mA 153)] .ret) (HX [ia 155 (bC .eql 73 9),ia 154 (mA 155)] (HW 154 (HX [
 ia 156 (mA 9),ia 157 (mA 156),ig 158 157 true (mA 7),ig 159 157 true (bC .eql 158 0),ia 160 (pB 157 159),ia 6 (mA 160)] .ret) .skip)))))))))))))))))) (HX [ia 6 (.mv xF)] .ret))))))),[(.tmp 6)]⟩
theorem cc47:CK Tryz.f47=some (lH F47):=by kernel_rfl
def F48:FnC:=⟨2,(HX [ia 2 (bA 2 0),ia 3 (bA 6 1),ia 4 (.new [.nil,(.p (.i .i64 0))]),ia 5 (mI 0),ia 6 (mI 0)] (.seq (HX [ia 7 (fA 1 3),ia 8 (lA 1 7),ia 9 (bC .gtr 8 60)] (HW 9 (HX [ia 10 (lB 2 2),io (sA 2 4 10),ia 5 (mI 0),ia 6 (mI 141)] .ret) .skip)) (HX [ia 11 (lB 2 2),ia 12 (lB 6 3),ia 13 (cC 87 11 12),
 ia 14 (eA 13 0),ia 15 (eA 13 1),ia 16 (eA 13 2),io (sA 2 4 14),ia 5 (mA 15),ia 6 (mA 16)] .ret))),[(.cell 4 2 true),(.tmp 5),(.tmp 6)]⟩
theorem cc48:CK Tryz.f48=some (lH F48):=by kernel_rfl
def F49b0:C:=(.seq (HX [ia 95 (mA 17),ia 96 (fA 4 11),ia 97 (lA 1 96),ia 98 (nA 97),ia 99 (bB .lss 95 98)] (HW 99 .skip (.exit 0))) (.seq (.block 1 (HX [ia 102 (fA 4 11),ia 103 (lA 1 102),ia 104 (mA 17),ia 105 (aA 3 103 104),ia 106 (fA 0 105),ia 107 (lA 1 106),ia 108 (bC .gtr 107 0)] (HW 108 (.reg [
 ir 109 (mA 16),ir 110 (fA 4 11),ir 111 (lA 1 110),ir 112 (mA 17),ir 113 (aA 3 111 112),ir 114 (fA 0 113),ir 115 (lA 1 114),ir 116 (bC .sub 115 1),ir 117 (fA 4 11),ir 118 (lA 1 117),ir 119 (mA 17),ir 120 (aA 3 118 119),ir 121 (fA 1 120),ir 122 (lB 2 121),ir 123 (.build [(.p (.i .i64 0)),(.p (.i .i64 0)),(.p (.i .i64 0))] [(0,(1,(.t 116))),(1,(2,(.t 122)))]),
 ⟨(.some 124),.none,(.bsl 3 104 [(.p (.i .i64 0)),(.p (.i .i64 0)),(.p (.i .i64 0))] 1 [(0,(.t 123))]),.ad⟩,ia 125 (.app 3 104 24 (.t 109) (.t 124)),ia 16 (mA 125)]) .skip))) (.reg [ia 100 (mA 17),ia 101 (bC .add 100 1),ia 17 (mA 101)])))
def F49:FnC:=⟨4,(HX [ia 4 (bA 2 0),ia 5 (bA 4 1),ia 8 (.new [.nil,(.p (.i .i64 0)),(.p (.i .i64 0)),(.p (.i .i64 0)),.nil,(.p (.i .i64 0))])] (.seq (HX [ia 18 (mA 2),ia 19 (bC .eql 18 0)] (HW 19 (HX [ia 20 (lB 2 4),ia 21 (lB 4 5),ia 22 (mA 3),ia 23 (cD 26 20 21 22),io (sA 6 8 23)] .ret) .skip)) (HX [
 ia 25 (lB 2 4),ia 26 (mA 3),ia 27 (.build [(.p (.i .i64 0)),(.p (.i .i64 0)),(.p (.i .i64 0)),(.p (.s [])),.nil,.nil] [(0,(1,(ci 2))),(1,(1,(.t 26)))]),ia 28 (cC 48 25 27),ia 24 (mA 28),ia 29 (eA 24 0),ia 30 (eA 24 1),ia 31 (eA 24 2),io (sA 2 4 29),ia 9 (mA 30),ia 10 (mA 31)] (.seq (HX [ia 32 (mA 10),
 ia 33 (bC .neq 32 0)] (HW 33 (HX [ia 34 (mA 10),ia 35 (cB 88 34),io (sA 6 8 35)] .ret) .skip)) (HX [ia 36 (lB 2 4),ia 37 (lB 4 5),ia 38 (mA 2),ia 39 (bC .sub 38 1),ia 40 (mA 3),ia 41 (cE 49 36 37 39 40),ia 11 (.new [.nil,(.p (.i .i64 0)),(.p (.i .i64 0)),(.p (.i .i64 0)),.nil,(.p (.i .i64 0))]),
 io (sA 6 11 41)] (.seq (HX [ia 42 (fA 5 11),ia 43 (lA 1 42),ia 44 (bC .neq 43 0)] (HW 44 (HX [ia 45 (lB 6 11),io (sA 6 8 45)] .ret) .skip)) (HX [ir 46 (fA 0 11),ir 47 (lB 2 46),ir 48 (fA 2 11),ir 49 (lB 2 48),ir 50 (mA 9),ir 51 (.call (.f 28) [(.t 50),(ci 1)]),ia 52 (cD 27 47 49 51),ia 53 (fA 0 11),
 io (sA 2 53 52)] (HX [ia 54 (mA 9),ia 55 (.call (.f 28) [(.t 54),(ci 0)]),ia 56 (fA 2 11),io (sA 2 56 55)] (HX [ia 57 (fA 4 11),ia 58 (lA 1 57),ia 59 (.call (.f 89) [(.t 58),(ci 0)]),ia 12 (mA 59)] (.seq (HX [ia 60 (mA 12),ia 61 (bC .geq 60 0)] (HW 61 (.reg [ir 62 (fA 0 11),ir 63 (lB 2 62),ir 64 (fA 4 11),
 ir 65 (lA 1 64),ir 66 (mA 12),ir 67 (aA 3 65 66),ir 68 (fA 1 67),ir 69 (lB 2 68),ir 70 (mA 9),ir 71 (.call (.f 28) [(.t 70),(ci 2)]),ia 72 (cD 27 63 69 71),ia 73 (fA 0 11),io (sA 2 73 72)]) (HX [ia 75 (fA 0 11),ia 76 (lB 2 75),ia 77 (mA 3),ia 78 (.build [(.p (.i .i64 0)),(.p (.i .i64 0)),(.p (.i .i64 0)),(.p (.s [])),.nil,.nil] [(0,(1,(ci 7))),(1,(1,(.t 77)))]),
 ia 79 (cC 48 76 78),ia 74 (mA 79),ia 80 (eA 74 0),ia 81 (eA 74 1),ia 82 (eA 74 2),ia 13 (.new [.nil,(.p (.i .i64 0))]),io (sA 2 13 80),ia 14 (mA 81),ia 15 (mA 82)] (.seq (HX [ia 83 (mA 15),ia 84 (bC .neq 83 0)] (HW 84 (HX [ia 85 (mA 15),ia 86 (cB 88 85),io (sA 6 8 86)] .ret) .skip)) (.reg [ir 87 (lB 2 13),
 ir 88 (mA 14),ir 89 (.call (.f 28) [(.t 88),(ci 0)]),ir 90 (mA 9),ir 91 (.call (.f 28) [(.t 90),(ci 2)]),ia 92 (cD 27 87 89 91),ia 93 (fA 0 11),io (sA 2 93 92)]))))) (HX [ia 94 (.bsl 3 104 [(.p (.i .i64 0)),(.p (.i .i64 0)),(.p (.i .i64 0))] 0 []),ia 16 (mA 94)] (.seq (HX [ia 17 (mI 0)] (.block 0 (.loop F49b0))) (HX [
 ia 126 (mA 16),ia 127 (fA 4 11),io (sA 1 127 126)] (HX [ia 128 (lB 6 11),io (sA 6 8 128)] .ret)))))))))))))),[(.cell 8 6 true)]⟩
theorem cc49:CK Tryz.f49=some (lH F49):=by kernel_rfl
def F50b0:C:=(.seq (HX [ia 26 (mA 10),ia 27 (fA 3 4),ia 28 (lA 1 27),ia 29 (nA 28),ia 30 (bB .lss 26 29)] (HW 30 .skip (.exit 0))) (.seq (.block 1 (HX [ia 33 (fA 0 9),ia 34 (lB 2 33),ia 35 (lB 4 4),ia 36 (mA 10),ia 37 (fA 1 5),ia 38 (lA 1 37),ia 39 (cE 90 34 35 36 38),ia 11 (.new [.nil,(.p (.i .i64 0)),(.p (.i .i64 0)),(.p (.i .i64 0)),.nil,(.p (.i .i64 0))]),
 io (sA 6 11 39)] (.seq (HX [ia 40 (fA 5 11),ia 41 (lA 1 40),ia 42 (bC .neq 41 0)] (HW 42 (HX [ia 43 (fA 5 11),ia 44 (lA 1 43),ia 45 (cB 88 44),io (sA 6 6 45)] .ret) .skip)) (HX [ia 46 (mA 10),ia 47 (bC .add 46 1),ia 12 (mA 47)] (.seq (HX [ia 48 (mA 10),ia 49 (bC .eql 48 0),ia 50 (mA 49),ig 51 50 true (fA 0 4),
 ig 52 50 true (lA 1 51),ig 53 50 true (bC .neq 52 4),ia 54 (pB 50 53)] (HW 54 (.reg [ia 12 (mI 0)]) .skip)) (HX [ir 55 (fA 0 11),ir 56 (lB 2 55),ir 57 (fA 2 11),ir 58 (lB 2 57),ir 59 (mA 7),ir 60 (mA 12),ir 61 (cC 28 59 60),ia 62 (cD 27 56 58 61),ia 63 (fA 0 11),io (sA 2 63 62)] (HX [ia 64 (lB 6 11),
 ia 65 (fA 4 9),ia 66 (lA 1 65),ia 67 (fA 1 5),ia 68 (lA 1 67),ia 69 (cD 91 64 66 68),io (sA 6 9 69)] (HX [ia 70 (fA 5 9),ia 71 (lA 1 70),ia 72 (bC .neq 71 0)] (HW 72 (HX [ia 73 (fA 5 9),ia 74 (lA 1 73),ia 75 (cB 88 74),io (sA 6 6 75)] .ret) .skip))))))))) (.reg [ia 31 (mA 10),ia 32 (bC .add 31 1),ia 10 (mA 32)])))
def F50:FnC:=⟨3,(HX [ia 3 (bA 2 0),ia 4 (bA 4 1),ia 5 (bA 6 2),ia 6 (.new [.nil,(.p (.i .i64 0)),(.p (.i .i64 0)),(.p (.i .i64 0)),.nil,(.p (.i .i64 0))])] (HX [ia 14 (lB 2 3),ia 15 (lB 6 5),ia 16 (cC 48 14 15),ia 13 (mA 16),ia 17 (eA 13 0),ia 18 (eA 13 1),ia 19 (eA 13 2),io (sA 2 3 17),ia 7 (mA 18),
 ia 8 (mA 19)] (.seq (HX [ia 20 (mA 8),ia 21 (bC .neq 20 0)] (HW 21 (HX [ia 22 (mA 8),ia 23 (cB 88 22),io (sA 6 6 23)] .ret) .skip)) (HX [ia 24 (lB 2 3),ia 25 (.build [.nil,(.p (.i .i64 0)),(.p (.i .i64 0)),(.p (.i .i64 0)),.nil,(.p (.i .i64 0))] [(0,(2,(.t 24)))]),ia 9 (.new [.nil,(.p (.i .i64 0)),(.p (.i .i64 0)),(.p (.i .i64 0)),.nil,(.p (.i .i64 0))]),
 io (sA 6 9 25)] (.seq (HX [ia 10 (mI 0)] (.block 0 (.loop F50b0))) (HX [ia 76 (mA 7),ia 77 (.call (.f 28) [(.t 76),(ci 1)]),ia 78 (fA 2 9),io (sA 2 78 77)] (.seq (HX [ia 79 (fA 0 4),ia 80 (lA 1 79),ia 81 (bC .eql 80 4)] (HW 81 (.reg [ia 82 (mA 7),ia 83 (.call (.f 28) [(.t 82),(ci 0)]),ia 84 (fA 2 9),
 io (sA 2 84 83)]) .skip)) (HX [ia 85 (lB 6 9),io (sA 6 6 85)] .ret)))))))),[(.cell 6 6 true)]⟩
theorem cc50:CK Tryz.f50=some (lH F50):=by kernel_rfl
def F51:FnC:=⟨3,(HX [ia 3 (bA 2 0),ia 4 (bA 2 1),ia 5 (bA 2 2),ia 6 (.new [.nil,(.p (.i .i64 0))]),ia 7 (mI 0)] (.seq (HX [ia 8 (lB 2 3),ia 9 (lB 2 4),ia 10 (cC 35 8 9),ia 11 (oA 10),ia 12 (mA 11),ig 13 12 false (lB 2 3),ig 14 12 false (lB 2 5),ig 15 12 false (cC 35 13 14),ig 16 12 false (oA 15),
 ia 17 (pA 12 16),ia 18 (mA 17),ig 19 18 false (lB 2 4),ig 20 18 false (lB 2 5),ig 21 18 false (.eqg false [0,0] (.t 19) (.t 20)),ia 22 (pA 18 21)] (HW 22 (HX [ia 23 (lB 2 3),io (sA 2 6 23),ia 7 (mI 130)] .ret) .skip)) (HX [ir 24 (lB 2 3),ir 25 (lB 2 4),ir 26 (lB 2 5),ir 27 (cD 92 24 25 26),ir 28 (lB 2 5),
 ir 29 (lB 2 4),ia 30 (cD 92 27 28 29),io (sA 2 6 30),ia 7 (mI 0)] .ret))),[(.cell 6 2 true),(.tmp 7)]⟩
theorem cc51:CK Tryz.f51=some (lH F51):=by kernel_rfl
def tblA:List (FuncId×FnC):=[(3,F3),(5,F5),(7,F7),(8,F8),(9,F9),(10,F10),(11,F11),(12,F12),(13,F13),(14,F14),(15,F15),(16,F16),(19,F19),(21,F21),(23,F23),(24,F24),(25,F25),(26,F26),(27,F27),(28,F28),(29,F29),(30,F30),(31,F31),(32,F32),(33,F33),(34,F34),(35,F35),(36,F36),(37,F37),(38,F38),(39,F39),(40,F40),(41,F41),(42,F42),(45,F45),(46,F46),(47,F47),(48,F48),(49,F49),(50,F50),(51,F51)]
theorem tblOkA:∀x,x∈tblA→∃fn,Tryz.prog.funcs[x.1]? =some fn∧CK fn=some (lH x.2):=by
 intro x hx
 simp only[tblA,qY,oZ,or_false]at hx
 rcases hx with rfl|rfl|rfl|rfl|rfl|rfl|rfl|rfl|rfl|rfl|rfl|rfl|rfl|rfl|rfl|rfl|rfl|rfl|rfl|rfl|rfl|rfl|rfl|rfl|rfl|rfl|rfl|rfl|rfl|rfl|rfl|rfl|rfl|rfl|rfl|rfl|rfl|rfl|rfl|rfl|rfl
 ·exact⟨_,Tryz.func3,cc3⟩
 ·exact⟨_,Tryz.func5,cc5⟩
 ·exact⟨_,Tryz.func7,cc7⟩
 ·exact⟨_,Tryz.func8,cc8⟩
 ·exact⟨_,Tryz.func9,cc9⟩
 ·exact⟨_,Tryz.func10,cc10⟩
 ·exact⟨_,Tryz.func11,cc11⟩
 ·exact⟨_,Tryz.func12,cc12⟩
 ·exact⟨_,Tryz.func13,cc13⟩
 ·exact⟨_,Tryz.func14,cc14⟩
 ·exact⟨_,Tryz.func15,cc15⟩
 ·exact⟨_,Tryz.func16,cc16⟩
 ·exact⟨_,Tryz.func19,cc19⟩
 ·exact⟨_,Tryz.func21,cc21⟩
 ·exact⟨_,Tryz.func23,cc23⟩
 ·exact⟨_,Tryz.func24,cc24⟩
 ·exact⟨_,Tryz.func25,cc25⟩
 ·exact⟨_,Tryz.func26,cc26⟩
 ·exact⟨_,Tryz.func27,cc27⟩
 ·exact⟨_,Tryz.func28,cc28⟩
 ·exact⟨_,Tryz.func29,cc29⟩
 ·exact⟨_,Tryz.func30,cc30⟩
 ·exact⟨_,Tryz.func31,cc31⟩
 ·exact⟨_,Tryz.func32,cc32⟩
 ·exact⟨_,Tryz.func33,cc33⟩
 ·exact⟨_,Tryz.func34,cc34⟩
 ·exact⟨_,Tryz.func35,cc35⟩
 ·exact⟨_,Tryz.func36,cc36⟩
 ·exact⟨_,Tryz.func37,cc37⟩
 ·exact⟨_,Tryz.func38,cc38⟩
 ·exact⟨_,Tryz.func39,cc39⟩
 ·exact⟨_,Tryz.func40,cc40⟩
 ·exact⟨_,Tryz.func41,cc41⟩
 ·exact⟨_,Tryz.func42,cc42⟩
 ·exact⟨_,Tryz.func45,cc45⟩
 ·exact⟨_,Tryz.func46,cc46⟩
 ·exact⟨_,Tryz.func47,cc47⟩
 ·exact⟨_,Tryz.func48,cc48⟩
 ·exact⟨_,Tryz.func49,cc49⟩
 ·exact⟨_,Tryz.func50,cc50⟩
 ·exact⟨_,Tryz.func51,cc51⟩
def F52:FnC:=⟨1,(HX [ia 1 (bA 2 0),ia 2 (.mv (.c (.a .nil)))] (HX [ia 3 (.new [.nil])] (.seq (HX [ia 5 (lB 2 1),ia 6 (cB 93 5)] (.block 0 (.rng (.t 6) [7] (.reg [ia 4 (.new [(.p (.i .i64 0)),(.p (.i .i64 0))]),io (sA 2 4 7)]) (.block 1 (HX [ia 8 (lB 2 1),ia 9 (lB 2 4),ia 10 (cC 94 8 9)] (HW 10 (.reg [
 ia 11 (lA 1 3),ia 12 (lB 2 4),ia 13 (.bsl 2 74 [(.p (.i .i64 0)),(.p (.i .i64 0))] 1 [(0,(.t 12))]),ia 14 (.app 2 74 16 (.t 11) (.t 13)),io (sA 1 3 14)]) .skip)))))) (HX [ia 15 (lA 1 3),ia 2 (mA 15)] .ret)))),[(.tmp 2)]⟩
theorem cc52:CK Tryz.f52=some (lH F52):=by kernel_rfl
def F53:FnC:=⟨2,(HX [ia 2 (bA 2 0),ia 3 (bA 2 1),ia 4 (mI 0),ia 5 (.mv xF),ia 6 (mI 0)] (HX [ia 8 (lB 2 2),ia 9 (lB 2 3),ia 10 (cC 95 8 9),ia 7 (.new [.nil,(.p (.i .i64 0)),(.p (.b false)),(.p (.i .i64 0))]),io (sA 4 7 10)] (HX [ir 11 (fA 1 7),ir 12 (lA 1 11),ir 13 (fA 2 7),ir 14 (lA 1 13),ir 15 (fA 3 7),
 ir 16 (lA 1 15),ir 4 (mA 12),ir 5 (mA 14),ia 6 (mA 16)] .ret))),[(.tmp 4),(.tmp 5),(.tmp 6)]⟩
theorem cc53:CK Tryz.f53=some (lH F53):=by kernel_rfl
def F54:FnC:=⟨1,(HX [ia 1 (bA 2 0),ia 2 (.mv (.c (.a .nil)))] (HX [ir 4 (fA 0 1),ir 5 (lA 1 4),ir 6 (fA 0 1),ir 7 (lA 1 6),ir 8 (nA 7),⟨(.some 9),.none,(.msl 1 4 1 [(.p (.b false))] (.t 8) (.t 8)),.ad⟩,ia 10 (.build [.nil,.nil,.nil] [(0,(1,(.t 5))),(1,(1,(.t 9)))]),ia 11 (bA 3 10),ia 3 (mA 11)] (HX [
 ia 12 (mA 3),ia 13 (.call (.f 96) [(.t 12),(ci 0)])] (HX [ia 14 (mA 3),ia 15 (HY 14),ia 16 (fA 1 15),ia 17 (lA 1 16),ia 2 (mA 17)] .ret)))),[(.tmp 2)]⟩
theorem cc54:CK Tryz.f54=some (lH F54):=by kernel_rfl
def F55b0:C:=(.seq (HX [ia 29 (fA 0 2),ia 30 (lA 1 29),ia 31 (nA 30),ia 32 (bC .gtr 31 0),ia 33 (mA 32),ig 34 33 true (fA 0 2),ig 35 33 true (lA 1 34),ig 36 33 true (fA 0 2),ig 37 33 true (lA 1 36),ig 38 33 true (nA 37),ig 39 33 true (bC .sub 38 1),ig 40 33 true (aA 6 35 39),ig 41 33 true (lB 6 40),
 ig 42 33 true (cB 69 41),ia 43 (pB 33 42)] (HW 43 .skip (.exit 0))) (.block 1 (.reg [ia 44 (fA 0 2),ia 45 (lA 1 44),ia 46 (fA 0 2),ia 47 (lA 1 46),ia 48 (nA 47),ia 49 (bC .sub 48 1),ia 50 (.slc 6 46 (.t 45) .none (.some (.t 49)) .none),ia 51 (fA 0 2),io (sA 1 51 50)])))
def F55:FnC:=⟨2,(HX [ia 2 (bA 2 0),ia 4 (.new [.nil,(.p (.i .i64 0))]),ia 5 (mI 0)] (.seq (HX [ia 6 (mA 1),ia 7 (fA 0 2),ia 8 (lA 1 7),ia 9 (nA 8),ia 10 (bC .sub 9 1),ia 11 (.call (.f 56) [(.t 6),(ci 0),(.t 10)]),ia 12 (oA 11),ia 13 (mA 12),ig 14 13 false (fA 0 2),ig 15 13 false (lA 1 14),ig 16 13 false (mA 1),
 ig 17 13 false (aA 6 15 16),ig 18 13 false (lB 6 17),ig 19 13 false (cB 69 18),ia 20 (pA 13 19)] (HW 20 (HX [ia 21 (lB 2 2),io (sA 2 4 21),ia 5 (mI 122)] .ret) .skip)) (HX [ia 22 (lB 2 2),ia 23 (cB 97 22),io (sA 2 2 23)] (HX [ia 24 (fA 0 2),ia 25 (lA 1 24),ia 26 (mA 1),ia 27 (.build [(.p (.i .i64 0)),(.p (.i .i64 0)),(.p (.i .i64 0)),(.p (.s [])),.nil,.nil] []),
 ia 28 (aA 6 25 26),io (sA 6 28 27)] (.seq (.block 0 (.loop F55b0)) (HX [ia 52 (lB 2 2),io (sA 2 4 52),ia 5 (mI 0)] .ret)))))),[(.cell 4 2 true),(.tmp 5)]⟩
theorem cc55:CK Tryz.f55=some (lH F55):=by kernel_rfl
def F56:FnC:=⟨3,(HX [ia 6 (.mv xF)] (HX [ia 7 (mA 0),ia 8 (mA 1),ia 9 (bB .geq 7 8),ia 10 (mA 9),ig 11 10 true (mA 0),ig 12 10 true (mA 2),ig 13 10 true (bB .leq 11 12),ia 14 (pB 10 13),ia 6 (mA 14)] .ret)),[(.tmp 6)]⟩
theorem cc56:CK Tryz.f56=some (lH F56):=by kernel_rfl
def F57:FnC:=⟨1,(HX [ia 1 (bA 6 0),ia 2 (.mv xF)] (.seq (HX [ia 6 (fA 0 1),ia 7 (lA 1 6),ia 8 (.call (.f 56) [(.t 7),(ci 0),(ci 13)]),ia 9 (oA 8),ia 10 (mA 9),ig 11 10 false (lB 6 1),ig 12 10 false (cB 98 11),ig 13 10 false (oA 12),ia 14 (pA 10 13)] (HW 14 (HX [ia 2 (.mv xF)] .ret) .skip)) (HX [
 ia 15 (fA 0 1),ia 16 (lA 1 15),ia 17 (bC .eql 16 8),ia 18 (mA 17),ig 19 18 false (fA 0 1),ig 20 18 false (lA 1 19),ig 21 18 false (bC .eql 20 11),ia 22 (pA 18 21),ia 23 (mA 22),ig 24 23 false (fA 0 1),ig 25 23 false (lA 1 24),ig 26 23 false (bC .eql 25 12),ia 27 (pA 23 26),ia 3 (mA 27)] (HX [ia 28 (fA 0 1),
 ia 29 (lA 1 28),ia 30 (bC .eql 29 10),ia 31 (mA 30),ig 32 31 false (fA 0 1),ig 33 31 false (lA 1 32),ig 34 31 false (bC .eql 33 12),ia 35 (pA 31 34),ia 4 (mA 35)] (HX [ia 5 (mI 60)] (.seq (HX [ia 36 (fA 0 1),ia 37 (lA 1 36),ia 38 (bC .eql 37 0),ia 39 (mA 38),ig 40 39 false (fA 0 1),ig 41 39 false (lA 1 40),
 ig 42 39 false (bC .eql 41 1),ia 43 (pA 39 42)] (HW 43 (.reg [ia 5 (mI 0)]) .skip)) (HX [ia 44 (fA 1 1),ia 45 (lA 1 44),ia 46 (mA 5),ia 47 (.call (.f 56) [(.t 45),(ci 0),(.t 46)]),ia 48 (mA 47),ig 49 48 true (fA 3 1),ig 50 48 true (lA 1 49),ig 51 48 true (.bin .neq (.t 50) (.c (.a (.p (.s []))))),
 ig 52 48 true (mA 3),ig 53 48 true (.eqb false (.t 51) (.t 52)),ia 54 (pB 48 53),ia 55 (mA 54),ig 56 55 true (fA 2 1),ig 57 55 true (lA 1 56),ig 58 55 true (bC .eql 57 0),ig 59 55 true (mA 58),ig 60 59 false (mA 4),ig 61 55 true (pA 59 60),ia 62 (pB 55 61),ia 63 (mA 62),ig 64 63 true (fA 0 1),ig 65 63 true (lA 1 64),
 ig 66 63 true (bC .neq 65 8),ig 67 63 true (mA 66),ig 68 67 false (fA 5 1),ig 69 67 false (lA 1 68),ig 70 67 false (nA 69),ig 71 67 false (.call (.f 56) [(.t 70),(ci 1),(ci 9)]),ig 72 63 true (pA 67 71),ia 73 (pB 63 72),ia 2 (mA 73)] .ret))))))),[(.tmp 2)]⟩
theorem cc57:CK Tryz.f57=some (lH F57):=by kernel_rfl
def F58:FnC:=⟨1,(HX [ia 1 (bA 6 0),ia 2 (mI 0)] (.seq (.block 0 (HX [ia 4 (fA 0 1),ia 5 (lA 1 4),ia 6 (bC .eql 5 8),ia 3 (mA 6)] (HW 3 (HX [ia 7 (fA 5 1),ia 8 (lA 1 7),ia 9 (nA 8),ia 2 (mA 9)] .ret) (HX [ia 11 (fA 0 1),ia 12 (lA 1 11),ia 13 (bC .eql 12 9),ia 10 (mA 13)] (HW 10 (HX [ia 14 (fA 4 1),
 ia 15 (lA 1 14),ia 16 (nA 15),ia 17 (.bin .add (ci 2) (.t 16)),ia 2 (mA 17)] .ret) (HX [ia 19 (fA 0 1),ia 20 (lA 1 19),ia 21 (.call (.f 56) [(.t 20),(ci 0),(ci 13)]),ia 18 (mA 21)] (HW 18 (HX [ir 22 (cA 99),ir 23 (fA 0 1),ir 24 (lA 1 23),ia 25 (.ixa 14 1 false (.t 22) (.t 24)),ia 2 (mA 25)] .ret) .skip))))))) (HX [
 ia 2 (mI 0)] .ret))),[(.tmp 2)]⟩
theorem cc58:CK Tryz.f58=some (lH F58):=by kernel_rfl
def F59:FnC:=⟨2,(HX [ia 2 (bA 2 0),ia 3 (bA 2 1),ia 4 (.mv xF)] (HX [ir 6 (fA 0 2),ir 7 (lA 1 6),ir 8 (fA 0 3),ir 9 (lA 1 8),ir 10 (aA 6 7 9),ir 11 (fA 5 10),ir 12 (lA 1 11),ir 13 (fA 1 3),ir 14 (lA 1 13),ir 15 (aA 2 12 14),ir 16 (lB 2 15),⟨(.some 5),.none,(.new [(.p (.i .i64 0)),(.p (.i .i64 0))]),.ad⟩,
 io (sA 2 5 16)] (.seq (HX [ir 17 (lB 2 5),ir 18 (lB 2 3),ia 19 (.eqg false [0,0] (.t 17) (.t 18)),ia 20 (mA 19),ih 21 20 false (fA 0 5),ih 22 20 false (lA 1 21),ih 23 20 false (fA 0 2),ih 24 20 false (lA 1 23),ih 25 20 false (nA 24),ih 26 20 false (bC .sub 25 1),ig 27 20 false (.call (.f 56) [(.t 22),(ci 0),(.t 26)]),
 ig 28 20 false (oA 27),ia 29 (pA 20 28),ia 30 (mA 29),ih 31 30 false (fA 1 5),ih 32 30 false (lA 1 31),ih 33 30 false (fA 0 2),ih 34 30 false (lA 1 33),ih 35 30 false (fA 0 5),ih 36 30 false (lA 1 35),ih 37 30 false (aA 6 34 36),ih 38 30 false (fA 5 37),ih 39 30 false (lA 1 38),ih 40 30 false (nA 39),
 ih 41 30 false (bC .sub 40 1),ig 42 30 false (.call (.f 56) [(.t 32),(ci 0),(.t 41)]),ig 43 30 false (oA 42),ia 44 (pA 30 43)] (HW 44 (HX [ia 4 (.mv xF)] .ret) .skip)) (HX [ir 45 (fA 0 2),ir 46 (lA 1 45),ir 47 (fA 0 5),ir 48 (lA 1 47),ir 49 (aA 6 46 48),ir 50 (fA 5 49),ir 51 (lA 1 50),ir 52 (fA 1 5),
 ir 53 (lA 1 52),ir 54 (aA 2 51 53),ir 55 (lB 2 54),ir 56 (lB 2 3),ia 57 (.eqg false [0,0] (.t 55) (.t 56)),ia 4 (mA 57)] .ret)))),[(.tmp 4)]⟩
theorem cc59:CK Tryz.f59=some (lH F59):=by kernel_rfl
def F60:FnC:=⟨2,(HX [ia 2 (bA 2 0),ia 3 (bA 2 1),ia 4 (.new [(.p (.i .i64 0)),(.p (.i .i64 0))]),ia 5 (mI 0)] (HX [ia 7 (lB 2 2),ia 8 (.build [.nil,(.p (.i .i64 0))] [(0,(2,(.t 7)))]),ia 6 (.new [.nil,(.p (.i .i64 0))]),io (sA 2 6 8)] (.seq (HX [ia 9 (lB 2 6),ia 10 (lB 2 3),ia 11 (.bsl 2 42 [(.p (.i .i64 0)),(.p (.i .i64 0))] 1 [(0,(.t 10))]),
 ia 12 (cC 100 9 11),ia 13 (oA 12)] (HW 13 (HX [ia 14 (.build [(.p (.i .i64 0)),(.p (.i .i64 0))] []),io (sA 2 4 14),ia 5 (mI 130)] .ret) .skip)) (HX [ia 15 (lB 2 6),ia 16 (lB 2 3),ia 17 (cC 101 15 16),io (sA 2 4 17),ia 5 (mI 0)] .ret)))),[(.cell 4 2 true),(.tmp 5)]⟩
theorem cc60:CK Tryz.f60=some (lH F60):=by kernel_rfl
def F61:FnC:=⟨2,(HX [ia 4 (.new [(.p (.i .i64 0)),(.p (.i .i64 0))])] (HX [ia 5 (mA 0),ia 6 (mA 1),ia 7 (.build [(.p (.i .i64 0)),(.p (.i .i64 0))] [(0,(1,(.t 5))),(1,(1,(.t 6)))]),io (sA 2 4 7)] .ret)),[(.cell 4 2 true)]⟩
theorem cc61:CK Tryz.f61=some (lH F61):=by kernel_rfl
def F62:FnC:=⟨4,(HX [ia 6 (.mv xF)] (HX [ia 7 (fA 0 2),ia 8 (lA 1 7),ia 9 (cB 63 8),ia 10 (mA 0),ia 11 (bB .eql 9 10),ia 12 (mA 11),ig 13 12 true (fA 0 3),ig 14 12 true (lA 1 13),ig 15 12 true (cB 63 14),ig 16 12 true (mA 1),ig 17 12 true (bB .eql 15 16),ia 18 (pB 12 17),ia 6 (mA 18)] .ret)),[(.tmp 6)]⟩
theorem cc62:CK Tryz.f62=some (lH F62):=by kernel_rfl
def F63:FnC:=⟨1,(HX [ia 2 (mI 0)] (.seq (HX [ia 3 (mA 0)] (.block 0 (.seq (HX [ia 5 (bC .eql 3 3),ia 4 (mA 5)] (HW 4 .skip (HX [ia 6 (bC .eql 3 9),ia 4 (mA 6)] (HW 4 .skip (HX [ia 7 (bC .eql 3 11),ia 4 (mA 7)] (HW 4 .skip (.reg [ia 8 (bC .eql 3 12),ia 4 (mA 8)]))))))) (HW 4 (HX [ia 2 (mI 1)] .ret) (.seq (HX [
 ia 10 (bC .eql 3 2),ia 9 (mA 10)] (HW 9 .skip (HX [ia 11 (bC .eql 3 8),ia 9 (mA 11)] (HW 9 .skip (HX [ia 12 (bC .eql 3 10),ia 9 (mA 12)] (HW 9 .skip (.reg [ia 13 (bC .eql 3 13),ia 9 (mA 13)]))))))) (HW 9 (HX [ia 2 (mI 2)] .ret) (.seq (HX [ia 15 (bC .eql 3 4),ia 14 (mA 15)] (HW 14 .skip (HX [ia 16 (bC .eql 3 5),
 ia 14 (mA 16)] (HW 14 .skip (.reg [ia 17 (bC .eql 3 6),ia 14 (mA 17)]))))) (HW 14 (HX [ia 2 (mI 3)] .ret) (HX [ia 19 (bC .eql 3 7),ia 18 (mA 19)] (HW 18 (HX [ia 2 (mI 4)] .ret) .skip)))))))))) (HX [ia 2 (mI 0)] .ret))),[(.tmp 2)]⟩
theorem cc63:CK Tryz.f63=some (lH F63):=by kernel_rfl
def F64:FnC:=⟨3,(HX [ia 4 (.mv xF)] (HX [ia 5 (fA 0 1),ia 6 (lA 1 5),ia 7 (cB 63 6),ia 8 (mA 0),ia 9 (bB .eql 7 8),ia 10 (mA 9),ig 11 10 false (fA 0 2),ig 12 10 false (lA 1 11),ig 13 10 false (cB 63 12),ig 14 10 false (mA 0),ig 15 10 false (bB .eql 13 14),ia 16 (pA 10 15),ia 4 (mA 16)] .ret)),[(.tmp 4)]⟩
theorem cc64:CK Tryz.f64=some (lH F64):=by kernel_rfl
def F65:FnC:=⟨1,(HX [ia 2 (.new [(.p (.i .i64 0)),(.p (.b false)),(.p (.i .i64 0)),(.p (.i .i64 0)),(.p (.i .i64 0)),(.p (.i .i64 0)),(.p (.i .i64 0)),(.p (.s [])),.nil,.nil]),ia 3 (mI 0)] (HX [ia 4 (mA 0),ia 5 (.build [(.p (.i .i64 0)),(.p (.b false)),(.p (.i .i64 0)),(.p (.i .i64 0)),(.p (.i .i64 0)),(.p (.i .i64 0)),(.p (.i .i64 0)),(.p (.s [])),.nil,.nil] [(0,(1,(.t 4)))]),
 io (sA 10 2 5),ia 3 (mI 0)] .ret)),[(.cell 2 10 true),(.tmp 3)]⟩
theorem cc65:CK Tryz.f65=some (lH F65):=by kernel_rfl
def F66:FnC:=⟨2,(HX [ia 2 (bA 10 0),ia 4 (.new [(.p (.i .i64 0)),(.p (.b false)),(.p (.i .i64 0)),(.p (.i .i64 0)),(.p (.i .i64 0)),(.p (.i .i64 0)),(.p (.i .i64 0)),(.p (.s [])),.nil,.nil]),ia 5 (mI 0)] (.seq (HX [ia 6 (mA 1),ia 7 (bC .eql 6 0)] (HW 7 (.reg [ia 8 (fA 1 2),io (.st 1 (.t 8) HZ)]) .skip)) (HX [
 ia 9 (lB 10 2),ia 10 (mA 1),io (sA 10 4 9),ia 5 (mA 10)] .ret))),[(.cell 4 10 true),(.tmp 5)]⟩
theorem cc66:CK Tryz.f66=some (lH F66):=by kernel_rfl
def F67:FnC:=⟨2,(HX [ia 2 (bA 6 0),ia 3 (bA 6 1),ia 4 (.new [(.p (.i .i64 0)),(.p (.b false)),(.p (.i .i64 0)),(.p (.i .i64 0)),(.p (.i .i64 0)),(.p (.i .i64 0)),(.p (.i .i64 0)),(.p (.s [])),.nil,.nil]),ia 5 (mI 0)] (HX [ia 7 (fA 1 3),ia 8 (lA 1 7),ia 9 (.build [(.p (.i .i64 0)),(.p (.b false)),(.p (.i .i64 0)),(.p (.i .i64 0)),(.p (.i .i64 0)),(.p (.i .i64 0)),(.p (.i .i64 0)),(.p (.s [])),.nil,.nil] [(0,(1,(ci 7))),(2,(1,(.t 8)))]),
 ia 6 (.new [(.p (.i .i64 0)),(.p (.b false)),(.p (.i .i64 0)),(.p (.i .i64 0)),(.p (.i .i64 0)),(.p (.i .i64 0)),(.p (.i .i64 0)),(.p (.s [])),.nil,.nil]),io (sA 10 6 9)] (.seq (HX [ia 10 (fA 0 2),ia 11 (lA 1 10)] (.block 0 (HX [ia 13 (bC .eql 11 5),ia 12 (mA 13)] (HW 12 (.reg [ia 14 (fA 2 6),
 ia 15 (lA 1 14),ia 16 (bC .sub 15 1),ia 17 (fA 2 6),io (sA 1 17 16)]) (HX [ia 19 (bC .eql 11 6),ia 18 (mA 19)] (HW 18 (.reg [ia 20 (fA 2 6),ia 21 (lA 1 20),ia 22 (bC .add 21 1),ia 23 (fA 2 6),io (sA 1 23 22)]) .skip)))))) (.seq (.block 1 (HX [ia 25 (fA 1 2),ia 26 (lA 1 25),ia 27 (fA 1 3),ia 28 (lA 1 27),
 ia 29 (bB .geq 26 28),ia 24 (mA 29)] (HW 24 (HX [ia 30 (.build [(.p (.i .i64 0)),(.p (.b false)),(.p (.i .i64 0)),(.p (.i .i64 0)),(.p (.i .i64 0)),(.p (.i .i64 0)),(.p (.i .i64 0)),(.p (.s [])),.nil,.nil] []),io (sA 10 4 30),ia 5 (mI 140)] .ret) (HX [ia 32 (fA 2 6),ia 33 (lA 1 32),ia 34 (bC .gtr 33 60),
 ia 31 (mA 34)] (HW 31 (HX [ia 35 (.build [(.p (.i .i64 0)),(.p (.b false)),(.p (.i .i64 0)),(.p (.i .i64 0)),(.p (.i .i64 0)),(.p (.i .i64 0)),(.p (.i .i64 0)),(.p (.s [])),.nil,.nil] []),io (sA 10 4 35),ia 5 (mI 141)] .ret) .skip))))) (HX [ia 36 (lB 10 6),io (sA 10 4 36),ia 5 (mI 0)] .ret))))),[(.cell 4 10 true),(.tmp 5)]⟩
theorem cc67:CK Tryz.f67=some (lH F67):=by kernel_rfl
def F68:FnC:=⟨2,(HX [ia 2 (bA 6 0),ia 3 (bA 6 1),ia 4 (.new [(.p (.i .i64 0)),(.p (.b false)),(.p (.i .i64 0)),(.p (.i .i64 0)),(.p (.i .i64 0)),(.p (.i .i64 0)),(.p (.i .i64 0)),(.p (.s [])),.nil,.nil]),ia 5 (mI 0)] (.seq (HX [ia 7 (fA 0 2),ia 8 (lA 1 7),ia 9 (fA 0 3),ia 10 (lA 1 9),ia 11 (.build [(.p (.i .i64 0)),(.p (.i .i64 0))] [(0,(1,(.t 8))),(1,(1,(.t 10)))]),
 ia 6 (.new [(.p (.i .i64 0)),(.p (.i .i64 0))]),io (sA 2 6 11)] (.block 0 (HX [ia 13 (lB 2 6),ia 14 (.build [(.p (.i .i64 0)),(.p (.i .i64 0))] [(0,(1,(ci 3))),(1,(1,(ci 2)))]),ia 15 (.eqg false [0,0] (.t 13) (.t 14)),ia 12 (mA 15)] (HW 12 (.seq (HX [ia 16 (fA 1 2),ia 17 (lA 1 16),ia 18 (fA 1 3),
 ia 19 (lA 1 18),ia 20 (bB .neq 17 19)] (HW 20 (HX [ia 21 (.build [(.p (.i .i64 0)),(.p (.b false)),(.p (.i .i64 0)),(.p (.i .i64 0)),(.p (.i .i64 0)),(.p (.i .i64 0)),(.p (.i .i64 0)),(.p (.s [])),.nil,.nil] []),io (sA 10 4 21),ia 5 (mI 140)] .ret) .skip)) (HX [ia 22 (.call (.f 65) [(ci 1)]),
 ia 23 (eA 22 0),ia 24 (eA 22 1),io (sA 10 4 23),ia 5 (mA 24)] .ret)) (HX [ia 26 (lB 2 6),ia 27 (.build [(.p (.i .i64 0)),(.p (.i .i64 0))] [(0,(1,(ci 9))),(1,(1,(ci 8)))]),ia 28 (.eqg false [0,0] (.t 26) (.t 27)),ia 25 (mA 28)] (HW 25 (HX [ia 29 (lB 6 2),ia 30 (lB 6 3),ia 31 (cC 102 29 30),ia 32 (eA 31 0),
 ia 33 (eA 31 1),io (sA 10 4 32),ia 5 (mA 33)] .ret) (HX [ia 35 (lB 2 6),ia 36 (.build [(.p (.i .i64 0)),(.p (.i .i64 0))] [(0,(1,(ci 11))),(1,(1,(ci 10)))]),ia 37 (.eqg false [0,0] (.t 35) (.t 36)),ia 34 (mA 37)] (HW 34 (HX [ia 38 (.call (.f 65) [(ci 3)]),ia 39 (eA 38 0),ia 40 (eA 38 1),io (sA 10 4 39),
 ia 5 (mA 40)] .ret) (HX [ia 42 (lB 2 6),ia 43 (.build [(.p (.i .i64 0)),(.p (.i .i64 0))] [(0,(1,(ci 12))),(1,(1,(ci 10)))]),ia 44 (.eqg false [0,0] (.t 42) (.t 43)),ia 41 (mA 44)] (HW 41 (HX [ia 45 (lB 6 2),ia 46 (lB 6 3),ia 47 (cC 103 45 46),ia 48 (eA 47 0),ia 49 (eA 47 1),io (sA 10 4 48),
 ia 5 (mA 49)] .ret) .skip)))))))))) (HX [ia 50 (.call (.f 65) [(ci 5)]),ia 51 (eA 50 0),ia 52 (eA 50 1),io (sA 10 4 51),ia 5 (mA 52)] .ret))),[(.cell 4 10 true),(.tmp 5)]⟩
theorem cc68:CK Tryz.f68=some (lH F68):=by kernel_rfl
def F69:FnC:=⟨1,(HX [ia 1 (bA 6 0),ia 2 (.mv xF)] (HX [ia 3 (fA 0 1),ia 4 (lA 1 3),ia 5 (bC .eql 4 0),ia 2 (mA 5)] .ret)),[(.tmp 2)]⟩
theorem cc69:CK Tryz.f69=some (lH F69):=by kernel_rfl
def F70:FnC:=⟨1,(HX [ia 1 (bA 6 0),ia 2 (mI 0)] (HX [ia 3 (fA 5 1),ia 4 (lA 1 3),ia 5 (nA 4),ia 6 (bC .sub 5 1),ia 7 (.mx (.t 6) (ci 0)),ia 2 (mA 7)] .ret)),[(.tmp 2)]⟩
theorem cc70:CK Tryz.f70=some (lH F70):=by kernel_rfl
def F71b0:C:=(HX [ia 11 (bB .lss 10 9)] (.seq (HW 11 .skip (.exit 0)) (.seq (.block 1 (HX [ia 12 (mA 10),ia 2 (mA 12)] (.reg [ir 13 (mA 0),ir 14 (mA 0),ir 15 (HY 14),ir 16 (fA 12 15),ir 17 (lA 1 16),ir 18 (mA 2),ir 19 (bC .add 18 1),ir 20 (cC 61 17 19),ir 21 (mA 0),ir 22 (HY 21),ir 23 (fA 13 22),
 ir 24 (lA 1 23),ir 25 (mA 2),ir 26 (bC .add 25 1),ir 27 (cC 61 24 26),ia 28 (cD 104 13 20 27)]))) (.reg [ia 29 (bC .add 10 1),ia 10 (mA 29)]))))
def F71:FnC:=⟨1,(HX [ia 3 (mA 0),ia 4 (mA 0),ia 5 (HY 4),ia 6 (fA 12 5),ia 7 (lA 1 6),ia 8 (.call (.f 79) [(.t 3),(.t 7),(ci 1)]),ia 9 (nA 8),ia 10 (mI 0)] (.block 0 (.loop F71b0))),[]⟩
theorem cc71:CK Tryz.f71=some (lH F71):=by kernel_rfl
def F72b0:C:=(HX [ia 51 (bB .lss 50 49)] (.seq (HW 51 .skip (.exit 0)) (.seq (.block 1 (HX [ia 52 (aA 2 48 50),ia 53 (lB 2 52),ia 7 (.new [(.p (.i .i64 0)),(.p (.i .i64 0))]),io (sA 2 7 53)] (HX [ia 54 (lB 2 7),ia 55 (lB 2 3),ia 56 (.eqg true [0,0] (.t 54) (.t 55))] (HW 56 (.reg [ia 57 (mA 5),
 ia 58 (lB 2 7),ia 59 (.bsl 2 42 [(.p (.i .i64 0)),(.p (.i .i64 0))] 1 [(0,(.t 58))]),ia 60 (.app 2 42 16 (.t 57) (.t 59)),ia 5 (mA 60)]) .skip)))) (.reg [ia 61 (bC .add 50 1),ia 50 (mA 61)]))))
def F72b1:C:=(HX [ia 85 (bB .lss 84 83)] (.seq (HW 85 .skip (.exit 2)) (.seq (.block 3 (HX [ia 86 (mA 84),ia 87 (aA 1 82 84),ia 88 (lA 1 87),ia 9 (mA 86),ia 10 (mA 88)] (HX [ia 89 (mA 0),ia 90 (mA 0),ia 91 (HY 90),ia 92 (fA 13 91),ia 93 (lA 1 92),ia 94 (mA 9),ia 95 (bC .add 94 1),ia 96 (cC 61 93 95),
 ia 97 (mA 10),ia 98 (.call (.f 61) [(.t 97),(ci 2)]),ia 99 (cD 74 89 96 98)] (HX [ia 100 (mA 9),ia 101 (bC .add 100 1),ia 102 (mA 2),ia 103 (bB .lss 101 102)] (HW 103 (.reg [ir 104 (mA 0),ir 105 (mA 10),ir 106 (.call (.f 61) [(.t 105),(ci 1)]),ir 107 (mA 4),ir 108 (mA 9),ir 109 (bC .add 108 1),ir 110 (aA 1 107 109),
 ir 111 (lA 1 110),ir 112 (.call (.f 61) [(.t 111),(ci 0)]),ia 113 (cD 108 104 106 112)]) (.reg [ia 114 (mA 0),ia 115 (mA 0),ia 116 (HY 115),ia 117 (fA 12 116),ia 118 (lA 1 117),ia 119 (.call (.f 61) [(.t 118),(ci 1)]),ia 120 (mA 10),ia 121 (.call (.f 61) [(.t 120),(ci 1)]),ia 122 (cD 74 114 119 121)])))))) (.reg [
 ia 123 (bC .add 84 1),ia 84 (mA 123)]))))
def F72:FnC:=⟨1,(HX [ir 11 (mA 0),ir 12 (mA 0),ir 13 (HY 12),ir 14 (fA 12 13),ir 15 (lA 1 14),ir 18 (mA 0),ir 19 (HY 18),ir 20 (fA 2 19),ir 21 (fA 3 20),ir 22 (lA 1 21),ir 26 (mA 0),ir 27 (HY 26),ir 28 (fA 12 27),ir 29 (lA 1 28),ir 30 (mA 0),ir 31 (HY 30),ir 32 (fA 2 31),ir 33 (fA 3 32),ir 34 (lA 1 33),
 ir 35 (bC .add 34 2),⟨(.some 3),.none,(.new [(.p (.i .i64 0)),(.p (.i .i64 0))]),.ad⟩,⟨(.some 16),.none,(cC 105 11 15),(.cl [(1,21),(1,28),(1,33)] [3])⟩,ir 17 (.fld 4 1 false (.t 16)),ir 23 (aA 2 17 22),ir 24 (fA 1 23),ir 25 (lA 1 24),ir 36 (cC 61 29 35),ia 2 (mA 25),io (sA 2 3 36)] (HX [
 ia 37 (mA 0),ia 38 (mA 0),ia 39 (cB 107 38),ia 40 (.build [(.p (.i .i64 0)),(.p (.i .i64 0)),(.p (.i .i64 0)),(.p (.s [])),.nil,.nil] [(0,(1,(ci 3))),(1,(1,(.t 39)))]),ia 41 (mA 2),ia 42 (cD 106 37 40 41),ia 4 (mA 42)] (HX [ia 5 (.mv (.c (.a .nil)))] (.seq (HX [ia 43 (mA 0),ia 44 (mA 0),ia 45 (HY 44),
 ia 46 (fA 12 45),ia 47 (lA 1 46),ia 48 (.call (.f 79) [(.t 43),(.t 47),(ci 2)]),ia 49 (nA 48),ia 50 (mI 0)] (.block 0 (.loop F72b0))) (HX [ia 62 (mA 0),ia 63 (mA 5),ia 64 (cC 78 62 63),ia 8 (mA 64)] (.seq (HX [ia 65 (mA 2),ia 66 (bC .eql 65 0)] (HW 66 (.reg [ir 67 (mA 0),ir 68 (lB 2 3),ir 69 (mA 0),
 ir 70 (HY 69),ir 71 (fA 12 70),ir 72 (lA 1 71),ir 73 (.call (.f 61) [(.t 72),(ci 1)]),ia 74 (cD 104 67 68 73)]) (.reg [ir 75 (mA 0),ir 76 (lB 2 3),ir 77 (mA 4),ir 78 (.ias 1 (.t 77) (ci 0)),ir 79 (lA 1 78),ir 80 (.call (.f 61) [(.t 79),(ci 0)]),ia 81 (cD 74 75 76 80)]))) (.seq (HX [ia 82 (mA 4),ia 83 (nA 82),
 ia 84 (mI 0)] (.block 2 (.loop F72b1))) (.reg [ia 124 (mA 8),ia 125 (.call (.t 124) [])])))))))),[]⟩
theorem cc72:CK Tryz.f72=some (lH F72):=by kernel_rfl
def F73:FnC:=⟨1,(HX [ia 4 (mA 0),ia 5 (mA 0),ia 6 (HY 5),ia 7 (fA 12 6),ia 8 (lA 1 7),ia 9 (cC 105 4 8),ia 2 (.new [(.p (.i .i64 0)),(.p (.i .i64 0)),(.p (.i .i64 0)),(.p (.s [])),.nil,.nil]),io (sA 6 2 9)] (HX [ir 10 (mA 0),ir 11 (fA 1 2),ir 12 (lA 1 11),ir 13 (fA 3 2),ir 14 (lA 1 13),ir 15 (mA 0),
 ir 16 (mA 0),ir 17 (HY 16),ir 18 (fA 13 17),ir 19 (lA 1 18),⟨(.some 20),.none,(cC 105 15 19),(.cl [(1,11),(1,13)] [])⟩,ir 21 (.fld 2 1 false (.t 20)),ir 22 (.build [(.p (.i .i64 0)),(.p (.i .i64 0)),(.p (.i .i64 0)),(.p (.s [])),.nil,.nil] [(0,(1,(ci 12))),(1,(1,(.t 12))),(3,(1,(.t 14))),(2,(1,(.t 21)))]),
 ia 23 (cC 75 10 22),ia 3 (mA 23)] (HX [ia 24 (mA 0),ia 25 (mA 0),ia 26 (HY 25),ia 27 (fA 12 26),ia 28 (lA 1 27),ia 29 (.call (.f 61) [(.t 28),(ci 2)]),ia 30 (mA 3),ia 31 (.call (.f 61) [(.t 30),(ci 0)]),ia 32 (cD 74 24 29 31)] (.reg [ia 33 (mA 0),ia 34 (mA 0),ia 35 (HY 34),ia 36 (fA 12 35),ia 37 (lA 1 36),
 ia 38 (.call (.f 61) [(.t 37),(ci 1)]),ia 39 (mA 3),ia 40 (.call (.f 61) [(.t 39),(ci 1)]),ia 41 (cD 74 33 38 40)])))),[]⟩
theorem cc73:CK Tryz.f73=some (lH F73):=by kernel_rfl
def F74:FnC:=⟨3,(HX [ia 4 (bA 2 1),ia 5 (bA 2 2)] (.reg [ir 7 (mA 0),ir 8 (mA 0),ir 9 (HY 8),ir 10 (fA 0 9),ir 11 (lB 2 10),ir 12 (lB 2 4),ir 13 (lB 2 5),ir 14 (cD 109 11 12 13),ir 6 (mA 14),ir 15 (eA 6 0),ir 16 (eA 6 1),ir 17 (HY 7),ir 18 (fA 0 17),⟨.none,.none,(sA 2 18 15),(.wr [])⟩])),[]⟩
theorem cc74:CK Tryz.f74=some (lH F74):=by kernel_rfl
def F75:FnC:=⟨2,(HX [ia 3 (bA 6 1),ia 4 (mI 0)] (HX [ia 5 (mI 0)] (HX [ir 7 (mA 0),ir 8 (mA 0),ir 9 (HY 8),ir 10 (fA 0 9),ir 11 (lB 2 10),ir 12 (lB 6 3),ir 13 (cC 110 11 12),ir 6 (mA 13),ir 14 (eA 6 0),ir 15 (eA 6 1),ir 16 (eA 6 2),ir 17 (HY 7),ir 18 (fA 0 17),⟨.none,.none,(sA 2 18 14),(.wr [])⟩,
 ir 5 (mA 15)] (HX [ia 19 (mA 5),ia 4 (mA 19)] .ret)))),[(.tmp 4)]⟩
theorem cc75:CK Tryz.f75=some (lH F75):=by kernel_rfl
def F76:FnC:=⟨1,(HX [ia 4 (mA 0),ia 5 (mA 0),ia 6 (cB 107 5),ia 7 (.build [(.p (.i .i64 0)),(.p (.i .i64 0)),(.p (.i .i64 0)),(.p (.s [])),.nil,.nil] [(0,(1,(ci 13))),(1,(1,(.t 6)))]),ia 8 (cC 75 4 7),ia 2 (mA 8)] (HX [ir 9 (mA 0),ir 10 (mA 0),ir 11 (mA 0),ir 12 (HY 11),ir 13 (fA 12 12),
 ir 14 (lA 1 13),ir 16 (mA 0),ir 17 (mA 0),ir 18 (HY 17),ir 19 (fA 13 18),ir 20 (lA 1 19),⟨(.some 15),.none,(.call (.f 79) [(.t 10),(.t 14),(ci 2)]),(.cl [(1,19)] [])⟩,⟨(.some 21),.none,(.call (.f 79) [(.t 16),(.t 20),(ci 1)]),(.cl [] [])⟩,⟨(.some 22),.none,(.app 2 42 16 (.t 15) (.t 21)),(.cl [] [])⟩,
 ia 23 (cC 78 9 22),ia 3 (mA 23)] (HX [ia 24 (mA 0),ia 25 (mA 0),ia 26 (HY 25),ia 27 (fA 12 26),ia 28 (lA 1 27),ia 29 (.call (.f 61) [(.t 28),(ci 1)]),ia 30 (mA 2),ia 31 (.call (.f 61) [(.t 30),(ci 0)]),ia 32 (cD 74 24 29 31)] (.reg [ia 33 (mA 3),ia 34 (.call (.t 33) [])])))),[]⟩
theorem cc76:CK Tryz.f76=some (lH F76):=by kernel_rfl
def F77b0:C:=(HX [ia 47 (bB .lss 46 45)] (.seq (HW 47 .skip (.exit 0)) (.seq (.block 1 (HX [ia 48 (mA 46),ia 49 (aA 1 44 46),ia 50 (lA 1 49),ia 6 (mA 48),ia 7 (mA 50)] (.reg [ia 51 (mA 0),ia 52 (mA 0),ia 53 (HY 52),ia 54 (fA 12 53),ia 55 (lA 1 54),ia 56 (mA 6),ia 57 (bC .add 56 1),ia 58 (cC 61 55 57),
 ia 59 (mA 7),ia 60 (.call (.f 61) [(.t 59),(ci 0)]),ia 61 (cD 74 51 58 60)]))) (.reg [ia 62 (bC .add 46 1),ia 46 (mA 62)]))))
def F77b2:C:=(HX [ia 84 (bB .lss 83 82)] (.seq (HW 84 .skip (.exit 4)) (.seq (.block 5 (HX [ia 85 (mA 83),ia 86 (aA 1 81 83),ia 87 (lA 1 86),ia 10 (mA 85),ia 11 (mA 87)] (.reg [ia 88 (mA 0),ia 89 (mA 9),ia 90 (mA 10),ia 91 (bC .add 90 1),ia 92 (cC 61 89 91),ia 93 (mA 11),ia 94 (mA 8),ia 95 (bC .add 94 1),
 ia 96 (cC 61 93 95),ia 97 (cD 108 88 92 96)]))) (.reg [ia 98 (bC .add 83 1),ia 83 (mA 98)]))))
def F77b1:C:=(HX [ia 66 (bB .lss 65 64)] (.seq (HW 66 .skip (.exit 2)) (.seq (.block 3 (HX [ia 67 (mA 65),ia 68 (aA 1 63 65),ia 69 (lA 1 68),ia 8 (mA 67),ia 9 (mA 69)] (HX [ia 70 (mA 0),ia 71 (mA 0),ia 72 (HY 71),ia 73 (fA 13 72),ia 74 (lA 1 73),ia 75 (mA 8),ia 76 (bC .add 75 1),ia 77 (cC 61 74 76),
 ia 78 (mA 9),ia 79 (.call (.f 61) [(.t 78),(ci 0)]),ia 80 (cD 74 70 77 79)] (HX [ia 81 (mA 4),ia 82 (nA 81),ia 83 (mI 0)] (.block 4 (.loop F77b2)))))) (.reg [ia 99 (bC .add 65 1),ia 65 (mA 99)]))))
def F77:FnC:=⟨1,(HX [ir 12 (mA 0),ir 13 (mA 0),ir 14 (HY 13),ir 15 (fA 12 14),ir 16 (lA 1 15),ir 18 (mA 0),ir 19 (mA 0),ir 20 (HY 19),ir 21 (fA 13 20),ir 22 (lA 1 21),⟨(.some 2),.none,(.new [(.p (.i .i64 0)),(.p (.i .i64 0)),(.p (.i .i64 0)),(.p (.s [])),.nil,.nil]),.ad⟩,⟨(.some 3),.none,(.new [(.p (.i .i64 0)),(.p (.i .i64 0)),(.p (.i .i64 0)),(.p (.s [])),.nil,.nil]),.ad⟩,
 ⟨(.some 17),.none,(cC 105 12 16),(.cl [(1,21)] [2,3])⟩,⟨(.some 23),.none,(cC 105 18 22),(.cl [] [2,3])⟩,io (sA 6 2 17),io (sA 6 3 23)] (HX [ia 24 (mA 0),ia 25 (HY 24),ia 26 (fA 2 25),ia 27 (fA 2 26),ia 28 (lA 1 27),ia 29 (fA 1 3),io (sA 1 29 28)] (HX [ia 30 (mA 0),ia 31 (lB 6 3),ia 32 (fA 5 2),
 ia 33 (lA 1 32),ia 34 (nA 33),ia 35 (bC .sub 34 1),ia 36 (cD 106 30 31 35),ia 4 (mA 36)] (HX [ia 37 (mA 0),ia 38 (lB 6 2),ia 39 (fA 5 3),ia 40 (lA 1 39),ia 41 (nA 40),ia 42 (bC .sub 41 1),ia 43 (cD 106 37 38 42),ia 5 (mA 43)] (.seq (HX [ia 44 (mA 4),ia 45 (nA 44),ia 46 (mI 0)] (.block 0 (.loop F77b0))) (HX [
 ia 63 (mA 5),ia 64 (nA 63),ia 65 (mI 0)] (.block 2 (.loop F77b1)))))))),[]⟩
theorem cc77:CK Tryz.f77=some (lH F77):=by kernel_rfl
def F78:FnC:=⟨2,(HX [ia 2 (bA 1 0),ia 3 (bA 1 1),ia 4 (.mv (.c (.a (.raw .nilFunc))))] (HX [ir 6 (lA 1 2),ir 7 (lA 1 2),ir 10 (lA 1 3),ir 11 (nA 10),⟨(.some 5),.none,(.new [.nil]),.ad⟩,⟨(.some 8),.none,(cB 107 7),(.cl [(1,2),(1,3)] [5])⟩,ir 9 (.build [(.p (.i .i64 0)),(.p (.i .i64 0)),(.p (.i .i64 0)),(.p (.s [])),.nil,.nil] [(0,(1,(ci 7))),(1,(1,(.t 8)))]),
 ⟨(.some 12),.none,(cD 106 6 9 11),(.cl [] [5])⟩,io (sA 1 5 12)] (HX [ia 13 (.fn 111 [(.t 3),(.t 2),(.t 5)]),ia 4 (mA 13)] .ret))),[(.tmp 4)]⟩
theorem cc78:CK Tryz.f78=some (lH F78):=by kernel_rfl
def F79b0:C:=(.seq (HX [ia 10 (mA 8),ia 11 (mA 0),ia 12 (mA 1),ia 13 (cC 105 11 12),ia 14 (.fld 5 1 false (.t 13)),ia 15 (nA 14),ia 16 (bB .lss 10 15)] (HW 16 .skip (.exit 0))) (.seq (.block 1 (.reg [ia 19 (mA 7),ia 20 (mA 1),ia 21 (mA 8),ia 22 (cC 61 20 21),ia 23 (.bsl 2 42 [(.p (.i .i64 0)),(.p (.i .i64 0))] 1 [(0,(.t 22))]),
 ia 24 (.app 2 42 16 (.t 19) (.t 23)),ia 7 (mA 24)])) (.reg [ia 17 (mA 8),ia 18 (bC .add 17 1),ia 8 (mA 18)])))
def F79:FnC:=⟨3,(HX [ia 6 (.mv (.c (.a .nil)))] (HX [ia 7 (.mv (.c (.a .nil)))] (.seq (HX [ia 9 (mA 2),ia 8 (mA 9)] (.block 0 (.loop F79b0))) (HX [ia 25 (mA 7),ia 6 (mA 25)] .ret)))),[(.tmp 6)]⟩
theorem cc79:CK Tryz.f79=some (lH F79):=by kernel_rfl
def F81b0:C:=(.seq (HX [ia 10 (mA 6),ia 11 (mA 0),ia 12 (.len true (.t 11)),ia 13 (bB .lss 10 12)] (HW 13 .skip (.exit 0))) (.block 1 (.seq (HX [ia 14 (mA 0),ia 15 (mA 6),ia 16 (.ixs (.t 14) (.t 15)),ia 17 (cB 112 16),ia 18 (bC .eql 17 4)] (HW 18 (HX [ia 19 (mA 6),ia 20 (bC .add 19 1),ia 6 (mA 20)] (.exit 1)) .skip)) (HX [
 ia 22 (mA 0),ia 23 (mA 6),ia 24 (cC 113 22 23),ia 21 (mA 24),ia 25 (eA 21 0),ia 26 (eA 21 1),ia 7 (.new [(.p (.i .i64 0)),(.p (.s [])),(.p (.i .i64 0)),(.p (.i .i64 0))]),io (sA 4 7 25),ia 8 (mA 26)] (.seq (HX [ia 27 (mA 8),ia 28 (bC .neq 27 0)] (HW 28 (HX [ia 29 (mA 6),ia 30 (mA 8),ia 2 (.mv (.c (.a .nil))),
 ia 3 (mA 29),ia 4 (mA 30)] .ret) .skip)) (HX [ia 31 (mA 5),ia 32 (lB 4 7),ia 33 (.bsl 4 134 [(.p (.i .i64 0)),(.p (.s [])),(.p (.i .i64 0)),(.p (.i .i64 0))] 1 [(0,(.t 32))]),ia 34 (.app 4 134 40 (.t 31) (.t 33)),ia 5 (mA 34)] (.reg [ia 35 (mA 6),ia 36 (fA 1 7),ia 37 (lA 1 36),ia 38 (.len true (.t 37)),
 ia 39 (bB .add 35 38),ia 6 (mA 39)])))))))
def F81:FnC:=⟨1,(HX [ia 2 (.mv (.c (.a .nil))),ia 3 (mI 0),ia 4 (mI 0)] (HX [ia 9 (.bsl 4 134 [(.p (.i .i64 0)),(.p (.s [])),(.p (.i .i64 0)),(.p (.i .i64 0))] 0 []),ia 5 (mA 9)] (.seq (HX [ia 6 (mI 0)] (.block 0 (.loop F81b0))) (HX [ia 40 (mA 5),ia 2 (mA 40),ia 3 (mI 0),ia 4 (mI 0)] .ret)))),[(.tmp 2),(.tmp 3),(.tmp 4)]⟩
theorem cc81:CK Tryz.f81=some (lH F81):=by kernel_rfl
def F82:FnC:=⟨2,(HX [ia 4 (.new [(.p (.i .i64 0)),(.p (.s [])),(.p (.i .i64 0)),(.p (.i .i64 0)),.nil,(.p (.i .i64 0)),(.p (.b false))])] (.seq (HX [ia 5 (mA 0),ia 6 (mA 1),ia 7 (cC 114 5 6)] (.block 0 (HX [ia 9 (.bin .eql (.t 7) (.c (.a (.p (.s [92]))))),ia 8 (mA 9)] (HW 8 (HX [ia 10 (mA 0),
 ia 11 (mA 1),ia 12 (cC 115 10 11),io (sA 7 4 12)] .ret) (.seq (HX [ia 14 (.bin .eql (.t 7) (.c (.a (.p (.s [108,101,116]))))),ia 13 (mA 14)] (HW 13 .skip (.reg [ia 15 (.bin .eql (.t 7) (.c (.a (.p (.s [108,101,116,114,101,99]))))),ia 13 (mA 15)]))) (HW 13 (HX [ia 16 (mA 0),ia 17 (mA 1),ia 18 (cC 116 16 17),
 io (sA 7 4 18)] .ret) (HX [ia 20 (.bin .eql (.t 7) (.c (.a (.p (.s [99,97,115,101]))))),ia 19 (mA 20)] (HW 19 (HX [ia 21 (mA 0),ia 22 (mA 1),ia 23 (cC 117 21 22),io (sA 7 4 23)] .ret) .skip)))))))) (HX [ia 24 (mA 0),ia 25 (mA 1),ia 26 (.call (.f 118) [(.t 24),(.t 25),(ci 0)]),io (sA 7 4 26)] .ret))),[(.cell 4 7 true)]⟩
theorem cc82:CK Tryz.f82=some (lH F82):=by kernel_rfl
def F83b0:C:=(.seq (HX [ia 5 (mA 4),ia 6 (fA 4 1),ia 7 (lA 1 6),ia 8 (nA 7),ia 9 (bB .lss 5 8)] (HW 9 .skip (.exit 0))) (.seq (.block 1 (.reg [ia 12 (mA 3),ia 13 (fA 4 1),ia 14 (lA 1 13),ia 15 (mA 4),ia 16 (aA 5 14 15),ia 17 (lB 5 16),ia 18 (cB 83 17),ia 19 (.mx (.t 12) (.t 18)),ia 3 (mA 19)])) (.reg [
 ia 10 (mA 4),ia 11 (bC .add 10 1),ia 4 (mA 11)])))
def F83:FnC:=⟨1,(HX [ia 1 (bA 5 0),ia 2 (mI 0)] (HX [ia 3 (mI 0)] (.seq (HX [ia 4 (mI 0)] (.block 0 (.loop F83b0))) (HX [ia 20 (mA 3),ia 21 (bC .add 20 1),ia 2 (mA 21)] .ret)))),[(.tmp 2)]⟩
theorem cc83:CK Tryz.f83=some (lH F83):=by kernel_rfl
def F84:FnC:=⟨1,(HX [ia 1 (bA 5 0),ia 2 (mI 0),ia 3 (mI 0)] (.seq (HX [ia 4 (lB 5 1),ia 5 (cB 119 4),ia 6 (oA 5)] (HW 6 (HX [ia 2 (mI 0),ia 3 (mI 1)] .ret) .skip)) (HX [ir 7 (lB 5 1),ir 8 (lB 5 1),ir 9 (cB 121 8),ia 10 (.call (.f 120) [(.t 7),(.c (.a .nil)),(.c (.a .nil)),(.t 9)]),ir 11 (eA 10 0),
 ir 12 (eA 10 1),ia 2 (mA 11),ia 3 (mA 12)] .ret))),[(.tmp 2),(.tmp 3)]⟩
theorem cc84:CK Tryz.f84=some (lH F84):=by kernel_rfl
def F85b0:C:=(.seq (HX [ia 92 (mA 6),ia 93 (fA 2 2),ia 94 (lA 1 93),ia 95 (bB .lss 92 94)] (HW 95 .skip (.exit 1))) (.seq (.block 2 (.reg [ia 98 (mA 1),ia 99 (fA 4 2),ia 100 (lA 1 99),ia 101 (mA 6),ia 102 (aA 5 100 101),ia 103 (fA 1 102),ia 104 (lA 1 103),ia 105 (cC 124 98 104),ia 1 (mA 105)])) (.reg [
 ia 96 (mA 6),ia 97 (bC .add 96 1),ia 6 (mA 97)])))
def F85b1:C:=(.seq (HX [ia 136 (mA 8),ia 137 (fA 4 2),ia 138 (lA 1 137),ia 139 (nA 138),ia 140 (bB .lss 136 139)] (HW 140 .skip (.exit 3))) (.seq (.block 4 (.reg [ir 143 (fA 3 7),ir 144 (lA 1 143),ir 145 (fA 4 2),ir 146 (lA 1 145),ir 147 (mA 8),ir 148 (aA 5 146 147),ir 149 (lB 5 148),ir 150 (mA 1),
 ir 151 (cC 85 149 150),⟨(.some 152),.none,(.bsl 4 24 [(.p (.i .i64 0)),(.p (.i .i64 0)),(.p (.s [])),.nil] 1 [(0,(.t 151))]),.ad⟩,ia 153 (.app 4 24 56 (.t 144) (.t 152)),ia 154 (fA 3 7),io (sA 1 154 153)])) (.reg [ia 141 (mA 8),ia 142 (bC .add 141 1),ia 8 (mA 142)])))
def F85:FnC:=⟨2,(HX [ia 2 (bA 5 0),ia 4 (.new [(.p (.i .i64 0)),(.p (.i .i64 0)),(.p (.s [])),.nil])] (.seq (HX [ia 9 (fA 0 2),ia 10 (lA 1 9)] (.block 0 (HX [ia 12 (bC .eql 10 1),ia 11 (mA 12)] (HW 11 (HX [ia 13 (mA 1),ia 14 (fA 1 2),ia 15 (lA 1 14),ia 16 (cC 122 13 15),ia 17 (.build [(.p (.i .i64 0)),(.p (.i .i64 0)),(.p (.s [])),.nil] [(0,(1,(ci 1))),(1,(1,(.t 16)))]),
 io (sA 4 4 17)] .ret) (HX [ia 19 (bC .eql 10 2),ia 18 (mA 19)] (HW 18 (HX [ir 20 (fA 4 2),ir 21 (lA 1 20),ir 22 (.ias 5 (.t 21) (ci 0)),ir 23 (lB 5 22),ir 24 (mA 1),ir 25 (fA 1 2),ir 26 (lA 1 25),ir 27 (cC 124 24 26),ia 28 (cC 85 23 27),ia 29 (cB 123 28),io (sA 4 4 29)] .ret) (HX [ia 31 (bC .eql 10 3),
 ia 30 (mA 31)] (HW 30 (HX [ir 32 (fA 4 2),ir 33 (lA 1 32),ir 34 (.ias 5 (.t 33) (ci 0)),ir 35 (lB 5 34),ir 36 (mA 1),ir 37 (cC 85 35 36),ir 38 (fA 4 2),ir 39 (lA 1 38),ir 40 (.ias 5 (.t 39) (ci 1)),ir 41 (lB 5 40),ir 42 (mA 1),ia 43 (cC 85 41 42),ia 44 (.call (.f 125) [(ci 3),(.t 37),(.t 43)]),io (sA 4 4 44)] .ret) (HX [
 ia 46 (bC .eql 10 4),ia 45 (mA 46)] (HW 45 (HX [ir 47 (fA 4 2),ir 48 (lA 1 47),ir 49 (.ias 5 (.t 48) (ci 1)),ir 50 (lB 5 49),ir 51 (mA 1),ir 52 (fA 1 2),ir 53 (lA 1 52),ir 54 (cC 124 51 53),ir 55 (cC 85 50 54),ir 56 (cB 123 55),ir 57 (fA 4 2),ir 58 (lA 1 57),ir 59 (.ias 5 (.t 58) (ci 0)),ir 60 (lB 5 59),
 ir 61 (mA 1),ia 62 (cC 85 60 61),ia 63 (.call (.f 125) [(ci 3),(.t 56),(.t 62)]),io (sA 4 4 63)] .ret) (HX [ia 65 (bC .eql 10 5),ia 64 (mA 65)] (HW 64 (HX [ir 66 (cA 126),ir 67 (fA 4 2),ir 68 (lA 1 67),ir 69 (.ias 5 (.t 68) (ci 0)),ir 70 (lB 5 69),ir 71 (mA 1),ir 72 (fA 1 2),ir 73 (lA 1 72),ir 74 (cC 124 71 73),
 ir 75 (cC 85 70 74),ir 76 (cB 123 75),ir 77 (.call (.f 125) [(ci 3),(.t 66),(.t 76)]),⟨(.some 5),.none,(.new [(.p (.i .i64 0)),(.p (.i .i64 0)),(.p (.s [])),.nil]),.ad⟩,io (sA 4 5 77)] (HX [ir 78 (fA 4 2),ir 79 (lA 1 78),ir 80 (.ias 5 (.t 79) (ci 1)),ir 81 (lB 5 80),ir 82 (mA 1),ir 83 (fA 1 2),
 ir 84 (lA 1 83),ir 85 (cC 124 82 84),ir 86 (cC 85 81 85),ir 87 (cB 123 86),ir 88 (lB 4 5),ia 89 (.call (.f 125) [(ci 3),(.t 87),(.t 88)]),io (sA 4 4 89)] .ret)) (HX [ia 91 (bC .eql 10 8),ia 90 (mA 91)] (HW 90 (.seq (HX [ia 6 (mI 0)] (.block 1 (.loop F85b0))) (HX [ir 106 (fA 1 2),ir 107 (lA 1 106),
 ir 108 (fA 2 2),ir 109 (lA 1 108),ir 110 (fA 4 2),ir 111 (lA 1 110),ir 112 (fA 2 2),ir 113 (lA 1 112),ir 114 (aA 5 111 113),ir 115 (lB 5 114),ir 116 (mA 1),ir 117 (cC 85 115 116),⟨(.some 118),.none,(.bsl 4 24 [(.p (.i .i64 0)),(.p (.i .i64 0)),(.p (.s [])),.nil] 1 [(0,(.t 117))]),.ad⟩,ia 119 (.build [(.p (.i .i64 0)),(.p (.i .i64 0)),(.p (.s [])),.nil] [(0,(1,(ci 6))),(2,(1,(.t 107))),(1,(1,(.t 109))),(3,(1,(.t 118)))]),
 io (sA 4 4 119)] .ret)) (HX [ia 121 (bC .eql 10 9),ia 120 (mA 121)] (HW 120 (HX [ia 122 (fA 2 2),ia 123 (lA 1 122),ia 124 (.build [(.p (.i .i64 0)),(.p (.i .i64 0)),(.p (.s [])),.nil] [(0,(1,(ci 7))),(1,(1,(.t 123)))]),io (sA 4 4 124)] .ret) .skip)))))))))))))))) (HX [ia 125 (fA 1 2),ia 126 (lA 1 125),
 ia 127 (.build [(.p (.i .i64 0)),(.p (.i .i64 0)),(.p (.s [])),.nil] [(0,(1,(ci 4))),(2,(1,(.t 126)))]),ia 7 (.new [(.p (.i .i64 0)),(.p (.i .i64 0)),(.p (.s [])),.nil]),io (sA 4 7 127)] (.seq (HX [ia 128 (fA 0 2),ia 129 (lA 1 128),ia 130 (bC .eql 129 7)] (HW 130 (.reg [ia 131 (fA 0 7),io (.st 1 (.t 131) (ci 5))]) .skip)) (.seq (HX [
 ia 132 (fA 0 2),ia 133 (lA 1 132),ia 134 (bC .eql 133 10)] (HW 134 (.reg [ia 135 (fA 0 7),io (.st 1 (.t 135) (ci 8))]) .skip)) (.seq (HX [ia 8 (mI 0)] (.block 3 (.loop F85b1))) (HX [ia 155 (lB 4 7),io (sA 4 4 155)] .ret))))))),[(.cell 4 4 true)]⟩
theorem cc85:CK Tryz.f85=some (lH F85):=by kernel_rfl
def F86:FnC:=⟨1,(HX [ia 2 (.mv xF)] (.seq (HX [ia 5 (mA 0),ia 6 (.bin .eql (.t 5) (.c (.a (.p (.s [])))))] (HW 6 (HX [ia 2 (.mv xF)] .ret) .skip)) (HX [ia 8 (mA 0),ia 9 (.call (.f 113) [(.t 8),(ci 0)]),ia 7 (mA 9),ia 10 (eA 7 0),ia 11 (eA 7 1),ia 3 (.new [(.p (.i .i64 0)),(.p (.s [])),(.p (.i .i64 0)),(.p (.i .i64 0))]),
 io (sA 4 3 10),ia 4 (mA 11)] (HX [ia 12 (mA 4),ia 13 (bC .eql 12 0),ia 14 (mA 13),ig 15 14 true (fA 0 3),ig 16 14 true (lA 1 15),ig 17 14 true (bC .eql 16 2),ia 18 (pB 14 17),ia 19 (mA 18),ig 20 19 true (fA 1 3),ig 21 19 true (lA 1 20),ig 22 19 true (mA 0),ig 23 19 true (bB .eql 21 22),ia 24 (pB 19 23),
 ia 2 (mA 24)] .ret)))),[(.tmp 2)]⟩
theorem cc86:CK Tryz.f86=some (lH F86):=by kernel_rfl
def F87b0:C:=(.seq (HX [ia 35 (mA 8),ia 36 (fA 0 7),ia 37 (lA 1 36),ia 38 (nA 37),ia 39 (bB .lss 35 38)] (HW 39 .skip (.exit 0))) (.seq (.block 1 (HX [ia 42 (fA 0 7),ia 43 (lA 1 42),ia 44 (mA 8),ia 45 (aA 6 43 44),ia 46 (fA 0 45),ia 47 (lA 1 46),ia 48 (bC .eql 47 0)] (HW 48 (HX [ia 49 (fA 0 7),ia 50 (lA 1 49),
 ia 51 (mA 8),ia 52 (lB 6 3),ia 53 (aA 6 50 51),io (sA 6 53 52)] (HX [ia 54 (lB 2 7),ia 55 (mA 8),io (sA 2 4 54),ia 5 (mA 55),ia 6 (mI 0)] .ret)) .skip))) (.reg [ia 40 (mA 8),ia 41 (bC .add 40 1),ia 8 (mA 41)])))
def F87:FnC:=⟨2,(HX [ia 2 (bA 2 0),ia 3 (bA 6 1),ia 4 (.new [.nil,(.p (.i .i64 0))]),ia 5 (mI 0),ia 6 (mI 0)] (.seq (HX [ia 9 (fA 0 3),ia 10 (lA 1 9),ia 11 (bC .lss 10 2),ia 12 (mA 11),ig 13 12 false (lB 6 3),ig 14 12 false (cB 33 13),ig 15 12 false (oA 14),ia 16 (pA 12 15)] (HW 16 (HX [ia 17 (lB 2 2),
 io (sA 2 4 17),ia 5 (mI 0),ia 6 (mI 122)] .ret) .skip)) (.seq (HX [ir 18 (lB 2 2),ir 19 (cB 127 18),ir 20 (fA 1 2),ir 21 (lA 1 20),ia 22 (bB .geq 19 21)] (HW 22 (HX [ia 23 (lB 2 2),io (sA 2 4 23),ia 5 (mI 0),ia 6 (mI 121)] .ret) .skip)) (HX [ia 24 (lB 2 2),ia 25 (cB 128 24),ia 7 (.new [.nil,(.p (.i .i64 0))]),
 io (sA 2 7 25)] (HX [ia 26 (lB 6 3),ia 27 (cB 34 26),ia 28 (.mslF 2 42 16 [(.p (.i .i64 0)),(.p (.i .i64 0))] (.t 27) (.t 27)),ia 29 (fA 5 3),io (sA 1 29 28)] (HX [ia 30 (.bsl 2 107 [(.p (.s [])),(.p (.i .i64 0))] 0 []),ia 31 (fA 4 3),ia 32 (lA 1 31),ia 33 (.app 2 107 24 (.t 30) (.t 32)),ia 34 (fA 4 3),
 io (sA 1 34 33)] (.seq (HX [ia 8 (mI 0)] (.block 0 (.loop F87b0))) (HX [ia 56 (fA 0 7),ia 57 (lA 1 56),ia 58 (lB 6 3),ia 59 (.bsl 6 46 [(.p (.i .i64 0)),(.p (.i .i64 0)),(.p (.i .i64 0)),(.p (.s [])),.nil,.nil] 1 [(0,(.t 58))]),ia 60 (.app 6 46 88 (.t 57) (.t 59)),ia 61 (fA 0 7),io (sA 1 61 60)] (HX [
 ir 62 (lB 2 7),ir 63 (fA 0 7),ir 64 (lA 1 63),ir 65 (nA 64),ir 66 (bC .sub 65 1),⟨.none,.none,(sA 2 4 62),(.wr [63])⟩,ia 5 (mA 66),ia 6 (mI 0)] .ret))))))))),[(.cell 4 2 true),(.tmp 5),(.tmp 6)]⟩
theorem cc87:CK Tryz.f87=some (lH F87):=by kernel_rfl
def F88:FnC:=⟨1,(HX [ia 2 (.new [.nil,(.p (.i .i64 0)),(.p (.i .i64 0)),(.p (.i .i64 0)),.nil,(.p (.i .i64 0))])] (HX [ia 3 (mA 0),ia 4 (.build [.nil,(.p (.i .i64 0)),(.p (.i .i64 0)),(.p (.i .i64 0)),.nil,(.p (.i .i64 0))] [(5,(1,(.t 3)))]),io (sA 6 2 4)] .ret)),[(.cell 2 6 true)]⟩
theorem cc88:CK Tryz.f88=some (lH F88):=by kernel_rfl
def F89b0:C:=(.seq (HX [ia 6 (mA 5),ia 7 (mA 0),ia 8 (nA 7),ia 9 (bB .lss 6 8)] (HW 9 .skip (.exit 0))) (.seq (.block 1 (HX [ia 12 (mA 0),ia 13 (mA 5),ia 14 (aA 3 12 13),ia 15 (fA 0 14),ia 16 (lA 1 15),ia 17 (mA 1),ia 18 (bB .eql 16 17)] (HW 18 (HX [ia 19 (mA 5),ia 4 (mA 19)] .ret) .skip))) (.reg [
 ia 10 (mA 5),ia 11 (bC .add 10 1),ia 5 (mA 11)])))
def F89:FnC:=⟨2,(HX [ia 4 (mI 0)] (.seq (HX [ia 5 (mI 0)] (.block 0 (.loop F89b0))) (HX [ia 4 (.mv (.c (.a (.p (.i .i64 (-1))))))] .ret))),[(.tmp 4)]⟩
theorem cc89:CK Tryz.f89=some (lH F89):=by kernel_rfl
def F90:FnC:=⟨4,(HX [ia 4 (bA 2 0),ia 5 (bA 4 1),ia 8 (.new [.nil,(.p (.i .i64 0)),(.p (.i .i64 0)),(.p (.i .i64 0)),.nil,(.p (.i .i64 0))])] (HX [ia 10 (fA 3 5),ia 11 (lA 1 10),ia 12 (mA 2),ia 13 (aA 4 11 12),ia 14 (lB 4 13),ia 9 (.new [(.p (.i .i64 0)),(.p (.i .i64 0)),(.p (.s [])),.nil]),
 io (sA 4 9 14)] (.seq (HX [ia 15 (fA 0 5),ia 16 (lA 1 15),ia 17 (bC .eql 16 4),ia 18 (mA 17),ig 19 18 false (fA 0 5),ig 20 18 false (lA 1 19),ig 21 18 false (bC .eql 20 3),ig 22 18 false (mA 21),ig 23 22 true (mA 2),ig 24 22 true (bC .eql 23 1),ig 25 18 false (pB 22 24),ia 26 (pA 18 25)] (HW 26 (HX [
 ia 27 (lB 2 4),ia 28 (lB 4 9),ia 29 (mA 3),ia 30 (bC .add 29 1),ia 31 (cD 26 27 28 30),ia 32 (mA 3),ia 33 (cC 129 31 32),io (sA 6 8 33)] .ret) .skip)) (.seq (HX [ia 34 (fA 0 5),ia 35 (lA 1 34),ia 36 (bC .eql 35 5),ia 37 (mA 36),ig 38 37 true (mA 2),ig 39 37 true (bC .gtr 38 0),ia 40 (pB 37 39)] (HW 40 (HX [
 ir 41 (lB 2 4),ir 42 (fA 3 9),ir 43 (lA 1 42),ir 44 (.ias 4 (.t 43) (ci 0)),ir 45 (lB 4 44),ir 46 (fA 1 9),ir 47 (lA 1 46),ir 48 (mA 3),ia 49 (cE 49 41 45 47 48),io (sA 6 8 49)] .ret) .skip)) (HX [ia 50 (lB 2 4),ia 51 (lB 4 9),ia 52 (mA 3),ia 53 (cD 26 50 51 52),io (sA 6 8 53)] .ret))))),[(.cell 8 6 true)]⟩
theorem cc90:CK Tryz.f90=some (lH F90):=by kernel_rfl
def F91b0:C:=(.seq (HX [ia 12 (mA 7),ia 13 (fA 4 3),ia 14 (lA 1 13),ia 15 (nA 14),ia 16 (bB .lss 12 15),ia 17 (mA 16),ig 18 17 true (fA 5 3),ig 19 17 true (lA 1 18),ig 20 17 true (bC .eql 19 0),ia 21 (pB 17 20)] (HW 21 .skip (.exit 0))) (.seq (.block 1 (HX [ia 24 (mA 1),ia 25 (fA 4 3),ia 26 (lA 1 25),
 ia 27 (mA 7),ia 28 (aA 3 26 27),ia 29 (fA 0 28),ia 30 (lA 1 29),ia 31 (cC 89 24 30),ia 8 (mA 31)] (.seq (HX [ia 32 (mA 8),ia 33 (bC .lss 32 0)] (HW 33 (HX [ia 34 (mA 1),ia 35 (fA 4 3),ia 36 (lA 1 35),ia 37 (mA 7),ia 38 (aA 3 36 37),ia 39 (lB 3 38),ia 40 (cC 130 34 39),ia 1 (mA 40)] (.exit 1)) .skip)) (HX [
 ia 42 (fA 0 3),ia 43 (lB 2 42),ia 44 (mA 2),ia 45 (.build [(.p (.i .i64 0)),(.p (.i .i64 0)),(.p (.i .i64 0)),(.p (.s [])),.nil,.nil] [(0,(1,(ci 4))),(1,(1,(.t 44)))]),ia 46 (cC 48 43 45),ia 41 (mA 46),ia 47 (eA 41 0),ia 48 (eA 41 1),ia 49 (eA 41 2),ia 9 (.new [.nil,(.p (.i .i64 0))]),io (sA 2 9 47),
 ia 10 (mA 48),ia 11 (mA 49)] (HX [ia 50 (mA 11),ia 51 (fA 5 3),io (sA 1 51 50)] (HX [ir 52 (lB 2 9),ir 53 (mA 10),ir 54 (.call (.f 28) [(.t 53),(ci 1)]),ir 55 (mA 1),ir 56 (mA 8),ir 57 (aA 3 55 56),ir 58 (fA 1 57),ir 59 (lB 2 58),ir 60 (cD 27 52 54 59),ir 61 (mA 10),ir 62 (.call (.f 28) [(.t 61),(ci 2)]),
 ir 63 (fA 4 3),ir 64 (lA 1 63),ir 65 (mA 7),ir 66 (aA 3 64 65),ir 67 (fA 1 66),ir 68 (lB 2 67),ia 69 (cD 27 60 62 68),ia 70 (fA 0 3),io (sA 2 70 69)] (HX [ia 71 (.bsl 3 104 [(.p (.i .i64 0)),(.p (.i .i64 0)),(.p (.i .i64 0))] 0 []),ia 72 (mA 1),ia 73 (.app 3 104 24 (.t 71) (.t 72)),ia 1 (mA 73)] (.reg [
 ia 74 (mA 1),ia 75 (mA 8),ia 76 (mA 10),ia 77 (.call (.f 28) [(.t 76),(ci 0)]),ia 78 (aA 3 74 75),ia 79 (fA 1 78),io (sA 2 79 77)])))))))) (.reg [ia 22 (mA 7),ia 23 (bC .add 22 1),ia 7 (mA 23)])))
def F91:FnC:=⟨3,(HX [ia 3 (bA 6 0),ia 6 (.new [.nil,(.p (.i .i64 0)),(.p (.i .i64 0)),(.p (.i .i64 0)),.nil,(.p (.i .i64 0))])] (.seq (HX [ia 7 (mI 0)] (.block 0 (.loop F91b0))) (HX [ia 80 (mA 1),ia 81 (fA 4 3),io (sA 1 81 80)] (HX [ia 82 (lB 6 3),io (sA 6 6 82)] .ret)))),[(.cell 6 6 true)]⟩
theorem cc91:CK Tryz.f91=some (lH F91):=by kernel_rfl
def F92:FnC:=⟨3,(HX [ia 3 (bA 2 0),ia 4 (bA 2 1),ia 5 (bA 2 2),ia 6 (.new [.nil,(.p (.i .i64 0))])] (HX [ia 9 (lB 2 3),ia 10 (cB 128 9),ia 7 (.new [.nil,(.p (.i .i64 0))]),io (sA 2 7 10)] (HX [ia 11 (.bsl 2 42 [(.p (.i .i64 0)),(.p (.i .i64 0))] 0 []),ia 12 (fA 0 7),ia 13 (lA 1 12),ia 14 (fA 0 4),
 ia 15 (lA 1 14),ia 16 (aA 6 13 15),ia 17 (fA 5 16),ia 18 (lA 1 17),ia 19 (.app 2 42 16 (.t 11) (.t 18)),ia 8 (mA 19)] (HX [ia 20 (mA 8),ia 21 (fA 1 4),ia 22 (lA 1 21),ia 23 (lB 2 5),ia 24 (aA 2 20 22),io (sA 2 24 23)] (HX [ia 25 (fA 0 7),ia 26 (lA 1 25),ia 27 (fA 0 4),ia 28 (lA 1 27),ia 29 (mA 8),ia 30 (aA 6 26 28),
 ia 31 (fA 5 30),io (sA 1 31 29)] (HX [ia 32 (lB 2 7),io (sA 2 6 32)] .ret)))))),[(.cell 6 2 true)]⟩
theorem cc92:CK Tryz.f92=some (lH F92):=by kernel_rfl
def F93:FnC:=⟨1,(HX [ia 1 (bA 2 0),ia 2 (.mv (.c (.a (.raw .nilFunc))))] (HX [ia 3 (.fn 131 [(.t 1)]),ia 2 (mA 3)] .ret)),[(.tmp 2)]⟩
theorem cc93:CK Tryz.f93=some (lH F93):=by kernel_rfl
def tblB:List (FuncId×FnC):=[(52,F52),(53,F53),(54,F54),(55,F55),(56,F56),(57,F57),(58,F58),(59,F59),(60,F60),(61,F61),(62,F62),(63,F63),(64,F64),(65,F65),(66,F66),(67,F67),(68,F68),(69,F69),(70,F70),(71,F71),(72,F72),(73,F73),(74,F74),(75,F75),(76,F76),(77,F77),(78,F78),(79,F79),(81,F81),(82,F82),(83,F83),(84,F84),(85,F85),(86,F86),(87,F87),(88,F88),(89,F89),(90,F90),(91,F91),(92,F92),(93,F93)]
theorem tblOkB:∀x,x∈tblB→∃fn,Tryz.prog.funcs[x.1]? =some fn∧CK fn=some (lH x.2):=by
 intro x hx
 simp only[tblB,qY,oZ,or_false]at hx
 rcases hx with rfl|rfl|rfl|rfl|rfl|rfl|rfl|rfl|rfl|rfl|rfl|rfl|rfl|rfl|rfl|rfl|rfl|rfl|rfl|rfl|rfl|rfl|rfl|rfl|rfl|rfl|rfl|rfl|rfl|rfl|rfl|rfl|rfl|rfl|rfl|rfl|rfl|rfl|rfl|rfl|rfl
 ·exact⟨_,Tryz.func52,cc52⟩
 ·exact⟨_,Tryz.func53,cc53⟩
 ·exact⟨_,Tryz.func54,cc54⟩
 ·exact⟨_,Tryz.func55,cc55⟩
 ·exact⟨_,Tryz.func56,cc56⟩
 ·exact⟨_,Tryz.func57,cc57⟩
 ·exact⟨_,Tryz.func58,cc58⟩
 ·exact⟨_,Tryz.func59,cc59⟩
 ·exact⟨_,Tryz.func60,cc60⟩
 ·exact⟨_,Tryz.func61,cc61⟩
 ·exact⟨_,Tryz.func62,cc62⟩
 ·exact⟨_,Tryz.func63,cc63⟩
 ·exact⟨_,Tryz.func64,cc64⟩
 ·exact⟨_,Tryz.func65,cc65⟩
 ·exact⟨_,Tryz.func66,cc66⟩
 ·exact⟨_,Tryz.func67,cc67⟩
 ·exact⟨_,Tryz.func68,cc68⟩
 ·exact⟨_,Tryz.func69,cc69⟩
 ·exact⟨_,Tryz.func70,cc70⟩
 ·exact⟨_,Tryz.func71,cc71⟩
 ·exact⟨_,Tryz.func72,cc72⟩
 ·exact⟨_,Tryz.func73,cc73⟩
 ·exact⟨_,Tryz.func74,cc74⟩
 ·exact⟨_,Tryz.func75,cc75⟩
 ·exact⟨_,Tryz.func76,cc76⟩
 ·exact⟨_,Tryz.func77,cc77⟩
 ·exact⟨_,Tryz.func78,cc78⟩
 ·exact⟨_,Tryz.func79,cc79⟩
 ·exact⟨_,Tryz.func81,cc81⟩
 ·exact⟨_,Tryz.func82,cc82⟩
 ·exact⟨_,Tryz.func83,cc83⟩
 ·exact⟨_,Tryz.func84,cc84⟩
 ·exact⟨_,Tryz.func85,cc85⟩
 ·exact⟨_,Tryz.func86,cc86⟩
 ·exact⟨_,Tryz.func87,cc87⟩
 ·exact⟨_,Tryz.func88,cc88⟩
 ·exact⟨_,Tryz.func89,cc89⟩
 ·exact⟨_,Tryz.func90,cc90⟩
 ·exact⟨_,Tryz.func91,cc91⟩
 ·exact⟨_,Tryz.func92,cc92⟩
 ·exact⟨_,Tryz.func93,cc93⟩
def F94:FnC:=⟨2,(HX [ia 2 (bA 2 0),ia 3 (bA 2 1),ia 4 (.mv xF)] (HX [ir 8 (fA 0 2),ir 9 (lA 1 8),ir 10 (fA 0 3),ir 11 (lA 1 10),ir 12 (aA 6 9 11),ir 13 (lB 6 12),ir 14 (fA 0 2),ir 15 (lA 1 14),ir 16 (fA 1 3),ir 17 (lA 1 16),ir 18 (aA 6 15 17),ir 19 (lB 6 18),ir 20 (cC 39 13 19),ir 7 (mA 20),ir 21 (eA 7 0),
 ir 22 (eA 7 1),⟨(.some 5),.none,(.new [(.p (.i .i64 0)),(.p (.b false)),(.p (.i .i64 0)),(.p (.i .i64 0)),(.p (.i .i64 0)),(.p (.i .i64 0)),(.p (.i .i64 0)),(.p (.s [])),.nil,.nil]),.ad⟩,⟨.none,.none,(sA 10 5 21),(.wr [])⟩,ia 6 (mA 22)] (HX [ia 23 (mA 6),ia 24 (bC .eql 23 0),ia 4 (mA 24)] .ret))),[(.tmp 4)]⟩
theorem cc94:CK Tryz.f94=some (lH F94):=by kernel_rfl
def F95b0:C:=(.block 1 (HX [ia 25 (fA 0 5),ia 26 (lA 1 25),ia 27 (fA 1 4),io (sA 1 27 26)] (.seq (HX [ia 28 (fA 0 4),ia 29 (lA 1 28),ia 30 (fA 0 5),ia 31 (lA 1 30),ia 32 (cC 132 29 31)] (HW 32 (HX [ia 33 (fA 3 4),io (.st 1 (.t 33) (ci 191))] (HX [ia 34 (lB 4 4),io (sA 4 4 34)] .ret)) .skip)) (HX [
 ia 35 (fA 0 4),ia 36 (lA 1 35),ia 37 (fA 0 5),ia 38 (lA 1 37),ia 39 (.bsl 1 3 [(.p (.i .i64 0))] 1 [(0,(.t 38))]),ia 40 (.app 1 3 8 (.t 36) (.t 39)),ia 41 (fA 0 4),io (sA 1 41 40)] (.seq (.block 2 (HX [ia 43 (fA 1 5),ia 44 (lA 1 43),ia 45 (bC .eql 44 0),ia 42 (mA 45)] (HW 42 (HX [ia 46 (lB 4 4),io (sA 4 4 46)] .ret) (HX [
 ir 48 (fA 0 2),ir 49 (lA 1 48),ir 50 (fA 0 5),ir 51 (lA 1 50),ir 52 (aA 6 49 51),ir 53 (lB 6 52),ir 54 (fA 1 5),ir 55 (lA 1 54),ia 56 (cC 133 53 55),ia 57 (oA 56),ia 47 (mA 57)] (HW 47 (HX [ia 58 (fA 3 4),io (.st 1 (.t 58) (ci 190))] (HX [ia 59 (lB 4 4),io (sA 4 4 59)] .ret)) .skip))))) (HX [ia 61 (lB 2 2),
 ia 62 (fA 0 5),ia 63 (lA 1 62),ia 64 (.build [(.p (.i .i64 0)),(.p (.i .i64 0))] [(0,(1,(.t 63)))]),ia 65 (cC 60 61 64),ia 60 (mA 65),ia 66 (eA 60 0),ia 67 (eA 60 1),io (sA 2 5 66)] (HX [ia 68 (fA 1 5),ia 69 (lA 1 68),ia 70 (bC .eql 69 0),ia 71 (fA 2 4),io (sA 1 71 70)] (HX [ia 72 (fA 2 4),ia 73 (lA 1 72)] (HW 73 (HX [
 ia 74 (lB 4 4),io (sA 4 4 74)] .ret) .skip)))))))))
def F95:FnC:=⟨2,(HX [ia 2 (bA 2 0),ia 3 (bA 2 1),ia 4 (.new [.nil,(.p (.i .i64 0)),(.p (.b false)),(.p (.i .i64 0))])] (.seq (HX [ia 7 (lB 2 2),ia 8 (cB 37 7),ia 9 (fA 3 4),io (sA 1 9 8)] (HX [ia 10 (fA 3 4),ia 11 (lA 1 10),ia 12 (bC .neq 11 0)] (HW 12 (HX [ia 13 (lB 4 4),io (sA 4 4 13)] .ret) .skip))) (HX [
 ia 15 (lB 2 2),ia 16 (lB 2 3),ia 17 (cC 60 15 16),ia 14 (mA 17),ia 18 (eA 14 0),ia 19 (eA 14 1),ia 5 (.new [(.p (.i .i64 0)),(.p (.i .i64 0))]),io (sA 2 5 18),ia 6 (mA 19)] (.seq (HX [ia 20 (mA 6),ia 21 (bC .neq 20 0)] (HW 21 (HX [ia 22 (mA 6),ia 23 (fA 3 4),io (sA 1 23 22)] (HX [ia 24 (lB 4 4),io (sA 4 4 24)] .ret)) .skip)) (.block 0 (.loop F95b0)))))),[(.cell 4 4 true)]⟩
theorem cc95:CK Tryz.f95=some (lH F95):=by kernel_rfl
def F96b1:C:=(HX [ia 49 (bB .lss 48 47)] (.seq (HW 49 .skip (.exit 2)) (.seq (.block 3 (HX [ia 50 (aA 2 46 48),ia 51 (lB 2 50),ia 7 (.new [(.p (.i .i64 0)),(.p (.i .i64 0))]),io (sA 2 7 51)] (.reg [ia 52 (mA 0),ia 53 (fA 0 7),ia 54 (lA 1 53),ia 55 (cC 134 52 54)]))) (.reg [ia 56 (bC .add 48 1),
 ia 48 (mA 56)]))))
def F96b0:C:=(.seq (HX [ia 11 (mA 0),ia 12 (HY 11),ia 13 (fA 2 12),ia 14 (lA 1 13),ia 15 (nA 14),ia 16 (bC .gtr 15 0)] (HW 16 .skip (.exit 0))) (.block 1 (HX [ia 17 (mA 0),ia 18 (HY 17),ia 19 (fA 2 18),ia 20 (lA 1 19),ia 21 (nA 20),ia 22 (bC .sub 21 1),ia 4 (mA 22)] (HX [ia 23 (mA 0),ia 24 (HY 23),
 ia 25 (fA 2 24),ia 26 (lA 1 25),ia 27 (mA 4),ia 28 (aA 1 26 27),ia 29 (lA 1 28),ia 5 (mA 29)] (HX [ia 30 (mA 0),ia 31 (mA 0),ia 32 (HY 31),ia 33 (fA 2 32),ia 34 (lA 1 33),ia 35 (mA 4),ia 36 (.slc 1 3 (.t 34) .none (.some (.t 35)) .none),ia 37 (HY 30),ia 38 (fA 2 37),io (sA 1 38 36)] (HX [ia 39 (mA 0),
 ia 40 (HY 39),ia 41 (fA 0 40),ia 42 (lA 1 41),ia 43 (mA 5),ia 44 (aA 6 42 43),ia 45 (fA 5 44),ia 46 (lA 1 45),ia 47 (nA 46),ia 48 (mI 0)] (.block 2 (.loop F96b1))))))))
def F96:FnC:=⟨2,(HX [ia 8 (mA 0),ia 9 (mA 1),ia 10 (cC 134 8 9)] (.block 0 (.loop F96b0))),[]⟩
theorem cc96:CK Tryz.f96=some (lH F96):=by kernel_rfl
def F97:FnC:=⟨1,(HX [ia 1 (bA 2 0),ia 2 (.new [.nil,(.p (.i .i64 0))])] (HX [ir 3 (fA 0 1),ir 4 (lA 1 3),ir 5 (nA 4),ir 6 (bC .add 5 1),⟨(.some 7),.none,(.msl 6 46 88 [(.p (.i .i64 0)),(.p (.i .i64 0)),(.p (.i .i64 0)),(.p (.s [])),.nil,.nil] (ci 0) (.t 6)),.ad⟩,ir 8 (fA 0 1),ir 9 (lA 1 8),
 ia 10 (.app 6 46 88 (.t 7) (.t 9)),ia 11 (fA 0 1),io (sA 1 11 10)] (HX [ia 12 (lB 2 1),io (sA 2 2 12)] .ret))),[(.cell 2 2 true)]⟩
theorem cc97:CK Tryz.f97=some (lH F97):=by kernel_rfl
def F98b0:C:=(HX [ia 17 (bB .lss 16 15)] (.seq (HW 17 .skip (.exit 0)) (.seq (.block 1 (HX [ia 18 (mA 16),ia 19 (aA 2 14 16),ia 20 (lB 2 19),ia 4 (.new [(.p (.s [])),(.p (.i .i64 0))]),ia 3 (mA 18),io (sA 2 4 20)] (HX [ia 21 (.fn 135 [(.t 4)]),ia 5 (mA 21)] (HX [ia 22 (fA 0 4),ia 23 (lA 1 22),ia 24 (.bin .eql (.t 23) (.c (.a (.p (.s []))))),
 ia 25 (mA 24),ig 26 25 false (fA 1 4),ig 27 25 false (lA 1 26),ig 28 25 false (.call (.f 56) [(.t 27),(ci 0),(ci 8)]),ig 29 25 false (oA 28),ia 30 (pA 25 29),ia 31 (mA 30),ig 32 31 false (fA 4 1),ig 33 31 false (lA 1 32),ig 34 31 false (mA 3),ig 35 31 false (.slc 2 107 (.t 33) .none (.some (.t 34)) .none),
 ig 36 31 false (mA 5),ig 37 31 false (cC 136 35 36),ia 38 (pA 31 37)] (HW 38 (HX [ia 2 (.mv xF)] .ret) .skip))))) (.reg [ia 39 (bC .add 16 1),ia 16 (mA 39)]))))
def F98:FnC:=⟨1,(HX [ia 1 (bA 6 0),ia 2 (.mv xF)] (.seq (HX [ia 6 (fA 0 1),ia 7 (lA 1 6),ia 8 (bC .neq 7 9)] (HW 8 (HX [ia 9 (fA 4 1),ia 10 (lA 1 9),ia 11 (nA 10),ia 12 (bC .eql 11 0),ia 2 (mA 12)] .ret) .skip)) (.seq (HX [ia 13 (fA 4 1),ia 14 (lA 1 13),ia 15 (nA 14),ia 16 (mI 0)] (.block 0 (.loop F98b0))) (HX [
 ia 40 (fA 4 1),ia 41 (lA 1 40),ia 42 (nA 41),ia 43 (.call (.f 56) [(.t 42),(ci 1),(ci 8)]),ia 2 (mA 43)] .ret)))),[(.tmp 2)]⟩
theorem cc98:CK Tryz.f98=some (lH F98):=by kernel_rfl
def F99:FnC:=⟨0,(HX [ia 0 (.new [(.p (.i .i64 0)),(.p (.i .i64 0)),(.p (.i .i64 0)),(.p (.i .i64 0)),(.p (.i .i64 0)),(.p (.i .i64 0)),(.p (.i .i64 0)),(.p (.i .i64 0)),(.p (.i .i64 0)),(.p (.i .i64 0)),(.p (.i .i64 0)),(.p (.i .i64 0)),(.p (.i .i64 0)),(.p (.i .i64 0))])] (HX [ia 1 (.build [(.p (.i .i64 0)),(.p (.i .i64 0)),(.p (.i .i64 0)),(.p (.i .i64 0)),(.p (.i .i64 0)),(.p (.i .i64 0)),(.p (.i .i64 0)),(.p (.i .i64 0)),(.p (.i .i64 0)),(.p (.i .i64 0)),(.p (.i .i64 0)),(.p (.i .i64 0)),(.p (.i .i64 0)),(.p (.i .i64 0))] [(1,(1,(ci 1))),(2,(1,(ci 3))),(3,(1,(ci 3))),(4,(1,(ci 3))),(5,(1,(ci 2))),(6,(1,(ci 2))),(7,(1,(ci 1))),(10,(1,(ci 1))),(11,(1,(ci 3))),(12,(1,(ci 2))),(13,(1,(ci 1)))]),
 io (sA 14 0 1)] .ret)),[(.cell 0 14 true)]⟩
theorem cc99:CK Tryz.f99=some (lH F99):=by kernel_rfl
def F100:FnC:=⟨2,(HX [ia 2 (bA 2 0),ia 4 (.mv xF)] (HX [ia 5 (mA 1),ia 6 (.fn 138 [(.t 2)]),ia 7 (cC 137 5 6),ia 8 (oA 7),ia 4 (mA 8)] .ret)),[(.tmp 4)]⟩
theorem cc100:CK Tryz.f100=some (lH F100):=by kernel_rfl
def F101:FnC:=⟨2,(HX [ia 2 (bA 2 0),ia 3 (bA 2 1),ia 4 (.new [(.p (.i .i64 0)),(.p (.i .i64 0))])] (HX [ir 5 (fA 0 2),ir 6 (fA 0 5),ir 7 (lA 1 6),ir 8 (fA 0 3),ir 9 (lA 1 8),ir 10 (aA 6 7 9),ir 11 (fA 5 10),ir 12 (lA 1 11),ir 13 (fA 1 3),ir 14 (lA 1 13),ia 15 (aA 2 12 14),ia 16 (lB 2 15),io (sA 2 4 16)] .ret)),[(.cell 4 2 true)]⟩
theorem cc101:CK Tryz.f101=some (lH F101):=by kernel_rfl
def F102:FnC:=⟨2,(HX [ia 2 (bA 6 0),ia 3 (bA 6 1),ia 4 (.new [(.p (.i .i64 0)),(.p (.b false)),(.p (.i .i64 0)),(.p (.i .i64 0)),(.p (.i .i64 0)),(.p (.i .i64 0)),(.p (.i .i64 0)),(.p (.s [])),.nil,.nil]),ia 5 (mI 0)] (.seq (HX [ia 7 (fA 1 2),ia 8 (lA 1 7),ia 9 (fA 1 3),ia 10 (lA 1 9),
 ia 11 (bB .neq 8 10)] (HW 11 (HX [ia 12 (.build [(.p (.i .i64 0)),(.p (.b false)),(.p (.i .i64 0)),(.p (.i .i64 0)),(.p (.i .i64 0)),(.p (.i .i64 0)),(.p (.i .i64 0)),(.p (.s [])),.nil,.nil] []),io (sA 10 4 12),ia 5 (mI 140)] .ret) .skip)) (HX [ia 13 (fA 4 2),ia 14 (lA 1 13),ia 15 (.fn 140 [(.t 3)]),
 ia 16 (cC 139 14 15),ia 6 (mA 16)] (.seq (HX [ia 17 (mA 6),ia 18 (bC .lss 17 0)] (HW 18 (HX [ia 19 (.call (.f 65) [(ci 5)]),ia 20 (eA 19 0),ia 21 (eA 19 1),io (sA 10 4 20),ia 5 (mA 21)] .ret) .skip)) (HX [ia 22 (mA 6),ia 23 (.build [(.p (.i .i64 0)),(.p (.b false)),(.p (.i .i64 0)),(.p (.i .i64 0)),(.p (.i .i64 0)),(.p (.i .i64 0)),(.p (.i .i64 0)),(.p (.s [])),.nil,.nil] [(0,(1,(ci 2))),(3,(1,(.t 22)))]),
 io (sA 10 4 23),ia 5 (mI 0)] .ret))))),[(.cell 4 10 true),(.tmp 5)]⟩
theorem cc102:CK Tryz.f102=some (lH F102):=by kernel_rfl
def F103:FnC:=⟨2,(HX [ia 2 (bA 6 0),ia 3 (bA 6 1),ia 4 (.new [(.p (.i .i64 0)),(.p (.b false)),(.p (.i .i64 0)),(.p (.i .i64 0)),(.p (.i .i64 0)),(.p (.i .i64 0)),(.p (.i .i64 0)),(.p (.s [])),.nil,.nil]),ia 5 (mI 0)] (HX [ia 7 (.build [(.p (.i .i64 0)),(.p (.i .i64 0)),(.p (.i .i64 0)),(.p (.s [])),.nil,.nil] [(0,(1,(ci 10)))]),
 ia 6 (.new [(.p (.i .i64 0)),(.p (.i .i64 0)),(.p (.i .i64 0)),(.p (.s [])),.nil,.nil]),io (sA 6 6 7)] (.seq (HX [ia 8 (fA 3 2),ia 9 (lA 1 8)] (.block 0 (HX [ia 11 (.bin .eql (.t 9) (.c (.a (.p (.s [43]))))),ia 10 (mA 11)] (HW 10 (.reg [ia 12 (fA 2 2),ia 13 (lA 1 12),ia 14 (fA 2 3),ia 15 (lA 1 14),
 ia 16 (bB .add 13 15),ia 17 (fA 2 6),io (sA 1 17 16)]) (HX [ia 19 (.bin .eql (.t 9) (.c (.a (.p (.s [45]))))),ia 18 (mA 19)] (HW 18 (.reg [ia 20 (fA 2 2),ia 21 (lA 1 20),ia 22 (fA 2 3),ia 23 (lA 1 22),ia 24 (bB .sub 21 23),ia 25 (fA 2 6),io (sA 1 25 24)]) (HX [ia 27 (.bin .eql (.t 9) (.c (.a (.p (.s [42]))))),
 ia 26 (mA 27)] (HW 26 (.reg [ia 28 (fA 2 2),ia 29 (lA 1 28),ia 30 (fA 2 3),ia 31 (lA 1 30),ia 32 (bB .mul 29 31),ia 33 (fA 2 6),io (sA 1 33 32)]) (HX [ia 35 (.bin .eql (.t 9) (.c (.a (.p (.s [47]))))),ia 34 (mA 35)] (HW 34 (.seq (HX [ia 36 (fA 2 3),ia 37 (lA 1 36),ia 38 (bC .eql 37 0)] (HW 38 (HX [
 ia 39 (.call (.f 65) [(ci 5)]),ia 40 (eA 39 0),ia 41 (eA 39 1),io (sA 10 4 40),ia 5 (mA 41)] .ret) .skip)) (.reg [ia 42 (fA 2 2),ia 43 (lA 1 42),ia 44 (fA 2 3),ia 45 (lA 1 44),ia 46 (bB .quo 43 45),ia 47 (fA 2 6),io (sA 1 47 46)])) (HX [ia 49 (.bin .eql (.t 9) (.c (.a (.p (.s [60]))))),ia 48 (mA 49)] (HW 48 (.reg [
 ia 50 (fA 2 2),ia 51 (lA 1 50),ia 52 (fA 2 3),ia 53 (lA 1 52),ia 54 (bB .lss 51 53),ia 55 (cB 141 54),io (sA 6 6 55)]) (HX [ia 57 (.bin .eql (.t 9) (.c (.a (.p (.s [61,61]))))),ia 56 (mA 57)] (HW 56 (.reg [ia 58 (fA 2 2),ia 59 (lA 1 58),ia 60 (fA 2 3),ia 61 (lA 1 60),ia 62 (bB .eql 59 61),ia 63 (cB 141 62),
 io (sA 6 6 63)]) .skip)))))))))))))) (HX [ia 64 (fA 1 2),ia 65 (lA 1 64),ia 66 (fA 1 6),io (sA 1 66 65)] (HX [ia 67 (lB 6 6),ia 68 (.build [(.p (.i .i64 0)),(.p (.b false)),(.p (.i .i64 0)),(.p (.i .i64 0)),(.p (.i .i64 0)),(.p (.i .i64 0)),(.p (.i .i64 0)),(.p (.s [])),.nil,.nil] [(0,(1,(ci 4))),(4,(6,(.t 67)))]),
 io (sA 10 4 68),ia 5 (mI 0)] .ret))))),[(.cell 4 10 true),(.tmp 5)]⟩
theorem cc103:CK Tryz.f103=some (lH F103):=by kernel_rfl
def F104:FnC:=⟨3,(HX [ia 4 (bA 2 1),ia 5 (bA 2 2)] (.reg [ir 7 (mA 0),ir 8 (mA 0),ir 9 (HY 8),ir 10 (fA 0 9),ir 11 (lB 2 10),ir 12 (lB 2 4),ir 13 (lB 2 5),ir 14 (cD 142 11 12 13),ir 6 (mA 14),ir 15 (eA 6 0),ir 16 (eA 6 1),ir 17 (HY 7),ir 18 (fA 0 17),⟨.none,.none,(sA 2 18 15),(.wr [])⟩])),[]⟩
theorem cc104:CK Tryz.f104=some (lH F104):=by kernel_rfl
def F105:FnC:=⟨2,(HX [ia 4 (.new [(.p (.i .i64 0)),(.p (.i .i64 0)),(.p (.i .i64 0)),(.p (.s [])),.nil,.nil])] (HX [ia 5 (mA 0),ia 6 (HY 5),ia 7 (fA 0 6),ia 8 (fA 0 7),ia 9 (lA 1 8),ia 10 (mA 1),ia 11 (aA 6 9 10),ia 12 (lB 6 11),io (sA 6 4 12)] .ret)),[(.cell 4 6 true)]⟩
theorem cc105:CK Tryz.f105=some (lH F105):=by kernel_rfl
def F106b0:C:=(HX [ia 10 (bB .lss 9 8)] (.seq (HW 10 .skip (.exit 0)) (.seq (.block 1 (.reg [ia 11 (mA 7),ia 12 (mA 0),ia 13 (lB 6 4),ia 14 (cC 75 12 13),ia 15 (.bsl 1 3 [(.p (.i .i64 0))] 1 [(0,(.t 14))]),ia 16 (.app 1 3 8 (.t 11) (.t 15)),ia 7 (mA 16)])) (.reg [ia 17 (bC .add 9 1),ia 9 (mA 17)]))))
def F106:FnC:=⟨3,(HX [ia 4 (bA 6 1),ia 6 (.mv (.c (.a .nil)))] (HX [ia 7 (.mv (.c (.a .nil)))] (.seq (HX [ia 8 (mA 2),ia 9 (mI 0)] (.block 0 (.loop F106b0))) (HX [ia 18 (mA 7),ia 6 (mA 18)] .ret)))),[(.tmp 6)]⟩
theorem cc106:CK Tryz.f106=some (lH F106):=by kernel_rfl
def F107:FnC:=⟨1,(HX [ia 2 (mI 0)] (HX [ia 3 (mA 0),ia 4 (mA 0),ia 5 (HY 4),ia 6 (fA 12 5),ia 7 (lA 1 6),ia 8 (cC 105 3 7),ia 9 (.fld 1 1 false (.t 8)),ia 2 (mA 9)] .ret)),[(.tmp 2)]⟩
theorem cc107:CK Tryz.f107=some (lH F107):=by kernel_rfl
def F108:FnC:=⟨3,(HX [ia 4 (bA 2 1),ia 5 (bA 2 2)] (.reg [ir 7 (mA 0),ir 8 (mA 0),ir 9 (HY 8),ir 10 (fA 0 9),ir 11 (lB 2 10),ir 12 (lB 2 4),ir 13 (lB 2 5),ir 14 (cD 143 11 12 13),ir 6 (mA 14),ir 15 (eA 6 0),ir 16 (eA 6 1),ir 17 (HY 7),ir 18 (fA 0 17),⟨.none,.none,(sA 2 18 15),(.wr [])⟩])),[]⟩
theorem cc108:CK Tryz.f108=some (lH F108):=by kernel_rfl
def F109:FnC:=⟨3,(HX [ia 3 (bA 2 0),ia 4 (bA 2 1),ia 5 (bA 2 2),ia 6 (.new [.nil,(.p (.i .i64 0))]),ia 7 (mI 0)] (HX [ia 9 (lB 2 3),ia 10 (.build [.nil,(.p (.i .i64 0))] [(0,(2,(.t 9)))]),ia 8 (.new [.nil,(.p (.i .i64 0))]),io (sA 2 8 10)] (.seq (.block 0 (HX [ir 12 (lB 2 8),ir 13 (lB 2 4),
 ir 14 (lB 2 5),⟨(.some 15),.none,(.bsl 2 42 [(.p (.i .i64 0)),(.p (.i .i64 0))] 2 [(0,(.t 13)),(1,(.t 14))]),.ad⟩,ia 16 (cC 100 12 15),ia 17 (oA 16),ia 18 (mA 17),ih 19 18 false (lB 2 4),ih 20 18 false (lB 2 5),ig 21 18 false (.eqg false [0,0] (.t 19) (.t 20)),ia 22 (pA 18 21),ia 23 (mA 22),
 ih 24 23 false (lB 2 8),ih 25 23 false (lB 2 8),ih 26 23 false (lB 2 4),ih 27 23 false (cC 101 25 26),⟨(.some 28),(.some (23,false)),(.bsl 2 42 [(.p (.i .i64 0)),(.p (.i .i64 0))] 1 [(0,(.t 27))]),.ad⟩,ig 29 23 false (cC 100 24 28),ig 30 23 false (oA 29),ia 31 (pA 23 30),ia 11 (mA 31)] (HW 11 (HX [
 ia 32 (lB 2 3),io (sA 2 6 32),ia 7 (mI 130)] .ret) (HX [ir 34 (lB 2 8),ir 35 (lB 2 4),ir 36 (cC 101 34 35),ir 37 (lB 2 5),ia 38 (.eqg false [0,0] (.t 36) (.t 37)),ia 33 (mA 38)] (HW 33 (HX [ia 39 (lB 2 3),io (sA 2 6 39),ia 7 (mI 0)] .ret) .skip))))) (HX [ir 40 (lB 2 8),ir 41 (lB 2 5),ir 42 (lB 2 8),
 ir 43 (lB 2 4),ir 44 (cC 101 42 43),ia 45 (cD 144 40 41 44),ir 46 (eA 45 0),ir 47 (eA 45 1),io (sA 2 6 46),ia 7 (mA 47)] .ret)))),[(.cell 6 2 true),(.tmp 7)]⟩
theorem cc109:CK Tryz.f109=some (lH F109):=by kernel_rfl
def F110:FnC:=⟨2,(HX [ia 2 (bA 2 0),ia 3 (bA 6 1),ia 4 (.new [.nil,(.p (.i .i64 0))]),ia 5 (mI 0),ia 6 (mI 0)] (.seq (.block 0 (HX [ia 9 (fA 0 3),ia 10 (lA 1 9),ia 11 (bC .eql 10 0),ia 12 (mA 11),ig 13 12 false (fA 0 3),ig 14 12 false (lA 1 13),ig 15 12 false (bC .eql 14 1),ia 16 (pA 12 15),ia 17 (mA 16),
 ig 18 17 false (lB 6 3),ig 19 17 false (cB 57 18),ig 20 17 false (oA 19),ia 21 (pA 17 20),ia 8 (mA 21)] (HW 8 (HX [ia 22 (lB 2 2),io (sA 2 4 22),ia 5 (mI 0),ia 6 (mI 122)] .ret) (HX [ir 24 (lB 2 2),ir 25 (cB 40 24),ir 26 (fA 1 2),ir 27 (lA 1 26),ia 28 (bB .geq 25 27),ia 23 (mA 28)] (HW 23 (HX [ia 29 (lB 2 2),
 io (sA 2 4 29),ia 5 (mI 0),ia 6 (mI 121)] .ret) .skip))))) (HX [ia 30 (lB 2 2),ia 31 (cB 97 30),io (sA 2 2 31)] (HX [ir 32 (lB 6 3),ir 33 (cB 58 32),⟨(.some 34),.none,(.mslF 2 42 16 [(.p (.i .i64 0)),(.p (.i .i64 0))] (.t 33) (.t 33)),.ad⟩,ir 35 (fA 4 3),ir 36 (lA 1 35),ir 37 (cB 145 36),ir 38 (fA 5 3),
 io (sA 1 38 34),ia 39 (fA 4 3),io (sA 1 39 37)] (HX [ia 40 (fA 0 2),ia 41 (lA 1 40),ia 42 (.call (.f 146) [(.t 41),(.f 69)]),ia 7 (mA 42)] (.seq (HX [ia 43 (mA 7),ia 44 (bC .lss 43 0)] (HW 44 (HX [ia 45 (fA 0 2),ia 46 (lA 1 45),ia 47 (nA 46),ia 7 (mA 47)] (.reg [ia 48 (fA 0 2),ia 49 (lA 1 48),ia 50 (lB 6 3),
 ia 51 (.bsl 6 46 [(.p (.i .i64 0)),(.p (.i .i64 0)),(.p (.i .i64 0)),(.p (.s [])),.nil,.nil] 1 [(0,(.t 50))]),ia 52 (.app 6 46 88 (.t 49) (.t 51)),ia 53 (fA 0 2),io (sA 1 53 52)])) .skip)) (HX [ia 54 (fA 0 2),ia 55 (lA 1 54),ia 56 (mA 7),ia 57 (lB 6 3),ia 58 (aA 6 55 56),io (sA 6 58 57)] (HX [
 ia 59 (lB 2 2),ia 60 (mA 7),io (sA 2 4 59),ia 5 (mA 60),ia 6 (mI 0)] .ret)))))))),[(.cell 4 2 true),(.tmp 5),(.tmp 6)]⟩
theorem cc110:CK Tryz.f110=some (lH F110):=by kernel_rfl
def F111b0:C:=(HX [ia 8 (bB .lss 7 6)] (.seq (HW 8 .skip (.exit 0)) (.seq (.block 1 (HX [ia 9 (mA 7),ia 10 (aA 2 5 7),ia 11 (lB 2 10),ia 4 (.new [(.p (.i .i64 0)),(.p (.i .i64 0))]),ia 3 (mA 9),io (sA 2 4 11)] (.reg [ir 12 (lA 1 1),ir 13 (lB 2 4),ir 14 (lA 1 2),ir 15 (mA 3),ir 16 (aA 1 14 15),ir 17 (lA 1 16),
 ir 18 (.call (.f 61) [(.t 17),(ci 0)]),ia 19 (cD 74 12 13 18)]))) (.reg [ia 20 (bC .add 7 1),ia 7 (mA 20)]))))
def F111:FnC:=⟨3,(HX [ia 5 (lA 1 0),ia 6 (nA 5),ia 7 (mI 0)] (.block 0 (.loop F111b0))),[]⟩
theorem cc111:CK Tryz.f111=some (lH F111):=by kernel_rfl
def F112:FnC:=⟨1,(HX [ia 2 (mI 0)] (.seq (HX [ia 3 (mA 0),ia 4 (.bin .geq (.t 3) (.c (.a (.p (.i .u8 97))))),ia 5 (mA 4),ig 6 5 true (mA 0),ig 7 5 true (.bin .leq (.t 6) (.c (.a (.p (.i .u8 122))))),ia 8 (pB 5 7)] (HW 8 (HX [ia 2 (mI 1)] .ret) .skip)) (.seq (HX [ia 9 (mA 0),ia 10 (.bin .geq (.t 9) (.c (.a (.p (.i .u8 65))))),
 ia 11 (mA 10),ig 12 11 true (mA 0),ig 13 11 true (.bin .leq (.t 12) (.c (.a (.p (.i .u8 90))))),ia 14 (pB 11 13)] (HW 14 (HX [ia 2 (mI 2)] .ret) .skip)) (.seq (HX [ia 15 (mA 0),ia 16 (.bin .geq (.t 15) (.c (.a (.p (.i .u8 48))))),ia 17 (mA 16),ig 18 17 true (mA 0),ig 19 17 true (.bin .leq (.t 18) (.c (.a (.p (.i .u8 57))))),
 ia 20 (pB 17 19)] (HW 20 (HX [ia 2 (mI 3)] .ret) .skip)) (.seq (HX [ia 21 (mA 0),ia 22 (.bin .eql (.t 21) (.c (.a (.p (.i .u8 32))))),ia 23 (mA 22),ig 24 23 false (mA 0),ig 25 23 false (.bin .eql (.t 24) (.c (.a (.p (.i .u8 10))))),ia 26 (pA 23 25),ia 27 (mA 26),ig 28 27 false (mA 0),ig 29 27 false (.bin .eql (.t 28) (.c (.a (.p (.i .u8 9))))),
 ia 30 (pA 27 29)] (HW 30 (HX [ia 2 (mI 4)] .ret) .skip)) (HX [ia 2 (mI 0)] .ret)))))),[(.tmp 2)]⟩
theorem cc112:CK Tryz.f112=some (lH F112):=by kernel_rfl
def F113:FnC:=⟨2,(HX [ia 4 (.new [(.p (.i .i64 0)),(.p (.s [])),(.p (.i .i64 0)),(.p (.i .i64 0))]),ia 5 (mI 0)] (HX [ia 12 (mA 0),ia 13 (mA 1),ia 14 (cC 147 12 13),ia 11 (mA 14),ia 15 (eA 11 0),ia 16 (eA 11 1),ia 6 (mA 15),ia 7 (mA 16)] (.seq (HX [ia 17 (mA 6),ia 18 (bC .eql 17 0)] (HW 18 (HX [
 ia 19 (mA 0),ia 20 (mA 1),ia 21 (cC 148 19 20),ia 8 (mA 21)] (.seq (HX [ia 22 (mA 8),ia 23 (bC .eql 22 0)] (HW 23 (HX [ia 24 (.build [(.p (.i .i64 0)),(.p (.s [])),(.p (.i .i64 0)),(.p (.i .i64 0))] []),io (sA 4 4 24),ia 5 (mI 10)] .ret) .skip)) (HX [ia 25 (mA 0),ia 26 (mA 1),ia 27 (mA 1),ia 28 (mA 8),
 ia 29 (bB .add 27 28),ia 30 (.sub (.t 25) (.some (.t 26)) (.some (.t 29))),ia 31 (mA 1),ia 32 (.build [(.p (.i .i64 0)),(.p (.s [])),(.p (.i .i64 0)),(.p (.i .i64 0))] [(0,(1,(ci 5))),(1,(1,(.t 30))),(3,(1,(.t 31)))]),io (sA 4 4 32),ia 5 (mI 0)] .ret))) .skip)) (HX [ia 33 (mA 0),ia 34 (mA 1),
 ia 35 (mA 1),ia 36 (mA 6),ia 37 (bB .add 35 36),ia 38 (.sub (.t 33) (.some (.t 34)) (.some (.t 37))),ia 39 (mA 1),ia 40 (.build [(.p (.i .i64 0)),(.p (.s [])),(.p (.i .i64 0)),(.p (.i .i64 0))] [(1,(1,(.t 38))),(3,(1,(.t 39)))]),ia 9 (.new [(.p (.i .i64 0)),(.p (.s [])),(.p (.i .i64 0)),(.p (.i .i64 0))]),
 io (sA 4 9 40)] (HX [ia 41 (mA 0),ia 42 (mA 1),ia 43 (.ixs (.t 41) (.t 42)),ia 44 (cB 112 43),ia 10 (mA 44)] (.seq (HX [ia 45 (mA 10),ia 46 (bC .eql 45 3)] (HW 46 (.seq (HX [ia 47 (mA 7)] (HW 47 (HX [ia 48 (.build [(.p (.i .i64 0)),(.p (.s [])),(.p (.i .i64 0)),(.p (.i .i64 0))] []),io (sA 4 4 48),
 ia 5 (mI 10)] .ret) .skip)) (.seq (HX [ia 49 (mA 6),ia 50 (bC .gtr 49 18),ia 51 (mA 50),ig 52 51 false (mA 6),ig 53 51 false (bC .gtr 52 1),ig 54 51 false (mA 53),ig 55 54 true (mA 0),ig 56 54 true (mA 1),ig 57 54 true (.ixs (.t 55) (.t 56)),ig 58 54 true (.bin .eql (.t 57) (.c (.a (.p (.i .u8 48))))),
 ig 59 51 false (pB 54 58),ia 60 (pA 51 59)] (HW 60 (HX [ia 61 (.build [(.p (.i .i64 0)),(.p (.s [])),(.p (.i .i64 0)),(.p (.i .i64 0))] []),io (sA 4 4 61),ia 5 (mI 11)] .ret) .skip)) (HX [ia 62 (fA 0 9),io (.st 1 (.t 62) (ci 3))] (HX [ia 63 (fA 1 9),ia 64 (lA 1 63),ia 65 (cB 149 64),ia 66 (fA 2 9),
 io (sA 1 66 65)] (HX [ia 67 (lB 4 9),io (sA 4 4 67),ia 5 (mI 0)] .ret))))) .skip)) (.seq (HX [ia 68 (mA 6),ia 69 (bC .gtr 68 16)] (HW 69 (HX [ia 70 (.build [(.p (.i .i64 0)),(.p (.s [])),(.p (.i .i64 0)),(.p (.i .i64 0))] []),io (sA 4 4 70),ia 5 (mI 11)] .ret) .skip)) (HX [ia 71 (mA 10),ia 72 (fA 0 9),
 io (sA 1 72 71)] (.seq (HX [ia 73 (fA 1 9),ia 74 (lA 1 73),ia 75 (cB 150 74)] (HW 75 (.reg [ia 76 (fA 0 9),io (.st 1 (.t 76) (ci 4))]) .skip)) (HX [ia 77 (lB 4 9),io (sA 4 4 77),ia 5 (mI 0)] .ret)))))))))),[(.cell 4 4 true),(.tmp 5)]⟩
theorem cc113:CK Tryz.f113=some (lH F113):=by kernel_rfl
def F114:FnC:=⟨2,(HX [ia 4 (.mv (.c (.a (.p (.s [])))))] (.seq (HX [ia 5 (mA 1),ia 6 (mA 0),ia 7 (nA 6),ia 8 (bB .lss 5 7),ia 9 (mA 8),ig 10 9 true (mA 0),ig 11 9 true (mA 1),ig 12 9 true (aA 4 10 11),ig 13 9 true (fA 0 12),ig 14 9 true (lA 1 13),ig 15 9 true (bC .geq 14 4),ia 16 (pB 9 15)] (HW 16 (HX [
 ia 17 (mA 0),ia 18 (mA 1),ia 19 (aA 4 17 18),ia 20 (fA 1 19),ia 21 (lA 1 20),ia 4 (mA 21)] .ret) .skip)) (HX [ia 4 (.mv (.c (.a (.p (.s [])))))] .ret))),[(.tmp 4)]⟩
theorem cc114:CK Tryz.f114=some (lH F114):=by kernel_rfl
def F115:FnC:=⟨2,(HX [ia 4 (.new [(.p (.i .i64 0)),(.p (.s [])),(.p (.i .i64 0)),(.p (.i .i64 0)),.nil,(.p (.i .i64 0)),(.p (.b false))])] (.seq (HX [ia 6 (mA 0),ia 7 (mA 1),ia 8 (bC .add 7 1),ia 9 (cC 151 6 8),ia 10 (bC .neq 9 1)] (HW 10 (HX [ia 11 (mA 1),ia 12 (bC .add 11 1),ia 13 (cB 152 12),
 io (sA 7 4 13)] .ret) .skip)) (.seq (HX [ia 14 (mA 0),ia 15 (mA 1),ia 16 (bC .add 15 2),ia 17 (cC 114 14 16),ia 18 (.bin .neq (.t 17) (.c (.a (.p (.s [46])))))] (HW 18 (HX [ia 19 (mA 1),ia 20 (bC .add 19 2),ia 21 (cB 152 20),io (sA 7 4 21)] .ret) .skip)) (HX [ia 22 (mA 0),ia 23 (mA 1),ia 24 (bC .add 23 3),
 ia 25 (cC 82 22 24),ia 5 (.new [(.p (.i .i64 0)),(.p (.s [])),(.p (.i .i64 0)),(.p (.i .i64 0)),.nil,(.p (.i .i64 0)),(.p (.b false))]),io (sA 7 5 25)] (.seq (HX [ia 26 (fA 6 5),ia 27 (lA 1 26),ia 28 (oA 27)] (HW 28 (HX [ia 29 (lB 7 5),io (sA 7 4 29)] .ret) .skip)) (HX [ir 30 (mA 0),ir 31 (mA 1),
 ir 32 (bC .add 31 1),ir 33 (aA 4 30 32),ir 34 (fA 1 33),ir 35 (lA 1 34),ir 36 (mA 0),ir 37 (mA 1),ir 38 (aA 4 36 37),ir 39 (fA 3 38),ir 40 (lA 1 39),ir 41 (fA 0 5),ir 42 (lB 5 41),⟨(.some 43),.none,(.bsl 5 96 [(.p (.i .i64 0)),(.p (.s [])),(.p (.i .i64 0)),(.p (.i .i64 0)),.nil] 1 [(0,(.t 42))]),.ad⟩,
 ir 44 (.build [(.p (.i .i64 0)),(.p (.s [])),(.p (.i .i64 0)),(.p (.i .i64 0)),.nil] [(0,(1,(ci 2))),(1,(1,(.t 35))),(3,(1,(.t 40))),(4,(1,(.t 43)))]),ir 45 (fA 5 5),ir 46 (lA 1 45),ia 47 (cC 153 44 46),io (sA 7 4 47)] .ret)))))),[(.cell 4 7 true)]⟩
theorem cc115:CK Tryz.f115=some (lH F115):=by kernel_rfl
def F116:FnC:=⟨2,(HX [ia 4 (.new [(.p (.i .i64 0)),(.p (.s [])),(.p (.i .i64 0)),(.p (.i .i64 0)),.nil,(.p (.i .i64 0)),(.p (.b false))])] (.seq (HX [ia 8 (mA 0),ia 9 (mA 1),ia 10 (bC .add 9 1),ia 11 (cC 151 8 10),ia 12 (bC .neq 11 1)] (HW 12 (HX [ia 13 (mA 1),ia 14 (bC .add 13 1),ia 15 (cB 152 14),
 io (sA 7 4 15)] .ret) .skip)) (.seq (HX [ia 16 (mA 0),ia 17 (mA 1),ia 18 (bC .add 17 2),ia 19 (cC 114 16 18),ia 20 (.bin .neq (.t 19) (.c (.a (.p (.s [61])))))] (HW 20 (HX [ia 21 (mA 1),ia 22 (bC .add 21 2),ia 23 (cB 152 22),io (sA 7 4 23)] .ret) .skip)) (HX [ia 24 (mA 0),ia 25 (mA 1),ia 26 (bC .add 25 3),
 ia 27 (cC 82 24 26),ia 5 (.new [(.p (.i .i64 0)),(.p (.s [])),(.p (.i .i64 0)),(.p (.i .i64 0)),.nil,(.p (.i .i64 0)),(.p (.b false))]),io (sA 7 5 27)] (.seq (HX [ia 28 (fA 6 5),ia 29 (lA 1 28),ia 30 (oA 29)] (HW 30 (HX [ia 31 (lB 7 5),io (sA 7 4 31)] .ret) .skip)) (.seq (HX [ia 32 (mA 0),ia 33 (fA 5 5),
 ia 34 (lA 1 33),ia 35 (cC 114 32 34),ia 36 (.bin .neq (.t 35) (.c (.a (.p (.s [105,110])))))] (HW 36 (HX [ia 37 (fA 5 5),ia 38 (lA 1 37),ia 39 (cB 152 38),io (sA 7 4 39)] .ret) .skip)) (HX [ia 40 (mA 0),ia 41 (fA 5 5),ia 42 (lA 1 41),ia 43 (bC .add 42 1),ia 44 (cC 82 40 43),ia 6 (.new [(.p (.i .i64 0)),(.p (.s [])),(.p (.i .i64 0)),(.p (.i .i64 0)),.nil,(.p (.i .i64 0)),(.p (.b false))]),
 io (sA 7 6 44)] (.seq (HX [ia 45 (fA 6 6),ia 46 (lA 1 45),ia 47 (oA 46)] (HW 47 (HX [ia 48 (lB 7 6),io (sA 7 4 48)] .ret) .skip)) (HX [ir 49 (mA 0),ir 50 (mA 1),ir 51 (bC .add 50 1),ir 52 (aA 4 49 51),ir 53 (fA 1 52),ir 54 (lA 1 53),ir 55 (mA 0),ir 56 (mA 1),ir 57 (aA 4 55 56),ir 58 (fA 3 57),ir 59 (lA 1 58),
 ir 60 (fA 0 5),ir 61 (lB 5 60),ir 62 (fA 0 6),ir 63 (lB 5 62),⟨(.some 7),.none,(.new [(.p (.i .i64 0)),(.p (.s [])),(.p (.i .i64 0)),(.p (.i .i64 0)),.nil]),.ad⟩,⟨(.some 64),.none,(.bsl 5 96 [(.p (.i .i64 0)),(.p (.s [])),(.p (.i .i64 0)),(.p (.i .i64 0)),.nil] 2 [(0,(.t 61)),(1,(.t 63))]),(.cl [(0,49),(1,53),(0,55),(1,58)] [7])⟩,
 ir 65 (.build [(.p (.i .i64 0)),(.p (.s [])),(.p (.i .i64 0)),(.p (.i .i64 0)),.nil] [(0,(1,(ci 4))),(1,(1,(.t 54))),(3,(1,(.t 59))),(4,(1,(.t 64)))]),io (sA 5 7 65)] (.seq (HX [ia 66 (mA 0),ia 67 (mA 1),ia 68 (aA 4 66 67),ia 69 (fA 1 68),ia 70 (lA 1 69),ia 71 (.bin .eql (.t 70) (.c (.a (.p (.s [108,101,116,114,101,99])))))] (HW 71 (.reg [
 ia 72 (fA 0 7),io (.st 1 (.t 72) (ci 5))]) .skip)) (HX [ia 73 (lB 5 7),ia 74 (fA 5 6),ia 75 (lA 1 74),ia 76 (cC 153 73 75),io (sA 7 4 76)] .ret))))))))))),[(.cell 4 7 true)]⟩
theorem cc116:CK Tryz.f116=some (lH F116):=by kernel_rfl
def F117b0:C:=(.block 1 (HX [ia 47 (mA 0),ia 48 (mA 7),ia 49 (cC 154 47 48),ia 8 (.new [(.p (.i .i64 0)),(.p (.s [])),(.p (.i .i64 0)),(.p (.i .i64 0)),.nil,(.p (.i .i64 0)),(.p (.b false))]),io (sA 7 8 49)] (.seq (HX [ia 50 (fA 6 8),ia 51 (lA 1 50),ia 52 (oA 51)] (HW 52 (HX [ia 53 (lB 7 8),
 io (sA 7 4 53)] .ret) .skip)) (HX [ia 54 (fA 4 6),ia 55 (lA 1 54),ia 56 (fA 0 8),ia 57 (lB 5 56),ia 58 (.bsl 5 96 [(.p (.i .i64 0)),(.p (.s [])),(.p (.i .i64 0)),(.p (.i .i64 0)),.nil] 1 [(0,(.t 57))]),ia 59 (.app 5 96 64 (.t 55) (.t 58)),ia 60 (fA 4 6),io (sA 1 60 59)] (HX [ia 61 (fA 5 8),ia 62 (lA 1 61),
 ia 7 (mA 62)] (.seq (HX [ia 63 (mA 0),ia 64 (mA 7),ia 65 (cC 114 63 64),ia 66 (.bin .eql (.t 65) (.c (.a (.p (.s [125])))))] (HW 66 (HX [ia 67 (lB 5 6),ia 68 (mA 7),ia 69 (bC .add 68 1),ia 70 (cC 153 67 69),io (sA 7 4 70)] .ret) .skip)) (.seq (HX [ia 71 (mA 0),ia 72 (mA 7),ia 73 (cC 114 71 72),ia 74 (.bin .neq (.t 73) (.c (.a (.p (.s [124]))))),
 ia 75 (mA 74),ig 76 75 false (fA 4 6),ig 77 75 false (lA 1 76),ig 78 75 false (nA 77),ig 79 75 false (bC .eql 78 9),ia 80 (pA 75 79)] (HW 80 (HX [ia 81 (mA 7),ia 82 (cB 152 81),io (sA 7 4 82)] .ret) .skip)) (.reg [ia 83 (mA 7),ia 84 (bC .add 83 1),ia 7 (mA 84)]))))))))
def F117:FnC:=⟨2,(HX [ia 4 (.new [(.p (.i .i64 0)),(.p (.s [])),(.p (.i .i64 0)),(.p (.i .i64 0)),.nil,(.p (.i .i64 0)),(.p (.b false))])] (HX [ia 9 (mA 0),ia 10 (mA 1),ia 11 (bC .add 10 1),ia 12 (cC 82 9 11),ia 5 (.new [(.p (.i .i64 0)),(.p (.s [])),(.p (.i .i64 0)),(.p (.i .i64 0)),.nil,(.p (.i .i64 0)),(.p (.b false))]),
 io (sA 7 5 12)] (.seq (HX [ia 13 (fA 6 5),ia 14 (lA 1 13),ia 15 (oA 14)] (HW 15 (HX [ia 16 (lB 7 5),io (sA 7 4 16)] .ret) .skip)) (.seq (HX [ia 17 (mA 0),ia 18 (fA 5 5),ia 19 (lA 1 18),ia 20 (cC 114 17 19),ia 21 (.bin .neq (.t 20) (.c (.a (.p (.s [111,102])))))] (HW 21 (HX [ia 22 (fA 5 5),ia 23 (lA 1 22),
 ia 24 (cB 152 23),io (sA 7 4 24)] .ret) .skip)) (.seq (HX [ia 25 (mA 0),ia 26 (fA 5 5),ia 27 (lA 1 26),ia 28 (bC .add 27 1),ia 29 (cC 114 25 28),ia 30 (.bin .neq (.t 29) (.c (.a (.p (.s [123])))))] (HW 30 (HX [ia 31 (fA 5 5),ia 32 (lA 1 31),ia 33 (bC .add 32 1),ia 34 (cB 152 33),io (sA 7 4 34)] .ret) .skip)) (HX [
 ir 35 (mA 0),ir 36 (mA 1),ir 37 (aA 4 35 36),ir 38 (fA 3 37),ir 39 (lA 1 38),ir 40 (fA 0 5),ir 41 (lB 5 40),⟨(.some 6),.none,(.new [(.p (.i .i64 0)),(.p (.s [])),(.p (.i .i64 0)),(.p (.i .i64 0)),.nil]),.ad⟩,⟨(.some 42),.none,(.bsl 5 96 [(.p (.i .i64 0)),(.p (.s [])),(.p (.i .i64 0)),(.p (.i .i64 0)),.nil] 1 [(0,(.t 41))]),(.cl [(0,35),(1,38)] [6])⟩,
 ir 43 (.build [(.p (.i .i64 0)),(.p (.s [])),(.p (.i .i64 0)),(.p (.i .i64 0)),.nil] [(0,(1,(ci 7))),(3,(1,(.t 39))),(4,(1,(.t 42)))]),io (sA 5 6 43)] (HX [ia 44 (fA 5 5),ia 45 (lA 1 44),ia 46 (bC .add 45 2),ia 7 (mA 46)] (.block 0 (.loop F117b0))))))))),[(.cell 4 7 true)]⟩
theorem cc117:CK Tryz.f117=some (lH F117):=by kernel_rfl
def F118b0:C:=(.seq (HX [ia 20 (fA 6 7),ia 21 (lA 1 20),ia 22 (mA 21),ig 23 22 true (mA 0),ig 24 22 true (fA 5 7),ig 25 22 true (lA 1 24),ig 26 22 true (mA 2),ig 27 22 true (cD 156 23 25 26),ia 28 (pB 22 27),ia 29 (mA 28),ig 30 29 true (mA 2),ig 31 29 true (bC .gtr 30 0),ig 32 29 true (mA 31),ig 33 32 false (mA 8),
 ig 34 32 false (bC .lss 33 1),ig 35 29 true (pA 32 34),ia 36 (pB 29 35)] (HW 36 .skip (.exit 0))) (.seq (.block 1 (HX [ia 39 (mA 0),ia 40 (fA 5 7),ia 41 (lA 1 40),ia 42 (bC .add 41 1),ia 43 (mA 2),ia 44 (bC .add 43 1),ia 45 (cD 118 39 42 44),ia 9 (.new [(.p (.i .i64 0)),(.p (.s [])),(.p (.i .i64 0)),(.p (.i .i64 0)),.nil,(.p (.i .i64 0)),(.p (.b false))]),
 io (sA 7 9 45)] (.seq (HX [ia 46 (fA 6 9),ia 47 (lA 1 46),ia 48 (oA 47)] (HW 48 (HX [ia 49 (lB 7 9),io (sA 7 6 49)] .ret) .skip)) (.reg [ir 50 (mA 0),ir 51 (fA 5 7),ir 52 (lA 1 51),ir 53 (aA 4 50 52),ir 54 (fA 1 53),ir 55 (lA 1 54),ir 56 (fA 0 7),ir 57 (fA 3 56),ir 58 (lA 1 57),ir 59 (fA 0 7),ir 60 (lB 5 59),
 ir 61 (fA 0 9),ir 62 (lB 5 61),⟨(.some 63),.none,(.bsl 5 96 [(.p (.i .i64 0)),(.p (.s [])),(.p (.i .i64 0)),(.p (.i .i64 0)),.nil] 2 [(0,(.t 60)),(1,(.t 62))]),.ad⟩,ir 64 (.build [(.p (.i .i64 0)),(.p (.s [])),(.p (.i .i64 0)),(.p (.i .i64 0)),.nil] [(0,(1,(ci 10))),(1,(1,(.t 55))),(3,(1,(.t 58))),(4,(1,(.t 63)))]),
 ir 65 (fA 5 9),ir 66 (lA 1 65),ia 67 (cC 153 64 66),io (sA 7 7 67)])))) (.reg [ia 37 (mA 8),ia 38 (bC .add 37 1),ia 8 (mA 38)])))
def F118:FnC:=⟨3,(HX [ia 6 (.new [(.p (.i .i64 0)),(.p (.s [])),(.p (.i .i64 0)),(.p (.i .i64 0)),.nil,(.p (.i .i64 0)),(.p (.b false))])] (.seq (HX [ia 10 (mA 2),ia 11 (bC .eql 10 3)] (HW 11 (HX [ia 12 (mA 0),ia 13 (mA 1),ia 14 (cC 155 12 13),io (sA 7 6 14)] .ret) .skip)) (HX [ia 15 (mA 0),
 ia 16 (mA 1),ia 17 (mA 2),ia 18 (bC .add 17 1),ia 19 (cD 118 15 16 18),ia 7 (.new [(.p (.i .i64 0)),(.p (.s [])),(.p (.i .i64 0)),(.p (.i .i64 0)),.nil,(.p (.i .i64 0)),(.p (.b false))]),io (sA 7 7 19)] (.seq (HX [ia 8 (mI 0)] (.block 0 (.loop F118b0))) (HX [ia 68 (lB 7 7),io (sA 7 6 68)] .ret))))),[(.cell 6 7 true)]⟩
theorem cc118:CK Tryz.f118=some (lH F118):=by kernel_rfl
def F119:FnC:=⟨1,(HX [ia 1 (bA 5 0),ia 2 (.mv xF)] (HX [ia 3 (lB 5 1),ia 4 (.call (.f 157) [(.t 3),xF]),ia 2 (mA 4)] .ret)),[(.tmp 2)]⟩
theorem cc119:CK Tryz.f119=some (lH F119):=by kernel_rfl
def F120b0:C:=(.seq (HX [ia 58 (mA 11),ia 59 (fA 4 4),ia 60 (lA 1 59),ia 61 (nA 60),ia 62 (bB .lss 58 61)] (HW 62 .skip (.exit 0))) (.seq (.block 1 (HX [ir 66 (fA 4 4),ir 67 (lA 1 66),ir 68 (mA 11),ir 69 (aA 5 67 68),ir 70 (lB 5 69),ir 71 (lB 5 4),ir 72 (mA 11),ir 73 (mA 1),ir 74 (cD 163 71 72 73),
 ir 75 (mA 10),ir 76 (mA 3),ia 77 (cE 120 70 74 75 76),ia 65 (mA 77),ir 78 (eA 65 0),ir 79 (eA 65 1),ir 12 (mA 78),ia 13 (mA 79)] (.seq (HX [ia 80 (mA 13),ia 81 (bC .neq 80 0)] (HW 81 (HX [ia 82 (mA 12),ia 83 (mA 13),ia 8 (mA 82),ia 9 (mA 83)] .ret) .skip)) (HX [ia 84 (fA 0 4),ia 85 (lA 1 84),ia 86 (bC .eql 85 7),
 ia 87 (mA 86),ig 88 87 true (mA 11),ig 89 87 true (bC .gtr 88 0),ia 90 (pB 87 89)] (HW 90 (.reg [ia 91 (mA 10),ia 92 (fA 4 4),ia 93 (lA 1 92),ia 94 (mA 11),ia 95 (aA 5 93 94),ia 96 (fA 1 95),ia 97 (lA 1 96),ia 98 (.bsl 1 9 [(.p (.s []))] 1 [(0,(.t 97))]),ia 99 (.app 1 9 16 (.t 91) (.t 98)),ia 10 (mA 99)]) .skip))))) (.reg [
 ia 63 (mA 11),ia 64 (bC .add 63 1),ia 11 (mA 64)])))
def F120:FnC:=⟨4,(HX [ia 4 (bA 5 0),ia 8 (mI 0),ia 9 (mI 0)] (.seq (HX [ia 14 (fA 0 4),ia 15 (lA 1 14),ia 16 (bC .eql 15 1),ia 17 (mA 16),ig 18 17 true (mA 1),ig 19 17 true (fA 1 4),ig 20 17 true (lA 1 19),ig 21 17 true (cC 158 18 20),ig 22 17 true (oA 21),ia 23 (pB 17 22)] (HW 23 (HX [ia 24 (fA 3 4),
 ia 25 (lA 1 24),ia 8 (mA 25),ia 9 (mI 50)] .ret) .skip)) (.seq (HX [ia 26 (lB 5 4),ia 27 (cB 159 26),ia 28 (bC .geq 27 0),ia 29 (mA 28),ih 30 29 true (mA 3),ih 31 29 true (fA 1 4),ih 32 29 true (lA 1 31),ih 33 29 true (cC 160 30 32),ih 34 29 true (lB 5 4),ig 35 29 true (cB 159 34),ig 36 29 true (bB .neq 33 35),
 ia 37 (pB 29 36)] (HW 37 (HX [ia 38 (fA 3 4),ia 39 (lA 1 38),ia 8 (mA 39),ia 9 (mI 51)] .ret) .skip)) (.seq (HX [ia 40 (fA 0 4),ia 41 (lA 1 40),ia 42 (bC .eql 41 8),ia 43 (mA 42),ig 44 43 true (lB 5 4),ig 45 43 true (cB 161 44),ig 46 43 true (mA 45),ig 47 46 false (mA 2),ig 48 46 false (fA 1 4),ig 49 46 false (lA 1 48),
 ig 50 46 false (cC 158 47 49),ig 51 43 true (pA 46 50),ia 52 (pB 43 51)] (HW 52 (HX [ia 53 (fA 3 4),ia 54 (lA 1 53),ia 8 (mA 54),ia 9 (mI 52)] .ret) .skip)) (HX [ia 55 (.bsl 1 9 [(.p (.s []))] 0 []),ia 10 (mA 55)] (.seq (HX [ia 56 (lB 5 4),ia 57 (cB 162 56),ia 11 (mA 57)] (.block 0 (.loop F120b0))) (HX [
 ia 8 (mI 0),ia 9 (mI 0)] .ret))))))),[(.tmp 8),(.tmp 9)]⟩
theorem cc120:CK Tryz.f120=some (lH F120):=by kernel_rfl
def F121:FnC:=⟨1,(HX [ia 1 (bA 5 0),ia 2 (.mv (.c (.a .nil)))] (.seq (HX [ia 3 (lB 5 1),ia 4 (cB 119 3),ia 5 (oA 4)] (HW 5 (HX [ia 2 (.mv (.c (.a .nil)))] .ret) .skip)) (HX [ia 6 (lB 5 1),ia 7 (.build [(.p (.s [])),(.p (.i .i64 0))] [(0,(1,(.c (.a (.p (.s [84,114,117,101]))))))]),ia 8 (.build [(.p (.s [])),(.p (.i .i64 0))] [(0,(1,(.c (.a (.p (.s [70,97,108,115,101]))))))]),
 ia 9 (.bsl 2 107 [(.p (.s [])),(.p (.i .i64 0))] 2 [(0,(.t 7)),(1,(.t 8))]),ia 10 (cC 164 6 9),ia 2 (mA 10)] .ret))),[(.tmp 2)]⟩
theorem cc121:CK Tryz.f121=some (lH F121):=by kernel_rfl
def F122b0:C:=(.seq (HX [ia 9 (mA 5),ia 10 (bC .geq 9 0)] (HW 10 .skip (.exit 0))) (.seq (.block 1 (HX [ia 13 (mA 0),ia 14 (mA 5),ia 15 (aA 1 13 14),ia 16 (lA 1 15),ia 17 (mA 1),ia 18 (bB .eql 16 17)] (HW 18 (HX [ia 19 (mA 0),ia 20 (nA 19),ia 21 (bC .sub 20 1),ia 22 (mA 5),ia 23 (bB .sub 21 22),
 ia 4 (mA 23)] .ret) .skip))) (.reg [ia 11 (mA 5),ia 12 (bC .sub 11 1),ia 5 (mA 12)])))
def F122:FnC:=⟨2,(HX [ia 4 (mI 0)] (.seq (HX [ia 6 (mA 0),ia 7 (nA 6),ia 8 (bC .sub 7 1),ia 5 (mA 8)] (.block 0 (.loop F122b0))) (HX [ia 4 (mI 0)] .ret))),[(.tmp 4)]⟩
theorem cc122:CK Tryz.f122=some (lH F122):=by kernel_rfl
def F123:FnC:=⟨1,(HX [ia 1 (bA 4 0),ia 2 (.new [(.p (.i .i64 0)),(.p (.i .i64 0)),(.p (.s [])),.nil])] (HX [ia 3 (lB 4 1),ia 4 (.bsl 4 24 [(.p (.i .i64 0)),(.p (.i .i64 0)),(.p (.s [])),.nil] 1 [(0,(.t 3))]),ia 5 (.build [(.p (.i .i64 0)),(.p (.i .i64 0)),(.p (.s [])),.nil] [(0,(1,(ci 2))),(3,(1,(.t 4)))]),
 io (sA 4 2 5)] .ret)),[(.cell 2 4 true)]⟩
theorem cc123:CK Tryz.f123=some (lH F123):=by kernel_rfl
def F124:FnC:=⟨2,(HX [ia 4 (.mv (.c (.a .nil)))] (HX [ia 5 (.bsl 1 9 [(.p (.s []))] 0 []),ia 6 (mA 0),ia 7 (.app 1 9 16 (.t 5) (.t 6)),ia 8 (mA 1),ia 9 (.bsl 1 9 [(.p (.s []))] 1 [(0,(.t 8))]),ia 10 (.app 1 9 16 (.t 7) (.t 9)),ia 4 (mA 10)] .ret)),[(.tmp 4)]⟩
theorem cc124:CK Tryz.f124=some (lH F124):=by kernel_rfl
def F125:FnC:=⟨3,(HX [ia 4 (bA 4 1),ia 5 (bA 4 2),ia 6 (.new [(.p (.i .i64 0)),(.p (.i .i64 0)),(.p (.s [])),.nil])] (HX [ia 7 (mA 0),ia 8 (lB 4 4),ia 9 (lB 4 5),ia 10 (.bsl 4 24 [(.p (.i .i64 0)),(.p (.i .i64 0)),(.p (.s [])),.nil] 2 [(0,(.t 8)),(1,(.t 9))]),ia 11 (.build [(.p (.i .i64 0)),(.p (.i .i64 0)),(.p (.s [])),.nil] [(0,(1,(.t 7))),(3,(1,(.t 10)))]),
 io (sA 4 6 11)] .ret)),[(.cell 6 4 true)]⟩
theorem cc125:CK Tryz.f125=some (lH F125):=by kernel_rfl
def F126:FnC:=⟨0,(HX [ia 0 (.new [(.p (.i .i64 0)),(.p (.i .i64 0)),(.p (.s [])),.nil])] (HX [ia 4 (.build [(.p (.i .i64 0)),(.p (.i .i64 0)),(.p (.s [])),.nil] [(0,(1,(ci 1)))]),ia 1 (.new [(.p (.i .i64 0)),(.p (.i .i64 0)),(.p (.s [])),.nil]),io (sA 4 1 4)] (HX [ia 5 (.build [(.p (.i .i64 0)),(.p (.i .i64 0)),(.p (.s [])),.nil] [(0,(1,(ci 1))),(1,(1,(ci 1)))]),
 ia 2 (.new [(.p (.i .i64 0)),(.p (.i .i64 0)),(.p (.s [])),.nil]),io (sA 4 2 5)] (HX [ir 6 (lB 4 2),ir 7 (lB 4 1),ir 8 (lB 4 1),ir 9 (.call (.f 125) [(ci 3),(.t 7),(.t 8)]),ir 10 (.call (.f 125) [(ci 3),(.t 6),(.t 9)]),ir 11 (cB 123 10),⟨(.some 3),.none,(.new [(.p (.i .i64 0)),(.p (.i .i64 0)),(.p (.s [])),.nil]),.ad⟩,
 io (sA 4 3 11)] (HX [ia 12 (lB 4 3),ia 13 (lB 4 3),ia 14 (.call (.f 125) [(ci 3),(.t 12),(.t 13)]),ia 15 (cB 123 14),io (sA 4 0 15)] .ret))))),[(.cell 0 4 true)]⟩
theorem cc126:CK Tryz.f126=some (lH F126):=by kernel_rfl
def F127b0:C:=(.seq (HX [ia 5 (mA 4),ia 6 (fA 0 1),ia 7 (lA 1 6),ia 8 (nA 7),ia 9 (bB .lss 5 8)] (HW 9 .skip (.exit 0))) (.seq (.block 1 (HX [ia 12 (fA 0 1),ia 13 (lA 1 12),ia 14 (mA 4),ia 15 (aA 6 13 14),ia 16 (fA 0 15),ia 17 (lA 1 16),ia 18 (bC .neq 17 0)] (HW 18 (.reg [ia 19 (mA 3),ia 20 (bC .add 19 1),
 ia 3 (mA 20)]) .skip))) (.reg [ia 10 (mA 4),ia 11 (bC .add 10 1),ia 4 (mA 11)])))
def F127:FnC:=⟨1,(HX [ia 1 (bA 2 0),ia 2 (mI 0)] (HX [ia 3 (mI 0)] (.seq (HX [ia 4 (mI 0)] (.block 0 (.loop F127b0))) (HX [ia 21 (mA 3),ia 2 (mA 21)] .ret)))),[(.tmp 2)]⟩
theorem cc127:CK Tryz.f127=some (lH F127):=by kernel_rfl
def F128b0:C:=(.seq (HX [ia 8 (mA 4),ia 9 (fA 0 1),ia 10 (lA 1 9),ia 11 (nA 10),ia 12 (bB .lss 8 11)] (HW 12 .skip (.exit 0))) (.seq (.block 1 (.reg [ir 15 (fA 0 3),ir 16 (lA 1 15),ir 17 (fA 0 1),ir 18 (lA 1 17),ir 19 (mA 4),ir 20 (aA 6 18 19),ir 21 (lB 6 20),⟨(.some 22),.none,(.bsl 6 46 [(.p (.i .i64 0)),(.p (.i .i64 0)),(.p (.i .i64 0)),(.p (.s [])),.nil,.nil] 1 [(0,(.t 21))]),.ad⟩,
 ia 23 (.app 6 46 88 (.t 16) (.t 22)),ia 24 (fA 0 3),io (sA 1 24 23)])) (.reg [ia 13 (mA 4),ia 14 (bC .add 13 1),ia 4 (mA 14)])))
def F128:FnC:=⟨1,(HX [ia 1 (bA 2 0),ia 2 (.new [.nil,(.p (.i .i64 0))])] (HX [ia 5 (fA 1 1),ia 6 (lA 1 5),ia 7 (.build [.nil,(.p (.i .i64 0))] [(1,(1,(.t 6)))]),ia 3 (.new [.nil,(.p (.i .i64 0))]),io (sA 2 3 7)] (.seq (HX [ia 4 (mI 0)] (.block 0 (.loop F128b0))) (HX [ia 25 (lB 2 3),io (sA 2 2 25)] .ret)))),[(.cell 2 2 true)]⟩
theorem cc128:CK Tryz.f128=some (lH F128):=by kernel_rfl
def F129b0:C:=(.seq (HX [ia 9 (mA 5),ia 10 (fA 4 2),ia 11 (lA 1 10),ia 12 (nA 11),ia 13 (bB .lss 9 12),ia 14 (mA 13),ig 15 14 true (fA 5 2),ig 16 14 true (lA 1 15),ig 17 14 true (bC .eql 16 0),ia 18 (pB 14 17)] (HW 18 .skip (.exit 0))) (.seq (.block 1 (HX [ia 22 (fA 0 2),ia 23 (lB 2 22),ia 24 (mA 1),
 ia 25 (.build [(.p (.i .i64 0)),(.p (.i .i64 0)),(.p (.i .i64 0)),(.p (.s [])),.nil,.nil] [(0,(1,(ci 6))),(1,(1,(.t 24)))]),ia 26 (cC 48 23 25),ia 21 (mA 26),ia 27 (eA 21 0),ia 28 (eA 21 1),ia 29 (eA 21 2),ia 6 (.new [.nil,(.p (.i .i64 0))]),io (sA 2 6 27),ia 7 (mA 28),ia 8 (mA 29)] (HX [
 ia 30 (mA 8),ia 31 (fA 5 2),io (sA 1 31 30)] (HX [ir 32 (lB 2 6),ir 33 (mA 7),ir 34 (.call (.f 28) [(.t 33),(ci 1)]),ir 35 (fA 4 2),ir 36 (lA 1 35),ir 37 (mA 5),ir 38 (aA 3 36 37),ir 39 (fA 1 38),ir 40 (lB 2 39),ia 41 (cD 27 32 34 40),ia 42 (fA 0 2),io (sA 2 42 41)] (.reg [ir 43 (fA 4 2),ir 44 (lA 1 43),
 ir 45 (mA 5),ir 46 (mA 7),ir 47 (.call (.f 28) [(.t 46),(ci 0)]),ia 48 (aA 3 44 45),ia 49 (fA 1 48),io (sA 2 49 47)]))))) (.reg [ia 19 (mA 5),ia 20 (bC .add 19 1),ia 5 (mA 20)])))
def F129:FnC:=⟨2,(HX [ia 2 (bA 6 0),ia 4 (.new [.nil,(.p (.i .i64 0)),(.p (.i .i64 0)),(.p (.i .i64 0)),.nil,(.p (.i .i64 0))])] (.seq (HX [ia 5 (mI 0)] (.block 0 (.loop F129b0))) (HX [ia 50 (lB 6 2),io (sA 6 4 50)] .ret))),[(.cell 4 6 true)]⟩
theorem cc129:CK Tryz.f129=some (lH F129):=by kernel_rfl
def F130b0:C:=(.seq (HX [ia 9 (mA 7),ia 10 (mA 0),ia 11 (nA 10),ia 12 (bB .lss 9 11)] (HW 12 .skip (.exit 0))) (.seq (.block 1 (.seq (HX [ia 15 (mA 6),ia 16 (oA 15),ia 17 (mA 16),ih 18 17 true (mA 0),ih 19 17 true (mA 7),ih 20 17 true (aA 3 18 19),ih 21 17 true (fA 0 20),ih 22 17 true (lA 1 21),
 ih 23 17 true (fA 0 3),ih 24 17 true (lA 1 23),ig 25 17 true (bB .gtr 22 24),ia 26 (pB 17 25)] (HW 26 (HX [ia 27 (mA 5),ia 28 (lB 3 3),ia 29 (.bsl 3 104 [(.p (.i .i64 0)),(.p (.i .i64 0)),(.p (.i .i64 0))] 1 [(0,(.t 28))]),ia 30 (.app 3 104 24 (.t 27) (.t 29)),ia 5 (mA 30)] (.reg [ia 6 (.mv HZ)])) .skip)) (.reg [
 ia 31 (mA 5),ia 32 (mA 0),ia 33 (mA 7),ia 34 (aA 3 32 33),ia 35 (lB 3 34),ia 36 (.bsl 3 104 [(.p (.i .i64 0)),(.p (.i .i64 0)),(.p (.i .i64 0))] 1 [(0,(.t 35))]),ia 37 (.app 3 104 24 (.t 31) (.t 36)),ia 5 (mA 37)]))) (.reg [ia 13 (mA 7),ia 14 (bC .add 13 1),ia 7 (mA 14)])))
def F130:FnC:=⟨2,(HX [ia 3 (bA 3 1),ia 4 (.mv (.c (.a .nil)))] (HX [ia 8 (.bsl 3 104 [(.p (.i .i64 0)),(.p (.i .i64 0)),(.p (.i .i64 0))] 0 []),ia 5 (mA 8)] (HX [ia 6 (.mv xF)] (.seq (HX [ia 7 (mI 0)] (.block 0 (.loop F130b0))) (.seq (HX [ia 38 (mA 6),ia 39 (oA 38)] (HW 39 (.reg [ia 40 (mA 5),
 ia 41 (lB 3 3),ia 42 (.bsl 3 104 [(.p (.i .i64 0)),(.p (.i .i64 0)),(.p (.i .i64 0))] 1 [(0,(.t 41))]),ia 43 (.app 3 104 24 (.t 40) (.t 42)),ia 5 (mA 43)]) .skip)) (HX [ia 44 (mA 5),ia 4 (mA 44)] .ret)))))),[(.tmp 4)]⟩
theorem cc130:CK Tryz.f130=some (lH F130):=by kernel_rfl
def F131b0:C:=(HX [ia 13 (bB .lss 12 11)] (.seq (HW 13 .skip (.exit 0)) (.seq (.block 1 (HX [ia 14 (mA 12),ia 3 (mA 14)] (HX [ia 16 (lB 2 1),ia 17 (mA 3),ia 18 (.build [(.p (.i .i64 0)),(.p (.i .i64 0))] [(0,(1,(.t 17)))]),ia 19 (cC 60 16 18),ia 15 (mA 19),ia 20 (eA 15 0),ia 21 (eA 15 1),ia 4 (.new [(.p (.i .i64 0)),(.p (.i .i64 0))]),
 io (sA 2 4 20),ia 5 (mA 21)] (.seq (HX [ia 22 (mA 5),ia 23 (bC .neq 22 0),ia 24 (mA 23),ig 25 24 false (fA 1 4),ig 26 24 false (lA 1 25),ig 27 24 false (bC .neq 26 0),ia 28 (pA 24 27),ia 29 (mA 28),ig 30 29 false (fA 0 4),ig 31 29 false (lA 1 30),ig 32 29 false (mA 3),ig 33 29 false (bB .leq 31 32),
 ia 34 (pA 29 33)] (HW 34 (.exit 1) .skip)) (HX [ia 35 (mA 0),ia 36 (mA 3),ia 37 (fA 0 4),ia 38 (lA 1 37),ia 39 (.build [(.p (.i .i64 0)),(.p (.i .i64 0))] [(0,(1,(.t 36))),(1,(1,(.t 38)))]),ia 40 (.call (.t 35) [(.t 39)]),ia 41 (oA 40)] (HW 41 .ret .skip)))))) (.reg [ia 42 (bC .add 12 1),ia 12 (mA 42)]))))
def F131:FnC:=⟨2,(.seq (HX [ia 6 (lB 2 1),ia 7 (cB 37 6),ia 8 (bC .neq 7 0)] (HW 8 .ret .skip)) (HX [ia 9 (fA 0 1),ia 10 (lA 1 9),ia 11 (nA 10),ia 12 (mI 0)] (.block 0 (.loop F131b0)))),[]⟩
theorem cc131:CK Tryz.f131=some (lH F131):=by kernel_rfl
def F132:FnC:=⟨2,(HX [ia 4 (.mv xF)] (HX [ia 5 (mA 0),ia 6 (mA 1),ia 7 (cC 165 5 6),ia 8 (bC .geq 7 0),ia 4 (mA 8)] .ret)),[(.tmp 4)]⟩
theorem cc132:CK Tryz.f132=some (lH F132):=by kernel_rfl
def F133:FnC:=⟨2,(HX [ia 2 (bA 6 0),ia 4 (.mv xF)] (.seq (HX [ia 5 (fA 0 2),ia 6 (lA 1 5)] (.block 0 (.seq (HX [ia 8 (bC .eql 6 3),ia 7 (mA 8)] (HW 7 .skip (HX [ia 9 (bC .eql 6 9),ia 7 (mA 9)] (HW 7 .skip (HX [ia 10 (bC .eql 6 11),ia 7 (mA 10)] (HW 7 .skip (HX [ia 11 (bC .eql 6 12),ia 7 (mA 11)] (HW 7 .skip (HX [
 ia 12 (bC .eql 6 5),ia 7 (mA 12)] (HW 7 .skip (.reg [ia 13 (bC .eql 6 6),ia 7 (mA 13)]))))))))))) (HW 7 (HX [ia 14 (mA 1),ia 15 (bC .eql 14 1),ia 4 (mA 15)] .ret) (HX [ia 17 (bC .eql 6 4),ia 16 (mA 17)] (HW 16 (HX [ia 18 (mA 1),ia 19 (bC .eql 18 1),ia 20 (mA 19),ig 21 20 false (mA 1),ig 22 20 false (bC .eql 21 2),
 ia 23 (pA 20 22),ia 4 (mA 23)] .ret) .skip)))))) (HX [ia 4 (.mv xF)] .ret))),[(.tmp 4)]⟩
theorem cc133:CK Tryz.f133=some (lH F133):=by kernel_rfl
def F134:FnC:=⟨2,(.seq (HX [ia 4 (mA 0),ia 5 (HY 4),ia 6 (fA 1 5),ia 7 (lA 1 6),ia 8 (mA 1),ia 9 (aA 1 7 8),ia 10 (lA 1 9)] (HW 10 .ret .skip)) (HX [ia 11 (mA 0),ia 12 (HY 11),ia 13 (fA 1 12),ia 14 (lA 1 13),ia 15 (mA 1),ia 16 (aA 1 14 15),io (.st 1 (.t 16) HZ)] (.reg [ia 17 (mA 0),ia 18 (mA 0),
 ia 19 (HY 18),ia 20 (fA 2 19),ia 21 (lA 1 20),ia 22 (mA 1),ia 23 (.bsl 1 3 [(.p (.i .i64 0))] 1 [(0,(.t 22))]),ia 24 (.app 1 3 8 (.t 21) (.t 23)),ia 25 (HY 17),ia 26 (fA 2 25),io (sA 1 26 24)]))),[]⟩
theorem cc134:CK Tryz.f134=some (lH F134):=by kernel_rfl
def tblC:List (FuncId×FnC):=[(94,F94),(95,F95),(96,F96),(97,F97),(98,F98),(99,F99),(100,F100),(101,F101),(102,F102),(103,F103),(104,F104),(105,F105),(106,F106),(107,F107),(108,F108),(109,F109),(110,F110),(111,F111),(112,F112),(113,F113),(114,F114),(115,F115),(116,F116),(117,F117),(118,F118),(119,F119),(120,F120),(121,F121),(122,F122),(123,F123),(124,F124),(125,F125),(126,F126),(127,F127),(128,F128),(129,F129),(130,F130),(131,F131),(132,F132),(133,F133),(134,F134)]
theorem tblOkC:∀x,x∈tblC→∃fn,Tryz.prog.funcs[x.1]? =some fn∧CK fn=some (lH x.2):=by
 intro x hx
 simp only[tblC,qY,oZ,or_false]at hx
 rcases hx with rfl|rfl|rfl|rfl|rfl|rfl|rfl|rfl|rfl|rfl|rfl|rfl|rfl|rfl|rfl|rfl|rfl|rfl|rfl|rfl|rfl|rfl|rfl|rfl|rfl|rfl|rfl|rfl|rfl|rfl|rfl|rfl|rfl|rfl|rfl|rfl|rfl|rfl|rfl|rfl|rfl
 ·exact⟨_,Tryz.func94,cc94⟩
 ·exact⟨_,Tryz.func95,cc95⟩
 ·exact⟨_,Tryz.func96,cc96⟩
 ·exact⟨_,Tryz.func97,cc97⟩
 ·exact⟨_,Tryz.func98,cc98⟩
 ·exact⟨_,Tryz.func99,cc99⟩
 ·exact⟨_,Tryz.func100,cc100⟩
 ·exact⟨_,Tryz.func101,cc101⟩
 ·exact⟨_,Tryz.func102,cc102⟩
 ·exact⟨_,Tryz.func103,cc103⟩
 ·exact⟨_,Tryz.func104,cc104⟩
 ·exact⟨_,Tryz.func105,cc105⟩
 ·exact⟨_,Tryz.func106,cc106⟩
 ·exact⟨_,Tryz.func107,cc107⟩
 ·exact⟨_,Tryz.func108,cc108⟩
 ·exact⟨_,Tryz.func109,cc109⟩
 ·exact⟨_,Tryz.func110,cc110⟩
 ·exact⟨_,Tryz.func111,cc111⟩
 ·exact⟨_,Tryz.func112,cc112⟩
 ·exact⟨_,Tryz.func113,cc113⟩
 ·exact⟨_,Tryz.func114,cc114⟩
 ·exact⟨_,Tryz.func115,cc115⟩
 ·exact⟨_,Tryz.func116,cc116⟩
 ·exact⟨_,Tryz.func117,cc117⟩
 ·exact⟨_,Tryz.func118,cc118⟩
 ·exact⟨_,Tryz.func119,cc119⟩
 ·exact⟨_,Tryz.func120,cc120⟩
 ·exact⟨_,Tryz.func121,cc121⟩
 ·exact⟨_,Tryz.func122,cc122⟩
 ·exact⟨_,Tryz.func123,cc123⟩
 ·exact⟨_,Tryz.func124,cc124⟩
 ·exact⟨_,Tryz.func125,cc125⟩
 ·exact⟨_,Tryz.func126,cc126⟩
 ·exact⟨_,Tryz.func127,cc127⟩
 ·exact⟨_,Tryz.func128,cc128⟩
 ·exact⟨_,Tryz.func129,cc129⟩
 ·exact⟨_,Tryz.func130,cc130⟩
 ·exact⟨_,Tryz.func131,cc131⟩
 ·exact⟨_,Tryz.func132,cc132⟩
 ·exact⟨_,Tryz.func133,cc133⟩
 ·exact⟨_,Tryz.func134,cc134⟩
def F135:FnC:=⟨2,(HX [ia 2 (bA 2 0),ia 3 (.mv xF)] (HX [ia 4 (fA 0 2),ia 5 (lA 1 4),ia 6 (fA 0 1),ia 7 (lA 1 6),ia 8 (bB .eql 5 7),ia 3 (mA 8)] .ret)),[(.tmp 3)]⟩
theorem cc135:CK Tryz.f135=some (lH F135):=by kernel_rfl
def F136:FnC:=⟨2,(HX [ia 4 (.mv xF)] (HX [ia 5 (mA 0),ia 6 (mA 1),ia 7 (cC 139 5 6),ia 8 (bC .geq 7 0),ia 4 (mA 8)] .ret)),[(.tmp 4)]⟩
theorem cc136:CK Tryz.f136=some (lH F136):=by kernel_rfl
def F137:FnC:=⟨2,(HX [ia 4 (.mv xF)] (HX [ia 5 (mA 0),ia 6 (mA 1),ia 7 (cC 166 5 6),ia 8 (bC .geq 7 0),ia 4 (mA 8)] .ret)),[(.tmp 4)]⟩
theorem cc137:CK Tryz.f137=some (lH F137):=by kernel_rfl
def F138:FnC:=⟨2,(HX [ia 2 (bA 2 0),ia 3 (.mv xF)] (HX [ia 4 (fA 0 2),ia 5 (lA 1 4),ia 6 (bC .lss 5 0),ia 7 (mA 6),ih 8 7 false (fA 0 2),ih 9 7 false (lA 1 8),ih 10 7 false (fA 0 1),ih 11 7 false (fA 0 10),ih 12 7 false (lA 1 11),ih 13 7 false (nA 12),ig 14 7 false (bB .geq 9 13),ia 15 (pA 7 14),
 ia 16 (mA 15),ig 17 16 false (fA 1 2),ig 18 16 false (lA 1 17),ig 19 16 false (bC .lss 18 0),ia 20 (pA 16 19),ia 21 (mA 20),ih 22 21 false (fA 1 2),ih 23 21 false (lA 1 22),ih 24 21 false (fA 0 1),ih 25 21 false (fA 0 24),ih 26 21 false (lA 1 25),ih 27 21 false (fA 0 2),ih 28 21 false (lA 1 27),ih 29 21 false (aA 6 26 28),
 ih 30 21 false (fA 5 29),ih 31 21 false (lA 1 30),ih 32 21 false (nA 31),ig 33 21 false (bB .geq 23 32),ia 34 (pA 21 33),ia 3 (mA 34)] .ret)),[(.tmp 3)]⟩
theorem cc138:CK Tryz.f138=some (lH F138):=by kernel_rfl
def F139b0:C:=(HX [ia 9 (bB .lss 8 7)] (.seq (HW 9 .skip (.exit 0)) (.seq (.block 1 (HX [ia 10 (mA 8),ia 5 (mA 10)] (HX [ia 11 (mA 1),ia 12 (mA 0),ia 13 (mA 5),ia 14 (aA 2 12 13),ia 15 (lB 2 14),ia 16 (.call (.t 11) [(.t 15)])] (HW 16 (HX [ia 17 (mA 5),ia 4 (mA 17)] .ret) .skip)))) (.reg [ia 18 (bC .add 8 1),
 ia 8 (mA 18)]))))
def F139:FnC:=⟨2,(HX [ia 4 (mI 0)] (.seq (HX [ia 6 (mA 0),ia 7 (nA 6),ia 8 (mI 0)] (.block 0 (.loop F139b0))) (HX [ia 4 (.mv (.c (.a (.p (.i .i64 (-1))))))] .ret))),[(.tmp 4)]⟩
theorem cc139:CK Tryz.f139=some (lH F139):=by kernel_rfl
def F140:FnC:=⟨2,(HX [ia 2 (bA 2 0),ia 3 (.mv xF)] (HX [ia 4 (fA 0 2),ia 5 (lA 1 4),ia 6 (fA 3 1),ia 7 (lA 1 6),ia 8 (bB .eql 5 7),ia 9 (mA 8),ig 10 9 true (fA 1 2),ig 11 9 true (lA 1 10),ig 12 9 true (fA 5 1),ig 13 9 true (lA 1 12),ig 14 9 true (nA 13),ig 15 9 true (bC .sub 14 1),ig 16 9 true (bB .eql 11 15),
 ia 17 (pB 9 16),ia 3 (mA 17)] .ret)),[(.tmp 3)]⟩
theorem cc140:CK Tryz.f140=some (lH F140):=by kernel_rfl
def F141:FnC:=⟨1,(HX [ia 2 (.new [(.p (.i .i64 0)),(.p (.i .i64 0)),(.p (.i .i64 0)),(.p (.s [])),.nil,.nil])] (HX [ia 3 (.mv (.c (.a (.p (.s [70,97,108,115,101])))))] (.seq (HX [ia 4 (mA 0)] (HW 4 (.reg [ia 3 (.mv (.c (.a (.p (.s [84,114,117,101])))))]) .skip)) (HX [ia 5 (mA 3),ia 6 (.mslF 2 42 16 [(.p (.i .i64 0)),(.p (.i .i64 0))] (ci 1) (ci 1)),
 ia 7 (.build [(.p (.i .i64 0)),(.p (.i .i64 0)),(.p (.i .i64 0)),(.p (.s [])),.nil,.nil] [(0,(1,(ci 8))),(3,(1,(.t 5))),(5,(1,(.t 6)))]),io (sA 6 2 7)] .ret)))),[(.cell 2 6 true)]⟩
theorem cc141:CK Tryz.f141=some (lH F141):=by kernel_rfl
def F142:FnC:=⟨3,(HX [ia 3 (bA 2 0),ia 4 (bA 2 1),ia 5 (bA 2 2),ia 6 (.new [.nil,(.p (.i .i64 0))]),ia 7 (mI 0)] (HX [ia 9 (lB 2 3),ia 10 (.build [.nil,(.p (.i .i64 0))] [(0,(2,(.t 9)))]),ia 8 (.new [.nil,(.p (.i .i64 0))]),io (sA 2 8 10)] (.seq (.block 0 (HX [ir 12 (lB 2 8),ir 13 (lB 2 4),
 ir 14 (lB 2 5),⟨(.some 15),.none,(.bsl 2 42 [(.p (.i .i64 0)),(.p (.i .i64 0))] 2 [(0,(.t 13)),(1,(.t 14))]),.ad⟩,ia 16 (cC 100 12 15),ia 17 (oA 16),ia 18 (mA 17),ih 19 18 false (lB 2 4),ih 20 18 false (lB 2 5),ig 21 18 false (.eqg false [0,0] (.t 19) (.t 20)),ia 22 (pA 18 21),ia 23 (mA 22),
 ih 24 23 false (lB 2 8),ih 25 23 false (lB 2 8),ih 26 23 false (lB 2 4),ih 27 23 false (cC 101 25 26),ih 28 23 false (lB 2 8),ih 29 23 false (lB 2 5),ih 30 23 false (cC 101 28 29),⟨(.some 31),(.some (23,false)),(.bsl 2 42 [(.p (.i .i64 0)),(.p (.i .i64 0))] 2 [(0,(.t 27)),(1,(.t 30))]),.ad⟩,
 ig 32 23 false (cC 100 24 31),ig 33 23 false (oA 32),ia 34 (pA 23 33),ia 11 (mA 34)] (HW 11 (HX [ia 35 (lB 2 3),io (sA 2 6 35),ia 7 (mI 130)] .ret) (HX [ir 37 (lB 2 8),ir 38 (lB 2 4),ir 39 (cC 101 37 38),ir 40 (lB 2 5),ia 41 (.eqg false [0,0] (.t 39) (.t 40)),ia 36 (mA 41)] (HW 36 (HX [ia 42 (lB 2 3),
 io (sA 2 6 42),ia 7 (mI 0)] .ret) .skip))))) (HX [ir 43 (lB 2 8),ir 44 (lB 2 8),ir 45 (lB 2 4),ir 46 (cC 101 44 45),ir 47 (lB 2 8),ir 48 (lB 2 5),ir 49 (cC 101 47 48),ia 50 (cD 144 43 46 49),ir 51 (eA 50 0),ir 52 (eA 50 1),io (sA 2 6 51),ia 7 (mA 52)] .ret)))),[(.cell 6 2 true),(.tmp 7)]⟩
theorem cc142:CK Tryz.f142=some (lH F142):=by kernel_rfl
def F143:FnC:=⟨3,(HX [ia 3 (bA 2 0),ia 4 (bA 2 1),ia 5 (bA 2 2),ia 6 (.new [.nil,(.p (.i .i64 0))]),ia 7 (mI 0)] (HX [ia 8 (lB 2 3),ia 9 (.build [.nil,(.p (.i .i64 0))] [(0,(2,(.t 8)))]),ia 10 (lB 2 4),ia 11 (lB 2 5),ia 12 (cD 144 9 10 11),ia 13 (eA 12 0),ia 14 (eA 12 1),io (sA 2 6 13),ia 7 (mA 14)] .ret)),[(.cell 6 2 true),(.tmp 7)]⟩
theorem cc143:CK Tryz.f143=some (lH F143):=by kernel_rfl
def F144:FnC:=⟨3,(HX [ia 3 (bA 2 0),ia 4 (bA 2 1),ia 5 (bA 2 2),ia 6 (.new [.nil,(.p (.i .i64 0))]),ia 7 (mI 0)] (.seq (HX [ia 8 (lB 2 3),ia 9 (lB 2 4),ia 10 (lB 2 5),ia 11 (.bsl 2 42 [(.p (.i .i64 0)),(.p (.i .i64 0))] 2 [(0,(.t 9)),(1,(.t 10))]),ia 12 (cC 100 8 11),ia 13 (oA 12),ia 14 (mA 13),
 ig 15 14 false (lB 2 4),ig 16 14 false (lB 2 5),ig 17 14 false (.eqg false [0,0] (.t 15) (.t 16)),ia 18 (pA 14 17)] (HW 18 (HX [ia 19 (fA 0 3),ia 20 (lB 2 19),io (sA 2 6 20),ia 7 (mI 130)] .ret) .skip)) (HX [ir 21 (lB 2 3),ir 22 (lB 2 4),ir 23 (lB 2 5),ir 24 (cD 167 21 22 23),ir 25 (lB 2 5),ir 26 (lB 2 4),
 ia 27 (cD 167 24 25 26),ia 28 (.fld 0 2 true (.t 27)),io (sA 2 6 28),ia 7 (mI 0)] .ret))),[(.cell 6 2 true),(.tmp 7)]⟩
theorem cc144:CK Tryz.f144=some (lH F144):=by kernel_rfl
def F145:FnC:=⟨1,(HX [ia 2 (.mv (.c (.a .nil)))] (.seq (HX [ia 3 (mA 0),ia 4 (.nq false (.t 3))] (HW 4 (HX [ia 2 (.mv (.c (.a .nil)))] .ret) .skip)) (HX [ia 5 (.bsl 2 107 [(.p (.s [])),(.p (.i .i64 0))] 0 []),ia 6 (mA 0),ia 7 (.app 2 107 24 (.t 5) (.t 6)),ia 2 (mA 7)] .ret))),[(.tmp 2)]⟩
theorem cc145:CK Tryz.f145=some (lH F145):=by kernel_rfl
def F146b0:C:=(HX [ia 9 (bB .lss 8 7)] (.seq (HW 9 .skip (.exit 0)) (.seq (.block 1 (HX [ia 10 (mA 8),ia 5 (mA 10)] (HX [ia 11 (mA 1),ia 12 (mA 0),ia 13 (mA 5),ia 14 (aA 6 12 13),ia 15 (lB 6 14),ia 16 (.call (.t 11) [(.t 15)])] (HW 16 (HX [ia 17 (mA 5),ia 4 (mA 17)] .ret) .skip)))) (.reg [ia 18 (bC .add 8 1),
 ia 8 (mA 18)]))))
def F146:FnC:=⟨2,(HX [ia 4 (mI 0)] (.seq (HX [ia 6 (mA 0),ia 7 (nA 6),ia 8 (mI 0)] (.block 0 (.loop F146b0))) (HX [ia 4 (.mv (.c (.a (.p (.i .i64 (-1))))))] .ret))),[(.tmp 4)]⟩
theorem cc146:CK Tryz.f146=some (lH F146):=by kernel_rfl
def F147b0:C:=(.seq (HX [ia 9 (mA 1),ia 10 (mA 6),ia 11 (bB .add 9 10),ia 12 (mA 0),ia 13 (.len true (.t 12)),ia 14 (bB .lss 11 13)] (HW 14 .skip (.exit 0))) (.block 1 (HX [ia 15 (mA 0),ia 16 (mA 1),ia 17 (mA 6),ia 18 (bB .add 16 17),ia 19 (.ixs (.t 15) (.t 18)),ia 20 (cB 112 19),ia 8 (mA 20)] (.seq (HX [
 ia 21 (mA 8),ia 22 (bC .lss 21 1),ia 23 (mA 22),ig 24 23 false (mA 8),ig 25 23 false (bC .gtr 24 3),ia 26 (pA 23 25)] (HW 26 (HX [ia 27 (mA 6),ia 28 (mA 7),ia 4 (mA 27),ia 5 (mA 28)] .ret) .skip)) (HX [ia 29 (mA 7),ia 30 (mA 29),ig 31 30 false (mA 8),ig 32 30 false (bC .lss 31 3),ia 33 (pA 30 32),ia 7 (mA 33)] (.reg [
 ia 34 (mA 6),ia 35 (bC .add 34 1),ia 6 (mA 35)]))))))
def F147:FnC:=⟨2,(HX [ia 4 (mI 0),ia 5 (.mv xF)] (HX [ia 6 (mI 0),ia 7 (.mv xF)] (.seq (.block 0 (.loop F147b0)) (HX [ia 36 (mA 6),ia 37 (mA 7),ia 4 (mA 36),ia 5 (mA 37)] .ret)))),[(.tmp 4),(.tmp 5)]⟩
theorem cc147:CK Tryz.f147=some (lH F147):=by kernel_rfl
def F148b0:C:=(.seq (HX [ia 27 (mA 5),ia 28 (bC .lss 27 13)] (HW 28 .skip (.exit 0))) (.seq (.block 1 (HX [ir 31 (mA 5),ir 32 (.ixs (.c (.a (.p (.s [92,46,40,41,61,123,125,124,43,45,42,47,60])))) (.t 31)),ir 33 (mA 0),ir 34 (mA 1),ir 35 (.ixs (.t 33) (.t 34)),ia 36 (bB .eql 32 35)] (HW 36 (HX [
 ia 4 (mI 1)] .ret) .skip))) (.reg [ia 29 (mA 5),ia 30 (bC .add 29 1),ia 5 (mA 30)])))
def F148:FnC:=⟨2,(HX [ia 4 (mI 0)] (.seq (HX [ia 6 (mA 1),ia 7 (bC .add 6 1),ia 8 (mA 0),ia 9 (.len true (.t 8)),ia 10 (bB .lss 7 9),ia 11 (mA 10),ig 12 11 true (mA 0),ig 13 11 true (mA 1),ig 14 11 true (mA 1),ig 15 11 true (bC .add 14 2),ig 16 11 true (.sub (.t 12) (.some (.t 13)) (.some (.t 15))),
 ig 17 11 true (.bin .eql (.t 16) (.c (.a (.p (.s [45,62]))))),ig 18 11 true (mA 17),ig 19 18 false (mA 0),ig 20 18 false (mA 1),ig 21 18 false (mA 1),ig 22 18 false (bC .add 21 2),ig 23 18 false (.sub (.t 19) (.some (.t 20)) (.some (.t 22))),ig 24 18 false (.bin .eql (.t 23) (.c (.a (.p (.s [61,61]))))),
 ig 25 11 true (pA 18 24),ia 26 (pB 11 25)] (HW 26 (HX [ia 4 (mI 2)] .ret) .skip)) (.seq (HX [ia 5 (mI 0)] (.block 0 (.loop F148b0))) (HX [ia 4 (mI 0)] .ret)))),[(.tmp 4)]⟩
theorem cc148:CK Tryz.f148=some (lH F148):=by kernel_rfl
def F149b0:C:=(.seq (HX [ia 5 (mA 4),ia 6 (mA 0),ia 7 (.len true (.t 6)),ia 8 (bB .lss 5 7)] (HW 8 .skip (.exit 0))) (.seq (.block 1 (.reg [ia 11 (mA 3),ia 12 (.bin .mul (ci 10) (.t 11)),ia 13 (mA 0),ia 14 (mA 4),ia 15 (.ixs (.t 13) (.t 14)),ia 16 (.cvi .i64 (.t 15)),ia 17 (bB .add 12 16),ia 18 (bC .sub 17 48),
 ia 3 (mA 18)])) (.reg [ia 9 (mA 4),ia 10 (bC .add 9 1),ia 4 (mA 10)])))
def F149:FnC:=⟨1,(HX [ia 2 (mI 0)] (HX [ia 3 (mI 0)] (.seq (HX [ia 4 (mI 0)] (.block 0 (.loop F149b0))) (HX [ia 19 (mA 3),ia 2 (mA 19)] .ret)))),[(.tmp 2)]⟩
theorem cc149:CK Tryz.f149=some (lH F149):=by kernel_rfl
def F150:FnC:=⟨1,(HX [ia 2 (.mv xF)] (HX [ia 3 (mA 0),ia 4 (.bin .eql (.t 3) (.c (.a (.p (.s [108,101,116]))))),ia 5 (mA 4),ig 6 5 false (mA 0),ig 7 5 false (.bin .eql (.t 6) (.c (.a (.p (.s [108,101,116,114,101,99]))))),ia 8 (pA 5 7),ia 9 (mA 8),ig 10 9 false (mA 0),ig 11 9 false (.bin .eql (.t 10) (.c (.a (.p (.s [105,110]))))),
 ia 12 (pA 9 11),ia 13 (mA 12),ig 14 13 false (mA 0),ig 15 13 false (.bin .eql (.t 14) (.c (.a (.p (.s [99,97,115,101]))))),ia 16 (pA 13 15),ia 17 (mA 16),ig 18 17 false (mA 0),ig 19 17 false (.bin .eql (.t 18) (.c (.a (.p (.s [111,102]))))),ia 20 (pA 17 19),ia 2 (mA 20)] .ret)),[(.tmp 2)]⟩
theorem cc150:CK Tryz.f150=some (lH F150):=by kernel_rfl
def F151:FnC:=⟨2,(HX [ia 4 (mI 0)] (.seq (HX [ia 5 (mA 1),ia 6 (mA 0),ia 7 (nA 6),ia 8 (bB .lss 5 7)] (HW 8 (HX [ia 9 (mA 0),ia 10 (mA 1),ia 11 (aA 4 9 10),ia 12 (fA 0 11),ia 13 (lA 1 12),ia 4 (mA 13)] .ret) .skip)) (HX [ia 4 (mI 0)] .ret))),[(.tmp 4)]⟩
theorem cc151:CK Tryz.f151=some (lH F151):=by kernel_rfl
def F152:FnC:=⟨1,(HX [ia 2 (.new [(.p (.i .i64 0)),(.p (.s [])),(.p (.i .i64 0)),(.p (.i .i64 0)),.nil,(.p (.i .i64 0)),(.p (.b false))])] (HX [ia 3 (mA 0),ia 4 (.build [(.p (.i .i64 0)),(.p (.s [])),(.p (.i .i64 0)),(.p (.i .i64 0)),.nil,(.p (.i .i64 0)),(.p (.b false))] [(5,(1,(.t 3)))]),
 io (sA 7 2 4)] .ret)),[(.cell 2 7 true)]⟩
theorem cc152:CK Tryz.f152=some (lH F152):=by kernel_rfl
def F153:FnC:=⟨2,(HX [ia 2 (bA 5 0),ia 4 (.new [(.p (.i .i64 0)),(.p (.s [])),(.p (.i .i64 0)),(.p (.i .i64 0)),.nil,(.p (.i .i64 0)),(.p (.b false))])] (HX [ia 5 (lB 5 2),ia 6 (mA 1),ia 7 (.build [(.p (.i .i64 0)),(.p (.s [])),(.p (.i .i64 0)),(.p (.i .i64 0)),.nil,(.p (.i .i64 0)),(.p (.b false))] [(0,(5,(.t 5))),(5,(1,(.t 6))),(6,(1,HZ))]),
 io (sA 7 4 7)] .ret)),[(.cell 4 7 true)]⟩
theorem cc153:CK Tryz.f153=some (lH F153):=by kernel_rfl
def F154b0:C:=(.seq (HX [ia 27 (mA 0),ia 28 (mA 6),ia 29 (cC 151 27 28),ia 30 (bC .eql 29 1)] (HW 30 .skip (.exit 0))) (.block 1 (.seq (HX [ia 31 (fA 2 5),ia 32 (lA 1 31),ia 33 (bC .eql 32 8)] (HW 33 (HX [ia 34 (mA 6),ia 35 (cB 152 34),io (sA 7 4 35)] .ret) .skip)) (HX [ia 36 (fA 2 5),ia 37 (lA 1 36),
 ia 38 (bC .add 37 1),ia 39 (fA 2 5),io (sA 1 39 38)] (HX [ir 40 (fA 4 5),ir 41 (lA 1 40),ir 42 (mA 0),ir 43 (mA 6),ir 44 (aA 4 42 43),ir 45 (fA 1 44),ir 46 (lA 1 45),ir 47 (mA 0),ir 48 (mA 6),ir 49 (aA 4 47 48),ir 50 (fA 3 49),ir 51 (lA 1 50),ir 52 (.build [(.p (.i .i64 0)),(.p (.s [])),(.p (.i .i64 0)),(.p (.i .i64 0)),.nil] [(0,(1,(ci 1))),(1,(1,(.t 46))),(3,(1,(.t 51)))]),
 ⟨(.some 53),.none,(.bsl 5 96 [(.p (.i .i64 0)),(.p (.s [])),(.p (.i .i64 0)),(.p (.i .i64 0)),.nil] 1 [(0,(.t 52))]),.ad⟩,ia 54 (.app 5 96 64 (.t 41) (.t 53)),ia 55 (fA 4 5),io (sA 1 55 54)] (.reg [ia 56 (mA 6),ia 57 (bC .add 56 1),ia 6 (mA 57)]))))))
def F154:FnC:=⟨2,(HX [ia 4 (.new [(.p (.i .i64 0)),(.p (.s [])),(.p (.i .i64 0)),(.p (.i .i64 0)),.nil,(.p (.i .i64 0)),(.p (.b false))])] (.seq (HX [ia 8 (mA 0),ia 9 (mA 1),ia 10 (cC 151 8 9),ia 11 (bC .neq 10 2)] (HW 11 (HX [ia 12 (mA 1),ia 13 (cB 152 12),io (sA 7 4 13)] .ret) .skip)) (HX [
 ir 14 (mA 0),ir 15 (mA 1),ir 16 (aA 4 14 15),ir 17 (fA 1 16),ir 18 (lA 1 17),ir 19 (mA 0),ir 20 (mA 1),ir 21 (aA 4 19 20),ir 22 (fA 3 21),ir 23 (lA 1 22),ir 24 (.build [(.p (.i .i64 0)),(.p (.s [])),(.p (.i .i64 0)),(.p (.i .i64 0)),.nil] [(0,(1,(ci 8))),(1,(1,(.t 18))),(3,(1,(.t 23)))]),
 ⟨(.some 5),.none,(.new [(.p (.i .i64 0)),(.p (.s [])),(.p (.i .i64 0)),(.p (.i .i64 0)),.nil]),.ad⟩,io (sA 5 5 24)] (HX [ia 25 (mA 1),ia 26 (bC .add 25 1),ia 6 (mA 26)] (.seq (.block 0 (.loop F154b0)) (.seq (HX [ia 58 (mA 0),ia 59 (mA 6),ia 60 (cC 114 58 59),ia 61 (.bin .neq (.t 60) (.c (.a (.p (.s [45,62])))))] (HW 61 (HX [
 ia 62 (mA 6),ia 63 (cB 152 62),io (sA 7 4 63)] .ret) .skip)) (HX [ia 64 (mA 0),ia 65 (mA 6),ia 66 (bC .add 65 1),ia 67 (cC 82 64 66),ia 7 (.new [(.p (.i .i64 0)),(.p (.s [])),(.p (.i .i64 0)),(.p (.i .i64 0)),.nil,(.p (.i .i64 0)),(.p (.b false))]),io (sA 7 7 67)] (.seq (HX [ia 68 (fA 6 7),ia 69 (lA 1 68),
 ia 70 (oA 69)] (HW 70 (HX [ia 71 (lB 7 7),io (sA 7 4 71)] .ret) .skip)) (HX [ia 72 (fA 4 5),ia 73 (lA 1 72),ia 74 (fA 0 7),ia 75 (lB 5 74),ia 76 (.bsl 5 96 [(.p (.i .i64 0)),(.p (.s [])),(.p (.i .i64 0)),(.p (.i .i64 0)),.nil] 1 [(0,(.t 75))]),ia 77 (.app 5 96 64 (.t 73) (.t 76)),ia 78 (fA 4 5),
 io (sA 1 78 77)] (HX [ia 79 (lB 5 5),ia 80 (fA 5 7),ia 81 (lA 1 80),ia 82 (cC 153 79 81),io (sA 7 4 82)] .ret)))))))))),[(.cell 4 7 true)]⟩
theorem cc154:CK Tryz.f154=some (lH F154):=by kernel_rfl
def F155b0:C:=(.seq (HX [ia 15 (fA 6 5),ia 16 (lA 1 15),ia 17 (mA 16),ig 18 17 true (mA 0),ig 19 17 true (fA 5 5),ig 20 17 true (lA 1 19),ig 21 17 true (cC 169 18 20),ia 22 (pB 17 21)] (HW 22 .skip (.exit 0))) (.block 1 (.seq (HX [ia 23 (mA 6),ia 24 (mA 23),ig 25 24 true (fA 0 5),ig 26 24 true (fA 4 25),
 ig 27 24 true (lA 1 26),ig 28 24 true (nA 27),ig 29 24 true (bC .eql 28 8),ia 30 (pB 24 29)] (HW 30 (HX [ia 31 (fA 5 5),ia 32 (lA 1 31),ia 33 (cB 152 32),io (sA 7 4 33)] .ret) .skip)) (HX [ia 34 (mA 0),ia 35 (fA 5 5),ia 36 (lA 1 35),ia 37 (cC 168 34 36),ia 7 (.new [(.p (.i .i64 0)),(.p (.s [])),(.p (.i .i64 0)),(.p (.i .i64 0)),.nil,(.p (.i .i64 0)),(.p (.b false))]),
 io (sA 7 7 37)] (.seq (HX [ia 38 (fA 6 7),ia 39 (lA 1 38),ia 40 (oA 39)] (HW 40 (HX [ia 41 (lB 7 7),io (sA 7 4 41)] .ret) .skip)) (HX [ia 42 (mA 6)] (HW 42 (HX [ia 43 (fA 0 5),ia 44 (fA 4 43),ia 45 (lA 1 44),ia 46 (fA 0 7),ia 47 (lB 5 46),ia 48 (.bsl 5 96 [(.p (.i .i64 0)),(.p (.s [])),(.p (.i .i64 0)),(.p (.i .i64 0)),.nil] 1 [(0,(.t 47))]),
 ia 49 (.app 5 96 64 (.t 45) (.t 48)),ia 50 (fA 0 5),ia 51 (fA 4 50),io (sA 1 51 49)] (.reg [ia 52 (fA 5 7),ia 53 (lA 1 52),ia 54 (fA 5 5),io (sA 1 54 53)])) (.reg [ia 55 (fA 0 5),ia 56 (fA 3 55),ia 57 (lA 1 56),ia 58 (fA 0 5),ia 59 (lB 5 58),ia 60 (fA 0 7),ia 61 (lB 5 60),ia 62 (.bsl 5 96 [(.p (.i .i64 0)),(.p (.s [])),(.p (.i .i64 0)),(.p (.i .i64 0)),.nil] 2 [(0,(.t 59)),(1,(.t 61))]),
 ia 63 (.build [(.p (.i .i64 0)),(.p (.s [])),(.p (.i .i64 0)),(.p (.i .i64 0)),.nil] [(0,(1,(ci 3))),(3,(1,(.t 57))),(4,(1,(.t 62)))]),ia 64 (fA 5 7),ia 65 (lA 1 64),ia 66 (cC 153 63 65),io (sA 7 5 66)]))))))))
def F155:FnC:=⟨2,(HX [ia 4 (.new [(.p (.i .i64 0)),(.p (.s [])),(.p (.i .i64 0)),(.p (.i .i64 0)),.nil,(.p (.i .i64 0)),(.p (.b false))])] (HX [ia 8 (mA 0),ia 9 (mA 1),ia 10 (cC 168 8 9),ia 5 (.new [(.p (.i .i64 0)),(.p (.s [])),(.p (.i .i64 0)),(.p (.i .i64 0)),.nil,(.p (.i .i64 0)),(.p (.b false))]),
 io (sA 7 5 10)] (HX [ia 11 (mA 0),ia 12 (mA 1),ia 13 (cC 151 11 12),ia 14 (bC .eql 13 2),ia 6 (mA 14)] (.seq (.block 0 (.loop F155b0)) (HX [ia 67 (lB 7 5),io (sA 7 4 67)] .ret))))),[(.cell 4 7 true)]⟩
theorem cc155:CK Tryz.f155=some (lH F155):=by kernel_rfl
def F156:FnC:=⟨3,(HX [ia 6 (.mv xF)] (HX [ia 8 (mA 0),ia 9 (mA 1),ia 10 (cC 114 8 9),ia 7 (mA 10)] (.seq (HX [ia 11 (mA 2)] (.block 0 (HX [ia 13 (bC .eql 11 0),ia 12 (mA 13)] (HW 12 (HX [ia 14 (mA 7),ia 15 (.bin .eql (.t 14) (.c (.a (.p (.s [60]))))),ia 16 (mA 15),ig 17 16 false (mA 7),ig 18 16 false (.bin .eql (.t 17) (.c (.a (.p (.s [61,61]))))),
 ia 19 (pA 16 18),ia 6 (mA 19)] .ret) (HX [ia 21 (bC .eql 11 1),ia 20 (mA 21)] (HW 20 (HX [ia 22 (mA 7),ia 23 (.bin .eql (.t 22) (.c (.a (.p (.s [43]))))),ia 24 (mA 23),ig 25 24 false (mA 7),ig 26 24 false (.bin .eql (.t 25) (.c (.a (.p (.s [45]))))),ia 27 (pA 24 26),ia 6 (mA 27)] .ret) .skip)))))) (HX [
 ia 28 (mA 7),ia 29 (.bin .eql (.t 28) (.c (.a (.p (.s [42]))))),ia 30 (mA 29),ig 31 30 false (mA 7),ig 32 30 false (.bin .eql (.t 31) (.c (.a (.p (.s [47]))))),ia 33 (pA 30 32),ia 6 (mA 33)] .ret)))),[(.tmp 6)]⟩
theorem cc156:CK Tryz.f156=some (lH F156):=by kernel_rfl
def F157b0:C:=(.seq (HX [ia 26 (mA 5),ia 27 (fA 4 2),ia 28 (lA 1 27),ia 29 (nA 28),ia 30 (bB .lss 26 29)] (HW 30 .skip (.exit 0))) (.seq (.block 1 (.seq (HX [ia 33 (fA 0 2),ia 34 (lA 1 33),ia 35 (bC .eql 34 8),ia 36 (mA 35),ig 37 36 true (mA 5),ig 38 36 true (fA 2 2),ig 39 36 true (lA 1 38),ig 40 36 true (bB .lss 37 39),
 ia 41 (pB 36 40),ia 42 (mA 41),ig 43 42 true (fA 4 2),ig 44 42 true (lA 1 43),ig 45 42 true (mA 5),ig 46 42 true (aA 5 44 45),ig 47 42 true (fA 0 46),ig 48 42 true (lA 1 47),ig 49 42 true (bC .neq 48 1),ia 50 (pB 42 49)] (HW 50 (HX [ia 4 (.mv xF)] .ret) .skip)) (HX [ir 51 (fA 4 2),ir 52 (lA 1 51),ir 53 (mA 5),
 ir 54 (aA 5 52 53),ir 55 (lB 5 54),ir 56 (fA 0 2),ir 57 (lA 1 56),ir 58 (bC .eql 57 7),ir 59 (mA 58),ih 60 59 true (mA 5),ih 61 59 true (bC .gtr 60 0),ir 62 (pB 59 61),ia 63 (cC 157 55 62),ia 64 (oA 63)] (HW 64 (HX [ia 4 (.mv xF)] .ret) .skip)))) (.reg [ia 31 (mA 5),ia 32 (bC .add 31 1),ia 5 (mA 32)])))
def F157:FnC:=⟨2,(HX [ia 2 (bA 5 0),ia 4 (.mv xF)] (.seq (HX [ia 6 (fA 0 2),ia 7 (lA 1 6),ia 8 (bC .eql 7 8),ia 9 (mA 1),ia 10 (.eqb true (.t 8) (.t 9)),ia 11 (mA 10),ig 12 11 false (lB 5 2),ig 13 11 false (cB 170 12),ig 14 11 false (oA 13),ia 15 (pA 11 14),ia 16 (mA 15),ig 17 16 false (lB 5 2),
 ig 18 16 false (cB 171 17),ig 19 16 false (oA 18),ia 20 (pA 16 19),ia 21 (mA 20),ig 22 21 false (fA 3 2),ig 23 21 false (lA 1 22),ig 24 21 false (bC .lss 23 0),ia 25 (pA 21 24)] (HW 25 (HX [ia 4 (.mv xF)] .ret) .skip)) (.seq (HX [ia 5 (mI 0)] (.block 0 (.loop F157b0))) (HX [ia 4 (.mv HZ)] .ret)))),[(.tmp 4)]⟩
theorem cc157:CK Tryz.f157=some (lH F157):=by kernel_rfl
def F158b0:C:=(.seq (HX [ia 6 (mA 5),ia 7 (mA 0),ia 8 (nA 7),ia 9 (bB .lss 6 8)] (HW 9 .skip (.exit 0))) (.seq (.block 1 (HX [ia 12 (mA 0),ia 13 (mA 5),ia 14 (aA 1 12 13),ia 15 (lA 1 14),ia 16 (mA 1),ia 17 (bB .eql 15 16)] (HW 17 (HX [ia 4 (.mv HZ)] .ret) .skip))) (.reg [ia 10 (mA 5),ia 11 (bC .add 10 1),
 ia 5 (mA 11)])))
def F158:FnC:=⟨2,(HX [ia 4 (.mv xF)] (.seq (HX [ia 5 (mI 0)] (.block 0 (.loop F158b0))) (HX [ia 4 (.mv xF)] .ret))),[(.tmp 4)]⟩
theorem cc158:CK Tryz.f158=some (lH F158):=by kernel_rfl
def F159:FnC:=⟨1,(HX [ia 1 (bA 5 0),ia 2 (mI 0)] (.seq (HX [ia 3 (fA 0 1),ia 4 (lA 1 3),ia 5 (bC .eql 4 6)] (HW 5 (HX [ia 6 (fA 4 1),ia 7 (lA 1 6),ia 8 (nA 7),ia 2 (mA 8)] .ret) .skip)) (.seq (HX [ia 9 (fA 0 1),ia 10 (lA 1 9),ia 11 (bC .eql 10 8)] (HW 11 (HX [ia 12 (fA 2 1),ia 13 (lA 1 12),ia 2 (mA 13)] .ret) .skip)) (HX [
 ia 2 (.mv (.c (.a (.p (.i .i64 (-1))))))] .ret)))),[(.tmp 2)]⟩
theorem cc159:CK Tryz.f159=some (lH F159):=by kernel_rfl
def F160b0:C:=(.seq (HX [ia 6 (mA 5),ia 7 (mA 0),ia 8 (nA 7),ia 9 (bB .lss 6 8)] (HW 9 .skip (.exit 0))) (.seq (.block 1 (HX [ia 12 (mA 0),ia 13 (mA 5),ia 14 (aA 2 12 13),ia 15 (fA 0 14),ia 16 (lA 1 15),ia 17 (mA 1),ia 18 (bB .eql 16 17)] (HW 18 (HX [ia 19 (mA 0),ia 20 (mA 5),ia 21 (aA 2 19 20),
 ia 22 (fA 1 21),ia 23 (lA 1 22),ia 4 (mA 23)] .ret) .skip))) (.reg [ia 10 (mA 5),ia 11 (bC .add 10 1),ia 5 (mA 11)])))
def F160:FnC:=⟨2,(HX [ia 4 (mI 0)] (.seq (HX [ia 5 (mI 0)] (.block 0 (.loop F160b0))) (HX [ia 4 (.mv (.c (.a (.p (.i .i64 (-1))))))] .ret))),[(.tmp 4)]⟩
theorem cc160:CK Tryz.f160=some (lH F160):=by kernel_rfl
def F161b1:C:=(.seq (HX [ia 11 (mA 4),ia 12 (mA 3),ia 13 (bB .lss 11 12)] (HW 13 .skip (.exit 2))) (.seq (.block 3 (HX [ir 16 (fA 4 1),ir 17 (lA 1 16),ir 18 (mA 3),ir 19 (aA 5 17 18),ir 20 (fA 1 19),ir 21 (lA 1 20),ir 22 (fA 4 1),ir 23 (lA 1 22),ir 24 (mA 4),ir 25 (aA 5 23 24),ir 26 (fA 1 25),ir 27 (lA 1 26),
 ia 28 (bB .eql 21 27)] (HW 28 (HX [ia 2 (.mv HZ)] .ret) .skip))) (.reg [ia 14 (mA 4),ia 15 (bC .add 14 1),ia 4 (mA 15)])))
def F161b0:C:=(.seq (HX [ia 5 (mA 3),ia 6 (fA 2 1),ia 7 (lA 1 6),ia 8 (bB .lss 5 7)] (HW 8 .skip (.exit 0))) (.seq (.block 1 (HX [ia 4 (mI 0)] (.block 2 (.loop F161b1)))) (.reg [ia 9 (mA 3),ia 10 (bC .add 9 1),ia 3 (mA 10)])))
def F161:FnC:=⟨1,(HX [ia 1 (bA 5 0),ia 2 (.mv xF)] (.seq (HX [ia 3 (mI 0)] (.block 0 (.loop F161b0))) (HX [ia 2 (.mv xF)] .ret))),[(.tmp 2)]⟩
theorem cc161:CK Tryz.f161=some (lH F161):=by kernel_rfl
def F162:FnC:=⟨1,(HX [ia 1 (bA 5 0),ia 2 (mI 0)] (.seq (HX [ia 3 (fA 0 1),ia 4 (lA 1 3),ia 5 (bC .eql 4 8)] (HW 5 (HX [ia 6 (fA 2 1),ia 7 (lA 1 6),ia 2 (mA 7)] .ret) .skip)) (HX [ia 2 (mI 0)] .ret))),[(.tmp 2)]⟩
theorem cc162:CK Tryz.f162=some (lH F162):=by kernel_rfl
def F163b0:C:=(.seq (HX [ia 27 (mA 7),ia 28 (fA 2 3),ia 29 (lA 1 28),ia 30 (bB .lss 27 29)] (HW 30 .skip (.exit 1))) (.seq (.block 2 (.reg [ia 33 (mA 2),ia 34 (fA 4 3),ia 35 (lA 1 34),ia 36 (mA 7),ia 37 (aA 5 35 36),ia 38 (fA 1 37),ia 39 (lA 1 38),ia 40 (cC 172 33 39),ia 2 (mA 40)])) (.reg [ia 31 (mA 7),
 ia 32 (bC .add 31 1),ia 7 (mA 32)])))
def F163:FnC:=⟨3,(HX [ia 3 (bA 5 0),ia 6 (.mv (.c (.a .nil)))] (.seq (HX [ia 8 (fA 0 3),ia 9 (lA 1 8)] (.block 0 (.seq (HX [ia 11 (bC .eql 9 2),ia 10 (mA 11)] (HW 10 .skip (.reg [ia 12 (bC .eql 9 5),ia 10 (mA 12)]))) (HW 10 (HX [ia 13 (mA 2),ia 14 (fA 1 3),ia 15 (lA 1 14),ia 16 (cC 172 13 15),ia 6 (mA 16)] .ret) (HX [
 ia 18 (bC .eql 9 4),ia 17 (mA 18)] (HW 17 (HX [ia 19 (mA 1),ia 20 (bC .eql 19 1)] (HW 20 (HX [ia 21 (mA 2),ia 22 (fA 1 3),ia 23 (lA 1 22),ia 24 (cC 172 21 23),ia 6 (mA 24)] .ret) .skip)) (HX [ia 26 (bC .eql 9 8),ia 25 (mA 26)] (HW 25 (HX [ia 7 (mI 0)] (.block 1 (.loop F163b0))) .skip)))))))) (HX [ia 41 (mA 2),
 ia 6 (mA 41)] .ret))),[(.tmp 6)]⟩
theorem cc163:CK Tryz.f163=some (lH F163):=by kernel_rfl
def F164b0:C:=(.seq (HX [ia 28 (mA 5),ia 29 (fA 4 2),ia 30 (lA 1 29),ia 31 (nA 30),ia 32 (bB .lss 28 31)] (HW 32 .skip (.exit 0))) (.seq (.block 1 (.reg [ia 35 (fA 4 2),ia 36 (lA 1 35),ia 37 (mA 5),ia 38 (aA 5 36 37),ia 39 (lB 5 38),ia 40 (mA 1),ia 41 (cC 164 39 40),ia 1 (mA 41)])) (.reg [ia 33 (mA 5),
 ia 34 (bC .add 33 1),ia 5 (mA 34)])))
def F164:FnC:=⟨2,(HX [ia 2 (bA 5 0),ia 4 (.mv (.c (.a .nil)))] (.seq (HX [ia 6 (lB 5 2),ia 7 (cB 159 6),ia 8 (bC .geq 7 0),ia 9 (mA 8),ig 10 9 true (mA 1),ig 11 9 true (fA 1 2),ig 12 9 true (lA 1 11),ig 13 9 true (cC 160 10 12),ig 14 9 true (bC .lss 13 0),ia 15 (pB 9 14)] (HW 15 (.reg [⟨(.some 16),.none,(.bsl 2 107 [(.p (.s [])),(.p (.i .i64 0))] 0 []),.ad⟩,
 ir 17 (mA 1),ir 19 (fA 1 2),ir 20 (lA 1 19),ir 21 (lB 5 2),⟨(.some 18),.none,(.app 2 107 24 (.t 16) (.t 17)),(.cl [(1,19),(5,2)] [])⟩,ir 22 (cB 159 21),ia 23 (.build [(.p (.s [])),(.p (.i .i64 0))] [(0,(1,(.t 20))),(1,(1,(.t 22)))]),ia 24 (.bsl 2 107 [(.p (.s [])),(.p (.i .i64 0))] 1 [(0,(.t 23))]),
 ia 25 (.app 2 107 24 (.t 18) (.t 24)),ia 1 (mA 25)]) .skip)) (.seq (HX [ia 26 (lB 5 2),ia 27 (cB 162 26),ia 5 (mA 27)] (.block 0 (.loop F164b0))) (HX [ia 42 (mA 1),ia 4 (mA 42)] .ret)))),[(.tmp 4)]⟩
theorem cc164:CK Tryz.f164=some (lH F164):=by kernel_rfl
def F165b0:C:=(HX [ia 9 (bB .lss 8 7)] (.seq (HW 9 .skip (.exit 0)) (.seq (.block 1 (HX [ia 10 (mA 8),ia 5 (mA 10)] (HX [ia 11 (mA 1),ia 12 (mA 0),ia 13 (mA 5),ia 14 (aA 1 12 13),ia 15 (lA 1 14),ia 16 (bB .eql 11 15)] (HW 16 (HX [ia 17 (mA 5),ia 4 (mA 17)] .ret) .skip)))) (.reg [ia 18 (bC .add 8 1),
 ia 8 (mA 18)]))))
def F165:FnC:=⟨2,(HX [ia 4 (mI 0)] (.seq (HX [ia 6 (mA 0),ia 7 (nA 6),ia 8 (mI 0)] (.block 0 (.loop F165b0))) (HX [ia 4 (.mv (.c (.a (.p (.i .i64 (-1))))))] .ret))),[(.tmp 4)]⟩
theorem cc165:CK Tryz.f165=some (lH F165):=by kernel_rfl
def F166b0:C:=(HX [ia 9 (bB .lss 8 7)] (.seq (HW 9 .skip (.exit 0)) (.seq (.block 1 (HX [ia 10 (mA 8),ia 5 (mA 10)] (HX [ia 11 (mA 1),ia 12 (mA 0),ia 13 (mA 5),ia 14 (aA 2 12 13),ia 15 (lB 2 14),ia 16 (.call (.t 11) [(.t 15)])] (HW 16 (HX [ia 17 (mA 5),ia 4 (mA 17)] .ret) .skip)))) (.reg [ia 18 (bC .add 8 1),
 ia 8 (mA 18)]))))
def F166:FnC:=⟨2,(HX [ia 4 (mI 0)] (.seq (HX [ia 6 (mA 0),ia 7 (nA 6),ia 8 (mI 0)] (.block 0 (.loop F166b0))) (HX [ia 4 (.mv (.c (.a (.p (.i .i64 (-1))))))] .ret))),[(.tmp 4)]⟩
theorem cc166:CK Tryz.f166=some (lH F166):=by kernel_rfl
def F167:FnC:=⟨3,(HX [ia 3 (bA 2 0),ia 4 (bA 2 1),ia 5 (bA 2 2),ia 6 (.new [.nil,(.p (.i .i64 0))])] (HX [ia 8 (fA 0 3),ia 9 (fA 0 8),ia 10 (lA 1 9),ia 11 (fA 0 4),ia 12 (lA 1 11),ia 13 (aA 6 10 12),ia 14 (lB 6 13),ia 7 (.new [(.p (.i .i64 0)),(.p (.i .i64 0)),(.p (.i .i64 0)),(.p (.s [])),.nil,.nil]),
 io (sA 6 7 14)] (HX [ia 15 (fA 5 7),ia 16 (lA 1 15),ia 17 (cB 173 16),ia 18 (fA 5 7),io (sA 1 18 17)] (HX [ia 19 (fA 5 7),ia 20 (lA 1 19),ia 21 (fA 1 4),ia 22 (lA 1 21),ia 23 (lB 2 5),ia 24 (aA 2 20 22),io (sA 2 24 23)] (HX [ia 25 (fA 0 3),ia 26 (fA 0 25),ia 27 (lA 1 26),ia 28 (cB 174 27),ia 29 (fA 0 3),
 ia 30 (fA 0 29),io (sA 1 30 28)] (HX [ia 31 (fA 0 3),ia 32 (fA 0 31),ia 33 (lA 1 32),ia 34 (fA 0 4),ia 35 (lA 1 34),ia 36 (lB 6 7),ia 37 (aA 6 33 35),io (sA 6 37 36)] (HX [ia 38 (lB 2 3),io (sA 2 6 38)] .ret))))))),[(.cell 6 2 true)]⟩
theorem cc167:CK Tryz.f167=some (lH F167):=by kernel_rfl
def F168:FnC:=⟨2,(HX [ia 4 (.new [(.p (.i .i64 0)),(.p (.s [])),(.p (.i .i64 0)),(.p (.i .i64 0)),.nil,(.p (.i .i64 0)),(.p (.b false))])] (.seq (HX [ia 6 (mA 0),ia 7 (mA 1),ia 8 (cC 114 6 7),ia 9 (.bin .eql (.t 8) (.c (.a (.p (.s [40])))))] (HW 9 (HX [ia 10 (mA 0),ia 11 (mA 1),ia 12 (bC .add 11 1),
 ia 13 (cC 82 10 12),ia 5 (.new [(.p (.i .i64 0)),(.p (.s [])),(.p (.i .i64 0)),(.p (.i .i64 0)),.nil,(.p (.i .i64 0)),(.p (.b false))]),io (sA 7 5 13)] (.seq (HX [ia 14 (fA 6 5),ia 15 (lA 1 14),ia 16 (mA 15),ig 17 16 true (mA 0),ig 18 16 true (fA 5 5),ig 19 16 true (lA 1 18),ig 20 16 true (cC 114 17 19),
 ig 21 16 true (.bin .neq (.t 20) (.c (.a (.p (.s [41]))))),ia 22 (pB 16 21)] (HW 22 (HX [ia 23 (fA 5 5),ia 24 (lA 1 23),ia 25 (cB 152 24),io (sA 7 4 25)] .ret) .skip)) (HX [ia 26 (fA 5 5),ia 27 (lA 1 26),ia 28 (bC .add 27 1),ia 29 (fA 5 5),io (sA 1 29 28)] (.seq (HX [ia 30 (fA 6 5),ia 31 (lA 1 30),
 ia 32 (oA 31)] (HW 32 (.reg [ia 33 (fA 5 5),ia 34 (lA 1 33),ia 35 (bC .sub 34 1),ia 36 (fA 5 5),io (sA 1 36 35)]) .skip)) (HX [ia 37 (lB 7 5),io (sA 7 4 37)] .ret))))) .skip)) (.seq (HX [ia 38 (mA 0),ia 39 (mA 1),ia 40 (cC 151 38 39)] (.block 0 (HX [ia 42 (bC .eql 40 1),ia 41 (mA 42)] (HW 41 (HX [ir 43 (mA 0),
 ir 44 (mA 1),ir 45 (aA 4 43 44),ir 46 (fA 1 45),ir 47 (lA 1 46),ir 48 (mA 0),ir 49 (mA 1),ir 50 (aA 4 48 49),ir 51 (fA 3 50),ir 52 (lA 1 51),ir 53 (.build [(.p (.i .i64 0)),(.p (.s [])),(.p (.i .i64 0)),(.p (.i .i64 0)),.nil] [(0,(1,(ci 1))),(1,(1,(.t 47))),(3,(1,(.t 52)))]),ir 54 (mA 1),
 ir 55 (bC .add 54 1),ia 56 (cC 153 53 55),io (sA 7 4 56)] .ret) (HX [ia 58 (bC .eql 40 2),ia 57 (mA 58)] (HW 57 (HX [ir 59 (mA 0),ir 60 (mA 1),ir 61 (aA 4 59 60),ir 62 (fA 1 61),ir 63 (lA 1 62),ir 64 (mA 0),ir 65 (mA 1),ir 66 (aA 4 64 65),ir 67 (fA 3 66),ir 68 (lA 1 67),ir 69 (.build [(.p (.i .i64 0)),(.p (.s [])),(.p (.i .i64 0)),(.p (.i .i64 0)),.nil] [(0,(1,(ci 6))),(1,(1,(.t 63))),(3,(1,(.t 68)))]),
 ir 70 (mA 1),ir 71 (bC .add 70 1),ia 72 (cC 153 69 71),io (sA 7 4 72)] .ret) (HX [ia 74 (bC .eql 40 3),ia 73 (mA 74)] (HW 73 (HX [ir 75 (mA 0),ir 76 (mA 1),ir 77 (aA 4 75 76),ir 78 (fA 2 77),ir 79 (lA 1 78),ir 80 (mA 0),ir 81 (mA 1),ir 82 (aA 4 80 81),ir 83 (fA 3 82),ir 84 (lA 1 83),ir 85 (.build [(.p (.i .i64 0)),(.p (.s [])),(.p (.i .i64 0)),(.p (.i .i64 0)),.nil] [(0,(1,(ci 9))),(2,(1,(.t 79))),(3,(1,(.t 84)))]),
 ir 86 (mA 1),ir 87 (bC .add 86 1),ia 88 (cC 153 85 87),io (sA 7 4 88)] .ret) .skip)))))))) (HX [ia 89 (mA 1),ia 90 (cB 152 89),io (sA 7 4 90)] .ret)))),[(.cell 4 7 true)]⟩
theorem cc168:CK Tryz.f168=some (lH F168):=by kernel_rfl
def F169:FnC:=⟨2,(HX [ia 4 (.mv xF)] (HX [ia 6 (mA 0),ia 7 (mA 1),ia 8 (cC 151 6 7),ia 5 (mA 8)] (HX [ia 9 (mA 5),ia 10 (bC .geq 9 1),ia 11 (mA 10),ig 12 11 true (mA 5),ig 13 11 true (bC .leq 12 3),ia 14 (pB 11 13),ia 15 (mA 14),ig 16 15 false (mA 0),ig 17 15 false (mA 1),ig 18 15 false (cC 114 16 17),
 ig 19 15 false (.bin .eql (.t 18) (.c (.a (.p (.s [40]))))),ia 20 (pA 15 19),ia 4 (mA 20)] .ret))),[(.tmp 4)]⟩
theorem cc169:CK Tryz.f169=some (lH F169):=by kernel_rfl
def F170:FnC:=⟨1,(HX [ia 1 (bA 5 0),ia 2 (.mv xF)] (.seq (HX [ia 3 (fA 0 1),ia 4 (lA 1 3)] (.block 0 (.seq (HX [ia 6 (bC .eql 4 1),ia 5 (mA 6)] (HW 5 .skip (HX [ia 7 (bC .eql 4 2),ia 5 (mA 7)] (HW 5 .skip (HX [ia 8 (bC .eql 4 4),ia 5 (mA 8)] (HW 5 .skip (.reg [ia 9 (bC .eql 4 5),ia 5 (mA 9)]))))))) (HW 5 (HX [
 ia 10 (fA 1 1),ia 11 (lA 1 10),ia 12 (.call (.f 175) [(.t 11),(ci 1)]),ia 2 (mA 12)] .ret) (.seq (HX [ia 14 (bC .eql 4 6),ia 13 (mA 14)] (HW 13 .skip (.reg [ia 15 (bC .eql 4 8),ia 13 (mA 15)]))) (HW 13 (HX [ia 16 (fA 1 1),ia 17 (lA 1 16),ia 18 (.call (.f 175) [(.t 17),(ci 2)]),ia 2 (mA 18)] .ret) (HX [
 ia 20 (bC .eql 4 10),ia 19 (mA 20)] (HW 19 (HX [ia 21 (fA 1 1),ia 22 (lA 1 21),ia 23 (.bin .eql (.t 22) (.c (.a (.p (.s [43]))))),ia 24 (mA 23),ig 25 24 false (fA 1 1),ig 26 24 false (lA 1 25),ig 27 24 false (.bin .eql (.t 26) (.c (.a (.p (.s [45]))))),ia 28 (pA 24 27),ia 29 (mA 28),ig 30 29 false (fA 1 1),
 ig 31 29 false (lA 1 30),ig 32 29 false (.bin .eql (.t 31) (.c (.a (.p (.s [42]))))),ia 33 (pA 29 32),ia 34 (mA 33),ig 35 34 false (fA 1 1),ig 36 34 false (lA 1 35),ig 37 34 false (.bin .eql (.t 36) (.c (.a (.p (.s [47]))))),ia 38 (pA 34 37),ia 39 (mA 38),ig 40 39 false (fA 1 1),ig 41 39 false (lA 1 40),
 ig 42 39 false (.bin .eql (.t 41) (.c (.a (.p (.s [60]))))),ia 43 (pA 39 42),ia 44 (mA 43),ig 45 44 false (fA 1 1),ig 46 44 false (lA 1 45),ig 47 44 false (.bin .eql (.t 46) (.c (.a (.p (.s [61,61]))))),ia 48 (pA 44 47),ia 2 (mA 48)] .ret) .skip)))))))) (HX [ia 49 (fA 1 1),ia 50 (lA 1 49),ia 51 (.bin .eql (.t 50) (.c (.a (.p (.s []))))),
 ia 2 (mA 51)] .ret))),[(.tmp 2)]⟩
theorem cc170:CK Tryz.f170=some (lH F170):=by kernel_rfl
def F171:FnC:=⟨1,(HX [ia 1 (bA 5 0),ia 2 (.mv xF)] (HX [ia 4 (fA 4 1),ia 5 (lA 1 4),ia 6 (nA 5),ia 3 (mA 6)] (.seq (HX [ia 7 (fA 0 1),ia 8 (lA 1 7)] (.block 0 (HX [ia 10 (bC .eql 8 1),ia 9 (mA 10)] (HW 9 (HX [ia 11 (mA 3),ia 12 (bC .eql 11 0),ia 13 (mA 12),ig 14 13 true (fA 2 1),ig 15 13 true (lA 1 14),
 ig 16 13 true (bC .eql 15 0),ia 17 (pB 13 16),ia 2 (mA 17)] .ret) (HX [ia 19 (bC .eql 8 2),ia 18 (mA 19)] (HW 18 (HX [ia 20 (mA 3),ia 21 (bC .eql 20 1),ia 22 (mA 21),ig 23 22 true (fA 2 1),ig 24 22 true (lA 1 23),ig 25 22 true (bC .eql 24 0),ia 26 (pB 22 25),ia 2 (mA 26)] .ret) (.seq (HX [ia 28 (bC .eql 8 3),
 ia 27 (mA 28)] (HW 27 .skip (HX [ia 29 (bC .eql 8 4),ia 27 (mA 29)] (HW 27 .skip (HX [ia 30 (bC .eql 8 5),ia 27 (mA 30)] (HW 27 .skip (.reg [ia 31 (bC .eql 8 10),ia 27 (mA 31)]))))))) (HW 27 (HX [ia 32 (mA 3),ia 33 (bC .eql 32 2),ia 34 (mA 33),ig 35 34 true (fA 2 1),ig 36 34 true (lA 1 35),ig 37 34 true (bC .eql 36 0),
 ia 38 (pB 34 37),ia 2 (mA 38)] .ret) (HX [ia 40 (bC .eql 8 6),ia 39 (mA 40)] (HW 39 (HX [ia 41 (mA 3),ia 42 (bC .leq 41 8),ia 43 (mA 42),ig 44 43 true (fA 2 1),ig 45 43 true (lA 1 44),ig 46 43 true (bC .eql 45 0),ia 47 (pB 43 46),ia 2 (mA 47)] .ret) (HX [ia 49 (bC .eql 8 7),ia 48 (mA 49)] (HW 48 (HX [
 ia 50 (mA 3),ia 51 (bC .geq 50 2),ia 52 (mA 51),ig 53 52 true (mA 3),ig 54 52 true (bC .leq 53 9),ia 55 (pB 52 54),ia 56 (mA 55),ig 57 56 true (fA 2 1),ig 58 56 true (lA 1 57),ig 59 56 true (bC .eql 58 0),ia 60 (pB 56 59),ia 2 (mA 60)] .ret) (HX [ia 62 (bC .eql 8 8),ia 61 (mA 62)] (HW 61 (HX [ia 63 (fA 2 1),
 ia 64 (lA 1 63),ia 65 (bC .geq 64 0),ia 66 (mA 65),ig 67 66 true (fA 2 1),ig 68 66 true (lA 1 67),ig 69 66 true (bC .leq 68 8),ia 70 (pB 66 69),ia 71 (mA 70),ig 72 71 true (mA 3),ig 73 71 true (fA 2 1),ig 74 71 true (lA 1 73),ig 75 71 true (bC .add 74 1),ig 76 71 true (bB .eql 72 75),ia 77 (pB 71 76),
 ia 2 (mA 77)] .ret) (HX [ia 79 (bC .eql 8 9),ia 78 (mA 79)] (HW 78 (HX [ia 80 (mA 3),ia 81 (bC .eql 80 0),ia 82 (mA 81),ig 83 82 true (fA 2 1),ig 84 82 true (lA 1 83),ig 85 82 true (bC .geq 84 0),ia 86 (pB 82 85),ia 87 (mA 86),ig 88 87 true (fA 2 1),ig 89 87 true (lA 1 88),ig 90 87 true (bC .lss 89 1000000000000000000),
 ia 91 (pB 87 90),ia 2 (mA 91)] .ret) .skip)))))))))))))))) (HX [ia 2 (.mv xF)] .ret)))),[(.tmp 2)]⟩
theorem cc171:CK Tryz.f171=some (lH F171):=by kernel_rfl
def F172:FnC:=⟨2,(HX [ia 4 (.mv (.c (.a .nil)))] (HX [ia 5 (.bsl 1 9 [(.p (.s []))] 0 []),ia 6 (mA 0),ia 7 (.app 1 9 16 (.t 5) (.t 6)),ia 8 (mA 1),ia 9 (.bsl 1 9 [(.p (.s []))] 1 [(0,(.t 8))]),ia 10 (.app 1 9 16 (.t 7) (.t 9)),ia 4 (mA 10)] .ret)),[(.tmp 4)]⟩
theorem cc172:CK Tryz.f172=some (lH F172):=by kernel_rfl
def F173:FnC:=⟨1,(HX [ia 2 (.mv (.c (.a .nil)))] (.seq (HX [ia 3 (mA 0),ia 4 (.nq false (.t 3))] (HW 4 (HX [ia 2 (.mv (.c (.a .nil)))] .ret) .skip)) (HX [ia 5 (.bsl 2 42 [(.p (.i .i64 0)),(.p (.i .i64 0))] 0 []),ia 6 (mA 0),ia 7 (.app 2 42 16 (.t 5) (.t 6)),ia 2 (mA 7)] .ret))),[(.tmp 2)]⟩
theorem cc173:CK Tryz.f173=some (lH F173):=by kernel_rfl
def F174:FnC:=⟨1,(HX [ia 2 (.mv (.c (.a .nil)))] (.seq (HX [ia 3 (mA 0),ia 4 (.nq false (.t 3))] (HW 4 (HX [ia 2 (.mv (.c (.a .nil)))] .ret) .skip)) (HX [ia 5 (.bsl 6 46 [(.p (.i .i64 0)),(.p (.i .i64 0)),(.p (.i .i64 0)),(.p (.s [])),.nil,.nil] 0 []),ia 6 (mA 0),ia 7 (.app 6 46 88 (.t 5) (.t 6)),
 ia 2 (mA 7)] .ret))),[(.tmp 2)]⟩
theorem cc174:CK Tryz.f174=some (lH F174):=by kernel_rfl
def F175:FnC:=⟨2,(HX [ia 4 (.mv xF)] (.seq (HX [ia 7 (mA 0),ia 8 (.bin .eql (.t 7) (.c (.a (.p (.s [])))))] (HW 8 (HX [ia 4 (.mv xF)] .ret) .skip)) (HX [ia 10 (mA 0),ia 11 (.call (.f 113) [(.t 10),(ci 0)]),ia 9 (mA 11),ia 12 (eA 9 0),ia 13 (eA 9 1),ia 5 (.new [(.p (.i .i64 0)),(.p (.s [])),(.p (.i .i64 0)),(.p (.i .i64 0))]),
 io (sA 4 5 12),ia 6 (mA 13)] (HX [ia 14 (mA 6),ia 15 (bC .eql 14 0),ia 16 (mA 15),ig 17 16 true (fA 0 5),ig 18 16 true (lA 1 17),ig 19 16 true (mA 1),ig 20 16 true (bB .eql 18 19),ia 21 (pB 16 20),ia 22 (mA 21),ig 23 22 true (fA 1 5),ig 24 22 true (lA 1 23),ig 25 22 true (mA 0),ig 26 22 true (bB .eql 24 25),
 ia 27 (pB 22 26),ia 4 (mA 27)] .ret)))),[(.tmp 4)]⟩
theorem cc175:CK Tryz.f175=some (lH F175):=by kernel_rfl
def tblD:List (FuncId×FnC):=[(135,F135),(136,F136),(137,F137),(138,F138),(139,F139),(140,F140),(141,F141),(142,F142),(143,F143),(144,F144),(145,F145),(146,F146),(147,F147),(148,F148),(149,F149),(150,F150),(151,F151),(152,F152),(153,F153),(154,F154),(155,F155),(156,F156),(157,F157),(158,F158),(159,F159),(160,F160),(161,F161),(162,F162),(163,F163),(164,F164),(165,F165),(166,F166),(167,F167),(168,F168),(169,F169),(170,F170),(171,F171),(172,F172),(173,F173),(174,F174),(175,F175)]
theorem tblOkD:∀x,x∈tblD→∃fn,Tryz.prog.funcs[x.1]? =some fn∧CK fn=some (lH x.2):=by
 intro x hx
 simp only[tblD,qY,oZ,or_false]at hx
 rcases hx with rfl|rfl|rfl|rfl|rfl|rfl|rfl|rfl|rfl|rfl|rfl|rfl|rfl|rfl|rfl|rfl|rfl|rfl|rfl|rfl|rfl|rfl|rfl|rfl|rfl|rfl|rfl|rfl|rfl|rfl|rfl|rfl|rfl|rfl|rfl|rfl|rfl|rfl|rfl|rfl|rfl
 ·exact⟨_,Tryz.func135,cc135⟩
 ·exact⟨_,Tryz.func136,cc136⟩
 ·exact⟨_,Tryz.func137,cc137⟩
 ·exact⟨_,Tryz.func138,cc138⟩
 ·exact⟨_,Tryz.func139,cc139⟩
 ·exact⟨_,Tryz.func140,cc140⟩
 ·exact⟨_,Tryz.func141,cc141⟩
 ·exact⟨_,Tryz.func142,cc142⟩
 ·exact⟨_,Tryz.func143,cc143⟩
 ·exact⟨_,Tryz.func144,cc144⟩
 ·exact⟨_,Tryz.func145,cc145⟩
 ·exact⟨_,Tryz.func146,cc146⟩
 ·exact⟨_,Tryz.func147,cc147⟩
 ·exact⟨_,Tryz.func148,cc148⟩
 ·exact⟨_,Tryz.func149,cc149⟩
 ·exact⟨_,Tryz.func150,cc150⟩
 ·exact⟨_,Tryz.func151,cc151⟩
 ·exact⟨_,Tryz.func152,cc152⟩
 ·exact⟨_,Tryz.func153,cc153⟩
 ·exact⟨_,Tryz.func154,cc154⟩
 ·exact⟨_,Tryz.func155,cc155⟩
 ·exact⟨_,Tryz.func156,cc156⟩
 ·exact⟨_,Tryz.func157,cc157⟩
 ·exact⟨_,Tryz.func158,cc158⟩
 ·exact⟨_,Tryz.func159,cc159⟩
 ·exact⟨_,Tryz.func160,cc160⟩
 ·exact⟨_,Tryz.func161,cc161⟩
 ·exact⟨_,Tryz.func162,cc162⟩
 ·exact⟨_,Tryz.func163,cc163⟩
 ·exact⟨_,Tryz.func164,cc164⟩
 ·exact⟨_,Tryz.func165,cc165⟩
 ·exact⟨_,Tryz.func166,cc166⟩
 ·exact⟨_,Tryz.func167,cc167⟩
 ·exact⟨_,Tryz.func168,cc168⟩
 ·exact⟨_,Tryz.func169,cc169⟩
 ·exact⟨_,Tryz.func170,cc170⟩
 ·exact⟨_,Tryz.func171,cc171⟩
 ·exact⟨_,Tryz.func172,cc172⟩
 ·exact⟨_,Tryz.func173,cc173⟩
 ·exact⟨_,Tryz.func174,cc174⟩
 ·exact⟨_,Tryz.func175,cc175⟩
def tbl:List (FuncId×FnC):=tblA++tblB++tblC++tblD
theorem tblOk:∀x,x∈tbl→∃fn,Tryz.prog.funcs[x.1]? =some fn∧ccF Tryz.prog [(42,[0,0]),(107,[1,0]),(74,[0,0]),(36,[0,0,0,0,0,0,0,0,0]),(160,[0,0]),(42,[9]),(105,[8]),(107,[8]),(75,[8]),(106,[8]),(79,[8])] fn=some (lH x.2):=by
 intro x hx
 simp only[tbl,Sw,or_assoc]at hx
 rcases hx with hx|hx|hx|hx
 ·exact tblOkA x hx
 ·exact tblOkB x hx
 ·exact tblOkC x hx
 ·exact tblOkD x hx
def spN(f:FuncId):Bool:=f==173||f==174||f==97||f==128||f==93||f==87||f==26||f==49||f==50||f==91||f==129||f==130
def H8(f:FuncId)(ps:List PT):Option PT:=if f=145 then(match ps with|[.a (.l [])]=>some (.a (.l []))|_=>none)else none
def S:Seat:={fb:=fun f=>(tbl.find? (·.1==f)).map (·.2),sp:=spN,orc:=H8}
theorem spS(f:FuncId):S.sp f=spN f:=rfl
theorem xO{f:FuncId}(h:f≠145)(ps:List PT):S.orc f ps=none:=by show H8 f ps=none;unfold H8;rw[if_neg h]
structure Pt where
 n:Int
 s:Int
 deriving DecidableEq
structure Ar where
 s:List UInt8
 n:Int
 deriving DecidableEq
structure Nd where
 k:Int
 lv:Int
 n:Int
 s:List UInt8
 al:List Ar
 to:List Pt
 deriving DecidableEq
structure Nt where
 ns:List Nd
 cap:Int
 deriving DecidableEq
def xN(p:Pt):List PV:=[.i .i64 p.n,.i .i64 p.s]
def uO(a:Ar):List PV:=[.s a.s,.i .i64 a.n]
def Ug(x:Nd):List PV:=[.i .i64 x.k,.i .i64 x.lv,.i .i64 x.n,.s x.s,.l (x.al.map uO),.l (x.to.map xN)]
def Ip(n:Nt):List PV:=[.l (n.ns.map Ug),.i .i64 n.cap]
theorem bF(l:List Pt):((l.map xN).all fun r=>decide (r.length=2))=true:=by simp[xN]
theorem L5(l:List Ar):((l.map uO).all fun r=>decide (r.length=2))=true:=by simp[uO]
theorem XY(l:List Nd):((l.map Ug).all fun r=>decide (r.length=6))=true:=by simp[Ug]
def zP:Pt:=⟨0,0⟩
def zA:Ar:=⟨[],0⟩
def zN:Nd:=⟨0,0,0,[],[],[]⟩
theorem FA{l:List Pt}{i:Int}(h0:0≤i)(h1:i<l.length):(l.map xN)[i.toNat]? =some (xN (l.getD i.toNat zP)):=by
 rw[Qy,Kh,Xb (by omega)];rfl
theorem getA{l:List Ar}{i:Int}(h0:0≤i)(h1:i<l.length):(l.map uO)[i.toNat]? =some (uO (l.getD i.toNat zA)):=by
 rw[Qy,Kh,Xb (by omega)];rfl
theorem vH{l:List Nd}{i:Int}(h0:0≤i)(h1:i<l.length):(l.map Ug)[i.toNat]? =some (Ug (l.getD i.toNat zN)):=by
 rw[Qy,Kh,Xb (by omega)];rfl
def Nt.nd(n:Nt)(i:Int):Nd:=n.ns.getD i.toNat zN
def Nd.tt(x:Nd)(i:Int):Pt:=x.to.getD i.toNat zP
def Nt.lk(n:Nt)(p:Pt):Pt:=(n.nd p.n).tt p.s
def Nt.has(n:Nt)(p:Pt):Bool:=decide (p.n≥0)&&decide (p.n<n.ns.length)&&decide (p.s≥0)&&decide (p.s<(n.nd p.n).to.length)
def wf(i:Int):Prop:= -9223372036854775808≤i∧i≤9223372036854775807
theorem qI(n:Int)(h: -9223372036854775808≤n∧n≤9223372036854775807):IntKind.i64.wrap n=n:=IntWalk.i64_in n h
theorem zz(n:Nat)(h:n<9223372036854775807):IntKind.i64.wrap ((n:Int)+1)=((n+1:Nat):Int):=by rw[qI _ (by omega)];omega
structure Nd.Ok(x:Nd):Prop where
 k:wf x.k
 lv:wf x.lv
 n:wf x.n
 s:x.s.length≤140737488355328
 al:x.al.length*24≤140737488355328
 to:x.to.length*16≤140737488355328
 ap:∀a,a∈x.al→wf a.n
 tp:∀p,p∈x.to→wf p.n∧wf p.s
structure Nt.Ok(n:Nt):Prop where
 ns:n.ns.length*88≤140737488355328
 cap:wf n.cap
 nd:∀x,x∈n.ns→x.Ok
theorem Rv:Oi Tryz.prog [(42,[0,0]),(107,[1,0]),(74,[0,0]),(36,[0,0,0,0,0,0,0,0,0]),(160,[0,0]),(42,[9]),(105,[8]),(107,[8]),(75,[8]),(106,[8]),(79,[8])]:=by
 intro t sh h xa ya r he m σ w xs ys hx hy
 simp only[qY,ZP,oZ,or_false]at h
 rcases h with⟨rfl,rfl⟩|⟨rfl,rfl⟩|⟨rfl,rfl⟩|⟨rfl,rfl⟩|⟨rfl,rfl⟩|⟨rfl,rfl⟩|⟨rfl,rfl⟩|⟨rfl,rfl⟩|⟨rfl,rfl⟩|⟨rfl,rfl⟩|⟨rfl,rfl⟩
 ·exact Yq (sh:=[0,0]) Tryz.underlying42 (by kernel_rfl) (by kernel_rfl) ⟨by decide,rfl,⟨_,Tryz.underlying3⟩,by decide,rfl,⟨_,Tryz.underlying3⟩,trivial⟩ xa ya r he m σ w xs ys hx hy
 ·exact Yq (sh:=[1,0]) Tryz.underlying107 (by kernel_rfl) (by kernel_rfl) ⟨by decide,rfl,Tryz.underlying9,by decide,rfl,⟨_,Tryz.underlying3⟩,trivial⟩ xa ya r he m σ w xs ys hx hy
 ·exact Yq (sh:=[0,0]) Tryz.underlying74 (by kernel_rfl) (by kernel_rfl) ⟨by decide,rfl,⟨_,Tryz.underlying3⟩,by decide,rfl,⟨_,Tryz.underlying3⟩,trivial⟩ xa ya r he m σ w xs ys hx hy
 ·exact Q8 (k:=.i64) Tryz.underlying36 Tryz.underlying3 (by kernel_rfl) (by kernel_rfl) rfl (by kernel_rfl) xa ya r he m σ w xs ys hx hy
 ·exact Q8 (k:=.i64) Tryz.underlying160 Tryz.underlying3 (by kernel_rfl) (by kernel_rfl) rfl (by kernel_rfl) xa ya r he m σ w xs ys hx hy
 ·have h0:∀(a c:List AV),oz [9] a c=none:=fun a c=>by cases a<;>cases c<;>rfl
  rw[h0]at he;cases he
 ·have h0:∀(a c:List AV),oz [8] a c=none:=fun a c=>by cases a<;>cases c<;>rfl
  rw[h0]at he;cases he
 ·have h0:∀(a c:List AV),oz [8] a c=none:=fun a c=>by cases a<;>cases c<;>rfl
  rw[h0]at he;cases he
 ·have h0:∀(a c:List AV),oz [8] a c=none:=fun a c=>by cases a<;>cases c<;>rfl
  rw[h0]at he;cases he
 ·have h0:∀(a c:List AV),oz [8] a c=none:=fun a c=>by cases a<;>cases c<;>rfl
  rw[h0]at he;cases he
 ·have h0:∀(a c:List AV),oz [8] a c=none:=fun a c=>by cases a<;>cases c<;>rfl
  rw[h0]at he;cases he
set_option linter.defProp false in
def nxE:=And.intro (@Ip.eq_1) (And.intro (@Ug.eq_1) (And.intro (@xN.eq_1) (And.intro (@uO.eq_1) (And.intro (@spN.eq_1) (And.intro (@spS) (And.intro (@bF) (And.intro (@L5) (@XY))))))))
set_option linter.defProp false in
def nxB:=And.intro @fxa (And.intro @fxc (And.intro @fxE (And.intro @fxL (And.intro @fxI (And.intro @nxE (And.intro @evR.eq_1 (And.intro @evR.eq_2 (And.intro @evR.eq_3 (And.intro @evR.eq_4 (And.intro @evR.eq_5 (And.intro @evR.eq_6 (And.intro @evR.eq_7 (And.intro @evR.eq_8 (And.intro @evR.eq_9 (And.intro @evR.eq_10 (And.intro @evR.eq_11 (And.intro @evR.eq_12 (And.intro @evR.eq_13 (And.intro @evR.eq_14 (And.intro @evR.eq_15 (And.intro @evR.eq_16 (And.intro @evR.eq_17 (And.intro @evR.eq_18 (And.intro @evR.eq_19 (And.intro @evR.eq_20 (And.intro @evR.eq_21 (And.intro @evR.eq_22 (And.intro @evR.eq_23 (And.intro @evR.eq_24 (And.intro @evR.eq_25 (And.intro @evR.eq_26 (And.intro @evR.eq_27 (And.intro @evR.eq_28 (And.intro @dV.eq_1 (And.intro @dV.eq_2 (And.intro @dV.eq_3 (And.intro @cM.eq_1 (And.intro @cM.eq_2 (And.intro @cM.eq_3 (And.intro @mkT.eq_1 (And.intro @mkT.eq_2 (And.intro @lenA.eq_1 (And.intro @lenA.eq_2 (And.intro @lenA.eq_3 (And.intro @lenA.eq_4 (And.intro @lenA.eq_5 (And.intro @mE.eq_1 (And.intro @mE.eq_2 (And.intro @mE.eq_3 (And.intro @mE.eq_4 (And.intro @mE.eq_5 (And.intro @mE.eq_6 (And.intro @mE.eq_7 (And.intro @mE.eq_8 (And.intro @mE.eq_9 (And.intro @mE.eq_10 (And.intro @mE.eq_11 (And.intro @mE.eq_12 (And.intro @mE.eq_13 (And.intro @mE.eq_14 (And.intro @mE.eq_15 (And.intro @mE.eq_16 (And.intro @mE.eq_17 (And.intro @Env.init.eq_1 (And.intro @JC.eq_1 (And.intro @JC.eq_2 (And.intro @O2.eq_1 (And.intro @O2.eq_2 (And.intro @O2.eq_3 (And.intro @frT.eq_1 (And.intro @frT.eq_2 (And.intro @frT.eq_3 (And.intro @frT.eq_4 (And.intro @klT.eq_1 (And.intro @klT.eq_2 (And.intro @klT.eq_3 (And.intro @klT.eq_4 (And.intro @PZ.eq_1 (And.intro @PZ.eq_2 (And.intro @PZ.eq_3 (And.intro @PZ.eq_4 (And.intro @mO.eq_1 (And.intro @mO.eq_2 (And.intro @O.adds.eq_1 (And.intro @O.adds.eq_2 (And.intro @O.adds.eq_3 (And.intro @O.adds.eq_4 (And.intro @O.adds.eq_5 (And.intro @O.adds.eq_6 (And.intro @MQ.eq_1 (And.intro @MQ.eq_2 (And.intro @B2.eq_1 (And.intro @over.eq_1 (And.intro @eh.eq_1 (And.intro @eh.eq_2 (And.intro @yQ.eq_1 (And.intro @yQ.eq_2 (And.intro @yQ.eq_3 (And.intro @yQ.eq_4 (And.intro @J8.eq_1 (And.intro @J8.eq_2 (And.intro @J8.eq_3 (And.intro @J8.eq_4 (And.intro @ne_eq.{1} (And.intro @if_true.{1} (And.intro @if_false.{1} (@ite_self.{1})))))))))))))))))))))))))))))))))))))))))))))))))))))))))))))))))))))))))))))))))))))))))))))))))))))))))))
theorem kC(P:Program)(eqs:List (TypeId×List Nat)){fn:Func}{fc:FnC}(hm:P.follows .mixedOrders=true)(hE:Oi P eqs){f:FuncId}(hf:P.funcs[f]? =some fn)(hc:ccF P eqs fn=some (lH fc))
  (hfc:∃k el b,fc=⟨1,(.seq (.reg [⟨(.some 2),.none,(.mv (.c (.a .nil))),.any⟩]) (.seq (.seq (.reg [⟨(.some 3),.none,(.mv (.t 0)),.any⟩,⟨(.some 4),.none,(.nq false (.t 3)),.any⟩]) (.cond (.t 4) (.seq (.reg [⟨(.some 2),.none,(.mv (.c (.a .nil))),.any⟩]) .ret) .skip)) (.seq (.reg [
   ⟨(.some 5),.none,(.bsl k el b 0 []),.any⟩,⟨(.some 6),.none,(.mv (.t 0)),.any⟩,⟨(.some 7),.none,(.app k el 24 (.t 5) (.t 6)),.any⟩,⟨(.some 2),.none,(.mv (.t 7)),.any⟩]) .ret))),[(.tmp 2)]⟩∧∃z,frL .empty b=some z∧∀σ,frL σ b=some z):
  Ent P f∧QP P f [.a (.l [])] (.a (.l [])):=by
 obtain⟨k,el,b,rfl,z,hz0,hz⟩:=hfc
 have key:∀a c,∃v σ',Ent P f∧(∀m w vals,SR (CRP P eqs) m .empty w→F2 (RT m .empty w) [.a (.raw (.slice a 0 c))] vals→∀rr n,CallsIn (FW rr) n P f vals.toArray w (HQ (CRP P eqs) m .empty w v σ'))∧frT σ' v=some (.a (.l [])):=by
  intro a c
  cases a with
  |none=>
   have:=Xv (cp:=fun _ _=>none) (cs:=fun _ _ _=>none) (sp:=fun _=>false) (σ:=.empty) hm hE (fun _ _ _ h=>by cases h) (fun _ _ _ _ _ h=>by cases h) hf hc (args:=[.a (.raw (.slice none 0 c))]) (fuel:=0) rfl rfl (.inr rfl) rfl rfl
   exact⟨_,_,this.1,this.2,rfl⟩
  |some a=>
   have hev:evC (fun _ _=>none) (fun _ _ _=>none) (fun _=>false) 0 false (.seq (.reg [⟨(.some 2),.none,(.mv (.c (.a .nil))),.any⟩]) (.seq (.seq (.reg [⟨(.some 3),.none,(.mv (.t 0)),.any⟩,⟨(.some 4),.none,(.nq false (.t 3)),.any⟩]) (.cond (.t 4) (.seq (.reg [⟨(.some 2),.none,(.mv (.c (.a .nil))),.any⟩]) .ret) .skip)) (.seq (.reg [
     ⟨(.some 5),.none,(.bsl k el b 0 []),.any⟩,⟨(.some 6),.none,(.mv (.t 0)),.any⟩,⟨(.some 7),.none,(.app k el 24 (.t 5) (.t 6)),.any⟩,⟨(.some 2),.none,(.mv (.t 7)),.any⟩]) .ret))) (Env.init [.a (.raw (.slice (some a) 0 c))]) .empty=
     some (.ret,((((((Env.init [.a (.raw (.slice (some a) 0 c))]).put 2 (.a .nil)).put 3 (.a (.raw (.slice (some a) 0 c)))).put 4 (.a (.p (.b false)))).put 5 (.a (.own (5,0) 0 0))).put 6 (.a (.raw (.slice (some a) 0 c)))).put 7 (.a (.own (7,1) 0 0))|>.put 2 (.a (.own (7,1) 0 0)),(((St.empty.add 5 (.row k el [])).kill (5,0)).add 7 (.row k el []))):=by
    simp[evC,wz,evI,evO,evR,ev,Env.init,Env.put,Env.putD,xY,hz,evO.bslRows,St.add,St.put,St.kill,St.empty,B2,frA,zd]
    try rfl
   have:=Xv (cp:=fun _ _=>none) (cs:=fun _ _ _=>none) (sp:=fun _=>false) (σ:=.empty) hm hE (fun _ _ _ h=>by cases h) (fun _ _ _ _ _ h=>by cases h) hf hc (args:=[.a (.raw (.slice (some a) 0 c))]) (fuel:=0) rfl hev (.inr rfl) rfl rfl
   exact⟨_,_,this.1,this.2,by simp[frT,frA,St.add,St.put,St.kill,St.empty]⟩
 obtain⟨_,_,hent,_,_⟩:=key none 0
 refine⟨hent,fun w D vs hD hps rr n=>?_⟩
 cases hps with
 |cons x r=>
  cases r
  rename_i v
  have x:RP w D (.l []) v:=x
  obtain⟨a,c,rfl⟩:=x.slice
  obtain⟨v,σ',_,hcall,hfr⟩:=key a c
  let m:Mt:={mu:=fun _=>none,la:=fun _=>0,D:=D}
  have hno:∀b,¬InS m .empty b:=by
   rintro b (⟨s,bl,c,hs,_⟩|⟨l,hl,_⟩)
   ·simp[St.empty]at hs
   ·simp[St.empty]at hl
  have hR:SR (CRP P eqs) m .empty w:=
   {blk:=fun s b hs=>by simp[St.empty]at hs,gen:=fun s b hs=>by simp[St.empty]at hs,inj:=fun s s' b b' B c c' hs=>by simp[St.empty]at hs
    dj:=fun b hb=>absurd hb (hno b),dlt:=hD,lrs:=fun l r hl=>by simp[St.empty]at hl,linj:=fun l l' hl=>by simp[St.empty]at hl}
  refine(hcall m w [.slice a 0 c] hR (.cons ⟨rfl,rfl⟩ .nil) rr n).mono ?_
  rintro e w' ⟨v,m',rfl,j1,j2,j3⟩
  refine⟨v,rfl,?_,?_⟩
  ·refine RPT.mono (fun b hb=>⟨?_,rfl⟩) (WT j1 j2 hfr)
   rcases hb with hb|hb
   ·rcases j3.new b hb with h5|h5|h5
    ·exact .inl h5
    ·exact .inr ⟨h5,j1.dlt b hb⟩
    ·exact absurd h5 (hno b)
   ·rcases j3.img b hb with h5|h5
    ·exact absurd h5 (hno b)
    ·exact .inr ⟨h5,j1.inS_lt hb⟩
  ·exact {size:=j3.size,block:=fun b hb=>j3.kept b hb (hno b),os:=j3.os,tape:=j3.tape,output:=j3.output}
theorem E2:SeatOk Tryz.prog [(42,[0,0]),(107,[1,0]),(74,[0,0]),(36,[0,0,0,0,0,0,0,0,0]),(160,[0,0]),(42,[9]),(105,[8]),(107,[8]),(75,[8]),(106,[8]),(79,[8])] S where
 mixed:=by kernel_rfl
 eql:=Rv
 fb f fc h:=by
  simp only[S,zf]at h
  obtain⟨x,h1,rfl⟩:=h
  have h2:=List.find?_some h1
  have h3:=tblOk x (List.mem_of_find?_eq_some h1)
  simp only[beq_iff_eq]at h2
  rw[←h2];exact h3
 orc f ps r h:=by
  have h2:H8 f ps=some r:=h
  clear h
  unfold H8 at h2
  split at h2
  ·rename_i hf
   subst hf
   split at h2
   ·simp only[Lo]at h2;subst h2
    exact kC Tryz.prog _ (by kernel_rfl) Rv Tryz.func145 cc145 ⟨2,107,_,rfl,_,rfl,fun _=>rfl⟩
   ·cases h2
  ·cases h2
theorem uA(n:Nt)(p:Pt):eP S 35 [.g (Ip n),.g (xN p)]=some (.a (.b (n.has p))):=by
 refine Cf (xO (by decide)) (fc:=F35) rfl rfl ?_
 by_cases h1:p.n≥0
 ·by_cases h2:p.n<n.ns.length
  ·have g:=vH (l:=n.ns) h1 h2
   have h1':0≤p.n:=h1
   by_cases h3:p.s≥0
   ·simp only[F35,Nt.has,Nt.nd,h1,h1',h2,h3,g,nxB,evO,simprocAttr]
    rfl
   ·simp only[F35,Nt.has,Nt.nd,h1,h1',h2,h3,g,nxB,evO,simprocAttr]
  ·simp only[F35,Nt.has,h1,h2,nxB,evO,simprocAttr]
 ·simp only[F35,Nt.has,h1,nxB,evO,simprocAttr]
theorem y7(n:Nt)(p:Pt)(k:Key)(σ:St)(hk:σ.bs k=some (.var ((Ip n).map .p)))(hlt:k.2<σ.clk):
  eS S (.f 138) [.g ((xN p).map .p),.a (.ptr k 0 0)] σ=some (.a (.p (.b (!n.has p))),σ.add 2 (.var ((xN p).map .p))):=by
 have hne:¬k=(2,σ.clk):=by rintro rfl;exact TZ _ hlt
 simp only[Ip,zx,XM]at hk
 refine kZ (fc:=F138) rfl rfl ?_
 by_cases h1:p.n<0
 ·have h1':¬p.n≥0:=by omega
  simp only[F138,Nt.has,h1,h1',hk,hne,nxB,evO,simprocAttr]
 ·have h1':p.n≥0:=by omega
  have h1'':0≤p.n:=by omega
  by_cases h2:p.n≥n.ns.length
  ·have h2':¬p.n<n.ns.length:=by omega
   simp only[F138,Nt.has,h1,h1',h2,h2',hk,hne,nxB,evO,simprocAttr]
  ·have h2':p.n<n.ns.length:=by omega
   have g:=vH (l:=n.ns) h1'' h2'
   by_cases h3:p.s<0
   ·have h3':¬p.s≥0:=by omega
    simp only[F138,Nt.has,h1,h1',h1'',h2,h2',h3,h3',g,hk,hne,nxB,evO,simprocAttr]
   ·have h3':p.s≥0:=by omega
    by_cases h4:p.s≥(n.nd p.n).to.length
    ·have h4':¬p.s<(n.nd p.n).to.length:=by omega
     simp only[Nt.nd]at h4 h4'
     simp only[F138,Nt.has,Nt.nd,h1,h1',h1'',h2,h2',h3,h3',h4,h4',g,hk,hne,nxB,evO,simprocAttr]
    ·have h4':p.s<(n.nd p.n).to.length:=by omega
     simp only[Nt.nd]at h4 h4'
     simp only[F138,Nt.has,Nt.nd,h1,h1',h1'',h2,h2',h3,h3',h4,h4',g,hk,hne,nxB,evO,simprocAttr]
def idx{α:Type}(f:α→Bool)(l:List α):Int:=match l.findIdx? f with|some i=>(i:Int)|none=> -1
theorem pg(l:List Pt)(hl:l.length*16≤140737488355328)(g:FuncId)(caps:List Key)(hc:caps≠[])(hsp:spN g=false)(f:Pt→Bool)(R:St→Prop)
  (hR:∀p σ,R σ→∃σ',eS S (.f g) ([.g ((xN p).map .p)]++caps.map fun s=>.a (.ptr s 0 0)) σ=some (.a (.p (.b (f p))),σ')∧R σ') (σ:St) (h0:R σ):
  ∃σ',eS S (.f 166) [.a (.p (.l (l.map xN))),.a (.fn g caps)] σ=some (.a (.p (.i .i64 (idx f l))),σ')∧R σ':=by
 obtain⟨c1,cr,rfl⟩:∃c1 cr,caps=c1::cr:=by
  cases caps with
  |nil=>exact absurd rfl hc
  |cons c1 cr=>exact⟨c1,cr,rfl⟩
 refine Zy (fc:=F166) rfl rfl ?_
 simp only[F166,nxB,evO,simprocAttr]
 refine Fs l.length (fun i e σ=>e 0= .a (.p (.l (l.map xN)))∧e 1= .a (.fn g (c1::cr))∧e 7= .a (.p (.i .i64 l.length))∧e 8= .a (.p (.i .i64 (i:Nat)))∧R σ∧∀j x,j<i→l[j]? =some x→f x=false) (i0:=0) (ji _) ?_ ?_ ?_
 ·refine⟨?_,?_,?_,?_,h0,fun j x hj=>by omega⟩<;>simp only[nxB,evO,simprocAttr]
  try rfl
 ·rintro i e σ hi ⟨e0,e1,e7,e8,hRσ,hall⟩
  have hlt:((i:Nat):Int)<(l.length:Int):=by omega
  have hge:(0:Int)≤((i:Nat):Int):=by omega
  obtain⟨x,hx⟩:∃x,l[i]? =some x:=⟨_,Xb hi⟩
  have hx':(l.map xN)[i]? =some (xN x):=by simp only[Qy,hx,lT]
  obtain⟨σ2,hcall,hR2⟩:=hR x σ hRσ
  simp only[xN,zx,XM,Hh,Es]at hcall
  simp only[F166b0,e0,e1,e7,e8,hlt,hge,hx',hsp,hcall,SY,nxB,evO,simprocAttr]
  refine pG (fun hf=>?_) (fun hf=>?_)
  ·simp only[nxB,evO,simprocAttr]
   refine⟨?_,hR2⟩
   have:l.findIdx? f=some i:=by
    rw[oO]
    refine⟨hi,?_,fun j hj=>?_⟩
    ·rw[Xb hi]at hx;rw[BQ hx];exact hf
    ·rw[hall j _ hj (Xb (by omega))];simp
   simp only[idx,this]
  ·simp only[e0,e1,e7,e8,nxB,evO,simprocAttr]
   refine⟨by rw[zz i (by omega)],hR2,fun j y hj hy=>?_⟩
   by_cases e:j=i
   ·subst e;rw[hx]at hy;rw[←BQ hy];exact hf
   ·exact hall j y (by omega) hy
 ·rintro e σ ⟨e0,e1,e7,e8,hRσ,hall⟩
  have hlt:¬((l.length:Nat):Int)<(l.length:Int):=by omega
  simp only[F166b0,e0,e1,e7,e8,hlt,nxB,evO,simprocAttr]
  refine⟨?_,hRσ⟩
  have:l.findIdx? f=none:=by
   rw[iU]
   intro x hx
   obtain⟨j,hj⟩:=IL hx
   exact hall j x (QU.1 hj).1 hj
  simp only[idx,this]
theorem OS{α:Type}(f:α→Bool)(l:List α):decide (idx f l≥0)=l.any f:=by
 unfold idx
 cases h:l.findIdx? f with
 |none=>
  rw[iU]at h
  have:l.any f=false:=by rw[GL];intro x hx;simp[h x hx]
  rw[this];rfl
 |some i=>
  rw[oO]at h
  obtain⟨hi,hf,_⟩:=h
  have:l.any f=true:=by rw[qB];exact⟨_,xA hi,hf⟩
  rw[this];simp
theorem rD(n:Nt)(l:List Pt)(hl:l.length*16≤140737488355328):eP S 100 [.g (Ip n),.a (.l (l.map xN))]=some (.a (.b (l.all n.has))):=by
 refine Cf (xO (by decide)) (fc:=F100) rfl rfl ?_
 have key:∀σ:St,σ.bs (2,0)=some (.var ((Ip n).map .p))→1≤σ.clk→∃σ',eS S (.f 137) [.a (.p (.l (l.map xN))),.a (.fn 138 [(2,0)])] σ=some (.a (.p (.b (l.any fun p=> !n.has p))),σ'):=by
  intro σ h2 hc
  obtain⟨σ',h,_⟩:=pg l hl 138 [(2,0)] (by simp) (by decide) (fun p=> !n.has p) (fun σ=>σ.bs (2,0)=some (.var ((Ip n).map .p))∧1≤σ.clk) (fun p σ hσ=>⟨_,y7 n p (2,0) σ hσ.1 (by have:=hσ.2;simp;omega),by
   refine⟨?_,?_⟩
   ·simp only[Mq];rw[if_neg (by rintro h;have:=hσ.2;simp at h;omega)];exact hσ.1
   ·simp only[Bv];omega⟩) σ ⟨h2,hc⟩
  obtain⟨v,σ2,h2,rfl,_⟩:=ZE (S:=S) (g:=137) (fc:=F137) rfl (args:=[.a (.p (.l (l.map xN))),.a (.fn 138 [(2,0)])]) rfl (σ:=σ) (K:=fun v σ2=>v= .a (.p (.b (l.any fun p=> !n.has p)))∧True) (by
   simp only[F137,h,OS,nxB,evO,simprocAttr])
  exact⟨σ2,h2⟩
 obtain⟨σ',hcall⟩:=key (((St.empty.add 2 (.var ((Ip n).map .p))))) (by simp[Mq,Sx]) (by simp[Bv,Sx])
 have hall:(!l.any fun p=> !n.has p)=l.all n.has:=by simp[List.all_eq_not_any_not]
 simp only[Ip,zx,XM]at hcall
 simp only[F100,Wk,hcall,hall,nxB,evO,simprocAttr]
theorem zB{n:Nt}{p:Pt}(h:n.has p=true):eP S 101 [.g (Ip n),.g (xN p)]=some (.g (xN (n.lk p))):=by
 simp only[Nt.has,Cd,decide_eq_true_eq]at h
 obtain⟨⟨⟨h1,h2⟩,h3⟩,h4⟩:=h
 have g:=vH (l:=n.ns) h1 h2
 have g2:=FA (l:=(n.nd p.n).to) h3 h4
 have h1':0≤p.n:=h1
 have h3':0≤p.s:=h3
 simp only[Nt.nd]at h4 g2
 refine Cf (xO (by decide)) (fc:=F101) rfl rfl ?_
 simp only[F101,Nt.lk,Nt.nd,Nd.tt,h1',h2,h3',h4,g,g2,nxB,evO,simprocAttr]
def Nt.set(n:Nt)(p q:Pt):Nt:={n with ns:=n.ns.set p.n.toNat {n.nd p.n with to:=(n.nd p.n).to.set p.s.toNat q}}
theorem OO(rows:List (List PV))(hne:rows≠[])(hl:rows.length*16≤140737488355328)(h2:(rows.all fun r=>decide (r.length=2))=true)(σ:St):
  eS S (.f 173) [.a (.p (.l rows))] σ=some (.a (.own (7,σ.clk+1) 0 rows.length),((σ.add 5 (.row 2 42 [])).kill (5,σ.clk)).add 7 (.row 2 42 rows)):=by
 cases rows with
 |nil=>exact absurd rfl hne
 |cons r rows=>
  refine kZ (fc:=F173) rfl rfl ?_
  have hl':(rows.length+1)*16≤140737488355328:=hl
  simp only[KF]at h2
  simp only[F173,xY,hl',h2,nxB,evO,simprocAttr]
theorem kH(rows:List (List PV))(hne:rows≠[])(hl:rows.length*88≤140737488355328)(h2:(rows.all fun r=>decide (r.length=6))=true)(σ:St):
  eS S (.f 174) [.a (.p (.l rows))] σ=some (.a (.own (7,σ.clk+1) 0 rows.length),((σ.add 5 (.row 6 46 [])).kill (5,σ.clk)).add 7 (.row 6 46 rows)):=by
 cases rows with
 |nil=>exact absurd rfl hne
 |cons r rows=>
  refine kZ (fc:=F174) rfl rfl ?_
  have hl':(rows.length+1)*88≤140737488355328:=hl
  simp only[KF]at h2
  simp only[F174,xY,hl',h2,nxB,evO,simprocAttr]
theorem Ca{α:Type}(l:List α)(f:α→List PV)(j:Nat)(z:List PV):List.take l.length ((l.map f).set j z)=(l.map f).set j z:=Ea (by simp)
theorem Zw{n:Nt}{p:Pt}(q:Pt)(hn:n.Ok)(h:n.has p=true):eP S 167 [.g (Ip n),.g (xN p),.g (xN q)]=some (.g (Ip (n.set p q))):=by
 simp only[Nt.has,Cd,decide_eq_true_eq]at h
 obtain⟨⟨⟨h1,h2⟩,h3⟩,h4⟩:=h
 have g:=vH (l:=n.ns) h1 h2
 have h1':0≤p.n:=h1
 have h3':0≤p.s:=h3
 have hx:(n.nd p.n).Ok:=hn.nd _ (by unfold Nt.nd;rw[Kh,Xb (by omega)];exact xA _)
 have hto:=hx.to
 have hns:=hn.ns
 have g2:=FA (l:=(n.nd p.n).to) h3 h4
 have c1:=OO ((n.nd p.n).to.map xN) (by intro h;simp at h;rw[h]at h4;simp at h4;omega) (by simpa using hto) (bF _)
 have c2:=kH (n.ns.map Ug) (by intro h;simp at h;rw[h]at h2;simp at h2;omega) (by simpa using hns) (XY _)
 obtain⟨x,hxe⟩:∃x,n.ns.getD p.n.toNat zN=x:=⟨_,rfl⟩
 simp only[Nt.nd,hxe,mB]at h4 g g2 c1 c2
 refine Cf (xO (by decide)) (fc:=F167) rfl rfl ?_
 simp only[F167,h1',h2,h3',h4,g,g2,c1,c2,Ci,Ca,rm,ne_eq,not_false_eq_true,nxB,evO,simprocAttr]
 simp only[Nt.set,Nt.nd,hxe,JV,Ug,xN]
theorem DP(p q:Pt):(decide (p.n=q.n)&&decide (p.s=q.s))=decide (p=q):=by
 obtain⟨a,b⟩:=p
 obtain⟨c,d⟩:=q
 rw[Gy];simp
theorem sJ{n:Nt}{p:Pt}:n.has p=true↔0≤p.n∧p.n<n.ns.length∧0≤p.s∧p.s<(n.nd p.n).to.length:=by
 simp only[Nt.has,Cd,decide_eq_true_eq,ge_iff_le,and_assoc]
theorem yO(n:Nt)(p q:Pt)(hp:n.has p=true)(i:Int)(hi:0≤i):(n.set p q).nd i=if i=p.n then {n.nd p.n with to:=(n.nd p.n).to.set p.s.toNat q}else n.nd i:=by
 rw[sJ]at hp
 unfold Nt.set Nt.nd
 simp only
 rw[Kh,KC,Kh,Kh]
 by_cases h:i=p.n
 ·subst h;rw[if_pos rfl,if_pos rfl,if_pos (by omega)];rfl
 ·rw[if_neg h,if_neg (by omega)]
theorem B5(n:Nt)(p q:Pt):(n.set p q).ns.length=n.ns.length:=by simp[Nt.set]
theorem HG{n:Nt}{p:Pt}(q r:Pt)(hp:n.has p=true):(n.set p q).has r=n.has r:=by
 rw[Gy,sJ,sJ,B5]
 constructor
 ·rintro⟨h1,h2,h3,h4⟩
  rw[yO n p q hp _ h1]at h4
  refine⟨h1,h2,h3,?_⟩
  split at h4
  ·rename_i e;rw[e];simpa using h4
  ·exact h4
 ·rintro⟨h1,h2,h3,h4⟩
  refine⟨h1,h2,h3,?_⟩
  rw[yO n p q hp _ h1]
  split
  ·rename_i e;rw[e]at h4;simpa using h4
  ·exact h4
theorem oP{n:Nt}{i:Int}(h0:0≤i)(h1:i<n.ns.length):n.nd i∈n.ns:=by
 unfold Nt.nd;rw[Kh,Xb (by omega)];exact xA _
theorem yd{n:Nt}{p q:Pt}(hn:n.Ok)(hp:n.has p=true)(hq:wf q.n∧wf q.s):(n.set p q).Ok:=by
 rw[sJ]at hp
 have hx:=hn.nd _ (oP hp.1 hp.2.1)
 refine⟨by rw[B5];exact hn.ns,hn.cap,fun x hx'=>?_⟩
 rcases MH hx' with h|rfl
 ·exact hn.nd x h
 ·exact⟨hx.k,hx.lv,hx.n,hx.s,hx.al,by simpa using hx.to,hx.ap,fun r hr=>by
   rcases MH hr with h|rfl
   ·exact hx.tp r h
   ·exact hq⟩
theorem NV{n:Nt}{p:Pt}(q r:Pt)(hp:n.has p=true)(hr:n.has r=true):(n.set p q).lk r=if r=p then q else n.lk r:=by
 have hr':=sJ.1 hr
 have hp':=sJ.1 hp
 unfold Nt.lk
 rw[yO n p q hp _ hr'.1]
 by_cases h:r=p
 ·subst h;rw[if_pos rfl,if_pos rfl]
  simp only[Nd.tt,Kh,KC]
  rw[if_pos trivial,if_pos (by omega)];rfl
 ·rw[if_neg h]
  split
  ·rename_i e
   have hs:r.s≠p.s:=by intro h2;apply h;obtain⟨a,b⟩:=r;obtain⟨c,d⟩:=p;simp only at e h2;subst e h2;rfl
   simp only[Nd.tt,Kh,KC]
   rw[if_neg (by omega),e]
  ·rfl
def KD(n:Nt)(p q:Pt):Nt×Int:=if(n.has p&&n.has q&& !decide (p=q))=true then((n.set p q).set q p,0)else(n,130)
def Qs(n:Nt)(p q:Pt):Nt×Int:=if(n.has p&&n.has q&& !decide (p=q)&&n.has (n.lk p))=true then(if n.lk p=q then(n,0)else KD n q (n.lk p))else(n,130)
def iY(n:Nt)(p q:Pt):Nt×Int:=if(n.has p&&n.has q&& !decide (p=q)&&n.has (n.lk p)&&n.has (n.lk q))=true then(if n.lk p=q then(n,0)else KD n (n.lk p) (n.lk q))else(n,130)
def qX(x:Nt×Int):PT:=.t [(true,Ip x.1),(false,[.i .i64 x.2])]
theorem MJ(n:Nt)(p:Pt):eP S 100 [.g (Ip n),.a (.l [xN p])]=some (.a (.b (n.has p))):=by
 have:=rD n [p] (by simp);simpa using this
theorem jR(n:Nt)(p q:Pt):eP S 100 [.g (Ip n),.a (.l [xN p,xN q])]=some (.a (.b (n.has p&&n.has q))):=by
 have:=rD n [p,q] (by simp);simpa using this
theorem G5{n:Nt}{p q:Pt}(hn:n.Ok)(hp:wf p.n∧wf p.s)(hq:wf q.n∧wf q.s):eP S 144 [.g (Ip n),.g (xN p),.g (xN q)]=some (qX (KD n p q)):=by
 have a1:=jR n p q
 refine Cf (xO (by decide)) (fc:=F144) rfl rfl ?_
 simp only[Ip,xN]at a1
 unfold KD
 cases h1:(n.has p&&n.has q)with
 |false=>simp only[F144,a1,h1,qX,nxB,evO,simprocAttr]
 |true=>
  rw[Cd]at h1
  by_cases h2:p=q
  ·subst h2
   simp only[F144,a1,h1.1,qX,DP,WQ,nxB,evO,simprocAttr]
  ·have a2:=Zw q hn h1.1
   have a3:=Zw p (yd hn h1.1 hq) (by rw[HG q q h1.1];exact h1.2)
   simp only[Ip,xN]at a2 a3
   simp only[F144,a1,a2,a3,h1.1,h1.2,h2,qX,DP,nxB,evO,simprocAttr]
theorem pQ(n:Nt)(p:Pt):eP S 60 [.g (Ip n),.g (xN p)]=some (.t [(true,xN (if n.has p then n.lk p else zP)),(false,[.i .i64 (if n.has p then 0 else 130)])]):=by
 have a1:=MJ n p
 refine Cf (xO (by decide)) (fc:=F60) rfl rfl ?_
 simp only[Ip,xN]at a1
 cases h1:n.has p with
 |false=>simp only[F60,a1,h1,zP,SY,nxB,evO,simprocAttr]
 |true=>
  have a2:=zB h1
  simp only[Ip,xN]at a2
  simp only[F60,a1,a2,h1,nxB,evO,simprocAttr]
theorem wy{n:Nt}{p q:Pt}(hn:n.Ok)(hp:wf p.n∧wf p.s)(hq:wf q.n∧wf q.s):eP S 143 [.g (Ip n),.g (xN p),.g (xN q)]=some (qX (KD n p q)):=by
 have a1:=G5 hn hp hq
 refine Cf (xO (by decide)) (fc:=F143) rfl rfl ?_
 obtain⟨m,hm⟩:∃m,KD n p q=m:=⟨_,rfl⟩
 obtain⟨⟨ms,mc⟩,me⟩:=m
 rw[hm]at a1⊢
 simp only[qX,Ip,xN]at a1
 simp only[F143,a1,qX,nxB,evO,simprocAttr]
theorem Oy{n:Nt}{p:Pt}(hn:n.Ok)(h:n.has p=true):wf (n.lk p).n∧wf (n.lk p).s:=by
 rw[sJ]at h
 refine(hn.nd _ (oP h.1 h.2.1)).tp _ ?_
 unfold Nt.lk Nd.tt
 rw[Kh,Xb (by omega)];exact xA _
theorem cF{n:Nt}{p q:Pt}(hn:n.Ok)(hp:wf p.n∧wf p.s)(hq:wf q.n∧wf q.s):eP S 109 [.g (Ip n),.g (xN p),.g (xN q)]=some (qX (Qs n p q)):=by
 have a1:=jR n p q
 refine Cf (xO (by decide)) (fc:=F109) rfl rfl ?_
 simp only[Ip,xN]at a1
 unfold Qs
 cases h1:(n.has p&&n.has q)with
 |false=>simp only[F109,a1,h1,qX,SY,nxB,evO,simprocAttr]
 |true=>
  rw[Cd]at h1
  by_cases h2:p=q
  ·subst h2
   simp only[F109,a1,h1.1,qX,DP,SY,WQ,nxB,evO,simprocAttr]
  ·have a2:=zB h1.1
   have a3:=MJ n (n.lk p)
   simp only[Ip,xN]at a2 a3
   cases h3:n.has (n.lk p)with
   |false=>simp only[F109,a1,a2,a3,h1.1,h1.2,h2,h3,qX,DP,SY,nxB,evO,simprocAttr]
   |true=>
    by_cases h4:n.lk p=q
    ·subst h4
     simp only[F109,a1,a2,a3,h1.1,h1.2,h2,qX,DP,SY,nxB,evO,simprocAttr]
    ·have a4:=G5 hn hq (Oy hn h1.1)
     obtain⟨m,hm⟩:∃m,KD n q (n.lk p)=m:=⟨_,rfl⟩
     obtain⟨⟨ms,mc⟩,me⟩:=m
     rw[hm]at a4⊢
     simp only[qX,Ip,xN]at a4
     simp only[F109,a1,a2,a3,a4,h1.1,h1.2,h2,h3,h4,qX,DP,SY,nxB,evO,simprocAttr]
theorem Bu{n:Nt}{p q:Pt}(hn:n.Ok)(hp:wf p.n∧wf p.s)(hq:wf q.n∧wf q.s):eP S 142 [.g (Ip n),.g (xN p),.g (xN q)]=some (qX (iY n p q)):=by
 have a1:=jR n p q
 refine Cf (xO (by decide)) (fc:=F142) rfl rfl ?_
 simp only[Ip,xN]at a1
 unfold iY
 cases h1:(n.has p&&n.has q)with
 |false=>simp only[F142,a1,h1,qX,SY,nxB,evO,simprocAttr]
 |true=>
  rw[Cd]at h1
  by_cases h2:p=q
  ·subst h2
   simp only[F142,a1,h1.1,qX,DP,SY,WQ,nxB,evO,simprocAttr]
  ·have a2:=zB h1.1
   have a2':=zB h1.2
   have a3:=jR n (n.lk p) (n.lk q)
   simp only[Ip,xN]at a2 a2' a3
   cases h3:(n.has (n.lk p)&&n.has (n.lk q))with
   |false=>
    have h3':(true&&true&&true&&n.has (n.lk p)&&n.has (n.lk q))=false:=by simpa using h3
    simp only[F142,a1,a2,a2',a3,h1.1,h1.2,h2,h3,h3',qX,DP,SY,Bool.and_assoc,nxB,evO,simprocAttr]
   |true=>
    rw[Cd]at h3
    by_cases h4:n.lk p=q
    ·subst h4
     simp only[F142,a1,a2,a2',a3,h1.1,h1.2,h2,h3.2,qX,DP,SY,nxB,evO,simprocAttr]
    ·have a4:=G5 hn (Oy hn h1.1) (Oy hn h1.2)
     obtain⟨m,hm⟩:∃m,KD n (n.lk p) (n.lk q)=m:=⟨_,rfl⟩
     obtain⟨⟨ms,mc⟩,me⟩:=m
     rw[hm]at a4⊢
     simp only[qX,Ip,xN]at a4
     simp only[F142,a1,a2,a2',a3,a4,h1.1,h1.2,h2,h3.1,h3.2,h4,qX,DP,SY,nxB,evO,simprocAttr]
theorem arEq(p q:Ar):(decide (p.s=q.s)&&decide (p.n=q.n))=decide (p=q):=by
 obtain⟨a,b⟩:=p
 obtain⟨c,d⟩:=q
 rw[Gy];simp
theorem Kr{α:Type}{l:List α}{i:Nat}{x:α}(f:α→List PV)(h:l[i]? =some x):(l.map f)[i]? =some (f x):=by rw[Qy,h];rfl
theorem YR{α:Type}{l l':List α}(hl:l.length=l'.length)(h:∀j,j<l.length→l[j]? =l'[j]?):l=l':=by
 apply List.ext_getElem?
 intro j
 by_cases hj:j<l.length
 ·exact h j hj
 ·rw[eF (by omega),eF (by omega)]
theorem CM{a b:Nd}(ha:a.Ok):eP S 32 [.g (Ug a),.g (Ug b)]=some (.a (.b (bool (a=b)))):=by
 refine ml (xO (by decide)) (fc:=F32) rfl rfl ?_
 have hal:=ha.al
 have hto:=ha.to
 by_cases h1:a.k=b.k
 case neg=>simp only[F32,h1,nxB,evO,simprocAttr];intro h;exact h1 (by rw[h])
 by_cases h2:a.lv=b.lv
 case neg=>simp only[F32,h1,h2,nxB,evO,simprocAttr];intro h;exact h2 (by rw[h])
 by_cases h3:a.n=b.n
 case neg=>simp only[F32,h1,h2,h3,nxB,evO,simprocAttr];intro h;exact h3 (by rw[h])
 by_cases h4:a.s=b.s
 case neg=>simp only[F32,h1,h2,h3,h4,nxB,evO,simprocAttr];intro h;exact h4 (by rw[h])
 by_cases h5:a.al.length=b.al.length
 case neg=>
  have h5':¬(a.al.length:Int)=b.al.length:=by omega
  simp only[F32,h1,h2,h3,h4,h5',nxB,evO,simprocAttr];intro h;exact h5 (by rw[h])
 by_cases h6:a.to.length=b.to.length
 case neg=>
  have h6':¬(a.to.length:Int)=b.to.length:=by omega
  simp only[F32,h1,h2,h3,h4,h5,h6',nxB,evO,simprocAttr];intro h;exact h6 (by rw[h])
 simp only[F32,h1,h2,h3,h4,h5,h6,nxB,evO,simprocAttr]
 refine Fs b.al.length (fun i e σ=>e 2= .a (.ptr (2,0) 0 0)∧e 3= .a (.ptr (3,1) 0 0)∧e 5= .a (.p (.i .i64 (i:Nat)))∧σ.bs (2,0)=some (.var ((Ug a).map .p))∧σ.bs (3,1)=some (.var ((Ug b).map .p))∧∀j,j<i→a.al[j]? =b.al[j]?) (i0:=0) (ji _) ?_ ?_ ?_
 ·refine⟨?_,?_,?_,?_,?_,fun j hj=>by omega⟩<;>simp only[h1,h2,h3,h4,nxB,evO,simprocAttr]
  try rfl
 ·rintro i e σ hi ⟨e2,e3,e5,s2,s3,hall⟩
  obtain⟨x,hx⟩:∃x,a.al[i]? =some x:=⟨_,Xb (by omega)⟩
  obtain⟨y,hy⟩:∃y,b.al[i]? =some y:=⟨_,Xb (by omega)⟩
  have hx':=Kr uO hx
  have hy':=Kr uO hy
  have hlt:((i:Nat):Int)<(a.al.length:Int):=by omega
  have hlt':((i:Nat):Int)<(b.al.length:Int):=by omega
  have hge:(0:Int)≤((i:Nat):Int):=by omega
  simp only[Ug,zx,XM]at s2 s3
  by_cases hxy:x=y
  ·subst hxy
   simp only[F32b0,e2,e3,e5,s2,s3,hlt,hlt',hge,hx',hy',arEq,nxB,evO,simprocAttr]
   refine⟨by rw[zz i (by omega)],fun j hj=>?_⟩
   by_cases e:j=i
   ·rw[e,hx,hy]
   ·exact hall j (by omega)
  ·simp only[F32b0,e2,e3,e5,s2,s3,hlt,hlt',hge,hx',hy',arEq,hxy,nxB,evO,simprocAttr]
   intro h;subst h;rw[hx]at hy;exact hxy (BQ hy)
 ·rintro e σ ⟨e2,e3,e5,s2,s3,hall⟩
  have hlt:¬((b.al.length:Nat):Int)<(a.al.length:Int):=by omega
  have hal2:a.al=b.al:=YR h5 fun j hj=>hall j (by omega)
  simp only[Ug,zx,XM]at s2 s3
  simp only[F32b0,e2,e3,e5,s2,s3,hlt,nxB,evO,simprocAttr]
  refine Fs b.to.length (fun i e σ=>e 2= .a (.ptr (2,0) 0 0)∧e 3= .a (.ptr (3,1) 0 0)∧e 6= .a (.p (.i .i64 (i:Nat)))∧σ.bs (2,0)=some (.var ((Ug a).map .p))∧σ.bs (3,1)=some (.var ((Ug b).map .p))∧∀j,j<i→a.to[j]? =b.to[j]?) (i0:=0) (ji _) ?_ ?_ ?_
  ·refine⟨?_,?_,?_,?_,?_,fun j hj=>by omega⟩<;>simp only[e2,e3,s2,s3,nxB,evO,simprocAttr]
   try rfl
  ·rintro i e σ hi ⟨e2,e3,e6,s2,s3,hall⟩
   obtain⟨x,hx⟩:∃x,a.to[i]? =some x:=⟨_,Xb (by omega)⟩
   obtain⟨y,hy⟩:∃y,b.to[i]? =some y:=⟨_,Xb (by omega)⟩
   have hx':=Kr xN hx
   have hy':=Kr xN hy
   have hlt:((i:Nat):Int)<(a.to.length:Int):=by omega
   have hlt':((i:Nat):Int)<(b.to.length:Int):=by omega
   have hge:(0:Int)≤((i:Nat):Int):=by omega
   simp only[Ug,zx,XM]at s2 s3
   by_cases hxy:x=y
   ·subst hxy
    simp only[F32b1,e2,e3,e6,s2,s3,hlt,hlt',hge,hx',hy',DP,nxB,evO,simprocAttr]
    refine⟨by rw[zz i (by omega)],fun j hj=>?_⟩
    by_cases e:j=i
    ·rw[e,hx,hy]
    ·exact hall j (by omega)
   ·simp only[F32b1,e2,e3,e6,s2,s3,hlt,hlt',hge,hx',hy',DP,hxy,nxB,evO,simprocAttr]
    intro h;subst h;rw[hx]at hy;exact hxy (BQ hy)
  ·rintro e σ ⟨e2,e3,e6,s2,s3,hall⟩
   have hlt:¬((b.to.length:Nat):Int)<(a.to.length:Int):=by omega
   have hto2:a.to=b.to:=YR h6 fun j hj=>hall j (by omega)
   simp only[Ug,zx,XM]at s2 s3
   simp only[F32b1,e2,e3,e6,s2,s3,hlt,nxB,evO,simprocAttr]
   obtain⟨ak,al,an,at0,aa,at1⟩:=a
   obtain⟨bk,bl,bn,bt0,ba,bt1⟩:=b
   simp only at h1 h2 h3 h4 hal2 hto2
   subst h1 h2 h3 h4 hal2 hto2
   rfl
theorem QS{a b:Nt}(ha:a.Ok):eP S 15 [.g (Ip a),.g (Ip b)]=some (.a (.b (bool (a=b)))):=by
 refine ml (xO (by decide)) (fc:=F15) rfl rfl ?_
 have hns:=ha.ns
 by_cases h1:a.cap=b.cap
 case neg=>simp only[F15,h1,nxB,evO,simprocAttr];intro h;exact h1 (by rw[h])
 by_cases h2:a.ns.length=b.ns.length
 case neg=>
  have h2':¬(a.ns.length:Int)=b.ns.length:=by omega
  simp only[F15,h1,h2',nxB,evO,simprocAttr];intro h;exact h2 (by rw[h])
 simp only[F15,h1,h2,nxB,evO,simprocAttr]
 refine Fs b.ns.length (fun i e σ=>e 2= .a (.ptr (2,0) 0 0)∧e 3= .a (.ptr (3,1) 0 0)∧e 5= .a (.p (.i .i64 (i:Nat)))∧σ.bs (2,0)=some (.var ((Ip a).map .p))∧σ.bs (3,1)=some (.var ((Ip b).map .p))∧∀j,j<i→a.ns[j]? =b.ns[j]?) (i0:=0) (ji _) ?_ ?_ ?_
 ·refine⟨?_,?_,?_,?_,?_,fun j hj=>by omega⟩<;>simp only[h1,nxB,evO,simprocAttr]
  try rfl
 ·rintro i e σ hi ⟨e2,e3,e5,s2,s3,hall⟩
  obtain⟨x,hx⟩:∃x,a.ns[i]? =some x:=⟨_,Xb (by omega)⟩
  obtain⟨y,hy⟩:∃y,b.ns[i]? =some y:=⟨_,Xb (by omega)⟩
  have hx':=Kr Ug hx
  have hy':=Kr Ug hy
  have hlt:((i:Nat):Int)<(a.ns.length:Int):=by omega
  have hlt':((i:Nat):Int)<(b.ns.length:Int):=by omega
  have hge:(0:Int)≤((i:Nat):Int):=by omega
  have c1:=CM (b:=y) (ha.nd x (yu hx))
  simp only[Ip,zx,XM]at s2 s3
  simp only[Ug]at c1
  by_cases hxy:x=y
  ·rw[Pb hxy]at c1
   simp only[F15b0,e2,e3,e5,s2,s3,hlt,hlt',hge,hx',hy',c1,nxB,evO,simprocAttr]
   refine⟨by rw[zz i (by omega)],fun j hj=>?_⟩
   by_cases e:j=i
   ·rw[e,hx,hy,hxy]
   ·exact hall j (by omega)
  ·rw[qy hxy]at c1
   simp only[F15b0,e2,e3,e5,s2,s3,hlt,hlt',hge,hx',hy',c1,nxB,evO,simprocAttr]
   intro h;subst h;rw[hx]at hy;exact hxy (BQ hy)
 ·rintro e σ ⟨e2,e3,e5,s2,s3,hall⟩
  have hlt:¬((b.ns.length:Nat):Int)<(a.ns.length:Int):=by omega
  have hns2:a.ns=b.ns:=YR h2 fun j hj=>hall j (by omega)
  simp only[Ip,zx,XM]at s2 s3
  simp only[F15b0,e2,e3,e5,s2,s3,hlt,nxB,evO,simprocAttr]
  obtain⟨an,ac⟩:=a
  obtain⟨bn,bc⟩:=b
  simp only at h1 hns2
  subst h1 hns2
  rfl
def Nt.small(n:Nt)(m:Int):Prop:=(∀x,x∈n.ns→x.to.length≤12∧x.al.length≤12)∧(n.ns.length:Int)≤m
end Go.Proofs.YtmlhgalboabjcaaGreat
namespace Go.Proofs.YtmlhgalboabjcaaGreat.Tm
open Go.Fx
inductive T where
 |mk (k n:Int) (s:List UInt8) (l:List T)
namespace T
def k:T→Int|mk k _ _ _=>k
def n:T→Int|mk _ n _ _=>n
def s:T→List UInt8|mk _ _ s _=>s
def l:T→List T|mk _ _ _ l=>l
end T
mutual
def enc:T→List PV
 | .mk k n s l=>[.i .i64 k,.i .i64 n,.s s,.l (II l)]
def II:List T→List (List PV)
 |[]=>[]
 |t::r=>enc t::II r
end
theorem It(l:List T):II l=l.map enc:=by
 induction l with
 |nil=>rfl
 |cons t l ih=>simp[II,ih]
theorem W4(t:T):enc t=[.i .i64 t.k,.i .i64 t.n,.s t.s,.l (t.l.map enc)]:=by
 cases t;simp[enc,T.k,T.n,T.s,T.l,It]
inductive T.Ok:T→Prop
 |mk (k n:Int) (s:List UInt8) (l:List T) (hk:(Lit.int .i64 k).wf=true) (hn:(Lit.int .i64 n).wf=true) (hs:s.length≤reachBytes) (hl:l.length*56≤reachBytes) (h:∀t,t∈l→T.Ok t):T.Ok (.mk k n s l)
theorem dw(t:T):(enc t).length=4:=by rw[W4];rfl
theorem S5(t:T):(enc t).take 4=enc t:=by rw[Ea];simp[dw]
theorem PH(l:List T):((l.map enc).all fun r=>decide (r.length=4))=true:=by simp[dw]
abbrev w(n:Int):Int:=IntKind.i64.wrap n
theorem Sa(x:Int)(h: -9223372036854775808≤x∧x≤9223372036854775807):w x=x:=qI x h
theorem Ls(t:T):(enc t).all PV.flat=false:=by rw[W4];rfl
theorem lZ(t:T):((enc t).map AV.p).take 4=(enc t).map AV.p:=by rw[Ea];simp[dw]
mutual
def few:T→Int→Int→Int
 | .mk k n s l,left,deep=>if left<1 then-1 else if deep<1 then-1 else fewL l (w (left-1)) (w (deep-1))
def fewL:List T→Int→Int→Int
 |[],left,_=>left
 |t::r,left,deep=>if few t left deep<0 then-1 else fewL r (few t left deep) deep
end
theorem DL(t:T)(d:Int)(hl:t.l.length*56≤reachBytes)(Q:Ex→Env→St→Prop):
  ∀(rem:List T) (i:Nat) (a:Int) (e:Env) (σ:St),t.l.drop i=rem→i+rem.length=t.l.length→(∀u,u∈rem→∀x y,eP S 24 [.g (enc u),.a (.i .i64 x),.a (.i .i64 y)]=some (.a (.i .i64 (few u x y))))→
   e 1= .a (.p (.i .i64 a))→e 2= .a (.p (.i .i64 d))→e 3= .a (.ptr (3,0) 0 0)→e 7= .a (.p (.i .i64 (i:Nat)))→σ.bs (3,0)=some (.var [.p (.i .i64 t.k),.p (.i .i64 t.n),.p (.s t.s),.p (.l (t.l.map enc))])→
   (∀e',e' 1= .a (.p (.i .i64 (fewL rem a (w (d-1)))))→Q (.exit 0) e' σ)→(fewL rem a (w (d-1))= -1→∀e',e' 6= .a (.p (.i .i64 (-1)))→Q .ret e' σ)→wp S false (.loop F24b0) e σ Q:=by
 intro rem
 induction rem with
 |nil=>
  intro i a e σ hd hi hu e1 e2 e3 e7 h3 hQ hR
  have hlt:¬((i:Int)<(t.l.length:Int)):=by simp at hi;omega
  rw[xi,F24b0]
  simp only[e1,e2,e3,e7,h3,hlt,fxa,fxc,fxE,fxL,fxI,nxE,evO,evR,dV,cM,mkT,lenA,mE,Env.init,JC,O2,frT,klT,PZ,mO,O.adds,MQ,B2,over,eh,yQ,J8,ne_eq,if_true,if_false,ite_self,Nat.reduceLT,Nat.reduceSub,Nat.reduceBEq,Nat.reduceEqDiff,Nat.reduceAdd,Nat.reduceLeDiff,reduceCtorEq,Nat.reduceMul]
  exact hQ _ (by simp only[e1,fewL,fxa,fxc,fxE,fxL,fxI,nxE,evO,evR,dV,cM,mkT,lenA,mE,Env.init,JC,O2,frT,klT,PZ,mO,O.adds,MQ,B2,over,eh,yQ,J8,ne_eq,if_true,if_false,ite_self,Nat.reduceLT,Nat.reduceSub,Nat.reduceBEq,Nat.reduceEqDiff,Nat.reduceAdd,Nat.reduceLeDiff,reduceCtorEq,Nat.reduceMul])
 |cons x rem ih=>
  intro i a e σ hd hi hu e1 e2 e3 e7 h3 hQ hR
  simp only[Ce]at hi
  have hlt:((i:Int)<(t.l.length:Int)):=by omega
  have h0:(0:Int)≤(i:Int):=by omega
  have hx:t.l[i]? =some x:=by rw[←List.head?_drop,hd];rfl
  have hx':(t.l.map enc)[i]? =some (enc x):=by simp[hx]
  have hux:=hu x (by simp) a (w (d-1))
  have hlb:t.l.length<9223372036854775807:=by simp only[reachBytes]at hl;omega
  rw[xi,F24b0]
  simp only[e1,e2,e3,e7,h3,hlt,h0,KA,hx',dw,PH,S5,lZ,hux,fxa,fxc,fxE,fxL,fxI,nxE,evO,evR,dV,cM,mkT,lenA,mE,Env.init,JC,O2,frT,klT,PZ,mO,O.adds,MQ,B2,over,eh,yQ,J8,ne_eq,if_true,if_false,ite_self,Nat.reduceLT,Nat.reduceSub,Nat.reduceBEq,Nat.reduceEqDiff,Nat.reduceAdd,Nat.reduceLeDiff,reduceCtorEq,Nat.reduceMul]
  refine pG (fun h1=>?_) (fun h1=>?_)
  ·have h1':few x a (w (d-1))<0:=by simpa using h1
   simp only[h1,fxa,fxc,fxE,fxL,fxI,nxE,evO,evR,dV,cM,mkT,lenA,mE,Env.init,JC,O2,frT,klT,PZ,mO,O.adds,MQ,B2,over,eh,yQ,J8,ne_eq,if_true,if_false,ite_self,Nat.reduceLT,Nat.reduceSub,Nat.reduceBEq,Nat.reduceEqDiff,Nat.reduceAdd,Nat.reduceLeDiff,reduceCtorEq,Nat.reduceMul]
   exact hR (by simp only[fewL];rw[if_pos h1']) _ (by simp only[fxa,fxc,fxE,fxL,fxI,nxE,evO,evR,dV,cM,mkT,lenA,mE,Env.init,JC,O2,frT,klT,PZ,mO,O.adds,MQ,B2,over,eh,yQ,J8,ne_eq,if_true,if_false,ite_self,Nat.reduceLT,Nat.reduceSub,Nat.reduceBEq,Nat.reduceEqDiff,Nat.reduceAdd,Nat.reduceLeDiff,reduceCtorEq,Nat.reduceMul])
  ·have h1':¬few x a (w (d-1))<0:=by simpa using h1
   simp only[e7,h1,fxa,fxc,fxE,fxL,fxI,nxE,evO,evR,dV,cM,mkT,lenA,mE,Env.init,JC,O2,frT,klT,PZ,mO,O.adds,MQ,B2,over,eh,yQ,J8,ne_eq,if_true,if_false,ite_self,Nat.reduceLT,Nat.reduceSub,Nat.reduceBEq,Nat.reduceEqDiff,Nat.reduceAdd,Nat.reduceLeDiff,reduceCtorEq,Nat.reduceMul]
   refine ih (i+1) (few x a (w (d-1))) _ σ (by rw[←dJ,hd];rfl) (by omega) (fun u hu'=>hu u (by simp[hu'])) ?_ ?_ ?_ ?_ h3 ?_ ?_
   all_goals try simp only[e1,e2,e3,e7,fxa,fxc,fxE,fxL,fxI,nxE,evO,evR,dV,cM,mkT,lenA,mE,Env.init,JC,O2,frT,klT,PZ,mO,O.adds,MQ,B2,over,eh,yQ,J8,ne_eq,if_true,if_false,ite_self,Nat.reduceLT,Nat.reduceSub,Nat.reduceBEq,Nat.reduceEqDiff,Nat.reduceAdd,Nat.reduceLeDiff,reduceCtorEq,Nat.reduceMul]
   ·rw[zz i (by omega)]
   ·intro e' he';exact hQ e' (by rw[he'];simp only[fewL];rw[if_neg h1'])
   ·intro hm e' he';exact hR (by simp only[fewL];rw[if_neg h1'];exact hm) e' he'
theorem fQ{t:T}(ht:T.Ok t):∀x y:Int,eP S 24 [.g (enc t),.a (.i .i64 x),.a (.i .i64 y)]=some (.a (.i .i64 (few t x y))):=by
 induction ht with
 |mk k n s l hk hn hs hl h ih=>
  intro x y
  have e0:few (.mk k n s l) x y=if x<1 then-1 else if y<1 then-1 else fewL l (w (x-1)) (w (y-1)):=rfl
  rw[e0]
  refine Cf (xO (by decide)) (fc:=F24) rfl rfl ?_
  simp only[F24,enc,It,nxB,evO,simprocAttr]
  refine oU (fun h1=>?_) (fun h1=>?_)
  ·have h1':¬x<1:=by simpa using h1
   rw[if_neg h1']
   simp only[h1,nxB,evO,simprocAttr]
   refine pG (fun h2=>?_) (fun h2=>?_)
   ·have h2':y<1:=by simpa using h2
    simp only[h1,h2,if_pos h2',nxB,evO,simprocAttr]
   ·have h2':¬y<1:=by simpa using h2
    rw[if_neg h2']
    simp only[h1,h2,nxB,evO,Nat.reduceLT,Nat.reduceSub,Nat.reduceBEq,Nat.reduceEqDiff,Nat.reduceAdd,Nat.reduceLeDiff,reduceCtorEq,Nat.reduceMul]
    refine DL (.mk k n s l) y hl _ l 0 (w (x-1)) _ _ rfl (by simp[T.l]) (fun u hu x y=>ih u hu x y) ?_ ?_ ?_ ?_ ?_ ?_ ?_
    all_goals simp only[T.k,T.n,T.s,T.l,nxB,evO,Nat.reduceLT,Nat.reduceSub,Nat.reduceBEq,Nat.reduceEqDiff,Nat.reduceAdd,Nat.reduceLeDiff,reduceCtorEq,Nat.reduceMul]
    ·rfl
    ·intro e' he';simp only[he',nxB,evO,Nat.reduceLT,Nat.reduceSub,Nat.reduceBEq,Nat.reduceEqDiff,Nat.reduceAdd,Nat.reduceLeDiff,reduceCtorEq,Nat.reduceMul]
    try·intro hm e' he';simp only[he',hm,nxB,evO,simprocAttr]
  ·have h1':x<1:=by simpa using h1
   rw[if_pos h1']
   simp only[h1,nxB,evO,simprocAttr]
def small(t:T)(n:Int):Bool:=decide (few t n 600≥0)
theorem ON{t:T}(ht:T.Ok t)(n:Int):eP S 8 [.g (enc t),.a (.i .i64 n)]=some (.a (.b (small t n))):=by
 have h:=fQ ht n 600
 refine Cf (xO (by decide)) (fc:=F8) rfl rfl ?_
 simp only[F8,dw,lZ,Ls,h,small,fxa,fxc,fxE,fxL,fxI,nxE,evO,evR,dV,cM,mkT,lenA,mE,Env.init,JC,O2,frT,klT,PZ,mO,O.adds,MQ,B2,over,eh,yQ,J8,ne_eq,if_true,if_false,ite_self,Nat.reduceLT,Nat.reduceSub,Nat.reduceBEq,Nat.reduceEqDiff,Nat.reduceAdd,Nat.reduceLeDiff,reduceCtorEq,Nat.reduceMul]
mutual
def dep:T→Nat
 | .mk _ _ _ l=>depL l+1
def depL:List T→Nat
 |[]=>0
 |t::r=>max (dep t) (depL r)
end
theorem Lv{l:List T}{t:T}(h:t∈l):dep t≤depL l:=by
 induction l with
 |nil=>simp at h
 |cons x l ih=>
  simp only[depL]
  rcases qY.1 h with rfl|h
  ·omega
  ·have:=ih h;omega
theorem T.ind{P:T→Prop}(h:∀k n s l,(∀t,t∈l→P t)→P (.mk k n s l)):∀t,P t:=by
 intro t
 refine T.rec (motive_1:=P) (motive_2:=fun l=>∀t,t∈l→P t) (fun k n s l ih=>h k n s l ih) (by simp) (fun t l h1 h2 u hu=>?_) t
 rcases qY.1 hu with rfl|hu
 ·exact h1
 ·exact h2 u hu
mutual
def sizeZ:T→Int
 | .mk _ _ _ l=>sizeLZ l+1
def sizeLZ:List T→Int
 |[]=>0
 |t::r=>sizeZ t+sizeLZ r
end
theorem ML{l:List T}(h:∀t,t∈l→1≤sizeZ t):0≤sizeLZ l:=by
 induction l with
 |nil=>simp[sizeLZ]
 |cons t l ih=>have:=h t (by simp);have:=ih fun u hu=>h u (by simp[hu]);simp only[sizeLZ];omega
theorem DF(t:T):1≤sizeZ t:=by
 induction t using T.ind with
 |h k n s l ih=>have:=ML ih;simp only[sizeZ];omega
theorem V0(l:List T):0≤sizeLZ l:=ML fun t _=>DF t
theorem Tu{l:List T}{t:T}(h:t∈l):sizeZ t≤sizeLZ l:=by
 induction l with
 |nil=>simp at h
 |cons x l ih=>
  have:=V0 l;have:=DF x
  simp only[sizeLZ]
  rcases qY.1 h with rfl|h
  ·omega
  ·have:=ih h;omega
mutual
theorem few_all:∀(t:T) (x y:Int),x≤1099511627776→y≤1000→few t x y≥0→(dep t:Int)≤y∧few t x y=x-sizeZ t
 | .mk k n s l,x,y,hx,hy,h=>by
   simp only[few]at h⊢
   split at h
   ·omega
   ·rename_i h1
    split at h
    ·omega
    ·rename_i h2
     rw[if_neg h1,if_neg h2]
     rw[Sa _ (by omega),Sa _ (by omega)]at h⊢
     obtain⟨h3,h4⟩:=few_allL l (x-1) (y-1) (by omega) (by omega) (by omega) h
     simp only[dep,sizeZ];omega
theorem few_allL:∀(l:List T) (x y:Int),x≤1099511627776→0≤y→y≤1000→fewL l x y≥0→(depL l:Int)≤y∧fewL l x y=x-sizeLZ l
 |[],x,y,hx,hy0,hy,h=>by simp only[fewL,depL,sizeLZ];omega
 |t::l,x,y,hx,hy0,hy,h=>by
  simp only[fewL]at h⊢
  split at h
  ·omega
  ·rename_i h1
   rw[if_neg h1]
   obtain⟨h3,h4⟩:=few_all t x y hx hy (by omega)
   have:=DF t
   obtain⟨h5,h6⟩:=few_allL l (few t x y) y (by omega) hy0 hy h
   simp only[depL,sizeLZ];omega
end
theorem O7{t:T}{x:Int}(hx:x≤1099511627776)(h:small t x=true):dep t≤600∧sizeZ t≤x:=by
 unfold small at h
 obtain⟨h1,h2⟩:=few_all t x 600 hx (by omega) (by simpa using h)
 have:few t x 600≥0:=by simpa using h
 omega
theorem WB{l:List T}{i:Nat}{x:T}(h:l[i]? =some x):l.drop i=x::l.drop (i+1):=by
 obtain⟨hi,rfl⟩:=QU.1 h
 rw[iM hi]
theorem nV{l:List T}{i:Nat}{x:T}(h:l[i]? =some x):l.take (i+1)=l.take i++[x]:=by
 rw[Oq,h];rfl
theorem I6:∀(l r:List T),depL (l++r)=max (depL l) (depL r)
 |[],r=>by simp[depL]
 |t::l,r=>by simp only[Hh,depL,I6 l r,Nat.max_assoc]
theorem Ch:∀{t:T},T.Ok t→dep t≤1099511627776→eP S 9 [.g (enc t)]=some (.a (.i .i64 (dep t:Nat))):=by
 intro t ht
 induction ht with
 |mk k n s l hk hn hs hl h ih=>
  intro hd
  simp only[dep]at hd
  refine Cf (xO (by decide)) (fc:=F9) rfl rfl ?_
  simp only[F9,enc,It,spS,fxa,fxc,fxE,fxL,fxI,nxE,evO,evR,dV,cM,mkT,lenA,mE,Env.init,JC,O2,frT,klT,PZ,mO,O.adds,MQ,B2,over,eh,yQ,J8,ne_eq,if_true,if_false,ite_self,Nat.reduceLT,Nat.reduceSub,Nat.reduceBEq,Nat.reduceEqDiff,Nat.reduceAdd,Nat.reduceLeDiff,reduceCtorEq,Nat.reduceMul]
  refine Fs l.length (fun i e τ=>e 1= .a (.ptr (1,0) 0 0)∧e 3= .a (.p (.i .i64 (depL (l.take i):Nat)))∧e 4= .a (.p (.i .i64 (i:Nat)))∧τ.bs (1,0)=some (.var [.p (.i .i64 k),.p (.i .i64 n),.p (.s s),.p (.l (l.map enc))])) (i0:=0) (ji _) ⟨rfl,rfl,rfl,rfl⟩ ?_ ?_
  ·rintro i e τ hi ⟨e1,e3,e4,b1⟩
   obtain⟨x,hx⟩:∃x,l[i]? =some x:=⟨_,Xb hi⟩
   have hx':(l.map enc)[i]? =some (enc x):=by simp[hx]
   have hxm:=yu hx
   have hlt:((i:Nat):Int)<(l.length:Int):=by omega
   have hge:(0:Int)≤((i:Nat):Int):=by omega
   have hlb:i<9223372036854775807:=by simp only[reachBytes]at hl;omega
   have hw:=zz i hlb
   have c1:=ih x hxm (by have:=Lv hxm;omega)
   have hs1:depL (l.take (i+1))=max (depL (l.take i)) (dep x):=by rw[nV hx,I6];simp[depL]
   rw[hs1]
   by_cases hm:(dep x:Int)>(depL (l.take i):Int)
   ·have:max (depL (l.take i)) (dep x)=dep x:=by omega
    rw[this]
    simp only[F9b0,e1,e3,e4,b1,hlt,hge,hw,hx',hm,dw,S5,PH,c1,KA,mB,spS,fxa,fxc,fxE,fxL,fxI,nxE,evO,evR,dV,cM,mkT,lenA,mE,Env.init,JC,O2,frT,klT,PZ,mO,O.adds,MQ,B2,over,eh,yQ,J8,ne_eq,if_true,if_false,ite_self,Nat.reduceLT,Nat.reduceSub,Nat.reduceBEq,Nat.reduceEqDiff,Nat.reduceAdd,Nat.reduceLeDiff,reduceCtorEq,Nat.reduceMul]
   ·have:max (depL (l.take i)) (dep x)=depL (l.take i):=by omega
    rw[this]
    simp only[F9b0,e1,e3,e4,b1,hlt,hge,hw,hx',hm,dw,S5,PH,c1,KA,mB,spS,fxa,fxc,fxE,fxL,fxI,nxE,evO,evR,dV,cM,mkT,lenA,mE,Env.init,JC,O2,frT,klT,PZ,mO,O.adds,MQ,B2,over,eh,yQ,J8,ne_eq,if_true,if_false,ite_self,Nat.reduceLT,Nat.reduceSub,Nat.reduceBEq,Nat.reduceEqDiff,Nat.reduceAdd,Nat.reduceLeDiff,reduceCtorEq,Nat.reduceMul]
  ·rintro e τ ⟨e1,e3,e4,b1⟩
   have hlt:¬((l.length:Nat):Int)<(l.length:Int):=by omega
   have hw:=zz (depL l) (by omega)
   rw[QL]at e3
   simp only[F9b0,e1,e3,e4,b1,hlt,hw,dep,mB,spS,fxa,fxc,fxE,fxL,fxI,nxE,evO,evR,dV,cM,mkT,lenA,mE,Env.init,JC,O2,frT,klT,PZ,mO,O.adds,MQ,B2,over,eh,yQ,J8,ne_eq,if_true,if_false,ite_self,Nat.reduceLT,Nat.reduceSub,Nat.reduceBEq,Nat.reduceEqDiff,Nat.reduceAdd,Nat.reduceLeDiff,reduceCtorEq,Nat.reduceMul]
end Go.Proofs.YtmlhgalboabjcaaGreat.Tm
