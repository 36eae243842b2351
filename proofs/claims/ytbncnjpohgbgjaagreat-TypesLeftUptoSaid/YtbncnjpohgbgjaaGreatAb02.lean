/- The abstract texts of the functions. MADE BY PROGRAM (Gen). No condition. -/
import Derived.Test.YtbncnjpohgbgjaaGreatAb01
set_option linter.all false
set_option maxHeartbeats 8000000
namespace Ab.C
open Ab
@[simp] def cZ : bN := .c (.int .i64 0)
@[simp] def cO : bN := .c (.int .i64 1)
@[simp] def cF : bN := .c (.bool false)
@[simp] def cT : bN := .c (.bool true)
@[simp] def Mv (d s : Nat) : aK := ⟨some d, .mov (.t s), none, [], false⟩
@[simp] def Ld (d n s : Nat) : aK := ⟨some d, .load false n (.t s), none, [], false⟩
@[simp] def Fa (d n s : Nat) : aK := ⟨some d, .faddr n (.t s), none, [], false⟩
@[simp] def Ia (d n s i : Nat) : aK := ⟨some d, .iaddr n (.t s) (.t i), none, [], false⟩
@[simp] def Ca (d f : Nat) (a : List bN) : aK := ⟨some d, .call (.c (.fn f [] [])) a, none, [], false⟩
def jK : Nat := 3
def jy : Nat := 4
def eh : Nat := 5
def qC : Nat := 6
def j9 : Nat := 7
def j4 : Nat := 8
def dr : Nat := 9
def fO : Nat := 10
def BJ : Nat := 11
def qE : Nat := 12
def oK : Nat := 13
def nj : Nat := 14
def iq : Nat := 15
def jh : Nat := 16
def iQ : Nat := 17
def dH : Nat := 18
def cW : Nat := 19
def cV : Nat := 20
def ej : Nat := 21
def ip : Nat := 22
def nF : Nat := 23
def fA : Nat := 24
def aR : Nat := 25
def qy : Nat := 26
def jw : Nat := 27
def kg : Nat := 28
def qD : Nat := 29
def dX : Nat := 30
def lW : Nat := 31
def ox : Nat := 32
def rE : Nat := 33
def aW : Nat := 34
def qt : Nat := 35
def kc : Nat := 36
def kG : Nat := 37
def g8 : Nat := 38
def dW : Nat := 39
def eH : Nat := 40
def kB : Nat := 41
def iP : Nat := 42
def kA : Nat := 43
def j6 : Nat := 44
def fh : Nat := 45
def ff : Nat := 46
def fQ : Nat := 47
def bR : Nat := 48
def ax : Nat := 49
def ka : Nat := 50
def aM : Nat := 51
def kb : Nat := 52
def eO : Nat := 53
def qA : Nat := 54
def de : Nat := 55
def gI : Nat := 56
def jc : Nat := 57
def jD : Nat := 58
def jE : Nat := 59
def qq : Nat := 60
def jd : Nat := 61
def kQ : Nat := 62
def g9 : Nat := 63
def kS : Nat := 64
def fG : Nat := 65
def eP : Nat := 100065
def bx : Nat := 66
def bo : Nat := 100066
def iy : Nat := 67
def dF : Nat := 68
def cq : Nat := 69
def hG : Nat := 70
def sa : Nat := 71
def fR : Nat := 72
def fp : Nat := 73
def fg : Nat := 74
def fS : Nat := 75
def fP : Nat := 76
def fT : Nat := 77
def fj : Nat := 78
def eI : Nat := 79
def ek : Nat := 80
def da : Nat := 81
def gH : Nat := 82
def eJ : Nat := 83
def jC : Nat := 84
def eE : Nat := 85
def gG : Nat := 86
def bc : Nat := 87
def iX : Nat := 88
def fe : Nat := 89
def jN : Nat := 90
def dA : Nat := 91
def ux : Nat := 92
def nG : Nat := 93
def tt : Nat := 94
def bm : Nat := 95
def fX : Nat := 96
def BK : Nat := 97
def qu : Nat := 98
def je : Nat := 99
def ga : Nat := 100
def aS : Nat := 101
def ba : Nat := 102
def qv : Nat := 103
def dj : Nat := 104
def kT : Nat := 105
def eu : Nat := 106
def fq : Nat := 107
def qw : Nat := 108
def fc : Nat := 109
def eF : Nat := 112
def eG : Nat := 113
def j5 : Nat := 114
def j7 : Nat := 115
def bP : Nat := 116
def fV : Nat := 117
def oI : Nat := 118
def gJ : Nat := 119
def kf : Nat := 120
def qz : Nat := 121
def mJ : Nat := 122
def iR : Nat := 123
def jg : Nat := 124
def oJ : Nat := 125
def nH : Nat := 126
def fm : Nat := 127
def yg : Nat := 128
def bC : Nat := 129
def bY : Nat := 130
def jf : Nat := 131
def fH : Nat := 133
def ni : Nat := 134
def dg : Nat := 135
def eg : Nat := 136
def dh : Nat := 137
def ke : Nat := 138
def bX : Nat := 139
def qx : Nat := 140
def jB : Nat := 152
def iN : Nat := 153
def dQ : Nat := 154
def fU : Nat := 155
def dG : Nat := 156
def dO : Nat := 157
def j8 : Nat := 158
def fi : Nat := 159
def cK : Nat := 160
def f9 : Nat := 161
def fW : Nat := 162
def ww : Nat := 163
def kD : Nat := 164
def kC : Nat := 165
def gd : Nat := 166
def gt : Nat := 167
def cC : Nat := 100168
def tq : Nat := 169
def kP : Nat := 175
def iM : Nat := 176
def gp : Nat := 177
def jA : Nat := 178
def iL : Nat := 179
def gq : Nat := 180
def ix : Nat := 181
def qB : Nat := 182
def kF : Nat := 183
def dy : Nat := 184
def ei : Nat := 186
def dN : Nat := 187
def jz : Nat := 188
def dz : Nat := 189
def jH : ae :=
 (.seq
 (.region [oN 2 (.mov cF)] [2] false)
 (.seq
 (.seq
 (.region [Mv 9 0,
 Ca 10 jy [.t 9, (.c (.int .i64 14))],
 oN 11 (.un .not (.t 10))] [11] false)
 (.cond (.t 11)
 (.seq
 (.region [Ca 12 eh [],
 Mv 2 12] [2] false)
 .ret)
 .skip))
 (.seq
 (.region [Mv 14 0,
 Ca 15 qC [.t 14],
 Mv 13 15,
 oN 16 (.ext (.t 13) 0),
 oN 17 (.ext (.t 13) 1),
 oN 18 (.ext (.t 13) 2),
 oN 3 (.alloc [.int .i64 0, .int .i64 0, .sl .nil 1 [], .sl .nil 8 []]),
 oU (.store 4 (.t 3) (.t 16)),
 Mv 4 17,
 Mv 5 18] [3, 4, 5] false)
 (.seq
 (.region [Mv 20 0,
 Ca 21 j9 [.t 20],
 Mv 19 21,
 oN 22 (.ext (.t 19) 0),
 oN 23 (.ext (.t 19) 1),
 oN 24 (.ext (.t 19) 2),
 oN 6 (.alloc [.int .i64 0, .int .i64 0, .sl .nil 1 [], .sl .nil 8 []]),
 oU (.store 4 (.t 6) (.t 22)),
 Mv 7 23,
 Mv 8 24] [6, 7, 8] false)
 (.seq
 (.region [Mv 25 5,
 Mv 26 8,
 oN 27 (.bin .eql .val (.t 25) (.t 26)),
 Mv 28 27,
 oG 29 (some (28, true)) (.mov (.t 4)),
 oG 30 (some (28, true)) (.mov (.t 7)),
 oG 31 (some (28, true)) (.bin .eql .bool (.t 29) (.t 30)),
 oN 32 (.pick (.t 28) (.t 31) cF),
 Mv 33 32,
 oG 34 (some (33, true)) (.load true 4 (.t 3)),
 oG 35 (some (33, true)) (.load true 4 (.t 6)),
 oG 36 (some (33, true)) (.call (.c (.fn j4 [] [])) [.t 34, .t 35]),
 oN 37 (.pick (.t 33) (.t 36) cF),
 Mv 38 37,
 oG 39 (some (38, true)) (.call (.c (.fn eh [] [])) []),
 oN 40 (.pick (.t 38) (.t 39) cF),
 Mv 2 40] [2] false)
 .ret)))))
def fB : bS := ⟨1, jH, [.t 2], .pure⟩
def uV : List Nat := [0, 2, 3, 4, 5, 6, 7, 8, 11]
def mo : ae :=
 (.seq
 (.region [oN 4 (.mov cF)] [4] false)
 (.seq
 (.region [Mv 5 0,
 Mv 6 1,
 Ca 7 dr [.t 5, .t 6, cZ],
 Mv 8 1,
 oN 9 (.bin .leq .val (.t 7) (.t 8)),
 Mv 10 9,
 oG 11 (some (10, true)) (.mov (.t 0)),
 oG 12 (some (10, true)) (.call (.c (.fn fO [] [])) [.t 11]),
 oN 13 (.pick (.t 10) (.t 12) cF),
 Mv 4 13] [4] false)
 .ret))
def jm : bS := ⟨2, mo, [.t 4], .pure⟩
def yO : List Nat := [0, 1, 4]
def yn : ae :=
 (.seq
 (.region [oN 0 (.mov cF)] [0] false)
 (.seq
 (.region [oN 7 (.build [.int .i64 0, .str [], .sl .nil 3 []] [(0, 1, (.c (.int .i64 2))), (1, 1, (.c (.str [65])))]),
 oN 1 (.alloc [.int .i64 0, .str [], .sl .nil 3 []]),
 oU (.store 3 (.t 1) (.t 7))] [1] false)
 (.seq
 (.region [oN 9 (.build [.int .i64 0, .str [], .sl .nil 3 []] [(0, 1, (.c (.int .i64 7))), (1, 1, (.c (.str [120])))]),
 oN 10 (.build [.int .i64 0, .str [], .sl .nil 3 []] [(0, 1, (.c (.int .i64 5))), (1, 1, (.c (.str [121])))]),
 oN 11 (.bslice 3 [.int .i64 0, .str [], .sl .nil 3 []] 2 [(0, (.t 9)), (1, (.t 10))]),
 Ca 12 qC [.t 11],
 Mv 8 12,
 oN 13 (.ext (.t 8) 0),
 oN 14 (.ext (.t 8) 1),
 oN 15 (.ext (.t 8) 2),
 oN 2 (.alloc [.int .i64 0, .int .i64 0, .sl .nil 1 [], .sl .nil 8 []]),
 oU (.store 4 (.t 2) (.t 13)),
 Mv 3 14,
 Mv 4 15] [2, 3, 4] false)
 (.seq
 (.region [oN 17 (.load true 4 (.t 2)),
 oN 18 (.load true 3 (.t 1)),
 oN 19 (.bslice 3 [.int .i64 0, .str [], .sl .nil 3 []] 1 [(0, (.t 18))]),
 Ca 20 BJ [.t 17, .t 19],
 Mv 16 20,
 oN 21 (.ext (.t 16) 0),
 oN 22 (.ext (.t 16) 1),
 Mv 5 21,
 Mv 6 22] [5, 6] false)
 (.seq
 (.region [Mv 23 4,
 oN 24 (.bin .eql .val (.t 23) cZ),
 Mv 25 24,
 oG 26 (some (25, true)) (.mov (.t 6)),
 oG 27 (some (25, true)) (.bin .eql .val (.t 26) cZ),
 oN 28 (.pick (.t 25) (.t 27) cF),
 Mv 29 28,
 oG 30 (some (29, true)) (.mov (.t 3)),
 oN 31 (.pick (.t 29) (.t 30) cF),
 Mv 32 31,
 oG 33 (some (32, true)) (.mov (.t 5)),
 oN 34 (.pick (.t 32) (.t 33) cF),
 Mv 0 34] [0] false)
 .ret)))))
def yj : bS := ⟨0, yn, [.t 0], .pure⟩
def yR : List Nat := .range 7
def wT : ae :=
 (.seq
 (.region [oN 1 (.box 1 (.t 0)),
 oN 2 (.alloc [.int .i64 0, .int .i64 0, .sl .nil 1 [], .sl .nil 8 []]),
 oN 3 (.mov cF),
 oN 4 (.mov cZ)] [1, 2, 3, 4] false)
 (.seq
 (.seq
 (.region [Ld 7 1 1,
 Ca 8 qE [.t 7],
 Mv 5 8] [5] false)
 (.seq
 (.region [Mv 9 5,
 oN 10 (.bin .neq .val (.t 9) cZ)] [10] false)
 (.cond (.t 10)
 (.seq
 (.region [oN 11 (.build [.int .i64 0, .int .i64 0, .sl .nil 1 [], .sl .nil 8 []] []),
 Mv 12 5,
 oU (.store 4 (.t 2) (.t 11)),
 oN 3 (.mov cF),
 Mv 4 12] [3, 4] false)
 .ret)
 .skip)))
 (.seq
 (.seq
 (.region [oN 13 (.mkfn nj [] [.t 1, .t 2]),
 Ca 14 oK [.t 13],
 Mv 6 14] [6] false)
 (.seq
 (.region [Mv 15 6,
 oN 16 (.bin .neq .val (.t 15) cZ)] [16] false)
 (.cond (.t 16)
 (.seq
 (.region [oN 17 (.build [.int .i64 0, .int .i64 0, .sl .nil 1 [], .sl .nil 8 []] []),
 Mv 18 6,
 oU (.store 4 (.t 2) (.t 17)),
 oN 3 (.mov cF),
 Mv 4 18] [3, 4] false)
 .ret)
 .skip)))
 (.seq
 (.region [oN 19 (.load true 4 (.t 2)),
 Ld 20 1 1,
 ⟨(some 21), .call (.c (.fn jh [] [])) [.t 20], none, [⟨true, 4, .t 2, none⟩, ⟨false, 1, .t 1, none⟩], false⟩,
 oU (.store 4 (.t 2) (.t 19)),
 Mv 3 21,
 oN 4 (.mov cZ)] [3, 4] true)
 .ret))))
def tf : bS := ⟨1, wT, [.cell 2 true 4, .t 3, .t 4], .pure⟩
def KP : List Nat := [0, 1, 2, 3, 4, 5, 6, 10, 16]
def m8 : ae :=
 (.seq
 (.region [oN 2 (.alloc [.int .i64 0, .int .i64 0, .sl .nil 1 [], .sl .nil 8 []]),
 oN 3 (.mov cF),
 oN 4 (.mov cZ)] [2, 3, 4] false)
 (.seq
 (.seq
 (.region [Mv 8 0,
 Ca 9 iQ [.t 8],
 Mv 5 9] [5] false)
 (.seq
 (.region [Mv 10 5,
 oN 11 (.bin .neq .val (.t 10) cZ)] [11] false)
 (.cond (.t 11)
 (.seq
 (.region [oN 12 (.build [.int .i64 0, .int .i64 0, .sl .nil 1 [], .sl .nil 8 []] []),
 Mv 13 5,
 oU (.store 4 (.t 2) (.t 12)),
 oN 3 (.mov cF),
 Mv 4 13] [3, 4] false)
 .ret)
 .skip)))
 (.seq
 (.region [Mv 15 0,
 Ca 16 dH [.t 15],
 Mv 14 16,
 oN 17 (.ext (.t 14) 0),
 oN 18 (.ext (.t 14) 1),
 oN 6 (.alloc [.int .i64 0, .int .i64 0, .sl .nil 1 [], .sl .nil 8 []]),
 oU (.store 4 (.t 6) (.t 17)),
 Mv 7 18] [6, 7] false)
 (.seq
 (.seq
 (.region [Mv 19 7,
 oN 20 (.bin .neq .val (.t 19) cZ)] [20] false)
 (.cond (.t 20)
 (.seq
 (.region [oN 21 (.build [.int .i64 0, .int .i64 0, .sl .nil 1 [], .sl .nil 8 []] []),
 Mv 22 7,
 oU (.store 4 (.t 2) (.t 21)),
 oN 3 (.mov cF),
 Mv 4 22] [3, 4] false)
 .ret)
 .skip))
 (.seq
 (.region [oN 23 (.load true 4 (.t 6)),
 Mv 24 0,
 oM 25 (.call (.c (.fn cW [] [])) [.t 24]),
 Mv 26 0,
 oM 27 (.call (.c (.fn cV [] [])) [.t 26]),
 oN 28 (.len .slice (.t 27)),
 oN 29 (.bin .eql .val (.t 25) (.t 28)),
 oU (.store 4 (.t 2) (.t 23)),
 Mv 3 29,
 oN 4 (.mov cZ)] [3, 4] true)
 .ret)))))
def jS : bS := ⟨1, m8, [.cell 2 true 4, .t 3, .t 4], .pure⟩
def AE : List Nat := [0, 2, 3, 4, 5, 6, 7, 11, 20]
def ms : ae :=
 (.seq
 (.seq
 (.region [Mv 39 5,
 Fa 40 2 2,
 Ld 41 1 40,
 oN 42 (.len .slice (.t 41)),
 oN 43 (.bin .lss .val (.t 39) (.t 42))] [43] false)
 (.cond (.t 43)
 .skip
 (.exit 0)))
 (.seq
 (.block 1
 (.seq
 (.region [Fa 46 2 2,
 Ld 47 1 46,
 Mv 48 5,
 Ia 49 1 47 48,
 Ld 50 1 49,
 Fa 51 2 3,
 Ld 52 1 51,
 Mv 53 5,
 Ia 54 1 52 53,
 Ld 55 1 54,
 oN 56 (.bin .neq .val (.t 50) (.t 55))] [56] true)
 (.cond (.t 56)
 (.seq
 (.region [oN 4 (.mov cF)] [4] false)
 .ret)
 .skip)))
 (.region [Mv 44 5,
 oN 45 (.bin .add .val (.t 44) cO),
 Mv 5 45] [5] false)))
def mw : ae :=
 (.seq
 (.seq
 (.region [Mv 57 6,
 Fa 58 3 2,
 Ld 59 1 58,
 oN 60 (.len .slice (.t 59)),
 oN 61 (.bin .lss .val (.t 57) (.t 60))] [61] false)
 (.cond (.t 61)
 .skip
 (.exit 2)))
 (.seq
 (.block 3
 (.alt [0, 1, 2, 3, 4, 5, 6, 7, 8, 9, 11, 10, 12, 13] 10 11 true [Fa 64 3 2,
 Ld 65 1 64,
 Mv 66 6,
 Ia 67 8 65 66,
 oN 68 (.load true 8 (.t 67)),
 Fa 69 3 3,
 ⟨(some 70), .load false 1 (.t 69), none, [⟨false, 1, .t 3, some 3⟩], false⟩,
 Mv 71 6,
 Ia 72 8 70 71,
 ⟨(some 73), .load true 8 (.t 72), none, [⟨false, 0, .c .nilp, none⟩], false⟩,
 oN 7 (.alloc [.int .i64 0, .int .i64 0, .int .i64 0, .int .i64 0, .str [], .sl .nil 3 [], .sl .nil 3 [], .int .i64 0]),
 oN 8 (.alloc [.int .i64 0, .int .i64 0, .int .i64 0, .int .i64 0, .str [], .sl .nil 3 [], .sl .nil 3 [], .int .i64 0]),
 ⟨none, .store 8 (.t 7) (.t 68), none, [⟨false, 1, .t 3, some 3⟩], false⟩,
 oU (.store 8 (.t 8) (.t 73))] [7, 8]
 (.seq
 (.region [Fa 74 0 7,
 Ld 75 1 74,
 Fa 76 0 8,
 Ld 77 1 76,
 oN 78 (.bin .neq .val (.t 75) (.t 77)),
 Mv 79 78,
 oG 80 (some (79, false)) (.faddr 1 (.t 7)),
 oG 81 (some (79, false)) (.load false 1 (.t 80)),
 oG 82 (some (79, false)) (.faddr 1 (.t 8)),
 oG 83 (some (79, false)) (.load false 1 (.t 82)),
 oG 84 (some (79, false)) (.bin .neq .val (.t 81) (.t 83)),
 oN 85 (.pick (.t 79) cT (.t 84)),
 Mv 86 85,
 oG 87 (some (86, false)) (.faddr 2 (.t 7)),
 oG 88 (some (86, false)) (.load false 1 (.t 87)),
 oG 89 (some (86, false)) (.faddr 2 (.t 8)),
 oG 90 (some (86, false)) (.load false 1 (.t 89)),
 oG 91 (some (86, false)) (.bin .neq .val (.t 88) (.t 90)),
 oN 92 (.pick (.t 86) cT (.t 91)),
 Mv 93 92,
 oG 94 (some (93, false)) (.faddr 7 (.t 7)),
 oG 95 (some (93, false)) (.load false 1 (.t 94)),
 oG 96 (some (93, false)) (.faddr 7 (.t 8)),
 oG 97 (some (93, false)) (.load false 1 (.t 96)),
 oG 98 (some (93, false)) (.bin .neq .val (.t 95) (.t 97)),
 oN 99 (.pick (.t 93) cT (.t 98)),
 Mv 100 99,
 oG 101 (some (100, false)) (.faddr 3 (.t 7)),
 oG 102 (some (100, false)) (.load true 3 (.t 101)),
 oG 103 (some (100, false)) (.bslice 3 [.int .i64 0, .str [], .sl .nil 3 []] 1 [(0, (.t 102))]),
 oG 104 (some (100, false)) (.faddr 3 (.t 8)),
 oG 105 (some (100, false)) (.load true 3 (.t 104)),
 oG 106 (some (100, false)) (.bslice 3 [.int .i64 0, .str [], .sl .nil 3 []] 1 [(0, (.t 105))]),
 oG 107 (some (100, false)) (.call (.c (.fn ej [] [])) [.t 103, .t 106]),
 oG 108 (some (100, false)) (.un .not (.t 107)),
 oN 109 (.pick (.t 100) cT (.t 108)),
 Mv 110 109,
 oG 111 (some (110, false)) (.faddr 6 (.t 7)),
 oG 112 (some (110, false)) (.load false 1 (.t 111)),
 oG 113 (some (110, false)) (.faddr 6 (.t 8)),
 oG 114 (some (110, false)) (.load false 1 (.t 113)),
 oG 115 (some (110, false)) (.call (.c (.fn ej [] [])) [.t 112, .t 114]),
 oG 116 (some (110, false)) (.un .not (.t 115)),
 oN 117 (.pick (.t 110) cT (.t 116))] [117] false)
 (.cond (.t 117)
 (.seq
 (.region [oN 4 (.mov cF)] [4] false)
 .ret)
 .skip)) [7, 8, 117]))
 (.region [Mv 62 6,
 oN 63 (.bin .add .val (.t 62) cO),
 Mv 6 63] [6] false)))
def rI : ae :=
 (.seq
 (.region [oN 2 (.box 4 (.t 0)),
 oN 3 (.box 4 (.t 1)),
 oN 4 (.mov cF)] [2, 3, 4] false)
 (.seq
 (.seq
 (.region [Fa 9 0 2,
 Ld 10 1 9,
 Fa 11 0 3,
 Ld 12 1 11,
 oN 13 (.bin .neq .val (.t 10) (.t 12)),
 Mv 14 13,
 oG 15 (some (14, false)) (.faddr 1 (.t 2)),
 oG 16 (some (14, false)) (.load false 1 (.t 15)),
 oG 17 (some (14, false)) (.faddr 1 (.t 3)),
 oG 18 (some (14, false)) (.load false 1 (.t 17)),
 oG 19 (some (14, false)) (.bin .neq .val (.t 16) (.t 18)),
 oN 20 (.pick (.t 14) cT (.t 19)),
 Mv 21 20,
 oG 22 (some (21, false)) (.faddr 2 (.t 2)),
 oG 23 (some (21, false)) (.load false 1 (.t 22)),
 oG 24 (some (21, false)) (.len .slice (.t 23)),
 oG 25 (some (21, false)) (.faddr 2 (.t 3)),
 oG 26 (some (21, false)) (.load false 1 (.t 25)),
 oG 27 (some (21, false)) (.len .slice (.t 26)),
 oG 28 (some (21, false)) (.bin .neq .val (.t 24) (.t 27)),
 oN 29 (.pick (.t 21) cT (.t 28)),
 Mv 30 29,
 oG 31 (some (30, false)) (.faddr 3 (.t 2)),
 oG 32 (some (30, false)) (.load false 1 (.t 31)),
 oG 33 (some (30, false)) (.len .slice (.t 32)),
 oG 34 (some (30, false)) (.faddr 3 (.t 3)),
 oG 35 (some (30, false)) (.load false 1 (.t 34)),
 oG 36 (some (30, false)) (.len .slice (.t 35)),
 oG 37 (some (30, false)) (.bin .neq .val (.t 33) (.t 36)),
 oN 38 (.pick (.t 30) cT (.t 37))] [38] false)
 (.cond (.t 38)
 (.seq
 (.region [oN 4 (.mov cF)] [4] false)
 .ret)
 .skip))
 (.seq
 (.seq
 (.region [oN 5 (.mov cZ)] [5] false)
 (.block 0
 (.loop [0, 1, 4, 6, 7, 8, 38, 43, 56, 61, 117] ms)))
 (.seq
 (.seq
 (.region [oN 6 (.mov cZ)] [6] false)
 (.block 2
 (.loop [0, 1, 4, 5, 7, 8, 38, 43, 56, 61, 117] mw)))
 (.seq
 (.region [oN 4 (.mov cT)] [4] false)
 .ret)))))
def mR : bS := ⟨2, rI, [.t 4], .pure⟩
def Ap : List Nat := [0, 1, 2, 3, 4, 5, 6, 7, 8, 38, 43, 56, 61, 117]
def eX : ae :=
 (.seq
 (.seq
 (.region [Mv 9 8,
 Mv 10 0,
 oN 11 (.len .slice (.t 10)),
 oN 12 (.bin .lss .val (.t 9) (.t 11)),
 Mv 13 12,
 oG 14 (some (13, true)) (.mov (.t 7)),
 oG 15 (some (13, true)) (.mov (.t 1)),
 oG 16 (some (13, true)) (.bin .leq .val (.t 14) (.t 15)),
 oN 17 (.pick (.t 13) (.t 16) cF)] [17] false)
 (.cond (.t 17)
 .skip
 (.exit 0)))
 (.seq
 (.block 1
 (.seq
 (.seq
 (.region [Mv 20 2,
 oN 21 (.bin .gtr .val (.t 20) (.c (.int .i64 150)))] [21] false)
 (.cond (.t 21)
 (.seq
 (.region [Mv 22 1,
 oN 23 (.bin .add .val (.t 22) cO),
 Mv 6 23] [6] false)
 .ret)
 .skip))
 (.region [Mv 24 7,
 Mv 25 0,
 Mv 26 8,
 Ia 27 3 25 26,
 Fa 28 2 27,
 Ld 29 1 28,
 Mv 30 1,
 Mv 31 7,
 oN 32 (.bin .sub .val (.t 30) (.t 31)),
 oN 33 (.bin .sub .val (.t 32) cO),
 Mv 34 2,
 oN 35 (.bin .add .val (.t 34) cO),
 Ca 36 dr [.t 29, .t 33, .t 35],
 oN 37 (.bin .add .val cO (.t 36)),
 oN 38 (.bin .add .val (.t 24) (.t 37)),
 Mv 7 38] [7] false)))
 (.region [Mv 18 8,
 oN 19 (.bin .add .val (.t 18) cO),
 Mv 8 19] [8] false)))
def qQ : ae :=
 (.seq
 (.region [oN 6 (.mov cZ)] [6] false)
 (.seq
 (.region [oN 7 (.mov cZ)] [7] false)
 (.seq
 (.seq
 (.region [oN 8 (.mov cZ)] [8] false)
 (.block 0
 (.loop [6, 17, 21] eX)))
 (.seq
 (.region [Mv 39 7,
 Mv 6 39] [6] false)
 .ret))))
def l9 : bS := ⟨3, qQ, [.t 6], .pure⟩
def yP : List Nat := [0, 1, 2, 6, 7, 8, 17, 21]
def eY : ae :=
 (.seq
 (.seq
 (.region [Mv 4 3,
 Mv 5 0,
 oN 6 (.len .slice (.t 5)),
 oN 7 (.bin .lss .val (.t 4) (.t 6))] [7] false)
 (.cond (.t 7)
 .skip
 (.exit 0)))
 (.seq
 (.block 1
 (.seq
 (.region [Mv 10 0,
 Mv 11 3,
 Ia 12 3 10 11,
 Fa 13 1 12,
 Ld 14 1 13,
 oN 15 (.len .str (.t 14)),
 oN 16 (.bin .gtr .val (.t 15) (.c (.int .i64 600))),
 Mv 17 16,
 oG 18 (some (17, false)) (.mov (.t 0)),
 oG 19 (some (17, false)) (.mov (.t 3)),
 oG 20 (some (17, false)) (.iaddr 3 (.t 18) (.t 19)),
 oG 21 (some (17, false)) (.faddr 2 (.t 20)),
 oG 22 (some (17, false)) (.load false 1 (.t 21)),
 oG 23 (some (17, false)) (.call (.c (.fn fO [] [])) [.t 22]),
 oG 24 (some (17, false)) (.un .not (.t 23)),
 oN 25 (.pick (.t 17) cT (.t 24))] [25] false)
 (.cond (.t 25)
 (.seq
 (.region [oN 2 (.mov cF)] [2] false)
 .ret)
 .skip)))
 (.region [Mv 8 3,
 oN 9 (.bin .add .val (.t 8) cO),
 Mv 3 9] [3] false)))
def qR : ae :=
 (.seq
 (.region [oN 2 (.mov cF)] [2] false)
 (.seq
 (.seq
 (.region [oN 3 (.mov cZ)] [3] false)
 (.block 0
 (.loop [2, 7, 25] eY)))
 (.seq
 (.region [oN 2 (.mov cT)] [2] false)
 .ret)))
def ma : bS := ⟨1, qR, [.t 2], .pure⟩
def yQ : List Nat := [0, 2, 3, 7, 25]
def HS : ae :=
 (.seq
 (.region [oN 2 (.box 4 (.t 0)),
 oN 4 (.mov cF),
 oN 5 (.mov cZ)] [2, 4, 5] false)
 (.seq
 (.seq
 (.region [oN 8 (.load true 4 (.t 2)),
 Ca 9 ip [.t 8],
 Mv 6 9] [6] false)
 (.seq
 (.region [Mv 10 6,
 oN 11 (.bin .neq .val (.t 10) cZ)] [11] false)
 (.cond (.t 11)
 (.seq
 (.region [Mv 12 6,
 oN 4 (.mov cF),
 Mv 5 12] [4, 5] false)
 .ret)
 .skip)))
 (.seq
 (.seq
 (.region [Mv 13 1,
 Ca 14 nF [.t 13],
 Mv 7 14] [7] false)
 (.seq
 (.region [Mv 15 7,
 oN 16 (.bin .neq .val (.t 15) cZ)] [16] false)
 (.cond (.t 16)
 (.seq
 (.region [Mv 17 7,
 oN 4 (.mov cF),
 Mv 5 17] [4, 5] false)
 .ret)
 .skip)))
 (.seq
 (.region [oN 18 (.load true 4 (.t 2)),
 Mv 19 1,
 oM 20 (.call (.c (.fn fA [] [])) [.t 18, .t 19]),
 Fa 21 1 2,
 Ld 22 1 21,
 oM 23 (.call (.c (.fn aR [] [])) [.t 20, .t 22]),
 Mv 4 23,
 oN 5 (.mov cZ)] [4, 5] true)
 .ret))))
def HP : bS := ⟨2, HS, [.t 4, .t 5], .pure⟩
def Im : List Nat := [0, 1, 2, 4, 5, 6, 7, 11, 16]
def ub : ae :=
 (.seq
 (.region [oN 2 (.mov cZ)] [2] false)
 (.seq
 (.seq
 (.region [Mv 4 0,
 Ca 5 qy [.t 4],
 Mv 3 5] [3] false)
 (.seq
 (.region [Mv 6 3,
 oN 7 (.bin .neq .val (.t 6) cZ)] [7] false)
 (.cond (.t 7)
 (.seq
 (.region [Mv 8 3,
 Mv 2 8] [2] false)
 .ret)
 .skip)))
 (.seq
 (.seq
 (.region [Mv 9 0,
 oN 10 (.call (.c (.fn jw [] [])) [.t 9, (.c (.sl .nil 1 []))]),
 oN 11 (.un .not (.t 10))] [11] false)
 (.cond (.t 11)
 (.seq
 (.region [oN 2 (.mov (.c (.int .i64 24)))] [2] false)
 .ret)
 .skip))
 (.seq
 (.region [oN 2 (.mov cZ)] [2] false)
 .ret))))
def pO : bS := ⟨1, ub, [.t 2], .pure⟩
def HJ : List Nat := [0, 2, 3, 7, 11]
def x7 : ae :=
 (.seq
 (.region [oN 2 (.alloc [.int .i64 0])] [2] false)
 (.seq
 (.region [oN 3 (.mkfn kg [] [.t 2]),
 oU (.defer (.t 3) [])] [] false)
 (.seq
 (.region [Mv 4 0,
 oN 5 (.call (.t 4) [])] [] false)
 (.seq
 (.region [oU (.store 1 (.t 2) cZ)] [] false)
 .ret))))
def sn : bS := ⟨1, x7, [.cell 2 false 1], .eff⟩
def Fq : List Nat := [0, 2]
def zj : ae :=
 (.region [Ld 2 1 0,
 Ca 3 iq [.t 2],
 oU (.store 4 (.t 1) (.t 3))] [] false)
def tR : bS := ⟨2, zj, [], .eff⟩
def HG : List Nat := [0, 1]
def x8 : ae :=
 (.seq
 (.region [oN 2 (.alloc [.int .i64 0, .int .i64 0, .sl .nil 1 [], .sl .nil 8 []])] [2] false)
 (.seq
 (.region [Mv 3 0,
 oN 4 (.call (.c (.fn qD [] [])) [.t 3, (.c (.fn dX [] []))]),
 oU (.store 4 (.t 2) (.t 4))] [] false)
 .ret))
def sq : bS := ⟨1, x8, [.cell 2 true 4], .pure⟩
def Fs : List Nat := [0, 2]
def lD : ae :=
 (.seq
 (.region [oN 2 (.mov cZ)] [2] false)
 (.seq
 (.seq
 (.region [Mv 4 0,
 Ca 5 g8 [.t 4],
 Mv 3 5] [3] false)
 (.seq
 (.region [Mv 6 3,
 oN 7 (.bin .neq .val (.t 6) cZ)] [7] false)
 (.cond (.t 7)
 (.seq
 (.region [Mv 8 3,
 Mv 2 8] [2] false)
 .ret)
 .skip)))
 (.seq
 (.seq
 (.region [Mv 9 0,
 oN 10 (.call (.c (.fn dW [] [])) [.t 9, (.c (.sl .nil 1 []))]),
 oN 11 (.un .not (.t 10))] [11] false)
 (.cond (.t 11)
 (.seq
 (.region [oN 2 (.mov (.c (.int .i64 24)))] [2] false)
 .ret)
 .skip))
 (.seq
 (.region [oN 2 (.mov cZ)] [2] false)
 .ret))))
def iA : bS := ⟨1, lD, [.t 2], .pure⟩
def xW : List Nat := [0, 2, 3, 7, 11]
def dn : ae :=
 (.seq
 (.seq
 (.region [Mv 13 6,
 Mv 14 0,
 oN 15 (.len .slice (.t 14)),
 oN 16 (.bin .lss .val (.t 13) (.t 15))] [16] false)
 (.cond (.t 16)
 .skip
 (.exit 0)))
 (.seq
 (.block 1
 (.seq
 (.region [oN 7 (.alloc [.int .i64 0, .int .i64 0, .sl .nil 1 [], .sl .nil 8 []])] [7] false)
 (.seq
 (.region [oN 8 (.mov cZ)] [8] false)
 (.seq
 (.seq
 (.region [Mv 19 0,
 Mv 20 6,
 Ia 21 3 19 20,
 Fa 22 0 21,
 Ld 23 1 22] [23] false)
 (.block 2
 (.seq
 (.region [oN 34 (.bin .eql .val (.t 23) (.c (.int .i64 5))),
 Mv 33 34] [33] false)
 (.cond (.t 33)
 (.region [Ca 35 kB [],
 oU (.store 4 (.t 7) (.t 35))] [] false)
 (.seq
 (.region [oN 37 (.bin .eql .val (.t 23) (.c (.int .i64 6))),
 Mv 36 37] [36] false)
 (.cond (.t 36)
 (.region [Ca 38 iP [],
 oU (.store 4 (.t 7) (.t 38))] [] false)
 (.seq
 (.region [oN 40 (.bin .eql .val (.t 23) (.c (.int .i64 7))),
 Mv 39 40] [39] false)
 (.cond (.t 39)
 (.region [Ca 41 kA [],
 oU (.store 4 (.t 7) (.t 41))] [] false)
 (.seq
 (.region [oN 43 (.bin .eql .val (.t 23) (.c (.int .i64 4))),
 Mv 42 43] [42] false)
 (.cond (.t 42)
 (.seq
 (.region [Mv 45 0,
 Mv 46 6,
 Ia 47 3 45 46,
 Fa 48 2 47,
 Ld 49 1 48,
 Ca 50 dH [.t 49],
 Mv 44 50,
 oN 51 (.ext (.t 44) 0),
 oN 52 (.ext (.t 44) 1),
 oU (.store 4 (.t 7) (.t 51)),
 Mv 8 52] [8] false)
 (.seq
 (.region [Mv 53 8,
 oN 54 (.bin .eql .val (.t 53) cZ)] [54] false)
 (.cond (.t 54)
 (.region [oN 56 (.load true 4 (.t 7)),
 Ca 57 j6 [.t 56],
 Mv 55 57,
 oN 58 (.ext (.t 55) 0),
 oN 59 (.ext (.t 55) 1),
 oU (.store 4 (.t 7) (.t 58)),
 Mv 8 59] [8] false)
 .skip)))
 (.region [Mv 25 0,
 Mv 26 6,
 Mv 27 6,
 oN 28 (.bin .add .val (.t 27) cO),
 oN 29 (.slice 3 (.t 25) (some (.t 26)) (some (.t 28)) none),
 Ca 30 eH [.t 29],
 Mv 24 30,
 oN 31 (.ext (.t 24) 0),
 oN 32 (.ext (.t 24) 1),
 oU (.store 4 (.t 7) (.t 31)),
 Mv 8 32] [8] false)))))))))))
 (.seq
 (.seq
 (.region [Mv 60 8,
 oN 61 (.bin .eql .val (.t 60) cZ)] [61] false)
 (.cond (.t 61)
 (.region [oN 63 (.load true 4 (.t 4)),
 oN 64 (.load true 4 (.t 7)),
 Ca 65 fh [.t 63, .t 64],
 Mv 62 65,
 oN 66 (.ext (.t 62) 0),
 oN 67 (.ext (.t 62) 1),
 oU (.store 4 (.t 4) (.t 66)),
 Mv 8 67] [8] false)
 .skip))
 (.seq
 (.region [Mv 68 8,
 oN 69 (.bin .neq .val (.t 68) cZ)] [69] false)
 (.cond (.t 69)
 (.seq
 (.region [oN 70 (.build [.int .i64 0, .int .i64 0, .sl .nil 1 [], .sl .nil 8 []] []),
 Mv 71 8,
 oU (.store 4 (.t 2) (.t 70)),
 Mv 3 71] [3] false)
 .ret)
 .skip)))))))
 (.region [Mv 17 6,
 oN 18 (.bin .add .val (.t 17) cO),
 Mv 6 18] [6] false)))
def rQ : ae :=
 (.seq
 (.region [oN 2 (.alloc [.int .i64 0, .int .i64 0, .sl .nil 1 [], .sl .nil 8 []]),
 oN 3 (.mov cZ)] [2, 3] false)
 (.seq
 (.region [oN 10 (.call (.c (.fn eH [] [])) [(.c (.sl .nil 3 []))]),
 Mv 9 10,
 oN 11 (.ext (.t 9) 0),
 oN 12 (.ext (.t 9) 1),
 oN 4 (.alloc [.int .i64 0, .int .i64 0, .sl .nil 1 [], .sl .nil 8 []]),
 oU (.store 4 (.t 4) (.t 11)),
 Mv 5 12] [4] false)
 (.seq
 (.seq
 (.region [oN 6 (.mov cZ)] [6] false)
 (.block 0
 (.loop [3, 7, 8, 16, 23, 33, 36, 39, 42, 54, 61, 69] dn)))
 (.seq
 (.region [oN 72 (.load true 4 (.t 4)),
 oU (.store 4 (.t 2) (.t 72)),
 oN 3 (.mov cZ)] [3] false)
 .ret))))
def mX : bS := ⟨1, rQ, [.cell 2 true 4, .t 3], .pure⟩
def AF : List Nat := [0, 2, 3, 4, 6, 7, 8, 16, 23, 33, 36, 39, 42, 54, 61, 69]
def fa : ae :=
 (.seq
 (.seq
 (.region [Mv 5 4,
 Mv 6 0,
 oN 7 (.len .slice (.t 6)),
 oN 8 (.bin .lss .val (.t 5) (.t 7))] [8] false)
 (.cond (.t 8)
 .skip
 (.exit 0)))
 (.seq
 (.block 1
 (.seq
 (.seq
 (.region [Mv 11 0,
 Mv 12 4,
 Ia 13 3 11 12,
 oN 14 (.load true 3 (.t 13)),
 Ca 15 ff [.t 14]] [15] false)
 (.cond (.t 15)
 (.region [Mv 16 3,
 oN 17 (.bin .add .val (.t 16) cO),
 Mv 3 17] [3] false)
 .skip))
 (.region [Mv 18 3,
 Mv 19 0,
 Mv 20 4,
 Ia 21 3 19 20,
 Fa 22 2 21,
 Ld 23 1 22,
 Ca 24 cW [.t 23],
 oN 25 (.bin .add .val (.t 18) (.t 24)),
 Mv 3 25] [3] false)))
 (.region [Mv 9 4,
 oN 10 (.bin .add .val (.t 9) cO),
 Mv 4 10] [4] false)))
def nL : ae :=
 (.seq
 (.region [oN 2 (.mov cZ)] [2] false)
 (.seq
 (.region [oN 3 (.mov cZ)] [3] false)
 (.seq
 (.seq
 (.region [oN 4 (.mov cZ)] [4] false)
 (.block 0
 (.loop [2, 8, 15] fa)))
 (.seq
 (.region [Mv 26 3,
 Mv 2 26] [2] false)
 .ret))))
def fE : bS := ⟨1, nL, [.t 2], .pure⟩
def uZ : List Nat := [0, 2, 3, 4, 8, 15]
def nK : ae :=
 (.seq
 (.region [oN 2 (.mov (.c (.sl .nil 1 [])))] [2] false)
 (.seq
 (.region [Mv 3 0,
 oN 4 (.call (.c (.fn fQ [] [])) [.t 3, (.c (.sl .nil 1 []))]),
 Mv 2 4] [2] false)
 .ret))
def fC : bS := ⟨1, nK, [.t 2], .pure⟩
def uW : List Nat := [0, 2]
def qT : ae :=
 (.seq
 (.region [oN 4 (.mov cF)] [4] false)
 (.seq
 (.region [Mv 5 0,
 Mv 6 1,
 Ca 7 bR [.t 5, .t 6],
 oN 8 (.bin .eql .val (.t 7) cZ),
 Mv 4 8] [4] false)
 .ret))
def mc : bS := ⟨2, qT, [.t 4], .pure⟩
def yT : List Nat := [0, 1, 4]
def f7 : ae :=
 (.seq
 (.region [oN 39 (.bin .lss .val (.t 38) (.t 37))] [39] false)
 (.seq
 (.cond (.t 39)
 .skip
 (.exit 0))
 (.seq
 (.block 1
 (.seq
 (.region [Mv 40 38,
 Ia 41 1 36 38,
 Ld 42 1 41,
 Mv 3 40,
 Mv 4 42] [3, 4] false)
 (.seq
 (.region [oN 43 (.load true 4 (.t 1)),
 Mv 44 4,
 Ca 45 aM [.t 43, .t 44],
 oN 46 (.un .not (.t 45)),
 Mv 47 46,
 oG 48 (some (47, false)) (.mov (.t 3)),
 oG 49 (some (47, false)) (.bin .gtr .val (.t 48) cZ),
 oG 50 (some (47, false)) (.mov (.t 49)),
 oG 51 (some (50, true)) (.faddr 2 (.t 1)),
 oG 52 (some (50, true)) (.load false 1 (.t 51)),
 oG 53 (some (50, true)) (.mov (.t 3)),
 oG 54 (some (50, true)) (.bin .sub .val (.t 53) cO),
 oG 55 (some (50, true)) (.iaddr 1 (.t 52) (.t 54)),
 oG 56 (some (50, true)) (.load false 1 (.t 55)),
 oG 57 (some (50, true)) (.mov (.t 4)),
 oG 58 (some (50, true)) (.bin .geq .val (.t 56) (.t 57)),
 oG 59 (some (47, false)) (.pick (.t 50) (.t 58) cF),
 oN 60 (.pick (.t 47) cT (.t 59))] [60] false)
 (.cond (.t 60)
 (.seq
 (.region [oN 2 (.mov (.c (.int .i64 250)))] [2] false)
 .ret)
 .skip))))
 (.region [oN 61 (.bin .add .val (.t 38) cO),
 Mv 38 61] [38] false))))
def fu : ae :=
 (.seq
 (.region [oN 1 (.box 4 (.t 0)),
 oN 2 (.mov cZ)] [1, 2] false)
 (.seq
 (.seq
 (.region [Fa 5 0 1,
 Ld 6 1 5,
 oN 7 (.bin .gtr .val (.t 6) (.c (.int .i64 400))),
 Mv 8 7,
 oG 9 (some (8, false)) (.faddr 2 (.t 1)),
 oG 10 (some (8, false)) (.load false 1 (.t 9)),
 oG 11 (some (8, false)) (.len .slice (.t 10)),
 oG 12 (some (8, false)) (.bin .gtr .val (.t 11) (.c (.int .i64 400))),
 oN 13 (.pick (.t 8) cT (.t 12)),
 Mv 14 13,
 oG 15 (some (14, false)) (.faddr 3 (.t 1)),
 oG 16 (some (14, false)) (.load false 1 (.t 15)),
 oG 17 (some (14, false)) (.len .slice (.t 16)),
 oG 18 (some (14, false)) (.bin .gtr .val (.t 17) (.c (.int .i64 4000))),
 oN 19 (.pick (.t 14) cT (.t 18)),
 Mv 20 19,
 oG 21 (some (20, false)) (.faddr 3 (.t 1)),
 oG 22 (some (20, false)) (.load false 1 (.t 21)),
 oG 23 (some (20, false)) (.call (.c (.fn ax [] [])) [.t 22, (.c (.fn ka [] []))]),
 oN 24 (.pick (.t 20) cT (.t 23))] [24] false)
 (.cond (.t 24)
 (.seq
 (.region [oN 2 (.mov (.c (.int .i64 5)))] [2] false)
 .ret)
 .skip))
 (.seq
 (.seq
 (.region [Fa 25 0 1,
 Ld 26 1 25,
 oN 27 (.bin .lss .val (.t 26) cO),
 Mv 28 27,
 oG 29 (some (28, false)) (.load true 4 (.t 1)),
 oG 30 (some (28, false)) (.faddr 1 (.t 1)),
 oG 31 (some (28, false)) (.load false 1 (.t 30)),
 oG 32 (some (28, false)) (.call (.c (.fn aM [] [])) [.t 29, .t 31]),
 oG 33 (some (28, false)) (.un .not (.t 32)),
 oN 34 (.pick (.t 28) cT (.t 33))] [34] false)
 (.cond (.t 34)
 (.seq
 (.region [oN 2 (.mov (.c (.int .i64 250)))] [2] false)
 .ret)
 .skip))
 (.seq
 (.seq
 (.region [Fa 35 2 1,
 Ld 36 1 35,
 oN 37 (.len .slice (.t 36)),
 oN 38 (.mov cZ)] [36, 37, 38] false)
 (.block 0
 (.loop [0, 2, 3, 4, 24, 34, 39, 60, 65] f7)))
 (.seq
 (.seq
 (.region [Fa 62 3 1,
 Ld 63 1 62,
 oN 64 (.mkfn kb [] [.t 1]),
 Ca 65 ax [.t 63, .t 64]] [65] false)
 (.cond (.t 65)
 (.seq
 (.region [oN 2 (.mov (.c (.int .i64 250)))] [2] false)
 .ret)
 .skip))
 (.seq
 (.region [oN 2 (.mov cZ)] [2] false)
 .ret))))))
def er : bS := ⟨1, fu, [.t 2], .pure⟩
def Fk : List Nat := [0, 1, 2, 3, 4, 24, 34, 36, 37, 38, 39, 60, 65]
def Cw : ae :=
 (.seq
 (.region [oN 2 (.mov cZ)] [2] false)
 (.seq
 (.region [Mv 3 0,
 Ca 4 qA [.t 3, (.c (.int .i64 4))],
 Mv 2 4] [2] false)
 .ret))
def wL : bS := ⟨1, Cw, [.t 2], .pure⟩
def KJ : List Nat := [0, 2]
def qm : ae :=
 (.block 1
 (.seq
 (.seq
 (.region [Fa 15 0 7,
 Ld 16 1 15,
 oN 17 (.bin .eql .val (.t 16) (.c (.int .i64 4)))] [17] false)
 (.cond (.t 17)
 (.seq
 (.region [oN 18 (.load true 4 (.t 2)),
 Fa 19 2 7,
 Ld 20 1 19,
 Ca 21 fA [.t 18, .t 20],
 oN 8 (.alloc [.int .u64 0, .int .u64 0, .int .u64 0, .int .u64 0, .int .u64 0, .int .u64 0, .int .u64 0]),
 oU (.store 7 (.t 8) (.t 21))] [8] false)
 (.seq
 (.region [oN 22 (.load true 4 (.t 2)),
 oN 23 (.load true 7 (.t 5)),
 oN 24 (.mkfn jD [] [.t 8]),
 Ca 25 jc [.t 22, .t 23, .t 24],
 oU (.store 7 (.t 5) (.t 25))] [] false)
 (.exit 1)))
 .skip))
 (.region [oN 26 (.load true 4 (.t 2)),
 oN 27 (.load true 7 (.t 5)),
 oN 28 (.mkfn jE [] [.t 7]),
 Ca 29 jc [.t 26, .t 27, .t 28],
 oU (.store 7 (.t 5) (.t 29))] [] false)))
def qM : ae :=
 (.seq
 (.region [oN 2 (.box 4 (.t 0)),
 oN 4 (.alloc [.int .u64 0, .int .u64 0, .int .u64 0, .int .u64 0, .int .u64 0, .int .u64 0, .int .u64 0])] [2, 4] false)
 (.seq
 (.region [oN 9 (.load true 4 (.t 2)),
 Ca 10 de [.t 9],
 oN 5 (.alloc [.int .u64 0, .int .u64 0, .int .u64 0, .int .u64 0, .int .u64 0, .int .u64 0, .int .u64 0]),
 oU (.store 7 (.t 5) (.t 10))] [5] false)
 (.seq
 (.seq
 (.region [Mv 11 1,
 Ca 12 gI [.t 11]] [12] false)
 (.block 0
 (.rangeFn (.t 12) [13, 14]
 (.region [oN 7 (.alloc [.int .i64 0, .str [], .sl .nil 3 []]),
 oU (.store 3 (.t 7) (.t 14))] [7] false) qm)))
 (.seq
 (.region [oN 30 (.load true 7 (.t 5)),
 oU (.store 7 (.t 4) (.t 30))] [] false)
 .ret))))
def qL : bS := ⟨2, qM, [.cell 4 true 7], .pure⟩
def qO : List Nat := [0, 1, 2, 4, 5, 7, 8, 12, 13, 14, 17]
def sR : ae :=
 (.seq
 (.region [oN 2 (.box 7 (.t 0)),
 oN 4 (.mov cF)] [2, 4] false)
 (.seq
 (.region [Mv 5 1,
 oN 6 (.bin .quo .val (.t 5) (.c (.int .i64 64))),
 oN 7 (.aaddr 1 7 (.t 2) (.t 6)),
 Ld 8 1 7,
 Mv 9 1,
 oN 10 (.bin .rem .val (.t 9) (.c (.int .i64 64))),
 oN 11 (.bin .shr .val (.t 8) (.t 10)),
 oN 12 (.bin .and .val (.t 11) (.c (.int .u64 1))),
 oN 13 (.bin .eql .val (.t 12) (.c (.int .u64 1))),
 Mv 4 13] [4] false)
 .ret))
def nP : bS := ⟨2, sR, [.t 4], .pure⟩
def Bi : List Nat := [0, 1, 2, 4]
def zh : ae :=
 (.seq
 (.region [oN 2 (.mov cZ)] [2] false)
 (.seq
 (.region [Mv 3 0,
 Ca 4 qA [.t 3, (.c (.int .i64 7))],
 Mv 2 4] [2] false)
 .ret))
def tP : bS := ⟨1, zh, [.t 2], .pure⟩
def HC : List Nat := [0, 2]
def qn : ae :=
 (.seq
 (.region [oN 12 (.bin .lss .val (.t 11) (.t 10))] [12] false)
 (.seq
 (.cond (.t 12)
 .skip
 (.exit 0))
 (.seq
 (.block 1
 (.seq
 (.region [Ia 13 1 9 11,
 Ld 14 1 13,
 Mv 7 14] [7] false)
 (.region [Mv 15 5,
 Mv 16 7,
 oU (.mapset .str (.t 15) (.t 16) cT)] [] false)))
 (.region [oN 17 (.bin .add .val (.t 11) cO),
 Mv 11 17] [11] false))))
def qP : ae :=
 (.seq
 (.region [oN 4 (.mov cF)] [4] false)
 (.seq
 (.region [oN 8 (.mkmap),
 Mv 5 8] [5] false)
 (.seq
 (.seq
 (.region [Mv 9 1,
 oN 10 (.len .slice (.t 9)),
 oN 11 (.mov cZ)] [9, 10, 11] false)
 (.block 0
 (.loop [1, 4, 7, 12] qn)))
 (.seq
 (.region [Mv 18 0,
 Mv 19 5,
 oN 20 (.mkmap),
 Ca 21 jd [.t 18, .t 19, .t 20],
 Mv 4 21] [4] false)
 .ret))))
def l8 : bS := ⟨2, qP, [.t 4], .pure⟩
def yN : List Nat := [0, 1, 4, 5, 7, 9, 10, 11, 12]
def vg : ae :=
 (.seq
 (.region [oN 4 (.recover),
 Mv 1 4] [1] false)
 (.seq
 (.region [Mv 5 1,
 oN 6 (.bin .neq .iface (.t 5) (.c (.nilif)))] [6] false)
 (.cond (.t 6)
 (.seq
 (.region [Mv 8 1,
 oN 9 (.tassert 64 (.agg [.int .i64 0]) true (.t 8)),
 Mv 7 9,
 oN 10 (.ext (.t 7) 0),
 oN 11 (.ext (.t 7) 1),
 oN 2 (.alloc [.int .i64 0]),
 oU (.store 1 (.t 2) (.t 10)),
 Mv 3 11] [2, 3] false)
 (.seq
 (.seq
 (.region [Mv 12 3,
 oN 13 (.un .not (.t 12))] [13] false)
 (.cond (.t 13)
 (.region [Mv 14 1,
 oU (.panic (.t 14))] [] false)
 .skip))
 (.region [Fa 15 0 2,
 Ld 16 1 15,
 oU (.store 1 (.t 0) (.t 16))] [] false)))
 .skip)))
def pN : bS := ⟨1, vg, [], .eff⟩
def Dx : List Nat := [0, 1, 2, 3, 6, 13]
def sG : ae :=
 (.seq
 (.region [oN 15 (.bin .lss .val (.t 14) (.t 13))] [15] false)
 (.seq
 (.cond (.t 15)
 .skip
 (.exit 0))
 (.seq
 (.block 1
 (.seq
 (.region [Ia 16 3 12 14,
 oN 17 (.load true 3 (.t 16)),
 oN 7 (.alloc [.int .i64 0, .str [], .sl .nil 3 []]),
 oU (.store 3 (.t 7) (.t 17))] [7] false)
 (.region [oN 18 (.load true 4 (.t 5)),
 Mv 19 1,
 oN 20 (.load true 3 (.t 7)),
 oM 21 (.call (.t 19) [.t 20]),
 oM 22 (.call (.c (.fn kQ [] [])) [.t 18, .t 21]),
 oN 23 (.ext (.t 22) 0),
 oN 24 (.ext (.t 22) 1),
 oM 25 (.call (.c (.fn aW [] [])) [.t 23, .t 24]),
 oU (.store 4 (.t 5) (.t 25))] [] true)))
 (.region [oN 26 (.bin .add .val (.t 14) cO),
 Mv 14 26] [14] false))))
def zk : ae :=
 (.seq
 (.region [oN 4 (.alloc [.int .i64 0, .int .i64 0, .sl .nil 1 [], .sl .nil 8 []])] [4] false)
 (.seq
 (.region [oN 8 (.call (.c (.fn kc [] [])) [(.c (.sl .nil 3 []))]),
 oN 9 (.ext (.t 8) 0),
 oN 10 (.ext (.t 8) 1),
 Ca 11 aW [.t 9, .t 10],
 oN 5 (.alloc [.int .i64 0, .int .i64 0, .sl .nil 1 [], .sl .nil 8 []]),
 oU (.store 4 (.t 5) (.t 11))] [5] false)
 (.seq
 (.seq
 (.region [Mv 12 0,
 oN 13 (.len .slice (.t 12)),
 oN 14 (.mov cZ)] [12, 13, 14] false)
 (.block 0
 (.loop [0, 7, 15] sG)))
 (.seq
 (.region [oN 27 (.load true 4 (.t 5)),
 oU (.store 4 (.t 4) (.t 27))] [] false)
 .ret))))
def tS : bS := ⟨2, zk, [.cell 4 true 4], .pure⟩
def HI : List Nat := [0, 1, 4, 5, 7, 12, 13, 14, 15]
def gU : ae :=
 (.seq
 (.region [oN 1 (.box 3 (.t 0)),
 oN 2 (.alloc [.int .i64 0, .int .i64 0, .sl .nil 1 [], .sl .nil 8 []])] [1, 2] false)
 (.seq
 (.seq
 (.region [Fa 3 0 1,
 Ld 4 1 3] [4] false)
 (.block 0
 (.seq
 (.region [oN 6 (.bin .eql .val (.t 4) (.c (.int .i64 5))),
 Mv 5 6] [5] false)
 (.cond (.t 5)
 (.seq
 (.region [oN 7 (.bslice 1 [.int .i64 0] 1 [(0, cO)]),
 Ca 8 lW [cZ, cO],
 oN 9 (.build [.int .i64 0, .int .i64 0, .sl .nil 1 [], .sl .nil 8 []] [(0, 1, (.c (.int .i64 2))), (2, 1, (.t 7)), (3, 1, (.t 8))]),
 oU (.store 4 (.t 2) (.t 9))] [] false)
 .ret)
 (.seq
 (.region [oN 11 (.bin .eql .val (.t 4) (.c (.int .i64 6))),
 Mv 10 11] [10] false)
 (.cond (.t 10)
 (.seq
 (.region [oN 12 (.bslice 1 [.int .i64 0] 2 [(0, cO), (1, (.c (.int .i64 2)))]),
 Ca 13 ox [cZ, cO, (.c (.int .i64 2))],
 Ca 14 ox [(.c (.int .i64 2)), (.c (.int .i64 2)), (.c (.int .i64 2))],
 oN 15 (.app 8 (.t 13) (.t 14)),
 oN 16 (.build [.int .i64 0, .int .i64 0, .sl .nil 1 [], .sl .nil 8 []] [(0, 1, (.c (.int .i64 3))), (2, 1, (.t 12)), (3, 1, (.t 15))]),
 oU (.store 4 (.t 2) (.t 16))] [] false)
 .ret)
 (.seq
 (.region [oN 18 (.bin .eql .val (.t 4) (.c (.int .i64 7))),
 Mv 17 18] [17] false)
 (.cond (.t 17)
 (.seq
 (.region [Ca 19 rE [],
 oU (.store 4 (.t 2) (.t 19))] [] false)
 .ret)
 (.seq
 (.region [oN 21 (.bin .eql .val (.t 4) (.c (.int .i64 4))),
 Mv 20 21] [20] false)
 (.cond (.t 20)
 (.seq
 (.region [Fa 22 2 1,
 Ld 23 1 22,
 Ca 24 iq [.t 23],
 Ca 25 qt [.t 24],
 oN 26 (.ext (.t 25) 0),
 oN 27 (.ext (.t 25) 1),
 Ca 28 aW [.t 26, .t 27],
 oU (.store 4 (.t 2) (.t 28))] [] false)
 .ret)
 .skip))))))))))
 (.seq
 (.region [oN 29 (.load true 3 (.t 1)),
 oN 30 (.bslice 3 [.int .i64 0, .str [], .sl .nil 3 []] 1 [(0, (.t 29))]),
 Ca 31 kc [.t 30],
 oN 32 (.ext (.t 31) 0),
 oN 33 (.ext (.t 31) 1),
 Ca 34 aW [.t 32, .t 33],
 oU (.store 4 (.t 2) (.t 34))] [] false)
 .ret)))
def dS : bS := ⟨1, gU, [.cell 2 true 4], .pure⟩
def Dy : List Nat := [0, 1, 2, 4, 5, 10, 17, 20]
def ru : ae :=
 (.seq
 (.seq
 (.region [Mv 7 6,
 oN 8 (.bin .leq .val (.t 7) (.c (.int .i64 4)))] [8] false)
 (.cond (.t 8)
 .skip
 (.exit 0)))
 (.seq
 (.block 1
 (.region [Mv 11 5,
 Mv 12 0,
 Mv 13 1,
 Mv 14 6,
 oN 15 (.build [.int .i64 0, .int .i64 0, .int .i64 0, .int .i64 0, .str [], .sl .nil 3 [], .sl .nil 3 [], .int .i64 0] [(0, 1, (.t 12)), (1, 1, (.t 13)), (2, 1, (.t 14))]),
 oN 16 (.bslice 8 [.int .i64 0, .int .i64 0, .int .i64 0, .int .i64 0, .str [], .sl .nil 3 [], .sl .nil 3 [], .int .i64 0] 1 [(0, (.t 15))]),
 oN 17 (.app 8 (.t 11) (.t 16)),
 Mv 5 17] [5] false))
 (.region [Mv 9 6,
 oN 10 (.bin .add .val (.t 9) cO),
 Mv 6 10] [6] false)))
def x9 : ae :=
 (.seq
 (.region [oN 4 (.mov (.c (.sl .nil 8 [])))] [4] false)
 (.seq
 (.region [oN 5 (.mov (.c (.sl .nil 8 [])))] [5] false)
 (.seq
 (.seq
 (.region [oN 6 (.mov (.c (.int .i64 2)))] [6] false)
 (.block 0
 (.loop [4, 8] ru)))
 (.seq
 (.region [Mv 18 5,
 Mv 4 18] [4] false)
 .ret))))
def ss : bS := ⟨2, x9, [.t 4], .keep⟩
def Ft : List Nat := [0, 1, 4, 5, 6, 8]
def Bz : ae :=
 (.seq
 (.region [oN 6 (.mov (.c (.sl .nil 8 [])))] [6] false)
 (.seq
 (.region [Mv 7 0,
 Mv 8 1,
 Ca 9 lW [.t 7, .t 8],
 Mv 10 0,
 Mv 11 1,
 Mv 12 2,
 oN 13 (.build [.int .i64 0, .int .i64 0, .int .i64 0, .int .i64 0, .str [], .sl .nil 3 [], .sl .nil 3 [], .int .i64 0] [(0, 1, (.t 10)), (1, 1, (.t 11)), (2, 1, (.c (.int .i64 5))), (7, 1, (.t 12))]),
 oN 14 (.bslice 8 [.int .i64 0, .int .i64 0, .int .i64 0, .int .i64 0, .str [], .sl .nil 3 [], .sl .nil 3 [], .int .i64 0] 1 [(0, (.t 13))]),
 oN 15 (.app 8 (.t 9) (.t 14)),
 Mv 6 15] [6] false)
 .ret))
def vC : bS := ⟨3, Bz, [.t 6], .keep⟩
def Iq : List Nat := [0, 1, 2, 6]
def By : ae :=
 (.seq
 (.region [oN 0 (.alloc [.int .i64 0, .int .i64 0, .sl .nil 1 [], .sl .nil 8 []])] [0] false)
 (.seq
 (.region [oN 1 (.bslice 1 [.int .i64 0] 1 [(0, cZ)]),
 oN 2 (.build [.int .i64 0, .int .i64 0, .int .i64 0, .int .i64 0, .str [], .sl .nil 3 [], .sl .nil 3 [], .int .i64 0] [(2, 1, (.c (.int .i64 2)))]),
 oN 3 (.build [.int .i64 0, .int .i64 0, .int .i64 0, .int .i64 0, .str [], .sl .nil 3 [], .sl .nil 3 [], .int .i64 0] [(2, 1, (.c (.int .i64 3)))]),
 oN 4 (.build [.int .i64 0, .int .i64 0, .int .i64 0, .int .i64 0, .str [], .sl .nil 3 [], .sl .nil 3 [], .int .i64 0] [(2, 1, (.c (.int .i64 4)))]),
 oN 5 (.build [.int .i64 0, .int .i64 0, .int .i64 0, .int .i64 0, .str [], .sl .nil 3 [], .sl .nil 3 [], .int .i64 0] [(2, 1, (.c (.int .i64 5)))]),
 oN 6 (.bslice 8 [.int .i64 0, .int .i64 0, .int .i64 0, .int .i64 0, .str [], .sl .nil 3 [], .sl .nil 3 [], .int .i64 0] 4 [(0, (.t 2)), (1, (.t 3)), (2, (.t 4)), (3, (.t 5))]),
 oN 7 (.build [.int .i64 0, .int .i64 0, .sl .nil 1 [], .sl .nil 8 []] [(0, 1, cO), (2, 1, (.t 1)), (3, 1, (.t 6))]),
 oU (.store 4 (.t 0) (.t 7))] [] false)
 .ret))
def vB : bS := ⟨0, By, [.cell 0 true 4], .pure⟩
def Il : List Nat := [0]
def lh : ae :=
 (.seq
 (.region [oN 2 (.box 4 (.t 0)),
 oN 4 (.alloc [.int .i64 0, .int .i64 0, .sl .nil 1 [], .sl .nil 8 []])] [2, 4] false)
 (.seq
 (.seq
 (.region [Mv 5 1,
 oN 6 (.bin .neq .val (.t 5) cZ)] [6] false)
 (.cond (.t 6)
 (.region [Mv 7 1,
 oN 8 (.build [.int .i64 0] [(0, 1, (.t 7))]),
 oN 9 (.mkif 64 (.t 8)),
 oU (.panic (.t 9))] [] false)
 .skip))
 (.seq
 (.region [oN 10 (.load true 4 (.t 2)),
 oU (.store 4 (.t 4) (.t 10))] [] false)
 .ret)))
def dR : bS := ⟨2, lh, [.cell 4 true 4], .pure⟩
def sk : List Nat := [0, 1, 2, 4, 6]
def tZ : ae :=
 (.seq
 (.region [oN 1 (.box 4 (.t 0)),
 oN 2 (.alloc [.int .i64 0, .int .i64 0, .sl .nil 1 [], .sl .nil 8 []]),
 oN 3 (.mov cZ)] [1, 2, 3] false)
 (.seq
 (.seq
 (.region [oN 5 (.load true 4 (.t 1)),
 Ca 6 ip [.t 5],
 Mv 4 6] [4] false)
 (.seq
 (.region [Mv 7 4,
 oN 8 (.bin .neq .val (.t 7) cZ)] [8] false)
 (.cond (.t 8)
 (.seq
 (.region [oN 9 (.build [.int .i64 0, .int .i64 0, .sl .nil 1 [], .sl .nil 8 []] []),
 Mv 10 4,
 oU (.store 4 (.t 2) (.t 9)),
 Mv 3 10] [3] false)
 .ret)
 .skip)))
 (.seq
 (.region [oN 11 (.mkfn kS [] [.t 1]),
 Ca 12 g9 [.t 11],
 oN 13 (.ext (.t 12) 0),
 oN 14 (.ext (.t 12) 1),
 oU (.store 4 (.t 2) (.t 13)),
 Mv 3 14] [3] false)
 .ret)))
def pJ : bS := ⟨1, tZ, [.cell 2 true 4, .t 3], .pure⟩
def Hu : List Nat := [0, 1, 2, 3, 4, 8]
def pZ : ae :=
 (.seq
 (.region [oN 1 (.box 1 (.t 0)),
 oN 2 (.alloc [.int .i64 0, .int .i64 0, .sl .nil 1 [], .sl .nil 8 []]),
 oN 3 (.mov cZ)] [1, 2, 3] false)
 (.seq
 (.seq
 (.region [Ld 5 1 1,
 Ca 6 nF [.t 5],
 Mv 4 6] [4] false)
 (.seq
 (.region [Mv 7 4,
 oN 8 (.bin .neq .val (.t 7) cZ)] [8] false)
 (.cond (.t 8)
 (.seq
 (.region [oN 9 (.build [.int .i64 0, .int .i64 0, .sl .nil 1 [], .sl .nil 8 []] []),
 Mv 10 4,
 oU (.store 4 (.t 2) (.t 9)),
 Mv 3 10] [3] false)
 .ret)
 .skip)))
 (.seq
 (.region [oN 11 (.mkfn iy [] [.t 1]),
 Ca 12 g9 [.t 11],
 oN 13 (.ext (.t 12) 0),
 oN 14 (.ext (.t 12) 1),
 oU (.store 4 (.t 2) (.t 13)),
 Mv 3 14] [3] false)
 .ret)))
def mA : bS := ⟨1, pZ, [.cell 2 true 4, .t 3], .pure⟩
def Ds : List Nat := [0, 1, 2, 3, 4, 8]
def gF : ae :=
 (.seq
 (.region [oN 10 (.bin .lss .val (.t 9) (.t 8))] [10] false)
 (.seq
 (.cond (.t 10)
 .skip
 (.exit 0))
 (.seq
 (.block 1
 (.seq
 (.region [Ia 11 3 7 9,
 oN 12 (.load true 3 (.t 11)),
 oN 6 (.alloc [.int .i64 0, .str [], .sl .nil 3 []]),
 oU (.store 3 (.t 6) (.t 12))] [6] false)
 (.seq
 (.seq
 (.region [oN 13 (.load true 3 (.t 6)),
 Ca 14 hG [.t 13]] [14] false)
 (.cond (.t 14)
 (.region [Mv 15 1,
 oN 16 (.load true 3 (.t 6)),
 Ca 17 sa [.t 16],
 oN 18 (.lookup .str (.int .i64 0) (.t 15) (.t 17) false),
 oN 19 (.bin .add .val (.t 18) cO),
 oU (.mapset .str (.t 15) (.t 17) (.t 19))] [] false)
 .skip))
 (.region [Fa 20 2 6,
 Ld 21 1 20,
 Mv 22 1,
 Ca 23 kG [.t 21, .t 22]] [] false))))
 (.region [oN 24 (.bin .add .val (.t 9) cO),
 Mv 9 24] [9] false))))
def s8 : ae :=
 (.seq
 (.region [oN 4 (.mov (.c (.map none)))] [4] false)
 (.seq
 (.seq
 (.region [Mv 7 0,
 oN 8 (.len .slice (.t 7)),
 oN 9 (.mov cZ)] [7, 8, 9] false)
 (.block 0
 (.loop [0, 4, 6, 10, 14] gF)))
 (.seq
 (.region [Mv 25 1,
 Mv 4 25] [4] false)
 .ret)))
def nZ : bS := ⟨2, s8, [.t 4], .eff⟩
def Bu : List Nat := [0, 1, 4, 6, 7, 8, 9, 10, 14]
def ph : ae :=
 (.seq
 (.region [oN 2 (.mov cZ)] [2] false)
 (.seq
 (.region [Mv 3 0,
 Ca 4 fR [.t 3, (.c (.int .i64 7))],
 Mv 2 4] [2] false)
 .ret))
def kH : bS := ⟨1, ph, [.t 2], .pure⟩
def wF : List Nat := [0, 2]
def bH : ae :=
 (.seq
 (.seq
 (.region [Mv 9 6,
 Mv 10 5,
 oN 11 (.len .slice (.t 10)),
 oN 12 (.bin .lss .val (.t 9) (.t 11))] [12] false)
 (.cond (.t 12)
 .skip
 (.exit 0)))
 (.seq
 (.block 1
 (.seq
 (.region [Mv 15 5,
 Mv 16 6,
 Ia 17 1 15 16,
 Ld 18 1 17,
 oN 19 (.index (.t 18) cZ),
 oN 20 (.bin .neq .val (.t 19) (.c (.int .u8 115))),
 Mv 21 20,
 oG 22 (some (21, true)) (.mov (.t 1)),
 oG 23 (some (21, true)) (.mov (.t 5)),
 oG 24 (some (21, true)) (.mov (.t 6)),
 oG 25 (some (21, true)) (.iaddr 1 (.t 23) (.t 24)),
 oG 26 (some (21, true)) (.load false 1 (.t 25)),
 oG 27 (some (21, true)) (.call (.c (.fn fp [] [])) [.t 22, .t 26]),
 oG 28 (some (21, true)) (.un .not (.t 27)),
 oN 29 (.pick (.t 21) (.t 28) cF),
 Mv 30 29,
 oG 31 (some (30, true)) (.mov (.t 0)),
 oG 32 (some (30, true)) (.mov (.t 5)),
 oG 33 (some (30, true)) (.mov (.t 6)),
 oG 34 (some (30, true)) (.iaddr 1 (.t 32) (.t 33)),
 oG 35 (some (30, true)) (.load false 1 (.t 34)),
 oG 36 (some (30, true)) (.call (.c (.fn fg [] [])) [.t 31, .t 35]),
 oG 37 (some (30, true)) (.bin .gtr .val (.t 36) cO),
 oN 38 (.pick (.t 30) (.t 37) cF)] [38] false)
 (.cond (.t 38)
 (.seq
 (.region [oN 4 (.mov cF)] [4] false)
 .ret)
 .skip)))
 (.region [Mv 13 6,
 oN 14 (.bin .add .val (.t 13) cO),
 Mv 6 14] [6] false)))
def lg : ae :=
 (.seq
 (.region [oN 4 (.mov cF)] [4] false)
 (.seq
 (.region [Mv 7 0,
 Ca 8 cV [.t 7],
 Mv 5 8] [5] false)
 (.seq
 (.seq
 (.region [oN 6 (.mov cZ)] [6] false)
 (.block 0
 (.loop [4, 12, 38] bH)))
 (.seq
 (.region [Mv 39 0,
 Mv 40 1,
 Ca 41 fS [.t 39, .t 40],
 Mv 4 41] [4] false)
 .ret))))
def gw : bS := ⟨2, lg, [.t 4], .pure⟩
def sf : List Nat := [0, 1, 4, 5, 6, 12, 38]
def kL : ae :=
 (.seq
 (.region [oN 2 (.alloc [.int .i64 0, .int .i64 0, .sl .nil 1 [], .sl .nil 8 []]),
 oN 3 (.mov cZ)] [2, 3] false)
 (.seq
 (.seq
 (.region [Mv 6 0,
 Ca 7 fP [.t 6],
 Mv 4 7] [4] false)
 (.seq
 (.region [Mv 8 4,
 oN 9 (.bin .neq .val (.t 8) cZ)] [9] false)
 (.cond (.t 9)
 (.seq
 (.region [oN 10 (.build [.int .i64 0, .int .i64 0, .sl .nil 1 [], .sl .nil 8 []] []),
 Mv 11 4,
 oU (.store 4 (.t 2) (.t 10)),
 Mv 3 11] [3] false)
 .ret)
 .skip)))
 (.seq
 (.region [oN 12 (.build [.int .i64 0, .int .i64 0, .sl .nil 1 [], .sl .nil 8 []] []),
 Mv 13 0,
 Ca 14 fT [.t 12, .t 13],
 oN 5 (.alloc [.int .i64 0, .int .i64 0, .sl .nil 1 [], .sl .nil 8 []]),
 oU (.store 4 (.t 5) (.t 14))] [5] false)
 (.seq
 (.region [Fa 15 2 5,
 Ld 16 1 15,
 Ca 17 fj [.t 16],
 Fa 18 2 5,
 oU (.store 1 (.t 18) (.t 17))] [] false)
 (.seq
 (.region [oN 19 (.load true 4 (.t 5)),
 Ca 20 eI [.t 19],
 oN 21 (.ext (.t 20) 0),
 oN 22 (.ext (.t 20) 1),
 oU (.store 4 (.t 2) (.t 21)),
 Mv 3 22] [3] false)
 .ret)))))
def gP : bS := ⟨1, kL, [.cell 2 true 4, .t 3], .pure⟩
def wG : List Nat := [0, 2, 3, 4, 5, 9]
def sV : ae :=
 (.seq
 (.region [oN 0 (.alloc [.int .i64 0, .int .i64 0, .sl .nil 1 [], .sl .nil 8 []])] [0] false)
 (.seq
 (.region [oN 1 (.bslice 1 [.int .i64 0] 1 [(0, cO)]),
 oN 2 (.build [.int .i64 0, .int .i64 0, .int .i64 0, .int .i64 0, .str [], .sl .nil 3 [], .sl .nil 3 [], .int .i64 0] [(1, 1, cO), (2, 1, (.c (.int .i64 2)))]),
 oN 3 (.build [.int .i64 0, .int .i64 0, .int .i64 0, .int .i64 0, .str [], .sl .nil 3 [], .sl .nil 3 [], .int .i64 0] [(1, 1, cO), (2, 1, (.c (.int .i64 3)))]),
 oN 4 (.build [.int .i64 0, .int .i64 0, .int .i64 0, .int .i64 0, .str [], .sl .nil 3 [], .sl .nil 3 [], .int .i64 0] [(1, 1, cO), (2, 1, (.c (.int .i64 4)))]),
 oN 5 (.bslice 8 [.int .i64 0, .int .i64 0, .int .i64 0, .int .i64 0, .str [], .sl .nil 3 [], .sl .nil 3 [], .int .i64 0] 3 [(0, (.t 2)), (1, (.t 3)), (2, (.t 4))]),
 oN 6 (.build [.int .i64 0, .int .i64 0, .sl .nil 1 [], .sl .nil 8 []] [(0, 1, (.c (.int .i64 2))), (2, 1, (.t 1)), (3, 1, (.t 5))]),
 oU (.store 4 (.t 0) (.t 6))] [] false)
 .ret))
def nS : bS := ⟨0, sV, [.cell 0 true 4], .pure⟩
def Bl : List Nat := [0]
def pY : ae :=
 (.seq
 (.region [oN 0 (.alloc [.int .i64 0, .int .i64 0, .sl .nil 1 [], .sl .nil 8 []])] [0] false)
 (.seq
 (.region [oN 1 (.bslice 1 [.int .i64 0] 2 [(0, cO), (1, (.c (.int .i64 2)))]),
 oN 2 (.build [.int .i64 0, .int .i64 0, .int .i64 0, .int .i64 0, .str [], .sl .nil 3 [], .sl .nil 3 [], .int .i64 0] [(1, 1, cO), (2, 1, (.c (.int .i64 2)))]),
 oN 3 (.build [.int .i64 0, .int .i64 0, .int .i64 0, .int .i64 0, .str [], .sl .nil 3 [], .sl .nil 3 [], .int .i64 0] [(1, 1, cO), (2, 1, (.c (.int .i64 3)))]),
 oN 4 (.build [.int .i64 0, .int .i64 0, .int .i64 0, .int .i64 0, .str [], .sl .nil 3 [], .sl .nil 3 [], .int .i64 0] [(1, 1, cO), (2, 1, (.c (.int .i64 4)))]),
 oN 5 (.build [.int .i64 0, .int .i64 0, .int .i64 0, .int .i64 0, .str [], .sl .nil 3 [], .sl .nil 3 [], .int .i64 0] [(1, 1, cO), (2, 1, (.c (.int .i64 5))), (7, 1, (.c (.int .i64 2)))]),
 oN 6 (.build [.int .i64 0, .int .i64 0, .int .i64 0, .int .i64 0, .str [], .sl .nil 3 [], .sl .nil 3 [], .int .i64 0] [(0, 1, (.c (.int .i64 2))), (1, 1, (.c (.int .i64 2))), (2, 1, (.c (.int .i64 2)))]),
 oN 7 (.build [.int .i64 0, .int .i64 0, .int .i64 0, .int .i64 0, .str [], .sl .nil 3 [], .sl .nil 3 [], .int .i64 0] [(0, 1, (.c (.int .i64 2))), (1, 1, (.c (.int .i64 2))), (2, 1, (.c (.int .i64 3)))]),
 oN 8 (.build [.int .i64 0, .int .i64 0, .int .i64 0, .int .i64 0, .str [], .sl .nil 3 [], .sl .nil 3 [], .int .i64 0] [(0, 1, (.c (.int .i64 2))), (1, 1, (.c (.int .i64 2))), (2, 1, (.c (.int .i64 4)))]),
 oN 9 (.build [.int .i64 0, .int .i64 0, .int .i64 0, .int .i64 0, .str [], .sl .nil 3 [], .sl .nil 3 [], .int .i64 0] [(0, 1, (.c (.int .i64 2))), (1, 1, (.c (.int .i64 2))), (2, 1, (.c (.int .i64 5))), (7, 1, (.c (.int .i64 2)))]),
 oN 10 (.bslice 8 [.int .i64 0, .int .i64 0, .int .i64 0, .int .i64 0, .str [], .sl .nil 3 [], .sl .nil 3 [], .int .i64 0] 8 [(0, (.t 2)), (1, (.t 3)), (2, (.t 4)), (3, (.t 5)), (4, (.t 6)), (5, (.t 7)), (6, (.t 8)), (7, (.t 9))]),
 oN 11 (.build [.int .i64 0, .int .i64 0, .sl .nil 1 [], .sl .nil 8 []] [(0, 1, (.c (.int .i64 3))), (2, 1, (.t 1)), (3, 1, (.t 10))]),
 oU (.store 4 (.t 0) (.t 11))] [] false)
 .ret))
def lz : bS := ⟨0, pY, [.cell 0 true 4], .pure⟩
def xV : List Nat := [0]
def sU : ae :=
 (.seq
 (.region [oN 0 (.alloc [.int .i64 0, .int .i64 0, .sl .nil 1 [], .sl .nil 8 []])] [0] false)
 (.seq
 (.region [oN 1 (.bslice 1 [.int .i64 0] 1 [(0, cZ)]),
 oN 2 (.build [.int .i64 0, .int .i64 0, .int .i64 0, .int .i64 0, .str [], .sl .nil 3 [], .sl .nil 3 [], .int .i64 0] [(2, 1, (.c (.int .i64 2)))]),
 oN 3 (.build [.int .i64 0, .int .i64 0, .int .i64 0, .int .i64 0, .str [], .sl .nil 3 [], .sl .nil 3 [], .int .i64 0] [(2, 1, (.c (.int .i64 3)))]),
 oN 4 (.build [.int .i64 0, .int .i64 0, .int .i64 0, .int .i64 0, .str [], .sl .nil 3 [], .sl .nil 3 [], .int .i64 0] [(2, 1, (.c (.int .i64 4)))]),
 oN 5 (.build [.int .i64 0, .int .i64 0, .int .i64 0, .int .i64 0, .str [], .sl .nil 3 [], .sl .nil 3 [], .int .i64 0] [(2, 1, (.c (.int .i64 5)))]),
 oN 6 (.bslice 8 [.int .i64 0, .int .i64 0, .int .i64 0, .int .i64 0, .str [], .sl .nil 3 [], .sl .nil 3 [], .int .i64 0] 4 [(0, (.t 2)), (1, (.t 3)), (2, (.t 4)), (3, (.t 5))]),
 oN 7 (.build [.int .i64 0, .int .i64 0, .sl .nil 1 [], .sl .nil 8 []] [(0, 1, cO), (2, 1, (.t 1)), (3, 1, (.t 6))]),
 oU (.store 4 (.t 0) (.t 7))] [] false)
 .ret))
def nR : bS := ⟨0, sU, [.cell 0 true 4], .pure⟩
def Bk : List Nat := [0]
def m7 : ae :=
 (.seq
 (.region [oN 1 (.box 4 (.t 0)),
 oN 2 (.alloc [.int .i64 0, .int .i64 0, .sl .nil 1 [], .sl .nil 8 []]),
 oN 3 (.mov cZ)] [1, 2, 3] false)
 (.seq
 (.seq
 (.region [oN 7 (.load true 4 (.t 1)),
 Ca 8 ek [.t 7],
 Mv 4 8] [4] false)
 (.seq
 (.region [Mv 9 4,
 oN 10 (.bin .neq .val (.t 9) cZ)] [10] false)
 (.cond (.t 10)
 (.seq
 (.region [oN 11 (.build [.int .i64 0, .int .i64 0, .sl .nil 1 [], .sl .nil 8 []] []),
 Mv 12 4,
 oU (.store 4 (.t 2) (.t 11)),
 Mv 3 12] [3] false)
 .ret)
 .skip)))
 (.seq
 (.region [Fa 13 0 1,
 Ld 14 1 13,
 Mv 5 14] [5] false)
 (.seq
 (.region [Mv 15 5,
 oN 16 (.bin .add .val (.t 15) (.c (.int .i64 2))),
 Mv 17 5,
 oN 18 (.bslice 1 [.int .i64 0] 0 []),
 Fa 19 2 1,
 Ld 20 1 19,
 oN 21 (.app 1 (.t 18) (.t 20)),
 Mv 22 5,
 oN 23 (.bin .add .val (.t 22) cO),
 oN 24 (.bslice 1 [.int .i64 0] 1 [(0, (.t 23))]),
 oN 25 (.app 1 (.t 21) (.t 24)),
 oN 26 (.build [.int .i64 0, .int .i64 0, .sl .nil 1 [], .sl .nil 8 []] [(0, 1, (.t 16)), (1, 1, (.t 17)), (2, 1, (.t 25))]),
 oN 6 (.alloc [.int .i64 0, .int .i64 0, .sl .nil 1 [], .sl .nil 8 []]),
 oU (.store 4 (.t 6) (.t 26))] [6] false)
 (.seq
 (.region [oN 27 (.bslice 8 [.int .i64 0, .int .i64 0, .int .i64 0, .int .i64 0, .str [], .sl .nil 3 [], .sl .nil 3 [], .int .i64 0] 0 []),
 Fa 28 3 1,
 Ld 29 1 28,
 oN 30 (.app 8 (.t 27) (.t 29)),
 Mv 31 5,
 Mv 32 5,
 oN 33 (.bin .add .val (.t 32) cO),
 Fa 34 1 1,
 Ld 35 1 34,
 oN 36 (.build [.int .i64 0, .int .i64 0, .int .i64 0, .int .i64 0, .str [], .sl .nil 3 [], .sl .nil 3 [], .int .i64 0] [(0, 1, (.t 31)), (1, 1, (.t 33)), (2, 1, (.c (.int .i64 5))), (7, 1, (.t 35))]),
 oN 37 (.bslice 8 [.int .i64 0, .int .i64 0, .int .i64 0, .int .i64 0, .str [], .sl .nil 3 [], .sl .nil 3 [], .int .i64 0] 1 [(0, (.t 36))]),
 oN 38 (.app 8 (.t 30) (.t 37)),
 Fa 39 3 6,
 oU (.store 1 (.t 39) (.t 38))] [] true)
 (.seq
 (.region [oN 40 (.load true 4 (.t 6)),
 Ca 41 eI [.t 40],
 oN 42 (.ext (.t 41) 0),
 oN 43 (.ext (.t 41) 1),
 oU (.store 4 (.t 2) (.t 42)),
 Mv 3 43] [3] false)
 .ret))))))
def jQ : bS := ⟨1, m7, [.cell 2 true 4, .t 3], .pure⟩
def Ax : List Nat := [0, 1, 2, 3, 4, 5, 6, 10]
def gX : ae :=
 (.seq
 (.seq
 (.region [Mv 57 11,
 Fa 58 2 2,
 Ld 59 1 58,
 oN 60 (.len .slice (.t 59)),
 oN 61 (.bin .lss .val (.t 57) (.t 60))] [61] false)
 (.cond (.t 61)
 .skip
 (.exit 0)))
 (.seq
 (.block 1
 (.region [Fa 64 3 9,
 Ld 65 1 64,
 Mv 66 10,
 Fa 67 2 2,
 Ld 68 1 67,
 Mv 69 11,
 Ia 70 1 68 69,
 Ld 71 1 70,
 Fa 72 1 3,
 Ld 73 1 72,
 Mv 74 8,
 oN 75 (.bin .mul .val (.c (.int .i64 2)) (.t 74)),
 oN 76 (.bin .add .val (.t 73) (.t 75)),
 oM 77 (.call (.c (.fn gH [] [])) [.t 66, .t 71, .t 76]),
 oN 78 (.app 8 (.t 65) (.t 77)),
 Fa 79 3 9,
 oU (.store 1 (.t 79) (.t 78))] [] true))
 (.region [Mv 62 11,
 oN 63 (.bin .add .val (.t 62) cO),
 Mv 11 63] [11] false)))
def iB : ae :=
 (.seq
 (.region [oN 2 (.box 4 (.t 0)),
 oN 3 (.box 4 (.t 1)),
 oN 4 (.alloc [.int .i64 0, .int .i64 0, .sl .nil 1 [], .sl .nil 8 []]),
 oN 5 (.mov cZ)] [2, 3, 4, 5] false)
 (.seq
 (.seq
 (.region [oN 12 (.load true 4 (.t 2)),
 Ca 13 ek [.t 12],
 Mv 6 13] [6] false)
 (.seq
 (.region [Mv 14 6,
 oN 15 (.bin .neq .val (.t 14) cZ)] [15] false)
 (.cond (.t 15)
 (.seq
 (.region [oN 16 (.build [.int .i64 0, .int .i64 0, .sl .nil 1 [], .sl .nil 8 []] []),
 Mv 17 6,
 oU (.store 4 (.t 4) (.t 16)),
 Mv 5 17] [5] false)
 .ret)
 .skip)))
 (.seq
 (.seq
 (.region [oN 18 (.load true 4 (.t 3)),
 Ca 19 ek [.t 18],
 Mv 7 19] [7] false)
 (.seq
 (.region [Mv 20 7,
 oN 21 (.bin .neq .val (.t 20) cZ)] [21] false)
 (.cond (.t 21)
 (.seq
 (.region [oN 22 (.build [.int .i64 0, .int .i64 0, .sl .nil 1 [], .sl .nil 8 []] []),
 Mv 23 7,
 oU (.store 4 (.t 4) (.t 22)),
 Mv 5 23] [5] false)
 .ret)
 .skip)))
 (.seq
 (.region [Fa 24 0 2,
 Ld 25 1 24,
 Mv 8 25] [8] false)
 (.seq
 (.region [Mv 26 8,
 oN 27 (.bin .mul .val (.c (.int .i64 2)) (.t 26)),
 Fa 28 0 3,
 Ld 29 1 28,
 oN 30 (.bin .add .val (.t 27) (.t 29)),
 Fa 31 1 2,
 Ld 32 1 31,
 oN 33 (.build [.int .i64 0, .int .i64 0, .sl .nil 1 [], .sl .nil 8 []] [(0, 1, (.t 30)), (1, 1, (.t 32))]),
 oN 9 (.alloc [.int .i64 0, .int .i64 0, .sl .nil 1 [], .sl .nil 8 []]),
 oU (.store 4 (.t 9) (.t 33))] [9] false)
 (.seq
 (.region [Fa 34 3 3,
 Ld 35 1 34,
 Mv 36 8,
 oN 37 (.bin .mul .val (.c (.int .i64 2)) (.t 36)),
 Mv 38 8,
 oN 39 (.bin .mul .val (.c (.int .i64 2)) (.t 38)),
 Ca 40 da [.t 35, .t 37, .t 39],
 Mv 10 40] [10] false)
 (.seq
 (.region [Fa 41 3 2,
 ⟨(some 42), .load false 1 (.t 41), none, [⟨false, 1, .t 2, some 3⟩], false⟩,
 Mv 43 8,
 ⟨(some 44), .call (.c (.fn da [] [])) [.t 42, cZ, .t 43], none, [⟨false, 1, .t 2, some 3⟩, ⟨false, 1, .t 2, some 3⟩], false⟩,
 Fa 45 3 2,
 ⟨(some 46), .load false 1 (.t 45), none, [⟨false, 1, .t 2, some 3⟩], false⟩,
 Mv 47 8,
 Mv 48 8,
 ⟨(some 49), .call (.c (.fn da [] [])) [.t 46, .t 47, .t 48], none, [⟨false, 1, .t 2, some 3⟩, ⟨false, 1, .t 2, some 3⟩], false⟩,
 oN 50 (.app 8 (.t 44) (.t 49)),
 Fa 51 3 9,
 oU (.store 1 (.t 51) (.t 50))] [] true)
 (.seq
 (.region [Fa 52 3 9,
 Ld 53 1 52,
 Mv 54 10,
 oN 55 (.app 8 (.t 53) (.t 54)),
 Fa 56 3 9,
 oU (.store 1 (.t 56) (.t 55))] [] false)
 (.seq
 (.seq
 (.region [oN 11 (.mov cZ)] [11] false)
 (.block 0
 (.loop [0, 1, 5, 6, 7, 15, 21, 61, 94] gX)))
 (.seq
 (.region [Fa 80 2 2,
 ⟨(some 81), .load false 1 (.t 80), none, [⟨false, 1, .t 2, some 2⟩], false⟩,
 Mv 82 8,
 ⟨(some 83), .call (.c (.fn eJ [] [])) [.t 81, .t 82], none, [⟨false, 1, .t 2, some 2⟩, ⟨false, 1, .t 3, some 2⟩], false⟩,
 Fa 84 2 3,
 ⟨(some 85), .load false 1 (.t 84), none, [⟨false, 1, .t 3, some 2⟩], false⟩,
 Mv 86 8,
 oN 87 (.bin .mul .val (.c (.int .i64 2)) (.t 86)),
 ⟨(some 88), .call (.c (.fn eJ [] [])) [.t 85, .t 87], none, [⟨false, 1, .t 2, some 2⟩, ⟨false, 1, .t 3, some 2⟩], false⟩,
 oN 89 (.app 1 (.t 83) (.t 88)),
 Fa 90 2 9,
 oU (.store 1 (.t 90) (.t 89))] [] true)
 (.seq
 (.seq
 (.region [oN 91 (.load true 4 (.t 3)),
 Fa 92 1 3,
 Ld 93 1 92,
 Ca 94 jC [.t 91, .t 93]] [94] false)
 (.cond (.t 94)
 (.region [Fa 95 2 9,
 Ld 96 1 95,
 Fa 97 2 2,
 Ld 98 1 97,
 oN 99 (.app 1 (.t 96) (.t 98)),
 Fa 100 2 9,
 oU (.store 1 (.t 100) (.t 99))] [] false)
 .skip))
 (.seq
 (.region [Fa 101 2 9,
 Ld 102 1 101,
 Ca 103 fj [.t 102],
 Fa 104 2 9,
 oU (.store 1 (.t 104) (.t 103))] [] false)
 (.seq
 (.region [oN 105 (.load true 4 (.t 9)),
 Ca 106 eI [.t 105],
 oN 107 (.ext (.t 106) 0),
 oN 108 (.ext (.t 106) 1),
 oU (.store 4 (.t 4) (.t 107)),
 Mv 5 108] [5] false)
 .ret)))))))))))))
def eT : bS := ⟨2, iB, [.cell 4 true 4, .t 5], .pure⟩
def xP : List Nat := [0, 1, 2, 3, 4, 5, 6, 7, 8, 9, 10, 11, 15, 21, 61, 94]
def m6 : ae :=
 (.seq
 (.region [oN 1 (.box 3 (.t 0)),
 oN 2 (.mov cF)] [1, 2] false)
 (.seq
 (.region [Fa 3 0 1,
 Ld 4 1 3,
 oN 5 (.bin .geq .val (.t 4) (.c (.int .i64 5))),
 Mv 6 5,
 oG 7 (some (6, true)) (.faddr 0 (.t 1)),
 oG 8 (some (6, true)) (.load false 1 (.t 7)),
 oG 9 (some (6, true)) (.bin .leq .val (.t 8) (.c (.int .i64 7))),
 oN 10 (.pick (.t 6) (.t 9) cF),
 Mv 2 10] [2] false)
 .ret))
def iZ : bS := ⟨1, m6, [.t 2], .pure⟩
def uM : List Nat := [0, 1, 2]
def eZ : ae :=
 (.seq
 (.seq
 (.region [Mv 7 5,
 Mv 8 0,
 oN 9 (.len .slice (.t 8)),
 oN 10 (.bin .lss .val (.t 7) (.t 9))] [10] false)
 (.cond (.t 10)
 .skip
 (.exit 0)))
 (.seq
 (.block 1
 (.seq
 (.seq
 (.region [Mv 13 0,
 Mv 14 5,
 Ia 15 3 13 14,
 oN 16 (.load true 3 (.t 15)),
 Ca 17 eE [.t 16],
 Mv 6 17] [6] false)
 (.seq
 (.region [Mv 18 6,
 oN 19 (.bin .neq .val (.t 18) (.c (.str []))),
 Mv 20 19,
 oG 21 (some (20, true)) (.mov (.t 1)),
 oG 22 (some (20, true)) (.mov (.t 6)),
 oG 23 (some (20, true)) (.call (.c (.fn fp [] [])) [.t 21, .t 22]),
 oG 24 (some (20, true)) (.un .not (.t 23)),
 oN 25 (.pick (.t 20) (.t 24) cF)] [25] false)
 (.cond (.t 25)
 (.region [oN 26 (.bslice 1 [.str []] 0 []),
 Mv 27 1,
 oN 28 (.app 1 (.t 26) (.t 27)),
 Mv 29 6,
 oN 30 (.bslice 1 [.str []] 1 [(0, (.t 29))]),
 oN 31 (.app 1 (.t 28) (.t 30)),
 Mv 1 31] [1] false)
 .skip)))
 (.region [Mv 32 0,
 Mv 33 5,
 Ia 34 3 32 33,
 Fa 35 2 34,
 Ld 36 1 35,
 Mv 37 1,
 Ca 38 fQ [.t 36, .t 37],
 Mv 1 38] [1] false)))
 (.region [Mv 11 5,
 oN 12 (.bin .add .val (.t 11) cO),
 Mv 5 12] [5] false)))
def qX : ae :=
 (.seq
 (.region [oN 4 (.mov (.c (.sl .nil 1 [])))] [4] false)
 (.seq
 (.seq
 (.region [oN 5 (.mov cZ)] [5] false)
 (.block 0
 (.loop [4, 6, 10, 25] eZ)))
 (.seq
 (.region [Mv 39 1,
 Mv 4 39] [4] false)
 .ret)))
def mh : bS := ⟨2, qX, [.t 4], .pure⟩
def yX : List Nat := [0, 1, 4, 5, 6, 10, 25]
def bh : ae :=
 (.seq
 (.seq
 (.region [Mv 8 5,
 Mv 9 0,
 oN 10 (.len .slice (.t 9)),
 oN 11 (.bin .lss .val (.t 8) (.t 10)),
 Mv 12 11,
 oG 13 (some (12, true)) (.mov (.t 5)),
 oG 14 (some (12, true)) (.mov (.t 1)),
 oG 15 (some (12, true)) (.len .slice (.t 14)),
 oG 16 (some (12, true)) (.bin .lss .val (.t 13) (.t 15)),
 oN 17 (.pick (.t 12) (.t 16) cF)] [17] false)
 (.cond (.t 17)
 .skip
 (.exit 0)))
 (.seq
 (.block 1
 (.seq
 (.seq
 (.region [Mv 20 0,
 Mv 21 5,
 Ia 22 3 20 21,
 Fa 23 0 22,
 Ld 24 1 23,
 Mv 25 1,
 Mv 26 5,
 Ia 27 3 25 26,
 Fa 28 0 27,
 Ld 29 1 28,
 oN 30 (.bin .neq .val (.t 24) (.t 29))] [30] true)
 (.cond (.t 30)
 (.seq
 (.seq
 (.region [Mv 31 0,
 Mv 32 5,
 Ia 33 3 31 32,
 Fa 34 0 33,
 Ld 35 1 34,
 Mv 36 1,
 Mv 37 5,
 Ia 38 3 36 37,
 Fa 39 0 38,
 Ld 40 1 39,
 oN 41 (.bin .lss .val (.t 35) (.t 40))] [41] true)
 (.cond (.t 41)
 (.seq
 (.region [oN 4 (.mov (.c (.int .i64 (-1))))] [4] false)
 .ret)
 .skip))
 (.seq
 (.region [oN 4 (.mov cO)] [4] false)
 .ret))
 .skip))
 (.seq
 (.seq
 (.region [Mv 42 0,
 Mv 43 5,
 Ia 44 3 42 43,
 Fa 45 1 44,
 Ld 46 1 45,
 Mv 47 1,
 Mv 48 5,
 Ia 49 3 47 48,
 Fa 50 1 49,
 Ld 51 1 50,
 oM 52 (.call (.c (.fn gG [] [])) [.t 46, .t 51]),
 Mv 6 52] [6] true)
 (.seq
 (.region [Mv 53 6,
 oN 54 (.bin .neq .val (.t 53) cZ)] [54] false)
 (.cond (.t 54)
 (.seq
 (.region [Mv 55 6,
 Mv 4 55] [4] false)
 .ret)
 .skip)))
 (.seq
 (.region [Mv 56 0,
 Mv 57 5,
 Ia 58 3 56 57,
 Fa 59 2 58,
 Ld 60 1 59,
 Mv 61 1,
 Mv 62 5,
 Ia 63 3 61 62,
 Fa 64 2 63,
 Ld 65 1 64,
 oM 66 (.call (.c (.fn bR [] [])) [.t 60, .t 65]),
 Mv 7 66] [7] true)
 (.seq
 (.region [Mv 67 7,
 oN 68 (.bin .neq .val (.t 67) cZ)] [68] false)
 (.cond (.t 68)
 (.seq
 (.region [Mv 69 7,
 Mv 4 69] [4] false)
 .ret)
 .skip))))))
 (.region [Mv 18 5,
 oN 19 (.bin .add .val (.t 18) cO),
 Mv 5 19] [5] false)))
def pg : ae :=
 (.seq
 (.region [oN 4 (.mov cZ)] [4] false)
 (.seq
 (.seq
 (.region [oN 5 (.mov cZ)] [5] false)
 (.block 0
 (.loop [4, 6, 7, 17, 30, 41, 54, 68, 74, 79] bh)))
 (.seq
 (.seq
 (.region [Mv 70 0,
 oN 71 (.len .slice (.t 70)),
 Mv 72 1,
 oN 73 (.len .slice (.t 72)),
 oN 74 (.bin .lss .val (.t 71) (.t 73))] [74] false)
 (.cond (.t 74)
 (.seq
 (.region [oN 4 (.mov (.c (.int .i64 (-1))))] [4] false)
 .ret)
 .skip))
 (.seq
 (.seq
 (.region [Mv 75 0,
 oN 76 (.len .slice (.t 75)),
 Mv 77 1,
 oN 78 (.len .slice (.t 77)),
 oN 79 (.bin .gtr .val (.t 76) (.t 78))] [79] false)
 (.cond (.t 79)
 (.seq
 (.region [oN 4 (.mov cO)] [4] false)
 .ret)
 .skip))
 (.seq
 (.region [oN 4 (.mov cZ)] [4] false)
 .ret)))))
def gO : bS := ⟨2, pg, [.t 4], .pure⟩
def wD : List Nat := [0, 1, 4, 5, 6, 7, 17, 30, 41, 54, 68, 74, 79]
def dE : ae :=
 (.seq
 (.region [oN 4 (.mov cF)] [4] false)
 (.seq
 (.region [Mv 5 0,
 Mv 6 1,
 Ca 7 bc [.t 5, .t 6],
 oN 8 (.bin .geq .val (.t 7) cZ),
 Mv 4 8] [4] false)
 .ret))
def bJ : bS := ⟨2, dE, [.t 4], .pure⟩
def jl : List Nat := [0, 1, 4]
def u9 : ae :=
 (.seq
 (.region [oN 1 (.box 8 (.t 0)),
 oN 2 (.mov cF)] [1, 2] false)
 (.seq
 (.region [Fa 3 6 1,
 Ld 4 1 3,
 oN 5 (.len .slice (.t 4)),
 oN 6 (.bin .gtr .val (.t 5) (.c (.int .i64 100))),
 Mv 2 6] [2] false)
 .ret))
def pH : bS := ⟨1, u9, [.t 2], .pure⟩
def Dq : List Nat := [0, 1, 2]
def lf : ae :=
 (.seq
 (.region [oN 2 (.box 4 (.t 0)),
 oN 4 (.mov cF)] [2, 4] false)
 (.seq
 (.region [Mv 5 1,
 oN 6 (.bin .geq .val (.t 5) cZ),
 Mv 7 6,
 oG 8 (some (7, true)) (.mov (.t 1)),
 oG 9 (some (7, true)) (.faddr 0 (.t 2)),
 oG 10 (some (7, true)) (.load false 1 (.t 9)),
 oG 11 (some (7, true)) (.bin .lss .val (.t 8) (.t 10)),
 oN 12 (.pick (.t 7) (.t 11) cF),
 Mv 4 12] [4] false)
 .ret))
def gv : bS := ⟨2, lf, [.t 4], .pure⟩
def se : List Nat := [0, 1, 2, 4]
def vc : ae :=
 (.seq
 (.region [oN 2 (.box 8 (.t 0)),
 oN 3 (.mov cF)] [2, 3] false)
 (.seq
 (.region [oN 4 (.load true 4 (.t 1)),
 oN 5 (.load true 8 (.t 2)),
 Ca 6 eO [.t 4, .t 5],
 oN 7 (.un .not (.t 6)),
 Mv 3 7] [3] false)
 .ret))
def pI : bS := ⟨2, vc, [.t 3], .pure⟩
def Dr : List Nat := [0, 1, 2, 3]
def aI : ae :=
 (.seq
 (.region [oN 68 (.bin .lss .val (.t 67) (.t 66))] [68] false)
 (.seq
 (.cond (.t 68)
 .skip
 (.exit 1))
 (.seq
 (.block 2
 (.seq
 (.region [Mv 69 67,
 Ia 70 3 65 67,
 oN 71 (.load true 3 (.t 70)),
 oN 6 (.alloc [.int .i64 0, .str [], .sl .nil 3 []]),
 Mv 5 69,
 oU (.store 3 (.t 6) (.t 71))] [6, 5] false)
 (.seq
 (.region [oN 72 (.load true 3 (.t 6)),
 oM 73 (.call (.c (.fn iX [] [])) [.t 72]),
 oN 74 (.un .not (.t 73)),
 Mv 75 74,
 oG 76 (some (75, false)) (.faddr 0 (.t 6)),
 oG 77 (some (75, false)) (.load false 1 (.t 76)),
 ⟨(some 78), .call (.c (.fn jN [] [])) [], (some (75, false)), [], true⟩,
 oG 79 (some (75, false)) (.faddr 2 (.t 3)),
 oG 80 (some (75, false)) (.load false 1 (.t 79)),
 oG 81 (some (75, false)) (.aindex 1 5 false (.t 78) (.t 80)),
 oG 82 (some (75, false)) (.bin .neq .val (.t 77) (.t 81)),
 oN 83 (.pick (.t 75) cT (.t 82)),
 Mv 84 83,
 oG 85 (some (84, false)) (.mov (.t 5)),
 oG 86 (some (84, false)) (.bin .gtr .val (.t 85) cZ),
 oG 87 (some (84, false)) (.mov (.t 86)),
 oG 88 (some (87, true)) (.faddr 6 (.t 3)),
 oG 89 (some (87, true)) (.load false 1 (.t 88)),
 oG 90 (some (87, true)) (.mov (.t 5)),
 oG 91 (some (87, true)) (.bin .sub .val (.t 90) cO),
 oG 92 (some (87, true)) (.iaddr 3 (.t 89) (.t 91)),
 oG 93 (some (87, true)) (.load true 3 (.t 92)),
 oG 94 (some (87, true)) (.load true 3 (.t 6)),
 ⟨(some 95), .call (.c (.fn dA [] [])) [.t 93, .t 94], (some (87, true)), [], true⟩,
 oG 96 (some (87, true)) (.bin .geq .val (.t 95) cZ),
 oG 97 (some (84, false)) (.pick (.t 87) (.t 96) cF),
 oN 98 (.pick (.t 84) cT (.t 97))] [98] true)
 (.cond (.t 98)
 (.seq
 (.region [oN 4 (.mov cF)] [4] false)
 .ret)
 .skip))))
 (.region [oN 99 (.bin .add .val (.t 67) cO),
 Mv 67 99] [67] false))))
def aG : ae :=
 (.seq
 (.region [oN 2 (.box 4 (.t 0)),
 oN 3 (.box 8 (.t 1)),
 oN 4 (.mov cF)] [2, 3, 4] false)
 (.seq
 (.seq
 (.region [oN 7 (.load true 4 (.t 2)),
 Fa 8 0 3,
 Ld 9 1 8,
 Ca 10 aM [.t 7, .t 9],
 oN 11 (.un .not (.t 10)),
 Mv 12 11,
 oG 13 (some (12, false)) (.load true 4 (.t 2)),
 oG 14 (some (12, false)) (.faddr 1 (.t 3)),
 oG 15 (some (12, false)) (.load false 1 (.t 14)),
 oG 16 (some (12, false)) (.call (.c (.fn aM [] [])) [.t 13, .t 15]),
 oG 17 (some (12, false)) (.un .not (.t 16)),
 oN 18 (.pick (.t 12) cT (.t 17)),
 Mv 19 18,
 oG 20 (some (19, false)) (.faddr 2 (.t 3)),
 oG 21 (some (19, false)) (.load false 1 (.t 20)),
 oG 22 (some (19, false)) (.bin .lss .val (.t 21) cO),
 oN 23 (.pick (.t 19) cT (.t 22)),
 Mv 24 23,
 oG 25 (some (24, false)) (.faddr 2 (.t 3)),
 oG 26 (some (24, false)) (.load false 1 (.t 25)),
 oG 27 (some (24, false)) (.bin .gtr .val (.t 26) (.c (.int .i64 5))),
 oN 28 (.pick (.t 24) cT (.t 27))] [28] false)
 (.cond (.t 28)
 (.seq
 (.region [oN 4 (.mov cF)] [4] false)
 .ret)
 .skip))
 (.seq
 (.block 0
 (.seq
 (.region [Fa 30 2 3,
 Ld 31 1 30,
 oN 32 (.bin .eql .val (.t 31) cO),
 Mv 29 32] [29] false)
 (.cond (.t 29)
 (.seq
 (.region [Fa 33 3 3,
 oN 34 (.load true 3 (.t 33)),
 Ca 35 iX [.t 34],
 oN 36 (.un .not (.t 35))] [36] false)
 (.cond (.t 36)
 (.seq
 (.region [oN 4 (.mov cF)] [4] false)
 .ret)
 .skip))
 (.seq
 (.region [Fa 38 3 3,
 Fa 39 0 38,
 Ld 40 1 39,
 oN 41 (.bin .neq .val (.t 40) cZ),
 Mv 42 41,
 oG 43 (some (42, false)) (.faddr 3 (.t 3)),
 oG 44 (some (42, false)) (.faddr 1 (.t 43)),
 oG 45 (some (42, false)) (.load false 1 (.t 44)),
 oG 46 (some (42, false)) (.bin .neq .val (.t 45) (.c (.str []))),
 oN 47 (.pick (.t 42) cT (.t 46)),
 Mv 48 47,
 oG 49 (some (48, false)) (.faddr 3 (.t 3)),
 oG 50 (some (48, false)) (.faddr 2 (.t 49)),
 oG 51 (some (48, false)) (.load false 1 (.t 50)),
 oG 52 (some (48, false)) (.len .slice (.t 51)),
 oG 53 (some (48, false)) (.bin .gtr .val (.t 52) cZ),
 oN 54 (.pick (.t 48) cT (.t 53)),
 Mv 37 54] [37] false)
 (.cond (.t 37)
 (.seq
 (.region [oN 4 (.mov cF)] [4] false)
 .ret)
 .skip)))))
 (.seq
 (.seq
 (.region [oN 55 (.load true 8 (.t 3)),
 Ca 56 fe [.t 55],
 oN 57 (.un .not (.t 56)),
 Mv 58 57,
 oG 59 (some (58, true)) (.faddr 6 (.t 3)),
 oG 60 (some (58, true)) (.load false 1 (.t 59)),
 oG 61 (some (58, true)) (.len .slice (.t 60)),
 oG 62 (some (58, true)) (.bin .gtr .val (.t 61) cZ),
 oN 63 (.pick (.t 58) (.t 62) cF)] [63] false)
 (.cond (.t 63)
 (.seq
 (.region [oN 4 (.mov cF)] [4] false)
 .ret)
 .skip))
 (.seq
 (.seq
 (.region [Fa 64 6 3,
 Ld 65 1 64,
 oN 66 (.len .slice (.t 65)),
 oN 67 (.mov cZ)] [65, 66, 67] false)
 (.block 1
 (.loop [0, 1, 4, 5, 6, 28, 29, 36, 37, 63, 68, 98, 102] aI)))
 (.seq
 (.seq
 (.region [Fa 100 2 3,
 Ld 101 1 100,
 oN 102 (.bin .eql .val (.t 101) (.c (.int .i64 5)))] [102] false)
 (.cond (.t 102)
 (.seq
 (.region [oN 103 (.load true 4 (.t 2)),
 Fa 104 7 3,
 Ld 105 1 104,
 Ca 106 aM [.t 103, .t 105],
 Mv 4 106] [4] false)
 .ret)
 .skip))
 (.seq
 (.region [Fa 107 7 3,
 Ld 108 1 107,
 oN 109 (.bin .eql .val (.t 108) cZ),
 Mv 4 109] [4] false)
 .ret)))))))
def aD : bS := ⟨2, aG, [.t 4], .pure⟩
def tz : List Nat := [0, 1, 2, 3, 4, 5, 6, 28, 29, 36, 37, 63, 65, 66, 67, 68, 98, 102]
def ou : ae :=
 (.block 1
 (.seq
 (.region [Ld 10 1 5,
 oN 11 (.bin .add .val (.t 10) cO),
 oU (.store 1 (.t 5) (.t 11))] [] false)
 (.seq
 (.region [Ld 12 1 5,
 oN 13 (.bin .gtr .val (.t 12) (.c (.int .i64 4000)))] [13] false)
 (.cond (.t 13)
 (.seq
 (.region [oU (.store 1 (.t 4) (.c (.int .i64 5)))] [] false)
 .ret)
 .skip))))
def l6 : ae :=
 (.block 3
 (.seq
 (.region [Fa 20 0 6,
 Ld 21 1 20,
 Ld 22 1 3,
 oN 23 (.bin .gtr .val (.t 21) (.t 22)),
 Mv 24 23,
 oG 25 (some (24, false)) (.load true 3 (.t 6)),
 oG 26 (some (24, false)) (.call (.c (.fn tt [] [])) [.t 25]),
 oG 27 (some (24, false)) (.un .not (.t 26)),
 oN 28 (.pick (.t 24) cT (.t 27))] [28] false)
 (.cond (.t 28)
 (.seq
 (.region [oU (.store 1 (.t 4) (.c (.int .i64 2)))] [] false)
 .ret)
 .skip)))
def Cy : ae :=
 (.seq
 (.region [oN 3 (.box 1 (.t 1)),
 oN 4 (.alloc [.int .i64 0])] [3, 4] false)
 (.seq
 (.region [oN 5 (.alloc [.int .i64 0]),
 oU (.store 1 (.t 5) cZ)] [5] false)
 (.seq
 (.seq
 (.region [Mv 7 0,
 Ca 8 ux [.t 7]] [8] false)
 (.block 0
 (.rangeFn (.t 8) [9]
 .skip ou)))
 (.seq
 (.seq
 (.region [Mv 14 0,
 Ca 15 nG [.t 14],
 oN 16 (.bin .gtr .val (.t 15) (.c (.int .i64 100)))] [16] false)
 (.cond (.t 16)
 (.seq
 (.region [oU (.store 1 (.t 4) (.c (.int .i64 6)))] [] false)
 .ret)
 .skip))
 (.seq
 (.seq
 (.region [Mv 17 0,
 Ca 18 ux [.t 17]] [18] false)
 (.block 2
 (.rangeFn (.t 18) [19]
 (.region [oN 6 (.alloc [.int .i64 0, .str [], .sl .nil 3 []]),
 oU (.store 3 (.t 6) (.t 19))] [6] false) l6)))
 (.seq
 (.region [oU (.store 1 (.t 4) cZ)] [] false)
 .ret))))))
def wN : bS := ⟨2, Cy, [.cell 4 false 1], .pure⟩
def KL : List Nat := [0, 1, 3, 4, 5, 6, 8, 9, 13, 16, 18, 19, 28]
def gC : ae :=
 (.seq
 (.region [oN 10 (.bin .lss .val (.t 9) (.t 8))] [10] false)
 (.seq
 (.cond (.t 10)
 .skip
 (.exit 0))
 (.seq
 (.block 1
 (.seq
 (.region [Ia 11 1 7 9,
 Ld 12 1 11,
 Mv 5 12] [5] false)
 (.region [Mv 13 5,
 Ca 14 bm [.t 3, .t 13]] [] false)))
 (.region [oN 15 (.bin .add .val (.t 9) cO),
 Mv 9 15] [9] false))))
def lM : ae :=
 (.seq
 (.region [oN 1 (.box 4 (.t 0)),
 oN 2 (.alloc [.int .u64 0, .int .u64 0, .int .u64 0, .int .u64 0, .int .u64 0, .int .u64 0, .int .u64 0])] [1, 2] false)
 (.seq
 (.region [oN 3 (.alloc [.int .u64 0, .int .u64 0, .int .u64 0, .int .u64 0, .int .u64 0, .int .u64 0, .int .u64 0])] [3] false)
 (.seq
 (.seq
 (.region [Fa 6 2 1,
 Ld 7 1 6,
 oN 8 (.len .slice (.t 7)),
 oN 9 (.mov cZ)] [7, 8, 9] false)
 (.block 0
 (.loop [0, 1, 5, 10] gC)))
 (.seq
 (.region [oN 16 (.load true 7 (.t 3)),
 oU (.store 7 (.t 2) (.t 16))] [] false)
 .ret))))
def ia : bS := ⟨1, lM, [.cell 2 true 7], .pure⟩
def sL : List Nat := [0, 1, 2, 3, 5, 7, 8, 9, 10]
def m9 : ae :=
 (.seq
 (.region [oN 1 (.box 1 (.t 0)),
 oN 2 (.mov (.c (.nilf)))] [1, 2] false)
 (.seq
 (.region [oN 3 (.mkfn fX [] [.t 1]),
 Mv 2 3] [2] false)
 .ret))
def mZ : bS := ⟨1, m9, [.t 2], .eff⟩
def nt : List Nat := [0, 1, 2]
def tp : ae :=
 (.seq
 (.region [oN 14 (.bin .lss .val (.t 13) (.t 12))] [14] false)
 (.seq
 (.cond (.t 14)
 .skip
 (.exit 0))
 (.seq
 (.block 1
 (.seq
 (.region [Ia 15 8 11 13,
 oN 16 (.load true 8 (.t 15)),
 oN 9 (.alloc [.int .i64 0, .int .i64 0, .int .i64 0, .int .i64 0, .str [], .sl .nil 3 [], .sl .nil 3 [], .int .i64 0]),
 oU (.store 8 (.t 9) (.t 16))] [9] false)
 (.seq
 (.region [oN 17 (.load true 7 (.t 4)),
 Fa 18 1 9,
 Ld 19 1 18,
 Ca 20 aR [.t 17, .t 19],
 Mv 21 20,
 oG 22 (some (21, true)) (.mov (.t 2)),
 oG 23 (some (21, true)) (.load true 8 (.t 9)),
 oG 24 (some (21, true)) (.call (.t 22) [.t 23]),
 oN 25 (.pick (.t 21) (.t 24) cF)] [25] false)
 (.cond (.t 25)
 (.region [Fa 26 0 9,
 Ld 27 1 26,
 Ca 28 bm [.t 7, .t 27]] [] false)
 .skip))))
 (.region [oN 29 (.bin .add .val (.t 13) cO),
 Mv 13 29] [13] false))))
def tW : ae :=
 (.seq
 (.region [oN 3 (.box 4 (.t 0)),
 oN 4 (.box 7 (.t 1)),
 oN 6 (.alloc [.int .u64 0, .int .u64 0, .int .u64 0, .int .u64 0, .int .u64 0, .int .u64 0, .int .u64 0])] [3, 4, 6] false)
 (.seq
 (.region [oN 7 (.alloc [.int .u64 0, .int .u64 0, .int .u64 0, .int .u64 0, .int .u64 0, .int .u64 0, .int .u64 0])] [7] false)
 (.seq
 (.seq
 (.region [Fa 10 3 3,
 Ld 11 1 10,
 oN 12 (.len .slice (.t 11)),
 oN 13 (.mov cZ)] [11, 12, 13] false)
 (.block 0
 (.loop [0, 1, 3, 9, 14, 25] tp)))
 (.seq
 (.region [oN 30 (.load true 7 (.t 7)),
 oU (.store 7 (.t 6) (.t 30))] [] false)
 .ret))))
def tL : bS := ⟨3, tW, [.cell 6 true 7], .pure⟩
def uK : List Nat := [0, 1, 2, 3, 4, 6, 7, 9, 11, 12, 13, 14, 25]
def pB : ae :=
 (.seq
 (.region [oN 2 (.box 8 (.t 0)),
 oN 3 (.mov cF)] [2, 3] false)
 (.seq
 (.region [Fa 4 2 2,
 Ld 5 1 4,
 oN 6 (.bin .eql .val (.t 5) (.c (.int .i64 5))),
 Mv 7 6,
 oG 8 (some (7, true)) (.load true 7 (.t 1)),
 oG 9 (some (7, true)) (.faddr 7 (.t 2)),
 oG 10 (some (7, true)) (.load false 1 (.t 9)),
 oG 11 (some (7, true)) (.call (.c (.fn aR [] [])) [.t 8, .t 10]),
 oN 12 (.pick (.t 7) (.t 11) cF),
 Mv 3 12] [3] false)
 .ret))
def pz : bS := ⟨2, pB, [.t 3], .pure⟩
def pE : List Nat := [0, 1, 2, 3]
def pC : ae :=
 (.seq
 (.region [oN 2 (.box 8 (.t 0)),
 oN 3 (.mov cF)] [2, 3] false)
 (.seq
 (.region [oN 4 (.load true 8 (.t 2)),
 oN 5 (.load true 3 (.t 1)),
 Ca 6 qq [.t 4, .t 5],
 Mv 3 6] [3] false)
 .ret))
def pA : bS := ⟨2, pC, [.t 3], .pure⟩
def pF : List Nat := [0, 1, 2, 3]
def wS : ae :=
 (.seq
 (.region [oN 2 (.box 8 (.t 0)),
 oN 3 (.box 3 (.t 1)),
 oN 4 (.mov cF)] [2, 3, 4] false)
 (.seq
 (.seq
 (.region [Fa 5 2 2,
 Ld 6 1 5] [6] false)
 (.block 0
 (.seq
 (.region [oN 8 (.bin .eql .val (.t 6) cO),
 Mv 7 8] [7] false)
 (.cond (.t 7)
 (.seq
 (.region [Fa 9 3 2,
 oN 10 (.load true 3 (.t 9)),
 oN 11 (.load true 3 (.t 3)),
 Ca 12 dA [.t 10, .t 11],
 oN 13 (.bin .eql .val (.t 12) cZ),
 Mv 4 13] [4] false)
 .ret)
 (.seq
 (.region [oN 15 (.bin .eql .val (.t 6) (.c (.int .i64 5))),
 Mv 14 15] [14] false)
 (.cond (.t 14)
 (.seq
 (.region [oN 4 (.mov cF)] [4] false)
 .ret)
 .skip))))))
 (.seq
 (.region [Fa 16 0 3,
 Ld 17 1 16,
 oM 18 (.call (.c (.fn jN [] [])) []),
 Fa 19 2 2,
 Ld 20 1 19,
 oN 21 (.aindex 1 5 false (.t 18) (.t 20)),
 oN 22 (.bin .eql .val (.t 17) (.t 21)),
 Mv 23 22,
 oG 24 (some (23, true)) (.faddr 6 (.t 2)),
 oG 25 (some (23, true)) (.load false 1 (.t 24)),
 oG 26 (some (23, true)) (.load true 3 (.t 3)),
 ⟨(some 27), .call (.c (.fn BK [] [])) [.t 25, .t 26], (some (23, true)), [], true⟩,
 oG 28 (some (23, true)) (.un .not (.t 27)),
 oN 29 (.pick (.t 23) (.t 28) cF),
 Mv 4 29] [4] true)
 .ret)))
def wJ : bS := ⟨2, wS, [.t 4], .pure⟩
def xK : List Nat := [0, 1, 2, 3, 4, 6, 7, 14]
def aL : ae :=
 (.seq
 (.region [oN 14 (.bin .lss .val (.t 13) (.t 12))] [14] false)
 (.seq
 (.cond (.t 14)
 .skip
 (.exit 0))
 (.seq
 (.block 1
 (.seq
 (.region [Ia 15 3 11 13,
 oN 16 (.load true 3 (.t 15)),
 oN 9 (.alloc [.int .i64 0, .str [], .sl .nil 3 []]),
 oU (.store 3 (.t 9) (.t 16))] [9] false)
 (.seq
 (.seq
 (.region [oN 17 (.load true 3 (.t 9)),
 Ca 18 sa [.t 17],
 Mv 10 18] [10] false)
 (.seq
 (.region [Fa 19 0 9,
 Ld 20 1 19,
 oN 21 (.bin .eql .val (.t 20) (.c (.int .i64 6))),
 Mv 22 21,
 oG 23 (some (22, false)) (.faddr 0 (.t 9)),
 oG 24 (some (22, false)) (.load false 1 (.t 23)),
 oG 25 (some (22, false)) (.bin .eql .val (.t 24) (.c (.int .i64 7))),
 oN 26 (.pick (.t 22) cT (.t 25)),
 Mv 27 26,
 oG 28 (some (27, true)) (.mov (.t 1)),
 oG 29 (some (27, true)) (.mov (.t 10)),
 oG 30 (some (27, true)) (.lookup .str (.bool false) (.t 28) (.t 29) false),
 oG 31 (some (27, true)) (.un .not (.t 30)),
 oN 32 (.pick (.t 27) (.t 31) cF)] [32] false)
 (.cond (.t 32)
 (.seq
 (.seq
 (.region [Mv 33 2,
 Mv 34 10,
 oN 35 (.lookup .str (.bool false) (.t 33) (.t 34) false)] [35] false)
 (.cond (.t 35)
 (.seq
 (.region [oN 6 (.mov cF)] [6] false)
 .ret)
 .skip))
 (.seq
 (.region [Mv 36 2,
 Mv 37 10,
 oU (.mapset .str (.t 36) (.t 37) cT)] [] false)
 (.seq
 (.region [Fa 38 0 9,
 Ld 39 1 38,
 oN 40 (.bin .eql .val (.t 39) (.c (.int .i64 7)))] [40] false)
 (.cond (.t 40)
 (.region [Mv 41 7,
 oN 42 (.bin .add .val (.t 41) cO),
 Mv 7 42] [7] false)
 .skip))))
 .skip)))
 (.seq
 (.region [Fa 43 2 9,
 Ld 44 1 43,
 Mv 45 1,
 Mv 46 2,
 Ca 47 jd [.t 44, .t 45, .t 46],
 oN 48 (.un .not (.t 47))] [48] false)
 (.cond (.t 48)
 (.seq
 (.region [oN 6 (.mov cF)] [6] false)
 .ret)
 .skip)))))
 (.region [oN 49 (.bin .add .val (.t 13) cO),
 Mv 13 49] [13] false))))
def tX : ae :=
 (.seq
 (.region [oN 6 (.mov cF)] [6] false)
 (.seq
 (.region [oN 7 (.mov cZ)] [7] false)
 (.seq
 (.seq
 (.region [Mv 11 0,
 oN 12 (.len .slice (.t 11)),
 oN 13 (.mov cZ)] [11, 12, 13] false)
 (.block 0
 (.loop [0, 6, 9, 10, 14, 32, 35, 40, 48] aL)))
 (.seq
 (.region [Mv 50 7,
 oN 51 (.bin .leq .val (.t 50) cO),
 Mv 6 51] [6] false)
 .ret))))
def oP : bS := ⟨3, tX, [.t 6], .eff⟩
def Co : List Nat := [0, 1, 2, 6, 7, 9, 10, 11, 12, 13, 14, 32, 35, 40, 48]
def rn : ae :=
 (.seq
 (.region [oN 2 (.box 4 (.t 0)),
 oN 3 (.box 4 (.t 1)),
 oN 4 (.alloc [.int .i64 0, .int .i64 0, .sl .nil 1 [], .sl .nil 8 []]),
 oN 5 (.mov cZ)] [2, 3, 4, 5] false)
 (.seq
 (.seq
 (.region [oN 7 (.load true 4 (.t 2)),
 oN 8 (.load true 4 (.t 3)),
 Ca 9 qu [.t 7, .t 8],
 Mv 6 9] [6] false)
 (.seq
 (.region [Mv 10 6,
 oN 11 (.bin .neq .val (.t 10) cZ)] [11] false)
 (.cond (.t 11)
 (.seq
 (.region [oN 12 (.build [.int .i64 0, .int .i64 0, .sl .nil 1 [], .sl .nil 8 []] []),
 Mv 13 6,
 oU (.store 4 (.t 4) (.t 12)),
 Mv 5 13] [5] false)
 .ret)
 .skip)))
 (.seq
 (.region [oN 14 (.mkfn je [] [.t 2, .t 3]),
 Ca 15 g9 [.t 14],
 oN 16 (.ext (.t 15) 0),
 oN 17 (.ext (.t 15) 1),
 oU (.store 4 (.t 4) (.t 16)),
 Mv 5 17] [5] false)
 .ret)))
def kI : bS := ⟨2, rn, [.cell 4 true 4, .t 5], .pure⟩
def D9 : List Nat := [0, 1, 2, 3, 4, 5, 6, 11]
def mD : ae :=
 (.seq
 (.region [oN 2 (.alloc [.int .i64 0, .int .i64 0, .sl .nil 1 [], .sl .nil 8 []]),
 oN 3 (.alloc [.int .i64 0])] [2, 3] false)
 (.seq
 (.region [oN 4 (.mkfn fq [] [.t 2, .t 3]),
 oU (.defer (.t 4) [])] [] false)
 (.seq
 (.region [Mv 5 0,
 oN 6 (.call (.t 5) []),
 oU (.store 4 (.t 2) (.t 6))] [] false)
 (.seq
 (.seq
 (.region [Fa 7 0 2,
 Ld 8 1 7,
 oN 9 (.bin .gtr .val (.t 8) (.c (.int .i64 400))),
 Mv 10 9,
 oG 11 (some (10, false)) (.faddr 3 (.t 2)),
 oG 12 (some (10, false)) (.load false 1 (.t 11)),
 oG 13 (some (10, false)) (.len .slice (.t 12)),
 oG 14 (some (10, false)) (.bin .gtr .val (.t 13) (.c (.int .i64 4000))),
 oN 15 (.pick (.t 10) cT (.t 14))] [15] false)
 (.cond (.t 15)
 (.region [Ca 16 qw [(.c (.int .i64 7))]] [] false)
 .skip))
 (.seq
 (.region [oN 17 (.load true 4 (.t 2)),
 Ca 18 fc [.t 17],
 oU (.store 4 (.t 2) (.t 18)),
 oU (.store 1 (.t 3) cZ)] [] false)
 .ret)))))
def jT : bS := ⟨1, mD, [.cell 2 true 4, .cell 3 false 1], .pure⟩
def Du : List Nat := [0, 2, 3, 15]
def vS : ae :=
 (.seq
 (.region [oN 1 (.alloc [.int .i64 0, .int .i64 0, .sl .nil 1 [], .sl .nil 8 []])] [1] false)
 (.seq
 (.region [Fa 3 0 0,
 Ld 4 1 3,
 Mv 2 4] [2] false)
 (.seq
 (.region [Mv 5 2,
 oN 6 (.bin .add .val (.t 5) (.c (.int .i64 2))),
 Mv 7 2,
 Fa 8 2 0,
 ⟨(some 9), .load false 1 (.t 8), none, [⟨false, 1, .t 0, some 2⟩], false⟩,
 ⟨(some 10), .call (.c (.fn fG [] [])) [.t 9], none, [⟨false, 1, .t 0, some 2⟩, ⟨false, 1, .t 0, some 3⟩, ⟨false, 1, .t 0, some 1⟩], false⟩,
 Mv 11 2,
 oN 12 (.bin .add .val (.t 11) cO),
 oN 13 (.bslice 1 [.int .i64 0] 1 [(0, (.t 12))]),
 oN 14 (.app 1 (.t 10) (.t 13)),
 Fa 15 3 0,
 ⟨(some 16), .load false 1 (.t 15), none, [⟨false, 1, .t 0, some 3⟩], false⟩,
 ⟨(some 17), .call (.c (.fn bx [] [])) [.t 16], none, [⟨false, 1, .t 0, some 2⟩, ⟨false, 1, .t 0, some 3⟩, ⟨false, 1, .t 0, some 1⟩], false⟩,
 Mv 18 2,
 Mv 19 2,
 oN 20 (.bin .add .val (.t 19) cO),
 Fa 21 1 0,
 ⟨(some 22), .load false 1 (.t 21), none, [⟨false, 1, .t 0, some 1⟩], false⟩,
 oN 23 (.build [.int .i64 0, .int .i64 0, .int .i64 0, .int .i64 0, .str [], .sl .nil 3 [], .sl .nil 3 [], .int .i64 0] [(0, 1, (.t 18)), (1, 1, (.t 20)), (2, 1, (.c (.int .i64 5))), (7, 1, (.t 22))]),
 oN 24 (.bslice 8 [.int .i64 0, .int .i64 0, .int .i64 0, .int .i64 0, .str [], .sl .nil 3 [], .sl .nil 3 [], .int .i64 0] 1 [(0, (.t 23))]),
 oN 25 (.app 8 (.t 17) (.t 24)),
 oN 26 (.build [.int .i64 0, .int .i64 0, .sl .nil 1 [], .sl .nil 8 []] [(0, 1, (.t 6)), (1, 1, (.t 7)), (2, 1, (.t 14)), (3, 1, (.t 25))]),
 oU (.store 4 (.t 1) (.t 26))] [] true)
 .ret)))
def rk : bS := ⟨1, vS, [.cell 1 true 4], .pure⟩
def Ea : List Nat := [0, 1, 2]
def jJ : ae :=
 (.seq
 (.region [oN 2 (.mov (.c (.sl .nil 1 [])))] [2] false)
 (.seq
 (.seq
 (.region [Mv 3 0,
 oN 4 (.bin .eql .slice (.t 3) (.c (.sl .nil 1 [])))] [4] false)
 (.cond (.t 4)
 (.seq
 (.region [oN 2 (.mov (.c (.sl .nil 1 [])))] [2] false)
 .ret)
 .skip))
 (.seq
 (.region [oN 5 (.bslice 1 [.int .i64 0] 0 []),
 Mv 6 0,
 oN 7 (.app 1 (.t 5) (.t 6)),
 Mv 2 7] [2] false)
 .ret)))
def fF : bS := ⟨1, jJ, [.t 2], .keep⟩
def u4 : List Nat := [0, 2, 4]
def eM : ae :=
 (.seq
 (.region [oN 2 (.mov (.c (.sl .nil 1 [])))] [2] false)
 (.seq
 (.seq
 (.region [Mv 3 0,
 oN 4 (.bin .eql .slice (.t 3) (.c (.sl .nil 1 [])))] [4] false)
 (.cond (.t 4)
 (.seq
 (.region [oN 2 (.mov (.c (.sl .nil 1 [])))] [2] false)
 .ret)
 .skip))
 (.seq
 (.region [oN 5 (.bslice 1 [.int .i64 0] 0 []),
 Mv 6 0,
 oN 7 (.appm 1 (.t 5) (.t 6)),
 Mv 2 7] [2] false)
 .ret)))
def dt : bS := ⟨1, eM, [.t 2], .eff⟩
def tA : List Nat := [0, 2, 4]
def cN : ae :=
 (.seq
 (.region [oN 2 (.mov (.c (.sl .nil 8 [])))] [2] false)
 (.seq
 (.seq
 (.region [Mv 3 0,
 oN 4 (.bin .eql .slice (.t 3) (.c (.sl .nil 8 [])))] [4] false)
 (.cond (.t 4)
 (.seq
 (.region [oN 2 (.mov (.c (.sl .nil 8 [])))] [2] false)
 .ret)
 .skip))
 (.seq
 (.region [oN 5 (.bslice 8 [.int .i64 0, .int .i64 0, .int .i64 0, .int .i64 0, .str [], .sl .nil 3 [], .sl .nil 3 [], .int .i64 0] 0 []),
 Mv 6 0,
 oN 7 (.app 8 (.t 5) (.t 6)),
 Mv 2 7] [2] false)
 .ret)))
def bw : bS := ⟨1, cN, [.t 2], .keep⟩
def ld : List Nat := [0, 2, 4]
def bn : ae :=
 (.seq
 (.region [oN 2 (.mov (.c (.sl .nil 8 [])))] [2] false)
 (.seq
 (.seq
 (.region [Mv 3 0,
 oN 4 (.bin .eql .slice (.t 3) (.c (.sl .nil 8 [])))] [4] false)
 (.cond (.t 4)
 (.seq
 (.region [oN 2 (.mov (.c (.sl .nil 8 [])))] [2] false)
 .ret)
 .skip))
 (.seq
 (.region [oN 5 (.bslice 8 [.int .i64 0, .int .i64 0, .int .i64 0, .int .i64 0, .str [], .sl .nil 3 [], .sl .nil 3 [], .int .i64 0] 0 []),
 Mv 6 0,
 oN 7 (.appm 8 (.t 5) (.t 6)),
 Mv 2 7] [2] false)
 .ret)))
def aQ : bS := ⟨1, bn, [.t 2], .eff⟩
def ku : List Nat := [0, 2, 4]
def sX : ae :=
 (.seq
 (.region [oN 1 (.alloc [.int .i64 0, .int .i64 0, .sl .nil 1 [], .sl .nil 8 []])] [1] false)
 (.seq
 (.region [oN 3 (.build [.int .i64 0, .int .i64 0, .sl .nil 1 [], .sl .nil 8 []] []),
 oN 2 (.alloc [.int .i64 0, .int .i64 0, .sl .nil 1 [], .sl .nil 8 []]),
 oU (.store 4 (.t 2) (.t 3))] [2] false)
 (.seq
 (.region [Ld 4 1 0,
 Ca 5 dF [.t 2, .t 4]] [] false)
 (.seq
 (.region [Fa 6 2 2,
 Ld 7 1 6,
 Ca 8 cq [.t 7]] [] false)
 (.seq
 (.region [oN 9 (.load true 4 (.t 2)),
 oU (.store 4 (.t 1) (.t 9))] [] false)
 .ret)))))
def nV : bS := ⟨1, sX, [.cell 1 true 4], .pure⟩
def Bn : List Nat := [0, 1, 2]
def eN : ae :=
 (.seq
 (.region [oN 38 (.bin .lss .val (.t 37) (.t 36))] [38] false)
 (.seq
 (.cond (.t 38)
 .skip
 (.exit 0))
 (.seq
 (.block 1
 (.seq
 (.region [Mv 39 37,
 Ia 40 3 35 37,
 oN 41 (.load true 3 (.t 40)),
 oN 6 (.alloc [.int .i64 0, .str [], .sl .nil 3 []]),
 Mv 5 39,
 oU (.store 3 (.t 6) (.t 41))] [6, 5] false)
 (.seq
 (.region [Mv 42 4,
 Mv 43 5,
 oN 44 (.bin .add .val (.t 42) (.t 43)),
 Mv 45 4,
 Mv 46 5,
 oN 47 (.bin .add .val (.t 45) (.t 46)),
 oN 48 (.bin .add .val (.t 47) cO),
 Fa 49 0 6,
 Ld 50 1 49,
 Fa 51 1 6,
 Ld 52 1 51,
 oN 53 (.build [.int .i64 0, .str [], .sl .nil 3 []] [(0, 1, (.t 50)), (1, 1, (.t 52))]),
 oN 54 (.build [.int .i64 0, .int .i64 0, .int .i64 0, .int .i64 0, .str [], .sl .nil 3 [], .sl .nil 3 [], .int .i64 0] [(0, 1, (.t 44)), (1, 1, (.t 48)), (2, 1, cO), (3, 3, (.t 53))]),
 oN 7 (.alloc [.int .i64 0, .int .i64 0, .int .i64 0, .int .i64 0, .str [], .sl .nil 3 [], .sl .nil 3 [], .int .i64 0]),
 oU (.store 8 (.t 7) (.t 54))] [7] false)
 (.seq
 (.seq
 (.region [Fa 55 0 6,
 Ld 56 1 55,
 oN 57 (.bin .neq .val (.t 56) (.c (.int .i64 4)))] [57] false)
 (.cond (.t 57)
 (.seq
 (.region [Mv 58 0,
 Mv 59 0,
 oN 60 (.nilchk (.t 59)),
 Fa 61 3 60,
 Ld 62 1 61,
 oN 63 (.load true 8 (.t 7)),
 oN 64 (.bslice 8 [.int .i64 0, .int .i64 0, .int .i64 0, .int .i64 0, .str [], .sl .nil 3 [], .sl .nil 3 [], .int .i64 0] 1 [(0, (.t 63))]),
 oN 65 (.app 8 (.t 62) (.t 64)),
 oN 66 (.nilchk (.t 58)),
 Fa 67 3 66,
 oU (.store 1 (.t 67) (.t 65))] [] true)
 (.exit 1))
 .skip))
 (.seq
 (.region [oN 68 (.build [.int .i64 0, .str [], .sl .nil 3 []] []),
 Mv 69 0,
 oN 70 (.nilchk (.t 69)),
 Fa 71 0 70,
 ⟨(some 72), .load false 1 (.t 71), none, [⟨false, 1, .t 0, some 0⟩], false⟩,
 Fa 73 2 7,
 ⟨none, .store 1 (.t 73) (.c (.int .i64 5)), none, [⟨false, 1, .t 0, some 0⟩], false⟩,
 Fa 74 3 7,
 ⟨none, .store 3 (.t 74) (.t 68), none, [⟨false, 1, .t 0, some 0⟩], false⟩,
 Fa 75 7 7,
 oU (.store 1 (.t 75) (.t 72))] [] true)
 (.seq
 (.region [Mv 76 0,
 Mv 77 0,
 oN 78 (.nilchk (.t 77)),
 Fa 79 3 78,
 Ld 80 1 79,
 oN 81 (.load true 8 (.t 7)),
 oN 82 (.bslice 8 [.int .i64 0, .int .i64 0, .int .i64 0, .int .i64 0, .str [], .sl .nil 3 [], .sl .nil 3 [], .int .i64 0] 1 [(0, (.t 81))]),
 oN 83 (.app 8 (.t 80) (.t 82)),
 oN 84 (.nilchk (.t 76)),
 Fa 85 3 84,
 oU (.store 1 (.t 85) (.t 83))] [] true)
 (.region [Mv 86 0,
 Fa 87 2 6,
 Ld 88 1 87,
 Ca 89 dF [.t 86, .t 88]] [] false)))))))
 (.region [oN 90 (.bin .add .val (.t 37) cO),
 Mv 37 90] [37] false))))
def m5 : ae :=
 (.seq
 (.region [Mv 8 0,
 oN 9 (.nilchk (.t 8)),
 Fa 10 0 9,
 Ld 11 1 10,
 Mv 4 11] [4] false)
 (.seq
 (.region [Mv 12 0,
 oN 13 (.nilchk (.t 12)),
 Fa 14 0 13,
 Ld 15 1 14,
 Mv 16 1,
 oN 17 (.len .slice (.t 16)),
 oN 18 (.bin .add .val (.t 17) cO),
 oN 19 (.bin .add .val (.t 15) (.t 18)),
 oN 20 (.nilchk (.t 12)),
 Fa 21 0 20,
 oU (.store 1 (.t 21) (.t 19))] [] false)
 (.seq
 (.region [Mv 22 0,
 Mv 23 0,
 oN 24 (.nilchk (.t 23)),
 Fa 25 2 24,
 Ld 26 1 25,
 Mv 27 4,
 Mv 28 1,
 oN 29 (.len .slice (.t 28)),
 oN 30 (.bin .add .val (.t 27) (.t 29)),
 oN 31 (.bslice 1 [.int .i64 0] 1 [(0, (.t 30))]),
 oN 32 (.app 1 (.t 26) (.t 31)),
 oN 33 (.nilchk (.t 22)),
 Fa 34 2 33,
 oU (.store 1 (.t 34) (.t 32))] [] false)
 (.seq
 (.region [Mv 35 1,
 oN 36 (.len .slice (.t 35)),
 oN 37 (.mov cZ)] [35, 36, 37] false)
 (.block 0
 (.loop [1, 5, 6, 7, 38, 57] eN))))))
def iY : bS := ⟨2, m5, [], .eff⟩
def uJ : List Nat := [0, 1, 4, 5, 6, 7, 35, 36, 37, 38, 57]
def vf : ae :=
 (.seq
 (.region [oN 1 (.box 3 (.t 0)),
 oN 2 (.mov cF)] [1, 2] false)
 (.seq
 (.region [Fa 3 0 1,
 Ld 4 1 3,
 oN 5 (.bin .geq .val (.t 4) (.c (.int .i64 5))),
 Mv 6 5,
 oG 7 (some (6, true)) (.faddr 0 (.t 1)),
 oG 8 (some (6, true)) (.load false 1 (.t 7)),
 oG 9 (some (6, true)) (.bin .leq .val (.t 8) (.c (.int .i64 7))),
 oN 10 (.pick (.t 6) (.t 9) cF),
 Mv 2 10] [2] false)
 .ret))
def mC : bS := ⟨1, vf, [.t 2], .pure⟩
def Dv : List Nat := [0, 1, 2]
def rR : ae :=
 (.seq
 (.region [oN 1 (.box 3 (.t 0)),
 oN 2 (.mov (.c (.str [])))] [1, 2] false)
 (.seq
 (.seq
 (.region [oN 3 (.load true 3 (.t 1)),
 Ca 4 hG [.t 3],
 oN 5 (.un .not (.t 4))] [5] false)
 (.cond (.t 5)
 (.seq
 (.region [oN 2 (.mov (.c (.str [])))] [2] false)
 .ret)
 .skip))
 (.seq
 (.region [Fa 6 0 1,
 Ld 7 1 6,
 oN 8 (.bin .sub .val (.t 7) (.c (.int .i64 5))),
 oN 9 (.index (.c (.str [115, 116, 101])) (.t 8)),
 oN 10 (.conv .intStr (.t 9)),
 oN 11 (.bin .add .val (.t 10) (.c (.str [46]))),
 Fa 12 1 1,
 Ld 13 1 12,
 oN 14 (.bin .add .val (.t 11) (.t 13)),
 Mv 2 14] [2] true)
 .ret)))
def pd : bS := ⟨1, rR, [.t 2], .pure⟩
def MD : List Nat := [0, 1, 2, 5]
def fI : ae :=
 (.seq
 (.region [oN 4 (.mov cZ)] [4] false)
 (.seq
 (.region [Mv 8 0,
 Ca 9 eF [.t 8],
 Mv 7 9,
 oN 10 (.ext (.t 7) 0),
 oN 11 (.ext (.t 7) 1),
 Mv 5 10,
 Mv 6 11] [5, 6] false)
 (.seq
 (.seq
 (.region [Mv 12 5,
 oN 13 (.bin .gtr .val (.t 12) (.c (.int .i64 4000)))] [13] false)
 (.cond (.t 13)
 (.seq
 (.region [oN 4 (.mov (.c (.int .i64 5)))] [4] false)
 .ret)
 .skip))
 (.seq
 (.seq
 (.region [Mv 14 6,
 oN 15 (.bin .gtr .val (.t 14) (.c (.int .i64 100)))] [15] false)
 (.cond (.t 15)
 (.seq
 (.region [oN 4 (.mov (.c (.int .i64 6)))] [4] false)
 .ret)
 .skip))
 (.seq
 (.seq
 (.region [Mv 16 0,
 Mv 17 1,
 Ca 18 eG [.t 16, .t 17],
 oN 19 (.un .not (.t 18))] [19] false)
 (.cond (.t 19)
 (.seq
 (.region [oN 4 (.mov (.c (.int .i64 2)))] [4] false)
 .ret)
 .skip))
 (.seq
 (.region [oN 4 (.mov cZ)] [4] false)
 .ret))))))
def dY : bS := ⟨2, fI, [.t 4], .pure⟩
def yZ : List Nat := [0, 1, 4, 5, 6, 13, 15, 19]
def j0 : ae :=
 (.seq
 (.seq
 (.region [Mv 6 5,
 Mv 7 0,
 oN 8 (.len .slice (.t 7)),
 oN 9 (.bin .lss .val (.t 6) (.t 8))] [9] false)
 (.cond (.t 9)
 .skip
 (.exit 0)))
 (.seq
 (.block 1
 (.seq
 (.region [Mv 12 0,
 Mv 13 5,
 Ia 14 1 12 13,
 Ld 15 1 14,
 Mv 16 1,
 oN 17 (.bin .eql .val (.t 15) (.t 16))] [17] false)
 (.cond (.t 17)
 (.seq
 (.region [oN 4 (.mov cT)] [4] false)
 .ret)
 .skip)))
 (.region [Mv 10 5,
 oN 11 (.bin .add .val (.t 10) cO),
 Mv 5 11] [5] false)))
def sT : ae :=
 (.seq
 (.region [oN 4 (.mov cF)] [4] false)
 (.seq
 (.seq
 (.region [oN 5 (.mov cZ)] [5] false)
 (.block 0
 (.loop [4, 9, 17] j0)))
 (.seq
 (.region [oN 4 (.mov cF)] [4] false)
 .ret)))
def nQ : bS := ⟨2, sT, [.t 4], .pure⟩
def Bj : List Nat := [0, 1, 4, 5, 9, 17]
def gW : ae :=
 (.seq
 (.seq
 (.region [Mv 7 6,
 Mv 8 0,
 oN 9 (.len .slice (.t 8)),
 oN 10 (.bin .lss .val (.t 7) (.t 9))] [10] false)
 (.cond (.t 10)
 .skip
 (.exit 0)))
 (.seq
 (.block 1
 (.seq
 (.seq
 (.region [Mv 13 0,
 Mv 14 6,
 Ia 15 3 13 14,
 oN 16 (.load true 3 (.t 15)),
 Ca 17 eE [.t 16],
 Mv 18 1,
 oN 19 (.bin .eql .val (.t 17) (.t 18))] [19] false)
 (.cond (.t 19)
 (.region [Mv 20 5,
 oN 21 (.bin .add .val (.t 20) cO),
 Mv 5 21] [5] false)
 .skip))
 (.region [Mv 22 5,
 Mv 23 0,
 Mv 24 6,
 Ia 25 3 23 24,
 Fa 26 2 25,
 Ld 27 1 26,
 Mv 28 1,
 Ca 29 fg [.t 27, .t 28],
 oN 30 (.bin .add .val (.t 22) (.t 29)),
 Mv 5 30] [5] false)))
 (.region [Mv 11 6,
 oN 12 (.bin .add .val (.t 11) cO),
 Mv 6 12] [6] false)))
def pU : ae :=
 (.seq
 (.region [oN 4 (.mov cZ)] [4] false)
 (.seq
 (.region [oN 5 (.mov cZ)] [5] false)
 (.seq
 (.seq
 (.region [oN 6 (.mov cZ)] [6] false)
 (.block 0
 (.loop [4, 10, 19] gW)))
 (.seq
 (.region [Mv 31 5,
 Mv 4 31] [4] false)
 .ret))))
def lv : bS := ⟨2, pU, [.t 4], .pure⟩
def xO : List Nat := [0, 1, 4, 5, 6, 10, 19]
def iE : ae :=
 (.seq
 (.seq
 (.region [Mv 10 5,
 Mv 11 0,
 oN 12 (.len .slice (.t 11)),
 oN 13 (.bin .lss .val (.t 10) (.t 12))] [13] false)
 (.cond (.t 13)
 .skip
 (.exit 0)))
 (.seq
 (.block 1
 (.seq
 (.region [Mv 16 0,
 Mv 17 5,
 Ia 18 3 16 17,
 Fa 19 2 18,
 Ld 20 1 19,
 Mv 21 1,
 Ca 22 fS [.t 20, .t 21],
 oN 23 (.un .not (.t 22))] [23] false)
 (.cond (.t 23)
 (.seq
 (.region [oN 4 (.mov cF)] [4] false)
 .ret)
 .skip)))
 (.region [Mv 14 5,
 oN 15 (.bin .add .val (.t 14) cO),
 Mv 5 15] [5] false)))
def mq : ae :=
 (.seq
 (.region [oN 4 (.mov cF)] [4] false)
 (.seq
 (.seq
 (.region [Mv 6 0,
 Mv 7 1,
 Ca 8 j5 [.t 6, .t 7],
 oN 9 (.bin .gtr .val (.t 8) cO)] [9] false)
 (.cond (.t 9)
 (.seq
 (.region [oN 4 (.mov cF)] [4] false)
 .ret)
 .skip))
 (.seq
 (.seq
 (.region [oN 5 (.mov cZ)] [5] false)
 (.block 0
 (.loop [4, 9, 13, 23] iE)))
 (.seq
 (.region [oN 4 (.mov cT)] [4] false)
 .ret))))
def jn : bS := ⟨2, mq, [.t 4], .pure⟩
def y4 : List Nat := [0, 1, 4, 5, 9, 13, 23]
def qW : ae :=
 (.seq
 (.region [oN 2 (.mov cZ)] [2] false)
 (.seq
 (.region [Mv 3 0,
 Ca 4 fR [.t 3, (.c (.int .i64 4))],
 Mv 2 4] [2] false)
 .ret))
def mg : bS := ⟨1, qW, [.t 2], .pure⟩
def yW : List Nat := [0, 2]
def iF : ae :=
 (.seq
 (.seq
 (.region [Mv 25 6,
 Mv 26 1,
 oN 27 (.len .slice (.t 26)),
 oN 28 (.bin .lss .val (.t 25) (.t 27))] [28] false)
 (.cond (.t 28)
 .skip
 (.exit 0)))
 (.seq
 (.block 1
 (.seq
 (.seq
 (.region [Mv 31 1,
 Mv 32 6,
 Ia 33 3 31 32,
 Fa 34 0 33,
 Ld 35 1 34,
 oN 36 (.bin .neq .val (.t 35) (.c (.int .i64 4)))] [36] false)
 (.cond (.t 36)
 (.seq
 (.region [Fa 37 3 2,
 Ld 38 1 37,
 Mv 39 5,
 Mv 40 6,
 oN 41 (.bin .add .val (.t 39) (.t 40)),
 Mv 42 5,
 Mv 43 6,
 oN 44 (.bin .add .val (.t 42) (.t 43)),
 oN 45 (.bin .add .val (.t 44) cO),
 Mv 46 1,
 Mv 47 6,
 Ia 48 3 46 47,
 Fa 49 0 48,
 Ld 50 1 49,
 Mv 51 1,
 Mv 52 6,
 Ia 53 3 51 52,
 Fa 54 1 53,
 Ld 55 1 54,
 oN 56 (.build [.int .i64 0, .str [], .sl .nil 3 []] [(0, 1, (.t 50)), (1, 1, (.t 55))]),
 oN 57 (.build [.int .i64 0, .int .i64 0, .int .i64 0, .int .i64 0, .str [], .sl .nil 3 [], .sl .nil 3 [], .int .i64 0] [(0, 1, (.t 41)), (1, 1, (.t 45)), (2, 1, cO), (3, 3, (.t 56))]),
 oN 58 (.bslice 8 [.int .i64 0, .int .i64 0, .int .i64 0, .int .i64 0, .str [], .sl .nil 3 [], .sl .nil 3 [], .int .i64 0] 1 [(0, (.t 57))]),
 oN 59 (.app 8 (.t 38) (.t 58)),
 Fa 60 3 2,
 oU (.store 1 (.t 60) (.t 59))] [] true)
 (.exit 1))
 .skip))
 (.seq
 (.region [Fa 61 3 2,
 Ld 62 1 61,
 Mv 63 5,
 Mv 64 6,
 oN 65 (.bin .add .val (.t 63) (.t 64)),
 Mv 66 5,
 Mv 67 6,
 oN 68 (.bin .add .val (.t 66) (.t 67)),
 oN 69 (.bin .add .val (.t 68) cO),
 Fa 70 0 2,
 Ld 71 1 70,
 oN 72 (.build [.int .i64 0, .int .i64 0, .int .i64 0, .int .i64 0, .str [], .sl .nil 3 [], .sl .nil 3 [], .int .i64 0] [(0, 1, (.t 65)), (1, 1, (.t 69)), (2, 1, (.c (.int .i64 5))), (7, 1, (.t 71))]),
 oN 73 (.bslice 8 [.int .i64 0, .int .i64 0, .int .i64 0, .int .i64 0, .str [], .sl .nil 3 [], .sl .nil 3 [], .int .i64 0] 1 [(0, (.t 72))]),
 oN 74 (.app 8 (.t 62) (.t 73)),
 Fa 75 3 2,
 oU (.store 1 (.t 75) (.t 74))] [] false)
 (.region [oN 76 (.load true 4 (.t 2)),
 Mv 77 1,
 Mv 78 6,
 Ia 79 3 77 78,
 Fa 80 2 79,
 ⟨(some 81), .load false 1 (.t 80), none, [⟨false, 1, .t 79, some 2⟩], false⟩,
 ⟨(some 82), .call (.c (.fn fT [] [])) [.t 76, .t 81], none, [⟨true, 4, .t 2, none⟩, ⟨false, 1, .t 79, some 2⟩], false⟩,
 oU (.store 4 (.t 2) (.t 82))] [] true))))
 (.region [Mv 29 6,
 oN 30 (.bin .add .val (.t 29) cO),
 Mv 6 30] [6] false)))
def qY : ae :=
 (.seq
 (.region [oN 2 (.box 4 (.t 0)),
 oN 4 (.alloc [.int .i64 0, .int .i64 0, .sl .nil 1 [], .sl .nil 8 []])] [2, 4] false)
 (.seq
 (.region [Fa 7 0 2,
 Ld 8 1 7,
 Mv 5 8] [5] false)
 (.seq
 (.region [Fa 9 0 2,
 Ld 10 1 9,
 Mv 11 1,
 oN 12 (.len .slice (.t 11)),
 oN 13 (.bin .add .val (.t 12) cO),
 oN 14 (.bin .add .val (.t 10) (.t 13)),
 Fa 15 0 2,
 oU (.store 1 (.t 15) (.t 14))] [] false)
 (.seq
 (.region [Fa 16 2 2,
 Ld 17 1 16,
 Mv 18 5,
 Mv 19 1,
 oN 20 (.len .slice (.t 19)),
 oN 21 (.bin .add .val (.t 18) (.t 20)),
 oN 22 (.bslice 1 [.int .i64 0] 1 [(0, (.t 21))]),
 oN 23 (.app 1 (.t 17) (.t 22)),
 Fa 24 2 2,
 oU (.store 1 (.t 24) (.t 23))] [] false)
 (.seq
 (.seq
 (.region [oN 6 (.mov cZ)] [6] false)
 (.block 0
 (.loop [0, 28, 36] iF)))
 (.seq
 (.region [oN 83 (.load true 4 (.t 2)),
 oU (.store 4 (.t 4) (.t 83))] [] false)
 .ret))))))
def mi : bS := ⟨2, qY, [.cell 4 true 4], .eff⟩
def y6 : List Nat := [0, 1, 2, 4, 5, 6, 28, 36]
def dD : ae :=
 (.seq
 (.seq
 (.region [Mv 13 5,
 Mv 14 3,
 oN 15 (.len .slice (.t 14)),
 oN 16 (.bin .lss .val (.t 13) (.t 15)),
 Mv 17 16,
 oG 18 (some (17, true)) (.mov (.t 3)),
 oG 19 (some (17, true)) (.mov (.t 5)),
 oG 20 (some (17, true)) (.iaddr 1 (.t 18) (.t 19)),
 oG 21 (some (17, true)) (.load false 1 (.t 20)),
 oG 22 (some (17, true)) (.mov (.t 0)),
 oG 23 (some (17, true)) (.mov (.t 4)),
 oG 24 (some (17, true)) (.iaddr 1 (.t 22) (.t 23)),
 oG 25 (some (17, true)) (.load false 1 (.t 24)),
 oG 26 (some (17, true)) (.bin .lss .val (.t 21) (.t 25)),
 oN 27 (.pick (.t 17) (.t 26) cF)] [27] true)
 (.cond (.t 27)
 .skip
 (.exit 2)))
 (.block 3
 (.region [Mv 28 5,
 oN 29 (.bin .add .val (.t 28) cO),
 Mv 5 29] [5] false)))
def gZ : ae :=
 (.seq
 (.seq
 (.region [Mv 51 6,
 Mv 52 5,
 oN 53 (.bin .gtr .val (.t 51) (.t 52))] [53] false)
 (.cond (.t 53)
 .skip
 (.exit 4)))
 (.seq
 (.block 5
 (.region [Mv 56 3,
 Mv 57 6,
 Mv 58 3,
 Mv 59 6,
 oN 60 (.bin .sub .val (.t 59) cO),
 Ia 61 1 58 60,
 Ld 62 1 61,
 Ia 63 1 56 57,
 oU (.store 1 (.t 63) (.t 62))] [] false))
 (.region [Mv 54 6,
 oN 55 (.bin .sub .val (.t 54) cO),
 Mv 6 55] [6] false)))
def eD : ae :=
 (.seq
 (.seq
 (.region [Mv 7 4,
 Mv 8 0,
 oN 9 (.len .slice (.t 8)),
 oN 10 (.bin .lss .val (.t 7) (.t 9))] [10] false)
 (.cond (.t 10)
 .skip
 (.exit 0)))
 (.seq
 (.block 1
 (.seq
 (.region [oN 5 (.mov cZ)] [5] false)
 (.seq
 (.block 2
 (.loop [2, 6, 10, 27, 44, 53] dD))
 (.seq
 (.seq
 (.region [Mv 30 5,
 Mv 31 3,
 oN 32 (.len .slice (.t 31)),
 oN 33 (.bin .lss .val (.t 30) (.t 32)),
 Mv 34 33,
 oG 35 (some (34, true)) (.mov (.t 3)),
 oG 36 (some (34, true)) (.mov (.t 5)),
 oG 37 (some (34, true)) (.iaddr 1 (.t 35) (.t 36)),
 oG 38 (some (34, true)) (.load false 1 (.t 37)),
 oG 39 (some (34, true)) (.mov (.t 0)),
 oG 40 (some (34, true)) (.mov (.t 4)),
 oG 41 (some (34, true)) (.iaddr 1 (.t 39) (.t 40)),
 oG 42 (some (34, true)) (.load false 1 (.t 41)),
 oG 43 (some (34, true)) (.bin .eql .val (.t 38) (.t 42)),
 oN 44 (.pick (.t 34) (.t 43) cF)] [44] true)
 (.cond (.t 44)
 (.exit 1)
 .skip))
 (.seq
 (.region [Mv 45 3,
 oN 46 (.bslice 1 [.int .i64 0] 1 [(0, cZ)]),
 oN 47 (.appm 1 (.t 45) (.t 46)),
 Mv 3 47] [3] false)
 (.seq
 (.seq
 (.region [Mv 48 3,
 oN 49 (.len .slice (.t 48)),
 oN 50 (.bin .sub .val (.t 49) cO),
 Mv 6 50] [6] false)
 (.block 4
 (.loop [2, 10, 27, 44, 53] gZ)))
 (.region [Mv 64 3,
 Mv 65 5,
 Mv 66 0,
 Mv 67 4,
 Ia 68 1 66 67,
 Ld 69 1 68,
 Ia 70 1 64 65,
 oU (.store 1 (.t 70) (.t 69))] [] false)))))))
 (.region [Mv 11 4,
 oN 12 (.bin .add .val (.t 11) cO),
 Mv 4 12] [4] false)))
def pX : ae :=
 (.seq
 (.region [oN 2 (.mov (.c (.sl .nil 1 [])))] [2] false)
 (.seq
 (.region [oN 3 (.mov (.c (.sl .nil 1 [])))] [3] false)
 (.seq
 (.seq
 (.region [oN 4 (.mov cZ)] [4] false)
 (.block 0
 (.loop [2, 5, 6, 10, 27, 44, 53] eD)))
 (.seq
 (.region [Mv 71 3,
 Mv 2 71] [2] false)
 .ret))))
def ly : bS := ⟨1, pX, [.t 2], .pure⟩
def xT : List Nat := [0, 2, 3, 4, 5, 6, 10, 27, 44, 53]
def jV : ae :=
 (.seq
 (.region [oN 1 (.box 4 (.t 0)),
 oN 2 (.alloc [.int .i64 0, .int .i64 0, .sl .nil 1 [], .sl .nil 8 []]),
 oN 3 (.mov cZ)] [1, 2, 3] false)
 (.seq
 (.seq
 (.region [Fa 4 0 1,
 Ld 5 1 4,
 oN 6 (.bin .gtr .val (.t 5) (.c (.int .i64 400))),
 Mv 7 6,
 oG 8 (some (7, false)) (.faddr 3 (.t 1)),
 oG 9 (some (7, false)) (.load false 1 (.t 8)),
 oG 10 (some (7, false)) (.len .slice (.t 9)),
 oG 11 (some (7, false)) (.bin .gtr .val (.t 10) (.c (.int .i64 4000))),
 oN 12 (.pick (.t 7) cT (.t 11))] [12] false)
 (.cond (.t 12)
 (.seq
 (.region [oN 13 (.build [.int .i64 0, .int .i64 0, .sl .nil 1 [], .sl .nil 8 []] []),
 oU (.store 4 (.t 2) (.t 13)),
 oN 3 (.mov (.c (.int .i64 7)))] [3] false)
 .ret)
 .skip))
 (.seq
 (.region [oN 14 (.load true 4 (.t 1)),
 Ca 15 j7 [.t 14],
 oU (.store 4 (.t 2) (.t 15)),
 oN 3 (.mov cZ)] [3] false)
 .ret)))
def gx : bS := ⟨1, jV, [.cell 2 true 4, .t 3], .pure⟩
def Ay : List Nat := [0, 1, 2, 3, 12]
def dL : ae :=
 (.seq
 (.seq
 (.region [Mv 21 3,
 Fa 22 3 1,
 Ld 23 1 22,
 oN 24 (.len .slice (.t 23)),
 oN 25 (.bin .lss .val (.t 21) (.t 24))] [25] false)
 (.cond (.t 25)
 .skip
 (.exit 0)))
 (.seq
 (.block 1
 (.seq
 (.region [Fa 28 3 1,
 Ld 29 1 28,
 Mv 30 3,
 Ia 31 8 29 30,
 Fa 32 6 31,
 Ld 33 1 32,
 oN 34 (.len .slice (.t 33)),
 oN 35 (.bin .gtr .val (.t 34) (.c (.int .i64 100)))] [35] false)
 (.cond (.t 35)
 (.seq
 (.region [oN 2 (.mov (.c (.int .i64 5)))] [2] false)
 .ret)
 .skip)))
 (.region [Mv 26 3,
 oN 27 (.bin .add .val (.t 26) cO),
 Mv 3 27] [3] false)))
def dM : ae :=
 (.seq
 (.seq
 (.region [Mv 46 4,
 Fa 47 2 1,
 Ld 48 1 47,
 oN 49 (.len .slice (.t 48)),
 oN 50 (.bin .lss .val (.t 46) (.t 49))] [50] false)
 (.cond (.t 50)
 .skip
 (.exit 2)))
 (.seq
 (.block 3
 (.seq
 (.region [oN 53 (.load true 4 (.t 1)),
 Fa 54 2 1,
 Ld 55 1 54,
 Mv 56 4,
 Ia 57 1 55 56,
 Ld 58 1 57,
 oM 59 (.call (.c (.fn bP [] [])) [.t 53, .t 58]),
 oN 60 (.un .not (.t 59)),
 Mv 61 60,
 oG 62 (some (61, false)) (.mov (.t 4)),
 oG 63 (some (61, false)) (.bin .gtr .val (.t 62) cZ),
 oG 64 (some (61, false)) (.mov (.t 63)),
 oG 65 (some (64, true)) (.faddr 2 (.t 1)),
 oG 66 (some (64, true)) (.load false 1 (.t 65)),
 oG 67 (some (64, true)) (.mov (.t 4)),
 oG 68 (some (64, true)) (.bin .sub .val (.t 67) cO),
 oG 69 (some (64, true)) (.iaddr 1 (.t 66) (.t 68)),
 oG 70 (some (64, true)) (.load false 1 (.t 69)),
 oG 71 (some (64, true)) (.faddr 2 (.t 1)),
 oG 72 (some (64, true)) (.load false 1 (.t 71)),
 oG 73 (some (64, true)) (.mov (.t 4)),
 oG 74 (some (64, true)) (.iaddr 1 (.t 72) (.t 73)),
 oG 75 (some (64, true)) (.load false 1 (.t 74)),
 oG 76 (some (64, true)) (.bin .geq .val (.t 70) (.t 75)),
 oG 77 (some (61, false)) (.pick (.t 64) (.t 76) cF),
 oN 78 (.pick (.t 61) cT (.t 77))] [78] true)
 (.cond (.t 78)
 (.seq
 (.region [oN 2 (.mov (.c (.int .i64 250)))] [2] false)
 .ret)
 .skip)))
 (.region [Mv 51 4,
 oN 52 (.bin .add .val (.t 51) cO),
 Mv 4 52] [4] false)))
def iJ : ae :=
 (.seq
 (.seq
 (.region [Mv 79 5,
 Fa 80 3 1,
 Ld 81 1 80,
 oN 82 (.len .slice (.t 81)),
 oN 83 (.bin .lss .val (.t 79) (.t 82))] [83] false)
 (.cond (.t 83)
 .skip
 (.exit 4)))
 (.seq
 (.block 5
 (.seq
 (.region [oN 86 (.load true 4 (.t 1)),
 Fa 87 3 1,
 Ld 88 1 87,
 Mv 89 5,
 Ia 90 8 88 89,
 oN 91 (.load true 8 (.t 90)),
 oM 92 (.call (.c (.fn fV [] [])) [.t 86, .t 91]),
 oN 93 (.un .not (.t 92))] [93] true)
 (.cond (.t 93)
 (.seq
 (.region [oN 2 (.mov (.c (.int .i64 250)))] [2] false)
 .ret)
 .skip)))
 (.region [Mv 84 5,
 oN 85 (.bin .add .val (.t 84) cO),
 Mv 5 85] [5] false)))
def fJ : ae :=
 (.seq
 (.region [oN 1 (.box 4 (.t 0)),
 oN 2 (.mov cZ)] [1, 2] false)
 (.seq
 (.seq
 (.region [Fa 6 0 1,
 Ld 7 1 6,
 oN 8 (.bin .gtr .val (.t 7) (.c (.int .i64 400))),
 Mv 9 8,
 oG 10 (some (9, false)) (.faddr 2 (.t 1)),
 oG 11 (some (9, false)) (.load false 1 (.t 10)),
 oG 12 (some (9, false)) (.len .slice (.t 11)),
 oG 13 (some (9, false)) (.bin .gtr .val (.t 12) (.c (.int .i64 400))),
 oN 14 (.pick (.t 9) cT (.t 13)),
 Mv 15 14,
 oG 16 (some (15, false)) (.faddr 3 (.t 1)),
 oG 17 (some (15, false)) (.load false 1 (.t 16)),
 oG 18 (some (15, false)) (.len .slice (.t 17)),
 oG 19 (some (15, false)) (.bin .gtr .val (.t 18) (.c (.int .i64 4000))),
 oN 20 (.pick (.t 15) cT (.t 19))] [20] false)
 (.cond (.t 20)
 (.seq
 (.region [oN 2 (.mov (.c (.int .i64 5)))] [2] false)
 .ret)
 .skip))
 (.seq
 (.seq
 (.region [oN 3 (.mov cZ)] [3] false)
 (.block 0
 (.loop [0, 2, 4, 5, 20, 25, 35, 45, 50, 78, 83, 93] dL)))
 (.seq
 (.seq
 (.region [Fa 36 0 1,
 Ld 37 1 36,
 oN 38 (.bin .lss .val (.t 37) cO),
 Mv 39 38,
 oG 40 (some (39, false)) (.load true 4 (.t 1)),
 oG 41 (some (39, false)) (.faddr 1 (.t 1)),
 oG 42 (some (39, false)) (.load false 1 (.t 41)),
 oG 43 (some (39, false)) (.call (.c (.fn bP [] [])) [.t 40, .t 42]),
 oG 44 (some (39, false)) (.un .not (.t 43)),
 oN 45 (.pick (.t 39) cT (.t 44))] [45] false)
 (.cond (.t 45)
 (.seq
 (.region [oN 2 (.mov (.c (.int .i64 250)))] [2] false)
 .ret)
 .skip))
 (.seq
 (.seq
 (.region [oN 4 (.mov cZ)] [4] false)
 (.block 2
 (.loop [0, 2, 3, 5, 20, 25, 35, 45, 50, 78, 83, 93] dM)))
 (.seq
 (.seq
 (.region [oN 5 (.mov cZ)] [5] false)
 (.block 4
 (.loop [0, 2, 3, 4, 20, 25, 35, 45, 50, 78, 83, 93] iJ)))
 (.seq
 (.region [oN 2 (.mov cZ)] [2] false)
 .ret)))))))
def dZ : bS := ⟨1, fJ, [.t 2], .pure⟩
def y5 : List Nat := [0, 1, 2, 3, 4, 5, 20, 25, 35, 45, 50, 78, 83, 93]
def gY : ae :=
 (.seq
 (.seq
 (.region [Mv 10 8,
 Mv 11 0,
 oN 12 (.len .slice (.t 11)),
 oN 13 (.bin .lss .val (.t 10) (.t 12))] [13] false)
 (.cond (.t 13)
 .skip
 (.exit 0)))
 (.seq
 (.block 1
 (.seq
 (.region [Mv 16 0,
 Mv 17 8,
 Ia 18 8 16 17,
 oN 19 (.load true 8 (.t 18)),
 oN 9 (.alloc [.int .i64 0, .int .i64 0, .int .i64 0, .int .i64 0, .str [], .sl .nil 3 [], .sl .nil 3 [], .int .i64 0]),
 oU (.store 8 (.t 9) (.t 19))] [9] false)
 (.seq
 (.region [Fa 20 0 9,
 Ld 21 1 20,
 Mv 22 1,
 oN 23 (.bin .add .val (.t 21) (.t 22)),
 Fa 24 1 9,
 Ld 25 1 24,
 Mv 26 1,
 oN 27 (.bin .add .val (.t 25) (.t 26)),
 Fa 28 0 9,
 oU (.store 1 (.t 28) (.t 23)),
 Fa 29 1 9,
 oU (.store 1 (.t 29) (.t 27))] [] false)
 (.seq
 (.seq
 (.region [Fa 30 2 9,
 Ld 31 1 30,
 oN 32 (.bin .eql .val (.t 31) (.c (.int .i64 5)))] [32] false)
 (.cond (.t 32)
 (.region [Fa 33 7 9,
 Ld 34 1 33,
 Mv 35 2,
 oN 36 (.bin .add .val (.t 34) (.t 35)),
 Fa 37 7 9,
 oU (.store 1 (.t 37) (.t 36))] [] false)
 .skip))
 (.region [Mv 38 7,
 oN 39 (.load true 8 (.t 9)),
 oN 40 (.bslice 8 [.int .i64 0, .int .i64 0, .int .i64 0, .int .i64 0, .str [], .sl .nil 3 [], .sl .nil 3 [], .int .i64 0] 1 [(0, (.t 39))]),
 oN 41 (.app 8 (.t 38) (.t 40)),
 Mv 7 41] [7] false)))))
 (.region [Mv 14 8,
 oN 15 (.bin .add .val (.t 14) cO),
 Mv 8 15] [8] false)))
def pV : ae :=
 (.seq
 (.region [oN 6 (.mov (.c (.sl .nil 8 [])))] [6] false)
 (.seq
 (.region [oN 7 (.mov (.c (.sl .nil 8 [])))] [7] false)
 (.seq
 (.seq
 (.region [oN 8 (.mov cZ)] [8] false)
 (.block 0
 (.loop [6, 9, 13, 32] gY)))
 (.seq
 (.region [Mv 42 7,
 Mv 6 42] [6] false)
 .ret))))
def lw : bS := ⟨3, pV, [.t 6], .keep⟩
def xQ : List Nat := [0, 1, 2, 6, 7, 8, 9, 13, 32]
def jt : ae :=
 (.seq
 (.seq
 (.region [Mv 10 8,
 Mv 11 0,
 oN 12 (.len .slice (.t 11)),
 oN 13 (.bin .lss .val (.t 10) (.t 12))] [13] false)
 (.cond (.t 13)
 .skip
 (.exit 0)))
 (.seq
 (.block 1
 (.seq
 (.region [Mv 16 0,
 Mv 17 8,
 Ia 18 8 16 17,
 Fa 19 0 18,
 Ld 20 1 19,
 Mv 21 2,
 oN 22 (.bin .eql .val (.t 20) (.t 21))] [22] false)
 (.cond (.t 22)
 (.seq
 (.region [Mv 23 0,
 Mv 24 8,
 Ia 25 8 23 24,
 oN 26 (.load true 8 (.t 25)),
 oN 9 (.alloc [.int .i64 0, .int .i64 0, .int .i64 0, .int .i64 0, .str [], .sl .nil 3 [], .sl .nil 3 [], .int .i64 0]),
 oU (.store 8 (.t 9) (.t 26))] [9] false)
 (.seq
 (.region [Mv 27 1,
 Fa 28 0 9,
 oU (.store 1 (.t 28) (.t 27))] [] false)
 (.region [Mv 29 7,
 oN 30 (.load true 8 (.t 9)),
 oN 31 (.bslice 8 [.int .i64 0, .int .i64 0, .int .i64 0, .int .i64 0, .str [], .sl .nil 3 [], .sl .nil 3 [], .int .i64 0] 1 [(0, (.t 30))]),
 oN 32 (.app 8 (.t 29) (.t 31)),
 Mv 7 32] [7] false)))
 .skip)))
 (.region [Mv 14 8,
 oN 15 (.bin .add .val (.t 14) cO),
 Mv 8 15] [8] false)))
def rN : ae :=
 (.seq
 (.region [oN 6 (.mov (.c (.sl .nil 8 [])))] [6] false)
 (.seq
 (.region [oN 7 (.mov (.c (.sl .nil 8 [])))] [7] false)
 (.seq
 (.seq
 (.region [oN 8 (.mov cZ)] [8] false)
 (.block 0
 (.loop [6, 9, 13, 22] jt)))
 (.seq
 (.region [Mv 33 7,
 Mv 6 33] [6] false)
 .ret))))
def jR : bS := ⟨3, rN, [.t 6], .pure⟩
def Az : List Nat := [0, 1, 2, 6, 7, 8, 9, 13, 22]
def mt : ae :=
 (.seq
 (.seq
 (.region [Mv 7 6,
 Mv 8 0,
 oN 9 (.len .slice (.t 8)),
 oN 10 (.bin .lss .val (.t 7) (.t 9))] [10] false)
 (.cond (.t 10)
 .skip
 (.exit 0)))
 (.seq
 (.block 1
 (.region [Mv 13 5,
 Mv 14 0,
 Mv 15 6,
 Ia 16 1 14 15,
 Ld 17 1 16,
 Mv 18 1,
 oN 19 (.bin .add .val (.t 17) (.t 18)),
 oN 20 (.bslice 1 [.int .i64 0] 1 [(0, (.t 19))]),
 oN 21 (.app 1 (.t 13) (.t 20)),
 Mv 5 21] [5] false))
 (.region [Mv 11 6,
 oN 12 (.bin .add .val (.t 11) cO),
 Mv 6 12] [6] false)))
def rO : ae :=
 (.seq
 (.region [oN 4 (.mov (.c (.sl .nil 1 [])))] [4] false)
 (.seq
 (.region [oN 5 (.mov (.c (.sl .nil 1 [])))] [5] false)
 (.seq
 (.seq
 (.region [oN 6 (.mov cZ)] [6] false)
 (.block 0
 (.loop [4, 10] mt)))
 (.seq
 (.region [Mv 22 5,
 Mv 4 22] [4] false)
 .ret))))
def mV : bS := ⟨2, rO, [.t 4], .keep⟩
def AA : List Nat := [0, 1, 4, 5, 6, 10]
def iG : ae :=
 (.seq
 (.seq
 (.region [Mv 6 5,
 Fa 7 2 2,
 Ld 8 1 7,
 oN 9 (.len .slice (.t 8)),
 oN 10 (.bin .lss .val (.t 6) (.t 9))] [10] false)
 (.cond (.t 10)
 .skip
 (.exit 0)))
 (.seq
 (.block 1
 (.seq
 (.region [Fa 13 2 2,
 Ld 14 1 13,
 Mv 15 5,
 Ia 16 1 14 15,
 Ld 17 1 16,
 Mv 18 1,
 oN 19 (.bin .eql .val (.t 17) (.t 18))] [19] false)
 (.cond (.t 19)
 (.seq
 (.region [oN 4 (.mov cT)] [4] false)
 .ret)
 .skip)))
 (.region [Mv 11 5,
 oN 12 (.bin .add .val (.t 11) cO),
 Mv 5 12] [5] false)))
def qZ : ae :=
 (.seq
 (.region [oN 2 (.box 4 (.t 0)),
 oN 4 (.mov cF)] [2, 4] false)
 (.seq
 (.seq
 (.region [oN 5 (.mov cZ)] [5] false)
 (.block 0
 (.loop [0, 4, 10, 19] iG)))
 (.seq
 (.region [oN 4 (.mov cF)] [4] false)
 .ret)))
def mj : bS := ⟨2, qZ, [.t 4], .pure⟩
def y8 : List Nat := [0, 1, 2, 4, 5, 10, 19]
def gB : ae :=
 (.seq
 (.region [oN 1 (.box 3 (.t 0)),
 oN 2 (.mov (.c (.str [])))] [1, 2] false)
 (.seq
 (.seq
 (.region [Fa 3 0 1,
 Ld 4 1 3] [4] false)
 (.block 0
 (.seq
 (.region [oN 6 (.bin .eql .val (.t 4) (.c (.int .i64 5))),
 Mv 5 6] [5] false)
 (.cond (.t 5)
 (.seq
 (.region [Fa 7 1 1,
 Ld 8 1 7,
 oN 9 (.bin .add .val (.c (.str [115, 46])) (.t 8)),
 Mv 2 9] [2] false)
 .ret)
 (.seq
 (.region [oN 11 (.bin .eql .val (.t 4) (.c (.int .i64 6))),
 Mv 10 11] [10] false)
 (.cond (.t 10)
 (.seq
 (.region [Fa 12 1 1,
 Ld 13 1 12,
 oN 14 (.bin .add .val (.c (.str [116, 46])) (.t 13)),
 Mv 2 14] [2] false)
 .ret)
 (.seq
 (.region [oN 16 (.bin .eql .val (.t 4) (.c (.int .i64 7))),
 Mv 15 16] [15] false)
 (.cond (.t 15)
 (.seq
 (.region [Fa 17 1 1,
 Ld 18 1 17,
 oN 19 (.bin .add .val (.c (.str [101, 46])) (.t 18)),
 Mv 2 19] [2] false)
 .ret)
 .skip))))))))
 (.seq
 (.region [oN 2 (.mov (.c (.str [])))] [2] false)
 .ret)))
def ez : bS := ⟨1, gB, [.t 2], .pure⟩
def Ar : List Nat := [0, 1, 2, 4, 5, 10, 15]
def jU : ae :=
 (.seq
 (.region [oN 4 (.mov cZ)] [4] false)
 (.seq
 (.seq
 (.region [Mv 5 0,
 Mv 6 1,
 oN 7 (.bin .lss .val (.t 5) (.t 6))] [7] false)
 (.cond (.t 7)
 (.seq
 (.region [oN 4 (.mov (.c (.int .i64 (-1))))] [4] false)
 .ret)
 .skip))
 (.seq
 (.seq
 (.region [Mv 8 0,
 Mv 9 1,
 oN 10 (.bin .gtr .val (.t 8) (.t 9))] [10] false)
 (.cond (.t 10)
 (.seq
 (.region [oN 4 (.mov cO)] [4] false)
 .ret)
 .skip))
 (.seq
 (.region [oN 4 (.mov cZ)] [4] false)
 .ret))))
def eA : bS := ⟨2, jU, [.t 4], .pure⟩
def As : List Nat := [0, 1, 4, 7, 10]
def aZ : ae :=
 (.seq
 (.region [oN 9 (.bin .lss .val (.t 8) (.t 7))] [9] false)
 (.seq
 (.cond (.t 9)
 .skip
 (.exit 0))
 (.seq
 (.block 1
 (.seq
 (.region [Mv 10 8,
 Mv 5 10] [5] false)
 (.seq
 (.region [Mv 11 1,
 Mv 12 0,
 Mv 13 5,
 Ia 14 8 12 13,
 oN 15 (.load true 8 (.t 14)),
 oN 16 (.call (.t 11) [.t 15])] [16] false)
 (.cond (.t 16)
 (.seq
 (.region [Mv 17 5,
 Mv 4 17] [4] false)
 .ret)
 .skip))))
 (.region [oN 18 (.bin .add .val (.t 8) cO),
 Mv 8 18] [8] false))))
def dU : ae :=
 (.seq
 (.region [oN 4 (.mov cZ)] [4] false)
 (.seq
 (.seq
 (.region [Mv 6 0,
 oN 7 (.len .slice (.t 6)),
 oN 8 (.mov cZ)] [7, 8] false)
 (.block 0
 (.loop [4, 5, 9, 16] aZ)))
 (.seq
 (.region [oN 4 (.mov (.c (.int .i64 (-1))))] [4] false)
 .ret)))
def cg : bS := ⟨2, dU, [.t 4], .pure⟩
def kj : List Nat := [0, 1, 4, 5, 7, 8, 9, 16]
def rq : ae :=
 (.seq
 (.region [oN 1 (.box 3 (.t 0)),
 oN 2 (.mov cF)] [1, 2] false)
 (.seq
 (.region [oN 3 (.load true 3 (.t 1)),
 Ca 4 oI [.t 3],
 Mv 5 4,
 oG 6 (some (5, true)) (.load true 3 (.t 1)),
 oG 7 (some (5, true)) (.bslice 3 [.int .i64 0, .str [], .sl .nil 3 []] 1 [(0, (.t 6))]),
 oG 8 (some (5, true)) (.call (.c (.fn nF [] [])) [.t 7]),
 oG 9 (some (5, true)) (.bin .eql .val (.t 8) cZ),
 oN 10 (.pick (.t 5) (.t 9) cF),
 Mv 2 10] [2] false)
 .ret))
def kK : bS := ⟨1, rq, [.t 2], .pure⟩
def Ee : List Nat := [0, 1, 2]
def pR : ae :=
 (.seq
 (.region [oN 1 (.box 8 (.t 0)),
 oN 2 (.mov cF)] [1, 2] false)
 (.seq
 (.region [Fa 3 2 1,
 Ld 4 1 3,
 oN 5 (.bin .geq .val (.t 4) (.c (.int .i64 2))),
 Mv 6 5,
 oG 7 (some (6, true)) (.faddr 2 (.t 1)),
 oG 8 (some (6, true)) (.load false 1 (.t 7)),
 oG 9 (some (6, true)) (.bin .leq .val (.t 8) (.c (.int .i64 4))),
 oN 10 (.pick (.t 6) (.t 9) cF),
 Mv 2 10] [2] false)
 .ret))
def lq : bS := ⟨1, pR, [.t 2], .pure⟩
def xJ : List Nat := [0, 1, 2]
def x5 : ae :=
 (.seq
 (.region [oN 0 (.alloc [.int .i64 0, .int .i64 0, .int .i64 0, .int .i64 0, .int .i64 0])] [0] false)
 (.seq
 (.region [oN 1 (.build [.int .i64 0, .int .i64 0, .int .i64 0, .int .i64 0, .int .i64 0] [(2, 1, cO), (3, 1, (.c (.int .i64 2))), (4, 1, (.c (.int .i64 3)))]),
 oU (.store 5 (.t 0) (.t 1))] [] false)
 .ret))
def oB : bS := ⟨0, x5, [.cell 0 true 5], .pure⟩
def Fm : List Nat := [0]
def vd : ae :=
 (.seq
 (.region [oN 2 (.box 3 (.t 0)),
 oN 3 (.box 3 (.t 1)),
 oN 4 (.mov cZ)] [2, 3, 4] false)
 (.seq
 (.region [oN 5 (.load true 3 (.t 2)),
 oN 6 (.bslice 3 [.int .i64 0, .str [], .sl .nil 3 []] 1 [(0, (.t 5))]),
 oN 7 (.load true 3 (.t 3)),
 oN 8 (.bslice 3 [.int .i64 0, .str [], .sl .nil 3 []] 1 [(0, (.t 7))]),
 Ca 9 gJ [.t 6, .t 8],
 Mv 4 9] [4] false)
 .ret))
def mB : bS := ⟨2, vd, [.t 4], .pure⟩
def Dt : List Nat := .range 5
def FQ : ae :=
 (.seq
 (.region [oN 1 (.box 1 (.t 0)),
 oN 2 (.mov (.c (.nilf)))] [1, 2] false)
 (.seq
 (.region [oN 3 (.mkfn kf [] [.t 1]),
 Mv 2 3] [2] false)
 .ret))
def BU : bS := ⟨1, FQ, [.t 2], .eff⟩
def NZ : List Nat := [0, 1, 2]
def l5 : ae :=
 (.seq
 (.region [oN 9 (.bin .lss .val (.t 8) (.t 7))] [9] false)
 (.seq
 (.cond (.t 9)
 .skip
 (.exit 0))
 (.seq
 (.block 1
 (.seq
 (.region [Ia 10 3 6 8,
 oN 11 (.load true 3 (.t 10)),
 oN 5 (.alloc [.int .i64 0, .str [], .sl .nil 3 []]),
 oU (.store 3 (.t 5) (.t 11))] [5] false)
 (.seq
 (.region [Fa 12 0 5,
 Ld 13 1 12,
 oN 14 (.bin .eql .val (.t 13) (.c (.int .i64 4))),
 Mv 15 14,
 oG 16 (some (15, false)) (.faddr 0 (.t 5)),
 oG 17 (some (15, false)) (.load false 1 (.t 16)),
 oG 18 (some (15, false)) (.bin .eql .val (.t 17) (.c (.int .i64 8))),
 oN 19 (.pick (.t 15) cT (.t 18)),
 Mv 20 19,
 oG 21 (some (20, false)) (.faddr 2 (.t 5)),
 oG 22 (some (20, false)) (.load false 1 (.t 21)),
 oG 23 (some (20, false)) (.len .slice (.t 22)),
 oG 24 (some (20, false)) (.bin .gtr .val (.t 23) cZ),
 oN 25 (.pick (.t 20) cT (.t 24))] [25] false)
 (.cond (.t 25)
 (.region [Mv 26 3,
 Fa 27 2 5,
 Ld 28 1 27,
 Ca 29 nG [.t 28],
 oN 30 (.bin .add .val cO (.t 29)),
 oN 31 (.mm .max [.t 26, .t 30]),
 Mv 3 31] [3] false)
 .skip))))
 (.region [oN 32 (.bin .add .val (.t 8) cO),
 Mv 8 32] [8] false))))
def Cz : ae :=
 (.seq
 (.region [oN 2 (.mov cZ)] [2] false)
 (.seq
 (.region [oN 3 (.mov cZ)] [3] false)
 (.seq
 (.seq
 (.region [Mv 6 0,
 oN 7 (.len .slice (.t 6)),
 oN 8 (.mov cZ)] [6, 7, 8] false)
 (.block 0
 (.loop [0, 2, 5, 9, 25] l5)))
 (.seq
 (.region [Mv 33 3,
 Mv 2 33] [2] false)
 .ret))))
def wO : bS := ⟨1, Cz, [.t 2], .pure⟩
def KM : List Nat := [0, 2, 3, 5, 6, 7, 8, 9, 25]
def dw : ae :=
 (.seq
 (.region [oN 1 (.box 3 (.t 0)),
 oN 2 (.mov cF)] [1, 2] false)
 (.seq
 (.seq
 (.region [Fa 3 0 1,
 Ld 4 1 3] [4] false)
 (.block 0
 (.seq
 (.region [oN 6 (.bin .eql .val (.t 4) (.c (.int .i64 4))),
 Mv 5 6] [5] false)
 (.cond (.t 5)
 (.seq
 (.region [Fa 7 1 1,
 Ld 8 1 7,
 oN 9 (.bin .eql .val (.t 8) (.c (.str []))),
 Mv 2 9] [2] false)
 .ret)
 (.seq
 (.region [oN 11 (.bin .eql .val (.t 4) (.c (.int .i64 8))),
 Mv 10 11] [10] false)
 (.cond (.t 10)
 (.seq
 (.region [Fa 12 1 1,
 Ld 13 1 12,
 Ca 14 mJ [.t 13, (.c (.int .i64 40))],
 Mv 2 14] [2] false)
 .ret)
 .skip))))))
 (.seq
 (.seq
 (.region [Fa 15 2 1,
 Ld 16 1 15,
 oN 17 (.len .slice (.t 16)),
 oN 18 (.bin .gtr .val (.t 17) cZ)] [18] false)
 (.cond (.t 18)
 (.seq
 (.region [oN 2 (.mov cF)] [2] false)
 .ret)
 .skip))
 (.seq
 (.seq
 (.region [Fa 19 0 1,
 Ld 20 1 19] [20] false)
 (.block 1
 (.seq
 (.region [oN 22 (.bin .eql .val (.t 20) cO),
 Mv 21 22] [21] false)
 (.cond (.t 21)
 (.seq
 (.region [Fa 23 1 1,
 Ld 24 1 23,
 oN 25 (.len .str (.t 24)),
 oN 26 (.bin .eql .val (.t 25) cO),
 Mv 2 26] [2] false)
 .ret)
 (.seq
 (.region [oN 28 (.bin .eql .val (.t 20) (.c (.int .i64 2))),
 Mv 27 28] [27] false)
 (.cond (.t 27)
 (.seq
 (.region [Fa 29 1 1,
 Ld 30 1 29,
 oN 31 (.bin .neq .val (.t 30) (.c (.str []))),
 Mv 32 31,
 oG 33 (some (32, true)) (.faddr 1 (.t 1)),
 oG 34 (some (32, true)) (.load false 1 (.t 33)),
 oG 35 (some (32, true)) (.len .str (.t 34)),
 oG 36 (some (32, true)) (.bin .leq .val (.t 35) (.c (.int .i64 60))),
 oN 37 (.pick (.t 32) (.t 36) cF),
 Mv 38 37,
 oG 39 (some (38, true)) (.faddr 1 (.t 1)),
 oG 40 (some (38, true)) (.load false 1 (.t 39)),
 oG 41 (some (38, true)) (.call (.c (.fn iR [] [])) [.t 40, (.c (.fn jg [] []))]),
 oG 42 (some (38, true)) (.un .not (.t 41)),
 oN 43 (.pick (.t 38) (.t 42) cF),
 Mv 2 43] [2] false)
 .ret)
 (.seq
 (.region [oN 45 (.bin .eql .val (.t 20) (.c (.int .i64 3))),
 Mv 44 45] [44] false)
 (.cond (.t 44)
 (.seq
 (.region [Fa 46 1 1,
 Ld 47 1 46,
 Ca 48 oJ [.t 47],
 Mv 2 48] [2] false)
 .ret)
 (.seq
 (.seq
 (.region [oN 50 (.bin .eql .val (.t 20) (.c (.int .i64 5))),
 Mv 49 50] [49] false)
 (.cond (.t 49)
 .skip
 (.seq
 (.region [oN 51 (.bin .eql .val (.t 20) (.c (.int .i64 6))),
 Mv 49 51] [49] false)
 (.cond (.t 49)
 .skip
 (.region [oN 52 (.bin .eql .val (.t 20) (.c (.int .i64 7))),
 Mv 49 52] [49] false)))))
 (.cond (.t 49)
 (.seq
 (.region [Fa 53 1 1,
 Ld 54 1 53,
 oN 55 (.bin .neq .val (.t 54) (.c (.str []))),
 Mv 56 55,
 oG 57 (some (56, true)) (.faddr 1 (.t 1)),
 oG 58 (some (56, true)) (.load false 1 (.t 57)),
 oG 59 (some (56, true)) (.len .str (.t 58)),
 oG 60 (some (56, true)) (.bin .leq .val (.t 59) (.c (.int .i64 40))),
 oN 61 (.pick (.t 56) (.t 60) cF),
 Mv 62 61,
 oG 63 (some (62, true)) (.faddr 1 (.t 1)),
 oG 64 (some (62, true)) (.load false 1 (.t 63)),
 oG 65 (some (62, true)) (.call (.c (.fn nH [] [])) [.t 64, (.c (.int .u8 3))]),
 oN 66 (.pick (.t 62) (.t 65) cF),
 Mv 2 66] [2] false)
 .ret)
 .skip))))))))))
 (.seq
 (.region [oN 2 (.mov cF)] [2] false)
 .ret)))))
def cX : bS := ⟨1, dw, [.t 2], .pure⟩
def KO : List Nat := [0, 1, 2, 4, 5, 10, 18, 20, 21, 27, 44, 49]
def rH : ae :=
 (.region [Mv 4 0,
 Mv 5 1,
 oN 6 (.bin .quo .val (.t 5) (.c (.int .i64 64))),
 oN 7 (.nilchk (.t 4)),
 oN 8 (.aaddr 1 7 (.t 7) (.t 6)),
 Ld 9 1 8,
 Mv 10 1,
 oN 11 (.bin .rem .val (.t 10) (.c (.int .i64 64))),
 oN 12 (.bin .shl .val (.c (.int .u64 1)) (.t 11)),
 oN 13 (.bin .or .val (.t 9) (.t 12)),
 oN 14 (.nilchk (.t 4)),
 oN 15 (.aaddr 1 7 (.t 14) (.t 6)),
 oU (.store 1 (.t 15) (.t 13))] [] true)
def mQ : bS := ⟨2, rH, [], .eff⟩
def Ao : List Nat := [0, 1]
def lS : ae :=
 (.seq
 (.seq
 (.region [Mv 7 3,
 oN 8 (.bin .geq .val (.t 7) cZ)] [8] false)
 (.cond (.t 8)
 .skip
 (.exit 0)))
 (.seq
 (.block 1
 (.seq
 (.region [Mv 11 0,
 Mv 12 3,
 Ld 13 1 1,
 Mv 14 3,
 Ia 15 3 13 14,
 oN 16 (.load true 3 (.t 15)),
 oN 17 (.call (.t 11) [.t 12, .t 16]),
 oN 18 (.un .not (.t 17))] [18] false)
 (.cond (.t 18)
 .ret
 .skip)))
 (.region [Mv 9 3,
 oN 10 (.bin .sub .val (.t 9) cO),
 Mv 3 10] [3] false)))
def mr : ae :=
 (.seq
 (.region [Ld 4 1 1,
 oN 5 (.len .slice (.t 4)),
 oN 6 (.bin .sub .val (.t 5) cO),
 Mv 3 6] [3] false)
 (.block 0
 (.loop [8, 18] lS)))
def ml : bS := ⟨2, mr, [], .eff⟩
def mz : List Nat := [0, 1, 3, 8, 18]
def HT : ae :=
 (.seq
 (.region [oN 3 (.box 3 (.t 1)),
 oN 4 (.mov cF)] [3, 4] false)
 (.seq
 (.region [Mv 5 0,
 oN 6 (.mkfn yg [] [.t 3]),
 Ca 7 fm [.t 5, .t 6],
 Mv 4 7] [4] false)
 .ret))
def HQ : bS := ⟨2, HT, [.t 4], .pure⟩
def Ip : List Nat := [0, 1, 3, 4]
def t6 : ae :=
 (.seq
 (.region [oN 2 (.box 4 (.t 0)),
 oN 3 (.box 4 (.t 1)),
 oN 4 (.mov cZ)] [2, 3, 4] false)
 (.seq
 (.seq
 (.region [oN 6 (.load true 4 (.t 2)),
 Ca 7 ip [.t 6],
 Mv 5 7] [5] false)
 (.seq
 (.region [Mv 8 5,
 oN 9 (.bin .neq .val (.t 8) cZ)] [9] false)
 (.cond (.t 9)
 (.seq
 (.region [Mv 10 5,
 Mv 4 10] [4] false)
 .ret)
 .skip)))
 (.seq
 (.region [oN 11 (.load true 4 (.t 3)),
 Ca 12 ip [.t 11],
 Mv 4 12] [4] false)
 .ret)))
def pK : bS := ⟨2, t6, [.t 4], .pure⟩
def Hv : List Nat := [0, 1, 2, 3, 4, 5, 9]
def kz : ae :=
 (.seq
 (.region [oN 41 (.bin .lss .val (.t 40) (.t 39))] [41] false)
 (.seq
 (.cond (.t 41)
 .skip
 (.exit 0))
 (.seq
 (.block 1
 (.seq
 (.region [Ia 42 1 38 40,
 Ld 43 1 42,
 Mv 7 43] [7] false)
 (.region [Fa 44 3 5,
 ⟨(some 45), .load false 1 (.t 44), none, [⟨false, 1, .t 5, some 3⟩], false⟩,
 Mv 46 4,
 Mv 47 7,
 Fa 48 1 1,
 ⟨(some 49), .load false 1 (.t 48), none, [⟨false, 1, .t 1, some 1⟩], false⟩,
 Mv 50 3,
 oN 51 (.bin .mul .val (.c (.int .i64 2)) (.t 50)),
 oN 52 (.bin .add .val (.t 49) (.t 51)),
 ⟨(some 53), .call (.c (.fn qv [] [])) [.t 46, .t 47, .t 52], none, [⟨false, 1, .t 5, some 3⟩, ⟨false, 1, .t 1, some 1⟩], false⟩,
 ⟨(some 54), .call (.c (.fn ba [] [])) [.t 45, .t 53], none, [⟨false, 1, .t 5, some 3⟩, ⟨false, 1, .t 1, some 1⟩], false⟩,
 Fa 55 3 5,
 oU (.store 1 (.t 55) (.t 54))] [] true)))
 (.region [oN 56 (.bin .add .val (.t 40) cO),
 Mv 40 56] [40] false))))
def tY : ae :=
 (.seq
 (.region [oN 2 (.alloc [.int .i64 0, .int .i64 0, .sl .nil 1 [], .sl .nil 8 []])] [2] false)
 (.seq
 (.region [Fa 8 0 0,
 Ld 9 1 8,
 Mv 3 9] [3] false)
 (.seq
 (.region [Fa 10 3 1,
 Ld 11 1 10,
 Mv 12 3,
 oN 13 (.bin .mul .val (.c (.int .i64 2)) (.t 12)),
 Mv 14 3,
 oN 15 (.bin .mul .val (.c (.int .i64 2)) (.t 14)),
 Ca 16 ga [.t 11, .t 13, .t 15],
 Mv 4 16] [4] false)
 (.seq
 (.alt [0, 1, 2, 3, 4, 5, 6, 7, 8, 9, 10, 11, 12, 13, 14, 15, 16, 17, 20, 18, 19, 21] 18 20 false [Mv 17 3,
 oN 18 (.bin .mul .val (.c (.int .i64 2)) (.t 17)),
 Fa 19 0 1,
 ⟨(some 20), .load false 1 (.t 19), none, [⟨false, 1, .t 1, some 0⟩], false⟩,
 oN 21 (.bin .add .val (.t 18) (.t 20)),
 Fa 22 1 0,
 ⟨(some 23), .load false 1 (.t 22), none, [⟨false, 1, .t 0, some 1⟩], false⟩,
 Fa 24 3 0,
 ⟨(some 25), .load false 1 (.t 24), none, [⟨false, 1, .t 0, some 3⟩], false⟩,
 Mv 26 3,
 ⟨(some 27), .call (.c (.fn ga [] [])) [.t 25, cZ, .t 26], none, [⟨false, 0, .c .junk, none⟩], true⟩,
 Fa 28 3 0,
 ⟨(some 29), .load false 1 (.t 28), none, [⟨false, 1, .t 0, some 3⟩], false⟩,
 Mv 30 3,
 Mv 31 3,
 ⟨(some 32), .call (.c (.fn ga [] [])) [.t 29, .t 30, .t 31], none, [⟨false, 0, .c .junk, none⟩], true⟩,
 Mv 33 4,
 oN 34 (.bslice 1 [.sl .nil 8 []] 3 [(0, (.t 27)), (1, (.t 32)), (2, (.t 33))]),
 ⟨(some 35), .call (.c (.fn aS [] [])) [.t 34], none, [⟨false, 1, .t 1, some 0⟩, ⟨false, 1, .t 0, some 1⟩, ⟨false, 1, .t 0, some 3⟩, ⟨false, 1, .t 0, some 3⟩], false⟩,
 oN 36 (.build [.int .i64 0, .int .i64 0, .sl .nil 1 [], .sl .nil 8 []] [(0, 1, (.t 21)), (1, 1, (.t 23)), (3, 1, (.t 35))]),
 oN 5 (.alloc [.int .i64 0, .int .i64 0, .sl .nil 1 [], .sl .nil 8 []]),
 oU (.store 4 (.t 5) (.t 36))] [5] .skip [])
 (.seq
 (.seq
 (.region [Fa 37 2 0,
 Ld 38 1 37,
 oN 39 (.len .slice (.t 38)),
 oN 40 (.mov cZ)] [38, 39, 40] false)
 (.block 0
 (.loop [7, 41, 73] kz)))
 (.seq
 (.region [Fa 57 2 0,
 ⟨(some 58), .load false 1 (.t 57), none, [⟨false, 1, .t 0, some 2⟩], false⟩,
 Mv 59 3,
 oM 60 (.call (.c (.fn kT [] [])) [.t 58, .t 59]),
 Fa 61 2 1,
 ⟨(some 62), .load false 1 (.t 61), none, [⟨false, 1, .t 1, some 2⟩], false⟩,
 Mv 63 3,
 oN 64 (.bin .mul .val (.c (.int .i64 2)) (.t 63)),
 oM 65 (.call (.c (.fn kT [] [])) [.t 62, .t 64]),
 oN 66 (.bslice 1 [.sl .nil 1 []] 2 [(0, (.t 60)), (1, (.t 65))]),
 ⟨(some 67), .call (.c (.fn dj [] [])) [.t 66], none, [⟨false, 1, .t 0, some 2⟩, ⟨false, 1, .t 1, some 2⟩], false⟩,
 Fa 68 2 5,
 oU (.store 1 (.t 68) (.t 67))] [] true)
 (.seq
 (.seq
 (.region [Fa 69 2 1,
 Ld 70 1 69,
 Fa 71 1 1,
 Ld 72 1 71,
 Ca 73 eu [.t 70, .t 72]] [73] false)
 (.cond (.t 73)
 (.region [Fa 74 2 5,
 Ld 75 1 74,
 Fa 76 2 0,
 Ld 77 1 76,
 oN 78 (.bslice 1 [.sl .nil 1 []] 2 [(0, (.t 75)), (1, (.t 77))]),
 Ca 79 dj [.t 78],
 Fa 80 2 5,
 oU (.store 1 (.t 80) (.t 79))] [] false)
 .skip))
 (.seq
 (.region [oN 81 (.load true 4 (.t 5)),
 oU (.store 4 (.t 2) (.t 81))] [] false)
 .ret))))))))
def oQ : bS := ⟨2, tY, [.cell 2 true 4], .pure⟩
def Cq : List Nat := [0, 1, 2, 3, 4, 5, 7, 38, 39, 40, 41, 73]
def j3 : ae :=
 (.seq
 (.region [oN 14 (.bin .lss .val (.t 13) (.t 12))] [14] false)
 (.seq
 (.cond (.t 14)
 .skip
 (.exit 0))
 (.seq
 (.block 1
 (.seq
 (.region [Mv 15 13,
 Mv 8 15] [8] false)
 (.seq
 (.region [Mv 16 7,
 Mv 17 8,
 Ia 18 8 16 17,
 Fa 19 0 18,
 Ld 20 1 19,
 Mv 21 1,
 oN 22 (.bin .add .val (.t 20) (.t 21)),
 Ia 23 8 16 17,
 Fa 24 0 23,
 oU (.store 1 (.t 24) (.t 22))] [] false)
 (.seq
 (.region [Mv 25 7,
 Mv 26 8,
 Ia 27 8 25 26,
 Fa 28 1 27,
 Ld 29 1 28,
 Mv 30 1,
 oN 31 (.bin .add .val (.t 29) (.t 30)),
 Ia 32 8 25 26,
 Fa 33 1 32,
 oU (.store 1 (.t 33) (.t 31))] [] false)
 (.seq
 (.region [Mv 34 7,
 Mv 35 8,
 Ia 36 8 34 35,
 Fa 37 2 36,
 Ld 38 1 37,
 oN 39 (.bin .eql .val (.t 38) (.c (.int .i64 5)))] [39] false)
 (.cond (.t 39)
 (.region [Mv 40 7,
 Mv 41 8,
 Ia 42 8 40 41,
 Fa 43 7 42,
 Ld 44 1 43,
 Mv 45 2,
 oN 46 (.bin .add .val (.t 44) (.t 45)),
 Ia 47 8 40 41,
 Fa 48 7 47,
 oU (.store 1 (.t 48) (.t 46))] [] false)
 .skip))))))
 (.region [oN 49 (.bin .add .val (.t 13) cO),
 Mv 13 49] [13] false))))
def rp : ae :=
 (.seq
 (.region [oN 6 (.mov (.c (.sl .nil 8 [])))] [6] false)
 (.seq
 (.region [Mv 9 0,
 Ca 10 bo [.t 9],
 Mv 7 10] [7] false)
 (.seq
 (.seq
 (.region [Mv 11 7,
 oN 12 (.len .slice (.t 11)),
 oN 13 (.mov cZ)] [12, 13] false)
 (.block 0
 (.loop [0, 6, 8, 14, 39] j3)))
 (.seq
 (.region [Mv 50 7,
 Mv 6 50] [6] false)
 .ret))))
def kJ : bS := ⟨3, rp, [.t 6], .pure⟩
def Eb : List Nat := [0, 1, 2, 6, 7, 8, 12, 13, 14, 39]
def cE : ae :=
 (.seq
 (.region [oN 12 (.bin .lss .val (.t 11) (.t 10))] [12] false)
 (.seq
 (.cond (.t 12)
 .skip
 (.exit 0))
 (.seq
 (.block 1
 (.seq
 (.region [Ia 13 1 9 11,
 Ld 14 1 13,
 Mv 5 14] [5] false)
 (.seq
 (.region [Mv 15 3,
 Mv 16 5,
 oN 17 (.len .slice (.t 16)),
 oN 18 (.bin .add .val (.t 15) (.t 17)),
 Mv 3 18] [3] false)
 (.seq
 (.region [Mv 19 3,
 oN 20 (.bin .lss .val (.t 19) cZ)] [20] false)
 (.cond (.t 20)
 (.region [oN 21 (.mkif 9 (.c (.str [108, 101, 110, 32, 111, 117, 116, 32, 111, 102, 32, 114, 97, 110, 103, 101]))),
 oU (.panic (.t 21))] [] false)
 .skip)))))
 (.region [oN 22 (.bin .add .val (.t 11) cO),
 Mv 11 22] [11] false))))
def cG : ae :=
 (.seq
 (.region [oN 28 (.bin .lss .val (.t 27) (.t 26))] [28] false)
 (.seq
 (.cond (.t 28)
 .skip
 (.exit 2))
 (.seq
 (.block 3
 (.seq
 (.region [Ia 29 1 25 27,
 Ld 30 1 29,
 Mv 8 30] [8] false)
 (.region [Mv 31 6,
 Mv 32 8,
 oN 33 (.app 8 (.t 31) (.t 32)),
 Mv 6 33] [6] false)))
 (.region [oN 34 (.bin .add .val (.t 27) cO),
 Mv 27 34] [27] false))))
def eC : ae :=
 (.seq
 (.region [oN 2 (.mov (.c (.sl .nil 8 [])))] [2] false)
 (.seq
 (.region [oN 3 (.mov cZ)] [3] false)
 (.seq
 (.seq
 (.region [Mv 9 0,
 oN 10 (.len .slice (.t 9)),
 oN 11 (.mov cZ)] [9, 10, 11] false)
 (.block 0
 (.loop [2, 5, 6, 8, 12, 20, 25, 26, 27, 28] cE)))
 (.seq
 (.region [Mv 23 3,
 oN 24 (.call (.c (.fn bC [] [])) [(.c (.sl .nil 8 [])), .t 23]),
 Mv 6 24] [6] false)
 (.seq
 (.seq
 (.region [Mv 25 0,
 oN 26 (.len .slice (.t 25)),
 oN 27 (.mov cZ)] [25, 26, 27] false)
 (.block 2
 (.loop [0, 2, 3, 5, 8, 9, 10, 11, 12, 20, 28] cG)))
 (.seq
 (.region [Mv 35 6,
 Mv 2 35] [2] false)
 .ret))))))
def cH : bS := ⟨1, eC, [.t 2], .keep⟩
def la : List Nat := [0, 2, 3, 5, 6, 8, 9, 10, 11, 12, 20, 25, 26, 27, 28]
def bU : ae :=
 (.block 1
 (.region [Ld 8 1 2,
 oN 9 (.load true 8 (.t 5)),
 oN 10 (.bslice 8 [.int .i64 0, .int .i64 0, .int .i64 0, .int .i64 0, .str [], .sl .nil 3 [], .sl .nil 3 [], .int .i64 0] 1 [(0, (.t 9))]),
 oN 11 (.app 8 (.t 8) (.t 10)),
 oU (.store 1 (.t 2) (.t 11))] [] false))
def dT : ae :=
 (.seq
 (.region [oN 2 (.box 1 (.t 0)),
 oN 4 (.mov (.c (.sl .nil 8 [])))] [2, 4] false)
 (.seq
 (.seq
 (.region [Mv 6 1] [6] false)
 (.block 0
 (.rangeFn (.t 6) [7]
 (.region [oN 5 (.alloc [.int .i64 0, .int .i64 0, .int .i64 0, .int .i64 0, .str [], .sl .nil 3 [], .sl .nil 3 [], .int .i64 0]),
 oU (.store 8 (.t 5) (.t 7))] [5] false) bU)))
 (.seq
 (.region [Ld 12 1 2,
 Mv 4 12] [4] false)
 .ret)))
def ce : bS := ⟨2, dT, [.t 4], .eff⟩
def ki : List Nat := [0, 1, 2, 4, 5, 6, 7]
def ze : ae :=
 (.seq
 (.region [oN 3 (.box 1 (.t 0)),
 oN 4 (.box 1 (.t 1)),
 oN 5 (.box 1 (.t 2)),
 oN 6 (.mov (.c (.nilf)))] [3, 4, 5, 6] false)
 (.seq
 (.region [oN 7 (.mkfn bY [] [.t 3, .t 5, .t 4]),
 Mv 6 7] [6] false)
 .ret))
def tN : bS := ⟨3, ze, [.t 6], .eff⟩
def Hx : List Nat := .range 7
def oH : ae :=
 (.seq
 (.region [oN 12 (.bin .lss .val (.t 11) (.t 10))] [12] false)
 (.seq
 (.cond (.t 12)
 .skip
 (.exit 0))
 (.seq
 (.block 1
 (.seq
 (.region [Mv 13 11,
 Mv 6 13] [6] false)
 (.region [Mv 14 5,
 Mv 15 6,
 Ia 16 1 14 15,
 Ld 17 1 16,
 Mv 18 1,
 oN 19 (.bin .add .val (.t 17) (.t 18)),
 Ia 20 1 14 15,
 oU (.store 1 (.t 20) (.t 19))] [] false)))
 (.region [oN 21 (.bin .add .val (.t 11) cO),
 Mv 11 21] [11] false))))
def t8 : ae :=
 (.seq
 (.region [oN 4 (.mov (.c (.sl .nil 1 [])))] [4] false)
 (.seq
 (.region [Mv 7 0,
 Ca 8 eP [.t 7],
 Mv 5 8] [5] false)
 (.seq
 (.seq
 (.region [Mv 9 5,
 oN 10 (.len .slice (.t 9)),
 oN 11 (.mov cZ)] [10, 11] false)
 (.block 0
 (.loop [0, 4, 6, 12] oH)))
 (.seq
 (.region [Mv 22 5,
 Mv 4 22] [4] false)
 .ret))))
def mY : bS := ⟨2, t8, [.t 4], .pure⟩
def Hz : List Nat := [0, 1, 4, 5, 6, 10, 11, 12]
def lQ : ae :=
 (.seq
 (.region [oN 4 (.mov cF)] [4] false)
 (.seq
 (.region [Mv 5 0,
 Mv 6 1,
 Ca 7 fH [.t 5, .t 6],
 oN 8 (.bin .geq .val (.t 7) cZ),
 Mv 4 8] [4] false)
 .ret))
def il : bS := ⟨2, lQ, [.t 4], .pure⟩
def sP : List Nat := [0, 1, 4]
def n9 : ae :=
 (.seq
 (.region [oN 5 (.recover),
 Mv 2 5] [2] false)
 (.seq
 (.region [Mv 6 2,
 oN 7 (.bin .neq .iface (.t 6) (.c (.nilif)))] [7] false)
 (.cond (.t 7)
 (.seq
 (.region [Mv 9 2,
 oN 10 (.tassert 129 (.agg [.int .i64 0]) true (.t 9)),
 Mv 8 10,
 oN 11 (.ext (.t 8) 0),
 oN 12 (.ext (.t 8) 1),
 oN 3 (.alloc [.int .i64 0]),
 oU (.store 1 (.t 3) (.t 11)),
 Mv 4 12] [3, 4] false)
 (.seq
 (.seq
 (.region [Mv 13 4,
 oN 14 (.un .not (.t 13))] [14] false)
 (.cond (.t 14)
 (.region [Mv 15 2,
 oU (.panic (.t 15))] [] false)
 .skip))
 (.region [oN 16 (.build [.int .i64 0, .int .i64 0, .sl .nil 1 [], .sl .nil 8 []] []),
 Fa 17 0 3,
 ⟨(some 18), .load false 1 (.t 17), none, [⟨false, 1, .t 3, some 0⟩], false⟩,
 ⟨none, .store 4 (.t 0) (.t 16), none, [⟨false, 1, .t 3, some 0⟩], false⟩,
 oU (.store 1 (.t 1) (.t 18))] [] true)))
 .skip)))
def ky : bS := ⟨2, n9, [], .eff⟩
def Bo : List Nat := [0, 1, 2, 3, 4, 7, 14]
def zf : ae :=
 (.seq
 (.region [Mv 2 0,
 oN 3 (.bin .neq .val (.t 2) cZ)] [3] false)
 (.cond (.t 3)
 (.region [Mv 4 0,
 oN 5 (.build [.int .i64 0] [(0, 1, (.t 4))]),
 oN 6 (.mkif 129 (.t 5)),
 oU (.panic (.t 6))] [] false)
 .skip))
def tO : bS := ⟨1, zf, [], .pure⟩
def Hy : List Nat := [0, 3]
def cz : ae :=
 (.seq
 (.region [oN 37 (.bin .lss .val (.t 36) (.t 35))] [37] false)
 (.seq
 (.cond (.t 37)
 .skip
 (.exit 0))
 (.seq
 (.block 1
 (.seq
 (.region [Mv 38 36,
 Mv 8 38] [8] false)
 (.seq
 (.region [oN 39 (.load true 7 (.t 5)),
 Mv 40 8,
 Ca 41 aR [.t 39, .t 40],
 Mv 42 41,
 oG 43 (some (42, true)) (.load true 7 (.t 3)),
 oG 44 (some (42, true)) (.mov (.t 8)),
 oG 45 (some (42, true)) (.call (.c (.fn aR [] [])) [.t 43, .t 44]),
 oN 46 (.pick (.t 42) (.t 45) cF)] [46] false)
 (.cond (.t 46)
 (.seq
 (.region [Mv 47 7,
 Mv 48 8,
 Fa 49 0 6,
 Ld 50 1 49,
 Ia 51 1 47 48,
 oU (.store 1 (.t 51) (.t 50))] [] false)
 (.region [Fa 52 0 6,
 Ld 53 1 52,
 oN 54 (.bin .add .val (.t 53) cO),
 Fa 55 0 6,
 oU (.store 1 (.t 55) (.t 54))] [] false))
 .skip))))
 (.region [oN 56 (.bin .add .val (.t 36) cO),
 Mv 36 56] [36] false))))
def dx : ae :=
 (.seq
 (.region [oN 67 (.bin .lss .val (.t 66) (.t 65))] [67] false)
 (.seq
 (.cond (.t 67)
 .skip
 (.exit 2))
 (.seq
 (.block 3
 (.seq
 (.region [Ia 68 1 64 66,
 Ld 69 1 68,
 Mv 10 69] [10] false)
 (.seq
 (.region [oN 70 (.load true 7 (.t 5)),
 Mv 71 10,
 Ca 72 aR [.t 70, .t 71]] [72] false)
 (.cond (.t 72)
 (.region [Fa 73 2 6,
 Ld 74 1 73,
 Mv 75 7,
 Mv 76 10,
 Ia 77 1 75 76,
 Ld 78 1 77,
 oN 79 (.bslice 1 [.int .i64 0] 1 [(0, (.t 78))]),
 oN 80 (.app 1 (.t 74) (.t 79)),
 Fa 81 2 6,
 oU (.store 1 (.t 81) (.t 80))] [] true)
 .skip))))
 (.region [oN 82 (.bin .add .val (.t 66) cO),
 Mv 66 82] [66] false))))
def bB : ae :=
 (.seq
 (.region [oN 87 (.bin .lss .val (.t 86) (.t 85))] [87] false)
 (.seq
 (.cond (.t 87)
 .skip
 (.exit 4))
 (.seq
 (.block 5
 (.seq
 (.region [Ia 88 8 84 86,
 oN 89 (.load true 8 (.t 88)),
 oN 12 (.alloc [.int .i64 0, .int .i64 0, .int .i64 0, .int .i64 0, .str [], .sl .nil 3 [], .sl .nil 3 [], .int .i64 0]),
 oU (.store 8 (.t 12) (.t 89))] [12] false)
 (.seq
 (.seq
 (.region [oN 90 (.load true 8 (.t 12)),
 oN 91 (.load true 7 (.t 3)),
 Ca 92 eg [.t 90, .t 91],
 oN 93 (.un .not (.t 92)),
 Mv 94 93,
 oG 95 (some (94, false)) (.load true 7 (.t 5)),
 oG 96 (some (94, false)) (.faddr 0 (.t 12)),
 oG 97 (some (94, false)) (.load false 1 (.t 96)),
 oG 98 (some (94, false)) (.call (.c (.fn aR [] [])) [.t 95, .t 97]),
 oG 99 (some (94, false)) (.un .not (.t 98)),
 oN 100 (.pick (.t 94) cT (.t 99))] [100] false)
 (.cond (.t 100)
 (.exit 5)
 .skip))
 (.seq
 (.region [Mv 101 7,
 Fa 102 0 12,
 Ld 103 1 102,
 Ia 104 1 101 103,
 Ld 105 1 104,
 Mv 106 7,
 Fa 107 1 12,
 Ld 108 1 107,
 Ia 109 1 106 108,
 Ld 110 1 109,
 Fa 111 2 12,
 Ld 112 1 111,
 Fa 113 3 12,
 oN 114 (.load true 3 (.t 113)),
 Fa 115 6 12,
 Ld 116 1 115,
 ⟨(some 117), .call (.c (.fn ke [] [])) [.t 116], none, [⟨false, 0, .c .junk, none⟩], true⟩,
 oN 118 (.build [.int .i64 0, .int .i64 0, .int .i64 0, .int .i64 0, .str [], .sl .nil 3 [], .sl .nil 3 [], .int .i64 0] [(0, 1, (.t 105)), (1, 1, (.t 110)), (2, 1, (.t 112)), (3, 3, (.t 114)), (6, 1, (.t 117))]),
 oN 13 (.alloc [.int .i64 0, .int .i64 0, .int .i64 0, .int .i64 0, .str [], .sl .nil 3 [], .sl .nil 3 [], .int .i64 0]),
 oU (.store 8 (.t 13) (.t 118))] [13] true)
 (.seq
 (.seq
 (.region [Fa 119 2 12,
 Ld 120 1 119,
 oN 121 (.bin .eql .val (.t 120) (.c (.int .i64 5)))] [121] false)
 (.cond (.t 121)
 (.region [Mv 122 7,
 Fa 123 7 12,
 Ld 124 1 123,
 Ia 125 1 122 124,
 Ld 126 1 125,
 Fa 127 7 13,
 oU (.store 1 (.t 127) (.t 126))] [] false)
 .skip))
 (.seq
 (.region [Fa 128 3 6,
 Ld 129 1 128,
 oN 130 (.mkfn bX [] [.t 13]),
 Ca 131 ax [.t 129, .t 130],
 oN 132 (.un .not (.t 131))] [132] false)
 (.cond (.t 132)
 (.region [Fa 133 3 6,
 Ld 134 1 133,
 oN 135 (.load true 8 (.t 13)),
 oN 136 (.bslice 8 [.int .i64 0, .int .i64 0, .int .i64 0, .int .i64 0, .str [], .sl .nil 3 [], .sl .nil 3 [], .int .i64 0] 1 [(0, (.t 135))]),
 oN 137 (.app 8 (.t 134) (.t 136)),
 Fa 138 3 6,
 oU (.store 1 (.t 138) (.t 137))] [] false)
 .skip)))))))
 (.region [oN 139 (.bin .add .val (.t 86) cO),
 Mv 86 139] [86] false))))
def i7 : ae :=
 (.seq
 (.region [oN 1 (.box 4 (.t 0)),
 oN 2 (.alloc [.int .i64 0, .int .i64 0, .sl .nil 1 [], .sl .nil 8 []])] [1, 2] false)
 (.seq
 (.region [oN 14 (.load true 4 (.t 1)),
 Ca 15 de [.t 14],
 oN 16 (.mkfn dg [] [.t 1]),
 Ca 17 ni [.t 15, .t 16],
 oN 3 (.alloc [.int .u64 0, .int .u64 0, .int .u64 0, .int .u64 0, .int .u64 0, .int .u64 0, .int .u64 0]),
 oU (.store 7 (.t 3) (.t 17))] [3] false)
 (.seq
 (.seq
 (.region [oN 18 (.load true 7 (.t 3)),
 Fa 19 1 1,
 Ld 20 1 19,
 Ca 21 aR [.t 18, .t 20],
 oN 22 (.un .not (.t 21))] [22] false)
 (.cond (.t 22)
 (.seq
 (.region [oN 23 (.build [.int .i64 0, .int .i64 0, .sl .nil 1 [], .sl .nil 8 []] [(0, 1, cO)]),
 oU (.store 4 (.t 2) (.t 23))] [] false)
 .ret)
 .skip))
 (.seq
 (.region [oN 4 (.alloc [.int .u64 0, .int .u64 0, .int .u64 0, .int .u64 0, .int .u64 0, .int .u64 0, .int .u64 0])] [4] false)
 (.seq
 (.region [Fa 24 1 1,
 Ld 25 1 24,
 Ca 26 bm [.t 4, .t 25]] [] false)
 (.seq
 (.region [oN 27 (.load true 7 (.t 4)),
 oN 28 (.mkfn dh [] [.t 1, .t 3]),
 Ca 29 ni [.t 27, .t 28],
 oN 5 (.alloc [.int .u64 0, .int .u64 0, .int .u64 0, .int .u64 0, .int .u64 0, .int .u64 0, .int .u64 0]),
 oU (.store 7 (.t 5) (.t 29))] [5] false)
 (.seq
 (.region [oN 30 (.build [.int .i64 0, .int .i64 0, .sl .nil 1 [], .sl .nil 8 []] []),
 oN 6 (.alloc [.int .i64 0, .int .i64 0, .sl .nil 1 [], .sl .nil 8 []]),
 oU (.store 4 (.t 6) (.t 30))] [6] false)
 (.seq
 (.region [Fa 31 0 1,
 Ld 32 1 31,
 oN 33 (.mkms 1 [.int .i64 0] (.t 32) (.t 32)),
 Mv 7 33] [7] false)
 (.seq
 (.seq
 (.region [Fa 34 0 1,
 Ld 35 1 34,
 oN 36 (.mov cZ)] [35, 36] false)
 (.block 0
 (.loop [0, 4, 8, 10, 12, 13, 22, 37, 46, 64, 65, 66, 67, 72, 84, 85, 86, 87, 100, 121, 132] cz)))
 (.seq
 (.region [Mv 57 7,
 Fa 58 1 1,
 Ld 59 1 58,
 Ia 60 1 57 59,
 Ld 61 1 60,
 Fa 62 1 6,
 oU (.store 1 (.t 62) (.t 61))] [] false)
 (.seq
 (.seq
 (.region [Fa 63 2 1,
 Ld 64 1 63,
 oN 65 (.len .slice (.t 64)),
 oN 66 (.mov cZ)] [64, 65, 66] false)
 (.block 2
 (.loop [0, 4, 8, 10, 12, 13, 22, 35, 36, 37, 46, 67, 72, 84, 85, 86, 87, 100, 121, 132] dx)))
 (.seq
 (.seq
 (.region [Fa 83 3 1,
 Ld 84 1 83,
 oN 85 (.len .slice (.t 84)),
 oN 86 (.mov cZ)] [84, 85, 86] false)
 (.block 4
 (.loop [0, 1, 4, 8, 10, 12, 13, 22, 35, 36, 37, 46, 64, 65, 66, 67, 72, 87, 100, 121, 132] bB)))
 (.seq
 (.region [oN 140 (.load true 4 (.t 6)),
 oU (.store 4 (.t 2) (.t 140))] [] false)
 .ret)))))))))))))
def eS : bS := ⟨1, i7, [.cell 2 true 4], .pure⟩
def uL : List Nat := [0, 1, 2, 3, 4, 5, 6, 7, 8, 10, 12, 13, 22, 35, 36, 37, 46, 64, 65, 66, 67, 72, 84, 85, 86, 87, 100, 121, 132]
def ed : ae :=
 (.seq
 (.seq
 (.region [Mv 9 6,
 Mv 10 0,
 oN 11 (.len .slice (.t 10)),
 oN 12 (.bin .lss .val (.t 9) (.t 11))] [12] false)
 (.cond (.t 12)
 .skip
 (.exit 0)))
 (.seq
 (.block 1
 (.seq
 (.region [Mv 16 0,
 Mv 17 6,
 Ia 18 3 16 17,
 Fa 19 2 18,
 Ld 20 1 19,
 Ca 21 eF [.t 20],
 Mv 15 21,
 oN 22 (.ext (.t 15) 0),
 oN 23 (.ext (.t 15) 1),
 Mv 7 22,
 Mv 8 23] [7, 8] false)
 (.seq
 (.seq
 (.region [Mv 24 0,
 Mv 25 6,
 Ia 26 3 24 25,
 Fa 27 0 26,
 Ld 28 1 27,
 oN 29 (.bin .eql .val (.t 28) (.c (.int .i64 4))),
 Mv 30 29,
 oG 31 (some (30, false)) (.mov (.t 0)),
 oG 32 (some (30, false)) (.mov (.t 6)),
 oG 33 (some (30, false)) (.iaddr 3 (.t 31) (.t 32)),
 oG 34 (some (30, false)) (.faddr 0 (.t 33)),
 oG 35 (some (30, false)) (.load false 1 (.t 34)),
 oG 36 (some (30, false)) (.bin .eql .val (.t 35) (.c (.int .i64 8))),
 oN 37 (.pick (.t 30) cT (.t 36)),
 Mv 38 37,
 oG 39 (some (38, false)) (.mov (.t 0)),
 oG 40 (some (38, false)) (.mov (.t 6)),
 oG 41 (some (38, false)) (.iaddr 3 (.t 39) (.t 40)),
 oG 42 (some (38, false)) (.faddr 2 (.t 41)),
 oG 43 (some (38, false)) (.load false 1 (.t 42)),
 oG 44 (some (38, false)) (.len .slice (.t 43)),
 oG 45 (some (38, false)) (.bin .gtr .val (.t 44) cZ),
 oN 46 (.pick (.t 38) cT (.t 45))] [46] false)
 (.cond (.t 46)
 (.region [Mv 47 8,
 oN 48 (.bin .add .val (.t 47) cO),
 Mv 8 48] [8] false)
 .skip))
 (.region [Mv 49 4,
 Mv 50 7,
 oN 51 (.bin .add .val (.t 49) (.t 50)),
 oN 52 (.bin .add .val (.t 51) cO),
 Mv 53 5,
 Mv 54 8,
 oN 55 (.mm .max [.t 53, .t 54]),
 Mv 4 52,
 Mv 5 55] [4, 5] false))))
 (.region [Mv 13 6,
 oN 14 (.bin .add .val (.t 13) cO),
 Mv 6 14] [6] false)))
def rK : ae :=
 (.seq
 (.region [oN 2 (.mov cZ),
 oN 3 (.mov cZ)] [2, 3] false)
 (.seq
 (.region [oN 4 (.mov cZ),
 oN 5 (.mov cZ)] [4, 5] false)
 (.seq
 (.seq
 (.region [oN 6 (.mov cZ)] [6] false)
 (.block 0
 (.loop [2, 3, 7, 8, 12, 46] ed)))
 (.seq
 (.region [Mv 56 4,
 Mv 57 5,
 Mv 2 56,
 Mv 3 57] [2, 3] false)
 .ret))))
def mS : bS := ⟨1, rK, [.t 2, .t 3], .pure⟩
def At : List Nat := [0, 2, 3, 4, 5, 6, 7, 8, 12, 46]
def ee : ae :=
 (.seq
 (.seq
 (.region [Mv 6 5,
 Mv 7 0,
 oN 8 (.len .slice (.t 7)),
 oN 9 (.bin .lss .val (.t 6) (.t 8))] [9] false)
 (.cond (.t 9)
 .skip
 (.exit 0)))
 (.seq
 (.block 1
 (.seq
 (.region [Mv 12 0,
 Mv 13 5,
 Ia 14 3 12 13,
 oN 15 (.load true 3 (.t 14)),
 Ca 16 jB [.t 15],
 oN 17 (.un .not (.t 16)),
 Mv 18 17,
 oG 19 (some (18, false)) (.mov (.t 0)),
 oG 20 (some (18, false)) (.mov (.t 5)),
 oG 21 (some (18, false)) (.iaddr 3 (.t 19) (.t 20)),
 oG 22 (some (18, false)) (.faddr 0 (.t 21)),
 oG 23 (some (18, false)) (.load false 1 (.t 22)),
 oG 24 (some (18, false)) (.mov (.t 1)),
 oG 25 (some (18, false)) (.bin .gtr .val (.t 23) (.t 24)),
 oN 26 (.pick (.t 18) cT (.t 25)),
 Mv 27 26,
 oG 28 (some (27, false)) (.mov (.t 0)),
 oG 29 (some (27, false)) (.mov (.t 5)),
 oG 30 (some (27, false)) (.iaddr 3 (.t 28) (.t 29)),
 oG 31 (some (27, false)) (.faddr 2 (.t 30)),
 oG 32 (some (27, false)) (.load false 1 (.t 31)),
 oG 33 (some (27, false)) (.mov (.t 1)),
 oG 34 (some (27, false)) (.call (.c (.fn eG [] [])) [.t 32, .t 33]),
 oG 35 (some (27, false)) (.un .not (.t 34)),
 oN 36 (.pick (.t 27) cT (.t 35))] [36] false)
 (.cond (.t 36)
 (.seq
 (.region [oN 4 (.mov cF)] [4] false)
 .ret)
 .skip)))
 (.region [Mv 10 5,
 oN 11 (.bin .add .val (.t 10) cO),
 Mv 5 11] [5] false)))
def rL : ae :=
 (.seq
 (.region [oN 4 (.mov cF)] [4] false)
 (.seq
 (.seq
 (.region [oN 5 (.mov cZ)] [5] false)
 (.block 0
 (.loop [4, 9, 36] ee)))
 (.seq
 (.region [oN 4 (.mov cT)] [4] false)
 .ret)))
def mT : bS := ⟨2, rL, [.t 4], .pure⟩
def Av : List Nat := [0, 1, 4, 5, 9, 36]
def fL : ae :=
 (.seq
 (.seq
 (.region [Mv 7 6,
 Mv 8 0,
 oN 9 (.len .slice (.t 8)),
 oN 10 (.bin .lss .val (.t 7) (.t 9))] [10] false)
 (.cond (.t 10)
 .skip
 (.exit 0)))
 (.seq
 (.block 1
 (.seq
 (.region [Mv 13 0,
 Mv 14 6,
 Ia 15 3 13 14,
 Fa 16 0 15,
 Ld 17 1 16,
 oN 18 (.bin .eql .val (.t 17) (.c (.int .i64 7))),
 Mv 19 18,
 oG 20 (some (19, true)) (.mov (.t 1)),
 oG 21 (some (19, true)) (.mov (.t 0)),
 oG 22 (some (19, true)) (.mov (.t 6)),
 oG 23 (some (19, true)) (.iaddr 3 (.t 21) (.t 22)),
 oG 24 (some (19, true)) (.load true 3 (.t 23)),
 oG 25 (some (19, true)) (.call (.c (.fn eE [] [])) [.t 24]),
 oG 26 (some (19, true)) (.call (.c (.fn fp [] [])) [.t 20, .t 25]),
 oG 27 (some (19, true)) (.un .not (.t 26)),
 oN 28 (.pick (.t 19) (.t 27) cF)] [28] false)
 (.cond (.t 28)
 (.region [Mv 29 5,
 oN 30 (.bin .add .val (.t 29) cO),
 Mv 5 30] [5] false)
 .skip)))
 (.region [Mv 11 6,
 oN 12 (.bin .add .val (.t 11) cO),
 Mv 6 12] [6] false)))
def rM : ae :=
 (.seq
 (.region [oN 4 (.mov cZ)] [4] false)
 (.seq
 (.region [oN 5 (.mov cZ)] [5] false)
 (.seq
 (.seq
 (.region [oN 6 (.mov cZ)] [6] false)
 (.block 0
 (.loop [4, 10, 28] fL)))
 (.seq
 (.region [Mv 31 5,
 Mv 4 31] [4] false)
 .ret))))
def mU : bS := ⟨2, rM, [.t 4], .pure⟩
def Aw : List Nat := [0, 1, 4, 5, 6, 10, 28]
def bO : ae :=
 (.seq
 (.seq
 (.region [Mv 25 5,
 Fa 26 3 1,
 Ld 27 1 26,
 oN 28 (.len .slice (.t 27)),
 oN 29 (.bin .lss .val (.t 25) (.t 28))] [29] false)
 (.cond (.t 29)
 .skip
 (.exit 2)))
 (.seq
 (.block 3
 (.seq
 (.region [Fa 32 3 1,
 Ld 33 1 32,
 Mv 34 5,
 Ia 35 8 33 34,
 oN 36 (.load true 8 (.t 35)),
 oN 6 (.alloc [.int .i64 0, .int .i64 0, .int .i64 0, .int .i64 0, .str [], .sl .nil 3 [], .sl .nil 3 [], .int .i64 0]),
 oU (.store 8 (.t 6) (.t 36))] [6] false)
 (.seq
 (.region [Mv 37 3,
 Fa 38 0 6,
 Ld 39 1 38,
 Ia 40 1 37 39,
 Ld 41 1 40,
 oN 42 (.un .not (.t 41)),
 Mv 43 42,
 oG 44 (some (43, true)) (.mov (.t 3)),
 oG 45 (some (43, true)) (.faddr 1 (.t 6)),
 oG 46 (some (43, true)) (.load false 1 (.t 45)),
 oG 47 (some (43, true)) (.iaddr 1 (.t 44) (.t 46)),
 oG 48 (some (43, true)) (.load false 1 (.t 47)),
 oN 49 (.pick (.t 43) (.t 48) cF),
 Mv 50 49,
 oG 51 (some (50, true)) (.load true 8 (.t 6)),
 oG 52 (some (50, true)) (.call (.c (.fn dQ [] [])) [.t 51]),
 oN 53 (.pick (.t 50) (.t 52) cF),
 Mv 54 53,
 oG 55 (some (54, true)) (.faddr 2 (.t 6)),
 oG 56 (some (54, true)) (.load false 1 (.t 55)),
 oG 57 (some (54, true)) (.bin .neq .val (.t 56) (.c (.int .i64 5))),
 oG 58 (some (54, true)) (.mov (.t 57)),
 oG 59 (some (58, false)) (.mov (.t 3)),
 oG 60 (some (58, false)) (.faddr 7 (.t 6)),
 oG 61 (some (58, false)) (.load false 1 (.t 60)),
 oG 62 (some (58, false)) (.iaddr 1 (.t 59) (.t 61)),
 oG 63 (some (58, false)) (.load false 1 (.t 62)),
 oG 64 (some (54, true)) (.pick (.t 58) cT (.t 63)),
 oN 65 (.pick (.t 54) (.t 64) cF)] [65] false)
 (.cond (.t 65)
 (.seq
 (.region [Mv 66 3,
 Fa 67 0 6,
 Ld 68 1 67,
 Ia 69 1 66 68,
 oU (.store 1 (.t 69) cT)] [] false)
 (.region [oN 4 (.mov cT)] [4] false))
 .skip))))
 (.region [Mv 30 5,
 oN 31 (.bin .add .val (.t 30) cO),
 Mv 5 31] [5] false)))
def ju : ae :=
 (.seq
 (.seq
 (.region [Mv 24 4] [24] false)
 (.cond (.t 24)
 .skip
 (.exit 0)))
 (.block 1
 (.seq
 (.region [oN 4 (.mov cF)] [4] false)
 (.seq
 (.region [oN 5 (.mov cZ)] [5] false)
 (.block 2
 (.loop [0, 6, 7, 8, 9, 10, 11, 12, 13, 14, 15, 16, 17, 18, 19, 20, 21, 24, 29, 65, 75, 85, 124, 129, 168, 175, 186, 198, 218, 228, 246, 266, 281, 292, 306] bO))))))
def dp : ae :=
 (.seq
 (.seq
 (.region [Mv 81 8,
 Fa 82 3 1,
 Ld 83 1 82,
 oN 84 (.len .slice (.t 83)),
 oN 85 (.bin .lss .val (.t 81) (.t 84))] [85] false)
 (.cond (.t 85)
 .skip
 (.exit 4)))
 (.seq
 (.block 5
 (.seq
 (.region [Fa 88 3 1,
 Ld 89 1 88,
 Mv 90 8,
 Ia 91 8 89 90,
 oN 92 (.load true 8 (.t 91)),
 oN 9 (.alloc [.int .i64 0, .int .i64 0, .int .i64 0, .int .i64 0, .str [], .sl .nil 3 [], .sl .nil 3 [], .int .i64 0]),
 oU (.store 8 (.t 9) (.t 92))] [9] false)
 (.region [Mv 93 7,
 Mv 94 8,
 Mv 95 3,
 Fa 96 1 9,
 Ld 97 1 96,
 Ia 98 1 95 97,
 Ld 99 1 98,
 Mv 100 99,
 oG 101 (some (100, true)) (.load true 8 (.t 9)),
 oG 102 (some (100, true)) (.call (.c (.fn dQ [] [])) [.t 101]),
 oN 103 (.pick (.t 100) (.t 102) cF),
 Mv 104 103,
 oG 105 (some (104, true)) (.faddr 2 (.t 9)),
 oG 106 (some (104, true)) (.load false 1 (.t 105)),
 oG 107 (some (104, true)) (.bin .neq .val (.t 106) (.c (.int .i64 5))),
 oG 108 (some (104, true)) (.mov (.t 107)),
 oG 109 (some (108, false)) (.mov (.t 3)),
 oG 110 (some (108, false)) (.faddr 7 (.t 9)),
 oG 111 (some (108, false)) (.load false 1 (.t 110)),
 oG 112 (some (108, false)) (.iaddr 1 (.t 109) (.t 111)),
 oG 113 (some (108, false)) (.load false 1 (.t 112)),
 oG 114 (some (104, true)) (.pick (.t 108) cT (.t 113)),
 oN 115 (.pick (.t 104) (.t 114) cF),
 Ia 116 1 93 94,
 oU (.store 1 (.t 116) (.t 115))] [] false)))
 (.region [Mv 86 8,
 oN 87 (.bin .add .val (.t 86) cO),
 Mv 8 87] [8] false)))
def bv : ae :=
 (.seq
 (.seq
 (.region [Mv 125 12,
 Fa 126 3 1,
 Ld 127 1 126,
 oN 128 (.len .slice (.t 127)),
 oN 129 (.bin .lss .val (.t 125) (.t 128))] [129] false)
 (.cond (.t 129)
 .skip
 (.exit 8)))
 (.seq
 (.block 9
 (.seq
 (.region [Fa 132 3 1,
 Ld 133 1 132,
 Mv 134 12,
 Ia 135 8 133 134,
 oN 136 (.load true 8 (.t 135)),
 oN 13 (.alloc [.int .i64 0, .int .i64 0, .int .i64 0, .int .i64 0, .str [], .sl .nil 3 [], .sl .nil 3 [], .int .i64 0]),
 oU (.store 8 (.t 13) (.t 136))] [13] false)
 (.seq
 (.region [Mv 137 7,
 Mv 138 12,
 Ia 139 1 137 138,
 Ld 140 1 139,
 Mv 141 140,
 oG 142 (some (141, true)) (.mov (.t 10)),
 oG 143 (some (141, true)) (.faddr 0 (.t 13)),
 oG 144 (some (141, true)) (.load false 1 (.t 143)),
 oG 145 (some (141, true)) (.iaddr 1 (.t 142) (.t 144)),
 oG 146 (some (141, true)) (.load false 1 (.t 145)),
 oN 147 (.pick (.t 141) (.t 146) cF),
 Mv 148 147,
 oG 149 (some (148, true)) (.mov (.t 10)),
 oG 150 (some (148, true)) (.faddr 1 (.t 13)),
 oG 151 (some (148, true)) (.load false 1 (.t 150)),
 oG 152 (some (148, true)) (.iaddr 1 (.t 149) (.t 151)),
 oG 153 (some (148, true)) (.load false 1 (.t 152)),
 oG 154 (some (148, true)) (.un .not (.t 153)),
 oG 155 (some (148, true)) (.mov (.t 154)),
 oG 156 (some (155, false)) (.faddr 2 (.t 13)),
 oG 157 (some (155, false)) (.load false 1 (.t 156)),
 oG 158 (some (155, false)) (.bin .eql .val (.t 157) (.c (.int .i64 5))),
 oG 159 (some (155, false)) (.mov (.t 158)),
 oG 160 (some (159, true)) (.mov (.t 10)),
 oG 161 (some (159, true)) (.faddr 7 (.t 13)),
 oG 162 (some (159, true)) (.load false 1 (.t 161)),
 oG 163 (some (159, true)) (.iaddr 1 (.t 160) (.t 162)),
 oG 164 (some (159, true)) (.load false 1 (.t 163)),
 oG 165 (some (159, true)) (.un .not (.t 164)),
 oG 166 (some (155, false)) (.pick (.t 159) (.t 165) cF),
 oG 167 (some (148, true)) (.pick (.t 155) cT (.t 166)),
 oN 168 (.pick (.t 148) (.t 167) cF)] [168] false)
 (.cond (.t 168)
 (.seq
 (.region [Mv 169 10,
 Fa 170 1 13,
 Ld 171 1 170,
 Ia 172 1 169 171,
 oU (.store 1 (.t 172) cT)] [] false)
 (.seq
 (.seq
 (.region [Fa 173 2 13,
 Ld 174 1 173,
 oN 175 (.bin .eql .val (.t 174) (.c (.int .i64 5)))] [175] false)
 (.cond (.t 175)
 (.region [Mv 176 10,
 Fa 177 7 13,
 Ld 178 1 177,
 Ia 179 1 176 178,
 oU (.store 1 (.t 179) cT)] [] false)
 .skip))
 (.region [oN 11 (.mov cT)] [11] false)))
 .skip))))
 (.region [Mv 130 12,
 oN 131 (.bin .add .val (.t 130) cO),
 Mv 12 131] [12] false)))
def jv : ae :=
 (.seq
 (.seq
 (.region [Mv 124 11] [124] false)
 (.cond (.t 124)
 .skip
 (.exit 6)))
 (.block 7
 (.seq
 (.region [oN 11 (.mov cF)] [11] false)
 (.seq
 (.region [oN 12 (.mov cZ)] [12] false)
 (.block 8
 (.loop [0, 4, 5, 6, 8, 9, 13, 14, 15, 16, 17, 18, 19, 20, 21, 24, 29, 65, 75, 85, 124, 129, 168, 175, 186, 198, 218, 228, 246, 266, 281, 292, 306] bv))))))
def ef : ae :=
 (.seq
 (.seq
 (.region [Mv 183 16,
 Fa 184 0 1,
 Ld 185 1 184,
 oN 186 (.bin .lss .val (.t 183) (.t 185))] [186] false)
 (.cond (.t 186)
 .skip
 (.exit 10)))
 (.seq
 (.block 11
 (.seq
 (.region [Mv 189 10,
 Mv 190 16,
 Ia 191 1 189 190,
 Ld 192 1 191,
 Mv 193 192,
 oG 194 (some (193, true)) (.mov (.t 3)),
 oG 195 (some (193, true)) (.mov (.t 16)),
 oG 196 (some (193, true)) (.iaddr 1 (.t 194) (.t 195)),
 oG 197 (some (193, true)) (.load false 1 (.t 196)),
 oN 198 (.pick (.t 193) (.t 197) cF)] [198] false)
 (.cond (.t 198)
 (.seq
 (.region [Mv 199 14,
 Mv 200 16,
 Fa 201 0 15,
 Ld 202 1 201,
 Ia 203 1 199 200,
 oU (.store 1 (.t 203) (.t 202))] [] false)
 (.region [Fa 204 0 15,
 Ld 205 1 204,
 oN 206 (.bin .add .val (.t 205) cO),
 Fa 207 0 15,
 oU (.store 1 (.t 207) (.t 206))] [] false))
 .skip)))
 (.region [Mv 187 16,
 oN 188 (.bin .add .val (.t 187) cO),
 Mv 16 188] [16] false)))
def fM : ae :=
 (.seq
 (.seq
 (.region [Mv 214 17,
 Fa 215 2 1,
 Ld 216 1 215,
 oN 217 (.len .slice (.t 216)),
 oN 218 (.bin .lss .val (.t 214) (.t 217))] [218] false)
 (.cond (.t 218)
 .skip
 (.exit 12)))
 (.seq
 (.block 13
 (.seq
 (.region [Mv 221 10,
 Fa 222 2 1,
 Ld 223 1 222,
 Mv 224 17,
 Ia 225 1 223 224,
 Ld 226 1 225,
 Ia 227 1 221 226,
 Ld 228 1 227] [228] false)
 (.cond (.t 228)
 (.region [Fa 229 2 15,
 Ld 230 1 229,
 Mv 231 14,
 Fa 232 2 1,
 Ld 233 1 232,
 Mv 234 17,
 Ia 235 1 233 234,
 Ld 236 1 235,
 Ia 237 1 231 236,
 Ld 238 1 237,
 oN 239 (.bslice 1 [.int .i64 0] 1 [(0, (.t 238))]),
 oN 240 (.app 1 (.t 230) (.t 239)),
 Fa 241 2 15,
 oU (.store 1 (.t 241) (.t 240))] [] true)
 .skip)))
 (.region [Mv 219 17,
 oN 220 (.bin .add .val (.t 219) cO),
 Mv 17 220] [17] false)))
def fN : ae :=
 (.seq
 (.seq
 (.region [Mv 288 21,
 Fa 289 3 15,
 Ld 290 1 289,
 oN 291 (.len .slice (.t 290)),
 oN 292 (.bin .lss .val (.t 288) (.t 291))] [292] false)
 (.cond (.t 292)
 .skip
 (.exit 16)))
 (.seq
 (.block 17
 (.region [Mv 295 20,
 Mv 296 295,
 oG 297 (some (296, false)) (.faddr 3 (.t 15)),
 oG 298 (some (296, false)) (.load false 1 (.t 297)),
 oG 299 (some (296, false)) (.mov (.t 21)),
 oG 300 (some (296, false)) (.iaddr 8 (.t 298) (.t 299)),
 oG 301 (some (296, false)) (.load true 8 (.t 300)),
 oG 302 (some (296, false)) (.load true 8 (.t 19)),
 ⟨(some 303), .call (.c (.fn fU [] [])) [.t 301, .t 302], (some (296, false)), [], true⟩,
 oN 304 (.pick (.t 296) cT (.t 303)),
 Mv 20 304] [20] true))
 (.region [Mv 293 21,
 oN 294 (.bin .add .val (.t 293) cO),
 Mv 21 294] [21] false)))
def dq : ae :=
 (.seq
 (.seq
 (.region [Mv 242 18,
 Fa 243 3 1,
 Ld 244 1 243,
 oN 245 (.len .slice (.t 244)),
 oN 246 (.bin .lss .val (.t 242) (.t 245))] [246] false)
 (.cond (.t 246)
 .skip
 (.exit 14)))
 (.seq
 (.block 15
 (.seq
 (.region [Fa 249 3 1,
 Ld 250 1 249,
 Mv 251 18,
 Ia 252 8 250 251,
 oN 253 (.load true 8 (.t 252)),
 oN 19 (.alloc [.int .i64 0, .int .i64 0, .int .i64 0, .int .i64 0, .str [], .sl .nil 3 [], .sl .nil 3 [], .int .i64 0]),
 oU (.store 8 (.t 19) (.t 253))] [19] false)
 (.seq
 (.seq
 (.region [Mv 254 7,
 Mv 255 18,
 Ia 256 1 254 255,
 Ld 257 1 256,
 oN 258 (.un .not (.t 257)),
 Mv 259 258,
 oG 260 (some (259, false)) (.mov (.t 10)),
 oG 261 (some (259, false)) (.faddr 0 (.t 19)),
 oG 262 (some (259, false)) (.load false 1 (.t 261)),
 oG 263 (some (259, false)) (.iaddr 1 (.t 260) (.t 262)),
 oG 264 (some (259, false)) (.load false 1 (.t 263)),
 oG 265 (some (259, false)) (.un .not (.t 264)),
 oN 266 (.pick (.t 259) cT (.t 265))] [266] false)
 (.cond (.t 266)
 (.exit 15)
 .skip))
 (.seq
 (.region [Mv 267 14,
 Fa 268 0 19,
 Ld 269 1 268,
 Ia 270 1 267 269,
 Ld 271 1 270,
 Mv 272 14,
 Fa 273 1 19,
 Ld 274 1 273,
 Ia 275 1 272 274,
 ⟨(some 276), .load false 1 (.t 275), none, [⟨false, 1, .t 14, none⟩], false⟩,
 Fa 277 0 19,
 ⟨none, .store 1 (.t 277) (.t 271), none, [⟨false, 1, .t 14, none⟩], false⟩,
 Fa 278 1 19,
 oU (.store 1 (.t 278) (.t 276))] [] true)
 (.seq
 (.seq
 (.region [Fa 279 2 19,
 Ld 280 1 279,
 oN 281 (.bin .eql .val (.t 280) (.c (.int .i64 5)))] [281] false)
 (.cond (.t 281)
 (.region [Mv 282 14,
 Fa 283 7 19,
 Ld 284 1 283,
 Ia 285 1 282 284,
 Ld 286 1 285,
 Fa 287 7 19,
 oU (.store 1 (.t 287) (.t 286))] [] false)
 .skip))
 (.seq
 (.region [oN 20 (.mov cF)] [20] false)
 (.seq
 (.seq
 (.region [oN 21 (.mov cZ)] [21] false)
 (.block 16
 (.loop [0, 3, 4, 5, 6, 8, 9, 11, 12, 13, 16, 17, 24, 29, 65, 75, 85, 124, 129, 168, 175, 186, 198, 218, 228, 246, 266, 281, 292, 306] fN)))
 (.seq
 (.region [Mv 305 20,
 oN 306 (.un .not (.t 305))] [306] false)
 (.cond (.t 306)
 (.region [Fa 307 3 15,
 Ld 308 1 307,
 Fa 309 0 19,
 Ld 310 1 309,
 Fa 311 1 19,
 Ld 312 1 311,
 Fa 313 2 19,
 Ld 314 1 313,
 Fa 315 3 19,
 oN 316 (.load true 3 (.t 315)),
 Fa 317 6 19,
 Ld 318 1 317,
 oM 319 (.call (.c (.fn dG [] [])) [.t 318]),
 Fa 320 7 19,
 Ld 321 1 320,
 oN 322 (.build [.int .i64 0, .int .i64 0, .int .i64 0, .int .i64 0, .str [], .sl .nil 3 [], .sl .nil 3 [], .int .i64 0] [(0, 1, (.t 310)), (1, 1, (.t 312)), (2, 1, (.t 314)), (3, 3, (.t 316)), (6, 1, (.t 319)), (7, 1, (.t 321))]),
 oN 323 (.bslice 8 [.int .i64 0, .int .i64 0, .int .i64 0, .int .i64 0, .str [], .sl .nil 3 [], .sl .nil 3 [], .int .i64 0] 1 [(0, (.t 322))]),
 oN 324 (.app 8 (.t 308) (.t 323)),
 Fa 325 3 15,
 oU (.store 1 (.t 325) (.t 324))] [] true)
 .skip)))))))))
 (.region [Mv 247 18,
 oN 248 (.bin .add .val (.t 247) cO),
 Mv 18 248] [18] false)))
def rP : ae :=
 (.seq
 (.region [oN 1 (.box 4 (.t 0)),
 oN 2 (.alloc [.int .i64 0, .int .i64 0, .sl .nil 1 [], .sl .nil 8 []])] [1, 2] false)
 (.seq
 (.region [oN 22 (.load true 4 (.t 1)),
 Ca 23 iN [.t 22],
 Mv 3 23] [3] false)
 (.seq
 (.seq
 (.region [oN 4 (.mov cT)] [4] false)
 (.block 0
 (.loop [0, 5, 6, 7, 8, 9, 10, 11, 12, 13, 14, 15, 16, 17, 18, 19, 20, 21, 24, 29, 65, 75, 85, 124, 129, 168, 175, 186, 198, 218, 228, 246, 266, 281, 292, 306] ju)))
 (.seq
 (.seq
 (.region [Mv 70 3,
 Fa 71 1 1,
 Ld 72 1 71,
 Ia 73 1 70 72,
 Ld 74 1 73,
 oN 75 (.un .not (.t 74))] [75] false)
 (.cond (.t 75)
 (.seq
 (.region [oN 76 (.build [.int .i64 0, .int .i64 0, .sl .nil 1 [], .sl .nil 8 []] [(0, 1, cO)]),
 oU (.store 4 (.t 2) (.t 76))] [] false)
 .ret)
 .skip))
 (.seq
 (.region [Fa 77 3 1,
 Ld 78 1 77,
 oN 79 (.len .slice (.t 78)),
 oN 80 (.mkms 1 [.bool false] (.t 79) (.t 79)),
 Mv 7 80] [7] false)
 (.seq
 (.seq
 (.region [oN 8 (.mov cZ)] [8] false)
 (.block 4
 (.loop [0, 4, 5, 6, 9, 10, 11, 12, 13, 14, 15, 16, 17, 18, 19, 20, 21, 24, 29, 65, 75, 85, 124, 129, 168, 175, 186, 198, 218, 228, 246, 266, 281, 292, 306] dp)))
 (.seq
 (.region [Fa 117 0 1,
 Ld 118 1 117,
 oN 119 (.mkms 1 [.bool false] (.t 118) (.t 118)),
 Mv 10 119] [10] false)
 (.seq
 (.region [Mv 120 10,
 Fa 121 1 1,
 Ld 122 1 121,
 Ia 123 1 120 122,
 oU (.store 1 (.t 123) cT)] [] false)
 (.seq
 (.seq
 (.region [oN 11 (.mov cT)] [11] false)
 (.block 6
 (.loop [0, 4, 5, 6, 8, 9, 12, 13, 14, 15, 16, 17, 18, 19, 20, 21, 24, 29, 65, 75, 85, 124, 129, 168, 175, 186, 198, 218, 228, 246, 266, 281, 292, 306] jv)))
 (.seq
 (.region [Fa 180 0 1,
 Ld 181 1 180,
 oN 182 (.mkms 1 [.int .i64 0] (.t 181) (.t 181)),
 Mv 14 182] [14] false)
 (.seq
 (.region [oN 15 (.alloc [.int .i64 0, .int .i64 0, .sl .nil 1 [], .sl .nil 8 []])] [15] false)
 (.seq
 (.seq
 (.region [oN 16 (.mov cZ)] [16] false)
 (.block 10
 (.loop [0, 4, 5, 6, 8, 9, 11, 12, 13, 17, 18, 19, 20, 21, 24, 29, 65, 75, 85, 124, 129, 168, 175, 186, 198, 218, 228, 246, 266, 281, 292, 306] ef)))
 (.seq
 (.region [Mv 208 14,
 Fa 209 1 1,
 Ld 210 1 209,
 Ia 211 1 208 210,
 Ld 212 1 211,
 Fa 213 1 15,
 oU (.store 1 (.t 213) (.t 212))] [] false)
 (.seq
 (.seq
 (.region [oN 17 (.mov cZ)] [17] false)
 (.block 12
 (.loop [0, 3, 4, 5, 6, 8, 9, 11, 12, 13, 16, 18, 19, 20, 21, 24, 29, 65, 75, 85, 124, 129, 168, 175, 186, 198, 218, 228, 246, 266, 281, 292, 306] fM)))
 (.seq
 (.seq
 (.region [oN 18 (.mov cZ)] [18] false)
 (.block 14
 (.loop [0, 3, 4, 5, 6, 8, 9, 11, 12, 13, 16, 17, 19, 20, 21, 24, 29, 65, 75, 85, 124, 129, 168, 175, 186, 198, 218, 228, 246, 266, 281, 292, 306] dq)))
 (.seq
 (.region [oN 326 (.load true 4 (.t 15)),
 oU (.store 4 (.t 2) (.t 326))] [] false)
 .ret))))))))))))))))
def mW : bS := ⟨1, rP, [.cell 2 true 4], .pure⟩
def AC : List Nat := [0, 1, 2, 3, 4, 5, 6, 7, 8, 9, 10, 11, 12, 13, 14, 15, 16, 17, 18, 19, 20, 21, 24, 29, 65, 75, 85, 124, 129, 168, 175, 186, 198, 218, 228, 246, 266, 281, 292, 306]
def ra : ae :=
 (.seq
 (.region [oN 2 (.box 4 (.t 0)),
 oN 4 (.mov cF)] [2, 4] false)
 (.seq
 (.region [Mv 5 1,
 oN 6 (.bin .geq .val (.t 5) cZ),
 Mv 7 6,
 oG 8 (some (7, true)) (.mov (.t 1)),
 oG 9 (some (7, true)) (.faddr 0 (.t 2)),
 oG 10 (some (7, true)) (.load false 1 (.t 9)),
 oG 11 (some (7, true)) (.bin .lss .val (.t 8) (.t 10)),
 oN 12 (.pick (.t 7) (.t 11) cF),
 Mv 4 12] [4] false)
 .ret))
def jp : bS := ⟨2, ra, [.t 4], .pure⟩
def za : List Nat := [0, 1, 2, 4]
def bA : ae :=
 (.seq
 (.seq
 (.region [Mv 62 5,
 Fa 63 6 3,
 Ld 64 1 63,
 oN 65 (.len .slice (.t 64)),
 oN 66 (.bin .lss .val (.t 62) (.t 65))] [66] false)
 (.cond (.t 66)
 .skip
 (.exit 0)))
 (.seq
 (.block 1
 (.seq
 (.region [Fa 69 6 3,
 Ld 70 1 69,
 Mv 71 5,
 Ia 72 3 70 71,
 oN 73 (.load true 3 (.t 72)),
 oM 74 (.call (.c (.fn dO [] [])) [.t 73]),
 oN 75 (.un .not (.t 74)),
 Mv 76 75,
 oG 77 (some (76, false)) (.faddr 6 (.t 3)),
 oG 78 (some (76, false)) (.load false 1 (.t 77)),
 oG 79 (some (76, false)) (.mov (.t 5)),
 oG 80 (some (76, false)) (.iaddr 3 (.t 78) (.t 79)),
 oG 81 (some (76, false)) (.faddr 0 (.t 80)),
 oG 82 (some (76, false)) (.load false 1 (.t 81)),
 oG 83 (some (76, false)) (.faddr 2 (.t 3)),
 oG 84 (some (76, false)) (.load false 1 (.t 83)),
 ⟨(some 85), .call (.c (.fn fi [] [])) [.t 84], (some (76, false)), [], true⟩,
 oG 86 (some (76, false)) (.bin .neq .val (.t 82) (.t 85)),
 oN 87 (.pick (.t 76) cT (.t 86)),
 Mv 88 87,
 oG 89 (some (88, false)) (.mov (.t 5)),
 oG 90 (some (88, false)) (.bin .gtr .val (.t 89) cZ),
 oG 91 (some (88, false)) (.mov (.t 90)),
 oG 92 (some (91, true)) (.faddr 6 (.t 3)),
 oG 93 (some (91, true)) (.load false 1 (.t 92)),
 oG 94 (some (91, true)) (.mov (.t 5)),
 oG 95 (some (91, true)) (.bin .sub .val (.t 94) cO),
 oG 96 (some (91, true)) (.iaddr 3 (.t 93) (.t 95)),
 oG 97 (some (91, true)) (.load true 3 (.t 96)),
 oG 98 (some (91, true)) (.faddr 6 (.t 3)),
 oG 99 (some (91, true)) (.load false 1 (.t 98)),
 oG 100 (some (91, true)) (.mov (.t 5)),
 oG 101 (some (91, true)) (.iaddr 3 (.t 99) (.t 100)),
 oG 102 (some (91, true)) (.load true 3 (.t 101)),
 ⟨(some 103), .call (.c (.fn cK [] [])) [.t 97, .t 102], (some (91, true)), [], true⟩,
 oG 104 (some (91, true)) (.bin .geq .val (.t 103) cZ),
 oG 105 (some (88, false)) (.pick (.t 91) (.t 104) cF),
 oN 106 (.pick (.t 88) cT (.t 105))] [106] true)
 (.cond (.t 106)
 (.seq
 (.region [oN 4 (.mov cF)] [4] false)
 .ret)
 .skip)))
 (.region [Mv 67 5,
 oN 68 (.bin .add .val (.t 67) cO),
 Mv 5 68] [5] false)))
def aF : ae :=
 (.seq
 (.region [oN 2 (.box 4 (.t 0)),
 oN 3 (.box 8 (.t 1)),
 oN 4 (.mov cF)] [2, 3, 4] false)
 (.seq
 (.seq
 (.region [oN 6 (.load true 4 (.t 2)),
 Fa 7 0 3,
 Ld 8 1 7,
 Ca 9 bP [.t 6, .t 8],
 oN 10 (.un .not (.t 9)),
 Mv 11 10,
 oG 12 (some (11, false)) (.load true 4 (.t 2)),
 oG 13 (some (11, false)) (.faddr 1 (.t 3)),
 oG 14 (some (11, false)) (.load false 1 (.t 13)),
 oG 15 (some (11, false)) (.call (.c (.fn bP [] [])) [.t 12, .t 14]),
 oG 16 (some (11, false)) (.un .not (.t 15)),
 oN 17 (.pick (.t 11) cT (.t 16)),
 Mv 18 17,
 oG 19 (some (18, false)) (.faddr 2 (.t 3)),
 oG 20 (some (18, false)) (.load false 1 (.t 19)),
 oG 21 (some (18, false)) (.bin .lss .val (.t 20) cO),
 oN 22 (.pick (.t 18) cT (.t 21)),
 Mv 23 22,
 oG 24 (some (23, false)) (.faddr 2 (.t 3)),
 oG 25 (some (23, false)) (.load false 1 (.t 24)),
 oG 26 (some (23, false)) (.bin .gtr .val (.t 25) (.c (.int .i64 5))),
 oN 27 (.pick (.t 23) cT (.t 26))] [27] false)
 (.cond (.t 27)
 (.seq
 (.region [oN 4 (.mov cF)] [4] false)
 .ret)
 .skip))
 (.seq
 (.seq
 (.region [Fa 28 2 3,
 Ld 29 1 28,
 oN 30 (.bin .eql .val (.t 29) cO),
 Mv 31 30,
 oG 32 (some (31, true)) (.faddr 3 (.t 3)),
 oG 33 (some (31, true)) (.load true 3 (.t 32)),
 oG 34 (some (31, true)) (.call (.c (.fn dO [] [])) [.t 33]),
 oG 35 (some (31, true)) (.un .not (.t 34)),
 oN 36 (.pick (.t 31) (.t 35) cF),
 Mv 37 36,
 oG 38 (some (37, false)) (.faddr 2 (.t 3)),
 oG 39 (some (37, false)) (.load false 1 (.t 38)),
 oG 40 (some (37, false)) (.bin .neq .val (.t 39) cO),
 oG 41 (some (37, false)) (.mov (.t 40)),
 oG 42 (some (41, true)) (.faddr 3 (.t 3)),
 oG 43 (some (41, true)) (.load true 3 (.t 42)),
 oG 44 (some (41, true)) (.call (.c (.fn j8 [] [])) [.t 43]),
 oG 45 (some (41, true)) (.un .not (.t 44)),
 oG 46 (some (37, false)) (.pick (.t 41) (.t 45) cF),
 oN 47 (.pick (.t 37) cT (.t 46))] [47] false)
 (.cond (.t 47)
 (.seq
 (.region [oN 4 (.mov cF)] [4] false)
 .ret)
 .skip))
 (.seq
 (.seq
 (.region [Fa 48 2 3,
 Ld 49 1 48,
 oN 50 (.bin .eql .val (.t 49) cO),
 Mv 51 50,
 oG 52 (some (51, false)) (.faddr 2 (.t 3)),
 oG 53 (some (51, false)) (.load false 1 (.t 52)),
 oG 54 (some (51, false)) (.bin .eql .val (.t 53) (.c (.int .i64 5))),
 oN 55 (.pick (.t 51) cT (.t 54)),
 Mv 56 55,
 oG 57 (some (56, true)) (.faddr 6 (.t 3)),
 oG 58 (some (56, true)) (.load false 1 (.t 57)),
 oG 59 (some (56, true)) (.len .slice (.t 58)),
 oG 60 (some (56, true)) (.bin .gtr .val (.t 59) cZ),
 oN 61 (.pick (.t 56) (.t 60) cF)] [61] false)
 (.cond (.t 61)
 (.seq
 (.region [oN 4 (.mov cF)] [4] false)
 .ret)
 .skip))
 (.seq
 (.seq
 (.region [oN 5 (.mov cZ)] [5] false)
 (.block 0
 (.loop [0, 1, 4, 27, 47, 61, 66, 106] bA)))
 (.seq
 (.region [Fa 107 2 3,
 Ld 108 1 107,
 oN 109 (.bin .eql .val (.t 108) (.c (.int .i64 5))),
 Mv 110 109,
 oG 111 (some (110, true)) (.load true 4 (.t 2)),
 oG 112 (some (110, true)) (.faddr 7 (.t 3)),
 oG 113 (some (110, true)) (.load false 1 (.t 112)),
 oG 114 (some (110, true)) (.call (.c (.fn bP [] [])) [.t 111, .t 113]),
 oN 115 (.pick (.t 110) (.t 114) cF),
 Mv 116 115,
 oG 117 (some (116, false)) (.faddr 2 (.t 3)),
 oG 118 (some (116, false)) (.load false 1 (.t 117)),
 oG 119 (some (116, false)) (.bin .neq .val (.t 118) (.c (.int .i64 5))),
 oG 120 (some (116, false)) (.mov (.t 119)),
 oG 121 (some (120, true)) (.faddr 7 (.t 3)),
 oG 122 (some (120, true)) (.load false 1 (.t 121)),
 oG 123 (some (120, true)) (.bin .eql .val (.t 122) cZ),
 oG 124 (some (116, false)) (.pick (.t 120) (.t 123) cF),
 oN 125 (.pick (.t 116) cT (.t 124)),
 Mv 4 125] [4] false)
 .ret))))))
def aJ : bS := ⟨2, aF, [.t 4], .pure⟩
def y9 : List Nat := [0, 1, 2, 3, 4, 5, 27, 47, 61, 66, 106]
def x6 : ae :=
 (.seq
 (.region [oN 1 (.box 3 (.t 0)),
 oN 2 (.mov cF)] [1, 2] false)
 (.seq
 (.region [Fa 3 0 1,
 Ld 4 1 3,
 oN 5 (.bin .geq .val (.t 4) cO),
 Mv 6 5,
 oG 7 (some (6, true)) (.faddr 0 (.t 1)),
 oG 8 (some (6, true)) (.load false 1 (.t 7)),
 oG 9 (some (6, true)) (.bin .leq .val (.t 8) (.c (.int .i64 3))),
 oN 10 (.pick (.t 6) (.t 9) cF),
 Mv 2 10] [2] false)
 .ret))
def sm : bS := ⟨1, x6, [.t 2], .pure⟩
def Fo : List Nat := [0, 1, 2]
def jM : ae :=
 (.seq
 (.region [oN 13 (.bin .lss .val (.t 12) (.t 11))] [13] false)
 (.seq
 (.cond (.t 13)
 .skip
 (.exit 0))
 (.seq
 (.block 1
 (.seq
 (.region [Mv 14 12,
 Mv 5 14] [5] false)
 (.seq
 (.block 2
 (.seq
 (.region [Mv 16 0,
 Mv 17 5,
 Ia 18 3 16 17,
 Fa 19 0 18,
 Ld 20 1 19,
 Mv 21 1,
 Mv 22 5,
 Ia 23 3 21 22,
 Fa 24 0 23,
 Ld 25 1 24,
 oN 26 (.bin .neq .val (.t 20) (.t 25)),
 Mv 15 26] [15] true)
 (.cond (.t 15)
 (.seq
 (.region [Mv 27 0,
 Mv 28 5,
 Ia 29 3 27 28,
 Fa 30 0 29,
 Ld 31 1 30,
 Mv 32 1,
 Mv 33 5,
 Ia 34 3 32 33,
 Fa 35 0 34,
 Ld 36 1 35,
 oM 37 (.call (.c (.fn f9 [] [])) [.t 31, .t 36]),
 Mv 4 37] [4] true)
 .ret)
 (.seq
 (.region [Mv 39 0,
 Mv 40 5,
 Ia 41 3 39 40,
 Fa 42 1 41,
 Ld 43 1 42,
 Mv 44 1,
 Mv 45 5,
 Ia 46 3 44 45,
 Fa 47 1 46,
 Ld 48 1 47,
 oN 49 (.bin .neq .val (.t 43) (.t 48)),
 Mv 38 49] [38] true)
 (.cond (.t 38)
 (.seq
 (.region [Mv 50 0,
 Mv 51 5,
 Ia 52 3 50 51,
 Fa 53 1 52,
 Ld 54 1 53,
 Mv 55 1,
 Mv 56 5,
 Ia 57 3 55 56,
 Fa 58 1 57,
 Ld 59 1 58,
 oM 60 (.call (.c (.fn fW [] [])) [.t 54, .t 59]),
 Mv 4 60] [4] true)
 .ret)
 .skip)))))
 (.seq
 (.region [Mv 61 0,
 Mv 62 5,
 Ia 63 3 61 62,
 Fa 64 2 63,
 Ld 65 1 64,
 Mv 66 1,
 Mv 67 5,
 Ia 68 3 66 67,
 Fa 69 2 68,
 Ld 70 1 69,
 oM 71 (.call (.c (.fn gJ [] [])) [.t 65, .t 70]),
 Mv 6 71] [6] true)
 (.seq
 (.region [Mv 72 6,
 oN 73 (.bin .neq .val (.t 72) cZ)] [73] false)
 (.cond (.t 73)
 (.seq
 (.region [Mv 74 6,
 Mv 4 74] [4] false)
 .ret)
 .skip))))))
 (.region [oN 75 (.bin .add .val (.t 12) cO),
 Mv 12 75] [12] false))))
def zg : ae :=
 (.seq
 (.region [oN 4 (.mov cZ)] [4] false)
 (.seq
 (.seq
 (.region [Mv 7 0,
 oN 8 (.len .slice (.t 7)),
 Mv 9 1,
 oN 10 (.len .slice (.t 9)),
 oN 11 (.mm .min [.t 8, .t 10]),
 oN 12 (.mov cZ)] [11, 12] false)
 (.block 0
 (.loop [4, 5, 6, 13, 15, 38, 73] jM)))
 (.seq
 (.region [Mv 76 0,
 oN 77 (.len .slice (.t 76)),
 Mv 78 1,
 oN 79 (.len .slice (.t 78)),
 Ca 80 f9 [.t 77, .t 79],
 Mv 4 80] [4] false)
 .ret)))
def pL : bS := ⟨2, zg, [.t 4], .pure⟩
def HB : List Nat := [0, 1, 4, 5, 6, 11, 12, 13, 15, 38, 73]
def Cx : ae :=
 (.seq
 (.region [oN 2 (.box 1 (.t 0))] [2] false)
 (.seq
 (.region [oN 3 (.alloc [.nilf])] [3] false)
 (.seq
 (.region [oN 4 (.mkfn qz [] [.t 2, .t 3]),
 oU (.store 1 (.t 3) (.t 4))] [] false)
 (.region [Ld 5 1 3,
 Ld 6 1 1,
 oN 7 (.call (.t 5) [.t 6])] [] false))))
def wM : bS := ⟨2, Cx, [], .eff⟩
def KK : List Nat := [0, 1, 2, 3]
def lT : ae :=
 (.seq
 (.region [oN 10 (.bin .lss .val (.t 9) (.t 8))] [10] false)
 (.seq
 (.cond (.t 10)
 .skip
 (.exit 0))
 (.seq
 (.block 1
 (.seq
 (.region [Ia 11 3 7 9,
 oN 12 (.load true 3 (.t 11)),
 oN 6 (.alloc [.int .i64 0, .str [], .sl .nil 3 []]),
 oU (.store 3 (.t 6) (.t 12))] [6] false)
 (.seq
 (.region [Ld 13 1 1,
 oN 14 (.load true 3 (.t 6)),
 oN 15 (.call (.t 13) [.t 14]),
 oN 16 (.un .not (.t 15)),
 Mv 17 16,
 oG 18 (some (17, false)) (.load false 1 (.t 2)),
 oG 19 (some (17, false)) (.faddr 2 (.t 6)),
 oG 20 (some (17, false)) (.load false 1 (.t 19)),
 oG 21 (some (17, false)) (.call (.t 18) [.t 20]),
 oG 22 (some (17, false)) (.un .not (.t 21)),
 oN 23 (.pick (.t 17) cT (.t 22))] [23] false)
 (.cond (.t 23)
 (.seq
 (.region [oN 4 (.mov cF)] [4] false)
 .ret)
 .skip))))
 (.region [oN 24 (.bin .add .val (.t 9) cO),
 Mv 9 24] [9] false))))
def zi : ae :=
 (.seq
 (.region [oN 4 (.mov cF)] [4] false)
 (.seq
 (.seq
 (.region [Mv 7 0,
 oN 8 (.len .slice (.t 7)),
 oN 9 (.mov cZ)] [7, 8, 9] false)
 (.block 0
 (.loop [0, 4, 6, 10, 23] lT)))
 (.seq
 (.region [oN 4 (.mov cT)] [4] false)
 .ret)))
def tQ : bS := ⟨3, zi, [.t 4], .eff⟩
def HD : List Nat := [0, 1, 2, 4, 6, 7, 8, 9, 10, 23]
def jX : ae :=
 (.seq
 (.region [oN 4 (.mov cF)] [4] false)
 (.seq
 (.region [Mv 5 0,
 oN 6 (.bin .neq .val (.t 5) (.c (.str []))),
 Mv 7 6,
 oG 8 (some (7, true)) (.mov (.t 0)),
 oG 9 (some (7, true)) (.len .str (.t 8)),
 oG 10 (some (7, true)) (.mov (.t 1)),
 oG 11 (some (7, true)) (.bin .leq .val (.t 9) (.t 10)),
 oN 12 (.pick (.t 7) (.t 11) cF),
 Mv 13 12,
 oG 14 (some (13, true)) (.mov (.t 0)),
 oG 15 (some (13, true)) (.index (.t 14) cZ),
 oG 16 (some (13, true)) (.call (.c (.fn ww [] [])) [.t 15, (.c (.int .u8 1))]),
 oN 17 (.pick (.t 13) (.t 16) cF),
 Mv 18 17,
 oG 19 (some (18, true)) (.mov (.t 0)),
 oG 20 (some (18, true)) (.call (.c (.fn nH [] [])) [.t 19, (.c (.int .u8 4))]),
 oN 21 (.pick (.t 18) (.t 20) cF),
 Mv 4 21] [4] false)
 .ret))
def gR : bS := ⟨2, jX, [.t 4], .pure⟩
def Dw : List Nat := [0, 1, 4]
def p6 : ae :=
 (.seq
 (.region [oN 4 (.mov cF)] [4] false)
 (.seq
 (.region [Mv 5 0,
 Mv 6 1,
 Ca 7 kD [.t 5, .t 6],
 oN 8 (.bin .geq .val (.t 7) cZ),
 Mv 4 8] [4] false)
 .ret))
def lB : bS := ⟨2, p6, [.t 4], .pure⟩
def xX : List Nat := [0, 1, 4]
def ua : ae :=
 (.seq
 (.region [oN 2 (.mov cF)] [2] false)
 (.seq
 (.region [Mv 3 0,
 oN 4 (.bin .lss .val (.t 3) (.c (.int .i32 32))),
 Mv 5 4,
 oG 6 (some (5, false)) (.mov (.t 0)),
 oG 7 (some (5, false)) (.bin .gtr .val (.t 6) (.c (.int .i32 126))),
 oN 8 (.pick (.t 5) cT (.t 7)),
 Mv 2 8] [2] false)
 .ret))
def pM : bS := ⟨1, ua, [.t 2], .pure⟩
def HF : List Nat := [0, 2]
def im : ae :=
 (.seq
 (.region [oN 2 (.mov cF)] [2] false)
 (.seq
 (.region [Mv 6 0,
 oN 7 (.call (.c (.fn kC [] [])) [.t 6, (.c (.str [45]))]),
 Mv 5 7,
 oN 8 (.ext (.t 5) 0),
 oN 9 (.ext (.t 5) 1),
 Mv 3 8,
 Mv 4 9] [3, 4] false)
 (.seq
 (.seq
 (.region [Mv 10 3,
 oN 11 (.bin .eql .val (.t 10) (.c (.str []))),
 Mv 12 11,
 oG 13 (some (12, false)) (.mov (.t 3)),
 oG 14 (some (12, false)) (.len .str (.t 13)),
 oG 15 (some (12, false)) (.bin .gtr .val (.t 14) (.c (.int .i64 500))),
 oN 16 (.pick (.t 12) cT (.t 15)),
 Mv 17 16,
 oG 18 (some (17, false)) (.mov (.t 3)),
 oG 19 (some (17, false)) (.call (.c (.fn nH [] [])) [.t 18, (.c (.int .u8 2))]),
 oG 20 (some (17, false)) (.un .not (.t 19)),
 oN 21 (.pick (.t 17) cT (.t 20))] [21] false)
 (.cond (.t 21)
 (.seq
 (.region [oN 2 (.mov cF)] [2] false)
 .ret)
 .skip))
 (.seq
 (.region [Mv 22 3,
 oN 23 (.index (.t 22) cZ),
 oN 24 (.bin .neq .val (.t 23) (.c (.int .u8 48))),
 Mv 25 24,
 oG 26 (some (25, false)) (.mov (.t 3)),
 oG 27 (some (25, false)) (.len .str (.t 26)),
 oG 28 (some (25, false)) (.bin .eql .val (.t 27) cO),
 oG 29 (some (25, false)) (.mov (.t 28)),
 oG 30 (some (29, true)) (.mov (.t 4)),
 oG 31 (some (29, true)) (.un .not (.t 30)),
 oG 32 (some (25, false)) (.pick (.t 29) (.t 31) cF),
 oN 33 (.pick (.t 25) cT (.t 32)),
 Mv 2 33] [2] false)
 .ret))))
def ft : bS := ⟨1, im, [.t 2], .pure⟩
def Fp : List Nat := [0, 2, 3, 4, 21]
def rC : ae :=
 (.seq
 (.region [oN 9 (.bin .lss .val (.t 8) (.t 7))] [9] false)
 (.seq
 (.cond (.t 9)
 .skip
 (.exit 0))
 (.seq
 (.block 1
 (.seq
 (.region [Mv 10 8,
 Mv 5 10] [5] false)
 (.seq
 (.region [Mv 11 0,
 Mv 12 5,
 oN 13 (.index (.t 11) (.t 12)),
 Mv 14 1,
 Ca 15 ww [.t 13, .t 14],
 oN 16 (.un .not (.t 15))] [16] false)
 (.cond (.t 16)
 (.seq
 (.region [oN 4 (.mov cF)] [4] false)
 .ret)
 .skip))))
 (.region [oN 17 (.bin .add .val (.t 8) cO),
 Mv 8 17] [8] false))))
def CA : ae :=
 (.seq
 (.region [oN 4 (.mov cF)] [4] false)
 (.seq
 (.seq
 (.region [Mv 6 0,
 oN 7 (.len .str (.t 6)),
 oN 8 (.mov cZ)] [7, 8] false)
 (.block 0
 (.loop [4, 5, 9, 16] rC)))
 (.seq
 (.region [oN 4 (.mov cT)] [4] false)
 .ret)))
def wP : bS := ⟨2, CA, [.t 4], .pure⟩
def KN : List Nat := [0, 1, 4, 5, 7, 8, 9, 16]
def lF : ae :=
 (.seq
 (.region [oN 4 (.mov cF)] [4] false)
 (.seq
 (.region [Mv 5 0,
 Mv 6 1,
 Ca 7 gd [.t 5, .t 6],
 oN 8 (.bin .geq .val (.t 7) cZ),
 Mv 4 8] [4] false)
 .ret))
def lA : bS := ⟨2, lF, [.t 4], .pure⟩
def lJ : List Nat := [0, 1, 4]
def EZ : ae :=
 (.seq
 (.region [oN 2 (.box 3 (.t 0)),
 oN 3 (.mov cF)] [2, 3] false)
 (.seq
 (.region [oN 4 (.load true 3 (.t 2)),
 oN 5 (.load true 3 (.t 1)),
 Ca 6 dA [.t 4, .t 5],
 oN 7 (.bin .eql .val (.t 6) cZ),
 Mv 3 7] [3] false)
 .ret))
def EX : bS := ⟨2, EZ, [.t 3], .pure⟩
def Fl : List Nat := [0, 1, 2, 3]
def cY : ae :=
 (.seq
 (.region [oN 4 (.mov (.c (.sl .nil 8 [])))] [4] false)
 (.seq
 (.seq
 (.region [Mv 5 1,
 oN 6 (.bin .lss .val (.t 5) cZ)] [6] false)
 (.cond (.t 6)
 (.region [oN 7 (.mkif 9 (.c (.str [99, 97, 110, 110, 111, 116, 32, 98, 101, 32, 110, 101, 103, 97, 116, 105, 118, 101]))),
 oU (.panic (.t 7))] [] false)
 .skip))
 (.seq
 (.seq
 (.region [Mv 8 1,
 Mv 9 0,
 oN 10 (.cap (.t 9)),
 Mv 11 0,
 oN 12 (.len .slice (.t 11)),
 oN 13 (.bin .sub .val (.t 10) (.t 12)),
 oN 14 (.bin .sub .val (.t 8) (.t 13)),
 Mv 1 14] [1] false)
 (.seq
 (.region [Mv 15 1,
 oN 16 (.bin .gtr .val (.t 15) cZ)] [16] false)
 (.cond (.t 16)
 (.region [Mv 17 0,
 Mv 18 0,
 oN 19 (.cap (.t 18)),
 oN 20 (.slice 8 (.t 17) none (some (.t 19)) none),
 Mv 21 1,
 oN 22 (.appz 8 (.t 20) (.t 21)),
 Mv 23 0,
 oN 24 (.len .slice (.t 23)),
 oN 25 (.slice 8 (.t 22) none (some (.t 24)) none),
 Mv 0 25] [0] false)
 .skip)))
 (.seq
 (.region [Mv 26 0,
 Mv 4 26] [4] false)
 .ret))))
def bz : bS := ⟨2, cY, [.t 4], .keep⟩
def lK : List Nat := [0, 1, 4, 6, 16]
def mI : ae :=
 (.seq
 (.region [oN 10 (.bin .lss .val (.t 9) (.t 8))] [10] false)
 (.seq
 (.cond (.t 10)
 .skip
 (.exit 0))
 (.seq
 (.block 1
 (.seq
 (.region [Ia 11 8 7 9,
 oN 12 (.load true 8 (.t 11)),
 oN 6 (.alloc [.int .i64 0, .int .i64 0, .int .i64 0, .int .i64 0, .str [], .sl .nil 3 [], .sl .nil 3 [], .int .i64 0]),
 oU (.store 8 (.t 6) (.t 12))] [6] false)
 (.seq
 (.seq
 (.region [Fa 13 0 6,
 Ld 14 1 13,
 Ld 15 1 2,
 oN 16 (.bin .neq .val (.t 14) (.t 15))] [16] false)
 (.cond (.t 16)
 (.exit 1)
 .skip))
 (.seq
 (.region [Ld 17 1 3,
 Fa 18 0 6,
 oU (.store 1 (.t 18) (.t 17))] [] false)
 (.seq
 (.region [Mv 19 0,
 oN 20 (.load true 8 (.t 6)),
 oN 21 (.call (.t 19) [.t 20]),
 oN 22 (.un .not (.t 21))] [22] false)
 (.cond (.t 22)
 .ret
 .skip))))))
 (.region [oN 23 (.bin .add .val (.t 9) cO),
 Mv 9 23] [9] false))))
def vT : ae :=
 (.seq
 (.region [Ld 7 1 1,
 oN 8 (.len .slice (.t 7)),
 oN 9 (.mov cZ)] [7, 8, 9] false)
 (.block 0
 (.loop [1, 6, 10, 16, 22] mI)))
def rm : bS := ⟨4, vT, [], .eff⟩
def Ec : List Nat := [0, 1, 2, 3, 6, 7, 8, 9, 10, 16, 22]
def iH : ae :=
 (.seq
 (.region [oN 12 (.bin .lss .val (.t 11) (.t 10))] [12] false)
 (.seq
 (.cond (.t 12)
 .skip
 (.exit 0))
 (.seq
 (.block 1
 (.seq
 (.region [Ia 13 1 9 11,
 Ld 14 1 13,
 Mv 5 14] [5] false)
 (.seq
 (.region [Mv 15 3,
 Mv 16 5,
 oN 17 (.len .slice (.t 16)),
 oN 18 (.bin .add .val (.t 15) (.t 17)),
 Mv 3 18] [3] false)
 (.seq
 (.region [Mv 19 3,
 oN 20 (.bin .lss .val (.t 19) cZ)] [20] false)
 (.cond (.t 20)
 (.region [oN 21 (.mkif 9 (.c (.str [108, 101, 110, 32, 111, 117, 116, 32, 111, 102, 32, 114, 97, 110, 103, 101]))),
 oU (.panic (.t 21))] [] false)
 .skip)))))
 (.region [oN 22 (.bin .add .val (.t 11) cO),
 Mv 11 22] [11] false))))
def iI : ae :=
 (.seq
 (.region [oN 28 (.bin .lss .val (.t 27) (.t 26))] [28] false)
 (.seq
 (.cond (.t 28)
 .skip
 (.exit 2))
 (.seq
 (.block 3
 (.seq
 (.region [Ia 29 1 25 27,
 Ld 30 1 29,
 Mv 8 30] [8] false)
 (.region [Mv 31 6,
 Mv 32 8,
 oN 33 (.app 1 (.t 31) (.t 32)),
 Mv 6 33] [6] false)))
 (.region [oN 34 (.bin .add .val (.t 27) cO),
 Mv 27 34] [27] false))))
def na : ae :=
 (.seq
 (.region [oN 2 (.mov (.c (.sl .nil 1 [])))] [2] false)
 (.seq
 (.region [oN 3 (.mov cZ)] [3] false)
 (.seq
 (.seq
 (.region [Mv 9 0,
 oN 10 (.len .slice (.t 9)),
 oN 11 (.mov cZ)] [9, 10, 11] false)
 (.block 0
 (.loop [2, 5, 6, 8, 12, 20, 25, 26, 27, 28] iH)))
 (.seq
 (.region [Mv 23 3,
 oN 24 (.call (.c (.fn gt [] [])) [(.c (.sl .nil 1 [])), .t 23]),
 Mv 6 24] [6] false)
 (.seq
 (.seq
 (.region [Mv 25 0,
 oN 26 (.len .slice (.t 25)),
 oN 27 (.mov cZ)] [25, 26, 27] false)
 (.block 2
 (.loop [0, 2, 3, 5, 8, 9, 10, 11, 12, 20, 28] iI)))
 (.seq
 (.region [Mv 35 6,
 Mv 2 35] [2] false)
 .ret))))))
def i6 : bS := ⟨1, na, [.t 2], .keep⟩
def uN : List Nat := [0, 2, 3, 5, 6, 8, 9, 10, 11, 12, 20, 25, 26, 27, 28]
def fb : ae :=
 (.seq
 (.region [oN 9 (.bin .lss .val (.t 8) (.t 7))] [9] false)
 (.seq
 (.cond (.t 9)
 .skip
 (.exit 0))
 (.seq
 (.block 1
 (.seq
 (.region [Mv 10 8,
 Mv 5 10] [5] false)
 (.seq
 (.region [Mv 11 1,
 Mv 12 0,
 Mv 13 5,
 Ia 14 1 12 13,
 Ld 15 1 14,
 oN 16 (.bin .eql .val (.t 11) (.t 15))] [16] false)
 (.cond (.t 16)
 (.seq
 (.region [Mv 17 5,
 Mv 4 17] [4] false)
 .ret)
 .skip))))
 (.region [oN 18 (.bin .add .val (.t 8) cO),
 Mv 8 18] [8] false))))
def nM : ae :=
 (.seq
 (.region [oN 4 (.mov cZ)] [4] false)
 (.seq
 (.seq
 (.region [Mv 6 0,
 oN 7 (.len .slice (.t 6)),
 oN 8 (.mov cZ)] [7, 8] false)
 (.block 0
 (.loop [4, 5, 9, 16] fb)))
 (.seq
 (.region [oN 4 (.mov (.c (.int .i64 (-1))))] [4] false)
 .ret)))
def jG : bS := ⟨2, nM, [.t 4], .pure⟩
def u5 : List Nat := [0, 1, 4, 5, 7, 8, 9, 16]
def sF : ae :=
 (.block 1
 (.seq
 (.region [Mv 6 1,
 oN 7 (.load true 7 (.t 2)),
 oN 8 (.call (.t 6) [.t 7]),
 oN 5 (.alloc [.int .u64 0, .int .u64 0, .int .u64 0, .int .u64 0, .int .u64 0, .int .u64 0, .int .u64 0]),
 oU (.store 7 (.t 5) (.t 8))] [5] false)
 (.seq
 (.seq
 (.region [oN 9 (.load true 7 (.t 5)),
 oN 10 (.load true 7 (.t 2)),
 oN 11 (.bin .eql (.agg 7) (.t 9) (.t 10))] [11] false)
 (.cond (.t 11)
 (.seq
 (.region [oN 12 (.load true 7 (.t 2)),
 oU (.store 7 (.t 4) (.t 12))] [] false)
 .ret)
 .skip))
 (.region [oN 13 (.load true 7 (.t 5)),
 oU (.store 7 (.t 2) (.t 13))] [] false))))
def zd : ae :=
 (.seq
 (.region [oN 2 (.box 7 (.t 0)),
 oN 4 (.alloc [.int .u64 0, .int .u64 0, .int .u64 0, .int .u64 0, .int .u64 0, .int .u64 0, .int .u64 0])] [2, 4] false)
 (.block 0
 (.loop [0, 5, 11] sF)))
def tM : bS := ⟨2, zd, [.cell 4 true 7], .pure⟩
def Hw : List Nat := [0, 1, 2, 4, 5, 11]
def dV : ae :=
 (.seq
 (.region [oN 10 (.bin .lss .val (.t 9) (.t 8))] [10] false)
 (.seq
 (.cond (.t 10)
 .skip
 (.exit 0))
 (.seq
 (.block 1
 (.seq
 (.region [Ia 11 8 7 9,
 oN 12 (.load true 8 (.t 11)),
 oN 5 (.alloc [.int .i64 0, .int .i64 0, .int .i64 0, .int .i64 0, .str [], .sl .nil 3 [], .sl .nil 3 [], .int .i64 0]),
 oU (.store 8 (.t 5) (.t 12))] [5] false)
 (.seq
 (.region [oN 13 (.load true 8 (.t 5)),
 oN 14 (.load true 7 (.t 2)),
 Ca 15 eg [.t 13, .t 14]] [15] false)
 (.cond (.t 15)
 (.region [Fa 16 0 5,
 Ld 17 1 16,
 Ca 18 bm [.t 2, .t 17]] [] false)
 .skip))))
 (.region [oN 19 (.bin .add .val (.t 9) cO),
 Mv 9 19] [9] false))))
def lN : ae :=
 (.seq
 (.region [oN 2 (.box 7 (.t 0)),
 oN 3 (.alloc [.int .u64 0, .int .u64 0, .int .u64 0, .int .u64 0, .int .u64 0, .int .u64 0, .int .u64 0])] [2, 3] false)
 (.seq
 (.seq
 (.region [Fa 6 3 1,
 Ld 7 1 6,
 oN 8 (.len .slice (.t 7)),
 oN 9 (.mov cZ)] [7, 8, 9] false)
 (.block 0
 (.loop [0, 1, 5, 10, 15] dV)))
 (.seq
 (.region [oN 20 (.load true 7 (.t 2)),
 oU (.store 7 (.t 3) (.t 20))] [] false)
 .ret)))
def ii : bS := ⟨2, lN, [.cell 3 true 7], .pure⟩
def sM : List Nat := [0, 1, 2, 3, 5, 7, 8, 9, 10, 15]
def eb : ae :=
 (.seq
 (.region [oN 2 (.box 8 (.t 0)),
 oN 3 (.box 7 (.t 1)),
 oN 4 (.mov cF)] [2, 3, 4] false)
 (.seq
 (.region [oN 5 (.load true 7 (.t 3)),
 Fa 6 1 2,
 Ld 7 1 6,
 Ca 8 aR [.t 5, .t 7],
 Mv 9 8,
 oG 10 (some (9, true)) (.faddr 2 (.t 2)),
 oG 11 (some (9, true)) (.load false 1 (.t 10)),
 oG 12 (some (9, true)) (.bin .neq .val (.t 11) (.c (.int .i64 2))),
 oG 13 (some (9, true)) (.mov (.t 12)),
 oG 14 (some (13, false)) (.faddr 6 (.t 2)),
 oG 15 (some (13, false)) (.load false 1 (.t 14)),
 oG 16 (some (13, false)) (.len .slice (.t 15)),
 oG 17 (some (13, false)) (.bin .lss .val (.t 16) (.c (.int .i64 256))),
 oG 18 (some (9, true)) (.pick (.t 13) cT (.t 17)),
 oN 19 (.pick (.t 9) (.t 18) cF),
 Mv 20 19,
 oG 21 (some (20, true)) (.faddr 2 (.t 2)),
 oG 22 (some (20, true)) (.load false 1 (.t 21)),
 oG 23 (some (20, true)) (.bin .neq .val (.t 22) (.c (.int .i64 5))),
 oG 24 (some (20, true)) (.mov (.t 23)),
 oG 25 (some (24, false)) (.load true 7 (.t 3)),
 oG 26 (some (24, false)) (.faddr 7 (.t 2)),
 oG 27 (some (24, false)) (.load false 1 (.t 26)),
 oG 28 (some (24, false)) (.call (.c (.fn aR [] [])) [.t 25, .t 27]),
 oG 29 (some (20, true)) (.pick (.t 24) cT (.t 28)),
 oN 30 (.pick (.t 20) (.t 29) cF),
 Mv 4 30] [4] false)
 .ret))
def dk : bS := ⟨2, eb, [.t 4], .pure⟩
def yM : List Nat := .range 5
def bQ : ae :=
 (.seq
 (.region [oN 11 (.bin .lss .val (.t 10) (.t 9))] [11] false)
 (.seq
 (.cond (.t 11)
 .skip
 (.exit 0))
 (.seq
 (.block 1
 (.seq
 (.region [Ia 12 8 8 10,
 oN 13 (.load true 8 (.t 12)),
 oN 6 (.alloc [.int .i64 0, .int .i64 0, .int .i64 0, .int .i64 0, .str [], .sl .nil 3 [], .sl .nil 3 [], .int .i64 0]),
 oU (.store 8 (.t 6) (.t 13))] [6] false)
 (.seq
 (.region [oN 14 (.load true 7 (.t 3)),
 Fa 15 0 6,
 Ld 16 1 15,
 Ca 17 aR [.t 14, .t 16],
 Mv 18 17,
 oG 19 (some (18, true)) (.load true 8 (.t 6)),
 oG 20 (some (18, true)) (.load true 7 (.t 2)),
 oG 21 (some (18, true)) (.call (.c (.fn eg [] [])) [.t 19, .t 20]),
 oN 22 (.pick (.t 18) (.t 21) cF)] [22] false)
 (.cond (.t 22)
 (.seq
 (.region [Fa 23 1 6,
 Ld 24 1 23,
 Ca 25 bm [.t 3, .t 24]] [] false)
 (.seq
 (.region [Fa 26 2 6,
 Ld 27 1 26,
 oN 28 (.bin .eql .val (.t 27) (.c (.int .i64 5)))] [28] false)
 (.cond (.t 28)
 (.region [Fa 29 7 6,
 Ld 30 1 29,
 Ca 31 bm [.t 3, .t 30]] [] false)
 .skip)))
 .skip))))
 (.region [oN 32 (.bin .add .val (.t 10) cO),
 Mv 10 32] [10] false))))
def lO : ae :=
 (.seq
 (.region [oN 3 (.box 7 (.t 0)),
 oN 4 (.alloc [.int .u64 0, .int .u64 0, .int .u64 0, .int .u64 0, .int .u64 0, .int .u64 0, .int .u64 0])] [3, 4] false)
 (.seq
 (.seq
 (.region [Fa 7 3 1,
 Ld 8 1 7,
 oN 9 (.len .slice (.t 8)),
 oN 10 (.mov cZ)] [8, 9, 10] false)
 (.block 0
 (.loop [0, 1, 6, 11, 22, 28] bQ)))
 (.seq
 (.region [oN 33 (.load true 7 (.t 3)),
 oU (.store 7 (.t 4) (.t 33))] [] false)
 .ret)))
def ij : bS := ⟨3, lO, [.cell 4 true 7], .pure⟩
def sN : List Nat := [0, 1, 2, 3, 4, 6, 8, 9, 10, 11, 22, 28]
def qo : ae :=
 (.seq
 (.region [oN 10 (.bin .lss .val (.t 9) (.t 8))] [10] false)
 (.seq
 (.cond (.t 10)
 .skip
 (.exit 0))
 (.seq
 (.block 1
 (.seq
 (.region [Mv 11 9,
 Mv 4 11] [4] false)
 (.region [Mv 12 3,
 Mv 13 4,
 Mv 14 3,
 Mv 15 4,
 Ia 16 3 14 15,
 Fa 17 2 16,
 Ld 18 1 17,
 Ca 19 ke [.t 18],
 Ia 20 3 12 13,
 Fa 21 2 20,
 oU (.store 1 (.t 21) (.t 19))] [] false)))
 (.region [oN 22 (.bin .add .val (.t 9) cO),
 Mv 9 22] [9] false))))
def ve : ae :=
 (.seq
 (.region [oN 2 (.mov (.c (.sl .nil 3 [])))] [2] false)
 (.seq
 (.region [Mv 5 0,
 Ca 6 cC [.t 5],
 Mv 3 6] [3] false)
 (.seq
 (.seq
 (.region [Mv 7 3,
 oN 8 (.len .slice (.t 7)),
 oN 9 (.mov cZ)] [8, 9] false)
 (.block 0
 (.loop [0, 2, 4, 10] qo)))
 (.seq
 (.region [Mv 23 3,
 Mv 2 23] [2] false)
 .ret))))
def pc : bS := ⟨1, ve, [.t 2], .pure⟩
def MC : List Nat := [0, 2, 3, 4, 8, 9, 10]
def lP : ae :=
 (.seq
 (.region [oN 2 (.box 8 (.t 0)),
 oN 3 (.mov cF)] [2, 3] false)
 (.seq
 (.region [oN 4 (.load true 8 (.t 1)),
 oN 5 (.load true 8 (.t 2)),
 Ca 6 qx [.t 4, .t 5],
 Mv 3 6] [3] false)
 .ret))
def ik : bS := ⟨2, lP, [.t 3], .pure⟩
def sO : List Nat := [0, 1, 2, 3]
def i8 : ae :=
 (.seq
 (.region [oN 2 (.box 8 (.t 0)),
 oN 3 (.box 8 (.t 1)),
 oN 4 (.mov cF)] [2, 3, 4] false)
 (.seq
 (.region [Fa 5 0 2,
 Ld 6 1 5,
 Fa 7 0 3,
 Ld 8 1 7,
 oN 9 (.bin .eql .val (.t 6) (.t 8)),
 Mv 10 9,
 oG 11 (some (10, true)) (.faddr 1 (.t 2)),
 oG 12 (some (10, true)) (.load false 1 (.t 11)),
 oG 13 (some (10, true)) (.faddr 1 (.t 3)),
 oG 14 (some (10, true)) (.load false 1 (.t 13)),
 oG 15 (some (10, true)) (.bin .eql .val (.t 12) (.t 14)),
 oN 16 (.pick (.t 10) (.t 15) cF),
 Mv 17 16,
 oG 18 (some (17, true)) (.faddr 2 (.t 2)),
 oG 19 (some (17, true)) (.load false 1 (.t 18)),
 oG 20 (some (17, true)) (.faddr 2 (.t 3)),
 oG 21 (some (17, true)) (.load false 1 (.t 20)),
 oG 22 (some (17, true)) (.bin .eql .val (.t 19) (.t 21)),
 oN 23 (.pick (.t 17) (.t 22) cF),
 Mv 24 23,
 oG 25 (some (24, true)) (.faddr 7 (.t 2)),
 oG 26 (some (24, true)) (.load false 1 (.t 25)),
 oG 27 (some (24, true)) (.faddr 7 (.t 3)),
 oG 28 (some (24, true)) (.load false 1 (.t 27)),
 oG 29 (some (24, true)) (.bin .eql .val (.t 26) (.t 28)),
 oN 30 (.pick (.t 24) (.t 29) cF),
 Mv 31 30,
 oG 32 (some (31, true)) (.faddr 3 (.t 2)),
 oG 33 (some (31, true)) (.load true 3 (.t 32)),
 oG 34 (some (31, true)) (.faddr 3 (.t 3)),
 oG 35 (some (31, true)) (.load true 3 (.t 34)),
 oG 36 (some (31, true)) (.call (.c (.fn dA [] [])) [.t 33, .t 35]),
 oG 37 (some (31, true)) (.bin .eql .val (.t 36) cZ),
 oN 38 (.pick (.t 31) (.t 37) cF),
 Mv 39 38,
 oG 40 (some (39, true)) (.faddr 6 (.t 2)),
 oG 41 (some (39, true)) (.load false 1 (.t 40)),
 oG 42 (some (39, true)) (.faddr 6 (.t 3)),
 oG 43 (some (39, true)) (.load false 1 (.t 42)),
 oG 44 (some (39, true)) (.call (.c (.fn tq [] [])) [.t 41, .t 43]),
 oN 45 (.pick (.t 39) (.t 44) cF),
 Mv 4 45] [4] false)
 .ret))
def gz : bS := ⟨2, i8, [.t 4], .pure⟩
def HA : List Nat := .range 5
def aU : ae :=
 (.seq
 (.region [oN 1 (.box 3 (.t 0)),
 oN 2 (.mov cF)] [1, 2] false)
 (.seq
 (.seq
 (.region [Fa 3 0 1,
 Ld 4 1 3,
 oN 5 (.bin .neq .val (.t 4) (.c (.int .i64 4))),
 Mv 6 5,
 oG 7 (some (6, true)) (.faddr 0 (.t 1)),
 oG 8 (some (6, true)) (.load false 1 (.t 7)),
 oG 9 (some (6, true)) (.bin .neq .val (.t 8) (.c (.int .i64 8))),
 oN 10 (.pick (.t 6) (.t 9) cF),
 Mv 11 10,
 oG 12 (some (11, true)) (.faddr 2 (.t 1)),
 oG 13 (some (11, true)) (.load false 1 (.t 12)),
 oG 14 (some (11, true)) (.len .slice (.t 13)),
 oG 15 (some (11, true)) (.bin .gtr .val (.t 14) cZ),
 oN 16 (.pick (.t 11) (.t 15) cF)] [16] false)
 (.cond (.t 16)
 (.seq
 (.region [oN 2 (.mov cF)] [2] false)
 .ret)
 .skip))
 (.seq
 (.seq
 (.region [Fa 17 0 1,
 Ld 18 1 17] [18] false)
 (.block 0
 (.seq
 (.region [oN 20 (.bin .eql .val (.t 18) cO),
 Mv 19 20] [19] false)
 (.cond (.t 19)
 (.seq
 (.region [Fa 21 1 1,
 Ld 22 1 21,
 oN 23 (.len .str (.t 22)),
 oN 24 (.bin .eql .val (.t 23) cO),
 Mv 2 24] [2] false)
 .ret)
 (.seq
 (.region [oN 26 (.bin .eql .val (.t 18) (.c (.int .i64 2))),
 Mv 25 26] [25] false)
 (.cond (.t 25)
 (.seq
 (.region [Fa 27 1 1,
 Ld 28 1 27,
 Ca 29 iM [.t 28],
 Mv 2 29] [2] false)
 .ret)
 (.seq
 (.region [oN 31 (.bin .eql .val (.t 18) (.c (.int .i64 3))),
 Mv 30 31] [30] false)
 (.cond (.t 30)
 (.seq
 (.region [Fa 32 1 1,
 Ld 33 1 32,
 Ca 34 gp [.t 33],
 Mv 2 34] [2] false)
 .ret)
 (.seq
 (.region [oN 36 (.bin .eql .val (.t 18) (.c (.int .i64 4))),
 Mv 35 36] [35] false)
 (.cond (.t 35)
 (.seq
 (.region [Fa 37 1 1,
 Ld 38 1 37,
 oN 39 (.bin .eql .val (.t 38) (.c (.str []))),
 Mv 2 39] [2] false)
 .ret)
 (.seq
 (.seq
 (.region [oN 41 (.bin .eql .val (.t 18) (.c (.int .i64 5))),
 Mv 40 41] [40] false)
 (.cond (.t 40)
 .skip
 (.seq
 (.region [oN 42 (.bin .eql .val (.t 18) (.c (.int .i64 6))),
 Mv 40 42] [40] false)
 (.cond (.t 40)
 .skip
 (.region [oN 43 (.bin .eql .val (.t 18) (.c (.int .i64 7))),
 Mv 40 43] [40] false)))))
 (.cond (.t 40)
 (.seq
 (.region [Fa 44 1 1,
 Ld 45 1 44,
 Ca 46 jA [.t 45],
 Mv 2 46] [2] false)
 .ret)
 (.seq
 (.region [oN 48 (.bin .eql .val (.t 18) (.c (.int .i64 8))),
 Mv 47 48] [47] false)
 (.cond (.t 47)
 (.seq
 (.region [Fa 49 1 1,
 Ld 50 1 49,
 Ca 51 iL [.t 50, (.c (.int .i64 40))],
 Mv 2 51] [2] false)
 .ret)
 .skip))))))))))))))
 (.seq
 (.region [oN 2 (.mov cF)] [2] false)
 .ret))))
def aN : bS := ⟨1, aU, [.t 2], .pure⟩
def yY : List Nat := [0, 1, 2, 16, 18, 19, 25, 30, 35, 40, 47]
def kO : ae :=
 (.seq
 (.seq
 (.region [Mv 8 4,
 Fa 9 2 1,
 Ld 10 1 9,
 oN 11 (.len .slice (.t 10)),
 oN 12 (.bin .lss .val (.t 8) (.t 11))] [12] false)
 (.cond (.t 12)
 .skip
 (.exit 0)))
 (.seq
 (.block 1
 (.region [Mv 15 3,
 Fa 16 2 1,
 Ld 17 1 16,
 Mv 18 4,
 Ia 19 1 17 18,
 Ld 20 1 19,
 Ia 21 1 15 20,
 oU (.store 1 (.t 21) cT)] [] false))
 (.region [Mv 13 4,
 oN 14 (.bin .add .val (.t 13) cO),
 Mv 4 14] [4] false)))
def pW : ae :=
 (.seq
 (.region [oN 1 (.box 4 (.t 0)),
 oN 2 (.mov (.c (.sl .nil 1 [])))] [1, 2] false)
 (.seq
 (.region [Fa 5 0 1,
 Ld 6 1 5,
 oN 7 (.mkms 1 [.bool false] (.t 6) (.t 6)),
 Mv 3 7] [3] false)
 (.seq
 (.seq
 (.region [oN 4 (.mov cZ)] [4] false)
 (.block 0
 (.loop [0, 2, 12] kO)))
 (.seq
 (.region [Mv 22 3,
 Mv 2 22] [2] false)
 .ret))))
def lx : bS := ⟨1, pW, [.t 2], .eff⟩
def xR : List Nat := [0, 1, 2, 3, 4, 12]
def jI : ae :=
 (.seq
 (.region [oN 1 (.box 8 (.t 0)),
 oN 2 (.mov cF)] [1, 2] false)
 (.seq
 (.region [Fa 3 2 1,
 Ld 4 1 3,
 oN 5 (.bin .neq .val (.t 4) (.c (.int .i64 2))),
 Mv 6 5,
 oG 7 (some (6, false)) (.faddr 6 (.t 1)),
 oG 8 (some (6, false)) (.load false 1 (.t 7)),
 oG 9 (some (6, false)) (.len .slice (.t 8)),
 oG 10 (some (6, false)) (.bin .lss .val (.t 9) (.c (.int .i64 256))),
 oN 11 (.pick (.t 6) cT (.t 10)),
 Mv 2 11] [2] false)
 .ret))
def fD : bS := ⟨1, jI, [.t 2], .pure⟩
def uX : List Nat := [0, 1, 2]
def dl : ae :=
 (.seq
 (.region [oN 2 (.box 8 (.t 0)),
 oN 3 (.box 8 (.t 1)),
 oN 4 (.mov cF)] [2, 3, 4] false)
 (.seq
 (.region [Fa 5 0 2,
 Ld 6 1 5,
 Fa 7 0 3,
 Ld 8 1 7,
 oN 9 (.bin .eql .val (.t 6) (.t 8)),
 Mv 10 9,
 oG 11 (some (10, true)) (.faddr 1 (.t 2)),
 oG 12 (some (10, true)) (.load false 1 (.t 11)),
 oG 13 (some (10, true)) (.faddr 1 (.t 3)),
 oG 14 (some (10, true)) (.load false 1 (.t 13)),
 oG 15 (some (10, true)) (.bin .eql .val (.t 12) (.t 14)),
 oN 16 (.pick (.t 10) (.t 15) cF),
 Mv 17 16,
 oG 18 (some (17, true)) (.faddr 2 (.t 2)),
 oG 19 (some (17, true)) (.load false 1 (.t 18)),
 oG 20 (some (17, true)) (.faddr 2 (.t 3)),
 oG 21 (some (17, true)) (.load false 1 (.t 20)),
 oG 22 (some (17, true)) (.bin .eql .val (.t 19) (.t 21)),
 oN 23 (.pick (.t 17) (.t 22) cF),
 Mv 24 23,
 oG 25 (some (24, true)) (.faddr 7 (.t 2)),
 oG 26 (some (24, true)) (.load false 1 (.t 25)),
 oG 27 (some (24, true)) (.faddr 7 (.t 3)),
 oG 28 (some (24, true)) (.load false 1 (.t 27)),
 oG 29 (some (24, true)) (.bin .eql .val (.t 26) (.t 28)),
 oN 30 (.pick (.t 24) (.t 29) cF),
 Mv 31 30,
 oG 32 (some (31, true)) (.faddr 3 (.t 2)),
 oG 33 (some (31, true)) (.load true 3 (.t 32)),
 oG 34 (some (31, true)) (.faddr 3 (.t 3)),
 oG 35 (some (31, true)) (.load true 3 (.t 34)),
 oG 36 (some (31, true)) (.call (.c (.fn cK [] [])) [.t 33, .t 35]),
 oG 37 (some (31, true)) (.bin .eql .val (.t 36) cZ),
 oN 38 (.pick (.t 31) (.t 37) cF),
 Mv 39 38,
 oG 40 (some (39, true)) (.faddr 6 (.t 2)),
 oG 41 (some (39, true)) (.load false 1 (.t 40)),
 oG 42 (some (39, true)) (.faddr 6 (.t 3)),
 oG 43 (some (39, true)) (.load false 1 (.t 42)),
 oG 44 (some (39, true)) (.call (.c (.fn ej [] [])) [.t 41, .t 43]),
 oN 45 (.pick (.t 39) (.t 44) cF),
 Mv 4 45] [4] false)
 .ret))
def bM : bS := ⟨2, dl, [.t 4], .pure⟩
def y7 : List Nat := .range 5
def js : ae :=
 (.seq
 (.seq
 (.region [Mv 7 4,
 Mv 8 0,
 oN 9 (.len .slice (.t 8)),
 oN 10 (.bin .lss .val (.t 7) (.t 9))] [10] false)
 (.cond (.t 10)
 .skip
 (.exit 0)))
 (.seq
 (.block 1
 (.seq
 (.region [Mv 13 0,
 Mv 14 4,
 Ia 15 3 13 14,
 Fa 16 0 15,
 Ld 17 1 16,
 Mv 18 0,
 Mv 19 4,
 Ia 20 3 18 19,
 Fa 21 1 20,
 Ld 22 1 21,
 oN 23 (.build [.int .i64 0, .str [], .sl .nil 3 []] [(0, 1, (.t 17)), (1, 1, (.t 22))]),
 oN 5 (.alloc [.int .i64 0, .str [], .sl .nil 3 []]),
 oU (.store 3 (.t 5) (.t 23))] [5] true)
 (.seq
 (.seq
 (.region [Mv 24 0,
 Mv 25 4,
 Ia 26 3 24 25,
 Fa 27 2 26,
 Ld 28 1 27,
 oN 29 (.len .slice (.t 28)),
 oN 30 (.bin .gtr .val (.t 29) cZ)] [30] false)
 (.cond (.t 30)
 (.region [Mv 31 0,
 Mv 32 4,
 Ia 33 3 31 32,
 Fa 34 2 33,
 Ld 35 1 34,
 Ca 36 dG [.t 35],
 Fa 37 2 5,
 oU (.store 1 (.t 37) (.t 36))] [] false)
 .skip))
 (.region [Mv 38 3,
 oN 39 (.load true 3 (.t 5)),
 oN 40 (.bslice 3 [.int .i64 0, .str [], .sl .nil 3 []] 1 [(0, (.t 39))]),
 oN 41 (.app 3 (.t 38) (.t 40)),
 Mv 3 41] [3] false))))
 (.region [Mv 11 4,
 oN 12 (.bin .add .val (.t 11) cO),
 Mv 4 12] [4] false)))
def rJ : ae :=
 (.seq
 (.region [oN 2 (.mov (.c (.sl .nil 3 [])))] [2] false)
 (.seq
 (.region [oN 6 (.bslice 3 [.int .i64 0, .str [], .sl .nil 3 []] 0 []),
 Mv 3 6] [3] false)
 (.seq
 (.seq
 (.region [oN 4 (.mov cZ)] [4] false)
 (.block 0
 (.loop [2, 5, 10, 30] js)))
 (.seq
 (.region [Mv 42 3,
 Mv 2 42] [2] false)
 .ret))))
def jP : bS := ⟨1, rJ, [.t 2], .pure⟩
def Aq : List Nat := [0, 2, 3, 4, 5, 10, 30]
def lC : ae :=
 (.seq
 (.region [oN 1 (.box 3 (.t 0)),
 oN 2 (.mov cF)] [1, 2] false)
 (.seq
 (.region [oN 3 (.load true 3 (.t 1)),
 Ca 4 gq [.t 3],
 Mv 5 4,
 oG 6 (some (5, true)) (.load true 3 (.t 1)),
 oG 7 (some (5, true)) (.bslice 3 [.int .i64 0, .str [], .sl .nil 3 []] 1 [(0, (.t 6))]),
 oG 8 (some (5, true)) (.call (.c (.fn fP [] [])) [.t 7]),
 oG 9 (some (5, true)) (.bin .eql .val (.t 8) cZ),
 oN 10 (.pick (.t 5) (.t 9) cF),
 Mv 2 10] [2] false)
 .ret))
def eU : bS := ⟨1, lC, [.t 2], .pure⟩
def xU : List Nat := [0, 1, 2]
def jW : ae :=
 (.seq
 (.region [oN 1 (.box 3 (.t 0)),
 oN 2 (.mov cF)] [1, 2] false)
 (.seq
 (.region [Fa 3 0 1,
 Ld 4 1 3,
 oN 5 (.bin .eql .val (.t 4) cZ),
 Mv 6 5,
 oG 7 (some (6, true)) (.faddr 1 (.t 1)),
 oG 8 (some (6, true)) (.load false 1 (.t 7)),
 oG 9 (some (6, true)) (.bin .eql .val (.t 8) (.c (.str []))),
 oN 10 (.pick (.t 6) (.t 9) cF),
 Mv 11 10,
 oG 12 (some (11, true)) (.faddr 2 (.t 1)),
 oG 13 (some (11, true)) (.load false 1 (.t 12)),
 oG 14 (some (11, true)) (.len .slice (.t 13)),
 oG 15 (some (11, true)) (.bin .eql .val (.t 14) cZ),
 oN 16 (.pick (.t 11) (.t 15) cF),
 Mv 2 16] [2] false)
 .ret))
def gy : bS := ⟨1, jW, [.t 2], .pure⟩
def AD : List Nat := [0, 1, 2]
def iC : ae :=
 (.seq
 (.region [oN 2 (.mov cZ)] [2] false)
 (.seq
 (.seq
 (.region [Mv 3 0] [3] false)
 (.block 0
 (.seq
 (.region [oN 5 (.bin .eql .val (.t 3) (.c (.int .i64 2))),
 Mv 4 5] [4] false)
 (.cond (.t 4)
 (.seq
 (.region [oN 2 (.mov cO)] [2] false)
 .ret)
 (.seq
 (.region [oN 7 (.bin .eql .val (.t 3) (.c (.int .i64 3))),
 Mv 6 7] [6] false)
 (.cond (.t 6)
 (.seq
 (.region [oN 2 (.mov (.c (.int .i64 2)))] [2] false)
 .ret)
 .skip))))))
 (.seq
 (.region [oN 2 (.mov (.c (.int .i64 3)))] [2] false)
 .ret)))
def dJ : bS := ⟨1, iC, [.t 2], .pure⟩
def xS : List Nat := [0, 2, 3, 4, 6]
def pi : ae :=
 (.seq
 (.region [oN 2 (.box 3 (.t 0)),
 oN 3 (.box 3 (.t 1)),
 oN 4 (.mov cZ)] [2, 3, 4] false)
 (.seq
 (.region [oN 5 (.load true 3 (.t 2)),
 oN 6 (.bslice 3 [.int .i64 0, .str [], .sl .nil 3 []] 1 [(0, (.t 5))]),
 oN 7 (.load true 3 (.t 3)),
 oN 8 (.bslice 3 [.int .i64 0, .str [], .sl .nil 3 []] 1 [(0, (.t 7))]),
 Ca 9 bR [.t 6, .t 8],
 Mv 4 9] [4] false)
 .ret))
def gQ : bS := ⟨2, pi, [.t 4], .pure⟩
def wH : List Nat := .range 5
def lE : ae :=
 (.seq
 (.region [oN 4 (.mov cZ)] [4] false)
 (.seq
 (.region [Mv 7 0,
 Ca 8 kP [.t 7],
 Mv 5 8] [5] false)
 (.seq
 (.region [Mv 9 1,
 Ca 10 kP [.t 9],
 Mv 6 10] [6] false)
 (.seq
 (.seq
 (.region [Mv 11 5] [11] false)
 (.cond (.t 11)
 (.seq
 (.seq
 (.region [Mv 12 6] [12] false)
 (.cond (.t 12)
 (.seq
 (.region [oN 4 (.mov cZ)] [4] false)
 .ret)
 .skip))
 (.seq
 (.region [oN 4 (.mov (.c (.int .i64 (-1))))] [4] false)
 .ret))
 .skip))
 (.seq
 (.seq
 (.region [Mv 13 6] [13] false)
 (.cond (.t 13)
 (.seq
 (.region [oN 4 (.mov cO)] [4] false)
 .ret)
 .skip))
 (.seq
 (.seq
 (.region [Mv 14 0,
 Mv 15 1,
 oN 16 (.bin .lss .val (.t 14) (.t 15))] [16] false)
 (.cond (.t 16)
 (.seq
 (.region [oN 4 (.mov (.c (.int .i64 (-1))))] [4] false)
 .ret)
 .skip))
 (.seq
 (.seq
 (.region [Mv 17 0,
 Mv 18 1,
 oN 19 (.bin .gtr .val (.t 17) (.t 18))] [19] false)
 (.cond (.t 19)
 (.seq
 (.region [oN 4 (.mov cO)] [4] false)
 .ret)
 .skip))
 (.seq
 (.region [oN 4 (.mov cZ)] [4] false)
 .ret))))))))
def fY : bS := ⟨2, lE, [.t 4], .pure⟩
def Cp : List Nat := [0, 1, 4, 5, 6, 11, 12, 13, 16, 19]
def jr : ae :=
 (.seq
 (.region [oN 4 (.mov cZ)] [4] false)
 (.seq
 (.region [Mv 7 0,
 Ca 8 ix [.t 7],
 Mv 5 8] [5] false)
 (.seq
 (.region [Mv 9 1,
 Ca 10 ix [.t 9],
 Mv 6 10] [6] false)
 (.seq
 (.seq
 (.region [Mv 11 5] [11] false)
 (.cond (.t 11)
 (.seq
 (.seq
 (.region [Mv 12 6] [12] false)
 (.cond (.t 12)
 (.seq
 (.region [oN 4 (.mov cZ)] [4] false)
 .ret)
 .skip))
 (.seq
 (.region [oN 4 (.mov (.c (.int .i64 (-1))))] [4] false)
 .ret))
 .skip))
 (.seq
 (.seq
 (.region [Mv 13 6] [13] false)
 (.cond (.t 13)
 (.seq
 (.region [oN 4 (.mov cO)] [4] false)
 .ret)
 .skip))
 (.seq
 (.seq
 (.region [Mv 14 0,
 Mv 15 1,
 oN 16 (.bin .lss .val (.t 14) (.t 15))] [16] false)
 (.cond (.t 16)
 (.seq
 (.region [oN 4 (.mov (.c (.int .i64 (-1))))] [4] false)
 .ret)
 .skip))
 (.seq
 (.seq
 (.region [Mv 17 0,
 Mv 18 1,
 oN 19 (.bin .gtr .val (.t 17) (.t 18))] [19] false)
 (.cond (.t 19)
 (.seq
 (.region [oN 4 (.mov cO)] [4] false)
 .ret)
 .skip))
 (.seq
 (.region [oN 4 (.mov cZ)] [4] false)
 .ret))))))))
def ea : bS := ⟨2, jr, [.t 4], .pure⟩
def zb : List Nat := [0, 1, 4, 5, 6, 11, 12, 13, 16, 19]
def Iz : ae :=
 (.seq
 (.region [oN 4 (.mov cF)] [4] false)
 (.seq
 (.region [Mv 5 0,
 Ca 6 qB [.t 5],
 Mv 7 1,
 oN 8 (.bin .and .val (.t 6) (.t 7)),
 oN 9 (.bin .neq .val (.t 8) (.c (.int .u8 0))),
 Mv 4 9] [4] false)
 .ret))
def DA : bS := ⟨2, Iz, [.t 4], .pure⟩
def P6 : List Nat := [0, 1, 4]
def sZ : ae :=
 (.seq
 (.region [oN 4 (.mov cZ)] [4] false)
 (.seq
 (.region [Mv 5 0,
 Mv 6 1,
 Ca 7 kF [.t 5, .t 6, cT],
 Mv 4 7] [4] false)
 .ret))
def nX : bS := ⟨2, sZ, [.t 4], .pure⟩
def Bq : List Nat := [0, 1, 4]
def sY : ae :=
 (.seq
 (.region [oN 4 (.mov (.c (.str []))),
 oN 5 (.mov cF)] [4, 5] false)
 (.seq
 (.region [Mv 6 0,
 Mv 7 1,
 Ca 8 dy [.t 6, .t 7],
 oN 9 (.ext (.t 8) 0),
 oN 10 (.ext (.t 8) 1),
 Mv 4 9,
 Mv 5 10] [4, 5] false)
 .ret))
def nW : bS := ⟨2, sY, [.t 4, .t 5], .pure⟩
def Bp : List Nat := [0, 1, 4, 5]
def mv : ae :=
 (.seq
 (.region [oN 9 (.bin .lss .val (.t 8) (.t 7))] [9] false)
 (.seq
 (.cond (.t 9)
 .skip
 (.exit 0))
 (.seq
 (.block 1
 (.seq
 (.region [Mv 10 8,
 Mv 5 10] [5] false)
 (.seq
 (.region [Mv 11 1,
 Mv 12 0,
 Mv 13 5,
 Ia 14 3 12 13,
 oN 15 (.load true 3 (.t 14)),
 oN 16 (.call (.t 11) [.t 15])] [16] false)
 (.cond (.t 16)
 (.seq
 (.region [Mv 17 5,
 Mv 4 17] [4] false)
 .ret)
 .skip))))
 (.region [oN 18 (.bin .add .val (.t 8) cO),
 Mv 8 18] [8] false))))
def mM : ae :=
 (.seq
 (.region [oN 4 (.mov cZ)] [4] false)
 (.seq
 (.seq
 (.region [Mv 6 0,
 oN 7 (.len .slice (.t 6)),
 oN 8 (.mov cZ)] [7, 8] false)
 (.block 0
 (.loop [4, 5, 9, 16] mv)))
 (.seq
 (.region [oN 4 (.mov (.c (.int .i64 (-1))))] [4] false)
 .ret)))
def mL : bS := ⟨2, mM, [.t 4], .pure⟩
def mP : List Nat := [0, 1, 4, 5, 7, 8, 9, 16]
def km : ae :=
 (.seq
 (.region [oN 4 (.mov (.c (.sl .nil 1 [])))] [4] false)
 (.seq
 (.seq
 (.region [Mv 5 1,
 oN 6 (.bin .lss .val (.t 5) cZ)] [6] false)
 (.cond (.t 6)
 (.region [oN 7 (.mkif 9 (.c (.str [99, 97, 110, 110, 111, 116, 32, 98, 101, 32, 110, 101, 103, 97, 116, 105, 118, 101]))),
 oU (.panic (.t 7))] [] false)
 .skip))
 (.seq
 (.seq
 (.region [Mv 8 1,
 Mv 9 0,
 oN 10 (.cap (.t 9)),
 Mv 11 0,
 oN 12 (.len .slice (.t 11)),
 oN 13 (.bin .sub .val (.t 10) (.t 12)),
 oN 14 (.bin .sub .val (.t 8) (.t 13)),
 Mv 1 14] [1] false)
 (.seq
 (.region [Mv 15 1,
 oN 16 (.bin .gtr .val (.t 15) cZ)] [16] false)
 (.cond (.t 16)
 (.region [Mv 17 0,
 Mv 18 0,
 oN 19 (.cap (.t 18)),
 oN 20 (.slice 1 (.t 17) none (some (.t 19)) none),
 Mv 21 1,
 oN 22 (.appz 1 (.t 20) (.t 21)),
 Mv 23 0,
 oN 24 (.len .slice (.t 23)),
 oN 25 (.slice 1 (.t 22) none (some (.t 24)) none),
 Mv 0 25] [0] false)
 .skip)))
 (.seq
 (.region [Mv 26 0,
 Mv 4 26] [4] false)
 .ret))))
def gk : bS := ⟨2, km, [.t 4], .keep⟩
def vK : List Nat := [0, 1, 4, 6, 16]
def cw : ae :=
 (.seq
 (.region [oN 2 (.mov (.c (.sl .nil 3 [])))] [2] false)
 (.seq
 (.seq
 (.region [Mv 3 0,
 oN 4 (.bin .eql .slice (.t 3) (.c (.sl .nil 3 [])))] [4] false)
 (.cond (.t 4)
 (.seq
 (.region [oN 2 (.mov (.c (.sl .nil 3 [])))] [2] false)
 .ret)
 .skip))
 (.seq
 (.region [oN 5 (.bslice 3 [.int .i64 0, .str [], .sl .nil 3 []] 0 []),
 Mv 6 0,
 oN 7 (.appm 3 (.t 5) (.t 6)),
 Mv 2 7] [2] false)
 .ret)))
def br : bS := ⟨1, cw, [.t 2], .eff⟩
def nJ : List Nat := [0, 2, 4]
def Cv : ae :=
 (.seq
 (.region [oN 4 (.mov cF)] [4] false)
 (.seq
 (.region [Mv 5 0,
 Mv 6 1,
 Ca 7 gJ [.t 5, .t 6],
 oN 8 (.bin .eql .val (.t 7) cZ),
 Mv 4 8] [4] false)
 .ret))
def wK : bS := ⟨2, Cv, [.t 4], .pure⟩
def KI : List Nat := [0, 1, 4]
def vR : ae :=
 (.seq
 (.region [oN 2 (.mov cF)] [2] false)
 (.seq
 (.region [Mv 3 0,
 Mv 4 0,
 oN 5 (.bin .neq .val (.t 3) (.t 4)),
 Mv 2 5] [2] false)
 .ret))
def rj : bS := ⟨1, vR, [.t 2], .pure⟩
def D8 : List Nat := [0, 2]
def dC : ae :=
 (.seq
 (.seq
 (.region [Mv 4 3,
 Mv 5 0,
 oN 6 (.len .str (.t 5)),
 oN 7 (.bin .lss .val (.t 4) (.t 6))] [7] false)
 (.cond (.t 7)
 .skip
 (.exit 0)))
 (.seq
 (.block 1
 (.seq
 (.region [Mv 10 0,
 Mv 11 3,
 oN 12 (.index (.t 10) (.t 11)),
 oN 13 (.bin .lss .val (.t 12) (.c (.int .u8 32))),
 Mv 14 13,
 oG 15 (some (14, false)) (.mov (.t 0)),
 oG 16 (some (14, false)) (.mov (.t 3)),
 oG 17 (some (14, false)) (.index (.t 15) (.t 16)),
 oG 18 (some (14, false)) (.bin .gtr .val (.t 17) (.c (.int .u8 126))),
 oN 19 (.pick (.t 14) cT (.t 18))] [19] false)
 (.cond (.t 19)
 (.seq
 (.region [oN 2 (.mov cF)] [2] false)
 .ret)
 .skip)))
 (.region [Mv 8 3,
 oN 9 (.bin .add .val (.t 8) cO),
 Mv 3 9] [3] false)))
def pS : ae :=
 (.seq
 (.region [oN 2 (.mov cF)] [2] false)
 (.seq
 (.seq
 (.region [oN 3 (.mov cZ)] [3] false)
 (.block 0
 (.loop [2, 7, 19] dC)))
 (.seq
 (.region [Mv 20 0,
 oN 21 (.bin .neq .val (.t 20) (.c (.str []))),
 Mv 22 21,
 oG 23 (some (22, true)) (.mov (.t 0)),
 oG 24 (some (22, true)) (.len .str (.t 23)),
 oG 25 (some (22, true)) (.bin .leq .val (.t 24) (.c (.int .i64 60))),
 oN 26 (.pick (.t 22) (.t 25) cF),
 Mv 2 26] [2] false)
 .ret)))
def lr : bS := ⟨1, pS, [.t 2], .pure⟩
def xM : List Nat := [0, 2, 3, 7, 19]
def bT : ae :=
 (.seq
 (.seq
 (.region [Mv 15 3,
 Mv 16 0,
 oN 17 (.len .str (.t 16)),
 oN 18 (.bin .lss .val (.t 15) (.t 17))] [18] false)
 (.cond (.t 18)
 .skip
 (.exit 0)))
 (.seq
 (.block 1
 (.seq
 (.region [Mv 21 0,
 Mv 22 3,
 oN 23 (.index (.t 21) (.t 22)),
 Ca 24 ei [.t 23],
 oN 25 (.un .not (.t 24))] [25] false)
 (.cond (.t 25)
 (.seq
 (.region [oN 2 (.mov cF)] [2] false)
 .ret)
 .skip)))
 (.region [Mv 19 3,
 oN 20 (.bin .add .val (.t 19) cO),
 Mv 3 20] [3] false)))
def eo : ae :=
 (.seq
 (.region [oN 2 (.mov cF)] [2] false)
 (.seq
 (.seq
 (.region [Mv 4 0,
 oN 5 (.bin .eql .val (.t 4) (.c (.str [48])))] [5] false)
 (.cond (.t 5)
 (.seq
 (.region [oN 2 (.mov cT)] [2] false)
 .ret)
 .skip))
 (.seq
 (.seq
 (.region [Mv 6 0,
 oN 7 (.bin .neq .val (.t 6) (.c (.str []))),
 Mv 8 7,
 oG 9 (some (8, true)) (.mov (.t 0)),
 oG 10 (some (8, true)) (.index (.t 9) cZ),
 oG 11 (some (8, true)) (.bin .eql .val (.t 10) (.c (.int .u8 45))),
 oN 12 (.pick (.t 8) (.t 11) cF)] [12] false)
 (.cond (.t 12)
 (.region [Mv 13 0,
 oN 14 (.slice 0 (.t 13) (some cO) none none),
 Mv 0 14] [0] false)
 .skip))
 (.seq
 (.seq
 (.region [oN 3 (.mov cZ)] [3] false)
 (.block 0
 (.loop [2, 5, 12, 18, 25] bT)))
 (.seq
 (.region [Mv 26 0,
 oN 27 (.bin .neq .val (.t 26) (.c (.str []))),
 Mv 28 27,
 oG 29 (some (28, true)) (.mov (.t 0)),
 oG 30 (some (28, true)) (.len .str (.t 29)),
 oG 31 (some (28, true)) (.bin .leq .val (.t 30) (.c (.int .i64 500))),
 oN 32 (.pick (.t 28) (.t 31) cF),
 Mv 33 32,
 oG 34 (some (33, true)) (.mov (.t 0)),
 oG 35 (some (33, true)) (.index (.t 34) cZ),
 oG 36 (some (33, true)) (.bin .neq .val (.t 35) (.c (.int .u8 48))),
 oN 37 (.pick (.t 33) (.t 36) cF),
 Mv 2 37] [2] false)
 .ret)))))
def di : bS := ⟨1, eo, [.t 2], .pure⟩
def vI : List Nat := [0, 2, 3, 5, 12, 18, 25]
def dK : ae :=
 (.seq
 (.seq
 (.region [Mv 4 3,
 Mv 5 0,
 oN 6 (.len .str (.t 5)),
 oN 7 (.bin .lss .val (.t 4) (.t 6))] [7] false)
 (.cond (.t 7)
 .skip
 (.exit 0)))
 (.seq
 (.block 1
 (.seq
 (.region [Mv 10 0,
 Mv 11 3,
 oN 12 (.index (.t 10) (.t 11)),
 Ca 13 dN [.t 12],
 oN 14 (.un .not (.t 13)),
 Mv 15 14,
 oG 16 (some (15, true)) (.mov (.t 0)),
 oG 17 (some (15, true)) (.mov (.t 3)),
 oG 18 (some (15, true)) (.index (.t 16) (.t 17)),
 oG 19 (some (15, true)) (.call (.c (.fn ei [] [])) [.t 18]),
 oG 20 (some (15, true)) (.un .not (.t 19)),
 oN 21 (.pick (.t 15) (.t 20) cF)] [21] false)
 (.cond (.t 21)
 (.seq
 (.region [oN 2 (.mov cF)] [2] false)
 .ret)
 .skip)))
 (.region [Mv 8 3,
 oN 9 (.bin .add .val (.t 8) cO),
 Mv 3 9] [3] false)))
def qV : ae :=
 (.seq
 (.region [oN 2 (.mov cF)] [2] false)
 (.seq
 (.seq
 (.region [oN 3 (.mov cZ)] [3] false)
 (.block 0
 (.loop [2, 7, 21] dK)))
 (.seq
 (.region [Mv 22 0,
 oN 23 (.bin .neq .val (.t 22) (.c (.str []))),
 Mv 24 23,
 oG 25 (some (24, true)) (.mov (.t 0)),
 oG 26 (some (24, true)) (.len .str (.t 25)),
 oG 27 (some (24, true)) (.bin .leq .val (.t 26) (.c (.int .i64 40))),
 oN 28 (.pick (.t 24) (.t 27) cF),
 Mv 2 28] [2] false)
 .ret)))
def mf : bS := ⟨1, qV, [.t 2], .pure⟩
def yV : List Nat := [0, 2, 3, 7, 21]
def gV : ae :=
 (.seq
 (.seq
 (.region [Mv 20 5,
 Mv 21 0,
 oN 22 (.len .str (.t 21)),
 oN 23 (.bin .lss .val (.t 20) (.t 22))] [23] false)
 (.cond (.t 23)
 .skip
 (.exit 0)))
 (.seq
 (.block 1
 (.seq
 (.region [Mv 26 0,
 Mv 27 5,
 oN 28 (.index (.t 26) (.t 27)),
 Ca 29 jz [.t 28],
 oN 30 (.un .not (.t 29))] [30] false)
 (.cond (.t 30)
 (.seq
 (.region [oN 4 (.mov cF)] [4] false)
 .ret)
 .skip)))
 (.region [Mv 24 5,
 oN 25 (.bin .add .val (.t 24) cO),
 Mv 5 25] [5] false)))
def eV : ae :=
 (.seq
 (.region [oN 4 (.mov cF)] [4] false)
 (.seq
 (.seq
 (.region [Mv 6 0,
 oN 7 (.bin .eql .val (.t 6) (.c (.str []))),
 Mv 8 7,
 oG 9 (some (8, false)) (.mov (.t 0)),
 oG 10 (some (8, false)) (.len .str (.t 9)),
 oG 11 (some (8, false)) (.mov (.t 1)),
 oG 12 (some (8, false)) (.bin .gtr .val (.t 10) (.t 11)),
 oN 13 (.pick (.t 8) cT (.t 12)),
 Mv 14 13,
 oG 15 (some (14, false)) (.mov (.t 0)),
 oG 16 (some (14, false)) (.index (.t 15) cZ),
 oG 17 (some (14, false)) (.call (.c (.fn dN [] [])) [.t 16]),
 oG 18 (some (14, false)) (.un .not (.t 17)),
 oN 19 (.pick (.t 14) cT (.t 18))] [19] false)
 (.cond (.t 19)
 (.seq
 (.region [oN 4 (.mov cF)] [4] false)
 .ret)
 .skip))
 (.seq
 (.seq
 (.region [oN 5 (.mov cZ)] [5] false)
 (.block 0
 (.loop [1, 4, 19, 23, 30] gV)))
 (.seq
 (.region [oN 4 (.mov cT)] [4] false)
 .ret))))
def dI : bS := ⟨2, eV, [.t 4], .pure⟩
def xL : List Nat := [0, 1, 4, 5, 19, 23, 30]
def od : ae :=
 (.seq
 (.region [oN 1 (.box 3 (.t 0)),
 oN 2 (.mov cF)] [1, 2] false)
 (.seq
 (.region [Fa 3 0 1,
 Ld 4 1 3,
 oN 5 (.bin .geq .val (.t 4) cO),
 Mv 6 5,
 oG 7 (some (6, true)) (.faddr 0 (.t 1)),
 oG 8 (some (6, true)) (.load false 1 (.t 7)),
 oG 9 (some (6, true)) (.bin .leq .val (.t 8) (.c (.int .i64 3))),
 oN 10 (.pick (.t 6) (.t 9) cF),
 Mv 2 10] [2] false)
 .ret))
def kl : bS := ⟨1, od, [.t 2], .pure⟩
def vJ : List Nat := [0, 1, 2]
def sW : ae :=
 (.seq
 (.region [oN 2 (.mov cF)] [2] false)
 (.seq
 (.region [Mv 3 0,
 Mv 4 0,
 oN 5 (.bin .neq .val (.t 3) (.t 4)),
 Mv 2 5] [2] false)
 .ret))
def nU : bS := ⟨1, sW, [.t 2], .pure⟩
def Bm : List Nat := [0, 2]
def co : ae :=
 (.seq
 (.region [oN 2 (.mov (.c (.int .u8 0)))] [2] false)
 (.seq
 (.block 0
 (.seq
 (.region [Mv 4 0,
 oN 5 (.bin .geq .val (.t 4) (.c (.int .u8 97))),
 Mv 6 5,
 oG 7 (some (6, true)) (.mov (.t 0)),
 oG 8 (some (6, true)) (.bin .leq .val (.t 7) (.c (.int .u8 122))),
 oN 9 (.pick (.t 6) (.t 8) cF),
 Mv 10 9,
 oG 11 (some (10, false)) (.mov (.t 0)),
 oG 12 (some (10, false)) (.bin .geq .val (.t 11) (.c (.int .u8 65))),
 oG 13 (some (10, false)) (.mov (.t 12)),
 oG 14 (some (13, true)) (.mov (.t 0)),
 oG 15 (some (13, true)) (.bin .leq .val (.t 14) (.c (.int .u8 90))),
 oG 16 (some (10, false)) (.pick (.t 13) (.t 15) cF),
 oN 17 (.pick (.t 10) cT (.t 16)),
 Mv 3 17] [3] false)
 (.cond (.t 3)
 (.seq
 (.region [oN 2 (.mov (.c (.int .u8 5)))] [2] false)
 .ret)
 (.seq
 (.region [Mv 19 0,
 oN 20 (.bin .geq .val (.t 19) (.c (.int .u8 48))),
 Mv 21 20,
 oG 22 (some (21, true)) (.mov (.t 0)),
 oG 23 (some (21, true)) (.bin .leq .val (.t 22) (.c (.int .u8 57))),
 oN 24 (.pick (.t 21) (.t 23) cF),
 Mv 18 24] [18] false)
 (.cond (.t 18)
 (.seq
 (.region [oN 2 (.mov (.c (.int .u8 6)))] [2] false)
 .ret)
 (.seq
 (.region [Mv 26 0,
 oN 27 (.bin .eql .val (.t 26) (.c (.int .u8 45))),
 Mv 28 27,
 oG 29 (some (28, false)) (.mov (.t 0)),
 oG 30 (some (28, false)) (.bin .eql .val (.t 29) (.c (.int .u8 95))),
 oN 31 (.pick (.t 28) cT (.t 30)),
 Mv 25 31] [25] false)
 (.cond (.t 25)
 (.seq
 (.region [oN 2 (.mov (.c (.int .u8 4)))] [2] false)
 .ret)
 (.seq
 (.region [Mv 33 0,
 oN 34 (.bin .eql .val (.t 33) (.c (.int .u8 32))),
 Mv 35 34,
 oG 36 (some (35, false)) (.mov (.t 0)),
 oG 37 (some (35, false)) (.bin .eql .val (.t 36) (.c (.int .u8 9))),
 oN 38 (.pick (.t 35) cT (.t 37)),
 Mv 39 38,
 oG 40 (some (39, false)) (.mov (.t 0)),
 oG 41 (some (39, false)) (.bin .eql .val (.t 40) (.c (.int .u8 10))),
 oN 42 (.pick (.t 39) cT (.t 41)),
 Mv 43 42,
 oG 44 (some (43, false)) (.mov (.t 0)),
 oG 45 (some (43, false)) (.bin .eql .val (.t 44) (.c (.int .u8 13))),
 oN 46 (.pick (.t 43) cT (.t 45)),
 Mv 32 46] [32] false)
 (.cond (.t 32)
 (.seq
 (.region [oN 2 (.mov (.c (.int .u8 8)))] [2] false)
 .ret)
 .skip)))))))))
 (.seq
 (.region [oN 2 (.mov (.c (.int .u8 0)))] [2] false)
 .ret)))
def bK : bS := ⟨1, co, [.t 2], .pure⟩
def HE : List Nat := [0, 2, 3, 18, 25, 32]
def gD : ae :=
 (.seq
 (.region [oN 11 (.nexts (.t 10)),
 oN 12 (.ext (.t 11) 0)] [11, 12] false)
 (.seq
 (.cond (.t 12)
 .skip
 (.exit 0))
 (.block 1
 (.seq
 (.region [oN 13 (.ext (.t 11) 1),
 oN 14 (.ext (.t 11) 2),
 Mv 7 13,
 Mv 8 14] [7, 8] false)
 (.seq
 (.region [Mv 15 1,
 Mv 16 8,
 oN 17 (.call (.t 15) [.t 16]),
 Mv 18 2,
 oN 19 (.bin .eql .bool (.t 17) (.t 18))] [19] false)
 (.cond (.t 19)
 (.seq
 (.region [Mv 20 7,
 Mv 6 20] [6] false)
 .ret)
 .skip))))))
def s7 : ae :=
 (.seq
 (.region [oN 6 (.mov cZ)] [6] false)
 (.seq
 (.seq
 (.region [Mv 9 0,
 oN 10 (.ranges (.t 9))] [10] false)
 (.block 0
 (.loop [0, 6, 7, 8, 11, 12, 19] gD)))
 (.seq
 (.region [oN 6 (.mov (.c (.int .i64 (-1))))] [6] false)
 .ret)))
def nY : bS := ⟨3, s7, [.t 6], .pure⟩
def Br : List Nat := [0, 1, 2, 6, 7, 8, 10, 11, 12, 19]
def du : ae :=
 (.seq
 (.region [oN 4 (.mov (.c (.str []))),
 oN 5 (.mov cF)] [4, 5] false)
 (.seq
 (.seq
 (.region [Mv 6 0,
 Mv 7 1,
 Ca 8 dz [.t 6, .t 7],
 oN 9 (.un .not (.t 8))] [9] false)
 (.cond (.t 9)
 (.seq
 (.region [Mv 10 0,
 Mv 4 10,
 oN 5 (.mov cF)] [4, 5] false)
 .ret)
 .skip))
 (.seq
 (.region [Mv 11 0,
 Mv 12 1,
 oN 13 (.len .str (.t 12)),
 oN 14 (.slice 0 (.t 11) (some (.t 13)) none none),
 Mv 4 14,
 oN 5 (.mov cT)] [4, 5] false)
 .ret)))
def bZ : bS := ⟨2, du, [.t 4, .t 5], .pure⟩
def qJ : List Nat := [0, 1, 4, 5, 9]
def qS : ae :=
 (.seq
 (.region [oN 2 (.mov cF)] [2] false)
 (.seq
 (.region [Mv 3 0,
 oN 4 (.bin .geq .val (.t 3) (.c (.int .u8 48))),
 Mv 5 4,
 oG 6 (some (5, true)) (.mov (.t 0)),
 oG 7 (some (5, true)) (.bin .leq .val (.t 6) (.c (.int .u8 57))),
 oN 8 (.pick (.t 5) (.t 7) cF),
 Mv 2 8] [2] false)
 .ret))
def mb : bS := ⟨1, qS, [.t 2], .pure⟩
def yS : List Nat := [0, 2]
def pT : ae :=
 (.seq
 (.region [oN 2 (.mov cF)] [2] false)
 (.seq
 (.region [Mv 3 0,
 oN 4 (.bin .geq .val (.t 3) (.c (.int .u8 97))),
 Mv 5 4,
 oG 6 (some (5, true)) (.mov (.t 0)),
 oG 7 (some (5, true)) (.bin .leq .val (.t 6) (.c (.int .u8 122))),
 oN 8 (.pick (.t 5) (.t 7) cF),
 Mv 9 8,
 oG 10 (some (9, false)) (.mov (.t 0)),
 oG 11 (some (9, false)) (.bin .geq .val (.t 10) (.c (.int .u8 65))),
 oG 12 (some (9, false)) (.mov (.t 11)),
 oG 13 (some (12, true)) (.mov (.t 0)),
 oG 14 (some (12, true)) (.bin .leq .val (.t 13) (.c (.int .u8 90))),
 oG 15 (some (9, false)) (.pick (.t 12) (.t 14) cF),
 oN 16 (.pick (.t 9) cT (.t 15)),
 Mv 2 16] [2] false)
 .ret))
def lu : bS := ⟨1, pT, [.t 2], .pure⟩
def xN : List Nat := [0, 2]
def qU : ae :=
 (.seq
 (.region [oN 2 (.mov cF)] [2] false)
 (.seq
 (.region [Mv 3 0,
 Ca 4 dN [.t 3],
 Mv 5 4,
 oG 6 (some (5, false)) (.mov (.t 0)),
 oG 7 (some (5, false)) (.call (.c (.fn ei [] [])) [.t 6]),
 oN 8 (.pick (.t 5) cT (.t 7)),
 Mv 9 8,
 oG 10 (some (9, false)) (.mov (.t 0)),
 oG 11 (some (9, false)) (.bin .eql .val (.t 10) (.c (.int .u8 45))),
 oN 12 (.pick (.t 9) cT (.t 11)),
 Mv 13 12,
 oG 14 (some (13, false)) (.mov (.t 0)),
 oG 15 (some (13, false)) (.bin .eql .val (.t 14) (.c (.int .u8 95))),
 oN 16 (.pick (.t 13) cT (.t 15)),
 Mv 2 16] [2] false)
 .ret))
def md : bS := ⟨1, qU, [.t 2], .pure⟩
def yU : List Nat := [0, 2]
def dv : ae :=
 (.seq
 (.region [oN 4 (.mov cF)] [4] false)
 (.seq
 (.region [Mv 5 0,
 oN 6 (.len .str (.t 5)),
 Mv 7 1,
 oN 8 (.len .str (.t 7)),
 oN 9 (.bin .geq .val (.t 6) (.t 8)),
 Mv 10 9,
 oG 11 (some (10, true)) (.mov (.t 0)),
 oG 12 (some (10, true)) (.mov (.t 1)),
 oG 13 (some (10, true)) (.len .str (.t 12)),
 oG 14 (some (10, true)) (.slice 0 (.t 11) none (some (.t 13)) none),
 oG 15 (some (10, true)) (.mov (.t 1)),
 oG 16 (some (10, true)) (.bin .eql .val (.t 14) (.t 15)),
 oN 17 (.pick (.t 10) (.t 16) cF),
 Mv 4 17] [4] false)
 .ret))
def cd : bS := ⟨2, dv, [.t 4], .pure⟩
def qK : List Nat := [0, 1, 4]
def ag : List (Nat × bS × List Nat) := [
 (jK, fB, uV),
 (jy, jm, yO),
 (eh, yj, yR),
 (qC, tf, KP),
 (j9, jS, AE),
 (j4, mR, Ap),
 (dr, l9, yP),
 (fO, ma, yQ),
 (BJ, HP, Im),
 (qE, pO, HJ),
 (oK, sn, Fq),
 (nj, tR, HG),
 (iq, sq, Fs),
 (iQ, iA, xW),
 (dH, mX, AF),
 (cW, fE, uZ),
 (cV, fC, uW),
 (ej, mc, yT),
 (ip, er, Fk),
 (nF, wL, KJ),
 (fA, qL, qO),
 (aR, nP, Bi),
 (qy, tP, HC),
 (jw, l8, yN),
 (kg, pN, Dx),
 (qD, tS, HI),
 (dX, dS, Dy),
 (lW, ss, Ft),
 (ox, vC, Iq),
 (rE, vB, Il),
 (aW, dR, sk),
 (qt, pJ, Hu),
 (kc, mA, Ds),
 (kG, nZ, Bu),
 (g8, kH, wF),
 (dW, gw, sf),
 (eH, gP, wG),
 (kB, nS, Bl),
 (iP, lz, xV),
 (kA, nR, Bk),
 (j6, jQ, Ax),
 (fh, eT, xP),
 (ff, iZ, uM),
 (fQ, mh, yX),
 (bR, gO, wD),
 (ax, bJ, jl),
 (ka, pH, Dq),
 (aM, gv, se),
 (kb, pI, Dr),
 (eO, aD, tz),
 (qA, wN, KL),
 (de, ia, sL),
 (gI, mZ, nt),
 (jc, tL, uK),
 (jD, pz, pE),
 (jE, pA, pF),
 (qq, wJ, xK),
 (jd, oP, Co),
 (kQ, kI, D9),
 (g9, jT, Du),
 (kS, rk, Ea),
 (fG, fF, u4),
 (eP, dt, tA),
 (bx, bw, ld),
 (bo, aQ, ku),
 (iy, nV, Bn),
 (dF, iY, uJ),
 (hG, mC, Dv),
 (sa, pd, MD),
 (fR, dY, yZ),
 (fp, nQ, Bj),
 (fg, lv, xO),
 (fS, jn, y4),
 (fP, mg, yW),
 (fT, mi, y6),
 (fj, ly, xT),
 (eI, gx, Ay),
 (ek, dZ, y5),
 (da, lw, xQ),
 (gH, jR, Az),
 (eJ, mV, AA),
 (jC, mj, y8),
 (eE, ez, Ar),
 (gG, eA, As),
 (bc, cg, kj),
 (iX, kK, Ee),
 (fe, lq, xJ),
 (jN, oB, Fm),
 (dA, mB, Dt),
 (ux, BU, NZ),
 (nG, wO, KM),
 (tt, cX, KO),
 (bm, mQ, Ao),
 (fX, ml, mz),
 (BK, HQ, Ip),
 (qu, pK, Hv),
 (je, oQ, Cq),
 (ga, kJ, Eb),
 (aS, cH, la),
 (ba, ce, ki),
 (qv, tN, Hx),
 (kT, mY, Hz),
 (eu, il, sP),
 (fq, ky, Bo),
 (qw, tO, Hy),
 (fc, eS, uL),
 (eF, mS, At),
 (eG, mT, Av),
 (j5, mU, Aw),
 (j7, mW, AC),
 (bP, jp, za),
 (fV, aJ, y9),
 (oI, sm, Fo),
 (gJ, pL, HB),
 (kf, wM, KK),
 (qz, tQ, HD),
 (mJ, gR, Dw),
 (iR, lB, xX),
 (jg, pM, HF),
 (oJ, ft, Fp),
 (nH, wP, KN),
 (fm, lA, lJ),
 (yg, EX, Fl),
 (bC, bz, lK),
 (bY, rm, Ec),
 (jf, i6, uN),
 (fH, jG, u5),
 (ni, tM, Hw),
 (dg, ii, sM),
 (eg, dk, yM),
 (dh, ij, sN),
 (ke, pc, MC),
 (bX, ik, sO),
 (qx, gz, HA),
 (jB, aN, yY),
 (iN, lx, xR),
 (dQ, fD, uX),
 (fU, bM, y7),
 (dG, jP, Aq),
 (dO, eU, xU),
 (j8, gy, AD),
 (fi, dJ, xS),
 (cK, gQ, wH),
 (f9, fY, Cp),
 (fW, ea, zb),
 (ww, DA, P6),
 (kD, nX, Bq),
 (kC, nW, Bp),
 (gd, mL, mP),
 (gt, gk, vK),
 (cC, br, nJ),
 (tq, wK, KI),
 (kP, rj, D8),
 (iM, lr, xM),
 (gp, di, vI),
 (jA, mf, yV),
 (iL, dI, xL),
 (gq, kl, vJ),
 (ix, nU, Bm),
 (qB, bK, HE),
 (kF, nY, Br),
 (dy, bZ, qJ),
 (ei, mb, yS),
 (dN, lu, xN),
 (jz, md, yU),
 (dz, cd, qK)]
end Ab.C
