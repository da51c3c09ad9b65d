/- The functions of the seat,translated. -/
import Derived.Test.YtdkgdkifeedcnaaAm16
import Derived.Test.YtdkgdkifeedcnaaChecked
import Derived.KernelRfl
namespace Go.Am
open Go Go.Proofs
namespace Z
abbrev m (a b : Nat) : AStep := ⟨some a,none,.op (.mov (.tmp b))⟩
abbrev o (a : Nat) (x : AOp) : AStep := ⟨some a,none,.op x⟩
abbrev y (a b : Nat) (x : AOp) : AStep := ⟨some a,some (some b,true),.op x⟩
abbrev w (a b : Nat) (x : AOp) : AStep := ⟨some a,some (some b,false),.op x⟩
abbrev e (x : AOp) : AStep := ⟨none,none,.op x⟩
abbrev f (a k : Nat) (l : List Opd) (t : Ty) : AStep := ⟨some a,none,.call (.fn k) l t⟩
abbrev p (a i b : Nat) : AStep := ⟨some a,none,.op (.fieldPtr i (.tmp b))⟩
abbrev g (a i : Nat) (t : Option Ty) (b : Nat) : AStep := ⟨some a,none,.op (.extract t i (.tmp b))⟩
abbrev lk (l : List Nat) (a : AC) : AC := .keep l (.loop l a)
abbrev s (l : List AStep) (a : AC) : AC := .seq (.ops l) a
abbrev D : List AV := [.int .u8 0,.int .u8 0,.int .u8 0,.int .u8 0,.int .u8 0,.int .u8 0,.int .u8 0,.int .u8 0,.int .u8 0,.int .u8 0,.int .u8 0,.int .u8 0,.int .u8 0,.int .u8 0,.int .u8 0,.int .u8 0,.int .u8 0,.int .u8 0,.int .u8 0,.int .u8 0,.int .u8 0,.int .u8 0,.int .u8 0,.int .u8 0,.int .u8 0,.int .u8 0,.int .u8 0,.int .u8 0,.int .u8 0,.int .u8 0,.int .u8 0,.int .u8 0]
abbrev ff : Opd := .const (.bool false)
abbrev tt : Opd := .const (.bool true)
abbrev i (n : Int) : Opd := .const (.int .i64 n)
abbrev u (n : Int) : Opd := .const (.int .u64 n)
abbrev I (n : Int) : AV := .int .i64 n
abbrev t0 : Opd := .tmp 0
abbrev t1 : Opd := .tmp 1
abbrev t2 : Opd := .tmp 2
abbrev t3 : Opd := .tmp 3
abbrev t4 : Opd := .tmp 4
abbrev t5 : Opd := .tmp 5
abbrev t6 : Opd := .tmp 6
abbrev t7 : Opd := .tmp 7
abbrev t8 : Opd := .tmp 8
abbrev t9 : Opd := .tmp 9
abbrev t10 : Opd := .tmp 10
abbrev t11 : Opd := .tmp 11
abbrev t12 : Opd := .tmp 12
abbrev t13 : Opd := .tmp 13
abbrev t14 : Opd := .tmp 14
abbrev t15 : Opd := .tmp 15
abbrev t16 : Opd := .tmp 16
abbrev t17 : Opd := .tmp 17
abbrev t18 : Opd := .tmp 18
abbrev t19 : Opd := .tmp 19
abbrev t20 : Opd := .tmp 20
abbrev t21 : Opd := .tmp 21
abbrev t22 : Opd := .tmp 22
abbrev t23 : Opd := .tmp 23
abbrev t24 : Opd := .tmp 24
abbrev t25 : Opd := .tmp 25
abbrev t26 : Opd := .tmp 26
abbrev t27 : Opd := .tmp 27
abbrev t28 : Opd := .tmp 28
abbrev t29 : Opd := .tmp 29
abbrev t30 : Opd := .tmp 30
abbrev t31 : Opd := .tmp 31
abbrev t32 : Opd := .tmp 32
abbrev t33 : Opd := .tmp 33
abbrev t34 : Opd := .tmp 34
abbrev t35 : Opd := .tmp 35
abbrev t36 : Opd := .tmp 36
abbrev t37 : Opd := .tmp 37
abbrev t38 : Opd := .tmp 38
abbrev t39 : Opd := .tmp 39
abbrev t40 : Opd := .tmp 40
abbrev t41 : Opd := .tmp 41
abbrev t42 : Opd := .tmp 42
abbrev t43 : Opd := .tmp 43
abbrev t44 : Opd := .tmp 44
abbrev t45 : Opd := .tmp 45
abbrev t46 : Opd := .tmp 46
abbrev t47 : Opd := .tmp 47
abbrev t48 : Opd := .tmp 48
abbrev t49 : Opd := .tmp 49
abbrev t50 : Opd := .tmp 50
abbrev t51 : Opd := .tmp 51
abbrev t52 : Opd := .tmp 52
abbrev t53 : Opd := .tmp 53
abbrev t54 : Opd := .tmp 54
abbrev t55 : Opd := .tmp 55
abbrev t56 : Opd := .tmp 56
abbrev t57 : Opd := .tmp 57
abbrev t58 : Opd := .tmp 58
abbrev t59 : Opd := .tmp 59
abbrev t60 : Opd := .tmp 60
abbrev t61 : Opd := .tmp 61
abbrev t62 : Opd := .tmp 62
abbrev t63 : Opd := .tmp 63
abbrev t64 : Opd := .tmp 64
abbrev t65 : Opd := .tmp 65
abbrev t66 : Opd := .tmp 66
abbrev t67 : Opd := .tmp 67
abbrev t68 : Opd := .tmp 68
abbrev t69 : Opd := .tmp 69
abbrev t70 : Opd := .tmp 70
abbrev t71 : Opd := .tmp 71
abbrev t72 : Opd := .tmp 72
abbrev t73 : Opd := .tmp 73
abbrev t74 : Opd := .tmp 74
abbrev t75 : Opd := .tmp 75
abbrev t76 : Opd := .tmp 76
abbrev t77 : Opd := .tmp 77
abbrev t78 : Opd := .tmp 78
abbrev t79 : Opd := .tmp 79
abbrev t80 : Opd := .tmp 80
abbrev t81 : Opd := .tmp 81
abbrev t82 : Opd := .tmp 82
abbrev t83 : Opd := .tmp 83
abbrev t84 : Opd := .tmp 84
abbrev t85 : Opd := .tmp 85
abbrev t86 : Opd := .tmp 86
abbrev t87 : Opd := .tmp 87
abbrev t88 : Opd := .tmp 88
abbrev t89 : Opd := .tmp 89
abbrev t90 : Opd := .tmp 90
abbrev t91 : Opd := .tmp 91
abbrev t92 : Opd := .tmp 92
abbrev t93 : Opd := .tmp 93
abbrev t94 : Opd := .tmp 94
abbrev t95 : Opd := .tmp 95
abbrev t96 : Opd := .tmp 96
abbrev t97 : Opd := .tmp 97
abbrev t98 : Opd := .tmp 98
abbrev t99 : Opd := .tmp 99
abbrev t100 : Opd := .tmp 100
abbrev t101 : Opd := .tmp 101
abbrev t102 : Opd := .tmp 102
abbrev t103 : Opd := .tmp 103
abbrev t104 : Opd := .tmp 104
abbrev t105 : Opd := .tmp 105
abbrev t106 : Opd := .tmp 106
abbrev t107 : Opd := .tmp 107
abbrev t108 : Opd := .tmp 108
abbrev t109 : Opd := .tmp 109
abbrev t110 : Opd := .tmp 110
abbrev t111 : Opd := .tmp 111
abbrev t112 : Opd := .tmp 112
abbrev t113 : Opd := .tmp 113
abbrev t114 : Opd := .tmp 114
abbrev t115 : Opd := .tmp 115
abbrev t116 : Opd := .tmp 116
abbrev t117 : Opd := .tmp 117
abbrev t118 : Opd := .tmp 118
abbrev t119 : Opd := .tmp 119
abbrev t120 : Opd := .tmp 120
abbrev t121 : Opd := .tmp 121
abbrev t122 : Opd := .tmp 122
abbrev t123 : Opd := .tmp 123
abbrev t124 : Opd := .tmp 124
abbrev t125 : Opd := .tmp 125
abbrev t126 : Opd := .tmp 126
abbrev t127 : Opd := .tmp 127
abbrev t128 : Opd := .tmp 128
abbrev t129 : Opd := .tmp 129
abbrev t130 : Opd := .tmp 130
abbrev t131 : Opd := .tmp 131
abbrev t132 : Opd := .tmp 132
abbrev t133 : Opd := .tmp 133
abbrev t134 : Opd := .tmp 134
abbrev t135 : Opd := .tmp 135
abbrev t136 : Opd := .tmp 136
abbrev t137 : Opd := .tmp 137
abbrev t138 : Opd := .tmp 138
abbrev t139 : Opd := .tmp 139
abbrev t140 : Opd := .tmp 140
abbrev t141 : Opd := .tmp 141
abbrev t142 : Opd := .tmp 142
abbrev t143 : Opd := .tmp 143
abbrev t144 : Opd := .tmp 144
abbrev t145 : Opd := .tmp 145
abbrev t146 : Opd := .tmp 146
abbrev t147 : Opd := .tmp 147
abbrev t148 : Opd := .tmp 148
abbrev t149 : Opd := .tmp 149
abbrev t150 : Opd := .tmp 150
abbrev t151 : Opd := .tmp 151
abbrev t152 : Opd := .tmp 152
abbrev t153 : Opd := .tmp 153
abbrev t154 : Opd := .tmp 154
abbrev t155 : Opd := .tmp 155
abbrev t156 : Opd := .tmp 156
abbrev t157 : Opd := .tmp 157
abbrev t158 : Opd := .tmp 158
abbrev t159 : Opd := .tmp 159
abbrev t160 : Opd := .tmp 160
abbrev t161 : Opd := .tmp 161
abbrev t162 : Opd := .tmp 162
abbrev t163 : Opd := .tmp 163
abbrev t164 : Opd := .tmp 164
abbrev t165 : Opd := .tmp 165
abbrev t166 : Opd := .tmp 166
abbrev t167 : Opd := .tmp 167
abbrev t168 : Opd := .tmp 168
abbrev t169 : Opd := .tmp 169
abbrev t170 : Opd := .tmp 170
abbrev t171 : Opd := .tmp 171
abbrev t172 : Opd := .tmp 172
abbrev t173 : Opd := .tmp 173
abbrev t174 : Opd := .tmp 174
abbrev t175 : Opd := .tmp 175
abbrev t176 : Opd := .tmp 176
abbrev t177 : Opd := .tmp 177
abbrev t178 : Opd := .tmp 178
abbrev t179 : Opd := .tmp 179
abbrev t183 : Opd := .tmp 183
abbrev t185 : Opd := .tmp 185
abbrev t186 : Opd := .tmp 186
abbrev t187 : Opd := .tmp 187
abbrev t188 : Opd := .tmp 188
abbrev t189 : Opd := .tmp 189
abbrev t190 : Opd := .tmp 190
abbrev t191 : Opd := .tmp 191
abbrev t192 : Opd := .tmp 192
abbrev t193 : Opd := .tmp 193
abbrev t195 : Opd := .tmp 195
abbrev t198 : Opd := .tmp 198
abbrev t199 : Opd := .tmp 199
abbrev t200 : Opd := .tmp 200
abbrev t201 : Opd := .tmp 201
abbrev t203 : Opd := .tmp 203
abbrev t204 : Opd := .tmp 204
abbrev t205 : Opd := .tmp 205
abbrev t206 : Opd := .tmp 206
abbrev t207 : Opd := .tmp 207
abbrev t208 : Opd := .tmp 208
abbrev t209 : Opd := .tmp 209
abbrev t210 : Opd := .tmp 210
abbrev t211 : Opd := .tmp 211
abbrev t213 : Opd := .tmp 213
abbrev t214 : Opd := .tmp 214
abbrev t215 : Opd := .tmp 215
abbrev t216 : Opd := .tmp 216
abbrev t217 : Opd := .tmp 217
abbrev t218 : Opd := .tmp 218
abbrev t220 : Opd := .tmp 220
abbrev t221 : Opd := .tmp 221
abbrev t222 : Opd := .tmp 222
abbrev t223 : Opd := .tmp 223
abbrev t224 : Opd := .tmp 224
abbrev t225 : Opd := .tmp 225
abbrev t226 : Opd := .tmp 226
abbrev t228 : Opd := .tmp 228
end Z
theorem okf {k : FuncId} {f : Func} {a : AFunc} (h : Try.prog.funcs[k]? = some f) (e : (f.body, decide (f.name ≠ "runtime.NumGoroutine"), comp Try.prog (f.body.getD .skip), f.ntmps, compRess Try.prog f.results.toList) = (some (f.body.getD .skip), true, some a.code.plain, a.slots, some a.res)) : FnOk Try.prog k a := by
 simp only [Prod.mk.injEq,decide_eq_true_eq] at e
 exact ⟨_,_,h,e.1,e.2.1,e.2.2.1,e.2.2.2.1,e.2.2.2.2⟩
section
open Z
def c7_0 : AC := .keep [1,5,6,8,10,12,14,15,16] (s [m 56 5,m 57 56,y 58 57 (.mov t15),o 59 (.pick t57 t58 ff),m 60 59,y 61 60 (.mov t8),y 62 60 (.mov t10),y 63 60 (.ibin .eql .i64 t61 t62),o 64 (.pick t60 t63 ff),m 65 64,y 66 65 (.mov t16),o 67 (.pick t65 t66 ff),m 68 67,y 69 68 (.mov t12),y 70 68 (.mov t14),y 71 68 (.ibin .eql .i64 t69 t70),o 72 (.pick t68 t71 ff),m 73 72,y 74 73 (.mov t6),y 75 73 (.toStr t74),y 76 73 (.mov t1),y 77 73 (.toStr t76),y 78 73 (.sbin .eql t75 t77),o 79 (.pick t73 t78 ff),m 4 79] .ret)
def c7_1 : AC := .keep [1,5,6,8,10,11,12,13,14,15] (s [o 53 (.ldA 9 t11),o 54 (.ldA 9 t13),f 55 19 [t53,t54] .bool,m 16 55] c7_0)
def c7_2 : AC := .keep [1,5,6,7,8,9,10,11,12,13,14] (s [o 50 (.ldA 6 t7),o 51 (.ldA 6 t9),f 52 15 [t50,t51] .bool,m 15 52] c7_1)
def c7_3 : AC := .keep [0,1,5,6,7,8,9,10,11,12] (s [m 44 0,m 45 1,o 46 (.toStr t45),f 47 23 [t44,t46] .other,m 43 47,g 48 0 none 43,g 49 1 (some (.int .i64)) 43,o 13 (.alloc [I 0,I 0,I 0,.nils,.nils,.nils,.nils,.nils,.nils]),e (.st 9 t13 t48),m 14 49] c7_2)
def c7_4 : AC := .keep [0,1,5,6,7,8,9,10] (s [m 38 0,m 39 6,f 40 22 [t38,t39] .other,m 37 40,g 41 0 none 37,g 42 1 (some (.int .i64)) 37,o 11 (.alloc [I 0,I 0,I 0,.nils,.nils,.nils,.nils,.nils,.nils]),e (.st 9 t11 t41),m 12 42] c7_3)
def c7_5 : AC := .keep [0,1,5,6,7,8] (s [m 32 1,o 33 (.toStr t32),f 34 21 [t33] .other,m 31 34,g 35 0 none 31,g 36 1 (some (.int .i64)) 31,o 9 (.alloc [I 0,.nils,(.str []),(.str []),(.str []),I 0]),e (.st 6 t9 t35),m 10 36] c7_4)
def c7_6 : AC := .keep [0,1,5,6] (s [m 27 6,f 28 20 [t27] .other,m 26 28,g 29 0 none 26,g 30 1 (some (.int .i64)) 26,o 7 (.alloc [I 0,.nils,(.str []),(.str []),(.str []),I 0]),e (.st 6 t7 t29),m 8 30] c7_5)
def c7_7 : AC := .keep [0,1,5] (s [o 23 (.buildSlice 1 0 [] []),m 24 1,o 25 (.append 1 1 t23 t24),m 6 25] c7_6)
def c7_8 : AC := .keep [0,1,5] (s [m 18 1,m 19 1,o 20 (.lenL t19),o 21 (.minI .i64 [t20,(i 4000)]),o 22 (.sliceL 1 t18 none (some t21) none),m 1 22] c7_7)
def c7_9 : AC := .keep [0,1] (s [f 17 11 [] .bool,m 5 17] c7_8)
def a7 : AFunc := ⟨80,[(4,none)],(s [o 4 (.mov ff)] c7_9)⟩
theorem ok7 : FnOk Try.prog 7 a7 := okf Try.func7 (by kernel_rfl)
def c11_0 : AC := .keep [1,2,3,4,5,6,8] (s [m 28 1,o 29 (.toStr t28),o 30 (.sbin .eql t29 (.const (.str [2,1,97]))),m 31 30,y 32 31 (.mov t2),y 33 31 (.ibin .eql .i64 t32 (i 0)),o 34 (.pick t31 t33 ff),m 35 34,y 36 35 (.mov t3),y 37 35 (.toStr t36),y 38 35 (.sbin .eql t37 (.const (.str [0,3,1]))),o 39 (.pick t35 t38 ff),m 40 39,y 41 40 (.mov t4),y 42 40 (.ibin .eql .i64 t41 (i 0)),o 43 (.pick t40 t42 ff),m 44 43,y 45 44 (.mov t5),y 46 44 (.toStr t45),y 47 44 (.sbin .eql t46 (.const (.str [5]))),o 48 (.pick t44 t47 ff),m 49 48,y 50 49 (.mov t6),y 51 49 (.ibin .eql .i64 t50 (i 0)),o 52 (.pick t49 t51 ff),m 53 52,y 54 53 (.mov t8),y 55 53 (.ibin .eql .i64 t54 (i 2)),o 56 (.pick t53 t55 ff),m 0 56] .ret)
def c11_1 : AC := .keep [1,2,3,4,5,6] (s [f 25 20 [(.const .nils)] .other,m 24 25,g 26 0 none 24,g 27 1 (some (.int .i64)) 24,o 7 (.alloc [I 0,.nils,(.str []),(.str []),(.str []),I 0]),e (.st 6 t7 t26),m 8 27] c11_0)
def c11_2 : AC := .keep [1,2,3,4] (s [o 20 (.build [I 0,I 0,I 0,.nils,.nils,.nils,.nils,.nils,.nils] [(0,(1,(i 5)))]),f 21 17 [(i 2),t20] .other,m 19 21,g 22 0 (some .other) 19,g 23 1 (some (.int .i64)) 19,m 5 22,m 6 23] c11_1)
def c11_3 : AC := .keep [1,2] (s [o 15 (.build [I 0,I 0,I 0,.nils,.nils,.nils,.nils,.nils,.nils] [(1,(1,(i 3))),(2,(1,(i 1)))]),f 16 17 [(i 6),t15] .other,m 14 16,g 17 0 (some .other) 14,g 18 1 (some (.int .i64)) 14,m 3 17,m 4 18] c11_2)
def c11_4 : AC := .keep [] (s [o 10 (.build [I 0,.nils,(.str []),(.str []),(.str []),I 0] [(0,(1,(i 2))),(2,(1,(.const (.str [97]))))]),f 11 13 [t10] .other,m 9 11,g 12 0 (some .other) 9,g 13 1 (some (.int .i64)) 9,m 1 12,m 2 13] c11_3)
def a11 : AFunc := ⟨57,[(0,none)],(s [o 0 (.mov ff)] c11_4)⟩
theorem ok11 : FnOk Try.prog 11 a11 := okf Try.func11 (by kernel_rfl)
def c12_0 : AC := .keep [1,2] (s [p 23 4 1,o 24 (.ld .str t23),p 25 4 1,o 26 (.ld .str t25),o 27 (.lenS t26),o 28 (.minI .i64 [t27,(i 200)]),o 29 (.sliceS t24 none (some t28)),p 30 4 1,e (.st 1 t30 t29)] (s [o 31 (.ldA 6 t1),e (.st 6 t2 t31)] .ret))
def c12_1 : AC := .keep [1,2] (s [p 15 3 1,o 16 (.ld .str t15),p 17 3 1,o 18 (.ld .str t17),o 19 (.lenS t18),o 20 (.minI .i64 [t19,(i 200)]),o 21 (.sliceS t16 none (some t20)),p 22 3 1,e (.st 1 t22 t21)] c12_0)
def c12_2 : AC := .keep [1,2] (s [p 7 2 1,o 8 (.ld .str t7),p 9 2 1,o 10 (.ld .str t9),o 11 (.lenS t10),o 12 (.minI .i64 [t11,(i 200)]),o 13 (.sliceS t8 none (some t12)),p 14 2 1,e (.st 1 t14 t13)] c12_1)
def c12_3 : AC := .keep [1,2] (s [p 3 1 1,o 4 (.ld .other t3),f 5 24 [t4,(i 40)] .other,p 6 1 1,e (.st 1 t6 t5)] c12_2)
def a12 : AFunc := ⟨32,[(2,(some (none,6)))],(s [o 1 (.box 6 t0),o 2 (.alloc [I 0,.nils,(.str []),(.str []),(.str []),I 0])] c12_3)⟩
theorem ok12 : FnOk Try.prog 12 a12 := okf Try.func12 (by kernel_rfl)
def c13_0 : AC := .keep [1,4] (.ops [m 95 4,p 96 1 1,o 97 (.ld .other t96),m 98 4,o 99 (.makeFunc (.func 27) [t98] []),f 100 26 [t95,t97,(i 32),t99] .other])
def c13_1 : AC := .keep [1,4,117] (.cond t117 (.ops [m 120 4,p 121 5 1,o 122 (.ld (.int .i64) t121),f 123 29 [t120,t122] .other]) .skip)
def c13_2 : AC := .keep [1,4,86,101] (.cond t101 (.ops [m 103 4,p 104 2 1,o 105 (.ld .str t104),f 106 28 [t103,t105] .other]) (s [o 108 (.ibin .eql .i64 t86 (i 3)),m 107 108] (.cond t107 (s [m 109 4,p 110 3 1,o 111 (.ld .str t110),f 112 28 [t109,t111] .other] (.ops [m 113 4,p 114 4 1,o 115 (.ld .str t114),f 116 28 [t113,t115] .other])) (.seq (s [o 118 (.ibin .eql .i64 t86 (i 4)),m 117 118] (.cond t117 .skip (.ops [o 119 (.ibin .eql .i64 t86 (i 5)),m 117 119]))) c13_1))))
def c13_3 : AC := .keep [1,4,86,87] (.cond t87 (s [m 89 4,p 90 1 1,o 91 (.ld .other t90),o 92 (.lenL t91),o 93 (.ibin .gtr .i64 t92 (i 0)),f 94 25 [t89,t93] .other] c13_0) (s [o 102 (.ibin .eql .i64 t86 (i 2)),m 101 102] c13_2))
def c13_4 : AC := .keep [1,4,86] (.block 0 (s [o 88 (.ibin .eql .i64 t86 (i 1)),m 87 88] c13_3))
def c13_5 : AC := .keep [4] (s [m 124 4,f 125 30 [t124] .other,g 126 0 (some .other) 125,g 127 1 (some (.int .i64)) 125,m 2 126,m 3 127] .ret)
def c13_6 : AC := .keep [1,4] (.seq (s [p 85 0 1,o 86 (.ld (.int .i64) t85)] c13_4) c13_5)
def c13_7 : AC := .keep [1,4] (s [m 72 4,p 73 2 1,o 74 (.ld .str t73),o 75 (.lenS t74),p 76 3 1,o 77 (.ld .str t76),o 78 (.lenS t77),p 79 4 1,o 80 (.ld .str t79),o 81 (.lenS t80),o 82 (.maxI .i64 [t75,t78,t81]),o 83 (.ibin .leq .i64 t82 (i 128)),f 84 25 [t72,t83] .other] c13_6)
def c13_8 : AC := .keep [1,4] (s [m 57 4,p 58 0 1,o 59 (.ld (.int .i64) t58),o 60 (.ibin .eql .i64 t59 (i 4)),m 61 60,w 62 61 (.fieldPtr 0 t1),w 63 61 (.ld (.int .i64) t62),w 64 61 (.ibin .eql .i64 t63 (i 5)),o 65 (.pick t61 tt t64),m 66 65,w 67 66 (.fieldPtr 5 t1),w 68 66 (.ld (.int .i64) t67),w 69 66 (.ibin .eql .i64 t68 (i 0)),o 70 (.pick t66 tt t69),f 71 25 [t57,t70] .other] c13_7)
def c13_9 : AC := .keep [1,4] (s [m 42 4,p 43 0 1,o 44 (.ld (.int .i64) t43),o 45 (.ibin .eql .i64 t44 (i 3)),m 46 45,w 47 46 (.fieldPtr 3 t1),w 48 46 (.ld .str t47),w 49 46 (.sbin .eql t48 (.const (.str []))),w 50 46 (.mov t49),y 51 50 (.fieldPtr 4 t1),y 52 50 (.ld .str t51),y 53 50 (.sbin .eql t52 (.const (.str []))),w 54 46 (.pick t50 t53 ff),o 55 (.pick t46 tt t54),f 56 25 [t42,t55] .other] c13_8)
def c13_10 : AC := .keep [1,4] (s [m 32 4,p 33 0 1,o 34 (.ld (.int .i64) t33),o 35 (.ibin .eql .i64 t34 (i 2)),m 36 35,w 37 36 (.fieldPtr 2 t1),w 38 36 (.ld .str t37),w 39 36 (.sbin .eql t38 (.const (.str []))),o 40 (.pick t36 tt t39),f 41 25 [t32,t40] .other] c13_9)
def c13_11 : AC := .keep [1,4] (s [m 21 4,p 22 0 1,o 23 (.ld (.int .i64) t22),o 24 (.ibin .eql .i64 t23 (i 1)),m 25 24,w 26 25 (.fieldPtr 1 t1),w 27 25 (.ld .other t26),w 28 25 (.lenL t27),w 29 25 (.ibin .eql .i64 t28 (i 0)),o 30 (.pick t25 tt t29),f 31 25 [t21,t30] .other] c13_10)
def c13_12 : AC := .keep [1,4] (s [m 11 4,p 12 0 1,o 13 (.ld (.int .i64) t12),o 14 (.ibin .geq .i64 t13 (i 1)),m 15 14,y 16 15 (.fieldPtr 0 t1),y 17 15 (.ld (.int .i64) t16),y 18 15 (.ibin .leq .i64 t17 (i 6)),o 19 (.pick t15 t18 ff),f 20 25 [t11,t19] .other] c13_11)
def c13_13 : AC := .keep [1] (s [p 5 0 1,o 6 (.ld (.int .i64) t5),o 7 (.convI .i64 .u8 t6),o 8 (.buildSlice 1 1 [(.int .u8 0)] [(0,(1,t7))]),o 9 (.build [.nils,(.bool false)] [(0,(1,t8))]),o 10 (.box 2 t9),m 4 10] c13_12)
def a13 : AFunc := ⟨128,[(2,none),(3,none)],(s [o 1 (.box 6 t0),o 2 (.mov (.const .nils)),o 3 (.mov (i 0))] c13_13)⟩
theorem ok13 : FnOk Try.prog 13 a13 := okf Try.func13 (by kernel_rfl)
def c14_0 : AC := .keep [1,4,5,6] (.ops [m 31 6,m 32 31,y 33 32 (.fieldPtr 1 t1),y 34 32 (.ld .other t33),y 35 32 (.lenL t34),y 36 32 (.ibin .geq .i64 t35 (i 1)),o 37 (.pick t32 t36 ff),m 38 37,y 39 38 (.fieldPtr 1 t1),y 40 38 (.ld .other t39),y 41 38 (.lenL t40),y 42 38 (.ibin .leq .i64 t41 (i 32)),o 43 (.pick t38 t42 ff),m 6 43])
def c14_1 : AC := .keep [1,4,5] (s [m 25 5,p 26 1 1,o 27 (.ld .other t26),f 28 31 [t25,t27] .other,m 24 28,g 29 0 (some .str) 24,g 30 1 (some .bool) 24,m 5 29,m 6 30] c14_0)
def c14_2 : AC := .keep [1,4,5] (s [m 49 5,p 50 2 1,o 51 (.ld .str t50),f 52 32 [t49,t51] .str,m 5 52] (.ops [p 53 2 1,o 54 (.ld .str t53),o 55 (.lenS t54),o 56 (.ibin .leq .i64 t55 (i 128)),m 6 56]))
def c14_3 : AC := .keep [1,4,5] (.ops [p 72 3 1,o 73 (.ld .str t72),o 74 (.lenS t73),o 75 (.ibin .leq .i64 t74 (i 128)),m 76 75,y 77 76 (.fieldPtr 4 t1),y 78 76 (.ld .str t77),y 79 76 (.lenS t78),y 80 76 (.ibin .leq .i64 t79 (i 128)),o 81 (.pick t76 t80 ff),m 6 81])
def c14_4 : AC := .keep [1,4,5] (.seq (.draw [(m 65 5,[]),(p 66 3 1,[]),(o 67 (.ld .str t66),[]),(p 69 4 1,[]),(o 70 (.ld .str t69),[]),(f 68 32 [t65,t67] .str,[o 70 (.ld .str t69),p 69 4 1]),(f 71 32 [t68,t70] .str,[]),(m 5 71,[])]) c14_3)
def c14_5 : AC := .keep [1,4,5] (s [p 62 4 1,o 63 (.ld .str t62),p 64 4 4,e (.st 1 t64 t63)] c14_4)
def c14_6 : AC := .keep [1,4,5,6] (.ops [m 92 5,p 93 5 1,o 94 (.ld (.int .i64) t93),f 95 34 [t92,t94] .str,m 5 95])
def c14_7 : AC := .keep [1,4,5,6] (.seq (s [p 88 5 1,o 89 (.ld (.int .i64) t88),f 90 33 [t89] .bool,o 91 (.not t90)] (.cond t91 (s [o 2 (.mov (.const (.str []))),o 3 (.mov (i 1))] .ret) .skip)) c14_6)
def c14_8 : AC := .keep [1,4,5,6,18,82] (.cond t82 (s [p 85 5 1,o 86 (.ld (.int .i64) t85),p 87 5 4,e (.st 1 t87 t86)] c14_7) (s [o 97 (.ibin .eql .i64 t18 (i 6)),m 96 97] (.cond t96 .skip (.ops [o 6 (.mov ff)]))))
def c14_9 : AC := .keep [1,4,5,6,18,57] (.cond t57 (s [p 59 3 1,o 60 (.ld .str t59),p 61 3 4,e (.st 1 t61 t60)] c14_5) (.seq (s [o 83 (.ibin .eql .i64 t18 (i 4)),m 82 83] (.cond t82 .skip (.ops [o 84 (.ibin .eql .i64 t18 (i 5)),m 82 84]))) c14_8))
def c14_10 : AC := .keep [1,4,5,6,18,44] (.cond t44 (s [p 46 2 1,o 47 (.ld .str t46),p 48 2 4,e (.st 1 t48 t47)] c14_2) (s [o 58 (.ibin .eql .i64 t18 (i 3)),m 57 58] c14_9))
def c14_11 : AC := .keep [1,4,5,6,18,19] (.cond t19 (s [p 21 1 1,o 22 (.ld .other t21),p 23 1 4,e (.st 1 t23 t22)] c14_1) (s [o 45 (.ibin .eql .i64 t18 (i 2)),m 44 45] c14_10))
def c14_12 : AC := .keep [1,4,5,6,18] (.block 0 (s [o 20 (.ibin .eql .i64 t18 (i 1)),m 19 20] c14_11))
def c14_13 : AC := .keep [5] (s [m 107 5,m 2 107,o 3 (.mov (i 0))] .ret)
def c14_14 : AC := .keep [5,6,7] (.seq (s [m 101 6,o 102 (.not t101),m 103 102,w 104 103 (.mov t7),w 105 103 (.not t104),o 106 (.pick t103 tt t105)] (.cond t106 (s [o 2 (.mov (.const (.str []))),o 3 (.mov (i 1))] .ret) .skip)) c14_13)
def c14_15 : AC := .keep [1,4,5,6] (s [o 98 (.ldA 6 t4),o 99 (.ldA 6 t1),f 100 15 [t98,t99] .bool,m 7 100] c14_14)
def c14_16 : AC := .keep [1,4,5,6] (.seq (s [p 17 0 1,o 18 (.ld (.int .i64) t17)] c14_12) c14_15)
def c14_17 : AC := .keep [1,4,5] (s [o 6 (.mov tt)] c14_16)
def c14_18 : AC := .keep [1,4] (s [p 11 0 1,o 12 (.ld (.int .i64) t11),o 13 (.ibin .and .i64 t12 (i 7)),o 14 (.convI .i64 .u8 t13),o 15 (.buildSlice 1 1 [(.int .u8 0)] [(0,(1,t14))]),o 16 (.toStr t15),m 5 16] c14_17)
def c14_19 : AC := .keep [1] (s [p 8 0 1,o 9 (.ld (.int .i64) t8),o 10 (.build [I 0,.nils,(.str []),(.str []),(.str []),I 0] [(0,(1,t9))]),o 4 (.alloc [I 0,.nils,(.str []),(.str []),(.str []),I 0]),e (.st 6 t4 t10)] c14_18)
def a14 : AFunc := ⟨108,[(2,none),(3,none)],(s [o 1 (.box 6 t0),o 2 (.mov (.const (.str []))),o 3 (.mov (i 0))] c14_19)⟩
theorem ok14 : FnOk Try.prog 14 a14 := okf Try.func14 (by kernel_rfl)
def c15_0 : AC := .keep [2,3,5] (s [m 11 5,m 12 11,y 13 12 (.fieldPtr 0 t2),y 14 12 (.ld (.int .i64) t13),y 15 12 (.fieldPtr 0 t3),y 16 12 (.ld (.int .i64) t15),y 17 12 (.ibin .eql .i64 t14 t16),o 18 (.pick t12 t17 ff),m 19 18,y 20 19 (.fieldPtr 2 t2),y 21 19 (.ld .str t20),y 22 19 (.fieldPtr 2 t3),y 23 19 (.ld .str t22),y 24 19 (.sbin .eql t21 t23),o 25 (.pick t19 t24 ff),m 26 25,y 27 26 (.fieldPtr 3 t2),y 28 26 (.ld .str t27),y 29 26 (.fieldPtr 3 t3),y 30 26 (.ld .str t29),y 31 26 (.sbin .eql t28 t30),o 32 (.pick t26 t31 ff),m 33 32,y 34 33 (.fieldPtr 4 t2),y 35 33 (.ld .str t34),y 36 33 (.fieldPtr 4 t3),y 37 33 (.ld .str t36),y 38 33 (.sbin .eql t35 t37),o 39 (.pick t33 t38 ff),m 40 39,y 41 40 (.fieldPtr 5 t2),y 42 40 (.ld (.int .i64) t41),y 43 40 (.fieldPtr 5 t3),y 44 40 (.ld (.int .i64) t43),y 45 40 (.ibin .eql .i64 t42 t44),o 46 (.pick t40 t45 ff),m 4 46] .ret)
def c15_1 : AC := .keep [2,3] (s [p 6 1 2,o 7 (.ld .other t6),p 8 1 3,o 9 (.ld .other t8),f 10 35 [t7,t9] .bool,m 5 10] c15_0)
def a15 : AFunc := ⟨47,[(4,none)],(s [o 2 (.box 6 t0),o 3 (.box 6 t1),o 4 (.mov ff)] c15_1)⟩
theorem ok15 : FnOk Try.prog 15 a15 := okf Try.func15 (by kernel_rfl)
def c16_0 : AC := .keep [1,2,3,4,5] (.draw [(p 72 3 3,[]),(p 73 1 72,[]),(o 74 (.ld .other t73),[]),(p 75 0 5,[]),(o 76 (.ld .bool t75),[]),(p 77 1 5,[]),(o 78 (.ldA 3 t77),[]),(p 80 4 5,[]),(o 81 (.ldA 3 t80),[]),(f 79 36 [t78] .other,[o 81 (.ldA 3 t80),p 80 4 5,o 76 (.ld .bool t75),p 75 0 5,o 74 (.ld .other t73),p 73 1 72,p 72 3 3]),(f 82 36 [t81] .other,[o 76 (.ld .bool t75),p 75 0 5,o 74 (.ld .other t73),p 73 1 72,p 72 3 3]),(o 83 (.build [(.bool false),I 0,.nils,.nils,I 0,.nils,.nils] [(0,(1,t76)),(1,(3,t79)),(4,(3,t82))]),[]),(o 84 (.buildSlice 7 1 [(.bool false),I 0,.nils,.nils,I 0,.nils,.nils] [(0,(7,t83))]),[o 74 (.ld .other t73),p 73 1 72,p 72 3 3]),(o 85 (.append 7 120 t74 t84),[]),(p 86 3 3,[]),(p 87 1 86,[]),(e (.st 1 t87 t85),[])])
def c16_1 : AC := .keep [1,2,3,4] (.ops [m 64 4,o 65 (.ibin .add .i64 t64 (i 1)),m 4 65])
def c16_2 : AC := .keep [1,2,3,4] (.seq (.block 1 (s [p 66 3 1,p 67 1 66,o 68 (.ld .other t67),m 69 4,o 70 (.indexPtr 7 t68 t69),o 71 (.ldA 7 t70),o 5 (.alloc [(.bool false),I 0,.nils,.nils,I 0,.nils,.nils]),e (.st 7 t5 t71)] c16_0)) c16_1)
def c16_3 : AC := lk [1,2,3,4] (.seq (s [m 54 4,p 55 3 1,p 56 1 55,o 57 (.ld .other t56),o 58 (.lenL t57),o 59 (.ibin .lss .i64 t54 t58),m 60 59,y 61 60 (.mov t4),y 62 60 (.ibin .lss .i64 t61 (i 6)),o 63 (.pick t60 t62 ff)] (.cond t63 .skip (.exit 0))) c16_2)
def c16_4 : AC := .keep [1,2,3,6,7,8,9] (.ops [m 121 9,o 122 (.ibin .add .i64 t121 (i 1)),m 9 122])
def c16_5 : AC := .keep [1,2,3,6,7,8,9] (.seq (.block 5 (.draw [(p 123 1 8,[]),(o 124 (.ld .other t123),[]),(p 126 1 7,[]),(o 127 (.ld .other t126),[]),(m 128 9,[]),(o 129 (.indexPtr 1 t127 t128),[]),(o 130 (.ld .other t129),[]),(p 131 1 7,[]),(o 132 (.ld .other t131),[]),(m 133 9,[]),(o 134 (.indexPtr 1 t132 t133),[]),(o 135 (.ld .other t134),[]),(o 136 (.lenL t135),[]),(o 137 (.minI .i64 [t136,(i 300)]),[]),(o 138 (.sliceL 1 t130 none (some t137) none),[]),(o 125 (.buildSlice 1 0 [] []),[]),(o 139 (.append 1 1 t125 t138),[o 124 (.ld .other t123),p 123 1 8]),(o 140 (.buildSlice 1 1 [.nils] [(0,(1,t139))]),[o 124 (.ld .other t123),p 123 1 8]),(o 141 (.append 1 24 t124 t140),[]),(p 142 1 8,[]),(e (.st 1 t142 t141),[])])) c16_4)
def c16_6 : AC := lk [1,2,3,6,7,8,9] (.seq (s [m 112 9,p 113 1 7,o 114 (.ld .other t113),o 115 (.lenL t114),o 116 (.ibin .lss .i64 t112 t115),m 117 116,y 118 117 (.mov t9),y 119 117 (.ibin .lss .i64 t118 (i 70)),o 120 (.pick t117 t119 ff)] (.cond t120 .skip (.exit 4))) c16_5)
def c16_7 : AC := .keep [1,2,3,6,8] (.ops [p 143 5 3,p 144 1 143,o 145 (.ld .other t144),o 146 (.ldA 3 t8),o 147 (.buildSlice 3 1 [I 0,.nils,.nils] [(0,(3,t146))]),o 148 (.append 3 56 t145 t147),p 149 5 3,p 150 1 149,e (.st 1 t150 t148)])
def c16_8 : AC := .keep [1,2,3,6,7,8] (.seq (s [o 9 (.mov (i 0))] (.block 4 c16_6)) c16_7)
def c16_9 : AC := .keep [1,2,3,6,7] (.seq (.draw [(p 106 0 7,[]),(o 107 (.ld (.int .i64) t106),[]),(p 108 2 7,[]),(o 109 (.ld .other t108),[]),(f 110 37 [t109] .other,[o 107 (.ld (.int .i64) t106),p 106 0 7]),(o 111 (.build [I 0,.nils,.nils] [(0,(1,t107)),(2,(1,t110))]),[]),(o 8 (.alloc [I 0,.nils,.nils]),[]),(e (.st 3 t8 t111),[])]) c16_8)
def c16_10 : AC := .keep [1,2,3,6] (.ops [m 98 6,o 99 (.ibin .add .i64 t98 (i 1)),m 6 99])
def c16_11 : AC := .keep [1,2,3,6] (.seq (.block 3 (s [p 100 5 1,p 101 1 100,o 102 (.ld .other t101),m 103 6,o 104 (.indexPtr 3 t102 t103),o 105 (.ldA 3 t104),o 7 (.alloc [I 0,.nils,.nils]),e (.st 3 t7 t105)] c16_9)) c16_10)
def c16_12 : AC := lk [1,2,3,6] (.seq (s [m 88 6,p 89 5 1,p 90 1 89,o 91 (.ld .other t90),o 92 (.lenL t91),o 93 (.ibin .lss .i64 t88 t92),m 94 93,y 95 94 (.mov t6),y 96 94 (.ibin .lss .i64 t95 (i 6)),o 97 (.pick t94 t96 ff)] (.cond t97 .skip (.exit 2))) c16_11)
def c16_13 : AC := .keep [1,2,3,10] (.ops [m 160 10,o 161 (.ibin .add .i64 t160 (i 1)),m 10 161])
def c16_14 : AC := .keep [1,2,3,10] (.seq (.block 7 (.draw [(p 162 8 3,[]),(o 163 (.ld .other t162),[]),(p 164 8 1,[]),(o 165 (.ld .other t164),[]),(m 166 10,[]),(o 167 (.indexPtr 1 t165 t166),[]),(o 168 (.ld .other t167),[]),(f 169 24 [t168,(i 70)] .other,[o 163 (.ld .other t162),p 162 8 3]),(o 170 (.buildSlice 1 1 [.nils] [(0,(1,t169))]),[o 163 (.ld .other t162),p 162 8 3]),(o 171 (.append 1 24 t163 t170),[]),(p 172 8 3,[]),(e (.st 1 t172 t171),[])])) c16_13)
def c16_15 : AC := lk [1,2,3,10] (.seq (s [m 151 10,p 152 8 1,o 153 (.ld .other t152),o 154 (.lenL t153),o 155 (.ibin .lss .i64 t151 t154),m 156 155,y 157 156 (.mov t10),y 158 156 (.ibin .lss .i64 t157 (i 6)),o 159 (.pick t156 t158 ff)] (.cond t159 .skip (.exit 6))) c16_14)
def c16_16 : AC := .keep [2,3] (s [o 173 (.ldA 9 t3),e (.st 9 t2 t173)] .ret)
def c16_17 : AC := .keep [1,2,3] (.seq (s [o 10 (.mov (i 0))] (.block 6 c16_15)) c16_16)
def c16_18 : AC := .keep [1,2,3] (.seq (s [o 6 (.mov (i 0))] (.block 2 c16_12)) c16_17)
def c16_19 : AC := .keep [1,2,3] (.seq (s [o 4 (.mov (i 0))] (.block 0 c16_3)) c16_18)
def c16_20 : AC := .keep [1,2,3] (s [o 41 (.buildSlice 1 0 [] []),p 42 5 1,p 43 0 42,o 44 (.ld .other t43),p 45 5 1,p 46 0 45,o 47 (.ld .other t46),o 48 (.lenL t47),o 49 (.minI .i64 [t48,(i 300)]),o 50 (.sliceL 1 t44 none (some t49) none),o 51 (.append 1 1 t41 t50),p 52 5 3,p 53 0 52,e (.st 1 t53 t51)] c16_19)
def c16_21 : AC := .keep [1,2,3] (s [o 28 (.buildSlice 1 0 [] []),p 29 3 1,p 30 0 29,o 31 (.ld .other t30),p 32 3 1,p 33 0 32,o 34 (.ld .other t33),o 35 (.lenL t34),o 36 (.minI .i64 [t35,(i 300)]),o 37 (.sliceL 1 t31 none (some t36) none),o 38 (.append 1 1 t28 t37),p 39 3 3,p 40 0 39,e (.st 1 t40 t38)] c16_20)
def c16_22 : AC := .keep [1,2,3] (s [o 18 (.buildSlice 1 0 [] []),p 19 7 1,o 20 (.ld .other t19),p 21 7 1,o 22 (.ld .other t21),o 23 (.lenL t22),o 24 (.minI .i64 [t23,(i 300)]),o 25 (.sliceL 1 t20 none (some t24) none),o 26 (.append 1 1 t18 t25),p 27 7 3,e (.st 1 t27 t26)] c16_21)
def c16_23 : AC := .keep [1,2] (s [p 11 0 1,o 12 (.ld (.int .i64) t11),p 13 1 1,o 14 (.ld (.int .i64) t13),p 15 2 1,o 16 (.ld (.int .i64) t15),o 17 (.build [I 0,I 0,I 0,.nils,.nils,.nils,.nils,.nils,.nils] [(0,(1,t12)),(1,(1,t14)),(2,(1,t16))]),o 3 (.alloc [I 0,I 0,I 0,.nils,.nils,.nils,.nils,.nils,.nils]),e (.st 9 t3 t17)] c16_22)
def a16 : AFunc := ⟨174,[(2,(some (none,9)))],(s [o 1 (.box 9 t0),o 2 (.alloc [I 0,I 0,I 0,.nils,.nils,.nils,.nils,.nils,.nils])] c16_23)⟩
theorem ok16 : FnOk Try.prog 16 a16 := okf Try.func16 (by kernel_rfl)
def c17_0 : AC := .keep [0,3,22] (.cond t22 (s [o 4 (.mov (.const .nils)),o 5 (.mov (i 1))] .ret) .skip)
def c17_1 : AC := .keep [0,3,6,31] (.cond t31 (s [m 32 6,o 33 (.ldA 9 t3),f 34 38 [(i 0),t33] .bool,f 35 25 [t32,t34] .other] (s [m 36 6,f 37 30 [t36] .other,g 38 0 (some .other) 37,g 39 1 (some (.int .i64)) 37,m 4 38,m 5 39] .ret)) .skip)
def c17_2 : AC := .keep [3,6] (.ops [m 60 6,p 61 3 3,p 62 1 61,o 63 (.ld .other t62),m 64 6,o 65 (.makeFunc (.func 40) [t64] []),f 66 39 [t60,t63,(i 512),t65] .other])
def c17_3 : AC := .keep [3,6] (.ops [m 75 6,p 76 5 3,p 77 1 76,o 78 (.ld .other t77),m 79 6,o 80 (.makeFunc (.func 42) [t79] []),f 81 41 [t75,t78,(i 512),t80] .other])
def c17_4 : AC := .keep [3,6] (.ops [m 104 6,p 105 8 3,o 106 (.ld .other t105),m 107 6,o 108 (.makeFunc (.func 44) [t107] []),f 109 43 [t104,t106,(i 512),t108] .other])
def c17_5 : AC := .keep [3,6] (s [m 99 6,p 100 7 3,o 101 (.ld .other t100),o 102 (.toStr t101),f 103 28 [t99,t102] .other] c17_4)
def c17_6 : AC := .keep [3,6,45,93] (.cond t93 (s [m 95 6,p 96 2 3,o 97 (.ld (.int .i64) t96),f 98 29 [t95,t97] .other] c17_5) (s [o 111 (.ibin .eql .i64 t45 (i 6)),m 110 111] (.cond t110 (s [m 112 6,p 113 1 3,o 114 (.ld (.int .i64) t113),f 115 29 [t112,t114] .other] (.ops [m 116 6,p 117 2 3,o 118 (.ld (.int .i64) t117),f 119 29 [t116,t118] .other])) .skip)))
def c17_7 : AC := .keep [3,6,45,82] (.cond t82 (s [m 84 6,p 85 2 3,o 86 (.ld (.int .i64) t85),f 87 29 [t84,t86] .other] (.ops [m 88 6,p 89 7 3,o 90 (.ld .other t89),o 91 (.toStr t90),f 92 28 [t88,t91] .other])) (s [o 94 (.ibin .eql .i64 t45 (i 5)),m 93 94] c17_6))
def c17_8 : AC := .keep [3,6,45,67] (.cond t67 (s [m 69 6,p 70 5 3,p 71 0 70,o 72 (.ld .other t71),o 73 (.toStr t72),f 74 28 [t69,t73] .other] c17_3) (s [o 83 (.ibin .eql .i64 t45 (i 4)),m 82 83] c17_7))
def c17_9 : AC := .keep [3,6,45,52] (.cond t52 (s [m 54 6,p 55 3 3,p 56 0 55,o 57 (.ld .other t56),o 58 (.toStr t57),f 59 28 [t54,t58] .other] c17_2) (s [o 68 (.ibin .eql .i64 t45 (i 3)),m 67 68] c17_8))
def c17_10 : AC := .keep [3,6,45,46] (.cond t46 (.ops [m 48 6,p 49 1 3,o 50 (.ld (.int .i64) t49),f 51 29 [t48,t50] .other]) (s [o 53 (.ibin .eql .i64 t45 (i 2)),m 52 53] c17_9))
def c17_11 : AC := .keep [3,6,45] (.block 0 (s [o 47 (.ibin .eql .i64 t45 (i 1)),m 46 47] c17_10))
def c17_12 : AC := .keep [6] (s [m 120 6,f 121 30 [t120] .other,g 122 0 (some .other) 121,g 123 1 (some (.int .i64)) 121,m 4 122,m 5 123] .ret)
def c17_13 : AC := .keep [0,3,6] (.seq (s [m 45 0] c17_11) c17_12)
def c17_14 : AC := .keep [0,3,6] (s [m 40 6,m 41 0,o 42 (.ldA 9 t3),f 43 38 [t41,t42] .bool,f 44 25 [t40,t43] .other] c17_13)
def c17_15 : AC := .keep [0,3,6] (.seq (s [p 29 0 3,o 30 (.ld (.int .i64) t29),o 31 (.ibin .neq .i64 t30 (i 0))] c17_1) c17_14)
def c17_16 : AC := .keep [0,3,6] (s [m 25 6,p 26 0 3,o 27 (.ld (.int .i64) t26),f 28 29 [t25,t27] .other] c17_15)
def c17_17 : AC := .keep [0,3] (s [o 23 (.build [.nils,(.bool false)] []),o 24 (.box 2 t23),m 6 24] c17_16)
def c17_18 : AC := .keep [0,3] (.seq (s [m 7 0,o 8 (.ibin .lss .i64 t7 (i 1)),m 9 8,w 10 9 (.mov t0),w 11 9 (.ibin .gtr .i64 t10 (i 6)),o 12 (.pick t9 tt t11),m 13 12,w 14 13 (.fieldPtr 0 t3),w 15 13 (.ld (.int .i64) t14),w 16 13 (.ibin .lss .i64 t15 (i 0)),o 17 (.pick t13 tt t16),m 18 17,w 19 18 (.fieldPtr 0 t3),w 20 18 (.ld (.int .i64) t19),w 21 18 (.ibin .gtr .i64 t20 (i 10)),o 22 (.pick t18 tt t21)] c17_0) c17_17)
def a17 : AFunc := ⟨124,[(4,none),(5,none)],(s [o 3 (.box 9 t1),o 4 (.mov (.const .nils)),o 5 (.mov (i 0))] c17_18)⟩
theorem ok17 : FnOk Try.prog 17 a17 := okf Try.func17 (by kernel_rfl)
def c18_0 : AC := .keep [0,3,25] (.cond t25 (s [o 4 (.mov (.const (.str []))),o 5 (.mov (i 1))] .ret) .skip)
def c18_1 : AC := .keep [0,3,6,7,8,34] (.cond t34 (.ops [m 36 7,m 37 0,o 38 (.ldA 9 t3),f 39 45 [t36,t37,t38] .other,m 35 39,g 40 0 (some .str) 35,g 41 1 none 35,g 42 2 (some .bool) 35,m 7 40,e (.st 9 t6 t41),m 8 42]) .skip)
def c18_2 : AC := .keep [7] (s [m 52 7,m 4 52,o 5 (.mov (i 0))] .ret)
def c18_3 : AC := .keep [7,8,9] (.seq (s [m 46 8,o 47 (.not t46),m 48 47,w 49 48 (.mov t9),w 50 48 (.not t49),o 51 (.pick t48 tt t50)] (.cond t51 (s [o 4 (.mov (.const (.str []))),o 5 (.mov (i 1))] .ret) .skip)) c18_2)
def c18_4 : AC := .keep [3,6,7,8] (s [o 43 (.ldA 9 t6),o 44 (.ldA 9 t3),f 45 19 [t43,t44] .bool,m 9 45] c18_3)
def c18_5 : AC := .keep [0,3,6,7,8] (.seq (s [p 32 0 3,o 33 (.ld (.int .i64) t32),o 34 (.ibin .eql .i64 t33 (i 0))] c18_1) c18_4)
def c18_6 : AC := .keep [0,3,6,7] (s [o 8 (.mov tt)] c18_5)
def c18_7 : AC := .keep [0,3,6] (s [p 29 0 3,o 30 (.ld (.int .i64) t29),f 31 34 [(.const (.str [])),t30] .str,m 7 31] c18_6)
def c18_8 : AC := .keep [0,3] (s [p 26 0 3,o 27 (.ld (.int .i64) t26),o 28 (.build [I 0,I 0,I 0,.nils,.nils,.nils,.nils,.nils,.nils] [(0,(1,t27))]),o 6 (.alloc [I 0,I 0,I 0,.nils,.nils,.nils,.nils,.nils,.nils]),e (.st 9 t6 t28)] c18_7)
def c18_9 : AC := .keep [0,3] (.seq (s [m 10 0,o 11 (.ibin .lss .i64 t10 (i 1)),m 12 11,w 13 12 (.mov t0),w 14 12 (.ibin .gtr .i64 t13 (i 6)),o 15 (.pick t12 tt t14),m 16 15,w 17 16 (.fieldPtr 0 t3),w 18 16 (.ld (.int .i64) t17),w 19 16 (.ibin .lss .i64 t18 (i 0)),o 20 (.pick t16 tt t19),m 21 20,w 22 21 (.fieldPtr 0 t3),w 23 21 (.ld (.int .i64) t22),w 24 21 (.ibin .gtr .i64 t23 (i 10)),o 25 (.pick t21 tt t24)] c18_0) c18_8)
def a18 : AFunc := ⟨53,[(4,none),(5,none)],(s [o 3 (.box 9 t1),o 4 (.mov (.const (.str []))),o 5 (.mov (i 0))] c18_9)⟩
theorem ok18 : FnOk Try.prog 18 a18 := okf Try.func18 (by kernel_rfl)
def c19_0 : AC := .keep [2,3,33] (.cond t33 (s [o 4 (.mov ff)] .ret) .skip)
def c19_1 : AC := .keep [2,3,7,8] (s [m 52 8,o 53 (.not t52)] (.cond t53 (s [o 4 (.mov ff)] .ret) .skip))
def c19_2 : AC := .keep [2,3,7] (.seq (.block 1 (.seq (.draw [(p 41 8 2,[]),(o 42 (.ld .other t41),[]),(m 43 7,[]),(o 44 (.indexPtr 1 t42 t43),[]),(o 45 (.ld .other t44),[]),(p 46 8 3,[]),(o 47 (.ld .other t46),[]),(m 48 7,[]),(o 49 (.indexPtr 1 t47 t48),[]),(o 50 (.ld .other t49),[]),(f 51 35 [t45,t50] .bool,[]),(m 8 51,[])]) c19_1)) (.ops [m 39 7,o 40 (.ibin .add .i64 t39 (i 1)),m 7 40]))
def c19_3 : AC := lk [2,3,7] (.seq (s [m 34 7,p 35 8 2,o 36 (.ld .other t35),o 37 (.lenL t36),o 38 (.ibin .lss .i64 t34 t37)] (.cond t38 .skip (.exit 0))) c19_2)
def c19_4 : AC := .keep [2,3] (s [p 54 0 2,o 55 (.ld (.int .i64) t54),p 56 0 3,o 57 (.ld (.int .i64) t56),o 58 (.ibin .eql .i64 t55 t57),m 59 58,y 60 59 (.fieldPtr 1 t2),y 61 59 (.ld (.int .i64) t60),y 62 59 (.fieldPtr 1 t3),y 63 59 (.ld (.int .i64) t62),y 64 59 (.ibin .eql .i64 t61 t63),o 65 (.pick t59 t64 ff),m 66 65,y 67 66 (.fieldPtr 2 t2),y 68 66 (.ld (.int .i64) t67),y 69 66 (.fieldPtr 2 t3),y 70 66 (.ld (.int .i64) t69),y 71 66 (.ibin .eql .i64 t68 t70),o 72 (.pick t66 t71 ff),m 73 72,y 74 73 (.fieldPtr 7 t2),y 75 73 (.ld .other t74),y 76 73 (.toStr t75),y 77 73 (.fieldPtr 7 t3),y 78 73 (.ld .other t77),y 79 73 (.toStr t78),y 80 73 (.sbin .eql t76 t79),o 81 (.pick t73 t80 ff),m 4 81] .ret)
def c19_5 : AC := .keep [2,3] (.seq (s [o 7 (.mov (i 0))] (.block 0 c19_3)) c19_4)
def c19_6 : AC := .keep [2,3,5,6] (.seq (s [m 19 5,o 20 (.not t19),m 21 20,w 22 21 (.mov t6),w 23 21 (.not t22),o 24 (.pick t21 tt t23),m 25 24,w 26 25 (.fieldPtr 8 t2),w 27 25 (.ld .other t26),w 28 25 (.lenL t27),w 29 25 (.fieldPtr 8 t3),w 30 25 (.ld .other t29),w 31 25 (.lenL t30),w 32 25 (.ibin .neq .i64 t28 t31),o 33 (.pick t25 tt t32)] c19_0) c19_5)
def c19_7 : AC := .keep [2,3,5] (s [p 14 5 2,o 15 (.ldA 2 t14),p 16 5 3,o 17 (.ldA 2 t16),f 18 47 [t15,t17] .bool,m 6 18] c19_6)
def c19_8 : AC := .keep [2,3] (s [p 9 3 2,o 10 (.ldA 2 t9),p 11 3 3,o 12 (.ldA 2 t11),f 13 46 [t10,t12] .bool,m 5 13] c19_7)
def a19 : AFunc := ⟨82,[(4,none)],(s [o 2 (.box 9 t0),o 3 (.box 9 t1),o 4 (.mov ff)] c19_8)⟩
theorem ok19 : FnOk Try.prog 19 a19 := okf Try.func19 (by kernel_rfl)
def c20_0 : AC := .keep [0,2,4,5,43] (.cond t43 (.ops [m 46 4,f 47 51 [t46,(i 1099511627776)] (.int .i64),p 48 5 5,e (.st 1 t48 t47)]) .skip)
def c20_1 : AC := .keep [0,2,4,5,22,30] (.cond t30 (.ops [m 32 4,f 33 50 [t32] .str,p 34 2 5,e (.st 1 t34 t33)]) (s [o 36 (.ibin .eql .i64 t22 (i 3)),m 35 36] (.cond t35 (s [m 37 4,f 38 50 [t37] .str,p 39 3 5,e (.st 1 t39 t38)] (.ops [m 40 4,f 41 50 [t40] .str,p 42 4 5,e (.st 1 t42 t41)])) (.seq (s [o 44 (.ibin .eql .i64 t22 (i 4)),m 43 44] (.cond t43 .skip (.ops [o 45 (.ibin .eql .i64 t22 (i 5)),m 43 45]))) c20_0))))
def c20_2 : AC := .keep [0,2,4,5,22,23] (.cond t23 (.ops [m 25 4,m 26 4,o 27 (.makeFunc (.func 49) [t26] []),f 28 48 [t25,(i 32),t27] .other,p 29 1 5,e (.st 1 t29 t28)]) (s [o 31 (.ibin .eql .i64 t22 (i 2)),m 30 31] c20_1))
def c20_3 : AC := .keep [0,2,4,5,22] (.block 0 (s [o 24 (.ibin .eql .i64 t22 (i 1)),m 23 24] c20_2))
def c20_4 : AC := .keep [2,5,64] (.cond t64 (s [o 65 (.build [I 0,.nils,(.str []),(.str []),(.str []),I 0] []),e (.st 6 t2 t65),o 3 (.mov (i 2))] .ret) .skip)
def c20_5 : AC := .keep [0,2,4,5,6,7] (s [m 54 4,o 55 (.nilCheck t54),p 56 1 55,o 57 (.ld .bool t56),m 58 57,w 59 58 (.mov t6),w 60 58 (.mov t7),w 61 58 (.mov t0),⟨(some 62),(some ((some 58),false)),(.call (.fn 52) [t59,t60,t61] .bool)⟩,w 63 58 (.not t62),o 64 (.pick t58 tt t63)] c20_4)
def c20_6 : AC := .keep [0,2,4,5] (.seq (s [o 50 (.ldA 6 t5),f 51 13 [t50] .other,m 49 51,g 52 0 (some .other) 49,g 53 1 (some (.int .i64)) 49,m 6 52,m 7 53] c20_5) (s [o 66 (.ldA 6 t5),e (.st 6 t2 t66),o 3 (.mov (i 0))] .ret))
def c20_7 : AC := .keep [0,2,4,5] (.seq (s [p 21 0 5,o 22 (.ld (.int .i64) t21)] c20_3) c20_6)
def c20_8 : AC := .keep [0,2,4] (s [m 16 0,o 17 (.indexPtr 1 t16 (i 0)),o 18 (.ld (.int .u8) t17),o 19 (.convI .u8 .i64 t18),o 20 (.build [I 0,.nils,(.str []),(.str []),(.str []),I 0] [(0,(1,t19))]),o 5 (.alloc [I 0,.nils,(.str []),(.str []),(.str []),I 0]),e (.st 6 t5 t20)] c20_7)
def c20_9 : AC := .keep [0,2] (s [m 12 0,o 13 (.sliceL 1 t12 (some (i 1)) none none),o 14 (.build [.nils,(.bool false)] [(0,(1,t13))]),o 15 (.box 2 t14),m 4 15] c20_8)
def c20_10 : AC := .keep [0,2] (.seq (s [m 8 0,o 9 (.lenL t8),o 10 (.ibin .eql .i64 t9 (i 0))] (.cond t10 (s [o 11 (.build [I 0,.nils,(.str []),(.str []),(.str []),I 0] []),e (.st 6 t2 t11),o 3 (.mov (i 2))] .ret) .skip)) c20_9)
def a20 : AFunc := ⟨67,[(2,(some (none,6))),(3,none)],(s [o 2 (.alloc [I 0,.nils,(.str []),(.str []),(.str []),I 0]),o 3 (.mov (i 0))] c20_10)⟩
theorem ok20 : FnOk Try.prog 20 a20 := okf Try.func20 (by kernel_rfl)
def c21_0 : AC := .keep [0,2,4,5,39] (.cond t39 (.ops [m 42 4,f 43 55 [t42,(i 1099511627776)] (.int .i64),p 44 5 5,e (.st 1 t44 t43)]) .skip)
def c21_1 : AC := .keep [0,2,4,5,20,26] (.cond t26 (.ops [m 28 4,f 29 54 [t28] .str,p 30 2 5,e (.st 1 t30 t29)]) (s [o 32 (.ibin .eql .i64 t20 (i 3)),m 31 32] (.cond t31 (s [m 33 4,f 34 54 [t33] .str,p 35 3 5,e (.st 1 t35 t34)] (.ops [m 36 4,f 37 54 [t36] .str,p 38 4 5,e (.st 1 t38 t37)])) (.seq (s [o 40 (.ibin .eql .i64 t20 (i 4)),m 39 40] (.cond t39 .skip (.ops [o 41 (.ibin .eql .i64 t20 (i 5)),m 39 41]))) c21_0))))
def c21_2 : AC := .keep [0,2,4,5,20,21] (.cond t21 (.ops [m 23 4,f 24 53 [t23,(i 32)] .other,p 25 1 5,e (.st 1 t25 t24)]) (s [o 27 (.ibin .eql .i64 t20 (i 2)),m 26 27] c21_1))
def c21_3 : AC := .keep [0,2,4,5,20] (.block 0 (s [o 22 (.ibin .eql .i64 t20 (i 1)),m 21 22] c21_2))
def c21_4 : AC := .keep [2,5,62] (.cond t62 (s [o 63 (.build [I 0,.nils,(.str []),(.str []),(.str []),I 0] []),e (.st 6 t2 t63),o 3 (.mov (i 2))] .ret) .skip)
def c21_5 : AC := .keep [0,2,4,5,6,7] (.seq (s [m 50 4,o 51 (.nilCheck t50),p 52 1 51,o 53 (.ld .bool t52),m 54 53,w 55 54 (.mov t7),w 56 54 (.ibin .neq .i64 t55 (i 0)),o 57 (.pick t54 tt t56),m 58 57,w 59 58 (.mov t6),w 60 58 (.mov t0),w 61 58 (.sbin .neq t59 t60),o 62 (.pick t58 tt t61)] c21_4) (s [o 64 (.ldA 6 t5),e (.st 6 t2 t64),o 3 (.mov (i 0))] .ret))
def c21_6 : AC := .keep [0,2,4,5] (s [o 46 (.ldA 6 t5),f 47 14 [t46] .other,m 45 47,g 48 0 (some .str) 45,g 49 1 (some (.int .i64)) 45,m 6 48,m 7 49] c21_5)
def c21_7 : AC := .keep [0,2,4,5] (.seq (s [p 19 0 5,o 20 (.ld (.int .i64) t19)] c21_3) c21_6)
def c21_8 : AC := .keep [0,2,4] (s [m 15 0,o 16 (.indexS t15 (i 0)),o 17 (.convI .u8 .i64 t16),o 18 (.build [I 0,.nils,(.str []),(.str []),(.str []),I 0] [(0,(1,t17))]),o 5 (.alloc [I 0,.nils,(.str []),(.str []),(.str []),I 0]),e (.st 6 t5 t18)] c21_7)
def c21_9 : AC := .keep [0,2] (s [m 11 0,o 12 (.sliceS t11 (some (i 1)) none),o 13 (.build [(.str []),(.bool false)] [(0,(1,t12))]),o 14 (.box 2 t13),m 4 14] c21_8)
def c21_10 : AC := .keep [0,2] (.seq (s [m 8 0,o 9 (.sbin .eql t8 (.const (.str [])))] (.cond t9 (s [o 10 (.build [I 0,.nils,(.str []),(.str []),(.str []),I 0] []),e (.st 6 t2 t10),o 3 (.mov (i 2))] .ret) .skip)) c21_9)
def a21 : AFunc := ⟨65,[(2,(some (none,6))),(3,none)],(s [o 2 (.alloc [I 0,.nils,(.str []),(.str []),(.str []),I 0]),o 3 (.mov (i 0))] c21_10)⟩
theorem ok21 : FnOk Try.prog 21 a21 := okf Try.func21 (by kernel_rfl)
def c22_0 : AC := .keep [4,7,38] (.cond t38 (s [o 39 (.build [I 0,I 0,I 0,.nils,.nils,.nils,.nils,.nils,.nils] []),e (.st 9 t4 t39),o 5 (.mov (i 2))] .ret) .skip)
def c22_1 : AC := .keep [1,4,6,7,8,9] (s [m 28 6,o 29 (.nilCheck t28),p 30 1 29,o 31 (.ld .bool t30),m 32 31,w 33 32 (.mov t8),w 34 32 (.mov t9),w 35 32 (.mov t1),⟨(some 36),(some ((some 32),false)),(.call (.fn 52) [t33,t34,t35] .bool)⟩,w 37 32 (.not t36),o 38 (.pick t32 tt t37)] c22_0)
def c22_2 : AC := .keep [0,1,4,6,7] (.seq (s [m 23 0,o 24 (.ldA 9 t7),f 25 17 [t23,t24] .other,m 22 25,g 26 0 (some .other) 22,g 27 1 (some (.int .i64)) 22,m 8 26,m 9 27] c22_1) (s [o 40 (.ldA 9 t7),e (.st 9 t4 t40),o 5 (.mov (i 0))] .ret))
def c22_3 : AC := .keep [0,1,4,6,7] (.seq (s [p 16 0 7,o 17 (.ld (.int .i64) t16),o 18 (.ibin .eql .i64 t17 (i 0))] (.cond t18 (.ops [m 19 6,m 20 0,f 21 56 [t19,t20,t7] .other]) .skip)) c22_2)
def c22_4 : AC := .keep [0,1,4,6] (s [m 13 6,f 14 51 [t13,(i 10)] (.int .i64),o 15 (.build [I 0,I 0,I 0,.nils,.nils,.nils,.nils,.nils,.nils] [(0,(1,t14))]),o 7 (.alloc [I 0,I 0,I 0,.nils,.nils,.nils,.nils,.nils,.nils]),e (.st 9 t7 t15)] c22_3)
def c22_5 : AC := .keep [0,1,4] (s [m 10 1,o 11 (.build [.nils,(.bool false)] [(0,(1,t10))]),o 12 (.box 2 t11),m 6 12] c22_4)
def a22 : AFunc := ⟨41,[(4,(some (none,9))),(5,none)],(s [o 4 (.alloc [I 0,I 0,I 0,.nils,.nils,.nils,.nils,.nils,.nils]),o 5 (.mov (i 0))] c22_5)⟩
theorem ok22 : FnOk Try.prog 22 a22 := okf Try.func22 (by kernel_rfl)
def c23_0 : AC := .keep [0,1,4,6,7,8,9,10] (.ops [p 57 3 7,p 58 1 57,o 59 (.ld .other t58),o 60 (.ldA 7 t10),o 61 (.buildSlice 7 1 [(.bool false),I 0,.nils,.nils,I 0,.nils,.nils] [(0,(7,t60))]),o 62 (.append 7 120 t59 t61),p 63 3 7,p 64 1 63,e (.st 1 t64 t62)])
def c23_1 : AC := .keep [0,1,4,6,7,8,9] (.ops [m 53 9,o 54 (.ibin .add .i64 t53 (i 1)),m 9 54])
def c23_2 : AC := .keep [0,1,4,6,7,8,9] (.seq (.block 2 (s [m 55 6,f 56 57 [t55] .other,o 10 (.alloc [(.bool false),I 0,.nils,.nils,I 0,.nils,.nils]),e (.st 7 t10 t56)] c23_0)) c23_1)
def c23_3 : AC := lk [0,1,4,6,7,8,9] (.seq (s [m 43 9,m 44 8,o 45 (.ibin .lss .i64 t43 t44),m 46 45,y 47 46 (.mov t6),y 48 46 (.nilCheck t47),y 49 46 (.fieldPtr 1 t48),y 50 46 (.ld .bool t49),y 51 46 (.not t50),o 52 (.pick t46 t51 ff)] (.cond t52 .skip (.exit 1))) c23_2)
def c23_4 : AC := .keep [0,1,4,6,7,11,12,13] (.ops [p 88 5 7,p 89 1 88,o 90 (.ld .other t89),o 91 (.ldA 3 t13),o 92 (.buildSlice 3 1 [I 0,.nils,.nils] [(0,(3,t91))]),o 93 (.append 3 56 t90 t92),p 94 5 7,p 95 1 94,e (.st 1 t95 t93)])
def c23_5 : AC := .keep [0,1,4,6,7,11,12] (.ops [m 84 12,o 85 (.ibin .add .i64 t84 (i 1)),m 12 85])
def c23_6 : AC := .keep [0,1,4,6,7,11,12] (.seq (.block 4 (s [m 86 6,f 87 58 [t86] .other,o 13 (.alloc [I 0,.nils,.nils]),e (.st 3 t13 t87)] c23_4)) c23_5)
def c23_7 : AC := lk [0,1,4,6,7,11,12] (.seq (s [m 74 12,m 75 11,o 76 (.ibin .lss .i64 t74 t75),m 77 76,y 78 77 (.mov t6),y 79 77 (.nilCheck t78),y 80 77 (.fieldPtr 1 t79),y 81 77 (.ld .bool t80),y 82 77 (.not t81),o 83 (.pick t77 t82 ff)] (.cond t83 .skip (.exit 3))) c23_6)
def c23_8 : AC := .keep [0,1,4,6,7,14,15] (.ops [m 120 15,o 121 (.ibin .add .i64 t120 (i 1)),m 15 121])
def c23_9 : AC := .keep [0,1,4,6,7,14,15] (.seq (.block 6 (s [m 122 6,f 123 53 [t122,(i 64)] .other,m 16 123] (.ops [p 124 8 7,o 125 (.ld .other t124),m 126 16,o 127 (.buildSlice 1 1 [.nils] [(0,(1,t126))]),o 128 (.append 1 24 t125 t127),p 129 8 7,e (.st 1 t129 t128)]))) c23_8)
def c23_10 : AC := lk [0,1,4,6,7,14,15] (.seq (s [m 110 15,m 111 14,o 112 (.ibin .lss .i64 t110 t111),m 113 112,y 114 113 (.mov t6),y 115 113 (.nilCheck t114),y 116 113 (.fieldPtr 1 t115),y 117 113 (.ld .bool t116),y 118 113 (.not t117),o 119 (.pick t113 t118 ff)] (.cond t119 .skip (.exit 5))) c23_9)
def c23_11 : AC := .keep [0,1,4,6,7] (s [m 102 6,f 103 54 [t102] .str,o 104 (.toBytes t103),p 105 7 7,e (.st 1 t105 t104)] (s [m 106 0,o 107 (.ibin .eql .i64 t106 (i 5))] (.cond t107 (s [m 108 6,f 109 55 [t108,(i 512)] (.int .i64),m 14 109] (s [o 15 (.mov (i 0))] (.block 5 c23_10))) .skip)))
def c23_12 : AC := .keep [0,1,4,6,7,28,96] (.cond t96 (s [m 99 6,f 100 55 [t99,(i 1099511627776)] (.int .i64),p 101 2 7,e (.st 1 t101 t100)] c23_11) (s [o 131 (.ibin .eql .i64 t28 (i 6)),m 130 131] (.cond t130 (s [m 132 6,f 133 55 [t132,(i 1099511627776)] (.int .i64),p 134 1 7,e (.st 1 t134 t133)] (.ops [m 135 6,f 136 55 [t135,(i 1099511627776)] (.int .i64),p 137 2 7,e (.st 1 t137 t136)])) .skip)))
def c23_13 : AC := .keep [0,1,4,6,7,28,65] (.cond t65 (s [m 67 6,f 68 54 [t67] .str,o 69 (.toBytes t68),p 70 5 7,p 71 0 70,e (.st 1 t71 t69)] (s [m 72 6,f 73 55 [t72,(i 512)] (.int .i64),m 11 73] (s [o 12 (.mov (i 0))] (.block 3 c23_7)))) (.seq (s [o 97 (.ibin .eql .i64 t28 (i 4)),m 96 97] (.cond t96 .skip (.ops [o 98 (.ibin .eql .i64 t28 (i 5)),m 96 98]))) c23_12))
def c23_14 : AC := .keep [0,1,4,6,7,28,34] (.cond t34 (s [m 36 6,f 37 54 [t36] .str,o 38 (.toBytes t37),p 39 3 7,p 40 0 39,e (.st 1 t40 t38)] (s [m 41 6,f 42 55 [t41,(i 512)] (.int .i64),m 8 42] (s [o 9 (.mov (i 0))] (.block 1 c23_3)))) (s [o 66 (.ibin .eql .i64 t28 (i 3)),m 65 66] c23_13))
def c23_15 : AC := .keep [0,1,4,6,7,28,29] (.cond t29 (.ops [m 31 6,f 32 55 [t31,(i 1099511627776)] (.int .i64),p 33 1 7,e (.st 1 t33 t32)]) (s [o 35 (.ibin .eql .i64 t28 (i 2)),m 34 35] c23_14))
def c23_16 : AC := .keep [0,1,4,6,7,28] (.block 0 (s [o 30 (.ibin .eql .i64 t28 (i 1)),m 29 30] c23_15))
def c23_17 : AC := .keep [0,1,4,6,7,27] (.cond t27 (s [m 28 0] c23_16) .skip)
def c23_18 : AC := .keep [4,7,156] (.cond t156 (s [o 157 (.build [I 0,I 0,I 0,.nils,.nils,.nils,.nils,.nils,.nils] []),e (.st 9 t4 t157),o 5 (.mov (i 2))] .ret) .skip)
def c23_19 : AC := .keep [1,4,6,7,17,18] (.seq (s [m 144 6,o 145 (.nilCheck t144),p 146 1 145,o 147 (.ld .bool t146),m 148 147,w 149 148 (.mov t18),w 150 148 (.ibin .neq .i64 t149 (i 0)),o 151 (.pick t148 tt t150),m 152 151,w 153 152 (.mov t17),w 154 152 (.mov t1),w 155 152 (.sbin .neq t153 t154),o 156 (.pick t152 tt t155)] c23_18) (s [o 158 (.ldA 9 t7),e (.st 9 t4 t158),o 5 (.mov (i 0))] .ret))
def c23_20 : AC := .keep [0,1,4,6,7] (s [m 139 0,o 140 (.ldA 9 t7),f 141 18 [t139,t140] .other,m 138 141,g 142 0 (some .str) 138,g 143 1 (some (.int .i64)) 138,m 17 142,m 18 143] c23_19)
def c23_21 : AC := .keep [0,1,4,6,7] (.seq (s [p 25 0 7,o 26 (.ld (.int .i64) t25),o 27 (.ibin .eql .i64 t26 (i 0))] c23_17) c23_20)
def c23_22 : AC := .keep [0,1,4,6] (s [m 22 6,f 23 55 [t22,(i 10)] (.int .i64),o 24 (.build [I 0,I 0,I 0,.nils,.nils,.nils,.nils,.nils,.nils] [(0,(1,t23))]),o 7 (.alloc [I 0,I 0,I 0,.nils,.nils,.nils,.nils,.nils,.nils]),e (.st 9 t7 t24)] c23_21)
def c23_23 : AC := .keep [0,1,4] (s [m 19 1,o 20 (.build [(.str []),(.bool false)] [(0,(1,t19))]),o 21 (.box 2 t20),m 6 21] c23_22)
def a23 : AFunc := ⟨159,[(4,(some (none,9))),(5,none)],(s [o 4 (.alloc [I 0,I 0,I 0,.nils,.nils,.nils,.nils,.nils,.nils]),o 5 (.mov (i 0))] c23_23)⟩
theorem ok23 : FnOk Try.prog 23 a23 := okf Try.func23 (by kernel_rfl)
def c24_0 : AC := .keep [0,1,5,6,7] (.ops [m 39 5,o 40 (.ldA 4 t7),o 41 (.buildSlice 4 1 [(.str []),(.str []),(.bool false),I 0] [(0,(4,t40))]),o 42 (.append 4 48 t39 t41),m 5 42])
def c24_1 : AC := .keep [0,1,5,6,7] (s [p 31 1 7,o 32 (.ld .str t31),p 33 1 7,o 34 (.ld .str t33),o 35 (.lenS t34),o 36 (.minI .i64 [t35,(i 1030)]),o 37 (.sliceS t32 none (some t36)),p 38 1 7,e (.st 1 t38 t37)] c24_0)
def c24_2 : AC := .keep [0,1,5,6,7] (s [p 23 0 7,o 24 (.ld .str t23),p 25 0 7,o 26 (.ld .str t25),o 27 (.lenS t26),o 28 (.minI .i64 [t27,(i 130)]),o 29 (.sliceS t24 none (some t28)),p 30 0 7,e (.st 1 t30 t29)] c24_1)
def c24_3 : AC := .keep [0,1,5,6] (.seq (.block 1 (s [m 19 0,m 20 6,o 21 (.indexPtr 4 t19 t20),o 22 (.ldA 4 t21),o 7 (.alloc [(.str []),(.str []),(.bool false),I 0]),e (.st 4 t7 t22)] c24_2)) (.ops [m 17 6,o 18 (.ibin .add .i64 t17 (i 1)),m 6 18]))
def c24_4 : AC := lk [0,1,5,6] (.seq (s [m 8 6,m 9 0,o 10 (.lenL t9),o 11 (.ibin .lss .i64 t8 t10),m 12 11,y 13 12 (.mov t6),y 14 12 (.mov t1),y 15 12 (.ibin .lss .i64 t13 t14),o 16 (.pick t12 t15 ff)] (.cond t16 .skip (.exit 0))) c24_3)
def c24_5 : AC := .keep [5] (s [m 43 5,m 4 43] .ret)
def a24 : AFunc := ⟨44,[(4,none)],(s [o 4 (.mov (.const .nils))] (s [o 5 (.mov (.const .nils))] (.seq (s [o 6 (.mov (i 0))] (.block 0 c24_4)) c24_5)))⟩
theorem ok24 : FnOk Try.prog 24 a24 := okf Try.func24 (by kernel_rfl)
def a25 : AFunc := ⟨15,[],(.ops [m 4 0,m 5 0,o 6 (.nilCheck t5),p 7 1 6,o 8 (.ld .bool t7),m 9 8,w 10 9 (.mov t1),w 11 9 (.not t10),o 12 (.pick t9 tt t11),o 13 (.nilCheck t4),p 14 1 13,e (.st 1 t14 t12)])⟩
theorem ok25 : FnOk Try.prog 25 a25 := okf Try.func25 (by kernel_rfl)
def c26_0 : AC := lk [3,20,21,22] (s [o 23 (.ibin .lss .i64 t22 t21)] (.seq (.cond t23 .skip (.exit 0)) (.seq (.block 1 (s [o 24 (.indexPtr 4 t20 t22),o 25 (.ldA 4 t24),o 9 (.alloc [(.str []),(.str []),(.bool false),I 0]),e (.st 4 t9 t25)] (.ops [m 26 3,o 27 (.ldA 4 t9),⟨(some 28),none,(.call (.val t26) [t27] .other)⟩]))) (.ops [o 29 (.ibin .add .i64 t22 (i 1)),m 22 29]))))
def a26 : AFunc := ⟨30,[],(s [m 10 0,m 11 1,o 12 (.lenL t11),m 13 2,o 14 (.ibin .leq .i64 t12 t13),f 15 25 [t10,t14] .other] (s [m 16 0,m 17 1,o 18 (.lenL t17),f 19 29 [t16,t18] .other] (s [m 20 1,o 21 (.lenL t20),o 22 (.mov (i 0))] (.block 0 c26_0))))⟩
theorem ok26 : FnOk Try.prog 26 a26 := okf Try.func26 (by kernel_rfl)
def a27 : AFunc := ⟨18,[],(s [o 3 (.box 4 t1)] (s [m 4 0,o 5 (.ldA 4 t3),f 6 59 [t5] .bool,f 7 25 [t4,t6] .other] (.draw [(m 8 0,[]),(m 9 0,[]),(o 10 (.nilCheck t9),[]),(p 11 0 10,[]),(o 12 (.ld .other t11),[]),(o 13 (.ldA 4 t3),[]),(f 14 60 [t13] .other,[o 12 (.ld .other t11),p 11 0 10,o 10 (.nilCheck t9),m 9 0,m 8 0]),(o 15 (.append 1 1 t12 t14),[m 8 0]),(o 16 (.nilCheck t8),[]),(p 17 0 16,[]),(e (.st 1 t17 t15),[])])))⟩
theorem ok27 : FnOk Try.prog 27 a27 := okf Try.func27 (by kernel_rfl)
def a28 : AFunc := ⟨13,[],(.ops [m 4 0,m 5 0,o 6 (.nilCheck t5),p 7 0 6,o 8 (.ld .other t7),m 9 1,f 10 61 [t8,t9] .other,o 11 (.nilCheck t4),p 12 0 11,e (.st 1 t12 t10)])⟩
theorem ok28 : FnOk Try.prog 28 a28 := okf Try.func28 (by kernel_rfl)
def a29 : AFunc := ⟨23,[],(s [m 4 0,m 5 1,o 6 (.ibin .geq .i64 t5 (i 0)),m 7 6,y 8 7 (.mov t1),y 9 7 (.ibin .leq .i64 t8 (i 1099511627776)),o 10 (.pick t7 t9 ff),f 11 25 [t4,t10] .other] (.ops [m 12 0,m 13 0,o 14 (.nilCheck t13),p 15 0 14,o 16 (.ld .other t15),m 17 1,o 18 (.maxI .i64 [t17,(i 0)]),o 19 (.convI .i64 .u64 t18),f 20 62 [t16,t19] .other,o 21 (.nilCheck t12),p 22 0 21,e (.st 1 t22 t20)]))⟩
theorem ok29 : FnOk Try.prog 29 a29 := okf Try.func29 (by kernel_rfl)
def a30 : AFunc := ⟨12,[(2,none),(3,none)],(s [o 2 (.mov (.const .nils)),o 3 (.mov (i 0))] (.seq (s [m 4 0,o 5 (.nilCheck t4),p 6 1 5,o 7 (.ld .bool t6)] (.cond t7 (s [o 2 (.mov (.const .nils)),o 3 (.mov (i 1))] .ret) .skip)) (s [m 8 0,o 9 (.nilCheck t8),p 10 0 9,o 11 (.ld .other t10),m 2 11,o 3 (.mov (i 0))] .ret)))⟩
theorem ok30 : FnOk Try.prog 30 a30 := okf Try.func30 (by kernel_rfl)
def c31_0 : AC := .keep [0,1,6] (.ops [m 26 0,m 27 1,m 28 6,o 29 (.indexPtr 4 t27 t28),o 30 (.ldA 4 t29),f 31 64 [t30] .str,o 32 (.sbin .add t26 t31),m 0 32])
def c31_1 : AC := .keep [0,1,6,7] (.seq (s [m 23 7,o 24 (.not t23)] (.cond t24 (s [m 25 0,m 4 25,o 5 (.mov ff)] .ret) .skip)) c31_0)
def c31_2 : AC := .keep [0,1,6] (.ops [m 16 6,o 17 (.ibin .add .i64 t16 (i 1)),m 6 17])
def c31_3 : AC := .keep [0,1,6] (.seq (.block 1 (s [m 18 1,m 19 6,o 20 (.indexPtr 4 t18 t19),o 21 (.ldA 4 t20),f 22 63 [t21] .bool,m 7 22] c31_1)) c31_2)
def c31_4 : AC := lk [0,1,6] (.seq (s [m 12 6,m 13 1,o 14 (.lenL t13),o 15 (.ibin .lss .i64 t12 t14)] (.cond t15 .skip (.exit 0))) c31_3)
def c31_5 : AC := .keep [0] (s [m 33 0,m 4 33,o 5 (.mov tt)] .ret)
def c31_6 : AC := .keep [0,1] (s [m 8 0,m 9 1,o 10 (.lenL t9),f 11 34 [t8,t10] .str,m 0 11] (.seq (s [o 6 (.mov (i 0))] (.block 0 c31_4)) c31_5))
def a31 : AFunc := ⟨34,[(4,none),(5,none)],(s [o 4 (.mov (.const (.str []))),o 5 (.mov ff)] c31_6)⟩
theorem ok31 : FnOk Try.prog 31 a31 := okf Try.func31 (by kernel_rfl)
def a32 : AFunc := ⟨8,[(4,none)],(s [o 4 (.mov (.const (.str [])))] (s [m 5 0,m 6 1,f 7 65 [t5,t6] .str,m 4 7] .ret))⟩
theorem ok32 : FnOk Try.prog 32 a32 := okf Try.func32 (by kernel_rfl)
def a33 : AFunc := ⟨9,[(2,none)],(s [o 2 (.mov ff)] (s [m 3 0,o 4 (.ibin .geq .i64 t3 (i 0)),m 5 4,y 6 5 (.mov t0),y 7 5 (.ibin .leq .i64 t6 (i 1099511627776)),o 8 (.pick t5 t7 ff),m 2 8] .ret))⟩
theorem ok33 : FnOk Try.prog 33 a33 := okf Try.func33 (by kernel_rfl)
def a34 : AFunc := ⟨9,[(4,none)],(s [o 4 (.mov (.const (.str [])))] (s [m 5 0,m 6 1,o 7 (.convI .i64 .u64 t6),f 8 66 [t5,t7] .str,m 4 8] .ret))⟩
theorem ok34 : FnOk Try.prog 34 a34 := okf Try.func34 (by kernel_rfl)
def c35_0 : AC := lk [0,1,5] (.seq (s [m 11 5,m 12 0,o 13 (.lenL t12),o 14 (.ibin .lss .i64 t11 t13)] (.cond t14 .skip (.exit 0))) (.seq (.block 1 (.seq (.draw [(m 17 0,[]),(m 18 5,[]),(o 19 (.indexPtr 4 t17 t18),[]),(o 20 (.ldA 4 t19),[]),(m 21 1,[]),(m 22 5,[]),(o 23 (.indexPtr 4 t21 t22),[]),(o 24 (.ldA 4 t23),[]),(o 25 (.aeq true 4 [(0,.str),(1,.str),(2,.bool),(3,(.int .i64))] t20 t24),[])]) (.cond t25 (s [o 4 (.mov ff)] .ret) .skip))) (.ops [m 15 5,o 16 (.ibin .add .i64 t15 (i 1)),m 5 16])))
def c35_1 : AC := .keep [] (s [o 4 (.mov tt)] .ret)
def a35 : AFunc := ⟨26,[(4,none)],(s [o 4 (.mov ff)] (.seq (s [m 6 0,o 7 (.lenL t6),m 8 1,o 9 (.lenL t8),o 10 (.ibin .neq .i64 t7 t9)] (.cond t10 (s [o 4 (.mov ff)] .ret) .skip)) (.seq (s [o 5 (.mov (i 0))] (.block 0 c35_0)) c35_1)))⟩
theorem ok35 : FnOk Try.prog 35 a35 := okf Try.func35 (by kernel_rfl)
def a36 : AFunc := ⟨18,[(2,(some (none,3)))],(s [o 1 (.box 3 t0),o 2 (.alloc [I 0,.nils,.nils])] (.seq (.draw [(p 3 0 1,[]),(o 4 (.ld (.int .i64) t3),[]),(p 6 1 1,[]),(o 7 (.ld .other t6),[]),(p 8 1 1,[]),(o 9 (.ld .other t8),[]),(o 10 (.lenL t9),[]),(o 11 (.minI .i64 [t10,(i 300)]),[]),(o 12 (.sliceL 1 t7 none (some t11) none),[]),(p 14 2 1,[]),(o 15 (.ld .other t14),[]),(o 5 (.buildSlice 1 0 [] []),[]),(o 13 (.append 1 1 t5 t12),[o 15 (.ld .other t14),p 14 2 1,o 4 (.ld (.int .i64) t3),p 3 0 1]),(f 16 37 [t15] .other,[o 4 (.ld (.int .i64) t3),p 3 0 1]),(o 17 (.build [I 0,.nils,.nils] [(0,(1,t4)),(1,(1,t13)),(2,(1,t16))]),[]),(e (.st 3 t2 t17),[])]) .ret))⟩
theorem ok36 : FnOk Try.prog 36 a36 := okf Try.func36 (by kernel_rfl)
def a37 : AFunc := ⟨10,[(2,none)],(s [o 2 (.mov (.const .nils))] (s [o 3 (.buildSlice 32 0 [] []),m 4 0,m 5 0,o 6 (.lenL t5),o 7 (.minI .i64 [t6,(i 70)]),o 8 (.sliceL 32 t4 none (some t7) none),o 9 (.append 32 32 t3 t8),m 2 9] .ret))⟩
theorem ok37 : FnOk Try.prog 37 a37 := okf Try.func37 (by kernel_rfl)
def c38_0 : AC := .keep [0,3,19] (.cond t19 .skip (.ops [p 46 8 3,o 47 (.ld .other t46),o 48 (.lenL t47),o 49 (.ibin .gtr .i64 t48 (i 0)),m 50 49,y 51 50 (.mov t0),y 52 50 (.ibin .neq .i64 t51 (i 5)),o 53 (.pick t50 t52 ff),m 19 53]))
def c38_1 : AC := .keep [0,3,6,19] (.cond t19 .skip (s [p 38 7 3,o 39 (.ld .other t38),o 40 (.lenL t39),o 41 (.ibin .gtr .i64 t40 (i 0)),m 42 41,y 43 42 (.mov t6),y 44 42 (.not t43),o 45 (.pick t42 t44 ff),m 19 45] c38_0))
def c38_2 : AC := .keep [0,3,6,19] (.cond t19 .skip (s [p 27 2 3,o 28 (.ld (.int .i64) t27),o 29 (.ibin .neq .i64 t28 (i 0)),m 30 29,y 31 30 (.mov t6),y 32 30 (.not t31),o 33 (.pick t30 t32 ff),m 34 33,y 35 34 (.mov t0),y 36 34 (.ibin .neq .i64 t35 (i 6)),o 37 (.pick t34 t36 ff),m 19 37] c38_1))
def c38_3 : AC := .keep [0,3,54] (.cond t54 .skip (.ops [p 69 5 3,p 70 0 69,o 71 (.ld .other t70),o 72 (.lenL t71),p 73 5 3,p 74 1 73,o 75 (.ld .other t74),o 76 (.lenL t75),o 77 (.ibin .add .i64 t72 t76),o 78 (.ibin .gtr .i64 t77 (i 0)),m 79 78,y 80 79 (.mov t0),y 81 79 (.ibin .neq .i64 t80 (i 3)),o 82 (.pick t79 t81 ff),m 54 82]))
def c38_4 : AC := .keep [54] (.cond t54 (s [o 4 (.mov ff)] .ret) .skip)
def c38_5 : AC := .keep [0,3,19] (.cond t19 (s [o 4 (.mov ff)] .ret) (.seq (s [p 55 3 3,p 56 0 55,o 57 (.ld .other t56),o 58 (.lenL t57),p 59 3 3,p 60 1 59,o 61 (.ld .other t60),o 62 (.lenL t61),o 63 (.ibin .add .i64 t58 t62),o 64 (.ibin .gtr .i64 t63 (i 0)),m 65 64,y 66 65 (.mov t0),y 67 65 (.ibin .neq .i64 t66 (i 2)),o 68 (.pick t65 t67 ff),m 54 68] c38_3) c38_4))
def c38_6 : AC := .keep [] (s [o 4 (.mov tt)] .ret)
def c38_7 : AC := .keep [0,3,5,6] (.seq (.block 0 (.seq (s [p 20 1 3,o 21 (.ld (.int .i64) t20),o 22 (.ibin .neq .i64 t21 (i 0)),m 23 22,y 24 23 (.mov t5),y 25 23 (.not t24),o 26 (.pick t23 t25 ff),m 19 26] c38_2) c38_5)) c38_6)
def c38_8 : AC := .keep [0,3,5] (s [m 13 0,o 14 (.ibin .eql .i64 t13 (i 4)),m 15 14,w 16 15 (.mov t0),w 17 15 (.ibin .eql .i64 t16 (i 5)),o 18 (.pick t15 tt t17),m 6 18] c38_7)
def c38_9 : AC := .keep [0,3] (s [m 7 0,o 8 (.ibin .eql .i64 t7 (i 1)),m 9 8,w 10 9 (.mov t0),w 11 9 (.ibin .eql .i64 t10 (i 6)),o 12 (.pick t9 tt t11),m 5 12] c38_8)
def a38 : AFunc := ⟨83,[(4,none)],(s [o 3 (.box 9 t1),o 4 (.mov ff)] c38_9)⟩
theorem ok38 : FnOk Try.prog 38 a38 := okf Try.func38 (by kernel_rfl)
def c39_0 : AC := lk [3,20,21,22] (s [o 23 (.ibin .lss .i64 t22 t21)] (.seq (.cond t23 .skip (.exit 0)) (.seq (.block 1 (s [o 24 (.indexPtr 7 t20 t22),o 25 (.ldA 7 t24),o 9 (.alloc [(.bool false),I 0,.nils,.nils,I 0,.nils,.nils]),e (.st 7 t9 t25)] (.ops [m 26 3,o 27 (.ldA 7 t9),⟨(some 28),none,(.call (.val t26) [t27] .other)⟩]))) (.ops [o 29 (.ibin .add .i64 t22 (i 1)),m 22 29]))))
def a39 : AFunc := ⟨30,[],(s [m 10 0,m 11 1,o 12 (.lenL t11),m 13 2,o 14 (.ibin .leq .i64 t12 t13),f 15 25 [t10,t14] .other] (s [m 16 0,m 17 1,o 18 (.lenL t17),f 19 29 [t16,t18] .other] (s [m 20 1,o 21 (.lenL t20),o 22 (.mov (i 0))] (.block 0 c39_0))))⟩
theorem ok39 : FnOk Try.prog 39 a39 := okf Try.func39 (by kernel_rfl)
def a40 : AFunc := ⟨23,[],(s [o 3 (.box 7 t1)] (s [m 4 0,p 5 0 3,o 6 (.ld .bool t5),f 7 67 [t4,t6] .other] (s [m 8 0,p 9 1 3,o 10 (.ldA 3 t9),f 11 68 [t8,t10] .other] (s [p 12 0 3,o 13 (.ld .bool t12)] (.cond t13 (.ops [m 14 0,p 15 4 3,o 16 (.ldA 3 t15),f 17 68 [t14,t16] .other]) (.ops [m 18 0,p 19 4 3,o 20 (.ldA 3 t19),f 21 69 [t20] .bool,f 22 25 [t18,t21] .other]))))))⟩
theorem ok40 : FnOk Try.prog 40 a40 := okf Try.func40 (by kernel_rfl)
def c41_0 : AC := lk [3,20,21,22] (s [o 23 (.ibin .lss .i64 t22 t21)] (.seq (.cond t23 .skip (.exit 0)) (.seq (.block 1 (s [o 24 (.indexPtr 3 t20 t22),o 25 (.ldA 3 t24),o 9 (.alloc [I 0,.nils,.nils]),e (.st 3 t9 t25)] (.ops [m 26 3,o 27 (.ldA 3 t9),⟨(some 28),none,(.call (.val t26) [t27] .other)⟩]))) (.ops [o 29 (.ibin .add .i64 t22 (i 1)),m 22 29]))))
def a41 : AFunc := ⟨30,[],(s [m 10 0,m 11 1,o 12 (.lenL t11),m 13 2,o 14 (.ibin .leq .i64 t12 t13),f 15 25 [t10,t14] .other] (s [m 16 0,m 17 1,o 18 (.lenL t17),f 19 29 [t16,t18] .other] (s [m 20 1,o 21 (.lenL t20),o 22 (.mov (i 0))] (.block 0 c41_0))))⟩
theorem ok41 : FnOk Try.prog 41 a41 := okf Try.func41 (by kernel_rfl)
def a42 : AFunc := ⟨19,[],(s [o 2 (.box 1 t0),o 3 (.box 3 t1)] (s [o 4 (.ld .other t2),p 5 0 3,o 6 (.ld (.int .i64) t5),f 7 29 [t4,t6] .other] (s [o 8 (.ld .other t2),p 9 1 3,o 10 (.ld .other t9),o 11 (.makeFunc (.func 71) [] [t2]),f 12 70 [t8,t10,(i 64),t11] .other] (.ops [o 13 (.ld .other t2),p 14 2 3,o 15 (.ld .other t14),o 16 (.ld .other t2),o 17 (.makeFunc (.func 73) [t16] []),f 18 72 [t13,t15,(i 64),t17] .other]))))⟩
theorem ok42 : FnOk Try.prog 42 a42 := okf Try.func42 (by kernel_rfl)
def c43_0 : AC := lk [3,20,21,22] (s [o 23 (.ibin .lss .i64 t22 t21)] (.seq (.cond t23 .skip (.exit 0)) (.seq (.block 1 (s [o 24 (.indexPtr 1 t20 t22),o 25 (.ld .other t24),m 9 25] (.ops [m 26 3,m 27 9,⟨(some 28),none,(.call (.val t26) [t27] .other)⟩]))) (.ops [o 29 (.ibin .add .i64 t22 (i 1)),m 22 29]))))
def a43 : AFunc := ⟨30,[],(s [m 10 0,m 11 1,o 12 (.lenL t11),m 13 2,o 14 (.ibin .leq .i64 t12 t13),f 15 25 [t10,t14] .other] (s [m 16 0,m 17 1,o 18 (.lenL t17),f 19 29 [t16,t18] .other] (s [m 20 1,o 21 (.lenL t20),o 22 (.mov (i 0))] (.block 0 c43_0))))⟩
theorem ok43 : FnOk Try.prog 43 a43 := okf Try.func43 (by kernel_rfl)
def a44 : AFunc := ⟨9,[],(.ops [m 4 0,m 5 1,m 6 0,o 7 (.makeFunc (.func 27) [t6] []),f 8 26 [t4,t5,(i 64),t7] .other])⟩
theorem ok44 : FnOk Try.prog 44 a44 := okf Try.func44 (by kernel_rfl)
def c45_0 : AC := .keep [0,5,7,9] (.seq (.draw [(m 32 0,[]),(p 33 1 5,[]),(o 34 (.ld (.int .i64) t33),[]),(o 36 (.ldA 9 t9),[]),(f 35 34 [t32,t34] .str,[o 36 (.ldA 9 t9)]),(m 6 35,[]),(e (.st 9 t7 t36),[]),(o 8 (.mov tt),[])]) .ret)
def c45_1 : AC := .keep [0,5,7,9] (.seq (s [p 26 1 5,o 27 (.ld (.int .i64) t26),f 28 33 [t27] .bool,o 29 (.not t28)] (.cond t29 (.seq (.draw [(m 30 0,[]),(o 31 (.ldA 9 t9),[]),(m 6 30,[]),(e (.st 9 t7 t31),[]),(o 8 (.mov ff),[])]) .ret) .skip)) c45_0)
def c45_2 : AC := .keep [0,5,7,9,10,11,12] (.seq (s [m 72 12,o 73 (.not t72)] (.cond t73 (.seq (.draw [(m 74 0,[]),(o 75 (.ldA 9 t9),[]),(m 6 74,[]),(e (.st 9 t7 t75),[]),(o 8 (.mov ff),[])]) .ret) .skip)) (.ops [m 76 11,m 0 76]))
def c45_3 : AC := .keep [0,5,7,9,10] (.ops [m 59 10,o 60 (.ibin .add .i64 t59 (i 1)),m 10 60])
def c45_4 : AC := .keep [0,5,7,9,10] (.seq (.block 2 (s [m 62 0,p 63 3 5,p 64 1 63,o 65 (.ld .other t64),m 66 10,o 67 (.indexPtr 7 t65 t66),o 68 (.ldA 7 t67),f 69 74 [t62,t68] .other,m 61 69,g 70 0 (some .str) 61,g 71 1 (some .bool) 61,m 11 70,m 12 71] c45_2)) c45_3)
def c45_5 : AC := lk [0,5,7,9,10] (.seq (s [m 53 10,p 54 3 5,p 55 1 54,o 56 (.ld .other t55),o 57 (.lenL t56),o 58 (.ibin .lss .i64 t53 t57)] (.cond t58 .skip (.exit 1))) c45_4)
def c45_6 : AC := .keep [0,5,7,9] (.seq (.draw [(m 77 0,[]),(o 78 (.ldA 9 t9),[]),(p 79 3 5,[]),(p 80 1 79,[]),(o 81 (.ld .other t80),[]),(o 82 (.lenL t81),[]),(o 83 (.ibin .leq .i64 t82 (i 512)),[]),(m 6 77,[]),(e (.st 9 t7 t78),[o 83 (.ibin .leq .i64 t82 (i 512)),o 82 (.lenL t81),o 81 (.ld .other t80),p 80 1 79,p 79 3 5]),(m 8 83,[])]) .ret)
def c45_7 : AC := .keep [0,5,7,9] (.seq (s [o 10 (.mov (i 0))] (.block 1 c45_5)) c45_6)
def c45_8 : AC := .keep [0,5,7,9] (.seq (.draw [(m 42 0,[]),(p 43 3 5,[]),(p 44 0 43,[]),(o 45 (.ld .other t44),[]),(o 46 (.toStr t45),[]),(p 48 3 5,[]),(p 49 1 48,[]),(o 50 (.ld .other t49),[]),(o 51 (.lenL t50),[]),(f 47 32 [t42,t46] .str,[o 51 (.lenL t50),o 50 (.ld .other t49),p 49 1 48,p 48 3 5]),(f 52 34 [t47,t51] .str,[]),(m 0 52,[])]) c45_7)
def c45_9 : AC := .keep [0,5,7,9,13,14,15] (.seq (s [m 119 15,o 120 (.not t119)] (.cond t120 (.seq (.draw [(m 121 0,[]),(o 122 (.ldA 9 t9),[]),(m 6 121,[]),(e (.st 9 t7 t122),[]),(o 8 (.mov ff),[])]) .ret) .skip)) (.ops [m 123 14,m 0 123]))
def c45_10 : AC := .keep [0,5,7,9,13] (.ops [m 106 13,o 107 (.ibin .add .i64 t106 (i 1)),m 13 107])
def c45_11 : AC := .keep [0,5,7,9,13] (.seq (.block 4 (s [m 109 0,p 110 5 5,p 111 1 110,o 112 (.ld .other t111),m 113 13,o 114 (.indexPtr 3 t112 t113),o 115 (.ldA 3 t114),f 116 75 [t109,t115] .other,m 108 116,g 117 0 (some .str) 108,g 118 1 (some .bool) 108,m 14 117,m 15 118] c45_9)) c45_10)
def c45_12 : AC := lk [0,5,7,9,13] (.seq (s [m 100 13,p 101 5 5,p 102 1 101,o 103 (.ld .other t102),o 104 (.lenL t103),o 105 (.ibin .lss .i64 t100 t104)] (.cond t105 .skip (.exit 3))) c45_11)
def c45_13 : AC := .keep [0,5,7,9] (.seq (.draw [(m 124 0,[]),(o 125 (.ldA 9 t9),[]),(p 126 5 5,[]),(p 127 1 126,[]),(o 128 (.ld .other t127),[]),(o 129 (.lenL t128),[]),(o 130 (.ibin .leq .i64 t129 (i 512)),[]),(m 6 124,[]),(e (.st 9 t7 t125),[o 130 (.ibin .leq .i64 t129 (i 512)),o 129 (.lenL t128),o 128 (.ld .other t127),p 127 1 126,p 126 5 5]),(m 8 130,[])]) .ret)
def c45_14 : AC := .keep [0,5,7,9] (.seq (s [o 13 (.mov (i 0))] (.block 3 c45_12)) c45_13)
def c45_15 : AC := .keep [0,5,7,9] (.seq (.draw [(m 89 0,[]),(p 90 5 5,[]),(p 91 0 90,[]),(o 92 (.ld .other t91),[]),(o 93 (.toStr t92),[]),(p 95 5 5,[]),(p 96 1 95,[]),(o 97 (.ld .other t96),[]),(o 98 (.lenL t97),[]),(f 94 32 [t89,t93] .str,[o 98 (.lenL t97),o 97 (.ld .other t96),p 96 1 95,p 95 5 5]),(f 99 34 [t94,t98] .str,[]),(m 0 99,[])]) c45_14)
def c45_16 : AC := .keep [0,5,7,9,16,17,193] (.cond t193 (.seq (.draw [(m 194 0,[]),(o 195 (.ldA 9 t9),[]),(m 6 194,[]),(e (.st 9 t7 t195),[]),(o 8 (.mov ff),[])]) .ret) .skip)
def c45_17 : AC := .keep [0,5,7,9,16,17,18] (.seq (s [m 183 18,o 184 (.not t183),m 185 184,w 186 185 (.fieldPtr 8 t5),w 187 185 (.ld .other t186),w 188 185 (.mov t16),w 189 185 (.indexPtr 1 t187 t188),w 190 185 (.ld .other t189),w 191 185 (.lenL t190),w 192 185 (.ibin .gtr .i64 t191 (i 64)),o 193 (.pick t185 tt t192)] c45_16) (.ops [m 196 17,m 0 196]))
def c45_18 : AC := .keep [0,5,7,9,16] (.seq (.block 6 (s [m 174 0,p 175 8 5,o 176 (.ld .other t175),m 177 16,o 178 (.indexPtr 1 t176 t177),o 179 (.ld .other t178),f 180 31 [t174,t179] .other,m 173 180,g 181 0 (some .str) 173,g 182 1 (some .bool) 173,m 17 181,m 18 182] c45_17)) (.ops [m 171 16,o 172 (.ibin .add .i64 t171 (i 1)),m 16 172]))
def c45_19 : AC := lk [0,5,7,9,16] (.seq (s [m 166 16,p 167 8 5,o 168 (.ld .other t167),o 169 (.lenL t168),o 170 (.ibin .lss .i64 t166 t169)] (.cond t170 .skip (.exit 5))) c45_18)
def c45_20 : AC := .keep [0,5,7,9] (.seq (.draw [(m 197 0,[]),(o 198 (.ldA 9 t9),[]),(p 199 8 5,[]),(o 200 (.ld .other t199),[]),(o 201 (.lenL t200),[]),(o 202 (.ibin .leq .i64 t201 (i 512)),[]),(m 6 197,[]),(e (.st 9 t7 t198),[o 202 (.ibin .leq .i64 t201 (i 512)),o 201 (.lenL t200),o 200 (.ld .other t199),p 199 8 5]),(m 8 202,[])]) .ret)
def c45_21 : AC := .keep [0,5,7,9] (.seq (s [o 16 (.mov (i 0))] (.block 5 c45_19)) c45_20)
def c45_22 : AC := .keep [0,5,7,9] (s [m 161 0,p 162 8 5,o 163 (.ld .other t162),o 164 (.lenL t163),f 165 34 [t161,t164] .str,m 0 165] c45_21)
def c45_23 : AC := .keep [0,5,7,9] (s [p 158 8 5,o 159 (.ld .other t158),p 160 8 9,e (.st 1 t160 t159)] c45_22)
def c45_24 : AC := .keep [0,1,5,7,9] (.seq (s [m 154 1,o 155 (.ibin .eql .i64 t154 (i 4))] (.cond t155 (.seq (.draw [(m 156 0,[]),(o 157 (.ldA 9 t9),[]),(m 6 156,[]),(e (.st 9 t7 t157),[]),(o 8 (.mov tt),[])]) .ret) .skip)) c45_23)
def c45_25 : AC := .keep [0,1,5,7,9] (.seq (.draw [(m 146 0,[]),(p 147 2 5,[]),(o 148 (.ld (.int .i64) t147),[]),(p 150 7 5,[]),(o 151 (.ld .other t150),[]),(o 152 (.toStr t151),[]),(f 149 34 [t146,t148] .str,[o 152 (.toStr t151),o 151 (.ld .other t150),p 150 7 5]),(f 153 32 [t149,t152] .str,[]),(m 0 153,[])]) c45_24)
def c45_26 : AC := .keep [0,1,5,7,9] (.seq (s [p 140 2 5,o 141 (.ld (.int .i64) t140),f 142 33 [t141] .bool,o 143 (.not t142)] (.cond t143 (.seq (.draw [(m 144 0,[]),(o 145 (.ldA 9 t9),[]),(m 6 144,[]),(e (.st 9 t7 t145),[]),(o 8 (.mov ff),[])]) .ret) .skip)) c45_25)
def c45_27 : AC := .keep [0,1,5,7,9] (s [p 137 7 5,o 138 (.ld .other t137),p 139 7 9,e (.st 1 t139 t138)] c45_26)
def c45_28 : AC := .keep [0,1,5,7,9,131] (.cond t131 (s [p 134 2 5,o 135 (.ld (.int .i64) t134),p 136 2 9,e (.st 1 t136 t135)] c45_27) .skip)
def c45_29 : AC := .keep [0,1,5,7,9,20,84] (.cond t84 (s [p 86 5 5,o 87 (.ldA 2 t86),p 88 5 9,e (.st 2 t88 t87)] c45_15) (.seq (s [o 132 (.ibin .eql .i64 t20 (i 4)),m 131 132] (.cond t131 .skip (.ops [o 133 (.ibin .eql .i64 t20 (i 5)),m 131 133]))) c45_28))
def c45_30 : AC := .keep [0,1,5,7,9,20,37] (.cond t37 (s [p 39 3 5,o 40 (.ldA 2 t39),p 41 3 9,e (.st 2 t41 t40)] c45_8) (s [o 85 (.ibin .eql .i64 t20 (i 3)),m 84 85] c45_29))
def c45_31 : AC := .keep [0,1,5,7,9,20,21] (.cond t21 (s [p 23 1 5,o 24 (.ld (.int .i64) t23),p 25 1 9,e (.st 1 t25 t24)] c45_1) (s [o 38 (.ibin .eql .i64 t20 (i 2)),m 37 38] c45_30))
def c45_32 : AC := .keep [0,1,5,7,9,20] (.block 0 (s [o 22 (.ibin .eql .i64 t20 (i 1)),m 21 22] c45_31))
def c45_33 : AC := .keep [0,5,7,9,218] (.cond t218 (.seq (.draw [(m 219 0,[]),(o 220 (.ldA 9 t9),[]),(m 6 219,[]),(e (.st 9 t7 t220),[]),(o 8 (.mov ff),[])]) .ret) .skip)
def c45_34 : AC := .keep [0,5,7,9] (.seq (.draw [(m 221 0,[]),(p 222 1 5,[]),(o 223 (.ld (.int .i64) t222),[]),(p 225 2 5,[]),(o 226 (.ld (.int .i64) t225),[]),(o 228 (.ldA 9 t9),[]),(f 224 34 [t221,t223] .str,[o 228 (.ldA 9 t9),o 226 (.ld (.int .i64) t225),p 225 2 5]),(f 227 34 [t224,t226] .str,[o 228 (.ldA 9 t9)]),(m 6 227,[]),(e (.st 9 t7 t228),[]),(o 8 (.mov tt),[])]) .ret)
def c45_35 : AC := .keep [0,5,7,9] (.seq (s [p 209 1 5,o 210 (.ld (.int .i64) t209),f 211 33 [t210] .bool,o 212 (.not t211),m 213 212,w 214 213 (.fieldPtr 2 t5),w 215 213 (.ld (.int .i64) t214),⟨(some 216),(some ((some 213),false)),(.call (.fn 33) [t215] .bool)⟩,w 217 213 (.not t216),o 218 (.pick t213 tt t217)] c45_33) c45_34)
def c45_36 : AC := .keep [0,5,7,9] (s [p 206 2 5,o 207 (.ld (.int .i64) t206),p 208 2 9,e (.st 1 t208 t207)] c45_35)
def c45_37 : AC := .keep [0,5,7,9] (s [p 203 1 5,o 204 (.ld (.int .i64) t203),p 205 1 9,e (.st 1 t205 t204)] c45_36)
def c45_38 : AC := .keep [0,1,5,7,9] (.seq (s [m 20 1] c45_32) c45_37)
def c45_39 : AC := .keep [0,1,5,7] (s [o 19 (.build [I 0,I 0,I 0,.nils,.nils,.nils,.nils,.nils,.nils] []),o 9 (.alloc [I 0,I 0,I 0,.nils,.nils,.nils,.nils,.nils,.nils]),e (.st 9 t9 t19)] c45_38)
def a45 : AFunc := ⟨229,[(6,none),(7,(some (none,9))),(8,none)],(s [o 5 (.box 9 t2),o 6 (.mov (.const (.str []))),o 7 (.alloc [I 0,I 0,I 0,.nils,.nils,.nils,.nils,.nils,.nils]),o 8 (.mov ff)] c45_39)⟩
theorem ok45 : FnOk Try.prog 45 a45 := okf Try.func45 (by kernel_rfl)
def c46_0 : AC := .keep [2,3,22] (.cond t22 (s [o 4 (.mov ff)] .ret) .skip)
def c46_1 : AC := .keep [2,3,5,6] (s [m 41 6,o 42 (.not t41)] (.cond t42 (s [o 4 (.mov ff)] .ret) .skip))
def c46_2 : AC := .keep [2,3,5] (.seq (.block 1 (.seq (.draw [(p 30 1 2,[]),(o 31 (.ld .other t30),[]),(m 32 5,[]),(o 33 (.indexPtr 7 t31 t32),[]),(o 34 (.ldA 7 t33),[]),(p 35 1 3,[]),(o 36 (.ld .other t35),[]),(m 37 5,[]),(o 38 (.indexPtr 7 t36 t37),[]),(o 39 (.ldA 7 t38),[]),(f 40 76 [t34,t39] .bool,[]),(m 6 40,[])]) c46_1)) (.ops [m 28 5,o 29 (.ibin .add .i64 t28 (i 1)),m 5 29]))
def c46_3 : AC := lk [2,3,5] (.seq (s [m 23 5,p 24 1 2,o 25 (.ld .other t24),o 26 (.lenL t25),o 27 (.ibin .lss .i64 t23 t26)] (.cond t27 .skip (.exit 0))) c46_2)
def c46_4 : AC := .keep [] (s [o 4 (.mov tt)] .ret)
def c46_5 : AC := .keep [2,3] (.seq (s [p 7 0 2,o 8 (.ld .other t7),o 9 (.toStr t8),p 10 0 3,o 11 (.ld .other t10),o 12 (.toStr t11),o 13 (.sbin .neq t9 t12),m 14 13,w 15 14 (.fieldPtr 1 t2),w 16 14 (.ld .other t15),w 17 14 (.lenL t16),w 18 14 (.fieldPtr 1 t3),w 19 14 (.ld .other t18),w 20 14 (.lenL t19),w 21 14 (.ibin .neq .i64 t17 t20),o 22 (.pick t14 tt t21)] c46_0) (.seq (s [o 5 (.mov (i 0))] (.block 0 c46_3)) c46_4))
def a46 : AFunc := ⟨43,[(4,none)],(s [o 2 (.box 2 t0),o 3 (.box 2 t1),o 4 (.mov ff)] c46_5)⟩
theorem ok46 : FnOk Try.prog 46 a46 := okf Try.func46 (by kernel_rfl)
def c47_0 : AC := .keep [2,3,22] (.cond t22 (s [o 4 (.mov ff)] .ret) .skip)
def c47_1 : AC := .keep [2,3,5,6] (s [m 41 6,o 42 (.not t41)] (.cond t42 (s [o 4 (.mov ff)] .ret) .skip))
def c47_2 : AC := .keep [2,3,5] (.seq (.block 1 (.seq (.draw [(p 30 1 2,[]),(o 31 (.ld .other t30),[]),(m 32 5,[]),(o 33 (.indexPtr 3 t31 t32),[]),(o 34 (.ldA 3 t33),[]),(p 35 1 3,[]),(o 36 (.ld .other t35),[]),(m 37 5,[]),(o 38 (.indexPtr 3 t36 t37),[]),(o 39 (.ldA 3 t38),[]),(f 40 77 [t34,t39] .bool,[]),(m 6 40,[])]) c47_1)) (.ops [m 28 5,o 29 (.ibin .add .i64 t28 (i 1)),m 5 29]))
def c47_3 : AC := lk [2,3,5] (.seq (s [m 23 5,p 24 1 2,o 25 (.ld .other t24),o 26 (.lenL t25),o 27 (.ibin .lss .i64 t23 t26)] (.cond t27 .skip (.exit 0))) c47_2)
def c47_4 : AC := .keep [] (s [o 4 (.mov tt)] .ret)
def c47_5 : AC := .keep [2,3] (.seq (s [p 7 0 2,o 8 (.ld .other t7),o 9 (.toStr t8),p 10 0 3,o 11 (.ld .other t10),o 12 (.toStr t11),o 13 (.sbin .neq t9 t12),m 14 13,w 15 14 (.fieldPtr 1 t2),w 16 14 (.ld .other t15),w 17 14 (.lenL t16),w 18 14 (.fieldPtr 1 t3),w 19 14 (.ld .other t18),w 20 14 (.lenL t19),w 21 14 (.ibin .neq .i64 t17 t20),o 22 (.pick t14 tt t21)] c47_0) (.seq (s [o 5 (.mov (i 0))] (.block 0 c47_3)) c47_4))
def a47 : AFunc := ⟨43,[(4,none)],(s [o 2 (.box 2 t0),o 3 (.box 2 t1),o 4 (.mov ff)] c47_5)⟩
theorem ok47 : FnOk Try.prog 47 a47 := okf Try.func47 (by kernel_rfl)
def c48_0 : AC := lk [0,2,7,10,11] (s [o 12 (.ibin .lss .i64 t11 t10)] (.seq (.cond t12 .skip (.exit 0)) (.seq (.block 1 (.seq (s [m 13 0,o 14 (.nilCheck t13),p 15 1 14,o 16 (.ld .bool t15)] (.cond t16 (s [o 6 (.mov (.const .nils))] .ret) .skip)) (.ops [m 17 7,m 18 2,⟨(some 19),none,(.call (.val t18) [] .other)⟩,o 20 (.buildSlice 4 1 [(.str []),(.str []),(.bool false),I 0] [(0,(4,t19))]),o 21 (.append 4 48 t17 t20),m 7 21]))) (.ops [o 22 (.ibin .add .i64 t11 (i 1)),m 11 22]))))
def c48_1 : AC := .keep [7] (s [m 23 7,m 6 23] .ret)
def a48 : AFunc := ⟨24,[(6,none)],(s [o 6 (.mov (.const .nils))] (s [o 7 (.mov (.const .nils))] (.seq (s [m 8 0,m 9 1,f 10 51 [t8,t9] (.int .i64),o 11 (.mov (i 0))] (.block 0 c48_0)) c48_1)))⟩
theorem ok48 : FnOk Try.prog 48 a48 := okf Try.func48 (by kernel_rfl)
def a49 : AFunc := ⟨21,[(2,(some (none,4)))],(s [o 2 (.alloc [(.str []),(.str []),(.bool false),I 0])] (s [m 7 0,o 8 (.nilCheck t7),p 9 0 8,o 10 (.ld .other t9),f 11 78 [t10] .other,m 6 11,g 12 0 none 6,g 13 1 (some (.int .i64)) 6,g 14 2 (some (.int .i64)) 6,o 3 (.alloc [(.str []),(.str []),(.bool false),I 0]),e (.st 4 t3 t12),m 4 13,m 5 14] (s [m 15 0,m 16 4,m 17 5,o 18 (.ibin .eql .i64 t17 (i 0)),f 19 79 [t15,t16,t18] .bool] (s [o 20 (.ldA 4 t3),e (.st 4 t2 t20)] .ret))))⟩
theorem ok49 : FnOk Try.prog 49 a49 := okf Try.func49 (by kernel_rfl)
def a50 : AFunc := ⟨21,[(2,none)],(s [o 2 (.mov (.const (.str [])))] (s [m 7 0,o 8 (.nilCheck t7),p 9 0 8,o 10 (.ld .other t9),f 11 80 [t10] .other,m 6 11,g 12 0 (some .str) 6,g 13 1 (some (.int .i64)) 6,g 14 2 (some .bool) 6,m 3 12,m 4 13,m 5 14] (.seq (s [m 15 0,m 16 4,m 17 5,f 18 79 [t15,t16,t17] .bool,o 19 (.not t18)] (.cond t19 (s [o 2 (.mov (.const (.str [])))] .ret) .skip)) (s [m 20 3,m 2 20] .ret))))⟩
theorem ok50 : FnOk Try.prog 50 a50 := okf Try.func50 (by kernel_rfl)
def a51 : AFunc := ⟨30,[(4,none)],(s [o 4 (.mov (i 0))] (s [m 9 0,o 10 (.nilCheck t9),p 11 0 10,o 12 (.ld .other t11),f 13 81 [t12] .other,m 8 13,g 14 0 (some (.int .u64)) 8,g 15 1 (some (.int .i64)) 8,g 16 2 (some .bool) 8,m 5 14,m 6 15,m 7 16] (.seq (s [m 17 0,m 18 6,m 19 7,m 20 19,y 21 20 (.mov t5),y 22 20 (.mov t1),y 23 20 (.convI .i64 .u64 t22),y 24 20 (.ibin .leq .u64 t21 t23),o 25 (.pick t20 t24 ff),f 26 79 [t17,t18,t25] .bool,o 27 (.not t26)] (.cond t27 (s [o 4 (.mov (i 0))] .ret) .skip)) (s [m 28 5,o 29 (.convI .u64 .i64 t28),m 4 29] .ret))))⟩
theorem ok51 : FnOk Try.prog 51 a51 := okf Try.func51 (by kernel_rfl)
def a52 : AFunc := ⟨14,[(6,none)],(s [o 6 (.mov ff)] (s [m 7 1,o 8 (.ibin .eql .i64 t7 (i 0)),m 9 8,y 10 9 (.mov t0),y 11 9 (.mov t2),⟨(some 12),(some ((some 9),true)),(.call (.fn 82) [t10,t11] .bool)⟩,o 13 (.pick t9 t12 ff),m 6 13] .ret))⟩
theorem ok52 : FnOk Try.prog 52 a52 := okf Try.func52 (by kernel_rfl)
def c53_0 : AC := .keep [0,5,6,7,9] (.ops [m 44 0,m 45 0,o 46 (.nilCheck t45),p 47 0 46,o 48 (.ld .str t47),m 49 9,o 50 (.sliceS t48 (some t49) none),o 51 (.nilCheck t44),p 52 0 51,e (.st 1 t52 t50)])
def c53_1 : AC := .keep [0,5,6,7,8,9] (s [m 40 6,o 41 (.ldA 4 t8),o 42 (.buildSlice 4 1 [(.str []),(.str []),(.bool false),I 0] [(0,(4,t41))]),o 43 (.append 4 48 t40 t42),m 6 43] c53_0)
def c53_2 : AC := .keep [0,5,6,7,8,9,10] (.seq (s [m 35 10,o 36 (.ibin .neq .i64 t35 (i 0))] (.cond t36 (s [m 37 0,o 38 (.nilCheck t37),p 39 1 38,e (.st 1 t39 tt)] (s [o 4 (.mov (.const .nils))] .ret)) .skip)) c53_1)
def c53_3 : AC := .keep [0,5,6,7] (.ops [m 24 7,o 25 (.ibin .add .i64 t24 (i 1)),m 7 25])
def c53_4 : AC := .keep [0,5,6,7] (.seq (.block 1 (s [m 27 0,o 28 (.nilCheck t27),p 29 0 28,o 30 (.ld .str t29),f 31 83 [t30] .other,m 26 31,g 32 0 none 26,g 33 1 (some (.int .i64)) 26,g 34 2 (some (.int .i64)) 26,o 8 (.alloc [(.str []),(.str []),(.bool false),I 0]),e (.st 4 t8 t32),m 9 33,m 10 34] c53_2)) c53_3)
def c53_5 : AC := lk [0,5,6,7] (.seq (s [m 14 7,m 15 5,o 16 (.ibin .lss .i64 t14 t15),m 17 16,y 18 17 (.mov t0),y 19 17 (.nilCheck t18),y 20 17 (.fieldPtr 1 t19),y 21 17 (.ld .bool t20),y 22 17 (.not t21),o 23 (.pick t17 t22 ff)] (.cond t23 .skip (.exit 0))) c53_4)
def c53_6 : AC := .keep [6] (s [m 53 6,m 4 53] .ret)
def a53 : AFunc := ⟨54,[(4,none)],(s [o 4 (.mov (.const .nils))] (s [m 11 0,m 12 1,f 13 55 [t11,t12] (.int .i64),m 5 13] (s [o 6 (.mov (.const .nils))] (.seq (s [o 7 (.mov (i 0))] (.block 0 c53_5)) c53_6))))⟩
theorem ok53 : FnOk Try.prog 53 a53 := okf Try.func53 (by kernel_rfl)
def c54_0 : AC := .keep [0,3,4,22] (.cond t22 (s [m 23 0,o 24 (.nilCheck t23),p 25 1 24,e (.st 1 t25 tt)] (s [o 2 (.mov (.const (.str [])))] .ret)) .skip)
def c54_1 : AC := .keep [3] (s [m 35 3,m 2 35] .ret)
def c54_2 : AC := .keep [0,3,4] (s [m 26 0,m 27 0,o 28 (.nilCheck t27),p 29 0 28,o 30 (.ld .str t29),m 31 4,o 32 (.sliceS t30 (some t31) none),o 33 (.nilCheck t26),p 34 0 33,e (.st 1 t34 t32)] c54_1)
def c54_3 : AC := .keep [0,3,4,5] (.seq (s [m 15 0,o 16 (.nilCheck t15),p 17 1 16,o 18 (.ld .bool t17),m 19 18,w 20 19 (.mov t5),w 21 19 (.not t20),o 22 (.pick t19 tt t21)] c54_0) c54_2)
def c54_4 : AC := .keep [0] (s [m 7 0,o 8 (.nilCheck t7),p 9 0 8,o 10 (.ld .str t9),f 11 84 [t10] .other,m 6 11,g 12 0 (some .str) 6,g 13 1 (some (.int .i64)) 6,g 14 2 (some .bool) 6,m 3 12,m 4 13,m 5 14] c54_3)
def a54 : AFunc := ⟨36,[(2,none)],(s [o 2 (.mov (.const (.str [])))] c54_4)⟩
theorem ok54 : FnOk Try.prog 54 a54 := okf Try.func54 (by kernel_rfl)
def c55_0 : AC := .keep [0,5,6,30] (.cond t30 (s [m 31 0,o 32 (.nilCheck t31),p 33 1 32,e (.st 1 t33 tt)] (s [o 4 (.mov (i 0))] .ret)) .skip)
def c55_1 : AC := .keep [5] (s [m 43 5,o 44 (.convI .u64 .i64 t43),m 4 44] .ret)
def c55_2 : AC := .keep [0,5,6] (s [m 34 0,m 35 0,o 36 (.nilCheck t35),p 37 0 36,o 38 (.ld .str t37),m 39 6,o 40 (.sliceS t38 (some t39) none),o 41 (.nilCheck t34),p 42 0 41,e (.st 1 t42 t40)] c55_1)
def c55_3 : AC := .keep [0,1,5,6,7] (.seq (s [m 17 0,o 18 (.nilCheck t17),p 19 1 18,o 20 (.ld .bool t19),m 21 20,w 22 21 (.mov t7),w 23 21 (.not t22),o 24 (.pick t21 tt t23),m 25 24,w 26 25 (.mov t5),w 27 25 (.mov t1),w 28 25 (.convI .i64 .u64 t27),w 29 25 (.ibin .gtr .u64 t26 t28),o 30 (.pick t25 tt t29)] c55_0) c55_2)
def c55_4 : AC := .keep [0,1] (s [m 9 0,o 10 (.nilCheck t9),p 11 0 10,o 12 (.ld .str t11),f 13 85 [t12] .other,m 8 13,g 14 0 (some (.int .u64)) 8,g 15 1 (some (.int .i64)) 8,g 16 2 (some .bool) 8,m 5 14,m 6 15,m 7 16] c55_3)
def a55 : AFunc := ⟨45,[(4,none)],(s [o 4 (.mov (i 0))] c55_4)⟩
theorem ok55 : FnOk Try.prog 55 a55 := okf Try.func55 (by kernel_rfl)
def c56_0 : AC := .keep [0,2] (.ops [m 47 2,m 48 0,f 49 50 [t48] .str,o 50 (.toBytes t49),o 51 (.nilCheck t47),p 52 7 51,e (.st 1 t52 t50)])
def c56_1 : AC := .keep [0,2] (.ops [m 66 2,m 67 0,m 68 0,o 69 (.makeFunc (.func 91) [t68] []),f 70 90 [t67,(i 512),t69] .other,o 71 (.nilCheck t66),p 72 8 71,e (.st 1 t72 t70)])
def c56_2 : AC := .keep [0,2] (s [m 60 2,m 61 0,f 62 50 [t61] .str,o 63 (.toBytes t62),o 64 (.nilCheck t60),p 65 7 64,e (.st 1 t65 t63)] c56_1)
def c56_3 : AC := .keep [0,2,73] (.cond t73 (s [m 75 2,m 76 0,f 77 51 [t76,(i 1099511627776)] (.int .i64),o 78 (.nilCheck t75),p 79 1 78,e (.st 1 t79 t77)] (.ops [m 80 2,m 81 0,f 82 51 [t81,(i 1099511627776)] (.int .i64),o 83 (.nilCheck t80),p 84 2 83,e (.st 1 t84 t82)])) .skip)
def c56_4 : AC := .keep [0,2,6,53] (.cond t53 (s [m 55 2,m 56 0,f 57 51 [t56,(i 1099511627776)] (.int .i64),o 58 (.nilCheck t55),p 59 2 58,e (.st 1 t59 t57)] c56_2) (s [o 74 (.ibin .eql .i64 t6 (i 6)),m 73 74] c56_3))
def c56_5 : AC := .keep [0,2,6,40] (.cond t40 (s [m 42 2,m 43 0,f 44 51 [t43,(i 1099511627776)] (.int .i64),o 45 (.nilCheck t42),p 46 2 45,e (.st 1 t46 t44)] c56_0) (s [o 54 (.ibin .eql .i64 t6 (i 5)),m 53 54] c56_4))
def c56_6 : AC := .keep [0,2,6,27] (.cond t27 (.ops [m 29 2,m 30 0,f 31 50 [t30] .str,o 32 (.toBytes t31),m 33 0,m 34 0,o 35 (.makeFunc (.func 89) [t34] []),f 36 88 [t33,(i 512),t35] .other,o 37 (.build [.nils,.nils] [(0,(1,t32)),(1,(1,t36))]),o 38 (.nilCheck t29),p 39 5 38,e (.st 2 t39 t37)]) (s [o 41 (.ibin .eql .i64 t6 (i 4)),m 40 41] c56_5))
def c56_7 : AC := .keep [0,2,6,14] (.cond t14 (.ops [m 16 2,m 17 0,f 18 50 [t17] .str,o 19 (.toBytes t18),m 20 0,m 21 0,o 22 (.makeFunc (.func 87) [t21] []),f 23 86 [t20,(i 512),t22] .other,o 24 (.build [.nils,.nils] [(0,(1,t19)),(1,(1,t23))]),o 25 (.nilCheck t16),p 26 3 25,e (.st 2 t26 t24)]) (s [o 28 (.ibin .eql .i64 t6 (i 3)),m 27 28] c56_6))
def c56_8 : AC := .keep [0,2,6,7] (.cond t7 (.ops [m 9 2,m 10 0,f 11 51 [t10,(i 1099511627776)] (.int .i64),o 12 (.nilCheck t9),p 13 1 12,e (.st 1 t13 t11)]) (s [o 15 (.ibin .eql .i64 t6 (i 2)),m 14 15] c56_7))
def c56_9 : AC := .keep [0,2,6] (.block 0 (s [o 8 (.ibin .eql .i64 t6 (i 1)),m 7 8] c56_8))
def a56 : AFunc := ⟨85,[],(s [m 6 1] c56_9)⟩
theorem ok56 : FnOk Try.prog 56 a56 := okf Try.func56 (by kernel_rfl)
def c57_0 : AC := .keep [2,4] (s [o 16 (.ldA 7 t4),e (.st 7 t2 t16)] .ret)
def a57 : AFunc := ⟨17,[(2,(some (none,7)))],(s [o 2 (.alloc [(.bool false),I 0,.nils,.nils,I 0,.nils,.nils])] (s [m 5 0,f 6 55 [t5,(i 1)] (.int .i64),o 7 (.ibin .eql .i64 t6 (i 1)),m 3 7] (s [m 8 3,m 9 0,f 10 92 [t9] .other,o 11 (.build [(.bool false),I 0,.nils,.nils,I 0,.nils,.nils] [(0,(1,t8)),(1,(3,t10))]),o 4 (.alloc [(.bool false),I 0,.nils,.nils,I 0,.nils,.nils]),e (.st 7 t4 t11)] (.seq (s [m 12 3] (.cond t12 (.ops [m 13 0,f 14 92 [t13] .other,p 15 4 4,e (.st 3 t15 t14)]) .skip)) c57_0))))⟩
theorem ok57 : FnOk Try.prog 57 a57 := okf Try.func57 (by kernel_rfl)
def c58_0 : AC := .keep [0,2,3,4,5] (.ops [m 22 5,o 23 (.ibin .add .i64 t22 (i 1)),m 5 23])
def c58_1 : AC := .keep [0,2,3,4,5] (.seq (.block 1 (s [m 24 0,f 25 54 [t24] .str,m 6 25] (.ops [p 26 1 3,o 27 (.ld .other t26),m 28 6,o 29 (.toBytes t28),o 30 (.buildSlice 1 1 [.nils] [(0,(1,t29))]),o 31 (.append 1 24 t27 t30),p 32 1 3,e (.st 1 t32 t31)]))) c58_0)
def c58_2 : AC := lk [0,2,3,4,5] (.seq (s [m 12 5,m 13 4,o 14 (.ibin .lss .i64 t12 t13),m 15 14,y 16 15 (.mov t0),y 17 15 (.nilCheck t16),y 18 15 (.fieldPtr 1 t17),y 19 15 (.ld .bool t18),y 20 15 (.not t19),o 21 (.pick t15 t20 ff)] (.cond t21 .skip (.exit 0))) c58_1)
def c58_3 : AC := .keep [0,2,3] (s [m 33 0,f 34 93 [t33] .other,p 35 2 3,e (.st 1 t35 t34)] (s [o 36 (.ldA 3 t3),e (.st 3 t2 t36)] .ret))
def c58_4 : AC := .keep [0,2,3] (s [m 10 0,f 11 55 [t10,(i 64)] (.int .i64),m 4 11] (.seq (s [o 5 (.mov (i 0))] (.block 0 c58_2)) c58_3))
def c58_5 : AC := .keep [0,2] (s [m 7 0,f 8 55 [t7,(i 1099511627776)] (.int .i64),o 9 (.build [I 0,.nils,.nils] [(0,(1,t8))]),o 3 (.alloc [I 0,.nils,.nils]),e (.st 3 t3 t9)] c58_4)
def a58 : AFunc := ⟨37,[(2,(some (none,3)))],(s [o 2 (.alloc [I 0,.nils,.nils])] c58_5)⟩
theorem ok58 : FnOk Try.prog 58 a58 := okf Try.func58 (by kernel_rfl)
def c59_0 : AC := .keep [1] (s [p 3 0 1,o 4 (.ld .str t3),o 5 (.sbin .neq t4 (.const (.str []))),m 6 5,y 7 6 (.fieldPtr 0 t1),y 8 6 (.ld .str t7),y 9 6 (.lenS t8),y 10 6 (.ibin .leq .i64 t9 (i 128)),o 11 (.pick t6 t10 ff),m 12 11,y 13 12 (.fieldPtr 1 t1),y 14 12 (.ld .str t13),y 15 12 (.lenS t14),y 16 12 (.ibin .leq .i64 t15 (i 1024)),o 17 (.pick t12 t16 ff),m 18 17,y 19 18 (.fieldPtr 2 t1),y 20 18 (.ld .bool t19),y 21 18 (.mov t20),y 22 21 (.fieldPtr 1 t1),y 23 21 (.ld .str t22),y 24 21 (.sbin .neq t23 (.const (.str []))),y 25 18 (.pick t21 t24 ff),y 26 18 (.not t25),o 27 (.pick t18 t26 ff),m 28 27,y 29 28 (.fieldPtr 3 t1),y 30 28 (.ld (.int .i64) t29),y 31 28 (.ibin .geq .i64 t30 (i 1)),o 32 (.pick t28 t31 ff),m 33 32,y 34 33 (.fieldPtr 3 t1),y 35 33 (.ld (.int .i64) t34),y 36 33 (.ibin .leq .i64 t35 (i 1099511627776)),o 37 (.pick t33 t36 ff),m 2 37] .ret)
def a59 : AFunc := ⟨38,[(2,none)],(s [o 1 (.box 4 t0),o 2 (.mov ff)] c59_0)⟩
theorem ok59 : FnOk Try.prog 59 a59 := okf Try.func59 (by kernel_rfl)
def c60_0 : AC := .keep [3] (s [m 27 3,m 2 27] .ret)
def c60_1 : AC := .keep [1,3] (.seq (.draw [(m 12 3,[]),(p 13 3 1,[]),(o 14 (.ld (.int .i64) t13),[]),(o 15 (.convI .i64 .u64 t14),[]),(p 17 0 1,[]),(o 18 (.ld .str t17),[]),(f 16 62 [t12,t15] .other,[o 18 (.ld .str t17),p 17 0 1]),(f 19 61 [t16,t18] .other,[]),(m 3 19,[])]) (.seq (s [p 20 2 1,o 21 (.ld .bool t20),o 22 (.not t21)] (.cond t22 (.ops [m 23 3,p 24 1 1,o 25 (.ld .str t24),f 26 61 [t23,t25] .other,m 3 26]) .skip)) c60_0))
def a60 : AFunc := ⟨28,[(2,none)],(s [o 1 (.box 4 t0),o 2 (.mov (.const .nils))] (.seq (s [o 4 (.ldA 4 t1),f 5 59 [t4] .bool,o 6 (.not t5)] (.cond t6 (s [o 2 (.mov (.const .nils))] .ret) .skip)) (s [o 7 (.buildSlice 1 1 [(.int .u8 0)] [(0,(1,(.const (.int .u8 0))))]),m 3 7] (.seq (s [p 8 2 1,o 9 (.ld .bool t8)] (.cond t9 (.ops [m 10 3,o 11 (.indexPtr 1 t10 (i 0)),e (.st 1 t11 (.const (.int .u8 1)))]) .skip)) c60_1))))⟩
theorem ok60 : FnOk Try.prog 60 a60 := okf Try.func60 (by kernel_rfl)
def a61 : AFunc := ⟨12,[(4,none)],(s [o 4 (.mov (.const .nils))] (s [m 5 0,m 6 1,o 7 (.lenS t6),o 8 (.convI .i64 .u64 t7),f 9 62 [t5,t8] .other,m 10 1,o 11 (.appendS t9 t10),m 4 11] .ret))⟩
theorem ok61 : FnOk Try.prog 61 a61 := okf Try.func61 (by kernel_rfl)
def c62_0 : AC := lk [0,1] (.seq (s [m 11 1,o 12 (.ibin .geq .u64 t11 (u 128))] (.cond t12 .skip (.exit 0))) (.seq (.block 1 (.ops [m 15 0,m 16 1,o 17 (.convI .u64 .u8 t16),o 18 (.ibin .or .u8 t17 (.const (.int .u8 128))),o 19 (.buildSlice 1 1 [(.int .u8 0)] [(0,(1,t18))]),o 20 (.append 1 1 t15 t19),m 0 20])) (.ops [m 13 1,o 14 (.shf .shr .u64 t13 (u 7)),m 1 14])))
def c62_1 : AC := .keep [0,1] (s [m 21 0,m 22 1,o 23 (.convI .u64 .u8 t22),o 24 (.buildSlice 1 1 [(.int .u8 0)] [(0,(1,t23))]),o 25 (.append 1 1 t21 t24),m 4 25] .ret)
def a62 : AFunc := ⟨26,[(4,none)],(s [o 4 (.mov (.const .nils))] (s [m 5 0,m 6 0,o 7 (.lenL t6),m 8 0,o 9 (.lenL t8),o 10 (.sliceL 1 t5 none (some t7) (some t9)),m 0 10] (.seq (.block 0 c62_0) c62_1)))⟩
theorem ok62 : FnOk Try.prog 62 a62 := okf Try.func62 (by kernel_rfl)
def c63_0 : AC := .keep [1] (s [p 3 0 1,o 4 (.ld .str t3),o 5 (.lenS t4),o 6 (.ibin .geq .i64 t5 (i 1)),m 7 6,y 8 7 (.fieldPtr 0 t1),y 9 7 (.ld .str t8),y 10 7 (.lenS t9),y 11 7 (.ibin .leq .i64 t10 (i 128)),o 12 (.pick t7 t11 ff),m 13 12,y 14 13 (.fieldPtr 1 t1),y 15 13 (.ld .str t14),y 16 13 (.lenS t15),y 17 13 (.ibin .leq .i64 t16 (i 1024)),o 18 (.pick t13 t17 ff),m 19 18,y 20 19 (.fieldPtr 2 t1),y 21 19 (.ld .bool t20),y 22 19 (.not t21),y 23 19 (.mov t22),w 24 23 (.fieldPtr 1 t1),w 25 23 (.ld .str t24),w 26 23 (.sbin .eql t25 (.const (.str []))),y 27 19 (.pick t23 tt t26),o 28 (.pick t19 t27 ff),m 29 28,y 30 29 (.fieldPtr 3 t1),y 31 29 (.ld (.int .i64) t30),y 32 29 (.ibin .geq .i64 t31 (i 1)),o 33 (.pick t29 t32 ff),m 34 33,y 35 34 (.fieldPtr 3 t1),y 36 34 (.ld (.int .i64) t35),y 37 34 (.ibin .leq .i64 t36 (i 1099511627776)),o 38 (.pick t34 t37 ff),m 2 38] .ret)
def a63 : AFunc := ⟨39,[(2,none)],(s [o 1 (.box 4 t0),o 2 (.mov ff)] c63_0)⟩
theorem ok63 : FnOk Try.prog 63 a63 := okf Try.func63 (by kernel_rfl)
def c64_0 : AC := .keep [1,9] (.cond t9 (.seq (.draw [(p 12 3 1,[]),(o 13 (.ld (.int .i64) t12),[]),(o 14 (.convI .i64 .u64 t13),[]),(p 16 0 1,[]),(o 17 (.ld .str t16),[]),(o 10 (.buildSlice 1 1 [(.int .u8 0)] [(0,(1,(.const (.int .u8 1))))]),[]),(o 11 (.toStr t10),[]),(f 15 66 [t11,t14] .str,[o 17 (.ld .str t16),p 16 0 1]),(f 18 65 [t15,t17] .str,[]),(m 2 18,[])]) .ret) .skip)
def c64_1 : AC := .keep [1] (.seq (.draw [(p 21 3 1,[]),(o 22 (.ld (.int .i64) t21),[]),(o 23 (.convI .i64 .u64 t22),[]),(p 25 0 1,[]),(o 26 (.ld .str t25),[]),(p 28 1 1,[]),(o 29 (.ld .str t28),[]),(o 19 (.buildSlice 1 1 [(.int .u8 0)] [(0,(1,(.const (.int .u8 0))))]),[]),(o 20 (.toStr t19),[]),(f 24 66 [t20,t23] .str,[o 29 (.ld .str t28),p 28 1 1,o 26 (.ld .str t25),p 25 0 1]),(f 27 65 [t24,t26] .str,[o 29 (.ld .str t28),p 28 1 1]),(f 30 65 [t27,t29] .str,[]),(m 2 30,[])]) .ret)
def c64_2 : AC := .keep [1] (.seq (s [p 8 2 1,o 9 (.ld .bool t8)] c64_0) c64_1)
def c64_3 : AC := .keep [1,3] (.seq (s [m 6 3,o 7 (.not t6)] (.cond t7 (s [o 2 (.mov (.const (.str [])))] .ret) .skip)) c64_2)
def c64_4 : AC := .keep [1] (s [o 4 (.ldA 4 t1),f 5 63 [t4] .bool,m 3 5] c64_3)
def a64 : AFunc := ⟨31,[(2,none)],(s [o 1 (.box 4 t0),o 2 (.mov (.const (.str [])))] c64_4)⟩
theorem ok64 : FnOk Try.prog 64 a64 := okf Try.func64 (by kernel_rfl)
def a65 : AFunc := ⟨12,[(4,none)],(s [o 4 (.mov (.const (.str [])))] (s [m 5 0,m 6 1,o 7 (.lenS t6),o 8 (.convI .i64 .u64 t7),f 9 66 [t5,t8] .str,m 10 1,o 11 (.sbin .add t9 t10),m 4 11] .ret))⟩
theorem ok65 : FnOk Try.prog 65 a65 := okf Try.func65 (by kernel_rfl)
def c66_0 : AC := lk [0,1] (.seq (s [m 5 1,o 6 (.ibin .geq .u64 t5 (u 128))] (.cond t6 .skip (.exit 0))) (.block 1 (s [m 7 0,m 8 1,o 9 (.ibin .rem .u64 t8 (u 128)),o 10 (.convI .u64 .u8 t9),o 11 (.ibin .add .u8 t10 (.const (.int .u8 128))),o 12 (.buildSlice 1 1 [(.int .u8 0)] [(0,(1,t11))]),o 13 (.toStr t12),o 14 (.sbin .add t7 t13),m 0 14] (.ops [m 15 1,o 16 (.ibin .quo .u64 t15 (u 128)),m 1 16]))))
def c66_1 : AC := .keep [0,1] (s [m 17 0,m 18 1,o 19 (.convI .u64 .u8 t18),o 20 (.buildSlice 1 1 [(.int .u8 0)] [(0,(1,t19))]),o 21 (.toStr t20),o 22 (.sbin .add t17 t21),m 4 22] .ret)
def a66 : AFunc := ⟨23,[(4,none)],(s [o 4 (.mov (.const (.str [])))] (.seq (.block 0 c66_0) c66_1))⟩
theorem ok66 : FnOk Try.prog 66 a66 := okf Try.func66 (by kernel_rfl)
def a67 : AFunc := ⟨25,[],(s [m 4 0,m 5 0,o 6 (.nilCheck t5),p 7 0 6,o 8 (.ld .other t7),o 9 (.buildSlice 1 1 [(.int .u8 0)] [(0,(1,(.const (.int .u8 0))))]),o 10 (.append 1 1 t8 t9),o 11 (.nilCheck t4),p 12 0 11,e (.st 1 t12 t10)] (s [m 13 1] (.cond t13 (.draw [(m 14 0,[]),(o 15 (.nilCheck t14),[]),(p 16 0 15,[]),(o 17 (.ld .other t16),[]),(m 18 0,[]),(o 19 (.nilCheck t18),[]),(p 20 0 19,[]),(o 21 (.ld .other t20),[]),(o 22 (.lenL t21),[]),(o 23 (.ibin .sub .i64 t22 (i 1)),[]),(o 24 (.indexPtr 1 t17 t23),[]),(e (.st 1 t24 (.const (.int .u8 1))),[])]) .skip)))⟩
theorem ok67 : FnOk Try.prog 67 a67 := okf Try.func67 (by kernel_rfl)
def a68 : AFunc := ⟨19,[],(s [o 3 (.box 3 t1)] (s [m 4 0,p 5 0 3,o 6 (.ld (.int .i64) t5),f 7 29 [t4,t6] .other] (s [m 8 0,p 9 1 3,o 10 (.ld .other t9),o 11 (.toStr t10),f 12 28 [t8,t11] .other] (.ops [m 13 0,p 14 2 3,o 15 (.ld .other t14),m 16 0,o 17 (.makeFunc (.func 73) [t16] []),f 18 72 [t13,t15,(i 64),t17] .other]))))⟩
theorem ok68 : FnOk Try.prog 68 a68 := okf Try.func68 (by kernel_rfl)
def a69 : AFunc := ⟨18,[(2,none)],(s [o 1 (.box 3 t0),o 2 (.mov ff)] (s [p 3 0 1,o 4 (.ld (.int .i64) t3),o 5 (.ibin .eql .i64 t4 (i 0)),m 6 5,y 7 6 (.fieldPtr 1 t1),y 8 6 (.ld .other t7),y 9 6 (.lenL t8),y 10 6 (.ibin .eql .i64 t9 (i 0)),o 11 (.pick t6 t10 ff),m 12 11,y 13 12 (.fieldPtr 2 t1),y 14 12 (.ld .other t13),y 15 12 (.lenL t14),y 16 12 (.ibin .eql .i64 t15 (i 0)),o 17 (.pick t12 t16 ff),m 2 17] .ret))⟩
theorem ok69 : FnOk Try.prog 69 a69 := okf Try.func69 (by kernel_rfl)
def c70_0 : AC := lk [3,20,21,22] (s [o 23 (.ibin .lss .i64 t22 t21)] (.seq (.cond t23 .skip (.exit 0)) (.seq (.block 1 (s [o 24 (.indexPtr 1 t20 t22),o 25 (.ld .other t24),m 9 25] (.ops [m 26 3,m 27 9,⟨(some 28),none,(.call (.val t26) [t27] .other)⟩]))) (.ops [o 29 (.ibin .add .i64 t22 (i 1)),m 22 29]))))
def a70 : AFunc := ⟨30,[],(s [m 10 0,m 11 1,o 12 (.lenL t11),m 13 2,o 14 (.ibin .leq .i64 t12 t13),f 15 25 [t10,t14] .other] (s [m 16 0,m 17 1,o 18 (.lenL t17),f 19 29 [t16,t18] .other] (s [m 20 1,o 21 (.lenL t20),o 22 (.mov (i 0))] (.block 0 c70_0))))⟩
theorem ok70 : FnOk Try.prog 70 a70 := okf Try.func70 (by kernel_rfl)
def a71 : AFunc := ⟨7,[],(.ops [o 3 (.ld .other t1),m 4 0,o 5 (.toStr t4),f 6 28 [t3,t5] .other])⟩
theorem ok71 : FnOk Try.prog 71 a71 := okf Try.func71 (by kernel_rfl)
def c72_0 : AC := lk [3,20,21,22] (s [o 23 (.ibin .lss .i64 t22 t21)] (.seq (.cond t23 .skip (.exit 0)) (.seq (.block 1 (s [o 24 (.indexPtr 32 t20 t22),o 25 (.ldA 32 t24),o 9 (.alloc D),e (.st 32 t9 t25)] (.ops [m 26 3,o 27 (.ldA 32 t9),⟨(some 28),none,(.call (.val t26) [t27] .other)⟩]))) (.ops [o 29 (.ibin .add .i64 t22 (i 1)),m 22 29]))))
def a72 : AFunc := ⟨30,[],(s [m 10 0,m 11 1,o 12 (.lenL t11),m 13 2,o 14 (.ibin .leq .i64 t12 t13),f 15 25 [t10,t14] .other] (s [m 16 0,m 17 1,o 18 (.lenL t17),f 19 29 [t16,t18] .other] (s [m 20 1,o 21 (.lenL t20),o 22 (.mov (i 0))] (.block 0 c72_0))))⟩
theorem ok72 : FnOk Try.prog 72 a72 := okf Try.func72 (by kernel_rfl)
def a73 : AFunc := ⟨13,[],(s [o 3 (.box 32 t1)] (.draw [(m 4 0,[]),(m 5 0,[]),(o 6 (.nilCheck t5),[]),(p 7 0 6,[]),(o 8 (.ld .other t7),[]),(o 9 (.sliceA 32 1 t3 none none),[]),(o 10 (.append 1 1 t8 t9),[m 4 0]),(o 11 (.nilCheck t4),[]),(p 12 0 11,[]),(e (.st 1 t12 t10),[])]))⟩
theorem ok73 : FnOk Try.prog 73 a73 := okf Try.func73 (by kernel_rfl)
def c74_0 : AC := .keep [3,6,7] (.seq (.draw [(m 25 6,[]),(m 26 7,[]),(m 27 26,[]),(y 28 27 (.fieldPtr 4 t3),[]),(y 29 27 (.fieldPtr 0 t28),[]),(y 30 27 (.ld (.int .i64) t29),[]),(y 31 27 (.ibin .eql .i64 t30 (i 0)),[]),(o 32 (.pick t27 t31 ff),[]),(m 33 32,[]),(y 34 33 (.fieldPtr 4 t3),[]),(y 35 33 (.fieldPtr 1 t34),[]),(y 36 33 (.ld .other t35),[]),(y 37 33 (.lenL t36),[]),(y 38 33 (.ibin .eql .i64 t37 (i 0)),[]),(o 39 (.pick t33 t38 ff),[]),(m 40 39,[]),(y 41 40 (.fieldPtr 4 t3),[]),(y 42 40 (.fieldPtr 2 t41),[]),(y 43 40 (.ld .other t42),[]),(y 44 40 (.lenL t43),[]),(y 45 40 (.ibin .eql .i64 t44 (i 0)),[]),(o 46 (.pick t40 t45 ff),[]),(m 4 25,[]),(m 5 46,[])]) .ret)
def c74_1 : AC := .keep [0,3,14] (.cond t14 (s [m 16 0,o 17 (.buildSlice 1 1 [(.int .u8 0)] [(0,(1,(.const (.int .u8 0))))]),o 18 (.toStr t17),o 19 (.sbin .add t16 t18),p 20 1 3,o 21 (.ldA 3 t20),f 22 94 [t19,t21] .other,m 15 22,g 23 0 (some .str) 15,g 24 1 (some .bool) 15,m 6 23,m 7 24] c74_0) .skip)
def c74_2 : AC := .keep [9,10,11] (s [m 64 10,m 65 9,m 66 65,y 67 66 (.mov t11),o 68 (.pick t66 t67 ff),m 4 64,m 5 68] .ret)
def c74_3 : AC := .keep [3,8,9] (s [m 58 8,p 59 4 3,o 60 (.ldA 3 t59),f 61 94 [t58,t60] .other,m 57 61,g 62 0 (some .str) 57,g 63 1 (some .bool) 57,m 10 62,m 11 63] c74_2)
def c74_4 : AC := .keep [0,3] (s [m 48 0,o 49 (.buildSlice 1 1 [(.int .u8 0)] [(0,(1,(.const (.int .u8 1))))]),o 50 (.toStr t49),o 51 (.sbin .add t48 t50),p 52 1 3,o 53 (.ldA 3 t52),f 54 94 [t51,t53] .other,m 47 54,g 55 0 (some .str) 47,g 56 1 (some .bool) 47,m 8 55,m 9 56] c74_3)
def c74_5 : AC := .keep [0,3] (.seq (s [p 12 0 3,o 13 (.ld .bool t12),o 14 (.not t13)] c74_1) c74_4)
def a74 : AFunc := ⟨69,[(4,none),(5,none)],(s [o 3 (.box 7 t1),o 4 (.mov (.const (.str []))),o 5 (.mov ff)] c74_5)⟩
theorem ok74 : FnOk Try.prog 74 a74 := okf Try.func74 (by kernel_rfl)
def c75_0 : AC := .keep [0,3,16] (.cond t16 (s [m 17 0,m 4 17,o 5 (.mov ff)] .ret) .skip)
def c75_1 : AC := .keep [0,3,6] (.ops [m 31 6,o 32 (.ibin .add .i64 t31 (i 1)),m 6 32])
def c75_2 : AC := .keep [0,3,6] (.seq (.block 1 (.ops [m 33 0,p 34 1 3,o 35 (.ld .other t34),m 36 6,o 37 (.indexPtr 1 t35 t36),o 38 (.ld .other t37),o 39 (.toStr t38),f 40 32 [t33,t39] .str,m 0 40])) c75_1)
def c75_3 : AC := lk [0,3,6] (.seq (s [m 26 6,p 27 1 3,o 28 (.ld .other t27),o 29 (.lenL t28),o 30 (.ibin .lss .i64 t26 t29)] (.cond t30 .skip (.exit 0))) c75_2)
def c75_4 : AC := .keep [0,3] (s [m 41 0,p 42 2 3,o 43 (.ld .other t42),f 44 95 [t41,t43] .other,g 45 0 (some .str) 44,g 46 1 (some .bool) 44,m 4 45,m 5 46] .ret)
def c75_5 : AC := .keep [0,3] (.seq (s [o 6 (.mov (i 0))] (.block 0 c75_3)) c75_4)
def c75_6 : AC := .keep [0,3] (.seq (.draw [(m 18 0,[]),(p 19 0 3,[]),(o 20 (.ld (.int .i64) t19),[]),(p 22 1 3,[]),(o 23 (.ld .other t22),[]),(o 24 (.lenL t23),[]),(f 21 34 [t18,t20] .str,[o 24 (.lenL t23),o 23 (.ld .other t22),p 22 1 3]),(f 25 34 [t21,t24] .str,[]),(m 0 25,[])]) c75_5)
def c75_7 : AC := .keep [0,3] (.seq (s [p 7 0 3,o 8 (.ld (.int .i64) t7),f 9 33 [t8] .bool,o 10 (.not t9),m 11 10,w 12 11 (.fieldPtr 1 t3),w 13 11 (.ld .other t12),w 14 11 (.lenL t13),w 15 11 (.ibin .gtr .i64 t14 (i 64)),o 16 (.pick t11 tt t15)] c75_0) c75_6)
def a75 : AFunc := ⟨47,[(4,none),(5,none)],(s [o 3 (.box 3 t1),o 4 (.mov (.const (.str []))),o 5 (.mov ff)] c75_7)⟩
theorem ok75 : FnOk Try.prog 75 a75 := okf Try.func75 (by kernel_rfl)
def a76 : AFunc := ⟨24,[(4,none)],(s [o 2 (.box 7 t0),o 3 (.box 7 t1),o 4 (.mov ff)] (s [p 5 0 2,o 6 (.ld .bool t5),p 7 0 3,o 8 (.ld .bool t7),o 9 (.beq false t6 t8),m 10 9,y 11 10 (.fieldPtr 1 t2),y 12 10 (.ldA 3 t11),y 13 10 (.fieldPtr 1 t3),y 14 10 (.ldA 3 t13),⟨(some 15),(some ((some 10),true)),(.call (.fn 96) [t12,t14] .bool)⟩,o 16 (.pick t10 t15 ff),m 17 16,y 18 17 (.fieldPtr 4 t2),y 19 17 (.ldA 3 t18),y 20 17 (.fieldPtr 4 t3),y 21 17 (.ldA 3 t20),⟨(some 22),(some ((some 17),true)),(.call (.fn 96) [t19,t21] .bool)⟩,o 23 (.pick t17 t22 ff),m 4 23] .ret))⟩
theorem ok76 : FnOk Try.prog 76 a76 := okf Try.func76 (by kernel_rfl)
def c77_0 : AC := .keep [2,3,27] (.cond t27 (s [o 4 (.mov ff)] .ret) .skip)
def c77_1 : AC := .keep [2,3,5,47] (.cond t47 (s [o 4 (.mov ff)] .ret) .skip)
def c77_2 : AC := .keep [2,3,5] (.seq (.block 1 (.seq (.draw [(p 35 1 2,[]),(o 36 (.ld .other t35),[]),(m 37 5,[]),(o 38 (.indexPtr 1 t36 t37),[]),(o 39 (.ld .other t38),[]),(o 40 (.toStr t39),[]),(p 41 1 3,[]),(o 42 (.ld .other t41),[]),(m 43 5,[]),(o 44 (.indexPtr 1 t42 t43),[]),(o 45 (.ld .other t44),[]),(o 46 (.toStr t45),[]),(o 47 (.sbin .neq t40 t46),[])]) c77_1)) (.ops [m 33 5,o 34 (.ibin .add .i64 t33 (i 1)),m 5 34]))
def c77_3 : AC := lk [2,3,5] (.seq (s [m 28 5,p 29 1 2,o 30 (.ld .other t29),o 31 (.lenL t30),o 32 (.ibin .lss .i64 t28 t31)] (.cond t32 .skip (.exit 0))) c77_2)
def c77_4 : AC := .keep [] (s [o 4 (.mov tt)] .ret)
def c77_5 : AC := .keep [2,3] (.seq (s [p 6 0 2,o 7 (.ld (.int .i64) t6),p 8 0 3,o 9 (.ld (.int .i64) t8),o 10 (.ibin .neq .i64 t7 t9),m 11 10,w 12 11 (.fieldPtr 1 t2),w 13 11 (.ld .other t12),w 14 11 (.lenL t13),w 15 11 (.fieldPtr 1 t3),w 16 11 (.ld .other t15),w 17 11 (.lenL t16),w 18 11 (.ibin .neq .i64 t14 t17),o 19 (.pick t11 tt t18),m 20 19,w 21 20 (.fieldPtr 2 t2),w 22 20 (.ld .other t21),w 23 20 (.fieldPtr 2 t3),w 24 20 (.ld .other t23),⟨(some 25),(some ((some 20),false)),(.call (.fn 97) [t22,t24] .bool)⟩,w 26 20 (.not t25),o 27 (.pick t20 tt t26)] c77_0) (.seq (s [o 5 (.mov (i 0))] (.block 0 c77_3)) c77_4))
def a77 : AFunc := ⟨48,[(4,none)],(s [o 2 (.box 3 t0),o 3 (.box 3 t1),o 4 (.mov ff)] c77_5)⟩
theorem ok77 : FnOk Try.prog 77 a77 := okf Try.func77 (by kernel_rfl)
def c78_0 : AC := .keep [0,2,16] (.cond t16 (s [o 17 (.build [(.str []),(.str []),(.bool false),I 0] []),e (.st 4 t2 t17),o 3 (.mov (i 0)),o 4 (.mov (i 2))] .ret) .skip)
def c78_1 : AC := .keep [2,5,7,47] (.cond t47 (s [o 48 (.build [(.str []),(.str []),(.bool false),I 0] []),e (.st 4 t2 t48),o 3 (.mov (i 0)),o 4 (.mov (i 2))] .ret) .skip)
def c78_2 : AC := .keep [2,5,7] (.seq (.draw [(o 49 (.ldA 4 t7),[]),(m 50 5,[]),(o 51 (.nilCheck t50),[]),(p 52 1 51,[]),(o 53 (.ld (.int .i64) t52),[]),(e (.st 4 t2 t49),[o 53 (.ld (.int .i64) t52),p 52 1 51,o 51 (.nilCheck t50),m 50 5]),(m 3 53,[]),(o 4 (.mov (i 0)),[])]) .ret)
def c78_3 : AC := .keep [2,5,7] (.seq (s [m 39 5,o 40 (.nilCheck t39),p 41 2 40,o 42 (.ld .bool t41),m 43 42,w 44 43 (.ldA 4 t7),⟨(some 45),(some ((some 43),false)),(.call (.fn 59) [t44] .bool)⟩,w 46 43 (.not t45),o 47 (.pick t43 tt t46)] c78_1) c78_2)
def c78_4 : AC := .keep [2,5,7] (.seq (s [p 33 2 7,o 34 (.ld .bool t33),o 35 (.not t34)] (.cond t35 (.ops [m 36 5,f 37 99 [t36] .str,p 38 1 7,e (.st 1 t38 t37)]) .skip)) c78_3)
def c78_5 : AC := .keep [0,2,5,6] (.seq (.draw [(m 23 5,[]),(m 25 0,[]),(o 26 (.indexPtr 1 t25 (i 0)),[]),(o 27 (.ld (.int .u8) t26),[]),(o 28 (.ibin .eql .u8 t27 (.const (.int .u8 1))),[]),(m 29 6,[]),(o 30 (.minI .u64 [t29,(u 1099511627777)]),[]),(o 31 (.convI .u64 .i64 t30),[]),(f 24 99 [t23] .str,[o 31 (.convI .u64 .i64 t30),o 30 (.minI .u64 [t29,(u 1099511627777)]),m 29 6,o 28 (.ibin .eql .u8 t27 (.const (.int .u8 1))),o 27 (.ld (.int .u8) t26),o 26 (.indexPtr 1 t25 (i 0)),m 25 0]),(o 32 (.build [(.str []),(.str []),(.bool false),I 0] [(0,(1,t24)),(2,(1,t28)),(3,(1,t31))]),[]),(o 7 (.alloc [(.str []),(.str []),(.bool false),I 0]),[]),(e (.st 4 t7 t32),[])]) c78_4)
def c78_6 : AC := .keep [0,2,5] (s [m 21 5,f 22 98 [t21] (.int .u64),m 6 22] c78_5)
def c78_7 : AC := .keep [0,2] (s [m 18 0,o 19 (.build [.nils,I 0,(.bool false)] [(0,(1,t18)),(1,(1,(i 1)))]),o 20 (.box 3 t19),m 5 20] c78_6)
def c78_8 : AC := .keep [0,2] (.seq (s [m 8 0,o 9 (.lenL t8),o 10 (.ibin .eql .i64 t9 (i 0)),m 11 10,w 12 11 (.mov t0),w 13 11 (.indexPtr 1 t12 (i 0)),w 14 11 (.ld (.int .u8) t13),w 15 11 (.ibin .gtr .u8 t14 (.const (.int .u8 1))),o 16 (.pick t11 tt t15)] c78_0) c78_7)
def a78 : AFunc := ⟨54,[(2,(some (none,4))),(3,none),(4,none)],(s [o 2 (.alloc [(.str []),(.str []),(.bool false),I 0]),o 3 (.mov (i 0)),o 4 (.mov (i 0))] c78_8)⟩
theorem ok78 : FnOk Try.prog 78 a78 := okf Try.func78 (by kernel_rfl)
def c79_0 : AC := .keep [0,1] (s [m 18 0,o 19 (.nilCheck t18),p 20 1 19,o 21 (.ld .bool t20)] (.cond t21 (s [m 22 0,o 23 (.nilCheck t22),p 24 0 23,e (.st 1 t24 (.const .nils))] (s [o 6 (.mov ff)] .ret)) .skip))
def c79_1 : AC := .keep [0,1] (s [m 25 0,m 26 0,o 27 (.nilCheck t26),p 28 0 27,o 29 (.ld .other t28),m 30 1,o 31 (.sliceL 1 t29 (some t30) none none),o 32 (.nilCheck t25),p 33 0 32,e (.st 1 t33 t31)] (s [o 6 (.mov tt)] .ret))
def c79_2 : AC := .keep [0,1,2] (.seq (s [m 7 0,m 8 0,o 9 (.nilCheck t8),p 10 1 9,o 11 (.ld .bool t10),m 12 11,w 13 12 (.mov t2),w 14 12 (.not t13),o 15 (.pick t12 tt t14),o 16 (.nilCheck t7),p 17 1 16,e (.st 1 t17 t15)] c79_0) c79_1)
def a79 : AFunc := ⟨34,[(6,none)],(s [o 6 (.mov ff)] c79_2)⟩
theorem ok79 : FnOk Try.prog 79 a79 := okf Try.func79 (by kernel_rfl)
def c80_0 : AC := .keep [0,5,6,25] (.cond t25 (s [o 2 (.mov (.const (.str []))),o 3 (.mov (i 0)),o 4 (.mov ff)] .ret) .skip)
def c80_1 : AC := .keep [0,6,8] (s [m 30 0,m 31 6,m 32 8,o 33 (.sliceL 1 t30 (some t31) (some t32) none),o 34 (.toStr t33),m 35 8,m 2 34,m 3 35,o 4 (.mov tt)] .ret)
def c80_2 : AC := .keep [0,5,6] (s [m 26 6,m 27 5,o 28 (.convI .u64 .i64 t27),o 29 (.ibin .add .i64 t26 t28),m 8 29] c80_1)
def c80_3 : AC := .keep [0,5,6,7] (.seq (s [m 15 7,o 16 (.not t15),m 17 16,w 18 17 (.mov t5),w 19 17 (.mov t0),w 20 17 (.lenL t19),w 21 17 (.mov t6),w 22 17 (.ibin .sub .i64 t20 t21),w 23 17 (.convI .i64 .u64 t22),w 24 17 (.ibin .gtr .u64 t18 t23),o 25 (.pick t17 tt t24)] c80_0) c80_2)
def c80_4 : AC := .keep [0] (s [m 10 0,f 11 81 [t10] .other,m 9 11,g 12 0 (some (.int .u64)) 9,g 13 1 (some (.int .i64)) 9,g 14 2 (some .bool) 9,m 5 12,m 6 13,m 7 14] c80_3)
def a80 : AFunc := ⟨36,[(2,none),(3,none),(4,none)],(s [o 2 (.mov (.const (.str []))),o 3 (.mov (i 0)),o 4 (.mov ff)] c80_4)⟩
theorem ok80 : FnOk Try.prog 80 a80 := okf Try.func80 (by kernel_rfl)
def c81_0 : AC := .keep [5,6,7,12,13,14,32] (.cond t32 (.exit 0) .skip)
def c81_1 : AC := .keep [5,6,7,12,13,14] (s [m 41 7,o 42 (.ibin .lss .u8 t41 (.const (.int .u8 128)))] (.cond t42 (s [m 43 5,m 44 6,o 45 (.ibin .add .i64 t44 (i 1)),m 2 43,m 3 45,o 4 (.mov tt)] .ret) .skip))
def c81_2 : AC := .keep [5,6,7,12,13,14] (.seq (s [m 19 6,o 20 (.ibin .eql .i64 t19 (i 9)),m 21 20,y 22 21 (.mov t7),y 23 21 (.ibin .gtr .u8 t22 (.const (.int .u8 1))),o 24 (.pick t21 t23 ff),m 25 24,w 26 25 (.mov t6),w 27 25 (.ibin .gtr .i64 t26 (i 0)),w 28 25 (.mov t27),y 29 28 (.mov t7),y 30 28 (.ibin .eql .u8 t29 (.const (.int .u8 0))),w 31 25 (.pick t28 t30 ff),o 32 (.pick t25 tt t31)] c81_0) (s [m 33 5,m 34 7,o 35 (.ibin .and .u8 t34 (.const (.int .u8 127))),o 36 (.convI .u8 .u64 t35),m 37 6,o 38 (.ibin .mul .i64 (i 7) t37),o 39 (.shf .shl .u64 t36 t38),o 40 (.ibin .or .u64 t33 t39),m 5 40] c81_1))
def c81_3 : AC := .keep [5,12,13,14,15] (.seq (.cond t15 .skip (.exit 0)) (.seq (.block 1 (s [m 16 14,o 17 (.indexPtr 1 t12 t14),o 18 (.ld (.int .u8) t17),m 6 16,m 7 18] c81_2)) (.ops [o 46 (.ibin .add .i64 t14 (i 1)),m 14 46])))
def c81_4 : AC := lk [5,12,13,14] (s [o 15 (.ibin .lss .i64 t14 t13)] c81_3)
def c81_5 : AC := .keep [] (s [o 2 (.mov (u 0)),o 3 (.mov (i 0)),o 4 (.mov ff)] .ret)
def c81_6 : AC := .keep [0,5] (.seq (s [m 8 0,m 9 0,o 10 (.lenL t9),o 11 (.minI .i64 [t10,(i 10)]),o 12 (.sliceL 1 t8 none (some t11) none),o 13 (.lenL t12),o 14 (.mov (i 0))] (.block 0 c81_4)) c81_5)
def c81_7 : AC := .keep [0] (s [o 5 (.mov (u 0))] c81_6)
def a81 : AFunc := ⟨47,[(2,none),(3,none),(4,none)],(s [o 2 (.mov (u 0)),o 3 (.mov (i 0)),o 4 (.mov ff)] c81_7)⟩
theorem ok81 : FnOk Try.prog 81 a81 := okf Try.func81 (by kernel_rfl)
def a82 : AFunc := ⟨10,[(4,none)],(s [o 4 (.mov ff)] (s [m 5 0,o 6 (.toStr t5),m 7 1,o 8 (.toStr t7),o 9 (.sbin .eql t6 t8),m 4 9] .ret))⟩
theorem ok82 : FnOk Try.prog 82 a82 := okf Try.func82 (by kernel_rfl)
def c83_0 : AC := .keep [2,8,12,13,14] (s [m 76 13,p 77 1 12,e (.st 1 t77 t76)] (.ops [m 78 8,m 79 14,o 80 (.ibin .add .i64 t78 t79),m 8 80]))
def c83_1 : AC := .keep [2,8,12,13,14,15] (.seq (s [m 73 15,o 74 (.not t73)] (.cond t74 (s [o 75 (.build [(.str []),(.str []),(.bool false),I 0] []),e (.st 4 t2 t75),o 3 (.mov (i 0)),o 4 (.mov (i 2))] .ret) .skip)) c83_0)
def c83_2 : AC := .keep [0,2,8,12,64] (.cond t64 (s [m 66 0,m 67 8,o 68 (.sliceS t66 (some t67) none),f 69 84 [t68] .other,m 65 69,g 70 0 (some .str) 65,g 71 1 (some (.int .i64)) 65,g 72 2 (some .bool) 65,m 13 70,m 14 71,m 15 72] c83_1) .skip)
def c83_3 : AC := .keep [2,8,12,16] (.seq (s [m 83 16,o 84 (.not t83)] (.cond t84 (s [o 85 (.build [(.str []),(.str []),(.bool false),I 0] []),e (.st 4 t2 t85),o 3 (.mov (i 0)),o 4 (.mov (i 2))] .ret) .skip)) (s [o 86 (.ldA 4 t12),m 87 8,e (.st 4 t2 t86),m 3 87,o 4 (.mov (i 0))] .ret))
def c83_4 : AC := .keep [2,8,12] (s [o 81 (.ldA 4 t12),f 82 63 [t81] .bool,m 16 82] c83_3)
def c83_5 : AC := .keep [0,2,8,12] (.seq (s [p 62 2 12,o 63 (.ld .bool t62),o 64 (.not t63)] c83_2) c83_4)
def c83_6 : AC := .keep [0,2,5,8,9] (s [m 55 9,m 56 0,o 57 (.indexS t56 (i 0)),o 58 (.ibin .eql .u8 t57 (.const (.int .u8 1))),m 59 5,o 60 (.convI .u64 .i64 t59),o 61 (.build [(.str []),(.str []),(.bool false),I 0] [(0,(1,t55)),(2,(1,t58)),(3,(1,t60))]),o 12 (.alloc [(.str []),(.str []),(.bool false),I 0]),e (.st 4 t12 t61)] c83_5)
def c83_7 : AC := .keep [0,2,5,8,9,10] (s [m 52 8,m 53 10,o 54 (.ibin .add .i64 t52 t53),m 8 54] c83_6)
def c83_8 : AC := .keep [0,2,5,8,9,10,11] (.seq (s [m 49 11,o 50 (.not t49)] (.cond t50 (s [o 51 (.build [(.str []),(.str []),(.bool false),I 0] []),e (.st 4 t2 t51),o 3 (.mov (i 0)),o 4 (.mov (i 2))] .ret) .skip)) c83_7)
def c83_9 : AC := .keep [0,2,5,8] (s [m 42 0,m 43 8,o 44 (.sliceS t42 (some t43) none),f 45 84 [t44] .other,m 41 45,g 46 0 (some .str) 41,g 47 1 (some (.int .i64)) 41,g 48 2 (some .bool) 41,m 9 46,m 10 47,m 11 48] c83_8)
def c83_10 : AC := .keep [0,2,5,6] (s [m 39 6,o 40 (.ibin .add .i64 (i 1) t39),m 8 40] c83_9)
def c83_11 : AC := .keep [0,2,5,6,7] (.seq (s [m 32 7,o 33 (.not t32),m 34 33,w 35 34 (.mov t5),w 36 34 (.ibin .gtr .u64 t35 (u 1099511627776)),o 37 (.pick t34 tt t36)] (.cond t37 (s [o 38 (.build [(.str []),(.str []),(.bool false),I 0] []),e (.st 4 t2 t38),o 3 (.mov (i 0)),o 4 (.mov (i 2))] .ret) .skip)) c83_10)
def c83_12 : AC := .keep [0,2] (s [m 26 0,o 27 (.sliceS t26 (some (i 1)) none),f 28 85 [t27] .other,m 25 28,g 29 0 (some (.int .u64)) 25,g 30 1 (some (.int .i64)) 25,g 31 2 (some .bool) 25,m 5 29,m 6 30,m 7 31] c83_11)
def c83_13 : AC := .keep [0,2] (.seq (s [m 17 0,o 18 (.sbin .eql t17 (.const (.str []))),m 19 18,w 20 19 (.mov t0),w 21 19 (.indexS t20 (i 0)),w 22 19 (.ibin .gtr .u8 t21 (.const (.int .u8 1))),o 23 (.pick t19 tt t22)] (.cond t23 (s [o 24 (.build [(.str []),(.str []),(.bool false),I 0] []),e (.st 4 t2 t24),o 3 (.mov (i 0)),o 4 (.mov (i 2))] .ret) .skip)) c83_12)
def a83 : AFunc := ⟨88,[(2,(some (none,4))),(3,none),(4,none)],(s [o 2 (.alloc [(.str []),(.str []),(.bool false),I 0]),o 3 (.mov (i 0)),o 4 (.mov (i 0))] c83_13)⟩
theorem ok83 : FnOk Try.prog 83 a83 := okf Try.func83 (by kernel_rfl)
def c84_0 : AC := .keep [0,5,6,24] (.cond t24 (s [o 2 (.mov (.const (.str []))),o 3 (.mov (i 0)),o 4 (.mov ff)] .ret) .skip)
def c84_1 : AC := .keep [0,5,6] (s [m 25 0,m 26 6,m 27 6,m 28 5,o 29 (.convI .u64 .i64 t28),o 30 (.ibin .add .i64 t27 t29),o 31 (.sliceS t25 (some t26) (some t30)),m 32 6,m 33 5,o 34 (.convI .u64 .i64 t33),o 35 (.ibin .add .i64 t32 t34),m 2 31,m 3 35,o 4 (.mov tt)] .ret)
def c84_2 : AC := .keep [0,5,6,7] (.seq (s [m 14 7,o 15 (.not t14),m 16 15,w 17 16 (.mov t5),w 18 16 (.mov t0),w 19 16 (.lenS t18),w 20 16 (.mov t6),w 21 16 (.ibin .sub .i64 t19 t20),w 22 16 (.convI .i64 .u64 t21),w 23 16 (.ibin .gtr .u64 t17 t22),o 24 (.pick t16 tt t23)] c84_0) c84_1)
def c84_3 : AC := .keep [0] (s [m 9 0,f 10 85 [t9] .other,m 8 10,g 11 0 (some (.int .u64)) 8,g 12 1 (some (.int .i64)) 8,g 13 2 (some .bool) 8,m 5 11,m 6 12,m 7 13] c84_2)
def a84 : AFunc := ⟨36,[(2,none),(3,none),(4,none)],(s [o 2 (.mov (.const (.str []))),o 3 (.mov (i 0)),o 4 (.mov ff)] c84_3)⟩
theorem ok84 : FnOk Try.prog 84 a84 := okf Try.func84 (by kernel_rfl)
def c85_0 : AC := .keep [0,5,6,24] (.cond t24 (s [o 2 (.mov (u 0)),o 3 (.mov (i 0)),o 4 (.mov ff)] .ret) .skip)
def c85_1 : AC := .keep [5,6,47] (.cond t47 (s [o 2 (.mov (u 0)),o 3 (.mov (i 0)),o 4 (.mov ff)] .ret) .skip)
def c85_2 : AC := .keep [0,5,6,39] (.cond t39 (.seq (s [m 40 6,o 41 (.ibin .gtr .i64 t40 (i 0)),m 42 41,y 43 42 (.mov t0),y 44 42 (.mov t6),y 45 42 (.indexS t43 t44),y 46 42 (.ibin .eql .u8 t45 (.const (.int .u8 0))),o 47 (.pick t42 t46 ff)] c85_1) (s [m 48 5,m 49 6,o 50 (.ibin .add .i64 t49 (i 1)),m 2 48,m 3 50,o 4 (.mov tt)] .ret)) .skip)
def c85_3 : AC := .keep [0,5,6] (s [m 36 0,m 37 6,o 38 (.indexS t36 t37),o 39 (.ibin .lss .u8 t38 (.const (.int .u8 128)))] c85_2)
def c85_4 : AC := .keep [0,5,6] (s [m 25 5,m 26 0,m 27 6,o 28 (.indexS t26 t27),o 29 (.ibin .rem .u8 t28 (.const (.int .u8 128))),o 30 (.convI .u8 .u64 t29),m 31 6,o 32 (.ibin .mul .i64 (i 7) t31),o 33 (.convI .i64 .u64 t32),o 34 (.shf .shl .u64 t30 t33),o 35 (.ibin .or .u64 t25 t34),m 5 35] c85_3)
def c85_5 : AC := .keep [0,5,6] (.ops [m 15 6,o 16 (.ibin .add .i64 t15 (i 1)),m 6 16])
def c85_6 : AC := .keep [0,5,6] (.seq (.block 1 (.seq (s [m 17 6,o 18 (.ibin .eql .i64 t17 (i 9)),m 19 18,y 20 19 (.mov t0),y 21 19 (.mov t6),y 22 19 (.indexS t20 t21),y 23 19 (.ibin .gtr .u8 t22 (.const (.int .u8 1))),o 24 (.pick t19 t23 ff)] c85_0) c85_4)) c85_5)
def c85_7 : AC := lk [0,5,6] (.seq (s [m 7 6,m 8 0,o 9 (.lenS t8),o 10 (.ibin .lss .i64 t7 t9),m 11 10,y 12 11 (.mov t6),y 13 11 (.ibin .lss .i64 t12 (i 10)),o 14 (.pick t11 t13 ff)] (.cond t14 .skip (.exit 0))) c85_6)
def c85_8 : AC := .keep [] (s [o 2 (.mov (u 0)),o 3 (.mov (i 0)),o 4 (.mov ff)] .ret)
def a85 : AFunc := ⟨51,[(2,none),(3,none),(4,none)],(s [o 2 (.mov (u 0)),o 3 (.mov (i 0)),o 4 (.mov ff)] (s [o 5 (.mov (u 0))] (.seq (s [o 6 (.mov (i 0))] (.block 0 c85_7)) c85_8)))⟩
theorem ok85 : FnOk Try.prog 85 a85 := okf Try.func85 (by kernel_rfl)
def c86_0 : AC := lk [0,2,7,10,11] (s [o 12 (.ibin .lss .i64 t11 t10)] (.seq (.cond t12 .skip (.exit 0)) (.seq (.block 1 (.seq (s [m 13 0,o 14 (.nilCheck t13),p 15 1 14,o 16 (.ld .bool t15)] (.cond t16 (s [o 6 (.mov (.const .nils))] .ret) .skip)) (.ops [m 17 7,m 18 2,⟨(some 19),none,(.call (.val t18) [] .other)⟩,o 20 (.buildSlice 7 1 [(.bool false),I 0,.nils,.nils,I 0,.nils,.nils] [(0,(7,t19))]),o 21 (.append 7 120 t17 t20),m 7 21]))) (.ops [o 22 (.ibin .add .i64 t11 (i 1)),m 11 22]))))
def c86_1 : AC := .keep [7] (s [m 23 7,m 6 23] .ret)
def a86 : AFunc := ⟨24,[(6,none)],(s [o 6 (.mov (.const .nils))] (s [o 7 (.mov (.const .nils))] (.seq (s [m 8 0,m 9 1,f 10 51 [t8,t9] (.int .i64),o 11 (.mov (i 0))] (.block 0 c86_0)) c86_1)))⟩
theorem ok86 : FnOk Try.prog 86 a86 := okf Try.func86 (by kernel_rfl)
def c87_0 : AC := .keep [2,3] (s [o 15 (.ldA 7 t3),e (.st 7 t2 t15)] .ret)
def a87 : AFunc := ⟨16,[(2,(some (none,7)))],(s [o 2 (.alloc [(.bool false),I 0,.nils,.nils,I 0,.nils,.nils])] (s [m 4 0,f 5 51 [t4,(i 1)] (.int .i64),o 6 (.ibin .eql .i64 t5 (i 1)),m 7 0,f 8 100 [t7] .other,o 9 (.build [(.bool false),I 0,.nils,.nils,I 0,.nils,.nils] [(0,(1,t6)),(1,(3,t8))]),o 3 (.alloc [(.bool false),I 0,.nils,.nils,I 0,.nils,.nils]),e (.st 7 t3 t9)] (.seq (s [p 10 0 3,o 11 (.ld .bool t10)] (.cond t11 (.ops [m 12 0,f 13 100 [t12] .other,p 14 4 3,e (.st 3 t14 t13)]) .skip)) c87_0)))⟩
theorem ok87 : FnOk Try.prog 87 a87 := okf Try.func87 (by kernel_rfl)
def c88_0 : AC := lk [0,2,7,10,11] (s [o 12 (.ibin .lss .i64 t11 t10)] (.seq (.cond t12 .skip (.exit 0)) (.seq (.block 1 (.seq (s [m 13 0,o 14 (.nilCheck t13),p 15 1 14,o 16 (.ld .bool t15)] (.cond t16 (s [o 6 (.mov (.const .nils))] .ret) .skip)) (.ops [m 17 7,m 18 2,⟨(some 19),none,(.call (.val t18) [] .other)⟩,o 20 (.buildSlice 3 1 [I 0,.nils,.nils] [(0,(3,t19))]),o 21 (.append 3 56 t17 t20),m 7 21]))) (.ops [o 22 (.ibin .add .i64 t11 (i 1)),m 11 22]))))
def c88_1 : AC := .keep [7] (s [m 23 7,m 6 23] .ret)
def a88 : AFunc := ⟨24,[(6,none)],(s [o 6 (.mov (.const .nils))] (s [o 7 (.mov (.const .nils))] (.seq (s [m 8 0,m 9 1,f 10 51 [t8,t9] (.int .i64),o 11 (.mov (i 0))] (.block 0 c88_0)) c88_1)))⟩
theorem ok88 : FnOk Try.prog 88 a88 := okf Try.func88 (by kernel_rfl)
def a89 : AFunc := ⟨13,[(2,(some (none,3)))],(s [o 1 (.box 1 t0),o 2 (.alloc [I 0,.nils,.nils])] (.seq (.draw [(o 3 (.ld .other t1),[]),(o 5 (.ld .other t1),[]),(o 6 (.makeFunc (.func 102) [] [t1]),[]),(o 8 (.ld .other t1),[]),(o 9 (.ld .other t1),[]),(o 10 (.makeFunc (.func 104) [t9] []),[]),(f 4 51 [t3,(i 1099511627776)] (.int .i64),[o 10 (.makeFunc (.func 104) [t9] []),o 9 (.ld .other t1),o 8 (.ld .other t1),o 6 (.makeFunc (.func 102) [] [t1]),o 5 (.ld .other t1)]),(f 7 101 [t5,(i 64),t6] .other,[o 10 (.makeFunc (.func 104) [t9] []),o 9 (.ld .other t1),o 8 (.ld .other t1)]),(f 11 103 [t8,(i 64),t10] .other,[]),(o 12 (.build [I 0,.nils,.nils] [(0,(1,t4)),(1,(1,t7)),(2,(1,t11))]),[]),(e (.st 3 t2 t12),[])]) .ret))⟩
theorem ok89 : FnOk Try.prog 89 a89 := okf Try.func89 (by kernel_rfl)
def c90_0 : AC := lk [0,2,7,10,11] (s [o 12 (.ibin .lss .i64 t11 t10)] (.seq (.cond t12 .skip (.exit 0)) (.seq (.block 1 (.seq (s [m 13 0,o 14 (.nilCheck t13),p 15 1 14,o 16 (.ld .bool t15)] (.cond t16 (s [o 6 (.mov (.const .nils))] .ret) .skip)) (.ops [m 17 7,m 18 2,⟨(some 19),none,(.call (.val t18) [] .other)⟩,o 20 (.buildSlice 1 1 [.nils] [(0,(1,t19))]),o 21 (.append 1 24 t17 t20),m 7 21]))) (.ops [o 22 (.ibin .add .i64 t11 (i 1)),m 11 22]))))
def c90_1 : AC := .keep [7] (s [m 23 7,m 6 23] .ret)
def a90 : AFunc := ⟨24,[(6,none)],(s [o 6 (.mov (.const .nils))] (s [o 7 (.mov (.const .nils))] (.seq (s [m 8 0,m 9 1,f 10 51 [t8,t9] (.int .i64),o 11 (.mov (i 0))] (.block 0 c90_0)) c90_1)))⟩
theorem ok90 : FnOk Try.prog 90 a90 := okf Try.func90 (by kernel_rfl)
def a91 : AFunc := ⟨7,[(2,none)],(s [o 2 (.mov (.const .nils))] (s [m 3 0,m 4 0,o 5 (.makeFunc (.func 49) [t4] []),f 6 48 [t3,(i 64),t5] .other,m 2 6] .ret))⟩
theorem ok91 : FnOk Try.prog 91 a91 := okf Try.func91 (by kernel_rfl)
def a92 : AFunc := ⟨17,[(2,(some (none,3)))],(s [o 2 (.alloc [I 0,.nils,.nils])] (s [m 6 0,f 7 55 [t6,(i 1099511627776)] (.int .i64),m 3 7] (s [m 8 0,f 9 54 [t8] .str,m 4 9] (s [m 10 0,f 11 93 [t10] .other,m 5 11] (s [m 12 3,m 13 4,o 14 (.toBytes t13),m 15 5,o 16 (.build [I 0,.nils,.nils] [(0,(1,t12)),(1,(1,t14)),(2,(1,t15))]),e (.st 3 t2 t16)] .ret)))))⟩
theorem ok92 : FnOk Try.prog 92 a92 := okf Try.func92 (by kernel_rfl)
def c93_0 : AC := lk [0,3,4,5] (.seq (s [m 9 5,m 10 3,o 11 (.ibin .lss .i64 t9 t10),m 12 11,y 13 12 (.mov t0),y 14 12 (.nilCheck t13),y 15 12 (.fieldPtr 1 t14),y 16 12 (.ld .bool t15),y 17 12 (.not t16),o 18 (.pick t12 t17 ff)] (.cond t18 .skip (.exit 0))) (.seq (.block 1 (s [m 21 0,f 22 105 [t21] .other,o 6 (.alloc D),e (.st 32 t6 t22)] (.ops [m 23 4,o 24 (.ldA 32 t6),o 25 (.buildSlice 32 1 D [(0,(32,t24))]),o 26 (.append 32 32 t23 t25),m 4 26]))) (.ops [m 19 5,o 20 (.ibin .add .i64 t19 (i 1)),m 5 20])))
def c93_1 : AC := .keep [4] (s [m 27 4,m 2 27] .ret)
def a93 : AFunc := ⟨28,[(2,none)],(s [o 2 (.mov (.const .nils))] (s [m 7 0,f 8 55 [t7,(i 64)] (.int .i64),m 3 8] (s [o 4 (.mov (.const .nils))] (.seq (s [o 5 (.mov (i 0))] (.block 0 c93_0)) c93_1))))⟩
theorem ok93 : FnOk Try.prog 93 a93 := okf Try.func93 (by kernel_rfl)
def a94 : AFunc := ⟨24,[(4,none),(5,none)],(s [o 3 (.box 3 t1),o 4 (.mov (.const (.str []))),o 5 (.mov ff)] (.seq (s [p 6 0 3,o 7 (.ld (.int .i64) t6),f 8 33 [t7] .bool,o 9 (.not t8)] (.cond t9 (s [m 10 0,m 4 10,o 5 (.mov ff)] .ret) .skip)) (.seq (.draw [(m 11 0,[]),(p 12 0 3,[]),(o 13 (.ld (.int .i64) t12),[]),(p 15 1 3,[]),(o 16 (.ld .other t15),[]),(o 17 (.toStr t16),[]),(p 19 2 3,[]),(o 20 (.ld .other t19),[]),(f 14 34 [t11,t13] .str,[o 20 (.ld .other t19),p 19 2 3,o 17 (.toStr t16),o 16 (.ld .other t15),p 15 1 3]),(f 18 32 [t14,t17] .str,[o 20 (.ld .other t19),p 19 2 3]),(f 21 95 [t18,t20] .other,[]),(g 22 0 (some .str) 21,[]),(g 23 1 (some .bool) 21,[]),(m 4 22,[]),(m 5 23,[])]) .ret)))⟩
theorem ok94 : FnOk Try.prog 94 a94 := okf Try.func94 (by kernel_rfl)
def c95_0 : AC := lk [0,1,6] (.seq (s [m 11 6,m 12 1,o 13 (.lenL t12),o 14 (.ibin .lss .i64 t11 t13)] (.cond t14 .skip (.exit 0))) (.seq (.block 1 (.ops [m 17 0,m 18 1,m 19 6,o 20 (.indexPtr 32 t18 t19),o 21 (.sliceA 32 1 t20 none none),o 22 (.toStr t21),o 23 (.sbin .add t17 t22),m 0 23])) (.ops [m 15 6,o 16 (.ibin .add .i64 t15 (i 1)),m 6 16])))
def c95_1 : AC := .keep [0,1] (s [m 24 0,m 25 1,o 26 (.lenL t25),o 27 (.ibin .leq .i64 t26 (i 64)),m 4 24,m 5 27] .ret)
def a95 : AFunc := ⟨28,[(4,none),(5,none)],(s [o 4 (.mov (.const (.str []))),o 5 (.mov ff)] (s [m 7 0,m 8 1,o 9 (.lenL t8),f 10 34 [t7,t9] .str,m 0 10] (.seq (s [o 6 (.mov (i 0))] (.block 0 c95_0)) c95_1)))⟩
theorem ok95 : FnOk Try.prog 95 a95 := okf Try.func95 (by kernel_rfl)
def a96 : AFunc := ⟨26,[(4,none)],(s [o 2 (.box 3 t0),o 3 (.box 3 t1),o 4 (.mov ff)] (s [p 5 0 2,o 6 (.ld (.int .i64) t5),p 7 0 3,o 8 (.ld (.int .i64) t7),o 9 (.ibin .eql .i64 t6 t8),m 10 9,y 11 10 (.fieldPtr 1 t2),y 12 10 (.ld .other t11),y 13 10 (.toStr t12),y 14 10 (.fieldPtr 1 t3),y 15 10 (.ld .other t14),y 16 10 (.toStr t15),y 17 10 (.sbin .eql t13 t16),o 18 (.pick t10 t17 ff),m 19 18,y 20 19 (.fieldPtr 2 t2),y 21 19 (.ld .other t20),y 22 19 (.fieldPtr 2 t3),y 23 19 (.ld .other t22),⟨(some 24),(some ((some 19),true)),(.call (.fn 97) [t21,t23] .bool)⟩,o 25 (.pick t19 t24 ff),m 4 25] .ret))⟩
theorem ok96 : FnOk Try.prog 96 a96 := okf Try.func96 (by kernel_rfl)
def c97_0 : AC := lk [0,1,5] (.seq (s [m 11 5,m 12 0,o 13 (.lenL t12),o 14 (.ibin .lss .i64 t11 t13)] (.cond t14 .skip (.exit 0))) (.seq (.block 1 (.seq (.draw [(m 17 0,[]),(m 18 5,[]),(o 19 (.indexPtr 32 t17 t18),[]),(o 20 (.ldA 32 t19),[]),(m 21 1,[]),(m 22 5,[]),(o 23 (.indexPtr 32 t21 t22),[]),(o 24 (.ldA 32 t23),[]),(o 25 (.aeq true 32 [(0,(.int .u8)),(1,(.int .u8)),(2,(.int .u8)),(3,(.int .u8)),(4,(.int .u8)),(5,(.int .u8)),(6,(.int .u8)),(7,(.int .u8)),(8,(.int .u8)),(9,(.int .u8)),(10,(.int .u8)),(11,(.int .u8)),(12,(.int .u8)),(13,(.int .u8)),(14,(.int .u8)),(15,(.int .u8)),(16,(.int .u8)),(17,(.int .u8)),(18,(.int .u8)),(19,(.int .u8)),(20,(.int .u8)),(21,(.int .u8)),(22,(.int .u8)),(23,(.int .u8)),(24,(.int .u8)),(25,(.int .u8)),(26,(.int .u8)),(27,(.int .u8)),(28,(.int .u8)),(29,(.int .u8)),(30,(.int .u8)),(31,(.int .u8))] t20 t24),[])]) (.cond t25 (s [o 4 (.mov ff)] .ret) .skip))) (.ops [m 15 5,o 16 (.ibin .add .i64 t15 (i 1)),m 5 16])))
def c97_1 : AC := .keep [] (s [o 4 (.mov tt)] .ret)
def a97 : AFunc := ⟨26,[(4,none)],(s [o 4 (.mov ff)] (.seq (s [m 6 0,o 7 (.lenL t6),m 8 1,o 9 (.lenL t8),o 10 (.ibin .neq .i64 t7 t9)] (.cond t10 (s [o 4 (.mov ff)] .ret) .skip)) (.seq (s [o 5 (.mov (i 0))] (.block 0 c97_0)) c97_1)))⟩
theorem ok97 : FnOk Try.prog 97 a97 := okf Try.func97 (by kernel_rfl)
def c98_0 : AC := .keep [3] (s [m 39 3,m 2 39] .ret)
def c98_1 : AC := .keep [0,3,5] (s [m 28 0,m 29 0,o 30 (.nilCheck t29),p 31 2 30,o 32 (.ld .bool t31),m 33 32,w 34 33 (.mov t5),w 35 33 (.not t34),o 36 (.pick t33 tt t35),o 37 (.nilCheck t28),p 38 2 37,e (.st 1 t38 t36)] c98_0)
def c98_2 : AC := .keep [0,3,4,5] (s [m 20 0,o 21 (.nilCheck t20),p 22 1 21,o 23 (.ld (.int .i64) t22),m 24 4,o 25 (.ibin .add .i64 t23 t24),o 26 (.nilCheck t20),p 27 1 26,e (.st 1 t27 t25)] c98_1)
def c98_3 : AC := .keep [0] (.seq (.draw [(m 7 0,[]),(o 8 (.nilCheck t7),[]),(p 9 0 8,[]),(o 10 (.ld .other t9),[]),(m 11 0,[]),(o 12 (.nilCheck t11),[]),(p 13 1 12,[]),(o 14 (.ld (.int .i64) t13),[]),(o 15 (.sliceL 1 t10 (some t14) none none),[]),(f 16 81 [t15] .other,[]),(m 6 16,[]),(g 17 0 (some (.int .u64)) 6,[]),(g 18 1 (some (.int .i64)) 6,[]),(g 19 2 (some .bool) 6,[]),(m 3 17,[]),(m 4 18,[]),(m 5 19,[])]) c98_2)
def a98 : AFunc := ⟨40,[(2,none)],(s [o 2 (.mov (u 0))] c98_3)⟩
theorem ok98 : FnOk Try.prog 98 a98 := okf Try.func98 (by kernel_rfl)
def c99_0 : AC := .keep [3] (s [m 39 3,m 2 39] .ret)
def c99_1 : AC := .keep [0,3,5] (s [m 28 0,m 29 0,o 30 (.nilCheck t29),p 31 2 30,o 32 (.ld .bool t31),m 33 32,w 34 33 (.mov t5),w 35 33 (.not t34),o 36 (.pick t33 tt t35),o 37 (.nilCheck t28),p 38 2 37,e (.st 1 t38 t36)] c99_0)
def c99_2 : AC := .keep [0,3,4,5] (s [m 20 0,o 21 (.nilCheck t20),p 22 1 21,o 23 (.ld (.int .i64) t22),m 24 4,o 25 (.ibin .add .i64 t23 t24),o 26 (.nilCheck t20),p 27 1 26,e (.st 1 t27 t25)] c99_1)
def c99_3 : AC := .keep [0] (.seq (.draw [(m 7 0,[]),(o 8 (.nilCheck t7),[]),(p 9 0 8,[]),(o 10 (.ld .other t9),[]),(m 11 0,[]),(o 12 (.nilCheck t11),[]),(p 13 1 12,[]),(o 14 (.ld (.int .i64) t13),[]),(o 15 (.sliceL 1 t10 (some t14) none none),[]),(f 16 80 [t15] .other,[]),(m 6 16,[]),(g 17 0 (some .str) 6,[]),(g 18 1 (some (.int .i64)) 6,[]),(g 19 2 (some .bool) 6,[]),(m 3 17,[]),(m 4 18,[]),(m 5 19,[])]) c99_2)
def a99 : AFunc := ⟨40,[(2,none)],(s [o 2 (.mov (.const (.str [])))] c99_3)⟩
theorem ok99 : FnOk Try.prog 99 a99 := okf Try.func99 (by kernel_rfl)
def a100 : AFunc := ⟨13,[(2,(some (none,3)))],(s [o 2 (.alloc [I 0,.nils,.nils])] (s [m 3 0,f 4 51 [t3,(i 1099511627776)] (.int .i64),m 5 0,f 6 50 [t5] .str,o 7 (.toBytes t6),m 8 0,m 9 0,o 10 (.makeFunc (.func 104) [t9] []),f 11 103 [t8,(i 64),t10] .other,o 12 (.build [I 0,.nils,.nils] [(0,(1,t4)),(1,(1,t7)),(2,(1,t11))]),e (.st 3 t2 t12)] .ret))⟩
theorem ok100 : FnOk Try.prog 100 a100 := okf Try.func100 (by kernel_rfl)
def c101_0 : AC := lk [0,2,7,10,11] (s [o 12 (.ibin .lss .i64 t11 t10)] (.seq (.cond t12 .skip (.exit 0)) (.seq (.block 1 (.seq (s [m 13 0,o 14 (.nilCheck t13),p 15 1 14,o 16 (.ld .bool t15)] (.cond t16 (s [o 6 (.mov (.const .nils))] .ret) .skip)) (.ops [m 17 7,m 18 2,⟨(some 19),none,(.call (.val t18) [] .other)⟩,o 20 (.buildSlice 1 1 [.nils] [(0,(1,t19))]),o 21 (.append 1 24 t17 t20),m 7 21]))) (.ops [o 22 (.ibin .add .i64 t11 (i 1)),m 11 22]))))
def c101_1 : AC := .keep [7] (s [m 23 7,m 6 23] .ret)
def a101 : AFunc := ⟨24,[(6,none)],(s [o 6 (.mov (.const .nils))] (s [o 7 (.mov (.const .nils))] (.seq (s [m 8 0,m 9 1,f 10 51 [t8,t9] (.int .i64),o 11 (.mov (i 0))] (.block 0 c101_0)) c101_1)))⟩
theorem ok101 : FnOk Try.prog 101 a101 := okf Try.func101 (by kernel_rfl)
def a102 : AFunc := ⟨5,[(1,none)],(s [o 1 (.mov (.const .nils))] (s [o 2 (.ld .other t0),f 3 50 [t2] .str,o 4 (.toBytes t3),m 1 4] .ret))⟩
theorem ok102 : FnOk Try.prog 102 a102 := okf Try.func102 (by kernel_rfl)
def c103_0 : AC := lk [0,2,7,10,11] (s [o 12 (.ibin .lss .i64 t11 t10)] (.seq (.cond t12 .skip (.exit 0)) (.seq (.block 1 (.seq (s [m 13 0,o 14 (.nilCheck t13),p 15 1 14,o 16 (.ld .bool t15)] (.cond t16 (s [o 6 (.mov (.const .nils))] .ret) .skip)) (.ops [m 17 7,m 18 2,⟨(some 19),none,(.call (.val t18) [] .other)⟩,o 20 (.buildSlice 32 1 D [(0,(32,t19))]),o 21 (.append 32 32 t17 t20),m 7 21]))) (.ops [o 22 (.ibin .add .i64 t11 (i 1)),m 11 22]))))
def c103_1 : AC := .keep [7] (s [m 23 7,m 6 23] .ret)
def a103 : AFunc := ⟨24,[(6,none)],(s [o 6 (.mov (.const .nils))] (s [o 7 (.mov (.const .nils))] (.seq (s [m 8 0,m 9 1,f 10 51 [t8,t9] (.int .i64),o 11 (.mov (i 0))] (.block 0 c103_0)) c103_1)))⟩
theorem ok103 : FnOk Try.prog 103 a103 := okf Try.func103 (by kernel_rfl)
def a104 : AFunc := ⟨16,[(2,(some (none,32)))],(s [o 2 (.alloc D)] (.seq (.draw [(o 4 (.sliceA 32 1 t2 none none),[]),(m 5 0,[]),(o 6 (.nilCheck t5),[]),(p 7 0 6,[]),(o 8 (.ld .other t7),[]),(o 9 (.copyL 1 t4 t8),[]),(m 3 9,[])]) (s [m 10 0,m 11 3,m 12 3,o 13 (.ibin .eql .i64 t12 (i 32)),f 14 79 [t10,t11,t13] .bool] (s [o 15 (.ldA 32 t2),e (.st 32 t2 t15)] .ret))))⟩
theorem ok104 : FnOk Try.prog 104 a104 := okf Try.func104 (by kernel_rfl)
def c105_0 : AC := .keep [0,2,3,15] (.cond t15 (s [m 16 0,o 17 (.nilCheck t16),p 18 1 17,e (.st 1 t18 tt)] (s [o 19 (.ldA 32 t3),e (.st 32 t2 t19)] .ret)) .skip)
def c105_1 : AC := .keep [0,2,3] (s [m 27 0,m 28 0,o 29 (.nilCheck t28),p 30 0 29,o 31 (.ld .str t30),o 32 (.sliceS t31 (some (i 32)) none),o 33 (.nilCheck t27),p 34 0 33,e (.st 1 t34 t32)] (s [o 35 (.ldA 32 t3),e (.st 32 t2 t35)] .ret))
def c105_2 : AC := .keep [0,2,3] (.seq (.draw [(o 20 (.sliceA 32 1 t3 none none),[]),(m 21 0,[]),(o 22 (.nilCheck t21),[]),(p 23 0 22,[]),(o 24 (.ld .str t23),[]),(o 25 (.sliceS t24 none (some (i 32))),[]),(o 26 (.copyL 1 t20 t25),[])]) c105_1)
def c105_3 : AC := .keep [0,2,3] (.seq (s [m 4 0,o 5 (.nilCheck t4),p 6 1 5,o 7 (.ld .bool t6),m 8 7,w 9 8 (.mov t0),w 10 8 (.nilCheck t9),w 11 8 (.fieldPtr 0 t10),w 12 8 (.ld .str t11),w 13 8 (.lenS t12),w 14 8 (.ibin .lss .i64 t13 (i 32)),o 15 (.pick t8 tt t14)] c105_0) c105_2)
def c105_4 : AC := .keep [0,2] (s [o 3 (.alloc D)] c105_3)
def a105 : AFunc := ⟨36,[(2,(some (none,32)))],(s [o 2 (.alloc D)] c105_4)⟩
theorem ok105 : FnOk Try.prog 105 a105 := okf Try.func105 (by kernel_rfl)
def table : FuncId → Option AFunc
 | 7 => some a7
 | 11 => some a11
 | 12 => some a12
 | 13 => some a13
 | 14 => some a14
 | 15 => some a15
 | 16 => some a16
 | 17 => some a17
 | 18 => some a18
 | 19 => some a19
 | 20 => some a20
 | 21 => some a21
 | 22 => some a22
 | 23 => some a23
 | 24 => some a24
 | 25 => some a25
 | 26 => some a26
 | 27 => some a27
 | 28 => some a28
 | 29 => some a29
 | 30 => some a30
 | 31 => some a31
 | 32 => some a32
 | 33 => some a33
 | 34 => some a34
 | 35 => some a35
 | 36 => some a36
 | 37 => some a37
 | 38 => some a38
 | 39 => some a39
 | 40 => some a40
 | 41 => some a41
 | 42 => some a42
 | 43 => some a43
 | 44 => some a44
 | 45 => some a45
 | 46 => some a46
 | 47 => some a47
 | 48 => some a48
 | 49 => some a49
 | 50 => some a50
 | 51 => some a51
 | 52 => some a52
 | 53 => some a53
 | 54 => some a54
 | 55 => some a55
 | 56 => some a56
 | 57 => some a57
 | 58 => some a58
 | 59 => some a59
 | 60 => some a60
 | 61 => some a61
 | 62 => some a62
 | 63 => some a63
 | 64 => some a64
 | 65 => some a65
 | 66 => some a66
 | 67 => some a67
 | 68 => some a68
 | 69 => some a69
 | 70 => some a70
 | 71 => some a71
 | 72 => some a72
 | 73 => some a73
 | 74 => some a74
 | 75 => some a75
 | 76 => some a76
 | 77 => some a77
 | 78 => some a78
 | 79 => some a79
 | 80 => some a80
 | 81 => some a81
 | 82 => some a82
 | 83 => some a83
 | 84 => some a84
 | 85 => some a85
 | 86 => some a86
 | 87 => some a87
 | 88 => some a88
 | 89 => some a89
 | 90 => some a90
 | 91 => some a91
 | 92 => some a92
 | 93 => some a93
 | 94 => some a94
 | 95 => some a95
 | 96 => some a96
 | 97 => some a97
 | 98 => some a98
 | 99 => some a99
 | 100 => some a100
 | 101 => some a101
 | 102 => some a102
 | 103 => some a103
 | 104 => some a104
 | 105 => some a105
 | _ => none
theorem table_ok : TableOk Try.prog table := by
 intro f fn h
 unfold table at h
 split at h
 ·cases h; exact ok7
 ·cases h; exact ok11
 ·cases h; exact ok12
 ·cases h; exact ok13
 ·cases h; exact ok14
 ·cases h; exact ok15
 ·cases h; exact ok16
 ·cases h; exact ok17
 ·cases h; exact ok18
 ·cases h; exact ok19
 ·cases h; exact ok20
 ·cases h; exact ok21
 ·cases h; exact ok22
 ·cases h; exact ok23
 ·cases h; exact ok24
 ·cases h; exact ok25
 ·cases h; exact ok26
 ·cases h; exact ok27
 ·cases h; exact ok28
 ·cases h; exact ok29
 ·cases h; exact ok30
 ·cases h; exact ok31
 ·cases h; exact ok32
 ·cases h; exact ok33
 ·cases h; exact ok34
 ·cases h; exact ok35
 ·cases h; exact ok36
 ·cases h; exact ok37
 ·cases h; exact ok38
 ·cases h; exact ok39
 ·cases h; exact ok40
 ·cases h; exact ok41
 ·cases h; exact ok42
 ·cases h; exact ok43
 ·cases h; exact ok44
 ·cases h; exact ok45
 ·cases h; exact ok46
 ·cases h; exact ok47
 ·cases h; exact ok48
 ·cases h; exact ok49
 ·cases h; exact ok50
 ·cases h; exact ok51
 ·cases h; exact ok52
 ·cases h; exact ok53
 ·cases h; exact ok54
 ·cases h; exact ok55
 ·cases h; exact ok56
 ·cases h; exact ok57
 ·cases h; exact ok58
 ·cases h; exact ok59
 ·cases h; exact ok60
 ·cases h; exact ok61
 ·cases h; exact ok62
 ·cases h; exact ok63
 ·cases h; exact ok64
 ·cases h; exact ok65
 ·cases h; exact ok66
 ·cases h; exact ok67
 ·cases h; exact ok68
 ·cases h; exact ok69
 ·cases h; exact ok70
 ·cases h; exact ok71
 ·cases h; exact ok72
 ·cases h; exact ok73
 ·cases h; exact ok74
 ·cases h; exact ok75
 ·cases h; exact ok76
 ·cases h; exact ok77
 ·cases h; exact ok78
 ·cases h; exact ok79
 ·cases h; exact ok80
 ·cases h; exact ok81
 ·cases h; exact ok82
 ·cases h; exact ok83
 ·cases h; exact ok84
 ·cases h; exact ok85
 ·cases h; exact ok86
 ·cases h; exact ok87
 ·cases h; exact ok88
 ·cases h; exact ok89
 ·cases h; exact ok90
 ·cases h; exact ok91
 ·cases h; exact ok92
 ·cases h; exact ok93
 ·cases h; exact ok94
 ·cases h; exact ok95
 ·cases h; exact ok96
 ·cases h; exact ok97
 ·cases h; exact ok98
 ·cases h; exact ok99
 ·cases h; exact ok100
 ·cases h; exact ok101
 ·cases h; exact ok102
 ·cases h; exact ok103
 ·cases h; exact ok104
 ·cases h; exact ok105
 ·cases h
end
abbrev Cl (B : Base) : CallK := ACall B table
theorem kp {B : Base} {cl : CallK} {lp : LoopK} {l : List Nat} {a : AC} {v : Env} {H : Heap} {Q : KQ} {P : Prop} (e : awC B cl lp a (keepEnv l v) H Q = P) (h : P) : awC B cl lp (.keep l a) v H Q := awC_keep.2 (Eq.mpr e h)
abbrev z32 : List AV := [(.int .u8 0),(.int .u8 0),(.int .u8 0),(.int .u8 0),(.int .u8 0),(.int .u8 0),(.int .u8 0),(.int .u8 0),(.int .u8 0),(.int .u8 0),(.int .u8 0),(.int .u8 0),(.int .u8 0),(.int .u8 0),(.int .u8 0),(.int .u8 0),(.int .u8 0),(.int .u8 0),(.int .u8 0),(.int .u8 0),(.int .u8 0),(.int .u8 0),(.int .u8 0),(.int .u8 0),(.int .u8 0),(.int .u8 0),(.int .u8 0),(.int .u8 0),(.int .u8 0),(.int .u8 0),(.int .u8 0),(.int .u8 0)]
abbrev p32 : List (Nat × Ty) := [(0,(.int .u8)),(1,(.int .u8)),(2,(.int .u8)),(3,(.int .u8)),(4,(.int .u8)),(5,(.int .u8)),(6,(.int .u8)),(7,(.int .u8)),(8,(.int .u8)),(9,(.int .u8)),(10,(.int .u8)),(11,(.int .u8)),(12,(.int .u8)),(13,(.int .u8)),(14,(.int .u8)),(15,(.int .u8)),(16,(.int .u8)),(17,(.int .u8)),(18,(.int .u8)),(19,(.int .u8)),(20,(.int .u8)),(21,(.int .u8)),(22,(.int .u8)),(23,(.int .u8)),(24,(.int .u8)),(25,(.int .u8)),(26,(.int .u8)),(27,(.int .u8)),(28,(.int .u8)),(29,(.int .u8)),(30,(.int .u8)),(31,(.int .u8))]
abbrev fi (B : Base) (H : Heap) (l : List AV) (P : Nat → CallK → Prop) : Prop := ∀ n cl,n = H.length → cl = Cl B → LowH n H → LowL n l → P n cl
abbrev Po : Type := AV → Heap → Prop
theorem fin {B : Base} {f : FuncId} {fn : AFunc} {l : List AV} {H : Heap} {Q : Po} {P : Nat → CallK → Prop} (ht : table f = some fn) (h : ∀ n cl,n = H.length → cl = Cl B → LowH n H → LowL n l → P n cl) (e : fnK B (Cl B) (ALoop H.length) fn l H (tidyK H.length Q) = P H.length (Cl B)) : Cl B f l H Q := ACall.intro ht fun h1 h2 => Eq.mpr e (h _ _ rfl rfl h1 h2)
abbrev oF (i : Nat) (x : AV) : AOp := .fieldPtr i (.const x)
abbrev oS (i : Nat) (x v : AV) : AOp := .st i (.const x) (.const v)
abbrev oN (x : AV) : AOp := .nilCheck (.const x)
abbrev oX (i : Nat) (t : Option Ty) (x : AV) : AOp := .extract t i (.const x)
abbrev oI (i : Nat) (x v : AV) : AOp := .indexPtr i (.const x) (.const v)
abbrev oA (i k : Nat) (x v : AV) : AOp := .append i k (.const x) (.const v)
abbrev ap (B : Base) (H : Heap) (o : AOp) (K : AV → Heap → Prop) : Prop := aop B E0 H K o
abbrev kt (B : Base) (cl : CallK) (n : Nat) (a : AFunc) (c : AC) (Q : Po) : KQ := AExit.thenK (fun e h => awC B cl (ALoop n) c e h (fnQ B a (tidyK n Q))) (fnQ B a (tidyK n Q))
abbrev jw (B : Base) (cl : CallK) (n : Nat) (c : AC) (v : Env) (H : Heap) (k : KQ) : Prop := awC B cl (ALoop n) c v H k
abbrev jn (B : Base) (cl : CallK) (n : Nat) (a : AFunc) (c : AC) (v : Env) (H : Heap) (Q : AV → Heap → Prop) : Prop := awC B cl (ALoop n) c v H (fnQ B a (tidyK n Q))
def aopv (B : Base) (v : Env) (H : Heap) (K : AV → Heap → Prop) (o : AOp) : Prop := aop B v H K o
theorem aop_w {B : Base} {v : Env} {H : Heap} {K : AV → Heap → Prop} {o : AOp} : aop B v H K o = wait (aopv B v H K o) := (wait_eq _).symm
end Go.Am
