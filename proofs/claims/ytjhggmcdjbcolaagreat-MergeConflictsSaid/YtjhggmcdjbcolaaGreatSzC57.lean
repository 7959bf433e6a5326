/-
The kernel runs the executor over the functions that chapter 57 reaches, and finds the trees.
-/
import Derived.Test.YtjhggmcdjbcolaaGreatSzC57P0
import Derived.Test.YtjhggmcdjbcolaaGreatSzC57P1
import Derived.Test.YtjhggmcdjbcolaaGreatSzC57P2
import Derived.Test.YtjhggmcdjbcolaaGreatSzC57P3
import Derived.Test.YtjhggmcdjbcolaaGreatSzC57P4
import Derived.Test.YtjhggmcdjbcolaaGreatSzC57P5
set_option linter.unusedVariables false
set_option linter.unusedSimpArgs false
set_option linter.unusedSectionVars false
namespace Go.SX.T57
open Go.SX Go.Proofs
theorem tyOK:TyOK Tryz.prog env.ti:=tyOK_of (tab:=tyTab) (by kernel_rfl)
theorem eqOK:∀ t,t∈env.eqt→EqTy Tryz.prog env.ti t:=by
 intro t ht
 have h:(env.eqt.all (eqB Tryz.prog env.ti))=true:=by kernel_rfl
 exact eqB_ok (List.all_eq_true.1 h t ht)
theorem mixed:Tryz.prog.follows .mixedOrders=true:=by kernel_rfl
theorem part0:∀ i,i∈[0,1,2,3,4,5,6,7,8,9,10,11,12,13,14,15,16,17,18,19]→okSig env tree i=true:=by
 intro i hi
 simp only [List.mem_cons,List.not_mem_nil,or_false] at hi
 rcases hi with rfl | rfl | rfl | rfl | rfl | rfl | rfl | rfl | rfl | rfl | rfl | rfl | rfl | rfl | rfl | rfl | rfl | rfl | rfl | rfl
 · exact ok0
 · exact ok1
 · exact ok2
 · exact ok3
 · exact ok4
 · exact ok5
 · exact ok6
 · exact ok7
 · exact ok8
 · exact ok9
 · exact ok10
 · exact ok11
 · exact ok12
 · exact ok13
 · exact ok14
 · exact ok15
 · exact ok16
 · exact ok17
 · exact ok18
 · exact ok19
theorem part20:∀ i,i∈[20,21,22,23,24,25,26,28,29,30,31,32,33,34,35,36,37,38,39,40]→okSig env tree i=true:=by
 intro i hi
 simp only [List.mem_cons,List.not_mem_nil,or_false] at hi
 rcases hi with rfl | rfl | rfl | rfl | rfl | rfl | rfl | rfl | rfl | rfl | rfl | rfl | rfl | rfl | rfl | rfl | rfl | rfl | rfl | rfl
 · exact ok20
 · exact ok21
 · exact ok22
 · exact ok23
 · exact ok24
 · exact ok25
 · exact ok26
 · exact ok28
 · exact ok29
 · exact ok30
 · exact ok31
 · exact ok32
 · exact ok33
 · exact ok34
 · exact ok35
 · exact ok36
 · exact ok37
 · exact ok38
 · exact ok39
 · exact ok40
theorem part40:∀ i,i∈[41,42,43,44,45,46,47,48,49,50,51,52,53,54,55,56,57,58,59,60]→okSig env tree i=true:=by
 intro i hi
 simp only [List.mem_cons,List.not_mem_nil,or_false] at hi
 rcases hi with rfl | rfl | rfl | rfl | rfl | rfl | rfl | rfl | rfl | rfl | rfl | rfl | rfl | rfl | rfl | rfl | rfl | rfl | rfl | rfl
 · exact ok41
 · exact ok42
 · exact ok43
 · exact ok44
 · exact ok45
 · exact ok46
 · exact ok47
 · exact ok48
 · exact ok49
 · exact ok50
 · exact ok51
 · exact ok52
 · exact ok53
 · exact ok54
 · exact ok55
 · exact ok56
 · exact ok57
 · exact ok58
 · exact ok59
 · exact ok60
theorem part60:∀ i,i∈[61,62,63,64,65,66,67,68,69,70,71,72,73,74,75,76,77,78,79,80]→okSig env tree i=true:=by
 intro i hi
 simp only [List.mem_cons,List.not_mem_nil,or_false] at hi
 rcases hi with rfl | rfl | rfl | rfl | rfl | rfl | rfl | rfl | rfl | rfl | rfl | rfl | rfl | rfl | rfl | rfl | rfl | rfl | rfl | rfl
 · exact ok61
 · exact ok62
 · exact ok63
 · exact ok64
 · exact ok65
 · exact ok66
 · exact ok67
 · exact ok68
 · exact ok69
 · exact ok70
 · exact ok71
 · exact ok72
 · exact ok73
 · exact ok74
 · exact ok75
 · exact ok76
 · exact ok77
 · exact ok78
 · exact ok79
 · exact ok80
theorem part80:∀ i,i∈[81,82,83,84,85,86,87,88,90,91,92,95,96,97,98,99,100,101,102,103]→okSig env tree i=true:=by
 intro i hi
 simp only [List.mem_cons,List.not_mem_nil,or_false] at hi
 rcases hi with rfl | rfl | rfl | rfl | rfl | rfl | rfl | rfl | rfl | rfl | rfl | rfl | rfl | rfl | rfl | rfl | rfl | rfl | rfl | rfl
 · exact ok81
 · exact ok82
 · exact ok83
 · exact ok84
 · exact ok85
 · exact ok86
 · exact ok87
 · exact ok88
 · exact ok90
 · exact ok91
 · exact ok92
 · exact ok95
 · exact ok96
 · exact ok97
 · exact ok98
 · exact ok99
 · exact ok100
 · exact ok101
 · exact ok102
 · exact ok103
theorem part100:∀ i,i∈[106,107,108,109,110,111,112,113,114,115,116,117,118,119,121,122,123,124,125,126]→okSig env tree i=true:=by
 intro i hi
 simp only [List.mem_cons,List.not_mem_nil,or_false] at hi
 rcases hi with rfl | rfl | rfl | rfl | rfl | rfl | rfl | rfl | rfl | rfl | rfl | rfl | rfl | rfl | rfl | rfl | rfl | rfl | rfl | rfl
 · exact ok106
 · exact ok107
 · exact ok108
 · exact ok109
 · exact ok110
 · exact ok111
 · exact ok112
 · exact ok113
 · exact ok114
 · exact ok115
 · exact ok116
 · exact ok117
 · exact ok118
 · exact ok119
 · exact ok121
 · exact ok122
 · exact ok123
 · exact ok124
 · exact ok125
 · exact ok126
theorem part120:∀ i,i∈[127,128,129,130,131,132,133,134,135,136,137,138,139,140,141,142,143,144,145,146]→okSig env tree i=true:=by
 intro i hi
 simp only [List.mem_cons,List.not_mem_nil,or_false] at hi
 rcases hi with rfl | rfl | rfl | rfl | rfl | rfl | rfl | rfl | rfl | rfl | rfl | rfl | rfl | rfl | rfl | rfl | rfl | rfl | rfl | rfl
 · exact ok127
 · exact ok128
 · exact ok129
 · exact ok130
 · exact ok131
 · exact ok132
 · exact ok133
 · exact ok134
 · exact ok135
 · exact ok136
 · exact ok137
 · exact ok138
 · exact ok139
 · exact ok140
 · exact ok141
 · exact ok142
 · exact ok143
 · exact ok144
 · exact ok145
 · exact ok146
theorem part140:∀ i,i∈[147,148,149,150,151,152,153,154,155,156,157,158,159,160,161,162,163,164,165,166]→okSig env tree i=true:=by
 intro i hi
 simp only [List.mem_cons,List.not_mem_nil,or_false] at hi
 rcases hi with rfl | rfl | rfl | rfl | rfl | rfl | rfl | rfl | rfl | rfl | rfl | rfl | rfl | rfl | rfl | rfl | rfl | rfl | rfl | rfl
 · exact ok147
 · exact ok148
 · exact ok149
 · exact ok150
 · exact ok151
 · exact ok152
 · exact ok153
 · exact ok154
 · exact ok155
 · exact ok156
 · exact ok157
 · exact ok158
 · exact ok159
 · exact ok160
 · exact ok161
 · exact ok162
 · exact ok163
 · exact ok164
 · exact ok165
 · exact ok166
theorem part160:∀ i,i∈[167,168,169,170,171,172,173,174,175,176,177,178,179,180,181,182,183,184,185,186]→okSig env tree i=true:=by
 intro i hi
 simp only [List.mem_cons,List.not_mem_nil,or_false] at hi
 rcases hi with rfl | rfl | rfl | rfl | rfl | rfl | rfl | rfl | rfl | rfl | rfl | rfl | rfl | rfl | rfl | rfl | rfl | rfl | rfl | rfl
 · exact ok167
 · exact ok168
 · exact ok169
 · exact ok170
 · exact ok171
 · exact ok172
 · exact ok173
 · exact ok174
 · exact ok175
 · exact ok176
 · exact ok177
 · exact ok178
 · exact ok179
 · exact ok180
 · exact ok181
 · exact ok182
 · exact ok183
 · exact ok184
 · exact ok185
 · exact ok186
theorem part180:∀ i,i∈[187,188,189,190,191,192,193,194,195,196,197,198,199,200,201,202,203,204,205,206]→okSig env tree i=true:=by
 intro i hi
 simp only [List.mem_cons,List.not_mem_nil,or_false] at hi
 rcases hi with rfl | rfl | rfl | rfl | rfl | rfl | rfl | rfl | rfl | rfl | rfl | rfl | rfl | rfl | rfl | rfl | rfl | rfl | rfl | rfl
 · exact ok187
 · exact ok188
 · exact ok189
 · exact ok190
 · exact ok191
 · exact ok192
 · exact ok193
 · exact ok194
 · exact ok195
 · exact ok196
 · exact ok197
 · exact ok198
 · exact ok199
 · exact ok200
 · exact ok201
 · exact ok202
 · exact ok203
 · exact ok204
 · exact ok205
 · exact ok206
theorem part200:∀ i,i∈[207,208,209,210,211,212,213,214,215,216,217,218,219,220,221,222,223,224,225,226]→okSig env tree i=true:=by
 intro i hi
 simp only [List.mem_cons,List.not_mem_nil,or_false] at hi
 rcases hi with rfl | rfl | rfl | rfl | rfl | rfl | rfl | rfl | rfl | rfl | rfl | rfl | rfl | rfl | rfl | rfl | rfl | rfl | rfl | rfl
 · exact ok207
 · exact ok208
 · exact ok209
 · exact ok210
 · exact ok211
 · exact ok212
 · exact ok213
 · exact ok214
 · exact ok215
 · exact ok216
 · exact ok217
 · exact ok218
 · exact ok219
 · exact ok220
 · exact ok221
 · exact ok222
 · exact ok223
 · exact ok224
 · exact ok225
 · exact ok226
theorem part220:∀ i,i∈[227,228,229,230,231,232,233,234,235,236,237,238,239,240,241,242,243,244,245,246]→okSig env tree i=true:=by
 intro i hi
 simp only [List.mem_cons,List.not_mem_nil,or_false] at hi
 rcases hi with rfl | rfl | rfl | rfl | rfl | rfl | rfl | rfl | rfl | rfl | rfl | rfl | rfl | rfl | rfl | rfl | rfl | rfl | rfl | rfl
 · exact ok227
 · exact ok228
 · exact ok229
 · exact ok230
 · exact ok231
 · exact ok232
 · exact ok233
 · exact ok234
 · exact ok235
 · exact ok236
 · exact ok237
 · exact ok238
 · exact ok239
 · exact ok240
 · exact ok241
 · exact ok242
 · exact ok243
 · exact ok244
 · exact ok245
 · exact ok246
theorem part240:∀ i,i∈[247,248,249,250,251,252,253,254]→okSig env tree i=true:=by
 intro i hi
 simp only [List.mem_cons,List.not_mem_nil,or_false] at hi
 rcases hi with rfl | rfl | rfl | rfl | rfl | rfl | rfl | rfl
 · exact ok247
 · exact ok248
 · exact ok249
 · exact ok250
 · exact ok251
 · exact ok252
 · exact ok253
 · exact ok254
theorem allOK:∀ i,i < 255→i≠27→i≠89→i≠93→i≠104→i≠105→i≠120→i≠94→ okSig env tree i=true:=by
 intro i hi h27 h89 h93 h104 h105 h120 h94
 have hm:((List.range 255).all fun i=>[27,89,93,104,105,120,94].contains i || [0,1,2,3,4,5,6,7,8,9,10,11,12,13,14,15,16,17,18,19].contains i || [20,21,22,23,24,25,26,28,29,30,31,32,33,34,35,36,37,38,39,40].contains i || [41,42,43,44,45,46,47,48,49,50,51,52,53,54,55,56,57,58,59,60].contains i || [61,62,63,64,65,66,67,68,69,70,71,72,73,74,75,76,77,78,79,80].contains i || [81,82,83,84,85,86,87,88,90,91,92,95,96,97,98,99,100,101,102,103].contains i || [106,107,108,109,110,111,112,113,114,115,116,117,118,119,121,122,123,124,125,126].contains i || [127,128,129,130,131,132,133,134,135,136,137,138,139,140,141,142,143,144,145,146].contains i || [147,148,149,150,151,152,153,154,155,156,157,158,159,160,161,162,163,164,165,166].contains i || [167,168,169,170,171,172,173,174,175,176,177,178,179,180,181,182,183,184,185,186].contains i || [187,188,189,190,191,192,193,194,195,196,197,198,199,200,201,202,203,204,205,206].contains i || [207,208,209,210,211,212,213,214,215,216,217,218,219,220,221,222,223,224,225,226].contains i || [227,228,229,230,231,232,233,234,235,236,237,238,239,240,241,242,243,244,245,246].contains i || [247,248,249,250,251,252,253,254].contains i)=true:=by kernel_rfl
 have hm:=List.all_eq_true.1 hm i (List.mem_range.2 hi)
 simp only [Bool.or_eq_true,List.contains_iff_mem] at hm
 rcases hm with ((((((((((((h | h) | h) | h) | h) | h) | h) | h) | h) | h) | h) | h) | h) | h
 · simp only [List.mem_cons,List.not_mem_nil,or_false] at h
   rcases h with rfl | rfl | rfl | rfl | rfl | rfl | rfl
   · exact absurd rfl h27
   · exact absurd rfl h89
   · exact absurd rfl h93
   · exact absurd rfl h104
   · exact absurd rfl h105
   · exact absurd rfl h120
   · exact absurd rfl h94
 · exact part0 i h
 · exact part20 i h
 · exact part40 i h
 · exact part60 i h
 · exact part80 i h
 · exact part100 i h
 · exact part120 i h
 · exact part140 i h
 · exact part160 i h
 · exact part180 i h
 · exact part200 i h
 · exact part220 i h
 · exact part240 i h
end Go.SX.T57
